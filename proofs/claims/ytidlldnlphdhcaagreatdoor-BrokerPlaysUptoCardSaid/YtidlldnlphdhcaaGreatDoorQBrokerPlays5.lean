/-
  Our texts, packed by program.
-/
import Derived.Test.YtidlldnlphdhcaaGreatDoorQBrokerPlays4
import Derived.Laws.RangeString
set_option linter.unusedSimpArgs false
set_option linter.unusedVariables false
set_option maxHeartbeats 16000000
set_option maxRecDepth 100000
set_option synthInstance.maxSize 100000
set_option synthInstance.maxHeartbeats 400000
namespace Go.Proofs.YtidlldnlphdhcaaGreatDoor
open Go.H
open Go.Proofs.Tryz
section
open Go.H Go.Proofs
variable {h h0:Heap} {L L' L1 L2 L3 R:List Asn} {Q:Value→Heap→Prop}
def B21(id:Int)(ps:List PkO)(l:List (Int×Tup tC)):List u5:=(l.filter fun x=>decide (x.2.1=id)).flatMap fun x=>ps.map fun p=>⟨x.1,p,false⟩
theorem B4x{id:Int}{l:List Z7}:(l.map A0g).filter (fun x=>decide (x.2.1=id))=(l.filter fun x=>decide (x.aG=id)).map A0g:=by
 rw[S6];rfl
theorem C5D{id:Int}{ps:List PkO}{l:List Z7}{done:List (Int×Tup tC)}(hp:done.Perm (l.map A0g))(hu:(l.filter fun x=>decide (x.aG=id)).length≤1):B21 id ps done=A2v l id ps:=by
 unfold B21 A2v
 have h1:=hp.filter fun x=>decide (x.2.1=id)
 rw[B4x] at h1
 generalize l.filter (fun x=>decide (x.aG=id))=k at hu h1
 match k,hu with
 |[],_=>rw[List.Perm.eq_nil h1];rfl
 |[x],_=>
  rw[B5,I3,List.perm_singleton] at h1
  rw[h1];rfl
theorem C4T{id:Int}{l:List Z7}{done rest:List (Int×Tup tC)}{q:Int×Tup tC}(hp:(done++q::rest).Perm (l.map A0g))(hu:(l.filter fun x=>decide (x.aG=id)).length≤1)(hq:q.2.1=id):done.filter (fun x=>decide (x.2.1=id))=[]:=by
 have h1:=(hp.filter fun x=>decide (x.2.1=id)).length_eq
 rw[B4x,C0,F4,G9 (by simpa using hq),B3,B7] at h1
 exact L8.1 (by omega)
def C5M(c:Bool)(A:Asn)(L:List Asn):List Asn:=match c with
 |true=>A::L
 |false=>L
theorem B70{c:Bool}{A:Asn}{L:List Asn}:Sub (C5M c A L) L:=by
 cases c
 ·exact Sub.rfl
 ·exact Sub.drop Sub.rfl
theorem C8d{t b:Nat}{full:Bool}{os os':List u5}{ps:List MsT}{so sp:Slc}(e:os'=os)(hs:sat h (cells t #[at0 b,.bool full,.slice so.a so.len so.cap,.slice sp.a sp.len sp.cap]::W3 .u8 so os::V1 Z5 5 sp ps::R)):sat h (thA t b full os' ps::R):=by
 subst e;exact A2H.2 ⟨so,sp,hs⟩
theorem C5C{id:Int}{ps:List PkO}{os:List u5}:os++B21 id ps []=os:=C1 _
theorem A3O{t b:Nat}{full:Bool}{T:V6}{id:Int}{S:Slc}{ps:List PkO}(hu:(T.b.aB.filter fun x=>decide (x.aG=id)).length≤1)(hb:T.outs.length+ps.length≤100000000)
  (hq:At (Y3 t b full (u0 id ps T)::L2) (Q (.tuple #[])))(hx:Has L (Y3 t b full T) L1:=by repeat first|with_reducible exact V5|apply V7)(hy:Has L1 (r6 .u8 S ps) L2:=by repeat first|with_reducible exact V5|apply V7):
  FW prog 72 #[at0 t,.int .i64 id,.slice S.a S.len S.cap] L Q:=by
 refine fun h hs=>A5P (some ⟨t,0,none⟩) id S h Q ((?_:W (Y3 t b full T::r6 .u8 S ps::L2) _ _) h ((hx.then hy).s hs))
 clear hs h hx hy
 delta A4K az bn cx A1h ie ix ji km kp nn nw pu sn vi wi
 refine W9 ?_
 refine C3c (fun h R=>A04.1) ?_
 refine A7t (fun h R=>A2H.1) fun so sp=>?_
 refine W.load (v:=some ⟨b,0,none⟩) ?_
 refine W9 ?_
 refine A1F (fun h R=>A0I.1) fun p=>?_
 refine W.load (v:=some p.cm) ?_
 refine W.range fun it=>?_
 refine B0j (A:=thA t b full (T.outs++B21 id ps []) T.aT) (fun h hs=>C8d C5C hs) ?_
 refine C6V (ek:=eKI) (ev:=eVC) (r:=p.cm) (l:=T.b.aB.map A0g) (fun done _=>thA t b full (T.outs++B21 id ps done) T.aT::cells b (A6I p)::A1g p.tb T.b.last T.b.aG::j5 p.sb T.b.aH::A1k p.kb T.b.kept::C5M (done.filter fun x=>decide (x.2.1=id)).isEmpty (r6 .u8 S ps) L2) ?_ (fun done s hp K hd=>?_) (fun done q rest s hp K bh hd=>?_)
 ·show Sub _ (_::thA t b full (T.outs++B21 id ps []) T.aT::cells b (A6I p)::A1g p.tb T.b.last T.b.aG::j5 p.sb T.b.aH::A1k p.kb T.b.kept::r6 .u8 S ps::L2)
  repeat(first|with_reducible exact U3|with_reducible exact U4|refine U5 (by repeat first|with_reducible exact V5|apply V7) ?_|refine U6 ?_)
 ·refine X1 rfl (U9 (hd () _ (U9 ?_)))
  rw[C5D hp hu]
  refine At.eC (A:=A0r b T.b) (fun h hs=>A0I.2 ⟨p,hs⟩) (At.dB (A:=Y3 t b full (u0 id ps T)) (fun h hs=>A04.2 hs) (At.sub hq (Sub.cons V5 B70)) (V7 V5) V5)
 ·refine Y5 rfl ?_
  refine W.entry (x:=q.1) (y:=q.2) ?_
  refine Y8 fun iG=>?_
  refine A0u ?_
  refine W.load (v:=q.2.1) ?_
  by_cases dZ:q.2.1=id
  ·refine A1s (by simpa using dZ) ?_
   have dw:=C4T hp hu dZ
   have e0:B21 id ps done=[]:=by unfold B21;rw[dw];rfl
   have hn:=bh ()
   dsimp only at hn⊢
   have e2:(done++[q]).filter (fun x=>decide (x.2.1=id))=[q]:=by rw[F4,dw,G9 (by simpa using dZ)];rfl
   have e3:B21 id ps (done++[q])=ps.map fun p=>⟨q.1,p,false⟩:=by unfold B21;rw[e2];exact C1 _
   rw[e3,e2] at hn
   rw[e0,dw]
   refine C1I (fun h R=>A7L.1) (fun PT uB=>?_) (hx:=(by repeat first|with_reducible exact V5|apply V7:Has (_::_::_::_::_::_::_::r6 .u8 S ps::L2) _ _))
   subst uB
   refine X9 ?_
   refine Y7 (X7 (enc:=X4 .u8) (size:=26) (s:=S) (xs:=PT.map pkF)) fun hl=>?_
   rw[C0] at hl hb
   refine A9x PT.length (fun i s=>s.1=(i:Int)) (fun i _=>thA t b full (T.outs++(PT.take i).map fun z=>⟨q.1,z.2.2,false⟩) T.aT::V1 (X4 .u8) 26 S (PT.map pkF)::b8 (pkB .u8) (PT.drop i)::itA eKI eVC p.cm (T.b.aB.map A0g) it (done++[q]) rest::cells b (A6I p)::A1g p.tb T.b.last T.b.aG::j5 p.sb T.b.aH::A1k p.kb T.b.kept::L2) rfl ?_ (fun i s hi hI=>by rw[hI,hl];exact F8.2 (by omega)) (fun s hI K2 iE=>?_) (fun i s ah hI K2 jX iE=>?_)
   ·show Sub _ (thA t b full (T.outs++[]) T.aT::V1 (X4 .u8) 26 S (PT.map pkF)::b8 (pkB .u8) PT::itA eKI eVC p.cm (T.b.aB.map A0g) it (done++[q]) rest::cells b (A6I p)::A1g p.tb T.b.last T.b.aG::j5 p.sb T.b.aH::A1k p.kb T.b.kept::L2)
    repeat(first|with_reducible exact U3|with_reducible exact U4|refine U5 (by repeat first|with_reducible exact V5|apply V7) ?_|refine U6 ?_)
   ·refine U9 (iE _ _ (j1 (U9 ?_)))
    have e4:(PT.take PT.length).map (fun z:Slc×Slc×PkO=>(⟨q.1,z.2.2,false⟩:u5))=(PT.map (·.2.2)).map fun p=>⟨q.1,p,false⟩:=by rw[F5,F3];rfl
    rw[e4]
    refine At.sub hn ?_
    show Sub _ (_::_::_::_::_::_::L2)
    repeat(first|with_reducible exact U3|with_reducible exact U4|refine U5 (by repeat first|with_reducible exact V5|apply V7) ?_|refine U6 ?_)
   ·have hi:(PT.map pkF)[i]? =some (pkF PT[i]):=by simp[ah]
    refine b9 (enc:=X4 .u8) (xs:=PT.map pkF) (i:=i) (by simpa using ah) (fun a ha=>?_) (he:=hI)
    refine B2S (x:=pkF PT[i]) (v:=pkF PT[i]) ha hi ?_
    refine Y8 fun sv=>?_
    refine A0u ?_
    refine u7 (v:=pkF PT[i]) ?_
    rw[E0 ah]
    refine C3c (fun h R=>o3.1) ?_
    refine Z9 (C3r (full:=full) (os:=T.outs++(PT.take i).map fun z=>⟨q.1,z.2.2,false⟩) (ps:=T.aT) (b:=b) (o:=PT[i].2.2) (ci:=PT[i].1) (pi:=PT[i].2.1) (by rw[B3,C0,D6];omega) (At.bD ?_))
    have lv:=jX (IntKind.wrap .i64 (s.1+1),()) (by simp only[hI];rw[W6 (by omega) (by omega)];rfl)
    have e4:T.outs++(PT.take (i+1)).map (fun z:Slc×Slc×PkO=>(⟨q.1,z.2.2,false⟩:u5))=(T.outs++(PT.take i).map fun z=>⟨q.1,z.2.2,false⟩)++[⟨q.1,PT[i].2.2,false⟩]:=by
     rw[C3 ah,B8,←D7];rfl
    rw[e4] at lv
    exact U9 lv.sub
  ·refine o8 (by simpa using dZ) ?_
   refine j1 (U9 ?_)
   have e5:(done++[q]).filter (fun x=>decide (x.2.1=id))=done.filter (fun x=>decide (x.2.1=id)):=by rw[F4,G2 (by simpa using dZ),J9,C1]
   have e6:B21 id ps (done++[q])=B21 id ps done:=by unfold B21;rw[e5]
   have hn:=bh ()
   rw[e6,e5] at hn
   refine At.sub hn ?_
   repeat(first|with_reducible exact U3|with_reducible exact U4|refine U5 (by repeat first|with_reducible exact V5|apply V7) ?_|refine U6 ?_)
end
section
open Go.H Go.Proofs
variable {h h0:Heap} {L L' L1 L2 L3 R:List Asn} {Q:Value→Heap→Prop}
theorem A7F{A:List W7}{s:W7}{k:Int}{f g:W7→W7}(hn:(A.map (·.id)).Nodup)(hm:s∈A)(hk:s.id=k)(e:f s=g s):Y4 k f A=Y4 k g A:=by
 unfold Y4
 refine I2 fun x hx=>?_
 by_cases pT:x.id=k
 ·rw[if_pos pT,if_pos pT,A7b (f:=(·.id)) hn hx hm (pT.trans hk.symm)];exact e
 ·rw[if_neg pT,if_neg pT]
theorem A5a{b ob ib:Nat}{last k:Int}{A:List W7}{s:W7}{o:b7}(hn:(A.map (·.id)).Nodup)(hm:s∈A)(hk:s.id=k):∀h,sat h (v7 ob o::A0w ib s.bA::B0L b last A s ob ib::R)→sat h (A1g b last (Y4 k (Y9 o) A)::R):=fun h hs=>by
 have h1:=B5l h hs
 rw[hk,A7F (f:=fun x=>{x with out:=o,bA:=s.bA}) (g:=Y9 o) hn hm hk rfl] at h1
 exact h1
theorem C5u{b ob ib:Nat}{last k:Int}{A:List W7}{s:W7}{i:y9}(hn:(A.map (·.id)).Nodup)(hm:s∈A)(hk:s.id=k):∀h,sat h (v7 ob s.out::A0w ib i::B0L b last A s ob ib::R)→sat h (A1g b last (Y4 k (k9 i) A)::R):=fun h hs=>by
 have h1:=B5l h hs
 rw[hk,A7F (f:=fun x=>{x with out:=s.out,bA:=i}) (g:=k9 i) hn hm hk rfl] at h1
 exact h1
theorem B1p{b ob ib:Nat}{last k:Int}{A:List W7}{s:W7}(hk:s.id=k)(hq:At (v7 ob s.out::A0w ib s.bA::B0L b last A s ob ib::L3) (Q (at0 ob)))(hx:Has L (v7 ob s.out) L1:=by repeat first|with_reducible exact V5|apply V7)(hy:Has L1 (A0w ib s.bA) L2:=by repeat first|with_reducible exact V5|apply V7)(hz:Has L2 (B0L b last A s ob ib) L3:=by repeat first|with_reducible exact V5|apply V7):
  FW prog 56 #[at0 b,.int .i64 k] L Q:=by subst hk;exact C9U hq hx hy hz
theorem C9V{b ob ib:Nat}{last k:Int}{A:List W7}{s:W7}(hk:s.id=k)(hq:At (v7 ob s.out::A0w ib s.bA::B0L b last A s ob ib::L3) (Q (at0 ib)))(hx:Has L (v7 ob s.out) L1:=by repeat first|with_reducible exact V5|apply V7)(hy:Has L1 (A0w ib s.bA) L2:=by repeat first|with_reducible exact V5|apply V7)(hz:Has L2 (B0L b last A s ob ib) L3:=by repeat first|with_reducible exact V5|apply V7):
  FW prog 106 #[at0 b,.int .i64 k] L Q:=by subst hk;exact D0l hq hx hy hz
theorem C8x{i:Int}{tk rs:List Ent}{e:Ent}{rest:List Ent}(hz:tk++rs=e::rest)(he:e.1=i)(hs:(tk++rs).Pairwise fun a b=>a.1≤b.1)(h1:∀y∈tk,y.1=i)(h2:∀y∈rs.head?,y.1≠i):0<tk.length∧∀y∈rs,i<y.1:=by
 match tk,h1,hz with
 |[],_,hz=>
  rw[F0] at hz
  subst hz
  exact absurd he (h2 e (by simp))
 |y0::tk,h1,hz=>
  refine⟨by simp,?_⟩
  have h0:=h1 y0 (B6 ..)
  rw[G7,H4] at hs
  match rs,h2,hs with
  |[],_,_=>intro y hy;cases hy
  |z::rs,h2,hs=>
   have dz:=hs.1 z (G8 _ (B6 ..))
   have gJ:=h2 z (by simp)
   have hp:=(I6.1 hs.2).2.1
   rw[H4] at hp
   intro y hy
   rcases D3.1 hy with rfl|hy
   ·omega
   ·have:=hp.1 y hy;omega
theorem C4G{tk:List Ent}{y:Ent}:B9v (tk++[y])=max (B9v tk) y.2.2:=by unfold B9v;rw[List.foldl_append];rfl
theorem C6m{t b:Nat}{full:Bool}{T:V6}{m:MsT}(ht:TP h0)(ag:l8 T.b)(hb:T.outs.length≤50000000)(hm:m.1.size≤9223372036854775807)
  (hq:At (Y3 t b full (A0Q m T)::old h0::L2) (Q (.tuple #[])))(hx:Has L (Y3 t b full T) L1:=by repeat first|with_reducible exact V5|apply V7)(hy:Has L1 (old h0) L2:=by repeat first|with_reducible exact V5|apply V7):
  FW prog 43 #[at0 t,vMs m] L Q:=by
 refine fun h hs=>A8l (some ⟨t,0,none⟩) (toU m) h Q ((?_:W (Y3 t b full T::old h0::L2) _ _) h ((hx.then hy).s hs))
 clear hs h hx hy
 delta A7q bn cc cp cu cx ie ix jb ji jt ki kp nn nw pu rq ve vi vs
 refine Y8 fun x1=>?_
 refine W.load (v:=m.2.2.2.1) ?_
 refine W.cut (fun _=>Y3 t b full (A2i m T)::cells x1 (aS7 (toU m))::old h0::L2) (fun K hK=>?_) (fun _=>?_)
 ·refine A0s (fun hr=>?_) (fun hr=>?_)
  ·have e:A2i m T=C0e (B0R 64 T.b.kept (m.1,m.2.1,m.2.2.1,())).2 T:=if_pos hr
   rw[e] at hK
   refine W9 ?_
   refine A5H (fun h R=>p9) fun so sp p=>?_
   refine W.load (v:=some ⟨b,0,none⟩) ?_
   refine W9 ?_
   refine W.load ?_
   refine W.load (v:=m.1) ?_
   refine W.load (v:=m.2.1) ?_
   refine W.load (v:=m.2.2.1) ?_
   refine j2 (C8v (b:=p.kb) (K:=T.b.kept) (m:=(m.1,m.2.1,m.2.2.1,())) ht hm (At.un (U9 ?_)))
   refine At.bJ (C0e (B0R 64 T.b.kept (m.1,m.2.1,m.2.2.1,())).2 T) so sp p ?_
   exact(hK ()).sub
  ·have e:A2i m T=T:=if_neg (by rw[hr];decide)
   rw[e] at hK
   exact U9 (hK ()).sub
 have hk:=B6e (m:=m) ag
 have bC:(A5w none (T.b.aH.filter fun x=>Z8 x.2.1 m.1)).foldl (A1o m (T.b.aH.filter fun x=>Z8 x.2.1 m.1)) (A2i m T)=A0Q m T:=rfl
 rw[←hk.aH] at bC
 have iw:=hk.ok
 have gI:(A2i m T).outs.length≤50000000:=C4 hk.outs hb
 clear hk
 generalize A2i m T=T0 at*
 refine W9 ?_
 refine A5H (fun h R=>p9) fun so sp p=>?_
 refine W.load (v:=some ⟨b,0,none⟩) ?_
 refine W9 ?_
 refine W.load ?_
 refine W.load (v:=m.1) ?_
 refine Y7 (fun h R hs=>(A6L (t:=p.sb) (L:=T0.b.aH) hs).2) fun fL=>?_
 refine j2 (C37 (t:=p.sb) (E:=T0.b.aH) (n:=m.1) ht hm iw.aH (fun S=>At.un (x:=S) ?_))
 refine W.bJ T0 so sp p ?_
 have bl:∀e∈T0.b.aH.filter (fun x=>Z8 x.2.1 m.1),e∈T0.b.aH:=fun e he=>(E6.1 he).1
 have oA:(T0.b.aH.filter fun x=>Z8 x.2.1 m.1).Pairwise fun a b=>a.1≤b.1:=(C80 fL).filter _
 have ye:(T0.b.aH.filter fun x=>Z8 x.2.1 m.1).length≤10000:=C4 (D2 _ _) iw.aH
 generalize T0.b.aH.filter (fun x=>Z8 x.2.1 m.1)=M at*
 clear fL
 refine W.loop (γ:=List Ent×V6) (fun g s=>(∃done,M=done++g.1∧∀a∈done,∀y∈g.1,a.1<y.1)∧(A5w none g.1).foldl (A1o m M) g.2=A0Q m T∧l8 g.2.b∧g.2.b.aH=T0.b.aH∧g.2.outs.length+320*g.1.length≤53200000)
  (fun g s=>Y3 t b full g.2::V1 b6 3 s.1 g.1::cells x1 (aS7 (toU m))::old h0::L2) (fun g=>g.1.length) (M,T0) ⟨⟨[],rfl,by simp⟩,bC,iw,rfl,by simp only;omega⟩ ?_ ?_
 ·show Sub _ (Y3 t b full T0::V1 b6 3 S M::cells x1 (aS7 (toU m))::old h0::L2)
  repeat(first|with_reducible exact U3|with_reducible exact U4|refine U5 (by repeat first|with_reducible exact V5|apply V7) ?_|refine U6 ?_)
 rintro⟨rest,T1⟩ s ⟨⟨done,rA,fI⟩,fE,aL,iI,gg⟩ K h1 h2
 simp only at rA fI fE aL iI gg
 refine Y7 (X7 (enc:=b6) (size:=3) (s:=s.1) (xs:=rest)) fun hl=>?_
 cases rest with
 |nil=>
  refine X1 (by rw[hl];rfl) (U9 (h2 _ _ (U9 ?_)))
  have fE:T1=A0Q m T:=fE
  rw[fE]
  exact hq.sub
 |cons e rest'=>
  refine Y5 (by rw[hl];exact decide_eq_true (by simp only[B7];omega)) ?_
  refine b9 (enc:=b6) (xs:=e::rest') (i:=0) (by simp) (fun a ha=>?_)
  refine A3d (k:=0) (x:=e) (v:=e.1) ha rfl ?_
  refine C7M (X:=List Ent×List Ent) (fun z a=>z.1++z.2=e::rest'∧(∀y∈z.1,y.1=e.1)∧(∀y∈z.2.head?,y.1≠e.1)∧a.1=B9v z.1) (fun z a=>Y3 t b full T1::V1 b6 3 a.2.1 z.2::cells x1 (aS7 (toU m))::old h0::L2) (fun K2 aQ=>?_) (fun z a hz=>?_)
  ·refine C9Q (γ:=List Ent×List Ent) (fun z s=>z.1++z.2=e::rest'∧(∀y∈z.1,y.1=e.1)∧s.1=B9v z.1) (fun z s=>Y3 t b full T1::V1 b6 3 s.2.1 z.2::cells x1 (aS7 (toU m))::old h0::L2) (fun z=>z.2.length) ([],e::rest') ⟨rfl,by simp,rfl⟩ ?_ ?_
   ·show Sub _ (Y3 t b full T1::V1 b6 3 s.1 (e::rest')::cells x1 (aS7 (toU m))::old h0::L2)
    repeat(first|with_reducible exact U3|with_reducible exact U4|refine U5 (by repeat first|with_reducible exact V5|apply V7) ?_|refine U6 ?_)
   rintro⟨tk,rs⟩ s2 ⟨dz,gJ,lV⟩ K3 k1 k2
   simp only at dz gJ lV
   refine Y7 (X7 (enc:=b6) (size:=3) (s:=s2.2.1) (xs:=rs)) fun en=>?_
   cases rs with
   |nil=>exact o8 (by rw[en];rfl) (j1 (X1 rfl (U9 (k2 _ _ (aQ (tk,[]) _ ⟨dz,gJ,by simp,lV⟩).sub))))
   |cons y rs'=>
    refine A1s (by rw[en];exact decide_eq_true (by simp only[B7];omega)) ?_
    refine X9 (b9 (enc:=b6) (xs:=y::rs') (i:=0) (by simp) (fun a2 bQ=>?_))
    refine X9 (A3d (k:=0) (x:=y) (v:=y.1) bQ rfl ?_)
    refine j1 ?_
    by_cases hy:y.1=e.1
    ·refine Y5 (by simpa using hy) ?_
     refine b9 (enc:=b6) (xs:=y::rs') (i:=0) (by simp) (fun a3 hP=>?_)
     refine A3d (k:=2) (x:=y) (v:=y.2.2) hP rfl ?_
     refine C9P (enc:=b6) (xs:=y::rs') (lo:=1) (hi:=(y::rs').length) (by simp) (D9 _) (fun s'=>?_) ⟨rfl,by simp⟩ (fun c _ e=>e.symm)
     rw[F5,List.drop_one,List.tail_cons]
     have f1:∀z∈tk++[y],z.1=e.1:=fun z hz=>by
      rcases C7.1 hz with hz|hz
      ·exact gJ z hz
      ·rw[B9.1 hz];exact hy
     have f2:(if s2.1<y.2.2 then y.2.2 else s2.1)=B9v (tk++[y]):=by
      rw[C4G,←lV];split<;>omega
     have f3:tk++[y]++rs'=e::rest':=by rw[D7];exact dz
     exact U9 (k1 (tk++[y],rs') _ (Nat.lt_succ_self _) ⟨f3,f1,f2⟩).sub
    ·have f4:∀z∈(y::rs').head?,z.1≠e.1:=by simpa using hy
     exact X1 (by simpa using hy) (U9 (k2 _ _ (aQ (tk,y::rs') _ ⟨dz,gJ,f4,lV⟩).sub))
  ·obtain⟨tk,rs⟩:=z
   obtain⟨dz,gJ,lV,uM⟩:=hz
   simp only at dz gJ lV uM
   have hg:=C8x dz rfl (by rw[dz];rw[rA] at oA;exact(I6.1 oA).2.1) gJ lV
   have fy:A2L M e.1=B9v tk:=by
    rw[rA,←dz]
    refine C4x (fun y hy=>?_) gJ (fun y hy=>?_)
    ·have:=fI y hy e (B6 ..);omega
    ·have:=hg.2 y hy;omega
   have ja:(if a.1<m.2.2.1 then a.1 else m.2.2.1)=min m.2.2.1 (A2L M e.1):=by rw[fy,uM];split<;>omega
   obtain⟨s3,ai,hid⟩:=aL.live e (by rw[iI];refine bl e ?_;rw[rA];exact G8 _ (B6 ..))
   have dj:=A4c (aL.bM s3 ai) (m.1,m.2.1,min m.2.2.1 (A2L M e.1),false,e0S)
   have e9:A1o m M T1 e.1=u0 e.1 (Z1 s3.out (m.1,m.2.1,min m.2.2.1 (A2L M e.1),false,e0S)).1.2 (A0S (Y4 e.1 (Y9 (Z1 s3.out (m.1,m.2.1,min m.2.2.1 (A2L M e.1),false,e0S)).1.1) T1.b.aG) T1):=by
    unfold A1o A01
    rw[A3u aL.nd ai hid]
   have ca:=B1e (m:=m) (l:=M) T1 e.1 aL
   have xw:=congrArg List.length dz
   simp only[B3,B7] at xw gg
   have aA:∀s',At (Y3 t b full (A1o m M T1 e.1)::V1 b6 3 s' rs::cells x1 (aS7 (toU m))::old h0::L2) (K (.inl (s',()))):=fun s'=>by
    refine h1 (rs,A1o m M T1 e.1) (s',()) ?_ ⟨⟨done++tk,?_,?_⟩,?_,ca.ok,ca.aH.trans iI,?_⟩
    ·simp only[B7];have:=hg.1;omega
    ·rw[rA,←dz,D7]
    ·intro x hx y hy
     rcases C7.1 hx with hx|hx
     ·exact fI x hx y (by rw[←dz];exact G8 _ hy)
     ·rw[gJ x hx];exact hg.2 y hy
    ·rw[C2C rfl dz gJ lV] at fE
     exact fE
    ·have:=ca.outs
     have:=hg.1
     simp only
     omega
   rw[e9] at aA
   clear hq fE fI h1 h2
   refine W9 ?_
   refine A5H (fun h R=>p9) fun so sp p=>?_
   refine W.load (v:=some ⟨b,0,none⟩) ?_
   refine W9 ?_
   refine W.load (v:=some ⟨p.tb,0,none⟩) ?_
   refine W.load (v:=m.1) ?_
   refine W.load (v:=m.2.1) ?_
   refine W.load (v:=m.2.2.1) ?_
   rw[ja]
   refine A7t (fun h R=>A42 ai h R) fun ob ib=>?_
   refine A8o ?_ ?_
   ·refine j2 (B1p hid (At.un ?_))
    repeat(first|refine j1 ?_|refine X9 ?_|refine Y8 fun _=>?_|refine W.load ?_|refine B44 ?_|refine j0 ?_|(refine u7 ?_;try dsimp only)|(refine A8p ?_;try dsimp only)|refine A0u ?_|refine W.store ?_|refine W.store0 ?_|refine A4v ?_|refine A1t ?_ rfl|refine A1s rfl ?_|refine o8 rfl ?_|refine Y5 rfl ?_|refine X1 rfl ?_|refine W.inl ?_|refine W.inr ?_|refine W9 ?_|refine o8 (Go.H.nbq _) ?_|refine X1 (Go.H.nbq _) ?_|refine o8 (Go.H.nbd rfl) ?_|refine X1 (Go.H.nbd rfl) ?_)
    refine Z9 (B49 (b:=ob) (o:=s3.out) (m:=(m.1,m.2.1,min m.2.2.1 (A2L M e.1),false,e0S)) (aL.bM s3 ai) (fun S2=>At.bD (x:=(S2,(Z1 s3.out (m.1,m.2.1,min m.2.2.1 (A2L M e.1),false,e0S)).2,())) ?_))
    refine B0j (A:=A1g p.tb T1.b.last (Y4 e.1 (Y9 (Z1 s3.out (m.1,m.2.1,min m.2.2.1 (A2L M e.1),false,e0S)).1.1) T1.b.aG)) (fun h hs=>A5a aL.nd ai hid h hs) ?_
    refine W.bJ (A0S (Y4 e.1 (Y9 (Z1 s3.out (m.1,m.2.1,min m.2.2.1 (A2L M e.1),false,e0S)).1.1) T1.b.aG) T1) so sp p ?_
    refine Z9 (A3O (T:=(A0S (Y4 e.1 (Y9 (Z1 s3.out (m.1,m.2.1,min m.2.2.1 (A2L M e.1),false,e0S)).1.1) T1.b.aG) T1)) (id:=e.1) (ps:=(Z1 s3.out (m.1,m.2.1,min m.2.2.1 (A2L M e.1),false,e0S)).1.2) (aL.one e.1) (by have:=dj.2;show T1.outs.length+_≤_;omega) (At.bD ?_))
    exact U9 (aA _).sub
   ·repeat(first|refine j1 ?_|refine X9 ?_|refine Y8 fun _=>?_|refine W.load ?_|refine B44 ?_|refine j0 ?_|(refine u7 ?_;try dsimp only)|(refine A8p ?_;try dsimp only)|refine A0u ?_|refine W.store ?_|refine W.store0 ?_|refine A4v ?_|refine A1t ?_ rfl|refine A1s rfl ?_|refine o8 rfl ?_|refine Y5 rfl ?_|refine X1 rfl ?_|refine W.inl ?_|refine W.inr ?_|refine W9 ?_|refine o8 (Go.H.nbq _) ?_|refine X1 (Go.H.nbq _) ?_|refine o8 (Go.H.nbd rfl) ?_|refine X1 (Go.H.nbd rfl) ?_)
    refine j2 (B1p hid (At.un ?_))
    repeat(first|refine j1 ?_|refine X9 ?_|refine Y8 fun _=>?_|refine W.load ?_|refine B44 ?_|refine j0 ?_|(refine u7 ?_;try dsimp only)|(refine A8p ?_;try dsimp only)|refine A0u ?_|refine W.store ?_|refine W.store0 ?_|refine A4v ?_|refine A1t ?_ rfl|refine A1s rfl ?_|refine o8 rfl ?_|refine Y5 rfl ?_|refine X1 rfl ?_|refine W.inl ?_|refine W.inr ?_|refine W9 ?_|refine o8 (Go.H.nbq _) ?_|refine X1 (Go.H.nbq _) ?_|refine o8 (Go.H.nbd rfl) ?_|refine X1 (Go.H.nbd rfl) ?_)
    refine Z9 (B49 (b:=ob) (o:=s3.out) (m:=(m.1,m.2.1,min m.2.2.1 (A2L M e.1),false,e0S)) (aL.bM s3 ai) (fun S2=>At.bD (x:=(S2,(Z1 s3.out (m.1,m.2.1,min m.2.2.1 (A2L M e.1),false,e0S)).2,())) ?_))
    refine B0j (A:=A1g p.tb T1.b.last (Y4 e.1 (Y9 (Z1 s3.out (m.1,m.2.1,min m.2.2.1 (A2L M e.1),false,e0S)).1.1) T1.b.aG)) (fun h hs=>A5a aL.nd ai hid h hs) ?_
    refine W.bJ (A0S (Y4 e.1 (Y9 (Z1 s3.out (m.1,m.2.1,min m.2.2.1 (A2L M e.1),false,e0S)).1.1) T1.b.aG) T1) so sp p ?_
    refine Z9 (A3O (T:=(A0S (Y4 e.1 (Y9 (Z1 s3.out (m.1,m.2.1,min m.2.2.1 (A2L M e.1),false,e0S)).1.1) T1.b.aG) T1)) (id:=e.1) (ps:=(Z1 s3.out (m.1,m.2.1,min m.2.2.1 (A2L M e.1),false,e0S)).1.2) (aL.one e.1) (by have:=dj.2;show T1.outs.length+_≤_;omega) (At.bD ?_))
    exact U9 (aA _).sub
end
section
open Go.H Go.Proofs
variable {h h0:Heap} {L L' L1 L2 L3 R:List Asn} {Q:Value→Heap→Prop}
theorem B8h{t b:Nat}{full:Bool}{T:V6}{m:MsT}(ht:TP h0)(ag:l8 T.b)(hb:T.outs.length≤50000000)(hp:T.aT.length≤1000000000)(hm:m.1.size≤9223372036854775807)
  (hq:At (Y3 t b full (A4d m T)::old h0::L2) (Q (.tuple #[])))(hx:Has L (Y3 t b full T) L1:=by repeat first|with_reducible exact V5|apply V7)(hy:Has L1 (old h0) L2:=by repeat first|with_reducible exact V5|apply V7):
  FW prog 96 #[at0 t,vMs m] L Q:=by
 refine fun h hs=>A5Q (some ⟨t,0,none⟩) (toU m) h Q ((?_:W (Y3 t b full T::old h0::L2) _ _) h ((hx.then hy).s hs))
 clear hs h hx hy
 have fz:((A0Q m T).aT.length+1)*64≤140737488355328:=by rw[A74];omega
 have hq:At (Y3 t b full (⟨(A0Q m T).b,(A0Q m T).outs,(A0Q m T).aT++[m]⟩:V6)::old h0::L2) (Q (.tuple #[])):=hq
 delta A4L az bn cx g7 kc nn nw pu rq sx vs
 refine Y8 fun x1=>?_
 refine u7 (v:=toU m) ?_
 refine Z9 (C6m (m:=m) ht ag hb hm (At.bD ?_))
 generalize A0Q m T=T1 at*
 refine W9 ?_
 refine A5H (fun h R=>p9) fun so sp p=>?_
 refine j0 (b:=t) (i:=3) (v:=sp) ?_
 refine u7 (v:=toU m) ?_
 refine Y8 fun x7=>?_
 refine j0 (b:=t) (i:=3) (v:=sp) ?_
 refine A1t ?_ rfl
 refine B0k (xs:=T1.aT) (enc:=Z5) (s:=sp) m (fun s'=>?_) fz
 refine W9 ?_
 refine A4v (b:=t) (i:=3) (cs':=#[at0 b,.bool full,.slice so.a so.len so.cap,.slice s'.a s'.len s'.cap]) ?_
 refine W.bJ (⟨T1.b,T1.outs,T1.aT++[m]⟩:V6) so s' p ?_
 exact U9 hq.sub
theorem A3T(l:List Z7)(c:Int):X0 (l.map A0g) c=(A1I c l).map B8M:=by
 unfold X0 A1I
 induction l with
 |nil=>rfl
 |cons x l ih=>
  rw[B5,List.find?_cons,List.find?_cons]
  by_cases hx:x.c=c
  ·simp[hx]
  ·simp only[A0g,hx,decide_false]
   exact ih
theorem C4F{l:List Z7}{c:Int}(hn:(l.map (·.c)).Nodup):mdel (l.map A0g) c=(l.filter fun y=>decide (y.c≠c)).map A0g:=by
 have jZ:((l.map A0g).map (·.1)).Nodup:=by rw[F3];exact hn
 rw[A1K jZ,S6]
 rfl
theorem B5f{m:Nat}{l:List Z7}(hs:sat h (mapA eKI eVC m (l.map A0g)::R)):(l.map (·.c)).Nodup:=by
 have:=hs.bK
 rw[F3] at this
 exact this
theorem kKI:KeyLaw (Instr.sameNow (.int .i64)) eKI:=B9B .i64
theorem C3R{t b:Nat}{full:Bool}{T:V6}{c:Int}{aX:Bool}(ht:TP h0)(ag:l8 T.b)(hb:T.outs.length≤50000000)(hp:T.aT.length≤1000000000)
  (hq:At (Y3 t b full (A4U full c aX T)::old h0::L2) (Q (.tuple #[])))(hx:Has L (Y3 t b full T) L1:=by repeat first|with_reducible exact V5|apply V7)(hy:Has L1 (old h0) L2:=by repeat first|with_reducible exact V5|apply V7):
  FW prog 54 #[at0 t,.int .i64 c,.bool aX] L Q:=by
 refine fun h hs=>A8R (some ⟨t,0,none⟩) c aX h Q ((?_:W (Y3 t b full T::old h0::L2) _ _) h ((hx.then hy).s hs))
 clear hs h hx hy
 unfold A4U at hq
 delta A8F ad bn cb ci cx g7 ie jb ji kb km kp nn nw pu sn vi
 refine W9 ?_
 refine A5H (fun h R=>p9) fun so sp p=>?_
 refine W.load (v:=some ⟨b,0,none⟩) ?_
 refine W9 ?_
 refine W.load (v:=some p.cm) ?_
 refine Y7 (fun h R hs=>B5f (m:=p.cm) (l:=T.b.aB) hs) fun au=>?_
 refine W.lookup (kind:=.agg tC) kKI c ?_
 rw[A3T]
 cases hg:A1I c T.b.aB with
 |none=>
  rw[hg] at hq
  refine Y8 fun x6=>?_
  refine A0u ?_
  refine Y5 rfl ?_
  refine W.bJ T so sp p ?_
  exact U9 hq.sub
 |some x=>
  rw[hg] at hq
  simp only at hq
  refine Y8 fun x6=>?_
  refine A0u ?_
  refine W.cells (b:=x6) (lS4 (B8M x)).toArray ?_
  refine X1 rfl ?_
  refine W9 ?_
  refine W.load (v:=some ⟨b,0,none⟩) ?_
  refine W9 ?_
  refine W.load (v:=some p.cm) ?_
  refine W.mdel kKI c ?_
  rw[C4F au]
  refine W9 ?_
  refine W.load (v:=some ⟨b,0,none⟩) ?_
  refine W9 ?_
  refine W.load (v:=some ⟨p.tb,0,none⟩) ?_
  refine W.load (v:=x.aG) ?_
  refine j2 (C8j (b:=p.tb) (A:=T.b.aG) (k:=x.aG) (At.un ?_))
  have h1:=B9N (k:=x.aG) (ag.conn fun y=>decide (y.c≠c)) (ag.gone hg)
  rw[B5c] at hq h1
  simp only at hq h1
  refine W.cut (fun _=>Y3 t b full (tB ⟨T.b.last,(A4T x.aG T.b.aG).2,if(A4T x.aG T.b.aG).1=true then A1q x.aG T.b.aH else T.b.aH,T.b.kept,T.b.aB.filter fun y=>decide (y.c≠c)⟩ T)::cells x6 (lS4 (B8M x)).toArray::old h0::L2) (fun K hK=>?_) (fun _=>?_)
  ·refine A0s (fun hd=>?_) (fun hd=>?_)
   ·rw[if_pos hd] at hK
    refine W9 ?_
    refine W.load (v:=some ⟨b,0,none⟩) ?_
    refine W9 ?_
    refine W.load ?_
    refine W.load (v:=x.aG) ?_
    refine j2 (C0a (t:=p.sb) (E:=T.b.aH) (id:=x.aG) ht ag.aH (At.un (U9 ?_)))
    refine At.bJ (tB ⟨T.b.last,(A4T x.aG T.b.aG).2,A1q x.aG T.b.aH,T.b.kept,T.b.aB.filter fun y=>decide (y.c≠c)⟩ T) so sp p ?_
    exact(hK ()).sub
   ·rw[if_neg (by rw[hd];decide)] at hK
    refine U9 ?_
    refine At.bJ (tB ⟨T.b.last,(A4T x.aG T.b.aG).2,T.b.aH,T.b.kept,T.b.aB.filter fun y=>decide (y.c≠c)⟩ T) so sp p ?_
    exact(hK ()).sub
  have sY:=(ag.wl x (A1V hg).1).1
  clear au hg
  generalize(if(A4T x.aG T.b.aG).1=true then A1q x.aG T.b.aH else T.b.aH)=subs' at*
  generalize(A4T x.aG T.b.aG).2=ses' at*
  generalize T.b.aB.filter (fun y=>decide (y.c≠c))=conns' at*
  cases aX with
  |false=>
   rw[if_neg (by simp)] at hq
   exact o8 rfl (j1 (o8 rfl (j1 (U9 hq.sub))))
  |true=>
   refine A1s rfl ?_
   refine X9 (W.load (v:=x.bE) ?_)
   cases eY:x.bE with
   |false=>
    rw[if_neg (by simp[eY])] at hq
    exact o8 rfl (j1 (o8 rfl (j1 (U9 hq.sub))))
   |true=>
    refine A1s rfl ?_
    refine X9 (W9 ?_)
    refine A5H (fun h R=>p9) fun gr iH p2=>?_
    refine X9 (W.load (v:=full) ?_)
    refine j1 ?_
    refine W.bJ (tB ⟨T.b.last,ses',subs',T.b.kept,conns'⟩ T) gr iH p2 ?_
    cases full with
    |true=>
     rw[if_neg (by simp)] at hq
     exact o8 rfl (j1 (U9 hq.sub))
    |false=>
     rw[if_pos ⟨rfl,eY,rfl⟩] at hq
     refine A1s rfl ?_
     refine X9 (A8p (v:=toU x.aX) ?_)
     refine X9 (Z9 (B8h (T:=tB ⟨T.b.last,ses',subs',T.b.kept,conns'⟩ T) (m:=x.aX) ht h1.1 hb hp sY (At.bD ?_)))
     exact j1 (U9 hq.sub)
theorem B7N{α:Type}{m:HM α}{Q':α→Heap→Prop}{k:IntKind}(o:PkO)(hc:o.cB=[])(hp:o.props=[])(hw:W (pkB k (⟨none,0,0⟩,⟨none,0,0⟩,o)::L) m Q'):W L m Q':=fun h hs=>hw h (A3j hc hp hs)
theorem A87{t b:Nat}{full:Bool}{T:V6}{c code:Int}(ht:TP h0)(ag:l8 T.b)(hb:T.outs.length<50000000)(hp:T.aT.length≤1000000000)
  (hq:At (Y3 t b full (A0O full c code T)::old h0::L2) (Q (.tuple #[])))(hx:Has L (Y3 t b full T) L1:=by repeat first|with_reducible exact V5|apply V7)(hy:Has L1 (old h0) L2:=by repeat first|with_reducible exact V5|apply V7):
  FW prog 68 #[at0 t,.int .i64 c,.int .u8 code] L Q:=by
 refine fun h hs=>A6D (some ⟨t,0,none⟩) c code h Q ((?_:W (Y3 t b full T::old h0::L2) _ _) h ((hx.then hy).s hs))
 clear hs h hx hy
 unfold A0O at hq
 delta A5A cx pu ve vi vz
 refine B7N (k:=.u8) (l6 14 0 code) rfl rfl ?_
 refine Z9 (B91 (T:=T) (c:=c) (o:=l6 14 0 code) (ci:=⟨none,0,0⟩) (pi:=⟨none,0,0⟩) (by omega) (At.bD ?_))
 refine Z9 (C3R (T:=A0N ⟨c,l6 14 0 code,true⟩ T) (c:=c) (aX:=true) ht ag (by show(T.outs++[_]).length≤_;rw[B3];simp only[B7,G1];omega) hp (At.bD ?_))
 exact U9 hq.sub
end
section
open Go.H Go.Proofs
variable {h h0:Heap} {L L' L1 L2 L3 R:List Asn} {Q:Value→Heap→Prop}
abbrev pkI(p:Pk)(pl:List r8)(sl:List A0L)(fl:List B4p):PkI:=
 {kind:=p.1,dH:=p.2.2.1,eT:=p.2.2.2.1,id:=p.2.2.2.2.1,cD:=p.2.2.2.2.2.1,cU:=p.2.2.2.2.2.2.1,code:=p.2.2.2.2.2.2.2.1,props:=pl,
  aD:=p.2.2.2.2.2.2.2.2.2.2.1,clean:=p.2.2.2.2.2.2.2.2.2.2.2.1,bE:=p.2.2.2.2.2.2.2.2.2.2.2.2.2.1,
  aX:=(p.2.2.2.2.2.2.2.2.2.2.2.2.2.2.1,p.2.2.2.2.2.2.2.2.2.2.2.2.2.2.2.1,p.2.2.2.2.2.2.2.2.2.2.2.2.2.2.2.2.1,p.2.2.2.2.2.2.2.2.2.2.2.2.2.2.2.2.2.1,e0S),aH:=sl,bO:=fl}
theorem B4y{s:B4p}(ht:TP h0)(hsz:s.size≤9223372036854775807)(hq:At (old h0::L1) (Q (.int .u8 (A2X s))))(hx:Has L (old h0) L1:=by repeat first|with_reducible exact V5|apply V7):FW prog 12 #[.string s] L Q:=fun h hs=>
 A3A (hx.s hs) ht hsz fun h' af=>hq h' af
theorem C3q{k:Int}{A:List W7}:Y4 k (fun s=>s) A=A:=by
 unfold Y4
 simp
theorem C1E{o:b7}{k id c:Int}(h:(A09 o k id c).2≠0):(A09 o k id c).1.1=o:=by
 unfold A09 at h⊢
 split at h
 ·rw[if_pos (by assumption)]
 ·rw[if_neg (by assumption)]
  split at h
  ·rfl
  ·split at h
   ·rw[if_pos (by assumption)];split at h
    ·rw[if_pos (by assumption)]
    ·exact absurd rfl h
   ·rw[if_neg (by assumption)];split at h
    ·rw[if_pos (by assumption)];split at h
     ·rw[if_pos (by assumption)]
     ·split at h<;>exact absurd rfl h
    ·rw[if_neg (by assumption)];split at h
     ·rw[if_pos (by assumption)]
     ·exact absurd rfl h
theorem C8e{t b:Nat}{full:Bool}{T:V6}{x:Z7}{p:Pk}{pl:List r8}{sl:List A0L}{fl:List B4p}(ht:TP h0)(ag:l8 T.b)(hc:A1I x.c T.b.aB=some x)(hb:T.outs.length<40000000)(hp:T.aT.length≤1000000000)(hsz:p.2.2.2.2.2.1.size≤9223372036854775807)
  (hq:At (Y3 t b full (A8t full x (pkI p pl sl fl) T)::old h0::L2) (Q (.tuple #[])))(hx:Has L (Y3 t b full T) L1:=by repeat first|with_reducible exact V5|apply V7)(hy:Has L1 (old h0) L2:=by repeat first|with_reducible exact V5|apply V7):
  FW prog 63 #[at0 t,.int .i64 x.c,A2B .u8 p] L Q:=by
 refine fun h hs=>A8j (some ⟨t,0,none⟩) x.c p h Q ((?_:W (Y3 t b full T::old h0::L2) _ _) h ((hx.then hy).s hs))
 clear hs h hx hy
 obtain⟨s,hs,hid⟩:=ag.cl x (A1V hc).1
 unfold A8t at hq
 simp only[A3u ag.nd hs hid] at hq
 delta A7o az bn cp cu cx A1h ie jb ji jt kb km kp nn nw pu rq ve vi vs
 refine Y8 fun x1=>?_
 refine A1j (fun r=>r.1=(decide (p.1=3)&& !a8 p.2.2.2.2.2.1)) (fun K hK=>?_) (fun r hr=>?_)
 ·refine W.load (v:=p.1) ?_
  refine A0s (fun h3=>?_) (fun h3=>?_)
  ·refine W.load (v:=p.2.2.2.2.2.1) ?_
   refine j2 (B4y ht hsz (At.un ?_))
   refine U9 (At.sub (hK _ ?_))
   simp only[Q0] at h3
   simp only[h3,decide_true,G5]
   unfold A2X
   cases a8 p.2.2.2.2.2.1<;>rfl
  ·refine U9 (hK _ ?_)
   simp only[H9,ne_eq] at h3
   simp[h3]
 obtain⟨r,_⟩:=r
 simp only at hr
 subst hr
 by_cases al:p.1=3∧a8 p.2.2.2.2.2.1=false
 ·rw[if_pos al] at hq
  refine Y5 (by simp[al.1,al.2]) ?_
  refine Z9 (A87 (T:=T) (c:=x.c) (code:=144) ht ag (by omega) hp (At.bD ?_))
  exact U9 hq.sub
 rw[if_neg al] at hq
 refine X1 (by
  by_cases e:p.1=3
  ·have:a8 p.2.2.2.2.2.1=true:=by
    cases hn:a8 p.2.2.2.2.2.1
    ·exact absurd ⟨e,hn⟩ al
    ·rfl
   simp[this]
  ·simp[e]) ?_
 refine W9 ?_
 refine A5H (fun h R=>p9) fun so sp q=>?_
 refine W.load (v:=full) ?_
 refine A1j (fun r=>r.1=if full=true then 151 else 0) (fun K hK=>A0s (fun e=>U9 (hK _ (if_pos e).symm)) (fun e=>U9 (hK _ (if_neg (by simp[e])).symm))) (fun r hr=>?_)
 obtain⟨why,_⟩:=r
 simp only at hr
 rw[←hr] at hq
 clear hr al
 refine W9 ?_
 refine W.load (v:=some ⟨b,0,none⟩) ?_
 refine W9 ?_
 refine W.load (v:=some q.cm) ?_
 refine W.lookup (kind:=.agg tC) kKI x.c ?_
 rw[A3T,hc]
 refine W9 ?_
 refine W.load (v:=some ⟨b,0,none⟩) ?_
 refine W9 ?_
 refine W.load (v:=some ⟨q.tb,0,none⟩) ?_
 refine u7 (v:=p) ?_
 refine A7t (fun h R=>A42 hs h R) fun ob ib=>?_
 refine j2 (C9V (k:=x.aG) hid (At.un ?_))
 refine u7 (v:=p) ?_
 refine A1t ?_ rfl
 refine Z9 (C6j (f:=ib) (s:=s.bA) (p:=p) (why:=why) (fun S=>At.bD (x:=((q7 s.bA p.1 p.2.2.2.1 p.2.2.2.2.1 why).1,S,(q7 s.bA p.1 p.2.2.2.1 p.2.2.2.2.1 why).2.2.1,())) ?_))
 generalize hR:q7 s.bA p.1 p.2.2.2.1 p.2.2.2.2.1 why=r at hq⊢
 refine B0j (A:=A1g q.tb T.b.last (Y4 x.aG (k9 ⟨s.bA.most,s.bA.taken,r.2.2.2⟩) T.b.aG)) (fun h af=>C5u ag.nd hs hid h af) ?_
 refine W.bJ (A0S (Y4 x.aG (k9 ⟨s.bA.most,s.bA.taken,r.2.2.2⟩) T.b.aG) T) so sp q ?_
 have aL:l8 (A0S (Y4 x.aG (k9 ⟨s.bA.most,s.bA.taken,r.2.2.2⟩) T.b.aG) T).b:=ag.fF
 by_cases av:r.2.2.1=0
 ·rw[if_neg (by simpa using av)] at hq
  refine X1 (by simp[av]) ?_
  have kH:(A31 r.2.1 p.2.2.2.2.1).length≤1:=by unfold A31;split<;>simp
  refine Z9 (A3O (T:=(A0S (Y4 x.aG (k9 ⟨s.bA.most,s.bA.taken,r.2.2.2⟩) T.b.aG) T)) (id:=x.aG) (ps:=A31 r.2.1 p.2.2.2.2.1) (ag.one x.aG) (by simp only;omega) (At.bD ?_))
  have td:(T.outs++A2v T.b.aB x.aG (A31 r.2.1 p.2.2.2.2.1)).length≤50000000:=by
   rw[B3];have:=A9A (A31 r.2.1 p.2.2.2.2.1) (ag.one x.aG);omega
  cases hf:r.1 with
  |false=>
   rw[if_neg (by simp[hf])] at hq
   exact o8 rfl (j1 (o8 rfl (j1 (U9 hq.sub))))
  |true=>
   refine A1s rfl ?_
   refine X9 (W9 ?_)
   refine A5H (fun h R=>p9) fun gr iH p2=>?_
   refine X9 (W.load (v:=full) ?_)
   refine j1 ?_
   refine W.bJ (u0 x.aG (A31 r.2.1 p.2.2.2.2.1) (A0S (Y4 x.aG (k9 ⟨s.bA.most,s.bA.taken,r.2.2.2⟩) T.b.aG) T)) gr iH p2 ?_
   cases full with
   |true=>
    rw[if_neg (by simp)] at hq
    exact o8 rfl (j1 (U9 hq.sub))
   |false=>
    rw[if_pos ⟨hf,rfl⟩] at hq
    refine A1s rfl ?_
    refine X9 (W.load (v:=p.2.2.2.2.2.1) ?_)
    refine X9 (W.load (v:=p.2.2.2.2.2.2.1) ?_)
    refine X9 (W.load (v:=p.2.2.2.1) ?_)
    refine X9 (W.load (v:=p.2.2.1) ?_)
    refine X9 (Z9 (B8h (m:=(p.2.2.2.2.2.1,p.2.2.2.2.2.2.1,p.2.2.2.1,p.2.2.1,e0S)) (T:=u0 x.aG (A31 r.2.1 p.2.2.2.2.1) (A0S (Y4 x.aG (k9 ⟨s.bA.most,s.bA.taken,r.2.2.2⟩) T.b.aG) T)) ht aL td hp hsz (At.bD ?_)))
    exact j1 (U9 hq.sub)
 ·rw[if_pos (by simpa using av)] at hq
  refine Y5 (by simp[av]) ?_
  refine Z9 (A87 (T:=(A0S (Y4 x.aG (k9 ⟨s.bA.most,s.bA.taken,r.2.2.2⟩) T.b.aG) T)) (c:=x.c) (code:=r.2.2.1) ht aL (by simp only;omega) hp (At.bD ?_))
  exact U9 hq.sub
theorem C6P{t b:Nat}{full:Bool}{T:V6}{x:Z7}{p:Pk}{pl:List r8}{sl:List A0L}{fl:List B4p}(ht:TP h0)(ag:l8 T.b)(hc:A1I x.c T.b.aB=some x)(hb:T.outs.length<40000000)(hp:T.aT.length≤1000000000)
  (hq:At (Y3 t b full (A37 full x (pkI p pl sl fl) T)::old h0::L2) (Q (.tuple #[])))(hx:Has L (Y3 t b full T) L1:=by repeat first|with_reducible exact V5|apply V7)(hy:Has L1 (old h0) L2:=by repeat first|with_reducible exact V5|apply V7):
  FW prog 64 #[at0 t,.int .i64 x.c,A2B .u8 p] L Q:=by
 refine fun h hs=>A6F (some ⟨t,0,none⟩) x.c p h Q ((?_:W (Y3 t b full T::old h0::L2) _ _) h ((hx.then hy).s hs))
 clear hs h hx hy
 obtain⟨s,hs,hid⟩:=ag.cl x (A1V hc).1
 unfold A37 A01 at hq
 simp only[A3u ag.nd hs hid] at hq
 have dj:=B5g (ag.bM s hs) p.1 p.2.2.2.2.1 p.2.2.2.2.2.2.2.1
 have qO:=C1E (o:=s.out) (k:=p.1) (id:=p.2.2.2.2.1) (c:=p.2.2.2.2.2.2.2.1)
 delta A5C az bn cp cx A1h ie km kp nn nw pu rq vi vs
 refine Y8 fun x1=>?_
 refine W9 ?_
 refine A5H (fun h R=>p9) fun so sp q=>?_
 refine W.load (v:=some ⟨b,0,none⟩) ?_
 refine W9 ?_
 refine W.load (v:=some q.cm) ?_
 refine W.lookup (kind:=.agg tC) kKI x.c ?_
 rw[A3T,hc]
 refine W9 ?_
 refine W.load (v:=some ⟨b,0,none⟩) ?_
 refine W9 ?_
 refine W.load (v:=some ⟨q.tb,0,none⟩) ?_
 refine u7 (v:=p) ?_
 refine A7t (fun h R=>A42 hs h R) fun ob ib=>?_
 refine j2 (B1p (k:=x.aG) hid (At.un ?_))
 refine u7 (v:=p) ?_
 refine A1t ?_ rfl
 refine Z9 (C8t (b:=ob) (o:=s.out) (p:=p) (ag.bM s hs) (fun S=>At.bD (x:=(S,(A09 s.out p.1 p.2.2.2.2.1 p.2.2.2.2.2.2.2.1).2,())) ?_))
 generalize A09 s.out p.1 p.2.2.2.2.1 p.2.2.2.2.2.2.2.1=r at hq dj qO⊢
 refine B0j (A:=A1g q.tb T.b.last (Y4 x.aG (Y9 r.1.1) T.b.aG)) (fun h af=>A5a ag.nd hs hid h af) ?_
 by_cases av:r.2=0
 ·rw[if_neg (by simpa using av)] at hq
  refine W.bJ (A0S (Y4 x.aG (Y9 r.1.1) T.b.aG) T) so sp q ?_
  refine X1 (by simp[av]) ?_
  refine Z9 (A3O (T:=(A0S (Y4 x.aG (Y9 r.1.1) T.b.aG) T)) (id:=x.aG) (ps:=r.1.2) (ag.one x.aG) (by have:=dj.2;simp only;omega) (At.bD ?_))
  exact U9 hq.sub
 ·rw[if_pos (by simpa using av)] at hq
  have e1:Y4 x.aG (Y9 r.1.1) T.b.aG=T.b.aG:=by
   rw[qO av,A7F (f:=Y9 s.out) (g:=fun s=>s) ag.nd hs hid rfl,C3q]
  rw[e1]
  refine W.bJ T so sp q ?_
  refine Y5 (by simp[av]) ?_
  refine Z9 (A87 (T:=T) (c:=x.c) (code:=r.2) ht ag (by omega) hp (At.bD ?_))
  exact U9 hq.sub
end
section
open Go.H Go.Proofs
theorem B3R{E:List Ent}{id q:Int}{f:B4p}(h:(A2P E id f q).1=0):0≤q∧q≤2:=by
 unfold A2P at h
 split at h
 ·cases h
 ·split at h
  ·cases h
  ·omega
theorem B7f{E:List Ent}{id q:Int}{f:B4p}:(A2P E id f q).2.length≤E.length+1∧∀e∈(A2P E id f q).2,e∈E∨e.1=id:=by
 unfold A2P
 split
 ·exact⟨S8 _,fun e he=>.inl he⟩
 ·split
  ·exact⟨S8 _,fun e he=>.inl he⟩
  ·split
   ·refine⟨by simp,fun e he=>?_⟩
    rcases List.mem_or_eq_of_mem_set he with he|rfl
    ·exact .inl he
    ·exact .inr rfl
   ·split
    ·exact⟨S8 _,fun e he=>.inl he⟩
    ·have hp:=A1U ltK j3 (id,f,q) E
     refine⟨by rw[hp.length_eq];simp,fun e he=>?_⟩
     rcases D3.1 (hp.mem_iff.1 he) with rfl|he
     ·exact .inr rfl
     ·exact .inl he
theorem l8.fM{B:i6}(h:l8 B){E:List Ent}(hl:E.length≤10000)(hm:∀e∈E,e∈B.aH∨∃s∈B.aG,s.id=e.1):l8 (B4B E B) where
 aH:=hl
 bM:=h.bM
 live:=fun e he=>by
  rcases hm e he with he|he
  ·exact h.live e he
  ·exact he
 one:=h.one
 nd:=h.nd
 cl:=h.cl
 dR:=h.dR
 wl:=h.wl
theorem B1o{id:Int}:∀(l:List A0L) {E:List Ent},(l9 id l E).1.length≤E.length+l.length∧(∀e∈(l9 id l E).1,e∈E∨e.1=id)∧(l9 id l E).2.length=l.length∧(added id l E).length≤l.length
 |[],E=>⟨D9 _,fun e he=>.inl he,rfl,D9 _⟩
 |s::l,E=>by
  have h1:=B7f (E:=E) (id:=id) (f:=s.1) (q:=s.2.1)
  obtain⟨h2,h3,h4,h5⟩:=B1o (id:=id) l (E:=(A2P E id s.1 s.2.1).2)
  unfold l9 added
  refine⟨?_,fun e he=>?_,?_,?_⟩
  ·simp only[B7];omega
  ·rcases h3 e he with he|he
   ·exact h1.2 e he
   ·exact .inr he
  ·simp only[B7,h4]
  ·rw[B3]
   split<;>simp only[B7,G1]<;>omega
theorem B8Q{id:Int}:∀(l:List A0L) {E:List Ent} {s:A0L},s∈added id l E→s∈l
 |[],_,_,h=>by cases h
 |x::l,E,s,h=>by
  unfold added at h
  rcases C7.1 h with h|h
  ·split at h
   ·rw[B9.1 h];exact B6 ..
   ·cases h
  ·exact C2 _ (B8Q l h)
theorem C1m{E:List Ent}{k:Int}{f:B4p}:(A1S E k f).length≤E.length:=D2 _ _
theorem B1a{id:Int}{s:A0L}(T:V6)(m:l7)(h:l8 T.b):A0J T (A0X id s T m) 320:=B5X h fun o ho=>⟨(A4c ho _).1,by have:=(A4c ho (m.1,m.2.1,min m.2.2.1 s.2.1,true,e0S)).2;omega⟩
theorem C2m{id:Int}{f:b7→b7×List PkO}{T:V6}:(A01 id f T).b.kept=T.b.kept:=by
 unfold A01;split<;>rfl
theorem A9E{id:Int}{f:b7→b7×List PkO}{T:V6}:(A01 id f T).b.aG.map (·.id)=T.b.aG.map (·.id):=by
 unfold A01
 split
 ·rfl
 ·rename_i s _
  exact A6U (f:=Y9 (f s.out).1) (fun _=>rfl) _
theorem A7X{id:Int}(T:V6)(s:A0L)(hk:T.b.kept.length≤64)(h:l8 T.b):A0J T (l0 id T s) 20480:=by
 unfold l0
 split
 ·exact(A0J.refl h).mono (by omega)
 ·refine(B9H (B1a (id:=id) (s:=s)) (A6z T.b.kept s.1) h).mono ?_
  have:(A6z T.b.kept s.1).length≤T.b.kept.length:=D2 _ _
  omega
theorem A7Y{id:Int}(T:V6)(s:A0L):(l0 id T s).b.kept=T.b.kept:=by
 unfold l0
 split
 ·rfl
 ·have:∀(l:List l7) (T:V6),(l.foldl (A0X id s) T).b.kept=T.b.kept:=by
   intro l
   induction l with
   |nil=>intro T;rfl
   |cons m l ih=>intro T;exact(ih _).trans C2m
  exact this _ T
theorem B4m{id:Int}(T:V6)(s:A0L):(l0 id T s).b.aG.map (·.id)=T.b.aG.map (·.id):=by
 unfold l0
 split
 ·rfl
 ·have:∀(l:List l7) (T:V6),(l.foldl (A0X id s) T).b.aG.map (·.id)=T.b.aG.map (·.id):=by
   intro l
   induction l with
   |nil=>intro T;rfl
   |cons m l ih=>intro T;exact(ih _).trans A9E
  exact this _ T
theorem C7A{A B:List W7}(h:A.map (·.id)=B.map (·.id)){s:W7}{k:Int}(hs:s∈B)(hk:s.id=k):∃s'∈A,s'.id=k:=by
 have h1:k∈B.map (·.id):=hk▸B4 hs
 rw[←h] at h1
 obtain⟨s',h2,h3⟩:=E3.1 h1
 exact⟨s',h2,h3⟩
theorem B6q{id:Int}:∀(l:List A0L) {T:V6},T.b.kept.length≤64→l8 T.b→A0J T (l.foldl (l0 id) T) (l.length*20480)
 |[],T,_,h=>(A0J.refl h).mono (by simp)
 |s::l,T,hk,h=>((A7X T s hk h).trans (B6q l (by rw[A7Y];exact hk) (A7X T s hk h).ok)).mono (by rw[B7,J7];omega)
variable {h h0:Heap} {L L' L1 L2 L3 R:List Asn} {Q:Value→Heap→Prop}
abbrev Y6(s:A0L):D0r:=[.string s.1,.int .i64 s.2.1,.bool s.2.2.1,.bool s.2.2.2.1,.int .i64 s.2.2.2.2]
instance:Enc Y6 5:=⟨fun _=>rfl,fun x v hv=>by
 have:(Y6 x).all (fun v=>v.oneCell')=true:=rfl
 exact J1.1 this v hv,by decide⟩
abbrev sbU(s:A0L):B4p×Int×Bool×Bool×Int×Unit:=(s.1,s.2.1,s.2.2.1,s.2.2.2.1,s.2.2.2.2,())
abbrev A0P(p:Pk):Slc:=p.2.2.2.2.2.2.2.2.2.2.2.2.2.2.2.2.2.2.2.2.2.2.2.2.1
theorem C5n{q:Int}(h0:0≤q)(h1:q≤255):IntKind.wrap .u8 q=q:=by
 simp[IntKind.wrap,IntKind.bits,IntKind.signed];omega
theorem C0V{b:Nat}{K:List l7}(hs:sat h (A1k b K::R)):K.length≤64:=by
 obtain⟨l,hl,_⟩:=A3V.1 hs
 exact(hl.lenL (by decide)).2
theorem C0f{t b:Nat}{full:Bool}{T:V6}{x:Z7}{p:Pk}{pl:List r8}{sl:List A0L}{fl:List B4p}(ht:TP h0)(ag:l8 T.b)(hc:A1I x.c T.b.aB=some x)(hb:T.outs.length≤10000000)(hE:T.b.aH.length+sl.length≤10000)(hn:sl.length≤100)
  (hsz:∀s∈sl,s.1.size≤9223372036854775807)
  (hq:At (Y3 t b full (A1u x (pkI p pl sl fl) T)::old h0::L3) (Q (.tuple #[])))(hx:Has L (Y3 t b full T) L1:=by repeat first|with_reducible exact V5|apply V7)(hy:Has L1 (old h0) L2:=by repeat first|with_reducible exact V5|apply V7)(hz:Has L2 (V1 Y6 5 (A0P p) sl) L3:=by repeat first|with_reducible exact V5|apply V7):
  FW prog 65 #[at0 t,.int .i64 x.c,A2B .u8 p] L Q:=by
 refine fun h hs=>A4X (some ⟨t,0,none⟩) x.c p h Q ((?_:W (Y3 t b full T::old h0::V1 Y6 5 (A0P p) sl::L3) _ _) h ((hx.cQ hy hz).s hs))
 clear hs h hx hy hz
 obtain⟨sx,rQ,iA⟩:=ag.cl x (A1V hc).1
 unfold A1u at hq
 simp only at hq
 obtain⟨EF,jD⟩:∃EF,EF=(l9 x.aG sl T.b.aH).1:=⟨_,rfl⟩
 obtain⟨CF,jn⟩:∃CF,CF=(l9 x.aG sl T.b.aH).2:=⟨_,rfl⟩
 obtain⟨AF,rC⟩:∃AF,AF=added x.aG sl T.b.aH:=⟨_,rfl⟩
 have yk:∀s∈AF,s∈sl:=fun s hs=>by rw[rC] at hs;exact B8Q sl hs
 have yQ:AF.length≤100:=by rw[rC];exact C4 (B1o sl).2.2.2 hn
 rw[←jD,←jn,←rC] at hq
 delta A3F az bn cc cp cu cx A1h g6 ie ix jc ji jt km kp nn nw pu rq sn sw ve vi vs vz wi
 refine Y8 fun x1=>?_
 refine W9 ?_
 refine A5H (fun h R=>p9) fun so sp q=>?_
 refine W.load (v:=some ⟨b,0,none⟩) ?_
 refine W9 ?_
 refine W.load (v:=some q.cm) ?_
 refine Y7 (fun h R hs=>C0V (b:=q.kb) (K:=T.b.kept) hs) fun jw=>?_
 refine W.lookup (kind:=.agg tC) kKI x.c ?_
 rw[A3T,hc]
 refine W.load (v:=p.2.2.2.2.1) ?_
 refine Y8 fun x8=>?_
 refine A0u ?_
 refine W.load (v:=A0P p) ?_
 refine W.bJ T so sp q ?_
 refine A4u Y6 5 ?_
 refine A4u (eKd .u8) 1 ?_
 refine W.cells (b:=x8) (X4 .u8 (pkT (l6 9 (p.2.2.2.2.1) 0) ⟨none,0,0⟩ ⟨none,0,0⟩)).toArray ?_
 refine Y7 (X7 (enc:=Y6) (size:=5) (s:=A0P p) (xs:=sl)) fun hl=>?_
 refine W.loop (γ:=Nat×List Ent×List Int×List A0L×Slc) (fun g s=>s.2.1=(g.1:Int)∧g.1≤sl.length∧l8 (B4B g.2.1 T.b)∧g.2.1.length≤T.b.aH.length+g.1∧(l9 x.aG (sl.drop g.1) g.2.1).1=EF∧g.2.2.1++(l9 x.aG (sl.drop g.1) g.2.1).2=CF∧g.2.2.2.1++added x.aG (sl.drop g.1) g.2.1=AF∧g.2.2.1.length=g.1∧g.2.2.2.1.length≤g.1)
  (fun g s=>Y3 t b full (A1z g.2.1 T)::V1 Y6 5 s.1 g.2.2.2.1::V1 (eKd .u8) 1 g.2.2.2.2 g.2.2.1::cells x8 (X4 .u8 (pkT (l6 9 (p.2.2.2.2.1) 0) g.2.2.2.2 ⟨none,0,0⟩)).toArray::V1 Y6 5 (A0P p) sl::old h0::L3)
  (fun g=>sl.length-g.1) (0,T.b.aH,[],[],⟨none,0,0⟩) ⟨rfl,C9 _,ag,D9 _,jD.symm,jn.symm,rC.symm,rfl,D9 _⟩ ?_ ?_
 ·show Sub _ (Y3 t b full T::V1 Y6 5 ⟨none,0,0⟩ ([]:List A0L)::V1 (eKd .u8) 1 ⟨none,0,0⟩ ([]:List Int)::cells x8 (X4 .u8 (pkT (l6 9 (p.2.2.2.2.1) 0) ⟨none,0,0⟩ ⟨none,0,0⟩)).toArray::V1 Y6 5 (A0P p) sl::old h0::L3)
  repeat(first|with_reducible exact U3|with_reducible exact U4|refine U5 (by repeat first|with_reducible exact V5|apply V7) ?_|refine U6 ?_)
 rintro⟨i,E,cs,A,cS⟩ s ⟨hi,cF,iv,lL,cI,cJ,jE,bg,kH⟩ K k1 k2
 simp only at hi cF iv lL cI cJ jE bg kH
 by_cases ah:i<sl.length
 ·refine Y5 (by rw[hi,hl];exact decide_eq_true (by omega)) ?_
  have bG:sl.drop i=sl[i]::sl.drop (i+1):=E0 ah
  have aP:sl[i]? =some sl[i]:=B0 ah
  have an:sl[i]∈sl:=H6 ah
  rw[bG] at cI cJ jE
  generalize sl[i]=u at aP an cI cJ jE
  clear bG
  refine b9 (enc:=Y6) (xs:=sl) (i:=i) ah (fun a ha=>?_) (he:=hi)
  refine B2S (x:=u) (v:=sbU u) ha aP ?_
  refine Y8 fun pO=>?_
  refine A0u ?_
  refine W9 ?_
  refine A5H (fun h R=>p9) fun so sp q=>?_
  refine W.load (v:=some ⟨b,0,none⟩) ?_
  refine W9 ?_
  refine W.load ?_
  refine W.load (v:=u.1) ?_
  refine W.load (v:=u.2.1) ?_
  refine j2 (C7g (t:=q.sb) (E:=E) (id:=x.aG) (q:=u.2.1) (f:=u.1) ht (hsz u an) (by omega) (At.un ?_))
  have hm:=B7f (E:=E) (id:=x.aG) (f:=u.1) (q:=u.2.1)
  have uD:=B3R (E:=E) (id:=x.aG) (f:=u.1) (q:=u.2.1)
  unfold l9 at cI cJ
  unfold added at jE
  simp only at cI cJ jE
  generalize A2P E x.aG u.1 u.2.1=r at hm uD cI cJ jE⊢
  refine W.bJ (A1z r.2 T) so sp q ?_
  refine B94 (fun a=>a.2.1=if r.1=0 then u.2.1 else r.1) (fun a=>Y3 t b full (A1z r.2 T)::V1 Y6 5 a.1 (A++if r.1=0 then[u] else[])::V1 (eKd .u8) 1 cS cs::cells x8 (X4 .u8 (pkT (l6 9 (p.2.2.2.2.1) 0) cS ⟨none,0,0⟩)).toArray::V1 Y6 5 (A0P p) sl::old h0::L3) (fun K2 aQ=>?_) (fun a iK=>?_)
  ·by_cases hr:r.1=0
   ·refine Y5 (by simpa using hr) ?_
    rw[if_pos hr,if_pos hr] at aQ
    refine u7 (v:=sbU u) ?_
    refine C1H (enc:=Y6) (xs:=A) (s:=s.1) u (fun s'=>?_) (by omega)
    refine W.load (v:=u.2.1) ?_
    exact U9 (aQ (s',IntKind.wrap .u8 u.2.1,()) (C5n (uD hr).1 (by have:=(uD hr).2;omega))).sub
   ·refine X1 (by simpa using hr) ?_
    rw[if_neg hr,if_neg hr,C1] at aQ
    exact U9 (aQ (s.1,r.1,()) rfl).sub
  ·refine W.load (v:=cS) ?_
   refine C1H (enc:=eKd .u8) (xs:=cs) (s:=cS) a.2.1 (fun s'=>?_) (by omega)
   refine W.store (cs':=(X4 .u8 (pkT (l6 9 (p.2.2.2.2.1) 0) s' ⟨none,0,0⟩)).toArray) ?_
   have oC:r.2.length≤T.b.aH.length+(i+1):=by have:=hm.1;omega
   refine U9 (At.sub (k1 (i+1,r.2,cs++[a.2.1],A++(if r.1=0 then[u] else[]),s') (a.1,IntKind.wrap .i64 (s.2.1+1),()) (by simp only;omega) ⟨?_,ah,?_,oC,cI,?_,?_,?_,?_⟩) ?_)
   ·simp only[hi];rw[W6 (by omega) (by omega)];rfl
   ·exact iv.fM (by show r.2.length≤10000;omega) fun e he=>by
     rcases hm.2 e he with he|he
     ·exact .inl he
     ·exact .inr ⟨sx,rQ,iA.trans he.symm⟩
   ·rw[iK,D7];exact cJ
   ·rw[D7];exact jE
   ·simp[bg]
   ·simp only[B3];split<;>simp<;>omega
   ·repeat(first|with_reducible exact U3|with_reducible exact U4|refine U5 (by repeat first|with_reducible exact V5|apply V7) ?_|refine U6 ?_)
 ·refine X1 (by rw[hi,hl];exact decide_eq_false (by omega)) (U9 (k2 _ _ ?_))
  have ff:i=sl.length:=by omega
  subst ff
  rw[K9] at cI cJ jE
  simp only[l9,added,C1] at cI cJ jE
  subst cI cJ jE
  clear k1 k2 jn rC jD
  refine u7 (v:=pkT (A03 9 (p.2.2.2.2.1) cs) cS ⟨none,0,0⟩) ?_
  refine A4u X6 4 ?_
  refine W.dB (A:=pkB .u8 (cS,⟨none,0,0⟩,A03 9 (p.2.2.2.2.1) cs)) (B:=V1 (eKd .u8) 1 cS cs) (C:=V1 X6 4 ⟨none,0,0⟩ ([]:List r8)) (fun h hs=>A4Q.2 hs) ?_
  refine Z9 (B87 (T:=A1z E T) (c:=x.c) (o:=A03 9 (p.2.2.2.2.1) cs) (ci:=cS) (pi:=⟨none,0,0⟩) (by show T.outs.length≤_;omega) (At.bD ?_))
  obtain⟨T1,bP⟩:∃T1,T1=A0N ⟨x.c,A03 9 (p.2.2.2.2.1) cs,false⟩ (A1z E T):=⟨_,rfl⟩
  have aL:l8 T1.b:=by rw[bP];exact iv
  have eo:T1.b.kept=T.b.kept:=by rw[bP]
  have jz:T1.b.aG.map (·.id)=T.b.aG.map (·.id):=by rw[bP]
  have gg:T1.outs.length≤10000001:=by rw[bP];show(T.outs++[_]).length≤_;rw[B3];simp only[B7,G1];omega
  rw[←bP] at hq⊢
  clear bP
  obtain⟨aS,i0,_⟩:=s
  simp only
  refine Y7 (X7 (enc:=Y6) (size:=5) (s:=aS) (xs:=A)) fun en=>?_
  refine W.loop (γ:=Nat×V6) (fun g s=>s.1=(g.1:Int)∧g.1≤A.length∧l8 g.2.b∧g.2.b.kept=T.b.kept∧g.2.b.aG.map (·.id)=T.b.aG.map (·.id)∧(A.drop g.1).foldl (l0 x.aG) g.2=A.foldl (l0 x.aG) T1∧g.2.outs.length≤10000001+20480*g.1)
   (fun g s=>Y3 t b full g.2::V1 Y6 5 aS A::old h0::L3) (fun g=>A.length-g.1) (0,T1) ⟨rfl,C9 _,aL,eo,jz,rfl,gg⟩ ?_ ?_
  ·show Sub _ (Y3 t b full T1::V1 Y6 5 aS A::old h0::L3)
   repeat(first|with_reducible exact U3|with_reducible exact U4|refine U5 (by repeat first|with_reducible exact V5|apply V7) ?_|refine U6 ?_)
  rintro⟨j,T2⟩ s2 ⟨hj,tU,ca,gD,jy,gb,dA⟩ K2 m1 m2
  simp only at hj tU ca gD jy gb dA
  by_cases bd:j<A.length
  ·refine Y5 (by rw[hj,en];exact decide_eq_true (by omega)) ?_
   have bG:A.drop j=A[j]::A.drop (j+1):=E0 bd
   have qK:A[j]? =some A[j]:=B0 bd
   have an:A[j]∈A:=H6 bd
   rw[bG,I4] at gb
   generalize A[j]=u at qK an gb
   have qE:=A7X (id:=x.aG) T2 u (by rw[gD];exact jw) ca
   have aA:At (Y3 t b full (l0 x.aG T2 u)::V1 Y6 5 aS A::old h0::L3) (K2 (.inl (IntKind.wrap .i64 (s2.1+1),()))):=by
    refine m1 (j+1,l0 x.aG T2 u) (IntKind.wrap .i64 (s2.1+1),()) (by simp only;omega) ⟨?_,bd,qE.ok,(A7Y T2 u).trans gD,(B4m T2 u).trans jy,gb,?_⟩
    ·simp only[hj];rw[W6 (by omega) (by omega)];rfl
    ·have:=qE.outs;simp only;omega
   clear m1 m2 gb
   refine X9 (b9 (enc:=Y6) (xs:=A) (i:=j) bd (fun a ha=>?_) (he:=hj))
   refine X9 (B2S (x:=u) (v:=sbU u) ha qK ?_)
   refine X9 (Y8 fun rI=>?_)
   refine X9 (A0u ?_)
   refine X9 (W.load (v:=u.2.2.2.2) ?_)
   by_cases h2:u.2.2.2.2=2
   ·refine A1s (by simpa using h2) ?_
    have e:l0 x.aG T2 u=T2:=if_pos h2
    rw[e] at aA
    exact j1 (U9 aA.sub)
   ·refine o8 (by simpa using h2) ?_
    have e:l0 x.aG T2 u=(A6z T2.b.kept u.1).foldl (A0X x.aG u) T2:=if_neg h2
    rw[e] at aA
    refine X9 (W9 ?_)
    refine A5H (fun h R=>p9) fun so sp q=>?_
    refine X9 (W.load (v:=some ⟨b,0,none⟩) ?_)
    refine X9 (W9 ?_)
    refine X9 (W.load ?_)
    refine X9 (W.load (v:=u.1) ?_)
    refine X9 (j2 (C6f (b:=q.kb) (K:=T2.b.kept) (f:=u.1) ht (hsz u (yk u an)) (fun S=>At.un (x:=S) ?_)))
    refine W.bJ T2 so sp q ?_
    have tZ:(A6z T2.b.kept u.1).length≤64:=C4 (D2 _ _) (by rw[gD];exact jw)
    generalize A6z T2.b.kept u.1=M at tZ aA⊢
    refine Y7 (X7 (enc:=A0q) (size:=3) (s:=S) (xs:=M)) fun lz=>?_
    refine X9 (W.loop (γ:=Nat×V6) (fun g s=>s.1=(g.1:Int)∧g.1≤M.length∧l8 g.2.b∧g.2.b.aG.map (·.id)=T.b.aG.map (·.id)∧(M.drop g.1).foldl (A0X x.aG u) g.2=M.foldl (A0X x.aG u) T2∧g.2.outs.length≤20000000+320*g.1)
     (fun g s=>Y3 t b full g.2::V1 A0q 3 S M::cells rI (Y6 u).toArray::V1 Y6 5 aS A::old h0::L3) (fun g=>M.length-g.1) (0,T2) ⟨rfl,C9 _,ca,jy,rfl,by simp only;omega⟩ ?_ ?_)
    ·show Sub _ (Y3 t b full T2::V1 A0q 3 S M::cells rI (Y6 u).toArray::V1 Y6 5 aS A::old h0::L3)
     repeat(first|with_reducible exact U3|with_reducible exact U4|refine U5 (by repeat first|with_reducible exact V5|apply V7) ?_|refine U6 ?_)
    rintro⟨l,T3⟩ s3 ⟨gB,qC,dc,oX,iB,oy⟩ K3 n1 n2
    simp only at gB qC dc oX iB oy
    by_cases cG:l<M.length
    ·refine Y5 (by rw[gB,lz];exact decide_eq_true (by omega)) ?_
     have iD:M.drop l=M[l]::M.drop (l+1):=E0 cG
     have oj:M[l]? =some M[l]:=B0 cG
     rw[iD,I4] at iB
     generalize M[l]=m at oj iB
     have qF:=B1a (id:=x.aG) (s:=u) T3 m dc
     have ej:At (Y3 t b full (A0X x.aG u T3 m)::V1 A0q 3 S M::cells rI (Y6 u).toArray::V1 Y6 5 aS A::old h0::L3) (K3 (.inl (IntKind.wrap .i64 (s3.1+1),()))):=by
      refine n1 (l+1,A0X x.aG u T3 m) (IntKind.wrap .i64 (s3.1+1),()) (by simp only;omega) ⟨?_,cG,qF.ok,A9E.trans oX,iB,?_⟩
      ·simp only[gB];rw[W6 (by omega) (by omega)];rfl
      ·have:=qF.outs;simp only;omega
     clear n1 n2 iB
     obtain⟨s4,ak,hid⟩:=C7A oX rQ iA
     have ja:(if u.2.1<m.2.2.1 then u.2.1 else m.2.2.1)=min m.2.2.1 u.2.1:=by split<;>omega
     have dj:=A4c (dc.bM s4 ak) (m.1,m.2.1,min m.2.2.1 u.2.1,true,e0S)
     have e9:A0X x.aG u T3 m=u0 x.aG (Z1 s4.out (m.1,m.2.1,min m.2.2.1 u.2.1,true,e0S)).1.2 (A0S (Y4 x.aG (Y9 (Z1 s4.out (m.1,m.2.1,min m.2.2.1 u.2.1,true,e0S)).1.1) T3.b.aG) T3):=by
      unfold A0X A01
      rw[A3u dc.nd ak hid]
     rw[e9] at ej
     refine b9 (enc:=A0q) (xs:=M) (i:=l) cG (fun a3 hP=>?_) (he:=gB)
     refine B2S (x:=m) (v:=m) hP oj ?_
     refine Y8 fun yr=>?_
     refine A0u ?_
     refine W9 ?_
     refine A5H (fun h R=>p9) fun gr iH q2=>?_
     refine W.load (v:=some ⟨b,0,none⟩) ?_
     refine W9 ?_
     refine W.load (v:=some ⟨q2.tb,0,none⟩) ?_
     refine W.load (v:=m.1) ?_
     refine W.load (v:=m.2.1) ?_
     refine W.load (v:=m.2.2.1) ?_
     refine W.load (v:=u.2.1) ?_
     rw[ja]
     refine A7t (fun h R=>A42 ak h R) fun ob ib=>?_
     refine A8o ?_ ?_
     ·refine j2 (B1p hid (At.un ?_))
      repeat(first|refine j1 ?_|refine X9 ?_|refine Y8 fun _=>?_|refine W.load ?_|refine B44 ?_|refine j0 ?_|(refine u7 ?_;try dsimp only)|(refine A8p ?_;try dsimp only)|refine A0u ?_|refine W.store ?_|refine W.store0 ?_|refine A4v ?_|refine A1t ?_ rfl|refine A1s rfl ?_|refine o8 rfl ?_|refine Y5 rfl ?_|refine X1 rfl ?_|refine W.inl ?_|refine W.inr ?_|refine W9 ?_|refine o8 (Go.H.nbq _) ?_|refine X1 (Go.H.nbq _) ?_|refine o8 (Go.H.nbd rfl) ?_|refine X1 (Go.H.nbd rfl) ?_)
      refine Z9 (B49 (b:=ob) (o:=s4.out) (m:=(m.1,m.2.1,min m.2.2.1 u.2.1,true,e0S)) (dc.bM s4 ak) (fun S2=>At.bD (x:=(S2,(Z1 s4.out (m.1,m.2.1,min m.2.2.1 u.2.1,true,e0S)).2,())) ?_))
      refine B0j (A:=A1g q2.tb T3.b.last (Y4 x.aG (Y9 (Z1 s4.out (m.1,m.2.1,min m.2.2.1 u.2.1,true,e0S)).1.1) T3.b.aG)) (fun h hs=>A5a dc.nd ak hid h hs) ?_
      refine W.bJ (A0S (Y4 x.aG (Y9 (Z1 s4.out (m.1,m.2.1,min m.2.2.1 u.2.1,true,e0S)).1.1) T3.b.aG) T3) gr iH q2 ?_
      refine Z9 (A3O (T:=A0S (Y4 x.aG (Y9 (Z1 s4.out (m.1,m.2.1,min m.2.2.1 u.2.1,true,e0S)).1.1) T3.b.aG) T3) (id:=x.aG) (ps:=(Z1 s4.out (m.1,m.2.1,min m.2.2.1 u.2.1,true,e0S)).1.2) (dc.one x.aG) (by have:=dj.2;show T3.outs.length+_≤_;omega) (At.bD ?_))
      exact U9 ej.sub
     ·repeat(first|refine j1 ?_|refine X9 ?_|refine Y8 fun _=>?_|refine W.load ?_|refine B44 ?_|refine j0 ?_|(refine u7 ?_;try dsimp only)|(refine A8p ?_;try dsimp only)|refine A0u ?_|refine W.store ?_|refine W.store0 ?_|refine A4v ?_|refine A1t ?_ rfl|refine A1s rfl ?_|refine o8 rfl ?_|refine Y5 rfl ?_|refine X1 rfl ?_|refine W.inl ?_|refine W.inr ?_|refine W9 ?_|refine o8 (Go.H.nbq _) ?_|refine X1 (Go.H.nbq _) ?_|refine o8 (Go.H.nbd rfl) ?_|refine X1 (Go.H.nbd rfl) ?_)
      refine j2 (B1p hid (At.un ?_))
      repeat(first|refine j1 ?_|refine X9 ?_|refine Y8 fun _=>?_|refine W.load ?_|refine B44 ?_|refine j0 ?_|(refine u7 ?_;try dsimp only)|(refine A8p ?_;try dsimp only)|refine A0u ?_|refine W.store ?_|refine W.store0 ?_|refine A4v ?_|refine A1t ?_ rfl|refine A1s rfl ?_|refine o8 rfl ?_|refine Y5 rfl ?_|refine X1 rfl ?_|refine W.inl ?_|refine W.inr ?_|refine W9 ?_|refine o8 (Go.H.nbq _) ?_|refine X1 (Go.H.nbq _) ?_|refine o8 (Go.H.nbd rfl) ?_|refine X1 (Go.H.nbd rfl) ?_)
      refine Z9 (B49 (b:=ob) (o:=s4.out) (m:=(m.1,m.2.1,min m.2.2.1 u.2.1,true,e0S)) (dc.bM s4 ak) (fun S2=>At.bD (x:=(S2,(Z1 s4.out (m.1,m.2.1,min m.2.2.1 u.2.1,true,e0S)).2,())) ?_))
      refine B0j (A:=A1g q2.tb T3.b.last (Y4 x.aG (Y9 (Z1 s4.out (m.1,m.2.1,min m.2.2.1 u.2.1,true,e0S)).1.1) T3.b.aG)) (fun h hs=>A5a dc.nd ak hid h hs) ?_
      refine W.bJ (A0S (Y4 x.aG (Y9 (Z1 s4.out (m.1,m.2.1,min m.2.2.1 u.2.1,true,e0S)).1.1) T3.b.aG) T3) gr iH q2 ?_
      refine Z9 (A3O (T:=A0S (Y4 x.aG (Y9 (Z1 s4.out (m.1,m.2.1,min m.2.2.1 u.2.1,true,e0S)).1.1) T3.b.aG) T3) (id:=x.aG) (ps:=(Z1 s4.out (m.1,m.2.1,min m.2.2.1 u.2.1,true,e0S)).1.2) (dc.one x.aG) (by have:=dj.2;show T3.outs.length+_≤_;omega) (At.bD ?_))
      exact U9 ej.sub
    ·refine X1 (by rw[gB,lz];exact decide_eq_false (by omega)) (U9 (n2 _ _ (j1 (U9 ?_))))
     have hle:l=M.length:=by omega
     subst hle
     rw[K9,Q6] at iB
     rw[←iB] at aA
     exact aA.sub
  ·refine X1 (by rw[hj,en];exact decide_eq_false (by omega)) (U9 (m2 _ _ (U9 ?_)))
   have oW:j=A.length:=by omega
   subst oW
   rw[K9,Q6] at gb
   rw[gb]
   exact hq.sub
end
section
open Go.H Go.Proofs
variable {h h0:Heap} {L L' L1 L2 L3 R:List Asn} {Q:Value→Heap→Prop}
abbrev A4A(p:Pk):Slc:=p.2.2.2.2.2.2.2.2.2.2.2.2.2.2.2.2.2.2.2.2.2.2.2.2.2.1
theorem B7r{t b:Nat}{full:Bool}{T:V6}{x:Z7}{p:Pk}{pl:List r8}{sl:List A0L}{fl:List B4p}(ht:TP h0)(ag:l8 T.b)(hc:A1I x.c T.b.aB=some x)(hb:T.outs.length≤10000000)(hn:fl.length≤100)
  (hsz:∀f∈fl,f.size≤16777216)
  (hq:At (Y3 t b full (A1L x (pkI p pl sl fl) T)::old h0::L3) (Q (.tuple #[])))(hx:Has L (Y3 t b full T) L1:=by repeat first|with_reducible exact V5|apply V7)(hy:Has L1 (old h0) L2:=by repeat first|with_reducible exact V5|apply V7)(hz:Has L2 (V1 A0p 1 (A4A p) fl) L3:=by repeat first|with_reducible exact V5|apply V7):
  FW prog 66 #[at0 t,.int .i64 x.c,A2B .u8 p] L Q:=by
 refine fun h hs=>A4r (some ⟨t,0,none⟩) x.c p h Q ((?_:W (Y3 t b full T::old h0::V1 A0p 1 (A4A p) fl::L3) _ _) h ((hx.cQ hy hz).s hs))
 clear hs h hx hy hz
 unfold A1L at hq
 simp only at hq
 obtain⟨EF,jD⟩:∃EF,EF=(A0Z x.aG fl T.b.aH).1:=⟨_,rfl⟩
 obtain⟨CF,jn⟩:∃CF,CF=(A0Z x.aG fl T.b.aH).2:=⟨_,rfl⟩
 rw[←jD,←jn] at hq
 delta A3b az bn cb cx A1h ie ix jc ji km kp lt nn nw pu sn sw ve vi vs vz wi
 refine Y8 fun x1=>?_
 refine W.load (v:=p.2.2.2.2.1) ?_
 refine Y8 fun x3=>?_
 refine A0u ?_
 refine W.load (v:=A4A p) ?_
 refine A4u (eKd .u8) 1 ?_
 refine W.cells (b:=x3) (X4 .u8 (pkT (l6 11 (p.2.2.2.2.1) 0) ⟨none,0,0⟩ ⟨none,0,0⟩)).toArray ?_
 refine Y7 (X7 (enc:=A0p) (size:=1) (s:=A4A p) (xs:=fl)) fun hl=>?_
 refine W.loop (γ:=Nat×List Ent×List Int×Slc) (fun g s=>s.1=(g.1:Int)∧g.1≤fl.length∧g.2.1.length≤T.b.aH.length∧(A0Z x.aG (fl.drop g.1) g.2.1).1=EF∧g.2.2.1++(A0Z x.aG (fl.drop g.1) g.2.1).2=CF∧g.2.2.1.length=g.1)
  (fun g s=>Y3 t b full (A1z g.2.1 T)::V1 (eKd .u8) 1 g.2.2.2 g.2.2.1::cells x3 (X4 .u8 (pkT (l6 11 (p.2.2.2.2.1) 0) g.2.2.2 ⟨none,0,0⟩)).toArray::V1 A0p 1 (A4A p) fl::old h0::L3)
  (fun g=>fl.length-g.1) (0,T.b.aH,[],⟨none,0,0⟩) ⟨rfl,C9 _,D9 _,jD.symm,jn.symm,rfl⟩ ?_ ?_
 ·show Sub _ (Y3 t b full T::V1 (eKd .u8) 1 ⟨none,0,0⟩ ([]:List Int)::cells x3 (X4 .u8 (pkT (l6 11 (p.2.2.2.2.1) 0) ⟨none,0,0⟩ ⟨none,0,0⟩)).toArray::V1 A0p 1 (A4A p) fl::old h0::L3)
  repeat(first|with_reducible exact U3|with_reducible exact U4|refine U5 (by repeat first|with_reducible exact V5|apply V7) ?_|refine U6 ?_)
 rintro⟨i,E,cs,cS⟩ s ⟨hi,cF,lL,cI,cJ,bg⟩ K k1 k2
 simp only at hi cF lL cI cJ bg
 by_cases ah:i<fl.length
 ·refine Y5 (by rw[hi,hl];exact decide_eq_true (by omega)) ?_
  have bG:fl.drop i=fl[i]::fl.drop (i+1):=E0 ah
  have aP:fl[i]? =some fl[i]:=B0 ah
  have an:fl[i]∈fl:=H6 ah
  rw[bG] at cI cJ
  generalize fl[i]=u at aP an cI cJ
  clear bG
  unfold A0Z at cI cJ
  simp only at cI cJ
  have bl:=ag.aH
  refine b9 (enc:=A0p) (xs:=fl) (i:=i) ah (fun a ha=>?_) (he:=hi)
  refine A9y (x:=u) (v:=u) ha aP ?_
  refine W9 ?_
  refine A5H (fun h R=>p9) fun so sp q=>?_
  refine W.load (v:=some ⟨b,0,none⟩) ?_
  refine W9 ?_
  refine W.load ?_
  refine W9 ?_
  refine W.load (v:=some ⟨b,0,none⟩) ?_
  refine W9 ?_
  refine W.load (v:=some q.cm) ?_
  refine W.lookup (kind:=.agg tC) kKI x.c ?_
  rw[A3T,hc]
  refine j2 (C1U (t:=q.sb) (E:=E) (id:=x.aG) (f:=u) ht (hsz u an) (by omega) (At.un ?_))
  refine W.bJ (A1z (A1S E x.aG u) T) so sp q ?_
  refine A1j (fun a=>a.1=if(A1S E x.aG u).length<E.length then 0 else 17) (fun K2 aQ=>A0s (fun e=>U9 (aQ _ (if_pos (by simpa using e)).symm)) (fun e=>U9 (aQ _ (if_neg (by simpa using e)).symm))) (fun a iK=>?_)
  refine W.load (v:=cS) ?_
  refine C1H (enc:=eKd .u8) (xs:=cs) (s:=cS) a.1 (fun s'=>?_) (by omega)
  refine W.store (cs':=(X4 .u8 (pkT (l6 11 (p.2.2.2.2.1) 0) s' ⟨none,0,0⟩)).toArray) ?_
  have oC:(A1S E x.aG u).length≤T.b.aH.length:=C4 C1m lL
  have f1:IntKind.wrap .i64 (s.1+1)=((i+1:Nat):Int):=by rw[hi,W6 (by omega) (by omega)];rfl
  have f2:(cs++[a.1])++(A0Z x.aG (fl.drop (i+1)) (A1S E x.aG u)).2=CF:=by rw[iK,D7];exact cJ
  have hn:=k1 (i+1,A1S E x.aG u,cs++[a.1],s') (IntKind.wrap .i64 (s.1+1),()) (by simp only;omega) ⟨f1,ah,oC,cI,f2,by simp[bg]⟩
  exact U9 hn.sub
 ·refine X1 (by rw[hi,hl];exact decide_eq_false (by omega)) (U9 (k2 _ _ ?_))
  have ff:i=fl.length:=by omega
  subst ff
  rw[K9] at cI cJ
  simp only[A0Z,C1] at cI cJ
  subst cI cJ
  refine u7 (v:=pkT (A03 11 (p.2.2.2.2.1) cs) cS ⟨none,0,0⟩) ?_
  refine A4u X6 4 ?_
  refine W.dB (A:=pkB .u8 (cS,⟨none,0,0⟩,A03 11 (p.2.2.2.2.1) cs)) (B:=V1 (eKd .u8) 1 cS cs) (C:=V1 X6 4 ⟨none,0,0⟩ ([]:List r8)) (fun h hs=>A4Q.2 hs) ?_
  refine Z9 (B87 (T:=A1z E T) (c:=x.c) (o:=A03 11 (p.2.2.2.2.1) cs) (ci:=cS) (pi:=⟨none,0,0⟩) (by show T.outs.length≤_;omega) (At.bD ?_))
  exact U9 hq.sub
theorem D0j{α:Type}{P:Program}{k:Kind}{fn:FuncId}{first captured args:D0q}{f:k.ty→HM α}{Q':α→Heap→Prop}(ag:A1H P fn)(hc:FW P fn (first++args++captured) L (k.un fun x h'=>f x h' Q')):
  W L (HM.bind (B8T P k (.func (.func fn) first captured) args) f) Q':=fun h hs=>
 ⟨fn,first,captured,rfl,ag,hc h hs⟩
abbrev prU(u:r8):Int×Int×B4p×B4p×Unit:=(u.1,u.2.1,u.2.2.1,u.2.2.2,())
theorem C6s{S:Slc}{pl:List r8}{id:Int}(hn:pl.length≤1000)(hq:At (V1 X6 4 S pl::L1) (Q (.tuple #[.agg (X6 ((A02 id pl).getD (0,0,e0S,e0S))).toArray,.bool (A02 id pl).isSome])))
  (hx:Has L (V1 X6 4 S pl) L1:=by repeat first|with_reducible exact V5|apply V7):FW prog 70 #[.slice S.a S.len S.cap,.int .i64 id] L Q:=by
 refine fun h hs=>B4T S id h Q ((?_:W (V1 X6 4 S pl::L1) _ _) h (hx.s hs))
 clear hs h hx
 delta B8i az ci g8 ie ix nw pu sn ve vi vs
 refine Y8 fun x1=>?_
 refine Y8 fun x2=>?_
 refine j2 (fun h hs=>A3B S _ h _ ((?_:W (cells x2 zS8::cells x1 #[.int .i64 id]::V1 X6 4 S pl::L1) _ _) h hs))
 delta A2w bn g8 ie ix pu wi
 refine Y7 (X7 (enc:=X6) (size:=4) (s:=S) (xs:=pl)) fun hl=>?_
 refine W.loop (γ:=Nat) (fun g s=>s.1=(g:Int)∧g≤pl.length∧A02 id (pl.take g)=none) (fun g s=>cells x2 zS8::cells x1 #[.int .i64 id]::V1 X6 4 S pl::L1) (fun g=>pl.length-g) 0 ⟨rfl,C9 _,rfl⟩ Sub.rfl ?_
 rintro i s ⟨hi,cF,hf⟩ K k1 k2
 by_cases ah:i<pl.length
 ·refine Y5 (by rw[hi,hl];exact decide_eq_true (by omega)) ?_
  have aP:pl[i]? =some pl[i]:=B0 ah
  have aR:pl.take (i+1)=pl.take i++[pl[i]]:=C3 ah
  have ei:pl=pl.take i++pl[i]::pl.drop (i+1):=by rw[←E0 ah,J0]
  generalize pl[i]=u at aP aR ei
  refine b9 (enc:=X6) (xs:=pl) (i:=i) ah (fun a ha=>?_) (he:=hi)
  refine B2S (x:=u) (v:=prU u) ha aP ?_
  refine D0j call115 (fun h hs=>B05 (prU u) ⟨x1,0,none⟩ h _ ((?_:W (cells x2 zS8::cells x1 #[.int .i64 id]::V1 X6 4 S pl::L1) _ _) h hs))
  delta B15 ji li nw pu
  refine Y8 fun x4=>?_
  refine W.load (v:=u.1) ?_
  refine B44 (v:=id) ?_
  refine U9 (At.un (x:=u.1==id) ?_)
  by_cases hu:u.1=id
  ·refine Y5 (by simpa using hu) ?_
   refine U9 (k2 _ _ ?_)
   refine U9 (At.un (x:=s.1) ?_)
   have ud:A02 id pl=some u:=by
    rw[ei];unfold A02 at hf⊢
    rw[P5,hf,Option.none_or,R6 (by simpa using hu)]
   rw[ud] at hq
   refine X1 (by rw[hi];exact decide_eq_false (by omega)) ?_
   refine b9 (enc:=X6) (xs:=pl) (i:=i) ah (fun a ha=>?_) (he:=hi)
   refine B2S (x:=u) (v:=prU u) ha aP ?_
   refine A0u ?_
   refine u7 (v:=prU u) ?_
   exact U9 hq.sub
  ·refine X1 (by simpa using hu) ?_
   have f1:IntKind.wrap .i64 (s.1+1)=((i+1:Nat):Int):=by rw[hi,W6 (by omega) (by omega)];rfl
   have f2:A02 id (pl.take (i+1))=none:=by
    rw[aR];unfold A02 at hf⊢
    rw[P5,hf,Option.none_or,List.find?_cons_of_neg (by simpa using hu)];rfl
   have hn:=k1 (i+1) (IntKind.wrap .i64 (s.1+1),()) (by omega) ⟨f1,ah,f2⟩
   exact U9 hn.sub
 ·refine X1 (by rw[hi,hl];exact decide_eq_false (by omega)) (U9 (k2 _ _ ?_))
  have ff:i=pl.length:=by omega
  subst ff
  rw[F5] at hf
  rw[hf] at hq
  refine U9 (At.un (x:=(-1:Int)) ?_)
  refine Y5 (by decide) ?_
  refine A0u ?_
  refine u7 (v:=prU (0,0,e0S,e0S)) ?_
  exact U9 hq.sub
end
section
open Go.H Go.Proofs
abbrev A2y(s:W7):Int×B4p:=(s.id,s.aD)
structure Y1(B:i6)(n:Nat):Prop extends l8 B where
 cZ:0≤B.last
 cM:B.last≤n
 dQ:∀s∈B.aG,1≤s.id∧s.id≤B.last
 dE:(B.aG.map (·.id)).Pairwise (·< ·)
 dV:(B.aG.map (·.aD)).Nodup
 n32:B.aG.length≤32
 eV:∀i,A1i B.aH i≤64
theorem B64{A E:List Ent}(h:A.Sublist E)(i:Int):A1i A i≤A1i E i:=(h.map _).count_le _
theorem Y1.sub{B B':i6}{n:Nat}(h:Y1 B n)(h':l8 B')(hl:B'.last=B.last)(hk:(B'.aG.map A2y).Sublist (B.aG.map A2y))(he:B'.aH.Sublist B.aH):Y1 B' n:=by
 have e1:∀A:List W7,(A.map A2y).map (·.1)=A.map (·.id):=fun A=>by rw[F3];rfl
 have e2:∀A:List W7,(A.map A2y).map (·.2)=A.map (·.aD):=fun A=>by rw[F3];rfl
 have k1:=hk.map (·.1)
 have k2:=hk.map (·.2)
 rw[e1,e1] at k1
 rw[e2,e2] at k2
 refine{h' with cZ:=by rw[hl];exact h.cZ,cM:=by rw[hl];exact h.cM,dQ:=fun s hs=>?_,dE:=h.dE.sublist k1,dV:=h.dV.sublist k2,n32:=?_,eV:=fun i=>C4 (B64 he i) (h.eV i)}
 ·have:s.id∈B.aG.map (·.id):=k1.subset (B4 hs)
  obtain⟨s',af,he⟩:=E3.1 this
  have:=h.dQ s' af
  rw[hl];rw[he] at this;exact this
 ·have:=hk.length_le
  simp only[C0] at this
  exact C4 this h.n32
theorem B1C{k:Int}{f:W7→W7}(hf:∀s,A2y (f s)=A2y s)(A:List W7):(Y4 k f A).map A2y=A.map A2y:=by
 unfold Y4
 rw[F3]
 refine I2 fun s _=>?_
 simp only[Function.comp]
 split
 ·exact hf s
 ·rfl
theorem B3n{id:Int}{f:b7→b7×List PkO}{T:V6}:(A01 id f T).b.aG.map A2y=T.b.aG.map A2y:=by
 unfold A01
 split
 ·rfl
 ·rename_i s _
  exact B1C (f:=Y9 (f s.out).1) (fun _=>rfl) _
theorem B2y{α:Type}{g:V6→α→V6}(hg:∀T x,(g T x).b.aG.map A2y=T.b.aG.map A2y):∀(l:List α) {T:V6},(l.foldl g T).b.aG.map A2y=T.b.aG.map A2y
 |[],_=>rfl
 |x::l,T=>(B2y hg l).trans (hg T x)
theorem B3B{m:MsT}{T:V6}:(A0Q m T).b.aG.map A2y=T.b.aG.map A2y:=by
 unfold A0Q
 rw[B2y (g:=A1o m (T.b.aH.filter fun x=>Z8 x.2.1 m.1)) fun T x=>B3n]
 unfold A2i;split<;>rfl
theorem C1j{k:Int}{B:i6}:((A9q k B).aG.map A2y).Sublist (B.aG.map A2y):=by
 unfold A9q
 split
 ·exact G6 _
 ·split
  ·exact G6 _
  ·split
   ·show((Y4 k A8O B.aG).map A2y).Sublist _
    rw[B1C (f:=A8O) fun _=>rfl];exact G6 _
   ·exact I5.map _
theorem B6A{full:Bool}{c:Int}{w:Bool}{T:V6}:((A4U full c w T).b.aG.map A2y).Sublist (T.b.aG.map A2y):=by
 unfold A4U
 split
 ·exact G6 _
 ·simp only
  split
  ·show((A0Q _ _).b.aG.map A2y).Sublist _
   rw[B3B];exact C1j
  ·exact C1j
theorem B8H{k:Int}{B:i6}:(A9q k B).aH.Sublist B.aH:=by
 unfold A9q
 split
 ·exact G6 _
 ·split
  ·exact G6 _
  ·split
   ·exact G6 _
   ·exact I5
theorem B8A{α:Type}{g:V6→α→V6}(hg:∀T x,(g T x).b.aH=T.b.aH):∀(l:List α) {T:V6},(l.foldl g T).b.aH=T.b.aH
 |[],_=>rfl
 |x::l,T=>(B8A hg l).trans (hg T x)
theorem C2k{id:Int}{f:b7→b7×List PkO}{T:V6}:(A01 id f T).b.aH=T.b.aH:=by
 unfold A01;split<;>rfl
theorem C2D{m:MsT}{T:V6}:(A0Q m T).b.aH=T.b.aH:=by
 unfold A0Q
 rw[B8A (g:=A1o m (T.b.aH.filter fun x=>Z8 x.2.1 m.1)) fun T x=>C2k]
 unfold A2i;split<;>rfl
theorem B3G{full:Bool}{c:Int}{w:Bool}{T:V6}:(A4U full c w T).b.aH.Sublist T.b.aH:=by
 unfold A4U
 split
 ·exact G6 _
 ·simp only
  split
  ·show((A0Q _ _).b.aH).Sublist _
   rw[C2D];exact B8H
  ·exact B8H
theorem C0W{id:Int}(T:V6)(s:A0L):(l0 id T s).b.aG.map A2y=T.b.aG.map A2y:=by
 unfold l0
 split
 ·rfl
 ·exact B2y (fun T m=>B3n) _
theorem B2e{α β:Type}{f:α→β}{A:List α}(hn:(A.map f).Nodup){s t:α}(hs:s∈A)(ht:t∈A)(e:f s=f t):s=t:=by
 obtain⟨l1,l2,rfl⟩:=H0 hs
 rw[B8,B5,G3] at hn
 rcases C7.1 ht with hm|hm
 ·exact absurd e.symm (hn.2.2 _ (B4 hm) _ (B6 ..))
 ·rcases D3.1 hm with rfl|hm
  ·rfl
  ·exact absurd (B4 (f:=f) hm) (by rw[←e];exact(G0.1 hn.2.1).1)
theorem C0T{full:Bool}{s:W7}{T:V6}(h:l8 T.b)(cd:(T.b.aB.map (·.c)).Nodup):l8 (A3q full s T).b∧(A3q full s T).outs.length≤T.outs.length+3200001∧(A3q full s T).aT.length≤T.aT.length+3200001∧(A3q full s T).b.aB=T.b.aB.filter (fun y=>decide (y.aG≠s.id))∧(A3q full s T).b.last=T.b.last∧((A3q full s T).b.aG.map A2y).Sublist (T.b.aG.map A2y)∧(A3q full s T).b.aH.Sublist T.b.aH:=by
 unfold A3q
 cases hg:T.b.aB.find? (fun x=>decide (x.aG=s.id)) with
 |none=>
  have hf:T.b.aB.filter (fun y=>decide (y.aG≠s.id))=T.b.aB:=H3.2 fun y hy=>by
   have:=E7.1 hg y hy
   simpa using this
  exact⟨h,L7 _ _,L7 _ _,hf.symm,rfl,G6 _,G6 _⟩
 |some x=>
  have hx:=H2 hg
  have fU:x.aG=s.id:=by simpa using N3 hg
  have h1:=B0W (full:=full) (c:=x.c) (code:=142) (T:=T) h
  refine⟨h1.1,h1.2.1,h1.2.2.1,h1.2.2.2.1.trans ?_,h1.2.2.2.2,B6A,B3G⟩
  refine L9 fun y hy=>?_
  refine F8.2 ⟨fun bS=>?_,fun bS=>?_⟩
  ·rw[←fU];exact h.other hx hy bS
  ·intro e
   exact bS (by rw[←fU];exact congrArg Z7.aG (B2e (f:=(·.c)) cd hy hx e))
noncomputable def A1c(full:Bool)(c:B4p)(T:V6):V6:=match ofS c T.b.aG with
 |some s=>A3q full s T
 |none=>T
theorem B2o{full:Bool}{c:B4p}{T:V6}{n:Nat}(h:Y1 T.b n)(cd:(T.b.aB.map (·.c)).Nodup)(eK:ofS c T.b.aG=none→T.b.aG.length<32):
  Y1 (A1c full c T).b n∧(A1c full c T).outs.length≤T.outs.length+3200001∧(A1c full c T).aT.length≤T.aT.length+3200001∧(∀y∈(A1c full c T).b.aB,y∈T.b.aB∧∀s,ofS c T.b.aG=some s→y.aG≠s.id)∧(ofS c (A1c full c T).b.aG=none→(A1c full c T).b.aG.length<32)∧(∀s',ofS c (A1c full c T).b.aG=some s'→∃s,ofS c T.b.aG=some s∧s.id=s'.id):=by
 unfold A1c
 cases ho:ofS c T.b.aG with
 |none=>
  exact⟨h,L7 _ _,L7 _ _,fun y hy=>⟨hy,fun s hs=>(by cases hs)⟩,fun _=>eK ho,fun s' af=>(by rw[ho] at af;cases af)⟩
 |some s=>
  have lZ:s∈T.b.aG:=H2 ho
  have tn:s.aD=c:=by simpa using N3 ho
  obtain⟨k1,k2,k3,k4,k5,k6,k7⟩:=C0T (full:=full) (s:=s) h.tol8 cd
  simp only
  refine⟨h.sub k1 k5 k6 k7,k2,k3,fun y hy=>?_,fun ay=>?_,fun s' af=>⟨s,rfl,?_⟩⟩
  ·rw[k4] at hy
   obtain⟨h1,h2⟩:=E6.1 hy
   exact⟨h1,fun s' af=>by cases af;simpa using h2⟩
  ·refine Nat.lt_of_not_le fun qM=>?_
   have hl:=k6.length_le
   simp only[C0] at hl
   have:=h.n32
   have he:(A3q full s T).b.aG.map A2y=T.b.aG.map A2y:=k6.eq_of_length (by simp only[C0];omega)
   have hm:A2y s∈(A3q full s T).b.aG.map A2y:=by rw[he];exact B4 lZ
   obtain⟨s',af,hk⟩:=E3.1 hm
   have:=E7.1 ay s' af
   have e2:s'.aD=c:=by rw[←tn];exact congrArg Prod.snd hk
   exact this (by simpa using e2)
  ·have h3:s'∈(A3q full s T).b.aG:=H2 af
   have h4:s'.aD=c:=by simpa using N3 af
   obtain⟨s0,h5,h6⟩:=E3.1 (k6.subset (B4 h3))
   have h7:s0=s:=B2e (f:=(·.aD)) h.dV h5 lZ ((congrArg Prod.snd h6).trans (h4.trans tn.symm))
   rw[←h7];exact congrArg Prod.fst h6
theorem Y1.s2k{B:i6}{n:Nat}(h:Y1 B n):B.aH.length≤2048:=by
 have key:∀(ids:List Int) (E:List Ent),(∀e∈E,e.1∈ids)→(∀i,A1i E i≤64)→E.length≤64*ids.length:=by
  intro ids
  induction ids with
  |nil=>
   intro E hE _
   cases E with
   |nil=>simp
   |cons e E=>cases hE e (B6 ..)
  |cons i ids ih=>
   intro E hE hc
   have h1:=ih (E.filter fun e=> !decide (e.1=i)) (fun e he=>by
    obtain⟨h1,h2⟩:=E6.1 he
    rcases D3.1 (hE e h1) with h3|h3
    ·simp[h3] at h2
    ·exact h3) (fun j=>C4 (B64 I5 j) (hc j))
   have h2:E.length=(E.filter fun e=>decide (e.1=i)).length+(E.filter fun e=> !decide (e.1=i)).length:=by
    clear hE hc h1
    induction E with
    |nil=>rfl
    |cons e E ihE=>
     by_cases he:e.1=i
     ·rw[G9 (by simpa using he),G2 (by simpa using he),B7,B7,ihE];omega
     ·rw[G2 (by simpa using he),G9 (by simpa using he),B7,B7,ihE];omega
   have h3:(E.filter fun e=>decide (e.1=i)).length=A1i E i:=by
    unfold A1i
    rw[List.count_eq_countP,List.countP_map,List.countP_eq_length_filter]
    congr 1
   have:=hc i
   rw[B7]
   omega
 have h1:=key (B.aG.map (·.id)) B.aH (fun e he=>by
  obtain⟨s,hs,hi⟩:=h.live e he
  exact hi▸B4 hs) h.eV
 rw[C0] at h1
 have:=h.n32
 omega
theorem C4h{k:Int}{f:W7→W7}{A:List W7}{x:W7}(h:x∈Y4 k f A):(x∈A∧x.id≠k)∨∃s∈A,s.id=k∧x=f s:=by
 unfold Y4 at h
 obtain⟨s,hs,rfl⟩:=E3.1 h
 split
 ·exact .inr ⟨s,hs,by assumption,rfl⟩
 ·exact .inl ⟨hs,by assumption⟩
theorem C3D{C:List Z7}{x:Z7}(h1:∀id:Int,(C.filter fun y=>decide (y.aG=id)).length≤1)(h2:∀y∈C,y.aG≠x.aG)(id:Int):((C++[x]).filter fun y=>decide (y.aG=id)).length≤1:=by
 rw[F4,B3]
 by_cases e:x.aG=id
 ·subst e
  have:C.filter (fun y=>decide (y.aG=x.aG))=[]:=J3.2 fun y hy=>by simpa using h2 y hy
  rw[this]
  simp
 ·have:[x].filter (fun y=>decide (y.aG=id))=[]:=J3.2 fun y hy=>by rw[B9.1 hy];simpa using e
  rw[this]
  simpa using h1 id
theorem C7G{B:i6}{n:Nat}{s':W7}{x:Z7}{aO:Bool}(h:Y1 B n)(hs:s'∈B.aG)(hc:∀y∈B.aB,y.aG≠s'.id)(hx:x.aG=s'.id)(hw:x.aX.1.size≤9223372036854775807∧ -9223372036854775808≤x.c∧x.c≤9223372036854775807):
  Y1 ⟨B.last,Y4 s'.id (fun s=>{s with on:=true,aO:=aO}) B.aG,B.aH,B.kept,B.aB++[x]⟩ (n+1) where
 aH:=h.aH
 bM:=fun s hs=>by
  rcases A4b hs with hs|⟨s1,h1,_,rfl⟩
  ·exact h.bM s hs
  ·exact h.bM s1 h1
 live:=fun e he=>A3g (f:=fun s=>{s with on:=true,aO:=aO}) (fun _=>rfl) (h.live e he)
 one:=C3D h.one (fun y hy=>by rw[hx];exact hc y hy)
 nd:=by
  show((Y4 s'.id (fun s=>{s with on:=true,aO:=aO}) B.aG).map (·.id)).Nodup
  rw[A6U (f:=fun s=>{s with on:=true,aO:=aO}) fun _=>rfl];exact h.nd
 cl:=fun y hy=>A3g (f:=fun s=>{s with on:=true,aO:=aO}) (fun _=>rfl) (by
  rcases C7.1 hy with hy|hy
  ·exact h.cl y hy
  ·rw[B9.1 hy];exact⟨s',hs,hx.symm⟩)
 dR:=fun y hy s ae e=>by
  rcases C4h ae with⟨h1,h2⟩|⟨s1,h1,h2,rfl⟩
  ·rcases C7.1 hy with hy|hy
   ·exact h.dR y hy s h1 e
   ·rw[B9.1 hy,hx] at e;exact absurd e h2
  ·rfl
 wl:=fun y hy=>by
  rcases C7.1 hy with hy|hy
  ·exact h.wl y hy
  ·rw[B9.1 hy];exact hw
 cZ:=h.cZ
 cM:=by have:=h.cM;simp only;omega
 dQ:=fun s hs=>by
  rcases A4b hs with hs|⟨s1,h1,_,rfl⟩
  ·exact h.dQ s hs
  ·exact h.dQ s1 h1
 dE:=by
  show((Y4 s'.id (fun s=>{s with on:=true,aO:=aO}) B.aG).map (·.id)).Pairwise (·< ·)
  rw[A6U (f:=fun s=>{s with on:=true,aO:=aO}) fun _=>rfl];exact h.dE
 dV:=by
  have e:(Y4 s'.id (fun s=>{s with on:=true,aO:=aO}) B.aG).map (·.aD)=B.aG.map (·.aD):=by
   have h1:=congrArg (List.map Prod.snd) (B1C (k:=s'.id) (f:=fun s=>{s with on:=true,aO:=aO}) (fun _=>rfl) B.aG)
   rw[F3,F3] at h1
   exact h1
  show((Y4 s'.id (fun s=>{s with on:=true,aO:=aO}) B.aG).map (·.aD)).Nodup
  rw[e];exact h.dV
 n32:=by
  show(Y4 s'.id (fun s=>{s with on:=true,aO:=aO}) B.aG).length≤32
  unfold Y4;rw[C0];exact h.n32
 eV:=h.eV
theorem C53{B:i6}{n:Nat}{A:List W7}{E:List Ent}{x:Z7}{aD:B4p}{aO:Bool}(h:Y1 B n)(hA:A.Sublist B.aG)(hE:E.Sublist B.aH)(hl:∀e∈E,∃s∈A,s.id=e.1)(hc:∀y∈B.aB,∃s∈A,s.id=y.aG)(hn:∀s∈A,s.aD≠aD)(eK:A.length<32)
  (hx:x.aG=B.last+1)(hw:x.aX.1.size≤9223372036854775807∧ -9223372036854775808≤x.c∧x.c≤9223372036854775807):Y1 ⟨B.last+1,A++[A2E (B.last+1) aD aO],E,B.kept,B.aB++[x]⟩ (n+1):=by
 have ah:∀s∈A,s.id<B.last+1:=fun s hs=>by have:=(h.dQ s (hA.subset hs)).2;omega
 have gU:∀{s},s∈A++[A2E (B.last+1) aD aO]→s∈A∨s=A2E (B.last+1) aD aO:=fun hs=>by
  rcases C7.1 hs with hs|hs
  ·exact .inl hs
  ·exact .inr (B9.1 hs)
 refine{aH:=C4 hE.length_le h.aH,bM:=fun s hs=>?_,live:=fun e he=>?_,one:=C3D h.one (fun y hy=>?_),nd:=?_,cl:=fun y hy=>?_,dR:=fun y hy s hs e=>?_,wl:=fun y hy=>?_,cZ:=by have:=h.cZ;simp only;omega,cM:=by have:=h.cM;simp only;omega,dQ:=fun s hs=>?_,dE:=?_,dV:=?_,n32:=by rw[B3];exact eK,eV:=fun i=>C4 (B64 hE i) (h.eV i)}
 ·rcases gU hs with hs|rfl
  ·exact h.bM s (hA.subset hs)
  ·exact X5.new
 ·obtain⟨s,hs,hi⟩:=hl e he
  exact⟨s,M0 _ hs,hi⟩
 ·obtain⟨s,hs,hi⟩:=hc y hy
  have:=ah s hs
  omega
 ·show((A++[A2E (B.last+1) aD aO]).map (·.id)).Nodup
  rw[B8,G3]
  refine⟨h.nd.sublist (hA.map _),by simp,fun a ha b hb=>?_⟩
  obtain⟨s,hs,rfl⟩:=E3.1 ha
  have:=ah s hs
  rw[B5,I3,B9] at hb
  rw[hb]
  show s.id≠B.last+1
  omega
 ·rcases C7.1 hy with hy|hy
  ·obtain⟨s,hs,hi⟩:=hc y hy
   exact⟨s,M0 _ hs,hi⟩
  ·rw[B9.1 hy];exact⟨A2E (B.last+1) aD aO,G8 _ (B9.2 rfl),hx.symm⟩
 ·rcases gU hs with hs|rfl
  ·rcases C7.1 hy with hy|hy
   ·exact h.dR y hy s (hA.subset hs) e
   ·rw[B9.1 hy] at e
    have:=ah s hs
    omega
  ·rfl
 ·rcases C7.1 hy with hy|hy
  ·exact h.wl y hy
  ·rw[B9.1 hy];exact hw
 ·rcases gU hs with hs|rfl
  ·have:=h.dQ s (hA.subset hs);simp only;omega
  ·have:=h.cZ;show 1≤B.last+1∧B.last+1≤B.last+1;omega
 ·show((A++[A2E (B.last+1) aD aO]).map (·.id)).Pairwise (·< ·)
  rw[B8,I6]
  refine⟨h.dE.sublist (hA.map _),by simp,fun a ha b hb=>?_⟩
  obtain⟨s,hs,rfl⟩:=E3.1 ha
  have:=ah s hs
  rw[B5,I3,B9] at hb
  rw[hb]
  exact this
 ·show((A++[A2E (B.last+1) aD aO]).map (·.aD)).Nodup
  rw[B8,G3]
  refine⟨h.dV.sublist (hA.map _),by simp,fun a ha b hb=>?_⟩
  obtain⟨s,hs,rfl⟩:=E3.1 ha
  rw[B5,I3,B9] at hb
  rw[hb]
  exact hn s hs
def A2a(o:Option W7)(k:Int)(E:List Ent):List Ent:=match o with
 |some s=>if s.id≠k then A1q s.id E else E
 |none=>E
theorem B7c{B:i6}{n:Nat}{o:Option W7}{aD:B4p}{clean aO:Bool}{x:Z7}(h:Y1 B n)(ho:∀s',ofS aD B.aG=some s'→∃s,o=some s∧s.id=s'.id)(hc:∀y∈B.aB,∀s,o=some s→y.aG≠s.id)(eK:ofS aD B.aG=none→B.aG.length<32)
  (hx:x.aG=(j8 aD clean aO B).1.1)(hw:x.aX.1.size≤9223372036854775807∧ -9223372036854775808≤x.c∧x.c≤9223372036854775807):
  Y1 ⟨(j8 aD clean aO B).2.last,(j8 aD clean aO B).2.aG,A2a o (j8 aD clean aO B).1.1 B.aH,B.kept,B.aB++[x]⟩ (n+1)∧∃s∈(j8 aD clean aO B).2.aG,s.id=(j8 aD clean aO B).1.1:=by
 have iO:∀k (E:List Ent),(A1q k E).Sublist E:=fun k E=>I5
 unfold j8 at hx⊢
 cases hg:ofS aD B.aG with
 |none=>
  rw[hg] at hx
  have ay:∀s∈B.aG,s.aD≠aD:=fun s hs=>by simpa using E7.1 hg s hs
  have bl:(A2a o (B.last+1) B.aH).Sublist B.aH:=by
   unfold A2a;split
   ·split
    ·exact iO _ _
    ·exact G6 _
   ·exact G6 _
  exact⟨C53 h (G6 _) bl (fun e he=>h.live e (bl.subset he)) h.cl ay (eK hg) hx hw,A2E (B.last+1) aD aO,G8 _ (B9.2 rfl),rfl⟩
 |some s'=>
  obtain⟨s,rfl,hid⟩:=ho s' hg
  have hm:s'∈B.aG:=H2 hg
  have bg:s'.aD=aD:=by simpa using N3 hg
  have qZ:∀y∈B.aB,y.aG≠s'.id:=fun y hy=>by rw[←hid];exact hc y hy s rfl
  rw[hg] at hx
  simp only at hx⊢
  by_cases cd:clean=false
  ·rw[if_pos cd] at hx⊢
   have e:A2a (some s) s'.id B.aH=B.aH:=by unfold A2a;simp[hid]
   simp only[e]
   exact⟨C7G h hm qZ hx hw,A3g (f:=fun s=>{s with on:=true,aO:=aO}) (fun _=>rfl) ⟨s',hm,rfl⟩⟩
  ·rw[if_neg cd] at hx⊢
   have bS:s.id≠B.last+1:=by have:=(h.dQ s' hm).2;omega
   have e:A2a (some s) (B.last+1) B.aH=A1q s'.id B.aH:=by
    show(if s.id≠B.last+1 then A1q s.id B.aH else B.aH)=_
    rw[if_pos bS,hid]
   simp only[e]
   have eB:∀{i},i≠s'.id→(∃s∈B.aG,s.id=i)→∃s∈B.aG.filter (fun x=>decide (x.id≠s'.id)),s.id=i:=fun hi ⟨s1,h1,h2⟩=>⟨s1,E6.2 ⟨h1,by rw[h2];simpa using hi⟩,h2⟩
   have ah:(B.aG.filter fun x=>decide (x.id≠s'.id)).length<B.aG.length:=by
    refine Nat.lt_of_le_of_ne (D2 _ _) fun e=>?_
    have:=N9.1 e s' hm
    simp at this
   refine⟨C53 h I5 (iO _ _) (fun e he=>?_) (fun y hy=>eB (qZ y hy) (h.cl y hy)) (fun s1 aa e1=>?_) (Nat.lt_of_lt_of_le ah h.n32) hx hw,A2E (B.last+1) aD aO,G8 _ (B9.2 rfl),rfl⟩
   ·obtain⟨h1,h2⟩:=E6.1 he
    exact eB (by simpa using h2) (h.live e h1)
   ·obtain⟨h1,h2⟩:=E6.1 aa
    have:=B2e (f:=(·.aD)) h.dV h1 hm (e1.trans bg.symm)
    subst this
    simp at h2
theorem A45{full:Bool}{c:Int}{p:PkI}{T:V6}:C2z full c p T=A01 (j8 p.aD p.clean (A0n p.props) (A1c full p.aD T).b).1.1 (fun o=>A0z o (A1Y p.props)) (A0N ⟨c,A2b (j8 p.aD p.clean (A0n p.props) (A1c full p.aD T).b).1.2,false⟩
  (tB ⟨(j8 p.aD p.clean (A0n p.props) (A1c full p.aD T).b).2.last,(j8 p.aD p.clean (A0n p.props) (A1c full p.aD T).b).2.aG,A2a (ofS p.aD T.b.aG) (j8 p.aD p.clean (A0n p.props) (A1c full p.aD T).b).1.1 (j8 p.aD p.clean (A0n p.props) (A1c full p.aD T).b).2.aH,
   (j8 p.aD p.clean (A0n p.props) (A1c full p.aD T).b).2.kept,(j8 p.aD p.clean (A0n p.props) (A1c full p.aD T).b).2.aB++[⟨c,(j8 p.aD p.clean (A0n p.props) (A1c full p.aD T).b).1.1,p.bE,(p.aX.1,p.aX.2.1,p.aX.2.2.1,p.aX.2.2.2.1,e0S)⟩]⟩ (A1c full p.aD T))):=by
 unfold C2z A1c A2a
 cases ofS p.aD T.b.aG with
 |none=>rfl
 |some s=>simp only;split<;>rfl
variable {h h0:Heap} {L L' L1 L2 L3 R:List Asn} {Q:Value→Heap→Prop}
theorem C7Q{γ β:Type}{x y:HM β}{Q':β→Heap→Prop}{P:γ→List Asn}{REST:γ→HM β}(h1:(∀g,W (P g) (REST g) Q')→W L x Q')(h2:(∀g,W (P g) (REST g) Q')→W L y Q')(ht:∀g,W (P g) (REST g) Q'):W L (A0R x y) Q':=A8o (h1 ht) (h2 ht)
theorem B8t{B:i6}(h:l8 B){z:Z7}{i:Int}(hz:z∈B.aB)(hi:z.aG=i):B.aB.find? (fun x=>decide (x.aG=i))=some z:=by
 cases hg:B.aB.find? (fun x=>decide (x.aG=i)) with
 |none=>exact absurd hi (by simpa using E7.1 hg z hz)
 |some x=>
  have h1:=h.one i
  have m1:x∈B.aB.filter (fun y=>decide (y.aG=i)):=E6.2 ⟨H2 hg,by simpa using N3 hg⟩
  have m2:z∈B.aB.filter (fun y=>decide (y.aG=i)):=E6.2 ⟨hz,by simpa using hi⟩
  generalize B.aB.filter (fun y=>decide (y.aG=i))=k at h1 m1 m2
  match k,h1 with
  |[],_=>cases m1
  |[w],_=>rw[B9.1 m1,B9.1 m2]
theorem B8N{B:i6}{c:B4p}{clean aO:Bool}(hg:i7 c)(eK:ofS c B.aG=none→B.aG.length<32):
  A0c B.last B.aG c clean aO=((0,(j8 c clean aO B).1.1,(j8 c clean aO B).1.2),(j8 c clean aO B).2.last,(j8 c clean aO B).2.aG)∧(j8 c clean aO B).2.aH=B.aH∧(j8 c clean aO B).2.kept=B.kept∧(j8 c clean aO B).2.aB=B.aB:=by
 unfold A0c j8
 rw[if_neg (fun e=>e hg)]
 cases ho:ofS c B.aG with
 |none=>rw[ho] at eK;simp[Nat.not_le.2 (eK rfl)]
 |some s=>cases clean<;>simp
theorem C0X(l:List r8):decide (0<((A02 17 l).getD (0,0,e0S,e0S)).2.1)=A0n l:=by
 unfold A0n
 cases A02 17 l<;>rfl
abbrev A0y(p:Pk):Slc:=p.2.2.2.2.2.2.2.2.2.1
theorem C44{t b n:Nat}{full:Bool}{T:V6}{c:Int}{p:Pk}{pl:List r8}{sl:List A0L}{fl:List B4p}(ht:TP h0)(ag:Y1 T.b n)(hn:n≤1000000)(iy:A1I c T.b.aB=none)(bN: -9223372036854775808≤c∧c≤9223372036854775807)(hb:T.outs.length≤10000000)(hp:T.aT.length≤100000000)
  (bg:(p.2.2.2.2.2.2.2.2.2.2.1).size≤9223372036854775807)(uR:(p.2.2.2.2.2.2.2.2.2.2.2.2.2.2.1).size≤9223372036854775807)(fz:pl.length≤1000)
  (hq:At (Y3 t b full (A1T full c (pkI p pl sl fl) T)::old h0::L3) (Q (.tuple #[])))(hx:Has L (Y3 t b full T) L1:=by repeat first|with_reducible exact V5|apply V7)(hy:Has L1 (old h0) L2:=by repeat first|with_reducible exact V5|apply V7)(hz:Has L2 (V1 X6 4 (A0y p) pl) L3:=by repeat first|with_reducible exact V5|apply V7):
  FW prog 33 #[at0 t,.int .i64 c,A2B .u8 p] L Q:=by
 refine fun h hs=>A5R (some ⟨t,0,none⟩) c p h Q ((?_:W (Y3 t b full T::old h0::V1 X6 4 (A0y p) pl::L3) _ _) h ((hx.cQ hy hz).s hs))
 clear hs h hx hy hz
 delta A4M ad bn cc ci cp cu cx ie jb jc ji jt kb ki km kp kt nn nw pu rq sn sw ve vi vs vz
 refine Y8 fun x1=>?_
 refine W9 ?_
 refine A5H (fun h R=>p9) fun so sp q=>?_
 refine Y7 (fun h R hs=>B5f (m:=q.cm) (l:=T.b.aB) hs) fun cd=>?_
 refine W.load (v:=some ⟨b,0,none⟩) ?_
 refine W9 ?_
 refine W.load (v:=some ⟨q.tb,0,none⟩) ?_
 refine W.load (v:=p.2.2.2.2.2.2.2.2.2.2.1) ?_
 apply C7Q (γ:=Nat) (P:=fun x8=>Y3 t b full T::cells x8 (lS9 (A3E ((ofS (p.2.2.2.2.2.2.2.2.2.2.1) T.b.aG).map x9)).1).toArray::cells x1 (aS3 p)::old h0::V1 X6 4 (A0y p) pl::L3)
 case h1=>
  intro tail
  refine Z9 (B89 (b:=q.tb) (A:=T.b.aG) (c:=p.2.2.2.2.2.2.2.2.2.2.1) ag.dV (At.bD (x:=A3E ((ofS (p.2.2.2.2.2.2.2.2.2.2.1) T.b.aG).map x9)) ?_))
  refine Y8 fun x8=>?_
  refine W.load (v:=p.2.2.2.2.2.2.2.2.2.2.1) ?_
  refine A1t ?_ rfl
  refine W.load (v:=some ⟨q.tb,0,none⟩) ?_
  refine A1t ?_ rfl
  refine W.load (v:=some ⟨b,0,none⟩) ?_
  refine A1t ?_ rfl
  refine A0u ?_
  refine W.bJ T so sp q ?_
  exact(tail x8).sub
 case h2=>
  intro tail
  refine Y8 fun x8=>?_
  refine W.load (v:=p.2.2.2.2.2.2.2.2.2.2.1) ?_
  refine A1t ?_ rfl
  refine W.load (v:=some ⟨q.tb,0,none⟩) ?_
  refine A1t ?_ rfl
  refine W.load (v:=some ⟨b,0,none⟩) ?_
  refine A1t ?_ rfl
  refine Z9 (B89 (b:=q.tb) (A:=T.b.aG) (c:=p.2.2.2.2.2.2.2.2.2.2.1) ag.dV (At.bD (x:=A3E ((ofS (p.2.2.2.2.2.2.2.2.2.2.1) T.b.aG).map x9)) ?_))
  refine A0u ?_
  refine W.bJ T so sp q ?_
  exact(tail x8).sub
 case ht=>
  intro x8
  refine j2 (C5F (fun b2=>At.un (x:=some ⟨b2,0,none⟩) ?_))
  refine W.load (v:=p.2.2.2.2.2.2.2.2.2.2.1) ?_
  refine Z9 (C0k (b:=b2) (last:=0) (A:=[]) (c:=p.2.2.2.2.2.2.2.2.2.2.1) (clean:=false) (aO:=false) ht.u8 bg (S7 _) (by decide) (by simp) (by simp) (At.bD (x:=((A0c 0 [] (p.2.2.2.2.2.2.2.2.2.2.1) false false).1.2.1,(A0c 0 [] (p.2.2.2.2.2.2.2.2.2.2.1) false false).1.2.2,(A0c 0 [] (p.2.2.2.2.2.2.2.2.2.2.1) false false).1.1,())) ?_))
  have kG:(A0c 0 [] (p.2.2.2.2.2.2.2.2.2.2.1) false false).1.1=if i7 (p.2.2.2.2.2.2.2.2.2.2.1) then 0 else 133:=by
   unfold A0c
   by_cases hg:i7 (p.2.2.2.2.2.2.2.2.2.2.1)
   ·simp[hg,ofS]
   ·simp[hg]
  generalize(A0c 0 [] (p.2.2.2.2.2.2.2.2.2.2.1) false false).1.1=code0 at kG⊢
  refine A1j (fun r=>r.1=(p.2.2.2.2.2.2.2.2.2.2.2.2.2.1&& !a8 (p.2.2.2.2.2.2.2.2.2.2.2.2.2.2.1))) (fun K hK=>?_) (fun r hr=>?_)
  ·refine W.load (v:=p.2.2.2.2.2.2.2.2.2.2.2.2.2.1) ?_
   refine A0s (fun h3=>?_) (fun h3=>?_)
   ·refine j0 (b:=x1) (i:=14) (v:=p.2.2.2.2.2.2.2.2.2.2.2.2.2.2.1) ?_
    refine j2 (B4y ht uR (At.un ?_))
    refine U9 (At.sub (hK _ ?_))
    simp only[h3,G5]
    unfold A2X
    cases a8 (p.2.2.2.2.2.2.2.2.2.2.2.2.2.2.1)<;>rfl
   ·refine U9 (hK _ ?_)
    simp[h3]
  obtain⟨r,_⟩:=r
  simp only at hr
  subst hr
  refine A1j (fun r=>r.1=A6J (pkI p pl sl fl) T.b) (fun K hK=>?_) (fun r hr=>?_)
  ·refine A0s (fun h1=>U9 (hK _ ?_)) (fun h1=>?_)
   ·unfold A6J
    rw[if_pos (by simpa using h1)]
   have fO:=fun a e=>hK a e
   unfold A6J at fO
   rw[if_neg (by simpa using h1)] at fO
   refine W9 ?_
   refine A5H (fun h R=>p9) fun gr iH q2=>?_
   refine W.load (v:=some ⟨b,0,none⟩) ?_
   refine W9 ?_
   refine W.load (v:=some q2.cm) ?_
   refine C86 (r:=q2.cm) (l:=T.b.aB.map A0g) ?_
   refine C87 (fun h2=>?_) (fun h2=>?_)
   ·rw[if_pos (by simp only[C0,decide_eq_true_eq] at h2;omega)] at fO
    refine j1 (U9 ?_)
    refine At.bJ T gr iH q2 ?_
    exact(fO (151,()) rfl).sub
   ·rw[if_neg (by simp only[C0,decide_eq_false_iff_not] at h2;omega)] at fO
    refine X9 ?_
    refine C87 (fun h4=>?_) (fun h4=>?_)
    ·have hg:¬i7 (p.2.2.2.2.2.2.2.2.2.2.1):=fun hg=>by rw[kG,if_pos hg] at h4;exact absurd h4 (by decide)
     rw[if_pos hg] at fO
     refine j1 (j1 (U9 ?_))
     refine At.bJ T gr iH q2 ?_
     exact(fO (code0,()) (by rw[kG,if_neg hg])).sub
    ·have hg:i7 (p.2.2.2.2.2.2.2.2.2.2.1):=O4 fun hg=>by rw[kG,if_neg hg] at h4;exact absurd h4 (by decide)
     rw[if_neg (fun e=>e hg)] at fO
     refine X9 ?_
     cases ho:ofS (p.2.2.2.2.2.2.2.2.2.2.1) T.b.aG with
     |some s=>
      rw[if_neg (by simp[ho])] at fO
      refine o8 rfl (j1 ?_)
      refine o8 rfl ?_
      refine j1 (j1 (j1 (U9 ?_)))
      refine At.bJ T gr iH q2 ?_
      rw[ho] at fO
      exact(fO (0,()) rfl).sub
     |none=>
      refine A1s rfl ?_
      refine X9 (W9 ?_)
      refine X9 (W.load (v:=some ⟨b,0,none⟩) ?_)
      refine X9 (W9 ?_)
      refine X9 (W.load (v:=some ⟨q2.tb,0,none⟩) ?_)
      refine X9 (j2 (C3s (b:=q2.tb) (A:=T.b.aG) (by have:=ag.cM;omega) (fun s hs=>⟨by have:=(ag.dQ s hs).1;omega,(ag.dQ s hs).2⟩) ag.n32 ag.dE (fun S=>At.un (x:=S) ?_)))
      refine Y7 (X7 (enc:=B6B) (size:=4) (s:=S) (xs:=T.b.aG.map x9)) fun hl=>?_
      rw[C0] at hl
      refine j1 ?_
      rw[ho] at fO
      by_cases eK:32≤T.b.aG.length
      ·rw[if_pos ⟨rfl,eK⟩] at fO
       refine A1s (by rw[hl];exact decide_eq_true (by omega)) ?_
       refine j1 (j1 (j1 (U9 ?_)))
       refine At.bJ T gr iH q2 ?_
       exact(fO (151,()) rfl).sub
      ·rw[if_neg (fun e=>eK e.2)] at fO
       refine o8 (by rw[hl];exact decide_eq_false (by omega)) ?_
       refine j1 (j1 (j1 (U9 ?_)))
       refine At.bJ T gr iH q2 ?_
       exact(fO (0,()) rfl).sub
  obtain⟨code,_⟩:=r
  simp only at hr
  unfold A1T at hq
  by_cases av:code=0
  ·refine X1 (by simp[av]) ?_
   rw[if_neg (by rw[←hr];simpa using av)] at hq
   obtain⟨T1,bP⟩:∃T1,T1=A1c full (p.2.2.2.2.2.2.2.2.2.2.1) T:=⟨_,rfl⟩
   refine A1j (fun r=>r.1=match ofS (p.2.2.2.2.2.2.2.2.2.2.1) T.b.aG with|some s=>s.on|none=>false) (fun K hK=>?_) (fun r cL=>?_)
   ·cases ho:ofS (p.2.2.2.2.2.2.2.2.2.2.1) T.b.aG with
    |none=>rw[ho] at hK;exact X1 rfl (U9 (hK _ rfl))
    |some s=>rw[ho] at hK;exact Y5 rfl (W.load (v:=s.on) (U9 (hK _ rfl)))
   obtain⟨r,_⟩:=r
   simp only at cL
   refine W.cut (fun _=>Y3 t b full T1::cells x8 (lS9 (A3E ((ofS (p.2.2.2.2.2.2.2.2.2.2.1) T.b.aG).map x9)).1).toArray::cells x1 (aS3 p)::old h0::V1 X6 4 (A0y p) pl::L3) (fun K hK=>?_) (fun _=>?_)
   ·clear hq
    unfold A1c at bP
    cases ho:ofS (p.2.2.2.2.2.2.2.2.2.2.1) T.b.aG with
    |none=>
     rw[ho] at bP cL hK
     simp only at bP cL
     subst bP cL
     exact X1 rfl (U9 (hK ()).sub)
    |some s=>
     rw[ho] at bP cL hK
     simp only at bP cL
     subst cL
     by_cases aV:s.on=true
     ·refine Y5 aV ?_
      refine W9 ?_
      refine A5H (fun h R=>p9) fun fR fQ q3=>?_
      refine W.load (v:=some ⟨b,0,none⟩) ?_
      refine W9 ?_
      refine W.load (v:=some q3.cm) ?_
      refine W.range fun it=>?_
      refine C7L (ek:=eKI) (ev:=eVC) (r:=q3.cm) (l:=T.b.aB.map A0g) (fun done _=>done.filter (fun x=>decide (x.2.1=s.id))=[])
       (fun done _=>[cells t #[at0 b,.bool full,.slice fR.a fR.len fR.cap,.slice fQ.a fQ.len fQ.cap],W3 .u8 fR T.outs,V1 Z5 5 fQ T.aT,cells b (A6I q3),A1g q3.tb T.b.last T.b.aG,j5 q3.sb T.b.aH,A1k q3.kb T.b.kept,
        cells x8 (lS9 (A3E ((some s).map x9)).1).toArray,cells x1 (aS3 p),old h0,V1 X6 4 (A0y p) pl]++L3) rfl ?_ (fun done s' hd tz K' hk=>?_) (fun done y rest s' hd tz K' bh hk=>?_)
      ·show Sub _ (itA eKI eVC q3.cm (T.b.aB.map A0g) it [] (T.b.aB.map A0g)::cells t #[at0 b,.bool full,.slice fR.a fR.len fR.cap,.slice fQ.a fQ.len fQ.cap]::W3 .u8 fR T.outs::V1 Z5 5 fQ T.aT::cells b (A6I q3)::A1g q3.tb T.b.last T.b.aG::j5 q3.sb T.b.aH::A1k q3.kb T.b.kept::cells x8 (lS9 (A3E ((some s).map x9)).1).toArray::cells x1 (aS3 p)::old h0::V1 X6 4 (A0y p) pl::L3)
       repeat(first|with_reducible exact U3|with_reducible exact U4|refine U5 (by repeat first|with_reducible exact V5|apply V7) ?_|refine U6 ?_)
      ·have ay:T.b.aB.find? (fun x=>decide (x.aG=s.id))=none:=E7.2 fun x hx=>by
        have hm:A0g x∈done:=hd.mem_iff.2 (B4 hx)
        have:=J3.1 tz _ hm
        simpa using this
       have e:T1=T:=by rw[bP];unfold A3q;rw[ay]
       subst e
       refine X1 rfl (U9 (hk () _ (U9 ?_)))
       show At (mapA eKI eVC q3.cm (T1.b.aB.map A0g)::cells t #[at0 b,.bool full,.slice fR.a fR.len fR.cap,.slice fQ.a fQ.len fQ.cap]::W3 .u8 fR T1.outs::V1 Z5 5 fQ T1.aT::cells b (A6I q3)::A1g q3.tb T1.b.last T1.b.aG::j5 q3.sb T1.b.aH::A1k q3.kb T1.b.kept::_::cells x1 (aS3 p)::old h0::V1 X6 4 (A0y p) pl::L3) _
       refine At.bJ T1 fR fQ q3 ?_
       exact(hK ()).sub
      ·show W (itA eKI eVC q3.cm (T.b.aB.map A0g) it (done++[y]) rest::cells t #[at0 b,.bool full,.slice fR.a fR.len fR.cap,.slice fQ.a fQ.len fQ.cap]::W3 .u8 fR T.outs::V1 Z5 5 fQ T.aT::cells b (A6I q3)::A1g q3.tb T.b.last T.b.aG::j5 q3.sb T.b.aH::A1k q3.kb T.b.kept::cells x8 (lS9 (A3E ((some s).map x9)).1).toArray::cells x1 (aS3 p)::old h0::V1 X6 4 (A0y p) pl::L3) _ _
       refine Y5 rfl ?_
       refine W.entry (x:=y.1) (y:=y.2) ?_
       refine Y8 fun oI=>?_
       refine A0u ?_
       refine W.load (b:=oI) (v:=y.2.1) ?_
       refine W.load (b:=x8) (v:=s.id) ?_
       by_cases hy:y.2.1=s.id
       ·refine Y5 (by simpa using hy) ?_
        have wU:y∈T.b.aB.map A0g:=hd.mem_iff.1 (G8 _ (B6 ..))
        obtain⟨z,hz,rfl⟩:=E3.1 wU
        have e:T1=A0O full z.c 142 T:=by rw[bP];unfold A3q;rw[B8t ag.tol8 hz hy]
        subst e
        refine B93 (A:=itA eKI eVC q3.cm (T.b.aB.map A0g) it (done++[A0g z]) rest) (B:=mapA eKI eVC q3.cm (T.b.aB.map A0g)) (fun h R hs=>A9M hs) ?_
        refine W.bJ T fR fQ q3 ?_
        refine Z9 (A87 (T:=T) (c:=z.c) (code:=142) ht ag.tol8 (by omega) (by omega) (At.bD ?_))
        exact U9 (hk () _ (U9 (hK ()).sub))
       ·refine X1 (by simpa using hy) ?_
        have lv:=bh () (by rw[F4,tz,G2 (by simpa using hy)];rfl)
        refine U9 (At.sub lv ?_)
        show Sub _ (itA eKI eVC q3.cm (T.b.aB.map A0g) it (done++[y]) rest::cells t #[at0 b,.bool full,.slice fR.a fR.len fR.cap,.slice fQ.a fQ.len fQ.cap]::W3 .u8 fR T.outs::V1 Z5 5 fQ T.aT::cells b (A6I q3)::A1g q3.tb T.b.last T.b.aG::j5 q3.sb T.b.aH::A1k q3.kb T.b.kept::cells x8 (lS9 (A3E ((some s).map x9)).1).toArray::cells x1 (aS3 p)::old h0::V1 X6 4 (A0y p) pl::L3)
        repeat(first|with_reducible exact U3|with_reducible exact U4|refine U5 (by repeat first|with_reducible exact V5|apply V7) ?_|refine U6 ?_)
     ·have e:T1=T:=by
       rw[bP];unfold A3q
       rw[E7.2 fun x hx=>?_]
       intro fU
       have fU:x.aG=s.id:=by simpa using fU
       exact aV (ag.dR x hx s (A7a ho).1 fU.symm)
      subst e
      exact X1 (by simpa using aV) (U9 (hK ()).sub)
   have gH:i7 (p.2.2.2.2.2.2.2.2.2.2.1)∧(ofS (p.2.2.2.2.2.2.2.2.2.2.1) T.b.aG=none→T.b.aG.length<32):=by
    rw[av] at hr
    unfold A6J at hr
    simp only at hr
    split at hr
    ·cases hr
    ·split at hr
     ·cases hr
     ·split at hr
      ·cases hr
      ·rename_i hg
       split at hr
       ·cases hr
       ·rename_i eK
        refine⟨O4 hg,fun ho=>?_⟩
        exact Nat.lt_of_not_le fun h=>eK ⟨ho,h⟩
   obtain⟨eo,gD,oV,jf,jx,kD⟩:=B2o (full:=full) (c:=p.2.2.2.2.2.2.2.2.2.2.1) ag cd gH.2
   rw[←bP] at eo gD oV jf jx kD
   refine W.load (v:=A0y p) ?_
   refine Z9 (C6s (S:=A0y p) (pl:=pl) (id:=17) fz (At.bD (x:=(prU ((A02 17 pl).getD (0,0,e0S,e0S)),(A02 17 pl).isSome,())) ?_))
   refine Y8 fun gi=>?_
   refine A0u ?_
   refine W9 ?_
   refine A5H (fun h R=>p9) fun sK sJ q4=>?_
   refine W.load (v:=some ⟨b,0,none⟩) ?_
   refine W9 ?_
   refine W.load (v:=some ⟨q4.tb,0,none⟩) ?_
   refine W.load (v:=p.2.2.2.2.2.2.2.2.2.2.1) ?_
   refine W.load (v:=p.2.2.2.2.2.2.2.2.2.2.2.1) ?_
   refine W.load (v:=((A02 17 pl).getD (0,0,e0S,e0S)).2.1) ?_
   rw[C0X]
   obtain⟨ow,lI,lJ,lK⟩:=B8N (B:=T1.b) (clean:=p.2.2.2.2.2.2.2.2.2.2.2.1) (aO:=A0n pl) gH.1 jx
   refine Z9 (C0k (b:=q4.tb) (last:=T1.b.last) (A:=T1.b.aG) (c:=p.2.2.2.2.2.2.2.2.2.2.1) (clean:=p.2.2.2.2.2.2.2.2.2.2.2.1) (aO:=A0n pl) ht.u8 bg eo.cZ (by have:=eo.cM;omega) (fun s hs=>(eo.dQ s hs).2) eo.dV (At.bD (x:=((A0c T1.b.last T1.b.aG (p.2.2.2.2.2.2.2.2.2.2.1) (p.2.2.2.2.2.2.2.2.2.2.2.1) (A0n pl)).1.2.1,(A0c T1.b.last T1.b.aG (p.2.2.2.2.2.2.2.2.2.2.1) (p.2.2.2.2.2.2.2.2.2.2.2.1) (A0n pl)).1.2.2,(A0c T1.b.last T1.b.aG (p.2.2.2.2.2.2.2.2.2.2.1) (p.2.2.2.2.2.2.2.2.2.2.2.1) (A0n pl)).1.1,())) ?_))
   have qx:A1I c T1.b.aB=none:=E7.2 fun y hy=>by
    have:=E7.1 iy y (jf y hy).1
    exact this
   obtain⟨bT,s5,aj,gE⟩:=B7c (B:=T1.b) (o:=ofS (p.2.2.2.2.2.2.2.2.2.2.1) T.b.aG) (aD:=p.2.2.2.2.2.2.2.2.2.2.1) (clean:=p.2.2.2.2.2.2.2.2.2.2.2.1) (aO:=A0n pl) (x:=⟨c,(j8 (p.2.2.2.2.2.2.2.2.2.2.1) (p.2.2.2.2.2.2.2.2.2.2.2.1) (A0n pl) T1.b).1.1,p.2.2.2.2.2.2.2.2.2.2.2.2.2.1,(p.2.2.2.2.2.2.2.2.2.2.2.2.2.2.1,p.2.2.2.2.2.2.2.2.2.2.2.2.2.2.2.1,p.2.2.2.2.2.2.2.2.2.2.2.2.2.2.2.2.1,p.2.2.2.2.2.2.2.2.2.2.2.2.2.2.2.2.2.1,e0S)⟩) eo kD (fun y hy s hs=>(jf y hy).2 s hs) jx rfl ⟨uR,bN⟩
   rw[A45] at hq
   dsimp only at hq
   rw[←bP,lI,lJ,lK] at hq
   clear bP hr av cL jf jx kD gH lI lJ lK iy
   generalize j8 (p.2.2.2.2.2.2.2.2.2.2.1) (p.2.2.2.2.2.2.2.2.2.2.2.1) (A0n pl) T1.b=r at hq ow bT aj gE⊢
   rw[ow]
   clear ow
   dsimp only
   refine A1j (fun a=>a.1=match ofS (p.2.2.2.2.2.2.2.2.2.2.1) T.b.aG with|some s=>decide (s.id≠r.1.1)|none=>false) (fun K hK=>?_) (fun a ha=>?_)
   ·cases ho:ofS (p.2.2.2.2.2.2.2.2.2.2.1) T.b.aG with
    |none=>rw[ho] at hK;exact X1 rfl (U9 (hK _ rfl))
    |some s=>
     rw[ho] at hK
     refine Y5 rfl (W.load (v:=s.id) (U9 (hK _ ?_)))
     by_cases e:s.id=r.1.1
     ·simp[e]
     ·have e2:r.1.1≠s.id:=fun e'=>e e'.symm
      simp[e,e2]
   obtain⟨a,_⟩:=a
   simp only at ha
   refine W.cut (fun _=>Y3 t b full (tB ⟨r.2.last,r.2.aG,A2a (ofS (p.2.2.2.2.2.2.2.2.2.2.1) T.b.aG) r.1.1 T1.b.aH,T1.b.kept,T1.b.aB⟩ T1)::cells x1 (aS3 p)::old h0::V1 X6 4 (A0y p) pl::L3) (fun K hK=>?_) (fun _=>?_)
   ·clear hq bT
    cases ho:ofS (p.2.2.2.2.2.2.2.2.2.2.1) T.b.aG with
    |none=>
     rw[ho] at ha hK
     have e2:A2a none r.1.1 T1.b.aH=T1.b.aH:=rfl
     rw[e2] at hK
     refine X1 ha (U9 ?_)
     refine At.bJ (tB ⟨r.2.last,r.2.aG,T1.b.aH,T1.b.kept,T1.b.aB⟩ T1) sK sJ q4 ?_
     exact(hK ()).sub
    |some s=>
     rw[ho] at ha hK
     by_cases e:s.id=r.1.1
     ·have e2:A2a (some s) r.1.1 T1.b.aH=T1.b.aH:=by unfold A2a;simp[e]
      rw[e2] at hK
      refine X1 (by rw[ha];simp[e]) (U9 ?_)
      refine At.bJ (tB ⟨r.2.last,r.2.aG,T1.b.aH,T1.b.kept,T1.b.aB⟩ T1) sK sJ q4 ?_
      exact(hK ()).sub
     ·have e2:A2a (some s) r.1.1 T1.b.aH=A1q s.id T1.b.aH:=by unfold A2a;simp[e]
      rw[e2] at hK
      refine Y5 (by rw[ha];simp[e]) ?_
      refine W9 ?_
      refine W.load (v:=some ⟨b,0,none⟩) ?_
      refine W9 ?_
      refine W.load ?_
      refine W.load (v:=s.id) ?_
      refine j2 (C0a (t:=q4.sb) (E:=T1.b.aH) (id:=s.id) ht eo.aH (At.un (U9 ?_)))
      refine At.bJ (tB ⟨r.2.last,r.2.aG,A1q s.id T1.b.aH,T1.b.kept,T1.b.aB⟩ T1) sK sJ q4 ?_
      exact(hK ()).sub
   clear ha
   generalize A2a (ofS (p.2.2.2.2.2.2.2.2.2.2.1) T.b.aG) r.1.1 T1.b.aH=E5 at hq bT⊢
   refine W9 ?_
   refine A5H (fun h R=>p9) fun wM wK q5=>?_
   refine W.load (v:=some ⟨b,0,none⟩) ?_
   refine W9 ?_
   refine W.load (v:=some q5.cm) ?_
   refine W.load (v:=p.2.2.2.2.2.2.2.2.2.2.2.2.2.1) ?_
   refine j0 (b:=x1) (i:=14) (v:=p.2.2.2.2.2.2.2.2.2.2.2.2.2.2.1) ?_
   refine j0 (b:=x1) (i:=15) (v:=p.2.2.2.2.2.2.2.2.2.2.2.2.2.2.2.1) ?_
   refine j0 (b:=x1) (i:=16) (v:=p.2.2.2.2.2.2.2.2.2.2.2.2.2.2.2.2.1) ?_
   refine j0 (b:=x1) (i:=17) (v:=p.2.2.2.2.2.2.2.2.2.2.2.2.2.2.2.2.2.1) ?_
   refine W.mset (ek:=eKI) (ev:=eVC) (l:=T1.b.aB.map A0g) kKI (fun a b h=>by cases h;rfl) c (B8M ⟨c,r.1.1,p.2.2.2.2.2.2.2.2.2.2.2.2.2.1,(p.2.2.2.2.2.2.2.2.2.2.2.2.2.2.1,p.2.2.2.2.2.2.2.2.2.2.2.2.2.2.2.1,p.2.2.2.2.2.2.2.2.2.2.2.2.2.2.2.2.1,p.2.2.2.2.2.2.2.2.2.2.2.2.2.2.2.2.2.1,e0S)⟩) ?_
   rw[A2Y _ _ _ (by rw[A3T,qx];rfl),show T1.b.aB.map A0g++[(c,B8M (⟨c,r.1.1,p.2.2.2.2.2.2.2.2.2.2.2.2.2.1,(p.2.2.2.2.2.2.2.2.2.2.2.2.2.2.1,p.2.2.2.2.2.2.2.2.2.2.2.2.2.2.2.1,p.2.2.2.2.2.2.2.2.2.2.2.2.2.2.2.2.1,p.2.2.2.2.2.2.2.2.2.2.2.2.2.2.2.2.2.1,e0S)⟩:Z7))]=(T1.b.aB++[(⟨c,r.1.1,p.2.2.2.2.2.2.2.2.2.2.2.2.2.1,(p.2.2.2.2.2.2.2.2.2.2.2.2.2.2.1,p.2.2.2.2.2.2.2.2.2.2.2.2.2.2.2.1,p.2.2.2.2.2.2.2.2.2.2.2.2.2.2.2.2.1,p.2.2.2.2.2.2.2.2.2.2.2.2.2.2.2.2.2.1,e0S)⟩:Z7)]).map A0g from by rw[B8];rfl]
   generalize T1.b.aB++[(⟨c,r.1.1,p.2.2.2.2.2.2.2.2.2.2.2.2.2.1,(p.2.2.2.2.2.2.2.2.2.2.2.2.2.2.1,p.2.2.2.2.2.2.2.2.2.2.2.2.2.2.2.1,p.2.2.2.2.2.2.2.2.2.2.2.2.2.2.2.2.1,p.2.2.2.2.2.2.2.2.2.2.2.2.2.2.2.2.2.1,e0S)⟩:Z7)]=C5 at hq bT⊢
   refine W.bJ (tB ⟨r.2.last,r.2.aG,E5,T1.b.kept,C5⟩ T1) wM wK q5 ?_
   refine B7N (k:=.u8) (A2b r.1.2) rfl rfl ?_
   refine Z9 (B87 (T:=tB ⟨r.2.last,r.2.aG,E5,T1.b.kept,C5⟩ T1) (c:=c) (o:=A2b r.1.2) (ci:=⟨none,0,0⟩) (pi:=⟨none,0,0⟩) (by show T1.outs.length≤_;omega) (At.bD ?_))
   have rz:A0N ⟨c,A2b r.1.2,false⟩ (tB ⟨r.2.last,r.2.aG,E5,T1.b.kept,C5⟩ T1)=(⟨⟨r.2.last,r.2.aG,E5,T1.b.kept,C5⟩,T1.outs++[⟨c,A2b r.1.2,false⟩],T1.aT⟩:V6):=rfl
   rw[rz] at hq
   show W (Y3 t b full ⟨⟨r.2.last,r.2.aG,E5,T1.b.kept,C5⟩,T1.outs++[⟨c,A2b r.1.2,false⟩],T1.aT⟩::_) _ _
   have hO:(T1.outs++[(⟨c,A2b r.1.2,false⟩:u5)]).length≤13300002:=by rw[B3];simp only[B7,G1];omega
   generalize T1.outs++[(⟨c,A2b r.1.2,false⟩:u5)]=O5 at hq hO⊢
   clear rz
   unfold A01 at hq
   simp only[A3u bT.nd aj gE] at hq
   refine W.load (v:=A0y p) ?_
   refine Z9 (C6s (S:=A0y p) (pl:=pl) (id:=33) fz (At.bD (x:=(prU ((A02 33 pl).getD (0,0,e0S,e0S)),(A02 33 pl).isSome,())) ?_))
   refine Y8 fun lN=>?_
   refine A0u ?_
   refine C7M (X:=r8) (fun z _=>z.2.1=A1Y pl) (fun z _=>Y3 t b full ⟨⟨r.2.last,r.2.aG,E5,T1.b.kept,C5⟩,O5,T1.aT⟩::cells lN (X6 z).toArray::old h0::L3) (fun K hK=>?_) (fun z _ hz=>?_)
   ·unfold A1Y at hK
    clear hq
    cases hf:A02 33 pl with
    |none=>
     rw[hf] at hK
     refine Y5 rfl ?_
     refine W.store (cs':=(X6 (0,64,e0S,e0S)).toArray) ?_
     exact U9 (hK (0,64,e0S,e0S) _ rfl).sub
    |some z=>
     rw[hf] at hK
     refine X1 rfl ?_
     refine W.cells (b:=lN) (X6 z).toArray ?_
     exact U9 (hK z _ rfl).sub
   obtain⟨z1,z2,z3,z4⟩:=z
   simp only at hz
   subst hz
   refine W9 ?_
   refine A5H (fun h R=>p9) fun wL wJ q6=>?_
   refine W.load (v:=some ⟨b,0,none⟩) ?_
   refine W9 ?_
   refine W.load (v:=some ⟨q6.tb,0,none⟩) ?_
   refine W.load (v:=A1Y pl) ?_
   refine A7t (fun h R=>A42 aj h R) fun ob ib=>?_
   refine j2 (B1p gE (At.un ?_))
   refine W.load (v:=A1Y pl) ?_
   refine A1t ?_ rfl
   have dj:=B3P (bT.bM s5 aj) (A1Y pl)
   refine j2 (C51 (b:=ob) (o:=s5.out) (most:=A1Y pl) (bT.bM s5 aj) (fun S2=>At.un (x:=S2) ?_))
   refine B0j (A:=A1g q6.tb r.2.last (Y4 r.1.1 (Y9 (A0z s5.out (A1Y pl)).1) r.2.aG)) (fun h hs=>A5a bT.nd aj gE h hs) ?_
   refine W.bJ (A0S (Y4 r.1.1 (Y9 (A0z s5.out (A1Y pl)).1) r.2.aG) ⟨⟨r.2.last,r.2.aG,E5,T1.b.kept,C5⟩,O5,T1.aT⟩) wL wJ q6 ?_
   refine Z9 (A3O (T:=A0S (Y4 r.1.1 (Y9 (A0z s5.out (A1Y pl)).1) r.2.aG) ⟨⟨r.2.last,r.2.aG,E5,T1.b.kept,C5⟩,O5,T1.aT⟩) (id:=r.1.1) (ps:=(A0z s5.out (A1Y pl)).2) (bT.one r.1.1) (by have:=dj.2;show O5.length+_≤_;omega) (At.bD ?_))
   exact U9 hq.sub
  ·refine Y5 (by simp[av]) ?_
   rw[if_pos (by rw[←hr];exact av),←hr] at hq
   refine B7N (k:=.u8) (l6 2 0 code) rfl rfl ?_
   refine Z9 (B91 (T:=T) (c:=c) (o:=l6 2 0 code) (ci:=⟨none,0,0⟩) (pi:=⟨none,0,0⟩) (by omega) (At.bD ?_))
   exact U9 hq.sub
end
section
open Go.H Go.Proofs
structure Step(T T':V6)(n m:Nat):Prop where
 ok:Y1 T'.b n
 outs:T'.outs.length≤T.outs.length+m
 aT:T'.aT.length≤T.aT.length+m
theorem Step.trans{T T' T'':V6}{n n' m m':Nat}(h:Step T T' n m)(h':Step T' T'' n' m'):Step T T'' n' (m+m'):=⟨h'.ok,by have:=h.outs;have:=h'.outs;omega,by have:=h.aT;have:=h'.aT;omega⟩
theorem Step.mono{T T':V6}{n m m':Nat}(h:Step T T' n m)(hm:m≤m'):Step T T' n m':=⟨h.ok,by have:=h.outs;omega,by have:=h.aT;omega⟩
theorem Step.refl{T:V6}{n:Nat}(h:Y1 T.b n):Step T T n 0:=⟨h,D9 _,D9 _⟩
theorem A0J.step{T T':V6}{n m:Nat}(h:Y1 T.b n)(hb:A0J T T' m)(hk:T'.b.aG.map A2y=T.b.aG.map A2y):Step T T' n m:=⟨h.sub hb.ok hb.last (by rw[hk];exact G6 _) (by rw[hb.aH];exact G6 _),hb.outs,hb.aT⟩
theorem Y1.mono{B:i6}{n n':Nat}(h:Y1 B n)(hn:n≤n'):Y1 B n':={h with cM:=by have:=h.cM;omega}
theorem step_end{full:Bool}{c:Int}{w:Bool}{T:V6}{n:Nat}(h:Y1 T.b n):Step T (A4U full c w T) n 3200000:=
 let r:=B9P (full:=full) (c:=c) (w:=w) h.tol8
 ⟨h.sub r.1 r.2.2.2.2 B6A B3G,r.2.1,r.2.2.1⟩
theorem A5W{full:Bool}{c code:Int}{T:V6}{n:Nat}(h:Y1 T.b n):Step T (A0O full c code T) n 3200001:=
 let r:=B0W (full:=full) (c:=c) (code:=code) h.tol8
 ⟨h.sub r.1 r.2.2.2.2 (B6A (T:=A0N ⟨c,l6 14 0 code,true⟩ T)) (B3G (T:=A0N ⟨c,l6 14 0 code,true⟩ T)),r.2.1,r.2.2.1⟩
theorem A6S{o:u5}{T:V6}{n:Nat}(h:Y1 T.b n):Step T (A0N o T) n 1:=⟨h,by show(T.outs++[o]).length≤_;rw[B3];exact D9 _,L7 _ _⟩
theorem B8X{id:Int}{ps:List PkO}{T:V6}{n m:Nat}(h:Y1 T.b n)(hm:ps.length≤m):Step T (u0 id ps T) n m:=⟨h,by show(T.outs++A2v T.b.aB id ps).length≤_;rw[B3];have:=A9A ps (h.one id);omega,L7 _ _⟩
theorem C4e{m:MsT}{T:V6}{n:Nat}(h:Y1 T.b n):Step T (A0Q m T) n 3200000:=(B6n (m:=m) h.tol8).step h B3B
theorem B8Y{m:MsT}{T:V6}{n:Nat}(h:Y1 T.b n):Step T (A4d m T) n 3200000:=(A88 (m:=m) h.tol8).step h B3B
theorem C5w{k:Int}{i:y9}{T:V6}{n:Nat}(h:Y1 T.b n):Step T (A0S (Y4 k (k9 i) T.b.aG) T) n 0:=
 ⟨h.sub h.tol8.fF rfl (by
  show((Y4 k (k9 i) T.b.aG).map A2y).Sublist _
  rw[B1C (f:=k9 i) fun _=>rfl];exact G6 _) (G6 _),D9 _,D9 _⟩
theorem C0g{id:Int}{f:b7→b7×List PkO}{T:V6}{n:Nat}(h:Y1 T.b n)(hf:∀o,X5 o→X5 (f o).1∧(f o).2.length≤320):Step T (A01 id f T) n 320:=(B5X (id:=id) h.tol8 hf).step h B3n
theorem step_take{full:Bool}{x:Z7}{p:PkI}{T:V6}{n:Nat}(h:Y1 T.b n):Step T (A8t full x p T) n 3200002:=by
 unfold A8t
 split
 ·exact(A5W h).mono (by omega)
 ·split
  ·exact(Step.refl h).mono (by omega)
  ·rename_i s hs
   simp only
   generalize q7 s.bA p.kind p.eT p.id (if full=true then 151 else 0)=r
   have h1:=C5w (k:=x.aG) (i:=⟨s.bA.most,s.bA.taken,r.2.2.2⟩) h
   split
   ·exact Step.mono (m':=3200002) (h1.trans (A5W h1.ok)) (by omega)
   ·have kH:(A31 r.2.1 p.id).length≤1:=by unfold A31;split<;>simp
    have h2:=h1.trans (B8X (id:=x.aG) (ps:=A31 r.2.1 p.id) h1.ok kH)
    split
    ·exact Step.mono (m':=3200002) (h2.trans (B8Y h2.ok)) (by omega)
    ·exact Step.mono (m':=3200002) h2 (by omega)
theorem C0h{full:Bool}{x:Z7}{p:PkI}{T:V6}{n:Nat}(h:Y1 T.b n):Step T (A37 full x p T) n 3200002:=by
 unfold A37
 split
 ·exact(Step.refl h).mono (by omega)
 ·split
  ·exact(A5W h).mono (by omega)
  ·exact(C0g h fun o ho=>⟨(B5g ho _ _ _).1,by have:=(B5g ho p.kind p.id p.code).2;omega⟩).mono (by omega)
theorem C6R{E:List Ent}{id q:Int}{f:B4p}(h:∀i,A1i E i≤64)(i:Int):A1i (A2P E id f q).2 i≤64:=by
 unfold A2P
 split
 ·exact h i
 ·split
  ·exact h i
  ·split
   ·rename_i j hj
    have qH:=J6.1 hj
    obtain⟨ah,hp,_⟩:=qH
    have hk:j3 E[j]=(id,f):=by simpa using hp
    have eo:E[j].1=id:=congrArg Prod.fst hk
    have e:(E.set j (id,f,q)).map (·.1)=E.map (·.1):=by
     rw[List.map_set]
     refine List.ext_getElem? fun k=>?_
     rw[List.getElem?_set]
     split
     ·rename_i xD
      subst xD
      rw[if_pos (by simpa using ah),I9,B0 ah,S0,eo]
     ·rfl
    unfold A1i
    simp only[e]
    exact h i
   ·split
    ·exact h i
    ·rename_i ah
     have hp:=((A1U ltK j3 (id,f,q) E).map (·.1)).count_eq i
     unfold A1i at h ah⊢
     rw[hp,B5,List.count_cons]
     by_cases e:id=i
     ·subst e
      simp only[beq_self_eq_true,if_true]
      omega
     ·rw[if_neg (by simpa using e)]
      exact h i
theorem B7h{id:Int}:∀(l:List A0L) {E:List Ent},(∀i,A1i E i≤64)→∀i,A1i (l9 id l E).1 i≤64
 |[],_,h=>h
 |s::l,E,h=>B7h (id:=id) l (fun i=>C6R h i)
theorem B61{id:Int}:∀(l:List B4p) {E:List Ent},(A0Z id l E).1.Sublist E
 |[],_=>G6 _
 |f::l,E=>(B61 (id:=id) l (E:=A1S E id f)).trans I5
theorem B5o{x:Z7}{p:PkI}{T:V6}{n:Nat}(h:Y1 T.b n)(hx:x∈T.b.aB)(hk:T.b.kept.length≤64)(hl:p.aH.length≤100):Step T (A1u x p T) n 3000000:=by
 have wg:=h.s2k
 have kH:=B1o (id:=x.aG) p.aH (E:=T.b.aH)
 have hH:l8 (B4B (l9 x.aG p.aH T.b.aH).1 T.b):=h.tol8.fM (by have:=kH.1;omega) fun e he=>by
  rcases kH.2.1 e he with h1|h1
  ·exact .inl h1
  ·obtain⟨s,hs,hi⟩:=h.cl x hx
   exact .inr ⟨s,hs,hi.trans h1.symm⟩
 have h1:Y1 (B4B (l9 x.aG p.aH T.b.aH).1 T.b) n:={hH with cZ:=h.cZ,cM:=h.cM,dQ:=h.dQ,dE:=h.dE,dV:=h.dV,n32:=h.n32,eV:=B7h p.aH h.eV}
 have h3:Step T (A1z (l9 x.aG p.aH T.b.aH).1 T) n 0:=⟨h1,D9 _,D9 _⟩
 have h4:=h3.trans (A6S (o:=⟨x.c,A03 9 p.id (l9 x.aG p.aH T.b.aH).2,false⟩) h3.ok)
 have h5:=B6q (id:=x.aG) (added x.aG p.aH T.b.aH) (T:=A0N ⟨x.c,A03 9 p.id (l9 x.aG p.aH T.b.aH).2,false⟩ (A1z (l9 x.aG p.aH T.b.aH).1 T)) hk hH
 have h6:=h5.step h4.ok (B2y (g:=l0 x.aG) (fun T s=>C0W T s) _)
 refine(h4.trans h6).mono ?_
 have:=kH.2.2.2
 omega
theorem B2Y{x:Z7}{p:PkI}{T:V6}{n:Nat}(h:Y1 T.b n):Step T (A1L x p T) n 1:=by
 have hs:=B61 (id:=x.aG) p.bO (E:=T.b.aH)
 have hH:l8 (B4B (A0Z x.aG p.bO T.b.aH).1 T.b):=h.tol8.fM (C4 hs.length_le h.aH) fun e he=>.inl (hs.subset he)
 have h3:Step T (A1z (A0Z x.aG p.bO T.b.aH).1 T) n 0:=⟨h.sub hH rfl (G6 _) hs,D9 _,D9 _⟩
 exact(h3.trans (A6S h3.ok)).mono (by omega)
theorem C5v{full:Bool}{x:Z7}{p:PkI}{T:V6}{n:Nat}(h:Y1 T.b n)(hx:x∈T.b.aB)(hk:T.b.kept.length≤64)(hl:p.aH.length≤100):Step T (B06 full x p T) n 3300000:=by
 unfold B06
 split
 ·exact(step_take h).mono (by omega)
 ·split
  ·exact(C0h h).mono (by omega)
  ·split
   ·exact(B5o h hx hk hl).mono (by omega)
   ·split
    ·exact(B2Y h).mono (by omega)
    ·split
     ·exact(A6S h).mono (by omega)
     ·split
      ·exact(step_end h).mono (by omega)
      ·exact(A5W h).mono (by omega)
theorem B4A{aD:B4p}{clean aO:Bool}{B:i6}:(j8 aD clean aO B).2.aH=B.aH∧(j8 aD clean aO B).2.kept=B.kept∧(j8 aD clean aO B).2.aB=B.aB:=by
 unfold j8
 split
 ·split<;>exact⟨rfl,rfl,rfl⟩
 ·exact⟨rfl,rfl,rfl⟩
theorem B8O{p:PkI}{B:i6}(h:A6J p B=0):i7 p.aD∧(ofS p.aD B.aG=none→B.aG.length<32):=by
 unfold A6J at h
 split at h
 ·cases h
 ·split at h
  ·cases h
  ·split at h
   ·cases h
   ·rename_i hg
    split at h
    ·cases h
    ·rename_i eK
     exact⟨O4 hg,fun ho=>Nat.lt_of_not_le fun h=>eK ⟨ho,h⟩⟩
theorem B8Z{full:Bool}{c:Int}{p:PkI}{T:V6}{n:Nat}(h:Y1 T.b n)(cd:(T.b.aB.map (·.c)).Nodup)(hw:p.aX.1.size≤9223372036854775807)(bN: -9223372036854775808≤c∧c≤9223372036854775807):Step T (A1T full c p T) (n+1) 3300000:=by
 unfold A1T
 by_cases hb:A6J p T.b=0
 ·rw[if_neg (by simpa using hb),A45]
  have gH:=B8O hb
  obtain⟨eo,gD,oV,jf,jx,kD⟩:=B2o (full:=full) (c:=p.aD) h cd gH.2
  generalize A1c full p.aD T=T1 at*
  obtain⟨lI,lJ,lK⟩:=B4A (B:=T1.b) (aD:=p.aD) (clean:=p.clean) (aO:=A0n p.props)
  obtain⟨bT,_⟩:=B7c (B:=T1.b) (o:=ofS p.aD T.b.aG) (aD:=p.aD) (clean:=p.clean) (aO:=A0n p.props) (x:=⟨c,(j8 p.aD p.clean (A0n p.props) T1.b).1.1,p.bE,(p.aX.1,p.aX.2.1,p.aX.2.2.1,p.aX.2.2.2.1,e0S)⟩) eo kD (fun y hy s hs=>(jf y hy).2 s hs) jx rfl ⟨hw,bN⟩
  rw[lI,lJ,lK]
  have h1:Step T (tB ⟨(j8 p.aD p.clean (A0n p.props) T1.b).2.last,(j8 p.aD p.clean (A0n p.props) T1.b).2.aG,A2a (ofS p.aD T.b.aG) (j8 p.aD p.clean (A0n p.props) T1.b).1.1 T1.b.aH,T1.b.kept,T1.b.aB++[⟨c,(j8 p.aD p.clean (A0n p.props) T1.b).1.1,p.bE,(p.aX.1,p.aX.2.1,p.aX.2.2.1,p.aX.2.2.2.1,e0S)⟩]⟩ T1) (n+1) 3200001:=⟨bT,gD,oV⟩
  have h2:=h1.trans (A6S (o:=⟨c,A2b (j8 p.aD p.clean (A0n p.props) T1.b).1.2,false⟩) h1.ok)
  exact(h2.trans (C0g h2.ok fun o ho=>B3P ho _)).mono (by omega)
 ·rw[if_pos (by simpa using hb)]
  exact(A6S (h.mono (S8 n))).mono (by omega)
theorem A5p{full:Bool}{c:Int}{p:PkI}{B:i6}{n:Nat}(h:Y1 B n)(cd:(B.aB.map (·.c)).Nodup)(hk:B.kept.length≤64)(hl:p.aH.length≤100)(hw:p.aX.1.size≤9223372036854775807)(bN: -9223372036854775808≤c∧c≤9223372036854775807):
  Y1 (j9 full c p B).b (n+1)∧(j9 full c p B).outs.length≤3300000∧(j9 full c p B).aT.length≤3300000:=by
 have key:∀{T':V6},Step ⟨B,[],[]⟩ T' (n+1) 3300000→Y1 T'.b (n+1)∧T'.outs.length≤3300000∧T'.aT.length≤3300000:=fun{T'} hs=>⟨hs.ok,by have:=hs.outs;simpa using this,by have:=hs.aT;simpa using this⟩
 unfold j9
 split
 ·rename_i x hx
  have:=C5v (full:=full) (x:=x) (p:=p) (T:=⟨B,[],[]⟩) h (A1V hx).1 hk hl
  exact key ⟨this.ok.mono (S8 n),this.outs,this.aT⟩
 ·split
  ·exact key (B8Z (T:=⟨B,[],[]⟩) h cd hw bN)
  ·exact⟨h.mono (S8 n),by simp,by simp⟩
theorem B58{full:Bool}{c:Int}{B:i6}{n:Nat}(h:Y1 B n):Y1 (A8z full c B).b n∧(A8z full c B).outs.length≤3300000∧(A8z full c B).aT.length≤3300000:=
 let r:=step_end (full:=full) (c:=c) (w:=true) (T:=⟨B,[],[]⟩) h
 ⟨r.ok,C4 r.outs (by simp),C4 r.aT (by simp)⟩
theorem A9u{m:MsT}{B:i6}{n:Nat}(h:Y1 B n):Y1 (A1r m B).b n∧(A1r m B).outs.length≤3300000∧(A1r m B).aT.length≤3300000:=
 let r:=C4e (m:=m) (T:=⟨B,[],[]⟩) h
 ⟨r.ok,C4 r.outs (by simp),C4 r.aT (by simp)⟩
theorem Y1.new:Y1 ⟨0,[],[],[],[]⟩ 0 where
 aH:=by simp
 bM:=by simp
 live:=by simp
 one:=by simp
 nd:=by simp
 cl:=by simp
 dR:=by simp
 wl:=by simp
 cZ:=by simp
 cM:=by simp
 dQ:=by simp
 dE:=by simp
 dV:=by simp
 n32:=by simp
 eV:=by simp[A1i]
def A5O(b:i6)(c:Int):i6:=match A1I c b.aB with
 |none=>b
 |some x=>A9q x.aG (B1n (b.aB.filter fun y=>decide (y.c≠c)) b)
theorem A86{b:i6}:A2d b=(b.aB.map (·.c)).foldl A5O b:=rfl
theorem C2Q{full:Bool}{c:Int}{T:V6}:A4U full c false T=tB (A5O T.b c) T:=by
 unfold A4U A5O
 cases A1I c T.b.aB with
 |none=>rfl
 |some x=>simp
theorem B9O{B:i6}{n:Nat}{c:Int}(h:Y1 B n):Y1 (A5O B c) n:=by
 have:=(step_end (full:=true) (c:=c) (w:=false) (T:=⟨B,[],[]⟩) h).ok
 rw[C2Q] at this
 exact this
def A3s(k:Int)(s:W7):Bool:=decide (s.id=k)&&s.on&& !s.aO
def A3p(k:Int)(s:W7):Option W7:=if s.id=k∧s.on=true then(if s.aO=true then some (A8O s) else none) else some s
def B4t(b:i6)(c:Int):i6:=match A1I c b.aB with
 |none=>b
 |some x=>⟨b.last,b.aG.filterMap (A3p x.aG),b.aH.filter (fun e=> !(decide (e.1=x.aG)&&b.aG.any (A3s x.aG))),b.kept,b.aB.filter fun y=>decide (y.c≠c)⟩
theorem C8W{k:Int}{B:i6}(hn:(B.aG.map (·.id)).Nodup):A9q k B=⟨B.last,B.aG.filterMap (A3p k),B.aH.filter (fun e=> !(decide (e.1=k)&&B.aG.any (A3s k))),B.kept,B.aB⟩:=by
 have fu:∀{A:List W7},(∀s∈A,A3p k s=some s)→A.filterMap (A3p k)=A:=fun{A} hA=>by
  induction A with
  |nil=>rfl
  |cons s A ih=>rw[P0 (hA s (B6 ..)),ih fun t ht=>hA t (C2 _ ht)]
 have jP:B.aG.any (A3s k)=false→B.aH.filter (fun e=> !(decide (e.1=k)&&B.aG.any (A3s k)))=B.aH:=fun e=>by rw[e];simp
 unfold A9q
 cases hg:A5x k B.aG with
 |none=>
  have ay:∀s∈B.aG,s.id≠k:=fun s hs=>by simpa using E7.1 hg s hs
  have e1:B.aG.any (A3s k)=false:=List.any_eq_false.2 fun s hs=>by simp[A3s,ay s hs]
  rw[fu fun s hs=>if_neg fun e=>ay s hs e.1,jP e1]
 |some s=>
  obtain⟨hm,hid⟩:=C07 hg
  have gP:∀t∈B.aG,t.id=k→t=s:=fun t ht e=>B2e (f:=(·.id)) hn ht hm (e.trans hid.symm)
  simp only
  by_cases aV:s.on=false
  ·rw[if_pos aV]
   have e1:B.aG.any (A3s k)=false:=List.any_eq_false.2 fun t ht=>by
    by_cases e:t.id=k
    ·rw[gP t ht e];simp[A3s,aV]
    ·simp[A3s,e]
   have e2:∀t∈B.aG,A3p k t=some t:=fun t ht=>if_neg fun e=>by
    have:=gP t ht e.1
    subst this
    rw[aV] at e
    cases e.2
   rw[fu e2,jP e1]
  ·rw[if_neg aV]
   have cO:s.on=true:=by cases hh:s.on with|true=>rfl|false=>exact absurd hh aV
   by_cases je:s.aO=true
   ·rw[if_pos je]
    have e1:B.aG.any (A3s k)=false:=List.any_eq_false.2 fun t ht=>by
     by_cases e:t.id=k
     ·rw[gP t ht e];simp[A3s,je]
     ·simp[A3s,e]
    rw[jP e1]
    have e2:∀{A:List W7},(∀t∈A,t∈B.aG)→Y4 k A8O A=A.filterMap (A3p k):=fun{A} hA=>by
     induction A with
     |nil=>rfl
     |cons t A ih=>
      have ht:=hA t (B6 ..)
      have ih:=ih fun t ht=>hA t (C2 _ ht)
      unfold Y4 at ih⊢
      rw[B5]
      by_cases e:t.id=k
      ·have:=gP t ht e
       subst this
       rw[if_pos e,P0 (b:=A8O t) (by unfold A3p;rw[if_pos ⟨e,cO⟩,if_pos je]),ih]
      ·rw[if_neg e,P0 (b:=t) (by unfold A3p;rw[if_neg fun h=>e h.1]),ih]
    rw[e2 fun t ht=>ht]
   ·rw[if_neg je]
    have nZ:s.aO=false:=by cases hh:s.aO with|false=>rfl|true=>exact absurd hh je
    have e1:B.aG.any (A3s k)=true:=List.any_eq_true.2 ⟨s,hm,by simp[A3s,hid,cO,nZ]⟩
    have e2:∀{A:List W7},(∀t∈A,t∈B.aG)→A.filter (fun x=>decide (x.id≠k))=A.filterMap (A3p k):=fun{A} hA=>by
     induction A with
     |nil=>rfl
     |cons t A ih=>
      have ht:=hA t (B6 ..)
      have ih:=ih fun t ht=>hA t (C2 _ ht)
      by_cases e:t.id=k
      ·have:=gP t ht e
       subst this
       rw[G2 (by simpa using e),List.filterMap_cons_none (by unfold A3p;rw[if_pos ⟨e,cO⟩,if_neg je]),ih]
      ·rw[G9 (by simpa using e),P0 (b:=t) (by unfold A3p;rw[if_neg fun h=>e h.1]),ih]
    rw[e2 fun t ht=>ht,e1]
    simp only[Bool.and_true]
theorem C7D{B:i6}{c:Int}(h:l8 B):A5O B c=B4t B c:=by
 unfold A5O B4t
 cases A1I c B.aB with
 |none=>rfl
 |some x=>simp only;rw[C8W (B:=B1n (B.aB.filter fun y=>decide (y.c≠c)) B) h.nd]
theorem A9k{c d:Int}{l:List Z7}(h:c≠d):A1I c (l.filter fun y=>decide (y.c≠d))=A1I c l:=by
 unfold A1I
 rw[List.find?_filter]
 congr 1
 funext x
 by_cases e:x.c=c
 ·simp[e,h]
 ·simp[e]
theorem B9p{k:Int}{s t:W7}(h:A3p k s=some t):t.id=s.id:=by
 unfold A3p at h
 split at h
 ·split at h
  ·cases h;rfl
  ·cases h
 ·cases h;rfl
theorem C4z{i j:Int}(h:i≠j)(s:W7):(A3p i s).bind (A3p j)=(A3p j s).bind (A3p i):=by
 by_cases hi:s.id=i
 ·have hj:s.id≠j:=fun e=>h (hi.symm.trans e)
  have e1:A3p j s=some s:=if_neg fun e=>hj e.1
  rw[e1,N8]
  cases ho:A3p i s with
  |none=>rfl
  |some t=>rw[N8];exact if_neg fun e=>hj ((B9p ho).symm.trans e.1)
 ·have e1:A3p i s=some s:=if_neg fun e=>hi e.1
  rw[e1,N8]
  cases ho:A3p j s with
  |none=>rfl
  |some t=>rw[N8];exact(if_neg fun e=>hi ((B9p ho).symm.trans e.1)).symm
theorem C05{i j:Int}(h:i≠j)(A:List W7):(A.filterMap (A3p i)).any (A3s j)=A.any (A3s j):=by
 induction A with
 |nil=>rfl
 |cons s A ih=>
  rw[List.any_cons]
  cases ho:A3p i s with
  |none=>
   rw[List.filterMap_cons_none ho,ih]
   have hi:s.id=i:=by
    unfold A3p at ho
    split at ho
    ·rename_i hh;exact hh.1
    ·cases ho
   have:A3s j s=false:=by unfold A3s;rw[hi];simp[h]
   rw[this,S9]
  |some t=>
   rw[P0 ho,List.any_cons,ih]
   have hid:=B9p ho
   congr 1
   by_cases hi:s.id=i
   ·unfold A3s;rw[hid,hi];simp[h]
   ·have e1:A3p i s=some s:=if_neg fun e=>hi e.1
    rw[e1] at ho
    cases ho;rfl
theorem C2P(b:i6)(c d:Int):B4t (B4t b c) d=B4t (B4t b d) c:=by
 by_cases pg:c=d
 ·subst pg;rfl
 ·unfold B4t
  cases hc:A1I c b.aB with
  |none=>
   simp only
   cases hd:A1I d b.aB with
   |none=>simp only[hc,hd]
   |some y=>simp only;rw[A9k pg,hc]
  |some x=>
   simp only
   rw[A9k fun e=>pg e.symm]
   cases hd:A1I d b.aB with
   |none=>simp only[hc]
   |some y=>
    simp only
    rw[A9k pg,hc]
    simp only
    have e4:(b.aB.filter fun y=>decide (y.c≠c)).filter (fun y=>decide (y.c≠d))=(b.aB.filter fun y=>decide (y.c≠d)).filter (fun y=>decide (y.c≠c)):=by
     rw[R7,R7]
     congr 1
     funext z
     rw[Bool.and_comm]
    rw[e4]
    by_cases oL:x.aG=y.aG
    ·rw[oL]
    ·have e1:(b.aG.filterMap (A3p x.aG)).filterMap (A3p y.aG)=(b.aG.filterMap (A3p y.aG)).filterMap (A3p x.aG):=by
      rw[List.filterMap_filterMap,List.filterMap_filterMap]
      congr 1
      funext s
      exact C4z oL s
     rw[e1,C05 oL,C05 (fun e=>oL e.symm)]
     simp only[R7]
     refine congrArg (fun E=>(⟨_,_,E,_,_⟩:i6)) (L9 fun z _=>?_)
     exact Bool.and_comm _ _
theorem B9I{n:Nat}:∀(l:List Int) {B:i6},Y1 B n→l.foldl A5O B=l.foldl B4t B∧Y1 (l.foldl A5O B) n
 |[],_,h=>⟨rfl,h⟩
 |c::l,B,h=>by
  rw[I4,I4,←C7D h.tol8]
  exact B9I l (B9O h)
theorem B9h{n:Nat}{l:List Int}{B:i6}(h:Y1 B n)(hp:l.Perm (B.aB.map (·.c))):l.foldl A5O B=A2d B:=by
 rw[A86,(B9I l h).1,(B9I (B.aB.map (·.c)) h).1]
 exact hp.foldl_eq' (fun a _ b _ z=>C2P z a b) B
theorem C0s{n:Nat}{B:i6}(h:Y1 B n):Y1 (A2d B) n:=(B9I _ h).2
open Go.H Go.Proofs Go.Shelf
def A3U:Go.Shelf.Ren:=⟨fun n=>match n with|7=>41|10=>77|n=>n,fun n=>match n with|23=>102|26=>3|3=>112|28=>123|0=>0|27=>122|33=>196|4=>4|n=>n,fun n=>n⟩
theorem C73:SlLaysZI.n7 prog A3U where
 mixed:=by kernel_rfl
 f7:=⟨Tryz.f41.name,by kernel_rfl,func41.trans (congrArg some (by kernel_rfl))⟩
 f10:=⟨f77.name,by kernel_rfl,func77.trans (congrArg some (by kernel_rfl))⟩
 t0:=underlying0
 a0:=isAgg0
 z0:=sizeOf0
 v0:=zeroValue0
 t4:=underlying4
 a4:=isAgg4
 z4:=sizeOf4
 v4:=zeroValue4
 t23:=underlying102
 a23:=isAgg102
 z23:=sizeOf102
 v23:=zeroValue102
 t26:=underlying3
 a26:=isAgg3
 z26:=sizeOf3
 v26:=zeroValue3
 t27:=underlying122
 a27:=isAgg122
 z27:=sizeOf122
 v27:=zeroValue122
 t28:=underlying123
 a28:=isAgg123
 z28:=sizeOf123
 v28:=zeroValue123
 t33:=underlying196
 a33:=isAgg196
 z33:=sizeOf196
 v33:=zeroValue196
variable {h h0:Heap} {L L' L1 L2 L3 L4 L5 R:List Asn} {Q:Value→Heap→Prop}
structure C3d(p:Pk)(pl:List r8)(sl:List A0L)(fl:List B4p):Prop where
 cD:p.2.2.2.2.2.1.size≤9223372036854775807
 aD:(p.2.2.2.2.2.2.2.2.2.2.1).size≤9223372036854775807
 aX:(p.2.2.2.2.2.2.2.2.2.2.2.2.2.2.1).size≤9223372036854775807
 props:pl.length≤100
 aH:sl.length≤100
 sub:∀s∈sl,s.1.size≤9223372036854775807
 eU:fl.length≤100
 fil:∀f∈fl,f.size≤16777216
theorem C5U{t b n:Nat}{full:Bool}{T:V6}{x:Z7}{p:Pk}{pl:List r8}{sl:List A0L}{fl:List B4p}(ht:TP h0)(ag:Y1 T.b n)(hc:A1I x.c T.b.aB=some x)(hb:T.outs.length≤10000000)(hp:T.aT.length≤100000000)(dF:C3d p pl sl fl)
  (hq:At (Y3 t b full (B06 full x (pkI p pl sl fl) T)::old h0::L4) (Q (.tuple #[])))(hx:Has L (Y3 t b full T) L1:=by repeat first|with_reducible exact V5|apply V7)(hy:Has L1 (old h0) L2:=by repeat first|with_reducible exact V5|apply V7)(hz:Has L2 (V1 Y6 5 (A0P p) sl) L3:=by repeat first|with_reducible exact V5|apply V7)(hw:Has L3 (V1 A0p 1 (A4A p) fl) L4:=by repeat first|with_reducible exact V5|apply V7):
  FW prog 32 #[at0 t,.int .i64 x.c,A2B .u8 p] L Q:=by
 refine fun h hs=>A6E (some ⟨t,0,none⟩) x.c p h Q ((?_:W (Y3 t b full T::old h0::V1 Y6 5 (A0P p) sl::V1 A0p 1 (A4A p) fl::L4) _ _) h ((hx.eL hy hz hw).s hs))
 clear hs h hx hy hz hw
 have wg:=ag.s2k
 obtain⟨T9,aK⟩:∃T9,T9=B06 full x (pkI p pl sl fl) T:=⟨_,rfl⟩
 rw[←aK] at hq
 unfold B06 at aK
 dsimp only at aK
 delta A5B az bn cx A1h ie jc ji ju nw pu ve vi vz
 refine Y8 fun x1=>?_
 refine Y7 (X7 (enc:=Y6) (size:=5) (s:=A0P p) (xs:=sl)) fun cA=>?_
 refine Y7 (X7 (enc:=A0p) (size:=1) (s:=A4A p) (xs:=fl)) fun bZ=>?_
 refine A1j (fun r=>r.1=decide (1≤p.2.2.2.2.1∧p.2.2.2.2.1≤65535)) (fun K hK=>?_) (fun r gz=>?_)
 ·refine W.load (v:=p.2.2.2.2.1) ?_
  refine A0s (fun h1=>?_) (fun h1=>?_)
  ·refine W.load (v:=p.2.2.2.2.1) ?_
   refine U9 (hK _ ?_)
   simp only[decide_eq_true_eq] at h1
   simp[h1]
  ·refine U9 (hK _ ?_)
   simp only[decide_eq_false_iff_not] at h1
   simp[h1]
 refine A1j (fun r=>r.1=decide (p.1=3∨p.1=6)) (fun K hK=>?_) (fun r1 fb=>?_)
 ·refine W.load (v:=p.1) ?_
  refine A0s (fun g0=>U9 (hK _ ?_)) (fun g0=>?_)
  ·simp only[Q0] at g0;simp[g0]
  refine W.load (v:=p.1) ?_
  refine U9 (hK _ ?_)
  simp only[H9,ne_eq] at g0
  by_cases e:p.1=6
  ·simp[e]
  ·simp[e,g0]
 refine W.cut (fun _=>Y3 t b full T9::old h0::L4) (fun K0 oB=>?_) (fun _=>U9 hq.sub)
 by_cases hk:p.1=3∨p.1=6
 ·rw[if_pos hk] at aK
  subst aK
  refine Y5 (by rw[fb];exact decide_eq_true hk) ?_
  refine u7 (v:=p) ?_
  refine Z9 (C8e (T:=T) (x:=x) (p:=p) (pl:=pl) (sl:=sl) (fl:=fl) ht ag.tol8 hc (by omega) (by omega) dF.cD (At.bD ?_))
  exact U9 (oB ()).sub
 rw[if_neg hk] at aK
 refine X1 (by rw[fb];exact decide_eq_false hk) ?_
 clear fb hk
 refine A1j (fun r=>r.1=decide (p.1=4∨p.1=5∨p.1=7)) (fun K hK=>?_) (fun r2 cL=>?_)
 ·refine W.load (v:=p.1) ?_
  refine A0s (fun g0=>U9 (hK _ ?_)) (fun g0=>?_)
  ·simp only[Q0] at g0;simp[g0]
  refine W.load (v:=p.1) ?_
  refine A0s (fun g1=>U9 (hK _ ?_)) (fun g1=>?_)
  ·simp only[Q0] at g1;simp[g1]
  refine W.load (v:=p.1) ?_
  refine U9 (hK _ ?_)
  simp only[H9,ne_eq] at g0;simp only[H9,ne_eq] at g1
  by_cases e:p.1=7
  ·simp[e]
  ·simp[e,g0,g1]
 refine W.cut (fun _=>Y3 t b full T9::old h0::L4) (fun K1 fO=>?_) (fun _=>U9 (oB ()).sub)
 by_cases hk:p.1=4∨p.1=5∨p.1=7
 ·rw[if_pos hk] at aK
  subst aK
  refine Y5 (by rw[cL];exact decide_eq_true hk) ?_
  refine u7 (v:=p) ?_
  refine Z9 (C6P (T:=T) (x:=x) (p:=p) (pl:=pl) (sl:=sl) (fl:=fl) ht ag.tol8 hc (by omega) (by omega) (At.bD ?_))
  exact U9 (fO ()).sub
 rw[if_neg hk] at aK
 refine X1 (by rw[cL];exact decide_eq_false hk) ?_
 clear cL hk
 refine A1j (fun r=>r.1=decide (p.1=8∧1≤p.2.2.2.2.1∧p.2.2.2.2.1≤65535∧sl≠[])) (fun K hK=>?_) (fun r3 lq=>?_)
 ·refine W.load (v:=p.1) ?_
  refine A0s (fun g0=>?_) (fun g0=>U9 (hK _ ?_))
  ·simp only[Q0] at g0
   refine A0s (fun g1=>?_) (fun g1=>U9 (hK _ ?_))
   ·rw[gz] at g1
    refine W.load (v:=A0P p) ?_
    refine U9 (hK _ ?_)
    have g1:=of_decide_eq_true g1
    cases sl with
    |nil=>simp[cA]
    |cons a l=>simp[cA,g0,g1]
   ·rw[gz] at g1
    have g1:=of_decide_eq_false g1
    exact(decide_eq_false fun e=>g1 ⟨e.2.1,e.2.2.1⟩).symm
  ·simp only[H9,ne_eq] at g0
   exact(decide_eq_false fun e=>g0 e.1).symm
 refine W.cut (fun _=>Y3 t b full T9::old h0::L4) (fun K2 aQ=>?_) (fun _=>U9 (fO ()).sub)
 by_cases hk:p.1=8∧1≤p.2.2.2.2.1∧p.2.2.2.2.1≤65535∧sl≠[]
 ·rw[if_pos hk] at aK
  subst aK
  refine Y5 (by rw[lq];exact decide_eq_true hk) ?_
  refine u7 (v:=p) ?_
  refine Z9 (C0f (T:=T) (x:=x) (p:=p) (pl:=pl) (sl:=sl) (fl:=fl) ht ag.tol8 hc hb (by have:=dF.aH;omega) dF.aH dF.sub (At.bD ?_))
  exact U9 (aQ ()).sub
 rw[if_neg hk] at aK
 refine X1 (by rw[lq];exact decide_eq_false hk) ?_
 clear lq hk
 refine A1j (fun r=>r.1=decide (p.1=10∧1≤p.2.2.2.2.1∧p.2.2.2.2.1≤65535∧fl≠[])) (fun K hK=>?_) (fun r4 oR=>?_)
 ·refine W.load (v:=p.1) ?_
  refine A0s (fun g0=>?_) (fun g0=>U9 (hK _ ?_))
  ·simp only[Q0] at g0
   refine A0s (fun g1=>?_) (fun g1=>U9 (hK _ ?_))
   ·rw[gz] at g1
    refine W.load (v:=A4A p) ?_
    refine U9 (hK _ ?_)
    have g1:=of_decide_eq_true g1
    cases fl with
    |nil=>simp[bZ]
    |cons a l=>simp[bZ,g0,g1]
   ·rw[gz] at g1
    have g1:=of_decide_eq_false g1
    exact(decide_eq_false fun e=>g1 ⟨e.2.1,e.2.2.1⟩).symm
  ·simp only[H9,ne_eq] at g0
   exact(decide_eq_false fun e=>g0 e.1).symm
 refine W.cut (fun _=>Y3 t b full T9::old h0::L4) (fun K3 mo=>?_) (fun _=>U9 (aQ ()).sub)
 by_cases hk:p.1=10∧1≤p.2.2.2.2.1∧p.2.2.2.2.1≤65535∧fl≠[]
 ·rw[if_pos hk] at aK
  subst aK
  refine Y5 (by rw[oR];exact decide_eq_true hk) ?_
  refine u7 (v:=p) ?_
  refine Z9 (B7r (T:=T) (x:=x) (p:=p) (pl:=pl) (sl:=sl) (fl:=fl) ht ag.tol8 hc hb dF.eU dF.fil (At.bD ?_))
  exact U9 (mo ()).sub
 rw[if_neg hk] at aK
 refine X1 (by rw[oR];exact decide_eq_false hk) ?_
 clear oR hk
 refine W.load (v:=p.1) ?_
 refine W.cut (fun _=>Y3 t b full T9::old h0::L4) (fun K4 dh=>?_) (fun _=>U9 (mo ()).sub)
 by_cases hk:p.1=12
 ·rw[if_pos hk] at aK
  subst aK
  refine Y5 (by simpa using hk) ?_
  refine B7N (k:=.u8) (l6 13 0 0) rfl rfl ?_
  refine Z9 (B87 (T:=T) (c:=x.c) (o:=l6 13 0 0) (ci:=⟨none,0,0⟩) (pi:=⟨none,0,0⟩) (by omega) (At.bD ?_))
  exact U9 (dh ()).sub
 rw[if_neg hk] at aK
 refine X1 (by simpa using hk) ?_
 clear hk
 refine W.load (v:=p.1) ?_
 refine W.cut (fun _=>Y3 t b full T9::old h0::L4) (fun K5 vZ=>?_) (fun _=>U9 (dh ()).sub)
 by_cases hk:p.1=14
 ·rw[if_pos hk] at aK
  subst aK
  refine Y5 (by simpa using hk) ?_
  refine W.load (v:=p.2.2.2.2.2.2.2.1) ?_
  have e:(p.2.2.2.2.2.2.2.1==4)=decide (p.2.2.2.2.2.2.2.1=4):=rfl
  refine Z9 (C3R (T:=T) (c:=x.c) (aX:=p.2.2.2.2.2.2.2.1==4) ht ag.tol8 (by omega) (by omega) (At.bD ?_))
  rw[e]
  exact U9 (vZ ()).sub
 rw[if_neg hk] at aK
 subst aK
 refine X1 (by simpa using hk) ?_
 refine Z9 (A87 (T:=T) (c:=x.c) (code:=130) ht ag.tol8 (by omega) (by omega) (At.bD ?_))
 exact U9 (vZ ()).sub
theorem C7O{α:Type}{m:HM α}{Q':α→Heap→Prop}{t b:Nat}{full:Bool}{B:i6}(hw:W (Y3 t b full ⟨B,[],[]⟩::L2) m Q')(hx:Has L (cells t #[at0 b,.bool full,.slice none 0 0,.slice none 0 0]) L1:=by repeat first|with_reducible exact V5|apply V7)(hy:Has L1 (A0r b B) L2:=by repeat first|with_reducible exact V5|apply V7):W L m Q':=fun h hs=>
 hw h (A04.2 (A2H.2 ⟨⟨none,0,0⟩,⟨none,0,0⟩,((B18 (Z2 (enc:=Z5) (size:=5) ((hx.then hy).s hs))).re [2,0,1,3])⟩))
theorem C25{b:Nat}{B:i6}:∀h R,sat h (A0r b B::R)→(B.aB.map (·.c)).Nodup∧B.kept.length≤64:=fun h R hs=>by
 obtain⟨p,h1⟩:=A0I.1 hs
 exact⟨B5f (h1.re [4,0,1,2,3]),C0V (h1.re [3,0,1,2])⟩
theorem C6N(hq:∀b,At (A0r b ⟨0,[],[],[],[]⟩::L) (Q (at0 b))):FW prog 9 #[] L Q:=by
 refine fun h hs=>B3N h Q ((?_:W L _ _) h hs)
 clear hs h
 delta B65 az bn cp nw pu vi
 refine j2 (C5F (fun b1=>At.un (x:=some ⟨b1,0,none⟩) ?_))
 refine j2 (C7f (fun b2=>At.un ?_))
 refine j2 (C8w (fun b3=>At.un ?_))
 refine C85 (ek:=eKI) (ev:=eVC) fun b4=>?_
 refine Y8 fun b5=>?_
 refine W.eC (A:=A0r b5 ⟨0,[],[],[],[]⟩) (B:=cells b5 (A6I ⟨b1,b2,b3,b4⟩)) (C:=A1g b1 0 []) (D:=j5 b2 []) (E:=A1k b3 []) (F:=mapA eKI eVC b4 []) (fun h hs=>A0I.2 ⟨⟨b1,b2,b3,b4⟩,hs⟩) ?_
 exact U9 (hq b5).sub
theorem A9X{b n:Nat}{full:Bool}{B:i6}{c:Int}{p:Pk}{pl:List r8}{sl:List A0L}{fl:List B4p}(ht:TP h0)(ag:Y1 B n)(hn:n≤1000000)(dF:C3d p pl sl fl)(bN: -9223372036854775808≤c∧c≤9223372036854775807)
  (hq:∀so sp:Slc,At (W3 .u8 so (j9 full c (pkI p pl sl fl) B).outs::V1 Z5 5 sp (j9 full c (pkI p pl sl fl) B).aT::A0r b (j9 full c (pkI p pl sl fl) B).b::old h0::L5) (Q (.agg #[.slice so.a so.len so.cap,.slice sp.a sp.len sp.cap])))
  (hx:Has L (A0r b B) L1:=by repeat first|with_reducible exact V5|apply V7)(hy:Has L1 (old h0) L2:=by repeat first|with_reducible exact V5|apply V7)(hz:Has L2 (V1 Y6 5 (A0P p) sl) L3:=by repeat first|with_reducible exact V5|apply V7)(hw:Has L3 (V1 A0p 1 (A4A p) fl) L4:=by repeat first|with_reducible exact V5|apply V7)(hv:Has L4 (V1 X6 4 (A0y p) pl) L5:=by repeat first|with_reducible exact V5|apply V7):
  FW prog 13 #[at0 b,.int .i64 c,A2B .u8 p,.bool full] L Q:=by
 refine fun h hs=>A5D (some ⟨b,0,none⟩) c p full h Q ((?_:W (A0r b B::old h0::V1 Y6 5 (A0P p) sl::V1 A0p 1 (A4A p) fl::V1 X6 4 (A0y p) pl::L5) _ _) h ((hx.eX hy hz hw hv).s hs))
 clear hs h hx hy hz hw hv
 obtain⟨T9,aK⟩:∃T9,T9=j9 full c (pkI p pl sl fl) B:=⟨_,rfl⟩
 rw[←aK] at hq
 unfold j9 at aK
 dsimp only at aK
 delta A4s az bn cx A1h ie ji km nn nw pu sn ve vi vs vz
 refine Y8 fun x1=>?_
 refine Y8 fun x2=>?_
 refine X1 rfl ?_
 refine Y8 fun x4=>?_
 refine W9 ?_
 refine A1F (fun h R=>A0I.1) fun q=>?_
 refine Y7 (fun h R hs=>B5f (m:=q.cm) (l:=B.aB) hs) fun cd=>?_
 refine W.load (v:=some q.cm) ?_
 refine W.lookup (kind:=.agg tC) kKI c ?_
 rw[A3T]
 refine Y8 fun x8=>?_
 refine A0u ?_
 refine W.eC (A:=A0r b B) (B:=cells b (A6I q)) (C:=A1g q.tb B.last B.aG) (D:=j5 q.sb B.aH) (E:=A1k q.kb B.kept) (F:=mapA eKI eVC q.cm (B.aB.map A0g)) (fun h hs=>A0I.2 ⟨q,hs⟩) ?_
 refine C7O (t:=x4) (b:=b) (full:=full) (B:=B) ?_
 refine W.cut (fun _=>Y3 x4 b full T9::cells x2 #[.slice none 0 0,.slice none 0 0]::old h0::L5) (fun K hK=>?_) (fun _=>?_)
 ·clear hq
  cases hg:A1I c B.aB with
  |some x=>
   rw[hg] at aK
   simp only at aK
   subst aK
   have oM:=(A1V hg).2
   subst oM
   refine Y5 rfl ?_
   refine u7 (v:=p) ?_
   refine Z9 (C5U (T:=⟨B,[],[]⟩) (x:=x) (p:=p) (pl:=pl) (sl:=sl) (fl:=fl) ht ag hg (by simp) (by simp) dF (At.bD ?_))
   exact U9 (hK ()).sub
  |none=>
   rw[hg] at aK
   simp only at aK
   refine X1 rfl ?_
   refine W.load (v:=p.1) ?_
   refine W.cut (fun _=>Y3 x4 b full T9::cells x2 #[.slice none 0 0,.slice none 0 0]::old h0::L5) (fun K2 aQ=>?_) (fun _=>U9 (hK ()).sub)
   by_cases hk:p.1=1
   ·rw[if_pos hk] at aK
    subst aK
    refine Y5 (by simpa using hk) ?_
    refine u7 (v:=p) ?_
    refine Z9 (C44 (T:=⟨B,[],[]⟩) (c:=c) (p:=p) (pl:=pl) (sl:=sl) (fl:=fl) ht ag hn hg bN (by simp) (by simp) dF.aD dF.aX (by have:=dF.props;omega) (At.bD ?_))
    exact U9 (aQ ()).sub
   ·rw[if_neg hk] at aK
    subst aK
    refine X1 (by simpa using hk) ?_
    refine B7N (k:=.u8) (l6 14 0 130) rfl rfl ?_
    refine Z9 (B91 (T:=⟨B,[],[]⟩) (c:=c) (o:=l6 14 0 130) (ci:=⟨none,0,0⟩) (pi:=⟨none,0,0⟩) (by simp) (At.bD ?_))
    show W (Y3 x4 b full ⟨B,[⟨c,l6 14 0 130,true⟩],[]⟩::_) _ _
    exact U9 (aQ ()).sub
 clear aK
 refine C3c (A:=Y3 x4 b full T9) (fun h R hs=>A04.1 hs) ?_
 refine W9 ?_
 refine A7t (fun h R=>A2H.1) fun so sp=>?_
 refine A8p (v:=(so,sp,())) ?_
 refine A0u ?_
 refine u7 (v:=(so,sp,())) ?_
 exact U9 (hq so sp).sub
theorem C7H{b n:Nat}{full:Bool}{B:i6}{c:Int}(ht:TP h0)(ag:Y1 B n)
  (hq:∀so sp:Slc,At (W3 .u8 so (A8z full c B).outs::V1 Z5 5 sp (A8z full c B).aT::A0r b (A8z full c B).b::old h0::L2) (Q (.agg #[.slice so.a so.len so.cap,.slice sp.a sp.len sp.cap])))
  (hx:Has L (A0r b B) L1:=by repeat first|with_reducible exact V5|apply V7)(hy:Has L1 (old h0) L2:=by repeat first|with_reducible exact V5|apply V7):
  FW prog 24 #[at0 b,.int .i64 c,.bool full] L Q:=by
 refine fun h hs=>A6G (some ⟨b,0,none⟩) c full h Q ((?_:W (A0r b B::old h0::L2) _ _) h ((hx.then hy).s hs))
 clear hs h hx hy
 unfold A8z at hq
 delta A5E az bn cx ie nn nw pu sn vi vs vz
 refine Y8 fun x1=>?_
 refine X1 rfl ?_
 refine Y8 fun x3=>?_
 refine C7O (t:=x3) (b:=b) (full:=full) (B:=B) ?_
 refine Z9 (C3R (T:=⟨B,[],[]⟩) (c:=c) (aX:=true) ht ag.tol8 (by simp) (by simp) (At.bD ?_))
 generalize A4U full c true ⟨B,[],[]⟩=T9 at hq⊢
 refine C3c (A:=Y3 x3 b full T9) (fun h R hs=>A04.1 hs) ?_
 refine W9 ?_
 refine A7t (fun h R=>A2H.1) fun so sp=>?_
 refine A8p (v:=(so,sp,())) ?_
 refine A0u ?_
 refine u7 (v:=(so,sp,())) ?_
 exact U9 (hq so sp).sub
theorem C3a{b n:Nat}{B:i6}{m:MsT}(ht:TP h0)(ag:Y1 B n)(hm:m.1.size≤9223372036854775807)
  (hq:∀so:Slc,At (W3 .u8 so (A1r m B).outs::A0r b (A1r m B).b::old h0::L2) (Q (.slice so.a so.len so.cap)))
  (hx:Has L (A0r b B) L1:=by repeat first|with_reducible exact V5|apply V7)(hy:Has L1 (old h0) L2:=by repeat first|with_reducible exact V5|apply V7):
  FW prog 19 #[at0 b,vMs m] L Q:=by
 refine fun h hs=>A40 (some ⟨b,0,none⟩) (toU m) h Q ((?_:W (A0r b B::old h0::L2) _ _) h ((hx.then hy).s hs))
 clear hs h hx hy
 unfold A1r at hq
 delta A3I az cx g7 ie kc nn nw pu vz
 refine Y8 fun x1=>?_
 refine X1 rfl ?_
 refine Y8 fun x2=>?_
 refine C7O (t:=x2) (b:=b) (full:=false) (B:=B) ?_
 refine u7 (v:=toU m) ?_
 refine Z9 (C6m (T:=⟨B,[],[]⟩) (m:=m) ht ag.tol8 (by simp) hm (At.bD ?_))
 generalize A0Q m ⟨B,[],[]⟩=T9 at hq⊢
 refine C3c (A:=Y3 x2 b false T9) (fun h R hs=>A04.1 hs) ?_
 refine W9 ?_
 refine A7t (fun h R=>A2H.1) fun so sp=>?_
 refine j0 (v:=so) ?_
 exact U9 (hq so).sub
theorem C29{b:Nat}{B:i6}(hl:B.aH.length≤10000)(hq:∀S:Slc,At (V1 eS 1 S (A0D B.aH)::A0r b B::L1) (Q (.slice S.a S.len S.cap)))
  (hx:Has L (A0r b B) L1:=by repeat first|with_reducible exact V5|apply V7):FW prog 20 #[at0 b] L Q:=by
 refine fun h hs=>A4Z (some ⟨b,0,none⟩) h Q ((?_:W (A0r b B::L1) _ _) h (hx.s hs))
 clear hs h hx
 delta A3H cc ie kp nn pu
 refine X1 rfl ?_
 refine W9 ?_
 refine A1F (fun h R=>A0I.1) fun q=>?_
 refine W.load ?_
 refine j2 (B99 (t:=q.sb) (E:=B.aH) hl (fun S=>At.un (x:=S) ?_))
 refine W.eC (A:=A0r b B) (B:=cells b (A6I q)) (C:=A1g q.tb B.last B.aG) (D:=j5 q.sb B.aH) (E:=A1k q.kb B.kept) (F:=mapA eKI eVC q.cm (B.aB.map A0g)) (fun h hs=>A0I.2 ⟨q,hs⟩) ?_
 exact U9 (hq S).sub
theorem C1y{b n:Nat}{B:i6}(ag:Y1 B n)(hn:n≤1000000)(hq:∀S:Slc,At (V1 B6B 4 S (B.aG.map x9)::A0r b B::L1) (Q (.slice S.a S.len S.cap)))
  (hx:Has L (A0r b B) L1:=by repeat first|with_reducible exact V5|apply V7):FW prog 18 #[at0 b] L Q:=by
 refine fun h hs=>A4D (some ⟨b,0,none⟩) h Q ((?_:W (A0r b B::L1) _ _) h (hx.s hs))
 clear hs h hx
 delta A3y cc ie kp nn pu
 refine X1 rfl ?_
 refine W9 ?_
 refine A1F (fun h R=>A0I.1) fun q=>?_
 refine W.load (v:=some ⟨q.tb,0,none⟩) ?_
 refine j2 (C3s (b:=q.tb) (A:=B.aG) (by have:=ag.cM;omega) (fun s hs=>⟨by have:=(ag.dQ s hs).1;omega,(ag.dQ s hs).2⟩) ag.n32 ag.dE (fun S=>At.un (x:=S) ?_))
 refine W.eC (A:=A0r b B) (B:=cells b (A6I q)) (C:=A1g q.tb B.last B.aG) (D:=j5 q.sb B.aH) (E:=A1k q.kb B.kept) (F:=mapA eKI eVC q.cm (B.aB.map A0g)) (fun h hs=>A0I.2 ⟨q,hs⟩) ?_
 exact U9 (hq S).sub
theorem C2r{b:Nat}{o:b7}(hl:o.aF.length≤300)(hq:∀S:Slc,At (V1 u4 7 S o.aF::v7 b o::L1) (Q (.slice S.a S.len S.cap)))(hx:Has L (v7 b o) L1:=by repeat first|with_reducible exact V5|apply V7):
  FW prog 57 #[at0 b] L Q:=fun h hs=>B7B (hx.s hs) hl fun S h' af=>hq S h' af
theorem C2i{b:Nat}{o:b7}(hl:o.waiting.length≤300)(hq:∀S:Slc,At (V1 Z5 5 S o.waiting::v7 b o::L1) (Q (.slice S.a S.len S.cap)))(hx:Has L (v7 b o) L1:=by repeat first|with_reducible exact V5|apply V7):
  FW prog 58 #[at0 b] L Q:=fun h hs=>B7z (hx.s hs) hl fun S h' af=>hq S h' af
theorem C7I{b n:Nat}{B:i6}{c:B4p}{s:W7}(ag:Y1 B n)(hc:ofS c B.aG=some s)(hq:∀S1 S2:Slc,At (V1 u4 7 S1 s.out.aF::V1 Z5 5 S2 s.out.waiting::A0r b B::L1) (Q (.tuple #[.slice S1.a S1.len S1.cap,.slice S2.a S2.len S2.cap])))
  (hx:Has L (A0r b B) L1:=by repeat first|with_reducible exact V5|apply V7):FW prog 26 #[at0 b,.string c] L Q:=by
 refine fun h hs=>A6H (some ⟨b,0,none⟩) c h Q ((?_:W (A0r b B::L1) _ _) h (hx.s hs))
 clear hs h hx
 have hs:=(A7a hc).1
 have bZ:=ag.bM s hs
 have gF:=bZ.f64
 have hw:=bZ.wl
 delta A5F bn cc cp ie ji kp nn nw pu sn vi
 refine X1 rfl ?_
 refine W9 ?_
 refine A1F (fun h R=>A0I.1) fun q=>?_
 refine W.load (v:=some ⟨q.tb,0,none⟩) ?_
 refine Z9 (B89 (b:=q.tb) (A:=B.aG) (c:=c) ag.dV (At.bD (x:=A3E ((ofS c B.aG).map x9)) ?_))
 rw[hc]
 refine Y8 fun x4=>?_
 refine A0u ?_
 refine W9 ?_
 refine W.load (v:=some ⟨q.tb,0,none⟩) ?_
 refine W.load (v:=s.id) ?_
 refine A7t (fun h R=>A42 hs h R) fun ob ib=>?_
 refine j2 (B1p rfl (At.un ?_))
 refine j2 (C2r (b:=ob) (o:=s.out) (by omega) (fun S1=>At.un (x:=S1) ?_))
 refine j2 (C2i (b:=ob) (o:=s.out) (by omega) (fun S2=>At.un (x:=S2) ?_))
 have e1:Y4 s.id (Y9 s.out) B.aG=B.aG:=by
  rw[A7F (f:=Y9 s.out) (g:=fun s=>s) ag.nd hs rfl rfl,C3q]
 refine B0j (A:=A1g q.tb B.last (Y4 s.id (Y9 s.out) B.aG)) (fun h af=>A5a ag.nd hs rfl h af) ?_
 rw[e1]
 refine W.eC (A:=A0r b B) (B:=cells b (A6I q)) (C:=A1g q.tb B.last B.aG) (D:=j5 q.sb B.aH) (E:=A1k q.kb B.kept) (F:=mapA eKI eVC q.cm (B.aB.map A0g)) (fun h hs=>A0I.2 ⟨q,hs⟩) ?_
 exact U9 (hq S1 S2).sub
theorem C7w{m:Nat}(hq:∀x,At (cells x #[.map (some m)]::L) (Q (.func (.func (A3U.f 10)) #[] #[.pointer (some ⟨x,0,none⟩)]))):FW prog 41 #[.map (some m)] L Q:=fun h hs=>
 B09 (ρk:=A3U) C73 (some m) (hq h.size _ (hs.bI (T:=A3U.t 23) (cs:=#[.map (some m)])))
theorem C4g{m x:Nat}{l:List Z7}(hw:∀x∈l,-9223372036854775808≤x.c∧x.c≤9223372036854775807)(hl:l.length≤1000000)(hq:∀S:Slc,At (V1 eI 1 S (Z0 (l.map (·.c)))::mapA eKI eVC m (l.map A0g)::L2) (Q (.slice S.a S.len S.cap)))
  (hx:Has L (mapA eKI eVC m (l.map A0g)) L1:=by repeat first|with_reducible exact V5|apply V7)(hy:Has L1 (cells x #[.map (some m)]) L2:=by repeat first|with_reducible exact V5|apply V7):FW prog 40 #[.func (.func (A3U.f 10)) #[] #[.pointer (some ⟨x,0,none⟩)]] L Q:=fun h hs=>by
 have h1:=(hx.then hy).s hs
 refine A7B (ρk:=A3U) (ρs:=A5X) (ρt:=A7C) C73 B82 C12 rfl (enters_of func76 (by kernel_rfl) rfl) (enters_of func77 (by kernel_rfl) rfl) h1
  (fun p hp=>?_) (by rw[C0];omega) ((h1.re [1,0]).cell 0) fun s h' af=>?_
 ·obtain⟨y,hy,rfl⟩:=E3.1 hp
  have:=hw y hy
  simp[Lit.wf,IntKind.min,IntKind.max,IntKind.bits,IntKind.signed]
  omega
 ·rw[F3] at af
  exact hq s h' ((af.re [2,0,1]).drop)
theorem B8l:∀{l l':List Int},l.Nodup→(∀x∈l,x∈l')→l.length≤l'.length
 |[],_,_,_=>C9 _
 |x::l,l',hn,hs=>by
  obtain⟨a,b,rfl⟩:=H0 (hs x (B6 ..))
  have h1:=G0.1 hn
  have:=B8l (l:=l) (l':=a++b) h1.2 fun y hy=>by
   rcases C7.1 (hs y (C2 _ hy)) with h|h
   ·exact M0 _ h
   ·rcases D3.1 h with rfl|h
    ·exact absurd hy h1.1
    ·exact G8 _ h
  simp only[B3,B7] at this⊢
  omega
theorem A9V{B:i6}{n:Nat}(h:Y1 B n):B.aB.length≤1000000:=by
 have h1:(B.aB.map (·.aG)).Nodup:=by
  rw[List.nodup_iff_count]
  intro i
  have:=h.one i
  rw[List.count_eq_countP,List.countP_map,List.countP_eq_length_filter]
  exact this
 have h3:=B8l h1 (l':=B.aG.map (·.id)) fun i hi=>by
  obtain⟨x,hx,rfl⟩:=E3.1 hi
  obtain⟨s,hs,e⟩:=h.cl x hx
  exact e▸B4 hs
 simp only[C0] at h3
 have:=h.n32
 omega
theorem C1z{b n:Nat}{B:i6}(ag:Y1 B n)(hq:∀S:Slc,At (V1 eI 1 S (Z0 (B.aB.map (·.c)))::A0r b B::L1) (Q (.slice S.a S.len S.cap)))
  (hx:Has L (A0r b B) L1:=by repeat first|with_reducible exact V5|apply V7):FW prog 17 #[at0 b] L Q:=by
 refine fun h hs=>A5S (some ⟨b,0,none⟩) h Q ((?_:W (A0r b B::L1) _ _) h (hx.s hs))
 clear hs h hx
 delta A4N bn cc ie km nn pu
 refine X1 rfl ?_
 refine W9 ?_
 refine A1F (fun h R=>A0I.1) fun q=>?_
 refine W.load (v:=some q.cm) ?_
 refine j2 (C7w (m:=q.cm) fun x=>At.un (x:=Value.func (.func (A3U.f 10)) #[] #[.pointer (some ⟨x,0,none⟩)]) ?_)
 refine j2 (C4g (m:=q.cm) (l:=B.aB) (fun x hx=>(ag.wl x hx).2) (A9V ag) fun S=>At.un (x:=S) ?_)
 refine W.eC (A:=A0r b B) (B:=cells b (A6I q)) (C:=A1g q.tb B.last B.aG) (D:=j5 q.sb B.aH) (E:=A1k q.kb B.kept) (F:=mapA eKI eVC q.cm (B.aB.map A0g)) (fun h hs=>A0I.2 ⟨q,hs⟩) ?_
 exact U9 (hq S).sub
theorem C28{b n:Nat}{B:i6}(ht:TP h0)(ag:Y1 B n)(hq:At (A0r b (A2d B)::old h0::L2) (Q (.tuple #[])))
  (hx:Has L (A0r b B) L1:=by repeat first|with_reducible exact V5|apply V7)(hy:Has L1 (old h0) L2:=by repeat first|with_reducible exact V5|apply V7):FW prog 25 #[at0 b] L Q:=by
 refine fun h hs=>A4Y (some ⟨b,0,none⟩) h Q ((?_:W (A0r b B::old h0::L2) _ _) h ((hx.then hy).s hs))
 clear hs h hx hy
 delta A3G az bn cc cx ie ix li nw pu vi vz wi
 refine Y8 fun x1=>?_
 refine j2 (C1z (b:=b) (B:=B) ag (fun S=>At.un (x:=S) ?_))
 have hp:(Z0 (B.aB.map (·.c))).Perm (B.aB.map (·.c)):=R1 _ _
 rw[←B9h ag hp] at hq
 have bg:=A9V ag
 have hlen:(Z0 (B.aB.map (·.c))).length≤1000000:=by rw[hp.length_eq,C0];exact bg
 generalize Z0 (B.aB.map (·.c))=l at hq hlen⊢
 refine C7O (t:=x1) (b:=b) (full:=false) (B:=B) ?_
 refine Y7 (X7 (enc:=eI) (size:=1) (s:=S) (xs:=l)) fun hl=>?_
 refine W.loop (γ:=Nat×i6) (fun g s=>s.1=(g.1:Int)∧g.1≤l.length∧Y1 g.2 n∧(l.drop g.1).foldl A5O g.2=l.foldl A5O B) (fun g s=>Y3 x1 b false ⟨g.2,[],[]⟩::V1 eI 1 S l::old h0::L2) (fun g=>l.length-g.1) (0,B) ⟨rfl,C9 _,ag,rfl⟩ ?_ ?_
 ·show Sub _ (Y3 x1 b false ⟨B,[],[]⟩::V1 eI 1 S l::old h0::L2)
  repeat(first|with_reducible exact U3|with_reducible exact U4|refine U5 (by repeat first|with_reducible exact V5|apply V7) ?_|refine U6 ?_)
 rintro⟨i,B1⟩ s ⟨hi,cF,aL,hf⟩ K k1 k2
 simp only at hi cF aL hf
 by_cases ah:i<l.length
 ·refine Y5 (by rw[hi,hl];exact decide_eq_true (by omega)) ?_
  have aP:l[i]? =some l[i]:=B0 ah
  rw[E0 ah,I4] at hf
  generalize l[i]=u at aP hf
  refine b9 (enc:=eI) (xs:=l) (i:=i) ah (fun a ha=>?_) (he:=hi)
  refine A9y (x:=u) (v:=u) ha aP ?_
  refine Z9 (C3R (T:=⟨B1,[],[]⟩) (c:=u) (aX:=false) ht aL.tol8 (by simp) (by simp) (At.bD ?_))
  rw[C2Q]
  have f1:IntKind.wrap .i64 (s.1+1)=((i+1:Nat):Int):=by rw[hi,W6 (by omega) (by omega)];rfl
  have hn:=k1 (i+1,A5O B1 u) (IntKind.wrap .i64 (s.1+1),()) (by simp only;omega) ⟨f1,ah,B9O aL,hf⟩
  exact U9 hn.sub
 ·refine X1 (by rw[hi,hl];exact decide_eq_false (by omega)) (U9 (k2 _ _ ?_))
  have ff:i=l.length:=by omega
  subst ff
  rw[K9,Q6] at hf
  rw[hf]
  refine C3c (A:=Y3 x1 b false ⟨l.foldl A5O B,[],[]⟩) (fun h R hs=>A04.1 hs) ?_
  exact U9 hq.sub
end
section
open Go.H Go.Proofs Go.Lib
theorem C52{t:B4p}(h0:0<t.size)(h1:(t[0]'h0).toNat<128)(h2:(t[0]'h0).toNat≠0):A2q t=1:=by
 have hd:Lib.decodeGo t=((t[0]'h0).toNat,1):=by
  unfold Lib.decodeGo
  rw[if_neg (by omega)]
  exact decode_ascii t 0 h0 h1
 unfold A2q
 rw[hd]
 rw[if_neg]
 rintro(e|⟨e,-⟩)
 ·exact h2 e
 ·simp only at e;omega
theorem C4V{s:B4p}(hs:∀(i:Nat) (h:i<s.size),(s[i]'h).toNat<128∧(s[i]'h).toNat≠0):r9 s=none:=by
 have key:∀(f a:Nat),A6f s f a=none:=by
  intro f
  induction f with
  |zero=>intro a;rfl
  |succ f ih=>
   intro a
   unfold A6f
   by_cases ha:a<s.size
   ·rw[if_pos ha]
    have hsz:0<(s.extract a s.size).size:=by rw[ByteArray.size_extract];omega
    have hg:(s.extract a s.size)[0]'hsz=s[a]'ha:=by
     rw[ByteArray.getElem_extract];congr 1
    have:=C52 hsz (by rw[hg];exact(hs a ha).1) (by rw[hg];exact(hs a ha).2)
    rw[this,if_neg (by decide)]
    exact ih _
   ·rw[if_neg ha]
 exact key _ _
def C7J(s:B4p):Bool:=s.data.toList.all fun c=>decide (c.toNat<128)&&decide (c.toNat≠0)
theorem B2B{s:B4p}(h:C7J s=true):r9 s=none:=C4V fun i hi=>by
 unfold C7J at h
 have:=J1.1 h (s[i]'hi) (by
  have:s[i]'hi=s.data.toList[i]'(by simpa using hi):=by simp[ByteArray.getElem_eq_getElem_data]
  rw[this];exact H6 _)
 simpa using this
theorem A9H(s:B4p):levels s=(lev 47 [] s.data.toList).map fun l=>ByteArray.mk l.toArray:=by
 refine A7R ?_
 rw[A28,F3]
 symm
 refine(I2 fun x _=>?_).trans (U2 _)
 simp
def B84(s:B4p):Bool:=C7J s&&decide (s.data.toList.length≠0)&&decide (s.data.toList.length≤256)&&decide ((lev 47 [] s.data.toList).length≤32)
theorem B7Y{s:B4p}(h:B84 s=true):A1v s=true:=by
 unfold B84 at h
 simp only[E8,decide_eq_true_eq] at h
 obtain⟨⟨⟨h1,h2⟩,h3⟩,h4⟩:=h
 refine A1a.2 ⟨B2B h1,by simpa using h2,by simpa using h3,?_⟩
 rw[A9H,C0];exact h4
theorem C58{s:B4p}(h:B84 s=true)(h1:hasB 43 s=false)(h2:hasB 35 s=false):a8 s=true:=by
 unfold a8;rw[B7Y h,h1,h2];rfl
theorem B6t{s:B4p}(h:B84 s=true)(h1:A4o ((lev 47 [] s.data.toList).map fun l=>ByteArray.mk l.toArray)=true):Y2 s=true:=by
 unfold Y2;rw[B7Y h,A9H,h1];rfl
theorem B8q{f n:B4p}(hf:Y2 f=true)(hn:a8 n=true)(hd:A35 f n=false)(hm:A2x ((lev 47 [] f.data.toList).map fun l=>ByteArray.mk l.toArray) ((lev 47 [] n.data.toList).map fun l=>ByteArray.mk l.toArray)=true):Z8 f n=true:=by
 unfold Z8;rw[hf,hn,hd,A9H,A9H,hm];rfl
theorem C04{s:B4p}(h:C7J s=true)(h1:s≠ByteArray.mk #[])(h2:s.size≤64):i7 s:=⟨B2B h,h1,h2⟩
open Go.H Go.Proofs
abbrev w0:MsT:=(e0S,e0S,0,false,e0S)
abbrev B4n(aD:B4p):PkI:={kind:=1,dH:=false,eT:=0,id:=0,cD:=e0S,cU:=e0S,code:=0,props:=[(17,100,e0S,e0S)],aD:=aD,clean:=false,bE:=false,aX:=w0,aH:=[],bO:=[]}
abbrev C7h(id:Int)(sl:List A0L):PkI:={kind:=8,dH:=false,eT:=0,id:=id,cD:=e0S,cU:=e0S,code:=0,props:=[],aD:=e0S,clean:=false,bE:=false,aX:=w0,aH:=sl,bO:=[]}
abbrev D0d(m:MsT)(id:Int):PkI:={kind:=3,dH:=m.2.2.2.1,eT:=m.2.2.1,id:=id,cD:=m.1,cU:=m.2.1,code:=0,props:=[],aD:=e0S,clean:=false,bE:=false,aX:=w0,aH:=[],bO:=[]}
def A9l(id:Int)(c:B4p):W7:=⟨id,c,true,true,⟨⟨64,0,[]⟩,64,true,[],[]⟩,⟨64,0,[]⟩⟩
def C2y(c:Int)(aD:B4p)(B:i6):i6:=⟨B.last+1,B.aG++[A9l (B.last+1) aD],B.aH,B.kept,B.aB++[⟨c,B.last+1,false,w0⟩]⟩
theorem C1v:A0z ⟨⟨64,0,[]⟩,64,false,[],[]⟩ 64=(⟨⟨64,0,[]⟩,64,true,[],[]⟩,[]):=by
 unfold A0z Z6
 simp[goF]
 decide
theorem C38{l:List Z7}{id:Int}:A2v l id []=[]:=by
 unfold A2v
 simp
theorem C4i{A:List W7}{s:W7}{f:W7→W7}(hn:∀x∈A,x.id≠s.id):Y4 s.id f (A++[s])=A++[f s]:=by
 unfold Y4
 rw[B8,B5,I3,if_pos rfl]
 congr 1
 have:A.map (fun x=>if x.id=s.id then f x else x)=A.map id:=I2 fun x hx=>if_neg (hn x hx)
 rw[this,U2]
theorem C4R{A:List W7}{s:W7}(hn:∀x∈A,x.id≠s.id):A5x s.id (A++[s])=some s:=by
 unfold A5x
 rw[P5,E7.2 (fun x hx=>by simpa using hn x hx)]
 simp
theorem join_eq{full:Bool}{B:i6}{n:Nat}{c:Int}{aD:B4p}(h:Y1 B n)(hc:A1I c B.aB=none)(ho:ofS aD B.aG=none)(hl:B.aB.length<64)(hg:i7 aD)(eK:B.aG.length<32):
  j9 full c (B4n aD) B=⟨C2y c aD B,[⟨c,A2b false,false⟩],[]⟩:=by
 have hb:A6J (B4n aD) B=0:=by
  unfold A6J
  rw[if_neg (by simp),if_neg (by omega),if_neg (fun e=>e hg),if_neg (by omega)]
 have ay:∀x∈B.aG,x.id≠(A2E (B.last+1) aD true).id:=fun x hx=>by
  have:=(h.dQ x hx).2
  show x.id≠B.last+1
  omega
 have hr:j8 aD false true B=((B.last+1,false),{B with last:=B.last+1,aG:=B.aG++[A2E (B.last+1) aD true]}):=by
  unfold j8;rw[ho]
 have hk:A1c full aD ⟨B,[],[]⟩=⟨B,[],[]⟩:=by unfold A1c;rw[ho]
 have je:A0n [(17,100,e0S,e0S)]=true:=by unfold A0n A02;rfl
 have xu:A1Y [(17,100,e0S,e0S)]=64:=by unfold A1Y A02;rfl
 unfold j9
 rw[hc]
 simp only[if_true]
 unfold A1T
 rw[if_neg (by simpa using hb),A45]
 simp only[hk,je,xu,hr,ho]
 unfold A01
 have xG:A5x (B.last+1) (B.aG++[A2E (B.last+1) aD true])=some (A2E (B.last+1) aD true):=C4R ay
 simp only[xG]
 have kG:A0z (A2E (B.last+1) aD true).out 64=(⟨⟨64,0,[]⟩,64,true,[],[]⟩,[]):=C1v
 rw[kG]
 have jQ:Y4 (B.last+1) (Y9 ⟨⟨64,0,[]⟩,64,true,[],[]⟩) (B.aG++[A2E (B.last+1) aD true])=B.aG++[A9l (B.last+1) aD]:=C4i ay
 simp only[jQ,A2a]
 show V6.mk _ (_++A2v _ _ []) _=_
 rw[C38,C1]
 rfl
abbrev tAP:B4p:=ByteArray.mk #[97,47,43]
abbrev tH:B4p:=ByteArray.mk #[35]
abbrev tAB:B4p:=ByteArray.mk #[97,47,98]
abbrev tC1:B4p:=ByteArray.mk #[99]
abbrev tD1:B4p:=ByteArray.mk #[100]
abbrev tX1:B4p:=ByteArray.mk #[120]
theorem C7Z:Y2 tAP=true:=B6t (by decide) (by decide)
theorem C9t:Y2 tH=true:=B6t (by decide) (by decide)
theorem C5Z:a8 tAB=true:=C58 (by decide) (by decide) (by decide)
theorem C9u:Z8 tAP tAB=true:=B8q C7Z C5Z (by decide) (by decide)
theorem D0e:Z8 tH tAB=true:=B8q C9t C5Z (by decide) (by decide)
theorem C9y:i7 tC1:=C04 (by decide) (by decide) (by decide)
theorem C9x:i7 tD1:=C04 (by decide) (by decide) (by decide)
abbrev slW:List A0L:=[(tAP,1,false,false,0),(tH,0,false,false,0)]
def B1w:i6:=C2y 1 tC1 ⟨0,[],[],[],[]⟩
def E1w:List Ent:=[(1,tH,0),(1,tAP,1)]
def B2w:i6:=B4B E1w B1w
def B3w:i6:=C2y 2 tD1 B2w
theorem C9O:A2P [] 1 tAP 1=(0,[(1,tAP,1)]):=by
 unfold A2P
 rw[if_neg (by rw[C7Z];decide),if_neg (by decide)]
 rfl
theorem C9N:A2P [(1,tAP,1)] 1 tH 0=(0,E1w):=by
 unfold A2P
 rw[if_neg (by rw[C9t];decide),if_neg (by decide)]
 have e:List.findIdx? (fun x=>decide (j3 x=(1,tH))) [((1:Int),tAP,(1:Int))]=none:=by decide
 rw[e]
 simp only
 rw[if_neg (by decide)]
 have e2:A2z ltK j3 ((1:Int),tH,(0:Int)) [((1:Int),tAP,(1:Int))]=E1w:=by
  unfold A2z
  rw[if_pos (by decide)]
  rfl
 rw[e2]
theorem D0g:l9 1 slW []=(E1w,[1,0]):=by
 unfold l9
 simp only[C9O]
 unfold l9
 simp only[C9N]
 unfold l9
 rfl
theorem C81:added 1 slW []=slW:=by
 unfold added
 simp only[C9O]
 unfold added
 simp only[C9N]
 unfold added
 rfl
theorem C2p:Y1 ⟨0,[],[],[],[]⟩ 0:=Y1.new
theorem w1:j9 false 1 (B4n tC1) ⟨0,[],[],[],[]⟩=⟨B1w,[⟨1,A2b false,false⟩],[]⟩:=join_eq C2p rfl rfl (by decide) C9y (by decide)
theorem w2:j9 false 1 (C7h 1 slW) B1w=⟨B2w,[⟨1,A03 9 1 [1,0],false⟩],[]⟩:=by
 unfold j9
 have hg:A1I 1 B1w.aB=some ⟨1,1,false,w0⟩:=rfl
 rw[hg]
 simp only
 unfold B06
 rw[if_neg (by decide),if_neg (by decide),if_pos (by decide)]
 unfold A1u
 have hs:B1w.aH=[]:=rfl
 have hk:B1w.kept=[]:=rfl
 simp only[hs,D0g,C81]
 unfold l0
 simp only[I4,Q6]
 rw[if_neg (by decide)]
 simp only[hk,A6z,J9,Q6]
 rw[if_neg (by decide)]
 rfl
theorem C9s:Y1 B1w 1:=by
 have:=(A5p (full:=false) (c:=1) (p:=B4n tC1) C2p (by simp) (by simp) (by decide) (by decide) (by decide)).1
 rw[w1] at this;exact this
theorem C5X:Y1 B2w 2:=by
 have:=(A5p (full:=false) (c:=1) (p:=C7h 1 slW) C9s (by decide) (by decide) (by decide) (by decide) (by decide)).1
 rw[w2] at this;exact this
theorem w3:j9 false 2 (B4n tD1) B2w=⟨B3w,[⟨2,A2b false,false⟩],[]⟩:=join_eq C5X rfl (by decide) (by decide) C9x (by decide)
theorem C9r:Y1 B3w 3:=by
 have:=(A5p (full:=false) (c:=2) (p:=B4n tD1) C5X (by decide) (by decide) (by decide) (by decide) (by decide)).1
 rw[w3] at this;exact this
abbrev mW:MsT:=(tAB,tX1,2,false,e0S)
theorem C5E(m:MsT)(hm:m.2.2.1=1):∃o i,Z1 ⟨⟨64,0,[]⟩,64,true,[],[]⟩ m=((o,[A0G m i false]),0):=by
 unfold Z1
 rw[if_neg (by omega),if_neg (by omega),if_neg (by simp)]
 unfold Z6
 rw[if_pos rfl]
 simp only[F0]
 unfold goF
 rw[if_neg (by simp),if_pos (by omega)]
 simp only[goF]
 exact⟨_,_,rfl⟩
theorem w4:∃B p i,j9 false 2 (D0d mW 9) B3w=⟨B,[⟨2,l6 5 9 0,false⟩,⟨1,A0G p i false,false⟩],[mW]⟩∧p.2.2.1=1:=by
 unfold j9
 have hg:A1I 2 B3w.aB=some ⟨2,2,false,w0⟩:=rfl
 rw[hg]
 simp only
 unfold B06
 rw[if_pos (by decide)]
 unfold A8t
 have vL:A5x 2 B3w.aG=some (A9l 2 tD1):=rfl
 rw[if_neg (by rw[C5Z];decide),vL]
 have ht:q7 (A9l 2 tD1).bA 3 2 9 0=(true,some (5,0),0,[9]):=by decide
 simp only[ht,if_neg (show ¬(false=true) by decide)]
 rw[if_neg (by simp),if_pos (by simp)]
 unfold A4d A0Q A2i
 rw[if_neg (by decide)]
 have iI:B3w.aH=E1w:=rfl
 have hf:E1w.filter (fun x=>Z8 x.2.1 tAB)=E1w:=H3.2 fun x hx=>by
  rcases D3.1 hx with rfl|hx
  ·exact D0e
  ·rw[B9.1 hx];exact C9u
 simp only[iI,hf]
 have hid:A5w none E1w=[1]:=by decide
 rw[hid]
 simp only[I4,Q6]
 have dZ:min (2:Int) (A2L E1w 1)=1:=by decide
 unfold A1o
 simp only[dZ]
 unfold A01
 obtain⟨o,i,xc⟩:=C5E (tAB,tX1,1,false,e0S) rfl
 have xI:A5x 1 (Y4 2 (k9 ⟨(A9l 2 tD1).bA.most,(A9l 2 tD1).bA.taken,[9]⟩) B3w.aG)=some (A9l 1 tC1):=rfl
 simp only[xI]
 have tj:(A9l 1 tC1).out=⟨⟨64,0,[]⟩,64,true,[],[]⟩:=rfl
 rw[tj,xc]
 exact⟨_,(tAB,tX1,1,false,e0S),i,rfl,rfl⟩
variable {h h0:Heap} {L L' L1 L2 L3 L4 L5 R:List Asn} {Q:Value→Heap→Prop}
theorem C5c{β γ:Type}{t:Tag}{enc:γ→D0r}{size:Nat}{s:Slc}{xs:List γ}{Q':β→Heap→Prop}{i j k:Nat}{a:Addr}{x:γ}{v:t.ty}{f:t.ty→HM β}(ha:El s size i a)(hi:xs[i]? =some x)(hw:W L (f v) Q')(hx:Has L (V1 enc size s xs) L':=by repeat first|with_reducible exact V5|apply V7)(hv:((enc x)[j+k]?).bind t.get=some v:=by rfl)[Enc enc size]:W L (HM.bind (r7 t (Addr.add (Addr.add a j) k)) f) Q':=by
 rw[A7s]
 exact A3d ha hi hw hx hv
theorem C6W{α γ:Type}{enc:γ→D0r}{size:Nat}{m:HM α}{Q':α→Heap→Prop}{x:Nat}{cs:D0q}(u:γ)(hw:W (V1 enc size ⟨some ⟨x,0,none⟩,1,1⟩ [u]::L') m Q')(hx:Has L (cells x cs) L':=by repeat first|with_reducible exact V5|apply V7)(hc:cs=(enc u).toArray:=by rfl)[Enc enc size]:W L m Q':=fun h hs=>by
 subst hc
 refine hw h (A1N (b:=x) (o:=0) (cs:=(enc u).toArray) ⟨by simp,D9 _,rfl,by simp[Enc.len (enc:=enc)],by
  simp[Enc.len (enc:=enc)]
  exact D1 (U1 (Enc.len u))⟩ (hx.s hs))
abbrev p6:Slc:=⟨none,0,0⟩
abbrev B4q(x:Nat)(aD:B4p):Pk:=(1,false,false,0,0,e0S,e0S,0,p6,⟨some ⟨x,0,none⟩,1,1⟩,aD,false,0,false,e0S,e0S,0,false,p6,false,false,e0S,e0S,false,p6,p6,())
abbrev C8f(S:Slc)(id:Int):Pk:=(8,false,false,0,id,e0S,e0S,0,p6,p6,e0S,false,0,false,e0S,e0S,0,false,p6,false,false,e0S,e0S,false,S,p6,())
abbrev C7r(m:MsT)(id:Int):Pk:=(3,false,m.2.2.2.1,m.2.2.1,id,m.1,m.2.1,0,p6,p6,e0S,false,0,false,e0S,e0S,0,false,p6,false,false,e0S,e0S,false,p6,p6,())
theorem A6j:e0S.size≤9223372036854775807:=by decide
theorem C6h{x:Nat}{aD:B4p}(h:aD.size≤9223372036854775807):C3d (B4q x aD) [(17,100,e0S,e0S)] [] []:=⟨A6j,h,A6j,by decide,by decide,by simp,by decide,by simp⟩
theorem C7i{S:Slc}{id:Int}{sl:List A0L}(h:sl.length≤100)(h2:∀s∈sl,s.1.size≤9223372036854775807):C3d (C8f S id) [] sl []:=⟨A6j,A6j,A6j,by decide,h,h2,by decide,by simp⟩
theorem C7q{m:MsT}{id:Int}(h:m.1.size≤9223372036854775807):C3d (C7r m id) [] [] []:=⟨h,A6j,A6j,by decide,by decide,by simp,by decide,by simp⟩
theorem C6g{b n:Nat}{B B1 B2:i6}{c:Int}{aD:B4p}{sl:List A0L}{S:Slc}{o1 o2:u5}{r1 r2:List u5}{ps:List MsT}(ht:TP h0)(ag:Y1 B n)(hn:n≤999999)(au:(B.aB.map (·.c)).Nodup)(jw:B.kept.length≤64)(bN: -9223372036854775808≤c∧c≤9223372036854775807)(bg:aD.size≤9223372036854775807)
  (cA:sl.length≤100)(jQ:∀s∈sl,s.1.size≤9223372036854775807)
  (h1:j9 false c (B4n aD) B=⟨B1,o1::r1,[]⟩)(eo:o1.pk.kind=2)(fK:o1.pk.code=0)
  (h2:(sl=[]∧B2=B1)∨(sl≠[]∧j9 false c (C7h 1 sl) B1=⟨B2,o2::r2,ps⟩∧o2.pk.kind=9∧o2.pk.cB.length=sl.length))
  (hq:At (A0r b B2::old h0::L3) (Q (.bool true)))(hx:Has L (A0r b B) L1:=by repeat first|with_reducible exact V5|apply V7)(hy:Has L1 (old h0) L2:=by repeat first|with_reducible exact V5|apply V7)(hz:Has L2 (V1 Y6 5 S sl) L3:=by repeat first|with_reducible exact V5|apply V7):
  FW prog 11 #[at0 b,.int .i64 c,.string aD,.slice S.a S.len S.cap] L Q:=by
 refine fun h hs=>B3s (some ⟨b,0,none⟩) c aD S h Q ((?_:W (A0r b B::old h0::V1 Y6 5 S sl::L3) _ _) h ((hx.cQ hy hz).s hs))
 clear hs h hx hy hz
 have aL:Y1 B1 (n+1):=by
  have:=(A5p (full:=false) (c:=c) (p:=B4n aD) ag au jw (by simp) A6j bN).1
  rw[h1] at this;exact this
 delta B6b az bn ie ix jc kc ki ku nw pu sn ve vi vs vz
 refine Y8 fun x1=>?_
 refine C6W (enc:=X6) ((17,100,e0S,e0S):r8) ?_
 refine A4u Y6 5 ?_
 refine A4u A0p 1 ?_
 refine j2 (A9X (p:=B4q x1 aD) (pl:=[(17,100,e0S,e0S)]) (sl:=[]) (fl:=[]) (full:=false) ht ag (by omega) (C6h bg) bN (fun so sp=>At.un (x:=(so,sp,())) ?_))
 rw[show j9 false c (pkI (B4q x1 aD) [(17,100,e0S,e0S)] [] []) B=⟨B1,o1::r1,[]⟩ from h1]
 dsimp only
 refine Y8 fun x3=>?_
 refine A0u ?_
 refine Y7 (X7 (enc:=Z5) (size:=5) (s:=sp) (xs:=([]:List MsT))) fun fz=>?_
 refine C1I (fun h R=>A3m.1) fun T hT=>?_
 obtain⟨⟨c1,p1,o⟩,T,rfl⟩:∃a T',T=a::T':=by cases T with|nil=>cases hT|cons a T=>exact⟨a,T,rfl⟩
 have xY:o=o1:=(List.cons.inj hT).1
 clear hT
 subst xY
 refine Y7 (X7 (enc:=A1p .u8) (size:=28) (s:=so) (xs:=((c1,p1,o)::T).map ouF)) fun gl=>?_
 refine A1j (fun r=>r.1=false) (fun K hK=>?_) (fun r hr=>?_)
 ·refine W.load (v:=so) ?_
  refine X1 (by rw[gl];exact decide_eq_false (by simp only[B5,B7];omega)) ?_
  refine W.load (v:=so) ?_
  refine b9 (enc:=A1p .u8) (xs:=((c1,p1,o)::T).map ouF) (i:=0) (by simp) (fun a ha=>?_)
  refine C5c (x:=ouF (c1,p1,o)) (v:=o.pk.kind) ha rfl ?_
  refine X1 (by rw[eo];rfl) ?_
  refine W.load (v:=so) ?_
  refine b9 (enc:=A1p .u8) (xs:=((c1,p1,o)::T).map ouF) (i:=0) (by simp) (fun a2 bQ=>?_)
  refine C5c (x:=ouF (c1,p1,o)) (v:=o.pk.code) bQ rfl ?_
  refine X1 (by rw[fK];rfl) ?_
  refine j0 (b:=x3) (i:=1) (v:=sp) ?_
  refine U9 (hK _ ?_)
  rw[fz];rfl
 refine X1 hr ?_
 refine Y7 (X7 (enc:=Y6) (size:=5) (s:=S) (xs:=sl)) fun dD=>?_
 rcases h2 with⟨rfl,rfl⟩|⟨bS,h2,gD,eD⟩
 ·refine Y5 (by rw[dD];rfl) ?_
  exact U9 hq.sub
 ·refine X1 (by rw[dD];exact decide_eq_false (fun e=>bS (L8.1 (by omega)))) ?_
  refine A4u X6 4 ?_
  refine A4u A0p 1 ?_
  refine j2 (A9X (B:=B1) (p:=C8f S 1) (pl:=[]) (sl:=sl) (fl:=[]) (full:=false) ht aL (by omega) (C7i cA jQ) bN (fun gr iH=>At.un (x:=(gr,iH,())) ?_))
  rw[show j9 false c (pkI (C8f S 1) [] sl []) B1=⟨B2,o2::r2,ps⟩ from h2]
  dsimp only
  refine Y8 fun pO=>?_
  refine A0u ?_
  refine C1I (fun h R hs=>(A3m (k:=.u8) (s:=gr) (os:=o2::r2)).1 hs) fun T2 oz=>?_
  obtain⟨⟨c2,p2,o'⟩,T2,rfl⟩:∃a T',T2=a::T':=by cases T2 with|nil=>cases oz|cons a T=>exact⟨a,T,rfl⟩
  have uz:o'=o2:=(List.cons.inj oz).1
  clear oz
  subst uz
  refine Y7 (X7 (enc:=A1p .u8) (size:=28) (s:=gr) (xs:=((c2,p2,o')::T2).map ouF)) fun tF=>?_
  refine Y7 (A:=b8 (ouB .u8) ((c2,p2,o')::T2)) (p:=c2.len=o'.pk.cB.length) (fun h R hs=>?_) fun ur=>?_
  ·have h5:sat h (b8 (ouB .u8) [(c2,p2,o')]::b8 (ouB .u8) T2::R):=A5G.1 hs
   have h6:=A4Q.1 (A3Z.1 h5)
   exact h6.aW
  refine A1j (fun r=>r.1=true) (fun K hK=>?_) (fun r cL=>?_)
  ·refine W.load (v:=gr) ?_
   refine Y5 (by rw[tF];exact decide_eq_true (by simp only[B5,B7];omega)) ?_
   refine W.load (v:=gr) ?_
   refine b9 (enc:=A1p .u8) (xs:=((c2,p2,o')::T2).map ouF) (i:=0) (by simp) (fun a ha=>?_)
   refine C5c (x:=ouF (c2,p2,o')) (v:=o'.pk.kind) ha rfl ?_
   refine Y5 (by rw[gD];rfl) ?_
   refine W.load (v:=gr) ?_
   refine b9 (enc:=A1p .u8) (xs:=((c2,p2,o')::T2).map ouF) (i:=0) (by simp) (fun a2 bQ=>?_)
   refine C5c (x:=ouF (c2,p2,o')) (v:=c2) bQ rfl ?_
   refine U9 (hK _ ?_)
   rw[ur,eD,dD];simp
  refine U9 ?_
  show At _ (Q (.bool r.1))
  rw[cL]
  exact hq.sub
end
section
open Go.H Go.Proofs
variable {h h0:Heap} {L L' L1 L2 L3 L4 L5 R:List Asn} {Q:Value→Heap→Prop}
theorem C9R{β:Type}{b o:Nat}{cs cs':D0q}{vs:D0r}{f:Unit→HM β}{Q':β→Heap→Prop}(hw:W (cells b cs'::L') (f ()) Q')(hx:Has L (cells b cs) L':=by repeat first|with_reducible exact V5|apply V7)(hc:cs.toList.take o++vs++cs.toList.drop (o+vs.length)=cs'.toList:=by rfl)(hl:(o+vs.length).ble cs.size=true:=by rfl)(hv:vs.all (fun v=>v.oneCell')=true:=by rfl):
  W L (HM.bind (B0I (Addr.add ⟨b,0,none⟩ o) vs) f) Q':=fun h hs=>by
 have aa:=hx.s hs
 have gC:o+vs.length≤cs.size:=O8 hl
 rw[V0]
 refine⟨A3w (o:=o) aa gC (J1.1 hv),?_⟩
 obtain⟨c2,e1,e2,h2⟩:=sat.setCells vs cs o 0 aa (by omega)
 simp only[O7] at e2
 have e3:c2=cs':=I8.1 (e2.trans hc)
 subst e3
 exact hw _ h2
theorem C7N{γ β:Type}{enc:γ→D0r}{size:Nat}{s s2:Slc}{xs:List γ}{f:Slc→HM β}{Q':β→Heap→Prop}(hr:e8 enc size h0 s xs)(hw:∀s',e8 enc size h0 s' (xs.take 80)→W L (f s') Q')(hs:s2=s:=by rfl):
  W L (HM.bind (HM.slice s none (some (if 80<(((s2.len:Nat):Int):Int) then 80 else((s2.len:Nat):Int))) none size) f) Q':=by
 subst hs
 have hl:=hr.1
 by_cases jF:80<xs.length
 ·rw[if_pos (by omega)]
  exact C3Z (n:=80) hr (by omega) hw
 ·rw[if_neg (by omega)]
  have e:xs.take 80=xs.take xs.length:=by rw[D1 (by omega),F5]
  refine C3Z (n:=xs.length) hr (D9 _) (fun s' dy=>hw s' (by rw[e];exact dy)) (by rw[hl])
theorem C3B{S:Slc}{pl:List r8}(hr:e8 X6 4 h0 S pl)(hq:∀S1 S2:Slc,At (V1 X6 4 S1 (pl.take 80)::V1 X6 4 S2 (pl.take 80)::old h0::L1) (Q (.tuple #[.slice S1.a S1.len S1.cap,.slice S2.a S2.len S2.cap])))
  (hx:Has L (old h0) L1:=by repeat first|with_reducible exact V5|apply V7):FW prog 39 #[.slice S.a S.len S.cap] L Q:=by
 refine fun h hs=>B2m S h Q ((?_:W (old h0::L1) _ _) h (hx.s hs))
 clear hs h hx
 delta B4l az bn g8 ie ix nw pu rq sn wi
 refine C7N hr (fun s' dy=>?_)
 have jF:(pl.take 80).length≤80:=K7 _ _
 generalize pl.take 80=xs at dy hq jF
 refine B7O X6 4 (xs.take 0) ?_
 refine B7O X6 4 (xs.take 0) ?_
 refine W.loop (γ:=Nat) (fun g s=>s.2.2.1=(g:Int)∧g≤xs.length) (fun g s=>V1 X6 4 s.1 (xs.take g)::V1 X6 4 s.2.1 (xs.take g)::old h0::L1) (fun g=>xs.length-g) 0 ⟨rfl,C9 _⟩ Sub.rfl ?_
 rintro i s ⟨hi,cF⟩ K k1 k2
 by_cases ah:i<xs.length
 ·refine Y5 (by rw[hi,dy.1];exact decide_eq_true (by omega)) ?_
  have aP:xs[i]? =some xs[i]:=B0 ah
  have aR:xs.take (i+1)=xs.take i++[xs[i]]:=C3 ah
  generalize xs[i]=u at aP aR
  have hb:((xs.take i).length+1)*48≤140737488355328:=by rw[D6];omega
  have hn:∀S1 S2:Slc,At (V1 X6 4 S1 (xs.take i++[u])::V1 X6 4 S2 (xs.take i++[u])::old h0::L1) (K (.inl (S1,S2,IntKind.wrap .i64 (s.2.2.1+1),()))):=fun S1 S2=>by
   have:=k1 (i+1) (S1,S2,IntKind.wrap .i64 (s.2.2.1+1),()) (by omega) ⟨by simp only[hi];rw[W6 (by omega) (by omega)];rfl,ah⟩
   simp only at this
   rw[aR] at this
   exact this
  refine A8n dy ah (fun a ha=>?_) (he:=hi)
  refine B45 (v:=prU u) dy ha aP ?_
  refine Y8 fun x6=>?_
  refine A0u ?_
  refine u7 (v:=prU u) ?_
  refine u7 (v:=prU u) ?_
  repeat' (first|refine Y8 fun _=>?_|refine u7 (v:=prU u) ?_|refine A1t ?_ rfl|with_reducible refine A8o ?_ ?_|refine B0k (enc:=X6) u (fun _=>?_) hb)
  all_goals exact U9 (hn _ _).sub
 ·refine X1 (by rw[hi,dy.1];exact decide_eq_false (by omega)) (U9 (k2 _ _ ?_))
  have ff:i=xs.length:=by omega
  subst ff
  rw[F5]
  exact U9 (hq _ _).sub
structure C9T(h0:Heap)(p:Pk)(pl wl:List r8)(cl:List Int)(sl:List A0L)(fl:List B4p):Prop where
 props:e8 X6 4 h0 (p.2.2.2.2.2.2.2.2.2.1) pl
 wprops:e8 X6 4 h0 (p.2.2.2.2.2.2.2.2.2.2.2.2.2.2.2.2.2.2.1) wl
 cB:e8 (eKd .u8) 1 h0 (p.2.2.2.2.2.2.2.2.1) cl
 aH:e8 Y6 5 h0 (p.2.2.2.2.2.2.2.2.2.2.2.2.2.2.2.2.2.2.2.2.2.2.2.2.1) sl
 eU:e8 A0p 1 h0 (p.2.2.2.2.2.2.2.2.2.2.2.2.2.2.2.2.2.2.2.2.2.2.2.2.2.1) fl
abbrev pkR(p:Pk)(c:Int)(s8 s9 dx dq dp:Slc):Pk:=(p.1,p.2.1,p.2.2.1,p.2.2.2.1,p.2.2.2.2.1,p.2.2.2.2.2.1,p.2.2.2.2.2.2.1,c,s8,s9,p.2.2.2.2.2.2.2.2.2.2.1,p.2.2.2.2.2.2.2.2.2.2.2.1,p.2.2.2.2.2.2.2.2.2.2.2.2.1,p.2.2.2.2.2.2.2.2.2.2.2.2.2.1,p.2.2.2.2.2.2.2.2.2.2.2.2.2.2.1,p.2.2.2.2.2.2.2.2.2.2.2.2.2.2.2.1,p.2.2.2.2.2.2.2.2.2.2.2.2.2.2.2.2.1,p.2.2.2.2.2.2.2.2.2.2.2.2.2.2.2.2.2.1,dx,p.2.2.2.2.2.2.2.2.2.2.2.2.2.2.2.2.2.2.2.1,p.2.2.2.2.2.2.2.2.2.2.2.2.2.2.2.2.2.2.2.2.1,p.2.2.2.2.2.2.2.2.2.2.2.2.2.2.2.2.2.2.2.2.2.1,p.2.2.2.2.2.2.2.2.2.2.2.2.2.2.2.2.2.2.2.2.2.2.1,p.2.2.2.2.2.2.2.2.2.2.2.2.2.2.2.2.2.2.2.2.2.2.2.1,dq,dp,())
theorem C4y{p:Pk}{pl wl:List r8}{cl:List Int}{sl:List A0L}{fl:List B4p}{cc:Int}(hr:C9T h0 p pl wl cl sl fl)(gd:cc=IntKind.wrap .i64 (p.2.2.2.2.2.2.2.1))
  (hq:∀c1 c2 p1 p2 w1 w2 s1 s2 f1 f2:Slc,At (V1 X6 4 p1 (pl.take 80)::V1 Y6 5 s1 (sl.take 80)::V1 A0p 1 f1 (fl.take 80)::V1 X6 4 p2 (pl.take 80)::V1 Y6 5 s2 (sl.take 80)::V1 A0p 1 f2 (fl.take 80)::old h0::L1) (Q (.tuple #[A2B .u8 (pkR p (p.2.2.2.2.2.2.2.1) c1 p1 w1 s1 f1),A2B .i64 (pkR p cc c2 p2 w2 s2 f2)])))
  (hx:Has L (old h0) L1:=by repeat first|with_reducible exact V5|apply V7):FW prog 16 #[A2B .u8 p] L Q:=by
 refine fun h hs=>B0b p h Q ((?_:W (old h0::L1) _ _) h (hx.s hs))
 clear hs h hx
 obtain⟨vb,qk,vf,qj,qi⟩:=hr
 obtain⟨vk,vd,vr,vq,vi,vt,vp,vc,s8,s9,cz,cy,cn,cq,cR,cX,cV,cT,dx,cv,cw,vu,ck,cg,dq,dp,⟨⟩⟩:=p
 dsimp only at vb qk vf qj qi gd hq
 delta B0x ad az bn g2 A1h g6 ie ix jb jc ji jt ju kb kc ki kt lt lu nw pu rq sn so sw sx ve vi vs vz w10 w11 w12 w13 w14 w15 w16 w17 w18 w19 w20 w21 w22 w23 w24 w25 w5 w6 w7 w8 w9 wi
 let C8:Slc→Slc→Slc→Slc→Slc→D0q:=fun a b c d e=>#[.int .i64 vk,.bool vd,.bool vr,.int .i64 vq,.int .i64 vi,.string vt,.string vp,.int .u8 vc,.slice a.a a.len a.cap,.slice b.a b.len b.cap,.string cz,.bool cy,.int .i64 cn,.bool cq,.string cR,.string cX,.int .i64 cV,.bool cT,.slice c.a c.len c.cap,.bool cv,.bool cw,.string vu,.string ck,.bool cg,.slice d.a d.len d.cap,.slice e.a e.len e.cap]
 let C6:Slc→Slc→Slc→Slc→Slc→D0q:=fun a b c d e=>#[.int .i64 vk,.bool vd,.bool vr,.int .i64 vq,.int .i64 vi,.string vt,.string vp,.int .i64 cc,.slice a.a a.len a.cap,.slice b.a b.len b.cap,.string cz,.bool cy,.int .i64 cn,.bool cq,.string cR,.string cX,.int .i64 cV,.bool cT,.slice c.a c.len c.cap,.bool cv,.bool cw,.string vu,.string ck,.bool cg,.slice d.a d.len d.cap,.slice e.a e.len e.cap]
 refine Y8 fun x1=>?_
 refine W.cells (b:=x1) (C8 s8 s9 dx dq dp) ?_
 refine Y8 fun x2=>?_
 refine Y8 fun x3=>?_
 refine W.load (b:=x1) (v:=vk) ?_
 refine W.load (b:=x1) (v:=vd) ?_
 refine W.load (b:=x1) (v:=vr) ?_
 refine W.load (b:=x1) (v:=vq) ?_
 refine W.load (b:=x1) (v:=vi) ?_
 refine W.load (b:=x1) (v:=vt) ?_
 refine W.load (b:=x1) (v:=vp) ?_
 refine W.load (b:=x1) (v:=vc) ?_
 refine W.load (b:=x1) (v:=cz) ?_
 refine W.load (b:=x1) (v:=cy) ?_
 refine W.load (b:=x1) (v:=cn) ?_
 refine W.load (b:=x1) (v:=cq) ?_
 refine W.load (b:=x1) (v:=cv) ?_
 refine W.load (b:=x1) (v:=cw) ?_
 refine W.load (b:=x1) (v:=vu) ?_
 refine W.load (b:=x1) (v:=ck) ?_
 refine W.load (b:=x1) (v:=cg) ?_
 refine Y8 fun dC=>?_
 refine A0u (b:=dC) ?_
 refine W.cells (b:=dC) (#[.int .i64 vk,.bool vd,.bool vr,.int .i64 vq,.int .i64 vi,.string vt,.string vp,.int .u8 vc,.slice none 0 0,.slice none 0 0,.string cz,.bool cy,.int .i64 cn,.bool cq,.string e0S,.string e0S,.int .i64 0,.bool false,.slice none 0 0,.bool cv,.bool cw,.string vu,.string ck,.bool cg,.slice none 0 0,.slice none 0 0]) ?_
 refine W.load (b:=x1) (v:=vk) ?_
 refine W.load (b:=x1) (v:=vd) ?_
 refine W.load (b:=x1) (v:=vr) ?_
 refine W.load (b:=x1) (v:=vq) ?_
 refine W.load (b:=x1) (v:=vi) ?_
 refine W.load (b:=x1) (v:=vt) ?_
 refine W.load (b:=x1) (v:=vp) ?_
 refine W.load (b:=x1) (v:=vc) ?_
 refine W.load (b:=x1) (v:=cz) ?_
 refine W.load (b:=x1) (v:=cy) ?_
 refine W.load (b:=x1) (v:=cn) ?_
 refine W.load (b:=x1) (v:=cq) ?_
 refine W.load (b:=x1) (v:=cv) ?_
 refine W.load (b:=x1) (v:=cw) ?_
 refine W.load (b:=x1) (v:=vu) ?_
 refine W.load (b:=x1) (v:=ck) ?_
 refine W.load (b:=x1) (v:=cg) ?_
 refine Y8 fun eM=>?_
 refine A0u (b:=eM) ?_
 rw[←gd]
 refine W.cells (b:=eM) (#[.int .i64 vk,.bool vd,.bool vr,.int .i64 vq,.int .i64 vi,.string vt,.string vp,.int .i64 cc,.slice none 0 0,.slice none 0 0,.string cz,.bool cy,.int .i64 cn,.bool cq,.string e0S,.string e0S,.int .i64 0,.bool false,.slice none 0 0,.bool cv,.bool cw,.string vu,.string ck,.bool cg,.slice none 0 0,.slice none 0 0]) ?_
 refine W.load (b:=x1) (v:=s9) ?_
 refine Z9 (C3B vb (fun p1 p2=>At.bD (x:=(p1,p2,())) ?_))
 refine W.store (b:=dC) (cs':=#[.int .i64 vk,.bool vd,.bool vr,.int .i64 vq,.int .i64 vi,.string vt,.string vp,.int .u8 vc,.slice none 0 0,.slice p1.a p1.len p1.cap,.string cz,.bool cy,.int .i64 cn,.bool cq,.string e0S,.string e0S,.int .i64 0,.bool false,.slice none 0 0,.bool cv,.bool cw,.string vu,.string ck,.bool cg,.slice none 0 0,.slice none 0 0]) ?_
 refine W.store (b:=eM) (cs':=#[.int .i64 vk,.bool vd,.bool vr,.int .i64 vq,.int .i64 vi,.string vt,.string vp,.int .i64 cc,.slice none 0 0,.slice p2.a p2.len p2.cap,.string cz,.bool cy,.int .i64 cn,.bool cq,.string e0S,.string e0S,.int .i64 0,.bool false,.slice none 0 0,.bool cv,.bool cw,.string vu,.string ck,.bool cg,.slice none 0 0,.slice none 0 0]) ?_
 refine j0 (b:=x1) (i:=14) (v:=cR) ?_
 refine j0 (b:=x1) (i:=15) (v:=cX) ?_
 refine j0 (b:=x1) (i:=16) (v:=cV) ?_
 refine j0 (b:=x1) (i:=17) (v:=cT) ?_
 refine C9R (b:=dC) (cs':=(C8 p6 p1 p6 p6 p6)) ?_
 refine j0 (b:=x1) (i:=14) (v:=cR) ?_
 refine j0 (b:=x1) (i:=15) (v:=cX) ?_
 refine j0 (b:=x1) (i:=16) (v:=cV) ?_
 refine j0 (b:=x1) (i:=17) (v:=cT) ?_
 refine C9R (b:=eM) (cs':=(C6 p6 p2 p6 p6 p6)) ?_
 refine j0 (b:=x1) (i:=18) (v:=dx) ?_
 refine Z9 (C3B qk (fun w1 w2=>At.bD (x:=(w1,w2,())) ?_))
 refine A4v (b:=dC) (i:=18) (cs':=(C8 p6 p1 w1 p6 p6)) ?_
 refine A4v (b:=eM) (i:=18) (cs':=(C6 p6 p2 w2 p6 p6)) ?_
 refine W.load (b:=x1) (v:=s8) ?_
 refine W.load (b:=x1) (v:=s8) ?_
 refine C7N vf (fun s' dy=>?_)
 have jF:(cl.take 80).length≤80:=K7 _ _
 generalize fU:cl.take 80=xs at dy jF
 clear fU
 refine B7O (eKd .u8) 1 (xs.take 0) ?_
 refine B7O (eKd .i64) 1 ((xs.take 0).map (IntKind.wrap .i64)) ?_
 refine W.loop (γ:=Nat×Slc×Slc) (fun g s=>s.1=(g.1:Int)∧g.1≤xs.length) (fun g s=>cells dC (C8 g.2.1 p1 w1 p6 p6)::cells eM (C6 g.2.2 p2 w2 p6 p6)::V1 (eKd .u8) 1 g.2.1 (xs.take g.1)::V1 (eKd .i64) 1 g.2.2 ((xs.take g.1).map (IntKind.wrap .i64))::cells x1 ((C8 s8 s9 dx dq dp))::cells x2 zS3::cells x3 zS2::V1 X6 4 p1 (pl.take 80)::V1 X6 4 p2 (pl.take 80)::old h0::L1)
  (fun g=>xs.length-g.1) (0,p6,p6) ⟨rfl,C9 _⟩ ?_ ?_
 ·show Sub _ (cells dC (C8 p6 p1 w1 p6 p6)::cells eM (C6 p6 p2 w2 p6 p6)::V1 (eKd .u8) 1 p6 (xs.take 0)::V1 (eKd .i64) 1 p6 ((xs.take 0).map (IntKind.wrap .i64))::cells x1 ((C8 s8 s9 dx dq dp))::cells x2 zS3::cells x3 zS2::V1 X6 4 p1 (pl.take 80)::V1 X6 4 p2 (pl.take 80)::old h0::L1)
  repeat(first|with_reducible exact U3|with_reducible exact U4|refine U5 (by repeat first|with_reducible exact V5|apply V7) ?_|refine U6 ?_)
 rintro⟨i,c1,c2⟩ s ⟨hi,cF⟩ K k1 k2
 simp only at hi cF
 by_cases ah:i<xs.length
 ·refine Y5 (by rw[hi,dy.1];exact decide_eq_true (by omega)) ?_
  have aP:xs[i]? =some xs[i]:=B0 ah
  have aR:xs.take (i+1)=xs.take i++[xs[i]]:=C3 ah
  generalize xs[i]=u at aP aR
  have gg:((xs.take i).length+1)*1≤140737488355328:=by simp only[C0,D6];omega
  have dA:(((xs.take i).map (IntKind.wrap .i64)).length+1)*8≤140737488355328:=by simp only[C0,D6];omega
  have hn:∀T1 T2:Slc,At (cells dC (C8 T1 p1 w1 p6 p6)::cells eM (C6 T2 p2 w2 p6 p6)::V1 (eKd .u8) 1 T1 (xs.take i++[u])::V1 (eKd .i64) 1 T2 ((xs.take i).map (IntKind.wrap .i64)++[IntKind.wrap .i64 u])::cells x1 ((C8 s8 s9 dx dq dp))::cells x2 zS3::cells x3 zS2::V1 X6 4 p1 (pl.take 80)::V1 X6 4 p2 (pl.take 80)::old h0::L1) (K (.inl (IntKind.wrap .i64 (s.1+1),()))):=fun T1 T2=>by
   have:=k1 (i+1,T1,T2) (IntKind.wrap .i64 (s.1+1),()) (by simp only;omega) ⟨by simp only[hi];rw[W6 (by omega) (by omega)];rfl,ah⟩
   simp only[aR,B8,B5,I3] at this
   exact this
  clear k1 k2
  refine A8n dy ah (fun a ha=>?_) (he:=hi)
  refine C7P (x:=u) (v:=u) dy ha aP ?_
  refine W.load (b:=dC) (v:=c1) ?_
  refine W.load (b:=eM) (v:=c2) ?_
  repeat' (first|with_reducible refine A8o ?_ ?_|refine B0k (s:=c1) (enc:=eKd .u8) (u) (fun T1=>?_) gg|refine B0k (s:=c2) (enc:=eKd .i64) (IntKind.wrap .i64 u) (fun T2=>?_) dA|refine A1t ?_ rfl|refine W.load (b:=eM) (v:=c2) ?_|refine W.load (b:=dC) (v:=c1) ?_|refine Y8 fun _=>?_)
  all_goals
   refine W.store (b:=dC) (cs':=(C8 T1 p1 w1 p6 p6)) ?_
   refine W.store (b:=eM) (cs':=(C6 T2 p2 w2 p6 p6)) ?_
   exact U9 (hn T1 T2).sub
 refine X1 (by rw[hi,dy.1];exact decide_eq_false (by omega)) (U9 (k2 _ _ ?_))
 have ff:i=xs.length:=by omega
 subst ff
 clear k1 k2 jF
 clear dy ah cF hi
 dsimp only
 refine W.load (b:=x1) (v:=dq) ?_
 refine W.load (b:=x1) (v:=dq) ?_
 refine C7N qj (fun s' dy=>?_)
 have jF:(sl.take 80).length≤80:=K7 _ _
 generalize fU:sl.take 80=xs at dy hq jF
 clear fU
 refine B7O (Y6) 5 (xs.take 0) ?_
 refine B7O (Y6) 5 (xs.take 0) ?_
 refine W.loop (γ:=Nat×Slc×Slc) (fun g s=>s.1=(g.1:Int)∧g.1≤xs.length) (fun g s=>cells dC (C8 c1 p1 w1 g.2.1 p6)::cells eM (C6 c2 p2 w2 g.2.2 p6)::V1 (Y6) 5 g.2.1 (xs.take g.1)::V1 (Y6) 5 g.2.2 (xs.take g.1)::cells x1 ((C8 s8 s9 dx dq dp))::cells x2 zS3::cells x3 zS2::V1 X6 4 p1 (pl.take 80)::V1 X6 4 p2 (pl.take 80)::old h0::L1)
  (fun g=>xs.length-g.1) (0,p6,p6) ⟨rfl,C9 _⟩ ?_ ?_
 ·show Sub _ (cells dC (C8 c1 p1 w1 p6 p6)::cells eM (C6 c2 p2 w2 p6 p6)::V1 (Y6) 5 p6 (xs.take 0)::V1 (Y6) 5 p6 (xs.take 0)::cells x1 ((C8 s8 s9 dx dq dp))::cells x2 zS3::cells x3 zS2::V1 X6 4 p1 (pl.take 80)::V1 X6 4 p2 (pl.take 80)::old h0::L1)
  repeat(first|with_reducible exact U3|with_reducible exact U4|refine U5 (by repeat first|with_reducible exact V5|apply V7) ?_|refine U6 ?_)
 rintro⟨i,s1,s2⟩ s ⟨hi,cF⟩ K k1 k2
 simp only at hi cF
 by_cases ah:i<xs.length
 ·refine Y5 (by rw[hi,dy.1];exact decide_eq_true (by omega)) ?_
  have aP:xs[i]? =some xs[i]:=B0 ah
  have aR:xs.take (i+1)=xs.take i++[xs[i]]:=C3 ah
  generalize xs[i]=u at aP aR
  have gg:((xs.take i).length+1)*40≤140737488355328:=by simp only[C0,D6];omega
  have dA:((xs.take i).length+1)*40≤140737488355328:=by simp only[C0,D6];omega
  have hn:∀T1 T2:Slc,At (cells dC (C8 c1 p1 w1 T1 p6)::cells eM (C6 c2 p2 w2 T2 p6)::V1 (Y6) 5 T1 (xs.take i++[u])::V1 (Y6) 5 T2 (xs.take i++[u])::cells x1 ((C8 s8 s9 dx dq dp))::cells x2 zS3::cells x3 zS2::V1 X6 4 p1 (pl.take 80)::V1 X6 4 p2 (pl.take 80)::old h0::L1) (K (.inl (IntKind.wrap .i64 (s.1+1),()))):=fun T1 T2=>by
   have:=k1 (i+1,T1,T2) (IntKind.wrap .i64 (s.1+1),()) (by simp only;omega) ⟨by simp only[hi];rw[W6 (by omega) (by omega)];rfl,ah⟩
   simp only[aR,B8,B5,I3] at this
   exact this
  clear k1 k2 hq
  refine A8n dy ah (fun a ha=>?_) (he:=hi)
  refine B45 (x:=u) (v:=sbU u) dy ha aP ?_
  refine Y8 fun gh=>?_
  refine A0u (b:=gh) ?_
  refine W.load (b:=dC) (v:=s1) ?_
  refine u7 (b:=gh) (v:=sbU u) ?_
  refine W.load (b:=eM) (v:=s2) ?_
  refine u7 (b:=gh) (v:=sbU u) ?_
  repeat' (first|with_reducible refine A8o ?_ ?_|refine B0k (s:=s1) (enc:=Y6) (u) (fun T1=>?_) gg|refine B0k (s:=s2) (enc:=Y6) (u) (fun T2=>?_) dA|refine A1t ?_ rfl|refine W.load (b:=eM) (v:=s2) ?_|refine W.load (b:=dC) (v:=s1) ?_|refine u7 (b:=gh) (v:=sbU u) ?_|refine Y8 fun _=>?_)
  all_goals
   refine W.store (b:=dC) (cs':=(C8 c1 p1 w1 T1 p6)) ?_
   refine W.store (b:=eM) (cs':=(C6 c2 p2 w2 T2 p6)) ?_
   exact U9 (hn T1 T2).sub
 refine X1 (by rw[hi,dy.1];exact decide_eq_false (by omega)) (U9 (k2 _ _ ?_))
 have ff:i=xs.length:=by omega
 subst ff
 clear k1 k2 jF
 rw[F5]
 dsimp only
 generalize xs=iW at*
 refine W.load (b:=x1) (v:=dp) ?_
 refine W.load (b:=x1) (v:=dp) ?_
 refine C7N qi (fun s' dy=>?_)
 have jF:(fl.take 80).length≤80:=K7 _ _
 generalize fU:fl.take 80=xs at dy hq jF
 clear fU
 refine B7O (A0p) 1 (xs.take 0) ?_
 refine B7O (A0p) 1 (xs.take 0) ?_
 refine W.loop (γ:=Nat×Slc×Slc) (fun g s=>s.1=(g.1:Int)∧g.1≤xs.length) (fun g s=>cells dC (C8 c1 p1 w1 s1 g.2.1)::cells eM (C6 c2 p2 w2 s2 g.2.2)::V1 (A0p) 1 g.2.1 (xs.take g.1)::V1 (A0p) 1 g.2.2 (xs.take g.1)::cells x1 ((C8 s8 s9 dx dq dp))::cells x2 zS3::cells x3 zS2::V1 X6 4 p1 (pl.take 80)::V1 X6 4 p2 (pl.take 80)::V1 Y6 5 s1 iW::V1 Y6 5 s2 iW::old h0::L1)
  (fun g=>xs.length-g.1) (0,p6,p6) ⟨rfl,C9 _⟩ ?_ ?_
 ·show Sub _ (cells dC (C8 c1 p1 w1 s1 p6)::cells eM (C6 c2 p2 w2 s2 p6)::V1 (A0p) 1 p6 (xs.take 0)::V1 (A0p) 1 p6 (xs.take 0)::cells x1 ((C8 s8 s9 dx dq dp))::cells x2 zS3::cells x3 zS2::V1 X6 4 p1 (pl.take 80)::V1 X6 4 p2 (pl.take 80)::V1 Y6 5 s1 iW::V1 Y6 5 s2 iW::old h0::L1)
  repeat(first|with_reducible exact U3|with_reducible exact U4|refine U5 (by repeat first|with_reducible exact V5|apply V7) ?_|refine U6 ?_)
 rintro⟨i,f1,f2⟩ s ⟨hi,cF⟩ K k1 k2
 simp only at hi cF
 by_cases ah:i<xs.length
 ·refine Y5 (by rw[hi,dy.1];exact decide_eq_true (by omega)) ?_
  have aP:xs[i]? =some xs[i]:=B0 ah
  have aR:xs.take (i+1)=xs.take i++[xs[i]]:=C3 ah
  generalize xs[i]=u at aP aR
  have gg:((xs.take i).length+1)*16≤140737488355328:=by simp only[C0,D6];omega
  have dA:((xs.take i).length+1)*16≤140737488355328:=by simp only[C0,D6];omega
  have hn:∀T1 T2:Slc,At (cells dC (C8 c1 p1 w1 s1 T1)::cells eM (C6 c2 p2 w2 s2 T2)::V1 (A0p) 1 T1 (xs.take i++[u])::V1 (A0p) 1 T2 (xs.take i++[u])::cells x1 ((C8 s8 s9 dx dq dp))::cells x2 zS3::cells x3 zS2::V1 X6 4 p1 (pl.take 80)::V1 X6 4 p2 (pl.take 80)::V1 Y6 5 s1 iW::V1 Y6 5 s2 iW::old h0::L1) (K (.inl (IntKind.wrap .i64 (s.1+1),()))):=fun T1 T2=>by
   have:=k1 (i+1,T1,T2) (IntKind.wrap .i64 (s.1+1),()) (by simp only;omega) ⟨by simp only[hi];rw[W6 (by omega) (by omega)];rfl,ah⟩
   simp only[aR,B8,B5,I3] at this
   exact this
  clear k1 k2 hq
  refine A8n dy ah (fun a ha=>?_) (he:=hi)
  refine C7P (x:=u) (v:=u) dy ha aP ?_
  refine W.load (b:=dC) (v:=f1) ?_
  refine W.load (b:=eM) (v:=f2) ?_
  repeat' (first|with_reducible refine A8o ?_ ?_|refine B0k (s:=f1) (enc:=A0p) (u) (fun T1=>?_) gg|refine B0k (s:=f2) (enc:=A0p) (u) (fun T2=>?_) dA|refine A1t ?_ rfl|refine W.load (b:=eM) (v:=f2) ?_|refine W.load (b:=dC) (v:=f1) ?_|refine Y8 fun _=>?_)
  all_goals
   refine W.store (b:=dC) (cs':=(C8 c1 p1 w1 s1 T1)) ?_
   refine W.store (b:=eM) (cs':=(C6 c2 p2 w2 s2 T2)) ?_
   exact U9 (hn T1 T2).sub
 refine X1 (by rw[hi,dy.1];exact decide_eq_false (by omega)) (U9 (k2 _ _ ?_))
 have ff:i=xs.length:=by omega
 subst ff
 clear k1 k2 jF
 rw[F5]
 dsimp only
 refine u7 (b:=dC) (v:=(vk,vd,vr,vq,vi,vt,vp,vc,c1,p1,cz,cy,cn,cq,cR,cX,cV,cT,w1,cv,cw,vu,ck,cg,s1,f1,())) ?_
 refine u7 (b:=eM) (v:=(vk,vd,vr,vq,vi,vt,vp,cc,c2,p2,cz,cy,cn,cq,cR,cX,cV,cT,w2,cv,cw,vu,ck,cg,s2,f2,())) ?_
 refine A0u (b:=x2) ?_
 refine u7 (b:=eM) (v:=(vk,vd,vr,vq,vi,vt,vp,cc,c2,p2,cz,cy,cn,cq,cR,cX,cV,cT,w2,cv,cw,vu,ck,cg,s2,f2,())) ?_
 refine A1t ?_ rfl
 refine A0u (b:=x3) ?_
 refine u7 (b:=x2) (v:=(vk,vd,vr,vq,vi,vt,vp,vc,c1,p1,cz,cy,cn,cq,cR,cX,cV,cT,w1,cv,cw,vu,ck,cg,s1,f1,())) ?_
 refine u7 (b:=x3) (v:=(vk,vd,vr,vq,vi,vt,vp,cc,c2,p2,cz,cy,cn,cq,cR,cX,cV,cT,w2,cv,cw,vu,ck,cg,s2,f2,())) ?_
 exact U9 (hq c1 c2 p1 p2 w1 w2 s1 s2 f1 f2).sub
end
section
open Go.ChangeShapes Go.WideShapes Go.ChangeAt Go.RowKit Go.Proofs Go.Lib Go.H
structure PkQ where
 pk:Pk
 cl:List Int
 pl:List r8
 wl:List r8
 sl:List A0L
 fl:List B4p
structure PkG(top:Nat)(h:Heap)(x:PkQ):Prop where
 rows:C9T h x.pk x.pl x.wl x.cl x.sl x.fl
 cD:x.pk.2.2.2.2.2.1.size≤top
 aD:(x.pk.2.2.2.2.2.2.2.2.2.2.1).size≤top
 aX:(x.pk.2.2.2.2.2.2.2.2.2.2.2.2.2.2.1).size≤top
 aH:∀s∈x.sl,s.1.size≤top
 eU:∀f∈x.fl,f.size≤top
 code:(Lit.int .u8 x.pk.2.2.2.2.2.2.2.1).wf=true
structure EvQ where
 cK:Int
 conn:Int
 p:PkQ
 full:Bool
 m:MsT
structure EvG(top:Nat)(h:Heap)(x:EvQ):Prop where
 p:PkG top h x.p
 conn:(Lit.int .i64 x.conn).wf=true
 cK:(Lit.int .i64 x.cK).wf=true
 cD:x.m.1.size≤top
abbrev B8I(x:EvQ):D0r:=[.int .i64 x.cK,.int .i64 x.conn]++X4 .u8 x.p.pk++[.bool x.full,.string x.m.1,.string x.m.2.1,.int .i64 x.m.2.2.1,.bool x.m.2.2.2.1,.string x.m.2.2.2.2]
section
variable {H:Type} {ec:TypeId×Value→H} {w:World} {base:Nat} {sp:Nat→Bool} {held:Bool} {ok:TypeId→DataW H→Prop} {top:Nat} {wt:TypeId→Nat}
theorem B8f(hk:Go.R.OkLaw prog ok top wt):Go.R.RdG ec prog w base sp held ok 193 X6 (fun x:r8=>(Lit.int .i64 x.1).wf=true∧(Lit.int .i64 x.2.1).wf=true∧x.2.2.1.size≤top∧x.2.2.2.size≤top):=
 Go.R.rg_map (fun x:r8=>x) (Go.R.rg_struct hk underlying193 (n:=4) (by kernel_rfl) (Go.R.rf_cons (c:=1) (by kernel_rfl) (by rfl) (Go.R.rg_int underlying3)
  (Go.R.rf_cons (c:=1) (by kernel_rfl) (by rfl) (Go.R.rg_int underlying3)
  (Go.R.rf_cons (c:=1) (by kernel_rfl) (by rfl) (Go.R.rg_str hk underlying9)
  (Go.R.rf_one (c:=1) (by kernel_rfl) (by rfl) (by decide) (Go.R.rg_str hk underlying9)))))) (fun _=>rfl) (fun _ h=>h)
theorem C5N(hk:Go.R.OkLaw prog ok top wt):Go.R.RdG ec prog w base sp held ok 119 Y6 (fun x:A0L=>x.1.size≤top∧(Lit.int .i64 x.2.1).wf=true∧True∧True∧(Lit.int .i64 x.2.2.2.2).wf=true):=
 Go.R.rg_map (fun x:A0L=>x) (Go.R.rg_struct hk underlying119 (n:=5) (by kernel_rfl) (Go.R.rf_cons (c:=1) (by kernel_rfl) (by rfl) (Go.R.rg_str hk underlying9)
  (Go.R.rf_cons (c:=1) (by kernel_rfl) (by rfl) (Go.R.rg_int underlying3)
  (Go.R.rf_cons (c:=1) (by kernel_rfl) (by rfl) (Go.R.rg_bool underlying4)
  (Go.R.rf_cons (c:=1) (by kernel_rfl) (by rfl) (Go.R.rg_bool underlying4)
  (Go.R.rf_one (c:=1) (by kernel_rfl) (by rfl) (by decide) (Go.R.rg_int underlying3))))))) (fun _=>rfl) (fun _ h=>h)
theorem C5O(hk:Go.R.OkLaw prog ok top wt):Go.R.RdG ec prog w base sp held ok 29 Z5 (fun x:MsT=>x.1.size≤top∧x.2.1.size≤top∧(Lit.int .i64 x.2.2.1).wf=true∧True∧x.2.2.2.2.size≤top):=
 Go.R.rg_map (fun x:MsT=>x) (Go.R.rg_struct hk underlying29 (n:=5) (by kernel_rfl) (Go.R.rf_cons (c:=1) (by kernel_rfl) (by rfl) (Go.R.rg_str hk underlying9)
  (Go.R.rf_cons (c:=1) (by kernel_rfl) (by rfl) (Go.R.rg_str hk underlying9)
  (Go.R.rf_cons (c:=1) (by kernel_rfl) (by rfl) (Go.R.rg_int underlying3)
  (Go.R.rf_cons (c:=1) (by kernel_rfl) (by rfl) (Go.R.rg_bool underlying4)
  (Go.R.rf_one (c:=1) (by kernel_rfl) (by rfl) (by decide) (Go.R.rg_str hk underlying9))))))) (fun _=>rfl) (fun _ h=>h)
abbrev C6T:=B4p×B4p×Int×Bool×(Slc×List r8)
theorem C4p(hk:Go.R.OkLaw prog ok top wt):Go.R.RdG ec prog w base sp held ok 57 (fun x:C6T=>[.string x.1,.string x.2.1,.int .i64 x.2.2.1,.bool x.2.2.2.1,.slice x.2.2.2.2.1.a x.2.2.2.2.1.len x.2.2.2.2.1.cap]) (fun x=>x.1.size≤top∧e8 X6 4 w.heap x.2.2.2.2.1 x.2.2.2.2.2):=
 Go.R.rg_map (fun x:C6T=>x) (Go.R.rg_struct hk underlying57 (n:=5) (by kernel_rfl) (Go.R.rf_cons (c:=1) (by kernel_rfl) (by rfl) (Go.R.rg_str hk underlying9)
  (Go.R.rf_cons (c:=1) (by kernel_rfl) (by rfl) (Go.R.rg_str hk underlying9)
  (Go.R.rf_cons (c:=1) (by kernel_rfl) (by rfl) (Go.R.rg_int underlying3)
  (Go.R.rf_cons (c:=1) (by kernel_rfl) (by rfl) (Go.R.rg_bool underlying4)
  (Go.R.rf_one (c:=1) (by kernel_rfl) (by rfl) (by decide) (Go.R.rg_slice hk underlying55 (by kernel_rfl) rfl (B8f hk)))))))) (fun _=>rfl) (fun _ h=>⟨h.1,h.2.2.2.2.row⟩)
abbrev C9S:=Int×Bool×Bool×Int×Int×B4p×B4p×Int×(Slc×List Int)×(Slc×List r8)×B4p×Bool×Int×Bool×C6T×Bool×Bool×B4p×B4p×Bool×(Slc×List A0L)×(Slc×List B4p)
def C9o:C9S→PkQ|(vk,vd,vr,vq,vi,vt,vp,vc,(s8,cl),(s9,pl),cz,cy,cn,cq,(cR,cX,cV,cT,dx,wl),cv,cw,vu,ck,cg,(dq,sl),(dp,fl))=>⟨(vk,vd,vr,vq,vi,vt,vp,vc,s8,s9,cz,cy,cn,cq,cR,cX,cV,cT,dx,cv,cw,vu,ck,cg,dq,dp,()),cl,pl,wl,sl,fl⟩
theorem C0w(hk:Go.R.OkLaw prog ok top wt):Go.R.RdG ec prog w base sp held ok 60 (fun x:PkQ=>X4 .u8 x.pk) (PkG top w.heap):=
 Go.R.rg_map C9o (Go.R.rg_struct hk underlying60 (n:=26) (by kernel_rfl) (Go.R.rf_cons (c:=1) (by kernel_rfl) (by rfl) (Go.R.rg_int underlying3)
  (Go.R.rf_cons (c:=1) (by kernel_rfl) (by rfl) (Go.R.rg_bool underlying4)
  (Go.R.rf_cons (c:=1) (by kernel_rfl) (by rfl) (Go.R.rg_bool underlying4)
  (Go.R.rf_cons (c:=1) (by kernel_rfl) (by rfl) (Go.R.rg_int underlying3)
  (Go.R.rf_cons (c:=1) (by kernel_rfl) (by rfl) (Go.R.rg_int underlying3)
  (Go.R.rf_cons (c:=1) (by kernel_rfl) (by rfl) (Go.R.rg_str hk underlying9)
  (Go.R.rf_cons (c:=1) (by kernel_rfl) (by rfl) (Go.R.rg_str hk underlying9)
  (Go.R.rf_cons (c:=1) (by kernel_rfl) (by rfl) (Go.R.rg_int underlying5)
  (Go.R.rf_cons (c:=1) (by kernel_rfl) (by rfl) (Go.R.rg_slice hk underlying54 (by kernel_rfl) rfl (Go.R.rg_int underlying5))
  (Go.R.rf_cons (c:=1) (by kernel_rfl) (by rfl) (Go.R.rg_slice hk underlying55 (by kernel_rfl) rfl (B8f hk))
  (Go.R.rf_cons (c:=1) (by kernel_rfl) (by rfl) (Go.R.rg_str hk underlying9)
  (Go.R.rf_cons (c:=1) (by kernel_rfl) (by rfl) (Go.R.rg_bool underlying4)
  (Go.R.rf_cons (c:=1) (by kernel_rfl) (by rfl) (Go.R.rg_int underlying3)
  (Go.R.rf_cons (c:=1) (by kernel_rfl) (by rfl) (Go.R.rg_bool underlying4)
  (Go.R.rf_cons (c:=5) (by kernel_rfl) (by rfl) (C4p hk)
  (Go.R.rf_cons (c:=1) (by kernel_rfl) (by rfl) (Go.R.rg_bool underlying4)
  (Go.R.rf_cons (c:=1) (by kernel_rfl) (by rfl) (Go.R.rg_bool underlying4)
  (Go.R.rf_cons (c:=1) (by kernel_rfl) (by rfl) (Go.R.rg_str hk underlying9)
  (Go.R.rf_cons (c:=1) (by kernel_rfl) (by rfl) (Go.R.rg_str hk underlying9)
  (Go.R.rf_cons (c:=1) (by kernel_rfl) (by rfl) (Go.R.rg_bool underlying4)
  (Go.R.rf_cons (c:=1) (by kernel_rfl) (by rfl) (Go.R.rg_slice hk underlying58 (by kernel_rfl) rfl (C5N hk))
  (Go.R.rf_one (c:=1) (by kernel_rfl) (by rfl) (by decide) (Go.R.rg_slice hk underlying43 (by kernel_rfl) rfl (Go.R.rg_str hk underlying9)))))))))))))))))))))))))
  (fun(vk,vd,vr,vq,vi,vt,vp,vc,(s8,cl),(s9,pl),cz,cy,cn,cq,(cR,cX,cV,cT,dx,wl),cv,cw,vu,ck,cg,(dq,sl),(dp,fl))=>rfl) (fun(vk,vd,vr,vq,vi,vt,vp,vc,(s8,cl),(s9,pl),cz,cy,cn,cq,(cR,cX,cV,cT,dx,wl),cv,cw,vu,ck,cg,(dq,sl),(dp,fl)) ⟨_,_,_,_,_,g5,_,g7,g8,g9,g10,_,_,_,g14,_,_,_,_,_,g20,g21⟩=>⟨⟨g9.row,g14.2,g8.row,g20.row,g21.row⟩,g5,g10,g14.1,fun s hs=>(g20.bR s hs).1,fun f hf=>g21.bR f hf,g7⟩)
def C9p:Int×Int×PkQ×Bool×MsT→EvQ|(a,b,c,d,e)=>⟨a,b,c,d,e⟩
theorem C2a(hk:Go.R.OkLaw prog ok top wt):Go.R.RdG ec prog w base sp held ok 62 B8I (EvG top w.heap):=
 Go.R.rg_map C9p (Go.R.rg_struct hk underlying62 (n:=34) (by kernel_rfl) (Go.R.rf_cons (c:=1) (by kernel_rfl) (by rfl) (Go.R.rg_int underlying3)
  (Go.R.rf_cons (c:=1) (by kernel_rfl) (by rfl) (Go.R.rg_int underlying3)
  (Go.R.rf_cons (c:=26) (by kernel_rfl) (by rfl) (C0w hk)
  (Go.R.rf_cons (c:=1) (by kernel_rfl) (by rfl) (Go.R.rg_bool underlying4)
  (Go.R.rf_one (c:=5) (by kernel_rfl) (by rfl) (by decide) (C5O hk)))))))
  (fun(a,b,c,d,e)=>rfl) (fun(a,b,c,d,e) ⟨g0,g1,g2,_,g4⟩=>⟨g2,g1,g0,g4.1⟩)
theorem C0x(hk:Go.R.OkLaw prog ok top wt):Go.R.RdG ec prog w base sp held ok 53 (fun x:Slc×List EvQ=>[.slice x.1.a x.1.len x.1.cap]) (Go.R.GoodG B8I 34 (wt 62) top w.heap (EvG top w.heap)):=
 Go.R.rg_slice hk underlying53 (by kernel_rfl) rfl (C2a hk)
end
end
section
open Go.H Go.Proofs
variable {h h0:Heap} {L L' L1 L2 L3 L4 L5 R:List Asn} {Q:Value→Heap→Prop}
theorem C84{α γ:Type}{enc:γ→D0r}{size n:Nat}{m:HM α}{Q':α→Heap→Prop}{x:Nat}{cs:D0q}(us:List γ)(hw:W (V1 enc size ⟨some ⟨x,0,none⟩,n,n⟩ us::L') m Q')(hx:Has L (cells x cs) L':=by repeat first|with_reducible exact V5|apply V7)(hc:cs=(us.flatMap enc).toArray:=by rfl)(hn:us.length=n:=by rfl)[Enc enc size]:W L m Q':=fun h hs=>by
 subst hc hn
 have hl:=y5 (Enc.len (enc:=enc)) us
 refine hw h (A1N (b:=x) (o:=0) (cs:=(us.flatMap enc).toArray) ⟨by simp,D9 _,rfl,by simp[hl],by
  simp only[R9,T4]
  exact D1 (U1 hl)⟩ (hx.s hs))
theorem C7u{α β:Type}{f:α→β}{T:List α}{x y:β}(h:T.map f=[x,y]):∃a b,T=[a,b]∧f a=x∧f b=y:=by
 rcases T with _|⟨a,_|⟨b,_|⟨c,T⟩⟩⟩<;>simp at h
 exact⟨a,b,rfl,h⟩
theorem z0:0≤999999:=by decide
theorem z2:2≤999999:=by decide
theorem nd0:(([]:List Z7).map (·.c)).Nodup:=by simp
theorem kl0:([]:List l7).length≤64:=by decide
theorem ci1: -9223372036854775808≤(1:Int)∧(1:Int)≤9223372036854775807:=by decide
theorem ci2: -9223372036854775808≤(2:Int)∧(2:Int)≤9223372036854775807:=by decide
theorem sz1:tC1.size≤9223372036854775807:=by decide
theorem sl2:slW.length≤100:=by decide
theorem ss2:∀s∈slW,s.1.size≤9223372036854775807:=by decide
theorem sl0:([]:List A0L).length≤100:=by decide
theorem ss0:∀s∈([]:List A0L),s.1.size≤9223372036854775807:=by simp
theorem nd2:(B2w.aB.map (·.c)).Nodup:=by decide
theorem kl2:B2w.kept.length≤64:=by decide
theorem wr2:(slW=[]∧B2w=B1w)∨(slW≠[]∧j9 false 1 (C7h 1 slW) B1w=⟨B2w,(⟨1,A03 9 1 [1,0],false⟩:u5)::[],[]⟩∧(⟨1,A03 9 1 [1,0],false⟩:u5).pk.kind=9∧(⟨1,A03 9 1 [1,0],false⟩:u5).pk.cB.length=slW.length):=.inr ⟨by simp,w2,rfl,rfl⟩
theorem pkW:C3d (C7r mW 9) [] [] []:=C7q (by decide)
theorem C7c(ht:TP h0)(hq:At (old h0::L1) (Q (.bool true)))(hx:Has L (old h0) L1:=by repeat first|with_reducible exact V5|apply V7):FW prog 10 #[] L Q:=by
 refine fun h hs=>B2l h Q ((?_:W (old h0::L1) _ _) h (hx.s hs))
 clear hs h hx
 delta B4k az bn cb cp ie ix jc ki nw pu sn ve vi vs vz
 refine j2 (C6N (fun b=>At.un (x:=some ⟨b,0,none⟩) ?_))
 refine B94 (fun r=>r.1=false) (fun _=>A0r b B3w::old h0::L1) (fun K hK=>?_) (fun r hr=>?_)
 ·refine Y8 fun x2=>?_
  refine C84 (enc:=Y6) (x:=x2) (n:=2) slW ?_
  refine j2 (C6g (b:=b) (n:=0) (B:=⟨0,[],[],[],[]⟩) (B1:=B1w) (B2:=B2w) (c:=1) (aD:=tC1) (sl:=slW) (S:=⟨some ⟨x2,0,none⟩,2,2⟩) (o1:=⟨1,A2b false,false⟩) (r1:=[]) (o2:=⟨1,A03 9 1 [1,0],false⟩) (r2:=[]) (ps:=[]) ht C2p z0 nd0 kl0 ci1 sz1 sl2 ss2 w1 rfl rfl wr2 (At.un (x:=true) ?_))
  refine X1 rfl ?_
  refine A4u Y6 5 ?_
  refine j2 (C6g (b:=b) (n:=2) (B:=B2w) (B1:=B3w) (B2:=B3w) (c:=2) (aD:=tD1) (sl:=[]) (S:=p6) (o1:=⟨2,A2b false,false⟩) (r1:=[]) (o2:=⟨2,A2b false,false⟩) (r2:=[]) (ps:=[]) ht C5X z2 nd2 kl2 ci2 sz1 sl0 ss0 w3 rfl rfl (.inl ⟨rfl,rfl⟩) (At.un (x:=true) ?_))
  exact U9 (hK (false,()) rfl).sub
 refine X1 hr ?_
 obtain⟨B,p,i,wX,xk⟩:=w4
 refine A4u Y6 5 ?_
 refine A4u A0p 1 ?_
 refine A4u X6 4 ?_
 refine j2 (A9X (b:=b) (B:=B3w) (c:=2) (p:=C7r mW 9) (pl:=[]) (sl:=[]) (fl:=[]) (full:=false) ht C9r (by decide) pkW ci2 (fun so sp=>At.un (x:=(so,sp,())) ?_))
 rw[show j9 false 2 (pkI (C7r mW 9) [] [] []) B3w=_ from wX]
 dsimp only
 refine Y8 fun x7=>?_
 refine A0u ?_
 refine Y7 (X7 (enc:=Z5) (size:=5) (s:=sp) (xs:=[mW])) fun fz=>?_
 refine C1I (fun h R hs=>(A3m (k:=.u8) (s:=so)).1 hs) fun T hT=>?_
 obtain⟨u,v,rfl,hu,hv⟩:=C7u hT
 clear hT
 refine Y7 (X7 (enc:=A1p .u8) (size:=28) (s:=so) (xs:=List.map ouF [u,v])) fun gl=>?_
 refine A1j (fun r=>r.1=true) (fun K hK=>?_) (fun r cL=>?_)
 ·refine W.load (v:=so) ?_
  refine Y5 (by rw[gl];rfl) ?_
  refine W.load (v:=so) ?_
  refine b9 (enc:=A1p .u8) (xs:=List.map ouF [u,v]) (i:=0) (by simp) (fun a ha=>?_)
  refine A3d (k:=0) (x:=ouF u) (v:=u.2.2.conn) ha rfl ?_
  refine Y5 (by rw[hu];rfl) ?_
  refine W.load (v:=so) ?_
  refine b9 (enc:=A1p .u8) (xs:=List.map ouF [u,v]) (i:=0) (by simp) (fun a ha=>?_)
  refine C5c (x:=ouF u) (v:=u.2.2.pk.kind) ha rfl ?_
  refine Y5 (by rw[hu];rfl) ?_
  refine W.load (v:=so) ?_
  refine b9 (enc:=A1p .u8) (xs:=List.map ouF [u,v]) (i:=1) (by simp) (fun a ha=>?_)
  refine A3d (k:=0) (x:=ouF v) (v:=v.2.2.conn) ha rfl ?_
  refine Y5 (by rw[hv];rfl) ?_
  refine W.load (v:=so) ?_
  refine b9 (enc:=A1p .u8) (xs:=List.map ouF [u,v]) (i:=1) (by simp) (fun a ha=>?_)
  refine C5c (x:=ouF v) (v:=v.2.2.pk.eT) ha rfl ?_
  refine Y5 (by rw[hv];show(p.2.2.1==1)=true;rw[xk];rfl) ?_
  refine j0 (b:=x7) (i:=1) (v:=sp) ?_
  refine U9 (hK _ ?_)
  rw[fz];rfl
 refine U9 ?_
 show At _ (Q (.bool r.1))
 rw[cL]
 exact hq.sub
end
section
open Go.H Go.Proofs
variable {h h0:Heap} {L L' R:List Asn} {Q:Value→Heap→Prop}
def B7j(k:IntKind)(h0:Heap)(s:Slc)(os:List PkO):Prop:=∃T:List (Slc×Slc×PkO),T.map (·.2.2)=os∧e8 (X4 k) 26 h0 s (T.map pkF)∧
 ∀t∈T,e8 (eKd k) 1 h0 t.1 t.2.2.cB∧e8 X6 4 h0 t.2.1 t.2.2.props
theorem B7j.len{k:IntKind}{s:Slc}{os:List PkO}(hp:B7j k h0 s os):s.len=os.length:=by
 obtain⟨T,rfl,h1,-⟩:=hp
 rw[h1.1];simp
structure A6p(o:PkO):Prop where
 code:0≤o.code∧o.code<256
 cB:∀c∈o.cB,0≤c∧c<256
 len1:o.cB.length≤1000000
 len2:o.props.length≤1000000
end
section
open Go.H Go.Proofs
variable {h h0:Heap} {L L' L1 R:List Asn} {Q:Value→Heap→Prop}
theorem B5s{s1 s2:Slc}{ms:List MsT}(h1:e8 Z5 5 h0 s1 ms)(h2:e8 Z5 5 h0 s2 ms)(hl:ms.length≤100000000)(hq:At [old h0] (Q (.bool true))):
  FW prog 51 #[.slice s1.a s1.len s1.cap,.slice s2.a s2.len s2.cap] [old h0] Q:=by
 refine fun h hs=>A6y s1 s2 h Q ((?_:W [old h0] _ _) h hs)
 clear hs h
 delta A5v bn g7 ie ix pu wi
 refine X1 (by rw[h1.1,h2.1];simp) ?_
 refine A9x ms.length (fun i x=>x.1=(i:Int)) (fun i x=>[old h0]) rfl Sub.rfl (fun i x hi hI=>by rw[hI,h1.1];exact F8.2 (by omega)) ?_ ?_
 ·rintro⟨_,⟨⟩⟩ hI K hd
  exact U9 (hd _ _ (W.inl (U9 hq)))
 ·rintro i ⟨_,⟨⟩⟩ ah hI K bh hd
  simp only at hI
  subst hI
  have hy:=B0 ah
  refine A8n h1 ah fun a ha=>B45 h1 ha hy (A8n h2 ah fun a2 bQ=>B45 h2 bQ hy ?_)
  refine X1 (by simp only[beq_self_eq_true,N7,decide_true,Bool.and_true,Bool.and_self]) (U9 (bh _ ?_))
  simp only;rw[W6 (by omega) (by omega)];rfl
theorem B5r{s1 s2:Slc}{os:List PkO}(h1:B7j .u8 h0 s1 os)(h2:B7j .i64 h0 s2 os)(hl:os.length≤1000000)(hf:∀o∈os,A6p o)(hq:At [old h0] (Q (.bool true))):
  FW prog 94 #[.slice s1.a s1.len s1.cap,.slice s2.a s2.len s2.cap] [old h0] Q:=by
 refine fun h hs=>A7e s1 s2 h Q ((?_:W [old h0] _ _) h hs)
 clear hs h
 have l1:=h1.len
 have l2:=h2.len
 obtain⟨T,hT,r1,sM⟩:=h1
 obtain⟨U,hU,r2,sL⟩:=h2
 have an:∀t∈T,A6p t.2.2:=fun t ht=>hf _ (by have:=B4 (f:=fun t:Slc×Slc×PkO=>t.2.2) ht;rw[hT] at this;exact this)
 have lT:T.length=os.length:=by rw[←hT];simp
 have lU:U.length=os.length:=by rw[←hU];simp
 delta A6b bn g2 A1h g8 ie ix jb jc ji jt ju li lu nw pu rq sn wi
 refine X1 (by rw[l1,l2];simp) ?_
 refine A9x os.length (fun i x=>x.1=(i:Int)) (fun i x=>[old h0]) rfl Sub.rfl (fun i x hi hI=>by rw[hI,l1];exact F8.2 (by omega)) ?_ ?_
 ·rintro⟨_,⟨⟩⟩ hI K hd
  exact U9 (hd _ _ (W.inl (U9 hq)))
 ·rintro i ⟨_,⟨⟩⟩ ah hI K bh hd
  simp only at hI
  subst hI
  have lb:T[i]? =some T[i]:=B0 (by omega)
  have nI:U[i]? =some U[i]:=B0 (by omega)
  have k1:=sM _ (E9 lb)
  have k2:=sL _ (E9 nI)
  have e1:T[i].2.2=U[i].2.2:=by
   have g1:=congrArg (fun l=>l[i]?) hT
   have g2:=congrArg (fun l=>l[i]?) hU
   simp only[I9,lb,nI,S0] at g1 g2
   rw[←g2] at g1
   exact R8 g1
  have dj:A6p T[i].2.2:=an _ (E9 lb)
  have gO:(T.map pkF)[i]? =some (pkF T[i]):=by rw[I9,lb];rfl
  have gj:(U.map pkF)[i]? =some (pkF U[i]):=by rw[I9,nI];rfl
  generalize T[i]=t at gO k1 e1 dj
  generalize U[i]=u at gj k2 e1
  obtain⟨c1,p1,o⟩:=t
  obtain⟨c2,p2,o2⟩:=u
  simp only at e1 k1 k2 dj
  subst e1
  obtain⟨nH,nF⟩:=k1
  obtain⟨nG,nE⟩:=k2
  have uJ:=nH.1
  have wS:=nG.1
  have uI:=nF.1
  have wQ:=nE.1
  have f1:=dj.len1
  have f2:=dj.len2
  refine A8n r1 (by rw[C0];omega) fun a ha=>B45 (v:=pkT o c1 p1) r1 ha gO (A8n r2 (by rw[C0];omega) fun a2 bQ=>B45 (v:=pkT o c2 p2) r2 bQ gj ?_)
  refine A8o ?_ ?_
  all_goals
   iterate 2
    refine Y8 fun _=>?_
    refine B45 (v:=pkT o c2 p2) r2 bQ gj (A1t ?_ rfl)
    refine B45 (v:=pkT o c1 p1) r1 ha gO (A1t ?_ rfl)
   refine A0u ?_
   refine B45 (v:=pkT o c2 p2) r2 bQ gj (A1t ?_ rfl)
   refine A0u ?_
   repeat(first|refine j1 ?_|refine X9 ?_|refine Y8 fun _=>?_|refine W.load ?_|refine B44 ?_|refine j0 ?_|(refine u7 ?_;try dsimp only)|(refine A8p ?_;try dsimp only)|refine A0u ?_|refine W.store ?_|refine W.store0 ?_|refine A4v ?_|refine A1t ?_ rfl|refine A1s rfl ?_|refine o8 rfl ?_|refine Y5 rfl ?_|refine X1 rfl ?_|refine W.inl ?_|refine W.inr ?_|refine W9 ?_|refine o8 (Go.H.nbq _) ?_|refine X1 (Go.H.nbq _) ?_|refine o8 (Go.H.nbd rfl) ?_|refine X1 (Go.H.nbd rfl) ?_)
   refine o8 (by show(!(IntKind.wrap .i64 o.code==o.code))=false;rw[W6 (by have:=dj.code;omega) (by have:=dj.code;omega)];simp) ?_
   repeat(first|refine j1 ?_|refine X9 ?_|refine Y8 fun _=>?_|refine W.load ?_|refine B44 ?_|refine j0 ?_|(refine u7 ?_;try dsimp only)|(refine A8p ?_;try dsimp only)|refine A0u ?_|refine W.store ?_|refine W.store0 ?_|refine A4v ?_|refine A1t ?_ rfl|refine A1s rfl ?_|refine o8 rfl ?_|refine Y5 rfl ?_|refine X1 rfl ?_|refine W.inl ?_|refine W.inr ?_|refine W9 ?_|refine o8 (Go.H.nbq _) ?_|refine X1 (Go.H.nbq _) ?_|refine o8 (Go.H.nbd rfl) ?_|refine X1 (Go.H.nbd rfl) ?_)
   refine o8 (by show(!(((p1.len:Nat):Int)==((p2.len:Nat):Int)))=false;rw[uI,wQ];simp) ?_
   repeat(first|refine j1 ?_|refine X9 ?_|refine Y8 fun _=>?_|refine W.load ?_|refine B44 ?_|refine j0 ?_|(refine u7 ?_;try dsimp only)|(refine A8p ?_;try dsimp only)|refine A0u ?_|refine W.store ?_|refine W.store0 ?_|refine A4v ?_|refine A1t ?_ rfl|refine A1s rfl ?_|refine o8 rfl ?_|refine Y5 rfl ?_|refine X1 rfl ?_|refine W.inl ?_|refine W.inr ?_|refine W9 ?_|refine o8 (Go.H.nbq _) ?_|refine X1 (Go.H.nbq _) ?_|refine o8 (Go.H.nbd rfl) ?_|refine X1 (Go.H.nbd rfl) ?_)
   refine o8 (by show(!(((c1.len:Nat):Int)==((c2.len:Nat):Int)))=false;rw[uJ,wS];simp) ?_
   repeat(first|refine j1 ?_|refine X9 ?_|refine Y8 fun _=>?_|refine W.load ?_|refine B44 ?_|refine j0 ?_|(refine u7 ?_;try dsimp only)|(refine A8p ?_;try dsimp only)|refine A0u ?_|refine W.store ?_|refine W.store0 ?_|refine A4v ?_|refine A1t ?_ rfl|refine A1s rfl ?_|refine o8 rfl ?_|refine Y5 rfl ?_|refine X1 rfl ?_|refine W.inl ?_|refine W.inr ?_|refine W9 ?_|refine o8 (Go.H.nbq _) ?_|refine X1 (Go.H.nbq _) ?_|refine o8 (Go.H.nbd rfl) ?_|refine X1 (Go.H.nbd rfl) ?_)
   refine A9x o.props.length (fun i x=>x.1=(i:Int)) (fun i x=>_) rfl Sub.rfl (fun i x hi hI=>by rw[hI];simp only[uI];exact F8.2 (by omega)) ?_ ?_
   ·rintro⟨_,⟨⟩⟩ pv K2 iE
    refine U9 (iE _ _ ?_)
    repeat(first|refine j1 ?_|refine X9 ?_|refine Y8 fun _=>?_|refine W.load ?_|refine B44 ?_|refine j0 ?_|(refine u7 ?_;try dsimp only)|(refine A8p ?_;try dsimp only)|refine A0u ?_|refine W.store ?_|refine W.store0 ?_|refine A4v ?_|refine A1t ?_ rfl|refine A1s rfl ?_|refine o8 rfl ?_|refine Y5 rfl ?_|refine X1 rfl ?_|refine W.inl ?_|refine W.inr ?_|refine W9 ?_|refine o8 (Go.H.nbq _) ?_|refine X1 (Go.H.nbq _) ?_|refine o8 (Go.H.nbd rfl) ?_|refine X1 (Go.H.nbd rfl) ?_)
    refine A9x o.cB.length (fun i x=>x.1=(i:Int)) (fun i x=>_) rfl Sub.rfl (fun i x hi hI=>by rw[hI];simp only[uJ];exact F8.2 (by omega)) ?_ ?_
    ·rintro⟨_,⟨⟩⟩ uC K3 qW
     refine U9 (qW _ _ (W.inl (U9 ((bh _ ?_).sub))))
     simp only;rw[W6 (by omega) (by omega)];rfl
    ·rintro j ⟨_,⟨⟩⟩ mh uC K3 nV qW
     simp only at uC
     subst uC
     have jL:=B0 mh
     have pf:=dj.cB _ (H6 mh)
     refine W.load ?_
     refine A8n nH mh fun a ha=>C7P nH ha jL ?_
     refine W.load ?_
     refine A8n nG mh fun a2 bQ=>C7P nG bQ jL ?_
     refine X1 (by rw[W6 (by omega) (by omega)];simp only[beq_self_eq_true,N7,decide_true,Bool.and_true,Bool.and_self]) (U9 (nV _ ?_))
     simp only;rw[W6 (by omega) (by omega)];rfl
   ·rintro j ⟨_,⟨⟩⟩ mh pv K2 jX iE
    simp only at pv
    subst pv
    have jL:=B0 mh
    refine W.load ?_
    refine A8n nF mh fun a ha=>B45 nF ha jL ?_
    refine W.load ?_
    refine A8n nE mh fun a2 bQ=>B45 nE bQ jL ?_
    refine X1 (by simp only[beq_self_eq_true,N7,decide_true,Bool.and_true,Bool.and_self]) (U9 (jX _ ?_))
    simp only;rw[W6 (by omega) (by omega)];rfl
end
section
open Go.H Go.Proofs
variable {h h0:Heap} {L L' L1 R:List Asn} {Q:Value→Heap→Prop}
def B7l(k:IntKind)(h0:Heap)(s:Slc)(os:List u5):Prop:=∃T:List (Slc×Slc×u5),T.map (·.2.2)=os∧e8 (A1p k) 28 h0 s (T.map ouF)∧
 ∀t∈T,e8 (eKd k) 1 h0 t.1 t.2.2.pk.cB∧e8 X6 4 h0 t.2.1 t.2.2.pk.props
theorem C3C{k:IntKind}{s:Slc}{os:List u5}(hs:sat h (W3 k s os::R)):B7l k h s os:=by
 obtain⟨T,hT,aa⟩:=A3m.1 hs
 refine⟨T,hT,aa.aN (Enc.len (enc:=A1p k)),fun t ht=>?_⟩
 obtain⟨R',ae⟩:=A9v ht aa.p1
 have ai:=A4Q.1 ae
 exact⟨ai.aN (C3U k),ai.p1.aN C3S⟩
theorem B7l.len{k:IntKind}{s:Slc}{os:List u5}(hp:B7l k h0 s os):s.len=os.length:=by
 obtain⟨T,rfl,h1,-⟩:=hp
 rw[h1.1];simp
theorem B2b{k:IntKind}{x:Nat}{o:PkO}{c p:Slc}(hs:sat h (V1 (X4 k) 26 ⟨some ⟨x,0,none⟩,1,1⟩ [pkT o c p]::R))(hc:e8 (eKd k) 1 h c o.cB)(hp:e8 X6 4 h p o.props):B7j k h ⟨some ⟨x,0,none⟩,1,1⟩ [o]:=
 ⟨[(c,p,o)],rfl,hs.aN (B6D k),fun t ht=>by rw[B9.1 ht];exact⟨hc,hp⟩⟩
theorem C5d{β γ:Type}{enc:γ→D0r}{size:Nat}{s:Slc}{xs:List γ}{Q':β→Heap→Prop}{ts:List Tag}{i k:Nat}{a:Addr}{x:γ}{v:Tup ts}{f:Tup ts→HM β}(hr:e8 enc size h0 s xs)(ha:El s size i a)(hi:xs[i]? =some x)(hw:W L (f v) Q')(hx:Has L (old h0) L':=by repeat first|with_reducible exact V5|apply V7)(hv:Tup.get ts (((enc x).drop k).take ts.length)=some v:=by rfl):W L (HM.bind (o9 ts (Addr.add a k)) f) Q':=fun h hs=>by
 have:=ha.row hr hi
 refine⟨v,fun j u hu=>?_,hw h hs⟩
 rw[←Tup.bH ts _ v hv,J4] at hu
 split at hu
 ·rw[J5] at hu
  rw[A7s]
  exact(hx.s hs).bY (this _ u hu)
 ·cases hu
theorem C4k{s1 s2:Slc}{os:List u5}(h1:B7l .u8 h0 s1 os)(h2:B7l .i64 h0 s2 os)(hl:os.length≤100000000)(hf:∀o∈os,A6p o.pk)(hq:At [old h0] (Q (.bool true))):
  FW prog 50 #[.slice s1.a s1.len s1.cap,.slice s2.a s2.len s2.cap] [old h0] Q:=by
 refine fun h hs=>B0a s1 s2 h Q ((?_:W [old h0] _ _) h hs)
 clear hs h
 have l1:=h1.len
 have l2:=h2.len
 obtain⟨T,hT,r1,sM⟩:=h1
 obtain⟨U,hU,r2,sL⟩:=h2
 have an:∀t∈T,A6p t.2.2.pk:=fun t ht=>hf _ (by have:=B4 (f:=fun t:Slc×Slc×u5=>t.2.2) ht;rw[hT] at this;exact this)
 have lT:T.length=os.length:=by rw[←hT];simp
 have lU:U.length=os.length:=by rw[←hU];simp
 delta B0w az bn cb g2 A1h ie ix kb ki nw pu rq wi
 refine X1 (by rw[l1,l2];simp) ?_
 refine A9x os.length (fun i x=>x.1=(i:Int)) (fun i x=>[old h0]) rfl Sub.rfl (fun i x hi hI=>by rw[hI,l1];exact F8.2 (by omega)) ?_ ?_
 ·rintro⟨_,⟨⟩⟩ hI K hd
  exact U9 (hd _ _ (W.inl (U9 hq)))
 ·rintro i ⟨_,⟨⟩⟩ ah hI K bh hd
  simp only at hI
  subst hI
  have lb:T[i]? =some T[i]:=B0 (by omega)
  have nI:U[i]? =some U[i]:=B0 (by omega)
  have k1:=sM _ (E9 lb)
  have k2:=sL _ (E9 nI)
  have e1:T[i].2.2=U[i].2.2:=by
   have g1:=congrArg (fun l=>l[i]?) hT
   have g2:=congrArg (fun l=>l[i]?) hU
   simp only[I9,lb,nI,S0] at g1 g2
   rw[←g2] at g1
   exact R8 g1
  have dj:A6p T[i].2.2.pk:=an _ (E9 lb)
  have gO:(T.map ouF)[i]? =some (ouF T[i]):=by rw[I9,lb];rfl
  have gj:(U.map ouF)[i]? =some (ouF U[i]):=by rw[I9,nI];rfl
  have jz:i<(T.map ouF).length:=by rw[C0];omega
  have jy:i<(U.map ouF).length:=by rw[C0];omega
  generalize T[i]=t at gO k1 e1 dj
  generalize U[i]=u at gj k2 e1
  obtain⟨c1,p1,o⟩:=t
  obtain⟨c2,p2,o2⟩:=u
  simp only at e1 k1 k2 dj
  subst e1
  obtain⟨nH,nF⟩:=k1
  obtain⟨nG,nE⟩:=k2
  obtain⟨oc,op,ox⟩:=o
  simp only at nH nF nG nE dj
  refine A1j (fun a=>a.1=false) (fun K2 aQ=>?_) (fun a ha=>?_)
  case refine_2=>
   refine X1 ha (U9 (bh _ ?_))
   simp only;rw[W6 (by omega) (by omega)];rfl
  refine A8n r1 jz fun a ha=>?_
  refine C6X (k:=0) (v:=oc) r1 ha gO ?_
  refine A8n r2 jy fun a2 bQ=>?_
  refine C6X (k:=0) (v:=oc) r2 bQ gj ?_
  refine X1 (by simp) ?_
  refine A8n r1 jz fun a3 hP=>?_
  refine C6X (k:=27) (v:=ox) r1 hP gO ?_
  refine A8n r2 jy fun a4 ph=>?_
  refine C6X (k:=27) (v:=ox) r2 ph gj ?_
  refine X1 (by simp) ?_
  refine A8n r1 jz fun a5 ry=>?_
  refine C5d (k:=1) (v:=pkT op c1 p1) r1 ry gO ?_
  refine A8n r2 jy fun a6 rv=>?_
  refine C5d (k:=1) (v:=pkT op c2 p2) r2 rv gj ?_
  refine A8o ?_ ?_
  ·refine Y8 fun y1=>?_
   refine C5d (k:=1) (v:=pkT op c2 p2) r2 rv gj (A1t ?_ rfl)
   refine Y8 fun y2=>?_
   refine C5d (k:=1) (v:=pkT op c1 p1) r1 ry gO (A1t ?_ rfl)
   refine C6W (enc:=X4 .u8) (x:=y1) (pkT op c1 p1) ?_
   refine C6W (enc:=X4 .i64) (x:=y2) (pkT op c2 p2) ?_
   refine W.sub (L':=V1 (X4 .u8) 26 ⟨some ⟨y1,0,none⟩,1,1⟩ [pkT op c1 p1]::V1 (X4 .i64) 26 ⟨some ⟨y2,0,none⟩,1,1⟩ [pkT op c2 p2]::[old h0]) ?_
   refine j2 (C1M (v:=.bool true) (fun h1 aa Q1 iJ=>?_) (At.un (x:=true) ?_))
   ·have ho:=aa.re [2,0,1]
    exact B5r (s1:=⟨some ⟨y1,0,none⟩,1,1⟩) (s2:=⟨some ⟨y2,0,none⟩,1,1⟩) (os:=[op]) (B2b aa (nH.old ho) (nF.old ho)) (B2b (aa.re [1,0,2]) (nG.old ho) (nE.old ho)) (C4 (D9 1) (by decide)) (fun o ho=>by rw[B9.1 ho];exact dj) iJ
   exact U9 (aQ (false,()) rfl).sub
  ·refine Y8 fun y2=>?_
   refine C5d (k:=1) (v:=pkT op c1 p1) r1 ry gO (A1t ?_ rfl)
   refine Y8 fun y1=>?_
   refine C5d (k:=1) (v:=pkT op c2 p2) r2 rv gj (A1t ?_ rfl)
   refine C6W (enc:=X4 .u8) (x:=y1) (pkT op c1 p1) ?_
   refine C6W (enc:=X4 .i64) (x:=y2) (pkT op c2 p2) ?_
   refine W.sub (L':=V1 (X4 .u8) 26 ⟨some ⟨y1,0,none⟩,1,1⟩ [pkT op c1 p1]::V1 (X4 .i64) 26 ⟨some ⟨y2,0,none⟩,1,1⟩ [pkT op c2 p2]::[old h0]) ?_
   refine j2 (C1M (v:=.bool true) (fun h1 aa Q1 iJ=>?_) (At.un (x:=true) ?_))
   ·have ho:=aa.re [2,0,1]
    exact B5r (s1:=⟨some ⟨y1,0,none⟩,1,1⟩) (s2:=⟨some ⟨y2,0,none⟩,1,1⟩) (os:=[op]) (B2b aa (nH.old ho) (nF.old ho)) (B2b (aa.re [1,0,2]) (nG.old ho) (nE.old ho)) (C4 (D9 1) (by decide)) (fun o ho=>by rw[B9.1 ho];exact dj) iJ
   exact U9 (aQ (false,()) rfl).sub
end
section
open Go.H Go.Proofs
theorem A3M(l:List Int):(Z0 l).Perm l:=R1 l _
theorem A2m(l:List Int):(Z0 l).Pairwise (·≤ ·):=by
 have:=List.pairwise_mergeSort (le:=fun x y:Int=>decide (x≤y)) (fun a b c h1 h2=>by simp only[decide_eq_true_eq] at*;omega) (fun a b=>by simp only[Bool.or_eq_true,decide_eq_true_eq];omega) l
 exact this.imp fun h=>by simpa using h
theorem B7V{l l':List Int}(hp:l.Perm l')(h:l.Pairwise (·≤ ·))(h':l'.Pairwise (·≤ ·)):l=l':=
 List.Perm.eq_of_pairwise (le:=fun a b=>a≤b) (fun a b _ _ h1 h2=>Int.le_antisymm h1 h2) h h' hp
theorem B7X{l:List Int}{k:Int}:k∈Z0 l↔k∈l:=(A3M l).mem_iff
theorem A2n(l:List Int):(Z0 l).length=l.length:=(A3M l).length_eq
theorem B1c{l a b:List Int}{k:Int}(hl:Z0 l=a++b)(ha:∀x∈a,x≤k)(hb:∀x∈b,k≤x):a++k::b=Z0 (l++[k]):=by
 have hs:=A2m l
 rw[hl,I6] at hs
 refine B7V ?_ ?_ (A2m _)
 ·refine List.Perm.trans ?_ (A3M _).symm
  refine P9.trans ?_
  rw[←hl]
  exact((A3M l).cons k).trans (List.perm_append_singleton k l).symm
 ·rw[I6]
  refine⟨hs.1,?_,fun x hx y hy=>?_⟩
  ·rw[H4];exact⟨hb,hs.2.1⟩
  ·rcases D3.1 hy with rfl|hy
   ·exact ha x hx
   ·exact hs.2.2 x hx y hy
theorem C20{l:List Int}(hn:l.Nodup)(k:Int):(Z0 l).filter (fun x=> !(x==k))=Z0 (l.erase k):=by
 refine B7V ?_ ((A2m l).filter _) (A2m _)
 refine((A3M l).filter _).trans (List.Perm.trans ?_ (A3M _).symm)
 rw[hn.erase_eq_filter]
 refine List.Perm.of_eq (L9 fun x _=>?_)
 rfl
theorem C19(used:List Int)(t:Int)(h0:0≤t)(h1:t≤65535)(hd:used.Nodup)(h2:used.length<65535):∃n u,n≤used.length∧Reach used n t u:=by
 have key:∀(j:Nat),∀t,0≤t→t≤65535→(∃n u,n<j∧Reach used n t u)∨∀i,i<j→((t+i) % 65535+1)∈used:=by
  intro j
  induction j with
  |zero=>intro t _ _;exact .inr (fun i hi=>by omega)
  |succ j ih=>
   intro t oO pY
   by_cases hm:nxt t∈used
   ·have hr:=A3R oO
    rcases ih (nxt t) (by omega) (by omega) with⟨n,u,hn,hu⟩|df
    ·exact .inl ⟨n+1,u,by omega,.on hm hu⟩
    ·refine .inr fun i hi=>?_
     cases i with
     |zero=>simpa[nxt] using hm
     |succ i=>
      have:=df i (by omega)
      have e:((nxt t+(i:Int)) % 65535+1)=((t+((i+1:Nat):Int)) % 65535+1):=by unfold nxt;omega
      rw[e] at this
      exact this
   ·exact .inl ⟨0,nxt t,by omega,.here hm⟩
 rcases key (used.length+1) t h0 h1 with⟨n,u,hn,hu⟩|df
 ·exact⟨n,u,by omega,hu⟩
 ·exfalso
  have bl:∀x∈((List.range (used.length+1)).map fun(i:Nat)=>((t+(i:Int)) % 65535+1)),x∈used:=by
   intro x hx
   obtain⟨i,hi,rfl⟩:=E3.1 hx
   exact df i (R4.1 hi)
  have au:((List.range (used.length+1)).map fun(i:Nat)=>((t+(i:Int)) % 65535+1)).Nodup:=by
   refine P6.2 (List.Pairwise.imp_of_mem ?_ List.pairwise_lt_range)
   intro a b ha hb dg
   have:=R4.1 ha
   have:=R4.1 hb
   omega
  have:=B9A _ _ au bl
  simp at this
  omega
def A0K(b:Nat)(s:y9):Asn:=exA fun sl:Slc=>star (cells b #[.int .i64 s.most,.int .i64 s.taken,.slice sl.a sl.len sl.cap]) (V1 eI 1 sl (Z0 s.used))
theorem A1R{h:Heap}{b:Nat}{s:y9}{R:List Asn}:sat h (A0K b s::R)↔
  ∃sl:Slc,sat h (cells b #[.int .i64 s.most,.int .i64 s.taken,.slice sl.a sl.len sl.cap]::V1 eI 1 sl (Z0 s.used)::R):=by
 unfold A0K
 rw[sat.aZ]
 constructor
 ·rintro⟨sl,hs⟩
  rw[sat.aI] at hs
  exact⟨sl,hs⟩
 ·rintro⟨sl,hs⟩
  exact⟨sl,by rw[sat.aI];exact hs⟩
theorem B0U{h:Heap}{R:List Asn}(hs:sat h R)(most:Int){Q:Value→Heap→Prop}
  (hq:∀b h',sat h' (A0K b ⟨max 1 (min most 64),0,[]⟩::R)→Q (at0 b) h'):V9 prog 249 #[.int .i64 most] h Q:=by
 refine B4Q most h Q ?_
 delta B8c az bn ie nw pu vi vz
 have fin:∀n:Int,n=max 1 (min most 64)→HM.new (.cells #[.int .i64 n,.int .i64 0,.slice none 0 0] 368) h fun b h'=>Q (at0 b) h':=by
  rintro n rfl
  refine W5 hs fun b h2 ae=>?_
  have e:Z0 ([]:List Int)=[]:=by simp[Z0]
  exact hq b h2 (A1R.2 ⟨⟨none,0,0⟩,by rw[e];exact(Z2 ae).p1⟩)
 by_cases h1:most<1
 ·simp[h1]
  exact fin 1 (by omega)
 ·by_cases h2:64<most
  ·simp[h1,h2]
   exact fin 64 (by omega)
  ·simp[h1,h2]
   exact fin most (by omega)
theorem B22{h:Heap}{R:List Asn}{b:Nat}{s:y9}{k:Int}(hs:sat h (A0K b s::R))(hl:s.used.length≤64){Q:Value→Heap→Prop}
  (hq:Q (.bool (decide (k∈s.used))) h):V9 prog 243 #[at0 b,.int .i64 k] h Q:=by
 refine B5N _ k h Q ?_
 obtain⟨sl,hs⟩:=A1R.1 hs
 have c2:W8 h ⟨b,2,none⟩=some (.slice sl.a sl.len sl.cap):=hs.cell 2
 have aM:=hs.p1.aN A5y
 have hlen:=hs.p1.aW
 rw[A2n] at hlen
 delta C0u bn ie ix kc li nn pu wi
 simp
 refine B9z (γ:=Nat) (fun i c h'=>h'=h∧c.1=(i:Int)∧i≤s.used.length∧k∉(Z0 s.used).take i) (fun i=>s.used.length-i) 0 ⟨rfl,rfl,C9 _,by simp⟩ ?_
 rintro i ⟨c,⟨⟩⟩ h' ⟨rfl,hc,hi,hn⟩
 simp only at hc
 subst hc
 simp[c2]
 have next:IntKind.wrap .i64 ((i:Int)+1)=((i+1:Nat):Int):=by rw[W6 (by omega) (by omega)];rfl
 by_cases ah:i<s.used.length
 ·rw[if_pos (by omega)]
  have bf:i<(Z0 s.used).length:=by rw[A2n];exact ah
  refine Y0 aM (B0 bf) fun a ha=>?_
  have c0:W8 h' a=some (.int .i64 (Z0 s.used)[i]):=by simpa[Go.H.add_zero] using ha 0 _ rfl
  simp[c0]
  by_cases hk:(Z0 s.used)[i]=k
  ·have hm:k∈s.used:=B7X.1 (hk▸H6 bf)
   simp[hk]
   simpa[hm] using hq
  ·simp[hk]
   refine⟨i+1,by omega,next,by omega,fun hm=>?_⟩
   rw[C3 bf,C7] at hm
   rcases hm with hm|hm
   ·exact hn hm
   ·exact hk (B9.1 hm).symm
 ·rw[if_neg (by omega)]
  rw[D1 (by rw[A2n];omega)] at hn
  have hm:k∉s.used:=fun hx=>hn (B7X.2 hx)
  simpa[hm] using hq
theorem B5y{h:Heap}{R:List Asn}{b:Nat}{s:y9}{k:Int}(hs:sat h (A0K b s::R))(hl:s.used.length≤64){Q:Value→Heap→Prop}
  (hq:∀h',sat h' (A0K b ⟨s.most,s.taken,s.used++[k]⟩::R)→Q (.tuple #[]) h'):V9 prog 264 #[at0 b,.int .i64 k] h Q:=by
 refine B4P _ k h Q ?_
 obtain⟨sl,hs⟩:=A1R.1 hs
 have lY:=A2m s.used
 have po:=A2n s.used
 delta B8b az bn ie ix kc li nn nw pu sx vi vs wi
 simp
 refine o7 (γ:=Nat×List Int×List Int) (fun g c h'=>c.2.2.1=(g.1:Int)∧g.1≤s.used.length∧(Z0 s.used).take g.1=g.2.1++g.2.2∧(∀x∈g.2.1,x≤k)∧(∀x∈g.2.2,k≤x)∧
   (c.1=false→g.2.2=[])∧(c.1=true→∃y∈g.2.2,k<y)∧
   sat h' (V1 eI 1 c.2.1 (if c.1=true then g.2.1++k::g.2.2 else g.2.1)::cells b #[.int .i64 s.most,.int .i64 s.taken,.slice sl.a sl.len sl.cap]::V1 eI 1 sl (Z0 s.used)::R))
  (fun g=>s.used.length-g.1) (0,[],[]) ⟨rfl,C9 _,rfl,by simp,by simp,by simp,by simp,Z2 hs⟩ ?_
 rintro⟨i,a,bb⟩ ⟨done,out,c,⟨⟩⟩ h1 ⟨hc,hi,ht,ha,hb,jB,vR,aa⟩
 simp only at hc hi ht ha hb jB vR aa
 subst hc
 have c2:W8 h1 ⟨b,2,none⟩=some (.slice sl.a sl.len sl.cap):=aa.p1.cell 2
 have hlen:=aa.p2.aW
 rw[po] at hlen
 have next:IntKind.wrap .i64 ((i:Int)+1)=((i+1:Nat):Int):=by rw[W6 (by omega) (by omega)];rfl
 simp[c2]
 by_cases ah:i<s.used.length
 ·rw[if_pos (by omega)]
  have bf:i<(Z0 s.used).length:=by rw[po];exact ah
  have aR:=C3 bf
  generalize hx:(Z0 s.used)[i]=x at aR
  have od:(Z0 s.used)[i]? =some x:=by rw[←hx];exact B0 bf
  have hle:∀y∈(Z0 s.used).take i,y≤x:=by
   have e:=J0 i (Z0 s.used)
   rw[←e,I6] at lY
   intro y hy
   refine lY.2.2 y hy x ?_
   rw[E0 bf,hx]
   exact B6 ..
  have kH:a.length+bb.length=i:=by
   have:=congrArg List.length ht
   simp at this
   omega
  have aM:∀{h2:Heap} {A:Asn} {R':List Asn},sat h2 (A::cells b #[.int .i64 s.most,.int .i64 s.taken,.slice sl.a sl.len sl.cap]::V1 eI 1 sl (Z0 s.used)::R')→W8 h2 ⟨b,2,none⟩=some (.slice sl.a sl.len sl.cap)∧e8 eI 1 h2 sl (Z0 s.used):=
   fun af=>⟨af.p1.cell 2,af.p2.aN A5y⟩
  have jM:∀{h2:Heap} {a:Addr},(∀j v,(eI x)[j]? =some v→W8 h2 (a.add j)=some v)→W8 h2 a=some (.int .i64 x):=fun jm=>by simpa[Go.H.add_zero] using jm 0 _ rfl
  have iL:∀l:List Int,l.length≤70→(l.length+1)*8≤140737488355328:=fun l gC=>by omega
  cases done with
  |true=>
   simp at aa⊢
   refine Y0 (aM aa).2 od fun ad ru=>?_
   simp[jM ru]
   refine A0H (x:=x) A5y A9R rfl aa (by omega) (by omega) (iL _ (by simp;omega)) fun fk h2 ae=>?_
   obtain⟨y,gO,gj⟩:=vR rfl
   have xA:k≤x:=by have:=hle y (by rw[ht];exact G8 _ gO);omega
   refine .mk (i+1,a,bb++[x]) (by simp;omega) ⟨next,by simp;omega,by simp[aR,ht],ha,?_,by simp,fun _=>⟨y,by simp[gO],gj⟩,by simpa using ae⟩
   intro z hz
   rcases C7.1 hz with hz|hz
   ·exact hb z hz
   ·rw[B9.1 hz];exact xA
  |false=>
   simp at aa⊢
   refine Y0 (aM aa).2 od fun ad ru=>?_
   simp[jM ru]
   by_cases mi:k<x
   ·simp[mi]
    refine A0H (x:=k) A5y A9R rfl aa (by omega) (by omega) (iL _ (by omega)) fun sN h2 ae=>?_
    simp[(aM ae).1]
    refine Y0 (aM ae).2 od fun uG kj=>?_
    simp[jM kj]
    refine A0H (x:=x) A5y A9R rfl ae (by omega) (by omega) (iL _ (by simp;omega)) fun fk h3 ai=>?_
    have rj:bb=[]:=jB rfl
    subst rj
    refine .mk (i+1,a,[x]) (by simp;omega) ⟨next,by simp;omega,by simpa[aR] using ht,ha,?_,by simp,fun _=>⟨x,by simp,mi⟩,by simpa using ai⟩
    intro z hz
    rw[B9.1 hz];omega
   ·simp[mi]
    have rj:bb=[]:=jB rfl
    subst rj
    simp[c2]
    refine Y0 (aM aa).2 od fun uG kj=>?_
    simp[jM kj]
    refine A0H (x:=x) A5y A9R rfl aa (by omega) (by omega) (iL _ (by omega)) fun fk h3 ai=>?_
    refine .mk (i+1,a++[x],[]) (by simp;omega) ⟨next,by simp;omega,by simpa[aR] using ht,?_,by simp,by simp,by simp,by simpa using ai⟩
    intro z hz
    rcases C7.1 hz with hz|hz
    ·exact ha z hz
    ·rw[B9.1 hz];omega
 ·rw[if_neg (by omega)]
  have ff:i=s.used.length:=by omega
  subst ff
  rw[D1 (by omega)] at ht
  have fin:∀(h2:Heap) (fk:Slc),sat h2 (V1 eI 1 fk (Z0 (s.used++[k]))::cells b #[.int .i64 s.most,.int .i64 s.taken,.slice sl.a sl.len sl.cap]::V1 eI 1 sl (Z0 s.used)::R)→
    A7v ⟨b,2,none⟩ (.slice fk.a fk.len fk.cap) h2 fun _ h'=>Q (.tuple #[]) h':=by
   intro h2 fk ae
   refine X3 ae.p1 (by simp) rfl fun h3 ai=>hq h3 (A1R.2 ⟨fk,?_⟩)
   exact ai.p2.drop
  have qI:=B1c ht ha hb
  cases done with
  |true=>
   simp at aa⊢
   rw[qI] at aa
   exact fin _ _ aa
  |false=>
   simp at aa⊢
   have rj:bb=[]:=jB rfl
   subst rj
   refine A0H (x:=k) A5y A9R rfl aa (by omega) (by omega) (by simp at ht;rw[←ht,po];omega) fun sN h2 ae=>?_
   rw[qI] at ae
   exact fin _ _ ae
theorem C7Y{h:Heap}{R:List Asn}{b:Nat}{s:y9}(hs:sat h (A0K b s::R)):∃sl:Slc,sl.len=s.used.length∧W8 h ⟨b,0,none⟩=some (.int .i64 s.most)∧W8 h ⟨b,1,none⟩=some (.int .i64 s.taken)∧
  W8 h ⟨b,2,none⟩=some (.slice sl.a sl.len sl.cap)∧e8 eI 1 h sl (Z0 s.used):=by
 obtain⟨sl,hs⟩:=A1R.1 hs
 refine⟨sl,?_,hs.cell 0,hs.cell 1,hs.cell 2,hs.p1.aN A5y⟩
 rw[hs.p1.aW,A2n]
theorem B9d{h:Heap}{R:List Asn}{b:Nat}{s:y9}{k:Int}(hs:sat h (A0K b s::R))(ag:s.ok){Q:Value→Heap→Prop}
  (al:j4 s k≠0→Q (.int .i64 (j4 s k)) h)
  (bz:j4 s k=0→∀h',sat h' (A0K b ⟨s.most,s.taken,s.used++[k]⟩::R)→Q (.int .i64 0) h'):V9 prog 246 #[at0 b,.int .i64 k] h Q:=by
 refine B1R _ _ h Q ?_
 obtain⟨sl,cA,c0,c1,c2,-⟩:=C7Y hs
 have hl:=ag.len
 have hm:=ag.cP
 delta B38 bn cb cx ie kc ki nn pu vi
 simp
 by_cases h1:k<1
 ·simp[h1];simpa[j4,h1] using al
 by_cases h2:65535<k
 ·simp[h1,h2];simpa[j4,h2] using al
 simp[h1,h2]
 refine B22 hs (by omega) ?_
 by_cases h3:k∈s.used
 ·simp[h3]
  have:j4 s k=145:=by simp[j4,h1,h2,h3]
  rw[this] at al
  exact al (by omega)
 simp[h3,c2,c0]
 by_cases h4:(s.used.length:Int)=s.most
 ·have:j4 s k=147:=by simp[j4,h1,h2,h3,h4]
  rw[this] at al
  rw[if_pos (by omega)]
  exact al (by omega)
 rw[if_neg (by omega)]
 refine B5y hs (by omega) fun h' af=>?_
 simp
 exact bz (by simp[j4,h1,h2,h3,h4]) h' af
theorem B31{h:Heap}{R:List Asn}{b:Nat}{s:y9}{k:Int}(hs:sat h (A0K b s::R))(ag:s.ok){Q:Value→Heap→Prop}
  (hq:∀h',sat h' (A0K b ⟨s.most,s.taken,s.used.erase k⟩::R)→Q (.bool (decide (k∈s.used))) h'):V9 prog 244 #[at0 b,.int .i64 k] h Q:=by
 refine B3i _ _ h Q ?_
 have hl:s.used.length≤64:=by have:=ag.len;have:=ag.cP;omega
 obtain⟨sl,hs⟩:=A1R.1 hs
 have po:=A2n s.used
 delta B5O az bn ie ix kc li nn nw pu sx vi vs wi
 simp
 refine o7 (γ:=Nat) (fun i c h'=>c.2.1=(i:Int)∧i≤s.used.length∧
   sat h' (V1 eI 1 c.1 (((Z0 s.used).take i).filter fun x=> !(x==k))::cells b #[.int .i64 s.most,.int .i64 s.taken,.slice sl.a sl.len sl.cap]::V1 eI 1 sl (Z0 s.used)::R))
  (fun i=>s.used.length-i) 0 ⟨rfl,C9 _,Z2 hs⟩ ?_
 rintro i ⟨out,c,⟨⟩⟩ h1 ⟨hc,hi,aa⟩
 simp only at hc aa
 subst hc
 have c2:W8 h1 ⟨b,2,none⟩=some (.slice sl.a sl.len sl.cap):=aa.p1.cell 2
 have hlen:=aa.p2.aW
 rw[po] at hlen
 have aM:=aa.p2.aN A5y
 have next:IntKind.wrap .i64 ((i:Int)+1)=((i+1:Nat):Int):=by rw[W6 (by omega) (by omega)];rfl
 simp[c2]
 by_cases ah:i<s.used.length
 ·rw[if_pos (by omega)]
  have bf:i<(Z0 s.used).length:=by rw[po];exact ah
  have aR:=C3 bf
  generalize hx:(Z0 s.used)[i]=x at aR
  have od:(Z0 s.used)[i]? =some x:=by rw[←hx];exact B0 bf
  refine Y0 aM od fun ad ru=>?_
  have e0:W8 h1 ad=some (.int .i64 x):=by simpa[Go.H.add_zero] using ru 0 _ rfl
  simp[e0]
  by_cases mi:x=k
  ·simp[mi]
   refine .mk (i+1) (by omega) ⟨next,by omega,?_⟩
   rw[aR]
   simpa[mi] using aa
  ·simp[mi,c2]
   refine Y0 aM od fun uG kj=>?_
   have e1:W8 h1 uG=some (.int .i64 x):=by simpa[Go.H.add_zero] using kj 0 _ rfl
   simp[e1]
   refine A0H (x:=x) A5y A9R rfl aa (by omega) (by omega) ?_ fun fk h2 ae=>?_
   ·have:=D2 (fun x=> !(x==k)) ((Z0 s.used).take i)
    have:=K7 i (Z0 s.used)
    omega
   refine .mk (i+1) (by omega) ⟨next,by omega,?_⟩
   rw[aR]
   simpa[mi] using ae
 ·rw[if_neg (by omega)]
  rw[D1 (by omega),C20 ag.nodup] at aa
  have gl:=aa.aW
  rw[A2n] at gl
  refine X3 aa.p1 (by simp) rfl fun h3 ai=>?_
  have:=hq h3 (A1R.2 ⟨out,ai.p2.drop⟩)
  have e:decide (out.len<sl.len)=decide (k∈s.used):=by
   rw[gl,hlen,List.length_erase]
   by_cases hm:k∈s.used
   ·have:=List.length_pos_of_mem hm
    simp[hm];omega
   ·simp[hm]
  rw[e]
  exact this
theorem C0m{h:Heap}{R:List Asn}{b:Nat}{s:y9}(hs:sat h (A0K b s::R))(ag:s.ok){Q:Value→Heap→Prop}
  (ax:(s.used.length:Int)=s.most→Q (.tuple #[.int .i64 0,.int .i64 147]) h)
  (bz:(s.used.length:Int)≠s.most→∀n u,Reach s.used n s.taken u→∀h',sat h' (A0K b ⟨s.most,u,s.used++[u]⟩::R)→Q (.tuple #[.int .i64 u,.int .i64 0]) h'):
  V9 prog 242 #[at0 b] h Q:=by
 refine B3h _ h Q ?_
 obtain⟨sl,cA,c0,c1,c2,-⟩:=C7Y hs
 have hl:=ag.len
 have hm:=ag.cP
 delta B5M bn cb cx ie kc ki nn pu sx vi wi
 simp[c2,c0]
 by_cases h4:(s.used.length:Int)=s.most
 ·rw[if_pos (by omega)]
  exact ax h4
 rw[if_neg (by omega)]
 simp[c1]
 obtain⟨n,u,hn,hu⟩:=C19 s.used s.taken ag.cN ag.dN ag.nodup (by omega)
 have wZ:=hu.range ag.cN
 refine o7 (γ:=Nat×Int) (fun g c h'=>h'=h∧c.1=g.2∧0≤g.2∧g.2≤65535∧0≤c.2.1∧c.2.1+g.1≤64∧Reach s.used g.1 g.2 u) (fun g=>g.1) (n,s.taken)
  ⟨rfl,rfl,ag.cN,ag.dN,by simp,by simp;omega,hu⟩ ?_
 rintro⟨n',t⟩ ⟨cid,cj,⟨⟩⟩ h1 ⟨rfl,hc,oO,pY,xF,vG,hr⟩
 simp only at hc oO pY xF vG hr
 subst hc
 have bh:(if 65535<IntKind.wrap .i64 (cid+1) then(1:Int) else IntKind.wrap .i64 (cid+1))=nxt cid:=by
  rw[W6 (by omega) (by omega)];unfold nxt;split<;>omega
 have yD:=A3R oO
 have step:∀Q':Value→Heap→Prop,(nxt cid∈s.used→Q' (.bool true) h1)→(nxt cid∉s.used→Q' (.bool false) h1)→V9 prog 243 #[at0 b,.int .i64 (nxt cid)] h1 Q':=by
  intro Q' q1 q2
  refine B22 hs (by omega) ?_
  by_cases ef:nxt cid∈s.used
  ·simpa[ef] using q1 ef
  ·simpa[ef] using q2 ef
 have fin:nxt cid∉s.used→A7v ⟨b,1,none⟩ (.int .i64 (nxt cid)) h1 fun _ h2=>V9 prog 264 #[at0 b,.int .i64 (nxt cid)] h2 (s6.un [] fun _ h3=>Q (.tuple #[.int .i64 (nxt cid),.int .i64 0]) h3):=by
  intro ef
  have xa:u=nxt cid:=hr.det (.here ef)
  subst xa
  obtain⟨sl',af⟩:=A1R.1 hs
  refine X3 af (by simp) rfl fun h2 ae=>?_
  have ai:sat h2 (A0K b ⟨s.most,nxt cid,s.used⟩::R):=A1R.2 ⟨sl',ae⟩
  refine B5y ai (show s.used.length≤64 by omega) fun h3 ak=>?_
  simp
  exact bz h4 n _ hu h3 ak
 have nextj:IntKind.wrap .i64 (cj+1)=cj+1:=W6 (by omega) (by omega)
 have pf:cj≤64:=by omega
 simp[pf]
 have w1:IntKind.wrap .i64 (cid+1)=cid+1:=W6 (by omega) (by omega)
 rw[w1,nextj]
 have rE:∀m:Int,m=nxt cid→V9 prog 243 #[at0 b,.int .i64 m] h1 ((Kind.one Tag.bool).un fun b_1 h'=>
   if b_1=true then Go.H.Next (fun(g:Nat×Int) (c:Int×Int×Unit) h'=>h'=h1∧c.1=g.2∧0≤g.2∧g.2≤65535∧0≤c.2.1∧c.2.1+g.1≤64∧Reach s.used g.1 g.2 u) (fun g=>g.1) (n',cid) (m,cj+1,()) h'
   else A7v ⟨b,1,none⟩ (.int .i64 m) h' fun b_2 h'=>V9 prog 264 #[at0 b,.int .i64 m] h' (s6.un [] fun _ h3=>Q (.tuple #[.int .i64 m,.int .i64 0]) h3)):=by
  rintro m rfl
  refine step _ (fun ef=>?_) (fun ef=>?_)
  ·simp
   cases hr with
   |here hx=>exact absurd ef hx
   |on lx dy=>exact .mk (_,nxt cid) (Nat.lt_succ_self _) ⟨rfl,rfl,by simp;omega,by simp;omega,by simp;omega,by simp at vG⊢;omega,dy⟩
  ·simp
   exact fin ef
 by_cases wc:65535<cid+1
 ·rw[if_pos wc]
  exact rE 1 (by unfold nxt;omega)
 ·rw[if_neg wc]
  exact rE (cid+1) (by unfold nxt;omega)
variable {h:Heap} {R:List Asn}
theorem size_pos{s:B4p}(hs:¬s=ByteArray.mk #[]):0<s.size:=by
 refine Nat.pos_of_ne_zero fun e=>hs ?_
 have:s.data.size=0:=e
 have:s.data=#[]:=Array.eq_empty_of_size_eq_zero this
 cases s
 simp_all
def a7(b:Nat)(o:b7):Asn:=exA fun x:Nat×Slc×Slc=>
 star (cells b #[at0 x.1,.int .i64 o.most,.bool o.on,.slice x.2.1.a x.2.1.len x.2.1.cap,.slice x.2.2.a x.2.2.len x.2.2.cap])
  (star (A0K x.1 o.aU) (star (V1 u4 7 x.2.1 o.aF) (V1 Z5 5 x.2.2 o.waiting)))
theorem j6{h:Heap}{b:Nat}{o:b7}{R:List Asn}:sat h (a7 b o::R)↔∃(pb:Nat) (fl wt:Slc),
  sat h (cells b #[at0 pb,.int .i64 o.most,.bool o.on,.slice fl.a fl.len fl.cap,.slice wt.a wt.len wt.cap]::A0K pb o.aU::V1 u4 7 fl o.aF::V1 Z5 5 wt o.waiting::R):=by
 unfold a7
 rw[sat.aZ]
 constructor
 ·rintro⟨⟨pb,fl,wt⟩,hs⟩
  rw[sat.aI] at hs
  exact⟨pb,fl,wt,(sat.aI.1 (sat.aI.1 hs.p1).p1).re [3,2,0,1]⟩
 ·rintro⟨pb,fl,wt,hs⟩
  refine⟨⟨pb,fl,wt⟩,?_⟩
  rw[sat.aI]
  exact(sat.aI.2 ((sat.aI.2 (hs.re [2,3,0,1])).re [2,0,1])).p1
theorem B8g{n:Int}(hs:sat h R){Q:Value→Heap→Prop}(hq:∀h',sat h' R→Q (.int .i64 (max 1 (min n 64))) h'):V9 prog 202 #[.int .i64 n] h Q:=by
 refine B1O n h Q ?_
 delta B36 cp ki nn pu vi
 refine V3 (B0U hs n fun b h1 aa=>⟨_,rfl,?_⟩)
 obtain⟨sl,ae⟩:=A1R.1 aa
 exact⟨_,rfl,_,by rw[V0];exact ae.cell 0,hq _ aa.drop⟩
theorem C16(hs:sat h R)(most:Int){Q:Value→Heap→Prop}
  (hq:∀b h',sat h' (a7 b ⟨⟨64,0,[]⟩,max 1 (min most 64),false,[],[]⟩::R)→Q (at0 b) h'):V9 prog 200 #[.int .i64 most] h Q:=by
 refine B4O most h Q ?_
 delta B8a az ci cp nw pu vi vz
 refine V3 (B0U hs 64 fun pb h1 aa=>⟨_,rfl,?_⟩)
 refine V3 (B8g aa fun h2 ae=>⟨_,rfl,?_⟩)
 refine W5 ae fun b h3 ai=>?_
 exact hq b h3 (j6.2 ⟨pb,⟨none,0,0⟩,⟨none,0,0⟩,(Z2 (Z2 ai)).re [2,3,0,1]⟩)
theorem B9c{m:MsT}{id:Int}{dup:Bool}(hs:sat h R){Q:Value→Heap→Prop}(hq:∀c p h',sat h' (pkB .i64 (c,p,A0G m id dup)::R)→Q (A2B .i64 (pkT (A0G m id dup) c p)) h'):
  V9 prog 203 #[vMs m,.int .i64 id,.bool dup] h Q:=by
 refine A97 (toU m) id dup h Q ?_
 delta B0u az bn g2 ie jb ji jt nw pu sn sw ve vi vz w10 w11 w12 w13 w14 w15 w16 w17 w18 w19 w20 w21 w22 w23 w24 w25 w5 w6 w7 w8 w9
 refine W5 hs fun x1 h1 aa=>?_
 refine W5 aa fun x2 h2 ae=>?_
 refine⟨m.2.2.1,by rw[V0];exact ae.p1.cell 2,m.2.2.2.1,by rw[V0];exact ae.p1.cell 3,m.1,by rw[V0];exact ae.p1.cell 0,m.2.1,by rw[V0];exact ae.p1.cell 1,?_⟩
 refine W5 ae fun x7 h3 bt=>?_
 (try dsimp only);rw[U7]
 refine o4 bt rfl rfl fun h4 ak=>?_
 refine⟨m.2.2.2.2,by rw[V0];exact ak.p2.cell 4,?_⟩
 refine cut (fun z h'=>∃p:Slc,sat h' (cells x7 (X4 .i64 (pkT (A0G m id dup) ⟨none,0,0⟩ p)).toArray::cells x2 (X4 .i64 C5g).toArray::pkB .i64 (⟨none,0,0⟩,p,A0G m id dup)::R)) ?_ ?_
 ·intro K hK
  (try dsimp only);rw[V4]
  by_cases ht:m.2.2.2.2=ByteArray.mk #[]
  ·rw[if_neg (by rw[ht];decide)]
   refine hK _ _ ⟨⟨none,0,0⟩,?_⟩
   have:=A3j (k:=.i64) (o:=A0G m id dup) rfl (by simp[A0G,C1X,ht]) ak
   exact(this.re [1,2,0,3]).p3.drop
  ·rw[if_pos (by simpa using size_pos ht)]
   refine⟨m.2.2.2.2,by rw[V0];exact ak.p2.cell 4,?_⟩
   refine W5 ak fun iG h5 aj=>?_
   (try dsimp only);rw[U7,V0]
   refine X3 aj.p1 (by simp) rfl fun h6 aw=>?_
   refine hK _ _ ⟨⟨some ⟨iG,0,none⟩,1,1⟩,?_⟩
   have hp:(A0G m id dup).props=[(38,0,C5t,m.2.2.2.2)]:=by simp[A0G,C1X,ht]
   have h7:sat h6 (V1 X6 4 ⟨some ⟨iG,0,none⟩,1,1⟩ (A0G m id dup).props::cells x7 (X4 .i64 (pkT (A0G m id dup) ⟨none,0,0⟩ ⟨some ⟨iG,0,none⟩,1,1⟩)).toArray::cells x2 (X4 .i64 C5g).toArray::R):=by
    rw[hp]
    exact A1N (o:=0) (cs:=(X6 (38,0,C5t,m.2.2.2.2)).toArray) ⟨rfl,D9 _,rfl,by simp,by simp⟩ (aw.re [1,0,2,3]).p3.drop
   have h8:sat h6 (V1 (eKd .i64) 1 ⟨none,0,0⟩ (A0G m id dup).cB::V1 X6 4 ⟨some ⟨iG,0,none⟩,1,1⟩ (A0G m id dup).props::cells x7 (X4 .i64 (pkT (A0G m id dup) ⟨none,0,0⟩ ⟨some ⟨iG,0,none⟩,1,1⟩)).toArray::cells x2 (X4 .i64 C5g).toArray::R):=Z2 h7
   exact((A4Q (t:=(⟨none,0,0⟩,⟨some ⟨iG,0,none⟩,1,1⟩,A0G m id dup))).2 h8).re [1,2,0]
 rintro⟨⟩ h5 ⟨p,aj⟩
 refine Z3 (ts:=B8R .i64) (pkT (A0G m id dup) ⟨none,0,0⟩ p) aj rfl ?_
 (try dsimp only);rw[U7]
 refine o4 aj.p1 rfl rfl fun h6 aw=>?_
 refine Z3 (ts:=B8R .i64) (pkT (A0G m id dup) ⟨none,0,0⟩ p) aw rfl ?_
 exact hq _ _ h6 aw.drop.drop
theorem B5U{s:Slc}{os:List PkO}{t:Slc×Slc×PkO}(hs:sat h (r6 .i64 s os::pkB .i64 t::R)){T T1 T2:TypeId}{zs:D0q}(hz:zs.size=26){zero:D0q}(gJ:zero.size=26)(hb:os.length≤20000){β:Type}{f:Slc→HM β}{Q:β→Heap→Prop}
  (hq:∀s' h',sat h' (r6 .i64 s' (os++[t.2.2])::R)→f s' h' Q):
  (HM.bind (HM.new (.cells zs T)) fun x=>HM.bind (B0I ⟨x,0,none⟩ (X4 .i64 (pkF t))) fun _=>HM.bind (o9 (B8R .i64) ⟨x,0,none⟩) fun y=>
   HM.bind (HM.new (.cells (X4 .i64 y).toArray T1)) fun b=>HM.bind (HM.append T2 26 328 zero s 1 (W4 26 ⟨some ⟨b,0,none⟩,1,1⟩)) f) h Q:=by
 refine W5 hs fun x h1 aa=>?_
 (try dsimp only);rw[U7]
 refine B5n aa (by rw[hz];rfl) (B3H .i64 _) fun h2 ae=>?_
 refine Z3 (ts:=B8R .i64) (pkF t) ae rfl ?_
 refine A5o (t:=t) ae.drop gJ (by decide) (by omega) fun s' h3 ai=>?_
 exact hq s' h3 ai
theorem B0V{b:Nat}{o:b7}{ps:List PkO}{s:Slc}(hs:sat h (a7 b o::r6 .i64 s ps::R))(ag:X5 o)(ic:ps.length≤10000){Q:Value→Heap→Prop}
  (hq:∀h' S,sat h' (a7 b (Z6 o).1::r6 .i64 S (ps++(Z6 o).2)::R)→Q (.slice S.a S.len S.cap) h'):
  V9 prog 193 #[at0 b,.slice s.a s.len s.cap] h Q:=by
 refine B3f (some ⟨b,0,none⟩) s h Q ?_
 delta B5K az bn g2 g7 ie ix ji kb kc ki kp nn nw pu rq sn sx vi vs
 obtain⟨wO,yn,wI,qf⟩:=j6.1 hs
 refine⟨_,rfl,o.on,by rw[V0];exact qf.cell 2,?_⟩
 (try dsimp only);rw[V4]
 cases aV:o.on with
 |false=>
  rw[if_pos (by rfl)]
  refine hq h s ?_
  have e:Z6 o=(o,[]):=by unfold Z6;rw[if_neg (by simp[aV])]
  rw[e,C1]
  exact hs
 |true=>
 rw[if_neg (by simp)]
 clear qf wO yn wI
 (try dsimp only);rw[U7]
 refine A6x (γ:=b7×List PkO) (fun g c h'=>X5 g.1∧g.1.on=true∧g.2.length+g.1.waiting.length≤10300∧(Z6 g.1).1=(Z6 o).1∧g.2++(Z6 g.1).2=ps++(Z6 o).2∧sat h' (a7 b g.1::r6 .i64 c.1 g.2::R)) (fun g=>g.1.waiting.length) (o,ps)
  ⟨ag,aV,by have:=ag.wl;simp only;omega,rfl,rfl,hs⟩ ?_
 clear hs ic ag aV
 rintro⟨o1,os⟩ ⟨out,⟨⟩⟩ h1 ⟨ag,aV,ic,dm,da,dW⟩ K bh hd
 simp only at ag ic dm da dW aV
 obtain⟨pb,fl,wt,aa⟩:=j6.1 dW
 have eY:wt.len=o1.waiting.length:=(aa.p3).aW
 have bZ:fl.len=o1.aF.length:=(aa.p2).aW
 have oe:Z6 o1=goF o1 o1.waiting:=by unfold Z6;rw[if_pos aV]
 rw[oe] at dm da
 refine⟨_,rfl,wt,by rw[V0];exact aa.cell 4,?_⟩
 (try dsimp only);rw[V4]
 cases bw:o1.waiting with
 |nil=>
  rw[if_neg (by rw[eY,bw];simp)]
  have e:goF o1 o1.waiting=(o1,[]):=by
   rw[bw]
   show({o1 with waiting:=[]},[])=_
   rw[←bw]
  rw[e] at dm da
  rw[C1] at da
  refine hd (.inl (out,())) _ (hq h1 out ?_)
  rw[←dm,←da]
  exact dW
 |cons m w=>
 rw[if_pos (by rw[eY,bw];simp)]
 have iq:=ag.wl
 have tM:=ag.wq m (by rw[bw];exact B6 ..)
 have nK:∀x∈w,0≤x.2.2.1∧x.2.2.1≤2:=fun x hx=>ag.wq x (by rw[bw];exact C2 _ hx)
 rw[bw] at ic aa eY iq
 rw[bw,B2v] at dm da
 have gF:=ag.f64
 have qB:=ag.m64
 refine cut (fun z h'=>match z with
  |.inl c=>∃g:b7×List PkO,g.1.waiting.length<o1.waiting.length∧X5 g.1∧g.1.on=true∧g.2.length+g.1.waiting.length≤10300∧(Z6 g.1).1=(Z6 o).1∧g.2++(Z6 g.1).2=ps++(Z6 o).2∧sat h' (a7 b g.1::r6 .i64 c.1 g.2::R)
  |.inr (.inr (.inr c))=>sat h' (a7 b (Z6 o).1::r6 .i64 c.1 (ps++(Z6 o).2)::R)
  |_=>False) (fun K1 fO=>?_) (fun z h2 hz=>?_)
 rotate_left
 ·match z,hz with
  |.inl (c,()),⟨g,g1,g2⟩=>exact bh g _ _ g1 g2
  |.inr (.inr (.inr (c,()))),hz=>exact hd (.inr (c,())) _ (hq h2 c hz)
 refine⟨_,rfl,wt,by rw[V0];exact aa.cell 4,?_⟩
 (try dsimp only);rw[U7]
 refine Y0 (i:=0) (aa.p3.aN A6i) (x:=m) rfl fun p hp=>?_
 (try dsimp only);rw[U7]
 refine C3H hp ?_
 refine W5 aa fun jq h3 ba=>?_
 (try dsimp only);rw[U7]
 refine o4 ba rfl rfl fun h4 gS=>?_
 have ae:sat h4 (cells jq (Z5 m).toArray::cells b #[at0 pb,.int .i64 o1.most,.bool o1.on,.slice fl.a fl.len fl.cap,.slice wt.a wt.len wt.cap]::A0K pb o1.aU::V1 u4 7 fl o1.aF::V1 Z5 5 wt (m::w)::r6 .i64 out os::R):=gS
 clear gS ba aa
 refine cut (fun z h'=>h'=h4∧z.1=decide (0<m.2.2.1∧o1.most≤(o1.aF.length:Int))) ?_ ?_
 ·intro K2 aQ
  refine⟨m.2.2.1,by rw[V0];exact ae.cell 2,?_⟩
  (try dsimp only);rw[V4]
  by_cases gA:0<m.2.2.1
  ·rw[if_pos (by simpa using gA)]
   refine⟨_,rfl,fl,by rw[V0];exact ae.p1.cell 3,_,rfl,o1.most,by rw[V0];exact ae.p1.cell 1,?_⟩
   refine aQ _ _ ⟨rfl,?_⟩
   simp only[bZ]
   rw[F8]
   simp[gA]
  ·rw[if_neg (by simpa using gA)]
   exact aQ _ _ ⟨rfl,by simp[gA]⟩
 rintro⟨z,⟨⟩⟩ h5 ⟨rfl,hz⟩
 simp only at hz
 subst hz
 (try dsimp only);rw[V4]
 by_cases ax:0<m.2.2.1∧o1.most≤(o1.aF.length:Int)
 ·rw[if_pos (by simpa using ax)]
  rw[if_pos ax] at dm da
  rw[C1] at da
  refine fO (.inr (.inr (.inr (out,())))) _ ?_
  show sat h5 (a7 b (Z6 o).1::r6 .i64 out (ps++(Z6 o).2)::R)
  rw[←dm,←da]
  have:sat h5 (a7 b {o1 with waiting:=m::w}::r6 .i64 out os::R):=j6.2 ⟨pb,fl,wt,ae.drop⟩
  exact this
 rw[if_neg (by simpa using ax)]
 rw[if_neg ax] at dm da
 refine⟨_,rfl,wt,by rw[V0];exact ae.p1.cell 4,?_⟩
 (try dsimp only);rw[U7]
 refine B20 (mx:=none) (lo:=1) (hi:=(m::w).length) ae.p4 A6i (by simp) (D9 _) ⟨rfl,by simp⟩ (by rw[eY];rfl) fun wt' ai=>?_
 rw[F5] at ai
 have bt:sat h5 (V1 Z5 5 wt' w::cells jq (Z5 m).toArray::cells b #[at0 pb,.int .i64 o1.most,.bool o1.on,.slice fl.a fl.len fl.cap,.slice wt.a wt.len wt.cap]::A0K pb o1.aU::V1 u4 7 fl o1.aF::r6 .i64 out os::R):=ai
 clear ai ae
 refine⟨_,rfl,?_⟩
 (try dsimp only);rw[U7,V0]
 refine X3 bt.p2 (by simp) rfl fun h6 bk=>?_
 have ak:sat h6 (cells b #[at0 pb,.int .i64 o1.most,.bool o1.on,.slice fl.a fl.len fl.cap,.slice wt'.a wt'.len wt'.cap]::V1 Z5 5 wt' w::cells jq (Z5 m).toArray::A0K pb o1.aU::V1 u4 7 fl o1.aF::r6 .i64 out os::R):=bk
 clear bk bt
 refine⟨m.2.2.1,by rw[V0];exact ak.p2.cell 2,?_⟩
 (try dsimp only);rw[V4]
 by_cases gA:0<m.2.2.1
 ·rw[if_neg (by simp;omega)]
  rw[if_pos gA] at dm da
  dsimp only at dm da
  have jU:(o1.aF.length:Int)<o1.most:=by omega
  refine⟨_,rfl,some ⟨pb,0,none⟩,by rw[V0];exact ak.cell 0,?_⟩
  have ue:=ag.fJ
  have ir:=ag.pm
  refine u6 (C0m ak.p3 ag.pk (fun hf=>absurd hf (by omega)) (fun _ n u hr h7 gu=>⟨(u,0,()),rfl,?_⟩))
  have hu:=B50 hr
  have aC:sat h7 (A0K pb ⟨o1.aU.most,u,o1.aU.used++[u]⟩::cells b #[at0 pb,.int .i64 o1.most,.bool o1.on,.slice fl.a fl.len fl.cap,.slice wt'.a wt'.len wt'.cap]::V1 Z5 5 wt' w::cells jq (Z5 m).toArray::V1 u4 7 fl o1.aF::r6 .i64 out os::R):=gu
  clear gu
  refine⟨_,rfl,fl,by rw[V0];exact aC.p1.cell 3,?_⟩
  refine Z3 (ts:=[.str,.str,.int .i64,.bool,.str]) (toU m) aC.p3 rfl ?_
  refine W5 aC fun pH h8 bq=>?_
  refine⟨fl,by rw[V0];exact bq.p2.cell 3,rfl,?_⟩
  (try dsimp only);rw[U7]
  refine A0d (enc:=u4) (ys:=[(u,m,false)]) A2A A9S rfl bq.p5 rfl ?_ (by decide) (by decide) (by omega) fun fl' h9 eA=>?_
  ·simp only[W4,N5,D8,I1,C1]
   exact bq.reads rfl
  refine⟨_,rfl,?_⟩
  (try dsimp only);rw[U7,V0]
  refine X3 eA.p3 (by simp) rfl fun gm gv=>?_
  have aR:=ag.take (m:=m) (w:=w) (by simp only[B7] at iq;omega) nK ⟨gA,tM.2⟩ jU
  rw[hu] at dm da aR
  have fa:sat gm (a7 b {o1 with aU:=⟨o1.aU.most,u,o1.aU.used++[u]⟩,aF:=o1.aF++[(u,m,false)],waiting:=w}::cells jq (Z5 m).toArray::r6 .i64 out os::R):=j6.2 ⟨pb,fl',wt',(gv.re [2,5,0,3,1,4,6]).drop.re [1,2,3,4,0]⟩
  refine Z3 (ts:=[.str,.str,.int .i64,.bool,.str]) (toU m) fa.p1 rfl ?_
  refine V3 (B9c (m:=m) (id:=u) (dup:=false) fa fun c p h8 aw=>⟨pkT (A0G m u false) c p,rfl,?_⟩)
  refine B5U (t:=(c,p,A0G m u false)) (aw.re [3,0,1,2]) rfl rfl (by simp only[B7] at ic;omega) fun out' h9 aC=>?_
  refine fO (.inl (out',())) _ ⟨({o1 with aU:=⟨o1.aU.most,u,o1.aU.used++[u]⟩,aF:=o1.aF++[(u,m,false)],waiting:=w},os++[A0G m u false]),?_,aR,aV,?_,?_,?_,?_⟩
  ·simp only[bw,B7];omega
  ·simp only[B3,B7,G1] at ic⊢
   omega
  ·rw[←dm]
   have:=congrArg Prod.fst (A4n {o1 with aU:=⟨o1.aU.most,u,o1.aU.used++[u]⟩,aF:=o1.aF++[(u,m,false)]} w w)
   unfold Z6
   rw[if_pos aV]
   exact this
  ·rw[←da]
   have:=congrArg Prod.snd (A4n {o1 with aU:=⟨o1.aU.most,u,o1.aU.used++[u]⟩,aF:=o1.aF++[(u,m,false)]} w w)
   simp only at this⊢
   unfold Z6
   rw[if_pos aV,this,D7]
   rfl
  ·exact((aC.re [2,1,0]).drop)
 ·rw[if_pos (by simp;omega)]
  rw[if_neg gA] at dm da
  dsimp only at dm da
  have fa:sat h6 (a7 b {o1 with waiting:=w}::cells jq (Z5 m).toArray::r6 .i64 out os::R):=j6.2 ⟨pb,fl,wt',ak.re [0,3,4,1,2]⟩
  refine Z3 (ts:=[.str,.str,.int .i64,.bool,.str]) (toU m) fa.p1 rfl ?_
  refine V3 (B9c (m:=m) (id:=0) (dup:=false) fa fun c p h8 aw=>⟨pkT (A0G m 0 false) c p,rfl,?_⟩)
  refine B5U (t:=(c,p,A0G m 0 false)) (aw.re [3,0,1,2]) rfl rfl (by simp only[B7] at ic;omega) fun out' h9 aC=>?_
  have ca:X5 {o1 with waiting:=w}:=⟨ag.pm,ag.pk,ag.m1,ag.m64,ag.ids,by simp only[B7] at iq⊢;omega,ag.fq,nK⟩
  refine fO (.inl (out',())) _ ⟨({o1 with waiting:=w},os++[A0G m 0 false]),?_,ca,aV,?_,?_,?_,?_⟩
  ·simp only[bw,B7];omega
  ·simp only[B3,B7,G1] at ic⊢
   omega
  ·rw[←dm]
   unfold Z6
   rw[if_pos aV]
   exact congrArg Prod.fst (A4n o1 w w)
  ·rw[←da]
   have:=congrArg Prod.snd (A4n o1 w w)
   unfold Z6
   rw[if_pos aV]
   simp only at this⊢
   rw[this,D7]
   rfl
  ·exact((aC.re [2,1,0]).drop)
end
end Go.Proofs.YtidlldnlphdhcaaGreatDoor