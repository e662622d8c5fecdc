/-
  Our texts, packed by program.
-/
import Derived.Test.YtidlldnlphdhcaaGreatDoorQBrokerCloses5
import Derived.Deep.DeepHandedRow
import Derived.Deep.DeepWitnessRowRef
import Derived.Test.YtidlldnlphdhcaaGreatDoorCards
import Derived.Test.YtidlldnlphdhcaaGreatDoorTie
import Derived.ShutString
import Derived.ChangeOld
import Derived.Carry
import Derived.SevenTiedAt
set_option linter.unusedSimpArgs false
set_option linter.unusedVariables false
set_option maxHeartbeats 16000000
set_option maxRecDepth 100000
namespace Go.Proofs.YtidlldnlphdhcaaGreatDoor
open Go.H
open Go.Proofs.Tryz
section
open Go.H Go.Proofs
variable {h h0:Heap} {L L' L1 L2 L3 L4 R:List Asn} {Q:Value→Heap→Prop}
abbrev eQ(x:Nat):C9P:=[at0 x]
instance:Enc eQ 1:=⟨fun _=>rfl,fun x v hv=>by rw[B7.1 hv];rfl,by decide⟩
def A07(ib:Nat)(i:s6):Asn:=exA fun qb:Nat=>star (cells ib #[at0 qb]) (A0J qb i)
theorem A3d{ib:Nat}{i:s6}:sat h (A07 ib i::R)↔∃qb:Nat,sat h (cells ib #[at0 qb]::A0J qb i::R):=by
 unfold A07
 rw[sat.bA]
 simp only[sat.aI]
abbrev rqC(s:V7)(ob ib:Nat):C9O:=#[.int .i64 s.id,.string s.aC,.bool s.aN,.bool s.on,at0 ob,at0 ib]
def rsA(b:Nat)(s:V7):Asn:=exA fun x:Nat×Nat=>A0Q [cells b (rqC s x.1 x.2),a7 x.1 s.out,A07 x.2 s.aZ]
theorem B0X{b:Nat}{s:V7}:sat h (rsA b s::R)↔∃ob ib:Nat,sat h (cells b (rqC s ob ib)::a7 ob s.out::A07 ib s.aZ::R):=by
 unfold rsA
 rw[sat.bA]
 simp only[sat.bV]
 exact⟨fun⟨x,hh⟩=>⟨x.1,x.2,hh⟩,fun⟨a,b,hh⟩=>⟨(a,b),hh⟩⟩
def A0q(b:Nat)(last:Int)(A:List V7):Asn:=exA fun x:Slc×List (Nat×V7)=>A0Q [pr (x.2.map (·.2)=A),cells b #[.int .i64 last,.slice x.1.a x.1.len x.1.cap],U5 eQ 1 x.1 (x.2.map (·.1)),Z9 (fun p=>rsA p.1 p.2) x.2]
theorem A0Y{b:Nat}{last:Int}{A:List V7}:sat h (A0q b last A::R)↔∃(S:Slc) (M:List (Nat×V7)),M.map (·.2)=A∧sat h (cells b #[.int .i64 last,.slice S.a S.len S.cap]::U5 eQ 1 S (M.map (·.1))::Z9 (fun p=>rsA p.1 p.2) M::R):=by
 unfold A0q
 rw[sat.bA]
 simp only[sat.bV,G5,F2,sat.bC]
 exact⟨fun⟨x,hh⟩=>⟨x.1,x.2,hh⟩,fun⟨a,b,hh⟩=>⟨(a,b),hh⟩⟩
def A3c(b:Nat)(last:Int)(A:List V7)(s:V7)(nb:Nat):Asn:=exA fun x:Slc×List (Nat×V7)×List (Nat×V7)=>A0Q [pr ((x.2.1++(nb,s)::x.2.2).map (·.2)=A),
 cells b #[.int .i64 last,.slice x.1.a x.1.len x.1.cap],U5 eQ 1 x.1 ((x.2.1++(nb,s)::x.2.2).map (·.1)),Z9 (fun p=>rsA p.1 p.2) (x.2.1++x.2.2)]
theorem A8t{b nb:Nat}{last:Int}{A:List V7}{s:V7}:sat h (A3c b last A s nb::R)↔∃(S:Slc) (l1 l2:List (Nat×V7)),(l1++(nb,s)::l2).map (·.2)=A∧
  sat h (cells b #[.int .i64 last,.slice S.a S.len S.cap]::U5 eQ 1 S ((l1++(nb,s)::l2).map (·.1))::Z9 (fun p=>rsA p.1 p.2) (l1++l2)::R):=by
 unfold A3c
 rw[sat.bA]
 simp only[sat.bV,G5,F2,sat.bC]
 exact⟨fun⟨x,hh⟩=>⟨x.1,x.2.1,x.2.2,hh⟩,fun⟨a,b,c,hh⟩=>⟨(a,b,c),hh⟩⟩
theorem B9A{b:Nat}{last:Int}{S:Slc}{l1 l2:List (Nat×V7)}{p:Nat×V7}(hs:sat h (cells b #[.int .i64 last,.slice S.a S.len S.cap]::U5 eQ 1 S ((l1++p::l2).map (·.1))::Z9 (fun p=>rsA p.1 p.2) (l1++p::l2)::R)):
  ∃ob ib:Nat,sat h (cells p.1 (rqC p.2 ob ib)::a7 ob p.2.out::A07 ib p.2.aZ::A3c b last ((l1++p::l2).map (·.2)) p.2 p.1::R):=by
 have h1:=j5.1 (hs.re [2,0,1])
 obtain⟨ob,ib,h2⟩:=B0X.1 h1
 refine⟨ob,ib,?_⟩
 have h3:sat h (A3c b last ((l1++p::l2).map (·.2)) p.2 p.1::cells p.1 (rqC p.2 ob ib)::a7 ob p.2.out::A07 ib p.2.aZ::R):=A8t.2 ⟨S,l1,l2,rfl,h2.re [4,5,3,0,1,2]⟩
 exact h3.re [1,2,3,0]
theorem C3x{b nb ob ib:Nat}{last:Int}{A:List V7}{s s':V7}{f:V7→V7}(hn:(A.map (·.id)).Nodup)(hf:f s=s'):∀h,sat h (cells nb (rqC s' ob ib)::a7 ob s'.out::A07 ib s'.aZ::A3c b last A s nb::R)→sat h (A0q b last (X9 s.id f A)::R):=by
 intro h hs
 obtain⟨S,l1,l2,rfl,h1⟩:=A8t.1 (hs.re [3,0,1,2])
 rw[C0,B6] at hn⊢
 rw[A8q hn,hf]
 refine A0Y.2 ⟨S,l1++(nb,s')::l2,by simp,?_⟩
 have h2:sat h (rsA nb s'::Z9 (fun p=>rsA p.1 p.2) (l1++l2)::cells b #[.int .i64 last,.slice S.a S.len S.cap]::U5 eQ 1 S ((l1++(nb,s)::l2).map (·.1))::R):=B0X.2 ⟨ob,ib,h1.re [3,4,5,2,0,1]⟩
 have h3:sat h (Z9 (fun p=>rsA p.1 p.2) (l1++(nb,s')::l2)::cells b #[.int .i64 last,.slice S.a S.len S.cap]::U5 eQ 1 S ((l1++(nb,s)::l2).map (·.1))::R):=j5.2 h2
 have e:(l1++(nb,s')::l2).map (·.1)=(l1++(nb,s)::l2).map (·.1):=by simp
 rw[e]
 exact h3.re [1,2,0]
theorem A4V{b nb ob ib:Nat}{last k:Int}{A:List V7}{s s':V7}{f:V7→V7}(hk:s.id=k)(hn:(A.map (·.id)).Nodup)(hf:f s=s'):∀h,sat h (cells nb (rqC s' ob ib)::a7 ob s'.out::A07 ib s'.aZ::A3c b last A s nb::R)→sat h (A0q b last (X9 k f A)::R):=by
 subst hk;exact C3x hn hf
theorem A6x{b nb ob ib:Nat}{last:Int}{A:List V7}{s:V7}:∀h,sat h (cells nb (rqC s ob ib)::a7 ob s.out::A07 ib s.aZ::A3c b last A s nb::R)→sat h (A0q b last A::R):=by
 intro h hs
 obtain⟨S,l1,l2,rfl,h1⟩:=A8t.1 (hs.re [3,0,1,2])
 refine A0Y.2 ⟨S,l1++(nb,s)::l2,rfl,?_⟩
 have h2:sat h (rsA nb s::Z9 (fun p=>rsA p.1 p.2) (l1++l2)::cells b #[.int .i64 last,.slice S.a S.len S.cap]::U5 eQ 1 S ((l1++(nb,s)::l2).map (·.1))::R):=B0X.2 ⟨ob,ib,h1.re [3,4,5,2,0,1]⟩
 have h3:sat h (Z9 (fun p=>rsA p.1 p.2) (l1++(nb,s)::l2)::cells b #[.int .i64 last,.slice S.a S.len S.cap]::U5 eQ 1 S ((l1++(nb,s)::l2).map (·.1))::R):=j5.2 h2
 exact h3.re [1,2,0]
theorem C6b{β:Type}{Q':β→Heap→Prop}{M:List (Nat×V7)}{p:Nat×V7}{j:Nat}{t:Tag}{v:t.ty}{f:t.ty→HM β}(hp:p∈M)(hv:∀ob ib,((rqC p.2 ob ib)[j]?).bind t.get=some v)(hw:W L (f v) Q')(hx:Has L (Z9 (fun p=>rsA p.1 p.2) M) L1:=by repeat first|with_reducible exact V0|apply V2):W L (HM.bind (l6 t (Addr.add ⟨p.1,0,none⟩ j)) f) Q':=fun h hs=>by
 obtain⟨R',h1⟩:=A8U hp (hx.s hs)
 obtain⟨ob,ib,h2⟩:=B0X.1 h1
 refine⟨v,?_,hw h hs⟩
 rw[U3,h2.cell j]
 have:=hv ob ib
 cases hc:(rqC p.2 ob ib)[j]? with
 |none=>rw[hc] at this;cases this
 |some u=>rw[hc] at this;exact congrArg some (Tag.bS this)
theorem B28{α:Type}{f:α→Asn}(q:α→Bool):∀{l:List α} {R:List Asn},sat h (Z9 f l::R)→sat h (Z9 f (l.filter q)::R)
 |[],R,hs=>hs
 |x::l,R,hs=>by
  have aa:=l3.1 hs
  by_cases hx:q x=true
  ·rw[G8 hx]
   exact l3.2 (B28 q aa.p1).p1
  ·rw[G0 hx]
   exact B28 q aa.drop
theorem B0Q{α:Type}{M:List α}{i:Nat}(h:i<M.length):M=M.take i++M[i]::M.drop (i+1):=by
 rw[←E1 h,J7]
theorem C2J{b:Nat}{last:Int}{A:List V7}{k:Int}(hl:A.length≤1000)
  (ax:(∀s∈A,s.id≠k)→At (A0q b last A::L1) (Q (.pointer none)))
  (dc:∀s∈A,s.id=k→∀nb ob ib,At (cells nb (rqC s ob ib)::a7 ob s.out::A07 ib s.aZ::A3c b last A s nb::L1) (Q (at0 nb)))
  (hx:Has L (A0q b last A) L1:=by repeat first|with_reducible exact V0|apply V2):FW prog 90 #[at0 b,.int .i64 k] L Q:=by
 refine fun h hs=>B39 (some ⟨b,0,none⟩) k h Q ((?_:W (A0q b last A::L1) _ _) h (hx.s hs))
 clear hs h hx
 delta B7k bn ie ix kc ki lp nn pu wi
 refine A8Y (g:=fun S (M:{M:List (Nat×V7) // M.map (·.2)=A}) R=>cells b #[.int .i64 last,.slice S.a S.len S.cap]::U5 eQ 1 S (M.1.map (·.1))::Z9 (fun p=>rsA p.1 p.2) M.1::R) (fun h R hs=>by
  obtain⟨S,M,hM,h1⟩:=A0Y.1 hs
  exact⟨S,⟨M,hM⟩,h1⟩) fun S M=>?_
 obtain⟨M,hM⟩:=M
 subst hM
 dsimp only
 rw[C2] at hl
 refine Y9 (Y0 (enc:=eQ) (size:=1) (s:=S) (xs:=M.map (·.1))) fun cW=>?_
 rw[C2] at cW
 refine W.loop (γ:=Nat) (fun g s=>s.1=(g:Int)∧g≤M.length∧∀p∈M.take g,p.2.id≠k) (fun g s=>cells b #[.int .i64 last,.slice S.a S.len S.cap]::U5 eQ 1 S (M.map (·.1))::Z9 (fun p=>rsA p.1 p.2) M::L1) (fun g=>M.length-g) 0 ⟨rfl,D1 _,by simp⟩ Sub.rfl ?_
 rintro i s ⟨hi,cK,hn⟩ K k1 k2
 refine W4 ?_
 refine W.load (b:=b) (v:=S) ?_
 by_cases ah:i<M.length
 ·refine X6 (by rw[hi,cW];exact decide_eq_true (by omega)) ?_
  have nM:M[i]∈M:=H3 ah
  have aY:(M.map (·.1))[i]? =some M[i].1:=by simp[B0 ah]
  have bf:i<(M.map (·.1)).length:=by simpa using ah
  have aU:M.take (i+1)=M.take i++[M[i]]:=C7 ah
  have eL:=B0Q ah
  refine W4 ?_
  refine W.load (b:=b) (v:=S) ?_
  refine j4 (enc:=eQ) (xs:=M.map (·.1)) (i:=i) bf (fun a ha=>?_) (he:=hi)
  refine B6F (x:=M[i].1) (v:=some ⟨M[i].1,0,none⟩) ha aY ?_
  refine W4 ?_
  refine C6b (p:=M[i]) (v:=M[i].2.id) nM (fun ob ib=>rfl) ?_
  by_cases hk:M[i].2.id=k
  ·refine X6 (by simpa using hk) ?_
   refine W4 ?_
   refine W.load (b:=b) (v:=S) ?_
   refine j4 (enc:=eQ) (xs:=M.map (·.1)) (i:=i) bf (fun a ha=>?_) (he:=hi)
   refine B6F (x:=M[i].1) (v:=some ⟨M[i].1,0,none⟩) ha aY ?_
   refine U2 (k2 _ _ (W.inr (U2 ?_)))
   clear k1 k2
   intro h hs
   have hy:=dc M[i].2 (B3 nM) hk M[i].1
   generalize M[i]=p at eL hy
   rw[eL] at hs hy
   obtain⟨ob,ib,h2⟩:=B9A hs
   exact hy ob ib h h2
  ·refine W6 (by simpa using hk) ?_
   have gW:=k1 (i+1) (IntKind.wrap .i64 (s.1+1),()) (by omega) ⟨by simp only[hi];rw[V8 (by omega) (by omega)];rfl,ah,fun p hp=>by
    rw[aU] at hp
    rcases C9.1 hp with hp|hp
    ·exact hn p hp
    ·rw[B7.1 hp];exact hk⟩
   exact U2 gW.sub
 ·refine W6 (by rw[hi,cW];exact decide_eq_false (by omega)) (U2 (k2 _ _ (W.inl (U2 ?_))))
  have cG:=ax fun s hs=>by
   obtain⟨p,hp,rfl⟩:=E4.1 hs
   exact hn p (by rw[D6 (by omega)];exact hp)
  exact fun h hs=>cG h (A0Y.2 ⟨S,M,rfl,hs⟩)
theorem C1m{b:Nat}{last:Int}{A:List V7}{s:V7}{k:Int}(hl:A.length≤1000)(hn:(A.map (·.id)).Nodup)(hs:s∈A)(hk:s.id=k)
  (hq:∀nb ob ib,At (cells nb (rqC s ob ib)::a7 ob s.out::A07 ib s.aZ::A3c b last A s nb::L1) (Q (at0 nb)))(hx:Has L (A0q b last A) L1:=by repeat first|with_reducible exact V0|apply V2):FW prog 90 #[at0 b,.int .i64 k] L Q:=
 C2J hl (fun ax=>absurd hk (ax s hs)) (fun s' af gZ=>by rw[A86 (f:=(·.id)) hn af hs (gZ.trans hk.symm)];exact hq) hx
theorem B8z{b:Nat}{last:Int}{A:List V7}{c:B3O}(hl:A.length≤1000)(ca:(A.map (·.aC)).Nodup)
  (ax:ofS c A=none→At (A0q b last A::L1) (Q (.pointer none)))
  (dc:∀s,ofS c A=some s→∀nb ob ib,At (cells nb (rqC s ob ib)::a7 ob s.out::A07 ib s.aZ::A3c b last A s nb::L1) (Q (at0 nb)))
  (hx:Has L (A0q b last A) L1:=by repeat first|with_reducible exact V0|apply V2):FW prog 148 #[at0 b,.string c] L Q:=by
 refine fun h hs=>B2u (some ⟨b,0,none⟩) c h Q ((?_:W (A0q b last A::L1) _ _) h (hx.s hs))
 clear hs h hx
 delta B46 bn ie ix kc kt lp nn pu wi
 refine A8Y (g:=fun S (M:{M:List (Nat×V7) // M.map (·.2)=A}) R=>cells b #[.int .i64 last,.slice S.a S.len S.cap]::U5 eQ 1 S (M.1.map (·.1))::Z9 (fun p=>rsA p.1 p.2) M.1::R) (fun h R hs=>by
  obtain⟨S,M,hM,h1⟩:=A0Y.1 hs
  exact⟨S,⟨M,hM⟩,h1⟩) fun S M=>?_
 obtain⟨M,hM⟩:=M
 subst hM
 dsimp only
 rw[C2] at hl
 refine Y9 (Y0 (enc:=eQ) (size:=1) (s:=S) (xs:=M.map (·.1))) fun cW=>?_
 rw[C2] at cW
 refine W.loop (γ:=Nat) (fun g s=>s.1=(g:Int)∧g≤M.length∧∀p∈M.take g,p.2.aC≠c) (fun g s=>cells b #[.int .i64 last,.slice S.a S.len S.cap]::U5 eQ 1 S (M.map (·.1))::Z9 (fun p=>rsA p.1 p.2) M::L1) (fun g=>M.length-g) 0 ⟨rfl,D1 _,by simp⟩ Sub.rfl ?_
 rintro i s ⟨hi,cK,hn⟩ K k1 k2
 refine W4 ?_
 refine W.load (b:=b) (v:=S) ?_
 by_cases ah:i<M.length
 ·refine X6 (by rw[hi,cW];exact decide_eq_true (by omega)) ?_
  have nM:M[i]∈M:=H3 ah
  have aY:(M.map (·.1))[i]? =some M[i].1:=by simp[B0 ah]
  have bf:i<(M.map (·.1)).length:=by simpa using ah
  have aU:M.take (i+1)=M.take i++[M[i]]:=C7 ah
  have eL:=B0Q ah
  refine W4 ?_
  refine W.load (b:=b) (v:=S) ?_
  refine j4 (enc:=eQ) (xs:=M.map (·.1)) (i:=i) bf (fun a ha=>?_) (he:=hi)
  refine B6F (x:=M[i].1) (v:=some ⟨M[i].1,0,none⟩) ha aY ?_
  refine W4 ?_
  refine C6b (p:=M[i]) (v:=M[i].2.aC) nM (fun ob ib=>rfl) ?_
  by_cases hk:M[i].2.aC=c
  ·refine X6 (by simpa using hk) ?_
   refine W4 ?_
   refine W.load (b:=b) (v:=S) ?_
   refine j4 (enc:=eQ) (xs:=M.map (·.1)) (i:=i) bf (fun a ha=>?_) (he:=hi)
   refine B6F (x:=M[i].1) (v:=some ⟨M[i].1,0,none⟩) ha aY ?_
   refine U2 (k2 _ _ (W.inr (U2 ?_)))
   clear k1 k2
   intro h hs
   have hy:=dc M[i].2 (B1u ca (B3 nM) hk) M[i].1
   generalize M[i]=p at eL hy
   rw[eL] at hs hy
   obtain⟨ob,ib,h2⟩:=B9A hs
   exact hy ob ib h h2
  ·refine W6 (by simpa using hk) ?_
   have gW:=k1 (i+1) (IntKind.wrap .i64 (s.1+1),()) (by omega) ⟨by simp only[hi];rw[V8 (by omega) (by omega)];rfl,ah,fun p hp=>by
    rw[aU] at hp
    rcases C9.1 hp with hp|hp
    ·exact hn p hp
    ·rw[B7.1 hp];exact hk⟩
   exact U2 gW.sub
 ·refine W6 (by rw[hi,cW];exact decide_eq_false (by omega)) (U2 (k2 _ _ (W.inl (U2 ?_))))
  have cG:=ax (E7.2 fun s hs=>by
   obtain⟨p,hp,rfl⟩:=E4.1 hs
   simpa using hn p (by rw[D6 (by omega)];exact hp))
  exact fun h hs=>cG h (A0Y.2 ⟨S,M,rfl,hs⟩)
theorem C2H{b:Nat}{last:Int}{A:List V7}{k:Int}(hl:A.length≤1000)(hq:At (A0q b last (A.filter fun x=>decide (x.id≠k))::L1) (Q (.tuple #[])))(hx:Has L (A0q b last A) L1:=by repeat first|with_reducible exact V0|apply V2):FW prog 189 #[at0 b,.int .i64 k] L Q:=by
 refine fun h hs=>B2t (some ⟨b,0,none⟩) k h Q ((?_:W (A0q b last A::L1) _ _) h (hx.s hs))
 clear hs h hx
 delta B45 az bn ie ix kc ki lp nn nw pu sx vs wi
 refine A8Y (g:=fun S (M:{M:List (Nat×V7) // M.map (·.2)=A}) R=>cells b #[.int .i64 last,.slice S.a S.len S.cap]::U5 eQ 1 S (M.1.map (·.1))::Z9 (fun p=>rsA p.1 p.2) M.1::R) (fun h R hs=>by
  obtain⟨S,M,hM,h1⟩:=A0Y.1 hs
  exact⟨S,⟨M,hM⟩,h1⟩) fun S M=>?_
 obtain⟨M,hM⟩:=M
 subst hM
 dsimp only
 rw[C2] at hl
 refine Y9 (Y0 (enc:=eQ) (size:=1) (s:=S) (xs:=M.map (·.1))) fun cW=>?_
 rw[C2] at cW
 refine B67 eQ 1 (((M.take 0).filter fun x=>decide (x.2.id≠k)).map (·.1)) ?_
 refine W.loop (γ:=Nat) (fun g s=>s.2.1=(g:Int)∧g≤M.length) (fun g s=>U5 eQ 1 s.1 (((M.take g).filter fun x=>decide (x.2.id≠k)).map (·.1))::cells b #[.int .i64 last,.slice S.a S.len S.cap]::U5 eQ 1 S (M.map (·.1))::Z9 (fun p=>rsA p.1 p.2) M::L1) (fun g=>M.length-g) 0 ⟨rfl,D1 _⟩ Sub.rfl ?_
 rintro i s ⟨hi,cK⟩ K k1 k2
 refine W4 ?_
 refine W.load (b:=b) (v:=S) ?_
 by_cases ah:i<M.length
 ·refine X6 (by rw[hi,cW];exact decide_eq_true (by omega)) ?_
  have nM:M[i]∈M:=H3 ah
  have aY:(M.map (·.1))[i]? =some M[i].1:=by simp[B0 ah]
  have bf:i<(M.map (·.1)).length:=by simpa using ah
  have aU:M.take (i+1)=M.take i++[M[i]]:=C7 ah
  have hb:((((M.take i).filter fun x=>decide (x.2.id≠k)).map (·.1)).length+1)*8≤140737488355328:=by
   have:=D4 (fun x:Nat×V7=>decide (x.2.id≠k)) (M.take i)
   rw[E6] at this
   rw[C2]
   omega
  have bx:=fun s'=>k1 (i+1) (s',IntKind.wrap .i64 (s.2.1+1),()) (by omega) ⟨by simp only[hi];rw[V8 (by omega) (by omega)];rfl,ah⟩
  rw[aU,F3,C0] at bx
  clear k1 k2
  refine W4 ?_
  refine W.load (b:=b) (v:=S) ?_
  refine j4 (enc:=eQ) (xs:=M.map (·.1)) (i:=i) bf (fun a ha=>?_) (he:=hi)
  refine B6F (x:=M[i].1) (v:=some ⟨M[i].1,0,none⟩) ha aY ?_
  refine W4 ?_
  refine C6b (p:=M[i]) (v:=M[i].2.id) nM (fun ob ib=>rfl) ?_
  by_cases hk:M[i].2.id=k
  ·refine o0 (by simpa using hk) ?_
   rw[G0 (by simpa using hk),J9,I4,C1] at bx
   exact b6 (U2 (bx s.1).sub)
  ·refine A1k (by simpa using hk) ?_
   rw[G8 (by simpa using hk),J9,B6,I4] at bx
   refine X3 (W4 ?_)
   refine X3 (W.load (b:=b) (v:=S) ?_)
   refine X3 (j4 (enc:=eQ) (xs:=M.map (·.1)) (i:=i) bf (fun a ha=>?_) (he:=hi))
   refine X3 (B6F (x:=M[i].1) (v:=some ⟨M[i].1,0,none⟩) ha aY ?_)
   refine X3 (Y1 fun mw=>?_)
   refine X3 (A9I (b:=mw) (s:=s.1) (enc:=eQ) M[i].1 (fun s'=>?_) hb)
   exact b6 (U2 (bx s').sub)
 ·refine W6 (by rw[hi,cW];exact decide_eq_false (by omega)) (U2 (k2 _ _ ?_))
  have ej:i=M.length:=by omega
  subst ej
  clear k1 k2
  rw[F9]
  refine W4 ?_
  refine A4j (b:=b) (i:=1) (cs':=#[.int .i64 last,.slice s.1.a s.1.len s.1.cap]) ?_
  refine U2 (At.sub (L':=cells b #[.int .i64 last,.slice s.1.a s.1.len s.1.cap]::U5 eQ 1 s.1 ((M.filter fun x=>decide (x.2.id≠k)).map (·.1))::Z9 (fun p=>rsA p.1 p.2) M::L1) ?_)
  intro h hs
  have h1:sat h (Z9 (fun p=>rsA p.1 p.2) (M.filter fun x=>decide (x.2.id≠k))::cells b #[.int .i64 last,.slice s.1.a s.1.len s.1.cap]::U5 eQ 1 s.1 ((M.filter fun x=>decide (x.2.id≠k)).map (·.1))::L1):=B28 _ (hs.re [2,0,1])
  refine hq h (A0Y.2 ⟨s.1,M.filter fun x=>decide (x.2.id≠k),?_,h1.re [1,2,0]⟩)
  rw[R9]
  rfl
theorem C41(hq:∀b,At (A07 b ⟨64,0,[]⟩::L) (Q (at0 b))):FW prog 201 #[.int .i64 64] L Q:=by
 refine fun h hs=>B4d 64 h Q ((?_:W L _ _) h hs)
 clear hs h
 delta B7o az cp nw pu vi
 refine j1 (fun h hs=>B0g hs 64 fun qb h1 aa=>?_)
 refine(At.un (L:=A0J qb ⟨64,0,[]⟩::L) (x:=some ⟨qb,0,none⟩) ?_) h1 aa
 refine Y1 fun b=>?_
 refine W.cY (A:=A07 b ⟨64,0,[]⟩) (B:=cells b #[at0 qb]) (C:=A0J qb ⟨64,0,[]⟩) (fun h hs=>A3d.2 ⟨qb,hs⟩) ?_
 exact U2 (hq b).sub
theorem C40(hq:∀b,At (a7 b ⟨⟨64,0,[]⟩,64,false,[],[]⟩::L) (Q (at0 b))):FW prog 200 #[.int .i64 64] L Q:=fun h hs=>C1f hs 64 fun b h' af=>hq b h' af
theorem C7L{b:Nat}{last:Int}{A:List V7}{k:Int}(hl:A.length≤1000)(hn:(A.map (·.id)).Nodup)(hq:At (A0q b last (A4F k A).2::L1) (Q (.bool (A4F k A).1)))(hx:Has L (A0q b last A) L1:=by repeat first|with_reducible exact V0|apply V2):FW prog 133 #[at0 b,.int .i64 k] L Q:=by
 refine fun h hs=>B4a (some ⟨b,0,none⟩) k h Q ((?_:W (A0q b last A::L1) _ _) h (hx.s hs))
 clear hs h hx
 unfold A4F at hq
 delta B7l cp cx ie kb kp nn pu sx vi
 refine j1 (C2J (b:=b) (last:=last) (A:=A) (k:=k) hl (fun ax=>At.un (x:=none) ?_) (fun s hs hk nb ob ib=>At.un (x:=some ⟨nb,0,none⟩) ?_))
 ·have hg:A46 k A=none:=E7.2 fun s hs=>by simpa using ax s hs
  rw[hg] at hq
  exact X6 rfl (U2 hq)
 ·rw[A3p hn hs hk] at hq
  simp only at hq
  refine W6 rfl ?_
  refine W4 ?_
  refine W.load (b:=nb) (v:=s.on) ?_
  by_cases aP:s.on=false
  ·rw[if_pos aP] at hq
   refine X6 (by rw[aP];rfl) ?_
   refine B0J (A:=A0q b last A) (B:=cells nb (rqC s ob ib)) (C:=a7 ob s.out) (D:=A07 ib s.aZ) (E:=A3c b last A s nb) (fun h hs=>A6x h hs) ?_
   exact U2 hq.sub
  ·rw[if_neg aP] at hq
   have cZ:s.on=true:=by cases hh:s.on with|true=>rfl|false=>exact absurd hh aP
   refine W6 (by rw[cZ];rfl) ?_
   refine W4 ?_
   refine W.store (b:=nb) (cs':=#[.int .i64 s.id,.string s.aC,.bool s.aN,.bool false,at0 ob,at0 ib]) ?_
   refine W4 ?_
   refine W.load (b:=nb) (v:=some ⟨ob,0,none⟩) ?_
   refine W4 ?_
   refine A6g (fun h R=>q7.1) fun pb fl wt=>?_
   refine W.store (b:=ob) (cs':=#[at0 pb,.int .i64 s.out.most,.bool false,.slice fl.a fl.len fl.cap,.slice wt.a wt.len wt.cap]) ?_
   refine B0J (A:=a7 ob (A8e s).out) (B:=cells ob #[at0 pb,.int .i64 s.out.most,.bool false,.slice fl.a fl.len fl.cap,.slice wt.a wt.len wt.cap]) (C:=A0J pb s.out.aV) (D:=U5 A0O 7 fl s.out.aG) (E:=U5 Z6 5 wt s.out.waiting) (fun h hs=>q7.2 ⟨pb,fl,wt,hs⟩) ?_
   refine W4 ?_
   refine W.load (b:=nb) (v:=s.aN) ?_
   refine B0J (A:=A0q b last (X9 k A8e A)) (B:=cells nb #[.int .i64 s.id,.string s.aC,.bool s.aN,.bool false,at0 ob,at0 ib]) (C:=a7 ob (A8e s).out) (D:=A07 ib s.aZ) (E:=A3c b last A s nb) (fun h hs=>A4V (f:=A8e) hk hn rfl h hs) ?_
   by_cases iT:s.aN=true
   ·rw[if_pos iT] at hq
    refine W6 (by rw[iT];rfl) ?_
    exact U2 hq.sub
   ·rw[if_neg iT] at hq
    have nP:s.aN=false:=by cases hh:s.aN with|false=>rfl|true=>exact absurd hh iT
    refine X6 (by rw[nP];rfl) ?_
    have eX:(X9 k A8e A).filter (fun x=>decide (x.id≠k))=A.filter fun x=>decide (x.id≠k):=by
     unfold X9
     rw[R9]
     have e1:A.filter ((fun x:V7=>decide (x.id≠k))∘fun s=>if s.id=k then A8e s else s)=A.filter fun x=>decide (x.id≠k):=L8 fun x _=>by
      simp only[Function.comp]
      split
      ·rfl
      ·rfl
     rw[e1]
     refine(I0 fun x hx=>?_).trans (T5 _)
     have:=(D5.1 hx).2
     rw[if_neg (by simpa using this)];rfl
    refine Z1 (C2H (b:=b) (last:=last) (A:=X9 k A8e A) (k:=k) (by unfold X9;rw[C2];exact hl) (At.bD ?_))
    rw[eX]
    exact U2 hq.sub
theorem B9O{b:Nat}{last:Int}{A:List V7}{c:B3O}{clean aN:Bool}(hsz:c.size≤9223372036854775800)(tG:0≤last)(fa:last<4611686018427387904)(hl:A.length≤100)(hn:(A.map (·.id)).Nodup)(ca:(A.map (·.aC)).Nodup)
  (hq:At (A0q b (v7 last A c clean aN).2.1 (v7 last A c clean aN).2.2::L1) (Q (.tuple #[.int .i64 (v7 last A c clean aN).1.2.1,.bool (v7 last A c clean aN).1.2.2,.int .i64 (v7 last A c clean aN).1.1])))
  (hx:Has L (A0q b last A) L1:=by repeat first|with_reducible exact V0|apply V2):FW prog 150 #[at0 b,.string c,.bool clean,.bool aN] L Q:=by
 refine fun h hs=>B03 (some ⟨b,0,none⟩) c clean aN h Q ((?_:W (A0q b last A::L1) _ _) h (hx.s hs))
 clear hs h hx
 delta B3r az bn cp cx ie kc ki nn nw pu rq sx vi vs wi
 refine Z1 (fun h hs=>B3D hs c hsz ((At.bD (L:=A0q b last A::L1) (x:=(match q8 c with|some n=>((n:Int),true,())|none=>((0:Int),false,()))) ?_ (by cases q8 c<;>rfl) (by cases q8 c<;>rfl)) h hs))
 unfold v7 at hq
 refine A02 (fun r=>r.1= !(decide (a8 c))) (fun K hK=>?_) (fun r hr=>?_)
 ·have key:∀v:Bool,(v=true↔¬a8 c)→v= !(decide (a8 c)):=fun v hv=>by
   by_cases hg:a8 c
   ·cases v
    ·simp[hg]
    ·exact absurd hg (hv.1 rfl)
   ·rw[hv.2 hg];simp[hg]
  cases hf:q8 c with
  |some n=>exact X6 rfl (U2 (hK _ (key true ⟨fun _ hg=>(by have:=hg.1;rw[hf] at this;cases this),fun _=>rfl⟩)))
  |none=>
   refine W6 rfl ?_
   refine A0i (fun g=>U2 (hK _ (key true ⟨fun _ hg=>?_,fun _=>rfl⟩))) (fun g=>U2 (hK _ (key _ ⟨fun rN hg=>?_,fun hg=>?_⟩)))
   ·have hz:c.size=0:=by simpa using g
    exact hg.2.1 (ByteArray.ext (Array.eq_empty_of_size_eq_zero hz))
   ·have:=hg.2.2
    simp only[decide_eq_true_eq] at rN
    omega
   ·have hz:c.size≠0:=by simpa using g
    have he:c≠ByteArray.mk #[]:=fun e=>hz (by rw[e];rfl)
    simp only[decide_eq_true_eq]
    have:¬c.size≤64:=fun h=>hg ⟨hf,he,h⟩
    omega
 by_cases hg:a8 c
 ·rw[if_neg (fun e=>e hg)] at hq
  refine W6 (by rw[hr];simp[hg]) ?_
  have fresh:∀{A':List V7},A'.length≤100→(∀{Q2:(Int×Bool×Int×Unit)→Heap→Prop},At (A0q b (last+1) (A'++[A2w (last+1) c aN])::L1) (Q2 (last+1,false,0,()))→
    W (A0q b last A'::L1) (HM.bind (A77 (some ⟨b,0,none⟩)) fun wm=>HM.bind (l6 (.int .i64) (Addr.add wm 0)) fun mw=>HM.bind (A77 (some ⟨b,0,none⟩)) fun wj=>HM.bind (A6Z (Addr.add wj 0) (.int .i64 (IntKind.wrap .i64 (mw+1)))) fun _=>
     HM.bind (A1s prog (.one .ptr) 200 #[.int .i64 64]) fun fE=>HM.bind (A1s prog (.one .ptr) 201 #[.int .i64 64]) fun we=>HM.bind (A77 (some ⟨b,0,none⟩)) fun rQ=>HM.bind (l6 .slc (Addr.add rQ 1)) fun dz=>
     HM.bind (A77 (some ⟨b,0,none⟩)) fun mm=>HM.bind (l6 (.int .i64) (Addr.add mm 0)) fun wb=>HM.bind (HM.new (.cells #[.int .i64 wb,.string c,.bool aN,.bool true,.pointer fE,.pointer we] 154)) fun pv=>
     HM.bind (l6 .slc (Addr.add rQ 1)) fun lz=>A3t ((.slice lz.a lz.len lz.cap:Value)=.slice dz.a dz.len dz.cap)<|HM.bind (HM.new (.cells #[.pointer (some ⟨pv,0,none⟩)] 150)) fun pq=>
     HM.bind (l6 .slc (Addr.add rQ 1)) fun ml=>A3t ((.slice ml.a ml.len ml.cap:Value)=.slice dz.a dz.len dz.cap)<|HM.bind (HM.append 150 1 8 #[.pointer none] dz 1 (V6 1 (⟨some ⟨pq,0,none⟩,1,1⟩))) fun oB=>
     HM.bind (A77 (some ⟨b,0,none⟩)) fun wa=>HM.bind (A6Z (Addr.add wa 1) (.slice oB.a oB.len oB.cap)) fun _=>HM.bind (A77 (some ⟨b,0,none⟩)) fun vZ=>HM.bind (l6 (.int .i64) (Addr.add vZ 0)) fun po=>W9 (po,false,0,())) Q2):=by
   intro A' gB Q2 ef
   refine A8Y (g:=fun S (M:{M:List (Nat×V7) // M.map (·.2)=A'}) R=>cells b #[.int .i64 last,.slice S.a S.len S.cap]::U5 eQ 1 S (M.1.map (·.1))::Z9 (fun p=>rsA p.1 p.2) M.1::R) (fun h R hs=>by
    obtain⟨S,M,hM,h1⟩:=A0Y.1 hs
    exact⟨S,⟨M,hM⟩,h1⟩) fun S M=>?_
   obtain⟨M,hM⟩:=M
   subst hM
   dsimp only
   rw[C2] at gB
   have hb:((M.map (·.1)).length+1)*8≤140737488355328:=by rw[C2];omega
   have hw:IntKind.wrap .i64 (last+1)=last+1:=V8 (by omega) (by omega)
   refine W4 ?_
   refine W.load (b:=b) (v:=last) ?_
   refine W4 ?_
   rw[hw]
   refine W.store (b:=b) (cs':=#[.int .i64 (last+1),.slice S.a S.len S.cap]) ?_
   refine j1 (C40 (fun ob=>At.un (x:=some ⟨ob,0,none⟩) ?_))
   refine j1 (C41 (fun ib=>At.un (x:=some ⟨ib,0,none⟩) ?_))
   refine W4 ?_
   refine W.load (b:=b) (v:=S) ?_
   refine W4 ?_
   refine W.load (b:=b) (v:=last+1) ?_
   refine Y1 fun nb=>?_
   refine W.load (b:=b) (v:=S) ?_
   refine A1p ?_ rfl
   refine Y1 fun pq=>?_
   refine W.load (b:=b) (v:=S) ?_
   refine A1p ?_ rfl
   refine A9I (b:=pq) (s:=S) (enc:=eQ) nb (fun s'=>?_) hb
   refine W4 ?_
   refine W.store (b:=b) (cs':=#[.int .i64 (last+1),.slice s'.a s'.len s'.cap]) ?_
   refine W4 ?_
   refine W.load (b:=b) (v:=last+1) ?_
   refine B19 (A:=rsA nb (A2w (last+1) c aN)) (B:=cells nb #[.int .i64 (last+1),.string c,.bool aN,.bool true,at0 ob,at0 ib]) (C:=a7 ob ⟨⟨64,0,[]⟩,64,false,[],[]⟩) (D:=A07 ib ⟨64,0,[]⟩) (fun h hs=>B0X.2 ⟨ob,ib,hs⟩) ?_
   refine W.cY (A:=Z9 (fun p=>rsA p.1 p.2) (M++[(nb,A2w (last+1) c aN)])) (B:=Z9 (fun p=>rsA p.1 p.2) M) (C:=rsA nb (A2w (last+1) c aN)) (fun h hs=>A5e.2 (((A3V (f:=fun p:Nat×V7=>rsA p.1 p.2) (x:=(nb,A2w (last+1) c aN))).2 (hs.re [1,0])).re [1,0])) ?_
   refine B19 (A:=A0q b (last+1) (M.map (·.2)++[A2w (last+1) c aN])) (B:=cells b #[.int .i64 (last+1),.slice s'.a s'.len s'.cap]) (C:=U5 eQ 1 s' (M.map (·.1)++[nb])) (D:=Z9 (fun p=>rsA p.1 p.2) (M++[(nb,A2w (last+1) c aN)])) (fun h hs=>A0Y.2 ⟨s',M++[(nb,A2w (last+1) c aN)],by simp,by rw[C0];exact hs⟩) ?_
   exact U2 ef.sub
  refine j1 (B8z (b:=b) (last:=last) (A:=A) (c:=c) (by omega) ca (fun ho=>At.un (x:=none) ?_) (fun s ho nb ob ib=>At.un (x:=some ⟨nb,0,none⟩) ?_))
  ·rw[ho] at hq
   simp only at hq
   refine A02 (fun r=>r.1=false) (fun K hK=>W6 rfl (U2 (hK _ rfl))) (fun r2 cQ=>?_)
   refine W6 cQ ?_
   refine o0 rfl ?_
   refine X3 (W4 ?_)
   refine A8Y (g:=fun S (M:{M:List (Nat×V7) // M.map (·.2)=A}) R=>cells b #[.int .i64 last,.slice S.a S.len S.cap]::U5 eQ 1 S (M.1.map (·.1))::Z9 (fun p=>rsA p.1 p.2) M.1::R) (fun h R hs=>by
    obtain⟨S,M,hM,h1⟩:=A0Y.1 hs
    exact⟨S,⟨M,hM⟩,h1⟩) fun S M=>?_
   obtain⟨M,hM⟩:=M
   subst hM
   dsimp only
   refine Y9 (Y0 (enc:=eQ) (size:=1) (s:=S) (xs:=M.map (·.1))) fun cW=>?_
   rw[C2] at cW
   refine X3 (W.load (b:=b) (v:=S) ?_)
   refine B19 (A:=A0q b last (M.map (·.2))) (B:=cells b #[.int .i64 last,.slice S.a S.len S.cap]) (C:=U5 eQ 1 S (M.map (·.1))) (D:=Z9 (fun p=>rsA p.1 p.2) M) (fun h hs=>A0Y.2 ⟨S,M,rfl,hs⟩) ?_
   by_cases eA:32≤(M.map (·.2)).length
   ·rw[if_pos eA] at hq
    rw[C2] at eA
    refine A1k (by rw[cW];exact decide_eq_true (by omega)) (b6 (W.inr (U2 ?_)))
    exact hq.sub
   ·rw[if_neg eA] at hq
    rw[C2] at eA
    refine o0 (by rw[cW];exact decide_eq_false (by omega)) (b6 (W.inl ?_))
    exact fresh hl hq
  ·rw[ho] at hq
   simp only at hq
   obtain⟨lE,sY⟩:=B1v ho
   refine A02 (fun r=>r.1= !clean) (fun K hK=>X6 rfl (U2 (hK _ rfl))) (fun r2 cQ=>?_)
   by_cases aQ:clean=false
   ·rw[if_pos aQ] at hq
    refine X6 (by rw[cQ,aQ];rfl) ?_
    refine W4 ?_
    refine W.store (b:=nb) (cs':=#[.int .i64 s.id,.string s.aC,.bool s.aN,.bool true,at0 ob,at0 ib]) ?_
    refine W4 ?_
    refine W.store (b:=nb) (cs':=#[.int .i64 s.id,.string s.aC,.bool aN,.bool true,at0 ob,at0 ib]) ?_
    refine W4 ?_
    refine W.load (b:=nb) (v:=s.id) ?_
    refine B0J (A:=A0q b last (X9 s.id (fun s=>{s with on:=true,aN:=aN}) A)) (B:=cells nb #[.int .i64 s.id,.string s.aC,.bool aN,.bool true,at0 ob,at0 ib]) (C:=a7 ob s.out) (D:=A07 ib s.aZ) (E:=A3c b last A s nb) (fun h hs=>A4V (f:=fun s=>{s with on:=true,aN:=aN}) rfl hn rfl h hs) ?_
    exact U2 hq.sub
   ·rw[if_neg aQ] at hq
    have ue:clean=true:=by cases hh:clean with|true=>rfl|false=>exact absurd hh aQ
    refine W6 (by rw[cQ,ue];rfl) ?_
    refine A1k rfl ?_
    refine X3 (W4 ?_)
    refine X3 (W.load (b:=nb) (v:=s.id) ?_)
    refine B0J (A:=A0q b last A) (B:=cells nb (rqC s ob ib)) (C:=a7 ob s.out) (D:=A07 ib s.aZ) (E:=A3c b last A s nb) (fun h hs=>A6x h hs) ?_
    refine X3 (Z1 (C2H (b:=b) (last:=last) (A:=A) (k:=s.id) (by omega) (At.bD ?_)))
    refine b6 (W.inl ?_)
    have cT:(A.filter fun x=>decide (x.id≠s.id)).length≤100:=C4 (D4 _ _) hl
    exact fresh cT hq
 ·rw[if_pos hg] at hq
  refine X6 (by rw[hr];simp[hg]) ?_
  exact U2 hq.sub
theorem B1k{k id c:Int}(hq:∀S:Slc,At (p7 .i64 S [j3 k id c]::L) (Q (.slice S.a S.len S.cap))):FW prog 245 #[.int .i64 k,.int .i64 id,.int .i64 c] L Q:=by
 refine fun h hs=>B0n k id c h Q ((?_:W L _ _) h hs)
 clear hs h
 delta B05 az nw pu ve vi vz
 refine Y1 fun x1=>U2 ?_
 intro h hs
 refine hq ⟨some ⟨x1,0,none⟩,1,1⟩ h ?_
 have h1:sat h (U5 (W8 .i64) 26 ⟨some ⟨x1,0,none⟩,1,1⟩ [pkF (⟨none,0,0⟩,⟨none,0,0⟩,j3 k id c)]::L):=A1D (o:=0) ⟨rfl,D9 _,rfl,by simp,by rfl⟩ hs
 exact A7e.2 ⟨[(⟨none,0,0⟩,⟨none,0,0⟩,j3 k id c)],rfl,(A3V.2 (A3g (o:=j3 k id c) rfl rfl h1)).p1⟩
theorem C7G{b:Nat}{s:s6}{k:Int}(hl:s.used.length≤64)(hq:At (A0J b s::L1) (Q (.bool (decide (k∈s.used)))))(hx:Has L (A0J b s) L1:=by repeat first|with_reducible exact V0|apply V2):FW prog 243 #[at0 b,.int .i64 k] L Q:=fun h hs=>B2k (hx.s hs) hl (hq h (hx.s hs))
theorem C4Z{b:Nat}{s:s6}{k:Int}(ag:s.ok)(hq:At (A0J b ⟨s.most,s.taken,s.used.erase k⟩::L1) (Q (.bool (decide (k∈s.used)))))(hx:Has L (A0J b s) L1:=by repeat first|with_reducible exact V0|apply V2):FW prog 244 #[at0 b,.int .i64 k] L Q:=fun h hs=>B3p (hx.s hs) ag fun h' af=>hq h' af
theorem C3y{b:Nat}{s:s6}{k:Int}(ag:s.ok)(hc:i6 s k=0)(hq:At (A0J b ⟨s.most,s.taken,s.used++[k]⟩::L1) (Q (.int .i64 0)))(hx:Has L (A0J b s) L1:=by repeat first|with_reducible exact V0|apply V2):FW prog 246 #[at0 b,.int .i64 k] L Q:=fun h hs=>B8r (hx.s hs) ag (fun e=>absurd hc e) fun _ h' af=>hq h' af
theorem C6H{f:Nat}{s:s6}{p:Pk}{why:Int}(ag:s.ok)(hq:∀S:Slc,At (A07 f ⟨s.most,s.taken,(l8 s p.1 p.2.2.2.1 p.2.2.2.2.1 why).2.2.2⟩::p7 .i64 S (A3w (l8 s p.1 p.2.2.2.1 p.2.2.2.2.1 why).2.1 p.2.2.2.2.1)::L1)
   (Q (.tuple #[.bool (l8 s p.1 p.2.2.2.1 p.2.2.2.2.1 why).1,.slice S.a S.len S.cap,.int .i64 (l8 s p.1 p.2.2.2.1 p.2.2.2.2.1 why).2.2.1])))(hx:Has L (A07 f s) L1:=by repeat first|with_reducible exact V0|apply V2):
  FW prog 194 #[at0 f,A2s .i64 p,.int .i64 why] L Q:=by
 refine fun h hs=>B2v (some ⟨f,0,none⟩) p why h Q ((?_:W (A07 f s::L1) _ _) h (hx.s hs))
 clear hs h hx
 have hl:s.used.length≤64:=by have:=ag.len;have:=ag.cP;omega
 have rJ:=ag.len
 obtain⟨k,hk⟩:∃k,k=p.1:=⟨_,rfl⟩
 obtain⟨qo,pY⟩:∃q,q=p.2.2.2.1:=⟨_,rfl⟩
 obtain⟨id,hid⟩:∃i,i=p.2.2.2.2.1:=⟨_,rfl⟩
 rw[←hk,←pY,←hid] at hq
 obtain⟨RR,fb⟩:∃RR,RR=l8 s k qo id why:=⟨_,rfl⟩
 rw[←fb] at hq
 have dq:∀a c,RR=(a,none,c,s.used)→At (A07 f s::L1) (Q (.tuple #[.bool a,.slice none 0 0,.int .i64 c])):=fun a c e=>by
  have:=hq ⟨none,0,0⟩
  rw[e] at this
  exact fun h hs=>this h ((A1O hs).re [1,0])
 have aF:∀a kk c u,RR=(a,some (kk,c),0,u)→∀S:Slc,At (A07 f ⟨s.most,s.taken,u⟩::p7 .i64 S [j3 kk id c]::L1) (Q (.tuple #[.bool a,.slice S.a S.len S.cap,.int .i64 0])):=fun a kk c u e S=>by
  have:=hq S
  rw[e] at this
  exact this
 clear hq
 unfold l8 at fb
 delta B47 bn cb cc ci ie ji kc ki kp nn nw pu vi
 refine Y1 fun x1=>?_
 refine W.load (b:=x1) (v:=p.1) ?_
 refine W.load (b:=x1) (v:=p.1) ?_
 rw[←hk]
 refine A02 (fun r=>r.1=decide (k≠3∧k≠6)) (fun K hK=>?_) (fun r hr=>?_)
 ·refine A0i (fun g=>U2 (hK _ ?_)) (fun g=>U2 (hK _ ?_))
  ·have g:k≠3:=by simpa using g
   by_cases e:k=6<;>simp[e,g]
  ·have g:k=3:=by simpa using g
   simp[g]
 by_cases c1:k≠3∧k≠6
 ·rw[if_pos (show y7 k qo id from .inl c1)] at fb
  refine X6 (by rw[hr];exact decide_eq_true c1) ?_
  exact U2 (dq _ _ fb).sub
 refine W6 (by rw[hr];exact decide_eq_false c1) ?_
 clear hr r
 refine A02 (fun r=>r.1=decide (k=3∧(qo<0∨2<qo))) (fun K hK=>?_) (fun r hr=>?_)
 ·refine A0i (fun g=>?_) (fun g=>U2 (hK _ ?_))
  ·have g:k=3:=by simpa using g
   refine W.load (b:=x1) (v:=p.2.2.2.1) ?_
   rw[←pY]
   refine A0i (fun g2=>U2 (hK _ ?_)) (fun g2=>?_)
   ·have g2:qo<0:=by simpa using g2
    simp[g,g2]
   ·have g2:¬qo<0:=by simpa using g2
    refine W.load (b:=x1) (v:=p.2.2.2.1) ?_
    rw[←pY]
    refine U2 (hK _ ?_)
    by_cases e:2<qo<;>simp[e,g,g2]<;>omega
  ·have g:k≠3:=by simpa using g
   simp[g]
 by_cases c2:k=3∧(qo<0∨2<qo)
 ·rw[if_pos (show y7 k qo id from .inr (.inl c2))] at fb
  refine X6 (by rw[hr];exact decide_eq_true c2) ?_
  exact U2 (dq _ _ fb).sub
 refine W6 (by rw[hr];exact decide_eq_false c2) ?_
 clear hr r
 refine A02 (fun r=>r.1=decide (k=3∧qo=0)) (fun K hK=>?_) (fun r hr=>?_)
 ·refine A0i (fun g=>?_) (fun g=>U2 (hK _ ?_))
  ·have g:k=3:=by simpa using g
   refine W.load (b:=x1) (v:=p.2.2.2.1) ?_
   rw[←pY]
   refine U2 (hK _ ?_)
   by_cases e:qo=0<;>simp[e,g]
  ·have g:k≠3:=by simpa using g
   simp[g]
 by_cases c3:k=3∧qo=0
 ·have oK:¬y7 k qo id:=by
   rintro(e|e|e)
   ·exact c1 e
   ·exact c2 e
   ·exact e.1 c3
  rw[if_neg oK,if_pos c3] at fb
  refine X6 (by rw[hr];exact decide_eq_true c3) ?_
  exact U2 (dq _ _ fb).sub
 refine W6 (by rw[hr];exact decide_eq_false c3) ?_
 clear hr r
 refine A02 (fun r=>r.1=decide (id<1∨65535<id)) (fun K hK=>?_) (fun r hr=>?_)
 ·refine W.load (b:=x1) (v:=p.2.2.2.2.1) ?_
  rw[←hid]
  refine A0i (fun g2=>U2 (hK _ ?_)) (fun g2=>?_)
  ·have g2:id<1:=by simpa using g2
   simp[g2]
  ·have g2:¬id<1:=by simpa using g2
   refine W.load (b:=x1) (v:=p.2.2.2.2.1) ?_
   rw[←hid]
   refine U2 (hK _ ?_)
   by_cases e:65535<id<;>simp[e,g2]<;>omega
 by_cases c4:id<1∨65535<id
 ·rw[if_pos (show y7 k qo id from .inr (.inr ⟨c3,c4⟩))] at fb
  refine X6 (by rw[hr];exact decide_eq_true c4) ?_
  exact U2 (dq _ _ fb).sub
 refine W6 (by rw[hr];exact decide_eq_false c4) ?_
 clear hr r
 have oK:¬y7 k qo id:=by
  rintro(e|e|e)
  ·exact c1 e
  ·exact c2 e
  ·exact c4 e.2
 rw[if_neg oK,if_neg c3] at fb
 clear oK
 refine W4 ?_
 refine A2m (fun h R=>A3d.1) fun qb=>?_
 refine W.load (b:=f) (v:=some ⟨qb,0,none⟩) ?_
 refine W.load (b:=x1) (v:=p.2.2.2.2.1) ?_
 rw[←hid]
 refine j1 (C7G (b:=qb) (s:=s) (k:=id) hl (At.un ?_))
 by_cases c6:k=6
 ·rw[if_pos c6] at fb
  refine X6 (by simpa using c6) ?_
  refine C4s (fun r=>r.1=if id∈s.used then 0 else 146) (fun _=>A07 f ⟨s.most,s.taken,s.used.erase id⟩::cells x1 (aS2 p)::L1) (fun K hK=>?_) (fun r hr=>?_)
  ·by_cases ed:id∈s.used
   ·rw[if_pos ed] at hK
    refine X6 (decide_eq_true ed) ?_
    refine W4 ?_
    refine W.load (b:=f) (v:=some ⟨qb,0,none⟩) ?_
    refine W.load (b:=x1) (v:=p.2.2.2.2.1) ?_
    rw[←hid]
    refine j1 (C4Z (b:=qb) (s:=s) (k:=id) ag (At.un ?_))
    refine W.cY (A:=A07 f ⟨s.most,s.taken,s.used.erase id⟩) (B:=cells f #[at0 qb]) (C:=A0J qb ⟨s.most,s.taken,s.used.erase id⟩) (fun h hs=>A3d.2 ⟨qb,hs⟩) ?_
    exact U2 (hK _ rfl).sub
   ·rw[if_neg ed,List.erase_of_not_mem ed] at hK
    refine W6 (decide_eq_false ed) ?_
    refine W.cY (A:=A07 f ⟨s.most,s.taken,s.used⟩) (B:=cells f #[at0 qb]) (C:=A0J qb s) (fun h hs=>A3d.2 ⟨qb,hs⟩) ?_
    exact U2 (hK _ rfl).sub
  ·obtain⟨cc,_⟩:=r
   simp only at hr
   refine W.load (b:=x1) (v:=p.2.2.2.2.1) ?_
   rw[←hid]
   refine j1 (B1k (k:=7) (id:=id) (c:=cc) (fun S=>At.un (x:=S) ?_))
   rw[←hr] at fb
   exact U2 (aF _ _ _ _ fb S).sub
 rw[if_neg c6] at fb
 refine W6 (by simpa using c6) ?_
 refine W.load (b:=x1) (v:=p.2.2.2.1) ?_
 rw[←pY]
 by_cases c7:qo=1
 ·rw[if_pos c7] at fb
  refine X6 (by simpa using c7) ?_
  refine W.load (b:=x1) (v:=p.2.2.2.2.1) ?_
  rw[←hid]
  refine j1 (B1k (k:=4) (id:=id) (c:=why) (fun S=>At.un (x:=S) ?_))
  refine W.cY (A:=A07 f ⟨s.most,s.taken,s.used⟩) (B:=cells f #[at0 qb]) (C:=A0J qb s) (fun h hs=>A3d.2 ⟨qb,hs⟩) ?_
  exact U2 (aF _ _ _ _ fb S).sub
 rw[if_neg c7] at fb
 refine W6 (by simpa using c7) ?_
 by_cases c8:id∈s.used
 ·rw[if_pos c8] at fb
  refine X6 (decide_eq_true c8) ?_
  refine W.load (b:=x1) (v:=p.2.2.2.2.1) ?_
  rw[←hid]
  refine j1 (B1k (k:=5) (id:=id) (c:=0) (fun S=>At.un (x:=S) ?_))
  refine W.cY (A:=A07 f ⟨s.most,s.taken,s.used⟩) (B:=cells f #[at0 qb]) (C:=A0J qb s) (fun h hs=>A3d.2 ⟨qb,hs⟩) ?_
  exact U2 (aF _ _ _ _ fb S).sub
 rw[if_neg c8] at fb
 refine W6 (decide_eq_false c8) ?_
 refine W4 ?_
 refine W.load (b:=f) (v:=some ⟨qb,0,none⟩) ?_
 refine W4 ?_
 refine A2m (fun h R=>A1K.1) fun sl=>?_
 refine Y9 (Y0 (enc:=eI) (size:=1) (s:=sl) (xs:=Z2 s.used)) fun cW=>?_
 have wO:(Z2 s.used).length=s.used.length:=by unfold Z2;exact O9 _
 rw[wO] at cW
 refine W.load (b:=qb) (v:=sl) ?_
 refine W4 ?_
 refine W.load (b:=f) (v:=some ⟨qb,0,none⟩) ?_
 refine W4 ?_
 refine W.load (b:=qb) (v:=s.most) ?_
 refine W.cY (A:=A0J qb s) (B:=cells qb #[.int .i64 s.most,.int .i64 s.taken,.slice sl.a sl.len sl.cap]) (C:=U5 eI 1 sl (Z2 s.used)) (fun h hs=>A1K.2 ⟨sl,hs⟩) ?_
 by_cases c9:(s.used.length:Int)=s.most
 ·rw[if_pos c9] at fb
  refine X6 (by rw[cW];exact decide_eq_true (by omega)) ?_
  refine W.cY (A:=A07 f s) (B:=cells f #[at0 qb]) (C:=A0J qb s) (fun h hs=>A3d.2 ⟨qb,hs⟩) ?_
  exact U2 (dq _ _ fb).sub
 rw[if_neg c9] at fb
 refine W6 (by rw[cW];exact decide_eq_false (by omega)) ?_
 refine W.cut (fun _=>A07 f ⟨s.most,s.taken,if why<128 then s.used++[id] else s.used⟩::cells x1 (aS2 p)::L1) (fun K hK=>?_) (fun _=>?_)
 ·by_cases hw:why<128
  ·rw[if_pos hw] at hK
   refine X6 (decide_eq_true hw) ?_
   refine W4 ?_
   refine W.load (b:=f) (v:=some ⟨qb,0,none⟩) ?_
   refine W.load (b:=x1) (v:=p.2.2.2.2.1) ?_
   rw[←hid]
   refine j1 (C3y (b:=qb) (s:=s) (k:=id) ag ?_ (At.un ?_))
   ·unfold i6
    simp[c4,c8,c9]
   refine W.cY (A:=A07 f ⟨s.most,s.taken,s.used++[id]⟩) (B:=cells f #[at0 qb]) (C:=A0J qb ⟨s.most,s.taken,s.used++[id]⟩) (fun h hs=>A3d.2 ⟨qb,hs⟩) ?_
   exact U2 (hK ()).sub
  ·rw[if_neg hw] at hK
   refine W6 (decide_eq_false hw) ?_
   refine W.cY (A:=A07 f ⟨s.most,s.taken,s.used⟩) (B:=cells f #[at0 qb]) (C:=A0J qb s) (fun h hs=>A3d.2 ⟨qb,hs⟩) ?_
   exact U2 (hK ()).sub
 refine W.load (b:=x1) (v:=p.2.2.2.2.1) ?_
 rw[←hid]
 refine j1 (B1k (k:=5) (id:=id) (c:=why) (fun S=>At.un (x:=S) ?_))
 exact U2 (aF _ _ _ _ fb S).sub
theorem B9C{b:Nat}{o:Z5}{m:MsT}(ag:X0 o)(hq:∀S:Slc,At (a7 b (Y3 o m).1.1::p7 .i64 S (Y3 o m).1.2::L1) (Q (.tuple #[.slice S.a S.len S.cap,.int .i64 (Y3 o m).2])))(hx:Has L (a7 b o) L1:=by repeat first|with_reducible exact V0|apply V2):
  FW prog 139 #[at0 b,vMs m] L Q:=fun h hs=>B9D (hx.s hs) ag fun S h' af=>hq S h' af
theorem C3A{b:Nat}{o:Z5}{most:Int}(ag:X0 o)(hq:∀S:Slc,At (a7 b (A0k o most).1::p7 .i64 S (A0k o most).2::L1) (Q (.slice S.a S.len S.cap)))(hx:Has L (a7 b o) L1:=by repeat first|with_reducible exact V0|apply V2):
  FW prog 151 #[at0 b,.int .i64 most] L Q:=fun h hs=>B8t (hx.s hs) ag fun S h' af=>hq S h' af
theorem C6F{b:Nat}{o:Z5}{p:Pk}(ag:X0 o)(hq:∀S:Slc,At (a7 b (A0V o p.1 p.2.2.2.2.1 p.2.2.2.2.2.2.2.1).1.1::p7 .i64 S (A0V o p.1 p.2.2.2.2.1 p.2.2.2.2.2.2.2.1).1.2::L1) (Q (.tuple #[.slice S.a S.len S.cap,.int .i64 (A0V o p.1 p.2.2.2.2.1 p.2.2.2.2.2.2.2.1).2])))
  (hx:Has L (a7 b o) L1:=by repeat first|with_reducible exact V0|apply V2):FW prog 142 #[at0 b,A2s .i64 p] L Q:=fun h hs=>C1g (hx.s hs) ag fun S h' af=>hq S h' af
theorem C2F{S:Slc}{pl:List p9}{id:Int}(hn:pl.length≤1000)(hq:At (U5 X1 4 S pl::L1) (Q (.tuple #[.agg (X1 ((A0R id pl).getD (0,0,e0S,e0S))).toArray,.bool (A0R id pl).isSome])))
  (hx:Has L (U5 X1 4 S pl) L1:=by repeat first|with_reducible exact V0|apply V2):FW prog 149 #[.slice S.a S.len S.cap,.int .i64 id] L Q:=by
 refine fun h hs=>B2D S id h Q ((?_:W (U5 X1 4 S pl::L1) _ _) h (hx.s hs))
 clear hs h hx
 delta B5f az bn g8 ie ix ki nw pu sn ve vi wi
 refine Y1 fun x1=>?_
 refine Y9 (Y0 (enc:=X1) (size:=4) (s:=S) (xs:=pl)) fun hl=>?_
 refine W.loop (γ:=Nat) (fun g s=>s.1=(g:Int)∧g≤pl.length∧A0R id (pl.take g)=none) (fun g s=>cells x1 zS8::U5 X1 4 S pl::L1) (fun g=>pl.length-g) 0 ⟨rfl,D1 _,rfl⟩ Sub.rfl ?_
 rintro i s ⟨hi,cK,hf⟩ K k1 k2
 by_cases ah:i<pl.length
 ·refine X6 (by rw[hi,hl];exact decide_eq_true (by omega)) ?_
  have aY:pl[i]? =some pl[i]:=B0 ah
  have aU:pl.take (i+1)=pl.take i++[pl[i]]:=C7 ah
  have eL:pl=pl.take i++pl[i]::pl.drop (i+1):=by rw[←E1 ah,J7]
  generalize pl[i]=u at aY aU eL
  refine j4 (enc:=X1) (xs:=pl) (i:=i) ah (fun a ha=>?_) (he:=hi)
  refine A4r (k:=0) (x:=u) (v:=u.1) ha aY ?_
  by_cases hu:u.1=id
  ·refine X6 (by simpa using hu) ?_
   refine j4 (enc:=X1) (xs:=pl) (i:=i) ah (fun a ha=>?_) (he:=hi)
   refine B3d (x:=u) (v:=prU u) ha aY ?_
   refine y8 (b:=x1) ?_
   refine r7 (b:=x1) (v:=prU u) ?_
   refine U2 (k2 _ _ (W.inr (U2 ?_)))
   have tS:A0R id pl=some u:=by
    rw[eL];unfold A0R at hf⊢
    rw[P5,hf,Option.none_or,R6 (by simpa using hu)]
   rw[tS] at hq
   exact hq.sub
  ·refine W6 (by simpa using hu) ?_
   have f1:IntKind.wrap .i64 (s.1+1)=((i+1:Nat):Int):=by rw[hi,V8 (by omega) (by omega)];rfl
   have f2:A0R id (pl.take (i+1))=none:=by
    rw[aU];unfold A0R at hf⊢
    rw[P5,hf,Option.none_or,List.find?_cons_of_neg (by simpa using hu)];rfl
   have hn:=k1 (i+1) (IntKind.wrap .i64 (s.1+1),()) (by omega) ⟨f1,ah,f2⟩
   exact U2 hn.sub
 ·refine W6 (by rw[hi,hl];exact decide_eq_false (by omega)) (U2 (k2 _ _ (W.inl ?_)))
  have ej:i=pl.length:=by omega
  subst ej
  rw[F9] at hf
  rw[hf] at hq
  refine y8 (b:=x1) ?_
  refine r7 (b:=x1) (v:=prU (0,0,e0S,e0S)) ?_
  exact U2 hq.sub
end
section
open Go.H Go.Proofs
variable {h h0:Heap} {L L' L1 L2 L3 L4 R:List Asn} {Q:Value→Heap→Prop}
abbrev A0b(x:X2):C9P:=[.int .i64 x.c,.int .i64 x.aD,.bool x.bE,.string x.aX.1,.string x.aX.2.1,.int .i64 x.aX.2.2.1,.bool x.aX.2.2.2.1,.string x.aX.2.2.2.2]
instance:Enc A0b 8:=⟨fun _=>rfl,fun x v hv=>by
 have:(A0b x).all (fun v=>v.oneCell')=true:=rfl
 exact J1.1 this v hv,by decide⟩
abbrev rcU(x:X2):Int×Int×Bool×B3O×B3O×Int×Bool×B3O×Unit:=(x.c,x.aD,x.bE,x.aX.1,x.aX.2.1,x.aX.2.2.1,x.aX.2.2.2.1,x.aX.2.2.2.2,())
structure A8Z(O:Slc→List l4→Asn):Prop where
 app:∀{β:Type} {s:Slc} {os:List l4} {o:l4} {c p:Slc} {elem:TypeId} {b:Nat} {cs:C9O} {zero:C9O} {f:Slc→HM β} {Q':β→Heap→Prop} {L L1 L2 L3:List Asn},
  (∀s',W (O s' (os++[o])::L3) (f s') Q')→(os.length+1)*344≤140737488355328→Has L (O s os) L1→Has L1 (pkB .i64 (c,p,o.pk)) L2→Has L2 (cells b cs) L3→cs=(A0K .i64 (o.conn,pkT o.pk c p,o.close)).toArray→zero.size=28→
  W L (HM.bind (HM.append elem 28 344 zero s 1 (V6 28 ⟨some ⟨b,0,none⟩,1,1⟩)) f) Q'
theorem A35:A8Z (V9 .i64):=⟨fun hw hb hx hy hc he hz=>C8x hw hb hx hy hc he hz (by decide)⟩
def A8z(i:Nat)(c p:Slc)(pk:PkO)(s:Slc)(os:List l4):Asn:=exA fun T:List (Slc×Slc×l4)=>star (pr (T.map (·.2.2)=os∧∃x,T[i]? =some (c,p,x)∧x.pk=pk)) (star (U5 (A0K .i64) 28 s (T.map ouF)) (Z9 (ouB .i64) (T.eraseIdx i)))
theorem A84{i:Nat}{c p s:Slc}{pk:PkO}{os:List l4}:sat h (A8z i c p pk s os::R)↔∃T:List (Slc×Slc×l4),(T.map (·.2.2)=os∧∃x,T[i]? =some (c,p,x)∧x.pk=pk)∧sat h (U5 (A0K .i64) 28 s (T.map ouF)::Z9 (ouB .i64) (T.eraseIdx i)::R):=by
 unfold A8z
 rw[sat.bA]
 simp only[sat.aI,sat.bC]
theorem C1q{i:Nat}{c p s:Slc}{pk:PkO}{os:List l4}:∀h,sat h (A8z i c p pk s os::pkB .i64 (c,p,pk)::R)→sat h (V9 .i64 s os::R):=fun h hs=>by
 obtain⟨T,⟨rfl,x,hx,rfl⟩,h1⟩:=A84.1 hs
 refine A2v.2 ⟨T,rfl,?_⟩
 have ah:i<T.length:=(E0.1 hx).1
 have pI:T[i]=(c,p,x):=(E0.1 hx).2
 have eL:=B0Q ah
 rw[pI] at eL
 rw[List.eraseIdx_eq_take_drop_succ] at h1
 have h2:sat h (Z9 (ouB .i64) (T.take i++(c,p,x)::T.drop (i+1))::U5 (A0K .i64) 28 s (T.map ouF)::R):=j5.2 (h1.re [2,1,0])
 rw[←eL] at h2
 exact h2.re [1,0]
theorem C7M{i:Nat}{c p:Slc}{pk:PkO}:A8Z (A8z i c p pk):=⟨fun{β s os o c' p' elem b cs zero f Q' L L1 L2 L3} hw hb hx hy hc he hz h hs=>by
 obtain⟨X,⟨rfl,x,fe,iC⟩,h1⟩:=A84.1 ((hx.cV hy hc).s hs)
 have ah:i<X.length:=(E0.1 fe).1
 have hlen:(X.map ouF).length=(X.map (·.2.2)).length:=by simp
 refine A9I (L:=U5 (A0K .i64) 28 s (X.map ouF)::cells b cs::Z9 (ouB .i64) (X.eraseIdx i)::pkB .i64 (c',p',o.pk)::L3) (xs:=X.map ouF) (enc:=A0K .i64) ((o.conn,pkT o.pk c' p',o.close):OuT) (fun s'=>?_) (by rw[hlen];exact hb) V0 V0 he hz (by decide) h (h1.re [0,3,1,2])
 intro h' af
 refine hw s' h' (A84.2 ⟨X++[(c',p',o)],⟨by simp,x,by rw[List.getElem?_append_left ah];exact fe,iC⟩,?_⟩)
 rw[C0,List.eraseIdx_append_of_lt_length ah]
 exact(A5e.2 (((A3V (f:=ouB .i64) (x:=(c',p',o))).2 (af.re [2,0,1])).re [2,0,1])).p1⟩
theorem C9F{β:Type}{s:Slc}{os:List l4}{o:l4}{c p:Slc}{elem:TypeId}{b:Nat}{cs:C9O}{zero:C9O}{f:Slc→HM β}{Q':β→Heap→Prop}
  (hw:∀s',W (A8z os.length c p o.pk s' (os++[o])::L3) (f s') Q')(hb:(os.length+1)*344≤140737488355328)(hx:Has L (V9 .i64 s os) L1:=by repeat first|with_reducible exact V0|apply V2)(hc:Has L1 (cells b cs) L3:=by repeat first|with_reducible exact V0|apply V2)
  (he:cs=(A0K .i64 (o.conn,pkT o.pk c p,o.close)).toArray:=by rfl)(hz:zero.size=28:=by rfl):
  W L (HM.bind (HM.append elem 28 344 zero s 1 (V6 28 ⟨some ⟨b,0,none⟩,1,1⟩)) f) Q':=fun h hs=>by
 obtain⟨X,rfl,h1⟩:=A2v.1 ((hx.then hc).s hs)
 have hlen:(X.map ouF).length=(X.map (·.2.2)).length:=by simp
 refine A9I (L:=U5 (A0K .i64) 28 s (X.map ouF)::cells b cs::Z9 (ouB .i64) X::L3) (xs:=X.map ouF) (enc:=A0K .i64) ((o.conn,pkT o.pk c p,o.close):OuT) (fun s'=>?_) (by rw[hlen];exact hb) V0 V0 he hz (by decide) h (h1.re [0,2,1])
 intro h' af
 have hl:(X.map (·.2.2)).length=X.length:=C2 ..
 refine hw s' h' (A84.2 ⟨X++[(c,p,o)],⟨by simp,o,by rw[hl];simp,rfl⟩,?_⟩)
 rw[C0,hl,List.eraseIdx_append_of_length_le (D9 _)]
 simpa using af
structure RbP where
 tb:Nat
 sb:Nat
 kb:Nat
 sc:Slc
 so:Slc
 sp:Slc
abbrev rbC(p:RbP)(full:Bool):C9O:=#[at0 p.tb,at9 p.sb,B1m p.kb,.slice p.sc.a p.sc.len p.sc.cap,.bool full,.slice p.so.a p.so.len p.so.cap,.slice p.sp.a p.sp.len p.sp.cap]
abbrev B4w:=Nat→Int→List V7→Asn
abbrev B1j(r:Nat)(full:Bool)(X:B4w)(O:Slc→List l4→Asn)(T:U7)(p:RbP)(R:List Asn):List Asn:=cells r (rbC p full)::O p.so T.outs::U5 Z6 5 p.sp T.aT::U5 A0b 8 p.sc T.b.aB::X p.tb T.b.last T.b.aD::A0D p.sb T.b.aH::A1N p.kb 64 T.b.kept::R
abbrev rbL(r:Nat)(full:Bool)(O:Slc→List l4→Asn)(T:U7)(p:RbP)(R:List Asn):List Asn:=cells r (rbC p full)::O p.so T.outs::U5 Z6 5 p.sp T.aT::U5 A0b 8 p.sc T.b.aB::A0q p.tb T.b.last T.b.aD::A0D p.sb T.b.aH::A1N p.kb 64 T.b.kept::R
def rbX(r:Nat)(full:Bool)(X:B4w)(O:Slc→List l4→Asn)(T:U7):Asn:=exA fun p:RbP=>A0Q [cells r (rbC p full),O p.so T.outs,U5 Z6 5 p.sp T.aT,U5 A0b 8 p.sc T.b.aB,X p.tb T.b.last T.b.aD,A0D p.sb T.b.aH,A1N p.kb 64 T.b.kept]
abbrev rbA(r:Nat)(full:Bool)(O:Slc→List l4→Asn)(T:U7):Asn:=rbX r full A0q O T
theorem A0w{r:Nat}{full:Bool}{X:B4w}{O:Slc→List l4→Asn}{T:U7}:sat h (rbX r full X O T::R)↔∃p:RbP,sat h (B1j r full X O T p R):=by
 unfold rbX
 rw[sat.bA]
 simp only[sat.bV]
 rfl
theorem A0L{r:Nat}{full:Bool}{O:Slc→List l4→Asn}{T:U7}:sat h (rbA r full O T::R)↔∃p:RbP,sat h (rbL r full O T p R):=A0w
theorem W.dY{α:Type}{m:HM α}{Q':α→Heap→Prop}{r:Nat}{full:Bool}{X:B4w}{O:Slc→List l4→Asn}{M1 M2 M3 M4 M5 M6 M7:List Asn}(T:U7)(p:RbP)(hw:W (rbX r full X O T::M7) m Q')
  (h1:Has L (cells r (rbC p full)) M1:=by repeat first|with_reducible exact V0|apply V2)(h2:Has M1 (O p.so T.outs) M2:=by repeat first|with_reducible exact V0|apply V2)(h3:Has M2 (U5 Z6 5 p.sp T.aT) M3:=by repeat first|with_reducible exact V0|apply V2)(h4:Has M3 (U5 A0b 8 p.sc T.b.aB) M4:=by repeat first|with_reducible exact V0|apply V2)(h5:Has M4 (X p.tb T.b.last T.b.aD) M5:=by repeat first|with_reducible exact V0|apply V2)(h6:Has M5 (A0D p.sb T.b.aH) M6:=by repeat first|with_reducible exact V0|apply V2)(h7:Has M6 (A1N p.kb 64 T.b.kept) M7:=by repeat first|with_reducible exact V0|apply V2):W L m Q':=fun h hs=>
 hw h (A0w.2 ⟨p,(Sub.cons h1 (Sub.cons h2 (Sub.cons h3 (Sub.cons h4 (Sub.cons h5 (Sub.cons h6 (Sub.cons h7 Sub.rfl))))))).s hs⟩)
theorem W.rb{α:Type}{m:HM α}{Q':α→Heap→Prop}{r:Nat}{full:Bool}{O:Slc→List l4→Asn}{M1 M2 M3 M4 M5 M6 M7:List Asn}(T:U7)(p:RbP)(hw:W (rbA r full O T::M7) m Q')
  (h1:Has L (cells r (rbC p full)) M1:=by repeat first|with_reducible exact V0|apply V2)(h2:Has M1 (O p.so T.outs) M2:=by repeat first|with_reducible exact V0|apply V2)(h3:Has M2 (U5 Z6 5 p.sp T.aT) M3:=by repeat first|with_reducible exact V0|apply V2)(h4:Has M3 (U5 A0b 8 p.sc T.b.aB) M4:=by repeat first|with_reducible exact V0|apply V2)(h5:Has M4 (A0q p.tb T.b.last T.b.aD) M5:=by repeat first|with_reducible exact V0|apply V2)(h6:Has M5 (A0D p.sb T.b.aH) M6:=by repeat first|with_reducible exact V0|apply V2)(h7:Has M6 (A1N p.kb 64 T.b.kept) M7:=by repeat first|with_reducible exact V0|apply V2):W L m Q':=fun h hs=>
 hw h (A0w.2 ⟨p,(Sub.cons h1 (Sub.cons h2 (Sub.cons h3 (Sub.cons h4 (Sub.cons h5 (Sub.cons h6 (Sub.cons h7 Sub.rfl))))))).s hs⟩)
theorem At.dY{q:Heap→Prop}{r:Nat}{full:Bool}{X:B4w}{O:Slc→List l4→Asn}{M1 M2 M3 M4 M5 M6 M7:List Asn}(T:U7)(p:RbP)(hw:At (rbX r full X O T::M7) q)
  (h1:Has L (cells r (rbC p full)) M1:=by repeat first|with_reducible exact V0|apply V2)(h2:Has M1 (O p.so T.outs) M2:=by repeat first|with_reducible exact V0|apply V2)(h3:Has M2 (U5 Z6 5 p.sp T.aT) M3:=by repeat first|with_reducible exact V0|apply V2)(h4:Has M3 (U5 A0b 8 p.sc T.b.aB) M4:=by repeat first|with_reducible exact V0|apply V2)(h5:Has M4 (X p.tb T.b.last T.b.aD) M5:=by repeat first|with_reducible exact V0|apply V2)(h6:Has M5 (A0D p.sb T.b.aH) M6:=by repeat first|with_reducible exact V0|apply V2)(h7:Has M6 (A1N p.kb 64 T.b.kept) M7:=by repeat first|with_reducible exact V0|apply V2):At L q:=fun h hs=>
 hw h (A0w.2 ⟨p,(Sub.cons h1 (Sub.cons h2 (Sub.cons h3 (Sub.cons h4 (Sub.cons h5 (Sub.cons h6 (Sub.cons h7 Sub.rfl))))))).s hs⟩)
theorem At.rb{q:Heap→Prop}{r:Nat}{full:Bool}{O:Slc→List l4→Asn}{M1 M2 M3 M4 M5 M6 M7:List Asn}(T:U7)(p:RbP)(hw:At (rbA r full O T::M7) q)
  (h1:Has L (cells r (rbC p full)) M1:=by repeat first|with_reducible exact V0|apply V2)(h2:Has M1 (O p.so T.outs) M2:=by repeat first|with_reducible exact V0|apply V2)(h3:Has M2 (U5 Z6 5 p.sp T.aT) M3:=by repeat first|with_reducible exact V0|apply V2)(h4:Has M3 (U5 A0b 8 p.sc T.b.aB) M4:=by repeat first|with_reducible exact V0|apply V2)(h5:Has M4 (A0q p.tb T.b.last T.b.aD) M5:=by repeat first|with_reducible exact V0|apply V2)(h6:Has M5 (A0D p.sb T.b.aH) M6:=by repeat first|with_reducible exact V0|apply V2)(h7:Has M6 (A1N p.kb 64 T.b.kept) M7:=by repeat first|with_reducible exact V0|apply V2):At L q:=fun h hs=>
 hw h (A0w.2 ⟨p,(Sub.cons h1 (Sub.cons h2 (Sub.cons h3 (Sub.cons h4 (Sub.cons h5 (Sub.cons h6 (Sub.cons h7 Sub.rfl))))))).s hs⟩)
theorem B4x{r:Nat}{full:Bool}{X:B4w}{O:Slc→List l4→Asn}{T:U7}{c:Int}{o:PkO}{ci pi:Slc}(hO:A8Z O)(hb:T.outs.length≤100000000)(hq:At (rbX r full X O (A0s ⟨c,o,false⟩ T)::L2) (Q (.tuple #[])))
  (hx:Has L (rbX r full X O T) L1:=by repeat first|with_reducible exact V0|apply V2)(hy:Has L1 (pkB .i64 (ci,pi,o)) L2:=by repeat first|with_reducible exact V0|apply V2):FW prog 146 #[at0 r,.int .i64 c,A2s .i64 (pkT o ci pi)] L Q:=by
 refine fun h hs=>A6B (some ⟨r,0,none⟩) c (pkT o ci pi) h Q ((?_:W (rbX r full X O T::pkB .i64 (ci,pi,o)::L2) _ _) h ((hx.then hy).s hs))
 clear hs h hx hy
 have dy:(T.outs.length+1)*344≤140737488355328:=by omega
 delta B0j az bn g2 kc nn nw pu rq sx ve vi vs vz w10 w11 w12 w13 w14 w15 w16 w17 w18 w19 w20 w21 w22 w23 w24 w25 w5 w6 w7 w8 w9
 refine Y1 fun x1=>?_
 refine W4 ?_
 refine A2m (g:=fun p R=>B1j r full X O T p R) (fun h R=>A0w.1) fun p=>?_
 refine e8 (b:=r) (i:=5) (v:=p.so) ?_
 refine r7 (b:=x1) (v:=pkT o ci pi) ?_
 refine Y1 fun x5=>?_
 refine e8 (b:=r) (i:=5) (v:=p.so) ?_
 refine A1p ?_ rfl
 refine hO.app (s:=p.so) (os:=T.outs) (o:=⟨c,o,false⟩) (c:=ci) (p:=pi) (b:=x5) (fun s'=>?_) dy (by repeat first|with_reducible exact V0|apply V2) (by repeat first|with_reducible exact V0|apply V2) (by repeat first|with_reducible exact V0|apply V2) (by rfl) (by rfl)
 refine W4 ?_
 refine A4j (b:=r) (i:=5) (cs':=rbC ⟨p.tb,p.sb,p.kb,p.sc,s',p.sp⟩ full) ?_
 refine W.dY (X:=X) (O:=O) (A0s ⟨c,o,false⟩ T) ⟨p.tb,p.sb,p.kb,p.sc,s',p.sp⟩ ?_
 exact U2 hq.sub
theorem B8p{r:Nat}{full:Bool}{X:B4w}{O:Slc→List l4→Asn}{T:U7}{c:Int}{o:PkO}{ci pi:Slc}(hO:A8Z O)(hb:T.outs.length≤100000000)(hq:At (rbX r full X O (A0s ⟨c,o,true⟩ T)::L2) (Q (.tuple #[])))
  (hx:Has L (rbX r full X O T) L1:=by repeat first|with_reducible exact V0|apply V2)(hy:Has L1 (pkB .i64 (ci,pi,o)) L2:=by repeat first|with_reducible exact V0|apply V2):FW prog 93 #[at0 r,.int .i64 c,A2s .i64 (pkT o ci pi)] L Q:=by
 refine fun h hs=>B2o (some ⟨r,0,none⟩) c (pkT o ci pi) h Q ((?_:W (rbX r full X O T::pkB .i64 (ci,pi,o)::L2) _ _) h ((hx.then hy).s hs))
 clear hs h hx hy
 have dy:(T.outs.length+1)*344≤140737488355328:=by omega
 delta B40 az bn g2 kc nn nw pu rq sx ve vi vs vz w10 w11 w12 w13 w14 w15 w16 w17 w18 w19 w20 w21 w22 w23 w24 w25 w5 w6 w7 w8 w9
 refine Y1 fun x1=>?_
 refine W4 ?_
 refine A2m (g:=fun p R=>B1j r full X O T p R) (fun h R=>A0w.1) fun p=>?_
 refine e8 (b:=r) (i:=5) (v:=p.so) ?_
 refine r7 (b:=x1) (v:=pkT o ci pi) ?_
 refine Y1 fun x5=>?_
 refine e8 (b:=r) (i:=5) (v:=p.so) ?_
 refine A1p ?_ rfl
 refine hO.app (s:=p.so) (os:=T.outs) (o:=⟨c,o,true⟩) (c:=ci) (p:=pi) (b:=x5) (fun s'=>?_) dy (by repeat first|with_reducible exact V0|apply V2) (by repeat first|with_reducible exact V0|apply V2) (by repeat first|with_reducible exact V0|apply V2) (by rfl) (by rfl)
 refine W4 ?_
 refine A4j (b:=r) (i:=5) (cs':=rbC ⟨p.tb,p.sb,p.kb,p.sc,s',p.sp⟩ full) ?_
 refine W.dY (X:=X) (O:=O) (A0s ⟨c,o,true⟩ T) ⟨p.tb,p.sb,p.kb,p.sc,s',p.sp⟩ ?_
 exact U2 hq.sub
theorem C4Y{r:Nat}{full:Bool}{X:B4w}{T:U7}{c:Int}{o:PkO}{ci pi:Slc}(hb:T.outs.length≤100000000)(hq:At (rbX r full X (A8z T.outs.length ci pi o) (A0s ⟨c,o,false⟩ T)::L1) (Q (.tuple #[])))
  (hx:Has L (rbX r full X (V9 .i64) T) L1:=by repeat first|with_reducible exact V0|apply V2):FW prog 146 #[at0 r,.int .i64 c,A2s .i64 (pkT o ci pi)] L Q:=by
 refine fun h hs=>A6B (some ⟨r,0,none⟩) c (pkT o ci pi) h Q ((?_:W (rbX r full X (V9 .i64) T::L1) _ _) h (hx.s hs))
 clear hs h hx
 have dy:(T.outs.length+1)*344≤140737488355328:=by omega
 delta B0j az bn g2 kc nn nw pu rq sx ve vi vs vz w10 w11 w12 w13 w14 w15 w16 w17 w18 w19 w20 w21 w22 w23 w24 w25 w5 w6 w7 w8 w9
 refine Y1 fun x1=>?_
 refine W4 ?_
 refine A2m (g:=fun p R=>B1j r full X (V9 .i64) T p R) (fun h R=>A0w.1) fun p=>?_
 refine e8 (b:=r) (i:=5) (v:=p.so) ?_
 refine r7 (b:=x1) (v:=pkT o ci pi) ?_
 refine Y1 fun x5=>?_
 refine e8 (b:=r) (i:=5) (v:=p.so) ?_
 refine A1p ?_ rfl
 refine C9F (s:=p.so) (os:=T.outs) (o:=⟨c,o,false⟩) (c:=ci) (p:=pi) (b:=x5) (fun s'=>?_) dy
 refine W4 ?_
 refine A4j (b:=r) (i:=5) (cs':=rbC ⟨p.tb,p.sb,p.kb,p.sc,s',p.sp⟩ full) ?_
 refine W.dY (X:=X) (O:=A8z T.outs.length ci pi o) (A0s ⟨c,o,false⟩ T) ⟨p.tb,p.sb,p.kb,p.sc,s',p.sp⟩ ?_
 exact U2 hq.sub
end
section
open Go.H Go.Proofs
variable {h h0:Heap} {L L' L1 L2 L3 L4 R:List Asn} {Q:Value→Heap→Prop}
theorem C2D{a b:Int}(hq:At L (Q (.int .i64 (min a b)))):FW prog 138 #[.int .i64 a,.int .i64 b] L Q:=by
 refine fun h hs=>B2p a b h Q ((?_:W L _ _) h hs)
 clear hs h
 delta B41 ie pu
 refine A0i (fun g=>U2 ?_) (fun g=>U2 ?_)
 ·have g:a<b:=by simpa using g
  rw[show min a b=a from by omega] at hq
  exact hq
 ·have g:¬a<b:=by simpa using g
  rw[show min a b=b from by omega] at hq
  exact hq
def atC(c:Int)(l:List X2):Option Nat:=l.findIdx? fun x=>decide (x.c=c)
theorem B15{c:Int}{l:List X2}:atC c l=none↔A1o c l=none:=by
 unfold atC A1o
 rw[O4,E7]
 simp
theorem C0M{c:Int}{l:List X2}{i:Nat}(h:atC c l=some i):∃x,l[i]? =some x∧A1o c l=some x∧x.c=c:=by
 obtain⟨ah,hp,hb⟩:=J5.1 h
 refine⟨l[i],B0 ah,?_,by simpa using hp⟩
 unfold A1o
 rw[List.find?_eq_some_iff_getElem]
 exact⟨hp,i,ah,rfl,fun j hj=>by simpa using hb j hj⟩
theorem B5j{r:Nat}{full:Bool}{X:B4w}{O:Slc→List l4→Asn}{T:U7}{c:Int}(aQ:T.b.aB.length≤1000000)(hq:At (rbX r full X O T::L1) (Q (.int .i64 (match atC c T.b.aB with|some i=>(i:Int)|none=> -1))))(hx:Has L (rbX r full X O T) L1:=by repeat first|with_reducible exact V0|apply V2):
  FW prog 89 #[at0 r,.int .i64 c] L Q:=by
 refine fun h hs=>B2q (some ⟨r,0,none⟩) c h Q ((?_:W (rbX r full X O T::L1) _ _) h (hx.s hs))
 clear hs h hx
 delta B42 bn ie ix kc ki nn pu wi
 refine A2m (g:=fun p R=>B1j r full X O T p R) (fun h R=>A0w.1) fun p=>?_
 refine Y9 (Y0 (enc:=A0b) (size:=8) (s:=p.sc) (xs:=T.b.aB)) fun hl=>?_
 refine W.loop (γ:=Nat) (fun g s=>s.1=(g:Int)∧g≤T.b.aB.length∧∀j (hj:j<T.b.aB.length),j<g→T.b.aB[j].c≠c) (fun g s=>B1j r full X O T p L1) (fun g=>T.b.aB.length-g) 0 ⟨rfl,D1 _,fun j _ hj=>absurd hj (Nat.not_lt_zero j)⟩ Sub.rfl ?_
 rintro i s ⟨hi,cK,hn⟩ K k1 k2
 refine W4 ?_
 refine e8 (b:=r) (i:=3) (v:=p.sc) ?_
 by_cases ah:i<T.b.aB.length
 ·refine X6 (by rw[hi,hl];exact decide_eq_true (by omega)) ?_
  have aY:T.b.aB[i]? =some T.b.aB[i]:=B0 ah
  refine W4 ?_
  refine e8 (b:=r) (i:=3) (v:=p.sc) ?_
  refine j4 (enc:=A0b) (xs:=T.b.aB) (i:=i) ah (fun a ha=>?_) (he:=hi)
  refine A4r (k:=0) (x:=T.b.aB[i]) (v:=T.b.aB[i].c) ha aY ?_
  by_cases hc:T.b.aB[i].c=c
  ·refine X6 (by simpa using hc) (U2 (k2 _ _ (W.inr (U2 ?_))))
   have e:atC c T.b.aB=some i:=J5.2 ⟨ah,by simpa using hc,fun j hj=>by simpa using hn j (by omega) hj⟩
   rw[e] at hq
   refine At.dY (X:=X) (O:=O) T p ?_
   rw[hi]
   exact hq.sub
  ·refine W6 (by simpa using hc) ?_
   have gW:=k1 (i+1) (IntKind.wrap .i64 (s.1+1),()) (by omega) ⟨by simp only[hi];rw[V8 (by omega) (by omega)];rfl,ah,fun j hj xm=>by
    rcases Nat.lt_succ_iff_lt_or_eq.1 xm with h|h
    ·exact hn j hj h
    ·subst h;exact hc⟩
   exact U2 gW.sub
 ·refine W6 (by rw[hi,hl];exact decide_eq_false (by omega)) (U2 (k2 _ _ (W.inl (U2 ?_))))
  have e:atC c T.b.aB=none:=B15.2 (E7.2 fun x hx=>by
   obtain⟨j,hj,rfl⟩:=List.getElem_of_mem hx
   simpa using hn j hj (by omega))
  rw[e] at hq
  refine At.dY (X:=X) (O:=O) T p ?_
  exact hq.sub
theorem B1i{r:Nat}{full full0:Bool}{T:U7}(hq:At (rbA r full (V9 .i64) ⟨T.b,[],[]⟩::L1) (Q (.tuple #[])))(hx:Has L (rbA r full0 (V9 .i64) T) L1:=by repeat first|with_reducible exact V0|apply V2):
  FW prog 86 #[at0 r,.bool full] L Q:=by
 refine fun h hs=>B00 (some ⟨r,0,none⟩) full h Q ((?_:W (rbA r full0 (V9 .i64) T::L1) _ _) h (hx.s hs))
 clear hs h hx
 delta B3q nn pu sx vz
 refine A2m (g:=fun p R=>rbL r full0 (V9 .i64) T p R) (fun h R=>A0L.1) fun p=>?_
 refine W4 ?_
 refine A4j (b:=r) (i:=4) (cs':=rbC p full) ?_
 refine W4 ?_
 refine A4j (b:=r) (i:=5) (cs':=rbC ⟨p.tb,p.sb,p.kb,p.sc,⟨none,0,0⟩,p.sp⟩ full) ?_
 refine W4 ?_
 refine A4j (b:=r) (i:=6) (cs':=rbC ⟨p.tb,p.sb,p.kb,p.sc,⟨none,0,0⟩,⟨none,0,0⟩⟩ full) ?_
 refine A4L Z6 5 ?_
 refine W.sub (L':=cells r (rbC ⟨p.tb,p.sb,p.kb,p.sc,⟨none,0,0⟩,⟨none,0,0⟩⟩ full)::U5 Z6 5 ⟨none,0,0⟩ []::U5 A0b 8 p.sc T.b.aB::A0q p.tb T.b.last T.b.aD::A0D p.sb T.b.aH::A1N p.kb 64 T.b.kept::L1) ?_
 refine U2 (fun h hs=>?_)
 have h1:=B1q (k:=.i64) hs
 exact hq h (A0L.2 ⟨⟨p.tb,p.sb,p.kb,p.sc,⟨none,0,0⟩,⟨none,0,0⟩⟩,h1.re [1,0,2,3,4,5,6]⟩)
theorem C05{l:List X2}{x:X2}{id:Int}{ps:List PkO}:A1H (l++[x]) id ps=A1H l id ps++(if x.aD=id then ps.map fun p=>⟨x.c,p,false⟩ else[]):=by
 unfold A1H
 rw[F3,I6]
 by_cases e:x.aD=id
 ·rw[if_pos e,G8 (by simpa using e)];simp
 ·rw[if_neg e,G0 (by simpa using e)];simp
abbrev toC(c:Int)(z:Slc×Slc×PkO):l4:=⟨c,z.2.2,false⟩
theorem A4X{r:Nat}{full:Bool}{X:B4w}{O:Slc→List l4→Asn}{T:U7}{id:Int}{S:Slc}{ps:List PkO}(hO:A8Z O)(hu:(T.b.aB.filter fun x=>decide (x.aD=id)).length≤1)(hb:T.outs.length+ps.length≤100000000)(aQ:T.b.aB.length≤1000000)
  (hq:At (rbX r full X O (p6 id ps T)::L2) (Q (.tuple #[])))(hx:Has L (rbX r full X O T) L1:=by repeat first|with_reducible exact V0|apply V2)(hy:Has L1 (p7 .i64 S ps) L2:=by repeat first|with_reducible exact V0|apply V2):
  FW prog 140 #[at0 r,.int .i64 id,.slice S.a S.len S.cap] L Q:=by
 refine fun h hs=>A9q (some ⟨r,0,none⟩) id S h Q ((?_:W (rbX r full X O T::p7 .i64 S ps::L2) _ _) h ((hx.then hy).s hs))
 clear hs h hx hy
 delta A9M bn cx g2 ie ix kc ki nn pu vi wi
 refine W.loop (γ:=Nat) (fun g s=>s.1=(g:Int)∧g≤T.b.aB.length) (fun g s=>rbX r full X O ⟨T.b,T.outs++A1H (T.b.aB.take g) id ps,T.aT⟩::C42 ((T.b.aB.take g).filter fun x=>decide (x.aD=id)).isEmpty (p7 .i64 S ps) L2) (fun g=>T.b.aB.length-g) 0 ⟨rfl,D1 _⟩ ?_ ?_
 ·have e:(⟨T.b,T.outs++A1H (T.b.aB.take 0) id ps,T.aT⟩:U7)=T:=by
   rw[List.take_zero]
   show U7.mk T.b (T.outs++[]) T.aT=T
   rw[C1]
  rw[e]
  show Sub _ (rbX r full X O T::p7 .i64 S ps::L2)
  repeat(first|with_reducible exact T6|with_reducible exact T7|refine T8 (by repeat first|with_reducible exact V0|apply V2) ?_|refine U0 ?_)
 rintro i s ⟨hi,cK⟩ K k1 k2
 refine W4 ?_
 refine A2m (g:=fun p R=>B1j r full X O ⟨T.b,T.outs++A1H (T.b.aB.take i) id ps,T.aT⟩ p R) (fun h R=>A0w.1) fun p=>?_
 refine Y9 (Y0 (enc:=A0b) (size:=8) (s:=p.sc) (xs:=T.b.aB)) fun hl=>?_
 refine e8 (b:=r) (i:=3) (v:=p.sc) ?_
 by_cases ah:i<T.b.aB.length
 ·refine X6 (by rw[hi,hl];exact decide_eq_true (by omega)) ?_
  have aY:T.b.aB[i]? =some T.b.aB[i]:=B0 ah
  have aU:T.b.aB.take (i+1)=T.b.aB.take i++[T.b.aB[i]]:=C7 ah
  have eL:=B0Q ah
  have hn:=k1 (i+1) (IntKind.wrap .i64 (s.1+1),()) (by omega) ⟨by simp only[hi];rw[V8 (by omega) (by omega)];rfl,ah⟩
  rw[aU,C05,F3] at hn
  clear k1 k2
  refine X3 (W4 ?_)
  refine X3 (e8 (b:=r) (i:=3) (v:=p.sc) ?_)
  refine X3 (j4 (enc:=A0b) (xs:=T.b.aB) (i:=i) ah (fun a ha=>?_) (he:=hi))
  refine X3 (A4r (k:=1) (x:=T.b.aB[i]) (v:=T.b.aB[i].aD) ha aY ?_)
  by_cases dV:T.b.aB[i].aD=id
  ·have dq:(T.b.aB.take i).filter (fun x=>decide (x.aD=id))=[]:=by
    rw[eL,F3,G8 (by simpa using dV),B5,B8] at hu
    exact K9.1 (by omega)
   have e0:A1H (T.b.aB.take i) id ps=[]:=by unfold A1H;rw[dq];rfl
   rw[if_pos dV,e0,F2,dq,F2,G8 (by simpa using dV)] at hn
   refine o0 (by simp[dV]) ?_
   rw[dq,e0]
   refine W.dY (X:=X) (O:=O) ⟨T.b,T.outs++[],T.aT⟩ p ?_
   refine B9j (fun h R=>A7e.1) (fun PT uq=>?_) (hx:=(by repeat first|with_reducible exact V0|apply V2:Has (rbX r full X O ⟨T.b,T.outs++[],T.aT⟩::p7 .i64 S ps::L2) _ _))
   subst uq
   refine Y9 (Y0 (enc:=W8 .i64) (size:=26) (s:=S) (xs:=PT.map pkF)) fun fg=>?_
   rw[C2] at fg hb
   refine X3 (B31 PT.length (fun k s=>s.1=(k:Int)) (fun k _=>rbX r full X O ⟨T.b,T.outs++(PT.take k).map (toC T.b.aB[i].c),T.aT⟩::U5 (W8 .i64) 26 S (PT.map pkF)::Z9 (pkB .i64) (PT.drop k)::L2) rfl ?_ (fun k s hk hI=>by rw[hI,fg];exact G6.2 (by omega)) (fun s2 hI K2 iA=>?_) (fun k s2 cd hI K2 jM iA=>?_))
   ·show Sub _ (rbX r full X O ⟨T.b,T.outs++[],T.aT⟩::U5 (W8 .i64) 26 S (PT.map pkF)::Z9 (pkB .i64) PT::L2)
    repeat(first|with_reducible exact T6|with_reducible exact T7|refine T8 (by repeat first|with_reducible exact V0|apply V2) ?_|refine U0 ?_)
   ·refine U2 (iA _ _ (b6 (U2 ?_)))
    have e4:(PT.take PT.length).map (toC T.b.aB[i].c)=(PT.map (·.2.2)).map fun p=>⟨T.b.aB[i].c,p,false⟩:=by rw[F9,F1];rfl
    rw[e4]
    refine At.sub hn ?_
    show Sub _ (_::L2)
    repeat(first|with_reducible exact T6|with_reducible exact T7|refine T8 (by repeat first|with_reducible exact V0|apply V2) ?_|refine U0 ?_)
   ·have hk:(PT.map pkF)[k]? =some (pkF PT[k]):=by simp[cd]
    refine W4 ?_
    refine A2m (g:=fun p R=>B1j r full X O ⟨T.b,T.outs++(PT.take k).map (toC T.b.aB[i].c),T.aT⟩ p R) (fun h R=>A0w.1) fun p2=>?_
    refine e8 (b:=r) (i:=3) (v:=p2.sc) ?_
    refine j4 (enc:=A0b) (xs:=T.b.aB) (i:=i) ah (fun a ha=>?_) (he:=hi)
    refine A4r (k:=0) (x:=T.b.aB[i]) (v:=T.b.aB[i].c) ha aY ?_
    refine W.dY (X:=X) (O:=O) ⟨T.b,T.outs++(PT.take k).map (toC T.b.aB[i].c),T.aT⟩ p2 ?_
    refine j4 (enc:=W8 .i64) (xs:=PT.map pkF) (i:=k) (by simpa using cd) (fun a ha=>?_) (he:=hI)
    refine B3d (x:=pkF PT[k]) (v:=pkF PT[k]) ha hk ?_
    rw[E1 cd]
    refine C2n (fun h R=>l3.1) ?_
    refine Z1 (B4x (X:=X) (O:=O) (T:=⟨T.b,T.outs++(PT.take k).map (toC T.b.aB[i].c),T.aT⟩) (c:=T.b.aB[i].c) (o:=PT[k].2.2) (ci:=PT[k].1) (pi:=PT[k].2.1) hO (by simp only[B5,C2,E6];omega) (At.bD ?_))
    have kV:=jM (IntKind.wrap .i64 (s2.1+1),()) (by simp only[hI];rw[V8 (by omega) (by omega)];rfl)
    have e4:T.outs++(PT.take (k+1)).map (toC T.b.aB[i].c)=(T.outs++(PT.take k).map (toC T.b.aB[i].c))++[⟨T.b.aB[i].c,PT[k].2.2,false⟩]:=by
     rw[C7 cd,C0,←D2];rfl
    rw[e4] at kV
    exact U2 kV.sub
  ·rw[if_neg dV,C1,G0 (by simpa using dV),J9,C1] at hn
   refine A1k (by simpa using dV) (b6 (U2 ?_))
   refine At.dY (X:=X) (O:=O) ⟨T.b,T.outs++A1H (T.b.aB.take i) id ps,T.aT⟩ p ?_
   refine At.sub hn ?_
   repeat(first|with_reducible exact T6|with_reducible exact T7|refine T8 (by repeat first|with_reducible exact V0|apply V2) ?_|refine U0 ?_)
 ·refine W6 (by rw[hi,hl];exact decide_eq_false (by omega)) (U2 (k2 _ _ (U2 ?_)))
  rw[D6 (by omega)]
  refine At.dY (X:=X) (O:=O) (p6 id ps T) p ?_
  exact At.sub hq (Sub.cons V0 B7f)
end
section
open Go.H Go.Proofs
variable {h h0:Heap} {L L' L1 L2 L3 L4 R:List Asn} {Q:Value→Heap→Prop}
theorem C7I{b:Nat}{K:List j7}{m:j7}(hL:K.length≤64)(hsz:m.1.size≤9223372036854775800)(hq:At (A1N b 64 (B0d 64 K m).2::L1) (Q (.int .i64 (B0d 64 K m).1)))(hx:Has L (A1N b 64 K) L1:=by repeat first|with_reducible exact V0|apply V2):FW prog 136 #[B1m b,vM m] L Q:=fun h hs=>C3D (hx.s hs) hL hsz fun h' af=>hq h' af
theorem C7K{b:Nat}{K:List j7}{f:B3O}(hL:K.length≤64)(hk:∀m∈K,m.1.size≤256)(hsz:f.size≤9223372036854775800)(hq:∀S:Slc,At (U5 A0c 3 S (A56 K f)::A1N b 64 K::L1) (Q (.slice S.a S.len S.cap)))(hx:Has L (A1N b 64 K) L1:=by repeat first|with_reducible exact V0|apply V2):FW prog 197 #[B1m b,.string f] L Q:=fun h hs=>C3H (hx.s hs) hL hk hsz fun S h' af=>hq S h' af
theorem C3G{b:Nat}{E:List Ent}{n:B3O}(hg:∀x∈E,x.2.1.size≤9223372036854775800)(hsz:n.size≤9223372036854775800)(hl:E.length≤10000)(hq:∀S:Slc,At (U5 Z8 3 S (E.filter fun x=>Y8 x.2.1 n)::A0D b E::L1) (Q (.slice S.a S.len S.cap)))(hx:Has L (A0D b E) L1:=by repeat first|with_reducible exact V0|apply V2):FW prog 137 #[at9 b,.string n] L Q:=fun h hs=>B8y hg hsz hl (hx.s hs) fun S h' af=>hq S h' af
theorem B9N{b:Nat}{E:List Ent}{id:Int}(hl:E.length≤10000)(hq:At (A0D b (A1h id E)::L1) (Q (.int .i64 ((A53 id E).length:Nat))))(hx:Has L (A0D b E) L1:=by repeat first|with_reducible exact V0|apply V2):FW prog 134 #[at9 b,.int .i64 id] L Q:=fun h hs=>C1n hl (hx.s hs) fun h' af=>hq h' af
theorem C2I{s:B3O}(hsz:s.size≤9223372036854775800)(hq:At L (Q (.int .i64 (A2Q s)))):FW prog 190 #[.string s] L Q:=fun h hs=>A4m hs hsz fun h' af=>hq h' af
structure Szs(B:Z0):Prop where
 dE:B.aH.Pairwise fun a b=>a.1≤b.1
 sub:∀e∈B.aH,e.2.1.size≤9223372036854775800
 kept:∀m∈B.kept,m.1.size≤256
 k64:B.kept.length≤64
 aB:B.aB.length≤1000000
 aD:B.aD.length≤1000
 nd:(B.aB.map (·.c)).Nodup
 wl:∀x∈B.aB,x.aX.1.size≤9223372036854775800
theorem C5K{k:Int}{A:List V7}:(A4F k A).2.length≤A.length:=by
 unfold A4F
 split
 ·exact D9 _
 ·split
  ·exact D9 _
  ·split
   ·unfold X9;rw[C2];exact D9 _
   ·exact D4 _ _
theorem Szs.withS{B:Z0}(h:Szs B){k:Int}{f:V7→V7}:Szs ⟨B.last,X9 k f B.aD,B.aH,B.kept,B.aB⟩:=⟨h.dE,h.sub,h.kept,h.k64,h.aB,by show(X9 k f B.aD).length≤1000;unfold X9;rw[C2];exact h.aD,h.nd,h.wl⟩
theorem Szs.ended{B B2:Z0}{k:Int}{q:X2→Bool}(h:Szs B)(e:B2=⟨B.last,(A4F k B.aD).2,if(A4F k B.aD).1=true then A1h k B.aH else B.aH,B.kept,B.aB.filter q⟩):Szs B2:=by
 subst e
 have hd:(if(A4F k B.aD).1=true then A1h k B.aH else B.aH).Sublist B.aH:=by
  split
  ·exact I2
  ·exact G4 _
 exact⟨h.dE.sublist hd,fun e he=>h.sub e (hd.subset he),h.kept,h.k64,C4 (D4 _ _) h.aB,C4 C5K h.aD,h.nd.sublist (I2.map _),fun x hx=>h.wl x (D5.1 hx).1⟩
def A71(p:Option Int)(l:List Ent):Option Int:=match l.getLast? with
 |some e=>some e.1
 |none=>p
theorem C1F{p:Option Int}{e:Ent}{l:List Ent}:A71 p (e::l)=A71 (some e.1) l:=by
 unfold A71
 cases l with
 |nil=>rfl
 |cons x l=>
  rw[List.getLast?_cons_cons]
  cases hg:(x::l).getLast? with
  |none=>simp at hg
  |some z=>rfl
theorem B2T:∀(p:Option Int) (l:List Ent) (e:Ent),A45 p (l++[e])=A45 p l++(if A71 p l=some e.1 then[] else[e.1])
 |p,[],e=>by
  have h1:A71 p []=p:=rfl
  rw[h1,F2]
  unfold A45 A45
  rfl
 |p,x::l,e=>by
  rw[G5,C1F]
  unfold A45
  split
  ·rename_i hp
   rw[B2T p l e,hp]
  ·rw[B2T _ l e];rfl
def B5t(id:Int)(q:Int)(e:Ent):Int:=if e.1=id∧q<e.2.2 then e.2.2 else q
theorem B5s{id:Int}:∀(l:List Ent) (q:Int),l.foldl (B5t id) q=(l.filter fun e=>decide (e.1=id)).foldl (fun q e=>max q e.2.2) q
 |[],_=>rfl
 |e::l,q=>by
  rw[I1,B5s l]
  unfold B5t
  by_cases he:e.1=id
  ·rw[G8 (by simpa using he),I1]
   congr 1
   by_cases h2:q<e.2.2
   ·rw[if_pos ⟨he,h2⟩];omega
   ·rw[if_neg (fun h=>h2 h.2)];omega
  ·rw[G0 (by simpa using he),if_neg (fun h=>he h.1)]
theorem C46{M:List Ent}{i:Nat}{id:Int}(hp:(M.take i).filter (fun e=>decide (e.1=id))=[]):(M.drop i).foldl (B5t id) 0=A2E M id:=by
 rw[B5s]
 unfold A2E
 have e:M.filter (fun e=>decide (e.1=id))=(M.drop i).filter fun e=>decide (e.1=id):=by
  conv=>lhs;rw[←J7 i M]
  rw[F3,hp,F2]
 rw[e]
theorem C2E{r:Nat}{full:Bool}{O:Slc→List l4→Asn}{T:U7}{m:MsT}(hO:A8Z O)(ag:j8 T.b)(hz:Szs T.b)(hb:T.outs.length≤50000000)(hm:m.1.size≤9223372036854775800)
  (hq:At (rbA r full O (A0t m T)::L1) (Q (.tuple #[])))(hx:Has L (rbA r full O T) L1:=by repeat first|with_reducible exact V0|apply V2):
  FW prog 88 #[at0 r,vMs m] L Q:=by
 refine fun h hs=>B2s (some ⟨r,0,none⟩) (toU m) h Q ((?_:W (rbA r full O T::L1) _ _) h (hx.s hs))
 clear hs h hx
 delta B44 bn cc ci cp cx ie ix jb ji jt ki kp nn nw pu ve vi vs wi
 refine Y1 fun x1=>?_
 refine W.load (b:=x1) (v:=m.2.2.2.1) ?_
 refine W.cut (fun _=>rbA r full O (A1Q m T)::cells x1 (aS7 (toU m))::L1) (fun K hK=>?_) (fun _=>?_)
 ·refine A0i (fun hr=>?_) (fun hr=>?_)
  ·have e:A1Q m T=B9s (B0d 64 T.b.kept (m.1,m.2.1,m.2.2.1,())).2 T:=if_pos hr
   rw[e] at hK
   refine W4 ?_
   refine A2m (g:=fun p R=>rbL r full O T p R) (fun h R=>A0L.1) fun p=>?_
   refine e8 (b:=r) (i:=2) (v:=some ⟨p.kb,0,none⟩) ?_
   refine W.load (b:=x1) (v:=m.1) ?_
   refine W.load (b:=x1) (v:=m.2.1) ?_
   refine W.load (b:=x1) (v:=m.2.2.1) ?_
   refine j1 (C7I (b:=p.kb) (K:=T.b.kept) (m:=(m.1,m.2.1,m.2.2.1,())) hz.k64 hm (At.un (U2 ?_)))
   refine At.rb (O:=O) (B9s (B0d 64 T.b.kept (m.1,m.2.1,m.2.2.1,())).2 T) p ?_
   exact(hK ()).sub
  ·have e:A1Q m T=T:=if_neg (by rw[hr];decide)
   rw[e] at hK
   exact U2 (hK ()).sub
 have hk:=B5D (m:=m) ag
 have cG:(A45 none (T.b.aH.filter fun x=>Y8 x.2.1 m.1)).foldl (A1g m (T.b.aH.filter fun x=>Y8 x.2.1 m.1)) (A1Q m T)=A0t m T:=rfl
 have pO:=hk.aH
 rw[←hk.aH] at cG
 have il:=hk.ok
 have gQ:(A1Q m T).outs.length≤50000000:=C4 hk.outs hb
 have fy:=hz.dE
 have nE:=hz.sub
 have aQ:=hz.aB
 have rD:(A1Q m T).b.aD.length≤1000:=by
  have:(A1Q m T).b.aD=T.b.aD:=by unfold A1Q;split<;>rfl
  rw[this];exact hz.aD
 rw[←hk.aH] at fy nE
 rw[←hk.aB] at aQ
 clear hk pO
 generalize A1Q m T=T0 at*
 refine W4 ?_
 refine A2m (g:=fun p R=>rbL r full O T0 p R) (fun h R=>A0L.1) fun p=>?_
 refine e8 (b:=r) (i:=1) (v:=some ⟨p.sb,0,none⟩) ?_
 refine W.load (b:=x1) (v:=m.1) ?_
 refine j1 (C3G (b:=p.sb) (E:=T0.b.aH) (n:=m.1) nE hm il.aH (fun S=>At.un (x:=S) ?_))
 refine W.rb (O:=O) T0 p ?_
 have bg:∀e∈T0.b.aH.filter (fun x=>Y8 x.2.1 m.1),e∈T0.b.aH:=fun e he=>(D5.1 he).1
 have oe:(T0.b.aH.filter fun x=>Y8 x.2.1 m.1).Pairwise fun a b=>a.1≤b.1:=fy.filter _
 have xS:(T0.b.aH.filter fun x=>Y8 x.2.1 m.1).length≤10000:=C4 (D4 _ _) il.aH
 generalize T0.b.aH.filter (fun x=>Y8 x.2.1 m.1)=M at*
 clear fy nE
 refine Y9 (Y0 (enc:=Z8) (size:=3) (s:=S) (xs:=M)) fun hl=>?_
 refine W.loop (γ:=Nat×U7) (fun g s=>s.1=(g.1:Int)∧g.1≤M.length∧g.2=(A45 none (M.take g.1)).foldl (A1g m M) T0∧j8 g.2.b∧g.2.b.aH=T0.b.aH∧g.2.b.aB=T0.b.aB∧g.2.outs.length≤50000000+320*g.1∧g.2.b.aD.map (·.id)=T0.b.aD.map (·.id))
  (fun g s=>rbA r full O g.2::U5 Z8 3 S M::cells x1 (aS7 (toU m))::L1) (fun g=>M.length-g.1) (0,T0) ⟨rfl,D1 _,rfl,il,rfl,rfl,by simp only;omega,rfl⟩ ?_ ?_
 ·show Sub _ (rbA r full O T0::U5 Z8 3 S M::cells x1 (aS7 (toU m))::L1)
  repeat(first|with_reducible exact T6|with_reducible exact T7|refine T8 (by repeat first|with_reducible exact V0|apply V2) ?_|refine U0 ?_)
 rintro⟨i,T1⟩ s ⟨hi,cK,ck,aL,iD,ca,fU,jl⟩ K k1 k2
 simp only at hi cK ck aL iD ca fU jl
 by_cases ah:i<M.length
 ·refine X6 (by rw[hi,hl];exact decide_eq_true (by omega)) ?_
  have aY:M[i]? =some M[i]:=B0 ah
  have aU:M.take (i+1)=M.take i++[M[i]]:=C7 ah
  have eL:=B0Q ah
  have uL:IntKind.wrap .i64 (s.1+1)=((i+1:Nat):Int):=by rw[hi,V8 (by omega) (by omega)];rfl
  refine X3 ?_
  refine A02 (fun r=>r.1=decide (A71 none (M.take i)=some M[i].1)) (fun K0 oj=>?_) (fun r0 ij=>?_)
  ·clear k1 k2
   by_cases h0:i=0
   ·subst h0
    refine W6 (by rw[hi];rfl) (U2 (oj _ ?_))
    simp[A71]
   ·refine X6 (by rw[hi];exact decide_eq_true (by omega)) ?_
    have cd:i-1<M.length:=by omega
    have qx:M[i-1]? =some M[i-1]:=B0 cd
    have iF:A71 none (M.take i)=some M[i-1].1:=by
     unfold A71
     rw[List.getLast?_eq_getElem?,E6,Nat.min_eq_left (by omega),M0,if_pos (by omega),qx]
    refine j4 (enc:=Z8) (xs:=M) (i:=i-1) cd (fun a ha=>?_) (he:=by rw[hi,V8 (by omega) (by omega)];omega)
    refine A4r (k:=0) (x:=M[i-1]) (v:=M[i-1].1) ha qx ?_
    refine j4 (enc:=Z8) (xs:=M) (i:=i) ah (fun a2 dJ=>?_) (he:=hi)
    refine A4r (k:=0) (x:=M[i]) (v:=M[i].1) dJ aY ?_
    refine U2 (oj _ ?_)
    rw[iF]
    by_cases e:M[i-1].1=M[i].1<;>simp[e]
  have eR:=B2T none (M.take i) M[i]
  by_cases oG:A71 none (M.take i)=some M[i].1
  ·rw[if_pos oG,C1,←aU] at eR
   refine A1k (by rw[ij];exact decide_eq_true oG) (b6 (U2 ?_))
   have hn:=k1 (i+1,T1) (IntKind.wrap .i64 (s.1+1),()) (by simp only;omega) ⟨uL,ah,by rw[eR];exact ck,aL,iD,ca,by simp only;omega,jl⟩
   exact hn.sub
  ·rw[if_neg oG,←aU] at eR
   refine o0 (by rw[ij];exact decide_eq_false oG) ?_
   clear ij r0
   have jJ:(M.take i).filter (fun e=>decide (e.1=M[i].1))=[]:=J4.2 fun e he=>by
    have hle:∀x∈M.take i,∀y∈M[i]::M.drop (i+1),x.1≤y.1:=by
     rw[eL] at oe
     exact(I8.1 oe).2.2
    have oR:=(I8.1 (by rw[eL] at oe;exact oe)).1
    cases hg:(M.take i).getLast? with
    |none=>rw[List.getLast?_eq_none_iff.1 hg] at he;cases he
    |some z=>
     have sF:A71 none (M.take i)=some z.1:=by unfold A71;rw[hg]
     rw[sF] at oG
     have ry:z∈M.take i:=List.mem_of_getLast? hg
     have h1:=hle z ry M[i] (B4 ..)
     have h2:e.1≤z.1:=by
      obtain⟨ys,wG⟩:=List.getLast?_eq_some_iff.1 hg
      rw[wG] at he oR
      rcases C9.1 he with h|h
      ·exact(I8.1 oR).2.2 e h z (B7.2 rfl)
      ·rw[B7.1 h];exact S7 _
     have h3:z.1≠M[i].1:=fun e=>oG (by rw[e])
     simp only[decide_eq_true_eq]
     omega
   have ft:(M.drop i).foldl (B5t M[i].1) 0=A2E M M[i].1:=C46 jJ
   refine X3 ?_
   refine C4s (fun r=>r.1=A2E M M[i].1) (fun _=>rbA r full O T1::U5 Z8 3 S M::cells x1 (aS7 (toU m))::L1) (fun K0 oj=>?_) (fun r0 ij=>?_)
   ·clear k1 k2
    refine C9e (γ:=Nat) (fun g s=>s.2.1=(g:Int)∧i≤g∧g≤M.length∧(M.drop g).foldl (B5t M[i].1) s.1=A2E M M[i].1) (fun g s=>rbA r full O T1::U5 Z8 3 S M::cells x1 (aS7 (toU m))::L1) (fun g=>M.length-g) i ⟨hi,D9 _,cK,ft⟩ ?_ ?_
    ·repeat(first|with_reducible exact T6|with_reducible exact T7|refine T8 (by repeat first|with_reducible exact V0|apply V2) ?_|refine U0 ?_)
    rintro k s2 ⟨hk,yu,kf,hf⟩ K3 n1 n2
    by_cases dg:k<M.length
    ·refine X6 (by rw[hk,hl];exact decide_eq_true (by omega)) ?_
     have qw:M[k]? =some M[k]:=B0 dg
     rw[E1 dg,I1] at hf
     have sN:IntKind.wrap .i64 (s2.2.1+1)=((k+1:Nat):Int):=by rw[hk,V8 (by omega) (by omega)];rfl
     refine A02 (fun r=>r.1=decide (M[k].1=M[i].1∧s2.1<M[k].2.2)) (fun K4 gS=>?_) (fun r4 oI=>?_)
     ·refine j4 (enc:=Z8) (xs:=M) (i:=k) dg (fun a ha=>?_) (he:=hk)
      refine A4r (k:=0) (x:=M[k]) (v:=M[k].1) ha qw ?_
      refine j4 (enc:=Z8) (xs:=M) (i:=i) ah (fun a2 dJ=>?_) (he:=hi)
      refine A4r (k:=0) (x:=M[i]) (v:=M[i].1) dJ aY ?_
      by_cases e:M[k].1=M[i].1
      ·refine X6 (by simpa using e) ?_
       refine j4 (enc:=Z8) (xs:=M) (i:=k) dg (fun a ha=>?_) (he:=hk)
       refine A4r (k:=2) (x:=M[k]) (v:=M[k].2.2) ha qw ?_
       refine U2 (gS _ ?_)
       simp[e]
      ·refine W6 (by simpa using e) (U2 (gS _ ?_))
       simp[e]
     refine A02 (fun r=>r.1=B5t M[i].1 s2.1 M[k]) (fun K4 gS=>?_) (fun r5 wR=>?_)
     ·unfold B5t at gS
      by_cases e:M[k].1=M[i].1∧s2.1<M[k].2.2
      ·rw[if_pos e] at gS
       refine X6 (by rw[oI];exact decide_eq_true e) ?_
       refine j4 (enc:=Z8) (xs:=M) (i:=k) dg (fun a ha=>?_) (he:=hk)
       refine A4r (k:=2) (x:=M[k]) (v:=M[k].2.2) ha qw ?_
       exact U2 (gS _ rfl)
      ·rw[if_neg e] at gS
       exact W6 (by rw[oI];exact decide_eq_false e) (U2 (gS _ rfl))
     ·have hn:=n1 (k+1) (r5.1,IntKind.wrap .i64 (s2.2.1+1),()) (by omega) ⟨sN,by omega,dg,by simp only;rw[wR];exact hf⟩
      exact U2 hn.sub
    ·refine W6 (by rw[hk,hl];exact decide_eq_false (by omega)) (U2 (n2 _ _ (oj _ ?_)))
     rw[M9 (by omega)] at hf
     exact hf
   ·obtain⟨s3,aj,hid⟩:=aL.live M[i] (by rw[iD];exact bg _ (H3 ah))
    have di:=A33 (aL.bO s3 aj) (m.1,m.2.1,min m.2.2.1 (A2E M M[i].1),false,e0S)
    have e9:A1g m M T1 M[i].1=p6 M[i].1 (Y3 s3.out (m.1,m.2.1,min m.2.2.1 (A2E M M[i].1),false,e0S)).1.2 (A0y (X9 M[i].1 (Y6 (Y3 s3.out (m.1,m.2.1,min m.2.2.1 (A2E M M[i].1),false,e0S)).1.1) T1.b.aD) T1):=by
     unfold A1g A0F
     rw[A3p aL.nd aj hid]
    have bq:=B0y (m:=m) (l:=M) T1 M[i].1 aL
    have hn:=k1 (i+1,A1g m M T1 M[i].1) (IntKind.wrap .i64 (s.1+1),()) (by simp only;omega) ⟨uL,ah,by rw[eR,List.foldl_append,←ck];rfl,bq.ok,bq.aH.trans iD,bq.aB.trans ca,by have:=bq.outs;simp only;omega,A85.trans jl⟩
    simp only at hn
    rw[e9] at hn
    clear k1 k2 e9 bq eR cG hq
    obtain⟨mq,_⟩:=r0
    simp only at ij
    subst ij
    have kZ:s3.id=M[i].1:=hid
    generalize A2E M M[i].1=mq at hn di⊢
    refine W4 ?_
    refine A2m (g:=fun p R=>rbL r full O T1 p R) (fun h R=>A0L.1) fun p2=>?_
    refine e8 (b:=r) (i:=0) (v:=some ⟨p2.tb,0,none⟩) ?_
    refine j4 (enc:=Z8) (xs:=M) (i:=i) ah (fun a ha=>?_) (he:=hi)
    refine A4r (k:=0) (x:=M[i]) (v:=M[i].1) ha aY ?_
    generalize M[i].1=id at hn kZ⊢
    have cW:T1.b.aD.length≤1000:=by have:=congrArg List.length jl;simp only[C2] at this;omega
    refine j1 (C1m (b:=p2.tb) (A:=T1.b.aD) (s:=s3) (k:=id) cW aL.nd aj kZ (fun nb ob ib=>At.un (x:=some ⟨nb,0,none⟩) ?_))
    refine W.load (b:=x1) (v:=m.2.2.1) ?_
    refine j1 (C2D (a:=m.2.2.1) (b:=mq) (At.un (x:=min m.2.2.1 mq) ?_))
    refine W4 ?_
    refine W.load (b:=nb) (v:=some ⟨ob,0,none⟩) ?_
    refine W.load (b:=x1) (v:=m.1) ?_
    refine W.load (b:=x1) (v:=m.2.1) ?_
    refine Z1 (B9C (b:=ob) (o:=s3.out) (m:=(m.1,m.2.1,min m.2.2.1 mq,false,e0S)) (aL.bO s3 aj) (fun S2=>At.bD (x:=(S2,(Y3 s3.out (m.1,m.2.1,min m.2.2.1 mq,false,e0S)).2,())) ?_))
    refine W4 ?_
    refine W.load (b:=nb) (v:=s3.id) ?_
    rw[kZ]
    refine B0J (A:=A0q p2.tb T1.b.last (X9 id (Y6 (Y3 s3.out (m.1,m.2.1,min m.2.2.1 mq,false,e0S)).1.1) T1.b.aD)) (B:=cells nb (rqC s3 ob ib)) (C:=a7 ob (Y3 s3.out (m.1,m.2.1,min m.2.2.1 mq,false,e0S)).1.1) (D:=A07 ib s3.aZ) (E:=A3c p2.tb T1.b.last T1.b.aD s3 nb) (fun h hs=>A4V (f:=Y6 (Y3 s3.out (m.1,m.2.1,min m.2.2.1 mq,false,e0S)).1.1) kZ aL.nd rfl h hs) ?_
    refine W.rb (O:=O) (A0y (X9 id (Y6 (Y3 s3.out (m.1,m.2.1,min m.2.2.1 mq,false,e0S)).1.1) T1.b.aD) T1) p2 ?_
    refine Z1 (A4X (O:=O) (T:=A0y (X9 id (Y6 (Y3 s3.out (m.1,m.2.1,min m.2.2.1 mq,false,e0S)).1.1) T1.b.aD) T1) (id:=id) (ps:=(Y3 s3.out (m.1,m.2.1,min m.2.2.1 mq,false,e0S)).1.2) hO (aL.one id) (by have:=di.2;show T1.outs.length+_≤_;omega) (by show T1.b.aB.length≤_;rw[ca];exact aQ) (At.bD ?_))
    exact b6 (U2 hn.sub)
 ·refine W6 (by rw[hi,hl];exact decide_eq_false (by omega)) (U2 (k2 _ _ (U2 ?_)))
  rw[D6 (by omega)] at ck
  rw[ck,cG]
  exact hq.sub
end
section
open Go.H Go.Proofs
variable {h h0:Heap} {L L' L1 L2 L3 L4 R:List Asn} {Q:Value→Heap→Prop}
theorem B4W{r:Nat}{full:Bool}{O:Slc→List l4→Asn}{T:U7}{m:MsT}(hO:A8Z O)(ag:j8 T.b)(hz:Szs T.b)(hb:T.outs.length≤50000000)(hp:T.aT.length≤1000000000)(hm:m.1.size≤9223372036854775800)
  (hq:At (rbA r full O (A3f m T)::L1) (Q (.tuple #[])))(hx:Has L (rbA r full O T) L1:=by repeat first|with_reducible exact V0|apply V2):
  FW prog 135 #[at0 r,vMs m] L Q:=by
 refine fun h hs=>A9r (some ⟨r,0,none⟩) (toU m) h Q ((?_:W (rbA r full O T::L1) _ _) h (hx.s hs))
 clear hs h hx
 have fu:((A0t m T).aT.length+1)*64≤140737488355328:=by rw[A7w];omega
 have hq:At (rbA r full O (⟨(A0t m T).b,(A0t m T).outs,(A0t m T).aT++[m]⟩:U7)::L1) (Q (.tuple #[])):=hq
 delta A9N az bn cx g7 kc nn nw pu rq sx vs
 refine Y1 fun x1=>?_
 refine r7 (b:=x1) (v:=toU m) ?_
 refine Z1 (C2E (O:=O) (T:=T) (m:=m) hO ag hz hb hm (At.bD ?_))
 generalize A0t m T=T1 at hq fu⊢
 refine W4 ?_
 refine A2m (g:=fun p R=>rbL r full O T1 p R) (fun h R=>A0L.1) fun p=>?_
 refine e8 (b:=r) (i:=6) (v:=p.sp) ?_
 refine r7 (b:=x1) (v:=toU m) ?_
 refine Y1 fun x7=>?_
 refine e8 (b:=r) (i:=6) (v:=p.sp) ?_
 refine A1p ?_ rfl
 refine A9I (b:=x7) (xs:=T1.aT) (enc:=Z6) (s:=p.sp) m (fun s'=>?_) fu
 refine W4 ?_
 refine A4j (b:=r) (i:=6) (cs':=rbC ⟨p.tb,p.sb,p.kb,p.sc,p.so,s'⟩ full) ?_
 refine W.rb (O:=O) (⟨T1.b,T1.outs,T1.aT++[m]⟩:U7) ⟨p.tb,p.sb,p.kb,p.sc,p.so,s'⟩ ?_
 exact U2 hq.sub
theorem C1U{α:Type}{l:List α}{a i:Nat}(h:i<l.length):(l.take (i+1)).eraseIdx a=(l.take i).eraseIdx a++(if i=a then[] else[l[i]]):=by
 rw[C7 h]
 have hl:(l.take i).length=i:=by rw[E6];omega
 by_cases e:i=a
 ·subst e
  have e1:(l.take i++[l[i]]).eraseIdx i=l.take i++[l[i]].eraseIdx (i-(l.take i).length):=List.eraseIdx_append_of_length_le (T4 hl) _
  have e2:(l.take i).eraseIdx i=l.take i:=List.eraseIdx_of_length_le (T4 hl)
  rw[if_pos rfl,C1,e1,e2,hl,Q3]
  simp only[List.eraseIdx_zero,List.tail_cons,C1]
 ·rw[if_neg e]
  by_cases h2:a<i
  ·exact List.eraseIdx_append_of_lt_length (by omega) _
  ·have e3:(l.take i++[l[i]]).eraseIdx a=l.take i++[l[i]]:=List.eraseIdx_of_length_le (by rw[B5,hl];simp only[B8,H2];omega)
   have e4:(l.take i).eraseIdx a=l.take i:=List.eraseIdx_of_length_le (by omega)
   rw[e3,e4]
theorem C0t{c:Int}:∀{l:List X2} {a:Nat},(l.map (·.c)).Nodup→atC c l=some a→l.eraseIdx a=l.filter fun y=>decide (y.c≠c)
 |[],a,_,h=>by cases h
 |x::l,a,hn,h=>by
  unfold atC at h
  rw[List.findIdx?_cons] at h
  rw[B6,F8] at hn
  by_cases e:x.c=c
  ·rw[if_pos (by simpa using e)] at h
   cases h
   rw[List.eraseIdx_zero,List.tail_cons,G0 (by simpa using e)]
   symm
   refine G9.2 fun y hy=>?_
   have:y.c≠c:=fun e2=>hn.1 (by rw[e,←e2];exact B3 hy)
   simpa using this
  ·rw[if_neg (by simpa using e)] at h
   cases hf:List.findIdx? (fun x=>decide (x.c=c)) l with
   |none=>rw[hf] at h;cases h
   |some j=>
    rw[hf] at h
    cases h
    rw[List.eraseIdx_cons_succ,G8 (by simpa using e),C0t hn.2 hf]
theorem B8w{r:Nat}{full:Bool}{O:Slc→List l4→Asn}{T:U7}{c:Int}{aX:Bool}(hO:A8Z O)(ag:j8 T.b)(hz:Szs T.b)(hb:T.outs.length≤50000000)(hp:T.aT.length≤1000000000)
  (hq:At (rbA r full O (A3S full c aX T)::L1) (Q (.tuple #[])))(hx:Has L (rbA r full O T) L1:=by repeat first|with_reducible exact V0|apply V2):
  FW prog 87 #[at0 r,.int .i64 c,.bool aX] L Q:=by
 refine fun h hs=>B37 (some ⟨r,0,none⟩) c aX h Q ((?_:W (rbA r full O T::L1) _ _) h (hx.s hs))
 clear hs h hx
 have aQ:=hz.aB
 unfold A3S at hq
 delta B7i ad az bn cb ci cx g7 ie ix jb ji kb kc kp nn nw pu sn sx ve vi vs w5 w6 w7 wi
 cases ha:atC c T.b.aB with
 |none=>
  rw[B15.1 ha] at hq
  refine j1 (B5j (O:=O) (T:=T) (c:=c) aQ (At.un (x:=(-1:Int)) ?_ (by rw[ha];rfl)))
  exact X6 rfl (U2 hq)
 |some i=>
  obtain⟨x,sL,la,kP⟩:=C0M ha
  rw[la] at hq
  simp only at hq
  have ah:i<T.b.aB.length:=(E0.1 sL).1
  refine j1 (B5j (O:=O) (T:=T) (c:=c) aQ (At.un (x:=(i:Int)) ?_ (by rw[ha];rfl)))
  refine W6 (decide_eq_false (by omega)) ?_
  refine W4 ?_
  refine A2m (g:=fun p R=>rbL r full O T p R) (fun h R=>A0L.1) fun p=>?_
  refine Y9 (Y0 (enc:=A0b) (size:=8) (s:=p.sc) (xs:=T.b.aB)) fun hl=>?_
  refine e8 (b:=r) (i:=3) (v:=p.sc) ?_
  refine j4 (enc:=A0b) (xs:=T.b.aB) (i:=i) ah (fun a dJ=>?_)
  refine B3d (x:=x) (v:=rcU x) dJ sL ?_
  refine Y1 fun x6=>?_
  refine y8 (b:=x6) ?_
  refine W.cells (b:=x6) (A0b x).toArray ?_
  refine B67 A0b 8 ((T.b.aB.take 0).eraseIdx i) ?_
  refine W.loop (γ:=Nat) (fun g s=>s.2.1=(g:Int)∧g≤T.b.aB.length) (fun g s=>U5 A0b 8 s.1 ((T.b.aB.take g).eraseIdx i)::cells x6 (A0b x).toArray::rbL r full O T p L1) (fun g=>T.b.aB.length-g) 0 ⟨rfl,D1 _⟩ ?_ ?_
  ·show Sub _ (U5 A0b 8 ⟨none,0,0⟩ ((T.b.aB.take 0).eraseIdx i)::cells x6 (A0b x).toArray::rbL r full O T p L1)
   repeat(first|with_reducible exact T6|with_reducible exact T7|refine T8 (by repeat first|with_reducible exact V0|apply V2) ?_|refine U0 ?_)
  rintro k s ⟨hk,kf⟩ K k1 k2
  refine W4 ?_
  refine e8 (b:=r) (i:=3) (v:=p.sc) ?_
  by_cases cd:k<T.b.aB.length
  ·refine X6 (by rw[hk,hl];exact decide_eq_true (by omega)) ?_
   have qw:T.b.aB[k]? =some T.b.aB[k]:=B0 cd
   have sN:IntKind.wrap .i64 (s.2.1+1)=((k+1:Nat):Int):=by rw[hk,V8 (by omega) (by omega)];rfl
   have bx:=fun s'=>k1 (k+1) (s',IntKind.wrap .i64 (s.2.1+1),()) (by omega) ⟨sN,cd⟩
   rw[C1U cd] at bx
   clear k1 k2 hq
   by_cases e:k=i
   ·rw[if_pos e,C1] at bx
    refine o0 (by rw[hk,e];simp) (b6 (U2 ?_))
    exact(bx s.1).sub
   ·rw[if_neg e] at bx
    refine A1k (by rw[hk];simp;omega) ?_
    refine X3 (W4 ?_)
    refine X3 (e8 (b:=r) (i:=3) (v:=p.sc) ?_)
    refine X3 (j4 (enc:=A0b) (xs:=T.b.aB) (i:=k) cd (fun a3 jT=>?_) (he:=hk))
    refine X3 (B3d (x:=T.b.aB[k]) (v:=rcU T.b.aB[k]) jT qw ?_)
    refine X3 (Y1 fun mw=>?_)
    have xH:(((T.b.aB.take k).eraseIdx i).length+1)*88≤140737488355328:=by
     have h1:=List.length_eraseIdx_le (T.b.aB.take k) i
     rw[E6] at h1
     omega
    refine X3 (A9I (b:=mw) (s:=s.1) (xs:=(T.b.aB.take k).eraseIdx i) (enc:=A0b) T.b.aB[k] (fun s'=>?_) xH)
    exact b6 (U2 (bx s').sub)
  ·refine W6 (by rw[hk,hl];exact decide_eq_false (by omega)) (U2 (k2 _ _ ?_))
   rw[D6 (by omega),C0t hz.nd ha]
   clear k1 k2
   refine W4 ?_
   refine A4j (b:=r) (i:=3) (cs':=rbC ⟨p.tb,p.sb,p.kb,s.1,p.so,p.sp⟩ full) ?_
   refine W4 ?_
   refine e8 (b:=r) (i:=0) (v:=some ⟨p.tb,0,none⟩) ?_
   refine W.load (b:=x6) (v:=x.aD) ?_
   refine j1 (C7L (b:=p.tb) (A:=T.b.aD) (k:=x.aD) hz.aD ag.nd (At.un ?_))
   have h1:=B81 (k:=x.aD) (ag.conn fun y=>decide (y.c≠c)) (ag.gone la)
   rw[B4B] at hq h1
   simp only at hq h1
   obtain⟨B2,oq⟩:∃B2:Z0,B2=⟨T.b.last,(A4F x.aD T.b.aD).2,if(A4F x.aD T.b.aD).1=true then A1h x.aD T.b.aH else T.b.aH,T.b.kept,T.b.aB.filter fun y=>decide (y.c≠c)⟩:=⟨_,rfl⟩
   rw[←oq] at hq h1
   refine W.cut (fun _=>rbA r full O (tB B2 T)::cells x6 (A0b x).toArray::L1) (fun K2 bd=>?_) (fun _=>?_)
   ·clear hq
    refine A0i (fun hd=>?_) (fun hd=>?_)
    ·rw[if_pos hd] at oq
     subst oq
     refine W4 ?_
     refine e8 (b:=r) (i:=1) (v:=some ⟨p.sb,0,none⟩) ?_
     refine W.load (b:=x6) (v:=x.aD) ?_
     refine j1 (B9N (b:=p.sb) (E:=T.b.aH) (id:=x.aD) ag.aH (At.un (U2 ?_)))
     refine At.rb (O:=O) (tB ⟨T.b.last,(A4F x.aD T.b.aD).2,A1h x.aD T.b.aH,T.b.kept,T.b.aB.filter fun y=>decide (y.c≠c)⟩ T) ⟨p.tb,p.sb,p.kb,s.1,p.so,p.sp⟩ ?_
     exact(bd ()).sub
    ·rw[if_neg (by rw[hd];decide)] at oq
     subst oq
     refine U2 ?_
     refine At.rb (O:=O) (tB ⟨T.b.last,(A4F x.aD T.b.aD).2,T.b.aH,T.b.kept,T.b.aB.filter fun y=>decide (y.c≠c)⟩ T) ⟨p.tb,p.sb,p.kb,s.1,p.so,p.sp⟩ ?_
     exact(bd ()).sub
   have uH:x∈T.b.aB:=E9 sL
   have gz:Szs B2:=hz.ended oq
   have sM:=hz.wl x uH
   clear oq
   cases aX with
   |false=>
    rw[if_neg (by simp)] at hq
    exact o0 rfl (b6 (o0 rfl (b6 (U2 hq.sub))))
   |true=>
    refine A1k rfl ?_
    refine X3 (W.load (b:=x6) (v:=x.bE) ?_)
    cases eK:x.bE with
    |false=>
     rw[if_neg (by simp[eK])] at hq
     exact o0 rfl (b6 (o0 rfl (b6 (U2 hq.sub))))
    |true=>
     refine A1k rfl ?_
     refine X3 (W4 ?_)
     refine A2m (g:=fun p R=>rbL r full O (tB B2 T) p R) (fun h R=>A0L.1) fun p2=>?_
     refine X3 (e8 (b:=r) (i:=4) (v:=full) ?_)
     refine b6 ?_
     refine W.rb (O:=O) (tB B2 T) p2 ?_
     cases full with
     |true=>
      rw[if_neg (by simp)] at hq
      exact o0 rfl (b6 (U2 hq.sub))
     |false=>
      rw[if_pos ⟨rfl,eK,rfl⟩] at hq
      refine A1k rfl ?_
      refine X3 (A7R (b:=x6) (i:=3) (v:=toU x.aX) ?_)
      refine X3 (Z1 (B4W (O:=O) (T:=tB B2 T) (m:=x.aX) hO h1.1 gz hb hp sM (At.bD ?_)))
      exact b6 (U2 hq.sub)
theorem A3I{r:Nat}{full:Bool}{O:Slc→List l4→Asn}{T:U7}{c code:Int}(hO:A8Z O)(ag:j8 T.b)(hz:Szs T.b)(hb:T.outs.length<50000000)(hp:T.aT.length≤1000000000)
  (hq:At (rbA r full O (A0v full c code T)::L1) (Q (.tuple #[])))(hx:Has L (rbA r full O T) L1:=by repeat first|with_reducible exact V0|apply V2):
  FW prog 143 #[at0 r,.int .i64 c,.int .i64 code] L Q:=by
 refine fun h hs=>B0k (some ⟨r,0,none⟩) c code h Q ((?_:W (rbA r full O T::L1) _ _) h (hx.s hs))
 clear hs h hx
 unfold A0v at hq
 delta B0Z cx pu ve vi vz
 refine B66 (k:=.i64) (j3 14 0 code) rfl rfl ?_
 refine Z1 (B8p (O:=O) (T:=T) (c:=c) (o:=j3 14 0 code) (ci:=⟨none,0,0⟩) (pi:=⟨none,0,0⟩) hO (by omega) (At.bD ?_))
 refine Z1 (B8w (O:=O) (T:=A0s ⟨c,j3 14 0 code,true⟩ T) (c:=c) (aX:=true) hO ag hz (by show(T.outs++[_]).length≤_;rw[B5];simp only[B8,H2];omega) hp (At.bD ?_))
 exact U2 hq.sub
end
section
open Go.H Go.Proofs
variable {h h0:Heap} {L L' L1 L2 L3 L4 R:List Asn} {Q:Value→Heap→Prop}
def A0u(nb ob ib:Nat)(id:Int):B4w:=fun b last A=>exA fun s:V7=>A0Q [pr (s∈A∧s.id=id),cells nb (rqC s ob ib),a7 ob s.out,A07 ib s.aZ,A3c b last A s nb]
theorem A4W{nb ob ib b:Nat}{id last:Int}{A:List V7}:sat h (A0u nb ob ib id b last A::R)↔∃s:V7,(s∈A∧s.id=id)∧sat h (cells nb (rqC s ob ib)::a7 ob s.out::A07 ib s.aZ::A3c b last A s nb::R):=by
 unfold A0u
 rw[sat.bA]
 simp only[sat.bV,G5,F2,sat.bC]
theorem A6D{r nb ob ib:Nat}{full:Bool}{id:Int}{O:Slc→List l4→Asn}{T:U7}:∀h R,sat h (rbX r full (A0u nb ob ib id) O T::R)→sat h (rbA r full O T::R):=fun h R hs=>by
 obtain⟨p,h1⟩:=A0w.1 hs
 obtain⟨s,_,h2⟩:=A4W.1 (h1.re [4,0,1,2,3,5,6])
 have h3:=A6x h h2
 exact A0w.2 ⟨p,h3.re [1,2,3,4,0,5,6]⟩
theorem C4X{b nb:Nat}{last k:Int}{A:List V7}{s:V7}{f:V7→V7}(hk:s.id=k)(hn:(A.map (·.id)).Nodup):∀h R,sat h (A3c b last A s nb::R)→sat h (A3c b last (X9 k f A) (f s) nb::R):=fun h R hs=>by
 subst hk
 obtain⟨S,l1,l2,rfl,h1⟩:=A8t.1 hs
 rw[C0,B6] at hn⊢
 rw[A8q hn]
 have e:(l1++(nb,s)::l2).map (·.1)=(l1++(nb,f s)::l2).map (·.1):=by simp
 rw[e] at h1
 exact A8t.2 ⟨S,l1,l2,by simp,h1⟩
theorem B0f{b nb ob ib:Nat}{last k:Int}{A:List V7}{s s':V7}{f:V7→V7}(dT:s∈A)(hk:s.id=k)(hn:(A.map (·.id)).Nodup)(hf:f s=s')(hi:s'.id=s.id):∀h,sat h (cells nb (rqC s' ob ib)::a7 ob s'.out::A07 ib s'.aZ::A3c b last A s nb::R)→sat h (A0u nb ob ib k b last (X9 k f A)::R):=fun h hs=>by
 subst hf
 refine A4W.2 ⟨f s,⟨?_,hi.trans hk⟩,?_⟩
 ·unfold X9
  have:=B3 (f:=fun s=>if s.id=k then f s else s) dT
  rwa[if_pos hk] at this
 ·have h1:=C4X (f:=f) hk hn h _ (hs.re [3,0,1,2])
  exact h1.re [1,2,3,0]
theorem C6E{r nb ob ib:Nat}{full:Bool}{O:Slc→List l4→Asn}{T:U7}{x:X2}{p:Pk}{pl:List p9}{sl:List A0A}{fl:List B3O}(hO:A8Z O)(ag:j8 T.b)(hz:Szs T.b)(ed:∀s∈T.b.aD,s.aZ.ok)(hc:A1o x.c T.b.aB=some x)(hb:T.outs.length<40000000)(hp:T.aT.length≤1000000000)(hsz:p.2.2.2.2.2.1.size≤9223372036854775800)
  (hq:At (rbA r full O (A5s full x (pkI p pl sl fl) T)::L1) (Q (.tuple #[])))(hx:Has L (rbX r full (A0u nb ob ib x.aD) O T) L1:=by repeat first|with_reducible exact V0|apply V2):
  FW prog 141 #[at0 r,.int .i64 x.c,at0 nb,A2s .i64 p] L Q:=by
 refine fun h hs=>B2n (some ⟨r,0,none⟩) x.c (some ⟨nb,0,none⟩) p h Q ((?_:W (rbX r full (A0u nb ob ib x.aD) O T::L1) _ _) h (hx.s hs))
 clear hs h hx
 obtain⟨s,hs,hid⟩:=ag.cl x (A1x hc).1
 unfold A5s at hq
 simp only[A3p ag.nd hs hid] at hq
 delta B4Z az bn ci cx g2 ie jb ji jt kb ki kp nn nw pu ve vi vs
 refine Y1 fun x1=>?_
 refine W.load (b:=x1) (v:=p.2.2.2.2.2.1) ?_
 refine j1 (C2I hsz (At.un (x:=A2Q p.2.2.2.2.2.1) ?_))
 refine A02 (fun r=>r.1=(decide (p.1=3)&& !Z4 p.2.2.2.2.2.1)) (fun K hK=>?_) (fun r0 hr=>?_)
 ·refine W.load (b:=x1) (v:=p.1) ?_
  refine A0i (fun h3=>?_) (fun h3=>?_)
  ·refine U2 (At.sub (hK _ ?_))
   simp only[P9] at h3
   simp only[h3,decide_true,G3]
   unfold A2Q
   cases Z4 p.2.2.2.2.2.1<;>rfl
  ·refine U2 (hK _ ?_)
   simp only[H5,ne_eq] at h3
   simp[h3]
 obtain⟨r0,_⟩:=r0
 simp only at hr
 subst hr
 by_cases al:p.1=3∧Z4 p.2.2.2.2.2.1=false
 ·rw[if_pos al] at hq
  refine X6 (by simp[al.1,al.2]) ?_
  refine B9i (A:=rbX r full (A0u nb ob ib x.aD) O T) (B:=rbA r full O T) (fun h R hs=>A6D h R hs) ?_
  refine Z1 (A3I (O:=O) (T:=T) (c:=x.c) (code:=144) hO ag hz (by omega) hp (At.bD ?_))
  exact U2 hq.sub
 rw[if_neg al] at hq
 refine W6 (by
  by_cases e:p.1=3
  ·have:Z4 p.2.2.2.2.2.1=true:=by
    cases hn:Z4 p.2.2.2.2.2.1
    ·exact absurd ⟨e,hn⟩ al
    ·rfl
   simp[this]
  ·simp[e]) ?_
 refine W4 ?_
 refine A2m (g:=fun p R=>B1j r full (A0u nb ob ib x.aD) O T p R) (fun h R=>A0w.1) fun q=>?_
 refine e8 (b:=r) (i:=4) (v:=full) ?_
 refine A02 (fun r=>r.1=if full=true then 151 else 0) (fun K hK=>A0i (fun e=>U2 (hK _ (if_pos e).symm)) (fun e=>U2 (hK _ (if_neg (by simp[e])).symm))) (fun r0 hr=>?_)
 obtain⟨why,_⟩:=r0
 simp only at hr
 rw[←hr] at hq
 clear hr al
 refine B9j (fun h R hs=>(A4W (b:=q.tb) (last:=T.b.last) (A:=T.b.aD)).1 hs) fun s' af=>?_
 have rD:s'=s:=A86 (f:=(·.id)) ag.nd af.1 hs (af.2.trans hid.symm)
 subst rD
 clear af
 refine W4 ?_
 refine W.load (b:=nb) (v:=some ⟨ib,0,none⟩) ?_
 refine r7 (b:=x1) (v:=p) ?_
 refine Z1 (C6H (f:=ib) (s:=s'.aZ) (p:=p) (why:=why) (ed s' hs) (fun S=>At.bD (x:=((l8 s'.aZ p.1 p.2.2.2.1 p.2.2.2.2.1 why).1,S,(l8 s'.aZ p.1 p.2.2.2.1 p.2.2.2.2.1 why).2.2.1,())) ?_))
 generalize hR:l8 s'.aZ p.1 p.2.2.2.1 p.2.2.2.2.1 why=rr at hq⊢
 have dx:=hz.withS (k:=x.aD) (f:=j2 ⟨s'.aZ.most,s'.aZ.taken,rr.2.2.2⟩)
 have aL:j8 (A0y (X9 x.aD (j2 ⟨s'.aZ.most,s'.aZ.taken,rr.2.2.2⟩) T.b.aD) T).b:=ag.fF
 by_cases av:rr.2.2.1=0
 ·rw[if_neg (by simpa using av)] at hq
  refine W6 (by simp[av]) ?_
  refine W4 ?_
  refine W.load (b:=nb) (v:=s'.id) ?_
  rw[hid]
  refine B0J (A:=A0u nb ob ib x.aD q.tb T.b.last (X9 x.aD (j2 ⟨s'.aZ.most,s'.aZ.taken,rr.2.2.2⟩) T.b.aD)) (B:=cells nb (rqC s' ob ib)) (C:=a7 ob s'.out) (D:=A07 ib ⟨s'.aZ.most,s'.aZ.taken,rr.2.2.2⟩) (E:=A3c q.tb T.b.last T.b.aD s' nb) (fun h ae=>B0f (f:=j2 ⟨s'.aZ.most,s'.aZ.taken,rr.2.2.2⟩) hs hid ag.nd rfl rfl h ae) ?_
  refine W.dY (X:=A0u nb ob ib x.aD) (O:=O) (A0y (X9 x.aD (j2 ⟨s'.aZ.most,s'.aZ.taken,rr.2.2.2⟩) T.b.aD) T) q ?_
  have kl:(A3w rr.2.1 p.2.2.2.2.1).length≤1:=by unfold A3w;split<;>simp
  refine Z1 (A4X (X:=A0u nb ob ib x.aD) (O:=O) (T:=A0y (X9 x.aD (j2 ⟨s'.aZ.most,s'.aZ.taken,rr.2.2.2⟩) T.b.aD) T) (id:=x.aD) (ps:=A3w rr.2.1 p.2.2.2.2.1) hO (ag.one x.aD) (by simp only;omega) hz.aB (At.bD ?_))
  have sQ:(T.outs++A1H T.b.aB x.aD (A3w rr.2.1 p.2.2.2.2.1)).length≤50000000:=by
   rw[B5];have:=A82 (A3w rr.2.1 p.2.2.2.2.1) (ag.one x.aD);omega
  refine B9i (A:=rbX r full (A0u nb ob ib x.aD) O (p6 x.aD (A3w rr.2.1 p.2.2.2.2.1) (A0y (X9 x.aD (j2 ⟨s'.aZ.most,s'.aZ.taken,rr.2.2.2⟩) T.b.aD) T))) (B:=rbA r full O (p6 x.aD (A3w rr.2.1 p.2.2.2.2.1) (A0y (X9 x.aD (j2 ⟨s'.aZ.most,s'.aZ.taken,rr.2.2.2⟩) T.b.aD) T))) (fun h R hs=>A6D h R hs) ?_
  cases hf:rr.1 with
  |false=>
   rw[if_neg (by simp[hf])] at hq
   exact o0 rfl (b6 (o0 rfl (b6 (U2 hq.sub))))
  |true=>
   refine A1k rfl ?_
   refine X3 (W4 ?_)
   refine A2m (g:=fun q' R=>rbL r full O (p6 x.aD (A3w rr.2.1 p.2.2.2.2.1) (A0y (X9 x.aD (j2 ⟨s'.aZ.most,s'.aZ.taken,rr.2.2.2⟩) T.b.aD) T)) q' R) (fun h R=>A0L.1) fun p2=>?_
   refine X3 (e8 (b:=r) (i:=4) (v:=full) ?_)
   refine b6 ?_
   refine W.rb (O:=O) (p6 x.aD (A3w rr.2.1 p.2.2.2.2.1) (A0y (X9 x.aD (j2 ⟨s'.aZ.most,s'.aZ.taken,rr.2.2.2⟩) T.b.aD) T)) p2 ?_
   cases full with
   |true=>
    rw[if_neg (by simp)] at hq
    exact o0 rfl (b6 (U2 hq.sub))
   |false=>
    rw[if_pos ⟨hf,rfl⟩] at hq
    refine A1k rfl ?_
    refine X3 (W.load (b:=x1) (v:=p.2.2.2.2.2.1) ?_)
    refine X3 (W.load (b:=x1) (v:=p.2.2.2.2.2.2.1) ?_)
    refine X3 (W.load (b:=x1) (v:=p.2.2.2.1) ?_)
    refine X3 (W.load (b:=x1) (v:=p.2.2.1) ?_)
    refine X3 (Z1 (B4W (O:=O) (m:=(p.2.2.2.2.2.1,p.2.2.2.2.2.2.1,p.2.2.2.1,p.2.2.1,e0S)) (T:=p6 x.aD (A3w rr.2.1 p.2.2.2.2.1) (A0y (X9 x.aD (j2 ⟨s'.aZ.most,s'.aZ.taken,rr.2.2.2⟩) T.b.aD) T)) hO aL dx sQ hp hsz (At.bD ?_)))
    exact b6 (U2 hq.sub)
 ·rw[if_pos (by simpa using av)] at hq
  refine X6 (by simp[av]) ?_
  refine B0J (A:=A0q q.tb T.b.last (X9 x.aD (j2 ⟨s'.aZ.most,s'.aZ.taken,rr.2.2.2⟩) T.b.aD)) (B:=cells nb (rqC s' ob ib)) (C:=a7 ob s'.out) (D:=A07 ib ⟨s'.aZ.most,s'.aZ.taken,rr.2.2.2⟩) (E:=A3c q.tb T.b.last T.b.aD s' nb) (fun h ae=>A4V (f:=j2 ⟨s'.aZ.most,s'.aZ.taken,rr.2.2.2⟩) hid ag.nd rfl h ae) ?_
  refine W.rb (O:=O) (A0y (X9 x.aD (j2 ⟨s'.aZ.most,s'.aZ.taken,rr.2.2.2⟩) T.b.aD) T) q ?_
  refine Z1 (A3I (O:=O) (T:=A0y (X9 x.aD (j2 ⟨s'.aZ.most,s'.aZ.taken,rr.2.2.2⟩) T.b.aD) T) (c:=x.c) (code:=rr.2.2.1) hO aL dx (by simp only;omega) hp (At.bD ?_))
  exact U2 hq.sub
end
section
open Go.H Go.Proofs
variable {h h0:Heap} {L L' L1 L2 L3 L4 R:List Asn} {Q:Value→Heap→Prop}
theorem C1l{b:Nat}{E:List Ent}{id:Int}{f:B3O}(hl:E.length≤10000)(hq:At (A0D b (A1L E id f)::L1) (Q (.bool (decide ((A1L E id f).length<E.length)))))(hx:Has L (A0D b E) L1:=by repeat first|with_reducible exact V0|apply V2):
  FW prog 198 #[at9 b,.int .i64 id,.string f] L Q:=fun h hs=>B8x hl (hx.s hs) fun h' af=>hq h' af
theorem C6K{t:Nat}{E:List Ent}{id q:Int}{f:B3O}(hsz:f.size≤9223372036854775800)(hl:E.length≤10000)(hq:At (A0D t (A2J E id f q).2::L1) (Q (.int .i64 (A2J E id f q).1)))(hx:Has L (A0D t E) L1:=by repeat first|with_reducible exact V0|apply V2):
  FW prog 196 #[at9 t,C4F id f q] L Q:=fun h hs=>by
 unfold A2J at hq
 refine C3I hsz hl (hx.s hs) (fun hb h' af=>?_) (fun hb dV h' af=>?_) (fun hb q0 q1 i x hi hk uh h' af=>?_) (fun hb q0 q1 ax hc h' af=>?_) (fun hb q0 q1 ax hc h' af=>?_)
 ·rw[if_pos hb] at hq;exact hq h' af
 ·rw[if_neg (by simp[hb]),if_pos dV] at hq;exact hq h' af
 ·rw[if_neg (by simp[hb]),if_neg (by omega)] at hq
  have hf:E.findIdx? (fun x=>decide (b7 x=(id,f)))=some i:=by
   obtain⟨ah,hx⟩:=E0.1 hi
   refine J5.2 ⟨ah,by simp[hx,hk],fun j hj=>?_⟩
   have:=uh E[j] (List.mem_take_iff_getElem.2 ⟨j,by omega,rfl⟩)
   simpa using this
  rw[hf] at hq
  exact hq h' af
 ·rw[if_neg (by simp[hb]),if_neg (by omega),O4.2 (fun x hx=>by simpa using ax x hx)] at hq
  simp only[if_pos hc] at hq
  exact hq h' af
 ·rw[if_neg (by simp[hb]),if_neg (by omega),O4.2 (fun x hx=>by simpa using ax x hx)] at hq
  simp only[if_neg (Nat.not_le.2 hc)] at hq
  exact hq h' af
theorem C3a{β:Type}{Q':β→Heap→Prop}{nb ob ib b:Nat}{id last:Int}{A:List V7}{f:Int→HM β}(hw:W L (f id) Q')(hx:Has L (A0u nb ob ib id b last A) L1:=by repeat first|with_reducible exact V0|apply V2):
  W L (HM.bind (l6 (.int .i64) (Addr.add ⟨nb,0,none⟩ 0)) f) Q':=fun h hs=>by
 obtain⟨s,⟨_,hid⟩,h2⟩:=A4W.1 (hx.s hs)
 refine⟨id,?_,hw h hs⟩
 rw[U3,h2.cell 0,←hid]
 rfl
theorem B4U{r nb ob ib:Nat}{full:Bool}{T:U7}{x:X2}{p:Pk}{pl:List p9}{sl:List A0A}{fl:List B3O}(ag:j8 T.b)(hb:T.outs.length≤10000000)(hn:fl.length≤100)
  (hq:At (rbA r full (V9 .i64) (A1e x (pkI p pl sl fl) T)::L2) (Q (.tuple #[])))(hx:Has L (rbX r full (A0u nb ob ib x.aD) (V9 .i64) T) L1:=by repeat first|with_reducible exact V0|apply V2)(hz:Has L1 (U5 A0a 1 (A4o p) fl) L2:=by repeat first|with_reducible exact V0|apply V2):
  FW prog 145 #[at0 r,.int .i64 x.c,at0 nb,A2s .i64 p] L Q:=by
 refine fun h hs=>A6A (some ⟨r,0,none⟩) x.c (some ⟨nb,0,none⟩) p h Q ((?_:W (rbX r full (A0u nb ob ib x.aD) (V9 .i64) T::U5 A0a 1 (A4o p) fl::L2) _ _) h ((hx.then hz).s hs))
 clear hs h hx hz
 unfold A1e at hq
 simp only at hq
 obtain⟨EF,jr⟩:∃EF,EF=(A0H x.aD fl T.b.aH).1:=⟨_,rfl⟩
 obtain⟨CF,ja⟩:∃CF,CF=(A0H x.aD fl T.b.aH).2:=⟨_,rfl⟩
 rw[←jr,←ja] at hq
 delta A5y az bn cb cx g2 ie ix jc ji ki kp lt nn nw pu sn sw ve vi vs vz wi
 refine Y1 fun x1=>?_
 refine W.load (b:=x1) (v:=p.2.2.2.2.1) ?_
 refine Y1 fun x3=>?_
 refine y8 ?_
 refine A4L (eKd .i64) 1 ?_
 refine W.cells (b:=x3) (W8 .i64 (pkT (j3 11 (p.2.2.2.2.1) 0) ⟨none,0,0⟩ ⟨none,0,0⟩)).toArray ?_
 refine Y9 (Y0 (enc:=A0a) (size:=1) (s:=A4o p) (xs:=fl)) fun hl=>?_
 refine W.loop (γ:=Nat×List Ent×List Int×Slc) (fun g s=>s.1=(g.1:Int)∧g.1≤fl.length∧g.2.1.length≤T.b.aH.length∧(A0H x.aD (fl.drop g.1) g.2.1).1=EF∧g.2.2.1++(A0H x.aD (fl.drop g.1) g.2.1).2=CF∧g.2.2.1.length=g.1)
  (fun g s=>rbX r full (A0u nb ob ib x.aD) (V9 .i64) (A09 g.2.1 T)::U5 (eKd .i64) 1 g.2.2.2 g.2.2.1::cells x3 (W8 .i64 (pkT (j3 11 (p.2.2.2.2.1) 0) g.2.2.2 ⟨none,0,0⟩)).toArray::cells x1 (aS2 p)::U5 A0a 1 (A4o p) fl::L2)
  (fun g=>fl.length-g.1) (0,T.b.aH,[],⟨none,0,0⟩) ⟨rfl,D1 _,D9 _,jr.symm,ja.symm,rfl⟩ ?_ ?_
 ·show Sub _ (rbX r full (A0u nb ob ib x.aD) (V9 .i64) T::U5 (eKd .i64) 1 ⟨none,0,0⟩ ([]:List Int)::cells x3 (W8 .i64 (pkT (j3 11 (p.2.2.2.2.1) 0) ⟨none,0,0⟩ ⟨none,0,0⟩)).toArray::cells x1 (aS2 p)::U5 A0a 1 (A4o p) fl::L2)
  repeat(first|with_reducible exact T6|with_reducible exact T7|refine T8 (by repeat first|with_reducible exact V0|apply V2) ?_|refine U0 ?_)
 rintro⟨i,E,cs,cS⟩ s ⟨hi,cK,lr,cL,cO,aQ⟩ K k1 k2
 simp only at hi cK lr cL cO aQ
 refine W.load (b:=x1) (v:=A4o p) ?_
 by_cases ah:i<fl.length
 ·refine X6 (by rw[hi,hl];exact decide_eq_true (by omega)) ?_
  have bh:fl.drop i=fl[i]::fl.drop (i+1):=E1 ah
  have aY:fl[i]? =some fl[i]:=B0 ah
  rw[bh] at cL cO
  generalize fl[i]=u at aY cL cO
  clear bh
  unfold A0H at cL cO
  simp only at cL cO
  have bg:=ag.aH
  refine W4 ?_
  refine A2m (g:=fun q R=>B1j r full (A0u nb ob ib x.aD) (V9 .i64) (A09 E T) q R) (fun h R=>A0w.1) fun q=>?_
  refine e8 (b:=r) (i:=1) (v:=some ⟨q.sb,0,none⟩) ?_
  refine W4 ?_
  refine C3a ?_
  refine W.load (b:=x1) (v:=A4o p) ?_
  refine j4 (enc:=A0a) (xs:=fl) (i:=i) ah (fun a ha=>?_) (he:=hi)
  refine B6F (x:=u) (v:=u) ha aY ?_
  refine j1 (C1l (b:=q.sb) (E:=E) (id:=x.aD) (f:=u) (by omega) (At.un ?_))
  refine W.dY (X:=A0u nb ob ib x.aD) (O:=V9 .i64) (A09 (A1L E x.aD u) T) q ?_
  refine A02 (fun a=>a.1=if(A1L E x.aD u).length<E.length then 0 else 17) (fun K2 bd=>A0i (fun e=>U2 (bd _ (if_pos (by simpa using e)).symm)) (fun e=>U2 (bd _ (if_neg (by simpa using e)).symm))) (fun a jZ=>?_)
  refine W.load (b:=x3) (v:=cS) ?_
  refine C6d (enc:=eKd .i64) (xs:=cs) (s:=cS) a.1 (fun s'=>?_) (by omega)
  refine W.store (cs':=(W8 .i64 (pkT (j3 11 (p.2.2.2.2.1) 0) s' ⟨none,0,0⟩)).toArray) ?_
  have om:(A1L E x.aD u).length≤T.b.aH.length:=C4 C0A lr
  have f1:IntKind.wrap .i64 (s.1+1)=((i+1:Nat):Int):=by rw[hi,V8 (by omega) (by omega)];rfl
  have f2:(cs++[a.1])++(A0H x.aD (fl.drop (i+1)) (A1L E x.aD u)).2=CF:=by rw[jZ,D2];exact cO
  have hn:=k1 (i+1,A1L E x.aD u,cs++[a.1],s') (IntKind.wrap .i64 (s.1+1),()) (by simp only;omega) ⟨f1,ah,om,cL,f2,by simp[aQ]⟩
  exact U2 hn.sub
 ·refine W6 (by rw[hi,hl];exact decide_eq_false (by omega)) (U2 (k2 _ _ ?_))
  have ej:i=fl.length:=by omega
  subst ej
  rw[K7] at cL cO
  simp only[A0H,C1] at cL cO
  subst cL cO
  refine r7 (b:=x3) (v:=pkT (A0S 11 (p.2.2.2.2.1) cs) cS ⟨none,0,0⟩) ?_
  refine A4L X1 4 ?_
  refine W.cY (A:=pkB .i64 (cS,⟨none,0,0⟩,A0S 11 (p.2.2.2.2.1) cs)) (B:=U5 (eKd .i64) 1 cS cs) (C:=U5 X1 4 ⟨none,0,0⟩ ([]:List p9)) (fun h hs=>A4C.2 hs) ?_
  refine Z1 (B4x (X:=A0u nb ob ib x.aD) (O:=V9 .i64) (T:=A09 E T) (c:=x.c) (o:=A0S 11 (p.2.2.2.2.1) cs) (ci:=cS) (pi:=⟨none,0,0⟩) A35 (by show T.outs.length≤_;omega) (At.bD ?_))
  refine B9i (A:=rbX r full (A0u nb ob ib x.aD) (V9 .i64) (A0s ⟨x.c,A0S 11 (p.2.2.2.2.1) cs,false⟩ (A09 E T))) (B:=rbA r full (V9 .i64) (A0s ⟨x.c,A0S 11 (p.2.2.2.2.1) cs,false⟩ (A09 E T))) (fun h R hs=>A6D h R hs) ?_
  exact U2 hq.sub
end
section
open Go.H Go.Proofs
variable {h h0:Heap} {L L' L1 L2 L3 L4 R:List Asn} {Q:Value→Heap→Prop}
theorem C59{E:List Ent}{id q:Int}{f:B3O}(h:(A2J E id f q).1≠0):128≤(A2J E id f q).1:=by
 revert h
 unfold A2J
 split
 ·intro _;show(128:Int)≤_;omega
 ·split
  ·intro _;show(128:Int)≤_;omega
  ·split
   ·intro h;exact absurd rfl h
   ·split
    ·intro _;show(128:Int)≤_;omega
    ·intro h;exact absurd rfl h
theorem A5E{id:Int}{f:Z5→Z5×List PkO}{T:U7}:(A0F id f T).b.aB=T.b.aB:=by
 unfold A0F;split<;>rfl
theorem A9V{id:Int}(T:U7)(s:A0A):(i7 id T s).b.aB=T.b.aB:=by
 unfold i7
 split
 ·rfl
 ·have:∀(l:List j7) (T:U7),(l.foldl (A0M id s) T).b.aB=T.b.aB:=by
   intro l
   induction l with
   |nil=>intro T;rfl
   |cons m l ih=>intro T;exact(ih _).trans A5E
  exact this _ T
theorem C45{r i:Nat}{full:Bool}{X:B4w}{c p:Slc}{pk:PkO}{T:U7}:∀h,sat h (rbX r full X (A8z i c p pk) T::pkB .i64 (c,p,pk)::R)→sat h (rbX r full X (V9 .i64) T::R):=fun h hs=>by
 obtain⟨q,h1⟩:=A0w.1 hs
 exact A0w.2 ⟨q,(C1q h (h1.re [1,7,0,2,3,4,5,6])).re [1,0,2,3,4,5,6]⟩
theorem B8o{r nb ob ib:Nat}{full:Bool}{T:U7}{x:X2}{p:Pk}{pl:List p9}{sl:List A0A}{fl:List B3O}(ag:j8 T.b)(hz:Szs T.b)(hc:A1o x.c T.b.aB=some x)(hb:T.outs.length≤10000000)(hE:T.b.aH.length+sl.length≤10000)(hn:sl.length≤100)
  (hsz:∀s∈sl,s.1.size≤9223372036854775800)
  (hq:At (rbA r full (V9 .i64) (A0W x (pkI p pl sl fl) T)::L2) (Q (.tuple #[])))(hx:Has L (rbX r full (A0u nb ob ib x.aD) (V9 .i64) T) L1:=by repeat first|with_reducible exact V0|apply V2)(hy:Has L1 (U5 Y2 5 (A0E p) sl) L2:=by repeat first|with_reducible exact V0|apply V2):
  FW prog 144 #[at0 r,.int .i64 x.c,at0 nb,A2s .i64 p] L Q:=by
 refine fun h hs=>A8c (some ⟨r,0,none⟩) x.c (some ⟨nb,0,none⟩) p h Q ((?_:W (rbX r full (A0u nb ob ib x.aD) (V9 .i64) T::U5 Y2 5 (A0E p) sl::L2) _ _) h ((hx.then hy).s hs))
 clear hs h hx hy
 obtain⟨sx,rC,iu⟩:=ag.cl x (A1x hc).1
 unfold A0W at hq
 simp only at hq
 obtain⟨EF,jr⟩:∃EF,EF=(j6 x.aD sl T.b.aH).1:=⟨_,rfl⟩
 obtain⟨CF,ja⟩:∃CF,CF=(j6 x.aD sl T.b.aH).2:=⟨_,rfl⟩
 rw[←jr,←ja] at hq
 delta A7X az bn cc ci cx g2 g6 ie ix jc ji jt ki kp kt li nn nw pu sn sw ve vi vs vz wi
 refine Y1 fun x1=>?_
 refine W.load (b:=x1) (v:=p.2.2.2.2.1) ?_
 refine Y1 fun x3=>?_
 refine y8 ?_
 refine A4L (eKd .i64) 1 ?_
 refine W.cells (b:=x3) (W8 .i64 (pkT (j3 9 (p.2.2.2.2.1) 0) ⟨none,0,0⟩ ⟨none,0,0⟩)).toArray ?_
 refine Y9 (Y0 (enc:=Y2) (size:=5) (s:=A0E p) (xs:=sl)) fun hl=>?_
 refine W.loop (γ:=Nat×List Ent×List Int×Slc) (fun g s=>s.1=(g.1:Int)∧g.1≤sl.length∧j8 (B30 g.2.1 T.b)∧g.2.1.length≤T.b.aH.length+g.1∧(j6 x.aD (sl.drop g.1) g.2.1).1=EF∧g.2.2.1++(j6 x.aD (sl.drop g.1) g.2.1).2=CF∧g.2.2.1.length=g.1)
  (fun g s=>rbX r full (A0u nb ob ib x.aD) (V9 .i64) (A09 g.2.1 T)::U5 (eKd .i64) 1 g.2.2.2 g.2.2.1::cells x3 (W8 .i64 (pkT (j3 9 (p.2.2.2.2.1) 0) g.2.2.2 ⟨none,0,0⟩)).toArray::cells x1 (aS2 p)::U5 Y2 5 (A0E p) sl::L2)
  (fun g=>sl.length-g.1) (0,T.b.aH,[],⟨none,0,0⟩) ⟨rfl,D1 _,ag,D9 _,jr.symm,ja.symm,rfl⟩ ?_ ?_
 ·show Sub _ (rbX r full (A0u nb ob ib x.aD) (V9 .i64) T::U5 (eKd .i64) 1 ⟨none,0,0⟩ ([]:List Int)::cells x3 (W8 .i64 (pkT (j3 9 (p.2.2.2.2.1) 0) ⟨none,0,0⟩ ⟨none,0,0⟩)).toArray::cells x1 (aS2 p)::U5 Y2 5 (A0E p) sl::L2)
  repeat(first|with_reducible exact T6|with_reducible exact T7|refine T8 (by repeat first|with_reducible exact V0|apply V2) ?_|refine U0 ?_)
 rintro⟨i,E,cs,cS⟩ s ⟨hi,cK,ik,lr,cL,cO,aQ⟩ K k1 k2
 simp only at hi cK ik lr cL cO aQ
 refine W.load (b:=x1) (v:=A0E p) ?_
 by_cases ah:i<sl.length
 ·refine X6 (by rw[hi,hl];exact decide_eq_true (by omega)) ?_
  have bh:sl.drop i=sl[i]::sl.drop (i+1):=E1 ah
  have aY:sl[i]? =some sl[i]:=B0 ah
  have an:sl[i]∈sl:=H3 ah
  rw[bh] at cL cO
  generalize sl[i]=u at aY an cL cO
  clear bh
  unfold j6 at cL cO
  simp only at cL cO
  refine W.load (b:=x1) (v:=A0E p) ?_
  refine j4 (enc:=Y2) (xs:=sl) (i:=i) ah (fun a ha=>?_) (he:=hi)
  refine B3d (x:=u) (v:=sbU u) ha aY ?_
  refine Y1 fun lA=>?_
  refine y8 ?_
  refine W4 ?_
  refine A2m (g:=fun q R=>B1j r full (A0u nb ob ib x.aD) (V9 .i64) (A09 E T) q R) (fun h R=>A0w.1) fun q=>?_
  refine e8 (b:=r) (i:=1) (v:=some ⟨q.sb,0,none⟩) ?_
  refine W4 ?_
  refine C3a ?_
  refine W.load (b:=lA) (v:=u.1) ?_
  refine W.load (b:=lA) (v:=u.2.1) ?_
  have hm:=B6C (E:=E) (id:=x.aD) (f:=u.1) (q:=u.2.1)
  refine j1 (C6K (t:=q.sb) (E:=E) (id:=x.aD) (q:=u.2.1) (f:=u.1) (hsz u an) (by omega) (At.un ?_))
  generalize A2J E x.aD u.1 u.2.1=rr at hm cL cO⊢
  refine W.dY (X:=A0u nb ob ib x.aD) (O:=V9 .i64) (A09 rr.2 T) q ?_
  refine A02 (fun a=>a.1=if rr.1=0 then u.2.1 else rr.1) (fun K2 bd=>?_) (fun a jZ=>?_)
  ·refine A0i (fun e=>?_) (fun e=>U2 (bd _ (if_neg (by simpa using e)).symm))
   refine W.load (b:=lA) (v:=u.2.1) ?_
   exact U2 (At.sub (bd (u.2.1,()) (if_pos (by simpa using e)).symm))
  refine W.load (b:=x3) (v:=cS) ?_
  refine C6d (enc:=eKd .i64) (xs:=cs) (s:=cS) a.1 (fun s'=>?_) (by omega)
  refine W.store (cs':=(W8 .i64 (pkT (j3 9 (p.2.2.2.2.1) 0) s' ⟨none,0,0⟩)).toArray) ?_
  have om:rr.2.length≤T.b.aH.length+(i+1):=by have:=hm.1;omega
  have f1:IntKind.wrap .i64 (s.1+1)=((i+1:Nat):Int):=by rw[hi,V8 (by omega) (by omega)];rfl
  have f2:(cs++[a.1])++(j6 x.aD (sl.drop (i+1)) rr.2).2=CF:=by rw[jZ,D2];exact cO
  have gW:=k1 (i+1,rr.2,cs++[a.1],s') (IntKind.wrap .i64 (s.1+1),()) (by simp only;omega) ⟨f1,ah,ik.fK (by show rr.2.length≤10000;omega) fun e he=>by
     rcases hm.2 e he with he|he
     ·exact .inl he
     ·exact .inr ⟨sx,rC,iu.trans he.symm⟩,om,cL,f2,by simp[aQ]⟩
  exact U2 gW.sub
 ·refine W6 (by rw[hi,hl];exact decide_eq_false (by omega)) (U2 (k2 _ _ ?_))
  have ej:i=sl.length:=by omega
  subst ej
  rw[K7] at cL cO
  simp only[j6,C1] at cL cO
  subst cL cO
  clear k1 k2
  refine r7 (b:=x3) (v:=pkT (A0S 9 (p.2.2.2.2.1) cs) cS ⟨none,0,0⟩) ?_
  refine Z1 (C4Y (X:=A0u nb ob ib x.aD) (T:=A09 E T) (c:=x.c) (o:=A0S 9 (p.2.2.2.2.1) cs) (ci:=cS) (pi:=⟨none,0,0⟩) (by show T.outs.length≤_;omega) (At.bD ?_))
  obtain⟨O,hO⟩:∃O,O=A8z T.outs.length cS ⟨none,0,0⟩ (A0S 9 (p.2.2.2.2.1) cs):=⟨_,rfl⟩
  obtain⟨T1,ck⟩:∃T1,T1=A0s ⟨x.c,A0S 9 (p.2.2.2.2.1) cs,false⟩ (A09 E T):=⟨_,rfl⟩
  have xQ:A8Z O:=by rw[hO];exact C7M
  have aL:j8 T1.b:=by rw[ck];exact ik
  have ea:T1.b.kept=T.b.kept:=by rw[ck]
  have ub:T1.b.aB=T.b.aB:=by rw[ck]
  have jl:T1.b.aD.map (·.id)=T.b.aD.map (·.id):=by rw[ck]
  have fU:T1.outs.length≤10000001:=by rw[ck];show(T.outs++[_]).length≤_;rw[B5];simp only[B8,H2];omega
  have hF:(added x.aD sl T.b.aH).foldl (i7 x.aD) T1=(added x.aD sl T.b.aH).foldl (i7 x.aD) (A0s ⟨x.c,A0S 9 (p.2.2.2.2.1) cs,false⟩ (A09 E T)):=by rw[ck]
  show W (rbX r full (A0u nb ob ib x.aD) (A8z T.outs.length cS ⟨none,0,0⟩ (A0S 9 (p.2.2.2.2.1) cs)) (A0s ⟨x.c,A0S 9 (p.2.2.2.2.1) cs,false⟩ (A09 E T))::_) _ _
  rw[←ck,←hO]
  rw[←hF] at hq
  clear hF
  obtain⟨FF,vN⟩:∃FF,FF=(added x.aD sl T.b.aH).foldl (i7 x.aD) T1:=⟨_,rfl⟩
  rw[←vN] at hq
  refine W.loop (γ:=Nat×U7×List Ent) (fun g s=>s.1=(g.1:Int)∧g.1≤sl.length∧j8 g.2.1.b∧g.2.1.b.kept=T.b.kept∧g.2.1.b.aB=T.b.aB∧g.2.1.b.aD.map (·.id)=T.b.aD.map (·.id)∧(added x.aD (sl.drop g.1) g.2.2).foldl (i7 x.aD) g.2.1=FF∧g.2.1.outs.length≤10000001+20480*g.1∧cs.drop g.1=(j6 x.aD (sl.drop g.1) g.2.2).2)
   (fun g s=>rbX r full (A0u nb ob ib x.aD) O g.2.1::U5 (eKd .i64) 1 cS cs::cells x3 (W8 .i64 (pkT (j3 9 (p.2.2.2.2.1) 0) cS ⟨none,0,0⟩)).toArray::cells x1 (aS2 p)::U5 Y2 5 (A0E p) sl::L2) (fun g=>sl.length-g.1) (0,T1,T.b.aH) ⟨rfl,D1 _,aL,ea,ub,jl,vN.symm,fU,ja⟩ ?_ ?_
  ·show Sub _ (rbX r full (A0u nb ob ib x.aD) O T1::U5 (eKd .i64) 1 cS cs::cells x3 (W8 .i64 (pkT (j3 9 (p.2.2.2.2.1) 0) cS ⟨none,0,0⟩)).toArray::cells x1 (aS2 p)::U5 Y2 5 (A0E p) sl::L2)
   repeat(first|with_reducible exact T6|with_reducible exact T7|refine T8 (by repeat first|with_reducible exact V0|apply V2) ?_|refine U0 ?_)
  rintro⟨j,T2,E2⟩ s2 ⟨hj,tL,bq,gr,iW,jk,fR,dy,ez⟩ K2 m1 m2
  simp only at hj tL bq gr iW jk fR dy ez
  refine W.load (b:=x1) (v:=A0E p) ?_
  by_cases cd:j<sl.length
  ·refine X6 (by rw[hj,hl];exact decide_eq_true (by omega)) ?_
   have bh:sl.drop j=sl[j]::sl.drop (j+1):=E1 cd
   have lM:sl[j]? =some sl[j]:=B0 cd
   have an:sl[j]∈sl:=H3 cd
   rw[bh] at fR ez
   generalize sl[j]=u at lM an fR ez
   clear bh
   have iY:=C59 (E:=E2) (id:=x.aD) (f:=u.1) (q:=u.2.1)
   have hzero:=B3c (E:=E2) (id:=x.aD) (f:=u.1) (q:=u.2.1)
   unfold added at fR
   unfold j6 at ez
   simp only at ez
   generalize A2J E2 x.aD u.1 u.2.1=rr at iY hzero fR ez
   obtain⟨oS,gv⟩:∃h:j<cs.length,cs[j]=(if rr.1=0 then u.2.1 else rr.1):=by
    have ah:j<cs.length:=by
     rcases S8 j cs.length with h|h
     ·exact h
     ·rw[List.drop_eq_nil_of_le h] at ez;cases ez
    rw[E1 ah] at ez
    injection ez with h1 h2
    exact⟨ah,h1⟩
   have la:cs[j]? =some (if rr.1=0 then u.2.1 else rr.1):=by rw[B0 oS,gv]
   have vE:cs.drop (j+1)=(j6 x.aD (sl.drop (j+1)) rr.2).2:=by
    rw[E1 oS] at ez
    injection ez
   clear gv ez
   refine X3 (W.load (b:=x1) (v:=A0E p) ?_)
   refine X3 (j4 (enc:=Y2) (xs:=sl) (i:=j) cd (fun a ha=>?_) (he:=hj))
   refine X3 (B3d (x:=u) (v:=sbU u) ha lM ?_)
   refine X3 (Y1 fun mj=>?_)
   refine X3 (y8 ?_)
   refine X3 (A02 (fun a=>a.1=(decide (rr.1≠0)||decide (u.2.2.2.2=2))) (fun K4 gS=>?_) (fun a jZ=>?_))
   ·refine W.load (b:=x3) (v:=cS) ?_
    refine j4 (enc:=eKd .i64) (xs:=cs) (i:=j) oS (fun a3 jT=>?_) (he:=hj)
    refine B6F (x:=(if rr.1=0 then u.2.1 else rr.1)) (v:=(if rr.1=0 then u.2.1 else rr.1)) jT la ?_
    by_cases hr:rr.1=0
    ·rw[if_pos hr]
     refine W6 (decide_eq_false (by have:=(hzero hr).2;omega)) ?_
     refine W.load (b:=mj) (v:=u.2.2.2.2) ?_
     refine U2 (At.sub (gS _ ?_))
     by_cases e:u.2.2.2.2=2<;>simp[hr,e]
    ·rw[if_neg hr]
     refine X6 (decide_eq_true (iY hr)) ?_
     refine U2 (At.sub (gS _ ?_))
     simp[hr]
   obtain⟨ab,_⟩:=a
   simp only at jZ
   subst jZ
   have f1:IntKind.wrap .i64 (s2.1+1)=((j+1:Nat):Int):=by rw[hj,V8 (by omega) (by omega)];rfl
   by_cases hr:rr.1=0
   ·rw[if_pos hr,G5,F2,I1] at fR
    have kf:T2.b.kept.length≤64:=by rw[gr];exact hz.k64
    have ql:=A7q (id:=x.aD) T2 u kf bq
    have ay:At (rbX r full (A0u nb ob ib x.aD) O (i7 x.aD T2 u)::U5 (eKd .i64) 1 cS cs::cells x3 (W8 .i64 (pkT (j3 9 (p.2.2.2.2.1) 0) cS ⟨none,0,0⟩)).toArray::cells x1 (aS2 p)::U5 Y2 5 (A0E p) sl::L2) (K2 (.inl (IntKind.wrap .i64 (s2.1+1),()))):=by
     refine m1 (j+1,i7 x.aD T2 u,rr.2) (IntKind.wrap .i64 (s2.1+1),()) (by simp only;omega) ⟨f1,cd,ql.ok,(A7r T2 u).trans gr,(A9V T2 u).trans iW,(B3L T2 u).trans jk,fR,?_,vE⟩
     have:=ql.outs;simp only;omega
    clear m1 m2 fR
    by_cases h2:u.2.2.2.2=2
    ·refine A1k (by simp[h2]) ?_
     have e:i7 x.aD T2 u=T2:=if_pos h2
     rw[e] at ay
     exact b6 (U2 ay.sub)
    ·refine o0 (by simp[hr,h2]) ?_
     have e:i7 x.aD T2 u=(A56 T2.b.kept u.1).foldl (A0M x.aD u) T2:=if_neg h2
     rw[e] at ay
     refine X3 (W4 ?_)
     refine A2m (g:=fun q R=>B1j r full (A0u nb ob ib x.aD) O T2 q R) (fun h R=>A0w.1) fun q=>?_
     refine X3 (e8 (b:=r) (i:=2) (v:=some ⟨q.kb,0,none⟩) ?_)
     refine X3 (W.load (b:=mj) (v:=u.1) ?_)
     refine X3 (j1 (C7K (b:=q.kb) (K:=T2.b.kept) (f:=u.1) kf (fun m hm=>hz.kept m (gr▸hm)) (hsz u an) (fun S=>At.un (x:=S) ?_)))
     refine W.dY (X:=A0u nb ob ib x.aD) (O:=O) T2 q ?_
     have tQ:(A56 T2.b.kept u.1).length≤64:=C4 (D4 _ _) kf
     generalize A56 T2.b.kept u.1=M at tQ ay⊢
     refine Y9 (Y0 (enc:=A0c) (size:=3) (s:=S) (xs:=M)) fun kX=>?_
     refine X3 (W.loop (γ:=Nat×U7) (fun g s=>s.1=(g.1:Int)∧g.1≤M.length∧j8 g.2.b∧g.2.b.aB=T.b.aB∧g.2.b.aD.map (·.id)=T.b.aD.map (·.id)∧(M.drop g.1).foldl (A0M x.aD u) g.2=M.foldl (A0M x.aD u) T2∧g.2.outs.length≤20000000+320*g.1)
      (fun g s=>rbX r full (A0u nb ob ib x.aD) O g.2::U5 A0c 3 S M::cells mj (Y2 u).toArray::U5 (eKd .i64) 1 cS cs::cells x3 (W8 .i64 (pkT (j3 9 (p.2.2.2.2.1) 0) cS ⟨none,0,0⟩)).toArray::cells x1 (aS2 p)::U5 Y2 5 (A0E p) sl::L2) (fun g=>M.length-g.1) (0,T2) ⟨rfl,D1 _,bq,iW,jk,rfl,by simp only;omega⟩ ?_ ?_)
     ·show Sub _ (rbX r full (A0u nb ob ib x.aD) O T2::U5 A0c 3 S M::cells mj (Y2 u).toArray::U5 (eKd .i64) 1 cS cs::cells x3 (W8 .i64 (pkT (j3 9 (p.2.2.2.2.1) 0) cS ⟨none,0,0⟩)).toArray::cells x1 (aS2 p)::U5 Y2 5 (A0E p) sl::L2)
      repeat(first|with_reducible exact T6|with_reducible exact T7|refine T8 (by repeat first|with_reducible exact V0|apply V2) ?_|refine U0 ?_)
     rintro⟨l,T3⟩ s3 ⟨gX,rJ,df,nW,oN,iw,oa⟩ K3 n1 n2
     simp only at gX rJ df nW oN iw oa
     by_cases dg:l<M.length
     ·refine X6 (by rw[gX,kX];exact decide_eq_true (by omega)) ?_
      have iz:M.drop l=M[l]::M.drop (l+1):=E1 dg
      have nT:M[l]? =some M[l]:=B0 dg
      rw[iz,I1] at iw
      generalize M[l]=m at nT iw
      have qn:=B0v (id:=x.aD) (s:=u) T3 m df
      have ei:At (rbX r full (A0u nb ob ib x.aD) O (A0M x.aD u T3 m)::U5 A0c 3 S M::cells mj (Y2 u).toArray::U5 (eKd .i64) 1 cS cs::cells x3 (W8 .i64 (pkT (j3 9 (p.2.2.2.2.1) 0) cS ⟨none,0,0⟩)).toArray::cells x1 (aS2 p)::U5 Y2 5 (A0E p) sl::L2) (K3 (.inl (IntKind.wrap .i64 (s3.1+1),()))):=by
       refine n1 (l+1,A0M x.aD u T3 m) (IntKind.wrap .i64 (s3.1+1),()) (by simp only;omega) ⟨?_,dg,qn.ok,A5E.trans nW,A85.trans oN,iw,?_⟩
       ·simp only[gX];rw[V8 (by omega) (by omega)];rfl
       ·have:=qn.outs;simp only;omega
      clear n1 n2 iw
      have e9:∀s4∈T3.b.aD,s4.id=x.aD→A0M x.aD u T3 m=p6 x.aD (Y3 s4.out (m.1,m.2.1,min m.2.2.1 u.2.1,true,e0S)).1.2 (A0y (X9 x.aD (Y6 (Y3 s4.out (m.1,m.2.1,min m.2.2.1 u.2.1,true,e0S)).1.1) T3.b.aD) T3):=fun s4 ak hid=>by
       unfold A0M A0F
       rw[A3p df.nd ak hid]
      refine j4 (enc:=A0c) (xs:=M) (i:=l) dg (fun a3 jT=>?_) (he:=gX)
      refine A4r (k:=2) (x:=m) (v:=m.2.2.1) jT nT ?_
      refine W.load (b:=mj) (v:=u.2.1) ?_
      refine j1 (C2D (a:=m.2.2.1) (b:=u.2.1) (At.un ?_))
      refine W4 ?_
      refine A2m (g:=fun q R=>B1j r full (A0u nb ob ib x.aD) O T3 q R) (fun h R=>A0w.1) fun q2=>?_
      refine B9j (fun h R hs=>(A4W (b:=q2.tb) (last:=T3.b.last) (A:=T3.b.aD)).1 hs) fun s4 ak=>?_
      rw[e9 s4 ak.1 ak.2] at ei
      have di:=A33 (df.bO s4 ak.1) (m.1,m.2.1,min m.2.2.1 u.2.1,true,e0S)
      refine W.load (b:=nb) (v:=some ⟨ob,0,none⟩) ?_
      refine j4 (enc:=A0c) (xs:=M) (i:=l) dg (fun a4 uk=>?_) (he:=gX)
      refine A4r (k:=0) (x:=m) (v:=m.1) uk nT ?_
      refine j4 (enc:=A0c) (xs:=M) (i:=l) dg (fun a5 qU=>?_) (he:=gX)
      refine A4r (k:=1) (x:=m) (v:=m.2.1) qU nT ?_
      refine Z1 (B9C (b:=ob) (o:=s4.out) (m:=(m.1,m.2.1,min m.2.2.1 u.2.1,true,e0S)) (df.bO s4 ak.1) (fun S2=>At.bD (x:=(S2,(Y3 s4.out (m.1,m.2.1,min m.2.2.1 u.2.1,true,e0S)).2,())) ?_))
      refine B0J (A:=A0u nb ob ib x.aD q2.tb T3.b.last (X9 x.aD (Y6 (Y3 s4.out (m.1,m.2.1,min m.2.2.1 u.2.1,true,e0S)).1.1) T3.b.aD)) (B:=cells nb (rqC s4 ob ib)) (C:=a7 ob (Y3 s4.out (m.1,m.2.1,min m.2.2.1 u.2.1,true,e0S)).1.1) (D:=A07 ib s4.aZ) (E:=A3c q2.tb T3.b.last T3.b.aD s4 nb) (fun h hs=>B0f (f:=Y6 (Y3 s4.out (m.1,m.2.1,min m.2.2.1 u.2.1,true,e0S)).1.1) ak.1 ak.2 df.nd rfl rfl h hs) ?_
      refine W4 ?_
      refine C3a ?_
      refine W.dY (X:=A0u nb ob ib x.aD) (O:=O) (A0y (X9 x.aD (Y6 (Y3 s4.out (m.1,m.2.1,min m.2.2.1 u.2.1,true,e0S)).1.1) T3.b.aD) T3) q2 ?_
      refine Z1 (A4X (X:=A0u nb ob ib x.aD) (O:=O) (T:=A0y (X9 x.aD (Y6 (Y3 s4.out (m.1,m.2.1,min m.2.2.1 u.2.1,true,e0S)).1.1) T3.b.aD) T3) (id:=x.aD) (ps:=(Y3 s4.out (m.1,m.2.1,min m.2.2.1 u.2.1,true,e0S)).1.2) xQ (df.one x.aD) (by have:=di.2;show T3.outs.length+_≤_;omega) (by show T3.b.aB.length≤_;rw[nW];exact hz.aB) (At.bD ?_))
      exact U2 ei.sub
     ·refine W6 (by rw[gX,kX];exact decide_eq_false (by omega)) (U2 (n2 _ _ (b6 (U2 ?_))))
      have hle:l=M.length:=by omega
      subst hle
      rw[K7,P4] at iw
      rw[←iw] at ay
      exact ay.sub
   ·rw[if_neg hr,F2] at fR
    have ay:=m1 (j+1,T2,rr.2) (IntKind.wrap .i64 (s2.1+1),()) (by simp only;omega) ⟨f1,cd,bq,gr,iW,jk,fR,by simp only;omega,vE⟩
    refine A1k (by simp[hr]) ?_
    exact b6 (U2 ay.sub)
  ·refine W6 (by rw[hj,hl];exact decide_eq_false (by omega)) (U2 (m2 _ _ ?_))
   have oM:j=sl.length:=by omega
   subst oM
   rw[K7] at fR
   simp only[added,P4] at fR
   rw[←fR] at hq
   subst hO
   refine A4L X1 4 ?_
   refine W.cY (A:=pkB .i64 (cS,⟨none,0,0⟩,A0S 9 (p.2.2.2.2.1) cs)) (B:=U5 (eKd .i64) 1 cS cs) (C:=U5 X1 4 ⟨none,0,0⟩ ([]:List p9)) (fun h hs=>A4C.2 hs) ?_
   refine W.cY (A:=rbX r full (A0u nb ob ib x.aD) (V9 .i64) T2) (B:=rbX r full (A0u nb ob ib x.aD) (A8z T.outs.length cS ⟨none,0,0⟩ (A0S 9 (p.2.2.2.2.1) cs)) T2) (C:=pkB .i64 (cS,⟨none,0,0⟩,A0S 9 (p.2.2.2.2.1) cs)) (fun h hs=>C45 h hs) ?_
   refine B9i (A:=rbX r full (A0u nb ob ib x.aD) (V9 .i64) T2) (B:=rbA r full (V9 .i64) T2) (fun h R hs=>A6D h R hs) ?_
   exact U2 hq.sub
end
section
open Go.H Go.Proofs
variable {h h0:Heap} {L L' L1 L2 L3 L4 R:List Asn} {Q:Value→Heap→Prop}
structure C6h(p:Pk)(pl:List p9)(sl:List A0A)(fl:List B3O):Prop where
 bX:p.2.2.2.2.2.1.size≤9223372036854775800
 aC:(p.2.2.2.2.2.2.2.2.2.2.1).size≤9223372036854775800
 aX:(p.2.2.2.2.2.2.2.2.2.2.2.2.2.2.1).size≤9223372036854775800
 props:pl.length≤100
 aH:sl.length≤100
 sub:∀s∈sl,s.1.size≤9223372036854775800
 eF:fl.length≤100
theorem C7H{r n nb ob ib:Nat}{full:Bool}{T:U7}{x:X2}{p:Pk}{pl:List p9}{sl:List A0A}{fl:List B3O}(ag:X4 T.b n)(hz:Szs T.b)(ed:∀s∈T.b.aD,s.aZ.ok)(hc:A1o x.c T.b.aB=some x)(hb:T.outs.length≤10000000)(hp:T.aT.length≤100000000)(dA:C6h p pl sl fl)
  (hq:At (rbA r full (V9 .i64) (A8A full x (pkI p pl sl fl) T)::L3) (Q (.tuple #[])))(hx:Has L (rbX r full (A0u nb ob ib x.aD) (V9 .i64) T) L1:=by repeat first|with_reducible exact V0|apply V2)(hy:Has L1 (U5 Y2 5 (A0E p) sl) L2:=by repeat first|with_reducible exact V0|apply V2)(hw:Has L2 (U5 A0a 1 (A4o p) fl) L3:=by repeat first|with_reducible exact V0|apply V2):
  FW prog 91 #[at0 r,.int .i64 x.c,at0 nb,A2s .i64 p] L Q:=by
 refine fun h hs=>B36 (some ⟨r,0,none⟩) x.c (some ⟨nb,0,none⟩) p h Q ((?_:W (rbX r full (A0u nb ob ib x.aD) (V9 .i64) T::U5 Y2 5 (A0E p) sl::U5 A0a 1 (A4o p) fl::L3) _ _) h ((hx.cV hy hw).s hs))
 clear hs h hx hy hw
 have vS:=ag.s2k
 obtain⟨T9,aJ⟩:∃T9,T9=A8A full x (pkI p pl sl fl) T:=⟨_,rfl⟩
 rw[←aJ] at hq
 unfold A8A at aJ
 dsimp only at aJ
 delta B7h az bn cx g2 ie jc ji ki kp nn nw pu ve vi vs vz
 refine Y1 fun x1=>?_
 refine Y9 (Y0 (enc:=Y2) (size:=5) (s:=A0E p) (xs:=sl)) fun cW=>?_
 refine Y9 (Y0 (enc:=A0a) (size:=1) (s:=A4o p) (xs:=fl)) fun cT=>?_
 refine A02 (fun r=>r.1=decide (1≤p.2.2.2.2.1∧p.2.2.2.2.1≤65535)) (fun K hK=>?_) (fun rn gn=>?_)
 ·refine W.load (b:=x1) (v:=p.2.2.2.2.1) ?_
  refine A0i (fun h1=>?_) (fun h1=>?_)
  ·refine W.load (b:=x1) (v:=p.2.2.2.2.1) ?_
   refine U2 (hK _ ?_)
   simp only[decide_eq_true_eq] at h1
   simp[h1]
  ·refine U2 (hK _ ?_)
   simp only[decide_eq_false_iff_not] at h1
   simp[h1]
 refine W.load (b:=x1) (v:=p.1) ?_
 refine A02 (fun r=>r.1=decide (p.1=3∨p.1=6)) (fun K hK=>?_) (fun r1 fr=>?_)
 ·refine A0i (fun g0=>U2 (hK _ ?_)) (fun g0=>U2 (hK _ ?_))
  ·simp only[P9] at g0;simp[g0]
  simp only[H5,ne_eq] at g0
  by_cases e:p.1=6
  ·simp[e]
  ·simp[e,g0]
 by_cases hk:p.1=3∨p.1=6
 ·rw[if_pos hk] at aJ
  subst aJ
  refine X6 (by rw[fr];exact decide_eq_true hk) ?_
  refine r7 (b:=x1) (v:=p) ?_
  refine Z1 (C6E (O:=V9 .i64) (T:=T) (x:=x) (p:=p) (pl:=pl) (sl:=sl) (fl:=fl) A35 ag.toj8 hz ed hc (by omega) (by omega) dA.bX (At.bD ?_))
  exact U2 hq.sub
 rw[if_neg hk] at aJ
 refine W6 (by rw[fr];exact decide_eq_false hk) ?_
 clear fr hk
 refine A02 (fun r=>r.1=decide (p.1=4∨p.1=5∨p.1=7)) (fun K hK=>?_) (fun r2 cQ=>?_)
 ·refine A0i (fun g0=>U2 (hK _ ?_)) (fun g0=>?_)
  ·simp only[P9] at g0;simp[g0]
  refine C8t (fun g1=>b6 (U2 (hK _ ?_))) (fun g1=>b6 (U2 (hK _ ?_)))
  ·simp only[P9] at g1;simp[g1]
  simp only[H5,ne_eq] at g0;simp only[H5,ne_eq] at g1
  by_cases e:p.1=7
  ·simp[e]
  ·simp[e,g0,g1]
 by_cases hk:p.1=4∨p.1=5∨p.1=7
 ·rw[if_pos hk] at aJ
  refine X6 (by rw[cQ];exact decide_eq_true hk) ?_
  unfold A2B A0F at aJ
  refine W4 ?_
  refine A2m (g:=fun q R=>B1j r full (A0u nb ob ib x.aD) (V9 .i64) T q R) (fun h R=>A0w.1) fun q=>?_
  refine B9j (fun h R hs=>(A4W (b:=q.tb) (last:=T.b.last) (A:=T.b.aD)).1 hs) fun s hs=>?_
  obtain⟨hs,hid⟩:=hs
  simp only[A3p ag.nd hs hid] at aJ
  have di:=B4G (ag.bO s hs) p.1 p.2.2.2.2.1 p.2.2.2.2.2.2.2.1
  have qB:=C0Q (o:=s.out) (k:=p.1) (id:=p.2.2.2.2.1) (c:=p.2.2.2.2.2.2.2.1)
  refine W.load (b:=nb) (v:=some ⟨ob,0,none⟩) ?_
  refine r7 (b:=x1) (v:=p) ?_
  refine Z1 (C6F (b:=ob) (o:=s.out) (p:=p) (ag.bO s hs) (fun S=>At.bD (x:=(S,(A0V s.out p.1 p.2.2.2.2.1 p.2.2.2.2.2.2.2.1).2,())) ?_))
  generalize A0V s.out p.1 p.2.2.2.2.1 p.2.2.2.2.2.2.2.1=rr at aJ di qB⊢
  by_cases av:rr.2=0
  ·rw[if_neg (by simpa using av)] at aJ
   refine W6 (by simp[av]) ?_
   refine B0J (A:=A0u nb ob ib x.aD q.tb T.b.last (X9 x.aD (Y6 rr.1.1) T.b.aD)) (B:=cells nb (rqC s ob ib)) (C:=a7 ob rr.1.1) (D:=A07 ib s.aZ) (E:=A3c q.tb T.b.last T.b.aD s nb) (fun h ae=>B0f (f:=Y6 rr.1.1) hs hid ag.nd rfl rfl h ae) ?_
   refine W4 ?_
   refine C3a ?_
   refine W.dY (X:=A0u nb ob ib x.aD) (O:=V9 .i64) (A0y (X9 x.aD (Y6 rr.1.1) T.b.aD) T) q ?_
   refine Z1 (A4X (X:=A0u nb ob ib x.aD) (O:=V9 .i64) (T:=A0y (X9 x.aD (Y6 rr.1.1) T.b.aD) T) (id:=x.aD) (ps:=rr.1.2) A35 (ag.one x.aD) (by have:=di.2;simp only;omega) hz.aB (At.bD ?_))
   subst aJ
   refine B9i (A:=rbX r full (A0u nb ob ib x.aD) (V9 .i64) (p6 x.aD rr.1.2 (A0y (X9 x.aD (Y6 rr.1.1) T.b.aD) T))) (B:=rbA r full (V9 .i64) (p6 x.aD rr.1.2 (A0y (X9 x.aD (Y6 rr.1.1) T.b.aD) T))) (fun h R hs=>A6D h R hs) ?_
   exact U2 hq.sub
  ·rw[if_pos (by simpa using av)] at aJ
   refine X6 (by simp[av]) ?_
   rw[qB av]
   refine B0J (A:=A0q q.tb T.b.last T.b.aD) (B:=cells nb (rqC s ob ib)) (C:=a7 ob s.out) (D:=A07 ib s.aZ) (E:=A3c q.tb T.b.last T.b.aD s nb) (fun h ae=>A6x h ae) ?_
   refine W.rb (O:=V9 .i64) T q ?_
   refine Z1 (A3I (O:=V9 .i64) (T:=T) (c:=x.c) (code:=rr.2) A35 ag.toj8 hz (by omega) (by omega) (At.bD ?_))
   subst aJ
   exact U2 hq.sub
 rw[if_neg hk] at aJ
 refine W6 (by rw[cQ];exact decide_eq_false hk) ?_
 clear cQ hk
 have th:∀h R,sat h (rbX r full (A0u nb ob ib x.aD) (V9 .i64) T::R)→sat h (rbA r full (V9 .i64) T::R):=fun h R hs=>A6D h R hs
 by_cases h8:p.1=8
 ·refine A1k (by simpa using h8) ?_
  refine X3 (A02 (fun r=>r.1=decide (1≤p.2.2.2.2.1∧p.2.2.2.2.1≤65535∧sl≠[])) (fun K hK=>?_) (fun r3 kS=>?_))
  ·refine A0i (fun g1=>?_) (fun g1=>U2 (hK _ ?_))
   ·rw[gn] at g1
    refine W.load (b:=x1) (v:=A0E p) ?_
    refine U2 (hK _ ?_)
    have g1:=of_decide_eq_true g1
    cases sl with
    |nil=>simp[cW]
    |cons a l=>simp[cW,g1]
   ·rw[gn] at g1
    have g1:=of_decide_eq_false g1
    exact(decide_eq_false fun e=>g1 ⟨e.1,e.2.1⟩).symm
  by_cases hk:1≤p.2.2.2.2.1∧p.2.2.2.2.1≤65535∧sl≠[]
  ·rw[if_pos ⟨h8,hk⟩] at aJ
   subst aJ
   refine A1k (by rw[kS];exact decide_eq_true hk) ?_
   refine X3 (r7 (b:=x1) (v:=p) ?_)
   refine X3 (Z1 (B8o (T:=T) (x:=x) (p:=p) (pl:=pl) (sl:=sl) (fl:=fl) ag.toj8 hz hc hb (by have:=dA.aH;omega) dA.aH dA.sub (At.bD ?_)))
   exact b6 (W.inr (U2 hq.sub))
  ·rw[if_neg (fun e=>hk e.2),if_neg (by omega),if_neg (by omega),if_neg (by omega)] at aJ
   subst aJ
   refine o0 (by rw[kS];exact decide_eq_false hk) ?_
   refine b6 (W.inl ?_)
   refine B9i th ?_
   refine Z1 (A3I (O:=V9 .i64) (T:=T) (c:=x.c) (code:=130) A35 ag.toj8 hz (by omega) (by omega) (At.bD ?_))
   exact U2 hq.sub
 rw[if_neg (fun e=>h8 e.1)] at aJ
 refine o0 (by simpa using h8) ?_
 refine X3 ?_
 by_cases fZ:p.1=10
 ·refine A1k (by simpa using fZ) ?_
  refine X3 (A02 (fun r=>r.1=decide (1≤p.2.2.2.2.1∧p.2.2.2.2.1≤65535∧fl≠[])) (fun K hK=>?_) (fun r3 kS=>?_))
  ·refine A0i (fun g1=>?_) (fun g1=>U2 (hK _ ?_))
   ·rw[gn] at g1
    refine W.load (b:=x1) (v:=A4o p) ?_
    refine U2 (hK _ ?_)
    have g1:=of_decide_eq_true g1
    cases fl with
    |nil=>simp[cT]
    |cons a l=>simp[cT,g1]
   ·rw[gn] at g1
    have g1:=of_decide_eq_false g1
    exact(decide_eq_false fun e=>g1 ⟨e.1,e.2.1⟩).symm
  by_cases hk:1≤p.2.2.2.2.1∧p.2.2.2.2.1≤65535∧fl≠[]
  ·rw[if_pos ⟨fZ,hk⟩] at aJ
   subst aJ
   refine A1k (by rw[kS];exact decide_eq_true hk) ?_
   refine X3 (r7 (b:=x1) (v:=p) ?_)
   refine X3 (Z1 (B4U (T:=T) (x:=x) (p:=p) (pl:=pl) (sl:=sl) (fl:=fl) ag.toj8 hb dA.eF (At.bD ?_)))
   exact b6 (b6 (W.inr (U2 hq.sub)))
  ·rw[if_neg (fun e=>hk e.2),if_neg (by omega),if_neg (by omega)] at aJ
   subst aJ
   refine o0 (by rw[kS];exact decide_eq_false hk) ?_
   refine b6 (b6 (W.inl ?_))
   refine B9i th ?_
   refine Z1 (A3I (O:=V9 .i64) (T:=T) (c:=x.c) (code:=130) A35 ag.toj8 hz (by omega) (by omega) (At.bD ?_))
   exact U2 hq.sub
 rw[if_neg (fun e=>fZ e.1)] at aJ
 refine o0 (by simpa using fZ) ?_
 refine B9i th ?_
 by_cases rP:p.1=12
 ·rw[if_pos rP] at aJ
  subst aJ
  refine A1k (by simpa using rP) ?_
  refine B66 (k:=.i64) (j3 13 0 0) rfl rfl ?_
  refine X3 (Z1 (B4x (X:=A0q) (O:=V9 .i64) (T:=T) (c:=x.c) (o:=j3 13 0 0) (ci:=⟨none,0,0⟩) (pi:=⟨none,0,0⟩) A35 (by omega) (At.bD ?_)))
  exact b6 (b6 (W.inr (U2 hq.sub)))
 rw[if_neg rP] at aJ
 refine o0 (by simpa using rP) ?_
 by_cases rO:p.1=14
 ·rw[if_pos rO] at aJ
  subst aJ
  refine A1k (by simpa using rO) ?_
  refine X3 (W.load (b:=x1) (v:=p.2.2.2.2.2.2.2.1) ?_)
  have e:(p.2.2.2.2.2.2.2.1==4)=decide (p.2.2.2.2.2.2.2.1=4):=rfl
  refine X3 (Z1 (B8w (O:=V9 .i64) (T:=T) (c:=x.c) (aX:=p.2.2.2.2.2.2.2.1==4) A35 ag.toj8 hz (by omega) (by omega) (At.bD ?_)))
  rw[e]
  exact b6 (b6 (W.inr (U2 hq.sub)))
 rw[if_neg rO] at aJ
 subst aJ
 refine o0 (by simpa using rO) ?_
 refine b6 (b6 (W.inl ?_))
 refine Z1 (A3I (O:=V9 .i64) (T:=T) (c:=x.c) (code:=130) A35 ag.toj8 hz (by omega) (by omega) (At.bD ?_))
 exact U2 hq.sub
end
section
open Go.H Go.Proofs
variable {h h0:Heap} {L L' L1 L2 L3 L4 R:List Asn} {Q:Value→Heap→Prop}
theorem C2B{b:Nat}:∀h,sat h (cells b #[.int .i64 0,.slice none 0 0]::R)→sat h (A0q b 0 []::R):=fun h hs=>by
 have h1:=Z3 (enc:=eQ) (size:=1) hs
 have h2:sat h (Z9 (fun p:Nat×V7=>rsA p.1 p.2) []::U5 eQ 1 ⟨none,0,0⟩ []::cells b #[.int .i64 0,.slice none 0 0]::R):=A2x.2 h1
 exact A0Y.2 ⟨⟨none,0,0⟩,[],rfl,h2.re [2,1,0]⟩
theorem C4W{b:Nat}{last:Int}{A:List V7}:∀h R,sat h (A0q b last A::R)→∃(S:Slc) (M:{M:List (Nat×V7) // M.map (·.2)=A}),sat h (cells b #[.int .i64 last,.slice S.a S.len S.cap]::U5 eQ 1 S (M.1.map (·.1))::Z9 (fun p=>rsA p.1 p.2) M.1::R):=fun h R hs=>by
 obtain⟨S,M,hM,h1⟩:=A0Y.1 hs
 exact⟨S,⟨M,hM⟩,h1⟩
theorem C3C{r n:Nat}{full:Bool}{T:U7}{p:Pk}{pl:List p9}{sl:List A0A}{fl:List B3O}(ag:X4 T.b n)(hz:Szs T.b)(dA:C6h p pl sl fl)
  (hq:At (rbA r full (V9 .i64) T::L1) (Q (.int .i64 (A5p (pkI p pl sl fl) T.b))))(hx:Has L (rbA r full (V9 .i64) T) L1:=by repeat first|with_reducible exact V0|apply V2):
  FW prog 147 #[at0 r,A2s .i64 p] L Q:=by
 refine fun h hs=>B0l (some ⟨r,0,none⟩) p h Q ((?_:W (rbA r full (V9 .i64) T::L1) _ _) h (hx.s hs))
 clear hs h hx
 unfold A5p at hq
 dsimp only at hq
 delta B01 ad az bn ci cp ie jb jt kc kp kt nn nw pu vi vz
 refine Y1 fun x1=>?_
 refine e8 (b:=x1) (i:=14) (v:=p.2.2.2.2.2.2.2.2.2.2.2.2.2.2.1) ?_
 refine j1 (C2I dA.aX (At.un (x:=A2Q (p.2.2.2.2.2.2.2.2.2.2.2.2.2.2.1)) ?_))
 refine A02 (fun r=>r.1=(p.2.2.2.2.2.2.2.2.2.2.2.2.2.1&& !Z4 (p.2.2.2.2.2.2.2.2.2.2.2.2.2.2.1))) (fun K hK=>?_) (fun r0 hr=>?_)
 ·refine W.load (b:=x1) (v:=p.2.2.2.2.2.2.2.2.2.2.2.2.2.1) ?_
  refine A0i (fun h3=>?_) (fun h3=>?_)
  ·refine U2 (At.sub (hK _ ?_))
   simp only[h3,G3]
   unfold A2Q
   cases Z4 (p.2.2.2.2.2.2.2.2.2.2.2.2.2.2.1)<;>rfl
  ·refine U2 (hK _ ?_)
   simp[h3]
 obtain⟨r0,_⟩:=r0
 simp only at hr
 subst hr
 refine A0i (fun h1=>?_) (fun h1=>?_)
 ·rw[if_pos (by simpa using h1)] at hq
  exact U2 hq.sub
 rw[if_neg (by simpa using h1)] at hq
 refine W4 ?_
 refine A2m (g:=fun q R=>rbL r full (V9 .i64) T q R) (fun h R=>A0L.1) fun q=>?_
 refine Y9 (Y0 (enc:=A0b) (size:=8) (s:=q.sc) (xs:=T.b.aB)) fun hl=>?_
 refine e8 (b:=r) (i:=3) (v:=q.sc) ?_
 by_cases rN:64≤T.b.aB.length
 ·rw[if_pos rN] at hq
  refine X6 (by rw[hl];exact decide_eq_true (by omega)) ?_
  refine W.rb (O:=V9 .i64) T q ?_
  exact U2 hq.sub
 rw[if_neg rN] at hq
 refine W6 (by rw[hl];exact decide_eq_false (by omega)) ?_
 refine Y1 fun x8=>?_
 refine C7s (A:=A0q x8 0 []) (B:=cells x8 #[.int .i64 0,.slice none 0 0]) (fun h hs=>C2B h hs) ?_
 refine W.load (b:=x1) (v:=p.2.2.2.2.2.2.2.2.2.2.1) ?_
 refine Z1 (B9O (b:=x8) (last:=0) (A:=[]) (c:=p.2.2.2.2.2.2.2.2.2.2.1) (clean:=false) (aN:=false) dA.aC (S7 _) (by decide) (by simp) (by simp) (by simp) (At.bD (x:=((v7 0 [] (p.2.2.2.2.2.2.2.2.2.2.1) false false).1.2.1,(v7 0 [] (p.2.2.2.2.2.2.2.2.2.2.1) false false).1.2.2,(v7 0 [] (p.2.2.2.2.2.2.2.2.2.2.1) false false).1.1,())) ?_))
 have kj:(v7 0 [] (p.2.2.2.2.2.2.2.2.2.2.1) false false).1.1=if a8 (p.2.2.2.2.2.2.2.2.2.2.1) then 0 else 133:=by
  unfold v7
  by_cases hg:a8 (p.2.2.2.2.2.2.2.2.2.2.1)
  ·simp[hg,ofS]
  ·simp[hg]
 by_cases hg:a8 (p.2.2.2.2.2.2.2.2.2.2.1)
 case neg=>
  rw[if_pos hg] at hq
  refine X6 (by rw[kj,if_neg hg];rfl) ?_
  refine W.rb (O:=V9 .i64) T q ?_
  exact U2 hq.sub
 rw[if_neg (fun e=>e hg)] at hq
 refine W6 (by rw[kj,if_pos hg];rfl) ?_
 clear kj
 refine W4 ?_
 refine e8 (b:=r) (i:=0) (v:=some ⟨q.tb,0,none⟩) ?_
 refine W.load (b:=x1) (v:=p.2.2.2.2.2.2.2.2.2.2.1) ?_
 refine j1 (B8z (b:=q.tb) (last:=T.b.last) (A:=T.b.aD) (c:=p.2.2.2.2.2.2.2.2.2.2.1) hz.aD ag.eB (fun ho=>At.un (x:=none) ?_) (fun s ho nb ob ib=>At.un (x:=some ⟨nb,0,none⟩) ?_))
 ·rw[ho] at hq
  refine A1k rfl ?_
  refine X3 (W4 ?_)
  refine X3 (e8 (b:=r) (i:=0) (v:=some ⟨q.tb,0,none⟩) ?_)
  refine X3 (W4 ?_)
  refine A8Y (g:=fun S (M:{M:List (Nat×V7) // M.map (·.2)=T.b.aD}) R=>cells q.tb #[.int .i64 T.b.last,.slice S.a S.len S.cap]::U5 eQ 1 S (M.1.map (·.1))::Z9 (fun p=>rsA p.1 p.2) M.1::R) (fun h R hs=>C4W h R hs) fun S M=>?_
  refine Y9 (Y0 (enc:=eQ) (size:=1) (s:=S) (xs:=M.1.map (·.1))) fun fg=>?_
  have xd:(M.1.map (·.1)).length=T.b.aD.length:=by have:=congrArg List.length M.2;rw[C2] at this;rw[C2];exact this
  rw[xd] at fg
  refine X3 (W.load (b:=q.tb) (v:=S) ?_)
  refine B19 (A:=A0q q.tb T.b.last T.b.aD) (B:=cells q.tb #[.int .i64 T.b.last,.slice S.a S.len S.cap]) (C:=U5 eQ 1 S (M.1.map (·.1))) (D:=Z9 (fun p=>rsA p.1 p.2) M.1) (fun h hs=>A0Y.2 ⟨S,M.1,M.2,hs⟩) ?_
  refine W.rb (O:=V9 .i64) T q ?_
  refine b6 ?_
  by_cases eA:32≤T.b.aD.length
  ·rw[if_pos ⟨rfl,eA⟩] at hq
   refine X6 (by rw[fg];exact decide_eq_true (by omega)) ?_
   exact U2 hq.sub
  ·rw[if_neg (fun e=>eA e.2)] at hq
   refine W6 (by rw[fg];exact decide_eq_false (by omega)) ?_
   exact U2 hq.sub
 ·rw[ho,if_neg (by simp)] at hq
  refine o0 rfl (b6 ?_)
  refine W6 rfl ?_
  refine B0J (A:=A0q q.tb T.b.last T.b.aD) (B:=cells nb (rqC s ob ib)) (C:=a7 ob s.out) (D:=A07 ib s.aZ) (E:=A3c q.tb T.b.last T.b.aD s nb) (fun h ae=>A6x h ae) ?_
  refine W.rb (O:=V9 .i64) T q ?_
  exact U2 hq.sub
end
section
open Go.H Go.Proofs
variable {h h0:Heap} {L L' L1 L2 L3 L4 R:List Asn} {Q:Value→Heap→Prop}
theorem C7c{α β γ:Type}{m:HM γ}{f:γ→HM α}{g:α→HM β}{Q':β→Heap→Prop}(hw:W L (HM.bind (HM.bind m f) g) Q'):W L (HM.bind m fun x=>HM.bind (f x) g) Q':=hw
theorem C3V{full:Bool}{c:B3O}{T:U7}(h:j8 T.b)(ca:(T.b.aB.map (·.c)).Nodup):(z8 full c T).b.aB.length≤T.b.aB.length:=by
 unfold z8
 split
 ·rw[(B98 h ca).2.2.2.1];exact D4 _ _
 ·exact D9 _
theorem C1j{r n:Nat}{full:Bool}{T:U7}{c:Int}{p:Pk}{pl:List p9}{sl:List A0A}{fl:List B3O}(ag:X4 T.b n)(hn:n≤1000000)(hz:Szs T.b)(im:A1o c T.b.aB=none)(bu: -9223372036854775808≤c∧c≤9223372036854775807)(hb:T.outs.length≤10000000)(hp:T.aT.length≤100000000)(dA:C6h p pl sl fl)
  (hq:At (rbA r full (V9 .i64) (A1j full c (pkI p pl sl fl) T)::L2) (Q (.tuple #[])))(hx:Has L (rbA r full (V9 .i64) T) L1:=by repeat first|with_reducible exact V0|apply V2)(hy:Has L1 (U5 X1 4 (A0j p) pl) L2:=by repeat first|with_reducible exact V0|apply V2):
  FW prog 92 #[at0 r,.int .i64 c,A2s .i64 p] L Q:=by
 refine fun h hs=>A9s (some ⟨r,0,none⟩) c p h Q ((?_:W (rbA r full (V9 .i64) T::U5 X1 4 (A0j p) pl::L2) _ _) h ((hx.then hy).s hs))
 clear hs h hx hy
 have ca:=hz.nd
 delta A9O ad az bn cc ci cp cx g2 g7 ie ix jb jc ji jt kb kc ki kp kt nn nw pu rq sn sx ve vi vs vz wi
 refine Y1 fun x1=>?_
 refine r7 (b:=x1) (v:=p) ?_
 refine j1 (C3C (T:=T) (p:=p) (pl:=pl) (sl:=sl) (fl:=fl) ag hz dA (At.un (x:=A5p (pkI p pl sl fl) T.b) ?_))
 unfold A1j at hq
 obtain⟨code,hr⟩:∃code,code=A5p (pkI p pl sl fl) T.b:=⟨_,rfl⟩
 rw[←hr] at hq⊢
 by_cases av:code=0
 case neg=>
  rw[if_pos av] at hq
  refine X6 (by simp[av]) ?_
  refine B66 (k:=.i64) (j3 2 0 code) rfl rfl ?_
  refine Z1 (B8p (X:=A0q) (O:=V9 .i64) (T:=T) (c:=c) (o:=j3 2 0 code) (ci:=⟨none,0,0⟩) (pi:=⟨none,0,0⟩) A35 (by omega) (At.bD ?_))
  exact U2 hq.sub
 refine W6 (by simp[av]) ?_
 rw[if_neg (fun e=>e av)] at hq
 obtain⟨T1,ck⟩:∃T1,T1=z8 full (p.2.2.2.2.2.2.2.2.2.2.1) T:=⟨_,rfl⟩
 refine W4 ?_
 refine A2m (g:=fun q R=>rbL r full (V9 .i64) T q R) (fun h R=>A0L.1) fun q=>?_
 refine e8 (b:=r) (i:=0) (v:=some ⟨q.tb,0,none⟩) ?_
 refine W.load (b:=x1) (v:=(p.2.2.2.2.2.2.2.2.2.2.1)) ?_
 refine C7c ?_
 refine C4s (fun a=>a.1=match ofS (p.2.2.2.2.2.2.2.2.2.2.1) T.b.aD with|some s=>s.id|none=>0) (fun _=>rbA r full (V9 .i64) T1::cells x1 (aS2 p)::U5 X1 4 (A0j p) pl::L2) (fun K hK=>?_) (fun a ha=>?_)
 ·clear hq
  unfold z8 at ck
  refine j1 (B8z (b:=q.tb) (last:=T.b.last) (A:=T.b.aD) (c:=(p.2.2.2.2.2.2.2.2.2.2.1)) hz.aD ag.eB (fun ho=>At.un (x:=none) ?_) (fun s ho nb ob ib=>At.un (x:=some ⟨nb,0,none⟩) ?_))
  ·rw[ho] at ck hK
   simp only at ck
   subst ck
   refine W6 rfl (U2 ?_)
   refine At.rb (O:=V9 .i64) T1 q ?_
   exact(hK (0,()) rfl).sub
  ·rw[ho] at ck hK
   simp only at ck
   refine X6 rfl ?_
   refine W4 ?_
   refine W.load (b:=nb) (v:=s.id) ?_
   refine B0J (A:=A0q q.tb T.b.last T.b.aD) (B:=cells nb (rqC s ob ib)) (C:=a7 ob s.out) (D:=A07 ib s.aZ) (E:=A3c q.tb T.b.last T.b.aD s nb) (fun h ae=>A6x h ae) ?_
   refine W.rb (O:=V9 .i64) T q ?_
   refine W.loop (γ:=Nat) (fun g s'=>s'.1=(g:Int)∧g≤T.b.aB.length∧(T.b.aB.take g).filter (fun x=>decide (x.aD=s.id))=[]) (fun g s'=>rbA r full (V9 .i64) T::cells x1 (aS2 p)::U5 X1 4 (A0j p) pl::L2) (fun g=>T.b.aB.length-g) 0 ⟨rfl,D1 _,rfl⟩ ?_ ?_
   ·show Sub _ (rbA r full (V9 .i64) T::cells x1 (aS2 p)::U5 X1 4 (A0j p) pl::L2)
    repeat(first|with_reducible exact T6|with_reducible exact T7|refine T8 (by repeat first|with_reducible exact V0|apply V2) ?_|refine U0 ?_)
   rintro i s' ⟨hi,cK,ax⟩ K' k1 k2
   refine W4 ?_
   refine A2m (g:=fun q R=>rbL r full (V9 .i64) T q R) (fun h R=>A0L.1) fun q2=>?_
   refine Y9 (Y0 (enc:=A0b) (size:=8) (s:=q2.sc) (xs:=T.b.aB)) fun hl=>?_
   refine e8 (b:=r) (i:=3) (v:=q2.sc) ?_
   by_cases ah:i<T.b.aB.length
   ·refine X6 (by rw[hi,hl];exact decide_eq_true (by omega)) ?_
    have aY:T.b.aB[i]? =some T.b.aB[i]:=B0 ah
    have aU:T.b.aB.take (i+1)=T.b.aB.take i++[T.b.aB[i]]:=C7 ah
    have ry:T.b.aB[i]∈T.b.aB:=H3 ah
    generalize T.b.aB[i]=z at aY aU ry
    refine W4 ?_
    refine e8 (b:=r) (i:=3) (v:=q2.sc) ?_
    refine j4 (enc:=A0b) (xs:=T.b.aB) (i:=i) ah (fun a ha=>?_) (he:=hi)
    refine A4r (k:=1) (x:=z) (v:=z.aD) ha aY ?_
    by_cases rv:z.aD=s.id
    ·refine X6 (by simpa using rv) ?_
     refine W4 ?_
     refine e8 (b:=r) (i:=3) (v:=q2.sc) ?_
     refine j4 (enc:=A0b) (xs:=T.b.aB) (i:=i) ah (fun a ha=>?_) (he:=hi)
     refine A4r (k:=0) (x:=z) (v:=z.c) ha aY ?_
     refine W.rb (O:=V9 .i64) T q2 ?_
     have e:T1=A0v full z.c 142 T:=by rw[ck];unfold A2V;rw[B7J ag.toj8 ry rv]
     subst e
     refine Z1 (A3I (O:=V9 .i64) (T:=T) (c:=z.c) (code:=142) A35 ag.toj8 hz (by omega) (by omega) (At.bD ?_))
     exact U2 (k2 _ _ (U2 (hK (s.id,()) rfl).sub))
    ·refine W6 (by simpa using rv) ?_
     have gW:=k1 (i+1) (IntKind.wrap .i64 (s'.1+1),()) (by omega) ⟨by simp only[hi];rw[V8 (by omega) (by have:=hz.aB;omega)];rfl,ah,by rw[aU,F3,ax,G0 (by simpa using rv)];rfl⟩
     refine W.rb (O:=V9 .i64) T q2 ?_
     exact U2 gW.sub
   ·refine W6 (by rw[hi,hl];exact decide_eq_false (by omega)) (U2 (k2 _ _ (U2 ?_)))
    rw[D6 (by omega)] at ax
    have e:T1=T:=by
     rw[ck];unfold A2V
     rw[E7.2 fun x hx=>by simpa using J4.1 ax x hx]
    subst e
    refine At.rb (O:=V9 .i64) T1 q2 ?_
    exact(hK (s.id,()) rfl).sub
 obtain⟨old,_⟩:=a
 simp only at ha
 have gx:a8 (p.2.2.2.2.2.2.2.2.2.2.1)∧(ofS (p.2.2.2.2.2.2.2.2.2.2.1) T.b.aD=none→T.b.aD.length<32):=by
  rw[av] at hr
  unfold A5p at hr
  simp only at hr
  split at hr
  ·cases hr
  ·split at hr
   ·cases hr
   ·split at hr
    ·cases hr
    ·rename_i hg
     split at hr
     ·cases hr
     ·rename_i eA
      refine⟨N3 hg,fun ho=>?_⟩
      exact Nat.lt_of_not_le fun h=>eA ⟨ho,h⟩
 obtain⟨ea,gr,oL,ir,iG,jj⟩:=A8E (full:=full) (c:=(p.2.2.2.2.2.2.2.2.2.2.1)) ag ca gx.2
 have xk:=C3V (full:=full) (c:=(p.2.2.2.2.2.2.2.2.2.2.1)) ag.toj8 ca
 rw[←ck] at ea gr oL ir iG jj xk
 refine W.load (b:=x1) (v:=A0j p) ?_
 refine Z1 (C2F (S:=A0j p) (pl:=pl) (id:=17) (by have:=dA.props;omega) (At.bD (x:=(prU ((A0R 17 pl).getD (0,0,e0S,e0S)),(A0R 17 pl).isSome,())) ?_))
 refine Y1 fun ml=>?_
 refine y8 ?_
 refine W4 ?_
 refine A2m (g:=fun q R=>rbL r full (V9 .i64) T1 q R) (fun h R=>A0L.1) fun q4=>?_
 refine e8 (b:=r) (i:=0) (v:=some ⟨q4.tb,0,none⟩) ?_
 refine W.load (b:=x1) (v:=(p.2.2.2.2.2.2.2.2.2.2.1)) ?_
 refine W.load (b:=x1) (v:=(p.2.2.2.2.2.2.2.2.2.2.2.1)) ?_
 refine W.load (b:=ml) (v:=((A0R 17 pl).getD (0,0,e0S,e0S)).2.1) ?_
 rw[C0c]
 obtain⟨nZ,lk,ll,lq⟩:=B72 (B:=T1.b) (clean:=(p.2.2.2.2.2.2.2.2.2.2.2.1)) (aN:=u4 pl) gx.1 iG
 refine Z1 (B9O (b:=q4.tb) (last:=T1.b.last) (A:=T1.b.aD) (c:=(p.2.2.2.2.2.2.2.2.2.2.1)) (clean:=(p.2.2.2.2.2.2.2.2.2.2.2.1)) (aN:=u4 pl) dA.aC ea.cX (by have:=ea.cM;omega) (by have:=ea.n32;omega) ea.nd ea.eB (At.bD (x:=((v7 T1.b.last T1.b.aD (p.2.2.2.2.2.2.2.2.2.2.1) (p.2.2.2.2.2.2.2.2.2.2.2.1) (u4 pl)).1.2.1,(v7 T1.b.last T1.b.aD (p.2.2.2.2.2.2.2.2.2.2.1) (p.2.2.2.2.2.2.2.2.2.2.2.1) (u4 pl)).1.2.2,(v7 T1.b.last T1.b.aD (p.2.2.2.2.2.2.2.2.2.2.1) (p.2.2.2.2.2.2.2.2.2.2.2.1) (u4 pl)).1.1,())) ?_))
 have qh:A1o c T1.b.aB=none:=E7.2 fun y hy=>by
  have:=E7.1 im y (ir y hy).1
  exact this
 obtain⟨cz,s5,ai,gu⟩:=B14 (B:=T1.b) (o:=ofS (p.2.2.2.2.2.2.2.2.2.2.1) T.b.aD) (aC:=(p.2.2.2.2.2.2.2.2.2.2.1)) (clean:=(p.2.2.2.2.2.2.2.2.2.2.2.1)) (aN:=u4 pl) (x:=⟨c,(b9 (p.2.2.2.2.2.2.2.2.2.2.1) (p.2.2.2.2.2.2.2.2.2.2.2.1) (u4 pl) T1.b).1.1,p.2.2.2.2.2.2.2.2.2.2.2.2.2.1,(p.2.2.2.2.2.2.2.2.2.2.2.2.2.2.1,p.2.2.2.2.2.2.2.2.2.2.2.2.2.2.2.1,p.2.2.2.2.2.2.2.2.2.2.2.2.2.2.2.2.1,p.2.2.2.2.2.2.2.2.2.2.2.2.2.2.2.2.2.1,e0S)⟩) ea jj (fun y hy s hs=>(ir y hy).2 s hs) iG rfl ⟨C4 dA.aX (by decide),bu⟩
 rw[A3R] at hq
 dsimp only at hq
 rw[←ck,lk,ll,lq] at hq
 have xE:T1.b.aB.length≤999999:=by
  have h6:T.b.aB.length<64:=by
   rw[av] at hr
   unfold A5p at hr
   simp only at hr
   split at hr
   ·cases hr
   ·split at hr
    ·cases hr
    ·omega
  omega
 clear ck hr av ir iG jj gx lk ll lq im
 generalize(b9 (p.2.2.2.2.2.2.2.2.2.2.1) (p.2.2.2.2.2.2.2.2.2.2.2.1) (u4 pl) T1.b)=r1 at hq nZ cz ai gu⊢
 rw[nZ]
 clear nZ
 dsimp only
 have hold:∀s,ofS (p.2.2.2.2.2.2.2.2.2.2.1) T.b.aD=some s→old=s.id∧1≤s.id:=fun s ho=>by
  rw[ho] at ha
  exact⟨ha,(ag.dX s (B1v ho).1).1⟩
 have lJ:ofS (p.2.2.2.2.2.2.2.2.2.2.1) T.b.aD=none→old=0:=fun ho=>by rw[ho] at ha;exact ha
 refine A02 (fun a=>a.1=match ofS (p.2.2.2.2.2.2.2.2.2.2.1) T.b.aD with|some s=>decide (s.id≠r1.1.1)|none=>false) (fun K hK=>?_) (fun a dJ=>?_)
 ·cases ho:ofS (p.2.2.2.2.2.2.2.2.2.2.1) T.b.aD with
  |none=>rw[ho] at hK;exact W6 (by simp[lJ ho]) (U2 (hK _ rfl))
  |some s=>
   rw[ho] at hK
   obtain⟨e1,e2⟩:=hold s ho
   subst e1
   refine X6 (by
    have:s.id≠0:=by omega
    simp[this]) (U2 (hK _ ?_))
   by_cases e:s.id=r1.1.1
   ·simp[e]
   ·simp[e]
 obtain⟨a,_⟩:=a
 simp only at dJ
 refine W.cut (fun _=>rbA r full (V9 .i64) (tB ⟨r1.2.last,r1.2.aD,A1S (ofS (p.2.2.2.2.2.2.2.2.2.2.1) T.b.aD) r1.1.1 T1.b.aH,T1.b.kept,T1.b.aB⟩ T1)::cells x1 (aS2 p)::U5 X1 4 (A0j p) pl::L2) (fun K hK=>?_) (fun _=>?_)
 ·clear hq cz
  cases ho:ofS (p.2.2.2.2.2.2.2.2.2.2.1) T.b.aD with
  |none=>
   rw[ho] at dJ hK
   have e2:A1S none r1.1.1 T1.b.aH=T1.b.aH:=rfl
   rw[e2] at hK
   refine W6 dJ (U2 ?_)
   refine At.rb (O:=V9 .i64) (tB ⟨r1.2.last,r1.2.aD,T1.b.aH,T1.b.kept,T1.b.aB⟩ T1) q4 ?_
   exact(hK ()).sub
  |some s=>
   rw[ho] at dJ hK
   by_cases e:s.id=r1.1.1
   ·have e2:A1S (some s) r1.1.1 T1.b.aH=T1.b.aH:=by unfold A1S;simp[e]
    rw[e2] at hK
    refine W6 (by rw[dJ];simp[e]) (U2 ?_)
    refine At.rb (O:=V9 .i64) (tB ⟨r1.2.last,r1.2.aD,T1.b.aH,T1.b.kept,T1.b.aB⟩ T1) q4 ?_
    exact(hK ()).sub
   ·have e2:A1S (some s) r1.1.1 T1.b.aH=A1h s.id T1.b.aH:=by unfold A1S;simp[e]
    rw[e2] at hK
    refine X6 (by rw[dJ];simp[e]) ?_
    refine W4 ?_
    refine e8 (b:=r) (i:=1) (v:=some ⟨q4.sb,0,none⟩) ?_
    rw[(hold s ho).1]
    refine j1 (B9N (b:=q4.sb) (E:=T1.b.aH) (id:=s.id) ea.aH (At.un (U2 ?_)))
    refine At.rb (O:=V9 .i64) (tB ⟨r1.2.last,r1.2.aD,A1h s.id T1.b.aH,T1.b.kept,T1.b.aB⟩ T1) q4 ?_
    exact(hK ()).sub
 clear dJ hold lJ ha
 generalize A1S (ofS (p.2.2.2.2.2.2.2.2.2.2.1) T.b.aD) r1.1.1 T1.b.aH=E5 at hq cz⊢
 refine e8 (b:=x1) (i:=14) (v:=p.2.2.2.2.2.2.2.2.2.2.2.2.2.2.1) ?_
 refine e8 (b:=x1) (i:=15) (v:=p.2.2.2.2.2.2.2.2.2.2.2.2.2.2.2.1) ?_
 refine e8 (b:=x1) (i:=16) (v:=p.2.2.2.2.2.2.2.2.2.2.2.2.2.2.2.2.1) ?_
 refine e8 (b:=x1) (i:=17) (v:=p.2.2.2.2.2.2.2.2.2.2.2.2.2.2.2.2.2.1) ?_
 refine Y1 fun uz=>?_
 refine y8 ?_
 refine W4 ?_
 refine A2m (g:=fun q R=>rbL r full (V9 .i64) (tB ⟨r1.2.last,r1.2.aD,E5,T1.b.kept,T1.b.aB⟩ T1) q R) (fun h R=>A0L.1) fun q5=>?_
 refine e8 (b:=r) (i:=3) (v:=q5.sc) ?_
 refine W.load (b:=x1) (v:=p.2.2.2.2.2.2.2.2.2.2.2.2.2.1) ?_
 refine r7 (b:=uz) (v:=(p.2.2.2.2.2.2.2.2.2.2.2.2.2.2.1,p.2.2.2.2.2.2.2.2.2.2.2.2.2.2.2.1,p.2.2.2.2.2.2.2.2.2.2.2.2.2.2.2.2.1,p.2.2.2.2.2.2.2.2.2.2.2.2.2.2.2.2.2.1,e0S,())) ?_
 refine Y1 fun vY=>?_
 refine e8 (b:=r) (i:=3) (v:=q5.sc) ?_
 refine A1p ?_ rfl
 refine A9I (b:=vY) (xs:=T1.b.aB) (enc:=A0b) (s:=q5.sc) (⟨c,r1.1.1,p.2.2.2.2.2.2.2.2.2.2.2.2.2.1,(p.2.2.2.2.2.2.2.2.2.2.2.2.2.2.1,p.2.2.2.2.2.2.2.2.2.2.2.2.2.2.2.1,p.2.2.2.2.2.2.2.2.2.2.2.2.2.2.2.2.1,p.2.2.2.2.2.2.2.2.2.2.2.2.2.2.2.2.2.1,e0S)⟩:X2) (fun s'=>?_) (by omega)
 refine W4 ?_
 refine A4j (b:=r) (i:=3) (cs':=rbC ⟨q5.tb,q5.sb,q5.kb,s',q5.so,q5.sp⟩ full) ?_
 have hlen:(T1.b.aB++[(⟨c,r1.1.1,p.2.2.2.2.2.2.2.2.2.2.2.2.2.1,(p.2.2.2.2.2.2.2.2.2.2.2.2.2.2.1,p.2.2.2.2.2.2.2.2.2.2.2.2.2.2.2.1,p.2.2.2.2.2.2.2.2.2.2.2.2.2.2.2.2.1,p.2.2.2.2.2.2.2.2.2.2.2.2.2.2.2.2.2.1,e0S)⟩:X2)]).length≤1000000:=by rw[B5];simp only[B8,H2];omega
 generalize T1.b.aB++[(⟨c,r1.1.1,p.2.2.2.2.2.2.2.2.2.2.2.2.2.1,(p.2.2.2.2.2.2.2.2.2.2.2.2.2.2.1,p.2.2.2.2.2.2.2.2.2.2.2.2.2.2.2.1,p.2.2.2.2.2.2.2.2.2.2.2.2.2.2.2.2.1,p.2.2.2.2.2.2.2.2.2.2.2.2.2.2.2.2.2.1,e0S)⟩:X2)]=C5 at hq cz hlen⊢
 refine W.rb (O:=V9 .i64) (tB ⟨r1.2.last,r1.2.aD,E5,T1.b.kept,C5⟩ T1) ⟨q5.tb,q5.sb,q5.kb,s',q5.so,q5.sp⟩ ?_
 refine B66 (k:=.i64) (A1T r1.1.2) rfl rfl ?_
 refine Z1 (B4x (X:=A0q) (O:=V9 .i64) (T:=tB ⟨r1.2.last,r1.2.aD,E5,T1.b.kept,C5⟩ T1) (c:=c) (o:=A1T r1.1.2) (ci:=⟨none,0,0⟩) (pi:=⟨none,0,0⟩) A35 (by show T1.outs.length≤_;omega) (At.bD ?_))
 have qV:A0s ⟨c,A1T r1.1.2,false⟩ (tB ⟨r1.2.last,r1.2.aD,E5,T1.b.kept,C5⟩ T1)=(⟨⟨r1.2.last,r1.2.aD,E5,T1.b.kept,C5⟩,T1.outs++[⟨c,A1T r1.1.2,false⟩],T1.aT⟩:U7):=rfl
 rw[qV] at hq
 show W (rbA r full (V9 .i64) ⟨⟨r1.2.last,r1.2.aD,E5,T1.b.kept,C5⟩,T1.outs++[⟨c,A1T r1.1.2,false⟩],T1.aT⟩::_) _ _
 have hO:(T1.outs++[(⟨c,A1T r1.1.2,false⟩:l4)]).length≤13300002:=by rw[B5];simp only[B8,H2];omega
 generalize T1.outs++[(⟨c,A1T r1.1.2,false⟩:l4)]=O5 at hq hO⊢
 clear qV
 unfold A0F at hq
 simp only[A3p cz.nd ai gu] at hq
 refine W.load (b:=x1) (v:=A0j p) ?_
 refine Z1 (C2F (S:=A0j p) (pl:=pl) (id:=33) (by have:=dA.props;omega) (At.bD (x:=(prU ((A0R 33 pl).getD (0,0,e0S,e0S)),(A0R 33 pl).isSome,())) ?_))
 refine Y1 fun eu=>?_
 refine y8 ?_
 refine A02 (fun a=>a.1=A1P pl) (fun K hK=>?_) (fun a ha=>?_)
 ·unfold A1P at hK
  clear hq
  cases hf:A0R 33 pl with
  |none=>
   rw[hf] at hK
   exact W6 rfl (U2 (hK (64,()) rfl))
  |some z=>
   rw[hf] at hK
   refine X6 rfl ?_
   refine W.load (b:=eu) (v:=z.2.1) ?_
   exact U2 (hK (z.2.1,()) rfl)
 obtain⟨most,_⟩:=a
 simp only at ha
 subst ha
 refine W4 ?_
 refine A2m (g:=fun q R=>rbL r full (V9 .i64) (⟨⟨r1.2.last,r1.2.aD,E5,T1.b.kept,C5⟩,O5,T1.aT⟩:U7) q R) (fun h R=>A0L.1) fun q6=>?_
 refine e8 (b:=r) (i:=0) (v:=some ⟨q6.tb,0,none⟩) ?_
 refine j1 (C1m (b:=q6.tb) (last:=r1.2.last) (A:=r1.2.aD) (s:=s5) (k:=r1.1.1) (by have:r1.2.aD.length≤32:=cz.n32;omega) cz.nd ai gu (fun nb ob ib=>At.un (x:=some ⟨nb,0,none⟩) ?_))
 refine W4 ?_
 refine W.load (b:=nb) (v:=some ⟨ob,0,none⟩) ?_
 have di:=B29 (cz.bO s5 ai) (A1P pl)
 refine j1 (C3A (b:=ob) (o:=s5.out) (most:=A1P pl) (cz.bO s5 ai) (fun S2=>At.un (x:=S2) ?_))
 refine B0J (A:=A0q q6.tb r1.2.last (X9 r1.1.1 (Y6 (A0k s5.out (A1P pl)).1) r1.2.aD)) (B:=cells nb (rqC s5 ob ib)) (C:=a7 ob (A0k s5.out (A1P pl)).1) (D:=A07 ib s5.aZ) (E:=A3c q6.tb r1.2.last r1.2.aD s5 nb) (fun h ae=>A4V (f:=Y6 (A0k s5.out (A1P pl)).1) gu cz.nd rfl h ae) ?_
 refine W.rb (O:=V9 .i64) (A0y (X9 r1.1.1 (Y6 (A0k s5.out (A1P pl)).1) r1.2.aD) ⟨⟨r1.2.last,r1.2.aD,E5,T1.b.kept,C5⟩,O5,T1.aT⟩) q6 ?_
 refine Z1 (A4X (X:=A0q) (O:=V9 .i64) (T:=A0y (X9 r1.1.1 (Y6 (A0k s5.out (A1P pl)).1) r1.2.aD) ⟨⟨r1.2.last,r1.2.aD,E5,T1.b.kept,C5⟩,O5,T1.aT⟩) (id:=r1.1.1) (ps:=(A0k s5.out (A1P pl)).2) A35 (cz.one r1.1.1) (by have:=di.2;show O5.length+_≤_;omega) hlen (At.bD ?_))
 exact U2 hq.sub
end
section
open Go.H Go.Proofs
variable {h h0:Heap} {L L' L1 L2 L3 L4 R:List Asn} {Q:Value→Heap→Prop}
theorem C3E{r n:Nat}{full full0:Bool}{T:U7}{c:Int}{p:Pk}{pl:List p9}{sl:List A0A}{fl:List B3O}(ag:X4 T.b n)(hn:n≤1000000)(hz:Szs T.b)(ed:∀s∈T.b.aD,s.aZ.ok)(bu: -9223372036854775808≤c∧c≤9223372036854775807)(dA:C6h p pl sl fl)
  (hq:At (rbA r full (V9 .i64) (b8 full c (pkI p pl sl fl) T.b)::L4) (Q (.tuple #[])))(hx:Has L (rbA r full0 (V9 .i64) T) L1:=by repeat first|with_reducible exact V0|apply V2)(hy:Has L1 (U5 Y2 5 (A0E p) sl) L2:=by repeat first|with_reducible exact V0|apply V2)(hw:Has L2 (U5 A0a 1 (A4o p) fl) L3:=by repeat first|with_reducible exact V0|apply V2)(hv:Has L3 (U5 X1 4 (A0j p) pl) L4:=by repeat first|with_reducible exact V0|apply V2):
  FW prog 49 #[at0 r,.int .i64 c,A2s .i64 p,.bool full] L Q:=by
 refine fun h hs=>B0m (some ⟨r,0,none⟩) c p full h Q ((?_:W (rbA r full0 (V9 .i64) T::U5 Y2 5 (A0E p) sl::U5 A0a 1 (A4o p) fl::U5 X1 4 (A0j p) pl::L4) _ _) h ((hx.eJ hy hw hv).s hs))
 clear hs h hx hy hw hv
 delta B02 az ci cp cx g2 ie ix ji kc ki kp nn nw pu ve vi vz
 refine Y1 fun x1=>?_
 refine Z1 (B1i (full:=full) (full0:=full0) (T:=T) (At.bD ?_))
 refine j1 (B5j (X:=A0q) (O:=V9 .i64) (T:=⟨T.b,[],[]⟩) (c:=c) hz.aB (At.un (x:=(match atC c T.b.aB with|some i=>(i:Int)|none=> -1)) ?_))
 unfold b8 at hq
 cases ha:atC c T.b.aB with
 |none=>
  rw[B15.1 ha] at hq
  simp only at hq
  refine W6 rfl ?_
  refine W.load (b:=x1) (v:=p.1) ?_
  by_cases h1:p.1=1
  ·rw[if_pos h1] at hq
   refine X6 (by simpa using h1) ?_
   refine r7 (b:=x1) (v:=p) ?_
   refine Z1 (C1j (T:=⟨T.b,[],[]⟩) (c:=c) (p:=p) (pl:=pl) (sl:=sl) (fl:=fl) ag hn hz (B15.1 ha) bu (D1 _) (D1 _) dA (At.bD ?_))
   exact U2 hq.sub
  ·rw[if_neg h1] at hq
   have hq:At (rbA r full (V9 .i64) (A0s ⟨c,j3 14 0 130,true⟩ ⟨T.b,[],[]⟩)::L4) (Q (.tuple #[])):=hq
   refine W6 (by simpa using h1) ?_
   refine B66 (k:=.i64) (j3 14 0 130) rfl rfl ?_
   refine Z1 (B8p (X:=A0q) (O:=V9 .i64) (T:=⟨T.b,[],[]⟩) (c:=c) (o:=j3 14 0 130) (ci:=⟨none,0,0⟩) (pi:=⟨none,0,0⟩) A35 (D1 _) (At.bD ?_))
   exact U2 hq.sub
 |some i=>
  obtain⟨x,aY,la,kP⟩:=C0M ha
  rw[la] at hq
  simp only at hq
  have ah:i<T.b.aB.length:=(E0.1 aY).1
  obtain⟨s,hs,hid⟩:=ag.cl x (A1x la).1
  refine X6 (decide_eq_true (by simp only;omega)) ?_
  refine W4 ?_
  refine A2m (g:=fun q R=>rbL r full (V9 .i64) ⟨T.b,[],[]⟩ q R) (fun h R=>A0L.1) fun q=>?_
  refine Y9 (Y0 (enc:=A0b) (size:=8) (s:=q.sc) (xs:=T.b.aB)) fun hl=>?_
  refine e8 (b:=r) (i:=0) (v:=some ⟨q.tb,0,none⟩) ?_
  refine W4 ?_
  refine e8 (b:=r) (i:=3) (v:=q.sc) ?_
  refine j4 (enc:=A0b) (xs:=T.b.aB) (i:=i) ah (fun a ha=>?_) (he:=rfl)
  refine A4r (k:=1) (x:=x) (v:=x.aD) ha aY ?_
  refine j1 (C1m (b:=q.tb) (last:=T.b.last) (A:=T.b.aD) (s:=s) (k:=x.aD) hz.aD ag.nd hs hid (fun nb ob ib=>At.un (x:=some ⟨nb,0,none⟩) ?_))
  refine B0J (A:=A0u nb ob ib x.aD q.tb T.b.last T.b.aD) (B:=cells nb (rqC s ob ib)) (C:=a7 ob s.out) (D:=A07 ib s.aZ) (E:=A3c q.tb T.b.last T.b.aD s nb) (fun h ae=>A4W.2 ⟨s,⟨hs,hid⟩,ae⟩) ?_
  refine W.dY (X:=A0u nb ob ib x.aD) (O:=V9 .i64) ⟨T.b,[],[]⟩ q ?_
  refine r7 (b:=x1) (v:=p) ?_
  rw[←kP] at la⊢
  refine Z1 (C7H (T:=⟨T.b,[],[]⟩) (x:=x) (p:=p) (pl:=pl) (sl:=sl) (fl:=fl) ag hz ed la (D1 _) (D1 _) dA (At.bD ?_))
  exact U2 hq.sub
theorem C6I{r n:Nat}{full full0:Bool}{T:U7}{c:Int}(ag:X4 T.b n)(hz:Szs T.b)
  (hq:At (rbA r full (V9 .i64) (A70 full c T.b)::L1) (Q (.tuple #[])))(hx:Has L (rbA r full0 (V9 .i64) T) L1:=by repeat first|with_reducible exact V0|apply V2):
  FW prog 46 #[at0 r,.int .i64 c,.bool full] L Q:=by
 refine fun h hs=>B2r (some ⟨r,0,none⟩) c full h Q ((?_:W (rbA r full0 (V9 .i64) T::L1) _ _) h (hx.s hs))
 clear hs h hx
 unfold A70 at hq
 delta B43 cx pu vi
 refine Z1 (B1i (full:=full) (full0:=full0) (T:=T) (At.bD ?_))
 refine Z1 (B8w (O:=V9 .i64) (T:=⟨T.b,[],[]⟩) (c:=c) (aX:=true) A35 ag.toj8 hz (D1 _) (D1 _) (At.bD ?_))
 exact U2 hq.sub
theorem C1o{r n:Nat}{full0:Bool}{T:U7}{m:MsT}(ag:X4 T.b n)(hz:Szs T.b)(hm:m.1.size≤9223372036854775800)
  (hq:At (rbA r false (V9 .i64) (A1i m T.b)::L1) (Q (.tuple #[])))(hx:Has L (rbA r full0 (V9 .i64) T) L1:=by repeat first|with_reducible exact V0|apply V2):
  FW prog 47 #[at0 r,vMs m] L Q:=by
 refine fun h hs=>A9u (some ⟨r,0,none⟩) (toU m) h Q ((?_:W (rbA r full0 (V9 .i64) T::L1) _ _) h (hx.s hs))
 clear hs h hx
 unfold A1i at hq
 delta A9Q az cx g7 nw pu
 refine Y1 fun x1=>?_
 refine Z1 (B1i (full:=false) (full0:=full0) (T:=T) (At.bD ?_))
 refine r7 (b:=x1) (v:=toU m) ?_
 refine Z1 (C2E (O:=V9 .i64) (T:=⟨T.b,[],[]⟩) (m:=m) A35 ag.toj8 hz (D1 _) hm (At.bD ?_))
 exact U2 hq.sub
theorem C5L{B:Z0}{c:Int}(h:Szs B):Szs (A5k B c):=by
 unfold A5k
 split
 ·exact h
 ·rw[B4B];exact h.ended rfl
theorem B5W{B:Z0}{c:Int}:(A5k B c).aB=B.aB.filter fun y=>decide (y.c≠c):=by
 unfold A5k
 cases hg:A1o c B.aB with
 |none=>exact(G9.2 fun y hy=>by have:=E7.1 hg y hy;simpa using this).symm
 |some x=>simp only;rw[B4B]
theorem C1k{r n:Nat}{full0:Bool}{T:U7}(ag:X4 T.b n)(hz:Szs T.b)
  (hq:At (rbA r false (V9 .i64) ⟨A1V T.b,[],[]⟩::L1) (Q (.tuple #[])))(hx:Has L (rbA r full0 (V9 .i64) T) L1:=by repeat first|with_reducible exact V0|apply V2):
  FW prog 48 #[at0 r] L Q:=by
 refine fun h hs=>A9t (some ⟨r,0,none⟩) h Q ((?_:W (rbA r full0 (V9 .i64) T::L1) _ _) h (hx.s hs))
 clear hs h hx
 delta A9P bn cx ie ix kc ki nn pu vi
 refine Z1 (B1i (full:=false) (full0:=full0) (T:=T) (At.bD ?_))
 refine W.loop (γ:=Z0) (fun B _=>X4 B n∧Szs B∧(B.aB.map (·.c)).foldl A5k B=A1V T.b) (fun B _=>rbA r false (V9 .i64) ⟨B,[],[]⟩::L1) (fun B=>B.aB.length) T.b ⟨ag,hz,A8u.symm⟩ ?_ ?_
 ·show Sub _ (rbA r false (V9 .i64) ⟨T.b,[],[]⟩::L1)
  repeat(first|with_reducible exact T6|with_reducible exact T7|refine T8 (by repeat first|with_reducible exact V0|apply V2) ?_|refine U0 ?_)
 rintro B s ⟨aL,dx,hf⟩ K k1 k2
 refine W4 ?_
 refine A2m (g:=fun q R=>rbL r false (V9 .i64) ⟨B,[],[]⟩ q R) (fun h R=>A0L.1) fun q=>?_
 refine Y9 (Y0 (enc:=A0b) (size:=8) (s:=q.sc) (xs:=B.aB)) fun hl=>?_
 refine e8 (b:=r) (i:=3) (v:=q.sc) ?_
 by_cases ah:0<B.aB.length
 ·refine X6 (by rw[hl];exact decide_eq_true (by omega)) ?_
  have rM:B.aB[0]? =some B.aB[0]:=B0 ah
  have iJ:B.aB=B.aB[0]::B.aB.drop 1:=by
   have:=E1 ah
   rwa[S4] at this
  generalize B.aB[0]=y at rM iJ
  have au:=dx.nd
  have vy:(A5k B y.c).aB=B.aB.drop 1:=by
   rw[B5W]
   rw[iJ,B6,F8] at au
   conv=>lhs;rw[iJ]
   rw[G0 (by simp)]
   refine G9.2 fun z hz=>decide_eq_true fun e=>au.1 ?_
   rw[←e]
   exact B3 hz
  have gW:=k1 (A5k B y.c) () (by rw[vy,R2];omega) ⟨B82 aL,C5L dx,by
   rw[vy,←hf]
   conv=>rhs;rw[iJ]
   rfl⟩
  refine W4 ?_
  refine e8 (b:=r) (i:=3) (v:=q.sc) ?_
  refine j4 (enc:=A0b) (xs:=B.aB) (i:=0) ah (fun a ha=>?_) (he:=rfl)
  refine A4r (k:=0) (x:=y) (v:=y.c) ha rM ?_
  refine W.rb (O:=V9 .i64) ⟨B,[],[]⟩ q ?_
  refine Z1 (B8w (O:=V9 .i64) (T:=⟨B,[],[]⟩) (c:=y.c) (aX:=false) A35 aL.toj8 dx (D1 _) (D1 _) (At.bD ?_))
  rw[C11]
  exact U2 gW.sub
 ·refine W6 (by rw[hl];exact decide_eq_false (by omega)) (U2 (k2 _ _ (U2 ?_)))
  have e:B.aB=[]:=K9.1 (by omega)
  rw[e] at hf
  have hf:B=A1V T.b:=hf
  refine At.rb (O:=V9 .i64) ⟨B,[],[]⟩ q ?_
  rw[hf]
  exact hq.sub
theorem C6J(hq:∀b,At (A1N b 64 []::L) (Q (B1m b))):FW prog 45 #[.int .i64 64] L Q:=fun h hs=>C3F hs 64 fun b h' af=>hq b h' af
theorem C7J(hq:∀r,At (rbA r false (V9 .i64) ⟨⟨0,[],[],[],[]⟩,[],[]⟩::L) (Q (at0 r))):FW prog 21 #[] L Q:=by
 refine fun h hs=>B38 h Q ((?_:W L _ _) h hs)
 clear hs h
 delta B7j az cp nw pu vi vz
 refine j1 (C6J (fun b=>At.un (x:=some ⟨b,0,none⟩) ?_))
 refine Y1 fun x2=>?_
 refine C7s (A:=A0q x2 0 []) (B:=cells x2 #[.int .i64 0,.slice none 0 0]) (fun h hs=>C2B h hs) ?_
 refine Y1 fun x3=>?_
 refine A4L Z8 3 ?_
 refine W.cY (A:=A0D x3 []) (B:=cells x3 #[.slice none 0 0]) (C:=U5 Z8 3 ⟨none,0,0⟩ []) (fun h hs=>A1u.2 ⟨⟨none,0,0⟩,hs⟩) ?_
 refine Y1 fun x4=>?_
 refine A4L Z6 5 ?_
 refine A4L A0b 8 ?_
 refine W.sub (L':=cells x4 (rbC ⟨x2,x3,b,⟨none,0,0⟩,⟨none,0,0⟩,⟨none,0,0⟩⟩ false)::U5 Z6 5 ⟨none,0,0⟩ []::U5 A0b 8 ⟨none,0,0⟩ []::A0q x2 0 []::A0D x3 []::A1N b 64 []::L) ?_
 refine U2 (fun h hs=>?_)
 have h1:=B1q (k:=.i64) hs
 exact hq x4 h (A0L.2 ⟨⟨x2,x3,b,⟨none,0,0⟩,⟨none,0,0⟩,⟨none,0,0⟩⟩,h1.re [1,0,2,3,4,5,6]⟩)
end
section
open Go.H Go.Proofs
variable {h h0:Heap} {L L' L1 L2 L3 L4 R:List Asn} {Q:Value→Heap→Prop}
def A7O(B:Z0):Prop:=∀x∈B.aB,x.aX.1.size≤9223372036854775800
theorem C61{b n:Nat}{B:Z0}(ag:X4 B n)(hw:A7O B):∀h R,sat h (A1c b B::R)→Szs B∧∀s∈B.aD,s.aZ.ok:=fun h R hs=>by
 obtain⟨au,hk⟩:=B6t h R hs
 obtain⟨p,h1⟩:=A2d.1 hs
 obtain⟨hg,ha⟩:=A81 (h1.re [2,0,1,3,4])
 obtain⟨l,hl,-⟩:=A3P.1 (h1.re [3,0,1,2,4])
 obtain⟨M,hM,h3⟩:=z6.1 (h1.re [1,0,2,3,4])
 obtain⟨m,h4⟩:=r6.1 h3
 refine⟨⟨?_,?_,?_,hk,B26 ag,by have:=ag.n32;omega,au,hw⟩,?_⟩
 ·refine List.Pairwise.imp (fun{a b} dv=>?_) ha
  rcases dv with dv|dv
  ·exact Int.le_of_lt dv
  ·exact Int.le_of_eq dv.1
 ·exact fun e he=>C4 (A3F (A0z (hg e he))) (by decide)
 ·intro m hm
  have h5:=hl.rel.perm.mem_iff.2 hm
  obtain⟨p,hp,rfl⟩:=E4.1 h5
  have:=hl.small p hp
  rw[←hl.rel.kk p hp] at this
  exact this
 ·intro s hs
  rw[←hM] at hs
  obtain⟨q,hq,rfl⟩:=E4.1 hs
  obtain⟨R',h5⟩:=A8U hq (h4.re [2,0,1])
  obtain⟨ob,ib,h6⟩:=A1J.1 h5
  obtain⟨b2,h7⟩:=A2X.1 (h6.re [2,0,1])
  obtain⟨m2,xe,-⟩:=A0U.1 (h7.re [1,0])
  exact xe
end
section
open Go.H Go.Proofs
theorem B70{full:Bool}{c:Int}{w:Bool}{T:U7}(h:j8 T.b):∀y∈(A3S full c w T).b.aB,y∈T.b.aB:=fun y hy=>by rw[(B83 h).2.2.2.1] at hy;exact(D5.1 hy).1
theorem A4H{full:Bool}{c code:Int}{T:U7}(h:j8 T.b):∀y∈(A0v full c code T).b.aB,y∈T.b.aB:=fun y hy=>by rw[(B0i h).2.2.2.1] at hy;exact(D5.1 hy).1
theorem C2e{full:Bool}{x:X2}{p:PkI}{T:U7}(h:j8 T.b):∀y∈(A5s full x p T).b.aB,y∈T.b.aB:=by
 unfold A5s
 split
 ·exact A4H h
 ·split
  ·exact fun y hy=>hy
  ·rename_i s hs
   simp only
   generalize l8 s.aZ p.kind p.eM p.id (if full=true then 151 else 0)=r
   have h1:j8 (A0y (X9 x.aD (j2 ⟨s.aZ.most,s.aZ.taken,r.2.2.2⟩) T.b.aD) T).b:=h.fF
   split
   ·exact A4H (T:=A0y (X9 x.aD (j2 ⟨s.aZ.most,s.aZ.taken,r.2.2.2⟩) T.b.aD) T) h1
   ·split
    ·exact fun y hy=>by
      rw[(A8w (T:=p6 x.aD (A3w r.2.1 p.id) (A0y (X9 x.aD (j2 ⟨s.aZ.most,s.aZ.taken,r.2.2.2⟩) T.b.aD) T)) h1).aB] at hy
      exact hy
    ·exact fun y hy=>hy
theorem B9d{full:Bool}{x:X2}{p:PkI}{T:U7}(h:j8 T.b):∀y∈(A2B full x p T).b.aB,y∈T.b.aB:=by
 unfold A2B
 split
 ·exact fun y hy=>hy
 ·split
  ·exact A4H h
  ·exact fun y hy=>by rw[A5E] at hy;exact hy
theorem C4e{x:X2}{p:PkI}{T:U7}:(A0W x p T).b.aB=T.b.aB:=by
 unfold A0W
 have:∀(l:List A0A) (T:U7),(l.foldl (i7 x.aD) T).b.aB=T.b.aB:=by
  intro l
  induction l with
  |nil=>intro T;rfl
  |cons s l ih=>intro T;exact(ih _).trans (A9V T s)
 rw[this]
theorem C4g{full:Bool}{x:X2}{p:PkI}{T:U7}(h:j8 T.b):∀y∈(A8A full x p T).b.aB,y∈T.b.aB:=by
 unfold A8A
 split
 ·exact C2e h
 ·split
  ·exact B9d h
  ·split
   ·exact fun y hy=>by rw[C4e] at hy;exact hy
   ·split
    ·exact fun y hy=>hy
    ·split
     ·exact fun y hy=>hy
     ·split
      ·exact B70 h
      ·exact A4H h
theorem B65{full:Bool}{c:Int}{p:PkI}{T:U7}{n:Nat}(h:X4 T.b n)(ca:(T.b.aB.map (·.c)).Nodup):∀y∈(A1j full c p T).b.aB,y∈T.b.aB∨y.aX.1=p.aX.1:=by
 unfold A1j
 by_cases hb:A5p p T.b=0
 ·rw[if_neg (by simpa using hb),A3R]
  obtain⟨ea,gr,oL,ir,iG,jj⟩:=A8E (full:=full) (c:=p.aC) h ca (B3a hb).2
  generalize z8 full p.aC T=T1 at*
  obtain⟨lk,ll,lq⟩:=A8V (B:=T1.b) (aC:=p.aC) (clean:=p.clean) (aN:=u4 p.props)
  rw[lk,ll,lq,A5E]
  intro y hy
  rcases C9.1 hy with hy|hy
  ·exact .inl (ir y hy).1
  ·rw[B7.1 hy];exact .inr rfl
 ·rw[if_pos (by simpa using hb)]
  exact fun y hy=>.inl hy
theorem C3f{full:Bool}{c:Int}{p:PkI}{B:Z0}{n:Nat}(h:X4 B n)(ca:(B.aB.map (·.c)).Nodup)(hw:A7O B)(hp:p.aX.1.size≤9223372036854775800):A7O (b8 full c p B).b:=by
 unfold b8
 split
 ·exact fun y hy=>hw y (C4g (T:=⟨B,[],[]⟩) h.toj8 y hy)
 ·split
  ·intro y hy
   rcases B65 (T:=⟨B,[],[]⟩) h ca y hy with h1|h1
   ·exact hw y h1
   ·rw[h1];exact hp
  ·exact hw
theorem C6s{full:Bool}{c:Int}{B:Z0}{n:Nat}(h:X4 B n)(hw:A7O B):A7O (A70 full c B).b:=fun y hy=>hw y (B70 (T:=⟨B,[],[]⟩) h.toj8 y hy)
theorem C0Y{m:MsT}{B:Z0}{n:Nat}(h:X4 B n)(hw:A7O B):A7O (A1i m B).b:=fun y hy=>hw y (by
 unfold A1i at hy
 rw[(B5L (T:=⟨B,[],[]⟩) h.toj8).aB] at hy
 exact hy)
theorem C6t{B:Z0}{c:Int}(hw:A7O B):A7O (A5k B c):=fun y hy=>by
 rw[B5W] at hy
 exact hw y (D5.1 hy).1
theorem C0X{B:Z0}(hw:A7O B):A7O (A1V B):=by
 rw[A8u]
 have:∀(l:List Int) (B:Z0),A7O B→A7O (l.foldl A5k B):=by
  intro l
  induction l with
  |nil=>intro B h;exact h
  |cons c l ih=>intro B h;exact ih _ (C6t h)
 exact this _ B hw
theorem C7w:A7O ⟨0,[],[],[],[]⟩:=fun y hy=>by cases hy
def o4(T:U7):Prop:=∀o∈T.outs,A5U o.pk
def A5g(ps:List PkO):Prop:=∀p∈ps,A5U p
theorem B8W{m:MsT}{id:Int}{d:Bool}:A5U (A0x m id d):=by
 refine⟨⟨S7 0,(by show(0:Int)<256;decide)⟩,fun c hc=>(by cases hc),D1 _,?_⟩
 show(C06 _).length≤_
 unfold C06
 split<;>simp
theorem A7y{k id c:Int}(h:0≤c∧c<256):A5U (j3 k id c):=⟨h,fun c hc=>(by cases hc),D1 _,D1 _⟩
theorem C7V{s:Bool}:A5U (A1T s):=⟨⟨S7 0,(by show(0:Int)<256;decide)⟩,fun c hc=>(by cases hc),D1 _,D1 _⟩
theorem A2k:A5g []:=fun p hp=>by cases hp
theorem A5g.cons{p:PkO}{ps:List PkO}(h:A5U p)(hs:A5g ps):A5g (p::ps):=fun q hq=>by
 rcases D3.1 hq with rfl|hq
 ·exact h
 ·exact hs q hq
theorem A5g.app{ps qs:List PkO}(h:A5g ps)(hs:A5g qs):A5g (ps++qs):=fun q hq=>by
 rcases C9.1 hq with hq|hq
 ·exact h q hq
 ·exact hs q hq
theorem C1R:∀(w:List MsT) (o:Z5),A5g (goF o w).2
 |[],o=>A2k
 |m::w,o=>by
  unfold goF
  split
  ·exact A2k
  ·split
   ·exact A5g.cons B8W (C1R w _)
   ·exact A5g.cons B8W (C1R w _)
theorem A6O{o:Z5}:A5g (Y7 o).2:=by
 unfold Y7
 split
 ·exact C1R _ _
 ·exact A2k
theorem B7T{o:Z5}{m:MsT}:A5g (Y3 o m).1.2:=by
 unfold Y3
 split
 ·exact A2k
 ·split
  ·exact A2k
  ·split
   ·exact A2k
   ·exact A6O
theorem C5F{o:Z5}{k id c:Int}:A5g (A0V o k id c).1.2:=by
 unfold A0V
 split
 ·exact A2k
 ·split
  ·exact A2k
  ·split
   ·split
    ·exact A2k
    ·exact A6O
   ·split
    ·split
     ·exact A2k
     ·split
      ·exact A6O
      ·exact A5g.cons (A7y (by decide)) A6O
    ·split
     ·exact A2k
     ·exact A6O
theorem C1S{o:Z5}{most:Int}:A5g (A0k o most).2:=by
 unfold A0k
 refine A5g.app (fun p hp=>?_) A6O
 obtain⟨f,hf,rfl⟩:=E4.1 hp
 unfold A1y
 split
 ·exact A7y (by decide)
 ·exact B8W
theorem o4.send{T:U7}{o:l4}(h:o4 T)(ho:A5U o.pk):o4 (A0s o T):=fun q hq=>by
 rcases C9.1 hq with hq|hq
 ·exact h q hq
 ·rw[B7.1 hq];exact ho
theorem o4.sendAll{T:U7}{id:Int}{ps:List PkO}(h:o4 T)(hp:A5g ps):o4 (p6 id ps T):=fun q hq=>by
 rcases C9.1 hq with hq|hq
 ·exact h q hq
 ·unfold A1H at hq
  obtain⟨x,_,hx⟩:=R3.1 hq
  obtain⟨p,jK,rfl⟩:=E4.1 hx
  exact hp p jK
theorem o4.out{T:U7}{id:Int}{f:Z5→Z5×List PkO}(h:o4 T)(hf:∀o,A5g (f o).2):o4 (A0F id f T):=by
 unfold A0F
 split
 ·exact h
 ·rename_i s _
  exact o4.sendAll (T:=A0y (X9 id (Y6 (f s.out).1) T.b.aD) T) h (hf s.out)
theorem o4.fold{α:Type}{f:U7→α→U7}(hf:∀T x,o4 T→o4 (f T x)):∀(l:List α) {T:U7},o4 T→o4 (l.foldl f T)
 |[],T,h=>h
 |x::l,T,h=>o4.fold hf l (hf T x h)
theorem o4.hand{T:U7}{m:MsT}(h:o4 T):o4 (A0t m T):=by
 unfold A0t
 refine o4.fold (fun T x hT=>o4.out hT fun o=>B7T) _ ?_
 unfold A1Q
 split
 ·exact h
 ·exact h
theorem o4.dI{T:U7}{m:MsT}(h:o4 T):o4 (A3f m T):=o4.hand h
theorem o4.fin{T:U7}{full:Bool}{c:Int}{w:Bool}(h:o4 T):o4 (A3S full c w T):=by
 unfold A3S
 split
 ·exact h
 ·simp only
  split
  ·exact o4.dI (by exact h)
  ·exact h
theorem o4.refuse{T:U7}{full:Bool}{c code:Int}(h:o4 T)(hc:0≤code∧code<256):o4 (A0v full c code T):=o4.fin (o4.send h (A7y hc))
theorem C3l{s:s6}{k q id why:Int}(hw:0≤why∧why<256):(0≤(l8 s k q id why).2.2.1∧(l8 s k q id why).2.2.1<256)∧A5g (A3w (l8 s k q id why).2.1 id):=by
 have one:∀{a c:Int},0≤c∧c<256→A5g (A3w (some (a,c)) id):=fun hc=>A5g.cons (A7y hc) A2k
 have non:A5g (A3w none id):=A2k
 unfold l8
 split
 ·exact⟨by constructor<;>(try dsimp only)<;>decide,non⟩
 ·split
  ·exact⟨by constructor<;>(try dsimp only)<;>decide,non⟩
  ·split
   ·exact⟨by constructor<;>(try dsimp only)<;>decide,one (by split<;>constructor<;>(try dsimp only)<;>decide)⟩
   ·split
    ·exact⟨by constructor<;>(try dsimp only)<;>decide,one hw⟩
    ·split
     ·exact⟨by constructor<;>(try dsimp only)<;>decide,one (by constructor<;>(try dsimp only)<;>decide)⟩
     ·split
      ·exact⟨by constructor<;>(try dsimp only)<;>decide,non⟩
      ·exact⟨by constructor<;>(try dsimp only)<;>decide,one hw⟩
theorem C4p{o:Z5}{k id c:Int}:0≤(A0V o k id c).2∧(A0V o k id c).2<256:=by
 unfold A0V
 split
 ·constructor<;>(try dsimp only)<;>decide
 ·split
  ·constructor<;>(try dsimp only)<;>decide
  ·split
   ·split<;>constructor<;>(try dsimp only)<;>decide
   ·split
    ·split
     ·constructor<;>(try dsimp only)<;>decide
     ·split<;>constructor<;>(try dsimp only)<;>decide
    ·split<;>constructor<;>(try dsimp only)<;>decide
theorem C5C{full:Bool}{x:X2}{p:PkI}{T:U7}(h:o4 T):o4 (A5s full x p T):=by
 unfold A5s
 split
 ·exact o4.refuse h (by decide)
 ·split
  ·exact h
  ·rename_i s hs
   simp only
   have hr:=C3l (s:=s.aZ) (k:=p.kind) (q:=p.eM) (id:=p.id) (why:=if full=true then 151 else 0) (by split<;>decide)
   generalize l8 s.aZ p.kind p.eM p.id (if full=true then 151 else 0)=r at hr
   split
   ·exact o4.refuse (T:=A0y (X9 x.aD (j2 ⟨s.aZ.most,s.aZ.taken,r.2.2.2⟩) T.b.aD) T) h hr.1
   ·have h2:=o4.sendAll (T:=A0y (X9 x.aD (j2 ⟨s.aZ.most,s.aZ.taken,r.2.2.2⟩) T.b.aD) T) (id:=x.aD) h hr.2
    split
    ·exact o4.dI h2
    ·exact h2
theorem C1T{full:Bool}{x:X2}{p:PkI}{T:U7}(h:o4 T):o4 (A2B full x p T):=by
 unfold A2B
 split
 ·exact h
 ·split
  ·exact o4.refuse h C4p
  ·exact o4.out h fun o=>C5F
theorem C4q{E:List Ent}{id q:Int}{f:B3O}:0≤(A2J E id f q).1∧(A2J E id f q).1<256:=by
 unfold A2J
 split
 ·exact⟨(by show(0:Int)≤143;decide),(by show(143:Int)<256;decide)⟩
 ·split
  ·exact⟨(by show(0:Int)≤155;decide),(by show(155:Int)<256;decide)⟩
  ·split
   ·exact⟨(by show(0:Int)≤0;decide),(by show(0:Int)<256;decide)⟩
   ·split
    ·exact⟨(by show(0:Int)≤151;decide),(by show(151:Int)<256;decide)⟩
    ·exact⟨(by show(0:Int)≤0;decide),(by show(0:Int)<256;decide)⟩
theorem B6D{id:Int}:∀(l:List A0A) (E:List Ent),(∀c∈(j6 id l E).2,0≤c∧c<256)∧(j6 id l E).2.length=l.length
 |[],E=>⟨fun c hc=>(by cases hc),rfl⟩
 |s::l,E=>by
  unfold j6
  have ih:=B6D (id:=id) l (A2J E id s.1 s.2.1).2
  refine⟨fun c hc=>?_,by simp only[B8];rw[ih.2]⟩
  rcases D3.1 hc with rfl|hc
  ·split
   ·rename_i h0
    have:=B3c h0
    omega
   ·exact C4q
  ·exact ih.1 c hc
theorem B6p{id:Int}:∀(l:List B3O) (E:List Ent),(∀c∈(A0H id l E).2,0≤c∧c<256)∧(A0H id l E).2.length=l.length
 |[],E=>⟨fun c hc=>(by cases hc),rfl⟩
 |s::l,E=>by
  unfold A0H
  have ih:=B6p (id:=id) l (A1L E id s)
  refine⟨fun c hc=>?_,by simp only[B8];rw[ih.2]⟩
  rcases D3.1 hc with rfl|hc
  ·split<;>decide
  ·exact ih.1 c hc
theorem C5E{k id:Int}{cs:List Int}(h:∀c∈cs,0≤c∧c<256)(hl:cs.length≤1000000):A5U (A0S k id cs):=⟨⟨S7 0,(by show(0:Int)<256;decide)⟩,h,hl,D1 _⟩
theorem o4.sub{x:X2}{s:A0A}{T:U7}(h:o4 T):o4 (i7 x.aD T s):=by
 unfold i7
 split
 ·exact h
 ·exact o4.fold (fun T m hT=>o4.out hT fun o=>B7T) _ h
theorem C6W{full:Bool}{x:X2}{p:PkI}{T:U7}(h:o4 T)(hs:p.aH.length≤100)(hf:p.bH.length≤100):o4 (A8A full x p T):=by
 unfold A8A
 split
 ·exact C5C h
 ·split
  ·exact C1T h
  ·split
   ·unfold A0W
    have ha:=B6D (id:=x.aD) p.aH T.b.aH
    exact o4.fold (fun T s hT=>o4.sub hT) _ (o4.send (T:=A09 (j6 x.aD p.aH T.b.aH).1 T) h (C5E ha.1 (by omega)))
   ·split
    ·unfold A1e
     have ha:=B6p (id:=x.aD) p.bH T.b.aH
     exact o4.send (T:=A09 (A0H x.aD p.bH T.b.aH).1 T) h (C5E ha.1 (by omega))
    ·split
     ·exact o4.send h (A7y (by decide))
     ·split
      ·exact o4.fin h
      ·exact o4.refuse h (by decide)
theorem C50{p:PkI}{B:Z0}:0≤A5p p B∧A5p p B<256:=by
 unfold A5p
 repeat' split
 all_goals decide
theorem C0q{full:Bool}{c:Int}{p:PkI}{T:U7}(h:o4 T):o4 (A1j full c p T):=by
 unfold A1j
 split
 ·exact o4.send h (A7y C50)
 ·rw[A3R]
  have hk:o4 (z8 full p.aC T):=by
   unfold z8
   split
   ·unfold A2V
    split
    ·exact h
    ·exact o4.refuse h (by decide)
   ·exact h
  exact o4.out (o4.send (by exact hk) C7V) fun o=>C1S
theorem A9h{B:Z0}:o4 ⟨B,[],[]⟩:=fun o ho=>(by cases ho)
theorem C1Q{full:Bool}{c:Int}{p:PkI}{B:Z0}(hs:p.aH.length≤100)(hf:p.bH.length≤100):o4 (b8 full c p B):=by
 unfold b8
 split
 ·exact C6W A9h hs hf
 ·split
  ·exact C0q A9h
  ·exact o4.send (T:=⟨B,[],[]⟩) (o:=⟨c,j3 14 0 130,true⟩) A9h (A7y (by decide))
theorem C5D{full:Bool}{c:Int}{B:Z0}:o4 (A70 full c B):=o4.fin A9h
theorem C0p{m:MsT}{B:Z0}:o4 (A1i m B):=o4.hand A9h
variable {h h0:Heap} {L L' L1 L2 L3 R:List Asn} {Q:Value→Heap→Prop}
def evP(x:EvQ):PkI:=pkI x.p.pk (x.p.pl.take 80) (x.p.sl.take 80) (x.p.fl.take 80)
noncomputable def evB(x:EvQ)(B:Z0):U7:=
 if Int.tmod x.cD 6=1∨Int.tmod x.cD 6= -1 then A70 x.full x.conn B
 else if Int.tmod x.cD 6=2∨Int.tmod x.cD 6= -2 then A1i x.m B
 else if Int.tmod x.cD 6=3∨Int.tmod x.cD 6= -3 then⟨A1V B,[],[]⟩
 else b8 x.full x.conn (evP x) B
theorem C5W{c:Int}(h:(Lit.int .i64 c).wf=true): -9223372036854775808≤c∧c≤9223372036854775807:=by
 simp[Lit.wf,IntKind.min,IntKind.max,IntKind.bits,IntKind.signed] at h
 omega
theorem C5I{x:EvQ}{B:Z0}{n:Nat}{hp:Heap}(hx:EvG 1048576 hp x)(h:X4 B n)(ca:(B.aB.map (·.c)).Nodup)(hk:B.kept.length≤64)(hw:A7O B):
  X4 (evB x B).b (n+1)∧A7O (evB x B).b∧(evB x B).outs.length≤3300000∧(evB x B).aT.length≤3300000∧o4 (evB x B):=by
 have fa:(evP x).aH.length≤100:=C4 (J0 _ _) (by decide)
 have fg:(evP x).bH.length≤100:=C4 (J0 _ _) (by decide)
 have eK:(evP x).aX.1.size≤1048576:=hx.p.aX
 unfold evB
 split
 ·exact⟨(B5y h).1.mono (S0 n),C6s h hw,(B5y h).2.1,(B5y h).2.2,C5D⟩
 ·split
  ·exact⟨(A8T h).1.mono (S0 n),C0Y h hw,(A8T h).2.1,(A8T h).2.2,C0p⟩
  ·split
   ·exact⟨(B9H h).mono (S0 n),C0X hw,D1 _,D1 _,A9h⟩
   ·have h1:=A3J (full:=x.full) (c:=x.conn) (p:=evP x) h ca hk fa (C4 eK (by decide)) (C5W hx.conn)
    exact⟨h1.1,C3f h ca hw (C4 eK (by decide)),h1.2.1,h1.2.2,C1Q fa fg⟩
theorem B64{m:MsT}{B:Z0}:(A1i m B).aT=[]:=by
 unfold A1i
 rw[A7w]
theorem C5A{b r n:Nat}{full0:Bool}{T:U7}{x:EvQ}(ht:TP h0)(ag:X4 T.b n)(hn:n≤999999)(hw:A7O T.b)(ic:EvG 1048576 h0 x)
  (hq:∀full,At (A1c b (evB x T.b).b::rbA r full (V9 .i64) (evB x T.b)::old h0::L3) (Q (.bool true)))
  (hx:Has L (A1c b T.b) L1:=by repeat first|with_reducible exact V0|apply V2)(hy:Has L1 (rbA r full0 (V9 .i64) T) L2:=by repeat first|with_reducible exact V0|apply V2)(hz:Has L2 (old h0) L3:=by repeat first|with_reducible exact V0|apply V2):
  FW prog 22 #[at0 b,at0 r,.agg (B3T x).toArray] L Q:=by
 have hp:=ic.p
 have hr:=hp.rows
 obtain⟨cD,conn,⟨⟨vk,vd,vr,vq,vi,vt,vp,vc,s8,s9,bZ,bU,bL,bN,cn,cw,cv,cq,cJ,bQ,bT,vu,bI,bF,cI,cH,⟨⟩⟩,cl,pl,wl,sl,fl⟩,full,⟨mt,mp,mq,mr,mg⟩⟩:=x
 dsimp only at hr hp
 refine fun h hs=>B0t (some ⟨b,0,none⟩) (some ⟨r,0,none⟩) (cD,conn,vk,vd,vr,vq,vi,vt,vp,vc,s8,s9,bZ,bU,bL,bN,cn,cw,cv,cq,cJ,bQ,bT,vu,bI,bF,cI,cH,full,mt,mp,mq,mr,mg,()) h Q ((?_:W (A1c b T.b::rbA r full0 (V9 .i64) T::old h0::L3) _ _) h ((hx.cV hy hz).s hs))
 clear hs h hx hy hz
 delta B1G ad az bn cb cc cx g2 A0N g7 ie jb jc ji kc nn nw pu sn sw vi vs vz
 refine Y9 (fun h R hs=>C61 (b:=b) ag hw h R hs) fun hsz=>?_
 refine Y9 (fun h R hs=>B6t (b:=b) (B:=T.b) h R hs) fun au=>?_
 obtain⟨jL,pK,tq,tj,tU⟩:=C5I ic ag au.1 au.2 hw
 obtain⟨T9,aJ⟩:∃T9,T9=evB ⟨cD,conn,⟨(vk,vd,vr,vq,vi,vt,vp,vc,s8,s9,bZ,bU,bL,bN,cn,cw,cv,cq,cJ,bQ,bT,vu,bI,bF,cI,cH,()),cl,pl,wl,sl,fl⟩,full,(mt,mp,mq,mr,mg)⟩ T.b:=⟨_,rfl⟩
 rw[←aJ] at hq jL pK tq tj tU
 unfold evB evP at aJ
 dsimp only at aJ
 refine Y1 fun x1=>?_
 refine W.cells (b:=x1) #[.int .i64 cD,.int .i64 conn,.int .i64 vk,.bool vd,.bool vr,.int .i64 vq,.int .i64 vi,.string vt,.string vp,.int .u8 vc,.slice s8.a s8.len s8.cap,.slice s9.a s9.len s9.cap,.string bZ,.bool bU,.int .i64 bL,.bool bN,.string cn,.string cw,.int .i64 cv,.bool cq,.slice cJ.a cJ.len cJ.cap,.bool bQ,.bool bT,.string vu,.string bI,.bool bF,.slice cI.a cI.len cI.cap,.slice cH.a cH.len cH.cap,.bool full,.string mt,.string mp,.int .i64 mq,.bool mr,.string mg] ?_
 refine Y1 fun x2=>?_
 refine W.load (b:=x1) (v:=cD) ?_
 refine A1p ?_ (by decide)
 generalize Int.tmod cD 6=w6 at aJ⊢
 refine A02 (fun a=>a.1=decide (w6=1∨w6= -1)) (fun K hK=>A0i (fun e=>U2 (hK _ (by simp only[P9] at e;simp[e]))) (fun e=>U2 (hK _ (by simp only[H5,ne_eq] at e;by_cases e2:w6= -1<;>simp[e,e2])))) (fun a ha=>?_)
 refine C8u (X:=Slc×Slc×Bool) (fun _ _=>True) (fun g _=>cells x2 #[.slice g.1.a g.1.len g.1.cap,.slice g.2.1.a g.2.1.len g.2.1.cap]::V9 .u8 g.1 T9.outs::U5 Z6 5 g.2.1 T9.aT::A1c b T9.b::rbA r g.2.2 (V9 .i64) T9::old h0::L3) (fun K hK=>?_) (fun g _ _=>?_)
 ·clear hq jL pK tq tj tU
  by_cases h1:w6=1∨w6= -1
  ·rw[if_pos h1] at aJ
   refine X6 (by rw[ha];exact decide_eq_true h1) ?_
   refine W.load (b:=x1) (v:=conn) ?_
   refine W.load (b:=x1) (v:=full) ?_
   refine j1 (C63 (b:=b) ht ag (fun so sp=>At.un (x:=(so,sp,())) ?_))
   refine y8 (b:=x2) ?_
   refine W.load (b:=x1) (v:=conn) ?_
   refine W.load (b:=x1) (v:=full) ?_
   refine Z1 (C6I (T:=T) (full0:=full0) ag hsz.1 (At.bD ?_))
   subst aJ
   exact U2 (hK (so,sp,full) () trivial).sub
  rw[if_neg h1] at aJ
  refine W6 (by rw[ha];exact decide_eq_false h1) ?_
  clear ha h1
  refine A02 (fun a=>a.1=decide (w6=2∨w6= -2)) (fun K hK=>A0i (fun e=>U2 (hK _ (by simp only[P9] at e;simp[e]))) (fun e=>U2 (hK _ (by simp only[H5,ne_eq] at e;by_cases e2:w6= -2<;>simp[e,e2])))) (fun a ha=>?_)
  by_cases h1:w6=2∨w6= -2
  ·rw[if_pos h1] at aJ
   refine A1k (by rw[ha];exact decide_eq_true h1) ?_
   refine X3 (A7R (b:=x1) (i:=29) (v:=(mt,mp,mq,mr,mg,())) ?_)
   refine X3 (j1 (C2l (b:=b) (m:=(mt,mp,mq,mr,mg)) ht ag (C4 ic.bX (by decide)) (fun so=>At.un (x:=so) ?_)))
   refine X3 (W.store (b:=x2) (cs':=#[.slice so.a so.len so.cap,.slice none 0 0]) ?_)
   refine X3 (A7R (b:=x1) (i:=29) (v:=(mt,mp,mq,mr,mg,())) ?_)
   refine X3 (Z1 (C1o (T:=T) (full0:=full0) (m:=(mt,mp,mq,mr,mg)) ag hsz.1 (C4 ic.bX (by decide)) (At.bD ?_)))
   refine b6 ?_
   refine A4L Z6 5 ?_
   have pZ:=B64 (m:=(mt,mp,mq,mr,mg)) (B:=T.b)
   rw[←aJ] at pZ⊢
   rw[pZ] at hK
   exact U2 (hK (so,l0,false) () trivial).sub
  rw[if_neg h1] at aJ
  refine o0 (by rw[ha];exact decide_eq_false h1) ?_
  clear ha h1
  refine X3 ?_
  refine A02 (fun a=>a.1=decide (w6=3∨w6= -3)) (fun K hK=>A0i (fun e=>U2 (hK _ (by simp only[P9] at e;simp[e]))) (fun e=>U2 (hK _ (by simp only[H5,ne_eq] at e;by_cases e2:w6= -3<;>simp[e,e2])))) (fun a ha=>?_)
  by_cases h1:w6=3∨w6= -3
  ·rw[if_pos h1] at aJ
   refine X3 (A1k (by rw[ha];exact decide_eq_true h1) ?_)
   refine X3 (Z1 (C2k (b:=b) ht ag (At.bD ?_)))
   refine X3 (Z1 (C1k (T:=T) (full0:=full0) ag hsz.1 (At.bD ?_)))
   refine b6 (b6 ?_)
   subst aJ
   refine A4L Z6 5 ?_
   refine W.sub (L':=U5 Z6 5 ⟨none,0,0⟩ []::cells x2 #[.slice none 0 0,.slice none 0 0]::A1c b (A1V T.b)::rbA r false (V9 .i64) ⟨A1V T.b,[],[]⟩::old h0::L3) ?_
   exact U2 (fun h hs=>hK (l0,l0,false) () trivial h ((B1q (k:=.u8) hs).re [2,0,1,3,4,5]))
  rw[if_neg h1] at aJ
  refine X3 (o0 (by rw[ha];exact decide_eq_false h1) ?_)
  clear ha h1
  refine X3 (A7R (b:=x1) (i:=2) (v:=(vk,vd,vr,vq,vi,vt,vp,vc,s8,s9,bZ,bU,bL,bN,cn,cw,cv,cq,cJ,bQ,bT,vu,bI,bF,cI,cH,())) ?_)
  obtain⟨cc,fT⟩:∃cc,cc=IntKind.wrap .i64 vc:=⟨_,rfl⟩
  have xD:vc=cc:=by
   have:=hp.code
   simp[Lit.wf,IntKind.min,IntKind.max,IntKind.bits,IntKind.signed] at this
   rw[fT,V8 (by omega) (by omega)]
  refine X3 (Z1 (B7z hr fT (fun c1 c2 p1 p2 w1 w2 q1 q2 f1 f2=>At.bD (x:=((vk,vd,vr,vq,vi,vt,vp,vc,c1,p1,bZ,bU,bL,bN,cn,cw,cv,cq,w1,bQ,bT,vu,bI,bF,q1,f1,()),(vk,vd,vr,vq,vi,vt,vp,cc,c2,p2,bZ,bU,bL,bN,cn,cw,cv,cq,w2,bQ,bT,vu,bI,bF,q2,f2,()),())) ?_)))
  clear fT
  subst xD
  have jB:∀{α:Type} (l:List α),(l.take 80).length≤100:=fun l=>C4 (J0 _ _) (by decide)
  have rG:C0T (vk,vd,vr,vq,vi,vt,vp,vc,c1,p1,bZ,bU,bL,bN,cn,cw,cv,cq,w1,bQ,bT,vu,bI,bF,q1,f1,()) (pl.take 80) (sl.take 80) (fl.take 80):=⟨C4 hp.bX (by decide),C4 hp.aC (by decide),C4 hp.aX (by decide),jB _,jB _,fun s hs=>C4 (hp.aH s (P3 hs)) (by decide),jB _,fun f hf=>C4 (hp.eF f (P3 hf)) (by decide)⟩
  have wU:C6h (vk,vd,vr,vq,vi,vt,vp,vc,c2,p2,bZ,bU,bL,bN,cn,cw,cv,cq,w2,bQ,bT,vu,bI,bF,q2,f2,()) (pl.take 80) (sl.take 80) (fl.take 80):=⟨C4 hp.bX (by decide),C4 hp.aC (by decide),C4 hp.aX (by decide),jB _,jB _,fun s hs=>C4 (hp.aH s (P3 hs)) (by decide),jB _⟩
  have bu:=C5W ic.conn
  have e1:b8 full conn (pkI (vk,vd,vr,vq,vi,vt,vp,vc,c1,p1,bZ,bU,bL,bN,cn,cw,cv,cq,w1,bQ,bT,vu,bI,bF,q1,f1,()) (pl.take 80) (sl.take 80) (fl.take 80)) T.b=T9:=aJ.symm
  have e2:b8 full conn (pkI (vk,vd,vr,vq,vi,vt,vp,vc,c2,p2,bZ,bU,bL,bN,cn,cw,cv,cq,w2,bQ,bT,vu,bI,bF,q2,f2,()) (pl.take 80) (sl.take 80) (fl.take 80)) T.b=T9:=aJ.symm
  have gW:n≤1000000:=by omega
  clear aJ hr hp ic
  refine X3 (Y1 fun pv=>?_)
  refine X3 (Y1 fun lz=>?_)
  refine X3 (y8 (b:=pv) ?_)
  refine X3 (y8 (b:=lz) ?_)
  refine W.cells (b:=pv) #[.int .i64 vk,.bool vd,.bool vr,.int .i64 vq,.int .i64 vi,.string vt,.string vp,.int .u8 vc,.slice c1.a c1.len c1.cap,.slice p1.a p1.len p1.cap,.string bZ,.bool bU,.int .i64 bL,.bool bN,.string cn,.string cw,.int .i64 cv,.bool cq,.slice w1.a w1.len w1.cap,.bool bQ,.bool bT,.string vu,.string bI,.bool bF,.slice q1.a q1.len q1.cap,.slice f1.a f1.len f1.cap] ?_
  refine W.cells (b:=lz) #[.int .i64 vk,.bool vd,.bool vr,.int .i64 vq,.int .i64 vi,.string vt,.string vp,.int .i64 vc,.slice c2.a c2.len c2.cap,.slice p2.a p2.len p2.cap,.string bZ,.bool bU,.int .i64 bL,.bool bN,.string cn,.string cw,.int .i64 cv,.bool cq,.slice w2.a w2.len w2.cap,.bool bQ,.bool bT,.string vu,.string bI,.bool bF,.slice q2.a q2.len q2.cap,.slice f2.a f2.len f2.cap] ?_
  refine X3 (W.load (b:=x1) (v:=conn) ?_)
  refine X3 (r7 (b:=pv) (v:=(vk,vd,vr,vq,vi,vt,vp,vc,c1,p1,bZ,bU,bL,bN,cn,cw,cv,cq,w1,bQ,bT,vu,bI,bF,q1,f1,())) ?_)
  refine X3 (W.load (b:=x1) (v:=full) ?_)
  refine X3 (j1 (A6X (b:=b) (n:=n) (B:=T.b) (c:=conn) (p:=(vk,vd,vr,vq,vi,vt,vp,vc,c1,p1,bZ,bU,bL,bN,cn,cw,cv,cq,w1,bQ,bT,vu,bI,bF,q1,f1,())) (pl:=pl.take 80) (sl:=sl.take 80) (fl:=fl.take 80) (full:=full) ht ag gW rG bu (fun so sp=>At.un (x:=(so,sp,())) ?_)))
  rw[e1]
  refine X3 (y8 (b:=x2) ?_)
  refine X3 (W.load (b:=x1) (v:=conn) ?_)
  refine X3 (r7 (b:=lz) (v:=(vk,vd,vr,vq,vi,vt,vp,vc,c2,p2,bZ,bU,bL,bN,cn,cw,cv,cq,w2,bQ,bT,vu,bI,bF,q2,f2,())) ?_)
  refine X3 (W.load (b:=x1) (v:=full) ?_)
  refine X3 (Z1 (C3E (T:=T) (n:=n) (full:=full) (full0:=full0) (c:=conn) (p:=(vk,vd,vr,vq,vi,vt,vp,vc,c2,p2,bZ,bU,bL,bN,cn,cw,cv,cq,w2,bQ,bT,vu,bI,bF,q2,f2,())) (pl:=pl.take 80) (sl:=sl.take 80) (fl:=fl.take 80) ag gW hsz.1 hsz.2 bu wU (At.bD ?_)))
  rw[e2]
  refine b6 (b6 ?_)
  exact U2 (hK (so,sp,full) () trivial).sub
 ·obtain⟨gs,gp,gf⟩:=g
  dsimp only
  refine X3 (W.load (b:=x2) (v:=gs) ?_)
  refine X3 (W4 ?_)
  refine A2m (g:=fun q R=>rbL r gf (V9 .i64) T9 q R) (fun h R=>A0L.1) fun q=>?_
  refine X3 (e8 (b:=r) (i:=5) (v:=q.so) ?_)
  refine W.sub (L':=V9 .u8 gs T9.outs::V9 .i64 q.so T9.outs::cells x2 #[.slice gs.a gs.len gs.cap,.slice gp.a gp.len gp.cap]::U5 Z6 5 gp T9.aT::A1c b T9.b::cells r (rbC q gf)::U5 Z6 5 q.sp T9.aT::U5 A0b 8 q.sc T9.b.aB::A0q q.tb T9.b.last T9.b.aD::A0D q.sb T9.b.aH::A1N q.kb 64 T9.b.kept::old h0::L3) ?_
  refine X3 (j1 (C3d (v:=.bool true) (fun h1 aa Q1 jg=>C3w (s1:=gs) (s2:=q.so) (os:=T9.outs) (C2L aa) (C2L (aa.re [1,0])) (C4 tq (by decide)) tU jg) (At.un (x:=true) ?_)))
  refine A1k rfl ?_
  refine X3 (W.load (b:=x2) (v:=gp) ?_)
  refine X3 (W4 ?_)
  refine X3 (e8 (b:=r) (i:=6) (v:=q.sp) ?_)
  refine W.sub (L':=U5 Z6 5 gp T9.aT::U5 Z6 5 q.sp T9.aT::V9 .i64 q.so T9.outs::A1c b T9.b::cells r (rbC q gf)::U5 A0b 8 q.sc T9.b.aB::A0q q.tb T9.b.last T9.b.aD::A0D q.sb T9.b.aH::A1N q.kb 64 T9.b.kept::old h0::L3) ?_
  refine X3 (j1 (C3d (v:=.bool true) (fun h1 aa Q1 jg=>C1c (s1:=gp) (s2:=q.sp) (ms:=T9.aT) (aa.aO (Enc.len (enc:=Z6))) ((aa.re [1,0]).aO (Enc.len (enc:=Z6))) (C4 tj (by decide)) jg) (At.un (x:=true) ?_)))
  refine b6 (U2 ?_)
  refine At.rb (O:=V9 .i64) T9 q ?_
  exact(hq gf).sub
end
section
open Go.H Go.Proofs
variable {h h0:Heap} {L L' L1 L2 R:List Asn} {Q:Value→Heap→Prop}
theorem C8q{γ β:Type}{enc:γ→C9P}{size n:Nat}{N:Int}{s s2:Slc}{xs:List γ}{f:Slc→HM β}{Q':β→Heap→Prop}(hr:Z7 enc size h0 s xs)(hN:N=(n:Int))(hw:∀s',Z7 enc size h0 s' (xs.take n)→W L (f s') Q')(hs:s2=s:=by rfl):
  W L (HM.bind (HM.slice s none (some (if N<(((s2.len:Nat):Int):Int) then N else((s2.len:Nat):Int))) none size) f) Q':=by
 subst hs hN
 have hl:=hr.1
 by_cases jw:n<xs.length
 ·rw[if_pos (by omega)]
  exact C29 (n:=n) hr (by omega) hw
 ·rw[if_neg (by omega)]
  have e:xs.take n=xs.take xs.length:=by rw[D6 (by omega),F9]
  refine C29 (n:=xs.length) hr (D9 _) (fun s' dw=>hw s' (by rw[e];exact dw)) (by rw[hl])
end
section
open Go.H Go.Proofs
variable {h h0:Heap} {L L' L1 L2 L3 R:List Asn} {Q:Value→Heap→Prop}
noncomputable def evN(B:Z0)(x:EvQ):Z0:=(evB x B).b
noncomputable def C56(xs:List EvQ):Z0:=xs.foldl evN ⟨0,[],[],[],[]⟩
theorem C66{s1:Slc}{jd:List EvQ}(ht:TP h0)(ij:Z7 B3T 34 h0 s1 jd)(lb:∀x∈jd,EvG 1048576 h0 x)
  (hq:∀b,X4 (C56 (jd.take 40)) 40→A7O (C56 (jd.take 40))→At (A1c b (C56 (jd.take 40))::old h0::L1) (Q (at0 b)))(hx:Has L (old h0) L1:=by repeat first|with_reducible exact V0|apply V2):
  FW prog 15 #[.slice s1.a s1.len s1.cap] L Q:=by
 refine fun h hs=>B1H s1 h Q ((?_:W (old h0::L1) _ _) h (hx.s hs))
 clear hs h hx
 delta B3K az bn cb cp g0 ie ix nw pu sn wi
 refine j1 (C51 (fun b=>At.un (x:=some ⟨b,0,none⟩) ?_))
 refine j1 (C7J (fun r=>At.un (x:=some ⟨r,0,none⟩) ?_))
 refine C8q (n:=40) ij rfl (fun s' hr=>?_)
 have vQ:(jd.take 40).length≤40:=J0 _ _
 have oQ:∀x∈jd.take 40,EvG 1048576 h0 x:=fun x hx=>lb x (P3 hx)
 clear ij lb
 generalize jd.take 40=xs at hr oQ vQ hq
 refine W.loop (γ:=Nat×U7×Bool) (fun g s=>s.1=(g.1:Int)∧g.1≤xs.length∧X4 g.2.1.b g.1∧A7O g.2.1.b∧(xs.drop g.1).foldl evN g.2.1.b=C56 xs) (fun g s=>rbA r g.2.2 (V9 .i64) g.2.1::A1c b g.2.1.b::old h0::L1) (fun g=>xs.length-g.1) (0,⟨⟨0,[],[],[],[]⟩,[],[]⟩,false) ⟨rfl,D1 _,X4.new,C7w,rfl⟩ ?_ ?_
 ·show Sub _ (rbA r false (V9 .i64) ⟨⟨0,[],[],[],[]⟩,[],[]⟩::A1c b ⟨0,[],[],[],[]⟩::old h0::L1)
  repeat(first|with_reducible exact T6|with_reducible exact T7|refine T8 (by repeat first|with_reducible exact V0|apply V2) ?_|refine U0 ?_)
 rintro⟨i,T,f0⟩ s ⟨hi,cK,ag,hw,hf⟩ K k1 k2
 simp only at hi cK ag hw hf
 dsimp only
 by_cases ah:i<xs.length
 ·refine X6 (by rw[hi,hr.1];exact decide_eq_true (by omega)) ?_
  have aY:xs[i]? =some xs[i]:=B0 ah
  have bh:xs.drop i=xs[i]::xs.drop (i+1):=E1 ah
  have pI:=oQ xs[i] (H3 ah)
  rw[bh,I1] at hf
  generalize xs[i]=u at aY pI hf
  clear bh
  refine Y9 (fun h R hs=>B6t (b:=b) (B:=T.b) h R hs) fun au=>?_
  obtain⟨jL,pK,-,-,-⟩:=C5I pI ag au.1 au.2 hw
  have hn:=fun full=>k1 (i+1,evB u T.b,full) (IntKind.wrap .i64 (s.1+1),()) (by simp only;omega) ⟨by simp only[hi];rw[V8 (by omega) (by omega)];rfl,ah,jL,pK,hf⟩
  clear k1 k2 jL pK hf
  obtain⟨cD,conn,⟨⟨vk,vd,vr,vq,vi,vt,vp,vc,s8,s9,bZ,bU,bL,bN,cn,cw,cv,cq,cJ,bQ,bT,vu,bI,bF,cI,cH,⟨⟩⟩,cl,pl,wl,sl,fl⟩,full,⟨mt,mp,mq,mr,mg⟩⟩:=u
  refine A7P hr ah (fun a ha=>?_) (he:=hi)
  refine B4v (v:=(cD,conn,vk,vd,vr,vq,vi,vt,vp,vc,s8,s9,bZ,bU,bL,bN,cn,cw,cv,cq,cJ,bQ,bT,vu,bI,bF,cI,cH,full,mt,mp,mq,mr,mg,())) hr ha aY ?_
  refine Y1 fun x8=>?_
  refine y8 (b:=x8) ?_
  refine W.cells (b:=x8) #[.int .i64 cD,.int .i64 conn,.int .i64 vk,.bool vd,.bool vr,.int .i64 vq,.int .i64 vi,.string vt,.string vp,.int .u8 vc,.slice s8.a s8.len s8.cap,.slice s9.a s9.len s9.cap,.string bZ,.bool bU,.int .i64 bL,.bool bN,.string cn,.string cw,.int .i64 cv,.bool cq,.slice cJ.a cJ.len cJ.cap,.bool bQ,.bool bT,.string vu,.string bI,.bool bF,.slice cI.a cI.len cI.cap,.slice cH.a cH.len cH.cap,.bool full,.string mt,.string mp,.int .i64 mq,.bool mr,.string mg] ?_
  refine r7 (b:=x8) (v:=(cD,conn,vk,vd,vr,vq,vi,vt,vp,vc,s8,s9,bZ,bU,bL,bN,cn,cw,cv,cq,cJ,bQ,bT,vu,bI,bF,cI,cH,full,mt,mp,mq,mr,mg,())) ?_
  refine j1 (C5A (b:=b) (r:=r) (n:=i) (full0:=f0) (T:=T) (x:=⟨cD,conn,⟨(vk,vd,vr,vq,vi,vt,vp,vc,s8,s9,bZ,bU,bL,bN,cn,cw,cv,cq,cJ,bQ,bT,vu,bI,bF,cI,cH,()),cl,pl,wl,sl,fl⟩,full,(mt,mp,mq,mr,mg)⟩) ht ag (by omega) hw pI (fun full=>At.un (x:=true) ?_))
  exact U2 (hn full).sub
 ·refine W6 (by rw[hi,hr.1];exact decide_eq_false (by omega)) (U2 (k2 _ _ (U2 ?_)))
  have ej:i=xs.length:=by omega
  subst ej
  rw[K7,P4] at hf
  rw[←hf] at hq
  exact(hq b (ag.mono vQ) hw).sub
end
section
open Go.H Go.Proofs
variable {h h0:Heap} {L L' L1 L2 L3 R:List Asn} {Q:Value→Heap→Prop}
theorem C2W:∀a b:Int,eKI a=eKI b→a=b:=fun a b h=>by cases h;rfl
abbrev kB1:Kind:=.one .bool
theorem C1z{α:Type}{l:List α}(hn:l.Nodup){i:Nat}(ah:i<l.length):l[i]∉l.take i:=fun hm=>by
 obtain⟨j,hj,e⟩:=List.getElem_of_mem hm
 rw[E6] at hj
 rw[List.getElem_take] at e
 exact(Q5.1 hn) j i (by omega) ah (by omega) e
theorem C8r{β:Type}{Q':β→Heap→Prop}{S:Slc}{cl:List Int}{x:Nat}{f:Int×Unit→HM β}(hn:cl.Nodup)(hl:cl.length≤1000000)
  (hw:∀s,W (U5 eI 1 S cl::mapA eKI kB1.val x (B4R cl)::L2) (f s) Q')(hx:Has L (U5 eI 1 S cl) L1:=by repeat first|with_reducible exact V0|apply V2)(hy:Has L1 (mapA eKI kB1.val x []) L2:=by repeat first|with_reducible exact V0|apply V2):
  W L (HM.bind (HM.loop (σ:=Int×Unit) (τ:=Int×Unit) (fun x7=>
   A04 (decide (x7.1<((S.len:Nat):Int))) (
   HM.bind (α:=Addr) (A3W S.a S.len x7.1 1) fun x8=>
   HM.bind (α:=Int) (l6 (.int .i64) x8) fun x9=>
   HM.bind (α:=Unit) (A2Z (Instr.sameNow (.int .i64)) (some x) (.int .i64 x9) (.bool true)) fun _=>
   W9 (.inl (IntKind.wrap .i64 (x7.1+1),()))) (
   W9 (.inr (x7.1,())))) (0,())) f) Q':=by
 refine W.sub (L':=U5 eI 1 S cl::mapA eKI kB1.val x (B4R [])::L2) ?_ (hx.then hy)
 clear hx hy
 refine Y9 (Y0 (enc:=eI) (size:=1) (s:=S) (xs:=cl)) fun l1=>?_
 refine B31 cl.length (fun i x=>x.1=(i:Int)) (fun i _=>U5 eI 1 S cl::mapA eKI kB1.val x (B4R (cl.take i))::L2) rfl Sub.rfl (fun i x hi hI=>by rw[hI,l1];exact G6.2 (by omega)) ?_ ?_
 ·rintro⟨_,⟨⟩⟩ hI K hd
  rw[F9]
  exact U2 (hd _ _ (hw _))
 ·rintro i ⟨_,⟨⟩⟩ ah hI K bx hd
  simp only at hI
  subst hI
  have hy:=B0 ah
  refine j4 (enc:=eI) (xs:=cl) (i:=i) ah (fun a ha=>?_)
  refine B6F (enc:=eI) (x:=cl[i]) (v:=cl[i]) ha hy ?_
  refine W.mset (ek:=eKI) (ev:=kB1.val) kKI C2W cl[i] true ?_
  have tv:=C1z hn ah
  rw[C3O _ _ tv,←C7 ah]
  refine U2 ?_
  have h9:=bx (IntKind.wrap .i64 ((i:Int)+1),()) (by simp only;rw[V8 (by omega) (by omega)];rfl)
  exact h9.sub
theorem C5m{l:List Int}(h:l.Nodup):(Z2 l).Nodup:=(A2D l).nodup_iff.2 h
end
section
open Go.H Go.Proofs
def hdL:Option Int→List l4
 |none=>[]
 |some y=>[⟨y,j3 14 0 142,true⟩]
structure ClT(c:Int)(hd:Option Int)(os:List l4)(C:List X2):Prop where
 each:∀o∈os,(o.conn=c∧(o.close=true→o.pk.kind=14∨o.pk.kind=2))∨(o.close=false∧o.pk.kind=3∧o.conn≠c∧∀y∈hd,o.conn≠y)
 gone:∀y∈hd,y≠c∧∀x∈C,x.c≠y
def C9I(c:Int)(os:List l4)(C:List X2):Prop:=∀o∈os,o.close=true→∀x∈C,x.c≠c
def ClW(c:Int)(hd:Option Int)(C:List X2)(T:U7):Prop:=(∃os,T.outs=hdL hd++os∧ClT c hd os C)∧∀x∈T.b.aB,x∈C
def Cl(c:Int)(hd:Option Int)(C:List X2)(T:U7):Prop:=(∃os,T.outs=hdL hd++os∧ClT c hd os C∧C9I c os C)∧∀x∈T.b.aB,x∈C
theorem Cl.eV{c:Int}{hd:Option Int}{C:List X2}{T:U7}(h:Cl c hd C T):ClW c hd C T:=by
 obtain⟨⟨os,h1,h2,_⟩,h4⟩:=h
 exact⟨⟨os,h1,h2⟩,h4⟩
theorem Cl.send{c:Int}{hd:Option Int}{C:List X2}{T:U7}{o:l4}(h:Cl c hd C T)(ho:o.conn=c)(hc:o.close=false):Cl c hd C (A0s o T):=by
 obtain⟨⟨os,h1,h2,h3⟩,h4⟩:=h
 refine⟨⟨os++[o],by show T.outs++[o]=_;rw[h1,D2],⟨fun x hx=>?_,h2.gone⟩,fun x hx aQ=>?_⟩,h4⟩
 ·rcases C9.1 hx with hx|hx
  ·exact h2.each x hx
  ·rw[B7.1 hx];exact .inl ⟨ho,fun e=>by rw[hc] at e;cases e⟩
 ·rcases C9.1 hx with hx|hx
  ·exact h3 x hx aQ
  ·rw[B7.1 hx,hc] at aQ;cases aQ
theorem Cl.sendW{c:Int}{hd:Option Int}{C:List X2}{T:U7}{o:l4}(h:ClW c hd C T)(ho:o.conn=c)(hk:o.pk.kind=14∨o.pk.kind=2):ClW c hd C (A0s o T):=by
 obtain⟨⟨os,h1,h2⟩,h4⟩:=h
 refine⟨⟨os++[o],by show T.outs++[o]=_;rw[h1,D2],⟨fun x hx=>?_,h2.gone⟩⟩,h4⟩
 rcases C9.1 hx with hx|hx
 ·exact h2.each x hx
 ·rw[B7.1 hx];exact .inl ⟨ho,fun _=>hk⟩
theorem Cl.sendAll{c:Int}{hd:Option Int}{C:List X2}{T:U7}{id:Int}{ps:List PkO}(h:Cl c hd C T)(hp:(∀x∈T.b.aB,x.aD=id→x.c=c)∨∀p∈ps,p.kind=3):Cl c hd C (p6 id ps T):=by
 obtain⟨⟨os,h1,h2,h3⟩,h4⟩:=h
 have hm:∀o∈A1H T.b.aB id ps,o.close=false∧∃x∈T.b.aB,x.aD=id∧x.c=o.conn∧o.pk∈ps:=fun o ho=>by
  unfold A1H at ho
  obtain⟨x,hx,wI⟩:=R3.1 ho
  obtain⟨p,jK,rfl⟩:=E4.1 wI
  obtain⟨fe,iC⟩:=D5.1 hx
  exact⟨rfl,x,fe,by simpa using iC,rfl,jK⟩
 refine⟨⟨os++A1H T.b.aB id ps,by show T.outs++_=_;rw[h1,D2],⟨fun o ho=>?_,h2.gone⟩,fun o ho aQ=>?_⟩,h4⟩
 ·rcases C9.1 ho with ho|ho
  ·exact h2.each o ho
  ·obtain⟨m1,x,hx,fc,kP,kT⟩:=hm o ho
   by_cases e:o.conn=c
   ·exact .inl ⟨e,fun e2=>by rw[m1] at e2;cases e2⟩
   ·refine .inr ⟨m1,?_,e,fun y hy=>?_⟩
    ·rcases hp with hp|hp
     ·exact absurd (kP.symm.trans (hp x hx fc)) e
     ·exact hp _ kT
    ·rw[←kP];exact(h2.gone y hy).2 x (h4 x hx)
 ·rcases C9.1 ho with ho|ho
  ·exact h3 o ho aQ
  ·rw[(hm o ho).1] at aQ;cases aQ
theorem Cl.out{c:Int}{hd:Option Int}{C:List X2}{T:U7}{id:Int}{f:Z5→Z5×List PkO}(h:Cl c hd C T)(hf:(∀x∈T.b.aB,x.aD=id→x.c=c)∨∀o,∀p∈(f o).2,p.kind=3):Cl c hd C (A0F id f T):=by
 unfold A0F
 split
 ·exact h
 ·rename_i s _
  exact Cl.sendAll (T:=A0y (X9 id (Y6 (f s.out).1) T.b.aD) T) h (hf.imp (fun h=>h) fun hf=>hf s.out)
theorem Cl.fold{α:Type}{c:Int}{hd:Option Int}{C:List X2}{f:U7→α→U7}(hf:∀T x,Cl c hd C T→Cl c hd C (f T x)):∀(l:List α) {T:U7},Cl c hd C T→Cl c hd C (l.foldl f T)
 |[],T,h=>h
 |x::l,T,h=>Cl.fold hf l (hf T x h)
theorem C5u:∀(w:List MsT) (o:Z5),∀p∈(goF o w).2,p.kind=3
 |[],o,p,hp=>by cases hp
 |m::w,o,p,hp=>by
  unfold goF at hp
  split at hp
  ·cases hp
  ·split at hp
   ·rcases D3.1 hp with rfl|hp
    ·rfl
    ·exact C5u w _ p hp
   ·rcases D3.1 hp with rfl|hp
    ·rfl
    ·exact C5u w _ p hp
theorem C0d{m:MsT}(o:Z5):∀p∈(Y3 o m).1.2,p.kind=3:=fun p hp=>by
 unfold Y3 at hp
 split at hp
 ·cases hp
 ·split at hp
  ·cases hp
  ·split at hp
   ·cases hp
   ·unfold Y7 at hp
    split at hp
    ·exact C5u _ _ p hp
    ·cases hp
theorem Cl.hand{c:Int}{hd:Option Int}{C:List X2}{T:U7}{m:MsT}(h:Cl c hd C T):Cl c hd C (A0t m T):=by
 unfold A0t
 refine Cl.fold (fun T x hT=>Cl.out hT (.inr fun o=>C0d o)) _ ?_
 unfold A1Q
 split
 ·exact h
 ·exact h
theorem Cl.dI{c:Int}{hd:Option Int}{C:List X2}{T:U7}{m:MsT}(h:Cl c hd C T):Cl c hd C (A3f m T):=Cl.hand h
theorem C1Z{k:Int}{B:Z0}:(A58 k B).aB=B.aB:=by
 unfold A58
 split
 ·rfl
 ·split
  ·rfl
  ·split<;>rfl
theorem Cl.fin{c d:Int}{full w:Bool}{hd:Option Int}{C:List X2}{T:U7}(h:Cl c hd C (tB (A6f (T.b.aB.filter fun y=>decide (y.c≠d)) T.b) T)):Cl c hd C (A3S full d w T):=by
 unfold A3S
 cases hg:A1o d T.b.aB with
 |none=>
  have hf:T.b.aB.filter (fun y=>decide (y.c≠d))=T.b.aB:=G9.2 fun y hy=>by
   have:=E7.1 hg y hy
   simpa using this
  rw[hf] at h
  exact h
 |some x=>
  simp only
  have h1:Cl c hd C (tB (A58 x.aD (A6f (T.b.aB.filter fun y=>decide (y.c≠d)) T.b)) T):=⟨h.1,fun y hy=>h.2 y (by rw[show(tB (A58 x.aD (A6f (T.b.aB.filter fun y=>decide (y.c≠d)) T.b)) T).b.aB=_ from C1Z] at hy;exact hy)⟩
  split
  ·exact Cl.dI h1
  ·exact h1
theorem Cl.end{c:Int}{full w:Bool}{hd:Option Int}{C:List X2}{T:U7}(h:ClW c hd C T):Cl c hd (C.filter fun y=>decide (y.c≠c)) (A3S full c w T):=by
 obtain⟨⟨os,h1,h2⟩,h4⟩:=h
 have ax:∀x∈C.filter (fun y=>decide (y.c≠c)),x.c≠c:=fun x hx=>by simpa using(D5.1 hx).2
 refine Cl.fin ⟨⟨os,h1,⟨h2.each,fun y hy=>⟨(h2.gone y hy).1,fun x hx=>(h2.gone y hy).2 x (D5.1 hx).1⟩⟩,fun o _ _=>ax⟩,fun x hx=>?_⟩
 obtain⟨fe,iC⟩:=D5.1 hx
 exact D5.2 ⟨h4 x fe,iC⟩
theorem Cl.refuse{c code:Int}{full:Bool}{hd:Option Int}{C:List X2}{T:U7}(h:ClW c hd C T):Cl c hd (C.filter fun y=>decide (y.c≠c)) (A0v full c code T):=Cl.end (Cl.sendW h rfl (.inl rfl))
def ClE(c:Int)(T:U7):Prop:=∃hd C,Cl c hd C T
theorem C60{full:Bool}{x:X2}{p:PkI}{hd:Option Int}{C:List X2}{T:U7}(hx:∀y∈T.b.aB,y.aD=x.aD→y.c=x.c)(h:Cl x.c hd C T):ClE x.c (A5s full x p T):=by
 unfold A5s
 split
 ·exact⟨_,_,Cl.refuse h.eV⟩
 ·split
  ·exact⟨_,_,h⟩
  ·rename_i s hs
   simp only
   generalize l8 s.aZ p.kind p.eM p.id (if full=true then 151 else 0)=r
   have h1:Cl x.c hd C (A0y (X9 x.aD (j2 ⟨s.aZ.most,s.aZ.taken,r.2.2.2⟩) T.b.aD) T):=h
   split
   ·exact⟨_,_,Cl.refuse h1.eV⟩
   ·have h2:=Cl.sendAll (id:=x.aD) (ps:=A3w r.2.1 p.id) h1 (.inl hx)
    split
    ·exact⟨_,_,Cl.dI h2⟩
    ·exact⟨_,_,h2⟩
theorem C4n{full:Bool}{x:X2}{p:PkI}{hd:Option Int}{C:List X2}{T:U7}(hx:∀y∈T.b.aB,y.aD=x.aD→y.c=x.c)(h:Cl x.c hd C T):ClE x.c (A2B full x p T):=by
 unfold A2B
 split
 ·exact⟨_,_,h⟩
 ·split
  ·exact⟨_,_,Cl.refuse h.eV⟩
  ·exact⟨_,_,Cl.out h (.inl hx)⟩
theorem Cl.sub{c:Int}{hd:Option Int}{C:List X2}{T:U7}{id:Int}{s:A0A}(h:Cl c hd C T):Cl c hd C (i7 id T s):=by
 unfold i7
 split
 ·exact h
 ·exact Cl.fold (fun T m hT=>Cl.out hT (.inr fun o=>C0d o)) _ h
theorem C8m{full:Bool}{x:X2}{p:PkI}{hd:Option Int}{C:List X2}{T:U7}(hx:∀y∈T.b.aB,y.aD=x.aD→y.c=x.c)(h:Cl x.c hd C T):ClE x.c (A8A full x p T):=by
 unfold A8A
 split
 ·exact C60 hx h
 ·split
  ·exact C4n hx h
  ·split
   ·unfold A0W
    exact⟨_,_,Cl.fold (fun T s hT=>Cl.sub hT) _ (Cl.send (T:=A09 (j6 x.aD p.aH T.b.aH).1 T) h rfl rfl)⟩
   ·split
    ·unfold A1e
     exact⟨_,_,Cl.send (T:=A09 (A0H x.aD p.bH T.b.aH).1 T) h rfl rfl⟩
    ·split
     ·exact⟨_,_,Cl.send h rfl rfl⟩
     ·split
      ·exact⟨_,_,Cl.end h.eV⟩
      ·exact⟨_,_,Cl.refuse h.eV⟩
theorem C8n{c:Int}{B:Z0}:Cl c none B.aB ⟨B,[],[]⟩:=⟨⟨[],rfl,⟨fun o ho=>(by cases ho),fun y hy=>(by cases hy)⟩,fun o ho=>(by cases ho)⟩,fun x hx=>hx⟩
theorem B9h{aC:B3O}{clean aN:Bool}{B:Z0}:(b9 aC clean aN B).2.aB=B.aB:=A8V.2.2
theorem C2g{full:Bool}{c:Int}{p:PkI}{B:Z0}{n:Nat}(h:X4 B n)(ca:(B.aB.map (·.c)).Nodup)(ax:A1o c B.aB=none)(hw:p.aX.1.size≤9223372036854775807)(bu: -9223372036854775808≤c∧c≤9223372036854775807):
  ClE c (A1j full c p ⟨B,[],[]⟩):=by
 have hc:∀x∈B.aB,x.c≠c:=fun x hx=>by simpa using E7.1 ax x hx
 unfold A1j
 by_cases hb:A5p p B=0
 ·rw[if_neg (by simpa using hb),A3R]
  obtain⟨ea,_,_,ir,iG,jj⟩:=A8E (full:=full) (c:=p.aC) (T:=⟨B,[],[]⟩) h ca (B3a hb).2
  obtain⟨x,hx⟩:∃x:X2,x=⟨c,(b9 p.aC p.clean (u4 p.props) (z8 full p.aC ⟨B,[],[]⟩).b).1.1,p.bE,(p.aX.1,p.aX.2.1,p.aX.2.2.1,p.aX.2.2.2.1,e0S)⟩:=⟨_,rfl⟩
  have qp:∃hd C,Cl c hd (C++[x]) (z8 full p.aC ⟨B,[],[]⟩):=by
   have h0:Cl c none (B.aB++[x]) ⟨B,[],[]⟩:=⟨⟨[],rfl,⟨fun o ho=>(by cases ho),fun y hy=>(by cases hy)⟩,fun o ho=>(by cases ho)⟩,fun y hy=>I7 _ hy⟩
   unfold z8
   split
   ·rename_i s _
    unfold A2V
    split
    ·exact⟨_,_,h0⟩
    ·rename_i y hy
     have rz:y∈B.aB:=G7 hy
     refine⟨some y.c,B.aB.filter (fun z=>decide (z.c≠y.c)),?_⟩
     refine Cl.fin ⟨⟨[],rfl,⟨fun o ho=>(by cases ho),fun z hz=>?_⟩,fun o ho=>(by cases ho)⟩,fun z hz=>I7 _ hz⟩
     cases hz
     refine⟨hc y rz,fun z hz=>?_⟩
     rcases C9.1 hz with hz|hz
     ·simpa using(D5.1 hz).2
     ·rw[B7.1 hz,hx];exact fun e=>hc y rz e.symm
   ·exact⟨_,_,h0⟩
  obtain⟨hd,C,hC⟩:=qp
  refine⟨hd,C++[x],?_⟩
  obtain⟨h9,_⟩:=B14 (x:=x) (clean:=p.clean) (aN:=u4 p.props) ea jj (fun y hy=>(ir y hy).2) iG (by rw[hx]) (by rw[hx];exact⟨hw,bu⟩)
  have qI:(b9 p.aC p.clean (u4 p.props) (z8 full p.aC ⟨B,[],[]⟩).b).2.aB=(z8 full p.aC ⟨B,[],[]⟩).b.aB:=B9h
  rw[qI,←hx]
  refine Cl.out (Cl.send ⟨hC.1,fun y hy=>?_⟩ rfl rfl) (.inl fun y hy e=>?_)
  ·rcases C9.1 hy with hy|hy
   ·exact hC.2 y hy
   ·exact F6 _ hy
  ·have h1:=h9.one x.aD
   have e2:y.aD=x.aD:=by rw[e,hx]
   have m1:x∈((z8 full p.aC ⟨B,[],[]⟩).b.aB++[x]).filter (fun z=>decide (z.aD=x.aD)):=D5.2 ⟨F6 _ (B7.2 rfl),by simp⟩
   have m2:y∈((z8 full p.aC ⟨B,[],[]⟩).b.aB++[x]).filter (fun z=>decide (z.aD=x.aD)):=D5.2 ⟨hy,by simp[e2]⟩
   simp only at h1
   generalize((z8 full p.aC ⟨B,[],[]⟩).b.aB++[x]).filter (fun z=>decide (z.aD=x.aD))=k at h1 m1 m2
   match k,h1 with
   |[],_=>cases m1
   |[z],_=>
    rw[B7.1 m2,←B7.1 m1,hx]
 ·rw[if_pos hb]
  refine⟨none,B.aB,⟨⟨_,rfl,⟨fun o ho=>?_,fun y hy=>(by cases hy)⟩,fun o ho _=>hc⟩,fun x hx=>hx⟩⟩
  rw[B7.1 ho]
  exact .inl ⟨rfl,fun _=>.inr rfl⟩
theorem C4m{full:Bool}{c:Int}{p:PkI}{B:Z0}{n:Nat}(h:X4 B n)(ca:(B.aB.map (·.c)).Nodup)(hw:p.aX.1.size≤9223372036854775807)(bu: -9223372036854775808≤c∧c≤9223372036854775807):
  ClE c (b8 full c p B):=by
 unfold b8
 cases hg:A1o c B.aB with
 |some x=>
  obtain⟨fe,iC⟩:=A1x hg
  subst iC
  refine C8m (T:=⟨B,[],[]⟩) (fun y hy e=>N3 fun cg=>h.toj8.other fe hy cg e) C8n
 |none=>
  simp only
  split
  ·exact C2g h ca hg hw bu
  ·have hc:∀x∈B.aB,x.c≠c:=fun x hx=>by simpa using E7.1 hg x hx
   refine⟨none,B.aB,⟨⟨_,rfl,⟨fun o ho=>?_,fun y hy=>(by cases hy)⟩,fun o ho _=>hc⟩,fun x hx=>hx⟩⟩
   rw[B7.1 ho]
   exact .inl ⟨rfl,fun _=>.inl rfl⟩
structure C7h(c:Int)(os:List l4)(C:List X2):Prop where
 kinds:∀o∈os,o.close=true→o.pk.kind=14∨o.pk.kind=2
 other:∀(i:Nat) (o:l4),os[i]? =some o→o.conn≠c→o.pk.kind=3∨(o.close=true∧o.pk.code=142∧i=0)
 once:∀(i j:Nat) (o o':l4),i<j→os[i]? =some o→os[j]? =some o'→o.close=true→o'.conn=o.conn→o'.conn=c
 gone:∀o∈os,o.close=true→∀x∈C,x.c≠o.conn
theorem C4l{c:Int}{T:U7}(h:ClE c T):C7h c T.outs T.b.aB:=by
 obtain⟨hd,C,⟨os,h1,h2,h3⟩,h4⟩:=h
 have own:∀o∈os,o.close=true→o.conn=c∧(o.pk.kind=14∨o.pk.kind=2):=fun o ho hc=>by
  rcases h2.each o ho with h|h
  ·exact⟨h.1,h.2 hc⟩
  ·rw[h.1] at hc;cases hc
 cases hd with
 |none=>
  rw[hdL,F2] at h1
  rw[h1]
  refine⟨fun o ho hc=>(own o ho hc).2,fun i o hi cg=>?_,fun i j o o' _ hi hj hc e=>?_,fun o ho hc x hx=>?_⟩
  ·rcases h2.each o (E9 hi) with h|h
   ·exact absurd h.1 cg
   ·exact .inl h.2.1
  ·rw[e];exact(own o (E9 hi) hc).1
  ·rw[(own o ho hc).1];exact h3 o ho hc x (h4 x hx)
 |some y=>
  obtain⟨g1,g2⟩:=h2.gone y rfl
  rw[hdL,List.singleton_append] at h1
  rw[h1]
  refine⟨fun o ho hc=>?_,fun i o hi cg=>?_,fun i j o o' kY hi hj hc e=>?_,fun o ho hc x hx=>?_⟩
  ·rcases D3.1 ho with rfl|ho
   ·exact .inl rfl
   ·exact(own o ho hc).2
  ·cases i with
   |zero=>rw[L7] at hi;cases hi;exact .inr ⟨rfl,rfl,rfl⟩
   |succ i=>
    rw[I9] at hi
    rcases h2.each o (E9 hi) with h|h
    ·exact absurd h.1 cg
    ·exact .inl h.2.1
  ·cases j with
   |zero=>cases kY
   |succ j=>
    rw[I9] at hj
    cases i with
    |zero=>
     rw[L7] at hi;cases hi
     rcases h2.each o' (E9 hj) with h|h
     ·exact h.1
     ·exact absurd e (h.2.2.2 y rfl)
    |succ i=>
     rw[I9] at hi
     rw[e];exact(own o (E9 hi) hc).1
  ·rcases D3.1 ho with rfl|ho
   ·exact g2 x (h4 x hx)
   ·rw[(own o ho hc).1];exact h3 o ho hc x (h4 x hx)
variable {h h0:Heap} {L L' L1 L2 L3 R:List Asn} {Q:Value→Heap→Prop}
theorem C4f{B:Z0}{n:Nat}(h:X4 B n):B.aB.length≤32:=by
 have h1:(B.aB.map (·.aD)).Nodup:=by
  rw[List.nodup_iff_count]
  intro i
  have:=h.one i
  rw[List.count_eq_countP,List.countP_map,List.countP_eq_length_filter]
  exact this
 have h3:=B2H h1 (l':=B.aD.map (·.id)) fun i hi=>by
  obtain⟨x,hx,rfl⟩:=E4.1 hi
  obtain⟨s,hs,e⟩:=h.cl x hx
  exact e▸B3 hs
 simp only[C2] at h3
 have:=h.n32
 omega
end
section
open Go.H Go.Proofs
variable {h h0:Heap} {L L' L1 L2 L3 R:List Asn} {Q:Value→Heap→Prop}
theorem C2R{K V:Type}[DecidableEq K]:∀{l:List (K×V)} {k:K} {v:V} {p:K×V},p∈mset l k v→p=(k,v)∨p∈l
 |[],k,v,p,hp=>.inl (B7.1 hp)
 |(a,b)::l,k,v,p,hp=>by
  unfold mset at hp
  split at hp
  ·rcases D3.1 hp with rfl|hp
   ·exact .inl rfl
   ·exact .inr (C3 _ hp)
  ·rcases D3.1 hp with rfl|hp
   ·exact .inr (B4 ..)
   ·exact(C2R hp).imp id (C3 _)
theorem B6O{s1:Slc}{jd:List EvQ}{x:EvQ}(ht:TP h0)(ij:Z7 B3T 34 h0 s1 jd)(lb:∀x∈jd,EvG 1048576 h0 x)(ic:EvG 1048576 h0 x)
  (hq:∀h' R,sat h' (old h0::R)→Q (.bool true) h'):FW prog 4 #[.slice s1.a s1.len s1.cap,.agg (B3T x).toArray] [old h0] Q:=by
 have fin:∀{L L'},Has L (old h0) L'→At L (Q (.bool true)):=fun hx h hs=>hq h _ (hx.s hs)
 have hp:=ic.p
 have hr:=hp.rows
 obtain⟨cD,conn,⟨⟨vk,vd,vr,vq,vi,vt,vp,vc,s8,s9,bZ,bU,bL,bN,cn,cw,cv,cq,cJ,bQ,bT,vu,bI,bF,cI,cH,⟨⟩⟩,cl,pl,wl,sl,fl⟩,full,⟨mt,mp,mq,mr,mg⟩⟩:=x
 dsimp only at hr hp
 refine fun h hs=>A55 s1 (cD,conn,vk,vd,vr,vq,vi,vt,vp,vc,s8,s9,bZ,bU,bL,bN,cn,cw,cv,cq,cJ,bQ,bT,vu,bI,bF,cI,cH,full,mt,mp,mq,mr,mg,()) h Q ((?_:W [old h0] _ _) h hs)
 clear hs h
 delta A44 ad az bn cb cc cp g1 A0N ie ix jb jc ji ki ku li nw pu sn vi vs vz wi
 refine Y1 fun x1=>?_
 refine W.cells (b:=x1) #[.int .i64 cD,.int .i64 conn,.int .i64 vk,.bool vd,.bool vr,.int .i64 vq,.int .i64 vi,.string vt,.string vp,.int .u8 vc,.slice s8.a s8.len s8.cap,.slice s9.a s9.len s9.cap,.string bZ,.bool bU,.int .i64 bL,.bool bN,.string cn,.string cw,.int .i64 cv,.bool cq,.slice cJ.a cJ.len cJ.cap,.bool bQ,.bool bT,.string vu,.string bI,.bool bF,.slice cI.a cI.len cI.cap,.slice cH.a cH.len cH.cap,.bool full,.string mt,.string mp,.int .i64 mq,.bool mr,.string mg] ?_
 refine j1 (C66 ht ij lb (fun b ag eK=>At.un (x:=some ⟨b,0,none⟩) ?_))
 generalize C56 (jd.take 40)=B at ag eK
 refine Y9 (fun h R hs=>B6t (b:=b) (B:=B) h R hs) fun au=>?_
 refine A7R (b:=x1) (i:=2) (v:=(vk,vd,vr,vq,vi,vt,vp,vc,s8,s9,bZ,bU,bL,bN,cn,cw,cv,cq,cJ,bQ,bT,vu,bI,bF,cI,cH,())) ?_
 refine Z1 (B7z (cc:=IntKind.wrap .i64 vc) hr rfl (fun c1 c2 p1 p2 w1 w2 q1 q2 f1 f2=>At.bD (x:=((vk,vd,vr,vq,vi,vt,vp,vc,c1,p1,bZ,bU,bL,bN,cn,cw,cv,cq,w1,bQ,bT,vu,bI,bF,q1,f1,()),(vk,vd,vr,vq,vi,vt,vp,IntKind.wrap .i64 vc,c2,p2,bZ,bU,bL,bN,cn,cw,cv,cq,w2,bQ,bT,vu,bI,bF,q2,f2,()),())) ?_))
 have jB:∀{α:Type} (l:List α),(l.take 80).length≤100:=fun l=>C4 (J0 _ _) (by decide)
 have rG:C0T (vk,vd,vr,vq,vi,vt,vp,vc,c1,p1,bZ,bU,bL,bN,cn,cw,cv,cq,w1,bQ,bT,vu,bI,bF,q1,f1,()) (pl.take 80) (sl.take 80) (fl.take 80):=⟨C4 hp.bX (by decide),C4 hp.aC (by decide),C4 hp.aX (by decide),jB _,jB _,fun s hs=>C4 (hp.aH s (P3 hs)) (by decide),jB _,fun f hf=>C4 (hp.eF f (P3 hf)) (by decide)⟩
 have bu:=C5W ic.conn
 have rF:cn.size≤9223372036854775807:=C4 hp.aX (by decide)
 refine Y1 fun x5=>?_
 refine Y1 fun x6=>?_
 refine y8 (b:=x5) ?_
 refine y8 (b:=x6) ?_
 refine W.cells (b:=x5) #[.int .i64 vk,.bool vd,.bool vr,.int .i64 vq,.int .i64 vi,.string vt,.string vp,.int .u8 vc,.slice c1.a c1.len c1.cap,.slice p1.a p1.len p1.cap,.string bZ,.bool bU,.int .i64 bL,.bool bN,.string cn,.string cw,.int .i64 cv,.bool cq,.slice w1.a w1.len w1.cap,.bool bQ,.bool bT,.string vu,.string bI,.bool bF,.slice q1.a q1.len q1.cap,.slice f1.a f1.len f1.cap] ?_
 refine W.load (b:=x1) (v:=conn) ?_
 refine r7 (b:=x5) (v:=(vk,vd,vr,vq,vi,vt,vp,vc,c1,p1,bZ,bU,bL,bN,cn,cw,cv,cq,w1,bQ,bT,vu,bI,bF,q1,f1,())) ?_
 refine W.load (b:=x1) (v:=full) ?_
 obtain⟨P,hP⟩:∃P,P=pkI (vk,vd,vr,vq,vi,vt,vp,vc,c1,p1,bZ,bU,bL,bN,cn,cw,cv,cq,w1,bQ,bT,vu,bI,bF,q1,f1,()) (pl.take 80) (sl.take 80) (fl.take 80):=⟨_,rfl⟩
 refine j1 (A6X (b:=b) (n:=40) (B:=B) (c:=conn) (p:=(vk,vd,vr,vq,vi,vt,vp,vc,c1,p1,bZ,bU,bL,bN,cn,cw,cv,cq,w1,bQ,bT,vu,bI,bF,q1,f1,())) (pl:=pl.take 80) (sl:=sl.take 80) (fl:=fl.take 80) (full:=full) ht ag (by decide) rG bu (fun so sp=>At.un (x:=(so,sp,())) ?_))
 have vJ:P.aX.1.size≤9223372036854775807:=by rw[hP];exact rF
 have xN:P.aH.length≤100:=by rw[hP];exact jB _
 rw[←hP]
 clear hP rG rF hp hr ic
 have lO:=C4l (C4m (full:=full) (c:=conn) (p:=P) ag au.1 vJ bu)
 obtain⟨bq,tt,-⟩:=A3J (full:=full) (c:=conn) (p:=P) ag au.1 au.2 xN vJ bu
 generalize b8 full conn P B=T9 at lO bq tt⊢
 obtain⟨B9,os,ps⟩:=T9
 dsimp only at lO bq tt⊢
 refine Y1 fun gE=>?_
 refine y8 (b:=gE) ?_
 refine C8w (ek:=eKI) (ev:=kB1.val) fun fW=>?_
 refine W.load (b:=gE) (v:=so) ?_
 refine B9j (fun h R hs=>(A2v (k:=.u8) (s:=so) (os:=os)).1 hs) fun T hT=>?_
 refine Y9 (Y0 (enc:=A0K .u8) (size:=28) (s:=so) (xs:=T.map ouF)) fun gm=>?_
 rw[C2] at gm
 have xL:T.length=os.length:=by rw[←hT,C2]
 have yB:T.length≤3300000:=by rw[xL];exact tt
 have xa:∀(j:Nat) (hj:j<T.length),os[j]? =some T[j].2.2:=fun j hj=>by rw[←hT,J2,B0 hj];rfl
 refine W.sub (L':=U5 (A0K .u8) 28 so (T.map ouF)::mapA eKI kB1.val fW ([]:List (Int×Bool))::cells x1 #[.int .i64 cD,.int .i64 conn,.int .i64 vk,.bool vd,.bool vr,.int .i64 vq,.int .i64 vi,.string vt,.string vp,.int .u8 vc,.slice s8.a s8.len s8.cap,.slice s9.a s9.len s9.cap,.string bZ,.bool bU,.int .i64 bL,.bool bN,.string cn,.string cw,.int .i64 cv,.bool cq,.slice cJ.a cJ.len cJ.cap,.bool bQ,.bool bT,.string vu,.string bI,.bool bF,.slice cI.a cI.len cI.cap,.slice cH.a cH.len cH.cap,.bool full,.string mt,.string mp,.int .i64 mq,.bool mr,.string mg]::A1c b B9::[old h0]) ?_
 refine W.loop (γ:=Nat×List (Int×Bool)) (fun g s=>s.1=(g.1:Int)∧g.1≤T.length∧∀p∈g.2,p.2=true→∃j o,j<g.1∧os[j]? =some o∧o.close=true∧o.conn=p.1)
  (fun g s=>U5 (A0K .u8) 28 so (T.map ouF)::mapA eKI kB1.val fW g.2::cells x1 #[.int .i64 cD,.int .i64 conn,.int .i64 vk,.bool vd,.bool vr,.int .i64 vq,.int .i64 vi,.string vt,.string vp,.int .u8 vc,.slice s8.a s8.len s8.cap,.slice s9.a s9.len s9.cap,.string bZ,.bool bU,.int .i64 bL,.bool bN,.string cn,.string cw,.int .i64 cv,.bool cq,.slice cJ.a cJ.len cJ.cap,.bool bQ,.bool bT,.string vu,.string bI,.bool bF,.slice cI.a cI.len cI.cap,.slice cH.a cH.len cH.cap,.bool full,.string mt,.string mp,.int .i64 mq,.bool mr,.string mg]::A1c b B9::[old h0])
  (fun g=>T.length-g.1) (0,[]) ⟨rfl,D1 _,fun p hp=>by cases hp⟩ Sub.rfl ?_
 rintro⟨i,M⟩ ⟨_,⟨⟩⟩ ⟨hI,cK,hM⟩ K k1 k2
 simp only at hI cK hM
 subst hI
 dsimp only
 by_cases ah:i<T.length
 ·refine X6 (by rw[gm];exact decide_eq_true (by omega)) ?_
  have j':=xa i ah
  have lM:(T.map ouF)[i]? =some (ouF T[i]):=by rw[J2,B0 ah];rfl
  generalize T[i]=z at j' lM
  obtain⟨sc,fi,o⟩:=z
  dsimp only at j'
  have nQ:=lO.kinds o (E9 j')
  have uU:=lO.other i o j'
  have lI:W3 M o.conn=some true→o.conn=conn:=fun hm=>by
   obtain⟨j,o',hj,tK,aQ,ca⟩:=hM _ (A38 hm) rfl
   exact lO.once j i o' o hj tK j' aQ ca.symm
  have ay:∀p∈mset M o.conn o.close,p.2=true→∃j o',j<i+1∧os[j]? =some o'∧o'.close=true∧o'.conn=p.1:=fun p hp jK=>by
   rcases C2R hp with rfl|hp
   ·exact⟨i,o,Nat.lt_succ_self i,j',jK,rfl⟩
   ·obtain⟨j,o',hj,h2⟩:=hM p hp jK
    exact⟨j,o',Nat.lt_succ_of_lt hj,h2⟩
  have tA:=k1 (i+1,mset M o.conn o.close) (IntKind.wrap .i64 ((i:Int)+1),()) (by simp only;omega) ⟨by simp only;rw[V8 (by omega) (by omega)];rfl,ah,ay⟩
  clear k1 k2 ay j' hM
  obtain⟨oc,⟨k0,k1,k2,k3,k4,k5,k6,k7,k8,k9,ru⟩,ocl⟩:=o
  dsimp only at nQ uU lI tA
  refine j4 (enc:=A0K .u8) (xs:=T.map ouF) (i:=i) (by simpa using ah) (fun a ha=>?_)
  refine B3d (x:=ouF (sc,fi,⟨oc,⟨k0,k1,k2,k3,k4,k5,k6,k7,k8,k9,ru⟩,ocl⟩)) (v:=(oc,k0,k1,k2,k3,k4,k5,k6,k7,sc,fi,e0S,false,0,false,e0S,e0S,0,false,l0,false,false,e0S,e0S,ru,l0,l0,ocl,())) ha lM ?_
  refine Y1 fun fE=>?_
  refine y8 (b:=fE) ?_
  refine W.cells (b:=fE) (#[.int .i64 oc,.int .i64 k0,.bool k1,.bool k2,.int .i64 k3,.int .i64 k4,.string k5,.string k6,.int .u8 k7,.slice sc.a sc.len sc.cap,.slice fi.a fi.len fi.cap,.string e0S,.bool false,.int .i64 0,.bool false,.string e0S,.string e0S,.int .i64 0,.bool false,.slice none 0 0,.bool false,.bool false,.string e0S,.string e0S,.bool ru,.slice none 0 0,.slice none 0 0,.bool ocl]) ?_
  refine A02 (fun r=>r.1=false) (fun K hK=>?_) (fun r hr=>?_)
  ·have rest:∀{L3:List Asn} {L4:List Asn},Has L3 (cells fE (#[.int .i64 oc,.int .i64 k0,.bool k1,.bool k2,.int .i64 k3,.int .i64 k4,.string k5,.string k6,.int .u8 k7,.slice sc.a sc.len sc.cap,.slice fi.a fi.len fi.cap,.string e0S,.bool false,.int .i64 0,.bool false,.string e0S,.string e0S,.int .i64 0,.bool false,.slice none 0 0,.bool false,.bool false,.string e0S,.string e0S,.bool ru,.slice none 0 0,.slice none 0 0,.bool ocl])) L4→(∀a:Bool×Unit,a.1=false→At L3 (K a))→
     W L3 (HM.bind (α:=Bool) (l6 .bool (Addr.add ⟨fE,0,none⟩ 27)) fun pq=>
      A04 pq (
      HM.bind (α:=Int) (l6 (.int .i64) (Addr.add (Addr.add ⟨fE,0,none⟩ 1) 0)) fun ml=>
      A04 (!(ml==14)) (
      HM.bind (α:=Int) (l6 (.int .i64) (Addr.add (Addr.add ⟨fE,0,none⟩ 1) 0)) fun oB=>
      W9 (!(oB==2),())) (
      W9 (false,()))) (
      W9 (false,()))) K:=fun hh jq=>by
    refine W.load (b:=fE) (v:=ocl) ?_ hh
    cases ocl with
    |false=>exact W6 rfl (U2 (jq _ rfl))
    |true=>
     refine X6 rfl ?_
     refine e8 (b:=fE) (i:=1) (v:=k0) ?_ rfl hh
     rcases nQ rfl with rfl|rfl
     ·exact W6 rfl (U2 (jq _ rfl))
     ·refine X6 rfl ?_
      refine e8 (b:=fE) (i:=1) (v:=(2:Int)) ?_ rfl hh
      exact U2 (jq _ rfl)
   refine W.load (b:=fE) (v:=oc) ?_
   refine W.lookup (kind:=kB1) (r:=fW) (l:=M) kKI oc ?_
   cases nN:(W3 M oc).getD false with
   |false=>
    refine W6 rfl ?_
    exact rest ((by repeat first|with_reducible exact V0|apply V2)) hK
   |true=>
    refine X6 rfl ?_
    have qd:oc=conn:=lI (by
     cases hm:W3 M oc with
     |none=>rw[hm] at nN;cases nN
     |some v=>rw[hm] at nN;exact congrArg some nN)
    refine W.load (b:=fE) (v:=oc) ?_
    refine W.load (b:=x1) (v:=conn) ?_
    refine W6 (by rw[qd];simp) ?_
    exact rest ((by repeat first|with_reducible exact V0|apply V2)) hK
  refine W6 hr ?_
  clear hr
  refine W.load (b:=fE) (v:=oc) ?_
  refine W.load (b:=fE) (v:=ocl) ?_
  refine W.mset (ek:=eKI) (ev:=kB1.val) (r:=fW) (l:=M) kKI C2W oc ocl ?_
  refine A02 (fun r=>r.1=(ocl&&k7==142)) (fun K hK=>?_) (fun r hr=>?_)
  ·refine W.load (b:=fE) (v:=ocl) ?_
   cases ocl with
   |false=>exact W6 rfl (U2 (hK _ rfl))
   |true=>
    refine X6 rfl ?_
    refine e8 (b:=fE) (i:=8) (v:=k7) ?_
    exact U2 (hK _ rfl)
  refine A02 (fun r=>r.1=false) (fun K hK=>?_) (fun r2 cQ=>?_)
  ·refine W.load (b:=fE) (v:=oc) ?_
   refine W.load (b:=x1) (v:=conn) ?_
   by_cases qd:oc=conn
   ·exact W6 (by rw[qd];simp) (U2 (hK _ rfl))
   ·refine X6 (by simpa using qd) ?_
    refine e8 (b:=fE) (i:=1) (v:=k0) ?_
    rcases uU qd with rfl|⟨rfl,rfl,rfl⟩
    ·exact W6 rfl (U2 (hK _ rfl))
    ·rcases nQ rfl with rfl|rfl
     ·refine X6 rfl ?_
      refine X6 (by rw[hr];rfl) ?_
      exact U2 (hK _ rfl)
     ·refine X6 rfl ?_
      refine X6 (by rw[hr];rfl) ?_
      exact U2 (hK _ rfl)
  refine W6 cQ (U2 ?_)
  exact tA.sub
 ·have xp:i=T.length:=by omega
  refine W6 (by rw[gm];exact decide_eq_false (by omega)) (U2 (k2 _ _ (W.inl ?_)))
  clear k1 k2
  refine C8w (ek:=eKI) (ev:=kB1.val) fun dD=>?_
  refine j1 (C0L (b:=b) (B:=B9) bq (fun S=>At.un (x:=S) ?_))
  refine Y9 (fun h R hs=>B6t (b:=b) (B:=B9) h R hs) fun tz=>?_
  have ca:=C5m tz.1
  have qL:(Z2 (B9.aB.map (·.c))).length≤32:=by rw[A2M,C2];exact C4f bq
  have an:∀k,k∈Z2 (B9.aB.map (·.c))↔k∈B9.aB.map (·.c):=fun k=>B2g
  generalize Z2 (B9.aB.map (·.c))=cs at ca qL an
  refine C8r (cl:=cs) (x:=dD) ca (C4 qL (by decide)) (fun _=>?_)
  have qu:∀p∈M,p.2=true→W3 (B4R cs) p.1=none:=fun p hp jK=>by
   obtain⟨j,o,hj,tK,aQ,iW⟩:=hM p hp jK
   rw[C3R,if_neg]
   rw[an]
   intro hm
   obtain⟨y,hy,e⟩:=E4.1 hm
   exact lO.gone o (E9 tK) aQ y hy (e.trans iW.symm)
  refine W.range (r:=fW) (l:=M) fun it=>?_
  refine C8v (ek:=eKI) (ev:=kB1.val) (r:=fW) (l:=M) (fun _ _=>mapA eKI kB1.val dD (B4R cs)::[old h0]) ?_ (fun done s hd K' hk=>?_) (fun done q rest s hd K' bx hk=>?_)
  ·show Sub _ (itA eKI kB1.val fW M it [] M::mapA eKI kB1.val dD (B4R cs)::[old h0])
   repeat(first|with_reducible exact T6|with_reducible exact T7|refine T8 (by repeat first|with_reducible exact V0|apply V2) ?_|refine U0 ?_)
  ·refine W6 rfl (U2 (hk _ _ (W.inl ?_)))
   refine A02 (fun r=>r.1=true) (fun K hK=>?_) (fun r hr=>?_)
   ·refine j1 (C6u ht (At.un (x:=true) ?_))
    refine X6 rfl ?_
    refine C6c (ek:=eKI) (ev:=kB1.val) (r:=dD) (l:=B4R cs) ?_
    refine U2 (At.sub (hK _ ?_))
    rw[C55]
    exact decide_eq_true (by omega)
   ·refine U2 ?_
    show At _ (Q (.bool r.1))
    rw[hr]
    exact fin (by repeat first|with_reducible exact V0|apply V2)
  ·have rE:q∈M:=hd.mem_iff.1 (F6 _ (B4 ..))
   refine X6 rfl ?_
   refine W.entry (x:=q.1) (y:=q.2) ?_
   refine A02 (fun r=>r.1=false) (fun K hK=>?_) (fun r hr=>?_)
   ·cases ef:q.2 with
    |false=>exact W6 rfl (U2 (hK _ rfl))
    |true=>
     refine X6 rfl ?_
     refine W.lookup (kind:=kB1) (r:=dD) (l:=B4R cs) kKI q.1 ?_
     rw[qu q rE ef]
     exact U2 (hK _ rfl)
   ·refine W6 hr (U2 ?_)
    exact(bx s).sub
end
end Go.Proofs.YtidlldnlphdhcaaGreatDoor
namespace Go.Proofs.YtidlldnlphdhcaaGreatDoor.brokerCloses
open Go.H
open Go.Proofs.Tryz
open Go.ChangeShapes Go.WideShapes Go.ChangeAt Go.RowKit
open Go.ChangeMaps (open_string shut_string)
theorem own:ownKnob prog.godebug=none:=by kernel_rfl
theorem laidOut:laidOutB prog=true:=by kernel_rfl
def C4C:Value:=.agg #[.int .i64 0,.int .i64 0,.int .i64 0,.bool false,.bool false,.int .i64 0,.int .i64 0,.string (ByteArray.mk #[]),.string (ByteArray.mk #[]),.int .u8 0,.slice none 0 0,.slice none 0 0,.string (ByteArray.mk #[]),.bool false,.int .i64 0,.bool false,.string (ByteArray.mk #[]),.string (ByteArray.mk #[]),.int .i64 0,.bool false,.slice none 0 0,.bool false,.bool false,.string (ByteArray.mk #[]),.string (ByteArray.mk #[]),.bool false,.slice none 0 0,.slice none 0 0,.bool false,.string (ByteArray.mk #[]),.string (ByteArray.mk #[]),.int .i64 0,.bool false,.string (ByteArray.mk #[])]
theorem walk(w:World)(ht:TP w.heap)(x0:Go.H.Slc×List EvQ)(g0:(Go.R.GoodG B3T 34 1 1048576 w.heap (EvG 1048576 w.heap)) x0)(x1:EvQ)(g1:(EvG 1048576 w.heap) x1):
  Calls prog 4 #[.slice x0.1.a x0.1.len x0.1.cap,.agg #[.int .i64 x1.cD,.int .i64 x1.conn,.int .i64 x1.p.pk.1,.bool x1.p.pk.2.1,.bool x1.p.pk.2.2.1,.int .i64 x1.p.pk.2.2.2.1,.int .i64 x1.p.pk.2.2.2.2.1,.string x1.p.pk.2.2.2.2.2.1,.string x1.p.pk.2.2.2.2.2.2.1,.int .u8 x1.p.pk.2.2.2.2.2.2.2.1,.slice x1.p.pk.2.2.2.2.2.2.2.2.1.a x1.p.pk.2.2.2.2.2.2.2.2.1.len x1.p.pk.2.2.2.2.2.2.2.2.1.cap,.slice x1.p.pk.2.2.2.2.2.2.2.2.2.1.a x1.p.pk.2.2.2.2.2.2.2.2.2.1.len x1.p.pk.2.2.2.2.2.2.2.2.2.1.cap,.string x1.p.pk.2.2.2.2.2.2.2.2.2.2.1,.bool x1.p.pk.2.2.2.2.2.2.2.2.2.2.2.1,.int .i64 x1.p.pk.2.2.2.2.2.2.2.2.2.2.2.2.1,.bool x1.p.pk.2.2.2.2.2.2.2.2.2.2.2.2.2.1,.string x1.p.pk.2.2.2.2.2.2.2.2.2.2.2.2.2.2.1,.string x1.p.pk.2.2.2.2.2.2.2.2.2.2.2.2.2.2.2.1,.int .i64 x1.p.pk.2.2.2.2.2.2.2.2.2.2.2.2.2.2.2.2.1,.bool x1.p.pk.2.2.2.2.2.2.2.2.2.2.2.2.2.2.2.2.2.1,.slice x1.p.pk.2.2.2.2.2.2.2.2.2.2.2.2.2.2.2.2.2.2.1.a x1.p.pk.2.2.2.2.2.2.2.2.2.2.2.2.2.2.2.2.2.2.1.len x1.p.pk.2.2.2.2.2.2.2.2.2.2.2.2.2.2.2.2.2.2.1.cap,.bool x1.p.pk.2.2.2.2.2.2.2.2.2.2.2.2.2.2.2.2.2.2.2.1,.bool x1.p.pk.2.2.2.2.2.2.2.2.2.2.2.2.2.2.2.2.2.2.2.2.1,.string x1.p.pk.2.2.2.2.2.2.2.2.2.2.2.2.2.2.2.2.2.2.2.2.2.1,.string x1.p.pk.2.2.2.2.2.2.2.2.2.2.2.2.2.2.2.2.2.2.2.2.2.2.1,.bool x1.p.pk.2.2.2.2.2.2.2.2.2.2.2.2.2.2.2.2.2.2.2.2.2.2.2.1,.slice x1.p.pk.2.2.2.2.2.2.2.2.2.2.2.2.2.2.2.2.2.2.2.2.2.2.2.2.1.a x1.p.pk.2.2.2.2.2.2.2.2.2.2.2.2.2.2.2.2.2.2.2.2.2.2.2.2.1.len x1.p.pk.2.2.2.2.2.2.2.2.2.2.2.2.2.2.2.2.2.2.2.2.2.2.2.2.1.cap,.slice x1.p.pk.2.2.2.2.2.2.2.2.2.2.2.2.2.2.2.2.2.2.2.2.2.2.2.2.2.1.a x1.p.pk.2.2.2.2.2.2.2.2.2.2.2.2.2.2.2.2.2.2.2.2.2.2.2.2.2.1.len x1.p.pk.2.2.2.2.2.2.2.2.2.2.2.2.2.2.2.2.2.2.2.2.2.2.2.2.2.1.cap,.bool x1.full,.string x1.m.1,.string x1.m.2.1,.int .i64 x1.m.2.2.1,.bool x1.m.2.2.2.1,.string x1.m.2.2.2.2]] w fun e w'=>e=.returned (.bool true)∧Below w.heap.size w w':=by
 exact Go.H.walk_of (B6O (x:=x1) ht g0.row (fun x hx=>g0.bR x hx) g1 (fun h' R hs=>⟨rfl,R,hs⟩) w.heap (Go.H.sat_old w.heap))
theorem C5S(H:Type)(enc:TypeId×Value→H)(W:World)(base:Nat)(args:C9O)(ds gs:List (DataW H))(before:List MemPlace)
  (lC:∀(j:Nat) t v,Tryz.f4.params[j]? =some t→args[j]? =some v→Value.okWide prog W .any base t v)
  (hW:DataW.Whole enc prog Tryz.f4.params.toList Rows.brokerClosesSpec.vars false W args.toList ds gs before)(hL:laidMetH prog B5C W)(oH:W.ShapedOpen prog)(jR:Rows.uptoSmall H (ds++gs)=true):
  Calls prog 4 args W fun e W'=>∃v,e=.returned v∧Rows.brokerClosesSpec.post enc prog Tryz.f4 false true false false W args v W':=by
 have jD:∀(j:Nat) t v,Tryz.f4.params[j]? =some t→args[j]? =some v→Value.okWide prog W .any base t v:=lC
 have xJ:=hW
 obtain⟨p,q,vO,hV,rfl,oO,au⟩:=hW
 have hA:DataW.TrodAll enc prog W 0 (fun _=>true) true Tryz.f4.params.toList args.toList ds p:=vO
 rw[params4] at hA jD
 obtain⟨v0,yk,d0,yH,p0,q0,vG,rfl,rfl,h0,r0⟩:=trodAll_cons hA
 obtain⟨v1,yj,d1,yG,p1,q1,rfl,rfl,rfl,h1,r1⟩:=trodAll_cons r0
 obtain⟨rfl,rfl,rfl⟩:=trodAll_nil r1
 obtain rfl:args=#[v0,v1]:=by cases args;simp_all
 obtain⟨rfl,rfl⟩:=trodVars_none hV
 have hk:=of_decide_eq_true jR
 simp only[C1,G5,F2,Rows.uptoBulkAll] at hk
 have w0:okB 53 d0:=by unfold okB;omega
 have w1:okB 62 d1:=by unfold okB;omega
 clear hk
 obtain⟨a0,sC,ux,rfl⟩:=okWide_slice underlying53 (jD 0 53 v0 rfl rfl)
 have k0:=h0
 have wD:∀x∈p0,x.block<W.heap.size:=by obtain⟨m,hm⟩:=k0;exact DataW.trod_lt m _ _ _ hm
 obtain⟨x0,e0,g0⟩:∃x:Go.H.Slc×List EvQ,(Value.slice a0 sC ux=.slice x.1.a x.1.len x.1.cap)∧(Go.R.GoodG B3T 34 1 1048576 W.heap (EvG 1048576 W.heap)) x:=by
  obtain⟨fuel,hf⟩:=h0
  obtain⟨x,hx,hg⟩:=B9M C2N fuel _ _ hf w0
  exact⟨x,by simpa[Value.cells] using hx,hg⟩
 cases e0
 obtain⟨lS,rfl⟩:=Go.R.okWide_agg underlying62 (jD 1 62 v1 rfl rfl)
 have k1:=h1
 have wC:∀x∈p1,x.block<W.heap.size:=by obtain⟨m,hm⟩:=k1;exact DataW.trod_lt m _ _ _ hm
 obtain⟨x1,e1,g1⟩:∃x:EvQ,(Value.agg lS=.agg #[.int .i64 x.cD,.int .i64 x.conn,.int .i64 x.p.pk.1,.bool x.p.pk.2.1,.bool x.p.pk.2.2.1,.int .i64 x.p.pk.2.2.2.1,.int .i64 x.p.pk.2.2.2.2.1,.string x.p.pk.2.2.2.2.2.1,.string x.p.pk.2.2.2.2.2.2.1,.int .u8 x.p.pk.2.2.2.2.2.2.2.1,.slice x.p.pk.2.2.2.2.2.2.2.2.1.a x.p.pk.2.2.2.2.2.2.2.2.1.len x.p.pk.2.2.2.2.2.2.2.2.1.cap,.slice x.p.pk.2.2.2.2.2.2.2.2.2.1.a x.p.pk.2.2.2.2.2.2.2.2.2.1.len x.p.pk.2.2.2.2.2.2.2.2.2.1.cap,.string x.p.pk.2.2.2.2.2.2.2.2.2.2.1,.bool x.p.pk.2.2.2.2.2.2.2.2.2.2.2.1,.int .i64 x.p.pk.2.2.2.2.2.2.2.2.2.2.2.2.1,.bool x.p.pk.2.2.2.2.2.2.2.2.2.2.2.2.2.1,.string x.p.pk.2.2.2.2.2.2.2.2.2.2.2.2.2.2.1,.string x.p.pk.2.2.2.2.2.2.2.2.2.2.2.2.2.2.2.1,.int .i64 x.p.pk.2.2.2.2.2.2.2.2.2.2.2.2.2.2.2.2.1,.bool x.p.pk.2.2.2.2.2.2.2.2.2.2.2.2.2.2.2.2.2.1,.slice x.p.pk.2.2.2.2.2.2.2.2.2.2.2.2.2.2.2.2.2.2.1.a x.p.pk.2.2.2.2.2.2.2.2.2.2.2.2.2.2.2.2.2.2.1.len x.p.pk.2.2.2.2.2.2.2.2.2.2.2.2.2.2.2.2.2.2.1.cap,.bool x.p.pk.2.2.2.2.2.2.2.2.2.2.2.2.2.2.2.2.2.2.2.1,.bool x.p.pk.2.2.2.2.2.2.2.2.2.2.2.2.2.2.2.2.2.2.2.2.1,.string x.p.pk.2.2.2.2.2.2.2.2.2.2.2.2.2.2.2.2.2.2.2.2.2.1,.string x.p.pk.2.2.2.2.2.2.2.2.2.2.2.2.2.2.2.2.2.2.2.2.2.2.1,.bool x.p.pk.2.2.2.2.2.2.2.2.2.2.2.2.2.2.2.2.2.2.2.2.2.2.2.1,.slice x.p.pk.2.2.2.2.2.2.2.2.2.2.2.2.2.2.2.2.2.2.2.2.2.2.2.2.1.a x.p.pk.2.2.2.2.2.2.2.2.2.2.2.2.2.2.2.2.2.2.2.2.2.2.2.2.1.len x.p.pk.2.2.2.2.2.2.2.2.2.2.2.2.2.2.2.2.2.2.2.2.2.2.2.2.1.cap,.slice x.p.pk.2.2.2.2.2.2.2.2.2.2.2.2.2.2.2.2.2.2.2.2.2.2.2.2.2.1.a x.p.pk.2.2.2.2.2.2.2.2.2.2.2.2.2.2.2.2.2.2.2.2.2.2.2.2.2.1.len x.p.pk.2.2.2.2.2.2.2.2.2.2.2.2.2.2.2.2.2.2.2.2.2.2.2.2.2.1.cap,.bool x.full,.string x.m.1,.string x.m.2.1,.int .i64 x.m.2.2.1,.bool x.m.2.2.2.1,.string x.m.2.2.2.2])∧(EvG 1048576 W.heap) x:=by
  obtain⟨fuel,hf⟩:=h1
  obtain⟨x,hx,hg⟩:=B5i C2N fuel _ _ hf w1
  exact⟨x,congrArg Value.agg (I3.1 hx),hg⟩
 cases e1
 clear vO lC
 refine(walk W (C04 hL oH) x0 g0 x1 g1).mono fun e W' ⟨he,bel⟩=>?_
 subst he
 exact⟨_,rfl,_,_,_,[],_,[],xJ,trodAll_mk1 (shut_bool underlying4 _),(trodAll_cons_mk (Below.trod laidOut (by kernel_rfl) (of_decide_eq_true (by kernel_rfl)) k0 bel wD) (trodAll_cons_mk (Below.trod laidOut (by kernel_rfl) (of_decide_eq_true (by kernel_rfl)) k1 bel wC) trodAll_mk0)),rfl,bel.frame _,fun h=>by cases h⟩
theorem reads(os:Os){H:Type}(enc:TypeId×Value→H):∃places,DataW.whole enc prog ((B2N os).forCall (fun _ _=>0) ⟨#[],#[.slice none 0 0,C4C],[]⟩).memory Tryz.f4.params.toList Rows.brokerClosesSpec.vars false #[(.slice none 0 0:Value),(C4C:Value)].toList 8=some ([.nil,.agg [.lit (.int .i64 0),.lit (.int .i64 0),.agg [.lit (.int .i64 0),.lit (.bool false),.lit (.bool false),.lit (.int .i64 0),.lit (.int .i64 0),.lit (.string []),.lit (.string []),.lit (.int .u8 0),.nil,.nil,.lit (.string []),.lit (.bool false),.lit (.int .i64 0),.lit (.bool false),.agg [.lit (.string []),.lit (.string []),.lit (.int .i64 0),.lit (.bool false),.nil],.lit (.bool false),.lit (.bool false),.lit (.string []),.lit (.string []),.lit (.bool false),.nil,.nil],.lit (.bool false),.agg [.lit (.string []),.lit (.string []),.lit (.int .i64 0),.lit (.bool false),.lit (.string [])]]],[],places):=
 ⟨[],by kernel_rfl⟩
theorem lifted(os:Os)(started:os.Started)(H:Type)(enc:TypeId×Value→H)(F:Stop.Interp):
  ReturnsInHanded {} checked os 4 .any ((Rows.OpenSpec.upto Rows.brokerClosesSpec).preRow enc prog Tryz.f4 Rows.brokerClosesUptoRow.domain false Rows.brokerClosesUptoRow.laid) (((Rows.OpenSpec.upto Rows.brokerClosesSpec).at F).post enc prog Tryz.f4 false true false false):=by
 obtain⟨places,hx⟩:=reads os enc
 refine returnsInHanded_of_row (C:=checked) (s:=Rows.OpenSpec.upto Rows.brokerClosesSpec) own started (by kernel_rfl) Tryz.func4
  (witness_row_atRef (enc:=enc) (C:=checked) false (B2N os) #[.slice none 0 0,C4C] rfl (by kernel_rfl) (by kernel_rfl) (by kernel_rfl)
   (OpenSpec.preRow_of_cond 8 hx (by kernel_rfl) (fun k hk=>by cases hk;kernel_rfl) (by kernel_rfl) (C5r os _))) ?_
 intro W base args ds gs before jD hW _ jR _ hL oH _
 exact C5S H enc W base args ds gs before jD hW hL oH (jR _ rfl)
theorem C86:(Rows.brokerClosesUptoRow.wf (OpenSpec.ofChange (Rows.OpenSpec.upto Rows.brokerClosesSpec).bare))=true:=by kernel_rfl
theorem C85:(laidOutB Tryz.pinned.checked.prog)=true:=by kernel_rfl
theorem C84:(mapsRowed Tryz.pinned.checked.prog)=true:=by kernel_rfl
theorem C83:(Tryz.f4.params.all (Tryz.pinned.checked.prog.readableRec ·))=true:=by kernel_rfl
theorem C82:(namedTie Tryz.pinned.checked.prog Rows.brokerClosesUptoRow.named (Rows.OpenSpec.upto Rows.brokerClosesSpec).bare.vars)=true:=by kernel_rfl
theorem C81:((Rows.brokerClosesUptoRow.stops==[]))=true:=by kernel_rfl
theorem C80:((Tryz.pinned.checked.prog.stops==[]))=true:=by kernel_rfl
theorem C8Z:((Rows.brokerClosesUptoRow.knobs==[]))=true:=by kernel_rfl
theorem C8Y:((Tryz.pinned.checked.prog.stopKnobs==[]))=true:=by kernel_rfl
theorem C8X:((Rows.brokerClosesUptoRow.inPlace==Tryz.pinned.checked.prog.inPlace 4))=true:=by kernel_rfl
theorem C8h:((Rows.brokerClosesUptoRow.unfollowed==Tryz.pinned.checked.prog.unfollowed 4))=true:=by kernel_rfl
theorem C8g:((Rows.brokerClosesUptoRow.recurses==Tryz.pinned.checked.prog.recurses 4))=true:=by kernel_rfl
theorem C8f:((Rows.brokerClosesUptoRow.named==Tryz.pinned.checked.prog.varsNamed 4))=true:=by kernel_rfl
theorem C8e:((Rows.brokerClosesUptoRow.maps==(Tryz.f4.params.toList++(Rows.OpenSpec.upto Rows.brokerClosesSpec).bare.plain.varTypes Tryz.pinned.checked.prog).any (Tryz.pinned.checked.prog.mapsRec ·)))=true:=by kernel_rfl
theorem C8d:((Rows.brokerClosesUptoRow.ifaces==(Tryz.f4.params.toList++(Rows.OpenSpec.upto Rows.brokerClosesSpec).bare.plain.varTypes Tryz.pinned.checked.prog).any (Tryz.pinned.checked.prog.ifacesRec ·)))=true:=by kernel_rfl
theorem C8c:((Rows.brokerClosesUptoRow.mapsOut==Tryz.pinned.checked.prog.mapsAmong Tryz.f4.resultTypes.toList))=true:=by kernel_rfl
theorem C8b:((Rows.brokerClosesUptoRow.loops==(Tryz.f4.params.toList++(Rows.OpenSpec.upto Rows.brokerClosesSpec).bare.plain.varTypes Tryz.pinned.checked.prog).any (Tryz.pinned.checked.prog.loopsFrom ·)))=true:=by kernel_rfl
theorem C8a:((Rows.brokerClosesUptoRow.wideKeys==(Tryz.f4.params.toList++(Rows.OpenSpec.upto Rows.brokerClosesSpec).bare.plain.varTypes Tryz.pinned.checked.prog++Tryz.f4.resultTypes.toList).any (Tryz.pinned.checked.prog.wideKeysFrom ·)))=true:=by kernel_rfl
theorem C79:((Rows.OpenSpec.upto Rows.brokerClosesSpec).bare.vars.all (Tryz.pinned.checked.prog.varReadable ·))=true:=by kernel_rfl
theorem C78:(Tryz.f4.resultTypes.all (fun t=>Tryz.pinned.checked.prog.readableRec t&&decide (t<Tryz.pinned.checked.prog.types.size)))=true:=by kernel_rfl
theorem C77:((Rows.brokerClosesUptoRow.ifacesOut==Tryz.f4.resultTypes.toList.any (Tryz.pinned.checked.prog.ifacesRec ·)))=true:=by kernel_rfl
theorem C76:((Rows.brokerClosesUptoRow.loopsOut==Tryz.f4.resultTypes.toList.any (Tryz.pinned.checked.prog.loopsFrom ·)))=true:=by kernel_rfl
theorem C75:((Rows.brokerClosesUptoRow.plainKeys==Tryz.pinned.checked.prog.plainKeys))=true:=by kernel_rfl
theorem C74:(Rows.brokerClosesUptoRow.shortTexts.isNone)=true:=by kernel_rfl
theorem C73:(Tryz.pinned.checked.prog.stopsHeard)=true:=by kernel_rfl
theorem C72:(Tryz.pinned.checked.prog.mayEnter)=true:=by kernel_rfl
theorem C71:((Rows.brokerClosesUptoRow.lifted==Tryz.pinned.checked.prog.liftsFinal))=true:=by kernel_rfl
theorem C70:((Tryz.pinned.checked.prog.make==some Rows.brokerClosesUptoRow.make))=true:=by kernel_rfl
theorem C7Z:((Rows.brokerClosesUptoRow.kinds==(if Rows.brokerClosesUptoRow.domain.isEmpty then[] else Tryz.f4.params.toList.map fun t=>match Tryz.pinned.checked.prog.underlying t with|some (.int k)=>some k|_=>none)))=true:=by kernel_rfl
theorem C7Y:((Rows.brokerClosesUptoRow.pinned==Rows.brokerClosesUptoRow.pinnedBy))=true:=by kernel_rfl
theorem C7X:((Rows.brokerClosesUptoRow.veiled==(Tryz.f4.params.toList++(Rows.OpenSpec.upto Rows.brokerClosesSpec).bare.plain.varTypes Tryz.pinned.checked.prog++Tryz.f4.resultTypes.toList).any (Tryz.pinned.checked.prog.veiledRec ·)))=true:=by kernel_rfl
theorem C7W:(Rows.brokerClosesUptoRow.veiledFits Tryz.pinned.checked.prog Tryz.f4.params.toList (Tryz.f4.params.toList++(Rows.OpenSpec.upto Rows.brokerClosesSpec).bare.plain.varTypes Tryz.pinned.checked.prog++Tryz.f4.resultTypes.toList))=true:=by kernel_rfl
theorem A2I{a b:Bool}(ha:a=true)(hb:b=true):(a&&b)=true:=by rw[ha,hb];rfl
theorem facts:joinedFacts Tryz.pinned.checked.prog 4 Tryz.f4 (Rows.OpenSpec.upto Rows.brokerClosesSpec).bare Rows.brokerClosesUptoRow=true:=by
 unfold joinedFacts
 exact(A2I (A2I (A2I (A2I (A2I (A2I (A2I (A2I (A2I (A2I (A2I (A2I (A2I (A2I (A2I (A2I (A2I (A2I (A2I (A2I (A2I (A2I (A2I (A2I (A2I (A2I (A2I (A2I (A2I (A2I (A2I C86 C85) C84) C83) C82) C81) C80) C8Z) C8Y) C8X) C8h) C8g) C8f) C8e) C8d) C8c) C8b) C8a) C79) C78) C77) C76) C75) C74) C73) C72) C71) C70) C7Z) C7Y) C7X) C7W)
end Go.Proofs.YtidlldnlphdhcaaGreatDoor.brokerCloses