/-
  Our texts, packed by program.
-/
import Derived.Test.YtidlldnlphdhcaaGreatDoorQBrokerFull5
import Derived.Deep.DeepHandedRow
import Derived.Deep.DeepWitnessRowRef
import Derived.Test.YtidlldnlphdhcaaGreatDoorCards
import Derived.Test.YtidlldnlphdhcaaGreatDoorTie
import Derived.ShutString
import Derived.ChangeOld
import Derived.Carry
import Derived.SevenTiedAt
set_option linter.unusedSimpArgs false
set_option linter.unusedVariables false
set_option maxHeartbeats 16000000
set_option maxRecDepth 100000
namespace Go.Proofs.YtidlldnlphdhcaaGreatDoor
open Go.H
open Go.Proofs.Tryz
section
open Go.H Go.Proofs
variable {h h0:Heap} {L L' L1 L2 L3 L4 R:List Asn} {Q:Value→Heap→Prop}
abbrev eQ(x:Nat):C9w:=[at0 x]
instance:Enc eQ 1:=⟨fun _=>rfl,fun x v hv=>by rw[C0.1 hv];rfl,by decide⟩
def A01(ib:Nat)(i:r8):Asn:=exA fun qb:Nat=>star (cells ib #[at0 qb]) (A0E qb i)
theorem A2Z{ib:Nat}{i:r8}:sat h (A01 ib i::R)↔∃qb:Nat,sat h (cells ib #[at0 qb]::A0E qb i::R):=by
 unfold A01
 rw[sat.bA]
 simp only[sat.aI]
abbrev rqC(s:V7)(ob ib:Nat):C9v:=#[.int .i64 s.id,.string s.aC,.bool s.aN,.bool s.on,at0 ob,at0 ib]
def rsA(b:Nat)(s:V7):Asn:=exA fun x:Nat×Nat=>A0L [cells b (rqC s x.1 x.2),a8 x.1 s.out,A01 x.2 s.aZ]
theorem B0X{b:Nat}{s:V7}:sat h (rsA b s::R)↔∃ob ib:Nat,sat h (cells b (rqC s ob ib)::a8 ob s.out::A01 ib s.aZ::R):=by
 unfold rsA
 rw[sat.bA]
 simp only[sat.bV]
 exact⟨fun⟨x,hh⟩=>⟨x.1,x.2,hh⟩,fun⟨a,b,hh⟩=>⟨(a,b),hh⟩⟩
def A0m(b:Nat)(last:Int)(A:List V7):Asn:=exA fun x:Slc×List (Nat×V7)=>A0L [pr (x.2.map (·.2)=A),cells b #[.int .i64 last,.slice x.1.a x.1.len x.1.cap],U4 eQ 1 x.1 (x.2.map (·.1)),a7 (fun p=>rsA p.1 p.2) x.2]
theorem A0U{b:Nat}{last:Int}{A:List V7}:sat h (A0m b last A::R)↔∃(S:Slc) (M:List (Nat×V7)),M.map (·.2)=A∧sat h (cells b #[.int .i64 last,.slice S.a S.len S.cap]::U4 eQ 1 S (M.map (·.1))::a7 (fun p=>rsA p.1 p.2) M::R):=by
 unfold A0m
 rw[sat.bA]
 simp only[sat.bV,G4,F2,sat.bC]
 exact⟨fun⟨x,hh⟩=>⟨x.1,x.2,hh⟩,fun⟨a,b,hh⟩=>⟨(a,b),hh⟩⟩
def A2Y(b:Nat)(last:Int)(A:List V7)(s:V7)(nb:Nat):Asn:=exA fun x:Slc×List (Nat×V7)×List (Nat×V7)=>A0L [pr ((x.2.1++(nb,s)::x.2.2).map (·.2)=A),
 cells b #[.int .i64 last,.slice x.1.a x.1.len x.1.cap],U4 eQ 1 x.1 ((x.2.1++(nb,s)::x.2.2).map (·.1)),a7 (fun p=>rsA p.1 p.2) (x.2.1++x.2.2)]
theorem A8r{b nb:Nat}{last:Int}{A:List V7}{s:V7}:sat h (A2Y b last A s nb::R)↔∃(S:Slc) (l1 l2:List (Nat×V7)),(l1++(nb,s)::l2).map (·.2)=A∧
  sat h (cells b #[.int .i64 last,.slice S.a S.len S.cap]::U4 eQ 1 S ((l1++(nb,s)::l2).map (·.1))::a7 (fun p=>rsA p.1 p.2) (l1++l2)::R):=by
 unfold A2Y
 rw[sat.bA]
 simp only[sat.bV,G4,F2,sat.bC]
 exact⟨fun⟨x,hh⟩=>⟨x.1,x.2.1,x.2.2,hh⟩,fun⟨a,b,c,hh⟩=>⟨(a,b,c),hh⟩⟩
theorem B9C{b:Nat}{last:Int}{S:Slc}{l1 l2:List (Nat×V7)}{p:Nat×V7}(hs:sat h (cells b #[.int .i64 last,.slice S.a S.len S.cap]::U4 eQ 1 S ((l1++p::l2).map (·.1))::a7 (fun p=>rsA p.1 p.2) (l1++p::l2)::R)):
  ∃ob ib:Nat,sat h (cells p.1 (rqC p.2 ob ib)::a8 ob p.2.out::A01 ib p.2.aZ::A2Y b last ((l1++p::l2).map (·.2)) p.2 p.1::R):=by
 have h1:=j2.1 (hs.re [2,0,1])
 obtain⟨ob,ib,h2⟩:=B0X.1 h1
 refine⟨ob,ib,?_⟩
 have h3:sat h (A2Y b last ((l1++p::l2).map (·.2)) p.2 p.1::cells p.1 (rqC p.2 ob ib)::a8 ob p.2.out::A01 ib p.2.aZ::R):=A8r.2 ⟨S,l1,l2,rfl,h2.re [4,5,3,0,1,2]⟩
 exact h3.re [1,2,3,0]
theorem C3w{b nb ob ib:Nat}{last:Int}{A:List V7}{s s':V7}{f:V7→V7}(hn:(A.map (·.id)).Nodup)(hf:f s=s'):∀h,sat h (cells nb (rqC s' ob ib)::a8 ob s'.out::A01 ib s'.aZ::A2Y b last A s nb::R)→sat h (A0m b last (X8 s.id f A)::R):=by
 intro h hs
 obtain⟨S,l1,l2,rfl,h1⟩:=A8r.1 (hs.re [3,0,1,2])
 rw[B8,B6] at hn⊢
 rw[A8o hn,hf]
 refine A0U.2 ⟨S,l1++(nb,s')::l2,by simp,?_⟩
 have h2:sat h (rsA nb s'::a7 (fun p=>rsA p.1 p.2) (l1++l2)::cells b #[.int .i64 last,.slice S.a S.len S.cap]::U4 eQ 1 S ((l1++(nb,s)::l2).map (·.1))::R):=B0X.2 ⟨ob,ib,h1.re [3,4,5,2,0,1]⟩
 have h3:sat h (a7 (fun p=>rsA p.1 p.2) (l1++(nb,s')::l2)::cells b #[.int .i64 last,.slice S.a S.len S.cap]::U4 eQ 1 S ((l1++(nb,s)::l2).map (·.1))::R):=j2.2 h2
 have e:(l1++(nb,s')::l2).map (·.1)=(l1++(nb,s)::l2).map (·.1):=by simp
 rw[e]
 exact h3.re [1,2,0]
theorem A4W{b nb ob ib:Nat}{last k:Int}{A:List V7}{s s':V7}{f:V7→V7}(hk:s.id=k)(hn:(A.map (·.id)).Nodup)(hf:f s=s'):∀h,sat h (cells nb (rqC s' ob ib)::a8 ob s'.out::A01 ib s'.aZ::A2Y b last A s nb::R)→sat h (A0m b last (X8 k f A)::R):=by
 subst hk;exact C3w hn hf
theorem A6s{b nb ob ib:Nat}{last:Int}{A:List V7}{s:V7}:∀h,sat h (cells nb (rqC s ob ib)::a8 ob s.out::A01 ib s.aZ::A2Y b last A s nb::R)→sat h (A0m b last A::R):=by
 intro h hs
 obtain⟨S,l1,l2,rfl,h1⟩:=A8r.1 (hs.re [3,0,1,2])
 refine A0U.2 ⟨S,l1++(nb,s)::l2,rfl,?_⟩
 have h2:sat h (rsA nb s::a7 (fun p=>rsA p.1 p.2) (l1++l2)::cells b #[.int .i64 last,.slice S.a S.len S.cap]::U4 eQ 1 S ((l1++(nb,s)::l2).map (·.1))::R):=B0X.2 ⟨ob,ib,h1.re [3,4,5,2,0,1]⟩
 have h3:sat h (a7 (fun p=>rsA p.1 p.2) (l1++(nb,s)::l2)::cells b #[.int .i64 last,.slice S.a S.len S.cap]::U4 eQ 1 S ((l1++(nb,s)::l2).map (·.1))::R):=j2.2 h2
 exact h3.re [1,2,0]
theorem C5W{β:Type}{Q':β→Heap→Prop}{M:List (Nat×V7)}{p:Nat×V7}{j:Nat}{t:Tag}{v:t.ty}{f:t.ty→HM β}(hp:p∈M)(hv:∀ob ib,((rqC p.2 ob ib)[j]?).bind t.get=some v)(hw:W L (f v) Q')(hx:Has L (a7 (fun p=>rsA p.1 p.2) M) L1:=by repeat first|with_reducible exact U9|apply V1):W L (HM.bind (o9 t (Addr.add ⟨p.1,0,none⟩ j)) f) Q':=fun h hs=>by
 obtain⟨R',h1⟩:=A8R hp (hx.s hs)
 obtain⟨ob,ib,h2⟩:=B0X.1 h1
 refine⟨v,?_,hw h hs⟩
 rw[U2,h2.cell j]
 have:=hv ob ib
 cases hc:(rqC p.2 ob ib)[j]? with
 |none=>rw[hc] at this;cases this
 |some u=>rw[hc] at this;exact congrArg some (Tag.bT this)
theorem B3a{α:Type}{f:α→Asn}(q:α→Bool):∀{l:List α} {R:List Asn},sat h (a7 f l::R)→sat h (a7 f (l.filter q)::R)
 |[],R,hs=>hs
 |x::l,R,hs=>by
  have aa:=k8.1 hs
  by_cases hx:q x=true
  ·rw[G6 hx]
   exact k8.2 (B3a q aa.p1).p1
  ·rw[F8 hx]
   exact B3a q aa.drop
theorem B0P{α:Type}{M:List α}{i:Nat}(h:i<M.length):M=M.take i++M[i]::M.drop (i+1):=by
 rw[←D9 h,J2]
theorem C2J{b:Nat}{last:Int}{A:List V7}{k:Int}(hl:A.length≤1000)
  (ax:(∀s∈A,s.id≠k)→At (A0m b last A::L1) (Q (.pointer none)))
  (cN:∀s∈A,s.id=k→∀nb ob ib,At (cells nb (rqC s ob ib)::a8 ob s.out::A01 ib s.aZ::A2Y b last A s nb::L1) (Q (at0 nb)))
  (hx:Has L (A0m b last A) L1:=by repeat first|with_reducible exact U9|apply V1):FW prog 90 #[at0 b,.int .i64 k] L Q:=by
 refine fun h hs=>B38 (some ⟨b,0,none⟩) k h Q ((?_:W (A0m b last A::L1) _ _) h (hx.s hs))
 clear hs h hx
 delta B7l bn ie ix kc ki lp nn pu wi
 refine A8U (g:=fun S (M:{M:List (Nat×V7) // M.map (·.2)=A}) R=>cells b #[.int .i64 last,.slice S.a S.len S.cap]::U4 eQ 1 S (M.1.map (·.1))::a7 (fun p=>rsA p.1 p.2) M.1::R) (fun h R hs=>by
  obtain⟨S,M,hM,h1⟩:=A0U.1 hs
  exact⟨S,⟨M,hM⟩,h1⟩) fun S M=>?_
 obtain⟨M,hM⟩:=M
 subst hM
 dsimp only
 rw[B9] at hl
 refine Y2 (X1 (enc:=eQ) (size:=1) (s:=S) (xs:=M.map (·.1))) fun cG=>?_
 rw[B9] at cG
 refine W.loop (γ:=Nat) (fun g s=>s.1=(g:Int)∧g≤M.length∧∀p∈M.take g,p.2.id≠k) (fun g s=>cells b #[.int .i64 last,.slice S.a S.len S.cap]::U4 eQ 1 S (M.map (·.1))::a7 (fun p=>rsA p.1 p.2) M::L1) (fun g=>M.length-g) 0 ⟨rfl,C9 _,by simp⟩ Sub.rfl ?_
 rintro i s ⟨hi,ck,hn⟩ K k1 k2
 refine W3 ?_
 refine W.load (b:=b) (v:=S) ?_
 by_cases ah:i<M.length
 ·refine X7 (by rw[hi,cG];exact decide_eq_true (by omega)) ?_
  have nI:M[i]∈M:=H2 ah
  have aQ:(M.map (·.1))[i]? =some M[i].1:=by simp[B0 ah]
  have bf:i<(M.map (·.1)).length:=by simpa using ah
  have aV:M.take (i+1)=M.take i++[M[i]]:=C3 ah
  have eJ:=B0P ah
  refine W3 ?_
  refine W.load (b:=b) (v:=S) ?_
  refine e8 (enc:=eQ) (xs:=M.map (·.1)) (i:=i) bf (fun a ha=>?_) (he:=hi)
  refine B6G (x:=M[i].1) (v:=some ⟨M[i].1,0,none⟩) ha aQ ?_
  refine W3 ?_
  refine C5W (p:=M[i]) (v:=M[i].2.id) nI (fun ob ib=>rfl) ?_
  by_cases hk:M[i].2.id=k
  ·refine X7 (by simpa using hk) ?_
   refine W3 ?_
   refine W.load (b:=b) (v:=S) ?_
   refine e8 (enc:=eQ) (xs:=M.map (·.1)) (i:=i) bf (fun a ha=>?_) (he:=hi)
   refine B6G (x:=M[i].1) (v:=some ⟨M[i].1,0,none⟩) ha aQ ?_
   refine U1 (k2 _ _ (W.inr (U1 ?_)))
   clear k1 k2
   intro h hs
   have hy:=cN M[i].2 (B3 nI) hk M[i].1
   generalize M[i]=p at eJ hy
   rw[eJ] at hs hy
   obtain⟨ob,ib,h2⟩:=B9C hs
   exact hy ob ib h h2
  ·refine W6 (by simpa using hk) ?_
   have gT:=k1 (i+1) (IntKind.wrap .i64 (s.1+1),()) (by omega) ⟨by simp only[hi];rw[V5 (by omega) (by omega)];rfl,ah,fun p hp=>by
    rw[aV] at hp
    rcases C7.1 hp with hp|hp
    ·exact hn p hp
    ·rw[C0.1 hp];exact hk⟩
   exact U1 gT.sub
 ·refine W6 (by rw[hi,cG];exact decide_eq_false (by omega)) (U1 (k2 _ _ (W.inl (U1 ?_))))
  have bY:=ax fun s hs=>by
   obtain⟨p,hp,rfl⟩:=E4.1 hs
   exact hn p (by rw[D2 (by omega)];exact hp)
  exact fun h hs=>bY h (A0U.2 ⟨S,M,rfl,hs⟩)
theorem C1m{b:Nat}{last:Int}{A:List V7}{s:V7}{k:Int}(hl:A.length≤1000)(hn:(A.map (·.id)).Nodup)(hs:s∈A)(hk:s.id=k)
  (hq:∀nb ob ib,At (cells nb (rqC s ob ib)::a8 ob s.out::A01 ib s.aZ::A2Y b last A s nb::L1) (Q (at0 nb)))(hx:Has L (A0m b last A) L1:=by repeat first|with_reducible exact U9|apply V1):FW prog 90 #[at0 b,.int .i64 k] L Q:=
 C2J hl (fun ax=>absurd hk (ax s hs)) (fun s' af gV=>by rw[A81 (f:=(·.id)) hn af hs (gV.trans hk.symm)];exact hq) hx
theorem B8A{b:Nat}{last:Int}{A:List V7}{c:B3O}(hl:A.length≤1000)(ca:(A.map (·.aC)).Nodup)
  (ax:ofS c A=none→At (A0m b last A::L1) (Q (.pointer none)))
  (cN:∀s,ofS c A=some s→∀nb ob ib,At (cells nb (rqC s ob ib)::a8 ob s.out::A01 ib s.aZ::A2Y b last A s nb::L1) (Q (at0 nb)))
  (hx:Has L (A0m b last A) L1:=by repeat first|with_reducible exact U9|apply V1):FW prog 148 #[at0 b,.string c] L Q:=by
 refine fun h hs=>B2x (some ⟨b,0,none⟩) c h Q ((?_:W (A0m b last A::L1) _ _) h (hx.s hs))
 clear hs h hx
 delta B45 bn ie ix kc kt lp nn pu wi
 refine A8U (g:=fun S (M:{M:List (Nat×V7) // M.map (·.2)=A}) R=>cells b #[.int .i64 last,.slice S.a S.len S.cap]::U4 eQ 1 S (M.1.map (·.1))::a7 (fun p=>rsA p.1 p.2) M.1::R) (fun h R hs=>by
  obtain⟨S,M,hM,h1⟩:=A0U.1 hs
  exact⟨S,⟨M,hM⟩,h1⟩) fun S M=>?_
 obtain⟨M,hM⟩:=M
 subst hM
 dsimp only
 rw[B9] at hl
 refine Y2 (X1 (enc:=eQ) (size:=1) (s:=S) (xs:=M.map (·.1))) fun cG=>?_
 rw[B9] at cG
 refine W.loop (γ:=Nat) (fun g s=>s.1=(g:Int)∧g≤M.length∧∀p∈M.take g,p.2.aC≠c) (fun g s=>cells b #[.int .i64 last,.slice S.a S.len S.cap]::U4 eQ 1 S (M.map (·.1))::a7 (fun p=>rsA p.1 p.2) M::L1) (fun g=>M.length-g) 0 ⟨rfl,C9 _,by simp⟩ Sub.rfl ?_
 rintro i s ⟨hi,ck,hn⟩ K k1 k2
 refine W3 ?_
 refine W.load (b:=b) (v:=S) ?_
 by_cases ah:i<M.length
 ·refine X7 (by rw[hi,cG];exact decide_eq_true (by omega)) ?_
  have nI:M[i]∈M:=H2 ah
  have aQ:(M.map (·.1))[i]? =some M[i].1:=by simp[B0 ah]
  have bf:i<(M.map (·.1)).length:=by simpa using ah
  have aV:M.take (i+1)=M.take i++[M[i]]:=C3 ah
  have eJ:=B0P ah
  refine W3 ?_
  refine W.load (b:=b) (v:=S) ?_
  refine e8 (enc:=eQ) (xs:=M.map (·.1)) (i:=i) bf (fun a ha=>?_) (he:=hi)
  refine B6G (x:=M[i].1) (v:=some ⟨M[i].1,0,none⟩) ha aQ ?_
  refine W3 ?_
  refine C5W (p:=M[i]) (v:=M[i].2.aC) nI (fun ob ib=>rfl) ?_
  by_cases hk:M[i].2.aC=c
  ·refine X7 (by simpa using hk) ?_
   refine W3 ?_
   refine W.load (b:=b) (v:=S) ?_
   refine e8 (enc:=eQ) (xs:=M.map (·.1)) (i:=i) bf (fun a ha=>?_) (he:=hi)
   refine B6G (x:=M[i].1) (v:=some ⟨M[i].1,0,none⟩) ha aQ ?_
   refine U1 (k2 _ _ (W.inr (U1 ?_)))
   clear k1 k2
   intro h hs
   have hy:=cN M[i].2 (B1u ca (B3 nI) hk) M[i].1
   generalize M[i]=p at eJ hy
   rw[eJ] at hs hy
   obtain⟨ob,ib,h2⟩:=B9C hs
   exact hy ob ib h h2
  ·refine W6 (by simpa using hk) ?_
   have gT:=k1 (i+1) (IntKind.wrap .i64 (s.1+1),()) (by omega) ⟨by simp only[hi];rw[V5 (by omega) (by omega)];rfl,ah,fun p hp=>by
    rw[aV] at hp
    rcases C7.1 hp with hp|hp
    ·exact hn p hp
    ·rw[C0.1 hp];exact hk⟩
   exact U1 gT.sub
 ·refine W6 (by rw[hi,cG];exact decide_eq_false (by omega)) (U1 (k2 _ _ (W.inl (U1 ?_))))
  have bY:=ax (E3.2 fun s hs=>by
   obtain⟨p,hp,rfl⟩:=E4.1 hs
   simpa using hn p (by rw[D2 (by omega)];exact hp))
  exact fun h hs=>bY h (A0U.2 ⟨S,M,rfl,hs⟩)
theorem C2H{b:Nat}{last:Int}{A:List V7}{k:Int}(hl:A.length≤1000)(hq:At (A0m b last (A.filter fun x=>decide (x.id≠k))::L1) (Q (.tuple #[])))(hx:Has L (A0m b last A) L1:=by repeat first|with_reducible exact U9|apply V1):FW prog 189 #[at0 b,.int .i64 k] L Q:=by
 refine fun h hs=>B2v (some ⟨b,0,none⟩) k h Q ((?_:W (A0m b last A::L1) _ _) h (hx.s hs))
 clear hs h hx
 delta B44 az bn ie ix kc ki lp nn nw pu sx vs wi
 refine A8U (g:=fun S (M:{M:List (Nat×V7) // M.map (·.2)=A}) R=>cells b #[.int .i64 last,.slice S.a S.len S.cap]::U4 eQ 1 S (M.1.map (·.1))::a7 (fun p=>rsA p.1 p.2) M.1::R) (fun h R hs=>by
  obtain⟨S,M,hM,h1⟩:=A0U.1 hs
  exact⟨S,⟨M,hM⟩,h1⟩) fun S M=>?_
 obtain⟨M,hM⟩:=M
 subst hM
 dsimp only
 rw[B9] at hl
 refine Y2 (X1 (enc:=eQ) (size:=1) (s:=S) (xs:=M.map (·.1))) fun cG=>?_
 rw[B9] at cG
 refine B67 eQ 1 (((M.take 0).filter fun x=>decide (x.2.id≠k)).map (·.1)) ?_
 refine W.loop (γ:=Nat) (fun g s=>s.2.1=(g:Int)∧g≤M.length) (fun g s=>U4 eQ 1 s.1 (((M.take g).filter fun x=>decide (x.2.id≠k)).map (·.1))::cells b #[.int .i64 last,.slice S.a S.len S.cap]::U4 eQ 1 S (M.map (·.1))::a7 (fun p=>rsA p.1 p.2) M::L1) (fun g=>M.length-g) 0 ⟨rfl,C9 _⟩ Sub.rfl ?_
 rintro i s ⟨hi,ck⟩ K k1 k2
 refine W3 ?_
 refine W.load (b:=b) (v:=S) ?_
 by_cases ah:i<M.length
 ·refine X7 (by rw[hi,cG];exact decide_eq_true (by omega)) ?_
  have nI:M[i]∈M:=H2 ah
  have aQ:(M.map (·.1))[i]? =some M[i].1:=by simp[B0 ah]
  have bf:i<(M.map (·.1)).length:=by simpa using ah
  have aV:M.take (i+1)=M.take i++[M[i]]:=C3 ah
  have hb:((((M.take i).filter fun x=>decide (x.2.id≠k)).map (·.1)).length+1)*8≤140737488355328:=by
   have:=D1 (fun x:Nat×V7=>decide (x.2.id≠k)) (M.take i)
   rw[E1] at this
   rw[B9]
   omega
  have bp:=fun s'=>k1 (i+1) (s',IntKind.wrap .i64 (s.2.1+1),()) (by omega) ⟨by simp only[hi];rw[V5 (by omega) (by omega)];rfl,ah⟩
  rw[aV,E9,B8] at bp
  clear k1 k2
  refine W3 ?_
  refine W.load (b:=b) (v:=S) ?_
  refine e8 (enc:=eQ) (xs:=M.map (·.1)) (i:=i) bf (fun a ha=>?_) (he:=hi)
  refine B6G (x:=M[i].1) (v:=some ⟨M[i].1,0,none⟩) ha aQ ?_
  refine W3 ?_
  refine C5W (p:=M[i]) (v:=M[i].2.id) nI (fun ob ib=>rfl) ?_
  by_cases hk:M[i].2.id=k
  ·refine l7 (by simpa using hk) ?_
   rw[F8 (by simpa using hk),J4,I3,C1] at bp
   exact b7 (U1 (bp s.1).sub)
  ·refine A1d (by simpa using hk) ?_
   rw[G6 (by simpa using hk),J4,B6,I3] at bp
   refine X2 (W3 ?_)
   refine X2 (W.load (b:=b) (v:=S) ?_)
   refine X2 (e8 (enc:=eQ) (xs:=M.map (·.1)) (i:=i) bf (fun a ha=>?_) (he:=hi))
   refine X2 (B6G (x:=M[i].1) (v:=some ⟨M[i].1,0,none⟩) ha aQ ?_)
   refine X2 (Y0 fun mm=>?_)
   refine X2 (A9E (b:=mm) (s:=s.1) (enc:=eQ) M[i].1 (fun s'=>?_) hb)
   exact b7 (U1 (bp s').sub)
 ·refine W6 (by rw[hi,cG];exact decide_eq_false (by omega)) (U1 (k2 _ _ ?_))
  have eh:i=M.length:=by omega
  subst eh
  clear k1 k2
  rw[F5]
  refine W3 ?_
  refine A4e (b:=b) (i:=1) (cs':=#[.int .i64 last,.slice s.1.a s.1.len s.1.cap]) ?_
  refine U1 (At.sub (L':=cells b #[.int .i64 last,.slice s.1.a s.1.len s.1.cap]::U4 eQ 1 s.1 ((M.filter fun x=>decide (x.2.id≠k)).map (·.1))::a7 (fun p=>rsA p.1 p.2) M::L1) ?_)
  intro h hs
  have h1:sat h (a7 (fun p=>rsA p.1 p.2) (M.filter fun x=>decide (x.2.id≠k))::cells b #[.int .i64 last,.slice s.1.a s.1.len s.1.cap]::U4 eQ 1 s.1 ((M.filter fun x=>decide (x.2.id≠k)).map (·.1))::L1):=B3a _ (hs.re [2,0,1])
  refine hq h (A0U.2 ⟨s.1,M.filter fun x=>decide (x.2.id≠k),?_,h1.re [1,2,0]⟩)
  rw[R6]
  rfl
theorem C4S(hq:∀b,At (A01 b ⟨64,0,[]⟩::L) (Q (at0 b))):FW prog 201 #[.int .i64 64] L Q:=by
 refine fun h hs=>B4c 64 h Q ((?_:W L _ _) h hs)
 clear hs h
 delta B7p az cp nw pu vi
 refine b6 (fun h hs=>B0d hs 64 fun qb h1 aa=>?_)
 refine(At.un (L:=A0E qb ⟨64,0,[]⟩::L) (x:=some ⟨qb,0,none⟩) ?_) h1 aa
 refine Y0 fun b=>?_
 refine W.cZ (A:=A01 b ⟨64,0,[]⟩) (B:=cells b #[at0 qb]) (C:=A0E qb ⟨64,0,[]⟩) (fun h hs=>A2Z.2 ⟨qb,hs⟩) ?_
 exact U1 (hq b).sub
theorem C4R(hq:∀b,At (a8 b ⟨⟨64,0,[]⟩,64,false,[],[]⟩::L) (Q (at0 b))):FW prog 200 #[.int .i64 64] L Q:=fun h hs=>C1e hs 64 fun b h' af=>hq b h' af
theorem C7t{b:Nat}{last:Int}{A:List V7}{k:Int}(hl:A.length≤1000)(hn:(A.map (·.id)).Nodup)(hq:At (A0m b last (A4F k A).2::L1) (Q (.bool (A4F k A).1)))(hx:Has L (A0m b last A) L1:=by repeat first|with_reducible exact U9|apply V1):FW prog 133 #[at0 b,.int .i64 k] L Q:=by
 refine fun h hs=>B39 (some ⟨b,0,none⟩) k h Q ((?_:W (A0m b last A::L1) _ _) h (hx.s hs))
 clear hs h hx
 unfold A4F at hq
 delta B7m cp cx ie kb kp nn pu sx vi
 refine b6 (C2J (b:=b) (last:=last) (A:=A) (k:=k) hl (fun ax=>At.un (x:=none) ?_) (fun s hs hk nb ob ib=>At.un (x:=some ⟨nb,0,none⟩) ?_))
 ·have hg:A4E k A=none:=E3.2 fun s hs=>by simpa using ax s hs
  rw[hg] at hq
  exact X7 rfl (U1 hq)
 ·rw[A3i hn hs hk] at hq
  simp only at hq
  refine W6 rfl ?_
  refine W3 ?_
  refine W.load (b:=nb) (v:=s.on) ?_
  by_cases aP:s.on=false
  ·rw[if_pos aP] at hq
   refine X7 (by rw[aP];rfl) ?_
   refine B0H (A:=A0m b last A) (B:=cells nb (rqC s ob ib)) (C:=a8 ob s.out) (D:=A01 ib s.aZ) (E:=A2Y b last A s nb) (fun h hs=>A6s h hs) ?_
   exact U1 hq.sub
  ·rw[if_neg aP] at hq
   have cH:s.on=true:=by cases hh:s.on with|true=>rfl|false=>exact absurd hh aP
   refine W6 (by rw[cH];rfl) ?_
   refine W3 ?_
   refine W.store (b:=nb) (cs':=#[.int .i64 s.id,.string s.aC,.bool s.aN,.bool false,at0 ob,at0 ib]) ?_
   refine W3 ?_
   refine W.load (b:=nb) (v:=some ⟨ob,0,none⟩) ?_
   refine W3 ?_
   refine A6a (fun h R=>p6.1) fun pb fl wt=>?_
   refine W.store (b:=ob) (cs':=#[at0 pb,.int .i64 s.out.most,.bool false,.slice fl.a fl.len fl.cap,.slice wt.a wt.len wt.cap]) ?_
   refine B0H (A:=a8 ob (A8c s).out) (B:=cells ob #[at0 pb,.int .i64 s.out.most,.bool false,.slice fl.a fl.len fl.cap,.slice wt.a wt.len wt.cap]) (C:=A0E pb s.out.aU) (D:=U4 A0I 7 fl s.out.aG) (E:=U4 Z4 5 wt s.out.waiting) (fun h hs=>p6.2 ⟨pb,fl,wt,hs⟩) ?_
   refine W3 ?_
   refine W.load (b:=nb) (v:=s.aN) ?_
   refine B0H (A:=A0m b last (X8 k A8c A)) (B:=cells nb #[.int .i64 s.id,.string s.aC,.bool s.aN,.bool false,at0 ob,at0 ib]) (C:=a8 ob (A8c s).out) (D:=A01 ib s.aZ) (E:=A2Y b last A s nb) (fun h hs=>A4W (f:=A8c) hk hn rfl h hs) ?_
   by_cases iN:s.aN=true
   ·rw[if_pos iN] at hq
    refine W6 (by rw[iN];rfl) ?_
    exact U1 hq.sub
   ·rw[if_neg iN] at hq
    have nK:s.aN=false:=by cases hh:s.aN with|false=>rfl|true=>exact absurd hh iN
    refine X7 (by rw[nK];rfl) ?_
    have eX:(X8 k A8c A).filter (fun x=>decide (x.id≠k))=A.filter fun x=>decide (x.id≠k):=by
     unfold X8
     rw[R6]
     have e1:A.filter ((fun x:V7=>decide (x.id≠k))∘fun s=>if s.id=k then A8c s else s)=A.filter fun x=>decide (x.id≠k):=K7 fun x _=>by
      simp only[Function.comp]
      split
      ·rfl
      ·rfl
     rw[e1]
     refine(H9 fun x hx=>?_).trans (T4 _)
     have:=(E7.1 hx).2
     rw[if_neg (by simpa using this)];rfl
    refine Z1 (C2H (b:=b) (last:=last) (A:=X8 k A8c A) (k:=k) (by unfold X8;rw[B9];exact hl) (At.bD ?_))
    rw[eX]
    exact U1 hq.sub
theorem B9R{b:Nat}{last:Int}{A:List V7}{c:B3O}{clean aN:Bool}(hsz:c.size≤9223372036854775800)(tp:0≤last)(fc:last<4611686018427387904)(hl:A.length≤100)(hn:(A.map (·.id)).Nodup)(ca:(A.map (·.aC)).Nodup)
  (hq:At (A0m b (u7 last A c clean aN).2.1 (u7 last A c clean aN).2.2::L1) (Q (.tuple #[.int .i64 (u7 last A c clean aN).1.2.1,.bool (u7 last A c clean aN).1.2.2,.int .i64 (u7 last A c clean aN).1.1])))
  (hx:Has L (A0m b last A) L1:=by repeat first|with_reducible exact U9|apply V1):FW prog 150 #[at0 b,.string c,.bool clean,.bool aN] L Q:=by
 refine fun h hs=>B03 (some ⟨b,0,none⟩) c clean aN h Q ((?_:W (A0m b last A::L1) _ _) h (hx.s hs))
 clear hs h hx
 delta B3s az bn cp cx ie kc ki nn nw pu rq sx vi vs wi
 refine Z1 (fun h hs=>B3E hs c hsz ((At.bD (L:=A0m b last A::L1) (x:=(match p7 c with|some n=>((n:Int),true,())|none=>((0:Int),false,()))) ?_ (by cases p7 c<;>rfl) (by cases p7 c<;>rfl)) h hs))
 unfold u7 at hq
 refine A07 (fun r=>r.1= !(decide (Z6 c))) (fun K hK=>?_) (fun r hr=>?_)
 ·have key:∀v:Bool,(v=true↔¬Z6 c)→v= !(decide (Z6 c)):=fun v hv=>by
   by_cases hg:Z6 c
   ·cases v
    ·simp[hg]
    ·exact absurd hg (hv.1 rfl)
   ·rw[hv.2 hg];simp[hg]
  cases hf:p7 c with
  |some n=>exact X7 rfl (U1 (hK _ (key true ⟨fun _ hg=>(by have:=hg.1;rw[hf] at this;cases this),fun _=>rfl⟩)))
  |none=>
   refine W6 rfl ?_
   refine A0e (fun g=>U1 (hK _ (key true ⟨fun _ hg=>?_,fun _=>rfl⟩))) (fun g=>U1 (hK _ (key _ ⟨fun rC hg=>?_,fun hg=>?_⟩)))
   ·have hz:c.size=0:=by simpa using g
    exact hg.2.1 (ByteArray.ext (Array.eq_empty_of_size_eq_zero hz))
   ·have:=hg.2.2
    simp only[decide_eq_true_eq] at rC
    omega
   ·have hz:c.size≠0:=by simpa using g
    have he:c≠ByteArray.mk #[]:=fun e=>hz (by rw[e];rfl)
    simp only[decide_eq_true_eq]
    have:¬c.size≤64:=fun h=>hg ⟨hf,he,h⟩
    omega
 by_cases hg:Z6 c
 ·rw[if_neg (fun e=>e hg)] at hq
  refine W6 (by rw[hr];simp[hg]) ?_
  have fresh:∀{A':List V7},A'.length≤100→(∀{Q2:(Int×Bool×Int×Unit)→Heap→Prop},At (A0m b (last+1) (A'++[A2s (last+1) c aN])::L1) (Q2 (last+1,false,0,()))→
    W (A0m b last A'::L1) (HM.bind (A75 (some ⟨b,0,none⟩)) fun vZ=>HM.bind (o9 (.int .i64) (Addr.add vZ 0)) fun mm=>HM.bind (A75 (some ⟨b,0,none⟩)) fun vX=>HM.bind (A6V (Addr.add vX 0) (.int .i64 (IntKind.wrap .i64 (mm+1)))) fun _=>
     HM.bind (A1n prog (.one .ptr) 200 #[.int .i64 64]) fun rP=>HM.bind (A1n prog (.one .ptr) 201 #[.int .i64 64]) fun vU=>HM.bind (A75 (some ⟨b,0,none⟩)) fun rG=>HM.bind (o9 .slc (Addr.add rG 1)) fun dx=>
     HM.bind (A75 (some ⟨b,0,none⟩)) fun mf=>HM.bind (o9 (.int .i64) (Addr.add mf 0)) fun vS=>HM.bind (HM.new (.cells #[.int .i64 vS,.string c,.bool aN,.bool true,.pointer rP,.pointer vU] 154)) fun ph=>
     HM.bind (o9 .slc (Addr.add rG 1)) fun ll=>A2w ((.slice ll.a ll.len ll.cap:Value)=.slice dx.a dx.len dx.cap)<|HM.bind (HM.new (.cells #[.pointer (some ⟨ph,0,none⟩)] 150)) fun rF=>
     HM.bind (o9 .slc (Addr.add rG 1)) fun jQ=>A2w ((.slice jQ.a jQ.len jQ.cap:Value)=.slice dx.a dx.len dx.cap)<|HM.bind (HM.append 150 1 8 #[.pointer none] dx 1 (V6 1 (⟨some ⟨rF,0,none⟩,1,1⟩))) fun qW=>
     HM.bind (A75 (some ⟨b,0,none⟩)) fun vR=>HM.bind (A6V (Addr.add vR 1) (.slice qW.a qW.len qW.cap)) fun _=>HM.bind (A75 (some ⟨b,0,none⟩)) fun jq=>HM.bind (o9 (.int .i64) (Addr.add jq 0)) fun pg=>X0 (pg,false,0,())) Q2):=by
   intro A' gy Q2 fa
   refine A8U (g:=fun S (M:{M:List (Nat×V7) // M.map (·.2)=A'}) R=>cells b #[.int .i64 last,.slice S.a S.len S.cap]::U4 eQ 1 S (M.1.map (·.1))::a7 (fun p=>rsA p.1 p.2) M.1::R) (fun h R hs=>by
    obtain⟨S,M,hM,h1⟩:=A0U.1 hs
    exact⟨S,⟨M,hM⟩,h1⟩) fun S M=>?_
   obtain⟨M,hM⟩:=M
   subst hM
   dsimp only
   rw[B9] at gy
   have hb:((M.map (·.1)).length+1)*8≤140737488355328:=by rw[B9];omega
   have hw:IntKind.wrap .i64 (last+1)=last+1:=V5 (by omega) (by omega)
   refine W3 ?_
   refine W.load (b:=b) (v:=last) ?_
   refine W3 ?_
   rw[hw]
   refine W.store (b:=b) (cs':=#[.int .i64 (last+1),.slice S.a S.len S.cap]) ?_
   refine b6 (C4R (fun ob=>At.un (x:=some ⟨ob,0,none⟩) ?_))
   refine b6 (C4S (fun ib=>At.un (x:=some ⟨ib,0,none⟩) ?_))
   refine W3 ?_
   refine W.load (b:=b) (v:=S) ?_
   refine W3 ?_
   refine W.load (b:=b) (v:=last+1) ?_
   refine Y0 fun nb=>?_
   refine W.load (b:=b) (v:=S) ?_
   refine A06 ?_ rfl
   refine Y0 fun rF=>?_
   refine W.load (b:=b) (v:=S) ?_
   refine A06 ?_ rfl
   refine A9E (b:=rF) (s:=S) (enc:=eQ) nb (fun s'=>?_) hb
   refine W3 ?_
   refine W.store (b:=b) (cs':=#[.int .i64 (last+1),.slice s'.a s'.len s'.cap]) ?_
   refine W3 ?_
   refine W.load (b:=b) (v:=last+1) ?_
   refine B2b (A:=rsA nb (A2s (last+1) c aN)) (B:=cells nb #[.int .i64 (last+1),.string c,.bool aN,.bool true,at0 ob,at0 ib]) (C:=a8 ob ⟨⟨64,0,[]⟩,64,false,[],[]⟩) (D:=A01 ib ⟨64,0,[]⟩) (fun h hs=>B0X.2 ⟨ob,ib,hs⟩) ?_
   refine W.cZ (A:=a7 (fun p=>rsA p.1 p.2) (M++[(nb,A2s (last+1) c aN)])) (B:=a7 (fun p=>rsA p.1 p.2) M) (C:=rsA nb (A2s (last+1) c aN)) (fun h hs=>A5e.2 (((A3O (f:=fun p:Nat×V7=>rsA p.1 p.2) (x:=(nb,A2s (last+1) c aN))).2 (hs.re [1,0])).re [1,0])) ?_
   refine B2b (A:=A0m b (last+1) (M.map (·.2)++[A2s (last+1) c aN])) (B:=cells b #[.int .i64 (last+1),.slice s'.a s'.len s'.cap]) (C:=U4 eQ 1 s' (M.map (·.1)++[nb])) (D:=a7 (fun p=>rsA p.1 p.2) (M++[(nb,A2s (last+1) c aN)])) (fun h hs=>A0U.2 ⟨s',M++[(nb,A2s (last+1) c aN)],by simp,by rw[B8];exact hs⟩) ?_
   exact U1 fa.sub
  refine b6 (B8A (b:=b) (last:=last) (A:=A) (c:=c) (by omega) ca (fun ho=>At.un (x:=none) ?_) (fun s ho nb ob ib=>At.un (x:=some ⟨nb,0,none⟩) ?_))
  ·rw[ho] at hq
   simp only at hq
   refine A07 (fun r=>r.1=false) (fun K hK=>W6 rfl (U1 (hK _ rfl))) (fun r2 cI=>?_)
   refine W6 cI ?_
   refine l7 rfl ?_
   refine X2 (W3 ?_)
   refine A8U (g:=fun S (M:{M:List (Nat×V7) // M.map (·.2)=A}) R=>cells b #[.int .i64 last,.slice S.a S.len S.cap]::U4 eQ 1 S (M.1.map (·.1))::a7 (fun p=>rsA p.1 p.2) M.1::R) (fun h R hs=>by
    obtain⟨S,M,hM,h1⟩:=A0U.1 hs
    exact⟨S,⟨M,hM⟩,h1⟩) fun S M=>?_
   obtain⟨M,hM⟩:=M
   subst hM
   dsimp only
   refine Y2 (X1 (enc:=eQ) (size:=1) (s:=S) (xs:=M.map (·.1))) fun cG=>?_
   rw[B9] at cG
   refine X2 (W.load (b:=b) (v:=S) ?_)
   refine B2b (A:=A0m b last (M.map (·.2))) (B:=cells b #[.int .i64 last,.slice S.a S.len S.cap]) (C:=U4 eQ 1 S (M.map (·.1))) (D:=a7 (fun p=>rsA p.1 p.2) M) (fun h hs=>A0U.2 ⟨S,M,rfl,hs⟩) ?_
   by_cases ea:32≤(M.map (·.2)).length
   ·rw[if_pos ea] at hq
    rw[B9] at ea
    refine A1d (by rw[cG];exact decide_eq_true (by omega)) (b7 (W.inr (U1 ?_)))
    exact hq.sub
   ·rw[if_neg ea] at hq
    rw[B9] at ea
    refine l7 (by rw[cG];exact decide_eq_false (by omega)) (b7 (W.inl ?_))
    exact fresh hl hq
  ·rw[ho] at hq
   simp only at hq
   obtain⟨lz,sP⟩:=B1v ho
   refine A07 (fun r=>r.1= !clean) (fun K hK=>X7 rfl (U1 (hK _ rfl))) (fun r2 cI=>?_)
   by_cases ba:clean=false
   ·rw[if_pos ba] at hq
    refine X7 (by rw[cI,ba];rfl) ?_
    refine W3 ?_
    refine W.store (b:=nb) (cs':=#[.int .i64 s.id,.string s.aC,.bool s.aN,.bool true,at0 ob,at0 ib]) ?_
    refine W3 ?_
    refine W.store (b:=nb) (cs':=#[.int .i64 s.id,.string s.aC,.bool aN,.bool true,at0 ob,at0 ib]) ?_
    refine W3 ?_
    refine W.load (b:=nb) (v:=s.id) ?_
    refine B0H (A:=A0m b last (X8 s.id (fun s=>{s with on:=true,aN:=aN}) A)) (B:=cells nb #[.int .i64 s.id,.string s.aC,.bool aN,.bool true,at0 ob,at0 ib]) (C:=a8 ob s.out) (D:=A01 ib s.aZ) (E:=A2Y b last A s nb) (fun h hs=>A4W (f:=fun s=>{s with on:=true,aN:=aN}) rfl hn rfl h hs) ?_
    exact U1 hq.sub
   ·rw[if_neg ba] at hq
    have tU:clean=true:=by cases hh:clean with|true=>rfl|false=>exact absurd hh ba
    refine W6 (by rw[cI,tU];rfl) ?_
    refine A1d rfl ?_
    refine X2 (W3 ?_)
    refine X2 (W.load (b:=nb) (v:=s.id) ?_)
    refine B0H (A:=A0m b last A) (B:=cells nb (rqC s ob ib)) (C:=a8 ob s.out) (D:=A01 ib s.aZ) (E:=A2Y b last A s nb) (fun h hs=>A6s h hs) ?_
    refine X2 (Z1 (C2H (b:=b) (last:=last) (A:=A) (k:=s.id) (by omega) (At.bD ?_)))
    refine b7 (W.inl ?_)
    have cn:(A.filter fun x=>decide (x.id≠s.id)).length≤100:=C4 (D1 _ _) hl
    exact fresh cn hq
 ·rw[if_pos hg] at hq
  refine X7 (by rw[hr];simp[hg]) ?_
  exact U1 hq.sub
theorem B1k{k id c:Int}(hq:∀S:Slc,At (o6 .i64 S [Z7 k id c]::L) (Q (.slice S.a S.len S.cap))):FW prog 245 #[.int .i64 k,.int .i64 id,.int .i64 c] L Q:=by
 refine fun h hs=>B0k k id c h Q ((?_:W L _ _) h hs)
 clear hs h
 delta B05 az nw pu ve vi vz
 refine Y0 fun x1=>U1 ?_
 intro h hs
 refine hq ⟨some ⟨x1,0,none⟩,1,1⟩ h ?_
 have h1:sat h (U4 (W7 .i64) 26 ⟨some ⟨x1,0,none⟩,1,1⟩ [pkF (⟨none,0,0⟩,⟨none,0,0⟩,Z7 k id c)]::L):=A1A (o:=0) ⟨rfl,D6 _,rfl,by simp,by rfl⟩ hs
 exact A7a.2 ⟨[(⟨none,0,0⟩,⟨none,0,0⟩,Z7 k id c)],rfl,(A3O.2 (A28 (o:=Z7 k id c) rfl rfl h1)).p1⟩
theorem C7o{b:Nat}{s:r8}{k:Int}(hl:s.used.length≤64)(hq:At (A0E b s::L1) (Q (.bool (decide (k∈s.used)))))(hx:Has L (A0E b s) L1:=by repeat first|with_reducible exact U9|apply V1):FW prog 243 #[at0 b,.int .i64 k] L Q:=fun h hs=>B2m (hx.s hs) hl (hq h (hx.s hs))
theorem C4Q{b:Nat}{s:r8}{k:Int}(ag:s.ok)(hq:At (A0E b ⟨s.most,s.taken,s.used.erase k⟩::L1) (Q (.bool (decide (k∈s.used)))))(hx:Has L (A0E b s) L1:=by repeat first|with_reducible exact U9|apply V1):FW prog 244 #[at0 b,.int .i64 k] L Q:=fun h hs=>B3q (hx.s hs) ag fun h' af=>hq h' af
theorem C3x{b:Nat}{s:r8}{k:Int}(ag:s.ok)(hc:i6 s k=0)(hq:At (A0E b ⟨s.most,s.taken,s.used++[k]⟩::L1) (Q (.int .i64 0)))(hx:Has L (A0E b s) L1:=by repeat first|with_reducible exact U9|apply V1):FW prog 246 #[at0 b,.int .i64 k] L Q:=fun h hs=>B8s (hx.s hs) ag (fun e=>absurd hc e) fun _ h' af=>hq h' af
theorem C6q{f:Nat}{s:r8}{p:Pk}{why:Int}(ag:s.ok)(hq:∀S:Slc,At (A01 f ⟨s.most,s.taken,(k9 s p.1 p.2.2.2.1 p.2.2.2.2.1 why).2.2.2⟩::o6 .i64 S (A3P (k9 s p.1 p.2.2.2.1 p.2.2.2.2.1 why).2.1 p.2.2.2.2.1)::L1)
   (Q (.tuple #[.bool (k9 s p.1 p.2.2.2.1 p.2.2.2.2.1 why).1,.slice S.a S.len S.cap,.int .i64 (k9 s p.1 p.2.2.2.1 p.2.2.2.2.1 why).2.2.1])))(hx:Has L (A01 f s) L1:=by repeat first|with_reducible exact U9|apply V1):
  FW prog 194 #[at0 f,A2p .i64 p,.int .i64 why] L Q:=by
 refine fun h hs=>B2y (some ⟨f,0,none⟩) p why h Q ((?_:W (A01 f s::L1) _ _) h (hx.s hs))
 clear hs h hx
 have hl:s.used.length≤64:=by have:=ag.len;have:=ag.cO;omega
 have rv:=ag.len
 obtain⟨k,hk⟩:∃k,k=p.1:=⟨_,rfl⟩
 obtain⟨qo,pT⟩:∃q,q=p.2.2.2.1:=⟨_,rfl⟩
 obtain⟨id,hid⟩:∃i,i=p.2.2.2.2.1:=⟨_,rfl⟩
 rw[←hk,←pT,←hid] at hq
 obtain⟨RR,fe⟩:∃RR,RR=k9 s k qo id why:=⟨_,rfl⟩
 rw[←fe] at hq
 have dj:∀a c,RR=(a,none,c,s.used)→At (A01 f s::L1) (Q (.tuple #[.bool a,.slice none 0 0,.int .i64 c])):=fun a c e=>by
  have:=hq ⟨none,0,0⟩
  rw[e] at this
  exact fun h hs=>this h ((A1M hs).re [1,0])
 have aJ:∀a kk c u,RR=(a,some (kk,c),0,u)→∀S:Slc,At (A01 f ⟨s.most,s.taken,u⟩::o6 .i64 S [Z7 kk id c]::L1) (Q (.tuple #[.bool a,.slice S.a S.len S.cap,.int .i64 0])):=fun a kk c u e S=>by
  have:=hq S
  rw[e] at this
  exact this
 clear hq
 unfold k9 at fe
 delta B46 bn cb cc ci ie ji kc ki kp nn nw pu vi
 refine Y0 fun x1=>?_
 refine W.load (b:=x1) (v:=p.1) ?_
 refine W.load (b:=x1) (v:=p.1) ?_
 rw[←hk]
 refine A07 (fun r=>r.1=decide (k≠3∧k≠6)) (fun K hK=>?_) (fun r hr=>?_)
 ·refine A0e (fun g=>U1 (hK _ ?_)) (fun g=>U1 (hK _ ?_))
  ·have g:k≠3:=by simpa using g
   by_cases e:k=6<;>simp[e,g]
  ·have g:k=3:=by simpa using g
   simp[g]
 by_cases c1:k≠3∧k≠6
 ·rw[if_pos (show q9 k qo id from .inl c1)] at fe
  refine X7 (by rw[hr];exact decide_eq_true c1) ?_
  exact U1 (dj _ _ fe).sub
 refine W6 (by rw[hr];exact decide_eq_false c1) ?_
 clear hr r
 refine A07 (fun r=>r.1=decide (k=3∧(qo<0∨2<qo))) (fun K hK=>?_) (fun r hr=>?_)
 ·refine A0e (fun g=>?_) (fun g=>U1 (hK _ ?_))
  ·have g:k=3:=by simpa using g
   refine W.load (b:=x1) (v:=p.2.2.2.1) ?_
   rw[←pT]
   refine A0e (fun g2=>U1 (hK _ ?_)) (fun g2=>?_)
   ·have g2:qo<0:=by simpa using g2
    simp[g,g2]
   ·have g2:¬qo<0:=by simpa using g2
    refine W.load (b:=x1) (v:=p.2.2.2.1) ?_
    rw[←pT]
    refine U1 (hK _ ?_)
    by_cases e:2<qo<;>simp[e,g,g2]<;>omega
  ·have g:k≠3:=by simpa using g
   simp[g]
 by_cases c2:k=3∧(qo<0∨2<qo)
 ·rw[if_pos (show q9 k qo id from .inr (.inl c2))] at fe
  refine X7 (by rw[hr];exact decide_eq_true c2) ?_
  exact U1 (dj _ _ fe).sub
 refine W6 (by rw[hr];exact decide_eq_false c2) ?_
 clear hr r
 refine A07 (fun r=>r.1=decide (k=3∧qo=0)) (fun K hK=>?_) (fun r hr=>?_)
 ·refine A0e (fun g=>?_) (fun g=>U1 (hK _ ?_))
  ·have g:k=3:=by simpa using g
   refine W.load (b:=x1) (v:=p.2.2.2.1) ?_
   rw[←pT]
   refine U1 (hK _ ?_)
   by_cases e:qo=0<;>simp[e,g]
  ·have g:k≠3:=by simpa using g
   simp[g]
 by_cases c3:k=3∧qo=0
 ·have oF:¬q9 k qo id:=by
   rintro(e|e|e)
   ·exact c1 e
   ·exact c2 e
   ·exact e.1 c3
  rw[if_neg oF,if_pos c3] at fe
  refine X7 (by rw[hr];exact decide_eq_true c3) ?_
  exact U1 (dj _ _ fe).sub
 refine W6 (by rw[hr];exact decide_eq_false c3) ?_
 clear hr r
 refine A07 (fun r=>r.1=decide (id<1∨65535<id)) (fun K hK=>?_) (fun r hr=>?_)
 ·refine W.load (b:=x1) (v:=p.2.2.2.2.1) ?_
  rw[←hid]
  refine A0e (fun g2=>U1 (hK _ ?_)) (fun g2=>?_)
  ·have g2:id<1:=by simpa using g2
   simp[g2]
  ·have g2:¬id<1:=by simpa using g2
   refine W.load (b:=x1) (v:=p.2.2.2.2.1) ?_
   rw[←hid]
   refine U1 (hK _ ?_)
   by_cases e:65535<id<;>simp[e,g2]<;>omega
 by_cases c4:id<1∨65535<id
 ·rw[if_pos (show q9 k qo id from .inr (.inr ⟨c3,c4⟩))] at fe
  refine X7 (by rw[hr];exact decide_eq_true c4) ?_
  exact U1 (dj _ _ fe).sub
 refine W6 (by rw[hr];exact decide_eq_false c4) ?_
 clear hr r
 have oF:¬q9 k qo id:=by
  rintro(e|e|e)
  ·exact c1 e
  ·exact c2 e
  ·exact c4 e.2
 rw[if_neg oF,if_neg c3] at fe
 clear oF
 refine W3 ?_
 refine A2b (fun h R=>A2Z.1) fun qb=>?_
 refine W.load (b:=f) (v:=some ⟨qb,0,none⟩) ?_
 refine W.load (b:=x1) (v:=p.2.2.2.2.1) ?_
 rw[←hid]
 refine b6 (C7o (b:=qb) (s:=s) (k:=id) hl (At.un ?_))
 by_cases c6:k=6
 ·rw[if_pos c6] at fe
  refine X7 (by simpa using c6) ?_
  refine C2l (fun r=>r.1=if id∈s.used then 0 else 146) (fun _=>A01 f ⟨s.most,s.taken,s.used.erase id⟩::cells x1 (aS2 p)::L1) (fun K hK=>?_) (fun r hr=>?_)
  ·by_cases dY:id∈s.used
   ·rw[if_pos dY] at hK
    refine X7 (decide_eq_true dY) ?_
    refine W3 ?_
    refine W.load (b:=f) (v:=some ⟨qb,0,none⟩) ?_
    refine W.load (b:=x1) (v:=p.2.2.2.2.1) ?_
    rw[←hid]
    refine b6 (C4Q (b:=qb) (s:=s) (k:=id) ag (At.un ?_))
    refine W.cZ (A:=A01 f ⟨s.most,s.taken,s.used.erase id⟩) (B:=cells f #[at0 qb]) (C:=A0E qb ⟨s.most,s.taken,s.used.erase id⟩) (fun h hs=>A2Z.2 ⟨qb,hs⟩) ?_
    exact U1 (hK _ rfl).sub
   ·rw[if_neg dY,List.erase_of_not_mem dY] at hK
    refine W6 (decide_eq_false dY) ?_
    refine W.cZ (A:=A01 f ⟨s.most,s.taken,s.used⟩) (B:=cells f #[at0 qb]) (C:=A0E qb s) (fun h hs=>A2Z.2 ⟨qb,hs⟩) ?_
    exact U1 (hK _ rfl).sub
  ·obtain⟨cc,_⟩:=r
   simp only at hr
   refine W.load (b:=x1) (v:=p.2.2.2.2.1) ?_
   rw[←hid]
   refine b6 (B1k (k:=7) (id:=id) (c:=cc) (fun S=>At.un (x:=S) ?_))
   rw[←hr] at fe
   exact U1 (aJ _ _ _ _ fe S).sub
 rw[if_neg c6] at fe
 refine W6 (by simpa using c6) ?_
 refine W.load (b:=x1) (v:=p.2.2.2.1) ?_
 rw[←pT]
 by_cases c7:qo=1
 ·rw[if_pos c7] at fe
  refine X7 (by simpa using c7) ?_
  refine W.load (b:=x1) (v:=p.2.2.2.2.1) ?_
  rw[←hid]
  refine b6 (B1k (k:=4) (id:=id) (c:=why) (fun S=>At.un (x:=S) ?_))
  refine W.cZ (A:=A01 f ⟨s.most,s.taken,s.used⟩) (B:=cells f #[at0 qb]) (C:=A0E qb s) (fun h hs=>A2Z.2 ⟨qb,hs⟩) ?_
  exact U1 (aJ _ _ _ _ fe S).sub
 rw[if_neg c7] at fe
 refine W6 (by simpa using c7) ?_
 by_cases c8:id∈s.used
 ·rw[if_pos c8] at fe
  refine X7 (decide_eq_true c8) ?_
  refine W.load (b:=x1) (v:=p.2.2.2.2.1) ?_
  rw[←hid]
  refine b6 (B1k (k:=5) (id:=id) (c:=0) (fun S=>At.un (x:=S) ?_))
  refine W.cZ (A:=A01 f ⟨s.most,s.taken,s.used⟩) (B:=cells f #[at0 qb]) (C:=A0E qb s) (fun h hs=>A2Z.2 ⟨qb,hs⟩) ?_
  exact U1 (aJ _ _ _ _ fe S).sub
 rw[if_neg c8] at fe
 refine W6 (decide_eq_false c8) ?_
 refine W3 ?_
 refine W.load (b:=f) (v:=some ⟨qb,0,none⟩) ?_
 refine W3 ?_
 refine A2b (fun h R=>A1G.1) fun sl=>?_
 refine Y2 (X1 (enc:=eI) (size:=1) (s:=sl) (xs:=Z0 s.used)) fun cG=>?_
 have wG:(Z0 s.used).length=s.used.length:=by unfold Z0;exact O7 _
 rw[wG] at cG
 refine W.load (b:=qb) (v:=sl) ?_
 refine W3 ?_
 refine W.load (b:=f) (v:=some ⟨qb,0,none⟩) ?_
 refine W3 ?_
 refine W.load (b:=qb) (v:=s.most) ?_
 refine W.cZ (A:=A0E qb s) (B:=cells qb #[.int .i64 s.most,.int .i64 s.taken,.slice sl.a sl.len sl.cap]) (C:=U4 eI 1 sl (Z0 s.used)) (fun h hs=>A1G.2 ⟨sl,hs⟩) ?_
 by_cases c9:(s.used.length:Int)=s.most
 ·rw[if_pos c9] at fe
  refine X7 (by rw[cG];exact decide_eq_true (by omega)) ?_
  refine W.cZ (A:=A01 f s) (B:=cells f #[at0 qb]) (C:=A0E qb s) (fun h hs=>A2Z.2 ⟨qb,hs⟩) ?_
  exact U1 (dj _ _ fe).sub
 rw[if_neg c9] at fe
 refine W6 (by rw[cG];exact decide_eq_false (by omega)) ?_
 refine W.cut (fun _=>A01 f ⟨s.most,s.taken,if why<128 then s.used++[id] else s.used⟩::cells x1 (aS2 p)::L1) (fun K hK=>?_) (fun _=>?_)
 ·by_cases hw:why<128
  ·rw[if_pos hw] at hK
   refine X7 (decide_eq_true hw) ?_
   refine W3 ?_
   refine W.load (b:=f) (v:=some ⟨qb,0,none⟩) ?_
   refine W.load (b:=x1) (v:=p.2.2.2.2.1) ?_
   rw[←hid]
   refine b6 (C3x (b:=qb) (s:=s) (k:=id) ag ?_ (At.un ?_))
   ·unfold i6
    simp[c4,c8,c9]
   refine W.cZ (A:=A01 f ⟨s.most,s.taken,s.used++[id]⟩) (B:=cells f #[at0 qb]) (C:=A0E qb ⟨s.most,s.taken,s.used++[id]⟩) (fun h hs=>A2Z.2 ⟨qb,hs⟩) ?_
   exact U1 (hK ()).sub
  ·rw[if_neg hw] at hK
   refine W6 (decide_eq_false hw) ?_
   refine W.cZ (A:=A01 f ⟨s.most,s.taken,s.used⟩) (B:=cells f #[at0 qb]) (C:=A0E qb s) (fun h hs=>A2Z.2 ⟨qb,hs⟩) ?_
   exact U1 (hK ()).sub
 refine W.load (b:=x1) (v:=p.2.2.2.2.1) ?_
 rw[←hid]
 refine b6 (B1k (k:=5) (id:=id) (c:=why) (fun S=>At.un (x:=S) ?_))
 exact U1 (aJ _ _ _ _ fe S).sub
theorem B9E{b:Nat}{o:Z8}{m:MsT}(ag:W9 o)(hq:∀S:Slc,At (a8 b (Y1 o m).1.1::o6 .i64 S (Y1 o m).1.2::L1) (Q (.tuple #[.slice S.a S.len S.cap,.int .i64 (Y1 o m).2])))(hx:Has L (a8 b o) L1:=by repeat first|with_reducible exact U9|apply V1):
  FW prog 139 #[at0 b,vMs m] L Q:=fun h hs=>B9F (hx.s hs) ag fun S h' af=>hq S h' af
theorem C3z{b:Nat}{o:Z8}{most:Int}(ag:W9 o)(hq:∀S:Slc,At (a8 b (A0g o most).1::o6 .i64 S (A0g o most).2::L1) (Q (.slice S.a S.len S.cap)))(hx:Has L (a8 b o) L1:=by repeat first|with_reducible exact U9|apply V1):
  FW prog 151 #[at0 b,.int .i64 most] L Q:=fun h hs=>B8u (hx.s hs) ag fun S h' af=>hq S h' af
theorem C6o{b:Nat}{o:Z8}{p:Pk}(ag:W9 o)(hq:∀S:Slc,At (a8 b (A0S o p.1 p.2.2.2.2.1 p.2.2.2.2.2.2.2.1).1.1::o6 .i64 S (A0S o p.1 p.2.2.2.2.1 p.2.2.2.2.2.2.2.1).1.2::L1) (Q (.tuple #[.slice S.a S.len S.cap,.int .i64 (A0S o p.1 p.2.2.2.2.1 p.2.2.2.2.2.2.2.1).2])))
  (hx:Has L (a8 b o) L1:=by repeat first|with_reducible exact U9|apply V1):FW prog 142 #[at0 b,A2p .i64 p] L Q:=fun h hs=>C1f (hx.s hs) ag fun S h' af=>hq S h' af
theorem C2F{S:Slc}{pl:List o8}{id:Int}(hn:pl.length≤1000)(hq:At (U4 W8 4 S pl::L1) (Q (.tuple #[.agg (W8 ((A0N id pl).getD (0,0,e0S,e0S))).toArray,.bool (A0N id pl).isSome])))
  (hx:Has L (U4 W8 4 S pl) L1:=by repeat first|with_reducible exact U9|apply V1):FW prog 149 #[.slice S.a S.len S.cap,.int .i64 id] L Q:=by
 refine fun h hs=>B2F S id h Q ((?_:W (U4 W8 4 S pl::L1) _ _) h (hx.s hs))
 clear hs h hx
 delta B5e az bn g8 ie ix ki nw pu sn ve vi wi
 refine Y0 fun x1=>?_
 refine Y2 (X1 (enc:=W8) (size:=4) (s:=S) (xs:=pl)) fun hl=>?_
 refine W.loop (γ:=Nat) (fun g s=>s.1=(g:Int)∧g≤pl.length∧A0N id (pl.take g)=none) (fun g s=>cells x1 zS8::U4 W8 4 S pl::L1) (fun g=>pl.length-g) 0 ⟨rfl,C9 _,rfl⟩ Sub.rfl ?_
 rintro i s ⟨hi,ck,hf⟩ K k1 k2
 by_cases ah:i<pl.length
 ·refine X7 (by rw[hi,hl];exact decide_eq_true (by omega)) ?_
  have aQ:pl[i]? =some pl[i]:=B0 ah
  have aV:pl.take (i+1)=pl.take i++[pl[i]]:=C3 ah
  have eJ:pl=pl.take i++pl[i]::pl.drop (i+1):=by rw[←D9 ah,J2]
  generalize pl[i]=u at aQ aV eJ
  refine e8 (enc:=W8) (xs:=pl) (i:=i) ah (fun a ha=>?_) (he:=hi)
  refine A3Q (k:=0) (x:=u) (v:=u.1) ha aQ ?_
  by_cases hu:u.1=id
  ·refine X7 (by simpa using hu) ?_
   refine e8 (enc:=W8) (xs:=pl) (i:=i) ah (fun a ha=>?_) (he:=hi)
   refine B3e (x:=u) (v:=prU u) ha aQ ?_
   refine A0a (b:=x1) ?_
   refine q8 (b:=x1) (v:=prU u) ?_
   refine U1 (k2 _ _ (W.inr (U1 ?_)))
   have tI:A0N id pl=some u:=by
    rw[eJ];unfold A0N at hf⊢
    rw[N8,hf,Option.none_or,R3 (by simpa using hu)]
   rw[tI] at hq
   exact hq.sub
  ·refine W6 (by simpa using hu) ?_
   have f1:IntKind.wrap .i64 (s.1+1)=((i+1:Nat):Int):=by rw[hi,V5 (by omega) (by omega)];rfl
   have f2:A0N id (pl.take (i+1))=none:=by
    rw[aV];unfold A0N at hf⊢
    rw[N8,hf,Option.none_or,List.find?_cons_of_neg (by simpa using hu)];rfl
   have hn:=k1 (i+1) (IntKind.wrap .i64 (s.1+1),()) (by omega) ⟨f1,ah,f2⟩
   exact U1 hn.sub
 ·refine W6 (by rw[hi,hl];exact decide_eq_false (by omega)) (U1 (k2 _ _ (W.inl ?_)))
  have eh:i=pl.length:=by omega
  subst eh
  rw[F5] at hf
  rw[hf] at hq
  refine A0a (b:=x1) ?_
  refine q8 (b:=x1) (v:=prU (0,0,e0S,e0S)) ?_
  exact U1 hq.sub
end
section
open Go.H Go.Proofs
variable {h h0:Heap} {L L' L1 L2 L3 L4 R:List Asn} {Q:Value→Heap→Prop}
abbrev y9(x:Y3):C9w:=[.int .i64 x.c,.int .i64 x.aD,.bool x.bE,.string x.aX.1,.string x.aX.2.1,.int .i64 x.aX.2.2.1,.bool x.aX.2.2.2.1,.string x.aX.2.2.2.2]
instance:Enc y9 8:=⟨fun _=>rfl,fun x v hv=>by
 have:(y9 x).all (fun v=>v.oneCell')=true:=rfl
 exact I8.1 this v hv,by decide⟩
abbrev rcU(x:Y3):Int×Int×Bool×B3O×B3O×Int×Bool×B3O×Unit:=(x.c,x.aD,x.bE,x.aX.1,x.aX.2.1,x.aX.2.2.1,x.aX.2.2.2.1,x.aX.2.2.2.2,())
structure A8V(O:Slc→List j5→Asn):Prop where
 app:∀{β:Type} {s:Slc} {os:List j5} {o:j5} {c p:Slc} {elem:TypeId} {b:Nat} {cs:C9v} {zero:C9v} {f:Slc→HM β} {Q':β→Heap→Prop} {L L1 L2 L3:List Asn},
  (∀s',W (O s' (os++[o])::L3) (f s') Q')→(os.length+1)*344≤140737488355328→Has L (O s os) L1→Has L1 (pkB .i64 (c,p,o.pk)) L2→Has L2 (cells b cs) L3→cs=(A0o .i64 (o.conn,pkT o.pk c p,o.close)).toArray→zero.size=28→
  W L (HM.bind (HM.append elem 28 344 zero s 1 (V6 28 ⟨some ⟨b,0,none⟩,1,1⟩)) f) Q'
theorem A31:A8V (V8 .i64):=⟨fun hw hb hx hy hc he hz=>C8e hw hb hx hy hc he hz (by decide)⟩
def A8x(i:Nat)(c p:Slc)(pk:PkO)(s:Slc)(os:List j5):Asn:=exA fun T:List (Slc×Slc×j5)=>star (pr (T.map (·.2.2)=os∧∃x,T[i]? =some (c,p,x)∧x.pk=pk)) (star (U4 (A0o .i64) 28 s (T.map ouF)) (a7 (ouB .i64) (T.eraseIdx i)))
theorem A8Z{i:Nat}{c p s:Slc}{pk:PkO}{os:List j5}:sat h (A8x i c p pk s os::R)↔∃T:List (Slc×Slc×j5),(T.map (·.2.2)=os∧∃x,T[i]? =some (c,p,x)∧x.pk=pk)∧sat h (U4 (A0o .i64) 28 s (T.map ouF)::a7 (ouB .i64) (T.eraseIdx i)::R):=by
 unfold A8x
 rw[sat.bA]
 simp only[sat.aI,sat.bC]
theorem C1r{i:Nat}{c p s:Slc}{pk:PkO}{os:List j5}:∀h,sat h (A8x i c p pk s os::pkB .i64 (c,p,pk)::R)→sat h (V8 .i64 s os::R):=fun h hs=>by
 obtain⟨T,⟨rfl,x,hx,rfl⟩,h1⟩:=A8Z.1 hs
 refine A1S.2 ⟨T,rfl,?_⟩
 have ah:i<T.length:=(D8.1 hx).1
 have pD:T[i]=(c,p,x):=(D8.1 hx).2
 have eJ:=B0P ah
 rw[pD] at eJ
 rw[List.eraseIdx_eq_take_drop_succ] at h1
 have h2:sat h (a7 (ouB .i64) (T.take i++(c,p,x)::T.drop (i+1))::U4 (A0o .i64) 28 s (T.map ouF)::R):=j2.2 (h1.re [2,1,0])
 rw[←eJ] at h2
 exact h2.re [1,0]
theorem C7v{i:Nat}{c p:Slc}{pk:PkO}:A8V (A8x i c p pk):=⟨fun{β s os o c' p' elem b cs zero f Q' L L1 L2 L3} hw hb hx hy hc he hz h hs=>by
 obtain⟨X,⟨rfl,x,gv,lv⟩,h1⟩:=A8Z.1 ((hx.cV hy hc).s hs)
 have ah:i<X.length:=(D8.1 gv).1
 have hlen:(X.map ouF).length=(X.map (·.2.2)).length:=by simp
 refine A9E (L:=U4 (A0o .i64) 28 s (X.map ouF)::cells b cs::a7 (ouB .i64) (X.eraseIdx i)::pkB .i64 (c',p',o.pk)::L3) (xs:=X.map ouF) (enc:=A0o .i64) ((o.conn,pkT o.pk c' p',o.close):OuT) (fun s'=>?_) (by rw[hlen];exact hb) U9 U9 he hz (by decide) h (h1.re [0,3,1,2])
 intro h' af
 refine hw s' h' (A8Z.2 ⟨X++[(c',p',o)],⟨by simp,x,by rw[List.getElem?_append_left ah];exact gv,lv⟩,?_⟩)
 rw[B8,List.eraseIdx_append_of_lt_length ah]
 exact(A5e.2 (((A3O (f:=ouB .i64) (x:=(c',p',o))).2 (af.re [2,0,1])).re [2,0,1])).p1⟩
theorem C9n{β:Type}{s:Slc}{os:List j5}{o:j5}{c p:Slc}{elem:TypeId}{b:Nat}{cs:C9v}{zero:C9v}{f:Slc→HM β}{Q':β→Heap→Prop}
  (hw:∀s',W (A8x os.length c p o.pk s' (os++[o])::L3) (f s') Q')(hb:(os.length+1)*344≤140737488355328)(hx:Has L (V8 .i64 s os) L1:=by repeat first|with_reducible exact U9|apply V1)(hc:Has L1 (cells b cs) L3:=by repeat first|with_reducible exact U9|apply V1)
  (he:cs=(A0o .i64 (o.conn,pkT o.pk c p,o.close)).toArray:=by rfl)(hz:zero.size=28:=by rfl):
  W L (HM.bind (HM.append elem 28 344 zero s 1 (V6 28 ⟨some ⟨b,0,none⟩,1,1⟩)) f) Q':=fun h hs=>by
 obtain⟨X,rfl,h1⟩:=A1S.1 ((hx.then hc).s hs)
 have hlen:(X.map ouF).length=(X.map (·.2.2)).length:=by simp
 refine A9E (L:=U4 (A0o .i64) 28 s (X.map ouF)::cells b cs::a7 (ouB .i64) X::L3) (xs:=X.map ouF) (enc:=A0o .i64) ((o.conn,pkT o.pk c p,o.close):OuT) (fun s'=>?_) (by rw[hlen];exact hb) U9 U9 he hz (by decide) h (h1.re [0,2,1])
 intro h' af
 have hl:(X.map (·.2.2)).length=X.length:=B9 ..
 refine hw s' h' (A8Z.2 ⟨X++[(c,p,o)],⟨by simp,o,by rw[hl];simp,rfl⟩,?_⟩)
 rw[B8,hl,List.eraseIdx_append_of_length_le (D6 _)]
 simpa using af
structure RbP where
 tb:Nat
 sb:Nat
 kb:Nat
 sc:Slc
 so:Slc
 sp:Slc
abbrev rbC(p:RbP)(full:Bool):C9v:=#[at0 p.tb,at9 p.sb,B1m p.kb,.slice p.sc.a p.sc.len p.sc.cap,.bool full,.slice p.so.a p.so.len p.so.cap,.slice p.sp.a p.sp.len p.sp.cap]
abbrev B4w:=Nat→Int→List V7→Asn
abbrev B1j(r:Nat)(full:Bool)(X:B4w)(O:Slc→List j5→Asn)(T:U7)(p:RbP)(R:List Asn):List Asn:=cells r (rbC p full)::O p.so T.outs::U4 Z4 5 p.sp T.aT::U4 y9 8 p.sc T.b.aB::X p.tb T.b.last T.b.aD::A0y p.sb T.b.aH::A1L p.kb 64 T.b.kept::R
abbrev rbL(r:Nat)(full:Bool)(O:Slc→List j5→Asn)(T:U7)(p:RbP)(R:List Asn):List Asn:=cells r (rbC p full)::O p.so T.outs::U4 Z4 5 p.sp T.aT::U4 y9 8 p.sc T.b.aB::A0m p.tb T.b.last T.b.aD::A0y p.sb T.b.aH::A1L p.kb 64 T.b.kept::R
def rbX(r:Nat)(full:Bool)(X:B4w)(O:Slc→List j5→Asn)(T:U7):Asn:=exA fun p:RbP=>A0L [cells r (rbC p full),O p.so T.outs,U4 Z4 5 p.sp T.aT,U4 y9 8 p.sc T.b.aB,X p.tb T.b.last T.b.aD,A0y p.sb T.b.aH,A1L p.kb 64 T.b.kept]
abbrev rbA(r:Nat)(full:Bool)(O:Slc→List j5→Asn)(T:U7):Asn:=rbX r full A0m O T
theorem A0r{r:Nat}{full:Bool}{X:B4w}{O:Slc→List j5→Asn}{T:U7}:sat h (rbX r full X O T::R)↔∃p:RbP,sat h (B1j r full X O T p R):=by
 unfold rbX
 rw[sat.bA]
 simp only[sat.bV]
 rfl
theorem A0G{r:Nat}{full:Bool}{O:Slc→List j5→Asn}{T:U7}:sat h (rbA r full O T::R)↔∃p:RbP,sat h (rbL r full O T p R):=A0r
theorem W.dX{α:Type}{m:HM α}{Q':α→Heap→Prop}{r:Nat}{full:Bool}{X:B4w}{O:Slc→List j5→Asn}{M1 M2 M3 M4 M5 M6 M7:List Asn}(T:U7)(p:RbP)(hw:W (rbX r full X O T::M7) m Q')
  (h1:Has L (cells r (rbC p full)) M1:=by repeat first|with_reducible exact U9|apply V1)(h2:Has M1 (O p.so T.outs) M2:=by repeat first|with_reducible exact U9|apply V1)(h3:Has M2 (U4 Z4 5 p.sp T.aT) M3:=by repeat first|with_reducible exact U9|apply V1)(h4:Has M3 (U4 y9 8 p.sc T.b.aB) M4:=by repeat first|with_reducible exact U9|apply V1)(h5:Has M4 (X p.tb T.b.last T.b.aD) M5:=by repeat first|with_reducible exact U9|apply V1)(h6:Has M5 (A0y p.sb T.b.aH) M6:=by repeat first|with_reducible exact U9|apply V1)(h7:Has M6 (A1L p.kb 64 T.b.kept) M7:=by repeat first|with_reducible exact U9|apply V1):W L m Q':=fun h hs=>
 hw h (A0r.2 ⟨p,(Sub.cons h1 (Sub.cons h2 (Sub.cons h3 (Sub.cons h4 (Sub.cons h5 (Sub.cons h6 (Sub.cons h7 Sub.rfl))))))).s hs⟩)
theorem W.rb{α:Type}{m:HM α}{Q':α→Heap→Prop}{r:Nat}{full:Bool}{O:Slc→List j5→Asn}{M1 M2 M3 M4 M5 M6 M7:List Asn}(T:U7)(p:RbP)(hw:W (rbA r full O T::M7) m Q')
  (h1:Has L (cells r (rbC p full)) M1:=by repeat first|with_reducible exact U9|apply V1)(h2:Has M1 (O p.so T.outs) M2:=by repeat first|with_reducible exact U9|apply V1)(h3:Has M2 (U4 Z4 5 p.sp T.aT) M3:=by repeat first|with_reducible exact U9|apply V1)(h4:Has M3 (U4 y9 8 p.sc T.b.aB) M4:=by repeat first|with_reducible exact U9|apply V1)(h5:Has M4 (A0m p.tb T.b.last T.b.aD) M5:=by repeat first|with_reducible exact U9|apply V1)(h6:Has M5 (A0y p.sb T.b.aH) M6:=by repeat first|with_reducible exact U9|apply V1)(h7:Has M6 (A1L p.kb 64 T.b.kept) M7:=by repeat first|with_reducible exact U9|apply V1):W L m Q':=fun h hs=>
 hw h (A0r.2 ⟨p,(Sub.cons h1 (Sub.cons h2 (Sub.cons h3 (Sub.cons h4 (Sub.cons h5 (Sub.cons h6 (Sub.cons h7 Sub.rfl))))))).s hs⟩)
theorem At.dX{q:Heap→Prop}{r:Nat}{full:Bool}{X:B4w}{O:Slc→List j5→Asn}{M1 M2 M3 M4 M5 M6 M7:List Asn}(T:U7)(p:RbP)(hw:At (rbX r full X O T::M7) q)
  (h1:Has L (cells r (rbC p full)) M1:=by repeat first|with_reducible exact U9|apply V1)(h2:Has M1 (O p.so T.outs) M2:=by repeat first|with_reducible exact U9|apply V1)(h3:Has M2 (U4 Z4 5 p.sp T.aT) M3:=by repeat first|with_reducible exact U9|apply V1)(h4:Has M3 (U4 y9 8 p.sc T.b.aB) M4:=by repeat first|with_reducible exact U9|apply V1)(h5:Has M4 (X p.tb T.b.last T.b.aD) M5:=by repeat first|with_reducible exact U9|apply V1)(h6:Has M5 (A0y p.sb T.b.aH) M6:=by repeat first|with_reducible exact U9|apply V1)(h7:Has M6 (A1L p.kb 64 T.b.kept) M7:=by repeat first|with_reducible exact U9|apply V1):At L q:=fun h hs=>
 hw h (A0r.2 ⟨p,(Sub.cons h1 (Sub.cons h2 (Sub.cons h3 (Sub.cons h4 (Sub.cons h5 (Sub.cons h6 (Sub.cons h7 Sub.rfl))))))).s hs⟩)
theorem At.rb{q:Heap→Prop}{r:Nat}{full:Bool}{O:Slc→List j5→Asn}{M1 M2 M3 M4 M5 M6 M7:List Asn}(T:U7)(p:RbP)(hw:At (rbA r full O T::M7) q)
  (h1:Has L (cells r (rbC p full)) M1:=by repeat first|with_reducible exact U9|apply V1)(h2:Has M1 (O p.so T.outs) M2:=by repeat first|with_reducible exact U9|apply V1)(h3:Has M2 (U4 Z4 5 p.sp T.aT) M3:=by repeat first|with_reducible exact U9|apply V1)(h4:Has M3 (U4 y9 8 p.sc T.b.aB) M4:=by repeat first|with_reducible exact U9|apply V1)(h5:Has M4 (A0m p.tb T.b.last T.b.aD) M5:=by repeat first|with_reducible exact U9|apply V1)(h6:Has M5 (A0y p.sb T.b.aH) M6:=by repeat first|with_reducible exact U9|apply V1)(h7:Has M6 (A1L p.kb 64 T.b.kept) M7:=by repeat first|with_reducible exact U9|apply V1):At L q:=fun h hs=>
 hw h (A0r.2 ⟨p,(Sub.cons h1 (Sub.cons h2 (Sub.cons h3 (Sub.cons h4 (Sub.cons h5 (Sub.cons h6 (Sub.cons h7 Sub.rfl))))))).s hs⟩)
theorem B4x{r:Nat}{full:Bool}{X:B4w}{O:Slc→List j5→Asn}{T:U7}{c:Int}{o:PkO}{ci pi:Slc}(hO:A8V O)(hb:T.outs.length≤100000000)(hq:At (rbX r full X O (A0t ⟨c,o,false⟩ T)::L2) (Q (.tuple #[])))
  (hx:Has L (rbX r full X O T) L1:=by repeat first|with_reducible exact U9|apply V1)(hy:Has L1 (pkB .i64 (ci,pi,o)) L2:=by repeat first|with_reducible exact U9|apply V1):FW prog 146 #[at0 r,.int .i64 c,A2p .i64 (pkT o ci pi)] L Q:=by
 refine fun h hs=>A6w (some ⟨r,0,none⟩) c (pkT o ci pi) h Q ((?_:W (rbX r full X O T::pkB .i64 (ci,pi,o)::L2) _ _) h ((hx.then hy).s hs))
 clear hs h hx hy
 have dw:(T.outs.length+1)*344≤140737488355328:=by omega
 delta B0g az bn g2 kc nn nw pu rq sx ve vi vs vz w10 w11 w12 w13 w14 w15 w16 w17 w18 w19 w20 w21 w22 w23 w24 w25 w5 w6 w7 w8 w9
 refine Y0 fun x1=>?_
 refine W3 ?_
 refine A2b (g:=fun p R=>B1j r full X O T p R) (fun h R=>A0r.1) fun p=>?_
 refine i7 (b:=r) (i:=5) (v:=p.so) ?_
 refine q8 (b:=x1) (v:=pkT o ci pi) ?_
 refine Y0 fun x5=>?_
 refine i7 (b:=r) (i:=5) (v:=p.so) ?_
 refine A06 ?_ rfl
 refine hO.app (s:=p.so) (os:=T.outs) (o:=⟨c,o,false⟩) (c:=ci) (p:=pi) (b:=x5) (fun s'=>?_) dw (by repeat first|with_reducible exact U9|apply V1) (by repeat first|with_reducible exact U9|apply V1) (by repeat first|with_reducible exact U9|apply V1) (by rfl) (by rfl)
 refine W3 ?_
 refine A4e (b:=r) (i:=5) (cs':=rbC ⟨p.tb,p.sb,p.kb,p.sc,s',p.sp⟩ full) ?_
 refine W.dX (X:=X) (O:=O) (A0t ⟨c,o,false⟩ T) ⟨p.tb,p.sb,p.kb,p.sc,s',p.sp⟩ ?_
 exact U1 hq.sub
theorem B8q{r:Nat}{full:Bool}{X:B4w}{O:Slc→List j5→Asn}{T:U7}{c:Int}{o:PkO}{ci pi:Slc}(hO:A8V O)(hb:T.outs.length≤100000000)(hq:At (rbX r full X O (A0t ⟨c,o,true⟩ T)::L2) (Q (.tuple #[])))
  (hx:Has L (rbX r full X O T) L1:=by repeat first|with_reducible exact U9|apply V1)(hy:Has L1 (pkB .i64 (ci,pi,o)) L2:=by repeat first|with_reducible exact U9|apply V1):FW prog 93 #[at0 r,.int .i64 c,A2p .i64 (pkT o ci pi)] L Q:=by
 refine fun h hs=>B2q (some ⟨r,0,none⟩) c (pkT o ci pi) h Q ((?_:W (rbX r full X O T::pkB .i64 (ci,pi,o)::L2) _ _) h ((hx.then hy).s hs))
 clear hs h hx hy
 have dw:(T.outs.length+1)*344≤140737488355328:=by omega
 delta B4Z az bn g2 kc nn nw pu rq sx ve vi vs vz w10 w11 w12 w13 w14 w15 w16 w17 w18 w19 w20 w21 w22 w23 w24 w25 w5 w6 w7 w8 w9
 refine Y0 fun x1=>?_
 refine W3 ?_
 refine A2b (g:=fun p R=>B1j r full X O T p R) (fun h R=>A0r.1) fun p=>?_
 refine i7 (b:=r) (i:=5) (v:=p.so) ?_
 refine q8 (b:=x1) (v:=pkT o ci pi) ?_
 refine Y0 fun x5=>?_
 refine i7 (b:=r) (i:=5) (v:=p.so) ?_
 refine A06 ?_ rfl
 refine hO.app (s:=p.so) (os:=T.outs) (o:=⟨c,o,true⟩) (c:=ci) (p:=pi) (b:=x5) (fun s'=>?_) dw (by repeat first|with_reducible exact U9|apply V1) (by repeat first|with_reducible exact U9|apply V1) (by repeat first|with_reducible exact U9|apply V1) (by rfl) (by rfl)
 refine W3 ?_
 refine A4e (b:=r) (i:=5) (cs':=rbC ⟨p.tb,p.sb,p.kb,p.sc,s',p.sp⟩ full) ?_
 refine W.dX (X:=X) (O:=O) (A0t ⟨c,o,true⟩ T) ⟨p.tb,p.sb,p.kb,p.sc,s',p.sp⟩ ?_
 exact U1 hq.sub
theorem C4P{r:Nat}{full:Bool}{X:B4w}{T:U7}{c:Int}{o:PkO}{ci pi:Slc}(hb:T.outs.length≤100000000)(hq:At (rbX r full X (A8x T.outs.length ci pi o) (A0t ⟨c,o,false⟩ T)::L1) (Q (.tuple #[])))
  (hx:Has L (rbX r full X (V8 .i64) T) L1:=by repeat first|with_reducible exact U9|apply V1):FW prog 146 #[at0 r,.int .i64 c,A2p .i64 (pkT o ci pi)] L Q:=by
 refine fun h hs=>A6w (some ⟨r,0,none⟩) c (pkT o ci pi) h Q ((?_:W (rbX r full X (V8 .i64) T::L1) _ _) h (hx.s hs))
 clear hs h hx
 have dw:(T.outs.length+1)*344≤140737488355328:=by omega
 delta B0g az bn g2 kc nn nw pu rq sx ve vi vs vz w10 w11 w12 w13 w14 w15 w16 w17 w18 w19 w20 w21 w22 w23 w24 w25 w5 w6 w7 w8 w9
 refine Y0 fun x1=>?_
 refine W3 ?_
 refine A2b (g:=fun p R=>B1j r full X (V8 .i64) T p R) (fun h R=>A0r.1) fun p=>?_
 refine i7 (b:=r) (i:=5) (v:=p.so) ?_
 refine q8 (b:=x1) (v:=pkT o ci pi) ?_
 refine Y0 fun x5=>?_
 refine i7 (b:=r) (i:=5) (v:=p.so) ?_
 refine A06 ?_ rfl
 refine C9n (s:=p.so) (os:=T.outs) (o:=⟨c,o,false⟩) (c:=ci) (p:=pi) (b:=x5) (fun s'=>?_) dw
 refine W3 ?_
 refine A4e (b:=r) (i:=5) (cs':=rbC ⟨p.tb,p.sb,p.kb,p.sc,s',p.sp⟩ full) ?_
 refine W.dX (X:=X) (O:=A8x T.outs.length ci pi o) (A0t ⟨c,o,false⟩ T) ⟨p.tb,p.sb,p.kb,p.sc,s',p.sp⟩ ?_
 exact U1 hq.sub
end
section
open Go.H Go.Proofs
variable {h h0:Heap} {L L' L1 L2 L3 L4 R:List Asn} {Q:Value→Heap→Prop}
theorem C2D{a b:Int}(hq:At L (Q (.int .i64 (min a b)))):FW prog 138 #[.int .i64 a,.int .i64 b] L Q:=by
 refine fun h hs=>B2r a b h Q ((?_:W L _ _) h hs)
 clear hs h
 delta B40 ie pu
 refine A0e (fun g=>U1 ?_) (fun g=>U1 ?_)
 ·have g:a<b:=by simpa using g
  rw[show min a b=a from by omega] at hq
  exact hq
 ·have g:¬a<b:=by simpa using g
  rw[show min a b=b from by omega] at hq
  exact hq
def atC(c:Int)(l:List Y3):Option Nat:=l.findIdx? fun x=>decide (x.c=c)
theorem B16{c:Int}{l:List Y3}:atC c l=none↔A04 c l=none:=by
 unfold atC A04
 rw[O1,E3]
 simp
theorem C0M{c:Int}{l:List Y3}{i:Nat}(h:atC c l=some i):∃x,l[i]? =some x∧A04 c l=some x∧x.c=c:=by
 obtain⟨ah,hp,hb⟩:=J0.1 h
 refine⟨l[i],B0 ah,?_,by simpa using hp⟩
 unfold A04
 rw[List.find?_eq_some_iff_getElem]
 exact⟨hp,i,ah,rfl,fun j hj=>by simpa using hb j hj⟩
theorem B5h{r:Nat}{full:Bool}{X:B4w}{O:Slc→List j5→Asn}{T:U7}{c:Int}(ba:T.b.aB.length≤1000000)(hq:At (rbX r full X O T::L1) (Q (.int .i64 (match atC c T.b.aB with|some i=>(i:Int)|none=> -1))))(hx:Has L (rbX r full X O T) L1:=by repeat first|with_reducible exact U9|apply V1):
  FW prog 89 #[at0 r,.int .i64 c] L Q:=by
 refine fun h hs=>B2s (some ⟨r,0,none⟩) c h Q ((?_:W (rbX r full X O T::L1) _ _) h (hx.s hs))
 clear hs h hx
 delta B41 bn ie ix kc ki nn pu wi
 refine A2b (g:=fun p R=>B1j r full X O T p R) (fun h R=>A0r.1) fun p=>?_
 refine Y2 (X1 (enc:=y9) (size:=8) (s:=p.sc) (xs:=T.b.aB)) fun hl=>?_
 refine W.loop (γ:=Nat) (fun g s=>s.1=(g:Int)∧g≤T.b.aB.length∧∀j (hj:j<T.b.aB.length),j<g→T.b.aB[j].c≠c) (fun g s=>B1j r full X O T p L1) (fun g=>T.b.aB.length-g) 0 ⟨rfl,C9 _,fun j _ hj=>absurd hj (Nat.not_lt_zero j)⟩ Sub.rfl ?_
 rintro i s ⟨hi,ck,hn⟩ K k1 k2
 refine W3 ?_
 refine i7 (b:=r) (i:=3) (v:=p.sc) ?_
 by_cases ah:i<T.b.aB.length
 ·refine X7 (by rw[hi,hl];exact decide_eq_true (by omega)) ?_
  have aQ:T.b.aB[i]? =some T.b.aB[i]:=B0 ah
  refine W3 ?_
  refine i7 (b:=r) (i:=3) (v:=p.sc) ?_
  refine e8 (enc:=y9) (xs:=T.b.aB) (i:=i) ah (fun a ha=>?_) (he:=hi)
  refine A3Q (k:=0) (x:=T.b.aB[i]) (v:=T.b.aB[i].c) ha aQ ?_
  by_cases hc:T.b.aB[i].c=c
  ·refine X7 (by simpa using hc) (U1 (k2 _ _ (W.inr (U1 ?_))))
   have e:atC c T.b.aB=some i:=J0.2 ⟨ah,by simpa using hc,fun j hj=>by simpa using hn j (by omega) hj⟩
   rw[e] at hq
   refine At.dX (X:=X) (O:=O) T p ?_
   rw[hi]
   exact hq.sub
  ·refine W6 (by simpa using hc) ?_
   have gT:=k1 (i+1) (IntKind.wrap .i64 (s.1+1),()) (by omega) ⟨by simp only[hi];rw[V5 (by omega) (by omega)];rfl,ah,fun j hj xg=>by
    rcases Nat.lt_succ_iff_lt_or_eq.1 xg with h|h
    ·exact hn j hj h
    ·subst h;exact hc⟩
   exact U1 gT.sub
 ·refine W6 (by rw[hi,hl];exact decide_eq_false (by omega)) (U1 (k2 _ _ (W.inl (U1 ?_))))
  have e:atC c T.b.aB=none:=B16.2 (E3.2 fun x hx=>by
   obtain⟨j,hj,rfl⟩:=List.getElem_of_mem hx
   simpa using hn j hj (by omega))
  rw[e] at hq
  refine At.dX (X:=X) (O:=O) T p ?_
  exact hq.sub
theorem B1i{r:Nat}{full full0:Bool}{T:U7}(hq:At (rbA r full (V8 .i64) ⟨T.b,[],[]⟩::L1) (Q (.tuple #[])))(hx:Has L (rbA r full0 (V8 .i64) T) L1:=by repeat first|with_reducible exact U9|apply V1):
  FW prog 86 #[at0 r,.bool full] L Q:=by
 refine fun h hs=>B00 (some ⟨r,0,none⟩) full h Q ((?_:W (rbA r full0 (V8 .i64) T::L1) _ _) h (hx.s hs))
 clear hs h hx
 delta B3r nn pu sx vz
 refine A2b (g:=fun p R=>rbL r full0 (V8 .i64) T p R) (fun h R=>A0G.1) fun p=>?_
 refine W3 ?_
 refine A4e (b:=r) (i:=4) (cs':=rbC p full) ?_
 refine W3 ?_
 refine A4e (b:=r) (i:=5) (cs':=rbC ⟨p.tb,p.sb,p.kb,p.sc,⟨none,0,0⟩,p.sp⟩ full) ?_
 refine W3 ?_
 refine A4e (b:=r) (i:=6) (cs':=rbC ⟨p.tb,p.sb,p.kb,p.sc,⟨none,0,0⟩,⟨none,0,0⟩⟩ full) ?_
 refine A3p Z4 5 ?_
 refine W.sub (L':=cells r (rbC ⟨p.tb,p.sb,p.kb,p.sc,⟨none,0,0⟩,⟨none,0,0⟩⟩ full)::U4 Z4 5 ⟨none,0,0⟩ []::U4 y9 8 p.sc T.b.aB::A0m p.tb T.b.last T.b.aD::A0y p.sb T.b.aH::A1L p.kb 64 T.b.kept::L1) ?_
 refine U1 (fun h hs=>?_)
 have h1:=B1q (k:=.i64) hs
 exact hq h (A0G.2 ⟨⟨p.tb,p.sb,p.kb,p.sc,⟨none,0,0⟩,⟨none,0,0⟩⟩,h1.re [1,0,2,3,4,5,6]⟩)
theorem C04{l:List Y3}{x:Y3}{id:Int}{ps:List PkO}:A1w (l++[x]) id ps=A1w l id ps++(if x.aD=id then ps.map fun p=>⟨x.c,p,false⟩ else[]):=by
 unfold A1w
 rw[E9,I5]
 by_cases e:x.aD=id
 ·rw[if_pos e,G6 (by simpa using e)];simp
 ·rw[if_neg e,F8 (by simpa using e)];simp
abbrev toC(c:Int)(z:Slc×Slc×PkO):j5:=⟨c,z.2.2,false⟩
theorem A4Y{r:Nat}{full:Bool}{X:B4w}{O:Slc→List j5→Asn}{T:U7}{id:Int}{S:Slc}{ps:List PkO}(hO:A8V O)(hu:(T.b.aB.filter fun x=>decide (x.aD=id)).length≤1)(hb:T.outs.length+ps.length≤100000000)(ba:T.b.aB.length≤1000000)
  (hq:At (rbX r full X O (q7 id ps T)::L2) (Q (.tuple #[])))(hx:Has L (rbX r full X O T) L1:=by repeat first|with_reducible exact U9|apply V1)(hy:Has L1 (o6 .i64 S ps) L2:=by repeat first|with_reducible exact U9|apply V1):
  FW prog 140 #[at0 r,.int .i64 id,.slice S.a S.len S.cap] L Q:=by
 refine fun h hs=>A9l (some ⟨r,0,none⟩) id S h Q ((?_:W (rbX r full X O T::o6 .i64 S ps::L2) _ _) h ((hx.then hy).s hs))
 clear hs h hx hy
 delta A9I bn cx g2 ie ix kc ki nn pu vi wi
 refine W.loop (γ:=Nat) (fun g s=>s.1=(g:Int)∧g≤T.b.aB.length) (fun g s=>rbX r full X O ⟨T.b,T.outs++A1w (T.b.aB.take g) id ps,T.aT⟩::C4T ((T.b.aB.take g).filter fun x=>decide (x.aD=id)).isEmpty (o6 .i64 S ps) L2) (fun g=>T.b.aB.length-g) 0 ⟨rfl,C9 _⟩ ?_ ?_
 ·have e:(⟨T.b,T.outs++A1w (T.b.aB.take 0) id ps,T.aT⟩:U7)=T:=by
   rw[List.take_zero]
   show U7.mk T.b (T.outs++[]) T.aT=T
   rw[C1]
  rw[e]
  show Sub _ (rbX r full X O T::o6 .i64 S ps::L2)
  repeat(first|with_reducible exact T5|with_reducible exact T6|refine T7 (by repeat first|with_reducible exact U9|apply V1) ?_|refine T8 ?_)
 rintro i s ⟨hi,ck⟩ K k1 k2
 refine W3 ?_
 refine A2b (g:=fun p R=>B1j r full X O ⟨T.b,T.outs++A1w (T.b.aB.take i) id ps,T.aT⟩ p R) (fun h R=>A0r.1) fun p=>?_
 refine Y2 (X1 (enc:=y9) (size:=8) (s:=p.sc) (xs:=T.b.aB)) fun hl=>?_
 refine i7 (b:=r) (i:=3) (v:=p.sc) ?_
 by_cases ah:i<T.b.aB.length
 ·refine X7 (by rw[hi,hl];exact decide_eq_true (by omega)) ?_
  have aQ:T.b.aB[i]? =some T.b.aB[i]:=B0 ah
  have aV:T.b.aB.take (i+1)=T.b.aB.take i++[T.b.aB[i]]:=C3 ah
  have eJ:=B0P ah
  have hn:=k1 (i+1) (IntKind.wrap .i64 (s.1+1),()) (by omega) ⟨by simp only[hi];rw[V5 (by omega) (by omega)];rfl,ah⟩
  rw[aV,C04,E9] at hn
  clear k1 k2
  refine X2 (W3 ?_)
  refine X2 (i7 (b:=r) (i:=3) (v:=p.sc) ?_)
  refine X2 (e8 (enc:=y9) (xs:=T.b.aB) (i:=i) ah (fun a ha=>?_) (he:=hi))
  refine X2 (A3Q (k:=1) (x:=T.b.aB[i]) (v:=T.b.aB[i].aD) ha aQ ?_)
  by_cases dT:T.b.aB[i].aD=id
  ·have dj:(T.b.aB.take i).filter (fun x=>decide (x.aD=id))=[]:=by
    rw[eJ,E9,G6 (by simpa using dT),B4,B7] at hu
    exact J9.1 (by omega)
   have e0:A1w (T.b.aB.take i) id ps=[]:=by unfold A1w;rw[dj];rfl
   rw[if_pos dT,e0,F2,dj,F2,G6 (by simpa using dT)] at hn
   refine l7 (by simp[dT]) ?_
   rw[dj,e0]
   refine W.dX (X:=X) (O:=O) ⟨T.b,T.outs++[],T.aT⟩ p ?_
   refine B68 (fun h R=>A7a.1) (fun PT ud=>?_) (hx:=(by repeat first|with_reducible exact U9|apply V1:Has (rbX r full X O ⟨T.b,T.outs++[],T.aT⟩::o6 .i64 S ps::L2) _ _))
   subst ud
   refine Y2 (X1 (enc:=W7 .i64) (size:=26) (s:=S) (xs:=PT.map pkF)) fun fg=>?_
   rw[B9] at fg hb
   refine X2 (B2a PT.length (fun k s=>s.1=(k:Int)) (fun k _=>rbX r full X O ⟨T.b,T.outs++(PT.take k).map (toC T.b.aB[i].c),T.aT⟩::U4 (W7 .i64) 26 S (PT.map pkF)::a7 (pkB .i64) (PT.drop k)::L2) rfl ?_ (fun k s hk hI=>by rw[hI,fg];exact F9.2 (by omega)) (fun s2 hI K2 iq=>?_) (fun k s2 bB hI K2 jG iq=>?_))
   ·show Sub _ (rbX r full X O ⟨T.b,T.outs++[],T.aT⟩::U4 (W7 .i64) 26 S (PT.map pkF)::a7 (pkB .i64) PT::L2)
    repeat(first|with_reducible exact T5|with_reducible exact T6|refine T7 (by repeat first|with_reducible exact U9|apply V1) ?_|refine T8 ?_)
   ·refine U1 (iq _ _ (b7 (U1 ?_)))
    have e4:(PT.take PT.length).map (toC T.b.aB[i].c)=(PT.map (·.2.2)).map fun p=>⟨T.b.aB[i].c,p,false⟩:=by rw[F5,F0];rfl
    rw[e4]
    refine At.sub hn ?_
    show Sub _ (_::L2)
    repeat(first|with_reducible exact T5|with_reducible exact T6|refine T7 (by repeat first|with_reducible exact U9|apply V1) ?_|refine T8 ?_)
   ·have hk:(PT.map pkF)[k]? =some (pkF PT[k]):=by simp[bB]
    refine W3 ?_
    refine A2b (g:=fun p R=>B1j r full X O ⟨T.b,T.outs++(PT.take k).map (toC T.b.aB[i].c),T.aT⟩ p R) (fun h R=>A0r.1) fun p2=>?_
    refine i7 (b:=r) (i:=3) (v:=p2.sc) ?_
    refine e8 (enc:=y9) (xs:=T.b.aB) (i:=i) ah (fun a ha=>?_) (he:=hi)
    refine A3Q (k:=0) (x:=T.b.aB[i]) (v:=T.b.aB[i].c) ha aQ ?_
    refine W.dX (X:=X) (O:=O) ⟨T.b,T.outs++(PT.take k).map (toC T.b.aB[i].c),T.aT⟩ p2 ?_
    refine e8 (enc:=W7 .i64) (xs:=PT.map pkF) (i:=k) (by simpa using bB) (fun a ha=>?_) (he:=hI)
    refine B3e (x:=pkF PT[k]) (v:=pkF PT[k]) ha hk ?_
    rw[D9 bB]
    refine C2k (fun h R=>k8.1) ?_
    refine Z1 (B4x (X:=X) (O:=O) (T:=⟨T.b,T.outs++(PT.take k).map (toC T.b.aB[i].c),T.aT⟩) (c:=T.b.aB[i].c) (o:=PT[k].2.2) (ci:=PT[k].1) (pi:=PT[k].2.1) hO (by simp only[B4,B9,E1];omega) (At.bD ?_))
    have kO:=jG (IntKind.wrap .i64 (s2.1+1),()) (by simp only[hI];rw[V5 (by omega) (by omega)];rfl)
    have e4:T.outs++(PT.take (k+1)).map (toC T.b.aB[i].c)=(T.outs++(PT.take k).map (toC T.b.aB[i].c))++[⟨T.b.aB[i].c,PT[k].2.2,false⟩]:=by
     rw[C3 bB,B8,←D4];rfl
    rw[e4] at kO
    exact U1 kO.sub
  ·rw[if_neg dT,C1,F8 (by simpa using dT),J4,C1] at hn
   refine A1d (by simpa using dT) (b7 (U1 ?_))
   refine At.dX (X:=X) (O:=O) ⟨T.b,T.outs++A1w (T.b.aB.take i) id ps,T.aT⟩ p ?_
   refine At.sub hn ?_
   repeat(first|with_reducible exact T5|with_reducible exact T6|refine T7 (by repeat first|with_reducible exact U9|apply V1) ?_|refine T8 ?_)
 ·refine W6 (by rw[hi,hl];exact decide_eq_false (by omega)) (U1 (k2 _ _ (U1 ?_)))
  rw[D2 (by omega)]
  refine At.dX (X:=X) (O:=O) (q7 id ps T) p ?_
  exact At.sub hq (Sub.cons U9 B7g)
end
section
open Go.H Go.Proofs
variable {h h0:Heap} {L L' L1 L2 L3 L4 R:List Asn} {Q:Value→Heap→Prop}
theorem C7q{b:Nat}{K:List j6}{m:j6}(hL:K.length≤64)(hsz:m.1.size≤9223372036854775800)(hq:At (A1L b 64 (B0a 64 K m).2::L1) (Q (.int .i64 (B0a 64 K m).1)))(hx:Has L (A1L b 64 K) L1:=by repeat first|with_reducible exact U9|apply V1):FW prog 136 #[B1m b,vM m] L Q:=fun h hs=>C3C (hx.s hs) hL hsz fun h' af=>hq h' af
theorem C7s{b:Nat}{K:List j6}{f:B3O}(hL:K.length≤64)(hk:∀m∈K,m.1.size≤256)(hsz:f.size≤9223372036854775800)(hq:∀S:Slc,At (U4 z6 3 S (A51 K f)::A1L b 64 K::L1) (Q (.slice S.a S.len S.cap)))(hx:Has L (A1L b 64 K) L1:=by repeat first|with_reducible exact U9|apply V1):FW prog 197 #[B1m b,.string f] L Q:=fun h hs=>C3G (hx.s hs) hL hk hsz fun S h' af=>hq S h' af
theorem C3F{b:Nat}{E:List Ent}{n:B3O}(hg:∀x∈E,x.2.1.size≤9223372036854775800)(hsz:n.size≤9223372036854775800)(hl:E.length≤10000)(hq:∀S:Slc,At (U4 Z9 3 S (E.filter fun x=>Y9 x.2.1 n)::A0y b E::L1) (Q (.slice S.a S.len S.cap)))(hx:Has L (A0y b E) L1:=by repeat first|with_reducible exact U9|apply V1):FW prog 137 #[at9 b,.string n] L Q:=fun h hs=>B8z hg hsz hl (hx.s hs) fun S h' af=>hq S h' af
theorem B9Q{b:Nat}{E:List Ent}{id:Int}(hl:E.length≤10000)(hq:At (A0y b (A1b id E)::L1) (Q (.int .i64 ((A5Z id E).length:Nat))))(hx:Has L (A0y b E) L1:=by repeat first|with_reducible exact U9|apply V1):FW prog 134 #[at9 b,.int .i64 id] L Q:=fun h hs=>C1n hl (hx.s hs) fun h' af=>hq h' af
theorem C2I{s:B3O}(hsz:s.size≤9223372036854775800)(hq:At L (Q (.int .i64 (A2t s)))):FW prog 190 #[.string s] L Q:=fun h hs=>A4i hs hsz fun h' af=>hq h' af
structure Szs(B:Z2):Prop where
 dE:B.aH.Pairwise fun a b=>a.1≤b.1
 sub:∀e∈B.aH,e.2.1.size≤9223372036854775800
 kept:∀m∈B.kept,m.1.size≤256
 k64:B.kept.length≤64
 aB:B.aB.length≤1000000
 aD:B.aD.length≤1000
 nd:(B.aB.map (·.c)).Nodup
 wl:∀x∈B.aB,x.aX.1.size≤9223372036854775800
theorem C5x{k:Int}{A:List V7}:(A4F k A).2.length≤A.length:=by
 unfold A4F
 split
 ·exact D6 _
 ·split
  ·exact D6 _
  ·split
   ·unfold X8;rw[B9];exact D6 _
   ·exact D1 _ _
theorem Szs.withS{B:Z2}(h:Szs B){k:Int}{f:V7→V7}:Szs ⟨B.last,X8 k f B.aD,B.aH,B.kept,B.aB⟩:=⟨h.dE,h.sub,h.kept,h.k64,h.aB,by show(X8 k f B.aD).length≤1000;unfold X8;rw[B9];exact h.aD,h.nd,h.wl⟩
theorem Szs.ended{B B2:Z2}{k:Int}{q:Y3→Bool}(h:Szs B)(e:B2=⟨B.last,(A4F k B.aD).2,if(A4F k B.aD).1=true then A1b k B.aH else B.aH,B.kept,B.aB.filter q⟩):Szs B2:=by
 subst e
 have hd:(if(A4F k B.aD).1=true then A1b k B.aH else B.aH).Sublist B.aH:=by
  split
  ·exact I1
  ·exact G3 _
 exact⟨h.dE.sublist hd,fun e he=>h.sub e (hd.subset he),h.kept,h.k64,C4 (D1 _ _) h.aB,C4 C5x h.aD,h.nd.sublist (I1.map _),fun x hx=>h.wl x (E7.1 hx).1⟩
def A7Y(p:Option Int)(l:List Ent):Option Int:=match l.getLast? with
 |some e=>some e.1
 |none=>p
theorem C1F{p:Option Int}{e:Ent}{l:List Ent}:A7Y p (e::l)=A7Y (some e.1) l:=by
 unfold A7Y
 cases l with
 |nil=>rfl
 |cons x l=>
  rw[List.getLast?_cons_cons]
  cases hg:(x::l).getLast? with
  |none=>simp at hg
  |some z=>rfl
theorem B2V:∀(p:Option Int) (l:List Ent) (e:Ent),A46 p (l++[e])=A46 p l++(if A7Y p l=some e.1 then[] else[e.1])
 |p,[],e=>by
  have h1:A7Y p []=p:=rfl
  rw[h1,F2]
  unfold A46 A46
  rfl
 |p,x::l,e=>by
  rw[G4,C1F]
  unfold A46
  split
  ·rename_i hp
   rw[B2V p l e,hp]
  ·rw[B2V _ l e];rfl
def B5r(id:Int)(q:Int)(e:Ent):Int:=if e.1=id∧q<e.2.2 then e.2.2 else q
theorem B5q{id:Int}:∀(l:List Ent) (q:Int),l.foldl (B5r id) q=(l.filter fun e=>decide (e.1=id)).foldl (fun q e=>max q e.2.2) q
 |[],_=>rfl
 |e::l,q=>by
  rw[I0,B5q l]
  unfold B5r
  by_cases he:e.1=id
  ·rw[G6 (by simpa using he),I0]
   congr 1
   by_cases h2:q<e.2.2
   ·rw[if_pos ⟨he,h2⟩];omega
   ·rw[if_neg (fun h=>h2 h.2)];omega
  ·rw[F8 (by simpa using he),if_neg (fun h=>he h.1)]
theorem C4W{M:List Ent}{i:Nat}{id:Int}(hp:(M.take i).filter (fun e=>decide (e.1=id))=[]):(M.drop i).foldl (B5r id) 0=A2A M id:=by
 rw[B5q]
 unfold A2A
 have e:M.filter (fun e=>decide (e.1=id))=(M.drop i).filter fun e=>decide (e.1=id):=by
  conv=>lhs;rw[←J2 i M]
  rw[E9,hp,F2]
 rw[e]
theorem C2E{r:Nat}{full:Bool}{O:Slc→List j5→Asn}{T:U7}{m:MsT}(hO:A8V O)(ag:j7 T.b)(hz:Szs T.b)(hb:T.outs.length≤50000000)(hm:m.1.size≤9223372036854775800)
  (hq:At (rbA r full O (A0A m T)::L1) (Q (.tuple #[])))(hx:Has L (rbA r full O T) L1:=by repeat first|with_reducible exact U9|apply V1):
  FW prog 88 #[at0 r,vMs m] L Q:=by
 refine fun h hs=>B2u (some ⟨r,0,none⟩) (toU m) h Q ((?_:W (rbA r full O T::L1) _ _) h (hx.s hs))
 clear hs h hx
 delta B43 bn cc ci cp cx ie ix jb ji jt ki kp nn nw pu ve vi vs wi
 refine Y0 fun x1=>?_
 refine W.load (b:=x1) (v:=m.2.2.2.1) ?_
 refine W.cut (fun _=>rbA r full O (A1X m T)::cells x1 (aS7 (toU m))::L1) (fun K hK=>?_) (fun _=>?_)
 ·refine A0e (fun hr=>?_) (fun hr=>?_)
  ·have e:A1X m T=B9u (B0a 64 T.b.kept (m.1,m.2.1,m.2.2.1,())).2 T:=if_pos hr
   rw[e] at hK
   refine W3 ?_
   refine A2b (g:=fun p R=>rbL r full O T p R) (fun h R=>A0G.1) fun p=>?_
   refine i7 (b:=r) (i:=2) (v:=some ⟨p.kb,0,none⟩) ?_
   refine W.load (b:=x1) (v:=m.1) ?_
   refine W.load (b:=x1) (v:=m.2.1) ?_
   refine W.load (b:=x1) (v:=m.2.2.1) ?_
   refine b6 (C7q (b:=p.kb) (K:=T.b.kept) (m:=(m.1,m.2.1,m.2.2.1,())) hz.k64 hm (At.un (U1 ?_)))
   refine At.rb (O:=O) (B9u (B0a 64 T.b.kept (m.1,m.2.1,m.2.2.1,())).2 T) p ?_
   exact(hK ()).sub
  ·have e:A1X m T=T:=if_neg (by rw[hr];decide)
   rw[e] at hK
   exact U1 (hK ()).sub
 have hk:=B5B (m:=m) ag
 have bY:(A46 none (T.b.aH.filter fun x=>Y9 x.2.1 m.1)).foldl (A1a m (T.b.aH.filter fun x=>Y9 x.2.1 m.1)) (A1X m T)=A0A m T:=rfl
 have pJ:=hk.aH
 rw[←hk.aH] at bY
 have hZ:=hk.ok
 have gM:(A1X m T).outs.length≤50000000:=C4 hk.outs hb
 have fx:=hz.dE
 have nz:=hz.sub
 have ba:=hz.aB
 have rj:(A1X m T).b.aD.length≤1000:=by
  have:(A1X m T).b.aD=T.b.aD:=by unfold A1X;split<;>rfl
  rw[this];exact hz.aD
 rw[←hk.aH] at fx nz
 rw[←hk.aB] at ba
 clear hk pJ
 generalize A1X m T=T0 at*
 refine W3 ?_
 refine A2b (g:=fun p R=>rbL r full O T0 p R) (fun h R=>A0G.1) fun p=>?_
 refine i7 (b:=r) (i:=1) (v:=some ⟨p.sb,0,none⟩) ?_
 refine W.load (b:=x1) (v:=m.1) ?_
 refine b6 (C3F (b:=p.sb) (E:=T0.b.aH) (n:=m.1) nz hm hZ.aH (fun S=>At.un (x:=S) ?_))
 refine W.rb (O:=O) T0 p ?_
 have bg:∀e∈T0.b.aH.filter (fun x=>Y9 x.2.1 m.1),e∈T0.b.aH:=fun e he=>(E7.1 he).1
 have nY:(T0.b.aH.filter fun x=>Y9 x.2.1 m.1).Pairwise fun a b=>a.1≤b.1:=fx.filter _
 have xI:(T0.b.aH.filter fun x=>Y9 x.2.1 m.1).length≤10000:=C4 (D1 _ _) hZ.aH
 generalize T0.b.aH.filter (fun x=>Y9 x.2.1 m.1)=M at*
 clear fx nz
 refine Y2 (X1 (enc:=Z9) (size:=3) (s:=S) (xs:=M)) fun hl=>?_
 refine W.loop (γ:=Nat×U7) (fun g s=>s.1=(g.1:Int)∧g.1≤M.length∧g.2=(A46 none (M.take g.1)).foldl (A1a m M) T0∧j7 g.2.b∧g.2.b.aH=T0.b.aH∧g.2.b.aB=T0.b.aB∧g.2.outs.length≤50000000+320*g.1∧g.2.b.aD.map (·.id)=T0.b.aD.map (·.id))
  (fun g s=>rbA r full O g.2::U4 Z9 3 S M::cells x1 (aS7 (toU m))::L1) (fun g=>M.length-g.1) (0,T0) ⟨rfl,C9 _,rfl,hZ,rfl,rfl,by simp only;omega,rfl⟩ ?_ ?_
 ·show Sub _ (rbA r full O T0::U4 Z9 3 S M::cells x1 (aS7 (toU m))::L1)
  repeat(first|with_reducible exact T5|with_reducible exact T6|refine T7 (by repeat first|with_reducible exact U9|apply V1) ?_|refine T8 ?_)
 rintro⟨i,T1⟩ s ⟨hi,ck,bF,aF,iw,ca,fT,jg⟩ K k1 k2
 simp only at hi ck bF aF iw ca fT jg
 by_cases ah:i<M.length
 ·refine X7 (by rw[hi,hl];exact decide_eq_true (by omega)) ?_
  have aQ:M[i]? =some M[i]:=B0 ah
  have aV:M.take (i+1)=M.take i++[M[i]]:=C3 ah
  have eJ:=B0P ah
  have uz:IntKind.wrap .i64 (s.1+1)=((i+1:Nat):Int):=by rw[hi,V5 (by omega) (by omega)];rfl
  refine X2 ?_
  refine A07 (fun r=>r.1=decide (A7Y none (M.take i)=some M[i].1)) (fun K0 nZ=>?_) (fun r0 hP=>?_)
  ·clear k1 k2
   by_cases h0:i=0
   ·subst h0
    refine W6 (by rw[hi];rfl) (U1 (nZ _ ?_))
    simp[A7Y]
   ·refine X7 (by rw[hi];exact decide_eq_true (by omega)) ?_
    have bB:i-1<M.length:=by omega
    have ql:M[i-1]? =some M[i-1]:=B0 bB
    have iz:A7Y none (M.take i)=some M[i-1].1:=by
     unfold A7Y
     rw[List.getLast?_eq_getElem?,E1,Nat.min_eq_left (by omega),L7,if_pos (by omega),ql]
    refine e8 (enc:=Z9) (xs:=M) (i:=i-1) bB (fun a ha=>?_) (he:=by rw[hi,V5 (by omega) (by omega)];omega)
    refine A3Q (k:=0) (x:=M[i-1]) (v:=M[i-1].1) ha ql ?_
    refine e8 (enc:=Z9) (xs:=M) (i:=i) ah (fun a2 dq=>?_) (he:=hi)
    refine A3Q (k:=0) (x:=M[i]) (v:=M[i].1) dq aQ ?_
    refine U1 (nZ _ ?_)
    rw[iz]
    by_cases e:M[i-1].1=M[i].1<;>simp[e]
  have eK:=B2V none (M.take i) M[i]
  by_cases oB:A7Y none (M.take i)=some M[i].1
  ·rw[if_pos oB,C1,←aV] at eK
   refine A1d (by rw[hP];exact decide_eq_true oB) (b7 (U1 ?_))
   have hn:=k1 (i+1,T1) (IntKind.wrap .i64 (s.1+1),()) (by simp only;omega) ⟨uz,ah,by rw[eK];exact bF,aF,iw,ca,by simp only;omega,jg⟩
   exact hn.sub
  ·rw[if_neg oB,←aV] at eK
   refine l7 (by rw[hP];exact decide_eq_false oB) ?_
   clear hP r0
   have jE:(M.take i).filter (fun e=>decide (e.1=M[i].1))=[]:=I6.2 fun e he=>by
    have hle:∀x∈M.take i,∀y∈M[i]::M.drop (i+1),x.1≤y.1:=by
     rw[eJ] at nY
     exact(I7.1 nY).2.2
    have oM:=(I7.1 (by rw[eJ] at nY;exact nY)).1
    cases hg:(M.take i).getLast? with
    |none=>rw[List.getLast?_eq_none_iff.1 hg] at he;cases he
    |some z=>
     have su:A7Y none (M.take i)=some z.1:=by unfold A7Y;rw[hg]
     rw[su] at oB
     have qZ:z∈M.take i:=List.mem_of_getLast? hg
     have h1:=hle z qZ M[i] (B5 ..)
     have h2:e.1≤z.1:=by
      obtain⟨ys,wu⟩:=List.getLast?_eq_some_iff.1 hg
      rw[wu] at he oM
      rcases C7.1 he with h|h
      ·exact(I7.1 oM).2.2 e h z (C0.2 rfl)
      ·rw[C0.1 h];exact S5 _
     have h3:z.1≠M[i].1:=fun e=>oB (by rw[e])
     simp only[decide_eq_true_eq]
     omega
   have ft:(M.drop i).foldl (B5r M[i].1) 0=A2A M M[i].1:=C4W jE
   refine X2 ?_
   refine C2l (fun r=>r.1=A2A M M[i].1) (fun _=>rbA r full O T1::U4 Z9 3 S M::cells x1 (aS7 (toU m))::L1) (fun K0 nZ=>?_) (fun r0 hP=>?_)
   ·clear k1 k2
    refine C8W (γ:=Nat) (fun g s=>s.2.1=(g:Int)∧i≤g∧g≤M.length∧(M.drop g).foldl (B5r M[i].1) s.1=A2A M M[i].1) (fun g s=>rbA r full O T1::U4 Z9 3 S M::cells x1 (aS7 (toU m))::L1) (fun g=>M.length-g) i ⟨hi,D6 _,ck,ft⟩ ?_ ?_
    ·repeat(first|with_reducible exact T5|with_reducible exact T6|refine T7 (by repeat first|with_reducible exact U9|apply V1) ?_|refine T8 ?_)
    rintro k s2 ⟨hk,yi,jV,hf⟩ K3 n1 n2
    by_cases cT:k<M.length
    ·refine X7 (by rw[hk,hl];exact decide_eq_true (by omega)) ?_
     have qj:M[k]? =some M[k]:=B0 cT
     rw[D9 cT,I0] at hf
     have sE:IntKind.wrap .i64 (s2.2.1+1)=((k+1:Nat):Int):=by rw[hk,V5 (by omega) (by omega)];rfl
     refine A07 (fun r=>r.1=decide (M[k].1=M[i].1∧s2.1<M[k].2.2)) (fun K4 gO=>?_) (fun r4 oD=>?_)
     ·refine e8 (enc:=Z9) (xs:=M) (i:=k) cT (fun a ha=>?_) (he:=hk)
      refine A3Q (k:=0) (x:=M[k]) (v:=M[k].1) ha qj ?_
      refine e8 (enc:=Z9) (xs:=M) (i:=i) ah (fun a2 dq=>?_) (he:=hi)
      refine A3Q (k:=0) (x:=M[i]) (v:=M[i].1) dq aQ ?_
      by_cases e:M[k].1=M[i].1
      ·refine X7 (by simpa using e) ?_
       refine e8 (enc:=Z9) (xs:=M) (i:=k) cT (fun a ha=>?_) (he:=hk)
       refine A3Q (k:=2) (x:=M[k]) (v:=M[k].2.2) ha qj ?_
       refine U1 (gO _ ?_)
       simp[e]
      ·refine W6 (by simpa using e) (U1 (gO _ ?_))
       simp[e]
     refine A07 (fun r=>r.1=B5r M[i].1 s2.1 M[k]) (fun K4 gO=>?_) (fun r5 wJ=>?_)
     ·unfold B5r at gO
      by_cases e:M[k].1=M[i].1∧s2.1<M[k].2.2
      ·rw[if_pos e] at gO
       refine X7 (by rw[oD];exact decide_eq_true e) ?_
       refine e8 (enc:=Z9) (xs:=M) (i:=k) cT (fun a ha=>?_) (he:=hk)
       refine A3Q (k:=2) (x:=M[k]) (v:=M[k].2.2) ha qj ?_
       exact U1 (gO _ rfl)
      ·rw[if_neg e] at gO
       exact W6 (by rw[oD];exact decide_eq_false e) (U1 (gO _ rfl))
     ·have hn:=n1 (k+1) (r5.1,IntKind.wrap .i64 (s2.2.1+1),()) (by omega) ⟨sE,by omega,cT,by simp only;rw[wJ];exact hf⟩
      exact U1 hn.sub
    ·refine W6 (by rw[hk,hl];exact decide_eq_false (by omega)) (U1 (n2 _ _ (nZ _ ?_)))
     rw[L8 (by omega)] at hf
     exact hf
   ·obtain⟨s3,aj,hid⟩:=aF.live M[i] (by rw[iw];exact bg _ (H2 ah))
    have cX:=A3Y (aF.bM s3 aj) (m.1,m.2.1,min m.2.2.1 (A2A M M[i].1),false,e0S)
    have e9:A1a m M T1 M[i].1=q7 M[i].1 (Y1 s3.out (m.1,m.2.1,min m.2.2.1 (A2A M M[i].1),false,e0S)).1.2 (A0C (X8 M[i].1 (Y6 (Y1 s3.out (m.1,m.2.1,min m.2.2.1 (A2A M M[i].1),false,e0S)).1.1) T1.b.aD) T1):=by
     unfold A1a A0M
     rw[A3i aF.nd aj hid]
    have bU:=B0v (m:=m) (l:=M) T1 M[i].1 aF
    have hn:=k1 (i+1,A1a m M T1 M[i].1) (IntKind.wrap .i64 (s.1+1),()) (by simp only;omega) ⟨uz,ah,by rw[eK,List.foldl_append,←bF];rfl,bU.ok,bU.aH.trans iw,bU.aB.trans ca,by have:=bU.outs;simp only;omega,A80.trans jg⟩
    simp only at hn
    rw[e9] at hn
    clear k1 k2 e9 bU eK bY hq
    obtain⟨mq,_⟩:=r0
    simp only at hP
    subst hP
    have kR:s3.id=M[i].1:=hid
    generalize A2A M M[i].1=mq at hn cX⊢
    refine W3 ?_
    refine A2b (g:=fun p R=>rbL r full O T1 p R) (fun h R=>A0G.1) fun p2=>?_
    refine i7 (b:=r) (i:=0) (v:=some ⟨p2.tb,0,none⟩) ?_
    refine e8 (enc:=Z9) (xs:=M) (i:=i) ah (fun a ha=>?_) (he:=hi)
    refine A3Q (k:=0) (x:=M[i]) (v:=M[i].1) ha aQ ?_
    generalize M[i].1=id at hn kR⊢
    have cG:T1.b.aD.length≤1000:=by have:=congrArg List.length jg;simp only[B9] at this;omega
    refine b6 (C1m (b:=p2.tb) (A:=T1.b.aD) (s:=s3) (k:=id) cG aF.nd aj kR (fun nb ob ib=>At.un (x:=some ⟨nb,0,none⟩) ?_))
    refine W.load (b:=x1) (v:=m.2.2.1) ?_
    refine b6 (C2D (a:=m.2.2.1) (b:=mq) (At.un (x:=min m.2.2.1 mq) ?_))
    refine W3 ?_
    refine W.load (b:=nb) (v:=some ⟨ob,0,none⟩) ?_
    refine W.load (b:=x1) (v:=m.1) ?_
    refine W.load (b:=x1) (v:=m.2.1) ?_
    refine Z1 (B9E (b:=ob) (o:=s3.out) (m:=(m.1,m.2.1,min m.2.2.1 mq,false,e0S)) (aF.bM s3 aj) (fun S2=>At.bD (x:=(S2,(Y1 s3.out (m.1,m.2.1,min m.2.2.1 mq,false,e0S)).2,())) ?_))
    refine W3 ?_
    refine W.load (b:=nb) (v:=s3.id) ?_
    rw[kR]
    refine B0H (A:=A0m p2.tb T1.b.last (X8 id (Y6 (Y1 s3.out (m.1,m.2.1,min m.2.2.1 mq,false,e0S)).1.1) T1.b.aD)) (B:=cells nb (rqC s3 ob ib)) (C:=a8 ob (Y1 s3.out (m.1,m.2.1,min m.2.2.1 mq,false,e0S)).1.1) (D:=A01 ib s3.aZ) (E:=A2Y p2.tb T1.b.last T1.b.aD s3 nb) (fun h hs=>A4W (f:=Y6 (Y1 s3.out (m.1,m.2.1,min m.2.2.1 mq,false,e0S)).1.1) kR aF.nd rfl h hs) ?_
    refine W.rb (O:=O) (A0C (X8 id (Y6 (Y1 s3.out (m.1,m.2.1,min m.2.2.1 mq,false,e0S)).1.1) T1.b.aD) T1) p2 ?_
    refine Z1 (A4Y (O:=O) (T:=A0C (X8 id (Y6 (Y1 s3.out (m.1,m.2.1,min m.2.2.1 mq,false,e0S)).1.1) T1.b.aD) T1) (id:=id) (ps:=(Y1 s3.out (m.1,m.2.1,min m.2.2.1 mq,false,e0S)).1.2) hO (aF.one id) (by have:=cX.2;show T1.outs.length+_≤_;omega) (by show T1.b.aB.length≤_;rw[ca];exact ba) (At.bD ?_))
    exact b7 (U1 hn.sub)
 ·refine W6 (by rw[hi,hl];exact decide_eq_false (by omega)) (U1 (k2 _ _ (U1 ?_)))
  rw[D2 (by omega)] at bF
  rw[bF,bY]
  exact hq.sub
end
section
open Go.H Go.Proofs
variable {h h0:Heap} {L L' L1 L2 L3 L4 R:List Asn} {Q:Value→Heap→Prop}
theorem B4V{r:Nat}{full:Bool}{O:Slc→List j5→Asn}{T:U7}{m:MsT}(hO:A8V O)(ag:j7 T.b)(hz:Szs T.b)(hb:T.outs.length≤50000000)(hp:T.aT.length≤1000000000)(hm:m.1.size≤9223372036854775800)
  (hq:At (rbA r full O (A3Z m T)::L1) (Q (.tuple #[])))(hx:Has L (rbA r full O T) L1:=by repeat first|with_reducible exact U9|apply V1):
  FW prog 135 #[at0 r,vMs m] L Q:=by
 refine fun h hs=>A9m (some ⟨r,0,none⟩) (toU m) h Q ((?_:W (rbA r full O T::L1) _ _) h (hx.s hs))
 clear hs h hx
 have fb:((A0A m T).aT.length+1)*64≤140737488355328:=by rw[A7t];omega
 have hq:At (rbA r full O (⟨(A0A m T).b,(A0A m T).outs,(A0A m T).aT++[m]⟩:U7)::L1) (Q (.tuple #[])):=hq
 delta A9J az bn cx g7 kc nn nw pu rq sx vs
 refine Y0 fun x1=>?_
 refine q8 (b:=x1) (v:=toU m) ?_
 refine Z1 (C2E (O:=O) (T:=T) (m:=m) hO ag hz hb hm (At.bD ?_))
 generalize A0A m T=T1 at hq fb⊢
 refine W3 ?_
 refine A2b (g:=fun p R=>rbL r full O T1 p R) (fun h R=>A0G.1) fun p=>?_
 refine i7 (b:=r) (i:=6) (v:=p.sp) ?_
 refine q8 (b:=x1) (v:=toU m) ?_
 refine Y0 fun x7=>?_
 refine i7 (b:=r) (i:=6) (v:=p.sp) ?_
 refine A06 ?_ rfl
 refine A9E (b:=x7) (xs:=T1.aT) (enc:=Z4) (s:=p.sp) m (fun s'=>?_) fb
 refine W3 ?_
 refine A4e (b:=r) (i:=6) (cs':=rbC ⟨p.tb,p.sb,p.kb,p.sc,p.so,s'⟩ full) ?_
 refine W.rb (O:=O) (⟨T1.b,T1.outs,T1.aT++[m]⟩:U7) ⟨p.tb,p.sb,p.kb,p.sc,p.so,s'⟩ ?_
 exact U1 hq.sub
theorem C1U{α:Type}{l:List α}{a i:Nat}(h:i<l.length):(l.take (i+1)).eraseIdx a=(l.take i).eraseIdx a++(if i=a then[] else[l[i]]):=by
 rw[C3 h]
 have hl:(l.take i).length=i:=by rw[E1];omega
 by_cases e:i=a
 ·subst e
  have e1:(l.take i++[l[i]]).eraseIdx i=l.take i++[l[i]].eraseIdx (i-(l.take i).length):=List.eraseIdx_append_of_length_le (S8 hl) _
  have e2:(l.take i).eraseIdx i=l.take i:=List.eraseIdx_of_length_le (S8 hl)
  rw[if_pos rfl,C1,e1,e2,hl,Q0]
  simp only[List.eraseIdx_zero,List.tail_cons,C1]
 ·rw[if_neg e]
  by_cases h2:a<i
  ·exact List.eraseIdx_append_of_lt_length (by omega) _
  ·have e3:(l.take i++[l[i]]).eraseIdx a=l.take i++[l[i]]:=List.eraseIdx_of_length_le (by rw[B4,hl];simp only[B7,G8];omega)
   have e4:(l.take i).eraseIdx a=l.take i:=List.eraseIdx_of_length_le (by omega)
   rw[e3,e4]
theorem C0u{c:Int}:∀{l:List Y3} {a:Nat},(l.map (·.c)).Nodup→atC c l=some a→l.eraseIdx a=l.filter fun y=>decide (y.c≠c)
 |[],a,_,h=>by cases h
 |x::l,a,hn,h=>by
  unfold atC at h
  rw[List.findIdx?_cons] at h
  rw[B6,F7] at hn
  by_cases e:x.c=c
  ·rw[if_pos (by simpa using e)] at h
   cases h
   rw[List.eraseIdx_zero,List.tail_cons,F8 (by simpa using e)]
   symm
   refine H0.2 fun y hy=>?_
   have:y.c≠c:=fun e2=>hn.1 (by rw[e,←e2];exact B3 hy)
   simpa using this
  ·rw[if_neg (by simpa using e)] at h
   cases hf:List.findIdx? (fun x=>decide (x.c=c)) l with
   |none=>rw[hf] at h;cases h
   |some j=>
    rw[hf] at h
    cases h
    rw[List.eraseIdx_cons_succ,G6 (by simpa using e),C0u hn.2 hf]
theorem B8x{r:Nat}{full:Bool}{O:Slc→List j5→Asn}{T:U7}{c:Int}{aX:Bool}(hO:A8V O)(ag:j7 T.b)(hz:Szs T.b)(hb:T.outs.length≤50000000)(hp:T.aT.length≤1000000000)
  (hq:At (rbA r full O (A4n full c aX T)::L1) (Q (.tuple #[])))(hx:Has L (rbA r full O T) L1:=by repeat first|with_reducible exact U9|apply V1):
  FW prog 87 #[at0 r,.int .i64 c,.bool aX] L Q:=by
 refine fun h hs=>B36 (some ⟨r,0,none⟩) c aX h Q ((?_:W (rbA r full O T::L1) _ _) h (hx.s hs))
 clear hs h hx
 have ba:=hz.aB
 unfold A4n at hq
 delta B7j ad az bn cb ci cx g7 ie ix jb ji kb kc kp nn nw pu sn sx ve vi vs w5 w6 w7 wi
 cases ha:atC c T.b.aB with
 |none=>
  rw[B16.1 ha] at hq
  refine b6 (B5h (O:=O) (T:=T) (c:=c) ba (At.un (x:=(-1:Int)) ?_ (by rw[ha];rfl)))
  exact X7 rfl (U1 hq)
 |some i=>
  obtain⟨x,sC,kS,iY⟩:=C0M ha
  rw[kS] at hq
  simp only at hq
  have ah:i<T.b.aB.length:=(D8.1 sC).1
  refine b6 (B5h (O:=O) (T:=T) (c:=c) ba (At.un (x:=(i:Int)) ?_ (by rw[ha];rfl)))
  refine W6 (decide_eq_false (by omega)) ?_
  refine W3 ?_
  refine A2b (g:=fun p R=>rbL r full O T p R) (fun h R=>A0G.1) fun p=>?_
  refine Y2 (X1 (enc:=y9) (size:=8) (s:=p.sc) (xs:=T.b.aB)) fun hl=>?_
  refine i7 (b:=r) (i:=3) (v:=p.sc) ?_
  refine e8 (enc:=y9) (xs:=T.b.aB) (i:=i) ah (fun a dq=>?_)
  refine B3e (x:=x) (v:=rcU x) dq sC ?_
  refine Y0 fun x6=>?_
  refine A0a (b:=x6) ?_
  refine W.cells (b:=x6) (y9 x).toArray ?_
  refine B67 y9 8 ((T.b.aB.take 0).eraseIdx i) ?_
  refine W.loop (γ:=Nat) (fun g s=>s.2.1=(g:Int)∧g≤T.b.aB.length) (fun g s=>U4 y9 8 s.1 ((T.b.aB.take g).eraseIdx i)::cells x6 (y9 x).toArray::rbL r full O T p L1) (fun g=>T.b.aB.length-g) 0 ⟨rfl,C9 _⟩ ?_ ?_
  ·show Sub _ (U4 y9 8 ⟨none,0,0⟩ ((T.b.aB.take 0).eraseIdx i)::cells x6 (y9 x).toArray::rbL r full O T p L1)
   repeat(first|with_reducible exact T5|with_reducible exact T6|refine T7 (by repeat first|with_reducible exact U9|apply V1) ?_|refine T8 ?_)
  rintro k s ⟨hk,jV⟩ K k1 k2
  refine W3 ?_
  refine i7 (b:=r) (i:=3) (v:=p.sc) ?_
  by_cases bB:k<T.b.aB.length
  ·refine X7 (by rw[hk,hl];exact decide_eq_true (by omega)) ?_
   have qj:T.b.aB[k]? =some T.b.aB[k]:=B0 bB
   have sE:IntKind.wrap .i64 (s.2.1+1)=((k+1:Nat):Int):=by rw[hk,V5 (by omega) (by omega)];rfl
   have bp:=fun s'=>k1 (k+1) (s',IntKind.wrap .i64 (s.2.1+1),()) (by omega) ⟨sE,bB⟩
   rw[C1U bB] at bp
   clear k1 k2 hq
   by_cases e:k=i
   ·rw[if_pos e,C1] at bp
    refine l7 (by rw[hk,e];simp) (b7 (U1 ?_))
    exact(bp s.1).sub
   ·rw[if_neg e] at bp
    refine A1d (by rw[hk];simp;omega) ?_
    refine X2 (W3 ?_)
    refine X2 (i7 (b:=r) (i:=3) (v:=p.sc) ?_)
    refine X2 (e8 (enc:=y9) (xs:=T.b.aB) (i:=k) bB (fun a3 iU=>?_) (he:=hk))
    refine X2 (B3e (x:=T.b.aB[k]) (v:=rcU T.b.aB[k]) iU qj ?_)
    refine X2 (Y0 fun mm=>?_)
    have xA:(((T.b.aB.take k).eraseIdx i).length+1)*88≤140737488355328:=by
     have h1:=List.length_eraseIdx_le (T.b.aB.take k) i
     rw[E1] at h1
     omega
    refine X2 (A9E (b:=mm) (s:=s.1) (xs:=(T.b.aB.take k).eraseIdx i) (enc:=y9) T.b.aB[k] (fun s'=>?_) xA)
    exact b7 (U1 (bp s').sub)
  ·refine W6 (by rw[hk,hl];exact decide_eq_false (by omega)) (U1 (k2 _ _ ?_))
   rw[D2 (by omega),C0u hz.nd ha]
   clear k1 k2
   refine W3 ?_
   refine A4e (b:=r) (i:=3) (cs':=rbC ⟨p.tb,p.sb,p.kb,s.1,p.so,p.sp⟩ full) ?_
   refine W3 ?_
   refine i7 (b:=r) (i:=0) (v:=some ⟨p.tb,0,none⟩) ?_
   refine W.load (b:=x6) (v:=x.aD) ?_
   refine b6 (C7t (b:=p.tb) (A:=T.b.aD) (k:=x.aD) hz.aD ag.nd (At.un ?_))
   have h1:=B82 (k:=x.aD) (ag.conn fun y=>decide (y.c≠c)) (ag.gone kS)
   rw[B4B] at hq h1
   simp only at hq h1
   obtain⟨B2,oe⟩:∃B2:Z2,B2=⟨T.b.last,(A4F x.aD T.b.aD).2,if(A4F x.aD T.b.aD).1=true then A1b x.aD T.b.aH else T.b.aH,T.b.kept,T.b.aB.filter fun y=>decide (y.c≠c)⟩:=⟨_,rfl⟩
   rw[←oe] at hq h1
   refine W.cut (fun _=>rbA r full O (tB B2 T)::cells x6 (y9 x).toArray::L1) (fun K2 bd=>?_) (fun _=>?_)
   ·clear hq
    refine A0e (fun hd=>?_) (fun hd=>?_)
    ·rw[if_pos hd] at oe
     subst oe
     refine W3 ?_
     refine i7 (b:=r) (i:=1) (v:=some ⟨p.sb,0,none⟩) ?_
     refine W.load (b:=x6) (v:=x.aD) ?_
     refine b6 (B9Q (b:=p.sb) (E:=T.b.aH) (id:=x.aD) ag.aH (At.un (U1 ?_)))
     refine At.rb (O:=O) (tB ⟨T.b.last,(A4F x.aD T.b.aD).2,A1b x.aD T.b.aH,T.b.kept,T.b.aB.filter fun y=>decide (y.c≠c)⟩ T) ⟨p.tb,p.sb,p.kb,s.1,p.so,p.sp⟩ ?_
     exact(bd ()).sub
    ·rw[if_neg (by rw[hd];decide)] at oe
     subst oe
     refine U1 ?_
     refine At.rb (O:=O) (tB ⟨T.b.last,(A4F x.aD T.b.aD).2,T.b.aH,T.b.kept,T.b.aB.filter fun y=>decide (y.c≠c)⟩ T) ⟨p.tb,p.sb,p.kb,s.1,p.so,p.sp⟩ ?_
     exact(bd ()).sub
   have uv:x∈T.b.aB:=F1 sC
   have gu:Szs B2:=hz.ended oe
   have sD:=hz.wl x uv
   clear oe
   cases aX with
   |false=>
    rw[if_neg (by simp)] at hq
    exact l7 rfl (b7 (l7 rfl (b7 (U1 hq.sub))))
   |true=>
    refine A1d rfl ?_
    refine X2 (W.load (b:=x6) (v:=x.bE) ?_)
    cases eG:x.bE with
    |false=>
     rw[if_neg (by simp[eG])] at hq
     exact l7 rfl (b7 (l7 rfl (b7 (U1 hq.sub))))
    |true=>
     refine A1d rfl ?_
     refine X2 (W3 ?_)
     refine A2b (g:=fun p R=>rbL r full O (tB B2 T) p R) (fun h R=>A0G.1) fun p2=>?_
     refine X2 (i7 (b:=r) (i:=4) (v:=full) ?_)
     refine b7 ?_
     refine W.rb (O:=O) (tB B2 T) p2 ?_
     cases full with
     |true=>
      rw[if_neg (by simp)] at hq
      exact l7 rfl (b7 (U1 hq.sub))
     |false=>
      rw[if_pos ⟨rfl,eG,rfl⟩] at hq
      refine A1d rfl ?_
      refine X2 (A8g (b:=x6) (i:=3) (v:=toU x.aX) ?_)
      refine X2 (Z1 (B4V (O:=O) (T:=tB B2 T) (m:=x.aX) hO h1.1 gu hb hp sD (At.bD ?_)))
      exact b7 (U1 hq.sub)
theorem A3B{r:Nat}{full:Bool}{O:Slc→List j5→Asn}{T:U7}{c code:Int}(hO:A8V O)(ag:j7 T.b)(hz:Szs T.b)(hb:T.outs.length<50000000)(hp:T.aT.length≤1000000000)
  (hq:At (rbA r full O (A0q full c code T)::L1) (Q (.tuple #[])))(hx:Has L (rbA r full O T) L1:=by repeat first|with_reducible exact U9|apply V1):
  FW prog 143 #[at0 r,.int .i64 c,.int .i64 code] L Q:=by
 refine fun h hs=>B0h (some ⟨r,0,none⟩) c code h Q ((?_:W (rbA r full O T::L1) _ _) h (hx.s hs))
 clear hs h hx
 unfold A0q at hq
 delta B0Z cx pu ve vi vz
 refine B66 (k:=.i64) (Z7 14 0 code) rfl rfl ?_
 refine Z1 (B8q (O:=O) (T:=T) (c:=c) (o:=Z7 14 0 code) (ci:=⟨none,0,0⟩) (pi:=⟨none,0,0⟩) hO (by omega) (At.bD ?_))
 refine Z1 (B8x (O:=O) (T:=A0t ⟨c,Z7 14 0 code,true⟩ T) (c:=c) (aX:=true) hO ag hz (by show(T.outs++[_]).length≤_;rw[B4];simp only[B7,G8];omega) hp (At.bD ?_))
 exact U1 hq.sub
end
section
open Go.H Go.Proofs
variable {h h0:Heap} {L L' L1 L2 L3 L4 R:List Asn} {Q:Value→Heap→Prop}
def A0p(nb ob ib:Nat)(id:Int):B4w:=fun b last A=>exA fun s:V7=>A0L [pr (s∈A∧s.id=id),cells nb (rqC s ob ib),a8 ob s.out,A01 ib s.aZ,A2Y b last A s nb]
theorem A4X{nb ob ib b:Nat}{id last:Int}{A:List V7}:sat h (A0p nb ob ib id b last A::R)↔∃s:V7,(s∈A∧s.id=id)∧sat h (cells nb (rqC s ob ib)::a8 ob s.out::A01 ib s.aZ::A2Y b last A s nb::R):=by
 unfold A0p
 rw[sat.bA]
 simp only[sat.bV,G4,F2,sat.bC]
theorem A6y{r nb ob ib:Nat}{full:Bool}{id:Int}{O:Slc→List j5→Asn}{T:U7}:∀h R,sat h (rbX r full (A0p nb ob ib id) O T::R)→sat h (rbA r full O T::R):=fun h R hs=>by
 obtain⟨p,h1⟩:=A0r.1 hs
 obtain⟨s,_,h2⟩:=A4X.1 (h1.re [4,0,1,2,3,5,6])
 have h3:=A6s h h2
 exact A0r.2 ⟨p,h3.re [1,2,3,4,0,5,6]⟩
theorem C4O{b nb:Nat}{last k:Int}{A:List V7}{s:V7}{f:V7→V7}(hk:s.id=k)(hn:(A.map (·.id)).Nodup):∀h R,sat h (A2Y b last A s nb::R)→sat h (A2Y b last (X8 k f A) (f s) nb::R):=fun h R hs=>by
 subst hk
 obtain⟨S,l1,l2,rfl,h1⟩:=A8r.1 hs
 rw[B8,B6] at hn⊢
 rw[A8o hn]
 have e:(l1++(nb,s)::l2).map (·.1)=(l1++(nb,f s)::l2).map (·.1):=by simp
 rw[e] at h1
 exact A8r.2 ⟨S,l1,l2,by simp,h1⟩
theorem B0c{b nb ob ib:Nat}{last k:Int}{A:List V7}{s s':V7}{f:V7→V7}(dR:s∈A)(hk:s.id=k)(hn:(A.map (·.id)).Nodup)(hf:f s=s')(hi:s'.id=s.id):∀h,sat h (cells nb (rqC s' ob ib)::a8 ob s'.out::A01 ib s'.aZ::A2Y b last A s nb::R)→sat h (A0p nb ob ib k b last (X8 k f A)::R):=fun h hs=>by
 subst hf
 refine A4X.2 ⟨f s,⟨?_,hi.trans hk⟩,?_⟩
 ·unfold X8
  have:=B3 (f:=fun s=>if s.id=k then f s else s) dR
  rwa[if_pos hk] at this
 ·have h1:=C4O (f:=f) hk hn h _ (hs.re [3,0,1,2])
  exact h1.re [1,2,3,0]
theorem C6n{r nb ob ib:Nat}{full:Bool}{O:Slc→List j5→Asn}{T:U7}{x:Y3}{p:Pk}{pl:List o8}{sl:List A0w}{fl:List B3O}(hO:A8V O)(ag:j7 T.b)(hz:Szs T.b)(dY:∀s∈T.b.aD,s.aZ.ok)(hc:A04 x.c T.b.aB=some x)(hb:T.outs.length<40000000)(hp:T.aT.length≤1000000000)(hsz:p.2.2.2.2.2.1.size≤9223372036854775800)
  (hq:At (rbA r full O (A6h full x (pkI p pl sl fl) T)::L1) (Q (.tuple #[])))(hx:Has L (rbX r full (A0p nb ob ib x.aD) O T) L1:=by repeat first|with_reducible exact U9|apply V1):
  FW prog 141 #[at0 r,.int .i64 x.c,at0 nb,A2p .i64 p] L Q:=by
 refine fun h hs=>B2p (some ⟨r,0,none⟩) x.c (some ⟨nb,0,none⟩) p h Q ((?_:W (rbX r full (A0p nb ob ib x.aD) O T::L1) _ _) h (hx.s hs))
 clear hs h hx
 obtain⟨s,hs,hid⟩:=ag.cl x (A1K hc).1
 unfold A6h at hq
 simp only[A3i ag.nd hs hid] at hq
 delta B4Y az bn ci cx g2 ie jb ji jt kb ki kp nn nw pu ve vi vs
 refine Y0 fun x1=>?_
 refine W.load (b:=x1) (v:=p.2.2.2.2.2.1) ?_
 refine b6 (C2I hsz (At.un (x:=A2t p.2.2.2.2.2.1) ?_))
 refine A07 (fun r=>r.1=(decide (p.1=3)&& !Y8 p.2.2.2.2.2.1)) (fun K hK=>?_) (fun r0 hr=>?_)
 ·refine W.load (b:=x1) (v:=p.1) ?_
  refine A0e (fun h3=>?_) (fun h3=>?_)
  ·refine U1 (At.sub (hK _ ?_))
   simp only[P8] at h3
   simp only[h3,decide_true,G2]
   unfold A2t
   cases Y8 p.2.2.2.2.2.1<;>rfl
  ·refine U1 (hK _ ?_)
   simp only[H4,ne_eq] at h3
   simp[h3]
 obtain⟨r0,_⟩:=r0
 simp only at hr
 subst hr
 by_cases al:p.1=3∧Y8 p.2.2.2.2.2.1=false
 ·rw[if_pos al] at hq
  refine X7 (by simp[al.1,al.2]) ?_
  refine B9j (A:=rbX r full (A0p nb ob ib x.aD) O T) (B:=rbA r full O T) (fun h R hs=>A6y h R hs) ?_
  refine Z1 (A3B (O:=O) (T:=T) (c:=x.c) (code:=144) hO ag hz (by omega) hp (At.bD ?_))
  exact U1 hq.sub
 rw[if_neg al] at hq
 refine W6 (by
  by_cases e:p.1=3
  ·have:Y8 p.2.2.2.2.2.1=true:=by
    cases hn:Y8 p.2.2.2.2.2.1
    ·exact absurd ⟨e,hn⟩ al
    ·rfl
   simp[this]
  ·simp[e]) ?_
 refine W3 ?_
 refine A2b (g:=fun p R=>B1j r full (A0p nb ob ib x.aD) O T p R) (fun h R=>A0r.1) fun q=>?_
 refine i7 (b:=r) (i:=4) (v:=full) ?_
 refine A07 (fun r=>r.1=if full=true then 151 else 0) (fun K hK=>A0e (fun e=>U1 (hK _ (if_pos e).symm)) (fun e=>U1 (hK _ (if_neg (by simp[e])).symm))) (fun r0 hr=>?_)
 obtain⟨why,_⟩:=r0
 simp only at hr
 rw[←hr] at hq
 clear hr al
 refine B68 (fun h R hs=>(A4X (b:=q.tb) (last:=T.b.last) (A:=T.b.aD)).1 hs) fun s' af=>?_
 have rj:s'=s:=A81 (f:=(·.id)) ag.nd af.1 hs (af.2.trans hid.symm)
 subst rj
 clear af
 refine W3 ?_
 refine W.load (b:=nb) (v:=some ⟨ib,0,none⟩) ?_
 refine q8 (b:=x1) (v:=p) ?_
 refine Z1 (C6q (f:=ib) (s:=s'.aZ) (p:=p) (why:=why) (dY s' hs) (fun S=>At.bD (x:=((k9 s'.aZ p.1 p.2.2.2.1 p.2.2.2.2.1 why).1,S,(k9 s'.aZ p.1 p.2.2.2.1 p.2.2.2.2.1 why).2.2.1,())) ?_))
 generalize hR:k9 s'.aZ p.1 p.2.2.2.1 p.2.2.2.2.1 why=rr at hq⊢
 have dv:=hz.withS (k:=x.aD) (f:=j3 ⟨s'.aZ.most,s'.aZ.taken,rr.2.2.2⟩)
 have aF:j7 (A0C (X8 x.aD (j3 ⟨s'.aZ.most,s'.aZ.taken,rr.2.2.2⟩) T.b.aD) T).b:=ag.fE
 by_cases av:rr.2.2.1=0
 ·rw[if_neg (by simpa using av)] at hq
  refine W6 (by simp[av]) ?_
  refine W3 ?_
  refine W.load (b:=nb) (v:=s'.id) ?_
  rw[hid]
  refine B0H (A:=A0p nb ob ib x.aD q.tb T.b.last (X8 x.aD (j3 ⟨s'.aZ.most,s'.aZ.taken,rr.2.2.2⟩) T.b.aD)) (B:=cells nb (rqC s' ob ib)) (C:=a8 ob s'.out) (D:=A01 ib ⟨s'.aZ.most,s'.aZ.taken,rr.2.2.2⟩) (E:=A2Y q.tb T.b.last T.b.aD s' nb) (fun h ae=>B0c (f:=j3 ⟨s'.aZ.most,s'.aZ.taken,rr.2.2.2⟩) hs hid ag.nd rfl rfl h ae) ?_
  refine W.dX (X:=A0p nb ob ib x.aD) (O:=O) (A0C (X8 x.aD (j3 ⟨s'.aZ.most,s'.aZ.taken,rr.2.2.2⟩) T.b.aD) T) q ?_
  have ke:(A3P rr.2.1 p.2.2.2.2.1).length≤1:=by unfold A3P;split<;>simp
  refine Z1 (A4Y (X:=A0p nb ob ib x.aD) (O:=O) (T:=A0C (X8 x.aD (j3 ⟨s'.aZ.most,s'.aZ.taken,rr.2.2.2⟩) T.b.aD) T) (id:=x.aD) (ps:=A3P rr.2.1 p.2.2.2.2.1) hO (ag.one x.aD) (by simp only;omega) hz.aB (At.bD ?_))
  have sH:(T.outs++A1w T.b.aB x.aD (A3P rr.2.1 p.2.2.2.2.1)).length≤50000000:=by
   rw[B4];have:=A8X (A3P rr.2.1 p.2.2.2.2.1) (ag.one x.aD);omega
  refine B9j (A:=rbX r full (A0p nb ob ib x.aD) O (q7 x.aD (A3P rr.2.1 p.2.2.2.2.1) (A0C (X8 x.aD (j3 ⟨s'.aZ.most,s'.aZ.taken,rr.2.2.2⟩) T.b.aD) T))) (B:=rbA r full O (q7 x.aD (A3P rr.2.1 p.2.2.2.2.1) (A0C (X8 x.aD (j3 ⟨s'.aZ.most,s'.aZ.taken,rr.2.2.2⟩) T.b.aD) T))) (fun h R hs=>A6y h R hs) ?_
  cases hf:rr.1 with
  |false=>
   rw[if_neg (by simp[hf])] at hq
   exact l7 rfl (b7 (l7 rfl (b7 (U1 hq.sub))))
  |true=>
   refine A1d rfl ?_
   refine X2 (W3 ?_)
   refine A2b (g:=fun q' R=>rbL r full O (q7 x.aD (A3P rr.2.1 p.2.2.2.2.1) (A0C (X8 x.aD (j3 ⟨s'.aZ.most,s'.aZ.taken,rr.2.2.2⟩) T.b.aD) T)) q' R) (fun h R=>A0G.1) fun p2=>?_
   refine X2 (i7 (b:=r) (i:=4) (v:=full) ?_)
   refine b7 ?_
   refine W.rb (O:=O) (q7 x.aD (A3P rr.2.1 p.2.2.2.2.1) (A0C (X8 x.aD (j3 ⟨s'.aZ.most,s'.aZ.taken,rr.2.2.2⟩) T.b.aD) T)) p2 ?_
   cases full with
   |true=>
    rw[if_neg (by simp)] at hq
    exact l7 rfl (b7 (U1 hq.sub))
   |false=>
    rw[if_pos ⟨hf,rfl⟩] at hq
    refine A1d rfl ?_
    refine X2 (W.load (b:=x1) (v:=p.2.2.2.2.2.1) ?_)
    refine X2 (W.load (b:=x1) (v:=p.2.2.2.2.2.2.1) ?_)
    refine X2 (W.load (b:=x1) (v:=p.2.2.2.1) ?_)
    refine X2 (W.load (b:=x1) (v:=p.2.2.1) ?_)
    refine X2 (Z1 (B4V (O:=O) (m:=(p.2.2.2.2.2.1,p.2.2.2.2.2.2.1,p.2.2.2.1,p.2.2.1,e0S)) (T:=q7 x.aD (A3P rr.2.1 p.2.2.2.2.1) (A0C (X8 x.aD (j3 ⟨s'.aZ.most,s'.aZ.taken,rr.2.2.2⟩) T.b.aD) T)) hO aF dv sH hp hsz (At.bD ?_)))
    exact b7 (U1 hq.sub)
 ·rw[if_pos (by simpa using av)] at hq
  refine X7 (by simp[av]) ?_
  refine B0H (A:=A0m q.tb T.b.last (X8 x.aD (j3 ⟨s'.aZ.most,s'.aZ.taken,rr.2.2.2⟩) T.b.aD)) (B:=cells nb (rqC s' ob ib)) (C:=a8 ob s'.out) (D:=A01 ib ⟨s'.aZ.most,s'.aZ.taken,rr.2.2.2⟩) (E:=A2Y q.tb T.b.last T.b.aD s' nb) (fun h ae=>A4W (f:=j3 ⟨s'.aZ.most,s'.aZ.taken,rr.2.2.2⟩) hid ag.nd rfl h ae) ?_
  refine W.rb (O:=O) (A0C (X8 x.aD (j3 ⟨s'.aZ.most,s'.aZ.taken,rr.2.2.2⟩) T.b.aD) T) q ?_
  refine Z1 (A3B (O:=O) (T:=A0C (X8 x.aD (j3 ⟨s'.aZ.most,s'.aZ.taken,rr.2.2.2⟩) T.b.aD) T) (c:=x.c) (code:=rr.2.2.1) hO aF dv (by simp only;omega) hp (At.bD ?_))
  exact U1 hq.sub
end
section
open Go.H Go.Proofs
variable {h h0:Heap} {L L' L1 L2 L3 L4 R:List Asn} {Q:Value→Heap→Prop}
theorem C1l{b:Nat}{E:List Ent}{id:Int}{f:B3O}(hl:E.length≤10000)(hq:At (A0y b (A1H E id f)::L1) (Q (.bool (decide ((A1H E id f).length<E.length)))))(hx:Has L (A0y b E) L1:=by repeat first|with_reducible exact U9|apply V1):
  FW prog 198 #[at9 b,.int .i64 id,.string f] L Q:=fun h hs=>B8y hl (hx.s hs) fun h' af=>hq h' af
theorem C6t{t:Nat}{E:List Ent}{id q:Int}{f:B3O}(hsz:f.size≤9223372036854775800)(hl:E.length≤10000)(hq:At (A0y t (A2G E id f q).2::L1) (Q (.int .i64 (A2G E id f q).1)))(hx:Has L (A0y t E) L1:=by repeat first|with_reducible exact U9|apply V1):
  FW prog 196 #[at9 t,C4w id f q] L Q:=fun h hs=>by
 unfold A2G at hq
 refine C3H hsz hl (hx.s hs) (fun hb h' af=>?_) (fun hb dT h' af=>?_) (fun hb q0 q1 i x hi hk tX h' af=>?_) (fun hb q0 q1 ax hc h' af=>?_) (fun hb q0 q1 ax hc h' af=>?_)
 ·rw[if_pos hb] at hq;exact hq h' af
 ·rw[if_neg (by simp[hb]),if_pos dT] at hq;exact hq h' af
 ·rw[if_neg (by simp[hb]),if_neg (by omega)] at hq
  have hf:E.findIdx? (fun x=>decide (b8 x=(id,f)))=some i:=by
   obtain⟨ah,hx⟩:=D8.1 hi
   refine J0.2 ⟨ah,by simp[hx,hk],fun j hj=>?_⟩
   have:=tX E[j] (List.mem_take_iff_getElem.2 ⟨j,by omega,rfl⟩)
   simpa using this
  rw[hf] at hq
  exact hq h' af
 ·rw[if_neg (by simp[hb]),if_neg (by omega),O1.2 (fun x hx=>by simpa using ax x hx)] at hq
  simp only[if_pos hc] at hq
  exact hq h' af
 ·rw[if_neg (by simp[hb]),if_neg (by omega),O1.2 (fun x hx=>by simpa using ax x hx)] at hq
  simp only[if_neg (Nat.not_le.2 hc)] at hq
  exact hq h' af
theorem C29{β:Type}{Q':β→Heap→Prop}{nb ob ib b:Nat}{id last:Int}{A:List V7}{f:Int→HM β}(hw:W L (f id) Q')(hx:Has L (A0p nb ob ib id b last A) L1:=by repeat first|with_reducible exact U9|apply V1):
  W L (HM.bind (o9 (.int .i64) (Addr.add ⟨nb,0,none⟩ 0)) f) Q':=fun h hs=>by
 obtain⟨s,⟨_,hid⟩,h2⟩:=A4X.1 (hx.s hs)
 refine⟨id,?_,hw h hs⟩
 rw[U2,h2.cell 0,←hid]
 rfl
theorem B4T{r nb ob ib:Nat}{full:Bool}{T:U7}{x:Y3}{p:Pk}{pl:List o8}{sl:List A0w}{fl:List B3O}(ag:j7 T.b)(hb:T.outs.length≤10000000)(hn:fl.length≤100)
  (hq:At (rbA r full (V8 .i64) (A1z x (pkI p pl sl fl) T)::L2) (Q (.tuple #[])))(hx:Has L (rbX r full (A0p nb ob ib x.aD) (V8 .i64) T) L1:=by repeat first|with_reducible exact U9|apply V1)(hz:Has L1 (U4 v8 1 (A4k p) fl) L2:=by repeat first|with_reducible exact U9|apply V1):
  FW prog 145 #[at0 r,.int .i64 x.c,at0 nb,A2p .i64 p] L Q:=by
 refine fun h hs=>A6v (some ⟨r,0,none⟩) x.c (some ⟨nb,0,none⟩) p h Q ((?_:W (rbX r full (A0p nb ob ib x.aD) (V8 .i64) T::U4 v8 1 (A4k p) fl::L2) _ _) h ((hx.then hz).s hs))
 clear hs h hx hz
 unfold A1z at hq
 simp only at hq
 obtain⟨EF,jl⟩:∃EF,EF=(A0K x.aD fl T.b.aH).1:=⟨_,rfl⟩
 obtain⟨CF,iW⟩:∃CF,CF=(A0K x.aD fl T.b.aH).2:=⟨_,rfl⟩
 rw[←jl,←iW] at hq
 delta A5w az bn cb cx g2 ie ix jc ji ki kp lt nn nw pu sn sw ve vi vs vz wi
 refine Y0 fun x1=>?_
 refine W.load (b:=x1) (v:=p.2.2.2.2.1) ?_
 refine Y0 fun x3=>?_
 refine A0a ?_
 refine A3p (eKd .i64) 1 ?_
 refine W.cells (b:=x3) (W7 .i64 (pkT (Z7 11 (p.2.2.2.2.1) 0) ⟨none,0,0⟩ ⟨none,0,0⟩)).toArray ?_
 refine Y2 (X1 (enc:=v8) (size:=1) (s:=A4k p) (xs:=fl)) fun hl=>?_
 refine W.loop (γ:=Nat×List Ent×List Int×Slc) (fun g s=>s.1=(g.1:Int)∧g.1≤fl.length∧g.2.1.length≤T.b.aH.length∧(A0K x.aD (fl.drop g.1) g.2.1).1=EF∧g.2.2.1++(A0K x.aD (fl.drop g.1) g.2.1).2=CF∧g.2.2.1.length=g.1)
  (fun g s=>rbX r full (A0p nb ob ib x.aD) (V8 .i64) (A1j g.2.1 T)::U4 (eKd .i64) 1 g.2.2.2 g.2.2.1::cells x3 (W7 .i64 (pkT (Z7 11 (p.2.2.2.2.1) 0) g.2.2.2 ⟨none,0,0⟩)).toArray::cells x1 (aS2 p)::U4 v8 1 (A4k p) fl::L2)
  (fun g=>fl.length-g.1) (0,T.b.aH,[],⟨none,0,0⟩) ⟨rfl,C9 _,D6 _,jl.symm,iW.symm,rfl⟩ ?_ ?_
 ·show Sub _ (rbX r full (A0p nb ob ib x.aD) (V8 .i64) T::U4 (eKd .i64) 1 ⟨none,0,0⟩ ([]:List Int)::cells x3 (W7 .i64 (pkT (Z7 11 (p.2.2.2.2.1) 0) ⟨none,0,0⟩ ⟨none,0,0⟩)).toArray::cells x1 (aS2 p)::U4 v8 1 (A4k p) fl::L2)
  repeat(first|with_reducible exact T5|with_reducible exact T6|refine T7 (by repeat first|with_reducible exact U9|apply V1) ?_|refine T8 ?_)
 rintro⟨i,E,cs,cS⟩ s ⟨hi,ck,lb,cd,cg,ba⟩ K k1 k2
 simp only at hi ck lb cd cg ba
 refine W.load (b:=x1) (v:=A4k p) ?_
 by_cases ah:i<fl.length
 ·refine X7 (by rw[hi,hl];exact decide_eq_true (by omega)) ?_
  have bh:fl.drop i=fl[i]::fl.drop (i+1):=D9 ah
  have aQ:fl[i]? =some fl[i]:=B0 ah
  rw[bh] at cd cg
  generalize fl[i]=u at aQ cd cg
  clear bh
  unfold A0K at cd cg
  simp only at cd cg
  have bg:=ag.aH
  refine W3 ?_
  refine A2b (g:=fun q R=>B1j r full (A0p nb ob ib x.aD) (V8 .i64) (A1j E T) q R) (fun h R=>A0r.1) fun q=>?_
  refine i7 (b:=r) (i:=1) (v:=some ⟨q.sb,0,none⟩) ?_
  refine W3 ?_
  refine C29 ?_
  refine W.load (b:=x1) (v:=A4k p) ?_
  refine e8 (enc:=v8) (xs:=fl) (i:=i) ah (fun a ha=>?_) (he:=hi)
  refine B6G (x:=u) (v:=u) ha aQ ?_
  refine b6 (C1l (b:=q.sb) (E:=E) (id:=x.aD) (f:=u) (by omega) (At.un ?_))
  refine W.dX (X:=A0p nb ob ib x.aD) (O:=V8 .i64) (A1j (A1H E x.aD u) T) q ?_
  refine A07 (fun a=>a.1=if(A1H E x.aD u).length<E.length then 0 else 17) (fun K2 bd=>A0e (fun e=>U1 (bd _ (if_pos (by simpa using e)).symm)) (fun e=>U1 (bd _ (if_neg (by simpa using e)).symm))) (fun a jT=>?_)
  refine W.load (b:=x3) (v:=cS) ?_
  refine C5Y (enc:=eKd .i64) (xs:=cs) (s:=cS) a.1 (fun s'=>?_) (by omega)
  refine W.store (cs':=(W7 .i64 (pkT (Z7 11 (p.2.2.2.2.1) 0) s' ⟨none,0,0⟩)).toArray) ?_
  have oa:(A1H E x.aD u).length≤T.b.aH.length:=C4 C0B lb
  have f1:IntKind.wrap .i64 (s.1+1)=((i+1:Nat):Int):=by rw[hi,V5 (by omega) (by omega)];rfl
  have f2:(cs++[a.1])++(A0K x.aD (fl.drop (i+1)) (A1H E x.aD u)).2=CF:=by rw[jT,D4];exact cg
  have hn:=k1 (i+1,A1H E x.aD u,cs++[a.1],s') (IntKind.wrap .i64 (s.1+1),()) (by simp only;omega) ⟨f1,ah,oa,cd,f2,by simp[ba]⟩
  exact U1 hn.sub
 ·refine W6 (by rw[hi,hl];exact decide_eq_false (by omega)) (U1 (k2 _ _ ?_))
  have eh:i=fl.length:=by omega
  subst eh
  rw[J7] at cd cg
  simp only[A0K,C1] at cd cg
  subst cd cg
  refine q8 (b:=x3) (v:=pkT (A0O 11 (p.2.2.2.2.1) cs) cS ⟨none,0,0⟩) ?_
  refine A3p W8 4 ?_
  refine W.cZ (A:=pkB .i64 (cS,⟨none,0,0⟩,A0O 11 (p.2.2.2.2.1) cs)) (B:=U4 (eKd .i64) 1 cS cs) (C:=U4 W8 4 ⟨none,0,0⟩ ([]:List o8)) (fun h hs=>A4B.2 hs) ?_
  refine Z1 (B4x (X:=A0p nb ob ib x.aD) (O:=V8 .i64) (T:=A1j E T) (c:=x.c) (o:=A0O 11 (p.2.2.2.2.1) cs) (ci:=cS) (pi:=⟨none,0,0⟩) A31 (by show T.outs.length≤_;omega) (At.bD ?_))
  refine B9j (A:=rbX r full (A0p nb ob ib x.aD) (V8 .i64) (A0t ⟨x.c,A0O 11 (p.2.2.2.2.1) cs,false⟩ (A1j E T))) (B:=rbA r full (V8 .i64) (A0t ⟨x.c,A0O 11 (p.2.2.2.2.1) cs,false⟩ (A1j E T))) (fun h R hs=>A6y h R hs) ?_
  exact U1 hq.sub
end
section
open Go.H Go.Proofs
variable {h h0:Heap} {L L' L1 L2 L3 L4 R:List Asn} {Q:Value→Heap→Prop}
theorem C5U{E:List Ent}{id q:Int}{f:B3O}(h:(A2G E id f q).1≠0):128≤(A2G E id f q).1:=by
 revert h
 unfold A2G
 split
 ·intro _;show(128:Int)≤_;omega
 ·split
  ·intro _;show(128:Int)≤_;omega
  ·split
   ·intro h;exact absurd rfl h
   ·split
    ·intro _;show(128:Int)≤_;omega
    ·intro h;exact absurd rfl h
theorem A5C{id:Int}{f:Z8→Z8×List PkO}{T:U7}:(A0M id f T).b.aB=T.b.aB:=by
 unfold A0M;split<;>rfl
theorem A9R{id:Int}(T:U7)(s:A0w):(j4 id T s).b.aB=T.b.aB:=by
 unfold j4
 split
 ·rfl
 ·have:∀(l:List j6) (T:U7),(l.foldl (A0H id s) T).b.aB=T.b.aB:=by
   intro l
   induction l with
   |nil=>intro T;rfl
   |cons m l ih=>intro T;exact(ih _).trans A5C
  exact this _ T
theorem C4V{r i:Nat}{full:Bool}{X:B4w}{c p:Slc}{pk:PkO}{T:U7}:∀h,sat h (rbX r full X (A8x i c p pk) T::pkB .i64 (c,p,pk)::R)→sat h (rbX r full X (V8 .i64) T::R):=fun h hs=>by
 obtain⟨q,h1⟩:=A0r.1 hs
 exact A0r.2 ⟨q,(C1r h (h1.re [1,7,0,2,3,4,5,6])).re [1,0,2,3,4,5,6]⟩
theorem B8p{r nb ob ib:Nat}{full:Bool}{T:U7}{x:Y3}{p:Pk}{pl:List o8}{sl:List A0w}{fl:List B3O}(ag:j7 T.b)(hz:Szs T.b)(hc:A04 x.c T.b.aB=some x)(hb:T.outs.length≤10000000)(hE:T.b.aH.length+sl.length≤10000)(hn:sl.length≤100)
  (hsz:∀s∈sl,s.1.size≤9223372036854775800)
  (hq:At (rbA r full (V8 .i64) (A1f x (pkI p pl sl fl) T)::L2) (Q (.tuple #[])))(hx:Has L (rbX r full (A0p nb ob ib x.aD) (V8 .i64) T) L1:=by repeat first|with_reducible exact U9|apply V1)(hy:Has L1 (U4 X9 5 (A0z p) sl) L2:=by repeat first|with_reducible exact U9|apply V1):
  FW prog 144 #[at0 r,.int .i64 x.c,at0 nb,A2p .i64 p] L Q:=by
 refine fun h hs=>A8a (some ⟨r,0,none⟩) x.c (some ⟨nb,0,none⟩) p h Q ((?_:W (rbX r full (A0p nb ob ib x.aD) (V8 .i64) T::U4 X9 5 (A0z p) sl::L2) _ _) h ((hx.then hy).s hs))
 clear hs h hx hy
 obtain⟨sx,ri,ig⟩:=ag.cl x (A1K hc).1
 unfold A1f at hq
 simp only at hq
 obtain⟨EF,jl⟩:∃EF,EF=(j8 x.aD sl T.b.aH).1:=⟨_,rfl⟩
 obtain⟨CF,iW⟩:∃CF,CF=(j8 x.aD sl T.b.aH).2:=⟨_,rfl⟩
 rw[←jl,←iW] at hq
 delta A7U az bn cc ci cx g2 g6 ie ix jc ji jt ki kp kt li nn nw pu sn sw ve vi vs vz wi
 refine Y0 fun x1=>?_
 refine W.load (b:=x1) (v:=p.2.2.2.2.1) ?_
 refine Y0 fun x3=>?_
 refine A0a ?_
 refine A3p (eKd .i64) 1 ?_
 refine W.cells (b:=x3) (W7 .i64 (pkT (Z7 9 (p.2.2.2.2.1) 0) ⟨none,0,0⟩ ⟨none,0,0⟩)).toArray ?_
 refine Y2 (X1 (enc:=X9) (size:=5) (s:=A0z p) (xs:=sl)) fun hl=>?_
 refine W.loop (γ:=Nat×List Ent×List Int×Slc) (fun g s=>s.1=(g.1:Int)∧g.1≤sl.length∧j7 (B3Z g.2.1 T.b)∧g.2.1.length≤T.b.aH.length+g.1∧(j8 x.aD (sl.drop g.1) g.2.1).1=EF∧g.2.2.1++(j8 x.aD (sl.drop g.1) g.2.1).2=CF∧g.2.2.1.length=g.1)
  (fun g s=>rbX r full (A0p nb ob ib x.aD) (V8 .i64) (A1j g.2.1 T)::U4 (eKd .i64) 1 g.2.2.2 g.2.2.1::cells x3 (W7 .i64 (pkT (Z7 9 (p.2.2.2.2.1) 0) g.2.2.2 ⟨none,0,0⟩)).toArray::cells x1 (aS2 p)::U4 X9 5 (A0z p) sl::L2)
  (fun g=>sl.length-g.1) (0,T.b.aH,[],⟨none,0,0⟩) ⟨rfl,C9 _,ag,D6 _,jl.symm,iW.symm,rfl⟩ ?_ ?_
 ·show Sub _ (rbX r full (A0p nb ob ib x.aD) (V8 .i64) T::U4 (eKd .i64) 1 ⟨none,0,0⟩ ([]:List Int)::cells x3 (W7 .i64 (pkT (Z7 9 (p.2.2.2.2.1) 0) ⟨none,0,0⟩ ⟨none,0,0⟩)).toArray::cells x1 (aS2 p)::U4 X9 5 (A0z p) sl::L2)
  repeat(first|with_reducible exact T5|with_reducible exact T6|refine T7 (by repeat first|with_reducible exact U9|apply V1) ?_|refine T8 ?_)
 rintro⟨i,E,cs,cS⟩ s ⟨hi,ck,hX,lb,cd,cg,ba⟩ K k1 k2
 simp only at hi ck hX lb cd cg ba
 refine W.load (b:=x1) (v:=A0z p) ?_
 by_cases ah:i<sl.length
 ·refine X7 (by rw[hi,hl];exact decide_eq_true (by omega)) ?_
  have bh:sl.drop i=sl[i]::sl.drop (i+1):=D9 ah
  have aQ:sl[i]? =some sl[i]:=B0 ah
  have an:sl[i]∈sl:=H2 ah
  rw[bh] at cd cg
  generalize sl[i]=u at aQ an cd cg
  clear bh
  unfold j8 at cd cg
  simp only at cd cg
  refine W.load (b:=x1) (v:=A0z p) ?_
  refine e8 (enc:=X9) (xs:=sl) (i:=i) ah (fun a ha=>?_) (he:=hi)
  refine B3e (x:=u) (v:=sbU u) ha aQ ?_
  refine Y0 fun lq=>?_
  refine A0a ?_
  refine W3 ?_
  refine A2b (g:=fun q R=>B1j r full (A0p nb ob ib x.aD) (V8 .i64) (A1j E T) q R) (fun h R=>A0r.1) fun q=>?_
  refine i7 (b:=r) (i:=1) (v:=some ⟨q.sb,0,none⟩) ?_
  refine W3 ?_
  refine C29 ?_
  refine W.load (b:=lq) (v:=u.1) ?_
  refine W.load (b:=lq) (v:=u.2.1) ?_
  have hm:=B6D (E:=E) (id:=x.aD) (f:=u.1) (q:=u.2.1)
  refine b6 (C6t (t:=q.sb) (E:=E) (id:=x.aD) (q:=u.2.1) (f:=u.1) (hsz u an) (by omega) (At.un ?_))
  generalize A2G E x.aD u.1 u.2.1=rr at hm cd cg⊢
  refine W.dX (X:=A0p nb ob ib x.aD) (O:=V8 .i64) (A1j rr.2 T) q ?_
  refine A07 (fun a=>a.1=if rr.1=0 then u.2.1 else rr.1) (fun K2 bd=>?_) (fun a jT=>?_)
  ·refine A0e (fun e=>?_) (fun e=>U1 (bd _ (if_neg (by simpa using e)).symm))
   refine W.load (b:=lq) (v:=u.2.1) ?_
   exact U1 (At.sub (bd (u.2.1,()) (if_pos (by simpa using e)).symm))
  refine W.load (b:=x3) (v:=cS) ?_
  refine C5Y (enc:=eKd .i64) (xs:=cs) (s:=cS) a.1 (fun s'=>?_) (by omega)
  refine W.store (cs':=(W7 .i64 (pkT (Z7 9 (p.2.2.2.2.1) 0) s' ⟨none,0,0⟩)).toArray) ?_
  have oa:rr.2.length≤T.b.aH.length+(i+1):=by have:=hm.1;omega
  have f1:IntKind.wrap .i64 (s.1+1)=((i+1:Nat):Int):=by rw[hi,V5 (by omega) (by omega)];rfl
  have f2:(cs++[a.1])++(j8 x.aD (sl.drop (i+1)) rr.2).2=CF:=by rw[jT,D4];exact cg
  have gT:=k1 (i+1,rr.2,cs++[a.1],s') (IntKind.wrap .i64 (s.1+1),()) (by simp only;omega) ⟨f1,ah,hX.fJ (by show rr.2.length≤10000;omega) fun e he=>by
     rcases hm.2 e he with he|he
     ·exact .inl he
     ·exact .inr ⟨sx,ri,ig.trans he.symm⟩,oa,cd,f2,by simp[ba]⟩
  exact U1 gT.sub
 ·refine W6 (by rw[hi,hl];exact decide_eq_false (by omega)) (U1 (k2 _ _ ?_))
  have eh:i=sl.length:=by omega
  subst eh
  rw[J7] at cd cg
  simp only[j8,C1] at cd cg
  subst cd cg
  clear k1 k2
  refine q8 (b:=x3) (v:=pkT (A0O 9 (p.2.2.2.2.1) cs) cS ⟨none,0,0⟩) ?_
  refine Z1 (C4P (X:=A0p nb ob ib x.aD) (T:=A1j E T) (c:=x.c) (o:=A0O 9 (p.2.2.2.2.1) cs) (ci:=cS) (pi:=⟨none,0,0⟩) (by show T.outs.length≤_;omega) (At.bD ?_))
  obtain⟨O,hO⟩:∃O,O=A8x T.outs.length cS ⟨none,0,0⟩ (A0O 9 (p.2.2.2.2.1) cs):=⟨_,rfl⟩
  obtain⟨T1,bF⟩:∃T1,T1=A0t ⟨x.c,A0O 9 (p.2.2.2.2.1) cs,false⟩ (A1j E T):=⟨_,rfl⟩
  have xG:A8V O:=by rw[hO];exact C7v
  have aF:j7 T1.b:=by rw[bF];exact hX
  have ef:T1.b.kept=T.b.kept:=by rw[bF]
  have tR:T1.b.aB=T.b.aB:=by rw[bF]
  have jg:T1.b.aD.map (·.id)=T.b.aD.map (·.id):=by rw[bF]
  have fT:T1.outs.length≤10000001:=by rw[bF];show(T.outs++[_]).length≤_;rw[B4];simp only[B7,G8];omega
  have hF:(added x.aD sl T.b.aH).foldl (j4 x.aD) T1=(added x.aD sl T.b.aH).foldl (j4 x.aD) (A0t ⟨x.c,A0O 9 (p.2.2.2.2.1) cs,false⟩ (A1j E T)):=by rw[bF]
  show W (rbX r full (A0p nb ob ib x.aD) (A8x T.outs.length cS ⟨none,0,0⟩ (A0O 9 (p.2.2.2.2.1) cs)) (A0t ⟨x.c,A0O 9 (p.2.2.2.2.1) cs,false⟩ (A1j E T))::_) _ _
  rw[←bF,←hO]
  rw[←hF] at hq
  clear hF
  obtain⟨FF,vE⟩:∃FF,FF=(added x.aD sl T.b.aH).foldl (j4 x.aD) T1:=⟨_,rfl⟩
  rw[←vE] at hq
  refine W.loop (γ:=Nat×U7×List Ent) (fun g s=>s.1=(g.1:Int)∧g.1≤sl.length∧j7 g.2.1.b∧g.2.1.b.kept=T.b.kept∧g.2.1.b.aB=T.b.aB∧g.2.1.b.aD.map (·.id)=T.b.aD.map (·.id)∧(added x.aD (sl.drop g.1) g.2.2).foldl (j4 x.aD) g.2.1=FF∧g.2.1.outs.length≤10000001+20480*g.1∧cs.drop g.1=(j8 x.aD (sl.drop g.1) g.2.2).2)
   (fun g s=>rbX r full (A0p nb ob ib x.aD) O g.2.1::U4 (eKd .i64) 1 cS cs::cells x3 (W7 .i64 (pkT (Z7 9 (p.2.2.2.2.1) 0) cS ⟨none,0,0⟩)).toArray::cells x1 (aS2 p)::U4 X9 5 (A0z p) sl::L2) (fun g=>sl.length-g.1) (0,T1,T.b.aH) ⟨rfl,C9 _,aF,ef,tR,jg,vE.symm,fT,iW⟩ ?_ ?_
  ·show Sub _ (rbX r full (A0p nb ob ib x.aD) O T1::U4 (eKd .i64) 1 cS cs::cells x3 (W7 .i64 (pkT (Z7 9 (p.2.2.2.2.1) 0) cS ⟨none,0,0⟩)).toArray::cells x1 (aS2 p)::U4 X9 5 (A0z p) sl::L2)
   repeat(first|with_reducible exact T5|with_reducible exact T6|refine T7 (by repeat first|with_reducible exact U9|apply V1) ?_|refine T8 ?_)
  rintro⟨j,T2,E2⟩ s2 ⟨hj,tv,bU,gm,kX,jf,fS,dw,eu⟩ K2 m1 m2
  simp only at hj tv bU gm kX jf fS dw eu
  refine W.load (b:=x1) (v:=A0z p) ?_
  by_cases bB:j<sl.length
  ·refine X7 (by rw[hj,hl];exact decide_eq_true (by omega)) ?_
   have bh:sl.drop j=sl[j]::sl.drop (j+1):=D9 bB
   have qk:sl[j]? =some sl[j]:=B0 bB
   have an:sl[j]∈sl:=H2 bB
   rw[bh] at fS eu
   generalize sl[j]=u at qk an fS eu
   clear bh
   have iS:=C5U (E:=E2) (id:=x.aD) (f:=u.1) (q:=u.2.1)
   have hzero:=B3d (E:=E2) (id:=x.aD) (f:=u.1) (q:=u.2.1)
   unfold added at fS
   unfold j8 at eu
   simp only at eu
   generalize A2G E2 x.aD u.1 u.2.1=rr at iS hzero fS eu
   obtain⟨oN,fC⟩:∃h:j<cs.length,cs[j]=(if rr.1=0 then u.2.1 else rr.1):=by
    have ah:j<cs.length:=by
     rcases S6 j cs.length with h|h
     ·exact h
     ·rw[List.drop_eq_nil_of_le h] at eu;cases eu
    rw[D9 ah] at eu
    injection eu with h1 h2
    exact⟨ah,h1⟩
   have kS:cs[j]? =some (if rr.1=0 then u.2.1 else rr.1):=by rw[B0 oN,fC]
   have vn:cs.drop (j+1)=(j8 x.aD (sl.drop (j+1)) rr.2).2:=by
    rw[D9 oN] at eu
    injection eu
   clear fC eu
   refine X2 (W.load (b:=x1) (v:=A0z p) ?_)
   refine X2 (e8 (enc:=X9) (xs:=sl) (i:=j) bB (fun a ha=>?_) (he:=hj))
   refine X2 (B3e (x:=u) (v:=sbU u) ha qk ?_)
   refine X2 (Y0 fun me=>?_)
   refine X2 (A0a ?_)
   refine X2 (A07 (fun a=>a.1=(decide (rr.1≠0)||decide (u.2.2.2.2=2))) (fun K4 gO=>?_) (fun a jT=>?_))
   ·refine W.load (b:=x3) (v:=cS) ?_
    refine e8 (enc:=eKd .i64) (xs:=cs) (i:=j) oN (fun a3 iU=>?_) (he:=hj)
    refine B6G (x:=(if rr.1=0 then u.2.1 else rr.1)) (v:=(if rr.1=0 then u.2.1 else rr.1)) iU kS ?_
    by_cases hr:rr.1=0
    ·rw[if_pos hr]
     refine W6 (decide_eq_false (by have:=(hzero hr).2;omega)) ?_
     refine W.load (b:=me) (v:=u.2.2.2.2) ?_
     refine U1 (At.sub (gO _ ?_))
     by_cases e:u.2.2.2.2=2<;>simp[hr,e]
    ·rw[if_neg hr]
     refine X7 (decide_eq_true (iS hr)) ?_
     refine U1 (At.sub (gO _ ?_))
     simp[hr]
   obtain⟨ab,_⟩:=a
   simp only at jT
   subst jT
   have f1:IntKind.wrap .i64 (s2.1+1)=((j+1:Nat):Int):=by rw[hj,V5 (by omega) (by omega)];rfl
   by_cases hr:rr.1=0
   ·rw[if_pos hr,G4,F2,I0] at fS
    have jV:T2.b.kept.length≤64:=by rw[gm];exact hz.k64
    have qf:=A7n (id:=x.aD) T2 u jV bU
    have aw:At (rbX r full (A0p nb ob ib x.aD) O (j4 x.aD T2 u)::U4 (eKd .i64) 1 cS cs::cells x3 (W7 .i64 (pkT (Z7 9 (p.2.2.2.2.1) 0) cS ⟨none,0,0⟩)).toArray::cells x1 (aS2 p)::U4 X9 5 (A0z p) sl::L2) (K2 (.inl (IntKind.wrap .i64 (s2.1+1),()))):=by
     refine m1 (j+1,j4 x.aD T2 u,rr.2) (IntKind.wrap .i64 (s2.1+1),()) (by simp only;omega) ⟨f1,bB,qf.ok,(A7o T2 u).trans gm,(A9R T2 u).trans kX,(B3M T2 u).trans jf,fS,?_,vn⟩
     have:=qf.outs;simp only;omega
    clear m1 m2 fS
    by_cases h2:u.2.2.2.2=2
    ·refine A1d (by simp[h2]) ?_
     have e:j4 x.aD T2 u=T2:=if_pos h2
     rw[e] at aw
     exact b7 (U1 aw.sub)
    ·refine l7 (by simp[hr,h2]) ?_
     have e:j4 x.aD T2 u=(A51 T2.b.kept u.1).foldl (A0H x.aD u) T2:=if_neg h2
     rw[e] at aw
     refine X2 (W3 ?_)
     refine A2b (g:=fun q R=>B1j r full (A0p nb ob ib x.aD) O T2 q R) (fun h R=>A0r.1) fun q=>?_
     refine X2 (i7 (b:=r) (i:=2) (v:=some ⟨q.kb,0,none⟩) ?_)
     refine X2 (W.load (b:=me) (v:=u.1) ?_)
     refine X2 (b6 (C7s (b:=q.kb) (K:=T2.b.kept) (f:=u.1) jV (fun m hm=>hz.kept m (gm▸hm)) (hsz u an) (fun S=>At.un (x:=S) ?_)))
     refine W.dX (X:=A0p nb ob ib x.aD) (O:=O) T2 q ?_
     have tE:(A51 T2.b.kept u.1).length≤64:=C4 (D1 _ _) jV
     generalize A51 T2.b.kept u.1=M at tE aw⊢
     refine Y2 (X1 (enc:=z6) (size:=3) (s:=S) (xs:=M)) fun kQ=>?_
     refine X2 (W.loop (γ:=Nat×U7) (fun g s=>s.1=(g.1:Int)∧g.1≤M.length∧j7 g.2.b∧g.2.b.aB=T.b.aB∧g.2.b.aD.map (·.id)=T.b.aD.map (·.id)∧(M.drop g.1).foldl (A0H x.aD u) g.2=M.foldl (A0H x.aD u) T2∧g.2.outs.length≤20000000+320*g.1)
      (fun g s=>rbX r full (A0p nb ob ib x.aD) O g.2::U4 z6 3 S M::cells me (X9 u).toArray::U4 (eKd .i64) 1 cS cs::cells x3 (W7 .i64 (pkT (Z7 9 (p.2.2.2.2.1) 0) cS ⟨none,0,0⟩)).toArray::cells x1 (aS2 p)::U4 X9 5 (A0z p) sl::L2) (fun g=>M.length-g.1) (0,T2) ⟨rfl,C9 _,bU,kX,jf,rfl,by simp only;omega⟩ ?_ ?_)
     ·show Sub _ (rbX r full (A0p nb ob ib x.aD) O T2::U4 z6 3 S M::cells me (X9 u).toArray::U4 (eKd .i64) 1 cS cs::cells x3 (W7 .i64 (pkT (Z7 9 (p.2.2.2.2.1) 0) cS ⟨none,0,0⟩)).toArray::cells x1 (aS2 p)::U4 X9 5 (A0z p) sl::L2)
      repeat(first|with_reducible exact T5|with_reducible exact T6|refine T7 (by repeat first|with_reducible exact U9|apply V1) ?_|refine T8 ?_)
     rintro⟨l,T3⟩ s3 ⟨gl,rv,cR,nS,oI,ik,nW⟩ K3 n1 n2
     simp only at gl rv cR nS oI ik nW
     by_cases cT:l<M.length
     ·refine X7 (by rw[gl,kQ];exact decide_eq_true (by omega)) ?_
      have im:M.drop l=M[l]::M.drop (l+1):=D9 cT
      have nP:M[l]? =some M[l]:=B0 cT
      rw[im,I0] at ik
      generalize M[l]=m at nP ik
      have qg:=B0s (id:=x.aD) (s:=u) T3 m cR
      have ee:At (rbX r full (A0p nb ob ib x.aD) O (A0H x.aD u T3 m)::U4 z6 3 S M::cells me (X9 u).toArray::U4 (eKd .i64) 1 cS cs::cells x3 (W7 .i64 (pkT (Z7 9 (p.2.2.2.2.1) 0) cS ⟨none,0,0⟩)).toArray::cells x1 (aS2 p)::U4 X9 5 (A0z p) sl::L2) (K3 (.inl (IntKind.wrap .i64 (s3.1+1),()))):=by
       refine n1 (l+1,A0H x.aD u T3 m) (IntKind.wrap .i64 (s3.1+1),()) (by simp only;omega) ⟨?_,cT,qg.ok,A5C.trans nS,A80.trans oI,ik,?_⟩
       ·simp only[gl];rw[V5 (by omega) (by omega)];rfl
       ·have:=qg.outs;simp only;omega
      clear n1 n2 ik
      have e9:∀s4∈T3.b.aD,s4.id=x.aD→A0H x.aD u T3 m=q7 x.aD (Y1 s4.out (m.1,m.2.1,min m.2.2.1 u.2.1,true,e0S)).1.2 (A0C (X8 x.aD (Y6 (Y1 s4.out (m.1,m.2.1,min m.2.2.1 u.2.1,true,e0S)).1.1) T3.b.aD) T3):=fun s4 ak hid=>by
       unfold A0H A0M
       rw[A3i cR.nd ak hid]
      refine e8 (enc:=z6) (xs:=M) (i:=l) cT (fun a3 iU=>?_) (he:=gl)
      refine A3Q (k:=2) (x:=m) (v:=m.2.2.1) iU nP ?_
      refine W.load (b:=me) (v:=u.2.1) ?_
      refine b6 (C2D (a:=m.2.2.1) (b:=u.2.1) (At.un ?_))
      refine W3 ?_
      refine A2b (g:=fun q R=>B1j r full (A0p nb ob ib x.aD) O T3 q R) (fun h R=>A0r.1) fun q2=>?_
      refine B68 (fun h R hs=>(A4X (b:=q2.tb) (last:=T3.b.last) (A:=T3.b.aD)).1 hs) fun s4 ak=>?_
      rw[e9 s4 ak.1 ak.2] at ee
      have cX:=A3Y (cR.bM s4 ak.1) (m.1,m.2.1,min m.2.2.1 u.2.1,true,e0S)
      refine W.load (b:=nb) (v:=some ⟨ob,0,none⟩) ?_
      refine e8 (enc:=z6) (xs:=M) (i:=l) cT (fun a4 ua=>?_) (he:=gl)
      refine A3Q (k:=0) (x:=m) (v:=m.1) ua nP ?_
      refine e8 (enc:=z6) (xs:=M) (i:=l) cT (fun a5 qL=>?_) (he:=gl)
      refine A3Q (k:=1) (x:=m) (v:=m.2.1) qL nP ?_
      refine Z1 (B9E (b:=ob) (o:=s4.out) (m:=(m.1,m.2.1,min m.2.2.1 u.2.1,true,e0S)) (cR.bM s4 ak.1) (fun S2=>At.bD (x:=(S2,(Y1 s4.out (m.1,m.2.1,min m.2.2.1 u.2.1,true,e0S)).2,())) ?_))
      refine B0H (A:=A0p nb ob ib x.aD q2.tb T3.b.last (X8 x.aD (Y6 (Y1 s4.out (m.1,m.2.1,min m.2.2.1 u.2.1,true,e0S)).1.1) T3.b.aD)) (B:=cells nb (rqC s4 ob ib)) (C:=a8 ob (Y1 s4.out (m.1,m.2.1,min m.2.2.1 u.2.1,true,e0S)).1.1) (D:=A01 ib s4.aZ) (E:=A2Y q2.tb T3.b.last T3.b.aD s4 nb) (fun h hs=>B0c (f:=Y6 (Y1 s4.out (m.1,m.2.1,min m.2.2.1 u.2.1,true,e0S)).1.1) ak.1 ak.2 cR.nd rfl rfl h hs) ?_
      refine W3 ?_
      refine C29 ?_
      refine W.dX (X:=A0p nb ob ib x.aD) (O:=O) (A0C (X8 x.aD (Y6 (Y1 s4.out (m.1,m.2.1,min m.2.2.1 u.2.1,true,e0S)).1.1) T3.b.aD) T3) q2 ?_
      refine Z1 (A4Y (X:=A0p nb ob ib x.aD) (O:=O) (T:=A0C (X8 x.aD (Y6 (Y1 s4.out (m.1,m.2.1,min m.2.2.1 u.2.1,true,e0S)).1.1) T3.b.aD) T3) (id:=x.aD) (ps:=(Y1 s4.out (m.1,m.2.1,min m.2.2.1 u.2.1,true,e0S)).1.2) xG (cR.one x.aD) (by have:=cX.2;show T3.outs.length+_≤_;omega) (by show T3.b.aB.length≤_;rw[nS];exact hz.aB) (At.bD ?_))
      exact U1 ee.sub
     ·refine W6 (by rw[gl,kQ];exact decide_eq_false (by omega)) (U1 (n2 _ _ (b7 (U1 ?_))))
      have hle:l=M.length:=by omega
      subst hle
      rw[J7,P3] at ik
      rw[←ik] at aw
      exact aw.sub
   ·rw[if_neg hr,F2] at fS
    have aw:=m1 (j+1,T2,rr.2) (IntKind.wrap .i64 (s2.1+1),()) (by simp only;omega) ⟨f1,bB,bU,gm,kX,jf,fS,by simp only;omega,vn⟩
    refine A1d (by simp[hr]) ?_
    exact b7 (U1 aw.sub)
  ·refine W6 (by rw[hj,hl];exact decide_eq_false (by omega)) (U1 (m2 _ _ ?_))
   have jX:j=sl.length:=by omega
   subst jX
   rw[J7] at fS
   simp only[added,P3] at fS
   rw[←fS] at hq
   subst hO
   refine A3p W8 4 ?_
   refine W.cZ (A:=pkB .i64 (cS,⟨none,0,0⟩,A0O 9 (p.2.2.2.2.1) cs)) (B:=U4 (eKd .i64) 1 cS cs) (C:=U4 W8 4 ⟨none,0,0⟩ ([]:List o8)) (fun h hs=>A4B.2 hs) ?_
   refine W.cZ (A:=rbX r full (A0p nb ob ib x.aD) (V8 .i64) T2) (B:=rbX r full (A0p nb ob ib x.aD) (A8x T.outs.length cS ⟨none,0,0⟩ (A0O 9 (p.2.2.2.2.1) cs)) T2) (C:=pkB .i64 (cS,⟨none,0,0⟩,A0O 9 (p.2.2.2.2.1) cs)) (fun h hs=>C4V h hs) ?_
   refine B9j (A:=rbX r full (A0p nb ob ib x.aD) (V8 .i64) T2) (B:=rbA r full (V8 .i64) T2) (fun h R hs=>A6y h R hs) ?_
   exact U1 hq.sub
end
section
open Go.H Go.Proofs
variable {h h0:Heap} {L L' L1 L2 L3 L4 R:List Asn} {Q:Value→Heap→Prop}
structure C52(p:Pk)(pl:List o8)(sl:List A0w)(fl:List B3O):Prop where
 cC:p.2.2.2.2.2.1.size≤9223372036854775800
 aC:(p.2.2.2.2.2.2.2.2.2.2.1).size≤9223372036854775800
 aX:(p.2.2.2.2.2.2.2.2.2.2.2.2.2.2.1).size≤9223372036854775800
 props:pl.length≤100
 aH:sl.length≤100
 sub:∀s∈sl,s.1.size≤9223372036854775800
 eR:fl.length≤100
theorem C7p{r n nb ob ib:Nat}{full:Bool}{T:U7}{x:Y3}{p:Pk}{pl:List o8}{sl:List A0w}{fl:List B3O}(ag:X3 T.b n)(hz:Szs T.b)(dY:∀s∈T.b.aD,s.aZ.ok)(hc:A04 x.c T.b.aB=some x)(hb:T.outs.length≤10000000)(hp:T.aT.length≤100000000)(dA:C52 p pl sl fl)
  (hq:At (rbA r full (V8 .i64) (A9t full x (pkI p pl sl fl) T)::L3) (Q (.tuple #[])))(hx:Has L (rbX r full (A0p nb ob ib x.aD) (V8 .i64) T) L1:=by repeat first|with_reducible exact U9|apply V1)(hy:Has L1 (U4 X9 5 (A0z p) sl) L2:=by repeat first|with_reducible exact U9|apply V1)(hw:Has L2 (U4 v8 1 (A4k p) fl) L3:=by repeat first|with_reducible exact U9|apply V1):
  FW prog 91 #[at0 r,.int .i64 x.c,at0 nb,A2p .i64 p] L Q:=by
 refine fun h hs=>B35 (some ⟨r,0,none⟩) x.c (some ⟨nb,0,none⟩) p h Q ((?_:W (rbX r full (A0p nb ob ib x.aD) (V8 .i64) T::U4 X9 5 (A0z p) sl::U4 v8 1 (A4k p) fl::L3) _ _) h ((hx.cV hy hw).s hs))
 clear hs h hx hy hw
 have vJ:=ag.s2k
 obtain⟨T9,aK⟩:∃T9,T9=A9t full x (pkI p pl sl fl) T:=⟨_,rfl⟩
 rw[←aK] at hq
 unfold A9t at aK
 dsimp only at aK
 delta B7i az bn cx g2 ie jc ji ki kp nn nw pu ve vi vs vz
 refine Y0 fun x1=>?_
 refine Y2 (X1 (enc:=X9) (size:=5) (s:=A0z p) (xs:=sl)) fun cG=>?_
 refine Y2 (X1 (enc:=v8) (size:=1) (s:=A4k p) (xs:=fl)) fun cn=>?_
 refine A07 (fun r=>r.1=decide (1≤p.2.2.2.2.1∧p.2.2.2.2.1≤65535)) (fun K hK=>?_) (fun rn gk=>?_)
 ·refine W.load (b:=x1) (v:=p.2.2.2.2.1) ?_
  refine A0e (fun h1=>?_) (fun h1=>?_)
  ·refine W.load (b:=x1) (v:=p.2.2.2.2.1) ?_
   refine U1 (hK _ ?_)
   simp only[decide_eq_true_eq] at h1
   simp[h1]
  ·refine U1 (hK _ ?_)
   simp only[decide_eq_false_iff_not] at h1
   simp[h1]
 refine W.load (b:=x1) (v:=p.1) ?_
 refine A07 (fun r=>r.1=decide (p.1=3∨p.1=6)) (fun K hK=>?_) (fun r1 fr=>?_)
 ·refine A0e (fun g0=>U1 (hK _ ?_)) (fun g0=>U1 (hK _ ?_))
  ·simp only[P8] at g0;simp[g0]
  simp only[H4,ne_eq] at g0
  by_cases e:p.1=6
  ·simp[e]
  ·simp[e,g0]
 by_cases hk:p.1=3∨p.1=6
 ·rw[if_pos hk] at aK
  subst aK
  refine X7 (by rw[fr];exact decide_eq_true hk) ?_
  refine q8 (b:=x1) (v:=p) ?_
  refine Z1 (C6n (O:=V8 .i64) (T:=T) (x:=x) (p:=p) (pl:=pl) (sl:=sl) (fl:=fl) A31 ag.toj7 hz dY hc (by omega) (by omega) dA.cC (At.bD ?_))
  exact U1 hq.sub
 rw[if_neg hk] at aK
 refine W6 (by rw[fr];exact decide_eq_false hk) ?_
 clear fr hk
 refine A07 (fun r=>r.1=decide (p.1=4∨p.1=5∨p.1=7)) (fun K hK=>?_) (fun r2 cI=>?_)
 ·refine A0e (fun g0=>U1 (hK _ ?_)) (fun g0=>?_)
  ·simp only[P8] at g0;simp[g0]
  refine C8c (fun g1=>b7 (U1 (hK _ ?_))) (fun g1=>b7 (U1 (hK _ ?_)))
  ·simp only[P8] at g1;simp[g1]
  simp only[H4,ne_eq] at g0;simp only[H4,ne_eq] at g1
  by_cases e:p.1=7
  ·simp[e]
  ·simp[e,g0,g1]
 by_cases hk:p.1=4∨p.1=5∨p.1=7
 ·rw[if_pos hk] at aK
  refine X7 (by rw[cI];exact decide_eq_true hk) ?_
  unfold A3V A0M at aK
  refine W3 ?_
  refine A2b (g:=fun q R=>B1j r full (A0p nb ob ib x.aD) (V8 .i64) T q R) (fun h R=>A0r.1) fun q=>?_
  refine B68 (fun h R hs=>(A4X (b:=q.tb) (last:=T.b.last) (A:=T.b.aD)).1 hs) fun s hs=>?_
  obtain⟨hs,hid⟩:=hs
  simp only[A3i ag.nd hs hid] at aK
  have cX:=B4G (ag.bM s hs) p.1 p.2.2.2.2.1 p.2.2.2.2.2.2.2.1
  have qt:=C0Q (o:=s.out) (k:=p.1) (id:=p.2.2.2.2.1) (c:=p.2.2.2.2.2.2.2.1)
  refine W.load (b:=nb) (v:=some ⟨ob,0,none⟩) ?_
  refine q8 (b:=x1) (v:=p) ?_
  refine Z1 (C6o (b:=ob) (o:=s.out) (p:=p) (ag.bM s hs) (fun S=>At.bD (x:=(S,(A0S s.out p.1 p.2.2.2.2.1 p.2.2.2.2.2.2.2.1).2,())) ?_))
  generalize A0S s.out p.1 p.2.2.2.2.1 p.2.2.2.2.2.2.2.1=rr at aK cX qt⊢
  by_cases av:rr.2=0
  ·rw[if_neg (by simpa using av)] at aK
   refine W6 (by simp[av]) ?_
   refine B0H (A:=A0p nb ob ib x.aD q.tb T.b.last (X8 x.aD (Y6 rr.1.1) T.b.aD)) (B:=cells nb (rqC s ob ib)) (C:=a8 ob rr.1.1) (D:=A01 ib s.aZ) (E:=A2Y q.tb T.b.last T.b.aD s nb) (fun h ae=>B0c (f:=Y6 rr.1.1) hs hid ag.nd rfl rfl h ae) ?_
   refine W3 ?_
   refine C29 ?_
   refine W.dX (X:=A0p nb ob ib x.aD) (O:=V8 .i64) (A0C (X8 x.aD (Y6 rr.1.1) T.b.aD) T) q ?_
   refine Z1 (A4Y (X:=A0p nb ob ib x.aD) (O:=V8 .i64) (T:=A0C (X8 x.aD (Y6 rr.1.1) T.b.aD) T) (id:=x.aD) (ps:=rr.1.2) A31 (ag.one x.aD) (by have:=cX.2;simp only;omega) hz.aB (At.bD ?_))
   subst aK
   refine B9j (A:=rbX r full (A0p nb ob ib x.aD) (V8 .i64) (q7 x.aD rr.1.2 (A0C (X8 x.aD (Y6 rr.1.1) T.b.aD) T))) (B:=rbA r full (V8 .i64) (q7 x.aD rr.1.2 (A0C (X8 x.aD (Y6 rr.1.1) T.b.aD) T))) (fun h R hs=>A6y h R hs) ?_
   exact U1 hq.sub
  ·rw[if_pos (by simpa using av)] at aK
   refine X7 (by simp[av]) ?_
   rw[qt av]
   refine B0H (A:=A0m q.tb T.b.last T.b.aD) (B:=cells nb (rqC s ob ib)) (C:=a8 ob s.out) (D:=A01 ib s.aZ) (E:=A2Y q.tb T.b.last T.b.aD s nb) (fun h ae=>A6s h ae) ?_
   refine W.rb (O:=V8 .i64) T q ?_
   refine Z1 (A3B (O:=V8 .i64) (T:=T) (c:=x.c) (code:=rr.2) A31 ag.toj7 hz (by omega) (by omega) (At.bD ?_))
   subst aK
   exact U1 hq.sub
 rw[if_neg hk] at aK
 refine W6 (by rw[cI];exact decide_eq_false hk) ?_
 clear cI hk
 have sW:∀h R,sat h (rbX r full (A0p nb ob ib x.aD) (V8 .i64) T::R)→sat h (rbA r full (V8 .i64) T::R):=fun h R hs=>A6y h R hs
 by_cases h8:p.1=8
 ·refine A1d (by simpa using h8) ?_
  refine X2 (A07 (fun r=>r.1=decide (1≤p.2.2.2.2.1∧p.2.2.2.2.1≤65535∧sl≠[])) (fun K hK=>?_) (fun r3 kL=>?_))
  ·refine A0e (fun g1=>?_) (fun g1=>U1 (hK _ ?_))
   ·rw[gk] at g1
    refine W.load (b:=x1) (v:=A0z p) ?_
    refine U1 (hK _ ?_)
    have g1:=of_decide_eq_true g1
    cases sl with
    |nil=>simp[cG]
    |cons a l=>simp[cG,g1]
   ·rw[gk] at g1
    have g1:=of_decide_eq_false g1
    exact(decide_eq_false fun e=>g1 ⟨e.1,e.2.1⟩).symm
  by_cases hk:1≤p.2.2.2.2.1∧p.2.2.2.2.1≤65535∧sl≠[]
  ·rw[if_pos ⟨h8,hk⟩] at aK
   subst aK
   refine A1d (by rw[kL];exact decide_eq_true hk) ?_
   refine X2 (q8 (b:=x1) (v:=p) ?_)
   refine X2 (Z1 (B8p (T:=T) (x:=x) (p:=p) (pl:=pl) (sl:=sl) (fl:=fl) ag.toj7 hz hc hb (by have:=dA.aH;omega) dA.aH dA.sub (At.bD ?_)))
   exact b7 (W.inr (U1 hq.sub))
  ·rw[if_neg (fun e=>hk e.2),if_neg (by omega),if_neg (by omega),if_neg (by omega)] at aK
   subst aK
   refine l7 (by rw[kL];exact decide_eq_false hk) ?_
   refine b7 (W.inl ?_)
   refine B9j sW ?_
   refine Z1 (A3B (O:=V8 .i64) (T:=T) (c:=x.c) (code:=130) A31 ag.toj7 hz (by omega) (by omega) (At.bD ?_))
   exact U1 hq.sub
 rw[if_neg (fun e=>h8 e.1)] at aK
 refine l7 (by simpa using h8) ?_
 refine X2 ?_
 by_cases fX:p.1=10
 ·refine A1d (by simpa using fX) ?_
  refine X2 (A07 (fun r=>r.1=decide (1≤p.2.2.2.2.1∧p.2.2.2.2.1≤65535∧fl≠[])) (fun K hK=>?_) (fun r3 kL=>?_))
  ·refine A0e (fun g1=>?_) (fun g1=>U1 (hK _ ?_))
   ·rw[gk] at g1
    refine W.load (b:=x1) (v:=A4k p) ?_
    refine U1 (hK _ ?_)
    have g1:=of_decide_eq_true g1
    cases fl with
    |nil=>simp[cn]
    |cons a l=>simp[cn,g1]
   ·rw[gk] at g1
    have g1:=of_decide_eq_false g1
    exact(decide_eq_false fun e=>g1 ⟨e.1,e.2.1⟩).symm
  by_cases hk:1≤p.2.2.2.2.1∧p.2.2.2.2.1≤65535∧fl≠[]
  ·rw[if_pos ⟨fX,hk⟩] at aK
   subst aK
   refine A1d (by rw[kL];exact decide_eq_true hk) ?_
   refine X2 (q8 (b:=x1) (v:=p) ?_)
   refine X2 (Z1 (B4T (T:=T) (x:=x) (p:=p) (pl:=pl) (sl:=sl) (fl:=fl) ag.toj7 hb dA.eR (At.bD ?_)))
   exact b7 (b7 (W.inr (U1 hq.sub)))
  ·rw[if_neg (fun e=>hk e.2),if_neg (by omega),if_neg (by omega)] at aK
   subst aK
   refine l7 (by rw[kL];exact decide_eq_false hk) ?_
   refine b7 (b7 (W.inl ?_))
   refine B9j sW ?_
   refine Z1 (A3B (O:=V8 .i64) (T:=T) (c:=x.c) (code:=130) A31 ag.toj7 hz (by omega) (by omega) (At.bD ?_))
   exact U1 hq.sub
 rw[if_neg (fun e=>fX e.1)] at aK
 refine l7 (by simpa using fX) ?_
 refine B9j sW ?_
 by_cases rE:p.1=12
 ·rw[if_pos rE] at aK
  subst aK
  refine A1d (by simpa using rE) ?_
  refine B66 (k:=.i64) (Z7 13 0 0) rfl rfl ?_
  refine X2 (Z1 (B4x (X:=A0m) (O:=V8 .i64) (T:=T) (c:=x.c) (o:=Z7 13 0 0) (ci:=⟨none,0,0⟩) (pi:=⟨none,0,0⟩) A31 (by omega) (At.bD ?_)))
  exact b7 (b7 (W.inr (U1 hq.sub)))
 rw[if_neg rE] at aK
 refine l7 (by simpa using rE) ?_
 by_cases rD:p.1=14
 ·rw[if_pos rD] at aK
  subst aK
  refine A1d (by simpa using rD) ?_
  refine X2 (W.load (b:=x1) (v:=p.2.2.2.2.2.2.2.1) ?_)
  have e:(p.2.2.2.2.2.2.2.1==4)=decide (p.2.2.2.2.2.2.2.1=4):=rfl
  refine X2 (Z1 (B8x (O:=V8 .i64) (T:=T) (c:=x.c) (aX:=p.2.2.2.2.2.2.2.1==4) A31 ag.toj7 hz (by omega) (by omega) (At.bD ?_)))
  rw[e]
  exact b7 (b7 (W.inr (U1 hq.sub)))
 rw[if_neg rD] at aK
 subst aK
 refine l7 (by simpa using rD) ?_
 refine b7 (b7 (W.inl ?_))
 refine Z1 (A3B (O:=V8 .i64) (T:=T) (c:=x.c) (code:=130) A31 ag.toj7 hz (by omega) (by omega) (At.bD ?_))
 exact U1 hq.sub
end
section
open Go.H Go.Proofs
variable {h h0:Heap} {L L' L1 L2 L3 L4 R:List Asn} {Q:Value→Heap→Prop}
theorem C2B{b:Nat}:∀h,sat h (cells b #[.int .i64 0,.slice none 0 0]::R)→sat h (A0m b 0 []::R):=fun h hs=>by
 have h1:=Z3 (enc:=eQ) (size:=1) hs
 have h2:sat h (a7 (fun p:Nat×V7=>rsA p.1 p.2) []::U4 eQ 1 ⟨none,0,0⟩ []::cells b #[.int .i64 0,.slice none 0 0]::R):=A2u.2 h1
 exact A0U.2 ⟨⟨none,0,0⟩,[],rfl,h2.re [2,1,0]⟩
theorem C4N{b:Nat}{last:Int}{A:List V7}:∀h R,sat h (A0m b last A::R)→∃(S:Slc) (M:{M:List (Nat×V7) // M.map (·.2)=A}),sat h (cells b #[.int .i64 last,.slice S.a S.len S.cap]::U4 eQ 1 S (M.1.map (·.1))::a7 (fun p=>rsA p.1 p.2) M.1::R):=fun h R hs=>by
 obtain⟨S,M,hM,h1⟩:=A0U.1 hs
 exact⟨S,⟨M,hM⟩,h1⟩
theorem C3B{r n:Nat}{full:Bool}{T:U7}{p:Pk}{pl:List o8}{sl:List A0w}{fl:List B3O}(ag:X3 T.b n)(hz:Szs T.b)(dA:C52 p pl sl fl)
  (hq:At (rbA r full (V8 .i64) T::L1) (Q (.int .i64 (A59 (pkI p pl sl fl) T.b))))(hx:Has L (rbA r full (V8 .i64) T) L1:=by repeat first|with_reducible exact U9|apply V1):
  FW prog 147 #[at0 r,A2p .i64 p] L Q:=by
 refine fun h hs=>B0i (some ⟨r,0,none⟩) p h Q ((?_:W (rbA r full (V8 .i64) T::L1) _ _) h (hx.s hs))
 clear hs h hx
 unfold A59 at hq
 dsimp only at hq
 delta B01 ad az bn ci cp ie jb jt kc kp kt nn nw pu vi vz
 refine Y0 fun x1=>?_
 refine i7 (b:=x1) (i:=14) (v:=p.2.2.2.2.2.2.2.2.2.2.2.2.2.2.1) ?_
 refine b6 (C2I dA.aX (At.un (x:=A2t (p.2.2.2.2.2.2.2.2.2.2.2.2.2.2.1)) ?_))
 refine A07 (fun r=>r.1=(p.2.2.2.2.2.2.2.2.2.2.2.2.2.1&& !Y8 (p.2.2.2.2.2.2.2.2.2.2.2.2.2.2.1))) (fun K hK=>?_) (fun r0 hr=>?_)
 ·refine W.load (b:=x1) (v:=p.2.2.2.2.2.2.2.2.2.2.2.2.2.1) ?_
  refine A0e (fun h3=>?_) (fun h3=>?_)
  ·refine U1 (At.sub (hK _ ?_))
   simp only[h3,G2]
   unfold A2t
   cases Y8 (p.2.2.2.2.2.2.2.2.2.2.2.2.2.2.1)<;>rfl
  ·refine U1 (hK _ ?_)
   simp[h3]
 obtain⟨r0,_⟩:=r0
 simp only at hr
 subst hr
 refine A0e (fun h1=>?_) (fun h1=>?_)
 ·rw[if_pos (by simpa using h1)] at hq
  exact U1 hq.sub
 rw[if_neg (by simpa using h1)] at hq
 refine W3 ?_
 refine A2b (g:=fun q R=>rbL r full (V8 .i64) T q R) (fun h R=>A0G.1) fun q=>?_
 refine Y2 (X1 (enc:=y9) (size:=8) (s:=q.sc) (xs:=T.b.aB)) fun hl=>?_
 refine i7 (b:=r) (i:=3) (v:=q.sc) ?_
 by_cases rC:64≤T.b.aB.length
 ·rw[if_pos rC] at hq
  refine X7 (by rw[hl];exact decide_eq_true (by omega)) ?_
  refine W.rb (O:=V8 .i64) T q ?_
  exact U1 hq.sub
 rw[if_neg rC] at hq
 refine W6 (by rw[hl];exact decide_eq_false (by omega)) ?_
 refine Y0 fun x8=>?_
 refine C7a (A:=A0m x8 0 []) (B:=cells x8 #[.int .i64 0,.slice none 0 0]) (fun h hs=>C2B h hs) ?_
 refine W.load (b:=x1) (v:=p.2.2.2.2.2.2.2.2.2.2.1) ?_
 refine Z1 (B9R (b:=x8) (last:=0) (A:=[]) (c:=p.2.2.2.2.2.2.2.2.2.2.1) (clean:=false) (aN:=false) dA.aC (S5 _) (by decide) (by simp) (by simp) (by simp) (At.bD (x:=((u7 0 [] (p.2.2.2.2.2.2.2.2.2.2.1) false false).1.2.1,(u7 0 [] (p.2.2.2.2.2.2.2.2.2.2.1) false false).1.2.2,(u7 0 [] (p.2.2.2.2.2.2.2.2.2.2.1) false false).1.1,())) ?_))
 have j':(u7 0 [] (p.2.2.2.2.2.2.2.2.2.2.1) false false).1.1=if Z6 (p.2.2.2.2.2.2.2.2.2.2.1) then 0 else 133:=by
  unfold u7
  by_cases hg:Z6 (p.2.2.2.2.2.2.2.2.2.2.1)
  ·simp[hg,ofS]
  ·simp[hg]
 by_cases hg:Z6 (p.2.2.2.2.2.2.2.2.2.2.1)
 case neg=>
  rw[if_pos hg] at hq
  refine X7 (by rw[j',if_neg hg];rfl) ?_
  refine W.rb (O:=V8 .i64) T q ?_
  exact U1 hq.sub
 rw[if_neg (fun e=>e hg)] at hq
 refine W6 (by rw[j',if_pos hg];rfl) ?_
 clear j'
 refine W3 ?_
 refine i7 (b:=r) (i:=0) (v:=some ⟨q.tb,0,none⟩) ?_
 refine W.load (b:=x1) (v:=p.2.2.2.2.2.2.2.2.2.2.1) ?_
 refine b6 (B8A (b:=q.tb) (last:=T.b.last) (A:=T.b.aD) (c:=p.2.2.2.2.2.2.2.2.2.2.1) hz.aD ag.eA (fun ho=>At.un (x:=none) ?_) (fun s ho nb ob ib=>At.un (x:=some ⟨nb,0,none⟩) ?_))
 ·rw[ho] at hq
  refine A1d rfl ?_
  refine X2 (W3 ?_)
  refine X2 (i7 (b:=r) (i:=0) (v:=some ⟨q.tb,0,none⟩) ?_)
  refine X2 (W3 ?_)
  refine A8U (g:=fun S (M:{M:List (Nat×V7) // M.map (·.2)=T.b.aD}) R=>cells q.tb #[.int .i64 T.b.last,.slice S.a S.len S.cap]::U4 eQ 1 S (M.1.map (·.1))::a7 (fun p=>rsA p.1 p.2) M.1::R) (fun h R hs=>C4N h R hs) fun S M=>?_
  refine Y2 (X1 (enc:=eQ) (size:=1) (s:=S) (xs:=M.1.map (·.1))) fun fg=>?_
  have wX:(M.1.map (·.1)).length=T.b.aD.length:=by have:=congrArg List.length M.2;rw[B9] at this;rw[B9];exact this
  rw[wX] at fg
  refine X2 (W.load (b:=q.tb) (v:=S) ?_)
  refine B2b (A:=A0m q.tb T.b.last T.b.aD) (B:=cells q.tb #[.int .i64 T.b.last,.slice S.a S.len S.cap]) (C:=U4 eQ 1 S (M.1.map (·.1))) (D:=a7 (fun p=>rsA p.1 p.2) M.1) (fun h hs=>A0U.2 ⟨S,M.1,M.2,hs⟩) ?_
  refine W.rb (O:=V8 .i64) T q ?_
  refine b7 ?_
  by_cases ea:32≤T.b.aD.length
  ·rw[if_pos ⟨rfl,ea⟩] at hq
   refine X7 (by rw[fg];exact decide_eq_true (by omega)) ?_
   exact U1 hq.sub
  ·rw[if_neg (fun e=>ea e.2)] at hq
   refine W6 (by rw[fg];exact decide_eq_false (by omega)) ?_
   exact U1 hq.sub
 ·rw[ho,if_neg (by simp)] at hq
  refine l7 rfl (b7 ?_)
  refine W6 rfl ?_
  refine B0H (A:=A0m q.tb T.b.last T.b.aD) (B:=cells nb (rqC s ob ib)) (C:=a8 ob s.out) (D:=A01 ib s.aZ) (E:=A2Y q.tb T.b.last T.b.aD s nb) (fun h ae=>A6s h ae) ?_
  refine W.rb (O:=V8 .i64) T q ?_
  exact U1 hq.sub
end
section
open Go.H Go.Proofs
variable {h h0:Heap} {L L' L1 L2 L3 L4 R:List Asn} {Q:Value→Heap→Prop}
theorem C6U{α β γ:Type}{m:HM γ}{f:γ→HM α}{g:α→HM β}{Q':β→Heap→Prop}(hw:W L (HM.bind (HM.bind m f) g) Q'):W L (HM.bind m fun x=>HM.bind (f x) g) Q':=hw
theorem C3S{full:Bool}{c:B3O}{T:U7}(h:j7 T.b)(ca:(T.b.aB.map (·.c)).Nodup):(A0W full c T).b.aB.length≤T.b.aB.length:=by
 unfold A0W
 split
 ·rw[(C0b h ca).2.2.2.1];exact D1 _ _
 ·exact D6 _
theorem C1j{r n:Nat}{full:Bool}{T:U7}{c:Int}{p:Pk}{pl:List o8}{sl:List A0w}{fl:List B3O}(ag:X3 T.b n)(hn:n≤1000000)(hz:Szs T.b)(ia:A04 c T.b.aB=none)(bR: -9223372036854775808≤c∧c≤9223372036854775807)(hb:T.outs.length≤10000000)(hp:T.aT.length≤100000000)(dA:C52 p pl sl fl)
  (hq:At (rbA r full (V8 .i64) (A1I full c (pkI p pl sl fl) T)::L2) (Q (.tuple #[])))(hx:Has L (rbA r full (V8 .i64) T) L1:=by repeat first|with_reducible exact U9|apply V1)(hy:Has L1 (U4 W8 4 (A0f p) pl) L2:=by repeat first|with_reducible exact U9|apply V1):
  FW prog 92 #[at0 r,.int .i64 c,A2p .i64 p] L Q:=by
 refine fun h hs=>A9n (some ⟨r,0,none⟩) c p h Q ((?_:W (rbA r full (V8 .i64) T::U4 W8 4 (A0f p) pl::L2) _ _) h ((hx.then hy).s hs))
 clear hs h hx hy
 have ca:=hz.nd
 delta A9K ad az bn cc ci cp cx g2 g7 ie ix jb jc ji jt kb kc ki kp kt nn nw pu rq sn sx ve vi vs vz wi
 refine Y0 fun x1=>?_
 refine q8 (b:=x1) (v:=p) ?_
 refine b6 (C3B (T:=T) (p:=p) (pl:=pl) (sl:=sl) (fl:=fl) ag hz dA (At.un (x:=A59 (pkI p pl sl fl) T.b) ?_))
 unfold A1I at hq
 obtain⟨code,hr⟩:∃code,code=A59 (pkI p pl sl fl) T.b:=⟨_,rfl⟩
 rw[←hr] at hq⊢
 by_cases av:code=0
 case neg=>
  rw[if_pos av] at hq
  refine X7 (by simp[av]) ?_
  refine B66 (k:=.i64) (Z7 2 0 code) rfl rfl ?_
  refine Z1 (B8q (X:=A0m) (O:=V8 .i64) (T:=T) (c:=c) (o:=Z7 2 0 code) (ci:=⟨none,0,0⟩) (pi:=⟨none,0,0⟩) A31 (by omega) (At.bD ?_))
  exact U1 hq.sub
 refine W6 (by simp[av]) ?_
 rw[if_neg (fun e=>e av)] at hq
 obtain⟨T1,bF⟩:∃T1,T1=A0W full (p.2.2.2.2.2.2.2.2.2.2.1) T:=⟨_,rfl⟩
 refine W3 ?_
 refine A2b (g:=fun q R=>rbL r full (V8 .i64) T q R) (fun h R=>A0G.1) fun q=>?_
 refine i7 (b:=r) (i:=0) (v:=some ⟨q.tb,0,none⟩) ?_
 refine W.load (b:=x1) (v:=(p.2.2.2.2.2.2.2.2.2.2.1)) ?_
 refine C6U ?_
 refine C2l (fun a=>a.1=match ofS (p.2.2.2.2.2.2.2.2.2.2.1) T.b.aD with|some s=>s.id|none=>0) (fun _=>rbA r full (V8 .i64) T1::cells x1 (aS2 p)::U4 W8 4 (A0f p) pl::L2) (fun K hK=>?_) (fun a ha=>?_)
 ·clear hq
  unfold A0W at bF
  refine b6 (B8A (b:=q.tb) (last:=T.b.last) (A:=T.b.aD) (c:=(p.2.2.2.2.2.2.2.2.2.2.1)) hz.aD ag.eA (fun ho=>At.un (x:=none) ?_) (fun s ho nb ob ib=>At.un (x:=some ⟨nb,0,none⟩) ?_))
  ·rw[ho] at bF hK
   simp only at bF
   subst bF
   refine W6 rfl (U1 ?_)
   refine At.rb (O:=V8 .i64) T1 q ?_
   exact(hK (0,()) rfl).sub
  ·rw[ho] at bF hK
   simp only at bF
   refine X7 rfl ?_
   refine W3 ?_
   refine W.load (b:=nb) (v:=s.id) ?_
   refine B0H (A:=A0m q.tb T.b.last T.b.aD) (B:=cells nb (rqC s ob ib)) (C:=a8 ob s.out) (D:=A01 ib s.aZ) (E:=A2Y q.tb T.b.last T.b.aD s nb) (fun h ae=>A6s h ae) ?_
   refine W.rb (O:=V8 .i64) T q ?_
   refine W.loop (γ:=Nat) (fun g s'=>s'.1=(g:Int)∧g≤T.b.aB.length∧(T.b.aB.take g).filter (fun x=>decide (x.aD=s.id))=[]) (fun g s'=>rbA r full (V8 .i64) T::cells x1 (aS2 p)::U4 W8 4 (A0f p) pl::L2) (fun g=>T.b.aB.length-g) 0 ⟨rfl,C9 _,rfl⟩ ?_ ?_
   ·show Sub _ (rbA r full (V8 .i64) T::cells x1 (aS2 p)::U4 W8 4 (A0f p) pl::L2)
    repeat(first|with_reducible exact T5|with_reducible exact T6|refine T7 (by repeat first|with_reducible exact U9|apply V1) ?_|refine T8 ?_)
   rintro i s' ⟨hi,ck,ax⟩ K' k1 k2
   refine W3 ?_
   refine A2b (g:=fun q R=>rbL r full (V8 .i64) T q R) (fun h R=>A0G.1) fun q2=>?_
   refine Y2 (X1 (enc:=y9) (size:=8) (s:=q2.sc) (xs:=T.b.aB)) fun hl=>?_
   refine i7 (b:=r) (i:=3) (v:=q2.sc) ?_
   by_cases ah:i<T.b.aB.length
   ·refine X7 (by rw[hi,hl];exact decide_eq_true (by omega)) ?_
    have aQ:T.b.aB[i]? =some T.b.aB[i]:=B0 ah
    have aV:T.b.aB.take (i+1)=T.b.aB.take i++[T.b.aB[i]]:=C3 ah
    have qZ:T.b.aB[i]∈T.b.aB:=H2 ah
    generalize T.b.aB[i]=z at aQ aV qZ
    refine W3 ?_
    refine i7 (b:=r) (i:=3) (v:=q2.sc) ?_
    refine e8 (enc:=y9) (xs:=T.b.aB) (i:=i) ah (fun a ha=>?_) (he:=hi)
    refine A3Q (k:=1) (x:=z) (v:=z.aD) ha aQ ?_
    by_cases qY:z.aD=s.id
    ·refine X7 (by simpa using qY) ?_
     refine W3 ?_
     refine i7 (b:=r) (i:=3) (v:=q2.sc) ?_
     refine e8 (enc:=y9) (xs:=T.b.aB) (i:=i) ah (fun a ha=>?_) (he:=hi)
     refine A3Q (k:=0) (x:=z) (v:=z.c) ha aQ ?_
     refine W.rb (O:=V8 .i64) T q2 ?_
     have e:T1=A0q full z.c 142 T:=by rw[bF];unfold A3e;rw[B7I ag.toj7 qZ qY]
     subst e
     refine Z1 (A3B (O:=V8 .i64) (T:=T) (c:=z.c) (code:=142) A31 ag.toj7 hz (by omega) (by omega) (At.bD ?_))
     exact U1 (k2 _ _ (U1 (hK (s.id,()) rfl).sub))
    ·refine W6 (by simpa using qY) ?_
     have gT:=k1 (i+1) (IntKind.wrap .i64 (s'.1+1),()) (by omega) ⟨by simp only[hi];rw[V5 (by omega) (by have:=hz.aB;omega)];rfl,ah,by rw[aV,E9,ax,F8 (by simpa using qY)];rfl⟩
     refine W.rb (O:=V8 .i64) T q2 ?_
     exact U1 gT.sub
   ·refine W6 (by rw[hi,hl];exact decide_eq_false (by omega)) (U1 (k2 _ _ (U1 ?_)))
    rw[D2 (by omega)] at ax
    have e:T1=T:=by
     rw[bF];unfold A3e
     rw[E3.2 fun x hx=>by simpa using I6.1 ax x hx]
    subst e
    refine At.rb (O:=V8 .i64) T1 q2 ?_
    exact(hK (s.id,()) rfl).sub
 obtain⟨old,_⟩:=a
 simp only at ha
 have gq:Z6 (p.2.2.2.2.2.2.2.2.2.2.1)∧(ofS (p.2.2.2.2.2.2.2.2.2.2.1) T.b.aD=none→T.b.aD.length<32):=by
  rw[av] at hr
  unfold A59 at hr
  simp only at hr
  split at hr
  ·cases hr
  ·split at hr
   ·cases hr
   ·split at hr
    ·cases hr
    ·rename_i hg
     split at hr
     ·cases hr
     ·rename_i ea
      refine⟨O2 hg,fun ho=>?_⟩
      exact Nat.lt_of_not_le fun h=>ea ⟨ho,h⟩
 obtain⟨ef,gm,oH,iO,je,jW⟩:=B1I (full:=full) (c:=(p.2.2.2.2.2.2.2.2.2.2.1)) ag ca gq.2
 have xe:=C3S (full:=full) (c:=(p.2.2.2.2.2.2.2.2.2.2.1)) ag.toj7 ca
 rw[←bF] at ef gm oH iO je jW xe
 refine W.load (b:=x1) (v:=A0f p) ?_
 refine Z1 (C2F (S:=A0f p) (pl:=pl) (id:=17) (by have:=dA.props;omega) (At.bD (x:=(prU ((A0N 17 pl).getD (0,0,e0S,e0S)),(A0N 17 pl).isSome,())) ?_))
 refine Y0 fun jQ=>?_
 refine A0a ?_
 refine W3 ?_
 refine A2b (g:=fun q R=>rbL r full (V8 .i64) T1 q R) (fun h R=>A0G.1) fun q4=>?_
 refine i7 (b:=r) (i:=0) (v:=some ⟨q4.tb,0,none⟩) ?_
 refine W.load (b:=x1) (v:=(p.2.2.2.2.2.2.2.2.2.2.1)) ?_
 refine W.load (b:=x1) (v:=(p.2.2.2.2.2.2.2.2.2.2.2.1)) ?_
 refine W.load (b:=jQ) (v:=((A0N 17 pl).getD (0,0,e0S,e0S)).2.1) ?_
 rw[C0f]
 obtain⟨nV,kY,kZ,la⟩:=B72 (B:=T1.b) (clean:=(p.2.2.2.2.2.2.2.2.2.2.2.1)) (aN:=y8 pl) gq.1 je
 refine Z1 (B9R (b:=q4.tb) (last:=T1.b.last) (A:=T1.b.aD) (c:=(p.2.2.2.2.2.2.2.2.2.2.1)) (clean:=(p.2.2.2.2.2.2.2.2.2.2.2.1)) (aN:=y8 pl) dA.aC ef.cY (by have:=ef.cK;omega) (by have:=ef.n32;omega) ef.nd ef.eA (At.bD (x:=((u7 T1.b.last T1.b.aD (p.2.2.2.2.2.2.2.2.2.2.1) (p.2.2.2.2.2.2.2.2.2.2.2.1) (y8 pl)).1.2.1,(u7 T1.b.last T1.b.aD (p.2.2.2.2.2.2.2.2.2.2.1) (p.2.2.2.2.2.2.2.2.2.2.2.1) (y8 pl)).1.2.2,(u7 T1.b.last T1.b.aD (p.2.2.2.2.2.2.2.2.2.2.1) (p.2.2.2.2.2.2.2.2.2.2.2.1) (y8 pl)).1.1,())) ?_))
 have qa:A04 c T1.b.aB=none:=E3.2 fun y hy=>by
  have:=E3.1 ia y (iO y hy).1
  exact this
 obtain⟨bO,s5,ai,gn⟩:=B6z (B:=T1.b) (o:=ofS (p.2.2.2.2.2.2.2.2.2.2.1) T.b.aD) (aC:=(p.2.2.2.2.2.2.2.2.2.2.1)) (clean:=(p.2.2.2.2.2.2.2.2.2.2.2.1)) (aN:=y8 pl) (x:=⟨c,(j1 (p.2.2.2.2.2.2.2.2.2.2.1) (p.2.2.2.2.2.2.2.2.2.2.2.1) (y8 pl) T1.b).1.1,p.2.2.2.2.2.2.2.2.2.2.2.2.2.1,(p.2.2.2.2.2.2.2.2.2.2.2.2.2.2.1,p.2.2.2.2.2.2.2.2.2.2.2.2.2.2.2.1,p.2.2.2.2.2.2.2.2.2.2.2.2.2.2.2.2.1,p.2.2.2.2.2.2.2.2.2.2.2.2.2.2.2.2.2.1,e0S)⟩) ef jW (fun y hy s hs=>(iO y hy).2 s hs) je rfl ⟨C4 dA.aX (by decide),bR⟩
 rw[A4N] at hq
 dsimp only at hq
 rw[←bF,kY,kZ,la] at hq
 have xw:T1.b.aB.length≤999999:=by
  have h6:T.b.aB.length<64:=by
   rw[av] at hr
   unfold A59 at hr
   simp only at hr
   split at hr
   ·cases hr
   ·split at hr
    ·cases hr
    ·omega
  omega
 clear bF hr av iO je jW gq kY kZ la ia
 generalize(j1 (p.2.2.2.2.2.2.2.2.2.2.1) (p.2.2.2.2.2.2.2.2.2.2.2.1) (y8 pl) T1.b)=r1 at hq nV bO ai gn⊢
 rw[nV]
 clear nV
 dsimp only
 have hold:∀s,ofS (p.2.2.2.2.2.2.2.2.2.2.1) T.b.aD=some s→old=s.id∧1≤s.id:=fun s ho=>by
  rw[ho] at ha
  exact⟨ha,(ag.dP s (B1v ho).1).1⟩
 have lD:ofS (p.2.2.2.2.2.2.2.2.2.2.1) T.b.aD=none→old=0:=fun ho=>by rw[ho] at ha;exact ha
 refine A07 (fun a=>a.1=match ofS (p.2.2.2.2.2.2.2.2.2.2.1) T.b.aD with|some s=>decide (s.id≠r1.1.1)|none=>false) (fun K hK=>?_) (fun a dq=>?_)
 ·cases ho:ofS (p.2.2.2.2.2.2.2.2.2.2.1) T.b.aD with
  |none=>rw[ho] at hK;exact W6 (by simp[lD ho]) (U1 (hK _ rfl))
  |some s=>
   rw[ho] at hK
   obtain⟨e1,e2⟩:=hold s ho
   subst e1
   refine X7 (by
    have:s.id≠0:=by omega
    simp[this]) (U1 (hK _ ?_))
   by_cases e:s.id=r1.1.1
   ·simp[e]
   ·simp[e]
 obtain⟨a,_⟩:=a
 simp only at dq
 refine W.cut (fun _=>rbA r full (V8 .i64) (tB ⟨r1.2.last,r1.2.aD,A1P (ofS (p.2.2.2.2.2.2.2.2.2.2.1) T.b.aD) r1.1.1 T1.b.aH,T1.b.kept,T1.b.aB⟩ T1)::cells x1 (aS2 p)::U4 W8 4 (A0f p) pl::L2) (fun K hK=>?_) (fun _=>?_)
 ·clear hq bO
  cases ho:ofS (p.2.2.2.2.2.2.2.2.2.2.1) T.b.aD with
  |none=>
   rw[ho] at dq hK
   have e2:A1P none r1.1.1 T1.b.aH=T1.b.aH:=rfl
   rw[e2] at hK
   refine W6 dq (U1 ?_)
   refine At.rb (O:=V8 .i64) (tB ⟨r1.2.last,r1.2.aD,T1.b.aH,T1.b.kept,T1.b.aB⟩ T1) q4 ?_
   exact(hK ()).sub
  |some s=>
   rw[ho] at dq hK
   by_cases e:s.id=r1.1.1
   ·have e2:A1P (some s) r1.1.1 T1.b.aH=T1.b.aH:=by unfold A1P;simp[e]
    rw[e2] at hK
    refine W6 (by rw[dq];simp[e]) (U1 ?_)
    refine At.rb (O:=V8 .i64) (tB ⟨r1.2.last,r1.2.aD,T1.b.aH,T1.b.kept,T1.b.aB⟩ T1) q4 ?_
    exact(hK ()).sub
   ·have e2:A1P (some s) r1.1.1 T1.b.aH=A1b s.id T1.b.aH:=by unfold A1P;simp[e]
    rw[e2] at hK
    refine X7 (by rw[dq];simp[e]) ?_
    refine W3 ?_
    refine i7 (b:=r) (i:=1) (v:=some ⟨q4.sb,0,none⟩) ?_
    rw[(hold s ho).1]
    refine b6 (B9Q (b:=q4.sb) (E:=T1.b.aH) (id:=s.id) ef.aH (At.un (U1 ?_)))
    refine At.rb (O:=V8 .i64) (tB ⟨r1.2.last,r1.2.aD,A1b s.id T1.b.aH,T1.b.kept,T1.b.aB⟩ T1) q4 ?_
    exact(hK ()).sub
 clear dq hold lD ha
 generalize A1P (ofS (p.2.2.2.2.2.2.2.2.2.2.1) T.b.aD) r1.1.1 T1.b.aH=E5 at hq bO⊢
 refine i7 (b:=x1) (i:=14) (v:=p.2.2.2.2.2.2.2.2.2.2.2.2.2.2.1) ?_
 refine i7 (b:=x1) (i:=15) (v:=p.2.2.2.2.2.2.2.2.2.2.2.2.2.2.2.1) ?_
 refine i7 (b:=x1) (i:=16) (v:=p.2.2.2.2.2.2.2.2.2.2.2.2.2.2.2.2.1) ?_
 refine i7 (b:=x1) (i:=17) (v:=p.2.2.2.2.2.2.2.2.2.2.2.2.2.2.2.2.2.1) ?_
 refine Y0 fun ui=>?_
 refine A0a ?_
 refine W3 ?_
 refine A2b (g:=fun q R=>rbL r full (V8 .i64) (tB ⟨r1.2.last,r1.2.aD,E5,T1.b.kept,T1.b.aB⟩ T1) q R) (fun h R=>A0G.1) fun q5=>?_
 refine i7 (b:=r) (i:=3) (v:=q5.sc) ?_
 refine W.load (b:=x1) (v:=p.2.2.2.2.2.2.2.2.2.2.2.2.2.1) ?_
 refine q8 (b:=ui) (v:=(p.2.2.2.2.2.2.2.2.2.2.2.2.2.2.1,p.2.2.2.2.2.2.2.2.2.2.2.2.2.2.2.1,p.2.2.2.2.2.2.2.2.2.2.2.2.2.2.2.2.1,p.2.2.2.2.2.2.2.2.2.2.2.2.2.2.2.2.2.1,e0S,())) ?_
 refine Y0 fun vQ=>?_
 refine i7 (b:=r) (i:=3) (v:=q5.sc) ?_
 refine A06 ?_ rfl
 refine A9E (b:=vQ) (xs:=T1.b.aB) (enc:=y9) (s:=q5.sc) (⟨c,r1.1.1,p.2.2.2.2.2.2.2.2.2.2.2.2.2.1,(p.2.2.2.2.2.2.2.2.2.2.2.2.2.2.1,p.2.2.2.2.2.2.2.2.2.2.2.2.2.2.2.1,p.2.2.2.2.2.2.2.2.2.2.2.2.2.2.2.2.1,p.2.2.2.2.2.2.2.2.2.2.2.2.2.2.2.2.2.1,e0S)⟩:Y3) (fun s'=>?_) (by omega)
 refine W3 ?_
 refine A4e (b:=r) (i:=3) (cs':=rbC ⟨q5.tb,q5.sb,q5.kb,s',q5.so,q5.sp⟩ full) ?_
 have hlen:(T1.b.aB++[(⟨c,r1.1.1,p.2.2.2.2.2.2.2.2.2.2.2.2.2.1,(p.2.2.2.2.2.2.2.2.2.2.2.2.2.2.1,p.2.2.2.2.2.2.2.2.2.2.2.2.2.2.2.1,p.2.2.2.2.2.2.2.2.2.2.2.2.2.2.2.2.1,p.2.2.2.2.2.2.2.2.2.2.2.2.2.2.2.2.2.1,e0S)⟩:Y3)]).length≤1000000:=by rw[B4];simp only[B7,G8];omega
 generalize T1.b.aB++[(⟨c,r1.1.1,p.2.2.2.2.2.2.2.2.2.2.2.2.2.1,(p.2.2.2.2.2.2.2.2.2.2.2.2.2.2.1,p.2.2.2.2.2.2.2.2.2.2.2.2.2.2.2.1,p.2.2.2.2.2.2.2.2.2.2.2.2.2.2.2.2.1,p.2.2.2.2.2.2.2.2.2.2.2.2.2.2.2.2.2.1,e0S)⟩:Y3)]=C5 at hq bO hlen⊢
 refine W.rb (O:=V8 .i64) (tB ⟨r1.2.last,r1.2.aD,E5,T1.b.kept,C5⟩ T1) ⟨q5.tb,q5.sb,q5.kb,s',q5.so,q5.sp⟩ ?_
 refine B66 (k:=.i64) (A1y r1.1.2) rfl rfl ?_
 refine Z1 (B4x (X:=A0m) (O:=V8 .i64) (T:=tB ⟨r1.2.last,r1.2.aD,E5,T1.b.kept,C5⟩ T1) (c:=c) (o:=A1y r1.1.2) (ci:=⟨none,0,0⟩) (pi:=⟨none,0,0⟩) A31 (by show T1.outs.length≤_;omega) (At.bD ?_))
 have qM:A0t ⟨c,A1y r1.1.2,false⟩ (tB ⟨r1.2.last,r1.2.aD,E5,T1.b.kept,C5⟩ T1)=(⟨⟨r1.2.last,r1.2.aD,E5,T1.b.kept,C5⟩,T1.outs++[⟨c,A1y r1.1.2,false⟩],T1.aT⟩:U7):=rfl
 rw[qM] at hq
 show W (rbA r full (V8 .i64) ⟨⟨r1.2.last,r1.2.aD,E5,T1.b.kept,C5⟩,T1.outs++[⟨c,A1y r1.1.2,false⟩],T1.aT⟩::_) _ _
 have hO:(T1.outs++[(⟨c,A1y r1.1.2,false⟩:j5)]).length≤13300002:=by rw[B4];simp only[B7,G8];omega
 generalize T1.outs++[(⟨c,A1y r1.1.2,false⟩:j5)]=O5 at hq hO⊢
 clear qM
 unfold A0M at hq
 simp only[A3i bO.nd ai gn] at hq
 refine W.load (b:=x1) (v:=A0f p) ?_
 refine Z1 (C2F (S:=A0f p) (pl:=pl) (id:=33) (by have:=dA.props;omega) (At.bD (x:=(prU ((A0N 33 pl).getD (0,0,e0S,e0S)),(A0N 33 pl).isSome,())) ?_))
 refine Y0 fun eo=>?_
 refine A0a ?_
 refine A07 (fun a=>a.1=A1N pl) (fun K hK=>?_) (fun a ha=>?_)
 ·unfold A1N at hK
  clear hq
  cases hf:A0N 33 pl with
  |none=>
   rw[hf] at hK
   exact W6 rfl (U1 (hK (64,()) rfl))
  |some z=>
   rw[hf] at hK
   refine X7 rfl ?_
   refine W.load (b:=eo) (v:=z.2.1) ?_
   exact U1 (hK (z.2.1,()) rfl)
 obtain⟨most,_⟩:=a
 simp only at ha
 subst ha
 refine W3 ?_
 refine A2b (g:=fun q R=>rbL r full (V8 .i64) (⟨⟨r1.2.last,r1.2.aD,E5,T1.b.kept,C5⟩,O5,T1.aT⟩:U7) q R) (fun h R=>A0G.1) fun q6=>?_
 refine i7 (b:=r) (i:=0) (v:=some ⟨q6.tb,0,none⟩) ?_
 refine b6 (C1m (b:=q6.tb) (last:=r1.2.last) (A:=r1.2.aD) (s:=s5) (k:=r1.1.1) (by have:r1.2.aD.length≤32:=bO.n32;omega) bO.nd ai gn (fun nb ob ib=>At.un (x:=some ⟨nb,0,none⟩) ?_))
 refine W3 ?_
 refine W.load (b:=nb) (v:=some ⟨ob,0,none⟩) ?_
 have cX:=B3b (bO.bM s5 ai) (A1N pl)
 refine b6 (C3z (b:=ob) (o:=s5.out) (most:=A1N pl) (bO.bM s5 ai) (fun S2=>At.un (x:=S2) ?_))
 refine B0H (A:=A0m q6.tb r1.2.last (X8 r1.1.1 (Y6 (A0g s5.out (A1N pl)).1) r1.2.aD)) (B:=cells nb (rqC s5 ob ib)) (C:=a8 ob (A0g s5.out (A1N pl)).1) (D:=A01 ib s5.aZ) (E:=A2Y q6.tb r1.2.last r1.2.aD s5 nb) (fun h ae=>A4W (f:=Y6 (A0g s5.out (A1N pl)).1) gn bO.nd rfl h ae) ?_
 refine W.rb (O:=V8 .i64) (A0C (X8 r1.1.1 (Y6 (A0g s5.out (A1N pl)).1) r1.2.aD) ⟨⟨r1.2.last,r1.2.aD,E5,T1.b.kept,C5⟩,O5,T1.aT⟩) q6 ?_
 refine Z1 (A4Y (X:=A0m) (O:=V8 .i64) (T:=A0C (X8 r1.1.1 (Y6 (A0g s5.out (A1N pl)).1) r1.2.aD) ⟨⟨r1.2.last,r1.2.aD,E5,T1.b.kept,C5⟩,O5,T1.aT⟩) (id:=r1.1.1) (ps:=(A0g s5.out (A1N pl)).2) A31 (bO.one r1.1.1) (by have:=cX.2;show O5.length+_≤_;omega) hlen (At.bD ?_))
 exact U1 hq.sub
end
section
open Go.H Go.Proofs
variable {h h0:Heap} {L L' L1 L2 L3 L4 R:List Asn} {Q:Value→Heap→Prop}
theorem C3D{r n:Nat}{full full0:Bool}{T:U7}{c:Int}{p:Pk}{pl:List o8}{sl:List A0w}{fl:List B3O}(ag:X3 T.b n)(hn:n≤1000000)(hz:Szs T.b)(dY:∀s∈T.b.aD,s.aZ.ok)(bR: -9223372036854775808≤c∧c≤9223372036854775807)(dA:C52 p pl sl fl)
  (hq:At (rbA r full (V8 .i64) (b9 full c (pkI p pl sl fl) T.b)::L4) (Q (.tuple #[])))(hx:Has L (rbA r full0 (V8 .i64) T) L1:=by repeat first|with_reducible exact U9|apply V1)(hy:Has L1 (U4 X9 5 (A0z p) sl) L2:=by repeat first|with_reducible exact U9|apply V1)(hw:Has L2 (U4 v8 1 (A4k p) fl) L3:=by repeat first|with_reducible exact U9|apply V1)(hv:Has L3 (U4 W8 4 (A0f p) pl) L4:=by repeat first|with_reducible exact U9|apply V1):
  FW prog 49 #[at0 r,.int .i64 c,A2p .i64 p,.bool full] L Q:=by
 refine fun h hs=>B0j (some ⟨r,0,none⟩) c p full h Q ((?_:W (rbA r full0 (V8 .i64) T::U4 X9 5 (A0z p) sl::U4 v8 1 (A4k p) fl::U4 W8 4 (A0f p) pl::L4) _ _) h ((hx.eH hy hw hv).s hs))
 clear hs h hx hy hw hv
 delta B02 az ci cp cx g2 ie ix ji kc ki kp nn nw pu ve vi vz
 refine Y0 fun x1=>?_
 refine Z1 (B1i (full:=full) (full0:=full0) (T:=T) (At.bD ?_))
 refine b6 (B5h (X:=A0m) (O:=V8 .i64) (T:=⟨T.b,[],[]⟩) (c:=c) hz.aB (At.un (x:=(match atC c T.b.aB with|some i=>(i:Int)|none=> -1)) ?_))
 unfold b9 at hq
 cases ha:atC c T.b.aB with
 |none=>
  rw[B16.1 ha] at hq
  simp only at hq
  refine W6 rfl ?_
  refine W.load (b:=x1) (v:=p.1) ?_
  by_cases h1:p.1=1
  ·rw[if_pos h1] at hq
   refine X7 (by simpa using h1) ?_
   refine q8 (b:=x1) (v:=p) ?_
   refine Z1 (C1j (T:=⟨T.b,[],[]⟩) (c:=c) (p:=p) (pl:=pl) (sl:=sl) (fl:=fl) ag hn hz (B16.1 ha) bR (C9 _) (C9 _) dA (At.bD ?_))
   exact U1 hq.sub
  ·rw[if_neg h1] at hq
   have hq:At (rbA r full (V8 .i64) (A0t ⟨c,Z7 14 0 130,true⟩ ⟨T.b,[],[]⟩)::L4) (Q (.tuple #[])):=hq
   refine W6 (by simpa using h1) ?_
   refine B66 (k:=.i64) (Z7 14 0 130) rfl rfl ?_
   refine Z1 (B8q (X:=A0m) (O:=V8 .i64) (T:=⟨T.b,[],[]⟩) (c:=c) (o:=Z7 14 0 130) (ci:=⟨none,0,0⟩) (pi:=⟨none,0,0⟩) A31 (C9 _) (At.bD ?_))
   exact U1 hq.sub
 |some i=>
  obtain⟨x,aQ,kS,iY⟩:=C0M ha
  rw[kS] at hq
  simp only at hq
  have ah:i<T.b.aB.length:=(D8.1 aQ).1
  obtain⟨s,hs,hid⟩:=ag.cl x (A1K kS).1
  refine X7 (decide_eq_true (by simp only;omega)) ?_
  refine W3 ?_
  refine A2b (g:=fun q R=>rbL r full (V8 .i64) ⟨T.b,[],[]⟩ q R) (fun h R=>A0G.1) fun q=>?_
  refine Y2 (X1 (enc:=y9) (size:=8) (s:=q.sc) (xs:=T.b.aB)) fun hl=>?_
  refine i7 (b:=r) (i:=0) (v:=some ⟨q.tb,0,none⟩) ?_
  refine W3 ?_
  refine i7 (b:=r) (i:=3) (v:=q.sc) ?_
  refine e8 (enc:=y9) (xs:=T.b.aB) (i:=i) ah (fun a ha=>?_) (he:=rfl)
  refine A3Q (k:=1) (x:=x) (v:=x.aD) ha aQ ?_
  refine b6 (C1m (b:=q.tb) (last:=T.b.last) (A:=T.b.aD) (s:=s) (k:=x.aD) hz.aD ag.nd hs hid (fun nb ob ib=>At.un (x:=some ⟨nb,0,none⟩) ?_))
  refine B0H (A:=A0p nb ob ib x.aD q.tb T.b.last T.b.aD) (B:=cells nb (rqC s ob ib)) (C:=a8 ob s.out) (D:=A01 ib s.aZ) (E:=A2Y q.tb T.b.last T.b.aD s nb) (fun h ae=>A4X.2 ⟨s,⟨hs,hid⟩,ae⟩) ?_
  refine W.dX (X:=A0p nb ob ib x.aD) (O:=V8 .i64) ⟨T.b,[],[]⟩ q ?_
  refine q8 (b:=x1) (v:=p) ?_
  rw[←iY] at kS⊢
  refine Z1 (C7p (T:=⟨T.b,[],[]⟩) (x:=x) (p:=p) (pl:=pl) (sl:=sl) (fl:=fl) ag hz dY kS (C9 _) (C9 _) dA (At.bD ?_))
  exact U1 hq.sub
theorem C6r{r n:Nat}{full full0:Bool}{T:U7}{c:Int}(ag:X3 T.b n)(hz:Szs T.b)
  (hq:At (rbA r full (V8 .i64) (A7X full c T.b)::L1) (Q (.tuple #[])))(hx:Has L (rbA r full0 (V8 .i64) T) L1:=by repeat first|with_reducible exact U9|apply V1):
  FW prog 46 #[at0 r,.int .i64 c,.bool full] L Q:=by
 refine fun h hs=>B2t (some ⟨r,0,none⟩) c full h Q ((?_:W (rbA r full0 (V8 .i64) T::L1) _ _) h (hx.s hs))
 clear hs h hx
 unfold A7X at hq
 delta B42 cx pu vi
 refine Z1 (B1i (full:=full) (full0:=full0) (T:=T) (At.bD ?_))
 refine Z1 (B8x (O:=V8 .i64) (T:=⟨T.b,[],[]⟩) (c:=c) (aX:=true) A31 ag.toj7 hz (C9 _) (C9 _) (At.bD ?_))
 exact U1 hq.sub
theorem C1o{r n:Nat}{full0:Bool}{T:U7}{m:MsT}(ag:X3 T.b n)(hz:Szs T.b)(hm:m.1.size≤9223372036854775800)
  (hq:At (rbA r false (V8 .i64) (A1c m T.b)::L1) (Q (.tuple #[])))(hx:Has L (rbA r full0 (V8 .i64) T) L1:=by repeat first|with_reducible exact U9|apply V1):
  FW prog 47 #[at0 r,vMs m] L Q:=by
 refine fun h hs=>A9p (some ⟨r,0,none⟩) (toU m) h Q ((?_:W (rbA r full0 (V8 .i64) T::L1) _ _) h (hx.s hs))
 clear hs h hx
 unfold A1c at hq
 delta A9M az cx g7 nw pu
 refine Y0 fun x1=>?_
 refine Z1 (B1i (full:=false) (full0:=full0) (T:=T) (At.bD ?_))
 refine q8 (b:=x1) (v:=toU m) ?_
 refine Z1 (C2E (O:=V8 .i64) (T:=⟨T.b,[],[]⟩) (m:=m) A31 ag.toj7 hz (C9 _) hm (At.bD ?_))
 exact U1 hq.sub
theorem C5y{B:Z2}{c:Int}(h:Szs B):Szs (A5k B c):=by
 unfold A5k
 split
 ·exact h
 ·rw[B4B];exact h.ended rfl
theorem B5V{B:Z2}{c:Int}:(A5k B c).aB=B.aB.filter fun y=>decide (y.c≠c):=by
 unfold A5k
 cases hg:A04 c B.aB with
 |none=>exact(H0.2 fun y hy=>by have:=E3.1 hg y hy;simpa using this).symm
 |some x=>simp only;rw[B4B]
theorem C1k{r n:Nat}{full0:Bool}{T:U7}(ag:X3 T.b n)(hz:Szs T.b)
  (hq:At (rbA r false (V8 .i64) ⟨A1R T.b,[],[]⟩::L1) (Q (.tuple #[])))(hx:Has L (rbA r full0 (V8 .i64) T) L1:=by repeat first|with_reducible exact U9|apply V1):
  FW prog 48 #[at0 r] L Q:=by
 refine fun h hs=>A9o (some ⟨r,0,none⟩) h Q ((?_:W (rbA r full0 (V8 .i64) T::L1) _ _) h (hx.s hs))
 clear hs h hx
 delta A9L bn cx ie ix kc ki nn pu vi
 refine Z1 (B1i (full:=false) (full0:=full0) (T:=T) (At.bD ?_))
 refine W.loop (γ:=Z2) (fun B _=>X3 B n∧Szs B∧(B.aB.map (·.c)).foldl A5k B=A1R T.b) (fun B _=>rbA r false (V8 .i64) ⟨B,[],[]⟩::L1) (fun B=>B.aB.length) T.b ⟨ag,hz,A8s.symm⟩ ?_ ?_
 ·show Sub _ (rbA r false (V8 .i64) ⟨T.b,[],[]⟩::L1)
  repeat(first|with_reducible exact T5|with_reducible exact T6|refine T7 (by repeat first|with_reducible exact U9|apply V1) ?_|refine T8 ?_)
 rintro B s ⟨aF,dv,hf⟩ K k1 k2
 refine W3 ?_
 refine A2b (g:=fun q R=>rbL r false (V8 .i64) ⟨B,[],[]⟩ q R) (fun h R=>A0G.1) fun q=>?_
 refine Y2 (X1 (enc:=y9) (size:=8) (s:=q.sc) (xs:=B.aB)) fun hl=>?_
 refine i7 (b:=r) (i:=3) (v:=q.sc) ?_
 by_cases ah:0<B.aB.length
 ·refine X7 (by rw[hl];exact decide_eq_true (by omega)) ?_
  have rB:B.aB[0]? =some B.aB[0]:=B0 ah
  have iC:B.aB=B.aB[0]::B.aB.drop 1:=by
   have:=D9 ah
   rwa[R9] at this
  generalize B.aB[0]=y at rB iC
  have au:=dv.nd
  have vg:(A5k B y.c).aB=B.aB.drop 1:=by
   rw[B5V]
   rw[iC,B6,F7] at au
   conv=>lhs;rw[iC]
   rw[F8 (by simp)]
   refine H0.2 fun z hz=>decide_eq_true fun e=>au.1 ?_
   rw[←e]
   exact B3 hz
  have gT:=k1 (A5k B y.c) () (by rw[vg,R0];omega) ⟨B83 aF,C5y dv,by
   rw[vg,←hf]
   conv=>rhs;rw[iC]
   rfl⟩
  refine W3 ?_
  refine i7 (b:=r) (i:=3) (v:=q.sc) ?_
  refine e8 (enc:=y9) (xs:=B.aB) (i:=0) ah (fun a ha=>?_) (he:=rfl)
  refine A3Q (k:=0) (x:=y) (v:=y.c) ha rB ?_
  refine W.rb (O:=V8 .i64) ⟨B,[],[]⟩ q ?_
  refine Z1 (B8x (O:=V8 .i64) (T:=⟨B,[],[]⟩) (c:=y.c) (aX:=false) A31 aF.toj7 dv (C9 _) (C9 _) (At.bD ?_))
  rw[C10]
  exact U1 gT.sub
 ·refine W6 (by rw[hl];exact decide_eq_false (by omega)) (U1 (k2 _ _ (U1 ?_)))
  have e:B.aB=[]:=J9.1 (by omega)
  rw[e] at hf
  have hf:B=A1R T.b:=hf
  refine At.rb (O:=V8 .i64) ⟨B,[],[]⟩ q ?_
  rw[hf]
  exact hq.sub
theorem C6s(hq:∀b,At (A1L b 64 []::L) (Q (B1m b))):FW prog 45 #[.int .i64 64] L Q:=fun h hs=>C3E hs 64 fun b h' af=>hq b h' af
theorem C7r(hq:∀r,At (rbA r false (V8 .i64) ⟨⟨0,[],[],[],[]⟩,[],[]⟩::L) (Q (at0 r))):FW prog 21 #[] L Q:=by
 refine fun h hs=>B37 h Q ((?_:W L _ _) h hs)
 clear hs h
 delta B7k az cp nw pu vi vz
 refine b6 (C6s (fun b=>At.un (x:=some ⟨b,0,none⟩) ?_))
 refine Y0 fun x2=>?_
 refine C7a (A:=A0m x2 0 []) (B:=cells x2 #[.int .i64 0,.slice none 0 0]) (fun h hs=>C2B h hs) ?_
 refine Y0 fun x3=>?_
 refine A3p Z9 3 ?_
 refine W.cZ (A:=A0y x3 []) (B:=cells x3 #[.slice none 0 0]) (C:=U4 Z9 3 ⟨none,0,0⟩ []) (fun h hs=>A1o.2 ⟨⟨none,0,0⟩,hs⟩) ?_
 refine Y0 fun x4=>?_
 refine A3p Z4 5 ?_
 refine A3p y9 8 ?_
 refine W.sub (L':=cells x4 (rbC ⟨x2,x3,b,⟨none,0,0⟩,⟨none,0,0⟩,⟨none,0,0⟩⟩ false)::U4 Z4 5 ⟨none,0,0⟩ []::U4 y9 8 ⟨none,0,0⟩ []::A0m x2 0 []::A0y x3 []::A1L b 64 []::L) ?_
 refine U1 (fun h hs=>?_)
 have h1:=B1q (k:=.i64) hs
 exact hq x4 h (A0G.2 ⟨⟨x2,x3,b,⟨none,0,0⟩,⟨none,0,0⟩,⟨none,0,0⟩⟩,h1.re [1,0,2,3,4,5,6]⟩)
end
section
open Go.H Go.Proofs
variable {h h0:Heap} {L L' L1 L2 L3 L4 R:List Asn} {Q:Value→Heap→Prop}
def A7M(B:Z2):Prop:=∀x∈B.aB,x.aX.1.size≤9223372036854775800
theorem C6J{b n:Nat}{B:Z2}(ag:X3 B n)(hw:A7M B):∀h R,sat h (A0F b B::R)→Szs B∧∀s∈B.aD,s.aZ.ok:=fun h R hs=>by
 obtain⟨au,hk⟩:=B9i h R hs
 obtain⟨p,h1⟩:=A1q.1 hs
 obtain⟨hg,ha⟩:=A8W (h1.re [2,0,1,3,4])
 obtain⟨l,hl,-⟩:=A3J.1 (h1.re [3,0,1,2,4])
 obtain⟨M,hM,h3⟩:=y5.1 (h1.re [1,0,2,3,4])
 obtain⟨m,h4⟩:=p9.1 h3
 refine⟨⟨?_,?_,?_,hk,B28 ag,by have:=ag.n32;omega,au,hw⟩,?_⟩
 ·refine List.Pairwise.imp (fun{a b} dp=>?_) ha
  rcases dp with dp|dp
  ·exact Int.le_of_lt dp
  ·exact Int.le_of_eq dp.1
 ·exact fun e he=>C4 (A3y (A0u (hg e he))) (by decide)
 ·intro m hm
  have h5:=hl.rel.perm.mem_iff.2 hm
  obtain⟨p,hp,rfl⟩:=E4.1 h5
  have:=hl.small p hp
  rw[←hl.rel.kk p hp] at this
  exact this
 ·intro s hs
  rw[←hM] at hs
  obtain⟨q,hq,rfl⟩:=E4.1 hs
  obtain⟨R',h5⟩:=A8R hq (h4.re [2,0,1])
  obtain⟨ob,ib,h6⟩:=A1F.1 h5
  obtain⟨b2,h7⟩:=A2R.1 (h6.re [2,0,1])
  obtain⟨m2,wY,-⟩:=A0Q.1 (h7.re [1,0])
  exact wY
end
section
open Go.H Go.Proofs
theorem B70{full:Bool}{c:Int}{w:Bool}{T:U7}(h:j7 T.b):∀y∈(A4n full c w T).b.aB,y∈T.b.aB:=fun y hy=>by rw[(B84 h).2.2.2.1] at hy;exact(E7.1 hy).1
theorem A4I{full:Bool}{c code:Int}{T:U7}(h:j7 T.b):∀y∈(A0q full c code T).b.aB,y∈T.b.aB:=fun y hy=>by rw[(B0f h).2.2.2.1] at hy;exact(E7.1 hy).1
theorem C2c{full:Bool}{x:Y3}{p:PkI}{T:U7}(h:j7 T.b):∀y∈(A6h full x p T).b.aB,y∈T.b.aB:=by
 unfold A6h
 split
 ·exact A4I h
 ·split
  ·exact fun y hy=>hy
  ·rename_i s hs
   simp only
   generalize k9 s.aZ p.kind p.eP p.id (if full=true then 151 else 0)=r
   have h1:j7 (A0C (X8 x.aD (j3 ⟨s.aZ.most,s.aZ.taken,r.2.2.2⟩) T.b.aD) T).b:=h.fE
   split
   ·exact A4I (T:=A0C (X8 x.aD (j3 ⟨s.aZ.most,s.aZ.taken,r.2.2.2⟩) T.b.aD) T) h1
   ·split
    ·exact fun y hy=>by
      rw[(A8u (T:=q7 x.aD (A3P r.2.1 p.id) (A0C (X8 x.aD (j3 ⟨s.aZ.most,s.aZ.taken,r.2.2.2⟩) T.b.aD) T)) h1).aB] at hy
      exact hy
    ·exact fun y hy=>hy
theorem B9e{full:Bool}{x:Y3}{p:PkI}{T:U7}(h:j7 T.b):∀y∈(A3V full x p T).b.aB,y∈T.b.aB:=by
 unfold A3V
 split
 ·exact fun y hy=>hy
 ·split
  ·exact A4I h
  ·exact fun y hy=>by rw[A5C] at hy;exact hy
theorem C4b{x:Y3}{p:PkI}{T:U7}:(A1f x p T).b.aB=T.b.aB:=by
 unfold A1f
 have:∀(l:List A0w) (T:U7),(l.foldl (j4 x.aD) T).b.aB=T.b.aB:=by
  intro l
  induction l with
  |nil=>intro T;rfl
  |cons s l ih=>intro T;exact(ih _).trans (A9R T s)
 rw[this]
theorem C4d{full:Bool}{x:Y3}{p:PkI}{T:U7}(h:j7 T.b):∀y∈(A9t full x p T).b.aB,y∈T.b.aB:=by
 unfold A9t
 split
 ·exact C2c h
 ·split
  ·exact B9e h
  ·split
   ·exact fun y hy=>by rw[C4b] at hy;exact hy
   ·split
    ·exact fun y hy=>hy
    ·split
     ·exact fun y hy=>hy
     ·split
      ·exact B70 h
      ·exact A4I h
theorem B65{full:Bool}{c:Int}{p:PkI}{T:U7}{n:Nat}(h:X3 T.b n)(ca:(T.b.aB.map (·.c)).Nodup):∀y∈(A1I full c p T).b.aB,y∈T.b.aB∨y.aX.1=p.aX.1:=by
 unfold A1I
 by_cases hb:A59 p T.b=0
 ·rw[if_neg (by simpa using hb),A4N]
  obtain⟨ef,gm,oH,iO,je,jW⟩:=B1I (full:=full) (c:=p.aC) h ca (B73 hb).2
  generalize A0W full p.aC T=T1 at*
  obtain⟨kY,kZ,la⟩:=B3Y (B:=T1.b) (aC:=p.aC) (clean:=p.clean) (aN:=y8 p.props)
  rw[kY,kZ,la,A5C]
  intro y hy
  rcases C7.1 hy with hy|hy
  ·exact .inl (iO y hy).1
  ·rw[C0.1 hy];exact .inr rfl
 ·rw[if_pos (by simpa using hb)]
  exact fun y hy=>.inl hy
theorem C3e{full:Bool}{c:Int}{p:PkI}{B:Z2}{n:Nat}(h:X3 B n)(ca:(B.aB.map (·.c)).Nodup)(hw:A7M B)(hp:p.aX.1.size≤9223372036854775800):A7M (b9 full c p B).b:=by
 unfold b9
 split
 ·exact fun y hy=>hw y (C4d (T:=⟨B,[],[]⟩) h.toj7 y hy)
 ·split
  ·intro y hy
   rcases B65 (T:=⟨B,[],[]⟩) h ca y hy with h1|h1
   ·exact hw y h1
   ·rw[h1];exact hp
  ·exact hw
theorem C6d{full:Bool}{c:Int}{B:Z2}{n:Nat}(h:X3 B n)(hw:A7M B):A7M (A7X full c B).b:=fun y hy=>hw y (B70 (T:=⟨B,[],[]⟩) h.toj7 y hy)
theorem C0X{m:MsT}{B:Z2}{n:Nat}(h:X3 B n)(hw:A7M B):A7M (A1c m B).b:=fun y hy=>hw y (by
 unfold A1c at hy
 rw[(B5J (T:=⟨B,[],[]⟩) h.toj7).aB] at hy
 exact hy)
theorem C6e{B:Z2}{c:Int}(hw:A7M B):A7M (A5k B c):=fun y hy=>by
 rw[B5V] at hy
 exact hw y (E7.1 hy).1
theorem C0W{B:Z2}(hw:A7M B):A7M (A1R B):=by
 rw[A8s]
 have:∀(l:List Int) (B:Z2),A7M B→A7M (l.foldl A5k B):=by
  intro l
  induction l with
  |nil=>intro B h;exact h
  |cons c l ih=>intro B h;exact ih _ (C6e h)
 exact this _ B hw
theorem C7e:A7M ⟨0,[],[],[],[]⟩:=fun y hy=>by cases hy
def l8(T:U7):Prop:=∀o∈T.outs,A5R o.pk
def A5g(ps:List PkO):Prop:=∀p∈ps,A5R p
theorem B8X{m:MsT}{id:Int}{d:Bool}:A5R (A0s m id d):=by
 refine⟨⟨S5 0,(by show(0:Int)<256;decide)⟩,fun c hc=>(by cases hc),C9 _,?_⟩
 show(C05 _).length≤_
 unfold C05
 split<;>simp
theorem A7v{k id c:Int}(h:0≤c∧c<256):A5R (Z7 k id c):=⟨h,fun c hc=>(by cases hc),C9 _,C9 _⟩
theorem C7E{s:Bool}:A5R (A1y s):=⟨⟨S5 0,(by show(0:Int)<256;decide)⟩,fun c hc=>(by cases hc),C9 _,C9 _⟩
theorem A2j:A5g []:=fun p hp=>by cases hp
theorem A5g.cons{p:PkO}{ps:List PkO}(h:A5R p)(hs:A5g ps):A5g (p::ps):=fun q hq=>by
 rcases D7.1 hq with rfl|hq
 ·exact h
 ·exact hs q hq
theorem A5g.app{ps qs:List PkO}(h:A5g ps)(hs:A5g qs):A5g (ps++qs):=fun q hq=>by
 rcases C7.1 hq with hq|hq
 ·exact h q hq
 ·exact hs q hq
theorem C1R:∀(w:List MsT) (o:Z8),A5g (goF o w).2
 |[],o=>A2j
 |m::w,o=>by
  unfold goF
  split
  ·exact A2j
  ·split
   ·exact A5g.cons B8X (C1R w _)
   ·exact A5g.cons B8X (C1R w _)
theorem A6K{o:Z8}:A5g (Y7 o).2:=by
 unfold Y7
 split
 ·exact C1R _ _
 ·exact A2j
theorem B7T{o:Z8}{m:MsT}:A5g (Y1 o m).1.2:=by
 unfold Y1
 split
 ·exact A2j
 ·split
  ·exact A2j
  ·split
   ·exact A2j
   ·exact A6K
theorem C5s{o:Z8}{k id c:Int}:A5g (A0S o k id c).1.2:=by
 unfold A0S
 split
 ·exact A2j
 ·split
  ·exact A2j
  ·split
   ·split
    ·exact A2j
    ·exact A6K
   ·split
    ·split
     ·exact A2j
     ·split
      ·exact A6K
      ·exact A5g.cons (A7v (by decide)) A6K
    ·split
     ·exact A2j
     ·exact A6K
theorem C1S{o:Z8}{most:Int}:A5g (A0g o most).2:=by
 unfold A0g
 refine A5g.app (fun p hp=>?_) A6K
 obtain⟨f,hf,rfl⟩:=E4.1 hp
 unfold A1r
 split
 ·exact A7v (by decide)
 ·exact B8X
theorem l8.send{T:U7}{o:j5}(h:l8 T)(ho:A5R o.pk):l8 (A0t o T):=fun q hq=>by
 rcases C7.1 hq with hq|hq
 ·exact h q hq
 ·rw[C0.1 hq];exact ho
theorem l8.sendAll{T:U7}{id:Int}{ps:List PkO}(h:l8 T)(hp:A5g ps):l8 (q7 id ps T):=fun q hq=>by
 rcases C7.1 hq with hq|hq
 ·exact h q hq
 ·unfold A1w at hq
  obtain⟨x,_,hx⟩:=S4.1 hq
  obtain⟨p,rk,rfl⟩:=E4.1 hx
  exact hp p rk
theorem l8.out{T:U7}{id:Int}{f:Z8→Z8×List PkO}(h:l8 T)(hf:∀o,A5g (f o).2):l8 (A0M id f T):=by
 unfold A0M
 split
 ·exact h
 ·rename_i s _
  exact l8.sendAll (T:=A0C (X8 id (Y6 (f s.out).1) T.b.aD) T) h (hf s.out)
theorem l8.fold{α:Type}{f:U7→α→U7}(hf:∀T x,l8 T→l8 (f T x)):∀(l:List α) {T:U7},l8 T→l8 (l.foldl f T)
 |[],T,h=>h
 |x::l,T,h=>l8.fold hf l (hf T x h)
theorem l8.hand{T:U7}{m:MsT}(h:l8 T):l8 (A0A m T):=by
 unfold A0A
 refine l8.fold (fun T x hT=>l8.out hT fun o=>B7T) _ ?_
 unfold A1X
 split
 ·exact h
 ·exact h
theorem l8.eL{T:U7}{m:MsT}(h:l8 T):l8 (A3Z m T):=l8.hand h
theorem l8.fin{T:U7}{full:Bool}{c:Int}{w:Bool}(h:l8 T):l8 (A4n full c w T):=by
 unfold A4n
 split
 ·exact h
 ·simp only
  split
  ·exact l8.eL (by exact h)
  ·exact h
theorem l8.refuse{T:U7}{full:Bool}{c code:Int}(h:l8 T)(hc:0≤code∧code<256):l8 (A0q full c code T):=l8.fin (l8.send h (A7v hc))
theorem C3k{s:r8}{k q id why:Int}(hw:0≤why∧why<256):(0≤(k9 s k q id why).2.2.1∧(k9 s k q id why).2.2.1<256)∧A5g (A3P (k9 s k q id why).2.1 id):=by
 have one:∀{a c:Int},0≤c∧c<256→A5g (A3P (some (a,c)) id):=fun hc=>A5g.cons (A7v hc) A2j
 have non:A5g (A3P none id):=A2j
 unfold k9
 split
 ·exact⟨by constructor<;>(try dsimp only)<;>decide,non⟩
 ·split
  ·exact⟨by constructor<;>(try dsimp only)<;>decide,non⟩
  ·split
   ·exact⟨by constructor<;>(try dsimp only)<;>decide,one (by split<;>constructor<;>(try dsimp only)<;>decide)⟩
   ·split
    ·exact⟨by constructor<;>(try dsimp only)<;>decide,one hw⟩
    ·split
     ·exact⟨by constructor<;>(try dsimp only)<;>decide,one (by constructor<;>(try dsimp only)<;>decide)⟩
     ·split
      ·exact⟨by constructor<;>(try dsimp only)<;>decide,non⟩
      ·exact⟨by constructor<;>(try dsimp only)<;>decide,one hw⟩
theorem C4j{o:Z8}{k id c:Int}:0≤(A0S o k id c).2∧(A0S o k id c).2<256:=by
 unfold A0S
 split
 ·constructor<;>(try dsimp only)<;>decide
 ·split
  ·constructor<;>(try dsimp only)<;>decide
  ·split
   ·split<;>constructor<;>(try dsimp only)<;>decide
   ·split
    ·split
     ·constructor<;>(try dsimp only)<;>decide
     ·split<;>constructor<;>(try dsimp only)<;>decide
    ·split<;>constructor<;>(try dsimp only)<;>decide
theorem C5p{full:Bool}{x:Y3}{p:PkI}{T:U7}(h:l8 T):l8 (A6h full x p T):=by
 unfold A6h
 split
 ·exact l8.refuse h (by decide)
 ·split
  ·exact h
  ·rename_i s hs
   simp only
   have hr:=C3k (s:=s.aZ) (k:=p.kind) (q:=p.eP) (id:=p.id) (why:=if full=true then 151 else 0) (by split<;>decide)
   generalize k9 s.aZ p.kind p.eP p.id (if full=true then 151 else 0)=r at hr
   split
   ·exact l8.refuse (T:=A0C (X8 x.aD (j3 ⟨s.aZ.most,s.aZ.taken,r.2.2.2⟩) T.b.aD) T) h hr.1
   ·have h2:=l8.sendAll (T:=A0C (X8 x.aD (j3 ⟨s.aZ.most,s.aZ.taken,r.2.2.2⟩) T.b.aD) T) (id:=x.aD) h hr.2
    split
    ·exact l8.eL h2
    ·exact h2
theorem C1T{full:Bool}{x:Y3}{p:PkI}{T:U7}(h:l8 T):l8 (A3V full x p T):=by
 unfold A3V
 split
 ·exact h
 ·split
  ·exact l8.refuse h C4j
  ·exact l8.out h fun o=>C5s
theorem C4k{E:List Ent}{id q:Int}{f:B3O}:0≤(A2G E id f q).1∧(A2G E id f q).1<256:=by
 unfold A2G
 split
 ·exact⟨(by show(0:Int)≤143;decide),(by show(143:Int)<256;decide)⟩
 ·split
  ·exact⟨(by show(0:Int)≤155;decide),(by show(155:Int)<256;decide)⟩
  ·split
   ·exact⟨(by show(0:Int)≤0;decide),(by show(0:Int)<256;decide)⟩
   ·split
    ·exact⟨(by show(0:Int)≤151;decide),(by show(151:Int)<256;decide)⟩
    ·exact⟨(by show(0:Int)≤0;decide),(by show(0:Int)<256;decide)⟩
theorem B6E{id:Int}:∀(l:List A0w) (E:List Ent),(∀c∈(j8 id l E).2,0≤c∧c<256)∧(j8 id l E).2.length=l.length
 |[],E=>⟨fun c hc=>(by cases hc),rfl⟩
 |s::l,E=>by
  unfold j8
  have ih:=B6E (id:=id) l (A2G E id s.1 s.2.1).2
  refine⟨fun c hc=>?_,by simp only[B7];rw[ih.2]⟩
  rcases D7.1 hc with rfl|hc
  ·split
   ·rename_i h0
    have:=B3d h0
    omega
   ·exact C4k
  ·exact ih.1 c hc
theorem B6p{id:Int}:∀(l:List B3O) (E:List Ent),(∀c∈(A0K id l E).2,0≤c∧c<256)∧(A0K id l E).2.length=l.length
 |[],E=>⟨fun c hc=>(by cases hc),rfl⟩
 |s::l,E=>by
  unfold A0K
  have ih:=B6p (id:=id) l (A1H E id s)
  refine⟨fun c hc=>?_,by simp only[B7];rw[ih.2]⟩
  rcases D7.1 hc with rfl|hc
  ·split<;>decide
  ·exact ih.1 c hc
theorem C5r{k id:Int}{cs:List Int}(h:∀c∈cs,0≤c∧c<256)(hl:cs.length≤1000000):A5R (A0O k id cs):=⟨⟨S5 0,(by show(0:Int)<256;decide)⟩,h,hl,C9 _⟩
theorem l8.sub{x:Y3}{s:A0w}{T:U7}(h:l8 T):l8 (j4 x.aD T s):=by
 unfold j4
 split
 ·exact h
 ·exact l8.fold (fun T m hT=>l8.out hT fun o=>B7T) _ h
theorem C6F{full:Bool}{x:Y3}{p:PkI}{T:U7}(h:l8 T)(hs:p.aH.length≤100)(hf:p.bK.length≤100):l8 (A9t full x p T):=by
 unfold A9t
 split
 ·exact C5p h
 ·split
  ·exact C1T h
  ·split
   ·unfold A1f
    have ha:=B6E (id:=x.aD) p.aH T.b.aH
    exact l8.fold (fun T s hT=>l8.sub hT) _ (l8.send (T:=A1j (j8 x.aD p.aH T.b.aH).1 T) h (C5r ha.1 (by omega)))
   ·split
    ·unfold A1z
     have ha:=B6p (id:=x.aD) p.bK T.b.aH
     exact l8.send (T:=A1j (A0K x.aD p.bK T.b.aH).1 T) h (C5r ha.1 (by omega))
    ·split
     ·exact l8.send h (A7v (by decide))
     ·split
      ·exact l8.fin h
      ·exact l8.refuse h (by decide)
theorem C5M{p:PkI}{B:Z2}:0≤A59 p B∧A59 p B<256:=by
 unfold A59
 repeat' split
 all_goals decide
theorem C0r{full:Bool}{c:Int}{p:PkI}{T:U7}(h:l8 T):l8 (A1I full c p T):=by
 unfold A1I
 split
 ·exact l8.send h (A7v C5M)
 ·rw[A4N]
  have hk:l8 (A0W full p.aC T):=by
   unfold A0W
   split
   ·unfold A3e
    split
    ·exact h
    ·exact l8.refuse h (by decide)
   ·exact h
  exact l8.out (l8.send (by exact hk) C7E) fun o=>C1S
theorem A9c{B:Z2}:l8 ⟨B,[],[]⟩:=fun o ho=>(by cases ho)
theorem C1Q{full:Bool}{c:Int}{p:PkI}{B:Z2}(hs:p.aH.length≤100)(hf:p.bK.length≤100):l8 (b9 full c p B):=by
 unfold b9
 split
 ·exact C6F A9c hs hf
 ·split
  ·exact C0r A9c
  ·exact l8.send (T:=⟨B,[],[]⟩) (o:=⟨c,Z7 14 0 130,true⟩) A9c (A7v (by decide))
theorem C5q{full:Bool}{c:Int}{B:Z2}:l8 (A7X full c B):=l8.fin A9c
theorem C0q{m:MsT}{B:Z2}:l8 (A1c m B):=l8.hand A9c
variable {h h0:Heap} {L L' L1 L2 L3 R:List Asn} {Q:Value→Heap→Prop}
def evP(x:EvQ):PkI:=pkI x.p.pk (x.p.pl.take 80) (x.p.sl.take 80) (x.p.fl.take 80)
noncomputable def evB(x:EvQ)(B:Z2):U7:=
 if Int.tmod x.cP 6=1∨Int.tmod x.cP 6= -1 then A7X x.full x.conn B
 else if Int.tmod x.cP 6=2∨Int.tmod x.cP 6= -2 then A1c x.m B
 else if Int.tmod x.cP 6=3∨Int.tmod x.cP 6= -3 then⟨A1R B,[],[]⟩
 else b9 x.full x.conn (evP x) B
theorem C68{c:Int}(h:(Lit.int .i64 c).wf=true): -9223372036854775808≤c∧c≤9223372036854775807:=by
 simp[Lit.wf,IntKind.min,IntKind.max,IntKind.bits,IntKind.signed] at h
 omega
theorem C5v{x:EvQ}{B:Z2}{n:Nat}{hp:Heap}(hx:EvG 1048576 hp x)(h:X3 B n)(ca:(B.aB.map (·.c)).Nodup)(hk:B.kept.length≤64)(hw:A7M B):
  X3 (evB x B).b (n+1)∧A7M (evB x B).b∧(evB x B).outs.length≤3300000∧(evB x B).aT.length≤3300000∧l8 (evB x B):=by
 have fc:(evP x).aH.length≤100:=C4 (J5 _ _) (by decide)
 have fg:(evP x).bK.length≤100:=C4 (J5 _ _) (by decide)
 have eG:(evP x).aX.1.size≤1048576:=hx.p.aX
 unfold evB
 split
 ·exact⟨(B5w h).1.mono (R7 n),C6d h hw,(B5w h).2.1,(B5w h).2.2,C5q⟩
 ·split
  ·exact⟨(A8P h).1.mono (R7 n),C0X h hw,(A8P h).2.1,(A8P h).2.2,C0q⟩
  ·split
   ·exact⟨(B9J h).mono (R7 n),C0W hw,C9 _,C9 _,A9c⟩
   ·have h1:=A3C (full:=x.full) (c:=x.conn) (p:=evP x) h ca hk fc (C4 eG (by decide)) (C68 hx.conn)
    exact⟨h1.1,C3e h ca hw (C4 eG (by decide)),h1.2.1,h1.2.2,C1Q fc fg⟩
theorem B64{m:MsT}{B:Z2}:(A1c m B).aT=[]:=by
 unfold A1c
 rw[A7t]
theorem C5n{b r n:Nat}{full0:Bool}{T:U7}{x:EvQ}(ht:TP h0)(ag:X3 T.b n)(hn:n≤999999)(hw:A7M T.b)(jx:EvG 1048576 h0 x)
  (hq:∀full,At (A0F b (evB x T.b).b::rbA r full (V8 .i64) (evB x T.b)::old h0::L3) (Q (.bool true)))
  (hx:Has L (A0F b T.b) L1:=by repeat first|with_reducible exact U9|apply V1)(hy:Has L1 (rbA r full0 (V8 .i64) T) L2:=by repeat first|with_reducible exact U9|apply V1)(hz:Has L2 (old h0) L3:=by repeat first|with_reducible exact U9|apply V1):
  FW prog 22 #[at0 b,at0 r,.agg (B5X x).toArray] L Q:=by
 have hp:=jx.p
 have hr:=hp.rows
 obtain⟨cP,conn,⟨⟨vk,vd,vr,vq,vi,vt,vp,vc,s8,s9,cF,cD,cw,cy,db,dg,df,dc,dD,cz,cB,vu,cv,cq,dz,dy,⟨⟩⟩,cl,pl,wl,sl,fl⟩,full,⟨mt,mp,mq,mr,mg⟩⟩:=x
 dsimp only at hr hp
 refine fun h hs=>B0q (some ⟨b,0,none⟩) (some ⟨r,0,none⟩) (cP,conn,vk,vd,vr,vq,vi,vt,vp,vc,s8,s9,cF,cD,cw,cy,db,dg,df,dc,dD,cz,cB,vu,cv,cq,dz,dy,full,mt,mp,mq,mr,mg,()) h Q ((?_:W (A0F b T.b::rbA r full0 (V8 .i64) T::old h0::L3) _ _) h ((hx.cV hy hz).s hs))
 clear hs h hx hy hz
 delta B1G ad az bn cb cc cx g2 A0R g7 ie jb jc ji kc nn nw pu sn sw vi vs vz
 refine Y2 (fun h R hs=>C6J (b:=b) ag hw h R hs) fun hsz=>?_
 refine Y2 (fun h R hs=>B9i (b:=b) (B:=T.b) h R hs) fun au=>?_
 obtain⟨jF,pF,td,sY,tK⟩:=C5v jx ag au.1 au.2 hw
 obtain⟨T9,aK⟩:∃T9,T9=evB ⟨cP,conn,⟨(vk,vd,vr,vq,vi,vt,vp,vc,s8,s9,cF,cD,cw,cy,db,dg,df,dc,dD,cz,cB,vu,cv,cq,dz,dy,()),cl,pl,wl,sl,fl⟩,full,(mt,mp,mq,mr,mg)⟩ T.b:=⟨_,rfl⟩
 rw[←aK] at hq jF pF td sY tK
 unfold evB evP at aK
 dsimp only at aK
 refine Y0 fun x1=>?_
 refine W.cells (b:=x1) #[.int .i64 cP,.int .i64 conn,.int .i64 vk,.bool vd,.bool vr,.int .i64 vq,.int .i64 vi,.string vt,.string vp,.int .u8 vc,.slice s8.a s8.len s8.cap,.slice s9.a s9.len s9.cap,.string cF,.bool cD,.int .i64 cw,.bool cy,.string db,.string dg,.int .i64 df,.bool dc,.slice dD.a dD.len dD.cap,.bool cz,.bool cB,.string vu,.string cv,.bool cq,.slice dz.a dz.len dz.cap,.slice dy.a dy.len dy.cap,.bool full,.string mt,.string mp,.int .i64 mq,.bool mr,.string mg] ?_
 refine Y0 fun x2=>?_
 refine W.load (b:=x1) (v:=cP) ?_
 refine A06 ?_ (by decide)
 generalize Int.tmod cP 6=w6 at aK⊢
 refine A07 (fun a=>a.1=decide (w6=1∨w6= -1)) (fun K hK=>A0e (fun e=>U1 (hK _ (by simp only[P8] at e;simp[e]))) (fun e=>U1 (hK _ (by simp only[H4,ne_eq] at e;by_cases e2:w6= -1<;>simp[e,e2])))) (fun a ha=>?_)
 refine C8d (X:=Slc×Slc×Bool) (fun _ _=>True) (fun g _=>cells x2 #[.slice g.1.a g.1.len g.1.cap,.slice g.2.1.a g.2.1.len g.2.1.cap]::V8 .u8 g.1 T9.outs::U4 Z4 5 g.2.1 T9.aT::A0F b T9.b::rbA r g.2.2 (V8 .i64) T9::old h0::L3) (fun K hK=>?_) (fun g _ _=>?_)
 ·clear hq jF pF td sY tK
  by_cases h1:w6=1∨w6= -1
  ·rw[if_pos h1] at aK
   refine X7 (by rw[ha];exact decide_eq_true h1) ?_
   refine W.load (b:=x1) (v:=conn) ?_
   refine W.load (b:=x1) (v:=full) ?_
   refine b6 (C6L (b:=b) ht ag (fun so sp=>At.un (x:=(so,sp,())) ?_))
   refine A0a (b:=x2) ?_
   refine W.load (b:=x1) (v:=conn) ?_
   refine W.load (b:=x1) (v:=full) ?_
   refine Z1 (C6r (T:=T) (full0:=full0) ag hsz.1 (At.bD ?_))
   subst aK
   exact U1 (hK (so,sp,full) () trivial).sub
  rw[if_neg h1] at aK
  refine W6 (by rw[ha];exact decide_eq_false h1) ?_
  clear ha h1
  refine A07 (fun a=>a.1=decide (w6=2∨w6= -2)) (fun K hK=>A0e (fun e=>U1 (hK _ (by simp only[P8] at e;simp[e]))) (fun e=>U1 (hK _ (by simp only[H4,ne_eq] at e;by_cases e2:w6= -2<;>simp[e,e2])))) (fun a ha=>?_)
  by_cases h1:w6=2∨w6= -2
  ·rw[if_pos h1] at aK
   refine A1d (by rw[ha];exact decide_eq_true h1) ?_
   refine X2 (A8g (b:=x1) (i:=29) (v:=(mt,mp,mq,mr,mg,())) ?_)
   refine X2 (b6 (C2i (b:=b) (m:=(mt,mp,mq,mr,mg)) ht ag (C4 jx.cC (by decide)) (fun so=>At.un (x:=so) ?_)))
   refine X2 (W.store (b:=x2) (cs':=#[.slice so.a so.len so.cap,.slice none 0 0]) ?_)
   refine X2 (A8g (b:=x1) (i:=29) (v:=(mt,mp,mq,mr,mg,())) ?_)
   refine X2 (Z1 (C1o (T:=T) (full0:=full0) (m:=(mt,mp,mq,mr,mg)) ag hsz.1 (C4 jx.cC (by decide)) (At.bD ?_)))
   refine b7 ?_
   refine A3p Z4 5 ?_
   have pU:=B64 (m:=(mt,mp,mq,mr,mg)) (B:=T.b)
   rw[←aK] at pU⊢
   rw[pU] at hK
   exact U1 (hK (so,l5,false) () trivial).sub
  rw[if_neg h1] at aK
  refine l7 (by rw[ha];exact decide_eq_false h1) ?_
  clear ha h1
  refine X2 ?_
  refine A07 (fun a=>a.1=decide (w6=3∨w6= -3)) (fun K hK=>A0e (fun e=>U1 (hK _ (by simp only[P8] at e;simp[e]))) (fun e=>U1 (hK _ (by simp only[H4,ne_eq] at e;by_cases e2:w6= -3<;>simp[e,e2])))) (fun a ha=>?_)
  by_cases h1:w6=3∨w6= -3
  ·rw[if_pos h1] at aK
   refine X2 (A1d (by rw[ha];exact decide_eq_true h1) ?_)
   refine X2 (Z1 (C2h (b:=b) ht ag (At.bD ?_)))
   refine X2 (Z1 (C1k (T:=T) (full0:=full0) ag hsz.1 (At.bD ?_)))
   refine b7 (b7 ?_)
   subst aK
   refine A3p Z4 5 ?_
   refine W.sub (L':=U4 Z4 5 ⟨none,0,0⟩ []::cells x2 #[.slice none 0 0,.slice none 0 0]::A0F b (A1R T.b)::rbA r false (V8 .i64) ⟨A1R T.b,[],[]⟩::old h0::L3) ?_
   exact U1 (fun h hs=>hK (l5,l5,false) () trivial h ((B1q (k:=.u8) hs).re [2,0,1,3,4,5]))
  rw[if_neg h1] at aK
  refine X2 (l7 (by rw[ha];exact decide_eq_false h1) ?_)
  clear ha h1
  refine X2 (A8g (b:=x1) (i:=2) (v:=(vk,vd,vr,vq,vi,vt,vp,vc,s8,s9,cF,cD,cw,cy,db,dg,df,dc,dD,cz,cB,vu,cv,cq,dz,dy,())) ?_)
  obtain⟨cc,fh⟩:∃cc,cc=IntKind.wrap .i64 vc:=⟨_,rfl⟩
  have xu:vc=cc:=by
   have:=hp.code
   simp[Lit.wf,IntKind.min,IntKind.max,IntKind.bits,IntKind.signed] at this
   rw[fh,V5 (by omega) (by omega)]
  refine X2 (Z1 (C3J hr fh (fun c1 c2 p1 p2 w1 w2 q1 q2 f1 f2=>At.bD (x:=((vk,vd,vr,vq,vi,vt,vp,vc,c1,p1,cF,cD,cw,cy,db,dg,df,dc,w1,cz,cB,vu,cv,cq,q1,f1,()),(vk,vd,vr,vq,vi,vt,vp,cc,c2,p2,cF,cD,cw,cy,db,dg,df,dc,w2,cz,cB,vu,cv,cq,q2,f2,()),())) ?_)))
  clear fh
  subst xu
  have ou:∀{α:Type} (l:List α),(l.take 80).length≤100:=fun l=>C4 (J5 _ _) (by decide)
  have wQ:C2m (vk,vd,vr,vq,vi,vt,vp,vc,c1,p1,cF,cD,cw,cy,db,dg,df,dc,w1,cz,cB,vu,cv,cq,q1,f1,()) (pl.take 80) (sl.take 80) (fl.take 80):=⟨C4 hp.cC (by decide),C4 hp.aC (by decide),C4 hp.aX (by decide),ou _,ou _,fun s hs=>C4 (hp.aH s (List.mem_of_mem_take hs)) (by decide),ou _,fun f hf=>C4 (hp.eR f (List.mem_of_mem_take hf)) (by decide)⟩
  have wM:C52 (vk,vd,vr,vq,vi,vt,vp,vc,c2,p2,cF,cD,cw,cy,db,dg,df,dc,w2,cz,cB,vu,cv,cq,q2,f2,()) (pl.take 80) (sl.take 80) (fl.take 80):=⟨C4 hp.cC (by decide),C4 hp.aC (by decide),C4 hp.aX (by decide),ou _,ou _,fun s hs=>C4 (hp.aH s (List.mem_of_mem_take hs)) (by decide),ou _⟩
  have bR:=C68 jx.conn
  have e1:b9 full conn (pkI (vk,vd,vr,vq,vi,vt,vp,vc,c1,p1,cF,cD,cw,cy,db,dg,df,dc,w1,cz,cB,vu,cv,cq,q1,f1,()) (pl.take 80) (sl.take 80) (fl.take 80)) T.b=T9:=aK.symm
  have e2:b9 full conn (pkI (vk,vd,vr,vq,vi,vt,vp,vc,c2,p2,cF,cD,cw,cy,db,dg,df,dc,w2,cz,cB,vu,cv,cq,q2,f2,()) (pl.take 80) (sl.take 80) (fl.take 80)) T.b=T9:=aK.symm
  have gT:n≤1000000:=by omega
  clear aK hr hp jx
  refine X2 (Y0 fun ph=>?_)
  refine X2 (Y0 fun ll=>?_)
  refine X2 (A0a (b:=ph) ?_)
  refine X2 (A0a (b:=ll) ?_)
  refine W.cells (b:=ph) #[.int .i64 vk,.bool vd,.bool vr,.int .i64 vq,.int .i64 vi,.string vt,.string vp,.int .u8 vc,.slice c1.a c1.len c1.cap,.slice p1.a p1.len p1.cap,.string cF,.bool cD,.int .i64 cw,.bool cy,.string db,.string dg,.int .i64 df,.bool dc,.slice w1.a w1.len w1.cap,.bool cz,.bool cB,.string vu,.string cv,.bool cq,.slice q1.a q1.len q1.cap,.slice f1.a f1.len f1.cap] ?_
  refine W.cells (b:=ll) #[.int .i64 vk,.bool vd,.bool vr,.int .i64 vq,.int .i64 vi,.string vt,.string vp,.int .i64 vc,.slice c2.a c2.len c2.cap,.slice p2.a p2.len p2.cap,.string cF,.bool cD,.int .i64 cw,.bool cy,.string db,.string dg,.int .i64 df,.bool dc,.slice w2.a w2.len w2.cap,.bool cz,.bool cB,.string vu,.string cv,.bool cq,.slice q2.a q2.len q2.cap,.slice f2.a f2.len f2.cap] ?_
  refine X2 (W.load (b:=x1) (v:=conn) ?_)
  refine X2 (q8 (b:=ph) (v:=(vk,vd,vr,vq,vi,vt,vp,vc,c1,p1,cF,cD,cw,cy,db,dg,df,dc,w1,cz,cB,vu,cv,cq,q1,f1,())) ?_)
  refine X2 (W.load (b:=x1) (v:=full) ?_)
  refine X2 (b6 (A6T (b:=b) (n:=n) (B:=T.b) (c:=conn) (p:=(vk,vd,vr,vq,vi,vt,vp,vc,c1,p1,cF,cD,cw,cy,db,dg,df,dc,w1,cz,cB,vu,cv,cq,q1,f1,())) (pl:=pl.take 80) (sl:=sl.take 80) (fl:=fl.take 80) (full:=full) ht ag gT wQ bR (fun so sp=>At.un (x:=(so,sp,())) ?_)))
  rw[e1]
  refine X2 (A0a (b:=x2) ?_)
  refine X2 (W.load (b:=x1) (v:=conn) ?_)
  refine X2 (q8 (b:=ll) (v:=(vk,vd,vr,vq,vi,vt,vp,vc,c2,p2,cF,cD,cw,cy,db,dg,df,dc,w2,cz,cB,vu,cv,cq,q2,f2,())) ?_)
  refine X2 (W.load (b:=x1) (v:=full) ?_)
  refine X2 (Z1 (C3D (T:=T) (n:=n) (full:=full) (full0:=full0) (c:=conn) (p:=(vk,vd,vr,vq,vi,vt,vp,vc,c2,p2,cF,cD,cw,cy,db,dg,df,dc,w2,cz,cB,vu,cv,cq,q2,f2,())) (pl:=pl.take 80) (sl:=sl.take 80) (fl:=fl.take 80) ag gT hsz.1 hsz.2 bR wM (At.bD ?_)))
  rw[e2]
  refine b7 (b7 ?_)
  exact U1 (hK (so,sp,full) () trivial).sub
 ·obtain⟨gs,gp,gf⟩:=g
  dsimp only
  refine X2 (W.load (b:=x2) (v:=gs) ?_)
  refine X2 (W3 ?_)
  refine A2b (g:=fun q R=>rbL r gf (V8 .i64) T9 q R) (fun h R=>A0G.1) fun q=>?_
  refine X2 (i7 (b:=r) (i:=5) (v:=q.so) ?_)
  refine W.sub (L':=V8 .u8 gs T9.outs::V8 .i64 q.so T9.outs::cells x2 #[.slice gs.a gs.len gs.cap,.slice gp.a gp.len gp.cap]::U4 Z4 5 gp T9.aT::A0F b T9.b::cells r (rbC q gf)::U4 Z4 5 q.sp T9.aT::U4 y9 8 q.sc T9.b.aB::A0m q.tb T9.b.last T9.b.aD::A0y q.sb T9.b.aH::A1L q.kb 64 T9.b.kept::old h0::L3) ?_
  refine X2 (b6 (C3c (v:=.bool true) (fun h1 aa Q1 ja=>C3v (s1:=gs) (s2:=q.so) (os:=T9.outs) (C2M aa) (C2M (aa.re [1,0])) (C4 td (by decide)) tK ja) (At.un (x:=true) ?_)))
  refine A1d rfl ?_
  refine X2 (W.load (b:=x2) (v:=gp) ?_)
  refine X2 (W3 ?_)
  refine X2 (i7 (b:=r) (i:=6) (v:=q.sp) ?_)
  refine W.sub (L':=U4 Z4 5 gp T9.aT::U4 Z4 5 q.sp T9.aT::V8 .i64 q.so T9.outs::A0F b T9.b::cells r (rbC q gf)::U4 y9 8 q.sc T9.b.aB::A0m q.tb T9.b.last T9.b.aD::A0y q.sb T9.b.aH::A1L q.kb 64 T9.b.kept::old h0::L3) ?_
  refine X2 (b6 (C3c (v:=.bool true) (fun h1 aa Q1 ja=>C1b (s1:=gp) (s2:=q.sp) (ms:=T9.aT) (aa.aO (Enc.len (enc:=Z4))) ((aa.re [1,0]).aO (Enc.len (enc:=Z4))) (C4 sY (by decide)) ja) (At.un (x:=true) ?_)))
  refine b7 (U1 ?_)
  refine At.rb (O:=V8 .i64) T9 q ?_
  exact(hq gf).sub
end
section
open Go.H Go.Proofs
variable {h h0:Heap} {L L' L1 L2 R:List Asn} {Q:Value→Heap→Prop}
theorem C78{γ β:Type}{enc:γ→C9w}{size n:Nat}{N:Int}{s s2:Slc}{xs:List γ}{f:Slc→HM β}{Q':β→Heap→Prop}(hr:Z5 enc size h0 s xs)(hN:N=(n:Int))(hw:∀s',Z5 enc size h0 s' (xs.take n)→W L (f s') Q')(hs:s2=s:=by rfl):
  W L (HM.bind (HM.slice s none (some (if N<(((s2.len:Nat):Int):Int) then N else((s2.len:Nat):Int))) none size) f) Q':=by
 subst hs hN
 have hl:=hr.1
 by_cases jn:n<xs.length
 ·rw[if_pos (by omega)]
  exact C28 (n:=n) hr (by omega) hw
 ·rw[if_neg (by omega)]
  have e:xs.take n=xs.take xs.length:=by rw[D2 (by omega),F5]
  refine C28 (n:=xs.length) hr (D6 _) (fun s' dr=>hw s' (by rw[e];exact dr)) (by rw[hl])
theorem tm2(q:Int):Int.tmod (if 0<q then q else 0) 2=0∨Int.tmod (if 0<q then q else 0) 2=1:=by
 have h0:0≤(if 0<q then q else 0):=by split<;>omega
 rw[P6 h0]
 omega
theorem tm3(q:Int):0≤Int.tmod (if 0<q then q else 0) 3∧Int.tmod (if 0<q then q else 0) 3≤2:=by
 have h0:0≤(if 0<q then q else 0):=by split<;>omega
 rw[P6 h0]
 omega
end
section
open Go.H Go.Proofs
variable {h h0:Heap} {L L' L1 L2 L3 R:List Asn} {Q:Value→Heap→Prop}
noncomputable def evN(B:Z2)(x:EvQ):Z2:=(evB x B).b
noncomputable def C5R(xs:List EvQ):Z2:=xs.foldl evN ⟨0,[],[],[],[]⟩
theorem C6O{s1:Slc}{iX:List EvQ}(ht:TP h0)(hP:Z5 B5X 34 h0 s1 iX)(kT:∀x∈iX,EvG 1048576 h0 x)
  (hq:∀b,X3 (C5R (iX.take 40)) 40→A7M (C5R (iX.take 40))→At (A0F b (C5R (iX.take 40))::old h0::L1) (Q (at0 b)))(hx:Has L (old h0) L1:=by repeat first|with_reducible exact U9|apply V1):
  FW prog 15 #[.slice s1.a s1.len s1.cap] L Q:=by
 refine fun h hs=>B1H s1 h Q ((?_:W (old h0::L1) _ _) h (hx.s hs))
 clear hs h hx
 delta B3L az bn cb cp g0 ie ix nw pu sn wi
 refine b6 (C5N (fun b=>At.un (x:=some ⟨b,0,none⟩) ?_))
 refine b6 (C7r (fun r=>At.un (x:=some ⟨r,0,none⟩) ?_))
 refine C78 (n:=40) hP rfl (fun s' hr=>?_)
 have vH:(iX.take 40).length≤40:=J5 _ _
 have oL:∀x∈iX.take 40,EvG 1048576 h0 x:=fun x hx=>kT x (List.mem_of_mem_take hx)
 clear hP kT
 generalize iX.take 40=xs at hr oL vH hq
 refine W.loop (γ:=Nat×U7×Bool) (fun g s=>s.1=(g.1:Int)∧g.1≤xs.length∧X3 g.2.1.b g.1∧A7M g.2.1.b∧(xs.drop g.1).foldl evN g.2.1.b=C5R xs) (fun g s=>rbA r g.2.2 (V8 .i64) g.2.1::A0F b g.2.1.b::old h0::L1) (fun g=>xs.length-g.1) (0,⟨⟨0,[],[],[],[]⟩,[],[]⟩,false) ⟨rfl,C9 _,X3.new,C7e,rfl⟩ ?_ ?_
 ·show Sub _ (rbA r false (V8 .i64) ⟨⟨0,[],[],[],[]⟩,[],[]⟩::A0F b ⟨0,[],[],[],[]⟩::old h0::L1)
  repeat(first|with_reducible exact T5|with_reducible exact T6|refine T7 (by repeat first|with_reducible exact U9|apply V1) ?_|refine T8 ?_)
 rintro⟨i,T,f0⟩ s ⟨hi,ck,ag,hw,hf⟩ K k1 k2
 simp only at hi ck ag hw hf
 dsimp only
 by_cases ah:i<xs.length
 ·refine X7 (by rw[hi,hr.1];exact decide_eq_true (by omega)) ?_
  have aQ:xs[i]? =some xs[i]:=B0 ah
  have bh:xs.drop i=xs[i]::xs.drop (i+1):=D9 ah
  have pD:=oL xs[i] (H2 ah)
  rw[bh,I0] at hf
  generalize xs[i]=u at aQ pD hf
  clear bh
  refine Y2 (fun h R hs=>B9i (b:=b) (B:=T.b) h R hs) fun au=>?_
  obtain⟨jF,pF,-,-,-⟩:=C5v pD ag au.1 au.2 hw
  have hn:=fun full=>k1 (i+1,evB u T.b,full) (IntKind.wrap .i64 (s.1+1),()) (by simp only;omega) ⟨by simp only[hi];rw[V5 (by omega) (by omega)];rfl,ah,jF,pF,hf⟩
  clear k1 k2 jF pF hf
  obtain⟨cP,conn,⟨⟨vk,vd,vr,vq,vi,vt,vp,vc,s8,s9,cF,cD,cw,cy,db,dg,df,dc,dD,cz,cB,vu,cv,cq,dz,dy,⟨⟩⟩,cl,pl,wl,sl,fl⟩,full,⟨mt,mp,mq,mr,mg⟩⟩:=u
  refine A7N hr ah (fun a ha=>?_) (he:=hi)
  refine B4v (v:=(cP,conn,vk,vd,vr,vq,vi,vt,vp,vc,s8,s9,cF,cD,cw,cy,db,dg,df,dc,dD,cz,cB,vu,cv,cq,dz,dy,full,mt,mp,mq,mr,mg,())) hr ha aQ ?_
  refine Y0 fun x8=>?_
  refine A0a (b:=x8) ?_
  refine W.cells (b:=x8) #[.int .i64 cP,.int .i64 conn,.int .i64 vk,.bool vd,.bool vr,.int .i64 vq,.int .i64 vi,.string vt,.string vp,.int .u8 vc,.slice s8.a s8.len s8.cap,.slice s9.a s9.len s9.cap,.string cF,.bool cD,.int .i64 cw,.bool cy,.string db,.string dg,.int .i64 df,.bool dc,.slice dD.a dD.len dD.cap,.bool cz,.bool cB,.string vu,.string cv,.bool cq,.slice dz.a dz.len dz.cap,.slice dy.a dy.len dy.cap,.bool full,.string mt,.string mp,.int .i64 mq,.bool mr,.string mg] ?_
  refine q8 (b:=x8) (v:=(cP,conn,vk,vd,vr,vq,vi,vt,vp,vc,s8,s9,cF,cD,cw,cy,db,dg,df,dc,dD,cz,cB,vu,cv,cq,dz,dy,full,mt,mp,mq,mr,mg,())) ?_
  refine b6 (C5n (b:=b) (r:=r) (n:=i) (full0:=f0) (T:=T) (x:=⟨cP,conn,⟨(vk,vd,vr,vq,vi,vt,vp,vc,s8,s9,cF,cD,cw,cy,db,dg,df,dc,dD,cz,cB,vu,cv,cq,dz,dy,()),cl,pl,wl,sl,fl⟩,full,(mt,mp,mq,mr,mg)⟩) ht ag (by omega) hw pD (fun full=>At.un (x:=true) ?_))
  exact U1 (hn full).sub
 ·refine W6 (by rw[hi,hr.1];exact decide_eq_false (by omega)) (U1 (k2 _ _ (U1 ?_)))
  have eh:i=xs.length:=by omega
  subst eh
  rw[J7,P3] at hf
  rw[←hf] at hq
  exact(hq b (ag.mono vH) hw).sub
end
section
open Go.H Go.Proofs
abbrev B0S:B3O:=ByteArray.mk #[97,32,99,108,105,101,110,116,32,111,102,32,105,116,115,32,111,119,110]
theorem C6D:Z6 B0S:=B5K (by decide) (by decide) (by decide)
theorem C7u:B0S.size≤9223372036854775807:=by decide
theorem C31{C:List Y3}{x:Y3}(hn:∀y∈C,y.c≠x.c):A04 x.c (C++[x])=some x:=by
 unfold A04
 rw[N8,E3.2 (fun y hy=>by simpa using hn y hy)]
 simp
theorem C6E{B:Z2}{n:Nat}{c:Int}{aC:B3O}{m:MsT}{id:Int}(h:X3 B n)(hc:∀x∈B.aB,x.c≠c)(hq:0≤m.2.2.1∧m.2.2.1≤2)(hid:1≤id∧id≤65535):
  ∃B2,b9 true c (C8v m id) (A2B c aC B)=⟨B2,if Y8 m.1=false then[⟨c,Z7 14 0 144,true⟩] else if m.2.2.1=0 then[] else[⟨c,Z7 (if m.2.2.1=1 then 4 else 5) id 151,false⟩],[]⟩:=by
 obtain⟨x,hx⟩:∃x:Y3,x=⟨c,B.last+1,false,w0⟩:=⟨_,rfl⟩
 have iY:x.c=c:=by rw[hx]
 have eE:x.aD=B.last+1:=by rw[hx]
 have wA:x.bE=false:=by rw[hx]
 have fC:(A2B c aC B).aB=B.aB++[x]:=by rw[hx];rfl
 have hg:A04 c (A2B c aC B).aB=some x:=by rw[fC,←iY];exact C31 (by rw[iY];exact hc)
 have ax:∀y∈B.aD,y.id≠(A3L (B.last+1) aC).id:=fun y hy=>by
  have:=(h.dP y hy).2
  show y.id≠B.last+1
  omega
 have tG:A4E x.aD (A2B c aC B).aD=some (A3L (B.last+1) aC):=by rw[eE];exact B7P ax
 have ba:∀y∈B.aB,y.aD≠x.aD:=fun y hy=>by
  obtain⟨s,hs,e⟩:=h.cl y hy
  have:=(h.dP s hs).2
  rw[eE,←e];omega
 have uC:∀ps,A1w (A2B c aC B).aB x.aD ps=ps.map fun p=>⟨c,p,false⟩:=fun ps=>by
  unfold A1w
  rw[fC,E9,I6.2 (fun y hy=>by simpa using ba y hy)]
  simp[iY]
 unfold b9
 rw[hg]
 simp only
 unfold A9t
 rw[if_pos (.inl rfl)]
 unfold A6h
 cases hn:Y8 m.1 with
 |false=>
  rw[if_pos ⟨rfl,rfl⟩,if_pos rfl]
  unfold A0q A4n
  have rA:A04 x.c (A0t ⟨x.c,Z7 14 0 144,true⟩ ⟨A2B c aC B,[],[]⟩).b.aB=some x:=by rw[iY];exact hg
  rw[rA]
  simp only[wA]
  rw[if_neg (by simp),iY]
  exact⟨_,rfl⟩
 |true=>
  rw[if_neg (by simp),if_neg (show ¬(true=false) by decide)]
  rw[tG]
  simp only
  have al:∀q,0≤q→q≤2→¬q9 3 q id:=fun q h1 h2=>by
   unfold q9
   omega
  have hr:k9 (A3L (B.last+1) aC).aZ 3 m.2.2.1 id 151=(true,if m.2.2.1=0 then none else some (if m.2.2.1=1 then 4 else 5,151),0,[]):=by
   unfold k9
   rw[if_neg (al _ hq.1 hq.2)]
   by_cases h0:m.2.2.1=0
   ·rw[if_pos ⟨rfl,h0⟩,if_pos h0];rfl
   ·rw[if_neg (fun e=>h0 e.2),if_neg (by decide),if_neg h0]
    by_cases h1:m.2.2.1=1
    ·rw[if_pos h1,if_pos h1];rfl
    ·rw[if_neg h1,if_neg h1,if_neg (by simp[A3L]),if_neg (by simp[A3L]),if_neg (by decide)];rfl
  simp only[if_true,hr]
  rw[if_neg (by simp),if_neg (by simp)]
  by_cases h0:m.2.2.1=0
  ·rw[if_pos h0,if_pos h0]
   refine⟨_,congrArg (fun l=>U7.mk _ l []) ?_⟩
   show[]++A1w (A2B c aC B).aB x.aD []=[]
   rw[uC];rfl
  ·rw[if_neg h0,if_neg h0]
   refine⟨_,congrArg (fun l=>U7.mk _ l []) ?_⟩
   show[]++A1w (A2B c aC B).aB x.aD [_]=_
   rw[uC];rfl
variable {h h0:Heap} {L L' L1 L2 L3 R:List Asn} {Q:Value→Heap→Prop}
theorem C4c{B:Z2}{n:Nat}(h:X3 B n):B.aB.length≤32:=by
 have h1:(B.aB.map (·.aD)).Nodup:=by
  rw[List.nodup_iff_count]
  intro i
  have:=h.one i
  rw[List.count_eq_countP,List.countP_map,List.countP_eq_length_filter]
  exact this
 have h3:=B2J h1 (l':=B.aD.map (·.id)) fun i hi=>by
  obtain⟨x,hx,rfl⟩:=E4.1 hi
  obtain⟨s,hs,e⟩:=h.cl x hx
  exact e▸B3 hs
 simp only[B9] at h3
 have:=h.n32
 omega
theorem C75: -9223372036854775808≤(1099511627776:Int)∧(1099511627776:Int)≤9223372036854775807:=by decide
theorem C9i(q:Int):0≤Int.tmod (if 0<q then q else 0) 65535∧Int.tmod (if 0<q then q else 0) 65535≤65534:=by
 have h0:0≤(if 0<q then q else 0):=by split<;>omega
 rw[P6 h0]
 generalize(if 0<q then q else 0)=z
 have h1:=Int.emod_nonneg z (b:=65535) (by decide)
 have h2:=Int.emod_lt_of_pos z (b:=65535) (by decide)
 exact⟨h1,Int.le_of_lt_add_one h2⟩
theorem B9l{s1:Slc}{iX:List EvQ}{m0:MsT}{id0:Int}(ht:TP h0)(hP:Z5 B5X 34 h0 s1 iX)(kT:∀x∈iX,EvG 1048576 h0 x)(fP:m0.1.size≤1048576)
  (hq:∀h' R,sat h' (old h0::R)→Q (.bool true) h'):FW prog 5 #[.slice s1.a s1.len s1.cap,vMs m0,.int .i64 id0] [old h0] Q:=by
 have fin:∀{L L'},Has L (old h0) L'→At L (Q (.bool true)):=fun hx h hs=>hq h _ (hx.s hs)
 obtain⟨mt,mp,mq,mr,mg⟩:=m0
 refine fun h hs=>A7l s1 (mt,mp,mq,mr,mg,()) id0 h Q ((?_:W [old h0] _ _) h hs)
 clear hs h
 have ti:mt.size≤9223372036854775807:=C4 fP (by decide)
 delta A6H az bn cb cc cp cu A0R g9 ie ix jb jc ji jt kb ki ku li nw pu sn sw ve vi vs vz wi
 refine Y0 fun x1=>?_
 refine W.cells (b:=x1) #[.string mt,.string mp,.int .i64 mq,.bool mr,.string mg] ?_
 refine b6 (C6O ht hP kT (fun b ag eG=>At.un (x:=some ⟨b,0,none⟩) ?_))
 generalize C5R (iX.take 40)=B at ag eG
 refine Y2 (fun h R hs=>B9i (b:=b) (B:=B) h R hs) fun au=>?_
 have ba:=C4c ag
 refine C2l (fun r=>r.1=decide (32≤B.aD.length)) (fun _=>A0F b B::cells x1 #[.string mt,.string mp,.int .i64 mq,.bool mr,.string mg]::[old h0]) (fun K hK=>?_) (fun r hr=>?_)
 ·refine b6 (B6A (b:=b) (B:=B) ag (fun S=>At.un (x:=S) ?_))
  refine Y2 (X1 (enc:=eI) (size:=1) (s:=S) (xs:=Z0 (B.aB.map (·.c)))) fun l1=>?_
  rw[A2d,B9] at l1
  refine W6 (by rw[l1];exact decide_eq_false (by omega)) ?_
  refine b6 (B30 (b:=b) (B:=B) ag (by decide) (fun S2=>At.un (x:=S2) ?_))
  refine Y2 (X1 (enc:=B4p) (size:=4) (s:=S2) (xs:=B.aD.map u5)) fun l2=>?_
  rw[B9] at l2
  refine U1 ((hK _ ?_).sub)
  simp only
  rw[l2]
  exact F9.2 (by omega)
 by_cases ea:32≤B.aD.length
 ·refine X7 (by rw[hr];exact decide_eq_true ea) ?_
  refine b6 (B0L ht (At.un (x:=true) ?_))
  exact U1 (fin (by repeat first|with_reducible exact U9|apply V1))
 refine W6 (by rw[hr];exact decide_eq_false ea) ?_
 clear hr
 refine b6 (B30 (b:=b) (B:=B) ag (by decide) (fun S2=>At.un (x:=S2) ?_))
 refine Y2 (X1 (enc:=B4p) (size:=4) (s:=S2) (xs:=B.aD.map u5)) fun l2=>?_
 rw[B9] at l2
 have wV:=ag.n32
 refine B2a B.aD.length (fun i x=>x.1=(i:Int)∧∀s∈B.aD.take i,s.aC≠B0S) (fun i _=>U4 B4p 4 S2 (B.aD.map u5)::A0F b B::cells x1 #[.string mt,.string mp,.int .i64 mq,.bool mr,.string mg]::[old h0]) ⟨rfl,fun s hs=>by simp at hs⟩ ?_ (fun i x hi hI=>by rw[hI.1,l2];exact F9.2 (by omega)) ?_ ?_
 ·repeat(first|with_reducible exact T5|with_reducible exact T6|refine T7 (by repeat first|with_reducible exact U9|apply V1) ?_|refine T8 ?_)
 case refine_3=>
  rintro i ⟨_,⟨⟩⟩ ah ⟨hI,lM⟩ K bp hd
  simp only at hI
  subst hI
  have aQ:(B.aD.map u5)[i]? =some (u5 B.aD[i]):=by rw[K6,B0 ah];rfl
  have aw:B.aD[i].aC≠B0S→∀s∈B.aD.take (i+1),s.aC≠B0S:=fun bz s hs=>by
   rw[C3 ah] at hs
   rcases C7.1 hs with hs|hs
   ·exact lM s hs
   ·rw[C0.1 hs];exact bz
  have oG:=fun bz=>bp (IntKind.wrap .i64 ((i:Int)+1),()) ⟨by simp only;rw[V5 (by omega) (by omega)];rfl,aw bz⟩
  clear bp aw
  generalize B.aD[i]=s at aQ oG
  refine e8 (enc:=B4p) (xs:=B.aD.map u5) (i:=i) (by simpa using ah) (fun a ha=>?_)
  refine B3e (x:=u5 s) (v:=(s.id,s.aC,s.aN,s.on,())) ha aQ ?_
  refine Y0 fun gR=>?_
  refine A0a (b:=gR) ?_
  refine W.cells (b:=gR) #[.int .i64 s.id,.string s.aC,.bool s.aN,.bool s.on] ?_
  refine W.load (b:=gR) (v:=s.aC) ?_
  by_cases hc:s.aC=B0S
  ·refine X7 (decide_eq_true hc) ?_
   refine b6 (B0L ht (At.un (x:=true) ?_))
   exact U1 (hd _ _ (W.inr (U1 (fin (by repeat first|with_reducible exact U9|apply V1)))))
  ·refine W6 (decide_eq_false hc) ?_
   exact U1 (oG hc).sub
 rintro⟨_,⟨⟩⟩ ⟨hI,lM⟩ K hd
 rw[F5] at lM
 refine U1 (hd _ _ (W.inl ?_))
 clear hd hI K
 refine b6 (B6A (b:=b) (B:=B) ag (fun S=>At.un (x:=S) ?_))
 refine Y2 (X1 (enc:=eI) (size:=1) (s:=S) (xs:=Z0 (B.aB.map (·.c)))) fun l1=>?_
 have gl:(Z0 (B.aB.map (·.c))).length≤32:=by rw[A2d,B9];exact ba
 have an:∀k,k∈Z0 (B.aB.map (·.c))↔k∈B.aB.map (·.c):=fun k=>B2i
 generalize Z0 (B.aB.map (·.c))=cl at l1 gl an
 refine B2a cl.length (fun i x=>x.1=(i:Int)∧∀c∈cl.take i,c<1099511627776) (fun i _=>U4 eI 1 S cl::A0F b B::cells x1 #[.string mt,.string mp,.int .i64 mq,.bool mr,.string mg]::[old h0]) ⟨rfl,fun s hs=>by simp at hs⟩ ?_ (fun i x hi hI=>by rw[hI.1,l1];exact F9.2 (by omega)) ?_ ?_
 ·repeat(first|with_reducible exact T5|with_reducible exact T6|refine T7 (by repeat first|with_reducible exact U9|apply V1) ?_|refine T8 ?_)
 case refine_3=>
  rintro i ⟨_,⟨⟩⟩ ah ⟨hI,lL⟩ K bp hd
  simp only at hI
  subst hI
  have aQ:=B0 ah
  have aw:cl[i]<1099511627776→∀c∈cl.take (i+1),c<1099511627776:=fun bz s hs=>by
   rw[C3 ah] at hs
   rcases C7.1 hs with hs|hs
   ·exact lL s hs
   ·rw[C0.1 hs];exact bz
  have oG:=fun bz=>bp (IntKind.wrap .i64 ((i:Int)+1),()) ⟨by simp only;rw[V5 (by omega) (by omega)];rfl,aw bz⟩
  clear bp aw
  generalize cl[i]=c at aQ oG
  refine e8 (enc:=eI) (xs:=cl) (i:=i) ah (fun a ha=>?_)
  refine B6G (enc:=eI) (x:=c) (v:=c) ha aQ ?_
  by_cases hc:c<1099511627776
  ·refine W6 (decide_eq_false (by omega)) ?_
   exact U1 (oG hc).sub
  ·refine X7 (decide_eq_true (by omega)) ?_
   refine b6 (B0L ht (At.un (x:=true) ?_))
   exact U1 (hd _ _ (W.inr (U1 (fin (by repeat first|with_reducible exact U9|apply V1)))))
 rintro⟨_,⟨⟩⟩ ⟨hI,lL⟩ K hd
 rw[F5] at lL
 refine U1 (hd _ _ (W.inl ?_))
 clear hd hI K l1 l2 gl
 have fh:∀x∈B.aB,x.c≠1099511627776:=fun x hx e=>by
  have:=lL x.c ((an _).2 (B3 hx))
  rw[e] at this
  exact Int.lt_irrefl _ this
 have ax:ofS B0S B.aD=none:=E3.2 fun s hs=>by simpa using lM s hs
 have lG:A04 1099511627776 B.aB=none:=E3.2 fun x hx=>by simpa using fh x hx
 have jX:=join_eq (full:=false) ag lG ax (by omega) C6D (by omega)
 obtain⟨aF,-,-⟩:=A3C (full:=false) (c:=1099511627776) (p:=B1J B0S) ag au.1 au.2 (by simp) A4G C75
 rw[jX] at aF
 refine A3p X9 5 ?_
 refine b6 (C1H (b:=b) (n:=40) (B:=B) (B1:=A2B 1099511627776 B0S B) (B2:=A2B 1099511627776 B0S B) (c:=1099511627776) (aC:=B0S) (sl:=[]) (S:=l5) (o1:=⟨1099511627776,A1y false,false⟩) (r1:=[]) (o2:=⟨1099511627776,A1y false,false⟩) (r2:=[]) (ps:=[]) ht ag (by decide) au.1 au.2 C75 C7u sl0 ss0 jX rfl rfl (.inl ⟨rfl,rfl⟩) (At.un (x:=true) ?_))
 refine W6 rfl ?_
 refine W.load (b:=x1) (v:=mq) ?_
 refine A06 ?_ (by decide)
 have uK:=tm3 mq
 generalize Int.tmod (if 0<mq then mq else 0) 3=qq at uK⊢
 refine W.store (b:=x1) (cs':=#[.string mt,.string mp,.int .i64 qq,.bool mr,.string mg]) ?_
 refine W.load (b:=x1) (v:=mt) ?_
 refine W.load (b:=x1) (v:=mp) ?_
 refine W.load (b:=x1) (v:=qq) ?_
 refine W.load (b:=x1) (v:=mr) ?_
 refine A06 ?_ (by decide)
 have hid:=C9i id0
 generalize Int.tmod (if 0<id0 then id0 else 0) 65535=i0 at hid⊢
 obtain⟨id,nM⟩:∃id,id=IntKind.wrap .i64 (1+i0):=⟨_,rfl⟩
 rw[←nM]
 rw[V5 (by omega) (by omega)] at nM
 have tz:1≤id∧id≤65535:=by omega
 clear nM hid
 refine Y0 fun jQ=>?_
 refine A0a (b:=jQ) ?_
 refine W.cells (b:=jQ) #[.int .i64 3,.bool false,.bool mr,.int .i64 qq,.int .i64 id,.string mt,.string mp,.int .u8 0,.slice none 0 0,.slice none 0 0,.string e0S,.bool false,.int .i64 0,.bool false,.string e0S,.string e0S,.int .i64 0,.bool false,.slice none 0 0,.bool false,.bool false,.string e0S,.string e0S,.bool false,.slice none 0 0,.slice none 0 0] ?_
 refine q8 (b:=jQ) (v:=C1p (mt,mp,qq,mr,e0S) id) ?_
 refine A3p X9 5 ?_
 refine A3p v8 1 ?_
 refine A3p W8 4 ?_
 obtain⟨B2,vf⟩:=C6E (c:=1099511627776) (aC:=B0S) (m:=(mt,mp,qq,mr,e0S)) (id:=id) ag fh uK tz
 refine b6 (A6T (b:=b) (n:=41) (B:=A2B 1099511627776 B0S B) (c:=1099511627776) (p:=C1p (mt,mp,qq,mr,e0S) id) (pl:=[]) (sl:=[]) (fl:=[]) (full:=true) ht aF (by decide) (C2K ti) C75 (fun so sp=>At.un (x:=(so,sp,())) ?_))
 rw[show b9 true 1099511627776 (pkI (C1p (mt,mp,qq,mr,e0S) id) [] [] []) (A2B 1099511627776 B0S B)=_ from vf]
 dsimp only
 refine Y0 fun jq=>?_
 refine A0a (b:=jq) ?_
 refine Y2 (X1 (enc:=Z4) (size:=5) (s:=sp) (xs:=([]:List MsT))) fun fb=>?_
 refine W.load (b:=x1) (v:=mt) ?_
 refine b6 (A8Q ht ti (At.un ?_))
 unfold A2t
 clear vf jX aF ax lG
 cases hn:Y8 mt with
 |false=>
  refine X7 rfl ?_
  rw[if_pos rfl]
  refine B68 (fun h R hs=>(A1S (k:=.u8) (s:=so) (os:=[⟨1099511627776,Z7 14 0 144,true⟩])).1 hs) fun T hT=>?_
  obtain⟨⟨c1,p1,o⟩,T,rfl⟩:∃a T',T=a::T':=by cases T with|nil=>cases hT|cons a T=>exact⟨a,T,rfl⟩
  have oS:o=⟨1099511627776,Z7 14 0 144,true⟩:=(S9 hT).1
  clear hT
  subst oS
  refine Y2 (X1 (enc:=A0o .u8) (size:=28) (s:=so) (xs:=((c1,p1,(⟨1099511627776,Z7 14 0 144,true⟩:j5))::T).map ouF)) fun fN=>?_
  refine A07 (fun r=>r.1=true) (fun K hK=>?_) (fun r hr=>?_)
  ·refine b6 (B0L ht (At.un (x:=true) ?_))
   refine X7 rfl ?_
   refine W.load (b:=jq) (v:=so) ?_
   refine X7 (by rw[fN];exact decide_eq_true (by simp only[B6,B7];omega)) ?_
   refine W.load (b:=jq) (v:=so) ?_
   refine e8 (enc:=A0o .u8) (xs:=((c1,p1,(⟨1099511627776,Z7 14 0 144,true⟩:j5))::T).map ouF) (i:=0) (by simp) (fun a ha=>?_)
   refine B9k (x:=ouF (c1,p1,(⟨1099511627776,Z7 14 0 144,true⟩:j5))) (v:=(144:Int)) ha rfl ?_
   refine X7 rfl ?_
   refine W.load (b:=jq) (v:=so) ?_
   refine e8 (enc:=A0o .u8) (xs:=((c1,p1,(⟨1099511627776,Z7 14 0 144,true⟩:j5))::T).map ouF) (i:=0) (by simp) (fun a2 dq=>?_)
   refine A3Q (x:=ouF (c1,p1,(⟨1099511627776,Z7 14 0 144,true⟩:j5))) (v:=true) dq rfl ?_
   exact U1 (At.sub (hK _ rfl))
  ·refine U1 ?_
   show At _ (Q (.bool r.1))
   rw[hr]
   exact fin (by repeat first|with_reducible exact U9|apply V1)
 |true=>
  refine W6 rfl ?_
  rw[if_neg (by simp)]
  refine B68 (fun h R hs=>(A1S (k:=.u8) (s:=so) (os:=if qq=0 then[] else[⟨1099511627776,Z7 (if qq=1 then 4 else 5) id 151,false⟩])).1 hs) fun T hT=>?_
  refine Y2 (X1 (enc:=A0o .u8) (size:=28) (s:=so) (xs:=T.map ouF)) fun fN=>?_
  rw[B9] at fN
  have vB:((so.len:Nat):Int)=if qq<1 then qq else 1:=by
   have h5:=congrArg List.length hT
   rw[B9,←fN] at h5
   rw[h5]
   by_cases h0:qq=0
   ·rw[if_pos h0,if_pos (by omega),h0];rfl
   ·rw[if_neg h0,List.length_singleton]
    have xP:¬qq<1:=by omega
    simp only[if_neg xP]
    rfl
  refine A07 (fun r=>r.1=false) (fun K hK=>?_) (fun r hr=>?_)
  ·refine W.load (b:=jq) (i:=1) (v:=sp) ?_
   refine W6 (by rw[fb];rfl) ?_
   refine W.load (b:=jq) (v:=so) ?_
   refine W.load (b:=x1) (v:=qq) ?_
   exact U1 (At.sub (hK _ (by rw[vB];simp)))
  refine W6 hr ?_
  clear hr
  refine A07 (fun r=>r.1=true) (fun K hK=>?_) (fun r hr=>?_)
  ·refine b6 (B0L ht (At.un (x:=true) ?_))
   refine X7 rfl ?_
   refine W.load (b:=x1) (v:=qq) ?_
   by_cases h0:qq=0
   ·refine X7 (by rw[h0];rfl) ?_
    exact U1 (At.sub (hK _ rfl))
   ·refine W6 (by simpa using h0) ?_
    rw[if_neg h0] at hT
    obtain⟨⟨c1,p1,o⟩,T,rfl⟩:∃a T',T=a::T':=by cases T with|nil=>cases hT|cons a T=>exact⟨a,T,rfl⟩
    have oS:o=⟨1099511627776,Z7 (if qq=1 then 4 else 5) id 151,false⟩:=(S9 hT).1
    clear hT vB fN
    generalize(if qq=1 then(4:Int) else 5)=kk at oS
    subst oS
    refine W.load (b:=jq) (v:=so) ?_
    refine e8 (enc:=A0o .u8) (xs:=((c1,p1,(⟨1099511627776,Z7 kk id 151,false⟩:j5))::T).map ouF) (i:=0) (by simp) (fun a ha=>?_)
    refine A3Q (k:=0) (x:=ouF (c1,p1,(⟨1099511627776,Z7 kk id 151,false⟩:j5))) (v:=(1099511627776:Int)) ha rfl ?_
    refine X7 rfl ?_
    refine W.load (b:=jq) (v:=so) ?_
    refine e8 (enc:=A0o .u8) (xs:=((c1,p1,(⟨1099511627776,Z7 kk id 151,false⟩:j5))::T).map ouF) (i:=0) (by simp) (fun a2 dq=>?_)
    refine B9k (x:=ouF (c1,p1,(⟨1099511627776,Z7 kk id 151,false⟩:j5))) (v:=(151:Int)) dq rfl ?_
    refine X7 rfl ?_
    refine W.load (b:=jq) (v:=so) ?_
    refine e8 (enc:=A0o .u8) (xs:=((c1,p1,(⟨1099511627776,Z7 kk id 151,false⟩:j5))::T).map ouF) (i:=0) (by simp) (fun a3 iU=>?_)
    refine B9k (x:=ouF (c1,p1,(⟨1099511627776,Z7 kk id 151,false⟩:j5))) (v:=id) iU rfl ?_
    refine W.load (b:=jQ) (v:=id) ?_
    exact U1 (At.sub (hK _ (by simp)))
  ·refine U1 ?_
   show At _ (Q (.bool r.1))
   rw[hr]
   exact fin (by repeat first|with_reducible exact U9|apply V1)
end
end Go.Proofs.YtidlldnlphdhcaaGreatDoor
namespace Go.Proofs.YtidlldnlphdhcaaGreatDoor.brokerFull
open Go.H
open Go.Proofs.Tryz
open Go.ChangeShapes Go.WideShapes Go.ChangeAt Go.RowKit
open Go.ChangeMaps (open_string shut_string)
theorem own:ownKnob prog.godebug=none:=by kernel_rfl
theorem laidOut:laidOutB prog=true:=by kernel_rfl
theorem walk(w:World)(ht:TP w.heap)(x0:Go.H.Slc×List EvQ)(g0:(Go.R.GoodG B5X 34 1 1048576 w.heap (EvG 1048576 w.heap)) x0)(x1:MsT)(g1:(fun x:MsT=>x.1.size≤1048576∧x.2.1.size≤1048576∧(Lit.int .i64 x.2.2.1).wf=true∧True∧x.2.2.2.2.size≤1048576) x1)(x2:Int)(g2:(Lit.int .i64 x2).wf=true):
  Calls prog 5 #[.slice x0.1.a x0.1.len x0.1.cap,.agg #[.string x1.1,.string x1.2.1,.int .i64 x1.2.2.1,.bool x1.2.2.2.1,.string x1.2.2.2.2],.int .i64 x2] w fun e w'=>e=.returned (.bool true)∧Below w.heap.size w w':=by
 exact Go.H.walk_of (B9l (m0:=x1) (id0:=x2) ht g0.row (fun x hx=>g0.bQ x hx) g1.1 (fun h' R hs=>⟨rfl,R,hs⟩) w.heap (Go.H.sat_old w.heap))
theorem C5F(H:Type)(enc:TypeId×Value→H)(W:World)(base:Nat)(args:C9v)(ds gs:List (DataW H))(before:List MemPlace)
  (lx:∀(j:Nat) t v,Tryz.f5.params[j]? =some t→args[j]? =some v→Value.okWide prog W .any base t v)
  (hW:DataW.Whole enc prog Tryz.f5.params.toList Rows.brokerFullSpec.vars false W args.toList ds gs before)(hL:laidMetH prog B5A W)(oC:W.ShapedOpen prog)(jL:Rows.uptoSmall H (ds++gs)=true):
  Calls prog 5 args W fun e W'=>∃v,e=.returned v∧Rows.brokerFullSpec.post enc prog Tryz.f5 false true false false W args v W':=by
 have iG:∀(j:Nat) t v,Tryz.f5.params[j]? =some t→args[j]? =some v→Value.okWide prog W .any base t v:=lx
 have xC:=hW
 obtain⟨p,q,vF,hV,rfl,oJ,au⟩:=hW
 have hA:DataW.TrodAll enc prog W 0 (fun _=>true) true Tryz.f5.params.toList args.toList ds p:=vF
 rw[params5] at hA iG
 obtain⟨v0,yb,d0,yx,p0,q0,vw,rfl,rfl,h0,r0⟩:=trodAll_cons hA
 obtain⟨v1,ya,d1,yw,p1,q1,rfl,rfl,rfl,h1,r1⟩:=trodAll_cons r0
 obtain⟨v2,xZ,d2,yu,p2,q2,rfl,rfl,rfl,h2,r2⟩:=trodAll_cons r1
 obtain⟨rfl,rfl,rfl⟩:=trodAll_nil r2
 obtain rfl:args=#[v0,v1,v2]:=by cases args;simp_all
 obtain⟨rfl,rfl⟩:=trodVars_none hV
 have hk:=of_decide_eq_true jL
 simp only[C1,G4,F2,Rows.uptoBulkAll] at hk
 have w0:okB 53 d0:=by unfold okB;omega
 have w1:okB 29 d1:=by unfold okB;omega
 clear hk
 obtain⟨a0,sk,ug,rfl⟩:=okWide_slice underlying53 (iG 0 53 v0 rfl rfl)
 have k0:=h0
 have wk:∀x∈p0,x.block<W.heap.size:=by obtain⟨m,hm⟩:=k0;exact DataW.trod_lt m _ _ _ hm
 obtain⟨x0,e0,g0⟩:∃x:Go.H.Slc×List EvQ,(Value.slice a0 sk ug=.slice x.1.a x.1.len x.1.cap)∧(Go.R.GoodG B5X 34 1 1048576 W.heap (EvG 1048576 W.heap)) x:=by
  obtain⟨fuel,hf⟩:=h0
  obtain⟨x,hx,hg⟩:=B9P C2O fuel _ _ hf w0
  exact⟨x,by simpa[Value.cells] using hx,hg⟩
 cases e0
 obtain⟨lO,rfl⟩:=Go.R.okWide_agg underlying29 (iG 1 29 v1 rfl rfl)
 have k1:=h1
 have wj:∀x∈p1,x.block<W.heap.size:=by obtain⟨m,hm⟩:=k1;exact DataW.trod_lt m _ _ _ hm
 obtain⟨x1,e1,g1⟩:∃x:MsT,(Value.agg lO=.agg #[.string x.1,.string x.2.1,.int .i64 x.2.2.1,.bool x.2.2.2.1,.string x.2.2.2.2])∧(fun x:MsT=>x.1.size≤1048576∧x.2.1.size≤1048576∧(Lit.int .i64 x.2.2.1).wf=true∧True∧x.2.2.2.2.size≤1048576) x:=by
  obtain⟨fuel,hf⟩:=h1
  obtain⟨x,hx,hg⟩:=B9O C2O fuel _ _ hf w1
  exact⟨x,congrArg Value.agg (I2.1 hx),hg⟩
 cases e1
 obtain⟨x2,rfl,rfl,rfl,g2⟩:=open_int underlying3 (iG 2 3 v2 rfl rfl) h2
 clear vF lx
 refine(walk W (C03 hL oC) x0 g0 x1 g1 x2 g2).mono fun e W' ⟨he,bel⟩=>?_
 subst he
 exact⟨_,rfl,_,_,_,[],_,[],xC,trodAll_mk1 (shut_bool underlying4 _),(trodAll_cons_mk (Below.trod laidOut (by kernel_rfl) (of_decide_eq_true (by kernel_rfl)) k0 bel wk) (trodAll_cons_mk (Below.trod laidOut (by kernel_rfl) (of_decide_eq_true (by kernel_rfl)) k1 bel wj) (trodAll_cons_mk (shut_int underlying3 g2) trodAll_mk0))),rfl,bel.frame _,fun h=>by cases h⟩
theorem reads(os:Os){H:Type}(enc:TypeId×Value→H):∃places,DataW.whole enc prog ((B2P os).forCall (fun _ _=>0) ⟨#[],#[.slice none 0 0,.agg #[.string (ByteArray.mk #[]),.string (ByteArray.mk #[]),.int .i64 0,.bool false,.string (ByteArray.mk #[])],.int .i64 0],[]⟩).memory Tryz.f5.params.toList Rows.brokerFullSpec.vars false #[(.slice none 0 0:Value),(.agg #[.string (ByteArray.mk #[]),.string (ByteArray.mk #[]),.int .i64 0,.bool false,.string (ByteArray.mk #[])]:Value),(.int .i64 0:Value)].toList 8=some ([.nil,.agg [.lit (.string []),.lit (.string []),.lit (.int .i64 0),.lit (.bool false),.lit (.string [])],.lit (.int .i64 0)],[],places):=
 ⟨[],by kernel_rfl⟩
theorem lifted(os:Os)(started:os.Started)(H:Type)(enc:TypeId×Value→H)(F:Stop.Interp):
  ReturnsInHanded {} checked os 5 .any ((Rows.OpenSpec.upto Rows.brokerFullSpec).preRow enc prog Tryz.f5 Rows.brokerFullUptoRow.domain false Rows.brokerFullUptoRow.laid) (((Rows.OpenSpec.upto Rows.brokerFullSpec).at F).post enc prog Tryz.f5 false true false false):=by
 obtain⟨places,hx⟩:=reads os enc
 refine returnsInHanded_of_row (C:=checked) (s:=Rows.OpenSpec.upto Rows.brokerFullSpec) own started (by kernel_rfl) Tryz.func5
  (witness_row_atRef (enc:=enc) (C:=checked) false (B2P os) #[.slice none 0 0,.agg #[.string (ByteArray.mk #[]),.string (ByteArray.mk #[]),.int .i64 0,.bool false,.string (ByteArray.mk #[])],.int .i64 0] rfl (by kernel_rfl) (by kernel_rfl) (by kernel_rfl)
   (OpenSpec.preRow_of_cond 8 hx (by kernel_rfl) (fun k hk=>by cases hk;kernel_rfl) (by kernel_rfl) (C5g os _))) ?_
 intro W base args ds gs before iG hW _ jL _ hL oC _
 exact C5F H enc W base args ds gs before iG hW hL oC (jL _ rfl)
theorem C8O:(Rows.brokerFullUptoRow.wf (OpenSpec.ofChange (Rows.OpenSpec.upto Rows.brokerFullSpec).bare))=true:=by kernel_rfl
theorem C8N:(laidOutB Tryz.pinned.checked.prog)=true:=by kernel_rfl
theorem C8M:(mapsRowed Tryz.pinned.checked.prog)=true:=by kernel_rfl
theorem C8L:(Tryz.f5.params.all (Tryz.pinned.checked.prog.readableRec ·))=true:=by kernel_rfl
theorem C8K:(namedTie Tryz.pinned.checked.prog Rows.brokerFullUptoRow.named (Rows.OpenSpec.upto Rows.brokerFullSpec).bare.vars)=true:=by kernel_rfl
theorem C8J:((Rows.brokerFullUptoRow.stops==[]))=true:=by kernel_rfl
theorem C8I:((Tryz.pinned.checked.prog.stops==[]))=true:=by kernel_rfl
theorem C8H:((Rows.brokerFullUptoRow.knobs==[]))=true:=by kernel_rfl
theorem C8G:((Tryz.pinned.checked.prog.stopKnobs==[]))=true:=by kernel_rfl
theorem C8F:((Rows.brokerFullUptoRow.inPlace==Tryz.pinned.checked.prog.inPlace 5))=true:=by kernel_rfl
theorem C70:((Rows.brokerFullUptoRow.unfollowed==Tryz.pinned.checked.prog.unfollowed 5))=true:=by kernel_rfl
theorem C7Z:((Rows.brokerFullUptoRow.recurses==Tryz.pinned.checked.prog.recurses 5))=true:=by kernel_rfl
theorem C7Y:((Rows.brokerFullUptoRow.named==Tryz.pinned.checked.prog.varsNamed 5))=true:=by kernel_rfl
theorem C7X:((Rows.brokerFullUptoRow.maps==(Tryz.f5.params.toList++(Rows.OpenSpec.upto Rows.brokerFullSpec).bare.plain.varTypes Tryz.pinned.checked.prog).any (Tryz.pinned.checked.prog.mapsRec ·)))=true:=by kernel_rfl
theorem C7W:((Rows.brokerFullUptoRow.ifaces==(Tryz.f5.params.toList++(Rows.OpenSpec.upto Rows.brokerFullSpec).bare.plain.varTypes Tryz.pinned.checked.prog).any (Tryz.pinned.checked.prog.ifacesRec ·)))=true:=by kernel_rfl
theorem C7V:((Rows.brokerFullUptoRow.mapsOut==Tryz.pinned.checked.prog.mapsAmong Tryz.f5.resultTypes.toList))=true:=by kernel_rfl
theorem C7U:((Rows.brokerFullUptoRow.loops==(Tryz.f5.params.toList++(Rows.OpenSpec.upto Rows.brokerFullSpec).bare.plain.varTypes Tryz.pinned.checked.prog).any (Tryz.pinned.checked.prog.loopsFrom ·)))=true:=by kernel_rfl
theorem C7T:((Rows.brokerFullUptoRow.wideKeys==(Tryz.f5.params.toList++(Rows.OpenSpec.upto Rows.brokerFullSpec).bare.plain.varTypes Tryz.pinned.checked.prog++Tryz.f5.resultTypes.toList).any (Tryz.pinned.checked.prog.wideKeysFrom ·)))=true:=by kernel_rfl
theorem C7S:((Rows.OpenSpec.upto Rows.brokerFullSpec).bare.vars.all (Tryz.pinned.checked.prog.varReadable ·))=true:=by kernel_rfl
theorem C7R:(Tryz.f5.resultTypes.all (fun t=>Tryz.pinned.checked.prog.readableRec t&&decide (t<Tryz.pinned.checked.prog.types.size)))=true:=by kernel_rfl
theorem C7Q:((Rows.brokerFullUptoRow.ifacesOut==Tryz.f5.resultTypes.toList.any (Tryz.pinned.checked.prog.ifacesRec ·)))=true:=by kernel_rfl
theorem C7P:((Rows.brokerFullUptoRow.loopsOut==Tryz.f5.resultTypes.toList.any (Tryz.pinned.checked.prog.loopsFrom ·)))=true:=by kernel_rfl
theorem C7O:((Rows.brokerFullUptoRow.plainKeys==Tryz.pinned.checked.prog.plainKeys))=true:=by kernel_rfl
theorem C7N:(Rows.brokerFullUptoRow.shortTexts.isNone)=true:=by kernel_rfl
theorem C7M:(Tryz.pinned.checked.prog.stopsHeard)=true:=by kernel_rfl
theorem C7L:(Tryz.pinned.checked.prog.mayEnter)=true:=by kernel_rfl
theorem C7K:((Rows.brokerFullUptoRow.lifted==Tryz.pinned.checked.prog.liftsFinal))=true:=by kernel_rfl
theorem C7J:((Tryz.pinned.checked.prog.make==some Rows.brokerFullUptoRow.make))=true:=by kernel_rfl
theorem C7I:((Rows.brokerFullUptoRow.kinds==(if Rows.brokerFullUptoRow.domain.isEmpty then[] else Tryz.f5.params.toList.map fun t=>match Tryz.pinned.checked.prog.underlying t with|some (.int k)=>some k|_=>none)))=true:=by kernel_rfl
theorem C7H:((Rows.brokerFullUptoRow.pinned==Rows.brokerFullUptoRow.pinnedBy))=true:=by kernel_rfl
theorem C7G:((Rows.brokerFullUptoRow.veiled==(Tryz.f5.params.toList++(Rows.OpenSpec.upto Rows.brokerFullSpec).bare.plain.varTypes Tryz.pinned.checked.prog++Tryz.f5.resultTypes.toList).any (Tryz.pinned.checked.prog.veiledRec ·)))=true:=by kernel_rfl
theorem C7F:(Rows.brokerFullUptoRow.veiledFits Tryz.pinned.checked.prog Tryz.f5.params.toList (Tryz.f5.params.toList++(Rows.OpenSpec.upto Rows.brokerFullSpec).bare.plain.varTypes Tryz.pinned.checked.prog++Tryz.f5.resultTypes.toList))=true:=by kernel_rfl
theorem A2F{a b:Bool}(ha:a=true)(hb:b=true):(a&&b)=true:=by rw[ha,hb];rfl
theorem facts:joinedFacts Tryz.pinned.checked.prog 5 Tryz.f5 (Rows.OpenSpec.upto Rows.brokerFullSpec).bare Rows.brokerFullUptoRow=true:=by
 unfold joinedFacts
 exact(A2F (A2F (A2F (A2F (A2F (A2F (A2F (A2F (A2F (A2F (A2F (A2F (A2F (A2F (A2F (A2F (A2F (A2F (A2F (A2F (A2F (A2F (A2F (A2F (A2F (A2F (A2F (A2F (A2F (A2F (A2F C8O C8N) C8M) C8L) C8K) C8J) C8I) C8H) C8G) C8F) C70) C7Z) C7Y) C7X) C7W) C7V) C7U) C7T) C7S) C7R) C7Q) C7P) C7O) C7N) C7M) C7L) C7K) C7J) C7I) C7H) C7G) C7F)
end Go.Proofs.YtidlldnlphdhcaaGreatDoor.brokerFull