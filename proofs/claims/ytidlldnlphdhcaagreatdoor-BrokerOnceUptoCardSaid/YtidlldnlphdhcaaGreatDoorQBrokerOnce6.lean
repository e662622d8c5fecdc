/-
  Our texts, packed by program.
-/
import Derived.Test.YtidlldnlphdhcaaGreatDoorQBrokerOnce5
import Derived.Deep.DeepHandedRow
import Derived.Deep.DeepWitnessRowRef
import Derived.Test.YtidlldnlphdhcaaGreatDoorCards
import Derived.Test.YtidlldnlphdhcaaGreatDoorTie
import Derived.ShutString
import Derived.ChangeOld
import Derived.Carry
import Derived.SevenTiedAt
set_option linter.unusedSimpArgs false
set_option linter.unusedVariables false
set_option maxHeartbeats 16000000
set_option maxRecDepth 100000
namespace Go.Proofs.YtidlldnlphdhcaaGreatDoor
open Go.H
open Go.Proofs.Tryz
section
open Go.H Go.Proofs
variable {h h0:Heap} {L L' L1 L2 L3 L4 R:List Asn} {Q:Value→Heap→Prop}
abbrev eQ(x:Nat):D0u:=[at0 x]
instance:Enc eQ 1:=⟨fun _=>rfl,fun x v hv=>by rw[B8.1 hv];rfl,by decide⟩
def A1d(ib:Nat)(i:u6):Asn:=exA fun qb:Nat=>star (cells ib #[at0 qb]) (A0N qb i)
theorem A3l{ib:Nat}{i:u6}:sat h (A1d ib i::R)↔∃qb:Nat,sat h (cells ib #[at0 qb]::A0N qb i::R):=by
 unfold A1d
 rw[sat.bA]
 simp only[sat.aI]
abbrev rqC(s:V7)(ob ib:Nat):D0t:=#[.int .i64 s.id,.string s.aC,.bool s.aN,.bool s.on,at0 ob,at0 ib]
def rsA(b:Nat)(s:V7):Asn:=exA fun x:Nat×Nat=>A0Y [cells b (rqC s x.1 x.2),a8 x.1 s.out,A1d x.2 s.aZ]
theorem B1h{b:Nat}{s:V7}:sat h (rsA b s::R)↔∃ob ib:Nat,sat h (cells b (rqC s ob ib)::a8 ob s.out::A1d ib s.aZ::R):=by
 unfold rsA
 rw[sat.bA]
 simp only[sat.bV]
 exact⟨fun⟨x,hh⟩=>⟨x.1,x.2,hh⟩,fun⟨a,b,hh⟩=>⟨(a,b),hh⟩⟩
def A0x(b:Nat)(last:Int)(A:List V7):Asn:=exA fun x:Slc×List (Nat×V7)=>A0Y [pr (x.2.map (·.2)=A),cells b #[.int .i64 last,.slice x.1.a x.1.len x.1.cap],U6 eQ 1 x.1 (x.2.map (·.1)),a7 (fun p=>rsA p.1 p.2) x.2]
theorem A06{b:Nat}{last:Int}{A:List V7}:sat h (A0x b last A::R)↔∃(S:Slc) (M:List (Nat×V7)),M.map (·.2)=A∧sat h (cells b #[.int .i64 last,.slice S.a S.len S.cap]::U6 eQ 1 S (M.map (·.1))::a7 (fun p=>rsA p.1 p.2) M::R):=by
 unfold A0x
 rw[sat.bA]
 simp only[sat.bV,G3,F0,sat.bB]
 exact⟨fun⟨x,hh⟩=>⟨x.1,x.2,hh⟩,fun⟨a,b,hh⟩=>⟨(a,b),hh⟩⟩
def A3k(b:Nat)(last:Int)(A:List V7)(s:V7)(nb:Nat):Asn:=exA fun x:Slc×List (Nat×V7)×List (Nat×V7)=>A0Y [pr ((x.2.1++(nb,s)::x.2.2).map (·.2)=A),
 cells b #[.int .i64 last,.slice x.1.a x.1.len x.1.cap],U6 eQ 1 x.1 ((x.2.1++(nb,s)::x.2.2).map (·.1)),a7 (fun p=>rsA p.1 p.2) (x.2.1++x.2.2)]
theorem A8N{b nb:Nat}{last:Int}{A:List V7}{s:V7}:sat h (A3k b last A s nb::R)↔∃(S:Slc) (l1 l2:List (Nat×V7)),(l1++(nb,s)::l2).map (·.2)=A∧
  sat h (cells b #[.int .i64 last,.slice S.a S.len S.cap]::U6 eQ 1 S ((l1++(nb,s)::l2).map (·.1))::a7 (fun p=>rsA p.1 p.2) (l1++l2)::R):=by
 unfold A3k
 rw[sat.bA]
 simp only[sat.bV,G3,F0,sat.bB]
 exact⟨fun⟨x,hh⟩=>⟨x.1,x.2.1,x.2.2,hh⟩,fun⟨a,b,c,hh⟩=>⟨(a,b,c),hh⟩⟩
theorem C0b{b:Nat}{last:Int}{S:Slc}{l1 l2:List (Nat×V7)}{p:Nat×V7}(hs:sat h (cells b #[.int .i64 last,.slice S.a S.len S.cap]::U6 eQ 1 S ((l1++p::l2).map (·.1))::a7 (fun p=>rsA p.1 p.2) (l1++p::l2)::R)):
  ∃ob ib:Nat,sat h (cells p.1 (rqC p.2 ob ib)::a8 ob p.2.out::A1d ib p.2.aZ::A3k b last ((l1++p::l2).map (·.2)) p.2 p.1::R):=by
 have h1:=l0.1 (hs.re [2,0,1])
 obtain⟨ob,ib,h2⟩:=B1h.1 h1
 refine⟨ob,ib,?_⟩
 have h3:sat h (A3k b last ((l1++p::l2).map (·.2)) p.2 p.1::cells p.1 (rqC p.2 ob ib)::a8 ob p.2.out::A1d ib p.2.aZ::R):=A8N.2 ⟨S,l1,l2,rfl,h2.re [4,5,3,0,1,2]⟩
 exact h3.re [1,2,3,0]
theorem C4d{b nb ob ib:Nat}{last:Int}{A:List V7}{s s':V7}{f:V7→V7}(hn:(A.map (·.id)).Nodup)(hf:f s=s'):∀h,sat h (cells nb (rqC s' ob ib)::a8 ob s'.out::A1d ib s'.aZ::A3k b last A s nb::R)→sat h (A0x b last (X7 s.id f A)::R):=by
 intro h hs
 obtain⟨S,l1,l2,rfl,h1⟩:=A8N.1 (hs.re [3,0,1,2])
 rw[C0,B6] at hn⊢
 rw[A8K hn,hf]
 refine A06.2 ⟨S,l1++(nb,s')::l2,by simp,?_⟩
 have h2:sat h (rsA nb s'::a7 (fun p=>rsA p.1 p.2) (l1++l2)::cells b #[.int .i64 last,.slice S.a S.len S.cap]::U6 eQ 1 S ((l1++(nb,s)::l2).map (·.1))::R):=B1h.2 ⟨ob,ib,h1.re [3,4,5,2,0,1]⟩
 have h3:sat h (a7 (fun p=>rsA p.1 p.2) (l1++(nb,s')::l2)::cells b #[.int .i64 last,.slice S.a S.len S.cap]::U6 eQ 1 S ((l1++(nb,s)::l2).map (·.1))::R):=l0.2 h2
 have e:(l1++(nb,s')::l2).map (·.1)=(l1++(nb,s)::l2).map (·.1):=by simp
 rw[e]
 exact h3.re [1,2,0]
theorem A49{b nb ob ib:Nat}{last k:Int}{A:List V7}{s s':V7}{f:V7→V7}(hk:s.id=k)(hn:(A.map (·.id)).Nodup)(hf:f s=s'):∀h,sat h (cells nb (rqC s' ob ib)::a8 ob s'.out::A1d ib s'.aZ::A3k b last A s nb::R)→sat h (A0x b last (X7 k f A)::R):=by
 subst hk;exact C4d hn hf
theorem A6N{b nb ob ib:Nat}{last:Int}{A:List V7}{s:V7}:∀h,sat h (cells nb (rqC s ob ib)::a8 ob s.out::A1d ib s.aZ::A3k b last A s nb::R)→sat h (A0x b last A::R):=by
 intro h hs
 obtain⟨S,l1,l2,rfl,h1⟩:=A8N.1 (hs.re [3,0,1,2])
 refine A06.2 ⟨S,l1++(nb,s)::l2,rfl,?_⟩
 have h2:sat h (rsA nb s::a7 (fun p=>rsA p.1 p.2) (l1++l2)::cells b #[.int .i64 last,.slice S.a S.len S.cap]::U6 eQ 1 S ((l1++(nb,s)::l2).map (·.1))::R):=B1h.2 ⟨ob,ib,h1.re [3,4,5,2,0,1]⟩
 have h3:sat h (a7 (fun p=>rsA p.1 p.2) (l1++(nb,s)::l2)::cells b #[.int .i64 last,.slice S.a S.len S.cap]::U6 eQ 1 S ((l1++(nb,s)::l2).map (·.1))::R):=l0.2 h2
 exact h3.re [1,2,0]
theorem C6P{β:Type}{Q':β→Heap→Prop}{M:List (Nat×V7)}{p:Nat×V7}{j:Nat}{t:Tag}{v:t.ty}{f:t.ty→HM β}(hp:p∈M)(hv:∀ob ib,((rqC p.2 ob ib)[j]?).bind t.get=some v)(hw:W L (f v) Q')(hx:Has L (a7 (fun p=>rsA p.1 p.2) M) L1:=by repeat first|with_reducible exact V1|apply V3):W L (HM.bind (p8 t (Addr.add ⟨p.1,0,none⟩ j)) f) Q':=fun h hs=>by
 obtain⟨R',h1⟩:=A9c hp (hx.s hs)
 obtain⟨ob,ib,h2⟩:=B1h.1 h1
 refine⟨v,?_,hw h hs⟩
 rw[U4,h2.cell j]
 have:=hv ob ib
 cases hc:(rqC p.2 ob ib)[j]? with
 |none=>rw[hc] at this;cases this
 |some u=>rw[hc] at this;exact congrArg some (Tag.bT this)
theorem B3u{α:Type}{f:α→Asn}(q:α→Bool):∀{l:List α} {R:List Asn},sat h (a7 f l::R)→sat h (a7 f (l.filter q)::R)
 |[],R,hs=>hs
 |x::l,R,hs=>by
  have aa:=l5.1 hs
  by_cases hx:q x=true
  ·rw[G9 hx]
   exact l5.2 (B3u q aa.p1).p1
  ·rw[F9 hx]
   exact B3u q aa.drop
theorem B09{α:Type}{M:List α}{i:Nat}(h:i<M.length):M=M.take i++M[i]::M.drop (i+1):=by
 rw[←E1 h,J3]
theorem C3o{b:Nat}{last:Int}{A:List V7}{k:Int}(hl:A.length≤1000)
  (ay:(∀s∈A,s.id≠k)→At (A0x b last A::L1) (Q (.pointer none)))
  (cO:∀s∈A,s.id=k→∀nb ob ib,At (cells nb (rqC s ob ib)::a8 ob s.out::A1d ib s.aZ::A3k b last A s nb::L1) (Q (at0 nb)))
  (hx:Has L (A0x b last A) L1:=by repeat first|with_reducible exact V1|apply V3):FW prog 90 #[at0 b,.int .i64 k] L Q:=by
 refine fun h hs=>B4s (some ⟨b,0,none⟩) k h Q ((?_:W (A0x b last A::L1) _ _) h (hx.s hs))
 clear hs h hx
 delta B7S bn ie ix kc ki lp nn pu wi
 refine A9f (g:=fun S (M:{M:List (Nat×V7) // M.map (·.2)=A}) R=>cells b #[.int .i64 last,.slice S.a S.len S.cap]::U6 eQ 1 S (M.1.map (·.1))::a7 (fun p=>rsA p.1 p.2) M.1::R) (fun h R hs=>by
  obtain⟨S,M,hM,h1⟩:=A06.1 hs
  exact⟨S,⟨M,hM⟩,h1⟩) fun S M=>?_
 obtain⟨M,hM⟩:=M
 subst hM
 dsimp only
 rw[C1] at hl
 refine Z1 (X5 (enc:=eQ) (size:=1) (s:=S) (xs:=M.map (·.1))) fun cH=>?_
 rw[C1] at cH
 refine W.loop (γ:=Nat) (fun g s=>s.1=(g:Int)∧g≤M.length∧∀p∈M.take g,p.2.id≠k) (fun g s=>cells b #[.int .i64 last,.slice S.a S.len S.cap]::U6 eQ 1 S (M.map (·.1))::a7 (fun p=>rsA p.1 p.2) M::L1) (fun g=>M.length-g) 0 ⟨rfl,D1 _,by simp⟩ Sub.rfl ?_
 rintro i s ⟨hi,cn,hn⟩ K k1 k2
 refine W5 ?_
 refine W.load (b:=b) (v:=S) ?_
 by_cases ah:i<M.length
 ·refine Y4 (by rw[hi,cH];exact decide_eq_true (by omega)) ?_
  have nP:M[i]∈M:=G8 ah
  have aY:(M.map (·.1))[i]? =some M[i].1:=by simp[B0 ah]
  have bk:i<(M.map (·.1)).length:=by simpa using ah
  have aV:M.take (i+1)=M.take i++[M[i]]:=C4 ah
  have eY:=B09 ah
  refine W5 ?_
  refine W.load (b:=b) (v:=S) ?_
  refine j5 (enc:=eQ) (xs:=M.map (·.1)) (i:=i) bk (fun a ha=>?_) (he:=hi)
  refine B4P (x:=M[i].1) (v:=some ⟨M[i].1,0,none⟩) ha aY ?_
  refine W5 ?_
  refine C6P (p:=M[i]) (v:=M[i].2.id) nP (fun ob ib=>rfl) ?_
  by_cases hk:M[i].2.id=k
  ·refine Y4 (by simpa using hk) ?_
   refine W5 ?_
   refine W.load (b:=b) (v:=S) ?_
   refine j5 (enc:=eQ) (xs:=M.map (·.1)) (i:=i) bk (fun a ha=>?_) (he:=hi)
   refine B4P (x:=M[i].1) (v:=some ⟨M[i].1,0,none⟩) ha aY ?_
   refine U3 (k2 _ _ (W.inr (U3 ?_)))
   clear k1 k2
   intro h hs
   have hy:=cO M[i].2 (B3 nP) hk M[i].1
   generalize M[i]=p at eY hy
   rw[eY] at hs hy
   obtain⟨ob,ib,h2⟩:=C0b hs
   exact hy ob ib h h2
  ·refine W8 (by simpa using hk) ?_
   have gW:=k1 (i+1) (IntKind.wrap .i64 (s.1+1),()) (by omega) ⟨by simp only[hi];rw[V8 (by omega) (by omega)];rfl,ah,fun p hp=>by
    rw[aV] at hp
    rcases C9.1 hp with hp|hp
    ·exact hn p hp
    ·rw[B8.1 hp];exact hk⟩
   exact U3 gW.sub
 ·refine W8 (by rw[hi,cH];exact decide_eq_false (by omega)) (U3 (k2 _ _ (W.inl (U3 ?_))))
  have ca:=ay fun s hs=>by
   obtain⟨p,hp,rfl⟩:=E4.1 hs
   exact hn p (by rw[D4 (by omega)];exact hp)
  exact fun h hs=>ca h (A06.2 ⟨S,M,rfl,hs⟩)
theorem C13{b:Nat}{last:Int}{A:List V7}{s:V7}{k:Int}(hl:A.length≤1000)(hn:(A.map (·.id)).Nodup)(hs:s∈A)(hk:s.id=k)
  (hq:∀nb ob ib,At (cells nb (rqC s ob ib)::a8 ob s.out::A1d ib s.aZ::A3k b last A s nb::L1) (Q (at0 nb)))(hx:Has L (A0x b last A) L1:=by repeat first|with_reducible exact V1|apply V3):FW prog 90 #[at0 b,.int .i64 k] L Q:=
 C3o hl (fun ay=>absurd hk (ay s hs)) (fun s' af gX=>by rw[A9m (f:=(·.id)) hn af hs (gX.trans hk.symm)];exact hq) hx
theorem B88{b:Nat}{last:Int}{A:List V7}{c:B38}(hl:A.length≤1000)(bU:(A.map (·.aC)).Nodup)
  (ay:ofS c A=none→At (A0x b last A::L1) (Q (.pointer none)))
  (cO:∀s,ofS c A=some s→∀nb ob ib,At (cells nb (rqC s ob ib)::a8 ob s.out::A1d ib s.aZ::A3k b last A s nb::L1) (Q (at0 nb)))
  (hx:Has L (A0x b last A) L1:=by repeat first|with_reducible exact V1|apply V3):FW prog 148 #[at0 b,.string c] L Q:=by
 refine fun h hs=>B2S (some ⟨b,0,none⟩) c h Q ((?_:W (A0x b last A::L1) _ _) h (hx.s hs))
 clear hs h hx
 delta B5u bn ie ix kc kt lp nn pu wi
 refine A9f (g:=fun S (M:{M:List (Nat×V7) // M.map (·.2)=A}) R=>cells b #[.int .i64 last,.slice S.a S.len S.cap]::U6 eQ 1 S (M.1.map (·.1))::a7 (fun p=>rsA p.1 p.2) M.1::R) (fun h R hs=>by
  obtain⟨S,M,hM,h1⟩:=A06.1 hs
  exact⟨S,⟨M,hM⟩,h1⟩) fun S M=>?_
 obtain⟨M,hM⟩:=M
 subst hM
 dsimp only
 rw[C1] at hl
 refine Z1 (X5 (enc:=eQ) (size:=1) (s:=S) (xs:=M.map (·.1))) fun cH=>?_
 rw[C1] at cH
 refine W.loop (γ:=Nat) (fun g s=>s.1=(g:Int)∧g≤M.length∧∀p∈M.take g,p.2.aC≠c) (fun g s=>cells b #[.int .i64 last,.slice S.a S.len S.cap]::U6 eQ 1 S (M.map (·.1))::a7 (fun p=>rsA p.1 p.2) M::L1) (fun g=>M.length-g) 0 ⟨rfl,D1 _,by simp⟩ Sub.rfl ?_
 rintro i s ⟨hi,cn,hn⟩ K k1 k2
 refine W5 ?_
 refine W.load (b:=b) (v:=S) ?_
 by_cases ah:i<M.length
 ·refine Y4 (by rw[hi,cH];exact decide_eq_true (by omega)) ?_
  have nP:M[i]∈M:=G8 ah
  have aY:(M.map (·.1))[i]? =some M[i].1:=by simp[B0 ah]
  have bk:i<(M.map (·.1)).length:=by simpa using ah
  have aV:M.take (i+1)=M.take i++[M[i]]:=C4 ah
  have eY:=B09 ah
  refine W5 ?_
  refine W.load (b:=b) (v:=S) ?_
  refine j5 (enc:=eQ) (xs:=M.map (·.1)) (i:=i) bk (fun a ha=>?_) (he:=hi)
  refine B4P (x:=M[i].1) (v:=some ⟨M[i].1,0,none⟩) ha aY ?_
  refine W5 ?_
  refine C6P (p:=M[i]) (v:=M[i].2.aC) nP (fun ob ib=>rfl) ?_
  by_cases hk:M[i].2.aC=c
  ·refine Y4 (by simpa using hk) ?_
   refine W5 ?_
   refine W.load (b:=b) (v:=S) ?_
   refine j5 (enc:=eQ) (xs:=M.map (·.1)) (i:=i) bk (fun a ha=>?_) (he:=hi)
   refine B4P (x:=M[i].1) (v:=some ⟨M[i].1,0,none⟩) ha aY ?_
   refine U3 (k2 _ _ (W.inr (U3 ?_)))
   clear k1 k2
   intro h hs
   have hy:=cO M[i].2 (B1P bU (B3 nP) hk) M[i].1
   generalize M[i]=p at eY hy
   rw[eY] at hs hy
   obtain⟨ob,ib,h2⟩:=C0b hs
   exact hy ob ib h h2
  ·refine W8 (by simpa using hk) ?_
   have gW:=k1 (i+1) (IntKind.wrap .i64 (s.1+1),()) (by omega) ⟨by simp only[hi];rw[V8 (by omega) (by omega)];rfl,ah,fun p hp=>by
    rw[aV] at hp
    rcases C9.1 hp with hp|hp
    ·exact hn p hp
    ·rw[B8.1 hp];exact hk⟩
   exact U3 gW.sub
 ·refine W8 (by rw[hi,cH];exact decide_eq_false (by omega)) (U3 (k2 _ _ (W.inl (U3 ?_))))
  have ca:=ay (E8.2 fun s hs=>by
   obtain⟨p,hp,rfl⟩:=E4.1 hs
   simpa using hn p (by rw[D4 (by omega)];exact hp))
  exact fun h hs=>ca h (A06.2 ⟨S,M,rfl,hs⟩)
theorem C3m{b:Nat}{last:Int}{A:List V7}{k:Int}(hl:A.length≤1000)(hq:At (A0x b last (A.filter fun x=>decide (x.id≠k))::L1) (Q (.tuple #[])))(hx:Has L (A0x b last A) L1:=by repeat first|with_reducible exact V1|apply V3):FW prog 189 #[at0 b,.int .i64 k] L Q:=by
 refine fun h hs=>B2R (some ⟨b,0,none⟩) k h Q ((?_:W (A0x b last A::L1) _ _) h (hx.s hs))
 clear hs h hx
 delta B5t az bn ie ix kc ki lp nn nw pu sx vs wi
 refine A9f (g:=fun S (M:{M:List (Nat×V7) // M.map (·.2)=A}) R=>cells b #[.int .i64 last,.slice S.a S.len S.cap]::U6 eQ 1 S (M.1.map (·.1))::a7 (fun p=>rsA p.1 p.2) M.1::R) (fun h R hs=>by
  obtain⟨S,M,hM,h1⟩:=A06.1 hs
  exact⟨S,⟨M,hM⟩,h1⟩) fun S M=>?_
 obtain⟨M,hM⟩:=M
 subst hM
 dsimp only
 rw[C1] at hl
 refine Z1 (X5 (enc:=eQ) (size:=1) (s:=S) (xs:=M.map (·.1))) fun cH=>?_
 rw[C1] at cH
 refine B7D eQ 1 (((M.take 0).filter fun x=>decide (x.2.id≠k)).map (·.1)) ?_
 refine W.loop (γ:=Nat) (fun g s=>s.2.1=(g:Int)∧g≤M.length) (fun g s=>U6 eQ 1 s.1 (((M.take g).filter fun x=>decide (x.2.id≠k)).map (·.1))::cells b #[.int .i64 last,.slice S.a S.len S.cap]::U6 eQ 1 S (M.map (·.1))::a7 (fun p=>rsA p.1 p.2) M::L1) (fun g=>M.length-g) 0 ⟨rfl,D1 _⟩ Sub.rfl ?_
 rintro i s ⟨hi,cn⟩ K k1 k2
 refine W5 ?_
 refine W.load (b:=b) (v:=S) ?_
 by_cases ah:i<M.length
 ·refine Y4 (by rw[hi,cH];exact decide_eq_true (by omega)) ?_
  have nP:M[i]∈M:=G8 ah
  have aY:(M.map (·.1))[i]? =some M[i].1:=by simp[B0 ah]
  have bk:i<(M.map (·.1)).length:=by simpa using ah
  have aV:M.take (i+1)=M.take i++[M[i]]:=C4 ah
  have hb:((((M.take i).filter fun x=>decide (x.2.id≠k)).map (·.1)).length+1)*8≤140737488355328:=by
   have:=D3 (fun x:Nat×V7=>decide (x.2.id≠k)) (M.take i)
   rw[E6] at this
   rw[C1]
   omega
  have bu:=fun s'=>k1 (i+1) (s',IntKind.wrap .i64 (s.2.1+1),()) (by omega) ⟨by simp only[hi];rw[V8 (by omega) (by omega)];rfl,ah⟩
  rw[aV,F2,C0] at bu
  clear k1 k2
  refine W5 ?_
  refine W.load (b:=b) (v:=S) ?_
  refine j5 (enc:=eQ) (xs:=M.map (·.1)) (i:=i) bk (fun a ha=>?_) (he:=hi)
  refine B4P (x:=M[i].1) (v:=some ⟨M[i].1,0,none⟩) ha aY ?_
  refine W5 ?_
  refine C6P (p:=M[i]) (v:=M[i].2.id) nP (fun ob ib=>rfl) ?_
  by_cases hk:M[i].2.id=k
  ·refine o5 (by simpa using hk) ?_
   rw[F9 (by simpa using hk),J5,I3,C2] at bu
   exact b7 (U3 (bu s.1).sub)
  ·refine A1o (by simpa using hk) ?_
   rw[G9 (by simpa using hk),J5,B6,I3] at bu
   refine X3 (W5 ?_)
   refine X3 (W.load (b:=b) (v:=S) ?_)
   refine X3 (j5 (enc:=eQ) (xs:=M.map (·.1)) (i:=i) bk (fun a ha=>?_) (he:=hi))
   refine X3 (B4P (x:=M[i].1) (v:=some ⟨M[i].1,0,none⟩) ha aY ?_)
   refine X3 (Y2 fun mz=>?_)
   refine X3 (A9Z (b:=mz) (s:=s.1) (enc:=eQ) M[i].1 (fun s'=>?_) hb)
   exact b7 (U3 (bu s').sub)
 ·refine W8 (by rw[hi,cH];exact decide_eq_false (by omega)) (U3 (k2 _ _ ?_))
  have en:i=M.length:=by omega
  subst en
  clear k1 k2
  rw[F5]
  refine W5 ?_
  refine A4r (b:=b) (i:=1) (cs':=#[.int .i64 last,.slice s.1.a s.1.len s.1.cap]) ?_
  refine U3 (At.sub (L':=cells b #[.int .i64 last,.slice s.1.a s.1.len s.1.cap]::U6 eQ 1 s.1 ((M.filter fun x=>decide (x.2.id≠k)).map (·.1))::a7 (fun p=>rsA p.1 p.2) M::L1) ?_)
  intro h hs
  have h1:sat h (a7 (fun p=>rsA p.1 p.2) (M.filter fun x=>decide (x.2.id≠k))::cells b #[.int .i64 last,.slice s.1.a s.1.len s.1.cap]::U6 eQ 1 s.1 ((M.filter fun x=>decide (x.2.id≠k)).map (·.1))::L1):=B3u _ (hs.re [2,0,1])
  refine hq h (A06.2 ⟨s.1,M.filter fun x=>decide (x.2.id≠k),?_,h1.re [1,2,0]⟩)
  rw[R9]
  rfl
theorem C5I(hq:∀b,At (A1d b ⟨64,0,[]⟩::L) (Q (at0 b))):FW prog 201 #[.int .i64 64] L Q:=by
 refine fun h hs=>B4w 64 h Q ((?_:W L _ _) h hs)
 clear hs h
 delta B7W az cp nw pu vi
 refine j2 (fun h hs=>B0A hs 64 fun qb h1 aa=>?_)
 refine(At.un (L:=A0N qb ⟨64,0,[]⟩::L) (x:=some ⟨qb,0,none⟩) ?_) h1 aa
 refine Y2 fun b=>?_
 refine W.cY (A:=A1d b ⟨64,0,[]⟩) (B:=cells b #[at0 qb]) (C:=A0N qb ⟨64,0,[]⟩) (fun h hs=>A3l.2 ⟨qb,hs⟩) ?_
 exact U3 (hq b).sub
theorem C5H(hq:∀b,At (a8 b ⟨⟨64,0,[]⟩,64,false,[],[]⟩::L) (Q (at0 b))):FW prog 200 #[.int .i64 64] L Q:=fun h hs=>C1V hs 64 fun b h' af=>hq b h' af
theorem C8u{b:Nat}{last:Int}{A:List V7}{k:Int}(hl:A.length≤1000)(hn:(A.map (·.id)).Nodup)(hq:At (A0x b last (A4O k A).2::L1) (Q (.bool (A4O k A).1)))(hx:Has L (A0x b last A) L1:=by repeat first|with_reducible exact V1|apply V3):FW prog 133 #[at0 b,.int .i64 k] L Q:=by
 refine fun h hs=>B4t (some ⟨b,0,none⟩) k h Q ((?_:W (A0x b last A::L1) _ _) h (hx.s hs))
 clear hs h hx
 unfold A4O at hq
 delta B7T cp cx ie kb kp nn pu sx vi
 refine j2 (C3o (b:=b) (last:=last) (A:=A) (k:=k) hl (fun ay=>At.un (x:=none) ?_) (fun s hs hk nb ob ib=>At.un (x:=some ⟨nb,0,none⟩) ?_))
 ·have hg:A4N k A=none:=E8.2 fun s hs=>by simpa using ay s hs
  rw[hg] at hq
  exact Y4 rfl (U3 hq)
 ·rw[A3y hn hs hk] at hq
  simp only at hq
  refine W8 rfl ?_
  refine W5 ?_
  refine W.load (b:=nb) (v:=s.on) ?_
  by_cases aP:s.on=false
  ·rw[if_pos aP] at hq
   refine Y4 (by rw[aP];rfl) ?_
   refine B02 (A:=A0x b last A) (B:=cells nb (rqC s ob ib)) (C:=a8 ob s.out) (D:=A1d ib s.aZ) (E:=A3k b last A s nb) (fun h hs=>A6N h hs) ?_
   exact U3 hq.sub
  ·rw[if_neg aP] at hq
   have cI:s.on=true:=by cases hh:s.on with|true=>rfl|false=>exact absurd hh aP
   refine W8 (by rw[cI];rfl) ?_
   refine W5 ?_
   refine W.store (b:=nb) (cs':=#[.int .i64 s.id,.string s.aC,.bool s.aN,.bool false,at0 ob,at0 ib]) ?_
   refine W5 ?_
   refine W.load (b:=nb) (v:=some ⟨ob,0,none⟩) ?_
   refine W5 ?_
   refine A6u (fun h R=>r6.1) fun pb fl wt=>?_
   refine W.store (b:=ob) (cs':=#[at0 pb,.int .i64 s.out.most,.bool false,.slice fl.a fl.len fl.cap,.slice wt.a wt.len wt.cap]) ?_
   refine B02 (A:=a8 ob (A8y s).out) (B:=cells ob #[at0 pb,.int .i64 s.out.most,.bool false,.slice fl.a fl.len fl.cap,.slice wt.a wt.len wt.cap]) (C:=A0N pb s.out.aU) (D:=U6 A0V 7 fl s.out.aG) (E:=U6 Z7 5 wt s.out.waiting) (fun h hs=>r6.2 ⟨pb,fl,wt,hs⟩) ?_
   refine W5 ?_
   refine W.load (b:=nb) (v:=s.aN) ?_
   refine B02 (A:=A0x b last (X7 k A8y A)) (B:=cells nb #[.int .i64 s.id,.string s.aC,.bool s.aN,.bool false,at0 ob,at0 ib]) (C:=a8 ob (A8y s).out) (D:=A1d ib s.aZ) (E:=A3k b last A s nb) (fun h hs=>A49 (f:=A8y) hk hn rfl h hs) ?_
   by_cases iT:s.aN=true
   ·rw[if_pos iT] at hq
    refine W8 (by rw[iT];rfl) ?_
    exact U3 hq.sub
   ·rw[if_neg iT] at hq
    have nR:s.aN=false:=by cases hh:s.aN with|false=>rfl|true=>exact absurd hh iT
    refine Y4 (by rw[nR];rfl) ?_
    have cR:(X7 k A8y A).filter (fun x=>decide (x.id≠k))=A.filter fun x=>decide (x.id≠k):=by
     unfold X7
     rw[R9]
     have e1:A.filter ((fun x:V7=>decide (x.id≠k))∘fun s=>if s.id=k then A8y s else s)=A.filter fun x=>decide (x.id≠k):=K8 fun x _=>by
      simp only[Function.comp]
      split
      ·rfl
      ·rfl
     rw[e1]
     refine(I2 fun x hx=>?_).trans (T6 _)
     have:=(D9.1 hx).2
     rw[if_neg (by simpa using this)];rfl
    refine Z3 (C3m (b:=b) (last:=last) (A:=X7 k A8y A) (k:=k) (by unfold X7;rw[C1];exact hl) (At.bD ?_))
    rw[cR]
    exact U3 hq.sub
theorem C0q{b:Nat}{last:Int}{A:List V7}{c:B38}{clean aN:Bool}(hsz:c.size≤9223372036854775800)(tR:0≤last)(ff:last<4611686018427387904)(hl:A.length≤100)(hn:(A.map (·.id)).Nodup)(bU:(A.map (·.aC)).Nodup)
  (hq:At (A0x b (y8 last A c clean aN).2.1 (y8 last A c clean aN).2.2::L1) (Q (.tuple #[.int .i64 (y8 last A c clean aN).1.2.1,.bool (y8 last A c clean aN).1.2.2,.int .i64 (y8 last A c clean aN).1.1])))
  (hx:Has L (A0x b last A) L1:=by repeat first|with_reducible exact V1|apply V3):FW prog 150 #[at0 b,.string c,.bool clean,.bool aN] L Q:=by
 refine fun h hs=>B1n (some ⟨b,0,none⟩) c clean aN h Q ((?_:W (A0x b last A::L1) _ _) h (hx.s hs))
 clear hs h hx
 delta B3M az bn cp cx ie kc ki nn nw pu rq sx vi vs wi
 refine Z3 (fun h hs=>B3X hs c hsz ((At.bD (L:=A0x b last A::L1) (x:=(match r7 c with|some n=>((n:Int),true,())|none=>((0:Int),false,()))) ?_ (by cases r7 c<;>rfl) (by cases r7 c<;>rfl)) h hs))
 unfold y8 at hq
 refine A1g (fun r=>r.1= !(decide (b6 c))) (fun K hK=>?_) (fun r hr=>?_)
 ·have key:∀v:Bool,(v=true↔¬b6 c)→v= !(decide (b6 c)):=fun v hv=>by
   by_cases hg:b6 c
   ·cases v
    ·simp[hg]
    ·exact absurd hg (hv.1 rfl)
   ·rw[hv.2 hg];simp[hg]
  cases hf:r7 c with
  |some n=>exact Y4 rfl (U3 (hK _ (key true ⟨fun _ hg=>(by have:=hg.1;rw[hf] at this;cases this),fun _=>rfl⟩)))
  |none=>
   refine W8 rfl ?_
   refine A0l (fun g=>U3 (hK _ (key true ⟨fun _ hg=>?_,fun _=>rfl⟩))) (fun g=>U3 (hK _ (key _ ⟨fun rX hg=>?_,fun hg=>?_⟩)))
   ·have hz:c.size=0:=by simpa using g
    exact hg.2.1 (ByteArray.ext (Array.eq_empty_of_size_eq_zero hz))
   ·have:=hg.2.2
    simp only[decide_eq_true_eq] at rX
    omega
   ·have hz:c.size≠0:=by simpa using g
    have he:c≠ByteArray.mk #[]:=fun e=>hz (by rw[e];rfl)
    simp only[decide_eq_true_eq]
    have:¬c.size≤64:=fun h=>hg ⟨hf,he,h⟩
    omega
 by_cases hg:b6 c
 ·rw[if_neg (fun e=>e hg)] at hq
  refine W8 (by rw[hr];simp[hg]) ?_
  have fresh:∀{A':List V7},A'.length≤100→(∀{Q2:(Int×Bool×Int×Unit)→Heap→Prop},At (A0x b (last+1) (A'++[A2v (last+1) c aN])::L1) (Q2 (last+1,false,0,()))→
    W (A0x b last A'::L1) (HM.bind (A8r (some ⟨b,0,none⟩)) fun wI=>HM.bind (p8 (.int .i64) (Addr.add wI 0)) fun mz=>HM.bind (A8r (some ⟨b,0,none⟩)) fun kr=>HM.bind (A7e (Addr.add kr 0) (.int .i64 (IntKind.wrap .i64 (mz+1)))) fun _=>
     HM.bind (A1z prog (.one .ptr) 200 #[.int .i64 64]) fun sy=>HM.bind (A1z prog (.one .ptr) 201 #[.int .i64 64]) fun jV=>HM.bind (A8r (some ⟨b,0,none⟩)) fun sg=>HM.bind (p8 .slc (Addr.add sg 1)) fun dy=>
     HM.bind (A8r (some ⟨b,0,none⟩)) fun mo=>HM.bind (p8 (.int .i64) (Addr.add mo 0)) fun wD=>HM.bind (HM.new (.cells #[.int .i64 wD,.string c,.bool aN,.bool true,.pointer sy,.pointer jV] 154)) fun pv=>
     HM.bind (p8 .slc (Addr.add sg 1)) fun lB=>A3d ((.slice lB.a lB.len lB.cap:Value)=.slice dy.a dy.len dy.cap)<|HM.bind (HM.new (.cells #[.pointer (some ⟨pv,0,none⟩)] 150)) fun se=>
     HM.bind (p8 .slc (Addr.add sg 1)) fun pq=>A3d ((.slice pq.a pq.len pq.cap:Value)=.slice dy.a dy.len dy.cap)<|HM.bind (HM.append 150 1 8 #[.pointer none] dy 1 (V9 1 (⟨some ⟨se,0,none⟩,1,1⟩))) fun rI=>
     HM.bind (A8r (some ⟨b,0,none⟩)) fun wC=>HM.bind (A7e (Addr.add wC 1) (.slice rI.a rI.len rI.cap)) fun _=>HM.bind (A8r (some ⟨b,0,none⟩)) fun wB=>HM.bind (p8 (.int .i64) (Addr.add wB 0)) fun po=>X2 (po,false,0,())) Q2):=by
   intro A' gD Q2 fe
   refine A9f (g:=fun S (M:{M:List (Nat×V7) // M.map (·.2)=A'}) R=>cells b #[.int .i64 last,.slice S.a S.len S.cap]::U6 eQ 1 S (M.1.map (·.1))::a7 (fun p=>rsA p.1 p.2) M.1::R) (fun h R hs=>by
    obtain⟨S,M,hM,h1⟩:=A06.1 hs
    exact⟨S,⟨M,hM⟩,h1⟩) fun S M=>?_
   obtain⟨M,hM⟩:=M
   subst hM
   dsimp only
   rw[C1] at gD
   have hb:((M.map (·.1)).length+1)*8≤140737488355328:=by rw[C1];omega
   have hw:IntKind.wrap .i64 (last+1)=last+1:=V8 (by omega) (by omega)
   refine W5 ?_
   refine W.load (b:=b) (v:=last) ?_
   refine W5 ?_
   rw[hw]
   refine W.store (b:=b) (cs':=#[.int .i64 (last+1),.slice S.a S.len S.cap]) ?_
   refine j2 (C5H (fun ob=>At.un (x:=some ⟨ob,0,none⟩) ?_))
   refine j2 (C5I (fun ib=>At.un (x:=some ⟨ib,0,none⟩) ?_))
   refine W5 ?_
   refine W.load (b:=b) (v:=S) ?_
   refine W5 ?_
   refine W.load (b:=b) (v:=last+1) ?_
   refine Y2 fun nb=>?_
   refine W.load (b:=b) (v:=S) ?_
   refine A1p ?_ rfl
   refine Y2 fun se=>?_
   refine W.load (b:=b) (v:=S) ?_
   refine A1p ?_ rfl
   refine A9Z (b:=se) (s:=S) (enc:=eQ) nb (fun s'=>?_) hb
   refine W5 ?_
   refine W.store (b:=b) (cs':=#[.int .i64 (last+1),.slice s'.a s'.len s'.cap]) ?_
   refine W5 ?_
   refine W.load (b:=b) (v:=last+1) ?_
   refine B2x (A:=rsA nb (A2v (last+1) c aN)) (B:=cells nb #[.int .i64 (last+1),.string c,.bool aN,.bool true,at0 ob,at0 ib]) (C:=a8 ob ⟨⟨64,0,[]⟩,64,false,[],[]⟩) (D:=A1d ib ⟨64,0,[]⟩) (fun h hs=>B1h.2 ⟨ob,ib,hs⟩) ?_
   refine W.cY (A:=a7 (fun p=>rsA p.1 p.2) (M++[(nb,A2v (last+1) c aN)])) (B:=a7 (fun p=>rsA p.1 p.2) M) (C:=rsA nb (A2v (last+1) c aN)) (fun h hs=>A5r.2 (((A30 (f:=fun p:Nat×V7=>rsA p.1 p.2) (x:=(nb,A2v (last+1) c aN))).2 (hs.re [1,0])).re [1,0])) ?_
   refine B2x (A:=A0x b (last+1) (M.map (·.2)++[A2v (last+1) c aN])) (B:=cells b #[.int .i64 (last+1),.slice s'.a s'.len s'.cap]) (C:=U6 eQ 1 s' (M.map (·.1)++[nb])) (D:=a7 (fun p=>rsA p.1 p.2) (M++[(nb,A2v (last+1) c aN)])) (fun h hs=>A06.2 ⟨s',M++[(nb,A2v (last+1) c aN)],by simp,by rw[C0];exact hs⟩) ?_
   exact U3 fe.sub
  refine j2 (B88 (b:=b) (last:=last) (A:=A) (c:=c) (by omega) bU (fun ho=>At.un (x:=none) ?_) (fun s ho nb ob ib=>At.un (x:=some ⟨nb,0,none⟩) ?_))
  ·rw[ho] at hq
   simp only at hq
   refine A1g (fun r=>r.1=false) (fun K hK=>W8 rfl (U3 (hK _ rfl))) (fun r2 ck=>?_)
   refine W8 ck ?_
   refine o5 rfl ?_
   refine X3 (W5 ?_)
   refine A9f (g:=fun S (M:{M:List (Nat×V7) // M.map (·.2)=A}) R=>cells b #[.int .i64 last,.slice S.a S.len S.cap]::U6 eQ 1 S (M.1.map (·.1))::a7 (fun p=>rsA p.1 p.2) M.1::R) (fun h R hs=>by
    obtain⟨S,M,hM,h1⟩:=A06.1 hs
    exact⟨S,⟨M,hM⟩,h1⟩) fun S M=>?_
   obtain⟨M,hM⟩:=M
   subst hM
   dsimp only
   refine Z1 (X5 (enc:=eQ) (size:=1) (s:=S) (xs:=M.map (·.1))) fun cH=>?_
   rw[C1] at cH
   refine X3 (W.load (b:=b) (v:=S) ?_)
   refine B2x (A:=A0x b last (M.map (·.2))) (B:=cells b #[.int .i64 last,.slice S.a S.len S.cap]) (C:=U6 eQ 1 S (M.map (·.1))) (D:=a7 (fun p=>rsA p.1 p.2) M) (fun h hs=>A06.2 ⟨S,M,rfl,hs⟩) ?_
   by_cases eK:32≤(M.map (·.2)).length
   ·rw[if_pos eK] at hq
    rw[C1] at eK
    refine A1o (by rw[cH];exact decide_eq_true (by omega)) (b7 (W.inr (U3 ?_)))
    exact hq.sub
   ·rw[if_neg eK] at hq
    rw[C1] at eK
    refine o5 (by rw[cH];exact decide_eq_false (by omega)) (b7 (W.inl ?_))
    exact fresh hl hq
  ·rw[ho] at hq
   simp only at hq
   obtain⟨lG,tq⟩:=B1Q ho
   refine A1g (fun r=>r.1= !clean) (fun K hK=>Y4 rfl (U3 (hK _ rfl))) (fun r2 ck=>?_)
   by_cases bd:clean=false
   ·rw[if_pos bd] at hq
    refine Y4 (by rw[ck,bd];rfl) ?_
    refine W5 ?_
    refine W.store (b:=nb) (cs':=#[.int .i64 s.id,.string s.aC,.bool s.aN,.bool true,at0 ob,at0 ib]) ?_
    refine W5 ?_
    refine W.store (b:=nb) (cs':=#[.int .i64 s.id,.string s.aC,.bool aN,.bool true,at0 ob,at0 ib]) ?_
    refine W5 ?_
    refine W.load (b:=nb) (v:=s.id) ?_
    refine B02 (A:=A0x b last (X7 s.id (fun s=>{s with on:=true,aN:=aN}) A)) (B:=cells nb #[.int .i64 s.id,.string s.aC,.bool aN,.bool true,at0 ob,at0 ib]) (C:=a8 ob s.out) (D:=A1d ib s.aZ) (E:=A3k b last A s nb) (fun h hs=>A49 (f:=fun s=>{s with on:=true,aN:=aN}) rfl hn rfl h hs) ?_
    exact U3 hq.sub
   ·rw[if_neg bd] at hq
    have uu:clean=true:=by cases hh:clean with|true=>rfl|false=>exact absurd hh bd
    refine W8 (by rw[ck,uu];rfl) ?_
    refine A1o rfl ?_
    refine X3 (W5 ?_)
    refine X3 (W.load (b:=nb) (v:=s.id) ?_)
    refine B02 (A:=A0x b last A) (B:=cells nb (rqC s ob ib)) (C:=a8 ob s.out) (D:=A1d ib s.aZ) (E:=A3k b last A s nb) (fun h hs=>A6N h hs) ?_
    refine X3 (Z3 (C3m (b:=b) (last:=last) (A:=A) (k:=s.id) (by omega) (At.bD ?_)))
    refine b7 (W.inl ?_)
    have cq:(A.filter fun x=>decide (x.id≠s.id)).length≤100:=C7 (D3 _ _) hl
    exact fresh cq hq
 ·rw[if_pos hg] at hq
  refine Y4 (by rw[hr];simp[hg]) ?_
  exact U3 hq.sub
theorem B1F{k id c:Int}(hq:∀S:Slc,At (q8 .i64 S [j9 k id c]::L) (Q (.slice S.a S.len S.cap))):FW prog 245 #[.int .i64 k,.int .i64 id,.int .i64 c] L Q:=by
 refine fun h hs=>B0H k id c h Q ((?_:W L _ _) h hs)
 clear hs h
 delta B1p az nw pu ve vi vz
 refine Y2 fun x1=>U3 ?_
 intro h hs
 refine hq ⟨some ⟨x1,0,none⟩,1,1⟩ h ?_
 have h1:sat h (U6 (W9 .i64) 26 ⟨some ⟨x1,0,none⟩,1,1⟩ [pkF (⟨none,0,0⟩,⟨none,0,0⟩,j9 k id c)]::L):=A1J (o:=0) ⟨rfl,D8 _,rfl,by simp,by rfl⟩ hs
 exact A7t.2 ⟨[(⟨none,0,0⟩,⟨none,0,0⟩,j9 k id c)],rfl,(A30.2 (A3o (o:=j9 k id c) rfl rfl h1)).p1⟩
theorem C8p{b:Nat}{s:u6}{k:Int}(hl:s.used.length≤64)(hq:At (A0N b s::L1) (Q (.bool (decide (k∈s.used)))))(hx:Has L (A0N b s) L1:=by repeat first|with_reducible exact V1|apply V3):FW prog 243 #[at0 b,.int .i64 k] L Q:=fun h hs=>B2I (hx.s hs) hl (hq h (hx.s hs))
theorem C5G{b:Nat}{s:u6}{k:Int}(ag:s.ok)(hq:At (A0N b ⟨s.most,s.taken,s.used.erase k⟩::L1) (Q (.bool (decide (k∈s.used)))))(hx:Has L (A0N b s) L1:=by repeat first|with_reducible exact V1|apply V3):FW prog 244 #[at0 b,.int .i64 k] L Q:=fun h hs=>B3K (hx.s hs) ag fun h' af=>hq h' af
theorem C4e{b:Nat}{s:u6}{k:Int}(ag:s.ok)(hc:i7 s k=0)(hq:At (A0N b ⟨s.most,s.taken,s.used++[k]⟩::L1) (Q (.int .i64 0)))(hx:Has L (A0N b s) L1:=by repeat first|with_reducible exact V1|apply V3):FW prog 246 #[at0 b,.int .i64 k] L Q:=fun h hs=>B8Z (hx.s hs) ag (fun e=>absurd hc e) fun _ h' af=>hq h' af
theorem C7o{f:Nat}{s:u6}{p:Pk}{why:Int}(ag:s.ok)(hq:∀S:Slc,At (A1d f ⟨s.most,s.taken,(l9 s p.1 p.2.2.2.1 p.2.2.2.2.1 why).2.2.2⟩::q8 .i64 S (A3E (l9 s p.1 p.2.2.2.1 p.2.2.2.2.1 why).2.1 p.2.2.2.2.1)::L1)
   (Q (.tuple #[.bool (l9 s p.1 p.2.2.2.1 p.2.2.2.2.1 why).1,.slice S.a S.len S.cap,.int .i64 (l9 s p.1 p.2.2.2.1 p.2.2.2.2.1 why).2.2.1])))(hx:Has L (A1d f s) L1:=by repeat first|with_reducible exact V1|apply V3):
  FW prog 194 #[at0 f,A2z .i64 p,.int .i64 why] L Q:=by
 refine fun h hs=>B2T (some ⟨f,0,none⟩) p why h Q ((?_:W (A1d f s::L1) _ _) h (hx.s hs))
 clear hs h hx
 have hl:s.used.length≤64:=by have:=ag.len;have:=ag.cP;omega
 have rT:=ag.len
 obtain⟨k,hk⟩:∃k,k=p.1:=⟨_,rfl⟩
 obtain⟨qo,qn⟩:∃q,q=p.2.2.2.1:=⟨_,rfl⟩
 obtain⟨id,hid⟩:∃i,i=p.2.2.2.2.1:=⟨_,rfl⟩
 rw[←hk,←qn,←hid] at hq
 obtain⟨RR,fg⟩:∃RR,RR=l9 s k qo id why:=⟨_,rfl⟩
 rw[←fg] at hq
 have dq:∀a c,RR=(a,none,c,s.used)→At (A1d f s::L1) (Q (.tuple #[.bool a,.slice none 0 0,.int .i64 c])):=fun a c e=>by
  have:=hq ⟨none,0,0⟩
  rw[e] at this
  exact fun h hs=>this h ((A1W hs).re [1,0])
 have aJ:∀a kk c u,RR=(a,some (kk,c),0,u)→∀S:Slc,At (A1d f ⟨s.most,s.taken,u⟩::q8 .i64 S [j9 kk id c]::L1) (Q (.tuple #[.bool a,.slice S.a S.len S.cap,.int .i64 0])):=fun a kk c u e S=>by
  have:=hq S
  rw[e] at this
  exact this
 clear hq
 unfold l9 at fg
 delta B5v bn cb cc ci ie ji kc ki kp nn nw pu vi
 refine Y2 fun x1=>?_
 refine W.load (b:=x1) (v:=p.1) ?_
 refine W.load (b:=x1) (v:=p.1) ?_
 rw[←hk]
 refine A1g (fun r=>r.1=decide (k≠3∧k≠6)) (fun K hK=>?_) (fun r hr=>?_)
 ·refine A0l (fun g=>U3 (hK _ ?_)) (fun g=>U3 (hK _ ?_))
  ·have g:k≠3:=by simpa using g
   by_cases e:k=6<;>simp[e,g]
  ·have g:k=3:=by simpa using g
   simp[g]
 by_cases c1:k≠3∧k≠6
 ·rw[if_pos (show A0a k qo id from .inl c1)] at fg
  refine Y4 (by rw[hr];exact decide_eq_true c1) ?_
  exact U3 (dq _ _ fg).sub
 refine W8 (by rw[hr];exact decide_eq_false c1) ?_
 clear hr r
 refine A1g (fun r=>r.1=decide (k=3∧(qo<0∨2<qo))) (fun K hK=>?_) (fun r hr=>?_)
 ·refine A0l (fun g=>?_) (fun g=>U3 (hK _ ?_))
  ·have g:k=3:=by simpa using g
   refine W.load (b:=x1) (v:=p.2.2.2.1) ?_
   rw[←qn]
   refine A0l (fun g2=>U3 (hK _ ?_)) (fun g2=>?_)
   ·have g2:qo<0:=by simpa using g2
    simp[g,g2]
   ·have g2:¬qo<0:=by simpa using g2
    refine W.load (b:=x1) (v:=p.2.2.2.1) ?_
    rw[←qn]
    refine U3 (hK _ ?_)
    by_cases e:2<qo<;>simp[e,g,g2]<;>omega
  ·have g:k≠3:=by simpa using g
   simp[g]
 by_cases c2:k=3∧(qo<0∨2<qo)
 ·rw[if_pos (show A0a k qo id from .inr (.inl c2))] at fg
  refine Y4 (by rw[hr];exact decide_eq_true c2) ?_
  exact U3 (dq _ _ fg).sub
 refine W8 (by rw[hr];exact decide_eq_false c2) ?_
 clear hr r
 refine A1g (fun r=>r.1=decide (k=3∧qo=0)) (fun K hK=>?_) (fun r hr=>?_)
 ·refine A0l (fun g=>?_) (fun g=>U3 (hK _ ?_))
  ·have g:k=3:=by simpa using g
   refine W.load (b:=x1) (v:=p.2.2.2.1) ?_
   rw[←qn]
   refine U3 (hK _ ?_)
   by_cases e:qo=0<;>simp[e,g]
  ·have g:k≠3:=by simpa using g
   simp[g]
 by_cases c3:k=3∧qo=0
 ·have oM:¬A0a k qo id:=by
   rintro(e|e|e)
   ·exact c1 e
   ·exact c2 e
   ·exact e.1 c3
  rw[if_neg oM,if_pos c3] at fg
  refine Y4 (by rw[hr];exact decide_eq_true c3) ?_
  exact U3 (dq _ _ fg).sub
 refine W8 (by rw[hr];exact decide_eq_false c3) ?_
 clear hr r
 refine A1g (fun r=>r.1=decide (id<1∨65535<id)) (fun K hK=>?_) (fun r hr=>?_)
 ·refine W.load (b:=x1) (v:=p.2.2.2.2.1) ?_
  rw[←hid]
  refine A0l (fun g2=>U3 (hK _ ?_)) (fun g2=>?_)
  ·have g2:id<1:=by simpa using g2
   simp[g2]
  ·have g2:¬id<1:=by simpa using g2
   refine W.load (b:=x1) (v:=p.2.2.2.2.1) ?_
   rw[←hid]
   refine U3 (hK _ ?_)
   by_cases e:65535<id<;>simp[e,g2]<;>omega
 by_cases c4:id<1∨65535<id
 ·rw[if_pos (show A0a k qo id from .inr (.inr ⟨c3,c4⟩))] at fg
  refine Y4 (by rw[hr];exact decide_eq_true c4) ?_
  exact U3 (dq _ _ fg).sub
 refine W8 (by rw[hr];exact decide_eq_false c4) ?_
 clear hr r
 have oM:¬A0a k qo id:=by
  rintro(e|e|e)
  ·exact c1 e
  ·exact c2 e
  ·exact c4 e.2
 rw[if_neg oM,if_neg c3] at fg
 clear oM
 refine W5 ?_
 refine A2j (fun h R=>A3l.1) fun qb=>?_
 refine W.load (b:=f) (v:=some ⟨qb,0,none⟩) ?_
 refine W.load (b:=x1) (v:=p.2.2.2.2.1) ?_
 rw[←hid]
 refine j2 (C8p (b:=qb) (s:=s) (k:=id) hl (At.un ?_))
 by_cases c6:k=6
 ·rw[if_pos c6] at fg
  refine Y4 (by simpa using c6) ?_
  refine C46 (fun r=>r.1=if id∈s.used then 0 else 146) (fun _=>A1d f ⟨s.most,s.taken,s.used.erase id⟩::cells x1 (aS2 p)::L1) (fun K hK=>?_) (fun r hr=>?_)
  ·by_cases ed:id∈s.used
   ·rw[if_pos ed] at hK
    refine Y4 (decide_eq_true ed) ?_
    refine W5 ?_
    refine W.load (b:=f) (v:=some ⟨qb,0,none⟩) ?_
    refine W.load (b:=x1) (v:=p.2.2.2.2.1) ?_
    rw[←hid]
    refine j2 (C5G (b:=qb) (s:=s) (k:=id) ag (At.un ?_))
    refine W.cY (A:=A1d f ⟨s.most,s.taken,s.used.erase id⟩) (B:=cells f #[at0 qb]) (C:=A0N qb ⟨s.most,s.taken,s.used.erase id⟩) (fun h hs=>A3l.2 ⟨qb,hs⟩) ?_
    exact U3 (hK _ rfl).sub
   ·rw[if_neg ed,List.erase_of_not_mem ed] at hK
    refine W8 (decide_eq_false ed) ?_
    refine W.cY (A:=A1d f ⟨s.most,s.taken,s.used⟩) (B:=cells f #[at0 qb]) (C:=A0N qb s) (fun h hs=>A3l.2 ⟨qb,hs⟩) ?_
    exact U3 (hK _ rfl).sub
  ·obtain⟨cc,_⟩:=r
   simp only at hr
   refine W.load (b:=x1) (v:=p.2.2.2.2.1) ?_
   rw[←hid]
   refine j2 (B1F (k:=7) (id:=id) (c:=cc) (fun S=>At.un (x:=S) ?_))
   rw[←hr] at fg
   exact U3 (aJ _ _ _ _ fg S).sub
 rw[if_neg c6] at fg
 refine W8 (by simpa using c6) ?_
 refine W.load (b:=x1) (v:=p.2.2.2.1) ?_
 rw[←qn]
 by_cases c7:qo=1
 ·rw[if_pos c7] at fg
  refine Y4 (by simpa using c7) ?_
  refine W.load (b:=x1) (v:=p.2.2.2.2.1) ?_
  rw[←hid]
  refine j2 (B1F (k:=4) (id:=id) (c:=why) (fun S=>At.un (x:=S) ?_))
  refine W.cY (A:=A1d f ⟨s.most,s.taken,s.used⟩) (B:=cells f #[at0 qb]) (C:=A0N qb s) (fun h hs=>A3l.2 ⟨qb,hs⟩) ?_
  exact U3 (aJ _ _ _ _ fg S).sub
 rw[if_neg c7] at fg
 refine W8 (by simpa using c7) ?_
 by_cases c8:id∈s.used
 ·rw[if_pos c8] at fg
  refine Y4 (decide_eq_true c8) ?_
  refine W.load (b:=x1) (v:=p.2.2.2.2.1) ?_
  rw[←hid]
  refine j2 (B1F (k:=5) (id:=id) (c:=0) (fun S=>At.un (x:=S) ?_))
  refine W.cY (A:=A1d f ⟨s.most,s.taken,s.used⟩) (B:=cells f #[at0 qb]) (C:=A0N qb s) (fun h hs=>A3l.2 ⟨qb,hs⟩) ?_
  exact U3 (aJ _ _ _ _ fg S).sub
 rw[if_neg c8] at fg
 refine W8 (decide_eq_false c8) ?_
 refine W5 ?_
 refine W.load (b:=f) (v:=some ⟨qb,0,none⟩) ?_
 refine W5 ?_
 refine A2j (fun h R=>A1P.1) fun sl=>?_
 refine Z1 (X5 (enc:=eI) (size:=1) (s:=sl) (xs:=Z4 s.used)) fun cH=>?_
 have xb:(Z4 s.used).length=s.used.length:=by unfold Z4;exact O7 _
 rw[xb] at cH
 refine W.load (b:=qb) (v:=sl) ?_
 refine W5 ?_
 refine W.load (b:=f) (v:=some ⟨qb,0,none⟩) ?_
 refine W5 ?_
 refine W.load (b:=qb) (v:=s.most) ?_
 refine W.cY (A:=A0N qb s) (B:=cells qb #[.int .i64 s.most,.int .i64 s.taken,.slice sl.a sl.len sl.cap]) (C:=U6 eI 1 sl (Z4 s.used)) (fun h hs=>A1P.2 ⟨sl,hs⟩) ?_
 by_cases c9:(s.used.length:Int)=s.most
 ·rw[if_pos c9] at fg
  refine Y4 (by rw[cH];exact decide_eq_true (by omega)) ?_
  refine W.cY (A:=A1d f s) (B:=cells f #[at0 qb]) (C:=A0N qb s) (fun h hs=>A3l.2 ⟨qb,hs⟩) ?_
  exact U3 (dq _ _ fg).sub
 rw[if_neg c9] at fg
 refine W8 (by rw[cH];exact decide_eq_false (by omega)) ?_
 refine W.cut (fun _=>A1d f ⟨s.most,s.taken,if why<128 then s.used++[id] else s.used⟩::cells x1 (aS2 p)::L1) (fun K hK=>?_) (fun _=>?_)
 ·by_cases hw:why<128
  ·rw[if_pos hw] at hK
   refine Y4 (decide_eq_true hw) ?_
   refine W5 ?_
   refine W.load (b:=f) (v:=some ⟨qb,0,none⟩) ?_
   refine W.load (b:=x1) (v:=p.2.2.2.2.1) ?_
   rw[←hid]
   refine j2 (C4e (b:=qb) (s:=s) (k:=id) ag ?_ (At.un ?_))
   ·unfold i7
    simp[c4,c8,c9]
   refine W.cY (A:=A1d f ⟨s.most,s.taken,s.used++[id]⟩) (B:=cells f #[at0 qb]) (C:=A0N qb ⟨s.most,s.taken,s.used++[id]⟩) (fun h hs=>A3l.2 ⟨qb,hs⟩) ?_
   exact U3 (hK ()).sub
  ·rw[if_neg hw] at hK
   refine W8 (decide_eq_false hw) ?_
   refine W.cY (A:=A1d f ⟨s.most,s.taken,s.used⟩) (B:=cells f #[at0 qb]) (C:=A0N qb s) (fun h hs=>A3l.2 ⟨qb,hs⟩) ?_
   exact U3 (hK ()).sub
 refine W.load (b:=x1) (v:=p.2.2.2.2.1) ?_
 rw[←hid]
 refine j2 (B1F (k:=5) (id:=id) (c:=why) (fun S=>At.un (x:=S) ?_))
 exact U3 (aJ _ _ _ _ fg S).sub
theorem C0d{b:Nat}{o:Z2}{m:MsT}(ag:X0 o)(hq:∀S:Slc,At (a8 b (Y0 o m).1.1::q8 .i64 S (Y0 o m).1.2::L1) (Q (.tuple #[.slice S.a S.len S.cap,.int .i64 (Y0 o m).2])))(hx:Has L (a8 b o) L1:=by repeat first|with_reducible exact V1|apply V3):
  FW prog 139 #[at0 b,vMs m] L Q:=fun h hs=>C0e (hx.s hs) ag fun S h' af=>hq S h' af
theorem C4g{b:Nat}{o:Z2}{most:Int}(ag:X0 o)(hq:∀S:Slc,At (a8 b (A0s o most).1::q8 .i64 S (A0s o most).2::L1) (Q (.slice S.a S.len S.cap)))(hx:Has L (a8 b o) L1:=by repeat first|with_reducible exact V1|apply V3):
  FW prog 151 #[at0 b,.int .i64 most] L Q:=fun h hs=>B82 (hx.s hs) ag fun S h' af=>hq S h' af
theorem C7m{b:Nat}{o:Z2}{p:Pk}(ag:X0 o)(hq:∀S:Slc,At (a8 b (A0R o p.1 p.2.2.2.2.1 p.2.2.2.2.2.2.2.1).1.1::q8 .i64 S (A0R o p.1 p.2.2.2.2.1 p.2.2.2.2.2.2.2.1).1.2::L1) (Q (.tuple #[.slice S.a S.len S.cap,.int .i64 (A0R o p.1 p.2.2.2.2.1 p.2.2.2.2.2.2.2.1).2])))
  (hx:Has L (a8 b o) L1:=by repeat first|with_reducible exact V1|apply V3):FW prog 142 #[at0 b,A2z .i64 p] L Q:=fun h hs=>C1W (hx.s hs) ag fun S h' af=>hq S h' af
theorem C3k{S:Slc}{pl:List q9}{id:Int}(hn:pl.length≤1000)(hq:At (U6 X1 4 S pl::L1) (Q (.tuple #[.agg (X1 ((A0Z id pl).getD (0,0,e0S,e0S))).toArray,.bool (A0Z id pl).isSome])))
  (hx:Has L (U6 X1 4 S pl) L1:=by repeat first|with_reducible exact V1|apply V3):FW prog 149 #[.slice S.a S.len S.cap,.int .i64 id] L Q:=by
 refine fun h hs=>B20 S id h Q ((?_:W (U6 X1 4 S pl::L1) _ _) h (hx.s hs))
 clear hs h hx
 delta B5D az bn g8 ie ix ki nw pu sn ve vi wi
 refine Y2 fun x1=>?_
 refine Z1 (X5 (enc:=X1) (size:=4) (s:=S) (xs:=pl)) fun hl=>?_
 refine W.loop (γ:=Nat) (fun g s=>s.1=(g:Int)∧g≤pl.length∧A0Z id (pl.take g)=none) (fun g s=>cells x1 zS8::U6 X1 4 S pl::L1) (fun g=>pl.length-g) 0 ⟨rfl,D1 _,rfl⟩ Sub.rfl ?_
 rintro i s ⟨hi,cn,hf⟩ K k1 k2
 by_cases ah:i<pl.length
 ·refine Y4 (by rw[hi,hl];exact decide_eq_true (by omega)) ?_
  have aY:pl[i]? =some pl[i]:=B0 ah
  have aV:pl.take (i+1)=pl.take i++[pl[i]]:=C4 ah
  have eY:pl=pl.take i++pl[i]::pl.drop (i+1):=by rw[←E1 ah,J3]
  generalize pl[i]=u at aY aV eY
  refine j5 (enc:=X1) (xs:=pl) (i:=i) ah (fun a ha=>?_) (he:=hi)
  refine A4z (k:=0) (x:=u) (v:=u.1) ha aY ?_
  by_cases hu:u.1=id
  ·refine Y4 (by simpa using hu) ?_
   refine j5 (enc:=X1) (xs:=pl) (i:=i) ah (fun a ha=>?_) (he:=hi)
   refine B3z (x:=u) (v:=prU u) ha aY ?_
   refine A0n (b:=x1) ?_
   refine s7 (b:=x1) (v:=prU u) ?_
   refine U3 (k2 _ _ (W.inr (U3 ?_)))
   have ub:A0Z id pl=some u:=by
    rw[eY];unfold A0Z at hf⊢
    rw[P4,hf,Option.none_or,R6 (by simpa using hu)]
   rw[ub] at hq
   exact hq.sub
  ·refine W8 (by simpa using hu) ?_
   have f1:IntKind.wrap .i64 (s.1+1)=((i+1:Nat):Int):=by rw[hi,V8 (by omega) (by omega)];rfl
   have f2:A0Z id (pl.take (i+1))=none:=by
    rw[aV];unfold A0Z at hf⊢
    rw[P4,hf,Option.none_or,List.find?_cons_of_neg (by simpa using hu)];rfl
   have hn:=k1 (i+1) (IntKind.wrap .i64 (s.1+1),()) (by omega) ⟨f1,ah,f2⟩
   exact U3 hn.sub
 ·refine W8 (by rw[hi,hl];exact decide_eq_false (by omega)) (U3 (k2 _ _ (W.inl ?_)))
  have en:i=pl.length:=by omega
  subst en
  rw[F5] at hf
  rw[hf] at hq
  refine A0n (b:=x1) ?_
  refine s7 (b:=x1) (v:=prU (0,0,e0S,e0S)) ?_
  exact U3 hq.sub
end
section
open Go.H Go.Proofs
variable {h h0:Heap} {L L' L1 L2 L3 L4 R:List Asn} {Q:Value→Heap→Prop}
abbrev A0h(x:Y6):D0u:=[.int .i64 x.c,.int .i64 x.aD,.bool x.bE,.string x.aX.1,.string x.aX.2.1,.int .i64 x.aX.2.2.1,.bool x.aX.2.2.2.1,.string x.aX.2.2.2.2]
instance:Enc A0h 8:=⟨fun _=>rfl,fun x v hv=>by
 have:(A0h x).all (fun v=>v.oneCell')=true:=rfl
 exact I8.1 this v hv,by decide⟩
abbrev rcU(x:Y6):Int×Int×Bool×B38×B38×Int×Bool×B38×Unit:=(x.c,x.aD,x.bE,x.aX.1,x.aX.2.1,x.aX.2.2.1,x.aX.2.2.2.1,x.aX.2.2.2.2,())
structure A9g(O:Slc→List r8→Asn):Prop where
 app:∀{β:Type} {s:Slc} {os:List r8} {o:r8} {c p:Slc} {elem:TypeId} {b:Nat} {cs:D0t} {zero:D0t} {f:Slc→HM β} {Q':β→Heap→Prop} {L L1 L2 L3:List Asn},
  (∀s',W (O s' (os++[o])::L3) (f s') Q')→(os.length+1)*344≤140737488355328→Has L (O s os) L1→Has L1 (pkB .i64 (c,p,o.pk)) L2→Has L2 (cells b cs) L3→cs=(A0P .i64 (o.conn,pkT o.pk c p,o.close)).toArray→zero.size=28→
  W L (HM.bind (HM.append elem 28 344 zero s 1 (V9 28 ⟨some ⟨b,0,none⟩,1,1⟩)) f) Q'
theorem A4c:A9g (W0 .i64):=⟨fun hw hb hx hy hc he hz=>C9c hw hb hx hy hc he hz (by decide)⟩
def A8S(i:Nat)(c p:Slc)(pk:PkO)(s:Slc)(os:List r8):Asn:=exA fun T:List (Slc×Slc×r8)=>star (pr (T.map (·.2.2)=os∧∃x,T[i]? =some (c,p,x)∧x.pk=pk)) (star (U6 (A0P .i64) 28 s (T.map ouF)) (a7 (ouB .i64) (T.eraseIdx i)))
theorem A9k{i:Nat}{c p s:Slc}{pk:PkO}{os:List r8}:sat h (A8S i c p pk s os::R)↔∃T:List (Slc×Slc×r8),(T.map (·.2.2)=os∧∃x,T[i]? =some (c,p,x)∧x.pk=pk)∧sat h (U6 (A0P .i64) 28 s (T.map ouF)::a7 (ouB .i64) (T.eraseIdx i)::R):=by
 unfold A8S
 rw[sat.bA]
 simp only[sat.aI,sat.bB]
theorem C17{i:Nat}{c p s:Slc}{pk:PkO}{os:List r8}:∀h,sat h (A8S i c p pk s os::pkB .i64 (c,p,pk)::R)→sat h (W0 .i64 s os::R):=fun h hs=>by
 obtain⟨T,⟨rfl,x,hx,rfl⟩,h1⟩:=A9k.1 hs
 refine A2C.2 ⟨T,rfl,?_⟩
 have ah:i<T.length:=(E0.1 hx).1
 have pV:T[i]=(c,p,x):=(E0.1 hx).2
 have eY:=B09 ah
 rw[pV] at eY
 rw[List.eraseIdx_eq_take_drop_succ] at h1
 have h2:sat h (a7 (ouB .i64) (T.take i++(c,p,x)::T.drop (i+1))::U6 (A0P .i64) 28 s (T.map ouF)::R):=l0.2 (h1.re [2,1,0])
 rw[←eY] at h2
 exact h2.re [1,0]
theorem C8v{i:Nat}{c p:Slc}{pk:PkO}:A9g (A8S i c p pk):=⟨fun{β s os o c' p' elem b cs zero f Q' L L1 L2 L3} hw hb hx hy hc he hz h hs=>by
 obtain⟨X,⟨rfl,x,gA,lD⟩,h1⟩:=A9k.1 ((hx.cU hy hc).s hs)
 have ah:i<X.length:=(E0.1 gA).1
 have hlen:(X.map ouF).length=(X.map (·.2.2)).length:=by simp
 refine A9Z (L:=U6 (A0P .i64) 28 s (X.map ouF)::cells b cs::a7 (ouB .i64) (X.eraseIdx i)::pkB .i64 (c',p',o.pk)::L3) (xs:=X.map ouF) (enc:=A0P .i64) ((o.conn,pkT o.pk c' p',o.close):OuT) (fun s'=>?_) (by rw[hlen];exact hb) V1 V1 he hz (by decide) h (h1.re [0,3,1,2])
 intro h' af
 refine hw s' h' (A9k.2 ⟨X++[(c',p',o)],⟨by simp,x,by rw[List.getElem?_append_left ah];exact gA,lD⟩,?_⟩)
 rw[C0,List.eraseIdx_append_of_lt_length ah]
 exact(A5r.2 (((A30 (f:=ouB .i64) (x:=(c',p',o))).2 (af.re [2,0,1])).re [2,0,1])).p1⟩
theorem D0l{β:Type}{s:Slc}{os:List r8}{o:r8}{c p:Slc}{elem:TypeId}{b:Nat}{cs:D0t}{zero:D0t}{f:Slc→HM β}{Q':β→Heap→Prop}
  (hw:∀s',W (A8S os.length c p o.pk s' (os++[o])::L3) (f s') Q')(hb:(os.length+1)*344≤140737488355328)(hx:Has L (W0 .i64 s os) L1:=by repeat first|with_reducible exact V1|apply V3)(hc:Has L1 (cells b cs) L3:=by repeat first|with_reducible exact V1|apply V3)
  (he:cs=(A0P .i64 (o.conn,pkT o.pk c p,o.close)).toArray:=by rfl)(hz:zero.size=28:=by rfl):
  W L (HM.bind (HM.append elem 28 344 zero s 1 (V9 28 ⟨some ⟨b,0,none⟩,1,1⟩)) f) Q':=fun h hs=>by
 obtain⟨X,rfl,h1⟩:=A2C.1 ((hx.then hc).s hs)
 have hlen:(X.map ouF).length=(X.map (·.2.2)).length:=by simp
 refine A9Z (L:=U6 (A0P .i64) 28 s (X.map ouF)::cells b cs::a7 (ouB .i64) X::L3) (xs:=X.map ouF) (enc:=A0P .i64) ((o.conn,pkT o.pk c p,o.close):OuT) (fun s'=>?_) (by rw[hlen];exact hb) V1 V1 he hz (by decide) h (h1.re [0,2,1])
 intro h' af
 have hl:(X.map (·.2.2)).length=X.length:=C1 ..
 refine hw s' h' (A9k.2 ⟨X++[(c,p,o)],⟨by simp,o,by rw[hl];simp,rfl⟩,?_⟩)
 rw[C0,hl,List.eraseIdx_append_of_length_le (D8 _)]
 simpa using af
structure RbP where
 tb:Nat
 sb:Nat
 kb:Nat
 sc:Slc
 so:Slc
 sp:Slc
abbrev rbC(p:RbP)(full:Bool):D0t:=#[at0 p.tb,at9 p.sb,B1H p.kb,.slice p.sc.a p.sc.len p.sc.cap,.bool full,.slice p.so.a p.so.len p.so.cap,.slice p.sp.a p.sp.len p.sp.cap]
abbrev B4R:=Nat→Int→List V7→Asn
abbrev B1E(r:Nat)(full:Bool)(X:B4R)(O:Slc→List r8→Asn)(T:V0)(p:RbP)(R:List Asn):List Asn:=cells r (rbC p full)::O p.so T.outs::U6 Z7 5 p.sp T.aT::U6 A0h 8 p.sc T.b.aB::X p.tb T.b.last T.b.aD::A0J p.sb T.b.aH::A1V p.kb 64 T.b.kept::R
abbrev rbL(r:Nat)(full:Bool)(O:Slc→List r8→Asn)(T:V0)(p:RbP)(R:List Asn):List Asn:=cells r (rbC p full)::O p.so T.outs::U6 Z7 5 p.sp T.aT::U6 A0h 8 p.sc T.b.aB::A0x p.tb T.b.last T.b.aD::A0J p.sb T.b.aH::A1V p.kb 64 T.b.kept::R
def rbX(r:Nat)(full:Bool)(X:B4R)(O:Slc→List r8→Asn)(T:V0):Asn:=exA fun p:RbP=>A0Y [cells r (rbC p full),O p.so T.outs,U6 Z7 5 p.sp T.aT,U6 A0h 8 p.sc T.b.aB,X p.tb T.b.last T.b.aD,A0J p.sb T.b.aH,A1V p.kb 64 T.b.kept]
abbrev rbA(r:Nat)(full:Bool)(O:Slc→List r8→Asn)(T:V0):Asn:=rbX r full A0x O T
theorem A0D{r:Nat}{full:Bool}{X:B4R}{O:Slc→List r8→Asn}{T:V0}:sat h (rbX r full X O T::R)↔∃p:RbP,sat h (B1E r full X O T p R):=by
 unfold rbX
 rw[sat.bA]
 simp only[sat.bV]
 rfl
theorem A0T{r:Nat}{full:Bool}{O:Slc→List r8→Asn}{T:V0}:sat h (rbA r full O T::R)↔∃p:RbP,sat h (rbL r full O T p R):=A0D
theorem W.dX{α:Type}{m:HM α}{Q':α→Heap→Prop}{r:Nat}{full:Bool}{X:B4R}{O:Slc→List r8→Asn}{M1 M2 M3 M4 M5 M6 M7:List Asn}(T:V0)(p:RbP)(hw:W (rbX r full X O T::M7) m Q')
  (h1:Has L (cells r (rbC p full)) M1:=by repeat first|with_reducible exact V1|apply V3)(h2:Has M1 (O p.so T.outs) M2:=by repeat first|with_reducible exact V1|apply V3)(h3:Has M2 (U6 Z7 5 p.sp T.aT) M3:=by repeat first|with_reducible exact V1|apply V3)(h4:Has M3 (U6 A0h 8 p.sc T.b.aB) M4:=by repeat first|with_reducible exact V1|apply V3)(h5:Has M4 (X p.tb T.b.last T.b.aD) M5:=by repeat first|with_reducible exact V1|apply V3)(h6:Has M5 (A0J p.sb T.b.aH) M6:=by repeat first|with_reducible exact V1|apply V3)(h7:Has M6 (A1V p.kb 64 T.b.kept) M7:=by repeat first|with_reducible exact V1|apply V3):W L m Q':=fun h hs=>
 hw h (A0D.2 ⟨p,(Sub.cons h1 (Sub.cons h2 (Sub.cons h3 (Sub.cons h4 (Sub.cons h5 (Sub.cons h6 (Sub.cons h7 Sub.rfl))))))).s hs⟩)
theorem W.rb{α:Type}{m:HM α}{Q':α→Heap→Prop}{r:Nat}{full:Bool}{O:Slc→List r8→Asn}{M1 M2 M3 M4 M5 M6 M7:List Asn}(T:V0)(p:RbP)(hw:W (rbA r full O T::M7) m Q')
  (h1:Has L (cells r (rbC p full)) M1:=by repeat first|with_reducible exact V1|apply V3)(h2:Has M1 (O p.so T.outs) M2:=by repeat first|with_reducible exact V1|apply V3)(h3:Has M2 (U6 Z7 5 p.sp T.aT) M3:=by repeat first|with_reducible exact V1|apply V3)(h4:Has M3 (U6 A0h 8 p.sc T.b.aB) M4:=by repeat first|with_reducible exact V1|apply V3)(h5:Has M4 (A0x p.tb T.b.last T.b.aD) M5:=by repeat first|with_reducible exact V1|apply V3)(h6:Has M5 (A0J p.sb T.b.aH) M6:=by repeat first|with_reducible exact V1|apply V3)(h7:Has M6 (A1V p.kb 64 T.b.kept) M7:=by repeat first|with_reducible exact V1|apply V3):W L m Q':=fun h hs=>
 hw h (A0D.2 ⟨p,(Sub.cons h1 (Sub.cons h2 (Sub.cons h3 (Sub.cons h4 (Sub.cons h5 (Sub.cons h6 (Sub.cons h7 Sub.rfl))))))).s hs⟩)
theorem At.dX{q:Heap→Prop}{r:Nat}{full:Bool}{X:B4R}{O:Slc→List r8→Asn}{M1 M2 M3 M4 M5 M6 M7:List Asn}(T:V0)(p:RbP)(hw:At (rbX r full X O T::M7) q)
  (h1:Has L (cells r (rbC p full)) M1:=by repeat first|with_reducible exact V1|apply V3)(h2:Has M1 (O p.so T.outs) M2:=by repeat first|with_reducible exact V1|apply V3)(h3:Has M2 (U6 Z7 5 p.sp T.aT) M3:=by repeat first|with_reducible exact V1|apply V3)(h4:Has M3 (U6 A0h 8 p.sc T.b.aB) M4:=by repeat first|with_reducible exact V1|apply V3)(h5:Has M4 (X p.tb T.b.last T.b.aD) M5:=by repeat first|with_reducible exact V1|apply V3)(h6:Has M5 (A0J p.sb T.b.aH) M6:=by repeat first|with_reducible exact V1|apply V3)(h7:Has M6 (A1V p.kb 64 T.b.kept) M7:=by repeat first|with_reducible exact V1|apply V3):At L q:=fun h hs=>
 hw h (A0D.2 ⟨p,(Sub.cons h1 (Sub.cons h2 (Sub.cons h3 (Sub.cons h4 (Sub.cons h5 (Sub.cons h6 (Sub.cons h7 Sub.rfl))))))).s hs⟩)
theorem At.rb{q:Heap→Prop}{r:Nat}{full:Bool}{O:Slc→List r8→Asn}{M1 M2 M3 M4 M5 M6 M7:List Asn}(T:V0)(p:RbP)(hw:At (rbA r full O T::M7) q)
  (h1:Has L (cells r (rbC p full)) M1:=by repeat first|with_reducible exact V1|apply V3)(h2:Has M1 (O p.so T.outs) M2:=by repeat first|with_reducible exact V1|apply V3)(h3:Has M2 (U6 Z7 5 p.sp T.aT) M3:=by repeat first|with_reducible exact V1|apply V3)(h4:Has M3 (U6 A0h 8 p.sc T.b.aB) M4:=by repeat first|with_reducible exact V1|apply V3)(h5:Has M4 (A0x p.tb T.b.last T.b.aD) M5:=by repeat first|with_reducible exact V1|apply V3)(h6:Has M5 (A0J p.sb T.b.aH) M6:=by repeat first|with_reducible exact V1|apply V3)(h7:Has M6 (A1V p.kb 64 T.b.kept) M7:=by repeat first|with_reducible exact V1|apply V3):At L q:=fun h hs=>
 hw h (A0D.2 ⟨p,(Sub.cons h1 (Sub.cons h2 (Sub.cons h3 (Sub.cons h4 (Sub.cons h5 (Sub.cons h6 (Sub.cons h7 Sub.rfl))))))).s hs⟩)
theorem B4U{r:Nat}{full:Bool}{X:B4R}{O:Slc→List r8→Asn}{T:V0}{c:Int}{o:PkO}{ci pi:Slc}(hO:A9g O)(hb:T.outs.length≤100000000)(hq:At (rbX r full X O (A0A ⟨c,o,false⟩ T)::L2) (Q (.tuple #[])))
  (hx:Has L (rbX r full X O T) L1:=by repeat first|with_reducible exact V1|apply V3)(hy:Has L1 (pkB .i64 (ci,pi,o)) L2:=by repeat first|with_reducible exact V1|apply V3):FW prog 146 #[at0 r,.int .i64 c,A2z .i64 (pkT o ci pi)] L Q:=by
 refine fun h hs=>A6R (some ⟨r,0,none⟩) c (pkT o ci pi) h Q ((?_:W (rbX r full X O T::pkB .i64 (ci,pi,o)::L2) _ _) h ((hx.then hy).s hs))
 clear hs h hx hy
 have dx:(T.outs.length+1)*344≤140737488355328:=by omega
 delta B0D az bn g2 kc nn nw pu rq sx ve vi vs vz w10 w11 w12 w13 w14 w15 w16 w17 w18 w19 w20 w21 w22 w23 w24 w25 w5 w6 w7 w8 w9
 refine Y2 fun x1=>?_
 refine W5 ?_
 refine A2j (g:=fun p R=>B1E r full X O T p R) (fun h R=>A0D.1) fun p=>?_
 refine j4 (b:=r) (i:=5) (v:=p.so) ?_
 refine s7 (b:=x1) (v:=pkT o ci pi) ?_
 refine Y2 fun x5=>?_
 refine j4 (b:=r) (i:=5) (v:=p.so) ?_
 refine A1p ?_ rfl
 refine hO.app (s:=p.so) (os:=T.outs) (o:=⟨c,o,false⟩) (c:=ci) (p:=pi) (b:=x5) (fun s'=>?_) dx (by repeat first|with_reducible exact V1|apply V3) (by repeat first|with_reducible exact V1|apply V3) (by repeat first|with_reducible exact V1|apply V3) (by rfl) (by rfl)
 refine W5 ?_
 refine A4r (b:=r) (i:=5) (cs':=rbC ⟨p.tb,p.sb,p.kb,p.sc,s',p.sp⟩ full) ?_
 refine W.dX (X:=X) (O:=O) (A0A ⟨c,o,false⟩ T) ⟨p.tb,p.sb,p.kb,p.sc,s',p.sp⟩ ?_
 exact U3 hq.sub
theorem B8X{r:Nat}{full:Bool}{X:B4R}{O:Slc→List r8→Asn}{T:V0}{c:Int}{o:PkO}{ci pi:Slc}(hO:A9g O)(hb:T.outs.length≤100000000)(hq:At (rbX r full X O (A0A ⟨c,o,true⟩ T)::L2) (Q (.tuple #[])))
  (hx:Has L (rbX r full X O T) L1:=by repeat first|with_reducible exact V1|apply V3)(hy:Has L1 (pkB .i64 (ci,pi,o)) L2:=by repeat first|with_reducible exact V1|apply V3):FW prog 93 #[at0 r,.int .i64 c,A2z .i64 (pkT o ci pi)] L Q:=by
 refine fun h hs=>B2M (some ⟨r,0,none⟩) c (pkT o ci pi) h Q ((?_:W (rbX r full X O T::pkB .i64 (ci,pi,o)::L2) _ _) h ((hx.then hy).s hs))
 clear hs h hx hy
 have dx:(T.outs.length+1)*344≤140737488355328:=by omega
 delta B5o az bn g2 kc nn nw pu rq sx ve vi vs vz w10 w11 w12 w13 w14 w15 w16 w17 w18 w19 w20 w21 w22 w23 w24 w25 w5 w6 w7 w8 w9
 refine Y2 fun x1=>?_
 refine W5 ?_
 refine A2j (g:=fun p R=>B1E r full X O T p R) (fun h R=>A0D.1) fun p=>?_
 refine j4 (b:=r) (i:=5) (v:=p.so) ?_
 refine s7 (b:=x1) (v:=pkT o ci pi) ?_
 refine Y2 fun x5=>?_
 refine j4 (b:=r) (i:=5) (v:=p.so) ?_
 refine A1p ?_ rfl
 refine hO.app (s:=p.so) (os:=T.outs) (o:=⟨c,o,true⟩) (c:=ci) (p:=pi) (b:=x5) (fun s'=>?_) dx (by repeat first|with_reducible exact V1|apply V3) (by repeat first|with_reducible exact V1|apply V3) (by repeat first|with_reducible exact V1|apply V3) (by rfl) (by rfl)
 refine W5 ?_
 refine A4r (b:=r) (i:=5) (cs':=rbC ⟨p.tb,p.sb,p.kb,p.sc,s',p.sp⟩ full) ?_
 refine W.dX (X:=X) (O:=O) (A0A ⟨c,o,true⟩ T) ⟨p.tb,p.sb,p.kb,p.sc,s',p.sp⟩ ?_
 exact U3 hq.sub
theorem C5F{r:Nat}{full:Bool}{X:B4R}{T:V0}{c:Int}{o:PkO}{ci pi:Slc}(hb:T.outs.length≤100000000)(hq:At (rbX r full X (A8S T.outs.length ci pi o) (A0A ⟨c,o,false⟩ T)::L1) (Q (.tuple #[])))
  (hx:Has L (rbX r full X (W0 .i64) T) L1:=by repeat first|with_reducible exact V1|apply V3):FW prog 146 #[at0 r,.int .i64 c,A2z .i64 (pkT o ci pi)] L Q:=by
 refine fun h hs=>A6R (some ⟨r,0,none⟩) c (pkT o ci pi) h Q ((?_:W (rbX r full X (W0 .i64) T::L1) _ _) h (hx.s hs))
 clear hs h hx
 have dx:(T.outs.length+1)*344≤140737488355328:=by omega
 delta B0D az bn g2 kc nn nw pu rq sx ve vi vs vz w10 w11 w12 w13 w14 w15 w16 w17 w18 w19 w20 w21 w22 w23 w24 w25 w5 w6 w7 w8 w9
 refine Y2 fun x1=>?_
 refine W5 ?_
 refine A2j (g:=fun p R=>B1E r full X (W0 .i64) T p R) (fun h R=>A0D.1) fun p=>?_
 refine j4 (b:=r) (i:=5) (v:=p.so) ?_
 refine s7 (b:=x1) (v:=pkT o ci pi) ?_
 refine Y2 fun x5=>?_
 refine j4 (b:=r) (i:=5) (v:=p.so) ?_
 refine A1p ?_ rfl
 refine D0l (s:=p.so) (os:=T.outs) (o:=⟨c,o,false⟩) (c:=ci) (p:=pi) (b:=x5) (fun s'=>?_) dx
 refine W5 ?_
 refine A4r (b:=r) (i:=5) (cs':=rbC ⟨p.tb,p.sb,p.kb,p.sc,s',p.sp⟩ full) ?_
 refine W.dX (X:=X) (O:=A8S T.outs.length ci pi o) (A0A ⟨c,o,false⟩ T) ⟨p.tb,p.sb,p.kb,p.sc,s',p.sp⟩ ?_
 exact U3 hq.sub
end
section
open Go.H Go.Proofs
variable {h h0:Heap} {L L' L1 L2 L3 L4 R:List Asn} {Q:Value→Heap→Prop}
theorem C3i{a b:Int}(hq:At L (Q (.int .i64 (min a b)))):FW prog 138 #[.int .i64 a,.int .i64 b] L Q:=by
 refine fun h hs=>B2N a b h Q ((?_:W L _ _) h hs)
 clear hs h
 delta B5p ie pu
 refine A0l (fun g=>U3 ?_) (fun g=>U3 ?_)
 ·have g:a<b:=by simpa using g
  rw[show min a b=a from by omega] at hq
  exact hq
 ·have g:¬a<b:=by simpa using g
  rw[show min a b=b from by omega] at hq
  exact hq
def atC(c:Int)(l:List Y6):Option Nat:=l.findIdx? fun x=>decide (x.c=c)
theorem B2s{c:Int}{l:List Y6}:atC c l=none↔A1E c l=none:=by
 unfold atC A1E
 rw[O1,E8]
 simp
theorem C1o{c:Int}{l:List Y6}{i:Nat}(h:atC c l=some i):∃x,l[i]? =some x∧A1E c l=some x∧x.c=c:=by
 obtain⟨ah,hp,hb⟩:=J1.1 h
 refine⟨l[i],B0 ah,?_,by simpa using hp⟩
 unfold A1E
 rw[List.find?_eq_some_iff_getElem]
 exact⟨hp,i,ah,rfl,fun j hj=>by simpa using hb j hj⟩
theorem B5G{r:Nat}{full:Bool}{X:B4R}{O:Slc→List r8→Asn}{T:V0}{c:Int}(bd:T.b.aB.length≤1000000)(hq:At (rbX r full X O T::L1) (Q (.int .i64 (match atC c T.b.aB with|some i=>(i:Int)|none=> -1))))(hx:Has L (rbX r full X O T) L1:=by repeat first|with_reducible exact V1|apply V3):
  FW prog 89 #[at0 r,.int .i64 c] L Q:=by
 refine fun h hs=>B2O (some ⟨r,0,none⟩) c h Q ((?_:W (rbX r full X O T::L1) _ _) h (hx.s hs))
 clear hs h hx
 delta B5q bn ie ix kc ki nn pu wi
 refine A2j (g:=fun p R=>B1E r full X O T p R) (fun h R=>A0D.1) fun p=>?_
 refine Z1 (X5 (enc:=A0h) (size:=8) (s:=p.sc) (xs:=T.b.aB)) fun hl=>?_
 refine W.loop (γ:=Nat) (fun g s=>s.1=(g:Int)∧g≤T.b.aB.length∧∀j (hj:j<T.b.aB.length),j<g→T.b.aB[j].c≠c) (fun g s=>B1E r full X O T p L1) (fun g=>T.b.aB.length-g) 0 ⟨rfl,D1 _,fun j _ hj=>absurd hj (Nat.not_lt_zero j)⟩ Sub.rfl ?_
 rintro i s ⟨hi,cn,hn⟩ K k1 k2
 refine W5 ?_
 refine j4 (b:=r) (i:=3) (v:=p.sc) ?_
 by_cases ah:i<T.b.aB.length
 ·refine Y4 (by rw[hi,hl];exact decide_eq_true (by omega)) ?_
  have aY:T.b.aB[i]? =some T.b.aB[i]:=B0 ah
  refine W5 ?_
  refine j4 (b:=r) (i:=3) (v:=p.sc) ?_
  refine j5 (enc:=A0h) (xs:=T.b.aB) (i:=i) ah (fun a ha=>?_) (he:=hi)
  refine A4z (k:=0) (x:=T.b.aB[i]) (v:=T.b.aB[i].c) ha aY ?_
  by_cases hc:T.b.aB[i].c=c
  ·refine Y4 (by simpa using hc) (U3 (k2 _ _ (W.inr (U3 ?_))))
   have e:atC c T.b.aB=some i:=J1.2 ⟨ah,by simpa using hc,fun j hj=>by simpa using hn j (by omega) hj⟩
   rw[e] at hq
   refine At.dX (X:=X) (O:=O) T p ?_
   rw[hi]
   exact hq.sub
  ·refine W8 (by simpa using hc) ?_
   have gW:=k1 (i+1) (IntKind.wrap .i64 (s.1+1),()) (by omega) ⟨by simp only[hi];rw[V8 (by omega) (by omega)];rfl,ah,fun j hj xI=>by
    rcases Nat.lt_succ_iff_lt_or_eq.1 xI with h|h
    ·exact hn j hj h
    ·subst h;exact hc⟩
   exact U3 gW.sub
 ·refine W8 (by rw[hi,hl];exact decide_eq_false (by omega)) (U3 (k2 _ _ (W.inl (U3 ?_))))
  have e:atC c T.b.aB=none:=B2s.2 (E8.2 fun x hx=>by
   obtain⟨j,hj,rfl⟩:=List.getElem_of_mem hx
   simpa using hn j hj (by omega))
  rw[e] at hq
  refine At.dX (X:=X) (O:=O) T p ?_
  exact hq.sub
theorem B1D{r:Nat}{full full0:Bool}{T:V0}(hq:At (rbA r full (W0 .i64) ⟨T.b,[],[]⟩::L1) (Q (.tuple #[])))(hx:Has L (rbA r full0 (W0 .i64) T) L1:=by repeat first|with_reducible exact V1|apply V3):
  FW prog 86 #[at0 r,.bool full] L Q:=by
 refine fun h hs=>B1k (some ⟨r,0,none⟩) full h Q ((?_:W (rbA r full0 (W0 .i64) T::L1) _ _) h (hx.s hs))
 clear hs h hx
 delta B3L nn pu sx vz
 refine A2j (g:=fun p R=>rbL r full0 (W0 .i64) T p R) (fun h R=>A0T.1) fun p=>?_
 refine W5 ?_
 refine A4r (b:=r) (i:=4) (cs':=rbC p full) ?_
 refine W5 ?_
 refine A4r (b:=r) (i:=5) (cs':=rbC ⟨p.tb,p.sb,p.kb,p.sc,⟨none,0,0⟩,p.sp⟩ full) ?_
 refine W5 ?_
 refine A4r (b:=r) (i:=6) (cs':=rbC ⟨p.tb,p.sb,p.kb,p.sc,⟨none,0,0⟩,⟨none,0,0⟩⟩ full) ?_
 refine A4V Z7 5 ?_
 refine W.sub (L':=cells r (rbC ⟨p.tb,p.sb,p.kb,p.sc,⟨none,0,0⟩,⟨none,0,0⟩⟩ full)::U6 Z7 5 ⟨none,0,0⟩ []::U6 A0h 8 p.sc T.b.aB::A0x p.tb T.b.last T.b.aD::A0J p.sb T.b.aH::A1V p.kb 64 T.b.kept::L1) ?_
 refine U3 (fun h hs=>?_)
 have h1:=B1L (k:=.i64) hs
 exact hq h (A0T.2 ⟨⟨p.tb,p.sb,p.kb,p.sc,⟨none,0,0⟩,⟨none,0,0⟩⟩,h1.re [1,0,2,3,4,5,6]⟩)
theorem C1H{l:List Y6}{x:Y6}{id:Int}{ps:List PkO}:A1U (l++[x]) id ps=A1U l id ps++(if x.aD=id then ps.map fun p=>⟨x.c,p,false⟩ else[]):=by
 unfold A1U
 rw[F2,I6]
 by_cases e:x.aD=id
 ·rw[if_pos e,G9 (by simpa using e)];simp
 ·rw[if_neg e,F9 (by simpa using e)];simp
abbrev toC(c:Int)(z:Slc×Slc×PkO):r8:=⟨c,z.2.2,false⟩
theorem A5b{r:Nat}{full:Bool}{X:B4R}{O:Slc→List r8→Asn}{T:V0}{id:Int}{S:Slc}{ps:List PkO}(hO:A9g O)(hu:(T.b.aB.filter fun x=>decide (x.aD=id)).length≤1)(hb:T.outs.length+ps.length≤100000000)(bd:T.b.aB.length≤1000000)
  (hq:At (rbX r full X O (q7 id ps T)::L2) (Q (.tuple #[])))(hx:Has L (rbX r full X O T) L1:=by repeat first|with_reducible exact V1|apply V3)(hy:Has L1 (q8 .i64 S ps) L2:=by repeat first|with_reducible exact V1|apply V3):
  FW prog 140 #[at0 r,.int .i64 id,.slice S.a S.len S.cap] L Q:=by
 refine fun h hs=>A9I (some ⟨r,0,none⟩) id S h Q ((?_:W (rbX r full X O T::q8 .i64 S ps::L2) _ _) h ((hx.then hy).s hs))
 clear hs h hx hy
 delta A93 bn cx g2 ie ix kc ki nn pu vi wi
 refine W.loop (γ:=Nat) (fun g s=>s.1=(g:Int)∧g≤T.b.aB.length) (fun g s=>rbX r full X O ⟨T.b,T.outs++A1U (T.b.aB.take g) id ps,T.aT⟩::C5J ((T.b.aB.take g).filter fun x=>decide (x.aD=id)).isEmpty (q8 .i64 S ps) L2) (fun g=>T.b.aB.length-g) 0 ⟨rfl,D1 _⟩ ?_ ?_
 ·have e:(⟨T.b,T.outs++A1U (T.b.aB.take 0) id ps,T.aT⟩:V0)=T:=by
   rw[List.take_zero]
   show V0.mk T.b (T.outs++[]) T.aT=T
   rw[C2]
  rw[e]
  show Sub _ (rbX r full X O T::q8 .i64 S ps::L2)
  repeat(first|with_reducible exact T7|with_reducible exact T8|refine U0 (by repeat first|with_reducible exact V1|apply V3) ?_|refine U1 ?_)
 rintro i s ⟨hi,cn⟩ K k1 k2
 refine W5 ?_
 refine A2j (g:=fun p R=>B1E r full X O ⟨T.b,T.outs++A1U (T.b.aB.take i) id ps,T.aT⟩ p R) (fun h R=>A0D.1) fun p=>?_
 refine Z1 (X5 (enc:=A0h) (size:=8) (s:=p.sc) (xs:=T.b.aB)) fun hl=>?_
 refine j4 (b:=r) (i:=3) (v:=p.sc) ?_
 by_cases ah:i<T.b.aB.length
 ·refine Y4 (by rw[hi,hl];exact decide_eq_true (by omega)) ?_
  have aY:T.b.aB[i]? =some T.b.aB[i]:=B0 ah
  have aV:T.b.aB.take (i+1)=T.b.aB.take i++[T.b.aB[i]]:=C4 ah
  have eY:=B09 ah
  have hn:=k1 (i+1) (IntKind.wrap .i64 (s.1+1),()) (by omega) ⟨by simp only[hi];rw[V8 (by omega) (by omega)];rfl,ah⟩
  rw[aV,C1H,F2] at hn
  clear k1 k2
  refine X3 (W5 ?_)
  refine X3 (j4 (b:=r) (i:=3) (v:=p.sc) ?_)
  refine X3 (j5 (enc:=A0h) (xs:=T.b.aB) (i:=i) ah (fun a ha=>?_) (he:=hi))
  refine X3 (A4z (k:=1) (x:=T.b.aB[i]) (v:=T.b.aB[i].aD) ha aY ?_)
  by_cases dU:T.b.aB[i].aD=id
  ·have dq:(T.b.aB.take i).filter (fun x=>decide (x.aD=id))=[]:=by
    rw[eY,F2,G9 (by simpa using dU),B5,B7] at hu
    exact K6.1 (by omega)
   have e0:A1U (T.b.aB.take i) id ps=[]:=by unfold A1U;rw[dq];rfl
   rw[if_pos dU,e0,F0,dq,F0,G9 (by simpa using dU)] at hn
   refine o5 (by simp[dU]) ?_
   rw[dq,e0]
   refine W.dX (X:=X) (O:=O) ⟨T.b,T.outs++[],T.aT⟩ p ?_
   refine B9S (fun h R=>A7t.1) (fun PT uD=>?_) (hx:=(by repeat first|with_reducible exact V1|apply V3:Has (rbX r full X O ⟨T.b,T.outs++[],T.aT⟩::q8 .i64 S ps::L2) _ _))
   subst uD
   refine Z1 (X5 (enc:=W9 .i64) (size:=26) (s:=S) (xs:=PT.map pkF)) fun fi=>?_
   rw[C1] at fi hb
   refine X3 (B0l PT.length (fun k s=>s.1=(k:Int)) (fun k _=>rbX r full X O ⟨T.b,T.outs++(PT.take k).map (toC T.b.aB[i].c),T.aT⟩::U6 (W9 .i64) 26 S (PT.map pkF)::a7 (pkB .i64) (PT.drop k)::L2) rfl ?_ (fun k s hk hI=>by rw[hI,fi];exact G0.2 (by omega)) (fun s2 hI K2 iz=>?_) (fun k s2 bH hI K2 jK iz=>?_))
   ·show Sub _ (rbX r full X O ⟨T.b,T.outs++[],T.aT⟩::U6 (W9 .i64) 26 S (PT.map pkF)::a7 (pkB .i64) PT::L2)
    repeat(first|with_reducible exact T7|with_reducible exact T8|refine U0 (by repeat first|with_reducible exact V1|apply V3) ?_|refine U1 ?_)
   ·refine U3 (iz _ _ (b7 (U3 ?_)))
    have e4:(PT.take PT.length).map (toC T.b.aB[i].c)=(PT.map (·.2.2)).map fun p=>⟨T.b.aB[i].c,p,false⟩:=by rw[F5,F1];rfl
    rw[e4]
    refine At.sub hn ?_
    show Sub _ (_::L2)
    repeat(first|with_reducible exact T7|with_reducible exact T8|refine U0 (by repeat first|with_reducible exact V1|apply V3) ?_|refine U1 ?_)
   ·have hk:(PT.map pkF)[k]? =some (pkF PT[k]):=by simp[bH]
    refine W5 ?_
    refine A2j (g:=fun p R=>B1E r full X O ⟨T.b,T.outs++(PT.take k).map (toC T.b.aB[i].c),T.aT⟩ p R) (fun h R=>A0D.1) fun p2=>?_
    refine j4 (b:=r) (i:=3) (v:=p2.sc) ?_
    refine j5 (enc:=A0h) (xs:=T.b.aB) (i:=i) ah (fun a ha=>?_) (he:=hi)
    refine A4z (k:=0) (x:=T.b.aB[i]) (v:=T.b.aB[i].c) ha aY ?_
    refine W.dX (X:=X) (O:=O) ⟨T.b,T.outs++(PT.take k).map (toC T.b.aB[i].c),T.aT⟩ p2 ?_
    refine j5 (enc:=W9 .i64) (xs:=PT.map pkF) (i:=k) (by simpa using bH) (fun a ha=>?_) (he:=hI)
    refine B3z (x:=pkF PT[k]) (v:=pkF PT[k]) ha hk ?_
    rw[E1 bH]
    refine C2Z (fun h R=>l5.1) ?_
    refine Z3 (B4U (X:=X) (O:=O) (T:=⟨T.b,T.outs++(PT.take k).map (toC T.b.aB[i].c),T.aT⟩) (c:=T.b.aB[i].c) (o:=PT[k].2.2) (ci:=PT[k].1) (pi:=PT[k].2.1) hO (by simp only[B5,C1,E6];omega) (At.bD ?_))
    have kV:=jK (IntKind.wrap .i64 (s2.1+1),()) (by simp only[hI];rw[V8 (by omega) (by omega)];rfl)
    have e4:T.outs++(PT.take (k+1)).map (toC T.b.aB[i].c)=(T.outs++(PT.take k).map (toC T.b.aB[i].c))++[⟨T.b.aB[i].c,PT[k].2.2,false⟩]:=by
     rw[C4 bH,C0,←D6];rfl
    rw[e4] at kV
    exact U3 kV.sub
  ·rw[if_neg dU,C2,F9 (by simpa using dU),J5,C2] at hn
   refine A1o (by simpa using dU) (b7 (U3 ?_))
   refine At.dX (X:=X) (O:=O) ⟨T.b,T.outs++A1U (T.b.aB.take i) id ps,T.aT⟩ p ?_
   refine At.sub hn ?_
   repeat(first|with_reducible exact T7|with_reducible exact T8|refine U0 (by repeat first|with_reducible exact V1|apply V3) ?_|refine U1 ?_)
 ·refine W8 (by rw[hi,hl];exact decide_eq_false (by omega)) (U3 (k2 _ _ (U3 ?_)))
  rw[D4 (by omega)]
  refine At.dX (X:=X) (O:=O) (q7 id ps T) p ?_
  exact At.sub hq (Sub.cons V1 B7N)
end
section
open Go.H Go.Proofs
variable {h h0:Heap} {L L' L1 L2 L3 L4 R:List Asn} {Q:Value→Heap→Prop}
theorem C8r{b:Nat}{K:List l3}{m:l3}(hL:K.length≤64)(hsz:m.1.size≤9223372036854775800)(hq:At (A1V b 64 (B0x 64 K m).2::L1) (Q (.int .i64 (B0x 64 K m).1)))(hx:Has L (A1V b 64 K) L1:=by repeat first|with_reducible exact V1|apply V3):FW prog 136 #[B1H b,vM m] L Q:=fun h hs=>C4j (hx.s hs) hL hsz fun h' af=>hq h' af
theorem C8t{b:Nat}{K:List l3}{f:B38}(hL:K.length≤64)(hk:∀m∈K,m.1.size≤256)(hsz:f.size≤9223372036854775800)(hq:∀S:Slc,At (U6 A0i 3 S (A6k K f)::A1V b 64 K::L1) (Q (.slice S.a S.len S.cap)))(hx:Has L (A1V b 64 K) L1:=by repeat first|with_reducible exact V1|apply V3):FW prog 197 #[B1H b,.string f] L Q:=fun h hs=>C4n (hx.s hs) hL hk hsz fun S h' af=>hq S h' af
theorem C4m{b:Nat}{E:List Ent}{n:B38}(hg:∀x∈E,x.2.1.size≤9223372036854775800)(hsz:n.size≤9223372036854775800)(hl:E.length≤10000)(hq:∀S:Slc,At (U6 Z9 3 S (E.filter fun x=>Y1 x.2.1 n)::A0J b E::L1) (Q (.slice S.a S.len S.cap)))(hx:Has L (A0J b E) L1:=by repeat first|with_reducible exact V1|apply V3):FW prog 137 #[at9 b,.string n] L Q:=fun h hs=>B87 hg hsz hl (hx.s hs) fun S h' af=>hq S h' af
theorem C0p{b:Nat}{E:List Ent}{id:Int}(hl:E.length≤10000)(hq:At (A0J b (A1l id E)::L1) (Q (.int .i64 ((A6i id E).length:Nat))))(hx:Has L (A0J b E) L1:=by repeat first|with_reducible exact V1|apply V3):FW prog 134 #[at9 b,.int .i64 id] L Q:=fun h hs=>C14 hl (hx.s hs) fun h' af=>hq h' af
theorem C3n{s:B38}(hsz:s.size≤9223372036854775800)(hq:At L (Q (.int .i64 (A2X s)))):FW prog 190 #[.string s] L Q:=fun h hs=>A4u hs hsz fun h' af=>hq h' af
structure Szs(B:Z0):Prop where
 dF:B.aH.Pairwise fun a b=>a.1≤b.1
 sub:∀e∈B.aH,e.2.1.size≤9223372036854775800
 kept:∀m∈B.kept,m.1.size≤256
 k64:B.kept.length≤64
 aB:B.aB.length≤1000000
 aD:B.aD.length≤1000
 nd:(B.aB.map (·.c)).Nodup
 wl:∀x∈B.aB,x.aX.1.size≤9223372036854775800
theorem C6q{k:Int}{A:List V7}:(A4O k A).2.length≤A.length:=by
 unfold A4O
 split
 ·exact D8 _
 ·split
  ·exact D8 _
  ·split
   ·unfold X7;rw[C1];exact D8 _
   ·exact D3 _ _
theorem Szs.withS{B:Z0}(h:Szs B){k:Int}{f:V7→V7}:Szs ⟨B.last,X7 k f B.aD,B.aH,B.kept,B.aB⟩:=⟨h.dF,h.sub,h.kept,h.k64,h.aB,by show(X7 k f B.aD).length≤1000;unfold X7;rw[C1];exact h.aD,h.nd,h.wl⟩
theorem Szs.ended{B B2:Z0}{k:Int}{q:Y6→Bool}(h:Szs B)(e:B2=⟨B.last,(A4O k B.aD).2,if(A4O k B.aD).1=true then A1l k B.aH else B.aH,B.kept,B.aB.filter q⟩):Szs B2:=by
 subst e
 have hd:(if(A4O k B.aD).1=true then A1l k B.aH else B.aH).Sublist B.aH:=by
  split
  ·exact I4
  ·exact G5 _
 exact⟨h.dF.sublist hd,fun e he=>h.sub e (hd.subset he),h.kept,h.k64,C7 (D3 _ _) h.aB,C7 C6q h.aD,h.nd.sublist (I4.map _),fun x hx=>h.wl x (D9.1 hx).1⟩
def A8k(p:Option Int)(l:List Ent):Option Int:=match l.getLast? with
 |some e=>some e.1
 |none=>p
theorem C2k{p:Option Int}{e:Ent}{l:List Ent}:A8k p (e::l)=A8k (some e.1) l:=by
 unfold A8k
 cases l with
 |nil=>rfl
 |cons x l=>
  rw[List.getLast?_cons_cons]
  cases hg:(x::l).getLast? with
  |none=>simp at hg
  |some z=>rfl
theorem B3g:∀(p:Option Int) (l:List Ent) (e:Ent),A3v p (l++[e])=A3v p l++(if A8k p l=some e.1 then[] else[e.1])
 |p,[],e=>by
  have h1:A8k p []=p:=rfl
  rw[h1,F0]
  unfold A3v A3v
  rfl
 |p,x::l,e=>by
  rw[G3,C2k]
  unfold A3v
  split
  ·rename_i hp
   rw[B3g p l e,hp]
  ·rw[B3g _ l e];rfl
def B5R(id:Int)(q:Int)(e:Ent):Int:=if e.1=id∧q<e.2.2 then e.2.2 else q
theorem B5Q{id:Int}:∀(l:List Ent) (q:Int),l.foldl (B5R id) q=(l.filter fun e=>decide (e.1=id)).foldl (fun q e=>max q e.2.2) q
 |[],_=>rfl
 |e::l,q=>by
  rw[H3,B5Q l]
  unfold B5R
  by_cases he:e.1=id
  ·rw[G9 (by simpa using he),H3]
   congr 1
   by_cases h2:q<e.2.2
   ·rw[if_pos ⟨he,h2⟩];omega
   ·rw[if_neg (fun h=>h2 h.2)];omega
  ·rw[F9 (by simpa using he),if_neg (fun h=>he h.1)]
theorem C5M{M:List Ent}{i:Nat}{id:Int}(hp:(M.take i).filter (fun e=>decide (e.1=id))=[]):(M.drop i).foldl (B5R id) 0=A2u M id:=by
 rw[B5Q]
 unfold A2u
 have e:M.filter (fun e=>decide (e.1=id))=(M.drop i).filter fun e=>decide (e.1=id):=by
  conv=>lhs;rw[←J3 i M]
  rw[F2,hp,F0]
 rw[e]
theorem C3j{r:Nat}{full:Bool}{O:Slc→List r8→Asn}{T:V0}{m:MsT}(hO:A9g O)(ag:j7 T.b)(hz:Szs T.b)(hb:T.outs.length≤50000000)(hm:m.1.size≤9223372036854775800)
  (hq:At (rbA r full O (A0p m T)::L1) (Q (.tuple #[])))(hx:Has L (rbA r full O T) L1:=by repeat first|with_reducible exact V1|apply V3):
  FW prog 88 #[at0 r,vMs m] L Q:=by
 refine fun h hs=>B2Q (some ⟨r,0,none⟩) (toU m) h Q ((?_:W (rbA r full O T::L1) _ _) h (hx.s hs))
 clear hs h hx
 delta B5s bn cc ci cp cx ie ix jb ji jt ki kp nn nw pu ve vi vs wi
 refine Y2 fun x1=>?_
 refine W.load (b:=x1) (v:=m.2.2.2.1) ?_
 refine W.cut (fun _=>rbA r full O (A1k m T)::cells x1 (aS7 (toU m))::L1) (fun K hK=>?_) (fun _=>?_)
 ·refine A0l (fun hr=>?_) (fun hr=>?_)
  ·have e:A1k m T=B93 (B0x 64 T.b.kept (m.1,m.2.1,m.2.2.1,())).2 T:=if_pos hr
   rw[e] at hK
   refine W5 ?_
   refine A2j (g:=fun p R=>rbL r full O T p R) (fun h R=>A0T.1) fun p=>?_
   refine j4 (b:=r) (i:=2) (v:=some ⟨p.kb,0,none⟩) ?_
   refine W.load (b:=x1) (v:=m.1) ?_
   refine W.load (b:=x1) (v:=m.2.1) ?_
   refine W.load (b:=x1) (v:=m.2.2.1) ?_
   refine j2 (C8r (b:=p.kb) (K:=T.b.kept) (m:=(m.1,m.2.1,m.2.2.1,())) hz.k64 hm (At.un (U3 ?_)))
   refine At.rb (O:=O) (B93 (B0x 64 T.b.kept (m.1,m.2.1,m.2.2.1,())).2 T) p ?_
   exact(hK ()).sub
  ·have e:A1k m T=T:=if_neg (by rw[hr];decide)
   rw[e] at hK
   exact U3 (hK ()).sub
 have hk:=B12 (m:=m) ag
 have ca:(A3v none (T.b.aH.filter fun x=>Y1 x.2.1 m.1)).foldl (A0b m (T.b.aH.filter fun x=>Y1 x.2.1 m.1)) (A1k m T)=A0p m T:=rfl
 have qc:=hk.aH
 rw[←hk.aH] at ca
 have il:=hk.ok
 have gQ:(A1k m T).outs.length≤50000000:=C7 hk.outs hb
 have fz:=hz.dF
 have nG:=hz.sub
 have bd:=hz.aB
 have rQ:(A1k m T).b.aD.length≤1000:=by
  have:(A1k m T).b.aD=T.b.aD:=by unfold A1k;split<;>rfl
  rw[this];exact hz.aD
 rw[←hk.aH] at fz nG
 rw[←hk.aB] at bd
 clear hk qc
 generalize A1k m T=T0 at*
 refine W5 ?_
 refine A2j (g:=fun p R=>rbL r full O T0 p R) (fun h R=>A0T.1) fun p=>?_
 refine j4 (b:=r) (i:=1) (v:=some ⟨p.sb,0,none⟩) ?_
 refine W.load (b:=x1) (v:=m.1) ?_
 refine j2 (C4m (b:=p.sb) (E:=T0.b.aH) (n:=m.1) nG hm il.aH (fun S=>At.un (x:=S) ?_))
 refine W.rb (O:=O) T0 p ?_
 have bf:∀e∈T0.b.aH.filter (fun x=>Y1 x.2.1 m.1),e∈T0.b.aH:=fun e he=>(D9.1 he).1
 have oo:(T0.b.aH.filter fun x=>Y1 x.2.1 m.1).Pairwise fun a b=>a.1≤b.1:=fz.filter _
 have yj:(T0.b.aH.filter fun x=>Y1 x.2.1 m.1).length≤10000:=C7 (D3 _ _) il.aH
 generalize T0.b.aH.filter (fun x=>Y1 x.2.1 m.1)=M at*
 clear fz nG
 refine Z1 (X5 (enc:=Z9) (size:=3) (s:=S) (xs:=M)) fun hl=>?_
 refine W.loop (γ:=Nat×V0) (fun g s=>s.1=(g.1:Int)∧g.1≤M.length∧g.2=(A3v none (M.take g.1)).foldl (A0b m M) T0∧j7 g.2.b∧g.2.b.aH=T0.b.aH∧g.2.b.aB=T0.b.aB∧g.2.outs.length≤50000000+320*g.1∧g.2.b.aD.map (·.id)=T0.b.aD.map (·.id))
  (fun g s=>rbA r full O g.2::U6 Z9 3 S M::cells x1 (aS7 (toU m))::L1) (fun g=>M.length-g.1) (0,T0) ⟨rfl,D1 _,rfl,il,rfl,rfl,by simp only;omega,rfl⟩ ?_ ?_
 ·show Sub _ (rbA r full O T0::U6 Z9 3 S M::cells x1 (aS7 (toU m))::L1)
  repeat(first|with_reducible exact T7|with_reducible exact T8|refine U0 (by repeat first|with_reducible exact V1|apply V3) ?_|refine U1 ?_)
 rintro⟨i,T1⟩ s ⟨hi,cn,bR,aL,iE,bU,fj,fU⟩ K k1 k2
 simp only at hi cn bR aL iE bU fj fU
 by_cases ah:i<M.length
 ·refine Y4 (by rw[hi,hl];exact decide_eq_true (by omega)) ?_
  have aY:M[i]? =some M[i]:=B0 ah
  have aV:M.take (i+1)=M.take i++[M[i]]:=C4 ah
  have eY:=B09 ah
  have uX:IntKind.wrap .i64 (s.1+1)=((i+1:Nat):Int):=by rw[hi,V8 (by omega) (by omega)];rfl
  refine X3 ?_
  refine A1g (fun r=>r.1=decide (A8k none (M.take i)=some M[i].1)) (fun K0 oq=>?_) (fun r0 ig=>?_)
  ·clear k1 k2
   by_cases h0:i=0
   ·subst h0
    refine W8 (by rw[hi];rfl) (U3 (oq _ ?_))
    simp[A8k]
   ·refine Y4 (by rw[hi];exact decide_eq_true (by omega)) ?_
    have bH:i-1<M.length:=by omega
    have qL:M[i-1]? =some M[i-1]:=B0 bH
    have iG:A8k none (M.take i)=some M[i-1].1:=by
     unfold A8k
     rw[List.getLast?_eq_getElem?,E6,Nat.min_eq_left (by omega),L8,if_pos (by omega),qL]
    refine j5 (enc:=Z9) (xs:=M) (i:=i-1) bH (fun a ha=>?_) (he:=by rw[hi,V8 (by omega) (by omega)];omega)
    refine A4z (k:=0) (x:=M[i-1]) (v:=M[i-1].1) ha qL ?_
    refine j5 (enc:=Z9) (xs:=M) (i:=i) ah (fun a2 dI=>?_) (he:=hi)
    refine A4z (k:=0) (x:=M[i]) (v:=M[i].1) dI aY ?_
    refine U3 (oq _ ?_)
    rw[iG]
    by_cases e:M[i-1].1=M[i].1<;>simp[e]
  have fa:=B3g none (M.take i) M[i]
  by_cases oJ:A8k none (M.take i)=some M[i].1
  ·rw[if_pos oJ,C2,←aV] at fa
   refine A1o (by rw[ig];exact decide_eq_true oJ) (b7 (U3 ?_))
   have hn:=k1 (i+1,T1) (IntKind.wrap .i64 (s.1+1),()) (by simp only;omega) ⟨uX,ah,by rw[fa];exact bR,aL,iE,bU,by simp only;omega,fU⟩
   exact hn.sub
  ·rw[if_neg oJ,←aV] at fa
   refine o5 (by rw[ig];exact decide_eq_false oJ) ?_
   clear ig r0
   have jI:(M.take i).filter (fun e=>decide (e.1=M[i].1))=[]:=J0.2 fun e he=>by
    have hle:∀x∈M.take i,∀y∈M[i]::M.drop (i+1),x.1≤y.1:=by
     rw[eY] at oo
     exact(I7.1 oo).2.2
    have oR:=(I7.1 (by rw[eY] at oo;exact oo)).1
    cases hg:(M.take i).getLast? with
    |none=>rw[List.getLast?_eq_none_iff.1 hg] at he;cases he
    |some z=>
     have sS:A8k none (M.take i)=some z.1:=by unfold A8k;rw[hg]
     rw[sS] at oJ
     have rL:z∈M.take i:=List.mem_of_getLast? hg
     have h1:=hle z rL M[i] (B4 ..)
     have h2:e.1≤z.1:=by
      obtain⟨ys,rM⟩:=List.getLast?_eq_some_iff.1 hg
      rw[rM] at he oR
      rcases C9.1 he with h|h
      ·exact(I7.1 oR).2.2 e h z (B8.2 rfl)
      ·rw[B8.1 h];exact S8 _
     have h3:z.1≠M[i].1:=fun e=>oJ (by rw[e])
     simp only[decide_eq_true_eq]
     omega
   have ft:(M.drop i).foldl (B5R M[i].1) 0=A2u M M[i].1:=C5M jI
   refine X3 ?_
   refine C46 (fun r=>r.1=A2u M M[i].1) (fun _=>rbA r full O T1::U6 Z9 3 S M::cells x1 (aS7 (toU m))::L1) (fun K0 oq=>?_) (fun r0 ig=>?_)
   ·clear k1 k2
    refine C9U (γ:=Nat) (fun g s=>s.2.1=(g:Int)∧i≤g∧g≤M.length∧(M.drop g).foldl (B5R M[i].1) s.1=A2u M M[i].1) (fun g s=>rbA r full O T1::U6 Z9 3 S M::cells x1 (aS7 (toU m))::L1) (fun g=>M.length-g) i ⟨hi,D8 _,cn,ft⟩ ?_ ?_
    ·repeat(first|with_reducible exact T7|with_reducible exact T8|refine U0 (by repeat first|with_reducible exact V1|apply V3) ?_|refine U1 ?_)
    rintro k s2 ⟨hk,yI,j',hf⟩ K3 n1 n2
    by_cases cW:k<M.length
    ·refine Y4 (by rw[hk,hl];exact decide_eq_true (by omega)) ?_
     have qK:M[k]? =some M[k]:=B0 cW
     rw[E1 cW,H3] at hf
     have ta:IntKind.wrap .i64 (s2.2.1+1)=((k+1:Nat):Int):=by rw[hk,V8 (by omega) (by omega)];rfl
     refine A1g (fun r=>r.1=decide (M[k].1=M[i].1∧s2.1<M[k].2.2)) (fun K4 gS=>?_) (fun r4 oL=>?_)
     ·refine j5 (enc:=Z9) (xs:=M) (i:=k) cW (fun a ha=>?_) (he:=hk)
      refine A4z (k:=0) (x:=M[k]) (v:=M[k].1) ha qK ?_
      refine j5 (enc:=Z9) (xs:=M) (i:=i) ah (fun a2 dI=>?_) (he:=hi)
      refine A4z (k:=0) (x:=M[i]) (v:=M[i].1) dI aY ?_
      by_cases e:M[k].1=M[i].1
      ·refine Y4 (by simpa using e) ?_
       refine j5 (enc:=Z9) (xs:=M) (i:=k) cW (fun a ha=>?_) (he:=hk)
       refine A4z (k:=2) (x:=M[k]) (v:=M[k].2.2) ha qK ?_
       refine U3 (gS _ ?_)
       simp[e]
      ·refine W8 (by simpa using e) (U3 (gS _ ?_))
       simp[e]
     refine A1g (fun r=>r.1=B5R M[i].1 s2.1 M[k]) (fun K4 gS=>?_) (fun r5 xf=>?_)
     ·unfold B5R at gS
      by_cases e:M[k].1=M[i].1∧s2.1<M[k].2.2
      ·rw[if_pos e] at gS
       refine Y4 (by rw[oL];exact decide_eq_true e) ?_
       refine j5 (enc:=Z9) (xs:=M) (i:=k) cW (fun a ha=>?_) (he:=hk)
       refine A4z (k:=2) (x:=M[k]) (v:=M[k].2.2) ha qK ?_
       exact U3 (gS _ rfl)
      ·rw[if_neg e] at gS
       exact W8 (by rw[oL];exact decide_eq_false e) (U3 (gS _ rfl))
     ·have hn:=n1 (k+1) (r5.1,IntKind.wrap .i64 (s2.2.1+1),()) (by omega) ⟨ta,by omega,cW,by simp only;rw[xf];exact hf⟩
      exact U3 hn.sub
    ·refine W8 (by rw[hk,hl];exact decide_eq_false (by omega)) (U3 (n2 _ _ (oq _ ?_)))
     rw[L9 (by omega)] at hf
     exact hf
   ·obtain⟨s3,aj,hid⟩:=aL.live M[i] (by rw[iE];exact bf _ (G8 ah))
    have dc:=A4a (aL.bP s3 aj) (m.1,m.2.1,min m.2.2.1 (A2u M M[i].1),false,e0S)
    have e9:A0b m M T1 M[i].1=q7 M[i].1 (Y0 s3.out (m.1,m.2.1,min m.2.2.1 (A2u M M[i].1),false,e0S)).1.2 (A0E (X7 M[i].1 (Y9 (Y0 s3.out (m.1,m.2.1,min m.2.2.1 (A2u M M[i].1),false,e0S)).1.1) T1.b.aD) T1):=by
     unfold A0b A0F
     rw[A3y aL.nd aj hid]
    have bw:=A7M (m:=m) (l:=M) T1 M[i].1 aL
    have hn:=k1 (i+1,A0b m M T1 M[i].1) (IntKind.wrap .i64 (s.1+1),()) (by simp only;omega) ⟨uX,ah,by rw[fa,List.foldl_append,←bR];rfl,bw.ok,bw.aH.trans iE,bw.aB.trans bU,by have:=bw.outs;simp only;omega,A9l.trans fU⟩
    simp only at hn
    rw[e9] at hn
    clear k1 k2 e9 bw fa ca hq
    obtain⟨mq,_⟩:=r0
    simp only at ig
    subst ig
    have kY:s3.id=M[i].1:=hid
    generalize A2u M M[i].1=mq at hn dc⊢
    refine W5 ?_
    refine A2j (g:=fun p R=>rbL r full O T1 p R) (fun h R=>A0T.1) fun p2=>?_
    refine j4 (b:=r) (i:=0) (v:=some ⟨p2.tb,0,none⟩) ?_
    refine j5 (enc:=Z9) (xs:=M) (i:=i) ah (fun a ha=>?_) (he:=hi)
    refine A4z (k:=0) (x:=M[i]) (v:=M[i].1) ha aY ?_
    generalize M[i].1=id at hn kY⊢
    have cH:T1.b.aD.length≤1000:=by have:=congrArg List.length fU;simp only[C1] at this;omega
    refine j2 (C13 (b:=p2.tb) (A:=T1.b.aD) (s:=s3) (k:=id) cH aL.nd aj kY (fun nb ob ib=>At.un (x:=some ⟨nb,0,none⟩) ?_))
    refine W.load (b:=x1) (v:=m.2.2.1) ?_
    refine j2 (C3i (a:=m.2.2.1) (b:=mq) (At.un (x:=min m.2.2.1 mq) ?_))
    refine W5 ?_
    refine W.load (b:=nb) (v:=some ⟨ob,0,none⟩) ?_
    refine W.load (b:=x1) (v:=m.1) ?_
    refine W.load (b:=x1) (v:=m.2.1) ?_
    refine Z3 (C0d (b:=ob) (o:=s3.out) (m:=(m.1,m.2.1,min m.2.2.1 mq,false,e0S)) (aL.bP s3 aj) (fun S2=>At.bD (x:=(S2,(Y0 s3.out (m.1,m.2.1,min m.2.2.1 mq,false,e0S)).2,())) ?_))
    refine W5 ?_
    refine W.load (b:=nb) (v:=s3.id) ?_
    rw[kY]
    refine B02 (A:=A0x p2.tb T1.b.last (X7 id (Y9 (Y0 s3.out (m.1,m.2.1,min m.2.2.1 mq,false,e0S)).1.1) T1.b.aD)) (B:=cells nb (rqC s3 ob ib)) (C:=a8 ob (Y0 s3.out (m.1,m.2.1,min m.2.2.1 mq,false,e0S)).1.1) (D:=A1d ib s3.aZ) (E:=A3k p2.tb T1.b.last T1.b.aD s3 nb) (fun h hs=>A49 (f:=Y9 (Y0 s3.out (m.1,m.2.1,min m.2.2.1 mq,false,e0S)).1.1) kY aL.nd rfl h hs) ?_
    refine W.rb (O:=O) (A0E (X7 id (Y9 (Y0 s3.out (m.1,m.2.1,min m.2.2.1 mq,false,e0S)).1.1) T1.b.aD) T1) p2 ?_
    refine Z3 (A5b (O:=O) (T:=A0E (X7 id (Y9 (Y0 s3.out (m.1,m.2.1,min m.2.2.1 mq,false,e0S)).1.1) T1.b.aD) T1) (id:=id) (ps:=(Y0 s3.out (m.1,m.2.1,min m.2.2.1 mq,false,e0S)).1.2) hO (aL.one id) (by have:=dc.2;show T1.outs.length+_≤_;omega) (by show T1.b.aB.length≤_;rw[bU];exact bd) (At.bD ?_))
    exact b7 (U3 hn.sub)
 ·refine W8 (by rw[hi,hl];exact decide_eq_false (by omega)) (U3 (k2 _ _ (U3 ?_)))
  rw[D4 (by omega)] at bR
  rw[bR,ca]
  exact hq.sub
end
section
open Go.H Go.Proofs
variable {h h0:Heap} {L L' L1 L2 L3 L4 R:List Asn} {Q:Value→Heap→Prop}
theorem B5k{r:Nat}{full:Bool}{O:Slc→List r8→Asn}{T:V0}{m:MsT}(hO:A9g O)(ag:j7 T.b)(hz:Szs T.b)(hb:T.outs.length≤50000000)(hp:T.aT.length≤1000000000)(hm:m.1.size≤9223372036854775800)
  (hq:At (rbA r full O (A3n m T)::L1) (Q (.tuple #[])))(hx:Has L (rbA r full O T) L1:=by repeat first|with_reducible exact V1|apply V3):
  FW prog 135 #[at0 r,vMs m] L Q:=by
 refine fun h hs=>A9J (some ⟨r,0,none⟩) (toU m) h Q ((?_:W (rbA r full O T::L1) _ _) h (hx.s hs))
 clear hs h hx
 have fu:((A0p m T).aT.length+1)*64≤140737488355328:=by rw[A7N];omega
 have hq:At (rbA r full O (⟨(A0p m T).b,(A0p m T).outs,(A0p m T).aT++[m]⟩:V0)::L1) (Q (.tuple #[])):=hq
 delta A94 az bn cx g7 kc nn nw pu rq sx vs
 refine Y2 fun x1=>?_
 refine s7 (b:=x1) (v:=toU m) ?_
 refine Z3 (C3j (O:=O) (T:=T) (m:=m) hO ag hz hb hm (At.bD ?_))
 generalize A0p m T=T1 at hq fu⊢
 refine W5 ?_
 refine A2j (g:=fun p R=>rbL r full O T1 p R) (fun h R=>A0T.1) fun p=>?_
 refine j4 (b:=r) (i:=6) (v:=p.sp) ?_
 refine s7 (b:=x1) (v:=toU m) ?_
 refine Y2 fun x7=>?_
 refine j4 (b:=r) (i:=6) (v:=p.sp) ?_
 refine A1p ?_ rfl
 refine A9Z (b:=x7) (xs:=T1.aT) (enc:=Z7) (s:=p.sp) m (fun s'=>?_) fu
 refine W5 ?_
 refine A4r (b:=r) (i:=6) (cs':=rbC ⟨p.tb,p.sb,p.kb,p.sc,p.so,s'⟩ full) ?_
 refine W.rb (O:=O) (⟨T1.b,T1.outs,T1.aT++[m]⟩:V0) ⟨p.tb,p.sb,p.kb,p.sc,p.so,s'⟩ ?_
 exact U3 hq.sub
theorem C2y{α:Type}{l:List α}{a i:Nat}(h:i<l.length):(l.take (i+1)).eraseIdx a=(l.take i).eraseIdx a++(if i=a then[] else[l[i]]):=by
 rw[C4 h]
 have hl:(l.take i).length=i:=by rw[E6];omega
 by_cases e:i=a
 ·subst e
  have e1:(l.take i++[l[i]]).eraseIdx i=l.take i++[l[i]].eraseIdx (i-(l.take i).length):=List.eraseIdx_append_of_length_le (T5 hl) _
  have e2:(l.take i).eraseIdx i=l.take i:=List.eraseIdx_of_length_le (T5 hl)
  rw[if_pos rfl,C2,e1,e2,hl,Q3]
  simp only[List.eraseIdx_zero,List.tail_cons,C2]
 ·rw[if_neg e]
  by_cases h2:a<i
  ·exact List.eraseIdx_append_of_lt_length (by omega) _
  ·have e3:(l.take i++[l[i]]).eraseIdx a=l.take i++[l[i]]:=List.eraseIdx_of_length_le (by rw[B5,hl];simp only[B7,G7];omega)
   have e4:(l.take i).eraseIdx a=l.take i:=List.eraseIdx_of_length_le (by omega)
   rw[e3,e4]
theorem C05{c:Int}:∀{l:List Y6} {a:Nat},(l.map (·.c)).Nodup→atC c l=some a→l.eraseIdx a=l.filter fun y=>decide (y.c≠c)
 |[],a,_,h=>by cases h
 |x::l,a,hn,h=>by
  unfold atC at h
  rw[List.findIdx?_cons] at h
  rw[B6,F4] at hn
  by_cases e:x.c=c
  ·rw[if_pos (by simpa using e)] at h
   cases h
   rw[List.eraseIdx_zero,List.tail_cons,F9 (by simpa using e)]
   symm
   refine H4.2 fun y hy=>?_
   have:y.c≠c:=fun e2=>hn.1 (by rw[e,←e2];exact B3 hy)
   simpa using this
  ·rw[if_neg (by simpa using e)] at h
   cases hf:List.findIdx? (fun x=>decide (x.c=c)) l with
   |none=>rw[hf] at h;cases h
   |some j=>
    rw[hf] at h
    cases h
    rw[List.eraseIdx_cons_succ,G9 (by simpa using e),C05 hn.2 hf]
theorem B85{r:Nat}{full:Bool}{O:Slc→List r8→Asn}{T:V0}{c:Int}{aX:Bool}(hO:A9g O)(ag:j7 T.b)(hz:Szs T.b)(hb:T.outs.length≤50000000)(hp:T.aT.length≤1000000000)
  (hq:At (rbA r full O (A4n full c aX T)::L1) (Q (.tuple #[])))(hx:Has L (rbA r full O T) L1:=by repeat first|with_reducible exact V1|apply V3):
  FW prog 87 #[at0 r,.int .i64 c,.bool aX] L Q:=by
 refine fun h hs=>B4q (some ⟨r,0,none⟩) c aX h Q ((?_:W (rbA r full O T::L1) _ _) h (hx.s hs))
 clear hs h hx
 have bd:=hz.aB
 unfold A4n at hq
 delta B7Q ad az bn cb ci cx g7 ie ix jb ji kb kc kp nn nw pu sn sx ve vi vs w5 w6 w7 wi
 cases ha:atC c T.b.aB with
 |none=>
  rw[B2s.1 ha] at hq
  refine j2 (B5G (O:=O) (T:=T) (c:=c) bd (At.un (x:=(-1:Int)) ?_ (by rw[ha];rfl)))
  exact Y4 rfl (U3 hq)
 |some i=>
  obtain⟨x,sY,kZ,gz⟩:=C1o ha
  rw[kZ] at hq
  simp only at hq
  have ah:i<T.b.aB.length:=(E0.1 sY).1
  refine j2 (B5G (O:=O) (T:=T) (c:=c) bd (At.un (x:=(i:Int)) ?_ (by rw[ha];rfl)))
  refine W8 (decide_eq_false (by omega)) ?_
  refine W5 ?_
  refine A2j (g:=fun p R=>rbL r full O T p R) (fun h R=>A0T.1) fun p=>?_
  refine Z1 (X5 (enc:=A0h) (size:=8) (s:=p.sc) (xs:=T.b.aB)) fun hl=>?_
  refine j4 (b:=r) (i:=3) (v:=p.sc) ?_
  refine j5 (enc:=A0h) (xs:=T.b.aB) (i:=i) ah (fun a dI=>?_)
  refine B3z (x:=x) (v:=rcU x) dI sY ?_
  refine Y2 fun x6=>?_
  refine A0n (b:=x6) ?_
  refine W.cells (b:=x6) (A0h x).toArray ?_
  refine B7D A0h 8 ((T.b.aB.take 0).eraseIdx i) ?_
  refine W.loop (γ:=Nat) (fun g s=>s.2.1=(g:Int)∧g≤T.b.aB.length) (fun g s=>U6 A0h 8 s.1 ((T.b.aB.take g).eraseIdx i)::cells x6 (A0h x).toArray::rbL r full O T p L1) (fun g=>T.b.aB.length-g) 0 ⟨rfl,D1 _⟩ ?_ ?_
  ·show Sub _ (U6 A0h 8 ⟨none,0,0⟩ ((T.b.aB.take 0).eraseIdx i)::cells x6 (A0h x).toArray::rbL r full O T p L1)
   repeat(first|with_reducible exact T7|with_reducible exact T8|refine U0 (by repeat first|with_reducible exact V1|apply V3) ?_|refine U1 ?_)
  rintro k s ⟨hk,j'⟩ K k1 k2
  refine W5 ?_
  refine j4 (b:=r) (i:=3) (v:=p.sc) ?_
  by_cases bH:k<T.b.aB.length
  ·refine Y4 (by rw[hk,hl];exact decide_eq_true (by omega)) ?_
   have qK:T.b.aB[k]? =some T.b.aB[k]:=B0 bH
   have ta:IntKind.wrap .i64 (s.2.1+1)=((k+1:Nat):Int):=by rw[hk,V8 (by omega) (by omega)];rfl
   have bu:=fun s'=>k1 (k+1) (s',IntKind.wrap .i64 (s.2.1+1),()) (by omega) ⟨ta,bH⟩
   rw[C2y bH] at bu
   clear k1 k2 hq
   by_cases e:k=i
   ·rw[if_pos e,C2] at bu
    refine o5 (by rw[hk,e];simp) (b7 (U3 ?_))
    exact(bu s.1).sub
   ·rw[if_neg e] at bu
    refine A1o (by rw[hk];simp;omega) ?_
    refine X3 (W5 ?_)
    refine X3 (j4 (b:=r) (i:=3) (v:=p.sc) ?_)
    refine X3 (j5 (enc:=A0h) (xs:=T.b.aB) (i:=k) bH (fun a3 jR=>?_) (he:=hk))
    refine X3 (B3z (x:=T.b.aB[k]) (v:=rcU T.b.aB[k]) jR qK ?_)
    refine X3 (Y2 fun mz=>?_)
    have xZ:(((T.b.aB.take k).eraseIdx i).length+1)*88≤140737488355328:=by
     have h1:=List.length_eraseIdx_le (T.b.aB.take k) i
     rw[E6] at h1
     omega
    refine X3 (A9Z (b:=mz) (s:=s.1) (xs:=(T.b.aB.take k).eraseIdx i) (enc:=A0h) T.b.aB[k] (fun s'=>?_) xZ)
    exact b7 (U3 (bu s').sub)
  ·refine W8 (by rw[hk,hl];exact decide_eq_false (by omega)) (U3 (k2 _ _ ?_))
   rw[D4 (by omega),C05 hz.nd ha]
   clear k1 k2
   refine W5 ?_
   refine A4r (b:=r) (i:=3) (cs':=rbC ⟨p.tb,p.sb,p.kb,s.1,p.so,p.sp⟩ full) ?_
   refine W5 ?_
   refine j4 (b:=r) (i:=0) (v:=some ⟨p.tb,0,none⟩) ?_
   refine W.load (b:=x6) (v:=x.aD) ?_
   refine j2 (C8u (b:=p.tb) (A:=T.b.aD) (k:=x.aD) hz.aD ag.nd (At.un ?_))
   have h1:=B9z (k:=x.aD) (ag.conn fun y=>decide (y.c≠c)) (ag.gone kZ)
   rw[B4Y] at hq h1
   simp only at hq h1
   obtain⟨B2,ow⟩:∃B2:Z0,B2=⟨T.b.last,(A4O x.aD T.b.aD).2,if(A4O x.aD T.b.aD).1=true then A1l x.aD T.b.aH else T.b.aH,T.b.kept,T.b.aB.filter fun y=>decide (y.c≠c)⟩:=⟨_,rfl⟩
   rw[←ow] at hq h1
   refine W.cut (fun _=>rbA r full O (tB B2 T)::cells x6 (A0h x).toArray::L1) (fun K2 bg=>?_) (fun _=>?_)
   ·clear hq
    refine A0l (fun hd=>?_) (fun hd=>?_)
    ·rw[if_pos hd] at ow
     subst ow
     refine W5 ?_
     refine j4 (b:=r) (i:=1) (v:=some ⟨p.sb,0,none⟩) ?_
     refine W.load (b:=x6) (v:=x.aD) ?_
     refine j2 (C0p (b:=p.sb) (E:=T.b.aH) (id:=x.aD) ag.aH (At.un (U3 ?_)))
     refine At.rb (O:=O) (tB ⟨T.b.last,(A4O x.aD T.b.aD).2,A1l x.aD T.b.aH,T.b.kept,T.b.aB.filter fun y=>decide (y.c≠c)⟩ T) ⟨p.tb,p.sb,p.kb,s.1,p.so,p.sp⟩ ?_
     exact(bg ()).sub
    ·rw[if_neg (by rw[hd];decide)] at ow
     subst ow
     refine U3 ?_
     refine At.rb (O:=O) (tB ⟨T.b.last,(A4O x.aD T.b.aD).2,T.b.aH,T.b.kept,T.b.aB.filter fun y=>decide (y.c≠c)⟩ T) ⟨p.tb,p.sb,p.kb,s.1,p.so,p.sp⟩ ?_
     exact(bg ()).sub
   have uT:x∈T.b.aB:=F3 sY
   have gy:Szs B2:=hz.ended ow
   have sZ:=hz.wl x uT
   clear ow
   cases aX with
   |false=>
    rw[if_neg (by simp)] at hq
    exact o5 rfl (b7 (o5 rfl (b7 (U3 hq.sub))))
   |true=>
    refine A1o rfl ?_
    refine X3 (W.load (b:=x6) (v:=x.bE) ?_)
    cases eX:x.bE with
    |false=>
     rw[if_neg (by simp[eX])] at hq
     exact o5 rfl (b7 (o5 rfl (b7 (U3 hq.sub))))
    |true=>
     refine A1o rfl ?_
     refine X3 (W5 ?_)
     refine A2j (g:=fun p R=>rbL r full O (tB B2 T) p R) (fun h R=>A0T.1) fun p2=>?_
     refine X3 (j4 (b:=r) (i:=4) (v:=full) ?_)
     refine b7 ?_
     refine W.rb (O:=O) (tB B2 T) p2 ?_
     cases full with
     |true=>
      rw[if_neg (by simp)] at hq
      exact o5 rfl (b7 (U3 hq.sub))
     |false=>
      rw[if_pos ⟨rfl,eX,rfl⟩] at hq
      refine A1o rfl ?_
      refine X3 (A8a (b:=x6) (i:=3) (v:=toU x.aX) ?_)
      refine X3 (Z3 (B5k (O:=O) (T:=tB B2 T) (m:=x.aX) hO h1.1 gy hb hp sZ (At.bD ?_)))
      exact b7 (U3 hq.sub)
theorem A3P{r:Nat}{full:Bool}{O:Slc→List r8→Asn}{T:V0}{c code:Int}(hO:A9g O)(ag:j7 T.b)(hz:Szs T.b)(hb:T.outs.length<50000000)(hp:T.aT.length≤1000000000)
  (hq:At (rbA r full O (A0C full c code T)::L1) (Q (.tuple #[])))(hx:Has L (rbA r full O T) L1:=by repeat first|with_reducible exact V1|apply V3):
  FW prog 143 #[at0 r,.int .i64 c,.int .i64 code] L Q:=by
 refine fun h hs=>B0E (some ⟨r,0,none⟩) c code h Q ((?_:W (rbA r full O T::L1) _ _) h (hx.s hs))
 clear hs h hx
 unfold A0C at hq
 delta B1j cx pu ve vi vz
 refine B7C (k:=.i64) (j9 14 0 code) rfl rfl ?_
 refine Z3 (B8X (O:=O) (T:=T) (c:=c) (o:=j9 14 0 code) (ci:=⟨none,0,0⟩) (pi:=⟨none,0,0⟩) hO (by omega) (At.bD ?_))
 refine Z3 (B85 (O:=O) (T:=A0A ⟨c,j9 14 0 code,true⟩ T) (c:=c) (aX:=true) hO ag hz (by show(T.outs++[_]).length≤_;rw[B5];simp only[B7,G7];omega) hp (At.bD ?_))
 exact U3 hq.sub
end
section
open Go.H Go.Proofs
variable {h h0:Heap} {L L' L1 L2 L3 L4 R:List Asn} {Q:Value→Heap→Prop}
def A0B(nb ob ib:Nat)(id:Int):B4R:=fun b last A=>exA fun s:V7=>A0Y [pr (s∈A∧s.id=id),cells nb (rqC s ob ib),a8 ob s.out,A1d ib s.aZ,A3k b last A s nb]
theorem A5a{nb ob ib b:Nat}{id last:Int}{A:List V7}:sat h (A0B nb ob ib id b last A::R)↔∃s:V7,(s∈A∧s.id=id)∧sat h (cells nb (rqC s ob ib)::a8 ob s.out::A1d ib s.aZ::A3k b last A s nb::R):=by
 unfold A0B
 rw[sat.bA]
 simp only[sat.bV,G3,F0,sat.bB]
theorem A6T{r nb ob ib:Nat}{full:Bool}{id:Int}{O:Slc→List r8→Asn}{T:V0}:∀h R,sat h (rbX r full (A0B nb ob ib id) O T::R)→sat h (rbA r full O T::R):=fun h R hs=>by
 obtain⟨p,h1⟩:=A0D.1 hs
 obtain⟨s,_,h2⟩:=A5a.1 (h1.re [4,0,1,2,3,5,6])
 have h3:=A6N h h2
 exact A0D.2 ⟨p,h3.re [1,2,3,4,0,5,6]⟩
theorem C5E{b nb:Nat}{last k:Int}{A:List V7}{s:V7}{f:V7→V7}(hk:s.id=k)(hn:(A.map (·.id)).Nodup):∀h R,sat h (A3k b last A s nb::R)→sat h (A3k b last (X7 k f A) (f s) nb::R):=fun h R hs=>by
 subst hk
 obtain⟨S,l1,l2,rfl,h1⟩:=A8N.1 hs
 rw[C0,B6] at hn⊢
 rw[A8K hn]
 have e:(l1++(nb,s)::l2).map (·.1)=(l1++(nb,f s)::l2).map (·.1):=by simp
 rw[e] at h1
 exact A8N.2 ⟨S,l1,l2,by simp,h1⟩
theorem B0z{b nb ob ib:Nat}{last k:Int}{A:List V7}{s s':V7}{f:V7→V7}(dS:s∈A)(hk:s.id=k)(hn:(A.map (·.id)).Nodup)(hf:f s=s')(hi:s'.id=s.id):∀h,sat h (cells nb (rqC s' ob ib)::a8 ob s'.out::A1d ib s'.aZ::A3k b last A s nb::R)→sat h (A0B nb ob ib k b last (X7 k f A)::R):=fun h hs=>by
 subst hf
 refine A5a.2 ⟨f s,⟨?_,hi.trans hk⟩,?_⟩
 ·unfold X7
  have:=B3 (f:=fun s=>if s.id=k then f s else s) dS
  rwa[if_pos hk] at this
 ·have h1:=C5E (f:=f) hk hn h _ (hs.re [3,0,1,2])
  exact h1.re [1,2,3,0]
theorem C7l{r nb ob ib:Nat}{full:Bool}{O:Slc→List r8→Asn}{T:V0}{x:Y6}{p:Pk}{pl:List q9}{sl:List A0G}{fl:List B38}(hO:A9g O)(ag:j7 T.b)(hz:Szs T.b)(ed:∀s∈T.b.aD,s.aZ.ok)(hc:A1E x.c T.b.aB=some x)(hb:T.outs.length<40000000)(hp:T.aT.length≤1000000000)(hsz:p.2.2.2.2.2.1.size≤9223372036854775800)
  (hq:At (rbA r full O (A5F full x (pkI p pl sl fl) T)::L1) (Q (.tuple #[])))(hx:Has L (rbX r full (A0B nb ob ib x.aD) O T) L1:=by repeat first|with_reducible exact V1|apply V3):
  FW prog 141 #[at0 r,.int .i64 x.c,at0 nb,A2z .i64 p] L Q:=by
 refine fun h hs=>B2L (some ⟨r,0,none⟩) x.c (some ⟨nb,0,none⟩) p h Q ((?_:W (rbX r full (A0B nb ob ib x.aD) O T::L1) _ _) h (hx.s hs))
 clear hs h hx
 obtain⟨s,hs,hid⟩:=ag.cl x (A1T hc).1
 unfold A5F at hq
 simp only[A3y ag.nd hs hid] at hq
 delta B5n az bn ci cx g2 ie jb ji jt kb ki kp nn nw pu ve vi vs
 refine Y2 fun x1=>?_
 refine W.load (b:=x1) (v:=p.2.2.2.2.2.1) ?_
 refine j2 (C3n hsz (At.un (x:=A2X p.2.2.2.2.2.1) ?_))
 refine A1g (fun r=>r.1=(decide (p.1=3)&& !Z6 p.2.2.2.2.2.1)) (fun K hK=>?_) (fun r0 hr=>?_)
 ·refine W.load (b:=x1) (v:=p.1) ?_
  refine A0l (fun h3=>?_) (fun h3=>?_)
  ·refine U3 (At.sub (hK _ ?_))
   simp only[P9] at h3
   simp only[h3,decide_true,G4]
   unfold A2X
   cases Z6 p.2.2.2.2.2.1<;>rfl
  ·refine U3 (hK _ ?_)
   simp only[H7,ne_eq] at h3
   simp[h3]
 obtain⟨r0,_⟩:=r0
 simp only at hr
 subst hr
 by_cases an:p.1=3∧Z6 p.2.2.2.2.2.1=false
 ·rw[if_pos an] at hq
  refine Y4 (by simp[an.1,an.2]) ?_
  refine B9R (A:=rbX r full (A0B nb ob ib x.aD) O T) (B:=rbA r full O T) (fun h R hs=>A6T h R hs) ?_
  refine Z3 (A3P (O:=O) (T:=T) (c:=x.c) (code:=144) hO ag hz (by omega) hp (At.bD ?_))
  exact U3 hq.sub
 rw[if_neg an] at hq
 refine W8 (by
  by_cases e:p.1=3
  ·have:Z6 p.2.2.2.2.2.1=true:=by
    cases hn:Z6 p.2.2.2.2.2.1
    ·exact absurd ⟨e,hn⟩ an
    ·rfl
   simp[this]
  ·simp[e]) ?_
 refine W5 ?_
 refine A2j (g:=fun p R=>B1E r full (A0B nb ob ib x.aD) O T p R) (fun h R=>A0D.1) fun q=>?_
 refine j4 (b:=r) (i:=4) (v:=full) ?_
 refine A1g (fun r=>r.1=if full=true then 151 else 0) (fun K hK=>A0l (fun e=>U3 (hK _ (if_pos e).symm)) (fun e=>U3 (hK _ (if_neg (by simp[e])).symm))) (fun r0 hr=>?_)
 obtain⟨why,_⟩:=r0
 simp only at hr
 rw[←hr] at hq
 clear hr an
 refine B9S (fun h R hs=>(A5a (b:=q.tb) (last:=T.b.last) (A:=T.b.aD)).1 hs) fun s' af=>?_
 have rQ:s'=s:=A9m (f:=(·.id)) ag.nd af.1 hs (af.2.trans hid.symm)
 subst rQ
 clear af
 refine W5 ?_
 refine W.load (b:=nb) (v:=some ⟨ib,0,none⟩) ?_
 refine s7 (b:=x1) (v:=p) ?_
 refine Z3 (C7o (f:=ib) (s:=s'.aZ) (p:=p) (why:=why) (ed s' hs) (fun S=>At.bD (x:=((l9 s'.aZ p.1 p.2.2.2.1 p.2.2.2.2.1 why).1,S,(l9 s'.aZ p.1 p.2.2.2.1 p.2.2.2.2.1 why).2.2.1,())) ?_))
 generalize hR:l9 s'.aZ p.1 p.2.2.2.1 p.2.2.2.2.1 why=rr at hq⊢
 have dw:=hz.withS (k:=x.aD) (f:=j1 ⟨s'.aZ.most,s'.aZ.taken,rr.2.2.2⟩)
 have aL:j7 (A0E (X7 x.aD (j1 ⟨s'.aZ.most,s'.aZ.taken,rr.2.2.2⟩) T.b.aD) T).b:=ag.fF
 by_cases av:rr.2.2.1=0
 ·rw[if_neg (by simpa using av)] at hq
  refine W8 (by simp[av]) ?_
  refine W5 ?_
  refine W.load (b:=nb) (v:=s'.id) ?_
  rw[hid]
  refine B02 (A:=A0B nb ob ib x.aD q.tb T.b.last (X7 x.aD (j1 ⟨s'.aZ.most,s'.aZ.taken,rr.2.2.2⟩) T.b.aD)) (B:=cells nb (rqC s' ob ib)) (C:=a8 ob s'.out) (D:=A1d ib ⟨s'.aZ.most,s'.aZ.taken,rr.2.2.2⟩) (E:=A3k q.tb T.b.last T.b.aD s' nb) (fun h ae=>B0z (f:=j1 ⟨s'.aZ.most,s'.aZ.taken,rr.2.2.2⟩) hs hid ag.nd rfl rfl h ae) ?_
  refine W.dX (X:=A0B nb ob ib x.aD) (O:=O) (A0E (X7 x.aD (j1 ⟨s'.aZ.most,s'.aZ.taken,rr.2.2.2⟩) T.b.aD) T) q ?_
  have jn:(A3E rr.2.1 p.2.2.2.2.1).length≤1:=by unfold A3E;split<;>simp
  refine Z3 (A5b (X:=A0B nb ob ib x.aD) (O:=O) (T:=A0E (X7 x.aD (j1 ⟨s'.aZ.most,s'.aZ.taken,rr.2.2.2⟩) T.b.aD) T) (id:=x.aD) (ps:=A3E rr.2.1 p.2.2.2.2.1) hO (ag.one x.aD) (by simp only;omega) hz.aB (At.bD ?_))
  have te:(T.outs++A1U T.b.aB x.aD (A3E rr.2.1 p.2.2.2.2.1)).length≤50000000:=by
   rw[B5];have:=A9h (A3E rr.2.1 p.2.2.2.2.1) (ag.one x.aD);omega
  refine B9R (A:=rbX r full (A0B nb ob ib x.aD) O (q7 x.aD (A3E rr.2.1 p.2.2.2.2.1) (A0E (X7 x.aD (j1 ⟨s'.aZ.most,s'.aZ.taken,rr.2.2.2⟩) T.b.aD) T))) (B:=rbA r full O (q7 x.aD (A3E rr.2.1 p.2.2.2.2.1) (A0E (X7 x.aD (j1 ⟨s'.aZ.most,s'.aZ.taken,rr.2.2.2⟩) T.b.aD) T))) (fun h R hs=>A6T h R hs) ?_
  cases hf:rr.1 with
  |false=>
   rw[if_neg (by simp[hf])] at hq
   exact o5 rfl (b7 (o5 rfl (b7 (U3 hq.sub))))
  |true=>
   refine A1o rfl ?_
   refine X3 (W5 ?_)
   refine A2j (g:=fun q' R=>rbL r full O (q7 x.aD (A3E rr.2.1 p.2.2.2.2.1) (A0E (X7 x.aD (j1 ⟨s'.aZ.most,s'.aZ.taken,rr.2.2.2⟩) T.b.aD) T)) q' R) (fun h R=>A0T.1) fun p2=>?_
   refine X3 (j4 (b:=r) (i:=4) (v:=full) ?_)
   refine b7 ?_
   refine W.rb (O:=O) (q7 x.aD (A3E rr.2.1 p.2.2.2.2.1) (A0E (X7 x.aD (j1 ⟨s'.aZ.most,s'.aZ.taken,rr.2.2.2⟩) T.b.aD) T)) p2 ?_
   cases full with
   |true=>
    rw[if_neg (by simp)] at hq
    exact o5 rfl (b7 (U3 hq.sub))
   |false=>
    rw[if_pos ⟨hf,rfl⟩] at hq
    refine A1o rfl ?_
    refine X3 (W.load (b:=x1) (v:=p.2.2.2.2.2.1) ?_)
    refine X3 (W.load (b:=x1) (v:=p.2.2.2.2.2.2.1) ?_)
    refine X3 (W.load (b:=x1) (v:=p.2.2.2.1) ?_)
    refine X3 (W.load (b:=x1) (v:=p.2.2.1) ?_)
    refine X3 (Z3 (B5k (O:=O) (m:=(p.2.2.2.2.2.1,p.2.2.2.2.2.2.1,p.2.2.2.1,p.2.2.1,e0S)) (T:=q7 x.aD (A3E rr.2.1 p.2.2.2.2.1) (A0E (X7 x.aD (j1 ⟨s'.aZ.most,s'.aZ.taken,rr.2.2.2⟩) T.b.aD) T)) hO aL dw te hp hsz (At.bD ?_)))
    exact b7 (U3 hq.sub)
 ·rw[if_pos (by simpa using av)] at hq
  refine Y4 (by simp[av]) ?_
  refine B02 (A:=A0x q.tb T.b.last (X7 x.aD (j1 ⟨s'.aZ.most,s'.aZ.taken,rr.2.2.2⟩) T.b.aD)) (B:=cells nb (rqC s' ob ib)) (C:=a8 ob s'.out) (D:=A1d ib ⟨s'.aZ.most,s'.aZ.taken,rr.2.2.2⟩) (E:=A3k q.tb T.b.last T.b.aD s' nb) (fun h ae=>A49 (f:=j1 ⟨s'.aZ.most,s'.aZ.taken,rr.2.2.2⟩) hid ag.nd rfl h ae) ?_
  refine W.rb (O:=O) (A0E (X7 x.aD (j1 ⟨s'.aZ.most,s'.aZ.taken,rr.2.2.2⟩) T.b.aD) T) q ?_
  refine Z3 (A3P (O:=O) (T:=A0E (X7 x.aD (j1 ⟨s'.aZ.most,s'.aZ.taken,rr.2.2.2⟩) T.b.aD) T) (c:=x.c) (code:=rr.2.2.1) hO aL dw (by simp only;omega) hp (At.bD ?_))
  exact U3 hq.sub
end
section
open Go.H Go.Proofs
variable {h h0:Heap} {L L' L1 L2 L3 L4 R:List Asn} {Q:Value→Heap→Prop}
theorem C12{b:Nat}{E:List Ent}{id:Int}{f:B38}(hl:E.length≤10000)(hq:At (A0J b (A1R E id f)::L1) (Q (.bool (decide ((A1R E id f).length<E.length)))))(hx:Has L (A0J b E) L1:=by repeat first|with_reducible exact V1|apply V3):
  FW prog 198 #[at9 b,.int .i64 id,.string f] L Q:=fun h hs=>B86 hl (hx.s hs) fun h' af=>hq h' af
theorem C7r{t:Nat}{E:List Ent}{id q:Int}{f:B38}(hsz:f.size≤9223372036854775800)(hl:E.length≤10000)(hq:At (A0J t (A2P E id f q).2::L1) (Q (.int .i64 (A2P E id f q).1)))(hx:Has L (A0J t E) L1:=by repeat first|with_reducible exact V1|apply V3):
  FW prog 196 #[at9 t,C5i id f q] L Q:=fun h hs=>by
 unfold A2P at hq
 refine C4o hsz hl (hx.s hs) (fun hb h' af=>?_) (fun hb dU h' af=>?_) (fun hb q0 q1 i x hi hk ux h' af=>?_) (fun hb q0 q1 ay hc h' af=>?_) (fun hb q0 q1 ay hc h' af=>?_)
 ·rw[if_pos hb] at hq;exact hq h' af
 ·rw[if_neg (by simp[hb]),if_pos dU] at hq;exact hq h' af
 ·rw[if_neg (by simp[hb]),if_neg (by omega)] at hq
  have hf:E.findIdx? (fun x=>decide (b8 x=(id,f)))=some i:=by
   obtain⟨ah,hx⟩:=E0.1 hi
   refine J1.2 ⟨ah,by simp[hx,hk],fun j hj=>?_⟩
   have:=ux E[j] (List.mem_take_iff_getElem.2 ⟨j,by omega,rfl⟩)
   simpa using this
  rw[hf] at hq
  exact hq h' af
 ·rw[if_neg (by simp[hb]),if_neg (by omega),O1.2 (fun x hx=>by simpa using ay x hx)] at hq
  simp only[if_pos hc] at hq
  exact hq h' af
 ·rw[if_neg (by simp[hb]),if_neg (by omega),O1.2 (fun x hx=>by simpa using ay x hx)] at hq
  simp only[if_neg (Nat.not_le.2 hc)] at hq
  exact hq h' af
theorem C3P{β:Type}{Q':β→Heap→Prop}{nb ob ib b:Nat}{id last:Int}{A:List V7}{f:Int→HM β}(hw:W L (f id) Q')(hx:Has L (A0B nb ob ib id b last A) L1:=by repeat first|with_reducible exact V1|apply V3):
  W L (HM.bind (p8 (.int .i64) (Addr.add ⟨nb,0,none⟩ 0)) f) Q':=fun h hs=>by
 obtain⟨s,⟨_,hid⟩,h2⟩:=A5a.1 (hx.s hs)
 refine⟨id,?_,hw h hs⟩
 rw[U4,h2.cell 0,←hid]
 rfl
theorem B5i{r nb ob ib:Nat}{full:Bool}{T:V0}{x:Y6}{p:Pk}{pl:List q9}{sl:List A0G}{fl:List B38}(ag:j7 T.b)(hb:T.outs.length≤10000000)(hn:fl.length≤100)
  (hq:At (rbA r full (W0 .i64) (A1H x (pkI p pl sl fl) T)::L2) (Q (.tuple #[])))(hx:Has L (rbX r full (A0B nb ob ib x.aD) (W0 .i64) T) L1:=by repeat first|with_reducible exact V1|apply V3)(hz:Has L1 (U6 A0g 1 (A4w p) fl) L2:=by repeat first|with_reducible exact V1|apply V3):
  FW prog 145 #[at0 r,.int .i64 x.c,at0 nb,A2z .i64 p] L Q:=by
 refine fun h hs=>A6Q (some ⟨r,0,none⟩) x.c (some ⟨nb,0,none⟩) p h Q ((?_:W (rbX r full (A0B nb ob ib x.aD) (W0 .i64) T::U6 A0g 1 (A4w p) fl::L2) _ _) h ((hx.then hz).s hs))
 clear hs h hx hz
 unfold A1H at hq
 simp only at hq
 obtain⟨EF,jq⟩:∃EF,EF=(A0X x.aD fl T.b.aH).1:=⟨_,rfl⟩
 obtain⟨CF,ja⟩:∃CF,CF=(A0X x.aD fl T.b.aH).2:=⟨_,rfl⟩
 rw[←jq,←ja] at hq
 delta A5L az bn cb cx g2 ie ix jc ji ki kp lt nn nw pu sn sw ve vi vs vz wi
 refine Y2 fun x1=>?_
 refine W.load (b:=x1) (v:=p.2.2.2.2.1) ?_
 refine Y2 fun x3=>?_
 refine A0n ?_
 refine A4V (eKd .i64) 1 ?_
 refine W.cells (b:=x3) (W9 .i64 (pkT (j9 11 (p.2.2.2.2.1) 0) ⟨none,0,0⟩ ⟨none,0,0⟩)).toArray ?_
 refine Z1 (X5 (enc:=A0g) (size:=1) (s:=A4w p) (xs:=fl)) fun hl=>?_
 refine W.loop (γ:=Nat×List Ent×List Int×Slc) (fun g s=>s.1=(g.1:Int)∧g.1≤fl.length∧g.2.1.length≤T.b.aH.length∧(A0X x.aD (fl.drop g.1) g.2.1).1=EF∧g.2.2.1++(A0X x.aD (fl.drop g.1) g.2.1).2=CF∧g.2.2.1.length=g.1)
  (fun g s=>rbX r full (A0B nb ob ib x.aD) (W0 .i64) (A1i g.2.1 T)::U6 (eKd .i64) 1 g.2.2.2 g.2.2.1::cells x3 (W9 .i64 (pkT (j9 11 (p.2.2.2.2.1) 0) g.2.2.2 ⟨none,0,0⟩)).toArray::cells x1 (aS2 p)::U6 A0g 1 (A4w p) fl::L2)
  (fun g=>fl.length-g.1) (0,T.b.aH,[],⟨none,0,0⟩) ⟨rfl,D1 _,D8 _,jq.symm,ja.symm,rfl⟩ ?_ ?_
 ·show Sub _ (rbX r full (A0B nb ob ib x.aD) (W0 .i64) T::U6 (eKd .i64) 1 ⟨none,0,0⟩ ([]:List Int)::cells x3 (W9 .i64 (pkT (j9 11 (p.2.2.2.2.1) 0) ⟨none,0,0⟩ ⟨none,0,0⟩)).toArray::cells x1 (aS2 p)::U6 A0g 1 (A4w p) fl::L2)
  repeat(first|with_reducible exact T7|with_reducible exact T8|refine U0 (by repeat first|with_reducible exact V1|apply V3) ?_|refine U1 ?_)
 rintro⟨i,E,cs,cS⟩ s ⟨hi,cn,lx,cd,cg,bd⟩ K k1 k2
 simp only at hi cn lx cd cg bd
 refine W.load (b:=x1) (v:=A4w p) ?_
 by_cases ah:i<fl.length
 ·refine Y4 (by rw[hi,hl];exact decide_eq_true (by omega)) ?_
  have bl:fl.drop i=fl[i]::fl.drop (i+1):=E1 ah
  have aY:fl[i]? =some fl[i]:=B0 ah
  rw[bl] at cd cg
  generalize fl[i]=u at aY cd cg
  clear bl
  unfold A0X at cd cg
  simp only at cd cg
  have bf:=ag.aH
  refine W5 ?_
  refine A2j (g:=fun q R=>B1E r full (A0B nb ob ib x.aD) (W0 .i64) (A1i E T) q R) (fun h R=>A0D.1) fun q=>?_
  refine j4 (b:=r) (i:=1) (v:=some ⟨q.sb,0,none⟩) ?_
  refine W5 ?_
  refine C3P ?_
  refine W.load (b:=x1) (v:=A4w p) ?_
  refine j5 (enc:=A0g) (xs:=fl) (i:=i) ah (fun a ha=>?_) (he:=hi)
  refine B4P (x:=u) (v:=u) ha aY ?_
  refine j2 (C12 (b:=q.sb) (E:=E) (id:=x.aD) (f:=u) (by omega) (At.un ?_))
  refine W.dX (X:=A0B nb ob ib x.aD) (O:=W0 .i64) (A1i (A1R E x.aD u) T) q ?_
  refine A1g (fun a=>a.1=if(A1R E x.aD u).length<E.length then 0 else 17) (fun K2 bg=>A0l (fun e=>U3 (bg _ (if_pos (by simpa using e)).symm)) (fun e=>U3 (bg _ (if_neg (by simpa using e)).symm))) (fun a jY=>?_)
  refine W.load (b:=x3) (v:=cS) ?_
  refine C6S (enc:=eKd .i64) (xs:=cs) (s:=cS) a.1 (fun s'=>?_) (by omega)
  refine W.store (cs':=(W9 .i64 (pkT (j9 11 (p.2.2.2.2.1) 0) s' ⟨none,0,0⟩)).toArray) ?_
  have ot:(A1R E x.aD u).length≤T.b.aH.length:=C7 C1c lx
  have f1:IntKind.wrap .i64 (s.1+1)=((i+1:Nat):Int):=by rw[hi,V8 (by omega) (by omega)];rfl
  have f2:(cs++[a.1])++(A0X x.aD (fl.drop (i+1)) (A1R E x.aD u)).2=CF:=by rw[jY,D6];exact cg
  have hn:=k1 (i+1,A1R E x.aD u,cs++[a.1],s') (IntKind.wrap .i64 (s.1+1),()) (by simp only;omega) ⟨f1,ah,ot,cd,f2,by simp[bd]⟩
  exact U3 hn.sub
 ·refine W8 (by rw[hi,hl];exact decide_eq_false (by omega)) (U3 (k2 _ _ ?_))
  have en:i=fl.length:=by omega
  subst en
  rw[J8] at cd cg
  simp only[A0X,C2] at cd cg
  subst cd cg
  refine s7 (b:=x3) (v:=pkT (A0S 11 (p.2.2.2.2.1) cs) cS ⟨none,0,0⟩) ?_
  refine A4V X1 4 ?_
  refine W.cY (A:=pkB .i64 (cS,⟨none,0,0⟩,A0S 11 (p.2.2.2.2.1) cs)) (B:=U6 (eKd .i64) 1 cS cs) (C:=U6 X1 4 ⟨none,0,0⟩ ([]:List q9)) (fun h hs=>A4K.2 hs) ?_
  refine Z3 (B4U (X:=A0B nb ob ib x.aD) (O:=W0 .i64) (T:=A1i E T) (c:=x.c) (o:=A0S 11 (p.2.2.2.2.1) cs) (ci:=cS) (pi:=⟨none,0,0⟩) A4c (by show T.outs.length≤_;omega) (At.bD ?_))
  refine B9R (A:=rbX r full (A0B nb ob ib x.aD) (W0 .i64) (A0A ⟨x.c,A0S 11 (p.2.2.2.2.1) cs,false⟩ (A1i E T))) (B:=rbA r full (W0 .i64) (A0A ⟨x.c,A0S 11 (p.2.2.2.2.1) cs,false⟩ (A1i E T))) (fun h R hs=>A6T h R hs) ?_
  exact U3 hq.sub
end
section
open Go.H Go.Proofs
variable {h h0:Heap} {L L' L1 L2 L3 L4 R:List Asn} {Q:Value→Heap→Prop}
theorem C6N{E:List Ent}{id q:Int}{f:B38}(h:(A2P E id f q).1≠0):128≤(A2P E id f q).1:=by
 revert h
 unfold A2P
 split
 ·intro _;show(128:Int)≤_;omega
 ·split
  ·intro _;show(128:Int)≤_;omega
  ·split
   ·intro h;exact absurd rfl h
   ·split
    ·intro _;show(128:Int)≤_;omega
    ·intro h;exact absurd rfl h
theorem A5R{id:Int}{f:Z2→Z2×List PkO}{T:V0}:(A0F id f T).b.aB=T.b.aB:=by
 unfold A0F;split<;>rfl
theorem B0c{id:Int}(T:V0)(s:A0G):(j3 id T s).b.aB=T.b.aB:=by
 unfold j3
 split
 ·rfl
 ·have:∀(l:List l3) (T:V0),(l.foldl (A0U id s) T).b.aB=T.b.aB:=by
   intro l
   induction l with
   |nil=>intro T;rfl
   |cons m l ih=>intro T;exact(ih _).trans A5R
  exact this _ T
theorem C5L{r i:Nat}{full:Bool}{X:B4R}{c p:Slc}{pk:PkO}{T:V0}:∀h,sat h (rbX r full X (A8S i c p pk) T::pkB .i64 (c,p,pk)::R)→sat h (rbX r full X (W0 .i64) T::R):=fun h hs=>by
 obtain⟨q,h1⟩:=A0D.1 hs
 exact A0D.2 ⟨q,(C17 h (h1.re [1,7,0,2,3,4,5,6])).re [1,0,2,3,4,5,6]⟩
theorem B8W{r nb ob ib:Nat}{full:Bool}{T:V0}{x:Y6}{p:Pk}{pl:List q9}{sl:List A0G}{fl:List B38}(ag:j7 T.b)(hz:Szs T.b)(hc:A1E x.c T.b.aB=some x)(hb:T.outs.length≤10000000)(hE:T.b.aH.length+sl.length≤10000)(hn:sl.length≤100)
  (hsz:∀s∈sl,s.1.size≤9223372036854775800)
  (hq:At (rbA r full (W0 .i64) (A04 x (pkI p pl sl fl) T)::L2) (Q (.tuple #[])))(hx:Has L (rbX r full (A0B nb ob ib x.aD) (W0 .i64) T) L1:=by repeat first|with_reducible exact V1|apply V3)(hy:Has L1 (U6 Y3 5 (A0K p) sl) L2:=by repeat first|with_reducible exact V1|apply V3):
  FW prog 144 #[at0 r,.int .i64 x.c,at0 nb,A2z .i64 p] L Q:=by
 refine fun h hs=>A8w (some ⟨r,0,none⟩) x.c (some ⟨nb,0,none⟩) p h Q ((?_:W (rbX r full (A0B nb ob ib x.aD) (W0 .i64) T::U6 Y3 5 (A0K p) sl::L2) _ _) h ((hx.then hy).s hs))
 clear hs h hx hy
 obtain⟨sx,rP,ir⟩:=ag.cl x (A1T hc).1
 unfold A04 at hq
 simp only at hq
 obtain⟨EF,jq⟩:∃EF,EF=(j6 x.aD sl T.b.aH).1:=⟨_,rfl⟩
 obtain⟨CF,ja⟩:∃CF,CF=(j6 x.aD sl T.b.aH).2:=⟨_,rfl⟩
 rw[←jq,←ja] at hq
 delta A8g az bn cc ci cx g2 g6 ie ix jc ji jt ki kp kt li nn nw pu sn sw ve vi vs vz wi
 refine Y2 fun x1=>?_
 refine W.load (b:=x1) (v:=p.2.2.2.2.1) ?_
 refine Y2 fun x3=>?_
 refine A0n ?_
 refine A4V (eKd .i64) 1 ?_
 refine W.cells (b:=x3) (W9 .i64 (pkT (j9 9 (p.2.2.2.2.1) 0) ⟨none,0,0⟩ ⟨none,0,0⟩)).toArray ?_
 refine Z1 (X5 (enc:=Y3) (size:=5) (s:=A0K p) (xs:=sl)) fun hl=>?_
 refine W.loop (γ:=Nat×List Ent×List Int×Slc) (fun g s=>s.1=(g.1:Int)∧g.1≤sl.length∧j7 (B4k g.2.1 T.b)∧g.2.1.length≤T.b.aH.length+g.1∧(j6 x.aD (sl.drop g.1) g.2.1).1=EF∧g.2.2.1++(j6 x.aD (sl.drop g.1) g.2.1).2=CF∧g.2.2.1.length=g.1)
  (fun g s=>rbX r full (A0B nb ob ib x.aD) (W0 .i64) (A1i g.2.1 T)::U6 (eKd .i64) 1 g.2.2.2 g.2.2.1::cells x3 (W9 .i64 (pkT (j9 9 (p.2.2.2.2.1) 0) g.2.2.2 ⟨none,0,0⟩)).toArray::cells x1 (aS2 p)::U6 Y3 5 (A0K p) sl::L2)
  (fun g=>sl.length-g.1) (0,T.b.aH,[],⟨none,0,0⟩) ⟨rfl,D1 _,ag,D8 _,jq.symm,ja.symm,rfl⟩ ?_ ?_
 ·show Sub _ (rbX r full (A0B nb ob ib x.aD) (W0 .i64) T::U6 (eKd .i64) 1 ⟨none,0,0⟩ ([]:List Int)::cells x3 (W9 .i64 (pkT (j9 9 (p.2.2.2.2.1) 0) ⟨none,0,0⟩ ⟨none,0,0⟩)).toArray::cells x1 (aS2 p)::U6 Y3 5 (A0K p) sl::L2)
  repeat(first|with_reducible exact T7|with_reducible exact T8|refine U0 (by repeat first|with_reducible exact V1|apply V3) ?_|refine U1 ?_)
 rintro⟨i,E,cs,cS⟩ s ⟨hi,cn,ik,lx,cd,cg,bd⟩ K k1 k2
 simp only at hi cn ik lx cd cg bd
 refine W.load (b:=x1) (v:=A0K p) ?_
 by_cases ah:i<sl.length
 ·refine Y4 (by rw[hi,hl];exact decide_eq_true (by omega)) ?_
  have bl:sl.drop i=sl[i]::sl.drop (i+1):=E1 ah
  have aY:sl[i]? =some sl[i]:=B0 ah
  have al:sl[i]∈sl:=G8 ah
  rw[bl] at cd cg
  generalize sl[i]=u at aY al cd cg
  clear bl
  unfold j6 at cd cg
  simp only at cd cg
  refine W.load (b:=x1) (v:=A0K p) ?_
  refine j5 (enc:=Y3) (xs:=sl) (i:=i) ah (fun a ha=>?_) (he:=hi)
  refine B3z (x:=u) (v:=sbU u) ha aY ?_
  refine Y2 fun ia=>?_
  refine A0n ?_
  refine W5 ?_
  refine A2j (g:=fun q R=>B1E r full (A0B nb ob ib x.aD) (W0 .i64) (A1i E T) q R) (fun h R=>A0D.1) fun q=>?_
  refine j4 (b:=r) (i:=1) (v:=some ⟨q.sb,0,none⟩) ?_
  refine W5 ?_
  refine C3P ?_
  refine W.load (b:=ia) (v:=u.1) ?_
  refine W.load (b:=ia) (v:=u.2.1) ?_
  have hm:=B65 (E:=E) (id:=x.aD) (f:=u.1) (q:=u.2.1)
  refine j2 (C7r (t:=q.sb) (E:=E) (id:=x.aD) (q:=u.2.1) (f:=u.1) (hsz u al) (by omega) (At.un ?_))
  generalize A2P E x.aD u.1 u.2.1=rr at hm cd cg⊢
  refine W.dX (X:=A0B nb ob ib x.aD) (O:=W0 .i64) (A1i rr.2 T) q ?_
  refine A1g (fun a=>a.1=if rr.1=0 then u.2.1 else rr.1) (fun K2 bg=>?_) (fun a jY=>?_)
  ·refine A0l (fun e=>?_) (fun e=>U3 (bg _ (if_neg (by simpa using e)).symm))
   refine W.load (b:=ia) (v:=u.2.1) ?_
   exact U3 (At.sub (bg (u.2.1,()) (if_pos (by simpa using e)).symm))
  refine W.load (b:=x3) (v:=cS) ?_
  refine C6S (enc:=eKd .i64) (xs:=cs) (s:=cS) a.1 (fun s'=>?_) (by omega)
  refine W.store (cs':=(W9 .i64 (pkT (j9 9 (p.2.2.2.2.1) 0) s' ⟨none,0,0⟩)).toArray) ?_
  have ot:rr.2.length≤T.b.aH.length+(i+1):=by have:=hm.1;omega
  have f1:IntKind.wrap .i64 (s.1+1)=((i+1:Nat):Int):=by rw[hi,V8 (by omega) (by omega)];rfl
  have f2:(cs++[a.1])++(j6 x.aD (sl.drop (i+1)) rr.2).2=CF:=by rw[jY,D6];exact cg
  have gW:=k1 (i+1,rr.2,cs++[a.1],s') (IntKind.wrap .i64 (s.1+1),()) (by simp only;omega) ⟨f1,ah,ik.fK (by show rr.2.length≤10000;omega) fun e he=>by
     rcases hm.2 e he with he|he
     ·exact .inl he
     ·exact .inr ⟨sx,rP,ir.trans he.symm⟩,ot,cd,f2,by simp[bd]⟩
  exact U3 gW.sub
 ·refine W8 (by rw[hi,hl];exact decide_eq_false (by omega)) (U3 (k2 _ _ ?_))
  have en:i=sl.length:=by omega
  subst en
  rw[J8] at cd cg
  simp only[j6,C2] at cd cg
  subst cd cg
  clear k1 k2
  refine s7 (b:=x3) (v:=pkT (A0S 9 (p.2.2.2.2.1) cs) cS ⟨none,0,0⟩) ?_
  refine Z3 (C5F (X:=A0B nb ob ib x.aD) (T:=A1i E T) (c:=x.c) (o:=A0S 9 (p.2.2.2.2.1) cs) (ci:=cS) (pi:=⟨none,0,0⟩) (by show T.outs.length≤_;omega) (At.bD ?_))
  obtain⟨O,hO⟩:∃O,O=A8S T.outs.length cS ⟨none,0,0⟩ (A0S 9 (p.2.2.2.2.1) cs):=⟨_,rfl⟩
  obtain⟨T1,bR⟩:∃T1,T1=A0A ⟨x.c,A0S 9 (p.2.2.2.2.1) cs,false⟩ (A1i E T):=⟨_,rfl⟩
  have yh:A9g O:=by rw[hO];exact C8v
  have aL:j7 T1.b:=by rw[bR];exact ik
  have ej:T1.b.kept=T.b.kept:=by rw[bR]
  have uo:T1.b.aB=T.b.aB:=by rw[bR]
  have fU:T1.b.aD.map (·.id)=T.b.aD.map (·.id):=by rw[bR]
  have fj:T1.outs.length≤10000001:=by rw[bR];show(T.outs++[_]).length≤_;rw[B5];simp only[B7,G7];omega
  have hF:(added x.aD sl T.b.aH).foldl (j3 x.aD) T1=(added x.aD sl T.b.aH).foldl (j3 x.aD) (A0A ⟨x.c,A0S 9 (p.2.2.2.2.1) cs,false⟩ (A1i E T)):=by rw[bR]
  show W (rbX r full (A0B nb ob ib x.aD) (A8S T.outs.length cS ⟨none,0,0⟩ (A0S 9 (p.2.2.2.2.1) cs)) (A0A ⟨x.c,A0S 9 (p.2.2.2.2.1) cs,false⟩ (A1i E T))::_) _ _
  rw[←bR,←hO]
  rw[←hF] at hq
  clear hF
  obtain⟨FF,wc⟩:∃FF,FF=(added x.aD sl T.b.aH).foldl (j3 x.aD) T1:=⟨_,rfl⟩
  rw[←wc] at hq
  refine W.loop (γ:=Nat×V0×List Ent) (fun g s=>s.1=(g.1:Int)∧g.1≤sl.length∧j7 g.2.1.b∧g.2.1.b.kept=T.b.kept∧g.2.1.b.aB=T.b.aB∧g.2.1.b.aD.map (·.id)=T.b.aD.map (·.id)∧(added x.aD (sl.drop g.1) g.2.2).foldl (j3 x.aD) g.2.1=FF∧g.2.1.outs.length≤10000001+20480*g.1∧cs.drop g.1=(j6 x.aD (sl.drop g.1) g.2.2).2)
   (fun g s=>rbX r full (A0B nb ob ib x.aD) O g.2.1::U6 (eKd .i64) 1 cS cs::cells x3 (W9 .i64 (pkT (j9 9 (p.2.2.2.2.1) 0) cS ⟨none,0,0⟩)).toArray::cells x1 (aS2 p)::U6 Y3 5 (A0K p) sl::L2) (fun g=>sl.length-g.1) (0,T1,T.b.aH) ⟨rfl,D1 _,aL,ej,uo,fU,wc.symm,fj,ja⟩ ?_ ?_
  ·show Sub _ (rbX r full (A0B nb ob ib x.aD) O T1::U6 (eKd .i64) 1 cS cs::cells x3 (W9 .i64 (pkT (j9 9 (p.2.2.2.2.1) 0) cS ⟨none,0,0⟩)).toArray::cells x1 (aS2 p)::U6 Y3 5 (A0K p) sl::L2)
   repeat(first|with_reducible exact T7|with_reducible exact T8|refine U0 (by repeat first|with_reducible exact V1|apply V3) ?_|refine U1 ?_)
  rintro⟨j,T2,E2⟩ s2 ⟨hj,tU,bw,gr,ll,jk,fV,dx,eH⟩ K2 m1 m2
  simp only at hj tU bw gr ll jk fV dx eH
  refine W.load (b:=x1) (v:=A0K p) ?_
  by_cases bH:j<sl.length
  ·refine Y4 (by rw[hj,hl];exact decide_eq_true (by omega)) ?_
   have bl:sl.drop j=sl[j]::sl.drop (j+1):=E1 bH
   have lO:sl[j]? =some sl[j]:=B0 bH
   have al:sl[j]∈sl:=G8 bH
   rw[bl] at fV eH
   generalize sl[j]=u at lO al fV eH
   clear bl
   have iY:=C6N (E:=E2) (id:=x.aD) (f:=u.1) (q:=u.2.1)
   have hzero:=B3y (E:=E2) (id:=x.aD) (f:=u.1) (q:=u.2.1)
   unfold added at fV
   unfold j6 at eH
   simp only at eH
   generalize A2P E2 x.aD u.1 u.2.1=rr at iY hzero fV eH
   obtain⟨oS,fx⟩:∃h:j<cs.length,cs[j]=(if rr.1=0 then u.2.1 else rr.1):=by
    have ah:j<cs.length:=by
     rcases S9 j cs.length with h|h
     ·exact h
     ·rw[List.drop_eq_nil_of_le h] at eH;cases eH
    rw[E1 ah] at eH
    injection eH with h1 h2
    exact⟨ah,h1⟩
   have kZ:cs[j]? =some (if rr.1=0 then u.2.1 else rr.1):=by rw[B0 oS,fx]
   have vT:cs.drop (j+1)=(j6 x.aD (sl.drop (j+1)) rr.2).2:=by
    rw[E1 oS] at eH
    injection eH
   clear fx eH
   refine X3 (W.load (b:=x1) (v:=A0K p) ?_)
   refine X3 (j5 (enc:=Y3) (xs:=sl) (i:=j) bH (fun a ha=>?_) (he:=hj))
   refine X3 (B3z (x:=u) (v:=sbU u) ha lO ?_)
   refine X3 (Y2 fun mn=>?_)
   refine X3 (A0n ?_)
   refine X3 (A1g (fun a=>a.1=(decide (rr.1≠0)||decide (u.2.2.2.2=2))) (fun K4 gS=>?_) (fun a jY=>?_))
   ·refine W.load (b:=x3) (v:=cS) ?_
    refine j5 (enc:=eKd .i64) (xs:=cs) (i:=j) oS (fun a3 jR=>?_) (he:=hj)
    refine B4P (x:=(if rr.1=0 then u.2.1 else rr.1)) (v:=(if rr.1=0 then u.2.1 else rr.1)) jR kZ ?_
    by_cases hr:rr.1=0
    ·rw[if_pos hr]
     refine W8 (decide_eq_false (by have:=(hzero hr).2;omega)) ?_
     refine W.load (b:=mn) (v:=u.2.2.2.2) ?_
     refine U3 (At.sub (gS _ ?_))
     by_cases e:u.2.2.2.2=2<;>simp[hr,e]
    ·rw[if_neg hr]
     refine Y4 (decide_eq_true (iY hr)) ?_
     refine U3 (At.sub (gS _ ?_))
     simp[hr]
   obtain⟨ab,_⟩:=a
   simp only at jY
   subst jY
   have f1:IntKind.wrap .i64 (s2.1+1)=((j+1:Nat):Int):=by rw[hj,V8 (by omega) (by omega)];rfl
   by_cases hr:rr.1=0
   ·rw[if_pos hr,G3,F0,H3] at fV
    have j':T2.b.kept.length≤64:=by rw[gr];exact hz.k64
    have qE:=A7G (id:=x.aD) T2 u j' bw
    have aA:At (rbX r full (A0B nb ob ib x.aD) O (j3 x.aD T2 u)::U6 (eKd .i64) 1 cS cs::cells x3 (W9 .i64 (pkT (j9 9 (p.2.2.2.2.1) 0) cS ⟨none,0,0⟩)).toArray::cells x1 (aS2 p)::U6 Y3 5 (A0K p) sl::L2) (K2 (.inl (IntKind.wrap .i64 (s2.1+1),()))):=by
     refine m1 (j+1,j3 x.aD T2 u,rr.2) (IntKind.wrap .i64 (s2.1+1),()) (by simp only;omega) ⟨f1,bH,qE.ok,(A7H T2 u).trans gr,(B0c T2 u).trans ll,(B35 T2 u).trans jk,fV,?_,vT⟩
     have:=qE.outs;simp only;omega
    clear m1 m2 fV
    by_cases h2:u.2.2.2.2=2
    ·refine A1o (by simp[h2]) ?_
     have e:j3 x.aD T2 u=T2:=if_pos h2
     rw[e] at aA
     exact b7 (U3 aA.sub)
    ·refine o5 (by simp[hr,h2]) ?_
     have e:j3 x.aD T2 u=(A6k T2.b.kept u.1).foldl (A0U x.aD u) T2:=if_neg h2
     rw[e] at aA
     refine X3 (W5 ?_)
     refine A2j (g:=fun q R=>B1E r full (A0B nb ob ib x.aD) O T2 q R) (fun h R=>A0D.1) fun q=>?_
     refine X3 (j4 (b:=r) (i:=2) (v:=some ⟨q.kb,0,none⟩) ?_)
     refine X3 (W.load (b:=mn) (v:=u.1) ?_)
     refine X3 (j2 (C8t (b:=q.kb) (K:=T2.b.kept) (f:=u.1) j' (fun m hm=>hz.kept m (gr▸hm)) (hsz u al) (fun S=>At.un (x:=S) ?_)))
     refine W.dX (X:=A0B nb ob ib x.aD) (O:=O) T2 q ?_
     have tZ:(A6k T2.b.kept u.1).length≤64:=C7 (D3 _ _) j'
     generalize A6k T2.b.kept u.1=M at tZ aA⊢
     refine Z1 (X5 (enc:=A0i) (size:=3) (s:=S) (xs:=M)) fun kX=>?_
     refine X3 (W.loop (γ:=Nat×V0) (fun g s=>s.1=(g.1:Int)∧g.1≤M.length∧j7 g.2.b∧g.2.b.aB=T.b.aB∧g.2.b.aD.map (·.id)=T.b.aD.map (·.id)∧(M.drop g.1).foldl (A0U x.aD u) g.2=M.foldl (A0U x.aD u) T2∧g.2.outs.length≤20000000+320*g.1)
      (fun g s=>rbX r full (A0B nb ob ib x.aD) O g.2::U6 A0i 3 S M::cells mn (Y3 u).toArray::U6 (eKd .i64) 1 cS cs::cells x3 (W9 .i64 (pkT (j9 9 (p.2.2.2.2.1) 0) cS ⟨none,0,0⟩)).toArray::cells x1 (aS2 p)::U6 Y3 5 (A0K p) sl::L2) (fun g=>M.length-g.1) (0,T2) ⟨rfl,D1 _,bw,ll,jk,rfl,by simp only;omega⟩ ?_ ?_)
     ·show Sub _ (rbX r full (A0B nb ob ib x.aD) O T2::U6 A0i 3 S M::cells mn (Y3 u).toArray::U6 (eKd .i64) 1 cS cs::cells x3 (W9 .i64 (pkT (j9 9 (p.2.2.2.2.1) 0) cS ⟨none,0,0⟩)).toArray::cells x1 (aS2 p)::U6 Y3 5 (A0K p) sl::L2)
      repeat(first|with_reducible exact T7|with_reducible exact T8|refine U0 (by repeat first|with_reducible exact V1|apply V3) ?_|refine U1 ?_)
     rintro⟨l,T3⟩ s3 ⟨gM,rT,cV,nZ,oP,iv,oj⟩ K3 n1 n2
     simp only at gM rT cV nZ oP iv oj
     by_cases cW:l<M.length
     ·refine Y4 (by rw[gM,kX];exact decide_eq_true (by omega)) ?_
      have iy:M.drop l=M[l]::M.drop (l+1):=E1 cW
      have nV:M[l]? =some M[l]:=B0 cW
      rw[iy,H3] at iv
      generalize M[l]=m at nV iv
      have qF:=B0P (id:=x.aD) (s:=u) T3 m cV
      have ei:At (rbX r full (A0B nb ob ib x.aD) O (A0U x.aD u T3 m)::U6 A0i 3 S M::cells mn (Y3 u).toArray::U6 (eKd .i64) 1 cS cs::cells x3 (W9 .i64 (pkT (j9 9 (p.2.2.2.2.1) 0) cS ⟨none,0,0⟩)).toArray::cells x1 (aS2 p)::U6 Y3 5 (A0K p) sl::L2) (K3 (.inl (IntKind.wrap .i64 (s3.1+1),()))):=by
       refine n1 (l+1,A0U x.aD u T3 m) (IntKind.wrap .i64 (s3.1+1),()) (by simp only;omega) ⟨?_,cW,qF.ok,A5R.trans nZ,A9l.trans oP,iv,?_⟩
       ·simp only[gM];rw[V8 (by omega) (by omega)];rfl
       ·have:=qF.outs;simp only;omega
      clear n1 n2 iv
      have e9:∀s4∈T3.b.aD,s4.id=x.aD→A0U x.aD u T3 m=q7 x.aD (Y0 s4.out (m.1,m.2.1,min m.2.2.1 u.2.1,true,e0S)).1.2 (A0E (X7 x.aD (Y9 (Y0 s4.out (m.1,m.2.1,min m.2.2.1 u.2.1,true,e0S)).1.1) T3.b.aD) T3):=fun s4 ak hid=>by
       unfold A0U A0F
       rw[A3y cV.nd ak hid]
      refine j5 (enc:=A0i) (xs:=M) (i:=l) cW (fun a3 jR=>?_) (he:=gM)
      refine A4z (k:=2) (x:=m) (v:=m.2.2.1) jR nV ?_
      refine W.load (b:=mn) (v:=u.2.1) ?_
      refine j2 (C3i (a:=m.2.2.1) (b:=u.2.1) (At.un ?_))
      refine W5 ?_
      refine A2j (g:=fun q R=>B1E r full (A0B nb ob ib x.aD) O T3 q R) (fun h R=>A0D.1) fun q2=>?_
      refine B9S (fun h R hs=>(A5a (b:=q2.tb) (last:=T3.b.last) (A:=T3.b.aD)).1 hs) fun s4 ak=>?_
      rw[e9 s4 ak.1 ak.2] at ei
      have dc:=A4a (cV.bP s4 ak.1) (m.1,m.2.1,min m.2.2.1 u.2.1,true,e0S)
      refine W.load (b:=nb) (v:=some ⟨ob,0,none⟩) ?_
      refine j5 (enc:=A0i) (xs:=M) (i:=l) cW (fun a4 uA=>?_) (he:=gM)
      refine A4z (k:=0) (x:=m) (v:=m.1) uA nV ?_
      refine j5 (enc:=A0i) (xs:=M) (i:=l) cW (fun a5 rv=>?_) (he:=gM)
      refine A4z (k:=1) (x:=m) (v:=m.2.1) rv nV ?_
      refine Z3 (C0d (b:=ob) (o:=s4.out) (m:=(m.1,m.2.1,min m.2.2.1 u.2.1,true,e0S)) (cV.bP s4 ak.1) (fun S2=>At.bD (x:=(S2,(Y0 s4.out (m.1,m.2.1,min m.2.2.1 u.2.1,true,e0S)).2,())) ?_))
      refine B02 (A:=A0B nb ob ib x.aD q2.tb T3.b.last (X7 x.aD (Y9 (Y0 s4.out (m.1,m.2.1,min m.2.2.1 u.2.1,true,e0S)).1.1) T3.b.aD)) (B:=cells nb (rqC s4 ob ib)) (C:=a8 ob (Y0 s4.out (m.1,m.2.1,min m.2.2.1 u.2.1,true,e0S)).1.1) (D:=A1d ib s4.aZ) (E:=A3k q2.tb T3.b.last T3.b.aD s4 nb) (fun h hs=>B0z (f:=Y9 (Y0 s4.out (m.1,m.2.1,min m.2.2.1 u.2.1,true,e0S)).1.1) ak.1 ak.2 cV.nd rfl rfl h hs) ?_
      refine W5 ?_
      refine C3P ?_
      refine W.dX (X:=A0B nb ob ib x.aD) (O:=O) (A0E (X7 x.aD (Y9 (Y0 s4.out (m.1,m.2.1,min m.2.2.1 u.2.1,true,e0S)).1.1) T3.b.aD) T3) q2 ?_
      refine Z3 (A5b (X:=A0B nb ob ib x.aD) (O:=O) (T:=A0E (X7 x.aD (Y9 (Y0 s4.out (m.1,m.2.1,min m.2.2.1 u.2.1,true,e0S)).1.1) T3.b.aD) T3) (id:=x.aD) (ps:=(Y0 s4.out (m.1,m.2.1,min m.2.2.1 u.2.1,true,e0S)).1.2) yh (cV.one x.aD) (by have:=dc.2;show T3.outs.length+_≤_;omega) (by show T3.b.aB.length≤_;rw[nZ];exact hz.aB) (At.bD ?_))
      exact U3 ei.sub
     ·refine W8 (by rw[gM,kX];exact decide_eq_false (by omega)) (U3 (n2 _ _ (b7 (U3 ?_))))
      have hle:l=M.length:=by omega
      subst hle
      rw[J8,P3] at iv
      rw[←iv] at aA
      exact aA.sub
   ·rw[if_neg hr,F0] at fV
    have aA:=m1 (j+1,T2,rr.2) (IntKind.wrap .i64 (s2.1+1),()) (by simp only;omega) ⟨f1,bH,bw,gr,ll,jk,fV,by simp only;omega,vT⟩
    refine A1o (by simp[hr]) ?_
    exact b7 (U3 aA.sub)
  ·refine W8 (by rw[hj,hl];exact decide_eq_false (by omega)) (U3 (m2 _ _ ?_))
   have oO:j=sl.length:=by omega
   subst oO
   rw[J8] at fV
   simp only[added,P3] at fV
   rw[←fV] at hq
   subst hO
   refine A4V X1 4 ?_
   refine W.cY (A:=pkB .i64 (cS,⟨none,0,0⟩,A0S 9 (p.2.2.2.2.1) cs)) (B:=U6 (eKd .i64) 1 cS cs) (C:=U6 X1 4 ⟨none,0,0⟩ ([]:List q9)) (fun h hs=>A4K.2 hs) ?_
   refine W.cY (A:=rbX r full (A0B nb ob ib x.aD) (W0 .i64) T2) (B:=rbX r full (A0B nb ob ib x.aD) (A8S T.outs.length cS ⟨none,0,0⟩ (A0S 9 (p.2.2.2.2.1) cs)) T2) (C:=pkB .i64 (cS,⟨none,0,0⟩,A0S 9 (p.2.2.2.2.1) cs)) (fun h hs=>C5L h hs) ?_
   refine B9R (A:=rbX r full (A0B nb ob ib x.aD) (W0 .i64) T2) (B:=rbA r full (W0 .i64) T2) (fun h R hs=>A6T h R hs) ?_
   exact U3 hq.sub
end
section
open Go.H Go.Proofs
variable {h h0:Heap} {L L' L1 L2 L3 L4 R:List Asn} {Q:Value→Heap→Prop}
structure C6W(p:Pk)(pl:List q9)(sl:List A0G)(fl:List B38):Prop where
 bX:p.2.2.2.2.2.1.size≤9223372036854775800
 aC:(p.2.2.2.2.2.2.2.2.2.2.1).size≤9223372036854775800
 aX:(p.2.2.2.2.2.2.2.2.2.2.2.2.2.2.1).size≤9223372036854775800
 props:pl.length≤100
 aH:sl.length≤100
 sub:∀s∈sl,s.1.size≤9223372036854775800
 eP:fl.length≤100
theorem C8q{r n nb ob ib:Nat}{full:Bool}{T:V0}{x:Y6}{p:Pk}{pl:List q9}{sl:List A0G}{fl:List B38}(ag:X4 T.b n)(hz:Szs T.b)(ed:∀s∈T.b.aD,s.aZ.ok)(hc:A1E x.c T.b.aB=some x)(hb:T.outs.length≤10000000)(hp:T.aT.length≤100000000)(dB:C6W p pl sl fl)
  (hq:At (rbA r full (W0 .i64) (A8T full x (pkI p pl sl fl) T)::L3) (Q (.tuple #[])))(hx:Has L (rbX r full (A0B nb ob ib x.aD) (W0 .i64) T) L1:=by repeat first|with_reducible exact V1|apply V3)(hy:Has L1 (U6 Y3 5 (A0K p) sl) L2:=by repeat first|with_reducible exact V1|apply V3)(hw:Has L2 (U6 A0g 1 (A4w p) fl) L3:=by repeat first|with_reducible exact V1|apply V3):
  FW prog 91 #[at0 r,.int .i64 x.c,at0 nb,A2z .i64 p] L Q:=by
 refine fun h hs=>B4p (some ⟨r,0,none⟩) x.c (some ⟨nb,0,none⟩) p h Q ((?_:W (rbX r full (A0B nb ob ib x.aD) (W0 .i64) T::U6 Y3 5 (A0K p) sl::U6 A0g 1 (A4w p) fl::L3) _ _) h ((hx.cU hy hw).s hs))
 clear hs h hx hy hw
 have wk:=ag.s2k
 obtain⟨T9,aK⟩:∃T9,T9=A8T full x (pkI p pl sl fl) T:=⟨_,rfl⟩
 rw[←aK] at hq
 unfold A8T at aK
 dsimp only at aK
 delta B7P az bn cx g2 ie jc ji ki kp nn nw pu ve vi vs vz
 refine Y2 fun x1=>?_
 refine Z1 (X5 (enc:=Y3) (size:=5) (s:=A0K p) (xs:=sl)) fun cH=>?_
 refine Z1 (X5 (enc:=A0g) (size:=1) (s:=A4w p) (xs:=fl)) fun cq=>?_
 refine A1g (fun r=>r.1=decide (1≤p.2.2.2.2.1∧p.2.2.2.2.1≤65535)) (fun K hK=>?_) (fun rn gn=>?_)
 ·refine W.load (b:=x1) (v:=p.2.2.2.2.1) ?_
  refine A0l (fun h1=>?_) (fun h1=>?_)
  ·refine W.load (b:=x1) (v:=p.2.2.2.2.1) ?_
   refine U3 (hK _ ?_)
   simp only[decide_eq_true_eq] at h1
   simp[h1]
  ·refine U3 (hK _ ?_)
   simp only[decide_eq_false_iff_not] at h1
   simp[h1]
 refine W.load (b:=x1) (v:=p.1) ?_
 refine A1g (fun r=>r.1=decide (p.1=3∨p.1=6)) (fun K hK=>?_) (fun r1 fc=>?_)
 ·refine A0l (fun g0=>U3 (hK _ ?_)) (fun g0=>U3 (hK _ ?_))
  ·simp only[P9] at g0;simp[g0]
  simp only[H7,ne_eq] at g0
  by_cases e:p.1=6
  ·simp[e]
  ·simp[e,g0]
 by_cases hk:p.1=3∨p.1=6
 ·rw[if_pos hk] at aK
  subst aK
  refine Y4 (by rw[fc];exact decide_eq_true hk) ?_
  refine s7 (b:=x1) (v:=p) ?_
  refine Z3 (C7l (O:=W0 .i64) (T:=T) (x:=x) (p:=p) (pl:=pl) (sl:=sl) (fl:=fl) A4c ag.toj7 hz ed hc (by omega) (by omega) dB.bX (At.bD ?_))
  exact U3 hq.sub
 rw[if_neg hk] at aK
 refine W8 (by rw[fc];exact decide_eq_false hk) ?_
 clear fc hk
 refine A1g (fun r=>r.1=decide (p.1=4∨p.1=5∨p.1=7)) (fun K hK=>?_) (fun r2 ck=>?_)
 ·refine A0l (fun g0=>U3 (hK _ ?_)) (fun g0=>?_)
  ·simp only[P9] at g0;simp[g0]
  refine C89 (fun g1=>b7 (U3 (hK _ ?_))) (fun g1=>b7 (U3 (hK _ ?_)))
  ·simp only[P9] at g1;simp[g1]
  simp only[H7,ne_eq] at g0;simp only[H7,ne_eq] at g1
  by_cases e:p.1=7
  ·simp[e]
  ·simp[e,g0,g1]
 by_cases hk:p.1=4∨p.1=5∨p.1=7
 ·rw[if_pos hk] at aK
  refine Y4 (by rw[ck];exact decide_eq_true hk) ?_
  unfold A2I A0F at aK
  refine W5 ?_
  refine A2j (g:=fun q R=>B1E r full (A0B nb ob ib x.aD) (W0 .i64) T q R) (fun h R=>A0D.1) fun q=>?_
  refine B9S (fun h R hs=>(A5a (b:=q.tb) (last:=T.b.last) (A:=T.b.aD)).1 hs) fun s hs=>?_
  obtain⟨hs,hid⟩:=hs
  simp only[A3y ag.nd hs hid] at aK
  have dc:=B43 (ag.bP s hs) p.1 p.2.2.2.2.1 p.2.2.2.2.2.2.2.1
  have qP:=C1s (o:=s.out) (k:=p.1) (id:=p.2.2.2.2.1) (c:=p.2.2.2.2.2.2.2.1)
  refine W.load (b:=nb) (v:=some ⟨ob,0,none⟩) ?_
  refine s7 (b:=x1) (v:=p) ?_
  refine Z3 (C7m (b:=ob) (o:=s.out) (p:=p) (ag.bP s hs) (fun S=>At.bD (x:=(S,(A0R s.out p.1 p.2.2.2.2.1 p.2.2.2.2.2.2.2.1).2,())) ?_))
  generalize A0R s.out p.1 p.2.2.2.2.1 p.2.2.2.2.2.2.2.1=rr at aK dc qP⊢
  by_cases av:rr.2=0
  ·rw[if_neg (by simpa using av)] at aK
   refine W8 (by simp[av]) ?_
   refine B02 (A:=A0B nb ob ib x.aD q.tb T.b.last (X7 x.aD (Y9 rr.1.1) T.b.aD)) (B:=cells nb (rqC s ob ib)) (C:=a8 ob rr.1.1) (D:=A1d ib s.aZ) (E:=A3k q.tb T.b.last T.b.aD s nb) (fun h ae=>B0z (f:=Y9 rr.1.1) hs hid ag.nd rfl rfl h ae) ?_
   refine W5 ?_
   refine C3P ?_
   refine W.dX (X:=A0B nb ob ib x.aD) (O:=W0 .i64) (A0E (X7 x.aD (Y9 rr.1.1) T.b.aD) T) q ?_
   refine Z3 (A5b (X:=A0B nb ob ib x.aD) (O:=W0 .i64) (T:=A0E (X7 x.aD (Y9 rr.1.1) T.b.aD) T) (id:=x.aD) (ps:=rr.1.2) A4c (ag.one x.aD) (by have:=dc.2;simp only;omega) hz.aB (At.bD ?_))
   subst aK
   refine B9R (A:=rbX r full (A0B nb ob ib x.aD) (W0 .i64) (q7 x.aD rr.1.2 (A0E (X7 x.aD (Y9 rr.1.1) T.b.aD) T))) (B:=rbA r full (W0 .i64) (q7 x.aD rr.1.2 (A0E (X7 x.aD (Y9 rr.1.1) T.b.aD) T))) (fun h R hs=>A6T h R hs) ?_
   exact U3 hq.sub
  ·rw[if_pos (by simpa using av)] at aK
   refine Y4 (by simp[av]) ?_
   rw[qP av]
   refine B02 (A:=A0x q.tb T.b.last T.b.aD) (B:=cells nb (rqC s ob ib)) (C:=a8 ob s.out) (D:=A1d ib s.aZ) (E:=A3k q.tb T.b.last T.b.aD s nb) (fun h ae=>A6N h ae) ?_
   refine W.rb (O:=W0 .i64) T q ?_
   refine Z3 (A3P (O:=W0 .i64) (T:=T) (c:=x.c) (code:=rr.2) A4c ag.toj7 hz (by omega) (by omega) (At.bD ?_))
   subst aK
   exact U3 hq.sub
 rw[if_neg hk] at aK
 refine W8 (by rw[ck];exact decide_eq_false hk) ?_
 clear ck hk
 have tA:∀h R,sat h (rbX r full (A0B nb ob ib x.aD) (W0 .i64) T::R)→sat h (rbA r full (W0 .i64) T::R):=fun h R hs=>A6T h R hs
 by_cases h8:p.1=8
 ·refine A1o (by simpa using h8) ?_
  refine X3 (A1g (fun r=>r.1=decide (1≤p.2.2.2.2.1∧p.2.2.2.2.1≤65535∧sl≠[])) (fun K hK=>?_) (fun r3 kT=>?_))
  ·refine A0l (fun g1=>?_) (fun g1=>U3 (hK _ ?_))
   ·rw[gn] at g1
    refine W.load (b:=x1) (v:=A0K p) ?_
    refine U3 (hK _ ?_)
    have g1:=of_decide_eq_true g1
    cases sl with
    |nil=>simp[cH]
    |cons a l=>simp[cH,g1]
   ·rw[gn] at g1
    have g1:=of_decide_eq_false g1
    exact(decide_eq_false fun e=>g1 ⟨e.1,e.2.1⟩).symm
  by_cases hk:1≤p.2.2.2.2.1∧p.2.2.2.2.1≤65535∧sl≠[]
  ·rw[if_pos ⟨h8,hk⟩] at aK
   subst aK
   refine A1o (by rw[kT];exact decide_eq_true hk) ?_
   refine X3 (s7 (b:=x1) (v:=p) ?_)
   refine X3 (Z3 (B8W (T:=T) (x:=x) (p:=p) (pl:=pl) (sl:=sl) (fl:=fl) ag.toj7 hz hc hb (by have:=dB.aH;omega) dB.aH dB.sub (At.bD ?_)))
   exact b7 (W.inr (U3 hq.sub))
  ·rw[if_neg (fun e=>hk e.2),if_neg (by omega),if_neg (by omega),if_neg (by omega)] at aK
   subst aK
   refine o5 (by rw[kT];exact decide_eq_false hk) ?_
   refine b7 (W.inl ?_)
   refine B9R tA ?_
   refine Z3 (A3P (O:=W0 .i64) (T:=T) (c:=x.c) (code:=130) A4c ag.toj7 hz (by omega) (by omega) (At.bD ?_))
   exact U3 hq.sub
 rw[if_neg (fun e=>h8 e.1)] at aK
 refine o5 (by simpa using h8) ?_
 refine X3 ?_
 by_cases fZ:p.1=10
 ·refine A1o (by simpa using fZ) ?_
  refine X3 (A1g (fun r=>r.1=decide (1≤p.2.2.2.2.1∧p.2.2.2.2.1≤65535∧fl≠[])) (fun K hK=>?_) (fun r3 kT=>?_))
  ·refine A0l (fun g1=>?_) (fun g1=>U3 (hK _ ?_))
   ·rw[gn] at g1
    refine W.load (b:=x1) (v:=A4w p) ?_
    refine U3 (hK _ ?_)
    have g1:=of_decide_eq_true g1
    cases fl with
    |nil=>simp[cq]
    |cons a l=>simp[cq,g1]
   ·rw[gn] at g1
    have g1:=of_decide_eq_false g1
    exact(decide_eq_false fun e=>g1 ⟨e.1,e.2.1⟩).symm
  by_cases hk:1≤p.2.2.2.2.1∧p.2.2.2.2.1≤65535∧fl≠[]
  ·rw[if_pos ⟨fZ,hk⟩] at aK
   subst aK
   refine A1o (by rw[kT];exact decide_eq_true hk) ?_
   refine X3 (s7 (b:=x1) (v:=p) ?_)
   refine X3 (Z3 (B5i (T:=T) (x:=x) (p:=p) (pl:=pl) (sl:=sl) (fl:=fl) ag.toj7 hb dB.eP (At.bD ?_)))
   exact b7 (b7 (W.inr (U3 hq.sub)))
  ·rw[if_neg (fun e=>hk e.2),if_neg (by omega),if_neg (by omega)] at aK
   subst aK
   refine o5 (by rw[kT];exact decide_eq_false hk) ?_
   refine b7 (b7 (W.inl ?_))
   refine B9R tA ?_
   refine Z3 (A3P (O:=W0 .i64) (T:=T) (c:=x.c) (code:=130) A4c ag.toj7 hz (by omega) (by omega) (At.bD ?_))
   exact U3 hq.sub
 rw[if_neg (fun e=>fZ e.1)] at aK
 refine o5 (by simpa using fZ) ?_
 refine B9R tA ?_
 by_cases sd:p.1=12
 ·rw[if_pos sd] at aK
  subst aK
  refine A1o (by simpa using sd) ?_
  refine B7C (k:=.i64) (j9 13 0 0) rfl rfl ?_
  refine X3 (Z3 (B4U (X:=A0x) (O:=W0 .i64) (T:=T) (c:=x.c) (o:=j9 13 0 0) (ci:=⟨none,0,0⟩) (pi:=⟨none,0,0⟩) A4c (by omega) (At.bD ?_)))
  exact b7 (b7 (W.inr (U3 hq.sub)))
 rw[if_neg sd] at aK
 refine o5 (by simpa using sd) ?_
 by_cases rZ:p.1=14
 ·rw[if_pos rZ] at aK
  subst aK
  refine A1o (by simpa using rZ) ?_
  refine X3 (W.load (b:=x1) (v:=p.2.2.2.2.2.2.2.1) ?_)
  have e:(p.2.2.2.2.2.2.2.1==4)=decide (p.2.2.2.2.2.2.2.1=4):=rfl
  refine X3 (Z3 (B85 (O:=W0 .i64) (T:=T) (c:=x.c) (aX:=p.2.2.2.2.2.2.2.1==4) A4c ag.toj7 hz (by omega) (by omega) (At.bD ?_)))
  rw[e]
  exact b7 (b7 (W.inr (U3 hq.sub)))
 rw[if_neg rZ] at aK
 subst aK
 refine o5 (by simpa using rZ) ?_
 refine b7 (b7 (W.inl ?_))
 refine Z3 (A3P (O:=W0 .i64) (T:=T) (c:=x.c) (code:=130) A4c ag.toj7 hz (by omega) (by omega) (At.bD ?_))
 exact U3 hq.sub
end
section
open Go.H Go.Proofs
variable {h h0:Heap} {L L' L1 L2 L3 L4 R:List Asn} {Q:Value→Heap→Prop}
theorem C3h{b:Nat}:∀h,sat h (cells b #[.int .i64 0,.slice none 0 0]::R)→sat h (A0x b 0 []::R):=fun h hs=>by
 have h1:=Z5 (enc:=eQ) (size:=1) hs
 have h2:sat h (a7 (fun p:Nat×V7=>rsA p.1 p.2) []::U6 eQ 1 ⟨none,0,0⟩ []::cells b #[.int .i64 0,.slice none 0 0]::R):=A2D.2 h1
 exact A06.2 ⟨⟨none,0,0⟩,[],rfl,h2.re [2,1,0]⟩
theorem C5D{b:Nat}{last:Int}{A:List V7}:∀h R,sat h (A0x b last A::R)→∃(S:Slc) (M:{M:List (Nat×V7) // M.map (·.2)=A}),sat h (cells b #[.int .i64 last,.slice S.a S.len S.cap]::U6 eQ 1 S (M.1.map (·.1))::a7 (fun p=>rsA p.1 p.2) M.1::R):=fun h R hs=>by
 obtain⟨S,M,hM,h1⟩:=A06.1 hs
 exact⟨S,⟨M,hM⟩,h1⟩
theorem C4i{r n:Nat}{full:Bool}{T:V0}{p:Pk}{pl:List q9}{sl:List A0G}{fl:List B38}(ag:X4 T.b n)(hz:Szs T.b)(dB:C6W p pl sl fl)
  (hq:At (rbA r full (W0 .i64) T::L1) (Q (.int .i64 (A6t (pkI p pl sl fl) T.b))))(hx:Has L (rbA r full (W0 .i64) T) L1:=by repeat first|with_reducible exact V1|apply V3):
  FW prog 147 #[at0 r,A2z .i64 p] L Q:=by
 refine fun h hs=>B0F (some ⟨r,0,none⟩) p h Q ((?_:W (rbA r full (W0 .i64) T::L1) _ _) h (hx.s hs))
 clear hs h hx
 unfold A6t at hq
 dsimp only at hq
 delta B1l ad az bn ci cp ie jb jt kc kp kt nn nw pu vi vz
 refine Y2 fun x1=>?_
 refine j4 (b:=x1) (i:=14) (v:=p.2.2.2.2.2.2.2.2.2.2.2.2.2.2.1) ?_
 refine j2 (C3n dB.aX (At.un (x:=A2X (p.2.2.2.2.2.2.2.2.2.2.2.2.2.2.1)) ?_))
 refine A1g (fun r=>r.1=(p.2.2.2.2.2.2.2.2.2.2.2.2.2.1&& !Z6 (p.2.2.2.2.2.2.2.2.2.2.2.2.2.2.1))) (fun K hK=>?_) (fun r0 hr=>?_)
 ·refine W.load (b:=x1) (v:=p.2.2.2.2.2.2.2.2.2.2.2.2.2.1) ?_
  refine A0l (fun h3=>?_) (fun h3=>?_)
  ·refine U3 (At.sub (hK _ ?_))
   simp only[h3,G4]
   unfold A2X
   cases Z6 (p.2.2.2.2.2.2.2.2.2.2.2.2.2.2.1)<;>rfl
  ·refine U3 (hK _ ?_)
   simp[h3]
 obtain⟨r0,_⟩:=r0
 simp only at hr
 subst hr
 refine A0l (fun h1=>?_) (fun h1=>?_)
 ·rw[if_pos (by simpa using h1)] at hq
  exact U3 hq.sub
 rw[if_neg (by simpa using h1)] at hq
 refine W5 ?_
 refine A2j (g:=fun q R=>rbL r full (W0 .i64) T q R) (fun h R=>A0T.1) fun q=>?_
 refine Z1 (X5 (enc:=A0h) (size:=8) (s:=q.sc) (xs:=T.b.aB)) fun hl=>?_
 refine j4 (b:=r) (i:=3) (v:=q.sc) ?_
 by_cases rX:64≤T.b.aB.length
 ·rw[if_pos rX] at hq
  refine Y4 (by rw[hl];exact decide_eq_true (by omega)) ?_
  refine W.rb (O:=W0 .i64) T q ?_
  exact U3 hq.sub
 rw[if_neg rX] at hq
 refine W8 (by rw[hl];exact decide_eq_false (by omega)) ?_
 refine Y2 fun x8=>?_
 refine C79 (A:=A0x x8 0 []) (B:=cells x8 #[.int .i64 0,.slice none 0 0]) (fun h hs=>C3h h hs) ?_
 refine W.load (b:=x1) (v:=p.2.2.2.2.2.2.2.2.2.2.1) ?_
 refine Z3 (C0q (b:=x8) (last:=0) (A:=[]) (c:=p.2.2.2.2.2.2.2.2.2.2.1) (clean:=false) (aN:=false) dB.aC (S8 _) (by decide) (by simp) (by simp) (by simp) (At.bD (x:=((y8 0 [] (p.2.2.2.2.2.2.2.2.2.2.1) false false).1.2.1,(y8 0 [] (p.2.2.2.2.2.2.2.2.2.2.1) false false).1.2.2,(y8 0 [] (p.2.2.2.2.2.2.2.2.2.2.1) false false).1.1,())) ?_))
 have kh:(y8 0 [] (p.2.2.2.2.2.2.2.2.2.2.1) false false).1.1=if b6 (p.2.2.2.2.2.2.2.2.2.2.1) then 0 else 133:=by
  unfold y8
  by_cases hg:b6 (p.2.2.2.2.2.2.2.2.2.2.1)
  ·simp[hg,ofS]
  ·simp[hg]
 by_cases hg:b6 (p.2.2.2.2.2.2.2.2.2.2.1)
 case neg=>
  rw[if_pos hg] at hq
  refine Y4 (by rw[kh,if_neg hg];rfl) ?_
  refine W.rb (O:=W0 .i64) T q ?_
  exact U3 hq.sub
 rw[if_neg (fun e=>e hg)] at hq
 refine W8 (by rw[kh,if_pos hg];rfl) ?_
 clear kh
 refine W5 ?_
 refine j4 (b:=r) (i:=0) (v:=some ⟨q.tb,0,none⟩) ?_
 refine W.load (b:=x1) (v:=p.2.2.2.2.2.2.2.2.2.2.1) ?_
 refine j2 (B88 (b:=q.tb) (last:=T.b.last) (A:=T.b.aD) (c:=p.2.2.2.2.2.2.2.2.2.2.1) hz.aD ag.eB (fun ho=>At.un (x:=none) ?_) (fun s ho nb ob ib=>At.un (x:=some ⟨nb,0,none⟩) ?_))
 ·rw[ho] at hq
  refine A1o rfl ?_
  refine X3 (W5 ?_)
  refine X3 (j4 (b:=r) (i:=0) (v:=some ⟨q.tb,0,none⟩) ?_)
  refine X3 (W5 ?_)
  refine A9f (g:=fun S (M:{M:List (Nat×V7) // M.map (·.2)=T.b.aD}) R=>cells q.tb #[.int .i64 T.b.last,.slice S.a S.len S.cap]::U6 eQ 1 S (M.1.map (·.1))::a7 (fun p=>rsA p.1 p.2) M.1::R) (fun h R hs=>C5D h R hs) fun S M=>?_
  refine Z1 (X5 (enc:=eQ) (size:=1) (s:=S) (xs:=M.1.map (·.1))) fun fi=>?_
  have xy:(M.1.map (·.1)).length=T.b.aD.length:=by have:=congrArg List.length M.2;rw[C1] at this;rw[C1];exact this
  rw[xy] at fi
  refine X3 (W.load (b:=q.tb) (v:=S) ?_)
  refine B2x (A:=A0x q.tb T.b.last T.b.aD) (B:=cells q.tb #[.int .i64 T.b.last,.slice S.a S.len S.cap]) (C:=U6 eQ 1 S (M.1.map (·.1))) (D:=a7 (fun p=>rsA p.1 p.2) M.1) (fun h hs=>A06.2 ⟨S,M.1,M.2,hs⟩) ?_
  refine W.rb (O:=W0 .i64) T q ?_
  refine b7 ?_
  by_cases eK:32≤T.b.aD.length
  ·rw[if_pos ⟨rfl,eK⟩] at hq
   refine Y4 (by rw[fi];exact decide_eq_true (by omega)) ?_
   exact U3 hq.sub
  ·rw[if_neg (fun e=>eK e.2)] at hq
   refine W8 (by rw[fi];exact decide_eq_false (by omega)) ?_
   exact U3 hq.sub
 ·rw[ho,if_neg (by simp)] at hq
  refine o5 rfl (b7 ?_)
  refine W8 rfl ?_
  refine B02 (A:=A0x q.tb T.b.last T.b.aD) (B:=cells nb (rqC s ob ib)) (C:=a8 ob s.out) (D:=A1d ib s.aZ) (E:=A3k q.tb T.b.last T.b.aD s nb) (fun h ae=>A6N h ae) ?_
  refine W.rb (O:=W0 .i64) T q ?_
  exact U3 hq.sub
end
section
open Go.H Go.Proofs
variable {h h0:Heap} {L L' L1 L2 L3 L4 R:List Asn} {Q:Value→Heap→Prop}
theorem C7T{α β γ:Type}{m:HM γ}{f:γ→HM α}{g:α→HM β}{Q':β→Heap→Prop}(hw:W L (HM.bind (HM.bind m f) g) Q'):W L (HM.bind m fun x=>HM.bind (f x) g) Q':=hw
theorem C4B{full:Bool}{c:B38}{T:V0}(h:j7 T.b)(bU:(T.b.aB.map (·.c)).Nodup):(A0O full c T).b.aB.length≤T.b.aB.length:=by
 unfold A0O
 split
 ·rw[(C0K h bU).2.2.2.1];exact D3 _ _
 ·exact D8 _
theorem C10{r n:Nat}{full:Bool}{T:V0}{c:Int}{p:Pk}{pl:List q9}{sl:List A0G}{fl:List B38}(ag:X4 T.b n)(hn:n≤1000000)(hz:Szs T.b)(im:A1E c T.b.aB=none)(bO: -9223372036854775808≤c∧c≤9223372036854775807)(hb:T.outs.length≤10000000)(hp:T.aT.length≤100000000)(dB:C6W p pl sl fl)
  (hq:At (rbA r full (W0 .i64) (A1m full c (pkI p pl sl fl) T)::L2) (Q (.tuple #[])))(hx:Has L (rbA r full (W0 .i64) T) L1:=by repeat first|with_reducible exact V1|apply V3)(hy:Has L1 (U6 X1 4 (A0r p) pl) L2:=by repeat first|with_reducible exact V1|apply V3):
  FW prog 92 #[at0 r,.int .i64 c,A2z .i64 p] L Q:=by
 refine fun h hs=>A9K (some ⟨r,0,none⟩) c p h Q ((?_:W (rbA r full (W0 .i64) T::U6 X1 4 (A0r p) pl::L2) _ _) h ((hx.then hy).s hs))
 clear hs h hx hy
 have bU:=hz.nd
 delta A95 ad az bn cc ci cp cx g2 g7 ie ix jb jc ji jt kb kc ki kp kt nn nw pu rq sn sx ve vi vs vz wi
 refine Y2 fun x1=>?_
 refine s7 (b:=x1) (v:=p) ?_
 refine j2 (C4i (T:=T) (p:=p) (pl:=pl) (sl:=sl) (fl:=fl) ag hz dB (At.un (x:=A6t (pkI p pl sl fl) T.b) ?_))
 unfold A1m at hq
 obtain⟨code,hr⟩:∃code,code=A6t (pkI p pl sl fl) T.b:=⟨_,rfl⟩
 rw[←hr] at hq⊢
 by_cases av:code=0
 case neg=>
  rw[if_pos av] at hq
  refine Y4 (by simp[av]) ?_
  refine B7C (k:=.i64) (j9 2 0 code) rfl rfl ?_
  refine Z3 (B8X (X:=A0x) (O:=W0 .i64) (T:=T) (c:=c) (o:=j9 2 0 code) (ci:=⟨none,0,0⟩) (pi:=⟨none,0,0⟩) A4c (by omega) (At.bD ?_))
  exact U3 hq.sub
 refine W8 (by simp[av]) ?_
 rw[if_neg (fun e=>e av)] at hq
 obtain⟨T1,bR⟩:∃T1,T1=A0O full (p.2.2.2.2.2.2.2.2.2.2.1) T:=⟨_,rfl⟩
 refine W5 ?_
 refine A2j (g:=fun q R=>rbL r full (W0 .i64) T q R) (fun h R=>A0T.1) fun q=>?_
 refine j4 (b:=r) (i:=0) (v:=some ⟨q.tb,0,none⟩) ?_
 refine W.load (b:=x1) (v:=(p.2.2.2.2.2.2.2.2.2.2.1)) ?_
 refine C7T ?_
 refine C46 (fun a=>a.1=match ofS (p.2.2.2.2.2.2.2.2.2.2.1) T.b.aD with|some s=>s.id|none=>0) (fun _=>rbA r full (W0 .i64) T1::cells x1 (aS2 p)::U6 X1 4 (A0r p) pl::L2) (fun K hK=>?_) (fun a ha=>?_)
 ·clear hq
  unfold A0O at bR
  refine j2 (B88 (b:=q.tb) (last:=T.b.last) (A:=T.b.aD) (c:=(p.2.2.2.2.2.2.2.2.2.2.1)) hz.aD ag.eB (fun ho=>At.un (x:=none) ?_) (fun s ho nb ob ib=>At.un (x:=some ⟨nb,0,none⟩) ?_))
  ·rw[ho] at bR hK
   simp only at bR
   subst bR
   refine W8 rfl (U3 ?_)
   refine At.rb (O:=W0 .i64) T1 q ?_
   exact(hK (0,()) rfl).sub
  ·rw[ho] at bR hK
   simp only at bR
   refine Y4 rfl ?_
   refine W5 ?_
   refine W.load (b:=nb) (v:=s.id) ?_
   refine B02 (A:=A0x q.tb T.b.last T.b.aD) (B:=cells nb (rqC s ob ib)) (C:=a8 ob s.out) (D:=A1d ib s.aZ) (E:=A3k q.tb T.b.last T.b.aD s nb) (fun h ae=>A6N h ae) ?_
   refine W.rb (O:=W0 .i64) T q ?_
   refine W.loop (γ:=Nat) (fun g s'=>s'.1=(g:Int)∧g≤T.b.aB.length∧(T.b.aB.take g).filter (fun x=>decide (x.aD=s.id))=[]) (fun g s'=>rbA r full (W0 .i64) T::cells x1 (aS2 p)::U6 X1 4 (A0r p) pl::L2) (fun g=>T.b.aB.length-g) 0 ⟨rfl,D1 _,rfl⟩ ?_ ?_
   ·show Sub _ (rbA r full (W0 .i64) T::cells x1 (aS2 p)::U6 X1 4 (A0r p) pl::L2)
    repeat(first|with_reducible exact T7|with_reducible exact T8|refine U0 (by repeat first|with_reducible exact V1|apply V3) ?_|refine U1 ?_)
   rintro i s' ⟨hi,cn,ay⟩ K' k1 k2
   refine W5 ?_
   refine A2j (g:=fun q R=>rbL r full (W0 .i64) T q R) (fun h R=>A0T.1) fun q2=>?_
   refine Z1 (X5 (enc:=A0h) (size:=8) (s:=q2.sc) (xs:=T.b.aB)) fun hl=>?_
   refine j4 (b:=r) (i:=3) (v:=q2.sc) ?_
   by_cases ah:i<T.b.aB.length
   ·refine Y4 (by rw[hi,hl];exact decide_eq_true (by omega)) ?_
    have aY:T.b.aB[i]? =some T.b.aB[i]:=B0 ah
    have aV:T.b.aB.take (i+1)=T.b.aB.take i++[T.b.aB[i]]:=C4 ah
    have rL:T.b.aB[i]∈T.b.aB:=G8 ah
    generalize T.b.aB[i]=z at aY aV rL
    refine W5 ?_
    refine j4 (b:=r) (i:=3) (v:=q2.sc) ?_
    refine j5 (enc:=A0h) (xs:=T.b.aB) (i:=i) ah (fun a ha=>?_) (he:=hi)
    refine A4z (k:=1) (x:=z) (v:=z.aD) ha aY ?_
    by_cases rK:z.aD=s.id
    ·refine Y4 (by simpa using rK) ?_
     refine W5 ?_
     refine j4 (b:=r) (i:=3) (v:=q2.sc) ?_
     refine j5 (enc:=A0h) (xs:=T.b.aB) (i:=i) ah (fun a ha=>?_) (he:=hi)
     refine A4z (k:=0) (x:=z) (v:=z.c) ha aY ?_
     refine W.rb (O:=W0 .i64) T q2 ?_
     have e:T1=A0C full z.c 142 T:=by rw[bR];unfold A28;rw[B8h ag.toj7 rL rK]
     subst e
     refine Z3 (A3P (O:=W0 .i64) (T:=T) (c:=z.c) (code:=142) A4c ag.toj7 hz (by omega) (by omega) (At.bD ?_))
     exact U3 (k2 _ _ (U3 (hK (s.id,()) rfl).sub))
    ·refine W8 (by simpa using rK) ?_
     have gW:=k1 (i+1) (IntKind.wrap .i64 (s'.1+1),()) (by omega) ⟨by simp only[hi];rw[V8 (by omega) (by have:=hz.aB;omega)];rfl,ah,by rw[aV,F2,ay,F9 (by simpa using rK)];rfl⟩
     refine W.rb (O:=W0 .i64) T q2 ?_
     exact U3 gW.sub
   ·refine W8 (by rw[hi,hl];exact decide_eq_false (by omega)) (U3 (k2 _ _ (U3 ?_)))
    rw[D4 (by omega)] at ay
    have e:T1=T:=by
     rw[bR];unfold A28
     rw[E8.2 fun x hx=>by simpa using J0.1 ay x hx]
    subst e
    refine At.rb (O:=W0 .i64) T1 q2 ?_
    exact(hK (s.id,()) rfl).sub
 obtain⟨old,_⟩:=a
 simp only at ha
 have gv:b6 (p.2.2.2.2.2.2.2.2.2.2.1)∧(ofS (p.2.2.2.2.2.2.2.2.2.2.1) T.b.aD=none→T.b.aD.length<32):=by
  rw[av] at hr
  unfold A6t at hr
  simp only at hr
  split at hr
  ·cases hr
  ·split at hr
   ·cases hr
   ·split at hr
    ·cases hr
    ·rename_i hg
     split at hr
     ·cases hr
     ·rename_i eK
      refine⟨O2 hg,fun ho=>?_⟩
      exact Nat.lt_of_not_le fun h=>eK ⟨ho,h⟩
 obtain⟨ej,gr,oN,iU,jj,ke⟩:=B11 (full:=full) (c:=(p.2.2.2.2.2.2.2.2.2.2.1)) ag bU gv.2
 have xG:=C4B (full:=full) (c:=(p.2.2.2.2.2.2.2.2.2.2.1)) ag.toj7 bU
 rw[←bR] at ej gr oN iU jj ke xG
 refine W.load (b:=x1) (v:=A0r p) ?_
 refine Z3 (C3k (S:=A0r p) (pl:=pl) (id:=17) (by have:=dB.props;omega) (At.bD (x:=(prU ((A0Z 17 pl).getD (0,0,e0S,e0S)),(A0Z 17 pl).isSome,())) ?_))
 refine Y2 fun pq=>?_
 refine A0n ?_
 refine W5 ?_
 refine A2j (g:=fun q R=>rbL r full (W0 .i64) T1 q R) (fun h R=>A0T.1) fun q4=>?_
 refine j4 (b:=r) (i:=0) (v:=some ⟨q4.tb,0,none⟩) ?_
 refine W.load (b:=x1) (v:=(p.2.2.2.2.2.2.2.2.2.2.1)) ?_
 refine W.load (b:=x1) (v:=(p.2.2.2.2.2.2.2.2.2.2.2.1)) ?_
 refine W.load (b:=pq) (v:=((A0Z 17 pl).getD (0,0,e0S,e0S)).2.1) ?_
 rw[C0O]
 obtain⟨oe,lq,lr,lv⟩:=B8B (B:=T1.b) (clean:=(p.2.2.2.2.2.2.2.2.2.2.2.1)) (aN:=A0c pl) gv.1 jj
 refine Z3 (C0q (b:=q4.tb) (last:=T1.b.last) (A:=T1.b.aD) (c:=(p.2.2.2.2.2.2.2.2.2.2.1)) (clean:=(p.2.2.2.2.2.2.2.2.2.2.2.1)) (aN:=A0c pl) dB.aC ej.cX (by have:=ej.cL;omega) (by have:=ej.n32;omega) ej.nd ej.eB (At.bD (x:=((y8 T1.b.last T1.b.aD (p.2.2.2.2.2.2.2.2.2.2.1) (p.2.2.2.2.2.2.2.2.2.2.2.1) (A0c pl)).1.2.1,(y8 T1.b.last T1.b.aD (p.2.2.2.2.2.2.2.2.2.2.1) (p.2.2.2.2.2.2.2.2.2.2.2.1) (A0c pl)).1.2.2,(y8 T1.b.last T1.b.aD (p.2.2.2.2.2.2.2.2.2.2.1) (p.2.2.2.2.2.2.2.2.2.2.2.1) (A0c pl)).1.1,())) ?_))
 have qA:A1E c T1.b.aB=none:=E8.2 fun y hy=>by
  have:=E8.1 im y (iU y hy).1
  exact this
 obtain⟨bS,s5,ai,gu⟩:=B61 (B:=T1.b) (o:=ofS (p.2.2.2.2.2.2.2.2.2.2.1) T.b.aD) (aC:=(p.2.2.2.2.2.2.2.2.2.2.1)) (clean:=(p.2.2.2.2.2.2.2.2.2.2.2.1)) (aN:=A0c pl) (x:=⟨c,(b9 (p.2.2.2.2.2.2.2.2.2.2.1) (p.2.2.2.2.2.2.2.2.2.2.2.1) (A0c pl) T1.b).1.1,p.2.2.2.2.2.2.2.2.2.2.2.2.2.1,(p.2.2.2.2.2.2.2.2.2.2.2.2.2.2.1,p.2.2.2.2.2.2.2.2.2.2.2.2.2.2.2.1,p.2.2.2.2.2.2.2.2.2.2.2.2.2.2.2.2.1,p.2.2.2.2.2.2.2.2.2.2.2.2.2.2.2.2.2.1,e0S)⟩) ej ke (fun y hy s hs=>(iU y hy).2 s hs) jj rfl ⟨C7 dB.aX (by decide),bO⟩
 rw[A3X] at hq
 dsimp only at hq
 rw[←bR,lq,lr,lv] at hq
 have xW:T1.b.aB.length≤999999:=by
  have h6:T.b.aB.length<64:=by
   rw[av] at hr
   unfold A6t at hr
   simp only at hr
   split at hr
   ·cases hr
   ·split at hr
    ·cases hr
    ·omega
  omega
 clear bR hr av iU jj ke gv lq lr lv im
 generalize(b9 (p.2.2.2.2.2.2.2.2.2.2.1) (p.2.2.2.2.2.2.2.2.2.2.2.1) (A0c pl) T1.b)=r1 at hq oe bS ai gu⊢
 rw[oe]
 clear oe
 dsimp only
 have hold:∀s,ofS (p.2.2.2.2.2.2.2.2.2.2.1) T.b.aD=some s→old=s.id∧1≤s.id:=fun s ho=>by
  rw[ho] at ha
  exact⟨ha,(ag.dW s (B1Q ho).1).1⟩
 have lL:ofS (p.2.2.2.2.2.2.2.2.2.2.1) T.b.aD=none→old=0:=fun ho=>by rw[ho] at ha;exact ha
 refine A1g (fun a=>a.1=match ofS (p.2.2.2.2.2.2.2.2.2.2.1) T.b.aD with|some s=>decide (s.id≠r1.1.1)|none=>false) (fun K hK=>?_) (fun a dI=>?_)
 ·cases ho:ofS (p.2.2.2.2.2.2.2.2.2.2.1) T.b.aD with
  |none=>rw[ho] at hK;exact W8 (by simp[lL ho]) (U3 (hK _ rfl))
  |some s=>
   rw[ho] at hK
   obtain⟨e1,e2⟩:=hold s ho
   subst e1
   refine Y4 (by
    have:s.id≠0:=by omega
    simp[this]) (U3 (hK _ ?_))
   by_cases e:s.id=r1.1.1
   ·simp[e]
   ·simp[e]
 obtain⟨a,_⟩:=a
 simp only at dI
 refine W.cut (fun _=>rbA r full (W0 .i64) (tB ⟨r1.2.last,r1.2.aD,A1Z (ofS (p.2.2.2.2.2.2.2.2.2.2.1) T.b.aD) r1.1.1 T1.b.aH,T1.b.kept,T1.b.aB⟩ T1)::cells x1 (aS2 p)::U6 X1 4 (A0r p) pl::L2) (fun K hK=>?_) (fun _=>?_)
 ·clear hq bS
  cases ho:ofS (p.2.2.2.2.2.2.2.2.2.2.1) T.b.aD with
  |none=>
   rw[ho] at dI hK
   have e2:A1Z none r1.1.1 T1.b.aH=T1.b.aH:=rfl
   rw[e2] at hK
   refine W8 dI (U3 ?_)
   refine At.rb (O:=W0 .i64) (tB ⟨r1.2.last,r1.2.aD,T1.b.aH,T1.b.kept,T1.b.aB⟩ T1) q4 ?_
   exact(hK ()).sub
  |some s=>
   rw[ho] at dI hK
   by_cases e:s.id=r1.1.1
   ·have e2:A1Z (some s) r1.1.1 T1.b.aH=T1.b.aH:=by unfold A1Z;simp[e]
    rw[e2] at hK
    refine W8 (by rw[dI];simp[e]) (U3 ?_)
    refine At.rb (O:=W0 .i64) (tB ⟨r1.2.last,r1.2.aD,T1.b.aH,T1.b.kept,T1.b.aB⟩ T1) q4 ?_
    exact(hK ()).sub
   ·have e2:A1Z (some s) r1.1.1 T1.b.aH=A1l s.id T1.b.aH:=by unfold A1Z;simp[e]
    rw[e2] at hK
    refine Y4 (by rw[dI];simp[e]) ?_
    refine W5 ?_
    refine j4 (b:=r) (i:=1) (v:=some ⟨q4.sb,0,none⟩) ?_
    rw[(hold s ho).1]
    refine j2 (C0p (b:=q4.sb) (E:=T1.b.aH) (id:=s.id) ej.aH (At.un (U3 ?_)))
    refine At.rb (O:=W0 .i64) (tB ⟨r1.2.last,r1.2.aD,A1l s.id T1.b.aH,T1.b.kept,T1.b.aB⟩ T1) q4 ?_
    exact(hK ()).sub
 clear dI hold lL ha
 generalize A1Z (ofS (p.2.2.2.2.2.2.2.2.2.2.1) T.b.aD) r1.1.1 T1.b.aH=E5 at hq bS⊢
 refine j4 (b:=x1) (i:=14) (v:=p.2.2.2.2.2.2.2.2.2.2.2.2.2.2.1) ?_
 refine j4 (b:=x1) (i:=15) (v:=p.2.2.2.2.2.2.2.2.2.2.2.2.2.2.2.1) ?_
 refine j4 (b:=x1) (i:=16) (v:=p.2.2.2.2.2.2.2.2.2.2.2.2.2.2.2.2.1) ?_
 refine j4 (b:=x1) (i:=17) (v:=p.2.2.2.2.2.2.2.2.2.2.2.2.2.2.2.2.2.1) ?_
 refine Y2 fun uL=>?_
 refine A0n ?_
 refine W5 ?_
 refine A2j (g:=fun q R=>rbL r full (W0 .i64) (tB ⟨r1.2.last,r1.2.aD,E5,T1.b.kept,T1.b.aB⟩ T1) q R) (fun h R=>A0T.1) fun q5=>?_
 refine j4 (b:=r) (i:=3) (v:=q5.sc) ?_
 refine W.load (b:=x1) (v:=p.2.2.2.2.2.2.2.2.2.2.2.2.2.1) ?_
 refine s7 (b:=uL) (v:=(p.2.2.2.2.2.2.2.2.2.2.2.2.2.2.1,p.2.2.2.2.2.2.2.2.2.2.2.2.2.2.2.1,p.2.2.2.2.2.2.2.2.2.2.2.2.2.2.2.2.1,p.2.2.2.2.2.2.2.2.2.2.2.2.2.2.2.2.2.1,e0S,())) ?_
 refine Y2 fun wA=>?_
 refine j4 (b:=r) (i:=3) (v:=q5.sc) ?_
 refine A1p ?_ rfl
 refine A9Z (b:=wA) (xs:=T1.b.aB) (enc:=A0h) (s:=q5.sc) (⟨c,r1.1.1,p.2.2.2.2.2.2.2.2.2.2.2.2.2.1,(p.2.2.2.2.2.2.2.2.2.2.2.2.2.2.1,p.2.2.2.2.2.2.2.2.2.2.2.2.2.2.2.1,p.2.2.2.2.2.2.2.2.2.2.2.2.2.2.2.2.1,p.2.2.2.2.2.2.2.2.2.2.2.2.2.2.2.2.2.1,e0S)⟩:Y6) (fun s'=>?_) (by omega)
 refine W5 ?_
 refine A4r (b:=r) (i:=3) (cs':=rbC ⟨q5.tb,q5.sb,q5.kb,s',q5.so,q5.sp⟩ full) ?_
 have hlen:(T1.b.aB++[(⟨c,r1.1.1,p.2.2.2.2.2.2.2.2.2.2.2.2.2.1,(p.2.2.2.2.2.2.2.2.2.2.2.2.2.2.1,p.2.2.2.2.2.2.2.2.2.2.2.2.2.2.2.1,p.2.2.2.2.2.2.2.2.2.2.2.2.2.2.2.2.1,p.2.2.2.2.2.2.2.2.2.2.2.2.2.2.2.2.2.1,e0S)⟩:Y6)]).length≤1000000:=by rw[B5];simp only[B7,G7];omega
 generalize T1.b.aB++[(⟨c,r1.1.1,p.2.2.2.2.2.2.2.2.2.2.2.2.2.1,(p.2.2.2.2.2.2.2.2.2.2.2.2.2.2.1,p.2.2.2.2.2.2.2.2.2.2.2.2.2.2.2.1,p.2.2.2.2.2.2.2.2.2.2.2.2.2.2.2.2.1,p.2.2.2.2.2.2.2.2.2.2.2.2.2.2.2.2.2.1,e0S)⟩:Y6)]=C5 at hq bS hlen⊢
 refine W.rb (O:=W0 .i64) (tB ⟨r1.2.last,r1.2.aD,E5,T1.b.kept,C5⟩ T1) ⟨q5.tb,q5.sb,q5.kb,s',q5.so,q5.sp⟩ ?_
 refine B7C (k:=.i64) (A2a r1.1.2) rfl rfl ?_
 refine Z3 (B4U (X:=A0x) (O:=W0 .i64) (T:=tB ⟨r1.2.last,r1.2.aD,E5,T1.b.kept,C5⟩ T1) (c:=c) (o:=A2a r1.1.2) (ci:=⟨none,0,0⟩) (pi:=⟨none,0,0⟩) A4c (by show T1.outs.length≤_;omega) (At.bD ?_))
 have ry:A0A ⟨c,A2a r1.1.2,false⟩ (tB ⟨r1.2.last,r1.2.aD,E5,T1.b.kept,C5⟩ T1)=(⟨⟨r1.2.last,r1.2.aD,E5,T1.b.kept,C5⟩,T1.outs++[⟨c,A2a r1.1.2,false⟩],T1.aT⟩:V0):=rfl
 rw[ry] at hq
 show W (rbA r full (W0 .i64) ⟨⟨r1.2.last,r1.2.aD,E5,T1.b.kept,C5⟩,T1.outs++[⟨c,A2a r1.1.2,false⟩],T1.aT⟩::_) _ _
 have hO:(T1.outs++[(⟨c,A2a r1.1.2,false⟩:r8)]).length≤13300002:=by rw[B5];simp only[B7,G7];omega
 generalize T1.outs++[(⟨c,A2a r1.1.2,false⟩:r8)]=O5 at hq hO⊢
 clear ry
 unfold A0F at hq
 simp only[A3y bS.nd ai gu] at hq
 refine W.load (b:=x1) (v:=A0r p) ?_
 refine Z3 (C3k (S:=A0r p) (pl:=pl) (id:=33) (by have:=dB.props;omega) (At.bD (x:=(prU ((A0Z 33 pl).getD (0,0,e0S,e0S)),(A0Z 33 pl).isSome,())) ?_))
 refine Y2 fun fh=>?_
 refine A0n ?_
 refine A1g (fun a=>a.1=A1X pl) (fun K hK=>?_) (fun a ha=>?_)
 ·unfold A1X at hK
  clear hq
  cases hf:A0Z 33 pl with
  |none=>
   rw[hf] at hK
   exact W8 rfl (U3 (hK (64,()) rfl))
  |some z=>
   rw[hf] at hK
   refine Y4 rfl ?_
   refine W.load (b:=fh) (v:=z.2.1) ?_
   exact U3 (hK (z.2.1,()) rfl)
 obtain⟨most,_⟩:=a
 simp only at ha
 subst ha
 refine W5 ?_
 refine A2j (g:=fun q R=>rbL r full (W0 .i64) (⟨⟨r1.2.last,r1.2.aD,E5,T1.b.kept,C5⟩,O5,T1.aT⟩:V0) q R) (fun h R=>A0T.1) fun q6=>?_
 refine j4 (b:=r) (i:=0) (v:=some ⟨q6.tb,0,none⟩) ?_
 refine j2 (C13 (b:=q6.tb) (last:=r1.2.last) (A:=r1.2.aD) (s:=s5) (k:=r1.1.1) (by have:r1.2.aD.length≤32:=bS.n32;omega) bS.nd ai gu (fun nb ob ib=>At.un (x:=some ⟨nb,0,none⟩) ?_))
 refine W5 ?_
 refine W.load (b:=nb) (v:=some ⟨ob,0,none⟩) ?_
 have dc:=B3v (bS.bP s5 ai) (A1X pl)
 refine j2 (C4g (b:=ob) (o:=s5.out) (most:=A1X pl) (bS.bP s5 ai) (fun S2=>At.un (x:=S2) ?_))
 refine B02 (A:=A0x q6.tb r1.2.last (X7 r1.1.1 (Y9 (A0s s5.out (A1X pl)).1) r1.2.aD)) (B:=cells nb (rqC s5 ob ib)) (C:=a8 ob (A0s s5.out (A1X pl)).1) (D:=A1d ib s5.aZ) (E:=A3k q6.tb r1.2.last r1.2.aD s5 nb) (fun h ae=>A49 (f:=Y9 (A0s s5.out (A1X pl)).1) gu bS.nd rfl h ae) ?_
 refine W.rb (O:=W0 .i64) (A0E (X7 r1.1.1 (Y9 (A0s s5.out (A1X pl)).1) r1.2.aD) ⟨⟨r1.2.last,r1.2.aD,E5,T1.b.kept,C5⟩,O5,T1.aT⟩) q6 ?_
 refine Z3 (A5b (X:=A0x) (O:=W0 .i64) (T:=A0E (X7 r1.1.1 (Y9 (A0s s5.out (A1X pl)).1) r1.2.aD) ⟨⟨r1.2.last,r1.2.aD,E5,T1.b.kept,C5⟩,O5,T1.aT⟩) (id:=r1.1.1) (ps:=(A0s s5.out (A1X pl)).2) A4c (bS.one r1.1.1) (by have:=dc.2;show O5.length+_≤_;omega) hlen (At.bD ?_))
 exact U3 hq.sub
end
section
open Go.H Go.Proofs
variable {h h0:Heap} {L L' L1 L2 L3 L4 R:List Asn} {Q:Value→Heap→Prop}
theorem C4k{r n:Nat}{full full0:Bool}{T:V0}{c:Int}{p:Pk}{pl:List q9}{sl:List A0G}{fl:List B38}(ag:X4 T.b n)(hn:n≤1000000)(hz:Szs T.b)(ed:∀s∈T.b.aD,s.aZ.ok)(bO: -9223372036854775808≤c∧c≤9223372036854775807)(dB:C6W p pl sl fl)
  (hq:At (rbA r full (W0 .i64) (i6 full c (pkI p pl sl fl) T.b)::L4) (Q (.tuple #[])))(hx:Has L (rbA r full0 (W0 .i64) T) L1:=by repeat first|with_reducible exact V1|apply V3)(hy:Has L1 (U6 Y3 5 (A0K p) sl) L2:=by repeat first|with_reducible exact V1|apply V3)(hw:Has L2 (U6 A0g 1 (A4w p) fl) L3:=by repeat first|with_reducible exact V1|apply V3)(hv:Has L3 (U6 X1 4 (A0r p) pl) L4:=by repeat first|with_reducible exact V1|apply V3):
  FW prog 49 #[at0 r,.int .i64 c,A2z .i64 p,.bool full] L Q:=by
 refine fun h hs=>B0G (some ⟨r,0,none⟩) c p full h Q ((?_:W (rbA r full0 (W0 .i64) T::U6 Y3 5 (A0K p) sl::U6 A0g 1 (A4w p) fl::U6 X1 4 (A0r p) pl::L4) _ _) h ((hx.eJ hy hw hv).s hs))
 clear hs h hx hy hw hv
 delta B1m az ci cp cx g2 ie ix ji kc ki kp nn nw pu ve vi vz
 refine Y2 fun x1=>?_
 refine Z3 (B1D (full:=full) (full0:=full0) (T:=T) (At.bD ?_))
 refine j2 (B5G (X:=A0x) (O:=W0 .i64) (T:=⟨T.b,[],[]⟩) (c:=c) hz.aB (At.un (x:=(match atC c T.b.aB with|some i=>(i:Int)|none=> -1)) ?_))
 unfold i6 at hq
 cases ha:atC c T.b.aB with
 |none=>
  rw[B2s.1 ha] at hq
  simp only at hq
  refine W8 rfl ?_
  refine W.load (b:=x1) (v:=p.1) ?_
  by_cases h1:p.1=1
  ·rw[if_pos h1] at hq
   refine Y4 (by simpa using h1) ?_
   refine s7 (b:=x1) (v:=p) ?_
   refine Z3 (C10 (T:=⟨T.b,[],[]⟩) (c:=c) (p:=p) (pl:=pl) (sl:=sl) (fl:=fl) ag hn hz (B2s.1 ha) bO (D1 _) (D1 _) dB (At.bD ?_))
   exact U3 hq.sub
  ·rw[if_neg h1] at hq
   have hq:At (rbA r full (W0 .i64) (A0A ⟨c,j9 14 0 130,true⟩ ⟨T.b,[],[]⟩)::L4) (Q (.tuple #[])):=hq
   refine W8 (by simpa using h1) ?_
   refine B7C (k:=.i64) (j9 14 0 130) rfl rfl ?_
   refine Z3 (B8X (X:=A0x) (O:=W0 .i64) (T:=⟨T.b,[],[]⟩) (c:=c) (o:=j9 14 0 130) (ci:=⟨none,0,0⟩) (pi:=⟨none,0,0⟩) A4c (D1 _) (At.bD ?_))
   exact U3 hq.sub
 |some i=>
  obtain⟨x,aY,kZ,gz⟩:=C1o ha
  rw[kZ] at hq
  simp only at hq
  have ah:i<T.b.aB.length:=(E0.1 aY).1
  obtain⟨s,hs,hid⟩:=ag.cl x (A1T kZ).1
  refine Y4 (decide_eq_true (by simp only;omega)) ?_
  refine W5 ?_
  refine A2j (g:=fun q R=>rbL r full (W0 .i64) ⟨T.b,[],[]⟩ q R) (fun h R=>A0T.1) fun q=>?_
  refine Z1 (X5 (enc:=A0h) (size:=8) (s:=q.sc) (xs:=T.b.aB)) fun hl=>?_
  refine j4 (b:=r) (i:=0) (v:=some ⟨q.tb,0,none⟩) ?_
  refine W5 ?_
  refine j4 (b:=r) (i:=3) (v:=q.sc) ?_
  refine j5 (enc:=A0h) (xs:=T.b.aB) (i:=i) ah (fun a ha=>?_) (he:=rfl)
  refine A4z (k:=1) (x:=x) (v:=x.aD) ha aY ?_
  refine j2 (C13 (b:=q.tb) (last:=T.b.last) (A:=T.b.aD) (s:=s) (k:=x.aD) hz.aD ag.nd hs hid (fun nb ob ib=>At.un (x:=some ⟨nb,0,none⟩) ?_))
  refine B02 (A:=A0B nb ob ib x.aD q.tb T.b.last T.b.aD) (B:=cells nb (rqC s ob ib)) (C:=a8 ob s.out) (D:=A1d ib s.aZ) (E:=A3k q.tb T.b.last T.b.aD s nb) (fun h ae=>A5a.2 ⟨s,⟨hs,hid⟩,ae⟩) ?_
  refine W.dX (X:=A0B nb ob ib x.aD) (O:=W0 .i64) ⟨T.b,[],[]⟩ q ?_
  refine s7 (b:=x1) (v:=p) ?_
  rw[←gz] at kZ⊢
  refine Z3 (C8q (T:=⟨T.b,[],[]⟩) (x:=x) (p:=p) (pl:=pl) (sl:=sl) (fl:=fl) ag hz ed kZ (D1 _) (D1 _) dB (At.bD ?_))
  exact U3 hq.sub
theorem C7p{r n:Nat}{full full0:Bool}{T:V0}{c:Int}(ag:X4 T.b n)(hz:Szs T.b)
  (hq:At (rbA r full (W0 .i64) (A8j full c T.b)::L1) (Q (.tuple #[])))(hx:Has L (rbA r full0 (W0 .i64) T) L1:=by repeat first|with_reducible exact V1|apply V3):
  FW prog 46 #[at0 r,.int .i64 c,.bool full] L Q:=by
 refine fun h hs=>B2P (some ⟨r,0,none⟩) c full h Q ((?_:W (rbA r full0 (W0 .i64) T::L1) _ _) h (hx.s hs))
 clear hs h hx
 unfold A8j at hq
 delta B5r cx pu vi
 refine Z3 (B1D (full:=full) (full0:=full0) (T:=T) (At.bD ?_))
 refine Z3 (B85 (O:=W0 .i64) (T:=⟨T.b,[],[]⟩) (c:=c) (aX:=true) A4c ag.toj7 hz (D1 _) (D1 _) (At.bD ?_))
 exact U3 hq.sub
theorem C15{r n:Nat}{full0:Bool}{T:V0}{m:MsT}(ag:X4 T.b n)(hz:Szs T.b)(hm:m.1.size≤9223372036854775800)
  (hq:At (rbA r false (W0 .i64) (z8 m T.b)::L1) (Q (.tuple #[])))(hx:Has L (rbA r full0 (W0 .i64) T) L1:=by repeat first|with_reducible exact V1|apply V3):
  FW prog 47 #[at0 r,vMs m] L Q:=by
 refine fun h hs=>A9M (some ⟨r,0,none⟩) (toU m) h Q ((?_:W (rbA r full0 (W0 .i64) T::L1) _ _) h (hx.s hs))
 clear hs h hx
 unfold z8 at hq
 delta A97 az cx g7 nw pu
 refine Y2 fun x1=>?_
 refine Z3 (B1D (full:=false) (full0:=full0) (T:=T) (At.bD ?_))
 refine s7 (b:=x1) (v:=toU m) ?_
 refine Z3 (C3j (O:=W0 .i64) (T:=⟨T.b,[],[]⟩) (m:=m) A4c ag.toj7 hz (D1 _) hm (At.bD ?_))
 exact U3 hq.sub
theorem C6r{B:Z0}{c:Int}(h:Szs B):Szs (A5j B c):=by
 unfold A5j
 split
 ·exact h
 ·rw[B4Y];exact h.ended rfl
theorem B6n{B:Z0}{c:Int}:(A5j B c).aB=B.aB.filter fun y=>decide (y.c≠c):=by
 unfold A5j
 cases hg:A1E c B.aB with
 |none=>exact(H4.2 fun y hy=>by have:=E8.1 hg y hy;simpa using this).symm
 |some x=>simp only;rw[B4Y]
theorem C11{r n:Nat}{full0:Bool}{T:V0}(ag:X4 T.b n)(hz:Szs T.b)
  (hq:At (rbA r false (W0 .i64) ⟨A1Q T.b,[],[]⟩::L1) (Q (.tuple #[])))(hx:Has L (rbA r full0 (W0 .i64) T) L1:=by repeat first|with_reducible exact V1|apply V3):
  FW prog 48 #[at0 r] L Q:=by
 refine fun h hs=>A9L (some ⟨r,0,none⟩) h Q ((?_:W (rbA r full0 (W0 .i64) T::L1) _ _) h (hx.s hs))
 clear hs h hx
 delta A96 bn cx ie ix kc ki nn pu vi
 refine Z3 (B1D (full:=false) (full0:=full0) (T:=T) (At.bD ?_))
 refine W.loop (γ:=Z0) (fun B _=>X4 B n∧Szs B∧(B.aB.map (·.c)).foldl A5j B=A1Q T.b) (fun B _=>rbA r false (W0 .i64) ⟨B,[],[]⟩::L1) (fun B=>B.aB.length) T.b ⟨ag,hz,A5K.symm⟩ ?_ ?_
 ·show Sub _ (rbA r false (W0 .i64) ⟨T.b,[],[]⟩::L1)
  repeat(first|with_reducible exact T7|with_reducible exact T8|refine U0 (by repeat first|with_reducible exact V1|apply V3) ?_|refine U1 ?_)
 rintro B s ⟨aL,dw,hf⟩ K k1 k2
 refine W5 ?_
 refine A2j (g:=fun q R=>rbL r false (W0 .i64) ⟨B,[],[]⟩ q R) (fun h R=>A0T.1) fun q=>?_
 refine Z1 (X5 (enc:=A0h) (size:=8) (s:=q.sc) (xs:=B.aB)) fun hl=>?_
 refine j4 (b:=r) (i:=3) (v:=q.sc) ?_
 by_cases ah:0<B.aB.length
 ·refine Y4 (by rw[hl];exact decide_eq_true (by omega)) ?_
  have rW:B.aB[0]? =some B.aB[0]:=B0 ah
  have iJ:B.aB=B.aB[0]::B.aB.drop 1:=by
   have:=E1 ah
   rwa[S4] at this
  generalize B.aB[0]=y at rW iJ
  have au:=dw.nd
  have vO:(A5j B y.c).aB=B.aB.drop 1:=by
   rw[B6n]
   rw[iJ,B6,F4] at au
   conv=>lhs;rw[iJ]
   rw[F9 (by simp)]
   refine H4.2 fun z hz=>decide_eq_true fun e=>au.1 ?_
   rw[←e]
   exact B3 hz
  have gW:=k1 (A5j B y.c) () (by rw[vO,R2];omega) ⟨B9A aL,C6r dw,by
   rw[vO,←hf]
   conv=>rhs;rw[iJ]
   rfl⟩
  refine W5 ?_
  refine j4 (b:=r) (i:=3) (v:=q.sc) ?_
  refine j5 (enc:=A0h) (xs:=B.aB) (i:=0) ah (fun a ha=>?_) (he:=rfl)
  refine A4z (k:=0) (x:=y) (v:=y.c) ha rW ?_
  refine W.rb (O:=W0 .i64) ⟨B,[],[]⟩ q ?_
  refine Z3 (B85 (O:=W0 .i64) (T:=⟨B,[],[]⟩) (c:=y.c) (aX:=false) A4c aL.toj7 dw (D1 _) (D1 _) (At.bD ?_))
  rw[C2E]
  exact U3 gW.sub
 ·refine W8 (by rw[hl];exact decide_eq_false (by omega)) (U3 (k2 _ _ (U3 ?_)))
  have e:B.aB=[]:=K6.1 (by omega)
  rw[e] at hf
  have hf:B=A1Q T.b:=hf
  refine At.rb (O:=W0 .i64) ⟨B,[],[]⟩ q ?_
  rw[hf]
  exact hq.sub
theorem C7q(hq:∀b,At (A1V b 64 []::L) (Q (B1H b))):FW prog 45 #[.int .i64 64] L Q:=fun h hs=>C4l hs 64 fun b h' af=>hq b h' af
theorem C8s(hq:∀r,At (rbA r false (W0 .i64) ⟨⟨0,[],[],[],[]⟩,[],[]⟩::L) (Q (at0 r))):FW prog 21 #[] L Q:=by
 refine fun h hs=>B4r h Q ((?_:W L _ _) h hs)
 clear hs h
 delta B7R az cp nw pu vi vz
 refine j2 (C7q (fun b=>At.un (x:=some ⟨b,0,none⟩) ?_))
 refine Y2 fun x2=>?_
 refine C79 (A:=A0x x2 0 []) (B:=cells x2 #[.int .i64 0,.slice none 0 0]) (fun h hs=>C3h h hs) ?_
 refine Y2 fun x3=>?_
 refine A4V Z9 3 ?_
 refine W.cY (A:=A0J x3 []) (B:=cells x3 #[.slice none 0 0]) (C:=U6 Z9 3 ⟨none,0,0⟩ []) (fun h hs=>A1A.2 ⟨⟨none,0,0⟩,hs⟩) ?_
 refine Y2 fun x4=>?_
 refine A4V Z7 5 ?_
 refine A4V A0h 8 ?_
 refine W.sub (L':=cells x4 (rbC ⟨x2,x3,b,⟨none,0,0⟩,⟨none,0,0⟩,⟨none,0,0⟩⟩ false)::U6 Z7 5 ⟨none,0,0⟩ []::U6 A0h 8 ⟨none,0,0⟩ []::A0x x2 0 []::A0J x3 []::A1V b 64 []::L) ?_
 refine U3 (fun h hs=>?_)
 have h1:=B1L (k:=.i64) hs
 exact hq x4 h (A0T.2 ⟨⟨x2,x3,b,⟨none,0,0⟩,⟨none,0,0⟩,⟨none,0,0⟩⟩,h1.re [1,0,2,3,4,5,6]⟩)
end
section
open Go.H Go.Proofs
variable {h h0:Heap} {L L' L1 L2 L3 L4 R:List Asn} {Q:Value→Heap→Prop}
def A77(B:Z0):Prop:=∀x∈B.aB,x.aX.1.size≤9223372036854775800
theorem C7H{b n:Nat}{B:Z0}(ag:X4 B n)(hw:A77 B):∀h R,sat h (A0Q b B::R)→Szs B∧∀s∈B.aD,s.aZ.ok:=fun h R hs=>by
 obtain⟨au,hk⟩:=B9Q h R hs
 obtain⟨p,h1⟩:=A1n.1 hs
 obtain⟨hg,ha⟩:=A4X (h1.re [2,0,1,3,4])
 obtain⟨l,hl,-⟩:=A3V.1 (h1.re [3,0,1,2,4])
 obtain⟨M,hM,h3⟩:=A0e.1 (h1.re [1,0,2,3,4])
 obtain⟨m,h4⟩:=s6.1 h3
 refine⟨⟨?_,?_,?_,hk,A9C ag,by have:=ag.n32;omega,au,hw⟩,?_⟩
 ·refine List.Pairwise.imp (fun{a b} db=>?_) ha
  rcases db with db|db
  ·exact Int.le_of_lt db
  ·exact Int.le_of_eq db.1
 ·exact fun e he=>C7 (A2k (u4 (hg e he))) (by decide)
 ·intro m hm
  have h5:=hl.rel.perm.mem_iff.2 hm
  obtain⟨p,hp,rfl⟩:=E4.1 h5
  have:=hl.small p hp
  rw[←hl.rel.kk p hp] at this
  exact this
 ·intro s hs
  rw[←hM] at hs
  obtain⟨q,hq,rfl⟩:=E4.1 hs
  obtain⟨R',h5⟩:=A9c hq (h4.re [2,0,1])
  obtain⟨ob,ib,h6⟩:=A1O.1 h5
  obtain⟨b2,h7⟩:=A3a.1 (h6.re [2,0,1])
  obtain⟨m2,xz,-⟩:=A01.1 (h7.re [1,0])
  exact xz
end
section
open Go.H Go.Proofs
theorem B8z{full:Bool}{c:Int}{w:Bool}{T:V0}(h:j7 T.b):∀y∈(A4n full c w T).b.aB,y∈T.b.aB:=fun y hy=>by rw[(B9B h).2.2.2.1] at hy;exact(D9.1 hy).1
theorem A4Q{full:Bool}{c code:Int}{T:V0}(h:j7 T.b):∀y∈(A0C full c code T).b.aB,y∈T.b.aB:=fun y hy=>by rw[(B0C h).2.2.2.1] at hy;exact(D9.1 hy).1
theorem C2R{full:Bool}{x:Y6}{p:PkI}{T:V0}(h:j7 T.b):∀y∈(A5F full x p T).b.aB,y∈T.b.aB:=by
 unfold A5F
 split
 ·exact A4Q h
 ·split
  ·exact fun y hy=>hy
  ·rename_i s hs
   simp only
   generalize l9 s.aZ p.kind p.dY p.id (if full=true then 151 else 0)=r
   have h1:j7 (A0E (X7 x.aD (j1 ⟨s.aZ.most,s.aZ.taken,r.2.2.2⟩) T.b.aD) T).b:=h.fF
   split
   ·exact A4Q (T:=A0E (X7 x.aD (j1 ⟨s.aZ.most,s.aZ.taken,r.2.2.2⟩) T.b.aD) T) h1
   ·split
    ·exact fun y hy=>by
      rw[(A8P (T:=q7 x.aD (A3E r.2.1 p.id) (A0E (X7 x.aD (j1 ⟨s.aZ.most,s.aZ.taken,r.2.2.2⟩) T.b.aD) T)) h1).aB] at hy
      exact hy
    ·exact fun y hy=>hy
theorem B9M{full:Bool}{x:Y6}{p:PkI}{T:V0}(h:j7 T.b):∀y∈(A2I full x p T).b.aB,y∈T.b.aB:=by
 unfold A2I
 split
 ·exact fun y hy=>hy
 ·split
  ·exact A4Q h
  ·exact fun y hy=>by rw[A5R] at hy;exact hy
theorem C4V{x:Y6}{p:PkI}{T:V0}:(A04 x p T).b.aB=T.b.aB:=by
 unfold A04
 have:∀(l:List A0G) (T:V0),(l.foldl (j3 x.aD) T).b.aB=T.b.aB:=by
  intro l
  induction l with
  |nil=>intro T;rfl
  |cons s l ih=>intro T;exact(ih _).trans (B0c T s)
 rw[this]
theorem C4W{full:Bool}{x:Y6}{p:PkI}{T:V0}(h:j7 T.b):∀y∈(A8T full x p T).b.aB,y∈T.b.aB:=by
 unfold A8T
 split
 ·exact C2R h
 ·split
  ·exact B9M h
  ·split
   ·exact fun y hy=>by rw[C4V] at hy;exact hy
   ·split
    ·exact fun y hy=>hy
    ·split
     ·exact fun y hy=>hy
     ·split
      ·exact B8z h
      ·exact A4Q h
theorem B7B{full:Bool}{c:Int}{p:PkI}{T:V0}{n:Nat}(h:X4 T.b n)(bU:(T.b.aB.map (·.c)).Nodup):∀y∈(A1m full c p T).b.aB,y∈T.b.aB∨y.aX.1=p.aX.1:=by
 unfold A1m
 by_cases hb:A6t p T.b=0
 ·rw[if_neg (by simpa using hb),A3X]
  obtain⟨ej,gr,oN,iU,jj,ke⟩:=B11 (full:=full) (c:=p.aC) h bU (B8C hb).2
  generalize A0O full p.aC T=T1 at*
  obtain⟨lq,lr,lv⟩:=B4j (B:=T1.b) (aC:=p.aC) (clean:=p.clean) (aN:=A0c p.props)
  rw[lq,lr,lv,A5R]
  intro y hy
  rcases C9.1 hy with hy|hy
  ·exact .inl (iU y hy).1
  ·rw[B8.1 hy];exact .inr rfl
 ·rw[if_pos (by simpa using hb)]
  exact fun y hy=>.inl hy
theorem C3U{full:Bool}{c:Int}{p:PkI}{B:Z0}{n:Nat}(h:X4 B n)(bU:(B.aB.map (·.c)).Nodup)(hw:A77 B)(hp:p.aX.1.size≤9223372036854775800):A77 (i6 full c p B).b:=by
 unfold i6
 split
 ·exact fun y hy=>hw y (C4W (T:=⟨B,[],[]⟩) h.toj7 y hy)
 ·split
  ·intro y hy
   rcases B7B (T:=⟨B,[],[]⟩) h bU y hy with h1|h1
   ·exact hw y h1
   ·rw[h1];exact hp
  ·exact hw
theorem C67{full:Bool}{c:Int}{B:Z0}{n:Nat}(h:X4 B n)(hw:A77 B):A77 (A8j full c B).b:=fun y hy=>hw y (B8z (T:=⟨B,[],[]⟩) h.toj7 y hy)
theorem C1A{m:MsT}{B:Z0}{n:Nat}(h:X4 B n)(hw:A77 B):A77 (z8 m B).b:=fun y hy=>hw y (by
 unfold z8 at hy
 rw[(B6c (T:=⟨B,[],[]⟩) h.toj7).aB] at hy
 exact hy)
theorem C68{B:Z0}{c:Int}(hw:A77 B):A77 (A5j B c):=fun y hy=>by
 rw[B6n] at hy
 exact hw y (D9.1 hy).1
theorem C1z{B:Z0}(hw:A77 B):A77 (A1Q B):=by
 rw[A5K]
 have:∀(l:List Int) (B:Z0),A77 B→A77 (l.foldl A5j B):=by
  intro l
  induction l with
  |nil=>intro B h;exact h
  |cons c l ih=>intro B h;exact ih _ (C68 h)
 exact this _ B hw
theorem C8d:A77 ⟨0,[],[],[],[]⟩:=fun y hy=>by cases hy
def o9(T:V0):Prop:=∀o∈T.outs,A59 o.pk
def A5u(ps:List PkO):Prop:=∀p∈ps,A59 p
theorem B9v{m:MsT}{id:Int}{d:Bool}:A59 (A0y m id d):=by
 refine⟨⟨S8 0,(by show(0:Int)<256;decide)⟩,fun c hc=>(by cases hc),D1 _,?_⟩
 show(C1I _).length≤_
 unfold C1I
 split<;>simp
theorem A7P{k id c:Int}(h:0≤c∧c<256):A59 (j9 k id c):=⟨h,fun c hc=>(by cases hc),D1 _,D1 _⟩
theorem C8E{s:Bool}:A59 (A2a s):=⟨⟨S8 0,(by show(0:Int)<256;decide)⟩,fun c hc=>(by cases hc),D1 _,D1 _⟩
theorem A2r:A5u []:=fun p hp=>by cases hp
theorem A5u.cons{p:PkO}{ps:List PkO}(h:A59 p)(hs:A5u ps):A5u (p::ps):=fun q hq=>by
 rcases D2.1 hq with rfl|hq
 ·exact h
 ·exact hs q hq
theorem A5u.app{ps qs:List PkO}(h:A5u ps)(hs:A5u qs):A5u (ps++qs):=fun q hq=>by
 rcases C9.1 hq with hq|hq
 ·exact h q hq
 ·exact hs q hq
theorem C2u:∀(w:List MsT) (o:Z2),A5u (goF o w).2
 |[],o=>A2r
 |m::w,o=>by
  unfold goF
  split
  ·exact A2r
  ·split
   ·exact A5u.cons B9v (C2u w _)
   ·exact A5u.cons B9v (C2u w _)
theorem A64{o:Z2}:A5u (Y7 o).2:=by
 unfold Y7
 split
 ·exact C2u _ _
 ·exact A2r
theorem B8s{o:Z2}{m:MsT}:A5u (Y0 o m).1.2:=by
 unfold Y0
 split
 ·exact A2r
 ·split
  ·exact A2r
  ·split
   ·exact A2r
   ·exact A64
theorem C6l{o:Z2}{k id c:Int}:A5u (A0R o k id c).1.2:=by
 unfold A0R
 split
 ·exact A2r
 ·split
  ·exact A2r
  ·split
   ·split
    ·exact A2r
    ·exact A64
   ·split
    ·split
     ·exact A2r
     ·split
      ·exact A64
      ·exact A5u.cons (A7P (by decide)) A64
    ·split
     ·exact A2r
     ·exact A64
theorem C2v{o:Z2}{most:Int}:A5u (A0s o most).2:=by
 unfold A0s
 refine A5u.app (fun p hp=>?_) A64
 obtain⟨f,hf,rfl⟩:=E4.1 hp
 unfold A1C
 split
 ·exact A7P (by decide)
 ·exact B9v
theorem o9.send{T:V0}{o:r8}(h:o9 T)(ho:A59 o.pk):o9 (A0A o T):=fun q hq=>by
 rcases C9.1 hq with hq|hq
 ·exact h q hq
 ·rw[B8.1 hq];exact ho
theorem o9.sendAll{T:V0}{id:Int}{ps:List PkO}(h:o9 T)(hp:A5u ps):o9 (q7 id ps T):=fun q hq=>by
 rcases C9.1 hq with hq|hq
 ·exact h q hq
 ·unfold A1U at hq
  obtain⟨x,_,hx⟩:=S7.1 hq
  obtain⟨p,nM,rfl⟩:=E4.1 hx
  exact hp p nM
theorem o9.out{T:V0}{id:Int}{f:Z2→Z2×List PkO}(h:o9 T)(hf:∀o,A5u (f o).2):o9 (A0F id f T):=by
 unfold A0F
 split
 ·exact h
 ·rename_i s _
  exact o9.sendAll (T:=A0E (X7 id (Y9 (f s.out).1) T.b.aD) T) h (hf s.out)
theorem o9.fold{α:Type}{f:V0→α→V0}(hf:∀T x,o9 T→o9 (f T x)):∀(l:List α) {T:V0},o9 T→o9 (l.foldl f T)
 |[],T,h=>h
 |x::l,T,h=>o9.fold hf l (hf T x h)
theorem o9.hand{T:V0}{m:MsT}(h:o9 T):o9 (A0p m T):=by
 unfold A0p
 refine o9.fold (fun T x hT=>o9.out hT fun o=>B8s) _ ?_
 unfold A1k
 split
 ·exact h
 ·exact h
theorem o9.eM{T:V0}{m:MsT}(h:o9 T):o9 (A3n m T):=o9.hand h
theorem o9.fin{T:V0}{full:Bool}{c:Int}{w:Bool}(h:o9 T):o9 (A4n full c w T):=by
 unfold A4n
 split
 ·exact h
 ·simp only
  split
  ·exact o9.eM (by exact h)
  ·exact h
theorem o9.refuse{T:V0}{full:Bool}{c code:Int}(h:o9 T)(hc:0≤code∧code<256):o9 (A0C full c code T):=o9.fin (o9.send h (A7P hc))
theorem C30{s:u6}{k q id why:Int}(hw:0≤why∧why<256):(0≤(l9 s k q id why).2.2.1∧(l9 s k q id why).2.2.1<256)∧A5u (A3E (l9 s k q id why).2.1 id):=by
 have one:∀{a c:Int},0≤c∧c<256→A5u (A3E (some (a,c)) id):=fun hc=>A5u.cons (A7P hc) A2r
 have non:A5u (A3E none id):=A2r
 unfold l9
 split
 ·exact⟨by constructor<;>(try dsimp only)<;>decide,non⟩
 ·split
  ·exact⟨by constructor<;>(try dsimp only)<;>decide,non⟩
  ·split
   ·exact⟨by constructor<;>(try dsimp only)<;>decide,one (by split<;>constructor<;>(try dsimp only)<;>decide)⟩
   ·split
    ·exact⟨by constructor<;>(try dsimp only)<;>decide,one hw⟩
    ·split
     ·exact⟨by constructor<;>(try dsimp only)<;>decide,one (by constructor<;>(try dsimp only)<;>decide)⟩
     ·split
      ·exact⟨by constructor<;>(try dsimp only)<;>decide,non⟩
      ·exact⟨by constructor<;>(try dsimp only)<;>decide,one hw⟩
theorem C42{o:Z2}{k id c:Int}:0≤(A0R o k id c).2∧(A0R o k id c).2<256:=by
 unfold A0R
 split
 ·constructor<;>(try dsimp only)<;>decide
 ·split
  ·constructor<;>(try dsimp only)<;>decide
  ·split
   ·split<;>constructor<;>(try dsimp only)<;>decide
   ·split
    ·split
     ·constructor<;>(try dsimp only)<;>decide
     ·split<;>constructor<;>(try dsimp only)<;>decide
    ·split<;>constructor<;>(try dsimp only)<;>decide
theorem C6i{full:Bool}{x:Y6}{p:PkI}{T:V0}(h:o9 T):o9 (A5F full x p T):=by
 unfold A5F
 split
 ·exact o9.refuse h (by decide)
 ·split
  ·exact h
  ·rename_i s hs
   simp only
   have hr:=C30 (s:=s.aZ) (k:=p.kind) (q:=p.dY) (id:=p.id) (why:=if full=true then 151 else 0) (by split<;>decide)
   generalize l9 s.aZ p.kind p.dY p.id (if full=true then 151 else 0)=r at hr
   split
   ·exact o9.refuse (T:=A0E (X7 x.aD (j1 ⟨s.aZ.most,s.aZ.taken,r.2.2.2⟩) T.b.aD) T) h hr.1
   ·have h2:=o9.sendAll (T:=A0E (X7 x.aD (j1 ⟨s.aZ.most,s.aZ.taken,r.2.2.2⟩) T.b.aD) T) (id:=x.aD) h hr.2
    split
    ·exact o9.eM h2
    ·exact h2
theorem C2w{full:Bool}{x:Y6}{p:PkI}{T:V0}(h:o9 T):o9 (A2I full x p T):=by
 unfold A2I
 split
 ·exact h
 ·split
  ·exact o9.refuse h C42
  ·exact o9.out h fun o=>C6l
theorem C44{E:List Ent}{id q:Int}{f:B38}:0≤(A2P E id f q).1∧(A2P E id f q).1<256:=by
 unfold A2P
 split
 ·exact⟨(by show(0:Int)≤143;decide),(by show(143:Int)<256;decide)⟩
 ·split
  ·exact⟨(by show(0:Int)≤155;decide),(by show(155:Int)<256;decide)⟩
  ·split
   ·exact⟨(by show(0:Int)≤0;decide),(by show(0:Int)<256;decide)⟩
   ·split
    ·exact⟨(by show(0:Int)≤151;decide),(by show(151:Int)<256;decide)⟩
    ·exact⟨(by show(0:Int)≤0;decide),(by show(0:Int)<256;decide)⟩
theorem B66{id:Int}:∀(l:List A0G) (E:List Ent),(∀c∈(j6 id l E).2,0≤c∧c<256)∧(j6 id l E).2.length=l.length
 |[],E=>⟨fun c hc=>(by cases hc),rfl⟩
 |s::l,E=>by
  unfold j6
  have ih:=B66 (id:=id) l (A2P E id s.1 s.2.1).2
  refine⟨fun c hc=>?_,by simp only[B7];rw[ih.2]⟩
  rcases D2.1 hc with rfl|hc
  ·split
   ·rename_i h0
    have:=B3y h0
    omega
   ·exact C44
  ·exact ih.1 c hc
theorem B6R{id:Int}:∀(l:List B38) (E:List Ent),(∀c∈(A0X id l E).2,0≤c∧c<256)∧(A0X id l E).2.length=l.length
 |[],E=>⟨fun c hc=>(by cases hc),rfl⟩
 |s::l,E=>by
  unfold A0X
  have ih:=B6R (id:=id) l (A1R E id s)
  refine⟨fun c hc=>?_,by simp only[B7];rw[ih.2]⟩
  rcases D2.1 hc with rfl|hc
  ·split<;>decide
  ·exact ih.1 c hc
theorem C6k{k id:Int}{cs:List Int}(h:∀c∈cs,0≤c∧c<256)(hl:cs.length≤1000000):A59 (A0S k id cs):=⟨⟨S8 0,(by show(0:Int)<256;decide)⟩,h,hl,D1 _⟩
theorem o9.sub{x:Y6}{s:A0G}{T:V0}(h:o9 T):o9 (j3 x.aD T s):=by
 unfold j3
 split
 ·exact h
 ·exact o9.fold (fun T m hT=>o9.out hT fun o=>B8s) _ h
theorem C7D{full:Bool}{x:Y6}{p:PkI}{T:V0}(h:o9 T)(hs:p.aH.length≤100)(hf:p.bM.length≤100):o9 (A8T full x p T):=by
 unfold A8T
 split
 ·exact C6i h
 ·split
  ·exact C2w h
  ·split
   ·unfold A04
    have ha:=B66 (id:=x.aD) p.aH T.b.aH
    exact o9.fold (fun T s hT=>o9.sub hT) _ (o9.send (T:=A1i (j6 x.aD p.aH T.b.aH).1 T) h (C6k ha.1 (by omega)))
   ·split
    ·unfold A1H
     have ha:=B6R (id:=x.aD) p.bM T.b.aH
     exact o9.send (T:=A1i (A0X x.aD p.bM T.b.aH).1 T) h (C6k ha.1 (by omega))
    ·split
     ·exact o9.send h (A7P (by decide))
     ·split
      ·exact o9.fin h
      ·exact o9.refuse h (by decide)
theorem C6G{p:PkI}{B:Z0}:0≤A6t p B∧A6t p B<256:=by
 unfold A6t
 repeat' split
 all_goals decide
theorem C02{full:Bool}{c:Int}{p:PkI}{T:V0}(h:o9 T):o9 (A1m full c p T):=by
 unfold A1m
 split
 ·exact o9.send h (A7P C6G)
 ·rw[A3X]
  have hk:o9 (A0O full p.aC T):=by
   unfold A0O
   split
   ·unfold A28
    split
    ·exact h
    ·exact o9.refuse h (by decide)
   ·exact h
  exact o9.out (o9.send (by exact hk) C8E) fun o=>C2v
theorem A9x{B:Z0}:o9 ⟨B,[],[]⟩:=fun o ho=>(by cases ho)
theorem C2t{full:Bool}{c:Int}{p:PkI}{B:Z0}(hs:p.aH.length≤100)(hf:p.bM.length≤100):o9 (i6 full c p B):=by
 unfold i6
 split
 ·exact C7D A9x hs hf
 ·split
  ·exact C02 A9x
  ·exact o9.send (T:=⟨B,[],[]⟩) (o:=⟨c,j9 14 0 130,true⟩) A9x (A7P (by decide))
theorem C6j{full:Bool}{c:Int}{B:Z0}:o9 (A8j full c B):=o9.fin A9x
theorem C01{m:MsT}{B:Z0}:o9 (z8 m B):=o9.hand A9x
variable {h h0:Heap} {L L' L1 L2 L3 R:List Asn} {Q:Value→Heap→Prop}
def evP(x:EvQ):PkI:=pkI x.p.pk (x.p.pl.take 80) (x.p.sl.take 80) (x.p.fl.take 80)
noncomputable def evB(x:EvQ)(B:Z0):V0:=
 if Int.tmod x.cQ 6=1∨Int.tmod x.cQ 6= -1 then A8j x.full x.conn B
 else if Int.tmod x.cQ 6=2∨Int.tmod x.cQ 6= -2 then z8 x.m B
 else if Int.tmod x.cQ 6=3∨Int.tmod x.cQ 6= -3 then⟨A1Q B,[],[]⟩
 else i6 x.full x.conn (evP x) B
theorem C77{c:Int}(h:(Lit.int .i64 c).wf=true): -9223372036854775808≤c∧c≤9223372036854775807:=by
 simp[Lit.wf,IntKind.min,IntKind.max,IntKind.bits,IntKind.signed] at h
 omega
theorem C6o{x:EvQ}{B:Z0}{n:Nat}{hp:Heap}(hx:EvG 1048576 hp x)(h:X4 B n)(bU:(B.aB.map (·.c)).Nodup)(hk:B.kept.length≤64)(hw:A77 B):
  X4 (evB x B).b (n+1)∧A77 (evB x B).b∧(evB x B).outs.length≤3300000∧(evB x B).aT.length≤3300000∧o9 (evB x B):=by
 have ff:(evP x).aH.length≤100:=C7 (J6 _ _) (by decide)
 have fi:(evP x).bM.length≤100:=C7 (J6 _ _) (by decide)
 have eX:(evP x).aX.1.size≤1048576:=hx.p.aX
 unfold evB
 split
 ·exact⟨(B5W h).1.mono (S0 n),C67 h hw,(B5W h).2.1,(B5W h).2.2,C6j⟩
 ·split
  ·exact⟨(A54 h).1.mono (S0 n),C1A h hw,(A54 h).2.1,(A54 h).2.2,C01⟩
  ·split
   ·exact⟨(C0i h).mono (S0 n),C1z hw,D1 _,D1 _,A9x⟩
   ·have h1:=A5e (full:=x.full) (c:=x.conn) (p:=evP x) h bU hk ff (C7 eX (by decide)) (C77 hx.conn)
    exact⟨h1.1,C3U h bU hw (C7 eX (by decide)),h1.2.1,h1.2.2,C2t ff fi⟩
theorem B7A{m:MsT}{B:Z0}:(z8 m B).aT=[]:=by
 unfold z8
 rw[A7N]
theorem C6g{b r n:Nat}{full0:Bool}{T:V0}{x:EvQ}(ht:TP h0)(ag:X4 T.b n)(hn:n≤999999)(hw:A77 T.b)(iD:EvG 1048576 h0 x)
  (hq:∀full,At (A0Q b (evB x T.b).b::rbA r full (W0 .i64) (evB x T.b)::old h0::L3) (Q (.bool true)))
  (hx:Has L (A0Q b T.b) L1:=by repeat first|with_reducible exact V1|apply V3)(hy:Has L1 (rbA r full0 (W0 .i64) T) L2:=by repeat first|with_reducible exact V1|apply V3)(hz:Has L2 (old h0) L3:=by repeat first|with_reducible exact V1|apply V3):
  FW prog 22 #[at0 b,at0 r,.agg (B6p x).toArray] L Q:=by
 have hp:=iD.p
 have hr:=hp.rows
 obtain⟨cQ,conn,⟨⟨vk,vd,vr,vq,vi,vt,vp,vc,s8,s9,cG,cF,cy,cz,dg,dj,di,dh,dE,cA,cD,vu,cw,cv,dA,dz,⟨⟩⟩,cl,pl,wl,sl,fl⟩,full,⟨mt,mp,mq,mr,mg⟩⟩:=x
 dsimp only at hr hp
 refine fun h hs=>B0N (some ⟨b,0,none⟩) (some ⟨r,0,none⟩) (cQ,conn,vk,vd,vr,vq,vi,vt,vp,vc,s8,s9,cG,cF,cy,cz,dg,dj,di,dh,dE,cA,cD,vu,cw,cv,dA,dz,full,mt,mp,mq,mr,mg,()) h Q ((?_:W (A0Q b T.b::rbA r full0 (W0 .i64) T::old h0::L3) _ _) h ((hx.cU hy hz).s hs))
 clear hs h hx hy hz
 delta B1Z ad az bn cb cc cx g2 A02 g7 ie jb jc ji kc nn nw pu sn sw vi vs vz
 refine Z1 (fun h R hs=>C7H (b:=b) ag hw h R hs) fun hsz=>?_
 refine Z1 (fun h R hs=>B9Q (b:=b) (B:=T.b) h R hs) fun au=>?_
 obtain⟨jJ,pX,tJ,tE,ud⟩:=C6o iD ag au.1 au.2 hw
 obtain⟨T9,aK⟩:∃T9,T9=evB ⟨cQ,conn,⟨(vk,vd,vr,vq,vi,vt,vp,vc,s8,s9,cG,cF,cy,cz,dg,dj,di,dh,dE,cA,cD,vu,cw,cv,dA,dz,()),cl,pl,wl,sl,fl⟩,full,(mt,mp,mq,mr,mg)⟩ T.b:=⟨_,rfl⟩
 rw[←aK] at hq jJ pX tJ tE ud
 unfold evB evP at aK
 dsimp only at aK
 refine Y2 fun x1=>?_
 refine W.cells (b:=x1) #[.int .i64 cQ,.int .i64 conn,.int .i64 vk,.bool vd,.bool vr,.int .i64 vq,.int .i64 vi,.string vt,.string vp,.int .u8 vc,.slice s8.a s8.len s8.cap,.slice s9.a s9.len s9.cap,.string cG,.bool cF,.int .i64 cy,.bool cz,.string dg,.string dj,.int .i64 di,.bool dh,.slice dE.a dE.len dE.cap,.bool cA,.bool cD,.string vu,.string cw,.bool cv,.slice dA.a dA.len dA.cap,.slice dz.a dz.len dz.cap,.bool full,.string mt,.string mp,.int .i64 mq,.bool mr,.string mg] ?_
 refine Y2 fun x2=>?_
 refine W.load (b:=x1) (v:=cQ) ?_
 refine A1p ?_ (by decide)
 generalize Int.tmod cQ 6=w6 at aK⊢
 refine A1g (fun a=>a.1=decide (w6=1∨w6= -1)) (fun K hK=>A0l (fun e=>U3 (hK _ (by simp only[P9] at e;simp[e]))) (fun e=>U3 (hK _ (by simp only[H7,ne_eq] at e;by_cases e2:w6= -1<;>simp[e,e2])))) (fun a ha=>?_)
 refine C9a (X:=Slc×Slc×Bool) (fun _ _=>True) (fun g _=>cells x2 #[.slice g.1.a g.1.len g.1.cap,.slice g.2.1.a g.2.1.len g.2.1.cap]::W0 .u8 g.1 T9.outs::U6 Z7 5 g.2.1 T9.aT::A0Q b T9.b::rbA r g.2.2 (W0 .i64) T9::old h0::L3) (fun K hK=>?_) (fun g _ _=>?_)
 ·clear hq jJ pX tJ tE ud
  by_cases h1:w6=1∨w6= -1
  ·rw[if_pos h1] at aK
   refine Y4 (by rw[ha];exact decide_eq_true h1) ?_
   refine W.load (b:=x1) (v:=conn) ?_
   refine W.load (b:=x1) (v:=full) ?_
   refine j2 (C7K (b:=b) ht ag (fun so sp=>At.un (x:=(so,sp,())) ?_))
   refine A0n (b:=x2) ?_
   refine W.load (b:=x1) (v:=conn) ?_
   refine W.load (b:=x1) (v:=full) ?_
   refine Z3 (C7p (T:=T) (full0:=full0) ag hsz.1 (At.bD ?_))
   subst aK
   exact U3 (hK (so,sp,full) () trivial).sub
  rw[if_neg h1] at aK
  refine W8 (by rw[ha];exact decide_eq_false h1) ?_
  clear ha h1
  refine A1g (fun a=>a.1=decide (w6=2∨w6= -2)) (fun K hK=>A0l (fun e=>U3 (hK _ (by simp only[P9] at e;simp[e]))) (fun e=>U3 (hK _ (by simp only[H7,ne_eq] at e;by_cases e2:w6= -2<;>simp[e,e2])))) (fun a ha=>?_)
  by_cases h1:w6=2∨w6= -2
  ·rw[if_pos h1] at aK
   refine A1o (by rw[ha];exact decide_eq_true h1) ?_
   refine X3 (A8a (b:=x1) (i:=29) (v:=(mt,mp,mq,mr,mg,())) ?_)
   refine X3 (j2 (B62 (b:=b) (m:=(mt,mp,mq,mr,mg)) ht ag (C7 iD.bX (by decide)) (fun so=>At.un (x:=so) ?_)))
   refine X3 (W.store (b:=x2) (cs':=#[.slice so.a so.len so.cap,.slice none 0 0]) ?_)
   refine X3 (A8a (b:=x1) (i:=29) (v:=(mt,mp,mq,mr,mg,())) ?_)
   refine X3 (Z3 (C15 (T:=T) (full0:=full0) (m:=(mt,mp,mq,mr,mg)) ag hsz.1 (C7 iD.bX (by decide)) (At.bD ?_)))
   refine b7 ?_
   refine A4V Z7 5 ?_
   have qp:=B7A (m:=(mt,mp,mq,mr,mg)) (B:=T.b)
   rw[←aK] at qp⊢
   rw[qp] at hK
   exact U3 (hK (so,o7,false) () trivial).sub
  rw[if_neg h1] at aK
  refine o5 (by rw[ha];exact decide_eq_false h1) ?_
  clear ha h1
  refine X3 ?_
  refine A1g (fun a=>a.1=decide (w6=3∨w6= -3)) (fun K hK=>A0l (fun e=>U3 (hK _ (by simp only[P9] at e;simp[e]))) (fun e=>U3 (hK _ (by simp only[H7,ne_eq] at e;by_cases e2:w6= -3<;>simp[e,e2])))) (fun a ha=>?_)
  by_cases h1:w6=3∨w6= -3
  ·rw[if_pos h1] at aK
   refine X3 (A1o (by rw[ha];exact decide_eq_true h1) ?_)
   refine X3 (Z3 (C2W (b:=b) ht ag (At.bD ?_)))
   refine X3 (Z3 (C11 (T:=T) (full0:=full0) ag hsz.1 (At.bD ?_)))
   refine b7 (b7 ?_)
   subst aK
   refine A4V Z7 5 ?_
   refine W.sub (L':=U6 Z7 5 ⟨none,0,0⟩ []::cells x2 #[.slice none 0 0,.slice none 0 0]::A0Q b (A1Q T.b)::rbA r false (W0 .i64) ⟨A1Q T.b,[],[]⟩::old h0::L3) ?_
   exact U3 (fun h hs=>hK (o7,o7,false) () trivial h ((B1L (k:=.u8) hs).re [2,0,1,3,4,5]))
  rw[if_neg h1] at aK
  refine X3 (o5 (by rw[ha];exact decide_eq_false h1) ?_)
  clear ha h1
  refine X3 (A8a (b:=x1) (i:=2) (v:=(vk,vd,vr,vq,vi,vt,vp,vc,s8,s9,cG,cF,cy,cz,dg,dj,di,dh,dE,cA,cD,vu,cw,cv,dA,dz,())) ?_)
  obtain⟨cc,fW⟩:∃cc,cc=IntKind.wrap .i64 vc:=⟨_,rfl⟩
  have xU:vc=cc:=by
   have:=hp.code
   simp[Lit.wf,IntKind.min,IntKind.max,IntKind.bits,IntKind.signed] at this
   rw[fW,V8 (by omega) (by omega)]
  refine X3 (Z3 (C4q hr fW (fun c1 c2 p1 p2 w1 w2 q1 q2 f1 f2=>At.bD (x:=((vk,vd,vr,vq,vi,vt,vp,vc,c1,p1,cG,cF,cy,cz,dg,dj,di,dh,w1,cA,cD,vu,cw,cv,q1,f1,()),(vk,vd,vr,vq,vi,vt,vp,cc,c2,p2,cG,cF,cy,cz,dg,dj,di,dh,w2,cA,cD,vu,cw,cv,q2,f2,()),())) ?_)))
  clear fW
  subst xU
  have oE:∀{α:Type} (l:List α),(l.take 80).length≤100:=fun l=>C7 (J6 _ _) (by decide)
  have xn:C20 (vk,vd,vr,vq,vi,vt,vp,vc,c1,p1,cG,cF,cy,cz,dg,dj,di,dh,w1,cA,cD,vu,cw,cv,q1,f1,()) (pl.take 80) (sl.take 80) (fl.take 80):=⟨C7 hp.bX (by decide),C7 hp.aC (by decide),C7 hp.aX (by decide),oE _,oE _,fun s hs=>C7 (hp.aH s (List.mem_of_mem_take hs)) (by decide),oE _,fun f hf=>C7 (hp.eP f (List.mem_of_mem_take hf)) (by decide)⟩
  have xj:C6W (vk,vd,vr,vq,vi,vt,vp,vc,c2,p2,cG,cF,cy,cz,dg,dj,di,dh,w2,cA,cD,vu,cw,cv,q2,f2,()) (pl.take 80) (sl.take 80) (fl.take 80):=⟨C7 hp.bX (by decide),C7 hp.aC (by decide),C7 hp.aX (by decide),oE _,oE _,fun s hs=>C7 (hp.aH s (List.mem_of_mem_take hs)) (by decide),oE _⟩
  have bO:=C77 iD.conn
  have e1:i6 full conn (pkI (vk,vd,vr,vq,vi,vt,vp,vc,c1,p1,cG,cF,cy,cz,dg,dj,di,dh,w1,cA,cD,vu,cw,cv,q1,f1,()) (pl.take 80) (sl.take 80) (fl.take 80)) T.b=T9:=aK.symm
  have e2:i6 full conn (pkI (vk,vd,vr,vq,vi,vt,vp,vc,c2,p2,cG,cF,cy,cz,dg,dj,di,dh,w2,cA,cD,vu,cw,cv,q2,f2,()) (pl.take 80) (sl.take 80) (fl.take 80)) T.b=T9:=aK.symm
  have gW:n≤1000000:=by omega
  clear aK hr hp iD
  refine X3 (Y2 fun pv=>?_)
  refine X3 (Y2 fun lB=>?_)
  refine X3 (A0n (b:=pv) ?_)
  refine X3 (A0n (b:=lB) ?_)
  refine W.cells (b:=pv) #[.int .i64 vk,.bool vd,.bool vr,.int .i64 vq,.int .i64 vi,.string vt,.string vp,.int .u8 vc,.slice c1.a c1.len c1.cap,.slice p1.a p1.len p1.cap,.string cG,.bool cF,.int .i64 cy,.bool cz,.string dg,.string dj,.int .i64 di,.bool dh,.slice w1.a w1.len w1.cap,.bool cA,.bool cD,.string vu,.string cw,.bool cv,.slice q1.a q1.len q1.cap,.slice f1.a f1.len f1.cap] ?_
  refine W.cells (b:=lB) #[.int .i64 vk,.bool vd,.bool vr,.int .i64 vq,.int .i64 vi,.string vt,.string vp,.int .i64 vc,.slice c2.a c2.len c2.cap,.slice p2.a p2.len p2.cap,.string cG,.bool cF,.int .i64 cy,.bool cz,.string dg,.string dj,.int .i64 di,.bool dh,.slice w2.a w2.len w2.cap,.bool cA,.bool cD,.string vu,.string cw,.bool cv,.slice q2.a q2.len q2.cap,.slice f2.a f2.len f2.cap] ?_
  refine X3 (W.load (b:=x1) (v:=conn) ?_)
  refine X3 (s7 (b:=pv) (v:=(vk,vd,vr,vq,vi,vt,vp,vc,c1,p1,cG,cF,cy,cz,dg,dj,di,dh,w1,cA,cD,vu,cw,cv,q1,f1,())) ?_)
  refine X3 (W.load (b:=x1) (v:=full) ?_)
  refine X3 (j2 (A9E (b:=b) (n:=n) (B:=T.b) (c:=conn) (p:=(vk,vd,vr,vq,vi,vt,vp,vc,c1,p1,cG,cF,cy,cz,dg,dj,di,dh,w1,cA,cD,vu,cw,cv,q1,f1,())) (pl:=pl.take 80) (sl:=sl.take 80) (fl:=fl.take 80) (full:=full) ht ag gW xn bO (fun so sp=>At.un (x:=(so,sp,())) ?_)))
  rw[e1]
  refine X3 (A0n (b:=x2) ?_)
  refine X3 (W.load (b:=x1) (v:=conn) ?_)
  refine X3 (s7 (b:=lB) (v:=(vk,vd,vr,vq,vi,vt,vp,vc,c2,p2,cG,cF,cy,cz,dg,dj,di,dh,w2,cA,cD,vu,cw,cv,q2,f2,())) ?_)
  refine X3 (W.load (b:=x1) (v:=full) ?_)
  refine X3 (Z3 (C4k (T:=T) (n:=n) (full:=full) (full0:=full0) (c:=conn) (p:=(vk,vd,vr,vq,vi,vt,vp,vc,c2,p2,cG,cF,cy,cz,dg,dj,di,dh,w2,cA,cD,vu,cw,cv,q2,f2,())) (pl:=pl.take 80) (sl:=sl.take 80) (fl:=fl.take 80) ag gW hsz.1 hsz.2 bO xj (At.bD ?_)))
  rw[e2]
  refine b7 (b7 ?_)
  exact U3 (hK (so,sp,full) () trivial).sub
 ·obtain⟨gs,gp,gf⟩:=g
  dsimp only
  refine X3 (W.load (b:=x2) (v:=gs) ?_)
  refine X3 (W5 ?_)
  refine A2j (g:=fun q R=>rbL r gf (W0 .i64) T9 q R) (fun h R=>A0T.1) fun q=>?_
  refine X3 (j4 (b:=r) (i:=5) (v:=q.so) ?_)
  refine W.sub (L':=W0 .u8 gs T9.outs::W0 .i64 q.so T9.outs::cells x2 #[.slice gs.a gs.len gs.cap,.slice gp.a gp.len gp.cap]::U6 Z7 5 gp T9.aT::A0Q b T9.b::cells r (rbC q gf)::U6 Z7 5 q.sp T9.aT::U6 A0h 8 q.sc T9.b.aB::A0x q.tb T9.b.last T9.b.aD::A0J q.sb T9.b.aH::A1V q.kb 64 T9.b.kept::old h0::L3) ?_
  refine X3 (j2 (C3S (v:=.bool true) (fun h1 aa Q1 jg=>C4c (s1:=gs) (s2:=q.so) (os:=T9.outs) (C3q aa) (C3q (aa.re [1,0])) (C7 tJ (by decide)) ud jg) (At.un (x:=true) ?_)))
  refine A1o rfl ?_
  refine X3 (W.load (b:=x2) (v:=gp) ?_)
  refine X3 (W5 ?_)
  refine X3 (j4 (b:=r) (i:=6) (v:=q.sp) ?_)
  refine W.sub (L':=U6 Z7 5 gp T9.aT::U6 Z7 5 q.sp T9.aT::W0 .i64 q.so T9.outs::A0Q b T9.b::cells r (rbC q gf)::U6 A0h 8 q.sc T9.b.aB::A0x q.tb T9.b.last T9.b.aD::A0J q.sb T9.b.aH::A1V q.kb 64 T9.b.kept::old h0::L3) ?_
  refine X3 (j2 (C3S (v:=.bool true) (fun h1 aa Q1 jg=>C1S (s1:=gp) (s2:=q.sp) (ms:=T9.aT) (aa.aO (Enc.len (enc:=Z7))) ((aa.re [1,0]).aO (Enc.len (enc:=Z7))) (C7 tE (by decide)) jg) (At.un (x:=true) ?_)))
  refine b7 (U3 ?_)
  refine At.rb (O:=W0 .i64) T9 q ?_
  exact(hq gf).sub
end
section
open Go.H Go.Proofs
variable {h h0:Heap} {L L' L1 L2 R:List Asn} {Q:Value→Heap→Prop}
theorem C7v{f n:B38}(ht:TP h0)(hf:f.size≤9223372036854775807)(hn:n.size≤9223372036854775807)(hq:At (old h0::L1) (Q (.bool (Y1 f n))))(hx:Has L (old h0) L1:=by repeat first|with_reducible exact V1|apply V3):FW prog 14 #[.string f,.string n] L Q:=fun h hs=>
 B7c (hx.s hs) ht hf hn fun h' af=>hq h' af
theorem C86{γ β:Type}{enc:γ→D0u}{size n:Nat}{N:Int}{s s2:Slc}{xs:List γ}{f:Slc→HM β}{Q':β→Heap→Prop}(hr:Z8 enc size h0 s xs)(hN:N=(n:Int))(hw:∀s',Z8 enc size h0 s' (xs.take n)→W L (f s') Q')(hs:s2=s:=by rfl):
  W L (HM.bind (HM.slice s none (some (if N<(((s2.len:Nat):Int):Int) then N else((s2.len:Nat):Int))) none size) f) Q':=by
 subst hs hN
 have hl:=hr.1
 by_cases jv:n<xs.length
 ·rw[if_pos (by omega)]
  exact C3O (n:=n) hr (by omega) hw
 ·rw[if_neg (by omega)]
  have e:xs.take n=xs.take xs.length:=by rw[D4 (by omega),F5]
  refine C3O (n:=xs.length) hr (D8 _) (fun s' dv=>hw s' (by rw[e];exact dv)) (by rw[hl])
theorem tm2(q:Int):Int.tmod (if 0<q then q else 0) 2=0∨Int.tmod (if 0<q then q else 0) 2=1:=by
 have h0:0≤(if 0<q then q else 0):=by split<;>omega
 rw[Int.tmod_eq_emod_of_nonneg h0]
 omega
theorem tm3(q:Int):0≤Int.tmod (if 0<q then q else 0) 3∧Int.tmod (if 0<q then q else 0) 3≤2:=by
 have h0:0≤(if 0<q then q else 0):=by split<;>omega
 rw[Int.tmod_eq_emod_of_nonneg h0]
 omega
end
section
open Go.H Go.Proofs
variable {h h0:Heap} {L L' L1 L2 L3 R:List Asn} {Q:Value→Heap→Prop}
noncomputable def evN(B:Z0)(x:EvQ):Z0:=(evB x B).b
noncomputable def C43(xs:List EvQ):Z0:=xs.foldl evN ⟨0,[],[],[],[]⟩
theorem C7N{s1:Slc}{iK:List EvQ}(ht:TP h0)(ig:Z8 B6p 34 h0 s1 iK)(lg:∀x∈iK,EvG 1048576 h0 x)
  (hq:∀b,X4 (C43 (iK.take 40)) 40→A77 (C43 (iK.take 40))→At (A0Q b (C43 (iK.take 40))::old h0::L1) (Q (at0 b)))(hx:Has L (old h0) L1:=by repeat first|with_reducible exact V1|apply V3):
  FW prog 15 #[.slice s1.a s1.len s1.cap] L Q:=by
 refine fun h hs=>B10 s1 h Q ((?_:W (old h0::L1) _ _) h (hx.s hs))
 clear hs h hx
 delta B34 az bn cb cp g0 ie ix nw pu sn wi
 refine j2 (C6H (fun b=>At.un (x:=some ⟨b,0,none⟩) ?_))
 refine j2 (C8s (fun r=>At.un (x:=some ⟨r,0,none⟩) ?_))
 refine C86 (n:=40) ig rfl (fun s' hr=>?_)
 have wh:(iK.take 40).length≤40:=J6 _ _
 have oQ:∀x∈iK.take 40,EvG 1048576 h0 x:=fun x hx=>lg x (List.mem_of_mem_take hx)
 clear ig lg
 generalize iK.take 40=xs at hr oQ wh hq
 refine W.loop (γ:=Nat×V0×Bool) (fun g s=>s.1=(g.1:Int)∧g.1≤xs.length∧X4 g.2.1.b g.1∧A77 g.2.1.b∧(xs.drop g.1).foldl evN g.2.1.b=C43 xs) (fun g s=>rbA r g.2.2 (W0 .i64) g.2.1::A0Q b g.2.1.b::old h0::L1) (fun g=>xs.length-g.1) (0,⟨⟨0,[],[],[],[]⟩,[],[]⟩,false) ⟨rfl,D1 _,X4.new,C8d,rfl⟩ ?_ ?_
 ·show Sub _ (rbA r false (W0 .i64) ⟨⟨0,[],[],[],[]⟩,[],[]⟩::A0Q b ⟨0,[],[],[],[]⟩::old h0::L1)
  repeat(first|with_reducible exact T7|with_reducible exact T8|refine U0 (by repeat first|with_reducible exact V1|apply V3) ?_|refine U1 ?_)
 rintro⟨i,T,f0⟩ s ⟨hi,cn,ag,hw,hf⟩ K k1 k2
 simp only at hi cn ag hw hf
 dsimp only
 by_cases ah:i<xs.length
 ·refine Y4 (by rw[hi,hr.1];exact decide_eq_true (by omega)) ?_
  have aY:xs[i]? =some xs[i]:=B0 ah
  have bl:xs.drop i=xs[i]::xs.drop (i+1):=E1 ah
  have pV:=oQ xs[i] (G8 ah)
  rw[bl,H3] at hf
  generalize xs[i]=u at aY pV hf
  clear bl
  refine Z1 (fun h R hs=>B9Q (b:=b) (B:=T.b) h R hs) fun au=>?_
  obtain⟨jJ,pX,-,-,-⟩:=C6o pV ag au.1 au.2 hw
  have hn:=fun full=>k1 (i+1,evB u T.b,full) (IntKind.wrap .i64 (s.1+1),()) (by simp only;omega) ⟨by simp only[hi];rw[V8 (by omega) (by omega)];rfl,ah,jJ,pX,hf⟩
  clear k1 k2 jJ pX hf
  obtain⟨cQ,conn,⟨⟨vk,vd,vr,vq,vi,vt,vp,vc,s8,s9,cG,cF,cy,cz,dg,dj,di,dh,dE,cA,cD,vu,cw,cv,dA,dz,⟨⟩⟩,cl,pl,wl,sl,fl⟩,full,⟨mt,mp,mq,mr,mg⟩⟩:=u
  refine A78 hr ah (fun a ha=>?_) (he:=hi)
  refine B4Q (v:=(cQ,conn,vk,vd,vr,vq,vi,vt,vp,vc,s8,s9,cG,cF,cy,cz,dg,dj,di,dh,dE,cA,cD,vu,cw,cv,dA,dz,full,mt,mp,mq,mr,mg,())) hr ha aY ?_
  refine Y2 fun x8=>?_
  refine A0n (b:=x8) ?_
  refine W.cells (b:=x8) #[.int .i64 cQ,.int .i64 conn,.int .i64 vk,.bool vd,.bool vr,.int .i64 vq,.int .i64 vi,.string vt,.string vp,.int .u8 vc,.slice s8.a s8.len s8.cap,.slice s9.a s9.len s9.cap,.string cG,.bool cF,.int .i64 cy,.bool cz,.string dg,.string dj,.int .i64 di,.bool dh,.slice dE.a dE.len dE.cap,.bool cA,.bool cD,.string vu,.string cw,.bool cv,.slice dA.a dA.len dA.cap,.slice dz.a dz.len dz.cap,.bool full,.string mt,.string mp,.int .i64 mq,.bool mr,.string mg] ?_
  refine s7 (b:=x8) (v:=(cQ,conn,vk,vd,vr,vq,vi,vt,vp,vc,s8,s9,cG,cF,cy,cz,dg,dj,di,dh,dE,cA,cD,vu,cw,cv,dA,dz,full,mt,mp,mq,mr,mg,())) ?_
  refine j2 (C6g (b:=b) (r:=r) (n:=i) (full0:=f0) (T:=T) (x:=⟨cQ,conn,⟨(vk,vd,vr,vq,vi,vt,vp,vc,s8,s9,cG,cF,cy,cz,dg,dj,di,dh,dE,cA,cD,vu,cw,cv,dA,dz,()),cl,pl,wl,sl,fl⟩,full,(mt,mp,mq,mr,mg)⟩) ht ag (by omega) hw pV (fun full=>At.un (x:=true) ?_))
  exact U3 (hn full).sub
 ·refine W8 (by rw[hi,hr.1];exact decide_eq_false (by omega)) (U3 (k2 _ _ (U3 ?_)))
  have en:i=xs.length:=by omega
  subst en
  rw[J8,P3] at hf
  rw[←hf] at hq
  exact(hq b (ag.mono wh) hw).sub
end
section
open Go.H Go.Proofs
def StO(o:Z2):Prop:=o.on=true→o.waiting=[]∨∃m w,o.waiting=m::w∧0<m.2.2.1∧o.most≤(o.aG.length:Int)
def StA(A:List V7):Prop:=∀s∈A,StO s.out
theorem C5q:∀(w:List MsT) (o:Z2),StO (goF o w).1
 |[],o=>fun _=>.inl rfl
 |m::w,o=>by
  unfold goF
  split
  ·rename_i h;exact fun _=>.inr ⟨m,w,rfl,h.1,h.2⟩
  ·split
   ·exact C5q w _
   ·exact C5q w _
theorem A9i{o:Z2}:StO (Y7 o).1:=by
 unfold Y7
 split
 ·exact C5q _ _
 ·rename_i h;exact fun e=>absurd e h
theorem B5c{o:Z2}{m:MsT}(h:StO o):StO (Y0 o m).1.1:=by
 unfold Y0
 split
 ·exact h
 ·split
  ·exact h
  ·split
   ·exact h
   ·exact A9i
theorem C7h{o:Z2}{k id c:Int}(h:StO o):StO (A0R o k id c).1.1:=by
 unfold A0R
 split
 ·exact h
 ·split
  ·exact h
  ·split
   ·split
    ·exact h
    ·exact A9i
   ·split
    ·split
     ·exact h
     ·split
      ·exact A9i
      ·exact A9i
    ·split
     ·exact h
     ·exact A9i
theorem StA.set{A:List V7}{k:Int}{f:V7→V7}(h:StA A)(hf:∀s∈A,StO (f s).out):StA (X7 k f A):=fun x hx=>by
 rcases A3i hx with hx|⟨s,hs,_,rfl⟩
 ·exact h x hx
 ·exact hf s hs
theorem B5e{T:V0}{id:Int}{f:Z2→Z2×List PkO}(h:StA T.b.aD)(hf:∀o,StO o→StO (f o).1):StA (A0F id f T).b.aD:=by
 unfold A0F
 split
 ·exact h
 ·rename_i s hg
  exact StA.set h fun _ _=>hf _ (h s (B2a hg).1)
theorem B4T{α:Type}{f:V0→α→V0}(hf:∀T x,StA T.b.aD→StA (f T x).b.aD):∀(l:List α) {T:V0},StA T.b.aD→StA (l.foldl f T).b.aD
 |[],T,h=>h
 |x::l,T,h=>B4T hf l (hf T x h)
theorem C3b{T:V0}{m:MsT}(h:StA T.b.aD):StA (A0p m T).b.aD:=by
 unfold A0p
 refine B4T (fun T x hT=>B5e hT fun o ho=>B5c ho) _ ?_
 unfold A1k
 split
 ·exact h
 ·exact h
theorem B5d{T:V0}{m:MsT}(h:StA T.b.aD):StA (A3n m T).b.aD:=C3b h
theorem C3c{k:Int}{B:Z0}(h:StA B.aD):StA (A6m k B).aD:=by
 unfold A6m
 split
 ·exact h
 ·split
  ·exact h
  ·split
   ·exact StA.set h fun s hs e=>by cases e
   ·exact fun s hs=>h s (D9.1 hs).1
theorem C1N{T:V0}{full:Bool}{c:Int}{w:Bool}(h:StA T.b.aD):StA (A4n full c w T).b.aD:=by
 unfold A4n
 split
 ·exact h
 ·rename_i x _
  simp only
  have h1:StA (A6m x.aD (A5s (T.b.aB.filter fun y=>decide (y.c≠c)) T.b)).aD:=C3c (B:=A5s (T.b.aB.filter fun y=>decide (y.c≠c)) T.b) h
  split
  ·exact B5d (T:=tB (A6m x.aD (A5s (T.b.aB.filter fun y=>decide (y.c≠c)) T.b)) T) h1
  ·exact h1
theorem A6F{T:V0}{full:Bool}{c code:Int}(h:StA T.b.aD):StA (A0C full c code T).b.aD:=C1N (T:=A0A ⟨c,j9 14 0 code,true⟩ T) h
theorem C7g{full:Bool}{x:Y6}{p:PkI}{T:V0}(h:StA T.b.aD):StA (A5F full x p T).b.aD:=by
 unfold A5F
 split
 ·exact A6F h
 ·split
  ·exact h
  ·rename_i s hs
   simp only
   generalize l9 s.aZ p.kind p.dY p.id (if full=true then 151 else 0)=r
   have h1:StA (X7 x.aD (j1 ⟨s.aZ.most,s.aZ.taken,r.2.2.2⟩) T.b.aD):=StA.set h fun s hs=>h s hs
   split
   ·exact A6F (T:=A0E (X7 x.aD (j1 ⟨s.aZ.most,s.aZ.taken,r.2.2.2⟩) T.b.aD) T) h1
   ·split
    ·exact B5d (T:=q7 x.aD (A3E r.2.1 p.id) (A0E (X7 x.aD (j1 ⟨s.aZ.most,s.aZ.taken,r.2.2.2⟩) T.b.aD) T)) h1
    ·exact h1
theorem C37{full:Bool}{x:Y6}{p:PkI}{T:V0}(h:StA T.b.aD):StA (A2I full x p T).b.aD:=by
 unfold A2I
 split
 ·exact h
 ·split
  ·exact A6F h
  ·exact B5e h fun o ho=>C7h ho
theorem C8i{x:Y6}{s:A0G}{T:V0}(h:StA T.b.aD):StA (j3 x.aD T s).b.aD:=by
 unfold j3
 split
 ·exact h
 ·exact B4T (fun T m hT=>B5e hT fun o ho=>B5c ho) _ h
theorem C8j{full:Bool}{x:Y6}{p:PkI}{T:V0}(h:StA T.b.aD):StA (A8T full x p T).b.aD:=by
 unfold A8T
 split
 ·exact C7g h
 ·split
  ·exact C37 h
  ·split
   ·unfold A04
    exact B4T (fun T s hT=>C8i hT) _ (T:=A0A ⟨x.c,A0S 9 p.id (j6 x.aD p.aH T.b.aH).2,false⟩ (A1i (j6 x.aD p.aH T.b.aH).1 T)) h
   ·split
    ·exact h
    ·split
     ·exact h
     ·split
      ·exact C1N h
      ·exact A6F h
theorem C5r{aC:B38}{clean aN:Bool}{B:Z0}(h:StA B.aD):StA (b9 aC clean aN B).2.aD:=by
 have hn:StO (A2v (B.last+1) aC aN).out:=fun _=>.inl rfl
 unfold b9
 split
 ·split
  ·exact StA.set h fun s hs=>h s hs
  ·intro s hs
   rcases C9.1 hs with hs|hs
   ·exact h s (D9.1 hs).1
   ·rw[B8.1 hs];exact hn
 ·intro s hs
  rcases C9.1 hs with hs|hs
  ·exact h s hs
  ·rw[B8.1 hs];exact hn
theorem C1O{full:Bool}{c:Int}{p:PkI}{T:V0}(h:StA T.b.aD):StA (A1m full c p T).b.aD:=by
 unfold A1m
 split
 ·exact h
 ·rw[A3X]
  have hk:StA (A0O full p.aC T).b.aD:=by
   unfold A0O
   split
   ·unfold A28
    split
    ·exact h
    ·exact A6F h
   ·exact h
  have hb:=C5r (aC:=p.aC) (clean:=p.clean) (aN:=A0c p.props) hk
  refine B5e ?_ fun o ho=>A9i
  exact hb
theorem C36{full:Bool}{c:Int}{p:PkI}{B:Z0}(h:StA B.aD):StA (i6 full c p B).b.aD:=by
 unfold i6
 split
 ·exact C8j (T:=⟨B,[],[]⟩) h
 ·split
  ·exact C1O (T:=⟨B,[],[]⟩) h
  ·exact h
theorem C1M{B:Z0}(h:StA B.aD):StA (A1Q B).aD:=by
 rw[A5K]
 generalize B.aB.map (·.c)=l
 induction l generalizing B with
 |nil=>exact h
 |cons c l ih=>
  rw[H3]
  refine ih ?_
  unfold A5j
  split
  ·exact h
  ·exact C3c (B:=A5s (B.aB.filter fun y=>decide (y.c≠c)) B) h
structure C22(m:MsT)(o:r8):Prop where
 cl:o.close=false
 kind:o.pk.kind=3
 top:o.pk.bX=m.1
 pay:o.pk.cK=m.2.1
 ret:o.pk.cZ=false
 dup:o.pk.dup=false
 dY:o.pk.dY≤m.2.2.1
theorem C8n{o:Z2}{m:MsT}(h:StO o):(Y0 o m).1.2=[]∨∃id,(Y0 o m).1.2=[A0y m id false]:=by
 unfold Y0
 split
 ·exact .inl rfl
 ·split
  ·exact .inl rfl
  ·split
   ·exact .inl rfl
   ·unfold Y7
    simp only
    split
    ·rename_i aP
     rcases h aP with hw|⟨x,w,hw,h1,h2⟩
     ·rw[hw,F0]
      unfold goF
      split
      ·exact .inl rfl
      ·split
       ·exact .inr ⟨_,rfl⟩
       ·exact .inr ⟨_,rfl⟩
     ·rw[hw,G3,goF,if_pos ⟨h1,h2⟩]
      exact .inl rfl
    ·exact .inl rfl
theorem B8o{m:MsT}{l:List Ent}:∀(ids:List Int) {T:V0},ids.Nodup→j7 T.b→StA T.b.aD→(T.b.aB.map (·.c)).Nodup→
  ∃os,(ids.foldl (A0b m l) T).outs=T.outs++os∧(ids.foldl (A0b m l) T).b.aB=T.b.aB∧(∀o∈os,C22 m o∧∃x∈T.b.aB,x.c=o.conn∧x.aD∈ids)∧(os.map (·.conn)).Nodup
 |[],T,_,_,_,_=>⟨[],by simp,rfl,fun o ho=>(by cases ho),R4⟩
 |id::ids,T,hn,hb,hs,hc=>by
  rw[F4] at hn
  have fj:=A7M (m:=m) (l:=l) T id hb
  have aa:StA (A0b m l T id).b.aD:=B5e hs fun o ho=>B5c ho
  have e1:(A0b m l T id).b.aB=T.b.aB:=fj.aB
  obtain⟨os,h1,h2,h3,h4⟩:=B8o (m:=m) (l:=l) ids (T:=A0b m l T id) hn.2 fj.ok aa (by rw[e1];exact hc)
  rw[e1] at h3
  obtain⟨ps,lK,nM⟩:∃ps,(A0b m l T id).outs=T.outs++ps∧(ps=[]∨∃o,ps=[o]∧C22 m o∧∃x∈T.b.aB,x.c=o.conn∧x.aD=id):=by
   unfold A0b A0F
   cases hg:A4N id T.b.aD with
   |none=>exact⟨[],by simp,.inl rfl⟩
   |some s=>
    refine⟨A1U T.b.aB id (Y0 s.out (m.1,m.2.1,min m.2.2.1 (A2u l id),false,e0S)).1.2,rfl,?_⟩
    have eh:=hb.one id
    have al:∀x∈T.b.aB.filter (fun x=>decide (x.aD=id)),x∈T.b.aB∧x.aD=id:=fun x hx=>⟨(D9.1 hx).1,by simpa using(D9.1 hx).2⟩
    unfold A1U
    rcases C8n (m:=(m.1,m.2.1,min m.2.2.1 (A2u l id),false,e0S)) (hs s (B2a hg).1) with e|⟨i,e⟩
    ·rw[e];left;simp
    ·rw[e]
     generalize T.b.aB.filter (fun x=>decide (x.aD=id))=k at eh al
     match k,eh with
     |[],_=>exact .inl rfl
     |[x],_=>
      refine .inr ⟨_,rfl,⟨rfl,rfl,rfl,rfl,rfl,rfl,Int.min_le_left _ _⟩,x,(al x (B8.2 rfl)).1,rfl,(al x (B8.2 rfl)).2⟩
  refine⟨ps++os,by rw[H3,h1,lK,D6],by rw[H3,h2,e1],fun o ho=>?_,?_⟩
  ·rcases C9.1 ho with ho|ho
   ·rcases nM with rfl|⟨o',rfl,hi,x,hx,gz,dJ⟩
    ·cases ho
    ·rw[B8.1 ho]
     exact⟨hi,x,hx,gz,by rw[dJ];exact B4 ..⟩
   ·obtain⟨hi,x,hx,gz,dJ⟩:=h3 o ho
    exact⟨hi,x,hx,gz,C3 _ dJ⟩
  ·rcases nM with rfl|⟨o',rfl,hi,x,hx,gz,dJ⟩
   ·exact h4
   ·rw[List.singleton_append,B6,F4]
    refine⟨fun hm=>?_,h4⟩
    obtain⟨o2,xu,e2⟩:=E4.1 hm
    obtain⟨_,y,hy,wV,rM⟩:=h3 o2 xu
    have:y=x:=A8U (f:=(·.c)) hc hy hx (by rw[wV,gz,e2])
    rw[this,dJ] at rM
    exact hn.1 rM
theorem B59:∀(p:Option Int) (l:List Ent),∀i∈A3v p l,∃e∈l,e.1=i
 |_,[],i,h=>by cases h
 |p,e::l,i,h=>by
  unfold A3v at h
  split at h
  ·obtain⟨x,hx,hi⟩:=B59 p l i h
   exact⟨x,C3 _ hx,hi⟩
  ·rcases D2.1 h with rfl|h
   ·exact⟨e,B4 ..,rfl⟩
   ·obtain⟨x,hx,hi⟩:=B59 _ l i h
    exact⟨x,C3 _ hx,hi⟩
theorem B0S:∀(p:Option Int) {l:List Ent},(l.Pairwise fun a b=>a.1≤b.1)→(∀q∈p,∀e∈l,q≤e.1)→(A3v p l).Nodup∧∀q∈p,∀i∈A3v p l,q<i
 |p,[],_,_=>⟨R4,fun q _ i hi=>(by cases hi)⟩
 |p,e::l,h,hp=>by
  rw[H5] at h
  unfold A3v
  split
  ·rename_i e1
   subst e1
   exact B0S (some e.1) h.2 fun q hq x hx=>hp q hq x (C3 _ hx)
  ·rename_i e1
   obtain⟨n1,n2⟩:=B0S (some e.1) h.2 fun q hq x hx=>by cases hq;exact h.1 x hx
   refine⟨F4.2 ⟨fun hm=>?_,n1⟩,fun q hq i hi=>?_⟩
   ·exact Int.lt_irrefl _ (n2 e.1 rfl _ hm)
   ·cases hq
    have hle:=hp q rfl e (B4 ..)
    have ah:q<e.1:=by
     have:q≠e.1:=fun e2=>e1 (by rw[e2])
     omega
    rcases D2.1 hi with rfl|hi
    ·exact ah
    ·exact Int.lt_trans ah (n2 e.1 rfl _ hi)
theorem B9K{m:MsT}{B:Z0}(hb:j7 B)(hs:StA B.aD)(hc:(B.aB.map (·.c)).Nodup)(ha:Asc B.aH):
  (∀o∈(z8 m B).outs,C22 m o∧∃x∈B.aB,x.c=o.conn)∧((z8 m B).outs.map (·.conn)).Nodup∧((z8 m B).outs≠[]→∃e∈B.aH,Y1 e.2.1 m.1=true)∧(z8 m B).b.aH=B.aH:=by
 unfold z8
 have hk:(A1k m ⟨B,[],[]⟩).b.aB=B.aB∧(A1k m ⟨B,[],[]⟩).outs=[]∧(A1k m ⟨B,[],[]⟩).b.aD=B.aD:=by
  unfold A1k;split<;>exact⟨rfl,rfl,rfl⟩
 have bf:(A0p m ⟨B,[],[]⟩).b.aH=B.aH:=B6b
 have xF:=(B12 (m:=m) (T:=⟨B,[],[]⟩) hb).ok
 have au:=(B0S none (C6I (ha.filter fun x=>Y1 x.2.1 m.1)) fun q hq=>by cases hq).1
 obtain⟨os,h1,h2,h3,h4⟩:=B8o (m:=m) (l:=B.aH.filter fun x=>Y1 x.2.1 m.1) (A3v none (B.aH.filter fun x=>Y1 x.2.1 m.1)) (T:=A1k m ⟨B,[],[]⟩) au xF (by rw[hk.2.2];exact hs) (by rw[hk.1];exact hc)
 rw[hk.2.1,F0] at h1
 rw[hk.1] at h3
 have e:(A0p m ⟨B,[],[]⟩).outs=os:=h1
 refine⟨?_,?_,?_,bf⟩
 ·rw[e];exact fun o ho=>⟨(h3 o ho).1,by obtain⟨x,hx,gz,_⟩:=(h3 o ho).2;exact⟨x,hx,gz⟩⟩
 ·rw[e];exact h4
 ·rw[e]
  intro bF
  cases os with
  |nil=>exact absurd rfl bF
  |cons o os=>
   obtain⟨_,x,hx,gz,dJ⟩:=h3 o (B4 ..)
   obtain⟨y,hy,_⟩:=B59 none _ _ dJ
   obtain⟨gh,fJ⟩:=D9.1 hy
   exact⟨y,gh,fJ⟩
variable {h h0:Heap} {L L' L1 L2 L3 R:List Asn} {Q:Value→Heap→Prop}
theorem C9t{x:EvQ}{B:Z0}(h:StA B.aD):StA (evB x B).b.aD:=by
 unfold evB
 split
 ·exact C1N (T:=⟨B,[],[]⟩) h
 ·split
  ·exact C3b (T:=⟨B,[],[]⟩) h
  ·split
   ·exact C1M h
   ·exact C36 h
theorem C5s:∀(l:List EvQ) {B:Z0},StA B.aD→StA (l.foldl evN B).aD
 |[],B,h=>h
 |x::l,B,h=>C5s l (C9t h)
theorem C7i(l:List EvQ):StA (C43 l).aD:=C5s l fun s hs=>by cases hs
theorem C7I{b:Nat}{B:Z0}:∀h R,sat h (A0Q b B::R)→(∀e∈B.aH,e.2.1.size≤9223372036854775807)∧Asc B.aH:=fun h R hs=>by
 obtain⟨p,h1⟩:=A1n.1 hs
 obtain⟨hg,ha⟩:=A4X (h1.re [2,0,1,3,4])
 exact⟨fun e he=>C7 (A2k (u4 (hg e he))) (by decide),ha⟩
theorem C3B:∀a b:Int,eKI a=eKI b→a=b:=fun a b h=>by cases h;rfl
abbrev kB1:Kind:=.one .bool
abbrev kI1:Kind:=.one (.int .i64)
theorem B5L{α:Type}{l:List α}(hn:l.Nodup){i:Nat}(ah:i<l.length):l[i]∉l.take i:=fun hm=>by
 obtain⟨j,hj,e⟩:=List.getElem_of_mem hm
 rw[E6] at hj
 rw[List.getElem_take] at e
 exact(Q5.1 hn) j i (by omega) ah (by omega) e
theorem C87{β:Type}{Q':β→Heap→Prop}{S:Slc}{cl:List Int}{x:Nat}{f:Int×Unit→HM β}(hn:cl.Nodup)(hl:cl.length≤1000000)
  (hw:∀s,W (U6 eI 1 S cl::mapA eKI kB1.val x (B7n cl)::L2) (f s) Q')(hx:Has L (U6 eI 1 S cl) L1:=by repeat first|with_reducible exact V1|apply V3)(hy:Has L1 (mapA eKI kB1.val x []) L2:=by repeat first|with_reducible exact V1|apply V3):
  W L (HM.bind (HM.loop (σ:=Int×Unit) (τ:=Int×Unit) (fun x7=>
   A1v (decide (x7.1<((S.len:Nat):Int))) (
   HM.bind (α:=Addr) (A32 S.a S.len x7.1 1) fun x8=>
   HM.bind (α:=Int) (p8 (.int .i64) x8) fun x9=>
   HM.bind (α:=Unit) (A2F (Instr.sameNow (.int .i64)) (some x) (.int .i64 x9) (.bool true)) fun _=>
   X2 (.inl (IntKind.wrap .i64 (x7.1+1),()))) (
   X2 (.inr (x7.1,())))) (0,())) f) Q':=by
 refine W.sub (L':=U6 eI 1 S cl::mapA eKI kB1.val x (B7n [])::L2) ?_ (hx.then hy)
 clear hx hy
 refine Z1 (X5 (enc:=eI) (size:=1) (s:=S) (xs:=cl)) fun l1=>?_
 refine B0l cl.length (fun i x=>x.1=(i:Int)) (fun i _=>U6 eI 1 S cl::mapA eKI kB1.val x (B7n (cl.take i))::L2) rfl Sub.rfl (fun i x hi hI=>by rw[hI,l1];exact G0.2 (by omega)) ?_ ?_
 ·rintro⟨_,⟨⟩⟩ hI K hd
  rw[F5]
  exact U3 (hd _ _ (hw _))
 ·rintro i ⟨_,⟨⟩⟩ ah hI K bu hd
  simp only at hI
  subst hI
  have hy:=B0 ah
  refine j5 (enc:=eI) (xs:=cl) (i:=i) ah (fun a ha=>?_)
  refine B4P (enc:=eI) (x:=cl[i]) (v:=cl[i]) ha hy ?_
  refine W.mset (ek:=eKI) (ev:=kB1.val) kKI C3B cl[i] true ?_
  have jL:=B5L hn ah
  rw[C4v _ _ jL,←C4 ah]
  refine U3 ?_
  have h9:=bu (IntKind.wrap .i64 ((i:Int)+1),()) (by simp only;rw[V8 (by omega) (by omega)];rfl)
  exact h9.sub
theorem C52{l:List Int}(h:l.Nodup):(Z4 l).Nodup:=(A2K l).nodup_iff.2 h
theorem B9T{s1:Slc}{iK:List EvQ}{m0:MsT}(ht:TP h0)(ig:Z8 B6p 34 h0 s1 iK)(lg:∀x∈iK,EvG 1048576 h0 x)(fR:m0.1.size≤1048576)
  (hq:∀h' R,sat h' (old h0::R)→Q (.bool true) h'):FW prog 6 #[.slice s1.a s1.len s1.cap,vMs m0] [old h0] Q:=by
 have fin:∀{L L'},Has L (old h0) L'→At L (Q (.bool true)):=fun hx h hs=>hq h _ (hx.s hs)
 obtain⟨mt,mp,mq,mr,mg⟩:=m0
 refine fun h hs=>A7D s1 (mt,mp,mq,mr,mg,()) h Q ((?_:W [old h0] _ _) h hs)
 clear hs h
 delta A62 ad az bn cb cc cp g1 A02 g7 ie ix jb ji jt li lt nw pu sn sw vi vs wi
 refine Y2 fun x1=>?_
 refine W.cells (b:=x1) #[.string mt,.string mp,.int .i64 mq,.bool mr,.string mg] ?_
 refine j2 (C7N ht ig lg (fun b ag eX=>At.un (x:=some ⟨b,0,none⟩) ?_))
 have bL:=C7i (iK.take 40)
 generalize C43 (iK.take 40)=B at ag eX bL
 refine W.load (b:=x1) (v:=mq) ?_
 refine A1p ?_ (by decide)
 have xi:=tm3 mq
 generalize Int.tmod (if 0<mq then mq else 0) 3=qq at xi⊢
 refine W.store (b:=x1) (cs':=#[.string mt,.string mp,.int .i64 qq,.bool mr,.string mg]) ?_
 refine C9b (ek:=eKI) (ev:=kB1.val) fun x4=>?_
 refine Z1 (fun h R hs=>B9Q (b:=b) (B:=B) h R hs) fun au=>?_
 refine Z1 (fun h R hs=>C7I (b:=b) (B:=B) h R hs) fun qO=>?_
 refine j2 (C1n (b:=b) (B:=B) ag (fun S=>At.un (x:=S) ?_))
 have bU:=C52 au.1
 have bd:(Z4 (B.aB.map (·.c))).length≤1000000:=by rw[A2T,C1];exact A9C ag
 have al:∀k,k∈Z4 (B.aB.map (·.c))↔k∈B.aB.map (·.c):=fun k=>B2E
 generalize Z4 (B.aB.map (·.c))=cl at bU bd al
 refine C87 (cl:=cl) (x:=x4) bU bd (fun _=>?_)
 refine C9b (ek:=eKI) (ev:=kI1.val) fun ia=>?_
 refine s7 (b:=x1) (v:=(mt,mp,qq,mr,mg,())) ?_
 have tN:mt.size≤9223372036854775807:=C7 fR (by decide)
 obtain⟨o1,o2,o3,o4⟩:=B9K (m:=(mt,mp,qq,mr,mg)) ag.toj7 bL au.1 qO.2
 have bw:=A54 (m:=(mt,mp,qq,mr,mg)) ag
 refine j2 (B62 (b:=b) (B:=B) (m:=(mt,mp,qq,mr,mg)) ht ag tN (fun so=>At.un (x:=so) ?_))
 generalize z8 (mt,mp,qq,mr,mg) B=T9 at o1 o2 o3 o4 bw⊢
 obtain⟨B9,os,ps⟩:=T9
 dsimp only at o1 o2 o3 o4 bw⊢
 refine B9S (fun h R hs=>(A2C (k:=.u8) (s:=so) (os:=os)).1 hs) fun T hT=>?_
 refine Z1 (X5 (enc:=A0P .u8) (size:=28) (s:=so) (xs:=T.map ouF)) fun gB=>?_
 rw[C1] at gB
 have yd:T.map (fun z=>z.2.2.conn)=os.map (·.conn):=by rw[←hT,F1];rfl
 have vY:T.length=os.length:=by rw[←hT,C1]
 have yO:T.length≤3300000:=by rw[vY];exact bw.2.1
 obtain⟨cs,fx⟩:∃cs,cs=T.map (fun z=>z.2.2.conn):=⟨_,rfl⟩
 have uk:cs.Nodup:=by rw[fx,yd];exact o2
 have nY:cs.length=T.length:=by rw[fx,C1]
 refine B0l T.length (fun i x=>x.1=(i:Int)) (fun i _=>U6 (A0P .u8) 28 so (T.map ouF)::mapA eKI kI1.val ia (allM 1 (cs.take i))::mapA eKI kB1.val x4 (B7n cl)::cells x1 #[.string mt,.string mp,.int .i64 qq,.bool mr,.string mg]::A0Q b B9::[old h0]) rfl ?_ (fun i x hi hI=>by rw[hI,gB];exact G0.2 (by omega)) ?_ ?_
 ·show Sub _ (U6 (A0P .u8) 28 so (T.map ouF)::mapA eKI kI1.val ia []::mapA eKI kB1.val x4 (B7n cl)::cells x1 #[.string mt,.string mp,.int .i64 qq,.bool mr,.string mg]::A0Q b B9::[old h0])
  repeat(first|with_reducible exact T7|with_reducible exact T8|refine U0 (by repeat first|with_reducible exact V1|apply V3) ?_|refine U1 ?_)
 ·rintro⟨_,⟨⟩⟩ hI K hd
  refine U3 (hd _ _ (W.inl ?_))
  clear hd hI
  rw[←nY,F5]
  refine j2 (C2X (b:=b) (B:=B9) bw.1.aH (fun S1=>At.un (x:=S1) ?_))
  rw[o4]
  refine Z1 (X5 (enc:=eS) (size:=1) (s:=S1) (xs:=A3b B.aH)) fun l1=>?_
  have lf:(A3b B.aH).length≤10000:=C7 (A7R _ _ rfl).2.1 ag.aH
  have lb:=(A7R _ B.aH rfl).2.2
  have la:∀f∈A3b B.aH,f.size≤9223372036854775807:=fun f hf=>by
   obtain⟨e,he,rfl⟩:=E4.1 ((lb f).1 hf)
   exact qO.1 e he
  have rp:os≠[]→(A3b B.aH).any (fun f=>Y1 f mt)=true:=fun bF=>by
   obtain⟨e,he,hm⟩:=o3 bF
   exact List.any_eq_true.2 ⟨e.2.1,(lb _).2 (B3 he),hm⟩
  generalize A3b B.aH=fl at l1 lf la rp
  refine B0l fl.length (fun i x=>x.1=(fl.take i).any (fun f=>Y1 f mt)∧x.2.1=(i:Int)) (fun i _=>_) ⟨rfl,rfl⟩ Sub.rfl (fun i x hi hI=>by rw[hI.2,l1];exact G0.2 (by omega)) ?_ ?_
  ·rintro⟨x,_,⟨⟩⟩ hI K hd
   refine U3 (hd _ _ ?_)
   clear hd
   simp only[F5] at hI⊢
   refine A1g (fun r=>r.1=true) (fun K hK=>?_) (fun r hr=>?_)
   ·refine j2 (C69 ht (At.un (x:=true) ?_))
    refine Y4 rfl ?_
    refine C6Q (ek:=eKI) (ev:=kI1.val) (r:=ia) (l:=allM 1 cs) ?_
    have jn:(allM (1:Int) cs).length=os.length:=by rw[allM,C1,nY,vY]
    rw[jn]
    refine A0l (fun e=>U3 (hK (true,()) rfl).sub) (fun e=>U3 (hK (x,()) ?_).sub)
    simp only
    rw[hI.1]
    refine rp fun e2=>?_
    rw[e2] at e
    simp at e
   ·refine U3 ?_
    show At _ (Q (.bool r.1))
    rw[hr]
    exact fin (by repeat first|with_reducible exact V1|apply V3)
  ·rintro i ⟨x,_,⟨⟩⟩ ah hI K bu hd
   simp only at hI
   obtain⟨uG,rfl⟩:=hI
   have hy:=B0 ah
   refine j5 (enc:=eS) (xs:=fl) (i:=i) ah (fun a ha=>?_)
   refine B4P (enc:=eS) (x:=fl[i]) (v:=fl[i]) ha hy ?_
   refine A1g (fun r=>r.1=(x||Y1 fl[i] mt)) (fun K hK=>?_) (fun r hr=>?_)
   ·cases x with
    |true=>exact Y4 rfl (U3 (hK _ rfl))
    |false=>
     refine W8 rfl ?_
     refine W.load (b:=x1) (v:=mt) ?_
     refine j2 (C7v ht (la _ (G8 ah)) tN (At.un ?_))
     exact U3 (At.sub (hK _ rfl))
   ·refine U3 ?_
    refine(bu (r.1,IntKind.wrap .i64 ((i:Int)+1),()) ⟨?_,?_⟩).sub
    ·simp only
     rw[hr,uG,C4 ah,List.any_append]
     simp
    ·simp only;rw[V8 (by omega) (by omega)];rfl
 ·rintro i ⟨_,⟨⟩⟩ ah hI K bu hd
  simp only at hI
  subst hI
  have bO:i<cs.length:=by rw[nY];exact ah
  have jL:=B5L uk bO
  have um:cs[i]=T[i].2.2.conn:=by subst fx;rw[List.getElem_map]
  have lO:(T.map ouF)[i]? =some (ouF T[i]):=by rw[K7,B0 ah];rfl
  have qv:T[i].2.2∈os:=by rw[←hT];exact B3 (G8 ah)
  obtain⟨fU,x0,iD,gz⟩:=o1 _ qv
  have kR:W4 (B7n cl) cs[i]=some true:=by rw[C4x,if_pos];rw[al,um,←gz];exact B3 iD
  have ez:W4 (allM (1:Int) (cs.take i)) cs[i]=none:=by rw[B25,if_neg jL]
  have cR:mset (allM (1:Int) (cs.take i)) cs[i] 1=allM 1 (cs.take (i+1)):=by rw[B8b _ _ _ jL,←C4 bO]
  have ba:W4 (allM (1:Int) (cs.take (i+1))) cs[i]=some 1:=by rw[←cR,j0,if_pos rfl]
  rw[um] at kR ez cR ba
  clear jL um qv iD gz
  obtain⟨X,hX⟩:∃X,X=ouF T[i]:=⟨_,rfl⟩
  have e1:X.1=T[i].2.2.conn:=by rw[hX]
  have e2:X.2.1.1=3:=by rw[hX];exact fU.kind
  have e3:X.2.1.2.2.2.2.2.1=mt:=by rw[hX];exact fU.top
  have e4:X.2.1.2.2.2.2.2.2.1=mp:=by rw[hX];exact fU.pay
  have e5:X.2.1.2.2.1=false:=by rw[hX];exact fU.ret
  have e6:X.2.1.2.1=false:=by rw[hX];exact fU.dup
  have e7:X.2.1.2.2.2.1≤qq:=by rw[hX];exact fU.dY
  have e8:X.2.2=false:=by rw[hX];exact fU.cl
  rw[←hX] at lO
  rw[←e1] at kR ez cR ba
  clear hX e1 fU
  obtain⟨xc,⟨k0,k1,k2,k3,k4,k5,k6,k7,k8,k9,pQ,pP,pO,pN,pM,pL,pK,pJ,kN,pI,pH,pG,pF,pE,kL,kK,⟨⟩⟩,xcl⟩:=X
  simp only at e2 e3 e4 e5 e6 e7 e8 kR ez cR ba
  subst e2 e3 e4 e5 e6 e8
  have vo:=bu (IntKind.wrap .i64 ((i:Int)+1),()) (by simp only;rw[V8 (by omega) (by omega)];rfl)
  clear bu hd
  refine j5 (enc:=A0P .u8) (xs:=T.map ouF) (i:=i) (by simpa using ah) (fun a ha=>?_)
  refine B3z (x:=((xc,(3,false,false,k3,k4,k5,k6,k7,k8,k9,pQ,pP,pO,pN,pM,pL,pK,pJ,kN,pI,pH,pG,pF,pE,kL,kK,()),false):OuT)) (v:=(xc,3,false,false,k3,k4,k5,k6,k7,k8,k9,pQ,pP,pO,pN,pM,pL,pK,pJ,kN,pI,pH,pG,pF,pE,kL,kK,false,())) ha lO ?_
  refine Y2 fun kr=>?_
  refine A0n (b:=kr) ?_
  refine W.cells (b:=kr) (#[.int .i64 xc,.int .i64 3,.bool false,.bool false,.int .i64 k3,.int .i64 k4,.string k5,.string k6,.int .u8 k7,.slice k8.a k8.len k8.cap,.slice k9.a k9.len k9.cap,.string pQ,.bool pP,.int .i64 pO,.bool pN,.string pM,.string pL,.int .i64 pK,.bool pJ,.slice kN.a kN.len kN.cap,.bool pI,.bool pH,.string pG,.string pF,.bool pE,.slice kL.a kL.len kL.cap,.slice kK.a kK.len kK.cap,.bool false]) ?_
  refine A8a (b:=kr) (v:=(3,false,false,k3,k4,k5,k6,k7,k8,k9,pQ,pP,pO,pN,pM,pL,pK,pJ,kN,pI,pH,pG,pF,pE,kL,kK,())) ?_
  refine Y2 fun jV=>?_
  refine A0n (b:=jV) ?_
  refine W.cells (b:=jV) (#[.int .i64 3,.bool false,.bool false,.int .i64 k3,.int .i64 k4,.string k5,.string k6,.int .u8 k7,.slice k8.a k8.len k8.cap,.slice k9.a k9.len k9.cap,.string pQ,.bool pP,.int .i64 pO,.bool pN,.string pM,.string pL,.int .i64 pK,.bool pJ,.slice kN.a kN.len kN.cap,.bool pI,.bool pH,.string pG,.string pF,.bool pE,.slice kL.a kL.len kL.cap,.slice kK.a kK.len kK.cap]) ?_
  refine W.load (b:=kr) (v:=xc) ?_
  refine W.lookup (kind:=kI1) (r:=ia) (l:=allM (1:Int) (cs.take i)) kKI xc ?_
  rw[ez]
  refine W.mset (ek:=eKI) (ev:=kI1.val) (r:=ia) (l:=allM (1:Int) (cs.take i)) kKI C3B xc 1 ?_
  rw[cR]
  refine A1g (fun r=>r.1=false) (fun K hK=>?_) (fun r hr=>?_)
  ·refine W.load (b:=kr) (v:=false) ?_
   refine W8 rfl ?_
   refine W.load (b:=kr) (v:=xc) ?_
   refine W.lookup (kind:=kB1) (r:=x4) (l:=B7n cl) kKI xc ?_
   rw[kR]
   refine W8 rfl ?_
   refine W.load (b:=jV) (v:=(3:Int)) ?_
   refine W8 rfl ?_
   refine W.load (b:=jV) (v:=k5) ?_
   refine W.load (b:=x1) (v:=k5) ?_
   refine W8 (by simp) ?_
   refine W.load (b:=jV) (v:=k6) ?_
   refine W.load (b:=x1) (v:=k6) ?_
   refine W8 (by simp) ?_
   refine W.load (b:=jV) (v:=false) ?_
   refine W8 rfl ?_
   refine W.load (b:=jV) (v:=false) ?_
   refine W8 rfl ?_
   refine W.load (b:=jV) (v:=k3) ?_
   refine W.load (b:=x1) (v:=qq) ?_
   refine W8 (decide_eq_false (by omega)) ?_
   refine W.load (b:=kr) (v:=xc) ?_
   refine W.lookup (kind:=kI1) (r:=ia) (l:=allM (1:Int) (cs.take (i+1))) kKI xc ?_
   rw[ba]
   exact U3 (hK _ rfl)
  ·refine W8 hr (U3 ?_)
   exact vo.sub
end
end Go.Proofs.YtidlldnlphdhcaaGreatDoor
namespace Go.Proofs.YtidlldnlphdhcaaGreatDoor.brokerOnce
open Go.H
open Go.Proofs.Tryz
open Go.ChangeShapes Go.WideShapes Go.ChangeAt Go.RowKit
open Go.ChangeMaps (open_string shut_string)
theorem own:ownKnob prog.godebug=none:=by kernel_rfl
theorem laidOut:laidOutB prog=true:=by kernel_rfl
theorem walk(w:World)(ht:TP w.heap)(x0:Go.H.Slc×List EvQ)(g0:(Go.R.GoodG B6p 34 1 1048576 w.heap (EvG 1048576 w.heap)) x0)(x1:MsT)(g1:(fun x:MsT=>x.1.size≤1048576∧x.2.1.size≤1048576∧(Lit.int .i64 x.2.2.1).wf=true∧True∧x.2.2.2.2.size≤1048576) x1):
  Calls prog 6 #[.slice x0.1.a x0.1.len x0.1.cap,.agg #[.string x1.1,.string x1.2.1,.int .i64 x1.2.2.1,.bool x1.2.2.2.1,.string x1.2.2.2.2]] w fun e w'=>e=.returned (.bool true)∧Below w.heap.size w w':=by
 exact Go.H.walk_of (B9T (m0:=x1) ht g0.row (fun x hx=>g0.bQ x hx) g1.1 (fun h' R hs=>⟨rfl,R,hs⟩) w.heap (Go.H.sat_old w.heap))
theorem C6z(H:Type)(enc:TypeId×Value→H)(W:World)(base:Nat)(args:D0t)(ds gs:List (DataW H))(before:List MemPlace)
  (lE:∀(j:Nat) t v,Tryz.f6.params[j]? =some t→args[j]? =some v→Value.okWide prog W .any base t v)
  (hW:DataW.Whole enc prog Tryz.f6.params.toList Rows.brokerOnceSpec.vars false W args.toList ds gs before)(hL:laidMetH prog B50 W)(oK:W.ShapedOpen prog)(jP:Rows.uptoSmall H (ds++gs)=true):
  Calls prog 6 args W fun e W'=>∃v,e=.returned v∧Rows.brokerOnceSpec.post enc prog Tryz.f6 false true false false W args v W':=by
 have jB:∀(j:Nat) t v,Tryz.f6.params[j]? =some t→args[j]? =some v→Value.okWide prog W .any base t v:=lE
 have yb:=hW
 obtain⟨p,q,we,hV,rfl,la,au⟩:=hW
 have hA:DataW.TrodAll enc prog W 0 (fun _=>true) true Tryz.f6.params.toList args.toList ds p:=we
 rw[params6] at hA jB
 obtain⟨v0,yB,d0,yU,p0,q0,vV,rfl,rfl,h0,r0⟩:=trodAll_cons hA
 obtain⟨v1,yA,d1,yT,p1,q1,rfl,rfl,rfl,h1,r1⟩:=trodAll_cons r0
 obtain⟨rfl,rfl,rfl⟩:=trodAll_nil r1
 obtain rfl:args=#[v0,v1]:=by cases args;simp_all
 obtain⟨rfl,rfl⟩:=trodVars_none hV
 have hk:=of_decide_eq_true jP
 simp only[C2,G3,F0,Rows.uptoBulkAll] at hk
 have w0:okB 53 d0:=by unfold okB;omega
 have w1:okB 29 d1:=by unfold okB;omega
 clear hk
 obtain⟨a0,sP,uJ,rfl⟩:=okWide_slice underlying53 (jB 0 53 v0 rfl rfl)
 have k0:=h0
 have wQ:∀x∈p0,x.block<W.heap.size:=by obtain⟨m,hm⟩:=k0;exact DataW.trod_lt m _ _ _ hm
 obtain⟨x0,e0,g0⟩:∃x:Go.H.Slc×List EvQ,(Value.slice a0 sP uJ=.slice x.1.a x.1.len x.1.cap)∧(Go.R.GoodG B6p 34 1 1048576 W.heap (EvG 1048576 W.heap)) x:=by
  obtain⟨fuel,hf⟩:=h0
  obtain⟨x,hx,hg⟩:=C0o C3s fuel _ _ hf w0
  exact⟨x,by simpa[Value.cells] using hx,hg⟩
 cases e0
 obtain⟨lW,rfl⟩:=Go.R.okWide_agg underlying29 (jB 1 29 v1 rfl rfl)
 have k1:=h1
 have wP:∀x∈p1,x.block<W.heap.size:=by obtain⟨m,hm⟩:=k1;exact DataW.trod_lt m _ _ _ hm
 obtain⟨x1,e1,g1⟩:∃x:MsT,(Value.agg lW=.agg #[.string x.1,.string x.2.1,.int .i64 x.2.2.1,.bool x.2.2.2.1,.string x.2.2.2.2])∧(fun x:MsT=>x.1.size≤1048576∧x.2.1.size≤1048576∧(Lit.int .i64 x.2.2.1).wf=true∧True∧x.2.2.2.2.size≤1048576) x:=by
  obtain⟨fuel,hf⟩:=h1
  obtain⟨x,hx,hg⟩:=C0n C3s fuel _ _ hf w1
  exact⟨x,congrArg Value.agg (I5.1 hx),hg⟩
 cases e1
 clear we lE
 refine(walk W (C1G hL oK) x0 g0 x1 g1).mono fun e W' ⟨he,bel⟩=>?_
 subst he
 exact⟨_,rfl,_,_,_,[],_,[],yb,trodAll_mk1 (shut_bool underlying4 _),(trodAll_cons_mk (Below.trod laidOut (by kernel_rfl) (of_decide_eq_true (by kernel_rfl)) k0 bel wQ) (trodAll_cons_mk (Below.trod laidOut (by kernel_rfl) (of_decide_eq_true (by kernel_rfl)) k1 bel wP) trodAll_mk0)),rfl,bel.frame _,fun h=>by cases h⟩
theorem reads(os:Os){H:Type}(enc:TypeId×Value→H):∃places,DataW.whole enc prog ((B3a os).forCall (fun _ _=>0) ⟨#[],#[.slice none 0 0,.agg #[.string (ByteArray.mk #[]),.string (ByteArray.mk #[]),.int .i64 0,.bool false,.string (ByteArray.mk #[])]],[]⟩).memory Tryz.f6.params.toList Rows.brokerOnceSpec.vars false #[(.slice none 0 0:Value),(.agg #[.string (ByteArray.mk #[]),.string (ByteArray.mk #[]),.int .i64 0,.bool false,.string (ByteArray.mk #[])]:Value)].toList 8=some ([.nil,.agg [.lit (.string []),.lit (.string []),.lit (.int .i64 0),.lit (.bool false),.lit (.string [])]],[],places):=
 ⟨[],by kernel_rfl⟩
theorem lifted(os:Os)(started:os.Started)(H:Type)(enc:TypeId×Value→H)(F:Stop.Interp):
  ReturnsInHanded {} checked os 6 .any ((Rows.OpenSpec.upto Rows.brokerOnceSpec).preRow enc prog Tryz.f6 Rows.brokerOnceUptoRow.domain false Rows.brokerOnceUptoRow.laid) (((Rows.OpenSpec.upto Rows.brokerOnceSpec).at F).post enc prog Tryz.f6 false true false false):=by
 obtain⟨places,hx⟩:=reads os enc
 refine returnsInHanded_of_row (C:=checked) (s:=Rows.OpenSpec.upto Rows.brokerOnceSpec) own started (by kernel_rfl) Tryz.func6
  (witness_row_atRef (enc:=enc) (C:=checked) false (B3a os) #[.slice none 0 0,.agg #[.string (ByteArray.mk #[]),.string (ByteArray.mk #[]),.int .i64 0,.bool false,.string (ByteArray.mk #[])]] rfl (by kernel_rfl) (by kernel_rfl) (by kernel_rfl)
   (OpenSpec.preRow_of_cond 8 hx (by kernel_rfl) (fun k hk=>by cases hk;kernel_rfl) (by kernel_rfl) (C57 os _))) ?_
 intro W base args ds gs before jB hW _ jP _ hL oK _
 exact C6z H enc W base args ds gs before jB hW hL oK (jP _ rfl)
theorem C9M:(Rows.brokerOnceUptoRow.wf (OpenSpec.ofChange (Rows.OpenSpec.upto Rows.brokerOnceSpec).bare))=true:=by kernel_rfl
theorem C9L:(laidOutB Tryz.pinned.checked.prog)=true:=by kernel_rfl
theorem C9K:(mapsRowed Tryz.pinned.checked.prog)=true:=by kernel_rfl
theorem C9J:(Tryz.f6.params.all (Tryz.pinned.checked.prog.readableRec ·))=true:=by kernel_rfl
theorem C9I:(namedTie Tryz.pinned.checked.prog Rows.brokerOnceUptoRow.named (Rows.OpenSpec.upto Rows.brokerOnceSpec).bare.vars)=true:=by kernel_rfl
theorem C9H:((Rows.brokerOnceUptoRow.stops==[]))=true:=by kernel_rfl
theorem C9G:((Tryz.pinned.checked.prog.stops==[]))=true:=by kernel_rfl
theorem C9F:((Rows.brokerOnceUptoRow.knobs==[]))=true:=by kernel_rfl
theorem C9E:((Tryz.pinned.checked.prog.stopKnobs==[]))=true:=by kernel_rfl
theorem C9D:((Rows.brokerOnceUptoRow.inPlace==Tryz.pinned.checked.prog.inPlace 6))=true:=by kernel_rfl
theorem C80:((Rows.brokerOnceUptoRow.unfollowed==Tryz.pinned.checked.prog.unfollowed 6))=true:=by kernel_rfl
theorem C8Z:((Rows.brokerOnceUptoRow.recurses==Tryz.pinned.checked.prog.recurses 6))=true:=by kernel_rfl
theorem C8Y:((Rows.brokerOnceUptoRow.named==Tryz.pinned.checked.prog.varsNamed 6))=true:=by kernel_rfl
theorem C8X:((Rows.brokerOnceUptoRow.maps==(Tryz.f6.params.toList++(Rows.OpenSpec.upto Rows.brokerOnceSpec).bare.plain.varTypes Tryz.pinned.checked.prog).any (Tryz.pinned.checked.prog.mapsRec ·)))=true:=by kernel_rfl
theorem C8W:((Rows.brokerOnceUptoRow.ifaces==(Tryz.f6.params.toList++(Rows.OpenSpec.upto Rows.brokerOnceSpec).bare.plain.varTypes Tryz.pinned.checked.prog).any (Tryz.pinned.checked.prog.ifacesRec ·)))=true:=by kernel_rfl
theorem C8V:((Rows.brokerOnceUptoRow.mapsOut==Tryz.pinned.checked.prog.mapsAmong Tryz.f6.resultTypes.toList))=true:=by kernel_rfl
theorem C8U:((Rows.brokerOnceUptoRow.loops==(Tryz.f6.params.toList++(Rows.OpenSpec.upto Rows.brokerOnceSpec).bare.plain.varTypes Tryz.pinned.checked.prog).any (Tryz.pinned.checked.prog.loopsFrom ·)))=true:=by kernel_rfl
theorem C8T:((Rows.brokerOnceUptoRow.wideKeys==(Tryz.f6.params.toList++(Rows.OpenSpec.upto Rows.brokerOnceSpec).bare.plain.varTypes Tryz.pinned.checked.prog++Tryz.f6.resultTypes.toList).any (Tryz.pinned.checked.prog.wideKeysFrom ·)))=true:=by kernel_rfl
theorem C8S:((Rows.OpenSpec.upto Rows.brokerOnceSpec).bare.vars.all (Tryz.pinned.checked.prog.varReadable ·))=true:=by kernel_rfl
theorem C8R:(Tryz.f6.resultTypes.all (fun t=>Tryz.pinned.checked.prog.readableRec t&&decide (t<Tryz.pinned.checked.prog.types.size)))=true:=by kernel_rfl
theorem C8Q:((Rows.brokerOnceUptoRow.ifacesOut==Tryz.f6.resultTypes.toList.any (Tryz.pinned.checked.prog.ifacesRec ·)))=true:=by kernel_rfl
theorem C8P:((Rows.brokerOnceUptoRow.loopsOut==Tryz.f6.resultTypes.toList.any (Tryz.pinned.checked.prog.loopsFrom ·)))=true:=by kernel_rfl
theorem C8O:((Rows.brokerOnceUptoRow.plainKeys==Tryz.pinned.checked.prog.plainKeys))=true:=by kernel_rfl
theorem C8N:(Rows.brokerOnceUptoRow.shortTexts.isNone)=true:=by kernel_rfl
theorem C8M:(Tryz.pinned.checked.prog.stopsHeard)=true:=by kernel_rfl
theorem C8L:(Tryz.pinned.checked.prog.mayEnter)=true:=by kernel_rfl
theorem C8K:((Rows.brokerOnceUptoRow.lifted==Tryz.pinned.checked.prog.liftsFinal))=true:=by kernel_rfl
theorem C8J:((Tryz.pinned.checked.prog.make==some Rows.brokerOnceUptoRow.make))=true:=by kernel_rfl
theorem C8I:((Rows.brokerOnceUptoRow.kinds==(if Rows.brokerOnceUptoRow.domain.isEmpty then[] else Tryz.f6.params.toList.map fun t=>match Tryz.pinned.checked.prog.underlying t with|some (.int k)=>some k|_=>none)))=true:=by kernel_rfl
theorem C8H:((Rows.brokerOnceUptoRow.pinned==Rows.brokerOnceUptoRow.pinnedBy))=true:=by kernel_rfl
theorem C8G:((Rows.brokerOnceUptoRow.veiled==(Tryz.f6.params.toList++(Rows.OpenSpec.upto Rows.brokerOnceSpec).bare.plain.varTypes Tryz.pinned.checked.prog++Tryz.f6.resultTypes.toList).any (Tryz.pinned.checked.prog.veiledRec ·)))=true:=by kernel_rfl
theorem C8F:(Rows.brokerOnceUptoRow.veiledFits Tryz.pinned.checked.prog Tryz.f6.params.toList (Tryz.f6.params.toList++(Rows.OpenSpec.upto Rows.brokerOnceSpec).bare.plain.varTypes Tryz.pinned.checked.prog++Tryz.f6.resultTypes.toList))=true:=by kernel_rfl
theorem A2O{a b:Bool}(ha:a=true)(hb:b=true):(a&&b)=true:=by rw[ha,hb];rfl
theorem facts:joinedFacts Tryz.pinned.checked.prog 6 Tryz.f6 (Rows.OpenSpec.upto Rows.brokerOnceSpec).bare Rows.brokerOnceUptoRow=true:=by
 unfold joinedFacts
 exact(A2O (A2O (A2O (A2O (A2O (A2O (A2O (A2O (A2O (A2O (A2O (A2O (A2O (A2O (A2O (A2O (A2O (A2O (A2O (A2O (A2O (A2O (A2O (A2O (A2O (A2O (A2O (A2O (A2O (A2O (A2O C9M C9L) C9K) C9J) C9I) C9H) C9G) C9F) C9E) C9D) C80) C8Z) C8Y) C8X) C8W) C8V) C8U) C8T) C8S) C8R) C8Q) C8P) C8O) C8N) C8M) C8L) C8K) C8J) C8I) C8H) C8G) C8F)
end Go.Proofs.YtidlldnlphdhcaaGreatDoor.brokerOnce