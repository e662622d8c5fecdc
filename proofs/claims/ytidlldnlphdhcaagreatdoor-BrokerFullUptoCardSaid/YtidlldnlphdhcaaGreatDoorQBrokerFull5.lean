/-
  Our texts, packed by program.
-/
import Derived.Test.YtidlldnlphdhcaaGreatDoorQBrokerFull4
import Derived.Laws.RangeString
set_option linter.unusedSimpArgs false
set_option linter.unusedVariables false
set_option maxHeartbeats 16000000
set_option maxRecDepth 100000
set_option synthInstance.maxSize 100000
set_option synthInstance.maxHeartbeats 400000
namespace Go.Proofs.YtidlldnlphdhcaaGreatDoor
open Go.H
open Go.Proofs.Tryz
section
open Go.H Go.Proofs
theorem B3d{E:List Ent}{id q:Int}{f:B3O}(h:(A2G E id f q).1=0):0≤q∧q≤2:=by
 unfold A2G at h
 split at h
 ·cases h
 ·split at h
  ·cases h
  ·omega
theorem B6D{E:List Ent}{id q:Int}{f:B3O}:(A2G E id f q).2.length≤E.length+1∧∀e∈(A2G E id f q).2,e∈E∨e.1=id:=by
 unfold A2G
 split
 ·exact⟨R7 _,fun e he=>.inl he⟩
 ·split
  ·exact⟨R7 _,fun e he=>.inl he⟩
  ·split
   ·refine⟨by simp,fun e he=>?_⟩
    rcases List.mem_or_eq_of_mem_set he with he|rfl
    ·exact .inl he
    ·exact .inr rfl
   ·split
    ·exact⟨R7 _,fun e he=>.inl he⟩
    ·have hp:=A1J ltK b8 (id,f,q) E
     refine⟨by rw[hp.length_eq];simp,fun e he=>?_⟩
     rcases D7.1 (hp.mem_iff.1 he) with rfl|he
     ·exact .inr rfl
     ·exact .inl he
theorem j7.fJ{B:Z2}(h:j7 B){E:List Ent}(hl:E.length≤10000)(hm:∀e∈E,e∈B.aH∨∃s∈B.aD,s.id=e.1):j7 (B3Z E B) where
 aH:=hl
 bM:=h.bM
 live:=fun e he=>by
  rcases hm e he with he|he
  ·exact h.live e he
  ·exact he
 one:=h.one
 nd:=h.nd
 cl:=h.cl
 dS:=h.dS
 wl:=h.wl
theorem B0G{id:Int}:∀(l:List A0w) {E:List Ent},(j8 id l E).1.length≤E.length+l.length∧(∀e∈(j8 id l E).1,e∈E∨e.1=id)∧(j8 id l E).2.length=l.length∧(added id l E).length≤l.length
 |[],E=>⟨D6 _,fun e he=>.inl he,rfl,D6 _⟩
 |s::l,E=>by
  have h1:=B6D (E:=E) (id:=id) (f:=s.1) (q:=s.2.1)
  obtain⟨h2,h3,h4,h5⟩:=B0G (id:=id) l (E:=(A2G E id s.1 s.2.1).2)
  unfold j8 added
  refine⟨?_,fun e he=>?_,?_,?_⟩
  ·simp only[B7];omega
  ·rcases h3 e he with he|he
   ·exact h1.2 e he
   ·exact .inr he
  ·simp only[B7,h4]
  ·rw[B4]
   split<;>simp only[B7,G8]<;>omega
theorem B75{id:Int}:∀(l:List A0w) {E:List Ent} {s:A0w},s∈added id l E→s∈l
 |[],_,_,h=>by cases h
 |x::l,E,s,h=>by
  unfold added at h
  rcases C7.1 h with h|h
  ·split at h
   ·rw[C0.1 h];exact B5 ..
   ·cases h
  ·exact C2 _ (B75 l h)
theorem C0B{E:List Ent}{k:Int}{f:B3O}:(A1H E k f).length≤E.length:=D1 _ _
theorem B0s{id:Int}{s:A0w}(T:U7)(m:j6)(h:j7 T.b):A0v T (A0H id s T m) 320:=B5l h fun o ho=>⟨(A3Y ho _).1,by have:=(A3Y ho (m.1,m.2.1,min m.2.2.1 s.2.1,true,e0S)).2;omega⟩
theorem C1u{id:Int}{f:Z8→Z8×List PkO}{T:U7}:(A0M id f T).b.kept=T.b.kept:=by
 unfold A0M;split<;>rfl
theorem A80{id:Int}{f:Z8→Z8×List PkO}{T:U7}:(A0M id f T).b.aD.map (·.id)=T.b.aD.map (·.id):=by
 unfold A0M
 split
 ·rfl
 ·rename_i s _
  exact A6m (f:=Y6 (f s.out).1) (fun _=>rfl) _
theorem A7n{id:Int}(T:U7)(s:A0w)(hk:T.b.kept.length≤64)(h:j7 T.b):A0v T (j4 id T s) 20480:=by
 unfold j4
 split
 ·exact(A0v.refl h).mono (by omega)
 ·refine(B8V (B0s (id:=id) (s:=s)) (A51 T.b.kept s.1) h).mono ?_
  have:(A51 T.b.kept s.1).length≤T.b.kept.length:=D1 _ _
  omega
theorem A7o{id:Int}(T:U7)(s:A0w):(j4 id T s).b.kept=T.b.kept:=by
 unfold j4
 split
 ·rfl
 ·have:∀(l:List j6) (T:U7),(l.foldl (A0H id s) T).b.kept=T.b.kept:=by
   intro l
   induction l with
   |nil=>intro T;rfl
   |cons m l ih=>intro T;exact(ih _).trans C1u
  exact this _ T
theorem B3M{id:Int}(T:U7)(s:A0w):(j4 id T s).b.aD.map (·.id)=T.b.aD.map (·.id):=by
 unfold j4
 split
 ·rfl
 ·have:∀(l:List j6) (T:U7),(l.foldl (A0H id s) T).b.aD.map (·.id)=T.b.aD.map (·.id):=by
   intro l
   induction l with
   |nil=>intro T;rfl
   |cons m l ih=>intro T;exact(ih _).trans A80
  exact this _ T
theorem C6C{A B:List V7}(h:A.map (·.id)=B.map (·.id)){s:V7}{k:Int}(hs:s∈B)(hk:s.id=k):∃s'∈A,s'.id=k:=by
 have h1:k∈B.map (·.id):=hk▸B3 hs
 rw[←h] at h1
 obtain⟨s',h2,h3⟩:=E4.1 h1
 exact⟨s',h2,h3⟩
theorem B5N{id:Int}:∀(l:List A0w) {T:U7},T.b.kept.length≤64→j7 T.b→A0v T (l.foldl (j4 id) T) (l.length*20480)
 |[],T,_,h=>(A0v.refl h).mono (by simp)
 |s::l,T,hk,h=>((A7n T s hk h).trans (B5N l (by rw[A7o];exact hk) (A7n T s hk h).ok)).mono (by rw[B7,J1];omega)
variable {h h0:Heap} {L L' L1 L2 L3 R:List Asn} {Q:Value→Heap→Prop}
abbrev X9(s:A0w):C9w:=[.string s.1,.int .i64 s.2.1,.bool s.2.2.1,.bool s.2.2.2.1,.int .i64 s.2.2.2.2]
instance:Enc X9 5:=⟨fun _=>rfl,fun x v hv=>by
 have:(X9 x).all (fun v=>v.oneCell')=true:=rfl
 exact I8.1 this v hv,by decide⟩
abbrev sbU(s:A0w):B3O×Int×Bool×Bool×Int×Unit:=(s.1,s.2.1,s.2.2.1,s.2.2.2.1,s.2.2.2.2,())
abbrev A0z(p:Pk):Slc:=p.2.2.2.2.2.2.2.2.2.2.2.2.2.2.2.2.2.2.2.2.2.2.2.2.1
theorem C4u{q:Int}(h0:0≤q)(h1:q≤255):IntKind.wrap .u8 q=q:=by
 simp[IntKind.wrap,IntKind.bits,IntKind.signed];omega
theorem C0d{b:Nat}{K:List j6}(hs:sat h (A1l b K::R)):K.length≤64:=by
 obtain⟨l,hl,_⟩:=A3J.1 hs
 exact(hl.lenL (by decide)).2
theorem B9v{t b:Nat}{full:Bool}{T:U7}{x:Y3}{p:Pk}{pl:List o8}{sl:List A0w}{fl:List B3O}(ht:TP h0)(ag:j7 T.b)(hc:A04 x.c T.b.aB=some x)(hb:T.outs.length≤10000000)(hE:T.b.aH.length+sl.length≤10000)(hn:sl.length≤100)
  (hsz:∀s∈sl,s.1.size≤9223372036854775807)
  (hq:At (X5 t b full (A1f x (pkI p pl sl fl) T)::old h0::L3) (Q (.tuple #[])))(hx:Has L (X5 t b full T) L1:=by repeat first|with_reducible exact U9|apply V1)(hy:Has L1 (old h0) L2:=by repeat first|with_reducible exact U9|apply V1)(hz:Has L2 (U4 X9 5 (A0z p) sl) L3:=by repeat first|with_reducible exact U9|apply V1):
  FW prog 65 #[at0 t,.int .i64 x.c,A2p .u8 p] L Q:=by
 refine fun h hs=>A4J (some ⟨t,0,none⟩) x.c p h Q ((?_:W (X5 t b full T::old h0::U4 X9 5 (A0z p) sl::L3) _ _) h ((hx.cV hy hz).s hs))
 clear hs h hx hy hz
 obtain⟨sx,ri,ig⟩:=ag.cl x (A1K hc).1
 unfold A1f at hq
 simp only at hq
 obtain⟨EF,jl⟩:∃EF,EF=(j8 x.aD sl T.b.aH).1:=⟨_,rfl⟩
 obtain⟨CF,iW⟩:∃CF,CF=(j8 x.aD sl T.b.aH).2:=⟨_,rfl⟩
 obtain⟨AF,qP⟩:∃AF,AF=added x.aD sl T.b.aH:=⟨_,rfl⟩
 have xN:∀s∈AF,s∈sl:=fun s hs=>by rw[qP] at hs;exact B75 sl hs
 have yr:AF.length≤100:=by rw[qP];exact C4 (B0G sl).2.2.2 hn
 rw[←jl,←iW,←qP] at hq
 delta A3s az bn cc cp cu cx A0R g6 ie ix jc ji jt km kp nn nw pu rq sn sw ve vi vs vz wi
 refine Y0 fun x1=>?_
 refine W3 ?_
 refine A6a (fun h R=>l9) fun so sp q=>?_
 refine W.load (v:=some ⟨b,0,none⟩) ?_
 refine W3 ?_
 refine W.load (v:=some q.cm) ?_
 refine Y2 (fun h R hs=>C0d (b:=q.kb) (K:=T.b.kept) hs) fun jV=>?_
 refine W.lookup (kind:=.agg tC) kKI x.c ?_
 rw[A3H,hc]
 refine W.load (v:=p.2.2.2.2.1) ?_
 refine Y0 fun x8=>?_
 refine A0a ?_
 refine W.load (v:=A0z p) ?_
 refine W.bG T so sp q ?_
 refine A3p X9 5 ?_
 refine A3p (eKd .u8) 1 ?_
 refine W.cells (b:=x8) (W7 .u8 (pkT (Z7 9 (p.2.2.2.2.1) 0) ⟨none,0,0⟩ ⟨none,0,0⟩)).toArray ?_
 refine Y2 (X1 (enc:=X9) (size:=5) (s:=A0z p) (xs:=sl)) fun hl=>?_
 refine W.loop (γ:=Nat×List Ent×List Int×List A0w×Slc) (fun g s=>s.2.1=(g.1:Int)∧g.1≤sl.length∧j7 (B3Z g.2.1 T.b)∧g.2.1.length≤T.b.aH.length+g.1∧(j8 x.aD (sl.drop g.1) g.2.1).1=EF∧g.2.2.1++(j8 x.aD (sl.drop g.1) g.2.1).2=CF∧g.2.2.2.1++added x.aD (sl.drop g.1) g.2.1=AF∧g.2.2.1.length=g.1∧g.2.2.2.1.length≤g.1)
  (fun g s=>X5 t b full (A1j g.2.1 T)::U4 X9 5 s.1 g.2.2.2.1::U4 (eKd .u8) 1 g.2.2.2.2 g.2.2.1::cells x8 (W7 .u8 (pkT (Z7 9 (p.2.2.2.2.1) 0) g.2.2.2.2 ⟨none,0,0⟩)).toArray::U4 X9 5 (A0z p) sl::old h0::L3)
  (fun g=>sl.length-g.1) (0,T.b.aH,[],[],⟨none,0,0⟩) ⟨rfl,C9 _,ag,D6 _,jl.symm,iW.symm,qP.symm,rfl,D6 _⟩ ?_ ?_
 ·show Sub _ (X5 t b full T::U4 X9 5 ⟨none,0,0⟩ ([]:List A0w)::U4 (eKd .u8) 1 ⟨none,0,0⟩ ([]:List Int)::cells x8 (W7 .u8 (pkT (Z7 9 (p.2.2.2.2.1) 0) ⟨none,0,0⟩ ⟨none,0,0⟩)).toArray::U4 X9 5 (A0z p) sl::old h0::L3)
  repeat(first|with_reducible exact T5|with_reducible exact T6|refine T7 (by repeat first|with_reducible exact U9|apply V1) ?_|refine T8 ?_)
 rintro⟨i,E,cs,A,cS⟩ s ⟨hi,ck,hX,lb,cd,cg,jm,ba,ke⟩ K k1 k2
 simp only at hi ck hX lb cd cg jm ba ke
 by_cases ah:i<sl.length
 ·refine X7 (by rw[hi,hl];exact decide_eq_true (by omega)) ?_
  have bh:sl.drop i=sl[i]::sl.drop (i+1):=D9 ah
  have aQ:sl[i]? =some sl[i]:=B0 ah
  have an:sl[i]∈sl:=H2 ah
  rw[bh] at cd cg jm
  generalize sl[i]=u at aQ an cd cg jm
  clear bh
  refine e8 (enc:=X9) (xs:=sl) (i:=i) ah (fun a ha=>?_) (he:=hi)
  refine B3e (x:=u) (v:=sbU u) ha aQ ?_
  refine Y0 fun pv=>?_
  refine A0a ?_
  refine W3 ?_
  refine A6a (fun h R=>l9) fun so sp q=>?_
  refine W.load (v:=some ⟨b,0,none⟩) ?_
  refine W3 ?_
  refine W.load ?_
  refine W.load (v:=u.1) ?_
  refine W.load (v:=u.2.1) ?_
  refine b6 (C6i (t:=q.sb) (E:=E) (id:=x.aD) (q:=u.2.1) (f:=u.1) ht (hsz u an) (by omega) (At.un ?_))
  have hm:=B6D (E:=E) (id:=x.aD) (f:=u.1) (q:=u.2.1)
  have ue:=B3d (E:=E) (id:=x.aD) (f:=u.1) (q:=u.2.1)
  unfold j8 at cd cg
  unfold added at jm
  simp only at cd cg jm
  generalize A2G E x.aD u.1 u.2.1=r at hm ue cd cg jm⊢
  refine W.bG (A1j r.2 T) so sp q ?_
  refine C2l (fun a=>a.2.1=if r.1=0 then u.2.1 else r.1) (fun a=>X5 t b full (A1j r.2 T)::U4 X9 5 a.1 (A++if r.1=0 then[u] else[])::U4 (eKd .u8) 1 cS cs::cells x8 (W7 .u8 (pkT (Z7 9 (p.2.2.2.2.1) 0) cS ⟨none,0,0⟩)).toArray::U4 X9 5 (A0z p) sl::old h0::L3) (fun K2 bd=>?_) (fun a jT=>?_)
  ·by_cases hr:r.1=0
   ·refine X7 (by simpa using hr) ?_
    rw[if_pos hr,if_pos hr] at bd
    refine q8 (v:=sbU u) ?_
    refine C5Y (enc:=X9) (xs:=A) (s:=s.1) u (fun s'=>?_) (by omega)
    refine W.load (v:=u.2.1) ?_
    exact U1 (bd (s',IntKind.wrap .u8 u.2.1,()) (C4u (ue hr).1 (by have:=(ue hr).2;omega))).sub
   ·refine W6 (by simpa using hr) ?_
    rw[if_neg hr,if_neg hr,C1] at bd
    exact U1 (bd (s.1,r.1,()) rfl).sub
  ·refine W.load (v:=cS) ?_
   refine C5Y (enc:=eKd .u8) (xs:=cs) (s:=cS) a.2.1 (fun s'=>?_) (by omega)
   refine W.store (cs':=(W7 .u8 (pkT (Z7 9 (p.2.2.2.2.1) 0) s' ⟨none,0,0⟩)).toArray) ?_
   have oa:r.2.length≤T.b.aH.length+(i+1):=by have:=hm.1;omega
   refine U1 (At.sub (k1 (i+1,r.2,cs++[a.2.1],A++(if r.1=0 then[u] else[]),s') (a.1,IntKind.wrap .i64 (s.2.1+1),()) (by simp only;omega) ⟨?_,ah,?_,oa,cd,?_,?_,?_,?_⟩) ?_)
   ·simp only[hi];rw[V5 (by omega) (by omega)];rfl
   ·exact hX.fJ (by show r.2.length≤10000;omega) fun e he=>by
     rcases hm.2 e he with he|he
     ·exact .inl he
     ·exact .inr ⟨sx,ri,ig.trans he.symm⟩
   ·rw[jT,D4];exact cg
   ·rw[D4];exact jm
   ·simp[ba]
   ·simp only[B4];split<;>simp<;>omega
   ·repeat(first|with_reducible exact T5|with_reducible exact T6|refine T7 (by repeat first|with_reducible exact U9|apply V1) ?_|refine T8 ?_)
 ·refine W6 (by rw[hi,hl];exact decide_eq_false (by omega)) (U1 (k2 _ _ ?_))
  have eh:i=sl.length:=by omega
  subst eh
  rw[J7] at cd cg jm
  simp only[j8,added,C1] at cd cg jm
  subst cd cg jm
  clear k1 k2 iW qP jl
  refine q8 (v:=pkT (A0O 9 (p.2.2.2.2.1) cs) cS ⟨none,0,0⟩) ?_
  refine A3p W8 4 ?_
  refine W.cZ (A:=pkB .u8 (cS,⟨none,0,0⟩,A0O 9 (p.2.2.2.2.1) cs)) (B:=U4 (eKd .u8) 1 cS cs) (C:=U4 W8 4 ⟨none,0,0⟩ ([]:List o8)) (fun h hs=>A4B.2 hs) ?_
  refine Z1 (B8o (T:=A1j E T) (c:=x.c) (o:=A0O 9 (p.2.2.2.2.1) cs) (ci:=cS) (pi:=⟨none,0,0⟩) (by show T.outs.length≤_;omega) (At.bD ?_))
  obtain⟨T1,bF⟩:∃T1,T1=A0t ⟨x.c,A0O 9 (p.2.2.2.2.1) cs,false⟩ (A1j E T):=⟨_,rfl⟩
  have aF:j7 T1.b:=by rw[bF];exact hX
  have ef:T1.b.kept=T.b.kept:=by rw[bF]
  have jg:T1.b.aD.map (·.id)=T.b.aD.map (·.id):=by rw[bF]
  have fT:T1.outs.length≤10000001:=by rw[bF];show(T.outs++[_]).length≤_;rw[B4];simp only[B7,G8];omega
  rw[←bF] at hq⊢
  clear bF
  obtain⟨aS,i0,_⟩:=s
  simp only
  refine Y2 (X1 (enc:=X9) (size:=5) (s:=aS) (xs:=A)) fun fg=>?_
  refine W.loop (γ:=Nat×U7) (fun g s=>s.1=(g.1:Int)∧g.1≤A.length∧j7 g.2.b∧g.2.b.kept=T.b.kept∧g.2.b.aD.map (·.id)=T.b.aD.map (·.id)∧(A.drop g.1).foldl (j4 x.aD) g.2=A.foldl (j4 x.aD) T1∧g.2.outs.length≤10000001+20480*g.1)
   (fun g s=>X5 t b full g.2::U4 X9 5 aS A::old h0::L3) (fun g=>A.length-g.1) (0,T1) ⟨rfl,C9 _,aF,ef,jg,rfl,fT⟩ ?_ ?_
  ·show Sub _ (X5 t b full T1::U4 X9 5 aS A::old h0::L3)
   repeat(first|with_reducible exact T5|with_reducible exact T6|refine T7 (by repeat first|with_reducible exact U9|apply V1) ?_|refine T8 ?_)
  rintro⟨j,T2⟩ s2 ⟨hj,tv,bU,gm,jf,fS,dw⟩ K2 m1 m2
  simp only at hj tv bU gm jf fS dw
  by_cases bB:j<A.length
  ·refine X7 (by rw[hj,fg];exact decide_eq_true (by omega)) ?_
   have bh:A.drop j=A[j]::A.drop (j+1):=D9 bB
   have qk:A[j]? =some A[j]:=B0 bB
   have an:A[j]∈A:=H2 bB
   rw[bh,I0] at fS
   generalize A[j]=u at qk an fS
   have qf:=A7n (id:=x.aD) T2 u (by rw[gm];exact jV) bU
   have aw:At (X5 t b full (j4 x.aD T2 u)::U4 X9 5 aS A::old h0::L3) (K2 (.inl (IntKind.wrap .i64 (s2.1+1),()))):=by
    refine m1 (j+1,j4 x.aD T2 u) (IntKind.wrap .i64 (s2.1+1),()) (by simp only;omega) ⟨?_,bB,qf.ok,(A7o T2 u).trans gm,(B3M T2 u).trans jf,fS,?_⟩
    ·simp only[hj];rw[V5 (by omega) (by omega)];rfl
    ·have:=qf.outs;simp only;omega
   clear m1 m2 fS
   refine X2 (e8 (enc:=X9) (xs:=A) (i:=j) bB (fun a ha=>?_) (he:=hj))
   refine X2 (B3e (x:=u) (v:=sbU u) ha qk ?_)
   refine X2 (Y0 fun qV=>?_)
   refine X2 (A0a ?_)
   refine X2 (W.load (v:=u.2.2.2.2) ?_)
   by_cases h2:u.2.2.2.2=2
   ·refine A1d (by simpa using h2) ?_
    have e:j4 x.aD T2 u=T2:=if_pos h2
    rw[e] at aw
    exact b7 (U1 aw.sub)
   ·refine l7 (by simpa using h2) ?_
    have e:j4 x.aD T2 u=(A51 T2.b.kept u.1).foldl (A0H x.aD u) T2:=if_neg h2
    rw[e] at aw
    refine X2 (W3 ?_)
    refine A6a (fun h R=>l9) fun so sp q=>?_
    refine X2 (W.load (v:=some ⟨b,0,none⟩) ?_)
    refine X2 (W3 ?_)
    refine X2 (W.load ?_)
    refine X2 (W.load (v:=u.1) ?_)
    refine X2 (b6 (C5i (b:=q.kb) (K:=T2.b.kept) (f:=u.1) ht (hsz u (xN u an)) (fun S=>At.un (x:=S) ?_)))
    refine W.bG T2 so sp q ?_
    have tE:(A51 T2.b.kept u.1).length≤64:=C4 (D1 _ _) (by rw[gm];exact jV)
    generalize A51 T2.b.kept u.1=M at tE aw⊢
    refine Y2 (X1 (enc:=z6) (size:=3) (s:=S) (xs:=M)) fun kQ=>?_
    refine X2 (W.loop (γ:=Nat×U7) (fun g s=>s.1=(g.1:Int)∧g.1≤M.length∧j7 g.2.b∧g.2.b.aD.map (·.id)=T.b.aD.map (·.id)∧(M.drop g.1).foldl (A0H x.aD u) g.2=M.foldl (A0H x.aD u) T2∧g.2.outs.length≤20000000+320*g.1)
     (fun g s=>X5 t b full g.2::U4 z6 3 S M::cells qV (X9 u).toArray::U4 X9 5 aS A::old h0::L3) (fun g=>M.length-g.1) (0,T2) ⟨rfl,C9 _,bU,jf,rfl,by simp only;omega⟩ ?_ ?_)
    ·show Sub _ (X5 t b full T2::U4 z6 3 S M::cells qV (X9 u).toArray::U4 X9 5 aS A::old h0::L3)
     repeat(first|with_reducible exact T5|with_reducible exact T6|refine T7 (by repeat first|with_reducible exact U9|apply V1) ?_|refine T8 ?_)
    rintro⟨l,T3⟩ s3 ⟨gl,rv,cR,oI,ik,nW⟩ K3 n1 n2
    simp only at gl rv cR oI ik nW
    by_cases cT:l<M.length
    ·refine X7 (by rw[gl,kQ];exact decide_eq_true (by omega)) ?_
     have im:M.drop l=M[l]::M.drop (l+1):=D9 cT
     have nP:M[l]? =some M[l]:=B0 cT
     rw[im,I0] at ik
     generalize M[l]=m at nP ik
     have qg:=B0s (id:=x.aD) (s:=u) T3 m cR
     have ee:At (X5 t b full (A0H x.aD u T3 m)::U4 z6 3 S M::cells qV (X9 u).toArray::U4 X9 5 aS A::old h0::L3) (K3 (.inl (IntKind.wrap .i64 (s3.1+1),()))):=by
      refine n1 (l+1,A0H x.aD u T3 m) (IntKind.wrap .i64 (s3.1+1),()) (by simp only;omega) ⟨?_,cT,qg.ok,A80.trans oI,ik,?_⟩
      ·simp only[gl];rw[V5 (by omega) (by omega)];rfl
      ·have:=qg.outs;simp only;omega
     clear n1 n2 ik
     obtain⟨s4,ak,hid⟩:=C6C oI ri ig
     have iL:(if u.2.1<m.2.2.1 then u.2.1 else m.2.2.1)=min m.2.2.1 u.2.1:=by split<;>omega
     have cX:=A3Y (cR.bM s4 ak) (m.1,m.2.1,min m.2.2.1 u.2.1,true,e0S)
     have e9:A0H x.aD u T3 m=q7 x.aD (Y1 s4.out (m.1,m.2.1,min m.2.2.1 u.2.1,true,e0S)).1.2 (A0C (X8 x.aD (Y6 (Y1 s4.out (m.1,m.2.1,min m.2.2.1 u.2.1,true,e0S)).1.1) T3.b.aD) T3):=by
      unfold A0H A0M
      rw[A3i cR.nd ak hid]
     rw[e9] at ee
     refine e8 (enc:=z6) (xs:=M) (i:=l) cT (fun a3 iU=>?_) (he:=gl)
     refine B3e (x:=m) (v:=m) iU nP ?_
     refine Y0 fun xU=>?_
     refine A0a ?_
     refine W3 ?_
     refine A6a (fun h R=>l9) fun gb iv q2=>?_
     refine W.load (v:=some ⟨b,0,none⟩) ?_
     refine W3 ?_
     refine W.load (v:=some ⟨q2.tb,0,none⟩) ?_
     refine W.load (v:=m.1) ?_
     refine W.load (v:=m.2.1) ?_
     refine W.load (v:=m.2.2.1) ?_
     refine W.load (v:=u.2.1) ?_
     rw[iL]
     refine A8U (fun h R=>A6j ak h R) fun ob ib=>?_
     refine A7O ?_ ?_
     ·refine b6 (B3f hid (At.un ?_))
      repeat(first|refine b7 ?_|refine X2 ?_|refine Y0 fun _=>?_|refine W.load ?_|refine B4u ?_|refine i7 ?_|(refine q8 ?_;try dsimp only)|(refine A8g ?_;try dsimp only)|refine A0a ?_|refine W.store ?_|refine W.store0 ?_|refine A4e ?_|refine A06 ?_ rfl|refine A1d rfl ?_|refine l7 rfl ?_|refine X7 rfl ?_|refine W6 rfl ?_|refine W.inl ?_|refine W.inr ?_|refine W3 ?_|refine l7 (Go.H.nbq _) ?_|refine W6 (Go.H.nbq _) ?_|refine l7 (Go.H.nbd rfl) ?_|refine W6 (Go.H.nbd rfl) ?_)
      refine Z1 (B4y (b:=ob) (o:=s4.out) (m:=(m.1,m.2.1,min m.2.2.1 u.2.1,true,e0S)) (cR.bM s4 ak) (fun S2=>At.bD (x:=(S2,(Y1 s4.out (m.1,m.2.1,min m.2.2.1 u.2.1,true,e0S)).2,())) ?_))
      refine B2b (A:=A1e q2.tb T3.b.last (X8 x.aD (Y6 (Y1 s4.out (m.1,m.2.1,min m.2.2.1 u.2.1,true,e0S)).1.1) T3.b.aD)) (fun h hs=>A6i cR.nd ak hid h hs) ?_
      refine W.bG (A0C (X8 x.aD (Y6 (Y1 s4.out (m.1,m.2.1,min m.2.2.1 u.2.1,true,e0S)).1.1) T3.b.aD) T3) gb iv q2 ?_
      refine Z1 (A3A (T:=A0C (X8 x.aD (Y6 (Y1 s4.out (m.1,m.2.1,min m.2.2.1 u.2.1,true,e0S)).1.1) T3.b.aD) T3) (id:=x.aD) (ps:=(Y1 s4.out (m.1,m.2.1,min m.2.2.1 u.2.1,true,e0S)).1.2) (cR.one x.aD) (by have:=cX.2;show T3.outs.length+_≤_;omega) (At.bD ?_))
      exact U1 ee.sub
     ·repeat(first|refine b7 ?_|refine X2 ?_|refine Y0 fun _=>?_|refine W.load ?_|refine B4u ?_|refine i7 ?_|(refine q8 ?_;try dsimp only)|(refine A8g ?_;try dsimp only)|refine A0a ?_|refine W.store ?_|refine W.store0 ?_|refine A4e ?_|refine A06 ?_ rfl|refine A1d rfl ?_|refine l7 rfl ?_|refine X7 rfl ?_|refine W6 rfl ?_|refine W.inl ?_|refine W.inr ?_|refine W3 ?_|refine l7 (Go.H.nbq _) ?_|refine W6 (Go.H.nbq _) ?_|refine l7 (Go.H.nbd rfl) ?_|refine W6 (Go.H.nbd rfl) ?_)
      refine b6 (B3f hid (At.un ?_))
      repeat(first|refine b7 ?_|refine X2 ?_|refine Y0 fun _=>?_|refine W.load ?_|refine B4u ?_|refine i7 ?_|(refine q8 ?_;try dsimp only)|(refine A8g ?_;try dsimp only)|refine A0a ?_|refine W.store ?_|refine W.store0 ?_|refine A4e ?_|refine A06 ?_ rfl|refine A1d rfl ?_|refine l7 rfl ?_|refine X7 rfl ?_|refine W6 rfl ?_|refine W.inl ?_|refine W.inr ?_|refine W3 ?_|refine l7 (Go.H.nbq _) ?_|refine W6 (Go.H.nbq _) ?_|refine l7 (Go.H.nbd rfl) ?_|refine W6 (Go.H.nbd rfl) ?_)
      refine Z1 (B4y (b:=ob) (o:=s4.out) (m:=(m.1,m.2.1,min m.2.2.1 u.2.1,true,e0S)) (cR.bM s4 ak) (fun S2=>At.bD (x:=(S2,(Y1 s4.out (m.1,m.2.1,min m.2.2.1 u.2.1,true,e0S)).2,())) ?_))
      refine B2b (A:=A1e q2.tb T3.b.last (X8 x.aD (Y6 (Y1 s4.out (m.1,m.2.1,min m.2.2.1 u.2.1,true,e0S)).1.1) T3.b.aD)) (fun h hs=>A6i cR.nd ak hid h hs) ?_
      refine W.bG (A0C (X8 x.aD (Y6 (Y1 s4.out (m.1,m.2.1,min m.2.2.1 u.2.1,true,e0S)).1.1) T3.b.aD) T3) gb iv q2 ?_
      refine Z1 (A3A (T:=A0C (X8 x.aD (Y6 (Y1 s4.out (m.1,m.2.1,min m.2.2.1 u.2.1,true,e0S)).1.1) T3.b.aD) T3) (id:=x.aD) (ps:=(Y1 s4.out (m.1,m.2.1,min m.2.2.1 u.2.1,true,e0S)).1.2) (cR.one x.aD) (by have:=cX.2;show T3.outs.length+_≤_;omega) (At.bD ?_))
      exact U1 ee.sub
    ·refine W6 (by rw[gl,kQ];exact decide_eq_false (by omega)) (U1 (n2 _ _ (b7 (U1 ?_))))
     have hle:l=M.length:=by omega
     subst hle
     rw[J7,P3] at ik
     rw[←ik] at aw
     exact aw.sub
  ·refine W6 (by rw[hj,fg];exact decide_eq_false (by omega)) (U1 (m2 _ _ (U1 ?_)))
   have jX:j=A.length:=by omega
   subst jX
   rw[J7,P3] at fS
   rw[fS]
   exact hq.sub
end
section
open Go.H Go.Proofs
variable {h h0:Heap} {L L' L1 L2 L3 R:List Asn} {Q:Value→Heap→Prop}
abbrev A4k(p:Pk):Slc:=p.2.2.2.2.2.2.2.2.2.2.2.2.2.2.2.2.2.2.2.2.2.2.2.2.2.1
theorem B6Q{t b:Nat}{full:Bool}{T:U7}{x:Y3}{p:Pk}{pl:List o8}{sl:List A0w}{fl:List B3O}(ht:TP h0)(ag:j7 T.b)(hc:A04 x.c T.b.aB=some x)(hb:T.outs.length≤10000000)(hn:fl.length≤100)
  (hsz:∀f∈fl,f.size≤16777216)
  (hq:At (X5 t b full (A1z x (pkI p pl sl fl) T)::old h0::L3) (Q (.tuple #[])))(hx:Has L (X5 t b full T) L1:=by repeat first|with_reducible exact U9|apply V1)(hy:Has L1 (old h0) L2:=by repeat first|with_reducible exact U9|apply V1)(hz:Has L2 (U4 v8 1 (A4k p) fl) L3:=by repeat first|with_reducible exact U9|apply V1):
  FW prog 66 #[at0 t,.int .i64 x.c,A2p .u8 p] L Q:=by
 refine fun h hs=>A4b (some ⟨t,0,none⟩) x.c p h Q ((?_:W (X5 t b full T::old h0::U4 v8 1 (A4k p) fl::L3) _ _) h ((hx.cV hy hz).s hs))
 clear hs h hx hy hz
 unfold A1z at hq
 simp only at hq
 obtain⟨EF,jl⟩:∃EF,EF=(A0K x.aD fl T.b.aH).1:=⟨_,rfl⟩
 obtain⟨CF,iW⟩:∃CF,CF=(A0K x.aD fl T.b.aH).2:=⟨_,rfl⟩
 rw[←jl,←iW] at hq
 delta A2S az bn cb cx A0R ie ix jc ji km kp lt nn nw pu sn sw ve vi vs vz wi
 refine Y0 fun x1=>?_
 refine W.load (v:=p.2.2.2.2.1) ?_
 refine Y0 fun x3=>?_
 refine A0a ?_
 refine W.load (v:=A4k p) ?_
 refine A3p (eKd .u8) 1 ?_
 refine W.cells (b:=x3) (W7 .u8 (pkT (Z7 11 (p.2.2.2.2.1) 0) ⟨none,0,0⟩ ⟨none,0,0⟩)).toArray ?_
 refine Y2 (X1 (enc:=v8) (size:=1) (s:=A4k p) (xs:=fl)) fun hl=>?_
 refine W.loop (γ:=Nat×List Ent×List Int×Slc) (fun g s=>s.1=(g.1:Int)∧g.1≤fl.length∧g.2.1.length≤T.b.aH.length∧(A0K x.aD (fl.drop g.1) g.2.1).1=EF∧g.2.2.1++(A0K x.aD (fl.drop g.1) g.2.1).2=CF∧g.2.2.1.length=g.1)
  (fun g s=>X5 t b full (A1j g.2.1 T)::U4 (eKd .u8) 1 g.2.2.2 g.2.2.1::cells x3 (W7 .u8 (pkT (Z7 11 (p.2.2.2.2.1) 0) g.2.2.2 ⟨none,0,0⟩)).toArray::U4 v8 1 (A4k p) fl::old h0::L3)
  (fun g=>fl.length-g.1) (0,T.b.aH,[],⟨none,0,0⟩) ⟨rfl,C9 _,D6 _,jl.symm,iW.symm,rfl⟩ ?_ ?_
 ·show Sub _ (X5 t b full T::U4 (eKd .u8) 1 ⟨none,0,0⟩ ([]:List Int)::cells x3 (W7 .u8 (pkT (Z7 11 (p.2.2.2.2.1) 0) ⟨none,0,0⟩ ⟨none,0,0⟩)).toArray::U4 v8 1 (A4k p) fl::old h0::L3)
  repeat(first|with_reducible exact T5|with_reducible exact T6|refine T7 (by repeat first|with_reducible exact U9|apply V1) ?_|refine T8 ?_)
 rintro⟨i,E,cs,cS⟩ s ⟨hi,ck,lb,cd,cg,ba⟩ K k1 k2
 simp only at hi ck lb cd cg ba
 by_cases ah:i<fl.length
 ·refine X7 (by rw[hi,hl];exact decide_eq_true (by omega)) ?_
  have bh:fl.drop i=fl[i]::fl.drop (i+1):=D9 ah
  have aQ:fl[i]? =some fl[i]:=B0 ah
  have an:fl[i]∈fl:=H2 ah
  rw[bh] at cd cg
  generalize fl[i]=u at aQ an cd cg
  clear bh
  unfold A0K at cd cg
  simp only at cd cg
  have bg:=ag.aH
  refine e8 (enc:=v8) (xs:=fl) (i:=i) ah (fun a ha=>?_) (he:=hi)
  refine B6G (x:=u) (v:=u) ha aQ ?_
  refine W3 ?_
  refine A6a (fun h R=>l9) fun so sp q=>?_
  refine W.load (v:=some ⟨b,0,none⟩) ?_
  refine W3 ?_
  refine W.load ?_
  refine W3 ?_
  refine W.load (v:=some ⟨b,0,none⟩) ?_
  refine W3 ?_
  refine W.load (v:=some q.cm) ?_
  refine W.lookup (kind:=.agg tC) kKI x.c ?_
  rw[A3H,hc]
  refine b6 (C02 (t:=q.sb) (E:=E) (id:=x.aD) (f:=u) ht (hsz u an) (by omega) (At.un ?_))
  refine W.bG (A1j (A1H E x.aD u) T) so sp q ?_
  refine A07 (fun a=>a.1=if(A1H E x.aD u).length<E.length then 0 else 17) (fun K2 bd=>A0e (fun e=>U1 (bd _ (if_pos (by simpa using e)).symm)) (fun e=>U1 (bd _ (if_neg (by simpa using e)).symm))) (fun a jT=>?_)
  refine W.load (v:=cS) ?_
  refine C5Y (enc:=eKd .u8) (xs:=cs) (s:=cS) a.1 (fun s'=>?_) (by omega)
  refine W.store (cs':=(W7 .u8 (pkT (Z7 11 (p.2.2.2.2.1) 0) s' ⟨none,0,0⟩)).toArray) ?_
  have oa:(A1H E x.aD u).length≤T.b.aH.length:=C4 C0B lb
  have f1:IntKind.wrap .i64 (s.1+1)=((i+1:Nat):Int):=by rw[hi,V5 (by omega) (by omega)];rfl
  have f2:(cs++[a.1])++(A0K x.aD (fl.drop (i+1)) (A1H E x.aD u)).2=CF:=by rw[jT,D4];exact cg
  have hn:=k1 (i+1,A1H E x.aD u,cs++[a.1],s') (IntKind.wrap .i64 (s.1+1),()) (by simp only;omega) ⟨f1,ah,oa,cd,f2,by simp[ba]⟩
  exact U1 hn.sub
 ·refine W6 (by rw[hi,hl];exact decide_eq_false (by omega)) (U1 (k2 _ _ ?_))
  have eh:i=fl.length:=by omega
  subst eh
  rw[J7] at cd cg
  simp only[A0K,C1] at cd cg
  subst cd cg
  refine q8 (v:=pkT (A0O 11 (p.2.2.2.2.1) cs) cS ⟨none,0,0⟩) ?_
  refine A3p W8 4 ?_
  refine W.cZ (A:=pkB .u8 (cS,⟨none,0,0⟩,A0O 11 (p.2.2.2.2.1) cs)) (B:=U4 (eKd .u8) 1 cS cs) (C:=U4 W8 4 ⟨none,0,0⟩ ([]:List o8)) (fun h hs=>A4B.2 hs) ?_
  refine Z1 (B8o (T:=A1j E T) (c:=x.c) (o:=A0O 11 (p.2.2.2.2.1) cs) (ci:=cS) (pi:=⟨none,0,0⟩) (by show T.outs.length≤_;omega) (At.bD ?_))
  exact U1 hq.sub
theorem C9o{α:Type}{P:Program}{k:Kind}{fn:FuncId}{first captured args:C9v}{f:k.ty→HM α}{Q':α→Heap→Prop}(ag:A1t P fn)(hc:FW P fn (first++args++captured) L (k.un fun x h'=>f x h' Q')):
  W L (HM.bind (B78 P k (.func (.func fn) first captured) args) f) Q':=fun h hs=>
 ⟨fn,first,captured,rfl,ag,hc h hs⟩
abbrev prU(u:o8):Int×Int×B3O×B3O×Unit:=(u.1,u.2.1,u.2.2.1,u.2.2.2,())
theorem C5u{S:Slc}{pl:List o8}{id:Int}(hn:pl.length≤1000)(hq:At (U4 W8 4 S pl::L1) (Q (.tuple #[.agg (W8 ((A0N id pl).getD (0,0,e0S,e0S))).toArray,.bool (A0N id pl).isSome])))
  (hx:Has L (U4 W8 4 S pl) L1:=by repeat first|with_reducible exact U9|apply V1):FW prog 70 #[.slice S.a S.len S.cap,.int .i64 id] L Q:=by
 refine fun h hs=>B4i S id h Q ((?_:W (U4 W8 4 S pl::L1) _ _) h (hx.s hs))
 clear hs h hx
 delta B7y az ci g8 ie ix nw pu sn ve vi vs
 refine Y0 fun x1=>?_
 refine Y0 fun x2=>?_
 refine b6 (fun h hs=>A3o S _ h _ ((?_:W (cells x2 zS8::cells x1 #[.int .i64 id]::U4 W8 4 S pl::L1) _ _) h hs))
 delta A2l bn g8 ie ix pu wi
 refine Y2 (X1 (enc:=W8) (size:=4) (s:=S) (xs:=pl)) fun hl=>?_
 refine W.loop (γ:=Nat) (fun g s=>s.1=(g:Int)∧g≤pl.length∧A0N id (pl.take g)=none) (fun g s=>cells x2 zS8::cells x1 #[.int .i64 id]::U4 W8 4 S pl::L1) (fun g=>pl.length-g) 0 ⟨rfl,C9 _,rfl⟩ Sub.rfl ?_
 rintro i s ⟨hi,ck,hf⟩ K k1 k2
 by_cases ah:i<pl.length
 ·refine X7 (by rw[hi,hl];exact decide_eq_true (by omega)) ?_
  have aQ:pl[i]? =some pl[i]:=B0 ah
  have aV:pl.take (i+1)=pl.take i++[pl[i]]:=C3 ah
  have eJ:pl=pl.take i++pl[i]::pl.drop (i+1):=by rw[←D9 ah,J2]
  generalize pl[i]=u at aQ aV eJ
  refine e8 (enc:=W8) (xs:=pl) (i:=i) ah (fun a ha=>?_) (he:=hi)
  refine B3e (x:=u) (v:=prU u) ha aQ ?_
  refine C9o call115 (fun h hs=>B0o (prU u) ⟨x1,0,none⟩ h _ ((?_:W (cells x2 zS8::cells x1 #[.int .i64 id]::U4 W8 4 S pl::L1) _ _) h hs))
  delta B1n ji li nw pu
  refine Y0 fun x4=>?_
  refine W.load (v:=u.1) ?_
  refine B4u (v:=id) ?_
  refine U1 (At.un (x:=u.1==id) ?_)
  by_cases hu:u.1=id
  ·refine X7 (by simpa using hu) ?_
   refine U1 (k2 _ _ ?_)
   refine U1 (At.un (x:=s.1) ?_)
   have tI:A0N id pl=some u:=by
    rw[eJ];unfold A0N at hf⊢
    rw[N8,hf,Option.none_or,R3 (by simpa using hu)]
   rw[tI] at hq
   refine W6 (by rw[hi];exact decide_eq_false (by omega)) ?_
   refine e8 (enc:=W8) (xs:=pl) (i:=i) ah (fun a ha=>?_) (he:=hi)
   refine B3e (x:=u) (v:=prU u) ha aQ ?_
   refine A0a ?_
   refine q8 (v:=prU u) ?_
   exact U1 hq.sub
  ·refine W6 (by simpa using hu) ?_
   have f1:IntKind.wrap .i64 (s.1+1)=((i+1:Nat):Int):=by rw[hi,V5 (by omega) (by omega)];rfl
   have f2:A0N id (pl.take (i+1))=none:=by
    rw[aV];unfold A0N at hf⊢
    rw[N8,hf,Option.none_or,List.find?_cons_of_neg (by simpa using hu)];rfl
   have hn:=k1 (i+1) (IntKind.wrap .i64 (s.1+1),()) (by omega) ⟨f1,ah,f2⟩
   exact U1 hn.sub
 ·refine W6 (by rw[hi,hl];exact decide_eq_false (by omega)) (U1 (k2 _ _ ?_))
  have eh:i=pl.length:=by omega
  subst eh
  rw[F5] at hf
  rw[hf] at hq
  refine U1 (At.un (x:=(-1:Int)) ?_)
  refine X7 (by decide) ?_
  refine A0a ?_
  refine q8 (v:=prU (0,0,e0S,e0S)) ?_
  exact U1 hq.sub
end
section
open Go.H Go.Proofs
abbrev A2n(s:V7):Int×B3O:=(s.id,s.aC)
structure X3(B:Z2)(n:Nat):Prop extends j7 B where
 cY:0≤B.last
 cK:B.last≤n
 dP:∀s∈B.aD,1≤s.id∧s.id≤B.last
 dE:(B.aD.map (·.id)).Pairwise (·< ·)
 eA:(B.aD.map (·.aC)).Nodup
 n32:B.aD.length≤32
 eT:∀i,A02 B.aH i≤64
theorem B6r{A E:List Ent}(h:A.Sublist E)(i:Int):A02 A i≤A02 E i:=(h.map _).count_le _
theorem X3.sub{B B':Z2}{n:Nat}(h:X3 B n)(h':j7 B')(hl:B'.last=B.last)(hk:(B'.aD.map A2n).Sublist (B.aD.map A2n))(he:B'.aH.Sublist B.aH):X3 B' n:=by
 have e1:∀A:List V7,(A.map A2n).map (·.1)=A.map (·.id):=fun A=>by rw[F0];rfl
 have e2:∀A:List V7,(A.map A2n).map (·.2)=A.map (·.aC):=fun A=>by rw[F0];rfl
 have k1:=hk.map (·.1)
 have k2:=hk.map (·.2)
 rw[e1,e1] at k1
 rw[e2,e2] at k2
 refine{h' with cY:=by rw[hl];exact h.cY,cK:=by rw[hl];exact h.cK,dP:=fun s hs=>?_,dE:=h.dE.sublist k1,eA:=h.eA.sublist k2,n32:=?_,eT:=fun i=>C4 (B6r he i) (h.eT i)}
 ·have:s.id∈B.aD.map (·.id):=k1.subset (B3 hs)
  obtain⟨s',af,he⟩:=E4.1 this
  have:=h.dP s' af
  rw[hl];rw[he] at this;exact this
 ·have:=hk.length_le
  simp only[B9] at this
  exact C4 this h.n32
theorem B0V{k:Int}{f:V7→V7}(hf:∀s,A2n (f s)=A2n s)(A:List V7):(X8 k f A).map A2n=A.map A2n:=by
 unfold X8
 rw[F0]
 refine H9 fun s _=>?_
 simp only[Function.comp]
 split
 ·exact hf s
 ·rfl
theorem B2I{id:Int}{f:Z8→Z8×List PkO}{T:U7}:(A0M id f T).b.aD.map A2n=T.b.aD.map A2n:=by
 unfold A0M
 split
 ·rfl
 ·rename_i s _
  exact B0V (f:=Y6 (f s.out).1) (fun _=>rfl) _
theorem B1S{α:Type}{g:U7→α→U7}(hg:∀T x,(g T x).b.aD.map A2n=T.b.aD.map A2n):∀(l:List α) {T:U7},(l.foldl g T).b.aD.map A2n=T.b.aD.map A2n
 |[],_=>rfl
 |x::l,T=>(B1S hg l).trans (hg T x)
theorem B2W{m:MsT}{T:U7}:(A0A m T).b.aD.map A2n=T.b.aD.map A2n:=by
 unfold A0A
 rw[B1S (g:=A1a m (T.b.aH.filter fun x=>Y9 x.2.1 m.1)) fun T x=>B2I]
 unfold A1X;split<;>rfl
theorem C0y{k:Int}{B:Z2}:((A8L k B).aD.map A2n).Sublist (B.aD.map A2n):=by
 unfold A8L
 split
 ·exact G3 _
 ·split
  ·exact G3 _
  ·split
   ·show((X8 k A8c B.aD).map A2n).Sublist _
    rw[B0V (f:=A8c) fun _=>rfl];exact G3 _
   ·exact I1.map _
theorem B5W{full:Bool}{c:Int}{w:Bool}{T:U7}:((A4n full c w T).b.aD.map A2n).Sublist (T.b.aD.map A2n):=by
 unfold A4n
 split
 ·exact G3 _
 ·simp only
  split
  ·show((A0A _ _).b.aD.map A2n).Sublist _
   rw[B2W];exact C0y
  ·exact C0y
theorem B7X{k:Int}{B:Z2}:(A8L k B).aH.Sublist B.aH:=by
 unfold A8L
 split
 ·exact G3 _
 ·split
  ·exact G3 _
  ·split
   ·exact G3 _
   ·exact I1
theorem B7Q{α:Type}{g:U7→α→U7}(hg:∀T x,(g T x).b.aH=T.b.aH):∀(l:List α) {T:U7},(l.foldl g T).b.aH=T.b.aH
 |[],_=>rfl
 |x::l,T=>(B7Q hg l).trans (hg T x)
theorem C1s{id:Int}{f:Z8→Z8×List PkO}{T:U7}:(A0M id f T).b.aH=T.b.aH:=by
 unfold A0M;split<;>rfl
theorem C1N{m:MsT}{T:U7}:(A0A m T).b.aH=T.b.aH:=by
 unfold A0A
 rw[B7Q (g:=A1a m (T.b.aH.filter fun x=>Y9 x.2.1 m.1)) fun T x=>C1s]
 unfold A1X;split<;>rfl
theorem B21{full:Bool}{c:Int}{w:Bool}{T:U7}:(A4n full c w T).b.aH.Sublist T.b.aH:=by
 unfold A4n
 split
 ·exact G3 _
 ·simp only
  split
  ·show((A0A _ _).b.aH).Sublist _
   rw[C1N];exact B7X
  ·exact B7X
theorem C0e{id:Int}(T:U7)(s:A0w):(j4 id T s).b.aD.map A2n=T.b.aD.map A2n:=by
 unfold j4
 split
 ·rfl
 ·exact B1S (fun T m=>B2I) _
theorem B1y{α β:Type}{f:α→β}{A:List α}(hn:(A.map f).Nodup){s t:α}(hs:s∈A)(ht:t∈A)(e:f s=f t):s=t:=by
 obtain⟨l1,l2,rfl⟩:=G7 hs
 rw[B8,B6,G0] at hn
 rcases C7.1 ht with hm|hm
 ·exact absurd e.symm (hn.2.2 _ (B3 hm) _ (B5 ..))
 ·rcases D7.1 hm with rfl|hm
  ·rfl
  ·exact absurd (B3 (f:=f) hm) (by rw[←e];exact(F7.1 hn.2.1).1)
theorem C0b{full:Bool}{s:V7}{T:U7}(h:j7 T.b)(ca:(T.b.aB.map (·.c)).Nodup):j7 (A3e full s T).b∧(A3e full s T).outs.length≤T.outs.length+3200001∧(A3e full s T).aT.length≤T.aT.length+3200001∧(A3e full s T).b.aB=T.b.aB.filter (fun y=>decide (y.aD≠s.id))∧(A3e full s T).b.last=T.b.last∧((A3e full s T).b.aD.map A2n).Sublist (T.b.aD.map A2n)∧(A3e full s T).b.aH.Sublist T.b.aH:=by
 unfold A3e
 cases hg:T.b.aB.find? (fun x=>decide (x.aD=s.id)) with
 |none=>
  have hf:T.b.aB.filter (fun y=>decide (y.aD≠s.id))=T.b.aB:=H0.2 fun y hy=>by
   have:=E3.1 hg y hy
   simpa using this
  exact⟨h,J8 _ _,J8 _ _,hf.symm,rfl,G3 _,G3 _⟩
 |some x=>
  have hx:=G9 hg
  have eE:x.aD=s.id:=by simpa using L9 hg
  have h1:=B0f (full:=full) (c:=x.c) (code:=142) (T:=T) h
  refine⟨h1.1,h1.2.1,h1.2.2.1,h1.2.2.2.1.trans ?_,h1.2.2.2.2,B5W,B21⟩
  refine K7 fun y hy=>?_
  refine F9.2 ⟨fun bz=>?_,fun bz=>?_⟩
  ·rw[←eE];exact h.other hx hy bz
  ·intro e
   exact bz (by rw[←eE];exact congrArg Y3.aD (B1y (f:=(·.c)) ca hy hx e))
noncomputable def A0W(full:Bool)(c:B3O)(T:U7):U7:=match ofS c T.b.aD with
 |some s=>A3e full s T
 |none=>T
theorem B1I{full:Bool}{c:B3O}{T:U7}{n:Nat}(h:X3 T.b n)(ca:(T.b.aB.map (·.c)).Nodup)(ea:ofS c T.b.aD=none→T.b.aD.length<32):
  X3 (A0W full c T).b n∧(A0W full c T).outs.length≤T.outs.length+3200001∧(A0W full c T).aT.length≤T.aT.length+3200001∧(∀y∈(A0W full c T).b.aB,y∈T.b.aB∧∀s,ofS c T.b.aD=some s→y.aD≠s.id)∧(ofS c (A0W full c T).b.aD=none→(A0W full c T).b.aD.length<32)∧(∀s',ofS c (A0W full c T).b.aD=some s'→∃s,ofS c T.b.aD=some s∧s.id=s'.id):=by
 unfold A0W
 cases ho:ofS c T.b.aD with
 |none=>
  exact⟨h,J8 _ _,J8 _ _,fun y hy=>⟨hy,fun s hs=>(by cases hs)⟩,fun _=>ea ho,fun s' af=>(by rw[ho] at af;cases af)⟩
 |some s=>
  have lz:s∈T.b.aD:=G9 ho
  have sP:s.aC=c:=by simpa using L9 ho
  obtain⟨k1,k2,k3,k4,k5,k6,k7⟩:=C0b (full:=full) (s:=s) h.toj7 ca
  simp only
  refine⟨h.sub k1 k5 k6 k7,k2,k3,fun y hy=>?_,fun ax=>?_,fun s' af=>⟨s,rfl,?_⟩⟩
  ·rw[k4] at hy
   obtain⟨h1,h2⟩:=E7.1 hy
   exact⟨h1,fun s' af=>by cases af;simpa using h2⟩
  ·refine Nat.lt_of_not_le fun qn=>?_
   have hl:=k6.length_le
   simp only[B9] at hl
   have:=h.n32
   have he:(A3e full s T).b.aD.map A2n=T.b.aD.map A2n:=k6.eq_of_length (by simp only[B9];omega)
   have hm:A2n s∈(A3e full s T).b.aD.map A2n:=by rw[he];exact B3 lz
   obtain⟨s',af,hk⟩:=E4.1 hm
   have:=E3.1 ax s' af
   have e2:s'.aC=c:=by rw[←sP];exact congrArg Prod.snd hk
   exact this (by simpa using e2)
  ·have h3:s'∈(A3e full s T).b.aD:=G9 af
   have h4:s'.aC=c:=by simpa using L9 af
   obtain⟨s0,h5,h6⟩:=E4.1 (k6.subset (B3 h3))
   have h7:s0=s:=B1y (f:=(·.aC)) h.eA h5 lz ((congrArg Prod.snd h6).trans (h4.trans sP.symm))
   rw[←h7];exact congrArg Prod.fst h6
theorem X3.s2k{B:Z2}{n:Nat}(h:X3 B n):B.aH.length≤2048:=by
 have key:∀(ids:List Int) (E:List Ent),(∀e∈E,e.1∈ids)→(∀i,A02 E i≤64)→E.length≤64*ids.length:=by
  intro ids
  induction ids with
  |nil=>
   intro E hE _
   cases E with
   |nil=>simp
   |cons e E=>cases hE e (B5 ..)
  |cons i ids ih=>
   intro E hE hc
   have h1:=ih (E.filter fun e=> !decide (e.1=i)) (fun e he=>by
    obtain⟨h1,h2⟩:=E7.1 he
    rcases D7.1 (hE e h1) with h3|h3
    ·simp[h3] at h2
    ·exact h3) (fun j=>C4 (B6r I1 j) (hc j))
   have h2:E.length=(E.filter fun e=>decide (e.1=i)).length+(E.filter fun e=> !decide (e.1=i)).length:=by
    clear hE hc h1
    induction E with
    |nil=>rfl
    |cons e E ihE=>
     by_cases he:e.1=i
     ·rw[G6 (by simpa using he),F8 (by simpa using he),B7,B7,ihE];omega
     ·rw[F8 (by simpa using he),G6 (by simpa using he),B7,B7,ihE];omega
   have h3:(E.filter fun e=>decide (e.1=i)).length=A02 E i:=by
    unfold A02
    rw[List.count_eq_countP,List.countP_map,List.countP_eq_length_filter]
    congr 1
   have:=hc i
   rw[B7]
   omega
 have h1:=key (B.aD.map (·.id)) B.aH (fun e he=>by
  obtain⟨s,hs,hi⟩:=h.live e he
  exact hi▸B3 hs) h.eT
 rw[B9] at h1
 have:=h.n32
 omega
theorem C3s{k:Int}{f:V7→V7}{A:List V7}{x:V7}(h:x∈X8 k f A):(x∈A∧x.id≠k)∨∃s∈A,s.id=k∧x=f s:=by
 unfold X8 at h
 obtain⟨s,hs,rfl⟩:=E4.1 h
 split
 ·exact .inr ⟨s,hs,by assumption,rfl⟩
 ·exact .inl ⟨hs,by assumption⟩
theorem C2N{C:List Y3}{x:Y3}(h1:∀id:Int,(C.filter fun y=>decide (y.aD=id)).length≤1)(h2:∀y∈C,y.aD≠x.aD)(id:Int):((C++[x]).filter fun y=>decide (y.aD=id)).length≤1:=by
 rw[E9,B4]
 by_cases e:x.aD=id
 ·subst e
  have:C.filter (fun y=>decide (y.aD=x.aD))=[]:=I6.2 fun y hy=>by simpa using h2 y hy
  rw[this]
  simp
 ·have:[x].filter (fun y=>decide (y.aD=id))=[]:=I6.2 fun y hy=>by rw[C0.1 hy];simpa using e
  rw[this]
  simpa using h1 id
theorem C6K{B:Z2}{n:Nat}{s':V7}{x:Y3}{aN:Bool}(h:X3 B n)(hs:s'∈B.aD)(hc:∀y∈B.aB,y.aD≠s'.id)(hx:x.aD=s'.id)(hw:x.aX.1.size≤9223372036854775807∧ -9223372036854775808≤x.c∧x.c≤9223372036854775807):
  X3 ⟨B.last,X8 s'.id (fun s=>{s with on:=true,aN:=aN}) B.aD,B.aH,B.kept,B.aB++[x]⟩ (n+1) where
 aH:=h.aH
 bM:=fun s hs=>by
  rcases A3X hs with hs|⟨s1,h1,_,rfl⟩
  ·exact h.bM s hs
  ·exact h.bM s1 h1
 live:=fun e he=>A2X (f:=fun s=>{s with on:=true,aN:=aN}) (fun _=>rfl) (h.live e he)
 one:=C2N h.one (fun y hy=>by rw[hx];exact hc y hy)
 nd:=by
  show((X8 s'.id (fun s=>{s with on:=true,aN:=aN}) B.aD).map (·.id)).Nodup
  rw[A6m (f:=fun s=>{s with on:=true,aN:=aN}) fun _=>rfl];exact h.nd
 cl:=fun y hy=>A2X (f:=fun s=>{s with on:=true,aN:=aN}) (fun _=>rfl) (by
  rcases C7.1 hy with hy|hy
  ·exact h.cl y hy
  ·rw[C0.1 hy];exact⟨s',hs,hx.symm⟩)
 dS:=fun y hy s ae e=>by
  rcases C3s ae with⟨h1,h2⟩|⟨s1,h1,h2,rfl⟩
  ·rcases C7.1 hy with hy|hy
   ·exact h.dS y hy s h1 e
   ·rw[C0.1 hy,hx] at e;exact absurd e h2
  ·rfl
 wl:=fun y hy=>by
  rcases C7.1 hy with hy|hy
  ·exact h.wl y hy
  ·rw[C0.1 hy];exact hw
 cY:=h.cY
 cK:=by have:=h.cK;simp only;omega
 dP:=fun s hs=>by
  rcases A3X hs with hs|⟨s1,h1,_,rfl⟩
  ·exact h.dP s hs
  ·exact h.dP s1 h1
 dE:=by
  show((X8 s'.id (fun s=>{s with on:=true,aN:=aN}) B.aD).map (·.id)).Pairwise (·< ·)
  rw[A6m (f:=fun s=>{s with on:=true,aN:=aN}) fun _=>rfl];exact h.dE
 eA:=by
  have e:(X8 s'.id (fun s=>{s with on:=true,aN:=aN}) B.aD).map (·.aC)=B.aD.map (·.aC):=by
   have h1:=congrArg (List.map Prod.snd) (B0V (k:=s'.id) (f:=fun s=>{s with on:=true,aN:=aN}) (fun _=>rfl) B.aD)
   rw[F0,F0] at h1
   exact h1
  show((X8 s'.id (fun s=>{s with on:=true,aN:=aN}) B.aD).map (·.aC)).Nodup
  rw[e];exact h.eA
 n32:=by
  show(X8 s'.id (fun s=>{s with on:=true,aN:=aN}) B.aD).length≤32
  unfold X8;rw[B9];exact h.n32
 eT:=h.eT
theorem C47{B:Z2}{n:Nat}{A:List V7}{E:List Ent}{x:Y3}{aC:B3O}{aN:Bool}(h:X3 B n)(hA:A.Sublist B.aD)(hE:E.Sublist B.aH)(hl:∀e∈E,∃s∈A,s.id=e.1)(hc:∀y∈B.aB,∃s∈A,s.id=y.aD)(hn:∀s∈A,s.aC≠aC)(ea:A.length<32)
  (hx:x.aD=B.last+1)(hw:x.aX.1.size≤9223372036854775807∧ -9223372036854775808≤x.c∧x.c≤9223372036854775807):X3 ⟨B.last+1,A++[A2s (B.last+1) aC aN],E,B.kept,B.aB++[x]⟩ (n+1):=by
 have ah:∀s∈A,s.id<B.last+1:=fun s hs=>by have:=(h.dP s (hA.subset hs)).2;omega
 have gH:∀{s},s∈A++[A2s (B.last+1) aC aN]→s∈A∨s=A2s (B.last+1) aC aN:=fun hs=>by
  rcases C7.1 hs with hs|hs
  ·exact .inl hs
  ·exact .inr (C0.1 hs)
 refine{aH:=C4 hE.length_le h.aH,bM:=fun s hs=>?_,live:=fun e he=>?_,one:=C2N h.one (fun y hy=>?_),nd:=?_,cl:=fun y hy=>?_,dS:=fun y hy s hs e=>?_,wl:=fun y hy=>?_,cY:=by have:=h.cY;simp only;omega,cK:=by have:=h.cK;simp only;omega,dP:=fun s hs=>?_,dE:=?_,eA:=?_,n32:=by rw[B4];exact ea,eT:=fun i=>C4 (B6r hE i) (h.eT i)}
 ·rcases gH hs with hs|rfl
  ·exact h.bM s (hA.subset hs)
  ·exact W9.new
 ·obtain⟨s,hs,hi⟩:=hl e he
  exact⟨s,K8 _ hs,hi⟩
 ·obtain⟨s,hs,hi⟩:=hc y hy
  have:=ah s hs
  omega
 ·show((A++[A2s (B.last+1) aC aN]).map (·.id)).Nodup
  rw[B8,G0]
  refine⟨h.nd.sublist (hA.map _),by simp,fun a ha b hb=>?_⟩
  obtain⟨s,hs,rfl⟩:=E4.1 ha
  have:=ah s hs
  rw[B6,I3,C0] at hb
  rw[hb]
  show s.id≠B.last+1
  omega
 ·rcases C7.1 hy with hy|hy
  ·obtain⟨s,hs,hi⟩:=hc y hy
   exact⟨s,K8 _ hs,hi⟩
  ·rw[C0.1 hy];exact⟨A2s (B.last+1) aC aN,G5 _ (C0.2 rfl),hx.symm⟩
 ·rcases gH hs with hs|rfl
  ·rcases C7.1 hy with hy|hy
   ·exact h.dS y hy s (hA.subset hs) e
   ·rw[C0.1 hy] at e
    have:=ah s hs
    omega
  ·rfl
 ·rcases C7.1 hy with hy|hy
  ·exact h.wl y hy
  ·rw[C0.1 hy];exact hw
 ·rcases gH hs with hs|rfl
  ·have:=h.dP s (hA.subset hs);simp only;omega
  ·have:=h.cY;show 1≤B.last+1∧B.last+1≤B.last+1;omega
 ·show((A++[A2s (B.last+1) aC aN]).map (·.id)).Pairwise (·< ·)
  rw[B8,I7]
  refine⟨h.dE.sublist (hA.map _),by simp,fun a ha b hb=>?_⟩
  obtain⟨s,hs,rfl⟩:=E4.1 ha
  have:=ah s hs
  rw[B6,I3,C0] at hb
  rw[hb]
  exact this
 ·show((A++[A2s (B.last+1) aC aN]).map (·.aC)).Nodup
  rw[B8,G0]
  refine⟨h.eA.sublist (hA.map _),by simp,fun a ha b hb=>?_⟩
  obtain⟨s,hs,rfl⟩:=E4.1 ha
  rw[B6,I3,C0] at hb
  rw[hb]
  exact hn s hs
def A1P(o:Option V7)(k:Int)(E:List Ent):List Ent:=match o with
 |some s=>if s.id≠k then A1b s.id E else E
 |none=>E
theorem B6z{B:Z2}{n:Nat}{o:Option V7}{aC:B3O}{clean aN:Bool}{x:Y3}(h:X3 B n)(ho:∀s',ofS aC B.aD=some s'→∃s,o=some s∧s.id=s'.id)(hc:∀y∈B.aB,∀s,o=some s→y.aD≠s.id)(ea:ofS aC B.aD=none→B.aD.length<32)
  (hx:x.aD=(j1 aC clean aN B).1.1)(hw:x.aX.1.size≤9223372036854775807∧ -9223372036854775808≤x.c∧x.c≤9223372036854775807):
  X3 ⟨(j1 aC clean aN B).2.last,(j1 aC clean aN B).2.aD,A1P o (j1 aC clean aN B).1.1 B.aH,B.kept,B.aB++[x]⟩ (n+1)∧∃s∈(j1 aC clean aN B).2.aD,s.id=(j1 aC clean aN B).1.1:=by
 have iA:∀k (E:List Ent),(A1b k E).Sublist E:=fun k E=>I1
 unfold j1 at hx⊢
 cases hg:ofS aC B.aD with
 |none=>
  rw[hg] at hx
  have ax:∀s∈B.aD,s.aC≠aC:=fun s hs=>by simpa using E3.1 hg s hs
  have bg:(A1P o (B.last+1) B.aH).Sublist B.aH:=by
   unfold A1P;split
   ·split
    ·exact iA _ _
    ·exact G3 _
   ·exact G3 _
  exact⟨C47 h (G3 _) bg (fun e he=>h.live e (bg.subset he)) h.cl ax (ea hg) hx hw,A2s (B.last+1) aC aN,G5 _ (C0.2 rfl),rfl⟩
 |some s'=>
  obtain⟨s,rfl,hid⟩:=ho s' hg
  have hm:s'∈B.aD:=G9 hg
  have ba:s'.aC=aC:=by simpa using L9 hg
  have qD:∀y∈B.aB,y.aD≠s'.id:=fun y hy=>by rw[←hid];exact hc y hy s rfl
  rw[hg] at hx
  simp only at hx⊢
  by_cases ca:clean=false
  ·rw[if_pos ca] at hx⊢
   have e:A1P (some s) s'.id B.aH=B.aH:=by unfold A1P;simp[hid]
   simp only[e]
   exact⟨C6K h hm qD hx hw,A2X (f:=fun s=>{s with on:=true,aN:=aN}) (fun _=>rfl) ⟨s',hm,rfl⟩⟩
  ·rw[if_neg ca] at hx⊢
   have bz:s.id≠B.last+1:=by have:=(h.dP s' hm).2;omega
   have e:A1P (some s) (B.last+1) B.aH=A1b s'.id B.aH:=by
    show(if s.id≠B.last+1 then A1b s.id B.aH else B.aH)=_
    rw[if_pos bz,hid]
   simp only[e]
   have er:∀{i},i≠s'.id→(∃s∈B.aD,s.id=i)→∃s∈B.aD.filter (fun x=>decide (x.id≠s'.id)),s.id=i:=fun hi ⟨s1,h1,h2⟩=>⟨s1,E7.2 ⟨h1,by rw[h2];simpa using hi⟩,h2⟩
   have ah:(B.aD.filter fun x=>decide (x.id≠s'.id)).length<B.aD.length:=by
    refine Nat.lt_of_le_of_ne (D1 _ _) fun e=>?_
    have:=N6.1 e s' hm
    simp at this
   refine⟨C47 h I1 (iA _ _) (fun e he=>?_) (fun y hy=>er (qD y hy) (h.cl y hy)) (fun s1 aa e1=>?_) (Nat.lt_of_lt_of_le ah h.n32) hx hw,A2s (B.last+1) aC aN,G5 _ (C0.2 rfl),rfl⟩
   ·obtain⟨h1,h2⟩:=E7.1 he
    exact er (by simpa using h2) (h.live e h1)
   ·obtain⟨h1,h2⟩:=E7.1 aa
    have:=B1y (f:=(·.aC)) h.eA h1 hm (e1.trans ba.symm)
    subst this
    simp at h2
theorem A4N{full:Bool}{c:Int}{p:PkI}{T:U7}:C1I full c p T=A0M (j1 p.aC p.clean (y8 p.props) (A0W full p.aC T).b).1.1 (fun o=>A0g o (A1N p.props)) (A0t ⟨c,A1y (j1 p.aC p.clean (y8 p.props) (A0W full p.aC T).b).1.2,false⟩
  (tB ⟨(j1 p.aC p.clean (y8 p.props) (A0W full p.aC T).b).2.last,(j1 p.aC p.clean (y8 p.props) (A0W full p.aC T).b).2.aD,A1P (ofS p.aC T.b.aD) (j1 p.aC p.clean (y8 p.props) (A0W full p.aC T).b).1.1 (j1 p.aC p.clean (y8 p.props) (A0W full p.aC T).b).2.aH,
   (j1 p.aC p.clean (y8 p.props) (A0W full p.aC T).b).2.kept,(j1 p.aC p.clean (y8 p.props) (A0W full p.aC T).b).2.aB++[⟨c,(j1 p.aC p.clean (y8 p.props) (A0W full p.aC T).b).1.1,p.bE,(p.aX.1,p.aX.2.1,p.aX.2.2.1,p.aX.2.2.2.1,e0S)⟩]⟩ (A0W full p.aC T))):=by
 unfold C1I A0W A1P
 cases ofS p.aC T.b.aD with
 |none=>rfl
 |some s=>simp only;split<;>rfl
variable {h h0:Heap} {L L' L1 L2 L3 R:List Asn} {Q:Value→Heap→Prop}
theorem C6T{γ β:Type}{x y:HM β}{Q':β→Heap→Prop}{P:γ→List Asn}{REST:γ→HM β}(h1:(∀g,W (P g) (REST g) Q')→W L x Q')(h2:(∀g,W (P g) (REST g) Q')→W L y Q')(ht:∀g,W (P g) (REST g) Q'):W L (A0B x y) Q':=A7O (h1 ht) (h2 ht)
theorem B7I{B:Z2}(h:j7 B){z:Y3}{i:Int}(hz:z∈B.aB)(hi:z.aD=i):B.aB.find? (fun x=>decide (x.aD=i))=some z:=by
 cases hg:B.aB.find? (fun x=>decide (x.aD=i)) with
 |none=>exact absurd hi (by simpa using E3.1 hg z hz)
 |some x=>
  have h1:=h.one i
  have m1:x∈B.aB.filter (fun y=>decide (y.aD=i)):=E7.2 ⟨G9 hg,by simpa using L9 hg⟩
  have m2:z∈B.aB.filter (fun y=>decide (y.aD=i)):=E7.2 ⟨hz,by simpa using hi⟩
  generalize B.aB.filter (fun y=>decide (y.aD=i))=k at h1 m1 m2
  match k,h1 with
  |[],_=>cases m1
  |[w],_=>rw[C0.1 m1,C0.1 m2]
theorem B72{B:Z2}{c:B3O}{clean aN:Bool}(hg:Z6 c)(ea:ofS c B.aD=none→B.aD.length<32):
  u7 B.last B.aD c clean aN=((0,(j1 c clean aN B).1.1,(j1 c clean aN B).1.2),(j1 c clean aN B).2.last,(j1 c clean aN B).2.aD)∧(j1 c clean aN B).2.aH=B.aH∧(j1 c clean aN B).2.kept=B.kept∧(j1 c clean aN B).2.aB=B.aB:=by
 unfold u7 j1
 rw[if_neg (fun e=>e hg)]
 cases ho:ofS c B.aD with
 |none=>rw[ho] at ea;simp[Nat.not_le.2 (ea rfl)]
 |some s=>cases clean<;>simp
theorem C0f(l:List o8):decide (0<((A0N 17 l).getD (0,0,e0S,e0S)).2.1)=y8 l:=by
 unfold y8
 cases A0N 17 l<;>rfl
abbrev A0f(p:Pk):Slc:=p.2.2.2.2.2.2.2.2.2.1
theorem C4e{t b n:Nat}{full:Bool}{T:U7}{c:Int}{p:Pk}{pl:List o8}{sl:List A0w}{fl:List B3O}(ht:TP h0)(ag:X3 T.b n)(hn:n≤1000000)(ia:A04 c T.b.aB=none)(bR: -9223372036854775808≤c∧c≤9223372036854775807)(hb:T.outs.length≤10000000)(hp:T.aT.length≤100000000)
  (ba:(p.2.2.2.2.2.2.2.2.2.2.1).size≤9223372036854775807)(ux:(p.2.2.2.2.2.2.2.2.2.2.2.2.2.2.1).size≤9223372036854775807)(fb:pl.length≤1000)
  (hq:At (X5 t b full (A1I full c (pkI p pl sl fl) T)::old h0::L3) (Q (.tuple #[])))(hx:Has L (X5 t b full T) L1:=by repeat first|with_reducible exact U9|apply V1)(hy:Has L1 (old h0) L2:=by repeat first|with_reducible exact U9|apply V1)(hz:Has L2 (U4 W8 4 (A0f p) pl) L3:=by repeat first|with_reducible exact U9|apply V1):
  FW prog 33 #[at0 t,.int .i64 c,A2p .u8 p] L Q:=by
 refine fun h hs=>A5n (some ⟨t,0,none⟩) c p h Q ((?_:W (X5 t b full T::old h0::U4 W8 4 (A0f p) pl::L3) _ _) h ((hx.cV hy hz).s hs))
 clear hs h hx hy hz
 delta A4w ad bn cc ci cp cu cx ie jb jc ji jt kb ki km kp kt nn nw pu rq sn sw ve vi vs vz
 refine Y0 fun x1=>?_
 refine W3 ?_
 refine A6a (fun h R=>l9) fun so sp q=>?_
 refine Y2 (fun h R hs=>B4F (m:=q.cm) (l:=T.b.aB) hs) fun ca=>?_
 refine W.load (v:=some ⟨b,0,none⟩) ?_
 refine W3 ?_
 refine W.load (v:=some ⟨q.tb,0,none⟩) ?_
 refine W.load (v:=p.2.2.2.2.2.2.2.2.2.2.1) ?_
 apply C6T (γ:=Nat) (P:=fun x8=>X5 t b full T::cells x8 (lS9 (A36 ((ofS (p.2.2.2.2.2.2.2.2.2.2.1) T.b.aD).map u5)).1).toArray::cells x1 (aS3 p)::old h0::U4 W8 4 (A0f p) pl::L3)
 case h1=>
  intro tail
  refine Z1 (C2A (b:=q.tb) (A:=T.b.aD) (c:=p.2.2.2.2.2.2.2.2.2.2.1) ag.eA (At.bD (x:=A36 ((ofS (p.2.2.2.2.2.2.2.2.2.2.1) T.b.aD).map u5)) ?_))
  refine Y0 fun x8=>?_
  refine W.load (v:=p.2.2.2.2.2.2.2.2.2.2.1) ?_
  refine A06 ?_ rfl
  refine W.load (v:=some ⟨q.tb,0,none⟩) ?_
  refine A06 ?_ rfl
  refine W.load (v:=some ⟨b,0,none⟩) ?_
  refine A06 ?_ rfl
  refine A0a ?_
  refine W.bG T so sp q ?_
  exact(tail x8).sub
 case h2=>
  intro tail
  refine Y0 fun x8=>?_
  refine W.load (v:=p.2.2.2.2.2.2.2.2.2.2.1) ?_
  refine A06 ?_ rfl
  refine W.load (v:=some ⟨q.tb,0,none⟩) ?_
  refine A06 ?_ rfl
  refine W.load (v:=some ⟨b,0,none⟩) ?_
  refine A06 ?_ rfl
  refine Z1 (C2A (b:=q.tb) (A:=T.b.aD) (c:=p.2.2.2.2.2.2.2.2.2.2.1) ag.eA (At.bD (x:=A36 ((ofS (p.2.2.2.2.2.2.2.2.2.2.1) T.b.aD).map u5)) ?_))
  refine A0a ?_
  refine W.bG T so sp q ?_
  exact(tail x8).sub
 case ht=>
  intro x8
  refine b6 (C4L (fun b2=>At.un (x:=some ⟨b2,0,none⟩) ?_))
  refine W.load (v:=p.2.2.2.2.2.2.2.2.2.2.1) ?_
  refine Z1 (B9A (b:=b2) (last:=0) (A:=[]) (c:=p.2.2.2.2.2.2.2.2.2.2.1) (clean:=false) (aN:=false) ht.u8 ba (S5 _) (by decide) (by simp) (by simp) (At.bD (x:=((u7 0 [] (p.2.2.2.2.2.2.2.2.2.2.1) false false).1.2.1,(u7 0 [] (p.2.2.2.2.2.2.2.2.2.2.1) false false).1.2.2,(u7 0 [] (p.2.2.2.2.2.2.2.2.2.2.1) false false).1.1,())) ?_))
  have j':(u7 0 [] (p.2.2.2.2.2.2.2.2.2.2.1) false false).1.1=if Z6 (p.2.2.2.2.2.2.2.2.2.2.1) then 0 else 133:=by
   unfold u7
   by_cases hg:Z6 (p.2.2.2.2.2.2.2.2.2.2.1)
   ·simp[hg,ofS]
   ·simp[hg]
  generalize(u7 0 [] (p.2.2.2.2.2.2.2.2.2.2.1) false false).1.1=code0 at j'⊢
  refine A07 (fun r=>r.1=(p.2.2.2.2.2.2.2.2.2.2.2.2.2.1&& !Y8 (p.2.2.2.2.2.2.2.2.2.2.2.2.2.2.1))) (fun K hK=>?_) (fun r hr=>?_)
  ·refine W.load (v:=p.2.2.2.2.2.2.2.2.2.2.2.2.2.1) ?_
   refine A0e (fun h3=>?_) (fun h3=>?_)
   ·refine i7 (b:=x1) (i:=14) (v:=p.2.2.2.2.2.2.2.2.2.2.2.2.2.2.1) ?_
    refine b6 (A8Q ht ux (At.un ?_))
    refine U1 (At.sub (hK _ ?_))
    simp only[h3,G2]
    unfold A2t
    cases Y8 (p.2.2.2.2.2.2.2.2.2.2.2.2.2.2.1)<;>rfl
   ·refine U1 (hK _ ?_)
    simp[h3]
  obtain⟨r,_⟩:=r
  simp only at hr
  subst hr
  refine A07 (fun r=>r.1=A59 (pkI p pl sl fl) T.b) (fun K hK=>?_) (fun r hr=>?_)
  ·refine A0e (fun h1=>U1 (hK _ ?_)) (fun h1=>?_)
   ·unfold A59
    rw[if_pos (by simpa using h1)]
   have fy:=fun a e=>hK a e
   unfold A59 at fy
   rw[if_neg (by simpa using h1)] at fy
   refine W3 ?_
   refine A6a (fun h R=>l9) fun gb iv q2=>?_
   refine W.load (v:=some ⟨b,0,none⟩) ?_
   refine W3 ?_
   refine W.load (v:=some q2.cm) ?_
   refine C8b (r:=q2.cm) (l:=T.b.aB.map z7) ?_
   refine C8c (fun h2=>?_) (fun h2=>?_)
   ·rw[if_pos (by simp only[B9,decide_eq_true_eq] at h2;omega)] at fy
    refine b7 (U1 ?_)
    refine At.bG T gb iv q2 ?_
    exact(fy (151,()) rfl).sub
   ·rw[if_neg (by simp only[B9,decide_eq_false_iff_not] at h2;omega)] at fy
    refine X2 ?_
    refine C8c (fun h4=>?_) (fun h4=>?_)
    ·have hg:¬Z6 (p.2.2.2.2.2.2.2.2.2.2.1):=fun hg=>by rw[j',if_pos hg] at h4;exact absurd h4 (by decide)
     rw[if_pos hg] at fy
     refine b7 (b7 (U1 ?_))
     refine At.bG T gb iv q2 ?_
     exact(fy (code0,()) (by rw[j',if_neg hg])).sub
    ·have hg:Z6 (p.2.2.2.2.2.2.2.2.2.2.1):=O2 fun hg=>by rw[j',if_neg hg] at h4;exact absurd h4 (by decide)
     rw[if_neg (fun e=>e hg)] at fy
     refine X2 ?_
     cases ho:ofS (p.2.2.2.2.2.2.2.2.2.2.1) T.b.aD with
     |some s=>
      rw[if_neg (by simp[ho])] at fy
      refine l7 rfl (b7 ?_)
      refine l7 rfl ?_
      refine b7 (b7 (b7 (U1 ?_)))
      refine At.bG T gb iv q2 ?_
      rw[ho] at fy
      exact(fy (0,()) rfl).sub
     |none=>
      refine A1d rfl ?_
      refine X2 (W3 ?_)
      refine X2 (W.load (v:=some ⟨b,0,none⟩) ?_)
      refine X2 (W3 ?_)
      refine X2 (W.load (v:=some ⟨q2.tb,0,none⟩) ?_)
      refine X2 (b6 (C2z (b:=q2.tb) (A:=T.b.aD) (by have:=ag.cK;omega) (fun s hs=>⟨by have:=(ag.dP s hs).1;omega,(ag.dP s hs).2⟩) ag.n32 ag.dE (fun S=>At.un (x:=S) ?_)))
      refine Y2 (X1 (enc:=B4p) (size:=4) (s:=S) (xs:=T.b.aD.map u5)) fun hl=>?_
      rw[B9] at hl
      refine b7 ?_
      rw[ho] at fy
      by_cases ea:32≤T.b.aD.length
      ·rw[if_pos ⟨rfl,ea⟩] at fy
       refine A1d (by rw[hl];exact decide_eq_true (by omega)) ?_
       refine b7 (b7 (b7 (U1 ?_)))
       refine At.bG T gb iv q2 ?_
       exact(fy (151,()) rfl).sub
      ·rw[if_neg (fun e=>ea e.2)] at fy
       refine l7 (by rw[hl];exact decide_eq_false (by omega)) ?_
       refine b7 (b7 (b7 (U1 ?_)))
       refine At.bG T gb iv q2 ?_
       exact(fy (0,()) rfl).sub
  obtain⟨code,_⟩:=r
  simp only at hr
  unfold A1I at hq
  by_cases av:code=0
  ·refine W6 (by simp[av]) ?_
   rw[if_neg (by rw[←hr];simpa using av)] at hq
   obtain⟨T1,bF⟩:∃T1,T1=A0W full (p.2.2.2.2.2.2.2.2.2.2.1) T:=⟨_,rfl⟩
   refine A07 (fun r=>r.1=match ofS (p.2.2.2.2.2.2.2.2.2.2.1) T.b.aD with|some s=>s.on|none=>false) (fun K hK=>?_) (fun r cI=>?_)
   ·cases ho:ofS (p.2.2.2.2.2.2.2.2.2.2.1) T.b.aD with
    |none=>rw[ho] at hK;exact W6 rfl (U1 (hK _ rfl))
    |some s=>rw[ho] at hK;exact X7 rfl (W.load (v:=s.on) (U1 (hK _ rfl)))
   obtain⟨r,_⟩:=r
   simp only at cI
   refine W.cut (fun _=>X5 t b full T1::cells x8 (lS9 (A36 ((ofS (p.2.2.2.2.2.2.2.2.2.2.1) T.b.aD).map u5)).1).toArray::cells x1 (aS3 p)::old h0::U4 W8 4 (A0f p) pl::L3) (fun K hK=>?_) (fun _=>?_)
   ·clear hq
    unfold A0W at bF
    cases ho:ofS (p.2.2.2.2.2.2.2.2.2.2.1) T.b.aD with
    |none=>
     rw[ho] at bF cI hK
     simp only at bF cI
     subst bF cI
     exact W6 rfl (U1 (hK ()).sub)
    |some s=>
     rw[ho] at bF cI hK
     simp only at bF cI
     subst cI
     by_cases aP:s.on=true
     ·refine X7 aP ?_
      refine W3 ?_
      refine A6a (fun h R=>l9) fun fA fz q3=>?_
      refine W.load (v:=some ⟨b,0,none⟩) ?_
      refine W3 ?_
      refine W.load (v:=some q3.cm) ?_
      refine W.range fun it=>?_
      refine C6P (ek:=eKI) (ev:=eVC) (r:=q3.cm) (l:=T.b.aB.map z7) (fun done _=>done.filter (fun x=>decide (x.2.1=s.id))=[])
       (fun done _=>[cells t #[at0 b,.bool full,.slice fA.a fA.len fA.cap,.slice fz.a fz.len fz.cap],V8 .u8 fA T.outs,U4 Z4 5 fz T.aT,cells b (A7K q3),A1e q3.tb T.b.last T.b.aD,l4 q3.sb T.b.aH,A1l q3.kb T.b.kept,
        cells x8 (lS9 (A36 ((some s).map u5)).1).toArray,cells x1 (aS3 p),old h0,U4 W8 4 (A0f p) pl]++L3) rfl ?_ (fun done s' hd sX K' hk=>?_) (fun done y rest s' hd sX K' bp hk=>?_)
      ·show Sub _ (itA eKI eVC q3.cm (T.b.aB.map z7) it [] (T.b.aB.map z7)::cells t #[at0 b,.bool full,.slice fA.a fA.len fA.cap,.slice fz.a fz.len fz.cap]::V8 .u8 fA T.outs::U4 Z4 5 fz T.aT::cells b (A7K q3)::A1e q3.tb T.b.last T.b.aD::l4 q3.sb T.b.aH::A1l q3.kb T.b.kept::cells x8 (lS9 (A36 ((some s).map u5)).1).toArray::cells x1 (aS3 p)::old h0::U4 W8 4 (A0f p) pl::L3)
       repeat(first|with_reducible exact T5|with_reducible exact T6|refine T7 (by repeat first|with_reducible exact U9|apply V1) ?_|refine T8 ?_)
      ·have ax:T.b.aB.find? (fun x=>decide (x.aD=s.id))=none:=E3.2 fun x hx=>by
        have hm:z7 x∈done:=hd.mem_iff.2 (B3 hx)
        have:=I6.1 sX _ hm
        simpa using this
       have e:T1=T:=by rw[bF];unfold A3e;rw[ax]
       subst e
       refine W6 rfl (U1 (hk () _ (U1 ?_)))
       show At (mapA eKI eVC q3.cm (T1.b.aB.map z7)::cells t #[at0 b,.bool full,.slice fA.a fA.len fA.cap,.slice fz.a fz.len fz.cap]::V8 .u8 fA T1.outs::U4 Z4 5 fz T1.aT::cells b (A7K q3)::A1e q3.tb T1.b.last T1.b.aD::l4 q3.sb T1.b.aH::A1l q3.kb T1.b.kept::_::cells x1 (aS3 p)::old h0::U4 W8 4 (A0f p) pl::L3) _
       refine At.bG T1 fA fz q3 ?_
       exact(hK ()).sub
      ·show W (itA eKI eVC q3.cm (T.b.aB.map z7) it (done++[y]) rest::cells t #[at0 b,.bool full,.slice fA.a fA.len fA.cap,.slice fz.a fz.len fz.cap]::V8 .u8 fA T.outs::U4 Z4 5 fz T.aT::cells b (A7K q3)::A1e q3.tb T.b.last T.b.aD::l4 q3.sb T.b.aH::A1l q3.kb T.b.kept::cells x8 (lS9 (A36 ((some s).map u5)).1).toArray::cells x1 (aS3 p)::old h0::U4 W8 4 (A0f p) pl::L3) _ _
       refine X7 rfl ?_
       refine W.entry (x:=y.1) (y:=y.2) ?_
       refine Y0 fun lk=>?_
       refine A0a ?_
       refine W.load (b:=lk) (v:=y.2.1) ?_
       refine W.load (b:=x8) (v:=s.id) ?_
       by_cases hy:y.2.1=s.id
       ·refine X7 (by simpa using hy) ?_
        have wv:y∈T.b.aB.map z7:=hd.mem_iff.1 (G5 _ (B5 ..))
        obtain⟨z,hz,rfl⟩:=E4.1 wv
        have e:T1=A0q full z.c 142 T:=by rw[bF];unfold A3e;rw[B7I ag.toj7 hz hy]
        subst e
        refine B9j (A:=itA eKI eVC q3.cm (T.b.aB.map z7) it (done++[z7 z]) rest) (B:=mapA eKI eVC q3.cm (T.b.aB.map z7)) (fun h R hs=>A89 hs) ?_
        refine W.bG T fA fz q3 ?_
        refine Z1 (A8t (T:=T) (c:=z.c) (code:=142) ht ag.toj7 (by omega) (by omega) (At.bD ?_))
        exact U1 (hk () _ (U1 (hK ()).sub))
       ·refine W6 (by simpa using hy) ?_
        have kO:=bp () (by rw[E9,sX,F8 (by simpa using hy)];rfl)
        refine U1 (At.sub kO ?_)
        show Sub _ (itA eKI eVC q3.cm (T.b.aB.map z7) it (done++[y]) rest::cells t #[at0 b,.bool full,.slice fA.a fA.len fA.cap,.slice fz.a fz.len fz.cap]::V8 .u8 fA T.outs::U4 Z4 5 fz T.aT::cells b (A7K q3)::A1e q3.tb T.b.last T.b.aD::l4 q3.sb T.b.aH::A1l q3.kb T.b.kept::cells x8 (lS9 (A36 ((some s).map u5)).1).toArray::cells x1 (aS3 p)::old h0::U4 W8 4 (A0f p) pl::L3)
        repeat(first|with_reducible exact T5|with_reducible exact T6|refine T7 (by repeat first|with_reducible exact U9|apply V1) ?_|refine T8 ?_)
     ·have e:T1=T:=by
       rw[bF];unfold A3e
       rw[E3.2 fun x hx=>?_]
       intro eE
       have eE:x.aD=s.id:=by simpa using eE
       exact aP (ag.dS x hx s (B1v ho).1 eE.symm)
      subst e
      exact W6 (by simpa using aP) (U1 (hK ()).sub)
   have gq:Z6 (p.2.2.2.2.2.2.2.2.2.2.1)∧(ofS (p.2.2.2.2.2.2.2.2.2.2.1) T.b.aD=none→T.b.aD.length<32):=by
    rw[av] at hr
    unfold A59 at hr
    simp only at hr
    split at hr
    ·cases hr
    ·split at hr
     ·cases hr
     ·split at hr
      ·cases hr
      ·rename_i hg
       split at hr
       ·cases hr
       ·rename_i ea
        refine⟨O2 hg,fun ho=>?_⟩
        exact Nat.lt_of_not_le fun h=>ea ⟨ho,h⟩
   obtain⟨ef,gm,oH,iO,je,jW⟩:=B1I (full:=full) (c:=p.2.2.2.2.2.2.2.2.2.2.1) ag ca gq.2
   rw[←bF] at ef gm oH iO je jW
   refine W.load (v:=A0f p) ?_
   refine Z1 (C5u (S:=A0f p) (pl:=pl) (id:=17) fb (At.bD (x:=(prU ((A0N 17 pl).getD (0,0,e0S,e0S)),(A0N 17 pl).isSome,())) ?_))
   refine Y0 fun gr=>?_
   refine A0a ?_
   refine W3 ?_
   refine A6a (fun h R=>l9) fun sg se q4=>?_
   refine W.load (v:=some ⟨b,0,none⟩) ?_
   refine W3 ?_
   refine W.load (v:=some ⟨q4.tb,0,none⟩) ?_
   refine W.load (v:=p.2.2.2.2.2.2.2.2.2.2.1) ?_
   refine W.load (v:=p.2.2.2.2.2.2.2.2.2.2.2.1) ?_
   refine W.load (v:=((A0N 17 pl).getD (0,0,e0S,e0S)).2.1) ?_
   rw[C0f]
   obtain⟨nV,kY,kZ,la⟩:=B72 (B:=T1.b) (clean:=p.2.2.2.2.2.2.2.2.2.2.2.1) (aN:=y8 pl) gq.1 je
   refine Z1 (B9A (b:=q4.tb) (last:=T1.b.last) (A:=T1.b.aD) (c:=p.2.2.2.2.2.2.2.2.2.2.1) (clean:=p.2.2.2.2.2.2.2.2.2.2.2.1) (aN:=y8 pl) ht.u8 ba ef.cY (by have:=ef.cK;omega) (fun s hs=>(ef.dP s hs).2) ef.eA (At.bD (x:=((u7 T1.b.last T1.b.aD (p.2.2.2.2.2.2.2.2.2.2.1) (p.2.2.2.2.2.2.2.2.2.2.2.1) (y8 pl)).1.2.1,(u7 T1.b.last T1.b.aD (p.2.2.2.2.2.2.2.2.2.2.1) (p.2.2.2.2.2.2.2.2.2.2.2.1) (y8 pl)).1.2.2,(u7 T1.b.last T1.b.aD (p.2.2.2.2.2.2.2.2.2.2.1) (p.2.2.2.2.2.2.2.2.2.2.2.1) (y8 pl)).1.1,())) ?_))
   have qa:A04 c T1.b.aB=none:=E3.2 fun y hy=>by
    have:=E3.1 ia y (iO y hy).1
    exact this
   obtain⟨bO,s5,ai,gn⟩:=B6z (B:=T1.b) (o:=ofS (p.2.2.2.2.2.2.2.2.2.2.1) T.b.aD) (aC:=p.2.2.2.2.2.2.2.2.2.2.1) (clean:=p.2.2.2.2.2.2.2.2.2.2.2.1) (aN:=y8 pl) (x:=⟨c,(j1 (p.2.2.2.2.2.2.2.2.2.2.1) (p.2.2.2.2.2.2.2.2.2.2.2.1) (y8 pl) T1.b).1.1,p.2.2.2.2.2.2.2.2.2.2.2.2.2.1,(p.2.2.2.2.2.2.2.2.2.2.2.2.2.2.1,p.2.2.2.2.2.2.2.2.2.2.2.2.2.2.2.1,p.2.2.2.2.2.2.2.2.2.2.2.2.2.2.2.2.1,p.2.2.2.2.2.2.2.2.2.2.2.2.2.2.2.2.2.1,e0S)⟩) ef jW (fun y hy s hs=>(iO y hy).2 s hs) je rfl ⟨ux,bR⟩
   rw[A4N] at hq
   dsimp only at hq
   rw[←bF,kY,kZ,la] at hq
   clear bF hr av cI iO je jW gq kY kZ la ia
   generalize j1 (p.2.2.2.2.2.2.2.2.2.2.1) (p.2.2.2.2.2.2.2.2.2.2.2.1) (y8 pl) T1.b=r at hq nV bO ai gn⊢
   rw[nV]
   clear nV
   dsimp only
   refine A07 (fun a=>a.1=match ofS (p.2.2.2.2.2.2.2.2.2.2.1) T.b.aD with|some s=>decide (s.id≠r.1.1)|none=>false) (fun K hK=>?_) (fun a ha=>?_)
   ·cases ho:ofS (p.2.2.2.2.2.2.2.2.2.2.1) T.b.aD with
    |none=>rw[ho] at hK;exact W6 rfl (U1 (hK _ rfl))
    |some s=>
     rw[ho] at hK
     refine X7 rfl (W.load (v:=s.id) (U1 (hK _ ?_)))
     by_cases e:s.id=r.1.1
     ·simp[e]
     ·have e2:r.1.1≠s.id:=fun e'=>e e'.symm
      simp[e,e2]
   obtain⟨a,_⟩:=a
   simp only at ha
   refine W.cut (fun _=>X5 t b full (tB ⟨r.2.last,r.2.aD,A1P (ofS (p.2.2.2.2.2.2.2.2.2.2.1) T.b.aD) r.1.1 T1.b.aH,T1.b.kept,T1.b.aB⟩ T1)::cells x1 (aS3 p)::old h0::U4 W8 4 (A0f p) pl::L3) (fun K hK=>?_) (fun _=>?_)
   ·clear hq bO
    cases ho:ofS (p.2.2.2.2.2.2.2.2.2.2.1) T.b.aD with
    |none=>
     rw[ho] at ha hK
     have e2:A1P none r.1.1 T1.b.aH=T1.b.aH:=rfl
     rw[e2] at hK
     refine W6 ha (U1 ?_)
     refine At.bG (tB ⟨r.2.last,r.2.aD,T1.b.aH,T1.b.kept,T1.b.aB⟩ T1) sg se q4 ?_
     exact(hK ()).sub
    |some s=>
     rw[ho] at ha hK
     by_cases e:s.id=r.1.1
     ·have e2:A1P (some s) r.1.1 T1.b.aH=T1.b.aH:=by unfold A1P;simp[e]
      rw[e2] at hK
      refine W6 (by rw[ha];simp[e]) (U1 ?_)
      refine At.bG (tB ⟨r.2.last,r.2.aD,T1.b.aH,T1.b.kept,T1.b.aB⟩ T1) sg se q4 ?_
      exact(hK ()).sub
     ·have e2:A1P (some s) r.1.1 T1.b.aH=A1b s.id T1.b.aH:=by unfold A1P;simp[e]
      rw[e2] at hK
      refine X7 (by rw[ha];simp[e]) ?_
      refine W3 ?_
      refine W.load (v:=some ⟨b,0,none⟩) ?_
      refine W3 ?_
      refine W.load ?_
      refine W.load (v:=s.id) ?_
      refine b6 (B9q (t:=q4.sb) (E:=T1.b.aH) (id:=s.id) ht ef.aH (At.un (U1 ?_)))
      refine At.bG (tB ⟨r.2.last,r.2.aD,A1b s.id T1.b.aH,T1.b.kept,T1.b.aB⟩ T1) sg se q4 ?_
      exact(hK ()).sub
   clear ha
   generalize A1P (ofS (p.2.2.2.2.2.2.2.2.2.2.1) T.b.aD) r.1.1 T1.b.aH=E5 at hq bO⊢
   refine W3 ?_
   refine A6a (fun h R=>l9) fun wg wc q5=>?_
   refine W.load (v:=some ⟨b,0,none⟩) ?_
   refine W3 ?_
   refine W.load (v:=some q5.cm) ?_
   refine W.load (v:=p.2.2.2.2.2.2.2.2.2.2.2.2.2.1) ?_
   refine i7 (b:=x1) (i:=14) (v:=p.2.2.2.2.2.2.2.2.2.2.2.2.2.2.1) ?_
   refine i7 (b:=x1) (i:=15) (v:=p.2.2.2.2.2.2.2.2.2.2.2.2.2.2.2.1) ?_
   refine i7 (b:=x1) (i:=16) (v:=p.2.2.2.2.2.2.2.2.2.2.2.2.2.2.2.2.1) ?_
   refine i7 (b:=x1) (i:=17) (v:=p.2.2.2.2.2.2.2.2.2.2.2.2.2.2.2.2.2.1) ?_
   refine W.mset (ek:=eKI) (ev:=eVC) (l:=T1.b.aB.map z7) kKI (fun a b h=>by cases h;rfl) c (B71 ⟨c,r.1.1,p.2.2.2.2.2.2.2.2.2.2.2.2.2.1,(p.2.2.2.2.2.2.2.2.2.2.2.2.2.2.1,p.2.2.2.2.2.2.2.2.2.2.2.2.2.2.2.1,p.2.2.2.2.2.2.2.2.2.2.2.2.2.2.2.2.1,p.2.2.2.2.2.2.2.2.2.2.2.2.2.2.2.2.2.1,e0S)⟩) ?_
   rw[A3F _ _ _ (by rw[A3H,qa];rfl),show T1.b.aB.map z7++[(c,B71 (⟨c,r.1.1,p.2.2.2.2.2.2.2.2.2.2.2.2.2.1,(p.2.2.2.2.2.2.2.2.2.2.2.2.2.2.1,p.2.2.2.2.2.2.2.2.2.2.2.2.2.2.2.1,p.2.2.2.2.2.2.2.2.2.2.2.2.2.2.2.2.1,p.2.2.2.2.2.2.2.2.2.2.2.2.2.2.2.2.2.1,e0S)⟩:Y3))]=(T1.b.aB++[(⟨c,r.1.1,p.2.2.2.2.2.2.2.2.2.2.2.2.2.1,(p.2.2.2.2.2.2.2.2.2.2.2.2.2.2.1,p.2.2.2.2.2.2.2.2.2.2.2.2.2.2.2.1,p.2.2.2.2.2.2.2.2.2.2.2.2.2.2.2.2.1,p.2.2.2.2.2.2.2.2.2.2.2.2.2.2.2.2.2.1,e0S)⟩:Y3)]).map z7 from by rw[B8];rfl]
   generalize T1.b.aB++[(⟨c,r.1.1,p.2.2.2.2.2.2.2.2.2.2.2.2.2.1,(p.2.2.2.2.2.2.2.2.2.2.2.2.2.2.1,p.2.2.2.2.2.2.2.2.2.2.2.2.2.2.2.1,p.2.2.2.2.2.2.2.2.2.2.2.2.2.2.2.2.1,p.2.2.2.2.2.2.2.2.2.2.2.2.2.2.2.2.2.1,e0S)⟩:Y3)]=C5 at hq bO⊢
   refine W.bG (tB ⟨r.2.last,r.2.aD,E5,T1.b.kept,C5⟩ T1) wg wc q5 ?_
   refine B66 (k:=.u8) (A1y r.1.2) rfl rfl ?_
   refine Z1 (B8o (T:=tB ⟨r.2.last,r.2.aD,E5,T1.b.kept,C5⟩ T1) (c:=c) (o:=A1y r.1.2) (ci:=⟨none,0,0⟩) (pi:=⟨none,0,0⟩) (by show T1.outs.length≤_;omega) (At.bD ?_))
   have qM:A0t ⟨c,A1y r.1.2,false⟩ (tB ⟨r.2.last,r.2.aD,E5,T1.b.kept,C5⟩ T1)=(⟨⟨r.2.last,r.2.aD,E5,T1.b.kept,C5⟩,T1.outs++[⟨c,A1y r.1.2,false⟩],T1.aT⟩:U7):=rfl
   rw[qM] at hq
   show W (X5 t b full ⟨⟨r.2.last,r.2.aD,E5,T1.b.kept,C5⟩,T1.outs++[⟨c,A1y r.1.2,false⟩],T1.aT⟩::_) _ _
   have hO:(T1.outs++[(⟨c,A1y r.1.2,false⟩:j5)]).length≤13300002:=by rw[B4];simp only[B7,G8];omega
   generalize T1.outs++[(⟨c,A1y r.1.2,false⟩:j5)]=O5 at hq hO⊢
   clear qM
   unfold A0M at hq
   simp only[A3i bO.nd ai gn] at hq
   refine W.load (v:=A0f p) ?_
   refine Z1 (C5u (S:=A0f p) (pl:=pl) (id:=33) fb (At.bD (x:=(prU ((A0N 33 pl).getD (0,0,e0S,e0S)),(A0N 33 pl).isSome,())) ?_))
   refine Y0 fun lh=>?_
   refine A0a ?_
   refine C8d (X:=o8) (fun z _=>z.2.1=A1N pl) (fun z _=>X5 t b full ⟨⟨r.2.last,r.2.aD,E5,T1.b.kept,C5⟩,O5,T1.aT⟩::cells lh (W8 z).toArray::old h0::L3) (fun K hK=>?_) (fun z _ hz=>?_)
   ·unfold A1N at hK
    clear hq
    cases hf:A0N 33 pl with
    |none=>
     rw[hf] at hK
     refine X7 rfl ?_
     refine W.store (cs':=(W8 (0,64,e0S,e0S)).toArray) ?_
     exact U1 (hK (0,64,e0S,e0S) _ rfl).sub
    |some z=>
     rw[hf] at hK
     refine W6 rfl ?_
     refine W.cells (b:=lh) (W8 z).toArray ?_
     exact U1 (hK z _ rfl).sub
   obtain⟨z1,z2,z3,z4⟩:=z
   simp only at hz
   subst hz
   refine W3 ?_
   refine A6a (fun h R=>l9) fun we wb q6=>?_
   refine W.load (v:=some ⟨b,0,none⟩) ?_
   refine W3 ?_
   refine W.load (v:=some ⟨q6.tb,0,none⟩) ?_
   refine W.load (v:=A1N pl) ?_
   refine A8U (fun h R=>A6j ai h R) fun ob ib=>?_
   refine b6 (B3f gn (At.un ?_))
   refine W.load (v:=A1N pl) ?_
   refine A06 ?_ rfl
   have cX:=B3b (bO.bM s5 ai) (A1N pl)
   refine b6 (C45 (b:=ob) (o:=s5.out) (most:=A1N pl) (bO.bM s5 ai) (fun S2=>At.un (x:=S2) ?_))
   refine B2b (A:=A1e q6.tb r.2.last (X8 r.1.1 (Y6 (A0g s5.out (A1N pl)).1) r.2.aD)) (fun h hs=>A6i bO.nd ai gn h hs) ?_
   refine W.bG (A0C (X8 r.1.1 (Y6 (A0g s5.out (A1N pl)).1) r.2.aD) ⟨⟨r.2.last,r.2.aD,E5,T1.b.kept,C5⟩,O5,T1.aT⟩) we wb q6 ?_
   refine Z1 (A3A (T:=A0C (X8 r.1.1 (Y6 (A0g s5.out (A1N pl)).1) r.2.aD) ⟨⟨r.2.last,r.2.aD,E5,T1.b.kept,C5⟩,O5,T1.aT⟩) (id:=r.1.1) (ps:=(A0g s5.out (A1N pl)).2) (bO.one r.1.1) (by have:=cX.2;show O5.length+_≤_;omega) (At.bD ?_))
   exact U1 hq.sub
  ·refine X7 (by simp[av]) ?_
   rw[if_pos (by rw[←hr];exact av),←hr] at hq
   refine B66 (k:=.u8) (Z7 2 0 code) rfl rfl ?_
   refine Z1 (B9g (T:=T) (c:=c) (o:=Z7 2 0 code) (ci:=⟨none,0,0⟩) (pi:=⟨none,0,0⟩) (by omega) (At.bD ?_))
   exact U1 hq.sub
end
section
open Go.H Go.Proofs
structure Step(T T':U7)(n m:Nat):Prop where
 ok:X3 T'.b n
 outs:T'.outs.length≤T.outs.length+m
 aT:T'.aT.length≤T.aT.length+m
theorem Step.trans{T T' T'':U7}{n n' m m':Nat}(h:Step T T' n m)(h':Step T' T'' n' m'):Step T T'' n' (m+m'):=⟨h'.ok,by have:=h.outs;have:=h'.outs;omega,by have:=h.aT;have:=h'.aT;omega⟩
theorem Step.mono{T T':U7}{n m m':Nat}(h:Step T T' n m)(hm:m≤m'):Step T T' n m':=⟨h.ok,by have:=h.outs;omega,by have:=h.aT;omega⟩
theorem Step.refl{T:U7}{n:Nat}(h:X3 T.b n):Step T T n 0:=⟨h,D6 _,D6 _⟩
theorem A0v.step{T T':U7}{n m:Nat}(h:X3 T.b n)(hb:A0v T T' m)(hk:T'.b.aD.map A2n=T.b.aD.map A2n):Step T T' n m:=⟨h.sub hb.ok hb.last (by rw[hk];exact G3 _) (by rw[hb.aH];exact G3 _),hb.outs,hb.aT⟩
theorem X3.mono{B:Z2}{n n':Nat}(h:X3 B n)(hn:n≤n'):X3 B n':={h with cK:=by have:=h.cK;omega}
theorem step_end{full:Bool}{c:Int}{w:Bool}{T:U7}{n:Nat}(h:X3 T.b n):Step T (A4n full c w T) n 3200000:=
 let r:=B84 (full:=full) (c:=c) (w:=w) h.toj7
 ⟨h.sub r.1 r.2.2.2.2 B5W B21,r.2.1,r.2.2.1⟩
theorem A5r{full:Bool}{c code:Int}{T:U7}{n:Nat}(h:X3 T.b n):Step T (A0q full c code T) n 3200001:=
 let r:=B0f (full:=full) (c:=c) (code:=code) h.toj7
 ⟨h.sub r.1 r.2.2.2.2 (B5W (T:=A0t ⟨c,Z7 14 0 code,true⟩ T)) (B21 (T:=A0t ⟨c,Z7 14 0 code,true⟩ T)),r.2.1,r.2.2.1⟩
theorem A6k{o:j5}{T:U7}{n:Nat}(h:X3 T.b n):Step T (A0t o T) n 1:=⟨h,by show(T.outs++[o]).length≤_;rw[B4];exact D6 _,J8 _ _⟩
theorem B8d{id:Int}{ps:List PkO}{T:U7}{n m:Nat}(h:X3 T.b n)(hm:ps.length≤m):Step T (q7 id ps T) n m:=⟨h,by show(T.outs++A1w T.b.aB id ps).length≤_;rw[B4];have:=A8X ps (h.one id);omega,J8 _ _⟩
theorem C3o{m:MsT}{T:U7}{n:Nat}(h:X3 T.b n):Step T (A0A m T) n 3200000:=(B5J (m:=m) h.toj7).step h B2W
theorem B8e{m:MsT}{T:U7}{n:Nat}(h:X3 T.b n):Step T (A3Z m T) n 3200000:=(A8u (m:=m) h.toj7).step h B2W
theorem C4D{k:Int}{i:r8}{T:U7}{n:Nat}(h:X3 T.b n):Step T (A0C (X8 k (j3 i) T.b.aD) T) n 0:=
 ⟨h.sub h.toj7.fE rfl (by
  show((X8 k (j3 i) T.b.aD).map A2n).Sublist _
  rw[B0V (f:=j3 i) fun _=>rfl];exact G3 _) (G3 _),D6 _,D6 _⟩
theorem B9w{id:Int}{f:Z8→Z8×List PkO}{T:U7}{n:Nat}(h:X3 T.b n)(hf:∀o,W9 o→W9 (f o).1∧(f o).2.length≤320):Step T (A0M id f T) n 320:=(B5l (id:=id) h.toj7 hf).step h B2I
theorem step_take{full:Bool}{x:Y3}{p:PkI}{T:U7}{n:Nat}(h:X3 T.b n):Step T (A6h full x p T) n 3200002:=by
 unfold A6h
 split
 ·exact(A5r h).mono (by omega)
 ·split
  ·exact(Step.refl h).mono (by omega)
  ·rename_i s hs
   simp only
   generalize k9 s.aZ p.kind p.eP p.id (if full=true then 151 else 0)=r
   have h1:=C4D (k:=x.aD) (i:=⟨s.aZ.most,s.aZ.taken,r.2.2.2⟩) h
   split
   ·exact Step.mono (m':=3200002) (h1.trans (A5r h1.ok)) (by omega)
   ·have ke:(A3P r.2.1 p.id).length≤1:=by unfold A3P;split<;>simp
    have h2:=h1.trans (B8d (id:=x.aD) (ps:=A3P r.2.1 p.id) h1.ok ke)
    split
    ·exact Step.mono (m':=3200002) (h2.trans (B8e h2.ok)) (by omega)
    ·exact Step.mono (m':=3200002) h2 (by omega)
theorem B9x{full:Bool}{x:Y3}{p:PkI}{T:U7}{n:Nat}(h:X3 T.b n):Step T (A3V full x p T) n 3200002:=by
 unfold A3V
 split
 ·exact(Step.refl h).mono (by omega)
 ·split
  ·exact(A5r h).mono (by omega)
  ·exact(B9w h fun o ho=>⟨(B4G ho _ _ _).1,by have:=(B4G ho p.kind p.id p.code).2;omega⟩).mono (by omega)
theorem C5T{E:List Ent}{id q:Int}{f:B3O}(h:∀i,A02 E i≤64)(i:Int):A02 (A2G E id f q).2 i≤64:=by
 unfold A2G
 split
 ·exact h i
 ·split
  ·exact h i
  ·split
   ·rename_i j hj
    have qh:=J0.1 hj
    obtain⟨ah,hp,_⟩:=qh
    have hk:b8 E[j]=(id,f):=by simpa using hp
    have ef:E[j].1=id:=congrArg Prod.fst hk
    have e:(E.set j (id,f,q)).map (·.1)=E.map (·.1):=by
     rw[List.map_set]
     refine List.ext_getElem? fun k=>?_
     rw[List.getElem?_set]
     split
     ·rename_i xf
      subst xf
      rw[if_pos (by simpa using ah),K6,B0 ah,R5,ef]
     ·rfl
    unfold A02
    simp only[e]
    exact h i
   ·split
    ·exact h i
    ·rename_i ah
     have hp:=((A1J ltK b8 (id,f,q) E).map (·.1)).count_eq i
     unfold A02 at h ah⊢
     rw[hp,B6,List.count_cons]
     by_cases e:id=i
     ·subst e
      simp only[beq_self_eq_true,if_true]
      omega
     ·rw[if_neg (by simpa using e)]
      exact h i
theorem B6F{id:Int}:∀(l:List A0w) {E:List Ent},(∀i,A02 E i≤64)→∀i,A02 (j8 id l E).1 i≤64
 |[],_,h=>h
 |s::l,E,h=>B6F (id:=id) l (fun i=>C5T h i)
theorem B6o{id:Int}:∀(l:List B3O) {E:List Ent},(A0K id l E).1.Sublist E
 |[],_=>G3 _
 |f::l,E=>(B6o (id:=id) l (E:=A1H E id f)).trans I1
theorem B4O{x:Y3}{p:PkI}{T:U7}{n:Nat}(h:X3 T.b n)(hx:x∈T.b.aB)(hk:T.b.kept.length≤64)(hl:p.aH.length≤100):Step T (A1f x p T) n 3000000:=by
 have vJ:=h.s2k
 have ke:=B0G (id:=x.aD) p.aH (E:=T.b.aH)
 have hH:j7 (B3Z (j8 x.aD p.aH T.b.aH).1 T.b):=h.toj7.fJ (by have:=ke.1;omega) fun e he=>by
  rcases ke.2.1 e he with h1|h1
  ·exact .inl h1
  ·obtain⟨s,hs,hi⟩:=h.cl x hx
   exact .inr ⟨s,hs,hi.trans h1.symm⟩
 have h1:X3 (B3Z (j8 x.aD p.aH T.b.aH).1 T.b) n:={hH with cY:=h.cY,cK:=h.cK,dP:=h.dP,dE:=h.dE,eA:=h.eA,n32:=h.n32,eT:=B6F p.aH h.eT}
 have h3:Step T (A1j (j8 x.aD p.aH T.b.aH).1 T) n 0:=⟨h1,D6 _,D6 _⟩
 have h4:=h3.trans (A6k (o:=⟨x.c,A0O 9 p.id (j8 x.aD p.aH T.b.aH).2,false⟩) h3.ok)
 have h5:=B5N (id:=x.aD) (added x.aD p.aH T.b.aH) (T:=A0t ⟨x.c,A0O 9 p.id (j8 x.aD p.aH T.b.aH).2,false⟩ (A1j (j8 x.aD p.aH T.b.aH).1 T)) hk hH
 have h6:=h5.step h4.ok (B1S (g:=j4 x.aD) (fun T s=>C0e T s) _)
 refine(h4.trans h6).mono ?_
 have:=ke.2.2.2
 omega
theorem B2h{x:Y3}{p:PkI}{T:U7}{n:Nat}(h:X3 T.b n):Step T (A1z x p T) n 1:=by
 have hs:=B6o (id:=x.aD) p.bK (E:=T.b.aH)
 have hH:j7 (B3Z (A0K x.aD p.bK T.b.aH).1 T.b):=h.toj7.fJ (C4 hs.length_le h.aH) fun e he=>.inl (hs.subset he)
 have h3:Step T (A1j (A0K x.aD p.bK T.b.aH).1 T) n 0:=⟨h.sub hH rfl (G3 _) hs,D6 _,D6 _⟩
 exact(h3.trans (A6k h3.ok)).mono (by omega)
theorem C4C{full:Bool}{x:Y3}{p:PkI}{T:U7}{n:Nat}(h:X3 T.b n)(hx:x∈T.b.aB)(hk:T.b.kept.length≤64)(hl:p.aH.length≤100):Step T (A9t full x p T) n 3300000:=by
 unfold A9t
 split
 ·exact(step_take h).mono (by omega)
 ·split
  ·exact(B9x h).mono (by omega)
  ·split
   ·exact(B4O h hx hk hl).mono (by omega)
   ·split
    ·exact(B2h h).mono (by omega)
    ·split
     ·exact(A6k h).mono (by omega)
     ·split
      ·exact(step_end h).mono (by omega)
      ·exact(A5r h).mono (by omega)
theorem B3Y{aC:B3O}{clean aN:Bool}{B:Z2}:(j1 aC clean aN B).2.aH=B.aH∧(j1 aC clean aN B).2.kept=B.kept∧(j1 aC clean aN B).2.aB=B.aB:=by
 unfold j1
 split
 ·split<;>exact⟨rfl,rfl,rfl⟩
 ·exact⟨rfl,rfl,rfl⟩
theorem B73{p:PkI}{B:Z2}(h:A59 p B=0):Z6 p.aC∧(ofS p.aC B.aD=none→B.aD.length<32):=by
 unfold A59 at h
 split at h
 ·cases h
 ·split at h
  ·cases h
  ·split at h
   ·cases h
   ·rename_i hg
    split at h
    ·cases h
    ·rename_i ea
     exact⟨O2 hg,fun ho=>Nat.lt_of_not_le fun h=>ea ⟨ho,h⟩⟩
theorem B8f{full:Bool}{c:Int}{p:PkI}{T:U7}{n:Nat}(h:X3 T.b n)(ca:(T.b.aB.map (·.c)).Nodup)(hw:p.aX.1.size≤9223372036854775807)(bR: -9223372036854775808≤c∧c≤9223372036854775807):Step T (A1I full c p T) (n+1) 3300000:=by
 unfold A1I
 by_cases hb:A59 p T.b=0
 ·rw[if_neg (by simpa using hb),A4N]
  have gq:=B73 hb
  obtain⟨ef,gm,oH,iO,je,jW⟩:=B1I (full:=full) (c:=p.aC) h ca gq.2
  generalize A0W full p.aC T=T1 at*
  obtain⟨kY,kZ,la⟩:=B3Y (B:=T1.b) (aC:=p.aC) (clean:=p.clean) (aN:=y8 p.props)
  obtain⟨bO,_⟩:=B6z (B:=T1.b) (o:=ofS p.aC T.b.aD) (aC:=p.aC) (clean:=p.clean) (aN:=y8 p.props) (x:=⟨c,(j1 p.aC p.clean (y8 p.props) T1.b).1.1,p.bE,(p.aX.1,p.aX.2.1,p.aX.2.2.1,p.aX.2.2.2.1,e0S)⟩) ef jW (fun y hy s hs=>(iO y hy).2 s hs) je rfl ⟨hw,bR⟩
  rw[kY,kZ,la]
  have h1:Step T (tB ⟨(j1 p.aC p.clean (y8 p.props) T1.b).2.last,(j1 p.aC p.clean (y8 p.props) T1.b).2.aD,A1P (ofS p.aC T.b.aD) (j1 p.aC p.clean (y8 p.props) T1.b).1.1 T1.b.aH,T1.b.kept,T1.b.aB++[⟨c,(j1 p.aC p.clean (y8 p.props) T1.b).1.1,p.bE,(p.aX.1,p.aX.2.1,p.aX.2.2.1,p.aX.2.2.2.1,e0S)⟩]⟩ T1) (n+1) 3200001:=⟨bO,gm,oH⟩
  have h2:=h1.trans (A6k (o:=⟨c,A1y (j1 p.aC p.clean (y8 p.props) T1.b).1.2,false⟩) h1.ok)
  exact(h2.trans (B9w h2.ok fun o ho=>B3b ho _)).mono (by omega)
 ·rw[if_pos (by simpa using hb)]
  exact(A6k (h.mono (R7 n))).mono (by omega)
theorem A3C{full:Bool}{c:Int}{p:PkI}{B:Z2}{n:Nat}(h:X3 B n)(ca:(B.aB.map (·.c)).Nodup)(hk:B.kept.length≤64)(hl:p.aH.length≤100)(hw:p.aX.1.size≤9223372036854775807)(bR: -9223372036854775808≤c∧c≤9223372036854775807):
  X3 (b9 full c p B).b (n+1)∧(b9 full c p B).outs.length≤3300000∧(b9 full c p B).aT.length≤3300000:=by
 have key:∀{T':U7},Step ⟨B,[],[]⟩ T' (n+1) 3300000→X3 T'.b (n+1)∧T'.outs.length≤3300000∧T'.aT.length≤3300000:=fun{T'} hs=>⟨hs.ok,by have:=hs.outs;simpa using this,by have:=hs.aT;simpa using this⟩
 unfold b9
 split
 ·rename_i x hx
  have:=C4C (full:=full) (x:=x) (p:=p) (T:=⟨B,[],[]⟩) h (A1K hx).1 hk hl
  exact key ⟨this.ok.mono (R7 n),this.outs,this.aT⟩
 ·split
  ·exact key (B8f (T:=⟨B,[],[]⟩) h ca hw bR)
  ·exact⟨h.mono (R7 n),by simp,by simp⟩
theorem B5w{full:Bool}{c:Int}{B:Z2}{n:Nat}(h:X3 B n):X3 (A7X full c B).b n∧(A7X full c B).outs.length≤3300000∧(A7X full c B).aT.length≤3300000:=
 let r:=step_end (full:=full) (c:=c) (w:=true) (T:=⟨B,[],[]⟩) h
 ⟨r.ok,C4 r.outs (by simp),C4 r.aT (by simp)⟩
theorem A8P{m:MsT}{B:Z2}{n:Nat}(h:X3 B n):X3 (A1c m B).b n∧(A1c m B).outs.length≤3300000∧(A1c m B).aT.length≤3300000:=
 let r:=C3o (m:=m) (T:=⟨B,[],[]⟩) h
 ⟨r.ok,C4 r.outs (by simp),C4 r.aT (by simp)⟩
theorem X3.new:X3 ⟨0,[],[],[],[]⟩ 0 where
 aH:=by simp
 bM:=by simp
 live:=by simp
 one:=by simp
 nd:=by simp
 cl:=by simp
 dS:=by simp
 wl:=by simp
 cY:=by simp
 cK:=by simp
 dP:=by simp
 dE:=by simp
 eA:=by simp
 n32:=by simp
 eT:=by simp[A02]
def A5k(b:Z2)(c:Int):Z2:=match A04 c b.aB with
 |none=>b
 |some x=>A8L x.aD (B0F (b.aB.filter fun y=>decide (y.c≠c)) b)
theorem A8s{b:Z2}:A1R b=(b.aB.map (·.c)).foldl A5k b:=rfl
theorem C10{full:Bool}{c:Int}{T:U7}:A4n full c false T=tB (A5k T.b c) T:=by
 unfold A4n A5k
 cases A04 c T.b.aB with
 |none=>rfl
 |some x=>simp
theorem B83{B:Z2}{n:Nat}{c:Int}(h:X3 B n):X3 (A5k B c) n:=by
 have:=(step_end (full:=true) (c:=c) (w:=false) (T:=⟨B,[],[]⟩) h).ok
 rw[C10] at this
 exact this
def A3g(k:Int)(s:V7):Bool:=decide (s.id=k)&&s.on&& !s.aN
def A3d(k:Int)(s:V7):Option V7:=if s.id=k∧s.on=true then(if s.aN=true then some (A8c s) else none) else some s
def B3S(b:Z2)(c:Int):Z2:=match A04 c b.aB with
 |none=>b
 |some x=>⟨b.last,b.aD.filterMap (A3d x.aD),b.aH.filter (fun e=> !(decide (e.1=x.aD)&&b.aD.any (A3g x.aD))),b.kept,b.aB.filter fun y=>decide (y.c≠c)⟩
theorem C71{k:Int}{B:Z2}(hn:(B.aD.map (·.id)).Nodup):A8L k B=⟨B.last,B.aD.filterMap (A3d k),B.aH.filter (fun e=> !(decide (e.1=k)&&B.aD.any (A3g k))),B.kept,B.aB⟩:=by
 have fm:∀{A:List V7},(∀s∈A,A3d k s=some s)→A.filterMap (A3d k)=A:=fun{A} hA=>by
  induction A with
  |nil=>rfl
  |cons s A ih=>rw[O8 (hA s (B5 ..)),ih fun t ht=>hA t (C2 _ ht)]
 have jz:B.aD.any (A3g k)=false→B.aH.filter (fun e=> !(decide (e.1=k)&&B.aD.any (A3g k)))=B.aH:=fun e=>by rw[e];simp
 unfold A8L
 cases hg:A4E k B.aD with
 |none=>
  have ax:∀s∈B.aD,s.id≠k:=fun s hs=>by simpa using E3.1 hg s hs
  have e1:B.aD.any (A3g k)=false:=List.any_eq_false.2 fun s hs=>by simp[A3g,ax s hs]
  rw[fm fun s hs=>if_neg fun e=>ax s hs e.1,jz e1]
 |some s=>
  obtain⟨hm,hid⟩:=C0m hg
  have gC:∀t∈B.aD,t.id=k→t=s:=fun t ht e=>B1y (f:=(·.id)) hn ht hm (e.trans hid.symm)
  simp only
  by_cases aP:s.on=false
  ·rw[if_pos aP]
   have e1:B.aD.any (A3g k)=false:=List.any_eq_false.2 fun t ht=>by
    by_cases e:t.id=k
    ·rw[gC t ht e];simp[A3g,aP]
    ·simp[A3g,e]
   have e2:∀t∈B.aD,A3d k t=some t:=fun t ht=>if_neg fun e=>by
    have:=gC t ht e.1
    subst this
    rw[aP] at e
    cases e.2
   rw[fm e2,jz e1]
  ·rw[if_neg aP]
   have cH:s.on=true:=by cases hh:s.on with|true=>rfl|false=>exact absurd hh aP
   by_cases iN:s.aN=true
   ·rw[if_pos iN]
    have e1:B.aD.any (A3g k)=false:=List.any_eq_false.2 fun t ht=>by
     by_cases e:t.id=k
     ·rw[gC t ht e];simp[A3g,iN]
     ·simp[A3g,e]
    rw[jz e1]
    have e2:∀{A:List V7},(∀t∈A,t∈B.aD)→X8 k A8c A=A.filterMap (A3d k):=fun{A} hA=>by
     induction A with
     |nil=>rfl
     |cons t A ih=>
      have ht:=hA t (B5 ..)
      have ih:=ih fun t ht=>hA t (C2 _ ht)
      unfold X8 at ih⊢
      rw[B6]
      by_cases e:t.id=k
      ·have:=gC t ht e
       subst this
       rw[if_pos e,O8 (b:=A8c t) (by unfold A3d;rw[if_pos ⟨e,cH⟩,if_pos iN]),ih]
      ·rw[if_neg e,O8 (b:=t) (by unfold A3d;rw[if_neg fun h=>e h.1]),ih]
    rw[e2 fun t ht=>ht]
   ·rw[if_neg iN]
    have nK:s.aN=false:=by cases hh:s.aN with|false=>rfl|true=>exact absurd hh iN
    have e1:B.aD.any (A3g k)=true:=List.any_eq_true.2 ⟨s,hm,by simp[A3g,hid,cH,nK]⟩
    have e2:∀{A:List V7},(∀t∈A,t∈B.aD)→A.filter (fun x=>decide (x.id≠k))=A.filterMap (A3d k):=fun{A} hA=>by
     induction A with
     |nil=>rfl
     |cons t A ih=>
      have ht:=hA t (B5 ..)
      have ih:=ih fun t ht=>hA t (C2 _ ht)
      by_cases e:t.id=k
      ·have:=gC t ht e
       subst this
       rw[F8 (by simpa using e),List.filterMap_cons_none (by unfold A3d;rw[if_pos ⟨e,cH⟩,if_neg iN]),ih]
      ·rw[G6 (by simpa using e),O8 (b:=t) (by unfold A3d;rw[if_neg fun h=>e h.1]),ih]
    rw[e2 fun t ht=>ht,e1]
    simp only[Bool.and_true]
theorem C6H{B:Z2}{c:Int}(h:j7 B):A5k B c=B3S B c:=by
 unfold A5k B3S
 cases A04 c B.aB with
 |none=>rfl
 |some x=>simp only;rw[C71 (B:=B0F (B.aB.filter fun y=>decide (y.c≠c)) B) h.nd]
theorem A8G{c d:Int}{l:List Y3}(h:c≠d):A04 c (l.filter fun y=>decide (y.c≠d))=A04 c l:=by
 unfold A04
 rw[List.find?_filter]
 congr 1
 funext x
 by_cases e:x.c=c
 ·simp[e,h]
 ·simp[e]
theorem B8D{k:Int}{s t:V7}(h:A3d k s=some t):t.id=s.id:=by
 unfold A3d at h
 split at h
 ·split at h
  ·cases h;rfl
  ·cases h
 ·cases h;rfl
theorem C3K{i j:Int}(h:i≠j)(s:V7):(A3d i s).bind (A3d j)=(A3d j s).bind (A3d i):=by
 by_cases hi:s.id=i
 ·have hj:s.id≠j:=fun e=>h (hi.symm.trans e)
  have e1:A3d j s=some s:=if_neg fun e=>hj e.1
  rw[e1,N5]
  cases ho:A3d i s with
  |none=>rfl
  |some t=>rw[N5];exact if_neg fun e=>hj ((B8D ho).symm.trans e.1)
 ·have e1:A3d i s=some s:=if_neg fun e=>hi e.1
  rw[e1,N5]
  cases ho:A3d j s with
  |none=>rfl
  |some t=>rw[N5];exact(if_neg fun e=>hi ((B8D ho).symm.trans e.1)).symm
theorem C0k{i j:Int}(h:i≠j)(A:List V7):(A.filterMap (A3d i)).any (A3g j)=A.any (A3g j):=by
 induction A with
 |nil=>rfl
 |cons s A ih=>
  rw[List.any_cons]
  cases ho:A3d i s with
  |none=>
   rw[List.filterMap_cons_none ho,ih]
   have hi:s.id=i:=by
    unfold A3d at ho
    split at ho
    ·rename_i hh;exact hh.1
    ·cases ho
   have:A3g j s=false:=by unfold A3g;rw[hi];simp[h]
   rw[this,R8]
  |some t=>
   rw[O8 ho,List.any_cons,ih]
   have hid:=B8D ho
   congr 1
   by_cases hi:s.id=i
   ·unfold A3g;rw[hid,hi];simp[h]
   ·have e1:A3d i s=some s:=if_neg fun e=>hi e.1
    rw[e1] at ho
    cases ho;rfl
theorem C1Z(b:Z2)(c d:Int):B3S (B3S b c) d=B3S (B3S b d) c:=by
 by_cases oO:c=d
 ·subst oO;rfl
 ·unfold B3S
  cases hc:A04 c b.aB with
  |none=>
   simp only
   cases hd:A04 d b.aB with
   |none=>simp only[hc,hd]
   |some y=>simp only;rw[A8G oO,hc]
  |some x=>
   simp only
   rw[A8G fun e=>oO e.symm]
   cases hd:A04 d b.aB with
   |none=>simp only[hc]
   |some y=>
    simp only
    rw[A8G oO,hc]
    simp only
    have e4:(b.aB.filter fun y=>decide (y.c≠c)).filter (fun y=>decide (y.c≠d))=(b.aB.filter fun y=>decide (y.c≠d)).filter (fun y=>decide (y.c≠c)):=by
     rw[R4,R4]
     congr 1
     funext z
     rw[Bool.and_comm]
    rw[e4]
    by_cases oy:x.aD=y.aD
    ·rw[oy]
    ·have e1:(b.aD.filterMap (A3d x.aD)).filterMap (A3d y.aD)=(b.aD.filterMap (A3d y.aD)).filterMap (A3d x.aD):=by
      rw[List.filterMap_filterMap,List.filterMap_filterMap]
      congr 1
      funext s
      exact C3K oy s
     rw[e1,C0k oy,C0k (fun e=>oy e.symm)]
     simp only[R4]
     refine congrArg (fun E=>(⟨_,_,E,_,_⟩:Z2)) (K7 fun z _=>?_)
     exact Bool.and_comm _ _
theorem B8W{n:Nat}:∀(l:List Int) {B:Z2},X3 B n→l.foldl A5k B=l.foldl B3S B∧X3 (l.foldl A5k B) n
 |[],_,h=>⟨rfl,h⟩
 |c::l,B,h=>by
  rw[I0,I0,←C6H h.toj7]
  exact B8W l (B83 h)
theorem B8v{n:Nat}{l:List Int}{B:Z2}(h:X3 B n)(hp:l.Perm (B.aB.map (·.c))):l.foldl A5k B=A1R B:=by
 rw[A8s,(B8W l h).1,(B8W (B.aB.map (·.c)) h).1]
 exact hp.foldl_eq' (fun a _ b _ z=>C1Z z a b) B
theorem B9J{n:Nat}{B:Z2}(h:X3 B n):X3 (A1R B) n:=(B8W _ h).2
open Go.H Go.Proofs Go.Shelf
def A3I:Go.Shelf.Ren:=⟨fun n=>match n with|7=>41|10=>77|n=>n,fun n=>match n with|23=>102|26=>3|3=>112|28=>123|0=>0|27=>122|33=>196|4=>4|n=>n,fun n=>n⟩
theorem C66:SlLaysZI.n7 prog A3I where
 mixed:=by kernel_rfl
 f7:=⟨Tryz.f41.name,by kernel_rfl,func41.trans (congrArg some (by kernel_rfl))⟩
 f10:=⟨f77.name,by kernel_rfl,func77.trans (congrArg some (by kernel_rfl))⟩
 t0:=underlying0
 a0:=isAgg0
 z0:=sizeOf0
 v0:=zeroValue0
 t4:=underlying4
 a4:=isAgg4
 z4:=sizeOf4
 v4:=zeroValue4
 t23:=underlying102
 a23:=isAgg102
 z23:=sizeOf102
 v23:=zeroValue102
 t26:=underlying3
 a26:=isAgg3
 z26:=sizeOf3
 v26:=zeroValue3
 t27:=underlying122
 a27:=isAgg122
 z27:=sizeOf122
 v27:=zeroValue122
 t28:=underlying123
 a28:=isAgg123
 z28:=sizeOf123
 v28:=zeroValue123
 t33:=underlying196
 a33:=isAgg196
 z33:=sizeOf196
 v33:=zeroValue196
variable {h h0:Heap} {L L' L1 L2 L3 L4 L5 R:List Asn} {Q:Value→Heap→Prop}
structure C2m(p:Pk)(pl:List o8)(sl:List A0w)(fl:List B3O):Prop where
 cC:p.2.2.2.2.2.1.size≤9223372036854775807
 aC:(p.2.2.2.2.2.2.2.2.2.2.1).size≤9223372036854775807
 aX:(p.2.2.2.2.2.2.2.2.2.2.2.2.2.2.1).size≤9223372036854775807
 props:pl.length≤100
 aH:sl.length≤100
 sub:∀s∈sl,s.1.size≤9223372036854775807
 eR:fl.length≤100
 fil:∀f∈fl,f.size≤16777216
theorem C4Z{t b n:Nat}{full:Bool}{T:U7}{x:Y3}{p:Pk}{pl:List o8}{sl:List A0w}{fl:List B3O}(ht:TP h0)(ag:X3 T.b n)(hc:A04 x.c T.b.aB=some x)(hb:T.outs.length≤10000000)(hp:T.aT.length≤100000000)(dA:C2m p pl sl fl)
  (hq:At (X5 t b full (A9t full x (pkI p pl sl fl) T)::old h0::L4) (Q (.tuple #[])))(hx:Has L (X5 t b full T) L1:=by repeat first|with_reducible exact U9|apply V1)(hy:Has L1 (old h0) L2:=by repeat first|with_reducible exact U9|apply V1)(hz:Has L2 (U4 X9 5 (A0z p) sl) L3:=by repeat first|with_reducible exact U9|apply V1)(hw:Has L3 (U4 v8 1 (A4k p) fl) L4:=by repeat first|with_reducible exact U9|apply V1):
  FW prog 32 #[at0 t,.int .i64 x.c,A2p .u8 p] L Q:=by
 refine fun h hs=>A56 (some ⟨t,0,none⟩) x.c p h Q ((?_:W (X5 t b full T::old h0::U4 X9 5 (A0z p) sl::U4 v8 1 (A4k p) fl::L4) _ _) h ((hx.eH hy hz hw).s hs))
 clear hs h hx hy hz hw
 have vJ:=ag.s2k
 obtain⟨T9,aK⟩:∃T9,T9=A9t full x (pkI p pl sl fl) T:=⟨_,rfl⟩
 rw[←aK] at hq
 unfold A9t at aK
 dsimp only at aK
 delta A5a az bn cx A0R ie jc ji ju nw pu ve vi vz
 refine Y0 fun x1=>?_
 refine Y2 (X1 (enc:=X9) (size:=5) (s:=A0z p) (xs:=sl)) fun cG=>?_
 refine Y2 (X1 (enc:=v8) (size:=1) (s:=A4k p) (xs:=fl)) fun cn=>?_
 refine A07 (fun r=>r.1=decide (1≤p.2.2.2.2.1∧p.2.2.2.2.1≤65535)) (fun K hK=>?_) (fun r gk=>?_)
 ·refine W.load (v:=p.2.2.2.2.1) ?_
  refine A0e (fun h1=>?_) (fun h1=>?_)
  ·refine W.load (v:=p.2.2.2.2.1) ?_
   refine U1 (hK _ ?_)
   simp only[decide_eq_true_eq] at h1
   simp[h1]
  ·refine U1 (hK _ ?_)
   simp only[decide_eq_false_iff_not] at h1
   simp[h1]
 refine A07 (fun r=>r.1=decide (p.1=3∨p.1=6)) (fun K hK=>?_) (fun r1 fr=>?_)
 ·refine W.load (v:=p.1) ?_
  refine A0e (fun g0=>U1 (hK _ ?_)) (fun g0=>?_)
  ·simp only[P8] at g0;simp[g0]
  refine W.load (v:=p.1) ?_
  refine U1 (hK _ ?_)
  simp only[H4,ne_eq] at g0
  by_cases e:p.1=6
  ·simp[e]
  ·simp[e,g0]
 refine W.cut (fun _=>X5 t b full T9::old h0::L4) (fun K0 nZ=>?_) (fun _=>U1 hq.sub)
 by_cases hk:p.1=3∨p.1=6
 ·rw[if_pos hk] at aK
  subst aK
  refine X7 (by rw[fr];exact decide_eq_true hk) ?_
  refine q8 (v:=p) ?_
  refine Z1 (C7h (T:=T) (x:=x) (p:=p) (pl:=pl) (sl:=sl) (fl:=fl) ht ag.toj7 hc (by omega) (by omega) dA.cC (At.bD ?_))
  exact U1 (nZ ()).sub
 rw[if_neg hk] at aK
 refine W6 (by rw[fr];exact decide_eq_false hk) ?_
 clear fr hk
 refine A07 (fun r=>r.1=decide (p.1=4∨p.1=5∨p.1=7)) (fun K hK=>?_) (fun r2 cI=>?_)
 ·refine W.load (v:=p.1) ?_
  refine A0e (fun g0=>U1 (hK _ ?_)) (fun g0=>?_)
  ·simp only[P8] at g0;simp[g0]
  refine W.load (v:=p.1) ?_
  refine A0e (fun g1=>U1 (hK _ ?_)) (fun g1=>?_)
  ·simp only[P8] at g1;simp[g1]
  refine W.load (v:=p.1) ?_
  refine U1 (hK _ ?_)
  simp only[H4,ne_eq] at g0;simp only[H4,ne_eq] at g1
  by_cases e:p.1=7
  ·simp[e]
  ·simp[e,g0,g1]
 refine W.cut (fun _=>X5 t b full T9::old h0::L4) (fun K1 fy=>?_) (fun _=>U1 (nZ ()).sub)
 by_cases hk:p.1=4∨p.1=5∨p.1=7
 ·rw[if_pos hk] at aK
  subst aK
  refine X7 (by rw[cI];exact decide_eq_true hk) ?_
  refine q8 (v:=p) ?_
  refine Z1 (C5P (T:=T) (x:=x) (p:=p) (pl:=pl) (sl:=sl) (fl:=fl) ht ag.toj7 hc (by omega) (by omega) (At.bD ?_))
  exact U1 (fy ()).sub
 rw[if_neg hk] at aK
 refine W6 (by rw[cI];exact decide_eq_false hk) ?_
 clear cI hk
 refine A07 (fun r=>r.1=decide (p.1=8∧1≤p.2.2.2.2.1∧p.2.2.2.2.1≤65535∧sl≠[])) (fun K hK=>?_) (fun r3 kL=>?_)
 ·refine W.load (v:=p.1) ?_
  refine A0e (fun g0=>?_) (fun g0=>U1 (hK _ ?_))
  ·simp only[P8] at g0
   refine A0e (fun g1=>?_) (fun g1=>U1 (hK _ ?_))
   ·rw[gk] at g1
    refine W.load (v:=A0z p) ?_
    refine U1 (hK _ ?_)
    have g1:=of_decide_eq_true g1
    cases sl with
    |nil=>simp[cG]
    |cons a l=>simp[cG,g0,g1]
   ·rw[gk] at g1
    have g1:=of_decide_eq_false g1
    exact(decide_eq_false fun e=>g1 ⟨e.2.1,e.2.2.1⟩).symm
  ·simp only[H4,ne_eq] at g0
   exact(decide_eq_false fun e=>g0 e.1).symm
 refine W.cut (fun _=>X5 t b full T9::old h0::L4) (fun K2 bd=>?_) (fun _=>U1 (fy ()).sub)
 by_cases hk:p.1=8∧1≤p.2.2.2.2.1∧p.2.2.2.2.1≤65535∧sl≠[]
 ·rw[if_pos hk] at aK
  subst aK
  refine X7 (by rw[kL];exact decide_eq_true hk) ?_
  refine q8 (v:=p) ?_
  refine Z1 (B9v (T:=T) (x:=x) (p:=p) (pl:=pl) (sl:=sl) (fl:=fl) ht ag.toj7 hc hb (by have:=dA.aH;omega) dA.aH dA.sub (At.bD ?_))
  exact U1 (bd ()).sub
 rw[if_neg hk] at aK
 refine W6 (by rw[kL];exact decide_eq_false hk) ?_
 clear kL hk
 refine A07 (fun r=>r.1=decide (p.1=10∧1≤p.2.2.2.2.1∧p.2.2.2.2.1≤65535∧fl≠[])) (fun K hK=>?_) (fun r4 oD=>?_)
 ·refine W.load (v:=p.1) ?_
  refine A0e (fun g0=>?_) (fun g0=>U1 (hK _ ?_))
  ·simp only[P8] at g0
   refine A0e (fun g1=>?_) (fun g1=>U1 (hK _ ?_))
   ·rw[gk] at g1
    refine W.load (v:=A4k p) ?_
    refine U1 (hK _ ?_)
    have g1:=of_decide_eq_true g1
    cases fl with
    |nil=>simp[cn]
    |cons a l=>simp[cn,g0,g1]
   ·rw[gk] at g1
    have g1:=of_decide_eq_false g1
    exact(decide_eq_false fun e=>g1 ⟨e.2.1,e.2.2.1⟩).symm
  ·simp only[H4,ne_eq] at g0
   exact(decide_eq_false fun e=>g0 e.1).symm
 refine W.cut (fun _=>X5 t b full T9::old h0::L4) (fun K3 lK=>?_) (fun _=>U1 (bd ()).sub)
 by_cases hk:p.1=10∧1≤p.2.2.2.2.1∧p.2.2.2.2.1≤65535∧fl≠[]
 ·rw[if_pos hk] at aK
  subst aK
  refine X7 (by rw[oD];exact decide_eq_true hk) ?_
  refine q8 (v:=p) ?_
  refine Z1 (B6Q (T:=T) (x:=x) (p:=p) (pl:=pl) (sl:=sl) (fl:=fl) ht ag.toj7 hc hb dA.eR dA.fil (At.bD ?_))
  exact U1 (lK ()).sub
 rw[if_neg hk] at aK
 refine W6 (by rw[oD];exact decide_eq_false hk) ?_
 clear oD hk
 refine W.load (v:=p.1) ?_
 refine W.cut (fun _=>X5 t b full T9::old h0::L4) (fun K4 gO=>?_) (fun _=>U1 (lK ()).sub)
 by_cases hk:p.1=12
 ·rw[if_pos hk] at aK
  subst aK
  refine X7 (by simpa using hk) ?_
  refine B66 (k:=.u8) (Z7 13 0 0) rfl rfl ?_
  refine Z1 (B8o (T:=T) (c:=x.c) (o:=Z7 13 0 0) (ci:=⟨none,0,0⟩) (pi:=⟨none,0,0⟩) (by omega) (At.bD ?_))
  exact U1 (gO ()).sub
 rw[if_neg hk] at aK
 refine W6 (by simpa using hk) ?_
 clear hk
 refine W.load (v:=p.1) ?_
 refine W.cut (fun _=>X5 t b full T9::old h0::L4) (fun K5 vD=>?_) (fun _=>U1 (gO ()).sub)
 by_cases hk:p.1=14
 ·rw[if_pos hk] at aK
  subst aK
  refine X7 (by simpa using hk) ?_
  refine W.load (v:=p.2.2.2.2.2.2.2.1) ?_
  have e:(p.2.2.2.2.2.2.2.1==4)=decide (p.2.2.2.2.2.2.2.1=4):=rfl
  refine Z1 (C20 (T:=T) (c:=x.c) (aX:=p.2.2.2.2.2.2.2.1==4) ht ag.toj7 (by omega) (by omega) (At.bD ?_))
  rw[e]
  exact U1 (vD ()).sub
 rw[if_neg hk] at aK
 subst aK
 refine W6 (by simpa using hk) ?_
 refine Z1 (A8t (T:=T) (c:=x.c) (code:=130) ht ag.toj7 (by omega) (by omega) (At.bD ?_))
 exact U1 (vD ()).sub
theorem C6R{α:Type}{m:HM α}{Q':α→Heap→Prop}{t b:Nat}{full:Bool}{B:Z2}(hw:W (X5 t b full ⟨B,[],[]⟩::L2) m Q')(hx:Has L (cells t #[at0 b,.bool full,.slice none 0 0,.slice none 0 0]) L1:=by repeat first|with_reducible exact U9|apply V1)(hy:Has L1 (A0F b B) L2:=by repeat first|with_reducible exact U9|apply V1):W L m Q':=fun h hs=>
 hw h (A0P.2 (A2x.2 ⟨⟨none,0,0⟩,⟨none,0,0⟩,((B1q (Z3 (enc:=Z4) (size:=5) ((hx.then hy).s hs))).re [2,0,1,3])⟩))
theorem B9i{b:Nat}{B:Z2}:∀h R,sat h (A0F b B::R)→(B.aB.map (·.c)).Nodup∧B.kept.length≤64:=fun h R hs=>by
 obtain⟨p,h1⟩:=A1q.1 hs
 exact⟨B4F (h1.re [4,0,1,2,3]),C0d (h1.re [3,0,1,2])⟩
theorem C5N(hq:∀b,At (A0F b ⟨0,[],[],[],[]⟩::L) (Q (at0 b))):FW prog 9 #[] L Q:=by
 refine fun h hs=>B29 h Q ((?_:W L _ _) h hs)
 clear hs h
 delta B6s az bn cp nw pu vi
 refine b6 (C4L (fun b1=>At.un (x:=some ⟨b1,0,none⟩) ?_))
 refine b6 (C6h (fun b2=>At.un ?_))
 refine b6 (C7B (fun b3=>At.un ?_))
 refine C8a (ek:=eKI) (ev:=eVC) fun b4=>?_
 refine Y0 fun b5=>?_
 refine W.eU (A:=A0F b5 ⟨0,[],[],[],[]⟩) (B:=cells b5 (A7K ⟨b1,b2,b3,b4⟩)) (C:=A1e b1 0 []) (D:=l4 b2 []) (E:=A1l b3 []) (F:=mapA eKI eVC b4 []) (fun h hs=>A1q.2 ⟨⟨b1,b2,b3,b4⟩,hs⟩) ?_
 exact U1 (hq b5).sub
theorem A6T{b n:Nat}{full:Bool}{B:Z2}{c:Int}{p:Pk}{pl:List o8}{sl:List A0w}{fl:List B3O}(ht:TP h0)(ag:X3 B n)(hn:n≤1000000)(dA:C2m p pl sl fl)(bR: -9223372036854775808≤c∧c≤9223372036854775807)
  (hq:∀so sp:Slc,At (V8 .u8 so (b9 full c (pkI p pl sl fl) B).outs::U4 Z4 5 sp (b9 full c (pkI p pl sl fl) B).aT::A0F b (b9 full c (pkI p pl sl fl) B).b::old h0::L5) (Q (.agg #[.slice so.a so.len so.cap,.slice sp.a sp.len sp.cap])))
  (hx:Has L (A0F b B) L1:=by repeat first|with_reducible exact U9|apply V1)(hy:Has L1 (old h0) L2:=by repeat first|with_reducible exact U9|apply V1)(hz:Has L2 (U4 X9 5 (A0z p) sl) L3:=by repeat first|with_reducible exact U9|apply V1)(hw:Has L3 (U4 v8 1 (A4k p) fl) L4:=by repeat first|with_reducible exact U9|apply V1)(hv:Has L4 (U4 W8 4 (A0f p) pl) L5:=by repeat first|with_reducible exact U9|apply V1):
  FW prog 13 #[at0 b,.int .i64 c,A2p .u8 p,.bool full] L Q:=by
 refine fun h hs=>A5c (some ⟨b,0,none⟩) c p full h Q ((?_:W (A0F b B::old h0::U4 X9 5 (A0z p) sl::U4 v8 1 (A4k p) fl::U4 W8 4 (A0f p) pl::L5) _ _) h ((hx.eW hy hz hw hv).s hs))
 clear hs h hx hy hz hw hv
 obtain⟨T9,aK⟩:∃T9,T9=b9 full c (pkI p pl sl fl) B:=⟨_,rfl⟩
 rw[←aK] at hq
 unfold b9 at aK
 dsimp only at aK
 delta A4c az bn cx A0R ie ji km nn nw pu sn ve vi vs vz
 refine Y0 fun x1=>?_
 refine Y0 fun x2=>?_
 refine W6 rfl ?_
 refine Y0 fun x4=>?_
 refine W3 ?_
 refine A2b (fun h R=>A1q.1) fun q=>?_
 refine Y2 (fun h R hs=>B4F (m:=q.cm) (l:=B.aB) hs) fun ca=>?_
 refine W.load (v:=some q.cm) ?_
 refine W.lookup (kind:=.agg tC) kKI c ?_
 rw[A3H]
 refine Y0 fun x8=>?_
 refine A0a ?_
 refine W.eU (A:=A0F b B) (B:=cells b (A7K q)) (C:=A1e q.tb B.last B.aD) (D:=l4 q.sb B.aH) (E:=A1l q.kb B.kept) (F:=mapA eKI eVC q.cm (B.aB.map z7)) (fun h hs=>A1q.2 ⟨q,hs⟩) ?_
 refine C6R (t:=x4) (b:=b) (full:=full) (B:=B) ?_
 refine W.cut (fun _=>X5 x4 b full T9::cells x2 #[.slice none 0 0,.slice none 0 0]::old h0::L5) (fun K hK=>?_) (fun _=>?_)
 ·clear hq
  cases hg:A04 c B.aB with
  |some x=>
   rw[hg] at aK
   simp only at aK
   subst aK
   have iY:=(A1K hg).2
   subst iY
   refine X7 rfl ?_
   refine q8 (v:=p) ?_
   refine Z1 (C4Z (T:=⟨B,[],[]⟩) (x:=x) (p:=p) (pl:=pl) (sl:=sl) (fl:=fl) ht ag hg (by simp) (by simp) dA (At.bD ?_))
   exact U1 (hK ()).sub
  |none=>
   rw[hg] at aK
   simp only at aK
   refine W6 rfl ?_
   refine W.load (v:=p.1) ?_
   refine W.cut (fun _=>X5 x4 b full T9::cells x2 #[.slice none 0 0,.slice none 0 0]::old h0::L5) (fun K2 bd=>?_) (fun _=>U1 (hK ()).sub)
   by_cases hk:p.1=1
   ·rw[if_pos hk] at aK
    subst aK
    refine X7 (by simpa using hk) ?_
    refine q8 (v:=p) ?_
    refine Z1 (C4e (T:=⟨B,[],[]⟩) (c:=c) (p:=p) (pl:=pl) (sl:=sl) (fl:=fl) ht ag hn hg bR (by simp) (by simp) dA.aC dA.aX (by have:=dA.props;omega) (At.bD ?_))
    exact U1 (bd ()).sub
   ·rw[if_neg hk] at aK
    subst aK
    refine W6 (by simpa using hk) ?_
    refine B66 (k:=.u8) (Z7 14 0 130) rfl rfl ?_
    refine Z1 (B9g (T:=⟨B,[],[]⟩) (c:=c) (o:=Z7 14 0 130) (ci:=⟨none,0,0⟩) (pi:=⟨none,0,0⟩) (by simp) (At.bD ?_))
    show W (X5 x4 b full ⟨B,[⟨c,Z7 14 0 130,true⟩],[]⟩::_) _ _
    exact U1 (bd ()).sub
 clear aK
 refine C2k (A:=X5 x4 b full T9) (fun h R hs=>A0P.1 hs) ?_
 refine W3 ?_
 refine A8U (fun h R=>A2x.1) fun so sp=>?_
 refine A8g (v:=(so,sp,())) ?_
 refine A0a ?_
 refine q8 (v:=(so,sp,())) ?_
 exact U1 (hq so sp).sub
theorem C6L{b n:Nat}{full:Bool}{B:Z2}{c:Int}(ht:TP h0)(ag:X3 B n)
  (hq:∀so sp:Slc,At (V8 .u8 so (A7X full c B).outs::U4 Z4 5 sp (A7X full c B).aT::A0F b (A7X full c B).b::old h0::L2) (Q (.agg #[.slice so.a so.len so.cap,.slice sp.a sp.len sp.cap])))
  (hx:Has L (A0F b B) L1:=by repeat first|with_reducible exact U9|apply V1)(hy:Has L1 (old h0) L2:=by repeat first|with_reducible exact U9|apply V1):
  FW prog 24 #[at0 b,.int .i64 c,.bool full] L Q:=by
 refine fun h hs=>A58 (some ⟨b,0,none⟩) c full h Q ((?_:W (A0F b B::old h0::L2) _ _) h ((hx.then hy).s hs))
 clear hs h hx hy
 unfold A7X at hq
 delta A5d az bn cx ie nn nw pu sn vi vs vz
 refine Y0 fun x1=>?_
 refine W6 rfl ?_
 refine Y0 fun x3=>?_
 refine C6R (t:=x3) (b:=b) (full:=full) (B:=B) ?_
 refine Z1 (C20 (T:=⟨B,[],[]⟩) (c:=c) (aX:=true) ht ag.toj7 (by simp) (by simp) (At.bD ?_))
 generalize A4n full c true ⟨B,[],[]⟩=T9 at hq⊢
 refine C2k (A:=X5 x3 b full T9) (fun h R hs=>A0P.1 hs) ?_
 refine W3 ?_
 refine A8U (fun h R=>A2x.1) fun so sp=>?_
 refine A8g (v:=(so,sp,())) ?_
 refine A0a ?_
 refine q8 (v:=(so,sp,())) ?_
 exact U1 (hq so sp).sub
theorem C2i{b n:Nat}{B:Z2}{m:MsT}(ht:TP h0)(ag:X3 B n)(hm:m.1.size≤9223372036854775807)
  (hq:∀so:Slc,At (V8 .u8 so (A1c m B).outs::A0F b (A1c m B).b::old h0::L2) (Q (.slice so.a so.len so.cap)))
  (hx:Has L (A0F b B) L1:=by repeat first|with_reducible exact U9|apply V1)(hy:Has L1 (old h0) L2:=by repeat first|with_reducible exact U9|apply V1):
  FW prog 19 #[at0 b,vMs m] L Q:=by
 refine fun h hs=>A4L (some ⟨b,0,none⟩) (toU m) h Q ((?_:W (A0F b B::old h0::L2) _ _) h ((hx.then hy).s hs))
 clear hs h hx hy
 unfold A1c at hq
 delta A3u az cx g7 ie kc nn nw pu vz
 refine Y0 fun x1=>?_
 refine W6 rfl ?_
 refine Y0 fun x2=>?_
 refine C6R (t:=x2) (b:=b) (full:=false) (B:=B) ?_
 refine q8 (v:=toU m) ?_
 refine Z1 (C5o (T:=⟨B,[],[]⟩) (m:=m) ht ag.toj7 (by simp) hm (At.bD ?_))
 generalize A0A m ⟨B,[],[]⟩=T9 at hq⊢
 refine C2k (A:=X5 x2 b false T9) (fun h R hs=>A0P.1 hs) ?_
 refine W3 ?_
 refine A8U (fun h R=>A2x.1) fun so sp=>?_
 refine i7 (v:=so) ?_
 exact U1 (hq so).sub
theorem B30{b n:Nat}{B:Z2}(ag:X3 B n)(hn:n≤1000000)(hq:∀S:Slc,At (U4 B4p 4 S (B.aD.map u5)::A0F b B::L1) (Q (.slice S.a S.len S.cap)))
  (hx:Has L (A0F b B) L1:=by repeat first|with_reducible exact U9|apply V1):FW prog 18 #[at0 b] L Q:=by
 refine fun h hs=>A4o (some ⟨b,0,none⟩) h Q ((?_:W (A0F b B::L1) _ _) h (hx.s hs))
 clear hs h hx
 delta A3m cc ie kp nn pu
 refine W6 rfl ?_
 refine W3 ?_
 refine A2b (fun h R=>A1q.1) fun q=>?_
 refine W.load (v:=some ⟨q.tb,0,none⟩) ?_
 refine b6 (C2z (b:=q.tb) (A:=B.aD) (by have:=ag.cK;omega) (fun s hs=>⟨by have:=(ag.dP s hs).1;omega,(ag.dP s hs).2⟩) ag.n32 ag.dE (fun S=>At.un (x:=S) ?_))
 refine W.eU (A:=A0F b B) (B:=cells b (A7K q)) (C:=A1e q.tb B.last B.aD) (D:=l4 q.sb B.aH) (E:=A1l q.kb B.kept) (F:=mapA eKI eVC q.cm (B.aB.map z7)) (fun h hs=>A1q.2 ⟨q,hs⟩) ?_
 exact U1 (hq S).sub
theorem C6x{m:Nat}(hq:∀x,At (cells x #[.map (some m)]::L) (Q (.func (.func (A3I.f 10)) #[] #[.pointer (some ⟨x,0,none⟩)]))):FW prog 41 #[.map (some m)] L Q:=fun h hs=>
 B0r (ρk:=A3I) C66 (some m) (hq h.size _ (hs.bJ (T:=A3I.t 23) (cs:=#[.map (some m)])))
theorem C3q{m x:Nat}{l:List Y3}(hw:∀x∈l,-9223372036854775808≤x.c∧x.c≤9223372036854775807)(hl:l.length≤1000000)(hq:∀S:Slc,At (U4 eI 1 S (Z0 (l.map (·.c)))::mapA eKI eVC m (l.map z7)::L2) (Q (.slice S.a S.len S.cap)))
  (hx:Has L (mapA eKI eVC m (l.map z7)) L1:=by repeat first|with_reducible exact U9|apply V1)(hy:Has L1 (cells x #[.map (some m)]) L2:=by repeat first|with_reducible exact U9|apply V1):FW prog 40 #[.func (.func (A3I.f 10)) #[] #[.pointer (some ⟨x,0,none⟩)]] L Q:=fun h hs=>by
 have h1:=(hx.then hy).s hs
 refine A61 (ρk:=A3I) (ρs:=A5s) (ρt:=A62) C66 B8j C09 rfl (enters_of func76 (by kernel_rfl) rfl) (enters_of func77 (by kernel_rfl) rfl) h1
  (fun p hp=>?_) (by rw[B9];omega) ((h1.re [1,0]).cell 0) fun s h' af=>?_
 ·obtain⟨y,hy,rfl⟩:=E4.1 hp
  have:=hw y hy
  simp[Lit.wf,IntKind.min,IntKind.max,IntKind.bits,IntKind.signed]
  omega
 ·rw[F0] at af
  exact hq s h' ((af.re [2,0,1]).drop)
theorem B2J:∀{l l':List Int},l.Nodup→(∀x∈l,x∈l')→l.length≤l'.length
 |[],_,_,_=>C9 _
 |x::l,l',hn,hs=>by
  obtain⟨a,b,rfl⟩:=G7 (hs x (B5 ..))
  have h1:=F7.1 hn
  have:=B2J (l:=l) (l':=a++b) h1.2 fun y hy=>by
   rcases C7.1 (hs y (C2 _ hy)) with h|h
   ·exact K8 _ h
   ·rcases D7.1 h with rfl|h
    ·exact absurd hy h1.1
    ·exact G5 _ h
  simp only[B4,B7] at this⊢
  omega
theorem B28{B:Z2}{n:Nat}(h:X3 B n):B.aB.length≤1000000:=by
 have h1:(B.aB.map (·.aD)).Nodup:=by
  rw[List.nodup_iff_count]
  intro i
  have:=h.one i
  rw[List.count_eq_countP,List.countP_map,List.countP_eq_length_filter]
  exact this
 have h3:=B2J h1 (l':=B.aD.map (·.id)) fun i hi=>by
  obtain⟨x,hx,rfl⟩:=E4.1 hi
  obtain⟨s,hs,e⟩:=h.cl x hx
  exact e▸B3 hs
 simp only[B9] at h3
 have:=h.n32
 omega
theorem B6A{b n:Nat}{B:Z2}(ag:X3 B n)(hq:∀S:Slc,At (U4 eI 1 S (Z0 (B.aB.map (·.c)))::A0F b B::L1) (Q (.slice S.a S.len S.cap)))
  (hx:Has L (A0F b B) L1:=by repeat first|with_reducible exact U9|apply V1):FW prog 17 #[at0 b] L Q:=by
 refine fun h hs=>A5o (some ⟨b,0,none⟩) h Q ((?_:W (A0F b B::L1) _ _) h (hx.s hs))
 clear hs h hx
 delta A4x bn cc ie km nn pu
 refine W6 rfl ?_
 refine W3 ?_
 refine A2b (fun h R=>A1q.1) fun q=>?_
 refine W.load (v:=some q.cm) ?_
 refine b6 (C6x (m:=q.cm) fun x=>At.un (x:=Value.func (.func (A3I.f 10)) #[] #[.pointer (some ⟨x,0,none⟩)]) ?_)
 refine b6 (C3q (m:=q.cm) (l:=B.aB) (fun x hx=>(ag.wl x hx).2) (B28 ag) fun S=>At.un (x:=S) ?_)
 refine W.eU (A:=A0F b B) (B:=cells b (A7K q)) (C:=A1e q.tb B.last B.aD) (D:=l4 q.sb B.aH) (E:=A1l q.kb B.kept) (F:=mapA eKI eVC q.cm (B.aB.map z7)) (fun h hs=>A1q.2 ⟨q,hs⟩) ?_
 exact U1 (hq S).sub
theorem C2h{b n:Nat}{B:Z2}(ht:TP h0)(ag:X3 B n)(hq:At (A0F b (A1R B)::old h0::L2) (Q (.tuple #[])))
  (hx:Has L (A0F b B) L1:=by repeat first|with_reducible exact U9|apply V1)(hy:Has L1 (old h0) L2:=by repeat first|with_reducible exact U9|apply V1):FW prog 25 #[at0 b] L Q:=by
 refine fun h hs=>A4K (some ⟨b,0,none⟩) h Q ((?_:W (A0F b B::old h0::L2) _ _) h ((hx.then hy).s hs))
 clear hs h hx hy
 delta A3t az bn cc cx ie ix li nw pu vi vz wi
 refine Y0 fun x1=>?_
 refine b6 (B6A (b:=b) (B:=B) ag (fun S=>At.un (x:=S) ?_))
 have hp:(Z0 (B.aB.map (·.c))).Perm (B.aB.map (·.c)):=Q8 _ _
 rw[←B8v ag hp] at hq
 have ba:=B28 ag
 have hlen:(Z0 (B.aB.map (·.c))).length≤1000000:=by rw[hp.length_eq,B9];exact ba
 generalize Z0 (B.aB.map (·.c))=l at hq hlen⊢
 refine C6R (t:=x1) (b:=b) (full:=false) (B:=B) ?_
 refine Y2 (X1 (enc:=eI) (size:=1) (s:=S) (xs:=l)) fun hl=>?_
 refine W.loop (γ:=Nat×Z2) (fun g s=>s.1=(g.1:Int)∧g.1≤l.length∧X3 g.2 n∧(l.drop g.1).foldl A5k g.2=l.foldl A5k B) (fun g s=>X5 x1 b false ⟨g.2,[],[]⟩::U4 eI 1 S l::old h0::L2) (fun g=>l.length-g.1) (0,B) ⟨rfl,C9 _,ag,rfl⟩ ?_ ?_
 ·show Sub _ (X5 x1 b false ⟨B,[],[]⟩::U4 eI 1 S l::old h0::L2)
  repeat(first|with_reducible exact T5|with_reducible exact T6|refine T7 (by repeat first|with_reducible exact U9|apply V1) ?_|refine T8 ?_)
 rintro⟨i,B1⟩ s ⟨hi,ck,aF,hf⟩ K k1 k2
 simp only at hi ck aF hf
 by_cases ah:i<l.length
 ·refine X7 (by rw[hi,hl];exact decide_eq_true (by omega)) ?_
  have aQ:l[i]? =some l[i]:=B0 ah
  rw[D9 ah,I0] at hf
  generalize l[i]=u at aQ hf
  refine e8 (enc:=eI) (xs:=l) (i:=i) ah (fun a ha=>?_) (he:=hi)
  refine B6G (x:=u) (v:=u) ha aQ ?_
  refine Z1 (C20 (T:=⟨B1,[],[]⟩) (c:=u) (aX:=false) ht aF.toj7 (by simp) (by simp) (At.bD ?_))
  rw[C10]
  have f1:IntKind.wrap .i64 (s.1+1)=((i+1:Nat):Int):=by rw[hi,V5 (by omega) (by omega)];rfl
  have hn:=k1 (i+1,A5k B1 u) (IntKind.wrap .i64 (s.1+1),()) (by simp only;omega) ⟨f1,ah,B83 aF,hf⟩
  exact U1 hn.sub
 ·refine W6 (by rw[hi,hl];exact decide_eq_false (by omega)) (U1 (k2 _ _ ?_))
  have eh:i=l.length:=by omega
  subst eh
  rw[J7,P3] at hf
  rw[hf]
  refine C2k (A:=X5 x1 b false ⟨l.foldl A5k B,[],[]⟩) (fun h R hs=>A0P.1 hs) ?_
  exact U1 hq.sub
end
section
open Go.H Go.Proofs Go.Lib
theorem C46{t:B3O}(h0:0<t.size)(h1:(t[0]'h0).toNat<128)(h2:(t[0]'h0).toNat≠0):A2g t=1:=by
 have hd:Lib.decodeGo t=((t[0]'h0).toNat,1):=by
  unfold Lib.decodeGo
  rw[if_neg (by omega)]
  exact decode_ascii t 0 h0 h1
 unfold A2g
 rw[hd]
 rw[if_neg]
 rintro(e|⟨e,-⟩)
 ·exact h2 e
 ·simp only at e;omega
theorem C34{s:B3O}(hs:∀(i:Nat) (h:i<s.size),(s[i]'h).toNat<128∧(s[i]'h).toNat≠0):p7 s=none:=by
 have key:∀(f a:Nat),A5J s f a=none:=by
  intro f
  induction f with
  |zero=>intro a;rfl
  |succ f ih=>
   intro a
   unfold A5J
   by_cases ha:a<s.size
   ·rw[if_pos ha]
    have hsz:0<(s.extract a s.size).size:=by rw[ByteArray.size_extract];omega
    have hg:(s.extract a s.size)[0]'hsz=s[a]'ha:=by
     rw[ByteArray.getElem_extract];congr 1
    have:=C46 hsz (by rw[hg];exact(hs a ha).1) (by rw[hg];exact(hs a ha).2)
    rw[this,if_neg (by decide)]
    exact ih _
   ·rw[if_neg ha]
 exact key _ _
def C6M(s:B3O):Bool:=s.data.toList.all fun c=>decide (c.toNat<128)&&decide (c.toNat≠0)
theorem B1U{s:B3O}(h:C6M s=true):p7 s=none:=C34 fun i hi=>by
 unfold C6M at h
 have:=I8.1 h (s[i]'hi) (by
  have:s[i]'hi=s.data.toList[i]'(by simpa using hi):=by simp[ByteArray.getElem_eq_getElem_data]
  rw[this];exact H2 _)
 simpa using this
theorem A84(s:B3O):levels s=(lev 47 [] s.data.toList).map fun l=>ByteArray.mk l.toArray:=by
 refine A7h ?_
 rw[A2P,F0]
 symm
 refine(H9 fun x _=>?_).trans (T4 _)
 simp
def B8l(s:B3O):Bool:=C6M s&&decide (s.data.toList.length≠0)&&decide (s.data.toList.length≤256)&&decide ((lev 47 [] s.data.toList).length≤32)
theorem B7e{s:B3O}(h:B8l s=true):A1g s=true:=by
 unfold B8l at h
 simp only[E8,decide_eq_true_eq] at h
 obtain⟨⟨⟨h1,h2⟩,h3⟩,h4⟩:=h
 refine A0T.2 ⟨B1U h1,by simpa using h2,by simpa using h3,?_⟩
 rw[A84,B9];exact h4
theorem C5c{s:B3O}(h:B8l s=true)(h1:hasB 43 s=false)(h2:hasB 35 s=false):Y8 s=true:=by
 unfold Y8;rw[B7e h,h1,h2];rfl
theorem B5Q{s:B3O}(h:B8l s=true)(h1:A38 ((lev 47 [] s.data.toList).map fun l=>ByteArray.mk l.toArray)=true):X4 s=true:=by
 unfold X4;rw[B7e h,A84,h1];rfl
theorem B7F{f n:B3O}(hf:X4 f=true)(hn:Y8 n=true)(hd:A3T f n=false)(hm:A2m ((lev 47 [] f.data.toList).map fun l=>ByteArray.mk l.toArray) ((lev 47 [] n.data.toList).map fun l=>ByteArray.mk l.toArray)=true):Y9 f n=true:=by
 unfold Y9;rw[hf,hn,hd,A84,A84,hm];rfl
theorem B5K{s:B3O}(h:C6M s=true)(h1:s≠ByteArray.mk #[])(h2:s.size≤64):Z6 s:=⟨B1U h,h1,h2⟩
open Go.H Go.Proofs
abbrev w0:MsT:=(e0S,e0S,0,false,e0S)
abbrev B1J(aC:B3O):PkI:={kind:=1,dG:=false,eP:=0,id:=0,cC:=e0S,cQ:=e0S,code:=0,props:=[(17,100,e0S,e0S)],aC:=aC,clean:=false,bE:=false,aX:=w0,aH:=[],bK:=[]}
abbrev C6j(id:Int)(sl:List A0w):PkI:={kind:=8,dG:=false,eP:=0,id:=id,cC:=e0S,cQ:=e0S,code:=0,props:=[],aC:=e0S,clean:=false,bE:=false,aX:=w0,aH:=sl,bK:=[]}
abbrev C8v(m:MsT)(id:Int):PkI:={kind:=3,dG:=m.2.2.2.1,eP:=m.2.2.1,id:=id,cC:=m.1,cQ:=m.2.1,code:=0,props:=[],aC:=e0S,clean:=false,bE:=false,aX:=w0,aH:=[],bK:=[]}
def A3L(id:Int)(c:B3O):V7:=⟨id,c,true,true,⟨⟨64,0,[]⟩,64,true,[],[]⟩,⟨64,0,[]⟩⟩
def A2B(c:Int)(aC:B3O)(B:Z2):Z2:=⟨B.last+1,B.aD++[A3L (B.last+1) aC],B.aH,B.kept,B.aB++[⟨c,B.last+1,false,w0⟩]⟩
theorem C0J:A0g ⟨⟨64,0,[]⟩,64,false,[],[]⟩ 64=(⟨⟨64,0,[]⟩,64,true,[],[]⟩,[]):=by
 unfold A0g Y7
 simp[goF]
 decide
theorem C3i{l:List Y3}{id:Int}:A1w l id []=[]:=by
 unfold A1w
 simp
theorem C3t{A:List V7}{s:V7}{f:V7→V7}(hn:∀x∈A,x.id≠s.id):X8 s.id f (A++[s])=A++[f s]:=by
 unfold X8
 rw[B8,B6,I3,if_pos rfl]
 congr 1
 have:A.map (fun x=>if x.id=s.id then f x else x)=A.map id:=H9 fun x hx=>if_neg (hn x hx)
 rw[this,T4]
theorem B7P{A:List V7}{s:V7}(hn:∀x∈A,x.id≠s.id):A4E s.id (A++[s])=some s:=by
 unfold A4E
 rw[N8,E3.2 (fun x hx=>by simpa using hn x hx)]
 simp
theorem join_eq{full:Bool}{B:Z2}{n:Nat}{c:Int}{aC:B3O}(h:X3 B n)(hc:A04 c B.aB=none)(ho:ofS aC B.aD=none)(hl:B.aB.length<64)(hg:Z6 aC)(ea:B.aD.length<32):
  b9 full c (B1J aC) B=⟨A2B c aC B,[⟨c,A1y false,false⟩],[]⟩:=by
 have hb:A59 (B1J aC) B=0:=by
  unfold A59
  rw[if_neg (by simp),if_neg (by omega),if_neg (fun e=>e hg),if_neg (by omega)]
 have ax:∀x∈B.aD,x.id≠(A2s (B.last+1) aC true).id:=fun x hx=>by
  have:=(h.dP x hx).2
  show x.id≠B.last+1
  omega
 have hr:j1 aC false true B=((B.last+1,false),{B with last:=B.last+1,aD:=B.aD++[A2s (B.last+1) aC true]}):=by
  unfold j1;rw[ho]
 have hk:A0W full aC ⟨B,[],[]⟩=⟨B,[],[]⟩:=by unfold A0W;rw[ho]
 have iN:y8 [(17,100,e0S,e0S)]=true:=by unfold y8 A0N;rfl
 have wW:A1N [(17,100,e0S,e0S)]=64:=by unfold A1N A0N;rfl
 unfold b9
 rw[hc]
 simp only[if_true]
 unfold A1I
 rw[if_neg (by simpa using hb),A4N]
 simp only[hk,iN,wW,hr,ho]
 unfold A0M
 have tG:A4E (B.last+1) (B.aD++[A2s (B.last+1) aC true])=some (A2s (B.last+1) aC true):=B7P ax
 simp only[tG]
 have j':A0g (A2s (B.last+1) aC true).out 64=(⟨⟨64,0,[]⟩,64,true,[],[]⟩,[]):=C0J
 rw[j']
 have jA:X8 (B.last+1) (Y6 ⟨⟨64,0,[]⟩,64,true,[],[]⟩) (B.aD++[A2s (B.last+1) aC true])=B.aD++[A3L (B.last+1) aC]:=C3t ax
 simp only[jA,A1P]
 show U7.mk _ (_++A1w _ _ []) _=_
 rw[C3i,C1]
 rfl
abbrev tAP:B3O:=ByteArray.mk #[97,47,43]
abbrev tH:B3O:=ByteArray.mk #[35]
abbrev tAB:B3O:=ByteArray.mk #[97,47,98]
abbrev tC1:B3O:=ByteArray.mk #[99]
abbrev tD1:B3O:=ByteArray.mk #[100]
abbrev tX1:B3O:=ByteArray.mk #[120]
theorem C62:X4 tAP=true:=B5Q (by decide) (by decide)
theorem C8z:X4 tH=true:=B5Q (by decide) (by decide)
theorem C43:Y8 tAB=true:=C5c (by decide) (by decide) (by decide)
theorem C8A:Y9 tAP tAB=true:=B7F C62 C43 (by decide) (by decide)
theorem C9k:Y9 tH tAB=true:=B7F C8z C43 (by decide) (by decide)
theorem C8E:Z6 tC1:=B5K (by decide) (by decide) (by decide)
theorem C8D:Z6 tD1:=B5K (by decide) (by decide) (by decide)
abbrev slW:List A0w:=[(tAP,1,false,false,0),(tH,0,false,false,0)]
def B1w:Z2:=A2B 1 tC1 ⟨0,[],[],[],[]⟩
def E1w:List Ent:=[(1,tH,0),(1,tAP,1)]
def B2w:Z2:=B3Z E1w B1w
def B3w:Z2:=A2B 2 tD1 B2w
theorem C8U:A2G [] 1 tAP 1=(0,[(1,tAP,1)]):=by
 unfold A2G
 rw[if_neg (by rw[C62];decide),if_neg (by decide)]
 rfl
theorem C8T:A2G [(1,tAP,1)] 1 tH 0=(0,E1w):=by
 unfold A2G
 rw[if_neg (by rw[C8z];decide),if_neg (by decide)]
 have e:List.findIdx? (fun x=>decide (b8 x=(1,tH))) [((1:Int),tAP,(1:Int))]=none:=by decide
 rw[e]
 simp only
 rw[if_neg (by decide)]
 have e2:A2o ltK b8 ((1:Int),tH,(0:Int)) [((1:Int),tAP,(1:Int))]=E1w:=by
  unfold A2o
  rw[if_pos (by decide)]
  rfl
 rw[e2]
theorem C9m:j8 1 slW []=(E1w,[1,0]):=by
 unfold j8
 simp only[C8U]
 unfold j8
 simp only[C8T]
 unfold j8
 rfl
theorem C77:added 1 slW []=slW:=by
 unfold added
 simp only[C8U]
 unfold added
 simp only[C8T]
 unfold added
 rfl
theorem C1y:X3 ⟨0,[],[],[],[]⟩ 0:=X3.new
theorem w1:b9 false 1 (B1J tC1) ⟨0,[],[],[],[]⟩=⟨B1w,[⟨1,A1y false,false⟩],[]⟩:=join_eq C1y rfl rfl (by decide) C8E (by decide)
theorem w2:b9 false 1 (C6j 1 slW) B1w=⟨B2w,[⟨1,A0O 9 1 [1,0],false⟩],[]⟩:=by
 unfold b9
 have hg:A04 1 B1w.aB=some ⟨1,1,false,w0⟩:=rfl
 rw[hg]
 simp only
 unfold A9t
 rw[if_neg (by decide),if_neg (by decide),if_pos (by decide)]
 unfold A1f
 have hs:B1w.aH=[]:=rfl
 have hk:B1w.kept=[]:=rfl
 simp only[hs,C9m,C77]
 unfold j4
 simp only[I0,P3]
 rw[if_neg (by decide)]
 simp only[hk,A51,J4,P3]
 rw[if_neg (by decide)]
 rfl
theorem C8y:X3 B1w 1:=by
 have:=(A3C (full:=false) (c:=1) (p:=B1J tC1) C1y (by simp) (by simp) (by decide) (by decide) (by decide)).1
 rw[w1] at this;exact this
theorem C41:X3 B2w 2:=by
 have:=(A3C (full:=false) (c:=1) (p:=C6j 1 slW) C8y (by decide) (by decide) (by decide) (by decide) (by decide)).1
 rw[w2] at this;exact this
theorem w3:b9 false 2 (B1J tD1) B2w=⟨B3w,[⟨2,A1y false,false⟩],[]⟩:=join_eq C41 rfl (by decide) (by decide) C8D (by decide)
theorem C8x:X3 B3w 3:=by
 have:=(A3C (full:=false) (c:=2) (p:=B1J tD1) C41 (by decide) (by decide) (by decide) (by decide) (by decide)).1
 rw[w3] at this;exact this
abbrev mW:MsT:=(tAB,tX1,2,false,e0S)
theorem C4K(m:MsT)(hm:m.2.2.1=1):∃o i,Y1 ⟨⟨64,0,[]⟩,64,true,[],[]⟩ m=((o,[A0s m i false]),0):=by
 unfold Y1
 rw[if_neg (by omega),if_neg (by omega),if_neg (by simp)]
 unfold Y7
 rw[if_pos rfl]
 simp only[F2]
 unfold goF
 rw[if_neg (by simp),if_pos (by omega)]
 simp only[goF]
 exact⟨_,_,rfl⟩
theorem w4:∃B p i,b9 false 2 (C8v mW 9) B3w=⟨B,[⟨2,Z7 5 9 0,false⟩,⟨1,A0s p i false,false⟩],[mW]⟩∧p.2.2.1=1:=by
 unfold b9
 have hg:A04 2 B3w.aB=some ⟨2,2,false,w0⟩:=rfl
 rw[hg]
 simp only
 unfold A9t
 rw[if_pos (by decide)]
 unfold A6h
 have rA:A4E 2 B3w.aD=some (A3L 2 tD1):=rfl
 rw[if_neg (by rw[C43];decide),rA]
 have ht:k9 (A3L 2 tD1).aZ 3 2 9 0=(true,some (5,0),0,[9]):=by decide
 simp only[ht,if_neg (show ¬(false=true) by decide)]
 rw[if_neg (by simp),if_pos (by simp)]
 unfold A3Z A0A A1X
 rw[if_neg (by decide)]
 have iw:B3w.aH=E1w:=rfl
 have hf:E1w.filter (fun x=>Y9 x.2.1 tAB)=E1w:=H0.2 fun x hx=>by
  rcases D7.1 hx with rfl|hx
  ·exact C9k
  ·rw[C0.1 hx];exact C8A
 simp only[iw,hf]
 have hid:A46 none E1w=[1]:=by decide
 rw[hid]
 simp only[I0,P3]
 have dT:min (2:Int) (A2A E1w 1)=1:=by decide
 unfold A1a
 simp only[dT]
 unfold A0M
 obtain⟨o,i,wH⟩:=C4K (tAB,tX1,1,false,e0S) rfl
 have xj:A4E 1 (X8 2 (j3 ⟨(A3L 2 tD1).aZ.most,(A3L 2 tD1).aZ.taken,[9]⟩) B3w.aD)=some (A3L 1 tC1):=rfl
 simp only[xj]
 have sN:(A3L 1 tC1).out=⟨⟨64,0,[]⟩,64,true,[],[]⟩:=rfl
 rw[sN,wH]
 exact⟨_,(tAB,tX1,1,false,e0S),i,rfl,rfl⟩
variable {h h0:Heap} {L L' L1 L2 L3 L4 L5 R:List Asn} {Q:Value→Heap→Prop}
theorem B9k{β γ:Type}{t:Tag}{enc:γ→C9w}{size:Nat}{s:Slc}{xs:List γ}{Q':β→Heap→Prop}{i j k:Nat}{a:Addr}{x:γ}{v:t.ty}{f:t.ty→HM β}(ha:El s size i a)(hi:xs[i]? =some x)(hw:W L (f v) Q')(hx:Has L (U4 enc size s xs) L':=by repeat first|with_reducible exact U9|apply V1)(hv:((enc x)[j+k]?).bind t.get=some v:=by rfl)[Enc enc size]:W L (HM.bind (o9 t (Addr.add (Addr.add a j) k)) f) Q':=by
 rw[A8T]
 exact A3Q ha hi hw hx hv
theorem C5Z{α γ:Type}{enc:γ→C9w}{size:Nat}{m:HM α}{Q':α→Heap→Prop}{x:Nat}{cs:C9v}(u:γ)(hw:W (U4 enc size ⟨some ⟨x,0,none⟩,1,1⟩ [u]::L') m Q')(hx:Has L (cells x cs) L':=by repeat first|with_reducible exact U9|apply V1)(hc:cs=(enc u).toArray:=by rfl)[Enc enc size]:W L m Q':=fun h hs=>by
 subst hc
 refine hw h (A1A (b:=x) (o:=0) (cs:=(enc u).toArray) ⟨by simp,D6 _,rfl,by simp[Enc.len (enc:=enc)],by
  simp[Enc.len (enc:=enc)]
  exact D2 (S8 (Enc.len u))⟩ (hx.s hs))
abbrev l5:Slc:=⟨none,0,0⟩
abbrev B3P(x:Nat)(aC:B3O):Pk:=(1,false,false,0,0,e0S,e0S,0,l5,⟨some ⟨x,0,none⟩,1,1⟩,aC,false,0,false,e0S,e0S,0,false,l5,false,false,e0S,e0S,false,l5,l5,())
abbrev C7i(S:Slc)(id:Int):Pk:=(8,false,false,0,id,e0S,e0S,0,l5,l5,e0S,false,0,false,e0S,e0S,0,false,l5,false,false,e0S,e0S,false,S,l5,())
abbrev C1p(m:MsT)(id:Int):Pk:=(3,false,m.2.2.2.1,m.2.2.1,id,m.1,m.2.1,0,l5,l5,e0S,false,0,false,e0S,e0S,0,false,l5,false,false,e0S,e0S,false,l5,l5,())
theorem A4G:e0S.size≤9223372036854775807:=by decide
theorem C5j{x:Nat}{aC:B3O}(h:aC.size≤9223372036854775807):C2m (B3P x aC) [(17,100,e0S,e0S)] [] []:=⟨A4G,h,A4G,by decide,by decide,by simp,by decide,by simp⟩
theorem C6k{S:Slc}{id:Int}{sl:List A0w}(h:sl.length≤100)(h2:∀s∈sl,s.1.size≤9223372036854775807):C2m (C7i S id) [] sl []:=⟨A4G,A4G,A4G,by decide,h,h2,by decide,by simp⟩
theorem C2K{m:MsT}{id:Int}(h:m.1.size≤9223372036854775807):C2m (C1p m id) [] [] []:=⟨h,A4G,A4G,by decide,by decide,by simp,by decide,by simp⟩
theorem C1H{b n:Nat}{B B1 B2:Z2}{c:Int}{aC:B3O}{sl:List A0w}{S:Slc}{o1 o2:j5}{r1 r2:List j5}{ps:List MsT}(ht:TP h0)(ag:X3 B n)(hn:n≤999999)(au:(B.aB.map (·.c)).Nodup)(jV:B.kept.length≤64)(bR: -9223372036854775808≤c∧c≤9223372036854775807)(ba:aC.size≤9223372036854775807)
  (cG:sl.length≤100)(jA:∀s∈sl,s.1.size≤9223372036854775807)
  (h1:b9 false c (B1J aC) B=⟨B1,o1::r1,[]⟩)(ef:o1.pk.kind=2)(fw:o1.pk.code=0)
  (h2:(sl=[]∧B2=B1)∨(sl≠[]∧b9 false c (C6j 1 sl) B1=⟨B2,o2::r2,ps⟩∧o2.pk.kind=9∧o2.pk.bZ.length=sl.length))
  (hq:At (A0F b B2::old h0::L3) (Q (.bool true)))(hx:Has L (A0F b B) L1:=by repeat first|with_reducible exact U9|apply V1)(hy:Has L1 (old h0) L2:=by repeat first|with_reducible exact U9|apply V1)(hz:Has L2 (U4 X9 5 S sl) L3:=by repeat first|with_reducible exact U9|apply V1):
  FW prog 11 #[at0 b,.int .i64 c,.string aC,.slice S.a S.len S.cap] L Q:=by
 refine fun h hs=>B2O (some ⟨b,0,none⟩) c aC S h Q ((?_:W (A0F b B::old h0::U4 X9 5 S sl::L3) _ _) h ((hx.cV hy hz).s hs))
 clear hs h hx hy hz
 have aF:X3 B1 (n+1):=by
  have:=(A3C (full:=false) (c:=c) (p:=B1J aC) ag au jV (by simp) A4G bR).1
  rw[h1] at this;exact this
 delta B5z az bn ie ix jc kc ki ku nw pu sn ve vi vs vz
 refine Y0 fun x1=>?_
 refine C5Z (enc:=W8) ((17,100,e0S,e0S):o8) ?_
 refine A3p X9 5 ?_
 refine A3p v8 1 ?_
 refine b6 (A6T (p:=B3P x1 aC) (pl:=[(17,100,e0S,e0S)]) (sl:=[]) (fl:=[]) (full:=false) ht ag (by omega) (C5j ba) bR (fun so sp=>At.un (x:=(so,sp,())) ?_))
 rw[show b9 false c (pkI (B3P x1 aC) [(17,100,e0S,e0S)] [] []) B=⟨B1,o1::r1,[]⟩ from h1]
 dsimp only
 refine Y0 fun x3=>?_
 refine A0a ?_
 refine Y2 (X1 (enc:=Z4) (size:=5) (s:=sp) (xs:=([]:List MsT))) fun fb=>?_
 refine B68 (fun h R=>A1S.1) fun T hT=>?_
 obtain⟨⟨c1,p1,o⟩,T,rfl⟩:∃a T',T=a::T':=by cases T with|nil=>cases hT|cons a T=>exact⟨a,T,rfl⟩
 have oS:o=o1:=(S9 hT).1
 clear hT
 subst oS
 refine Y2 (X1 (enc:=A0o .u8) (size:=28) (s:=so) (xs:=((c1,p1,o)::T).map ouF)) fun fN=>?_
 refine A07 (fun r=>r.1=false) (fun K hK=>?_) (fun r hr=>?_)
 ·refine W.load (v:=so) ?_
  refine W6 (by rw[fN];exact decide_eq_false (by simp only[B6,B7];omega)) ?_
  refine W.load (v:=so) ?_
  refine e8 (enc:=A0o .u8) (xs:=((c1,p1,o)::T).map ouF) (i:=0) (by simp) (fun a ha=>?_)
  refine B9k (x:=ouF (c1,p1,o)) (v:=o.pk.kind) ha rfl ?_
  refine W6 (by rw[ef];rfl) ?_
  refine W.load (v:=so) ?_
  refine e8 (enc:=A0o .u8) (xs:=((c1,p1,o)::T).map ouF) (i:=0) (by simp) (fun a2 dq=>?_)
  refine B9k (x:=ouF (c1,p1,o)) (v:=o.pk.code) dq rfl ?_
  refine W6 (by rw[fw];rfl) ?_
  refine i7 (b:=x3) (i:=1) (v:=sp) ?_
  refine U1 (hK _ ?_)
  rw[fb];rfl
 refine W6 hr ?_
 refine Y2 (X1 (enc:=X9) (size:=5) (s:=S) (xs:=sl)) fun eK=>?_
 rcases h2 with⟨rfl,rfl⟩|⟨bz,h2,gm,eu⟩
 ·refine X7 (by rw[eK];rfl) ?_
  exact U1 hq.sub
 ·refine W6 (by rw[eK];exact decide_eq_false (fun e=>bz (J9.1 (by omega)))) ?_
  refine A3p W8 4 ?_
  refine A3p v8 1 ?_
  refine b6 (A6T (B:=B1) (p:=C7i S 1) (pl:=[]) (sl:=sl) (fl:=[]) (full:=false) ht aF (by omega) (C6k cG jA) bR (fun gb iv=>At.un (x:=(gb,iv,())) ?_))
  rw[show b9 false c (pkI (C7i S 1) [] sl []) B1=⟨B2,o2::r2,ps⟩ from h2]
  dsimp only
  refine Y0 fun pv=>?_
  refine A0a ?_
  refine B68 (fun h R hs=>(A1S (k:=.u8) (s:=gb) (os:=o2::r2)).1 hs) fun T2 nX=>?_
  obtain⟨⟨c2,p2,o'⟩,T2,rfl⟩:∃a T',T2=a::T':=by cases T2 with|nil=>cases nX|cons a T=>exact⟨a,T,rfl⟩
  have ub:o'=o2:=(S9 nX).1
  clear nX
  subst ub
  refine Y2 (X1 (enc:=A0o .u8) (size:=28) (s:=gb) (xs:=((c2,p2,o')::T2).map ouF)) fun tc=>?_
  refine Y2 (A:=a7 (ouB .u8) ((c2,p2,o')::T2)) (p:=c2.len=o'.pk.bZ.length) (fun h R hs=>?_) fun tT=>?_
  ·have h5:sat h (a7 (ouB .u8) [(c2,p2,o')]::a7 (ouB .u8) T2::R):=A5e.1 hs
   have h6:=A4B.1 (A3O.1 h5)
   exact h6.aW
  refine A07 (fun r=>r.1=true) (fun K hK=>?_) (fun r cI=>?_)
  ·refine W.load (v:=gb) ?_
   refine X7 (by rw[tc];exact decide_eq_true (by simp only[B6,B7];omega)) ?_
   refine W.load (v:=gb) ?_
   refine e8 (enc:=A0o .u8) (xs:=((c2,p2,o')::T2).map ouF) (i:=0) (by simp) (fun a ha=>?_)
   refine B9k (x:=ouF (c2,p2,o')) (v:=o'.pk.kind) ha rfl ?_
   refine X7 (by rw[gm];rfl) ?_
   refine W.load (v:=gb) ?_
   refine e8 (enc:=A0o .u8) (xs:=((c2,p2,o')::T2).map ouF) (i:=0) (by simp) (fun a2 dq=>?_)
   refine B9k (x:=ouF (c2,p2,o')) (v:=c2) dq rfl ?_
   refine U1 (hK _ ?_)
   rw[tT,eu,eK];simp
  refine U1 ?_
  show At _ (Q (.bool r.1))
  rw[cI]
  exact hq.sub
end
section
open Go.H Go.Proofs
variable {h h0:Heap} {L L' L1 L2 L3 L4 L5 R:List Asn} {Q:Value→Heap→Prop}
theorem C8X{β:Type}{b o:Nat}{cs cs':C9v}{vs:C9w}{f:Unit→HM β}{Q':β→Heap→Prop}(hw:W (cells b cs'::L') (f ()) Q')(hx:Has L (cells b cs) L':=by repeat first|with_reducible exact U9|apply V1)(hc:cs.toList.take o++vs++cs.toList.drop (o+vs.length)=cs'.toList:=by rfl)(hl:(o+vs.length).ble cs.size=true:=by rfl)(hv:vs.all (fun v=>v.oneCell')=true:=by rfl):
  W L (HM.bind (A91 (Addr.add ⟨b,0,none⟩ o) vs) f) Q':=fun h hs=>by
 have aa:=hx.s hs
 have gU:o+vs.length≤cs.size:=O6 hl
 rw[U2]
 refine⟨A3k (o:=o) aa gU (I8.1 hv),?_⟩
 obtain⟨c2,e1,e2,h2⟩:=sat.setCells vs cs o 0 aa (by omega)
 simp only[O4] at e2
 have e3:c2=cs':=I2.1 (e2.trans hc)
 subst e3
 exact hw _ h2
theorem C6Q{γ β:Type}{enc:γ→C9w}{size:Nat}{s s2:Slc}{xs:List γ}{f:Slc→HM β}{Q':β→Heap→Prop}(hr:Z5 enc size h0 s xs)(hw:∀s',Z5 enc size h0 s' (xs.take 80)→W L (f s') Q')(hs:s2=s:=by rfl):
  W L (HM.bind (HM.slice s none (some (if 80<(((s2.len:Nat):Int):Int) then 80 else((s2.len:Nat):Int))) none size) f) Q':=by
 subst hs
 have hl:=hr.1
 by_cases jn:80<xs.length
 ·rw[if_pos (by omega)]
  exact C28 (n:=80) hr (by omega) hw
 ·rw[if_neg (by omega)]
  have e:xs.take 80=xs.take xs.length:=by rw[D2 (by omega),F5]
  refine C28 (n:=xs.length) hr (D6 _) (fun s' dr=>hw s' (by rw[e];exact dr)) (by rw[hl])
theorem C2L{S:Slc}{pl:List o8}(hr:Z5 W8 4 h0 S pl)(hq:∀S1 S2:Slc,At (U4 W8 4 S1 (pl.take 80)::U4 W8 4 S2 (pl.take 80)::old h0::L1) (Q (.tuple #[.slice S1.a S1.len S1.cap,.slice S2.a S2.len S2.cap])))
  (hx:Has L (old h0) L1:=by repeat first|with_reducible exact U9|apply V1):FW prog 39 #[.slice S.a S.len S.cap] L Q:=by
 refine fun h hs=>B1F S h Q ((?_:W (old h0::L1) _ _) h (hx.s hs))
 clear hs h hx
 delta B3K az bn g8 ie ix nw pu rq sn wi
 refine C6Q hr (fun s' dr=>?_)
 have jn:(pl.take 80).length≤80:=J5 _ _
 generalize pl.take 80=xs at dr hq jn
 refine B67 W8 4 (xs.take 0) ?_
 refine B67 W8 4 (xs.take 0) ?_
 refine W.loop (γ:=Nat) (fun g s=>s.2.2.1=(g:Int)∧g≤xs.length) (fun g s=>U4 W8 4 s.1 (xs.take g)::U4 W8 4 s.2.1 (xs.take g)::old h0::L1) (fun g=>xs.length-g) 0 ⟨rfl,C9 _⟩ Sub.rfl ?_
 rintro i s ⟨hi,ck⟩ K k1 k2
 by_cases ah:i<xs.length
 ·refine X7 (by rw[hi,dr.1];exact decide_eq_true (by omega)) ?_
  have aQ:xs[i]? =some xs[i]:=B0 ah
  have aV:xs.take (i+1)=xs.take i++[xs[i]]:=C3 ah
  generalize xs[i]=u at aQ aV
  have hb:((xs.take i).length+1)*48≤140737488355328:=by rw[E1];omega
  have hn:∀S1 S2:Slc,At (U4 W8 4 S1 (xs.take i++[u])::U4 W8 4 S2 (xs.take i++[u])::old h0::L1) (K (.inl (S1,S2,IntKind.wrap .i64 (s.2.2.1+1),()))):=fun S1 S2=>by
   have:=k1 (i+1) (S1,S2,IntKind.wrap .i64 (s.2.2.1+1),()) (by omega) ⟨by simp only[hi];rw[V5 (by omega) (by omega)];rfl,ah⟩
   simp only at this
   rw[aV] at this
   exact this
  refine A7N dr ah (fun a ha=>?_) (he:=hi)
  refine B4v (v:=prU u) dr ha aQ ?_
  refine Y0 fun x6=>?_
  refine A0a ?_
  refine q8 (v:=prU u) ?_
  refine q8 (v:=prU u) ?_
  repeat' (first|refine Y0 fun _=>?_|refine q8 (v:=prU u) ?_|refine A06 ?_ rfl|with_reducible refine A7O ?_ ?_|refine A9E (enc:=W8) u (fun _=>?_) hb)
  all_goals exact U1 (hn _ _).sub
 ·refine W6 (by rw[hi,dr.1];exact decide_eq_false (by omega)) (U1 (k2 _ _ ?_))
  have eh:i=xs.length:=by omega
  subst eh
  rw[F5]
  exact U1 (hq _ _).sub
structure C8Z(h0:Heap)(p:Pk)(pl wl:List o8)(cl:List Int)(sl:List A0w)(fl:List B3O):Prop where
 props:Z5 W8 4 h0 (p.2.2.2.2.2.2.2.2.2.1) pl
 wprops:Z5 W8 4 h0 (p.2.2.2.2.2.2.2.2.2.2.2.2.2.2.2.2.2.2.1) wl
 bZ:Z5 (eKd .u8) 1 h0 (p.2.2.2.2.2.2.2.2.1) cl
 aH:Z5 X9 5 h0 (p.2.2.2.2.2.2.2.2.2.2.2.2.2.2.2.2.2.2.2.2.2.2.2.2.1) sl
 eR:Z5 v8 1 h0 (p.2.2.2.2.2.2.2.2.2.2.2.2.2.2.2.2.2.2.2.2.2.2.2.2.2.1) fl
abbrev pkR(p:Pk)(c:Int)(s8 s9 dD dz dy:Slc):Pk:=(p.1,p.2.1,p.2.2.1,p.2.2.2.1,p.2.2.2.2.1,p.2.2.2.2.2.1,p.2.2.2.2.2.2.1,c,s8,s9,p.2.2.2.2.2.2.2.2.2.2.1,p.2.2.2.2.2.2.2.2.2.2.2.1,p.2.2.2.2.2.2.2.2.2.2.2.2.1,p.2.2.2.2.2.2.2.2.2.2.2.2.2.1,p.2.2.2.2.2.2.2.2.2.2.2.2.2.2.1,p.2.2.2.2.2.2.2.2.2.2.2.2.2.2.2.1,p.2.2.2.2.2.2.2.2.2.2.2.2.2.2.2.2.1,p.2.2.2.2.2.2.2.2.2.2.2.2.2.2.2.2.2.1,dD,p.2.2.2.2.2.2.2.2.2.2.2.2.2.2.2.2.2.2.2.1,p.2.2.2.2.2.2.2.2.2.2.2.2.2.2.2.2.2.2.2.2.1,p.2.2.2.2.2.2.2.2.2.2.2.2.2.2.2.2.2.2.2.2.2.1,p.2.2.2.2.2.2.2.2.2.2.2.2.2.2.2.2.2.2.2.2.2.2.1,p.2.2.2.2.2.2.2.2.2.2.2.2.2.2.2.2.2.2.2.2.2.2.2.1,dz,dy,())
theorem C3J{p:Pk}{pl wl:List o8}{cl:List Int}{sl:List A0w}{fl:List B3O}{cc:Int}(hr:C8Z h0 p pl wl cl sl fl)(fh:cc=IntKind.wrap .i64 (p.2.2.2.2.2.2.2.1))
  (hq:∀c1 c2 p1 p2 w1 w2 s1 s2 f1 f2:Slc,At (U4 W8 4 p1 (pl.take 80)::U4 X9 5 s1 (sl.take 80)::U4 v8 1 f1 (fl.take 80)::U4 W8 4 p2 (pl.take 80)::U4 X9 5 s2 (sl.take 80)::U4 v8 1 f2 (fl.take 80)::old h0::L1) (Q (.tuple #[A2p .u8 (pkR p (p.2.2.2.2.2.2.2.1) c1 p1 w1 s1 f1),A2p .i64 (pkR p cc c2 p2 w2 s2 f2)])))
  (hx:Has L (old h0) L1:=by repeat first|with_reducible exact U9|apply V1):FW prog 16 #[A2p .u8 p] L Q:=by
 refine fun h hs=>A9v p h Q ((?_:W (old h0::L1) _ _) h (hx.s hs))
 clear hs h hx
 obtain⟨uG,pS,uH,pR,pQ⟩:=hr
 obtain⟨vk,vd,vr,vq,vi,vt,vp,vc,s8,s9,cF,cD,cw,cy,db,dg,df,dc,dD,cz,cB,vu,cv,cq,dz,dy,⟨⟩⟩:=p
 dsimp only at uG pS uH pR pQ fh hq
 delta A9Q ad az bn g2 A0R g6 ie ix jb jc ji jt ju kb kc ki kt lt lu nw pu rq sn so sw sx ve vi vs vz w10 w11 w12 w13 w14 w15 w16 w17 w18 w19 w20 w21 w22 w23 w24 w25 w5 w6 w7 w8 w9 wi
 let C8:Slc→Slc→Slc→Slc→Slc→C9v:=fun a b c d e=>#[.int .i64 vk,.bool vd,.bool vr,.int .i64 vq,.int .i64 vi,.string vt,.string vp,.int .u8 vc,.slice a.a a.len a.cap,.slice b.a b.len b.cap,.string cF,.bool cD,.int .i64 cw,.bool cy,.string db,.string dg,.int .i64 df,.bool dc,.slice c.a c.len c.cap,.bool cz,.bool cB,.string vu,.string cv,.bool cq,.slice d.a d.len d.cap,.slice e.a e.len e.cap]
 let C6:Slc→Slc→Slc→Slc→Slc→C9v:=fun a b c d e=>#[.int .i64 vk,.bool vd,.bool vr,.int .i64 vq,.int .i64 vi,.string vt,.string vp,.int .i64 cc,.slice a.a a.len a.cap,.slice b.a b.len b.cap,.string cF,.bool cD,.int .i64 cw,.bool cy,.string db,.string dg,.int .i64 df,.bool dc,.slice c.a c.len c.cap,.bool cz,.bool cB,.string vu,.string cv,.bool cq,.slice d.a d.len d.cap,.slice e.a e.len e.cap]
 refine Y0 fun x1=>?_
 refine W.cells (b:=x1) (C8 s8 s9 dD dz dy) ?_
 refine Y0 fun x2=>?_
 refine Y0 fun x3=>?_
 refine W.load (b:=x1) (v:=vk) ?_
 refine W.load (b:=x1) (v:=vd) ?_
 refine W.load (b:=x1) (v:=vr) ?_
 refine W.load (b:=x1) (v:=vq) ?_
 refine W.load (b:=x1) (v:=vi) ?_
 refine W.load (b:=x1) (v:=vt) ?_
 refine W.load (b:=x1) (v:=vp) ?_
 refine W.load (b:=x1) (v:=vc) ?_
 refine W.load (b:=x1) (v:=cF) ?_
 refine W.load (b:=x1) (v:=cD) ?_
 refine W.load (b:=x1) (v:=cw) ?_
 refine W.load (b:=x1) (v:=cy) ?_
 refine W.load (b:=x1) (v:=cz) ?_
 refine W.load (b:=x1) (v:=cB) ?_
 refine W.load (b:=x1) (v:=vu) ?_
 refine W.load (b:=x1) (v:=cv) ?_
 refine W.load (b:=x1) (v:=cq) ?_
 refine Y0 fun dx=>?_
 refine A0a (b:=dx) ?_
 refine W.cells (b:=dx) (#[.int .i64 vk,.bool vd,.bool vr,.int .i64 vq,.int .i64 vi,.string vt,.string vp,.int .u8 vc,.slice none 0 0,.slice none 0 0,.string cF,.bool cD,.int .i64 cw,.bool cy,.string e0S,.string e0S,.int .i64 0,.bool false,.slice none 0 0,.bool cz,.bool cB,.string vu,.string cv,.bool cq,.slice none 0 0,.slice none 0 0]) ?_
 refine W.load (b:=x1) (v:=vk) ?_
 refine W.load (b:=x1) (v:=vd) ?_
 refine W.load (b:=x1) (v:=vr) ?_
 refine W.load (b:=x1) (v:=vq) ?_
 refine W.load (b:=x1) (v:=vi) ?_
 refine W.load (b:=x1) (v:=vt) ?_
 refine W.load (b:=x1) (v:=vp) ?_
 refine W.load (b:=x1) (v:=vc) ?_
 refine W.load (b:=x1) (v:=cF) ?_
 refine W.load (b:=x1) (v:=cD) ?_
 refine W.load (b:=x1) (v:=cw) ?_
 refine W.load (b:=x1) (v:=cy) ?_
 refine W.load (b:=x1) (v:=cz) ?_
 refine W.load (b:=x1) (v:=cB) ?_
 refine W.load (b:=x1) (v:=vu) ?_
 refine W.load (b:=x1) (v:=cv) ?_
 refine W.load (b:=x1) (v:=cq) ?_
 refine Y0 fun ew=>?_
 refine A0a (b:=ew) ?_
 rw[←fh]
 refine W.cells (b:=ew) (#[.int .i64 vk,.bool vd,.bool vr,.int .i64 vq,.int .i64 vi,.string vt,.string vp,.int .i64 cc,.slice none 0 0,.slice none 0 0,.string cF,.bool cD,.int .i64 cw,.bool cy,.string e0S,.string e0S,.int .i64 0,.bool false,.slice none 0 0,.bool cz,.bool cB,.string vu,.string cv,.bool cq,.slice none 0 0,.slice none 0 0]) ?_
 refine W.load (b:=x1) (v:=s9) ?_
 refine Z1 (C2L uG (fun p1 p2=>At.bD (x:=(p1,p2,())) ?_))
 refine W.store (b:=dx) (cs':=#[.int .i64 vk,.bool vd,.bool vr,.int .i64 vq,.int .i64 vi,.string vt,.string vp,.int .u8 vc,.slice none 0 0,.slice p1.a p1.len p1.cap,.string cF,.bool cD,.int .i64 cw,.bool cy,.string e0S,.string e0S,.int .i64 0,.bool false,.slice none 0 0,.bool cz,.bool cB,.string vu,.string cv,.bool cq,.slice none 0 0,.slice none 0 0]) ?_
 refine W.store (b:=ew) (cs':=#[.int .i64 vk,.bool vd,.bool vr,.int .i64 vq,.int .i64 vi,.string vt,.string vp,.int .i64 cc,.slice none 0 0,.slice p2.a p2.len p2.cap,.string cF,.bool cD,.int .i64 cw,.bool cy,.string e0S,.string e0S,.int .i64 0,.bool false,.slice none 0 0,.bool cz,.bool cB,.string vu,.string cv,.bool cq,.slice none 0 0,.slice none 0 0]) ?_
 refine i7 (b:=x1) (i:=14) (v:=db) ?_
 refine i7 (b:=x1) (i:=15) (v:=dg) ?_
 refine i7 (b:=x1) (i:=16) (v:=df) ?_
 refine i7 (b:=x1) (i:=17) (v:=dc) ?_
 refine C8X (b:=dx) (cs':=(C8 l5 p1 l5 l5 l5)) ?_
 refine i7 (b:=x1) (i:=14) (v:=db) ?_
 refine i7 (b:=x1) (i:=15) (v:=dg) ?_
 refine i7 (b:=x1) (i:=16) (v:=df) ?_
 refine i7 (b:=x1) (i:=17) (v:=dc) ?_
 refine C8X (b:=ew) (cs':=(C6 l5 p2 l5 l5 l5)) ?_
 refine i7 (b:=x1) (i:=18) (v:=dD) ?_
 refine Z1 (C2L pS (fun w1 w2=>At.bD (x:=(w1,w2,())) ?_))
 refine A4e (b:=dx) (i:=18) (cs':=(C8 l5 p1 w1 l5 l5)) ?_
 refine A4e (b:=ew) (i:=18) (cs':=(C6 l5 p2 w2 l5 l5)) ?_
 refine W.load (b:=x1) (v:=s8) ?_
 refine W.load (b:=x1) (v:=s8) ?_
 refine C6Q uH (fun s' dr=>?_)
 have jn:(cl.take 80).length≤80:=J5 _ _
 generalize eE:cl.take 80=xs at dr jn
 clear eE
 refine B67 (eKd .u8) 1 (xs.take 0) ?_
 refine B67 (eKd .i64) 1 ((xs.take 0).map (IntKind.wrap .i64)) ?_
 refine W.loop (γ:=Nat×Slc×Slc) (fun g s=>s.1=(g.1:Int)∧g.1≤xs.length) (fun g s=>cells dx (C8 g.2.1 p1 w1 l5 l5)::cells ew (C6 g.2.2 p2 w2 l5 l5)::U4 (eKd .u8) 1 g.2.1 (xs.take g.1)::U4 (eKd .i64) 1 g.2.2 ((xs.take g.1).map (IntKind.wrap .i64))::cells x1 ((C8 s8 s9 dD dz dy))::cells x2 zS3::cells x3 zS2::U4 W8 4 p1 (pl.take 80)::U4 W8 4 p2 (pl.take 80)::old h0::L1)
  (fun g=>xs.length-g.1) (0,l5,l5) ⟨rfl,C9 _⟩ ?_ ?_
 ·show Sub _ (cells dx (C8 l5 p1 w1 l5 l5)::cells ew (C6 l5 p2 w2 l5 l5)::U4 (eKd .u8) 1 l5 (xs.take 0)::U4 (eKd .i64) 1 l5 ((xs.take 0).map (IntKind.wrap .i64))::cells x1 ((C8 s8 s9 dD dz dy))::cells x2 zS3::cells x3 zS2::U4 W8 4 p1 (pl.take 80)::U4 W8 4 p2 (pl.take 80)::old h0::L1)
  repeat(first|with_reducible exact T5|with_reducible exact T6|refine T7 (by repeat first|with_reducible exact U9|apply V1) ?_|refine T8 ?_)
 rintro⟨i,c1,c2⟩ s ⟨hi,ck⟩ K k1 k2
 simp only at hi ck
 by_cases ah:i<xs.length
 ·refine X7 (by rw[hi,dr.1];exact decide_eq_true (by omega)) ?_
  have aQ:xs[i]? =some xs[i]:=B0 ah
  have aV:xs.take (i+1)=xs.take i++[xs[i]]:=C3 ah
  generalize xs[i]=u at aQ aV
  have fT:((xs.take i).length+1)*1≤140737488355328:=by simp only[B9,E1];omega
  have dw:(((xs.take i).map (IntKind.wrap .i64)).length+1)*8≤140737488355328:=by simp only[B9,E1];omega
  have hn:∀T1 T2:Slc,At (cells dx (C8 T1 p1 w1 l5 l5)::cells ew (C6 T2 p2 w2 l5 l5)::U4 (eKd .u8) 1 T1 (xs.take i++[u])::U4 (eKd .i64) 1 T2 ((xs.take i).map (IntKind.wrap .i64)++[IntKind.wrap .i64 u])::cells x1 ((C8 s8 s9 dD dz dy))::cells x2 zS3::cells x3 zS2::U4 W8 4 p1 (pl.take 80)::U4 W8 4 p2 (pl.take 80)::old h0::L1) (K (.inl (IntKind.wrap .i64 (s.1+1),()))):=fun T1 T2=>by
   have:=k1 (i+1,T1,T2) (IntKind.wrap .i64 (s.1+1),()) (by simp only;omega) ⟨by simp only[hi];rw[V5 (by omega) (by omega)];rfl,ah⟩
   simp only[aV,B8,B6,I3] at this
   exact this
  clear k1 k2
  refine A7N dr ah (fun a ha=>?_) (he:=hi)
  refine C6S (x:=u) (v:=u) dr ha aQ ?_
  refine W.load (b:=dx) (v:=c1) ?_
  refine W.load (b:=ew) (v:=c2) ?_
  repeat' (first|with_reducible refine A7O ?_ ?_|refine A9E (s:=c1) (enc:=eKd .u8) (u) (fun T1=>?_) fT|refine A9E (s:=c2) (enc:=eKd .i64) (IntKind.wrap .i64 u) (fun T2=>?_) dw|refine A06 ?_ rfl|refine W.load (b:=ew) (v:=c2) ?_|refine W.load (b:=dx) (v:=c1) ?_|refine Y0 fun _=>?_)
  all_goals
   refine W.store (b:=dx) (cs':=(C8 T1 p1 w1 l5 l5)) ?_
   refine W.store (b:=ew) (cs':=(C6 T2 p2 w2 l5 l5)) ?_
   exact U1 (hn T1 T2).sub
 refine W6 (by rw[hi,dr.1];exact decide_eq_false (by omega)) (U1 (k2 _ _ ?_))
 have eh:i=xs.length:=by omega
 subst eh
 clear k1 k2 jn
 clear dr ah ck hi
 dsimp only
 refine W.load (b:=x1) (v:=dz) ?_
 refine W.load (b:=x1) (v:=dz) ?_
 refine C6Q pR (fun s' dr=>?_)
 have jn:(sl.take 80).length≤80:=J5 _ _
 generalize eE:sl.take 80=xs at dr hq jn
 clear eE
 refine B67 (X9) 5 (xs.take 0) ?_
 refine B67 (X9) 5 (xs.take 0) ?_
 refine W.loop (γ:=Nat×Slc×Slc) (fun g s=>s.1=(g.1:Int)∧g.1≤xs.length) (fun g s=>cells dx (C8 c1 p1 w1 g.2.1 l5)::cells ew (C6 c2 p2 w2 g.2.2 l5)::U4 (X9) 5 g.2.1 (xs.take g.1)::U4 (X9) 5 g.2.2 (xs.take g.1)::cells x1 ((C8 s8 s9 dD dz dy))::cells x2 zS3::cells x3 zS2::U4 W8 4 p1 (pl.take 80)::U4 W8 4 p2 (pl.take 80)::old h0::L1)
  (fun g=>xs.length-g.1) (0,l5,l5) ⟨rfl,C9 _⟩ ?_ ?_
 ·show Sub _ (cells dx (C8 c1 p1 w1 l5 l5)::cells ew (C6 c2 p2 w2 l5 l5)::U4 (X9) 5 l5 (xs.take 0)::U4 (X9) 5 l5 (xs.take 0)::cells x1 ((C8 s8 s9 dD dz dy))::cells x2 zS3::cells x3 zS2::U4 W8 4 p1 (pl.take 80)::U4 W8 4 p2 (pl.take 80)::old h0::L1)
  repeat(first|with_reducible exact T5|with_reducible exact T6|refine T7 (by repeat first|with_reducible exact U9|apply V1) ?_|refine T8 ?_)
 rintro⟨i,s1,s2⟩ s ⟨hi,ck⟩ K k1 k2
 simp only at hi ck
 by_cases ah:i<xs.length
 ·refine X7 (by rw[hi,dr.1];exact decide_eq_true (by omega)) ?_
  have aQ:xs[i]? =some xs[i]:=B0 ah
  have aV:xs.take (i+1)=xs.take i++[xs[i]]:=C3 ah
  generalize xs[i]=u at aQ aV
  have fT:((xs.take i).length+1)*40≤140737488355328:=by simp only[B9,E1];omega
  have dw:((xs.take i).length+1)*40≤140737488355328:=by simp only[B9,E1];omega
  have hn:∀T1 T2:Slc,At (cells dx (C8 c1 p1 w1 T1 l5)::cells ew (C6 c2 p2 w2 T2 l5)::U4 (X9) 5 T1 (xs.take i++[u])::U4 (X9) 5 T2 (xs.take i++[u])::cells x1 ((C8 s8 s9 dD dz dy))::cells x2 zS3::cells x3 zS2::U4 W8 4 p1 (pl.take 80)::U4 W8 4 p2 (pl.take 80)::old h0::L1) (K (.inl (IntKind.wrap .i64 (s.1+1),()))):=fun T1 T2=>by
   have:=k1 (i+1,T1,T2) (IntKind.wrap .i64 (s.1+1),()) (by simp only;omega) ⟨by simp only[hi];rw[V5 (by omega) (by omega)];rfl,ah⟩
   simp only[aV,B8,B6,I3] at this
   exact this
  clear k1 k2 hq
  refine A7N dr ah (fun a ha=>?_) (he:=hi)
  refine B4v (x:=u) (v:=sbU u) dr ha aQ ?_
  refine Y0 fun fU=>?_
  refine A0a (b:=fU) ?_
  refine W.load (b:=dx) (v:=s1) ?_
  refine q8 (b:=fU) (v:=sbU u) ?_
  refine W.load (b:=ew) (v:=s2) ?_
  refine q8 (b:=fU) (v:=sbU u) ?_
  repeat' (first|with_reducible refine A7O ?_ ?_|refine A9E (s:=s1) (enc:=X9) (u) (fun T1=>?_) fT|refine A9E (s:=s2) (enc:=X9) (u) (fun T2=>?_) dw|refine A06 ?_ rfl|refine W.load (b:=ew) (v:=s2) ?_|refine W.load (b:=dx) (v:=s1) ?_|refine q8 (b:=fU) (v:=sbU u) ?_|refine Y0 fun _=>?_)
  all_goals
   refine W.store (b:=dx) (cs':=(C8 c1 p1 w1 T1 l5)) ?_
   refine W.store (b:=ew) (cs':=(C6 c2 p2 w2 T2 l5)) ?_
   exact U1 (hn T1 T2).sub
 refine W6 (by rw[hi,dr.1];exact decide_eq_false (by omega)) (U1 (k2 _ _ ?_))
 have eh:i=xs.length:=by omega
 subst eh
 clear k1 k2 jn
 rw[F5]
 dsimp only
 generalize xs=iF at*
 refine W.load (b:=x1) (v:=dy) ?_
 refine W.load (b:=x1) (v:=dy) ?_
 refine C6Q pQ (fun s' dr=>?_)
 have jn:(fl.take 80).length≤80:=J5 _ _
 generalize eE:fl.take 80=xs at dr hq jn
 clear eE
 refine B67 (v8) 1 (xs.take 0) ?_
 refine B67 (v8) 1 (xs.take 0) ?_
 refine W.loop (γ:=Nat×Slc×Slc) (fun g s=>s.1=(g.1:Int)∧g.1≤xs.length) (fun g s=>cells dx (C8 c1 p1 w1 s1 g.2.1)::cells ew (C6 c2 p2 w2 s2 g.2.2)::U4 (v8) 1 g.2.1 (xs.take g.1)::U4 (v8) 1 g.2.2 (xs.take g.1)::cells x1 ((C8 s8 s9 dD dz dy))::cells x2 zS3::cells x3 zS2::U4 W8 4 p1 (pl.take 80)::U4 W8 4 p2 (pl.take 80)::U4 X9 5 s1 iF::U4 X9 5 s2 iF::old h0::L1)
  (fun g=>xs.length-g.1) (0,l5,l5) ⟨rfl,C9 _⟩ ?_ ?_
 ·show Sub _ (cells dx (C8 c1 p1 w1 s1 l5)::cells ew (C6 c2 p2 w2 s2 l5)::U4 (v8) 1 l5 (xs.take 0)::U4 (v8) 1 l5 (xs.take 0)::cells x1 ((C8 s8 s9 dD dz dy))::cells x2 zS3::cells x3 zS2::U4 W8 4 p1 (pl.take 80)::U4 W8 4 p2 (pl.take 80)::U4 X9 5 s1 iF::U4 X9 5 s2 iF::old h0::L1)
  repeat(first|with_reducible exact T5|with_reducible exact T6|refine T7 (by repeat first|with_reducible exact U9|apply V1) ?_|refine T8 ?_)
 rintro⟨i,f1,f2⟩ s ⟨hi,ck⟩ K k1 k2
 simp only at hi ck
 by_cases ah:i<xs.length
 ·refine X7 (by rw[hi,dr.1];exact decide_eq_true (by omega)) ?_
  have aQ:xs[i]? =some xs[i]:=B0 ah
  have aV:xs.take (i+1)=xs.take i++[xs[i]]:=C3 ah
  generalize xs[i]=u at aQ aV
  have fT:((xs.take i).length+1)*16≤140737488355328:=by simp only[B9,E1];omega
  have dw:((xs.take i).length+1)*16≤140737488355328:=by simp only[B9,E1];omega
  have hn:∀T1 T2:Slc,At (cells dx (C8 c1 p1 w1 s1 T1)::cells ew (C6 c2 p2 w2 s2 T2)::U4 (v8) 1 T1 (xs.take i++[u])::U4 (v8) 1 T2 (xs.take i++[u])::cells x1 ((C8 s8 s9 dD dz dy))::cells x2 zS3::cells x3 zS2::U4 W8 4 p1 (pl.take 80)::U4 W8 4 p2 (pl.take 80)::U4 X9 5 s1 iF::U4 X9 5 s2 iF::old h0::L1) (K (.inl (IntKind.wrap .i64 (s.1+1),()))):=fun T1 T2=>by
   have:=k1 (i+1,T1,T2) (IntKind.wrap .i64 (s.1+1),()) (by simp only;omega) ⟨by simp only[hi];rw[V5 (by omega) (by omega)];rfl,ah⟩
   simp only[aV,B8,B6,I3] at this
   exact this
  clear k1 k2 hq
  refine A7N dr ah (fun a ha=>?_) (he:=hi)
  refine C6S (x:=u) (v:=u) dr ha aQ ?_
  refine W.load (b:=dx) (v:=f1) ?_
  refine W.load (b:=ew) (v:=f2) ?_
  repeat' (first|with_reducible refine A7O ?_ ?_|refine A9E (s:=f1) (enc:=v8) (u) (fun T1=>?_) fT|refine A9E (s:=f2) (enc:=v8) (u) (fun T2=>?_) dw|refine A06 ?_ rfl|refine W.load (b:=ew) (v:=f2) ?_|refine W.load (b:=dx) (v:=f1) ?_|refine Y0 fun _=>?_)
  all_goals
   refine W.store (b:=dx) (cs':=(C8 c1 p1 w1 s1 T1)) ?_
   refine W.store (b:=ew) (cs':=(C6 c2 p2 w2 s2 T2)) ?_
   exact U1 (hn T1 T2).sub
 refine W6 (by rw[hi,dr.1];exact decide_eq_false (by omega)) (U1 (k2 _ _ ?_))
 have eh:i=xs.length:=by omega
 subst eh
 clear k1 k2 jn
 rw[F5]
 dsimp only
 refine q8 (b:=dx) (v:=(vk,vd,vr,vq,vi,vt,vp,vc,c1,p1,cF,cD,cw,cy,db,dg,df,dc,w1,cz,cB,vu,cv,cq,s1,f1,())) ?_
 refine q8 (b:=ew) (v:=(vk,vd,vr,vq,vi,vt,vp,cc,c2,p2,cF,cD,cw,cy,db,dg,df,dc,w2,cz,cB,vu,cv,cq,s2,f2,())) ?_
 refine A0a (b:=x2) ?_
 refine q8 (b:=ew) (v:=(vk,vd,vr,vq,vi,vt,vp,cc,c2,p2,cF,cD,cw,cy,db,dg,df,dc,w2,cz,cB,vu,cv,cq,s2,f2,())) ?_
 refine A06 ?_ rfl
 refine A0a (b:=x3) ?_
 refine q8 (b:=x2) (v:=(vk,vd,vr,vq,vi,vt,vp,vc,c1,p1,cF,cD,cw,cy,db,dg,df,dc,w1,cz,cB,vu,cv,cq,s1,f1,())) ?_
 refine q8 (b:=x3) (v:=(vk,vd,vr,vq,vi,vt,vp,cc,c2,p2,cF,cD,cw,cy,db,dg,df,dc,w2,cz,cB,vu,cv,cq,s2,f2,())) ?_
 exact U1 (hq c1 c2 p1 p2 w1 w2 s1 s2 f1 f2).sub
end
section
open Go.ChangeShapes Go.WideShapes Go.ChangeAt Go.RowKit Go.Proofs Go.Lib Go.H
structure PkQ where
 pk:Pk
 cl:List Int
 pl:List o8
 wl:List o8
 sl:List A0w
 fl:List B3O
structure PkG(top:Nat)(h:Heap)(x:PkQ):Prop where
 rows:C8Z h x.pk x.pl x.wl x.cl x.sl x.fl
 cC:x.pk.2.2.2.2.2.1.size≤top
 aC:(x.pk.2.2.2.2.2.2.2.2.2.2.1).size≤top
 aX:(x.pk.2.2.2.2.2.2.2.2.2.2.2.2.2.2.1).size≤top
 aH:∀s∈x.sl,s.1.size≤top
 eR:∀f∈x.fl,f.size≤top
 code:(Lit.int .u8 x.pk.2.2.2.2.2.2.2.1).wf=true
structure EvQ where
 cP:Int
 conn:Int
 p:PkQ
 full:Bool
 m:MsT
structure EvG(top:Nat)(h:Heap)(x:EvQ):Prop where
 p:PkG top h x.p
 conn:(Lit.int .i64 x.conn).wf=true
 cP:(Lit.int .i64 x.cP).wf=true
 cC:x.m.1.size≤top
abbrev B5X(x:EvQ):C9w:=[.int .i64 x.cP,.int .i64 x.conn]++W7 .u8 x.p.pk++[.bool x.full,.string x.m.1,.string x.m.2.1,.int .i64 x.m.2.2.1,.bool x.m.2.2.2.1,.string x.m.2.2.2.2]
section
variable {H:Type} {ec:TypeId×Value→H} {w:World} {base:Nat} {sp:Nat→Bool} {held:Bool} {ok:TypeId→DataW H→Prop} {top:Nat} {wt:TypeId→Nat}
theorem B7v(hk:Go.R.OkLaw prog ok top wt):Go.R.RdG ec prog w base sp held ok 193 W8 (fun x:o8=>(Lit.int .i64 x.1).wf=true∧(Lit.int .i64 x.2.1).wf=true∧x.2.2.1.size≤top∧x.2.2.2.size≤top):=
 Go.R.rg_map (fun x:o8=>x) (Go.R.rg_struct hk underlying193 (n:=4) (by kernel_rfl) (Go.R.rf_cons (c:=1) (by kernel_rfl) (by rfl) (Go.R.rg_int underlying3)
  (Go.R.rf_cons (c:=1) (by kernel_rfl) (by rfl) (Go.R.rg_int underlying3)
  (Go.R.rf_cons (c:=1) (by kernel_rfl) (by rfl) (Go.R.rg_str hk underlying9)
  (Go.R.rf_one (c:=1) (by kernel_rfl) (by rfl) (by decide) (Go.R.rg_str hk underlying9)))))) (fun _=>rfl) (fun _ h=>h)
theorem C4U(hk:Go.R.OkLaw prog ok top wt):Go.R.RdG ec prog w base sp held ok 119 X9 (fun x:A0w=>x.1.size≤top∧(Lit.int .i64 x.2.1).wf=true∧True∧True∧(Lit.int .i64 x.2.2.2.2).wf=true):=
 Go.R.rg_map (fun x:A0w=>x) (Go.R.rg_struct hk underlying119 (n:=5) (by kernel_rfl) (Go.R.rf_cons (c:=1) (by kernel_rfl) (by rfl) (Go.R.rg_str hk underlying9)
  (Go.R.rf_cons (c:=1) (by kernel_rfl) (by rfl) (Go.R.rg_int underlying3)
  (Go.R.rf_cons (c:=1) (by kernel_rfl) (by rfl) (Go.R.rg_bool underlying4)
  (Go.R.rf_cons (c:=1) (by kernel_rfl) (by rfl) (Go.R.rg_bool underlying4)
  (Go.R.rf_one (c:=1) (by kernel_rfl) (by rfl) (by decide) (Go.R.rg_int underlying3))))))) (fun _=>rfl) (fun _ h=>h)
theorem B9O(hk:Go.R.OkLaw prog ok top wt):Go.R.RdG ec prog w base sp held ok 29 Z4 (fun x:MsT=>x.1.size≤top∧x.2.1.size≤top∧(Lit.int .i64 x.2.2.1).wf=true∧True∧x.2.2.2.2.size≤top):=
 Go.R.rg_map (fun x:MsT=>x) (Go.R.rg_struct hk underlying29 (n:=5) (by kernel_rfl) (Go.R.rf_cons (c:=1) (by kernel_rfl) (by rfl) (Go.R.rg_str hk underlying9)
  (Go.R.rf_cons (c:=1) (by kernel_rfl) (by rfl) (Go.R.rg_str hk underlying9)
  (Go.R.rf_cons (c:=1) (by kernel_rfl) (by rfl) (Go.R.rg_int underlying3)
  (Go.R.rf_cons (c:=1) (by kernel_rfl) (by rfl) (Go.R.rg_bool underlying4)
  (Go.R.rf_one (c:=1) (by kernel_rfl) (by rfl) (by decide) (Go.R.rg_str hk underlying9))))))) (fun _=>rfl) (fun _ h=>h)
abbrev C5V:=B3O×B3O×Int×Bool×(Slc×List o8)
theorem C3A(hk:Go.R.OkLaw prog ok top wt):Go.R.RdG ec prog w base sp held ok 57 (fun x:C5V=>[.string x.1,.string x.2.1,.int .i64 x.2.2.1,.bool x.2.2.2.1,.slice x.2.2.2.2.1.a x.2.2.2.2.1.len x.2.2.2.2.1.cap]) (fun x=>x.1.size≤top∧Z5 W8 4 w.heap x.2.2.2.2.1 x.2.2.2.2.2):=
 Go.R.rg_map (fun x:C5V=>x) (Go.R.rg_struct hk underlying57 (n:=5) (by kernel_rfl) (Go.R.rf_cons (c:=1) (by kernel_rfl) (by rfl) (Go.R.rg_str hk underlying9)
  (Go.R.rf_cons (c:=1) (by kernel_rfl) (by rfl) (Go.R.rg_str hk underlying9)
  (Go.R.rf_cons (c:=1) (by kernel_rfl) (by rfl) (Go.R.rg_int underlying3)
  (Go.R.rf_cons (c:=1) (by kernel_rfl) (by rfl) (Go.R.rg_bool underlying4)
  (Go.R.rf_one (c:=1) (by kernel_rfl) (by rfl) (by decide) (Go.R.rg_slice hk underlying55 (by kernel_rfl) rfl (B7v hk)))))))) (fun _=>rfl) (fun _ h=>⟨h.1,h.2.2.2.2.row⟩)
abbrev C8Y:=Int×Bool×Bool×Int×Int×B3O×B3O×Int×(Slc×List Int)×(Slc×List o8)×B3O×Bool×Int×Bool×C5V×Bool×Bool×B3O×B3O×Bool×(Slc×List A0w)×(Slc×List B3O)
def C8t:C8Y→PkQ|(vk,vd,vr,vq,vi,vt,vp,vc,(s8,cl),(s9,pl),cF,cD,cw,cy,(db,dg,df,dc,dD,wl),cz,cB,vu,cv,cq,(dz,sl),(dy,fl))=>⟨(vk,vd,vr,vq,vi,vt,vp,vc,s8,s9,cF,cD,cw,cy,db,dg,df,dc,dD,cz,cB,vu,cv,cq,dz,dy,()),cl,pl,wl,sl,fl⟩
theorem B9N(hk:Go.R.OkLaw prog ok top wt):Go.R.RdG ec prog w base sp held ok 60 (fun x:PkQ=>W7 .u8 x.pk) (PkG top w.heap):=
 Go.R.rg_map C8t (Go.R.rg_struct hk underlying60 (n:=26) (by kernel_rfl) (Go.R.rf_cons (c:=1) (by kernel_rfl) (by rfl) (Go.R.rg_int underlying3)
  (Go.R.rf_cons (c:=1) (by kernel_rfl) (by rfl) (Go.R.rg_bool underlying4)
  (Go.R.rf_cons (c:=1) (by kernel_rfl) (by rfl) (Go.R.rg_bool underlying4)
  (Go.R.rf_cons (c:=1) (by kernel_rfl) (by rfl) (Go.R.rg_int underlying3)
  (Go.R.rf_cons (c:=1) (by kernel_rfl) (by rfl) (Go.R.rg_int underlying3)
  (Go.R.rf_cons (c:=1) (by kernel_rfl) (by rfl) (Go.R.rg_str hk underlying9)
  (Go.R.rf_cons (c:=1) (by kernel_rfl) (by rfl) (Go.R.rg_str hk underlying9)
  (Go.R.rf_cons (c:=1) (by kernel_rfl) (by rfl) (Go.R.rg_int underlying5)
  (Go.R.rf_cons (c:=1) (by kernel_rfl) (by rfl) (Go.R.rg_slice hk underlying54 (by kernel_rfl) rfl (Go.R.rg_int underlying5))
  (Go.R.rf_cons (c:=1) (by kernel_rfl) (by rfl) (Go.R.rg_slice hk underlying55 (by kernel_rfl) rfl (B7v hk))
  (Go.R.rf_cons (c:=1) (by kernel_rfl) (by rfl) (Go.R.rg_str hk underlying9)
  (Go.R.rf_cons (c:=1) (by kernel_rfl) (by rfl) (Go.R.rg_bool underlying4)
  (Go.R.rf_cons (c:=1) (by kernel_rfl) (by rfl) (Go.R.rg_int underlying3)
  (Go.R.rf_cons (c:=1) (by kernel_rfl) (by rfl) (Go.R.rg_bool underlying4)
  (Go.R.rf_cons (c:=5) (by kernel_rfl) (by rfl) (C3A hk)
  (Go.R.rf_cons (c:=1) (by kernel_rfl) (by rfl) (Go.R.rg_bool underlying4)
  (Go.R.rf_cons (c:=1) (by kernel_rfl) (by rfl) (Go.R.rg_bool underlying4)
  (Go.R.rf_cons (c:=1) (by kernel_rfl) (by rfl) (Go.R.rg_str hk underlying9)
  (Go.R.rf_cons (c:=1) (by kernel_rfl) (by rfl) (Go.R.rg_str hk underlying9)
  (Go.R.rf_cons (c:=1) (by kernel_rfl) (by rfl) (Go.R.rg_bool underlying4)
  (Go.R.rf_cons (c:=1) (by kernel_rfl) (by rfl) (Go.R.rg_slice hk underlying58 (by kernel_rfl) rfl (C4U hk))
  (Go.R.rf_one (c:=1) (by kernel_rfl) (by rfl) (by decide) (Go.R.rg_slice hk underlying43 (by kernel_rfl) rfl (Go.R.rg_str hk underlying9)))))))))))))))))))))))))
  (fun(vk,vd,vr,vq,vi,vt,vp,vc,(s8,cl),(s9,pl),cF,cD,cw,cy,(db,dg,df,dc,dD,wl),cz,cB,vu,cv,cq,(dz,sl),(dy,fl))=>rfl) (fun(vk,vd,vr,vq,vi,vt,vp,vc,(s8,cl),(s9,pl),cF,cD,cw,cy,(db,dg,df,dc,dD,wl),cz,cB,vu,cv,cq,(dz,sl),(dy,fl)) ⟨_,_,_,_,_,g5,_,g7,g8,g9,g10,_,_,_,g14,_,_,_,_,_,g20,g21⟩=>⟨⟨g9.row,g14.2,g8.row,g20.row,g21.row⟩,g5,g10,g14.1,fun s hs=>(g20.bQ s hs).1,fun f hf=>g21.bQ f hf,g7⟩)
def C8u:Int×Int×PkQ×Bool×MsT→EvQ|(a,b,c,d,e)=>⟨a,b,c,d,e⟩
theorem C1i(hk:Go.R.OkLaw prog ok top wt):Go.R.RdG ec prog w base sp held ok 62 B5X (EvG top w.heap):=
 Go.R.rg_map C8u (Go.R.rg_struct hk underlying62 (n:=34) (by kernel_rfl) (Go.R.rf_cons (c:=1) (by kernel_rfl) (by rfl) (Go.R.rg_int underlying3)
  (Go.R.rf_cons (c:=1) (by kernel_rfl) (by rfl) (Go.R.rg_int underlying3)
  (Go.R.rf_cons (c:=26) (by kernel_rfl) (by rfl) (B9N hk)
  (Go.R.rf_cons (c:=1) (by kernel_rfl) (by rfl) (Go.R.rg_bool underlying4)
  (Go.R.rf_one (c:=5) (by kernel_rfl) (by rfl) (by decide) (B9O hk)))))))
  (fun(a,b,c,d,e)=>rfl) (fun(a,b,c,d,e) ⟨g0,g1,g2,_,g4⟩=>⟨g2,g1,g0,g4.1⟩)
theorem B9P(hk:Go.R.OkLaw prog ok top wt):Go.R.RdG ec prog w base sp held ok 53 (fun x:Slc×List EvQ=>[.slice x.1.a x.1.len x.1.cap]) (Go.R.GoodG B5X 34 (wt 62) top w.heap (EvG top w.heap)):=
 Go.R.rg_slice hk underlying53 (by kernel_rfl) rfl (C1i hk)
end
end
section
open Go.H Go.Proofs
variable {h h0:Heap} {L L' L1 L2 L3 L4 L5 R:List Asn} {Q:Value→Heap→Prop}
theorem C79{α γ:Type}{enc:γ→C9w}{size n:Nat}{m:HM α}{Q':α→Heap→Prop}{x:Nat}{cs:C9v}(us:List γ)(hw:W (U4 enc size ⟨some ⟨x,0,none⟩,n,n⟩ us::L') m Q')(hx:Has L (cells x cs) L':=by repeat first|with_reducible exact U9|apply V1)(hc:cs=(us.flatMap enc).toArray:=by rfl)(hn:us.length=n:=by rfl)[Enc enc size]:W L m Q':=fun h hs=>by
 subst hc hn
 have hl:=v7 (Enc.len (enc:=enc)) us
 refine hw h (A1A (b:=x) (o:=0) (cs:=(us.flatMap enc).toArray) ⟨by simp,D6 _,rfl,by simp[hl],by
  simp only[S7,R9]
  exact D2 (S8 hl)⟩ (hx.s hs))
theorem C6v{α β:Type}{f:α→β}{T:List α}{x y:β}(h:T.map f=[x,y]):∃a b,T=[a,b]∧f a=x∧f b=y:=by
 rcases T with _|⟨a,_|⟨b,_|⟨c,T⟩⟩⟩<;>simp at h
 exact⟨a,b,rfl,h⟩
theorem z0:0≤999999:=by decide
theorem z2:2≤999999:=by decide
theorem nd0:(([]:List Y3).map (·.c)).Nodup:=by simp
theorem kl0:([]:List j6).length≤64:=by decide
theorem ci1: -9223372036854775808≤(1:Int)∧(1:Int)≤9223372036854775807:=by decide
theorem ci2: -9223372036854775808≤(2:Int)∧(2:Int)≤9223372036854775807:=by decide
theorem sz1:tC1.size≤9223372036854775807:=by decide
theorem sl2:slW.length≤100:=by decide
theorem ss2:∀s∈slW,s.1.size≤9223372036854775807:=by decide
theorem sl0:([]:List A0w).length≤100:=by decide
theorem ss0:∀s∈([]:List A0w),s.1.size≤9223372036854775807:=by simp
theorem nd2:(B2w.aB.map (·.c)).Nodup:=by decide
theorem kl2:B2w.kept.length≤64:=by decide
theorem wr2:(slW=[]∧B2w=B1w)∨(slW≠[]∧b9 false 1 (C6j 1 slW) B1w=⟨B2w,(⟨1,A0O 9 1 [1,0],false⟩:j5)::[],[]⟩∧(⟨1,A0O 9 1 [1,0],false⟩:j5).pk.kind=9∧(⟨1,A0O 9 1 [1,0],false⟩:j5).pk.bZ.length=slW.length):=.inr ⟨by simp,w2,rfl,rfl⟩
theorem pkW:C2m (C1p mW 9) [] [] []:=C2K (by decide)
theorem B0L(ht:TP h0)(hq:At (old h0::L1) (Q (.bool true)))(hx:Has L (old h0) L1:=by repeat first|with_reducible exact U9|apply V1):FW prog 10 #[] L Q:=by
 refine fun h hs=>B1E h Q ((?_:W (old h0::L1) _ _) h (hx.s hs))
 clear hs h hx
 delta B3J az bn cb cp ie ix jc ki nw pu sn ve vi vs vz
 refine b6 (C5N (fun b=>At.un (x:=some ⟨b,0,none⟩) ?_))
 refine C2l (fun r=>r.1=false) (fun _=>A0F b B3w::old h0::L1) (fun K hK=>?_) (fun r hr=>?_)
 ·refine Y0 fun x2=>?_
  refine C79 (enc:=X9) (x:=x2) (n:=2) slW ?_
  refine b6 (C1H (b:=b) (n:=0) (B:=⟨0,[],[],[],[]⟩) (B1:=B1w) (B2:=B2w) (c:=1) (aC:=tC1) (sl:=slW) (S:=⟨some ⟨x2,0,none⟩,2,2⟩) (o1:=⟨1,A1y false,false⟩) (r1:=[]) (o2:=⟨1,A0O 9 1 [1,0],false⟩) (r2:=[]) (ps:=[]) ht C1y z0 nd0 kl0 ci1 sz1 sl2 ss2 w1 rfl rfl wr2 (At.un (x:=true) ?_))
  refine W6 rfl ?_
  refine A3p X9 5 ?_
  refine b6 (C1H (b:=b) (n:=2) (B:=B2w) (B1:=B3w) (B2:=B3w) (c:=2) (aC:=tD1) (sl:=[]) (S:=l5) (o1:=⟨2,A1y false,false⟩) (r1:=[]) (o2:=⟨2,A1y false,false⟩) (r2:=[]) (ps:=[]) ht C41 z2 nd2 kl2 ci2 sz1 sl0 ss0 w3 rfl rfl (.inl ⟨rfl,rfl⟩) (At.un (x:=true) ?_))
  exact U1 (hK (false,()) rfl).sub
 refine W6 hr ?_
 obtain⟨B,p,i,wC,wP⟩:=w4
 refine A3p X9 5 ?_
 refine A3p v8 1 ?_
 refine A3p W8 4 ?_
 refine b6 (A6T (b:=b) (B:=B3w) (c:=2) (p:=C1p mW 9) (pl:=[]) (sl:=[]) (fl:=[]) (full:=false) ht C8x (by decide) pkW ci2 (fun so sp=>At.un (x:=(so,sp,())) ?_))
 rw[show b9 false 2 (pkI (C1p mW 9) [] [] []) B3w=_ from wC]
 dsimp only
 refine Y0 fun x7=>?_
 refine A0a ?_
 refine Y2 (X1 (enc:=Z4) (size:=5) (s:=sp) (xs:=[mW])) fun fb=>?_
 refine B68 (fun h R hs=>(A1S (k:=.u8) (s:=so)).1 hs) fun T hT=>?_
 obtain⟨u,v,rfl,hu,hv⟩:=C6v hT
 clear hT
 refine Y2 (X1 (enc:=A0o .u8) (size:=28) (s:=so) (xs:=List.map ouF [u,v])) fun fN=>?_
 refine A07 (fun r=>r.1=true) (fun K hK=>?_) (fun r cI=>?_)
 ·refine W.load (v:=so) ?_
  refine X7 (by rw[fN];rfl) ?_
  refine W.load (v:=so) ?_
  refine e8 (enc:=A0o .u8) (xs:=List.map ouF [u,v]) (i:=0) (by simp) (fun a ha=>?_)
  refine A3Q (k:=0) (x:=ouF u) (v:=u.2.2.conn) ha rfl ?_
  refine X7 (by rw[hu];rfl) ?_
  refine W.load (v:=so) ?_
  refine e8 (enc:=A0o .u8) (xs:=List.map ouF [u,v]) (i:=0) (by simp) (fun a ha=>?_)
  refine B9k (x:=ouF u) (v:=u.2.2.pk.kind) ha rfl ?_
  refine X7 (by rw[hu];rfl) ?_
  refine W.load (v:=so) ?_
  refine e8 (enc:=A0o .u8) (xs:=List.map ouF [u,v]) (i:=1) (by simp) (fun a ha=>?_)
  refine A3Q (k:=0) (x:=ouF v) (v:=v.2.2.conn) ha rfl ?_
  refine X7 (by rw[hv];rfl) ?_
  refine W.load (v:=so) ?_
  refine e8 (enc:=A0o .u8) (xs:=List.map ouF [u,v]) (i:=1) (by simp) (fun a ha=>?_)
  refine B9k (x:=ouF v) (v:=v.2.2.pk.eP) ha rfl ?_
  refine X7 (by rw[hv];show(p.2.2.1==1)=true;rw[wP];rfl) ?_
  refine i7 (b:=x7) (i:=1) (v:=sp) ?_
  refine U1 (hK _ ?_)
  rw[fb];rfl
 refine U1 ?_
 show At _ (Q (.bool r.1))
 rw[cI]
 exact hq.sub
end
section
open Go.H Go.Proofs
variable {h h0:Heap} {L L' R:List Asn} {Q:Value→Heap→Prop}
def B6I(k:IntKind)(h0:Heap)(s:Slc)(os:List PkO):Prop:=∃T:List (Slc×Slc×PkO),T.map (·.2.2)=os∧Z5 (W7 k) 26 h0 s (T.map pkF)∧
 ∀t∈T,Z5 (eKd k) 1 h0 t.1 t.2.2.bZ∧Z5 W8 4 h0 t.2.1 t.2.2.props
theorem B6I.len{k:IntKind}{s:Slc}{os:List PkO}(hp:B6I k h0 s os):s.len=os.length:=by
 obtain⟨T,rfl,h1,-⟩:=hp
 rw[h1.1];simp
structure A5R(o:PkO):Prop where
 code:0≤o.code∧o.code<256
 bZ:∀c∈o.bZ,0≤c∧c<256
 len1:o.bZ.length≤1000000
 len2:o.props.length≤1000000
end
section
open Go.H Go.Proofs
variable {h h0:Heap} {L L' L1 R:List Asn} {Q:Value→Heap→Prop}
theorem C1b{s1 s2:Slc}{ms:List MsT}(h1:Z5 Z4 5 h0 s1 ms)(h2:Z5 Z4 5 h0 s2 ms)(hl:ms.length≤100000000)(hq:At [old h0] (Q (.bool true))):
  FW prog 51 #[.slice s1.a s1.len s1.cap,.slice s2.a s2.len s2.cap] [old h0] Q:=by
 refine fun h hs=>A50 s1 s2 h Q ((?_:W [old h0] _ _) h hs)
 clear hs h
 delta A45 bn g7 ie ix pu wi
 refine W6 (by rw[h1.1,h2.1];simp) ?_
 refine B2a ms.length (fun i x=>x.1=(i:Int)) (fun i x=>[old h0]) rfl Sub.rfl (fun i x hi hI=>by rw[hI,h1.1];exact F9.2 (by omega)) ?_ ?_
 ·rintro⟨_,⟨⟩⟩ hI K hd
  exact U1 (hd _ _ (W.inl (U1 hq)))
 ·rintro i ⟨_,⟨⟩⟩ ah hI K bp hd
  simp only at hI
  subst hI
  have hy:=B0 ah
  refine A7N h1 ah fun a ha=>B4v h1 ha hy (A7N h2 ah fun a2 dq=>B4v h2 dq hy ?_)
  refine W6 (by simp only[beq_self_eq_true,N3,decide_true,Bool.and_true,Bool.and_self]) (U1 (bp _ ?_))
  simp only;rw[V5 (by omega) (by omega)];rfl
theorem B4S{s1 s2:Slc}{os:List PkO}(h1:B6I .u8 h0 s1 os)(h2:B6I .i64 h0 s2 os)(hl:os.length≤1000000)(hf:∀o∈os,A5R o)(hq:At [old h0] (Q (.bool true))):
  FW prog 94 #[.slice s1.a s1.len s1.cap,.slice s2.a s2.len s2.cap] [old h0] Q:=by
 refine fun h hs=>A6G s1 s2 h Q ((?_:W [old h0] _ _) h hs)
 clear hs h
 have l1:=h1.len
 have l2:=h2.len
 obtain⟨T,hT,r1,si⟩:=h1
 obtain⟨U,hU,r2,sh⟩:=h2
 have an:∀t∈T,A5R t.2.2:=fun t ht=>hf _ (by have:=B3 (f:=fun t:Slc×Slc×PkO=>t.2.2) ht;rw[hT] at this;exact this)
 have lT:T.length=os.length:=by rw[←hT];simp
 have lU:U.length=os.length:=by rw[←hU];simp
 delta A5G bn g2 A0R g8 ie ix jb jc ji jt ju li lu nw pu rq sn wi
 refine W6 (by rw[l1,l2];simp) ?_
 refine B2a os.length (fun i x=>x.1=(i:Int)) (fun i x=>[old h0]) rfl Sub.rfl (fun i x hi hI=>by rw[hI,l1];exact F9.2 (by omega)) ?_ ?_
 ·rintro⟨_,⟨⟩⟩ hI K hd
  exact U1 (hd _ _ (W.inl (U1 hq)))
 ·rintro i ⟨_,⟨⟩⟩ ah hI K bp hd
  simp only at hI
  subst hI
  have kG:T[i]? =some T[i]:=B0 (by omega)
  have nt:U[i]? =some U[i]:=B0 (by omega)
  have k1:=si _ (F1 kG)
  have k2:=sh _ (F1 nt)
  have e1:T[i].2.2=U[i].2.2:=by
   have g1:=congrArg (fun l=>l[i]?) hT
   have g2:=congrArg (fun l=>l[i]?) hU
   simp only[K6,kG,nt,R5] at g1 g2
   rw[←g2] at g1
   exact Option.some.inj g1
  have cX:A5R T[i].2.2:=an _ (F1 kG)
  have gB:(T.map pkF)[i]? =some (pkF T[i]):=by rw[K6,kG];rfl
  have fV:(U.map pkF)[i]? =some (pkF U[i]):=by rw[K6,nt];rfl
  generalize T[i]=t at gB k1 e1 cX
  generalize U[i]=u at fV k2 e1
  obtain⟨c1,p1,o⟩:=t
  obtain⟨c2,p2,o2⟩:=u
  simp only at e1 k1 k2 cX
  subst e1
  obtain⟨nr,np⟩:=k1
  obtain⟨nq,nk⟩:=k2
  have uk:=nr.1
  have wo:=nq.1
  have uj:=np.1
  have wm:=nk.1
  have f1:=cX.len1
  have f2:=cX.len2
  refine A7N r1 (by rw[B9];omega) fun a ha=>B4v (v:=pkT o c1 p1) r1 ha gB (A7N r2 (by rw[B9];omega) fun a2 dq=>B4v (v:=pkT o c2 p2) r2 dq fV ?_)
  refine A7O ?_ ?_
  all_goals
   iterate 2
    refine Y0 fun _=>?_
    refine B4v (v:=pkT o c2 p2) r2 dq fV (A06 ?_ rfl)
    refine B4v (v:=pkT o c1 p1) r1 ha gB (A06 ?_ rfl)
   refine A0a ?_
   refine B4v (v:=pkT o c2 p2) r2 dq fV (A06 ?_ rfl)
   refine A0a ?_
   repeat(first|refine b7 ?_|refine X2 ?_|refine Y0 fun _=>?_|refine W.load ?_|refine B4u ?_|refine i7 ?_|(refine q8 ?_;try dsimp only)|(refine A8g ?_;try dsimp only)|refine A0a ?_|refine W.store ?_|refine W.store0 ?_|refine A4e ?_|refine A06 ?_ rfl|refine A1d rfl ?_|refine l7 rfl ?_|refine X7 rfl ?_|refine W6 rfl ?_|refine W.inl ?_|refine W.inr ?_|refine W3 ?_|refine l7 (Go.H.nbq _) ?_|refine W6 (Go.H.nbq _) ?_|refine l7 (Go.H.nbd rfl) ?_|refine W6 (Go.H.nbd rfl) ?_)
   refine l7 (by show(!(IntKind.wrap .i64 o.code==o.code))=false;rw[V5 (by have:=cX.code;omega) (by have:=cX.code;omega)];simp) ?_
   repeat(first|refine b7 ?_|refine X2 ?_|refine Y0 fun _=>?_|refine W.load ?_|refine B4u ?_|refine i7 ?_|(refine q8 ?_;try dsimp only)|(refine A8g ?_;try dsimp only)|refine A0a ?_|refine W.store ?_|refine W.store0 ?_|refine A4e ?_|refine A06 ?_ rfl|refine A1d rfl ?_|refine l7 rfl ?_|refine X7 rfl ?_|refine W6 rfl ?_|refine W.inl ?_|refine W.inr ?_|refine W3 ?_|refine l7 (Go.H.nbq _) ?_|refine W6 (Go.H.nbq _) ?_|refine l7 (Go.H.nbd rfl) ?_|refine W6 (Go.H.nbd rfl) ?_)
   refine l7 (by show(!(((p1.len:Nat):Int)==((p2.len:Nat):Int)))=false;rw[uj,wm];simp) ?_
   repeat(first|refine b7 ?_|refine X2 ?_|refine Y0 fun _=>?_|refine W.load ?_|refine B4u ?_|refine i7 ?_|(refine q8 ?_;try dsimp only)|(refine A8g ?_;try dsimp only)|refine A0a ?_|refine W.store ?_|refine W.store0 ?_|refine A4e ?_|refine A06 ?_ rfl|refine A1d rfl ?_|refine l7 rfl ?_|refine X7 rfl ?_|refine W6 rfl ?_|refine W.inl ?_|refine W.inr ?_|refine W3 ?_|refine l7 (Go.H.nbq _) ?_|refine W6 (Go.H.nbq _) ?_|refine l7 (Go.H.nbd rfl) ?_|refine W6 (Go.H.nbd rfl) ?_)
   refine l7 (by show(!(((c1.len:Nat):Int)==((c2.len:Nat):Int)))=false;rw[uk,wo];simp) ?_
   repeat(first|refine b7 ?_|refine X2 ?_|refine Y0 fun _=>?_|refine W.load ?_|refine B4u ?_|refine i7 ?_|(refine q8 ?_;try dsimp only)|(refine A8g ?_;try dsimp only)|refine A0a ?_|refine W.store ?_|refine W.store0 ?_|refine A4e ?_|refine A06 ?_ rfl|refine A1d rfl ?_|refine l7 rfl ?_|refine X7 rfl ?_|refine W6 rfl ?_|refine W.inl ?_|refine W.inr ?_|refine W3 ?_|refine l7 (Go.H.nbq _) ?_|refine W6 (Go.H.nbq _) ?_|refine l7 (Go.H.nbd rfl) ?_|refine W6 (Go.H.nbd rfl) ?_)
   refine B2a o.props.length (fun i x=>x.1=(i:Int)) (fun i x=>_) rfl Sub.rfl (fun i x hi hI=>by rw[hI];simp only[uj];exact F9.2 (by omega)) ?_ ?_
   ·rintro⟨_,⟨⟩⟩ lM K2 iq
    refine U1 (iq _ _ ?_)
    repeat(first|refine b7 ?_|refine X2 ?_|refine Y0 fun _=>?_|refine W.load ?_|refine B4u ?_|refine i7 ?_|(refine q8 ?_;try dsimp only)|(refine A8g ?_;try dsimp only)|refine A0a ?_|refine W.store ?_|refine W.store0 ?_|refine A4e ?_|refine A06 ?_ rfl|refine A1d rfl ?_|refine l7 rfl ?_|refine X7 rfl ?_|refine W6 rfl ?_|refine W.inl ?_|refine W.inr ?_|refine W3 ?_|refine l7 (Go.H.nbq _) ?_|refine W6 (Go.H.nbq _) ?_|refine l7 (Go.H.nbd rfl) ?_|refine W6 (Go.H.nbd rfl) ?_)
    refine B2a o.bZ.length (fun i x=>x.1=(i:Int)) (fun i x=>_) rfl Sub.rfl (fun i x hi hI=>by rw[hI];simp only[uk];exact F9.2 (by omega)) ?_ ?_
    ·rintro⟨_,⟨⟩⟩ lL K3 vl
     refine U1 (vl _ _ (W.inl (U1 ((bp _ ?_).sub))))
     simp only;rw[V5 (by omega) (by omega)];rfl
    ·rintro j ⟨_,⟨⟩⟩ lE lL K3 te vl
     simp only at lL
     subst lL
     have pz:=B0 lE
     have oN:=cX.bZ _ (H2 lE)
     refine W.load ?_
     refine A7N nr lE fun a ha=>C6S nr ha pz ?_
     refine W.load ?_
     refine A7N nq lE fun a2 dq=>C6S nq dq pz ?_
     refine W6 (by rw[V5 (by omega) (by omega)];simp only[beq_self_eq_true,N3,decide_true,Bool.and_true,Bool.and_self]) (U1 (te _ ?_))
     simp only;rw[V5 (by omega) (by omega)];rfl
   ·rintro j ⟨_,⟨⟩⟩ lE lM K2 jG iq
    simp only at lM
    subst lM
    have pz:=B0 lE
    refine W.load ?_
    refine A7N np lE fun a ha=>B4v np ha pz ?_
    refine W.load ?_
    refine A7N nk lE fun a2 dq=>B4v nk dq pz ?_
    refine W6 (by simp only[beq_self_eq_true,N3,decide_true,Bool.and_true,Bool.and_self]) (U1 (jG _ ?_))
    simp only;rw[V5 (by omega) (by omega)];rfl
end
section
open Go.H Go.Proofs
variable {h h0:Heap} {L L' L1 R:List Asn} {Q:Value→Heap→Prop}
def B6K(k:IntKind)(h0:Heap)(s:Slc)(os:List j5):Prop:=∃T:List (Slc×Slc×j5),T.map (·.2.2)=os∧Z5 (A0o k) 28 h0 s (T.map ouF)∧
 ∀t∈T,Z5 (eKd k) 1 h0 t.1 t.2.2.pk.bZ∧Z5 W8 4 h0 t.2.1 t.2.2.pk.props
theorem C2M{k:IntKind}{s:Slc}{os:List j5}(hs:sat h (V8 k s os::R)):B6K k h s os:=by
 obtain⟨T,hT,aa⟩:=A1S.1 hs
 refine⟨T,hT,aa.aO (Enc.len (enc:=A0o k)),fun t ht=>?_⟩
 obtain⟨R',ae⟩:=A8R ht aa.p1
 have aj:=A4B.1 ae
 exact⟨aj.aO (C23 k),aj.p1.aO C21⟩
theorem B6K.len{k:IntKind}{s:Slc}{os:List j5}(hp:B6K k h0 s os):s.len=os.length:=by
 obtain⟨T,rfl,h1,-⟩:=hp
 rw[h1.1];simp
theorem B1t{k:IntKind}{x:Nat}{o:PkO}{c p:Slc}(hs:sat h (U4 (W7 k) 26 ⟨some ⟨x,0,none⟩,1,1⟩ [pkT o c p]::R))(hc:Z5 (eKd k) 1 h c o.bZ)(hp:Z5 W8 4 h p o.props):B6I k h ⟨some ⟨x,0,none⟩,1,1⟩ [o]:=
 ⟨[(c,p,o)],rfl,hs.aO (B5Z k),fun t ht=>by rw[C0.1 ht];exact⟨hc,hp⟩⟩
theorem C4m{β γ:Type}{enc:γ→C9w}{size:Nat}{s:Slc}{xs:List γ}{Q':β→Heap→Prop}{ts:List Tag}{i k:Nat}{a:Addr}{x:γ}{v:Tup ts}{f:Tup ts→HM β}(hr:Z5 enc size h0 s xs)(ha:El s size i a)(hi:xs[i]? =some x)(hw:W L (f v) Q')(hx:Has L (old h0) L':=by repeat first|with_reducible exact U9|apply V1)(hv:Tup.get ts (((enc x).drop k).take ts.length)=some v:=by rfl):W L (HM.bind (o4 ts (Addr.add a k)) f) Q':=fun h hs=>by
 have:=ha.row hr hi
 refine⟨v,fun j u hu=>?_,hw h hs⟩
 rw[←Tup.bI ts _ v hv,L7] at hu
 split at hu
 ·rw[N4] at hu
  rw[A8T]
  exact(hx.s hs).bX (this _ u hu)
 ·cases hu
theorem C3v{s1 s2:Slc}{os:List j5}(h1:B6K .u8 h0 s1 os)(h2:B6K .i64 h0 s2 os)(hl:os.length≤100000000)(hf:∀o∈os,A5R o.pk)(hq:At [old h0] (Q (.bool true))):
  FW prog 50 #[.slice s1.a s1.len s1.cap,.slice s2.a s2.len s2.cap] [old h0] Q:=by
 refine fun h hs=>A9u s1 s2 h Q ((?_:W [old h0] _ _) h hs)
 clear hs h
 have l1:=h1.len
 have l2:=h2.len
 obtain⟨T,hT,r1,si⟩:=h1
 obtain⟨U,hU,r2,sh⟩:=h2
 have an:∀t∈T,A5R t.2.2.pk:=fun t ht=>hf _ (by have:=B3 (f:=fun t:Slc×Slc×j5=>t.2.2) ht;rw[hT] at this;exact this)
 have lT:T.length=os.length:=by rw[←hT];simp
 have lU:U.length=os.length:=by rw[←hU];simp
 delta A9P az bn cb g2 A0R ie ix kb ki nw pu rq wi
 refine W6 (by rw[l1,l2];simp) ?_
 refine B2a os.length (fun i x=>x.1=(i:Int)) (fun i x=>[old h0]) rfl Sub.rfl (fun i x hi hI=>by rw[hI,l1];exact F9.2 (by omega)) ?_ ?_
 ·rintro⟨_,⟨⟩⟩ hI K hd
  exact U1 (hd _ _ (W.inl (U1 hq)))
 ·rintro i ⟨_,⟨⟩⟩ ah hI K bp hd
  simp only at hI
  subst hI
  have kG:T[i]? =some T[i]:=B0 (by omega)
  have nt:U[i]? =some U[i]:=B0 (by omega)
  have k1:=si _ (F1 kG)
  have k2:=sh _ (F1 nt)
  have e1:T[i].2.2=U[i].2.2:=by
   have g1:=congrArg (fun l=>l[i]?) hT
   have g2:=congrArg (fun l=>l[i]?) hU
   simp only[K6,kG,nt,R5] at g1 g2
   rw[←g2] at g1
   exact Option.some.inj g1
  have cX:A5R T[i].2.2.pk:=an _ (F1 kG)
  have gB:(T.map ouF)[i]? =some (ouF T[i]):=by rw[K6,kG];rfl
  have fV:(U.map ouF)[i]? =some (ouF U[i]):=by rw[K6,nt];rfl
  have jg:i<(T.map ouF).length:=by rw[B9];omega
  have jf:i<(U.map ouF).length:=by rw[B9];omega
  generalize T[i]=t at gB k1 e1 cX
  generalize U[i]=u at fV k2 e1
  obtain⟨c1,p1,o⟩:=t
  obtain⟨c2,p2,o2⟩:=u
  simp only at e1 k1 k2 cX
  subst e1
  obtain⟨nr,np⟩:=k1
  obtain⟨nq,nk⟩:=k2
  obtain⟨oc,op,ox⟩:=o
  simp only at nr np nq nk cX
  refine A07 (fun a=>a.1=false) (fun K2 bd=>?_) (fun a ha=>?_)
  case refine_2=>
   refine W6 ha (U1 (bp _ ?_))
   simp only;rw[V5 (by omega) (by omega)];rfl
  refine A7N r1 jg fun a ha=>?_
  refine C50 (k:=0) (v:=oc) r1 ha gB ?_
  refine A7N r2 jf fun a2 dq=>?_
  refine C50 (k:=0) (v:=oc) r2 dq fV ?_
  refine W6 (by simp) ?_
  refine A7N r1 jg fun a3 iU=>?_
  refine C50 (k:=27) (v:=ox) r1 iU gB ?_
  refine A7N r2 jf fun a4 ua=>?_
  refine C50 (k:=27) (v:=ox) r2 ua fV ?_
  refine W6 (by simp) ?_
  refine A7N r1 jg fun a5 qL=>?_
  refine C4m (k:=1) (v:=pkT op c1 p1) r1 qL gB ?_
  refine A7N r2 jf fun a6 tZ=>?_
  refine C4m (k:=1) (v:=pkT op c2 p2) r2 tZ fV ?_
  refine A7O ?_ ?_
  ·refine Y0 fun y1=>?_
   refine C4m (k:=1) (v:=pkT op c2 p2) r2 tZ fV (A06 ?_ rfl)
   refine Y0 fun y2=>?_
   refine C4m (k:=1) (v:=pkT op c1 p1) r1 qL gB (A06 ?_ rfl)
   refine C5Z (enc:=W7 .u8) (x:=y1) (pkT op c1 p1) ?_
   refine C5Z (enc:=W7 .i64) (x:=y2) (pkT op c2 p2) ?_
   refine W.sub (L':=U4 (W7 .u8) 26 ⟨some ⟨y1,0,none⟩,1,1⟩ [pkT op c1 p1]::U4 (W7 .i64) 26 ⟨some ⟨y2,0,none⟩,1,1⟩ [pkT op c2 p2]::[old h0]) ?_
   refine b6 (C3c (v:=.bool true) (fun h1 aa Q1 ja=>?_) (At.un (x:=true) ?_))
   ·have ho:=aa.re [2,0,1]
    exact B4S (s1:=⟨some ⟨y1,0,none⟩,1,1⟩) (s2:=⟨some ⟨y2,0,none⟩,1,1⟩) (os:=[op]) (B1t aa (nr.old ho) (np.old ho)) (B1t (aa.re [1,0,2]) (nq.old ho) (nk.old ho)) (C4 (D6 1) (by decide)) (fun o ho=>by rw[C0.1 ho];exact cX) ja
   exact U1 (bd (false,()) rfl).sub
  ·refine Y0 fun y2=>?_
   refine C4m (k:=1) (v:=pkT op c1 p1) r1 qL gB (A06 ?_ rfl)
   refine Y0 fun y1=>?_
   refine C4m (k:=1) (v:=pkT op c2 p2) r2 tZ fV (A06 ?_ rfl)
   refine C5Z (enc:=W7 .u8) (x:=y1) (pkT op c1 p1) ?_
   refine C5Z (enc:=W7 .i64) (x:=y2) (pkT op c2 p2) ?_
   refine W.sub (L':=U4 (W7 .u8) 26 ⟨some ⟨y1,0,none⟩,1,1⟩ [pkT op c1 p1]::U4 (W7 .i64) 26 ⟨some ⟨y2,0,none⟩,1,1⟩ [pkT op c2 p2]::[old h0]) ?_
   refine b6 (C3c (v:=.bool true) (fun h1 aa Q1 ja=>?_) (At.un (x:=true) ?_))
   ·have ho:=aa.re [2,0,1]
    exact B4S (s1:=⟨some ⟨y1,0,none⟩,1,1⟩) (s2:=⟨some ⟨y2,0,none⟩,1,1⟩) (os:=[op]) (B1t aa (nr.old ho) (np.old ho)) (B1t (aa.re [1,0,2]) (nq.old ho) (nk.old ho)) (C4 (D6 1) (by decide)) (fun o ho=>by rw[C0.1 ho];exact cX) ja
   exact U1 (bd (false,()) rfl).sub
end
section
open Go.H Go.Proofs
theorem A3x(l:List Int):(Z0 l).Perm l:=Q8 l _
theorem A2W(l:List Int):(Z0 l).Pairwise (·≤ ·):=by
 have:=List.pairwise_mergeSort (le:=fun x y:Int=>decide (x≤y)) (fun a b c h1 h2=>by simp only[decide_eq_true_eq] at*;omega) (fun a b=>by simp only[Bool.or_eq_true,decide_eq_true_eq];omega) l
 exact this.imp fun h=>by simpa using h
theorem B7d{l l':List Int}(hp:l.Perm l')(h:l.Pairwise (·≤ ·))(h':l'.Pairwise (·≤ ·)):l=l':=
 List.Perm.eq_of_pairwise (le:=fun a b=>a≤b) (fun a b _ _ h1 h2=>Int.le_antisymm h1 h2) h h' hp
theorem B2i{l:List Int}{k:Int}:k∈Z0 l↔k∈l:=(A3x l).mem_iff
theorem A2d(l:List Int):(Z0 l).length=l.length:=(A3x l).length_eq
theorem C1J{l a b:List Int}{k:Int}(hl:Z0 l=a++b)(ha:∀x∈a,x≤k)(hb:∀x∈b,k≤x):a++k::b=Z0 (l++[k]):=by
 have hs:=A2W l
 rw[hl,I7] at hs
 refine B7d ?_ ?_ (A2W _)
 ·refine List.Perm.trans ?_ (A3x _).symm
  refine P7.trans ?_
  rw[←hl]
  exact((A3x l).cons k).trans (List.perm_append_singleton k l).symm
 ·rw[I7]
  refine⟨hs.1,?_,fun x hx y hy=>?_⟩
  ·rw[I4];exact⟨hb,hs.2.1⟩
  ·rcases D7.1 hy with rfl|hy
   ·exact ha x hx
   ·exact hs.2.2 x hx y hy
theorem C2a{l:List Int}(hn:l.Nodup)(k:Int):(Z0 l).filter (fun x=> !(x==k))=Z0 (l.erase k):=by
 refine B7d ?_ ((A2W l).filter _) (A2W _)
 refine((A3x l).filter _).trans (List.Perm.trans ?_ (A3x _).symm)
 rw[hn.erase_eq_filter]
 refine List.Perm.of_eq (K7 fun x _=>?_)
 rfl
theorem C1h(used:List Int)(t:Int)(h0:0≤t)(h1:t≤65535)(hd:used.Nodup)(h2:used.length<65535):∃n u,n≤used.length∧Reach used n t u:=by
 have key:∀(j:Nat),∀t,0≤t→t≤65535→(∃n u,n<j∧Reach used n t u)∨∀i,i<j→((t+i) % 65535+1)∈used:=by
  intro j
  induction j with
  |zero=>intro t _ _;exact .inr (fun i hi=>by omega)
  |succ j ih=>
   intro t oA pH
   by_cases hm:nxt t∈used
   ·have hr:=A3E oA
    rcases ih (nxt t) (by omega) (by omega) with⟨n,u,hn,hu⟩|cW
    ·exact .inl ⟨n+1,u,by omega,.on hm hu⟩
    ·refine .inr fun i hi=>?_
     cases i with
     |zero=>simpa[nxt] using hm
     |succ i=>
      have:=cW i (by omega)
      have e:((nxt t+(i:Int)) % 65535+1)=((t+((i+1:Nat):Int)) % 65535+1):=by unfold nxt;omega
      rw[e] at this
      exact this
   ·exact .inl ⟨0,nxt t,by omega,.here hm⟩
 rcases key (used.length+1) t h0 h1 with⟨n,u,hn,hu⟩|cW
 ·exact⟨n,u,by omega,hu⟩
 ·exfalso
  have bg:∀x∈((List.range (used.length+1)).map fun(i:Nat)=>((t+(i:Int)) % 65535+1)),x∈used:=by
   intro x hx
   obtain⟨i,hi,rfl⟩:=E4.1 hx
   exact cW i (R1.1 hi)
  have au:((List.range (used.length+1)).map fun(i:Nat)=>((t+(i:Int)) % 65535+1)).Nodup:=by
   refine P4.2 (List.Pairwise.imp_of_mem ?_ List.pairwise_lt_range)
   intro a b ha hb dp
   have:=R1.1 ha
   have:=R1.1 hb
   omega
  have:=B8O _ _ au bg
  simp at this
  omega
def A0E(b:Nat)(s:r8):Asn:=exA fun sl:Slc=>star (cells b #[.int .i64 s.most,.int .i64 s.taken,.slice sl.a sl.len sl.cap]) (U4 eI 1 sl (Z0 s.used))
theorem A1G{h:Heap}{b:Nat}{s:r8}{R:List Asn}:sat h (A0E b s::R)↔
  ∃sl:Slc,sat h (cells b #[.int .i64 s.most,.int .i64 s.taken,.slice sl.a sl.len sl.cap]::U4 eI 1 sl (Z0 s.used)::R):=by
 unfold A0E
 rw[sat.bA]
 constructor
 ·rintro⟨sl,hs⟩
  rw[sat.aI] at hs
  exact⟨sl,hs⟩
 ·rintro⟨sl,hs⟩
  exact⟨sl,by rw[sat.aI];exact hs⟩
theorem B0d{h:Heap}{R:List Asn}(hs:sat h R)(most:Int){Q:Value→Heap→Prop}
  (hq:∀b h',sat h' (A0E b ⟨max 1 (min most 64),0,[]⟩::R)→Q (at0 b) h'):V2 prog 249 #[.int .i64 most] h Q:=by
 refine B4f most h Q ?_
 delta B7s az bn ie nw pu vi vz
 have fin:∀n:Int,n=max 1 (min most 64)→HM.new (.cells #[.int .i64 n,.int .i64 0,.slice none 0 0] 368) h fun b h'=>Q (at0 b) h':=by
  rintro n rfl
  refine V4 hs fun b h2 ae=>?_
  have e:Z0 ([]:List Int)=[]:=by simp[Z0]
  exact hq b h2 (A1G.2 ⟨⟨none,0,0⟩,by rw[e];exact(Z3 ae).p1⟩)
 by_cases h1:most<1
 ·simp[h1]
  exact fin 1 (by omega)
 ·by_cases h2:64<most
  ·simp[h1,h2]
   exact fin 64 (by omega)
  ·simp[h1,h2]
   exact fin most (by omega)
theorem B2m{h:Heap}{R:List Asn}{b:Nat}{s:r8}{k:Int}(hs:sat h (A0E b s::R))(hl:s.used.length≤64){Q:Value→Heap→Prop}
  (hq:Q (.bool (decide (k∈s.used))) h):V2 prog 243 #[at0 b,.int .i64 k] h Q:=by
 refine B5b _ k h Q ?_
 obtain⟨sl,hs⟩:=A1G.1 hs
 have c2:V9 h ⟨b,2,none⟩=some (.slice sl.a sl.len sl.cap):=hs.cell 2
 have aM:=hs.p1.aO A47
 have hlen:=hs.p1.aW
 rw[A2d] at hlen
 delta B9L bn ie ix kc li nn pu wi
 simp
 refine B8N (γ:=Nat) (fun i c h'=>h'=h∧c.1=(i:Int)∧i≤s.used.length∧k∉(Z0 s.used).take i) (fun i=>s.used.length-i) 0 ⟨rfl,rfl,C9 _,by simp⟩ ?_
 rintro i ⟨c,⟨⟩⟩ h' ⟨rfl,hc,hi,hn⟩
 simp only at hc
 subst hc
 simp[c2]
 have next:IntKind.wrap .i64 ((i:Int)+1)=((i+1:Nat):Int):=by rw[V5 (by omega) (by omega)];rfl
 by_cases ah:i<s.used.length
 ·rw[if_pos (by omega)]
  have bf:i<(Z0 s.used).length:=by rw[A2d];exact ah
  refine X6 aM (B0 bf) fun a ha=>?_
  have c0:V9 h' a=some (.int .i64 (Z0 s.used)[i]):=by simpa[Go.H.add_zero] using ha 0 _ rfl
  simp[c0]
  by_cases hk:(Z0 s.used)[i]=k
  ·have hm:k∈s.used:=B2i.1 (hk▸H2 bf)
   simp[hk]
   simpa[hm] using hq
  ·simp[hk]
   refine⟨i+1,by omega,next,by omega,fun hm=>?_⟩
   rw[C3 bf,C7] at hm
   rcases hm with hm|hm
   ·exact hn hm
   ·exact hk (C0.1 hm).symm
 ·rw[if_neg (by omega)]
  rw[D2 (by rw[A2d];omega)] at hn
  have hm:k∉s.used:=fun hx=>hn (B2i.2 hx)
  simpa[hm] using hq
theorem B4W{h:Heap}{R:List Asn}{b:Nat}{s:r8}{k:Int}(hs:sat h (A0E b s::R))(hl:s.used.length≤64){Q:Value→Heap→Prop}
  (hq:∀h',sat h' (A0E b ⟨s.most,s.taken,s.used++[k]⟩::R)→Q (.tuple #[]) h'):V2 prog 264 #[at0 b,.int .i64 k] h Q:=by
 refine B4e _ k h Q ?_
 obtain⟨sl,hs⟩:=A1G.1 hs
 have ly:=A2W s.used
 have oT:=A2d s.used
 delta B7r az bn ie ix kc li nn nw pu sx vi vs wi
 simp
 refine l6 (γ:=Nat×List Int×List Int) (fun g c h'=>c.2.2.1=(g.1:Int)∧g.1≤s.used.length∧(Z0 s.used).take g.1=g.2.1++g.2.2∧(∀x∈g.2.1,x≤k)∧(∀x∈g.2.2,k≤x)∧
   (c.1=false→g.2.2=[])∧(c.1=true→∃y∈g.2.2,k<y)∧
   sat h' (U4 eI 1 c.2.1 (if c.1=true then g.2.1++k::g.2.2 else g.2.1)::cells b #[.int .i64 s.most,.int .i64 s.taken,.slice sl.a sl.len sl.cap]::U4 eI 1 sl (Z0 s.used)::R))
  (fun g=>s.used.length-g.1) (0,[],[]) ⟨rfl,C9 _,rfl,by simp,by simp,by simp,by simp,Z3 hs⟩ ?_
 rintro⟨i,a,bb⟩ ⟨done,out,c,⟨⟩⟩ h1 ⟨hc,hi,ht,ha,hb,jj,vm,aa⟩
 simp only at hc hi ht ha hb jj vm aa
 subst hc
 have c2:V9 h1 ⟨b,2,none⟩=some (.slice sl.a sl.len sl.cap):=aa.p1.cell 2
 have hlen:=aa.p2.aW
 rw[oT] at hlen
 have next:IntKind.wrap .i64 ((i:Int)+1)=((i+1:Nat):Int):=by rw[V5 (by omega) (by omega)];rfl
 simp[c2]
 by_cases ah:i<s.used.length
 ·rw[if_pos (by omega)]
  have bf:i<(Z0 s.used).length:=by rw[oT];exact ah
  have aV:=C3 bf
  generalize hx:(Z0 s.used)[i]=x at aV
  have nN:(Z0 s.used)[i]? =some x:=by rw[←hx];exact B0 bf
  have hle:∀y∈(Z0 s.used).take i,y≤x:=by
   have e:=J2 i (Z0 s.used)
   rw[←e,I7] at ly
   intro y hy
   refine ly.2.2 y hy x ?_
   rw[D9 bf,hx]
   exact B5 ..
  have ke:a.length+bb.length=i:=by
   have:=congrArg List.length ht
   simp at this
   omega
  have aM:∀{h2:Heap} {A:Asn} {R':List Asn},sat h2 (A::cells b #[.int .i64 s.most,.int .i64 s.taken,.slice sl.a sl.len sl.cap]::U4 eI 1 sl (Z0 s.used)::R')→V9 h2 ⟨b,2,none⟩=some (.slice sl.a sl.len sl.cap)∧Z5 eI 1 h2 sl (Z0 s.used):=
   fun af=>⟨af.p1.cell 2,af.p2.aO A47⟩
  have jx:∀{h2:Heap} {a:Addr},(∀j v,(eI x)[j]? =some v→V9 h2 (a.add j)=some v)→V9 h2 a=some (.int .i64 x):=fun iV=>by simpa[Go.H.add_zero] using iV 0 _ rfl
  have iy:∀l:List Int,l.length≤70→(l.length+1)*8≤140737488355328:=fun l gU=>by omega
  cases done with
  |true=>
   simp at aa⊢
   refine X6 (aM aa).2 nN fun ad qK=>?_
   simp[jx qK]
   refine A00 (x:=x) A47 A9e rfl aa (by omega) (by omega) (iy _ (by simp;omega)) fun fj h2 ae=>?_
   obtain⟨y,gB,fV⟩:=vm rfl
   have xc:k≤x:=by have:=hle y (by rw[ht];exact G5 _ gB);omega
   refine .mk (i+1,a,bb++[x]) (by simp;omega) ⟨next,by simp;omega,by simp[aV,ht],ha,?_,by simp,fun _=>⟨y,by simp[gB],fV⟩,by simpa using ae⟩
   intro z hz
   rcases C7.1 hz with hz|hz
   ·exact hb z hz
   ·rw[C0.1 hz];exact xc
  |false=>
   simp at aa⊢
   refine X6 (aM aa).2 nN fun ad qK=>?_
   simp[jx qK]
   by_cases lF:k<x
   ·simp[lF]
    refine A00 (x:=k) A47 A9e rfl aa (by omega) (by omega) (iy _ (by omega)) fun sj h2 ae=>?_
    simp[(aM ae).1]
    refine X6 (aM ae).2 nN fun uh jM=>?_
    simp[jx jM]
    refine A00 (x:=x) A47 A9e rfl ae (by omega) (by omega) (iy _ (by simp;omega)) fun fj h3 aj=>?_
    have qH:bb=[]:=jj rfl
    subst qH
    refine .mk (i+1,a,[x]) (by simp;omega) ⟨next,by simp;omega,by simpa[aV] using ht,ha,?_,by simp,fun _=>⟨x,by simp,lF⟩,by simpa using aj⟩
    intro z hz
    rw[C0.1 hz];omega
   ·simp[lF]
    have qH:bb=[]:=jj rfl
    subst qH
    simp[c2]
    refine X6 (aM aa).2 nN fun uh jM=>?_
    simp[jx jM]
    refine A00 (x:=x) A47 A9e rfl aa (by omega) (by omega) (iy _ (by omega)) fun fj h3 aj=>?_
    refine .mk (i+1,a++[x],[]) (by simp;omega) ⟨next,by simp;omega,by simpa[aV] using ht,?_,by simp,by simp,by simp,by simpa using aj⟩
    intro z hz
    rcases C7.1 hz with hz|hz
    ·exact ha z hz
    ·rw[C0.1 hz];omega
 ·rw[if_neg (by omega)]
  have eh:i=s.used.length:=by omega
  subst eh
  rw[D2 (by omega)] at ht
  have fin:∀(h2:Heap) (fj:Slc),sat h2 (U4 eI 1 fj (Z0 (s.used++[k]))::cells b #[.int .i64 s.most,.int .i64 s.taken,.slice sl.a sl.len sl.cap]::U4 eI 1 sl (Z0 s.used)::R)→
    A6V ⟨b,2,none⟩ (.slice fj.a fj.len fj.cap) h2 fun _ h'=>Q (.tuple #[]) h':=by
   intro h2 fj ae
   refine W5 ae.p1 (by simp) rfl fun h3 aj=>hq h3 (A1G.2 ⟨fj,?_⟩)
   exact aj.p2.drop
  have qi:=C1J ht ha hb
  cases done with
  |true=>
   simp at aa⊢
   rw[qi] at aa
   exact fin _ _ aa
  |false=>
   simp at aa⊢
   have qH:bb=[]:=jj rfl
   subst qH
   refine A00 (x:=k) A47 A9e rfl aa (by omega) (by omega) (by simp at ht;rw[←ht,oT];omega) fun sj h2 ae=>?_
   rw[qi] at ae
   exact fin _ _ ae
theorem C61{h:Heap}{R:List Asn}{b:Nat}{s:r8}(hs:sat h (A0E b s::R)):∃sl:Slc,sl.len=s.used.length∧V9 h ⟨b,0,none⟩=some (.int .i64 s.most)∧V9 h ⟨b,1,none⟩=some (.int .i64 s.taken)∧
  V9 h ⟨b,2,none⟩=some (.slice sl.a sl.len sl.cap)∧Z5 eI 1 h sl (Z0 s.used):=by
 obtain⟨sl,hs⟩:=A1G.1 hs
 refine⟨sl,?_,hs.cell 0,hs.cell 1,hs.cell 2,hs.p1.aO A47⟩
 rw[hs.p1.aW,A2d]
theorem B8s{h:Heap}{R:List Asn}{b:Nat}{s:r8}{k:Int}(hs:sat h (A0E b s::R))(ag:s.ok){Q:Value→Heap→Prop}
  (al:i6 s k≠0→Q (.int .i64 (i6 s k)) h)
  (bP:i6 s k=0→∀h',sat h' (A0E b ⟨s.most,s.taken,s.used++[k]⟩::R)→Q (.int .i64 0) h'):V2 prog 246 #[at0 b,.int .i64 k] h Q:=by
 refine B09 _ _ h Q ?_
 obtain⟨sl,cG,c0,c1,c2,-⟩:=C61 hs
 have hl:=ag.len
 have hm:=ag.cO
 delta B3x bn cb cx ie kc ki nn pu vi
 simp
 by_cases h1:k<1
 ·simp[h1];simpa[i6,h1] using al
 by_cases h2:65535<k
 ·simp[h1,h2];simpa[i6,h2] using al
 simp[h1,h2]
 refine B2m hs (by omega) ?_
 by_cases h3:k∈s.used
 ·simp[h3]
  have:i6 s k=145:=by simp[i6,h1,h2,h3]
  rw[this] at al
  exact al (by omega)
 simp[h3,c2,c0]
 by_cases h4:(s.used.length:Int)=s.most
 ·have:i6 s k=147:=by simp[i6,h1,h2,h3,h4]
  rw[this] at al
  rw[if_pos (by omega)]
  exact al (by omega)
 rw[if_neg (by omega)]
 refine B4W hs (by omega) fun h' af=>?_
 simp
 exact bP (by simp[i6,h1,h2,h3,h4]) h' af
theorem B3q{h:Heap}{R:List Asn}{b:Nat}{s:r8}{k:Int}(hs:sat h (A0E b s::R))(ag:s.ok){Q:Value→Heap→Prop}
  (hq:∀h',sat h' (A0E b ⟨s.most,s.taken,s.used.erase k⟩::R)→Q (.bool (decide (k∈s.used))) h'):V2 prog 244 #[at0 b,.int .i64 k] h Q:=by
 refine B2D _ _ h Q ?_
 have hl:s.used.length≤64:=by have:=ag.len;have:=ag.cO;omega
 obtain⟨sl,hs⟩:=A1G.1 hs
 have oT:=A2d s.used
 delta B5c az bn ie ix kc li nn nw pu sx vi vs wi
 simp
 refine l6 (γ:=Nat) (fun i c h'=>c.2.1=(i:Int)∧i≤s.used.length∧
   sat h' (U4 eI 1 c.1 (((Z0 s.used).take i).filter fun x=> !(x==k))::cells b #[.int .i64 s.most,.int .i64 s.taken,.slice sl.a sl.len sl.cap]::U4 eI 1 sl (Z0 s.used)::R))
  (fun i=>s.used.length-i) 0 ⟨rfl,C9 _,Z3 hs⟩ ?_
 rintro i ⟨out,c,⟨⟩⟩ h1 ⟨hc,hi,aa⟩
 simp only at hc aa
 subst hc
 have c2:V9 h1 ⟨b,2,none⟩=some (.slice sl.a sl.len sl.cap):=aa.p1.cell 2
 have hlen:=aa.p2.aW
 rw[oT] at hlen
 have aM:=aa.p2.aO A47
 have next:IntKind.wrap .i64 ((i:Int)+1)=((i+1:Nat):Int):=by rw[V5 (by omega) (by omega)];rfl
 simp[c2]
 by_cases ah:i<s.used.length
 ·rw[if_pos (by omega)]
  have bf:i<(Z0 s.used).length:=by rw[oT];exact ah
  have aV:=C3 bf
  generalize hx:(Z0 s.used)[i]=x at aV
  have nN:(Z0 s.used)[i]? =some x:=by rw[←hx];exact B0 bf
  refine X6 aM nN fun ad qK=>?_
  have e0:V9 h1 ad=some (.int .i64 x):=by simpa[Go.H.add_zero] using qK 0 _ rfl
  simp[e0]
  by_cases lF:x=k
  ·simp[lF]
   refine .mk (i+1) (by omega) ⟨next,by omega,?_⟩
   rw[aV]
   simpa[lF] using aa
  ·simp[lF,c2]
   refine X6 aM nN fun uh jM=>?_
   have e1:V9 h1 uh=some (.int .i64 x):=by simpa[Go.H.add_zero] using jM 0 _ rfl
   simp[e1]
   refine A00 (x:=x) A47 A9e rfl aa (by omega) (by omega) ?_ fun fj h2 ae=>?_
   ·have:=D1 (fun x=> !(x==k)) ((Z0 s.used).take i)
    have:=J5 i (Z0 s.used)
    omega
   refine .mk (i+1) (by omega) ⟨next,by omega,?_⟩
   rw[aV]
   simpa[lF] using ae
 ·rw[if_neg (by omega)]
  rw[D2 (by omega),C2a ag.nodup] at aa
  have fN:=aa.aW
  rw[A2d] at fN
  refine W5 aa.p1 (by simp) rfl fun h3 aj=>?_
  have:=hq h3 (A1G.2 ⟨out,aj.p2.drop⟩)
  have e:decide (out.len<sl.len)=decide (k∈s.used):=by
   rw[fN,hlen,List.length_erase]
   by_cases hm:k∈s.used
   ·have:=List.length_pos_of_mem hm
    simp[hm];omega
   ·simp[hm]
  rw[e]
  exact this
theorem B9D{h:Heap}{R:List Asn}{b:Nat}{s:r8}(hs:sat h (A0E b s::R))(ag:s.ok){Q:Value→Heap→Prop}
  (aA:(s.used.length:Int)=s.most→Q (.tuple #[.int .i64 0,.int .i64 147]) h)
  (bP:(s.used.length:Int)≠s.most→∀n u,Reach s.used n s.taken u→∀h',sat h' (A0E b ⟨s.most,u,s.used++[u]⟩::R)→Q (.tuple #[.int .i64 u,.int .i64 0]) h'):
  V2 prog 242 #[at0 b] h Q:=by
 refine B2C _ h Q ?_
 obtain⟨sl,cG,c0,c1,c2,-⟩:=C61 hs
 have hl:=ag.len
 have hm:=ag.cO
 delta B5a bn cb cx ie kc ki nn pu sx vi wi
 simp[c2,c0]
 by_cases h4:(s.used.length:Int)=s.most
 ·rw[if_pos (by omega)]
  exact aA h4
 rw[if_neg (by omega)]
 simp[c1]
 obtain⟨n,u,hn,hu⟩:=C1h s.used s.taken ag.cL ag.dN ag.nodup (by omega)
 have wE:=hu.range ag.cL
 refine l6 (γ:=Nat×Int) (fun g c h'=>h'=h∧c.1=g.2∧0≤g.2∧g.2≤65535∧0≤c.2.1∧c.2.1+g.1≤64∧Reach s.used g.1 g.2 u) (fun g=>g.1) (n,s.taken)
  ⟨rfl,rfl,ag.cL,ag.dN,by simp,by simp;omega,hu⟩ ?_
 rintro⟨n',t⟩ ⟨cid,cj,⟨⟩⟩ h1 ⟨rfl,hc,oA,pH,xh,uX,hr⟩
 simp only at hc oA pH xh uX hr
 subst hc
 have bp:(if 65535<IntKind.wrap .i64 (cid+1) then(1:Int) else IntKind.wrap .i64 (cid+1))=nxt cid:=by
  rw[V5 (by omega) (by omega)];unfold nxt;split<;>omega
 have yg:=A3E oA
 have step:∀Q':Value→Heap→Prop,(nxt cid∈s.used→Q' (.bool true) h1)→(nxt cid∉s.used→Q' (.bool false) h1)→V2 prog 243 #[at0 b,.int .i64 (nxt cid)] h1 Q':=by
  intro Q' q1 q2
  refine B2m hs (by omega) ?_
  by_cases dY:nxt cid∈s.used
  ·simpa[dY] using q1 dY
  ·simpa[dY] using q2 dY
 have fin:nxt cid∉s.used→A6V ⟨b,1,none⟩ (.int .i64 (nxt cid)) h1 fun _ h2=>V2 prog 264 #[at0 b,.int .i64 (nxt cid)] h2 (p8.un [] fun _ h3=>Q (.tuple #[.int .i64 (nxt cid),.int .i64 0]) h3):=by
  intro dY
  have wF:u=nxt cid:=hr.det (.here dY)
  subst wF
  obtain⟨sl',af⟩:=A1G.1 hs
  refine W5 af (by simp) rfl fun h2 ae=>?_
  have aj:sat h2 (A0E b ⟨s.most,nxt cid,s.used⟩::R):=A1G.2 ⟨sl',ae⟩
  refine B4W aj (show s.used.length≤64 by omega) fun h3 ak=>?_
  simp
  exact bP h4 n _ hu h3 ak
 have nextj:IntKind.wrap .i64 (cj+1)=cj+1:=V5 (by omega) (by omega)
 have oN:cj≤64:=by omega
 simp[oN]
 have w1:IntKind.wrap .i64 (cid+1)=cid+1:=V5 (by omega) (by omega)
 rw[w1,nextj]
 have qR:∀m:Int,m=nxt cid→V2 prog 243 #[at0 b,.int .i64 m] h1 ((Kind.one Tag.bool).un fun b_1 h'=>
   if b_1=true then Go.H.Next (fun(g:Nat×Int) (c:Int×Int×Unit) h'=>h'=h1∧c.1=g.2∧0≤g.2∧g.2≤65535∧0≤c.2.1∧c.2.1+g.1≤64∧Reach s.used g.1 g.2 u) (fun g=>g.1) (n',cid) (m,cj+1,()) h'
   else A6V ⟨b,1,none⟩ (.int .i64 m) h' fun b_2 h'=>V2 prog 264 #[at0 b,.int .i64 m] h' (p8.un [] fun _ h3=>Q (.tuple #[.int .i64 m,.int .i64 0]) h3)):=by
  rintro m rfl
  refine step _ (fun dY=>?_) (fun dY=>?_)
  ·simp
   cases hr with
   |here hx=>exact absurd dY hx
   |on kP dr=>exact .mk (_,nxt cid) (Nat.lt_succ_self _) ⟨rfl,rfl,by simp;omega,by simp;omega,by simp;omega,by simp at uX⊢;omega,dr⟩
  ·simp
   exact fin dY
 by_cases vG:65535<cid+1
 ·rw[if_pos vG]
  exact qR 1 (by unfold nxt;omega)
 ·rw[if_neg vG]
  exact qR (cid+1) (by unfold nxt;omega)
variable {h:Heap} {R:List Asn}
theorem size_pos{s:B3O}(hs:¬s=ByteArray.mk #[]):0<s.size:=by
 refine Nat.pos_of_ne_zero fun e=>hs ?_
 have:s.data.size=0:=e
 have:s.data=#[]:=Array.eq_empty_of_size_eq_zero this
 cases s
 simp_all
def a8(b:Nat)(o:Z8):Asn:=exA fun x:Nat×Slc×Slc=>
 star (cells b #[at0 x.1,.int .i64 o.most,.bool o.on,.slice x.2.1.a x.2.1.len x.2.1.cap,.slice x.2.2.a x.2.2.len x.2.2.cap])
  (star (A0E x.1 o.aU) (star (U4 A0I 7 x.2.1 o.aG) (U4 Z4 5 x.2.2 o.waiting)))
theorem p6{h:Heap}{b:Nat}{o:Z8}{R:List Asn}:sat h (a8 b o::R)↔∃(pb:Nat) (fl wt:Slc),
  sat h (cells b #[at0 pb,.int .i64 o.most,.bool o.on,.slice fl.a fl.len fl.cap,.slice wt.a wt.len wt.cap]::A0E pb o.aU::U4 A0I 7 fl o.aG::U4 Z4 5 wt o.waiting::R):=by
 unfold a8
 rw[sat.bA]
 constructor
 ·rintro⟨⟨pb,fl,wt⟩,hs⟩
  rw[sat.aI] at hs
  exact⟨pb,fl,wt,(sat.aI.1 (sat.aI.1 hs.p1).p1).re [3,2,0,1]⟩
 ·rintro⟨pb,fl,wt,hs⟩
  refine⟨⟨pb,fl,wt⟩,?_⟩
  rw[sat.aI]
  exact(sat.aI.2 ((sat.aI.2 (hs.re [2,3,0,1])).re [2,0,1])).p1
theorem B7w{n:Int}(hs:sat h R){Q:Value→Heap→Prop}(hq:∀h',sat h' R→Q (.int .i64 (max 1 (min n 64))) h'):V2 prog 202 #[.int .i64 n] h Q:=by
 refine B06 n h Q ?_
 delta B3u cp ki nn pu vi
 refine U5 (B0d hs n fun b h1 aa=>⟨_,rfl,?_⟩)
 obtain⟨sl,ae⟩:=A1G.1 aa
 exact⟨_,rfl,_,by rw[U2];exact ae.cell 0,hq _ aa.drop⟩
theorem C1e(hs:sat h R)(most:Int){Q:Value→Heap→Prop}
  (hq:∀b h',sat h' (a8 b ⟨⟨64,0,[]⟩,max 1 (min most 64),false,[],[]⟩::R)→Q (at0 b) h'):V2 prog 200 #[.int .i64 most] h Q:=by
 refine B4d most h Q ?_
 delta B7q az ci cp nw pu vi vz
 refine U5 (B0d hs 64 fun pb h1 aa=>⟨_,rfl,?_⟩)
 refine U5 (B7w aa fun h2 ae=>⟨_,rfl,?_⟩)
 refine V4 ae fun b h3 aj=>?_
 exact hq b h3 (p6.2 ⟨pb,⟨none,0,0⟩,⟨none,0,0⟩,(Z3 (Z3 aj)).re [2,3,0,1]⟩)
theorem B8r{m:MsT}{id:Int}{dup:Bool}(hs:sat h R){Q:Value→Heap→Prop}(hq:∀c p h',sat h' (pkB .i64 (c,p,A0s m id dup)::R)→Q (A2p .i64 (pkT (A0s m id dup) c p)) h'):
  V2 prog 203 #[vMs m,.int .i64 id,.bool dup] h Q:=by
 refine A9r (toU m) id dup h Q ?_
 delta A9O az bn g2 ie jb ji jt nw pu sn sw ve vi vz w10 w11 w12 w13 w14 w15 w16 w17 w18 w19 w20 w21 w22 w23 w24 w25 w5 w6 w7 w8 w9
 refine V4 hs fun x1 h1 aa=>?_
 refine V4 aa fun x2 h2 ae=>?_
 refine⟨m.2.2.1,by rw[U2];exact ae.p1.cell 2,m.2.2.2.1,by rw[U2];exact ae.p1.cell 3,m.1,by rw[U2];exact ae.p1.cell 0,m.2.1,by rw[U2];exact ae.p1.cell 1,?_⟩
 refine V4 ae fun x7 h3 bo=>?_
 (try dsimp only);rw[U0]
 refine l0 bo rfl rfl fun h4 ak=>?_
 refine⟨m.2.2.2.2,by rw[U2];exact ak.p2.cell 4,?_⟩
 refine cut (fun z h'=>∃p:Slc,sat h' (cells x7 (W7 .i64 (pkT (A0s m id dup) ⟨none,0,0⟩ p)).toArray::cells x2 (W7 .i64 C4p).toArray::pkB .i64 (⟨none,0,0⟩,p,A0s m id dup)::R)) ?_ ?_
 ·intro K hK
  (try dsimp only);rw[U6]
  by_cases ht:m.2.2.2.2=ByteArray.mk #[]
  ·rw[if_neg (by rw[ht];decide)]
   refine hK _ _ ⟨⟨none,0,0⟩,?_⟩
   have:=A28 (k:=.i64) (o:=A0s m id dup) rfl (by simp[A0s,C05,ht]) ak
   exact(this.re [1,2,0,3]).p3.drop
  ·rw[if_pos (by simpa using size_pos ht)]
   refine⟨m.2.2.2.2,by rw[U2];exact ak.p2.cell 4,?_⟩
   refine V4 ak fun iu h5 ai=>?_
   (try dsimp only);rw[U0,U2]
   refine W5 ai.p1 (by simp) rfl fun h6 ay=>?_
   refine hK _ _ ⟨⟨some ⟨iu,0,none⟩,1,1⟩,?_⟩
   have hp:(A0s m id dup).props=[(38,0,C4A,m.2.2.2.2)]:=by simp[A0s,C05,ht]
   have h7:sat h6 (U4 W8 4 ⟨some ⟨iu,0,none⟩,1,1⟩ (A0s m id dup).props::cells x7 (W7 .i64 (pkT (A0s m id dup) ⟨none,0,0⟩ ⟨some ⟨iu,0,none⟩,1,1⟩)).toArray::cells x2 (W7 .i64 C4p).toArray::R):=by
    rw[hp]
    exact A1A (o:=0) (cs:=(W8 (38,0,C4A,m.2.2.2.2)).toArray) ⟨rfl,D6 _,rfl,by simp,by simp⟩ (ay.re [1,0,2,3]).p3.drop
   have h8:sat h6 (U4 (eKd .i64) 1 ⟨none,0,0⟩ (A0s m id dup).bZ::U4 W8 4 ⟨some ⟨iu,0,none⟩,1,1⟩ (A0s m id dup).props::cells x7 (W7 .i64 (pkT (A0s m id dup) ⟨none,0,0⟩ ⟨some ⟨iu,0,none⟩,1,1⟩)).toArray::cells x2 (W7 .i64 C4p).toArray::R):=Z3 h7
   exact((A4B (t:=(⟨none,0,0⟩,⟨some ⟨iu,0,none⟩,1,1⟩,A0s m id dup))).2 h8).re [1,2,0]
 rintro⟨⟩ h5 ⟨p,ai⟩
 refine Y4 (ts:=B76 .i64) (pkT (A0s m id dup) ⟨none,0,0⟩ p) ai rfl ?_
 (try dsimp only);rw[U0]
 refine l0 ai.p1 rfl rfl fun h6 ay=>?_
 refine Y4 (ts:=B76 .i64) (pkT (A0s m id dup) ⟨none,0,0⟩ p) ay rfl ?_
 exact hq _ _ h6 ay.drop.drop
theorem B5i{s:Slc}{os:List PkO}{t:Slc×Slc×PkO}(hs:sat h (o6 .i64 s os::pkB .i64 t::R)){T T1 T2:TypeId}{zs:C9v}(hz:zs.size=26){zero:C9v}(gu:zero.size=26)(hb:os.length≤20000){β:Type}{f:Slc→HM β}{Q:β→Heap→Prop}
  (hq:∀s' h',sat h' (o6 .i64 s' (os++[t.2.2])::R)→f s' h' Q):
  (HM.bind (HM.new (.cells zs T)) fun x=>HM.bind (A91 ⟨x,0,none⟩ (W7 .i64 (pkF t))) fun _=>HM.bind (o4 (B76 .i64) ⟨x,0,none⟩) fun y=>
   HM.bind (HM.new (.cells (W7 .i64 y).toArray T1)) fun b=>HM.bind (HM.append T2 26 328 zero s 1 (V6 26 ⟨some ⟨b,0,none⟩,1,1⟩)) f) h Q:=by
 refine V4 hs fun x h1 aa=>?_
 (try dsimp only);rw[U0]
 refine B4N aa (by rw[hz];rfl) (B22 .i64 _) fun h2 ae=>?_
 refine Y4 (ts:=B76 .i64) (pkF t) ae rfl ?_
 refine A40 (t:=t) ae.drop gu (by decide) (by omega) fun s' h3 aj=>?_
 exact hq s' h3 aj
theorem B0e{b:Nat}{o:Z8}{ps:List PkO}{s:Slc}(hs:sat h (a8 b o::o6 .i64 s ps::R))(ag:W9 o)(gS:ps.length≤10000){Q:Value→Heap→Prop}
  (hq:∀h' S,sat h' (a8 b (Y7 o).1::o6 .i64 S (ps++(Y7 o).2)::R)→Q (.slice S.a S.len S.cap) h'):
  V2 prog 193 #[at0 b,.slice s.a s.len s.cap] h Q:=by
 refine B2A (some ⟨b,0,none⟩) s h Q ?_
 delta B48 az bn g2 g7 ie ix ji kb kc ki kp nn nw pu rq sn sx vi vs
 obtain⟨wh,xR,wa,pN⟩:=p6.1 hs
 refine⟨_,rfl,o.on,by rw[U2];exact pN.cell 2,?_⟩
 (try dsimp only);rw[U6]
 cases aP:o.on with
 |false=>
  rw[if_pos (by rfl)]
  refine hq h s ?_
  have e:Y7 o=(o,[]):=by unfold Y7;rw[if_neg (by simp[aP])]
  rw[e,C1]
  exact hs
 |true=>
 rw[if_neg (by simp)]
 clear pN wh xR wa
 (try dsimp only);rw[U0]
 refine A7i (γ:=Z8×List PkO) (fun g c h'=>W9 g.1∧g.1.on=true∧g.2.length+g.1.waiting.length≤10300∧(Y7 g.1).1=(Y7 o).1∧g.2++(Y7 g.1).2=ps++(Y7 o).2∧sat h' (a8 b g.1::o6 .i64 c.1 g.2::R)) (fun g=>g.1.waiting.length) (o,ps)
  ⟨ag,aP,by have:=ag.wl;simp only;omega,rfl,rfl,hs⟩ ?_
 clear hs gS ag aP
 rintro⟨o1,os⟩ ⟨out,⟨⟩⟩ h1 ⟨ag,aP,gS,da,cM,dR⟩ K bp hd
 simp only at ag gS da cM dR aP
 obtain⟨pb,fl,wt,aa⟩:=p6.1 dR
 have eG:wt.len=o1.waiting.length:=(aa.p3).aW
 have cn:fl.len=o1.aG.length:=(aa.p2).aW
 have nO:Y7 o1=goF o1 o1.waiting:=by unfold Y7;rw[if_pos aP]
 rw[nO] at da cM
 refine⟨_,rfl,wt,by rw[U2];exact aa.cell 4,?_⟩
 (try dsimp only);rw[U6]
 cases bw:o1.waiting with
 |nil=>
  rw[if_neg (by rw[eG,bw];simp)]
  have e:goF o1 o1.waiting=(o1,[]):=by
   rw[bw]
   show({o1 with waiting:=[]},[])=_
   rw[←bw]
  rw[e] at da cM
  rw[C1] at cM
  refine hd (.inl (out,())) _ (hq h1 out ?_)
  rw[←da,←cM]
  exact dR
 |cons m w=>
 rw[if_pos (by rw[eG,bw];simp)]
 have gZ:=ag.wl
 have tj:=ag.wq m (by rw[bw];exact B5 ..)
 have nv:∀x∈w,0≤x.2.2.1∧x.2.2.1≤2:=fun x hx=>ag.wq x (by rw[bw];exact C2 _ hx)
 rw[bw] at gS aa eG gZ
 rw[bw,B1Q] at da cM
 have ij:=ag.f64
 have qe:=ag.m64
 refine cut (fun z h'=>match z with
  |.inl c=>∃g:Z8×List PkO,g.1.waiting.length<o1.waiting.length∧W9 g.1∧g.1.on=true∧g.2.length+g.1.waiting.length≤10300∧(Y7 g.1).1=(Y7 o).1∧g.2++(Y7 g.1).2=ps++(Y7 o).2∧sat h' (a8 b g.1::o6 .i64 c.1 g.2::R)
  |.inr (.inr (.inr c))=>sat h' (a8 b (Y7 o).1::o6 .i64 c.1 (ps++(Y7 o).2)::R)
  |_=>False) (fun K1 fy=>?_) (fun z h2 hz=>?_)
 rotate_left
 ·match z,hz with
  |.inl (c,()),⟨g,g1,g2⟩=>exact bp g _ _ g1 g2
  |.inr (.inr (.inr (c,()))),hz=>exact hd (.inr (c,())) _ (hq h2 c hz)
 refine⟨_,rfl,wt,by rw[U2];exact aa.cell 4,?_⟩
 (try dsimp only);rw[U0]
 refine X6 (i:=0) (aa.p3.aO A7A) (x:=m) rfl fun p hp=>?_
 (try dsimp only);rw[U0]
 refine C2S hp ?_
 refine V4 aa fun gR h3 aY=>?_
 (try dsimp only);rw[U0]
 refine l0 aY rfl rfl fun h4 gF=>?_
 have ae:sat h4 (cells gR (Z4 m).toArray::cells b #[at0 pb,.int .i64 o1.most,.bool o1.on,.slice fl.a fl.len fl.cap,.slice wt.a wt.len wt.cap]::A0E pb o1.aU::U4 A0I 7 fl o1.aG::U4 Z4 5 wt (m::w)::o6 .i64 out os::R):=gF
 clear gF aY aa
 refine cut (fun z h'=>h'=h4∧z.1=decide (0<m.2.2.1∧o1.most≤(o1.aG.length:Int))) ?_ ?_
 ·intro K2 bd
  refine⟨m.2.2.1,by rw[U2];exact ae.cell 2,?_⟩
  (try dsimp only);rw[U6]
  by_cases fP:0<m.2.2.1
  ·rw[if_pos (by simpa using fP)]
   refine⟨_,rfl,fl,by rw[U2];exact ae.p1.cell 3,_,rfl,o1.most,by rw[U2];exact ae.p1.cell 1,?_⟩
   refine bd _ _ ⟨rfl,?_⟩
   simp only[cn]
   rw[F9]
   simp[fP]
  ·rw[if_neg (by simpa using fP)]
   exact bd _ _ ⟨rfl,by simp[fP]⟩
 rintro⟨z,⟨⟩⟩ h5 ⟨rfl,hz⟩
 simp only at hz
 subst hz
 (try dsimp only);rw[U6]
 by_cases aA:0<m.2.2.1∧o1.most≤(o1.aG.length:Int)
 ·rw[if_pos (by simpa using aA)]
  rw[if_pos aA] at da cM
  rw[C1] at cM
  refine fy (.inr (.inr (.inr (out,())))) _ ?_
  show sat h5 (a8 b (Y7 o).1::o6 .i64 out (ps++(Y7 o).2)::R)
  rw[←da,←cM]
  have:sat h5 (a8 b {o1 with waiting:=m::w}::o6 .i64 out os::R):=p6.2 ⟨pb,fl,wt,ae.drop⟩
  exact this
 rw[if_neg (by simpa using aA)]
 rw[if_neg aA] at da cM
 refine⟨_,rfl,wt,by rw[U2];exact ae.p1.cell 4,?_⟩
 (try dsimp only);rw[U0]
 refine B2k (mx:=none) (lo:=1) (hi:=(m::w).length) ae.p4 A7A (by simp) (D6 _) ⟨rfl,by simp⟩ (by rw[eG];rfl) fun wt' aj=>?_
 rw[F5] at aj
 have bo:sat h5 (U4 Z4 5 wt' w::cells gR (Z4 m).toArray::cells b #[at0 pb,.int .i64 o1.most,.bool o1.on,.slice fl.a fl.len fl.cap,.slice wt.a wt.len wt.cap]::A0E pb o1.aU::U4 A0I 7 fl o1.aG::o6 .i64 out os::R):=aj
 clear aj ae
 refine⟨_,rfl,?_⟩
 (try dsimp only);rw[U0,U2]
 refine W5 bo.p2 (by simp) rfl fun h6 bq=>?_
 have ak:sat h6 (cells b #[at0 pb,.int .i64 o1.most,.bool o1.on,.slice fl.a fl.len fl.cap,.slice wt'.a wt'.len wt'.cap]::U4 Z4 5 wt' w::cells gR (Z4 m).toArray::A0E pb o1.aU::U4 A0I 7 fl o1.aG::o6 .i64 out os::R):=bq
 clear bq bo
 refine⟨m.2.2.1,by rw[U2];exact ak.p2.cell 2,?_⟩
 (try dsimp only);rw[U6]
 by_cases fP:0<m.2.2.1
 ·rw[if_neg (by simp;omega)]
  rw[if_pos fP] at da cM
  dsimp only at da cM
  have jD:(o1.aG.length:Int)<o1.most:=by omega
  refine⟨_,rfl,some ⟨pb,0,none⟩,by rw[U2];exact ak.cell 0,?_⟩
  have tJ:=ag.fH
  have iK:=ag.pm
  refine u6 (B9D ak.p3 ag.pk (fun hf=>absurd hf (by omega)) (fun _ n u hr h7 gg=>⟨(u,0,()),rfl,?_⟩))
  have hu:=B5o hr
  have aL:sat h7 (A0E pb ⟨o1.aU.most,u,o1.aU.used++[u]⟩::cells b #[at0 pb,.int .i64 o1.most,.bool o1.on,.slice fl.a fl.len fl.cap,.slice wt'.a wt'.len wt'.cap]::U4 Z4 5 wt' w::cells gR (Z4 m).toArray::U4 A0I 7 fl o1.aG::o6 .i64 out os::R):=gg
  clear gg
  refine⟨_,rfl,fl,by rw[U2];exact aL.p1.cell 3,?_⟩
  refine Y4 (ts:=[.str,.str,.int .i64,.bool,.str]) (toU m) aL.p3 rfl ?_
  refine V4 aL fun pg h8 bu=>?_
  refine⟨fl,by rw[U2];exact bu.p2.cell 3,rfl,?_⟩
  (try dsimp only);rw[U0]
  refine z8 (enc:=A0I) (ys:=[(u,m,false)]) A2C B1X rfl bu.p5 rfl ?_ (by decide) (by decide) (by omega) fun fl' h9 ff=>?_
  ·simp only[V6,M9,D5,H8,C1]
   exact bu.reads rfl
  refine⟨_,rfl,?_⟩
  (try dsimp only);rw[U0,U2]
  refine W5 ff.p3 (by simp) rfl fun fX gh=>?_
  have aV:=ag.take (m:=m) (w:=w) (by simp only[B7] at gZ;omega) nv ⟨fP,tj.2⟩ jD
  rw[hu] at da cM aV
  have eY:sat fX (a8 b {o1 with aU:=⟨o1.aU.most,u,o1.aU.used++[u]⟩,aG:=o1.aG++[(u,m,false)],waiting:=w}::cells gR (Z4 m).toArray::o6 .i64 out os::R):=p6.2 ⟨pb,fl',wt',(gh.re [2,5,0,3,1,4,6]).drop.re [1,2,3,4,0]⟩
  refine Y4 (ts:=[.str,.str,.int .i64,.bool,.str]) (toU m) eY.p1 rfl ?_
  refine U5 (B8r (m:=m) (id:=u) (dup:=false) eY fun c p h8 ay=>⟨pkT (A0s m u false) c p,rfl,?_⟩)
  refine B5i (t:=(c,p,A0s m u false)) (ay.re [3,0,1,2]) rfl rfl (by simp only[B7] at gS;omega) fun out' h9 aL=>?_
  refine fy (.inl (out',())) _ ⟨({o1 with aU:=⟨o1.aU.most,u,o1.aU.used++[u]⟩,aG:=o1.aG++[(u,m,false)],waiting:=w},os++[A0s m u false]),?_,aV,aP,?_,?_,?_,?_⟩
  ·simp only[bw,B7];omega
  ·simp only[B4,B7,G8] at gS⊢
   omega
  ·rw[←da]
   have:=congrArg Prod.fst (A37 {o1 with aU:=⟨o1.aU.most,u,o1.aU.used++[u]⟩,aG:=o1.aG++[(u,m,false)]} w w)
   unfold Y7
   rw[if_pos aP]
   exact this
  ·rw[←cM]
   have:=congrArg Prod.snd (A37 {o1 with aU:=⟨o1.aU.most,u,o1.aU.used++[u]⟩,aG:=o1.aG++[(u,m,false)]} w w)
   simp only at this⊢
   unfold Y7
   rw[if_pos aP,this,D4]
   rfl
  ·exact((aL.re [2,1,0]).drop)
 ·rw[if_pos (by simp;omega)]
  rw[if_neg fP] at da cM
  dsimp only at da cM
  have eY:sat h6 (a8 b {o1 with waiting:=w}::cells gR (Z4 m).toArray::o6 .i64 out os::R):=p6.2 ⟨pb,fl,wt',ak.re [0,3,4,1,2]⟩
  refine Y4 (ts:=[.str,.str,.int .i64,.bool,.str]) (toU m) eY.p1 rfl ?_
  refine U5 (B8r (m:=m) (id:=0) (dup:=false) eY fun c p h8 ay=>⟨pkT (A0s m 0 false) c p,rfl,?_⟩)
  refine B5i (t:=(c,p,A0s m 0 false)) (ay.re [3,0,1,2]) rfl rfl (by simp only[B7] at gS;omega) fun out' h9 aL=>?_
  have bU:W9 {o1 with waiting:=w}:=⟨ag.pm,ag.pk,ag.m1,ag.m64,ag.ids,by simp only[B7] at gZ⊢;omega,ag.fq,nv⟩
  refine fy (.inl (out',())) _ ⟨({o1 with waiting:=w},os++[A0s m 0 false]),?_,bU,aP,?_,?_,?_,?_⟩
  ·simp only[bw,B7];omega
  ·simp only[B4,B7,G8] at gS⊢
   omega
  ·rw[←da]
   unfold Y7
   rw[if_pos aP]
   exact congrArg Prod.fst (A37 o1 w w)
  ·rw[←cM]
   have:=congrArg Prod.snd (A37 o1 w w)
   unfold Y7
   rw[if_pos aP]
   simp only at this⊢
   rw[this,D4]
   rfl
  ·exact((aL.re [2,1,0]).drop)
end
section
open Go.H Go.Proofs
variable {h:Heap} {R:List Asn}
theorem B9F{b:Nat}{o:Z8}{m:MsT}(hs:sat h (a8 b o::R))(ag:W9 o){Q:Value→Heap→Prop}
  (hq:∀S h',sat h' (a8 b (Y1 o m).1.1::o6 .i64 S (Y1 o m).1.2::R)→Q (.tuple #[.slice S.a S.len S.cap,.int .i64 (Y1 o m).2]) h'):
  V2 prog 139 #[at0 b,vMs m] h Q:=by
 refine B2B (some ⟨b,0,none⟩) (toU m) h Q ?_
 obtain⟨pb,fl,wt,dR⟩:=p6.1 hs
 have eG:wt.len=o.waiting.length:=(dR.re [3,0,1,2]).aW
 delta B49 az bn cc g7 ie ji kb kc nn nw pu rq sx vs vz
 refine V4 dR fun mb h1 bx=>?_
 have aa:sat h1 (cells mb (Z4 m).toArray::cells b #[at0 pb,.int .i64 o.most,.bool o.on,.slice fl.a fl.len fl.cap,.slice wt.a wt.len wt.cap]::A0E pb o.aU::U4 A0I 7 fl o.aG::U4 Z4 5 wt o.waiting::R):=bx
 clear bx dR hs
 have hM:V9 h1 ⟨mb,2,none⟩=some (.int .i64 m.2.2.1):=aa.cell 2
 have stay:∀{c:Int},Y1 o m=((o,[]),c)→Q (.tuple #[.slice none 0 0,.int .i64 c]) h1:=fun{c} he=>by
  have:=hq ⟨none,0,0⟩ h1
  rw[he] at this
  exact this ((A1M (p6.2 ⟨pb,fl,wt,aa.drop⟩)).p1)
 refine cut (fun x h'=>h'=h1∧x.1=decide (m.2.2.1<0∨2<m.2.2.1)) ?_ ?_
 ·intro K hK
  refine⟨m.2.2.1,by rw[U2];exact hM,?_⟩
  (try dsimp only);rw[U6]
  by_cases h0:m.2.2.1<0
  ·rw[if_pos (by simpa using h0)]
   exact hK _ _ ⟨rfl,by simp[h0]⟩
  ·rw[if_neg (by simpa using h0)]
   exact⟨m.2.2.1,by rw[U2];exact hM,hK _ _ ⟨rfl,by simp[h0]⟩⟩
 rintro⟨x,⟨⟩⟩ h2 ⟨rfl,hx⟩
 simp only at hx
 subst hx
 (try dsimp only);rw[U6]
 by_cases al:m.2.2.1<0∨2<m.2.2.1
 ·rw[if_pos (by simpa using al)]
  exact stay (by unfold Y1;rw[if_pos al])
 rw[if_neg (by simpa using al)]
 refine cut (fun x h'=>h'=h2∧x.1=decide (m.2.2.1=0∧o.on=false)) ?_ ?_
 ·intro K hK
  refine⟨m.2.2.1,by rw[U2];exact hM,?_⟩
  (try dsimp only);rw[U6]
  by_cases h0:m.2.2.1=0
  ·rw[if_pos (by simpa using h0)]
   refine⟨_,rfl,o.on,by rw[U2];exact aa.p1.cell 2,hK _ _ ⟨rfl,?_⟩⟩
   cases o.on<;>simp[h0]
  ·rw[if_neg (by simpa using h0)]
   exact hK _ _ ⟨rfl,by simp[h0]⟩
 rintro⟨x,⟨⟩⟩ h3 ⟨rfl,hx⟩
 simp only at hx
 subst hx
 (try dsimp only);rw[U6]
 by_cases dF:m.2.2.1=0∧o.on=false
 ·rw[if_pos (by simpa using dF)]
  exact stay (by unfold Y1;rw[if_neg al,if_pos dF])
 rw[if_neg (by simpa using dF)]
 refine⟨_,rfl,wt,by rw[U2];exact aa.p1.cell 4,?_⟩
 (try dsimp only);rw[U6]
 by_cases aA:256≤o.waiting.length
 ·rw[if_pos (by rw[eG];simp only[decide_eq_true_eq];omega)]
  exact stay (by unfold Y1;rw[if_neg al,if_neg dF,if_pos aA])
 rw[if_neg (by rw[eG];simp only[decide_eq_true_eq];omega)]
 refine⟨_,rfl,wt,by rw[U2];exact aa.p1.cell 4,?_⟩
 refine Y4 (ts:=[.str,.str,.int .i64,.bool,.str]) (toU m) aa rfl ?_
 refine V4 aa fun pv h4 aY=>?_
 have ae:sat h4 (cells pv (Z4 m).toArray::cells mb (Z4 m).toArray::cells b #[at0 pb,.int .i64 o.most,.bool o.on,.slice fl.a fl.len fl.cap,.slice wt.a wt.len wt.cap]::A0E pb o.aU::U4 A0I 7 fl o.aG::U4 Z4 5 wt o.waiting::R):=aY
 clear aY
 refine⟨wt,by rw[U2];exact ae.p2.cell 4,rfl,?_⟩
 (try dsimp only);rw[U0]
 refine z8 (enc:=Z4) (ys:=[m]) A7A B50 rfl ae.p5 rfl ?_ (by decide) (by decide) (by omega) fun wt' h5 aj=>?_
 ·simp only[V6,M9,D5,H8,C1]
  exact ae.reads rfl
 refine⟨_,rfl,?_⟩
 (try dsimp only);rw[U0,U2]
 refine W5 aj.p3 (by simp) rfl fun h6 ak=>?_
 have ai:sat h6 (a8 b {o with waiting:=o.waiting++[m]}::o6 .i64 ⟨none,0,0⟩ []::R):=by
  refine(A1M (p6.2 ⟨pb,fl,wt',?_⟩)).p1
  exact(ak.re [0,4,5,1,2,3]).p4.p5.drop.drop
 have hw:=ag.wait (m:=m) ⟨by omega,by omega⟩ aA
 have he:Y1 o m=(Y7 {o with waiting:=o.waiting++[m]},0):=by unfold Y1;rw[if_neg al,if_neg dF,if_neg aA]
 rw[he] at hq
 refine U5 (B0e ai hw (by simp) fun h7 S ay=>⟨S,rfl,?_⟩)
 exact hq S h7 ay
theorem B8u{b:Nat}{o:Z8}{most:Int}(hs:sat h (a8 b o::R))(ag:W9 o){Q:Value→Heap→Prop}
  (hq:∀S h',sat h' (a8 b (A0g o most).1::o6 .i64 S (A0g o most).2::R)→Q (.slice S.a S.len S.cap) h'):
  V2 prog 151 #[at0 b,.int .i64 most] h Q:=by
 refine B07 (some ⟨b,0,none⟩) most h Q ?_
 obtain⟨pb,fl,wt,dR⟩:=p6.1 hs
 delta B3v ad az bn cc ci g2 g5 g7 ie ix jb ji kc nn nw pu sn sx ve vi vs vz wi
 refine⟨_,rfl,?_⟩
 (try dsimp only);rw[U0,U2]
 refine W5 dR (by simp) rfl fun h0 sQ=>?_
 refine U5 (B7w sQ fun h1 aa=>⟨_,rfl,?_⟩)
 refine⟨_,rfl,?_⟩
 (try dsimp only);rw[U0,U2]
 refine W5 aa (by simp) rfl fun h2 aY=>?_
 have ae:sat h2 (cells b #[at0 pb,.int .i64 (max 1 (min most 64)),.bool true,.slice fl.a fl.len fl.cap,.slice wt.a wt.len wt.cap]::A0E pb o.aU::U4 A0I 7 fl o.aG::U4 Z4 5 wt o.waiting::R):=aY
 clear aY aa dR hs
 have cn:fl.len=o.aG.length:=ae.p2.aW
 have ij:=ag.f64
 (try dsimp only);rw[U0]
 refine A7i (γ:=Nat) (fun i x h'=>i≤o.aG.length∧x.2.1=(i:Int)∧sat h' (cells b #[at0 pb,.int .i64 (max 1 (min most 64)),.bool true,.slice fl.a fl.len fl.cap,.slice wt.a wt.len wt.cap]::A0E pb o.aU::U4 A0I 7 fl o.aG::U4 Z4 5 wt o.waiting::o6 .i64 x.1 ((o.aG.take i).map A1r)::R))
  (fun i=>o.aG.length-i) 0 ⟨C9 _,rfl,by simpa using(A1M (k:=.i64) ae).re [1,2,3,4,0]⟩ ?_
 rintro i ⟨out,ci,⟨⟩⟩ h ⟨hi,hx,aj⟩ K bp hd
 simp only at hx aj
 subst hx
 refine⟨_,rfl,fl,by rw[U2];exact aj.cell 3,?_⟩
 (try dsimp only);rw[U6]
 by_cases ah:i<o.aG.length
 case neg=>
  rw[if_neg (by rw[cn];simp only[decide_eq_true_eq];omega)]
  rw[D2 (by omega)] at aj
  refine hd _ _ ?_
  have ak:sat h (a8 b {o with on:=true,most:=max 1 (min most 64)}::o6 .i64 out (o.aG.map A1r)::R):=p6.2 ⟨pb,fl,wt,aj⟩
  have h1:W9 {o with on:=true,most:=max 1 (min most 64)}:=⟨ag.pm,ag.pk,by simp only;omega,by simp only;omega,ag.ids,ag.wl,ag.fq,ag.wq⟩
  refine U5 (B0e ak h1 (by rw[B9];omega) fun h7 S ay=>⟨S,rfl,?_⟩)
  exact hq S h7 ay
 case pos=>
  rw[if_pos (by rw[cn];simp only[decide_eq_true_eq];omega)]
  have hy:=B0 ah
  have aV:(o.aG.take (i+1)).map A1r=(o.aG.take i).map A1r++[A1r o.aG[i]]:=by rw[H7,hy,B8];rfl
  generalize o.aG[i]=f at hy aV
  refine cut (fun z h'=>sat h' (o6 .i64 z.1 ((o.aG.take (i+1)).map A1r)::cells b #[at0 pb,.int .i64 (max 1 (min most 64)),.bool true,.slice fl.a fl.len fl.cap,.slice wt.a wt.len wt.cap]::A0E pb o.aU::U4 A0I 7 fl o.aG::U4 Z4 5 wt o.waiting::R)) ?_ ?_
  rotate_left
  ·rintro⟨out',⟨⟩⟩ h6 ay
   exact bp (i+1) _ _ (by omega) ⟨by omega,by rw[V5 (by omega) (by omega)];rfl,ay.re [1,2,3,4,0]⟩
  intro K2 bd
  refine⟨_,rfl,fl,by rw[U2];exact aj.cell 3,?_⟩
  (try dsimp only);rw[U0]
  refine X6 (aj.p2.aO A2C) hy fun a ha=>?_
  refine A0j (ts:=[.int .i64,.str,.str,.int .i64,.bool,.str,.bool]) (C3j f) ha ?_
  refine V4 aj fun lq h4 ak=>?_
  (try dsimp only);rw[U0]
  refine l0 ak rfl rfl fun h5 fo=>?_
  have ai:sat h5 (cells lq (A0I f).toArray::cells b #[at0 pb,.int .i64 (max 1 (min most 64)),.bool true,.slice fl.a fl.len fl.cap,.slice wt.a wt.len wt.cap]::A0E pb o.aU::U4 A0I 7 fl o.aG::U4 Z4 5 wt o.waiting::o6 .i64 out ((o.aG.take i).map A1r)::R):=fo
  clear fo ak
  refine⟨f.2.2,by rw[U2];exact ai.cell 6,?_⟩
  have oP:((o.aG.take i).map A1r).length≤64:=by rw[B9,E1];omega
  rw[aV] at bd
  (try dsimp only);rw[U6]
  unfold A1r at bd
  by_cases hr:f.2.2=true
  ·rw[if_pos hr]
   rw[if_pos hr] at bd
   refine⟨f.1,by rw[U2];exact ai.cell 0,?_⟩
   have ay:=A28 (k:=.i64) (o:=Z7 6 f.1 0) rfl rfl ai
   refine A40 (t:=(⟨none,0,0⟩,⟨none,0,0⟩,Z7 6 f.1 0)) (ay.re [6,0,1,2,3,4,5]) rfl (by decide) (by omega) fun s' h6 aL=>?_
   exact bd _ _ aL.p1.drop
  ·rw[if_neg hr]
   rw[if_neg hr] at bd
   refine A0j (ts:=[.str,.str,.int .i64,.bool,.str]) (toU f.2.1) (fun j v hv=>?_) ?_
   ·rw[U2,Addr.bL,ai.cell]
    match j,hv with
    |0,hv=>exact hv
    |1,hv=>exact hv
    |2,hv=>exact hv
    |3,hv=>exact hv
    |4,hv=>exact hv
    |n+5,hv=>exact absurd hv (by show ¬(Z4 f.2.1)[n+5]? =some v;simp)
   refine⟨f.1,by rw[U2];exact ai.cell 0,?_⟩
   refine U5 (B8r (m:=f.2.1) (id:=f.1) (dup:=true) ai fun c p h6 ay=>⟨pkT (A0s f.2.1 f.1 true) c p,rfl,?_⟩)
   refine B5i (t:=(c,p,A0s f.2.1 f.1 true)) (ay.re [6,0,1,2,3,4,5]) rfl rfl (by omega) fun s' h7 aL=>?_
   exact bd _ _ aL.p1.drop
theorem B9G{b:Nat}{o:Z8}{i:Nat}{f:FlT}(hs:sat h (a8 b o::R))(ag:W9 o)(hf:o.aG[i]? =some f){Q:Value→Heap→Prop}
  (hq:∀h',sat h' (a8 b (A3a o f.1)::R)→Q (.tuple #[]) h'):V2 prog 195 #[at0 b,.int .i64 i] h Q:=by
 refine B2z (some ⟨b,0,none⟩) i h Q ?_
 obtain⟨pb,fl,wt,aa⟩:=p6.1 hs
 delta B47 az bn cb g5 ie ix kc ki kp nn nw pu sx vi vs wi
 have ck:=(D8.1 hf).1
 have ij:=ag.f64
 refine⟨_,rfl,some ⟨pb,0,none⟩,by rw[U2];exact aa.cell 0,_,rfl,fl,by rw[U2];exact aa.cell 3,?_⟩
 (try dsimp only);rw[U0]
 refine X6 (aa.p2.aO A2C) hf fun a ha=>?_
 refine⟨f.1,ha 0 _ rfl,?_⟩
 refine U5 (B3q aa.p1 ag.pk fun h2 aY=>⟨_,rfl,?_⟩)
 have ae:sat h2 (cells b #[at0 pb,.int .i64 o.most,.bool o.on,.slice fl.a fl.len fl.cap,.slice wt.a wt.len wt.cap]::A0E pb ⟨o.aU.most,o.aU.taken,o.aU.used.erase f.1⟩::U4 A0I 7 fl o.aG::U4 Z4 5 wt o.waiting::R):=aY.p1
 clear aY
 have cn:fl.len=o.aG.length:=ae.p2.aW
 (try dsimp only);rw[U0]
 refine A7i (γ:=Nat) (fun j x h'=>j≤o.aG.length∧x.2.1=(j:Int)∧sat h' (U4 A0I 7 x.1 (if j≤i then o.aG.take j else o.aG.take i++(o.aG.take j).drop (i+1))::cells b #[at0 pb,.int .i64 o.most,.bool o.on,.slice fl.a fl.len fl.cap,.slice wt.a wt.len wt.cap]::A0E pb ⟨o.aU.most,o.aU.taken,o.aU.used.erase f.1⟩::U4 A0I 7 fl o.aG::U4 Z4 5 wt o.waiting::R))
  (fun j=>o.aG.length-j) 0 ⟨C9 _,rfl,by rw[if_pos (C9 _),List.take_zero];exact Z3 ae⟩ ?_
 rintro j ⟨out,ci,⟨⟩⟩ h ⟨hi,hx,aj⟩ K bp hd
 simp only at hx aj
 subst hx
 refine⟨_,rfl,fl,by rw[U2];exact aj.p1.cell 3,?_⟩
 (try dsimp only);rw[U6]
 by_cases ah:j<o.aG.length
 case neg=>
  rw[if_neg (by rw[cn];simp only[decide_eq_true_eq];omega)]
  have hj:j=o.aG.length:=by omega
  have e:o.aG.take j=o.aG:=D2 (by omega)
  rw[if_neg (by omega),e,←List.eraseIdx_eq_take_drop_succ,B7W ag.nd hf] at aj
  refine hd _ _ ⟨_,rfl,?_⟩
  (try dsimp only);rw[U0,U2]
  refine W5 aj.p1 (by simp) rfl fun h4 ak=>?_
  exact hq h4 (p6.2 ⟨pb,out,wt,(ak.re [0,2,1,4,3]).re [0,1,2,3,4]|>fun hh=>(hh.re [4,0,1,2,3]).drop⟩)
 rw[if_pos (by rw[cn];simp only[decide_eq_true_eq];omega)]
 have hy:=B0 ah
 have aV:o.aG.take (j+1)=o.aG.take j++[o.aG[j]]:=by rw[H7,hy];rfl
 generalize o.aG[j]=g at hy aV
 refine cut (fun z h'=>sat h' (U4 A0I 7 z.1 (if j+1≤i then o.aG.take (j+1) else o.aG.take i++(o.aG.take (j+1)).drop (i+1))::cells b #[at0 pb,.int .i64 o.most,.bool o.on,.slice fl.a fl.len fl.cap,.slice wt.a wt.len wt.cap]::A0E pb ⟨o.aU.most,o.aU.taken,o.aU.used.erase f.1⟩::U4 A0I 7 fl o.aG::U4 Z4 5 wt o.waiting::R)) ?_ ?_
 rotate_left
 ·rintro⟨out',⟨⟩⟩ h6 ay
  exact bp (j+1) _ _ (by omega) ⟨by omega,by rw[V5 (by omega) (by omega)];rfl,ay⟩
 intro K2 bd
 (try dsimp only);rw[U6]
 by_cases uW:j=i
 ·rw[if_neg (by simp[uW])]
  refine bd _ _ ?_
  subst uW
  rw[if_pos (D6 _)] at aj
  rw[if_neg (by omega),L8 (by rw[E1];omega),C1]
  exact aj
 ·rw[if_pos (by simp;omega)]
  refine⟨_,rfl,fl,by rw[U2];exact aj.p1.cell 3,?_⟩
  (try dsimp only);rw[U0]
  refine X6 (aj.p3.aO A2C) hy fun a ha=>?_
  refine A0j (ts:=[.int .i64,.str,.str,.int .i64,.bool,.str,.bool]) (C3j g) ha ?_
  refine A00 (x:=g) A2C B1X rfl aj (by decide) (by decide) ?_ fun out' h4 ak=>?_
  ·have:(if j≤i then o.aG.take j else o.aG.take i++(o.aG.take j).drop (i+1)).length≤130:=by
    split
    ·rw[E1];omega
    ·rw[B4,R0,E1,E1];omega
   omega
  refine bd _ _ ?_
  by_cases h1:j≤i
  ·rw[if_pos h1] at ak
   rw[if_pos (by omega),aV]
   exact ak
  ·rw[if_neg h1] at ak
   rw[if_neg (by omega),aV,O9 (by rw[E1];omega),←D4]
   exact ak
theorem C1f{b:Nat}{o:Z8}{p:Pk}(hs:sat h (a8 b o::R))(ag:W9 o){Q:Value→Heap→Prop}
  (hq:∀S h',sat h' (a8 b (A0S o p.1 p.2.2.2.2.1 p.2.2.2.2.2.2.2.1).1.1::o6 .i64 S (A0S o p.1 p.2.2.2.2.1 p.2.2.2.2.2.2.2.1).1.2::R)→Q (.tuple #[.slice S.a S.len S.cap,.int .i64 (A0S o p.1 p.2.2.2.2.1 p.2.2.2.2.2.2.2.1).2]) h'):
  V2 prog 142 #[at0 b,A2p .i64 p] h Q:=by
 refine B0l (some ⟨b,0,none⟩) p h Q ?_
 delta B08 ad az bn cc cx g5 ie ix jb ji kb kc ki nn nw pu sn sx ve vi vs vz wi
 refine V4 hs fun cb h1 bx=>?_
 have aa:sat h1 (cells cb (W7 .i64 p).toArray::a8 b o::R):=bx
 clear bx hs
 have k0:∀{h':Heap} {R':List Asn},sat h' (cells cb (W7 .i64 p).toArray::R')→V9 h' ⟨cb,0,none⟩=some (.int .i64 p.1):=fun hs=>hs.cell 0
 have k4:∀{h':Heap} {R':List Asn},sat h' (cells cb (W7 .i64 p).toArray::R')→V9 h' ⟨cb,4,none⟩=some (.int .i64 p.2.2.2.2.1):=fun hs=>hs.cell 4
 have k7:∀{h':Heap} {R':List Asn},sat h' (cells cb (W7 .i64 p).toArray::R')→V9 h' ⟨cb,7,none⟩=some (.int .i64 p.2.2.2.2.2.2.2.1):=fun hs=>hs.cell 7
 generalize hk:p.1=k at*
 generalize hid:p.2.2.2.2.1=id at*
 generalize oO:p.2.2.2.2.2.2.2.1=c at*
 generalize(W7 .i64 p).toArray=cs at*
 have stay:∀{cc:Int} {h':Heap},sat h' (cells cb cs::a8 b o::R)→A0S o k id c=((o,[]),cc)→Q (.tuple #[.slice none 0 0,.int .i64 cc]) h':=fun{cc h'} hs he=>by
  have:=hq ⟨none,0,0⟩ h'
  rw[he] at this
  exact this ((A1M hs.drop).p1)
 refine⟨k,by rw[U2];exact k0 aa,k,by rw[U2];exact k0 aa,k,by rw[U2];exact k0 aa,?_⟩
 refine cut (fun x h'=>h'=h1∧x.1=decide (o.on=false∨(k≠4∧k≠5∧k≠7))) ?_ ?_
 ·intro K hK
  obtain⟨pb,fl,wt,ae⟩:=p6.1 aa.p1
  refine⟨_,rfl,o.on,by rw[U2];exact ae.cell 2,?_⟩
  (try dsimp only);rw[U6]
  cases aP:o.on with
  |false=>rw[if_pos (by rfl)];exact hK _ _ ⟨rfl,by simp[aP]⟩
  |true=>
   rw[if_neg (by simp)]
   (try dsimp only);rw[U6]
   by_cases h4:k=4
   ·rw[if_neg (by simp[h4])];exact hK _ _ ⟨rfl,by simp[h4,aP]⟩
   ·rw[if_pos (by simp[h4])]
    (try dsimp only);rw[U6]
    by_cases h5:k=5
    ·rw[if_neg (by simp[h5])];exact hK _ _ ⟨rfl,by simp[h5,aP]⟩
    ·rw[if_pos (by simp[h5])]
     refine hK _ _ ⟨rfl,?_⟩
     by_cases h7:k=7<;>simp[h4,h5,h7,aP]
 rintro⟨x,⟨⟩⟩ h2 ⟨rfl,hx⟩
 simp only at hx
 subst hx
 (try dsimp only);rw[U6]
 by_cases al:o.on=false∨(k≠4∧k≠5∧k≠7)
 ·rw[if_pos (by simpa using al)]
  exact stay aa (by unfold A0S;rw[if_pos al])
 rw[if_neg (by simpa using al)]
 have ij:=ag.f64
 obtain⟨pb,fl,wt,aY⟩:=p6.1 aa.p1
 have ae:sat h2 (cells b #[at0 pb,.int .i64 o.most,.bool o.on,.slice fl.a fl.len fl.cap,.slice wt.a wt.len wt.cap]::cells cb cs::A0E pb o.aU::U4 A0I 7 fl o.aG::U4 Z4 5 wt o.waiting::R):=aY.re [0,4,1,2,3]
 clear aY
 have cn:fl.len=o.aG.length:=ae.p3.aW
 refine cut (fun z h'=>h'=h2∧((z.1= -1∧∀f∈o.aG,f.1≠id)∨∃(i:Nat) (f:FlT),z.1=(i:Int)∧o.aG[i]? =some f∧f.1=id)) ?_ ?_
 ·intro K hK
  refine A7i (γ:=Nat) (fun j x h'=>h'=h2∧j≤o.aG.length∧x.2.1=(j:Int)∧((x.1= -1∧∀f∈o.aG.take j,f.1≠id)∨∃(i:Nat) (f:FlT),x.1=(i:Int)∧o.aG[i]? =some f∧f.1=id))
   (fun j=>o.aG.length-j) 0 ⟨rfl,C9 _,rfl,.inl ⟨rfl,by simp⟩⟩ ?_
  rintro j ⟨z,ci,⟨⟩⟩ h ⟨rfl,hi,hx,hz⟩ K1 bp hd
  simp only at hx hz
  subst hx
  refine⟨_,rfl,fl,by rw[U2];exact ae.cell 3,?_⟩
  (try dsimp only);rw[U6]
  by_cases ah:j<o.aG.length
  case neg=>
   rw[if_neg (by rw[cn];simp only[decide_eq_true_eq];omega)]
   rw[D2 (by omega)] at hz
   exact hd _ _ (hK _ _ ⟨rfl,hz⟩)
  rw[if_pos (by rw[cn];simp only[decide_eq_true_eq];omega)]
  refine⟨_,rfl,fl,by rw[U2];exact ae.cell 3,?_⟩
  have hy:=B0 ah
  have aV:o.aG.take (j+1)=o.aG.take j++[o.aG[j]]:=by rw[H7,hy];rfl
  generalize o.aG[j]=g at hy aV
  (try dsimp only);rw[U0]
  refine X6 (ae.p3.aO A2C) hy fun a ha=>?_
  refine⟨g.1,ha 0 _ rfl,id,by rw[U2];exact k4 ae.p1,?_⟩
  have nx:∀z':Int,((z'= -1∧∀f∈o.aG.take (j+1),f.1≠id)∨∃(i:Nat) (f:FlT),z'=(i:Int)∧o.aG[i]? =some f∧f.1=id)→K1 (.inl (z',IntKind.wrap .i64 ((j:Int)+1),())) h:=fun z' ow=>
   bp (j+1) _ _ (by omega) ⟨rfl,by omega,by rw[V5 (by omega) (by omega)];rfl,ow⟩
  (try dsimp only);rw[U0,U6]
  by_cases e:g.1=id
  ·rw[if_pos (by simpa using e)]
   exact nx _ (.inr ⟨j,g,rfl,hy,e⟩)
  ·rw[if_neg (by simpa using e)]
   refine nx _ ?_
   rcases hz with⟨hz,hn⟩|hz
   ·refine .inl ⟨hz,fun f hf=>?_⟩
    rw[aV] at hf
    rcases C7.1 hf with hf|hf
    ·exact hn f hf
    ·rw[C0.1 hf];exact e
   ·exact .inr hz
 rintro⟨z,cj,⟨⟩⟩ h3 ⟨rfl,hz⟩
 simp only at hz
 (try dsimp only);rw[U6]
 rcases hz with⟨rfl,ax⟩|⟨i,f,rfl,hf,he⟩
 ·rw[if_pos (by rfl)]
  refine stay aa ?_
  unfold A0S
  rw[if_neg al,B7V ax]
 rw[if_neg (by simp)]
 have gK:=C0s ag.nd hf he
 have oK:=F1 hf
 have aJ:A0S o k id c=(if k=4 then(if f.2.1.2.2.1≠1 then((o,[]),130) else(Y7 (A3a o id),0))
   else if k=5 then
    (if f.2.1.2.2.1≠2∨(128≤c∧f.2.2=true) then((o,[]),130)
    else if 128≤c then(Y7 (A3a o id),0)
    else(((Y7 (B2o o id)).1,Z7 6 id 0::(Y7 (B2o o id)).2),0))
   else(if f.2.2=false then((o,[]),130) else(Y7 (A3a o id),0))):=by
  unfold A0S
  rw[if_neg al,gK]
 have xl:=ag.fq f oK
 refine⟨_,rfl,fl,by rw[U2];exact ae.cell 3,?_⟩
 (try dsimp only);rw[U0]
 refine X6 (ae.p3.aO A2C) hf fun a ha=>?_
 refine A0j (ts:=[.int .i64,.str,.str,.int .i64,.bool,.str,.bool]) (C3j f) ha ?_
 refine V4 ae fun mf h4 ak=>?_
 (try dsimp only);rw[U0]
 refine l0 ak rfl rfl fun h5 fo=>?_
 have ai:sat h5 (cells mf (A0I f).toArray::cells b #[at0 pb,.int .i64 o.most,.bool o.on,.slice fl.a fl.len fl.cap,.slice wt.a wt.len wt.cap]::cells cb cs::A0E pb o.aU::U4 A0I 7 fl o.aG::U4 Z4 5 wt o.waiting::R):=fo
 clear fo ak
 have bS:sat h5 (cells cb cs::a8 b o::R):=sat.p1 (p6.2 ⟨pb,fl,wt,(ai.drop.re [0,2,3,4,1])⟩)
 have aq:V9 h5 ((Addr.add ⟨mf,0,none⟩ 1).add 2)=some (.int .i64 f.2.1.2.2.1):=by rw[B19,U2];exact ai.cell 3
 have ar:V9 h5 (Addr.add ⟨mf,0,none⟩ 6)=some (.bool f.2.2):=by rw[U2];exact ai.cell 6
 refine cut (fun z h'=>h'=h5∧z.1=decide (k=4∧f.2.1.2.2.1≠1)) ?_ ?_
 ·intro K hK
  (try dsimp only);rw[U6]
  by_cases e:k=4
  ·rw[if_pos (by simpa using e)]
   exact⟨_,aq,hK _ _ ⟨rfl,by simp[e];rfl⟩⟩
  ·rw[if_neg (by simpa using e)]
   exact hK _ _ ⟨rfl,by simp[e]⟩
 rintro⟨z,⟨⟩⟩ h6 ⟨rfl,hz⟩
 simp only at hz
 subst hz
 (try dsimp only);rw[U6]
 by_cases t1:k=4∧f.2.1.2.2.1≠1
 ·rw[if_pos (by simpa using t1)]
  rw[if_pos t1.1,if_pos t1.2] at aJ
  exact stay bS aJ
 rw[if_neg (by simpa using t1)]
 refine cut (fun z h'=>h'=h6∧z.1=decide ((k=5∨k=7)∧f.2.1.2.2.1≠2)) ?_ ?_
 ·intro K hK
  (try dsimp only);rw[U6]
  by_cases e:k=5
  ·rw[if_pos (by simpa using e)]
   exact⟨_,aq,hK _ _ ⟨rfl,by simp[e];rfl⟩⟩
  ·rw[if_neg (by simpa using e)]
   (try dsimp only);rw[U6]
   by_cases e7:k=7
   ·rw[if_pos (by simpa using e7)]
    exact⟨_,aq,hK _ _ ⟨rfl,by simp[e7];rfl⟩⟩
   ·rw[if_neg (by simpa using e7)]
    exact hK _ _ ⟨rfl,by simp[e,e7]⟩
 rintro⟨z,⟨⟩⟩ h7 ⟨rfl,hz⟩
 simp only at hz
 subst hz
 (try dsimp only);rw[U6]
 have hk:k=4∨k=5∨k=7:=by
  refine O2 fun e=>al (.inr ⟨fun x=>e (.inl x),fun x=>e (.inr (.inl x)),fun x=>e (.inr (.inr x))⟩)
 by_cases t2:(k=5∨k=7)∧f.2.1.2.2.1≠2
 ·rw[if_pos (by simpa using t2)]
  refine stay bS ?_
  rcases t2 with⟨rfl|rfl,t2⟩
  ·rw[if_neg (by decide),if_pos rfl,if_pos (.inl t2)] at aJ
   exact aJ
  ·have hr:f.2.2=false:=by
    cases hr:f.2.2 with
    |false=>rfl
    |true=>exact absurd (xl.2.2 hr) t2
   rw[if_neg (by decide),if_neg (by decide),if_pos hr] at aJ
   exact aJ
 rw[if_neg (by simpa using t2)]
 refine cut (fun z h'=>h'=h7∧z.1=decide (k=5∧128≤c∧f.2.2=true)) ?_ ?_
 ·intro K hK
  (try dsimp only);rw[U6]
  by_cases e:k=5
  ·rw[if_pos (by simpa using e)]
   refine⟨c,by rw[U2];exact k7 ai.p2,?_⟩
   (try dsimp only);rw[U6]
   by_cases hc:128≤c
   ·rw[if_pos (by simpa using hc)]
    refine⟨_,ar,hK _ _ ⟨rfl,?_⟩⟩
    simp[e,hc]
   ·rw[if_neg (by simpa using hc)]
    exact hK _ _ ⟨rfl,by simp[hc]⟩
  ·rw[if_neg (by simpa using e)]
   exact hK _ _ ⟨rfl,by simp[e]⟩
 rintro⟨z,⟨⟩⟩ h8 ⟨rfl,hz⟩
 simp only at hz
 subst hz
 (try dsimp only);rw[U6]
 by_cases t3:k=5∧128≤c∧f.2.2=true
 ·rw[if_pos (decide_eq_true t3)]
  rw[if_neg (by rw[t3.1];decide),if_pos t3.1,if_pos (.inr t3.2)] at aJ
  exact stay bS aJ
 rw[if_neg (by rw[decide_eq_true_eq];exact t3)]
 refine cut (fun z h'=>h'=h8∧z.1=decide (k=7∧f.2.2=false)) ?_ ?_
 ·intro K hK
  (try dsimp only);rw[U6]
  by_cases e:k=7
  ·rw[if_pos (by simpa using e)]
   refine⟨_,ar,hK _ _ ⟨rfl,?_⟩⟩
   cases f.2.2<;>simp[e]
  ·rw[if_neg (by simpa using e)]
   exact hK _ _ ⟨rfl,by simp[e]⟩
 rintro⟨z,⟨⟩⟩ h9 ⟨rfl,hz⟩
 simp only at hz
 subst hz
 (try dsimp only);rw[U6]
 by_cases t4:k=7∧f.2.2=false
 ·rw[if_pos (decide_eq_true t4)]
  rw[if_neg (by rw[t4.1];decide),if_neg (by rw[t4.1];decide),if_pos t4.2] at aJ
  exact stay bS aJ
 rw[if_neg (by rw[decide_eq_true_eq];exact t4)]
 refine cut (fun z h'=>h'=h9∧z.1=decide (k=5∧c<128)) ?_ ?_
 ·intro K hK
  (try dsimp only);rw[U6]
  by_cases e:k=5
  ·rw[if_pos (by simpa using e)]
   refine⟨c,by rw[U2];exact k7 ai.p2,hK _ _ ⟨rfl,?_⟩⟩
   simp[e]
  ·rw[if_neg (by simpa using e)]
   exact hK _ _ ⟨rfl,by simp[e]⟩
 rintro⟨z,⟨⟩⟩ fX ⟨rfl,hz⟩
 simp only at hz
 subst hz
 refine cut (fun z h'=>∃(o':Z8) (os:List PkO),W9 o'∧os.length≤10∧A0S o k id c=(((Y7 o').1,os++(Y7 o').2),0)∧sat h' (a8 b o'::o6 .i64 z.1 os::R)) ?_ ?_
 rotate_left
 ·rintro⟨z,⟨⟩⟩ h4 ⟨o',os,g1,g2,g3,g4⟩
  refine U5 (B0e g4 g1 (by omega) fun h7 S ay=>⟨S,rfl,?_⟩)
  have:=hq S h7
  rw[g3] at this
  exact this ay
 intro K hK
 (try dsimp only);rw[U6]
 by_cases t5:k=5∧c<128
 ·rw[if_pos (decide_eq_true t5)]
  have fa:f.2.1.2.2.1=2:=Classical.not_not.1 fun e=>t2 ⟨.inl t5.1,e⟩
  rw[if_neg (by rw[t5.1];decide),if_pos t5.1,if_neg (by rintro(e|⟨e,-⟩);exact e fa;omega),if_neg (by omega)] at aJ
  refine⟨_,rfl,fl,by rw[U2];exact ai.p1.cell 3,?_⟩
  (try dsimp only);rw[U0]
  refine B8T A2C ai.p4 hf fun a ha bH=>?_
  refine bH 6 (.bool true) (f.1,f.2.1,true) _ (by decide) rfl rfl fun qQ eY=>?_
  rw[C2x ag.nd hf,he] at eY
  have ay:sat qQ (cells cb cs::a8 b (B2o o id)::R):=sat.p1 (p6.2 ⟨pb,fl,wt,(eY.re [2,4,0,5,3,1])|>fun hh=>(hh.re [5,0,1,2,3,4]).drop⟩)
  refine⟨id,by rw[U2];exact k4 ay,?_⟩
  have aL:=A1M (k:=.i64) (A28 (k:=.i64) (o:=Z7 6 id 0) rfl rfl ay)
  refine A40 (t:=(⟨none,0,0⟩,⟨none,0,0⟩,Z7 6 id 0)) aL rfl (by decide) (by decide) fun s' h6 bu=>?_
  have hrel:W9 (B2o o id):=ag.rel fun g hg e=>by rw[ag.one hg oK (e.trans he.symm)];exact fa
  exact hK _ _ ⟨B2o o id,[Z7 6 id 0],hrel,by simp,aJ,bu.p1.drop.re [1,0]⟩
 ·rw[if_neg (by rw[decide_eq_true_eq];exact t5)]
  refine u6 (B9G bS.p1 ag hf fun h' af=>⟨(),rfl,?_⟩)
  rw[he] at af
  refine hK _ _ ⟨A3a o id,[],ag.over id,by simp,?_,(A1M af.p1.drop).p1⟩
  rcases hk with e|e|e
  ·rw[if_pos e,if_neg (by rintro e1;exact t1 ⟨e,e1⟩)] at aJ
   exact aJ
  ·rw[if_neg (by rw[e];decide),if_pos e,if_neg (by rintro(e1|e1);exact t2 ⟨.inl e,e1⟩;exact t3 ⟨e,e1⟩),if_pos (by omega)] at aJ
   exact aJ
  ·rw[if_neg (by rw[e];decide),if_neg (by rw[e];decide),if_neg (fun e1=>t4 ⟨e,e1⟩)] at aJ
   exact aJ
end
end Go.Proofs.YtidlldnlphdhcaaGreatDoor