/-
  Our texts, packed by program.
-/
import Derived.Test.YtidlldnlphdhcaaGreatDoorQBrokerOnce4
import Derived.Laws.RangeString
set_option linter.unusedSimpArgs false
set_option linter.unusedVariables false
set_option maxHeartbeats 16000000
set_option maxRecDepth 100000
set_option synthInstance.maxSize 100000
set_option synthInstance.maxHeartbeats 400000
namespace Go.Proofs.YtidlldnlphdhcaaGreatDoor
open Go.H
open Go.Proofs.Tryz
section
open Go.H Go.Proofs
variable {h h0:Heap} {L L' L1 L2 L3 R:List Asn} {Q:Value→Heap→Prop}
theorem B74{t b:Nat}{full:Bool}{T:V0}{m:MsT}(ht:TP h0)(ag:j7 T.b)(hb:T.outs.length≤50000000)(hp:T.aT.length≤1000000000)(hm:m.1.size≤9223372036854775807)
  (hq:At (X8 t b full (A3n m T)::old h0::L2) (Q (.tuple #[])))(hx:Has L (X8 t b full T) L1:=by repeat first|with_reducible exact V1|apply V3)(hy:Has L1 (old h0) L2:=by repeat first|with_reducible exact V1|apply V3):
  FW prog 96 #[at0 t,vMs m] L Q:=by
 refine fun h hs=>A5z (some ⟨t,0,none⟩) (toU m) h Q ((?_:W (X8 t b full T::old h0::L2) _ _) h ((hx.then hy).s hs))
 clear hs h hx hy
 have fu:((A0p m T).aT.length+1)*64≤140737488355328:=by rw[A7N];omega
 have hq:At (X8 t b full (⟨(A0p m T).b,(A0p m T).outs,(A0p m T).aT++[m]⟩:V0)::old h0::L2) (Q (.tuple #[])):=hq
 delta A4F az bn cx g7 kc nn nw pu rq sx vs
 refine Y2 fun x1=>?_
 refine s7 (v:=toU m) ?_
 refine Z3 (C6h (m:=m) ht ag hb hm (At.bD ?_))
 generalize A0p m T=T1 at*
 refine W5 ?_
 refine A6u (fun h R=>p6) fun so sp p=>?_
 refine j4 (b:=t) (i:=3) (v:=sp) ?_
 refine s7 (v:=toU m) ?_
 refine Y2 fun x7=>?_
 refine j4 (b:=t) (i:=3) (v:=sp) ?_
 refine A1p ?_ rfl
 refine A9Z (xs:=T1.aT) (enc:=Z7) (s:=sp) m (fun s'=>?_) fu
 refine W5 ?_
 refine A4r (b:=t) (i:=3) (cs':=#[at0 b,.bool full,.slice so.a so.len so.cap,.slice s'.a s'.len s'.cap]) ?_
 refine W.bI (⟨T1.b,T1.outs,T1.aT++[m]⟩:V0) so s' p ?_
 exact U3 hq.sub
theorem A3T(l:List Y6)(c:Int):W4 (l.map A0j) c=(A1E c l).map B8A:=by
 unfold W4 A1E
 induction l with
 |nil=>rfl
 |cons x l ih=>
  rw[B6,List.find?_cons,List.find?_cons]
  by_cases hx:x.c=c
  ·simp[hx]
  ·simp only[A0j,hx,decide_false]
   exact ih
theorem C4y{l:List Y6}{c:Int}(hn:(l.map (·.c)).Nodup):mdel (l.map A0j) c=(l.filter fun y=>decide (y.c≠c)).map A0j:=by
 have jM:((l.map A0j).map (·.1)).Nodup:=by rw[F1];exact hn
 rw[A1G jM,R9]
 rfl
theorem B42{m:Nat}{l:List Y6}(hs:sat h (mapA eKI eVC m (l.map A0j)::R)):(l.map (·.c)).Nodup:=by
 have:=hs.bJ
 rw[F1] at this
 exact this
theorem kKI:KeyLaw (Instr.sameNow (.int .i64)) eKI:=B9n .i64
theorem C3G{t b:Nat}{full:Bool}{T:V0}{c:Int}{aX:Bool}(ht:TP h0)(ag:j7 T.b)(hb:T.outs.length≤50000000)(hp:T.aT.length≤1000000000)
  (hq:At (X8 t b full (A4n full c aX T)::old h0::L2) (Q (.tuple #[])))(hx:Has L (X8 t b full T) L1:=by repeat first|with_reducible exact V1|apply V3)(hy:Has L1 (old h0) L2:=by repeat first|with_reducible exact V1|apply V3):
  FW prog 54 #[at0 t,.int .i64 c,.bool aX] L Q:=by
 refine fun h hs=>A8B (some ⟨t,0,none⟩) c aX h Q ((?_:W (X8 t b full T::old h0::L2) _ _) h ((hx.then hy).s hs))
 clear hs h hx hy
 unfold A4n at hq
 delta A8p ad bn cb ci cx g7 ie jb ji kb km kp nn nw pu sn vi
 refine W5 ?_
 refine A6u (fun h R=>p6) fun so sp p=>?_
 refine W.load (v:=some ⟨b,0,none⟩) ?_
 refine W5 ?_
 refine W.load (v:=some p.cm) ?_
 refine Z1 (fun h R hs=>B42 (m:=p.cm) (l:=T.b.aB) hs) fun au=>?_
 refine W.lookup (kind:=.agg tC) kKI c ?_
 rw[A3T]
 cases hg:A1E c T.b.aB with
 |none=>
  rw[hg] at hq
  refine Y2 fun x6=>?_
  refine A0n ?_
  refine Y4 rfl ?_
  refine W.bI T so sp p ?_
  exact U3 hq.sub
 |some x=>
  rw[hg] at hq
  simp only at hq
  refine Y2 fun x6=>?_
  refine A0n ?_
  refine W.cells (b:=x6) (lS4 (B8A x)).toArray ?_
  refine W8 rfl ?_
  refine W5 ?_
  refine W.load (v:=some ⟨b,0,none⟩) ?_
  refine W5 ?_
  refine W.load (v:=some p.cm) ?_
  refine W.mdel kKI c ?_
  rw[C4y au]
  refine W5 ?_
  refine W.load (v:=some ⟨b,0,none⟩) ?_
  refine W5 ?_
  refine W.load (v:=some ⟨p.tb,0,none⟩) ?_
  refine W.load (v:=x.aD) ?_
  refine j2 (C8o (b:=p.tb) (A:=T.b.aD) (k:=x.aD) (At.un ?_))
  have h1:=B9z (k:=x.aD) (ag.conn fun y=>decide (y.c≠c)) (ag.gone hg)
  rw[B4Y] at hq h1
  simp only at hq h1
  refine W.cut (fun _=>X8 t b full (tB ⟨T.b.last,(A4O x.aD T.b.aD).2,if(A4O x.aD T.b.aD).1=true then A1l x.aD T.b.aH else T.b.aH,T.b.kept,T.b.aB.filter fun y=>decide (y.c≠c)⟩ T)::cells x6 (lS4 (B8A x)).toArray::old h0::L2) (fun K hK=>?_) (fun _=>?_)
  ·refine A0l (fun hd=>?_) (fun hd=>?_)
   ·rw[if_pos hd] at hK
    refine W5 ?_
    refine W.load (v:=some ⟨b,0,none⟩) ?_
    refine W5 ?_
    refine W.load ?_
    refine W.load (v:=x.aD) ?_
    refine j2 (B9Z (t:=p.sb) (E:=T.b.aH) (id:=x.aD) ht ag.aH (At.un (U3 ?_)))
    refine At.bI (tB ⟨T.b.last,(A4O x.aD T.b.aD).2,A1l x.aD T.b.aH,T.b.kept,T.b.aB.filter fun y=>decide (y.c≠c)⟩ T) so sp p ?_
    exact(hK ()).sub
   ·rw[if_neg (by rw[hd];decide)] at hK
    refine U3 ?_
    refine At.bI (tB ⟨T.b.last,(A4O x.aD T.b.aD).2,T.b.aH,T.b.kept,T.b.aB.filter fun y=>decide (y.c≠c)⟩ T) so sp p ?_
    exact(hK ()).sub
  have sZ:=(ag.wl x (A1T hg).1).1
  clear au hg
  generalize(if(A4O x.aD T.b.aD).1=true then A1l x.aD T.b.aH else T.b.aH)=subs' at*
  generalize(A4O x.aD T.b.aD).2=ses' at*
  generalize T.b.aB.filter (fun y=>decide (y.c≠c))=conns' at*
  cases aX with
  |false=>
   rw[if_neg (by simp)] at hq
   exact o5 rfl (b7 (o5 rfl (b7 (U3 hq.sub))))
  |true=>
   refine A1o rfl ?_
   refine X3 (W.load (v:=x.bE) ?_)
   cases eX:x.bE with
   |false=>
    rw[if_neg (by simp[eX])] at hq
    exact o5 rfl (b7 (o5 rfl (b7 (U3 hq.sub))))
   |true=>
    refine A1o rfl ?_
    refine X3 (W5 ?_)
    refine A6u (fun h R=>p6) fun gg iC p2=>?_
    refine X3 (W.load (v:=full) ?_)
    refine b7 ?_
    refine W.bI (tB ⟨T.b.last,ses',subs',T.b.kept,conns'⟩ T) gg iC p2 ?_
    cases full with
    |true=>
     rw[if_neg (by simp)] at hq
     exact o5 rfl (b7 (U3 hq.sub))
    |false=>
     rw[if_pos ⟨rfl,eX,rfl⟩] at hq
     refine A1o rfl ?_
     refine X3 (A8a (v:=toU x.aX) ?_)
     refine X3 (Z3 (B74 (T:=tB ⟨T.b.last,ses',subs',T.b.kept,conns'⟩ T) (m:=x.aX) ht h1.1 hb hp sZ (At.bD ?_)))
     exact b7 (U3 hq.sub)
theorem B7C{α:Type}{m:HM α}{Q':α→Heap→Prop}{k:IntKind}(o:PkO)(hc:o.cB=[])(hp:o.props=[])(hw:W (pkB k (⟨none,0,0⟩,⟨none,0,0⟩,o)::L) m Q'):W L m Q':=fun h hs=>hw h (A3o hc hp hs)
theorem A8O{t b:Nat}{full:Bool}{T:V0}{c code:Int}(ht:TP h0)(ag:j7 T.b)(hb:T.outs.length<50000000)(hp:T.aT.length≤1000000000)
  (hq:At (X8 t b full (A0C full c code T)::old h0::L2) (Q (.tuple #[])))(hx:Has L (X8 t b full T) L1:=by repeat first|with_reducible exact V1|apply V3)(hy:Has L1 (old h0) L2:=by repeat first|with_reducible exact V1|apply V3):
  FW prog 68 #[at0 t,.int .i64 c,.int .u8 code] L Q:=by
 refine fun h hs=>A6p (some ⟨t,0,none⟩) c code h Q ((?_:W (X8 t b full T::old h0::L2) _ _) h ((hx.then hy).s hs))
 clear hs h hx hy
 unfold A0C at hq
 delta A5m cx pu ve vi vz
 refine B7C (k:=.u8) (j9 14 0 code) rfl rfl ?_
 refine Z3 (B9O (T:=T) (c:=c) (o:=j9 14 0 code) (ci:=⟨none,0,0⟩) (pi:=⟨none,0,0⟩) (by omega) (At.bD ?_))
 refine Z3 (C3G (T:=A0A ⟨c,j9 14 0 code,true⟩ T) (c:=c) (aX:=true) ht ag (by show(T.outs++[_]).length≤_;rw[B5];simp only[B7,G7];omega) hp (At.bD ?_))
 exact U3 hq.sub
end
section
open Go.H Go.Proofs
variable {h h0:Heap} {L L' L1 L2 L3 R:List Asn} {Q:Value→Heap→Prop}
abbrev pkI(p:Pk)(pl:List q9)(sl:List A0G)(fl:List B38):PkI:=
 {kind:=p.1,cZ:=p.2.2.1,dY:=p.2.2.2.1,id:=p.2.2.2.2.1,bX:=p.2.2.2.2.2.1,cK:=p.2.2.2.2.2.2.1,code:=p.2.2.2.2.2.2.2.1,props:=pl,
  aC:=p.2.2.2.2.2.2.2.2.2.2.1,clean:=p.2.2.2.2.2.2.2.2.2.2.2.1,bE:=p.2.2.2.2.2.2.2.2.2.2.2.2.2.1,
  aX:=(p.2.2.2.2.2.2.2.2.2.2.2.2.2.2.1,p.2.2.2.2.2.2.2.2.2.2.2.2.2.2.2.1,p.2.2.2.2.2.2.2.2.2.2.2.2.2.2.2.2.1,p.2.2.2.2.2.2.2.2.2.2.2.2.2.2.2.2.2.1,e0S),aH:=sl,bM:=fl}
theorem B4h{s:B38}(ht:TP h0)(hsz:s.size≤9223372036854775807)(hq:At (old h0::L1) (Q (.int .u8 (A2X s))))(hx:Has L (old h0) L1:=by repeat first|with_reducible exact V1|apply V3):FW prog 12 #[.string s] L Q:=fun h hs=>
 A3C (hx.s hs) ht hsz fun h' af=>hq h' af
theorem C7j{k:Int}{A:List V7}:X7 k (fun s=>s) A=A:=by
 unfold X7
 simp
theorem C1s{o:Z2}{k id c:Int}(h:(A0R o k id c).2≠0):(A0R o k id c).1.1=o:=by
 unfold A0R at h⊢
 split at h
 ·rw[if_pos (by assumption)]
 ·rw[if_neg (by assumption)]
  split at h
  ·rfl
  ·split at h
   ·rw[if_pos (by assumption)];split at h
    ·rw[if_pos (by assumption)]
    ·exact absurd rfl h
   ·rw[if_neg (by assumption)];split at h
    ·rw[if_pos (by assumption)];split at h
     ·rw[if_pos (by assumption)]
     ·split at h<;>exact absurd rfl h
    ·rw[if_neg (by assumption)];split at h
     ·rw[if_pos (by assumption)]
     ·exact absurd rfl h
theorem C8g{t b:Nat}{full:Bool}{T:V0}{x:Y6}{p:Pk}{pl:List q9}{sl:List A0G}{fl:List B38}(ht:TP h0)(ag:j7 T.b)(hc:A1E x.c T.b.aB=some x)(hb:T.outs.length<40000000)(hp:T.aT.length≤1000000000)(hsz:p.2.2.2.2.2.1.size≤9223372036854775807)
  (hq:At (X8 t b full (A5F full x (pkI p pl sl fl) T)::old h0::L2) (Q (.tuple #[])))(hx:Has L (X8 t b full T) L1:=by repeat first|with_reducible exact V1|apply V3)(hy:Has L1 (old h0) L2:=by repeat first|with_reducible exact V1|apply V3):
  FW prog 63 #[at0 t,.int .i64 x.c,A2z .u8 p] L Q:=by
 refine fun h hs=>A72 (some ⟨t,0,none⟩) x.c p h Q ((?_:W (X8 t b full T::old h0::L2) _ _) h ((hx.then hy).s hs))
 clear hs h hx hy
 obtain⟨s,hs,hid⟩:=ag.cl x (A1T hc).1
 unfold A5F at hq
 simp only[A3y ag.nd hs hid] at hq
 delta A7a az bn cp cu cx A02 ie jb ji jt kb km kp nn nw pu rq ve vi vs
 refine Y2 fun x1=>?_
 refine A1g (fun r=>r.1=(decide (p.1=3)&& !Z6 p.2.2.2.2.2.1)) (fun K hK=>?_) (fun r hr=>?_)
 ·refine W.load (v:=p.1) ?_
  refine A0l (fun h3=>?_) (fun h3=>?_)
  ·refine W.load (v:=p.2.2.2.2.2.1) ?_
   refine j2 (B4h ht hsz (At.un ?_))
   refine U3 (At.sub (hK _ ?_))
   simp only[P9] at h3
   simp only[h3,decide_true,G4]
   unfold A2X
   cases Z6 p.2.2.2.2.2.1<;>rfl
  ·refine U3 (hK _ ?_)
   simp only[H7,ne_eq] at h3
   simp[h3]
 obtain⟨r,_⟩:=r
 simp only at hr
 subst hr
 by_cases an:p.1=3∧Z6 p.2.2.2.2.2.1=false
 ·rw[if_pos an] at hq
  refine Y4 (by simp[an.1,an.2]) ?_
  refine Z3 (A8O (T:=T) (c:=x.c) (code:=144) ht ag (by omega) hp (At.bD ?_))
  exact U3 hq.sub
 rw[if_neg an] at hq
 refine W8 (by
  by_cases e:p.1=3
  ·have:Z6 p.2.2.2.2.2.1=true:=by
    cases hn:Z6 p.2.2.2.2.2.1
    ·exact absurd ⟨e,hn⟩ an
    ·rfl
   simp[this]
  ·simp[e]) ?_
 refine W5 ?_
 refine A6u (fun h R=>p6) fun so sp q=>?_
 refine W.load (v:=full) ?_
 refine A1g (fun r=>r.1=if full=true then 151 else 0) (fun K hK=>A0l (fun e=>U3 (hK _ (if_pos e).symm)) (fun e=>U3 (hK _ (if_neg (by simp[e])).symm))) (fun r hr=>?_)
 obtain⟨why,_⟩:=r
 simp only at hr
 rw[←hr] at hq
 clear hr an
 refine W5 ?_
 refine W.load (v:=some ⟨b,0,none⟩) ?_
 refine W5 ?_
 refine W.load (v:=some q.cm) ?_
 refine W.lookup (kind:=.agg tC) kKI x.c ?_
 rw[A3T,hc]
 refine W5 ?_
 refine W.load (v:=some ⟨b,0,none⟩) ?_
 refine W5 ?_
 refine W.load (v:=some ⟨q.tb,0,none⟩) ?_
 refine s7 (v:=p) ?_
 refine A9f (fun h R=>A6D hs h R) fun ob ib=>?_
 refine j2 (C9Z (k:=x.aD) hid (At.un ?_))
 refine s7 (v:=p) ?_
 refine A1p ?_ rfl
 refine Z3 (C6e (f:=ib) (s:=s.aZ) (p:=p) (why:=why) (fun S=>At.bD (x:=((l9 s.aZ p.1 p.2.2.2.1 p.2.2.2.2.1 why).1,S,(l9 s.aZ p.1 p.2.2.2.1 p.2.2.2.2.1 why).2.2.1,())) ?_))
 generalize hR:l9 s.aZ p.1 p.2.2.2.1 p.2.2.2.2.1 why=r at hq⊢
 refine B2x (A:=A1q q.tb T.b.last (X7 x.aD (j1 ⟨s.aZ.most,s.aZ.taken,r.2.2.2⟩) T.b.aD)) (fun h af=>C5n ag.nd hs hid h af) ?_
 refine W.bI (A0E (X7 x.aD (j1 ⟨s.aZ.most,s.aZ.taken,r.2.2.2⟩) T.b.aD) T) so sp q ?_
 have aL:j7 (A0E (X7 x.aD (j1 ⟨s.aZ.most,s.aZ.taken,r.2.2.2⟩) T.b.aD) T).b:=ag.fF
 by_cases av:r.2.2.1=0
 ·rw[if_neg (by simpa using av)] at hq
  refine W8 (by simp[av]) ?_
  have jn:(A3E r.2.1 p.2.2.2.2.1).length≤1:=by unfold A3E;split<;>simp
  refine Z3 (A3O (T:=(A0E (X7 x.aD (j1 ⟨s.aZ.most,s.aZ.taken,r.2.2.2⟩) T.b.aD) T)) (id:=x.aD) (ps:=A3E r.2.1 p.2.2.2.2.1) (ag.one x.aD) (by simp only;omega) (At.bD ?_))
  have te:(T.outs++A1U T.b.aB x.aD (A3E r.2.1 p.2.2.2.2.1)).length≤50000000:=by
   rw[B5];have:=A9h (A3E r.2.1 p.2.2.2.2.1) (ag.one x.aD);omega
  cases hf:r.1 with
  |false=>
   rw[if_neg (by simp[hf])] at hq
   exact o5 rfl (b7 (o5 rfl (b7 (U3 hq.sub))))
  |true=>
   refine A1o rfl ?_
   refine X3 (W5 ?_)
   refine A6u (fun h R=>p6) fun gg iC p2=>?_
   refine X3 (W.load (v:=full) ?_)
   refine b7 ?_
   refine W.bI (q7 x.aD (A3E r.2.1 p.2.2.2.2.1) (A0E (X7 x.aD (j1 ⟨s.aZ.most,s.aZ.taken,r.2.2.2⟩) T.b.aD) T)) gg iC p2 ?_
   cases full with
   |true=>
    rw[if_neg (by simp)] at hq
    exact o5 rfl (b7 (U3 hq.sub))
   |false=>
    rw[if_pos ⟨hf,rfl⟩] at hq
    refine A1o rfl ?_
    refine X3 (W.load (v:=p.2.2.2.2.2.1) ?_)
    refine X3 (W.load (v:=p.2.2.2.2.2.2.1) ?_)
    refine X3 (W.load (v:=p.2.2.2.1) ?_)
    refine X3 (W.load (v:=p.2.2.1) ?_)
    refine X3 (Z3 (B74 (m:=(p.2.2.2.2.2.1,p.2.2.2.2.2.2.1,p.2.2.2.1,p.2.2.1,e0S)) (T:=q7 x.aD (A3E r.2.1 p.2.2.2.2.1) (A0E (X7 x.aD (j1 ⟨s.aZ.most,s.aZ.taken,r.2.2.2⟩) T.b.aD) T)) ht aL te hp hsz (At.bD ?_)))
    exact b7 (U3 hq.sub)
 ·rw[if_pos (by simpa using av)] at hq
  refine Y4 (by simp[av]) ?_
  refine Z3 (A8O (T:=(A0E (X7 x.aD (j1 ⟨s.aZ.most,s.aZ.taken,r.2.2.2⟩) T.b.aD) T)) (c:=x.c) (code:=r.2.2.1) ht aL (by simp only;omega) hp (At.bD ?_))
  exact U3 hq.sub
theorem C6K{t b:Nat}{full:Bool}{T:V0}{x:Y6}{p:Pk}{pl:List q9}{sl:List A0G}{fl:List B38}(ht:TP h0)(ag:j7 T.b)(hc:A1E x.c T.b.aB=some x)(hb:T.outs.length<40000000)(hp:T.aT.length≤1000000000)
  (hq:At (X8 t b full (A2I full x (pkI p pl sl fl) T)::old h0::L2) (Q (.tuple #[])))(hx:Has L (X8 t b full T) L1:=by repeat first|with_reducible exact V1|apply V3)(hy:Has L1 (old h0) L2:=by repeat first|with_reducible exact V1|apply V3):
  FW prog 64 #[at0 t,.int .i64 x.c,A2z .u8 p] L Q:=by
 refine fun h hs=>A6r (some ⟨t,0,none⟩) x.c p h Q ((?_:W (X8 t b full T::old h0::L2) _ _) h ((hx.then hy).s hs))
 clear hs h hx hy
 obtain⟨s,hs,hid⟩:=ag.cl x (A1T hc).1
 unfold A2I A0F at hq
 simp only[A3y ag.nd hs hid] at hq
 have dc:=B43 (ag.bP s hs) p.1 p.2.2.2.2.1 p.2.2.2.2.2.2.2.1
 have qP:=C1s (o:=s.out) (k:=p.1) (id:=p.2.2.2.2.1) (c:=p.2.2.2.2.2.2.2.1)
 delta A5o az bn cp cx A02 ie km kp nn nw pu rq vi vs
 refine Y2 fun x1=>?_
 refine W5 ?_
 refine A6u (fun h R=>p6) fun so sp q=>?_
 refine W.load (v:=some ⟨b,0,none⟩) ?_
 refine W5 ?_
 refine W.load (v:=some q.cm) ?_
 refine W.lookup (kind:=.agg tC) kKI x.c ?_
 rw[A3T,hc]
 refine W5 ?_
 refine W.load (v:=some ⟨b,0,none⟩) ?_
 refine W5 ?_
 refine W.load (v:=some ⟨q.tb,0,none⟩) ?_
 refine s7 (v:=p) ?_
 refine A9f (fun h R=>A6D hs h R) fun ob ib=>?_
 refine j2 (B3A (k:=x.aD) hid (At.un ?_))
 refine s7 (v:=p) ?_
 refine A1p ?_ rfl
 refine Z3 (C8y (b:=ob) (o:=s.out) (p:=p) (ag.bP s hs) (fun S=>At.bD (x:=(S,(A0R s.out p.1 p.2.2.2.2.1 p.2.2.2.2.2.2.2.1).2,())) ?_))
 generalize A0R s.out p.1 p.2.2.2.2.1 p.2.2.2.2.2.2.2.1=r at hq dc qP⊢
 refine B2x (A:=A1q q.tb T.b.last (X7 x.aD (Y9 r.1.1) T.b.aD)) (fun h af=>A6C ag.nd hs hid h af) ?_
 by_cases av:r.2=0
 ·rw[if_neg (by simpa using av)] at hq
  refine W.bI (A0E (X7 x.aD (Y9 r.1.1) T.b.aD) T) so sp q ?_
  refine W8 (by simp[av]) ?_
  refine Z3 (A3O (T:=(A0E (X7 x.aD (Y9 r.1.1) T.b.aD) T)) (id:=x.aD) (ps:=r.1.2) (ag.one x.aD) (by have:=dc.2;simp only;omega) (At.bD ?_))
  exact U3 hq.sub
 ·rw[if_pos (by simpa using av)] at hq
  have e1:X7 x.aD (Y9 r.1.1) T.b.aD=T.b.aD:=by
   rw[qP av,B0w (f:=Y9 s.out) (g:=fun s=>s) ag.nd hs hid rfl,C7j]
  rw[e1]
  refine W.bI T so sp q ?_
  refine Y4 (by simp[av]) ?_
  refine Z3 (A8O (T:=T) (c:=x.c) (code:=r.2) ht ag (by omega) hp (At.bD ?_))
  exact U3 hq.sub
end
section
open Go.H Go.Proofs
theorem B3y{E:List Ent}{id q:Int}{f:B38}(h:(A2P E id f q).1=0):0≤q∧q≤2:=by
 unfold A2P at h
 split at h
 ·cases h
 ·split at h
  ·cases h
  ·omega
theorem B65{E:List Ent}{id q:Int}{f:B38}:(A2P E id f q).2.length≤E.length+1∧∀e∈(A2P E id f q).2,e∈E∨e.1=id:=by
 unfold A2P
 split
 ·exact⟨S0 _,fun e he=>.inl he⟩
 ·split
  ·exact⟨S0 _,fun e he=>.inl he⟩
  ·split
   ·refine⟨by simp,fun e he=>?_⟩
    rcases List.mem_or_eq_of_mem_set he with he|rfl
    ·exact .inl he
    ·exact .inr rfl
   ·split
    ·exact⟨S0 _,fun e he=>.inl he⟩
    ·have hp:=A1S ltK b8 (id,f,q) E
     refine⟨by rw[hp.length_eq];simp,fun e he=>?_⟩
     rcases D2.1 (hp.mem_iff.1 he) with rfl|he
     ·exact .inr rfl
     ·exact .inl he
theorem j7.fK{B:Z0}(h:j7 B){E:List Ent}(hl:E.length≤10000)(hm:∀e∈E,e∈B.aH∨∃s∈B.aD,s.id=e.1):j7 (B4k E B) where
 aH:=hl
 bP:=h.bP
 live:=fun e he=>by
  rcases hm e he with he|he
  ·exact h.live e he
  ·exact he
 one:=h.one
 nd:=h.nd
 cl:=h.cl
 dR:=h.dR
 wl:=h.wl
theorem B01{id:Int}:∀(l:List A0G) {E:List Ent},(j6 id l E).1.length≤E.length+l.length∧(∀e∈(j6 id l E).1,e∈E∨e.1=id)∧(j6 id l E).2.length=l.length∧(added id l E).length≤l.length
 |[],E=>⟨D8 _,fun e he=>.inl he,rfl,D8 _⟩
 |s::l,E=>by
  have h1:=B65 (E:=E) (id:=id) (f:=s.1) (q:=s.2.1)
  obtain⟨h2,h3,h4,h5⟩:=B01 (id:=id) l (E:=(A2P E id s.1 s.2.1).2)
  unfold j6 added
  refine⟨?_,fun e he=>?_,?_,?_⟩
  ·simp only[B7];omega
  ·rcases h3 e he with he|he
   ·exact h1.2 e he
   ·exact .inr he
  ·simp only[B7,h4]
  ·rw[B5]
   split<;>simp only[B7,G7]<;>omega
theorem B8E{id:Int}:∀(l:List A0G) {E:List Ent} {s:A0G},s∈added id l E→s∈l
 |[],_,_,h=>by cases h
 |x::l,E,s,h=>by
  unfold added at h
  rcases C9.1 h with h|h
  ·split at h
   ·rw[B8.1 h];exact B4 ..
   ·cases h
  ·exact C3 _ (B8E l h)
theorem C1c{E:List Ent}{k:Int}{f:B38}:(A1R E k f).length≤E.length:=D3 _ _
theorem B0P{id:Int}{s:A0G}(T:V0)(m:l3)(h:j7 T.b):A0H T (A0U id s T m) 320:=B5K h fun o ho=>⟨(A4a ho _).1,by have:=(A4a ho (m.1,m.2.1,min m.2.2.1 s.2.1,true,e0S)).2;omega⟩
theorem C2a{id:Int}{f:Z2→Z2×List PkO}{T:V0}:(A0F id f T).b.kept=T.b.kept:=by
 unfold A0F;split<;>rfl
theorem A9l{id:Int}{f:Z2→Z2×List PkO}{T:V0}:(A0F id f T).b.aD.map (·.id)=T.b.aD.map (·.id):=by
 unfold A0F
 split
 ·rfl
 ·rename_i s _
  exact A6H (f:=Y9 (f s.out).1) (fun _=>rfl) _
theorem A7G{id:Int}(T:V0)(s:A0G)(hk:T.b.kept.length≤64)(h:j7 T.b):A0H T (j3 id T s) 20480:=by
 unfold j3
 split
 ·exact(A0H.refl h).mono (by omega)
 ·refine(B9t (B0P (id:=id) (s:=s)) (A6k T.b.kept s.1) h).mono ?_
  have:(A6k T.b.kept s.1).length≤T.b.kept.length:=D3 _ _
  omega
theorem A7H{id:Int}(T:V0)(s:A0G):(j3 id T s).b.kept=T.b.kept:=by
 unfold j3
 split
 ·rfl
 ·have:∀(l:List l3) (T:V0),(l.foldl (A0U id s) T).b.kept=T.b.kept:=by
   intro l
   induction l with
   |nil=>intro T;rfl
   |cons m l ih=>intro T;exact(ih _).trans C2a
  exact this _ T
theorem B35{id:Int}(T:V0)(s:A0G):(j3 id T s).b.aD.map (·.id)=T.b.aD.map (·.id):=by
 unfold j3
 split
 ·rfl
 ·have:∀(l:List l3) (T:V0),(l.foldl (A0U id s) T).b.aD.map (·.id)=T.b.aD.map (·.id):=by
   intro l
   induction l with
   |nil=>intro T;rfl
   |cons m l ih=>intro T;exact(ih _).trans A9l
  exact this _ T
theorem C7C{A B:List V7}(h:A.map (·.id)=B.map (·.id)){s:V7}{k:Int}(hs:s∈B)(hk:s.id=k):∃s'∈A,s'.id=k:=by
 have h1:k∈B.map (·.id):=hk▸B3 hs
 rw[←h] at h1
 obtain⟨s',h2,h3⟩:=E4.1 h1
 exact⟨s',h2,h3⟩
theorem B6f{id:Int}:∀(l:List A0G) {T:V0},T.b.kept.length≤64→j7 T.b→A0H T (l.foldl (j3 id) T) (l.length*20480)
 |[],T,_,h=>(A0H.refl h).mono (by simp)
 |s::l,T,hk,h=>((A7G T s hk h).trans (B6f l (by rw[A7H];exact hk) (A7G T s hk h).ok)).mono (by rw[B7,J2];omega)
variable {h h0:Heap} {L L' L1 L2 L3 R:List Asn} {Q:Value→Heap→Prop}
abbrev Y3(s:A0G):D0u:=[.string s.1,.int .i64 s.2.1,.bool s.2.2.1,.bool s.2.2.2.1,.int .i64 s.2.2.2.2]
instance:Enc Y3 5:=⟨fun _=>rfl,fun x v hv=>by
 have:(Y3 x).all (fun v=>v.oneCell')=true:=rfl
 exact I8.1 this v hv,by decide⟩
abbrev sbU(s:A0G):B38×Int×Bool×Bool×Int×Unit:=(s.1,s.2.1,s.2.2.1,s.2.2.2.1,s.2.2.2.2,())
abbrev A0K(p:Pk):Slc:=p.2.2.2.2.2.2.2.2.2.2.2.2.2.2.2.2.2.2.2.2.2.2.2.2.1
theorem C5g{q:Int}(h0:0≤q)(h1:q≤255):IntKind.wrap .u8 q=q:=by
 simp[IntKind.wrap,IntKind.bits,IntKind.signed];omega
theorem C0M{b:Nat}{K:List l3}(hs:sat h (A1x b K::R)):K.length≤64:=by
 obtain⟨l,hl,_⟩:=A3V.1 hs
 exact(hl.lenL (by decide)).2
theorem B94{t b:Nat}{full:Bool}{T:V0}{x:Y6}{p:Pk}{pl:List q9}{sl:List A0G}{fl:List B38}(ht:TP h0)(ag:j7 T.b)(hc:A1E x.c T.b.aB=some x)(hb:T.outs.length≤10000000)(hE:T.b.aH.length+sl.length≤10000)(hn:sl.length≤100)
  (hsz:∀s∈sl,s.1.size≤9223372036854775807)
  (hq:At (X8 t b full (A04 x (pkI p pl sl fl) T)::old h0::L3) (Q (.tuple #[])))(hx:Has L (X8 t b full T) L1:=by repeat first|with_reducible exact V1|apply V3)(hy:Has L1 (old h0) L2:=by repeat first|with_reducible exact V1|apply V3)(hz:Has L2 (U6 Y3 5 (A0K p) sl) L3:=by repeat first|with_reducible exact V1|apply V3):
  FW prog 65 #[at0 t,.int .i64 x.c,A2z .u8 p] L Q:=by
 refine fun h hs=>A4R (some ⟨t,0,none⟩) x.c p h Q ((?_:W (X8 t b full T::old h0::U6 Y3 5 (A0K p) sl::L3) _ _) h ((hx.cU hy hz).s hs))
 clear hs h hx hy hz
 obtain⟨sx,rP,ir⟩:=ag.cl x (A1T hc).1
 unfold A04 at hq
 simp only at hq
 obtain⟨EF,jq⟩:∃EF,EF=(j6 x.aD sl T.b.aH).1:=⟨_,rfl⟩
 obtain⟨CF,ja⟩:∃CF,CF=(j6 x.aD sl T.b.aH).2:=⟨_,rfl⟩
 obtain⟨AF,rB⟩:∃AF,AF=added x.aD sl T.b.aH:=⟨_,rfl⟩
 have yn:∀s∈AF,s∈sl:=fun s hs=>by rw[rB] at hs;exact B8E sl hs
 have yR:AF.length≤100:=by rw[rB];exact C7 (B01 sl).2.2.2 hn
 rw[←jq,←ja,←rB] at hq
 delta A3H az bn cc cp cu cx A02 g6 ie ix jc ji jt km kp nn nw pu rq sn sw ve vi vs vz wi
 refine Y2 fun x1=>?_
 refine W5 ?_
 refine A6u (fun h R=>p6) fun so sp q=>?_
 refine W.load (v:=some ⟨b,0,none⟩) ?_
 refine W5 ?_
 refine W.load (v:=some q.cm) ?_
 refine Z1 (fun h R hs=>C0M (b:=q.kb) (K:=T.b.kept) hs) fun j'=>?_
 refine W.lookup (kind:=.agg tC) kKI x.c ?_
 rw[A3T,hc]
 refine W.load (v:=p.2.2.2.2.1) ?_
 refine Y2 fun x8=>?_
 refine A0n ?_
 refine W.load (v:=A0K p) ?_
 refine W.bI T so sp q ?_
 refine A4V Y3 5 ?_
 refine A4V (eKd .u8) 1 ?_
 refine W.cells (b:=x8) (W9 .u8 (pkT (j9 9 (p.2.2.2.2.1) 0) ⟨none,0,0⟩ ⟨none,0,0⟩)).toArray ?_
 refine Z1 (X5 (enc:=Y3) (size:=5) (s:=A0K p) (xs:=sl)) fun hl=>?_
 refine W.loop (γ:=Nat×List Ent×List Int×List A0G×Slc) (fun g s=>s.2.1=(g.1:Int)∧g.1≤sl.length∧j7 (B4k g.2.1 T.b)∧g.2.1.length≤T.b.aH.length+g.1∧(j6 x.aD (sl.drop g.1) g.2.1).1=EF∧g.2.2.1++(j6 x.aD (sl.drop g.1) g.2.1).2=CF∧g.2.2.2.1++added x.aD (sl.drop g.1) g.2.1=AF∧g.2.2.1.length=g.1∧g.2.2.2.1.length≤g.1)
  (fun g s=>X8 t b full (A1i g.2.1 T)::U6 Y3 5 s.1 g.2.2.2.1::U6 (eKd .u8) 1 g.2.2.2.2 g.2.2.1::cells x8 (W9 .u8 (pkT (j9 9 (p.2.2.2.2.1) 0) g.2.2.2.2 ⟨none,0,0⟩)).toArray::U6 Y3 5 (A0K p) sl::old h0::L3)
  (fun g=>sl.length-g.1) (0,T.b.aH,[],[],⟨none,0,0⟩) ⟨rfl,D1 _,ag,D8 _,jq.symm,ja.symm,rB.symm,rfl,D8 _⟩ ?_ ?_
 ·show Sub _ (X8 t b full T::U6 Y3 5 ⟨none,0,0⟩ ([]:List A0G)::U6 (eKd .u8) 1 ⟨none,0,0⟩ ([]:List Int)::cells x8 (W9 .u8 (pkT (j9 9 (p.2.2.2.2.1) 0) ⟨none,0,0⟩ ⟨none,0,0⟩)).toArray::U6 Y3 5 (A0K p) sl::old h0::L3)
  repeat(first|with_reducible exact T7|with_reducible exact T8|refine U0 (by repeat first|with_reducible exact V1|apply V3) ?_|refine U1 ?_)
 rintro⟨i,E,cs,A,cS⟩ s ⟨hi,cn,ik,lx,cd,cg,jr,bd,jn⟩ K k1 k2
 simp only at hi cn ik lx cd cg jr bd jn
 by_cases ah:i<sl.length
 ·refine Y4 (by rw[hi,hl];exact decide_eq_true (by omega)) ?_
  have bl:sl.drop i=sl[i]::sl.drop (i+1):=E1 ah
  have aY:sl[i]? =some sl[i]:=B0 ah
  have al:sl[i]∈sl:=G8 ah
  rw[bl] at cd cg jr
  generalize sl[i]=u at aY al cd cg jr
  clear bl
  refine j5 (enc:=Y3) (xs:=sl) (i:=i) ah (fun a ha=>?_) (he:=hi)
  refine B3z (x:=u) (v:=sbU u) ha aY ?_
  refine Y2 fun pA=>?_
  refine A0n ?_
  refine W5 ?_
  refine A6u (fun h R=>p6) fun so sp q=>?_
  refine W.load (v:=some ⟨b,0,none⟩) ?_
  refine W5 ?_
  refine W.load ?_
  refine W.load (v:=u.1) ?_
  refine W.load (v:=u.2.1) ?_
  refine j2 (C7d (t:=q.sb) (E:=E) (id:=x.aD) (q:=u.2.1) (f:=u.1) ht (hsz u al) (by omega) (At.un ?_))
  have hm:=B65 (E:=E) (id:=x.aD) (f:=u.1) (q:=u.2.1)
  have uH:=B3y (E:=E) (id:=x.aD) (f:=u.1) (q:=u.2.1)
  unfold j6 at cd cg
  unfold added at jr
  simp only at cd cg jr
  generalize A2P E x.aD u.1 u.2.1=r at hm uH cd cg jr⊢
  refine W.bI (A1i r.2 T) so sp q ?_
  refine C46 (fun a=>a.2.1=if r.1=0 then u.2.1 else r.1) (fun a=>X8 t b full (A1i r.2 T)::U6 Y3 5 a.1 (A++if r.1=0 then[u] else[])::U6 (eKd .u8) 1 cS cs::cells x8 (W9 .u8 (pkT (j9 9 (p.2.2.2.2.1) 0) cS ⟨none,0,0⟩)).toArray::U6 Y3 5 (A0K p) sl::old h0::L3) (fun K2 bg=>?_) (fun a jY=>?_)
  ·by_cases hr:r.1=0
   ·refine Y4 (by simpa using hr) ?_
    rw[if_pos hr,if_pos hr] at bg
    refine s7 (v:=sbU u) ?_
    refine C6S (enc:=Y3) (xs:=A) (s:=s.1) u (fun s'=>?_) (by omega)
    refine W.load (v:=u.2.1) ?_
    exact U3 (bg (s',IntKind.wrap .u8 u.2.1,()) (C5g (uH hr).1 (by have:=(uH hr).2;omega))).sub
   ·refine W8 (by simpa using hr) ?_
    rw[if_neg hr,if_neg hr,C2] at bg
    exact U3 (bg (s.1,r.1,()) rfl).sub
  ·refine W.load (v:=cS) ?_
   refine C6S (enc:=eKd .u8) (xs:=cs) (s:=cS) a.2.1 (fun s'=>?_) (by omega)
   refine W.store (cs':=(W9 .u8 (pkT (j9 9 (p.2.2.2.2.1) 0) s' ⟨none,0,0⟩)).toArray) ?_
   have ot:r.2.length≤T.b.aH.length+(i+1):=by have:=hm.1;omega
   refine U3 (At.sub (k1 (i+1,r.2,cs++[a.2.1],A++(if r.1=0 then[u] else[]),s') (a.1,IntKind.wrap .i64 (s.2.1+1),()) (by simp only;omega) ⟨?_,ah,?_,ot,cd,?_,?_,?_,?_⟩) ?_)
   ·simp only[hi];rw[V8 (by omega) (by omega)];rfl
   ·exact ik.fK (by show r.2.length≤10000;omega) fun e he=>by
     rcases hm.2 e he with he|he
     ·exact .inl he
     ·exact .inr ⟨sx,rP,ir.trans he.symm⟩
   ·rw[jY,D6];exact cg
   ·rw[D6];exact jr
   ·simp[bd]
   ·simp only[B5];split<;>simp<;>omega
   ·repeat(first|with_reducible exact T7|with_reducible exact T8|refine U0 (by repeat first|with_reducible exact V1|apply V3) ?_|refine U1 ?_)
 ·refine W8 (by rw[hi,hl];exact decide_eq_false (by omega)) (U3 (k2 _ _ ?_))
  have en:i=sl.length:=by omega
  subst en
  rw[J8] at cd cg jr
  simp only[j6,added,C2] at cd cg jr
  subst cd cg jr
  clear k1 k2 ja rB jq
  refine s7 (v:=pkT (A0S 9 (p.2.2.2.2.1) cs) cS ⟨none,0,0⟩) ?_
  refine A4V X1 4 ?_
  refine W.cY (A:=pkB .u8 (cS,⟨none,0,0⟩,A0S 9 (p.2.2.2.2.1) cs)) (B:=U6 (eKd .u8) 1 cS cs) (C:=U6 X1 4 ⟨none,0,0⟩ ([]:List q9)) (fun h hs=>A4K.2 hs) ?_
  refine Z3 (B8V (T:=A1i E T) (c:=x.c) (o:=A0S 9 (p.2.2.2.2.1) cs) (ci:=cS) (pi:=⟨none,0,0⟩) (by show T.outs.length≤_;omega) (At.bD ?_))
  obtain⟨T1,bR⟩:∃T1,T1=A0A ⟨x.c,A0S 9 (p.2.2.2.2.1) cs,false⟩ (A1i E T):=⟨_,rfl⟩
  have aL:j7 T1.b:=by rw[bR];exact ik
  have ej:T1.b.kept=T.b.kept:=by rw[bR]
  have fU:T1.b.aD.map (·.id)=T.b.aD.map (·.id):=by rw[bR]
  have fj:T1.outs.length≤10000001:=by rw[bR];show(T.outs++[_]).length≤_;rw[B5];simp only[B7,G7];omega
  rw[←bR] at hq⊢
  clear bR
  obtain⟨aS,i0,_⟩:=s
  simp only
  refine Z1 (X5 (enc:=Y3) (size:=5) (s:=aS) (xs:=A)) fun fi=>?_
  refine W.loop (γ:=Nat×V0) (fun g s=>s.1=(g.1:Int)∧g.1≤A.length∧j7 g.2.b∧g.2.b.kept=T.b.kept∧g.2.b.aD.map (·.id)=T.b.aD.map (·.id)∧(A.drop g.1).foldl (j3 x.aD) g.2=A.foldl (j3 x.aD) T1∧g.2.outs.length≤10000001+20480*g.1)
   (fun g s=>X8 t b full g.2::U6 Y3 5 aS A::old h0::L3) (fun g=>A.length-g.1) (0,T1) ⟨rfl,D1 _,aL,ej,fU,rfl,fj⟩ ?_ ?_
  ·show Sub _ (X8 t b full T1::U6 Y3 5 aS A::old h0::L3)
   repeat(first|with_reducible exact T7|with_reducible exact T8|refine U0 (by repeat first|with_reducible exact V1|apply V3) ?_|refine U1 ?_)
  rintro⟨j,T2⟩ s2 ⟨hj,tU,bw,gr,jk,fV,dx⟩ K2 m1 m2
  simp only at hj tU bw gr jk fV dx
  by_cases bH:j<A.length
  ·refine Y4 (by rw[hj,fi];exact decide_eq_true (by omega)) ?_
   have bl:A.drop j=A[j]::A.drop (j+1):=E1 bH
   have lO:A[j]? =some A[j]:=B0 bH
   have al:A[j]∈A:=G8 bH
   rw[bl,H3] at fV
   generalize A[j]=u at lO al fV
   have qE:=A7G (id:=x.aD) T2 u (by rw[gr];exact j') bw
   have aA:At (X8 t b full (j3 x.aD T2 u)::U6 Y3 5 aS A::old h0::L3) (K2 (.inl (IntKind.wrap .i64 (s2.1+1),()))):=by
    refine m1 (j+1,j3 x.aD T2 u) (IntKind.wrap .i64 (s2.1+1),()) (by simp only;omega) ⟨?_,bH,qE.ok,(A7H T2 u).trans gr,(B35 T2 u).trans jk,fV,?_⟩
    ·simp only[hj];rw[V8 (by omega) (by omega)];rfl
    ·have:=qE.outs;simp only;omega
   clear m1 m2 fV
   refine X3 (j5 (enc:=Y3) (xs:=A) (i:=j) bH (fun a ha=>?_) (he:=hj))
   refine X3 (B3z (x:=u) (v:=sbU u) ha lO ?_)
   refine X3 (Y2 fun rH=>?_)
   refine X3 (A0n ?_)
   refine X3 (W.load (v:=u.2.2.2.2) ?_)
   by_cases h2:u.2.2.2.2=2
   ·refine A1o (by simpa using h2) ?_
    have e:j3 x.aD T2 u=T2:=if_pos h2
    rw[e] at aA
    exact b7 (U3 aA.sub)
   ·refine o5 (by simpa using h2) ?_
    have e:j3 x.aD T2 u=(A6k T2.b.kept u.1).foldl (A0U x.aD u) T2:=if_neg h2
    rw[e] at aA
    refine X3 (W5 ?_)
    refine A6u (fun h R=>p6) fun so sp q=>?_
    refine X3 (W.load (v:=some ⟨b,0,none⟩) ?_)
    refine X3 (W5 ?_)
    refine X3 (W.load ?_)
    refine X3 (W.load (v:=u.1) ?_)
    refine X3 (j2 (C6a (b:=q.kb) (K:=T2.b.kept) (f:=u.1) ht (hsz u (yn u al)) (fun S=>At.un (x:=S) ?_)))
    refine W.bI T2 so sp q ?_
    have tZ:(A6k T2.b.kept u.1).length≤64:=C7 (D3 _ _) (by rw[gr];exact j')
    generalize A6k T2.b.kept u.1=M at tZ aA⊢
    refine Z1 (X5 (enc:=A0i) (size:=3) (s:=S) (xs:=M)) fun kX=>?_
    refine X3 (W.loop (γ:=Nat×V0) (fun g s=>s.1=(g.1:Int)∧g.1≤M.length∧j7 g.2.b∧g.2.b.aD.map (·.id)=T.b.aD.map (·.id)∧(M.drop g.1).foldl (A0U x.aD u) g.2=M.foldl (A0U x.aD u) T2∧g.2.outs.length≤20000000+320*g.1)
     (fun g s=>X8 t b full g.2::U6 A0i 3 S M::cells rH (Y3 u).toArray::U6 Y3 5 aS A::old h0::L3) (fun g=>M.length-g.1) (0,T2) ⟨rfl,D1 _,bw,jk,rfl,by simp only;omega⟩ ?_ ?_)
    ·show Sub _ (X8 t b full T2::U6 A0i 3 S M::cells rH (Y3 u).toArray::U6 Y3 5 aS A::old h0::L3)
     repeat(first|with_reducible exact T7|with_reducible exact T8|refine U0 (by repeat first|with_reducible exact V1|apply V3) ?_|refine U1 ?_)
    rintro⟨l,T3⟩ s3 ⟨gM,rT,cV,oP,iv,oj⟩ K3 n1 n2
    simp only at gM rT cV oP iv oj
    by_cases cW:l<M.length
    ·refine Y4 (by rw[gM,kX];exact decide_eq_true (by omega)) ?_
     have iy:M.drop l=M[l]::M.drop (l+1):=E1 cW
     have nV:M[l]? =some M[l]:=B0 cW
     rw[iy,H3] at iv
     generalize M[l]=m at nV iv
     have qF:=B0P (id:=x.aD) (s:=u) T3 m cV
     have ei:At (X8 t b full (A0U x.aD u T3 m)::U6 A0i 3 S M::cells rH (Y3 u).toArray::U6 Y3 5 aS A::old h0::L3) (K3 (.inl (IntKind.wrap .i64 (s3.1+1),()))):=by
      refine n1 (l+1,A0U x.aD u T3 m) (IntKind.wrap .i64 (s3.1+1),()) (by simp only;omega) ⟨?_,cW,qF.ok,A9l.trans oP,iv,?_⟩
      ·simp only[gM];rw[V8 (by omega) (by omega)];rfl
      ·have:=qF.outs;simp only;omega
     clear n1 n2 iv
     obtain⟨s4,ak,hid⟩:=C7C oP rP ir
     have iR:(if u.2.1<m.2.2.1 then u.2.1 else m.2.2.1)=min m.2.2.1 u.2.1:=by split<;>omega
     have dc:=A4a (cV.bP s4 ak) (m.1,m.2.1,min m.2.2.1 u.2.1,true,e0S)
     have e9:A0U x.aD u T3 m=q7 x.aD (Y0 s4.out (m.1,m.2.1,min m.2.2.1 u.2.1,true,e0S)).1.2 (A0E (X7 x.aD (Y9 (Y0 s4.out (m.1,m.2.1,min m.2.2.1 u.2.1,true,e0S)).1.1) T3.b.aD) T3):=by
      unfold A0U A0F
      rw[A3y cV.nd ak hid]
     rw[e9] at ei
     refine j5 (enc:=A0i) (xs:=M) (i:=l) cW (fun a3 jR=>?_) (he:=gM)
     refine B3z (x:=m) (v:=m) jR nV ?_
     refine Y2 fun yu=>?_
     refine A0n ?_
     refine W5 ?_
     refine A6u (fun h R=>p6) fun gg iC q2=>?_
     refine W.load (v:=some ⟨b,0,none⟩) ?_
     refine W5 ?_
     refine W.load (v:=some ⟨q2.tb,0,none⟩) ?_
     refine W.load (v:=m.1) ?_
     refine W.load (v:=m.2.1) ?_
     refine W.load (v:=m.2.2.1) ?_
     refine W.load (v:=u.2.1) ?_
     rw[iR]
     refine A9f (fun h R=>A6D ak h R) fun ob ib=>?_
     refine A79 ?_ ?_
     ·refine j2 (B3A hid (At.un ?_))
      repeat(first|refine b7 ?_|refine X3 ?_|refine Y2 fun _=>?_|refine W.load ?_|refine B4O ?_|refine j4 ?_|(refine s7 ?_;try dsimp only)|(refine A8a ?_;try dsimp only)|refine A0n ?_|refine W.store ?_|refine W.store0 ?_|refine A4r ?_|refine A1p ?_ rfl|refine A1o rfl ?_|refine o5 rfl ?_|refine Y4 rfl ?_|refine W8 rfl ?_|refine W.inl ?_|refine W.inr ?_|refine W5 ?_|refine o5 (Go.H.nbq _) ?_|refine W8 (Go.H.nbq _) ?_|refine o5 (Go.H.nbd rfl) ?_|refine W8 (Go.H.nbd rfl) ?_)
      refine Z3 (B4V (b:=ob) (o:=s4.out) (m:=(m.1,m.2.1,min m.2.2.1 u.2.1,true,e0S)) (cV.bP s4 ak) (fun S2=>At.bD (x:=(S2,(Y0 s4.out (m.1,m.2.1,min m.2.2.1 u.2.1,true,e0S)).2,())) ?_))
      refine B2x (A:=A1q q2.tb T3.b.last (X7 x.aD (Y9 (Y0 s4.out (m.1,m.2.1,min m.2.2.1 u.2.1,true,e0S)).1.1) T3.b.aD)) (fun h hs=>A6C cV.nd ak hid h hs) ?_
      refine W.bI (A0E (X7 x.aD (Y9 (Y0 s4.out (m.1,m.2.1,min m.2.2.1 u.2.1,true,e0S)).1.1) T3.b.aD) T3) gg iC q2 ?_
      refine Z3 (A3O (T:=A0E (X7 x.aD (Y9 (Y0 s4.out (m.1,m.2.1,min m.2.2.1 u.2.1,true,e0S)).1.1) T3.b.aD) T3) (id:=x.aD) (ps:=(Y0 s4.out (m.1,m.2.1,min m.2.2.1 u.2.1,true,e0S)).1.2) (cV.one x.aD) (by have:=dc.2;show T3.outs.length+_≤_;omega) (At.bD ?_))
      exact U3 ei.sub
     ·repeat(first|refine b7 ?_|refine X3 ?_|refine Y2 fun _=>?_|refine W.load ?_|refine B4O ?_|refine j4 ?_|(refine s7 ?_;try dsimp only)|(refine A8a ?_;try dsimp only)|refine A0n ?_|refine W.store ?_|refine W.store0 ?_|refine A4r ?_|refine A1p ?_ rfl|refine A1o rfl ?_|refine o5 rfl ?_|refine Y4 rfl ?_|refine W8 rfl ?_|refine W.inl ?_|refine W.inr ?_|refine W5 ?_|refine o5 (Go.H.nbq _) ?_|refine W8 (Go.H.nbq _) ?_|refine o5 (Go.H.nbd rfl) ?_|refine W8 (Go.H.nbd rfl) ?_)
      refine j2 (B3A hid (At.un ?_))
      repeat(first|refine b7 ?_|refine X3 ?_|refine Y2 fun _=>?_|refine W.load ?_|refine B4O ?_|refine j4 ?_|(refine s7 ?_;try dsimp only)|(refine A8a ?_;try dsimp only)|refine A0n ?_|refine W.store ?_|refine W.store0 ?_|refine A4r ?_|refine A1p ?_ rfl|refine A1o rfl ?_|refine o5 rfl ?_|refine Y4 rfl ?_|refine W8 rfl ?_|refine W.inl ?_|refine W.inr ?_|refine W5 ?_|refine o5 (Go.H.nbq _) ?_|refine W8 (Go.H.nbq _) ?_|refine o5 (Go.H.nbd rfl) ?_|refine W8 (Go.H.nbd rfl) ?_)
      refine Z3 (B4V (b:=ob) (o:=s4.out) (m:=(m.1,m.2.1,min m.2.2.1 u.2.1,true,e0S)) (cV.bP s4 ak) (fun S2=>At.bD (x:=(S2,(Y0 s4.out (m.1,m.2.1,min m.2.2.1 u.2.1,true,e0S)).2,())) ?_))
      refine B2x (A:=A1q q2.tb T3.b.last (X7 x.aD (Y9 (Y0 s4.out (m.1,m.2.1,min m.2.2.1 u.2.1,true,e0S)).1.1) T3.b.aD)) (fun h hs=>A6C cV.nd ak hid h hs) ?_
      refine W.bI (A0E (X7 x.aD (Y9 (Y0 s4.out (m.1,m.2.1,min m.2.2.1 u.2.1,true,e0S)).1.1) T3.b.aD) T3) gg iC q2 ?_
      refine Z3 (A3O (T:=A0E (X7 x.aD (Y9 (Y0 s4.out (m.1,m.2.1,min m.2.2.1 u.2.1,true,e0S)).1.1) T3.b.aD) T3) (id:=x.aD) (ps:=(Y0 s4.out (m.1,m.2.1,min m.2.2.1 u.2.1,true,e0S)).1.2) (cV.one x.aD) (by have:=dc.2;show T3.outs.length+_≤_;omega) (At.bD ?_))
      exact U3 ei.sub
    ·refine W8 (by rw[gM,kX];exact decide_eq_false (by omega)) (U3 (n2 _ _ (b7 (U3 ?_))))
     have hle:l=M.length:=by omega
     subst hle
     rw[J8,P3] at iv
     rw[←iv] at aA
     exact aA.sub
  ·refine W8 (by rw[hj,fi];exact decide_eq_false (by omega)) (U3 (m2 _ _ (U3 ?_)))
   have oO:j=A.length:=by omega
   subst oO
   rw[J8,P3] at fV
   rw[fV]
   exact hq.sub
end
section
open Go.H Go.Proofs
variable {h h0:Heap} {L L' L1 L2 L3 R:List Asn} {Q:Value→Heap→Prop}
abbrev A4w(p:Pk):Slc:=p.2.2.2.2.2.2.2.2.2.2.2.2.2.2.2.2.2.2.2.2.2.2.2.2.2.1
theorem B7i{t b:Nat}{full:Bool}{T:V0}{x:Y6}{p:Pk}{pl:List q9}{sl:List A0G}{fl:List B38}(ht:TP h0)(ag:j7 T.b)(hc:A1E x.c T.b.aB=some x)(hb:T.outs.length≤10000000)(hn:fl.length≤100)
  (hsz:∀f∈fl,f.size≤16777216)
  (hq:At (X8 t b full (A1H x (pkI p pl sl fl) T)::old h0::L3) (Q (.tuple #[])))(hx:Has L (X8 t b full T) L1:=by repeat first|with_reducible exact V1|apply V3)(hy:Has L1 (old h0) L2:=by repeat first|with_reducible exact V1|apply V3)(hz:Has L2 (U6 A0g 1 (A4w p) fl) L3:=by repeat first|with_reducible exact V1|apply V3):
  FW prog 66 #[at0 t,.int .i64 x.c,A2z .u8 p] L Q:=by
 refine fun h hs=>A4o (some ⟨t,0,none⟩) x.c p h Q ((?_:W (X8 t b full T::old h0::U6 A0g 1 (A4w p) fl::L3) _ _) h ((hx.cU hy hz).s hs))
 clear hs h hx hy hz
 unfold A1H at hq
 simp only at hq
 obtain⟨EF,jq⟩:∃EF,EF=(A0X x.aD fl T.b.aH).1:=⟨_,rfl⟩
 obtain⟨CF,ja⟩:∃CF,CF=(A0X x.aD fl T.b.aH).2:=⟨_,rfl⟩
 rw[←jq,←ja] at hq
 delta A3c az bn cb cx A02 ie ix jc ji km kp lt nn nw pu sn sw ve vi vs vz wi
 refine Y2 fun x1=>?_
 refine W.load (v:=p.2.2.2.2.1) ?_
 refine Y2 fun x3=>?_
 refine A0n ?_
 refine W.load (v:=A4w p) ?_
 refine A4V (eKd .u8) 1 ?_
 refine W.cells (b:=x3) (W9 .u8 (pkT (j9 11 (p.2.2.2.2.1) 0) ⟨none,0,0⟩ ⟨none,0,0⟩)).toArray ?_
 refine Z1 (X5 (enc:=A0g) (size:=1) (s:=A4w p) (xs:=fl)) fun hl=>?_
 refine W.loop (γ:=Nat×List Ent×List Int×Slc) (fun g s=>s.1=(g.1:Int)∧g.1≤fl.length∧g.2.1.length≤T.b.aH.length∧(A0X x.aD (fl.drop g.1) g.2.1).1=EF∧g.2.2.1++(A0X x.aD (fl.drop g.1) g.2.1).2=CF∧g.2.2.1.length=g.1)
  (fun g s=>X8 t b full (A1i g.2.1 T)::U6 (eKd .u8) 1 g.2.2.2 g.2.2.1::cells x3 (W9 .u8 (pkT (j9 11 (p.2.2.2.2.1) 0) g.2.2.2 ⟨none,0,0⟩)).toArray::U6 A0g 1 (A4w p) fl::old h0::L3)
  (fun g=>fl.length-g.1) (0,T.b.aH,[],⟨none,0,0⟩) ⟨rfl,D1 _,D8 _,jq.symm,ja.symm,rfl⟩ ?_ ?_
 ·show Sub _ (X8 t b full T::U6 (eKd .u8) 1 ⟨none,0,0⟩ ([]:List Int)::cells x3 (W9 .u8 (pkT (j9 11 (p.2.2.2.2.1) 0) ⟨none,0,0⟩ ⟨none,0,0⟩)).toArray::U6 A0g 1 (A4w p) fl::old h0::L3)
  repeat(first|with_reducible exact T7|with_reducible exact T8|refine U0 (by repeat first|with_reducible exact V1|apply V3) ?_|refine U1 ?_)
 rintro⟨i,E,cs,cS⟩ s ⟨hi,cn,lx,cd,cg,bd⟩ K k1 k2
 simp only at hi cn lx cd cg bd
 by_cases ah:i<fl.length
 ·refine Y4 (by rw[hi,hl];exact decide_eq_true (by omega)) ?_
  have bl:fl.drop i=fl[i]::fl.drop (i+1):=E1 ah
  have aY:fl[i]? =some fl[i]:=B0 ah
  have al:fl[i]∈fl:=G8 ah
  rw[bl] at cd cg
  generalize fl[i]=u at aY al cd cg
  clear bl
  unfold A0X at cd cg
  simp only at cd cg
  have bf:=ag.aH
  refine j5 (enc:=A0g) (xs:=fl) (i:=i) ah (fun a ha=>?_) (he:=hi)
  refine B4P (x:=u) (v:=u) ha aY ?_
  refine W5 ?_
  refine A6u (fun h R=>p6) fun so sp q=>?_
  refine W.load (v:=some ⟨b,0,none⟩) ?_
  refine W5 ?_
  refine W.load ?_
  refine W5 ?_
  refine W.load (v:=some ⟨b,0,none⟩) ?_
  refine W5 ?_
  refine W.load (v:=some q.cm) ?_
  refine W.lookup (kind:=.agg tC) kKI x.c ?_
  rw[A3T,hc]
  refine j2 (C1F (t:=q.sb) (E:=E) (id:=x.aD) (f:=u) ht (hsz u al) (by omega) (At.un ?_))
  refine W.bI (A1i (A1R E x.aD u) T) so sp q ?_
  refine A1g (fun a=>a.1=if(A1R E x.aD u).length<E.length then 0 else 17) (fun K2 bg=>A0l (fun e=>U3 (bg _ (if_pos (by simpa using e)).symm)) (fun e=>U3 (bg _ (if_neg (by simpa using e)).symm))) (fun a jY=>?_)
  refine W.load (v:=cS) ?_
  refine C6S (enc:=eKd .u8) (xs:=cs) (s:=cS) a.1 (fun s'=>?_) (by omega)
  refine W.store (cs':=(W9 .u8 (pkT (j9 11 (p.2.2.2.2.1) 0) s' ⟨none,0,0⟩)).toArray) ?_
  have ot:(A1R E x.aD u).length≤T.b.aH.length:=C7 C1c lx
  have f1:IntKind.wrap .i64 (s.1+1)=((i+1:Nat):Int):=by rw[hi,V8 (by omega) (by omega)];rfl
  have f2:(cs++[a.1])++(A0X x.aD (fl.drop (i+1)) (A1R E x.aD u)).2=CF:=by rw[jY,D6];exact cg
  have hn:=k1 (i+1,A1R E x.aD u,cs++[a.1],s') (IntKind.wrap .i64 (s.1+1),()) (by simp only;omega) ⟨f1,ah,ot,cd,f2,by simp[bd]⟩
  exact U3 hn.sub
 ·refine W8 (by rw[hi,hl];exact decide_eq_false (by omega)) (U3 (k2 _ _ ?_))
  have en:i=fl.length:=by omega
  subst en
  rw[J8] at cd cg
  simp only[A0X,C2] at cd cg
  subst cd cg
  refine s7 (v:=pkT (A0S 11 (p.2.2.2.2.1) cs) cS ⟨none,0,0⟩) ?_
  refine A4V X1 4 ?_
  refine W.cY (A:=pkB .u8 (cS,⟨none,0,0⟩,A0S 11 (p.2.2.2.2.1) cs)) (B:=U6 (eKd .u8) 1 cS cs) (C:=U6 X1 4 ⟨none,0,0⟩ ([]:List q9)) (fun h hs=>A4K.2 hs) ?_
  refine Z3 (B8V (T:=A1i E T) (c:=x.c) (o:=A0S 11 (p.2.2.2.2.1) cs) (ci:=cS) (pi:=⟨none,0,0⟩) (by show T.outs.length≤_;omega) (At.bD ?_))
  exact U3 hq.sub
theorem D0m{α:Type}{P:Program}{k:Kind}{fn:FuncId}{first captured args:D0t}{f:k.ty→HM α}{Q':α→Heap→Prop}(ag:A1D P fn)(hc:FW P fn (first++args++captured) L (k.un fun x h'=>f x h' Q')):
  W L (HM.bind (B8H P k (.func (.func fn) first captured) args) f) Q':=fun h hs=>
 ⟨fn,first,captured,rfl,ag,hc h hs⟩
abbrev prU(u:q9):Int×Int×B38×B38×Unit:=(u.1,u.2.1,u.2.2.1,u.2.2.2,())
theorem C6n{S:Slc}{pl:List q9}{id:Int}(hn:pl.length≤1000)(hq:At (U6 X1 4 S pl::L1) (Q (.tuple #[.agg (X1 ((A0Z id pl).getD (0,0,e0S,e0S))).toArray,.bool (A0Z id pl).isSome])))
  (hx:Has L (U6 X1 4 S pl) L1:=by repeat first|with_reducible exact V1|apply V3):FW prog 70 #[.slice S.a S.len S.cap,.int .i64 id] L Q:=by
 refine fun h hs=>B4C S id h Q ((?_:W (U6 X1 4 S pl::L1) _ _) h (hx.s hs))
 clear hs h hx
 delta B75 az ci g8 ie ix nw pu sn ve vi vs
 refine Y2 fun x1=>?_
 refine Y2 fun x2=>?_
 refine j2 (fun h hs=>A3D S _ h _ ((?_:W (cells x2 zS8::cells x1 #[.int .i64 id]::U6 X1 4 S pl::L1) _ _) h hs))
 delta A2t bn g8 ie ix pu wi
 refine Z1 (X5 (enc:=X1) (size:=4) (s:=S) (xs:=pl)) fun hl=>?_
 refine W.loop (γ:=Nat) (fun g s=>s.1=(g:Int)∧g≤pl.length∧A0Z id (pl.take g)=none) (fun g s=>cells x2 zS8::cells x1 #[.int .i64 id]::U6 X1 4 S pl::L1) (fun g=>pl.length-g) 0 ⟨rfl,D1 _,rfl⟩ Sub.rfl ?_
 rintro i s ⟨hi,cn,hf⟩ K k1 k2
 by_cases ah:i<pl.length
 ·refine Y4 (by rw[hi,hl];exact decide_eq_true (by omega)) ?_
  have aY:pl[i]? =some pl[i]:=B0 ah
  have aV:pl.take (i+1)=pl.take i++[pl[i]]:=C4 ah
  have eY:pl=pl.take i++pl[i]::pl.drop (i+1):=by rw[←E1 ah,J3]
  generalize pl[i]=u at aY aV eY
  refine j5 (enc:=X1) (xs:=pl) (i:=i) ah (fun a ha=>?_) (he:=hi)
  refine B3z (x:=u) (v:=prU u) ha aY ?_
  refine D0m call115 (fun h hs=>B0L (prU u) ⟨x1,0,none⟩ h _ ((?_:W (cells x2 zS8::cells x1 #[.int .i64 id]::U6 X1 4 S pl::L1) _ _) h hs))
  delta B1I ji li nw pu
  refine Y2 fun x4=>?_
  refine W.load (v:=u.1) ?_
  refine B4O (v:=id) ?_
  refine U3 (At.un (x:=u.1==id) ?_)
  by_cases hu:u.1=id
  ·refine Y4 (by simpa using hu) ?_
   refine U3 (k2 _ _ ?_)
   refine U3 (At.un (x:=s.1) ?_)
   have ub:A0Z id pl=some u:=by
    rw[eY];unfold A0Z at hf⊢
    rw[P4,hf,Option.none_or,R6 (by simpa using hu)]
   rw[ub] at hq
   refine W8 (by rw[hi];exact decide_eq_false (by omega)) ?_
   refine j5 (enc:=X1) (xs:=pl) (i:=i) ah (fun a ha=>?_) (he:=hi)
   refine B3z (x:=u) (v:=prU u) ha aY ?_
   refine A0n ?_
   refine s7 (v:=prU u) ?_
   exact U3 hq.sub
  ·refine W8 (by simpa using hu) ?_
   have f1:IntKind.wrap .i64 (s.1+1)=((i+1:Nat):Int):=by rw[hi,V8 (by omega) (by omega)];rfl
   have f2:A0Z id (pl.take (i+1))=none:=by
    rw[aV];unfold A0Z at hf⊢
    rw[P4,hf,Option.none_or,List.find?_cons_of_neg (by simpa using hu)];rfl
   have hn:=k1 (i+1) (IntKind.wrap .i64 (s.1+1),()) (by omega) ⟨f1,ah,f2⟩
   exact U3 hn.sub
 ·refine W8 (by rw[hi,hl];exact decide_eq_false (by omega)) (U3 (k2 _ _ ?_))
  have en:i=pl.length:=by omega
  subst en
  rw[F5] at hf
  rw[hf] at hq
  refine U3 (At.un (x:=(-1:Int)) ?_)
  refine Y4 (by decide) ?_
  refine A0n ?_
  refine s7 (v:=prU (0,0,e0S,e0S)) ?_
  exact U3 hq.sub
end
section
open Go.H Go.Proofs
abbrev A2x(s:V7):Int×B38:=(s.id,s.aC)
structure X4(B:Z0)(n:Nat):Prop extends j7 B where
 cX:0≤B.last
 cL:B.last≤n
 dW:∀s∈B.aD,1≤s.id∧s.id≤B.last
 dF:(B.aD.map (·.id)).Pairwise (·< ·)
 eB:(B.aD.map (·.aC)).Nodup
 n32:B.aD.length≤32
 eT:∀i,A1e B.aH i≤64
theorem B6T{A E:List Ent}(h:A.Sublist E)(i:Int):A1e A i≤A1e E i:=(h.map _).count_le _
theorem X4.sub{B B':Z0}{n:Nat}(h:X4 B n)(h':j7 B')(hl:B'.last=B.last)(hk:(B'.aD.map A2x).Sublist (B.aD.map A2x))(he:B'.aH.Sublist B.aH):X4 B' n:=by
 have e1:∀A:List V7,(A.map A2x).map (·.1)=A.map (·.id):=fun A=>by rw[F1];rfl
 have e2:∀A:List V7,(A.map A2x).map (·.2)=A.map (·.aC):=fun A=>by rw[F1];rfl
 have k1:=hk.map (·.1)
 have k2:=hk.map (·.2)
 rw[e1,e1] at k1
 rw[e2,e2] at k2
 refine{h' with cX:=by rw[hl];exact h.cX,cL:=by rw[hl];exact h.cL,dW:=fun s hs=>?_,dF:=h.dF.sublist k1,eB:=h.eB.sublist k2,n32:=?_,eT:=fun i=>C7 (B6T he i) (h.eT i)}
 ·have:s.id∈B.aD.map (·.id):=k1.subset (B3 hs)
  obtain⟨s',af,he⟩:=E4.1 this
  have:=h.dW s' af
  rw[hl];rw[he] at this;exact this
 ·have:=hk.length_le
  simp only[C1] at this
  exact C7 this h.n32
theorem B1f{k:Int}{f:V7→V7}(hf:∀s,A2x (f s)=A2x s)(A:List V7):(X7 k f A).map A2x=A.map A2x:=by
 unfold X7
 rw[F1]
 refine I2 fun s _=>?_
 simp only[Function.comp]
 split
 ·exact hf s
 ·rfl
theorem B23{id:Int}{f:Z2→Z2×List PkO}{T:V0}:(A0F id f T).b.aD.map A2x=T.b.aD.map A2x:=by
 unfold A0F
 split
 ·rfl
 ·rename_i s _
  exact B1f (f:=Y9 (f s.out).1) (fun _=>rfl) _
theorem B2c{α:Type}{g:V0→α→V0}(hg:∀T x,(g T x).b.aD.map A2x=T.b.aD.map A2x):∀(l:List α) {T:V0},(l.foldl g T).b.aD.map A2x=T.b.aD.map A2x
 |[],_=>rfl
 |x::l,T=>(B2c hg l).trans (hg T x)
theorem B3h{m:MsT}{T:V0}:(A0p m T).b.aD.map A2x=T.b.aD.map A2x:=by
 unfold A0p
 rw[B2c (g:=A0b m (T.b.aH.filter fun x=>Y1 x.2.1 m.1)) fun T x=>B23]
 unfold A1k;split<;>rfl
theorem C09{k:Int}{B:Z0}:((A6m k B).aD.map A2x).Sublist (B.aD.map A2x):=by
 unfold A6m
 split
 ·exact G5 _
 ·split
  ·exact G5 _
  ·split
   ·show((X7 k A8y B.aD).map A2x).Sublist _
    rw[B1f (f:=A8y) fun _=>rfl];exact G5 _
   ·exact I4.map _
theorem B6o{full:Bool}{c:Int}{w:Bool}{T:V0}:((A4n full c w T).b.aD.map A2x).Sublist (T.b.aD.map A2x):=by
 unfold A4n
 split
 ·exact G5 _
 ·simp only
  split
  ·show((A0p _ _).b.aD.map A2x).Sublist _
   rw[B3h];exact C09
  ·exact C09
theorem B8w{k:Int}{B:Z0}:(A6m k B).aH.Sublist B.aH:=by
 unfold A6m
 split
 ·exact G5 _
 ·split
  ·exact G5 _
  ·split
   ·exact G5 _
   ·exact I4
theorem B8p{α:Type}{g:V0→α→V0}(hg:∀T x,(g T x).b.aH=T.b.aH):∀(l:List α) {T:V0},(l.foldl g T).b.aH=T.b.aH
 |[],_=>rfl
 |x::l,T=>(B8p hg l).trans (hg T x)
theorem C18{id:Int}{f:Z2→Z2×List PkO}{T:V0}:(A0F id f T).b.aH=T.b.aH:=by
 unfold A0F;split<;>rfl
theorem B6b{m:MsT}{T:V0}:(A0p m T).b.aH=T.b.aH:=by
 unfold A0p
 rw[B8p (g:=A0b m (T.b.aH.filter fun x=>Y1 x.2.1 m.1)) fun T x=>C18]
 unfold A1k;split<;>rfl
theorem B3m{full:Bool}{c:Int}{w:Bool}{T:V0}:(A4n full c w T).b.aH.Sublist T.b.aH:=by
 unfold A4n
 split
 ·exact G5 _
 ·simp only
  split
  ·show((A0p _ _).b.aH).Sublist _
   rw[B6b];exact B8w
  ·exact B8w
theorem C0N{id:Int}(T:V0)(s:A0G):(j3 id T s).b.aD.map A2x=T.b.aD.map A2x:=by
 unfold j3
 split
 ·rfl
 ·exact B2c (fun T m=>B23) _
theorem A8U{α β:Type}{f:α→β}{A:List α}(hn:(A.map f).Nodup){s t:α}(hs:s∈A)(ht:t∈A)(e:f s=f t):s=t:=by
 obtain⟨l1,l2,rfl⟩:=H0 hs
 rw[C0,B6,G1] at hn
 rcases C9.1 ht with hm|hm
 ·exact absurd e.symm (hn.2.2 _ (B3 hm) _ (B4 ..))
 ·rcases D2.1 hm with rfl|hm
  ·rfl
  ·exact absurd (B3 (f:=f) hm) (by rw[←e];exact(F4.1 hn.2.1).1)
theorem C0K{full:Bool}{s:V7}{T:V0}(h:j7 T.b)(bU:(T.b.aB.map (·.c)).Nodup):j7 (A28 full s T).b∧(A28 full s T).outs.length≤T.outs.length+3200001∧(A28 full s T).aT.length≤T.aT.length+3200001∧(A28 full s T).b.aB=T.b.aB.filter (fun y=>decide (y.aD≠s.id))∧(A28 full s T).b.last=T.b.last∧((A28 full s T).b.aD.map A2x).Sublist (T.b.aD.map A2x)∧(A28 full s T).b.aH.Sublist T.b.aH:=by
 unfold A28
 cases hg:T.b.aB.find? (fun x=>decide (x.aD=s.id)) with
 |none=>
  have hf:T.b.aB.filter (fun y=>decide (y.aD≠s.id))=T.b.aB:=H4.2 fun y hy=>by
   have:=E8.1 hg y hy
   simpa using this
  exact⟨h,J9 _ _,J9 _ _,hf.symm,rfl,G5 _,G5 _⟩
 |some x=>
  have hx:=H2 hg
  have dJ:x.aD=s.id:=by simpa using M0 hg
  have h1:=B0C (full:=full) (c:=x.c) (code:=142) (T:=T) h
  refine⟨h1.1,h1.2.1,h1.2.2.1,h1.2.2.2.1.trans ?_,h1.2.2.2.2,B6o,B3m⟩
  refine K8 fun y hy=>?_
  refine G0.2 ⟨fun bF=>?_,fun bF=>?_⟩
  ·rw[←dJ];exact h.other hx hy bF
  ·intro e
   exact bF (by rw[←dJ];exact congrArg Y6.aD (A8U (f:=(·.c)) bU hy hx e))
noncomputable def A0O(full:Bool)(c:B38)(T:V0):V0:=match ofS c T.b.aD with
 |some s=>A28 full s T
 |none=>T
theorem B11{full:Bool}{c:B38}{T:V0}{n:Nat}(h:X4 T.b n)(bU:(T.b.aB.map (·.c)).Nodup)(eK:ofS c T.b.aD=none→T.b.aD.length<32):
  X4 (A0O full c T).b n∧(A0O full c T).outs.length≤T.outs.length+3200001∧(A0O full c T).aT.length≤T.aT.length+3200001∧(∀y∈(A0O full c T).b.aB,y∈T.b.aB∧∀s,ofS c T.b.aD=some s→y.aD≠s.id)∧(ofS c (A0O full c T).b.aD=none→(A0O full c T).b.aD.length<32)∧(∀s',ofS c (A0O full c T).b.aD=some s'→∃s,ofS c T.b.aD=some s∧s.id=s'.id):=by
 unfold A0O
 cases ho:ofS c T.b.aD with
 |none=>
  exact⟨h,J9 _ _,J9 _ _,fun y hy=>⟨hy,fun s hs=>(by cases hs)⟩,fun _=>eK ho,fun s' af=>(by rw[ho] at af;cases af)⟩
 |some s=>
  have lG:s∈T.b.aD:=H2 ho
  have tq:s.aC=c:=by simpa using M0 ho
  obtain⟨k1,k2,k3,k4,k5,k6,k7⟩:=C0K (full:=full) (s:=s) h.toj7 bU
  simp only
  refine⟨h.sub k1 k5 k6 k7,k2,k3,fun y hy=>?_,fun ay=>?_,fun s' af=>⟨s,rfl,?_⟩⟩
  ·rw[k4] at hy
   obtain⟨h1,h2⟩:=D9.1 hy
   exact⟨h1,fun s' af=>by cases af;simpa using h2⟩
  ·refine Nat.lt_of_not_le fun qM=>?_
   have hl:=k6.length_le
   simp only[C1] at hl
   have:=h.n32
   have he:(A28 full s T).b.aD.map A2x=T.b.aD.map A2x:=k6.eq_of_length (by simp only[C1];omega)
   have hm:A2x s∈(A28 full s T).b.aD.map A2x:=by rw[he];exact B3 lG
   obtain⟨s',af,hk⟩:=E4.1 hm
   have:=E8.1 ay s' af
   have e2:s'.aC=c:=by rw[←tq];exact congrArg Prod.snd hk
   exact this (by simpa using e2)
  ·have h3:s'∈(A28 full s T).b.aD:=H2 af
   have h4:s'.aC=c:=by simpa using M0 af
   obtain⟨s0,h5,h6⟩:=E4.1 (k6.subset (B3 h3))
   have h7:s0=s:=A8U (f:=(·.aC)) h.eB h5 lG ((congrArg Prod.snd h6).trans (h4.trans tq.symm))
   rw[←h7];exact congrArg Prod.fst h6
theorem X4.s2k{B:Z0}{n:Nat}(h:X4 B n):B.aH.length≤2048:=by
 have key:∀(ids:List Int) (E:List Ent),(∀e∈E,e.1∈ids)→(∀i,A1e E i≤64)→E.length≤64*ids.length:=by
  intro ids
  induction ids with
  |nil=>
   intro E hE _
   cases E with
   |nil=>simp
   |cons e E=>cases hE e (B4 ..)
  |cons i ids ih=>
   intro E hE hc
   have h1:=ih (E.filter fun e=> !decide (e.1=i)) (fun e he=>by
    obtain⟨h1,h2⟩:=D9.1 he
    rcases D2.1 (hE e h1) with h3|h3
    ·simp[h3] at h2
    ·exact h3) (fun j=>C7 (B6T I4 j) (hc j))
   have h2:E.length=(E.filter fun e=>decide (e.1=i)).length+(E.filter fun e=> !decide (e.1=i)).length:=by
    clear hE hc h1
    induction E with
    |nil=>rfl
    |cons e E ihE=>
     by_cases he:e.1=i
     ·rw[G9 (by simpa using he),F9 (by simpa using he),B7,B7,ihE];omega
     ·rw[F9 (by simpa using he),G9 (by simpa using he),B7,B7,ihE];omega
   have h3:(E.filter fun e=>decide (e.1=i)).length=A1e E i:=by
    unfold A1e
    rw[List.count_eq_countP,List.countP_map,List.countP_eq_length_filter]
    congr 1
   have:=hc i
   rw[B7]
   omega
 have h1:=key (B.aD.map (·.id)) B.aH (fun e he=>by
  obtain⟨s,hs,hi⟩:=h.live e he
  exact hi▸B3 hs) h.eT
 rw[C1] at h1
 have:=h.n32
 omega
theorem C39{k:Int}{f:V7→V7}{A:List V7}{x:V7}(h:x∈X7 k f A):(x∈A∧x.id≠k)∨∃s∈A,s.id=k∧x=f s:=by
 unfold X7 at h
 obtain⟨s,hs,rfl⟩:=E4.1 h
 split
 ·exact .inr ⟨s,hs,by assumption,rfl⟩
 ·exact .inl ⟨hs,by assumption⟩
theorem C3r{C:List Y6}{x:Y6}(h1:∀id:Int,(C.filter fun y=>decide (y.aD=id)).length≤1)(h2:∀y∈C,y.aD≠x.aD)(id:Int):((C++[x]).filter fun y=>decide (y.aD=id)).length≤1:=by
 rw[F2,B5]
 by_cases e:x.aD=id
 ·subst e
  have:C.filter (fun y=>decide (y.aD=x.aD))=[]:=J0.2 fun y hy=>by simpa using h2 y hy
  rw[this]
  simp
 ·have:[x].filter (fun y=>decide (y.aD=id))=[]:=J0.2 fun y hy=>by rw[B8.1 hy];simpa using e
  rw[this]
  simpa using h1 id
theorem C7J{B:Z0}{n:Nat}{s':V7}{x:Y6}{aN:Bool}(h:X4 B n)(hs:s'∈B.aD)(hc:∀y∈B.aB,y.aD≠s'.id)(hx:x.aD=s'.id)(hw:x.aX.1.size≤9223372036854775807∧ -9223372036854775808≤x.c∧x.c≤9223372036854775807):
  X4 ⟨B.last,X7 s'.id (fun s=>{s with on:=true,aN:=aN}) B.aD,B.aH,B.kept,B.aB++[x]⟩ (n+1) where
 aH:=h.aH
 bP:=fun s hs=>by
  rcases A3i hs with hs|⟨s1,h1,_,rfl⟩
  ·exact h.bP s hs
  ·exact h.bP s1 h1
 live:=fun e he=>A3j (f:=fun s=>{s with on:=true,aN:=aN}) (fun _=>rfl) (h.live e he)
 one:=C3r h.one (fun y hy=>by rw[hx];exact hc y hy)
 nd:=by
  show((X7 s'.id (fun s=>{s with on:=true,aN:=aN}) B.aD).map (·.id)).Nodup
  rw[A6H (f:=fun s=>{s with on:=true,aN:=aN}) fun _=>rfl];exact h.nd
 cl:=fun y hy=>A3j (f:=fun s=>{s with on:=true,aN:=aN}) (fun _=>rfl) (by
  rcases C9.1 hy with hy|hy
  ·exact h.cl y hy
  ·rw[B8.1 hy];exact⟨s',hs,hx.symm⟩)
 dR:=fun y hy s ae e=>by
  rcases C39 ae with⟨h1,h2⟩|⟨s1,h1,h2,rfl⟩
  ·rcases C9.1 hy with hy|hy
   ·exact h.dR y hy s h1 e
   ·rw[B8.1 hy,hx] at e;exact absurd e h2
  ·rfl
 wl:=fun y hy=>by
  rcases C9.1 hy with hy|hy
  ·exact h.wl y hy
  ·rw[B8.1 hy];exact hw
 cX:=h.cX
 cL:=by have:=h.cL;simp only;omega
 dW:=fun s hs=>by
  rcases A3i hs with hs|⟨s1,h1,_,rfl⟩
  ·exact h.dW s hs
  ·exact h.dW s1 h1
 dF:=by
  show((X7 s'.id (fun s=>{s with on:=true,aN:=aN}) B.aD).map (·.id)).Pairwise (·< ·)
  rw[A6H (f:=fun s=>{s with on:=true,aN:=aN}) fun _=>rfl];exact h.dF
 eB:=by
  have e:(X7 s'.id (fun s=>{s with on:=true,aN:=aN}) B.aD).map (·.aC)=B.aD.map (·.aC):=by
   have h1:=congrArg (List.map Prod.snd) (B1f (k:=s'.id) (f:=fun s=>{s with on:=true,aN:=aN}) (fun _=>rfl) B.aD)
   rw[F1,F1] at h1
   exact h1
  show((X7 s'.id (fun s=>{s with on:=true,aN:=aN}) B.aD).map (·.aC)).Nodup
  rw[e];exact h.eB
 n32:=by
  show(X7 s'.id (fun s=>{s with on:=true,aN:=aN}) B.aD).length≤32
  unfold X7;rw[C1];exact h.n32
 eT:=h.eT
theorem C5X{B:Z0}{n:Nat}{A:List V7}{E:List Ent}{x:Y6}{aC:B38}{aN:Bool}(h:X4 B n)(hA:A.Sublist B.aD)(hE:E.Sublist B.aH)(hl:∀e∈E,∃s∈A,s.id=e.1)(hc:∀y∈B.aB,∃s∈A,s.id=y.aD)(hn:∀s∈A,s.aC≠aC)(eK:A.length<32)
  (hx:x.aD=B.last+1)(hw:x.aX.1.size≤9223372036854775807∧ -9223372036854775808≤x.c∧x.c≤9223372036854775807):X4 ⟨B.last+1,A++[A2v (B.last+1) aC aN],E,B.kept,B.aB++[x]⟩ (n+1):=by
 have ah:∀s∈A,s.id<B.last+1:=fun s hs=>by have:=(h.dW s (hA.subset hs)).2;omega
 have gK:∀{s},s∈A++[A2v (B.last+1) aC aN]→s∈A∨s=A2v (B.last+1) aC aN:=fun hs=>by
  rcases C9.1 hs with hs|hs
  ·exact .inl hs
  ·exact .inr (B8.1 hs)
 refine{aH:=C7 hE.length_le h.aH,bP:=fun s hs=>?_,live:=fun e he=>?_,one:=C3r h.one (fun y hy=>?_),nd:=?_,cl:=fun y hy=>?_,dR:=fun y hy s hs e=>?_,wl:=fun y hy=>?_,cX:=by have:=h.cX;simp only;omega,cL:=by have:=h.cL;simp only;omega,dW:=fun s hs=>?_,dF:=?_,eB:=?_,n32:=by rw[B5];exact eK,eT:=fun i=>C7 (B6T hE i) (h.eT i)}
 ·rcases gK hs with hs|rfl
  ·exact h.bP s (hA.subset hs)
  ·exact X0.new
 ·obtain⟨s,hs,hi⟩:=hl e he
  exact⟨s,K9 _ hs,hi⟩
 ·obtain⟨s,hs,hi⟩:=hc y hy
  have:=ah s hs
  omega
 ·show((A++[A2v (B.last+1) aC aN]).map (·.id)).Nodup
  rw[C0,G1]
  refine⟨h.nd.sublist (hA.map _),by simp,fun a ha b hb=>?_⟩
  obtain⟨s,hs,rfl⟩:=E4.1 ha
  have:=ah s hs
  rw[B6,I3,B8] at hb
  rw[hb]
  show s.id≠B.last+1
  omega
 ·rcases C9.1 hy with hy|hy
  ·obtain⟨s,hs,hi⟩:=hc y hy
   exact⟨s,K9 _ hs,hi⟩
  ·rw[B8.1 hy];exact⟨A2v (B.last+1) aC aN,G6 _ (B8.2 rfl),hx.symm⟩
 ·rcases gK hs with hs|rfl
  ·rcases C9.1 hy with hy|hy
   ·exact h.dR y hy s (hA.subset hs) e
   ·rw[B8.1 hy] at e
    have:=ah s hs
    omega
  ·rfl
 ·rcases C9.1 hy with hy|hy
  ·exact h.wl y hy
  ·rw[B8.1 hy];exact hw
 ·rcases gK hs with hs|rfl
  ·have:=h.dW s (hA.subset hs);simp only;omega
  ·have:=h.cX;show 1≤B.last+1∧B.last+1≤B.last+1;omega
 ·show((A++[A2v (B.last+1) aC aN]).map (·.id)).Pairwise (·< ·)
  rw[C0,I7]
  refine⟨h.dF.sublist (hA.map _),by simp,fun a ha b hb=>?_⟩
  obtain⟨s,hs,rfl⟩:=E4.1 ha
  have:=ah s hs
  rw[B6,I3,B8] at hb
  rw[hb]
  exact this
 ·show((A++[A2v (B.last+1) aC aN]).map (·.aC)).Nodup
  rw[C0,G1]
  refine⟨h.eB.sublist (hA.map _),by simp,fun a ha b hb=>?_⟩
  obtain⟨s,hs,rfl⟩:=E4.1 ha
  rw[B6,I3,B8] at hb
  rw[hb]
  exact hn s hs
def A1Z(o:Option V7)(k:Int)(E:List Ent):List Ent:=match o with
 |some s=>if s.id≠k then A1l s.id E else E
 |none=>E
theorem B61{B:Z0}{n:Nat}{o:Option V7}{aC:B38}{clean aN:Bool}{x:Y6}(h:X4 B n)(ho:∀s',ofS aC B.aD=some s'→∃s,o=some s∧s.id=s'.id)(hc:∀y∈B.aB,∀s,o=some s→y.aD≠s.id)(eK:ofS aC B.aD=none→B.aD.length<32)
  (hx:x.aD=(b9 aC clean aN B).1.1)(hw:x.aX.1.size≤9223372036854775807∧ -9223372036854775808≤x.c∧x.c≤9223372036854775807):
  X4 ⟨(b9 aC clean aN B).2.last,(b9 aC clean aN B).2.aD,A1Z o (b9 aC clean aN B).1.1 B.aH,B.kept,B.aB++[x]⟩ (n+1)∧∃s∈(b9 aC clean aN B).2.aD,s.id=(b9 aC clean aN B).1.1:=by
 have iH:∀k (E:List Ent),(A1l k E).Sublist E:=fun k E=>I4
 unfold b9 at hx⊢
 cases hg:ofS aC B.aD with
 |none=>
  rw[hg] at hx
  have ay:∀s∈B.aD,s.aC≠aC:=fun s hs=>by simpa using E8.1 hg s hs
  have bf:(A1Z o (B.last+1) B.aH).Sublist B.aH:=by
   unfold A1Z;split
   ·split
    ·exact iH _ _
    ·exact G5 _
   ·exact G5 _
  exact⟨C5X h (G5 _) bf (fun e he=>h.live e (bf.subset he)) h.cl ay (eK hg) hx hw,A2v (B.last+1) aC aN,G6 _ (B8.2 rfl),rfl⟩
 |some s'=>
  obtain⟨s,rfl,hid⟩:=ho s' hg
  have hm:s'∈B.aD:=H2 hg
  have bd:s'.aC=aC:=by simpa using M0 hg
  have qY:∀y∈B.aB,y.aD≠s'.id:=fun y hy=>by rw[←hid];exact hc y hy s rfl
  rw[hg] at hx
  simp only at hx⊢
  by_cases bU:clean=false
  ·rw[if_pos bU] at hx⊢
   have e:A1Z (some s) s'.id B.aH=B.aH:=by unfold A1Z;simp[hid]
   simp only[e]
   exact⟨C7J h hm qY hx hw,A3j (f:=fun s=>{s with on:=true,aN:=aN}) (fun _=>rfl) ⟨s',hm,rfl⟩⟩
  ·rw[if_neg bU] at hx⊢
   have bF:s.id≠B.last+1:=by have:=(h.dW s' hm).2;omega
   have e:A1Z (some s) (B.last+1) B.aH=A1l s'.id B.aH:=by
    show(if s.id≠B.last+1 then A1l s.id B.aH else B.aH)=_
    rw[if_pos bF,hid]
   simp only[e]
   have eA:∀{i},i≠s'.id→(∃s∈B.aD,s.id=i)→∃s∈B.aD.filter (fun x=>decide (x.id≠s'.id)),s.id=i:=fun hi ⟨s1,h1,h2⟩=>⟨s1,D9.2 ⟨h1,by rw[h2];simpa using hi⟩,h2⟩
   have ah:(B.aD.filter fun x=>decide (x.id≠s'.id)).length<B.aD.length:=by
    refine Nat.lt_of_le_of_ne (D3 _ _) fun e=>?_
    have:=N7.1 e s' hm
    simp at this
   refine⟨C5X h I4 (iH _ _) (fun e he=>?_) (fun y hy=>eA (qY y hy) (h.cl y hy)) (fun s1 aa e1=>?_) (Nat.lt_of_lt_of_le ah h.n32) hx hw,A2v (B.last+1) aC aN,G6 _ (B8.2 rfl),rfl⟩
   ·obtain⟨h1,h2⟩:=D9.1 he
    exact eA (by simpa using h2) (h.live e h1)
   ·obtain⟨h1,h2⟩:=D9.1 aa
    have:=A8U (f:=(·.aC)) h.eB h1 hm (e1.trans bd.symm)
    subst this
    simp at h2
theorem A3X{full:Bool}{c:Int}{p:PkI}{T:V0}:C2m full c p T=A0F (b9 p.aC p.clean (A0c p.props) (A0O full p.aC T).b).1.1 (fun o=>A0s o (A1X p.props)) (A0A ⟨c,A2a (b9 p.aC p.clean (A0c p.props) (A0O full p.aC T).b).1.2,false⟩
  (tB ⟨(b9 p.aC p.clean (A0c p.props) (A0O full p.aC T).b).2.last,(b9 p.aC p.clean (A0c p.props) (A0O full p.aC T).b).2.aD,A1Z (ofS p.aC T.b.aD) (b9 p.aC p.clean (A0c p.props) (A0O full p.aC T).b).1.1 (b9 p.aC p.clean (A0c p.props) (A0O full p.aC T).b).2.aH,
   (b9 p.aC p.clean (A0c p.props) (A0O full p.aC T).b).2.kept,(b9 p.aC p.clean (A0c p.props) (A0O full p.aC T).b).2.aB++[⟨c,(b9 p.aC p.clean (A0c p.props) (A0O full p.aC T).b).1.1,p.bE,(p.aX.1,p.aX.2.1,p.aX.2.2.1,p.aX.2.2.2.1,e0S)⟩]⟩ (A0O full p.aC T))):=by
 unfold C2m A0O A1Z
 cases ofS p.aC T.b.aD with
 |none=>rfl
 |some s=>simp only;split<;>rfl
variable {h h0:Heap} {L L' L1 L2 L3 R:List Asn} {Q:Value→Heap→Prop}
theorem C7S{γ β:Type}{x y:HM β}{Q':β→Heap→Prop}{P:γ→List Asn}{REST:γ→HM β}(h1:(∀g,W (P g) (REST g) Q')→W L x Q')(h2:(∀g,W (P g) (REST g) Q')→W L y Q')(ht:∀g,W (P g) (REST g) Q'):W L (A0L x y) Q':=A79 (h1 ht) (h2 ht)
theorem B8h{B:Z0}(h:j7 B){z:Y6}{i:Int}(hz:z∈B.aB)(hi:z.aD=i):B.aB.find? (fun x=>decide (x.aD=i))=some z:=by
 cases hg:B.aB.find? (fun x=>decide (x.aD=i)) with
 |none=>exact absurd hi (by simpa using E8.1 hg z hz)
 |some x=>
  have h1:=h.one i
  have m1:x∈B.aB.filter (fun y=>decide (y.aD=i)):=D9.2 ⟨H2 hg,by simpa using M0 hg⟩
  have m2:z∈B.aB.filter (fun y=>decide (y.aD=i)):=D9.2 ⟨hz,by simpa using hi⟩
  generalize B.aB.filter (fun y=>decide (y.aD=i))=k at h1 m1 m2
  match k,h1 with
  |[],_=>cases m1
  |[w],_=>rw[B8.1 m1,B8.1 m2]
theorem B8B{B:Z0}{c:B38}{clean aN:Bool}(hg:b6 c)(eK:ofS c B.aD=none→B.aD.length<32):
  y8 B.last B.aD c clean aN=((0,(b9 c clean aN B).1.1,(b9 c clean aN B).1.2),(b9 c clean aN B).2.last,(b9 c clean aN B).2.aD)∧(b9 c clean aN B).2.aH=B.aH∧(b9 c clean aN B).2.kept=B.kept∧(b9 c clean aN B).2.aB=B.aB:=by
 unfold y8 b9
 rw[if_neg (fun e=>e hg)]
 cases ho:ofS c B.aD with
 |none=>rw[ho] at eK;simp[Nat.not_le.2 (eK rfl)]
 |some s=>cases clean<;>simp
theorem C0O(l:List q9):decide (0<((A0Z 17 l).getD (0,0,e0S,e0S)).2.1)=A0c l:=by
 unfold A0c
 cases A0Z 17 l<;>rfl
abbrev A0r(p:Pk):Slc:=p.2.2.2.2.2.2.2.2.2.1
theorem C4X{t b n:Nat}{full:Bool}{T:V0}{c:Int}{p:Pk}{pl:List q9}{sl:List A0G}{fl:List B38}(ht:TP h0)(ag:X4 T.b n)(hn:n≤1000000)(im:A1E c T.b.aB=none)(bO: -9223372036854775808≤c∧c≤9223372036854775807)(hb:T.outs.length≤10000000)(hp:T.aT.length≤100000000)
  (bd:(p.2.2.2.2.2.2.2.2.2.2.1).size≤9223372036854775807)(uV:(p.2.2.2.2.2.2.2.2.2.2.2.2.2.2.1).size≤9223372036854775807)(fu:pl.length≤1000)
  (hq:At (X8 t b full (A1m full c (pkI p pl sl fl) T)::old h0::L3) (Q (.tuple #[])))(hx:Has L (X8 t b full T) L1:=by repeat first|with_reducible exact V1|apply V3)(hy:Has L1 (old h0) L2:=by repeat first|with_reducible exact V1|apply V3)(hz:Has L2 (U6 X1 4 (A0r p) pl) L3:=by repeat first|with_reducible exact V1|apply V3):
  FW prog 33 #[at0 t,.int .i64 c,A2z .u8 p] L Q:=by
 refine fun h hs=>A5A (some ⟨t,0,none⟩) c p h Q ((?_:W (X8 t b full T::old h0::U6 X1 4 (A0r p) pl::L3) _ _) h ((hx.cU hy hz).s hs))
 clear hs h hx hy hz
 delta A4G ad bn cc ci cp cu cx ie jb jc ji jt kb ki km kp kt nn nw pu rq sn sw ve vi vs vz
 refine Y2 fun x1=>?_
 refine W5 ?_
 refine A6u (fun h R=>p6) fun so sp q=>?_
 refine Z1 (fun h R hs=>B42 (m:=q.cm) (l:=T.b.aB) hs) fun bU=>?_
 refine W.load (v:=some ⟨b,0,none⟩) ?_
 refine W5 ?_
 refine W.load (v:=some ⟨q.tb,0,none⟩) ?_
 refine W.load (v:=p.2.2.2.2.2.2.2.2.2.2.1) ?_
 apply C7S (γ:=Nat) (P:=fun x8=>X8 t b full T::cells x8 (lS9 (A4i ((ofS (p.2.2.2.2.2.2.2.2.2.2.1) T.b.aD).map A08)).1).toArray::cells x1 (aS3 p)::old h0::U6 X1 4 (A0r p) pl::L3)
 case h1=>
  intro tail
  refine Z3 (C3g (b:=q.tb) (A:=T.b.aD) (c:=p.2.2.2.2.2.2.2.2.2.2.1) ag.eB (At.bD (x:=A4i ((ofS (p.2.2.2.2.2.2.2.2.2.2.1) T.b.aD).map A08)) ?_))
  refine Y2 fun x8=>?_
  refine W.load (v:=p.2.2.2.2.2.2.2.2.2.2.1) ?_
  refine A1p ?_ rfl
  refine W.load (v:=some ⟨q.tb,0,none⟩) ?_
  refine A1p ?_ rfl
  refine W.load (v:=some ⟨b,0,none⟩) ?_
  refine A1p ?_ rfl
  refine A0n ?_
  refine W.bI T so sp q ?_
  exact(tail x8).sub
 case h2=>
  intro tail
  refine Y2 fun x8=>?_
  refine W.load (v:=p.2.2.2.2.2.2.2.2.2.2.1) ?_
  refine A1p ?_ rfl
  refine W.load (v:=some ⟨q.tb,0,none⟩) ?_
  refine A1p ?_ rfl
  refine W.load (v:=some ⟨b,0,none⟩) ?_
  refine A1p ?_ rfl
  refine Z3 (C3g (b:=q.tb) (A:=T.b.aD) (c:=p.2.2.2.2.2.2.2.2.2.2.1) ag.eB (At.bD (x:=A4i ((ofS (p.2.2.2.2.2.2.2.2.2.2.1) T.b.aD).map A08)) ?_))
  refine A0n ?_
  refine W.bI T so sp q ?_
  exact(tail x8).sub
 case ht=>
  intro x8
  refine j2 (C5B (fun b2=>At.un (x:=some ⟨b2,0,none⟩) ?_))
  refine W.load (v:=p.2.2.2.2.2.2.2.2.2.2.1) ?_
  refine Z3 (B99 (b:=b2) (last:=0) (A:=[]) (c:=p.2.2.2.2.2.2.2.2.2.2.1) (clean:=false) (aN:=false) ht.u8 bd (S8 _) (by decide) (by simp) (by simp) (At.bD (x:=((y8 0 [] (p.2.2.2.2.2.2.2.2.2.2.1) false false).1.2.1,(y8 0 [] (p.2.2.2.2.2.2.2.2.2.2.1) false false).1.2.2,(y8 0 [] (p.2.2.2.2.2.2.2.2.2.2.1) false false).1.1,())) ?_))
  have kh:(y8 0 [] (p.2.2.2.2.2.2.2.2.2.2.1) false false).1.1=if b6 (p.2.2.2.2.2.2.2.2.2.2.1) then 0 else 133:=by
   unfold y8
   by_cases hg:b6 (p.2.2.2.2.2.2.2.2.2.2.1)
   ·simp[hg,ofS]
   ·simp[hg]
  generalize(y8 0 [] (p.2.2.2.2.2.2.2.2.2.2.1) false false).1.1=code0 at kh⊢
  refine A1g (fun r=>r.1=(p.2.2.2.2.2.2.2.2.2.2.2.2.2.1&& !Z6 (p.2.2.2.2.2.2.2.2.2.2.2.2.2.2.1))) (fun K hK=>?_) (fun r hr=>?_)
  ·refine W.load (v:=p.2.2.2.2.2.2.2.2.2.2.2.2.2.1) ?_
   refine A0l (fun h3=>?_) (fun h3=>?_)
   ·refine j4 (b:=x1) (i:=14) (v:=p.2.2.2.2.2.2.2.2.2.2.2.2.2.2.1) ?_
    refine j2 (B4h ht uV (At.un ?_))
    refine U3 (At.sub (hK _ ?_))
    simp only[h3,G4]
    unfold A2X
    cases Z6 (p.2.2.2.2.2.2.2.2.2.2.2.2.2.2.1)<;>rfl
   ·refine U3 (hK _ ?_)
    simp[h3]
  obtain⟨r,_⟩:=r
  simp only at hr
  subst hr
  refine A1g (fun r=>r.1=A6t (pkI p pl sl fl) T.b) (fun K hK=>?_) (fun r hr=>?_)
  ·refine A0l (fun h1=>U3 (hK _ ?_)) (fun h1=>?_)
   ·unfold A6t
    rw[if_pos (by simpa using h1)]
   have fB:=fun a e=>hK a e
   unfold A6t at fB
   rw[if_neg (by simpa using h1)] at fB
   refine W5 ?_
   refine A6u (fun h R=>p6) fun gg iC q2=>?_
   refine W.load (v:=some ⟨b,0,none⟩) ?_
   refine W5 ?_
   refine W.load (v:=some q2.cm) ?_
   refine C6Q (r:=q2.cm) (l:=T.b.aB.map A0j) ?_
   refine C89 (fun h2=>?_) (fun h2=>?_)
   ·rw[if_pos (by simp only[C1,decide_eq_true_eq] at h2;omega)] at fB
    refine b7 (U3 ?_)
    refine At.bI T gg iC q2 ?_
    exact(fB (151,()) rfl).sub
   ·rw[if_neg (by simp only[C1,decide_eq_false_iff_not] at h2;omega)] at fB
    refine X3 ?_
    refine C89 (fun h4=>?_) (fun h4=>?_)
    ·have hg:¬b6 (p.2.2.2.2.2.2.2.2.2.2.1):=fun hg=>by rw[kh,if_pos hg] at h4;exact absurd h4 (by decide)
     rw[if_pos hg] at fB
     refine b7 (b7 (U3 ?_))
     refine At.bI T gg iC q2 ?_
     exact(fB (code0,()) (by rw[kh,if_neg hg])).sub
    ·have hg:b6 (p.2.2.2.2.2.2.2.2.2.2.1):=O2 fun hg=>by rw[kh,if_neg hg] at h4;exact absurd h4 (by decide)
     rw[if_neg (fun e=>e hg)] at fB
     refine X3 ?_
     cases ho:ofS (p.2.2.2.2.2.2.2.2.2.2.1) T.b.aD with
     |some s=>
      rw[if_neg (by simp[ho])] at fB
      refine o5 rfl (b7 ?_)
      refine o5 rfl ?_
      refine b7 (b7 (b7 (U3 ?_)))
      refine At.bI T gg iC q2 ?_
      rw[ho] at fB
      exact(fB (0,()) rfl).sub
     |none=>
      refine A1o rfl ?_
      refine X3 (W5 ?_)
      refine X3 (W.load (v:=some ⟨b,0,none⟩) ?_)
      refine X3 (W5 ?_)
      refine X3 (W.load (v:=some ⟨q2.tb,0,none⟩) ?_)
      refine X3 (j2 (C7k (b:=q2.tb) (A:=T.b.aD) (by have:=ag.cL;omega) (fun s hs=>⟨by have:=(ag.dW s hs).1;omega,(ag.dW s hs).2⟩) ag.n32 ag.dF (fun S=>At.un (x:=S) ?_)))
      refine Z1 (X5 (enc:=C2F) (size:=4) (s:=S) (xs:=T.b.aD.map A08)) fun hl=>?_
      rw[C1] at hl
      refine b7 ?_
      rw[ho] at fB
      by_cases eK:32≤T.b.aD.length
      ·rw[if_pos ⟨rfl,eK⟩] at fB
       refine A1o (by rw[hl];exact decide_eq_true (by omega)) ?_
       refine b7 (b7 (b7 (U3 ?_)))
       refine At.bI T gg iC q2 ?_
       exact(fB (151,()) rfl).sub
      ·rw[if_neg (fun e=>eK e.2)] at fB
       refine o5 (by rw[hl];exact decide_eq_false (by omega)) ?_
       refine b7 (b7 (b7 (U3 ?_)))
       refine At.bI T gg iC q2 ?_
       exact(fB (0,()) rfl).sub
  obtain⟨code,_⟩:=r
  simp only at hr
  unfold A1m at hq
  by_cases av:code=0
  ·refine W8 (by simp[av]) ?_
   rw[if_neg (by rw[←hr];simpa using av)] at hq
   obtain⟨T1,bR⟩:∃T1,T1=A0O full (p.2.2.2.2.2.2.2.2.2.2.1) T:=⟨_,rfl⟩
   refine A1g (fun r=>r.1=match ofS (p.2.2.2.2.2.2.2.2.2.2.1) T.b.aD with|some s=>s.on|none=>false) (fun K hK=>?_) (fun r ck=>?_)
   ·cases ho:ofS (p.2.2.2.2.2.2.2.2.2.2.1) T.b.aD with
    |none=>rw[ho] at hK;exact W8 rfl (U3 (hK _ rfl))
    |some s=>rw[ho] at hK;exact Y4 rfl (W.load (v:=s.on) (U3 (hK _ rfl)))
   obtain⟨r,_⟩:=r
   simp only at ck
   refine W.cut (fun _=>X8 t b full T1::cells x8 (lS9 (A4i ((ofS (p.2.2.2.2.2.2.2.2.2.2.1) T.b.aD).map A08)).1).toArray::cells x1 (aS3 p)::old h0::U6 X1 4 (A0r p) pl::L3) (fun K hK=>?_) (fun _=>?_)
   ·clear hq
    unfold A0O at bR
    cases ho:ofS (p.2.2.2.2.2.2.2.2.2.2.1) T.b.aD with
    |none=>
     rw[ho] at bR ck hK
     simp only at bR ck
     subst bR ck
     exact W8 rfl (U3 (hK ()).sub)
    |some s=>
     rw[ho] at bR ck hK
     simp only at bR ck
     subst ck
     by_cases aP:s.on=true
     ·refine Y4 aP ?_
      refine W5 ?_
      refine A6u (fun h R=>p6) fun fE fD q3=>?_
      refine W.load (v:=some ⟨b,0,none⟩) ?_
      refine W5 ?_
      refine W.load (v:=some q3.cm) ?_
      refine W.range fun it=>?_
      refine C7O (ek:=eKI) (ev:=eVC) (r:=q3.cm) (l:=T.b.aB.map A0j) (fun done _=>done.filter (fun x=>decide (x.2.1=s.id))=[])
       (fun done _=>[cells t #[at0 b,.bool full,.slice fE.a fE.len fE.cap,.slice fD.a fD.len fD.cap],W0 .u8 fE T.outs,U6 Z7 5 fD T.aT,cells b (A75 q3),A1q q3.tb T.b.last T.b.aD,j8 q3.sb T.b.aH,A1x q3.kb T.b.kept,
        cells x8 (lS9 (A4i ((some s).map A08)).1).toArray,cells x1 (aS3 p),old h0,U6 X1 4 (A0r p) pl]++L3) rfl ?_ (fun done s' hd tD K' hk=>?_) (fun done y rest s' hd tD K' bu hk=>?_)
      ·show Sub _ (itA eKI eVC q3.cm (T.b.aB.map A0j) it [] (T.b.aB.map A0j)::cells t #[at0 b,.bool full,.slice fE.a fE.len fE.cap,.slice fD.a fD.len fD.cap]::W0 .u8 fE T.outs::U6 Z7 5 fD T.aT::cells b (A75 q3)::A1q q3.tb T.b.last T.b.aD::j8 q3.sb T.b.aH::A1x q3.kb T.b.kept::cells x8 (lS9 (A4i ((some s).map A08)).1).toArray::cells x1 (aS3 p)::old h0::U6 X1 4 (A0r p) pl::L3)
       repeat(first|with_reducible exact T7|with_reducible exact T8|refine U0 (by repeat first|with_reducible exact V1|apply V3) ?_|refine U1 ?_)
      ·have ay:T.b.aB.find? (fun x=>decide (x.aD=s.id))=none:=E8.2 fun x hx=>by
        have hm:A0j x∈done:=hd.mem_iff.2 (B3 hx)
        have:=J0.1 tD _ hm
        simpa using this
       have e:T1=T:=by rw[bR];unfold A28;rw[ay]
       subst e
       refine W8 rfl (U3 (hk () _ (U3 ?_)))
       show At (mapA eKI eVC q3.cm (T1.b.aB.map A0j)::cells t #[at0 b,.bool full,.slice fE.a fE.len fE.cap,.slice fD.a fD.len fD.cap]::W0 .u8 fE T1.outs::U6 Z7 5 fD T1.aT::cells b (A75 q3)::A1q q3.tb T1.b.last T1.b.aD::j8 q3.sb T1.b.aH::A1x q3.kb T1.b.kept::_::cells x1 (aS3 p)::old h0::U6 X1 4 (A0r p) pl::L3) _
       refine At.bI T1 fE fD q3 ?_
       exact(hK ()).sub
      ·show W (itA eKI eVC q3.cm (T.b.aB.map A0j) it (done++[y]) rest::cells t #[at0 b,.bool full,.slice fE.a fE.len fE.cap,.slice fD.a fD.len fD.cap]::W0 .u8 fE T.outs::U6 Z7 5 fD T.aT::cells b (A75 q3)::A1q q3.tb T.b.last T.b.aD::j8 q3.sb T.b.aH::A1x q3.kb T.b.kept::cells x8 (lS9 (A4i ((some s).map A08)).1).toArray::cells x1 (aS3 p)::old h0::U6 X1 4 (A0r p) pl::L3) _ _
       refine Y4 rfl ?_
       refine W.entry (x:=y.1) (y:=y.2) ?_
       refine Y2 fun oD=>?_
       refine A0n ?_
       refine W.load (b:=oD) (v:=y.2.1) ?_
       refine W.load (b:=x8) (v:=s.id) ?_
       by_cases hy:y.2.1=s.id
       ·refine Y4 (by simpa using hy) ?_
        have wT:y∈T.b.aB.map A0j:=hd.mem_iff.1 (G6 _ (B4 ..))
        obtain⟨z,hz,rfl⟩:=E4.1 wT
        have e:T1=A0C full z.c 142 T:=by rw[bR];unfold A28;rw[B8h ag.toj7 hz hy]
        subst e
        refine B9R (A:=itA eKI eVC q3.cm (T.b.aB.map A0j) it (done++[A0j z]) rest) (B:=mapA eKI eVC q3.cm (T.b.aB.map A0j)) (fun h R hs=>A9u hs) ?_
        refine W.bI T fE fD q3 ?_
        refine Z3 (A8O (T:=T) (c:=z.c) (code:=142) ht ag.toj7 (by omega) (by omega) (At.bD ?_))
        exact U3 (hk () _ (U3 (hK ()).sub))
       ·refine W8 (by simpa using hy) ?_
        have kV:=bu () (by rw[F2,tD,F9 (by simpa using hy)];rfl)
        refine U3 (At.sub kV ?_)
        show Sub _ (itA eKI eVC q3.cm (T.b.aB.map A0j) it (done++[y]) rest::cells t #[at0 b,.bool full,.slice fE.a fE.len fE.cap,.slice fD.a fD.len fD.cap]::W0 .u8 fE T.outs::U6 Z7 5 fD T.aT::cells b (A75 q3)::A1q q3.tb T.b.last T.b.aD::j8 q3.sb T.b.aH::A1x q3.kb T.b.kept::cells x8 (lS9 (A4i ((some s).map A08)).1).toArray::cells x1 (aS3 p)::old h0::U6 X1 4 (A0r p) pl::L3)
        repeat(first|with_reducible exact T7|with_reducible exact T8|refine U0 (by repeat first|with_reducible exact V1|apply V3) ?_|refine U1 ?_)
     ·have e:T1=T:=by
       rw[bR];unfold A28
       rw[E8.2 fun x hx=>?_]
       intro dJ
       have dJ:x.aD=s.id:=by simpa using dJ
       exact aP (ag.dR x hx s (B1Q ho).1 dJ.symm)
      subst e
      exact W8 (by simpa using aP) (U3 (hK ()).sub)
   have gv:b6 (p.2.2.2.2.2.2.2.2.2.2.1)∧(ofS (p.2.2.2.2.2.2.2.2.2.2.1) T.b.aD=none→T.b.aD.length<32):=by
    rw[av] at hr
    unfold A6t at hr
    simp only at hr
    split at hr
    ·cases hr
    ·split at hr
     ·cases hr
     ·split at hr
      ·cases hr
      ·rename_i hg
       split at hr
       ·cases hr
       ·rename_i eK
        refine⟨O2 hg,fun ho=>?_⟩
        exact Nat.lt_of_not_le fun h=>eK ⟨ho,h⟩
   obtain⟨ej,gr,oN,iU,jj,ke⟩:=B11 (full:=full) (c:=p.2.2.2.2.2.2.2.2.2.2.1) ag bU gv.2
   rw[←bR] at ej gr oN iU jj ke
   refine W.load (v:=A0r p) ?_
   refine Z3 (C6n (S:=A0r p) (pl:=pl) (id:=17) fu (At.bD (x:=(prU ((A0Z 17 pl).getD (0,0,e0S,e0S)),(A0Z 17 pl).isSome,())) ?_))
   refine Y2 fun gx=>?_
   refine A0n ?_
   refine W5 ?_
   refine A6u (fun h R=>p6) fun sL sK q4=>?_
   refine W.load (v:=some ⟨b,0,none⟩) ?_
   refine W5 ?_
   refine W.load (v:=some ⟨q4.tb,0,none⟩) ?_
   refine W.load (v:=p.2.2.2.2.2.2.2.2.2.2.1) ?_
   refine W.load (v:=p.2.2.2.2.2.2.2.2.2.2.2.1) ?_
   refine W.load (v:=((A0Z 17 pl).getD (0,0,e0S,e0S)).2.1) ?_
   rw[C0O]
   obtain⟨oe,lq,lr,lv⟩:=B8B (B:=T1.b) (clean:=p.2.2.2.2.2.2.2.2.2.2.2.1) (aN:=A0c pl) gv.1 jj
   refine Z3 (B99 (b:=q4.tb) (last:=T1.b.last) (A:=T1.b.aD) (c:=p.2.2.2.2.2.2.2.2.2.2.1) (clean:=p.2.2.2.2.2.2.2.2.2.2.2.1) (aN:=A0c pl) ht.u8 bd ej.cX (by have:=ej.cL;omega) (fun s hs=>(ej.dW s hs).2) ej.eB (At.bD (x:=((y8 T1.b.last T1.b.aD (p.2.2.2.2.2.2.2.2.2.2.1) (p.2.2.2.2.2.2.2.2.2.2.2.1) (A0c pl)).1.2.1,(y8 T1.b.last T1.b.aD (p.2.2.2.2.2.2.2.2.2.2.1) (p.2.2.2.2.2.2.2.2.2.2.2.1) (A0c pl)).1.2.2,(y8 T1.b.last T1.b.aD (p.2.2.2.2.2.2.2.2.2.2.1) (p.2.2.2.2.2.2.2.2.2.2.2.1) (A0c pl)).1.1,())) ?_))
   have qA:A1E c T1.b.aB=none:=E8.2 fun y hy=>by
    have:=E8.1 im y (iU y hy).1
    exact this
   obtain⟨bS,s5,ai,gu⟩:=B61 (B:=T1.b) (o:=ofS (p.2.2.2.2.2.2.2.2.2.2.1) T.b.aD) (aC:=p.2.2.2.2.2.2.2.2.2.2.1) (clean:=p.2.2.2.2.2.2.2.2.2.2.2.1) (aN:=A0c pl) (x:=⟨c,(b9 (p.2.2.2.2.2.2.2.2.2.2.1) (p.2.2.2.2.2.2.2.2.2.2.2.1) (A0c pl) T1.b).1.1,p.2.2.2.2.2.2.2.2.2.2.2.2.2.1,(p.2.2.2.2.2.2.2.2.2.2.2.2.2.2.1,p.2.2.2.2.2.2.2.2.2.2.2.2.2.2.2.1,p.2.2.2.2.2.2.2.2.2.2.2.2.2.2.2.2.1,p.2.2.2.2.2.2.2.2.2.2.2.2.2.2.2.2.2.1,e0S)⟩) ej ke (fun y hy s hs=>(iU y hy).2 s hs) jj rfl ⟨uV,bO⟩
   rw[A3X] at hq
   dsimp only at hq
   rw[←bR,lq,lr,lv] at hq
   clear bR hr av ck iU jj ke gv lq lr lv im
   generalize b9 (p.2.2.2.2.2.2.2.2.2.2.1) (p.2.2.2.2.2.2.2.2.2.2.2.1) (A0c pl) T1.b=r at hq oe bS ai gu⊢
   rw[oe]
   clear oe
   dsimp only
   refine A1g (fun a=>a.1=match ofS (p.2.2.2.2.2.2.2.2.2.2.1) T.b.aD with|some s=>decide (s.id≠r.1.1)|none=>false) (fun K hK=>?_) (fun a ha=>?_)
   ·cases ho:ofS (p.2.2.2.2.2.2.2.2.2.2.1) T.b.aD with
    |none=>rw[ho] at hK;exact W8 rfl (U3 (hK _ rfl))
    |some s=>
     rw[ho] at hK
     refine Y4 rfl (W.load (v:=s.id) (U3 (hK _ ?_)))
     by_cases e:s.id=r.1.1
     ·simp[e]
     ·have e2:r.1.1≠s.id:=fun e'=>e e'.symm
      simp[e,e2]
   obtain⟨a,_⟩:=a
   simp only at ha
   refine W.cut (fun _=>X8 t b full (tB ⟨r.2.last,r.2.aD,A1Z (ofS (p.2.2.2.2.2.2.2.2.2.2.1) T.b.aD) r.1.1 T1.b.aH,T1.b.kept,T1.b.aB⟩ T1)::cells x1 (aS3 p)::old h0::U6 X1 4 (A0r p) pl::L3) (fun K hK=>?_) (fun _=>?_)
   ·clear hq bS
    cases ho:ofS (p.2.2.2.2.2.2.2.2.2.2.1) T.b.aD with
    |none=>
     rw[ho] at ha hK
     have e2:A1Z none r.1.1 T1.b.aH=T1.b.aH:=rfl
     rw[e2] at hK
     refine W8 ha (U3 ?_)
     refine At.bI (tB ⟨r.2.last,r.2.aD,T1.b.aH,T1.b.kept,T1.b.aB⟩ T1) sL sK q4 ?_
     exact(hK ()).sub
    |some s=>
     rw[ho] at ha hK
     by_cases e:s.id=r.1.1
     ·have e2:A1Z (some s) r.1.1 T1.b.aH=T1.b.aH:=by unfold A1Z;simp[e]
      rw[e2] at hK
      refine W8 (by rw[ha];simp[e]) (U3 ?_)
      refine At.bI (tB ⟨r.2.last,r.2.aD,T1.b.aH,T1.b.kept,T1.b.aB⟩ T1) sL sK q4 ?_
      exact(hK ()).sub
     ·have e2:A1Z (some s) r.1.1 T1.b.aH=A1l s.id T1.b.aH:=by unfold A1Z;simp[e]
      rw[e2] at hK
      refine Y4 (by rw[ha];simp[e]) ?_
      refine W5 ?_
      refine W.load (v:=some ⟨b,0,none⟩) ?_
      refine W5 ?_
      refine W.load ?_
      refine W.load (v:=s.id) ?_
      refine j2 (B9Z (t:=q4.sb) (E:=T1.b.aH) (id:=s.id) ht ej.aH (At.un (U3 ?_)))
      refine At.bI (tB ⟨r.2.last,r.2.aD,A1l s.id T1.b.aH,T1.b.kept,T1.b.aB⟩ T1) sL sK q4 ?_
      exact(hK ()).sub
   clear ha
   generalize A1Z (ofS (p.2.2.2.2.2.2.2.2.2.2.1) T.b.aD) r.1.1 T1.b.aH=E5 at hq bS⊢
   refine W5 ?_
   refine A6u (fun h R=>p6) fun wN wL q5=>?_
   refine W.load (v:=some ⟨b,0,none⟩) ?_
   refine W5 ?_
   refine W.load (v:=some q5.cm) ?_
   refine W.load (v:=p.2.2.2.2.2.2.2.2.2.2.2.2.2.1) ?_
   refine j4 (b:=x1) (i:=14) (v:=p.2.2.2.2.2.2.2.2.2.2.2.2.2.2.1) ?_
   refine j4 (b:=x1) (i:=15) (v:=p.2.2.2.2.2.2.2.2.2.2.2.2.2.2.2.1) ?_
   refine j4 (b:=x1) (i:=16) (v:=p.2.2.2.2.2.2.2.2.2.2.2.2.2.2.2.2.1) ?_
   refine j4 (b:=x1) (i:=17) (v:=p.2.2.2.2.2.2.2.2.2.2.2.2.2.2.2.2.2.1) ?_
   refine W.mset (ek:=eKI) (ev:=eVC) (l:=T1.b.aB.map A0j) kKI (fun a b h=>by cases h;rfl) c (B8A ⟨c,r.1.1,p.2.2.2.2.2.2.2.2.2.2.2.2.2.1,(p.2.2.2.2.2.2.2.2.2.2.2.2.2.2.1,p.2.2.2.2.2.2.2.2.2.2.2.2.2.2.2.1,p.2.2.2.2.2.2.2.2.2.2.2.2.2.2.2.2.1,p.2.2.2.2.2.2.2.2.2.2.2.2.2.2.2.2.2.1,e0S)⟩) ?_
   rw[A2o _ _ _ (by rw[A3T,qA];rfl),show T1.b.aB.map A0j++[(c,B8A (⟨c,r.1.1,p.2.2.2.2.2.2.2.2.2.2.2.2.2.1,(p.2.2.2.2.2.2.2.2.2.2.2.2.2.2.1,p.2.2.2.2.2.2.2.2.2.2.2.2.2.2.2.1,p.2.2.2.2.2.2.2.2.2.2.2.2.2.2.2.2.1,p.2.2.2.2.2.2.2.2.2.2.2.2.2.2.2.2.2.1,e0S)⟩:Y6))]=(T1.b.aB++[(⟨c,r.1.1,p.2.2.2.2.2.2.2.2.2.2.2.2.2.1,(p.2.2.2.2.2.2.2.2.2.2.2.2.2.2.1,p.2.2.2.2.2.2.2.2.2.2.2.2.2.2.2.1,p.2.2.2.2.2.2.2.2.2.2.2.2.2.2.2.2.1,p.2.2.2.2.2.2.2.2.2.2.2.2.2.2.2.2.2.1,e0S)⟩:Y6)]).map A0j from by rw[C0];rfl]
   generalize T1.b.aB++[(⟨c,r.1.1,p.2.2.2.2.2.2.2.2.2.2.2.2.2.1,(p.2.2.2.2.2.2.2.2.2.2.2.2.2.2.1,p.2.2.2.2.2.2.2.2.2.2.2.2.2.2.2.1,p.2.2.2.2.2.2.2.2.2.2.2.2.2.2.2.2.1,p.2.2.2.2.2.2.2.2.2.2.2.2.2.2.2.2.2.1,e0S)⟩:Y6)]=C5 at hq bS⊢
   refine W.bI (tB ⟨r.2.last,r.2.aD,E5,T1.b.kept,C5⟩ T1) wN wL q5 ?_
   refine B7C (k:=.u8) (A2a r.1.2) rfl rfl ?_
   refine Z3 (B8V (T:=tB ⟨r.2.last,r.2.aD,E5,T1.b.kept,C5⟩ T1) (c:=c) (o:=A2a r.1.2) (ci:=⟨none,0,0⟩) (pi:=⟨none,0,0⟩) (by show T1.outs.length≤_;omega) (At.bD ?_))
   have ry:A0A ⟨c,A2a r.1.2,false⟩ (tB ⟨r.2.last,r.2.aD,E5,T1.b.kept,C5⟩ T1)=(⟨⟨r.2.last,r.2.aD,E5,T1.b.kept,C5⟩,T1.outs++[⟨c,A2a r.1.2,false⟩],T1.aT⟩:V0):=rfl
   rw[ry] at hq
   show W (X8 t b full ⟨⟨r.2.last,r.2.aD,E5,T1.b.kept,C5⟩,T1.outs++[⟨c,A2a r.1.2,false⟩],T1.aT⟩::_) _ _
   have hO:(T1.outs++[(⟨c,A2a r.1.2,false⟩:r8)]).length≤13300002:=by rw[B5];simp only[B7,G7];omega
   generalize T1.outs++[(⟨c,A2a r.1.2,false⟩:r8)]=O5 at hq hO⊢
   clear ry
   unfold A0F at hq
   simp only[A3y bS.nd ai gu] at hq
   refine W.load (v:=A0r p) ?_
   refine Z3 (C6n (S:=A0r p) (pl:=pl) (id:=33) fu (At.bD (x:=(prU ((A0Z 33 pl).getD (0,0,e0S,e0S)),(A0Z 33 pl).isSome,())) ?_))
   refine Y2 fun lz=>?_
   refine A0n ?_
   refine C9a (X:=q9) (fun z _=>z.2.1=A1X pl) (fun z _=>X8 t b full ⟨⟨r.2.last,r.2.aD,E5,T1.b.kept,C5⟩,O5,T1.aT⟩::cells lz (X1 z).toArray::old h0::L3) (fun K hK=>?_) (fun z _ hz=>?_)
   ·unfold A1X at hK
    clear hq
    cases hf:A0Z 33 pl with
    |none=>
     rw[hf] at hK
     refine Y4 rfl ?_
     refine W.store (cs':=(X1 (0,64,e0S,e0S)).toArray) ?_
     exact U3 (hK (0,64,e0S,e0S) _ rfl).sub
    |some z=>
     rw[hf] at hK
     refine W8 rfl ?_
     refine W.cells (b:=lz) (X1 z).toArray ?_
     exact U3 (hK z _ rfl).sub
   obtain⟨z1,z2,z3,z4⟩:=z
   simp only at hz
   subst hz
   refine W5 ?_
   refine A6u (fun h R=>p6) fun wM wK q6=>?_
   refine W.load (v:=some ⟨b,0,none⟩) ?_
   refine W5 ?_
   refine W.load (v:=some ⟨q6.tb,0,none⟩) ?_
   refine W.load (v:=A1X pl) ?_
   refine A9f (fun h R=>A6D ai h R) fun ob ib=>?_
   refine j2 (B3A gu (At.un ?_))
   refine W.load (v:=A1X pl) ?_
   refine A1p ?_ rfl
   have dc:=B3v (bS.bP s5 ai) (A1X pl)
   refine j2 (C5V (b:=ob) (o:=s5.out) (most:=A1X pl) (bS.bP s5 ai) (fun S2=>At.un (x:=S2) ?_))
   refine B2x (A:=A1q q6.tb r.2.last (X7 r.1.1 (Y9 (A0s s5.out (A1X pl)).1) r.2.aD)) (fun h hs=>A6C bS.nd ai gu h hs) ?_
   refine W.bI (A0E (X7 r.1.1 (Y9 (A0s s5.out (A1X pl)).1) r.2.aD) ⟨⟨r.2.last,r.2.aD,E5,T1.b.kept,C5⟩,O5,T1.aT⟩) wM wK q6 ?_
   refine Z3 (A3O (T:=A0E (X7 r.1.1 (Y9 (A0s s5.out (A1X pl)).1) r.2.aD) ⟨⟨r.2.last,r.2.aD,E5,T1.b.kept,C5⟩,O5,T1.aT⟩) (id:=r.1.1) (ps:=(A0s s5.out (A1X pl)).2) (bS.one r.1.1) (by have:=dc.2;show O5.length+_≤_;omega) (At.bD ?_))
   exact U3 hq.sub
  ·refine Y4 (by simp[av]) ?_
   rw[if_pos (by rw[←hr];exact av),←hr] at hq
   refine B7C (k:=.u8) (j9 2 0 code) rfl rfl ?_
   refine Z3 (B9O (T:=T) (c:=c) (o:=j9 2 0 code) (ci:=⟨none,0,0⟩) (pi:=⟨none,0,0⟩) (by omega) (At.bD ?_))
   exact U3 hq.sub
end
section
open Go.H Go.Proofs
structure Step(T T':V0)(n m:Nat):Prop where
 ok:X4 T'.b n
 outs:T'.outs.length≤T.outs.length+m
 aT:T'.aT.length≤T.aT.length+m
theorem Step.trans{T T' T'':V0}{n n' m m':Nat}(h:Step T T' n m)(h':Step T' T'' n' m'):Step T T'' n' (m+m'):=⟨h'.ok,by have:=h.outs;have:=h'.outs;omega,by have:=h.aT;have:=h'.aT;omega⟩
theorem Step.mono{T T':V0}{n m m':Nat}(h:Step T T' n m)(hm:m≤m'):Step T T' n m':=⟨h.ok,by have:=h.outs;omega,by have:=h.aT;omega⟩
theorem Step.refl{T:V0}{n:Nat}(h:X4 T.b n):Step T T n 0:=⟨h,D8 _,D8 _⟩
theorem A0H.step{T T':V0}{n m:Nat}(h:X4 T.b n)(hb:A0H T T' m)(hk:T'.b.aD.map A2x=T.b.aD.map A2x):Step T T' n m:=⟨h.sub hb.ok hb.last (by rw[hk];exact G5 _) (by rw[hb.aH];exact G5 _),hb.outs,hb.aT⟩
theorem X4.mono{B:Z0}{n n':Nat}(h:X4 B n)(hn:n≤n'):X4 B n':={h with cL:=by have:=h.cL;omega}
theorem step_end{full:Bool}{c:Int}{w:Bool}{T:V0}{n:Nat}(h:X4 T.b n):Step T (A4n full c w T) n 3200000:=
 let r:=B9B (full:=full) (c:=c) (w:=w) h.toj7
 ⟨h.sub r.1 r.2.2.2.2 B6o B3m,r.2.1,r.2.2.1⟩
theorem A5G{full:Bool}{c code:Int}{T:V0}{n:Nat}(h:X4 T.b n):Step T (A0C full c code T) n 3200001:=
 let r:=B0C (full:=full) (c:=c) (code:=code) h.toj7
 ⟨h.sub r.1 r.2.2.2.2 (B6o (T:=A0A ⟨c,j9 14 0 code,true⟩ T)) (B3m (T:=A0A ⟨c,j9 14 0 code,true⟩ T)),r.2.1,r.2.2.1⟩
theorem A6E{o:r8}{T:V0}{n:Nat}(h:X4 T.b n):Step T (A0A o T) n 1:=⟨h,by show(T.outs++[o]).length≤_;rw[B5];exact D8 _,J9 _ _⟩
theorem B8L{id:Int}{ps:List PkO}{T:V0}{n m:Nat}(h:X4 T.b n)(hm:ps.length≤m):Step T (q7 id ps T) n m:=⟨h,by show(T.outs++A1U T.b.aB id ps).length≤_;rw[B5];have:=A9h ps (h.one id);omega,J9 _ _⟩
theorem C34{m:MsT}{T:V0}{n:Nat}(h:X4 T.b n):Step T (A0p m T) n 3200000:=(B6c (m:=m) h.toj7).step h B3h
theorem B8M{m:MsT}{T:V0}{n:Nat}(h:X4 T.b n):Step T (A3n m T) n 3200000:=(A8P (m:=m) h.toj7).step h B3h
theorem C5p{k:Int}{i:u6}{T:V0}{n:Nat}(h:X4 T.b n):Step T (A0E (X7 k (j1 i) T.b.aD) T) n 0:=
 ⟨h.sub h.toj7.fF rfl (by
  show((X7 k (j1 i) T.b.aD).map A2x).Sublist _
  rw[B1f (f:=j1 i) fun _=>rfl];exact G5 _) (G5 _),D8 _,D8 _⟩
theorem B95{id:Int}{f:Z2→Z2×List PkO}{T:V0}{n:Nat}(h:X4 T.b n)(hf:∀o,X0 o→X0 (f o).1∧(f o).2.length≤320):Step T (A0F id f T) n 320:=(B5K (id:=id) h.toj7 hf).step h B23
theorem step_take{full:Bool}{x:Y6}{p:PkI}{T:V0}{n:Nat}(h:X4 T.b n):Step T (A5F full x p T) n 3200002:=by
 unfold A5F
 split
 ·exact(A5G h).mono (by omega)
 ·split
  ·exact(Step.refl h).mono (by omega)
  ·rename_i s hs
   simp only
   generalize l9 s.aZ p.kind p.dY p.id (if full=true then 151 else 0)=r
   have h1:=C5p (k:=x.aD) (i:=⟨s.aZ.most,s.aZ.taken,r.2.2.2⟩) h
   split
   ·exact Step.mono (m':=3200002) (h1.trans (A5G h1.ok)) (by omega)
   ·have jn:(A3E r.2.1 p.id).length≤1:=by unfold A3E;split<;>simp
    have h2:=h1.trans (B8L (id:=x.aD) (ps:=A3E r.2.1 p.id) h1.ok jn)
    split
    ·exact Step.mono (m':=3200002) (h2.trans (B8M h2.ok)) (by omega)
    ·exact Step.mono (m':=3200002) h2 (by omega)
theorem B96{full:Bool}{x:Y6}{p:PkI}{T:V0}{n:Nat}(h:X4 T.b n):Step T (A2I full x p T) n 3200002:=by
 unfold A2I
 split
 ·exact(Step.refl h).mono (by omega)
 ·split
  ·exact(A5G h).mono (by omega)
  ·exact(B95 h fun o ho=>⟨(B43 ho _ _ _).1,by have:=(B43 ho p.kind p.id p.code).2;omega⟩).mono (by omega)
theorem C6M{E:List Ent}{id q:Int}{f:B38}(h:∀i,A1e E i≤64)(i:Int):A1e (A2P E id f q).2 i≤64:=by
 unfold A2P
 split
 ·exact h i
 ·split
  ·exact h i
  ·split
   ·rename_i j hj
    have qH:=J1.1 hj
    obtain⟨ah,hp,_⟩:=qH
    have hk:b8 E[j]=(id,f):=by simpa using hp
    have ej:E[j].1=id:=congrArg Prod.fst hk
    have e:(E.set j (id,f,q)).map (·.1)=E.map (·.1):=by
     rw[List.map_set]
     refine List.ext_getElem? fun k=>?_
     rw[List.getElem?_set]
     split
     ·rename_i xH
      subst xH
      rw[if_pos (by simpa using ah),K7,B0 ah,R8,ej]
     ·rfl
    unfold A1e
    simp only[e]
    exact h i
   ·split
    ·exact h i
    ·rename_i ah
     have hp:=((A1S ltK b8 (id,f,q) E).map (·.1)).count_eq i
     unfold A1e at h ah⊢
     rw[hp,B6,List.count_cons]
     by_cases e:id=i
     ·subst e
      simp only[beq_self_eq_true,if_true]
      omega
     ·rw[if_neg (by simpa using e)]
      exact h i
theorem B67{id:Int}:∀(l:List A0G) {E:List Ent},(∀i,A1e E i≤64)→∀i,A1e (j6 id l E).1 i≤64
 |[],_,h=>h
 |s::l,E,h=>B67 (id:=id) l (fun i=>C6M h i)
theorem B6Q{id:Int}:∀(l:List B38) {E:List Ent},(A0X id l E).1.Sublist E
 |[],_=>G5 _
 |f::l,E=>(B6Q (id:=id) l (E:=A1R E id f)).trans I4
theorem B5b{x:Y6}{p:PkI}{T:V0}{n:Nat}(h:X4 T.b n)(hx:x∈T.b.aB)(hk:T.b.kept.length≤64)(hl:p.aH.length≤100):Step T (A04 x p T) n 3000000:=by
 have wk:=h.s2k
 have jn:=B01 (id:=x.aD) p.aH (E:=T.b.aH)
 have hH:j7 (B4k (j6 x.aD p.aH T.b.aH).1 T.b):=h.toj7.fK (by have:=jn.1;omega) fun e he=>by
  rcases jn.2.1 e he with h1|h1
  ·exact .inl h1
  ·obtain⟨s,hs,hi⟩:=h.cl x hx
   exact .inr ⟨s,hs,hi.trans h1.symm⟩
 have h1:X4 (B4k (j6 x.aD p.aH T.b.aH).1 T.b) n:={hH with cX:=h.cX,cL:=h.cL,dW:=h.dW,dF:=h.dF,eB:=h.eB,n32:=h.n32,eT:=B67 p.aH h.eT}
 have h3:Step T (A1i (j6 x.aD p.aH T.b.aH).1 T) n 0:=⟨h1,D8 _,D8 _⟩
 have h4:=h3.trans (A6E (o:=⟨x.c,A0S 9 p.id (j6 x.aD p.aH T.b.aH).2,false⟩) h3.ok)
 have h5:=B6f (id:=x.aD) (added x.aD p.aH T.b.aH) (T:=A0A ⟨x.c,A0S 9 p.id (j6 x.aD p.aH T.b.aH).2,false⟩ (A1i (j6 x.aD p.aH T.b.aH).1 T)) hk hH
 have h6:=h5.step h4.ok (B2c (g:=j3 x.aD) (fun T s=>C0N T s) _)
 refine(h4.trans h6).mono ?_
 have:=jn.2.2.2
 omega
theorem B2D{x:Y6}{p:PkI}{T:V0}{n:Nat}(h:X4 T.b n):Step T (A1H x p T) n 1:=by
 have hs:=B6Q (id:=x.aD) p.bM (E:=T.b.aH)
 have hH:j7 (B4k (A0X x.aD p.bM T.b.aH).1 T.b):=h.toj7.fK (C7 hs.length_le h.aH) fun e he=>.inl (hs.subset he)
 have h3:Step T (A1i (A0X x.aD p.bM T.b.aH).1 T) n 0:=⟨h.sub hH rfl (G5 _) hs,D8 _,D8 _⟩
 exact(h3.trans (A6E h3.ok)).mono (by omega)
theorem C5o{full:Bool}{x:Y6}{p:PkI}{T:V0}{n:Nat}(h:X4 T.b n)(hx:x∈T.b.aB)(hk:T.b.kept.length≤64)(hl:p.aH.length≤100):Step T (A8T full x p T) n 3300000:=by
 unfold A8T
 split
 ·exact(step_take h).mono (by omega)
 ·split
  ·exact(B96 h).mono (by omega)
  ·split
   ·exact(B5b h hx hk hl).mono (by omega)
   ·split
    ·exact(B2D h).mono (by omega)
    ·split
     ·exact(A6E h).mono (by omega)
     ·split
      ·exact(step_end h).mono (by omega)
      ·exact(A5G h).mono (by omega)
theorem B4j{aC:B38}{clean aN:Bool}{B:Z0}:(b9 aC clean aN B).2.aH=B.aH∧(b9 aC clean aN B).2.kept=B.kept∧(b9 aC clean aN B).2.aB=B.aB:=by
 unfold b9
 split
 ·split<;>exact⟨rfl,rfl,rfl⟩
 ·exact⟨rfl,rfl,rfl⟩
theorem B8C{p:PkI}{B:Z0}(h:A6t p B=0):b6 p.aC∧(ofS p.aC B.aD=none→B.aD.length<32):=by
 unfold A6t at h
 split at h
 ·cases h
 ·split at h
  ·cases h
  ·split at h
   ·cases h
   ·rename_i hg
    split at h
    ·cases h
    ·rename_i eK
     exact⟨O2 hg,fun ho=>Nat.lt_of_not_le fun h=>eK ⟨ho,h⟩⟩
theorem B8N{full:Bool}{c:Int}{p:PkI}{T:V0}{n:Nat}(h:X4 T.b n)(bU:(T.b.aB.map (·.c)).Nodup)(hw:p.aX.1.size≤9223372036854775807)(bO: -9223372036854775808≤c∧c≤9223372036854775807):Step T (A1m full c p T) (n+1) 3300000:=by
 unfold A1m
 by_cases hb:A6t p T.b=0
 ·rw[if_neg (by simpa using hb),A3X]
  have gv:=B8C hb
  obtain⟨ej,gr,oN,iU,jj,ke⟩:=B11 (full:=full) (c:=p.aC) h bU gv.2
  generalize A0O full p.aC T=T1 at*
  obtain⟨lq,lr,lv⟩:=B4j (B:=T1.b) (aC:=p.aC) (clean:=p.clean) (aN:=A0c p.props)
  obtain⟨bS,_⟩:=B61 (B:=T1.b) (o:=ofS p.aC T.b.aD) (aC:=p.aC) (clean:=p.clean) (aN:=A0c p.props) (x:=⟨c,(b9 p.aC p.clean (A0c p.props) T1.b).1.1,p.bE,(p.aX.1,p.aX.2.1,p.aX.2.2.1,p.aX.2.2.2.1,e0S)⟩) ej ke (fun y hy s hs=>(iU y hy).2 s hs) jj rfl ⟨hw,bO⟩
  rw[lq,lr,lv]
  have h1:Step T (tB ⟨(b9 p.aC p.clean (A0c p.props) T1.b).2.last,(b9 p.aC p.clean (A0c p.props) T1.b).2.aD,A1Z (ofS p.aC T.b.aD) (b9 p.aC p.clean (A0c p.props) T1.b).1.1 T1.b.aH,T1.b.kept,T1.b.aB++[⟨c,(b9 p.aC p.clean (A0c p.props) T1.b).1.1,p.bE,(p.aX.1,p.aX.2.1,p.aX.2.2.1,p.aX.2.2.2.1,e0S)⟩]⟩ T1) (n+1) 3200001:=⟨bS,gr,oN⟩
  have h2:=h1.trans (A6E (o:=⟨c,A2a (b9 p.aC p.clean (A0c p.props) T1.b).1.2,false⟩) h1.ok)
  exact(h2.trans (B95 h2.ok fun o ho=>B3v ho _)).mono (by omega)
 ·rw[if_pos (by simpa using hb)]
  exact(A6E (h.mono (S0 n))).mono (by omega)
theorem A5e{full:Bool}{c:Int}{p:PkI}{B:Z0}{n:Nat}(h:X4 B n)(bU:(B.aB.map (·.c)).Nodup)(hk:B.kept.length≤64)(hl:p.aH.length≤100)(hw:p.aX.1.size≤9223372036854775807)(bO: -9223372036854775808≤c∧c≤9223372036854775807):
  X4 (i6 full c p B).b (n+1)∧(i6 full c p B).outs.length≤3300000∧(i6 full c p B).aT.length≤3300000:=by
 have key:∀{T':V0},Step ⟨B,[],[]⟩ T' (n+1) 3300000→X4 T'.b (n+1)∧T'.outs.length≤3300000∧T'.aT.length≤3300000:=fun{T'} hs=>⟨hs.ok,by have:=hs.outs;simpa using this,by have:=hs.aT;simpa using this⟩
 unfold i6
 split
 ·rename_i x hx
  have:=C5o (full:=full) (x:=x) (p:=p) (T:=⟨B,[],[]⟩) h (A1T hx).1 hk hl
  exact key ⟨this.ok.mono (S0 n),this.outs,this.aT⟩
 ·split
  ·exact key (B8N (T:=⟨B,[],[]⟩) h bU hw bO)
  ·exact⟨h.mono (S0 n),by simp,by simp⟩
theorem B5W{full:Bool}{c:Int}{B:Z0}{n:Nat}(h:X4 B n):X4 (A8j full c B).b n∧(A8j full c B).outs.length≤3300000∧(A8j full c B).aT.length≤3300000:=
 let r:=step_end (full:=full) (c:=c) (w:=true) (T:=⟨B,[],[]⟩) h
 ⟨r.ok,C7 r.outs (by simp),C7 r.aT (by simp)⟩
theorem A54{m:MsT}{B:Z0}{n:Nat}(h:X4 B n):X4 (z8 m B).b n∧(z8 m B).outs.length≤3300000∧(z8 m B).aT.length≤3300000:=
 let r:=C34 (m:=m) (T:=⟨B,[],[]⟩) h
 ⟨r.ok,C7 r.outs (by simp),C7 r.aT (by simp)⟩
theorem X4.new:X4 ⟨0,[],[],[],[]⟩ 0 where
 aH:=by simp
 bP:=by simp
 live:=by simp
 one:=by simp
 nd:=by simp
 cl:=by simp
 dR:=by simp
 wl:=by simp
 cX:=by simp
 cL:=by simp
 dW:=by simp
 dF:=by simp
 eB:=by simp
 n32:=by simp
 eT:=by simp[A1e]
def A5j(b:Z0)(c:Int):Z0:=match A1E c b.aB with
 |none=>b
 |some x=>A6m x.aD (A5s (b.aB.filter fun y=>decide (y.c≠c)) b)
theorem A5K{b:Z0}:A1Q b=(b.aB.map (·.c)).foldl A5j b:=rfl
theorem C2E{full:Bool}{c:Int}{T:V0}:A4n full c false T=tB (A5j T.b c) T:=by
 unfold A4n A5j
 cases A1E c T.b.aB with
 |none=>rfl
 |some x=>simp
theorem B9A{B:Z0}{n:Nat}{c:Int}(h:X4 B n):X4 (A5j B c) n:=by
 have:=(step_end (full:=true) (c:=c) (w:=false) (T:=⟨B,[],[]⟩) h).ok
 rw[C2E] at this
 exact this
def A3w(k:Int)(s:V7):Bool:=decide (s.id=k)&&s.on&& !s.aN
def A3t(k:Int)(s:V7):Option V7:=if s.id=k∧s.on=true then(if s.aN=true then some (A8y s) else none) else some s
def B4c(b:Z0)(c:Int):Z0:=match A1E c b.aB with
 |none=>b
 |some x=>⟨b.last,b.aD.filterMap (A3t x.aD),b.aH.filter (fun e=> !(decide (e.1=x.aD)&&b.aD.any (A3w x.aD))),b.kept,b.aB.filter fun y=>decide (y.c≠c)⟩
theorem C81{k:Int}{B:Z0}(hn:(B.aD.map (·.id)).Nodup):A6m k B=⟨B.last,B.aD.filterMap (A3t k),B.aH.filter (fun e=> !(decide (e.1=k)&&B.aD.any (A3w k))),B.kept,B.aB⟩:=by
 have fo:∀{A:List V7},(∀s∈A,A3t k s=some s)→A.filterMap (A3t k)=A:=fun{A} hA=>by
  induction A with
  |nil=>rfl
  |cons s A ih=>rw[O8 (hA s (B4 ..)),ih fun t ht=>hA t (C3 _ ht)]
 have jC:B.aD.any (A3w k)=false→B.aH.filter (fun e=> !(decide (e.1=k)&&B.aD.any (A3w k)))=B.aH:=fun e=>by rw[e];simp
 unfold A6m
 cases hg:A4N k B.aD with
 |none=>
  have ay:∀s∈B.aD,s.id≠k:=fun s hs=>by simpa using E8.1 hg s hs
  have e1:B.aD.any (A3w k)=false:=List.any_eq_false.2 fun s hs=>by simp[A3w,ay s hs]
  rw[fo fun s hs=>if_neg fun e=>ay s hs e.1,jC e1]
 |some s=>
  obtain⟨hm,hid⟩:=B2a hg
  have gF:∀t∈B.aD,t.id=k→t=s:=fun t ht e=>A8U (f:=(·.id)) hn ht hm (e.trans hid.symm)
  simp only
  by_cases aP:s.on=false
  ·rw[if_pos aP]
   have e1:B.aD.any (A3w k)=false:=List.any_eq_false.2 fun t ht=>by
    by_cases e:t.id=k
    ·rw[gF t ht e];simp[A3w,aP]
    ·simp[A3w,e]
   have e2:∀t∈B.aD,A3t k t=some t:=fun t ht=>if_neg fun e=>by
    have:=gF t ht e.1
    subst this
    rw[aP] at e
    cases e.2
   rw[fo e2,jC e1]
  ·rw[if_neg aP]
   have cI:s.on=true:=by cases hh:s.on with|true=>rfl|false=>exact absurd hh aP
   by_cases iT:s.aN=true
   ·rw[if_pos iT]
    have e1:B.aD.any (A3w k)=false:=List.any_eq_false.2 fun t ht=>by
     by_cases e:t.id=k
     ·rw[gF t ht e];simp[A3w,iT]
     ·simp[A3w,e]
    rw[jC e1]
    have e2:∀{A:List V7},(∀t∈A,t∈B.aD)→X7 k A8y A=A.filterMap (A3t k):=fun{A} hA=>by
     induction A with
     |nil=>rfl
     |cons t A ih=>
      have ht:=hA t (B4 ..)
      have ih:=ih fun t ht=>hA t (C3 _ ht)
      unfold X7 at ih⊢
      rw[B6]
      by_cases e:t.id=k
      ·have:=gF t ht e
       subst this
       rw[if_pos e,O8 (b:=A8y t) (by unfold A3t;rw[if_pos ⟨e,cI⟩,if_pos iT]),ih]
      ·rw[if_neg e,O8 (b:=t) (by unfold A3t;rw[if_neg fun h=>e h.1]),ih]
    rw[e2 fun t ht=>ht]
   ·rw[if_neg iT]
    have nR:s.aN=false:=by cases hh:s.aN with|false=>rfl|true=>exact absurd hh iT
    have e1:B.aD.any (A3w k)=true:=List.any_eq_true.2 ⟨s,hm,by simp[A3w,hid,cI,nR]⟩
    have e2:∀{A:List V7},(∀t∈A,t∈B.aD)→A.filter (fun x=>decide (x.id≠k))=A.filterMap (A3t k):=fun{A} hA=>by
     induction A with
     |nil=>rfl
     |cons t A ih=>
      have ht:=hA t (B4 ..)
      have ih:=ih fun t ht=>hA t (C3 _ ht)
      by_cases e:t.id=k
      ·have:=gF t ht e
       subst this
       rw[F9 (by simpa using e),List.filterMap_cons_none (by unfold A3t;rw[if_pos ⟨e,cI⟩,if_neg iT]),ih]
      ·rw[G9 (by simpa using e),O8 (b:=t) (by unfold A3t;rw[if_neg fun h=>e h.1]),ih]
    rw[e2 fun t ht=>ht,e1]
    simp only[Bool.and_true]
theorem C7F{B:Z0}{c:Int}(h:j7 B):A5j B c=B4c B c:=by
 unfold A5j B4c
 cases A1E c B.aB with
 |none=>rfl
 |some x=>simp only;rw[C81 (B:=A5s (B.aB.filter fun y=>decide (y.c≠c)) B) h.nd]
theorem A83{c d:Int}{l:List Y6}(h:c≠d):A1E c (l.filter fun y=>decide (y.c≠d))=A1E c l:=by
 unfold A1E
 rw[List.find?_filter]
 congr 1
 funext x
 by_cases e:x.c=c
 ·simp[e,h]
 ·simp[e]
theorem B9b{k:Int}{s t:V7}(h:A3t k s=some t):t.id=s.id:=by
 unfold A3t at h
 split at h
 ·split at h
  ·cases h;rfl
  ·cases h
 ·cases h;rfl
theorem C4r{i j:Int}(h:i≠j)(s:V7):(A3t i s).bind (A3t j)=(A3t j s).bind (A3t i):=by
 by_cases hi:s.id=i
 ·have hj:s.id≠j:=fun e=>h (hi.symm.trans e)
  have e1:A3t j s=some s:=if_neg fun e=>hj e.1
  rw[e1,N6]
  cases ho:A3t i s with
  |none=>rfl
  |some t=>rw[N6];exact if_neg fun e=>hj ((B9b ho).symm.trans e.1)
 ·have e1:A3t i s=some s:=if_neg fun e=>hi e.1
  rw[e1,N6]
  cases ho:A3t j s with
  |none=>rfl
  |some t=>rw[N6];exact(if_neg fun e=>hi ((B9b ho).symm.trans e.1)).symm
theorem C0W{i j:Int}(h:i≠j)(A:List V7):(A.filterMap (A3t i)).any (A3w j)=A.any (A3w j):=by
 induction A with
 |nil=>rfl
 |cons s A ih=>
  rw[List.any_cons]
  cases ho:A3t i s with
  |none=>
   rw[List.filterMap_cons_none ho,ih]
   have hi:s.id=i:=by
    unfold A3t at ho
    split at ho
    ·rename_i hh;exact hh.1
    ·cases ho
   have:A3w j s=false:=by unfold A3w;rw[hi];simp[h]
   rw[this,S3]
  |some t=>
   rw[O8 ho,List.any_cons,ih]
   have hid:=B9b ho
   congr 1
   by_cases hi:s.id=i
   ·unfold A3w;rw[hid,hi];simp[h]
   ·have e1:A3t i s=some s:=if_neg fun e=>hi e.1
    rw[e1] at ho
    cases ho;rfl
theorem C2D(b:Z0)(c d:Int):B4c (B4c b c) d=B4c (B4c b d) c:=by
 by_cases oT:c=d
 ·subst oT;rfl
 ·unfold B4c
  cases hc:A1E c b.aB with
  |none=>
   simp only
   cases hd:A1E d b.aB with
   |none=>simp only[hc,hd]
   |some y=>simp only;rw[A83 oT,hc]
  |some x=>
   simp only
   rw[A83 fun e=>oT e.symm]
   cases hd:A1E d b.aB with
   |none=>simp only[hc]
   |some y=>
    simp only
    rw[A83 oT,hc]
    simp only
    have e4:(b.aB.filter fun y=>decide (y.c≠c)).filter (fun y=>decide (y.c≠d))=(b.aB.filter fun y=>decide (y.c≠d)).filter (fun y=>decide (y.c≠c)):=by
     rw[R7,R7]
     congr 1
     funext z
     rw[Bool.and_comm]
    rw[e4]
    by_cases oG:x.aD=y.aD
    ·rw[oG]
    ·have e1:(b.aD.filterMap (A3t x.aD)).filterMap (A3t y.aD)=(b.aD.filterMap (A3t y.aD)).filterMap (A3t x.aD):=by
      rw[List.filterMap_filterMap,List.filterMap_filterMap]
      congr 1
      funext s
      exact C4r oG s
     rw[e1,C0W oG,C0W (fun e=>oG e.symm)]
     simp only[R7]
     refine congrArg (fun E=>(⟨_,_,E,_,_⟩:Z0)) (K8 fun z _=>?_)
     exact Bool.and_comm _ _
theorem B9u{n:Nat}:∀(l:List Int) {B:Z0},X4 B n→l.foldl A5j B=l.foldl B4c B∧X4 (l.foldl A5j B) n
 |[],_,h=>⟨rfl,h⟩
 |c::l,B,h=>by
  rw[H3,H3,←C7F h.toj7]
  exact B9u l (B9A h)
theorem B83{n:Nat}{l:List Int}{B:Z0}(h:X4 B n)(hp:l.Perm (B.aB.map (·.c))):l.foldl A5j B=A1Q B:=by
 rw[A5K,(B9u l h).1,(B9u (B.aB.map (·.c)) h).1]
 exact hp.foldl_eq' (fun a _ b _ z=>C2D z a b) B
theorem C0i{n:Nat}{B:Z0}(h:X4 B n):X4 (A1Q B) n:=(B9u _ h).2
open Go.H Go.Proofs Go.Shelf
def A3U:Go.Shelf.Ren:=⟨fun n=>match n with|7=>41|10=>77|n=>n,fun n=>match n with|23=>102|26=>3|3=>112|28=>123|0=>0|27=>122|33=>196|4=>4|n=>n,fun n=>n⟩
theorem C75:SlLaysZI.n7 prog A3U where
 mixed:=by kernel_rfl
 f7:=⟨Tryz.f41.name,by kernel_rfl,func41.trans (congrArg some (by kernel_rfl))⟩
 f10:=⟨f77.name,by kernel_rfl,func77.trans (congrArg some (by kernel_rfl))⟩
 t0:=underlying0
 a0:=isAgg0
 z0:=sizeOf0
 v0:=zeroValue0
 t4:=underlying4
 a4:=isAgg4
 z4:=sizeOf4
 v4:=zeroValue4
 t23:=underlying102
 a23:=isAgg102
 z23:=sizeOf102
 v23:=zeroValue102
 t26:=underlying3
 a26:=isAgg3
 z26:=sizeOf3
 v26:=zeroValue3
 t27:=underlying122
 a27:=isAgg122
 z27:=sizeOf122
 v27:=zeroValue122
 t28:=underlying123
 a28:=isAgg123
 z28:=sizeOf123
 v28:=zeroValue123
 t33:=underlying196
 a33:=isAgg196
 z33:=sizeOf196
 v33:=zeroValue196
variable {h h0:Heap} {L L' L1 L2 L3 L4 L5 R:List Asn} {Q:Value→Heap→Prop}
structure C20(p:Pk)(pl:List q9)(sl:List A0G)(fl:List B38):Prop where
 bX:p.2.2.2.2.2.1.size≤9223372036854775807
 aC:(p.2.2.2.2.2.2.2.2.2.2.1).size≤9223372036854775807
 aX:(p.2.2.2.2.2.2.2.2.2.2.2.2.2.2.1).size≤9223372036854775807
 props:pl.length≤100
 aH:sl.length≤100
 sub:∀s∈sl,s.1.size≤9223372036854775807
 eP:fl.length≤100
 fil:∀f∈fl,f.size≤16777216
theorem C5P{t b n:Nat}{full:Bool}{T:V0}{x:Y6}{p:Pk}{pl:List q9}{sl:List A0G}{fl:List B38}(ht:TP h0)(ag:X4 T.b n)(hc:A1E x.c T.b.aB=some x)(hb:T.outs.length≤10000000)(hp:T.aT.length≤100000000)(dB:C20 p pl sl fl)
  (hq:At (X8 t b full (A8T full x (pkI p pl sl fl) T)::old h0::L4) (Q (.tuple #[])))(hx:Has L (X8 t b full T) L1:=by repeat first|with_reducible exact V1|apply V3)(hy:Has L1 (old h0) L2:=by repeat first|with_reducible exact V1|apply V3)(hz:Has L2 (U6 Y3 5 (A0K p) sl) L3:=by repeat first|with_reducible exact V1|apply V3)(hw:Has L3 (U6 A0g 1 (A4w p) fl) L4:=by repeat first|with_reducible exact V1|apply V3):
  FW prog 32 #[at0 t,.int .i64 x.c,A2z .u8 p] L Q:=by
 refine fun h hs=>A6q (some ⟨t,0,none⟩) x.c p h Q ((?_:W (X8 t b full T::old h0::U6 Y3 5 (A0K p) sl::U6 A0g 1 (A4w p) fl::L4) _ _) h ((hx.eJ hy hz hw).s hs))
 clear hs h hx hy hz hw
 have wk:=ag.s2k
 obtain⟨T9,aK⟩:∃T9,T9=A8T full x (pkI p pl sl fl) T:=⟨_,rfl⟩
 rw[←aK] at hq
 unfold A8T at aK
 dsimp only at aK
 delta A5n az bn cx A02 ie jc ji ju nw pu ve vi vz
 refine Y2 fun x1=>?_
 refine Z1 (X5 (enc:=Y3) (size:=5) (s:=A0K p) (xs:=sl)) fun cH=>?_
 refine Z1 (X5 (enc:=A0g) (size:=1) (s:=A4w p) (xs:=fl)) fun cq=>?_
 refine A1g (fun r=>r.1=decide (1≤p.2.2.2.2.1∧p.2.2.2.2.1≤65535)) (fun K hK=>?_) (fun r gn=>?_)
 ·refine W.load (v:=p.2.2.2.2.1) ?_
  refine A0l (fun h1=>?_) (fun h1=>?_)
  ·refine W.load (v:=p.2.2.2.2.1) ?_
   refine U3 (hK _ ?_)
   simp only[decide_eq_true_eq] at h1
   simp[h1]
  ·refine U3 (hK _ ?_)
   simp only[decide_eq_false_iff_not] at h1
   simp[h1]
 refine A1g (fun r=>r.1=decide (p.1=3∨p.1=6)) (fun K hK=>?_) (fun r1 fc=>?_)
 ·refine W.load (v:=p.1) ?_
  refine A0l (fun g0=>U3 (hK _ ?_)) (fun g0=>?_)
  ·simp only[P9] at g0;simp[g0]
  refine W.load (v:=p.1) ?_
  refine U3 (hK _ ?_)
  simp only[H7,ne_eq] at g0
  by_cases e:p.1=6
  ·simp[e]
  ·simp[e,g0]
 refine W.cut (fun _=>X8 t b full T9::old h0::L4) (fun K0 oq=>?_) (fun _=>U3 hq.sub)
 by_cases hk:p.1=3∨p.1=6
 ·rw[if_pos hk] at aK
  subst aK
  refine Y4 (by rw[fc];exact decide_eq_true hk) ?_
  refine s7 (v:=p) ?_
  refine Z3 (C8g (T:=T) (x:=x) (p:=p) (pl:=pl) (sl:=sl) (fl:=fl) ht ag.toj7 hc (by omega) (by omega) dB.bX (At.bD ?_))
  exact U3 (oq ()).sub
 rw[if_neg hk] at aK
 refine W8 (by rw[fc];exact decide_eq_false hk) ?_
 clear fc hk
 refine A1g (fun r=>r.1=decide (p.1=4∨p.1=5∨p.1=7)) (fun K hK=>?_) (fun r2 ck=>?_)
 ·refine W.load (v:=p.1) ?_
  refine A0l (fun g0=>U3 (hK _ ?_)) (fun g0=>?_)
  ·simp only[P9] at g0;simp[g0]
  refine W.load (v:=p.1) ?_
  refine A0l (fun g1=>U3 (hK _ ?_)) (fun g1=>?_)
  ·simp only[P9] at g1;simp[g1]
  refine W.load (v:=p.1) ?_
  refine U3 (hK _ ?_)
  simp only[H7,ne_eq] at g0;simp only[H7,ne_eq] at g1
  by_cases e:p.1=7
  ·simp[e]
  ·simp[e,g0,g1]
 refine W.cut (fun _=>X8 t b full T9::old h0::L4) (fun K1 fB=>?_) (fun _=>U3 (oq ()).sub)
 by_cases hk:p.1=4∨p.1=5∨p.1=7
 ·rw[if_pos hk] at aK
  subst aK
  refine Y4 (by rw[ck];exact decide_eq_true hk) ?_
  refine s7 (v:=p) ?_
  refine Z3 (C6K (T:=T) (x:=x) (p:=p) (pl:=pl) (sl:=sl) (fl:=fl) ht ag.toj7 hc (by omega) (by omega) (At.bD ?_))
  exact U3 (fB ()).sub
 rw[if_neg hk] at aK
 refine W8 (by rw[ck];exact decide_eq_false hk) ?_
 clear ck hk
 refine A1g (fun r=>r.1=decide (p.1=8∧1≤p.2.2.2.2.1∧p.2.2.2.2.1≤65535∧sl≠[])) (fun K hK=>?_) (fun r3 kT=>?_)
 ·refine W.load (v:=p.1) ?_
  refine A0l (fun g0=>?_) (fun g0=>U3 (hK _ ?_))
  ·simp only[P9] at g0
   refine A0l (fun g1=>?_) (fun g1=>U3 (hK _ ?_))
   ·rw[gn] at g1
    refine W.load (v:=A0K p) ?_
    refine U3 (hK _ ?_)
    have g1:=of_decide_eq_true g1
    cases sl with
    |nil=>simp[cH]
    |cons a l=>simp[cH,g0,g1]
   ·rw[gn] at g1
    have g1:=of_decide_eq_false g1
    exact(decide_eq_false fun e=>g1 ⟨e.2.1,e.2.2.1⟩).symm
  ·simp only[H7,ne_eq] at g0
   exact(decide_eq_false fun e=>g0 e.1).symm
 refine W.cut (fun _=>X8 t b full T9::old h0::L4) (fun K2 bg=>?_) (fun _=>U3 (fB ()).sub)
 by_cases hk:p.1=8∧1≤p.2.2.2.2.1∧p.2.2.2.2.1≤65535∧sl≠[]
 ·rw[if_pos hk] at aK
  subst aK
  refine Y4 (by rw[kT];exact decide_eq_true hk) ?_
  refine s7 (v:=p) ?_
  refine Z3 (B94 (T:=T) (x:=x) (p:=p) (pl:=pl) (sl:=sl) (fl:=fl) ht ag.toj7 hc hb (by have:=dB.aH;omega) dB.aH dB.sub (At.bD ?_))
  exact U3 (bg ()).sub
 rw[if_neg hk] at aK
 refine W8 (by rw[kT];exact decide_eq_false hk) ?_
 clear kT hk
 refine A1g (fun r=>r.1=decide (p.1=10∧1≤p.2.2.2.2.1∧p.2.2.2.2.1≤65535∧fl≠[])) (fun K hK=>?_) (fun r4 oL=>?_)
 ·refine W.load (v:=p.1) ?_
  refine A0l (fun g0=>?_) (fun g0=>U3 (hK _ ?_))
  ·simp only[P9] at g0
   refine A0l (fun g1=>?_) (fun g1=>U3 (hK _ ?_))
   ·rw[gn] at g1
    refine W.load (v:=A4w p) ?_
    refine U3 (hK _ ?_)
    have g1:=of_decide_eq_true g1
    cases fl with
    |nil=>simp[cq]
    |cons a l=>simp[cq,g0,g1]
   ·rw[gn] at g1
    have g1:=of_decide_eq_false g1
    exact(decide_eq_false fun e=>g1 ⟨e.2.1,e.2.2.1⟩).symm
  ·simp only[H7,ne_eq] at g0
   exact(decide_eq_false fun e=>g0 e.1).symm
 refine W.cut (fun _=>X8 t b full T9::old h0::L4) (fun K3 lS=>?_) (fun _=>U3 (bg ()).sub)
 by_cases hk:p.1=10∧1≤p.2.2.2.2.1∧p.2.2.2.2.1≤65535∧fl≠[]
 ·rw[if_pos hk] at aK
  subst aK
  refine Y4 (by rw[oL];exact decide_eq_true hk) ?_
  refine s7 (v:=p) ?_
  refine Z3 (B7i (T:=T) (x:=x) (p:=p) (pl:=pl) (sl:=sl) (fl:=fl) ht ag.toj7 hc hb dB.eP dB.fil (At.bD ?_))
  exact U3 (lS ()).sub
 rw[if_neg hk] at aK
 refine W8 (by rw[oL];exact decide_eq_false hk) ?_
 clear oL hk
 refine W.load (v:=p.1) ?_
 refine W.cut (fun _=>X8 t b full T9::old h0::L4) (fun K4 gS=>?_) (fun _=>U3 (lS ()).sub)
 by_cases hk:p.1=12
 ·rw[if_pos hk] at aK
  subst aK
  refine Y4 (by simpa using hk) ?_
  refine B7C (k:=.u8) (j9 13 0 0) rfl rfl ?_
  refine Z3 (B8V (T:=T) (c:=x.c) (o:=j9 13 0 0) (ci:=⟨none,0,0⟩) (pi:=⟨none,0,0⟩) (by omega) (At.bD ?_))
  exact U3 (gS ()).sub
 rw[if_neg hk] at aK
 refine W8 (by simpa using hk) ?_
 clear hk
 refine W.load (v:=p.1) ?_
 refine W.cut (fun _=>X8 t b full T9::old h0::L4) (fun K5 wb=>?_) (fun _=>U3 (gS ()).sub)
 by_cases hk:p.1=14
 ·rw[if_pos hk] at aK
  subst aK
  refine Y4 (by simpa using hk) ?_
  refine W.load (v:=p.2.2.2.2.2.2.2.1) ?_
  have e:(p.2.2.2.2.2.2.2.1==4)=decide (p.2.2.2.2.2.2.2.1=4):=rfl
  refine Z3 (C3G (T:=T) (c:=x.c) (aX:=p.2.2.2.2.2.2.2.1==4) ht ag.toj7 (by omega) (by omega) (At.bD ?_))
  rw[e]
  exact U3 (wb ()).sub
 rw[if_neg hk] at aK
 subst aK
 refine W8 (by simpa using hk) ?_
 refine Z3 (A8O (T:=T) (c:=x.c) (code:=130) ht ag.toj7 (by omega) (by omega) (At.bD ?_))
 exact U3 (wb ()).sub
theorem C7Q{α:Type}{m:HM α}{Q':α→Heap→Prop}{t b:Nat}{full:Bool}{B:Z0}(hw:W (X8 t b full ⟨B,[],[]⟩::L2) m Q')(hx:Has L (cells t #[at0 b,.bool full,.slice none 0 0,.slice none 0 0]) L1:=by repeat first|with_reducible exact V1|apply V3)(hy:Has L1 (A0Q b B) L2:=by repeat first|with_reducible exact V1|apply V3):W L m Q':=fun h hs=>
 hw h (A00.2 (A2G.2 ⟨⟨none,0,0⟩,⟨none,0,0⟩,((B1L (Z5 (enc:=Z7) (size:=5) ((hx.then hy).s hs))).re [2,0,1,3])⟩))
theorem B9Q{b:Nat}{B:Z0}:∀h R,sat h (A0Q b B::R)→(B.aB.map (·.c)).Nodup∧B.kept.length≤64:=fun h R hs=>by
 obtain⟨p,h1⟩:=A1n.1 hs
 exact⟨B42 (h1.re [4,0,1,2,3]),C0M (h1.re [3,0,1,2])⟩
theorem C6H(hq:∀b,At (A0Q b ⟨0,[],[],[],[]⟩::L) (Q (at0 b))):FW prog 9 #[] L Q:=by
 refine fun h hs=>B3t h Q ((?_:W L _ _) h hs)
 clear hs h
 delta B6U az bn cp nw pu vi
 refine j2 (C5B (fun b1=>At.un (x:=some ⟨b1,0,none⟩) ?_))
 refine j2 (C7c (fun b2=>At.un ?_))
 refine j2 (C8B (fun b3=>At.un ?_))
 refine C9b (ek:=eKI) (ev:=eVC) fun b4=>?_
 refine Y2 fun b5=>?_
 refine W.eU (A:=A0Q b5 ⟨0,[],[],[],[]⟩) (B:=cells b5 (A75 ⟨b1,b2,b3,b4⟩)) (C:=A1q b1 0 []) (D:=j8 b2 []) (E:=A1x b3 []) (F:=mapA eKI eVC b4 []) (fun h hs=>A1n.2 ⟨⟨b1,b2,b3,b4⟩,hs⟩) ?_
 exact U3 (hq b5).sub
theorem A9E{b n:Nat}{full:Bool}{B:Z0}{c:Int}{p:Pk}{pl:List q9}{sl:List A0G}{fl:List B38}(ht:TP h0)(ag:X4 B n)(hn:n≤1000000)(dB:C20 p pl sl fl)(bO: -9223372036854775808≤c∧c≤9223372036854775807)
  (hq:∀so sp:Slc,At (W0 .u8 so (i6 full c (pkI p pl sl fl) B).outs::U6 Z7 5 sp (i6 full c (pkI p pl sl fl) B).aT::A0Q b (i6 full c (pkI p pl sl fl) B).b::old h0::L5) (Q (.agg #[.slice so.a so.len so.cap,.slice sp.a sp.len sp.cap])))
  (hx:Has L (A0Q b B) L1:=by repeat first|with_reducible exact V1|apply V3)(hy:Has L1 (old h0) L2:=by repeat first|with_reducible exact V1|apply V3)(hz:Has L2 (U6 Y3 5 (A0K p) sl) L3:=by repeat first|with_reducible exact V1|apply V3)(hw:Has L3 (U6 A0g 1 (A4w p) fl) L4:=by repeat first|with_reducible exact V1|apply V3)(hv:Has L4 (U6 X1 4 (A0r p) pl) L5:=by repeat first|with_reducible exact V1|apply V3):
  FW prog 13 #[at0 b,.int .i64 c,A2z .u8 p,.bool full] L Q:=by
 refine fun h hs=>A5p (some ⟨b,0,none⟩) c p full h Q ((?_:W (A0Q b B::old h0::U6 Y3 5 (A0K p) sl::U6 A0g 1 (A4w p) fl::U6 X1 4 (A0r p) pl::L5) _ _) h ((hx.eW hy hz hw hv).s hs))
 clear hs h hx hy hz hw hv
 obtain⟨T9,aK⟩:∃T9,T9=i6 full c (pkI p pl sl fl) B:=⟨_,rfl⟩
 rw[←aK] at hq
 unfold i6 at aK
 dsimp only at aK
 delta A4p az bn cx A02 ie ji km nn nw pu sn ve vi vs vz
 refine Y2 fun x1=>?_
 refine Y2 fun x2=>?_
 refine W8 rfl ?_
 refine Y2 fun x4=>?_
 refine W5 ?_
 refine A2j (fun h R=>A1n.1) fun q=>?_
 refine Z1 (fun h R hs=>B42 (m:=q.cm) (l:=B.aB) hs) fun bU=>?_
 refine W.load (v:=some q.cm) ?_
 refine W.lookup (kind:=.agg tC) kKI c ?_
 rw[A3T]
 refine Y2 fun x8=>?_
 refine A0n ?_
 refine W.eU (A:=A0Q b B) (B:=cells b (A75 q)) (C:=A1q q.tb B.last B.aD) (D:=j8 q.sb B.aH) (E:=A1x q.kb B.kept) (F:=mapA eKI eVC q.cm (B.aB.map A0j)) (fun h hs=>A1n.2 ⟨q,hs⟩) ?_
 refine C7Q (t:=x4) (b:=b) (full:=full) (B:=B) ?_
 refine W.cut (fun _=>X8 x4 b full T9::cells x2 #[.slice none 0 0,.slice none 0 0]::old h0::L5) (fun K hK=>?_) (fun _=>?_)
 ·clear hq
  cases hg:A1E c B.aB with
  |some x=>
   rw[hg] at aK
   simp only at aK
   subst aK
   have gz:=(A1T hg).2
   subst gz
   refine Y4 rfl ?_
   refine s7 (v:=p) ?_
   refine Z3 (C5P (T:=⟨B,[],[]⟩) (x:=x) (p:=p) (pl:=pl) (sl:=sl) (fl:=fl) ht ag hg (by simp) (by simp) dB (At.bD ?_))
   exact U3 (hK ()).sub
  |none=>
   rw[hg] at aK
   simp only at aK
   refine W8 rfl ?_
   refine W.load (v:=p.1) ?_
   refine W.cut (fun _=>X8 x4 b full T9::cells x2 #[.slice none 0 0,.slice none 0 0]::old h0::L5) (fun K2 bg=>?_) (fun _=>U3 (hK ()).sub)
   by_cases hk:p.1=1
   ·rw[if_pos hk] at aK
    subst aK
    refine Y4 (by simpa using hk) ?_
    refine s7 (v:=p) ?_
    refine Z3 (C4X (T:=⟨B,[],[]⟩) (c:=c) (p:=p) (pl:=pl) (sl:=sl) (fl:=fl) ht ag hn hg bO (by simp) (by simp) dB.aC dB.aX (by have:=dB.props;omega) (At.bD ?_))
    exact U3 (bg ()).sub
   ·rw[if_neg hk] at aK
    subst aK
    refine W8 (by simpa using hk) ?_
    refine B7C (k:=.u8) (j9 14 0 130) rfl rfl ?_
    refine Z3 (B9O (T:=⟨B,[],[]⟩) (c:=c) (o:=j9 14 0 130) (ci:=⟨none,0,0⟩) (pi:=⟨none,0,0⟩) (by simp) (At.bD ?_))
    show W (X8 x4 b full ⟨B,[⟨c,j9 14 0 130,true⟩],[]⟩::_) _ _
    exact U3 (bg ()).sub
 clear aK
 refine C2Z (A:=X8 x4 b full T9) (fun h R hs=>A00.1 hs) ?_
 refine W5 ?_
 refine A9f (fun h R=>A2G.1) fun so sp=>?_
 refine A8a (v:=(so,sp,())) ?_
 refine A0n ?_
 refine s7 (v:=(so,sp,())) ?_
 exact U3 (hq so sp).sub
theorem C7K{b n:Nat}{full:Bool}{B:Z0}{c:Int}(ht:TP h0)(ag:X4 B n)
  (hq:∀so sp:Slc,At (W0 .u8 so (A8j full c B).outs::U6 Z7 5 sp (A8j full c B).aT::A0Q b (A8j full c B).b::old h0::L2) (Q (.agg #[.slice so.a so.len so.cap,.slice sp.a sp.len sp.cap])))
  (hx:Has L (A0Q b B) L1:=by repeat first|with_reducible exact V1|apply V3)(hy:Has L1 (old h0) L2:=by repeat first|with_reducible exact V1|apply V3):
  FW prog 24 #[at0 b,.int .i64 c,.bool full] L Q:=by
 refine fun h hs=>A6s (some ⟨b,0,none⟩) c full h Q ((?_:W (A0Q b B::old h0::L2) _ _) h ((hx.then hy).s hs))
 clear hs h hx hy
 unfold A8j at hq
 delta A5q az bn cx ie nn nw pu sn vi vs vz
 refine Y2 fun x1=>?_
 refine W8 rfl ?_
 refine Y2 fun x3=>?_
 refine C7Q (t:=x3) (b:=b) (full:=full) (B:=B) ?_
 refine Z3 (C3G (T:=⟨B,[],[]⟩) (c:=c) (aX:=true) ht ag.toj7 (by simp) (by simp) (At.bD ?_))
 generalize A4n full c true ⟨B,[],[]⟩=T9 at hq⊢
 refine C2Z (A:=X8 x3 b full T9) (fun h R hs=>A00.1 hs) ?_
 refine W5 ?_
 refine A9f (fun h R=>A2G.1) fun so sp=>?_
 refine A8a (v:=(so,sp,())) ?_
 refine A0n ?_
 refine s7 (v:=(so,sp,())) ?_
 exact U3 (hq so sp).sub
theorem B62{b n:Nat}{B:Z0}{m:MsT}(ht:TP h0)(ag:X4 B n)(hm:m.1.size≤9223372036854775807)
  (hq:∀so:Slc,At (W0 .u8 so (z8 m B).outs::A0Q b (z8 m B).b::old h0::L2) (Q (.slice so.a so.len so.cap)))
  (hx:Has L (A0Q b B) L1:=by repeat first|with_reducible exact V1|apply V3)(hy:Has L1 (old h0) L2:=by repeat first|with_reducible exact V1|apply V3):
  FW prog 19 #[at0 b,vMs m] L Q:=by
 refine fun h hs=>A4U (some ⟨b,0,none⟩) (toU m) h Q ((?_:W (A0Q b B::old h0::L2) _ _) h ((hx.then hy).s hs))
 clear hs h hx hy
 unfold z8 at hq
 delta A3K az cx g7 ie kc nn nw pu vz
 refine Y2 fun x1=>?_
 refine W8 rfl ?_
 refine Y2 fun x2=>?_
 refine C7Q (t:=x2) (b:=b) (full:=false) (B:=B) ?_
 refine s7 (v:=toU m) ?_
 refine Z3 (C6h (T:=⟨B,[],[]⟩) (m:=m) ht ag.toj7 (by simp) hm (At.bD ?_))
 generalize A0p m ⟨B,[],[]⟩=T9 at hq⊢
 refine C2Z (A:=X8 x2 b false T9) (fun h R hs=>A00.1 hs) ?_
 refine W5 ?_
 refine A9f (fun h R=>A2G.1) fun so sp=>?_
 refine j4 (v:=so) ?_
 exact U3 (hq so).sub
theorem C2X{b:Nat}{B:Z0}(hl:B.aH.length≤10000)(hq:∀S:Slc,At (U6 eS 1 S (A3b B.aH)::A0Q b B::L1) (Q (.slice S.a S.len S.cap)))
  (hx:Has L (A0Q b B) L1:=by repeat first|with_reducible exact V1|apply V3):FW prog 20 #[at0 b] L Q:=by
 refine fun h hs=>A4T (some ⟨b,0,none⟩) h Q ((?_:W (A0Q b B::L1) _ _) h (hx.s hs))
 clear hs h hx
 delta A3J cc ie kp nn pu
 refine W8 rfl ?_
 refine W5 ?_
 refine A2j (fun h R=>A1n.1) fun q=>?_
 refine W.load ?_
 refine j2 (B9Y (t:=q.sb) (E:=B.aH) hl (fun S=>At.un (x:=S) ?_))
 refine W.eU (A:=A0Q b B) (B:=cells b (A75 q)) (C:=A1q q.tb B.last B.aD) (D:=j8 q.sb B.aH) (E:=A1x q.kb B.kept) (F:=mapA eKI eVC q.cm (B.aB.map A0j)) (fun h hs=>A1n.2 ⟨q,hs⟩) ?_
 exact U3 (hq S).sub
theorem C7y{m:Nat}(hq:∀x,At (cells x #[.map (some m)]::L) (Q (.func (.func (A3U.f 10)) #[] #[.pointer (some ⟨x,0,none⟩)]))):FW prog 41 #[.map (some m)] L Q:=fun h hs=>
 B0O (ρk:=A3U) C75 (some m) (hq h.size _ (hs.bG (T:=A3U.t 23) (cs:=#[.map (some m)])))
theorem C38{m x:Nat}{l:List Y6}(hw:∀x∈l,-9223372036854775808≤x.c∧x.c≤9223372036854775807)(hl:l.length≤1000000)(hq:∀S:Slc,At (U6 eI 1 S (Z4 (l.map (·.c)))::mapA eKI eVC m (l.map A0j)::L2) (Q (.slice S.a S.len S.cap)))
  (hx:Has L (mapA eKI eVC m (l.map A0j)) L1:=by repeat first|with_reducible exact V1|apply V3)(hy:Has L1 (cells x #[.map (some m)]) L2:=by repeat first|with_reducible exact V1|apply V3):FW prog 40 #[.func (.func (A3U.f 10)) #[] #[.pointer (some ⟨x,0,none⟩)]] L Q:=fun h hs=>by
 have h1:=(hx.then hy).s hs
 refine A7k (ρk:=A3U) (ρs:=A5H) (ρt:=A7l) C75 B8Q C1Q rfl (enters_of func76 (by kernel_rfl) rfl) (enters_of func77 (by kernel_rfl) rfl) h1
  (fun p hp=>?_) (by rw[C1];omega) ((h1.re [1,0]).cell 0) fun s h' af=>?_
 ·obtain⟨y,hy,rfl⟩:=E4.1 hp
  have:=hw y hy
  simp[Lit.wf,IntKind.min,IntKind.max,IntKind.bits,IntKind.signed]
  omega
 ·rw[F1] at af
  exact hq s h' ((af.re [2,0,1]).drop)
theorem B78:∀{l l':List Int},l.Nodup→(∀x∈l,x∈l')→l.length≤l'.length
 |[],_,_,_=>D1 _
 |x::l,l',hn,hs=>by
  obtain⟨a,b,rfl⟩:=H0 (hs x (B4 ..))
  have h1:=F4.1 hn
  have:=B78 (l:=l) (l':=a++b) h1.2 fun y hy=>by
   rcases C9.1 (hs y (C3 _ hy)) with h|h
   ·exact K9 _ h
   ·rcases D2.1 h with rfl|h
    ·exact absurd hy h1.1
    ·exact G6 _ h
  simp only[B5,B7] at this⊢
  omega
theorem A9C{B:Z0}{n:Nat}(h:X4 B n):B.aB.length≤1000000:=by
 have h1:(B.aB.map (·.aD)).Nodup:=by
  rw[List.nodup_iff_count]
  intro i
  have:=h.one i
  rw[List.count_eq_countP,List.countP_map,List.countP_eq_length_filter]
  exact this
 have h3:=B78 h1 (l':=B.aD.map (·.id)) fun i hi=>by
  obtain⟨x,hx,rfl⟩:=E4.1 hi
  obtain⟨s,hs,e⟩:=h.cl x hx
  exact e▸B3 hs
 simp only[C1] at h3
 have:=h.n32
 omega
theorem C1n{b n:Nat}{B:Z0}(ag:X4 B n)(hq:∀S:Slc,At (U6 eI 1 S (Z4 (B.aB.map (·.c)))::A0Q b B::L1) (Q (.slice S.a S.len S.cap)))
  (hx:Has L (A0Q b B) L1:=by repeat first|with_reducible exact V1|apply V3):FW prog 17 #[at0 b] L Q:=by
 refine fun h hs=>A5B (some ⟨b,0,none⟩) h Q ((?_:W (A0Q b B::L1) _ _) h (hx.s hs))
 clear hs h hx
 delta A4H bn cc ie km nn pu
 refine W8 rfl ?_
 refine W5 ?_
 refine A2j (fun h R=>A1n.1) fun q=>?_
 refine W.load (v:=some q.cm) ?_
 refine j2 (C7y (m:=q.cm) fun x=>At.un (x:=Value.func (.func (A3U.f 10)) #[] #[.pointer (some ⟨x,0,none⟩)]) ?_)
 refine j2 (C38 (m:=q.cm) (l:=B.aB) (fun x hx=>(ag.wl x hx).2) (A9C ag) fun S=>At.un (x:=S) ?_)
 refine W.eU (A:=A0Q b B) (B:=cells b (A75 q)) (C:=A1q q.tb B.last B.aD) (D:=j8 q.sb B.aH) (E:=A1x q.kb B.kept) (F:=mapA eKI eVC q.cm (B.aB.map A0j)) (fun h hs=>A1n.2 ⟨q,hs⟩) ?_
 exact U3 (hq S).sub
theorem C2W{b n:Nat}{B:Z0}(ht:TP h0)(ag:X4 B n)(hq:At (A0Q b (A1Q B)::old h0::L2) (Q (.tuple #[])))
  (hx:Has L (A0Q b B) L1:=by repeat first|with_reducible exact V1|apply V3)(hy:Has L1 (old h0) L2:=by repeat first|with_reducible exact V1|apply V3):FW prog 25 #[at0 b] L Q:=by
 refine fun h hs=>A4S (some ⟨b,0,none⟩) h Q ((?_:W (A0Q b B::old h0::L2) _ _) h ((hx.then hy).s hs))
 clear hs h hx hy
 delta A3I az bn cc cx ie ix li nw pu vi vz wi
 refine Y2 fun x1=>?_
 refine j2 (C1n (b:=b) (B:=B) ag (fun S=>At.un (x:=S) ?_))
 have hp:(Z4 (B.aB.map (·.c))).Perm (B.aB.map (·.c)):=R0 _ _
 rw[←B83 ag hp] at hq
 have bd:=A9C ag
 have hlen:(Z4 (B.aB.map (·.c))).length≤1000000:=by rw[hp.length_eq,C1];exact bd
 generalize Z4 (B.aB.map (·.c))=l at hq hlen⊢
 refine C7Q (t:=x1) (b:=b) (full:=false) (B:=B) ?_
 refine Z1 (X5 (enc:=eI) (size:=1) (s:=S) (xs:=l)) fun hl=>?_
 refine W.loop (γ:=Nat×Z0) (fun g s=>s.1=(g.1:Int)∧g.1≤l.length∧X4 g.2 n∧(l.drop g.1).foldl A5j g.2=l.foldl A5j B) (fun g s=>X8 x1 b false ⟨g.2,[],[]⟩::U6 eI 1 S l::old h0::L2) (fun g=>l.length-g.1) (0,B) ⟨rfl,D1 _,ag,rfl⟩ ?_ ?_
 ·show Sub _ (X8 x1 b false ⟨B,[],[]⟩::U6 eI 1 S l::old h0::L2)
  repeat(first|with_reducible exact T7|with_reducible exact T8|refine U0 (by repeat first|with_reducible exact V1|apply V3) ?_|refine U1 ?_)
 rintro⟨i,B1⟩ s ⟨hi,cn,aL,hf⟩ K k1 k2
 simp only at hi cn aL hf
 by_cases ah:i<l.length
 ·refine Y4 (by rw[hi,hl];exact decide_eq_true (by omega)) ?_
  have aY:l[i]? =some l[i]:=B0 ah
  rw[E1 ah,H3] at hf
  generalize l[i]=u at aY hf
  refine j5 (enc:=eI) (xs:=l) (i:=i) ah (fun a ha=>?_) (he:=hi)
  refine B4P (x:=u) (v:=u) ha aY ?_
  refine Z3 (C3G (T:=⟨B1,[],[]⟩) (c:=u) (aX:=false) ht aL.toj7 (by simp) (by simp) (At.bD ?_))
  rw[C2E]
  have f1:IntKind.wrap .i64 (s.1+1)=((i+1:Nat):Int):=by rw[hi,V8 (by omega) (by omega)];rfl
  have hn:=k1 (i+1,A5j B1 u) (IntKind.wrap .i64 (s.1+1),()) (by simp only;omega) ⟨f1,ah,B9A aL,hf⟩
  exact U3 hn.sub
 ·refine W8 (by rw[hi,hl];exact decide_eq_false (by omega)) (U3 (k2 _ _ ?_))
  have en:i=l.length:=by omega
  subst en
  rw[J8,P3] at hf
  rw[hf]
  refine C2Z (A:=X8 x1 b false ⟨l.foldl A5j B,[],[]⟩) (fun h R hs=>A00.1 hs) ?_
  exact U3 hq.sub
end
section
open Go.H Go.Proofs Go.Lib
theorem C5W{t:B38}(h0:0<t.size)(h1:(t[0]'h0).toNat<128)(h2:(t[0]'h0).toNat≠0):A2n t=1:=by
 have hd:Lib.decodeGo t=((t[0]'h0).toNat,1):=by
  unfold Lib.decodeGo
  rw[if_neg (by omega)]
  exact decode_ascii t 0 h0 h1
 unfold A2n
 rw[hd]
 rw[if_neg]
 rintro(e|⟨e,-⟩)
 ·exact h2 e
 ·simp only at e;omega
theorem C4O{s:B38}(hs:∀(i:Nat) (h:i<s.size),(s[i]'h).toNat<128∧(s[i]'h).toNat≠0):r7 s=none:=by
 have key:∀(f a:Nat),A5Z s f a=none:=by
  intro f
  induction f with
  |zero=>intro a;rfl
  |succ f ih=>
   intro a
   unfold A5Z
   by_cases ha:a<s.size
   ·rw[if_pos ha]
    have hsz:0<(s.extract a s.size).size:=by rw[ByteArray.size_extract];omega
    have hg:(s.extract a s.size)[0]'hsz=s[a]'ha:=by
     rw[ByteArray.getElem_extract];congr 1
    have:=C5W hsz (by rw[hg];exact(hs a ha).1) (by rw[hg];exact(hs a ha).2)
    rw[this,if_neg (by decide)]
    exact ih _
   ·rw[if_neg ha]
 exact key _ _
def C7L(s:B38):Bool:=s.data.toList.all fun c=>decide (c.toNat<128)&&decide (c.toNat≠0)
theorem B2f{s:B38}(h:C7L s=true):r7 s=none:=C4O fun i hi=>by
 unfold C7L at h
 have:=I8.1 h (s[i]'hi) (by
  have:s[i]'hi=s.data.toList[i]'(by simpa using hi):=by simp[ByteArray.getElem_eq_getElem_data]
  rw[this];exact G8 _)
 simpa using this
theorem A9p(s:B38):levels s=(lev 47 [] s.data.toList).map fun l=>ByteArray.mk l.toArray:=by
 refine A7z ?_
 rw[A27,F1]
 symm
 refine(I2 fun x _=>?_).trans (T6 _)
 simp
def B8S(s:B38):Bool:=C7L s&&decide (s.data.toList.length≠0)&&decide (s.data.toList.length≤256)&&decide ((lev 47 [] s.data.toList).length≤32)
theorem B7L{s:B38}(h:B8S s=true):A1r s=true:=by
 unfold B8S at h
 simp only[E9,decide_eq_true_eq] at h
 obtain⟨⟨⟨h1,h2⟩,h3⟩,h4⟩:=h
 refine A05.2 ⟨B2f h1,by simpa using h2,by simpa using h3,?_⟩
 rw[A9p,C1];exact h4
theorem C53{s:B38}(h:B8S s=true)(h1:hasB 43 s=false)(h2:hasB 35 s=false):Z6 s=true:=by
 unfold Z6;rw[B7L h,h1,h2];rfl
theorem B6i{s:B38}(h:B8S s=true)(h1:A4k ((lev 47 [] s.data.toList).map fun l=>ByteArray.mk l.toArray)=true):X6 s=true:=by
 unfold X6;rw[B7L h,A9p,h1];rfl
theorem B8e{f n:B38}(hf:X6 f=true)(hn:Z6 n=true)(hd:A36 f n=false)(hm:A2w ((lev 47 [] f.data.toList).map fun l=>ByteArray.mk l.toArray) ((lev 47 [] n.data.toList).map fun l=>ByteArray.mk l.toArray)=true):Y1 f n=true:=by
 unfold Y1;rw[hf,hn,hd,A9p,A9p,hm];rfl
theorem C0V{s:B38}(h:C7L s=true)(h1:s≠ByteArray.mk #[])(h2:s.size≤64):b6 s:=⟨B2f h,h1,h2⟩
open Go.H Go.Proofs
abbrev w0:MsT:=(e0S,e0S,0,false,e0S)
abbrev B36(aC:B38):PkI:={kind:=1,cZ:=false,dY:=0,id:=0,bX:=e0S,cK:=e0S,code:=0,props:=[(17,100,e0S,e0S)],aC:=aC,clean:=false,bE:=false,aX:=w0,aH:=[],bM:=[]}
abbrev C7e(id:Int)(sl:List A0G):PkI:={kind:=8,cZ:=false,dY:=0,id:=id,bX:=e0S,cK:=e0S,code:=0,props:=[],aC:=e0S,clean:=false,bE:=false,aX:=w0,aH:=sl,bM:=[]}
abbrev D0h(m:MsT)(id:Int):PkI:={kind:=3,cZ:=m.2.2.2.1,dY:=m.2.2.1,id:=id,bX:=m.1,cK:=m.2.1,code:=0,props:=[],aC:=e0S,clean:=false,bE:=false,aX:=w0,aH:=[],bM:=[]}
def A84(id:Int)(c:B38):V7:=⟨id,c,true,true,⟨⟨64,0,[]⟩,64,true,[],[]⟩,⟨64,0,[]⟩⟩
def C2l(c:Int)(aC:B38)(B:Z0):Z0:=⟨B.last+1,B.aD++[A84 (B.last+1) aC],B.aH,B.kept,B.aB++[⟨c,B.last+1,false,w0⟩]⟩
theorem C1k:A0s ⟨⟨64,0,[]⟩,64,false,[],[]⟩ 64=(⟨⟨64,0,[]⟩,64,true,[],[]⟩,[]):=by
 unfold A0s Y7
 simp[goF]
 decide
theorem C3Y{l:List Y6}{id:Int}:A1U l id []=[]:=by
 unfold A1U
 simp
theorem C4a{A:List V7}{s:V7}{f:V7→V7}(hn:∀x∈A,x.id≠s.id):X7 s.id f (A++[s])=A++[f s]:=by
 unfold X7
 rw[C0,B6,I3,if_pos rfl]
 congr 1
 have:A.map (fun x=>if x.id=s.id then f x else x)=A.map id:=I2 fun x hx=>if_neg (hn x hx)
 rw[this,T6]
theorem C4K{A:List V7}{s:V7}(hn:∀x∈A,x.id≠s.id):A4N s.id (A++[s])=some s:=by
 unfold A4N
 rw[P4,E8.2 (fun x hx=>by simpa using hn x hx)]
 simp
theorem join_eq{full:Bool}{B:Z0}{n:Nat}{c:Int}{aC:B38}(h:X4 B n)(hc:A1E c B.aB=none)(ho:ofS aC B.aD=none)(hl:B.aB.length<64)(hg:b6 aC)(eK:B.aD.length<32):
  i6 full c (B36 aC) B=⟨C2l c aC B,[⟨c,A2a false,false⟩],[]⟩:=by
 have hb:A6t (B36 aC) B=0:=by
  unfold A6t
  rw[if_neg (by simp),if_neg (by omega),if_neg (fun e=>e hg),if_neg (by omega)]
 have ay:∀x∈B.aD,x.id≠(A2v (B.last+1) aC true).id:=fun x hx=>by
  have:=(h.dW x hx).2
  show x.id≠B.last+1
  omega
 have hr:b9 aC false true B=((B.last+1,false),{B with last:=B.last+1,aD:=B.aD++[A2v (B.last+1) aC true]}):=by
  unfold b9;rw[ho]
 have hk:A0O full aC ⟨B,[],[]⟩=⟨B,[],[]⟩:=by unfold A0O;rw[ho]
 have iT:A0c [(17,100,e0S,e0S)]=true:=by unfold A0c A0Z;rfl
 have xw:A1X [(17,100,e0S,e0S)]=64:=by unfold A1X A0Z;rfl
 unfold i6
 rw[hc]
 simp only[if_true]
 unfold A1m
 rw[if_neg (by simpa using hb),A3X]
 simp only[hk,iT,xw,hr,ho]
 unfold A0F
 have xK:A4N (B.last+1) (B.aD++[A2v (B.last+1) aC true])=some (A2v (B.last+1) aC true):=C4K ay
 simp only[xK]
 have kh:A0s (A2v (B.last+1) aC true).out 64=(⟨⟨64,0,[]⟩,64,true,[],[]⟩,[]):=C1k
 rw[kh]
 have jD:X7 (B.last+1) (Y9 ⟨⟨64,0,[]⟩,64,true,[],[]⟩) (B.aD++[A2v (B.last+1) aC true])=B.aD++[A84 (B.last+1) aC]:=C4a ay
 simp only[jD,A1Z]
 show V0.mk _ (_++A1U _ _ []) _=_
 rw[C3Y,C2]
 rfl
abbrev tAP:B38:=ByteArray.mk #[97,47,43]
abbrev tH:B38:=ByteArray.mk #[35]
abbrev tAB:B38:=ByteArray.mk #[97,47,98]
abbrev tC1:B38:=ByteArray.mk #[99]
abbrev tD1:B38:=ByteArray.mk #[100]
abbrev tX1:B38:=ByteArray.mk #[120]
theorem C71:X6 tAP=true:=B6i (by decide) (by decide)
theorem C9x:X6 tH=true:=B6i (by decide) (by decide)
theorem C5T:Z6 tAB=true:=C53 (by decide) (by decide) (by decide)
theorem C9y:Y1 tAP tAB=true:=B8e C71 C5T (by decide) (by decide)
theorem D0i:Y1 tH tAB=true:=B8e C9x C5T (by decide) (by decide)
theorem C9C:b6 tC1:=C0V (by decide) (by decide) (by decide)
theorem C9B:b6 tD1:=C0V (by decide) (by decide) (by decide)
abbrev slW:List A0G:=[(tAP,1,false,false,0),(tH,0,false,false,0)]
def B1w:Z0:=C2l 1 tC1 ⟨0,[],[],[],[]⟩
def E1w:List Ent:=[(1,tH,0),(1,tAP,1)]
def B2w:Z0:=B4k E1w B1w
def B3w:Z0:=C2l 2 tD1 B2w
theorem C9S:A2P [] 1 tAP 1=(0,[(1,tAP,1)]):=by
 unfold A2P
 rw[if_neg (by rw[C71];decide),if_neg (by decide)]
 rfl
theorem C9R:A2P [(1,tAP,1)] 1 tH 0=(0,E1w):=by
 unfold A2P
 rw[if_neg (by rw[C9x];decide),if_neg (by decide)]
 have e:List.findIdx? (fun x=>decide (b8 x=(1,tH))) [((1:Int),tAP,(1:Int))]=none:=by decide
 rw[e]
 simp only
 rw[if_neg (by decide)]
 have e2:A2y ltK b8 ((1:Int),tH,(0:Int)) [((1:Int),tAP,(1:Int))]=E1w:=by
  unfold A2y
  rw[if_pos (by decide)]
  rfl
 rw[e2]
theorem D0k:j6 1 slW []=(E1w,[1,0]):=by
 unfold j6
 simp only[C9S]
 unfold j6
 simp only[C9R]
 unfold j6
 rfl
theorem C85:added 1 slW []=slW:=by
 unfold added
 simp only[C9S]
 unfold added
 simp only[C9R]
 unfold added
 rfl
theorem C2d:X4 ⟨0,[],[],[],[]⟩ 0:=X4.new
theorem w1:i6 false 1 (B36 tC1) ⟨0,[],[],[],[]⟩=⟨B1w,[⟨1,A2a false,false⟩],[]⟩:=join_eq C2d rfl rfl (by decide) C9C (by decide)
theorem w2:i6 false 1 (C7e 1 slW) B1w=⟨B2w,[⟨1,A0S 9 1 [1,0],false⟩],[]⟩:=by
 unfold i6
 have hg:A1E 1 B1w.aB=some ⟨1,1,false,w0⟩:=rfl
 rw[hg]
 simp only
 unfold A8T
 rw[if_neg (by decide),if_neg (by decide),if_pos (by decide)]
 unfold A04
 have hs:B1w.aH=[]:=rfl
 have hk:B1w.kept=[]:=rfl
 simp only[hs,D0k,C85]
 unfold j3
 simp only[H3,P3]
 rw[if_neg (by decide)]
 simp only[hk,A6k,J5,P3]
 rw[if_neg (by decide)]
 rfl
theorem C9w:X4 B1w 1:=by
 have:=(A5e (full:=false) (c:=1) (p:=B36 tC1) C2d (by simp) (by simp) (by decide) (by decide) (by decide)).1
 rw[w1] at this;exact this
theorem C5R:X4 B2w 2:=by
 have:=(A5e (full:=false) (c:=1) (p:=C7e 1 slW) C9w (by decide) (by decide) (by decide) (by decide) (by decide)).1
 rw[w2] at this;exact this
theorem w3:i6 false 2 (B36 tD1) B2w=⟨B3w,[⟨2,A2a false,false⟩],[]⟩:=join_eq C5R rfl (by decide) (by decide) C9B (by decide)
theorem C9v:X4 B3w 3:=by
 have:=(A5e (full:=false) (c:=2) (p:=B36 tD1) C5R (by decide) (by decide) (by decide) (by decide) (by decide)).1
 rw[w3] at this;exact this
abbrev mW:MsT:=(tAB,tX1,2,false,e0S)
theorem C5A(m:MsT)(hm:m.2.2.1=1):∃o i,Y0 ⟨⟨64,0,[]⟩,64,true,[],[]⟩ m=((o,[A0y m i false]),0):=by
 unfold Y0
 rw[if_neg (by omega),if_neg (by omega),if_neg (by simp)]
 unfold Y7
 rw[if_pos rfl]
 simp only[F0]
 unfold goF
 rw[if_neg (by simp),if_pos (by omega)]
 simp only[goF]
 exact⟨_,_,rfl⟩
theorem w4:∃B p i,i6 false 2 (D0h mW 9) B3w=⟨B,[⟨2,j9 5 9 0,false⟩,⟨1,A0y p i false,false⟩],[mW]⟩∧p.2.2.1=1:=by
 unfold i6
 have hg:A1E 2 B3w.aB=some ⟨2,2,false,w0⟩:=rfl
 rw[hg]
 simp only
 unfold A8T
 rw[if_pos (by decide)]
 unfold A5F
 have vN:A4N 2 B3w.aD=some (A84 2 tD1):=rfl
 rw[if_neg (by rw[C5T];decide),vN]
 have ht:l9 (A84 2 tD1).aZ 3 2 9 0=(true,some (5,0),0,[9]):=by decide
 simp only[ht,if_neg (show ¬(false=true) by decide)]
 rw[if_neg (by simp),if_pos (by simp)]
 unfold A3n A0p A1k
 rw[if_neg (by decide)]
 have iE:B3w.aH=E1w:=rfl
 have hf:E1w.filter (fun x=>Y1 x.2.1 tAB)=E1w:=H4.2 fun x hx=>by
  rcases D2.1 hx with rfl|hx
  ·exact D0i
  ·rw[B8.1 hx];exact C9y
 simp only[iE,hf]
 have hid:A3v none E1w=[1]:=by decide
 rw[hid]
 simp only[H3,P3]
 have dU:min (2:Int) (A2u E1w 1)=1:=by decide
 unfold A0b
 simp only[dU]
 unfold A0F
 obtain⟨o,i,xd⟩:=C5A (tAB,tX1,1,false,e0S) rfl
 have xM:A4N 1 (X7 2 (j1 ⟨(A84 2 tD1).aZ.most,(A84 2 tD1).aZ.taken,[9]⟩) B3w.aD)=some (A84 1 tC1):=rfl
 simp only[xM]
 have tn:(A84 1 tC1).out=⟨⟨64,0,[]⟩,64,true,[],[]⟩:=rfl
 rw[tn,xd]
 exact⟨_,(tAB,tX1,1,false,e0S),i,rfl,rfl⟩
variable {h h0:Heap} {L L' L1 L2 L3 L4 L5 R:List Asn} {Q:Value→Heap→Prop}
theorem C47{β γ:Type}{t:Tag}{enc:γ→D0u}{size:Nat}{s:Slc}{xs:List γ}{Q':β→Heap→Prop}{i j k:Nat}{a:Addr}{x:γ}{v:t.ty}{f:t.ty→HM β}(ha:El s size i a)(hi:xs[i]? =some x)(hw:W L (f v) Q')(hx:Has L (U6 enc size s xs) L':=by repeat first|with_reducible exact V1|apply V3)(hv:((enc x)[j+k]?).bind t.get=some v:=by rfl)[Enc enc size]:W L (HM.bind (p8 t (Addr.add (Addr.add a j) k)) f) Q':=by
 rw[A9e]
 exact A4z ha hi hw hx hv
theorem C6T{α γ:Type}{enc:γ→D0u}{size:Nat}{m:HM α}{Q':α→Heap→Prop}{x:Nat}{cs:D0t}(u:γ)(hw:W (U6 enc size ⟨some ⟨x,0,none⟩,1,1⟩ [u]::L') m Q')(hx:Has L (cells x cs) L':=by repeat first|with_reducible exact V1|apply V3)(hc:cs=(enc u).toArray:=by rfl)[Enc enc size]:W L m Q':=fun h hs=>by
 subst hc
 refine hw h (A1J (b:=x) (o:=0) (cs:=(enc u).toArray) ⟨by simp,D8 _,rfl,by simp[Enc.len (enc:=enc)],by
  simp[Enc.len (enc:=enc)]
  exact D4 (T5 (Enc.len u))⟩ (hx.s hs))
abbrev o7:Slc:=⟨none,0,0⟩
abbrev B39(x:Nat)(aC:B38):Pk:=(1,false,false,0,0,e0S,e0S,0,o7,⟨some ⟨x,0,none⟩,1,1⟩,aC,false,0,false,e0S,e0S,0,false,o7,false,false,e0S,e0S,false,o7,o7,())
abbrev C8h(S:Slc)(id:Int):Pk:=(8,false,false,0,id,e0S,e0S,0,o7,o7,e0S,false,0,false,e0S,e0S,0,false,o7,false,false,e0S,e0S,false,S,o7,())
abbrev C7t(m:MsT)(id:Int):Pk:=(3,false,m.2.2.2.1,m.2.2.1,id,m.1,m.2.1,0,o7,o7,e0S,false,0,false,e0S,e0S,0,false,o7,false,false,e0S,e0S,false,o7,o7,())
theorem A52:e0S.size≤9223372036854775807:=by decide
theorem C6c{x:Nat}{aC:B38}(h:aC.size≤9223372036854775807):C20 (B39 x aC) [(17,100,e0S,e0S)] [] []:=⟨A52,h,A52,by decide,by decide,by simp,by decide,by simp⟩
theorem C7f{S:Slc}{id:Int}{sl:List A0G}(h:sl.length≤100)(h2:∀s∈sl,s.1.size≤9223372036854775807):C20 (C8h S id) [] sl []:=⟨A52,A52,A52,by decide,h,h2,by decide,by simp⟩
theorem C7s{m:MsT}{id:Int}(h:m.1.size≤9223372036854775807):C20 (C7t m id) [] [] []:=⟨h,A52,A52,by decide,by decide,by simp,by decide,by simp⟩
theorem C6b{b n:Nat}{B B1 B2:Z0}{c:Int}{aC:B38}{sl:List A0G}{S:Slc}{o1 o2:r8}{r1 r2:List r8}{ps:List MsT}(ht:TP h0)(ag:X4 B n)(hn:n≤999999)(au:(B.aB.map (·.c)).Nodup)(j':B.kept.length≤64)(bO: -9223372036854775808≤c∧c≤9223372036854775807)(bd:aC.size≤9223372036854775807)
  (cH:sl.length≤100)(jD:∀s∈sl,s.1.size≤9223372036854775807)
  (h1:i6 false c (B36 aC) B=⟨B1,o1::r1,[]⟩)(ej:o1.pk.kind=2)(fy:o1.pk.code=0)
  (h2:(sl=[]∧B2=B1)∨(sl≠[]∧i6 false c (C7e 1 sl) B1=⟨B2,o2::r2,ps⟩∧o2.pk.kind=9∧o2.pk.cB.length=sl.length))
  (hq:At (A0Q b B2::old h0::L3) (Q (.bool true)))(hx:Has L (A0Q b B) L1:=by repeat first|with_reducible exact V1|apply V3)(hy:Has L1 (old h0) L2:=by repeat first|with_reducible exact V1|apply V3)(hz:Has L2 (U6 Y3 5 S sl) L3:=by repeat first|with_reducible exact V1|apply V3):
  FW prog 11 #[at0 b,.int .i64 c,.string aC,.slice S.a S.len S.cap] L Q:=by
 refine fun h hs=>B29 (some ⟨b,0,none⟩) c aC S h Q ((?_:W (A0Q b B::old h0::U6 Y3 5 S sl::L3) _ _) h ((hx.cU hy hz).s hs))
 clear hs h hx hy hz
 have aL:X4 B1 (n+1):=by
  have:=(A5e (full:=false) (c:=c) (p:=B36 aC) ag au j' (by simp) A52 bO).1
  rw[h1] at this;exact this
 delta B5Z az bn ie ix jc kc ki ku nw pu sn ve vi vs vz
 refine Y2 fun x1=>?_
 refine C6T (enc:=X1) ((17,100,e0S,e0S):q9) ?_
 refine A4V Y3 5 ?_
 refine A4V A0g 1 ?_
 refine j2 (A9E (p:=B39 x1 aC) (pl:=[(17,100,e0S,e0S)]) (sl:=[]) (fl:=[]) (full:=false) ht ag (by omega) (C6c bd) bO (fun so sp=>At.un (x:=(so,sp,())) ?_))
 rw[show i6 false c (pkI (B39 x1 aC) [(17,100,e0S,e0S)] [] []) B=⟨B1,o1::r1,[]⟩ from h1]
 dsimp only
 refine Y2 fun x3=>?_
 refine A0n ?_
 refine Z1 (X5 (enc:=Z7) (size:=5) (s:=sp) (xs:=([]:List MsT))) fun fu=>?_
 refine B9S (fun h R=>A2C.1) fun T hT=>?_
 obtain⟨⟨c1,p1,o⟩,T,rfl⟩:∃a T',T=a::T':=by cases T with|nil=>cases hT|cons a T=>exact⟨a,T,rfl⟩
 have yc:o=o1:=(List.cons.inj hT).1
 clear hT
 subst yc
 refine Z1 (X5 (enc:=A0P .u8) (size:=28) (s:=so) (xs:=((c1,p1,o)::T).map ouF)) fun gB=>?_
 refine A1g (fun r=>r.1=false) (fun K hK=>?_) (fun r hr=>?_)
 ·refine W.load (v:=so) ?_
  refine W8 (by rw[gB];exact decide_eq_false (by simp only[B6,B7];omega)) ?_
  refine W.load (v:=so) ?_
  refine j5 (enc:=A0P .u8) (xs:=((c1,p1,o)::T).map ouF) (i:=0) (by simp) (fun a ha=>?_)
  refine C47 (x:=ouF (c1,p1,o)) (v:=o.pk.kind) ha rfl ?_
  refine W8 (by rw[ej];rfl) ?_
  refine W.load (v:=so) ?_
  refine j5 (enc:=A0P .u8) (xs:=((c1,p1,o)::T).map ouF) (i:=0) (by simp) (fun a2 dI=>?_)
  refine C47 (x:=ouF (c1,p1,o)) (v:=o.pk.code) dI rfl ?_
  refine W8 (by rw[fy];rfl) ?_
  refine j4 (b:=x3) (i:=1) (v:=sp) ?_
  refine U3 (hK _ ?_)
  rw[fu];rfl
 refine W8 hr ?_
 refine Z1 (X5 (enc:=Y3) (size:=5) (s:=S) (xs:=sl)) fun fa=>?_
 rcases h2 with⟨rfl,rfl⟩|⟨bF,h2,gr,eH⟩
 ·refine Y4 (by rw[fa];rfl) ?_
  exact U3 hq.sub
 ·refine W8 (by rw[fa];exact decide_eq_false (fun e=>bF (K6.1 (by omega)))) ?_
  refine A4V X1 4 ?_
  refine A4V A0g 1 ?_
  refine j2 (A9E (B:=B1) (p:=C8h S 1) (pl:=[]) (sl:=sl) (fl:=[]) (full:=false) ht aL (by omega) (C7f cH jD) bO (fun gg iC=>At.un (x:=(gg,iC,())) ?_))
  rw[show i6 false c (pkI (C8h S 1) [] sl []) B1=⟨B2,o2::r2,ps⟩ from h2]
  dsimp only
  refine Y2 fun pA=>?_
  refine A0n ?_
  refine B9S (fun h R hs=>(A2C (k:=.u8) (s:=gg) (os:=o2::r2)).1 hs) fun T2 om=>?_
  obtain⟨⟨c2,p2,o'⟩,T2,rfl⟩:∃a T',T2=a::T':=by cases T2 with|nil=>cases om|cons a T=>exact⟨a,T,rfl⟩
  have uB:o'=o2:=(List.cons.inj om).1
  clear om
  subst uB
  refine Z1 (X5 (enc:=A0P .u8) (size:=28) (s:=gg) (xs:=((c2,p2,o')::T2).map ouF)) fun tI=>?_
  refine Z1 (A:=a7 (ouB .u8) ((c2,p2,o')::T2)) (p:=c2.len=o'.pk.cB.length) (fun h R hs=>?_) fun ur=>?_
  ·have h5:sat h (a7 (ouB .u8) [(c2,p2,o')]::a7 (ouB .u8) T2::R):=A5r.1 hs
   have h6:=A4K.1 (A30.1 h5)
   exact h6.aW
  refine A1g (fun r=>r.1=true) (fun K hK=>?_) (fun r ck=>?_)
  ·refine W.load (v:=gg) ?_
   refine Y4 (by rw[tI];exact decide_eq_true (by simp only[B6,B7];omega)) ?_
   refine W.load (v:=gg) ?_
   refine j5 (enc:=A0P .u8) (xs:=((c2,p2,o')::T2).map ouF) (i:=0) (by simp) (fun a ha=>?_)
   refine C47 (x:=ouF (c2,p2,o')) (v:=o'.pk.kind) ha rfl ?_
   refine Y4 (by rw[gr];rfl) ?_
   refine W.load (v:=gg) ?_
   refine j5 (enc:=A0P .u8) (xs:=((c2,p2,o')::T2).map ouF) (i:=0) (by simp) (fun a2 dI=>?_)
   refine C47 (x:=ouF (c2,p2,o')) (v:=c2) dI rfl ?_
   refine U3 (hK _ ?_)
   rw[ur,eH,fa];simp
  refine U3 ?_
  show At _ (Q (.bool r.1))
  rw[ck]
  exact hq.sub
end
section
open Go.H Go.Proofs
variable {h h0:Heap} {L L' L1 L2 L3 L4 L5 R:List Asn} {Q:Value→Heap→Prop}
theorem C9V{β:Type}{b o:Nat}{cs cs':D0t}{vs:D0u}{f:Unit→HM β}{Q':β→Heap→Prop}(hw:W (cells b cs'::L') (f ()) Q')(hx:Has L (cells b cs) L':=by repeat first|with_reducible exact V1|apply V3)(hc:cs.toList.take o++vs++cs.toList.drop (o+vs.length)=cs'.toList:=by rfl)(hl:(o+vs.length).ble cs.size=true:=by rfl)(hv:vs.all (fun v=>v.oneCell')=true:=by rfl):
  W L (HM.bind (B0n (Addr.add ⟨b,0,none⟩ o) vs) f) Q':=fun h hs=>by
 have aa:=hx.s hs
 have gq:o+vs.length≤cs.size:=O6 hl
 rw[U4]
 refine⟨A3A (o:=o) aa gq (I8.1 hv),?_⟩
 obtain⟨c2,e1,e2,h2⟩:=sat.setCells vs cs o 0 aa (by omega)
 simp only[O4] at e2
 have e3:c2=cs':=I5.1 (e2.trans hc)
 subst e3
 exact hw _ h2
theorem C7P{γ β:Type}{enc:γ→D0u}{size:Nat}{s s2:Slc}{xs:List γ}{f:Slc→HM β}{Q':β→Heap→Prop}(hr:Z8 enc size h0 s xs)(hw:∀s',Z8 enc size h0 s' (xs.take 80)→W L (f s') Q')(hs:s2=s:=by rfl):
  W L (HM.bind (HM.slice s none (some (if 80<(((s2.len:Nat):Int):Int) then 80 else((s2.len:Nat):Int))) none size) f) Q':=by
 subst hs
 have hl:=hr.1
 by_cases jv:80<xs.length
 ·rw[if_pos (by omega)]
  exact C3O (n:=80) hr (by omega) hw
 ·rw[if_neg (by omega)]
  have e:xs.take 80=xs.take xs.length:=by rw[D4 (by omega),F5]
  refine C3O (n:=xs.length) hr (D8 _) (fun s' dv=>hw s' (by rw[e];exact dv)) (by rw[hl])
theorem C3p{S:Slc}{pl:List q9}(hr:Z8 X1 4 h0 S pl)(hq:∀S1 S2:Slc,At (U6 X1 4 S1 (pl.take 80)::U6 X1 4 S2 (pl.take 80)::old h0::L1) (Q (.tuple #[.slice S1.a S1.len S1.cap,.slice S2.a S2.len S2.cap])))
  (hx:Has L (old h0) L1:=by repeat first|with_reducible exact V1|apply V3):FW prog 39 #[.slice S.a S.len S.cap] L Q:=by
 refine fun h hs=>B1Y S h Q ((?_:W (old h0::L1) _ _) h (hx.s hs))
 clear hs h hx
 delta B33 az bn g8 ie ix nw pu rq sn wi
 refine C7P hr (fun s' dv=>?_)
 have jv:(pl.take 80).length≤80:=J6 _ _
 generalize pl.take 80=xs at dv hq jv
 refine B7D X1 4 (xs.take 0) ?_
 refine B7D X1 4 (xs.take 0) ?_
 refine W.loop (γ:=Nat) (fun g s=>s.2.2.1=(g:Int)∧g≤xs.length) (fun g s=>U6 X1 4 s.1 (xs.take g)::U6 X1 4 s.2.1 (xs.take g)::old h0::L1) (fun g=>xs.length-g) 0 ⟨rfl,D1 _⟩ Sub.rfl ?_
 rintro i s ⟨hi,cn⟩ K k1 k2
 by_cases ah:i<xs.length
 ·refine Y4 (by rw[hi,dv.1];exact decide_eq_true (by omega)) ?_
  have aY:xs[i]? =some xs[i]:=B0 ah
  have aV:xs.take (i+1)=xs.take i++[xs[i]]:=C4 ah
  generalize xs[i]=u at aY aV
  have hb:((xs.take i).length+1)*48≤140737488355328:=by rw[E6];omega
  have hn:∀S1 S2:Slc,At (U6 X1 4 S1 (xs.take i++[u])::U6 X1 4 S2 (xs.take i++[u])::old h0::L1) (K (.inl (S1,S2,IntKind.wrap .i64 (s.2.2.1+1),()))):=fun S1 S2=>by
   have:=k1 (i+1) (S1,S2,IntKind.wrap .i64 (s.2.2.1+1),()) (by omega) ⟨by simp only[hi];rw[V8 (by omega) (by omega)];rfl,ah⟩
   simp only at this
   rw[aV] at this
   exact this
  refine A78 dv ah (fun a ha=>?_) (he:=hi)
  refine B4Q (v:=prU u) dv ha aY ?_
  refine Y2 fun x6=>?_
  refine A0n ?_
  refine s7 (v:=prU u) ?_
  refine s7 (v:=prU u) ?_
  repeat' (first|refine Y2 fun _=>?_|refine s7 (v:=prU u) ?_|refine A1p ?_ rfl|with_reducible refine A79 ?_ ?_|refine A9Z (enc:=X1) u (fun _=>?_) hb)
  all_goals exact U3 (hn _ _).sub
 ·refine W8 (by rw[hi,dv.1];exact decide_eq_false (by omega)) (U3 (k2 _ _ ?_))
  have en:i=xs.length:=by omega
  subst en
  rw[F5]
  exact U3 (hq _ _).sub
structure C9X(h0:Heap)(p:Pk)(pl wl:List q9)(cl:List Int)(sl:List A0G)(fl:List B38):Prop where
 props:Z8 X1 4 h0 (p.2.2.2.2.2.2.2.2.2.1) pl
 wprops:Z8 X1 4 h0 (p.2.2.2.2.2.2.2.2.2.2.2.2.2.2.2.2.2.2.1) wl
 cB:Z8 (eKd .u8) 1 h0 (p.2.2.2.2.2.2.2.2.1) cl
 aH:Z8 Y3 5 h0 (p.2.2.2.2.2.2.2.2.2.2.2.2.2.2.2.2.2.2.2.2.2.2.2.2.1) sl
 eP:Z8 A0g 1 h0 (p.2.2.2.2.2.2.2.2.2.2.2.2.2.2.2.2.2.2.2.2.2.2.2.2.2.1) fl
abbrev pkR(p:Pk)(c:Int)(s8 s9 dE dA dz:Slc):Pk:=(p.1,p.2.1,p.2.2.1,p.2.2.2.1,p.2.2.2.2.1,p.2.2.2.2.2.1,p.2.2.2.2.2.2.1,c,s8,s9,p.2.2.2.2.2.2.2.2.2.2.1,p.2.2.2.2.2.2.2.2.2.2.2.1,p.2.2.2.2.2.2.2.2.2.2.2.2.1,p.2.2.2.2.2.2.2.2.2.2.2.2.2.1,p.2.2.2.2.2.2.2.2.2.2.2.2.2.2.1,p.2.2.2.2.2.2.2.2.2.2.2.2.2.2.2.1,p.2.2.2.2.2.2.2.2.2.2.2.2.2.2.2.2.1,p.2.2.2.2.2.2.2.2.2.2.2.2.2.2.2.2.2.1,dE,p.2.2.2.2.2.2.2.2.2.2.2.2.2.2.2.2.2.2.2.1,p.2.2.2.2.2.2.2.2.2.2.2.2.2.2.2.2.2.2.2.2.1,p.2.2.2.2.2.2.2.2.2.2.2.2.2.2.2.2.2.2.2.2.2.1,p.2.2.2.2.2.2.2.2.2.2.2.2.2.2.2.2.2.2.2.2.2.2.1,p.2.2.2.2.2.2.2.2.2.2.2.2.2.2.2.2.2.2.2.2.2.2.2.1,dA,dz,())
theorem C4q{p:Pk}{pl wl:List q9}{cl:List Int}{sl:List A0G}{fl:List B38}{cc:Int}(hr:C9X h0 p pl wl cl sl fl)(fW:cc=IntKind.wrap .i64 (p.2.2.2.2.2.2.2.1))
  (hq:∀c1 c2 p1 p2 w1 w2 s1 s2 f1 f2:Slc,At (U6 X1 4 p1 (pl.take 80)::U6 Y3 5 s1 (sl.take 80)::U6 A0g 1 f1 (fl.take 80)::U6 X1 4 p2 (pl.take 80)::U6 Y3 5 s2 (sl.take 80)::U6 A0g 1 f2 (fl.take 80)::old h0::L1) (Q (.tuple #[A2z .u8 (pkR p (p.2.2.2.2.2.2.2.1) c1 p1 w1 s1 f1),A2z .i64 (pkR p cc c2 p2 w2 s2 f2)])))
  (hx:Has L (old h0) L1:=by repeat first|with_reducible exact V1|apply V3):FW prog 16 #[A2z .u8 p] L Q:=by
 refine fun h hs=>A9R p h Q ((?_:W (old h0::L1) _ _) h (hx.s hs))
 clear hs h hx
 obtain⟨vg,ql,vh,qk,qj⟩:=hr
 obtain⟨vk,vd,vr,vq,vi,vt,vp,vc,s8,s9,cG,cF,cy,cz,dg,dj,di,dh,dE,cA,cD,vu,cw,cv,dA,dz,⟨⟩⟩:=p
 dsimp only at vg ql vh qk qj fW hq
 delta B0b ad az bn g2 A02 g6 ie ix jb jc ji jt ju kb kc ki kt lt lu nw pu rq sn so sw sx ve vi vs vz w10 w11 w12 w13 w14 w15 w16 w17 w18 w19 w20 w21 w22 w23 w24 w25 w5 w6 w7 w8 w9 wi
 let C8:Slc→Slc→Slc→Slc→Slc→D0t:=fun a b c d e=>#[.int .i64 vk,.bool vd,.bool vr,.int .i64 vq,.int .i64 vi,.string vt,.string vp,.int .u8 vc,.slice a.a a.len a.cap,.slice b.a b.len b.cap,.string cG,.bool cF,.int .i64 cy,.bool cz,.string dg,.string dj,.int .i64 di,.bool dh,.slice c.a c.len c.cap,.bool cA,.bool cD,.string vu,.string cw,.bool cv,.slice d.a d.len d.cap,.slice e.a e.len e.cap]
 let C6:Slc→Slc→Slc→Slc→Slc→D0t:=fun a b c d e=>#[.int .i64 vk,.bool vd,.bool vr,.int .i64 vq,.int .i64 vi,.string vt,.string vp,.int .i64 cc,.slice a.a a.len a.cap,.slice b.a b.len b.cap,.string cG,.bool cF,.int .i64 cy,.bool cz,.string dg,.string dj,.int .i64 di,.bool dh,.slice c.a c.len c.cap,.bool cA,.bool cD,.string vu,.string cw,.bool cv,.slice d.a d.len d.cap,.slice e.a e.len e.cap]
 refine Y2 fun x1=>?_
 refine W.cells (b:=x1) (C8 s8 s9 dE dA dz) ?_
 refine Y2 fun x2=>?_
 refine Y2 fun x3=>?_
 refine W.load (b:=x1) (v:=vk) ?_
 refine W.load (b:=x1) (v:=vd) ?_
 refine W.load (b:=x1) (v:=vr) ?_
 refine W.load (b:=x1) (v:=vq) ?_
 refine W.load (b:=x1) (v:=vi) ?_
 refine W.load (b:=x1) (v:=vt) ?_
 refine W.load (b:=x1) (v:=vp) ?_
 refine W.load (b:=x1) (v:=vc) ?_
 refine W.load (b:=x1) (v:=cG) ?_
 refine W.load (b:=x1) (v:=cF) ?_
 refine W.load (b:=x1) (v:=cy) ?_
 refine W.load (b:=x1) (v:=cz) ?_
 refine W.load (b:=x1) (v:=cA) ?_
 refine W.load (b:=x1) (v:=cD) ?_
 refine W.load (b:=x1) (v:=vu) ?_
 refine W.load (b:=x1) (v:=cw) ?_
 refine W.load (b:=x1) (v:=cv) ?_
 refine Y2 fun dy=>?_
 refine A0n (b:=dy) ?_
 refine W.cells (b:=dy) (#[.int .i64 vk,.bool vd,.bool vr,.int .i64 vq,.int .i64 vi,.string vt,.string vp,.int .u8 vc,.slice none 0 0,.slice none 0 0,.string cG,.bool cF,.int .i64 cy,.bool cz,.string e0S,.string e0S,.int .i64 0,.bool false,.slice none 0 0,.bool cA,.bool cD,.string vu,.string cw,.bool cv,.slice none 0 0,.slice none 0 0]) ?_
 refine W.load (b:=x1) (v:=vk) ?_
 refine W.load (b:=x1) (v:=vd) ?_
 refine W.load (b:=x1) (v:=vr) ?_
 refine W.load (b:=x1) (v:=vq) ?_
 refine W.load (b:=x1) (v:=vi) ?_
 refine W.load (b:=x1) (v:=vt) ?_
 refine W.load (b:=x1) (v:=vp) ?_
 refine W.load (b:=x1) (v:=vc) ?_
 refine W.load (b:=x1) (v:=cG) ?_
 refine W.load (b:=x1) (v:=cF) ?_
 refine W.load (b:=x1) (v:=cy) ?_
 refine W.load (b:=x1) (v:=cz) ?_
 refine W.load (b:=x1) (v:=cA) ?_
 refine W.load (b:=x1) (v:=cD) ?_
 refine W.load (b:=x1) (v:=vu) ?_
 refine W.load (b:=x1) (v:=cw) ?_
 refine W.load (b:=x1) (v:=cv) ?_
 refine Y2 fun eL=>?_
 refine A0n (b:=eL) ?_
 rw[←fW]
 refine W.cells (b:=eL) (#[.int .i64 vk,.bool vd,.bool vr,.int .i64 vq,.int .i64 vi,.string vt,.string vp,.int .i64 cc,.slice none 0 0,.slice none 0 0,.string cG,.bool cF,.int .i64 cy,.bool cz,.string e0S,.string e0S,.int .i64 0,.bool false,.slice none 0 0,.bool cA,.bool cD,.string vu,.string cw,.bool cv,.slice none 0 0,.slice none 0 0]) ?_
 refine W.load (b:=x1) (v:=s9) ?_
 refine Z3 (C3p vg (fun p1 p2=>At.bD (x:=(p1,p2,())) ?_))
 refine W.store (b:=dy) (cs':=#[.int .i64 vk,.bool vd,.bool vr,.int .i64 vq,.int .i64 vi,.string vt,.string vp,.int .u8 vc,.slice none 0 0,.slice p1.a p1.len p1.cap,.string cG,.bool cF,.int .i64 cy,.bool cz,.string e0S,.string e0S,.int .i64 0,.bool false,.slice none 0 0,.bool cA,.bool cD,.string vu,.string cw,.bool cv,.slice none 0 0,.slice none 0 0]) ?_
 refine W.store (b:=eL) (cs':=#[.int .i64 vk,.bool vd,.bool vr,.int .i64 vq,.int .i64 vi,.string vt,.string vp,.int .i64 cc,.slice none 0 0,.slice p2.a p2.len p2.cap,.string cG,.bool cF,.int .i64 cy,.bool cz,.string e0S,.string e0S,.int .i64 0,.bool false,.slice none 0 0,.bool cA,.bool cD,.string vu,.string cw,.bool cv,.slice none 0 0,.slice none 0 0]) ?_
 refine j4 (b:=x1) (i:=14) (v:=dg) ?_
 refine j4 (b:=x1) (i:=15) (v:=dj) ?_
 refine j4 (b:=x1) (i:=16) (v:=di) ?_
 refine j4 (b:=x1) (i:=17) (v:=dh) ?_
 refine C9V (b:=dy) (cs':=(C8 o7 p1 o7 o7 o7)) ?_
 refine j4 (b:=x1) (i:=14) (v:=dg) ?_
 refine j4 (b:=x1) (i:=15) (v:=dj) ?_
 refine j4 (b:=x1) (i:=16) (v:=di) ?_
 refine j4 (b:=x1) (i:=17) (v:=dh) ?_
 refine C9V (b:=eL) (cs':=(C6 o7 p2 o7 o7 o7)) ?_
 refine j4 (b:=x1) (i:=18) (v:=dE) ?_
 refine Z3 (C3p ql (fun w1 w2=>At.bD (x:=(w1,w2,())) ?_))
 refine A4r (b:=dy) (i:=18) (cs':=(C8 o7 p1 w1 o7 o7)) ?_
 refine A4r (b:=eL) (i:=18) (cs':=(C6 o7 p2 w2 o7 o7)) ?_
 refine W.load (b:=x1) (v:=s8) ?_
 refine W.load (b:=x1) (v:=s8) ?_
 refine C7P vh (fun s' dv=>?_)
 have jv:(cl.take 80).length≤80:=J6 _ _
 generalize dJ:cl.take 80=xs at dv jv
 clear dJ
 refine B7D (eKd .u8) 1 (xs.take 0) ?_
 refine B7D (eKd .i64) 1 ((xs.take 0).map (IntKind.wrap .i64)) ?_
 refine W.loop (γ:=Nat×Slc×Slc) (fun g s=>s.1=(g.1:Int)∧g.1≤xs.length) (fun g s=>cells dy (C8 g.2.1 p1 w1 o7 o7)::cells eL (C6 g.2.2 p2 w2 o7 o7)::U6 (eKd .u8) 1 g.2.1 (xs.take g.1)::U6 (eKd .i64) 1 g.2.2 ((xs.take g.1).map (IntKind.wrap .i64))::cells x1 ((C8 s8 s9 dE dA dz))::cells x2 zS3::cells x3 zS2::U6 X1 4 p1 (pl.take 80)::U6 X1 4 p2 (pl.take 80)::old h0::L1)
  (fun g=>xs.length-g.1) (0,o7,o7) ⟨rfl,D1 _⟩ ?_ ?_
 ·show Sub _ (cells dy (C8 o7 p1 w1 o7 o7)::cells eL (C6 o7 p2 w2 o7 o7)::U6 (eKd .u8) 1 o7 (xs.take 0)::U6 (eKd .i64) 1 o7 ((xs.take 0).map (IntKind.wrap .i64))::cells x1 ((C8 s8 s9 dE dA dz))::cells x2 zS3::cells x3 zS2::U6 X1 4 p1 (pl.take 80)::U6 X1 4 p2 (pl.take 80)::old h0::L1)
  repeat(first|with_reducible exact T7|with_reducible exact T8|refine U0 (by repeat first|with_reducible exact V1|apply V3) ?_|refine U1 ?_)
 rintro⟨i,c1,c2⟩ s ⟨hi,cn⟩ K k1 k2
 simp only at hi cn
 by_cases ah:i<xs.length
 ·refine Y4 (by rw[hi,dv.1];exact decide_eq_true (by omega)) ?_
  have aY:xs[i]? =some xs[i]:=B0 ah
  have aV:xs.take (i+1)=xs.take i++[xs[i]]:=C4 ah
  generalize xs[i]=u at aY aV
  have fj:((xs.take i).length+1)*1≤140737488355328:=by simp only[C1,E6];omega
  have dx:(((xs.take i).map (IntKind.wrap .i64)).length+1)*8≤140737488355328:=by simp only[C1,E6];omega
  have hn:∀T1 T2:Slc,At (cells dy (C8 T1 p1 w1 o7 o7)::cells eL (C6 T2 p2 w2 o7 o7)::U6 (eKd .u8) 1 T1 (xs.take i++[u])::U6 (eKd .i64) 1 T2 ((xs.take i).map (IntKind.wrap .i64)++[IntKind.wrap .i64 u])::cells x1 ((C8 s8 s9 dE dA dz))::cells x2 zS3::cells x3 zS2::U6 X1 4 p1 (pl.take 80)::U6 X1 4 p2 (pl.take 80)::old h0::L1) (K (.inl (IntKind.wrap .i64 (s.1+1),()))):=fun T1 T2=>by
   have:=k1 (i+1,T1,T2) (IntKind.wrap .i64 (s.1+1),()) (by simp only;omega) ⟨by simp only[hi];rw[V8 (by omega) (by omega)];rfl,ah⟩
   simp only[aV,C0,B6,I3] at this
   exact this
  clear k1 k2
  refine A78 dv ah (fun a ha=>?_) (he:=hi)
  refine C7R (x:=u) (v:=u) dv ha aY ?_
  refine W.load (b:=dy) (v:=c1) ?_
  refine W.load (b:=eL) (v:=c2) ?_
  repeat' (first|with_reducible refine A79 ?_ ?_|refine A9Z (s:=c1) (enc:=eKd .u8) (u) (fun T1=>?_) fj|refine A9Z (s:=c2) (enc:=eKd .i64) (IntKind.wrap .i64 u) (fun T2=>?_) dx|refine A1p ?_ rfl|refine W.load (b:=eL) (v:=c2) ?_|refine W.load (b:=dy) (v:=c1) ?_|refine Y2 fun _=>?_)
  all_goals
   refine W.store (b:=dy) (cs':=(C8 T1 p1 w1 o7 o7)) ?_
   refine W.store (b:=eL) (cs':=(C6 T2 p2 w2 o7 o7)) ?_
   exact U3 (hn T1 T2).sub
 refine W8 (by rw[hi,dv.1];exact decide_eq_false (by omega)) (U3 (k2 _ _ ?_))
 have en:i=xs.length:=by omega
 subst en
 clear k1 k2 jv
 clear dv ah cn hi
 dsimp only
 refine W.load (b:=x1) (v:=dA) ?_
 refine W.load (b:=x1) (v:=dA) ?_
 refine C7P qk (fun s' dv=>?_)
 have jv:(sl.take 80).length≤80:=J6 _ _
 generalize dJ:sl.take 80=xs at dv hq jv
 clear dJ
 refine B7D (Y3) 5 (xs.take 0) ?_
 refine B7D (Y3) 5 (xs.take 0) ?_
 refine W.loop (γ:=Nat×Slc×Slc) (fun g s=>s.1=(g.1:Int)∧g.1≤xs.length) (fun g s=>cells dy (C8 c1 p1 w1 g.2.1 o7)::cells eL (C6 c2 p2 w2 g.2.2 o7)::U6 (Y3) 5 g.2.1 (xs.take g.1)::U6 (Y3) 5 g.2.2 (xs.take g.1)::cells x1 ((C8 s8 s9 dE dA dz))::cells x2 zS3::cells x3 zS2::U6 X1 4 p1 (pl.take 80)::U6 X1 4 p2 (pl.take 80)::old h0::L1)
  (fun g=>xs.length-g.1) (0,o7,o7) ⟨rfl,D1 _⟩ ?_ ?_
 ·show Sub _ (cells dy (C8 c1 p1 w1 o7 o7)::cells eL (C6 c2 p2 w2 o7 o7)::U6 (Y3) 5 o7 (xs.take 0)::U6 (Y3) 5 o7 (xs.take 0)::cells x1 ((C8 s8 s9 dE dA dz))::cells x2 zS3::cells x3 zS2::U6 X1 4 p1 (pl.take 80)::U6 X1 4 p2 (pl.take 80)::old h0::L1)
  repeat(first|with_reducible exact T7|with_reducible exact T8|refine U0 (by repeat first|with_reducible exact V1|apply V3) ?_|refine U1 ?_)
 rintro⟨i,s1,s2⟩ s ⟨hi,cn⟩ K k1 k2
 simp only at hi cn
 by_cases ah:i<xs.length
 ·refine Y4 (by rw[hi,dv.1];exact decide_eq_true (by omega)) ?_
  have aY:xs[i]? =some xs[i]:=B0 ah
  have aV:xs.take (i+1)=xs.take i++[xs[i]]:=C4 ah
  generalize xs[i]=u at aY aV
  have fj:((xs.take i).length+1)*40≤140737488355328:=by simp only[C1,E6];omega
  have dx:((xs.take i).length+1)*40≤140737488355328:=by simp only[C1,E6];omega
  have hn:∀T1 T2:Slc,At (cells dy (C8 c1 p1 w1 T1 o7)::cells eL (C6 c2 p2 w2 T2 o7)::U6 (Y3) 5 T1 (xs.take i++[u])::U6 (Y3) 5 T2 (xs.take i++[u])::cells x1 ((C8 s8 s9 dE dA dz))::cells x2 zS3::cells x3 zS2::U6 X1 4 p1 (pl.take 80)::U6 X1 4 p2 (pl.take 80)::old h0::L1) (K (.inl (IntKind.wrap .i64 (s.1+1),()))):=fun T1 T2=>by
   have:=k1 (i+1,T1,T2) (IntKind.wrap .i64 (s.1+1),()) (by simp only;omega) ⟨by simp only[hi];rw[V8 (by omega) (by omega)];rfl,ah⟩
   simp only[aV,C0,B6,I3] at this
   exact this
  clear k1 k2 hq
  refine A78 dv ah (fun a ha=>?_) (he:=hi)
  refine B4Q (x:=u) (v:=sbU u) dv ha aY ?_
  refine Y2 fun fX=>?_
  refine A0n (b:=fX) ?_
  refine W.load (b:=dy) (v:=s1) ?_
  refine s7 (b:=fX) (v:=sbU u) ?_
  refine W.load (b:=eL) (v:=s2) ?_
  refine s7 (b:=fX) (v:=sbU u) ?_
  repeat' (first|with_reducible refine A79 ?_ ?_|refine A9Z (s:=s1) (enc:=Y3) (u) (fun T1=>?_) fj|refine A9Z (s:=s2) (enc:=Y3) (u) (fun T2=>?_) dx|refine A1p ?_ rfl|refine W.load (b:=eL) (v:=s2) ?_|refine W.load (b:=dy) (v:=s1) ?_|refine s7 (b:=fX) (v:=sbU u) ?_|refine Y2 fun _=>?_)
  all_goals
   refine W.store (b:=dy) (cs':=(C8 c1 p1 w1 T1 o7)) ?_
   refine W.store (b:=eL) (cs':=(C6 c2 p2 w2 T2 o7)) ?_
   exact U3 (hn T1 T2).sub
 refine W8 (by rw[hi,dv.1];exact decide_eq_false (by omega)) (U3 (k2 _ _ ?_))
 have en:i=xs.length:=by omega
 subst en
 clear k1 k2 jv
 rw[F5]
 dsimp only
 generalize xs=iN at*
 refine W.load (b:=x1) (v:=dz) ?_
 refine W.load (b:=x1) (v:=dz) ?_
 refine C7P qj (fun s' dv=>?_)
 have jv:(fl.take 80).length≤80:=J6 _ _
 generalize dJ:fl.take 80=xs at dv hq jv
 clear dJ
 refine B7D (A0g) 1 (xs.take 0) ?_
 refine B7D (A0g) 1 (xs.take 0) ?_
 refine W.loop (γ:=Nat×Slc×Slc) (fun g s=>s.1=(g.1:Int)∧g.1≤xs.length) (fun g s=>cells dy (C8 c1 p1 w1 s1 g.2.1)::cells eL (C6 c2 p2 w2 s2 g.2.2)::U6 (A0g) 1 g.2.1 (xs.take g.1)::U6 (A0g) 1 g.2.2 (xs.take g.1)::cells x1 ((C8 s8 s9 dE dA dz))::cells x2 zS3::cells x3 zS2::U6 X1 4 p1 (pl.take 80)::U6 X1 4 p2 (pl.take 80)::U6 Y3 5 s1 iN::U6 Y3 5 s2 iN::old h0::L1)
  (fun g=>xs.length-g.1) (0,o7,o7) ⟨rfl,D1 _⟩ ?_ ?_
 ·show Sub _ (cells dy (C8 c1 p1 w1 s1 o7)::cells eL (C6 c2 p2 w2 s2 o7)::U6 (A0g) 1 o7 (xs.take 0)::U6 (A0g) 1 o7 (xs.take 0)::cells x1 ((C8 s8 s9 dE dA dz))::cells x2 zS3::cells x3 zS2::U6 X1 4 p1 (pl.take 80)::U6 X1 4 p2 (pl.take 80)::U6 Y3 5 s1 iN::U6 Y3 5 s2 iN::old h0::L1)
  repeat(first|with_reducible exact T7|with_reducible exact T8|refine U0 (by repeat first|with_reducible exact V1|apply V3) ?_|refine U1 ?_)
 rintro⟨i,f1,f2⟩ s ⟨hi,cn⟩ K k1 k2
 simp only at hi cn
 by_cases ah:i<xs.length
 ·refine Y4 (by rw[hi,dv.1];exact decide_eq_true (by omega)) ?_
  have aY:xs[i]? =some xs[i]:=B0 ah
  have aV:xs.take (i+1)=xs.take i++[xs[i]]:=C4 ah
  generalize xs[i]=u at aY aV
  have fj:((xs.take i).length+1)*16≤140737488355328:=by simp only[C1,E6];omega
  have dx:((xs.take i).length+1)*16≤140737488355328:=by simp only[C1,E6];omega
  have hn:∀T1 T2:Slc,At (cells dy (C8 c1 p1 w1 s1 T1)::cells eL (C6 c2 p2 w2 s2 T2)::U6 (A0g) 1 T1 (xs.take i++[u])::U6 (A0g) 1 T2 (xs.take i++[u])::cells x1 ((C8 s8 s9 dE dA dz))::cells x2 zS3::cells x3 zS2::U6 X1 4 p1 (pl.take 80)::U6 X1 4 p2 (pl.take 80)::U6 Y3 5 s1 iN::U6 Y3 5 s2 iN::old h0::L1) (K (.inl (IntKind.wrap .i64 (s.1+1),()))):=fun T1 T2=>by
   have:=k1 (i+1,T1,T2) (IntKind.wrap .i64 (s.1+1),()) (by simp only;omega) ⟨by simp only[hi];rw[V8 (by omega) (by omega)];rfl,ah⟩
   simp only[aV,C0,B6,I3] at this
   exact this
  clear k1 k2 hq
  refine A78 dv ah (fun a ha=>?_) (he:=hi)
  refine C7R (x:=u) (v:=u) dv ha aY ?_
  refine W.load (b:=dy) (v:=f1) ?_
  refine W.load (b:=eL) (v:=f2) ?_
  repeat' (first|with_reducible refine A79 ?_ ?_|refine A9Z (s:=f1) (enc:=A0g) (u) (fun T1=>?_) fj|refine A9Z (s:=f2) (enc:=A0g) (u) (fun T2=>?_) dx|refine A1p ?_ rfl|refine W.load (b:=eL) (v:=f2) ?_|refine W.load (b:=dy) (v:=f1) ?_|refine Y2 fun _=>?_)
  all_goals
   refine W.store (b:=dy) (cs':=(C8 c1 p1 w1 s1 T1)) ?_
   refine W.store (b:=eL) (cs':=(C6 c2 p2 w2 s2 T2)) ?_
   exact U3 (hn T1 T2).sub
 refine W8 (by rw[hi,dv.1];exact decide_eq_false (by omega)) (U3 (k2 _ _ ?_))
 have en:i=xs.length:=by omega
 subst en
 clear k1 k2 jv
 rw[F5]
 dsimp only
 refine s7 (b:=dy) (v:=(vk,vd,vr,vq,vi,vt,vp,vc,c1,p1,cG,cF,cy,cz,dg,dj,di,dh,w1,cA,cD,vu,cw,cv,s1,f1,())) ?_
 refine s7 (b:=eL) (v:=(vk,vd,vr,vq,vi,vt,vp,cc,c2,p2,cG,cF,cy,cz,dg,dj,di,dh,w2,cA,cD,vu,cw,cv,s2,f2,())) ?_
 refine A0n (b:=x2) ?_
 refine s7 (b:=eL) (v:=(vk,vd,vr,vq,vi,vt,vp,cc,c2,p2,cG,cF,cy,cz,dg,dj,di,dh,w2,cA,cD,vu,cw,cv,s2,f2,())) ?_
 refine A1p ?_ rfl
 refine A0n (b:=x3) ?_
 refine s7 (b:=x2) (v:=(vk,vd,vr,vq,vi,vt,vp,vc,c1,p1,cG,cF,cy,cz,dg,dj,di,dh,w1,cA,cD,vu,cw,cv,s1,f1,())) ?_
 refine s7 (b:=x3) (v:=(vk,vd,vr,vq,vi,vt,vp,cc,c2,p2,cG,cF,cy,cz,dg,dj,di,dh,w2,cA,cD,vu,cw,cv,s2,f2,())) ?_
 exact U3 (hq c1 c2 p1 p2 w1 w2 s1 s2 f1 f2).sub
end
section
open Go.ChangeShapes Go.WideShapes Go.ChangeAt Go.RowKit Go.Proofs Go.Lib Go.H
structure PkQ where
 pk:Pk
 cl:List Int
 pl:List q9
 wl:List q9
 sl:List A0G
 fl:List B38
structure PkG(top:Nat)(h:Heap)(x:PkQ):Prop where
 rows:C9X h x.pk x.pl x.wl x.cl x.sl x.fl
 bX:x.pk.2.2.2.2.2.1.size≤top
 aC:(x.pk.2.2.2.2.2.2.2.2.2.2.1).size≤top
 aX:(x.pk.2.2.2.2.2.2.2.2.2.2.2.2.2.2.1).size≤top
 aH:∀s∈x.sl,s.1.size≤top
 eP:∀f∈x.fl,f.size≤top
 code:(Lit.int .u8 x.pk.2.2.2.2.2.2.2.1).wf=true
structure EvQ where
 cQ:Int
 conn:Int
 p:PkQ
 full:Bool
 m:MsT
structure EvG(top:Nat)(h:Heap)(x:EvQ):Prop where
 p:PkG top h x.p
 conn:(Lit.int .i64 x.conn).wf=true
 cQ:(Lit.int .i64 x.cQ).wf=true
 bX:x.m.1.size≤top
abbrev B6p(x:EvQ):D0u:=[.int .i64 x.cQ,.int .i64 x.conn]++W9 .u8 x.p.pk++[.bool x.full,.string x.m.1,.string x.m.2.1,.int .i64 x.m.2.2.1,.bool x.m.2.2.2.1,.string x.m.2.2.2.2]
section
variable {H:Type} {ec:TypeId×Value→H} {w:World} {base:Nat} {sp:Nat→Bool} {held:Bool} {ok:TypeId→DataW H→Prop} {top:Nat} {wt:TypeId→Nat}
theorem B72(hk:Go.R.OkLaw prog ok top wt):Go.R.RdG ec prog w base sp held ok 193 X1 (fun x:q9=>(Lit.int .i64 x.1).wf=true∧(Lit.int .i64 x.2.1).wf=true∧x.2.2.1.size≤top∧x.2.2.2.size≤top):=
 Go.R.rg_map (fun x:q9=>x) (Go.R.rg_struct hk underlying193 (n:=4) (by kernel_rfl) (Go.R.rf_cons (c:=1) (by kernel_rfl) (by rfl) (Go.R.rg_int underlying3)
  (Go.R.rf_cons (c:=1) (by kernel_rfl) (by rfl) (Go.R.rg_int underlying3)
  (Go.R.rf_cons (c:=1) (by kernel_rfl) (by rfl) (Go.R.rg_str hk underlying9)
  (Go.R.rf_one (c:=1) (by kernel_rfl) (by rfl) (by decide) (Go.R.rg_str hk underlying9)))))) (fun _=>rfl) (fun _ h=>h)
theorem C5K(hk:Go.R.OkLaw prog ok top wt):Go.R.RdG ec prog w base sp held ok 119 Y3 (fun x:A0G=>x.1.size≤top∧(Lit.int .i64 x.2.1).wf=true∧True∧True∧(Lit.int .i64 x.2.2.2.2).wf=true):=
 Go.R.rg_map (fun x:A0G=>x) (Go.R.rg_struct hk underlying119 (n:=5) (by kernel_rfl) (Go.R.rf_cons (c:=1) (by kernel_rfl) (by rfl) (Go.R.rg_str hk underlying9)
  (Go.R.rf_cons (c:=1) (by kernel_rfl) (by rfl) (Go.R.rg_int underlying3)
  (Go.R.rf_cons (c:=1) (by kernel_rfl) (by rfl) (Go.R.rg_bool underlying4)
  (Go.R.rf_cons (c:=1) (by kernel_rfl) (by rfl) (Go.R.rg_bool underlying4)
  (Go.R.rf_one (c:=1) (by kernel_rfl) (by rfl) (by decide) (Go.R.rg_int underlying3))))))) (fun _=>rfl) (fun _ h=>h)
theorem C0n(hk:Go.R.OkLaw prog ok top wt):Go.R.RdG ec prog w base sp held ok 29 Z7 (fun x:MsT=>x.1.size≤top∧x.2.1.size≤top∧(Lit.int .i64 x.2.2.1).wf=true∧True∧x.2.2.2.2.size≤top):=
 Go.R.rg_map (fun x:MsT=>x) (Go.R.rg_struct hk underlying29 (n:=5) (by kernel_rfl) (Go.R.rf_cons (c:=1) (by kernel_rfl) (by rfl) (Go.R.rg_str hk underlying9)
  (Go.R.rf_cons (c:=1) (by kernel_rfl) (by rfl) (Go.R.rg_str hk underlying9)
  (Go.R.rf_cons (c:=1) (by kernel_rfl) (by rfl) (Go.R.rg_int underlying3)
  (Go.R.rf_cons (c:=1) (by kernel_rfl) (by rfl) (Go.R.rg_bool underlying4)
  (Go.R.rf_one (c:=1) (by kernel_rfl) (by rfl) (by decide) (Go.R.rg_str hk underlying9))))))) (fun _=>rfl) (fun _ h=>h)
abbrev C6O:=B38×B38×Int×Bool×(Slc×List q9)
theorem C4h(hk:Go.R.OkLaw prog ok top wt):Go.R.RdG ec prog w base sp held ok 57 (fun x:C6O=>[.string x.1,.string x.2.1,.int .i64 x.2.2.1,.bool x.2.2.2.1,.slice x.2.2.2.2.1.a x.2.2.2.2.1.len x.2.2.2.2.1.cap]) (fun x=>x.1.size≤top∧Z8 X1 4 w.heap x.2.2.2.2.1 x.2.2.2.2.2):=
 Go.R.rg_map (fun x:C6O=>x) (Go.R.rg_struct hk underlying57 (n:=5) (by kernel_rfl) (Go.R.rf_cons (c:=1) (by kernel_rfl) (by rfl) (Go.R.rg_str hk underlying9)
  (Go.R.rf_cons (c:=1) (by kernel_rfl) (by rfl) (Go.R.rg_str hk underlying9)
  (Go.R.rf_cons (c:=1) (by kernel_rfl) (by rfl) (Go.R.rg_int underlying3)
  (Go.R.rf_cons (c:=1) (by kernel_rfl) (by rfl) (Go.R.rg_bool underlying4)
  (Go.R.rf_one (c:=1) (by kernel_rfl) (by rfl) (by decide) (Go.R.rg_slice hk underlying55 (by kernel_rfl) rfl (B72 hk)))))))) (fun _=>rfl) (fun _ h=>⟨h.1,h.2.2.2.2.row⟩)
abbrev C9W:=Int×Bool×Bool×Int×Int×B38×B38×Int×(Slc×List Int)×(Slc×List q9)×B38×Bool×Int×Bool×C6O×Bool×Bool×B38×B38×Bool×(Slc×List A0G)×(Slc×List B38)
def C9r:C9W→PkQ|(vk,vd,vr,vq,vi,vt,vp,vc,(s8,cl),(s9,pl),cG,cF,cy,cz,(dg,dj,di,dh,dE,wl),cA,cD,vu,cw,cv,(dA,sl),(dz,fl))=>⟨(vk,vd,vr,vq,vi,vt,vp,vc,s8,s9,cG,cF,cy,cz,dg,dj,di,dh,dE,cA,cD,vu,cw,cv,dA,dz,()),cl,pl,wl,sl,fl⟩
theorem C0m(hk:Go.R.OkLaw prog ok top wt):Go.R.RdG ec prog w base sp held ok 60 (fun x:PkQ=>W9 .u8 x.pk) (PkG top w.heap):=
 Go.R.rg_map C9r (Go.R.rg_struct hk underlying60 (n:=26) (by kernel_rfl) (Go.R.rf_cons (c:=1) (by kernel_rfl) (by rfl) (Go.R.rg_int underlying3)
  (Go.R.rf_cons (c:=1) (by kernel_rfl) (by rfl) (Go.R.rg_bool underlying4)
  (Go.R.rf_cons (c:=1) (by kernel_rfl) (by rfl) (Go.R.rg_bool underlying4)
  (Go.R.rf_cons (c:=1) (by kernel_rfl) (by rfl) (Go.R.rg_int underlying3)
  (Go.R.rf_cons (c:=1) (by kernel_rfl) (by rfl) (Go.R.rg_int underlying3)
  (Go.R.rf_cons (c:=1) (by kernel_rfl) (by rfl) (Go.R.rg_str hk underlying9)
  (Go.R.rf_cons (c:=1) (by kernel_rfl) (by rfl) (Go.R.rg_str hk underlying9)
  (Go.R.rf_cons (c:=1) (by kernel_rfl) (by rfl) (Go.R.rg_int underlying5)
  (Go.R.rf_cons (c:=1) (by kernel_rfl) (by rfl) (Go.R.rg_slice hk underlying54 (by kernel_rfl) rfl (Go.R.rg_int underlying5))
  (Go.R.rf_cons (c:=1) (by kernel_rfl) (by rfl) (Go.R.rg_slice hk underlying55 (by kernel_rfl) rfl (B72 hk))
  (Go.R.rf_cons (c:=1) (by kernel_rfl) (by rfl) (Go.R.rg_str hk underlying9)
  (Go.R.rf_cons (c:=1) (by kernel_rfl) (by rfl) (Go.R.rg_bool underlying4)
  (Go.R.rf_cons (c:=1) (by kernel_rfl) (by rfl) (Go.R.rg_int underlying3)
  (Go.R.rf_cons (c:=1) (by kernel_rfl) (by rfl) (Go.R.rg_bool underlying4)
  (Go.R.rf_cons (c:=5) (by kernel_rfl) (by rfl) (C4h hk)
  (Go.R.rf_cons (c:=1) (by kernel_rfl) (by rfl) (Go.R.rg_bool underlying4)
  (Go.R.rf_cons (c:=1) (by kernel_rfl) (by rfl) (Go.R.rg_bool underlying4)
  (Go.R.rf_cons (c:=1) (by kernel_rfl) (by rfl) (Go.R.rg_str hk underlying9)
  (Go.R.rf_cons (c:=1) (by kernel_rfl) (by rfl) (Go.R.rg_str hk underlying9)
  (Go.R.rf_cons (c:=1) (by kernel_rfl) (by rfl) (Go.R.rg_bool underlying4)
  (Go.R.rf_cons (c:=1) (by kernel_rfl) (by rfl) (Go.R.rg_slice hk underlying58 (by kernel_rfl) rfl (C5K hk))
  (Go.R.rf_one (c:=1) (by kernel_rfl) (by rfl) (by decide) (Go.R.rg_slice hk underlying43 (by kernel_rfl) rfl (Go.R.rg_str hk underlying9)))))))))))))))))))))))))
  (fun(vk,vd,vr,vq,vi,vt,vp,vc,(s8,cl),(s9,pl),cG,cF,cy,cz,(dg,dj,di,dh,dE,wl),cA,cD,vu,cw,cv,(dA,sl),(dz,fl))=>rfl) (fun(vk,vd,vr,vq,vi,vt,vp,vc,(s8,cl),(s9,pl),cG,cF,cy,cz,(dg,dj,di,dh,dE,wl),cA,cD,vu,cw,cv,(dA,sl),(dz,fl)) ⟨_,_,_,_,_,g5,_,g7,g8,g9,g10,_,_,_,g14,_,_,_,_,_,g20,g21⟩=>⟨⟨g9.row,g14.2,g8.row,g20.row,g21.row⟩,g5,g10,g14.1,fun s hs=>(g20.bQ s hs).1,fun f hf=>g21.bQ f hf,g7⟩)
def C9s:Int×Int×PkQ×Bool×MsT→EvQ|(a,b,c,d,e)=>⟨a,b,c,d,e⟩
theorem C1Z(hk:Go.R.OkLaw prog ok top wt):Go.R.RdG ec prog w base sp held ok 62 B6p (EvG top w.heap):=
 Go.R.rg_map C9s (Go.R.rg_struct hk underlying62 (n:=34) (by kernel_rfl) (Go.R.rf_cons (c:=1) (by kernel_rfl) (by rfl) (Go.R.rg_int underlying3)
  (Go.R.rf_cons (c:=1) (by kernel_rfl) (by rfl) (Go.R.rg_int underlying3)
  (Go.R.rf_cons (c:=26) (by kernel_rfl) (by rfl) (C0m hk)
  (Go.R.rf_cons (c:=1) (by kernel_rfl) (by rfl) (Go.R.rg_bool underlying4)
  (Go.R.rf_one (c:=5) (by kernel_rfl) (by rfl) (by decide) (C0n hk)))))))
  (fun(a,b,c,d,e)=>rfl) (fun(a,b,c,d,e) ⟨g0,g1,g2,_,g4⟩=>⟨g2,g1,g0,g4.1⟩)
theorem C0o(hk:Go.R.OkLaw prog ok top wt):Go.R.RdG ec prog w base sp held ok 53 (fun x:Slc×List EvQ=>[.slice x.1.a x.1.len x.1.cap]) (Go.R.GoodG B6p 34 (wt 62) top w.heap (EvG top w.heap)):=
 Go.R.rg_slice hk underlying53 (by kernel_rfl) rfl (C1Z hk)
end
end
section
open Go.H Go.Proofs
variable {h h0:Heap} {L L' L1 L2 L3 L4 L5 R:List Asn} {Q:Value→Heap→Prop}
theorem C88{α γ:Type}{enc:γ→D0u}{size n:Nat}{m:HM α}{Q':α→Heap→Prop}{x:Nat}{cs:D0t}(us:List γ)(hw:W (U6 enc size ⟨some ⟨x,0,none⟩,n,n⟩ us::L') m Q')(hx:Has L (cells x cs) L':=by repeat first|with_reducible exact V1|apply V3)(hc:cs=(us.flatMap enc).toArray:=by rfl)(hn:us.length=n:=by rfl)[Enc enc size]:W L m Q':=fun h hs=>by
 subst hc hn
 have hl:=z7 (Enc.len (enc:=enc)) us
 refine hw h (A1J (b:=x) (o:=0) (cs:=(us.flatMap enc).toArray) ⟨by simp,D8 _,rfl,by simp[hl],by
  simp only[T4,S4]
  exact D4 (T5 hl)⟩ (hx.s hs))
theorem C7w{α β:Type}{f:α→β}{T:List α}{x y:β}(h:T.map f=[x,y]):∃a b,T=[a,b]∧f a=x∧f b=y:=by
 rcases T with _|⟨a,_|⟨b,_|⟨c,T⟩⟩⟩<;>simp at h
 exact⟨a,b,rfl,h⟩
theorem z0:0≤999999:=by decide
theorem z2:2≤999999:=by decide
theorem nd0:(([]:List Y6).map (·.c)).Nodup:=by simp
theorem kl0:([]:List l3).length≤64:=by decide
theorem ci1: -9223372036854775808≤(1:Int)∧(1:Int)≤9223372036854775807:=by decide
theorem ci2: -9223372036854775808≤(2:Int)∧(2:Int)≤9223372036854775807:=by decide
theorem sz1:tC1.size≤9223372036854775807:=by decide
theorem sl2:slW.length≤100:=by decide
theorem ss2:∀s∈slW,s.1.size≤9223372036854775807:=by decide
theorem sl0:([]:List A0G).length≤100:=by decide
theorem ss0:∀s∈([]:List A0G),s.1.size≤9223372036854775807:=by simp
theorem nd2:(B2w.aB.map (·.c)).Nodup:=by decide
theorem kl2:B2w.kept.length≤64:=by decide
theorem wr2:(slW=[]∧B2w=B1w)∨(slW≠[]∧i6 false 1 (C7e 1 slW) B1w=⟨B2w,(⟨1,A0S 9 1 [1,0],false⟩:r8)::[],[]⟩∧(⟨1,A0S 9 1 [1,0],false⟩:r8).pk.kind=9∧(⟨1,A0S 9 1 [1,0],false⟩:r8).pk.cB.length=slW.length):=.inr ⟨by simp,w2,rfl,rfl⟩
theorem pkW:C20 (C7t mW 9) [] [] []:=C7s (by decide)
theorem C69(ht:TP h0)(hq:At (old h0::L1) (Q (.bool true)))(hx:Has L (old h0) L1:=by repeat first|with_reducible exact V1|apply V3):FW prog 10 #[] L Q:=by
 refine fun h hs=>B1X h Q ((?_:W (old h0::L1) _ _) h (hx.s hs))
 clear hs h hx
 delta B32 az bn cb cp ie ix jc ki nw pu sn ve vi vs vz
 refine j2 (C6H (fun b=>At.un (x:=some ⟨b,0,none⟩) ?_))
 refine C46 (fun r=>r.1=false) (fun _=>A0Q b B3w::old h0::L1) (fun K hK=>?_) (fun r hr=>?_)
 ·refine Y2 fun x2=>?_
  refine C88 (enc:=Y3) (x:=x2) (n:=2) slW ?_
  refine j2 (C6b (b:=b) (n:=0) (B:=⟨0,[],[],[],[]⟩) (B1:=B1w) (B2:=B2w) (c:=1) (aC:=tC1) (sl:=slW) (S:=⟨some ⟨x2,0,none⟩,2,2⟩) (o1:=⟨1,A2a false,false⟩) (r1:=[]) (o2:=⟨1,A0S 9 1 [1,0],false⟩) (r2:=[]) (ps:=[]) ht C2d z0 nd0 kl0 ci1 sz1 sl2 ss2 w1 rfl rfl wr2 (At.un (x:=true) ?_))
  refine W8 rfl ?_
  refine A4V Y3 5 ?_
  refine j2 (C6b (b:=b) (n:=2) (B:=B2w) (B1:=B3w) (B2:=B3w) (c:=2) (aC:=tD1) (sl:=[]) (S:=o7) (o1:=⟨2,A2a false,false⟩) (r1:=[]) (o2:=⟨2,A2a false,false⟩) (r2:=[]) (ps:=[]) ht C5R z2 nd2 kl2 ci2 sz1 sl0 ss0 w3 rfl rfl (.inl ⟨rfl,rfl⟩) (At.un (x:=true) ?_))
  exact U3 (hK (false,()) rfl).sub
 refine W8 hr ?_
 obtain⟨B,p,i,wX,xm⟩:=w4
 refine A4V Y3 5 ?_
 refine A4V A0g 1 ?_
 refine A4V X1 4 ?_
 refine j2 (A9E (b:=b) (B:=B3w) (c:=2) (p:=C7t mW 9) (pl:=[]) (sl:=[]) (fl:=[]) (full:=false) ht C9v (by decide) pkW ci2 (fun so sp=>At.un (x:=(so,sp,())) ?_))
 rw[show i6 false 2 (pkI (C7t mW 9) [] [] []) B3w=_ from wX]
 dsimp only
 refine Y2 fun x7=>?_
 refine A0n ?_
 refine Z1 (X5 (enc:=Z7) (size:=5) (s:=sp) (xs:=[mW])) fun fu=>?_
 refine B9S (fun h R hs=>(A2C (k:=.u8) (s:=so)).1 hs) fun T hT=>?_
 obtain⟨u,v,rfl,hu,hv⟩:=C7w hT
 clear hT
 refine Z1 (X5 (enc:=A0P .u8) (size:=28) (s:=so) (xs:=List.map ouF [u,v])) fun gB=>?_
 refine A1g (fun r=>r.1=true) (fun K hK=>?_) (fun r ck=>?_)
 ·refine W.load (v:=so) ?_
  refine Y4 (by rw[gB];rfl) ?_
  refine W.load (v:=so) ?_
  refine j5 (enc:=A0P .u8) (xs:=List.map ouF [u,v]) (i:=0) (by simp) (fun a ha=>?_)
  refine A4z (k:=0) (x:=ouF u) (v:=u.2.2.conn) ha rfl ?_
  refine Y4 (by rw[hu];rfl) ?_
  refine W.load (v:=so) ?_
  refine j5 (enc:=A0P .u8) (xs:=List.map ouF [u,v]) (i:=0) (by simp) (fun a ha=>?_)
  refine C47 (x:=ouF u) (v:=u.2.2.pk.kind) ha rfl ?_
  refine Y4 (by rw[hu];rfl) ?_
  refine W.load (v:=so) ?_
  refine j5 (enc:=A0P .u8) (xs:=List.map ouF [u,v]) (i:=1) (by simp) (fun a ha=>?_)
  refine A4z (k:=0) (x:=ouF v) (v:=v.2.2.conn) ha rfl ?_
  refine Y4 (by rw[hv];rfl) ?_
  refine W.load (v:=so) ?_
  refine j5 (enc:=A0P .u8) (xs:=List.map ouF [u,v]) (i:=1) (by simp) (fun a ha=>?_)
  refine C47 (x:=ouF v) (v:=v.2.2.pk.dY) ha rfl ?_
  refine Y4 (by rw[hv];show(p.2.2.1==1)=true;rw[xm];rfl) ?_
  refine j4 (b:=x7) (i:=1) (v:=sp) ?_
  refine U3 (hK _ ?_)
  rw[fu];rfl
 refine U3 ?_
 show At _ (Q (.bool r.1))
 rw[ck]
 exact hq.sub
end
section
open Go.H Go.Proofs
variable {h h0:Heap} {L L' R:List Asn} {Q:Value→Heap→Prop}
def B69(k:IntKind)(h0:Heap)(s:Slc)(os:List PkO):Prop:=∃T:List (Slc×Slc×PkO),T.map (·.2.2)=os∧Z8 (W9 k) 26 h0 s (T.map pkF)∧
 ∀t∈T,Z8 (eKd k) 1 h0 t.1 t.2.2.cB∧Z8 X1 4 h0 t.2.1 t.2.2.props
theorem B69.len{k:IntKind}{s:Slc}{os:List PkO}(hp:B69 k h0 s os):s.len=os.length:=by
 obtain⟨T,rfl,h1,-⟩:=hp
 rw[h1.1];simp
structure A59(o:PkO):Prop where
 code:0≤o.code∧o.code<256
 cB:∀c∈o.cB,0≤c∧c<256
 len1:o.cB.length≤1000000
 len2:o.props.length≤1000000
end
section
open Go.H Go.Proofs
variable {h h0:Heap} {L L' L1 R:List Asn} {Q:Value→Heap→Prop}
theorem C1S{s1 s2:Slc}{ms:List MsT}(h1:Z8 Z7 5 h0 s1 ms)(h2:Z8 Z7 5 h0 s2 ms)(hl:ms.length≤100000000)(hq:At [old h0] (Q (.bool true))):
  FW prog 51 #[.slice s1.a s1.len s1.cap,.slice s2.a s2.len s2.cap] [old h0] Q:=by
 refine fun h hs=>A6j s1 s2 h Q ((?_:W [old h0] _ _) h hs)
 clear hs h
 delta A5i bn g7 ie ix pu wi
 refine W8 (by rw[h1.1,h2.1];simp) ?_
 refine B0l ms.length (fun i x=>x.1=(i:Int)) (fun i x=>[old h0]) rfl Sub.rfl (fun i x hi hI=>by rw[hI,h1.1];exact G0.2 (by omega)) ?_ ?_
 ·rintro⟨_,⟨⟩⟩ hI K hd
  exact U3 (hd _ _ (W.inl (U3 hq)))
 ·rintro i ⟨_,⟨⟩⟩ ah hI K bu hd
  simp only at hI
  subst hI
  have hy:=B0 ah
  refine A78 h1 ah fun a ha=>B4Q h1 ha hy (A78 h2 ah fun a2 dI=>B4Q h2 dI hy ?_)
  refine W8 (by simp only[beq_self_eq_true,N4,decide_true,Bool.and_true,Bool.and_self]) (U3 (bu _ ?_))
  simp only;rw[V8 (by omega) (by omega)];rfl
theorem B5h{s1 s2:Slc}{os:List PkO}(h1:B69 .u8 h0 s1 os)(h2:B69 .i64 h0 s2 os)(hl:os.length≤1000000)(hf:∀o∈os,A59 o)(hq:At [old h0] (Q (.bool true))):
  FW prog 94 #[.slice s1.a s1.len s1.cap,.slice s2.a s2.len s2.cap] [old h0] Q:=by
 refine fun h hs=>A61 s1 s2 h Q ((?_:W [old h0] _ _) h hs)
 clear hs h
 have l1:=h1.len
 have l2:=h2.len
 obtain⟨T,hT,r1,sN⟩:=h1
 obtain⟨U,hU,r2,sM⟩:=h2
 have al:∀t∈T,A59 t.2.2:=fun t ht=>hf _ (by have:=B3 (f:=fun t:Slc×Slc×PkO=>t.2.2) ht;rw[hT] at this;exact this)
 have lT:T.length=os.length:=by rw[←hT];simp
 have lU:U.length=os.length:=by rw[←hU];simp
 delta A5W bn g2 A02 g8 ie ix jb jc ji jt ju li lu nw pu rq sn wi
 refine W8 (by rw[l1,l2];simp) ?_
 refine B0l os.length (fun i x=>x.1=(i:Int)) (fun i x=>[old h0]) rfl Sub.rfl (fun i x hi hI=>by rw[hI,l1];exact G0.2 (by omega)) ?_ ?_
 ·rintro⟨_,⟨⟩⟩ hI K hd
  exact U3 (hd _ _ (W.inl (U3 hq)))
 ·rintro i ⟨_,⟨⟩⟩ ah hI K bu hd
  simp only at hI
  subst hI
  have kO:T[i]? =some T[i]:=B0 (by omega)
  have nC:U[i]? =some U[i]:=B0 (by omega)
  have k1:=sN _ (F3 kO)
  have k2:=sM _ (F3 nC)
  have e1:T[i].2.2=U[i].2.2:=by
   have g1:=congrArg (fun l=>l[i]?) hT
   have g2:=congrArg (fun l=>l[i]?) hU
   simp only[K7,kO,nC,R8] at g1 g2
   rw[←g2] at g1
   exact Option.some.inj g1
  have dc:A59 T[i].2.2:=al _ (F3 kO)
  have gh:(T.map pkF)[i]? =some (pkF T[i]):=by rw[K7,kO];rfl
  have fJ:(U.map pkF)[i]? =some (pkF U[i]):=by rw[K7,nC];rfl
  generalize T[i]=t at gh k1 e1 dc
  generalize U[i]=u at fJ k2 e1
  obtain⟨c1,p1,o⟩:=t
  obtain⟨c2,p2,o2⟩:=u
  simp only at e1 k1 k2 dc
  subst e1
  obtain⟨nB,nz⟩:=k1
  obtain⟨nA,ny⟩:=k2
  have uN:=nB.1
  have wS:=nA.1
  have uM:=nz.1
  have wR:=ny.1
  have f1:=dc.len1
  have f2:=dc.len2
  refine A78 r1 (by rw[C1];omega) fun a ha=>B4Q (v:=pkT o c1 p1) r1 ha gh (A78 r2 (by rw[C1];omega) fun a2 dI=>B4Q (v:=pkT o c2 p2) r2 dI fJ ?_)
  refine A79 ?_ ?_
  all_goals
   iterate 2
    refine Y2 fun _=>?_
    refine B4Q (v:=pkT o c2 p2) r2 dI fJ (A1p ?_ rfl)
    refine B4Q (v:=pkT o c1 p1) r1 ha gh (A1p ?_ rfl)
   refine A0n ?_
   refine B4Q (v:=pkT o c2 p2) r2 dI fJ (A1p ?_ rfl)
   refine A0n ?_
   repeat(first|refine b7 ?_|refine X3 ?_|refine Y2 fun _=>?_|refine W.load ?_|refine B4O ?_|refine j4 ?_|(refine s7 ?_;try dsimp only)|(refine A8a ?_;try dsimp only)|refine A0n ?_|refine W.store ?_|refine W.store0 ?_|refine A4r ?_|refine A1p ?_ rfl|refine A1o rfl ?_|refine o5 rfl ?_|refine Y4 rfl ?_|refine W8 rfl ?_|refine W.inl ?_|refine W.inr ?_|refine W5 ?_|refine o5 (Go.H.nbq _) ?_|refine W8 (Go.H.nbq _) ?_|refine o5 (Go.H.nbd rfl) ?_|refine W8 (Go.H.nbd rfl) ?_)
   refine o5 (by show(!(IntKind.wrap .i64 o.code==o.code))=false;rw[V8 (by have:=dc.code;omega) (by have:=dc.code;omega)];simp) ?_
   repeat(first|refine b7 ?_|refine X3 ?_|refine Y2 fun _=>?_|refine W.load ?_|refine B4O ?_|refine j4 ?_|(refine s7 ?_;try dsimp only)|(refine A8a ?_;try dsimp only)|refine A0n ?_|refine W.store ?_|refine W.store0 ?_|refine A4r ?_|refine A1p ?_ rfl|refine A1o rfl ?_|refine o5 rfl ?_|refine Y4 rfl ?_|refine W8 rfl ?_|refine W.inl ?_|refine W.inr ?_|refine W5 ?_|refine o5 (Go.H.nbq _) ?_|refine W8 (Go.H.nbq _) ?_|refine o5 (Go.H.nbd rfl) ?_|refine W8 (Go.H.nbd rfl) ?_)
   refine o5 (by show(!(((p1.len:Nat):Int)==((p2.len:Nat):Int)))=false;rw[uM,wR];simp) ?_
   repeat(first|refine b7 ?_|refine X3 ?_|refine Y2 fun _=>?_|refine W.load ?_|refine B4O ?_|refine j4 ?_|(refine s7 ?_;try dsimp only)|(refine A8a ?_;try dsimp only)|refine A0n ?_|refine W.store ?_|refine W.store0 ?_|refine A4r ?_|refine A1p ?_ rfl|refine A1o rfl ?_|refine o5 rfl ?_|refine Y4 rfl ?_|refine W8 rfl ?_|refine W.inl ?_|refine W.inr ?_|refine W5 ?_|refine o5 (Go.H.nbq _) ?_|refine W8 (Go.H.nbq _) ?_|refine o5 (Go.H.nbd rfl) ?_|refine W8 (Go.H.nbd rfl) ?_)
   refine o5 (by show(!(((c1.len:Nat):Int)==((c2.len:Nat):Int)))=false;rw[uN,wS];simp) ?_
   repeat(first|refine b7 ?_|refine X3 ?_|refine Y2 fun _=>?_|refine W.load ?_|refine B4O ?_|refine j4 ?_|(refine s7 ?_;try dsimp only)|(refine A8a ?_;try dsimp only)|refine A0n ?_|refine W.store ?_|refine W.store0 ?_|refine A4r ?_|refine A1p ?_ rfl|refine A1o rfl ?_|refine o5 rfl ?_|refine Y4 rfl ?_|refine W8 rfl ?_|refine W.inl ?_|refine W.inr ?_|refine W5 ?_|refine o5 (Go.H.nbq _) ?_|refine W8 (Go.H.nbq _) ?_|refine o5 (Go.H.nbd rfl) ?_|refine W8 (Go.H.nbd rfl) ?_)
   refine B0l o.props.length (fun i x=>x.1=(i:Int)) (fun i x=>_) rfl Sub.rfl (fun i x hi hI=>by rw[hI];simp only[uM];exact G0.2 (by omega)) ?_ ?_
   ·rintro⟨_,⟨⟩⟩ uF K2 iz
    refine U3 (iz _ _ ?_)
    repeat(first|refine b7 ?_|refine X3 ?_|refine Y2 fun _=>?_|refine W.load ?_|refine B4O ?_|refine j4 ?_|(refine s7 ?_;try dsimp only)|(refine A8a ?_;try dsimp only)|refine A0n ?_|refine W.store ?_|refine W.store0 ?_|refine A4r ?_|refine A1p ?_ rfl|refine A1o rfl ?_|refine o5 rfl ?_|refine Y4 rfl ?_|refine W8 rfl ?_|refine W.inl ?_|refine W.inr ?_|refine W5 ?_|refine o5 (Go.H.nbq _) ?_|refine W8 (Go.H.nbq _) ?_|refine o5 (Go.H.nbd rfl) ?_|refine W8 (Go.H.nbd rfl) ?_)
    refine B0l o.cB.length (fun i x=>x.1=(i:Int)) (fun i x=>_) rfl Sub.rfl (fun i x hi hI=>by rw[hI];simp only[uN];exact G0.2 (by omega)) ?_ ?_
    ·rintro⟨_,⟨⟩⟩ uE K3 vR
     refine U3 (vR _ _ (W.inl (U3 ((bu _ ?_).sub))))
     simp only;rw[V8 (by omega) (by omega)];rfl
    ·rintro j ⟨_,⟨⟩⟩ lM uE K3 tK vR
     simp only at uE
     subst uE
     have pR:=B0 lM
     have oS:=dc.cB _ (G8 lM)
     refine W.load ?_
     refine A78 nB lM fun a ha=>C7R nB ha pR ?_
     refine W.load ?_
     refine A78 nA lM fun a2 dI=>C7R nA dI pR ?_
     refine W8 (by rw[V8 (by omega) (by omega)];simp only[beq_self_eq_true,N4,decide_true,Bool.and_true,Bool.and_self]) (U3 (tK _ ?_))
     simp only;rw[V8 (by omega) (by omega)];rfl
   ·rintro j ⟨_,⟨⟩⟩ lM uF K2 jK iz
    simp only at uF
    subst uF
    have pR:=B0 lM
    refine W.load ?_
    refine A78 nz lM fun a ha=>B4Q nz ha pR ?_
    refine W.load ?_
    refine A78 ny lM fun a2 dI=>B4Q ny dI pR ?_
    refine W8 (by simp only[beq_self_eq_true,N4,decide_true,Bool.and_true,Bool.and_self]) (U3 (jK _ ?_))
    simp only;rw[V8 (by omega) (by omega)];rfl
end
section
open Go.H Go.Proofs
variable {h h0:Heap} {L L' L1 R:List Asn} {Q:Value→Heap→Prop}
def B7b(k:IntKind)(h0:Heap)(s:Slc)(os:List r8):Prop:=∃T:List (Slc×Slc×r8),T.map (·.2.2)=os∧Z8 (A0P k) 28 h0 s (T.map ouF)∧
 ∀t∈T,Z8 (eKd k) 1 h0 t.1 t.2.2.pk.cB∧Z8 X1 4 h0 t.2.1 t.2.2.pk.props
theorem C3q{k:IntKind}{s:Slc}{os:List r8}(hs:sat h (W0 k s os::R)):B7b k h s os:=by
 obtain⟨T,hT,aa⟩:=A2C.1 hs
 refine⟨T,hT,aa.aO (Enc.len (enc:=A0P k)),fun t ht=>?_⟩
 obtain⟨R',ae⟩:=A9c ht aa.p1
 have aj:=A4K.1 ae
 exact⟨aj.aO (C3J k),aj.p1.aO C3H⟩
theorem B7b.len{k:IntKind}{s:Slc}{os:List r8}(hp:B7b k h0 s os):s.len=os.length:=by
 obtain⟨T,rfl,h1,-⟩:=hp
 rw[h1.1];simp
theorem B1O{k:IntKind}{x:Nat}{o:PkO}{c p:Slc}(hs:sat h (U6 (W9 k) 26 ⟨some ⟨x,0,none⟩,1,1⟩ [pkT o c p]::R))(hc:Z8 (eKd k) 1 h c o.cB)(hp:Z8 X1 4 h p o.props):B69 k h ⟨some ⟨x,0,none⟩,1,1⟩ [o]:=
 ⟨[(c,p,o)],rfl,hs.aO (B6r k),fun t ht=>by rw[B8.1 ht];exact⟨hc,hp⟩⟩
theorem C48{β γ:Type}{enc:γ→D0u}{size:Nat}{s:Slc}{xs:List γ}{Q':β→Heap→Prop}{ts:List Tag}{i k:Nat}{a:Addr}{x:γ}{v:Tup ts}{f:Tup ts→HM β}(hr:Z8 enc size h0 s xs)(ha:El s size i a)(hi:xs[i]? =some x)(hw:W L (f v) Q')(hx:Has L (old h0) L':=by repeat first|with_reducible exact V1|apply V3)(hv:Tup.get ts (((enc x).drop k).take ts.length)=some v:=by rfl):W L (HM.bind (o6 ts (Addr.add a k)) f) Q':=fun h hs=>by
 have:=ha.row hr hi
 refine⟨v,fun j u hu=>?_,hw h hs⟩
 rw[←Tup.bK ts _ v hv,L8] at hu
 split at hu
 ·rw[N5] at hu
  rw[A9e]
  exact(hx.s hs).bY (this _ u hu)
 ·cases hu
theorem C4c{s1 s2:Slc}{os:List r8}(h1:B7b .u8 h0 s1 os)(h2:B7b .i64 h0 s2 os)(hl:os.length≤100000000)(hf:∀o∈os,A59 o.pk)(hq:At [old h0] (Q (.bool true))):
  FW prog 50 #[.slice s1.a s1.len s1.cap,.slice s2.a s2.len s2.cap] [old h0] Q:=by
 refine fun h hs=>A9Q s1 s2 h Q ((?_:W [old h0] _ _) h hs)
 clear hs h
 have l1:=h1.len
 have l2:=h2.len
 obtain⟨T,hT,r1,sN⟩:=h1
 obtain⟨U,hU,r2,sM⟩:=h2
 have al:∀t∈T,A59 t.2.2.pk:=fun t ht=>hf _ (by have:=B3 (f:=fun t:Slc×Slc×r8=>t.2.2) ht;rw[hT] at this;exact this)
 have lT:T.length=os.length:=by rw[←hT];simp
 have lU:U.length=os.length:=by rw[←hU];simp
 delta B0a az bn cb g2 A02 ie ix kb ki nw pu rq wi
 refine W8 (by rw[l1,l2];simp) ?_
 refine B0l os.length (fun i x=>x.1=(i:Int)) (fun i x=>[old h0]) rfl Sub.rfl (fun i x hi hI=>by rw[hI,l1];exact G0.2 (by omega)) ?_ ?_
 ·rintro⟨_,⟨⟩⟩ hI K hd
  exact U3 (hd _ _ (W.inl (U3 hq)))
 ·rintro i ⟨_,⟨⟩⟩ ah hI K bu hd
  simp only at hI
  subst hI
  have kO:T[i]? =some T[i]:=B0 (by omega)
  have nC:U[i]? =some U[i]:=B0 (by omega)
  have k1:=sN _ (F3 kO)
  have k2:=sM _ (F3 nC)
  have e1:T[i].2.2=U[i].2.2:=by
   have g1:=congrArg (fun l=>l[i]?) hT
   have g2:=congrArg (fun l=>l[i]?) hU
   simp only[K7,kO,nC,R8] at g1 g2
   rw[←g2] at g1
   exact Option.some.inj g1
  have dc:A59 T[i].2.2.pk:=al _ (F3 kO)
  have gh:(T.map ouF)[i]? =some (ouF T[i]):=by rw[K7,kO];rfl
  have fJ:(U.map ouF)[i]? =some (ouF U[i]):=by rw[K7,nC];rfl
  have fU:i<(T.map ouF).length:=by rw[C1];omega
  have jk:i<(U.map ouF).length:=by rw[C1];omega
  generalize T[i]=t at gh k1 e1 dc
  generalize U[i]=u at fJ k2 e1
  obtain⟨c1,p1,o⟩:=t
  obtain⟨c2,p2,o2⟩:=u
  simp only at e1 k1 k2 dc
  subst e1
  obtain⟨nB,nz⟩:=k1
  obtain⟨nA,ny⟩:=k2
  obtain⟨oc,op,ox⟩:=o
  simp only at nB nz nA ny dc
  refine A1g (fun a=>a.1=false) (fun K2 bg=>?_) (fun a ha=>?_)
  case refine_2=>
   refine W8 ha (U3 (bu _ ?_))
   simp only;rw[V8 (by omega) (by omega)];rfl
  refine A78 r1 fU fun a ha=>?_
  refine C6U (k:=0) (v:=oc) r1 ha gh ?_
  refine A78 r2 jk fun a2 dI=>?_
  refine C6U (k:=0) (v:=oc) r2 dI fJ ?_
  refine W8 (by simp) ?_
  refine A78 r1 fU fun a3 jR=>?_
  refine C6U (k:=27) (v:=ox) r1 jR gh ?_
  refine A78 r2 jk fun a4 uA=>?_
  refine C6U (k:=27) (v:=ox) r2 uA fJ ?_
  refine W8 (by simp) ?_
  refine A78 r1 fU fun a5 rv=>?_
  refine C48 (k:=1) (v:=pkT op c1 p1) r1 rv gh ?_
  refine A78 r2 jk fun a6 uz=>?_
  refine C48 (k:=1) (v:=pkT op c2 p2) r2 uz fJ ?_
  refine A79 ?_ ?_
  ·refine Y2 fun y1=>?_
   refine C48 (k:=1) (v:=pkT op c2 p2) r2 uz fJ (A1p ?_ rfl)
   refine Y2 fun y2=>?_
   refine C48 (k:=1) (v:=pkT op c1 p1) r1 rv gh (A1p ?_ rfl)
   refine C6T (enc:=W9 .u8) (x:=y1) (pkT op c1 p1) ?_
   refine C6T (enc:=W9 .i64) (x:=y2) (pkT op c2 p2) ?_
   refine W.sub (L':=U6 (W9 .u8) 26 ⟨some ⟨y1,0,none⟩,1,1⟩ [pkT op c1 p1]::U6 (W9 .i64) 26 ⟨some ⟨y2,0,none⟩,1,1⟩ [pkT op c2 p2]::[old h0]) ?_
   refine j2 (C3S (v:=.bool true) (fun h1 aa Q1 jg=>?_) (At.un (x:=true) ?_))
   ·have ho:=aa.re [2,0,1]
    exact B5h (s1:=⟨some ⟨y1,0,none⟩,1,1⟩) (s2:=⟨some ⟨y2,0,none⟩,1,1⟩) (os:=[op]) (B1O aa (nB.old ho) (nz.old ho)) (B1O (aa.re [1,0,2]) (nA.old ho) (ny.old ho)) (C7 (D8 1) (by decide)) (fun o ho=>by rw[B8.1 ho];exact dc) jg
   exact U3 (bg (false,()) rfl).sub
  ·refine Y2 fun y2=>?_
   refine C48 (k:=1) (v:=pkT op c1 p1) r1 rv gh (A1p ?_ rfl)
   refine Y2 fun y1=>?_
   refine C48 (k:=1) (v:=pkT op c2 p2) r2 uz fJ (A1p ?_ rfl)
   refine C6T (enc:=W9 .u8) (x:=y1) (pkT op c1 p1) ?_
   refine C6T (enc:=W9 .i64) (x:=y2) (pkT op c2 p2) ?_
   refine W.sub (L':=U6 (W9 .u8) 26 ⟨some ⟨y1,0,none⟩,1,1⟩ [pkT op c1 p1]::U6 (W9 .i64) 26 ⟨some ⟨y2,0,none⟩,1,1⟩ [pkT op c2 p2]::[old h0]) ?_
   refine j2 (C3S (v:=.bool true) (fun h1 aa Q1 jg=>?_) (At.un (x:=true) ?_))
   ·have ho:=aa.re [2,0,1]
    exact B5h (s1:=⟨some ⟨y1,0,none⟩,1,1⟩) (s2:=⟨some ⟨y2,0,none⟩,1,1⟩) (os:=[op]) (B1O aa (nB.old ho) (nz.old ho)) (B1O (aa.re [1,0,2]) (nA.old ho) (ny.old ho)) (C7 (D8 1) (by decide)) (fun o ho=>by rw[B8.1 ho];exact dc) jg
   exact U3 (bg (false,()) rfl).sub
end
section
open Go.H Go.Proofs
theorem A2K(l:List Int):(Z4 l).Perm l:=R0 l _
theorem A3h(l:List Int):(Z4 l).Pairwise (·≤ ·):=by
 have:=List.pairwise_mergeSort (le:=fun x y:Int=>decide (x≤y)) (fun a b c h1 h2=>by simp only[decide_eq_true_eq] at*;omega) (fun a b=>by simp only[Bool.or_eq_true,decide_eq_true_eq];omega) l
 exact this.imp fun h=>by simpa using h
theorem B7J{l l':List Int}(hp:l.Perm l')(h:l.Pairwise (·≤ ·))(h':l'.Pairwise (·≤ ·)):l=l':=
 List.Perm.eq_of_pairwise (le:=fun a b=>a≤b) (fun a b _ _ h1 h2=>Int.le_antisymm h1 h2) h h' hp
theorem B2E{l:List Int}{k:Int}:k∈Z4 l↔k∈l:=(A2K l).mem_iff
theorem A2T(l:List Int):(Z4 l).length=l.length:=(A2K l).length_eq
theorem C2n{l a b:List Int}{k:Int}(hl:Z4 l=a++b)(ha:∀x∈a,x≤k)(hb:∀x∈b,k≤x):a++k::b=Z4 (l++[k]):=by
 have hs:=A3h l
 rw[hl,I7] at hs
 refine B7J ?_ ?_ (A3h _)
 ·refine List.Perm.trans ?_ (A2K _).symm
  refine P8.trans ?_
  rw[←hl]
  exact((A2K l).cons k).trans (List.perm_append_singleton k l).symm
 ·rw[I7]
  refine⟨hs.1,?_,fun x hx y hy=>?_⟩
  ·rw[H5];exact⟨hb,hs.2.1⟩
  ·rcases D2.1 hy with rfl|hy
   ·exact ha x hx
   ·exact hs.2.2 x hx y hy
theorem C2P{l:List Int}(hn:l.Nodup)(k:Int):(Z4 l).filter (fun x=> !(x==k))=Z4 (l.erase k):=by
 refine B7J ?_ ((A3h l).filter _) (A3h _)
 refine((A2K l).filter _).trans (List.Perm.trans ?_ (A2K _).symm)
 rw[hn.erase_eq_filter]
 refine List.Perm.of_eq (K8 fun x _=>?_)
 rfl
theorem C1Y(used:List Int)(t:Int)(h0:0≤t)(h1:t≤65535)(hd:used.Nodup)(h2:used.length<65535):∃n u,n≤used.length∧Reach used n t u:=by
 have key:∀(j:Nat),∀t,0≤t→t≤65535→(∃n u,n<j∧Reach used n t u)∨∀i,i<j→((t+i) % 65535+1)∈used:=by
  intro j
  induction j with
  |zero=>intro t _ _;exact .inr (fun i hi=>by omega)
  |succ j ih=>
   intro t oI pZ
   by_cases hm:nxt t∈used
   ·have hr:=A3R oI
    rcases ih (nxt t) (by omega) (by omega) with⟨n,u,hn,hu⟩|da
    ·exact .inl ⟨n+1,u,by omega,.on hm hu⟩
    ·refine .inr fun i hi=>?_
     cases i with
     |zero=>simpa[nxt] using hm
     |succ i=>
      have:=da i (by omega)
      have e:((nxt t+(i:Int)) % 65535+1)=((t+((i+1:Nat):Int)) % 65535+1):=by unfold nxt;omega
      rw[e] at this
      exact this
   ·exact .inl ⟨0,nxt t,by omega,.here hm⟩
 rcases key (used.length+1) t h0 h1 with⟨n,u,hn,hu⟩|da
 ·exact⟨n,u,by omega,hu⟩
 ·exfalso
  have bf:∀x∈((List.range (used.length+1)).map fun(i:Nat)=>((t+(i:Int)) % 65535+1)),x∈used:=by
   intro x hx
   obtain⟨i,hi,rfl⟩:=E4.1 hx
   exact da i (R3.1 hi)
  have au:((List.range (used.length+1)).map fun(i:Nat)=>((t+(i:Int)) % 65535+1)).Nodup:=by
   refine P5.2 (List.Pairwise.imp_of_mem ?_ List.pairwise_lt_range)
   intro a b ha hb db
   have:=R3.1 ha
   have:=R3.1 hb
   omega
  have:=B9m _ _ au bf
  simp at this
  omega
def A0N(b:Nat)(s:u6):Asn:=exA fun sl:Slc=>star (cells b #[.int .i64 s.most,.int .i64 s.taken,.slice sl.a sl.len sl.cap]) (U6 eI 1 sl (Z4 s.used))
theorem A1P{h:Heap}{b:Nat}{s:u6}{R:List Asn}:sat h (A0N b s::R)↔
  ∃sl:Slc,sat h (cells b #[.int .i64 s.most,.int .i64 s.taken,.slice sl.a sl.len sl.cap]::U6 eI 1 sl (Z4 s.used)::R):=by
 unfold A0N
 rw[sat.bA]
 constructor
 ·rintro⟨sl,hs⟩
  rw[sat.aI] at hs
  exact⟨sl,hs⟩
 ·rintro⟨sl,hs⟩
  exact⟨sl,by rw[sat.aI];exact hs⟩
theorem B0A{h:Heap}{R:List Asn}(hs:sat h R)(most:Int){Q:Value→Heap→Prop}
  (hq:∀b h',sat h' (A0N b ⟨max 1 (min most 64),0,[]⟩::R)→Q (at0 b) h'):V4 prog 249 #[.int .i64 most] h Q:=by
 refine B4z most h Q ?_
 delta B7Z az bn ie nw pu vi vz
 have fin:∀n:Int,n=max 1 (min most 64)→HM.new (.cells #[.int .i64 n,.int .i64 0,.slice none 0 0] 368) h fun b h'=>Q (at0 b) h':=by
  rintro n rfl
  refine V6 hs fun b h2 ae=>?_
  have e:Z4 ([]:List Int)=[]:=by simp[Z4]
  exact hq b h2 (A1P.2 ⟨⟨none,0,0⟩,by rw[e];exact(Z5 ae).p1⟩)
 by_cases h1:most<1
 ·simp[h1]
  exact fin 1 (by omega)
 ·by_cases h2:64<most
  ·simp[h1,h2]
   exact fin 64 (by omega)
  ·simp[h1,h2]
   exact fin most (by omega)
theorem B2I{h:Heap}{R:List Asn}{b:Nat}{s:u6}{k:Int}(hs:sat h (A0N b s::R))(hl:s.used.length≤64){Q:Value→Heap→Prop}
  (hq:Q (.bool (decide (k∈s.used))) h):V4 prog 243 #[at0 b,.int .i64 k] h Q:=by
 refine B5A _ k h Q ?_
 obtain⟨sl,hs⟩:=A1P.1 hs
 have c2:W3 h ⟨b,2,none⟩=some (.slice sl.a sl.len sl.cap):=hs.cell 2
 have aM:=hs.p1.aO A5k
 have hlen:=hs.p1.aW
 rw[A2T] at hlen
 delta C0k bn ie ix kc li nn pu wi
 simp
 refine B9l (γ:=Nat) (fun i c h'=>h'=h∧c.1=(i:Int)∧i≤s.used.length∧k∉(Z4 s.used).take i) (fun i=>s.used.length-i) 0 ⟨rfl,rfl,D1 _,by simp⟩ ?_
 rintro i ⟨c,⟨⟩⟩ h' ⟨rfl,hc,hi,hn⟩
 simp only at hc
 subst hc
 simp[c2]
 have next:IntKind.wrap .i64 ((i:Int)+1)=((i+1:Nat):Int):=by rw[V8 (by omega) (by omega)];rfl
 by_cases ah:i<s.used.length
 ·rw[if_pos (by omega)]
  have bk:i<(Z4 s.used).length:=by rw[A2T];exact ah
  refine X9 aM (B0 bk) fun a ha=>?_
  have c0:W3 h' a=some (.int .i64 (Z4 s.used)[i]):=by simpa[Go.H.add_zero] using ha 0 _ rfl
  simp[c0]
  by_cases hk:(Z4 s.used)[i]=k
  ·have hm:k∈s.used:=B2E.1 (hk▸G8 bk)
   simp[hk]
   simpa[hm] using hq
  ·simp[hk]
   refine⟨i+1,by omega,next,by omega,fun hm=>?_⟩
   rw[C4 bk,C9] at hm
   rcases hm with hm|hm
   ·exact hn hm
   ·exact hk (B8.1 hm).symm
 ·rw[if_neg (by omega)]
  rw[D4 (by rw[A2T];omega)] at hn
  have hm:k∉s.used:=fun hx=>hn (B2E.2 hx)
  simpa[hm] using hq
theorem B5l{h:Heap}{R:List Asn}{b:Nat}{s:u6}{k:Int}(hs:sat h (A0N b s::R))(hl:s.used.length≤64){Q:Value→Heap→Prop}
  (hq:∀h',sat h' (A0N b ⟨s.most,s.taken,s.used++[k]⟩::R)→Q (.tuple #[]) h'):V4 prog 264 #[at0 b,.int .i64 k] h Q:=by
 refine B4y _ k h Q ?_
 obtain⟨sl,hs⟩:=A1P.1 hs
 have lF:=A3h s.used
 have oX:=A2T s.used
 delta B7Y az bn ie ix kc li nn nw pu sx vi vs wi
 simp
 refine o0 (γ:=Nat×List Int×List Int) (fun g c h'=>c.2.2.1=(g.1:Int)∧g.1≤s.used.length∧(Z4 s.used).take g.1=g.2.1++g.2.2∧(∀x∈g.2.1,x≤k)∧(∀x∈g.2.2,k≤x)∧
   (c.1=false→g.2.2=[])∧(c.1=true→∃y∈g.2.2,k<y)∧
   sat h' (U6 eI 1 c.2.1 (if c.1=true then g.2.1++k::g.2.2 else g.2.1)::cells b #[.int .i64 s.most,.int .i64 s.taken,.slice sl.a sl.len sl.cap]::U6 eI 1 sl (Z4 s.used)::R))
  (fun g=>s.used.length-g.1) (0,[],[]) ⟨rfl,D1 _,rfl,by simp,by simp,by simp,by simp,Z5 hs⟩ ?_
 rintro⟨i,a,bb⟩ ⟨done,out,c,⟨⟩⟩ h1 ⟨hc,hi,ht,ha,hb,jm,vS,aa⟩
 simp only at hc hi ht ha hb jm vS aa
 subst hc
 have c2:W3 h1 ⟨b,2,none⟩=some (.slice sl.a sl.len sl.cap):=aa.p1.cell 2
 have hlen:=aa.p2.aW
 rw[oX] at hlen
 have next:IntKind.wrap .i64 ((i:Int)+1)=((i+1:Nat):Int):=by rw[V8 (by omega) (by omega)];rfl
 simp[c2]
 by_cases ah:i<s.used.length
 ·rw[if_pos (by omega)]
  have bk:i<(Z4 s.used).length:=by rw[oX];exact ah
  have aV:=C4 bk
  generalize hx:(Z4 s.used)[i]=x at aV
  have nT:(Z4 s.used)[i]? =some x:=by rw[←hx];exact B0 bk
  have hle:∀y∈(Z4 s.used).take i,y≤x:=by
   have e:=J3 i (Z4 s.used)
   rw[←e,I7] at lF
   intro y hy
   refine lF.2.2 y hy x ?_
   rw[E1 bk,hx]
   exact B4 ..
  have jn:a.length+bb.length=i:=by
   have:=congrArg List.length ht
   simp at this
   omega
  have aM:∀{h2:Heap} {A:Asn} {R':List Asn},sat h2 (A::cells b #[.int .i64 s.most,.int .i64 s.taken,.slice sl.a sl.len sl.cap]::U6 eI 1 sl (Z4 s.used)::R')→W3 h2 ⟨b,2,none⟩=some (.slice sl.a sl.len sl.cap)∧Z8 eI 1 h2 sl (Z4 s.used):=
   fun af=>⟨af.p1.cell 2,af.p2.aO A5k⟩
  have iD:∀{h2:Heap} {a:Addr},(∀j v,(eI x)[j]? =some v→W3 h2 (a.add j)=some v)→W3 h2 a=some (.int .i64 x):=fun i'=>by simpa[Go.H.add_zero] using i' 0 _ rfl
  have iF:∀l:List Int,l.length≤70→(l.length+1)*8≤140737488355328:=fun l gq=>by omega
  cases done with
  |true=>
   simp at aa⊢
   refine X9 (aM aa).2 nT fun ad ru=>?_
   simp[iD ru]
   refine A1c (x:=x) A5k A9z rfl aa (by omega) (by omega) (iF _ (by simp;omega)) fun fk h2 ae=>?_
   obtain⟨y,gh,fJ⟩:=vS rfl
   have xD:k≤x:=by have:=hle y (by rw[ht];exact G6 _ gh);omega
   refine .mk (i+1,a,bb++[x]) (by simp;omega) ⟨next,by simp;omega,by simp[aV,ht],ha,?_,by simp,fun _=>⟨y,by simp[gh],fJ⟩,by simpa using ae⟩
   intro z hz
   rcases C9.1 hz with hz|hz
   ·exact hb z hz
   ·rw[B8.1 hz];exact xD
  |false=>
   simp at aa⊢
   refine X9 (aM aa).2 nT fun ad ru=>?_
   simp[iD ru]
   by_cases lN:k<x
   ·simp[lN]
    refine A1c (x:=k) A5k A9z rfl aa (by omega) (by omega) (iF _ (by omega)) fun sO h2 ae=>?_
    simp[(aM ae).1]
    refine X9 (aM ae).2 nT fun uK jQ=>?_
    simp[iD jQ]
    refine A1c (x:=x) A5k A9z rfl ae (by omega) (by omega) (iF _ (by simp;omega)) fun fk h3 aj=>?_
    have ri:bb=[]:=jm rfl
    subst ri
    refine .mk (i+1,a,[x]) (by simp;omega) ⟨next,by simp;omega,by simpa[aV] using ht,ha,?_,by simp,fun _=>⟨x,by simp,lN⟩,by simpa using aj⟩
    intro z hz
    rw[B8.1 hz];omega
   ·simp[lN]
    have ri:bb=[]:=jm rfl
    subst ri
    simp[c2]
    refine X9 (aM aa).2 nT fun uK jQ=>?_
    simp[iD jQ]
    refine A1c (x:=x) A5k A9z rfl aa (by omega) (by omega) (iF _ (by omega)) fun fk h3 aj=>?_
    refine .mk (i+1,a++[x],[]) (by simp;omega) ⟨next,by simp;omega,by simpa[aV] using ht,?_,by simp,by simp,by simp,by simpa using aj⟩
    intro z hz
    rcases C9.1 hz with hz|hz
    ·exact ha z hz
    ·rw[B8.1 hz];omega
 ·rw[if_neg (by omega)]
  have en:i=s.used.length:=by omega
  subst en
  rw[D4 (by omega)] at ht
  have fin:∀(h2:Heap) (fk:Slc),sat h2 (U6 eI 1 fk (Z4 (s.used++[k]))::cells b #[.int .i64 s.most,.int .i64 s.taken,.slice sl.a sl.len sl.cap]::U6 eI 1 sl (Z4 s.used)::R)→
    A7e ⟨b,2,none⟩ (.slice fk.a fk.len fk.cap) h2 fun _ h'=>Q (.tuple #[]) h':=by
   intro h2 fk ae
   refine W7 ae.p1 (by simp) rfl fun h3 aj=>hq h3 (A1P.2 ⟨fk,?_⟩)
   exact aj.p2.drop
  have qI:=C2n ht ha hb
  cases done with
  |true=>
   simp at aa⊢
   rw[qI] at aa
   exact fin _ _ aa
  |false=>
   simp at aa⊢
   have ri:bb=[]:=jm rfl
   subst ri
   refine A1c (x:=k) A5k A9z rfl aa (by omega) (by omega) (by simp at ht;rw[←ht,oX];omega) fun sO h2 ae=>?_
   rw[qI] at ae
   exact fin _ _ ae
theorem C70{h:Heap}{R:List Asn}{b:Nat}{s:u6}(hs:sat h (A0N b s::R)):∃sl:Slc,sl.len=s.used.length∧W3 h ⟨b,0,none⟩=some (.int .i64 s.most)∧W3 h ⟨b,1,none⟩=some (.int .i64 s.taken)∧
  W3 h ⟨b,2,none⟩=some (.slice sl.a sl.len sl.cap)∧Z8 eI 1 h sl (Z4 s.used):=by
 obtain⟨sl,hs⟩:=A1P.1 hs
 refine⟨sl,?_,hs.cell 0,hs.cell 1,hs.cell 2,hs.p1.aO A5k⟩
 rw[hs.p1.aW,A2T]
theorem B8Z{h:Heap}{R:List Asn}{b:Nat}{s:u6}{k:Int}(hs:sat h (A0N b s::R))(ag:s.ok){Q:Value→Heap→Prop}
  (an:i7 s k≠0→Q (.int .i64 (i7 s k)) h)
  (bC:i7 s k=0→∀h',sat h' (A0N b ⟨s.most,s.taken,s.used++[k]⟩::R)→Q (.int .i64 0) h'):V4 prog 246 #[at0 b,.int .i64 k] h Q:=by
 refine B1t _ _ h Q ?_
 obtain⟨sl,cH,c0,c1,c2,-⟩:=C70 hs
 have hl:=ag.len
 have hm:=ag.cP
 delta B3Q bn cb cx ie kc ki nn pu vi
 simp
 by_cases h1:k<1
 ·simp[h1];simpa[i7,h1] using an
 by_cases h2:65535<k
 ·simp[h1,h2];simpa[i7,h2] using an
 simp[h1,h2]
 refine B2I hs (by omega) ?_
 by_cases h3:k∈s.used
 ·simp[h3]
  have:i7 s k=145:=by simp[i7,h1,h2,h3]
  rw[this] at an
  exact an (by omega)
 simp[h3,c2,c0]
 by_cases h4:(s.used.length:Int)=s.most
 ·have:i7 s k=147:=by simp[i7,h1,h2,h3,h4]
  rw[this] at an
  rw[if_pos (by omega)]
  exact an (by omega)
 rw[if_neg (by omega)]
 refine B5l hs (by omega) fun h' af=>?_
 simp
 exact bC (by simp[i7,h1,h2,h3,h4]) h' af
theorem B3K{h:Heap}{R:List Asn}{b:Nat}{s:u6}{k:Int}(hs:sat h (A0N b s::R))(ag:s.ok){Q:Value→Heap→Prop}
  (hq:∀h',sat h' (A0N b ⟨s.most,s.taken,s.used.erase k⟩::R)→Q (.bool (decide (k∈s.used))) h'):V4 prog 244 #[at0 b,.int .i64 k] h Q:=by
 refine B2Y _ _ h Q ?_
 have hl:s.used.length≤64:=by have:=ag.len;have:=ag.cP;omega
 obtain⟨sl,hs⟩:=A1P.1 hs
 have oX:=A2T s.used
 delta B5B az bn ie ix kc li nn nw pu sx vi vs wi
 simp
 refine o0 (γ:=Nat) (fun i c h'=>c.2.1=(i:Int)∧i≤s.used.length∧
   sat h' (U6 eI 1 c.1 (((Z4 s.used).take i).filter fun x=> !(x==k))::cells b #[.int .i64 s.most,.int .i64 s.taken,.slice sl.a sl.len sl.cap]::U6 eI 1 sl (Z4 s.used)::R))
  (fun i=>s.used.length-i) 0 ⟨rfl,D1 _,Z5 hs⟩ ?_
 rintro i ⟨out,c,⟨⟩⟩ h1 ⟨hc,hi,aa⟩
 simp only at hc aa
 subst hc
 have c2:W3 h1 ⟨b,2,none⟩=some (.slice sl.a sl.len sl.cap):=aa.p1.cell 2
 have hlen:=aa.p2.aW
 rw[oX] at hlen
 have aM:=aa.p2.aO A5k
 have next:IntKind.wrap .i64 ((i:Int)+1)=((i+1:Nat):Int):=by rw[V8 (by omega) (by omega)];rfl
 simp[c2]
 by_cases ah:i<s.used.length
 ·rw[if_pos (by omega)]
  have bk:i<(Z4 s.used).length:=by rw[oX];exact ah
  have aV:=C4 bk
  generalize hx:(Z4 s.used)[i]=x at aV
  have nT:(Z4 s.used)[i]? =some x:=by rw[←hx];exact B0 bk
  refine X9 aM nT fun ad ru=>?_
  have e0:W3 h1 ad=some (.int .i64 x):=by simpa[Go.H.add_zero] using ru 0 _ rfl
  simp[e0]
  by_cases lN:x=k
  ·simp[lN]
   refine .mk (i+1) (by omega) ⟨next,by omega,?_⟩
   rw[aV]
   simpa[lN] using aa
  ·simp[lN,c2]
   refine X9 aM nT fun uK jQ=>?_
   have e1:W3 h1 uK=some (.int .i64 x):=by simpa[Go.H.add_zero] using jQ 0 _ rfl
   simp[e1]
   refine A1c (x:=x) A5k A9z rfl aa (by omega) (by omega) ?_ fun fk h2 ae=>?_
   ·have:=D3 (fun x=> !(x==k)) ((Z4 s.used).take i)
    have:=J6 i (Z4 s.used)
    omega
   refine .mk (i+1) (by omega) ⟨next,by omega,?_⟩
   rw[aV]
   simpa[lN] using ae
 ·rw[if_neg (by omega)]
  rw[D4 (by omega),C2P ag.nodup] at aa
  have gB:=aa.aW
  rw[A2T] at gB
  refine W7 aa.p1 (by simp) rfl fun h3 aj=>?_
  have:=hq h3 (A1P.2 ⟨out,aj.p2.drop⟩)
  have e:decide (out.len<sl.len)=decide (k∈s.used):=by
   rw[gB,hlen,List.length_erase]
   by_cases hm:k∈s.used
   ·have:=List.length_pos_of_mem hm
    simp[hm];omega
   ·simp[hm]
  rw[e]
  exact this
theorem C0c{h:Heap}{R:List Asn}{b:Nat}{s:u6}(hs:sat h (A0N b s::R))(ag:s.ok){Q:Value→Heap→Prop}
  (ax:(s.used.length:Int)=s.most→Q (.tuple #[.int .i64 0,.int .i64 147]) h)
  (bC:(s.used.length:Int)≠s.most→∀n u,Reach s.used n s.taken u→∀h',sat h' (A0N b ⟨s.most,u,s.used++[u]⟩::R)→Q (.tuple #[.int .i64 u,.int .i64 0]) h'):
  V4 prog 242 #[at0 b] h Q:=by
 refine B2X _ h Q ?_
 obtain⟨sl,cH,c0,c1,c2,-⟩:=C70 hs
 have hl:=ag.len
 have hm:=ag.cP
 delta B5z bn cb cx ie kc ki nn pu sx vi wi
 simp[c2,c0]
 by_cases h4:(s.used.length:Int)=s.most
 ·rw[if_pos (by omega)]
  exact ax h4
 rw[if_neg (by omega)]
 simp[c1]
 obtain⟨n,u,hn,hu⟩:=C1Y s.used s.taken ag.cM ag.dN ag.nodup (by omega)
 have wZ:=hu.range ag.cM
 refine o0 (γ:=Nat×Int) (fun g c h'=>h'=h∧c.1=g.2∧0≤g.2∧g.2≤65535∧0≤c.2.1∧c.2.1+g.1≤64∧Reach s.used g.1 g.2 u) (fun g=>g.1) (n,s.taken)
  ⟨rfl,rfl,ag.cM,ag.dN,by simp,by simp;omega,hu⟩ ?_
 rintro⟨n',t⟩ ⟨cid,cj,⟨⟩⟩ h1 ⟨rfl,hc,oI,pZ,xJ,vH,hr⟩
 simp only at hc oI pZ xJ vH hr
 subst hc
 have bu:(if 65535<IntKind.wrap .i64 (cid+1) then(1:Int) else IntKind.wrap .i64 (cid+1))=nxt cid:=by
  rw[V8 (by omega) (by omega)];unfold nxt;split<;>omega
 have yG:=A3R oI
 have step:∀Q':Value→Heap→Prop,(nxt cid∈s.used→Q' (.bool true) h1)→(nxt cid∉s.used→Q' (.bool false) h1)→V4 prog 243 #[at0 b,.int .i64 (nxt cid)] h1 Q':=by
  intro Q' q1 q2
  refine B2I hs (by omega) ?_
  by_cases ed:nxt cid∈s.used
  ·simpa[ed] using q1 ed
  ·simpa[ed] using q2 ed
 have fin:nxt cid∉s.used→A7e ⟨b,1,none⟩ (.int .i64 (nxt cid)) h1 fun _ h2=>V4 prog 264 #[at0 b,.int .i64 (nxt cid)] h2 (r9.un [] fun _ h3=>Q (.tuple #[.int .i64 (nxt cid),.int .i64 0]) h3):=by
  intro ed
  have xa:u=nxt cid:=hr.det (.here ed)
  subst xa
  obtain⟨sl',af⟩:=A1P.1 hs
  refine W7 af (by simp) rfl fun h2 ae=>?_
  have aj:sat h2 (A0N b ⟨s.most,nxt cid,s.used⟩::R):=A1P.2 ⟨sl',ae⟩
  refine B5l aj (show s.used.length≤64 by omega) fun h3 ak=>?_
  simp
  exact bC h4 n _ hu h3 ak
 have nextj:IntKind.wrap .i64 (cj+1)=cj+1:=V8 (by omega) (by omega)
 have oS:cj≤64:=by omega
 simp[oS]
 have w1:IntKind.wrap .i64 (cid+1)=cid+1:=V8 (by omega) (by omega)
 rw[w1,nextj]
 have rD:∀m:Int,m=nxt cid→V4 prog 243 #[at0 b,.int .i64 m] h1 ((Kind.one Tag.bool).un fun b_1 h'=>
   if b_1=true then Go.H.Next (fun(g:Nat×Int) (c:Int×Int×Unit) h'=>h'=h1∧c.1=g.2∧0≤g.2∧g.2≤65535∧0≤c.2.1∧c.2.1+g.1≤64∧Reach s.used g.1 g.2 u) (fun g=>g.1) (n',cid) (m,cj+1,()) h'
   else A7e ⟨b,1,none⟩ (.int .i64 m) h' fun b_2 h'=>V4 prog 264 #[at0 b,.int .i64 m] h' (r9.un [] fun _ h3=>Q (.tuple #[.int .i64 m,.int .i64 0]) h3)):=by
  rintro m rfl
  refine step _ (fun ed=>?_) (fun ed=>?_)
  ·simp
   cases hr with
   |here hx=>exact absurd ed hx
   |on kW dv=>exact .mk (_,nxt cid) (Nat.lt_succ_self _) ⟨rfl,rfl,by simp;omega,by simp;omega,by simp;omega,by simp at vH⊢;omega,dv⟩
  ·simp
   exact fin ed
 by_cases wg:65535<cid+1
 ·rw[if_pos wg]
  exact rD 1 (by unfold nxt;omega)
 ·rw[if_neg wg]
  exact rD (cid+1) (by unfold nxt;omega)
variable {h:Heap} {R:List Asn}
theorem size_pos{s:B38}(hs:¬s=ByteArray.mk #[]):0<s.size:=by
 refine Nat.pos_of_ne_zero fun e=>hs ?_
 have:s.data.size=0:=e
 have:s.data=#[]:=Array.eq_empty_of_size_eq_zero this
 cases s
 simp_all
def a8(b:Nat)(o:Z2):Asn:=exA fun x:Nat×Slc×Slc=>
 star (cells b #[at0 x.1,.int .i64 o.most,.bool o.on,.slice x.2.1.a x.2.1.len x.2.1.cap,.slice x.2.2.a x.2.2.len x.2.2.cap])
  (star (A0N x.1 o.aU) (star (U6 A0V 7 x.2.1 o.aG) (U6 Z7 5 x.2.2 o.waiting)))
theorem r6{h:Heap}{b:Nat}{o:Z2}{R:List Asn}:sat h (a8 b o::R)↔∃(pb:Nat) (fl wt:Slc),
  sat h (cells b #[at0 pb,.int .i64 o.most,.bool o.on,.slice fl.a fl.len fl.cap,.slice wt.a wt.len wt.cap]::A0N pb o.aU::U6 A0V 7 fl o.aG::U6 Z7 5 wt o.waiting::R):=by
 unfold a8
 rw[sat.bA]
 constructor
 ·rintro⟨⟨pb,fl,wt⟩,hs⟩
  rw[sat.aI] at hs
  exact⟨pb,fl,wt,(sat.aI.1 (sat.aI.1 hs.p1).p1).re [3,2,0,1]⟩
 ·rintro⟨pb,fl,wt,hs⟩
  refine⟨⟨pb,fl,wt⟩,?_⟩
  rw[sat.aI]
  exact(sat.aI.2 ((sat.aI.2 (hs.re [2,3,0,1])).re [2,0,1])).p1
theorem B73{n:Int}(hs:sat h R){Q:Value→Heap→Prop}(hq:∀h',sat h' R→Q (.int .i64 (max 1 (min n 64))) h'):V4 prog 202 #[.int .i64 n] h Q:=by
 refine B1q n h Q ?_
 delta B3O cp ki nn pu vi
 refine U7 (B0A hs n fun b h1 aa=>⟨_,rfl,?_⟩)
 obtain⟨sl,ae⟩:=A1P.1 aa
 exact⟨_,rfl,_,by rw[U4];exact ae.cell 0,hq _ aa.drop⟩
theorem C1V(hs:sat h R)(most:Int){Q:Value→Heap→Prop}
  (hq:∀b h',sat h' (a8 b ⟨⟨64,0,[]⟩,max 1 (min most 64),false,[],[]⟩::R)→Q (at0 b) h'):V4 prog 200 #[.int .i64 most] h Q:=by
 refine B4x most h Q ?_
 delta B7X az ci cp nw pu vi vz
 refine U7 (B0A hs 64 fun pb h1 aa=>⟨_,rfl,?_⟩)
 refine U7 (B73 aa fun h2 ae=>⟨_,rfl,?_⟩)
 refine V6 ae fun b h3 aj=>?_
 exact hq b h3 (r6.2 ⟨pb,⟨none,0,0⟩,⟨none,0,0⟩,(Z5 (Z5 aj)).re [2,3,0,1]⟩)
theorem B8Y{m:MsT}{id:Int}{dup:Bool}(hs:sat h R){Q:Value→Heap→Prop}(hq:∀c p h',sat h' (pkB .i64 (c,p,A0y m id dup)::R)→Q (A2z .i64 (pkT (A0y m id dup) c p)) h'):
  V4 prog 203 #[vMs m,.int .i64 id,.bool dup] h Q:=by
 refine A9O (toU m) id dup h Q ?_
 delta A99 az bn g2 ie jb ji jt nw pu sn sw ve vi vz w10 w11 w12 w13 w14 w15 w16 w17 w18 w19 w20 w21 w22 w23 w24 w25 w5 w6 w7 w8 w9
 refine V6 hs fun x1 h1 aa=>?_
 refine V6 aa fun x2 h2 ae=>?_
 refine⟨m.2.2.1,by rw[U4];exact ae.p1.cell 2,m.2.2.2.1,by rw[U4];exact ae.p1.cell 3,m.1,by rw[U4];exact ae.p1.cell 0,m.2.1,by rw[U4];exact ae.p1.cell 1,?_⟩
 refine V6 ae fun x7 h3 bt=>?_
 (try dsimp only);rw[U2]
 refine l6 bt rfl rfl fun h4 ak=>?_
 refine⟨m.2.2.2.2,by rw[U4];exact ak.p2.cell 4,?_⟩
 refine cut (fun z h'=>∃p:Slc,sat h' (cells x7 (W9 .i64 (pkT (A0y m id dup) ⟨none,0,0⟩ p)).toArray::cells x2 (W9 .i64 C5b).toArray::pkB .i64 (⟨none,0,0⟩,p,A0y m id dup)::R)) ?_ ?_
 ·intro K hK
  (try dsimp only);rw[U9]
  by_cases ht:m.2.2.2.2=ByteArray.mk #[]
  ·rw[if_neg (by rw[ht];decide)]
   refine hK _ _ ⟨⟨none,0,0⟩,?_⟩
   have:=A3o (k:=.i64) (o:=A0y m id dup) rfl (by simp[A0y,C1I,ht]) ak
   exact(this.re [1,2,0,3]).p3.drop
  ·rw[if_pos (by simpa using size_pos ht)]
   refine⟨m.2.2.2.2,by rw[U4];exact ak.p2.cell 4,?_⟩
   refine V6 ak fun iB h5 ai=>?_
   (try dsimp only);rw[U2,U4]
   refine W7 ai.p1 (by simp) rfl fun h6 aw=>?_
   refine hK _ _ ⟨⟨some ⟨iB,0,none⟩,1,1⟩,?_⟩
   have hp:(A0y m id dup).props=[(38,0,C5m,m.2.2.2.2)]:=by simp[A0y,C1I,ht]
   have h7:sat h6 (U6 X1 4 ⟨some ⟨iB,0,none⟩,1,1⟩ (A0y m id dup).props::cells x7 (W9 .i64 (pkT (A0y m id dup) ⟨none,0,0⟩ ⟨some ⟨iB,0,none⟩,1,1⟩)).toArray::cells x2 (W9 .i64 C5b).toArray::R):=by
    rw[hp]
    exact A1J (o:=0) (cs:=(X1 (38,0,C5m,m.2.2.2.2)).toArray) ⟨rfl,D8 _,rfl,by simp,by simp⟩ (aw.re [1,0,2,3]).p3.drop
   have h8:sat h6 (U6 (eKd .i64) 1 ⟨none,0,0⟩ (A0y m id dup).cB::U6 X1 4 ⟨some ⟨iB,0,none⟩,1,1⟩ (A0y m id dup).props::cells x7 (W9 .i64 (pkT (A0y m id dup) ⟨none,0,0⟩ ⟨some ⟨iB,0,none⟩,1,1⟩)).toArray::cells x2 (W9 .i64 C5b).toArray::R):=Z5 h7
   exact((A4K (t:=(⟨none,0,0⟩,⟨some ⟨iB,0,none⟩,1,1⟩,A0y m id dup))).2 h8).re [1,2,0]
 rintro⟨⟩ h5 ⟨p,ai⟩
 refine Y8 (ts:=B8F .i64) (pkT (A0y m id dup) ⟨none,0,0⟩ p) ai rfl ?_
 (try dsimp only);rw[U2]
 refine l6 ai.p1 rfl rfl fun h6 aw=>?_
 refine Y8 (ts:=B8F .i64) (pkT (A0y m id dup) ⟨none,0,0⟩ p) aw rfl ?_
 exact hq _ _ h6 aw.drop.drop
theorem B5H{s:Slc}{os:List PkO}{t:Slc×Slc×PkO}(hs:sat h (q8 .i64 s os::pkB .i64 t::R)){T T1 T2:TypeId}{zs:D0t}(hz:zs.size=26){zero:D0t}(gy:zero.size=26)(hb:os.length≤20000){β:Type}{f:Slc→HM β}{Q:β→Heap→Prop}
  (hq:∀s' h',sat h' (q8 .i64 s' (os++[t.2.2])::R)→f s' h' Q):
  (HM.bind (HM.new (.cells zs T)) fun x=>HM.bind (B0n ⟨x,0,none⟩ (W9 .i64 (pkF t))) fun _=>HM.bind (o6 (B8F .i64) ⟨x,0,none⟩) fun y=>
   HM.bind (HM.new (.cells (W9 .i64 y).toArray T1)) fun b=>HM.bind (HM.append T2 26 328 zero s 1 (V9 26 ⟨some ⟨b,0,none⟩,1,1⟩)) f) h Q:=by
 refine V6 hs fun x h1 aa=>?_
 (try dsimp only);rw[U2]
 refine B5a aa (by rw[hz];rfl) (B3n .i64 _) fun h2 ae=>?_
 refine Y8 (ts:=B8F .i64) (pkF t) ae rfl ?_
 refine A5d (t:=t) ae.drop gy (by decide) (by omega) fun s' h3 aj=>?_
 exact hq s' h3 aj
theorem B0B{b:Nat}{o:Z2}{ps:List PkO}{s:Slc}(hs:sat h (a8 b o::q8 .i64 s ps::R))(ag:X0 o)(gV:ps.length≤10000){Q:Value→Heap→Prop}
  (hq:∀h' S,sat h' (a8 b (Y7 o).1::q8 .i64 S (ps++(Y7 o).2)::R)→Q (.slice S.a S.len S.cap) h'):
  V4 prog 193 #[at0 b,.slice s.a s.len s.cap] h Q:=by
 refine B2V (some ⟨b,0,none⟩) s h Q ?_
 delta B5x az bn g2 g7 ie ix ji kb kc ki kp nn nw pu rq sn sx vi vs
 obtain⟨wO,yq,wJ,qg⟩:=r6.1 hs
 refine⟨_,rfl,o.on,by rw[U4];exact qg.cell 2,?_⟩
 (try dsimp only);rw[U9]
 cases aP:o.on with
 |false=>
  rw[if_pos (by rfl)]
  refine hq h s ?_
  have e:Y7 o=(o,[]):=by unfold Y7;rw[if_neg (by simp[aP])]
  rw[e,C2]
  exact hs
 |true=>
 rw[if_neg (by simp)]
 clear qg wO yq wJ
 (try dsimp only);rw[U2]
 refine A7A (γ:=Z2×List PkO) (fun g c h'=>X0 g.1∧g.1.on=true∧g.2.length+g.1.waiting.length≤10300∧(Y7 g.1).1=(Y7 o).1∧g.2++(Y7 g.1).2=ps++(Y7 o).2∧sat h' (a8 b g.1::q8 .i64 c.1 g.2::R)) (fun g=>g.1.waiting.length) (o,ps)
  ⟨ag,aP,by have:=ag.wl;simp only;omega,rfl,rfl,hs⟩ ?_
 clear hs gV ag aP
 rintro⟨o1,os⟩ ⟨out,⟨⟩⟩ h1 ⟨ag,aP,gV,df,cN,dS⟩ K bu hd
 simp only at ag gV df cN dS aP
 obtain⟨pb,fl,wt,aa⟩:=r6.1 dS
 have eX:wt.len=o1.waiting.length:=(aa.p3).aW
 have cq:fl.len=o1.aG.length:=(aa.p2).aW
 have nU:Y7 o1=goF o1 o1.waiting:=by unfold Y7;rw[if_pos aP]
 rw[nU] at df cN
 refine⟨_,rfl,wt,by rw[U4];exact aa.cell 4,?_⟩
 (try dsimp only);rw[U9]
 cases bx:o1.waiting with
 |nil=>
  rw[if_neg (by rw[eX,bx];simp)]
  have e:goF o1 o1.waiting=(o1,[]):=by
   rw[bx]
   show({o1 with waiting:=[]},[])=_
   rw[←bx]
  rw[e] at df cN
  rw[C2] at cN
  refine hd (.inl (out,())) _ (hq h1 out ?_)
  rw[←df,←cN]
  exact dS
 |cons m w=>
 rw[if_pos (by rw[eX,bx];simp)]
 have ic:=ag.wl
 have tO:=ag.wq m (by rw[bx];exact B4 ..)
 have nE:∀x∈w,0≤x.2.2.1∧x.2.2.1≤2:=fun x hx=>ag.wq x (by rw[bx];exact C3 _ hx)
 rw[bx] at gV aa eX ic
 rw[bx,B19] at df cN
 have iu:=ag.f64
 have qD:=ag.m64
 refine cut (fun z h'=>match z with
  |.inl c=>∃g:Z2×List PkO,g.1.waiting.length<o1.waiting.length∧X0 g.1∧g.1.on=true∧g.2.length+g.1.waiting.length≤10300∧(Y7 g.1).1=(Y7 o).1∧g.2++(Y7 g.1).2=ps++(Y7 o).2∧sat h' (a8 b g.1::q8 .i64 c.1 g.2::R)
  |.inr (.inr (.inr c))=>sat h' (a8 b (Y7 o).1::q8 .i64 c.1 (ps++(Y7 o).2)::R)
  |_=>False) (fun K1 fB=>?_) (fun z h2 hz=>?_)
 rotate_left
 ·match z,hz with
  |.inl (c,()),⟨g,g1,g2⟩=>exact bu g _ _ g1 g2
  |.inr (.inr (.inr (c,()))),hz=>exact hd (.inr (c,())) _ (hq h2 c hz)
 refine⟨_,rfl,wt,by rw[U4];exact aa.cell 4,?_⟩
 (try dsimp only);rw[U2]
 refine X9 (i:=0) (aa.p3.aO A7V) (x:=m) rfl fun p hp=>?_
 (try dsimp only);rw[U2]
 refine C3w hp ?_
 refine V6 aa fun jd h3 aQ=>?_
 (try dsimp only);rw[U2]
 refine l6 aQ rfl rfl fun h4 gI=>?_
 have ae:sat h4 (cells jd (Z7 m).toArray::cells b #[at0 pb,.int .i64 o1.most,.bool o1.on,.slice fl.a fl.len fl.cap,.slice wt.a wt.len wt.cap]::A0N pb o1.aU::U6 A0V 7 fl o1.aG::U6 Z7 5 wt (m::w)::q8 .i64 out os::R):=gI
 clear gI aQ aa
 refine cut (fun z h'=>h'=h4∧z.1=decide (0<m.2.2.1∧o1.most≤(o1.aG.length:Int))) ?_ ?_
 ·intro K2 bg
  refine⟨m.2.2.1,by rw[U4];exact ae.cell 2,?_⟩
  (try dsimp only);rw[U9]
  by_cases fR:0<m.2.2.1
  ·rw[if_pos (by simpa using fR)]
   refine⟨_,rfl,fl,by rw[U4];exact ae.p1.cell 3,_,rfl,o1.most,by rw[U4];exact ae.p1.cell 1,?_⟩
   refine bg _ _ ⟨rfl,?_⟩
   simp only[cq]
   rw[G0]
   simp[fR]
  ·rw[if_neg (by simpa using fR)]
   exact bg _ _ ⟨rfl,by simp[fR]⟩
 rintro⟨z,⟨⟩⟩ h5 ⟨rfl,hz⟩
 simp only at hz
 subst hz
 (try dsimp only);rw[U9]
 by_cases ax:0<m.2.2.1∧o1.most≤(o1.aG.length:Int)
 ·rw[if_pos (by simpa using ax)]
  rw[if_pos ax] at df cN
  rw[C2] at cN
  refine fB (.inr (.inr (.inr (out,())))) _ ?_
  show sat h5 (a8 b (Y7 o).1::q8 .i64 out (ps++(Y7 o).2)::R)
  rw[←df,←cN]
  have:sat h5 (a8 b {o1 with waiting:=m::w}::q8 .i64 out os::R):=r6.2 ⟨pb,fl,wt,ae.drop⟩
  exact this
 rw[if_neg (by simpa using ax)]
 rw[if_neg ax] at df cN
 refine⟨_,rfl,wt,by rw[U4];exact ae.p1.cell 4,?_⟩
 (try dsimp only);rw[U2]
 refine B2G (mx:=none) (lo:=1) (hi:=(m::w).length) ae.p4 A7V (by simp) (D8 _) ⟨rfl,by simp⟩ (by rw[eX];rfl) fun wt' aj=>?_
 rw[F5] at aj
 have bt:sat h5 (U6 Z7 5 wt' w::cells jd (Z7 m).toArray::cells b #[at0 pb,.int .i64 o1.most,.bool o1.on,.slice fl.a fl.len fl.cap,.slice wt.a wt.len wt.cap]::A0N pb o1.aU::U6 A0V 7 fl o1.aG::q8 .i64 out os::R):=aj
 clear aj ae
 refine⟨_,rfl,?_⟩
 (try dsimp only);rw[U2,U4]
 refine W7 bt.p2 (by simp) rfl fun h6 bh=>?_
 have ak:sat h6 (cells b #[at0 pb,.int .i64 o1.most,.bool o1.on,.slice fl.a fl.len fl.cap,.slice wt'.a wt'.len wt'.cap]::U6 Z7 5 wt' w::cells jd (Z7 m).toArray::A0N pb o1.aU::U6 A0V 7 fl o1.aG::q8 .i64 out os::R):=bh
 clear bh bt
 refine⟨m.2.2.1,by rw[U4];exact ak.p2.cell 2,?_⟩
 (try dsimp only);rw[U9]
 by_cases fR:0<m.2.2.1
 ·rw[if_neg (by simp;omega)]
  rw[if_pos fR] at df cN
  dsimp only at df cN
  have jH:(o1.aG.length:Int)<o1.most:=by omega
  refine⟨_,rfl,some ⟨pb,0,none⟩,by rw[U4];exact ak.cell 0,?_⟩
  have uc:=ag.fI
  have ij:=ag.pm
  refine u0 (C0c ak.p3 ag.pk (fun hf=>absurd hf (by omega)) (fun _ n u hr h7 gj=>⟨(u,0,()),rfl,?_⟩))
  have hu:=B5O hr
  have aF:sat h7 (A0N pb ⟨o1.aU.most,u,o1.aU.used++[u]⟩::cells b #[at0 pb,.int .i64 o1.most,.bool o1.on,.slice fl.a fl.len fl.cap,.slice wt'.a wt'.len wt'.cap]::U6 Z7 5 wt' w::cells jd (Z7 m).toArray::U6 A0V 7 fl o1.aG::q8 .i64 out os::R):=gj
  clear gj
  refine⟨_,rfl,fl,by rw[U4];exact aF.p1.cell 3,?_⟩
  refine Y8 (ts:=[.str,.str,.int .i64,.bool,.str]) (toU m) aF.p3 rfl ?_
  refine V6 aF fun po h8 bq=>?_
  refine⟨fl,by rw[U4];exact bq.p2.cell 3,rfl,?_⟩
  (try dsimp only);rw[U2]
  refine A0k (enc:=A0V) (ys:=[(u,m,false)]) A2L B2j rfl bq.p5 rfl ?_ (by decide) (by decide) (by omega) fun fl' h9 ew=>?_
  ·simp only[V9,N0,D7,I1,C2]
   exact bq.reads rfl
  refine⟨_,rfl,?_⟩
  (try dsimp only);rw[U2,U4]
  refine W7 ew.p3 (by simp) rfl fun fZ gk=>?_
  have aV:=ag.take (m:=m) (w:=w) (by simp only[B7] at ic;omega) nE ⟨fR,tO.2⟩ jH
  rw[hu] at df cN aV
  have fb:sat fZ (a8 b {o1 with aU:=⟨o1.aU.most,u,o1.aU.used++[u]⟩,aG:=o1.aG++[(u,m,false)],waiting:=w}::cells jd (Z7 m).toArray::q8 .i64 out os::R):=r6.2 ⟨pb,fl',wt',(gk.re [2,5,0,3,1,4,6]).drop.re [1,2,3,4,0]⟩
  refine Y8 (ts:=[.str,.str,.int .i64,.bool,.str]) (toU m) fb.p1 rfl ?_
  refine U7 (B8Y (m:=m) (id:=u) (dup:=false) fb fun c p h8 aw=>⟨pkT (A0y m u false) c p,rfl,?_⟩)
  refine B5H (t:=(c,p,A0y m u false)) (aw.re [3,0,1,2]) rfl rfl (by simp only[B7] at gV;omega) fun out' h9 aF=>?_
  refine fB (.inl (out',())) _ ⟨({o1 with aU:=⟨o1.aU.most,u,o1.aU.used++[u]⟩,aG:=o1.aG++[(u,m,false)],waiting:=w},os++[A0y m u false]),?_,aV,aP,?_,?_,?_,?_⟩
  ·simp only[bx,B7];omega
  ·simp only[B5,B7,G7] at gV⊢
   omega
  ·rw[←df]
   have:=congrArg Prod.fst (A4j {o1 with aU:=⟨o1.aU.most,u,o1.aU.used++[u]⟩,aG:=o1.aG++[(u,m,false)]} w w)
   unfold Y7
   rw[if_pos aP]
   exact this
  ·rw[←cN]
   have:=congrArg Prod.snd (A4j {o1 with aU:=⟨o1.aU.most,u,o1.aU.used++[u]⟩,aG:=o1.aG++[(u,m,false)]} w w)
   simp only at this⊢
   unfold Y7
   rw[if_pos aP,this,D6]
   rfl
  ·exact((aF.re [2,1,0]).drop)
 ·rw[if_pos (by simp;omega)]
  rw[if_neg fR] at df cN
  dsimp only at df cN
  have fb:sat h6 (a8 b {o1 with waiting:=w}::cells jd (Z7 m).toArray::q8 .i64 out os::R):=r6.2 ⟨pb,fl,wt',ak.re [0,3,4,1,2]⟩
  refine Y8 (ts:=[.str,.str,.int .i64,.bool,.str]) (toU m) fb.p1 rfl ?_
  refine U7 (B8Y (m:=m) (id:=0) (dup:=false) fb fun c p h8 aw=>⟨pkT (A0y m 0 false) c p,rfl,?_⟩)
  refine B5H (t:=(c,p,A0y m 0 false)) (aw.re [3,0,1,2]) rfl rfl (by simp only[B7] at gV;omega) fun out' h9 aF=>?_
  have bw:X0 {o1 with waiting:=w}:=⟨ag.pm,ag.pk,ag.m1,ag.m64,ag.ids,by simp only[B7] at ic⊢;omega,ag.fq,nE⟩
  refine fB (.inl (out',())) _ ⟨({o1 with waiting:=w},os++[A0y m 0 false]),?_,bw,aP,?_,?_,?_,?_⟩
  ·simp only[bx,B7];omega
  ·simp only[B5,B7,G7] at gV⊢
   omega
  ·rw[←df]
   unfold Y7
   rw[if_pos aP]
   exact congrArg Prod.fst (A4j o1 w w)
  ·rw[←cN]
   have:=congrArg Prod.snd (A4j o1 w w)
   unfold Y7
   rw[if_pos aP]
   simp only at this⊢
   rw[this,D6]
   rfl
  ·exact((aF.re [2,1,0]).drop)
end
section
open Go.H Go.Proofs
variable {h:Heap} {R:List Asn}
theorem C0e{b:Nat}{o:Z2}{m:MsT}(hs:sat h (a8 b o::R))(ag:X0 o){Q:Value→Heap→Prop}
  (hq:∀S h',sat h' (a8 b (Y0 o m).1.1::q8 .i64 S (Y0 o m).1.2::R)→Q (.tuple #[.slice S.a S.len S.cap,.int .i64 (Y0 o m).2]) h'):
  V4 prog 139 #[at0 b,vMs m] h Q:=by
 refine B2W (some ⟨b,0,none⟩) (toU m) h Q ?_
 obtain⟨pb,fl,wt,dS⟩:=r6.1 hs
 have eX:wt.len=o.waiting.length:=(dS.re [3,0,1,2]).aW
 delta B5y az bn cc g7 ie ji kb kc nn nw pu rq sx vs vz
 refine V6 dS fun mb h1 bz=>?_
 have aa:sat h1 (cells mb (Z7 m).toArray::cells b #[at0 pb,.int .i64 o.most,.bool o.on,.slice fl.a fl.len fl.cap,.slice wt.a wt.len wt.cap]::A0N pb o.aU::U6 A0V 7 fl o.aG::U6 Z7 5 wt o.waiting::R):=bz
 clear bz dS hs
 have hM:W3 h1 ⟨mb,2,none⟩=some (.int .i64 m.2.2.1):=aa.cell 2
 have stay:∀{c:Int},Y0 o m=((o,[]),c)→Q (.tuple #[.slice none 0 0,.int .i64 c]) h1:=fun{c} he=>by
  have:=hq ⟨none,0,0⟩ h1
  rw[he] at this
  exact this ((A1W (r6.2 ⟨pb,fl,wt,aa.drop⟩)).p1)
 refine cut (fun x h'=>h'=h1∧x.1=decide (m.2.2.1<0∨2<m.2.2.1)) ?_ ?_
 ·intro K hK
  refine⟨m.2.2.1,by rw[U4];exact hM,?_⟩
  (try dsimp only);rw[U9]
  by_cases h0:m.2.2.1<0
  ·rw[if_pos (by simpa using h0)]
   exact hK _ _ ⟨rfl,by simp[h0]⟩
  ·rw[if_neg (by simpa using h0)]
   exact⟨m.2.2.1,by rw[U4];exact hM,hK _ _ ⟨rfl,by simp[h0]⟩⟩
 rintro⟨x,⟨⟩⟩ h2 ⟨rfl,hx⟩
 simp only at hx
 subst hx
 (try dsimp only);rw[U9]
 by_cases an:m.2.2.1<0∨2<m.2.2.1
 ·rw[if_pos (by simpa using an)]
  exact stay (by unfold Y0;rw[if_pos an])
 rw[if_neg (by simpa using an)]
 refine cut (fun x h'=>h'=h2∧x.1=decide (m.2.2.1=0∧o.on=false)) ?_ ?_
 ·intro K hK
  refine⟨m.2.2.1,by rw[U4];exact hM,?_⟩
  (try dsimp only);rw[U9]
  by_cases h0:m.2.2.1=0
  ·rw[if_pos (by simpa using h0)]
   refine⟨_,rfl,o.on,by rw[U4];exact aa.p1.cell 2,hK _ _ ⟨rfl,?_⟩⟩
   cases o.on<;>simp[h0]
  ·rw[if_neg (by simpa using h0)]
   exact hK _ _ ⟨rfl,by simp[h0]⟩
 rintro⟨x,⟨⟩⟩ h3 ⟨rfl,hx⟩
 simp only at hx
 subst hx
 (try dsimp only);rw[U9]
 by_cases dH:m.2.2.1=0∧o.on=false
 ·rw[if_pos (by simpa using dH)]
  exact stay (by unfold Y0;rw[if_neg an,if_pos dH])
 rw[if_neg (by simpa using dH)]
 refine⟨_,rfl,wt,by rw[U4];exact aa.p1.cell 4,?_⟩
 (try dsimp only);rw[U9]
 by_cases ax:256≤o.waiting.length
 ·rw[if_pos (by rw[eX];simp only[decide_eq_true_eq];omega)]
  exact stay (by unfold Y0;rw[if_neg an,if_neg dH,if_pos ax])
 rw[if_neg (by rw[eX];simp only[decide_eq_true_eq];omega)]
 refine⟨_,rfl,wt,by rw[U4];exact aa.p1.cell 4,?_⟩
 refine Y8 (ts:=[.str,.str,.int .i64,.bool,.str]) (toU m) aa rfl ?_
 refine V6 aa fun pA h4 aQ=>?_
 have ae:sat h4 (cells pA (Z7 m).toArray::cells mb (Z7 m).toArray::cells b #[at0 pb,.int .i64 o.most,.bool o.on,.slice fl.a fl.len fl.cap,.slice wt.a wt.len wt.cap]::A0N pb o.aU::U6 A0V 7 fl o.aG::U6 Z7 5 wt o.waiting::R):=aQ
 clear aQ
 refine⟨wt,by rw[U4];exact ae.p2.cell 4,rfl,?_⟩
 (try dsimp only);rw[U2]
 refine A0k (enc:=Z7) (ys:=[m]) A7V B6s rfl ae.p5 rfl ?_ (by decide) (by decide) (by omega) fun wt' h5 aj=>?_
 ·simp only[V9,N0,D7,I1,C2]
  exact ae.reads rfl
 refine⟨_,rfl,?_⟩
 (try dsimp only);rw[U2,U4]
 refine W7 aj.p3 (by simp) rfl fun h6 ak=>?_
 have ai:sat h6 (a8 b {o with waiting:=o.waiting++[m]}::q8 .i64 ⟨none,0,0⟩ []::R):=by
  refine(A1W (r6.2 ⟨pb,fl,wt',?_⟩)).p1
  exact(ak.re [0,4,5,1,2,3]).p4.p5.drop.drop
 have hw:=ag.wait (m:=m) ⟨by omega,by omega⟩ ax
 have he:Y0 o m=(Y7 {o with waiting:=o.waiting++[m]},0):=by unfold Y0;rw[if_neg an,if_neg dH,if_neg ax]
 rw[he] at hq
 refine U7 (B0B ai hw (by simp) fun h7 S aw=>⟨S,rfl,?_⟩)
 exact hq S h7 aw
theorem B82{b:Nat}{o:Z2}{most:Int}(hs:sat h (a8 b o::R))(ag:X0 o){Q:Value→Heap→Prop}
  (hq:∀S h',sat h' (a8 b (A0s o most).1::q8 .i64 S (A0s o most).2::R)→Q (.slice S.a S.len S.cap) h'):
  V4 prog 151 #[at0 b,.int .i64 most] h Q:=by
 refine B1r (some ⟨b,0,none⟩) most h Q ?_
 obtain⟨pb,fl,wt,dS⟩:=r6.1 hs
 delta B3P ad az bn cc ci g2 g5 g7 ie ix jb ji kc nn nw pu sn sx ve vi vs vz wi
 refine⟨_,rfl,?_⟩
 (try dsimp only);rw[U2,U4]
 refine W7 dS (by simp) rfl fun h0 tt=>?_
 refine U7 (B73 tt fun h1 aa=>⟨_,rfl,?_⟩)
 refine⟨_,rfl,?_⟩
 (try dsimp only);rw[U2,U4]
 refine W7 aa (by simp) rfl fun h2 aQ=>?_
 have ae:sat h2 (cells b #[at0 pb,.int .i64 (max 1 (min most 64)),.bool true,.slice fl.a fl.len fl.cap,.slice wt.a wt.len wt.cap]::A0N pb o.aU::U6 A0V 7 fl o.aG::U6 Z7 5 wt o.waiting::R):=aQ
 clear aQ aa dS hs
 have cq:fl.len=o.aG.length:=ae.p2.aW
 have iu:=ag.f64
 (try dsimp only);rw[U2]
 refine A7A (γ:=Nat) (fun i x h'=>i≤o.aG.length∧x.2.1=(i:Int)∧sat h' (cells b #[at0 pb,.int .i64 (max 1 (min most 64)),.bool true,.slice fl.a fl.len fl.cap,.slice wt.a wt.len wt.cap]::A0N pb o.aU::U6 A0V 7 fl o.aG::U6 Z7 5 wt o.waiting::q8 .i64 x.1 ((o.aG.take i).map A1C)::R))
  (fun i=>o.aG.length-i) 0 ⟨D1 _,rfl,by simpa using(A1W (k:=.i64) ae).re [1,2,3,4,0]⟩ ?_
 rintro i ⟨out,ci,⟨⟩⟩ h ⟨hi,hx,aj⟩ K bu hd
 simp only at hx aj
 subst hx
 refine⟨_,rfl,fl,by rw[U4];exact aj.cell 3,?_⟩
 (try dsimp only);rw[U9]
 by_cases ah:i<o.aG.length
 case neg=>
  rw[if_neg (by rw[cq];simp only[decide_eq_true_eq];omega)]
  rw[D4 (by omega)] at aj
  refine hd _ _ ?_
  have ak:sat h (a8 b {o with on:=true,most:=max 1 (min most 64)}::q8 .i64 out (o.aG.map A1C)::R):=r6.2 ⟨pb,fl,wt,aj⟩
  have h1:X0 {o with on:=true,most:=max 1 (min most 64)}:=⟨ag.pm,ag.pk,by simp only;omega,by simp only;omega,ag.ids,ag.wl,ag.fq,ag.wq⟩
  refine U7 (B0B ak h1 (by rw[C1];omega) fun h7 S aw=>⟨S,rfl,?_⟩)
  exact hq S h7 aw
 case pos=>
  rw[if_pos (by rw[cq];simp only[decide_eq_true_eq];omega)]
  have hy:=B0 ah
  have aV:(o.aG.take (i+1)).map A1C=(o.aG.take i).map A1C++[A1C o.aG[i]]:=by rw[I0,hy,C0];rfl
  generalize o.aG[i]=f at hy aV
  refine cut (fun z h'=>sat h' (q8 .i64 z.1 ((o.aG.take (i+1)).map A1C)::cells b #[at0 pb,.int .i64 (max 1 (min most 64)),.bool true,.slice fl.a fl.len fl.cap,.slice wt.a wt.len wt.cap]::A0N pb o.aU::U6 A0V 7 fl o.aG::U6 Z7 5 wt o.waiting::R)) ?_ ?_
  rotate_left
  ·rintro⟨out',⟨⟩⟩ h6 aw
   exact bu (i+1) _ _ (by omega) ⟨by omega,by rw[V8 (by omega) (by omega)];rfl,aw.re [1,2,3,4,0]⟩
  intro K2 bg
  refine⟨_,rfl,fl,by rw[U4];exact aj.cell 3,?_⟩
  (try dsimp only);rw[U2]
  refine X9 (aj.p2.aO A2L) hy fun a ha=>?_
  refine A0v (ts:=[.int .i64,.str,.str,.int .i64,.bool,.str,.bool]) (C3Z f) ha ?_
  refine V6 aj fun ia h4 ak=>?_
  (try dsimp only);rw[U2]
  refine l6 ak rfl rfl fun h5 fp=>?_
  have ai:sat h5 (cells ia (A0V f).toArray::cells b #[at0 pb,.int .i64 (max 1 (min most 64)),.bool true,.slice fl.a fl.len fl.cap,.slice wt.a wt.len wt.cap]::A0N pb o.aU::U6 A0V 7 fl o.aG::U6 Z7 5 wt o.waiting::q8 .i64 out ((o.aG.take i).map A1C)::R):=fp
  clear fp ak
  refine⟨f.2.2,by rw[U4];exact ai.cell 6,?_⟩
  have oU:((o.aG.take i).map A1C).length≤64:=by rw[C1,E6];omega
  rw[aV] at bg
  (try dsimp only);rw[U9]
  unfold A1C at bg
  by_cases hr:f.2.2=true
  ·rw[if_pos hr]
   rw[if_pos hr] at bg
   refine⟨f.1,by rw[U4];exact ai.cell 0,?_⟩
   have aw:=A3o (k:=.i64) (o:=j9 6 f.1 0) rfl rfl ai
   refine A5d (t:=(⟨none,0,0⟩,⟨none,0,0⟩,j9 6 f.1 0)) (aw.re [6,0,1,2,3,4,5]) rfl (by decide) (by omega) fun s' h6 aF=>?_
   exact bg _ _ aF.p1.drop
  ·rw[if_neg hr]
   rw[if_neg hr] at bg
   refine A0v (ts:=[.str,.str,.int .i64,.bool,.str]) (toU f.2.1) (fun j v hv=>?_) ?_
   ·rw[U4,Addr.bN,ai.cell]
    match j,hv with
    |0,hv=>exact hv
    |1,hv=>exact hv
    |2,hv=>exact hv
    |3,hv=>exact hv
    |4,hv=>exact hv
    |n+5,hv=>exact absurd hv (by show ¬(Z7 f.2.1)[n+5]? =some v;simp)
   refine⟨f.1,by rw[U4];exact ai.cell 0,?_⟩
   refine U7 (B8Y (m:=f.2.1) (id:=f.1) (dup:=true) ai fun c p h6 aw=>⟨pkT (A0y f.2.1 f.1 true) c p,rfl,?_⟩)
   refine B5H (t:=(c,p,A0y f.2.1 f.1 true)) (aw.re [6,0,1,2,3,4,5]) rfl rfl (by omega) fun s' h7 aF=>?_
   exact bg _ _ aF.p1.drop
theorem C0f{b:Nat}{o:Z2}{i:Nat}{f:FlT}(hs:sat h (a8 b o::R))(ag:X0 o)(hf:o.aG[i]? =some f){Q:Value→Heap→Prop}
  (hq:∀h',sat h' (a8 b (A3q o f.1)::R)→Q (.tuple #[]) h'):V4 prog 195 #[at0 b,.int .i64 i] h Q:=by
 refine B2U (some ⟨b,0,none⟩) i h Q ?_
 obtain⟨pb,fl,wt,aa⟩:=r6.1 hs
 delta B5w az bn cb g5 ie ix kc ki kp nn nw pu sx vi vs wi
 have cn:=(E0.1 hf).1
 have iu:=ag.f64
 refine⟨_,rfl,some ⟨pb,0,none⟩,by rw[U4];exact aa.cell 0,_,rfl,fl,by rw[U4];exact aa.cell 3,?_⟩
 (try dsimp only);rw[U2]
 refine X9 (aa.p2.aO A2L) hf fun a ha=>?_
 refine⟨f.1,ha 0 _ rfl,?_⟩
 refine U7 (B3K aa.p1 ag.pk fun h2 aQ=>⟨_,rfl,?_⟩)
 have ae:sat h2 (cells b #[at0 pb,.int .i64 o.most,.bool o.on,.slice fl.a fl.len fl.cap,.slice wt.a wt.len wt.cap]::A0N pb ⟨o.aU.most,o.aU.taken,o.aU.used.erase f.1⟩::U6 A0V 7 fl o.aG::U6 Z7 5 wt o.waiting::R):=aQ.p1
 clear aQ
 have cq:fl.len=o.aG.length:=ae.p2.aW
 (try dsimp only);rw[U2]
 refine A7A (γ:=Nat) (fun j x h'=>j≤o.aG.length∧x.2.1=(j:Int)∧sat h' (U6 A0V 7 x.1 (if j≤i then o.aG.take j else o.aG.take i++(o.aG.take j).drop (i+1))::cells b #[at0 pb,.int .i64 o.most,.bool o.on,.slice fl.a fl.len fl.cap,.slice wt.a wt.len wt.cap]::A0N pb ⟨o.aU.most,o.aU.taken,o.aU.used.erase f.1⟩::U6 A0V 7 fl o.aG::U6 Z7 5 wt o.waiting::R))
  (fun j=>o.aG.length-j) 0 ⟨D1 _,rfl,by rw[if_pos (D1 _),List.take_zero];exact Z5 ae⟩ ?_
 rintro j ⟨out,ci,⟨⟩⟩ h ⟨hi,hx,aj⟩ K bu hd
 simp only at hx aj
 subst hx
 refine⟨_,rfl,fl,by rw[U4];exact aj.p1.cell 3,?_⟩
 (try dsimp only);rw[U9]
 by_cases ah:j<o.aG.length
 case neg=>
  rw[if_neg (by rw[cq];simp only[decide_eq_true_eq];omega)]
  have hj:j=o.aG.length:=by omega
  have e:o.aG.take j=o.aG:=D4 (by omega)
  rw[if_neg (by omega),e,←List.eraseIdx_eq_take_drop_succ,B8v ag.nd hf] at aj
  refine hd _ _ ⟨_,rfl,?_⟩
  (try dsimp only);rw[U2,U4]
  refine W7 aj.p1 (by simp) rfl fun h4 ak=>?_
  exact hq h4 (r6.2 ⟨pb,out,wt,(ak.re [0,2,1,4,3]).re [0,1,2,3,4]|>fun hh=>(hh.re [4,0,1,2,3]).drop⟩)
 rw[if_pos (by rw[cq];simp only[decide_eq_true_eq];omega)]
 have hy:=B0 ah
 have aV:o.aG.take (j+1)=o.aG.take j++[o.aG[j]]:=by rw[I0,hy];rfl
 generalize o.aG[j]=g at hy aV
 refine cut (fun z h'=>sat h' (U6 A0V 7 z.1 (if j+1≤i then o.aG.take (j+1) else o.aG.take i++(o.aG.take (j+1)).drop (i+1))::cells b #[at0 pb,.int .i64 o.most,.bool o.on,.slice fl.a fl.len fl.cap,.slice wt.a wt.len wt.cap]::A0N pb ⟨o.aU.most,o.aU.taken,o.aU.used.erase f.1⟩::U6 A0V 7 fl o.aG::U6 Z7 5 wt o.waiting::R)) ?_ ?_
 rotate_left
 ·rintro⟨out',⟨⟩⟩ h6 aw
  exact bu (j+1) _ _ (by omega) ⟨by omega,by rw[V8 (by omega) (by omega)];rfl,aw⟩
 intro K2 bg
 (try dsimp only);rw[U9]
 by_cases vG:j=i
 ·rw[if_neg (by simp[vG])]
  refine bg _ _ ?_
  subst vG
  rw[if_pos (D8 _)] at aj
  rw[if_neg (by omega),L9 (by rw[E6];omega),C2]
  exact aj
 ·rw[if_pos (by simp;omega)]
  refine⟨_,rfl,fl,by rw[U4];exact aj.p1.cell 3,?_⟩
  (try dsimp only);rw[U2]
  refine X9 (aj.p3.aO A2L) hy fun a ha=>?_
  refine A0v (ts:=[.int .i64,.str,.str,.int .i64,.bool,.str,.bool]) (C3Z g) ha ?_
  refine A1c (x:=g) A2L B2j rfl aj (by decide) (by decide) ?_ fun out' h4 ak=>?_
  ·have:(if j≤i then o.aG.take j else o.aG.take i++(o.aG.take j).drop (i+1)).length≤130:=by
    split
    ·rw[E6];omega
    ·rw[B5,R2,E6,E6];omega
   omega
  refine bg _ _ ?_
  by_cases h1:j≤i
  ·rw[if_pos h1] at ak
   rw[if_pos (by omega),aV]
   exact ak
  ·rw[if_neg h1] at ak
   rw[if_neg (by omega),aV,O9 (by rw[E6];omega),←D6]
   exact ak
theorem C1W{b:Nat}{o:Z2}{p:Pk}(hs:sat h (a8 b o::R))(ag:X0 o){Q:Value→Heap→Prop}
  (hq:∀S h',sat h' (a8 b (A0R o p.1 p.2.2.2.2.1 p.2.2.2.2.2.2.2.1).1.1::q8 .i64 S (A0R o p.1 p.2.2.2.2.1 p.2.2.2.2.2.2.2.1).1.2::R)→Q (.tuple #[.slice S.a S.len S.cap,.int .i64 (A0R o p.1 p.2.2.2.2.1 p.2.2.2.2.2.2.2.1).2]) h'):
  V4 prog 142 #[at0 b,A2z .i64 p] h Q:=by
 refine B0I (some ⟨b,0,none⟩) p h Q ?_
 delta B1s ad az bn cc cx g5 ie ix jb ji kb kc ki nn nw pu sn sx ve vi vs vz wi
 refine V6 hs fun cb h1 bz=>?_
 have aa:sat h1 (cells cb (W9 .i64 p).toArray::a8 b o::R):=bz
 clear bz hs
 have k0:∀{h':Heap} {R':List Asn},sat h' (cells cb (W9 .i64 p).toArray::R')→W3 h' ⟨cb,0,none⟩=some (.int .i64 p.1):=fun hs=>hs.cell 0
 have k4:∀{h':Heap} {R':List Asn},sat h' (cells cb (W9 .i64 p).toArray::R')→W3 h' ⟨cb,4,none⟩=some (.int .i64 p.2.2.2.2.1):=fun hs=>hs.cell 4
 have k7:∀{h':Heap} {R':List Asn},sat h' (cells cb (W9 .i64 p).toArray::R')→W3 h' ⟨cb,7,none⟩=some (.int .i64 p.2.2.2.2.2.2.2.1):=fun hs=>hs.cell 7
 generalize hk:p.1=k at*
 generalize hid:p.2.2.2.2.1=id at*
 generalize oT:p.2.2.2.2.2.2.2.1=c at*
 generalize(W9 .i64 p).toArray=cs at*
 have stay:∀{cc:Int} {h':Heap},sat h' (cells cb cs::a8 b o::R)→A0R o k id c=((o,[]),cc)→Q (.tuple #[.slice none 0 0,.int .i64 cc]) h':=fun{cc h'} hs he=>by
  have:=hq ⟨none,0,0⟩ h'
  rw[he] at this
  exact this ((A1W hs.drop).p1)
 refine⟨k,by rw[U4];exact k0 aa,k,by rw[U4];exact k0 aa,k,by rw[U4];exact k0 aa,?_⟩
 refine cut (fun x h'=>h'=h1∧x.1=decide (o.on=false∨(k≠4∧k≠5∧k≠7))) ?_ ?_
 ·intro K hK
  obtain⟨pb,fl,wt,ae⟩:=r6.1 aa.p1
  refine⟨_,rfl,o.on,by rw[U4];exact ae.cell 2,?_⟩
  (try dsimp only);rw[U9]
  cases aP:o.on with
  |false=>rw[if_pos (by rfl)];exact hK _ _ ⟨rfl,by simp[aP]⟩
  |true=>
   rw[if_neg (by simp)]
   (try dsimp only);rw[U9]
   by_cases h4:k=4
   ·rw[if_neg (by simp[h4])];exact hK _ _ ⟨rfl,by simp[h4,aP]⟩
   ·rw[if_pos (by simp[h4])]
    (try dsimp only);rw[U9]
    by_cases h5:k=5
    ·rw[if_neg (by simp[h5])];exact hK _ _ ⟨rfl,by simp[h5,aP]⟩
    ·rw[if_pos (by simp[h5])]
     refine hK _ _ ⟨rfl,?_⟩
     by_cases h7:k=7<;>simp[h4,h5,h7,aP]
 rintro⟨x,⟨⟩⟩ h2 ⟨rfl,hx⟩
 simp only at hx
 subst hx
 (try dsimp only);rw[U9]
 by_cases an:o.on=false∨(k≠4∧k≠5∧k≠7)
 ·rw[if_pos (by simpa using an)]
  exact stay aa (by unfold A0R;rw[if_pos an])
 rw[if_neg (by simpa using an)]
 have iu:=ag.f64
 obtain⟨pb,fl,wt,aQ⟩:=r6.1 aa.p1
 have ae:sat h2 (cells b #[at0 pb,.int .i64 o.most,.bool o.on,.slice fl.a fl.len fl.cap,.slice wt.a wt.len wt.cap]::cells cb cs::A0N pb o.aU::U6 A0V 7 fl o.aG::U6 Z7 5 wt o.waiting::R):=aQ.re [0,4,1,2,3]
 clear aQ
 have cq:fl.len=o.aG.length:=ae.p3.aW
 refine cut (fun z h'=>h'=h2∧((z.1= -1∧∀f∈o.aG,f.1≠id)∨∃(i:Nat) (f:FlT),z.1=(i:Int)∧o.aG[i]? =some f∧f.1=id)) ?_ ?_
 ·intro K hK
  refine A7A (γ:=Nat) (fun j x h'=>h'=h2∧j≤o.aG.length∧x.2.1=(j:Int)∧((x.1= -1∧∀f∈o.aG.take j,f.1≠id)∨∃(i:Nat) (f:FlT),x.1=(i:Int)∧o.aG[i]? =some f∧f.1=id))
   (fun j=>o.aG.length-j) 0 ⟨rfl,D1 _,rfl,.inl ⟨rfl,by simp⟩⟩ ?_
  rintro j ⟨z,ci,⟨⟩⟩ h ⟨rfl,hi,hx,hz⟩ K1 bu hd
  simp only at hx hz
  subst hx
  refine⟨_,rfl,fl,by rw[U4];exact ae.cell 3,?_⟩
  (try dsimp only);rw[U9]
  by_cases ah:j<o.aG.length
  case neg=>
   rw[if_neg (by rw[cq];simp only[decide_eq_true_eq];omega)]
   rw[D4 (by omega)] at hz
   exact hd _ _ (hK _ _ ⟨rfl,hz⟩)
  rw[if_pos (by rw[cq];simp only[decide_eq_true_eq];omega)]
  refine⟨_,rfl,fl,by rw[U4];exact ae.cell 3,?_⟩
  have hy:=B0 ah
  have aV:o.aG.take (j+1)=o.aG.take j++[o.aG[j]]:=by rw[I0,hy];rfl
  generalize o.aG[j]=g at hy aV
  (try dsimp only);rw[U2]
  refine X9 (ae.p3.aO A2L) hy fun a ha=>?_
  refine⟨g.1,ha 0 _ rfl,id,by rw[U4];exact k4 ae.p1,?_⟩
  have nx:∀z':Int,((z'= -1∧∀f∈o.aG.take (j+1),f.1≠id)∨∃(i:Nat) (f:FlT),z'=(i:Int)∧o.aG[i]? =some f∧f.1=id)→K1 (.inl (z',IntKind.wrap .i64 ((j:Int)+1),())) h:=fun z' oF=>
   bu (j+1) _ _ (by omega) ⟨rfl,by omega,by rw[V8 (by omega) (by omega)];rfl,oF⟩
  (try dsimp only);rw[U2,U9]
  by_cases e:g.1=id
  ·rw[if_pos (by simpa using e)]
   exact nx _ (.inr ⟨j,g,rfl,hy,e⟩)
  ·rw[if_neg (by simpa using e)]
   refine nx _ ?_
   rcases hz with⟨hz,hn⟩|hz
   ·refine .inl ⟨hz,fun f hf=>?_⟩
    rw[aV] at hf
    rcases C9.1 hf with hf|hf
    ·exact hn f hf
    ·rw[B8.1 hf];exact e
   ·exact .inr hz
 rintro⟨z,cj,⟨⟩⟩ h3 ⟨rfl,hz⟩
 simp only at hz
 (try dsimp only);rw[U9]
 rcases hz with⟨rfl,ay⟩|⟨i,f,rfl,hf,he⟩
 ·rw[if_pos (by rfl)]
  refine stay aa ?_
  unfold A0R
  rw[if_neg an,B8u ay]
 rw[if_neg (by simp)]
 have gO:=C03 ag.nd hf he
 have lb:=F3 hf
 have aJ:A0R o k id c=(if k=4 then(if f.2.1.2.2.1≠1 then((o,[]),130) else(Y7 (A3q o id),0))
   else if k=5 then
    (if f.2.1.2.2.1≠2∨(128≤c∧f.2.2=true) then((o,[]),130)
    else if 128≤c then(Y7 (A3q o id),0)
    else(((Y7 (B2K o id)).1,j9 6 id 0::(Y7 (B2K o id)).2),0))
   else(if f.2.2=false then((o,[]),130) else(Y7 (A3q o id),0))):=by
  unfold A0R
  rw[if_neg an,gO]
 have xO:=ag.fq f lb
 refine⟨_,rfl,fl,by rw[U4];exact ae.cell 3,?_⟩
 (try dsimp only);rw[U2]
 refine X9 (ae.p3.aO A2L) hf fun a ha=>?_
 refine A0v (ts:=[.int .i64,.str,.str,.int .i64,.bool,.str,.bool]) (C3Z f) ha ?_
 refine V6 ae fun mo h4 ak=>?_
 (try dsimp only);rw[U2]
 refine l6 ak rfl rfl fun h5 fp=>?_
 have ai:sat h5 (cells mo (A0V f).toArray::cells b #[at0 pb,.int .i64 o.most,.bool o.on,.slice fl.a fl.len fl.cap,.slice wt.a wt.len wt.cap]::cells cb cs::A0N pb o.aU::U6 A0V 7 fl o.aG::U6 Z7 5 wt o.waiting::R):=fp
 clear fp ak
 have bZ:sat h5 (cells cb cs::a8 b o::R):=sat.p1 (r6.2 ⟨pb,fl,wt,(ai.drop.re [0,2,3,4,1])⟩)
 have aq:W3 h5 ((Addr.add ⟨mo,0,none⟩ 1).add 2)=some (.int .i64 f.2.1.2.2.1):=by rw[B2v,U4];exact ai.cell 3
 have ar:W3 h5 (Addr.add ⟨mo,0,none⟩ 6)=some (.bool f.2.2):=by rw[U4];exact ai.cell 6
 refine cut (fun z h'=>h'=h5∧z.1=decide (k=4∧f.2.1.2.2.1≠1)) ?_ ?_
 ·intro K hK
  (try dsimp only);rw[U9]
  by_cases e:k=4
  ·rw[if_pos (by simpa using e)]
   exact⟨_,aq,hK _ _ ⟨rfl,by simp[e];rfl⟩⟩
  ·rw[if_neg (by simpa using e)]
   exact hK _ _ ⟨rfl,by simp[e]⟩
 rintro⟨z,⟨⟩⟩ h6 ⟨rfl,hz⟩
 simp only at hz
 subst hz
 (try dsimp only);rw[U9]
 by_cases t1:k=4∧f.2.1.2.2.1≠1
 ·rw[if_pos (by simpa using t1)]
  rw[if_pos t1.1,if_pos t1.2] at aJ
  exact stay bZ aJ
 rw[if_neg (by simpa using t1)]
 refine cut (fun z h'=>h'=h6∧z.1=decide ((k=5∨k=7)∧f.2.1.2.2.1≠2)) ?_ ?_
 ·intro K hK
  (try dsimp only);rw[U9]
  by_cases e:k=5
  ·rw[if_pos (by simpa using e)]
   exact⟨_,aq,hK _ _ ⟨rfl,by simp[e];rfl⟩⟩
  ·rw[if_neg (by simpa using e)]
   (try dsimp only);rw[U9]
   by_cases e7:k=7
   ·rw[if_pos (by simpa using e7)]
    exact⟨_,aq,hK _ _ ⟨rfl,by simp[e7];rfl⟩⟩
   ·rw[if_neg (by simpa using e7)]
    exact hK _ _ ⟨rfl,by simp[e,e7]⟩
 rintro⟨z,⟨⟩⟩ h7 ⟨rfl,hz⟩
 simp only at hz
 subst hz
 (try dsimp only);rw[U9]
 have hk:k=4∨k=5∨k=7:=by
  refine O2 fun e=>an (.inr ⟨fun x=>e (.inl x),fun x=>e (.inr (.inl x)),fun x=>e (.inr (.inr x))⟩)
 by_cases t2:(k=5∨k=7)∧f.2.1.2.2.1≠2
 ·rw[if_pos (by simpa using t2)]
  refine stay bZ ?_
  rcases t2 with⟨rfl|rfl,t2⟩
  ·rw[if_neg (by decide),if_pos rfl,if_pos (.inl t2)] at aJ
   exact aJ
  ·have hr:f.2.2=false:=by
    cases hr:f.2.2 with
    |false=>rfl
    |true=>exact absurd (xO.2.2 hr) t2
   rw[if_neg (by decide),if_neg (by decide),if_pos hr] at aJ
   exact aJ
 rw[if_neg (by simpa using t2)]
 refine cut (fun z h'=>h'=h7∧z.1=decide (k=5∧128≤c∧f.2.2=true)) ?_ ?_
 ·intro K hK
  (try dsimp only);rw[U9]
  by_cases e:k=5
  ·rw[if_pos (by simpa using e)]
   refine⟨c,by rw[U4];exact k7 ai.p2,?_⟩
   (try dsimp only);rw[U9]
   by_cases hc:128≤c
   ·rw[if_pos (by simpa using hc)]
    refine⟨_,ar,hK _ _ ⟨rfl,?_⟩⟩
    simp[e,hc]
   ·rw[if_neg (by simpa using hc)]
    exact hK _ _ ⟨rfl,by simp[hc]⟩
  ·rw[if_neg (by simpa using e)]
   exact hK _ _ ⟨rfl,by simp[e]⟩
 rintro⟨z,⟨⟩⟩ h8 ⟨rfl,hz⟩
 simp only at hz
 subst hz
 (try dsimp only);rw[U9]
 by_cases t3:k=5∧128≤c∧f.2.2=true
 ·rw[if_pos (decide_eq_true t3)]
  rw[if_neg (by rw[t3.1];decide),if_pos t3.1,if_pos (.inr t3.2)] at aJ
  exact stay bZ aJ
 rw[if_neg (by rw[decide_eq_true_eq];exact t3)]
 refine cut (fun z h'=>h'=h8∧z.1=decide (k=7∧f.2.2=false)) ?_ ?_
 ·intro K hK
  (try dsimp only);rw[U9]
  by_cases e:k=7
  ·rw[if_pos (by simpa using e)]
   refine⟨_,ar,hK _ _ ⟨rfl,?_⟩⟩
   cases f.2.2<;>simp[e]
  ·rw[if_neg (by simpa using e)]
   exact hK _ _ ⟨rfl,by simp[e]⟩
 rintro⟨z,⟨⟩⟩ h9 ⟨rfl,hz⟩
 simp only at hz
 subst hz
 (try dsimp only);rw[U9]
 by_cases t4:k=7∧f.2.2=false
 ·rw[if_pos (decide_eq_true t4)]
  rw[if_neg (by rw[t4.1];decide),if_neg (by rw[t4.1];decide),if_pos t4.2] at aJ
  exact stay bZ aJ
 rw[if_neg (by rw[decide_eq_true_eq];exact t4)]
 refine cut (fun z h'=>h'=h9∧z.1=decide (k=5∧c<128)) ?_ ?_
 ·intro K hK
  (try dsimp only);rw[U9]
  by_cases e:k=5
  ·rw[if_pos (by simpa using e)]
   refine⟨c,by rw[U4];exact k7 ai.p2,hK _ _ ⟨rfl,?_⟩⟩
   simp[e]
  ·rw[if_neg (by simpa using e)]
   exact hK _ _ ⟨rfl,by simp[e]⟩
 rintro⟨z,⟨⟩⟩ fZ ⟨rfl,hz⟩
 simp only at hz
 subst hz
 refine cut (fun z h'=>∃(o':Z2) (os:List PkO),X0 o'∧os.length≤10∧A0R o k id c=(((Y7 o').1,os++(Y7 o').2),0)∧sat h' (a8 b o'::q8 .i64 z.1 os::R)) ?_ ?_
 rotate_left
 ·rintro⟨z,⟨⟩⟩ h4 ⟨o',os,g1,g2,g3,g4⟩
  refine U7 (B0B g4 g1 (by omega) fun h7 S aw=>⟨S,rfl,?_⟩)
  have:=hq S h7
  rw[g3] at this
  exact this aw
 intro K hK
 (try dsimp only);rw[U9]
 by_cases t5:k=5∧c<128
 ·rw[if_pos (decide_eq_true t5)]
  have fe:f.2.1.2.2.1=2:=Classical.not_not.1 fun e=>t2 ⟨.inl t5.1,e⟩
  rw[if_neg (by rw[t5.1];decide),if_pos t5.1,if_neg (by rintro(e|⟨e,-⟩);exact e fe;omega),if_neg (by omega)] at aJ
  refine⟨_,rfl,fl,by rw[U4];exact ai.p1.cell 3,?_⟩
  (try dsimp only);rw[U2]
  refine B9r A2L ai.p4 hf fun a ha bL=>?_
  refine bL 6 (.bool true) (f.1,f.2.1,true) _ (by decide) rfl rfl fun rC fb=>?_
  rw[C3e ag.nd hf,he] at fb
  have aw:sat rC (cells cb cs::a8 b (B2K o id)::R):=sat.p1 (r6.2 ⟨pb,fl,wt,(fb.re [2,4,0,5,3,1])|>fun hh=>(hh.re [5,0,1,2,3,4]).drop⟩)
  refine⟨id,by rw[U4];exact k4 aw,?_⟩
  have aF:=A1W (k:=.i64) (A3o (k:=.i64) (o:=j9 6 id 0) rfl rfl aw)
  refine A5d (t:=(⟨none,0,0⟩,⟨none,0,0⟩,j9 6 id 0)) aF rfl (by decide) (by decide) fun s' h6 bq=>?_
  have hrel:X0 (B2K o id):=ag.rel fun g hg e=>by rw[ag.one hg lb (e.trans he.symm)];exact fe
  exact hK _ _ ⟨B2K o id,[j9 6 id 0],hrel,by simp,aJ,bq.p1.drop.re [1,0]⟩
 ·rw[if_neg (by rw[decide_eq_true_eq];exact t5)]
  refine u0 (C0f bZ.p1 ag hf fun h' af=>⟨(),rfl,?_⟩)
  rw[he] at af
  refine hK _ _ ⟨A3q o id,[],ag.over id,by simp,?_,(A1W af.p1.drop).p1⟩
  rcases hk with e|e|e
  ·rw[if_pos e,if_neg (by rintro e1;exact t1 ⟨e,e1⟩)] at aJ
   exact aJ
  ·rw[if_neg (by rw[e];decide),if_pos e,if_neg (by rintro(e1|e1);exact t2 ⟨.inl e,e1⟩;exact t3 ⟨e,e1⟩),if_pos (by omega)] at aJ
   exact aJ
  ·rw[if_neg (by rw[e];decide),if_neg (by rw[e];decide),if_neg (fun e1=>t4 ⟨e,e1⟩)] at aJ
   exact aJ
end
end Go.Proofs.YtidlldnlphdhcaaGreatDoor