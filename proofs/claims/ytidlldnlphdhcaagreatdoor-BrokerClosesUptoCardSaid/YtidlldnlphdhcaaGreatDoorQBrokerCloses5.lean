/-
  Our texts, packed by program.
-/
import Derived.Test.YtidlldnlphdhcaaGreatDoorQBrokerCloses4
import Derived.Laws.RangeString
set_option linter.unusedSimpArgs false
set_option linter.unusedVariables false
set_option maxHeartbeats 16000000
set_option maxRecDepth 100000
set_option synthInstance.maxSize 100000
set_option synthInstance.maxHeartbeats 400000
namespace Go.Proofs.YtidlldnlphdhcaaGreatDoor
open Go.H
open Go.Proofs.Tryz
section
open Go.H Go.Proofs
variable {h h0:Heap} {L L' L1 L2 L3 R:List Asn} {Q:Value→Heap→Prop}
abbrev pkI(p:Pk)(pl:List p9)(sl:List A0A)(fl:List B3O):PkI:=
 {kind:=p.1,dF:=p.2.2.1,eM:=p.2.2.2.1,id:=p.2.2.2.2.1,bX:=p.2.2.2.2.2.1,cR:=p.2.2.2.2.2.2.1,code:=p.2.2.2.2.2.2.2.1,props:=pl,
  aC:=p.2.2.2.2.2.2.2.2.2.2.1,clean:=p.2.2.2.2.2.2.2.2.2.2.2.1,bE:=p.2.2.2.2.2.2.2.2.2.2.2.2.2.1,
  aX:=(p.2.2.2.2.2.2.2.2.2.2.2.2.2.2.1,p.2.2.2.2.2.2.2.2.2.2.2.2.2.2.2.1,p.2.2.2.2.2.2.2.2.2.2.2.2.2.2.2.2.1,p.2.2.2.2.2.2.2.2.2.2.2.2.2.2.2.2.2.1,e0S),aH:=sl,bH:=fl}
theorem B3Y{s:B3O}(ht:TP h0)(hsz:s.size≤9223372036854775807)(hq:At (old h0::L1) (Q (.int .u8 (A2Q s))))(hx:Has L (old h0) L1:=by repeat first|with_reducible exact V0|apply V2):FW prog 12 #[.string s] L Q:=fun h hs=>
 A3u (hx.s hs) ht hsz fun h' af=>hq h' af
theorem C6C{k:Int}{A:List V7}:X9 k (fun s=>s) A=A:=by
 unfold X9
 simp
theorem C0Q{o:Z5}{k id c:Int}(h:(A0V o k id c).2≠0):(A0V o k id c).1.1=o:=by
 unfold A0V at h⊢
 split at h
 ·rw[if_pos (by assumption)]
 ·rw[if_neg (by assumption)]
  split at h
  ·rfl
  ·split at h
   ·rw[if_pos (by assumption)];split at h
    ·rw[if_pos (by assumption)]
    ·exact absurd rfl h
   ·rw[if_neg (by assumption)];split at h
    ·rw[if_pos (by assumption)];split at h
     ·rw[if_pos (by assumption)]
     ·split at h<;>exact absurd rfl h
    ·rw[if_neg (by assumption)];split at h
     ·rw[if_pos (by assumption)]
     ·exact absurd rfl h
theorem C7z{t b:Nat}{full:Bool}{T:U7}{x:X2}{p:Pk}{pl:List p9}{sl:List A0A}{fl:List B3O}(ht:TP h0)(ag:j8 T.b)(hc:A1o x.c T.b.aB=some x)(hb:T.outs.length<40000000)(hp:T.aT.length≤1000000000)(hsz:p.2.2.2.2.2.1.size≤9223372036854775807)
  (hq:At (X7 t b full (A5s full x (pkI p pl sl fl) T)::old h0::L2) (Q (.tuple #[])))(hx:Has L (X7 t b full T) L1:=by repeat first|with_reducible exact V0|apply V2)(hy:Has L1 (old h0) L2:=by repeat first|with_reducible exact V0|apply V2):
  FW prog 63 #[at0 t,.int .i64 x.c,A2s .u8 p] L Q:=by
 refine fun h hs=>A7K (some ⟨t,0,none⟩) x.c p h Q ((?_:W (X7 t b full T::old h0::L2) _ _) h ((hx.then hy).s hs))
 clear hs h hx hy
 obtain⟨s,hs,hid⟩:=ag.cl x (A1x hc).1
 unfold A5s at hq
 simp only[A3p ag.nd hs hid] at hq
 delta A6T az bn cp cu cx A0N ie jb ji jt kb km kp nn nw pu rq ve vi vs
 refine Y1 fun x1=>?_
 refine A02 (fun r=>r.1=(decide (p.1=3)&& !Z4 p.2.2.2.2.2.1)) (fun K hK=>?_) (fun r hr=>?_)
 ·refine W.load (v:=p.1) ?_
  refine A0i (fun h3=>?_) (fun h3=>?_)
  ·refine W.load (v:=p.2.2.2.2.2.1) ?_
   refine j1 (B3Y ht hsz (At.un ?_))
   refine U2 (At.sub (hK _ ?_))
   simp only[P9] at h3
   simp only[h3,decide_true,G3]
   unfold A2Q
   cases Z4 p.2.2.2.2.2.1<;>rfl
  ·refine U2 (hK _ ?_)
   simp only[H5,ne_eq] at h3
   simp[h3]
 obtain⟨r,_⟩:=r
 simp only at hr
 subst hr
 by_cases al:p.1=3∧Z4 p.2.2.2.2.2.1=false
 ·rw[if_pos al] at hq
  refine X6 (by simp[al.1,al.2]) ?_
  refine Z1 (A8v (T:=T) (c:=x.c) (code:=144) ht ag (by omega) hp (At.bD ?_))
  exact U2 hq.sub
 rw[if_neg al] at hq
 refine W6 (by
  by_cases e:p.1=3
  ·have:Z4 p.2.2.2.2.2.1=true:=by
    cases hn:Z4 p.2.2.2.2.2.1
    ·exact absurd ⟨e,hn⟩ al
    ·rfl
   simp[this]
  ·simp[e]) ?_
 refine W4 ?_
 refine A6g (fun h R=>o5) fun so sp q=>?_
 refine W.load (v:=full) ?_
 refine A02 (fun r=>r.1=if full=true then 151 else 0) (fun K hK=>A0i (fun e=>U2 (hK _ (if_pos e).symm)) (fun e=>U2 (hK _ (if_neg (by simp[e])).symm))) (fun r hr=>?_)
 obtain⟨why,_⟩:=r
 simp only at hr
 rw[←hr] at hq
 clear hr al
 refine W4 ?_
 refine W.load (v:=some ⟨b,0,none⟩) ?_
 refine W4 ?_
 refine W.load (v:=some q.cm) ?_
 refine W.lookup (kind:=.agg tC) kKI x.c ?_
 rw[A3N,hc]
 refine W4 ?_
 refine W.load (v:=some ⟨b,0,none⟩) ?_
 refine W4 ?_
 refine W.load (v:=some ⟨q.tb,0,none⟩) ?_
 refine r7 (v:=p) ?_
 refine A8Y (fun h R=>A6o hs h R) fun ob ib=>?_
 refine j1 (C9j (k:=x.aD) hid (At.un ?_))
 refine r7 (v:=p) ?_
 refine A1p ?_ rfl
 refine Z1 (C5y (f:=ib) (s:=s.aZ) (p:=p) (why:=why) (fun S=>At.bD (x:=((l8 s.aZ p.1 p.2.2.2.1 p.2.2.2.2.1 why).1,S,(l8 s.aZ p.1 p.2.2.2.1 p.2.2.2.2.1 why).2.2.1,())) ?_))
 generalize hR:l8 s.aZ p.1 p.2.2.2.1 p.2.2.2.2.1 why=r at hq⊢
 refine B19 (A:=A1t q.tb T.b.last (X9 x.aD (j2 ⟨s.aZ.most,s.aZ.taken,r.2.2.2⟩) T.b.aD)) (fun h af=>C4K ag.nd hs hid h af) ?_
 refine W.bG (A0y (X9 x.aD (j2 ⟨s.aZ.most,s.aZ.taken,r.2.2.2⟩) T.b.aD) T) so sp q ?_
 have aL:j8 (A0y (X9 x.aD (j2 ⟨s.aZ.most,s.aZ.taken,r.2.2.2⟩) T.b.aD) T).b:=ag.fF
 by_cases av:r.2.2.1=0
 ·rw[if_neg (by simpa using av)] at hq
  refine W6 (by simp[av]) ?_
  have kl:(A3w r.2.1 p.2.2.2.2.1).length≤1:=by unfold A3w;split<;>simp
  refine Z1 (A3H (T:=(A0y (X9 x.aD (j2 ⟨s.aZ.most,s.aZ.taken,r.2.2.2⟩) T.b.aD) T)) (id:=x.aD) (ps:=A3w r.2.1 p.2.2.2.2.1) (ag.one x.aD) (by simp only;omega) (At.bD ?_))
  have sQ:(T.outs++A1H T.b.aB x.aD (A3w r.2.1 p.2.2.2.2.1)).length≤50000000:=by
   rw[B5];have:=A82 (A3w r.2.1 p.2.2.2.2.1) (ag.one x.aD);omega
  cases hf:r.1 with
  |false=>
   rw[if_neg (by simp[hf])] at hq
   exact o0 rfl (b6 (o0 rfl (b6 (U2 hq.sub))))
  |true=>
   refine A1k rfl ?_
   refine X3 (W4 ?_)
   refine A6g (fun h R=>o5) fun gg fi p2=>?_
   refine X3 (W.load (v:=full) ?_)
   refine b6 ?_
   refine W.bG (p6 x.aD (A3w r.2.1 p.2.2.2.2.1) (A0y (X9 x.aD (j2 ⟨s.aZ.most,s.aZ.taken,r.2.2.2⟩) T.b.aD) T)) gg fi p2 ?_
   cases full with
   |true=>
    rw[if_neg (by simp)] at hq
    exact o0 rfl (b6 (U2 hq.sub))
   |false=>
    rw[if_pos ⟨hf,rfl⟩] at hq
    refine A1k rfl ?_
    refine X3 (W.load (v:=p.2.2.2.2.2.1) ?_)
    refine X3 (W.load (v:=p.2.2.2.2.2.2.1) ?_)
    refine X3 (W.load (v:=p.2.2.2.1) ?_)
    refine X3 (W.load (v:=p.2.2.1) ?_)
    refine X3 (Z1 (B7w (m:=(p.2.2.2.2.2.1,p.2.2.2.2.2.2.1,p.2.2.2.1,p.2.2.1,e0S)) (T:=p6 x.aD (A3w r.2.1 p.2.2.2.2.1) (A0y (X9 x.aD (j2 ⟨s.aZ.most,s.aZ.taken,r.2.2.2⟩) T.b.aD) T)) ht aL sQ hp hsz (At.bD ?_)))
    exact b6 (U2 hq.sub)
 ·rw[if_pos (by simpa using av)] at hq
  refine X6 (by simp[av]) ?_
  refine Z1 (A8v (T:=(A0y (X9 x.aD (j2 ⟨s.aZ.most,s.aZ.taken,r.2.2.2⟩) T.b.aD) T)) (c:=x.c) (code:=r.2.2.1) ht aL (by simp only;omega) hp (At.bD ?_))
  exact U2 hq.sub
theorem C53{t b:Nat}{full:Bool}{T:U7}{x:X2}{p:Pk}{pl:List p9}{sl:List A0A}{fl:List B3O}(ht:TP h0)(ag:j8 T.b)(hc:A1o x.c T.b.aB=some x)(hb:T.outs.length<40000000)(hp:T.aT.length≤1000000000)
  (hq:At (X7 t b full (A2B full x (pkI p pl sl fl) T)::old h0::L2) (Q (.tuple #[])))(hx:Has L (X7 t b full T) L1:=by repeat first|with_reducible exact V0|apply V2)(hy:Has L1 (old h0) L2:=by repeat first|with_reducible exact V0|apply V2):
  FW prog 64 #[at0 t,.int .i64 x.c,A2s .u8 p] L Q:=by
 refine fun h hs=>A6d (some ⟨t,0,none⟩) x.c p h Q ((?_:W (X7 t b full T::old h0::L2) _ _) h ((hx.then hy).s hs))
 clear hs h hx hy
 obtain⟨s,hs,hid⟩:=ag.cl x (A1x hc).1
 unfold A2B A0F at hq
 simp only[A3p ag.nd hs hid] at hq
 have di:=B4G (ag.bO s hs) p.1 p.2.2.2.2.1 p.2.2.2.2.2.2.2.1
 have qB:=C0Q (o:=s.out) (k:=p.1) (id:=p.2.2.2.2.1) (c:=p.2.2.2.2.2.2.2.1)
 delta A5b az bn cp cx A0N ie km kp nn nw pu rq vi vs
 refine Y1 fun x1=>?_
 refine W4 ?_
 refine A6g (fun h R=>o5) fun so sp q=>?_
 refine W.load (v:=some ⟨b,0,none⟩) ?_
 refine W4 ?_
 refine W.load (v:=some q.cm) ?_
 refine W.lookup (kind:=.agg tC) kKI x.c ?_
 rw[A3N,hc]
 refine W4 ?_
 refine W.load (v:=some ⟨b,0,none⟩) ?_
 refine W4 ?_
 refine W.load (v:=some ⟨q.tb,0,none⟩) ?_
 refine r7 (v:=p) ?_
 refine A8Y (fun h R=>A6o hs h R) fun ob ib=>?_
 refine j1 (B3e (k:=x.aD) hid (At.un ?_))
 refine r7 (v:=p) ?_
 refine A1p ?_ rfl
 refine Z1 (C7P (b:=ob) (o:=s.out) (p:=p) (ag.bO s hs) (fun S=>At.bD (x:=(S,(A0V s.out p.1 p.2.2.2.2.1 p.2.2.2.2.2.2.2.1).2,())) ?_))
 generalize A0V s.out p.1 p.2.2.2.2.1 p.2.2.2.2.2.2.2.1=r at hq di qB⊢
 refine B19 (A:=A1t q.tb T.b.last (X9 x.aD (Y6 r.1.1) T.b.aD)) (fun h af=>A6n ag.nd hs hid h af) ?_
 by_cases av:r.2=0
 ·rw[if_neg (by simpa using av)] at hq
  refine W.bG (A0y (X9 x.aD (Y6 r.1.1) T.b.aD) T) so sp q ?_
  refine W6 (by simp[av]) ?_
  refine Z1 (A3H (T:=(A0y (X9 x.aD (Y6 r.1.1) T.b.aD) T)) (id:=x.aD) (ps:=r.1.2) (ag.one x.aD) (by have:=di.2;simp only;omega) (At.bD ?_))
  exact U2 hq.sub
 ·rw[if_pos (by simpa using av)] at hq
  have e1:X9 x.aD (Y6 r.1.1) T.b.aD=T.b.aD:=by
   rw[qB av,B0c (f:=Y6 s.out) (g:=fun s=>s) ag.nd hs hid rfl,C6C]
  rw[e1]
  refine W.bG T so sp q ?_
  refine X6 (by simp[av]) ?_
  refine Z1 (A8v (T:=T) (c:=x.c) (code:=r.2) ht ag (by omega) hp (At.bD ?_))
  exact U2 hq.sub
end
section
open Go.H Go.Proofs
theorem B3c{E:List Ent}{id q:Int}{f:B3O}(h:(A2J E id f q).1=0):0≤q∧q≤2:=by
 unfold A2J at h
 split at h
 ·cases h
 ·split at h
  ·cases h
  ·omega
theorem B6C{E:List Ent}{id q:Int}{f:B3O}:(A2J E id f q).2.length≤E.length+1∧∀e∈(A2J E id f q).2,e∈E∨e.1=id:=by
 unfold A2J
 split
 ·exact⟨S0 _,fun e he=>.inl he⟩
 ·split
  ·exact⟨S0 _,fun e he=>.inl he⟩
  ·split
   ·refine⟨by simp,fun e he=>?_⟩
    rcases List.mem_or_eq_of_mem_set he with he|rfl
    ·exact .inl he
    ·exact .inr rfl
   ·split
    ·exact⟨S0 _,fun e he=>.inl he⟩
    ·have hp:=A1M ltK b7 (id,f,q) E
     refine⟨by rw[hp.length_eq];simp,fun e he=>?_⟩
     rcases D3.1 (hp.mem_iff.1 he) with rfl|he
     ·exact .inr rfl
     ·exact .inl he
theorem j8.fK{B:Z0}(h:j8 B){E:List Ent}(hl:E.length≤10000)(hm:∀e∈E,e∈B.aH∨∃s∈B.aD,s.id=e.1):j8 (B30 E B) where
 aH:=hl
 bO:=h.bO
 live:=fun e he=>by
  rcases hm e he with he|he
  ·exact h.live e he
  ·exact he
 one:=h.one
 nd:=h.nd
 cl:=h.cl
 dS:=h.dS
 wl:=h.wl
theorem B0I{id:Int}:∀(l:List A0A) {E:List Ent},(j6 id l E).1.length≤E.length+l.length∧(∀e∈(j6 id l E).1,e∈E∨e.1=id)∧(j6 id l E).2.length=l.length∧(added id l E).length≤l.length
 |[],E=>⟨D9 _,fun e he=>.inl he,rfl,D9 _⟩
 |s::l,E=>by
  have h1:=B6C (E:=E) (id:=id) (f:=s.1) (q:=s.2.1)
  obtain⟨h2,h3,h4,h5⟩:=B0I (id:=id) l (E:=(A2J E id s.1 s.2.1).2)
  unfold j6 added
  refine⟨?_,fun e he=>?_,?_,?_⟩
  ·simp only[B8];omega
  ·rcases h3 e he with he|he
   ·exact h1.2 e he
   ·exact .inr he
  ·simp only[B8,h4]
  ·rw[B5]
   split<;>simp only[B8,H2]<;>omega
theorem B74{id:Int}:∀(l:List A0A) {E:List Ent} {s:A0A},s∈added id l E→s∈l
 |[],_,_,h=>by cases h
 |x::l,E,s,h=>by
  unfold added at h
  rcases C9.1 h with h|h
  ·split at h
   ·rw[B7.1 h];exact B4 ..
   ·cases h
  ·exact C3 _ (B74 l h)
theorem C0A{E:List Ent}{k:Int}{f:B3O}:(A1L E k f).length≤E.length:=D4 _ _
theorem B0v{id:Int}{s:A0A}(T:U7)(m:j7)(h:j8 T.b):A0B T (A0M id s T m) 320:=B5n h fun o ho=>⟨(A33 ho _).1,by have:=(A33 ho (m.1,m.2.1,min m.2.2.1 s.2.1,true,e0S)).2;omega⟩
theorem C1t{id:Int}{f:Z5→Z5×List PkO}{T:U7}:(A0F id f T).b.kept=T.b.kept:=by
 unfold A0F;split<;>rfl
theorem A85{id:Int}{f:Z5→Z5×List PkO}{T:U7}:(A0F id f T).b.aD.map (·.id)=T.b.aD.map (·.id):=by
 unfold A0F
 split
 ·rfl
 ·rename_i s _
  exact A6r (f:=Y6 (f s.out).1) (fun _=>rfl) _
theorem A7q{id:Int}(T:U7)(s:A0A)(hk:T.b.kept.length≤64)(h:j8 T.b):A0B T (i7 id T s) 20480:=by
 unfold i7
 split
 ·exact(A0B.refl h).mono (by omega)
 ·refine(B8U (B0v (id:=id) (s:=s)) (A56 T.b.kept s.1) h).mono ?_
  have:(A56 T.b.kept s.1).length≤T.b.kept.length:=D4 _ _
  omega
theorem A7r{id:Int}(T:U7)(s:A0A):(i7 id T s).b.kept=T.b.kept:=by
 unfold i7
 split
 ·rfl
 ·have:∀(l:List j7) (T:U7),(l.foldl (A0M id s) T).b.kept=T.b.kept:=by
   intro l
   induction l with
   |nil=>intro T;rfl
   |cons m l ih=>intro T;exact(ih _).trans C1t
  exact this _ T
theorem B3L{id:Int}(T:U7)(s:A0A):(i7 id T s).b.aD.map (·.id)=T.b.aD.map (·.id):=by
 unfold i7
 split
 ·rfl
 ·have:∀(l:List j7) (T:U7),(l.foldl (A0M id s) T).b.aD.map (·.id)=T.b.aD.map (·.id):=by
   intro l
   induction l with
   |nil=>intro T;rfl
   |cons m l ih=>intro T;exact(ih _).trans A85
  exact this _ T
theorem C6V{A B:List V7}(h:A.map (·.id)=B.map (·.id)){s:V7}{k:Int}(hs:s∈B)(hk:s.id=k):∃s'∈A,s'.id=k:=by
 have h1:k∈B.map (·.id):=hk▸B3 hs
 rw[←h] at h1
 obtain⟨s',h2,h3⟩:=E4.1 h1
 exact⟨s',h2,h3⟩
theorem B5O{id:Int}:∀(l:List A0A) {T:U7},T.b.kept.length≤64→j8 T.b→A0B T (l.foldl (i7 id) T) (l.length*20480)
 |[],T,_,h=>(A0B.refl h).mono (by simp)
 |s::l,T,hk,h=>((A7q T s hk h).trans (B5O l (by rw[A7r];exact hk) (A7q T s hk h).ok)).mono (by rw[B8,J6];omega)
variable {h h0:Heap} {L L' L1 L2 L3 R:List Asn} {Q:Value→Heap→Prop}
abbrev Y2(s:A0A):C9P:=[.string s.1,.int .i64 s.2.1,.bool s.2.2.1,.bool s.2.2.2.1,.int .i64 s.2.2.2.2]
instance:Enc Y2 5:=⟨fun _=>rfl,fun x v hv=>by
 have:(Y2 x).all (fun v=>v.oneCell')=true:=rfl
 exact J1.1 this v hv,by decide⟩
abbrev sbU(s:A0A):B3O×Int×Bool×Bool×Int×Unit:=(s.1,s.2.1,s.2.2.1,s.2.2.2.1,s.2.2.2.2,())
abbrev A0E(p:Pk):Slc:=p.2.2.2.2.2.2.2.2.2.2.2.2.2.2.2.2.2.2.2.2.2.2.2.2.1
theorem C4D{q:Int}(h0:0≤q)(h1:q≤255):IntKind.wrap .u8 q=q:=by
 simp[IntKind.wrap,IntKind.bits,IntKind.signed];omega
theorem C0a{b:Nat}{K:List j7}(hs:sat h (A1v b K::R)):K.length≤64:=by
 obtain⟨l,hl,_⟩:=A3P.1 hs
 exact(hl.lenL (by decide)).2
theorem B9t{t b:Nat}{full:Bool}{T:U7}{x:X2}{p:Pk}{pl:List p9}{sl:List A0A}{fl:List B3O}(ht:TP h0)(ag:j8 T.b)(hc:A1o x.c T.b.aB=some x)(hb:T.outs.length≤10000000)(hE:T.b.aH.length+sl.length≤10000)(hn:sl.length≤100)
  (hsz:∀s∈sl,s.1.size≤9223372036854775807)
  (hq:At (X7 t b full (A0W x (pkI p pl sl fl) T)::old h0::L3) (Q (.tuple #[])))(hx:Has L (X7 t b full T) L1:=by repeat first|with_reducible exact V0|apply V2)(hy:Has L1 (old h0) L2:=by repeat first|with_reducible exact V0|apply V2)(hz:Has L2 (U5 Y2 5 (A0E p) sl) L3:=by repeat first|with_reducible exact V0|apply V2):
  FW prog 65 #[at0 t,.int .i64 x.c,A2s .u8 p] L Q:=by
 refine fun h hs=>A4I (some ⟨t,0,none⟩) x.c p h Q ((?_:W (X7 t b full T::old h0::U5 Y2 5 (A0E p) sl::L3) _ _) h ((hx.cV hy hz).s hs))
 clear hs h hx hy hz
 obtain⟨sx,rC,iu⟩:=ag.cl x (A1x hc).1
 unfold A0W at hq
 simp only at hq
 obtain⟨EF,jr⟩:∃EF,EF=(j6 x.aD sl T.b.aH).1:=⟨_,rfl⟩
 obtain⟨CF,ja⟩:∃CF,CF=(j6 x.aD sl T.b.aH).2:=⟨_,rfl⟩
 obtain⟨AF,qY⟩:∃AF,AF=added x.aD sl T.b.aH:=⟨_,rfl⟩
 have xX:∀s∈AF,s∈sl:=fun s hs=>by rw[qY] at hs;exact B74 sl hs
 have yE:AF.length≤100:=by rw[qY];exact C4 (B0I sl).2.2.2 hn
 rw[←jr,←ja,←qY] at hq
 delta A3z az bn cc cp cu cx A0N g6 ie ix jc ji jt km kp nn nw pu rq sn sw ve vi vs vz wi
 refine Y1 fun x1=>?_
 refine W4 ?_
 refine A6g (fun h R=>o5) fun so sp q=>?_
 refine W.load (v:=some ⟨b,0,none⟩) ?_
 refine W4 ?_
 refine W.load (v:=some q.cm) ?_
 refine Y9 (fun h R hs=>C0a (b:=q.kb) (K:=T.b.kept) hs) fun kf=>?_
 refine W.lookup (kind:=.agg tC) kKI x.c ?_
 rw[A3N,hc]
 refine W.load (v:=p.2.2.2.2.1) ?_
 refine Y1 fun x8=>?_
 refine y8 ?_
 refine W.load (v:=A0E p) ?_
 refine W.bG T so sp q ?_
 refine A4L Y2 5 ?_
 refine A4L (eKd .u8) 1 ?_
 refine W.cells (b:=x8) (W8 .u8 (pkT (j3 9 (p.2.2.2.2.1) 0) ⟨none,0,0⟩ ⟨none,0,0⟩)).toArray ?_
 refine Y9 (Y0 (enc:=Y2) (size:=5) (s:=A0E p) (xs:=sl)) fun hl=>?_
 refine W.loop (γ:=Nat×List Ent×List Int×List A0A×Slc) (fun g s=>s.2.1=(g.1:Int)∧g.1≤sl.length∧j8 (B30 g.2.1 T.b)∧g.2.1.length≤T.b.aH.length+g.1∧(j6 x.aD (sl.drop g.1) g.2.1).1=EF∧g.2.2.1++(j6 x.aD (sl.drop g.1) g.2.1).2=CF∧g.2.2.2.1++added x.aD (sl.drop g.1) g.2.1=AF∧g.2.2.1.length=g.1∧g.2.2.2.1.length≤g.1)
  (fun g s=>X7 t b full (A09 g.2.1 T)::U5 Y2 5 s.1 g.2.2.2.1::U5 (eKd .u8) 1 g.2.2.2.2 g.2.2.1::cells x8 (W8 .u8 (pkT (j3 9 (p.2.2.2.2.1) 0) g.2.2.2.2 ⟨none,0,0⟩)).toArray::U5 Y2 5 (A0E p) sl::old h0::L3)
  (fun g=>sl.length-g.1) (0,T.b.aH,[],[],⟨none,0,0⟩) ⟨rfl,D1 _,ag,D9 _,jr.symm,ja.symm,qY.symm,rfl,D9 _⟩ ?_ ?_
 ·show Sub _ (X7 t b full T::U5 Y2 5 ⟨none,0,0⟩ ([]:List A0A)::U5 (eKd .u8) 1 ⟨none,0,0⟩ ([]:List Int)::cells x8 (W8 .u8 (pkT (j3 9 (p.2.2.2.2.1) 0) ⟨none,0,0⟩ ⟨none,0,0⟩)).toArray::U5 Y2 5 (A0E p) sl::old h0::L3)
  repeat(first|with_reducible exact T6|with_reducible exact T7|refine T8 (by repeat first|with_reducible exact V0|apply V2) ?_|refine U0 ?_)
 rintro⟨i,E,cs,A,cS⟩ s ⟨hi,cK,ik,lr,cL,cO,jv,aQ,kl⟩ K k1 k2
 simp only at hi cK ik lr cL cO jv aQ kl
 by_cases ah:i<sl.length
 ·refine X6 (by rw[hi,hl];exact decide_eq_true (by omega)) ?_
  have bh:sl.drop i=sl[i]::sl.drop (i+1):=E1 ah
  have aY:sl[i]? =some sl[i]:=B0 ah
  have an:sl[i]∈sl:=H3 ah
  rw[bh] at cL cO jv
  generalize sl[i]=u at aY an cL cO jv
  clear bh
  refine j4 (enc:=Y2) (xs:=sl) (i:=i) ah (fun a ha=>?_) (he:=hi)
  refine B3d (x:=u) (v:=sbU u) ha aY ?_
  refine Y1 fun pA=>?_
  refine y8 ?_
  refine W4 ?_
  refine A6g (fun h R=>o5) fun so sp q=>?_
  refine W.load (v:=some ⟨b,0,none⟩) ?_
  refine W4 ?_
  refine W.load ?_
  refine W.load (v:=u.1) ?_
  refine W.load (v:=u.2.1) ?_
  refine j1 (C6y (t:=q.sb) (E:=E) (id:=x.aD) (q:=u.2.1) (f:=u.1) ht (hsz u an) (by omega) (At.un ?_))
  have hm:=B6C (E:=E) (id:=x.aD) (f:=u.1) (q:=u.2.1)
  have uv:=B3c (E:=E) (id:=x.aD) (f:=u.1) (q:=u.2.1)
  unfold j6 at cL cO
  unfold added at jv
  simp only at cL cO jv
  generalize A2J E x.aD u.1 u.2.1=r at hm uv cL cO jv⊢
  refine W.bG (A09 r.2 T) so sp q ?_
  refine C4s (fun a=>a.2.1=if r.1=0 then u.2.1 else r.1) (fun a=>X7 t b full (A09 r.2 T)::U5 Y2 5 a.1 (A++if r.1=0 then[u] else[])::U5 (eKd .u8) 1 cS cs::cells x8 (W8 .u8 (pkT (j3 9 (p.2.2.2.2.1) 0) cS ⟨none,0,0⟩)).toArray::U5 Y2 5 (A0E p) sl::old h0::L3) (fun K2 bd=>?_) (fun a jZ=>?_)
  ·by_cases hr:r.1=0
   ·refine X6 (by simpa using hr) ?_
    rw[if_pos hr,if_pos hr] at bd
    refine r7 (v:=sbU u) ?_
    refine C6d (enc:=Y2) (xs:=A) (s:=s.1) u (fun s'=>?_) (by omega)
    refine W.load (v:=u.2.1) ?_
    exact U2 (bd (s',IntKind.wrap .u8 u.2.1,()) (C4D (uv hr).1 (by have:=(uv hr).2;omega))).sub
   ·refine W6 (by simpa using hr) ?_
    rw[if_neg hr,if_neg hr,C1] at bd
    exact U2 (bd (s.1,r.1,()) rfl).sub
  ·refine W.load (v:=cS) ?_
   refine C6d (enc:=eKd .u8) (xs:=cs) (s:=cS) a.2.1 (fun s'=>?_) (by omega)
   refine W.store (cs':=(W8 .u8 (pkT (j3 9 (p.2.2.2.2.1) 0) s' ⟨none,0,0⟩)).toArray) ?_
   have om:r.2.length≤T.b.aH.length+(i+1):=by have:=hm.1;omega
   refine U2 (At.sub (k1 (i+1,r.2,cs++[a.2.1],A++(if r.1=0 then[u] else[]),s') (a.1,IntKind.wrap .i64 (s.2.1+1),()) (by simp only;omega) ⟨?_,ah,?_,om,cL,?_,?_,?_,?_⟩) ?_)
   ·simp only[hi];rw[V8 (by omega) (by omega)];rfl
   ·exact ik.fK (by show r.2.length≤10000;omega) fun e he=>by
     rcases hm.2 e he with he|he
     ·exact .inl he
     ·exact .inr ⟨sx,rC,iu.trans he.symm⟩
   ·rw[jZ,D2];exact cO
   ·rw[D2];exact jv
   ·simp[aQ]
   ·simp only[B5];split<;>simp<;>omega
   ·repeat(first|with_reducible exact T6|with_reducible exact T7|refine T8 (by repeat first|with_reducible exact V0|apply V2) ?_|refine U0 ?_)
 ·refine W6 (by rw[hi,hl];exact decide_eq_false (by omega)) (U2 (k2 _ _ ?_))
  have ej:i=sl.length:=by omega
  subst ej
  rw[K7] at cL cO jv
  simp only[j6,added,C1] at cL cO jv
  subst cL cO jv
  clear k1 k2 ja qY jr
  refine r7 (v:=pkT (A0S 9 (p.2.2.2.2.1) cs) cS ⟨none,0,0⟩) ?_
  refine A4L X1 4 ?_
  refine W.cY (A:=pkB .u8 (cS,⟨none,0,0⟩,A0S 9 (p.2.2.2.2.1) cs)) (B:=U5 (eKd .u8) 1 cS cs) (C:=U5 X1 4 ⟨none,0,0⟩ ([]:List p9)) (fun h hs=>A4C.2 hs) ?_
  refine Z1 (B8n (T:=A09 E T) (c:=x.c) (o:=A0S 9 (p.2.2.2.2.1) cs) (ci:=cS) (pi:=⟨none,0,0⟩) (by show T.outs.length≤_;omega) (At.bD ?_))
  obtain⟨T1,ck⟩:∃T1,T1=A0s ⟨x.c,A0S 9 (p.2.2.2.2.1) cs,false⟩ (A09 E T):=⟨_,rfl⟩
  have aL:j8 T1.b:=by rw[ck];exact ik
  have ea:T1.b.kept=T.b.kept:=by rw[ck]
  have jl:T1.b.aD.map (·.id)=T.b.aD.map (·.id):=by rw[ck]
  have fU:T1.outs.length≤10000001:=by rw[ck];show(T.outs++[_]).length≤_;rw[B5];simp only[B8,H2];omega
  rw[←ck] at hq⊢
  clear ck
  obtain⟨aS,i0,_⟩:=s
  simp only
  refine Y9 (Y0 (enc:=Y2) (size:=5) (s:=aS) (xs:=A)) fun fg=>?_
  refine W.loop (γ:=Nat×U7) (fun g s=>s.1=(g.1:Int)∧g.1≤A.length∧j8 g.2.b∧g.2.b.kept=T.b.kept∧g.2.b.aD.map (·.id)=T.b.aD.map (·.id)∧(A.drop g.1).foldl (i7 x.aD) g.2=A.foldl (i7 x.aD) T1∧g.2.outs.length≤10000001+20480*g.1)
   (fun g s=>X7 t b full g.2::U5 Y2 5 aS A::old h0::L3) (fun g=>A.length-g.1) (0,T1) ⟨rfl,D1 _,aL,ea,jl,rfl,fU⟩ ?_ ?_
  ·show Sub _ (X7 t b full T1::U5 Y2 5 aS A::old h0::L3)
   repeat(first|with_reducible exact T6|with_reducible exact T7|refine T8 (by repeat first|with_reducible exact V0|apply V2) ?_|refine U0 ?_)
  rintro⟨j,T2⟩ s2 ⟨hj,tL,bq,gr,jk,fR,dy⟩ K2 m1 m2
  simp only at hj tL bq gr jk fR dy
  by_cases cd:j<A.length
  ·refine X6 (by rw[hj,fg];exact decide_eq_true (by omega)) ?_
   have bh:A.drop j=A[j]::A.drop (j+1):=E1 cd
   have lM:A[j]? =some A[j]:=B0 cd
   have an:A[j]∈A:=H3 cd
   rw[bh,I1] at fR
   generalize A[j]=u at lM an fR
   have ql:=A7q (id:=x.aD) T2 u (by rw[gr];exact kf) bq
   have ay:At (X7 t b full (i7 x.aD T2 u)::U5 Y2 5 aS A::old h0::L3) (K2 (.inl (IntKind.wrap .i64 (s2.1+1),()))):=by
    refine m1 (j+1,i7 x.aD T2 u) (IntKind.wrap .i64 (s2.1+1),()) (by simp only;omega) ⟨?_,cd,ql.ok,(A7r T2 u).trans gr,(B3L T2 u).trans jk,fR,?_⟩
    ·simp only[hj];rw[V8 (by omega) (by omega)];rfl
    ·have:=ql.outs;simp only;omega
   clear m1 m2 fR
   refine X3 (j4 (enc:=Y2) (xs:=A) (i:=j) cd (fun a ha=>?_) (he:=hj))
   refine X3 (B3d (x:=u) (v:=sbU u) ha lM ?_)
   refine X3 (Y1 fun rk=>?_)
   refine X3 (y8 ?_)
   refine X3 (W.load (v:=u.2.2.2.2) ?_)
   by_cases h2:u.2.2.2.2=2
   ·refine A1k (by simpa using h2) ?_
    have e:i7 x.aD T2 u=T2:=if_pos h2
    rw[e] at ay
    exact b6 (U2 ay.sub)
   ·refine o0 (by simpa using h2) ?_
    have e:i7 x.aD T2 u=(A56 T2.b.kept u.1).foldl (A0M x.aD u) T2:=if_neg h2
    rw[e] at ay
    refine X3 (W4 ?_)
    refine A6g (fun h R=>o5) fun so sp q=>?_
    refine X3 (W.load (v:=some ⟨b,0,none⟩) ?_)
    refine X3 (W4 ?_)
    refine X3 (W.load ?_)
    refine X3 (W.load (v:=u.1) ?_)
    refine X3 (j1 (C5t (b:=q.kb) (K:=T2.b.kept) (f:=u.1) ht (hsz u (xX u an)) (fun S=>At.un (x:=S) ?_)))
    refine W.bG T2 so sp q ?_
    have tQ:(A56 T2.b.kept u.1).length≤64:=C4 (D4 _ _) (by rw[gr];exact kf)
    generalize A56 T2.b.kept u.1=M at tQ ay⊢
    refine Y9 (Y0 (enc:=A0c) (size:=3) (s:=S) (xs:=M)) fun kX=>?_
    refine X3 (W.loop (γ:=Nat×U7) (fun g s=>s.1=(g.1:Int)∧g.1≤M.length∧j8 g.2.b∧g.2.b.aD.map (·.id)=T.b.aD.map (·.id)∧(M.drop g.1).foldl (A0M x.aD u) g.2=M.foldl (A0M x.aD u) T2∧g.2.outs.length≤20000000+320*g.1)
     (fun g s=>X7 t b full g.2::U5 A0c 3 S M::cells rk (Y2 u).toArray::U5 Y2 5 aS A::old h0::L3) (fun g=>M.length-g.1) (0,T2) ⟨rfl,D1 _,bq,jk,rfl,by simp only;omega⟩ ?_ ?_)
    ·show Sub _ (X7 t b full T2::U5 A0c 3 S M::cells rk (Y2 u).toArray::U5 Y2 5 aS A::old h0::L3)
     repeat(first|with_reducible exact T6|with_reducible exact T7|refine T8 (by repeat first|with_reducible exact V0|apply V2) ?_|refine U0 ?_)
    rintro⟨l,T3⟩ s3 ⟨gX,rJ,df,oN,iw,oa⟩ K3 n1 n2
    simp only at gX rJ df oN iw oa
    by_cases dg:l<M.length
    ·refine X6 (by rw[gX,kX];exact decide_eq_true (by omega)) ?_
     have iz:M.drop l=M[l]::M.drop (l+1):=E1 dg
     have nT:M[l]? =some M[l]:=B0 dg
     rw[iz,I1] at iw
     generalize M[l]=m at nT iw
     have qn:=B0v (id:=x.aD) (s:=u) T3 m df
     have ei:At (X7 t b full (A0M x.aD u T3 m)::U5 A0c 3 S M::cells rk (Y2 u).toArray::U5 Y2 5 aS A::old h0::L3) (K3 (.inl (IntKind.wrap .i64 (s3.1+1),()))):=by
      refine n1 (l+1,A0M x.aD u T3 m) (IntKind.wrap .i64 (s3.1+1),()) (by simp only;omega) ⟨?_,dg,qn.ok,A85.trans oN,iw,?_⟩
      ·simp only[gX];rw[V8 (by omega) (by omega)];rfl
      ·have:=qn.outs;simp only;omega
     clear n1 n2 iw
     obtain⟨s4,ak,hid⟩:=C6V oN rC iu
     have iR:(if u.2.1<m.2.2.1 then u.2.1 else m.2.2.1)=min m.2.2.1 u.2.1:=by split<;>omega
     have di:=A33 (df.bO s4 ak) (m.1,m.2.1,min m.2.2.1 u.2.1,true,e0S)
     have e9:A0M x.aD u T3 m=p6 x.aD (Y3 s4.out (m.1,m.2.1,min m.2.2.1 u.2.1,true,e0S)).1.2 (A0y (X9 x.aD (Y6 (Y3 s4.out (m.1,m.2.1,min m.2.2.1 u.2.1,true,e0S)).1.1) T3.b.aD) T3):=by
      unfold A0M A0F
      rw[A3p df.nd ak hid]
     rw[e9] at ei
     refine j4 (enc:=A0c) (xs:=M) (i:=l) dg (fun a3 jT=>?_) (he:=gX)
     refine B3d (x:=m) (v:=m) jT nT ?_
     refine Y1 fun yd=>?_
     refine y8 ?_
     refine W4 ?_
     refine A6g (fun h R=>o5) fun gg fi q2=>?_
     refine W.load (v:=some ⟨b,0,none⟩) ?_
     refine W4 ?_
     refine W.load (v:=some ⟨q2.tb,0,none⟩) ?_
     refine W.load (v:=m.1) ?_
     refine W.load (v:=m.2.1) ?_
     refine W.load (v:=m.2.2.1) ?_
     refine W.load (v:=u.2.1) ?_
     rw[iR]
     refine A8Y (fun h R=>A6o ak h R) fun ob ib=>?_
     refine A7Q ?_ ?_
     ·refine j1 (B3e hid (At.un ?_))
      repeat(first|refine b6 ?_|refine X3 ?_|refine Y1 fun _=>?_|refine W.load ?_|refine B4u ?_|refine e8 ?_|(refine r7 ?_;try dsimp only)|(refine A7R ?_;try dsimp only)|refine y8 ?_|refine W.store ?_|refine W.store0 ?_|refine A4j ?_|refine A1p ?_ rfl|refine A1k rfl ?_|refine o0 rfl ?_|refine X6 rfl ?_|refine W6 rfl ?_|refine W.inl ?_|refine W.inr ?_|refine W4 ?_|refine o0 (Go.H.nbq _) ?_|refine W6 (Go.H.nbq _) ?_|refine o0 (Go.H.nbd rfl) ?_|refine W6 (Go.H.nbd rfl) ?_)
      refine Z1 (B4y (b:=ob) (o:=s4.out) (m:=(m.1,m.2.1,min m.2.2.1 u.2.1,true,e0S)) (df.bO s4 ak) (fun S2=>At.bD (x:=(S2,(Y3 s4.out (m.1,m.2.1,min m.2.2.1 u.2.1,true,e0S)).2,())) ?_))
      refine B19 (A:=A1t q2.tb T3.b.last (X9 x.aD (Y6 (Y3 s4.out (m.1,m.2.1,min m.2.2.1 u.2.1,true,e0S)).1.1) T3.b.aD)) (fun h hs=>A6n df.nd ak hid h hs) ?_
      refine W.bG (A0y (X9 x.aD (Y6 (Y3 s4.out (m.1,m.2.1,min m.2.2.1 u.2.1,true,e0S)).1.1) T3.b.aD) T3) gg fi q2 ?_
      refine Z1 (A3H (T:=A0y (X9 x.aD (Y6 (Y3 s4.out (m.1,m.2.1,min m.2.2.1 u.2.1,true,e0S)).1.1) T3.b.aD) T3) (id:=x.aD) (ps:=(Y3 s4.out (m.1,m.2.1,min m.2.2.1 u.2.1,true,e0S)).1.2) (df.one x.aD) (by have:=di.2;show T3.outs.length+_≤_;omega) (At.bD ?_))
      exact U2 ei.sub
     ·repeat(first|refine b6 ?_|refine X3 ?_|refine Y1 fun _=>?_|refine W.load ?_|refine B4u ?_|refine e8 ?_|(refine r7 ?_;try dsimp only)|(refine A7R ?_;try dsimp only)|refine y8 ?_|refine W.store ?_|refine W.store0 ?_|refine A4j ?_|refine A1p ?_ rfl|refine A1k rfl ?_|refine o0 rfl ?_|refine X6 rfl ?_|refine W6 rfl ?_|refine W.inl ?_|refine W.inr ?_|refine W4 ?_|refine o0 (Go.H.nbq _) ?_|refine W6 (Go.H.nbq _) ?_|refine o0 (Go.H.nbd rfl) ?_|refine W6 (Go.H.nbd rfl) ?_)
      refine j1 (B3e hid (At.un ?_))
      repeat(first|refine b6 ?_|refine X3 ?_|refine Y1 fun _=>?_|refine W.load ?_|refine B4u ?_|refine e8 ?_|(refine r7 ?_;try dsimp only)|(refine A7R ?_;try dsimp only)|refine y8 ?_|refine W.store ?_|refine W.store0 ?_|refine A4j ?_|refine A1p ?_ rfl|refine A1k rfl ?_|refine o0 rfl ?_|refine X6 rfl ?_|refine W6 rfl ?_|refine W.inl ?_|refine W.inr ?_|refine W4 ?_|refine o0 (Go.H.nbq _) ?_|refine W6 (Go.H.nbq _) ?_|refine o0 (Go.H.nbd rfl) ?_|refine W6 (Go.H.nbd rfl) ?_)
      refine Z1 (B4y (b:=ob) (o:=s4.out) (m:=(m.1,m.2.1,min m.2.2.1 u.2.1,true,e0S)) (df.bO s4 ak) (fun S2=>At.bD (x:=(S2,(Y3 s4.out (m.1,m.2.1,min m.2.2.1 u.2.1,true,e0S)).2,())) ?_))
      refine B19 (A:=A1t q2.tb T3.b.last (X9 x.aD (Y6 (Y3 s4.out (m.1,m.2.1,min m.2.2.1 u.2.1,true,e0S)).1.1) T3.b.aD)) (fun h hs=>A6n df.nd ak hid h hs) ?_
      refine W.bG (A0y (X9 x.aD (Y6 (Y3 s4.out (m.1,m.2.1,min m.2.2.1 u.2.1,true,e0S)).1.1) T3.b.aD) T3) gg fi q2 ?_
      refine Z1 (A3H (T:=A0y (X9 x.aD (Y6 (Y3 s4.out (m.1,m.2.1,min m.2.2.1 u.2.1,true,e0S)).1.1) T3.b.aD) T3) (id:=x.aD) (ps:=(Y3 s4.out (m.1,m.2.1,min m.2.2.1 u.2.1,true,e0S)).1.2) (df.one x.aD) (by have:=di.2;show T3.outs.length+_≤_;omega) (At.bD ?_))
      exact U2 ei.sub
    ·refine W6 (by rw[gX,kX];exact decide_eq_false (by omega)) (U2 (n2 _ _ (b6 (U2 ?_))))
     have hle:l=M.length:=by omega
     subst hle
     rw[K7,P4] at iw
     rw[←iw] at ay
     exact ay.sub
  ·refine W6 (by rw[hj,fg];exact decide_eq_false (by omega)) (U2 (m2 _ _ (U2 ?_)))
   have oM:j=A.length:=by omega
   subst oM
   rw[K7,P4] at fR
   rw[fR]
   exact hq.sub
end
section
open Go.H Go.Proofs
variable {h h0:Heap} {L L' L1 L2 L3 R:List Asn} {Q:Value→Heap→Prop}
abbrev A4o(p:Pk):Slc:=p.2.2.2.2.2.2.2.2.2.2.2.2.2.2.2.2.2.2.2.2.2.2.2.2.2.1
theorem B6Q{t b:Nat}{full:Bool}{T:U7}{x:X2}{p:Pk}{pl:List p9}{sl:List A0A}{fl:List B3O}(ht:TP h0)(ag:j8 T.b)(hc:A1o x.c T.b.aB=some x)(hb:T.outs.length≤10000000)(hn:fl.length≤100)
  (hsz:∀f∈fl,f.size≤16777216)
  (hq:At (X7 t b full (A1e x (pkI p pl sl fl) T)::old h0::L3) (Q (.tuple #[])))(hx:Has L (X7 t b full T) L1:=by repeat first|with_reducible exact V0|apply V2)(hy:Has L1 (old h0) L2:=by repeat first|with_reducible exact V0|apply V2)(hz:Has L2 (U5 A0a 1 (A4o p) fl) L3:=by repeat first|with_reducible exact V0|apply V2):
  FW prog 66 #[at0 t,.int .i64 x.c,A2s .u8 p] L Q:=by
 refine fun h hs=>A4g (some ⟨t,0,none⟩) x.c p h Q ((?_:W (X7 t b full T::old h0::U5 A0a 1 (A4o p) fl::L3) _ _) h ((hx.cV hy hz).s hs))
 clear hs h hx hy hz
 unfold A1e at hq
 simp only at hq
 obtain⟨EF,jr⟩:∃EF,EF=(A0H x.aD fl T.b.aH).1:=⟨_,rfl⟩
 obtain⟨CF,ja⟩:∃CF,CF=(A0H x.aD fl T.b.aH).2:=⟨_,rfl⟩
 rw[←jr,←ja] at hq
 delta A2Y az bn cb cx A0N ie ix jc ji km kp lt nn nw pu sn sw ve vi vs vz wi
 refine Y1 fun x1=>?_
 refine W.load (v:=p.2.2.2.2.1) ?_
 refine Y1 fun x3=>?_
 refine y8 ?_
 refine W.load (v:=A4o p) ?_
 refine A4L (eKd .u8) 1 ?_
 refine W.cells (b:=x3) (W8 .u8 (pkT (j3 11 (p.2.2.2.2.1) 0) ⟨none,0,0⟩ ⟨none,0,0⟩)).toArray ?_
 refine Y9 (Y0 (enc:=A0a) (size:=1) (s:=A4o p) (xs:=fl)) fun hl=>?_
 refine W.loop (γ:=Nat×List Ent×List Int×Slc) (fun g s=>s.1=(g.1:Int)∧g.1≤fl.length∧g.2.1.length≤T.b.aH.length∧(A0H x.aD (fl.drop g.1) g.2.1).1=EF∧g.2.2.1++(A0H x.aD (fl.drop g.1) g.2.1).2=CF∧g.2.2.1.length=g.1)
  (fun g s=>X7 t b full (A09 g.2.1 T)::U5 (eKd .u8) 1 g.2.2.2 g.2.2.1::cells x3 (W8 .u8 (pkT (j3 11 (p.2.2.2.2.1) 0) g.2.2.2 ⟨none,0,0⟩)).toArray::U5 A0a 1 (A4o p) fl::old h0::L3)
  (fun g=>fl.length-g.1) (0,T.b.aH,[],⟨none,0,0⟩) ⟨rfl,D1 _,D9 _,jr.symm,ja.symm,rfl⟩ ?_ ?_
 ·show Sub _ (X7 t b full T::U5 (eKd .u8) 1 ⟨none,0,0⟩ ([]:List Int)::cells x3 (W8 .u8 (pkT (j3 11 (p.2.2.2.2.1) 0) ⟨none,0,0⟩ ⟨none,0,0⟩)).toArray::U5 A0a 1 (A4o p) fl::old h0::L3)
  repeat(first|with_reducible exact T6|with_reducible exact T7|refine T8 (by repeat first|with_reducible exact V0|apply V2) ?_|refine U0 ?_)
 rintro⟨i,E,cs,cS⟩ s ⟨hi,cK,lr,cL,cO,aQ⟩ K k1 k2
 simp only at hi cK lr cL cO aQ
 by_cases ah:i<fl.length
 ·refine X6 (by rw[hi,hl];exact decide_eq_true (by omega)) ?_
  have bh:fl.drop i=fl[i]::fl.drop (i+1):=E1 ah
  have aY:fl[i]? =some fl[i]:=B0 ah
  have an:fl[i]∈fl:=H3 ah
  rw[bh] at cL cO
  generalize fl[i]=u at aY an cL cO
  clear bh
  unfold A0H at cL cO
  simp only at cL cO
  have bg:=ag.aH
  refine j4 (enc:=A0a) (xs:=fl) (i:=i) ah (fun a ha=>?_) (he:=hi)
  refine B6F (x:=u) (v:=u) ha aY ?_
  refine W4 ?_
  refine A6g (fun h R=>o5) fun so sp q=>?_
  refine W.load (v:=some ⟨b,0,none⟩) ?_
  refine W4 ?_
  refine W.load ?_
  refine W4 ?_
  refine W.load (v:=some ⟨b,0,none⟩) ?_
  refine W4 ?_
  refine W.load (v:=some q.cm) ?_
  refine W.lookup (kind:=.agg tC) kKI x.c ?_
  rw[A3N,hc]
  refine j1 (C03 (t:=q.sb) (E:=E) (id:=x.aD) (f:=u) ht (hsz u an) (by omega) (At.un ?_))
  refine W.bG (A09 (A1L E x.aD u) T) so sp q ?_
  refine A02 (fun a=>a.1=if(A1L E x.aD u).length<E.length then 0 else 17) (fun K2 bd=>A0i (fun e=>U2 (bd _ (if_pos (by simpa using e)).symm)) (fun e=>U2 (bd _ (if_neg (by simpa using e)).symm))) (fun a jZ=>?_)
  refine W.load (v:=cS) ?_
  refine C6d (enc:=eKd .u8) (xs:=cs) (s:=cS) a.1 (fun s'=>?_) (by omega)
  refine W.store (cs':=(W8 .u8 (pkT (j3 11 (p.2.2.2.2.1) 0) s' ⟨none,0,0⟩)).toArray) ?_
  have om:(A1L E x.aD u).length≤T.b.aH.length:=C4 C0A lr
  have f1:IntKind.wrap .i64 (s.1+1)=((i+1:Nat):Int):=by rw[hi,V8 (by omega) (by omega)];rfl
  have f2:(cs++[a.1])++(A0H x.aD (fl.drop (i+1)) (A1L E x.aD u)).2=CF:=by rw[jZ,D2];exact cO
  have hn:=k1 (i+1,A1L E x.aD u,cs++[a.1],s') (IntKind.wrap .i64 (s.1+1),()) (by simp only;omega) ⟨f1,ah,om,cL,f2,by simp[aQ]⟩
  exact U2 hn.sub
 ·refine W6 (by rw[hi,hl];exact decide_eq_false (by omega)) (U2 (k2 _ _ ?_))
  have ej:i=fl.length:=by omega
  subst ej
  rw[K7] at cL cO
  simp only[A0H,C1] at cL cO
  subst cL cO
  refine r7 (v:=pkT (A0S 11 (p.2.2.2.2.1) cs) cS ⟨none,0,0⟩) ?_
  refine A4L X1 4 ?_
  refine W.cY (A:=pkB .u8 (cS,⟨none,0,0⟩,A0S 11 (p.2.2.2.2.1) cs)) (B:=U5 (eKd .u8) 1 cS cs) (C:=U5 X1 4 ⟨none,0,0⟩ ([]:List p9)) (fun h hs=>A4C.2 hs) ?_
  refine Z1 (B8n (T:=A09 E T) (c:=x.c) (o:=A0S 11 (p.2.2.2.2.1) cs) (ci:=cS) (pi:=⟨none,0,0⟩) (by show T.outs.length≤_;omega) (At.bD ?_))
  exact U2 hq.sub
theorem C9G{α:Type}{P:Program}{k:Kind}{fn:FuncId}{first captured args:C9O}{f:k.ty→HM α}{Q':α→Heap→Prop}(ag:A1z P fn)(hc:FW P fn (first++args++captured) L (k.un fun x h'=>f x h' Q')):
  W L (HM.bind (B77 P k (.func (.func fn) first captured) args) f) Q':=fun h hs=>
 ⟨fn,first,captured,rfl,ag,hc h hs⟩
abbrev prU(u:p9):Int×Int×B3O×B3O×Unit:=(u.1,u.2.1,u.2.2.1,u.2.2.2,())
theorem C5H{S:Slc}{pl:List p9}{id:Int}(hn:pl.length≤1000)(hq:At (U5 X1 4 S pl::L1) (Q (.tuple #[.agg (X1 ((A0R id pl).getD (0,0,e0S,e0S))).toArray,.bool (A0R id pl).isSome])))
  (hx:Has L (U5 X1 4 S pl) L1:=by repeat first|with_reducible exact V0|apply V2):FW prog 70 #[.slice S.a S.len S.cap,.int .i64 id] L Q:=by
 refine fun h hs=>B4j S id h Q ((?_:W (U5 X1 4 S pl::L1) _ _) h (hx.s hs))
 clear hs h hx
 delta B7x az ci g8 ie ix nw pu sn ve vi vs
 refine Y1 fun x1=>?_
 refine Y1 fun x2=>?_
 refine j1 (fun h hs=>A3v S _ h _ ((?_:W (cells x2 zS8::cells x1 #[.int .i64 id]::U5 X1 4 S pl::L1) _ _) h hs))
 delta A2n bn g8 ie ix pu wi
 refine Y9 (Y0 (enc:=X1) (size:=4) (s:=S) (xs:=pl)) fun hl=>?_
 refine W.loop (γ:=Nat) (fun g s=>s.1=(g:Int)∧g≤pl.length∧A0R id (pl.take g)=none) (fun g s=>cells x2 zS8::cells x1 #[.int .i64 id]::U5 X1 4 S pl::L1) (fun g=>pl.length-g) 0 ⟨rfl,D1 _,rfl⟩ Sub.rfl ?_
 rintro i s ⟨hi,cK,hf⟩ K k1 k2
 by_cases ah:i<pl.length
 ·refine X6 (by rw[hi,hl];exact decide_eq_true (by omega)) ?_
  have aY:pl[i]? =some pl[i]:=B0 ah
  have aU:pl.take (i+1)=pl.take i++[pl[i]]:=C7 ah
  have eL:pl=pl.take i++pl[i]::pl.drop (i+1):=by rw[←E1 ah,J7]
  generalize pl[i]=u at aY aU eL
  refine j4 (enc:=X1) (xs:=pl) (i:=i) ah (fun a ha=>?_) (he:=hi)
  refine B3d (x:=u) (v:=prU u) ha aY ?_
  refine C9G call115 (fun h hs=>B0r (prU u) ⟨x1,0,none⟩ h _ ((?_:W (cells x2 zS8::cells x1 #[.int .i64 id]::U5 X1 4 S pl::L1) _ _) h hs))
  delta B1n ji li nw pu
  refine Y1 fun x4=>?_
  refine W.load (v:=u.1) ?_
  refine B4u (v:=id) ?_
  refine U2 (At.un (x:=u.1==id) ?_)
  by_cases hu:u.1=id
  ·refine X6 (by simpa using hu) ?_
   refine U2 (k2 _ _ ?_)
   refine U2 (At.un (x:=s.1) ?_)
   have tS:A0R id pl=some u:=by
    rw[eL];unfold A0R at hf⊢
    rw[P5,hf,Option.none_or,R6 (by simpa using hu)]
   rw[tS] at hq
   refine W6 (by rw[hi];exact decide_eq_false (by omega)) ?_
   refine j4 (enc:=X1) (xs:=pl) (i:=i) ah (fun a ha=>?_) (he:=hi)
   refine B3d (x:=u) (v:=prU u) ha aY ?_
   refine y8 ?_
   refine r7 (v:=prU u) ?_
   exact U2 hq.sub
  ·refine W6 (by simpa using hu) ?_
   have f1:IntKind.wrap .i64 (s.1+1)=((i+1:Nat):Int):=by rw[hi,V8 (by omega) (by omega)];rfl
   have f2:A0R id (pl.take (i+1))=none:=by
    rw[aU];unfold A0R at hf⊢
    rw[P5,hf,Option.none_or,List.find?_cons_of_neg (by simpa using hu)];rfl
   have hn:=k1 (i+1) (IntKind.wrap .i64 (s.1+1),()) (by omega) ⟨f1,ah,f2⟩
   exact U2 hn.sub
 ·refine W6 (by rw[hi,hl];exact decide_eq_false (by omega)) (U2 (k2 _ _ ?_))
  have ej:i=pl.length:=by omega
  subst ej
  rw[F9] at hf
  rw[hf] at hq
  refine U2 (At.un (x:=(-1:Int)) ?_)
  refine X6 (by decide) ?_
  refine y8 ?_
  refine r7 (v:=prU (0,0,e0S,e0S)) ?_
  exact U2 hq.sub
end
section
open Go.H Go.Proofs
abbrev A2p(s:V7):Int×B3O:=(s.id,s.aC)
structure X4(B:Z0)(n:Nat):Prop extends j8 B where
 cX:0≤B.last
 cM:B.last≤n
 dX:∀s∈B.aD,1≤s.id∧s.id≤B.last
 dE:(B.aD.map (·.id)).Pairwise (·< ·)
 eB:(B.aD.map (·.aC)).Nodup
 n32:B.aD.length≤32
 eT:∀i,A08 B.aH i≤64
theorem B6r{A E:List Ent}(h:A.Sublist E)(i:Int):A08 A i≤A08 E i:=(h.map _).count_le _
theorem X4.sub{B B':Z0}{n:Nat}(h:X4 B n)(h':j8 B')(hl:B'.last=B.last)(hk:(B'.aD.map A2p).Sublist (B.aD.map A2p))(he:B'.aH.Sublist B.aH):X4 B' n:=by
 have e1:∀A:List V7,(A.map A2p).map (·.1)=A.map (·.id):=fun A=>by rw[F1];rfl
 have e2:∀A:List V7,(A.map A2p).map (·.2)=A.map (·.aC):=fun A=>by rw[F1];rfl
 have k1:=hk.map (·.1)
 have k2:=hk.map (·.2)
 rw[e1,e1] at k1
 rw[e2,e2] at k2
 refine{h' with cX:=by rw[hl];exact h.cX,cM:=by rw[hl];exact h.cM,dX:=fun s hs=>?_,dE:=h.dE.sublist k1,eB:=h.eB.sublist k2,n32:=?_,eT:=fun i=>C4 (B6r he i) (h.eT i)}
 ·have:s.id∈B.aD.map (·.id):=k1.subset (B3 hs)
  obtain⟨s',af,he⟩:=E4.1 this
  have:=h.dX s' af
  rw[hl];rw[he] at this;exact this
 ·have:=hk.length_le
  simp only[C2] at this
  exact C4 this h.n32
theorem B0V{k:Int}{f:V7→V7}(hf:∀s,A2p (f s)=A2p s)(A:List V7):(X9 k f A).map A2p=A.map A2p:=by
 unfold X9
 rw[F1]
 refine I0 fun s _=>?_
 simp only[Function.comp]
 split
 ·exact hf s
 ·rfl
theorem B2G{id:Int}{f:Z5→Z5×List PkO}{T:U7}:(A0F id f T).b.aD.map A2p=T.b.aD.map A2p:=by
 unfold A0F
 split
 ·rfl
 ·rename_i s _
  exact B0V (f:=Y6 (f s.out).1) (fun _=>rfl) _
theorem B1Q{α:Type}{g:U7→α→U7}(hg:∀T x,(g T x).b.aD.map A2p=T.b.aD.map A2p):∀(l:List α) {T:U7},(l.foldl g T).b.aD.map A2p=T.b.aD.map A2p
 |[],_=>rfl
 |x::l,T=>(B1Q hg l).trans (hg T x)
theorem B2U{m:MsT}{T:U7}:(A0t m T).b.aD.map A2p=T.b.aD.map A2p:=by
 unfold A0t
 rw[B1Q (g:=A1g m (T.b.aH.filter fun x=>Y8 x.2.1 m.1)) fun T x=>B2G]
 unfold A1Q;split<;>rfl
theorem C0x{k:Int}{B:Z0}:((A58 k B).aD.map A2p).Sublist (B.aD.map A2p):=by
 unfold A58
 split
 ·exact G4 _
 ·split
  ·exact G4 _
  ·split
   ·show((X9 k A8e B.aD).map A2p).Sublist _
    rw[B0V (f:=A8e) fun _=>rfl];exact G4 _
   ·exact I2.map _
theorem B5X{full:Bool}{c:Int}{w:Bool}{T:U7}:((A3S full c w T).b.aD.map A2p).Sublist (T.b.aD.map A2p):=by
 unfold A3S
 split
 ·exact G4 _
 ·simp only
  split
  ·show((A0t _ _).b.aD.map A2p).Sublist _
   rw[B2U];exact C0x
  ·exact C0x
theorem B7X{k:Int}{B:Z0}:(A58 k B).aH.Sublist B.aH:=by
 unfold A58
 split
 ·exact G4 _
 ·split
  ·exact G4 _
  ·split
   ·exact G4 _
   ·exact I2
theorem B7Q{α:Type}{g:U7→α→U7}(hg:∀T x,(g T x).b.aH=T.b.aH):∀(l:List α) {T:U7},(l.foldl g T).b.aH=T.b.aH
 |[],_=>rfl
 |x::l,T=>(B7Q hg l).trans (hg T x)
theorem C1r{id:Int}{f:Z5→Z5×List PkO}{T:U7}:(A0F id f T).b.aH=T.b.aH:=by
 unfold A0F;split<;>rfl
theorem C1N{m:MsT}{T:U7}:(A0t m T).b.aH=T.b.aH:=by
 unfold A0t
 rw[B7Q (g:=A1g m (T.b.aH.filter fun x=>Y8 x.2.1 m.1)) fun T x=>C1r]
 unfold A1Q;split<;>rfl
theorem B2Z{full:Bool}{c:Int}{w:Bool}{T:U7}:(A3S full c w T).b.aH.Sublist T.b.aH:=by
 unfold A3S
 split
 ·exact G4 _
 ·simp only
  split
  ·show((A0t _ _).b.aH).Sublist _
   rw[C1N];exact B7X
  ·exact B7X
theorem C0b{id:Int}(T:U7)(s:A0A):(i7 id T s).b.aD.map A2p=T.b.aD.map A2p:=by
 unfold i7
 split
 ·rfl
 ·exact B1Q (fun T m=>B2G) _
theorem B1y{α β:Type}{f:α→β}{A:List α}(hn:(A.map f).Nodup){s t:α}(hs:s∈A)(ht:t∈A)(e:f s=f t):s=t:=by
 obtain⟨l1,l2,rfl⟩:=H0 hs
 rw[C0,B6,G1] at hn
 rcases C9.1 ht with hm|hm
 ·exact absurd e.symm (hn.2.2 _ (B3 hm) _ (B4 ..))
 ·rcases D3.1 hm with rfl|hm
  ·rfl
  ·exact absurd (B3 (f:=f) hm) (by rw[←e];exact(F8.1 hn.2.1).1)
theorem B98{full:Bool}{s:V7}{T:U7}(h:j8 T.b)(ca:(T.b.aB.map (·.c)).Nodup):j8 (A2V full s T).b∧(A2V full s T).outs.length≤T.outs.length+3200001∧(A2V full s T).aT.length≤T.aT.length+3200001∧(A2V full s T).b.aB=T.b.aB.filter (fun y=>decide (y.aD≠s.id))∧(A2V full s T).b.last=T.b.last∧((A2V full s T).b.aD.map A2p).Sublist (T.b.aD.map A2p)∧(A2V full s T).b.aH.Sublist T.b.aH:=by
 unfold A2V
 cases hg:T.b.aB.find? (fun x=>decide (x.aD=s.id)) with
 |none=>
  have hf:T.b.aB.filter (fun y=>decide (y.aD≠s.id))=T.b.aB:=G9.2 fun y hy=>by
   have:=E7.1 hg y hy
   simpa using this
  exact⟨h,K8 _ _,K8 _ _,hf.symm,rfl,G4 _,G4 _⟩
 |some x=>
  have hx:=G7 hg
  have fc:x.aD=s.id:=by simpa using N0 hg
  have h1:=B0i (full:=full) (c:=x.c) (code:=142) (T:=T) h
  refine⟨h1.1,h1.2.1,h1.2.2.1,h1.2.2.2.1.trans ?_,h1.2.2.2.2,B5X,B2Z⟩
  refine L8 fun y hy=>?_
  refine G6.2 ⟨fun cg=>?_,fun cg=>?_⟩
  ·rw[←fc];exact h.other hx hy cg
  ·intro e
   exact cg (by rw[←fc];exact congrArg X2.aD (B1y (f:=(·.c)) ca hy hx e))
noncomputable def z8(full:Bool)(c:B3O)(T:U7):U7:=match ofS c T.b.aD with
 |some s=>A2V full s T
 |none=>T
theorem A8E{full:Bool}{c:B3O}{T:U7}{n:Nat}(h:X4 T.b n)(ca:(T.b.aB.map (·.c)).Nodup)(eA:ofS c T.b.aD=none→T.b.aD.length<32):
  X4 (z8 full c T).b n∧(z8 full c T).outs.length≤T.outs.length+3200001∧(z8 full c T).aT.length≤T.aT.length+3200001∧(∀y∈(z8 full c T).b.aB,y∈T.b.aB∧∀s,ofS c T.b.aD=some s→y.aD≠s.id)∧(ofS c (z8 full c T).b.aD=none→(z8 full c T).b.aD.length<32)∧(∀s',ofS c (z8 full c T).b.aD=some s'→∃s,ofS c T.b.aD=some s∧s.id=s'.id):=by
 unfold z8
 cases ho:ofS c T.b.aD with
 |none=>
  exact⟨h,K8 _ _,K8 _ _,fun y hy=>⟨hy,fun s hs=>(by cases hs)⟩,fun _=>eA ho,fun s' af=>(by rw[ho] at af;cases af)⟩
 |some s=>
  have lE:s∈T.b.aD:=G7 ho
  have sY:s.aC=c:=by simpa using N0 ho
  obtain⟨k1,k2,k3,k4,k5,k6,k7⟩:=B98 (full:=full) (s:=s) h.toj8 ca
  simp only
  refine⟨h.sub k1 k5 k6 k7,k2,k3,fun y hy=>?_,fun ax=>?_,fun s' af=>⟨s,rfl,?_⟩⟩
  ·rw[k4] at hy
   obtain⟨h1,h2⟩:=D5.1 hy
   exact⟨h1,fun s' af=>by cases af;simpa using h2⟩
  ·refine Nat.lt_of_not_le fun qy=>?_
   have hl:=k6.length_le
   simp only[C2] at hl
   have:=h.n32
   have he:(A2V full s T).b.aD.map A2p=T.b.aD.map A2p:=k6.eq_of_length (by simp only[C2];omega)
   have hm:A2p s∈(A2V full s T).b.aD.map A2p:=by rw[he];exact B3 lE
   obtain⟨s',af,hk⟩:=E4.1 hm
   have:=E7.1 ax s' af
   have e2:s'.aC=c:=by rw[←sY];exact congrArg Prod.snd hk
   exact this (by simpa using e2)
  ·have h3:s'∈(A2V full s T).b.aD:=G7 af
   have h4:s'.aC=c:=by simpa using N0 af
   obtain⟨s0,h5,h6⟩:=E4.1 (k6.subset (B3 h3))
   have h7:s0=s:=B1y (f:=(·.aC)) h.eB h5 lE ((congrArg Prod.snd h6).trans (h4.trans sY.symm))
   rw[←h7];exact congrArg Prod.fst h6
theorem X4.s2k{B:Z0}{n:Nat}(h:X4 B n):B.aH.length≤2048:=by
 have key:∀(ids:List Int) (E:List Ent),(∀e∈E,e.1∈ids)→(∀i,A08 E i≤64)→E.length≤64*ids.length:=by
  intro ids
  induction ids with
  |nil=>
   intro E hE _
   cases E with
   |nil=>simp
   |cons e E=>cases hE e (B4 ..)
  |cons i ids ih=>
   intro E hE hc
   have h1:=ih (E.filter fun e=> !decide (e.1=i)) (fun e he=>by
    obtain⟨h1,h2⟩:=D5.1 he
    rcases D3.1 (hE e h1) with h3|h3
    ·simp[h3] at h2
    ·exact h3) (fun j=>C4 (B6r I2 j) (hc j))
   have h2:E.length=(E.filter fun e=>decide (e.1=i)).length+(E.filter fun e=> !decide (e.1=i)).length:=by
    clear hE hc h1
    induction E with
    |nil=>rfl
    |cons e E ihE=>
     by_cases he:e.1=i
     ·rw[G8 (by simpa using he),G0 (by simpa using he),B8,B8,ihE];omega
     ·rw[G0 (by simpa using he),G8 (by simpa using he),B8,B8,ihE];omega
   have h3:(E.filter fun e=>decide (e.1=i)).length=A08 E i:=by
    unfold A08
    rw[List.count_eq_countP,List.countP_map,List.countP_eq_length_filter]
    congr 1
   have:=hc i
   rw[B8]
   omega
 have h1:=key (B.aD.map (·.id)) B.aH (fun e he=>by
  obtain⟨s,hs,hi⟩:=h.live e he
  exact hi▸B3 hs) h.eT
 rw[C2] at h1
 have:=h.n32
 omega
theorem C3t{k:Int}{f:V7→V7}{A:List V7}{x:V7}(h:x∈X9 k f A):(x∈A∧x.id≠k)∨∃s∈A,s.id=k∧x=f s:=by
 unfold X9 at h
 obtain⟨s,hs,rfl⟩:=E4.1 h
 split
 ·exact .inr ⟨s,hs,by assumption,rfl⟩
 ·exact .inl ⟨hs,by assumption⟩
theorem C2M{C:List X2}{x:X2}(h1:∀id:Int,(C.filter fun y=>decide (y.aD=id)).length≤1)(h2:∀y∈C,y.aD≠x.aD)(id:Int):((C++[x]).filter fun y=>decide (y.aD=id)).length≤1:=by
 rw[F3,B5]
 by_cases e:x.aD=id
 ·subst e
  have:C.filter (fun y=>decide (y.aD=x.aD))=[]:=J4.2 fun y hy=>by simpa using h2 y hy
  rw[this]
  simp
 ·have:[x].filter (fun y=>decide (y.aD=id))=[]:=J4.2 fun y hy=>by rw[B7.1 hy];simpa using e
  rw[this]
  simpa using h1 id
theorem C62{B:Z0}{n:Nat}{s':V7}{x:X2}{aN:Bool}(h:X4 B n)(hs:s'∈B.aD)(hc:∀y∈B.aB,y.aD≠s'.id)(hx:x.aD=s'.id)(hw:x.aX.1.size≤9223372036854775807∧ -9223372036854775808≤x.c∧x.c≤9223372036854775807):
  X4 ⟨B.last,X9 s'.id (fun s=>{s with on:=true,aN:=aN}) B.aD,B.aH,B.kept,B.aB++[x]⟩ (n+1) where
 aH:=h.aH
 bO:=fun s hs=>by
  rcases A32 hs with hs|⟨s1,h1,_,rfl⟩
  ·exact h.bO s hs
  ·exact h.bO s1 h1
 live:=fun e he=>A3b (f:=fun s=>{s with on:=true,aN:=aN}) (fun _=>rfl) (h.live e he)
 one:=C2M h.one (fun y hy=>by rw[hx];exact hc y hy)
 nd:=by
  show((X9 s'.id (fun s=>{s with on:=true,aN:=aN}) B.aD).map (·.id)).Nodup
  rw[A6r (f:=fun s=>{s with on:=true,aN:=aN}) fun _=>rfl];exact h.nd
 cl:=fun y hy=>A3b (f:=fun s=>{s with on:=true,aN:=aN}) (fun _=>rfl) (by
  rcases C9.1 hy with hy|hy
  ·exact h.cl y hy
  ·rw[B7.1 hy];exact⟨s',hs,hx.symm⟩)
 dS:=fun y hy s ae e=>by
  rcases C3t ae with⟨h1,h2⟩|⟨s1,h1,h2,rfl⟩
  ·rcases C9.1 hy with hy|hy
   ·exact h.dS y hy s h1 e
   ·rw[B7.1 hy,hx] at e;exact absurd e h2
  ·rfl
 wl:=fun y hy=>by
  rcases C9.1 hy with hy|hy
  ·exact h.wl y hy
  ·rw[B7.1 hy];exact hw
 cX:=h.cX
 cM:=by have:=h.cM;simp only;omega
 dX:=fun s hs=>by
  rcases A32 hs with hs|⟨s1,h1,_,rfl⟩
  ·exact h.dX s hs
  ·exact h.dX s1 h1
 dE:=by
  show((X9 s'.id (fun s=>{s with on:=true,aN:=aN}) B.aD).map (·.id)).Pairwise (·< ·)
  rw[A6r (f:=fun s=>{s with on:=true,aN:=aN}) fun _=>rfl];exact h.dE
 eB:=by
  have e:(X9 s'.id (fun s=>{s with on:=true,aN:=aN}) B.aD).map (·.aC)=B.aD.map (·.aC):=by
   have h1:=congrArg (List.map Prod.snd) (B0V (k:=s'.id) (f:=fun s=>{s with on:=true,aN:=aN}) (fun _=>rfl) B.aD)
   rw[F1,F1] at h1
   exact h1
  show((X9 s'.id (fun s=>{s with on:=true,aN:=aN}) B.aD).map (·.aC)).Nodup
  rw[e];exact h.eB
 n32:=by
  show(X9 s'.id (fun s=>{s with on:=true,aN:=aN}) B.aD).length≤32
  unfold X9;rw[C2];exact h.n32
 eT:=h.eT
theorem C5h{B:Z0}{n:Nat}{A:List V7}{E:List Ent}{x:X2}{aC:B3O}{aN:Bool}(h:X4 B n)(hA:A.Sublist B.aD)(hE:E.Sublist B.aH)(hl:∀e∈E,∃s∈A,s.id=e.1)(hc:∀y∈B.aB,∃s∈A,s.id=y.aD)(hn:∀s∈A,s.aC≠aC)(eA:A.length<32)
  (hx:x.aD=B.last+1)(hw:x.aX.1.size≤9223372036854775807∧ -9223372036854775808≤x.c∧x.c≤9223372036854775807):X4 ⟨B.last+1,A++[A2w (B.last+1) aC aN],E,B.kept,B.aB++[x]⟩ (n+1):=by
 have ah:∀s∈A,s.id<B.last+1:=fun s hs=>by have:=(h.dX s (hA.subset hs)).2;omega
 have gL:∀{s},s∈A++[A2w (B.last+1) aC aN]→s∈A∨s=A2w (B.last+1) aC aN:=fun hs=>by
  rcases C9.1 hs with hs|hs
  ·exact .inl hs
  ·exact .inr (B7.1 hs)
 refine{aH:=C4 hE.length_le h.aH,bO:=fun s hs=>?_,live:=fun e he=>?_,one:=C2M h.one (fun y hy=>?_),nd:=?_,cl:=fun y hy=>?_,dS:=fun y hy s hs e=>?_,wl:=fun y hy=>?_,cX:=by have:=h.cX;simp only;omega,cM:=by have:=h.cM;simp only;omega,dX:=fun s hs=>?_,dE:=?_,eB:=?_,n32:=by rw[B5];exact eA,eT:=fun i=>C4 (B6r hE i) (h.eT i)}
 ·rcases gL hs with hs|rfl
  ·exact h.bO s (hA.subset hs)
  ·exact X0.new
 ·obtain⟨s,hs,hi⟩:=hl e he
  exact⟨s,I7 _ hs,hi⟩
 ·obtain⟨s,hs,hi⟩:=hc y hy
  have:=ah s hs
  omega
 ·show((A++[A2w (B.last+1) aC aN]).map (·.id)).Nodup
  rw[C0,G1]
  refine⟨h.nd.sublist (hA.map _),by simp,fun a ha b hb=>?_⟩
  obtain⟨s,hs,rfl⟩:=E4.1 ha
  have:=ah s hs
  rw[B6,I4,B7] at hb
  rw[hb]
  show s.id≠B.last+1
  omega
 ·rcases C9.1 hy with hy|hy
  ·obtain⟨s,hs,hi⟩:=hc y hy
   exact⟨s,I7 _ hs,hi⟩
  ·rw[B7.1 hy];exact⟨A2w (B.last+1) aC aN,F6 _ (B7.2 rfl),hx.symm⟩
 ·rcases gL hs with hs|rfl
  ·rcases C9.1 hy with hy|hy
   ·exact h.dS y hy s (hA.subset hs) e
   ·rw[B7.1 hy] at e
    have:=ah s hs
    omega
  ·rfl
 ·rcases C9.1 hy with hy|hy
  ·exact h.wl y hy
  ·rw[B7.1 hy];exact hw
 ·rcases gL hs with hs|rfl
  ·have:=h.dX s (hA.subset hs);simp only;omega
  ·have:=h.cX;show 1≤B.last+1∧B.last+1≤B.last+1;omega
 ·show((A++[A2w (B.last+1) aC aN]).map (·.id)).Pairwise (·< ·)
  rw[C0,I8]
  refine⟨h.dE.sublist (hA.map _),by simp,fun a ha b hb=>?_⟩
  obtain⟨s,hs,rfl⟩:=E4.1 ha
  have:=ah s hs
  rw[B6,I4,B7] at hb
  rw[hb]
  exact this
 ·show((A++[A2w (B.last+1) aC aN]).map (·.aC)).Nodup
  rw[C0,G1]
  refine⟨h.eB.sublist (hA.map _),by simp,fun a ha b hb=>?_⟩
  obtain⟨s,hs,rfl⟩:=E4.1 ha
  rw[B6,I4,B7] at hb
  rw[hb]
  exact hn s hs
def A1S(o:Option V7)(k:Int)(E:List Ent):List Ent:=match o with
 |some s=>if s.id≠k then A1h s.id E else E
 |none=>E
theorem B14{B:Z0}{n:Nat}{o:Option V7}{aC:B3O}{clean aN:Bool}{x:X2}(h:X4 B n)(ho:∀s',ofS aC B.aD=some s'→∃s,o=some s∧s.id=s'.id)(hc:∀y∈B.aB,∀s,o=some s→y.aD≠s.id)(eA:ofS aC B.aD=none→B.aD.length<32)
  (hx:x.aD=(b9 aC clean aN B).1.1)(hw:x.aX.1.size≤9223372036854775807∧ -9223372036854775808≤x.c∧x.c≤9223372036854775807):
  X4 ⟨(b9 aC clean aN B).2.last,(b9 aC clean aN B).2.aD,A1S o (b9 aC clean aN B).1.1 B.aH,B.kept,B.aB++[x]⟩ (n+1)∧∃s∈(b9 aC clean aN B).2.aD,s.id=(b9 aC clean aN B).1.1:=by
 have iH:∀k (E:List Ent),(A1h k E).Sublist E:=fun k E=>I2
 unfold b9 at hx⊢
 cases hg:ofS aC B.aD with
 |none=>
  rw[hg] at hx
  have ax:∀s∈B.aD,s.aC≠aC:=fun s hs=>by simpa using E7.1 hg s hs
  have bg:(A1S o (B.last+1) B.aH).Sublist B.aH:=by
   unfold A1S;split
   ·split
    ·exact iH _ _
    ·exact G4 _
   ·exact G4 _
  exact⟨C5h h (G4 _) bg (fun e he=>h.live e (bg.subset he)) h.cl ax (eA hg) hx hw,A2w (B.last+1) aC aN,F6 _ (B7.2 rfl),rfl⟩
 |some s'=>
  obtain⟨s,rfl,hid⟩:=ho s' hg
  have hm:s'∈B.aD:=G7 hg
  have aQ:s'.aC=aC:=by simpa using N0 hg
  have qM:∀y∈B.aB,y.aD≠s'.id:=fun y hy=>by rw[←hid];exact hc y hy s rfl
  rw[hg] at hx
  simp only at hx⊢
  by_cases ca:clean=false
  ·rw[if_pos ca] at hx⊢
   have e:A1S (some s) s'.id B.aH=B.aH:=by unfold A1S;simp[hid]
   simp only[e]
   exact⟨C62 h hm qM hx hw,A3b (f:=fun s=>{s with on:=true,aN:=aN}) (fun _=>rfl) ⟨s',hm,rfl⟩⟩
  ·rw[if_neg ca] at hx⊢
   have cg:s.id≠B.last+1:=by have:=(h.dX s' hm).2;omega
   have e:A1S (some s) (B.last+1) B.aH=A1h s'.id B.aH:=by
    show(if s.id≠B.last+1 then A1h s.id B.aH else B.aH)=_
    rw[if_pos cg,hid]
   simp only[e]
   have ew:∀{i},i≠s'.id→(∃s∈B.aD,s.id=i)→∃s∈B.aD.filter (fun x=>decide (x.id≠s'.id)),s.id=i:=fun hi ⟨s1,h1,h2⟩=>⟨s1,D5.2 ⟨h1,by rw[h2];simpa using hi⟩,h2⟩
   have ah:(B.aD.filter fun x=>decide (x.id≠s'.id)).length<B.aD.length:=by
    refine Nat.lt_of_le_of_ne (D4 _ _) fun e=>?_
    have:=O0.1 e s' hm
    simp at this
   refine⟨C5h h I2 (iH _ _) (fun e he=>?_) (fun y hy=>ew (qM y hy) (h.cl y hy)) (fun s1 aa e1=>?_) (Nat.lt_of_lt_of_le ah h.n32) hx hw,A2w (B.last+1) aC aN,F6 _ (B7.2 rfl),rfl⟩
   ·obtain⟨h1,h2⟩:=D5.1 he
    exact ew (by simpa using h2) (h.live e h1)
   ·obtain⟨h1,h2⟩:=D5.1 aa
    have:=B1y (f:=(·.aC)) h.eB h1 hm (e1.trans aQ.symm)
    subst this
    simp at h2
theorem A3R{full:Bool}{c:Int}{p:PkI}{T:U7}:C1I full c p T=A0F (b9 p.aC p.clean (u4 p.props) (z8 full p.aC T).b).1.1 (fun o=>A0k o (A1P p.props)) (A0s ⟨c,A1T (b9 p.aC p.clean (u4 p.props) (z8 full p.aC T).b).1.2,false⟩
  (tB ⟨(b9 p.aC p.clean (u4 p.props) (z8 full p.aC T).b).2.last,(b9 p.aC p.clean (u4 p.props) (z8 full p.aC T).b).2.aD,A1S (ofS p.aC T.b.aD) (b9 p.aC p.clean (u4 p.props) (z8 full p.aC T).b).1.1 (b9 p.aC p.clean (u4 p.props) (z8 full p.aC T).b).2.aH,
   (b9 p.aC p.clean (u4 p.props) (z8 full p.aC T).b).2.kept,(b9 p.aC p.clean (u4 p.props) (z8 full p.aC T).b).2.aB++[⟨c,(b9 p.aC p.clean (u4 p.props) (z8 full p.aC T).b).1.1,p.bE,(p.aX.1,p.aX.2.1,p.aX.2.2.1,p.aX.2.2.2.1,e0S)⟩]⟩ (z8 full p.aC T))):=by
 unfold C1I z8 A1S
 cases ofS p.aC T.b.aD with
 |none=>rfl
 |some s=>simp only;split<;>rfl
variable {h h0:Heap} {L L' L1 L2 L3 R:List Asn} {Q:Value→Heap→Prop}
theorem C7b{γ β:Type}{x y:HM β}{Q':β→Heap→Prop}{P:γ→List Asn}{REST:γ→HM β}(h1:(∀g,W (P g) (REST g) Q')→W L x Q')(h2:(∀g,W (P g) (REST g) Q')→W L y Q')(ht:∀g,W (P g) (REST g) Q'):W L (A0G x y) Q':=A7Q (h1 ht) (h2 ht)
theorem B7J{B:Z0}(h:j8 B){z:X2}{i:Int}(hz:z∈B.aB)(hi:z.aD=i):B.aB.find? (fun x=>decide (x.aD=i))=some z:=by
 cases hg:B.aB.find? (fun x=>decide (x.aD=i)) with
 |none=>exact absurd hi (by simpa using E7.1 hg z hz)
 |some x=>
  have h1:=h.one i
  have m1:x∈B.aB.filter (fun y=>decide (y.aD=i)):=D5.2 ⟨G7 hg,by simpa using N0 hg⟩
  have m2:z∈B.aB.filter (fun y=>decide (y.aD=i)):=D5.2 ⟨hz,by simpa using hi⟩
  generalize B.aB.filter (fun y=>decide (y.aD=i))=k at h1 m1 m2
  match k,h1 with
  |[],_=>cases m1
  |[w],_=>rw[B7.1 m1,B7.1 m2]
theorem B72{B:Z0}{c:B3O}{clean aN:Bool}(hg:a8 c)(eA:ofS c B.aD=none→B.aD.length<32):
  v7 B.last B.aD c clean aN=((0,(b9 c clean aN B).1.1,(b9 c clean aN B).1.2),(b9 c clean aN B).2.last,(b9 c clean aN B).2.aD)∧(b9 c clean aN B).2.aH=B.aH∧(b9 c clean aN B).2.kept=B.kept∧(b9 c clean aN B).2.aB=B.aB:=by
 unfold v7 b9
 rw[if_neg (fun e=>e hg)]
 cases ho:ofS c B.aD with
 |none=>rw[ho] at eA;simp[Nat.not_le.2 (eA rfl)]
 |some s=>cases clean<;>simp
theorem C0c(l:List p9):decide (0<((A0R 17 l).getD (0,0,e0S,e0S)).2.1)=u4 l:=by
 unfold u4
 cases A0R 17 l<;>rfl
abbrev A0j(p:Pk):Slc:=p.2.2.2.2.2.2.2.2.2.1
theorem C4h{t b n:Nat}{full:Bool}{T:U7}{c:Int}{p:Pk}{pl:List p9}{sl:List A0A}{fl:List B3O}(ht:TP h0)(ag:X4 T.b n)(hn:n≤1000000)(im:A1o c T.b.aB=none)(bu: -9223372036854775808≤c∧c≤9223372036854775807)(hb:T.outs.length≤10000000)(hp:T.aT.length≤100000000)
  (aQ:(p.2.2.2.2.2.2.2.2.2.2.1).size≤9223372036854775807)(uJ:(p.2.2.2.2.2.2.2.2.2.2.2.2.2.2.1).size≤9223372036854775807)(fu:pl.length≤1000)
  (hq:At (X7 t b full (A1j full c (pkI p pl sl fl) T)::old h0::L3) (Q (.tuple #[])))(hx:Has L (X7 t b full T) L1:=by repeat first|with_reducible exact V0|apply V2)(hy:Has L1 (old h0) L2:=by repeat first|with_reducible exact V0|apply V2)(hz:Has L2 (U5 X1 4 (A0j p) pl) L3:=by repeat first|with_reducible exact V0|apply V2):
  FW prog 33 #[at0 t,.int .i64 c,A2s .u8 p] L Q:=by
 refine fun h hs=>A5n (some ⟨t,0,none⟩) c p h Q ((?_:W (X7 t b full T::old h0::U5 X1 4 (A0j p) pl::L3) _ _) h ((hx.cV hy hz).s hs))
 clear hs h hx hy hz
 delta A4y ad bn cc ci cp cu cx ie jb jc ji jt kb ki km kp kt nn nw pu rq sn sw ve vi vs vz
 refine Y1 fun x1=>?_
 refine W4 ?_
 refine A6g (fun h R=>o5) fun so sp q=>?_
 refine Y9 (fun h R hs=>B4F (m:=q.cm) (l:=T.b.aB) hs) fun ca=>?_
 refine W.load (v:=some ⟨b,0,none⟩) ?_
 refine W4 ?_
 refine W.load (v:=some ⟨q.tb,0,none⟩) ?_
 refine W.load (v:=p.2.2.2.2.2.2.2.2.2.2.1) ?_
 apply C7b (γ:=Nat) (P:=fun x8=>X7 t b full T::cells x8 (lS9 (A4b ((ofS (p.2.2.2.2.2.2.2.2.2.2.1) T.b.aD).map A00)).1).toArray::cells x1 (aS3 p)::old h0::U5 X1 4 (A0j p) pl::L3)
 case h1=>
  intro tail
  refine Z1 (C2A (b:=q.tb) (A:=T.b.aD) (c:=p.2.2.2.2.2.2.2.2.2.2.1) ag.eB (At.bD (x:=A4b ((ofS (p.2.2.2.2.2.2.2.2.2.2.1) T.b.aD).map A00)) ?_))
  refine Y1 fun x8=>?_
  refine W.load (v:=p.2.2.2.2.2.2.2.2.2.2.1) ?_
  refine A1p ?_ rfl
  refine W.load (v:=some ⟨q.tb,0,none⟩) ?_
  refine A1p ?_ rfl
  refine W.load (v:=some ⟨b,0,none⟩) ?_
  refine A1p ?_ rfl
  refine y8 ?_
  refine W.bG T so sp q ?_
  exact(tail x8).sub
 case h2=>
  intro tail
  refine Y1 fun x8=>?_
  refine W.load (v:=p.2.2.2.2.2.2.2.2.2.2.1) ?_
  refine A1p ?_ rfl
  refine W.load (v:=some ⟨q.tb,0,none⟩) ?_
  refine A1p ?_ rfl
  refine W.load (v:=some ⟨b,0,none⟩) ?_
  refine A1p ?_ rfl
  refine Z1 (C2A (b:=q.tb) (A:=T.b.aD) (c:=p.2.2.2.2.2.2.2.2.2.2.1) ag.eB (At.bD (x:=A4b ((ofS (p.2.2.2.2.2.2.2.2.2.2.1) T.b.aD).map A00)) ?_))
  refine y8 ?_
  refine W.bG T so sp q ?_
  exact(tail x8).sub
 case ht=>
  intro x8
  refine j1 (C4U (fun b2=>At.un (x:=some ⟨b2,0,none⟩) ?_))
  refine W.load (v:=p.2.2.2.2.2.2.2.2.2.2.1) ?_
  refine Z1 (B9y (b:=b2) (last:=0) (A:=[]) (c:=p.2.2.2.2.2.2.2.2.2.2.1) (clean:=false) (aN:=false) ht.u8 aQ (S7 _) (by decide) (by simp) (by simp) (At.bD (x:=((v7 0 [] (p.2.2.2.2.2.2.2.2.2.2.1) false false).1.2.1,(v7 0 [] (p.2.2.2.2.2.2.2.2.2.2.1) false false).1.2.2,(v7 0 [] (p.2.2.2.2.2.2.2.2.2.2.1) false false).1.1,())) ?_))
  have kj:(v7 0 [] (p.2.2.2.2.2.2.2.2.2.2.1) false false).1.1=if a8 (p.2.2.2.2.2.2.2.2.2.2.1) then 0 else 133:=by
   unfold v7
   by_cases hg:a8 (p.2.2.2.2.2.2.2.2.2.2.1)
   ·simp[hg,ofS]
   ·simp[hg]
  generalize(v7 0 [] (p.2.2.2.2.2.2.2.2.2.2.1) false false).1.1=code0 at kj⊢
  refine A02 (fun r=>r.1=(p.2.2.2.2.2.2.2.2.2.2.2.2.2.1&& !Z4 (p.2.2.2.2.2.2.2.2.2.2.2.2.2.2.1))) (fun K hK=>?_) (fun r hr=>?_)
  ·refine W.load (v:=p.2.2.2.2.2.2.2.2.2.2.2.2.2.1) ?_
   refine A0i (fun h3=>?_) (fun h3=>?_)
   ·refine e8 (b:=x1) (i:=14) (v:=p.2.2.2.2.2.2.2.2.2.2.2.2.2.2.1) ?_
    refine j1 (B3Y ht uJ (At.un ?_))
    refine U2 (At.sub (hK _ ?_))
    simp only[h3,G3]
    unfold A2Q
    cases Z4 (p.2.2.2.2.2.2.2.2.2.2.2.2.2.2.1)<;>rfl
   ·refine U2 (hK _ ?_)
    simp[h3]
  obtain⟨r,_⟩:=r
  simp only at hr
  subst hr
  refine A02 (fun r=>r.1=A5p (pkI p pl sl fl) T.b) (fun K hK=>?_) (fun r hr=>?_)
  ·refine A0i (fun h1=>U2 (hK _ ?_)) (fun h1=>?_)
   ·unfold A5p
    rw[if_pos (by simpa using h1)]
   have fz:=fun a e=>hK a e
   unfold A5p at fz
   rw[if_neg (by simpa using h1)] at fz
   refine W4 ?_
   refine A6g (fun h R=>o5) fun gg fi q2=>?_
   refine W.load (v:=some ⟨b,0,none⟩) ?_
   refine W4 ?_
   refine W.load (v:=some q2.cm) ?_
   refine C6c (r:=q2.cm) (l:=T.b.aB.map A0h) ?_
   refine C8t (fun h2=>?_) (fun h2=>?_)
   ·rw[if_pos (by simp only[C2,decide_eq_true_eq] at h2;omega)] at fz
    refine b6 (U2 ?_)
    refine At.bG T gg fi q2 ?_
    exact(fz (151,()) rfl).sub
   ·rw[if_neg (by simp only[C2,decide_eq_false_iff_not] at h2;omega)] at fz
    refine X3 ?_
    refine C8t (fun h4=>?_) (fun h4=>?_)
    ·have hg:¬a8 (p.2.2.2.2.2.2.2.2.2.2.1):=fun hg=>by rw[kj,if_pos hg] at h4;exact absurd h4 (by decide)
     rw[if_pos hg] at fz
     refine b6 (b6 (U2 ?_))
     refine At.bG T gg fi q2 ?_
     exact(fz (code0,()) (by rw[kj,if_neg hg])).sub
    ·have hg:a8 (p.2.2.2.2.2.2.2.2.2.2.1):=N3 fun hg=>by rw[kj,if_neg hg] at h4;exact absurd h4 (by decide)
     rw[if_neg (fun e=>e hg)] at fz
     refine X3 ?_
     cases ho:ofS (p.2.2.2.2.2.2.2.2.2.2.1) T.b.aD with
     |some s=>
      rw[if_neg (by simp[ho])] at fz
      refine o0 rfl (b6 ?_)
      refine o0 rfl ?_
      refine b6 (b6 (b6 (U2 ?_)))
      refine At.bG T gg fi q2 ?_
      rw[ho] at fz
      exact(fz (0,()) rfl).sub
     |none=>
      refine A1k rfl ?_
      refine X3 (W4 ?_)
      refine X3 (W.load (v:=some ⟨b,0,none⟩) ?_)
      refine X3 (W4 ?_)
      refine X3 (W.load (v:=some ⟨q2.tb,0,none⟩) ?_)
      refine X3 (j1 (C6D (b:=q2.tb) (A:=T.b.aD) (by have:=ag.cM;omega) (fun s hs=>⟨by have:=(ag.dX s hs).1;omega,(ag.dX s hs).2⟩) ag.n32 ag.dE (fun S=>At.un (x:=S) ?_)))
      refine Y9 (Y0 (enc:=C12) (size:=4) (s:=S) (xs:=T.b.aD.map A00)) fun hl=>?_
      rw[C2] at hl
      refine b6 ?_
      rw[ho] at fz
      by_cases eA:32≤T.b.aD.length
      ·rw[if_pos ⟨rfl,eA⟩] at fz
       refine A1k (by rw[hl];exact decide_eq_true (by omega)) ?_
       refine b6 (b6 (b6 (U2 ?_)))
       refine At.bG T gg fi q2 ?_
       exact(fz (151,()) rfl).sub
      ·rw[if_neg (fun e=>eA e.2)] at fz
       refine o0 (by rw[hl];exact decide_eq_false (by omega)) ?_
       refine b6 (b6 (b6 (U2 ?_)))
       refine At.bG T gg fi q2 ?_
       exact(fz (0,()) rfl).sub
  obtain⟨code,_⟩:=r
  simp only at hr
  unfold A1j at hq
  by_cases av:code=0
  ·refine W6 (by simp[av]) ?_
   rw[if_neg (by rw[←hr];simpa using av)] at hq
   obtain⟨T1,ck⟩:∃T1,T1=z8 full (p.2.2.2.2.2.2.2.2.2.2.1) T:=⟨_,rfl⟩
   refine A02 (fun r=>r.1=match ofS (p.2.2.2.2.2.2.2.2.2.2.1) T.b.aD with|some s=>s.on|none=>false) (fun K hK=>?_) (fun r cQ=>?_)
   ·cases ho:ofS (p.2.2.2.2.2.2.2.2.2.2.1) T.b.aD with
    |none=>rw[ho] at hK;exact W6 rfl (U2 (hK _ rfl))
    |some s=>rw[ho] at hK;exact X6 rfl (W.load (v:=s.on) (U2 (hK _ rfl)))
   obtain⟨r,_⟩:=r
   simp only at cQ
   refine W.cut (fun _=>X7 t b full T1::cells x8 (lS9 (A4b ((ofS (p.2.2.2.2.2.2.2.2.2.2.1) T.b.aD).map A00)).1).toArray::cells x1 (aS3 p)::old h0::U5 X1 4 (A0j p) pl::L3) (fun K hK=>?_) (fun _=>?_)
   ·clear hq
    unfold z8 at ck
    cases ho:ofS (p.2.2.2.2.2.2.2.2.2.2.1) T.b.aD with
    |none=>
     rw[ho] at ck cQ hK
     simp only at ck cQ
     subst ck cQ
     exact W6 rfl (U2 (hK ()).sub)
    |some s=>
     rw[ho] at ck cQ hK
     simp only at ck cQ
     subst cQ
     by_cases aP:s.on=true
     ·refine X6 aP ?_
      refine W4 ?_
      refine A6g (fun h R=>o5) fun fD fB q3=>?_
      refine W.load (v:=some ⟨b,0,none⟩) ?_
      refine W4 ?_
      refine W.load (v:=some q3.cm) ?_
      refine W.range fun it=>?_
      refine C67 (ek:=eKI) (ev:=eVC) (r:=q3.cm) (l:=T.b.aB.map A0h) (fun done _=>done.filter (fun x=>decide (x.2.1=s.id))=[])
       (fun done _=>[cells t #[at0 b,.bool full,.slice fD.a fD.len fD.cap,.slice fB.a fB.len fB.cap],V9 .u8 fD T.outs,U5 Z6 5 fB T.aT,cells b (A8i q3),A1t q3.tb T.b.last T.b.aD,o6 q3.sb T.b.aH,A1v q3.kb T.b.kept,
        cells x8 (lS9 (A4b ((some s).map A00)).1).toArray,cells x1 (aS3 p),old h0,U5 X1 4 (A0j p) pl]++L3) rfl ?_ (fun done s' hd ti K' hk=>?_) (fun done y rest s' hd ti K' bx hk=>?_)
      ·show Sub _ (itA eKI eVC q3.cm (T.b.aB.map A0h) it [] (T.b.aB.map A0h)::cells t #[at0 b,.bool full,.slice fD.a fD.len fD.cap,.slice fB.a fB.len fB.cap]::V9 .u8 fD T.outs::U5 Z6 5 fB T.aT::cells b (A8i q3)::A1t q3.tb T.b.last T.b.aD::o6 q3.sb T.b.aH::A1v q3.kb T.b.kept::cells x8 (lS9 (A4b ((some s).map A00)).1).toArray::cells x1 (aS3 p)::old h0::U5 X1 4 (A0j p) pl::L3)
       repeat(first|with_reducible exact T6|with_reducible exact T7|refine T8 (by repeat first|with_reducible exact V0|apply V2) ?_|refine U0 ?_)
      ·have ax:T.b.aB.find? (fun x=>decide (x.aD=s.id))=none:=E7.2 fun x hx=>by
        have hm:A0h x∈done:=hd.mem_iff.2 (B3 hx)
        have:=J4.1 ti _ hm
        simpa using this
       have e:T1=T:=by rw[ck];unfold A2V;rw[ax]
       subst e
       refine W6 rfl (U2 (hk () _ (U2 ?_)))
       show At (mapA eKI eVC q3.cm (T1.b.aB.map A0h)::cells t #[at0 b,.bool full,.slice fD.a fD.len fD.cap,.slice fB.a fB.len fB.cap]::V9 .u8 fD T1.outs::U5 Z6 5 fB T1.aT::cells b (A8i q3)::A1t q3.tb T1.b.last T1.b.aD::o6 q3.sb T1.b.aH::A1v q3.kb T1.b.kept::_::cells x1 (aS3 p)::old h0::U5 X1 4 (A0j p) pl::L3) _
       refine At.bG T1 fD fB q3 ?_
       exact(hK ()).sub
      ·show W (itA eKI eVC q3.cm (T.b.aB.map A0h) it (done++[y]) rest::cells t #[at0 b,.bool full,.slice fD.a fD.len fD.cap,.slice fB.a fB.len fB.cap]::V9 .u8 fD T.outs::U5 Z6 5 fB T.aT::cells b (A8i q3)::A1t q3.tb T.b.last T.b.aD::o6 q3.sb T.b.aH::A1v q3.kb T.b.kept::cells x8 (lS9 (A4b ((some s).map A00)).1).toArray::cells x1 (aS3 p)::old h0::U5 X1 4 (A0j p) pl::L3) _ _
       refine X6 rfl ?_
       refine W.entry (x:=y.1) (y:=y.2) ?_
       refine Y1 fun oA=>?_
       refine y8 ?_
       refine W.load (b:=oA) (v:=y.2.1) ?_
       refine W.load (b:=x8) (v:=s.id) ?_
       by_cases hy:y.2.1=s.id
       ·refine X6 (by simpa using hy) ?_
        have rz:y∈T.b.aB.map A0h:=hd.mem_iff.1 (F6 _ (B4 ..))
        obtain⟨z,hz,rfl⟩:=E4.1 rz
        have e:T1=A0v full z.c 142 T:=by rw[ck];unfold A2V;rw[B7J ag.toj8 hz hy]
        subst e
        refine B9i (A:=itA eKI eVC q3.cm (T.b.aB.map A0h) it (done++[A0h z]) rest) (B:=mapA eKI eVC q3.cm (T.b.aB.map A0h)) (fun h R hs=>A9e hs) ?_
        refine W.bG T fD fB q3 ?_
        refine Z1 (A8v (T:=T) (c:=z.c) (code:=142) ht ag.toj8 (by omega) (by omega) (At.bD ?_))
        exact U2 (hk () _ (U2 (hK ()).sub))
       ·refine W6 (by simpa using hy) ?_
        have kV:=bx () (by rw[F3,ti,G0 (by simpa using hy)];rfl)
        refine U2 (At.sub kV ?_)
        show Sub _ (itA eKI eVC q3.cm (T.b.aB.map A0h) it (done++[y]) rest::cells t #[at0 b,.bool full,.slice fD.a fD.len fD.cap,.slice fB.a fB.len fB.cap]::V9 .u8 fD T.outs::U5 Z6 5 fB T.aT::cells b (A8i q3)::A1t q3.tb T.b.last T.b.aD::o6 q3.sb T.b.aH::A1v q3.kb T.b.kept::cells x8 (lS9 (A4b ((some s).map A00)).1).toArray::cells x1 (aS3 p)::old h0::U5 X1 4 (A0j p) pl::L3)
        repeat(first|with_reducible exact T6|with_reducible exact T7|refine T8 (by repeat first|with_reducible exact V0|apply V2) ?_|refine U0 ?_)
     ·have e:T1=T:=by
       rw[ck];unfold A2V
       rw[E7.2 fun x hx=>?_]
       intro fc
       have fc:x.aD=s.id:=by simpa using fc
       exact aP (ag.dS x hx s (B1v ho).1 fc.symm)
      subst e
      exact W6 (by simpa using aP) (U2 (hK ()).sub)
   have gx:a8 (p.2.2.2.2.2.2.2.2.2.2.1)∧(ofS (p.2.2.2.2.2.2.2.2.2.2.1) T.b.aD=none→T.b.aD.length<32):=by
    rw[av] at hr
    unfold A5p at hr
    simp only at hr
    split at hr
    ·cases hr
    ·split at hr
     ·cases hr
     ·split at hr
      ·cases hr
      ·rename_i hg
       split at hr
       ·cases hr
       ·rename_i eA
        refine⟨N3 hg,fun ho=>?_⟩
        exact Nat.lt_of_not_le fun h=>eA ⟨ho,h⟩
   obtain⟨ea,gr,oL,ir,iG,jj⟩:=A8E (full:=full) (c:=p.2.2.2.2.2.2.2.2.2.2.1) ag ca gx.2
   rw[←ck] at ea gr oL ir iG jj
   refine W.load (v:=A0j p) ?_
   refine Z1 (C5H (S:=A0j p) (pl:=pl) (id:=17) fu (At.bD (x:=(prU ((A0R 17 pl).getD (0,0,e0S,e0S)),(A0R 17 pl).isSome,())) ?_))
   refine Y1 fun gy=>?_
   refine y8 ?_
   refine W4 ?_
   refine A6g (fun h R=>o5) fun sy sv q4=>?_
   refine W.load (v:=some ⟨b,0,none⟩) ?_
   refine W4 ?_
   refine W.load (v:=some ⟨q4.tb,0,none⟩) ?_
   refine W.load (v:=p.2.2.2.2.2.2.2.2.2.2.1) ?_
   refine W.load (v:=p.2.2.2.2.2.2.2.2.2.2.2.1) ?_
   refine W.load (v:=((A0R 17 pl).getD (0,0,e0S,e0S)).2.1) ?_
   rw[C0c]
   obtain⟨nZ,lk,ll,lq⟩:=B72 (B:=T1.b) (clean:=p.2.2.2.2.2.2.2.2.2.2.2.1) (aN:=u4 pl) gx.1 iG
   refine Z1 (B9y (b:=q4.tb) (last:=T1.b.last) (A:=T1.b.aD) (c:=p.2.2.2.2.2.2.2.2.2.2.1) (clean:=p.2.2.2.2.2.2.2.2.2.2.2.1) (aN:=u4 pl) ht.u8 aQ ea.cX (by have:=ea.cM;omega) (fun s hs=>(ea.dX s hs).2) ea.eB (At.bD (x:=((v7 T1.b.last T1.b.aD (p.2.2.2.2.2.2.2.2.2.2.1) (p.2.2.2.2.2.2.2.2.2.2.2.1) (u4 pl)).1.2.1,(v7 T1.b.last T1.b.aD (p.2.2.2.2.2.2.2.2.2.2.1) (p.2.2.2.2.2.2.2.2.2.2.2.1) (u4 pl)).1.2.2,(v7 T1.b.last T1.b.aD (p.2.2.2.2.2.2.2.2.2.2.1) (p.2.2.2.2.2.2.2.2.2.2.2.1) (u4 pl)).1.1,())) ?_))
   have qh:A1o c T1.b.aB=none:=E7.2 fun y hy=>by
    have:=E7.1 im y (ir y hy).1
    exact this
   obtain⟨cz,s5,ai,gu⟩:=B14 (B:=T1.b) (o:=ofS (p.2.2.2.2.2.2.2.2.2.2.1) T.b.aD) (aC:=p.2.2.2.2.2.2.2.2.2.2.1) (clean:=p.2.2.2.2.2.2.2.2.2.2.2.1) (aN:=u4 pl) (x:=⟨c,(b9 (p.2.2.2.2.2.2.2.2.2.2.1) (p.2.2.2.2.2.2.2.2.2.2.2.1) (u4 pl) T1.b).1.1,p.2.2.2.2.2.2.2.2.2.2.2.2.2.1,(p.2.2.2.2.2.2.2.2.2.2.2.2.2.2.1,p.2.2.2.2.2.2.2.2.2.2.2.2.2.2.2.1,p.2.2.2.2.2.2.2.2.2.2.2.2.2.2.2.2.1,p.2.2.2.2.2.2.2.2.2.2.2.2.2.2.2.2.2.1,e0S)⟩) ea jj (fun y hy s hs=>(ir y hy).2 s hs) iG rfl ⟨uJ,bu⟩
   rw[A3R] at hq
   dsimp only at hq
   rw[←ck,lk,ll,lq] at hq
   clear ck hr av cQ ir iG jj gx lk ll lq im
   generalize b9 (p.2.2.2.2.2.2.2.2.2.2.1) (p.2.2.2.2.2.2.2.2.2.2.2.1) (u4 pl) T1.b=r at hq nZ cz ai gu⊢
   rw[nZ]
   clear nZ
   dsimp only
   refine A02 (fun a=>a.1=match ofS (p.2.2.2.2.2.2.2.2.2.2.1) T.b.aD with|some s=>decide (s.id≠r.1.1)|none=>false) (fun K hK=>?_) (fun a ha=>?_)
   ·cases ho:ofS (p.2.2.2.2.2.2.2.2.2.2.1) T.b.aD with
    |none=>rw[ho] at hK;exact W6 rfl (U2 (hK _ rfl))
    |some s=>
     rw[ho] at hK
     refine X6 rfl (W.load (v:=s.id) (U2 (hK _ ?_)))
     by_cases e:s.id=r.1.1
     ·simp[e]
     ·have e2:r.1.1≠s.id:=fun e'=>e e'.symm
      simp[e,e2]
   obtain⟨a,_⟩:=a
   simp only at ha
   refine W.cut (fun _=>X7 t b full (tB ⟨r.2.last,r.2.aD,A1S (ofS (p.2.2.2.2.2.2.2.2.2.2.1) T.b.aD) r.1.1 T1.b.aH,T1.b.kept,T1.b.aB⟩ T1)::cells x1 (aS3 p)::old h0::U5 X1 4 (A0j p) pl::L3) (fun K hK=>?_) (fun _=>?_)
   ·clear hq cz
    cases ho:ofS (p.2.2.2.2.2.2.2.2.2.2.1) T.b.aD with
    |none=>
     rw[ho] at ha hK
     have e2:A1S none r.1.1 T1.b.aH=T1.b.aH:=rfl
     rw[e2] at hK
     refine W6 ha (U2 ?_)
     refine At.bG (tB ⟨r.2.last,r.2.aD,T1.b.aH,T1.b.kept,T1.b.aB⟩ T1) sy sv q4 ?_
     exact(hK ()).sub
    |some s=>
     rw[ho] at ha hK
     by_cases e:s.id=r.1.1
     ·have e2:A1S (some s) r.1.1 T1.b.aH=T1.b.aH:=by unfold A1S;simp[e]
      rw[e2] at hK
      refine W6 (by rw[ha];simp[e]) (U2 ?_)
      refine At.bG (tB ⟨r.2.last,r.2.aD,T1.b.aH,T1.b.kept,T1.b.aB⟩ T1) sy sv q4 ?_
      exact(hK ()).sub
     ·have e2:A1S (some s) r.1.1 T1.b.aH=A1h s.id T1.b.aH:=by unfold A1S;simp[e]
      rw[e2] at hK
      refine X6 (by rw[ha];simp[e]) ?_
      refine W4 ?_
      refine W.load (v:=some ⟨b,0,none⟩) ?_
      refine W4 ?_
      refine W.load ?_
      refine W.load (v:=s.id) ?_
      refine j1 (B9o (t:=q4.sb) (E:=T1.b.aH) (id:=s.id) ht ea.aH (At.un (U2 ?_)))
      refine At.bG (tB ⟨r.2.last,r.2.aD,A1h s.id T1.b.aH,T1.b.kept,T1.b.aB⟩ T1) sy sv q4 ?_
      exact(hK ()).sub
   clear ha
   generalize A1S (ofS (p.2.2.2.2.2.2.2.2.2.2.1) T.b.aD) r.1.1 T1.b.aH=E5 at hq cz⊢
   refine W4 ?_
   refine A6g (fun h R=>o5) fun wA wv q5=>?_
   refine W.load (v:=some ⟨b,0,none⟩) ?_
   refine W4 ?_
   refine W.load (v:=some q5.cm) ?_
   refine W.load (v:=p.2.2.2.2.2.2.2.2.2.2.2.2.2.1) ?_
   refine e8 (b:=x1) (i:=14) (v:=p.2.2.2.2.2.2.2.2.2.2.2.2.2.2.1) ?_
   refine e8 (b:=x1) (i:=15) (v:=p.2.2.2.2.2.2.2.2.2.2.2.2.2.2.2.1) ?_
   refine e8 (b:=x1) (i:=16) (v:=p.2.2.2.2.2.2.2.2.2.2.2.2.2.2.2.2.1) ?_
   refine e8 (b:=x1) (i:=17) (v:=p.2.2.2.2.2.2.2.2.2.2.2.2.2.2.2.2.2.1) ?_
   refine W.mset (ek:=eKI) (ev:=eVC) (l:=T1.b.aB.map A0h) kKI (fun a b h=>by cases h;rfl) c (B71 ⟨c,r.1.1,p.2.2.2.2.2.2.2.2.2.2.2.2.2.1,(p.2.2.2.2.2.2.2.2.2.2.2.2.2.2.1,p.2.2.2.2.2.2.2.2.2.2.2.2.2.2.2.1,p.2.2.2.2.2.2.2.2.2.2.2.2.2.2.2.2.1,p.2.2.2.2.2.2.2.2.2.2.2.2.2.2.2.2.2.1,e0S)⟩) ?_
   rw[A2R _ _ _ (by rw[A3N,qh];rfl),show T1.b.aB.map A0h++[(c,B71 (⟨c,r.1.1,p.2.2.2.2.2.2.2.2.2.2.2.2.2.1,(p.2.2.2.2.2.2.2.2.2.2.2.2.2.2.1,p.2.2.2.2.2.2.2.2.2.2.2.2.2.2.2.1,p.2.2.2.2.2.2.2.2.2.2.2.2.2.2.2.2.1,p.2.2.2.2.2.2.2.2.2.2.2.2.2.2.2.2.2.1,e0S)⟩:X2))]=(T1.b.aB++[(⟨c,r.1.1,p.2.2.2.2.2.2.2.2.2.2.2.2.2.1,(p.2.2.2.2.2.2.2.2.2.2.2.2.2.2.1,p.2.2.2.2.2.2.2.2.2.2.2.2.2.2.2.1,p.2.2.2.2.2.2.2.2.2.2.2.2.2.2.2.2.1,p.2.2.2.2.2.2.2.2.2.2.2.2.2.2.2.2.2.1,e0S)⟩:X2)]).map A0h from by rw[C0];rfl]
   generalize T1.b.aB++[(⟨c,r.1.1,p.2.2.2.2.2.2.2.2.2.2.2.2.2.1,(p.2.2.2.2.2.2.2.2.2.2.2.2.2.2.1,p.2.2.2.2.2.2.2.2.2.2.2.2.2.2.2.1,p.2.2.2.2.2.2.2.2.2.2.2.2.2.2.2.2.1,p.2.2.2.2.2.2.2.2.2.2.2.2.2.2.2.2.2.1,e0S)⟩:X2)]=C5 at hq cz⊢
   refine W.bG (tB ⟨r.2.last,r.2.aD,E5,T1.b.kept,C5⟩ T1) wA wv q5 ?_
   refine B66 (k:=.u8) (A1T r.1.2) rfl rfl ?_
   refine Z1 (B8n (T:=tB ⟨r.2.last,r.2.aD,E5,T1.b.kept,C5⟩ T1) (c:=c) (o:=A1T r.1.2) (ci:=⟨none,0,0⟩) (pi:=⟨none,0,0⟩) (by show T1.outs.length≤_;omega) (At.bD ?_))
   have qV:A0s ⟨c,A1T r.1.2,false⟩ (tB ⟨r.2.last,r.2.aD,E5,T1.b.kept,C5⟩ T1)=(⟨⟨r.2.last,r.2.aD,E5,T1.b.kept,C5⟩,T1.outs++[⟨c,A1T r.1.2,false⟩],T1.aT⟩:U7):=rfl
   rw[qV] at hq
   show W (X7 t b full ⟨⟨r.2.last,r.2.aD,E5,T1.b.kept,C5⟩,T1.outs++[⟨c,A1T r.1.2,false⟩],T1.aT⟩::_) _ _
   have hO:(T1.outs++[(⟨c,A1T r.1.2,false⟩:l4)]).length≤13300002:=by rw[B5];simp only[B8,H2];omega
   generalize T1.outs++[(⟨c,A1T r.1.2,false⟩:l4)]=O5 at hq hO⊢
   clear qV
   unfold A0F at hq
   simp only[A3p cz.nd ai gu] at hq
   refine W.load (v:=A0j p) ?_
   refine Z1 (C5H (S:=A0j p) (pl:=pl) (id:=33) fu (At.bD (x:=(prU ((A0R 33 pl).getD (0,0,e0S,e0S)),(A0R 33 pl).isSome,())) ?_))
   refine Y1 fun lx=>?_
   refine y8 ?_
   refine C8u (X:=p9) (fun z _=>z.2.1=A1P pl) (fun z _=>X7 t b full ⟨⟨r.2.last,r.2.aD,E5,T1.b.kept,C5⟩,O5,T1.aT⟩::cells lx (X1 z).toArray::old h0::L3) (fun K hK=>?_) (fun z _ hz=>?_)
   ·unfold A1P at hK
    clear hq
    cases hf:A0R 33 pl with
    |none=>
     rw[hf] at hK
     refine X6 rfl ?_
     refine W.store (cs':=(X1 (0,64,e0S,e0S)).toArray) ?_
     exact U2 (hK (0,64,e0S,e0S) _ rfl).sub
    |some z=>
     rw[hf] at hK
     refine W6 rfl ?_
     refine W.cells (b:=lx) (X1 z).toArray ?_
     exact U2 (hK z _ rfl).sub
   obtain⟨z1,z2,z3,z4⟩:=z
   simp only at hz
   subst hz
   refine W4 ?_
   refine A6g (fun h R=>o5) fun wz wu q6=>?_
   refine W.load (v:=some ⟨b,0,none⟩) ?_
   refine W4 ?_
   refine W.load (v:=some ⟨q6.tb,0,none⟩) ?_
   refine W.load (v:=A1P pl) ?_
   refine A8Y (fun h R=>A6o ai h R) fun ob ib=>?_
   refine j1 (B3e gu (At.un ?_))
   refine W.load (v:=A1P pl) ?_
   refine A1p ?_ rfl
   have di:=B29 (cz.bO s5 ai) (A1P pl)
   refine j1 (C5f (b:=ob) (o:=s5.out) (most:=A1P pl) (cz.bO s5 ai) (fun S2=>At.un (x:=S2) ?_))
   refine B19 (A:=A1t q6.tb r.2.last (X9 r.1.1 (Y6 (A0k s5.out (A1P pl)).1) r.2.aD)) (fun h hs=>A6n cz.nd ai gu h hs) ?_
   refine W.bG (A0y (X9 r.1.1 (Y6 (A0k s5.out (A1P pl)).1) r.2.aD) ⟨⟨r.2.last,r.2.aD,E5,T1.b.kept,C5⟩,O5,T1.aT⟩) wz wu q6 ?_
   refine Z1 (A3H (T:=A0y (X9 r.1.1 (Y6 (A0k s5.out (A1P pl)).1) r.2.aD) ⟨⟨r.2.last,r.2.aD,E5,T1.b.kept,C5⟩,O5,T1.aT⟩) (id:=r.1.1) (ps:=(A0k s5.out (A1P pl)).2) (cz.one r.1.1) (by have:=di.2;show O5.length+_≤_;omega) (At.bD ?_))
   exact U2 hq.sub
  ·refine X6 (by simp[av]) ?_
   rw[if_pos (by rw[←hr];exact av),←hr] at hq
   refine B66 (k:=.u8) (j3 2 0 code) rfl rfl ?_
   refine Z1 (B9f (T:=T) (c:=c) (o:=j3 2 0 code) (ci:=⟨none,0,0⟩) (pi:=⟨none,0,0⟩) (by omega) (At.bD ?_))
   exact U2 hq.sub
end
section
open Go.H Go.Proofs
structure Step(T T':U7)(n m:Nat):Prop where
 ok:X4 T'.b n
 outs:T'.outs.length≤T.outs.length+m
 aT:T'.aT.length≤T.aT.length+m
theorem Step.trans{T T' T'':U7}{n n' m m':Nat}(h:Step T T' n m)(h':Step T' T'' n' m'):Step T T'' n' (m+m'):=⟨h'.ok,by have:=h.outs;have:=h'.outs;omega,by have:=h.aT;have:=h'.aT;omega⟩
theorem Step.mono{T T':U7}{n m m':Nat}(h:Step T T' n m)(hm:m≤m'):Step T T' n m':=⟨h.ok,by have:=h.outs;omega,by have:=h.aT;omega⟩
theorem Step.refl{T:U7}{n:Nat}(h:X4 T.b n):Step T T n 0:=⟨h,D9 _,D9 _⟩
theorem A0B.step{T T':U7}{n m:Nat}(h:X4 T.b n)(hb:A0B T T' m)(hk:T'.b.aD.map A2p=T.b.aD.map A2p):Step T T' n m:=⟨h.sub hb.ok hb.last (by rw[hk];exact G4 _) (by rw[hb.aH];exact G4 _),hb.outs,hb.aT⟩
theorem X4.mono{B:Z0}{n n':Nat}(h:X4 B n)(hn:n≤n'):X4 B n':={h with cM:=by have:=h.cM;omega}
theorem step_end{full:Bool}{c:Int}{w:Bool}{T:U7}{n:Nat}(h:X4 T.b n):Step T (A3S full c w T) n 3200000:=
 let r:=B83 (full:=full) (c:=c) (w:=w) h.toj8
 ⟨h.sub r.1 r.2.2.2.2 B5X B2Z,r.2.1,r.2.2.1⟩
theorem A5t{full:Bool}{c code:Int}{T:U7}{n:Nat}(h:X4 T.b n):Step T (A0v full c code T) n 3200001:=
 let r:=B0i (full:=full) (c:=c) (code:=code) h.toj8
 ⟨h.sub r.1 r.2.2.2.2 (B5X (T:=A0s ⟨c,j3 14 0 code,true⟩ T)) (B2Z (T:=A0s ⟨c,j3 14 0 code,true⟩ T)),r.2.1,r.2.2.1⟩
theorem A6p{o:l4}{T:U7}{n:Nat}(h:X4 T.b n):Step T (A0s o T) n 1:=⟨h,by show(T.outs++[o]).length≤_;rw[B5];exact D9 _,K8 _ _⟩
theorem B8c{id:Int}{ps:List PkO}{T:U7}{n m:Nat}(h:X4 T.b n)(hm:ps.length≤m):Step T (p6 id ps T) n m:=⟨h,by show(T.outs++A1H T.b.aB id ps).length≤_;rw[B5];have:=A82 ps (h.one id);omega,K8 _ _⟩
theorem C3p{m:MsT}{T:U7}{n:Nat}(h:X4 T.b n):Step T (A0t m T) n 3200000:=(B5L (m:=m) h.toj8).step h B2U
theorem B8d{m:MsT}{T:U7}{n:Nat}(h:X4 T.b n):Step T (A3f m T) n 3200000:=(A8w (m:=m) h.toj8).step h B2U
theorem C4M{k:Int}{i:s6}{T:U7}{n:Nat}(h:X4 T.b n):Step T (A0y (X9 k (j2 i) T.b.aD) T) n 0:=
 ⟨h.sub h.toj8.fF rfl (by
  show((X9 k (j2 i) T.b.aD).map A2p).Sublist _
  rw[B0V (f:=j2 i) fun _=>rfl];exact G4 _) (G4 _),D9 _,D9 _⟩
theorem B9u{id:Int}{f:Z5→Z5×List PkO}{T:U7}{n:Nat}(h:X4 T.b n)(hf:∀o,X0 o→X0 (f o).1∧(f o).2.length≤320):Step T (A0F id f T) n 320:=(B5n (id:=id) h.toj8 hf).step h B2G
theorem step_take{full:Bool}{x:X2}{p:PkI}{T:U7}{n:Nat}(h:X4 T.b n):Step T (A5s full x p T) n 3200002:=by
 unfold A5s
 split
 ·exact(A5t h).mono (by omega)
 ·split
  ·exact(Step.refl h).mono (by omega)
  ·rename_i s hs
   simp only
   generalize l8 s.aZ p.kind p.eM p.id (if full=true then 151 else 0)=r
   have h1:=C4M (k:=x.aD) (i:=⟨s.aZ.most,s.aZ.taken,r.2.2.2⟩) h
   split
   ·exact Step.mono (m':=3200002) (h1.trans (A5t h1.ok)) (by omega)
   ·have kl:(A3w r.2.1 p.id).length≤1:=by unfold A3w;split<;>simp
    have h2:=h1.trans (B8c (id:=x.aD) (ps:=A3w r.2.1 p.id) h1.ok kl)
    split
    ·exact Step.mono (m':=3200002) (h2.trans (B8d h2.ok)) (by omega)
    ·exact Step.mono (m':=3200002) h2 (by omega)
theorem B9v{full:Bool}{x:X2}{p:PkI}{T:U7}{n:Nat}(h:X4 T.b n):Step T (A2B full x p T) n 3200002:=by
 unfold A2B
 split
 ·exact(Step.refl h).mono (by omega)
 ·split
  ·exact(A5t h).mono (by omega)
  ·exact(B9u h fun o ho=>⟨(B4G ho _ _ _).1,by have:=(B4G ho p.kind p.id p.code).2;omega⟩).mono (by omega)
theorem C58{E:List Ent}{id q:Int}{f:B3O}(h:∀i,A08 E i≤64)(i:Int):A08 (A2J E id f q).2 i≤64:=by
 unfold A2J
 split
 ·exact h i
 ·split
  ·exact h i
  ·split
   ·rename_i j hj
    have qq:=J5.1 hj
    obtain⟨ah,hp,_⟩:=qq
    have hk:b7 E[j]=(id,f):=by simpa using hp
    have ea:E[j].1=id:=congrArg Prod.fst hk
    have e:(E.set j (id,f,q)).map (·.1)=E.map (·.1):=by
     rw[List.map_set]
     refine List.ext_getElem? fun k=>?_
     rw[List.getElem?_set]
     split
     ·rename_i xl
      subst xl
      rw[if_pos (by simpa using ah),J2,B0 ah,R8,ea]
     ·rfl
    unfold A08
    simp only[e]
    exact h i
   ·split
    ·exact h i
    ·rename_i ah
     have hp:=((A1M ltK b7 (id,f,q) E).map (·.1)).count_eq i
     unfold A08 at h ah⊢
     rw[hp,B6,List.count_cons]
     by_cases e:id=i
     ·subst e
      simp only[beq_self_eq_true,if_true]
      omega
     ·rw[if_neg (by simpa using e)]
      exact h i
theorem B6E{id:Int}:∀(l:List A0A) {E:List Ent},(∀i,A08 E i≤64)→∀i,A08 (j6 id l E).1 i≤64
 |[],_,h=>h
 |s::l,E,h=>B6E (id:=id) l (fun i=>C58 h i)
theorem B6o{id:Int}:∀(l:List B3O) {E:List Ent},(A0H id l E).1.Sublist E
 |[],_=>G4 _
 |f::l,E=>(B6o (id:=id) l (E:=A1L E id f)).trans I2
theorem B4O{x:X2}{p:PkI}{T:U7}{n:Nat}(h:X4 T.b n)(hx:x∈T.b.aB)(hk:T.b.kept.length≤64)(hl:p.aH.length≤100):Step T (A0W x p T) n 3000000:=by
 have vS:=h.s2k
 have kl:=B0I (id:=x.aD) p.aH (E:=T.b.aH)
 have hH:j8 (B30 (j6 x.aD p.aH T.b.aH).1 T.b):=h.toj8.fK (by have:=kl.1;omega) fun e he=>by
  rcases kl.2.1 e he with h1|h1
  ·exact .inl h1
  ·obtain⟨s,hs,hi⟩:=h.cl x hx
   exact .inr ⟨s,hs,hi.trans h1.symm⟩
 have h1:X4 (B30 (j6 x.aD p.aH T.b.aH).1 T.b) n:={hH with cX:=h.cX,cM:=h.cM,dX:=h.dX,dE:=h.dE,eB:=h.eB,n32:=h.n32,eT:=B6E p.aH h.eT}
 have h3:Step T (A09 (j6 x.aD p.aH T.b.aH).1 T) n 0:=⟨h1,D9 _,D9 _⟩
 have h4:=h3.trans (A6p (o:=⟨x.c,A0S 9 p.id (j6 x.aD p.aH T.b.aH).2,false⟩) h3.ok)
 have h5:=B5O (id:=x.aD) (added x.aD p.aH T.b.aH) (T:=A0s ⟨x.c,A0S 9 p.id (j6 x.aD p.aH T.b.aH).2,false⟩ (A09 (j6 x.aD p.aH T.b.aH).1 T)) hk hH
 have h6:=h5.step h4.ok (B1Q (g:=i7 x.aD) (fun T s=>C0b T s) _)
 refine(h4.trans h6).mono ?_
 have:=kl.2.2.2
 omega
theorem B2f{x:X2}{p:PkI}{T:U7}{n:Nat}(h:X4 T.b n):Step T (A1e x p T) n 1:=by
 have hs:=B6o (id:=x.aD) p.bH (E:=T.b.aH)
 have hH:j8 (B30 (A0H x.aD p.bH T.b.aH).1 T.b):=h.toj8.fK (C4 hs.length_le h.aH) fun e he=>.inl (hs.subset he)
 have h3:Step T (A09 (A0H x.aD p.bH T.b.aH).1 T) n 0:=⟨h.sub hH rfl (G4 _) hs,D9 _,D9 _⟩
 exact(h3.trans (A6p h3.ok)).mono (by omega)
theorem C4L{full:Bool}{x:X2}{p:PkI}{T:U7}{n:Nat}(h:X4 T.b n)(hx:x∈T.b.aB)(hk:T.b.kept.length≤64)(hl:p.aH.length≤100):Step T (A8A full x p T) n 3300000:=by
 unfold A8A
 split
 ·exact(step_take h).mono (by omega)
 ·split
  ·exact(B9v h).mono (by omega)
  ·split
   ·exact(B4O h hx hk hl).mono (by omega)
   ·split
    ·exact(B2f h).mono (by omega)
    ·split
     ·exact(A6p h).mono (by omega)
     ·split
      ·exact(step_end h).mono (by omega)
      ·exact(A5t h).mono (by omega)
theorem A8V{aC:B3O}{clean aN:Bool}{B:Z0}:(b9 aC clean aN B).2.aH=B.aH∧(b9 aC clean aN B).2.kept=B.kept∧(b9 aC clean aN B).2.aB=B.aB:=by
 unfold b9
 split
 ·split<;>exact⟨rfl,rfl,rfl⟩
 ·exact⟨rfl,rfl,rfl⟩
theorem B3a{p:PkI}{B:Z0}(h:A5p p B=0):a8 p.aC∧(ofS p.aC B.aD=none→B.aD.length<32):=by
 unfold A5p at h
 split at h
 ·cases h
 ·split at h
  ·cases h
  ·split at h
   ·cases h
   ·rename_i hg
    split at h
    ·cases h
    ·rename_i eA
     exact⟨N3 hg,fun ho=>Nat.lt_of_not_le fun h=>eA ⟨ho,h⟩⟩
theorem B8e{full:Bool}{c:Int}{p:PkI}{T:U7}{n:Nat}(h:X4 T.b n)(ca:(T.b.aB.map (·.c)).Nodup)(hw:p.aX.1.size≤9223372036854775807)(bu: -9223372036854775808≤c∧c≤9223372036854775807):Step T (A1j full c p T) (n+1) 3300000:=by
 unfold A1j
 by_cases hb:A5p p T.b=0
 ·rw[if_neg (by simpa using hb),A3R]
  have gx:=B3a hb
  obtain⟨ea,gr,oL,ir,iG,jj⟩:=A8E (full:=full) (c:=p.aC) h ca gx.2
  generalize z8 full p.aC T=T1 at*
  obtain⟨lk,ll,lq⟩:=A8V (B:=T1.b) (aC:=p.aC) (clean:=p.clean) (aN:=u4 p.props)
  obtain⟨cz,_⟩:=B14 (B:=T1.b) (o:=ofS p.aC T.b.aD) (aC:=p.aC) (clean:=p.clean) (aN:=u4 p.props) (x:=⟨c,(b9 p.aC p.clean (u4 p.props) T1.b).1.1,p.bE,(p.aX.1,p.aX.2.1,p.aX.2.2.1,p.aX.2.2.2.1,e0S)⟩) ea jj (fun y hy s hs=>(ir y hy).2 s hs) iG rfl ⟨hw,bu⟩
  rw[lk,ll,lq]
  have h1:Step T (tB ⟨(b9 p.aC p.clean (u4 p.props) T1.b).2.last,(b9 p.aC p.clean (u4 p.props) T1.b).2.aD,A1S (ofS p.aC T.b.aD) (b9 p.aC p.clean (u4 p.props) T1.b).1.1 T1.b.aH,T1.b.kept,T1.b.aB++[⟨c,(b9 p.aC p.clean (u4 p.props) T1.b).1.1,p.bE,(p.aX.1,p.aX.2.1,p.aX.2.2.1,p.aX.2.2.2.1,e0S)⟩]⟩ T1) (n+1) 3200001:=⟨cz,gr,oL⟩
  have h2:=h1.trans (A6p (o:=⟨c,A1T (b9 p.aC p.clean (u4 p.props) T1.b).1.2,false⟩) h1.ok)
  exact(h2.trans (B9u h2.ok fun o ho=>B29 ho _)).mono (by omega)
 ·rw[if_pos (by simpa using hb)]
  exact(A6p (h.mono (S0 n))).mono (by omega)
theorem A3J{full:Bool}{c:Int}{p:PkI}{B:Z0}{n:Nat}(h:X4 B n)(ca:(B.aB.map (·.c)).Nodup)(hk:B.kept.length≤64)(hl:p.aH.length≤100)(hw:p.aX.1.size≤9223372036854775807)(bu: -9223372036854775808≤c∧c≤9223372036854775807):
  X4 (b8 full c p B).b (n+1)∧(b8 full c p B).outs.length≤3300000∧(b8 full c p B).aT.length≤3300000:=by
 have key:∀{T':U7},Step ⟨B,[],[]⟩ T' (n+1) 3300000→X4 T'.b (n+1)∧T'.outs.length≤3300000∧T'.aT.length≤3300000:=fun{T'} hs=>⟨hs.ok,by have:=hs.outs;simpa using this,by have:=hs.aT;simpa using this⟩
 unfold b8
 split
 ·rename_i x hx
  have:=C4L (full:=full) (x:=x) (p:=p) (T:=⟨B,[],[]⟩) h (A1x hx).1 hk hl
  exact key ⟨this.ok.mono (S0 n),this.outs,this.aT⟩
 ·split
  ·exact key (B8e (T:=⟨B,[],[]⟩) h ca hw bu)
  ·exact⟨h.mono (S0 n),by simp,by simp⟩
theorem B5y{full:Bool}{c:Int}{B:Z0}{n:Nat}(h:X4 B n):X4 (A70 full c B).b n∧(A70 full c B).outs.length≤3300000∧(A70 full c B).aT.length≤3300000:=
 let r:=step_end (full:=full) (c:=c) (w:=true) (T:=⟨B,[],[]⟩) h
 ⟨r.ok,C4 r.outs (by simp),C4 r.aT (by simp)⟩
theorem A8T{m:MsT}{B:Z0}{n:Nat}(h:X4 B n):X4 (A1i m B).b n∧(A1i m B).outs.length≤3300000∧(A1i m B).aT.length≤3300000:=
 let r:=C3p (m:=m) (T:=⟨B,[],[]⟩) h
 ⟨r.ok,C4 r.outs (by simp),C4 r.aT (by simp)⟩
theorem X4.new:X4 ⟨0,[],[],[],[]⟩ 0 where
 aH:=by simp
 bO:=by simp
 live:=by simp
 one:=by simp
 nd:=by simp
 cl:=by simp
 dS:=by simp
 wl:=by simp
 cX:=by simp
 cM:=by simp
 dX:=by simp
 dE:=by simp
 eB:=by simp
 n32:=by simp
 eT:=by simp[A08]
def A5k(b:Z0)(c:Int):Z0:=match A1o c b.aB with
 |none=>b
 |some x=>A58 x.aD (A6f (b.aB.filter fun y=>decide (y.c≠c)) b)
theorem A8u{b:Z0}:A1V b=(b.aB.map (·.c)).foldl A5k b:=rfl
theorem C11{full:Bool}{c:Int}{T:U7}:A3S full c false T=tB (A5k T.b c) T:=by
 unfold A3S A5k
 cases A1o c T.b.aB with
 |none=>rfl
 |some x=>simp
theorem B82{B:Z0}{n:Nat}{c:Int}(h:X4 B n):X4 (A5k B c) n:=by
 have:=(step_end (full:=true) (c:=c) (w:=false) (T:=⟨B,[],[]⟩) h).ok
 rw[C11] at this
 exact this
def A3n(k:Int)(s:V7):Bool:=decide (s.id=k)&&s.on&& !s.aN
def A3l(k:Int)(s:V7):Option V7:=if s.id=k∧s.on=true then(if s.aN=true then some (A8e s) else none) else some s
def B3S(b:Z0)(c:Int):Z0:=match A1o c b.aB with
 |none=>b
 |some x=>⟨b.last,b.aD.filterMap (A3l x.aD),b.aH.filter (fun e=> !(decide (e.1=x.aD)&&b.aD.any (A3n x.aD))),b.kept,b.aB.filter fun y=>decide (y.c≠c)⟩
theorem C8i{k:Int}{B:Z0}(hn:(B.aD.map (·.id)).Nodup):A58 k B=⟨B.last,B.aD.filterMap (A3l k),B.aH.filter (fun e=> !(decide (e.1=k)&&B.aD.any (A3n k))),B.kept,B.aB⟩:=by
 have fm:∀{A:List V7},(∀s∈A,A3l k s=some s)→A.filterMap (A3l k)=A:=fun{A} hA=>by
  induction A with
  |nil=>rfl
  |cons s A ih=>rw[P0 (hA s (B4 ..)),ih fun t ht=>hA t (C3 _ ht)]
 have jE:B.aD.any (A3n k)=false→B.aH.filter (fun e=> !(decide (e.1=k)&&B.aD.any (A3n k)))=B.aH:=fun e=>by rw[e];simp
 unfold A58
 cases hg:A46 k B.aD with
 |none=>
  have ax:∀s∈B.aD,s.id≠k:=fun s hs=>by simpa using E7.1 hg s hs
  have e1:B.aD.any (A3n k)=false:=List.any_eq_false.2 fun s hs=>by simp[A3n,ax s hs]
  rw[fm fun s hs=>if_neg fun e=>ax s hs e.1,jE e1]
 |some s=>
  obtain⟨hm,hid⟩:=C0l hg
  have gG:∀t∈B.aD,t.id=k→t=s:=fun t ht e=>B1y (f:=(·.id)) hn ht hm (e.trans hid.symm)
  simp only
  by_cases aP:s.on=false
  ·rw[if_pos aP]
   have e1:B.aD.any (A3n k)=false:=List.any_eq_false.2 fun t ht=>by
    by_cases e:t.id=k
    ·rw[gG t ht e];simp[A3n,aP]
    ·simp[A3n,e]
   have e2:∀t∈B.aD,A3l k t=some t:=fun t ht=>if_neg fun e=>by
    have:=gG t ht e.1
    subst this
    rw[aP] at e
    cases e.2
   rw[fm e2,jE e1]
  ·rw[if_neg aP]
   have cZ:s.on=true:=by cases hh:s.on with|true=>rfl|false=>exact absurd hh aP
   by_cases iT:s.aN=true
   ·rw[if_pos iT]
    have e1:B.aD.any (A3n k)=false:=List.any_eq_false.2 fun t ht=>by
     by_cases e:t.id=k
     ·rw[gG t ht e];simp[A3n,iT]
     ·simp[A3n,e]
    rw[jE e1]
    have e2:∀{A:List V7},(∀t∈A,t∈B.aD)→X9 k A8e A=A.filterMap (A3l k):=fun{A} hA=>by
     induction A with
     |nil=>rfl
     |cons t A ih=>
      have ht:=hA t (B4 ..)
      have ih:=ih fun t ht=>hA t (C3 _ ht)
      unfold X9 at ih⊢
      rw[B6]
      by_cases e:t.id=k
      ·have:=gG t ht e
       subst this
       rw[if_pos e,P0 (b:=A8e t) (by unfold A3l;rw[if_pos ⟨e,cZ⟩,if_pos iT]),ih]
      ·rw[if_neg e,P0 (b:=t) (by unfold A3l;rw[if_neg fun h=>e h.1]),ih]
    rw[e2 fun t ht=>ht]
   ·rw[if_neg iT]
    have nP:s.aN=false:=by cases hh:s.aN with|false=>rfl|true=>exact absurd hh iT
    have e1:B.aD.any (A3n k)=true:=List.any_eq_true.2 ⟨s,hm,by simp[A3n,hid,cZ,nP]⟩
    have e2:∀{A:List V7},(∀t∈A,t∈B.aD)→A.filter (fun x=>decide (x.id≠k))=A.filterMap (A3l k):=fun{A} hA=>by
     induction A with
     |nil=>rfl
     |cons t A ih=>
      have ht:=hA t (B4 ..)
      have ih:=ih fun t ht=>hA t (C3 _ ht)
      by_cases e:t.id=k
      ·have:=gG t ht e
       subst this
       rw[G0 (by simpa using e),List.filterMap_cons_none (by unfold A3l;rw[if_pos ⟨e,cZ⟩,if_neg iT]),ih]
      ·rw[G8 (by simpa using e),P0 (b:=t) (by unfold A3l;rw[if_neg fun h=>e h.1]),ih]
    rw[e2 fun t ht=>ht,e1]
    simp only[Bool.and_true]
theorem C6Y{B:Z0}{c:Int}(h:j8 B):A5k B c=B3S B c:=by
 unfold A5k B3S
 cases A1o c B.aB with
 |none=>rfl
 |some x=>simp only;rw[C8i (B:=A6f (B.aB.filter fun y=>decide (y.c≠c)) B) h.nd]
theorem A8K{c d:Int}{l:List X2}(h:c≠d):A1o c (l.filter fun y=>decide (y.c≠d))=A1o c l:=by
 unfold A1o
 rw[List.find?_filter]
 congr 1
 funext x
 by_cases e:x.c=c
 ·simp[e,h]
 ·simp[e]
theorem B8C{k:Int}{s t:V7}(h:A3l k s=some t):t.id=s.id:=by
 unfold A3l at h
 split at h
 ·split at h
  ·cases h;rfl
  ·cases h
 ·cases h;rfl
theorem C3K{i j:Int}(h:i≠j)(s:V7):(A3l i s).bind (A3l j)=(A3l j s).bind (A3l i):=by
 by_cases hi:s.id=i
 ·have hj:s.id≠j:=fun e=>h (hi.symm.trans e)
  have e1:A3l j s=some s:=if_neg fun e=>hj e.1
  rw[e1,N9]
  cases ho:A3l i s with
  |none=>rfl
  |some t=>rw[N9];exact if_neg fun e=>hj ((B8C ho).symm.trans e.1)
 ·have e1:A3l i s=some s:=if_neg fun e=>hi e.1
  rw[e1,N9]
  cases ho:A3l j s with
  |none=>rfl
  |some t=>rw[N9];exact(if_neg fun e=>hi ((B8C ho).symm.trans e.1)).symm
theorem C0j{i j:Int}(h:i≠j)(A:List V7):(A.filterMap (A3l i)).any (A3n j)=A.any (A3n j):=by
 induction A with
 |nil=>rfl
 |cons s A ih=>
  rw[List.any_cons]
  cases ho:A3l i s with
  |none=>
   rw[List.filterMap_cons_none ho,ih]
   have hi:s.id=i:=by
    unfold A3l at ho
    split at ho
    ·rename_i hh;exact hh.1
    ·cases ho
   have:A3n j s=false:=by unfold A3n;rw[hi];simp[h]
   rw[this,S3]
  |some t=>
   rw[P0 ho,List.any_cons,ih]
   have hid:=B8C ho
   congr 1
   by_cases hi:s.id=i
   ·unfold A3n;rw[hid,hi];simp[h]
   ·have e1:A3l i s=some s:=if_neg fun e=>hi e.1
    rw[e1] at ho
    cases ho;rfl
theorem C10(b:Z0)(c d:Int):B3S (B3S b c) d=B3S (B3S b d) c:=by
 by_cases oT:c=d
 ·subst oT;rfl
 ·unfold B3S
  cases hc:A1o c b.aB with
  |none=>
   simp only
   cases hd:A1o d b.aB with
   |none=>simp only[hc,hd]
   |some y=>simp only;rw[A8K oT,hc]
  |some x=>
   simp only
   rw[A8K fun e=>oT e.symm]
   cases hd:A1o d b.aB with
   |none=>simp only[hc]
   |some y=>
    simp only
    rw[A8K oT,hc]
    simp only
    have e4:(b.aB.filter fun y=>decide (y.c≠c)).filter (fun y=>decide (y.c≠d))=(b.aB.filter fun y=>decide (y.c≠d)).filter (fun y=>decide (y.c≠c)):=by
     rw[R7,R7]
     congr 1
     funext z
     rw[Bool.and_comm]
    rw[e4]
    by_cases oD:x.aD=y.aD
    ·rw[oD]
    ·have e1:(b.aD.filterMap (A3l x.aD)).filterMap (A3l y.aD)=(b.aD.filterMap (A3l y.aD)).filterMap (A3l x.aD):=by
      rw[List.filterMap_filterMap,List.filterMap_filterMap]
      congr 1
      funext s
      exact C3K oD s
     rw[e1,C0j oD,C0j (fun e=>oD e.symm)]
     simp only[R7]
     refine congrArg (fun E=>(⟨_,_,E,_,_⟩:Z0)) (L8 fun z _=>?_)
     exact Bool.and_comm _ _
theorem B8V{n:Nat}:∀(l:List Int) {B:Z0},X4 B n→l.foldl A5k B=l.foldl B3S B∧X4 (l.foldl A5k B) n
 |[],_,h=>⟨rfl,h⟩
 |c::l,B,h=>by
  rw[I1,I1,←C6Y h.toj8]
  exact B8V l (B82 h)
theorem B8u{n:Nat}{l:List Int}{B:Z0}(h:X4 B n)(hp:l.Perm (B.aB.map (·.c))):l.foldl A5k B=A1V B:=by
 rw[A8u,(B8V l h).1,(B8V (B.aB.map (·.c)) h).1]
 exact hp.foldl_eq' (fun a _ b _ z=>C10 z a b) B
theorem B9H{n:Nat}{B:Z0}(h:X4 B n):X4 (A1V B) n:=(B8V _ h).2
open Go.H Go.Proofs Go.Shelf
def A3O:Go.Shelf.Ren:=⟨fun n=>match n with|7=>41|10=>77|n=>n,fun n=>match n with|23=>102|26=>3|3=>112|28=>123|0=>0|27=>122|33=>196|4=>4|n=>n,fun n=>n⟩
theorem C7p:SlLaysZI.n7 prog A3O where
 mixed:=by kernel_rfl
 f7:=⟨Tryz.f41.name,by kernel_rfl,func41.trans (congrArg some (by kernel_rfl))⟩
 f10:=⟨f77.name,by kernel_rfl,func77.trans (congrArg some (by kernel_rfl))⟩
 t0:=underlying0
 a0:=isAgg0
 z0:=sizeOf0
 v0:=zeroValue0
 t4:=underlying4
 a4:=isAgg4
 z4:=sizeOf4
 v4:=zeroValue4
 t23:=underlying102
 a23:=isAgg102
 z23:=sizeOf102
 v23:=zeroValue102
 t26:=underlying3
 a26:=isAgg3
 z26:=sizeOf3
 v26:=zeroValue3
 t27:=underlying122
 a27:=isAgg122
 z27:=sizeOf122
 v27:=zeroValue122
 t28:=underlying123
 a28:=isAgg123
 z28:=sizeOf123
 v28:=zeroValue123
 t33:=underlying196
 a33:=isAgg196
 z33:=sizeOf196
 v33:=zeroValue196
variable {h h0:Heap} {L L' L1 L2 L3 L4 L5 R:List Asn} {Q:Value→Heap→Prop}
structure C0T(p:Pk)(pl:List p9)(sl:List A0A)(fl:List B3O):Prop where
 bX:p.2.2.2.2.2.1.size≤9223372036854775807
 aC:(p.2.2.2.2.2.2.2.2.2.2.1).size≤9223372036854775807
 aX:(p.2.2.2.2.2.2.2.2.2.2.2.2.2.2.1).size≤9223372036854775807
 props:pl.length≤100
 aH:sl.length≤100
 sub:∀s∈sl,s.1.size≤9223372036854775807
 eF:fl.length≤100
 fil:∀f∈fl,f.size≤16777216
theorem C49{t b n:Nat}{full:Bool}{T:U7}{x:X2}{p:Pk}{pl:List p9}{sl:List A0A}{fl:List B3O}(ht:TP h0)(ag:X4 T.b n)(hc:A1o x.c T.b.aB=some x)(hb:T.outs.length≤10000000)(hp:T.aT.length≤100000000)(dA:C0T p pl sl fl)
  (hq:At (X7 t b full (A8A full x (pkI p pl sl fl) T)::old h0::L4) (Q (.tuple #[])))(hx:Has L (X7 t b full T) L1:=by repeat first|with_reducible exact V0|apply V2)(hy:Has L1 (old h0) L2:=by repeat first|with_reducible exact V0|apply V2)(hz:Has L2 (U5 Y2 5 (A0E p) sl) L3:=by repeat first|with_reducible exact V0|apply V2)(hw:Has L3 (U5 A0a 1 (A4o p) fl) L4:=by repeat first|with_reducible exact V0|apply V2):
  FW prog 32 #[at0 t,.int .i64 x.c,A2s .u8 p] L Q:=by
 refine fun h hs=>A6c (some ⟨t,0,none⟩) x.c p h Q ((?_:W (X7 t b full T::old h0::U5 Y2 5 (A0E p) sl::U5 A0a 1 (A4o p) fl::L4) _ _) h ((hx.eJ hy hz hw).s hs))
 clear hs h hx hy hz hw
 have vS:=ag.s2k
 obtain⟨T9,aJ⟩:∃T9,T9=A8A full x (pkI p pl sl fl) T:=⟨_,rfl⟩
 rw[←aJ] at hq
 unfold A8A at aJ
 dsimp only at aJ
 delta A5a az bn cx A0N ie jc ji ju nw pu ve vi vz
 refine Y1 fun x1=>?_
 refine Y9 (Y0 (enc:=Y2) (size:=5) (s:=A0E p) (xs:=sl)) fun cW=>?_
 refine Y9 (Y0 (enc:=A0a) (size:=1) (s:=A4o p) (xs:=fl)) fun cT=>?_
 refine A02 (fun r=>r.1=decide (1≤p.2.2.2.2.1∧p.2.2.2.2.1≤65535)) (fun K hK=>?_) (fun r gn=>?_)
 ·refine W.load (v:=p.2.2.2.2.1) ?_
  refine A0i (fun h1=>?_) (fun h1=>?_)
  ·refine W.load (v:=p.2.2.2.2.1) ?_
   refine U2 (hK _ ?_)
   simp only[decide_eq_true_eq] at h1
   simp[h1]
  ·refine U2 (hK _ ?_)
   simp only[decide_eq_false_iff_not] at h1
   simp[h1]
 refine A02 (fun r=>r.1=decide (p.1=3∨p.1=6)) (fun K hK=>?_) (fun r1 fr=>?_)
 ·refine W.load (v:=p.1) ?_
  refine A0i (fun g0=>U2 (hK _ ?_)) (fun g0=>?_)
  ·simp only[P9] at g0;simp[g0]
  refine W.load (v:=p.1) ?_
  refine U2 (hK _ ?_)
  simp only[H5,ne_eq] at g0
  by_cases e:p.1=6
  ·simp[e]
  ·simp[e,g0]
 refine W.cut (fun _=>X7 t b full T9::old h0::L4) (fun K0 oj=>?_) (fun _=>U2 hq.sub)
 by_cases hk:p.1=3∨p.1=6
 ·rw[if_pos hk] at aJ
  subst aJ
  refine X6 (by rw[fr];exact decide_eq_true hk) ?_
  refine r7 (v:=p) ?_
  refine Z1 (C7z (T:=T) (x:=x) (p:=p) (pl:=pl) (sl:=sl) (fl:=fl) ht ag.toj8 hc (by omega) (by omega) dA.bX (At.bD ?_))
  exact U2 (oj ()).sub
 rw[if_neg hk] at aJ
 refine W6 (by rw[fr];exact decide_eq_false hk) ?_
 clear fr hk
 refine A02 (fun r=>r.1=decide (p.1=4∨p.1=5∨p.1=7)) (fun K hK=>?_) (fun r2 cQ=>?_)
 ·refine W.load (v:=p.1) ?_
  refine A0i (fun g0=>U2 (hK _ ?_)) (fun g0=>?_)
  ·simp only[P9] at g0;simp[g0]
  refine W.load (v:=p.1) ?_
  refine A0i (fun g1=>U2 (hK _ ?_)) (fun g1=>?_)
  ·simp only[P9] at g1;simp[g1]
  refine W.load (v:=p.1) ?_
  refine U2 (hK _ ?_)
  simp only[H5,ne_eq] at g0;simp only[H5,ne_eq] at g1
  by_cases e:p.1=7
  ·simp[e]
  ·simp[e,g0,g1]
 refine W.cut (fun _=>X7 t b full T9::old h0::L4) (fun K1 fz=>?_) (fun _=>U2 (oj ()).sub)
 by_cases hk:p.1=4∨p.1=5∨p.1=7
 ·rw[if_pos hk] at aJ
  subst aJ
  refine X6 (by rw[cQ];exact decide_eq_true hk) ?_
  refine r7 (v:=p) ?_
  refine Z1 (C53 (T:=T) (x:=x) (p:=p) (pl:=pl) (sl:=sl) (fl:=fl) ht ag.toj8 hc (by omega) (by omega) (At.bD ?_))
  exact U2 (fz ()).sub
 rw[if_neg hk] at aJ
 refine W6 (by rw[cQ];exact decide_eq_false hk) ?_
 clear cQ hk
 refine A02 (fun r=>r.1=decide (p.1=8∧1≤p.2.2.2.2.1∧p.2.2.2.2.1≤65535∧sl≠[])) (fun K hK=>?_) (fun r3 kS=>?_)
 ·refine W.load (v:=p.1) ?_
  refine A0i (fun g0=>?_) (fun g0=>U2 (hK _ ?_))
  ·simp only[P9] at g0
   refine A0i (fun g1=>?_) (fun g1=>U2 (hK _ ?_))
   ·rw[gn] at g1
    refine W.load (v:=A0E p) ?_
    refine U2 (hK _ ?_)
    have g1:=of_decide_eq_true g1
    cases sl with
    |nil=>simp[cW]
    |cons a l=>simp[cW,g0,g1]
   ·rw[gn] at g1
    have g1:=of_decide_eq_false g1
    exact(decide_eq_false fun e=>g1 ⟨e.2.1,e.2.2.1⟩).symm
  ·simp only[H5,ne_eq] at g0
   exact(decide_eq_false fun e=>g0 e.1).symm
 refine W.cut (fun _=>X7 t b full T9::old h0::L4) (fun K2 bd=>?_) (fun _=>U2 (fz ()).sub)
 by_cases hk:p.1=8∧1≤p.2.2.2.2.1∧p.2.2.2.2.1≤65535∧sl≠[]
 ·rw[if_pos hk] at aJ
  subst aJ
  refine X6 (by rw[kS];exact decide_eq_true hk) ?_
  refine r7 (v:=p) ?_
  refine Z1 (B9t (T:=T) (x:=x) (p:=p) (pl:=pl) (sl:=sl) (fl:=fl) ht ag.toj8 hc hb (by have:=dA.aH;omega) dA.aH dA.sub (At.bD ?_))
  exact U2 (bd ()).sub
 rw[if_neg hk] at aJ
 refine W6 (by rw[kS];exact decide_eq_false hk) ?_
 clear kS hk
 refine A02 (fun r=>r.1=decide (p.1=10∧1≤p.2.2.2.2.1∧p.2.2.2.2.1≤65535∧fl≠[])) (fun K hK=>?_) (fun r4 oI=>?_)
 ·refine W.load (v:=p.1) ?_
  refine A0i (fun g0=>?_) (fun g0=>U2 (hK _ ?_))
  ·simp only[P9] at g0
   refine A0i (fun g1=>?_) (fun g1=>U2 (hK _ ?_))
   ·rw[gn] at g1
    refine W.load (v:=A4o p) ?_
    refine U2 (hK _ ?_)
    have g1:=of_decide_eq_true g1
    cases fl with
    |nil=>simp[cT]
    |cons a l=>simp[cT,g0,g1]
   ·rw[gn] at g1
    have g1:=of_decide_eq_false g1
    exact(decide_eq_false fun e=>g1 ⟨e.2.1,e.2.2.1⟩).symm
  ·simp only[H5,ne_eq] at g0
   exact(decide_eq_false fun e=>g0 e.1).symm
 refine W.cut (fun _=>X7 t b full T9::old h0::L4) (fun K3 jq=>?_) (fun _=>U2 (bd ()).sub)
 by_cases hk:p.1=10∧1≤p.2.2.2.2.1∧p.2.2.2.2.1≤65535∧fl≠[]
 ·rw[if_pos hk] at aJ
  subst aJ
  refine X6 (by rw[oI];exact decide_eq_true hk) ?_
  refine r7 (v:=p) ?_
  refine Z1 (B6Q (T:=T) (x:=x) (p:=p) (pl:=pl) (sl:=sl) (fl:=fl) ht ag.toj8 hc hb dA.eF dA.fil (At.bD ?_))
  exact U2 (jq ()).sub
 rw[if_neg hk] at aJ
 refine W6 (by rw[oI];exact decide_eq_false hk) ?_
 clear oI hk
 refine W.load (v:=p.1) ?_
 refine W.cut (fun _=>X7 t b full T9::old h0::L4) (fun K4 gS=>?_) (fun _=>U2 (jq ()).sub)
 by_cases hk:p.1=12
 ·rw[if_pos hk] at aJ
  subst aJ
  refine X6 (by simpa using hk) ?_
  refine B66 (k:=.u8) (j3 13 0 0) rfl rfl ?_
  refine Z1 (B8n (T:=T) (c:=x.c) (o:=j3 13 0 0) (ci:=⟨none,0,0⟩) (pi:=⟨none,0,0⟩) (by omega) (At.bD ?_))
  exact U2 (gS ()).sub
 rw[if_neg hk] at aJ
 refine W6 (by simpa using hk) ?_
 clear hk
 refine W.load (v:=p.1) ?_
 refine W.cut (fun _=>X7 t b full T9::old h0::L4) (fun K5 vL=>?_) (fun _=>U2 (gS ()).sub)
 by_cases hk:p.1=14
 ·rw[if_pos hk] at aJ
  subst aJ
  refine X6 (by simpa using hk) ?_
  refine W.load (v:=p.2.2.2.2.2.2.2.1) ?_
  have e:(p.2.2.2.2.2.2.2.1==4)=decide (p.2.2.2.2.2.2.2.1=4):=rfl
  refine Z1 (C21 (T:=T) (c:=x.c) (aX:=p.2.2.2.2.2.2.2.1==4) ht ag.toj8 (by omega) (by omega) (At.bD ?_))
  rw[e]
  exact U2 (vL ()).sub
 rw[if_neg hk] at aJ
 subst aJ
 refine W6 (by simpa using hk) ?_
 refine Z1 (A8v (T:=T) (c:=x.c) (code:=130) ht ag.toj8 (by omega) (by omega) (At.bD ?_))
 exact U2 (vL ()).sub
theorem C69{α:Type}{m:HM α}{Q':α→Heap→Prop}{t b:Nat}{full:Bool}{B:Z0}(hw:W (X7 t b full ⟨B,[],[]⟩::L2) m Q')(hx:Has L (cells t #[at0 b,.bool full,.slice none 0 0,.slice none 0 0]) L1:=by repeat first|with_reducible exact V0|apply V2)(hy:Has L1 (A1c b B) L2:=by repeat first|with_reducible exact V0|apply V2):W L m Q':=fun h hs=>
 hw h (A0T.2 (A2z.2 ⟨⟨none,0,0⟩,⟨none,0,0⟩,((B1q (Z3 (enc:=Z6) (size:=5) ((hx.then hy).s hs))).re [2,0,1,3])⟩))
theorem B6t{b:Nat}{B:Z0}:∀h R,sat h (A1c b B::R)→(B.aB.map (·.c)).Nodup∧B.kept.length≤64:=fun h R hs=>by
 obtain⟨p,h1⟩:=A2d.1 hs
 exact⟨B4F (h1.re [4,0,1,2,3]),C0a (h1.re [3,0,1,2])⟩
theorem C51(hq:∀b,At (A1c b ⟨0,[],[],[],[]⟩::L) (Q (at0 b))):FW prog 9 #[] L Q:=by
 refine fun h hs=>B27 h Q ((?_:W L _ _) h hs)
 clear hs h
 delta B6s az bn cp nw pu vi
 refine j1 (C4U (fun b1=>At.un (x:=some ⟨b1,0,none⟩) ?_))
 refine j1 (C6x (fun b2=>At.un ?_))
 refine j1 (C7S (fun b3=>At.un ?_))
 refine C8w (ek:=eKI) (ev:=eVC) fun b4=>?_
 refine Y1 fun b5=>?_
 refine W.fA (A:=A1c b5 ⟨0,[],[],[],[]⟩) (B:=cells b5 (A8i ⟨b1,b2,b3,b4⟩)) (C:=A1t b1 0 []) (D:=o6 b2 []) (E:=A1v b3 []) (F:=mapA eKI eVC b4 []) (fun h hs=>A2d.2 ⟨⟨b1,b2,b3,b4⟩,hs⟩) ?_
 exact U2 (hq b5).sub
theorem A6X{b n:Nat}{full:Bool}{B:Z0}{c:Int}{p:Pk}{pl:List p9}{sl:List A0A}{fl:List B3O}(ht:TP h0)(ag:X4 B n)(hn:n≤1000000)(dA:C0T p pl sl fl)(bu: -9223372036854775808≤c∧c≤9223372036854775807)
  (hq:∀so sp:Slc,At (V9 .u8 so (b8 full c (pkI p pl sl fl) B).outs::U5 Z6 5 sp (b8 full c (pkI p pl sl fl) B).aT::A1c b (b8 full c (pkI p pl sl fl) B).b::old h0::L5) (Q (.agg #[.slice so.a so.len so.cap,.slice sp.a sp.len sp.cap])))
  (hx:Has L (A1c b B) L1:=by repeat first|with_reducible exact V0|apply V2)(hy:Has L1 (old h0) L2:=by repeat first|with_reducible exact V0|apply V2)(hz:Has L2 (U5 Y2 5 (A0E p) sl) L3:=by repeat first|with_reducible exact V0|apply V2)(hw:Has L3 (U5 A0a 1 (A4o p) fl) L4:=by repeat first|with_reducible exact V0|apply V2)(hv:Has L4 (U5 X1 4 (A0j p) pl) L5:=by repeat first|with_reducible exact V0|apply V2):
  FW prog 13 #[at0 b,.int .i64 c,A2s .u8 p,.bool full] L Q:=by
 refine fun h hs=>A5c (some ⟨b,0,none⟩) c p full h Q ((?_:W (A1c b B::old h0::U5 Y2 5 (A0E p) sl::U5 A0a 1 (A4o p) fl::U5 X1 4 (A0j p) pl::L5) _ _) h ((hx.eW hy hz hw hv).s hs))
 clear hs h hx hy hz hw hv
 obtain⟨T9,aJ⟩:∃T9,T9=b8 full c (pkI p pl sl fl) B:=⟨_,rfl⟩
 rw[←aJ] at hq
 unfold b8 at aJ
 dsimp only at aJ
 delta A4h az bn cx A0N ie ji km nn nw pu sn ve vi vs vz
 refine Y1 fun x1=>?_
 refine Y1 fun x2=>?_
 refine W6 rfl ?_
 refine Y1 fun x4=>?_
 refine W4 ?_
 refine A2m (fun h R=>A2d.1) fun q=>?_
 refine Y9 (fun h R hs=>B4F (m:=q.cm) (l:=B.aB) hs) fun ca=>?_
 refine W.load (v:=some q.cm) ?_
 refine W.lookup (kind:=.agg tC) kKI c ?_
 rw[A3N]
 refine Y1 fun x8=>?_
 refine y8 ?_
 refine W.fA (A:=A1c b B) (B:=cells b (A8i q)) (C:=A1t q.tb B.last B.aD) (D:=o6 q.sb B.aH) (E:=A1v q.kb B.kept) (F:=mapA eKI eVC q.cm (B.aB.map A0h)) (fun h hs=>A2d.2 ⟨q,hs⟩) ?_
 refine C69 (t:=x4) (b:=b) (full:=full) (B:=B) ?_
 refine W.cut (fun _=>X7 x4 b full T9::cells x2 #[.slice none 0 0,.slice none 0 0]::old h0::L5) (fun K hK=>?_) (fun _=>?_)
 ·clear hq
  cases hg:A1o c B.aB with
  |some x=>
   rw[hg] at aJ
   simp only at aJ
   subst aJ
   have kP:=(A1x hg).2
   subst kP
   refine X6 rfl ?_
   refine r7 (v:=p) ?_
   refine Z1 (C49 (T:=⟨B,[],[]⟩) (x:=x) (p:=p) (pl:=pl) (sl:=sl) (fl:=fl) ht ag hg (by simp) (by simp) dA (At.bD ?_))
   exact U2 (hK ()).sub
  |none=>
   rw[hg] at aJ
   simp only at aJ
   refine W6 rfl ?_
   refine W.load (v:=p.1) ?_
   refine W.cut (fun _=>X7 x4 b full T9::cells x2 #[.slice none 0 0,.slice none 0 0]::old h0::L5) (fun K2 bd=>?_) (fun _=>U2 (hK ()).sub)
   by_cases hk:p.1=1
   ·rw[if_pos hk] at aJ
    subst aJ
    refine X6 (by simpa using hk) ?_
    refine r7 (v:=p) ?_
    refine Z1 (C4h (T:=⟨B,[],[]⟩) (c:=c) (p:=p) (pl:=pl) (sl:=sl) (fl:=fl) ht ag hn hg bu (by simp) (by simp) dA.aC dA.aX (by have:=dA.props;omega) (At.bD ?_))
    exact U2 (bd ()).sub
   ·rw[if_neg hk] at aJ
    subst aJ
    refine W6 (by simpa using hk) ?_
    refine B66 (k:=.u8) (j3 14 0 130) rfl rfl ?_
    refine Z1 (B9f (T:=⟨B,[],[]⟩) (c:=c) (o:=j3 14 0 130) (ci:=⟨none,0,0⟩) (pi:=⟨none,0,0⟩) (by simp) (At.bD ?_))
    show W (X7 x4 b full ⟨B,[⟨c,j3 14 0 130,true⟩],[]⟩::_) _ _
    exact U2 (bd ()).sub
 clear aJ
 refine C2n (A:=X7 x4 b full T9) (fun h R hs=>A0T.1 hs) ?_
 refine W4 ?_
 refine A8Y (fun h R=>A2z.1) fun so sp=>?_
 refine A7R (v:=(so,sp,())) ?_
 refine y8 ?_
 refine r7 (v:=(so,sp,())) ?_
 exact U2 (hq so sp).sub
theorem C63{b n:Nat}{full:Bool}{B:Z0}{c:Int}(ht:TP h0)(ag:X4 B n)
  (hq:∀so sp:Slc,At (V9 .u8 so (A70 full c B).outs::U5 Z6 5 sp (A70 full c B).aT::A1c b (A70 full c B).b::old h0::L2) (Q (.agg #[.slice so.a so.len so.cap,.slice sp.a sp.len sp.cap])))
  (hx:Has L (A1c b B) L1:=by repeat first|with_reducible exact V0|apply V2)(hy:Has L1 (old h0) L2:=by repeat first|with_reducible exact V0|apply V2):
  FW prog 24 #[at0 b,.int .i64 c,.bool full] L Q:=by
 refine fun h hs=>A6e (some ⟨b,0,none⟩) c full h Q ((?_:W (A1c b B::old h0::L2) _ _) h ((hx.then hy).s hs))
 clear hs h hx hy
 unfold A70 at hq
 delta A5d az bn cx ie nn nw pu sn vi vs vz
 refine Y1 fun x1=>?_
 refine W6 rfl ?_
 refine Y1 fun x3=>?_
 refine C69 (t:=x3) (b:=b) (full:=full) (B:=B) ?_
 refine Z1 (C21 (T:=⟨B,[],[]⟩) (c:=c) (aX:=true) ht ag.toj8 (by simp) (by simp) (At.bD ?_))
 generalize A3S full c true ⟨B,[],[]⟩=T9 at hq⊢
 refine C2n (A:=X7 x3 b full T9) (fun h R hs=>A0T.1 hs) ?_
 refine W4 ?_
 refine A8Y (fun h R=>A2z.1) fun so sp=>?_
 refine A7R (v:=(so,sp,())) ?_
 refine y8 ?_
 refine r7 (v:=(so,sp,())) ?_
 exact U2 (hq so sp).sub
theorem C2l{b n:Nat}{B:Z0}{m:MsT}(ht:TP h0)(ag:X4 B n)(hm:m.1.size≤9223372036854775807)
  (hq:∀so:Slc,At (V9 .u8 so (A1i m B).outs::A1c b (A1i m B).b::old h0::L2) (Q (.slice so.a so.len so.cap)))
  (hx:Has L (A1c b B) L1:=by repeat first|with_reducible exact V0|apply V2)(hy:Has L1 (old h0) L2:=by repeat first|with_reducible exact V0|apply V2):
  FW prog 19 #[at0 b,vMs m] L Q:=by
 refine fun h hs=>A4K (some ⟨b,0,none⟩) (toU m) h Q ((?_:W (A1c b B::old h0::L2) _ _) h ((hx.then hy).s hs))
 clear hs h hx hy
 unfold A1i at hq
 delta A3B az cx g7 ie kc nn nw pu vz
 refine Y1 fun x1=>?_
 refine W6 rfl ?_
 refine Y1 fun x2=>?_
 refine C69 (t:=x2) (b:=b) (full:=false) (B:=B) ?_
 refine r7 (v:=toU m) ?_
 refine Z1 (C5B (T:=⟨B,[],[]⟩) (m:=m) ht ag.toj8 (by simp) hm (At.bD ?_))
 generalize A0t m ⟨B,[],[]⟩=T9 at hq⊢
 refine C2n (A:=X7 x2 b false T9) (fun h R hs=>A0T.1 hs) ?_
 refine W4 ?_
 refine A8Y (fun h R=>A2z.1) fun so sp=>?_
 refine e8 (v:=so) ?_
 exact U2 (hq so).sub
theorem C6Q{m:Nat}(hq:∀x,At (cells x #[.map (some m)]::L) (Q (.func (.func (A3O.f 10)) #[] #[.pointer (some ⟨x,0,none⟩)]))):FW prog 41 #[.map (some m)] L Q:=fun h hs=>
 B0u (ρk:=A3O) C7p (some m) (hq h.size _ (hs.bK (T:=A3O.t 23) (cs:=#[.map (some m)])))
theorem C3r{m x:Nat}{l:List X2}(hw:∀x∈l,-9223372036854775808≤x.c∧x.c≤9223372036854775807)(hl:l.length≤1000000)(hq:∀S:Slc,At (U5 eI 1 S (Z2 (l.map (·.c)))::mapA eKI eVC m (l.map A0h)::L2) (Q (.slice S.a S.len S.cap)))
  (hx:Has L (mapA eKI eVC m (l.map A0h)) L1:=by repeat first|with_reducible exact V0|apply V2)(hy:Has L1 (cells x #[.map (some m)]) L2:=by repeat first|with_reducible exact V0|apply V2):FW prog 40 #[.func (.func (A3O.f 10)) #[] #[.pointer (some ⟨x,0,none⟩)]] L Q:=fun h hs=>by
 have h1:=(hx.then hy).s hs
 refine A65 (ρk:=A3O) (ρs:=A5u) (ρt:=A66) C7p B8i C1a rfl (enters_of func76 (by kernel_rfl) rfl) (enters_of func77 (by kernel_rfl) rfl) h1
  (fun p hp=>?_) (by rw[C2];omega) ((h1.re [1,0]).cell 0) fun s h' af=>?_
 ·obtain⟨y,hy,rfl⟩:=E4.1 hp
  have:=hw y hy
  simp[Lit.wf,IntKind.min,IntKind.max,IntKind.bits,IntKind.signed]
  omega
 ·rw[F1] at af
  exact hq s h' ((af.re [2,0,1]).drop)
theorem B2H:∀{l l':List Int},l.Nodup→(∀x∈l,x∈l')→l.length≤l'.length
 |[],_,_,_=>D1 _
 |x::l,l',hn,hs=>by
  obtain⟨a,b,rfl⟩:=H0 (hs x (B4 ..))
  have h1:=F8.1 hn
  have:=B2H (l:=l) (l':=a++b) h1.2 fun y hy=>by
   rcases C9.1 (hs y (C3 _ hy)) with h|h
   ·exact I7 _ h
   ·rcases D3.1 h with rfl|h
    ·exact absurd hy h1.1
    ·exact F6 _ h
  simp only[B5,B8] at this⊢
  omega
theorem B26{B:Z0}{n:Nat}(h:X4 B n):B.aB.length≤1000000:=by
 have h1:(B.aB.map (·.aD)).Nodup:=by
  rw[List.nodup_iff_count]
  intro i
  have:=h.one i
  rw[List.count_eq_countP,List.countP_map,List.countP_eq_length_filter]
  exact this
 have h3:=B2H h1 (l':=B.aD.map (·.id)) fun i hi=>by
  obtain⟨x,hx,rfl⟩:=E4.1 hi
  obtain⟨s,hs,e⟩:=h.cl x hx
  exact e▸B3 hs
 simp only[C2] at h3
 have:=h.n32
 omega
theorem C0L{b n:Nat}{B:Z0}(ag:X4 B n)(hq:∀S:Slc,At (U5 eI 1 S (Z2 (B.aB.map (·.c)))::A1c b B::L1) (Q (.slice S.a S.len S.cap)))
  (hx:Has L (A1c b B) L1:=by repeat first|with_reducible exact V0|apply V2):FW prog 17 #[at0 b] L Q:=by
 refine fun h hs=>A5o (some ⟨b,0,none⟩) h Q ((?_:W (A1c b B::L1) _ _) h (hx.s hs))
 clear hs h hx
 delta A4z bn cc ie km nn pu
 refine W6 rfl ?_
 refine W4 ?_
 refine A2m (fun h R=>A2d.1) fun q=>?_
 refine W.load (v:=some q.cm) ?_
 refine j1 (C6Q (m:=q.cm) fun x=>At.un (x:=Value.func (.func (A3O.f 10)) #[] #[.pointer (some ⟨x,0,none⟩)]) ?_)
 refine j1 (C3r (m:=q.cm) (l:=B.aB) (fun x hx=>(ag.wl x hx).2) (B26 ag) fun S=>At.un (x:=S) ?_)
 refine W.fA (A:=A1c b B) (B:=cells b (A8i q)) (C:=A1t q.tb B.last B.aD) (D:=o6 q.sb B.aH) (E:=A1v q.kb B.kept) (F:=mapA eKI eVC q.cm (B.aB.map A0h)) (fun h hs=>A2d.2 ⟨q,hs⟩) ?_
 exact U2 (hq S).sub
theorem C2k{b n:Nat}{B:Z0}(ht:TP h0)(ag:X4 B n)(hq:At (A1c b (A1V B)::old h0::L2) (Q (.tuple #[])))
  (hx:Has L (A1c b B) L1:=by repeat first|with_reducible exact V0|apply V2)(hy:Has L1 (old h0) L2:=by repeat first|with_reducible exact V0|apply V2):FW prog 25 #[at0 b] L Q:=by
 refine fun h hs=>A4J (some ⟨b,0,none⟩) h Q ((?_:W (A1c b B::old h0::L2) _ _) h ((hx.then hy).s hs))
 clear hs h hx hy
 delta A3A az bn cc cx ie ix li nw pu vi vz wi
 refine Y1 fun x1=>?_
 refine j1 (C0L (b:=b) (B:=B) ag (fun S=>At.un (x:=S) ?_))
 have hp:(Z2 (B.aB.map (·.c))).Perm (B.aB.map (·.c)):=R0 _ _
 rw[←B8u ag hp] at hq
 have aQ:=B26 ag
 have hlen:(Z2 (B.aB.map (·.c))).length≤1000000:=by rw[hp.length_eq,C2];exact aQ
 generalize Z2 (B.aB.map (·.c))=l at hq hlen⊢
 refine C69 (t:=x1) (b:=b) (full:=false) (B:=B) ?_
 refine Y9 (Y0 (enc:=eI) (size:=1) (s:=S) (xs:=l)) fun hl=>?_
 refine W.loop (γ:=Nat×Z0) (fun g s=>s.1=(g.1:Int)∧g.1≤l.length∧X4 g.2 n∧(l.drop g.1).foldl A5k g.2=l.foldl A5k B) (fun g s=>X7 x1 b false ⟨g.2,[],[]⟩::U5 eI 1 S l::old h0::L2) (fun g=>l.length-g.1) (0,B) ⟨rfl,D1 _,ag,rfl⟩ ?_ ?_
 ·show Sub _ (X7 x1 b false ⟨B,[],[]⟩::U5 eI 1 S l::old h0::L2)
  repeat(first|with_reducible exact T6|with_reducible exact T7|refine T8 (by repeat first|with_reducible exact V0|apply V2) ?_|refine U0 ?_)
 rintro⟨i,B1⟩ s ⟨hi,cK,aL,hf⟩ K k1 k2
 simp only at hi cK aL hf
 by_cases ah:i<l.length
 ·refine X6 (by rw[hi,hl];exact decide_eq_true (by omega)) ?_
  have aY:l[i]? =some l[i]:=B0 ah
  rw[E1 ah,I1] at hf
  generalize l[i]=u at aY hf
  refine j4 (enc:=eI) (xs:=l) (i:=i) ah (fun a ha=>?_) (he:=hi)
  refine B6F (x:=u) (v:=u) ha aY ?_
  refine Z1 (C21 (T:=⟨B1,[],[]⟩) (c:=u) (aX:=false) ht aL.toj8 (by simp) (by simp) (At.bD ?_))
  rw[C11]
  have f1:IntKind.wrap .i64 (s.1+1)=((i+1:Nat):Int):=by rw[hi,V8 (by omega) (by omega)];rfl
  have hn:=k1 (i+1,A5k B1 u) (IntKind.wrap .i64 (s.1+1),()) (by simp only;omega) ⟨f1,ah,B82 aL,hf⟩
  exact U2 hn.sub
 ·refine W6 (by rw[hi,hl];exact decide_eq_false (by omega)) (U2 (k2 _ _ ?_))
  have ej:i=l.length:=by omega
  subst ej
  rw[K7,P4] at hf
  rw[hf]
  refine C2n (A:=X7 x1 b false ⟨l.foldl A5k B,[],[]⟩) (fun h R hs=>A0T.1 hs) ?_
  exact U2 hq.sub
end
section
open Go.H Go.Proofs Go.Lib
theorem C5g{t:B3O}(h0:0<t.size)(h1:(t[0]'h0).toNat<128)(h2:(t[0]'h0).toNat≠0):A2h t=1:=by
 have hd:Lib.decodeGo t=((t[0]'h0).toNat,1):=by
  unfold Lib.decodeGo
  rw[if_neg (by omega)]
  exact decode_ascii t 0 h0 h1
 unfold A2h
 rw[hd]
 rw[if_neg]
 rintro(e|⟨e,-⟩)
 ·exact h2 e
 ·simp only at e;omega
theorem C37{s:B3O}(hs:∀(i:Nat) (h:i<s.size),(s[i]'h).toNat<128∧(s[i]'h).toNat≠0):q8 s=none:=by
 have key:∀(f a:Nat),A5L s f a=none:=by
  intro f
  induction f with
  |zero=>intro a;rfl
  |succ f ih=>
   intro a
   unfold A5L
   by_cases ha:a<s.size
   ·rw[if_pos ha]
    have hsz:0<(s.extract a s.size).size:=by rw[ByteArray.size_extract];omega
    have hg:(s.extract a s.size)[0]'hsz=s[a]'ha:=by
     rw[ByteArray.getElem_extract];congr 1
    have:=C5g hsz (by rw[hg];exact(hs a ha).1) (by rw[hg];exact(hs a ha).2)
    rw[this,if_neg (by decide)]
    exact ih _
   ·rw[if_neg ha]
 exact key _ _
def C64(s:B3O):Bool:=s.data.toList.all fun c=>decide (c.toNat<128)&&decide (c.toNat≠0)
theorem B1S{s:B3O}(h:C64 s=true):q8 s=none:=C37 fun i hi=>by
 unfold C64 at h
 have:=J1.1 h (s[i]'hi) (by
  have:s[i]'hi=s.data.toList[i]'(by simpa using hi):=by simp[ByteArray.getElem_eq_getElem_data]
  rw[this];exact H3 _)
 simpa using this
theorem A89(s:B3O):levels s=(lev 47 [] s.data.toList).map fun l=>ByteArray.mk l.toArray:=by
 refine A7l ?_
 rw[A2U,F1]
 symm
 refine(I0 fun x _=>?_).trans (T5 _)
 simp
def B8k(s:B3O):Bool:=C64 s&&decide (s.data.toList.length≠0)&&decide (s.data.toList.length≤256)&&decide ((lev 47 [] s.data.toList).length≤32)
theorem B7d{s:B3O}(h:B8k s=true):A1l s=true:=by
 unfold B8k at h
 simp only[F0,decide_eq_true_eq] at h
 obtain⟨⟨⟨h1,h2⟩,h3⟩,h4⟩:=h
 refine A0X.2 ⟨B1S h1,by simpa using h2,by simpa using h3,?_⟩
 rw[A89,C2];exact h4
theorem C5n{s:B3O}(h:B8k s=true)(h1:hasB 43 s=false)(h2:hasB 35 s=false):Z4 s=true:=by
 unfold Z4;rw[B7d h,h1,h2];rfl
theorem B5R{s:B3O}(h:B8k s=true)(h1:A4d ((lev 47 [] s.data.toList).map fun l=>ByteArray.mk l.toArray)=true):X5 s=true:=by
 unfold X5;rw[B7d h,A89,h1];rfl
theorem B7G{f n:B3O}(hf:X5 f=true)(hn:Z4 n=true)(hd:A3Z f n=false)(hm:A2o ((lev 47 [] f.data.toList).map fun l=>ByteArray.mk l.toArray) ((lev 47 [] n.data.toList).map fun l=>ByteArray.mk l.toArray)=true):Y8 f n=true:=by
 unfold Y8;rw[hf,hn,hd,A89,A89,hm];rfl
theorem C0i{s:B3O}(h:C64 s=true)(h1:s≠ByteArray.mk #[])(h2:s.size≤64):a8 s:=⟨B1S h,h1,h2⟩
open Go.H Go.Proofs
abbrev w0:MsT:=(e0S,e0S,0,false,e0S)
abbrev B3M(aC:B3O):PkI:={kind:=1,dF:=false,eM:=0,id:=0,bX:=e0S,cR:=e0S,code:=0,props:=[(17,100,e0S,e0S)],aC:=aC,clean:=false,bE:=false,aX:=w0,aH:=[],bH:=[]}
abbrev C6z(id:Int)(sl:List A0A):PkI:={kind:=8,dF:=false,eM:=0,id:=id,bX:=e0S,cR:=e0S,code:=0,props:=[],aC:=e0S,clean:=false,bE:=false,aX:=w0,aH:=sl,bH:=[]}
abbrev C9B(m:MsT)(id:Int):PkI:={kind:=3,dF:=m.2.2.2.1,eM:=m.2.2.1,id:=id,bX:=m.1,cR:=m.2.1,code:=0,props:=[],aC:=e0S,clean:=false,bE:=false,aX:=w0,aH:=[],bH:=[]}
def A8L(id:Int)(c:B3O):V7:=⟨id,c,true,true,⟨⟨64,0,[]⟩,64,true,[],[]⟩,⟨64,0,[]⟩⟩
def C1H(c:Int)(aC:B3O)(B:Z0):Z0:=⟨B.last+1,B.aD++[A8L (B.last+1) aC],B.aH,B.kept,B.aB++[⟨c,B.last+1,false,w0⟩]⟩
theorem C0I:A0k ⟨⟨64,0,[]⟩,64,false,[],[]⟩ 64=(⟨⟨64,0,[]⟩,64,true,[],[]⟩,[]):=by
 unfold A0k Y7
 simp[goF]
 decide
theorem C3j{l:List X2}{id:Int}:A1H l id []=[]:=by
 unfold A1H
 simp
theorem C3u{A:List V7}{s:V7}{f:V7→V7}(hn:∀x∈A,x.id≠s.id):X9 s.id f (A++[s])=A++[f s]:=by
 unfold X9
 rw[C0,B6,I4,if_pos rfl]
 congr 1
 have:A.map (fun x=>if x.id=s.id then f x else x)=A.map id:=I0 fun x hx=>if_neg (hn x hx)
 rw[this,T5]
theorem C34{A:List V7}{s:V7}(hn:∀x∈A,x.id≠s.id):A46 s.id (A++[s])=some s:=by
 unfold A46
 rw[P5,E7.2 (fun x hx=>by simpa using hn x hx)]
 simp
theorem join_eq{full:Bool}{B:Z0}{n:Nat}{c:Int}{aC:B3O}(h:X4 B n)(hc:A1o c B.aB=none)(ho:ofS aC B.aD=none)(hl:B.aB.length<64)(hg:a8 aC)(eA:B.aD.length<32):
  b8 full c (B3M aC) B=⟨C1H c aC B,[⟨c,A1T false,false⟩],[]⟩:=by
 have hb:A5p (B3M aC) B=0:=by
  unfold A5p
  rw[if_neg (by simp),if_neg (by omega),if_neg (fun e=>e hg),if_neg (by omega)]
 have ax:∀x∈B.aD,x.id≠(A2w (B.last+1) aC true).id:=fun x hx=>by
  have:=(h.dX x hx).2
  show x.id≠B.last+1
  omega
 have hr:b9 aC false true B=((B.last+1,false),{B with last:=B.last+1,aD:=B.aD++[A2w (B.last+1) aC true]}):=by
  unfold b9;rw[ho]
 have hk:z8 full aC ⟨B,[],[]⟩=⟨B,[],[]⟩:=by unfold z8;rw[ho]
 have iT:u4 [(17,100,e0S,e0S)]=true:=by unfold u4 A0R;rfl
 have xc:A1P [(17,100,e0S,e0S)]=64:=by unfold A1P A0R;rfl
 unfold b8
 rw[hc]
 simp only[if_true]
 unfold A1j
 rw[if_neg (by simpa using hb),A3R]
 simp only[hk,iT,xc,hr,ho]
 unfold A0F
 have xq:A46 (B.last+1) (B.aD++[A2w (B.last+1) aC true])=some (A2w (B.last+1) aC true):=C34 ax
 simp only[xq]
 have kj:A0k (A2w (B.last+1) aC true).out 64=(⟨⟨64,0,[]⟩,64,true,[],[]⟩,[]):=C0I
 rw[kj]
 have jF:X9 (B.last+1) (Y6 ⟨⟨64,0,[]⟩,64,true,[],[]⟩) (B.aD++[A2w (B.last+1) aC true])=B.aD++[A8L (B.last+1) aC]:=C3u ax
 simp only[jF,A1S]
 show U7.mk _ (_++A1H _ _ []) _=_
 rw[C3j,C1]
 rfl
abbrev tAP:B3O:=ByteArray.mk #[97,47,43]
abbrev tH:B3O:=ByteArray.mk #[35]
abbrev tAB:B3O:=ByteArray.mk #[97,47,98]
abbrev tC1:B3O:=ByteArray.mk #[99]
abbrev tD1:B3O:=ByteArray.mk #[100]
abbrev tX1:B3O:=ByteArray.mk #[120]
theorem C7l:X5 tAP=true:=B5R (by decide) (by decide)
theorem C8R:X5 tH=true:=B5R (by decide) (by decide)
theorem C5d:Z4 tAB=true:=C5n (by decide) (by decide) (by decide)
theorem C8S:Y8 tAP tAB=true:=B7G C7l C5d (by decide) (by decide)
theorem C9C:Y8 tH tAB=true:=B7G C8R C5d (by decide) (by decide)
theorem C8W:a8 tC1:=C0i (by decide) (by decide) (by decide)
theorem C8V:a8 tD1:=C0i (by decide) (by decide) (by decide)
abbrev slW:List A0A:=[(tAP,1,false,false,0),(tH,0,false,false,0)]
def B1w:Z0:=C1H 1 tC1 ⟨0,[],[],[],[]⟩
def E1w:List Ent:=[(1,tH,0),(1,tAP,1)]
def B2w:Z0:=B30 E1w B1w
def B3w:Z0:=C1H 2 tD1 B2w
theorem C9c:A2J [] 1 tAP 1=(0,[(1,tAP,1)]):=by
 unfold A2J
 rw[if_neg (by rw[C7l];decide),if_neg (by decide)]
 rfl
theorem C9b:A2J [(1,tAP,1)] 1 tH 0=(0,E1w):=by
 unfold A2J
 rw[if_neg (by rw[C8R];decide),if_neg (by decide)]
 have e:List.findIdx? (fun x=>decide (b7 x=(1,tH))) [((1:Int),tAP,(1:Int))]=none:=by decide
 rw[e]
 simp only
 rw[if_neg (by decide)]
 have e2:A2q ltK b7 ((1:Int),tH,(0:Int)) [((1:Int),tAP,(1:Int))]=E1w:=by
  unfold A2q
  rw[if_pos (by decide)]
  rfl
 rw[e2]
theorem C9E:j6 1 slW []=(E1w,[1,0]):=by
 unfold j6
 simp only[C9c]
 unfold j6
 simp only[C9b]
 unfold j6
 rfl
theorem C8p:added 1 slW []=slW:=by
 unfold added
 simp only[C9c]
 unfold added
 simp only[C9b]
 unfold added
 rfl
theorem C1x:X4 ⟨0,[],[],[],[]⟩ 0:=X4.new
theorem w1:b8 false 1 (B3M tC1) ⟨0,[],[],[],[]⟩=⟨B1w,[⟨1,A1T false,false⟩],[]⟩:=join_eq C1x rfl rfl (by decide) C8W (by decide)
theorem w2:b8 false 1 (C6z 1 slW) B1w=⟨B2w,[⟨1,A0S 9 1 [1,0],false⟩],[]⟩:=by
 unfold b8
 have hg:A1o 1 B1w.aB=some ⟨1,1,false,w0⟩:=rfl
 rw[hg]
 simp only
 unfold A8A
 rw[if_neg (by decide),if_neg (by decide),if_pos (by decide)]
 unfold A0W
 have hs:B1w.aH=[]:=rfl
 have hk:B1w.kept=[]:=rfl
 simp only[hs,C9E,C8p]
 unfold i7
 simp only[I1,P4]
 rw[if_neg (by decide)]
 simp only[hk,A56,J9,P4]
 rw[if_neg (by decide)]
 rfl
theorem C8Q:X4 B1w 1:=by
 have:=(A3J (full:=false) (c:=1) (p:=B3M tC1) C1x (by simp) (by simp) (by decide) (by decide) (by decide)).1
 rw[w1] at this;exact this
theorem C5b:X4 B2w 2:=by
 have:=(A3J (full:=false) (c:=1) (p:=C6z 1 slW) C8Q (by decide) (by decide) (by decide) (by decide) (by decide)).1
 rw[w2] at this;exact this
theorem w3:b8 false 2 (B3M tD1) B2w=⟨B3w,[⟨2,A1T false,false⟩],[]⟩:=join_eq C5b rfl (by decide) (by decide) C8V (by decide)
theorem C8P:X4 B3w 3:=by
 have:=(A3J (full:=false) (c:=2) (p:=B3M tD1) C5b (by decide) (by decide) (by decide) (by decide) (by decide)).1
 rw[w3] at this;exact this
abbrev mW:MsT:=(tAB,tX1,2,false,e0S)
theorem C4T(m:MsT)(hm:m.2.2.1=1):∃o i,Y3 ⟨⟨64,0,[]⟩,64,true,[],[]⟩ m=((o,[A0x m i false]),0):=by
 unfold Y3
 rw[if_neg (by omega),if_neg (by omega),if_neg (by simp)]
 unfold Y7
 rw[if_pos rfl]
 simp only[F2]
 unfold goF
 rw[if_neg (by simp),if_pos (by omega)]
 simp only[goF]
 exact⟨_,_,rfl⟩
theorem w4:∃B p i,b8 false 2 (C9B mW 9) B3w=⟨B,[⟨2,j3 5 9 0,false⟩,⟨1,A0x p i false,false⟩],[mW]⟩∧p.2.2.1=1:=by
 unfold b8
 have hg:A1o 2 B3w.aB=some ⟨2,2,false,w0⟩:=rfl
 rw[hg]
 simp only
 unfold A8A
 rw[if_pos (by decide)]
 unfold A5s
 have vw:A46 2 B3w.aD=some (A8L 2 tD1):=rfl
 rw[if_neg (by rw[C5d];decide),vw]
 have ht:l8 (A8L 2 tD1).aZ 3 2 9 0=(true,some (5,0),0,[9]):=by decide
 simp only[ht,if_neg (show ¬(false=true) by decide)]
 rw[if_neg (by simp),if_pos (by simp)]
 unfold A3f A0t A1Q
 rw[if_neg (by decide)]
 have iD:B3w.aH=E1w:=rfl
 have hf:E1w.filter (fun x=>Y8 x.2.1 tAB)=E1w:=G9.2 fun x hx=>by
  rcases D3.1 hx with rfl|hx
  ·exact C9C
  ·rw[B7.1 hx];exact C8S
 simp only[iD,hf]
 have hid:A45 none E1w=[1]:=by decide
 rw[hid]
 simp only[I1,P4]
 have dV:min (2:Int) (A2E E1w 1)=1:=by decide
 unfold A1g
 simp only[dV]
 unfold A0F
 obtain⟨o,i,wP⟩:=C4T (tAB,tX1,1,false,e0S) rfl
 have xu:A46 1 (X9 2 (j2 ⟨(A8L 2 tD1).aZ.most,(A8L 2 tD1).aZ.taken,[9]⟩) B3w.aD)=some (A8L 1 tC1):=rfl
 simp only[xu]
 have sW:(A8L 1 tC1).out=⟨⟨64,0,[]⟩,64,true,[],[]⟩:=rfl
 rw[sW,wP]
 exact⟨_,(tAB,tX1,1,false,e0S),i,rfl,rfl⟩
variable {h h0:Heap} {L L' L1 L2 L3 L4 L5 R:List Asn} {Q:Value→Heap→Prop}
theorem C4t{β γ:Type}{t:Tag}{enc:γ→C9P}{size:Nat}{s:Slc}{xs:List γ}{Q':β→Heap→Prop}{i j k:Nat}{a:Addr}{x:γ}{v:t.ty}{f:t.ty→HM β}(ha:El s size i a)(hi:xs[i]? =some x)(hw:W L (f v) Q')(hx:Has L (U5 enc size s xs) L':=by repeat first|with_reducible exact V0|apply V2)(hv:((enc x)[j+k]?).bind t.get=some v:=by rfl)[Enc enc size]:W L (HM.bind (l6 t (Addr.add (Addr.add a j) k)) f) Q':=by
 rw[A8X]
 exact A4r ha hi hw hx hv
theorem C6e{α γ:Type}{enc:γ→C9P}{size:Nat}{m:HM α}{Q':α→Heap→Prop}{x:Nat}{cs:C9O}(u:γ)(hw:W (U5 enc size ⟨some ⟨x,0,none⟩,1,1⟩ [u]::L') m Q')(hx:Has L (cells x cs) L':=by repeat first|with_reducible exact V0|apply V2)(hc:cs=(enc u).toArray:=by rfl)[Enc enc size]:W L m Q':=fun h hs=>by
 subst hc
 refine hw h (A1D (b:=x) (o:=0) (cs:=(enc u).toArray) ⟨by simp,D9 _,rfl,by simp[Enc.len (enc:=enc)],by
  simp[Enc.len (enc:=enc)]
  exact D6 (T4 (Enc.len u))⟩ (hx.s hs))
abbrev l0:Slc:=⟨none,0,0⟩
abbrev B3P(x:Nat)(aC:B3O):Pk:=(1,false,false,0,0,e0S,e0S,0,l0,⟨some ⟨x,0,none⟩,1,1⟩,aC,false,0,false,e0S,e0S,0,false,l0,false,false,e0S,e0S,false,l0,l0,())
abbrev C7A(S:Slc)(id:Int):Pk:=(8,false,false,0,id,e0S,e0S,0,l0,l0,e0S,false,0,false,e0S,e0S,0,false,l0,false,false,e0S,e0S,false,S,l0,())
abbrev C6M(m:MsT)(id:Int):Pk:=(3,false,m.2.2.2.1,m.2.2.1,id,m.1,m.2.1,0,l0,l0,e0S,false,0,false,e0S,e0S,0,false,l0,false,false,e0S,e0S,false,l0,l0,())
theorem A5O:e0S.size≤9223372036854775807:=by decide
theorem C5w{x:Nat}{aC:B3O}(h:aC.size≤9223372036854775807):C0T (B3P x aC) [(17,100,e0S,e0S)] [] []:=⟨A5O,h,A5O,by decide,by decide,by simp,by decide,by simp⟩
theorem C6A{S:Slc}{id:Int}{sl:List A0A}(h:sl.length≤100)(h2:∀s∈sl,s.1.size≤9223372036854775807):C0T (C7A S id) [] sl []:=⟨A5O,A5O,A5O,by decide,h,h2,by decide,by simp⟩
theorem C6L{m:MsT}{id:Int}(h:m.1.size≤9223372036854775807):C0T (C6M m id) [] [] []:=⟨h,A5O,A5O,by decide,by decide,by simp,by decide,by simp⟩
theorem C5v{b n:Nat}{B B1 B2:Z0}{c:Int}{aC:B3O}{sl:List A0A}{S:Slc}{o1 o2:l4}{r1 r2:List l4}{ps:List MsT}(ht:TP h0)(ag:X4 B n)(hn:n≤999999)(au:(B.aB.map (·.c)).Nodup)(kf:B.kept.length≤64)(bu: -9223372036854775808≤c∧c≤9223372036854775807)(aQ:aC.size≤9223372036854775807)
  (cW:sl.length≤100)(jF:∀s∈sl,s.1.size≤9223372036854775807)
  (h1:b8 false c (B3M aC) B=⟨B1,o1::r1,[]⟩)(ea:o1.pk.kind=2)(fx:o1.pk.code=0)
  (h2:(sl=[]∧B2=B1)∨(sl≠[]∧b8 false c (C6z 1 sl) B1=⟨B2,o2::r2,ps⟩∧o2.pk.kind=9∧o2.pk.cB.length=sl.length))
  (hq:At (A1c b B2::old h0::L3) (Q (.bool true)))(hx:Has L (A1c b B) L1:=by repeat first|with_reducible exact V0|apply V2)(hy:Has L1 (old h0) L2:=by repeat first|with_reducible exact V0|apply V2)(hz:Has L2 (U5 Y2 5 S sl) L3:=by repeat first|with_reducible exact V0|apply V2):
  FW prog 11 #[at0 b,.int .i64 c,.string aC,.slice S.a S.len S.cap] L Q:=by
 refine fun h hs=>B2M (some ⟨b,0,none⟩) c aC S h Q ((?_:W (A1c b B::old h0::U5 Y2 5 S sl::L3) _ _) h ((hx.cV hy hz).s hs))
 clear hs h hx hy hz
 have aL:X4 B1 (n+1):=by
  have:=(A3J (full:=false) (c:=c) (p:=B3M aC) ag au kf (by simp) A5O bu).1
  rw[h1] at this;exact this
 delta B5B az bn ie ix jc kc ki ku nw pu sn ve vi vs vz
 refine Y1 fun x1=>?_
 refine C6e (enc:=X1) ((17,100,e0S,e0S):p9) ?_
 refine A4L Y2 5 ?_
 refine A4L A0a 1 ?_
 refine j1 (A6X (p:=B3P x1 aC) (pl:=[(17,100,e0S,e0S)]) (sl:=[]) (fl:=[]) (full:=false) ht ag (by omega) (C5w aQ) bu (fun so sp=>At.un (x:=(so,sp,())) ?_))
 rw[show b8 false c (pkI (B3P x1 aC) [(17,100,e0S,e0S)] [] []) B=⟨B1,o1::r1,[]⟩ from h1]
 dsimp only
 refine Y1 fun x3=>?_
 refine y8 ?_
 refine Y9 (Y0 (enc:=Z6) (size:=5) (s:=sp) (xs:=([]:List MsT))) fun fu=>?_
 refine B9j (fun h R=>A2v.1) fun T hT=>?_
 obtain⟨⟨c1,p1,o⟩,T,rfl⟩:∃a T',T=a::T':=by cases T with|nil=>cases hT|cons a T=>exact⟨a,T,rfl⟩
 have xK:o=o1:=(List.cons.inj hT).1
 clear hT
 subst xK
 refine Y9 (Y0 (enc:=A0K .u8) (size:=28) (s:=so) (xs:=((c1,p1,o)::T).map ouF)) fun gm=>?_
 refine A02 (fun r=>r.1=false) (fun K hK=>?_) (fun r hr=>?_)
 ·refine W.load (v:=so) ?_
  refine W6 (by rw[gm];exact decide_eq_false (by simp only[B6,B8];omega)) ?_
  refine W.load (v:=so) ?_
  refine j4 (enc:=A0K .u8) (xs:=((c1,p1,o)::T).map ouF) (i:=0) (by simp) (fun a ha=>?_)
  refine C4t (x:=ouF (c1,p1,o)) (v:=o.pk.kind) ha rfl ?_
  refine W6 (by rw[ea];rfl) ?_
  refine W.load (v:=so) ?_
  refine j4 (enc:=A0K .u8) (xs:=((c1,p1,o)::T).map ouF) (i:=0) (by simp) (fun a2 dJ=>?_)
  refine C4t (x:=ouF (c1,p1,o)) (v:=o.pk.code) dJ rfl ?_
  refine W6 (by rw[fx];rfl) ?_
  refine e8 (b:=x3) (i:=1) (v:=sp) ?_
  refine U2 (hK _ ?_)
  rw[fu];rfl
 refine W6 hr ?_
 refine Y9 (Y0 (enc:=Y2) (size:=5) (s:=S) (xs:=sl)) fun eR=>?_
 rcases h2 with⟨rfl,rfl⟩|⟨cg,h2,gr,ez⟩
 ·refine X6 (by rw[eR];rfl) ?_
  exact U2 hq.sub
 ·refine W6 (by rw[eR];exact decide_eq_false (fun e=>cg (K9.1 (by omega)))) ?_
  refine A4L X1 4 ?_
  refine A4L A0a 1 ?_
  refine j1 (A6X (B:=B1) (p:=C7A S 1) (pl:=[]) (sl:=sl) (fl:=[]) (full:=false) ht aL (by omega) (C6A cW jF) bu (fun gg fi=>At.un (x:=(gg,fi,())) ?_))
  rw[show b8 false c (pkI (C7A S 1) [] sl []) B1=⟨B2,o2::r2,ps⟩ from h2]
  dsimp only
  refine Y1 fun pA=>?_
  refine y8 ?_
  refine B9j (fun h R hs=>(A2v (k:=.u8) (s:=gg) (os:=o2::r2)).1 hs) fun T2 od=>?_
  obtain⟨⟨c2,p2,o'⟩,T2,rfl⟩:∃a T',T2=a::T':=by cases T2 with|nil=>cases od|cons a T=>exact⟨a,T,rfl⟩
  have um:o'=o2:=(List.cons.inj od).1
  clear od
  subst um
  refine Y9 (Y0 (enc:=A0K .u8) (size:=28) (s:=gg) (xs:=((c2,p2,o')::T2).map ouF)) fun tp=>?_
  refine Y9 (A:=Z9 (ouB .u8) ((c2,p2,o')::T2)) (p:=c2.len=o'.pk.cB.length) (fun h R hs=>?_) fun ud=>?_
  ·have h5:sat h (Z9 (ouB .u8) [(c2,p2,o')]::Z9 (ouB .u8) T2::R):=A5e.1 hs
   have h6:=A4C.1 (A3V.1 h5)
   exact h6.aW
  refine A02 (fun r=>r.1=true) (fun K hK=>?_) (fun r cQ=>?_)
  ·refine W.load (v:=gg) ?_
   refine X6 (by rw[tp];exact decide_eq_true (by simp only[B6,B8];omega)) ?_
   refine W.load (v:=gg) ?_
   refine j4 (enc:=A0K .u8) (xs:=((c2,p2,o')::T2).map ouF) (i:=0) (by simp) (fun a ha=>?_)
   refine C4t (x:=ouF (c2,p2,o')) (v:=o'.pk.kind) ha rfl ?_
   refine X6 (by rw[gr];rfl) ?_
   refine W.load (v:=gg) ?_
   refine j4 (enc:=A0K .u8) (xs:=((c2,p2,o')::T2).map ouF) (i:=0) (by simp) (fun a2 dJ=>?_)
   refine C4t (x:=ouF (c2,p2,o')) (v:=c2) dJ rfl ?_
   refine U2 (hK _ ?_)
   rw[ud,ez,eR];simp
  refine U2 ?_
  show At _ (Q (.bool r.1))
  rw[cQ]
  exact hq.sub
end
section
open Go.H Go.Proofs
variable {h h0:Heap} {L L' L1 L2 L3 L4 L5 R:List Asn} {Q:Value→Heap→Prop}
theorem C9f{β:Type}{b o:Nat}{cs cs':C9O}{vs:C9P}{f:Unit→HM β}{Q':β→Heap→Prop}(hw:W (cells b cs'::L') (f ()) Q')(hx:Has L (cells b cs) L':=by repeat first|with_reducible exact V0|apply V2)(hc:cs.toList.take o++vs++cs.toList.drop (o+vs.length)=cs'.toList:=by rfl)(hl:(o+vs.length).ble cs.size=true:=by rfl)(hv:vs.all (fun v=>v.oneCell')=true:=by rfl):
  W L (HM.bind (A94 (Addr.add ⟨b,0,none⟩ o) vs) f) Q':=fun h hs=>by
 have aa:=hx.s hs
 have gY:o+vs.length≤cs.size:=O8 hl
 rw[U3]
 refine⟨A3r (o:=o) aa gY (J1.1 hv),?_⟩
 obtain⟨c2,e1,e2,h2⟩:=sat.setCells vs cs o 0 aa (by omega)
 simp only[O7] at e2
 have e3:c2=cs':=I3.1 (e2.trans hc)
 subst e3
 exact hw _ h2
theorem C68{γ β:Type}{enc:γ→C9P}{size:Nat}{s s2:Slc}{xs:List γ}{f:Slc→HM β}{Q':β→Heap→Prop}(hr:Z7 enc size h0 s xs)(hw:∀s',Z7 enc size h0 s' (xs.take 80)→W L (f s') Q')(hs:s2=s:=by rfl):
  W L (HM.bind (HM.slice s none (some (if 80<(((s2.len:Nat):Int):Int) then 80 else((s2.len:Nat):Int))) none size) f) Q':=by
 subst hs
 have hl:=hr.1
 by_cases jw:80<xs.length
 ·rw[if_pos (by omega)]
  exact C29 (n:=80) hr (by omega) hw
 ·rw[if_neg (by omega)]
  have e:xs.take 80=xs.take xs.length:=by rw[D6 (by omega),F9]
  refine C29 (n:=xs.length) hr (D9 _) (fun s' dw=>hw s' (by rw[e];exact dw)) (by rw[hl])
theorem C2K{S:Slc}{pl:List p9}(hr:Z7 X1 4 h0 S pl)(hq:∀S1 S2:Slc,At (U5 X1 4 S1 (pl.take 80)::U5 X1 4 S2 (pl.take 80)::old h0::L1) (Q (.tuple #[.slice S1.a S1.len S1.cap,.slice S2.a S2.len S2.cap])))
  (hx:Has L (old h0) L1:=by repeat first|with_reducible exact V0|apply V2):FW prog 39 #[.slice S.a S.len S.cap] L Q:=by
 refine fun h hs=>B1F S h Q ((?_:W (old h0::L1) _ _) h (hx.s hs))
 clear hs h hx
 delta B3J az bn g8 ie ix nw pu rq sn wi
 refine C68 hr (fun s' dw=>?_)
 have jw:(pl.take 80).length≤80:=J0 _ _
 generalize pl.take 80=xs at dw hq jw
 refine B67 X1 4 (xs.take 0) ?_
 refine B67 X1 4 (xs.take 0) ?_
 refine W.loop (γ:=Nat) (fun g s=>s.2.2.1=(g:Int)∧g≤xs.length) (fun g s=>U5 X1 4 s.1 (xs.take g)::U5 X1 4 s.2.1 (xs.take g)::old h0::L1) (fun g=>xs.length-g) 0 ⟨rfl,D1 _⟩ Sub.rfl ?_
 rintro i s ⟨hi,cK⟩ K k1 k2
 by_cases ah:i<xs.length
 ·refine X6 (by rw[hi,dw.1];exact decide_eq_true (by omega)) ?_
  have aY:xs[i]? =some xs[i]:=B0 ah
  have aU:xs.take (i+1)=xs.take i++[xs[i]]:=C7 ah
  generalize xs[i]=u at aY aU
  have hb:((xs.take i).length+1)*48≤140737488355328:=by rw[E6];omega
  have hn:∀S1 S2:Slc,At (U5 X1 4 S1 (xs.take i++[u])::U5 X1 4 S2 (xs.take i++[u])::old h0::L1) (K (.inl (S1,S2,IntKind.wrap .i64 (s.2.2.1+1),()))):=fun S1 S2=>by
   have:=k1 (i+1) (S1,S2,IntKind.wrap .i64 (s.2.2.1+1),()) (by omega) ⟨by simp only[hi];rw[V8 (by omega) (by omega)];rfl,ah⟩
   simp only at this
   rw[aU] at this
   exact this
  refine A7P dw ah (fun a ha=>?_) (he:=hi)
  refine B4v (v:=prU u) dw ha aY ?_
  refine Y1 fun x6=>?_
  refine y8 ?_
  refine r7 (v:=prU u) ?_
  refine r7 (v:=prU u) ?_
  repeat' (first|refine Y1 fun _=>?_|refine r7 (v:=prU u) ?_|refine A1p ?_ rfl|with_reducible refine A7Q ?_ ?_|refine A9I (enc:=X1) u (fun _=>?_) hb)
  all_goals exact U2 (hn _ _).sub
 ·refine W6 (by rw[hi,dw.1];exact decide_eq_false (by omega)) (U2 (k2 _ _ ?_))
  have ej:i=xs.length:=by omega
  subst ej
  rw[F9]
  exact U2 (hq _ _).sub
structure C9h(h0:Heap)(p:Pk)(pl wl:List p9)(cl:List Int)(sl:List A0A)(fl:List B3O):Prop where
 props:Z7 X1 4 h0 (p.2.2.2.2.2.2.2.2.2.1) pl
 wprops:Z7 X1 4 h0 (p.2.2.2.2.2.2.2.2.2.2.2.2.2.2.2.2.2.2.1) wl
 cB:Z7 (eKd .u8) 1 h0 (p.2.2.2.2.2.2.2.2.1) cl
 aH:Z7 Y2 5 h0 (p.2.2.2.2.2.2.2.2.2.2.2.2.2.2.2.2.2.2.2.2.2.2.2.2.1) sl
 eF:Z7 A0a 1 h0 (p.2.2.2.2.2.2.2.2.2.2.2.2.2.2.2.2.2.2.2.2.2.2.2.2.2.1) fl
abbrev pkR(p:Pk)(c:Int)(s8 s9 cJ cI cH:Slc):Pk:=(p.1,p.2.1,p.2.2.1,p.2.2.2.1,p.2.2.2.2.1,p.2.2.2.2.2.1,p.2.2.2.2.2.2.1,c,s8,s9,p.2.2.2.2.2.2.2.2.2.2.1,p.2.2.2.2.2.2.2.2.2.2.2.1,p.2.2.2.2.2.2.2.2.2.2.2.2.1,p.2.2.2.2.2.2.2.2.2.2.2.2.2.1,p.2.2.2.2.2.2.2.2.2.2.2.2.2.2.1,p.2.2.2.2.2.2.2.2.2.2.2.2.2.2.2.1,p.2.2.2.2.2.2.2.2.2.2.2.2.2.2.2.2.1,p.2.2.2.2.2.2.2.2.2.2.2.2.2.2.2.2.2.1,cJ,p.2.2.2.2.2.2.2.2.2.2.2.2.2.2.2.2.2.2.2.1,p.2.2.2.2.2.2.2.2.2.2.2.2.2.2.2.2.2.2.2.2.1,p.2.2.2.2.2.2.2.2.2.2.2.2.2.2.2.2.2.2.2.2.2.1,p.2.2.2.2.2.2.2.2.2.2.2.2.2.2.2.2.2.2.2.2.2.2.1,p.2.2.2.2.2.2.2.2.2.2.2.2.2.2.2.2.2.2.2.2.2.2.2.1,cI,cH,())
theorem B7z{p:Pk}{pl wl:List p9}{cl:List Int}{sl:List A0A}{fl:List B3O}{cc:Int}(hr:C9h h0 p pl wl cl sl fl)(fT:cc=IntKind.wrap .i64 (p.2.2.2.2.2.2.2.1))
  (hq:∀c1 c2 p1 p2 w1 w2 s1 s2 f1 f2:Slc,At (U5 X1 4 p1 (pl.take 80)::U5 Y2 5 s1 (sl.take 80)::U5 A0a 1 f1 (fl.take 80)::U5 X1 4 p2 (pl.take 80)::U5 Y2 5 s2 (sl.take 80)::U5 A0a 1 f2 (fl.take 80)::old h0::L1) (Q (.tuple #[A2s .u8 (pkR p (p.2.2.2.2.2.2.2.1) c1 p1 w1 s1 f1),A2s .i64 (pkR p cc c2 p2 w2 s2 f2)])))
  (hx:Has L (old h0) L1:=by repeat first|with_reducible exact V0|apply V2):FW prog 16 #[A2s .u8 p] L Q:=by
 refine fun h hs=>A9z p h Q ((?_:W (old h0::L1) _ _) h (hx.s hs))
 clear hs h hx
 obtain⟨uR,pX,uS,pW,pV⟩:=hr
 obtain⟨vk,vd,vr,vq,vi,vt,vp,vc,s8,s9,bZ,bU,bL,bN,cn,cw,cv,cq,cJ,bQ,bT,vu,bI,bF,cI,cH,⟨⟩⟩:=p
 dsimp only at uR pX uS pW pV fT hq
 delta A9U ad az bn g2 A0N g6 ie ix jb jc ji jt ju kb kc ki kt lt lu nw pu rq sn so sw sx ve vi vs vz w10 w11 w12 w13 w14 w15 w16 w17 w18 w19 w20 w21 w22 w23 w24 w25 w5 w6 w7 w8 w9 wi
 let C8:Slc→Slc→Slc→Slc→Slc→C9O:=fun a b c d e=>#[.int .i64 vk,.bool vd,.bool vr,.int .i64 vq,.int .i64 vi,.string vt,.string vp,.int .u8 vc,.slice a.a a.len a.cap,.slice b.a b.len b.cap,.string bZ,.bool bU,.int .i64 bL,.bool bN,.string cn,.string cw,.int .i64 cv,.bool cq,.slice c.a c.len c.cap,.bool bQ,.bool bT,.string vu,.string bI,.bool bF,.slice d.a d.len d.cap,.slice e.a e.len e.cap]
 let C6:Slc→Slc→Slc→Slc→Slc→C9O:=fun a b c d e=>#[.int .i64 vk,.bool vd,.bool vr,.int .i64 vq,.int .i64 vi,.string vt,.string vp,.int .i64 cc,.slice a.a a.len a.cap,.slice b.a b.len b.cap,.string bZ,.bool bU,.int .i64 bL,.bool bN,.string cn,.string cw,.int .i64 cv,.bool cq,.slice c.a c.len c.cap,.bool bQ,.bool bT,.string vu,.string bI,.bool bF,.slice d.a d.len d.cap,.slice e.a e.len e.cap]
 refine Y1 fun x1=>?_
 refine W.cells (b:=x1) (C8 s8 s9 cJ cI cH) ?_
 refine Y1 fun x2=>?_
 refine Y1 fun x3=>?_
 refine W.load (b:=x1) (v:=vk) ?_
 refine W.load (b:=x1) (v:=vd) ?_
 refine W.load (b:=x1) (v:=vr) ?_
 refine W.load (b:=x1) (v:=vq) ?_
 refine W.load (b:=x1) (v:=vi) ?_
 refine W.load (b:=x1) (v:=vt) ?_
 refine W.load (b:=x1) (v:=vp) ?_
 refine W.load (b:=x1) (v:=vc) ?_
 refine W.load (b:=x1) (v:=bZ) ?_
 refine W.load (b:=x1) (v:=bU) ?_
 refine W.load (b:=x1) (v:=bL) ?_
 refine W.load (b:=x1) (v:=bN) ?_
 refine W.load (b:=x1) (v:=bQ) ?_
 refine W.load (b:=x1) (v:=bT) ?_
 refine W.load (b:=x1) (v:=vu) ?_
 refine W.load (b:=x1) (v:=bI) ?_
 refine W.load (b:=x1) (v:=bF) ?_
 refine Y1 fun dz=>?_
 refine y8 (b:=dz) ?_
 refine W.cells (b:=dz) (#[.int .i64 vk,.bool vd,.bool vr,.int .i64 vq,.int .i64 vi,.string vt,.string vp,.int .u8 vc,.slice none 0 0,.slice none 0 0,.string bZ,.bool bU,.int .i64 bL,.bool bN,.string e0S,.string e0S,.int .i64 0,.bool false,.slice none 0 0,.bool bQ,.bool bT,.string vu,.string bI,.bool bF,.slice none 0 0,.slice none 0 0]) ?_
 refine W.load (b:=x1) (v:=vk) ?_
 refine W.load (b:=x1) (v:=vd) ?_
 refine W.load (b:=x1) (v:=vr) ?_
 refine W.load (b:=x1) (v:=vq) ?_
 refine W.load (b:=x1) (v:=vi) ?_
 refine W.load (b:=x1) (v:=vt) ?_
 refine W.load (b:=x1) (v:=vp) ?_
 refine W.load (b:=x1) (v:=vc) ?_
 refine W.load (b:=x1) (v:=bZ) ?_
 refine W.load (b:=x1) (v:=bU) ?_
 refine W.load (b:=x1) (v:=bL) ?_
 refine W.load (b:=x1) (v:=bN) ?_
 refine W.load (b:=x1) (v:=bQ) ?_
 refine W.load (b:=x1) (v:=bT) ?_
 refine W.load (b:=x1) (v:=vu) ?_
 refine W.load (b:=x1) (v:=bI) ?_
 refine W.load (b:=x1) (v:=bF) ?_
 refine Y1 fun dD=>?_
 refine y8 (b:=dD) ?_
 rw[←fT]
 refine W.cells (b:=dD) (#[.int .i64 vk,.bool vd,.bool vr,.int .i64 vq,.int .i64 vi,.string vt,.string vp,.int .i64 cc,.slice none 0 0,.slice none 0 0,.string bZ,.bool bU,.int .i64 bL,.bool bN,.string e0S,.string e0S,.int .i64 0,.bool false,.slice none 0 0,.bool bQ,.bool bT,.string vu,.string bI,.bool bF,.slice none 0 0,.slice none 0 0]) ?_
 refine W.load (b:=x1) (v:=s9) ?_
 refine Z1 (C2K uR (fun p1 p2=>At.bD (x:=(p1,p2,())) ?_))
 refine W.store (b:=dz) (cs':=#[.int .i64 vk,.bool vd,.bool vr,.int .i64 vq,.int .i64 vi,.string vt,.string vp,.int .u8 vc,.slice none 0 0,.slice p1.a p1.len p1.cap,.string bZ,.bool bU,.int .i64 bL,.bool bN,.string e0S,.string e0S,.int .i64 0,.bool false,.slice none 0 0,.bool bQ,.bool bT,.string vu,.string bI,.bool bF,.slice none 0 0,.slice none 0 0]) ?_
 refine W.store (b:=dD) (cs':=#[.int .i64 vk,.bool vd,.bool vr,.int .i64 vq,.int .i64 vi,.string vt,.string vp,.int .i64 cc,.slice none 0 0,.slice p2.a p2.len p2.cap,.string bZ,.bool bU,.int .i64 bL,.bool bN,.string e0S,.string e0S,.int .i64 0,.bool false,.slice none 0 0,.bool bQ,.bool bT,.string vu,.string bI,.bool bF,.slice none 0 0,.slice none 0 0]) ?_
 refine e8 (b:=x1) (i:=14) (v:=cn) ?_
 refine e8 (b:=x1) (i:=15) (v:=cw) ?_
 refine e8 (b:=x1) (i:=16) (v:=cv) ?_
 refine e8 (b:=x1) (i:=17) (v:=cq) ?_
 refine C9f (b:=dz) (cs':=(C8 l0 p1 l0 l0 l0)) ?_
 refine e8 (b:=x1) (i:=14) (v:=cn) ?_
 refine e8 (b:=x1) (i:=15) (v:=cw) ?_
 refine e8 (b:=x1) (i:=16) (v:=cv) ?_
 refine e8 (b:=x1) (i:=17) (v:=cq) ?_
 refine C9f (b:=dD) (cs':=(C6 l0 p2 l0 l0 l0)) ?_
 refine e8 (b:=x1) (i:=18) (v:=cJ) ?_
 refine Z1 (C2K pX (fun w1 w2=>At.bD (x:=(w1,w2,())) ?_))
 refine A4j (b:=dz) (i:=18) (cs':=(C8 l0 p1 w1 l0 l0)) ?_
 refine A4j (b:=dD) (i:=18) (cs':=(C6 l0 p2 w2 l0 l0)) ?_
 refine W.load (b:=x1) (v:=s8) ?_
 refine W.load (b:=x1) (v:=s8) ?_
 refine C68 uS (fun s' dw=>?_)
 have jw:(cl.take 80).length≤80:=J0 _ _
 generalize fc:cl.take 80=xs at dw jw
 clear fc
 refine B67 (eKd .u8) 1 (xs.take 0) ?_
 refine B67 (eKd .i64) 1 ((xs.take 0).map (IntKind.wrap .i64)) ?_
 refine W.loop (γ:=Nat×Slc×Slc) (fun g s=>s.1=(g.1:Int)∧g.1≤xs.length) (fun g s=>cells dz (C8 g.2.1 p1 w1 l0 l0)::cells dD (C6 g.2.2 p2 w2 l0 l0)::U5 (eKd .u8) 1 g.2.1 (xs.take g.1)::U5 (eKd .i64) 1 g.2.2 ((xs.take g.1).map (IntKind.wrap .i64))::cells x1 ((C8 s8 s9 cJ cI cH))::cells x2 zS3::cells x3 zS2::U5 X1 4 p1 (pl.take 80)::U5 X1 4 p2 (pl.take 80)::old h0::L1)
  (fun g=>xs.length-g.1) (0,l0,l0) ⟨rfl,D1 _⟩ ?_ ?_
 ·show Sub _ (cells dz (C8 l0 p1 w1 l0 l0)::cells dD (C6 l0 p2 w2 l0 l0)::U5 (eKd .u8) 1 l0 (xs.take 0)::U5 (eKd .i64) 1 l0 ((xs.take 0).map (IntKind.wrap .i64))::cells x1 ((C8 s8 s9 cJ cI cH))::cells x2 zS3::cells x3 zS2::U5 X1 4 p1 (pl.take 80)::U5 X1 4 p2 (pl.take 80)::old h0::L1)
  repeat(first|with_reducible exact T6|with_reducible exact T7|refine T8 (by repeat first|with_reducible exact V0|apply V2) ?_|refine U0 ?_)
 rintro⟨i,c1,c2⟩ s ⟨hi,cK⟩ K k1 k2
 simp only at hi cK
 by_cases ah:i<xs.length
 ·refine X6 (by rw[hi,dw.1];exact decide_eq_true (by omega)) ?_
  have aY:xs[i]? =some xs[i]:=B0 ah
  have aU:xs.take (i+1)=xs.take i++[xs[i]]:=C7 ah
  generalize xs[i]=u at aY aU
  have fU:((xs.take i).length+1)*1≤140737488355328:=by simp only[C2,E6];omega
  have dy:(((xs.take i).map (IntKind.wrap .i64)).length+1)*8≤140737488355328:=by simp only[C2,E6];omega
  have hn:∀T1 T2:Slc,At (cells dz (C8 T1 p1 w1 l0 l0)::cells dD (C6 T2 p2 w2 l0 l0)::U5 (eKd .u8) 1 T1 (xs.take i++[u])::U5 (eKd .i64) 1 T2 ((xs.take i).map (IntKind.wrap .i64)++[IntKind.wrap .i64 u])::cells x1 ((C8 s8 s9 cJ cI cH))::cells x2 zS3::cells x3 zS2::U5 X1 4 p1 (pl.take 80)::U5 X1 4 p2 (pl.take 80)::old h0::L1) (K (.inl (IntKind.wrap .i64 (s.1+1),()))):=fun T1 T2=>by
   have:=k1 (i+1,T1,T2) (IntKind.wrap .i64 (s.1+1),()) (by simp only;omega) ⟨by simp only[hi];rw[V8 (by omega) (by omega)];rfl,ah⟩
   simp only[aU,C0,B6,I4] at this
   exact this
  clear k1 k2
  refine A7P dw ah (fun a ha=>?_) (he:=hi)
  refine C7a (x:=u) (v:=u) dw ha aY ?_
  refine W.load (b:=dz) (v:=c1) ?_
  refine W.load (b:=dD) (v:=c2) ?_
  repeat' (first|with_reducible refine A7Q ?_ ?_|refine A9I (s:=c1) (enc:=eKd .u8) (u) (fun T1=>?_) fU|refine A9I (s:=c2) (enc:=eKd .i64) (IntKind.wrap .i64 u) (fun T2=>?_) dy|refine A1p ?_ rfl|refine W.load (b:=dD) (v:=c2) ?_|refine W.load (b:=dz) (v:=c1) ?_|refine Y1 fun _=>?_)
  all_goals
   refine W.store (b:=dz) (cs':=(C8 T1 p1 w1 l0 l0)) ?_
   refine W.store (b:=dD) (cs':=(C6 T2 p2 w2 l0 l0)) ?_
   exact U2 (hn T1 T2).sub
 refine W6 (by rw[hi,dw.1];exact decide_eq_false (by omega)) (U2 (k2 _ _ ?_))
 have ej:i=xs.length:=by omega
 subst ej
 clear k1 k2 jw
 clear dw ah cK hi
 dsimp only
 refine W.load (b:=x1) (v:=cI) ?_
 refine W.load (b:=x1) (v:=cI) ?_
 refine C68 pW (fun s' dw=>?_)
 have jw:(sl.take 80).length≤80:=J0 _ _
 generalize fc:sl.take 80=xs at dw hq jw
 clear fc
 refine B67 (Y2) 5 (xs.take 0) ?_
 refine B67 (Y2) 5 (xs.take 0) ?_
 refine W.loop (γ:=Nat×Slc×Slc) (fun g s=>s.1=(g.1:Int)∧g.1≤xs.length) (fun g s=>cells dz (C8 c1 p1 w1 g.2.1 l0)::cells dD (C6 c2 p2 w2 g.2.2 l0)::U5 (Y2) 5 g.2.1 (xs.take g.1)::U5 (Y2) 5 g.2.2 (xs.take g.1)::cells x1 ((C8 s8 s9 cJ cI cH))::cells x2 zS3::cells x3 zS2::U5 X1 4 p1 (pl.take 80)::U5 X1 4 p2 (pl.take 80)::old h0::L1)
  (fun g=>xs.length-g.1) (0,l0,l0) ⟨rfl,D1 _⟩ ?_ ?_
 ·show Sub _ (cells dz (C8 c1 p1 w1 l0 l0)::cells dD (C6 c2 p2 w2 l0 l0)::U5 (Y2) 5 l0 (xs.take 0)::U5 (Y2) 5 l0 (xs.take 0)::cells x1 ((C8 s8 s9 cJ cI cH))::cells x2 zS3::cells x3 zS2::U5 X1 4 p1 (pl.take 80)::U5 X1 4 p2 (pl.take 80)::old h0::L1)
  repeat(first|with_reducible exact T6|with_reducible exact T7|refine T8 (by repeat first|with_reducible exact V0|apply V2) ?_|refine U0 ?_)
 rintro⟨i,s1,s2⟩ s ⟨hi,cK⟩ K k1 k2
 simp only at hi cK
 by_cases ah:i<xs.length
 ·refine X6 (by rw[hi,dw.1];exact decide_eq_true (by omega)) ?_
  have aY:xs[i]? =some xs[i]:=B0 ah
  have aU:xs.take (i+1)=xs.take i++[xs[i]]:=C7 ah
  generalize xs[i]=u at aY aU
  have fU:((xs.take i).length+1)*40≤140737488355328:=by simp only[C2,E6];omega
  have dy:((xs.take i).length+1)*40≤140737488355328:=by simp only[C2,E6];omega
  have hn:∀T1 T2:Slc,At (cells dz (C8 c1 p1 w1 T1 l0)::cells dD (C6 c2 p2 w2 T2 l0)::U5 (Y2) 5 T1 (xs.take i++[u])::U5 (Y2) 5 T2 (xs.take i++[u])::cells x1 ((C8 s8 s9 cJ cI cH))::cells x2 zS3::cells x3 zS2::U5 X1 4 p1 (pl.take 80)::U5 X1 4 p2 (pl.take 80)::old h0::L1) (K (.inl (IntKind.wrap .i64 (s.1+1),()))):=fun T1 T2=>by
   have:=k1 (i+1,T1,T2) (IntKind.wrap .i64 (s.1+1),()) (by simp only;omega) ⟨by simp only[hi];rw[V8 (by omega) (by omega)];rfl,ah⟩
   simp only[aU,C0,B6,I4] at this
   exact this
  clear k1 k2 hq
  refine A7P dw ah (fun a ha=>?_) (he:=hi)
  refine B4v (x:=u) (v:=sbU u) dw ha aY ?_
  refine Y1 fun fV=>?_
  refine y8 (b:=fV) ?_
  refine W.load (b:=dz) (v:=s1) ?_
  refine r7 (b:=fV) (v:=sbU u) ?_
  refine W.load (b:=dD) (v:=s2) ?_
  refine r7 (b:=fV) (v:=sbU u) ?_
  repeat' (first|with_reducible refine A7Q ?_ ?_|refine A9I (s:=s1) (enc:=Y2) (u) (fun T1=>?_) fU|refine A9I (s:=s2) (enc:=Y2) (u) (fun T2=>?_) dy|refine A1p ?_ rfl|refine W.load (b:=dD) (v:=s2) ?_|refine W.load (b:=dz) (v:=s1) ?_|refine r7 (b:=fV) (v:=sbU u) ?_|refine Y1 fun _=>?_)
  all_goals
   refine W.store (b:=dz) (cs':=(C8 c1 p1 w1 T1 l0)) ?_
   refine W.store (b:=dD) (cs':=(C6 c2 p2 w2 T2 l0)) ?_
   exact U2 (hn T1 T2).sub
 refine W6 (by rw[hi,dw.1];exact decide_eq_false (by omega)) (U2 (k2 _ _ ?_))
 have ej:i=xs.length:=by omega
 subst ej
 clear k1 k2 jw
 rw[F9]
 dsimp only
 generalize xs=iM at*
 refine W.load (b:=x1) (v:=cH) ?_
 refine W.load (b:=x1) (v:=cH) ?_
 refine C68 pV (fun s' dw=>?_)
 have jw:(fl.take 80).length≤80:=J0 _ _
 generalize fc:fl.take 80=xs at dw hq jw
 clear fc
 refine B67 (A0a) 1 (xs.take 0) ?_
 refine B67 (A0a) 1 (xs.take 0) ?_
 refine W.loop (γ:=Nat×Slc×Slc) (fun g s=>s.1=(g.1:Int)∧g.1≤xs.length) (fun g s=>cells dz (C8 c1 p1 w1 s1 g.2.1)::cells dD (C6 c2 p2 w2 s2 g.2.2)::U5 (A0a) 1 g.2.1 (xs.take g.1)::U5 (A0a) 1 g.2.2 (xs.take g.1)::cells x1 ((C8 s8 s9 cJ cI cH))::cells x2 zS3::cells x3 zS2::U5 X1 4 p1 (pl.take 80)::U5 X1 4 p2 (pl.take 80)::U5 Y2 5 s1 iM::U5 Y2 5 s2 iM::old h0::L1)
  (fun g=>xs.length-g.1) (0,l0,l0) ⟨rfl,D1 _⟩ ?_ ?_
 ·show Sub _ (cells dz (C8 c1 p1 w1 s1 l0)::cells dD (C6 c2 p2 w2 s2 l0)::U5 (A0a) 1 l0 (xs.take 0)::U5 (A0a) 1 l0 (xs.take 0)::cells x1 ((C8 s8 s9 cJ cI cH))::cells x2 zS3::cells x3 zS2::U5 X1 4 p1 (pl.take 80)::U5 X1 4 p2 (pl.take 80)::U5 Y2 5 s1 iM::U5 Y2 5 s2 iM::old h0::L1)
  repeat(first|with_reducible exact T6|with_reducible exact T7|refine T8 (by repeat first|with_reducible exact V0|apply V2) ?_|refine U0 ?_)
 rintro⟨i,f1,f2⟩ s ⟨hi,cK⟩ K k1 k2
 simp only at hi cK
 by_cases ah:i<xs.length
 ·refine X6 (by rw[hi,dw.1];exact decide_eq_true (by omega)) ?_
  have aY:xs[i]? =some xs[i]:=B0 ah
  have aU:xs.take (i+1)=xs.take i++[xs[i]]:=C7 ah
  generalize xs[i]=u at aY aU
  have fU:((xs.take i).length+1)*16≤140737488355328:=by simp only[C2,E6];omega
  have dy:((xs.take i).length+1)*16≤140737488355328:=by simp only[C2,E6];omega
  have hn:∀T1 T2:Slc,At (cells dz (C8 c1 p1 w1 s1 T1)::cells dD (C6 c2 p2 w2 s2 T2)::U5 (A0a) 1 T1 (xs.take i++[u])::U5 (A0a) 1 T2 (xs.take i++[u])::cells x1 ((C8 s8 s9 cJ cI cH))::cells x2 zS3::cells x3 zS2::U5 X1 4 p1 (pl.take 80)::U5 X1 4 p2 (pl.take 80)::U5 Y2 5 s1 iM::U5 Y2 5 s2 iM::old h0::L1) (K (.inl (IntKind.wrap .i64 (s.1+1),()))):=fun T1 T2=>by
   have:=k1 (i+1,T1,T2) (IntKind.wrap .i64 (s.1+1),()) (by simp only;omega) ⟨by simp only[hi];rw[V8 (by omega) (by omega)];rfl,ah⟩
   simp only[aU,C0,B6,I4] at this
   exact this
  clear k1 k2 hq
  refine A7P dw ah (fun a ha=>?_) (he:=hi)
  refine C7a (x:=u) (v:=u) dw ha aY ?_
  refine W.load (b:=dz) (v:=f1) ?_
  refine W.load (b:=dD) (v:=f2) ?_
  repeat' (first|with_reducible refine A7Q ?_ ?_|refine A9I (s:=f1) (enc:=A0a) (u) (fun T1=>?_) fU|refine A9I (s:=f2) (enc:=A0a) (u) (fun T2=>?_) dy|refine A1p ?_ rfl|refine W.load (b:=dD) (v:=f2) ?_|refine W.load (b:=dz) (v:=f1) ?_|refine Y1 fun _=>?_)
  all_goals
   refine W.store (b:=dz) (cs':=(C8 c1 p1 w1 s1 T1)) ?_
   refine W.store (b:=dD) (cs':=(C6 c2 p2 w2 s2 T2)) ?_
   exact U2 (hn T1 T2).sub
 refine W6 (by rw[hi,dw.1];exact decide_eq_false (by omega)) (U2 (k2 _ _ ?_))
 have ej:i=xs.length:=by omega
 subst ej
 clear k1 k2 jw
 rw[F9]
 dsimp only
 refine r7 (b:=dz) (v:=(vk,vd,vr,vq,vi,vt,vp,vc,c1,p1,bZ,bU,bL,bN,cn,cw,cv,cq,w1,bQ,bT,vu,bI,bF,s1,f1,())) ?_
 refine r7 (b:=dD) (v:=(vk,vd,vr,vq,vi,vt,vp,cc,c2,p2,bZ,bU,bL,bN,cn,cw,cv,cq,w2,bQ,bT,vu,bI,bF,s2,f2,())) ?_
 refine y8 (b:=x2) ?_
 refine r7 (b:=dD) (v:=(vk,vd,vr,vq,vi,vt,vp,cc,c2,p2,bZ,bU,bL,bN,cn,cw,cv,cq,w2,bQ,bT,vu,bI,bF,s2,f2,())) ?_
 refine A1p ?_ rfl
 refine y8 (b:=x3) ?_
 refine r7 (b:=x2) (v:=(vk,vd,vr,vq,vi,vt,vp,vc,c1,p1,bZ,bU,bL,bN,cn,cw,cv,cq,w1,bQ,bT,vu,bI,bF,s1,f1,())) ?_
 refine r7 (b:=x3) (v:=(vk,vd,vr,vq,vi,vt,vp,cc,c2,p2,bZ,bU,bL,bN,cn,cw,cv,cq,w2,bQ,bT,vu,bI,bF,s2,f2,())) ?_
 exact U2 (hq c1 c2 p1 p2 w1 w2 s1 s2 f1 f2).sub
end
section
open Go.ChangeShapes Go.WideShapes Go.ChangeAt Go.RowKit Go.Proofs Go.Lib Go.H
structure PkQ where
 pk:Pk
 cl:List Int
 pl:List p9
 wl:List p9
 sl:List A0A
 fl:List B3O
structure PkG(top:Nat)(h:Heap)(x:PkQ):Prop where
 rows:C9h h x.pk x.pl x.wl x.cl x.sl x.fl
 bX:x.pk.2.2.2.2.2.1.size≤top
 aC:(x.pk.2.2.2.2.2.2.2.2.2.2.1).size≤top
 aX:(x.pk.2.2.2.2.2.2.2.2.2.2.2.2.2.2.1).size≤top
 aH:∀s∈x.sl,s.1.size≤top
 eF:∀f∈x.fl,f.size≤top
 code:(Lit.int .u8 x.pk.2.2.2.2.2.2.2.1).wf=true
structure EvQ where
 cD:Int
 conn:Int
 p:PkQ
 full:Bool
 m:MsT
structure EvG(top:Nat)(h:Heap)(x:EvQ):Prop where
 p:PkG top h x.p
 conn:(Lit.int .i64 x.conn).wf=true
 cD:(Lit.int .i64 x.cD).wf=true
 bX:x.m.1.size≤top
abbrev B3T(x:EvQ):C9P:=[.int .i64 x.cD,.int .i64 x.conn]++W8 .u8 x.p.pk++[.bool x.full,.string x.m.1,.string x.m.2.1,.int .i64 x.m.2.2.1,.bool x.m.2.2.2.1,.string x.m.2.2.2.2]
section
variable {H:Type} {ec:TypeId×Value→H} {w:World} {base:Nat} {sp:Nat→Bool} {held:Bool} {ok:TypeId→DataW H→Prop} {top:Nat} {wt:TypeId→Nat}
theorem B7u(hk:Go.R.OkLaw prog ok top wt):Go.R.RdG ec prog w base sp held ok 193 X1 (fun x:p9=>(Lit.int .i64 x.1).wf=true∧(Lit.int .i64 x.2.1).wf=true∧x.2.2.1.size≤top∧x.2.2.2.size≤top):=
 Go.R.rg_map (fun x:p9=>x) (Go.R.rg_struct hk underlying193 (n:=4) (by kernel_rfl) (Go.R.rf_cons (c:=1) (by kernel_rfl) (by rfl) (Go.R.rg_int underlying3)
  (Go.R.rf_cons (c:=1) (by kernel_rfl) (by rfl) (Go.R.rg_int underlying3)
  (Go.R.rf_cons (c:=1) (by kernel_rfl) (by rfl) (Go.R.rg_str hk underlying9)
  (Go.R.rf_one (c:=1) (by kernel_rfl) (by rfl) (by decide) (Go.R.rg_str hk underlying9)))))) (fun _=>rfl) (fun _ h=>h)
theorem C43(hk:Go.R.OkLaw prog ok top wt):Go.R.RdG ec prog w base sp held ok 119 Y2 (fun x:A0A=>x.1.size≤top∧(Lit.int .i64 x.2.1).wf=true∧True∧True∧(Lit.int .i64 x.2.2.2.2).wf=true):=
 Go.R.rg_map (fun x:A0A=>x) (Go.R.rg_struct hk underlying119 (n:=5) (by kernel_rfl) (Go.R.rf_cons (c:=1) (by kernel_rfl) (by rfl) (Go.R.rg_str hk underlying9)
  (Go.R.rf_cons (c:=1) (by kernel_rfl) (by rfl) (Go.R.rg_int underlying3)
  (Go.R.rf_cons (c:=1) (by kernel_rfl) (by rfl) (Go.R.rg_bool underlying4)
  (Go.R.rf_cons (c:=1) (by kernel_rfl) (by rfl) (Go.R.rg_bool underlying4)
  (Go.R.rf_one (c:=1) (by kernel_rfl) (by rfl) (by decide) (Go.R.rg_int underlying3))))))) (fun _=>rfl) (fun _ h=>h)
theorem C44(hk:Go.R.OkLaw prog ok top wt):Go.R.RdG ec prog w base sp held ok 29 Z6 (fun x:MsT=>x.1.size≤top∧x.2.1.size≤top∧(Lit.int .i64 x.2.2.1).wf=true∧True∧x.2.2.2.2.size≤top):=
 Go.R.rg_map (fun x:MsT=>x) (Go.R.rg_struct hk underlying29 (n:=5) (by kernel_rfl) (Go.R.rf_cons (c:=1) (by kernel_rfl) (by rfl) (Go.R.rg_str hk underlying9)
  (Go.R.rf_cons (c:=1) (by kernel_rfl) (by rfl) (Go.R.rg_str hk underlying9)
  (Go.R.rf_cons (c:=1) (by kernel_rfl) (by rfl) (Go.R.rg_int underlying3)
  (Go.R.rf_cons (c:=1) (by kernel_rfl) (by rfl) (Go.R.rg_bool underlying4)
  (Go.R.rf_one (c:=1) (by kernel_rfl) (by rfl) (by decide) (Go.R.rg_str hk underlying9))))))) (fun _=>rfl) (fun _ h=>h)
abbrev C6a:=B3O×B3O×Int×Bool×(Slc×List p9)
theorem C3B(hk:Go.R.OkLaw prog ok top wt):Go.R.RdG ec prog w base sp held ok 57 (fun x:C6a=>[.string x.1,.string x.2.1,.int .i64 x.2.2.1,.bool x.2.2.2.1,.slice x.2.2.2.2.1.a x.2.2.2.2.1.len x.2.2.2.2.1.cap]) (fun x=>x.1.size≤top∧Z7 X1 4 w.heap x.2.2.2.2.1 x.2.2.2.2.2):=
 Go.R.rg_map (fun x:C6a=>x) (Go.R.rg_struct hk underlying57 (n:=5) (by kernel_rfl) (Go.R.rf_cons (c:=1) (by kernel_rfl) (by rfl) (Go.R.rg_str hk underlying9)
  (Go.R.rf_cons (c:=1) (by kernel_rfl) (by rfl) (Go.R.rg_str hk underlying9)
  (Go.R.rf_cons (c:=1) (by kernel_rfl) (by rfl) (Go.R.rg_int underlying3)
  (Go.R.rf_cons (c:=1) (by kernel_rfl) (by rfl) (Go.R.rg_bool underlying4)
  (Go.R.rf_one (c:=1) (by kernel_rfl) (by rfl) (by decide) (Go.R.rg_slice hk underlying55 (by kernel_rfl) rfl (B7u hk)))))))) (fun _=>rfl) (fun _ h=>⟨h.1,h.2.2.2.2.row⟩)
abbrev C9g:=Int×Bool×Bool×Int×Int×B3O×B3O×Int×(Slc×List Int)×(Slc×List p9)×B3O×Bool×Int×Bool×C6a×Bool×Bool×B3O×B3O×Bool×(Slc×List A0A)×(Slc×List B3O)
def C8M:C9g→PkQ|(vk,vd,vr,vq,vi,vt,vp,vc,(s8,cl),(s9,pl),bZ,bU,bL,bN,(cn,cw,cv,cq,cJ,wl),bQ,bT,vu,bI,bF,(cI,sl),(cH,fl))=>⟨(vk,vd,vr,vq,vi,vt,vp,vc,s8,s9,bZ,bU,bL,bN,cn,cw,cv,cq,cJ,bQ,bT,vu,bI,bF,cI,cH,()),cl,pl,wl,sl,fl⟩
theorem B9L(hk:Go.R.OkLaw prog ok top wt):Go.R.RdG ec prog w base sp held ok 60 (fun x:PkQ=>W8 .u8 x.pk) (PkG top w.heap):=
 Go.R.rg_map C8M (Go.R.rg_struct hk underlying60 (n:=26) (by kernel_rfl) (Go.R.rf_cons (c:=1) (by kernel_rfl) (by rfl) (Go.R.rg_int underlying3)
  (Go.R.rf_cons (c:=1) (by kernel_rfl) (by rfl) (Go.R.rg_bool underlying4)
  (Go.R.rf_cons (c:=1) (by kernel_rfl) (by rfl) (Go.R.rg_bool underlying4)
  (Go.R.rf_cons (c:=1) (by kernel_rfl) (by rfl) (Go.R.rg_int underlying3)
  (Go.R.rf_cons (c:=1) (by kernel_rfl) (by rfl) (Go.R.rg_int underlying3)
  (Go.R.rf_cons (c:=1) (by kernel_rfl) (by rfl) (Go.R.rg_str hk underlying9)
  (Go.R.rf_cons (c:=1) (by kernel_rfl) (by rfl) (Go.R.rg_str hk underlying9)
  (Go.R.rf_cons (c:=1) (by kernel_rfl) (by rfl) (Go.R.rg_int underlying5)
  (Go.R.rf_cons (c:=1) (by kernel_rfl) (by rfl) (Go.R.rg_slice hk underlying54 (by kernel_rfl) rfl (Go.R.rg_int underlying5))
  (Go.R.rf_cons (c:=1) (by kernel_rfl) (by rfl) (Go.R.rg_slice hk underlying55 (by kernel_rfl) rfl (B7u hk))
  (Go.R.rf_cons (c:=1) (by kernel_rfl) (by rfl) (Go.R.rg_str hk underlying9)
  (Go.R.rf_cons (c:=1) (by kernel_rfl) (by rfl) (Go.R.rg_bool underlying4)
  (Go.R.rf_cons (c:=1) (by kernel_rfl) (by rfl) (Go.R.rg_int underlying3)
  (Go.R.rf_cons (c:=1) (by kernel_rfl) (by rfl) (Go.R.rg_bool underlying4)
  (Go.R.rf_cons (c:=5) (by kernel_rfl) (by rfl) (C3B hk)
  (Go.R.rf_cons (c:=1) (by kernel_rfl) (by rfl) (Go.R.rg_bool underlying4)
  (Go.R.rf_cons (c:=1) (by kernel_rfl) (by rfl) (Go.R.rg_bool underlying4)
  (Go.R.rf_cons (c:=1) (by kernel_rfl) (by rfl) (Go.R.rg_str hk underlying9)
  (Go.R.rf_cons (c:=1) (by kernel_rfl) (by rfl) (Go.R.rg_str hk underlying9)
  (Go.R.rf_cons (c:=1) (by kernel_rfl) (by rfl) (Go.R.rg_bool underlying4)
  (Go.R.rf_cons (c:=1) (by kernel_rfl) (by rfl) (Go.R.rg_slice hk underlying58 (by kernel_rfl) rfl (C43 hk))
  (Go.R.rf_one (c:=1) (by kernel_rfl) (by rfl) (by decide) (Go.R.rg_slice hk underlying43 (by kernel_rfl) rfl (Go.R.rg_str hk underlying9)))))))))))))))))))))))))
  (fun(vk,vd,vr,vq,vi,vt,vp,vc,(s8,cl),(s9,pl),bZ,bU,bL,bN,(cn,cw,cv,cq,cJ,wl),bQ,bT,vu,bI,bF,(cI,sl),(cH,fl))=>rfl) (fun(vk,vd,vr,vq,vi,vt,vp,vc,(s8,cl),(s9,pl),bZ,bU,bL,bN,(cn,cw,cv,cq,cJ,wl),bQ,bT,vu,bI,bF,(cI,sl),(cH,fl)) ⟨_,_,_,_,_,g5,_,g7,g8,g9,g10,_,_,_,g14,_,_,_,_,_,g20,g21⟩=>⟨⟨g9.row,g14.2,g8.row,g20.row,g21.row⟩,g5,g10,g14.1,fun s hs=>(g20.bR s hs).1,fun f hf=>g21.bR f hf,g7⟩)
def C8N:Int×Int×PkQ×Bool×MsT→EvQ|(a,b,c,d,e)=>⟨a,b,c,d,e⟩
theorem B5i(hk:Go.R.OkLaw prog ok top wt):Go.R.RdG ec prog w base sp held ok 62 B3T (EvG top w.heap):=
 Go.R.rg_map C8N (Go.R.rg_struct hk underlying62 (n:=34) (by kernel_rfl) (Go.R.rf_cons (c:=1) (by kernel_rfl) (by rfl) (Go.R.rg_int underlying3)
  (Go.R.rf_cons (c:=1) (by kernel_rfl) (by rfl) (Go.R.rg_int underlying3)
  (Go.R.rf_cons (c:=26) (by kernel_rfl) (by rfl) (B9L hk)
  (Go.R.rf_cons (c:=1) (by kernel_rfl) (by rfl) (Go.R.rg_bool underlying4)
  (Go.R.rf_one (c:=5) (by kernel_rfl) (by rfl) (by decide) (C44 hk)))))))
  (fun(a,b,c,d,e)=>rfl) (fun(a,b,c,d,e) ⟨g0,g1,g2,_,g4⟩=>⟨g2,g1,g0,g4.1⟩)
theorem B9M(hk:Go.R.OkLaw prog ok top wt):Go.R.RdG ec prog w base sp held ok 53 (fun x:Slc×List EvQ=>[.slice x.1.a x.1.len x.1.cap]) (Go.R.GoodG B3T 34 (wt 62) top w.heap (EvG top w.heap)):=
 Go.R.rg_slice hk underlying53 (by kernel_rfl) rfl (B5i hk)
end
end
section
open Go.H Go.Proofs
variable {h h0:Heap} {L L' L1 L2 L3 L4 L5 R:List Asn} {Q:Value→Heap→Prop}
theorem C8s{α γ:Type}{enc:γ→C9P}{size n:Nat}{m:HM α}{Q':α→Heap→Prop}{x:Nat}{cs:C9O}(us:List γ)(hw:W (U5 enc size ⟨some ⟨x,0,none⟩,n,n⟩ us::L') m Q')(hx:Has L (cells x cs) L':=by repeat first|with_reducible exact V0|apply V2)(hc:cs=(us.flatMap enc).toArray:=by rfl)(hn:us.length=n:=by rfl)[Enc enc size]:W L m Q':=fun h hs=>by
 subst hc hn
 have hl:=y5 (Enc.len (enc:=enc)) us
 refine hw h (A1D (b:=x) (o:=0) (cs:=(us.flatMap enc).toArray) ⟨by simp,D9 _,rfl,by simp[hl],by
  simp only[S9,S4]
  exact D6 (T4 hl)⟩ (hx.s hs))
theorem C6O{α β:Type}{f:α→β}{T:List α}{x y:β}(h:T.map f=[x,y]):∃a b,T=[a,b]∧f a=x∧f b=y:=by
 rcases T with _|⟨a,_|⟨b,_|⟨c,T⟩⟩⟩<;>simp at h
 exact⟨a,b,rfl,h⟩
theorem z0:0≤999999:=by decide
theorem z2:2≤999999:=by decide
theorem nd0:(([]:List X2).map (·.c)).Nodup:=by simp
theorem kl0:([]:List j7).length≤64:=by decide
theorem ci1: -9223372036854775808≤(1:Int)∧(1:Int)≤9223372036854775807:=by decide
theorem ci2: -9223372036854775808≤(2:Int)∧(2:Int)≤9223372036854775807:=by decide
theorem sz1:tC1.size≤9223372036854775807:=by decide
theorem sl2:slW.length≤100:=by decide
theorem ss2:∀s∈slW,s.1.size≤9223372036854775807:=by decide
theorem sl0:([]:List A0A).length≤100:=by decide
theorem ss0:∀s∈([]:List A0A),s.1.size≤9223372036854775807:=by simp
theorem nd2:(B2w.aB.map (·.c)).Nodup:=by decide
theorem kl2:B2w.kept.length≤64:=by decide
theorem wr2:(slW=[]∧B2w=B1w)∨(slW≠[]∧b8 false 1 (C6z 1 slW) B1w=⟨B2w,(⟨1,A0S 9 1 [1,0],false⟩:l4)::[],[]⟩∧(⟨1,A0S 9 1 [1,0],false⟩:l4).pk.kind=9∧(⟨1,A0S 9 1 [1,0],false⟩:l4).pk.cB.length=slW.length):=.inr ⟨by simp,w2,rfl,rfl⟩
theorem pkW:C0T (C6M mW 9) [] [] []:=C6L (by decide)
theorem C6u(ht:TP h0)(hq:At (old h0::L1) (Q (.bool true)))(hx:Has L (old h0) L1:=by repeat first|with_reducible exact V0|apply V2):FW prog 10 #[] L Q:=by
 refine fun h hs=>B1E h Q ((?_:W (old h0::L1) _ _) h (hx.s hs))
 clear hs h hx
 delta B3I az bn cb cp ie ix jc ki nw pu sn ve vi vs vz
 refine j1 (C51 (fun b=>At.un (x:=some ⟨b,0,none⟩) ?_))
 refine C4s (fun r=>r.1=false) (fun _=>A1c b B3w::old h0::L1) (fun K hK=>?_) (fun r hr=>?_)
 ·refine Y1 fun x2=>?_
  refine C8s (enc:=Y2) (x:=x2) (n:=2) slW ?_
  refine j1 (C5v (b:=b) (n:=0) (B:=⟨0,[],[],[],[]⟩) (B1:=B1w) (B2:=B2w) (c:=1) (aC:=tC1) (sl:=slW) (S:=⟨some ⟨x2,0,none⟩,2,2⟩) (o1:=⟨1,A1T false,false⟩) (r1:=[]) (o2:=⟨1,A0S 9 1 [1,0],false⟩) (r2:=[]) (ps:=[]) ht C1x z0 nd0 kl0 ci1 sz1 sl2 ss2 w1 rfl rfl wr2 (At.un (x:=true) ?_))
  refine W6 rfl ?_
  refine A4L Y2 5 ?_
  refine j1 (C5v (b:=b) (n:=2) (B:=B2w) (B1:=B3w) (B2:=B3w) (c:=2) (aC:=tD1) (sl:=[]) (S:=l0) (o1:=⟨2,A1T false,false⟩) (r1:=[]) (o2:=⟨2,A1T false,false⟩) (r2:=[]) (ps:=[]) ht C5b z2 nd2 kl2 ci2 sz1 sl0 ss0 w3 rfl rfl (.inl ⟨rfl,rfl⟩) (At.un (x:=true) ?_))
  exact U2 (hK (false,()) rfl).sub
 refine W6 hr ?_
 obtain⟨B,p,i,wK,wW⟩:=w4
 refine A4L Y2 5 ?_
 refine A4L A0a 1 ?_
 refine A4L X1 4 ?_
 refine j1 (A6X (b:=b) (B:=B3w) (c:=2) (p:=C6M mW 9) (pl:=[]) (sl:=[]) (fl:=[]) (full:=false) ht C8P (by decide) pkW ci2 (fun so sp=>At.un (x:=(so,sp,())) ?_))
 rw[show b8 false 2 (pkI (C6M mW 9) [] [] []) B3w=_ from wK]
 dsimp only
 refine Y1 fun x7=>?_
 refine y8 ?_
 refine Y9 (Y0 (enc:=Z6) (size:=5) (s:=sp) (xs:=[mW])) fun fu=>?_
 refine B9j (fun h R hs=>(A2v (k:=.u8) (s:=so)).1 hs) fun T hT=>?_
 obtain⟨u,v,rfl,hu,hv⟩:=C6O hT
 clear hT
 refine Y9 (Y0 (enc:=A0K .u8) (size:=28) (s:=so) (xs:=List.map ouF [u,v])) fun gm=>?_
 refine A02 (fun r=>r.1=true) (fun K hK=>?_) (fun r cQ=>?_)
 ·refine W.load (v:=so) ?_
  refine X6 (by rw[gm];rfl) ?_
  refine W.load (v:=so) ?_
  refine j4 (enc:=A0K .u8) (xs:=List.map ouF [u,v]) (i:=0) (by simp) (fun a ha=>?_)
  refine A4r (k:=0) (x:=ouF u) (v:=u.2.2.conn) ha rfl ?_
  refine X6 (by rw[hu];rfl) ?_
  refine W.load (v:=so) ?_
  refine j4 (enc:=A0K .u8) (xs:=List.map ouF [u,v]) (i:=0) (by simp) (fun a ha=>?_)
  refine C4t (x:=ouF u) (v:=u.2.2.pk.kind) ha rfl ?_
  refine X6 (by rw[hu];rfl) ?_
  refine W.load (v:=so) ?_
  refine j4 (enc:=A0K .u8) (xs:=List.map ouF [u,v]) (i:=1) (by simp) (fun a ha=>?_)
  refine A4r (k:=0) (x:=ouF v) (v:=v.2.2.conn) ha rfl ?_
  refine X6 (by rw[hv];rfl) ?_
  refine W.load (v:=so) ?_
  refine j4 (enc:=A0K .u8) (xs:=List.map ouF [u,v]) (i:=1) (by simp) (fun a ha=>?_)
  refine C4t (x:=ouF v) (v:=v.2.2.pk.eM) ha rfl ?_
  refine X6 (by rw[hv];show(p.2.2.1==1)=true;rw[wW];rfl) ?_
  refine e8 (b:=x7) (i:=1) (v:=sp) ?_
  refine U2 (hK _ ?_)
  rw[fu];rfl
 refine U2 ?_
 show At _ (Q (.bool r.1))
 rw[cQ]
 exact hq.sub
end
section
open Go.H Go.Proofs
variable {h h0:Heap} {L L' R:List Asn} {Q:Value→Heap→Prop}
def B6H(k:IntKind)(h0:Heap)(s:Slc)(os:List PkO):Prop:=∃T:List (Slc×Slc×PkO),T.map (·.2.2)=os∧Z7 (W8 k) 26 h0 s (T.map pkF)∧
 ∀t∈T,Z7 (eKd k) 1 h0 t.1 t.2.2.cB∧Z7 X1 4 h0 t.2.1 t.2.2.props
theorem B6H.len{k:IntKind}{s:Slc}{os:List PkO}(hp:B6H k h0 s os):s.len=os.length:=by
 obtain⟨T,rfl,h1,-⟩:=hp
 rw[h1.1];simp
structure A5U(o:PkO):Prop where
 code:0≤o.code∧o.code<256
 cB:∀c∈o.cB,0≤c∧c<256
 len1:o.cB.length≤1000000
 len2:o.props.length≤1000000
end
section
open Go.H Go.Proofs
variable {h h0:Heap} {L L' L1 R:List Asn} {Q:Value→Heap→Prop}
theorem C1c{s1 s2:Slc}{ms:List MsT}(h1:Z7 Z6 5 h0 s1 ms)(h2:Z7 Z6 5 h0 s2 ms)(hl:ms.length≤100000000)(hq:At [old h0] (Q (.bool true))):
  FW prog 51 #[.slice s1.a s1.len s1.cap,.slice s2.a s2.len s2.cap] [old h0] Q:=by
 refine fun h hs=>A54 s1 s2 h Q ((?_:W [old h0] _ _) h hs)
 clear hs h
 delta A43 bn g7 ie ix pu wi
 refine W6 (by rw[h1.1,h2.1];simp) ?_
 refine B31 ms.length (fun i x=>x.1=(i:Int)) (fun i x=>[old h0]) rfl Sub.rfl (fun i x hi hI=>by rw[hI,h1.1];exact G6.2 (by omega)) ?_ ?_
 ·rintro⟨_,⟨⟩⟩ hI K hd
  exact U2 (hd _ _ (W.inl (U2 hq)))
 ·rintro i ⟨_,⟨⟩⟩ ah hI K bx hd
  simp only at hI
  subst hI
  have hy:=B0 ah
  refine A7P h1 ah fun a ha=>B4v h1 ha hy (A7P h2 ah fun a2 dJ=>B4v h2 dJ hy ?_)
  refine W6 (by simp only[beq_self_eq_true,N7,decide_true,Bool.and_true,Bool.and_self]) (U2 (bx _ ?_))
  simp only;rw[V8 (by omega) (by omega)];rfl
theorem B4T{s1 s2:Slc}{os:List PkO}(h1:B6H .u8 h0 s1 os)(h2:B6H .i64 h0 s2 os)(hl:os.length≤1000000)(hf:∀o∈os,A5U o)(hq:At [old h0] (Q (.bool true))):
  FW prog 94 #[.slice s1.a s1.len s1.cap,.slice s2.a s2.len s2.cap] [old h0] Q:=by
 refine fun h hs=>A6L s1 s2 h Q ((?_:W [old h0] _ _) h hs)
 clear hs h
 have l1:=h1.len
 have l2:=h2.len
 obtain⟨T,hT,r1,sA⟩:=h1
 obtain⟨U,hU,r2,sz⟩:=h2
 have an:∀t∈T,A5U t.2.2:=fun t ht=>hf _ (by have:=B3 (f:=fun t:Slc×Slc×PkO=>t.2.2) ht;rw[hT] at this;exact this)
 have lT:T.length=os.length:=by rw[←hT];simp
 have lU:U.length=os.length:=by rw[←hU];simp
 delta A5I bn g2 A0N g8 ie ix jb jc ji jt ju li lu nw pu rq sn wi
 refine W6 (by rw[l1,l2];simp) ?_
 refine B31 os.length (fun i x=>x.1=(i:Int)) (fun i x=>[old h0]) rfl Sub.rfl (fun i x hi hI=>by rw[hI,l1];exact G6.2 (by omega)) ?_ ?_
 ·rintro⟨_,⟨⟩⟩ hI K hd
  exact U2 (hd _ _ (W.inl (U2 hq)))
 ·rintro i ⟨_,⟨⟩⟩ ah hI K bx hd
  simp only at hI
  subst hI
  have kN:T[i]? =some T[i]:=B0 (by omega)
  have nA:U[i]? =some U[i]:=B0 (by omega)
  have k1:=sA _ (E9 kN)
  have k2:=sz _ (E9 nA)
  have e1:T[i].2.2=U[i].2.2:=by
   have g1:=congrArg (fun l=>l[i]?) hT
   have g2:=congrArg (fun l=>l[i]?) hU
   simp only[J2,kN,nA,R8] at g1 g2
   rw[←g2] at g1
   exact Option.some.inj g1
  have di:A5U T[i].2.2:=an _ (E9 kN)
  have gF:(T.map pkF)[i]? =some (pkF T[i]):=by rw[J2,kN];rfl
  have fX:(U.map pkF)[i]? =some (pkF U[i]):=by rw[J2,nA];rfl
  generalize T[i]=t at gF k1 e1 di
  generalize U[i]=u at fX k2 e1
  obtain⟨c1,p1,o⟩:=t
  obtain⟨c2,p2,o2⟩:=u
  simp only at e1 k1 k2 di
  subst e1
  obtain⟨nz,nv⟩:=k1
  obtain⟨ny,nu⟩:=k2
  have uB:=nz.1
  have wF:=ny.1
  have uA:=nv.1
  have wE:=nu.1
  have f1:=di.len1
  have f2:=di.len2
  refine A7P r1 (by rw[C2];omega) fun a ha=>B4v (v:=pkT o c1 p1) r1 ha gF (A7P r2 (by rw[C2];omega) fun a2 dJ=>B4v (v:=pkT o c2 p2) r2 dJ fX ?_)
  refine A7Q ?_ ?_
  all_goals
   iterate 2
    refine Y1 fun _=>?_
    refine B4v (v:=pkT o c2 p2) r2 dJ fX (A1p ?_ rfl)
    refine B4v (v:=pkT o c1 p1) r1 ha gF (A1p ?_ rfl)
   refine y8 ?_
   refine B4v (v:=pkT o c2 p2) r2 dJ fX (A1p ?_ rfl)
   refine y8 ?_
   repeat(first|refine b6 ?_|refine X3 ?_|refine Y1 fun _=>?_|refine W.load ?_|refine B4u ?_|refine e8 ?_|(refine r7 ?_;try dsimp only)|(refine A7R ?_;try dsimp only)|refine y8 ?_|refine W.store ?_|refine W.store0 ?_|refine A4j ?_|refine A1p ?_ rfl|refine A1k rfl ?_|refine o0 rfl ?_|refine X6 rfl ?_|refine W6 rfl ?_|refine W.inl ?_|refine W.inr ?_|refine W4 ?_|refine o0 (Go.H.nbq _) ?_|refine W6 (Go.H.nbq _) ?_|refine o0 (Go.H.nbd rfl) ?_|refine W6 (Go.H.nbd rfl) ?_)
   refine o0 (by show(!(IntKind.wrap .i64 o.code==o.code))=false;rw[V8 (by have:=di.code;omega) (by have:=di.code;omega)];simp) ?_
   repeat(first|refine b6 ?_|refine X3 ?_|refine Y1 fun _=>?_|refine W.load ?_|refine B4u ?_|refine e8 ?_|(refine r7 ?_;try dsimp only)|(refine A7R ?_;try dsimp only)|refine y8 ?_|refine W.store ?_|refine W.store0 ?_|refine A4j ?_|refine A1p ?_ rfl|refine A1k rfl ?_|refine o0 rfl ?_|refine X6 rfl ?_|refine W6 rfl ?_|refine W.inl ?_|refine W.inr ?_|refine W4 ?_|refine o0 (Go.H.nbq _) ?_|refine W6 (Go.H.nbq _) ?_|refine o0 (Go.H.nbd rfl) ?_|refine W6 (Go.H.nbd rfl) ?_)
   refine o0 (by show(!(((p1.len:Nat):Int)==((p2.len:Nat):Int)))=false;rw[uA,wE];simp) ?_
   repeat(first|refine b6 ?_|refine X3 ?_|refine Y1 fun _=>?_|refine W.load ?_|refine B4u ?_|refine e8 ?_|(refine r7 ?_;try dsimp only)|(refine A7R ?_;try dsimp only)|refine y8 ?_|refine W.store ?_|refine W.store0 ?_|refine A4j ?_|refine A1p ?_ rfl|refine A1k rfl ?_|refine o0 rfl ?_|refine X6 rfl ?_|refine W6 rfl ?_|refine W.inl ?_|refine W.inr ?_|refine W4 ?_|refine o0 (Go.H.nbq _) ?_|refine W6 (Go.H.nbq _) ?_|refine o0 (Go.H.nbd rfl) ?_|refine W6 (Go.H.nbd rfl) ?_)
   refine o0 (by show(!(((c1.len:Nat):Int)==((c2.len:Nat):Int)))=false;rw[uB,wF];simp) ?_
   repeat(first|refine b6 ?_|refine X3 ?_|refine Y1 fun _=>?_|refine W.load ?_|refine B4u ?_|refine e8 ?_|(refine r7 ?_;try dsimp only)|(refine A7R ?_;try dsimp only)|refine y8 ?_|refine W.store ?_|refine W.store0 ?_|refine A4j ?_|refine A1p ?_ rfl|refine A1k rfl ?_|refine o0 rfl ?_|refine X6 rfl ?_|refine W6 rfl ?_|refine W.inl ?_|refine W.inr ?_|refine W4 ?_|refine o0 (Go.H.nbq _) ?_|refine W6 (Go.H.nbq _) ?_|refine o0 (Go.H.nbd rfl) ?_|refine W6 (Go.H.nbd rfl) ?_)
   refine B31 o.props.length (fun i x=>x.1=(i:Int)) (fun i x=>_) rfl Sub.rfl (fun i x hi hI=>by rw[hI];simp only[uA];exact G6.2 (by omega)) ?_ ?_
   ·rintro⟨_,⟨⟩⟩ uu K2 iA
    refine U2 (iA _ _ ?_)
    repeat(first|refine b6 ?_|refine X3 ?_|refine Y1 fun _=>?_|refine W.load ?_|refine B4u ?_|refine e8 ?_|(refine r7 ?_;try dsimp only)|(refine A7R ?_;try dsimp only)|refine y8 ?_|refine W.store ?_|refine W.store0 ?_|refine A4j ?_|refine A1p ?_ rfl|refine A1k rfl ?_|refine o0 rfl ?_|refine X6 rfl ?_|refine W6 rfl ?_|refine W.inl ?_|refine W.inr ?_|refine W4 ?_|refine o0 (Go.H.nbq _) ?_|refine W6 (Go.H.nbq _) ?_|refine o0 (Go.H.nbd rfl) ?_|refine W6 (Go.H.nbd rfl) ?_)
    refine B31 o.cB.length (fun i x=>x.1=(i:Int)) (fun i x=>_) rfl Sub.rfl (fun i x hi hI=>by rw[hI];simp only[uB];exact G6.2 (by omega)) ?_ ?_
    ·rintro⟨_,⟨⟩⟩ ur K3 vC
     refine U2 (vC _ _ (W.inl (U2 ((bx _ ?_).sub))))
     simp only;rw[V8 (by omega) (by omega)];rfl
    ·rintro j ⟨_,⟨⟩⟩ lK ur K3 tu vC
     simp only at ur
     subst ur
     have pE:=B0 lK
     have oS:=di.cB _ (H3 lK)
     refine W.load ?_
     refine A7P nz lK fun a ha=>C7a nz ha pE ?_
     refine W.load ?_
     refine A7P ny lK fun a2 dJ=>C7a ny dJ pE ?_
     refine W6 (by rw[V8 (by omega) (by omega)];simp only[beq_self_eq_true,N7,decide_true,Bool.and_true,Bool.and_self]) (U2 (tu _ ?_))
     simp only;rw[V8 (by omega) (by omega)];rfl
   ·rintro j ⟨_,⟨⟩⟩ lK uu K2 jM iA
    simp only at uu
    subst uu
    have pE:=B0 lK
    refine W.load ?_
    refine A7P nv lK fun a ha=>B4v nv ha pE ?_
    refine W.load ?_
    refine A7P nu lK fun a2 dJ=>B4v nu dJ pE ?_
    refine W6 (by simp only[beq_self_eq_true,N7,decide_true,Bool.and_true,Bool.and_self]) (U2 (jM _ ?_))
    simp only;rw[V8 (by omega) (by omega)];rfl
end
section
open Go.H Go.Proofs
variable {h h0:Heap} {L L' L1 R:List Asn} {Q:Value→Heap→Prop}
def B6J(k:IntKind)(h0:Heap)(s:Slc)(os:List l4):Prop:=∃T:List (Slc×Slc×l4),T.map (·.2.2)=os∧Z7 (A0K k) 28 h0 s (T.map ouF)∧
 ∀t∈T,Z7 (eKd k) 1 h0 t.1 t.2.2.pk.cB∧Z7 X1 4 h0 t.2.1 t.2.2.pk.props
theorem C2L{k:IntKind}{s:Slc}{os:List l4}(hs:sat h (V9 k s os::R)):B6J k h s os:=by
 obtain⟨T,hT,aa⟩:=A2v.1 hs
 refine⟨T,hT,aa.aO (Enc.len (enc:=A0K k)),fun t ht=>?_⟩
 obtain⟨R',ae⟩:=A8U ht aa.p1
 have aj:=A4C.1 ae
 exact⟨aj.aO (C24 k),aj.p1.aO C22⟩
theorem B6J.len{k:IntKind}{s:Slc}{os:List l4}(hp:B6J k h0 s os):s.len=os.length:=by
 obtain⟨T,rfl,h1,-⟩:=hp
 rw[h1.1];simp
theorem B1t{k:IntKind}{x:Nat}{o:PkO}{c p:Slc}(hs:sat h (U5 (W8 k) 26 ⟨some ⟨x,0,none⟩,1,1⟩ [pkT o c p]::R))(hc:Z7 (eKd k) 1 h c o.cB)(hp:Z7 X1 4 h p o.props):B6H k h ⟨some ⟨x,0,none⟩,1,1⟩ [o]:=
 ⟨[(c,p,o)],rfl,hs.aO (B5Z k),fun t ht=>by rw[B7.1 ht];exact⟨hc,hp⟩⟩
theorem C4u{β γ:Type}{enc:γ→C9P}{size:Nat}{s:Slc}{xs:List γ}{Q':β→Heap→Prop}{ts:List Tag}{i k:Nat}{a:Addr}{x:γ}{v:Tup ts}{f:Tup ts→HM β}(hr:Z7 enc size h0 s xs)(ha:El s size i a)(hi:xs[i]? =some x)(hw:W L (f v) Q')(hx:Has L (old h0) L':=by repeat first|with_reducible exact V0|apply V2)(hv:Tup.get ts (((enc x).drop k).take ts.length)=some v:=by rfl):W L (HM.bind (o3 ts (Addr.add a k)) f) Q':=fun h hs=>by
 have:=ha.row hr hi
 refine⟨v,fun j u hu=>?_,hw h hs⟩
 rw[←Tup.bJ ts _ v hv,M0] at hu
 split at hu
 ·rw[N8] at hu
  rw[A8X]
  exact(hx.s hs).bY (this _ u hu)
 ·cases hu
theorem C3w{s1 s2:Slc}{os:List l4}(h1:B6J .u8 h0 s1 os)(h2:B6J .i64 h0 s2 os)(hl:os.length≤100000000)(hf:∀o∈os,A5U o.pk)(hq:At [old h0] (Q (.bool true))):
  FW prog 50 #[.slice s1.a s1.len s1.cap,.slice s2.a s2.len s2.cap] [old h0] Q:=by
 refine fun h hs=>A9y s1 s2 h Q ((?_:W [old h0] _ _) h hs)
 clear hs h
 have l1:=h1.len
 have l2:=h2.len
 obtain⟨T,hT,r1,sA⟩:=h1
 obtain⟨U,hU,r2,sz⟩:=h2
 have an:∀t∈T,A5U t.2.2.pk:=fun t ht=>hf _ (by have:=B3 (f:=fun t:Slc×Slc×l4=>t.2.2) ht;rw[hT] at this;exact this)
 have lT:T.length=os.length:=by rw[←hT];simp
 have lU:U.length=os.length:=by rw[←hU];simp
 delta A9T az bn cb g2 A0N ie ix kb ki nw pu rq wi
 refine W6 (by rw[l1,l2];simp) ?_
 refine B31 os.length (fun i x=>x.1=(i:Int)) (fun i x=>[old h0]) rfl Sub.rfl (fun i x hi hI=>by rw[hI,l1];exact G6.2 (by omega)) ?_ ?_
 ·rintro⟨_,⟨⟩⟩ hI K hd
  exact U2 (hd _ _ (W.inl (U2 hq)))
 ·rintro i ⟨_,⟨⟩⟩ ah hI K bx hd
  simp only at hI
  subst hI
  have kN:T[i]? =some T[i]:=B0 (by omega)
  have nA:U[i]? =some U[i]:=B0 (by omega)
  have k1:=sA _ (E9 kN)
  have k2:=sz _ (E9 nA)
  have e1:T[i].2.2=U[i].2.2:=by
   have g1:=congrArg (fun l=>l[i]?) hT
   have g2:=congrArg (fun l=>l[i]?) hU
   simp only[J2,kN,nA,R8] at g1 g2
   rw[←g2] at g1
   exact Option.some.inj g1
  have di:A5U T[i].2.2.pk:=an _ (E9 kN)
  have gF:(T.map ouF)[i]? =some (ouF T[i]):=by rw[J2,kN];rfl
  have fX:(U.map ouF)[i]? =some (ouF U[i]):=by rw[J2,nA];rfl
  have jl:i<(T.map ouF).length:=by rw[C2];omega
  have jk:i<(U.map ouF).length:=by rw[C2];omega
  generalize T[i]=t at gF k1 e1 di
  generalize U[i]=u at fX k2 e1
  obtain⟨c1,p1,o⟩:=t
  obtain⟨c2,p2,o2⟩:=u
  simp only at e1 k1 k2 di
  subst e1
  obtain⟨nz,nv⟩:=k1
  obtain⟨ny,nu⟩:=k2
  obtain⟨oc,op,ox⟩:=o
  simp only at nz nv ny nu di
  refine A02 (fun a=>a.1=false) (fun K2 bd=>?_) (fun a ha=>?_)
  case refine_2=>
   refine W6 ha (U2 (bx _ ?_))
   simp only;rw[V8 (by omega) (by omega)];rfl
  refine A7P r1 jl fun a ha=>?_
  refine C6f (k:=0) (v:=oc) r1 ha gF ?_
  refine A7P r2 jk fun a2 dJ=>?_
  refine C6f (k:=0) (v:=oc) r2 dJ fX ?_
  refine W6 (by simp) ?_
  refine A7P r1 jl fun a3 jT=>?_
  refine C6f (k:=27) (v:=ox) r1 jT gF ?_
  refine A7P r2 jk fun a4 uk=>?_
  refine C6f (k:=27) (v:=ox) r2 uk fX ?_
  refine W6 (by simp) ?_
  refine A7P r1 jl fun a5 qU=>?_
  refine C4u (k:=1) (v:=pkT op c1 p1) r1 qU gF ?_
  refine A7P r2 jk fun a6 uj=>?_
  refine C4u (k:=1) (v:=pkT op c2 p2) r2 uj fX ?_
  refine A7Q ?_ ?_
  ·refine Y1 fun y1=>?_
   refine C4u (k:=1) (v:=pkT op c2 p2) r2 uj fX (A1p ?_ rfl)
   refine Y1 fun y2=>?_
   refine C4u (k:=1) (v:=pkT op c1 p1) r1 qU gF (A1p ?_ rfl)
   refine C6e (enc:=W8 .u8) (x:=y1) (pkT op c1 p1) ?_
   refine C6e (enc:=W8 .i64) (x:=y2) (pkT op c2 p2) ?_
   refine W.sub (L':=U5 (W8 .u8) 26 ⟨some ⟨y1,0,none⟩,1,1⟩ [pkT op c1 p1]::U5 (W8 .i64) 26 ⟨some ⟨y2,0,none⟩,1,1⟩ [pkT op c2 p2]::[old h0]) ?_
   refine j1 (C3d (v:=.bool true) (fun h1 aa Q1 jg=>?_) (At.un (x:=true) ?_))
   ·have ho:=aa.re [2,0,1]
    exact B4T (s1:=⟨some ⟨y1,0,none⟩,1,1⟩) (s2:=⟨some ⟨y2,0,none⟩,1,1⟩) (os:=[op]) (B1t aa (nz.old ho) (nv.old ho)) (B1t (aa.re [1,0,2]) (ny.old ho) (nu.old ho)) (C4 (D9 1) (by decide)) (fun o ho=>by rw[B7.1 ho];exact di) jg
   exact U2 (bd (false,()) rfl).sub
  ·refine Y1 fun y2=>?_
   refine C4u (k:=1) (v:=pkT op c1 p1) r1 qU gF (A1p ?_ rfl)
   refine Y1 fun y1=>?_
   refine C4u (k:=1) (v:=pkT op c2 p2) r2 uj fX (A1p ?_ rfl)
   refine C6e (enc:=W8 .u8) (x:=y1) (pkT op c1 p1) ?_
   refine C6e (enc:=W8 .i64) (x:=y2) (pkT op c2 p2) ?_
   refine W.sub (L':=U5 (W8 .u8) 26 ⟨some ⟨y1,0,none⟩,1,1⟩ [pkT op c1 p1]::U5 (W8 .i64) 26 ⟨some ⟨y2,0,none⟩,1,1⟩ [pkT op c2 p2]::[old h0]) ?_
   refine j1 (C3d (v:=.bool true) (fun h1 aa Q1 jg=>?_) (At.un (x:=true) ?_))
   ·have ho:=aa.re [2,0,1]
    exact B4T (s1:=⟨some ⟨y1,0,none⟩,1,1⟩) (s2:=⟨some ⟨y2,0,none⟩,1,1⟩) (os:=[op]) (B1t aa (nz.old ho) (nv.old ho)) (B1t (aa.re [1,0,2]) (ny.old ho) (nu.old ho)) (C4 (D9 1) (by decide)) (fun o ho=>by rw[B7.1 ho];exact di) jg
   exact U2 (bd (false,()) rfl).sub
end
section
open Go.H Go.Proofs
theorem A2D(l:List Int):(Z2 l).Perm l:=R0 l _
theorem A3a(l:List Int):(Z2 l).Pairwise (·≤ ·):=by
 have:=List.pairwise_mergeSort (le:=fun x y:Int=>decide (x≤y)) (fun a b c h1 h2=>by simp only[decide_eq_true_eq] at*;omega) (fun a b=>by simp only[Bool.or_eq_true,decide_eq_true_eq];omega) l
 exact this.imp fun h=>by simpa using h
theorem B7c{l l':List Int}(hp:l.Perm l')(h:l.Pairwise (·≤ ·))(h':l'.Pairwise (·≤ ·)):l=l':=
 List.Perm.eq_of_pairwise (le:=fun a b=>a≤b) (fun a b _ _ h1 h2=>Int.le_antisymm h1 h2) h h' hp
theorem B2g{l:List Int}{k:Int}:k∈Z2 l↔k∈l:=(A2D l).mem_iff
theorem A2M(l:List Int):(Z2 l).length=l.length:=(A2D l).length_eq
theorem C1J{l a b:List Int}{k:Int}(hl:Z2 l=a++b)(ha:∀x∈a,x≤k)(hb:∀x∈b,k≤x):a++k::b=Z2 (l++[k]):=by
 have hs:=A3a l
 rw[hl,I8] at hs
 refine B7c ?_ ?_ (A3a _)
 ·refine List.Perm.trans ?_ (A2D _).symm
  refine P8.trans ?_
  rw[←hl]
  exact((A2D l).cons k).trans (List.perm_append_singleton k l).symm
 ·rw[I8]
  refine⟨hs.1,?_,fun x hx y hy=>?_⟩
  ·rw[I5];exact⟨hb,hs.2.1⟩
  ·rcases D3.1 hy with rfl|hy
   ·exact ha x hx
   ·exact hs.2.2 x hx y hy
theorem C2c{l:List Int}(hn:l.Nodup)(k:Int):(Z2 l).filter (fun x=> !(x==k))=Z2 (l.erase k):=by
 refine B7c ?_ ((A3a l).filter _) (A3a _)
 refine((A2D l).filter _).trans (List.Perm.trans ?_ (A2D _).symm)
 rw[hn.erase_eq_filter]
 refine List.Perm.of_eq (L8 fun x _=>?_)
 rfl
theorem C1i(used:List Int)(t:Int)(h0:0≤t)(h1:t≤65535)(hd:used.Nodup)(h2:used.length<65535):∃n u,n≤used.length∧Reach used n t u:=by
 have key:∀(j:Nat),∀t,0≤t→t≤65535→(∃n u,n<j∧Reach used n t u)∨∀i,i<j→((t+i) % 65535+1)∈used:=by
  intro j
  induction j with
  |zero=>intro t _ _;exact .inr (fun i hi=>by omega)
  |succ j ih=>
   intro t oF pM
   by_cases hm:nxt t∈used
   ·have hr:=A3L oF
    rcases ih (nxt t) (by omega) (by omega) with⟨n,u,hn,hu⟩|dh
    ·exact .inl ⟨n+1,u,by omega,.on hm hu⟩
    ·refine .inr fun i hi=>?_
     cases i with
     |zero=>simpa[nxt] using hm
     |succ i=>
      have:=dh i (by omega)
      have e:((nxt t+(i:Int)) % 65535+1)=((t+((i+1:Nat):Int)) % 65535+1):=by unfold nxt;omega
      rw[e] at this
      exact this
   ·exact .inl ⟨0,nxt t,by omega,.here hm⟩
 rcases key (used.length+1) t h0 h1 with⟨n,u,hn,hu⟩|dh
 ·exact⟨n,u,by omega,hu⟩
 ·exfalso
  have bg:∀x∈((List.range (used.length+1)).map fun(i:Nat)=>((t+(i:Int)) % 65535+1)),x∈used:=by
   intro x hx
   obtain⟨i,hi,rfl⟩:=E4.1 hx
   exact dh i (R4.1 hi)
  have au:((List.range (used.length+1)).map fun(i:Nat)=>((t+(i:Int)) % 65535+1)).Nodup:=by
   refine P6.2 (List.Pairwise.imp_of_mem ?_ List.pairwise_lt_range)
   intro a b ha hb dv
   have:=R4.1 ha
   have:=R4.1 hb
   omega
  have:=B8N _ _ au bg
  simp at this
  omega
def A0J(b:Nat)(s:s6):Asn:=exA fun sl:Slc=>star (cells b #[.int .i64 s.most,.int .i64 s.taken,.slice sl.a sl.len sl.cap]) (U5 eI 1 sl (Z2 s.used))
theorem A1K{h:Heap}{b:Nat}{s:s6}{R:List Asn}:sat h (A0J b s::R)↔
  ∃sl:Slc,sat h (cells b #[.int .i64 s.most,.int .i64 s.taken,.slice sl.a sl.len sl.cap]::U5 eI 1 sl (Z2 s.used)::R):=by
 unfold A0J
 rw[sat.bA]
 constructor
 ·rintro⟨sl,hs⟩
  rw[sat.aI] at hs
  exact⟨sl,hs⟩
 ·rintro⟨sl,hs⟩
  exact⟨sl,by rw[sat.aI];exact hs⟩
theorem B0g{h:Heap}{R:List Asn}(hs:sat h R)(most:Int){Q:Value→Heap→Prop}
  (hq:∀b h',sat h' (A0J b ⟨max 1 (min most 64),0,[]⟩::R)→Q (at0 b) h'):V3 prog 249 #[.int .i64 most] h Q:=by
 refine B4g most h Q ?_
 delta B7r az bn ie nw pu vi vz
 have fin:∀n:Int,n=max 1 (min most 64)→HM.new (.cells #[.int .i64 n,.int .i64 0,.slice none 0 0] 368) h fun b h'=>Q (at0 b) h':=by
  rintro n rfl
  refine V5 hs fun b h2 ae=>?_
  have e:Z2 ([]:List Int)=[]:=by simp[Z2]
  exact hq b h2 (A1K.2 ⟨⟨none,0,0⟩,by rw[e];exact(Z3 ae).p1⟩)
 by_cases h1:most<1
 ·simp[h1]
  exact fin 1 (by omega)
 ·by_cases h2:64<most
  ·simp[h1,h2]
   exact fin 64 (by omega)
  ·simp[h1,h2]
   exact fin most (by omega)
theorem B2k{h:Heap}{R:List Asn}{b:Nat}{s:s6}{k:Int}(hs:sat h (A0J b s::R))(hl:s.used.length≤64){Q:Value→Heap→Prop}
  (hq:Q (.bool (decide (k∈s.used))) h):V3 prog 243 #[at0 b,.int .i64 k] h Q:=by
 refine B5c _ k h Q ?_
 obtain⟨sl,hs⟩:=A1K.1 hs
 have c2:W0 h ⟨b,2,none⟩=some (.slice sl.a sl.len sl.cap):=hs.cell 2
 have aM:=hs.p1.aO A47
 have hlen:=hs.p1.aW
 rw[A2M] at hlen
 delta B9J bn ie ix kc li nn pu wi
 simp
 refine B8M (γ:=Nat) (fun i c h'=>h'=h∧c.1=(i:Int)∧i≤s.used.length∧k∉(Z2 s.used).take i) (fun i=>s.used.length-i) 0 ⟨rfl,rfl,D1 _,by simp⟩ ?_
 rintro i ⟨c,⟨⟩⟩ h' ⟨rfl,hc,hi,hn⟩
 simp only at hc
 subst hc
 simp[c2]
 have next:IntKind.wrap .i64 ((i:Int)+1)=((i+1:Nat):Int):=by rw[V8 (by omega) (by omega)];rfl
 by_cases ah:i<s.used.length
 ·rw[if_pos (by omega)]
  have bf:i<(Z2 s.used).length:=by rw[A2M];exact ah
  refine X8 aM (B0 bf) fun a ha=>?_
  have c0:W0 h' a=some (.int .i64 (Z2 s.used)[i]):=by simpa[Go.H.add_zero] using ha 0 _ rfl
  simp[c0]
  by_cases hk:(Z2 s.used)[i]=k
  ·have hm:k∈s.used:=B2g.1 (hk▸H3 bf)
   simp[hk]
   simpa[hm] using hq
  ·simp[hk]
   refine⟨i+1,by omega,next,by omega,fun hm=>?_⟩
   rw[C7 bf,C9] at hm
   rcases hm with hm|hm
   ·exact hn hm
   ·exact hk (B7.1 hm).symm
 ·rw[if_neg (by omega)]
  rw[D6 (by rw[A2M];omega)] at hn
  have hm:k∉s.used:=fun hx=>hn (B2g.2 hx)
  simpa[hm] using hq
theorem B4X{h:Heap}{R:List Asn}{b:Nat}{s:s6}{k:Int}(hs:sat h (A0J b s::R))(hl:s.used.length≤64){Q:Value→Heap→Prop}
  (hq:∀h',sat h' (A0J b ⟨s.most,s.taken,s.used++[k]⟩::R)→Q (.tuple #[]) h'):V3 prog 264 #[at0 b,.int .i64 k] h Q:=by
 refine B4f _ k h Q ?_
 obtain⟨sl,hs⟩:=A1K.1 hs
 have lD:=A3a s.used
 have oX:=A2M s.used
 delta B7q az bn ie ix kc li nn nw pu sx vi vs wi
 simp
 refine l9 (γ:=Nat×List Int×List Int) (fun g c h'=>c.2.2.1=(g.1:Int)∧g.1≤s.used.length∧(Z2 s.used).take g.1=g.2.1++g.2.2∧(∀x∈g.2.1,x≤k)∧(∀x∈g.2.2,k≤x)∧
   (c.1=false→g.2.2=[])∧(c.1=true→∃y∈g.2.2,k<y)∧
   sat h' (U5 eI 1 c.2.1 (if c.1=true then g.2.1++k::g.2.2 else g.2.1)::cells b #[.int .i64 s.most,.int .i64 s.taken,.slice sl.a sl.len sl.cap]::U5 eI 1 sl (Z2 s.used)::R))
  (fun g=>s.used.length-g.1) (0,[],[]) ⟨rfl,D1 _,rfl,by simp,by simp,by simp,by simp,Z3 hs⟩ ?_
 rintro⟨i,a,bb⟩ ⟨done,out,c,⟨⟩⟩ h1 ⟨hc,hi,ht,ha,hb,jn,vD,aa⟩
 simp only at hc hi ht ha hb jn vD aa
 subst hc
 have c2:W0 h1 ⟨b,2,none⟩=some (.slice sl.a sl.len sl.cap):=aa.p1.cell 2
 have hlen:=aa.p2.aW
 rw[oX] at hlen
 have next:IntKind.wrap .i64 ((i:Int)+1)=((i+1:Nat):Int):=by rw[V8 (by omega) (by omega)];rfl
 simp[c2]
 by_cases ah:i<s.used.length
 ·rw[if_pos (by omega)]
  have bf:i<(Z2 s.used).length:=by rw[oX];exact ah
  have aU:=C7 bf
  generalize hx:(Z2 s.used)[i]=x at aU
  have nR:(Z2 s.used)[i]? =some x:=by rw[←hx];exact B0 bf
  have hle:∀y∈(Z2 s.used).take i,y≤x:=by
   have e:=J7 i (Z2 s.used)
   rw[←e,I8] at lD
   intro y hy
   refine lD.2.2 y hy x ?_
   rw[E1 bf,hx]
   exact B4 ..
  have kl:a.length+bb.length=i:=by
   have:=congrArg List.length ht
   simp at this
   omega
  have aM:∀{h2:Heap} {A:Asn} {R':List Asn},sat h2 (A::cells b #[.int .i64 s.most,.int .i64 s.taken,.slice sl.a sl.len sl.cap]::U5 eI 1 sl (Z2 s.used)::R')→W0 h2 ⟨b,2,none⟩=some (.slice sl.a sl.len sl.cap)∧Z7 eI 1 h2 sl (Z2 s.used):=
   fun af=>⟨af.p1.cell 2,af.p2.aO A47⟩
  have ic:∀{h2:Heap} {a:Addr},(∀j v,(eI x)[j]? =some v→W0 h2 (a.add j)=some v)→W0 h2 a=some (.int .i64 x):=fun i'=>by simpa[Go.H.add_zero] using i' 0 _ rfl
  have iE:∀l:List Int,l.length≤70→(l.length+1)*8≤140737488355328:=fun l gY=>by omega
  cases done with
  |true=>
   simp at aa⊢
   refine X8 (aM aa).2 nR fun ad qT=>?_
   simp[ic qT]
   refine A06 (x:=x) A47 A9j rfl aa (by omega) (by omega) (iE _ (by simp;omega)) fun fj h2 ae=>?_
   obtain⟨y,gF,fX⟩:=vD rfl
   have xi:k≤x:=by have:=hle y (by rw[ht];exact F6 _ gF);omega
   refine .mk (i+1,a,bb++[x]) (by simp;omega) ⟨next,by simp;omega,by simp[aU,ht],ha,?_,by simp,fun _=>⟨y,by simp[gF],fX⟩,by simpa using ae⟩
   intro z hz
   rcases C9.1 hz with hz|hz
   ·exact hb z hz
   ·rw[B7.1 hz];exact xi
  |false=>
   simp at aa⊢
   refine X8 (aM aa).2 nR fun ad qT=>?_
   simp[ic qT]
   by_cases lL:k<x
   ·simp[lL]
    refine A06 (x:=k) A47 A9j rfl aa (by omega) (by omega) (iE _ (by omega)) fun sB h2 ae=>?_
    simp[(aM ae).1]
    refine X8 (aM ae).2 nR fun uy jS=>?_
    simp[ic jS]
    refine A06 (x:=x) A47 A9j rfl ae (by omega) (by omega) (iE _ (by simp;omega)) fun fj h3 aj=>?_
    have qQ:bb=[]:=jn rfl
    subst qQ
    refine .mk (i+1,a,[x]) (by simp;omega) ⟨next,by simp;omega,by simpa[aU] using ht,ha,?_,by simp,fun _=>⟨x,by simp,lL⟩,by simpa using aj⟩
    intro z hz
    rw[B7.1 hz];omega
   ·simp[lL]
    have qQ:bb=[]:=jn rfl
    subst qQ
    simp[c2]
    refine X8 (aM aa).2 nR fun uy jS=>?_
    simp[ic jS]
    refine A06 (x:=x) A47 A9j rfl aa (by omega) (by omega) (iE _ (by omega)) fun fj h3 aj=>?_
    refine .mk (i+1,a++[x],[]) (by simp;omega) ⟨next,by simp;omega,by simpa[aU] using ht,?_,by simp,by simp,by simp,by simpa using aj⟩
    intro z hz
    rcases C9.1 hz with hz|hz
    ·exact ha z hz
    ·rw[B7.1 hz];omega
 ·rw[if_neg (by omega)]
  have ej:i=s.used.length:=by omega
  subst ej
  rw[D6 (by omega)] at ht
  have fin:∀(h2:Heap) (fj:Slc),sat h2 (U5 eI 1 fj (Z2 (s.used++[k]))::cells b #[.int .i64 s.most,.int .i64 s.taken,.slice sl.a sl.len sl.cap]::U5 eI 1 sl (Z2 s.used)::R)→
    A6Z ⟨b,2,none⟩ (.slice fj.a fj.len fj.cap) h2 fun _ h'=>Q (.tuple #[]) h':=by
   intro h2 fj ae
   refine W7 ae.p1 (by simp) rfl fun h3 aj=>hq h3 (A1K.2 ⟨fj,?_⟩)
   exact aj.p2.drop
  have qt:=C1J ht ha hb
  cases done with
  |true=>
   simp at aa⊢
   rw[qt] at aa
   exact fin _ _ aa
  |false=>
   simp at aa⊢
   have qQ:bb=[]:=jn rfl
   subst qQ
   refine A06 (x:=k) A47 A9j rfl aa (by omega) (by omega) (by simp at ht;rw[←ht,oX];omega) fun sB h2 ae=>?_
   rw[qt] at ae
   exact fin _ _ ae
theorem C7k{h:Heap}{R:List Asn}{b:Nat}{s:s6}(hs:sat h (A0J b s::R)):∃sl:Slc,sl.len=s.used.length∧W0 h ⟨b,0,none⟩=some (.int .i64 s.most)∧W0 h ⟨b,1,none⟩=some (.int .i64 s.taken)∧
  W0 h ⟨b,2,none⟩=some (.slice sl.a sl.len sl.cap)∧Z7 eI 1 h sl (Z2 s.used):=by
 obtain⟨sl,hs⟩:=A1K.1 hs
 refine⟨sl,?_,hs.cell 0,hs.cell 1,hs.cell 2,hs.p1.aO A47⟩
 rw[hs.p1.aW,A2M]
theorem B8r{h:Heap}{R:List Asn}{b:Nat}{s:s6}{k:Int}(hs:sat h (A0J b s::R))(ag:s.ok){Q:Value→Heap→Prop}
  (al:i6 s k≠0→Q (.int .i64 (i6 s k)) h)
  (cA:i6 s k=0→∀h',sat h' (A0J b ⟨s.most,s.taken,s.used++[k]⟩::R)→Q (.int .i64 0) h'):V3 prog 246 #[at0 b,.int .i64 k] h Q:=by
 refine B09 _ _ h Q ?_
 obtain⟨sl,cW,c0,c1,c2,-⟩:=C7k hs
 have hl:=ag.len
 have hm:=ag.cP
 delta B3v bn cb cx ie kc ki nn pu vi
 simp
 by_cases h1:k<1
 ·simp[h1];simpa[i6,h1] using al
 by_cases h2:65535<k
 ·simp[h1,h2];simpa[i6,h2] using al
 simp[h1,h2]
 refine B2k hs (by omega) ?_
 by_cases h3:k∈s.used
 ·simp[h3]
  have:i6 s k=145:=by simp[i6,h1,h2,h3]
  rw[this] at al
  exact al (by omega)
 simp[h3,c2,c0]
 by_cases h4:(s.used.length:Int)=s.most
 ·have:i6 s k=147:=by simp[i6,h1,h2,h3,h4]
  rw[this] at al
  rw[if_pos (by omega)]
  exact al (by omega)
 rw[if_neg (by omega)]
 refine B4X hs (by omega) fun h' af=>?_
 simp
 exact cA (by simp[i6,h1,h2,h3,h4]) h' af
theorem B3p{h:Heap}{R:List Asn}{b:Nat}{s:s6}{k:Int}(hs:sat h (A0J b s::R))(ag:s.ok){Q:Value→Heap→Prop}
  (hq:∀h',sat h' (A0J b ⟨s.most,s.taken,s.used.erase k⟩::R)→Q (.bool (decide (k∈s.used))) h'):V3 prog 244 #[at0 b,.int .i64 k] h Q:=by
 refine B2B _ _ h Q ?_
 have hl:s.used.length≤64:=by have:=ag.len;have:=ag.cP;omega
 obtain⟨sl,hs⟩:=A1K.1 hs
 have oX:=A2M s.used
 delta B5d az bn ie ix kc li nn nw pu sx vi vs wi
 simp
 refine l9 (γ:=Nat) (fun i c h'=>c.2.1=(i:Int)∧i≤s.used.length∧
   sat h' (U5 eI 1 c.1 (((Z2 s.used).take i).filter fun x=> !(x==k))::cells b #[.int .i64 s.most,.int .i64 s.taken,.slice sl.a sl.len sl.cap]::U5 eI 1 sl (Z2 s.used)::R))
  (fun i=>s.used.length-i) 0 ⟨rfl,D1 _,Z3 hs⟩ ?_
 rintro i ⟨out,c,⟨⟩⟩ h1 ⟨hc,hi,aa⟩
 simp only at hc aa
 subst hc
 have c2:W0 h1 ⟨b,2,none⟩=some (.slice sl.a sl.len sl.cap):=aa.p1.cell 2
 have hlen:=aa.p2.aW
 rw[oX] at hlen
 have aM:=aa.p2.aO A47
 have next:IntKind.wrap .i64 ((i:Int)+1)=((i+1:Nat):Int):=by rw[V8 (by omega) (by omega)];rfl
 simp[c2]
 by_cases ah:i<s.used.length
 ·rw[if_pos (by omega)]
  have bf:i<(Z2 s.used).length:=by rw[oX];exact ah
  have aU:=C7 bf
  generalize hx:(Z2 s.used)[i]=x at aU
  have nR:(Z2 s.used)[i]? =some x:=by rw[←hx];exact B0 bf
  refine X8 aM nR fun ad qT=>?_
  have e0:W0 h1 ad=some (.int .i64 x):=by simpa[Go.H.add_zero] using qT 0 _ rfl
  simp[e0]
  by_cases lL:x=k
  ·simp[lL]
   refine .mk (i+1) (by omega) ⟨next,by omega,?_⟩
   rw[aU]
   simpa[lL] using aa
  ·simp[lL,c2]
   refine X8 aM nR fun uy jS=>?_
   have e1:W0 h1 uy=some (.int .i64 x):=by simpa[Go.H.add_zero] using jS 0 _ rfl
   simp[e1]
   refine A06 (x:=x) A47 A9j rfl aa (by omega) (by omega) ?_ fun fj h2 ae=>?_
   ·have:=D4 (fun x=> !(x==k)) ((Z2 s.used).take i)
    have:=J0 i (Z2 s.used)
    omega
   refine .mk (i+1) (by omega) ⟨next,by omega,?_⟩
   rw[aU]
   simpa[lL] using ae
 ·rw[if_neg (by omega)]
  rw[D6 (by omega),C2c ag.nodup] at aa
  have gm:=aa.aW
  rw[A2M] at gm
  refine W7 aa.p1 (by simp) rfl fun h3 aj=>?_
  have:=hq h3 (A1K.2 ⟨out,aj.p2.drop⟩)
  have e:decide (out.len<sl.len)=decide (k∈s.used):=by
   rw[gm,hlen,List.length_erase]
   by_cases hm:k∈s.used
   ·have:=List.length_pos_of_mem hm
    simp[hm];omega
   ·simp[hm]
  rw[e]
  exact this
theorem B9B{h:Heap}{R:List Asn}{b:Nat}{s:s6}(hs:sat h (A0J b s::R))(ag:s.ok){Q:Value→Heap→Prop}
  (aA:(s.used.length:Int)=s.most→Q (.tuple #[.int .i64 0,.int .i64 147]) h)
  (cA:(s.used.length:Int)≠s.most→∀n u,Reach s.used n s.taken u→∀h',sat h' (A0J b ⟨s.most,u,s.used++[u]⟩::R)→Q (.tuple #[.int .i64 u,.int .i64 0]) h'):
  V3 prog 242 #[at0 b] h Q:=by
 refine B2A _ h Q ?_
 obtain⟨sl,cW,c0,c1,c2,-⟩:=C7k hs
 have hl:=ag.len
 have hm:=ag.cP
 delta B5b bn cb cx ie kc ki nn pu sx vi wi
 simp[c2,c0]
 by_cases h4:(s.used.length:Int)=s.most
 ·rw[if_pos (by omega)]
  exact aA h4
 rw[if_neg (by omega)]
 simp[c1]
 obtain⟨n,u,hn,hu⟩:=C1i s.used s.taken ag.cN ag.dO ag.nodup (by omega)
 have wM:=hu.range ag.cN
 refine l9 (γ:=Nat×Int) (fun g c h'=>h'=h∧c.1=g.2∧0≤g.2∧g.2≤65535∧0≤c.2.1∧c.2.1+g.1≤64∧Reach s.used g.1 g.2 u) (fun g=>g.1) (n,s.taken)
  ⟨rfl,rfl,ag.cN,ag.dO,by simp,by simp;omega,hu⟩ ?_
 rintro⟨n',t⟩ ⟨cid,cj,⟨⟩⟩ h1 ⟨rfl,hc,oF,pM,xn,vj,hr⟩
 simp only at hc oF pM xn vj hr
 subst hc
 have bx:(if 65535<IntKind.wrap .i64 (cid+1) then(1:Int) else IntKind.wrap .i64 (cid+1))=nxt cid:=by
  rw[V8 (by omega) (by omega)];unfold nxt;split<;>omega
 have yq:=A3L oF
 have step:∀Q':Value→Heap→Prop,(nxt cid∈s.used→Q' (.bool true) h1)→(nxt cid∉s.used→Q' (.bool false) h1)→V3 prog 243 #[at0 b,.int .i64 (nxt cid)] h1 Q':=by
  intro Q' q1 q2
  refine B2k hs (by omega) ?_
  by_cases ed:nxt cid∈s.used
  ·simpa[ed] using q1 ed
  ·simpa[ed] using q2 ed
 have fin:nxt cid∉s.used→A6Z ⟨b,1,none⟩ (.int .i64 (nxt cid)) h1 fun _ h2=>V3 prog 264 #[at0 b,.int .i64 (nxt cid)] h2 (q9.un [] fun _ h3=>Q (.tuple #[.int .i64 (nxt cid),.int .i64 0]) h3):=by
  intro ed
  have wN:u=nxt cid:=hr.det (.here ed)
  subst wN
  obtain⟨sl',af⟩:=A1K.1 hs
  refine W7 af (by simp) rfl fun h2 ae=>?_
  have aj:sat h2 (A0J b ⟨s.most,nxt cid,s.used⟩::R):=A1K.2 ⟨sl',ae⟩
  refine B4X aj (show s.used.length≤64 by omega) fun h3 ak=>?_
  simp
  exact cA h4 n _ hu h3 ak
 have nextj:IntKind.wrap .i64 (cj+1)=cj+1:=V8 (by omega) (by omega)
 have oS:cj≤64:=by omega
 simp[oS]
 have w1:IntKind.wrap .i64 (cid+1)=cid+1:=V8 (by omega) (by omega)
 rw[w1,nextj]
 have ra:∀m:Int,m=nxt cid→V3 prog 243 #[at0 b,.int .i64 m] h1 ((Kind.one Tag.bool).un fun b_1 h'=>
   if b_1=true then Go.H.Next (fun(g:Nat×Int) (c:Int×Int×Unit) h'=>h'=h1∧c.1=g.2∧0≤g.2∧g.2≤65535∧0≤c.2.1∧c.2.1+g.1≤64∧Reach s.used g.1 g.2 u) (fun g=>g.1) (n',cid) (m,cj+1,()) h'
   else A6Z ⟨b,1,none⟩ (.int .i64 m) h' fun b_2 h'=>V3 prog 264 #[at0 b,.int .i64 m] h' (q9.un [] fun _ h3=>Q (.tuple #[.int .i64 m,.int .i64 0]) h3)):=by
  rintro m rfl
  refine step _ (fun ed=>?_) (fun ed=>?_)
  ·simp
   cases hr with
   |here hx=>exact absurd ed hx
   |on kW dw=>exact .mk (_,nxt cid) (Nat.lt_succ_self _) ⟨rfl,rfl,by simp;omega,by simp;omega,by simp;omega,by simp at vj⊢;omega,dw⟩
  ·simp
   exact fin ed
 by_cases vP:65535<cid+1
 ·rw[if_pos vP]
  exact ra 1 (by unfold nxt;omega)
 ·rw[if_neg vP]
  exact ra (cid+1) (by unfold nxt;omega)
variable {h:Heap} {R:List Asn}
theorem size_pos{s:B3O}(hs:¬s=ByteArray.mk #[]):0<s.size:=by
 refine Nat.pos_of_ne_zero fun e=>hs ?_
 have:s.data.size=0:=e
 have:s.data=#[]:=Array.eq_empty_of_size_eq_zero this
 cases s
 simp_all
def a7(b:Nat)(o:Z5):Asn:=exA fun x:Nat×Slc×Slc=>
 star (cells b #[at0 x.1,.int .i64 o.most,.bool o.on,.slice x.2.1.a x.2.1.len x.2.1.cap,.slice x.2.2.a x.2.2.len x.2.2.cap])
  (star (A0J x.1 o.aV) (star (U5 A0O 7 x.2.1 o.aG) (U5 Z6 5 x.2.2 o.waiting)))
theorem q7{h:Heap}{b:Nat}{o:Z5}{R:List Asn}:sat h (a7 b o::R)↔∃(pb:Nat) (fl wt:Slc),
  sat h (cells b #[at0 pb,.int .i64 o.most,.bool o.on,.slice fl.a fl.len fl.cap,.slice wt.a wt.len wt.cap]::A0J pb o.aV::U5 A0O 7 fl o.aG::U5 Z6 5 wt o.waiting::R):=by
 unfold a7
 rw[sat.bA]
 constructor
 ·rintro⟨⟨pb,fl,wt⟩,hs⟩
  rw[sat.aI] at hs
  exact⟨pb,fl,wt,(sat.aI.1 (sat.aI.1 hs.p1).p1).re [3,2,0,1]⟩
 ·rintro⟨pb,fl,wt,hs⟩
  refine⟨⟨pb,fl,wt⟩,?_⟩
  rw[sat.aI]
  exact(sat.aI.2 ((sat.aI.2 (hs.re [2,3,0,1])).re [2,0,1])).p1
theorem B7v{n:Int}(hs:sat h R){Q:Value→Heap→Prop}(hq:∀h',sat h' R→Q (.int .i64 (max 1 (min n 64))) h'):V3 prog 202 #[.int .i64 n] h Q:=by
 refine B06 n h Q ?_
 delta B3t cp ki nn pu vi
 refine U6 (B0g hs n fun b h1 aa=>⟨_,rfl,?_⟩)
 obtain⟨sl,ae⟩:=A1K.1 aa
 exact⟨_,rfl,_,by rw[U3];exact ae.cell 0,hq _ aa.drop⟩
theorem C1f(hs:sat h R)(most:Int){Q:Value→Heap→Prop}
  (hq:∀b h',sat h' (a7 b ⟨⟨64,0,[]⟩,max 1 (min most 64),false,[],[]⟩::R)→Q (at0 b) h'):V3 prog 200 #[.int .i64 most] h Q:=by
 refine B4e most h Q ?_
 delta B7p az ci cp nw pu vi vz
 refine U6 (B0g hs 64 fun pb h1 aa=>⟨_,rfl,?_⟩)
 refine U6 (B7v aa fun h2 ae=>⟨_,rfl,?_⟩)
 refine V5 ae fun b h3 aj=>?_
 exact hq b h3 (q7.2 ⟨pb,⟨none,0,0⟩,⟨none,0,0⟩,(Z3 (Z3 aj)).re [2,3,0,1]⟩)
theorem B8q{m:MsT}{id:Int}{dup:Bool}(hs:sat h R){Q:Value→Heap→Prop}(hq:∀c p h',sat h' (pkB .i64 (c,p,A0x m id dup)::R)→Q (A2s .i64 (pkT (A0x m id dup) c p)) h'):
  V3 prog 203 #[vMs m,.int .i64 id,.bool dup] h Q:=by
 refine A9w (toU m) id dup h Q ?_
 delta A9S az bn g2 ie jb ji jt nw pu sn sw ve vi vz w10 w11 w12 w13 w14 w15 w16 w17 w18 w19 w20 w21 w22 w23 w24 w25 w5 w6 w7 w8 w9
 refine V5 hs fun x1 h1 aa=>?_
 refine V5 aa fun x2 h2 ae=>?_
 refine⟨m.2.2.1,by rw[U3];exact ae.p1.cell 2,m.2.2.2.1,by rw[U3];exact ae.p1.cell 3,m.1,by rw[U3];exact ae.p1.cell 0,m.2.1,by rw[U3];exact ae.p1.cell 1,?_⟩
 refine V5 ae fun x7 h3 bo=>?_
 (try dsimp only);rw[U1]
 refine l5 bo rfl rfl fun h4 ak=>?_
 refine⟨m.2.2.2.2,by rw[U3];exact ak.p2.cell 4,?_⟩
 refine cut (fun z h'=>∃p:Slc,sat h' (cells x7 (W8 .i64 (pkT (A0x m id dup) ⟨none,0,0⟩ p)).toArray::cells x2 (W8 .i64 C4x).toArray::pkB .i64 (⟨none,0,0⟩,p,A0x m id dup)::R)) ?_ ?_
 ·intro K hK
  (try dsimp only);rw[U9]
  by_cases ht:m.2.2.2.2=ByteArray.mk #[]
  ·rw[if_neg (by rw[ht];decide)]
   refine hK _ _ ⟨⟨none,0,0⟩,?_⟩
   have:=A3g (k:=.i64) (o:=A0x m id dup) rfl (by simp[A0x,C06,ht]) ak
   exact(this.re [1,2,0,3]).p3.drop
  ·rw[if_pos (by simpa using size_pos ht)]
   refine⟨m.2.2.2.2,by rw[U3];exact ak.p2.cell 4,?_⟩
   refine V5 ak fun gE h5 ai=>?_
   (try dsimp only);rw[U1,U3]
   refine W7 ai.p1 (by simp) rfl fun h6 aw=>?_
   refine hK _ _ ⟨⟨some ⟨gE,0,none⟩,1,1⟩,?_⟩
   have hp:(A0x m id dup).props=[(38,0,C4J,m.2.2.2.2)]:=by simp[A0x,C06,ht]
   have h7:sat h6 (U5 X1 4 ⟨some ⟨gE,0,none⟩,1,1⟩ (A0x m id dup).props::cells x7 (W8 .i64 (pkT (A0x m id dup) ⟨none,0,0⟩ ⟨some ⟨gE,0,none⟩,1,1⟩)).toArray::cells x2 (W8 .i64 C4x).toArray::R):=by
    rw[hp]
    exact A1D (o:=0) (cs:=(X1 (38,0,C4J,m.2.2.2.2)).toArray) ⟨rfl,D9 _,rfl,by simp,by simp⟩ (aw.re [1,0,2,3]).p3.drop
   have h8:sat h6 (U5 (eKd .i64) 1 ⟨none,0,0⟩ (A0x m id dup).cB::U5 X1 4 ⟨some ⟨gE,0,none⟩,1,1⟩ (A0x m id dup).props::cells x7 (W8 .i64 (pkT (A0x m id dup) ⟨none,0,0⟩ ⟨some ⟨gE,0,none⟩,1,1⟩)).toArray::cells x2 (W8 .i64 C4x).toArray::R):=Z3 h7
   exact((A4C (t:=(⟨none,0,0⟩,⟨some ⟨gE,0,none⟩,1,1⟩,A0x m id dup))).2 h8).re [1,2,0]
 rintro⟨⟩ h5 ⟨p,ai⟩
 refine Y5 (ts:=B75 .i64) (pkT (A0x m id dup) ⟨none,0,0⟩ p) ai rfl ?_
 (try dsimp only);rw[U1]
 refine l5 ai.p1 rfl rfl fun h6 aw=>?_
 refine Y5 (ts:=B75 .i64) (pkT (A0x m id dup) ⟨none,0,0⟩ p) aw rfl ?_
 exact hq _ _ h6 aw.drop.drop
theorem B5k{s:Slc}{os:List PkO}{t:Slc×Slc×PkO}(hs:sat h (p7 .i64 s os::pkB .i64 t::R)){T T1 T2:TypeId}{zs:C9O}(hz:zs.size=26){zero:C9O}(gz:zero.size=26)(hb:os.length≤20000){β:Type}{f:Slc→HM β}{Q:β→Heap→Prop}
  (hq:∀s' h',sat h' (p7 .i64 s' (os++[t.2.2])::R)→f s' h' Q):
  (HM.bind (HM.new (.cells zs T)) fun x=>HM.bind (A94 ⟨x,0,none⟩ (W8 .i64 (pkF t))) fun _=>HM.bind (o3 (B75 .i64) ⟨x,0,none⟩) fun y=>
   HM.bind (HM.new (.cells (W8 .i64 y).toArray T1)) fun b=>HM.bind (HM.append T2 26 328 zero s 1 (V6 26 ⟨some ⟨b,0,none⟩,1,1⟩)) f) h Q:=by
 refine V5 hs fun x h1 aa=>?_
 (try dsimp only);rw[U1]
 refine B4N aa (by rw[hz];rfl) (B20 .i64 _) fun h2 ae=>?_
 refine Y5 (ts:=B75 .i64) (pkF t) ae rfl ?_
 refine A4Z (t:=t) ae.drop gz (by decide) (by omega) fun s' h3 aj=>?_
 exact hq s' h3 aj
theorem B0h{b:Nat}{o:Z5}{ps:List PkO}{s:Slc}(hs:sat h (a7 b o::p7 .i64 s ps::R))(ag:X0 o)(gV:ps.length≤10000){Q:Value→Heap→Prop}
  (hq:∀h' S,sat h' (a7 b (Y7 o).1::p7 .i64 S (ps++(Y7 o).2)::R)→Q (.slice S.a S.len S.cap) h'):
  V3 prog 193 #[at0 b,.slice s.a s.len s.cap] h Q:=by
 refine B2y (some ⟨b,0,none⟩) s h Q ?_
 delta B49 az bn g2 g7 ie ix ji kb kc ki kp nn nw pu rq sn sx vi vs
 obtain⟨wB,ya,wo,pS⟩:=q7.1 hs
 refine⟨_,rfl,o.on,by rw[U3];exact pS.cell 2,?_⟩
 (try dsimp only);rw[U9]
 cases aP:o.on with
 |false=>
  rw[if_pos (by rfl)]
  refine hq h s ?_
  have e:Y7 o=(o,[]):=by unfold Y7;rw[if_neg (by simp[aP])]
  rw[e,C1]
  exact hs
 |true=>
 rw[if_neg (by simp)]
 clear pS wB ya wo
 (try dsimp only);rw[U1]
 refine A7m (γ:=Z5×List PkO) (fun g c h'=>X0 g.1∧g.1.on=true∧g.2.length+g.1.waiting.length≤10300∧(Y7 g.1).1=(Y7 o).1∧g.2++(Y7 g.1).2=ps++(Y7 o).2∧sat h' (a7 b g.1::p7 .i64 c.1 g.2::R)) (fun g=>g.1.waiting.length) (o,ps)
  ⟨ag,aP,by have:=ag.wl;simp only;omega,rfl,rfl,hs⟩ ?_
 clear hs gV ag aP
 rintro⟨o1,os⟩ ⟨out,⟨⟩⟩ h1 ⟨ag,aP,gV,dj,db,dT⟩ K bx hd
 simp only at ag gV dj db dT aP
 obtain⟨pb,fl,wt,aa⟩:=q7.1 dT
 have eK:wt.len=o1.waiting.length:=(aa.p3).aW
 have cT:fl.len=o1.aG.length:=(aa.p2).aW
 have nS:Y7 o1=goF o1 o1.waiting:=by unfold Y7;rw[if_pos aP]
 rw[nS] at dj db
 refine⟨_,rfl,wt,by rw[U3];exact aa.cell 4,?_⟩
 (try dsimp only);rw[U9]
 cases bz:o1.waiting with
 |nil=>
  rw[if_neg (by rw[eK,bz];simp)]
  have e:goF o1 o1.waiting=(o1,[]):=by
   rw[bz]
   show({o1 with waiting:=[]},[])=_
   rw[←bz]
  rw[e] at dj db
  rw[C1] at db
  refine hd (.inl (out,())) _ (hq h1 out ?_)
  rw[←dj,←db]
  exact dT
 |cons m w=>
 rw[if_pos (by rw[eK,bz];simp)]
 have ig:=ag.wl
 have tD:=ag.wq m (by rw[bz];exact B4 ..)
 have nC:∀x∈w,0≤x.2.2.1∧x.2.2.1≤2:=fun x hx=>ag.wq x (by rw[bz];exact C3 _ hx)
 rw[bz] at gV aa eK ig
 rw[bz,B1O] at dj db
 have iv:=ag.f64
 have qk:=ag.m64
 refine cut (fun z h'=>match z with
  |.inl c=>∃g:Z5×List PkO,g.1.waiting.length<o1.waiting.length∧X0 g.1∧g.1.on=true∧g.2.length+g.1.waiting.length≤10300∧(Y7 g.1).1=(Y7 o).1∧g.2++(Y7 g.1).2=ps++(Y7 o).2∧sat h' (a7 b g.1::p7 .i64 c.1 g.2::R)
  |.inr (.inr (.inr c))=>sat h' (a7 b (Y7 o).1::p7 .i64 c.1 (ps++(Y7 o).2)::R)
  |_=>False) (fun K1 fz=>?_) (fun z h2 hz=>?_)
 rotate_left
 ·match z,hz with
  |.inl (c,()),⟨g,g1,g2⟩=>exact bx g _ _ g1 g2
  |.inr (.inr (.inr (c,()))),hz=>exact hd (.inr (c,())) _ (hq h2 c hz)
 refine⟨_,rfl,wt,by rw[U3];exact aa.cell 4,?_⟩
 (try dsimp only);rw[U1]
 refine X8 (i:=0) (aa.p3.aO A7D) (x:=m) rfl fun p hp=>?_
 (try dsimp only);rw[U1]
 refine C2S hp ?_
 refine V5 aa fun fW h3 ba=>?_
 (try dsimp only);rw[U1]
 refine l5 ba rfl rfl fun h4 gJ=>?_
 have ae:sat h4 (cells fW (Z6 m).toArray::cells b #[at0 pb,.int .i64 o1.most,.bool o1.on,.slice fl.a fl.len fl.cap,.slice wt.a wt.len wt.cap]::A0J pb o1.aV::U5 A0O 7 fl o1.aG::U5 Z6 5 wt (m::w)::p7 .i64 out os::R):=gJ
 clear gJ ba aa
 refine cut (fun z h'=>h'=h4∧z.1=decide (0<m.2.2.1∧o1.most≤(o1.aG.length:Int))) ?_ ?_
 ·intro K2 bd
  refine⟨m.2.2.1,by rw[U3];exact ae.cell 2,?_⟩
  (try dsimp only);rw[U9]
  by_cases gq:0<m.2.2.1
  ·rw[if_pos (by simpa using gq)]
   refine⟨_,rfl,fl,by rw[U3];exact ae.p1.cell 3,_,rfl,o1.most,by rw[U3];exact ae.p1.cell 1,?_⟩
   refine bd _ _ ⟨rfl,?_⟩
   simp only[cT]
   rw[G6]
   simp[gq]
  ·rw[if_neg (by simpa using gq)]
   exact bd _ _ ⟨rfl,by simp[gq]⟩
 rintro⟨z,⟨⟩⟩ h5 ⟨rfl,hz⟩
 simp only at hz
 subst hz
 (try dsimp only);rw[U9]
 by_cases aA:0<m.2.2.1∧o1.most≤(o1.aG.length:Int)
 ·rw[if_pos (by simpa using aA)]
  rw[if_pos aA] at dj db
  rw[C1] at db
  refine fz (.inr (.inr (.inr (out,())))) _ ?_
  show sat h5 (a7 b (Y7 o).1::p7 .i64 out (ps++(Y7 o).2)::R)
  rw[←dj,←db]
  have:sat h5 (a7 b {o1 with waiting:=m::w}::p7 .i64 out os::R):=q7.2 ⟨pb,fl,wt,ae.drop⟩
  exact this
 rw[if_neg (by simpa using aA)]
 rw[if_neg aA] at dj db
 refine⟨_,rfl,wt,by rw[U3];exact ae.p1.cell 4,?_⟩
 (try dsimp only);rw[U1]
 refine B2i (mx:=none) (lo:=1) (hi:=(m::w).length) ae.p4 A7D (by simp) (D9 _) ⟨rfl,by simp⟩ (by rw[eK];rfl) fun wt' aj=>?_
 rw[F9] at aj
 have bo:sat h5 (U5 Z6 5 wt' w::cells fW (Z6 m).toArray::cells b #[at0 pb,.int .i64 o1.most,.bool o1.on,.slice fl.a fl.len fl.cap,.slice wt.a wt.len wt.cap]::A0J pb o1.aV::U5 A0O 7 fl o1.aG::p7 .i64 out os::R):=aj
 clear aj ae
 refine⟨_,rfl,?_⟩
 (try dsimp only);rw[U1,U3]
 refine W7 bo.p2 (by simp) rfl fun h6 bp=>?_
 have ak:sat h6 (cells b #[at0 pb,.int .i64 o1.most,.bool o1.on,.slice fl.a fl.len fl.cap,.slice wt'.a wt'.len wt'.cap]::U5 Z6 5 wt' w::cells fW (Z6 m).toArray::A0J pb o1.aV::U5 A0O 7 fl o1.aG::p7 .i64 out os::R):=bp
 clear bp bo
 refine⟨m.2.2.1,by rw[U3];exact ak.p2.cell 2,?_⟩
 (try dsimp only);rw[U9]
 by_cases gq:0<m.2.2.1
 ·rw[if_neg (by simp;omega)]
  rw[if_pos gq] at dj db
  dsimp only at dj db
  have jI:(o1.aG.length:Int)<o1.most:=by omega
  refine⟨_,rfl,some ⟨pb,0,none⟩,by rw[U3];exact ak.cell 0,?_⟩
  have tT:=ag.fI
  have iQ:=ag.pm
  refine u9 (B9B ak.p3 ag.pk (fun hf=>absurd hf (by omega)) (fun _ n u hr h7 gi=>⟨(u,0,()),rfl,?_⟩))
  have hu:=B5q hr
  have aK:sat h7 (A0J pb ⟨o1.aV.most,u,o1.aV.used++[u]⟩::cells b #[at0 pb,.int .i64 o1.most,.bool o1.on,.slice fl.a fl.len fl.cap,.slice wt'.a wt'.len wt'.cap]::U5 Z6 5 wt' w::cells fW (Z6 m).toArray::U5 A0O 7 fl o1.aG::p7 .i64 out os::R):=gi
  clear gi
  refine⟨_,rfl,fl,by rw[U3];exact aK.p1.cell 3,?_⟩
  refine Y5 (ts:=[.str,.str,.int .i64,.bool,.str]) (toU m) aK.p3 rfl ?_
  refine V5 aK fun po h8 bw=>?_
  refine⟨fl,by rw[U3];exact bw.p2.cell 3,rfl,?_⟩
  (try dsimp only);rw[U1]
  refine A0d (enc:=A0O) (ys:=[(u,m,false)]) A2F B1V rfl bw.p5 rfl ?_ (by decide) (by decide) (by omega) fun fl' h9 ff=>?_
  ·simp only[V6,N5,D8,H9,C1]
   exact bw.reads rfl
  refine⟨_,rfl,?_⟩
  (try dsimp only);rw[U1,U3]
  refine W7 ff.p3 (by simp) rfl fun fZ gj=>?_
  have aU:=ag.take (m:=m) (w:=w) (by simp only[B8] at ig;omega) nC ⟨gq,tD.2⟩ jI
  rw[hu] at dj db aU
  have eY:sat fZ (a7 b {o1 with aV:=⟨o1.aV.most,u,o1.aV.used++[u]⟩,aG:=o1.aG++[(u,m,false)],waiting:=w}::cells fW (Z6 m).toArray::p7 .i64 out os::R):=q7.2 ⟨pb,fl',wt',(gj.re [2,5,0,3,1,4,6]).drop.re [1,2,3,4,0]⟩
  refine Y5 (ts:=[.str,.str,.int .i64,.bool,.str]) (toU m) eY.p1 rfl ?_
  refine U6 (B8q (m:=m) (id:=u) (dup:=false) eY fun c p h8 aw=>⟨pkT (A0x m u false) c p,rfl,?_⟩)
  refine B5k (t:=(c,p,A0x m u false)) (aw.re [3,0,1,2]) rfl rfl (by simp only[B8] at gV;omega) fun out' h9 aK=>?_
  refine fz (.inl (out',())) _ ⟨({o1 with aV:=⟨o1.aV.most,u,o1.aV.used++[u]⟩,aG:=o1.aG++[(u,m,false)],waiting:=w},os++[A0x m u false]),?_,aU,aP,?_,?_,?_,?_⟩
  ·simp only[bz,B8];omega
  ·simp only[B5,B8,H2] at gV⊢
   omega
  ·rw[←dj]
   have:=congrArg Prod.fst (A4c {o1 with aV:=⟨o1.aV.most,u,o1.aV.used++[u]⟩,aG:=o1.aG++[(u,m,false)]} w w)
   unfold Y7
   rw[if_pos aP]
   exact this
  ·rw[←db]
   have:=congrArg Prod.snd (A4c {o1 with aV:=⟨o1.aV.most,u,o1.aV.used++[u]⟩,aG:=o1.aG++[(u,m,false)]} w w)
   simp only at this⊢
   unfold Y7
   rw[if_pos aP,this,D2]
   rfl
  ·exact((aK.re [2,1,0]).drop)
 ·rw[if_pos (by simp;omega)]
  rw[if_neg gq] at dj db
  dsimp only at dj db
  have eY:sat h6 (a7 b {o1 with waiting:=w}::cells fW (Z6 m).toArray::p7 .i64 out os::R):=q7.2 ⟨pb,fl,wt',ak.re [0,3,4,1,2]⟩
  refine Y5 (ts:=[.str,.str,.int .i64,.bool,.str]) (toU m) eY.p1 rfl ?_
  refine U6 (B8q (m:=m) (id:=0) (dup:=false) eY fun c p h8 aw=>⟨pkT (A0x m 0 false) c p,rfl,?_⟩)
  refine B5k (t:=(c,p,A0x m 0 false)) (aw.re [3,0,1,2]) rfl rfl (by simp only[B8] at gV;omega) fun out' h9 aK=>?_
  have bq:X0 {o1 with waiting:=w}:=⟨ag.pm,ag.pk,ag.m1,ag.m64,ag.ids,by simp only[B8] at ig⊢;omega,ag.fq,nC⟩
  refine fz (.inl (out',())) _ ⟨({o1 with waiting:=w},os++[A0x m 0 false]),?_,bq,aP,?_,?_,?_,?_⟩
  ·simp only[bz,B8];omega
  ·simp only[B5,B8,H2] at gV⊢
   omega
  ·rw[←dj]
   unfold Y7
   rw[if_pos aP]
   exact congrArg Prod.fst (A4c o1 w w)
  ·rw[←db]
   have:=congrArg Prod.snd (A4c o1 w w)
   unfold Y7
   rw[if_pos aP]
   simp only at this⊢
   rw[this,D2]
   rfl
  ·exact((aK.re [2,1,0]).drop)
end
section
open Go.H Go.Proofs
variable {h:Heap} {R:List Asn}
theorem B9D{b:Nat}{o:Z5}{m:MsT}(hs:sat h (a7 b o::R))(ag:X0 o){Q:Value→Heap→Prop}
  (hq:∀S h',sat h' (a7 b (Y3 o m).1.1::p7 .i64 S (Y3 o m).1.2::R)→Q (.tuple #[.slice S.a S.len S.cap,.int .i64 (Y3 o m).2]) h'):
  V3 prog 139 #[at0 b,vMs m] h Q:=by
 refine B2z (some ⟨b,0,none⟩) (toU m) h Q ?_
 obtain⟨pb,fl,wt,dT⟩:=q7.1 hs
 have eK:wt.len=o.waiting.length:=(dT.re [3,0,1,2]).aW
 delta B5a az bn cc g7 ie ji kb kc nn nw pu rq sx vs vz
 refine V5 dT fun mb h1 bB=>?_
 have aa:sat h1 (cells mb (Z6 m).toArray::cells b #[at0 pb,.int .i64 o.most,.bool o.on,.slice fl.a fl.len fl.cap,.slice wt.a wt.len wt.cap]::A0J pb o.aV::U5 A0O 7 fl o.aG::U5 Z6 5 wt o.waiting::R):=bB
 clear bB dT hs
 have hM:W0 h1 ⟨mb,2,none⟩=some (.int .i64 m.2.2.1):=aa.cell 2
 have stay:∀{c:Int},Y3 o m=((o,[]),c)→Q (.tuple #[.slice none 0 0,.int .i64 c]) h1:=fun{c} he=>by
  have:=hq ⟨none,0,0⟩ h1
  rw[he] at this
  exact this ((A1O (q7.2 ⟨pb,fl,wt,aa.drop⟩)).p1)
 refine cut (fun x h'=>h'=h1∧x.1=decide (m.2.2.1<0∨2<m.2.2.1)) ?_ ?_
 ·intro K hK
  refine⟨m.2.2.1,by rw[U3];exact hM,?_⟩
  (try dsimp only);rw[U9]
  by_cases h0:m.2.2.1<0
  ·rw[if_pos (by simpa using h0)]
   exact hK _ _ ⟨rfl,by simp[h0]⟩
  ·rw[if_neg (by simpa using h0)]
   exact⟨m.2.2.1,by rw[U3];exact hM,hK _ _ ⟨rfl,by simp[h0]⟩⟩
 rintro⟨x,⟨⟩⟩ h2 ⟨rfl,hx⟩
 simp only at hx
 subst hx
 (try dsimp only);rw[U9]
 by_cases al:m.2.2.1<0∨2<m.2.2.1
 ·rw[if_pos (by simpa using al)]
  exact stay (by unfold Y3;rw[if_pos al])
 rw[if_neg (by simpa using al)]
 refine cut (fun x h'=>h'=h2∧x.1=decide (m.2.2.1=0∧o.on=false)) ?_ ?_
 ·intro K hK
  refine⟨m.2.2.1,by rw[U3];exact hM,?_⟩
  (try dsimp only);rw[U9]
  by_cases h0:m.2.2.1=0
  ·rw[if_pos (by simpa using h0)]
   refine⟨_,rfl,o.on,by rw[U3];exact aa.p1.cell 2,hK _ _ ⟨rfl,?_⟩⟩
   cases o.on<;>simp[h0]
  ·rw[if_neg (by simpa using h0)]
   exact hK _ _ ⟨rfl,by simp[h0]⟩
 rintro⟨x,⟨⟩⟩ h3 ⟨rfl,hx⟩
 simp only at hx
 subst hx
 (try dsimp only);rw[U9]
 by_cases dH:m.2.2.1=0∧o.on=false
 ·rw[if_pos (by simpa using dH)]
  exact stay (by unfold Y3;rw[if_neg al,if_pos dH])
 rw[if_neg (by simpa using dH)]
 refine⟨_,rfl,wt,by rw[U3];exact aa.p1.cell 4,?_⟩
 (try dsimp only);rw[U9]
 by_cases aA:256≤o.waiting.length
 ·rw[if_pos (by rw[eK];simp only[decide_eq_true_eq];omega)]
  exact stay (by unfold Y3;rw[if_neg al,if_neg dH,if_pos aA])
 rw[if_neg (by rw[eK];simp only[decide_eq_true_eq];omega)]
 refine⟨_,rfl,wt,by rw[U3];exact aa.p1.cell 4,?_⟩
 refine Y5 (ts:=[.str,.str,.int .i64,.bool,.str]) (toU m) aa rfl ?_
 refine V5 aa fun pA h4 ba=>?_
 have ae:sat h4 (cells pA (Z6 m).toArray::cells mb (Z6 m).toArray::cells b #[at0 pb,.int .i64 o.most,.bool o.on,.slice fl.a fl.len fl.cap,.slice wt.a wt.len wt.cap]::A0J pb o.aV::U5 A0O 7 fl o.aG::U5 Z6 5 wt o.waiting::R):=ba
 clear ba
 refine⟨wt,by rw[U3];exact ae.p2.cell 4,rfl,?_⟩
 (try dsimp only);rw[U1]
 refine A0d (enc:=Z6) (ys:=[m]) A7D B50 rfl ae.p5 rfl ?_ (by decide) (by decide) (by omega) fun wt' h5 aj=>?_
 ·simp only[V6,N5,D8,H9,C1]
  exact ae.reads rfl
 refine⟨_,rfl,?_⟩
 (try dsimp only);rw[U1,U3]
 refine W7 aj.p3 (by simp) rfl fun h6 ak=>?_
 have ai:sat h6 (a7 b {o with waiting:=o.waiting++[m]}::p7 .i64 ⟨none,0,0⟩ []::R):=by
  refine(A1O (q7.2 ⟨pb,fl,wt',?_⟩)).p1
  exact(ak.re [0,4,5,1,2,3]).p4.p5.drop.drop
 have hw:=ag.wait (m:=m) ⟨by omega,by omega⟩ aA
 have he:Y3 o m=(Y7 {o with waiting:=o.waiting++[m]},0):=by unfold Y3;rw[if_neg al,if_neg dH,if_neg aA]
 rw[he] at hq
 refine U6 (B0h ai hw (by simp) fun h7 S aw=>⟨S,rfl,?_⟩)
 exact hq S h7 aw
theorem B8t{b:Nat}{o:Z5}{most:Int}(hs:sat h (a7 b o::R))(ag:X0 o){Q:Value→Heap→Prop}
  (hq:∀S h',sat h' (a7 b (A0k o most).1::p7 .i64 S (A0k o most).2::R)→Q (.slice S.a S.len S.cap) h'):
  V3 prog 151 #[at0 b,.int .i64 most] h Q:=by
 refine B07 (some ⟨b,0,none⟩) most h Q ?_
 obtain⟨pb,fl,wt,dT⟩:=q7.1 hs
 delta B3u ad az bn cc ci g2 g5 g7 ie ix jb ji kc nn nw pu sn sx ve vi vs vz wi
 refine⟨_,rfl,?_⟩
 (try dsimp only);rw[U1,U3]
 refine W7 dT (by simp) rfl fun h0 sZ=>?_
 refine U6 (B7v sZ fun h1 aa=>⟨_,rfl,?_⟩)
 refine⟨_,rfl,?_⟩
 (try dsimp only);rw[U1,U3]
 refine W7 aa (by simp) rfl fun h2 ba=>?_
 have ae:sat h2 (cells b #[at0 pb,.int .i64 (max 1 (min most 64)),.bool true,.slice fl.a fl.len fl.cap,.slice wt.a wt.len wt.cap]::A0J pb o.aV::U5 A0O 7 fl o.aG::U5 Z6 5 wt o.waiting::R):=ba
 clear ba aa dT hs
 have cT:fl.len=o.aG.length:=ae.p2.aW
 have iv:=ag.f64
 (try dsimp only);rw[U1]
 refine A7m (γ:=Nat) (fun i x h'=>i≤o.aG.length∧x.2.1=(i:Int)∧sat h' (cells b #[at0 pb,.int .i64 (max 1 (min most 64)),.bool true,.slice fl.a fl.len fl.cap,.slice wt.a wt.len wt.cap]::A0J pb o.aV::U5 A0O 7 fl o.aG::U5 Z6 5 wt o.waiting::p7 .i64 x.1 ((o.aG.take i).map A1y)::R))
  (fun i=>o.aG.length-i) 0 ⟨D1 _,rfl,by simpa using(A1O (k:=.i64) ae).re [1,2,3,4,0]⟩ ?_
 rintro i ⟨out,ci,⟨⟩⟩ h ⟨hi,hx,aj⟩ K bx hd
 simp only at hx aj
 subst hx
 refine⟨_,rfl,fl,by rw[U3];exact aj.cell 3,?_⟩
 (try dsimp only);rw[U9]
 by_cases ah:i<o.aG.length
 case neg=>
  rw[if_neg (by rw[cT];simp only[decide_eq_true_eq];omega)]
  rw[D6 (by omega)] at aj
  refine hd _ _ ?_
  have ak:sat h (a7 b {o with on:=true,most:=max 1 (min most 64)}::p7 .i64 out (o.aG.map A1y)::R):=q7.2 ⟨pb,fl,wt,aj⟩
  have h1:X0 {o with on:=true,most:=max 1 (min most 64)}:=⟨ag.pm,ag.pk,by simp only;omega,by simp only;omega,ag.ids,ag.wl,ag.fq,ag.wq⟩
  refine U6 (B0h ak h1 (by rw[C2];omega) fun h7 S aw=>⟨S,rfl,?_⟩)
  exact hq S h7 aw
 case pos=>
  rw[if_pos (by rw[cT];simp only[decide_eq_true_eq];omega)]
  have hy:=B0 ah
  have aU:(o.aG.take (i+1)).map A1y=(o.aG.take i).map A1y++[A1y o.aG[i]]:=by rw[H8,hy,C0];rfl
  generalize o.aG[i]=f at hy aU
  refine cut (fun z h'=>sat h' (p7 .i64 z.1 ((o.aG.take (i+1)).map A1y)::cells b #[at0 pb,.int .i64 (max 1 (min most 64)),.bool true,.slice fl.a fl.len fl.cap,.slice wt.a wt.len wt.cap]::A0J pb o.aV::U5 A0O 7 fl o.aG::U5 Z6 5 wt o.waiting::R)) ?_ ?_
  rotate_left
  ·rintro⟨out',⟨⟩⟩ h6 aw
   exact bx (i+1) _ _ (by omega) ⟨by omega,by rw[V8 (by omega) (by omega)];rfl,aw.re [1,2,3,4,0]⟩
  intro K2 bd
  refine⟨_,rfl,fl,by rw[U3];exact aj.cell 3,?_⟩
  (try dsimp only);rw[U1]
  refine X8 (aj.p2.aO A2F) hy fun a ha=>?_
  refine A0n (ts:=[.int .i64,.str,.str,.int .i64,.bool,.str,.bool]) (C3k f) ha ?_
  refine V5 aj fun lA h4 ak=>?_
  (try dsimp only);rw[U1]
  refine l5 ak rfl rfl fun h5 fo=>?_
  have ai:sat h5 (cells lA (A0O f).toArray::cells b #[at0 pb,.int .i64 (max 1 (min most 64)),.bool true,.slice fl.a fl.len fl.cap,.slice wt.a wt.len wt.cap]::A0J pb o.aV::U5 A0O 7 fl o.aG::U5 Z6 5 wt o.waiting::p7 .i64 out ((o.aG.take i).map A1y)::R):=fo
  clear fo ak
  refine⟨f.2.2,by rw[U3];exact ai.cell 6,?_⟩
  have oU:((o.aG.take i).map A1y).length≤64:=by rw[C2,E6];omega
  rw[aU] at bd
  (try dsimp only);rw[U9]
  unfold A1y at bd
  by_cases hr:f.2.2=true
  ·rw[if_pos hr]
   rw[if_pos hr] at bd
   refine⟨f.1,by rw[U3];exact ai.cell 0,?_⟩
   have aw:=A3g (k:=.i64) (o:=j3 6 f.1 0) rfl rfl ai
   refine A4Z (t:=(⟨none,0,0⟩,⟨none,0,0⟩,j3 6 f.1 0)) (aw.re [6,0,1,2,3,4,5]) rfl (by decide) (by omega) fun s' h6 aK=>?_
   exact bd _ _ aK.p1.drop
  ·rw[if_neg hr]
   rw[if_neg hr] at bd
   refine A0n (ts:=[.str,.str,.int .i64,.bool,.str]) (toU f.2.1) (fun j v hv=>?_) ?_
   ·rw[U3,Addr.bM,ai.cell]
    match j,hv with
    |0,hv=>exact hv
    |1,hv=>exact hv
    |2,hv=>exact hv
    |3,hv=>exact hv
    |4,hv=>exact hv
    |n+5,hv=>exact absurd hv (by show ¬(Z6 f.2.1)[n+5]? =some v;simp)
   refine⟨f.1,by rw[U3];exact ai.cell 0,?_⟩
   refine U6 (B8q (m:=f.2.1) (id:=f.1) (dup:=true) ai fun c p h6 aw=>⟨pkT (A0x f.2.1 f.1 true) c p,rfl,?_⟩)
   refine B5k (t:=(c,p,A0x f.2.1 f.1 true)) (aw.re [6,0,1,2,3,4,5]) rfl rfl (by omega) fun s' h7 aK=>?_
   exact bd _ _ aK.p1.drop
theorem B9E{b:Nat}{o:Z5}{i:Nat}{f:FlT}(hs:sat h (a7 b o::R))(ag:X0 o)(hf:o.aG[i]? =some f){Q:Value→Heap→Prop}
  (hq:∀h',sat h' (a7 b (A3i o f.1)::R)→Q (.tuple #[]) h'):V3 prog 195 #[at0 b,.int .i64 i] h Q:=by
 refine B2x (some ⟨b,0,none⟩) i h Q ?_
 obtain⟨pb,fl,wt,aa⟩:=q7.1 hs
 delta B48 az bn cb g5 ie ix kc ki kp nn nw pu sx vi vs wi
 have cK:=(E0.1 hf).1
 have iv:=ag.f64
 refine⟨_,rfl,some ⟨pb,0,none⟩,by rw[U3];exact aa.cell 0,_,rfl,fl,by rw[U3];exact aa.cell 3,?_⟩
 (try dsimp only);rw[U1]
 refine X8 (aa.p2.aO A2F) hf fun a ha=>?_
 refine⟨f.1,ha 0 _ rfl,?_⟩
 refine U6 (B3p aa.p1 ag.pk fun h2 ba=>⟨_,rfl,?_⟩)
 have ae:sat h2 (cells b #[at0 pb,.int .i64 o.most,.bool o.on,.slice fl.a fl.len fl.cap,.slice wt.a wt.len wt.cap]::A0J pb ⟨o.aV.most,o.aV.taken,o.aV.used.erase f.1⟩::U5 A0O 7 fl o.aG::U5 Z6 5 wt o.waiting::R):=ba.p1
 clear ba
 have cT:fl.len=o.aG.length:=ae.p2.aW
 (try dsimp only);rw[U1]
 refine A7m (γ:=Nat) (fun j x h'=>j≤o.aG.length∧x.2.1=(j:Int)∧sat h' (U5 A0O 7 x.1 (if j≤i then o.aG.take j else o.aG.take i++(o.aG.take j).drop (i+1))::cells b #[at0 pb,.int .i64 o.most,.bool o.on,.slice fl.a fl.len fl.cap,.slice wt.a wt.len wt.cap]::A0J pb ⟨o.aV.most,o.aV.taken,o.aV.used.erase f.1⟩::U5 A0O 7 fl o.aG::U5 Z6 5 wt o.waiting::R))
  (fun j=>o.aG.length-j) 0 ⟨D1 _,rfl,by rw[if_pos (D1 _),List.take_zero];exact Z3 ae⟩ ?_
 rintro j ⟨out,ci,⟨⟩⟩ h ⟨hi,hx,aj⟩ K bx hd
 simp only at hx aj
 subst hx
 refine⟨_,rfl,fl,by rw[U3];exact aj.p1.cell 3,?_⟩
 (try dsimp only);rw[U9]
 by_cases ah:j<o.aG.length
 case neg=>
  rw[if_neg (by rw[cT];simp only[decide_eq_true_eq];omega)]
  have hj:j=o.aG.length:=by omega
  have e:o.aG.take j=o.aG:=D6 (by omega)
  rw[if_neg (by omega),e,←List.eraseIdx_eq_take_drop_succ,B7W ag.nd hf] at aj
  refine hd _ _ ⟨_,rfl,?_⟩
  (try dsimp only);rw[U1,U3]
  refine W7 aj.p1 (by simp) rfl fun h4 ak=>?_
  exact hq h4 (q7.2 ⟨pb,out,wt,(ak.re [0,2,1,4,3]).re [0,1,2,3,4]|>fun hh=>(hh.re [4,0,1,2,3]).drop⟩)
 rw[if_pos (by rw[cT];simp only[decide_eq_true_eq];omega)]
 have hy:=B0 ah
 have aU:o.aG.take (j+1)=o.aG.take j++[o.aG[j]]:=by rw[H8,hy];rfl
 generalize o.aG[j]=g at hy aU
 refine cut (fun z h'=>sat h' (U5 A0O 7 z.1 (if j+1≤i then o.aG.take (j+1) else o.aG.take i++(o.aG.take (j+1)).drop (i+1))::cells b #[at0 pb,.int .i64 o.most,.bool o.on,.slice fl.a fl.len fl.cap,.slice wt.a wt.len wt.cap]::A0J pb ⟨o.aV.most,o.aV.taken,o.aV.used.erase f.1⟩::U5 A0O 7 fl o.aG::U5 Z6 5 wt o.waiting::R)) ?_ ?_
 rotate_left
 ·rintro⟨out',⟨⟩⟩ h6 aw
  exact bx (j+1) _ _ (by omega) ⟨by omega,by rw[V8 (by omega) (by omega)];rfl,aw⟩
 intro K2 bd
 (try dsimp only);rw[U9]
 by_cases vh:j=i
 ·rw[if_neg (by simp[vh])]
  refine bd _ _ ?_
  subst vh
  rw[if_pos (D9 _)] at aj
  rw[if_neg (by omega),M9 (by rw[E6];omega),C1]
  exact aj
 ·rw[if_pos (by simp;omega)]
  refine⟨_,rfl,fl,by rw[U3];exact aj.p1.cell 3,?_⟩
  (try dsimp only);rw[U1]
  refine X8 (aj.p3.aO A2F) hy fun a ha=>?_
  refine A0n (ts:=[.int .i64,.str,.str,.int .i64,.bool,.str,.bool]) (C3k g) ha ?_
  refine A06 (x:=g) A2F B1V rfl aj (by decide) (by decide) ?_ fun out' h4 ak=>?_
  ·have:(if j≤i then o.aG.take j else o.aG.take i++(o.aG.take j).drop (i+1)).length≤130:=by
    split
    ·rw[E6];omega
    ·rw[B5,R2,E6,E6];omega
   omega
  refine bd _ _ ?_
  by_cases h1:j≤i
  ·rw[if_pos h1] at ak
   rw[if_pos (by omega),aU]
   exact ak
  ·rw[if_neg h1] at ak
   rw[if_neg (by omega),aU,P1 (by rw[E6];omega),←D2]
   exact ak
theorem C1g{b:Nat}{o:Z5}{p:Pk}(hs:sat h (a7 b o::R))(ag:X0 o){Q:Value→Heap→Prop}
  (hq:∀S h',sat h' (a7 b (A0V o p.1 p.2.2.2.2.1 p.2.2.2.2.2.2.2.1).1.1::p7 .i64 S (A0V o p.1 p.2.2.2.2.1 p.2.2.2.2.2.2.2.1).1.2::R)→Q (.tuple #[.slice S.a S.len S.cap,.int .i64 (A0V o p.1 p.2.2.2.2.1 p.2.2.2.2.2.2.2.1).2]) h'):
  V3 prog 142 #[at0 b,A2s .i64 p] h Q:=by
 refine B0o (some ⟨b,0,none⟩) p h Q ?_
 delta B08 ad az bn cc cx g5 ie ix jb ji kb kc ki nn nw pu sn sx ve vi vs vz wi
 refine V5 hs fun cb h1 bB=>?_
 have aa:sat h1 (cells cb (W8 .i64 p).toArray::a7 b o::R):=bB
 clear bB hs
 have k0:∀{h':Heap} {R':List Asn},sat h' (cells cb (W8 .i64 p).toArray::R')→W0 h' ⟨cb,0,none⟩=some (.int .i64 p.1):=fun hs=>hs.cell 0
 have k4:∀{h':Heap} {R':List Asn},sat h' (cells cb (W8 .i64 p).toArray::R')→W0 h' ⟨cb,4,none⟩=some (.int .i64 p.2.2.2.2.1):=fun hs=>hs.cell 4
 have k7:∀{h':Heap} {R':List Asn},sat h' (cells cb (W8 .i64 p).toArray::R')→W0 h' ⟨cb,7,none⟩=some (.int .i64 p.2.2.2.2.2.2.2.1):=fun hs=>hs.cell 7
 generalize hk:p.1=k at*
 generalize hid:p.2.2.2.2.1=id at*
 generalize oT:p.2.2.2.2.2.2.2.1=c at*
 generalize(W8 .i64 p).toArray=cs at*
 have stay:∀{cc:Int} {h':Heap},sat h' (cells cb cs::a7 b o::R)→A0V o k id c=((o,[]),cc)→Q (.tuple #[.slice none 0 0,.int .i64 cc]) h':=fun{cc h'} hs he=>by
  have:=hq ⟨none,0,0⟩ h'
  rw[he] at this
  exact this ((A1O hs.drop).p1)
 refine⟨k,by rw[U3];exact k0 aa,k,by rw[U3];exact k0 aa,k,by rw[U3];exact k0 aa,?_⟩
 refine cut (fun x h'=>h'=h1∧x.1=decide (o.on=false∨(k≠4∧k≠5∧k≠7))) ?_ ?_
 ·intro K hK
  obtain⟨pb,fl,wt,ae⟩:=q7.1 aa.p1
  refine⟨_,rfl,o.on,by rw[U3];exact ae.cell 2,?_⟩
  (try dsimp only);rw[U9]
  cases aP:o.on with
  |false=>rw[if_pos (by rfl)];exact hK _ _ ⟨rfl,by simp[aP]⟩
  |true=>
   rw[if_neg (by simp)]
   (try dsimp only);rw[U9]
   by_cases h4:k=4
   ·rw[if_neg (by simp[h4])];exact hK _ _ ⟨rfl,by simp[h4,aP]⟩
   ·rw[if_pos (by simp[h4])]
    (try dsimp only);rw[U9]
    by_cases h5:k=5
    ·rw[if_neg (by simp[h5])];exact hK _ _ ⟨rfl,by simp[h5,aP]⟩
    ·rw[if_pos (by simp[h5])]
     refine hK _ _ ⟨rfl,?_⟩
     by_cases h7:k=7<;>simp[h4,h5,h7,aP]
 rintro⟨x,⟨⟩⟩ h2 ⟨rfl,hx⟩
 simp only at hx
 subst hx
 (try dsimp only);rw[U9]
 by_cases al:o.on=false∨(k≠4∧k≠5∧k≠7)
 ·rw[if_pos (by simpa using al)]
  exact stay aa (by unfold A0V;rw[if_pos al])
 rw[if_neg (by simpa using al)]
 have iv:=ag.f64
 obtain⟨pb,fl,wt,ba⟩:=q7.1 aa.p1
 have ae:sat h2 (cells b #[at0 pb,.int .i64 o.most,.bool o.on,.slice fl.a fl.len fl.cap,.slice wt.a wt.len wt.cap]::cells cb cs::A0J pb o.aV::U5 A0O 7 fl o.aG::U5 Z6 5 wt o.waiting::R):=ba.re [0,4,1,2,3]
 clear ba
 have cT:fl.len=o.aG.length:=ae.p3.aW
 refine cut (fun z h'=>h'=h2∧((z.1= -1∧∀f∈o.aG,f.1≠id)∨∃(i:Nat) (f:FlT),z.1=(i:Int)∧o.aG[i]? =some f∧f.1=id)) ?_ ?_
 ·intro K hK
  refine A7m (γ:=Nat) (fun j x h'=>h'=h2∧j≤o.aG.length∧x.2.1=(j:Int)∧((x.1= -1∧∀f∈o.aG.take j,f.1≠id)∨∃(i:Nat) (f:FlT),x.1=(i:Int)∧o.aG[i]? =some f∧f.1=id))
   (fun j=>o.aG.length-j) 0 ⟨rfl,D1 _,rfl,.inl ⟨rfl,by simp⟩⟩ ?_
  rintro j ⟨z,ci,⟨⟩⟩ h ⟨rfl,hi,hx,hz⟩ K1 bx hd
  simp only at hx hz
  subst hx
  refine⟨_,rfl,fl,by rw[U3];exact ae.cell 3,?_⟩
  (try dsimp only);rw[U9]
  by_cases ah:j<o.aG.length
  case neg=>
   rw[if_neg (by rw[cT];simp only[decide_eq_true_eq];omega)]
   rw[D6 (by omega)] at hz
   exact hd _ _ (hK _ _ ⟨rfl,hz⟩)
  rw[if_pos (by rw[cT];simp only[decide_eq_true_eq];omega)]
  refine⟨_,rfl,fl,by rw[U3];exact ae.cell 3,?_⟩
  have hy:=B0 ah
  have aU:o.aG.take (j+1)=o.aG.take j++[o.aG[j]]:=by rw[H8,hy];rfl
  generalize o.aG[j]=g at hy aU
  (try dsimp only);rw[U1]
  refine X8 (ae.p3.aO A2F) hy fun a ha=>?_
  refine⟨g.1,ha 0 _ rfl,id,by rw[U3];exact k4 ae.p1,?_⟩
  have nx:∀z':Int,((z'= -1∧∀f∈o.aG.take (j+1),f.1≠id)∨∃(i:Nat) (f:FlT),z'=(i:Int)∧o.aG[i]? =some f∧f.1=id)→K1 (.inl (z',IntKind.wrap .i64 ((j:Int)+1),())) h:=fun z' oC=>
   bx (j+1) _ _ (by omega) ⟨rfl,by omega,by rw[V8 (by omega) (by omega)];rfl,oC⟩
  (try dsimp only);rw[U1,U9]
  by_cases e:g.1=id
  ·rw[if_pos (by simpa using e)]
   exact nx _ (.inr ⟨j,g,rfl,hy,e⟩)
  ·rw[if_neg (by simpa using e)]
   refine nx _ ?_
   rcases hz with⟨hz,hn⟩|hz
   ·refine .inl ⟨hz,fun f hf=>?_⟩
    rw[aU] at hf
    rcases C9.1 hf with hf|hf
    ·exact hn f hf
    ·rw[B7.1 hf];exact e
   ·exact .inr hz
 rintro⟨z,cj,⟨⟩⟩ h3 ⟨rfl,hz⟩
 simp only at hz
 (try dsimp only);rw[U9]
 rcases hz with⟨rfl,ax⟩|⟨i,f,rfl,hf,he⟩
 ·rw[if_pos (by rfl)]
  refine stay aa ?_
  unfold A0V
  rw[if_neg al,B7V ax]
 rw[if_neg (by simp)]
 have gO:=C0r ag.nd hf he
 have oP:=E9 hf
 have aF:A0V o k id c=(if k=4 then(if f.2.1.2.2.1≠1 then((o,[]),130) else(Y7 (A3i o id),0))
   else if k=5 then
    (if f.2.1.2.2.1≠2∨(128≤c∧f.2.2=true) then((o,[]),130)
    else if 128≤c then(Y7 (A3i o id),0)
    else(((Y7 (B2m o id)).1,j3 6 id 0::(Y7 (B2m o id)).2),0))
   else(if f.2.2=false then((o,[]),130) else(Y7 (A3i o id),0))):=by
  unfold A0V
  rw[if_neg al,gO]
 have xw:=ag.fq f oP
 refine⟨_,rfl,fl,by rw[U3];exact ae.cell 3,?_⟩
 (try dsimp only);rw[U1]
 refine X8 (ae.p3.aO A2F) hf fun a ha=>?_
 refine A0n (ts:=[.int .i64,.str,.str,.int .i64,.bool,.str,.bool]) (C3k f) ha ?_
 refine V5 ae fun mm h4 ak=>?_
 (try dsimp only);rw[U1]
 refine l5 ak rfl rfl fun h5 fo=>?_
 have ai:sat h5 (cells mm (A0O f).toArray::cells b #[at0 pb,.int .i64 o.most,.bool o.on,.slice fl.a fl.len fl.cap,.slice wt.a wt.len wt.cap]::cells cb cs::A0J pb o.aV::U5 A0O 7 fl o.aG::U5 Z6 5 wt o.waiting::R):=fo
 clear fo ak
 have cF:sat h5 (cells cb cs::a7 b o::R):=sat.p1 (q7.2 ⟨pb,fl,wt,(ai.drop.re [0,2,3,4,1])⟩)
 have aq:W0 h5 ((Addr.add ⟨mm,0,none⟩ 1).add 2)=some (.int .i64 f.2.1.2.2.1):=by rw[B18,U3];exact ai.cell 3
 have ar:W0 h5 (Addr.add ⟨mm,0,none⟩ 6)=some (.bool f.2.2):=by rw[U3];exact ai.cell 6
 refine cut (fun z h'=>h'=h5∧z.1=decide (k=4∧f.2.1.2.2.1≠1)) ?_ ?_
 ·intro K hK
  (try dsimp only);rw[U9]
  by_cases e:k=4
  ·rw[if_pos (by simpa using e)]
   exact⟨_,aq,hK _ _ ⟨rfl,by simp[e];rfl⟩⟩
  ·rw[if_neg (by simpa using e)]
   exact hK _ _ ⟨rfl,by simp[e]⟩
 rintro⟨z,⟨⟩⟩ h6 ⟨rfl,hz⟩
 simp only at hz
 subst hz
 (try dsimp only);rw[U9]
 by_cases t1:k=4∧f.2.1.2.2.1≠1
 ·rw[if_pos (by simpa using t1)]
  rw[if_pos t1.1,if_pos t1.2] at aF
  exact stay cF aF
 rw[if_neg (by simpa using t1)]
 refine cut (fun z h'=>h'=h6∧z.1=decide ((k=5∨k=7)∧f.2.1.2.2.1≠2)) ?_ ?_
 ·intro K hK
  (try dsimp only);rw[U9]
  by_cases e:k=5
  ·rw[if_pos (by simpa using e)]
   exact⟨_,aq,hK _ _ ⟨rfl,by simp[e];rfl⟩⟩
  ·rw[if_neg (by simpa using e)]
   (try dsimp only);rw[U9]
   by_cases e7:k=7
   ·rw[if_pos (by simpa using e7)]
    exact⟨_,aq,hK _ _ ⟨rfl,by simp[e7];rfl⟩⟩
   ·rw[if_neg (by simpa using e7)]
    exact hK _ _ ⟨rfl,by simp[e,e7]⟩
 rintro⟨z,⟨⟩⟩ h7 ⟨rfl,hz⟩
 simp only at hz
 subst hz
 (try dsimp only);rw[U9]
 have hk:k=4∨k=5∨k=7:=by
  refine N3 fun e=>al (.inr ⟨fun x=>e (.inl x),fun x=>e (.inr (.inl x)),fun x=>e (.inr (.inr x))⟩)
 by_cases t2:(k=5∨k=7)∧f.2.1.2.2.1≠2
 ·rw[if_pos (by simpa using t2)]
  refine stay cF ?_
  rcases t2 with⟨rfl|rfl,t2⟩
  ·rw[if_neg (by decide),if_pos rfl,if_pos (.inl t2)] at aF
   exact aF
  ·have hr:f.2.2=false:=by
    cases hr:f.2.2 with
    |false=>rfl
    |true=>exact absurd (xw.2.2 hr) t2
   rw[if_neg (by decide),if_neg (by decide),if_pos hr] at aF
   exact aF
 rw[if_neg (by simpa using t2)]
 refine cut (fun z h'=>h'=h7∧z.1=decide (k=5∧128≤c∧f.2.2=true)) ?_ ?_
 ·intro K hK
  (try dsimp only);rw[U9]
  by_cases e:k=5
  ·rw[if_pos (by simpa using e)]
   refine⟨c,by rw[U3];exact k7 ai.p2,?_⟩
   (try dsimp only);rw[U9]
   by_cases hc:128≤c
   ·rw[if_pos (by simpa using hc)]
    refine⟨_,ar,hK _ _ ⟨rfl,?_⟩⟩
    simp[e,hc]
   ·rw[if_neg (by simpa using hc)]
    exact hK _ _ ⟨rfl,by simp[hc]⟩
  ·rw[if_neg (by simpa using e)]
   exact hK _ _ ⟨rfl,by simp[e]⟩
 rintro⟨z,⟨⟩⟩ h8 ⟨rfl,hz⟩
 simp only at hz
 subst hz
 (try dsimp only);rw[U9]
 by_cases t3:k=5∧128≤c∧f.2.2=true
 ·rw[if_pos (decide_eq_true t3)]
  rw[if_neg (by rw[t3.1];decide),if_pos t3.1,if_pos (.inr t3.2)] at aF
  exact stay cF aF
 rw[if_neg (by rw[decide_eq_true_eq];exact t3)]
 refine cut (fun z h'=>h'=h8∧z.1=decide (k=7∧f.2.2=false)) ?_ ?_
 ·intro K hK
  (try dsimp only);rw[U9]
  by_cases e:k=7
  ·rw[if_pos (by simpa using e)]
   refine⟨_,ar,hK _ _ ⟨rfl,?_⟩⟩
   cases f.2.2<;>simp[e]
  ·rw[if_neg (by simpa using e)]
   exact hK _ _ ⟨rfl,by simp[e]⟩
 rintro⟨z,⟨⟩⟩ h9 ⟨rfl,hz⟩
 simp only at hz
 subst hz
 (try dsimp only);rw[U9]
 by_cases t4:k=7∧f.2.2=false
 ·rw[if_pos (decide_eq_true t4)]
  rw[if_neg (by rw[t4.1];decide),if_neg (by rw[t4.1];decide),if_pos t4.2] at aF
  exact stay cF aF
 rw[if_neg (by rw[decide_eq_true_eq];exact t4)]
 refine cut (fun z h'=>h'=h9∧z.1=decide (k=5∧c<128)) ?_ ?_
 ·intro K hK
  (try dsimp only);rw[U9]
  by_cases e:k=5
  ·rw[if_pos (by simpa using e)]
   refine⟨c,by rw[U3];exact k7 ai.p2,hK _ _ ⟨rfl,?_⟩⟩
   simp[e]
  ·rw[if_neg (by simpa using e)]
   exact hK _ _ ⟨rfl,by simp[e]⟩
 rintro⟨z,⟨⟩⟩ fZ ⟨rfl,hz⟩
 simp only at hz
 subst hz
 refine cut (fun z h'=>∃(o':Z5) (os:List PkO),X0 o'∧os.length≤10∧A0V o k id c=(((Y7 o').1,os++(Y7 o').2),0)∧sat h' (a7 b o'::p7 .i64 z.1 os::R)) ?_ ?_
 rotate_left
 ·rintro⟨z,⟨⟩⟩ h4 ⟨o',os,g1,g2,g3,g4⟩
  refine U6 (B0h g4 g1 (by omega) fun h7 S aw=>⟨S,rfl,?_⟩)
  have:=hq S h7
  rw[g3] at this
  exact this aw
 intro K hK
 (try dsimp only);rw[U9]
 by_cases t5:k=5∧c<128
 ·rw[if_pos (decide_eq_true t5)]
  have ef:f.2.1.2.2.1=2:=Classical.not_not.1 fun e=>t2 ⟨.inl t5.1,e⟩
  rw[if_neg (by rw[t5.1];decide),if_pos t5.1,if_neg (by rintro(e|⟨e,-⟩);exact e ef;omega),if_neg (by omega)] at aF
  refine⟨_,rfl,fl,by rw[U3];exact ai.p1.cell 3,?_⟩
  (try dsimp only);rw[U1]
  refine B8S A2F ai.p4 hf fun a ha cy=>?_
  refine cy 6 (.bool true) (f.1,f.2.1,true) _ (by decide) rfl rfl fun qZ eY=>?_
  rw[C2y ag.nd hf,he] at eY
  have aw:sat qZ (cells cb cs::a7 b (B2m o id)::R):=sat.p1 (q7.2 ⟨pb,fl,wt,(eY.re [2,4,0,5,3,1])|>fun hh=>(hh.re [5,0,1,2,3,4]).drop⟩)
  refine⟨id,by rw[U3];exact k4 aw,?_⟩
  have aK:=A1O (k:=.i64) (A3g (k:=.i64) (o:=j3 6 id 0) rfl rfl aw)
  refine A4Z (t:=(⟨none,0,0⟩,⟨none,0,0⟩,j3 6 id 0)) aK rfl (by decide) (by decide) fun s' h6 bw=>?_
  have hrel:X0 (B2m o id):=ag.rel fun g hg e=>by rw[ag.one hg oP (e.trans he.symm)];exact ef
  exact hK _ _ ⟨B2m o id,[j3 6 id 0],hrel,by simp,aF,bw.p1.drop.re [1,0]⟩
 ·rw[if_neg (by rw[decide_eq_true_eq];exact t5)]
  refine u9 (B9E cF.p1 ag hf fun h' af=>⟨(),rfl,?_⟩)
  rw[he] at af
  refine hK _ _ ⟨A3i o id,[],ag.over id,by simp,?_,(A1O af.p1.drop).p1⟩
  rcases hk with e|e|e
  ·rw[if_pos e,if_neg (by rintro e1;exact t1 ⟨e,e1⟩)] at aF
   exact aF
  ·rw[if_neg (by rw[e];decide),if_pos e,if_neg (by rintro(e1|e1);exact t2 ⟨.inl e,e1⟩;exact t3 ⟨e,e1⟩),if_pos (by omega)] at aF
   exact aF
  ·rw[if_neg (by rw[e];decide),if_neg (by rw[e];decide),if_neg (fun e1=>t4 ⟨e,e1⟩)] at aF
   exact aF
end
end Go.Proofs.YtidlldnlphdhcaaGreatDoor