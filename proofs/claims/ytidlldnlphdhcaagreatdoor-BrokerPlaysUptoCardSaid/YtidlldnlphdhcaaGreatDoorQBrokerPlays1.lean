/-
  Our texts, packed by program.
-/
import Derived.Test.YtidlldnlphdhcaaGreatDoorQBrokerPlays0
import Derived.MapKept
import Derived.Below
import Derived.Laws.Append
import Derived.ChangeArms
import Derived.DataReads
import Derived.SizedLaws
import Derived.Handed
import Derived.OpenShut
import Derived.Test.YtidlldnlphdhcaaGreatDoorProg
import Derived.KernelRfl
set_option linter.unusedSimpArgs false
set_option linter.unusedVariables false
set_option maxHeartbeats 16000000
set_option maxRecDepth 100000
namespace Go.H
section
open Go.MapKept (Stamped)
abbrev PH:=Nat→Option Obj
def PH.sub(m:PH)(h:Heap):Prop:=∀k o,m k=some o→h[k]? =some o
def PH.dK(a b:PH):Prop:=∀k,a k=none∨b k=none
def PH.join(a b:PH):PH:=fun k=>match a k with|some o=>some o|none=>b k
abbrev Asn:=PH→Prop
def star(A B:Asn):Asn:=fun m=>∃a b,a.dK b∧m=a.join b∧A a∧B b
def A00:List Asn→Asn
 |[]=>fun _=>True
 |A::L=>star A (A00 L)
def exA{α:Type}(f:α→Asn):Asn:=fun m=>∃x,f x m
def pr(p:Prop):Asn:=fun _=>p
def blk(b:Nat)(o:Obj):Asn:=fun m=>m b=some o
def cells(b:Nat)(cs:D0q):Asn:=exA fun T=>blk b (.cells cs T (0,0))
def old(h0:Heap):Asn:=fun m=>∀(k:Nat) (o:Obj),h0[k]? =some o→m k=some o
def sat(h:Heap)(L:List Asn):Prop:=∃m,PH.sub m h∧A00 L m
theorem join_none{a b:PH}{k:Nat}(h:a k=none):a.join b k=b k:=by simp[PH.join,h]
theorem A3W{a b:PH}{k:Nat}{o:Obj}(h:a k=some o):a.join b k=some o:=by simp[PH.join,h]
theorem A7Z{a b:PH}{k:Nat}{o:Obj}(hd:a.dK b)(h:b k=some o):a.join b k=some o:=by
 rcases hd k with h1|h1
 ·rw[join_none h1];exact h
 ·rw[h] at h1;cases h1
theorem C0Y{a b:PH}{h:Heap}(hs:PH.sub (a.join b) h)(hd:a.dK b):PH.sub a h∧PH.sub b h:=
 ⟨fun k o ho=>hs k o (A3W ho),fun k o ho=>hs k o (A7Z hd ho)⟩
theorem B5m{a b:PH}{h:Heap}(ha:PH.sub a h)(hb:PH.sub b h):PH.sub (a.join b) h:=by
 intro k o ho
 cases hk:a k with
 |some o'=>rw[A3W hk] at ho;cases ho;exact ha k _ hk
 |none=>rw[join_none hk] at ho;exact hb k o ho
theorem join_assoc(a b c:PH):(a.join b).join c=a.join (b.join c):=by
 funext k;simp only[PH.join];cases a k<;>rfl
theorem join_comm{a b:PH}(h:a.dK b):a.join b=b.join a:=by
 funext k;simp only[PH.join]
 rcases h k with h1|h1
 ·rw[h1];cases b k<;>rfl
 ·rw[h1];cases a k<;>rfl
theorem A3Y{a b:PH}(h:a.dK b):b.dK a:=fun k=>(h k).symm
theorem B8J{a b c:PH}(h1:a.dK c)(h2:b.dK c):(a.join b).dK c:=by
 intro k
 rcases h1 k with h|h
 ·rw[join_none h];exact h2 k
 ·exact .inr h
theorem B2H{a b c:PH}(h:(a.join b).dK c)(hd:a.dK b):a.dK c∧b.dK c:=by
 refine⟨fun k=>?_,fun k=>?_⟩
 ·rcases h k with h1|h1
  ·cases hk:a k with
   |none=>exact .inl rfl
   |some o=>rw[A3W hk] at h1;cases h1
  ·exact .inr h1
 ·rcases h k with h1|h1
  ·cases hk:b k with
   |none=>exact .inl rfl
   |some o=>rw[A7Z hd hk] at h1;cases h1
  ·exact .inr h1
theorem B0M{A B C:Asn}{m:PH}(h:star (star A B) C m):star A (star B C) m:=by
 obtain⟨ab,c,hd,rfl,⟨a,b,jh,rfl,ha,hb⟩,hc⟩:=h
 obtain⟨h1,h2⟩:=B2H hd jh
 exact⟨a,b.join c,A3Y (B8J (A3Y jh) (A3Y h1)),join_assoc a b c,ha,b,c,h2,rfl,hb,hc⟩
theorem A80{A B C:Asn}{m:PH}(h:star A (star B C) m):star (star A B) C m:=by
 obtain⟨a,bc,hd,rfl,ha,b,c,jh,rfl,hb,hc⟩:=h
 obtain⟨h1,h2⟩:=B2H (A3Y hd) jh
 exact⟨a.join b,c,B8J (A3Y h2) jh,(join_assoc a b c).symm,⟨a,b,A3Y h1,rfl,ha,hb⟩,hc⟩
theorem C4f{A B:Asn}{m:PH}(h:star A B m):star B A m:=by
 obtain⟨a,b,hd,rfl,ha,hb⟩:=h
 exact⟨b,a,A3Y hd,join_comm hd,hb,ha⟩
theorem A0M{A A' B B':Asn}(ha:∀m,A m→A' m)(hb:∀m,B m→B' m){m:PH}(h:star A B m):star A' B' m:=by
 obtain⟨a,b,hd,rfl,h1,h2⟩:=h
 exact⟨a,b,hd,rfl,ha _ h1,hb _ h2⟩
section
variable {h:Heap} {A B C D E F G:Asn} {R:List Asn}
theorem sat.imp(hs:sat h (A::R))(ha:∀m,A m→B m):sat h (B::R):=by
 obtain⟨m,h1,h2⟩:=hs
 exact⟨m,h1,A0M ha (fun _ h=>h) h2⟩
theorem sat.tail{R':List Asn}(hs:sat h (A::R))(hr:∀m,A00 R m→A00 R' m):sat h (A::R'):=by
 obtain⟨m,h1,h2⟩:=hs
 exact⟨m,h1,A0M (fun _ h=>h) hr h2⟩
theorem A0k{m:PH}(h:A00 (A::B::R) m):A00 (B::A::R) m:=
 B0M (A0M (fun _ h=>C4f h) (fun _ h=>h) (A80 h))
theorem A3L{R R':List Asn}(hr:∀m,A00 R m→A00 R' m){m:PH}(h:A00 (A::R) m):A00 (A::R') m:=A0M (fun _ h=>h) hr h
theorem sat.p1(hs:sat h (A::B::R)):sat h (B::A::R):=let⟨m,h1,h2⟩:=hs;⟨m,h1,A0k h2⟩
theorem sat.p2(hs:sat h (A::B::C::R)):sat h (C::A::B::R):=(hs.tail fun _=>A0k).p1
theorem sat.p3(hs:sat h (A::B::C::D::R)):sat h (D::A::B::C::R):=(hs.tail fun _ hm=>A0k (A3L (fun _=>A0k) hm)).p1
theorem sat.p4(hs:sat h (A::B::C::D::E::R)):sat h (E::A::B::C::D::R):=(hs.tail fun _ hm=>A0k (A3L (fun _ hm=>A0k (A3L (fun _=>A0k) hm)) hm)).p1
theorem sat.p5(hs:sat h (A::B::C::D::E::F::R)):sat h (F::A::B::C::D::E::R):=
 (hs.tail fun _ hm=>A0k (A3L (fun _ hm=>A0k (A3L (fun _ hm=>A0k (A3L (fun _=>A0k) hm)) hm)) hm)).p1
theorem sat.b2(hs:sat h (C::A::B::R)):sat h (A::B::C::R):=hs.p1.tail fun _=>A0k
theorem sat.drop(hs:sat h (A::R)):sat h R:=by
 obtain⟨m,h1,a,r,hd,rfl,ha,hr⟩:=hs
 exact⟨r,(C0Y h1 hd).2,hr⟩
theorem sat.aI:sat h (star A B::R)↔sat h (A::B::R):=
 ⟨fun⟨m,h1,h2⟩=>⟨m,h1,B0M h2⟩,fun⟨m,h1,h2⟩=>⟨m,h1,A80 h2⟩⟩
theorem sat.aZ{α:Type}{f:α→Asn}:sat h (exA f::R)↔∃x,sat h (f x::R):=by
 constructor
 ·rintro⟨m,h1,a,r,hd,rfl,⟨x,ha⟩,hr⟩
  exact⟨x,_,h1,a,r,hd,rfl,ha,hr⟩
 ·rintro⟨x,m,h1,a,r,hd,rfl,ha,hr⟩
  exact⟨_,h1,a,r,hd,rfl,⟨x,ha⟩,hr⟩
theorem sat.bB{p:Prop}:sat h (pr p::R)↔p∧sat h R:=by
 constructor
 ·intro hs
  refine⟨?_,hs.drop⟩
  obtain⟨m,h1,a,r,hd,rfl,ha,hr⟩:=hs
  exact ha
 ·rintro⟨hp,m,h1,h2⟩
  refine⟨m,h1,fun _=>none,m,fun k=>.inl rfl,?_,hp,h2⟩
  funext k;rfl
theorem A3f:∀(L R:List Asn) {m:PH},star (A00 L) (A00 R) m↔A00 (L++R) m
 |[],R,m=>by
  constructor
  ·rintro⟨a,b,hd,rfl,-,hb⟩
   exact up R (a.join b) b (fun k o ho=>A7Z hd ho) hb
  ·intro hr
   exact⟨fun _=>none,m,fun k=>.inl rfl,by funext k;rfl,trivial,hr⟩
 |A::L,R,m=>by
  constructor
  ·intro hm
   exact A0M (fun _ h=>h) (fun _ h=>(A3f L R).1 h) (B0M hm)
  ·intro hm
   exact A80 (A0M (fun _ h=>h) (fun _ h=>(A3f L R).2 h) hm)
where
 up:∀(R:List Asn) (m m':PH),(∀k o,m' k=some o→m k=some o)→A00 R m'→A00 R m
  |[],_,_,_,_=>trivial
  |A::R,m,m',bl,⟨a,b,hd,he,ha,hb⟩=>by
   subst he
   refine⟨a,fun k=>match a k with|some _=>none|none=>m k,fun k=>?_,?_,ha,?_⟩
   ·cases hk:a k with
    |none=>exact .inl rfl
    |some o=>exact .inr (by simp only[hk])
   ·funext k
    cases hk:a k with
    |none=>rw[join_none hk];simp[hk]
    |some o=>rw[A3W hk];exact bl k o (A3W hk)
   ·refine up R _ b (fun k o ho=>?_) hb
    have jC:a k=none:=by
     rcases hd k with h1|h1
     ·exact h1
     ·rw[ho] at h1;cases h1
    simp only[jC]
    exact bl k o (by rw[join_none jC];exact ho)
theorem sat.bW{L:List Asn}:sat h (A00 L::R)↔sat h (L++R):=
 ⟨fun⟨m,h1,h2⟩=>⟨m,h1,(A3f L R).1 h2⟩,fun⟨m,h1,h2⟩=>⟨m,h1,(A3f L R).2 h2⟩⟩
theorem sat.get{b:Nat}{o:Obj}(hs:sat h (blk b o::R)):h[b]? =some o:=by
 obtain⟨m,h1,a,r,hd,rfl,ha,hr⟩:=hs
 exact h1 b o (A3W ha)
theorem sat.lt{b:Nat}{o:Obj}(hs:sat h (blk b o::R)):b<h.size:=(F9.1 hs.get).1
theorem sat.bJ{b:Nat}{o o':Obj}{h':Heap}(hs:sat h (blk b o::R))(hb:h'[b]? =some o')(hk:∀k,k≠b→h'[k]? =h[k]?):sat h' (blk b o'::R):=by
 obtain⟨m,h1,a,r,hd,rfl,ha,hr⟩:=hs
 have va:r b=none:=by
  rcases hd b with h2|h2
  ·rw[ha] at h2;cases h2
  ·exact h2
 refine⟨PH.join (fun k=>if k=b then some o' else none) r,?_,_,r,fun k=>?_,rfl,by simp[blk],hr⟩
 ·refine B5m (fun k x hx=>?_) (fun k x hx=>?_)
  ·have dS:(if k=b then some o' else none)=some x:=hx
   split at dS
   ·rename_i e;subst e;cases dS;exact hb
   ·cases dS
  ·rw[hk k (fun e=>by subst e;rw[va] at hx;cases hx)]
   exact(C0Y h1 hd).2 k x hx
 ·by_cases e:k=b
  ·subst e;exact .inr va
  ·exact .inl (by simp[e])
theorem sat.push{o:Obj}(hs:sat h R):sat (h.push o) (blk h.size o::R):=by
 obtain⟨m,h1,hr⟩:=hs
 have hm:m h.size=none:=by
  cases hh:m h.size with
  |none=>rfl
  |some x=>
   have:=h1 _ _ hh
   rw[R5 (by omega)] at this
   cases this
 refine⟨PH.join (fun k=>if k=h.size then some o else none) m,?_,_,m,fun k=>?_,rfl,by simp[blk],hr⟩
 ·refine B5m (fun k x hx=>?_) (fun k x hx=>?_)
  ·have dS:(if k=h.size then some o else none)=some x:=hx
   split at dS
   ·rename_i e;subst e;cases dS;simp
   ·cases dS
  ·have:=h1 k x hx
   have ah:=(F9.1 this).1
   rw[N4,if_neg (by omega)]
   exact this
 ·by_cases e:k=h.size
  ·subst e;exact .inr hm
  ·exact .inl (by simp[e])
theorem sat.dM{h0:Heap}{k:Nat}{o:Obj}(hs:sat h (old h0::R))(hk:h0[k]? =some o):h[k]? =some o:=by
 obtain⟨m,h1,a,r,hd,rfl,ha,hr⟩:=hs
 exact h1 k o (A3W (ha k o hk))
theorem sat_old(h0:Heap):sat h0 [old h0]:=by
 refine⟨fun k=>h0[k]?,fun k o ho=>ho,fun k=>h0[k]?,fun _=>none,fun k=>.inr rfl,?_,fun k o ho=>ho,trivial⟩
 funext k
 simp only[PH.join]
 cases h0[k]? <;>rfl
theorem sat.bY{h0:Heap}{a:Addr}{v:Value}(hs:sat h (old h0::R))(hc:W8 h0 a=some v):W8 h a=some v:=by
 unfold W8 at hc⊢
 cases hb:h0[a.block]? with
 |none=>simp[hb] at hc
 |some o=>rw[hs.dM hb];rw[hb] at hc;exact hc
theorem A2u{b:Nat}{cs:D0q}:sat h (cells b cs::R)↔∃T,sat h (blk b (.cells cs T (0,0))::R):=sat.aZ
theorem sat.cell{b:Nat}{cs:D0q}(hs:sat h (cells b cs::R))(i:Nat):W8 h ⟨b,i,none⟩=cs[i]? :=by
 obtain⟨T,hs⟩:=A2u.1 hs
 simp[W8,hs.get]
theorem sat.free{b:Nat}{cs:D0q}(hs:sat h (cells b cs::R))(i:Nat):A2s h ⟨b,i,none⟩=false:=by
 obtain⟨T,hs⟩:=A2u.1 hs
 simp[A2s,hs.get]
theorem sat.fD{b:Nat}{cs:D0q}(hs:sat h (cells b cs::R)):b<h.size:=by
 obtain⟨T,hs⟩:=A2u.1 hs
 exact hs.lt
theorem sat.set{b:Nat}{cs:D0q}(hs:sat h (cells b cs::R))(i:Nat)(v:Value):sat (A2C h ⟨b,i,none⟩ v) (cells b (cs.setIfInBounds i v)::R):=by
 obtain⟨T,hs⟩:=A2u.1 hs
 refine A2u.2 ⟨T,hs.bJ ?_ ?_⟩
 ·simp[A2C,O6,hs.get]
 ·intro k hk
  simp only[A2C,O6]
  rw[if_neg (fun e=>hk e.symm)]
theorem sat.bI{T:TypeId}{cs:D0q}(hs:sat h R):sat (h.push (.cells cs T)) (cells h.size cs::R):=A2u.2 ⟨T,hs.push⟩
end
section
variable {α β:Type} {h:Heap} {Q:α→Heap→Prop} {R:List Asn}
@[simp] theorem V8 (a:α):X8 a h Q=Q a h:=rfl
@[simp] theorem U7 (m:HM β) (f:β→HM α):HM.bind m f h Q=m h (fun b h'=>f b h' Q):=rfl
@[simp] theorem V4 (b:Bool) (x y:HM α):A1G b x y h Q=if b=true then x h Q else y h Q:=rfl
@[simp] theorem D0m (x y:HM α):A0R x y h Q=(x h Q∧y h Q):=rfl
@[simp] theorem C7U (p:Prop) (m:HM α):A3z p m h Q=(p∧m h Q):=rfl
@[simp] theorem D0n:(V2:HM α) h Q=False:=rfl
@[simp] theorem C9W (a:Addr) (Q:Addr→Heap→Prop):A8H (some a) h Q=Q a h:=by simp[A8H]
theorem C78{t:Tag}{a:Addr}{x:t.ty}{Q:t.ty→Heap→Prop}(hc:W8 h a=some (t.val x))(hq:Q x h):r7 t a h Q:=⟨x,hc,hq⟩
@[simp] theorem Addr.bL (b o n:Nat):Addr.add ⟨b,o,none⟩ n=⟨b,o+n,none⟩:=by
 cases n<;>simp[Addr.add]
@[simp] theorem C9j (k:IntKind) (a:Addr) (Q:Int→Heap→Prop):r7 (.int k) a h Q=∃x,W8 h a=some (.int k x)∧Q x h:=rfl
@[simp] theorem C8u (a:Addr) (Q:Bool→Heap→Prop):r7 .bool a h Q=∃x,W8 h a=some (.bool x)∧Q x h:=rfl
@[simp] theorem C9f (a:Addr) (Q:B4p→Heap→Prop):r7 .str a h Q=∃x,W8 h a=some (.string x)∧Q x h:=rfl
@[simp] theorem C9h (a:Addr) (Q:D0p→Heap→Prop):r7 .ptr a h Q=∃x,W8 h a=some (.pointer x)∧Q x h:=rfl
@[simp] theorem C9i (a:Addr) (Q:Option Nat→Heap→Prop):r7 .map a h Q=∃x,W8 h a=some (.map x)∧Q x h:=rfl
@[simp] theorem C9k (a:Addr) (Q:Value→Heap→Prop):r7 .any a h Q=∃x,W8 h a=some x∧Q x h:=rfl
def C5B:Option Value→Option Slc
 |some (.slice p n c)=>some ⟨p,n,c⟩
 |_=>none
@[simp] theorem C7X (p:D0p) (n c:Nat):C5B (some (.slice p n c))=some ⟨p,n,c⟩:=rfl
@[simp] theorem Slc.eta (s:Slc):(⟨s.a,s.len,s.cap⟩:Slc)=s:=rfl
@[simp] theorem C9g (a:Addr) (Q:Slc→Heap→Prop):r7 .slc a h Q=∃x,C5B (W8 h a)=some x∧Q x h:=by
 refine propext ⟨fun⟨x,h1,h2⟩=>⟨x,by rw[h1];rfl,h2⟩,fun⟨x,h1,h2⟩=>⟨x,?_,h2⟩⟩
 unfold C5B at h1
 split at h1
 ·rename_i e;rw[e];cases h1;rfl
 ·cases h1
theorem X3{b:Nat}{cs:D0q}{i:Nat}{v:Value}{Q:Unit→Heap→Prop}(hs:sat h (cells b cs::R))(hi:i<cs.size)(hv:v.oneCell'=true)
  (hq:∀h',sat h' (cells b (cs.setIfInBounds i v)::R)→Q () h'):A7v ⟨b,i,none⟩ v h Q:=
 ⟨by rw[hs.cell i];simp[hi],hs.free i,hv,hq _ (hs.set i v)⟩
theorem W5{cs:D0q}{T:TypeId}{Q:Nat→Heap→Prop}(hs:sat h R)(hq:∀b h',sat h' (cells b cs::R)→Q b h'):HM.new (.cells cs T) h Q:=hq _ _ hs.bI
theorem C7t{o:Obj}{Q:Nat→Heap→Prop}(hs:sat h R)(hq:∀b h',sat h' (blk b o::R)→Q b h'):HM.new o h Q:=hq _ _ hs.push
def Kind.un(k:Kind)(Q:k.ty→Heap→Prop)(v:Value)(h:Heap):Prop:=∃x,v=k.val x∧Q x h
def s6.un(ks:List Kind)(Q:s6 ks→Heap→Prop)(v:Value)(h:Heap):Prop:=∃x,v=.tuple (s6.cC ks x).toArray∧Q x h
@[simp] theorem C64 (P:Program) (k:Kind) (f:FuncId) (args:D0q) (Q:k.ty→Heap→Prop):A1C P k f args h Q=V9 P f args h (k.un Q):=rfl
@[simp] theorem D0o (P:Program) (ks:List Kind) (f:FuncId) (args:D0q) (Q:s6 ks→Heap→Prop):u9 P ks f args h Q=V9 P f args h (s6.un ks Q):=rfl
@[simp] theorem D0b (k:IntKind) (Q:Int→Heap→Prop) (n:Int):Kind.un (.one (.int k)) Q (.int k n) h=Q n h:=by simp[Kind.un,Kind.val,Tag.val]
@[simp] theorem C7d (Q:Bool→Heap→Prop) (b:Bool):Kind.un (.one .bool) Q (.bool b) h=Q b h:=by
 simp only[Kind.un,Kind.val,Tag.val,Value.bool.injEq]
 exact propext ⟨fun⟨x,h1,h2⟩=>h1▸h2,fun h=>⟨b,rfl,h⟩⟩
@[simp] theorem C99 (Q:B4p→Heap→Prop) (b:B4p):Kind.un (.one .str) Q (.string b) h=Q b h:=by simp[Kind.un,Kind.val,Tag.val]
@[simp] theorem C8c (Q:D0p→Heap→Prop) (b:D0p):Kind.un (.one .ptr) Q (.pointer b) h=Q b h:=by simp[Kind.un,Kind.val,Tag.val]
@[simp] theorem D0a (Q:Option Nat→Heap→Prop) (b:Option Nat):Kind.un (.one .map) Q (.map b) h=Q b h:=by simp[Kind.un,Kind.val,Tag.val]
@[simp] theorem C5q (Q:Value→Heap→Prop) (b:Value):Kind.un (.one .any) Q b h=Q b h:=by simp[Kind.un,Kind.val,Tag.val]
@[simp] theorem C1R (Q:Slc→Heap→Prop) (a:D0p) (n c:Nat):Kind.un (.one .slc) Q (.slice a n c) h=Q ⟨a,n,c⟩ h:=by
 refine propext ⟨?_,fun hq=>⟨⟨a,n,c⟩,rfl,hq⟩⟩
 rintro⟨x,h1,h2⟩
 cases h1
 exact h2
theorem V3{β:Type}{P:Program}{k:Kind}{f:FuncId}{args:D0q}{g:k.ty→HM β}{h:Heap}{Q:β→Heap→Prop}(hc:V9 P f args h (k.un fun x h'=>g x h' Q)):(HM.bind (A1C P k f args) g) h Q:=hc
theorem u6{β:Type}{P:Program}{ks:List Kind}{f:FuncId}{args:D0q}{g:s6 ks→HM β}{h:Heap}{Q:β→Heap→Prop}(hc:V9 P f args h (s6.un ks fun x h'=>g x h' Q)):(HM.bind (u9 P ks f args) g) h Q:=hc
@[simp] theorem un2 (k l:Kind) (Q:s6 [k,l]→Heap→Prop) (v w:Value):s6.un [k,l] Q (.tuple #[v,w]) h=k.un (fun x _=>l.un (fun y h=>Q (x,y,()) h) w h) v h:=by
 refine propext ⟨?_,?_⟩
 ·rintro⟨⟨x,y,u⟩,h1,h2⟩
  have h1:#[v,w]=[k.val x,l.val y].toArray:=Value.tuple.inj h1
  have h1:=congrArg Array.toList h1
  simp at h1
  exact⟨x,h1.1,y,h1.2,h2⟩
 ·rintro⟨x,h1,y,h2,h3⟩
  exact⟨(x,y,()),by rw[h1,h2];rfl,h3⟩
@[simp] theorem un3 (k l m:Kind) (Q:s6 [k,l,m]→Heap→Prop) (v w z:Value):s6.un [k,l,m] Q (.tuple #[v,w,z]) h=k.un (fun x _=>l.un (fun y _=>m.un (fun t h=>Q (x,y,t,()) h) z h) w h) v h:=by
 refine propext ⟨?_,?_⟩
 ·rintro⟨⟨x,y,t,u⟩,h1,h2⟩
  have h1:#[v,w,z]=[k.val x,l.val y,m.val t].toArray:=Value.tuple.inj h1
  have h1:=congrArg Array.toList h1
  simp at h1
  exact⟨x,h1.1,y,h1.2.1,t,h1.2.2,h2⟩
 ·rintro⟨x,h1,y,h2,t,h3,h4⟩
  exact⟨(x,y,t,()),by rw[h1,h2,h3];rfl,h4⟩
@[simp] theorem un0 (Q:s6 []→Heap→Prop):s6.un [] Q (.tuple #[]) h=Q () h:=by
 refine propext ⟨fun⟨x,_,h2⟩=>h2,fun h=>⟨(),rfl,h⟩⟩
@[simp] theorem C97 (x:Unit):packed [] x=.tuple #[]:=rfl
@[simp] theorem C96 (k:Kind) (x:k.ty):packed [k] (x,())=k.val x:=rfl
@[simp] theorem C95 (k l:Kind) (x:k.ty) (y:l.ty):packed [k,l] (x,y,())=.tuple #[k.val x,l.val y]:=rfl
@[simp] theorem C94 (k l m:Kind) (x:k.ty) (y:l.ty) (z:m.ty):packed [k,l,m] (x,y,z,())=.tuple #[k.val x,l.val y,m.val z]:=rfl
@[simp] theorem val_one (t:Tag) (x:t.ty):Kind.val (.one t) x=t.val x:=rfl
@[simp] theorem C92 (k:IntKind) (x:Int):Tag.val (.int k) x=.int k x:=rfl
@[simp] theorem C9l (x:Bool):Tag.val .bool x=.bool x:=rfl
@[simp] theorem C9Y (x:B4p):Tag.val .str x=.string x:=rfl
@[simp] theorem C90 (x:D0p):Tag.val .ptr x=.pointer x:=rfl
@[simp] theorem C91 (x:Option Nat):Tag.val .map x=.map x:=rfl
@[simp] theorem C93 (x:Value):Tag.val .any x=x:=rfl
@[simp] theorem C9Z (x:Slc):Tag.val .slc x=.slice x.a x.len x.cap:=rfl
@[simp] theorem D0f {k:IntKind} {n:Int} {Q:Int→Prop}:(∃x:Int,Value.int k n=.int k x∧Q x)=Q n:=by simp
theorem C98{σ τ:Type}{body:σ→HM (σ⊕τ)}{s:σ}{Q:τ→Heap→Prop}(I:σ→Heap→Prop)(μ:σ→Heap→Nat)(h0:I s h)(hr:∀s h,I s h→body s h fun r h'=>match r with
   |.inl s'=>I s' h'∧μ s' h'<μ s h
   |.inr t=>Q t h'):HM.loop body s h Q:=⟨I,μ,h0,hr⟩
theorem C2v{σ τ:Type}{body:σ→HM (σ⊕τ)}{s:σ}{h:Heap}{Q:τ→Heap→Prop}(I:Nat→σ→Heap→Prop){n:Nat}(h0:I n s h)
  (hr:∀n s h,I n s h→body s h fun r h'=>match r with
   |.inl s'=>∃m,m<n∧I m s' h'
   |.inr t=>Q t h')(qy:∀s h (Q1 Q2:σ⊕τ→Heap→Prop),(∀r h',Q1 r h'→Q2 r h')→body s h Q1→body s h Q2):HM.loop body s h Q:=by
 classical
 have least:∀s h,(∃n,I n s h)→∃n,I n s h∧∀m,I m s h→n≤m:=by
  intro s h ⟨n,hn⟩
  induction n using Nat.strongRecOn with
  |_ n ih=>
   by_cases hx:∃m,m<n∧I m s h
   ·obtain⟨m,hm,hi⟩:=hx;exact ih m hm hi
   ·exact⟨n,hn,fun m hm=>by
     rcases U0 m n with ah|qM
     ·exact absurd ⟨m,ah,hm⟩ hx
     ·exact qM⟩
 refine⟨fun s h=>∃n,I n s h,fun s h=>if hx:∃n,I n s h then Classical.choose (least s h hx) else 0,⟨n,h0⟩,fun s h hx=>?_⟩
 obtain⟨fK,eD⟩:=Q3 (least s h hx)
 refine qy s h _ _ ?_ (hr _ s h fK)
 intro r h' hq
 cases r with
 |inr t=>exact hq
 |inl s'=>
  obtain⟨m,hm,hi⟩:=hq
  have dS:∃n,I n s' h':=⟨m,hi⟩
  refine⟨dS,?_⟩
  simp only[dif_pos hx,dif_pos dS]
  obtain⟨_,iE⟩:=Q3 (least s' h' dS)
  exact Nat.lt_of_le_of_lt (iE m hi) hm
end
section
variable {K V:Type} [DecidableEq K]
def X0(l:List (K×V))(k:K):Option V:=(l.find? (fun p=>decide (p.1=k))).map (·.2)
def mset:List (K×V)→K→V→List (K×V)
 |[],k,v=>[(k,v)]
 |(a,b)::l,k,v=>if a=k then(k,v)::l else(a,b)::mset l k v
def mdel:List (K×V)→K→List (K×V)
 |[],_=>[]
 |(a,b)::l,k=>if a=k then l else(a,b)::mdel l k
@[simp] theorem B54 (k:K):X0 ([]:List (K×V)) k=none:=rfl
theorem Z4(a:K)(b:V)(l:List (K×V))(k:K):X0 ((a,b)::l) k=if a=k then some b else X0 l k:=by
 by_cases h:a=k<;>simp[X0,List.find?,h]
theorem j7(l:List (K×V))(k:K)(v:V)(k':K):X0 (mset l k v) k'=if k=k' then some v else X0 l k':=by
 induction l with
 |nil=>simp[mset,Z4]
 |cons p l ih=>
  obtain⟨a,b⟩:=p
  simp only[mset]
  by_cases h:a=k
  ·rw[if_pos h,Z4,Z4]
   by_cases h':k=k'
   ·simp[h']
   ·rw[if_neg h',if_neg h',if_neg (by rw[h];exact h')]
  ·rw[if_neg h,Z4,Z4,ih]
   by_cases h':k=k'
   ·subst h';simp[h]
   ·simp[h']
def A6K(ek:K→Value)(ev:V→Value)(l:List (K×V))(es:List MapEntry):Prop:=es.map (fun e=>(e.key,e.val))=l.map (fun p=>(ek p.1,ev p.2))
structure KeyLaw(kd:A2G)(ek:K→Value):Prop where
 same:∀a b,kd (ek a) (ek b)=some (decide (a=b))
 bits:∀a,Instr.sameBits 10000 (ek a) (ek a)=true
theorem B16{kd:A2G}{ek:K→Value}(hk:KeyLaw kd ek){ev:V→Value}(k:K):∀(l:List (K×V)) (es:List MapEntry) (i:Nat),A6K ek ev l es→
  (X0 l k=none∧A1f kd (ek k) es i=some none)∨∃v j e,X0 l k=some v∧A1f kd (ek k) es i=some (some (i+j,ev v))∧es[j]? =some e∧e.key=ek k
 |[],[],i,_=>.inl ⟨rfl,rfl⟩
 |[],_::_,i,h=>by simp[A6K] at h
 |_::_,[],i,h=>by simp[A6K] at h
 |(a,b)::l,e::es,i,h=>by
  simp only[A6K,B5,List.cons.injEq,Prod.mk.injEq] at h
  obtain⟨⟨h1,h2⟩,h3⟩:=h
  simp only[A1f,h1,hk.same,Z4]
  by_cases kf:k=a
  ·subst kf
   right
   exact⟨b,0,e,by simp,by simp[h2],rfl,h1⟩
  ·have jC:¬a=k:=fun hh=>kf hh.symm
   simp only[kf,jC,decide_false,if_false]
   rcases B16 hk k l es (i+1) h3 with⟨h4,h5⟩|⟨v,j,e',h4,h5,h6,h7⟩
   ·exact .inl ⟨h4,h5⟩
   ·exact .inr ⟨v,j+1,e',h4,by rw[h5];congr 3;omega,by simpa using h6,h7⟩
theorem C1g{ek:K→Value}(gW:∀a b,ek a=ek b→a=b){ev:V→Value}(k:K)(x:V):∀(l:List (K×V)) (es:List MapEntry),A6K ek ev l es→∀(i:Nat) (o:Nat×Value) (kd:A2G),KeyLaw kd ek→
  A1f kd (ek k) es i=some (some o)→A6K ek ev (mset l k x) (es.modify (o.1-i) fun e=>{e with key:=ek k,val:=ev x})∧i≤o.1
 |[],[],_,i,o,kd,_,hf=>by simp[A1f] at hf
 |[],_::_,h,_,_,_,_,_=>by simp[A6K] at h
 |_::_,[],h,_,_,_,_,_=>by simp[A6K] at h
 |(a,b)::l,e::es,h,i,o,kd,hk,hf=>by
  simp only[A6K,B5,List.cons.injEq,Prod.mk.injEq] at h
  obtain⟨⟨h1,h2⟩,h3⟩:=h
  simp only[A1f,h1,hk.same] at hf
  by_cases kf:k=a
  ·subst kf
   simp only[decide_true,F6] at hf
   subst hf
   simp only[Q4,mset,if_true]
   refine⟨?_,D9 _⟩
   simp[A6K,List.modify_zero_cons] at h3⊢
   exact h3
  ·simp only[kf,decide_false] at hf
   obtain⟨h4,h5⟩:=C1g gW k x l es h3 (i+1) o kd hk hf
   refine⟨?_,by omega⟩
   rw[show o.1-i=(o.1-(i+1))+1 from by omega]
   simp only[mset,if_neg (fun hh:a=k=>kf hh.symm),List.modify_succ_cons]
   simp only[A6K,B5,h1,h2]
   rw[h4]
theorem A2Y:∀(l:List (K×V)) (k:K) (v:V),X0 l k=none→mset l k v=l++[(k,v)]
 |[],_,_,_=>rfl
 |(a,b)::l,k,v,h=>by
  rw[Z4] at h
  by_cases jC:a=k
  ·rw[if_pos jC] at h;cases h
  ·rw[if_neg jC] at h
   simp only[mset,if_neg jC,G7,A2Y l k v h]
theorem C1h{ek:K→Value}{ev:V→Value}(k:K):∀(l:List (K×V)) (es:List MapEntry),A6K ek ev l es→∀(i:Nat) (o:Nat×Value) (kd:A2G),KeyLaw kd ek→
  A1f kd (ek k) es i=some (some o)→A6K ek ev (mdel l k) (es.eraseIdx (o.1-i))∧i≤o.1
 |[],[],_,i,o,kd,_,hf=>by simp[A1f] at hf
 |[],_::_,h,_,_,_,_,_=>by simp[A6K] at h
 |_::_,[],h,_,_,_,_,_=>by simp[A6K] at h
 |(a,b)::l,e::es,h,i,o,kd,hk,hf=>by
  simp only[A6K,B5,List.cons.injEq,Prod.mk.injEq] at h
  obtain⟨⟨h1,h2⟩,h3⟩:=h
  simp only[A1f,h1,hk.same] at hf
  by_cases kf:k=a
  ·subst kf
   simp only[decide_true,F6] at hf
   subst hf
   simp only[Q4,mdel,if_true]
   exact⟨h3,D9 _⟩
  ·simp only[kf,decide_false] at hf
   obtain⟨h4,h5⟩:=C1h k l es h3 (i+1) o kd hk hf
   refine⟨?_,by omega⟩
   rw[show o.1-i=(o.1-(i+1))+1 from by omega]
   simp only[mdel,if_neg (fun hh:a=k=>kf hh.symm),List.eraseIdx_cons_succ]
   simp only[A6K,B5,h1,h2]
   rw[h4]
theorem B8o:∀(l:List (K×V)) (k:K),X0 l k=none→mdel l k=l
 |[],_,_=>rfl
 |(a,b)::l,k,h=>by
  rw[Z4] at h
  by_cases jC:a=k
  ·rw[if_pos jC] at h;cases h
  ·rw[if_neg jC] at h
   simp only[mdel,if_neg jC,B8o l k h]
end
section
variable {K V:Type}
def mapA(ek:K→Value)(ev:V→Value)(r:Nat)(l:List (K×V)):Asn:=
 exA fun x:Array MapEntry×Nat=>star (pr (A6K ek ev l x.1.toList∧Stamped x.1 x.2)) (blk r (.map x.1 x.2))
variable {h:Heap} {R:List Asn} {ek:K→Value}
theorem A1n{ev:V→Value}{r:Nat}{l:List (K×V)}:sat h (mapA ek ev r l::R)↔∃es clock,(A6K ek ev l es.toList∧Stamped es clock)∧sat h (blk r (.map es clock)::R):=by
 unfold mapA
 rw[sat.aZ]
 constructor
 ·rintro⟨⟨es,c⟩,hs⟩
  rw[sat.aI,sat.bB] at hs
  exact⟨es,c,hs⟩
 ·rintro⟨es,c,hs⟩
  exact⟨(es,c),by rw[sat.aI,sat.bB];exact hs⟩
theorem A57{ev:V→Value}{Q:Nat→Heap→Prop}(hs:sat h R)(hq:∀r h',sat h' (mapA ek ev r []::R)→Q r h'):HM.new (.map #[] 0) h Q:=
 C7t hs fun r h' af=>hq r h' (A1n.2 ⟨#[],0,⟨rfl,Go.MapKept.stamped_empty 0⟩,af⟩)
theorem A9I{ev:V→Value}{r:Nat}{l:List (K×V)}{Q:Int→Heap→Prop}(hs:sat h (mapA ek ev r l::R))(hq:Q (l.length:Int) h):A7u (some r) h Q:=by
 obtain⟨es,c,⟨he,bF⟩,hs⟩:=A1n.1 hs
 refine⟨es.toList,c,by simpa[A9p] using hs.get,?_⟩
 have:=congrArg List.length he
 simp at this
 simpa[this] using hq
theorem sat.bK{ev:V→Value}{r:Nat}{l:List (K×V)}(hs:sat h (mapA ek ev r l::R)):(l.map (·.1)).Nodup:=by
 obtain⟨es,c,⟨he,bF⟩,hs⟩:=A1n.1 hs
 have hk:=bF.2.2
 have e:es.toList.map (·.key)=(l.map (·.1)).map ek:=by
  have:=congrArg (List.map Prod.fst) he
  simpa[Q9] using this
 rw[e] at hk
 exact List.Pairwise.of_map ek (fun a b bS dg=>bS (congrArg ek dg)) hk
end
section
variable {K V:Type} [DecidableEq K] {h:Heap} {R:List Asn} {ek:K→Value}
theorem A0b{kd:A2G}(hk:KeyLaw kd ek){kind:Kind}{z:kind.ty}{zero:Value}(hz:zero=kind.val z){r:Nat}{l:List (K×kind.ty)}{k:K}{Q:kind.ty×Bool→Heap→Prop}
  (hs:sat h (mapA ek kind.val r l::R))(hq:Q ((X0 l k).getD z,(X0 l k).isSome) h):HM.lookup kd zero kind (some r) (ek k) h Q:=by
 obtain⟨es,c,⟨he,bF⟩,hs⟩:=A1n.1 hs
 rcases B16 hk k l es.toList 0 he with⟨h1,h2⟩|⟨v,j,e,h1,h2,-,-⟩
 ·refine⟨es.toList,c,none,z,by simpa[A9p] using hs.get,h2,hz,?_⟩
  rw[h1] at hq;exact hq
 ·refine⟨es.toList,c,some (0+j,kind.val v),v,by simpa[A9p] using hs.get,h2,rfl,?_⟩
  rw[h1] at hq;exact hq
theorem A1x(l:List (K×V))(k:K):X0 l k=none↔k∉l.map (·.1):=by
 induction l with
 |nil=>simp
 |cons p l ih=>
  obtain⟨a,b⟩:=p
  rw[Z4]
  by_cases h:a=k
  ·simp[h]
  ·rw[if_neg h,ih]
   simp[Ne.symm h]
theorem A33{kd:A2G}(hk:KeyLaw kd ek)(gW:∀a b,ek a=ek b→a=b){ev:V→Value}{r:Nat}{l:List (K×V)}{k:K}{x:V}{Q:Unit→Heap→Prop}
  (hs:sat h (mapA ek ev r l::R))(hq:∀h',sat h' (mapA ek ev r (mset l k x)::R)→Q () h'):A3J kd (some r) (ek k) (ev x) h Q:=by
 obtain⟨es,c,⟨he,bF⟩,hs⟩:=A1n.1 hs
 have ah:=hs.lt
 rcases B16 hk k l es.toList 0 he with⟨h1,h2⟩|⟨v,j,e,h1,h2,h3,h4⟩
 ·refine⟨r,es,c,none,rfl,hs.get,h2,hq _ (A1n.2 ⟨_,_,⟨?_,?_⟩,hs.bJ (o':=.map (es.push {key:=ek k,val:=ev x,born:=c}) (c+1)) (by simp[ah]) (fun k hk=>?_)⟩)⟩
  ·rw[A2Y l k x h1]
   simp only[A6K,Array.toList_push,B8,B5,I3]
   rw[he]
  ·refine Go.MapKept.stamped_push bF fun y hy wV=>?_
   have e:es.toList.map (·.key)=(l.map (·.1)).map ek:=by
    have:=congrArg (List.map Prod.fst) he
    simpa[Q9] using this
   have hm:ek k∈(l.map (·.1)).map ek:=by rw[←e,←wV];exact B4 hy
   obtain⟨k',ij,jA⟩:=E3.1 hm
   exact(A1x l k).1 h1 (gW _ _ jA▸ij)
  ·rw[H8,if_neg (fun e=>hk e.symm)]
 ·have we:es[0+j]? =some e:=by simpa using h3
  refine⟨r,es,c,some (0+j,ev v),rfl,hs.get,h2,?_,hk.bits k,hq _ (A1n.2 ⟨_,_,⟨?_,?_⟩,hs.bJ (o':=.map (es.modify (0+j) fun e=>{e with key:=ek k,val:=ev x}) c) (by simp[ah]) (fun k hk=>?_)⟩)⟩
  ·rw[we];exact h4
  ·have:=(C1g gW k x l es.toList he 0 _ kd hk h2).1
   simpa using this
  ·refine Go.MapKept.stamped_modify bF _ _ (fun _ _=>rfl) (fun e' _ jA=>?_)
   rw[we] at jA
   cases jA
   exact h4.symm
  ·rw[H8,if_neg (fun e=>hk e.symm)]
theorem A6l{kd:A2G}(hk:KeyLaw kd ek){ev:V→Value}{r:Nat}{l:List (K×V)}{k:K}{Q:Unit→Heap→Prop}
  (hs:sat h (mapA ek ev r l::R))(hq:∀h',sat h' (mapA ek ev r (mdel l k)::R)→Q () h'):A6q kd (some r) (ek k) h Q:=by
 obtain⟨es,c,⟨he,bF⟩,hs⟩:=A1n.1 hs
 have ah:=hs.lt
 rcases B16 hk k l es.toList 0 he with⟨h1,h2⟩|⟨v,j,e,h1,h2,h3,h4⟩
 ·refine⟨es,c,none,hs.get,h2,hq _ (A1n.2 ⟨es,c,⟨by rw[B8o l k h1];exact he,bF⟩,hs.bJ (by simp[ah]) (fun k hk=>?_)⟩)⟩
  rw[H8,if_neg (fun e=>hk e.symm)]
 ·refine⟨es,c,some (0+j,ev v),hs.get,h2,hq _ (A1n.2 ⟨_,_,⟨?_,Go.MapKept.stamped_erase bF (0+j)⟩,hs.bJ (o':=.map (es.eraseIdxIfInBounds (0+j)) c) (by simp[ah]) (fun k hk=>?_)⟩)⟩
  ·have:=(C1h k l es.toList he 0 _ kd hk h2).1
   have hj:j<es.size:=by
    have:=(D4.1 h3).1
    simpa using this
   simpa[Array.eraseIdxIfInBounds,hj] using this
  ·rw[H8,if_neg (fun e=>hk e.symm)]
end
theorem B9B(k:IntKind):KeyLaw (Instr.sameNow (.int k)) (fun n:Int=>Value.int k n):=⟨fun a b=>by simp[Instr.sameNow];exact Bool.eq_iff_iff.2 (by simp),fun a=>by simp[Instr.sameBits]⟩
theorem A9L:KeyLaw (Instr.sameNow .string) (fun s:B4p=>Value.string s):=⟨fun a b=>by
 simp only[Instr.sameNow,F6]
 exact(beq_toListBytes a b).trans (C1Z a b),fun a=>by simp[Instr.sameBits,beq_toListBytes]⟩
theorem C3L:∀a b:B4p,Value.string a=Value.string b→a=b:=fun a b h=>by cases h;rfl
theorem A9O(k:IntKind):∀a b:Int,Value.int k a=Value.int k b→a=b:=fun a b h=>by cases h;rfl
end
section
class A0v {α:Type} (m:HM α):Prop where
 mono:∀(h:Heap) (Q1 Q2:α→Heap→Prop),(∀a h',Q1 a h'→Q2 a h')→m h Q1→m h Q2
section
variable {α β σ τ:Type}
instance C9c(a:α):A0v (X8 a):=⟨fun _ _ _ hq hm=>hq _ _ hm⟩
instance A0C(m:HM α)(f:α→HM β)[A0v m][hf:∀a,A0v (f a)]:A0v (HM.bind m f):=
 ⟨fun h _ _ hq hm=>A0v.mono (m:=m) h _ _ (fun a h' hx=>(hf a).mono h' _ _ hq hx) hm⟩
instance:A0v (V2:HM α):=⟨fun _ _ _ _ hm=>hm⟩
instance C9e(x y:HM α)[hx:A0v x][hy:A0v y]:A0v (A0R x y):=⟨fun h Q Q' hq hm=>⟨hx.mono h Q Q' hq hm.1,hy.mono h Q Q' hq hm.2⟩⟩
instance A1b(b:Bool)(x y:HM α)[A0v x][A0v y]:A0v (A1G b x y):=⟨fun h _ _ hq hm=>by
 cases b
 ·exact A0v.mono (m:=y) h _ _ hq hm
 ·exact A0v.mono (m:=x) h _ _ hq hm⟩
instance A2f(p:Prop)(m:HM α)[A0v m]:A0v (A3z p m):=⟨fun h _ _ hq hm=>⟨hm.1,A0v.mono (m:=m) h _ _ hq hm.2⟩⟩
instance C9d(body:σ→HM (σ⊕τ))(s:σ)[hb:∀s,A0v (body s)]:A0v (HM.loop body s):=⟨fun _ _ _ hq=>by
 rintro⟨I,μ,h0,hr⟩
 refine⟨I,μ,h0,fun s h hi=>(hb s).mono h _ _ ?_ (hr s h hi)⟩
 intro r h' hx
 cases r with
 |inl _=>exact hx
 |inr _=>exact hq _ _ hx⟩
instance C4E(f:α→HM τ)(g:β→HM τ)(x:α⊕β)[hf:∀a,A0v (f a)][hg:∀b,A0v (g b)]:A0v (Sum.elim f g x:HM τ):=by
 cases x with
 |inl a=>exact hf a
 |inr b=>exact hg b
instance(t:Tag)(a:Addr):A0v (α:=no_index (Tag.ty t)) (r7 t a):=⟨fun _ _ _ hq ⟨x,h1,h2⟩=>⟨x,h1,hq _ _ h2⟩⟩
instance(ts:List Tag)(a:Addr):A0v (α:=no_index (Tup ts)) (o9 ts a):=⟨fun _ _ _ hq ⟨x,h1,h2⟩=>⟨x,h1,hq _ _ h2⟩⟩
instance(a:Addr)(v:Value):A0v (A7v a v):=⟨fun _ _ _ hq ⟨x,h1,h2,h3⟩=>⟨x,h1,h2,hq _ _ h3⟩⟩
instance(a:Addr)(vs:D0r):A0v (B0I a vs):=⟨fun _ _ _ hq ⟨x,h1⟩=>⟨x,hq _ _ h1⟩⟩
instance(o:Obj):A0v (HM.new o):=⟨fun _ _ _ hq hm=>hq _ _ hm⟩
instance(p:D0p):A0v (A8H p):=⟨fun _ _ _ hq ⟨x,h1,h2⟩=>⟨x,h1,hq _ _ h2⟩⟩
instance(a:D0p)(len:Nat)(i:Int)(size:Nat):A0v (A4F a len i size):=⟨fun _ _ _ hq ⟨x,h1,h2,h3,h4⟩=>⟨x,h1,h2,h3,hq _ _ h4⟩⟩
instance(s:B4p)(i:Int):A0v (A5I s i):=⟨fun _ _ _ hq ⟨x,h1,h2,h3⟩=>⟨x,h1,h2,hq _ _ h3⟩⟩
instance(P:Program)(k:Kind)(f:FuncId)(args:D0q):A0v (α:=no_index (Kind.ty k)) (A1C P k f args):=⟨fun _ _ _ hq hm=>V9.mono hm fun _ _ ⟨x,h1,h2⟩=>⟨x,h1,hq _ _ h2⟩⟩
instance(P:Program)(ks:List Kind)(f:FuncId)(args:D0q):A0v (α:=no_index (s6 ks)) (u9 P ks f args):=⟨fun _ _ _ hq hm=>V9.mono hm fun _ _ ⟨x,h1,h2⟩=>⟨x,h1,hq _ _ h2⟩⟩
instance(P:Program)(k:Kind)(v:Value)(args:D0q):A0v (α:=no_index (Kind.ty k)) (B8T P k v args):=⟨fun _ _ _ hq ⟨f,first,captured,h1,h2,hm⟩=>⟨f,first,captured,h1,h2,V9.mono hm fun _ _ ⟨x,h1,h2⟩=>⟨x,h1,hq _ _ h2⟩⟩⟩
instance(P:Program)(ks:List Kind)(v:Value)(args:D0q):A0v (α:=no_index (s6 ks)) (C32 P ks v args):=⟨fun _ _ _ hq ⟨f,first,captured,h1,h2,hm⟩=>⟨f,first,captured,h1,h2,V9.mono hm fun _ _ ⟨x,h1,h2⟩=>⟨x,h1,hq _ _ h2⟩⟩⟩
instance(s:Slc)(lo hi mx:Option Int)(size:Nat):A0v (HM.slice s lo hi mx size):=⟨fun _ _ _ hq ⟨l,hh,m,h1,h2,h3,h4⟩=>⟨l,hh,m,h1,h2,h3,hq _ _ h4⟩⟩
instance(s:B4p)(lo hi:Option Int):A0v (A47 s lo hi):=⟨fun _ _ _ hq ⟨l,hh,h1,h2,h4⟩=>⟨l,hh,h1,h2,hq _ _ h4⟩⟩
instance(elem:TypeId)(size bytes:Nat)(zero:D0q)(s:Slc)(n:Nat)(src:Heap→D0q→Prop):A0v (HM.append elem size bytes zero s n src):=⟨fun h Q1 Q2 hq hm=>by
 refine⟨fun hc=>?_,fun hc=>?_⟩
 ·obtain⟨vs,h1,h2⟩:=hm.1 hc
  refine⟨vs,h1,?_⟩
  cases hs:s.a with
  |none=>rw[hs] at h2;exact hq _ _ h2
  |some a=>rw[hs] at h2;exact⟨h2.1,hq _ _ h2.2⟩
 ·obtain⟨h1,h2,old,vs,h3,h4,h5⟩:=hm.2 hc
  exact⟨h1,h2,old,vs,h3,h4,fun c hc eD=>hq _ _ (h5 c hc eD)⟩⟩
instance(elem:TypeId)(bytes:Nat)(zero:D0q)(n c:Int):A0v (HM.makeSlice elem bytes zero n c):=⟨fun _ _ _ hq ⟨h1,h2,h3,h4,h5⟩=>⟨h1,h2,h3,h4,hq _ _ h5⟩⟩
instance(d:Slc)(n:Nat)(src:Nat→Heap→D0q→Prop):A0v (C7V d n src):=⟨fun h Q1 Q2 hq ⟨vs,h1,h2⟩=>by
 refine⟨vs,h1,?_⟩
 cases hs:d.a with
 |none=>rw[hs] at h2;exact hq _ _ h2
 |some a=>rw[hs] at h2;exact⟨h2.1,hq _ _ h2.2⟩⟩
instance(kd:A2G)(zero:Value)(k:Kind)(r:Option Nat)(key:Value):A0v (α:=no_index (Kind.ty k×Bool)) (HM.lookup kd zero k r key):=⟨fun _ _ _ hq ⟨es,c,o,x,h1,h2,h3,h4⟩=>⟨es,c,o,x,h1,h2,h3,hq _ _ h4⟩⟩
instance(kd:A2G)(r:Option Nat)(key val:Value):A0v (A3J kd r key val):=⟨fun h Q1 Q2 hq ⟨b,es,c,o,h1,h2,h3,h4⟩=>by
 refine⟨b,es,c,o,h1,h2,h3,?_⟩
 cases o with
 |none=>exact hq _ _ h4
 |some o=>exact⟨h4.1,h4.2.1,hq _ _ h4.2.2⟩⟩
instance(kd:A2G)(r:Option Nat)(key:Value):A0v (A6q kd r key):=⟨fun h Q1 Q2 hq hm=>by
 cases r with
 |none=>exact hq _ _ hm
 |some b=>
  obtain⟨es,c,o,h1,h2,h3⟩:=hm
  refine⟨es,c,o,h1,h2,?_⟩
  cases o with
  |none=>exact hq _ _ h3
  |some o=>exact hq _ _ h3⟩
instance(zero:D0q)(s:Slc):A0v (B8S zero s):=⟨fun h Q1 Q2 hq hm=>by
 unfold B8S at hm⊢
 cases ha:s.a with
 |none=>simp only[ha] at hm⊢;exact hq _ _ hm
 |some a=>
  simp only[ha] at hm⊢
  by_cases hn:s.len=0
  ·rw[if_pos hn] at hm⊢;exact hq _ _ hm
  ·rw[if_neg hn] at hm⊢;exact⟨hm.1,hq _ _ hm.2⟩⟩
instance(r:Option Nat):A0v (C8a r):=⟨fun h Q1 Q2 hq hm=>by
 cases r with
 |none=>exact hq _ _ hm
 |some r=>obtain⟨es,c,h1,h2⟩:=hm;exact⟨es,c,h1,hq _ _ h2⟩⟩
instance(r:Option Nat):A0v (B0H r):=⟨fun h Q1 Q2 hq hm=>by
 cases r with
 |none=>exact hq _ _ hm
 |some r=>obtain⟨es,c,h1,h2⟩:=hm;exact⟨es,c,h1,hq _ _ h2⟩⟩
instance(b:Nat):A0v (C79 b):=⟨fun h Q1 Q2 hq ⟨s,p,h1,h2,h3⟩=>⟨s,p,h1,fun hp=>hq _ _ (h2 hp),fun hp=>hq _ _ (h3 hp)⟩⟩
instance(b:Nat):A0v (A8G b):=⟨fun h Q1 Q2 hq ⟨m,since,seen,last,h1,h2⟩=>⟨m,since,seen,last,h1,by
 cases m with
 |none=>exact hq _ _ h2
 |some m=>
  obtain⟨es,c,h3,h4,h5,h6⟩:=h2
  exact⟨es,c,h3,h4,fun hh=>hq _ _ (h5 hh),fun e he hs=>hq _ _ (h6 e he hs)⟩⟩⟩
instance(kk kv:Kind)(b:Nat):A0v (α:=no_index (Kind.ty kk×Kind.ty kv)) (A4O kk kv b):=⟨fun h Q1 Q2 hq ⟨m,since,seen,stepped,es,stamp,e,k,v,h1,h2,h3,h4,h5,h6,h7⟩=>⟨m,since,seen,stepped,es,stamp,e,k,v,h1,h2,h3,h4,h5,h6,hq _ _ h7⟩⟩
instance(kd:A2G)(zero:Value)(k:Kind)(r:Option Nat)(key:Value):A0v (α:=no_index (Kind.ty k×Int)) (HM.mapEntry kd zero k r key):=⟨fun h Q1 Q2 hq ⟨b,es,c,o,h1,h2,h3,h4⟩=>⟨b,es,c,o,h1,h2,h3,by
 cases o with
 |none=>obtain⟨x,h5,h6⟩:=h4;exact⟨x,h5,hq _ _ h6⟩
 |some p=>obtain⟨h7,h8,x,h5,h6⟩:=h4;exact⟨h7,h8,x,h5,hq _ _ h6⟩⟩⟩
instance(r:Option Nat)(st:Int)(v:Value):A0v (HM.entryStore r st v):=⟨fun h Q1 Q2 hq ⟨b,es,c,i,h1,h2,h3,h4⟩=>⟨b,es,c,i,h1,h2,h3,hq _ _ h4⟩⟩
instance C0P(o:Option α)(a:HM β)(f:α→HM β)[ha:A0v a][hf:∀x,A0v (f x)]:A0v (A2Q o a f):=⟨fun h Q1 Q2 hq hm=>by
 cases o with
 |none=>exact ha.mono _ _ _ hq hm
 |some x=>exact(hf x).mono _ _ _ hq hm⟩
instance(s:Slc):A0v (C1L s):=⟨fun _ _ _ hq ⟨ns,h1,h2⟩=>⟨ns,h1,hq _ _ h2⟩⟩
instance(r:Option Nat):A0v (A7u r):=⟨fun _ _ _ hq ⟨es,c,h1,h2⟩=>⟨es,c,h1,hq _ _ h2⟩⟩
theorem B9z{γ:Type}{body:σ→HM (σ⊕τ)}{s:σ}{h:Heap}{Q:τ→Heap→Prop}[hb:∀s,A0v (body s)](I:γ→σ→Heap→Prop)(μ:γ→Nat)(g:γ)(h0:I g s h)
  (hr:∀g s h,I g s h→body s h fun r h'=>match r with
   |.inl s'=>∃g',μ g'<μ g∧I g' s' h'
   |.inr t=>Q t h'):HM.loop body s h Q:=by
 refine C2v (fun n s h=>∃g,μ g=n∧I g s h) (n:=μ g) ⟨g,rfl,h0⟩ ?_ (fun s h _ _ hq hm=>(hb s).mono h _ _ hq hm)
 rintro n s h ⟨g,rfl,hi⟩
 refine(hb s).mono h _ _ ?_ (hr g s h hi)
 intro r h' hx
 cases r with
 |inr t=>exact hx
 |inl s'=>
  obtain⟨g',h1,h2⟩:=hx
  exact⟨_,h1,g',rfl,h2⟩
def Next{γ σ:Type}(I:γ→σ→Heap→Prop)(μ:γ→Nat)(g:γ)(s:σ)(h:Heap):Prop:=∃g',μ g'<μ g∧I g' s h
theorem Next.mk{γ σ:Type}{I:γ→σ→Heap→Prop}{μ:γ→Nat}{g:γ}{s:σ}{h:Heap}(g':γ)(h1:μ g'<μ g)(h2:I g' s h):Next I μ g s h:=⟨g',h1,h2⟩
theorem o7{γ:Type}{body:σ→HM (σ⊕τ)}{s:σ}{h:Heap}{Q:τ→Heap→Prop}[hb:∀s,A0v (body s)](I:γ→σ→Heap→Prop)(μ:γ→Nat)(g:γ)(h0:I g s h)
  (hr:∀g s h,I g s h→body s h fun r h'=>match r with
   |.inl s'=>Next I μ g s' h'
   |.inr t=>Q t h'):HM.loop body s h Q:=B9z I μ g h0 hr
end
theorem W0{α β:Type}{m:HM α}[hm:A0v m]{f:α→HM β}{h:Heap}{Q:β→Heap→Prop}(P:α→Heap→Prop)(h1:m h P)(h2:∀a h',P a h'→f a h' Q):(m.bind f) h Q:=
 hm.mono h P _ h2 h1
end
section
open Go.MapKept (Stamped)
section
variable {K V:Type}
def B7k(ek:K→Value)(ev:V→Value)(l:List (K×V))(es:List MapEntry):Prop:=es.map (fun e=>(e.key,e.val))=l.map (fun p=>(ek p.1,ev p.2))
structure ItF(ek:K→Value)(ev:V→Value)(l done todo:List (K×V))(es:Array MapEntry)(clock:Nat)(seen:Array Nat)(des tes:List MapEntry):Prop where
 dI:A6K ek ev l es.toList
 stamped:Stamped es clock
 perm:(des++tes).Perm es.toList
 seen:seen.toList=des.map (·.born)
 done:B7k ek ev done des
 todo:B7k ek ev todo tes
def itA(ek:K→Value)(ev:V→Value)(m:Nat)(l:List (K×V))(it:Nat)(done todo:List (K×V)):Asn:=
 exA fun x:Array MapEntry×Nat×Array Nat×List MapEntry×List MapEntry=>
  star (pr (ItF ek ev l done todo x.1 x.2.1 x.2.2.1 x.2.2.2.1 x.2.2.2.2)) (star (blk it (.mapIter (some m) x.2.1 x.2.2.1 x.2.1)) (blk m (.map x.1 x.2.1)))
variable {h:Heap} {R:List Asn} {ek:K→Value} {ev:V→Value} {m it:Nat} {l done todo:List (K×V)}
theorem B2p:sat h (itA ek ev m l it done todo::R)↔∃es clock seen des tes,ItF ek ev l done todo es clock seen des tes∧sat h (blk it (.mapIter (some m) clock seen clock)::blk m (.map es clock)::R):=by
 unfold itA
 rw[sat.aZ]
 constructor
 ·rintro⟨⟨es,c,s,d,t⟩,hs⟩
  rw[sat.aI,sat.bB,sat.aI] at hs
  exact⟨es,c,s,d,t,hs⟩
 ·rintro⟨es,c,s,d,t,hs⟩
  exact⟨(es,c,s,d,t),by rw[sat.aI,sat.bB,sat.aI];exact hs⟩
theorem A9C{Q:Nat→Heap→Prop}(hs:sat h (mapA ek ev m l::R))(hq:∀it h',sat h' (itA ek ev m l it [] l::R)→Q it h'):B0H (some m) h Q:=by
 obtain⟨es,c,⟨he,bF⟩,hs⟩:=A1n.1 hs
 refine⟨es,c,hs.get,?_⟩
 refine hq _ _ (B2p.2 ⟨es,c,#[],[],es.toList,⟨he,bF,by simp,rfl,rfl,he⟩,?_⟩)
 exact hs.push
theorem A9M(hs:sat h (itA ek ev m l it done todo::R)):sat h (mapA ek ev m l::R):=by
 obtain⟨es,c,s,d,t,hf,hs⟩:=B2p.1 hs
 exact A1n.2 ⟨es,c,⟨hf.dI,hf.stamped⟩,hs.drop⟩
theorem B2f{Q:Option (Value×Value)→Heap→Prop}(hs:sat h (itA ek ev m l it done todo::R))(h0:todo=[]→Q none h)
  (h1:∀(p:K×V) (t1 t2:List (K×V)),todo=t1++p::t2→∀h',sat h' (itA ek ev m l it (done++[p]) (t1++t2)::R)→Q (some (ek p.1,ev p.2)) h'):A8G it h Q:=by
 obtain⟨es,c,seen,des,tes,hf,hs⟩:=B2p.1 hs
 have ml:∀e∈es,e.born<c:=fun e he=>hf.stamped.1 e (by simpa using he)
 have au:(es.toList.map (·.born)).Nodup:=hf.stamped.2.1
 have gV:((des++tes).map (·.born)).Nodup:=(hf.perm.map (·.born)).nodup_iff.2 au
 rw[B8,G3] at gV
 have an:∀e:MapEntry,e∈es↔e∈des∨e∈tes:=fun e=>by
  rw[←Array.mem_toList_iff,←hf.perm.mem_iff,C7]
 have ma:∀b,seen.contains b=true↔b∈des.map (·.born):=fun b=>by
  rw[←hf.seen];simp
 have te:∀e∈es,seen.contains e.born=false→e∈tes:=fun e he hc=>by
  rcases(an e).1 he with hd|ht
  ·exact absurd ((ma e.born).2 (B4 hd)) (by rw[hc];simp)
  ·exact ht
 refine⟨some m,c,seen,c,hs.get,es,c,hs.p1.get,?_,fun df=>?_,fun e he hc=>?_⟩
 ·by_cases hz:es.isEmpty=true
  ·simp[hz]
  ·have bS:es≠#[]:=by simpa using hz
   obtain⟨e,he⟩:∃e,e∈es:=⟨es[0]'(Array.size_pos_iff.2 bS),Array.getElem_mem _⟩
   have ah:=ml e he
   have:es.all (fun e=>decide (e.born≥c))=false:=by
    cases hh:es.all (fun e=>decide (e.born≥c)) with
    |false=>rfl
    |true=>
     rw[Array.all_eq_true_iff_forall_mem] at hh
     have:=hh e he
     simp at this
     omega
   simp[this]
 ·
  refine h0 ?_
  have:tes=[]:=by
   cases tes with
   |nil=>rfl
   |cons e t=>
    have he:e∈es:=(an e).2 (.inr (B6 ..))
    have iy:seen.contains e.born=false:=by
     cases hh:seen.contains e.born with
     |false=>rfl
     |true=>
      exact absurd rfl (gV.2.2 e.born ((ma _).1 hh) e.born (by simp))
    have:=df e he iy
    have:=ml e he
    omega
  have ht:=hf.todo
  rw[this] at ht
  simp only[B7k,I3] at ht
  exact List.map_eq_nil_iff.1 ht.symm
 ·have ht:=te e he hc
  obtain⟨t1,t2,rfl⟩:=H0 ht
  have uX:=hf.todo
  simp only[B7k,B8,B5] at uX
  obtain⟨l1,yz,e1,e2,e3⟩:=List.map_eq_append_iff.1 uX.symm
  obtain⟨p,l2,e4,e5,e6⟩:=List.map_eq_cons_iff.1 e3
  subst e4
  have wm:(ek p.1,ev p.2)=(e.key,e.val):=e5
  obtain⟨k1,k2⟩:=Prod.mk.inj wm
  rw[←k1,←k2]
  have ah:=hs.lt
  refine h1 p l1 l2 e1 _ (B2p.2 ⟨es,c,seen.push e.born,des++[e],t1++t2,⟨hf.dI,hf.stamped,?_,?_,?_,?_⟩,?_⟩)
  ·refine List.Perm.trans ?_ hf.perm
   rw[D7]
   refine Q5 des ?_
   show(e::(t1++t2)).Perm _
   exact P9.symm
  ·simp[hf.seen]
  ·simp only[B7k,B8,B5,I3]
   rw[hf.done,wm]
  ·simp only[B7k,B8]
   rw[e2,e6]
  ·exact hs.bJ (o':=.mapIter (some m) c (seen.push e.born) c) (by simp[ah]) (fun k hk=>by rw[H8,if_neg (fun e=>hk e.symm)])
theorem A9Q{kk kv:Kind}{p:K×V}{x:kk.ty}{y:kv.ty}{Q:kk.ty×kv.ty→Heap→Prop}(hk:ek p.1=kk.val x)(hv:ev p.2=kv.val y)
  (hs:sat h (itA ek ev m l it (done++[p]) todo::R))(hq:Q (x,y) h):A4O kk kv it h Q:=by
 obtain⟨es,c,seen,des,tes,hf,hs⟩:=B2p.1 hs
 have hd:=hf.done
 simp only[B7k,B8,B5,I3] at hd
 obtain⟨d1,yT,e1,e2,e3⟩:=List.map_eq_append_iff.1 hd
 obtain⟨e,d2,e4,e5,e6⟩:=List.map_eq_cons_iff.1 e3
 have:d2=[]:=List.map_eq_nil_iff.1 e6
 subst this e4 e1
 obtain⟨k1,k2⟩:=Prod.mk.inj e5
 have au:(es.toList.map (·.born)).Nodup:=hf.stamped.2.1
 have lD:e∈es.toList:=hf.perm.mem_iff.1 (by simp)
 have gX:es.find? (fun x=>x.born==e.born)=some e:=by
  rw[←Array.find?_toList]
  obtain⟨a,b,dg⟩:=H0 lD
  rw[dg]
  rw[dg,B8,B5,G3] at au
  rw[P5]
  have:a.find? (fun x=>x.born==e.born)=none:=by
   rw[E7]
   intro x hx
   have:=au.2.2 x.born (B4 hx) e.born (by simp)
   simpa using this
  rw[this]
  simp
 have bV:seen.back?=some e.born:=by
  have dD:=hf.seen
  rw[B8,B5,I3] at dD
  rw[←Array.getLast?_toList,dD]
  simp
 exact⟨m,c,seen,c,es,e.born,e,x,y,hs.get,bV,hs.p1.get,gX,k1.trans hk,k2.trans hv,hq⟩
end
@[simp] theorem C0G {α β:Type} (a:HM β) (f:α→HM β) {h:Heap} {Q:β→Heap→Prop}:A2Q none a f h Q=a h Q:=rfl
@[simp] theorem C0F {α β:Type} (x:α) (a:HM β) (f:α→HM β) {h:Heap} {Q:β→Heap→Prop}:A2Q (some x) a f h Q=f x h Q:=rfl
def b8{α:Type}(f:α→Asn):List α→Asn
 |[]=>pr True
 |x::l=>star (f x) (b8 f l)
section
variable {α:Type} {f:α→Asn} {h:Heap} {R:List Asn}
theorem A2F:sat h (b8 f []::R)↔sat h R:=sat.bB.trans ⟨fun hh=>hh.2,fun hh=>⟨trivial,hh⟩⟩
theorem o3{x:α}{l:List α}:sat h (b8 f (x::l)::R)↔sat h (f x::b8 f l::R):=sat.aI
theorem k8{x:α}{l2:List α}:∀{l1:List α} {R:List Asn},sat h (b8 f (l1++x::l2)::R)↔sat h (f x::b8 f (l1++l2)::R)
 |[],R=>o3
 |y::l1,R=>by
  rw[G7,G7,o3]
  constructor
  ·intro hs
   exact(o3.2 (k8.1 hs.p1).p2.p2.p1).p1
  ·intro hs
   exact(k8.2 (o3.1 hs.p1).p2.p2.p1).p1
theorem A9v{x:α}{l:List α}(hx:x∈l)(hs:sat h (b8 f l::R)):∃R',sat h (f x::R'):=by
 obtain⟨l1,l2,rfl⟩:=H0 hx
 exact⟨_,k8.1 hs⟩
end
theorem C10{L L':List Asn}(hp:L.Perm L'):∀m,A00 L m→A00 L' m:=by
 induction hp with
 |nil=>exact fun _ h=>h
 |cons x _ ih=>exact fun m h=>A0M (fun _ h=>h) ih h
 |swap x y l=>exact fun m h=>A0k h
 |trans _ _ sQ sP=>exact fun m h=>sP m (sQ m h)
theorem sat.perm{h:Heap}{L L':List Asn}(hp:L.Perm L')(hs:sat h L):sat h L':=
 let⟨m,h1,h2⟩:=hs
 ⟨m,h1,C10 hp m h2⟩
theorem sat.fN{h:Heap}{R:List Asn}:∀(n:Nat),sat h R→sat h (List.replicate n (pr True)++R)
 |0,hs=>hs
 |n+1,hs=>sat.bB.2 ⟨trivial,sat.fN n hs⟩
theorem sat.re{h:Heap}{L:List Asn}(hs:sat h L)(idx:List Nat)(hi:idx.isPerm (List.range idx.length)=true:=by rfl):
  sat h (idx.map (fun i=>L.getD i (pr True))++L.drop idx.length):=by
 have h1:(idx.map (fun i=>L.getD i (pr True))).Perm ((List.range idx.length).map (fun i=>L.getD i (pr True))):=(List.isPerm_iff.1 hi).map _
 refine sat.perm (h1.symm.append_right _) ?_
 generalize idx.length=n
 clear h1 hi
 by_cases hn:n≤L.length
 ·have e:(List.range n).map (fun i=>L.getD i (pr True))=L.take n:=by
   refine List.ext_getElem (by simp;omega) fun i h2 h3=>?_
   simp at h2 h3
   simp[B0 (show i<L.length by omega)]
  rw[e,J0]
  exact hs
 ·rw[N0 (by omega),C1]
  have e:(List.range n).map (fun i=>L.getD i (pr True))=L++List.replicate (n-L.length) (pr True):=by
   refine List.ext_getElem? fun i=>?_
   rw[List.getElem?_append]
   by_cases h2:i<L.length
   ·simp[h2,show i<n by omega]
   ·by_cases h3:i<n
    ·simp[h2,h3,List.getElem?_replicate,show i-L.length<n-L.length by omega,List.getElem?_eq_none (show L.length≤i by omega)]
    ·simp[h2,h3,List.getElem?_replicate]
     omega
  rw[e]
  exact(sat.fN _ hs).perm List.perm_append_comm
section
variable {K V:Type} [DecidableEq K]
theorem A4k:∀{l:List (K×V)} {k:K} {v:V},X0 l k=some v→(k,v)∈l
 |[],k,v,h=>by simp at h
 |(a,b)::l,k,v,h=>by
  rw[Z4] at h
  by_cases e:a=k
  ·rw[if_pos e] at h
   cases h
   subst e
   exact B6 ..
  ·rw[if_neg e] at h
   exact C2 _ (A4k h)
theorem B2i:∀{l1 l2:List (K×V)} {k:K} {v:V},k∉l1.map (·.1)→mdel (l1++(k,v)::l2) k=l1++l2
 |[],l2,k,v,_=>by simp[mdel]
 |(a,b)::l1,l2,k,v,h=>by
  simp only[B5,D3,not_or] at h
  simp only[G7,mdel,if_neg (fun e:a=k=>h.1 e.symm),B2i h.2]
end
end
section
open Go.RowKit
theorem C6L{w w':World}{R:List Asn}(hs:A0i w w')(ho:sat w'.heap (old w.heap::R)):Below w.heap.size w w':=by
 refine⟨hs.os,hs.tape,hs.output,?_,fun k hk=>?_⟩
 ·rcases Nat.eq_zero_or_pos w.heap.size with h0|hp
  ·omega
  ·have hg:w.heap[w.heap.size-1]? =some w.heap[w.heap.size-1]:=F7 (by omega)
   have:=(F9.1 (ho.dM hg)).1
   omega
 ·rw[ho.dM (F7 hk),F7 hk]
theorem walk_of{P:Program}{f:FuncId}{args:D0q}{w:World}{v:Value}
  (hc:V9 P f args w.heap fun v' h'=>v'=v∧∃R,sat h' (old w.heap::R)):Calls P f args w fun e w'=>e=.returned v∧Below w.heap.size w w':=
 (hc w rfl).mono fun e w' ⟨_,he,hs,hv,R,ho⟩=>⟨by rw[he,hv],C6L hs ho⟩
def e8{α:Type}(enc:α→D0r)(size:Nat)(h0:Heap)(s:Slc)(xs:List α):Prop:=
 s.len=xs.length∧s.len≤s.cap∧∀(i:Nat) x,xs[i]? =some x→∃a,s.a=some a∧∀j v,(enc x)[j]? =some v→W8 h0 ((a.add (i*size)).add j)=some v
section
variable {α β:Type} {enc:α→D0r} {size:Nat} {h0 h:Heap} {s:Slc} {xs:List α}
theorem Y0(hr:e8 enc size h0 s xs){i:Nat}{x:α}(hx:xs[i]? =some x){Q:Addr→Heap→Prop}
  (hq:∀a,(∀j v,(enc x)[j]? =some v→W8 h0 (a.add j)=some v)→Q a h):A4F s.a s.len (i:Int) size h Q:=by
 obtain⟨a,ha,hc⟩:=hr.2.2 i x hx
 have ah:=(D4.1 hx).1
 exact⟨a,ha,by omega,by have:=hr.1;omega,hq _ (by simpa using hc)⟩
theorem B2Z(hr:e8 enc size h0 s xs){n:Nat}(hn:n≤xs.length){Q:Slc→Heap→Prop}
  (hq:∀s',e8 enc size h0 s' (xs.take n)→Q s' h):HM.slice s none (some (n:Int)) none size h Q:=by
 refine⟨0,n,s.cap,rfl,⟨rfl,by have:=hr.1;have:=hr.2.1;omega⟩,rfl,hq _ ⟨?_,?_,?_⟩⟩
 ·simp[o0];omega
 ·have:=hr.1;have:=hr.2.1;simp[o0];omega
 ·intro i x hx
  obtain⟨a,ha,hc⟩:=hr.2.2 i x (by
   rw[J4] at hx
   split at hx
   ·exact hx
   ·cases hx)
  refine⟨a,?_,hc⟩
  simp only[o0,ha]
  split
  ·rfl
  ·simp[add_zero]
end
end
section
theorem W6{n:Int}(h1: -9223372036854775808≤n)(h2:n≤9223372036854775807):IntKind.wrap .i64 n=n:=by
 simp[IntKind.wrap,IntKind.bits,IntKind.signed];omega
section
variable {h h':Heap} {A:Asn} {R:List Asn}
theorem sat.grow(hs:sat h R)(hg:∀(k:Nat) o,h[k]? =some o→h'[k]? =some o):sat h' R:=by
 obtain⟨m,h1,h2⟩:=hs
 exact⟨m,fun k o ho=>hg k o (h1 k o ho),h2⟩
theorem sat.came(hs:sat h R)(hg:∀(k:Nat) o,h[k]? =some o→h'[k]? =some o){b:Nat}{o:Obj}(hb:h.size≤b)(ho:h'[b]? =some o):sat h' (blk b o::R):=by
 obtain⟨m,h1,h2⟩:=hs
 have hm:m b=none:=by
  cases hx:m b with
  |none=>rfl
  |some x=>
   have:=(F9.1 (h1 _ _ hx)).1
   omega
 refine⟨PH.join (fun k=>if k=b then some o else none) m,B5m (fun k x hx=>?_) (fun k x hx=>hg k x (h1 k x hx)),_,m,fun k=>?_,rfl,by simp[blk],h2⟩
 ·have dS:(if k=b then some o else none)=some x:=hx
  split at dS
  ·rename_i e;subst e;cases dS;exact ho
  ·cases dS
 ·by_cases e:k=b
  ·subst e;exact .inr hm
  ·exact .inl (by simp[e])
theorem sat.eJ(hs:sat h R)(hg:∀(k:Nat) o,h[k]? =some o→h'[k]? =some o){b:Nat}{cs:D0q}{T:TypeId}(hb:h.size≤b)(ho:h'[b]? =some (.cells cs T (0,0))):sat h' (cells b cs::R):=
 A2u.2 ⟨T,hs.came hg hb ho⟩
theorem B4z{P:Program}{f:FuncId}{args:D0q}{v:Value}{Q:Value→Heap→Prop}(hs:sat h R)
  (hc:∀w,w.heap=h→Calls P f args w fun e w'=>e=.returned v∧Go.RowKit.Below w.heap.size w w')(hq:∀h',sat h' R→Q v h'):V9 P f args h Q:=by
 intro w hw
 refine(hc w hw).mono ?_
 rintro e w' ⟨rfl,hb⟩
 refine⟨v,rfl,⟨hb.os,hb.tape,hb.output⟩,hq _ (hs.grow fun k o ho=>?_)⟩
 rw[hb.block k (by rw[hw];exact(F9.1 ho).1),hw]
 exact ho
end
section
variable {α:Type} {enc:α→D0r} {size:Nat} {h h0 h':Heap} {s:Slc} {xs:List α} {R:List Asn}
theorem e8.mono(hr:e8 enc size h0 s xs)(hc:∀a v,W8 h0 a=some v→W8 h a=some v):e8 enc size h s xs:=
 ⟨hr.1,hr.2.1,fun i x hx=>by
  obtain⟨a,ha,hx⟩:=hr.2.2 i x hx
  exact⟨a,ha,fun j v hv=>hc _ _ (hx j v hv)⟩⟩
theorem e8.old(hr:e8 enc size h0 s xs)(hs:sat h (old h0::R)):e8 enc size h s xs:=hr.mono fun _ _ hc=>hs.bY hc
end
structure C60{α:Type}(enc:α→D0r)(size:Nat)(s:Slc)(xs:List α)(b o:Nat)(cs:D0q):Prop where
 a:s.a=some ⟨b,o*size,none⟩
 le:s.len≤s.cap
 len:s.len=xs.length
 dO:(o+s.cap)*size≤cs.size
 front:(cs.toList.drop (o*size)).take (s.len*size)=xs.flatMap enc
def V1{α:Type}(enc:α→D0r)(size:Nat)(s:Slc)(xs:List α):Asn:=fun m=>
 (s.len=0∧s.cap=0∧xs=[])∨exA (fun x:Nat×Nat×D0q=>star (pr (C60 enc size s xs x.1 x.2.1 x.2.2)) (cells x.1 x.2.2)) m
section
variable {α:Type} {enc:α→D0r} {size:Nat} {h:Heap} {s:Slc} {xs:List α} {R:List Asn}
theorem A0T(hs:sat h (V1 enc size s xs::R)):(s.len=0∧s.cap=0∧xs=[]∧sat h R)∨∃b o cs,C60 enc size s xs b o cs∧sat h (cells b cs::R):=by
 obtain⟨m,h1,a,r,hd,rfl,ha,hr⟩:=id hs
 rcases ha with⟨h2,h3,h4⟩|ha
 ·exact .inl ⟨h2,h3,h4,hs.drop⟩
 ·have af:sat h (exA (fun x:Nat×Nat×D0q=>star (pr (C60 enc size s xs x.1 x.2.1 x.2.2)) (cells x.1 x.2.2))::R):=⟨_,h1,a,r,hd,rfl,ha,hr⟩
  rw[sat.aZ] at af
  obtain⟨⟨b,o,cs⟩,af⟩:=af
  rw[sat.aI,sat.bB] at af
  exact .inr ⟨b,o,cs,af⟩
theorem A43{a:D0p}(hs:sat h R):sat h (V1 enc size ⟨a,0,0⟩ []::R):=by
 obtain⟨m,h1,h2⟩:=hs
 exact⟨m,h1,fun _=>none,m,fun k=>.inl rfl,by funext k;rfl,.inl ⟨rfl,rfl,rfl⟩,h2⟩
theorem Z2(hs:sat h R):sat h (V1 enc size ⟨none,0,0⟩ []::R):=A43 hs
theorem A1N{b o:Nat}{cs:D0q}(ho:C60 enc size s xs b o cs)(hs:sat h (cells b cs::R)):sat h (V1 enc size s xs::R):=by
 have af:sat h (exA (fun x:Nat×Nat×D0q=>star (pr (C60 enc size s xs x.1 x.2.1 x.2.2)) (cells x.1 x.2.2))::R):=by
  rw[sat.aZ]
  refine⟨(b,o,cs),?_⟩
  rw[sat.aI,sat.bB]
  exact⟨ho,hs⟩
 exact af.imp fun m hm=>.inr hm
theorem sat.aW(hs:sat h (V1 enc size s xs::R)):s.len=xs.length:=by
 rcases A0T hs with⟨h1,h2,rfl,-⟩|⟨b,o,cs,ho,-⟩
 ·exact h1
 ·exact ho.len
theorem sat.eE(hs:sat h (V1 enc size s xs::R)):s.len≤s.cap:=by
 rcases A0T hs with⟨h1,h2,rfl,-⟩|⟨b,o,cs,ho,-⟩
 ·omega
 ·exact ho.le
theorem B6r(ao:∀x,(enc x).length=size):∀(xs:List α) (i:Nat) (x:α),xs[i]? =some x→∀j v,(enc x)[j]? =some v→(xs.flatMap enc)[i*size+j]? =some v
 |[],i,x,hx,_,_,_=>by simp at hx
 |y::xs,0,x,hx,j,v,hv=>by
  simp only[P3,F6] at hx
  subst hx
  rw[D8,R9,M9]
  have hj:=(D4.1 hv).1
  rw[List.getElem?_append_left hj]
  exact hv
 |y::xs,i+1,x,hx,j,v,hv=>by
  rw[P4] at hx
  rw[D8,List.getElem?_append_right (by rw[ao];rw[J7];omega),ao]
  rw[show(i+1)*size+j-size=i*size+j from by rw[J7];omega]
  exact B6r ao xs i x hx j v hv
theorem y5(ao:∀x,(enc x).length=size)(xs:List α):(xs.flatMap enc).length=xs.length*size:=by
 induction xs with
 |nil=>simp
 |cons x xs ih=>rw[D8,B3,ih,ao,B7,J7];omega
theorem sat.aN(ao:∀x,(enc x).length=size)(hs:sat h (V1 enc size s xs::R)):e8 enc size h s xs:=by
 rcases A0T hs with⟨h1,h2,rfl,-⟩|⟨b,o,cs,ho,hs⟩
 ·exact⟨h1,by omega,fun i x hx=>by simp at hx⟩
 ·refine⟨ho.len,ho.le,fun i x hx=>⟨_,ho.a,fun j v hv=>?_⟩⟩
  rw[Addr.bL,Addr.bL,hs.cell]
  have h1:=B6r ao xs i x hx j v hv
  rw[←ho.front,J4] at h1
  split at h1
  ·rw[J5] at h1
   rw[show o*size+i*size+j=o*size+(i*size+j) from by omega]
   simpa using h1
  ·cases h1
theorem B20{lo hi:Nat}{mx:Option Int}{Q:Slc→Heap→Prop}{ol oh:Option Int}(hs:sat h (V1 enc size s xs::R))(ao:∀x,(enc x).length=size)
  (h1:lo≤hi)(h2:hi≤xs.length)(e1:A4i ol (lo=0) lo hi)(e2:A4i oh (hi=s.len) hi s.cap)
  (hq:∀s',sat h (V1 enc size s' ((xs.take hi).drop lo)::R)→Q s' h):HM.slice s ol oh none size h Q:=by
 have hl:=hs.aW
 have hc:=hs.eE
 refine⟨lo,hi,s.cap,rfl,?_,e1,hq _ ?_⟩
 ·cases oh with
  |none=>exact⟨rfl,e2⟩
  |some x=>exact e2
 rcases A0T hs with⟨g1,g2,rfl,aa⟩|⟨b,o,cs,ho,aa⟩
 ·have:hi=0:=by simpa using h2
  subst this
  have:lo=0:=by omega
  subst this
  simp only[o0,g2,if_true,List.take_nil,List.drop_nil,Q4]
  exact A43 aa
 ·by_cases hm:s.cap=lo
  ·have e0:lo=xs.length:=by omega
   simp only[o0,hm,if_true,Q4]
   rw[N0 (by simp;omega),show hi-lo=0 from by omega]
   exact A43 hs.drop
  ·refine A1N (b:=b) (o:=o+lo) (cs:=cs) ⟨?_,?_,?_,?_,?_⟩ aa
   ·simp only[o0,if_neg hm,ho.a,S0,Addr.bL,J8]
   ·simp only[o0];omega
   ·simp only[o0,R3,D6];omega
   ·simp only[o0]
    rw[show o+lo+(s.cap-lo)=o+s.cap from by omega]
    exact ho.dO
   ·simp only[o0]
    have hf:=ho.front
    have e3:((xs.take hi).drop lo).flatMap enc=((xs.flatMap enc).take (hi*size)).drop (lo*size):=by
     have key:∀(l:List α) (n:Nat),(l.flatMap enc).take (n*size)=(l.take n).flatMap enc∧(l.flatMap enc).drop (n*size)=(l.drop n).flatMap enc:=by
      intro l
      induction l with
      |nil=>intro n;simp
      |cons x l ih=>
       intro n
       cases n with
       |zero=>simp
       |succ n=>
        have hx:=ao x
        rw[D8,J7,List.take_succ_cons,List.drop_succ_cons,D8]
        refine⟨?_,?_⟩
        ·rw[List.take_append,hx,D1 (by omega),show n*size+size-size=n*size from by omega,(ih n).1]
        ·rw[List.drop_append,hx,N0 (by omega),show n*size+size-size=n*size from by omega,(ih n).2,F0]
     rw[(key xs hi).1,(key (xs.take hi) lo).2]
    rw[e3,←hf]
    rw[List.take_take,Nat.min_eq_left (Q8 _ (by omega:hi≤s.len)),List.drop_take,List.drop_drop,J8,←Nat.sub_mul]
theorem sat.setCells{b:Nat}:∀(vs:D0r) (cs:D0q) (o i:Nat) {h:Heap} {R:List Asn},sat h (cells b cs::R)→o+i+vs.length≤cs.size→
  ∃cs':D0q,cs'.size=cs.size∧cs'.toList=cs.toList.take (o+i)++vs++cs.toList.drop (o+i+vs.length)∧sat (A2o h ⟨b,o,none⟩ vs i) (cells b cs'::R)
 |[],cs,o,i,h,R,hs,hl=>⟨cs,rfl,by simp,hs⟩
 |v::vs,cs,o,i,h,R,hs,hl=>by
  simp only[B7] at hl
  have h1:=hs.set (o+i) v
  obtain⟨cs',e1,e2,h2⟩:=sat.setCells vs (cs.setIfInBounds (o+i) v) o (i+1) h1 (by simp;omega)
  refine⟨cs',by simpa using e1,?_,by simpa[A2o] using h2⟩
  rw[e2,P7]
  have hlen:o+i<cs.toList.length:=by simp;omega
  rw[show o+(i+1)=(o+i)+1 from by omega,C3 (by simpa using hlen)]
  rw[List.getElem_set_self,List.take_set_of_le (D9 _),List.drop_set_of_lt (by omega)]
  simp only[B7,D7,G7,F0]
  rw[show o+i+1+vs.length=o+i+(vs.length+1) from by omega]
theorem A3w{b:Nat}{cs:D0q}{o:Nat}{vs:D0r}(hs:sat h (cells b cs::R))(hl:o+vs.length≤cs.size)(hv:∀v∈vs,v.oneCell'=true):
  ∀(i:Nat) v,vs[i]? =some v→(W8 h (Addr.add ⟨b,o,none⟩ i)).isSome=true∧A2s h (Addr.add ⟨b,o,none⟩ i)=false∧v.oneCell'=true:=by
 intro i v hi
 have ah:=(D4.1 hi).1
 rw[Addr.bL]
 refine⟨?_,hs.free _,hv v (E9 hi)⟩
 rw[hs.cell]
 simp
 omega
theorem A0d(ao:∀x,(enc x).length=size)(cH:∀x,∀v∈enc x,v.oneCell'=true){elem:TypeId}{bytes n:Nat}{zero:D0q}(hz:zero.size=size){src:Heap→D0q→Prop}{ys:List α}{Q:Slc→Heap→Prop}
  (hs:sat h (V1 enc size s xs::R))(hn:ys.length=n)(fo:src h (ys.flatMap enc).toArray)(hsz:0<size)(gI:0<bytes)(hb:(xs.length+n)*bytes≤140737488355328)
  (hq:∀s' h',sat h' (V1 enc size s' (xs++ys)::R)→Q s' h'):HM.append elem size bytes zero s n src h Q:=by
 have hl:=hs.aW
 have jk:xs.length+n≤140737488355328:=C4 (Nat.le_mul_of_pos_right _ gI) hb
 constructor
 ·intro hc
  refine⟨_,fo,?_⟩
  rcases A0T hs with⟨g1,g2,rfl,aa⟩|⟨b,o,cs,ho,hs⟩
  ·have h0:n=0:=by omega
   subst h0
   have hy:ys=[]:=List.eq_nil_of_length_eq_zero hn
   subst hy
   obtain⟨sa,sl,sc⟩:=s
   simp only at g1 g2
   subst g1 g2
   cases sa with
   |none=>exact hq _ _ (A43 aa)
   |some a=>exact⟨fun i v hv=>by simp at hv,hq _ _ (A43 aa)⟩
  ·rw[ho.a]
   simp only[Addr.bL]
   have hlen:(o*size+s.len*size)+(ys.flatMap enc).length≤cs.size:=by
    refine C4 ?_ ho.dO
    rw[y5 ao,hn,←J8,←J8]
    exact Q8 _ (by omega)
   refine⟨?_,?_⟩
   ·have:=A3w (o:=o*size+s.len*size) (vs:=ys.flatMap enc) hs hlen (fun v hv=>by
     obtain⟨x,_,hx⟩:=T8.1 hv
     exact cH x v hx)
    simpa using this
   ·obtain⟨cs',e1,e2,af⟩:=sat.setCells (ys.flatMap enc) cs (o*size+s.len*size) 0 hs (by simpa using hlen)
    refine hq _ _ (A1N (b:=b) (o:=o) (cs:=cs') ⟨rfl,hc,by simp[ho.len,hn],by rw[e1];exact ho.dO,?_⟩ (by simpa using af))
    rw[e2]
    simp only[O7]
    have bg:cs.toList.length=cs.size:=by simp
    have d1:((cs.toList.take (o*size+s.len*size)++ys.flatMap enc++cs.toList.drop (o*size+s.len*size+(ys.flatMap enc).length)).drop (o*size))=
      xs.flatMap enc++ys.flatMap enc++cs.toList.drop (o*size+s.len*size+(ys.flatMap enc).length):=by
     rw[D7,P1 (by rw[D6,bg];omega),List.drop_take,show o*size+s.len*size-o*size=s.len*size from by omega,ho.front,D7]
    rw[d1,I7]
    have e3:(s.len+n)*size=(xs.flatMap enc++ys.flatMap enc).length:=by
     rw[B3,y5 ao,y5 ao,J8,ho.len,hn]
    rw[e3,List.take_left']
    rfl
 ·intro hc
  refine⟨by omega,growslice_fits hc (by rw[hl];exact hb),?_⟩
  have gU:∀old:D0q,old.toList=xs.flatMap enc→∀c,s.len+n≤c→∀R',sat h R'→
    sat (h.push (.cells (old++(ys.flatMap enc).toArray++Builtin.zeroCells zero (c-(s.len+n))) elem)) (V1 enc size ⟨some ⟨h.size,0,none⟩,s.len+n,c⟩ (xs++ys)::R'):=by
   intro old hold c gd R' xZ
   have ho:old.size=s.len*size:=by
    have:=congrArg List.length hold
    rw[y5 ao] at this
    simpa[hl] using this
   refine A1N (o:=0) ⟨by simp,gd,by simp[hl,hn],U1 ?_,?_⟩ xZ.bI
   ·simp only[M9,Array.size_append,ho,Builtin.zeroCells,Array.size_map,Array.size_range,hz,List.size_toArray,y5 ao,hn]
    rw[←J8,←J8]
    congr 1
    omega
   ·simp only[Array.toList_append,hold,I7,R9,T4]
    rw[P2 (by simp only[B3,y5 ao];rw[hl,J8,hn];exact D9 _)]
    rw[D1]
    simp only[B3,y5 ao]
    rw[hl,J8,hn]
    exact D9 _
  rcases A0T hs with⟨g1,g2,rfl,aa⟩|⟨b,o,cs,ho,hs⟩
  ·refine⟨#[],_,?_,fo,fun c gd _=>hq _ _ (gU #[] rfl c gd R aa)⟩
   rw[g1,R9]
   cases s.a with
   |none=>rfl
   |some a=>exact⟨rfl,fun i v hv=>by simp at hv⟩
  ·refine⟨(xs.flatMap enc).toArray,_,?_,fo,fun c gd _=>hq _ _ (gU _ (by simp) c gd R hs.drop)⟩
   simp only[A5n,ho.a]
   refine⟨by simp[y5 ao,ho.len],fun i v hi=>?_⟩
   rw[Addr.bL,hs.cell]
   have h1:(xs.flatMap enc)[i]? =some v:=by simpa using hi
   rw[←ho.front,J4] at h1
   split at h1
   ·rw[J5] at h1
    simpa using h1
   ·cases h1
theorem sat.reads{b:Nat}{cs:D0q}{n:Nat}(hs:sat h (cells b cs::R))(hn:cs.size=n):A5n h (some ⟨b,0,none⟩) n cs:=
 ⟨hn,fun i v hi=>by rw[Addr.bL,hs.cell,M9];exact hi⟩
theorem A0H(ao:∀x,(enc x).length=size)(cH:∀x,∀v∈enc x,v.oneCell'=true){elem T:TypeId}{bytes:Nat}{zero:D0q}(hz:zero.size=size){x:α}{Q:Slc→Heap→Prop}
  (hs:sat h (V1 enc size s xs::R))(hsz:0<size)(gI:0<bytes)(hb:(xs.length+1)*bytes≤140737488355328)
  (hq:∀s' h',sat h' (V1 enc size s' (xs++[x])::R)→Q s' h'):HM.new (.cells (enc x).toArray T) h fun b h'=>HM.append elem size bytes zero s 1 (W4 size ⟨some ⟨b,0,none⟩,1,1⟩) h' Q:=by
 refine W5 hs fun b h1 aa=>?_
 refine A0d ao cH hz (ys:=[x]) aa.p1 rfl ?_ hsz gI hb fun s' h2 ae=>hq s' h2 ae.p1.drop
 simp only[W4,N5,D8,I1,C1]
 exact aa.reads (by simp[ao])
theorem A0A{ts:List Tag}{a:Addr}(x:Tup ts){Q:Tup ts→Heap→Prop}(hc:∀i v,(Tup.cC ts x)[i]? =some v→W8 h (a.add i)=some v)(hq:Q x h):o9 ts a h Q:=⟨x,hc,hq⟩
theorem V0(b i:Nat):(⟨b,0,none⟩:Addr).add i=⟨b,i,none⟩:=by
 cases i with
 |zero=>rfl
 |succ i=>simp[Addr.add]
theorem Z3{b:Nat}{cs:D0q}{ts:List Tag}(x:Tup ts){Q:Tup ts→Heap→Prop}(hs:sat h (cells b cs::R))(he:cs=(Tup.cC ts x).toArray)(hq:Q x h):o9 ts ⟨b,0,none⟩ h Q:=by
 refine⟨x,fun i v hv=>?_,hq⟩
 have:=hs.cell i
 rw[he] at this
 have e:(⟨b,0,none⟩:Addr).add i=⟨b,i,none⟩:=by
  cases i with
  |zero=>rfl
  |succ i=>simp[Addr.add]
 rw[e,this]
 simpa using hv
theorem B5n{b:Nat}{cs:D0q}{vs:D0r}{Q:Unit→Heap→Prop}(hs:sat h (cells b cs::R))(hl:vs.length=cs.size)(hv:∀v∈vs,v.oneCell'=true)
  (hq:∀h',sat h' (cells b vs.toArray::R)→Q () h'):B0I ⟨b,0,none⟩ vs h Q:=by
 refine⟨A3w (o:=0) hs (by omega) hv,?_⟩
 obtain⟨cs',e1,e2,af⟩:=sat.setCells vs cs 0 0 hs (by omega)
 have e3:cs'=vs.toArray:=by
  apply I8.1
  rw[e2]
  simp only[O7,M9,T5,F0]
  rw[N0 (by simp;omega)]
  simp
 subst e3
 exact hq _ af
theorem o4{b:Nat}{cs:D0q}{vs:D0r}{Q:Unit→Heap→Prop}(hs:sat h (cells b cs::R))(hl:vs.length=cs.size)(hv:vs.all (fun v=>v.oneCell')=true)
  (hq:∀h',sat h' (cells b vs.toArray::R)→Q () h'):B0I ⟨b,0,none⟩ vs h Q:=
 B5n hs hl (J1.1 hv) hq
end
end
end Go.H
namespace Go.R
open Go.H
theorem C3J{α:Type}{p:Nat→α→Prop}:∀(n:Nat),(∀i,i<n→∃x,p i x)→∃xs:List α,xs.length=n∧∀(i:Nat) x,xs[i]? =some x→p i x
 |0,_=>⟨[],rfl,fun i x hx=>by simp at hx⟩
 |n+1,hp=>by
  obtain⟨xs,h1,h2⟩:=C3J n (fun i hi=>hp i (by omega))
  obtain⟨x,hx⟩:=hp n (by omega)
  refine⟨xs++[x],by simp[h1],fun i y hy=>?_⟩
  rw[List.getElem?_append] at hy
  split at hy
  ·exact h2 i y hy
  ·rename_i hi
   have h3:=(D4.1 hy).1
   simp only[B7,G1] at h3
   have ef:i=n:=by omega
   subst ef
   rw[h1,Q4] at hy
   cases hy
   exact hx
structure OkLaw{H:Type}(P:Program)(ok:TypeId→DataW H→Prop)(top:Nat)(wt:TypeId→Nat):Prop where
 str:∀{t:TypeId} {bs:List UInt8},ok t (.lit (.string bs))→bs.length≤top
 elem:∀{t e:TypeId} {elems rest:List (DataW H)} {d:DataW H},P.underlying t=some (.slice e)→ok t (.slice elems rest)→d∈elems→ok e d
 eV:∀{t e:TypeId} {elems rest:List (DataW H)},P.underlying t=some (.slice e)→ok t (.slice elems rest)→elems.length*wt e≤top
 field:∀{t:TypeId} {fs:Array Field} {parts:List (DataW H)} {j:Nat} {f:Field} {d:DataW H},P.underlying t=some (.struct fs)→ok t (.agg parts)→fs[j]? =some f→parts[j]? =some d→ok f.type d
 arr:∀{t e:TypeId} {n:Nat} {parts:List (DataW H)} {d:DataW H},P.underlying t=some (.array n e)→ok t (.agg parts)→d∈parts→ok e d
structure GoodG{α:Type}(enc:α→D0r)(size wt top:Nat)(h:Heap)(bR:α→Prop)(x:Slc×List α):Prop where
 row:e8 enc size h x.1 x.2
 bR:∀y∈x.2,bR y
 cap:x.1.cap≤maxLen
 reach:x.2.length*wt≤top
section
variable {H:Type} (ec:TypeId×Value→H) (P:Program) (w:World) (base:Nat) (sp:Nat→Bool) (held:Bool) (ok:TypeId→DataW H→Prop)
def RdG{α:Type}(t:TypeId)(enc:α→D0r)(bR:α→Prop):Prop:=
 ∀fuel cs y,DataW.trod ec P w base sp held fuel t cs=some y→ok t y.1→∃x,cs=enc x∧bR x
def RdF{α:Type}(fs:List Field)(o n:Nat)(enc:α→D0r)(bR:α→Prop):Prop:=
 ∀fuel (cs:D0r) (xs:List (DataW H×List MemPlace)),cs.length=n→xs.length=fs.length→
  (∀(j:Nat) f,fs[j]? =some f→DataW.trod ec P w base sp held fuel f.type ((cs.drop f.offset).take (P.cellsOf f.type))=xs[j]?)→
  (∀(j:Nat) f d,fs[j]? =some f→xs[j]? =some d→ok f.type d.1)→∃x,cs.drop o=enc x∧bR x
end
section
variable {H:Type} {ec:TypeId×Value→H} {P:Program} {w:World} {base:Nat} {sp:Nat→Bool} {held:Bool} {ok:TypeId→DataW H→Prop} {top:Nat} {wt:TypeId→Nat}
theorem rg_map{α β:Type}{t:TypeId}{enc:α→D0r}{bR:α→Prop}{enc':β→D0r}{good':β→Prop}(f:α→β)
  (h:RdG ec P w base sp held ok t enc bR)(he:∀x,enc x=enc' (f x))(hg:∀x,bR x→good' (f x)):RdG ec P w base sp held ok t enc' good':=fun fuel cs y hy hw=>by
 obtain⟨x,h1,h2⟩:=h fuel cs y hy hw
 exact⟨f x,h1.trans (he x),hg x h2⟩
theorem rg_int{t:TypeId}{k:IntKind}(ht:P.underlying t=some (.int k)):RdG ec P w base sp held ok t (fun x:Int=>[.int k x]) (fun x=>(Lit.int k x).wf=true):=fun _ _ _ h _=>by
 obtain⟨n,h1,_,h2⟩:=DataW.trod_int ht h
 exact⟨n,h1,h2⟩
theorem rg_bool{t:TypeId}(ht:P.underlying t=some .bool):RdG ec P w base sp held ok t (fun x:Bool=>[.bool x]) (fun _=>True):=fun _ _ _ h _=>by
 obtain⟨n,h1,_⟩:=DataW.trod_bool ht h
 exact⟨n,h1,trivial⟩
theorem rg_str(hk:OkLaw P ok top wt){t:TypeId}(ht:P.underlying t=some .string):RdG ec P w base sp held ok t (fun x:B4p=>[.string x]) (fun x=>x.size≤top):=fun _ _ _ h hw=>by
 obtain⟨n,h1,rfl,h2⟩:=DataW.trod_string ht h
 refine⟨n,h1,?_⟩
 have:=hk.str hw
 rwa[N6] at this
theorem rg_slice(hk:OkLaw P ok top wt){α:Type}{t e:TypeId}{enc:α→D0r}{bR:α→Prop}(ht:P.underlying t=some (.slice e)){size k:Nat}(hc:P.cellsOf e=size)(hb:wt e=k)(he:RdG ec P w base sp held ok e enc bR):
  RdG ec P w base sp held ok t (fun x:Slc×List α=>[.slice x.1.a x.1.len x.1.cap]) (GoodG enc size k top w.heap bR):=fun fuel cs y h hw=>by
 subst hc hb
 rcases DataW.trod_slice ht h with⟨rfl,_⟩|⟨a,len,cap,elems,rest,n,_,rfl,rfl,_,hl,hm,hlen,qS,_,_⟩
 ·exact⟨(⟨none,0,0⟩,[]),rfl,⟨rfl,D9 _,fun i x hx=>by simp at hx⟩,fun y hy=>by simp at hy,C9 _,by simp⟩
 ·have jr:∀i (hi:i<elems.length),ok e (elems[i]'hi).1:=fun i hi=>hk.elem ht hw (B4 (H6 hi))
  have uV:=hk.eV ht hw
  have h1:∀i,i<len→∃x,bR x∧∀j v,(enc x)[j]? =some v→W8 w.heap ((a.add (i*P.cellsOf e)).add j)=some v:=by
   intro i hi
   have h2:=qS i hi
   rw[B0 (by omega),Option.bind_eq_some_iff] at h2
   obtain⟨cs',h3,h4⟩:=h2
   obtain⟨x,rfl,hg⟩:=he _ _ _ h4 (jr i (by omega))
   obtain⟨_,h5,h6⟩:=World.cells?_some h3
   refine⟨x,hg,fun j v hv=>?_⟩
   rw[←B92,h6 j (by rw[←h5];exact(D4.1 hv).1)]
   exact hv
  obtain⟨xs,h2,h3⟩:=C3J len h1
  refine⟨(⟨some a,len,cap⟩,xs),rfl,⟨h2.symm,hl,fun i x hx=>⟨a,rfl,(h3 i x hx).2⟩⟩,fun y hy=>?_,hm,?_⟩
  ·obtain⟨i,hi⟩:=List.getElem?_of_mem hy
   exact(h3 i y hi).1
  ·simp only
   rw[C0] at uV
   rw[h2,←hlen]
   exact uV
theorem rf_cons{α β:Type}{f:Field}{fs:List Field}{o n:Nat}{c:Nat}{e0:α→D0r}{g0:α→Prop}{e1:β→D0r}{g1:β→Prop}(hc:P.cellsOf f.type=c)(ho:f.offset=o)
  (h0:RdG ec P w base sp held ok f.type e0 g0)(h1:RdF ec P w base sp held ok fs (o+c) n e1 g1):RdF ec P w base sp held ok (f::fs) o n (fun x:α×β=>e0 x.1++e1 x.2) (fun x=>g0 x.1∧g1 x.2):=fun fuel cs xs hl hx hf ag=>by
 subst hc ho
 cases xs with
 |nil=>simp at hx
 |cons y xs=>
  obtain⟨x0,c0,k0⟩:=h0 fuel _ y (hf 0 f rfl) (ag 0 f y rfl rfl)
  obtain⟨x1,c1,k1⟩:=h1 fuel cs xs hl (by simpa using hx) (fun j f' hj=>by have:=hf (j+1) f' (by simpa using hj);simpa using this) (fun j f' d hj hd=>ag (j+1) f' d (by simpa using hj) (by simpa using hd))
  refine⟨(x0,x1),?_,k0,k1⟩
  simp only[←c0,←c1]
  rw[←List.drop_drop,J0]
theorem rf_one{α:Type}{f:Field}{o n:Nat}{c:Nat}{e0:α→D0r}{g0:α→Prop}(hc:P.cellsOf f.type=c)(ho:f.offset=o)(hn:n≤o+c)
  (h0:RdG ec P w base sp held ok f.type e0 g0):RdF ec P w base sp held ok [f] o n e0 g0:=fun fuel cs xs hl hx hf ag=>by
 subst hc ho
 cases xs with
 |nil=>simp at hx
 |cons y xs=>
  obtain⟨x0,c0,k0⟩:=h0 fuel _ y (hf 0 f rfl) (ag 0 f y rfl rfl)
  refine⟨x0,?_,k0⟩
  rw[←c0,D1 (by rw[R3];omega)]
theorem rg_struct(hk:OkLaw P ok top wt){α:Type}{t:TypeId}{fs:Array Field}{n:Nat}{enc:α→D0r}{bR:α→Prop}(ht:P.underlying t=some (.struct fs))(hn:P.cellsOf t=n)(h:RdF ec P w base sp held ok fs.toList 0 n enc bR):
  RdG ec P w base sp held ok t enc bR:=fun fuel cs y hy hw=>by
 obtain⟨xs,m,_,rfl,hl,hx,hf⟩:=DataW.trod_struct ht hy
 obtain⟨x,h1,h2⟩:=h m cs xs (hl.trans hn) (by simpa using hx) (fun j f hj=>hf j f (by simpa using hj)) (fun j f d hj hd=>hk.field ht hw (by simpa using hj) (by rw[I9,hd];rfl))
 exact⟨x,by simpa using h1,h2⟩
end
end Go.R
namespace Go.Proofs
open Go.H
variable {H:Type} {enc:TypeId×Value→H}
end Go.Proofs
namespace Go.Proofs.YtidlldnlphdhcaaGreatDoor
open Go.H
open Go.Proofs.Tryz
open Go.H Go.Proofs
theorem C76{P:Program}{C:List Nat}{n:Nat}{live lc:List Nat}{f:FuncId}{fn:Func}{ks:List Kind}{args:D0r}{h:Heap}{Q:Value→Heap→Prop}{m:HM (s6 ks)}(hf:P.funcs[f]? =some fn)(hb:fn.body.isSome=true)(hn:fn.ntmps=n)(hlen:Nat.ble args.length n=true)
  (hC:∀f,f∈C→A1H P f)(hm:P.follows .mixedOrders=true)(he:C6E P C n live lc fn.results.toList ks (B66 fn) args=m)(hd:m h fun x h'=>Q (packed ks x) h'):V9 P f args.toArray h Q:=
 B2L hf hb hn hlen hC hm (he▸hd)
theorem C8r:prog.follows .mixedOrders=true:=by kernel_rfl
def HCs{α:Type}(f:Nat)(args:D0q)(m:HM α)(k:α→Value):Prop:=∀(h:Heap) (Q:Value→Heap→Prop),(m h fun x h'=>Q (k x) h')→V9 prog f args h Q
theorem cE{C:List Nat}{n:Nat}{f:FuncId}{fn:Func}{args:D0r}(ks:List Kind){m:HM (s6 ks)}(live lc:List Nat)(hf:prog.funcs[f]? =some fn)(hn:fn.ntmps=n)(hC:∀f,f∈C→A1H prog f)(he:C6E prog C n live lc fn.results.toList ks (B66 fn) args=m:=by kernel_rfl)(hb:fn.body.isSome=true:=by kernel_rfl)(hlen:Nat.ble args.length n=true:=by kernel_rfl):HCs f args.toArray m (packed ks):=fun h Q hd=>B2L hf hb hn hlen hC C8r (he▸hd)
theorem CN{P:Program}:∀f,f∈([]:List Nat)→A1H P f:=fun f hf=>by cases hf
theorem CC{P:Program}{a:Nat}{l:List Nat}(h:A1H P a)(hl:∀f,f∈l→A1H P f):∀f,f∈a::l→A1H P f:=fun f hf=>by
 rcases D3.1 hf with rfl|hf
 ·exact h
 ·exact hl f hf
abbrev tS0:List Tag:=[.int .i64,.int .i64,.int .i64,.bool,.bool,.int .i64,.int .i64,.str,.str,.int .u8,.slc,.slc,.str,.bool,.int .i64,.bool,.str,.str,.int .i64,.bool,.slc,.bool,.bool,.str,.str,.bool,.slc,.slc,.bool,.str,.str,.int .i64,.bool,.str]
abbrev yS0:Type:=Int×Int×Int×Bool×Bool×Int×Int×B4p×B4p×Int×Slc×Slc×B4p×Bool×Int×Bool×B4p×B4p×Int×Bool×Slc×Bool×Bool×B4p×B4p×Bool×Slc×Slc×Bool×B4p×B4p×Int×Bool×B4p×Unit
abbrev aS0(x:yS0):D0q:=#[.int .i64 x.1,.int .i64 x.2.1,.int .i64 x.2.2.1,.bool x.2.2.2.1,.bool x.2.2.2.2.1,.int .i64 x.2.2.2.2.2.1,.int .i64 x.2.2.2.2.2.2.1,.string x.2.2.2.2.2.2.2.1,.string x.2.2.2.2.2.2.2.2.1,.int .u8 x.2.2.2.2.2.2.2.2.2.1,.slice x.2.2.2.2.2.2.2.2.2.2.1.a x.2.2.2.2.2.2.2.2.2.2.1.len x.2.2.2.2.2.2.2.2.2.2.1.cap,.slice x.2.2.2.2.2.2.2.2.2.2.2.1.a x.2.2.2.2.2.2.2.2.2.2.2.1.len x.2.2.2.2.2.2.2.2.2.2.2.1.cap,.string x.2.2.2.2.2.2.2.2.2.2.2.2.1,.bool x.2.2.2.2.2.2.2.2.2.2.2.2.2.1,.int .i64 x.2.2.2.2.2.2.2.2.2.2.2.2.2.2.1,.bool x.2.2.2.2.2.2.2.2.2.2.2.2.2.2.2.1,.string x.2.2.2.2.2.2.2.2.2.2.2.2.2.2.2.2.1,.string x.2.2.2.2.2.2.2.2.2.2.2.2.2.2.2.2.2.1,.int .i64 x.2.2.2.2.2.2.2.2.2.2.2.2.2.2.2.2.2.2.1,.bool x.2.2.2.2.2.2.2.2.2.2.2.2.2.2.2.2.2.2.2.1,.slice x.2.2.2.2.2.2.2.2.2.2.2.2.2.2.2.2.2.2.2.2.1.a x.2.2.2.2.2.2.2.2.2.2.2.2.2.2.2.2.2.2.2.2.1.len x.2.2.2.2.2.2.2.2.2.2.2.2.2.2.2.2.2.2.2.2.1.cap,.bool x.2.2.2.2.2.2.2.2.2.2.2.2.2.2.2.2.2.2.2.2.2.1,.bool x.2.2.2.2.2.2.2.2.2.2.2.2.2.2.2.2.2.2.2.2.2.2.1,.string x.2.2.2.2.2.2.2.2.2.2.2.2.2.2.2.2.2.2.2.2.2.2.2.1,.string x.2.2.2.2.2.2.2.2.2.2.2.2.2.2.2.2.2.2.2.2.2.2.2.2.1,.bool x.2.2.2.2.2.2.2.2.2.2.2.2.2.2.2.2.2.2.2.2.2.2.2.2.2.1,.slice x.2.2.2.2.2.2.2.2.2.2.2.2.2.2.2.2.2.2.2.2.2.2.2.2.2.2.1.a x.2.2.2.2.2.2.2.2.2.2.2.2.2.2.2.2.2.2.2.2.2.2.2.2.2.2.1.len x.2.2.2.2.2.2.2.2.2.2.2.2.2.2.2.2.2.2.2.2.2.2.2.2.2.2.1.cap,.slice x.2.2.2.2.2.2.2.2.2.2.2.2.2.2.2.2.2.2.2.2.2.2.2.2.2.2.2.1.a x.2.2.2.2.2.2.2.2.2.2.2.2.2.2.2.2.2.2.2.2.2.2.2.2.2.2.2.1.len x.2.2.2.2.2.2.2.2.2.2.2.2.2.2.2.2.2.2.2.2.2.2.2.2.2.2.2.1.cap,.bool x.2.2.2.2.2.2.2.2.2.2.2.2.2.2.2.2.2.2.2.2.2.2.2.2.2.2.2.2.1,.string x.2.2.2.2.2.2.2.2.2.2.2.2.2.2.2.2.2.2.2.2.2.2.2.2.2.2.2.2.2.1,.string x.2.2.2.2.2.2.2.2.2.2.2.2.2.2.2.2.2.2.2.2.2.2.2.2.2.2.2.2.2.2.1,.int .i64 x.2.2.2.2.2.2.2.2.2.2.2.2.2.2.2.2.2.2.2.2.2.2.2.2.2.2.2.2.2.2.2.1,.bool x.2.2.2.2.2.2.2.2.2.2.2.2.2.2.2.2.2.2.2.2.2.2.2.2.2.2.2.2.2.2.2.2.1,.string x.2.2.2.2.2.2.2.2.2.2.2.2.2.2.2.2.2.2.2.2.2.2.2.2.2.2.2.2.2.2.2.2.2.1]
abbrev lS0(x:yS0):D0r:=[.int .i64 x.1,.int .i64 x.2.1,.int .i64 x.2.2.1,.bool x.2.2.2.1,.bool x.2.2.2.2.1,.int .i64 x.2.2.2.2.2.1,.int .i64 x.2.2.2.2.2.2.1,.string x.2.2.2.2.2.2.2.1,.string x.2.2.2.2.2.2.2.2.1,.int .u8 x.2.2.2.2.2.2.2.2.2.1,.slice x.2.2.2.2.2.2.2.2.2.2.1.a x.2.2.2.2.2.2.2.2.2.2.1.len x.2.2.2.2.2.2.2.2.2.2.1.cap,.slice x.2.2.2.2.2.2.2.2.2.2.2.1.a x.2.2.2.2.2.2.2.2.2.2.2.1.len x.2.2.2.2.2.2.2.2.2.2.2.1.cap,.string x.2.2.2.2.2.2.2.2.2.2.2.2.1,.bool x.2.2.2.2.2.2.2.2.2.2.2.2.2.1,.int .i64 x.2.2.2.2.2.2.2.2.2.2.2.2.2.2.1,.bool x.2.2.2.2.2.2.2.2.2.2.2.2.2.2.2.1,.string x.2.2.2.2.2.2.2.2.2.2.2.2.2.2.2.2.1,.string x.2.2.2.2.2.2.2.2.2.2.2.2.2.2.2.2.2.1,.int .i64 x.2.2.2.2.2.2.2.2.2.2.2.2.2.2.2.2.2.2.1,.bool x.2.2.2.2.2.2.2.2.2.2.2.2.2.2.2.2.2.2.2.1,.slice x.2.2.2.2.2.2.2.2.2.2.2.2.2.2.2.2.2.2.2.2.1.a x.2.2.2.2.2.2.2.2.2.2.2.2.2.2.2.2.2.2.2.2.1.len x.2.2.2.2.2.2.2.2.2.2.2.2.2.2.2.2.2.2.2.2.1.cap,.bool x.2.2.2.2.2.2.2.2.2.2.2.2.2.2.2.2.2.2.2.2.2.1,.bool x.2.2.2.2.2.2.2.2.2.2.2.2.2.2.2.2.2.2.2.2.2.2.1,.string x.2.2.2.2.2.2.2.2.2.2.2.2.2.2.2.2.2.2.2.2.2.2.2.1,.string x.2.2.2.2.2.2.2.2.2.2.2.2.2.2.2.2.2.2.2.2.2.2.2.2.1,.bool x.2.2.2.2.2.2.2.2.2.2.2.2.2.2.2.2.2.2.2.2.2.2.2.2.2.1,.slice x.2.2.2.2.2.2.2.2.2.2.2.2.2.2.2.2.2.2.2.2.2.2.2.2.2.2.1.a x.2.2.2.2.2.2.2.2.2.2.2.2.2.2.2.2.2.2.2.2.2.2.2.2.2.2.1.len x.2.2.2.2.2.2.2.2.2.2.2.2.2.2.2.2.2.2.2.2.2.2.2.2.2.2.1.cap,.slice x.2.2.2.2.2.2.2.2.2.2.2.2.2.2.2.2.2.2.2.2.2.2.2.2.2.2.2.1.a x.2.2.2.2.2.2.2.2.2.2.2.2.2.2.2.2.2.2.2.2.2.2.2.2.2.2.2.1.len x.2.2.2.2.2.2.2.2.2.2.2.2.2.2.2.2.2.2.2.2.2.2.2.2.2.2.2.1.cap,.bool x.2.2.2.2.2.2.2.2.2.2.2.2.2.2.2.2.2.2.2.2.2.2.2.2.2.2.2.2.1,.string x.2.2.2.2.2.2.2.2.2.2.2.2.2.2.2.2.2.2.2.2.2.2.2.2.2.2.2.2.2.1,.string x.2.2.2.2.2.2.2.2.2.2.2.2.2.2.2.2.2.2.2.2.2.2.2.2.2.2.2.2.2.2.1,.int .i64 x.2.2.2.2.2.2.2.2.2.2.2.2.2.2.2.2.2.2.2.2.2.2.2.2.2.2.2.2.2.2.2.1,.bool x.2.2.2.2.2.2.2.2.2.2.2.2.2.2.2.2.2.2.2.2.2.2.2.2.2.2.2.2.2.2.2.2.1,.string x.2.2.2.2.2.2.2.2.2.2.2.2.2.2.2.2.2.2.2.2.2.2.2.2.2.2.2.2.2.2.2.2.2.1]
abbrev zS0:D0q:=#[.int .i64 0,.int .i64 0,.int .i64 0,.bool false,.bool false,.int .i64 0,.int .i64 0,.string (ByteArray.mk #[]),.string (ByteArray.mk #[]),.int .u8 0,.slice none 0 0,.slice none 0 0,.string (ByteArray.mk #[]),.bool false,.int .i64 0,.bool false,.string (ByteArray.mk #[]),.string (ByteArray.mk #[]),.int .i64 0,.bool false,.slice none 0 0,.bool false,.bool false,.string (ByteArray.mk #[]),.string (ByteArray.mk #[]),.bool false,.slice none 0 0,.slice none 0 0,.bool false,.string (ByteArray.mk #[]),.string (ByteArray.mk #[]),.int .i64 0,.bool false,.string (ByteArray.mk #[])]
abbrev zS1:D0q:=#[.int .i64 0,.int .i64 0,.bool false,.bool false,.int .i64 0,.int .i64 0,.string (ByteArray.mk #[]),.string (ByteArray.mk #[]),.int .u8 0,.slice none 0 0,.slice none 0 0,.string (ByteArray.mk #[]),.bool false,.int .i64 0,.bool false,.string (ByteArray.mk #[]),.string (ByteArray.mk #[]),.int .i64 0,.bool false,.slice none 0 0,.bool false,.bool false,.string (ByteArray.mk #[]),.string (ByteArray.mk #[]),.bool false,.slice none 0 0,.slice none 0 0,.bool false]
abbrev tS2:List Tag:=[.int .i64,.bool,.bool,.int .i64,.int .i64,.str,.str,.int .i64,.slc,.slc,.str,.bool,.int .i64,.bool,.str,.str,.int .i64,.bool,.slc,.bool,.bool,.str,.str,.bool,.slc,.slc]
abbrev yS2:Type:=Int×Bool×Bool×Int×Int×B4p×B4p×Int×Slc×Slc×B4p×Bool×Int×Bool×B4p×B4p×Int×Bool×Slc×Bool×Bool×B4p×B4p×Bool×Slc×Slc×Unit
abbrev aS2(x:yS2):D0q:=#[.int .i64 x.1,.bool x.2.1,.bool x.2.2.1,.int .i64 x.2.2.2.1,.int .i64 x.2.2.2.2.1,.string x.2.2.2.2.2.1,.string x.2.2.2.2.2.2.1,.int .i64 x.2.2.2.2.2.2.2.1,.slice x.2.2.2.2.2.2.2.2.1.a x.2.2.2.2.2.2.2.2.1.len x.2.2.2.2.2.2.2.2.1.cap,.slice x.2.2.2.2.2.2.2.2.2.1.a x.2.2.2.2.2.2.2.2.2.1.len x.2.2.2.2.2.2.2.2.2.1.cap,.string x.2.2.2.2.2.2.2.2.2.2.1,.bool x.2.2.2.2.2.2.2.2.2.2.2.1,.int .i64 x.2.2.2.2.2.2.2.2.2.2.2.2.1,.bool x.2.2.2.2.2.2.2.2.2.2.2.2.2.1,.string x.2.2.2.2.2.2.2.2.2.2.2.2.2.2.1,.string x.2.2.2.2.2.2.2.2.2.2.2.2.2.2.2.1,.int .i64 x.2.2.2.2.2.2.2.2.2.2.2.2.2.2.2.2.1,.bool x.2.2.2.2.2.2.2.2.2.2.2.2.2.2.2.2.2.1,.slice x.2.2.2.2.2.2.2.2.2.2.2.2.2.2.2.2.2.2.1.a x.2.2.2.2.2.2.2.2.2.2.2.2.2.2.2.2.2.2.1.len x.2.2.2.2.2.2.2.2.2.2.2.2.2.2.2.2.2.2.1.cap,.bool x.2.2.2.2.2.2.2.2.2.2.2.2.2.2.2.2.2.2.2.1,.bool x.2.2.2.2.2.2.2.2.2.2.2.2.2.2.2.2.2.2.2.2.1,.string x.2.2.2.2.2.2.2.2.2.2.2.2.2.2.2.2.2.2.2.2.2.1,.string x.2.2.2.2.2.2.2.2.2.2.2.2.2.2.2.2.2.2.2.2.2.2.1,.bool x.2.2.2.2.2.2.2.2.2.2.2.2.2.2.2.2.2.2.2.2.2.2.2.1,.slice x.2.2.2.2.2.2.2.2.2.2.2.2.2.2.2.2.2.2.2.2.2.2.2.2.1.a x.2.2.2.2.2.2.2.2.2.2.2.2.2.2.2.2.2.2.2.2.2.2.2.2.1.len x.2.2.2.2.2.2.2.2.2.2.2.2.2.2.2.2.2.2.2.2.2.2.2.2.1.cap,.slice x.2.2.2.2.2.2.2.2.2.2.2.2.2.2.2.2.2.2.2.2.2.2.2.2.2.1.a x.2.2.2.2.2.2.2.2.2.2.2.2.2.2.2.2.2.2.2.2.2.2.2.2.2.1.len x.2.2.2.2.2.2.2.2.2.2.2.2.2.2.2.2.2.2.2.2.2.2.2.2.2.1.cap]
abbrev lS2(x:yS2):D0r:=[.int .i64 x.1,.bool x.2.1,.bool x.2.2.1,.int .i64 x.2.2.2.1,.int .i64 x.2.2.2.2.1,.string x.2.2.2.2.2.1,.string x.2.2.2.2.2.2.1,.int .i64 x.2.2.2.2.2.2.2.1,.slice x.2.2.2.2.2.2.2.2.1.a x.2.2.2.2.2.2.2.2.1.len x.2.2.2.2.2.2.2.2.1.cap,.slice x.2.2.2.2.2.2.2.2.2.1.a x.2.2.2.2.2.2.2.2.2.1.len x.2.2.2.2.2.2.2.2.2.1.cap,.string x.2.2.2.2.2.2.2.2.2.2.1,.bool x.2.2.2.2.2.2.2.2.2.2.2.1,.int .i64 x.2.2.2.2.2.2.2.2.2.2.2.2.1,.bool x.2.2.2.2.2.2.2.2.2.2.2.2.2.1,.string x.2.2.2.2.2.2.2.2.2.2.2.2.2.2.1,.string x.2.2.2.2.2.2.2.2.2.2.2.2.2.2.2.1,.int .i64 x.2.2.2.2.2.2.2.2.2.2.2.2.2.2.2.2.1,.bool x.2.2.2.2.2.2.2.2.2.2.2.2.2.2.2.2.2.1,.slice x.2.2.2.2.2.2.2.2.2.2.2.2.2.2.2.2.2.2.1.a x.2.2.2.2.2.2.2.2.2.2.2.2.2.2.2.2.2.2.1.len x.2.2.2.2.2.2.2.2.2.2.2.2.2.2.2.2.2.2.1.cap,.bool x.2.2.2.2.2.2.2.2.2.2.2.2.2.2.2.2.2.2.2.1,.bool x.2.2.2.2.2.2.2.2.2.2.2.2.2.2.2.2.2.2.2.2.1,.string x.2.2.2.2.2.2.2.2.2.2.2.2.2.2.2.2.2.2.2.2.2.1,.string x.2.2.2.2.2.2.2.2.2.2.2.2.2.2.2.2.2.2.2.2.2.2.1,.bool x.2.2.2.2.2.2.2.2.2.2.2.2.2.2.2.2.2.2.2.2.2.2.2.1,.slice x.2.2.2.2.2.2.2.2.2.2.2.2.2.2.2.2.2.2.2.2.2.2.2.2.1.a x.2.2.2.2.2.2.2.2.2.2.2.2.2.2.2.2.2.2.2.2.2.2.2.2.1.len x.2.2.2.2.2.2.2.2.2.2.2.2.2.2.2.2.2.2.2.2.2.2.2.2.1.cap,.slice x.2.2.2.2.2.2.2.2.2.2.2.2.2.2.2.2.2.2.2.2.2.2.2.2.2.1.a x.2.2.2.2.2.2.2.2.2.2.2.2.2.2.2.2.2.2.2.2.2.2.2.2.2.1.len x.2.2.2.2.2.2.2.2.2.2.2.2.2.2.2.2.2.2.2.2.2.2.2.2.2.1.cap]
abbrev zS2:D0q:=#[.int .i64 0,.bool false,.bool false,.int .i64 0,.int .i64 0,.string (ByteArray.mk #[]),.string (ByteArray.mk #[]),.int .i64 0,.slice none 0 0,.slice none 0 0,.string (ByteArray.mk #[]),.bool false,.int .i64 0,.bool false,.string (ByteArray.mk #[]),.string (ByteArray.mk #[]),.int .i64 0,.bool false,.slice none 0 0,.bool false,.bool false,.string (ByteArray.mk #[]),.string (ByteArray.mk #[]),.bool false,.slice none 0 0,.slice none 0 0]
abbrev tS3:List Tag:=[.int .i64,.bool,.bool,.int .i64,.int .i64,.str,.str,.int .u8,.slc,.slc,.str,.bool,.int .i64,.bool,.str,.str,.int .i64,.bool,.slc,.bool,.bool,.str,.str,.bool,.slc,.slc]
abbrev yS3:Type:=Int×Bool×Bool×Int×Int×B4p×B4p×Int×Slc×Slc×B4p×Bool×Int×Bool×B4p×B4p×Int×Bool×Slc×Bool×Bool×B4p×B4p×Bool×Slc×Slc×Unit
abbrev aS3(x:yS3):D0q:=#[.int .i64 x.1,.bool x.2.1,.bool x.2.2.1,.int .i64 x.2.2.2.1,.int .i64 x.2.2.2.2.1,.string x.2.2.2.2.2.1,.string x.2.2.2.2.2.2.1,.int .u8 x.2.2.2.2.2.2.2.1,.slice x.2.2.2.2.2.2.2.2.1.a x.2.2.2.2.2.2.2.2.1.len x.2.2.2.2.2.2.2.2.1.cap,.slice x.2.2.2.2.2.2.2.2.2.1.a x.2.2.2.2.2.2.2.2.2.1.len x.2.2.2.2.2.2.2.2.2.1.cap,.string x.2.2.2.2.2.2.2.2.2.2.1,.bool x.2.2.2.2.2.2.2.2.2.2.2.1,.int .i64 x.2.2.2.2.2.2.2.2.2.2.2.2.1,.bool x.2.2.2.2.2.2.2.2.2.2.2.2.2.1,.string x.2.2.2.2.2.2.2.2.2.2.2.2.2.2.1,.string x.2.2.2.2.2.2.2.2.2.2.2.2.2.2.2.1,.int .i64 x.2.2.2.2.2.2.2.2.2.2.2.2.2.2.2.2.1,.bool x.2.2.2.2.2.2.2.2.2.2.2.2.2.2.2.2.2.1,.slice x.2.2.2.2.2.2.2.2.2.2.2.2.2.2.2.2.2.2.1.a x.2.2.2.2.2.2.2.2.2.2.2.2.2.2.2.2.2.2.1.len x.2.2.2.2.2.2.2.2.2.2.2.2.2.2.2.2.2.2.1.cap,.bool x.2.2.2.2.2.2.2.2.2.2.2.2.2.2.2.2.2.2.2.1,.bool x.2.2.2.2.2.2.2.2.2.2.2.2.2.2.2.2.2.2.2.2.1,.string x.2.2.2.2.2.2.2.2.2.2.2.2.2.2.2.2.2.2.2.2.2.1,.string x.2.2.2.2.2.2.2.2.2.2.2.2.2.2.2.2.2.2.2.2.2.2.1,.bool x.2.2.2.2.2.2.2.2.2.2.2.2.2.2.2.2.2.2.2.2.2.2.2.1,.slice x.2.2.2.2.2.2.2.2.2.2.2.2.2.2.2.2.2.2.2.2.2.2.2.2.1.a x.2.2.2.2.2.2.2.2.2.2.2.2.2.2.2.2.2.2.2.2.2.2.2.2.1.len x.2.2.2.2.2.2.2.2.2.2.2.2.2.2.2.2.2.2.2.2.2.2.2.2.1.cap,.slice x.2.2.2.2.2.2.2.2.2.2.2.2.2.2.2.2.2.2.2.2.2.2.2.2.2.1.a x.2.2.2.2.2.2.2.2.2.2.2.2.2.2.2.2.2.2.2.2.2.2.2.2.2.1.len x.2.2.2.2.2.2.2.2.2.2.2.2.2.2.2.2.2.2.2.2.2.2.2.2.2.1.cap]
abbrev lS3(x:yS3):D0r:=[.int .i64 x.1,.bool x.2.1,.bool x.2.2.1,.int .i64 x.2.2.2.1,.int .i64 x.2.2.2.2.1,.string x.2.2.2.2.2.1,.string x.2.2.2.2.2.2.1,.int .u8 x.2.2.2.2.2.2.2.1,.slice x.2.2.2.2.2.2.2.2.1.a x.2.2.2.2.2.2.2.2.1.len x.2.2.2.2.2.2.2.2.1.cap,.slice x.2.2.2.2.2.2.2.2.2.1.a x.2.2.2.2.2.2.2.2.2.1.len x.2.2.2.2.2.2.2.2.2.1.cap,.string x.2.2.2.2.2.2.2.2.2.2.1,.bool x.2.2.2.2.2.2.2.2.2.2.2.1,.int .i64 x.2.2.2.2.2.2.2.2.2.2.2.2.1,.bool x.2.2.2.2.2.2.2.2.2.2.2.2.2.1,.string x.2.2.2.2.2.2.2.2.2.2.2.2.2.2.1,.string x.2.2.2.2.2.2.2.2.2.2.2.2.2.2.2.1,.int .i64 x.2.2.2.2.2.2.2.2.2.2.2.2.2.2.2.2.1,.bool x.2.2.2.2.2.2.2.2.2.2.2.2.2.2.2.2.2.1,.slice x.2.2.2.2.2.2.2.2.2.2.2.2.2.2.2.2.2.2.1.a x.2.2.2.2.2.2.2.2.2.2.2.2.2.2.2.2.2.2.1.len x.2.2.2.2.2.2.2.2.2.2.2.2.2.2.2.2.2.2.1.cap,.bool x.2.2.2.2.2.2.2.2.2.2.2.2.2.2.2.2.2.2.2.1,.bool x.2.2.2.2.2.2.2.2.2.2.2.2.2.2.2.2.2.2.2.2.1,.string x.2.2.2.2.2.2.2.2.2.2.2.2.2.2.2.2.2.2.2.2.2.1,.string x.2.2.2.2.2.2.2.2.2.2.2.2.2.2.2.2.2.2.2.2.2.2.1,.bool x.2.2.2.2.2.2.2.2.2.2.2.2.2.2.2.2.2.2.2.2.2.2.2.1,.slice x.2.2.2.2.2.2.2.2.2.2.2.2.2.2.2.2.2.2.2.2.2.2.2.2.1.a x.2.2.2.2.2.2.2.2.2.2.2.2.2.2.2.2.2.2.2.2.2.2.2.2.1.len x.2.2.2.2.2.2.2.2.2.2.2.2.2.2.2.2.2.2.2.2.2.2.2.2.1.cap,.slice x.2.2.2.2.2.2.2.2.2.2.2.2.2.2.2.2.2.2.2.2.2.2.2.2.2.1.a x.2.2.2.2.2.2.2.2.2.2.2.2.2.2.2.2.2.2.2.2.2.2.2.2.2.1.len x.2.2.2.2.2.2.2.2.2.2.2.2.2.2.2.2.2.2.2.2.2.2.2.2.2.1.cap]
abbrev zS3:D0q:=#[.int .i64 0,.bool false,.bool false,.int .i64 0,.int .i64 0,.string (ByteArray.mk #[]),.string (ByteArray.mk #[]),.int .u8 0,.slice none 0 0,.slice none 0 0,.string (ByteArray.mk #[]),.bool false,.int .i64 0,.bool false,.string (ByteArray.mk #[]),.string (ByteArray.mk #[]),.int .i64 0,.bool false,.slice none 0 0,.bool false,.bool false,.string (ByteArray.mk #[]),.string (ByteArray.mk #[]),.bool false,.slice none 0 0,.slice none 0 0]
abbrev tS4:List Tag:=[.int .i64,.bool,.str,.str,.int .i64,.bool,.str]
abbrev yS4:Type:=Int×Bool×B4p×B4p×Int×Bool×B4p×Unit
abbrev lS4(x:yS4):D0r:=[.int .i64 x.1,.bool x.2.1,.string x.2.2.1,.string x.2.2.2.1,.int .i64 x.2.2.2.2.1,.bool x.2.2.2.2.2.1,.string x.2.2.2.2.2.2.1]
abbrev zS4:D0q:=#[.int .i64 0,.bool false,.string (ByteArray.mk #[]),.string (ByteArray.mk #[]),.int .i64 0,.bool false,.string (ByteArray.mk #[])]
abbrev tS5:List Tag:=[.int .i64,.str,.str,.int .i64,.bool,.str,.bool]
abbrev yS5:Type:=Int×B4p×B4p×Int×Bool×B4p×Bool×Unit
abbrev aS5(x:yS5):D0q:=#[.int .i64 x.1,.string x.2.1,.string x.2.2.1,.int .i64 x.2.2.2.1,.bool x.2.2.2.2.1,.string x.2.2.2.2.2.1,.bool x.2.2.2.2.2.2.1]
abbrev lS5(x:yS5):D0r:=[.int .i64 x.1,.string x.2.1,.string x.2.2.1,.int .i64 x.2.2.2.1,.bool x.2.2.2.2.1,.string x.2.2.2.2.2.1,.bool x.2.2.2.2.2.2.1]
abbrev zS5:D0q:=#[.int .i64 0,.string (ByteArray.mk #[]),.string (ByteArray.mk #[]),.int .i64 0,.bool false,.string (ByteArray.mk #[]),.bool false]
abbrev tS6:List Tag:=[.str,.int .i64,.bool,.bool,.int .i64]
abbrev yS6:Type:=B4p×Int×Bool×Bool×Int×Unit
abbrev aS6(x:yS6):D0q:=#[.string x.1,.int .i64 x.2.1,.bool x.2.2.1,.bool x.2.2.2.1,.int .i64 x.2.2.2.2.1]
abbrev lS6(x:yS6):D0r:=[.string x.1,.int .i64 x.2.1,.bool x.2.2.1,.bool x.2.2.2.1,.int .i64 x.2.2.2.2.1]
abbrev zS6:D0q:=#[.string (ByteArray.mk #[]),.int .i64 0,.bool false,.bool false,.int .i64 0]
abbrev tS7:List Tag:=[.str,.str,.int .i64,.bool,.str]
abbrev yS7:Type:=B4p×B4p×Int×Bool×B4p×Unit
abbrev aS7(x:yS7):D0q:=#[.string x.1,.string x.2.1,.int .i64 x.2.2.1,.bool x.2.2.2.1,.string x.2.2.2.2.1]
abbrev lS7(x:yS7):D0r:=[.string x.1,.string x.2.1,.int .i64 x.2.2.1,.bool x.2.2.2.1,.string x.2.2.2.2.1]
abbrev zS7:D0q:=#[.string (ByteArray.mk #[]),.string (ByteArray.mk #[]),.int .i64 0,.bool false,.string (ByteArray.mk #[])]
abbrev tS8:List Tag:=[.int .i64,.int .i64,.str,.str]
abbrev yS8:Type:=Int×Int×B4p×B4p×Unit
abbrev aS8(x:yS8):D0q:=#[.int .i64 x.1,.int .i64 x.2.1,.string x.2.2.1,.string x.2.2.2.1]
abbrev lS8(x:yS8):D0r:=[.int .i64 x.1,.int .i64 x.2.1,.string x.2.2.1,.string x.2.2.2.1]
abbrev zS8:D0q:=#[.int .i64 0,.int .i64 0,.string (ByteArray.mk #[]),.string (ByteArray.mk #[])]
abbrev tS9:List Tag:=[.int .i64,.str,.bool,.bool]
abbrev yS9:Type:=Int×B4p×Bool×Bool×Unit
abbrev aS9(x:yS9):D0q:=#[.int .i64 x.1,.string x.2.1,.bool x.2.2.1,.bool x.2.2.2.1]
abbrev lS9(x:yS9):D0r:=[.int .i64 x.1,.string x.2.1,.bool x.2.2.1,.bool x.2.2.2.1]
abbrev zS9:D0q:=#[.int .i64 0,.string (ByteArray.mk #[]),.bool false,.bool false]
open Go.Proofs.Tryz
def ad(a n:Nat):=Addr.add ⟨a,0,none⟩ n
def az(a:Nat):Addr:=⟨a,0,none⟩
def bn{α β}(m:HM α)(f:α→HM β):=HM.bind m f
def cb{β}(n:Nat)(l:D0q)(f:Bool→HM β):=HM.bind (α:=Bool) (A1C prog (.one .bool) n l) f
def cc{β}(n:Nat)(l:D0q)(f:Slc→HM β):=HM.bind (α:=Slc) (A1C prog (.one .slc) n l) f
def ci{β}(n:Nat)(l:D0q)(f:Int→HM β):=HM.bind (α:=Int) (A1C prog (.one (.int .i64)) n l) f
def cp{β}(n:Nat)(l:D0q)(f:D0p→HM β):=HM.bind (α:=D0p) (A1C prog (.one .ptr) n l) f
def ct{β}(n:Nat)(l:D0q)(f:B4p→HM β):=HM.bind (α:=B4p) (A1C prog (.one .str) n l) f
def cu{β}(n:Nat)(l:D0q)(f:Int→HM β):=HM.bind (α:=Int) (A1C prog (.one (.int .u8)) n l) f
def cx{β}(n:Nat)(l:D0q)(f:Unit→HM β):=HM.bind (α:=Unit) (u9 prog [] n l) f
def es:=ByteArray.mk #[]
def g0{β}(a:Addr)(f:yS0→HM β):=HM.bind (α:=yS0) (o9 tS0 a) f
def g2{β}(a:Addr)(f:yS2→HM β):=HM.bind (α:=yS2) (o9 tS2 a) f
def A1h{β}(a:Addr)(f:yS2→HM β):=HM.bind (α:=yS2) (o9 tS3 a) f
def g5{β}(a:Addr)(f:yS5→HM β):=HM.bind (α:=yS5) (o9 tS5 a) f
def g6{β}(a:Addr)(f:yS6→HM β):=HM.bind (α:=yS6) (o9 tS6 a) f
def g7{β}(a:Addr)(f:yS7→HM β):=HM.bind (α:=yS7) (o9 tS7 a) f
def g8{β}(a:Addr)(f:yS8→HM β):=HM.bind (α:=yS8) (o9 tS8 a) f
def g9{β}(a:Addr)(f:yS9→HM β):=HM.bind (α:=yS9) (o9 tS9 a) f
def ie{α}(c:Bool)(a b:HM α):=A1G c a b
def ix{β}(s:Slc)(i:Int)(w:Nat)(f:Addr→HM β):=HM.bind (α:=Addr) (A4F s.a s.len i w) f
def jb{β}(a n:Nat)(f:Bool→HM β):=HM.bind (α:=Bool) (r7 .bool (Addr.add ⟨a,0,none⟩ n)) f
def jc{β}(a n:Nat)(f:Slc→HM β):=HM.bind (α:=Slc) (r7 .slc (Addr.add ⟨a,0,none⟩ n)) f
def ji{β}(a n:Nat)(f:Int→HM β):=HM.bind (α:=Int) (r7 (.int .i64) (Addr.add ⟨a,0,none⟩ n)) f
def jt{β}(a n:Nat)(f:B4p→HM β):=HM.bind (α:=B4p) (r7 .str (Addr.add ⟨a,0,none⟩ n)) f
def ju{β}(a n:Nat)(f:Int→HM β):=HM.bind (α:=Int) (r7 (.int .u8) (Addr.add ⟨a,0,none⟩ n)) f
def kb{β}(a:Addr)(n:Nat)(f:Bool→HM β):=HM.bind (α:=Bool) (r7 .bool (Addr.add a n)) f
def kc{β}(a:Addr)(n:Nat)(f:Slc→HM β):=HM.bind (α:=Slc) (r7 .slc (Addr.add a n)) f
def ki{β}(a:Addr)(n:Nat)(f:Int→HM β):=HM.bind (α:=Int) (r7 (.int .i64) (Addr.add a n)) f
def km{β}(a:Addr)(n:Nat)(f:Option Nat→HM β):=HM.bind (α:=Option Nat) (r7 .map (Addr.add a n)) f
def kp{β}(a:Addr)(n:Nat)(f:D0p→HM β):=HM.bind (α:=D0p) (r7 .ptr (Addr.add a n)) f
def kt{β}(a:Addr)(n:Nat)(f:B4p→HM β):=HM.bind (α:=B4p) (r7 .str (Addr.add a n)) f
def ku{β}(a:Addr)(n:Nat)(f:Int→HM β):=HM.bind (α:=Int) (r7 (.int .u8) (Addr.add a n)) f
def lc{β}(a:Addr)(f:Slc→HM β):=HM.bind (α:=Slc) (r7 .slc a) f
def li{β}(a:Addr)(f:Int→HM β):=HM.bind (α:=Int) (r7 (.int .i64) a) f
def lm{β}(a:Addr)(f:Option Nat→HM β):=HM.bind (α:=Option Nat) (r7 .map a) f
def lp{β}(a:Addr)(f:D0p→HM β):=HM.bind (α:=D0p) (r7 .ptr a) f
def lt{β}(a:Addr)(f:B4p→HM β):=HM.bind (α:=B4p) (r7 .str a) f
def lu{β}(a:Addr)(f:Int→HM β):=HM.bind (α:=Int) (r7 (.int .u8) a) f
def nn{β}(p:D0p)(f:Addr→HM β):=HM.bind (α:=Addr) (A8H p) f
def nw{β}(z:D0q)(t:Nat)(f:Nat→HM β):=HM.bind (α:=Nat) (HM.new (.cells z t)) f
def pu{α}(x:α):=X8 x
def rq{β}(v w:Value)(m:HM β):=A3z (v=w) m
def sn{β}(a:Nat)(l:D0r)(f:Unit→HM β):=HM.bind (α:=Unit) (B0I ⟨a,0,none⟩ l) f
def so{β}(a:Addr)(l:D0r)(f:Unit→HM β):=HM.bind (α:=Unit) (B0I a l) f
def sw{β}(a n:Nat)(v:Value)(f:Unit→HM β):=HM.bind (α:=Unit) (A7v (Addr.add ⟨a,0,none⟩ n) v) f
def sx{β}(a:Addr)(v:Value)(f:Unit→HM β):=HM.bind (α:=Unit) (A7v a v) f
def ve:Value:=.string (ByteArray.mk #[])
def vi(x:Int):Value:=.int .i64 x
def vs(s:Slc):Value:=.slice s.a s.len s.cap
def vz:Value:=.slice none 0 0
def w10{A0 A1 A2 A3 A4 A5 A6 A7 A8 A9 A10 A11:Type}(x:A0×A1×A2×A3×A4×A5×A6×A7×A8×A9×A10×A11):=x.2.2.2.2.2.2.2.2.2.2.1
def w11{A0 A1 A2 A3 A4 A5 A6 A7 A8 A9 A10 A11 A12:Type}(x:A0×A1×A2×A3×A4×A5×A6×A7×A8×A9×A10×A11×A12):=x.2.2.2.2.2.2.2.2.2.2.2.1
def w12{A0 A1 A2 A3 A4 A5 A6 A7 A8 A9 A10 A11 A12 A13:Type}(x:A0×A1×A2×A3×A4×A5×A6×A7×A8×A9×A10×A11×A12×A13):=x.2.2.2.2.2.2.2.2.2.2.2.2.1
def w13{A0 A1 A2 A3 A4 A5 A6 A7 A8 A9 A10 A11 A12 A13 A14:Type}(x:A0×A1×A2×A3×A4×A5×A6×A7×A8×A9×A10×A11×A12×A13×A14):=x.2.2.2.2.2.2.2.2.2.2.2.2.2.1
def w14{A0 A1 A2 A3 A4 A5 A6 A7 A8 A9 A10 A11 A12 A13 A14 A15:Type}(x:A0×A1×A2×A3×A4×A5×A6×A7×A8×A9×A10×A11×A12×A13×A14×A15):=x.2.2.2.2.2.2.2.2.2.2.2.2.2.2.1
def w15{A0 A1 A2 A3 A4 A5 A6 A7 A8 A9 A10 A11 A12 A13 A14 A15 A16:Type}(x:A0×A1×A2×A3×A4×A5×A6×A7×A8×A9×A10×A11×A12×A13×A14×A15×A16):=x.2.2.2.2.2.2.2.2.2.2.2.2.2.2.2.1
def w16{A0 A1 A2 A3 A4 A5 A6 A7 A8 A9 A10 A11 A12 A13 A14 A15 A16 A17:Type}(x:A0×A1×A2×A3×A4×A5×A6×A7×A8×A9×A10×A11×A12×A13×A14×A15×A16×A17):=x.2.2.2.2.2.2.2.2.2.2.2.2.2.2.2.2.1
def w17{A0 A1 A2 A3 A4 A5 A6 A7 A8 A9 A10 A11 A12 A13 A14 A15 A16 A17 A18:Type}(x:A0×A1×A2×A3×A4×A5×A6×A7×A8×A9×A10×A11×A12×A13×A14×A15×A16×A17×A18):=x.2.2.2.2.2.2.2.2.2.2.2.2.2.2.2.2.2.1
def w18{A0 A1 A2 A3 A4 A5 A6 A7 A8 A9 A10 A11 A12 A13 A14 A15 A16 A17 A18 A19:Type}(x:A0×A1×A2×A3×A4×A5×A6×A7×A8×A9×A10×A11×A12×A13×A14×A15×A16×A17×A18×A19):=x.2.2.2.2.2.2.2.2.2.2.2.2.2.2.2.2.2.2.1
def w19{A0 A1 A2 A3 A4 A5 A6 A7 A8 A9 A10 A11 A12 A13 A14 A15 A16 A17 A18 A19 A20:Type}(x:A0×A1×A2×A3×A4×A5×A6×A7×A8×A9×A10×A11×A12×A13×A14×A15×A16×A17×A18×A19×A20):=x.2.2.2.2.2.2.2.2.2.2.2.2.2.2.2.2.2.2.2.1
def w20{A0 A1 A2 A3 A4 A5 A6 A7 A8 A9 A10 A11 A12 A13 A14 A15 A16 A17 A18 A19 A20 A21:Type}(x:A0×A1×A2×A3×A4×A5×A6×A7×A8×A9×A10×A11×A12×A13×A14×A15×A16×A17×A18×A19×A20×A21):=x.2.2.2.2.2.2.2.2.2.2.2.2.2.2.2.2.2.2.2.2.1
def w21{A0 A1 A2 A3 A4 A5 A6 A7 A8 A9 A10 A11 A12 A13 A14 A15 A16 A17 A18 A19 A20 A21 A22:Type}(x:A0×A1×A2×A3×A4×A5×A6×A7×A8×A9×A10×A11×A12×A13×A14×A15×A16×A17×A18×A19×A20×A21×A22):=x.2.2.2.2.2.2.2.2.2.2.2.2.2.2.2.2.2.2.2.2.2.1
def w22{A0 A1 A2 A3 A4 A5 A6 A7 A8 A9 A10 A11 A12 A13 A14 A15 A16 A17 A18 A19 A20 A21 A22 A23:Type}(x:A0×A1×A2×A3×A4×A5×A6×A7×A8×A9×A10×A11×A12×A13×A14×A15×A16×A17×A18×A19×A20×A21×A22×A23):=x.2.2.2.2.2.2.2.2.2.2.2.2.2.2.2.2.2.2.2.2.2.2.1
def w23{A0 A1 A2 A3 A4 A5 A6 A7 A8 A9 A10 A11 A12 A13 A14 A15 A16 A17 A18 A19 A20 A21 A22 A23 A24:Type}(x:A0×A1×A2×A3×A4×A5×A6×A7×A8×A9×A10×A11×A12×A13×A14×A15×A16×A17×A18×A19×A20×A21×A22×A23×A24):=x.2.2.2.2.2.2.2.2.2.2.2.2.2.2.2.2.2.2.2.2.2.2.2.1
def w24{A0 A1 A2 A3 A4 A5 A6 A7 A8 A9 A10 A11 A12 A13 A14 A15 A16 A17 A18 A19 A20 A21 A22 A23 A24 A25:Type}(x:A0×A1×A2×A3×A4×A5×A6×A7×A8×A9×A10×A11×A12×A13×A14×A15×A16×A17×A18×A19×A20×A21×A22×A23×A24×A25):=x.2.2.2.2.2.2.2.2.2.2.2.2.2.2.2.2.2.2.2.2.2.2.2.2.1
def w25{A0 A1 A2 A3 A4 A5 A6 A7 A8 A9 A10 A11 A12 A13 A14 A15 A16 A17 A18 A19 A20 A21 A22 A23 A24 A25 A26:Type}(x:A0×A1×A2×A3×A4×A5×A6×A7×A8×A9×A10×A11×A12×A13×A14×A15×A16×A17×A18×A19×A20×A21×A22×A23×A24×A25×A26):=x.2.2.2.2.2.2.2.2.2.2.2.2.2.2.2.2.2.2.2.2.2.2.2.2.2.1
def w5{A0 A1 A2 A3 A4 A5 A6:Type}(x:A0×A1×A2×A3×A4×A5×A6):=x.2.2.2.2.2.1
def w6{A0 A1 A2 A3 A4 A5 A6 A7:Type}(x:A0×A1×A2×A3×A4×A5×A6×A7):=x.2.2.2.2.2.2.1
def w7{A0 A1 A2 A3 A4 A5 A6 A7 A8:Type}(x:A0×A1×A2×A3×A4×A5×A6×A7×A8):=x.2.2.2.2.2.2.2.1
def w8{A0 A1 A2 A3 A4 A5 A6 A7 A8 A9:Type}(x:A0×A1×A2×A3×A4×A5×A6×A7×A8×A9):=x.2.2.2.2.2.2.2.2.1
def w9{A0 A1 A2 A3 A4 A5 A6 A7 A8 A9 A10:Type}(x:A0×A1×A2×A3×A4×A5×A6×A7×A8×A9×A10):=x.2.2.2.2.2.2.2.2.2.1
def wi(x:Int):=IntKind.wrap .i64 x
def A6c(p0:Slc):HM (Bool×Unit):=
 cp 9 #[] fun a=>cp 21 #[] fun b=>cb 10 #[] fun c=>ie (!c) (pu (false,())) (bn (α:=Slc) (HM.slice p0 none (some (if 60<(p0.len:Int) then 60 else(p0.len:Int))) none 34) fun d=>bn (α:=(Int×Unit)⊕(Bool×
 Unit)) (HM.loop (σ:=Int×Unit) (τ:=(Int×Unit)⊕(Bool×Unit)) (fun e=>ie (decide (e.1<(d.len:Int))) (ix d e.1 34 fun f=>g0 f fun g=>nw zS0 62 fun h=>sn h (lS0 g) fun _=>bn (α:=Bool×Unit) (g0 (az h) fun
 i=>cb 22 #[.pointer a,.pointer b,.agg (aS0 i)] fun j=>ie (!j) (pu (true,())) (cb 23 #[.pointer a,.pointer b] fun k=>pu (!k,()))) fun l=>ie l.1 (pu (.inr (.inr (false,())))) (pu (.inl (wi (e.1+1),())))) (pu (.inr
 (.inl (e.1,()))))) (0,())) (Sum.elim (fun m=>pu (true,())) X8))
theorem A7g(p0:Slc):HCs 7 #[.slice p0.a p0.len p0.cap] (A6c p0) fun x=>.bool x.1:=
 cE [.one .bool] [0,2,3,4,6,10,15,16,17,18,31] [0,3,4,6,10,15,16,17,18,31] func7 ntmps7 (CC call9 (CC call21 (CC call10 (CC call22 (CC call23 CN)))))
def B65:HM (D0p×Unit):=
 cp 27 #[] fun a=>cp 28 #[] fun b=>cp 29 #[vi 64] fun c=>bn (α:=Nat) (HM.new (.map #[] 0)) fun d=>nw #[.pointer a,.pointer b,.pointer c,.map (some d)] 104 fun e=>pu (some (az e),())
theorem B3N:HCs 9 #[] (B65) fun x=>.pointer x.1:=
 cE [.one .ptr] [0] [] func9 ntmps9 (CC call27 (CC call28 (CC call29 CN)))
def B4k:HM (Bool×Unit):=
 cp 9 #[] fun a=>bn (α:=Bool×Unit) (nw #[.string (ByteArray.mk #[97,47,43]),vi 1,.bool false,.bool false,vi 0,.string (ByteArray.mk #[35]),vi 0,.bool false,.bool false,vi 0] 47 fun b=>cb 11 #[.pointer a,
 vi 1,.string (ByteArray.mk #[99]),.slice (some (az b)) 2 2] fun c=>ie (!c) (pu (true,())) (cb 11 #[.pointer a,vi 2,.string (ByteArray.mk #[100]),vz] fun d=>pu (!d,()))) fun e=>ie e.1 (pu (false,())) (bn (α:=Slc
 ×Slc×Unit) (A1C prog (.agg [.slc,.slc]) 13 #[.pointer a,vi 2,.agg #[vi 3,.bool false,.bool false,vi 2,vi 9,.string (ByteArray.mk #[97,47,98]),.string (ByteArray.mk #[120]),.int .u8 0,vz,vz,ve,
 .bool false,vi 0,.bool false,ve,ve,vi 0,.bool false,vz,.bool false,.bool false,ve,ve,.bool false,vz,vz],.bool false]) fun f=>nw #[vz,vz] 35 fun g=>sn g [vs f.1,vs f.2.1] fun _=>bn (α:=Bool×Unit) (jc
 g 0 fun h=>ie ((h.len:Int)==2) (jc g 0 fun i=>ix i 0 28 fun j=>ki j 0 fun k=>ie (k==2) (jc g 0 fun l=>ix l 0 28 fun m=>ki (Addr.add m 1) 0 fun n=>ie (n==5) (jc g 0 fun o=>ix o 1 28 fun p=>ki p 0 fun q=>ie (q==
 1) (jc g 0 fun r=>ix r 1 28 fun s=>ki (Addr.add s 1) 3 fun t=>ie (t==1) (jc g 1 fun u=>pu ((u.len:Int)==1,())) (pu (false,()))) (pu (false,()))) (pu (false,()))) (pu (false,()))) (pu (false,()))) fun v=>pu
 (v.1,()))
theorem B2l:HCs 10 #[] (B4k) fun x=>.bool x.1:=
 cE [.one .bool] [0,1,2,14] [1,2,14] func10 ntmps10 (CC call9 (CC call11 (CC call13 CN)))
def B6b(p0:D0p)(p1:Int)(p2:B4p)(p3:Slc):HM (Bool×Unit):=
 nw #[vi 17,vi 100,ve,ve] 106 fun a=>bn (α:=Slc×Slc×Unit) (A1C prog (.agg [.slc,.slc]) 13 #[.pointer p0,vi p1,.agg #[vi 1,.bool false,.bool false,vi 0,vi 0,ve,ve,.int .u8 0,vz,.slice (some
 (az a)) 1 1,.string p2,.bool false,vi 0,.bool false,ve,ve,vi 0,.bool false,vz,.bool false,.bool false,ve,ve,.bool false,vz,vz],.bool false]) fun b=>nw #[vz,vz] 35 fun c=>sn c [vs b.1,vs b.2.1] fun
 _=>bn (α:=Bool×Unit) (jc c 0 fun d=>ie ((d.len:Int)==0) (pu (true,())) (jc c 0 fun e=>ix e 0 28 fun f=>ki (Addr.add f 1) 0 fun g=>ie (!(g==2)) (pu (true,())) (jc c 0 fun h=>ix h 0 28 fun i=>ku (Addr.add i 1)
 7 fun j=>ie (!(j==0)) (pu (true,())) (jc c 1 fun k=>pu (!((k.len:Int)==0),()))))) fun l=>ie l.1 (pu (false,())) (ie ((p3.len:Int)==0) (pu (true,())) (bn (α:=Slc×Slc×Unit) (A1C prog (.agg
 [.slc,.slc]) 13 #[.pointer p0,vi p1,.agg #[vi 8,.bool false,.bool false,vi 0,vi 1,ve,ve,.int .u8 0,vz,vz,ve,.bool false,vi 0,.bool false,ve,ve,vi 0,.bool false,vz,.bool false,.bool false,ve,ve,
 .bool false,vs p3,vz],.bool false]) fun m=>nw #[vz,vz] 35 fun n=>sn n [vs m.1,vs m.2.1] fun _=>bn (α:=Bool×Unit) (jc n 0 fun o=>ie (decide (1≤(o.len:Int))) (jc n 0 fun p=>ix p 0 28 fun q=>ki (Addr.add q 1) 0
 fun r=>ie (r==9) (jc n 0 fun s=>ix s 0 28 fun t=>kc (Addr.add t 1) 8 fun u=>pu ((u.len:Int)==(p3.len:Int),())) (pu (false,()))) (pu (false,()))) fun v=>pu (v.1,())))
theorem B3s(p0:D0p)(p1:Int)(p2:B4p)(p3:Slc):HCs 11 #[.pointer p0,.int .i64 p1,.string p2,.slice p3.a p3.len p3.cap] (B6b p0 p1 p2 p3) fun x=>.bool x.1:=
 cE [.one .bool] [0,1,2,3,8,9,10,45,48] [0,1,2,3,9,10,45,48] func11 ntmps11 (CC call13 CN)
def A8s(p0:B4p):HM (Int×Unit):=
 bn (α:=Bool×Unit) (cb 30 #[.string p0] fun a=>ie (!a) (pu (true,())) (cb 31 #[.string p0,.string (ByteArray.mk #[43])] fun b=>ie b (pu (true,())) (cb 31 #[.string p0,.string (ByteArray.mk #[35])] fun c=>pu (c,
 ())))) fun d=>ie d.1 (pu (144,())) (pu (0,()))
theorem A8K(p0:B4p):HCs 12 #[.string p0] (A8s p0) fun x=>.int .u8 x.1:=
 cE [.one (.int .u8)] [0,2,13] [0,13] func12 ntmps12 (CC call30 (CC call31 CN))
def A4s(p0:D0p)(p1:Int)(p2:yS2)(p3:Bool):HM ((Slc×Slc×Unit)×Unit):=
 nw (aS3 p2) 45 fun a=>nw #[vz,vz] 35 fun b=>ie (Option.isNone p0) (sn b [vz,vz] fun _=>bn (α:=Slc×Slc×Unit) (o9 [.slc,.slc] (az b)) fun c=>pu ((c.1,c.2.1,()),())) (nw #[.pointer p0,.bool p3,vz,vz]
 110 fun d=>nn p0 fun e=>km e 3 fun f=>bn (α:=(yS4)×Bool) (HM.lookup (Instr.sameNow (.int .i64)) (.agg zS4) (.agg tS4) f (vi p1)) fun g=>nw zS4 112 fun h=>sn h (lS4 g.1) fun _=>bn (α:=Unit) (ie g.2 (A1h (az a) fun
 i=>cx 32 #[.pointer (some (az d)),vi p1,.agg (aS3 i)] fun j=>pu ()) (ji a 0 fun k=>bn (α:=Unit) (ie (k==1) (A1h (az a) fun l=>cx 33 #[.pointer (some (az d)),vi p1,.agg (aS3 l)] fun m=>pu ()) (cx 34 #[.pointer
 (some (az d)),vi p1,.agg #[vi 14,.bool false,.bool false,vi 0,vi 0,ve,ve,.int .u8 130,vz,vz,ve,.bool false,vi 0,.bool false,ve,ve,vi 0,.bool false,vz,.bool false,.bool false,ve,ve,.bool false,
 vz,vz]] fun n=>pu ())) fun o=>pu ())) fun p=>nn (some (az d)) fun q=>bn (α:=Slc×Slc×Unit) (o9 [.slc,.slc] (Addr.add q 2)) fun r=>sn b [vs r.1,vs r.2.1] fun _=>bn (α:=Slc×Slc×Unit) (o9 [.slc,
 .slc] (az b)) fun s=>pu ((s.1,s.2.1,()),()))
theorem A5D(p0:D0p)(p1:Int)(p2:yS2)(p3:Bool):HCs 13 #[.pointer p0,.int .i64 p1,.agg (aS3 p2),.bool p3] (A4s p0 p1 p2 p3) fun x=>.agg #[.slice x.1.1.a x.1.1.len x.1.1.cap,.slice x.1.2.1.a x.1.2.1.len x.1.2.1.cap]:=
 cE [.agg [.slc,.slc]] [0,1,2,3,6,8,9,11,13,32,38] [0,1,2,3,6,8,9,11,13,32,38] func13 ntmps13 (CC call32 (CC call33 (CC call34 CN)))
def B3V(p0:B4p)(p1:B4p):HM (Bool×Unit):=
 bn (α:=Bool×Unit) (cu 35 #[.string p0] fun a=>ie (!(a==0)) (pu (true,())) (cu 12 #[.string p1] fun b=>pu (!(b==0),()))) fun c=>ie c.1 (pu (false,())) (bn (α:=Bool×Unit) (bn (α:=Int) (A5I p1 0) fun
 d=>ie (d==36) (bn (α:=B4p) (A47 p0 none (some 1)) fun e=>ie (decide (e=(ByteArray.mk #[43]))) (pu (true,())) (bn (α:=B4p) (A47 p0 none (some 1)) fun f=>pu (decide (f=(ByteArray.mk
 #[35])),()))) (pu (false,()))) fun g=>ie g.1 (pu (false,())) (cc 36 #[.string p0] fun h=>cc 36 #[.string p1] fun i=>ix h (wi ((h.len:Int)-1)) 1 fun j=>lt j fun k=>bn (α:=Slc×Unit) (ie (decide (k=
 (ByteArray.mk #[35]))) (bn (α:=Slc) (HM.slice h none (some (wi ((h.len:Int)-1))) none 1) fun l=>pu (l,())) (pu (h,()))) fun m=>bn (α:=Bool×Unit) (ie (decide ((i.len:Int)<(m.1.len:Int))) (pu (true,()))
 (ie (!(decide (k=(ByteArray.mk #[35])))) (pu (decide ((m.1.len:Int)<(i.len:Int)),())) (pu (false,())))) fun n=>ie n.1 (pu (false,())) (bn (α:=Slc) (HM.slice i none (some (m.1.len:Int)) none 1) fun o=>cb 37
 #[vs m.1,vs o,.func (.func 38) #[] #[]] fun p=>pu (p,()))))
theorem B1v(p0:B4p)(p1:B4p):HCs 14 #[.string p0,.string p1] (B3V p0 p1) fun x=>.bool x.1:=
 cE [.one .bool] [0,1,4,5,6,7,15,28,40,61] [0,1,5,6,7,15,28,40,61] func14 ntmps14 (CC call35 (CC call12 (CC call36 (CC call37 CN))))
def B0x(p0:yS2):HM ((yS2)×(yS2)×Unit):=
 nw (aS3 p0) 60 fun a=>nw zS3 45 fun b=>nw zS2 70 fun c=>ji a 0 fun d=>jb a 1 fun e=>jb a 2 fun f=>ji a 3 fun g=>ji a 4 fun h=>jt a 5 fun i=>jt a 6 fun j=>ju a 7 fun k=>jt a 10 fun l=>jb a 11 fun m=>ji a 12 fun n=>jb a
 13 fun o=>jb a 19 fun p=>jb a 20 fun q=>jt a 21 fun r=>jt a 22 fun s=>jb a 23 fun t=>nw zS3 45 fun u=>sn u [vi d,.bool e,.bool f,vi g,vi h,.string i,.string j,.int .u8 k,vz,vz,.string l,.bool m,vi n,.bool o,
 ve,ve,vi 0,.bool false,vz,.bool p,.bool q,.string r,.string s,.bool t,vz,vz] fun _=>ji a 0 fun v=>jb a 1 fun w=>jb a 2 fun x=>ji a 3 fun y=>ji a 4 fun z=>jt a 5 fun A=>jt a 6 fun B=>ju a 7 fun C=>jt a 10 fun
 D=>jb a 11 fun E=>ji a 12 fun F=>jb a 13 fun G=>jb a 19 fun H=>jb a 20 fun I=>jt a 21 fun J=>jt a 22 fun K=>jb a 23 fun L=>nw zS2 70 fun M=>sn M [vi v,.bool w,.bool x,vi y,vi z,.string A,.string B,vi (wi C),vz,
 vz,.string D,.bool E,vi F,.bool G,ve,ve,vi 0,.bool false,vz,.bool H,.bool I,.string J,.string K,.bool L,vz,vz] fun _=>jc a 9 fun N=>bn (α:=Slc×Slc×Unit) (u9 prog [.one .slc,.one .slc] 39
 #[vs N]) fun O=>sw u 9 (vs O.1) fun _=>sw M 9 (vs O.2.1) fun _=>kt (ad a 14) 0 fun P=>kt (ad a 14) 1 fun Q=>ki (ad a 14) 2 fun R=>kb (ad a 14) 3 fun S=>so (ad u 14) [.string P,.string Q,vi R,.bool S,vz] fun _=>kt (ad
 a 14) 0 fun T=>kt (ad a 14) 1 fun U=>ki (ad a 14) 2 fun V=>kb (ad a 14) 3 fun W=>so (ad M 14) [.string T,.string U,vi V,.bool W,vz] fun _=>kc (ad a 14) 4 fun X=>bn (α:=Slc×Slc×Unit) (u9 prog [.one
 .slc,.one .slc] 39 #[vs X]) fun Y=>sx (Addr.add (ad u 14) 4) (vs Y.1) fun _=>sx (Addr.add (ad M 14) 4) (vs Y.2.1) fun _=>jc a 8 fun Z=>jc a 8 fun oI=>bn (α:=Slc) (HM.slice Z none (some (if 80<(oI.len:Int) then
 80 else(oI.len:Int))) none 1) fun kQ=>bn (α:=Int×Unit) (HM.loop (σ:=Int×Unit) (τ:=Int×Unit) (fun fj=>ie (decide (fj.1<(kQ.len:Int))) (ix kQ fj.1 1 fun ia=>lu ia fun di=>jc u 8 fun gi=>jc M 8
 fun fW=>A0R (nw #[.int .u8 di] 30 fun jo=>jc M 8 fun jH=>rq (vs jH) (vs fW)<|jc u 8 fun jG=>rq (vs jG) (vs gi)<|A0R (bn (α:=Slc) (HM.append 30 1 1 #[.int .u8 0] gi 1 (W4 1 (⟨some (az jo),1,
 1⟩))) fun kq=>jc M 8 fun gM=>rq (vs gM) (vs fW)<|nw #[vi (wi di)] 3 fun kP=>jc M 8 fun iU=>rq (vs iU) (vs fW)<|jc u 8 fun lP=>rq (vs lP) (vs gi)<|bn (α:=Slc) (HM.append 3 1 8 #[vi 0] fW 1 (W4 1
 (⟨some (az kP),1,1⟩))) fun kO=>sw u 8 (vs kq) fun _=>sw M 8 (vs kO) fun _=>pu (.inl (wi (fj.1+1),()))) (nw #[vi (wi di)] 3 fun lO=>jc M 8 fun kN=>rq (vs kN) (vs fW)<|jc u 8 fun kL=>rq (vs kL) (vs gi)
 <|bn (α:=Slc) (HM.append 30 1 1 #[.int .u8 0] gi 1 (W4 1 (⟨some (az jo),1,1⟩))) fun iT=>jc M 8 fun iS=>rq (vs iS) (vs fW)<|bn (α:=Slc) (HM.append 3 1 8 #[vi 0] fW 1 (W4 1 (⟨some (az lO),1,1⟩)))
 fun kK=>sw u 8 (vs iT) fun _=>sw M 8 (vs kK) fun _=>pu (.inl (wi (fj.1+1),())))) (nw #[vi (wi di)] 3 fun oH=>jc M 8 fun my=>rq (vs my) (vs fW)<|jc u 8 fun mw=>rq (vs mw) (vs gi)<|nw #[.int .u8 di] 30
 fun oG=>jc M 8 fun pG=>rq (vs pG) (vs fW)<|jc u 8 fun pF=>rq (vs pF) (vs gi)<|bn (α:=Slc) (HM.append 30 1 1 #[.int .u8 0] gi 1 (W4 1 (⟨some (az oG),1,1⟩))) fun lN=>jc M 8 fun pE=>rq (vs pE) (vs fW)
 <|bn (α:=Slc) (HM.append 3 1 8 #[vi 0] fW 1 (W4 1 (⟨some (az oH),1,1⟩))) fun pD=>sw u 8 (vs lN) fun _=>sw M 8 (vs pD) fun _=>pu (.inl (wi (fj.1+1),())))) (pu (.inr (fj.1,())))) (0,())) fun ez=>jc a
 24 fun pC=>jc a 24 fun rH=>bn (α:=Slc) (HM.slice pC none (some (if 80<(rH.len:Int) then 80 else(rH.len:Int))) none 5) fun ko=>bn (α:=Int×Unit) (HM.loop (σ:=Int×Unit) (τ:=Int×Unit) (fun iR=>ie
 (decide (iR.1<(ko.len:Int))) (ix ko iR.1 5 fun mv=>g6 mv fun pA=>nw zS6 119 fun gh=>sn gh (lS6 pA) fun _=>jc u 24 fun il=>g6 (az gh) fun kJ=>jc M 24 fun ik=>g6 (az gh) fun hZ=>A0R (nw (aS6 kJ) 47
 fun oF=>g6 (az gh) fun pz=>rq (.agg (aS6 pz)) (.agg (aS6 hZ))<|jc M 24 fun rG=>rq (vs rG) (vs ik)<|jc u 24 fun fX=>rq (vs fX) (vs il)<|A0R (bn (α:=Slc) (HM.append 47 5 40 zS6 il 1 (W4 5 (⟨some
 (az oF),1,1⟩))) fun jJ=>g6 (az gh) fun jI=>rq (.agg (aS6 jI)) (.agg (aS6 hZ))<|jc M 24 fun nC=>rq (vs nC) (vs ik)<|nw (aS6 hZ) 120 fun iV=>jc M 24 fun nB=>rq (vs nB) (vs ik)<|g6 (az gh) fun
 nA=>rq (.agg (aS6 nA)) (.agg (aS6 kJ))<|jc u 24 fun la=>rq (vs la) (vs il)<|bn (α:=Slc) (HM.append 120 5 40 zS6 ik 1 (W4 5 (⟨some (az iV),1,1⟩))) fun nz=>sw u 24 (vs jJ) fun _=>sw M 24 (vs
 nz) fun _=>pu (.inl (wi (iR.1+1),()))) (nw (aS6 hZ) 120 fun ny=>jc M 24 fun nv=>rq (vs nv) (vs ik)<|g6 (az gh) fun nu=>rq (.agg (aS6 nu)) (.agg (aS6 kJ))<|jc u 24 fun kZ=>rq (vs kZ) (vs il)
 <|bn (α:=Slc) (HM.append 47 5 40 zS6 il 1 (W4 5 (⟨some (az oF),1,1⟩))) fun nt=>g6 (az gh) fun nr=>rq (.agg (aS6 nr)) (.agg (aS6 hZ))<|jc M 24 fun nq=>rq (vs nq) (vs ik)<|bn (α:=Slc) (HM.append
 120 5 40 zS6 ik 1 (W4 5 (⟨some (az ny),1,1⟩))) fun np=>sw u 24 (vs nt) fun _=>sw M 24 (vs np) fun _=>pu (.inl (wi (iR.1+1),())))) (nw (aS6 hZ) 120 fun nk=>jc M 24 fun nj=>rq (vs nj) (vs ik)
 <|g6 (az gh) fun ni=>rq (.agg (aS6 ni)) (.agg (aS6 kJ))<|jc u 24 fun nh=>rq (vs nh) (vs il)<|nw (aS6 kJ) 47 fun ng=>g6 (az gh) fun nf=>rq (.agg (aS6 nf)) (.agg (aS6 hZ))<|jc M 24 fun nc=>rq (vs
 nc) (vs ik)<|jc u 24 fun na=>rq (vs na) (vs il)<|bn (α:=Slc) (HM.append 47 5 40 zS6 il 1 (W4 5 (⟨some (az ng),1,1⟩))) fun mZ=>g6 (az gh) fun mY=>rq (.agg (aS6 mY)) (.agg (aS6 hZ))<|jc M 24
 fun pR=>rq (vs pR) (vs ik)<|bn (α:=Slc) (HM.append 120 5 40 zS6 ik 1 (W4 5 (⟨some (az nk),1,1⟩))) fun mX=>sw u 24 (vs mZ) fun _=>sw M 24 (vs mX) fun _=>pu (.inl (wi (iR.1+1),())))) (pu (.inr
 (iR.1,())))) (0,())) fun pB=>jc a 25 fun mV=>jc a 25 fun mU=>bn (α:=Slc) (HM.slice mV none (some (if 80<(mU.len:Int) then 80 else(mU.len:Int))) none 1) fun kY=>bn (α:=Int×Unit) (HM.loop (σ:=
 Int×Unit) (τ:=Int×Unit) (fun gN=>ie (decide (gN.1<(kY.len:Int))) (ix kY gN.1 1 fun mT=>lt mT fun gq=>jc u 25 fun gn=>jc M 25 fun eN=>A0R (nw #[.string gq] 9 fun kX=>jc M 25 fun
 pP=>rq (vs pP) (vs eN)<|jc u 25 fun kW=>rq (vs kW) (vs gn)<|A0R (bn (α:=Slc) (HM.append 9 1 16 #[ve] gn 1 (W4 1 (⟨some (az kX),1,1⟩))) fun kV=>jc M 25 fun mS=>rq (vs mS) (vs eN)<|nw
 #[.string gq] 9 fun mR=>jc M 25 fun pN=>rq (vs pN) (vs eN)<|jc u 25 fun kU=>rq (vs kU) (vs gn)<|bn (α:=Slc) (HM.append 9 1 16 #[ve] eN 1 (W4 1 (⟨some (az mR),1,1⟩))) fun kT=>sw u 25 (vs
 kV) fun _=>sw M 25 (vs kT) fun _=>pu (.inl (wi (gN.1+1),()))) (nw #[.string gq] 9 fun mQ=>jc M 25 fun mP=>rq (vs mP) (vs eN)<|jc u 25 fun pM=>rq (vs pM) (vs gn)<|bn (α:=Slc) (HM.append 9 1 16
 #[ve] gn 1 (W4 1 (⟨some (az kX),1,1⟩))) fun mO=>jc M 25 fun mN=>rq (vs mN) (vs eN)<|bn (α:=Slc) (HM.append 9 1 16 #[ve] eN 1 (W4 1 (⟨some (az mQ),1,1⟩))) fun kS=>sw u 25 (vs mO) fun
 _=>sw M 25 (vs kS) fun _=>pu (.inl (wi (gN.1+1),())))) (nw #[.string gq] 9 fun mM=>jc M 25 fun mL=>rq (vs mL) (vs eN)<|jc u 25 fun mK=>rq (vs mK) (vs gn)<|nw #[.string gq] 9 fun mJ=>jc M 25
 fun mI=>rq (vs mI) (vs eN)<|jc u 25 fun mH=>rq (vs mH) (vs gn)<|bn (α:=Slc) (HM.append 9 1 16 #[ve] gn 1 (W4 1 (⟨some (az mJ),1,1⟩))) fun mG=>jc M 25 fun im=>rq (vs im) (vs eN)<|bn (α
 :=Slc) (HM.append 9 1 16 #[ve] eN 1 (W4 1 (⟨some (az mM),1,1⟩))) fun mE=>sw u 25 (vs mG) fun _=>sw M 25 (vs mE) fun _=>pu (.inl (wi (gN.1+1),())))) (pu (.inr (gN.1,())))) (0,())) fun pQ=>A1h
 (az u) fun mD=>g2 (az M) fun mC=>sn b (lS3 mD) fun _=>g2 (az M) fun mB=>rq (.agg (aS2 mB)) (.agg (aS2 mC))<|sn c (lS2 mC) fun _=>A1h (az b) fun bp=>g2 (az c) fun bo=>pu ((bp.1,bp.2.1,bp.2.2.1,
 bp.2.2.2.1,bp.2.2.2.2.1,(w5 bp),(w6 bp),(w7 bp),(w8 bp),(w9 bp),(w10 bp),(w11 bp),(w12 bp),(w13 bp),(w14 bp),(w15 bp),(w16 bp),(w17 bp),(w18 bp),(w19 bp),(w20 bp),
 (w21 bp),(w22 bp),(w23 bp),(w24 bp),(w25 bp),()),(bo.1,bo.2.1,bo.2.2.1,bo.2.2.2.1,bo.2.2.2.2.1,(w5 bo),(w6 bo),(w7 bo),(w8 bo),(w9 bo),(w10 bo),(w11 bo),(w12 bo),
 (w13 bo),(w14 bo),(w15 bo),(w16 bo),(w17 bo),(w18 bo),(w19 bo),(w20 bo),(w21 bo),(w22 bo),(w23 bo),(w24 bo),(w25 bo),()),())
theorem B0b(p0:yS2):HCs 16 #[.agg (aS3 p0)] (B0x p0) fun x=>.tuple #[.agg (aS3 x.1),.agg (aS2 x.2.1)]:=
 cE [.agg tS3,.agg tS2] [0,1,2,3,4,5,7,9,11,136,137,138,139,162,163,164,165,187,188,189,190] [0,1,2,3,4,5,7,9,11,136,137,138,139,162,163,164,165,187,188,189,190] func16 ntmps16 (CC call39 CN)
def A4N(p0:D0p):HM (Slc×Unit):=
 ie (Option.isNone p0) (pu (⟨none,0,0⟩,())) (nn p0 fun a=>km a 3 fun b=>bn (α:=Value) (A1C prog (.one .any) 41 #[.map b]) fun c=>cc 40 #[c] fun d=>pu (d,()))
theorem A5S(p0:D0p):HCs 17 #[.pointer p0] (A4N p0) fun x=>.slice x.1.a x.1.len x.1.cap:=
 cE [.one .slc] [0,2,4] [0,4] func17 ntmps17 (CC call41 (CC call40 CN))
def A3y(p0:D0p):HM (Slc×Unit):=
 ie (Option.isNone p0) (pu (⟨none,0,0⟩,())) (nn p0 fun a=>kp a 0 fun b=>cc 42 #[.pointer b] fun c=>pu (c,()))
theorem A4D(p0:D0p):HCs 18 #[.pointer p0] (A3y p0) fun x=>.slice x.1.a x.1.len x.1.cap:=
 cE [.one .slc] [0,2,4] [0,4] func18 ntmps18 (CC call42 CN)
def A3I(p0:D0p)(p1:yS7):HM (Slc×Unit):=
 nw (aS7 p1) 83 fun a=>ie (Option.isNone p0) (pu (⟨none,0,0⟩,())) (nw #[.pointer p0,.bool false,vz,vz] 110 fun b=>g7 (az a) fun c=>cx 43 #[.pointer (some (az b)),.agg (aS7 c)] fun d=>nn (some (az b)) fun e=>kc
 (Addr.add e 2) 0 fun f=>pu (f,()))
theorem A40(p0:D0p)(p1:yS7):HCs 19 #[.pointer p0,.agg (aS7 p1)] (A3I p0 p1) fun x=>.slice x.1.a x.1.len x.1.cap:=
 cE [.one .slc] [0,1,3,4,5,7] [0,1,3,5,7] func19 ntmps19 (CC call43 CN)
def A3H(p0:D0p):HM (Slc×Unit):=
 ie (Option.isNone p0) (pu (⟨none,0,0⟩,())) (nn p0 fun a=>kp a 1 fun b=>cc 44 #[.pointer b] fun c=>pu (c,()))
theorem A4Z(p0:D0p):HCs 20 #[.pointer p0] (A3H p0) fun x=>.slice x.1.a x.1.len x.1.cap:=
 cE [.one .slc] [0,2,4] [0,4] func20 ntmps20 (CC call44 CN)
def B74:HM (D0p×Unit):=
 cp 45 #[vi 64] fun a=>nw #[vi 0,vz] 131 fun b=>nw #[vz] 135 fun c=>nw #[.pointer (some (az b)),.pointer (some (az c)),.pointer a,vz,.bool false,vz,vz] 140 fun d=>pu (some (az d),())
theorem B4I:HCs 21 #[] (B74) fun x=>.pointer x.1:=
 cE [.one .ptr] [0,1] [1] func21 ntmps21 (CC call45 CN)
def B2n(p0:D0p)(p1:D0p)(p2:yS0):HM (Bool×Unit):=
 nw (aS0 p2) 62 fun a=>nw #[vz,vz] 35 fun b=>ji a 0 fun c=>A3z (6≠(0:Int))<|bn (α:=Bool×Unit) (ie ((Int.tmod c 6)==1) (pu ((Int.tmod c 6)==1,())) (pu ((Int.tmod c 6)==(-1),()))) fun d=>bn (α:=Unit)
 (ie d.1 (ji a 1 fun e=>jb a 28 fun f=>bn (α:=Slc×Slc×Unit) (A1C prog (.agg [.slc,.slc]) 24 #[.pointer p0,vi e,.bool f]) fun g=>sn b [vs g.1,vs g.2.1] fun _=>ji a 1 fun h=>jb a 28 fun i=>cx 46
 #[.pointer p1,vi h,.bool i] fun j=>pu ()) (bn (α:=Bool×Unit) (ie ((Int.tmod c 6)==2) (pu ((Int.tmod c 6)==2,())) (pu ((Int.tmod c 6)==(-2),()))) fun k=>bn (α:=Unit) (ie k.1 (g7 (ad a 29) fun l=>cc 19
 #[.pointer p0,.agg (aS7 l)] fun m=>sw b 0 (vs m) fun _=>g7 (ad a 29) fun n=>cx 47 #[.pointer p1,.agg (aS7 n)] fun o=>pu ()) (bn (α:=Bool×Unit) (ie ((Int.tmod c 6)==3) (pu ((Int.tmod c 6)==3,())) (pu ((Int.tmod
 c 6)==(-3),()))) fun p=>bn (α:=Unit) (ie p.1 (cx 25 #[.pointer p0] fun q=>cx 48 #[.pointer p1] fun r=>pu ()) (A1h (ad a 2) fun s=>bn (α:=(yS2)×(yS2)×Unit) (u9 prog [.agg tS3,.agg tS2] 16 #[.agg
 (aS3 s)]) fun t=>nw zS3 45 fun u=>nw zS2 70 fun v=>sn u (lS3 t.1) fun _=>sn v (lS2 t.2.1) fun _=>ji a 1 fun w=>A1h (az u) fun x=>jb a 28 fun y=>bn (α:=Slc×Slc×Unit) (A1C prog (.agg [.slc,.slc]) 13
 #[.pointer p0,vi w,.agg (aS3 x),.bool y]) fun z=>sn b [vs z.1,vs z.2.1] fun _=>ji a 1 fun A=>g2 (az v) fun B=>jb a 28 fun C=>cx 49 #[.pointer p1,vi A,.agg (aS2 B),.bool C] fun D=>pu ())) fun E=>pu ())) fun F=>pu
 ())) fun G=>bn (α:=Bool×Unit) (jc b 0 fun H=>nn p1 fun I=>kc I 5 fun J=>cb 50 #[vs H,vs J] fun K=>ie K (jc b 1 fun L=>nn p1 fun M=>kc M 6 fun N=>cb 51 #[vs L,vs N] fun O=>pu (O,())) (pu (false,()))) fun P=>pu
 (P.1,())
theorem B08(p0:D0p)(p1:D0p)(p2:yS0):HCs 22 #[.pointer p0,.pointer p1,.agg (aS0 p2)] (B2n p0 p1 p2) fun x=>.bool x.1:=
 cE [.one .bool] [0,1,2,5,6,7,8,9,12,33,48,60] [0,1,2,5,7,8,9,12,33,48,60] func22 ntmps22 (CC call24 (CC call46 (CC call19 (CC call47 (CC call25 (CC call48 (CC call16 (CC call13 (CC call49 (CC call50 (CC call51 CN)))))))))))
def A7f(p0:D0p)(p1:D0p):HM (Bool×Unit):=
 nn p1 fun a=>kp a 1 fun b=>cc 20 #[.pointer p0] fun c=>kp a 1 fun d=>rq (.pointer d) (.pointer b)<|cc 52 #[.pointer b] fun e=>cc 18 #[.pointer p0] fun f=>cc 17 #[.pointer p0] fun g=>cc 53 #[.pointer p1] fun h=>bn (α:=
 Bool×Unit) (ie (!((c.len:Int)==(e.len:Int))) (pu (true,())) (nn p1 fun i=>kp i 0 fun j=>nn j fun k=>kc k 1 fun l=>ie (!((f.len:Int)==(l.len:Int))) (pu (true,())) (pu (!((g.len:Int)==(h.len:Int)),
 ())))) fun m=>ie m.1 (pu (false,())) (bn (α:=(Int×Unit)⊕(Bool×Unit)) (HM.loop (σ:=Int×Unit) (τ:=(Int×Unit)⊕(Bool×Unit)) (fun n=>ie (decide (n.1<(c.len:Int))) (ix c n.1 1 fun o=>lt o fun p=>ix e
 n.1 1 fun q=>lt q fun r=>ie (!(decide (p=r))) (pu (.inr (.inr (false,())))) (pu (.inl (wi (n.1+1),())))) (pu (.inr (.inl (n.1,()))))) (0,())) (Sum.elim (fun s=>bn (α:=(Int×Unit)⊕(Bool×Unit)) (HM.loop (σ
 :=Int×Unit) (τ:=(Int×Unit)⊕(Bool×Unit)) (fun t=>ie (decide (t.1<(g.len:Int))) (ix g t.1 1 fun u=>li u fun v=>ix h t.1 1 fun w=>li w fun x=>ie (!(v==x)) (pu (.inr (.inr (false,())))) (pu (.inl (wi (t.1+
 1),())))) (pu (.inr (.inl (t.1,()))))) (0,())) (Sum.elim (fun y=>bn (α:=(Int×Unit)⊕(Bool×Unit)) (HM.loop (σ:=Int×Unit) (τ:=(Int×Unit)⊕(Bool×Unit)) (fun z=>ie (decide (z.1<(f.len:Int))) (nn p1
 fun A=>kp A 0 fun B=>nn B fun C=>kc C 1 fun D=>ix D z.1 1 fun E=>lp E fun F=>ix f z.1 4 fun G=>g9 G fun H=>nn F fun I=>ki I 0 fun J=>nn F fun K=>kt K 1 fun L=>nn F fun M=>kb M 2 fun N=>nn F fun O=>kb O 3 fun P=>ie
 (!((H.1==J)&&((decide (H.2.1=L))&&((H.2.2.1==N)&&((H.2.2.2.1==P)&&true))))) (pu (.inr (.inr (false,())))) (nn F fun Q=>kt Q 1 fun R=>bn (α:=Slc×Slc×Unit) (u9 prog [.one .slc,.one .slc]
 26 #[.pointer p0,.string R]) fun S=>bn (α:=Bool×Unit) (nn F fun T=>kp T 4 fun U=>nn U fun V=>kc V 4 fun W=>cb 51 #[vs S.2.1,vs W] fun X=>ie (!X) (pu (true,())) (nn F fun Y=>kp Y 4 fun Z=>nn Z fun kQ=>kc kQ 3 fun
 ez=>pu (!((S.1.len:Int)==(ez.len:Int)),()))) fun fj=>ie fj.1 (pu (.inr (.inr (false,())))) (bn (α:=(Int×Unit)⊕((Int×Unit)⊕((Int×Unit)⊕(Bool×Unit)))) (HM.loop (σ:=Int×Unit) (τ:=(Int×
 Unit)⊕((Int×Unit)⊕((Int×Unit)⊕(Bool×Unit)))) (fun di=>ie (decide (di.1<(S.1.len:Int))) (nn F fun gi=>kp gi 4 fun fW=>nn fW fun jo=>kc jo 3 fun jH=>ix jH di.1 7 fun jG=>g5 jG fun kq=>nw zS5
 160 fun gM=>sn gM (lS5 kq) fun _=>bn (α:=Bool×Unit) (ix S.1 di.1 7 fun kP=>ki kP 0 fun iU=>ji gM 0 fun lP=>ie (!(iU==lP)) (pu (true,())) (ix S.1 di.1 7 fun kO=>kb kO 6 fun lO=>jb gM 6 fun kN=>ie
 (!(lO==kN)) (pu (true,())) (ix S.1 di.1 7 fun kL=>g7 (Addr.add kL 1) fun iT=>g7 (ad gM 1) fun iS=>pu (!((decide (iT.1=iS.1))&&((decide (iT.2.1=iS.2.1))&&((iT.2.2.1==iS.2.2.1)&&((iT.2.2.2.1
 ==iS.2.2.2.1)&&((decide (iT.2.2.2.2.1=iS.2.2.2.2.1))&&true))))),())))) fun kK=>ie kK.1 (pu (.inr (.inr (.inr (.inr (false,())))))) (pu (.inl (wi (di.1+1),())))) (pu (.inr (.inl (di.1,()))))) (0,()))
 (Sum.elim (fun ia=>pu (.inl (wi (z.1+1),()))) X8)))) (pu (.inr (.inl (z.1,()))))) (0,())) (Sum.elim (fun rK=>pu (true,())) X8)) X8)) X8))
theorem A7U(p0:D0p)(p1:D0p):HCs 23 #[.pointer p0,.pointer p1] (A7f p0 p1) fun x=>.bool x.1:=
 cE [.one .bool] [0,1,4,5,6,7,8,9,10,11,12,13,14,15,16,17,55,57,58,59,69,72,73,74,84,87,88,89,122,154,156,157,158,197] [0,1,5,6,7,8,9,10,11,12,13,14,15,16,17,55,57,58,59,69,72,73,74,84,87,88,89,122,154,156,157,158,197] func23 ntmps23 (CC call20 (CC call52 (CC call18 (CC call17 (CC call53 (CC call26 (CC call51 CN)))))))
def A5E(p0:D0p)(p1:Int)(p2:Bool):HM ((Slc×Slc×Unit)×Unit):=
 nw #[vz,vz] 35 fun a=>ie (Option.isNone p0) (sn a [vz,vz] fun _=>bn (α:=Slc×Slc×Unit) (o9 [.slc,.slc] (az a)) fun b=>pu ((b.1,b.2.1,()),())) (nw #[.pointer p0,.bool p2,vz,vz] 110 fun c=>cx 54
 #[.pointer (some (az c)),vi p1,.bool true] fun d=>nn (some (az c)) fun e=>bn (α:=Slc×Slc×Unit) (o9 [.slc,.slc] (Addr.add e 2)) fun f=>sn a [vs f.1,vs f.2.1] fun _=>bn (α:=Slc×Slc×Unit) (o9
 [.slc,.slc] (az a)) fun g=>pu ((g.1,g.2.1,()),()))
theorem A6G(p0:D0p)(p1:Int)(p2:Bool):HCs 24 #[.pointer p0,.int .i64 p1,.bool p2] (A5E p0 p1 p2) fun x=>.agg #[.slice x.1.1.a x.1.1.len x.1.1.cap,.slice x.1.2.1.a x.1.2.1.len x.1.2.1.cap]:=
 cE [.agg [.slc,.slc]] [0,1,2,6,7,9] [0,1,2,6,7,9] func24 ntmps24 (CC call54 CN)
def A3G(p0:D0p):HM (Unit):=
 nw #[.pointer p0,.bool false,vz,vz] 110 fun a=>cc 17 #[.pointer p0] fun b=>bn (α:=Int×Unit) (HM.loop (σ:=Int×Unit) (τ:=Int×Unit) (fun c=>ie (decide (c.1<(b.len:Int))) (ix b c.1 1 fun d=>li d fun e=>cx
 54 #[.pointer (some (az a)),vi e,.bool false] fun f=>pu (.inl (wi (c.1+1),()))) (pu (.inr (c.1,())))) (0,())) fun g=>pu ()
theorem A4Y(p0:D0p):HCs 25 #[.pointer p0] (A3G p0) fun x=>.tuple #[]:=
 cE [] [0,2,4,9,10,11,12] [0,2,4,9,10,11,12] func25 ntmps25 (CC call17 (CC call54 CN))
def A5F(p0:D0p)(p1:B4p):HM (Slc×Slc×Unit):=
 ie (Option.isNone p0) (pu (⟨none,0,0⟩,⟨none,0,0⟩,())) (nn p0 fun a=>kp a 0 fun b=>bn (α:=(yS9)×Bool×Unit) (u9 prog [.agg tS9,.one .bool] 55 #[.pointer b,.string p1]) fun c=>nw zS9 79 fun d=>sn d
 (lS9 c.1) fun _=>nn p0 fun e=>kp e 0 fun f=>ji d 0 fun g=>cp 56 #[.pointer f,vi g] fun h=>cc 57 #[.pointer h] fun i=>cc 58 #[.pointer h] fun j=>pu (i,j,()))
theorem A6H(p0:D0p)(p1:B4p):HCs 26 #[.pointer p0,.string p1] (A5F p0 p1) fun x=>.tuple #[.slice x.1.a x.1.len x.1.cap,.slice x.2.1.a x.2.1.len x.2.1.cap]:=
 cE [.one .slc,.one .slc] [0,1,4,5,6,8,10] [0,1,6,8,10] func26 ntmps26 (CC call55 (CC call56 (CC call57 (CC call58 CN))))
def B3Z:HM (D0p×Unit):=
 bn (α:=Nat) (HM.new (.map #[] 0)) fun a=>nw #[vi 0,.map (some a)] 172 fun b=>pu (some (az b),())
theorem B1D:HCs 27 #[] (B3Z) fun x=>.pointer x.1:=
 cE [.one .ptr] [0] [] func27 ntmps27 CN
def B97:HM (D0p×Unit):=
 cp 59 #[] fun a=>bn (α:=Nat) (HM.new (.map #[] 0)) fun b=>nw #[.pointer a,.map (some b)] 176 fun c=>pu (some (az c),())
theorem B5i:HCs 28 #[] (B97) fun x=>.pointer x.1:=
 cE [.one .ptr] [0] [] func28 ntmps28 (CC call59 CN)
def B5z(p0:Int):HM (D0p×Unit):=
 bn (α:=Nat) (HM.new (.map #[] 0)) fun a=>nw #[vi (if 0<((if 64<(p0:Int) then 64 else p0):Int) then(if 64<(p0:Int) then 64 else p0) else 0),.map (some a)] 179 fun b=>pu (some (az b),())
theorem B23(p0:Int):HCs 29 #[.int .i64 p0] (B5z p0) fun x=>.pointer x.1:=
 cE [.one .ptr] [0,2] [0] func29 ntmps29 CN
def B3U(p0:B4p):HM (Bool×Unit):=
 bn (α:=Int×Bool×Unit) (u9 prog [.one (.int .i64),.one .bool] 60 #[.string p0]) fun a=>bn (α:=Bool×Unit) (ie (!a.2.1) (ie (!(decide (p0=es))) (ie (decide (((ByteArray.size p0:Nat):Int)≤(256
 :Int))) (ci 61 #[.string p0,.string (ByteArray.mk #[47])] fun b=>pu (decide (b<(32:Int)),())) (pu (false,()))) (pu (false,()))) (pu (false,()))) fun c=>pu (c.1,())
theorem B1u(p0:B4p):HCs 30 #[.string p0] (B3U p0) fun x=>.bool x.1:=
 cE [.one .bool] [0,2,4] [0,4] func30 ntmps30 (CC call60 (CC call61 CN))
def A5B(p0:D0p)(p1:Int)(p2:yS2):HM (Unit):=
 nw (aS3 p2) 45 fun a=>bn (α:=Bool×Unit) (ji a 4 fun b=>ie (decide (1≤(b:Int))) (ji a 4 fun c=>pu (decide (c≤(65535:Int)),())) (pu (false,()))) fun d=>bn (α:=Bool×Unit) (ji a 0 fun e=>ie (e==3) (pu
 (true,())) (ji a 0 fun f=>pu (f==6,()))) fun g=>bn (α:=Unit) (ie g.1 (A1h (az a) fun h=>cx 63 #[.pointer p0,vi p1,.agg (aS3 h)] fun i=>pu ()) (bn (α:=Bool×Unit) (ji a 0 fun j=>ie (j==4) (pu (true,())) (ji
 a 0 fun k=>ie (k==5) (pu (true,())) (ji a 0 fun l=>pu (l==7,())))) fun m=>bn (α:=Unit) (ie m.1 (A1h (az a) fun n=>cx 64 #[.pointer p0,vi p1,.agg (aS3 n)] fun o=>pu ()) (bn (α:=Bool×Unit) (ji a 0 fun p=>ie
 (p==8) (ie d.1 (jc a 24 fun q=>pu (decide (0<(q.len:Int)),())) (pu (false,()))) (pu (false,()))) fun r=>bn (α:=Unit) (ie r.1 (A1h (az a) fun s=>cx 65 #[.pointer p0,vi p1,.agg (aS3 s)] fun t=>pu ()) (bn (α
 :=Bool×Unit) (ji a 0 fun u=>ie (u==10) (ie d.1 (jc a 25 fun v=>pu (decide (0<(v.len:Int)),())) (pu (false,()))) (pu (false,()))) fun w=>bn (α:=Unit) (ie w.1 (A1h (az a) fun x=>cx 66 #[.pointer p0,vi p1,
 .agg (aS3 x)] fun y=>pu ()) (ji a 0 fun z=>bn (α:=Unit) (ie (z==12) (cx 67 #[.pointer p0,vi p1,.agg #[vi 13,.bool false,.bool false,vi 0,vi 0,ve,ve,.int .u8 0,vz,vz,ve,.bool false,vi 0,.bool false,ve,
 ve,vi 0,.bool false,vz,.bool false,.bool false,ve,ve,.bool false,vz,vz]] fun A=>pu ()) (ji a 0 fun B=>bn (α:=Unit) (ie (B==14) (ju a 7 fun C=>cx 54 #[.pointer p0,vi p1,.bool (C==4)] fun D=>pu ()) (cx 68
 #[.pointer p0,vi p1,.int .u8 130] fun E=>pu ())) fun F=>pu ())) fun G=>pu ())) fun H=>pu ())) fun I=>pu ())) fun J=>pu ())) fun K=>pu ()
theorem A6E(p0:D0p)(p1:Int)(p2:yS2):HCs 32 #[.pointer p0,.int .i64 p1,.agg (aS3 p2)] (A5B p0 p1 p2) fun x=>.tuple #[]:=
 cE [] [0,1,2,5,6,18,31,49,66,83,91] [0,1,2,5,6,18,31,49,66,83,91] func32 ntmps32 (CC call63 (CC call64 (CC call65 (CC call66 (CC call67 (CC call54 (CC call68 CN)))))))
def A4M(p0:D0p)(p1:Int)(p2:yS2):HM (Unit):=
 nw (aS3 p2) 45 fun a=>nn p0 fun b=>kp b 0 fun c=>nn c fun d=>kp d 0 fun e=>jt a 10 fun f=>A0R (bn (α:=(yS9)×Bool×Unit) (u9 prog [.agg tS9,.one .bool] 55 #[.pointer e,.string f]) fun g=>nw zS9 79
 fun h=>jt a 10 fun i=>rq (.string i) (.string f)<|kp d 0 fun j=>rq (.pointer j) (.pointer e)<|kp b 0 fun k=>rq (.pointer k) (.pointer c)<|sn h (lS9 g.1) fun _=>cp 27 #[] fun l=>jt a 10 fun m=>bn (α:=Int×Bool×Int
 ×Unit) (u9 prog [.one (.int .i64),.one .bool,.one (.int .u8)] 69 #[.pointer l,.string m,.bool false,.bool false]) fun n=>bn (α:=Bool×Unit) (jb a 13 fun o=>ie o (kt (ad a 14) 0 fun p=>cu 12 #[.string
 p] fun q=>pu (!(q==0),())) (pu (false,()))) fun r=>bn (α:=Int×Unit) (ie r.1 (pu (144,())) (nn p0 fun s=>kp s 0 fun t=>nn t fun u=>km u 3 fun v=>bn (α:=Int) (A7u v) fun w=>bn (α:=Int×Unit) (ie (decide
 (64≤(w:Int))) (pu (151,())) (bn (α:=Int×Unit) (ie (!(n.2.2.1==0)) (pu (n.2.2.1,())) (bn (α:=Bool×Unit) (ie (!g.2.1) (nn p0 fun x=>kp x 0 fun y=>nn y fun z=>kp z 0 fun A=>cc 42 #[.pointer A] fun B=>pu
 (decide (32≤(B.len:Int)),())) (pu (false,()))) fun C=>bn (α:=Int×Unit) (ie C.1 (pu (151,())) (pu (0,()))) fun D=>pu (D.1,()))) fun E=>pu (E.1,()))) fun F=>pu (F.1,()))) fun G=>ie (!(G.1==0)) (cx 34
 #[.pointer p0,vi p1,.agg #[vi 2,.bool false,.bool false,vi 0,vi 0,ve,ve,.int .u8 G.1,vz,vz,ve,.bool false,vi 0,.bool false,ve,ve,vi 0,.bool false,vz,.bool false,.bool false,ve,ve,.bool false,vz,
 vz]] fun H=>pu ()) (bn (α:=Bool×Unit) (ie g.2.1 (jb h 3 fun I=>pu (I,())) (pu (false,()))) fun J=>bn (α:=Unit) (ie J.1 (nn p0 fun K=>kp K 0 fun L=>nn L fun M=>km M 3 fun N=>bn (α:=Nat) (B0H N) fun O=>bn
 (α:=Unit) (HM.loop (σ:=Unit) (τ:=Unit) (fun P=>bn (α:=Option (Value×Value)) (A8G O) fun Q=>A2Q Q (ie false (bn (α:=Int×(yS4)) (A4O (.one (.int .i64)) (.agg tS4) O) fun R=>nw zS4 112 fun S=>sn
 S (lS4 R.2) fun _=>ji S 0 fun T=>ji h 0 fun U=>ie (T==U) (cx 68 #[.pointer p0,vi R.1,.int .u8 142] fun V=>pu (.inr ())) (pu (.inl ()))) (pu (.inr ()))) fun(W:Value×Value)=>ie true (bn (α:=Int×(yS4))
 (A4O (.one (.int .i64)) (.agg tS4) O) fun X=>nw zS4 112 fun Y=>sn Y (lS4 X.2) fun _=>ji Y 0 fun Z=>ji h 0 fun ez=>ie (Z==ez) (cx 68 #[.pointer p0,vi X.1,.int .u8 142] fun fj=>pu (.inr ())) (pu (.inl ())))
 (pu (.inr ()))) ()) fun uH=>pu ()) (pu ())) fun rI=>jc a 9 fun ia=>bn (α:=(yS8)×Bool×Unit) (u9 prog [.agg tS8,.one .bool] 70 #[vs ia,vi 17]) fun di=>nw zS8 106 fun gi=>sn gi (lS8 di.1) fun
 _=>nn p0 fun fW=>kp fW 0 fun jo=>nn jo fun jH=>kp jH 0 fun jG=>jt a 10 fun kq=>jb a 11 fun gM=>ji gi 1 fun kP=>bn (α:=Int×Bool×Int×Unit) (u9 prog [.one (.int .i64),.one .bool,.one (.int
 .u8)] 69 #[.pointer jG,.string kq,.bool gM,.bool (decide (0<(kP:Int)))]) fun iU=>bn (α:=Bool×Unit) (ie g.2.1 (ji h 0 fun lP=>pu (!(iU.1==lP),())) (pu (false,()))) fun kO=>bn (α:=Unit) (ie kO.1
 (nn p0 fun kN=>kp kN 0 fun kL=>nn kL fun iT=>kp iT 1 fun iS=>ji h 0 fun kK=>ci 71 #[.pointer iS,vi kK] fun oH=>pu ()) (pu ())) fun lO=>nn p0 fun my=>kp my 0 fun mw=>nn mw fun oG=>km oG 3 fun pG=>jb a
 13 fun pF=>kt (ad a 14) 0 fun lN=>kt (ad a 14) 1 fun pE=>ki (ad a 14) 2 fun pD=>kb (ad a 14) 3 fun pC=>bn (α:=Unit) (A3J (Instr.sameNow (.int .i64)) pG (vi p1) (.agg #[vi iU.1,.bool pF,.string lN,
 .string pE,vi pD,.bool pC,ve])) fun _=>cx 67 #[.pointer p0,vi p1,.agg #[vi 2,.bool false,.bool false,vi 0,vi 0,ve,ve,.int .u8 0,vz,vz,ve,.bool false,vi 0,.bool false,ve,ve,vi 0,.bool false,vz,
 .bool false,.bool false,ve,ve,.bool iU.2.1,vz,vz]] fun rH=>jc a 9 fun ko=>bn (α:=(yS8)×Bool×Unit) (u9 prog [.agg tS8,.one .bool] 70 #[vs ko,vi 33]) fun pB=>nw zS8 106 fun iR=>sn iR (lS8
 pB.1) fun _=>bn (α:=Unit) (ie (!pB.2.1) (sw iR 1 (vi 64) fun _=>pu ()) (pu ())) fun mv=>nn p0 fun pA=>kp pA 0 fun gh=>nn gh fun il=>kp il 0 fun kJ=>ji iR 1 fun ik=>cp 56 #[.pointer kJ,vi iU.1] fun
 hZ=>ji iR 1 fun oF=>rq (vi oF) (vi ik)<|cc 73 #[.pointer hZ,vi ik] fun pz=>cx 72 #[.pointer p0,vi iU.1,vs pz] fun rG=>pu ())) (nw zS9 79 fun fX=>jt a 10 fun jJ=>rq (.string jJ) (.string f)<|kp d 0
 fun jI=>rq (.pointer jI) (.pointer e)<|kp b 0 fun nC=>rq (.pointer nC) (.pointer c)<|bn (α:=(yS9)×Bool×Unit) (u9 prog [.agg tS9,.one .bool] 55 #[.pointer e,.string f]) fun iV=>sn fX (lS9
 iV.1) fun _=>cp 27 #[] fun nB=>jt a 10 fun nA=>bn (α:=Int×Bool×Int×Unit) (u9 prog [.one (.int .i64),.one .bool,.one (.int .u8)] 69 #[.pointer nB,.string nA,.bool false,.bool false]) fun
 la=>bn (α:=Bool×Unit) (jb a 13 fun nz=>ie nz (kt (ad a 14) 0 fun ny=>cu 12 #[.string ny] fun nv=>pu (!(nv==0),())) (pu (false,()))) fun nu=>bn (α:=Int×Unit) (ie nu.1 (pu (144,())) (nn p0
 fun nt=>kp nt 0 fun nr=>nn nr fun nq=>km nq 3 fun np=>bn (α:=Int) (A7u np) fun nk=>bn (α:=Int×Unit) (ie (decide (64≤(nk:Int))) (pu (151,())) (bn (α:=Int×Unit) (ie (!(la.2.2.1==
 0)) (pu (la.2.2.1,())) (bn (α:=Bool×Unit) (ie (!iV.2.1) (nn p0 fun nh=>kp nh 0 fun ng=>nn ng fun nf=>kp nf 0 fun nc=>cc 42 #[.pointer nc] fun na=>pu (decide (32≤(na.len:Int)),())) (pu
 (false,()))) fun mZ=>bn (α:=Int×Unit) (ie mZ.1 (pu (151,())) (pu (0,()))) fun mY=>pu (mY.1,()))) fun ni=>pu (ni.1,()))) fun nj=>pu (nj.1,()))) fun kZ=>ie (!(kZ.1==0)) (cx 34 #[.pointer p0,
 vi p1,.agg #[vi 2,.bool false,.bool false,vi 0,vi 0,ve,ve,.int .u8 kZ.1,vz,vz,ve,.bool false,vi 0,.bool false,ve,ve,vi 0,.bool false,vz,.bool false,.bool false,ve,ve,.bool false,vz,vz]] fun
 pR=>pu ()) (bn (α:=Bool×Unit) (ie iV.2.1 (jb fX 3 fun mX=>pu (mX,())) (pu (false,()))) fun mV=>bn (α:=Unit) (ie mV.1 (nn p0 fun kY=>kp kY 0 fun pQ=>nn pQ fun gN=>km gN 3 fun mT=>bn (α
 :=Nat) (B0H mT) fun gq=>bn (α:=Unit) (HM.loop (σ:=Unit) (τ:=Unit) (fun eN=>bn (α:=Option (Value×Value)) (A8G gq) fun kX=>A2Q kX (ie false (bn (α:=Int×(yS4)) (A4O (.one (.int
 .i64)) (.agg tS4) gq) fun kW=>nw zS4 112 fun kV=>sn kV (lS4 kW.2) fun _=>ji kV 0 fun mS=>ji fX 0 fun mR=>ie (mS==mR) (cx 68 #[.pointer p0,vi kW.1,.int .u8 142] fun pN=>pu (.inr ())) (pu
 (.inl ()))) (pu (.inr ()))) fun(pP:Value×Value)=>ie true (bn (α:=Int×(yS4)) (A4O (.one (.int .i64)) (.agg tS4) gq) fun kU=>nw zS4 112 fun kT=>sn kT (lS4 kU.2) fun _=>ji kT 0 fun mQ=>ji fX
 0 fun mP=>ie (mQ==mP) (cx 68 #[.pointer p0,vi kU.1,.int .u8 142] fun pM=>pu (.inr ())) (pu (.inl ()))) (pu (.inr ()))) ()) fun gn=>pu ()) (pu ())) fun mU=>jc a 9 fun mO=>bn (α:=(yS8)×Bool×Unit)
 (u9 prog [.agg tS8,.one .bool] 70 #[vs mO,vi 17]) fun mN=>nw zS8 106 fun kS=>sn kS (lS8 mN.1) fun _=>nn p0 fun mM=>kp mM 0 fun mL=>nn mL fun mK=>kp mK 0 fun mJ=>jt a 10 fun mI=>jb a
 11 fun mH=>ji kS 1 fun mG=>bn (α:=Int×Bool×Int×Unit) (u9 prog [.one (.int .i64),.one .bool,.one (.int .u8)] 69 #[.pointer mJ,.string mI,.bool mH,.bool (decide (0<(mG:Int)))]) fun
 im=>bn (α:=Bool×Unit) (ie iV.2.1 (ji fX 0 fun mE=>pu (!(im.1==mE),())) (pu (false,()))) fun mD=>bn (α:=Unit) (ie mD.1 (nn p0 fun mB=>kp mB 0 fun bp=>nn bp fun bo=>kp bo 1 fun
 sI=>ji fX 0 fun sH=>ci 71 #[.pointer sI,vi sH] fun wG=>pu ()) (pu ())) fun mC=>nn p0 fun sG=>kp sG 0 fun sF=>nn sF fun sE=>km sE 3 fun sD=>jb a 13 fun sC=>kt (ad a 14) 0 fun sB=>kt (ad a
 14) 1 fun sA=>ki (ad a 14) 2 fun sz=>kb (ad a 14) 3 fun sy=>bn (α:=Unit) (A3J (Instr.sameNow (.int .i64)) sD (vi p1) (.agg #[vi im.1,.bool sC,.string sB,.string sA,vi sz,.bool sy,ve]))
 fun _=>cx 67 #[.pointer p0,vi p1,.agg #[vi 2,.bool false,.bool false,vi 0,vi 0,ve,ve,.int .u8 0,vz,vz,ve,.bool false,vi 0,.bool false,ve,ve,vi 0,.bool false,vz,.bool false,.bool false,ve,ve,.bool
 im.2.1,vz,vz]] fun wE=>jc a 9 fun su=>bn (α:=(yS8)×Bool×Unit) (u9 prog [.agg tS8,.one .bool] 70 #[vs su,vi 33]) fun pL=>nw zS8 106 fun kR=>sn kR (lS8 pL.1) fun _=>bn (α:=Unit) (ie
 (!pL.2.1) (sw kR 1 (vi 64) fun _=>pu ()) (pu ())) fun wD=>nn p0 fun sr=>kp sr 0 fun sq=>nn sq fun sk=>kp sk 0 fun sj=>ji kR 1 fun pK=>cp 56 #[.pointer sj,vi im.1] fun si=>ji kR 1 fun
 sh=>rq (vi sh) (vi pK)<|cc 73 #[.pointer si,vi pK] fun sg=>cx 72 #[.pointer p0,vi im.1,vs sg] fun wB=>pu ()))
theorem A5R(p0:D0p)(p1:Int)(p2:yS2):HCs 33 #[.pointer p0,.int .i64 p1,.agg (aS3 p2)] (A4M p0 p1 p2) fun x=>.tuple #[]:=
 cE [] [0,1,2,5,6,7,8,9,12,13,14,15,17,18,20,21,44,54,64,68,84,94,102,104,112,147,195] [0,1,2,5,6,7,8,9,12,13,14,15,17,18,20,21,44,54,64,68,84,94,102,104,112,147,195] func33 ntmps33 (CC call55 (CC call27 (CC call69 (CC call12 (CC call42 (CC call34 (CC call68 (CC call70 (CC call71 (CC call67 (CC call56 (CC call73 (CC call72 CN)))))))))))))
def A6n(p0:D0p)(p1:Int)(p2:yS2):HM (Unit):=
 nw (aS3 p2) 45 fun a=>nn p0 fun b=>kc (Addr.add b 2) 0 fun c=>A1h (az a) fun d=>nw #[vi p1,vi d.1,.bool d.2.1,.bool d.2.2.1,vi d.2.2.2.1,vi d.2.2.2.2.1,.string (w5 d),.string (w6 d),.int .u8 (w7 d),vs (w8 d),
 vs (w9 d),.string (w10 d),.bool (w11 d),vi (w12 d),.bool (w13 d),.string (w14 d),.string (w15 d),vi (w16 d),.bool (w17 d),vs (w18 d),.bool (w19 d),.bool (w20 d),.string (w21 d),.string (w22 d),.bool (w23
 d),vs (w24 d),vs (w25 d),.bool true] 50 fun e=>kc (Addr.add b 2) 0 fun f=>rq (vs f) (vs c)<|bn (α:=Slc) (HM.append 50 28 344 zS1 c 1 (W4 28 (⟨some (az e),1,1⟩))) fun g=>nn p0 fun h=>sx (Addr.add (Addr.add h
 2) 0) (vs g) fun _=>pu ()
theorem A7r(p0:D0p)(p1:Int)(p2:yS2):HCs 34 #[.pointer p0,.int .i64 p1,.agg (aS3 p2)] (A6n p0 p1 p2) fun x=>.tuple #[]:=
 cE [] [0,1,2,5] [0,1,2,5] func34 ntmps34 CN
def A5V(p0:B4p):HM (Int×Unit):=
 cb 30 #[.string p0] fun a=>ie (!a) (pu (143,())) (cc 36 #[.string p0] fun b=>bn (α:=(Int×Unit)⊕(Int×Unit)) (HM.loop (σ:=Int×Unit) (τ:=(Int×Unit)⊕(Int×Unit)) (fun c=>ie (decide (c.1<(b.len:Int)))
 (ix b c.1 1 fun d=>lt d fun e=>bn (α:=(Unit)⊕((Int×Unit)⊕((Int×Unit)⊕(Int×Unit)))) (bn (α:=(Unit)⊕((Unit)⊕((Int×Unit)⊕((Int×Unit)⊕(Int×Unit))))) (bn (α:=(Unit)⊕((Unit)⊕((Unit)⊕((Int
 ×Unit)⊕((Int×Unit)⊕(Int×Unit)))))) (cb 31 #[.string e,.string (ByteArray.mk #[35])] fun f=>ie f (pu (.inl ())) (cb 31 #[.string e,.string (ByteArray.mk #[43])] fun g=>ie g (pu (.inr (.inl ()))) (pu (.inr (.inr
 (.inl ())))))) (Sum.elim (fun h=>ie (decide (c.1<((wi ((b.len:Int)-1)):Int))) (pu (.inr (.inr (.inr (.inr (143,())))))) (pu (.inl ()))) X8)) (Sum.elim (fun i=>ie (decide (1<(((ByteArray.size e:Nat):
 Int):Int))) (pu (.inr (.inr (.inr (143,()))))) (pu (.inl ()))) X8)) (Sum.elim (fun j=>pu (.inl (wi (c.1+1),()))) X8)) (pu (.inr (.inl (c.1,()))))) (0,())) (Sum.elim (fun k=>pu (0,())) X8))
theorem A6R(p0:B4p):HCs 35 #[.string p0] (A5V p0) fun x=>.int .u8 x.1:=
 cE [.one (.int .u8)] [0,2,3,4,5,8,11,12,13,14,18,21,28,31] [0,3,4,5,8,11,12,13,14,18,21,28,31] func35 ntmps35 (CC call30 (CC call36 (CC call31 CN)))
def A7A(p0:B4p):HM (Slc×Unit):=
 cc 74 #[.string p0,.string (ByteArray.mk #[47])] fun a=>pu (a,())
theorem A49(p0:B4p):HCs 36 #[.string p0] (A7A p0) fun x=>.slice x.1.a x.1.len x.1.cap:=
 cE [.one .slc] [0,2] [0] func36 ntmps36 (CC call74 CN)
def A6T(p0:Slc)(p1:Slc)(p2:Value):HM (Bool×Unit):=
 ie (!((p0.len:Int)==(p1.len:Int))) (pu (false,())) (bn (α:=(Int×Unit)⊕(Bool×Unit)) (HM.loop (σ:=Int×Unit) (τ:=(Int×Unit)⊕(Bool×Unit)) (fun a=>ie (decide (a.1<(p0.len:Int))) (ix p0 a.1 1
 fun b=>lt b fun c=>ix p1 a.1 1 fun d=>lt d fun e=>bn (α:=Bool) (B8T prog (.one .bool) p2 #[.string c,.string e]) fun f=>ie (!f) (pu (.inr (.inr (false,())))) (pu (.inl (wi (a.1+1),())))) (pu (.inr (.inl
 (a.1,()))))) (0,())) (Sum.elim (fun g=>pu (true,())) X8))
theorem A7D(p0:Slc)(p1:Slc)(p2:Value):HCs 37 #[.slice p0.a p0.len p0.cap,.slice p1.a p1.len p1.cap,p2] (A6T p0 p1 p2) fun x=>.bool x.1:=
 cE [.one .bool] [0,1,2,6,7,8,9,14,15,16,17,18,30] [0,1,2,7,8,9,14,15,16,17,18,30] func37 ntmps37 CN
def A8Z(p0:B4p)(p1:B4p):HM (Bool×Unit):=
 bn (α:=Bool×Unit) (ie (decide (p0=(ByteArray.mk #[43]))) (pu (true,())) (pu (decide (p0=p1),()))) fun a=>pu (a.1,())
theorem A8Y(p0:B4p)(p1:B4p):HCs 38 #[.string p0,.string p1] (A8Z p0 p1) fun x=>.bool x.1:=
 cE [.one .bool] [0,1,4] [0,1] func38 ntmps38 CN
def B4l(p0:Slc):HM (Slc×Slc×Unit):=
 bn (α:=Slc) (HM.slice p0 none (some (if 80<(p0.len:Int) then 80 else(p0.len:Int))) none 4) fun a=>bn (α:=Slc×Slc×Int×Unit) (HM.loop (σ:=Slc×Slc×Int×Unit) (τ:=Slc×Slc×Int×Unit) (fun b=>ie
 (decide (b.2.2.1<(a.len:Int))) (ix a b.2.2.1 4 fun c=>g8 c fun d=>nw zS8 193 fun e=>sn e (lS8 d) fun _=>g8 (az e) fun f=>g8 (az e) fun g=>A0R (nw (aS8 f) 106 fun h=>g8 (az e) fun i=>rq (.agg (aS8 i)) (.agg (aS8
 g))<|A0R (bn (α:=Slc) (HM.append 106 4 48 zS8 b.1 1 (W4 4 (⟨some (az h),1,1⟩))) fun j=>g8 (az e) fun k=>rq (.agg (aS8 k)) (.agg (aS8 g))<|nw (aS8 g) 194 fun l=>g8 (az e) fun m=>rq (.agg (aS8 m)) (.agg (aS8
 f))<|bn (α:=Slc) (HM.append 194 4 48 zS8 b.2.1 1 (W4 4 (⟨some (az l),1,1⟩))) fun n=>pu (.inl (j,n,wi (b.2.2.1+1),()))) (nw (aS8 g) 194 fun o=>g8 (az e) fun p=>rq (.agg (aS8 p)) (.agg (aS8 f))<|bn (α:=
 Slc) (HM.append 106 4 48 zS8 b.1 1 (W4 4 (⟨some (az h),1,1⟩))) fun q=>g8 (az e) fun r=>rq (.agg (aS8 r)) (.agg (aS8 g))<|bn (α:=Slc) (HM.append 194 4 48 zS8 b.2.1 1 (W4 4 (⟨some (az o),1,1⟩))) fun s=>pu
 (.inl (q,s,wi (b.2.2.1+1),())))) (nw (aS8 g) 194 fun t=>g8 (az e) fun u=>rq (.agg (aS8 u)) (.agg (aS8 f))<|nw (aS8 f) 106 fun v=>g8 (az e) fun w=>rq (.agg (aS8 w)) (.agg (aS8 g))<|bn (α:=Slc) (HM.append 106 4 48
 zS8 b.1 1 (W4 4 (⟨some (az v),1,1⟩))) fun x=>g8 (az e) fun y=>rq (.agg (aS8 y)) (.agg (aS8 g))<|bn (α:=Slc) (HM.append 194 4 48 zS8 b.2.1 1 (W4 4 (⟨some (az t),1,1⟩))) fun z=>pu (.inl (x,z,wi (b.2.2.1+
 1),())))) (pu (.inr (b.1,b.2.1,b.2.2.1,())))) (⟨none,0,0⟩,⟨none,0,0⟩,0,())) fun A=>pu (A.1,A.2.1,())
theorem B2m(p0:Slc):HCs 39 #[.slice p0.a p0.len p0.cap] (B4l p0) fun x=>.tuple #[.slice x.1.a x.1.len x.1.cap,.slice x.2.1.a x.2.1.len x.2.1.cap]:=
 cE [.one .slc,.one .slc] [0,2,3,4,5,7,12,13,14,15] [0,4,5,7,12,13,14,15] func39 ntmps39 CN
def A5f(p0:D0p):HM (Slc×Unit):=
 ie (Option.isNone p0) (pu (⟨none,0,0⟩,())) (nn p0 fun a=>km a 1 fun b=>bn (α:=Value) (A1C prog (.one .any) 78 #[.map b]) fun c=>cc 40 #[c] fun d=>bn (α:=Slc×Int×Unit) (HM.loop (σ:=Slc×Int×
 Unit) (τ:=Slc×Int×Unit) (fun e=>ie (decide (e.2.1<(d.len:Int))) (ix d e.2.1 1 fun f=>li f fun g=>nn p0 fun h=>km h 1 fun i=>bn (α:=D0p×Bool) (HM.lookup (Instr.sameNow (.int .i64)) (.pointer none)
 (.one .ptr) i (vi g)) fun j=>nn j.1 fun k=>g9 (Addr.add k 0) fun l=>nw (aS9 l) 79 fun m=>bn (α:=Slc) (HM.append 79 4 32 zS9 e.1 1 (W4 4 (⟨some (az m),1,1⟩))) fun n=>pu (.inl (n,wi (e.2.1+1),()))) (pu (.inr
 (e.1,e.2.1,())))) (⟨none,0,0⟩,0,())) fun o=>pu (o.1,()))
theorem A6s(p0:D0p):HCs 42 #[.pointer p0] (A5f p0) fun x=>.slice x.1.a x.1.len x.1.cap:=
 cE [.one .slc] [0,2,3,5,7,13,14,15,16] [0,3,5,7,13,14,15,16] func42 ntmps42 (CC call78 (CC call40 CN))
def A7q(p0:D0p)(p1:yS7):HM (Unit):=
 nw (aS7 p1) 83 fun a=>jb a 3 fun b=>bn (α:=Unit) (ie b (nn p0 fun c=>kp c 0 fun d=>nn d fun e=>kp e 2 fun f=>jt a 0 fun g=>jt a 1 fun h=>ji a 2 fun i=>cu 79 #[.pointer f,.agg #[.string g,.string h,vi i]] fun j=>pu
 ()) (pu ())) fun k=>nn p0 fun l=>kp l 0 fun m=>nn m fun n=>kp n 1 fun o=>jt a 0 fun p=>cc 80 #[.pointer o,.string p] fun q=>bn (α:=Slc×Unit) (HM.loop (σ:=Slc×Unit) (τ:=Slc×Unit) (fun r=>ie (decide (0<
 (r.1.len:Int))) (ix r.1 0 3 fun s=>ki s 0 fun t=>bn (α:=Int×Slc×Unit) (HM.loop (σ:=Int×Slc×Unit) (τ:=Int×Slc×Unit) (fun u=>bn (α:=Bool×Unit) (ie (decide (0<(u.2.1.len:Int))) (ix u.2.1 0 3 fun
 v=>ki v 0 fun w=>pu (w==t,())) (pu (false,()))) fun x=>ie x.1 (ix u.2.1 0 3 fun y=>ki y 2 fun z=>bn (α:=Slc) (HM.slice u.2.1 (some 1) none none 3) fun A=>pu (.inl (if u.1<(z:Int) then z else u.1,A,()))) (pu
 (.inr (u.1,u.2.1,())))) (0,r.1,())) fun B=>nn p0 fun C=>kp C 0 fun D=>nn D fun E=>kp E 0 fun F=>jt a 0 fun G=>jt a 1 fun H=>ji a 2 fun I=>A0R (cp 56 #[.pointer F,vi t] fun J=>ji a 2 fun K=>rq (vi K) (vi I)<|jt
 a 1 fun L=>rq (.string L) (.string H)<|jt a 0 fun M=>rq (.string M) (.string G)<|jt a 1 fun N=>rq (.string N) (.string H)<|jt a 0 fun O=>rq (.string O) (.string G)<|kp E 0 fun P=>rq (.pointer P) (.pointer F)<|kp C 0
 fun Q=>rq (.pointer Q) (.pointer D)<|bn (α:=Slc×Int×Unit) (u9 prog [.one .slc,.one (.int .u8)] 81 #[.pointer J,.agg #[.string G,.string H,vi (if B.1<(I:Int) then B.1 else I),.bool false,ve]])
 fun R=>cx 72 #[.pointer p0,vi t,vs R.1] fun S=>pu (.inl (B.2.1,()))) (jt a 1 fun T=>rq (.string T) (.string H)<|jt a 0 fun U=>rq (.string U) (.string G)<|kp E 0 fun V=>rq (.pointer V) (.pointer F)<|kp C 0 fun W=>rq
 (.pointer W) (.pointer D)<|cp 56 #[.pointer F,vi t] fun X=>ji a 2 fun Y=>rq (vi Y) (vi I)<|jt a 1 fun Z=>rq (.string Z) (.string H)<|jt a 0 fun kQ=>rq (.string kQ) (.string G)<|bn (α:=Slc×Int×Unit) (u9
 prog [.one .slc,.one (.int .u8)] 81 #[.pointer X,.agg #[.string G,.string H,vi (if B.1<(I:Int) then B.1 else I),.bool false,ve]]) fun ez=>cx 72 #[.pointer p0,vi t,vs ez.1] fun fj=>pu (.inl (B.2.1,
 ())))) (pu (.inr (r.1,())))) (q,())) fun sv=>pu ()
theorem A8l(p0:D0p)(p1:yS7):HCs 43 #[.pointer p0,.agg (aS7 p1)] (A7q p0 p1) fun x=>.tuple #[]:=
 cE [] [0,1,3,4,5,6,7,10,38,53] [0,1,3,4,5,6,7,10,38,53] func43 ntmps43 (CC call79 (CC call80 (CC call56 (CC call81 (CC call72 CN)))))
def A5U(p0:D0p):HM (Slc×Unit):=
 ie (Option.isNone p0) (pu (⟨none,0,0⟩,())) (bn (α:=Nat) (HM.new (.map #[] 0)) fun a=>nw #[.map none] 211 fun b=>sx (az b) (.map (some a)) fun _=>nn p0 fun c=>kp c 0 fun d=>cx 82 #[.pointer d,vz,.func (.func 83)
 #[] #[.pointer (some (az b))]] fun e=>lm (az b) fun f=>bn (α:=Value) (A1C prog (.one .any) 85 #[.map f]) fun g=>cc 84 #[g] fun h=>pu (h,()))
theorem A6Q(p0:D0p):HCs 44 #[.pointer p0] (A5U p0) fun x=>.slice x.1.a x.1.len x.1.cap:=
 cE [.one .slc] [0,2,3,5] [0,3,5] func44 ntmps44 (CC call82 (CC call85 (CC call84 CN)))
def B78(p0:Int):HM (D0p×Unit):=
 bn (α:=Int×Unit) (ie (decide (p0<(0:Int))) (pu (0,())) (pu (p0,()))) fun a=>bn (α:=Int×Unit) (ie (decide (64<(a.1:Int))) (pu (64,())) (pu (a.1,()))) fun b=>nw #[vi b.1,vz] 220 fun c=>pu (some (az
 c),())
theorem B4M(p0:Int):HCs 45 #[.int .i64 p0] (B78 p0) fun x=>.pointer x.1:=
 cE [.one .ptr] [0,2,4,6] [0,4,6] func45 ntmps45 CN
def B5E(p0:D0p)(p1:Int)(p2:Bool):HM (Unit):=
 cx 86 #[.pointer p0,.bool p2] fun a=>cx 87 #[.pointer p0,vi p1,.bool true] fun b=>pu ()
theorem B29(p0:D0p)(p1:Int)(p2:Bool):HCs 46 #[.pointer p0,.int .i64 p1,.bool p2] (B5E p0 p1 p2) fun x=>.tuple #[]:=
 cE [] [0,1,2] [0,1,2] func46 ntmps46 (CC call86 (CC call87 CN))
def B0s(p0:D0p)(p1:yS7):HM (Unit):=
 nw (aS7 p1) 143 fun a=>cx 86 #[.pointer p0,.bool false] fun b=>g7 (az a) fun c=>cx 88 #[.pointer p0,.agg (aS7 c)] fun d=>pu ()
theorem A95(p0:D0p)(p1:yS7):HCs 47 #[.pointer p0,.agg (aS7 p1)] (B0s p0 p1) fun x=>.tuple #[]:=
 cE [] [0,1,3] [0,1,3] func47 ntmps47 (CC call86 (CC call88 CN))
def B0r(p0:D0p):HM (Unit):=
 cx 86 #[.pointer p0,.bool false] fun a=>bn (α:=Unit) (HM.loop (σ:=Unit) (τ:=Unit) (fun b=>nn p0 fun c=>kc c 3 fun d=>ie (decide (0<(d.len:Int))) (nn p0 fun e=>kc e 3 fun f=>ix f 0 8 fun g=>ki g 0 fun h=>cx 87
 #[.pointer p0,vi h,.bool false] fun i=>pu (.inl ())) (pu (.inr ()))) ()) fun j=>pu ()
theorem A94(p0:D0p):HCs 48 #[.pointer p0] (B0r p0) fun x=>.tuple #[]:=
 cE [] [0,9] [0,9] func48 ntmps48 (CC call86 (CC call87 CN))
def B1J(p0:D0p)(p1:Int)(p2:yS2)(p3:Bool):HM (Unit):=
 nw (aS2 p2) 70 fun a=>cx 86 #[.pointer p0,.bool p3] fun b=>ci 89 #[.pointer p0,vi p1] fun c=>ie (decide (0≤(c:Int))) (nn p0 fun d=>kp d 0 fun e=>nn p0 fun f=>kc f 3 fun g=>ix g c 8 fun h=>ki h 1 fun i=>cp 90
 #[.pointer e,vi i] fun j=>g2 (az a) fun k=>cx 91 #[.pointer p0,vi p1,.pointer j,.agg (aS2 k)] fun l=>pu ()) (ji a 0 fun m=>ie (m==1) (g2 (az a) fun n=>cx 92 #[.pointer p0,vi p1,.agg (aS2 n)] fun o=>pu ()) (cx 93
 #[.pointer p0,vi p1,.agg #[vi 14,.bool false,.bool false,vi 0,vi 0,ve,ve,vi 130,vz,vz,ve,.bool false,vi 0,.bool false,ve,ve,vi 0,.bool false,vz,.bool false,.bool false,ve,ve,.bool false,vz,vz]]
 fun p=>pu ()))
theorem B00(p0:D0p)(p1:Int)(p2:yS2)(p3:Bool):HCs 49 #[.pointer p0,.int .i64 p1,.agg (aS2 p2),.bool p3] (B1J p0 p1 p2 p3) fun x=>.tuple #[]:=
 cE [] [0,1,2,3,6,8,9,17,38] [0,1,2,3,6,8,9,17,38] func49 ntmps49 (CC call86 (CC call89 (CC call90 (CC call91 (CC call92 (CC call93 CN))))))
def B0w(p0:Slc)(p1:Slc):HM (Bool×Unit):=
 ie (!((p0.len:Int)==(p1.len:Int))) (pu (false,())) (bn (α:=(Int×Unit)⊕(Bool×Unit)) (HM.loop (σ:=Int×Unit) (τ:=(Int×Unit)⊕(Bool×Unit)) (fun a=>ie (decide (a.1<(p0.len:Int))) (bn (α:=Bool
 ×Unit) (ix p0 a.1 28 fun b=>ki b 0 fun c=>ix p1 a.1 28 fun d=>ki d 0 fun e=>ie (!(c==e)) (A0R (pu (true,())) (pu (true,()))) (ix p0 a.1 28 fun f=>kb f 27 fun g=>ix p1 a.1 28 fun h=>kb h 27 fun i=>ie (!(g==i))
 (A0R (pu (true,())) (pu (true,()))) (ix p0 a.1 28 fun j=>A1h (Addr.add j 1) fun k=>ix p1 a.1 28 fun l=>g2 (Addr.add l 1) fun m=>A0R (nw (aS3 k) 45 fun n=>g2 (Addr.add l 1) fun o=>rq (.agg (aS2 o)) (.agg (aS2
 m))<|nw (aS2 m) 70 fun p=>A1h (Addr.add j 1) fun q=>rq (.agg (aS3 q)) (.agg (aS3 k))<|cb 94 #[.slice (some (az n)) 1 1,.slice (some (az p)) 1 1] fun r=>pu (!r,())) (nw (aS2 m) 70 fun s=>A1h (Addr.add j 1) fun t=>rq
 (.agg (aS3 t)) (.agg (aS3 k))<|nw (aS3 k) 45 fun u=>g2 (Addr.add l 1) fun v=>rq (.agg (aS2 v)) (.agg (aS2 m))<|cb 94 #[.slice (some (az u)) 1 1,.slice (some (az s)) 1 1] fun w=>pu (!w,()))))) fun x=>ie x.1 (pu (.inr
 (.inr (false,())))) (pu (.inl (wi (a.1+1),())))) (pu (.inr (.inl (a.1,()))))) (0,())) (Sum.elim (fun y=>pu (true,())) X8))
theorem B0a(p0:Slc)(p1:Slc):HCs 50 #[.slice p0.a p0.len p0.cap,.slice p1.a p1.len p1.cap] (B0w p0 p1) fun x=>.bool x.1:=
 cE [.one .bool] [0,1,4,5,10,12,13,14,55] [0,1,5,10,12,13,14,55] func50 ntmps50 (CC call94 CN)
def A5v(p0:Slc)(p1:Slc):HM (Bool×Unit):=
 ie (!((p0.len:Int)==(p1.len:Int))) (pu (false,())) (bn (α:=(Int×Unit)⊕(Bool×Unit)) (HM.loop (σ:=Int×Unit) (τ:=(Int×Unit)⊕(Bool×Unit)) (fun a=>ie (decide (a.1<(p0.len:Int))) (ix p0 a.1 5
 fun b=>g7 b fun c=>ix p1 a.1 5 fun d=>g7 d fun e=>ie (!((decide (c.1=e.1))&&((decide (c.2.1=e.2.1))&&((c.2.2.1==e.2.2.1)&&((c.2.2.2.1==e.2.2.2.1)&&((decide (c.2.2.2.2.1=e.2.2.2.2.1))&&true)))))) (pu
 (.inr (.inr (false,())))) (pu (.inl (wi (a.1+1),())))) (pu (.inr (.inl (a.1,()))))) (0,())) (Sum.elim (fun f=>pu (true,())) X8))
theorem A6y(p0:Slc)(p1:Slc):HCs 51 #[.slice p0.a p0.len p0.cap,.slice p1.a p1.len p1.cap] (A5v p0 p1) fun x=>.bool x.1:=
 cE [.one .bool] [0,1,4,5,10,12,13,14,24] [0,1,5,10,12,13,14,24] func51 ntmps51 CN
def B0v(p0:D0p):HM (Slc×Unit):=
 bn (α:=Slc×Int×Unit) (HM.loop (σ:=Slc×Int×Unit) (τ:=Slc×Int×Unit) (fun a=>nn p0 fun b=>kc b 0 fun c=>ie (decide (a.2.1<(c.len:Int))) (nn p0 fun d=>kc d 0 fun e=>ix e a.2.1 3 fun f=>kt f 1 fun g=>bn
 (α:=Bool×Slc×Int×Unit) (HM.loop (σ:=Bool×Slc×Int×Unit) (τ:=Bool×Slc×Int×Unit) (fun h=>ie (decide (h.2.2.1<(a.1.len:Int))) (ix a.1 h.2.2.1 1 fun i=>lt i fun j=>bn (α:=Bool×Unit) (ie (decide
 (j=g)) (pu (true,())) (pu (h.1,()))) fun k=>bn (α:=Bool×Unit) (ie (!k.1) (ix a.1 h.2.2.1 1 fun l=>lt l fun m=>pu (Op.bytesLess g.toList m.toList,())) (pu (false,()))) fun n=>bn (α:=Slc×Bool×Unit) (ie n.1
 (nw #[.string g] 9 fun o=>bn (α:=Slc) (HM.append 9 1 16 #[ve] h.2.1 1 (W4 1 (⟨some (az o),1,1⟩))) fun p=>pu (p,true,())) (pu (h.2.1,k.1,()))) fun q=>ix a.1 h.2.2.1 1 fun r=>lt r fun s=>nw #[.string s] 9 fun
 t=>bn (α:=Slc) (HM.append 9 1 16 #[ve] q.1 1 (W4 1 (⟨some (az t),1,1⟩))) fun u=>pu (.inl (q.2.1,u,wi (h.2.2.1+1),()))) (pu (.inr (h.1,h.2.1,h.2.2.1,())))) (false,⟨none,0,0⟩,0,())) fun v=>bn (α:=Slc
 ×Unit) (ie (!v.1) (nw #[.string g] 9 fun w=>bn (α:=Slc) (HM.append 9 1 16 #[ve] v.2.1 1 (W4 1 (⟨some (az w),1,1⟩))) fun x=>pu (x,())) (pu (v.2.1,()))) fun y=>pu (.inl (y.1,wi (a.2.1+1),()))) (pu (.inr
 (a.1,a.2.1,())))) (⟨none,0,0⟩,0,())) fun z=>pu (z.1,())
theorem A98(p0:D0p):HCs 52 #[.pointer p0] (B0v p0) fun x=>.slice x.1.a x.1.len x.1.cap:=
 cE [.one .slc] [0,2,3,4,5,6,7,8,15,29,37,47,60] [0,3,4,5,6,7,8,15,29,37,47,60] func52 ntmps52 CN
def B33(p0:D0p):HM (Slc×Unit):=
 bn (α:=Slc×Int×Unit) (HM.loop (σ:=Slc×Int×Unit) (τ:=Slc×Int×Unit) (fun a=>nn p0 fun b=>kc b 3 fun c=>ie (decide (a.2.1<(c.len:Int))) (bn (α:=Bool×Slc×Int×Unit) (HM.loop (σ:=Bool×Slc×
 Int×Unit) (τ:=Bool×Slc×Int×Unit) (fun d=>ie (decide (d.2.2.1<(a.1.len:Int))) (bn (α:=Bool×Unit) (ie (!d.1) (nn p0 fun e=>kc e 3 fun f=>ix f a.2.1 8 fun g=>ki g 0 fun h=>ix a.1 d.2.2.1 1 fun i=>li i fun
 j=>pu (decide (h<(j:Int)),())) (pu (false,()))) fun k=>bn (α:=Slc×Bool×Unit) (ie k.1 (nn p0 fun l=>kc l 3 fun m=>ix m a.2.1 8 fun n=>ki n 0 fun o=>nw #[vi o] 3 fun p=>bn (α:=Slc) (HM.append 3 1 8 #[vi 0]
 d.2.1 1 (W4 1 (⟨some (az p),1,1⟩))) fun q=>pu (q,true,())) (pu (d.2.1,d.1,()))) fun r=>ix a.1 d.2.2.1 1 fun s=>li s fun t=>nw #[vi t] 3 fun u=>bn (α:=Slc) (HM.append 3 1 8 #[vi 0] r.1 1 (W4 1 (⟨some (az
 u),1,1⟩))) fun v=>pu (.inl (r.2.1,v,wi (d.2.2.1+1),()))) (pu (.inr (d.1,d.2.1,d.2.2.1,())))) (false,⟨none,0,0⟩,0,())) fun w=>bn (α:=Slc×Unit) (ie (!w.1) (nn p0 fun x=>kc x 3 fun y=>ix y a.2.1 8 fun
 z=>ki z 0 fun A=>nw #[vi A] 3 fun B=>bn (α:=Slc) (HM.append 3 1 8 #[vi 0] w.2.1 1 (W4 1 (⟨some (az B),1,1⟩))) fun C=>pu (C,())) (pu (w.2.1,()))) fun D=>pu (.inl (D.1,wi (a.2.1+1),()))) (pu (.inr (a.1,
 a.2.1,())))) (⟨none,0,0⟩,0,())) fun E=>pu (E.1,())
theorem B1K(p0:D0p):HCs 53 #[.pointer p0] (B33 p0) fun x=>.slice x.1.a x.1.len x.1.cap:=
 cE [.one .slc] [0,2,3,4,5,6,7,14,20,39,59] [0,3,4,5,6,7,14,20,39,59] func53 ntmps53 CN
end Go.Proofs.YtidlldnlphdhcaaGreatDoor