/-
  Our texts, packed by program.
-/
import Derived.Test.YtidlldnlphdhcaaGreatDoorQBrokerCloses0
import Derived.MapKept
import Derived.Below
import Derived.Laws.Append
import Derived.ChangeArms
import Derived.DataReads
import Derived.SizedLaws
import Derived.Handed
import Derived.OpenShut
import Derived.Test.YtidlldnlphdhcaaGreatDoorProg
import Derived.KernelRfl
set_option linter.unusedSimpArgs false
set_option linter.unusedVariables false
set_option maxHeartbeats 16000000
set_option maxRecDepth 100000
namespace Go.H
section
open Go.MapKept (Stamped)
abbrev PH:=Nat→Option Obj
def PH.sub(m:PH)(h:Heap):Prop:=∀k o,m k=some o→h[k]? =some o
def PH.dL(a b:PH):Prop:=∀k,a k=none∨b k=none
def PH.join(a b:PH):PH:=fun k=>match a k with|some o=>some o|none=>b k
abbrev Asn:=PH→Prop
def star(A B:Asn):Asn:=fun m=>∃a b,a.dL b∧m=a.join b∧A a∧B b
def A0Q:List Asn→Asn
 |[]=>fun _=>True
 |A::L=>star A (A0Q L)
def exA{α:Type}(f:α→Asn):Asn:=fun m=>∃x,f x m
def pr(p:Prop):Asn:=fun _=>p
def blk(b:Nat)(o:Obj):Asn:=fun m=>m b=some o
def cells(b:Nat)(cs:C9O):Asn:=exA fun T=>blk b (.cells cs T (0,0))
def old(h0:Heap):Asn:=fun m=>∀(k:Nat) (o:Obj),h0[k]? =some o→m k=some o
def sat(h:Heap)(L:List Asn):Prop:=∃m,PH.sub m h∧A0Q L m
theorem join_none{a b:PH}{k:Nat}(h:a k=none):a.join b k=b k:=by simp[PH.join,h]
theorem A3Q{a b:PH}{k:Nat}{o:Obj}(h:a k=some o):a.join b k=some o:=by simp[PH.join,h]
theorem A7s{a b:PH}{k:Nat}{o:Obj}(hd:a.dL b)(h:b k=some o):a.join b k=some o:=by
 rcases hd k with h1|h1
 ·rw[join_none h1];exact h
 ·rw[h] at h1;cases h1
theorem C0e{a b:PH}{h:Heap}(hs:PH.sub (a.join b) h)(hd:a.dL b):PH.sub a h∧PH.sub b h:=
 ⟨fun k o ho=>hs k o (A3Q ho),fun k o ho=>hs k o (A7s hd ho)⟩
theorem B4M{a b:PH}{h:Heap}(ha:PH.sub a h)(hb:PH.sub b h):PH.sub (a.join b) h:=by
 intro k o ho
 cases hk:a k with
 |some o'=>rw[A3Q hk] at ho;cases ho;exact ha k _ hk
 |none=>rw[join_none hk] at ho;exact hb k o ho
theorem join_assoc(a b c:PH):(a.join b).join c=a.join (b.join c):=by
 funext k;simp only[PH.join];cases a k<;>rfl
theorem join_comm{a b:PH}(h:a.dL b):a.join b=b.join a:=by
 funext k;simp only[PH.join]
 rcases h k with h1|h1
 ·rw[h1];cases b k<;>rfl
 ·rw[h1];cases a k<;>rfl
theorem A3U{a b:PH}(h:a.dL b):b.dL a:=fun k=>(h k).symm
theorem B7Y{a b c:PH}(h1:a.dL c)(h2:b.dL c):(a.join b).dL c:=by
 intro k
 rcases h1 k with h|h
 ·rw[join_none h];exact h2 k
 ·exact .inr h
theorem B1X{a b c:PH}(h:(a.join b).dL c)(hd:a.dL b):a.dL c∧b.dL c:=by
 refine⟨fun k=>?_,fun k=>?_⟩
 ·rcases h k with h1|h1
  ·cases hk:a k with
   |none=>exact .inl rfl
   |some o=>rw[A3Q hk] at h1;cases h1
  ·exact .inr h1
 ·rcases h k with h1|h1
  ·cases hk:b k with
   |none=>exact .inl rfl
   |some o=>rw[A7s hd hk] at h1;cases h1
  ·exact .inr h1
theorem A98{A B C:Asn}{m:PH}(h:star (star A B) C m):star A (star B C) m:=by
 obtain⟨ab,c,hd,rfl,⟨a,b,iV,rfl,ha,hb⟩,hc⟩:=h
 obtain⟨h1,h2⟩:=B1X hd iV
 exact⟨a,b.join c,A3U (B7Y (A3U iV) (A3U h1)),join_assoc a b c,ha,b,c,h2,rfl,hb,hc⟩
theorem A8p{A B C:Asn}{m:PH}(h:star A (star B C) m):star (star A B) C m:=by
 obtain⟨a,bc,hd,rfl,ha,b,c,iV,rfl,hb,hc⟩:=h
 obtain⟨h1,h2⟩:=B1X (A3U hd) iV
 exact⟨a.join b,c,B7Y (A3U h2) iV,(join_assoc a b c).symm,⟨a,b,A3U h1,rfl,ha,hb⟩,hc⟩
theorem C3q{A B:Asn}{m:PH}(h:star A B m):star B A m:=by
 obtain⟨a,b,hd,rfl,ha,hb⟩:=h
 exact⟨b,a,A3U hd,join_comm hd,hb,ha⟩
theorem A0C{A A' B B':Asn}(ha:∀m,A m→A' m)(hb:∀m,B m→B' m){m:PH}(h:star A B m):star A' B' m:=by
 obtain⟨a,b,hd,rfl,h1,h2⟩:=h
 exact⟨a,b,hd,rfl,ha _ h1,hb _ h2⟩
section
variable {h:Heap} {A B C D E F G:Asn} {R:List Asn}
theorem sat.imp(hs:sat h (A::R))(ha:∀m,A m→B m):sat h (B::R):=by
 obtain⟨m,h1,h2⟩:=hs
 exact⟨m,h1,A0C ha (fun _ h=>h) h2⟩
theorem sat.tail{R':List Asn}(hs:sat h (A::R))(hr:∀m,A0Q R m→A0Q R' m):sat h (A::R'):=by
 obtain⟨m,h1,h2⟩:=hs
 exact⟨m,h1,A0C (fun _ h=>h) hr h2⟩
theorem z7{m:PH}(h:A0Q (A::B::R) m):A0Q (B::A::R) m:=
 A98 (A0C (fun _ h=>C3q h) (fun _ h=>h) (A8p h))
theorem A3E{R R':List Asn}(hr:∀m,A0Q R m→A0Q R' m){m:PH}(h:A0Q (A::R) m):A0Q (A::R') m:=A0C (fun _ h=>h) hr h
theorem sat.p1(hs:sat h (A::B::R)):sat h (B::A::R):=let⟨m,h1,h2⟩:=hs;⟨m,h1,z7 h2⟩
theorem sat.p2(hs:sat h (A::B::C::R)):sat h (C::A::B::R):=(hs.tail fun _=>z7).p1
theorem sat.p3(hs:sat h (A::B::C::D::R)):sat h (D::A::B::C::R):=(hs.tail fun _ hm=>z7 (A3E (fun _=>z7) hm)).p1
theorem sat.p4(hs:sat h (A::B::C::D::E::R)):sat h (E::A::B::C::D::R):=(hs.tail fun _ hm=>z7 (A3E (fun _ hm=>z7 (A3E (fun _=>z7) hm)) hm)).p1
theorem sat.p5(hs:sat h (A::B::C::D::E::F::R)):sat h (F::A::B::C::D::E::R):=
 (hs.tail fun _ hm=>z7 (A3E (fun _ hm=>z7 (A3E (fun _ hm=>z7 (A3E (fun _=>z7) hm)) hm)) hm)).p1
theorem sat.b2(hs:sat h (C::A::B::R)):sat h (A::B::C::R):=hs.p1.tail fun _=>z7
theorem sat.drop(hs:sat h (A::R)):sat h R:=by
 obtain⟨m,h1,a,r,hd,rfl,ha,hr⟩:=hs
 exact⟨r,(C0e h1 hd).2,hr⟩
theorem sat.aI:sat h (star A B::R)↔sat h (A::B::R):=
 ⟨fun⟨m,h1,h2⟩=>⟨m,h1,A98 h2⟩,fun⟨m,h1,h2⟩=>⟨m,h1,A8p h2⟩⟩
theorem sat.bA{α:Type}{f:α→Asn}:sat h (exA f::R)↔∃x,sat h (f x::R):=by
 constructor
 ·rintro⟨m,h1,a,r,hd,rfl,⟨x,ha⟩,hr⟩
  exact⟨x,_,h1,a,r,hd,rfl,ha,hr⟩
 ·rintro⟨x,m,h1,a,r,hd,rfl,ha,hr⟩
  exact⟨_,h1,a,r,hd,rfl,⟨x,ha⟩,hr⟩
theorem sat.bC{p:Prop}:sat h (pr p::R)↔p∧sat h R:=by
 constructor
 ·intro hs
  refine⟨?_,hs.drop⟩
  obtain⟨m,h1,a,r,hd,rfl,ha,hr⟩:=hs
  exact ha
 ·rintro⟨hp,m,h1,h2⟩
  refine⟨m,h1,fun _=>none,m,fun k=>.inl rfl,?_,hp,h2⟩
  funext k;rfl
theorem A29:∀(L R:List Asn) {m:PH},star (A0Q L) (A0Q R) m↔A0Q (L++R) m
 |[],R,m=>by
  constructor
  ·rintro⟨a,b,hd,rfl,-,hb⟩
   exact up R (a.join b) b (fun k o ho=>A7s hd ho) hb
  ·intro hr
   exact⟨fun _=>none,m,fun k=>.inl rfl,by funext k;rfl,trivial,hr⟩
 |A::L,R,m=>by
  constructor
  ·intro hm
   exact A0C (fun _ h=>h) (fun _ h=>(A29 L R).1 h) (A98 hm)
  ·intro hm
   exact A8p (A0C (fun _ h=>h) (fun _ h=>(A29 L R).2 h) hm)
where
 up:∀(R:List Asn) (m m':PH),(∀k o,m' k=some o→m k=some o)→A0Q R m'→A0Q R m
  |[],_,_,_,_=>trivial
  |A::R,m,m',bg,⟨a,b,hd,he,ha,hb⟩=>by
   subst he
   refine⟨a,fun k=>match a k with|some _=>none|none=>m k,fun k=>?_,?_,ha,?_⟩
   ·cases hk:a k with
    |none=>exact .inl rfl
    |some o=>exact .inr (by simp only[hk])
   ·funext k
    cases hk:a k with
    |none=>rw[join_none hk];simp[hk]
    |some o=>rw[A3Q hk];exact bg k o (A3Q hk)
   ·refine up R _ b (fun k o ho=>?_) hb
    have jo:a k=none:=by
     rcases hd k with h1|h1
     ·exact h1
     ·rw[ho] at h1;cases h1
    simp only[jo]
    exact bg k o (by rw[join_none jo];exact ho)
theorem sat.bV{L:List Asn}:sat h (A0Q L::R)↔sat h (L++R):=
 ⟨fun⟨m,h1,h2⟩=>⟨m,h1,(A29 L R).1 h2⟩,fun⟨m,h1,h2⟩=>⟨m,h1,(A29 L R).2 h2⟩⟩
theorem sat.get{b:Nat}{o:Obj}(hs:sat h (blk b o::R)):h[b]? =some o:=by
 obtain⟨m,h1,a,r,hd,rfl,ha,hr⟩:=hs
 exact h1 b o (A3Q ha)
theorem sat.lt{b:Nat}{o:Obj}(hs:sat h (blk b o::R)):b<h.size:=(F7.1 hs.get).1
theorem sat.bG{b:Nat}{o o':Obj}{h':Heap}(hs:sat h (blk b o::R))(hb:h'[b]? =some o')(hk:∀k,k≠b→h'[k]? =h[k]?):sat h' (blk b o'::R):=by
 obtain⟨m,h1,a,r,hd,rfl,ha,hr⟩:=hs
 have uQ:r b=none:=by
  rcases hd b with h2|h2
  ·rw[ha] at h2;cases h2
  ·exact h2
 refine⟨PH.join (fun k=>if k=b then some o' else none) r,?_,_,r,fun k=>?_,rfl,by simp[blk],hr⟩
 ·refine B4M (fun k x hx=>?_) (fun k x hx=>?_)
  ·have dQ:(if k=b then some o' else none)=some x:=hx
   split at dQ
   ·rename_i e;subst e;cases dQ;exact hb
   ·cases dQ
  ·rw[hk k (fun e=>by subst e;rw[uQ] at hx;cases hx)]
   exact(C0e h1 hd).2 k x hx
 ·by_cases e:k=b
  ·subst e;exact .inr uQ
  ·exact .inl (by simp[e])
theorem sat.push{o:Obj}(hs:sat h R):sat (h.push o) (blk h.size o::R):=by
 obtain⟨m,h1,hr⟩:=hs
 have hm:m h.size=none:=by
  cases hh:m h.size with
  |none=>rfl
  |some x=>
   have:=h1 _ _ hh
   rw[R5 (by omega)] at this
   cases this
 refine⟨PH.join (fun k=>if k=h.size then some o else none) m,?_,_,m,fun k=>?_,rfl,by simp[blk],hr⟩
 ·refine B4M (fun k x hx=>?_) (fun k x hx=>?_)
  ·have dQ:(if k=h.size then some o else none)=some x:=hx
   split at dQ
   ·rename_i e;subst e;cases dQ;simp
   ·cases dQ
  ·have:=h1 k x hx
   have ah:=(F7.1 this).1
   rw[N4,if_neg (by omega)]
   exact this
 ·by_cases e:k=h.size
  ·subst e;exact .inr hm
  ·exact .inl (by simp[e])
theorem sat.dN{h0:Heap}{k:Nat}{o:Obj}(hs:sat h (old h0::R))(hk:h0[k]? =some o):h[k]? =some o:=by
 obtain⟨m,h1,a,r,hd,rfl,ha,hr⟩:=hs
 exact h1 k o (A3Q (ha k o hk))
theorem sat_old(h0:Heap):sat h0 [old h0]:=by
 refine⟨fun k=>h0[k]?,fun k o ho=>ho,fun k=>h0[k]?,fun _=>none,fun k=>.inr rfl,?_,fun k o ho=>ho,trivial⟩
 funext k
 simp only[PH.join]
 cases h0[k]? <;>rfl
theorem sat.bY{h0:Heap}{a:Addr}{v:Value}(hs:sat h (old h0::R))(hc:W0 h0 a=some v):W0 h a=some v:=by
 unfold W0 at hc⊢
 cases hb:h0[a.block]? with
 |none=>simp[hb] at hc
 |some o=>rw[hs.dN hb];rw[hb] at hc;exact hc
theorem A2l{b:Nat}{cs:C9O}:sat h (cells b cs::R)↔∃T,sat h (blk b (.cells cs T (0,0))::R):=sat.bA
theorem sat.cell{b:Nat}{cs:C9O}(hs:sat h (cells b cs::R))(i:Nat):W0 h ⟨b,i,none⟩=cs[i]? :=by
 obtain⟨T,hs⟩:=A2l.1 hs
 simp[W0,hs.get]
theorem sat.free{b:Nat}{cs:C9O}(hs:sat h (cells b cs::R))(i:Nat):A2j h ⟨b,i,none⟩=false:=by
 obtain⟨T,hs⟩:=A2l.1 hs
 simp[A2j,hs.get]
theorem sat.fC{b:Nat}{cs:C9O}(hs:sat h (cells b cs::R)):b<h.size:=by
 obtain⟨T,hs⟩:=A2l.1 hs
 exact hs.lt
theorem sat.set{b:Nat}{cs:C9O}(hs:sat h (cells b cs::R))(i:Nat)(v:Value):sat (A2t h ⟨b,i,none⟩ v) (cells b (cs.setIfInBounds i v)::R):=by
 obtain⟨T,hs⟩:=A2l.1 hs
 refine A2l.2 ⟨T,hs.bG ?_ ?_⟩
 ·simp[A2t,O6,hs.get]
 ·intro k hk
  simp only[A2t,O6]
  rw[if_neg (fun e=>hk e.symm)]
theorem sat.bK{T:TypeId}{cs:C9O}(hs:sat h R):sat (h.push (.cells cs T)) (cells h.size cs::R):=A2l.2 ⟨T,hs.push⟩
end
section
variable {α β:Type} {h:Heap} {Q:α→Heap→Prop} {R:List Asn}
@[simp] theorem V1 (a:α):W9 a h Q=Q a h:=rfl
@[simp] theorem U1 (m:HM β) (f:β→HM α):HM.bind m f h Q=m h (fun b h'=>f b h' Q):=rfl
@[simp] theorem U9 (b:Bool) (x y:HM α):A04 b x y h Q=if b=true then x h Q else y h Q:=rfl
@[simp] theorem C9K (x y:HM α):A0G x y h Q=(x h Q∧y h Q):=rfl
@[simp] theorem C7f (p:Prop) (m:HM α):A3t p m h Q=(p∧m h Q):=rfl
@[simp] theorem C9L:(U4:HM α) h Q=False:=rfl
@[simp] theorem C9k (a:Addr) (Q:Addr→Heap→Prop):A77 (some a) h Q=Q a h:=by simp[A77]
theorem C7t{t:Tag}{a:Addr}{x:t.ty}{Q:t.ty→Heap→Prop}(hc:W0 h a=some (t.val x))(hq:Q x h):l6 t a h Q:=⟨x,hc,hq⟩
@[simp] theorem Addr.bM (b o n:Nat):Addr.add ⟨b,o,none⟩ n=⟨b,o+n,none⟩:=by
 cases n<;>simp[Addr.add]
@[simp] theorem C8H (k:IntKind) (a:Addr) (Q:Int→Heap→Prop):l6 (.int k) a h Q=∃x,W0 h a=some (.int k x)∧Q x h:=rfl
@[simp] theorem C7Q (a:Addr) (Q:Bool→Heap→Prop):l6 .bool a h Q=∃x,W0 h a=some (.bool x)∧Q x h:=rfl
@[simp] theorem C8D (a:Addr) (Q:B3O→Heap→Prop):l6 .str a h Q=∃x,W0 h a=some (.string x)∧Q x h:=rfl
@[simp] theorem C8F (a:Addr) (Q:C9N→Heap→Prop):l6 .ptr a h Q=∃x,W0 h a=some (.pointer x)∧Q x h:=rfl
@[simp] theorem C8G (a:Addr) (Q:Option Nat→Heap→Prop):l6 .map a h Q=∃x,W0 h a=some (.map x)∧Q x h:=rfl
@[simp] theorem C8I (a:Addr) (Q:Value→Heap→Prop):l6 .any a h Q=∃x,W0 h a=some x∧Q x h:=rfl
def C4Q:Option Value→Option Slc
 |some (.slice p n c)=>some ⟨p,n,c⟩
 |_=>none
@[simp] theorem C7j (p:C9N) (n c:Nat):C4Q (some (.slice p n c))=some ⟨p,n,c⟩:=rfl
@[simp] theorem Slc.eta (s:Slc):(⟨s.a,s.len,s.cap⟩:Slc)=s:=rfl
@[simp] theorem C8E (a:Addr) (Q:Slc→Heap→Prop):l6 .slc a h Q=∃x,C4Q (W0 h a)=some x∧Q x h:=by
 refine propext ⟨fun⟨x,h1,h2⟩=>⟨x,by rw[h1];rfl,h2⟩,fun⟨x,h1,h2⟩=>⟨x,?_,h2⟩⟩
 unfold C4Q at h1
 split at h1
 ·rename_i e;rw[e];cases h1;rfl
 ·cases h1
theorem W7{b:Nat}{cs:C9O}{i:Nat}{v:Value}{Q:Unit→Heap→Prop}(hs:sat h (cells b cs::R))(hi:i<cs.size)(hv:v.oneCell'=true)
  (hq:∀h',sat h' (cells b (cs.setIfInBounds i v)::R)→Q () h'):A6Z ⟨b,i,none⟩ v h Q:=
 ⟨by rw[hs.cell i];simp[hi],hs.free i,hv,hq _ (hs.set i v)⟩
theorem V5{cs:C9O}{T:TypeId}{Q:Nat→Heap→Prop}(hs:sat h R)(hq:∀b h',sat h' (cells b cs::R)→Q b h'):HM.new (.cells cs T) h Q:=hq _ _ hs.bK
theorem C6N{o:Obj}{Q:Nat→Heap→Prop}(hs:sat h R)(hq:∀b h',sat h' (blk b o::R)→Q b h'):HM.new o h Q:=hq _ _ hs.push
def Kind.un(k:Kind)(Q:k.ty→Heap→Prop)(v:Value)(h:Heap):Prop:=∃x,v=k.val x∧Q x h
def q9.un(ks:List Kind)(Q:q9 ks→Heap→Prop)(v:Value)(h:Heap):Prop:=∃x,v=.tuple (q9.cC ks x).toArray∧Q x h
@[simp] theorem C6m (P:Program) (k:Kind) (f:FuncId) (args:C9O) (Q:k.ty→Heap→Prop):A1s P k f args h Q=V3 P f args h (k.un Q):=rfl
@[simp] theorem C9M (P:Program) (ks:List Kind) (f:FuncId) (args:C9O) (Q:q9 ks→Heap→Prop):s7 P ks f args h Q=V3 P f args h (q9.un ks Q):=rfl
@[simp] theorem C9z (k:IntKind) (Q:Int→Heap→Prop) (n:Int):Kind.un (.one (.int k)) Q (.int k n) h=Q n h:=by simp[Kind.un,Kind.val,Tag.val]
@[simp] theorem C6v (Q:Bool→Heap→Prop) (b:Bool):Kind.un (.one .bool) Q (.bool b) h=Q b h:=by
 simp only[Kind.un,Kind.val,Tag.val,Value.bool.injEq]
 exact propext ⟨fun⟨x,h1,h2⟩=>h1▸h2,fun h=>⟨b,rfl,h⟩⟩
@[simp] theorem C9x (Q:B3O→Heap→Prop) (b:B3O):Kind.un (.one .str) Q (.string b) h=Q b h:=by simp[Kind.un,Kind.val,Tag.val]
@[simp] theorem C7x (Q:C9N→Heap→Prop) (b:C9N):Kind.un (.one .ptr) Q (.pointer b) h=Q b h:=by simp[Kind.un,Kind.val,Tag.val]
@[simp] theorem C9y (Q:Option Nat→Heap→Prop) (b:Option Nat):Kind.un (.one .map) Q (.map b) h=Q b h:=by simp[Kind.un,Kind.val,Tag.val]
@[simp] theorem C4G (Q:Value→Heap→Prop) (b:Value):Kind.un (.one .any) Q b h=Q b h:=by simp[Kind.un,Kind.val,Tag.val]
@[simp] theorem C00 (Q:Slc→Heap→Prop) (a:C9N) (n c:Nat):Kind.un (.one .slc) Q (.slice a n c) h=Q ⟨a,n,c⟩ h:=by
 refine propext ⟨?_,fun hq=>⟨⟨a,n,c⟩,rfl,hq⟩⟩
 rintro⟨x,h1,h2⟩
 cases h1
 exact h2
theorem U6{β:Type}{P:Program}{k:Kind}{f:FuncId}{args:C9O}{g:k.ty→HM β}{h:Heap}{Q:β→Heap→Prop}(hc:V3 P f args h (k.un fun x h'=>g x h' Q)):(HM.bind (A1s P k f args) g) h Q:=hc
theorem u9{β:Type}{P:Program}{ks:List Kind}{f:FuncId}{args:C9O}{g:q9 ks→HM β}{h:Heap}{Q:β→Heap→Prop}(hc:V3 P f args h (q9.un ks fun x h'=>g x h' Q)):(HM.bind (s7 P ks f args) g) h Q:=hc
@[simp] theorem un2 (k l:Kind) (Q:q9 [k,l]→Heap→Prop) (v w:Value):q9.un [k,l] Q (.tuple #[v,w]) h=k.un (fun x _=>l.un (fun y h=>Q (x,y,()) h) w h) v h:=by
 refine propext ⟨?_,?_⟩
 ·rintro⟨⟨x,y,u⟩,h1,h2⟩
  have h1:#[v,w]=[k.val x,l.val y].toArray:=Value.tuple.inj h1
  have h1:=congrArg Array.toList h1
  simp at h1
  exact⟨x,h1.1,y,h1.2,h2⟩
 ·rintro⟨x,h1,y,h2,h3⟩
  exact⟨(x,y,()),by rw[h1,h2];rfl,h3⟩
@[simp] theorem un3 (k l m:Kind) (Q:q9 [k,l,m]→Heap→Prop) (v w z:Value):q9.un [k,l,m] Q (.tuple #[v,w,z]) h=k.un (fun x _=>l.un (fun y _=>m.un (fun t h=>Q (x,y,t,()) h) z h) w h) v h:=by
 refine propext ⟨?_,?_⟩
 ·rintro⟨⟨x,y,t,u⟩,h1,h2⟩
  have h1:#[v,w,z]=[k.val x,l.val y,m.val t].toArray:=Value.tuple.inj h1
  have h1:=congrArg Array.toList h1
  simp at h1
  exact⟨x,h1.1,y,h1.2.1,t,h1.2.2,h2⟩
 ·rintro⟨x,h1,y,h2,t,h3,h4⟩
  exact⟨(x,y,t,()),by rw[h1,h2,h3];rfl,h4⟩
@[simp] theorem un0 (Q:q9 []→Heap→Prop):q9.un [] Q (.tuple #[]) h=Q () h:=by
 refine propext ⟨fun⟨x,_,h2⟩=>h2,fun h=>⟨(),rfl,h⟩⟩
@[simp] theorem C9v (x:Unit):packed [] x=.tuple #[]:=rfl
@[simp] theorem C9u (k:Kind) (x:k.ty):packed [k] (x,())=k.val x:=rfl
@[simp] theorem C9t (k l:Kind) (x:k.ty) (y:l.ty):packed [k,l] (x,y,())=.tuple #[k.val x,l.val y]:=rfl
@[simp] theorem C9s (k l m:Kind) (x:k.ty) (y:l.ty) (z:m.ty):packed [k,l,m] (x,y,z,())=.tuple #[k.val x,l.val y,m.val z]:=rfl
@[simp] theorem val_one (t:Tag) (x:t.ty):Kind.val (.one t) x=t.val x:=rfl
@[simp] theorem C9q (k:IntKind) (x:Int):Tag.val (.int k) x=.int k x:=rfl
@[simp] theorem C8J (x:Bool):Tag.val .bool x=.bool x:=rfl
@[simp] theorem C9m (x:B3O):Tag.val .str x=.string x:=rfl
@[simp] theorem C9o (x:C9N):Tag.val .ptr x=.pointer x:=rfl
@[simp] theorem C9p (x:Option Nat):Tag.val .map x=.map x:=rfl
@[simp] theorem C9r (x:Value):Tag.val .any x=x:=rfl
@[simp] theorem C9n (x:Slc):Tag.val .slc x=.slice x.a x.len x.cap:=rfl
@[simp] theorem C9D {k:IntKind} {n:Int} {Q:Int→Prop}:(∃x:Int,Value.int k n=.int k x∧Q x)=Q n:=by simp
theorem C9w{σ τ:Type}{body:σ→HM (σ⊕τ)}{s:σ}{Q:τ→Heap→Prop}(I:σ→Heap→Prop)(μ:σ→Heap→Nat)(h0:I s h)(hr:∀s h,I s h→body s h fun r h'=>match r with
   |.inl s'=>I s' h'∧μ s' h'<μ s h
   |.inr t=>Q t h'):HM.loop body s h Q:=⟨I,μ,h0,hr⟩
theorem C1D{σ τ:Type}{body:σ→HM (σ⊕τ)}{s:σ}{h:Heap}{Q:τ→Heap→Prop}(I:Nat→σ→Heap→Prop){n:Nat}(h0:I n s h)
  (hr:∀n s h,I n s h→body s h fun r h'=>match r with
   |.inl s'=>∃m,m<n∧I m s' h'
   |.inr t=>Q t h')(qi:∀s h (Q1 Q2:σ⊕τ→Heap→Prop),(∀r h',Q1 r h'→Q2 r h')→body s h Q1→body s h Q2):HM.loop body s h Q:=by
 classical
 have least:∀s h,(∃n,I n s h)→∃n,I n s h∧∀m,I m s h→n≤m:=by
  intro s h ⟨n,hn⟩
  induction n using Nat.strongRecOn with
  |_ n ih=>
   by_cases hx:∃m,m<n∧I m s h
   ·obtain⟨m,hm,hi⟩:=hx;exact ih m hm hi
   ·exact⟨n,hn,fun m hm=>by
     rcases S8 m n with ah|qy
     ·exact absurd ⟨m,ah,hm⟩ hx
     ·exact qy⟩
 refine⟨fun s h=>∃n,I n s h,fun s h=>if hx:∃n,I n s h then Classical.choose (least s h hx) else 0,⟨n,h0⟩,fun s h hx=>?_⟩
 obtain⟨fx,ez⟩:=Q0 (least s h hx)
 refine qi s h _ _ ?_ (hr _ s h fx)
 intro r h' hq
 cases r with
 |inr t=>exact hq
 |inl s'=>
  obtain⟨m,hm,hi⟩:=hq
  have dQ:∃n,I n s' h':=⟨m,hi⟩
  refine⟨dQ,?_⟩
  simp only[dif_pos hx,dif_pos dQ]
  obtain⟨_,iA⟩:=Q0 (least s' h' dQ)
  exact Nat.lt_of_le_of_lt (iA m hi) hm
end
section
variable {K V:Type} [DecidableEq K]
def W3(l:List (K×V))(k:K):Option V:=(l.find? (fun p=>decide (p.1=k))).map (·.2)
def mset:List (K×V)→K→V→List (K×V)
 |[],k,v=>[(k,v)]
 |(a,b)::l,k,v=>if a=k then(k,v)::l else(a,b)::mset l k v
def mdel:List (K×V)→K→List (K×V)
 |[],_=>[]
 |(a,b)::l,k=>if a=k then l else(a,b)::mdel l k
@[simp] theorem B5u (k:K):W3 ([]:List (K×V)) k=none:=rfl
theorem Y4(a:K)(b:V)(l:List (K×V))(k:K):W3 ((a,b)::l) k=if a=k then some b else W3 l k:=by
 by_cases h:a=k<;>simp[W3,List.find?,h]
theorem j0(l:List (K×V))(k:K)(v:V)(k':K):W3 (mset l k v) k'=if k=k' then some v else W3 l k':=by
 induction l with
 |nil=>simp[mset,Y4]
 |cons p l ih=>
  obtain⟨a,b⟩:=p
  simp only[mset]
  by_cases h:a=k
  ·rw[if_pos h,Y4,Y4]
   by_cases h':k=k'
   ·simp[h']
   ·rw[if_neg h',if_neg h',if_neg (by rw[h];exact h')]
  ·rw[if_neg h,Y4,Y4,ih]
   by_cases h':k=k'
   ·subst h';simp[h]
   ·simp[h']
def A6h(ek:K→Value)(ev:V→Value)(l:List (K×V))(es:List MapEntry):Prop:=es.map (fun e=>(e.key,e.val))=l.map (fun p=>(ek p.1,ev p.2))
structure KeyLaw(kd:A2y)(ek:K→Value):Prop where
 same:∀a b,kd (ek a) (ek b)=some (decide (a=b))
 bits:∀a,Instr.sameBits 10000 (ek a) (ek a)=true
theorem B1o{kd:A2y}{ek:K→Value}(hk:KeyLaw kd ek){ev:V→Value}(k:K):∀(l:List (K×V)) (es:List MapEntry) (i:Nat),A6h ek ev l es→
  (W3 l k=none∧A05 kd (ek k) es i=some none)∨∃v j e,W3 l k=some v∧A05 kd (ek k) es i=some (some (i+j,ev v))∧es[j]? =some e∧e.key=ek k
 |[],[],i,_=>.inl ⟨rfl,rfl⟩
 |[],_::_,i,h=>by simp[A6h] at h
 |_::_,[],i,h=>by simp[A6h] at h
 |(a,b)::l,e::es,i,h=>by
  simp only[A6h,B6,List.cons.injEq,Prod.mk.injEq] at h
  obtain⟨⟨h1,h2⟩,h3⟩:=h
  simp only[A05,h1,hk.same,Y4]
  by_cases jP:k=a
  ·subst jP
   right
   exact⟨b,0,e,by simp,by simp[h2],rfl,h1⟩
  ·have jo:¬a=k:=fun hh=>jP hh.symm
   simp only[jP,jo,decide_false,if_false]
   rcases B1o hk k l es (i+1) h3 with⟨h4,h5⟩|⟨v,j,e',h4,h5,h6,h7⟩
   ·exact .inl ⟨h4,h5⟩
   ·exact .inr ⟨v,j+1,e',h4,by rw[h5];congr 3;omega,by simpa using h6,h7⟩
theorem C0u{ek:K→Value}(gN:∀a b,ek a=ek b→a=b){ev:V→Value}(k:K)(x:V):∀(l:List (K×V)) (es:List MapEntry),A6h ek ev l es→∀(i:Nat) (o:Nat×Value) (kd:A2y),KeyLaw kd ek→
  A05 kd (ek k) es i=some (some o)→A6h ek ev (mset l k x) (es.modify (o.1-i) fun e=>{e with key:=ek k,val:=ev x})∧i≤o.1
 |[],[],_,i,o,kd,_,hf=>by simp[A05] at hf
 |[],_::_,h,_,_,_,_,_=>by simp[A6h] at h
 |_::_,[],h,_,_,_,_,_=>by simp[A6h] at h
 |(a,b)::l,e::es,h,i,o,kd,hk,hf=>by
  simp only[A6h,B6,List.cons.injEq,Prod.mk.injEq] at h
  obtain⟨⟨h1,h2⟩,h3⟩:=h
  simp only[A05,h1,hk.same] at hf
  by_cases jP:k=a
  ·subst jP
   simp only[decide_true,F4] at hf
   subst hf
   simp only[Q3,mset,if_true]
   refine⟨?_,D9 _⟩
   simp[A6h,List.modify_zero_cons] at h3⊢
   exact h3
  ·simp only[jP,decide_false] at hf
   obtain⟨h4,h5⟩:=C0u gN k x l es h3 (i+1) o kd hk hf
   refine⟨?_,by omega⟩
   rw[show o.1-i=(o.1-(i+1))+1 from by omega]
   simp only[mset,if_neg (fun hh:a=k=>jP hh.symm),List.modify_succ_cons]
   simp only[A6h,B6,h1,h2]
   rw[h4]
theorem A2R:∀(l:List (K×V)) (k:K) (v:V),W3 l k=none→mset l k v=l++[(k,v)]
 |[],_,_,_=>rfl
 |(a,b)::l,k,v,h=>by
  rw[Y4] at h
  by_cases jo:a=k
  ·rw[if_pos jo] at h;cases h
  ·rw[if_neg jo] at h
   simp only[mset,if_neg jo,G5,A2R l k v h]
theorem C0v{ek:K→Value}{ev:V→Value}(k:K):∀(l:List (K×V)) (es:List MapEntry),A6h ek ev l es→∀(i:Nat) (o:Nat×Value) (kd:A2y),KeyLaw kd ek→
  A05 kd (ek k) es i=some (some o)→A6h ek ev (mdel l k) (es.eraseIdx (o.1-i))∧i≤o.1
 |[],[],_,i,o,kd,_,hf=>by simp[A05] at hf
 |[],_::_,h,_,_,_,_,_=>by simp[A6h] at h
 |_::_,[],h,_,_,_,_,_=>by simp[A6h] at h
 |(a,b)::l,e::es,h,i,o,kd,hk,hf=>by
  simp only[A6h,B6,List.cons.injEq,Prod.mk.injEq] at h
  obtain⟨⟨h1,h2⟩,h3⟩:=h
  simp only[A05,h1,hk.same] at hf
  by_cases jP:k=a
  ·subst jP
   simp only[decide_true,F4] at hf
   subst hf
   simp only[Q3,mdel,if_true]
   exact⟨h3,D9 _⟩
  ·simp only[jP,decide_false] at hf
   obtain⟨h4,h5⟩:=C0v k l es h3 (i+1) o kd hk hf
   refine⟨?_,by omega⟩
   rw[show o.1-i=(o.1-(i+1))+1 from by omega]
   simp only[mdel,if_neg (fun hh:a=k=>jP hh.symm),List.eraseIdx_cons_succ]
   simp only[A6h,B6,h1,h2]
   rw[h4]
theorem B7E:∀(l:List (K×V)) (k:K),W3 l k=none→mdel l k=l
 |[],_,_=>rfl
 |(a,b)::l,k,h=>by
  rw[Y4] at h
  by_cases jo:a=k
  ·rw[if_pos jo] at h;cases h
  ·rw[if_neg jo] at h
   simp only[mdel,if_neg jo,B7E l k h]
end
section
variable {K V:Type}
def mapA(ek:K→Value)(ev:V→Value)(r:Nat)(l:List (K×V)):Asn:=
 exA fun x:Array MapEntry×Nat=>star (pr (A6h ek ev l x.1.toList∧Stamped x.1 x.2)) (blk r (.map x.1 x.2))
variable {h:Heap} {R:List Asn} {ek:K→Value}
theorem A1f{ev:V→Value}{r:Nat}{l:List (K×V)}:sat h (mapA ek ev r l::R)↔∃es clock,(A6h ek ev l es.toList∧Stamped es clock)∧sat h (blk r (.map es clock)::R):=by
 unfold mapA
 rw[sat.bA]
 constructor
 ·rintro⟨⟨es,c⟩,hs⟩
  rw[sat.aI,sat.bC] at hs
  exact⟨es,c,hs⟩
 ·rintro⟨es,c,hs⟩
  exact⟨(es,c),by rw[sat.aI,sat.bC];exact hs⟩
theorem A7i{ev:V→Value}{Q:Nat→Heap→Prop}(hs:sat h R)(hq:∀r h',sat h' (mapA ek ev r []::R)→Q r h'):HM.new (.map #[] 0) h Q:=
 C6N hs fun r h' af=>hq r h' (A1f.2 ⟨#[],0,⟨rfl,Go.MapKept.stamped_empty 0⟩,af⟩)
theorem A9a{ev:V→Value}{r:Nat}{l:List (K×V)}{Q:Int→Heap→Prop}(hs:sat h (mapA ek ev r l::R))(hq:Q (l.length:Int) h):A5W (some r) h Q:=by
 obtain⟨es,c,⟨he,cy⟩,hs⟩:=A1f.1 hs
 refine⟨es.toList,c,by simpa[A8P] using hs.get,?_⟩
 have:=congrArg List.length he
 simp at this
 simpa[this] using hq
theorem sat.bP{ev:V→Value}{r:Nat}{l:List (K×V)}(hs:sat h (mapA ek ev r l::R)):(l.map (·.1)).Nodup:=by
 obtain⟨es,c,⟨he,cy⟩,hs⟩:=A1f.1 hs
 have hk:=cy.2.2
 have e:es.toList.map (·.key)=(l.map (·.1)).map ek:=by
  have:=congrArg (List.map Prod.fst) he
  simpa[Q8] using this
 rw[e] at hk
 exact List.Pairwise.of_map ek (fun a b cg dv=>cg (congrArg ek dv)) hk
end
section
variable {K V:Type} [DecidableEq K] {h:Heap} {R:List Asn} {ek:K→Value}
theorem u7{kd:A2y}(hk:KeyLaw kd ek){kind:Kind}{z:kind.ty}{zero:Value}(hz:zero=kind.val z){r:Nat}{l:List (K×kind.ty)}{k:K}{Q:kind.ty×Bool→Heap→Prop}
  (hs:sat h (mapA ek kind.val r l::R))(hq:Q ((W3 l k).getD z,(W3 l k).isSome) h):HM.lookup kd zero kind (some r) (ek k) h Q:=by
 obtain⟨es,c,⟨he,cy⟩,hs⟩:=A1f.1 hs
 rcases B1o hk k l es.toList 0 he with⟨h1,h2⟩|⟨v,j,e,h1,h2,-,-⟩
 ·refine⟨es.toList,c,none,z,by simpa[A8P] using hs.get,h2,hz,?_⟩
  rw[h1] at hq;exact hq
 ·refine⟨es.toList,c,some (0+j,kind.val v),v,by simpa[A8P] using hs.get,h2,rfl,?_⟩
  rw[h1] at hq;exact hq
theorem A1n(l:List (K×V))(k:K):W3 l k=none↔k∉l.map (·.1):=by
 induction l with
 |nil=>simp
 |cons p l ih=>
  obtain⟨a,b⟩:=p
  rw[Y4]
  by_cases h:a=k
  ·simp[h]
  ·rw[if_neg h,ih]
   simp[Ne.symm h]
theorem A4A{kd:A2y}(hk:KeyLaw kd ek)(gN:∀a b,ek a=ek b→a=b){ev:V→Value}{r:Nat}{l:List (K×V)}{k:K}{x:V}{Q:Unit→Heap→Prop}
  (hs:sat h (mapA ek ev r l::R))(hq:∀h',sat h' (mapA ek ev r (mset l k x)::R)→Q () h'):A2Z kd (some r) (ek k) (ev x) h Q:=by
 obtain⟨es,c,⟨he,cy⟩,hs⟩:=A1f.1 hs
 have ah:=hs.lt
 rcases B1o hk k l es.toList 0 he with⟨h1,h2⟩|⟨v,j,e,h1,h2,h3,h4⟩
 ·refine⟨r,es,c,none,rfl,hs.get,h2,hq _ (A1f.2 ⟨_,_,⟨?_,?_⟩,hs.bG (o':=.map (es.push {key:=ek k,val:=ev x,born:=c}) (c+1)) (by simp[ah]) (fun k hk=>?_)⟩)⟩
  ·rw[A2R l k x h1]
   simp only[A6h,Array.toList_push,C0,B6,I4]
   rw[he]
  ·refine Go.MapKept.stamped_push cy fun y hy wH=>?_
   have e:es.toList.map (·.key)=(l.map (·.1)).map ek:=by
    have:=congrArg (List.map Prod.fst) he
    simpa[Q8] using this
   have hm:ek k∈(l.map (·.1)).map ek:=by rw[←e,←wH];exact B3 hy
   obtain⟨k',gZ,jm⟩:=E4.1 hm
   exact(A1n l k).1 h1 (gN _ _ jm▸gZ)
  ·rw[H4,if_neg (fun e=>hk e.symm)]
 ·have vR:es[0+j]? =some e:=by simpa using h3
  refine⟨r,es,c,some (0+j,ev v),rfl,hs.get,h2,?_,hk.bits k,hq _ (A1f.2 ⟨_,_,⟨?_,?_⟩,hs.bG (o':=.map (es.modify (0+j) fun e=>{e with key:=ek k,val:=ev x}) c) (by simp[ah]) (fun k hk=>?_)⟩)⟩
  ·rw[vR];exact h4
  ·have:=(C0u gN k x l es.toList he 0 _ kd hk h2).1
   simpa using this
  ·refine Go.MapKept.stamped_modify cy _ _ (fun _ _=>rfl) (fun e' _ jm=>?_)
   rw[vR] at jm
   cases jm
   exact h4.symm
  ·rw[H4,if_neg (fun e=>hk e.symm)]
theorem A5Q{kd:A2y}(hk:KeyLaw kd ek){ev:V→Value}{r:Nat}{l:List (K×V)}{k:K}{Q:Unit→Heap→Prop}
  (hs:sat h (mapA ek ev r l::R))(hq:∀h',sat h' (mapA ek ev r (mdel l k)::R)→Q () h'):A5V kd (some r) (ek k) h Q:=by
 obtain⟨es,c,⟨he,cy⟩,hs⟩:=A1f.1 hs
 have ah:=hs.lt
 rcases B1o hk k l es.toList 0 he with⟨h1,h2⟩|⟨v,j,e,h1,h2,h3,h4⟩
 ·refine⟨es,c,none,hs.get,h2,hq _ (A1f.2 ⟨es,c,⟨by rw[B7E l k h1];exact he,cy⟩,hs.bG (by simp[ah]) (fun k hk=>?_)⟩)⟩
  rw[H4,if_neg (fun e=>hk e.symm)]
 ·refine⟨es,c,some (0+j,ev v),hs.get,h2,hq _ (A1f.2 ⟨_,_,⟨?_,Go.MapKept.stamped_erase cy (0+j)⟩,hs.bG (o':=.map (es.eraseIdxIfInBounds (0+j)) c) (by simp[ah]) (fun k hk=>?_)⟩)⟩
  ·have:=(C0v k l es.toList he 0 _ kd hk h2).1
   have hj:j<es.size:=by
    have:=(E0.1 h3).1
    simpa using this
   simpa[Array.eraseIdxIfInBounds,hj] using this
  ·rw[H4,if_neg (fun e=>hk e.symm)]
end
theorem B8O(k:IntKind):KeyLaw (Instr.sameNow (.int k)) (fun n:Int=>Value.int k n):=⟨fun a b=>by simp[Instr.sameNow];exact Bool.eq_iff_iff.2 (by simp),fun a=>by simp[Instr.sameBits]⟩
theorem A9d:KeyLaw (Instr.sameNow .string) (fun s:B3O=>Value.string s):=⟨fun a b=>by
 simp only[Instr.sameNow,F4]
 exact(beq_toListBytes a b).trans (C08 a b),fun a=>by simp[Instr.sameBits,beq_toListBytes]⟩
theorem C6R:∀a b:B3O,Value.string a=Value.string b→a=b:=fun a b h=>by cases h;rfl
theorem A9g(k:IntKind):∀a b:Int,Value.int k a=Value.int k b→a=b:=fun a b h=>by cases h;rfl
end
section
class A0f {α:Type} (m:HM α):Prop where
 mono:∀(h:Heap) (Q1 Q2:α→Heap→Prop),(∀a h',Q1 a h'→Q2 a h')→m h Q1→m h Q2
section
variable {α β σ τ:Type}
instance C8A(a:α):A0f (W9 a):=⟨fun _ _ _ hq hm=>hq _ _ hm⟩
instance A0r(m:HM α)(f:α→HM β)[A0f m][hf:∀a,A0f (f a)]:A0f (HM.bind m f):=
 ⟨fun h _ _ hq hm=>A0f.mono (m:=m) h _ _ (fun a h' hx=>(hf a).mono h' _ _ hq hx) hm⟩
instance:A0f (U4:HM α):=⟨fun _ _ _ _ hm=>hm⟩
instance C8C(x y:HM α)[hx:A0f x][hy:A0f y]:A0f (A0G x y):=⟨fun h Q Q' hq hm=>⟨hx.mono h Q Q' hq hm.1,hy.mono h Q Q' hq hm.2⟩⟩
instance A0Z(b:Bool)(x y:HM α)[A0f x][A0f y]:A0f (A04 b x y):=⟨fun h _ _ hq hm=>by
 cases b
 ·exact A0f.mono (m:=y) h _ _ hq hm
 ·exact A0f.mono (m:=x) h _ _ hq hm⟩
instance A1X(p:Prop)(m:HM α)[A0f m]:A0f (A3t p m):=⟨fun h _ _ hq hm=>⟨hm.1,A0f.mono (m:=m) h _ _ hq hm.2⟩⟩
instance C8B(body:σ→HM (σ⊕τ))(s:σ)[hb:∀s,A0f (body s)]:A0f (HM.loop body s):=⟨fun _ _ _ hq=>by
 rintro⟨I,μ,h0,hr⟩
 refine⟨I,μ,h0,fun s h hi=>(hb s).mono h _ _ ?_ (hr s h hi)⟩
 intro r h' hx
 cases r with
 |inl _=>exact hx
 |inr _=>exact hq _ _ hx⟩
instance C3Q(f:α→HM τ)(g:β→HM τ)(x:α⊕β)[hf:∀a,A0f (f a)][hg:∀b,A0f (g b)]:A0f (Sum.elim f g x:HM τ):=by
 cases x with
 |inl a=>exact hf a
 |inr b=>exact hg b
instance(t:Tag)(a:Addr):A0f (α:=no_index (Tag.ty t)) (l6 t a):=⟨fun _ _ _ hq ⟨x,h1,h2⟩=>⟨x,h1,hq _ _ h2⟩⟩
instance(ts:List Tag)(a:Addr):A0f (α:=no_index (Tup ts)) (o3 ts a):=⟨fun _ _ _ hq ⟨x,h1,h2⟩=>⟨x,h1,hq _ _ h2⟩⟩
instance(a:Addr)(v:Value):A0f (A6Z a v):=⟨fun _ _ _ hq ⟨x,h1,h2,h3⟩=>⟨x,h1,h2,hq _ _ h3⟩⟩
instance(a:Addr)(vs:C9P):A0f (A94 a vs):=⟨fun _ _ _ hq ⟨x,h1⟩=>⟨x,hq _ _ h1⟩⟩
instance(o:Obj):A0f (HM.new o):=⟨fun _ _ _ hq hm=>hq _ _ hm⟩
instance(p:C9N):A0f (A77 p):=⟨fun _ _ _ hq ⟨x,h1,h2⟩=>⟨x,h1,hq _ _ h2⟩⟩
instance(a:C9N)(len:Nat)(i:Int)(size:Nat):A0f (A3W a len i size):=⟨fun _ _ _ hq ⟨x,h1,h2,h3,h4⟩=>⟨x,h1,h2,h3,hq _ _ h4⟩⟩
instance(s:B3O)(i:Int):A0f (A5f s i):=⟨fun _ _ _ hq ⟨x,h1,h2,h3⟩=>⟨x,h1,h2,hq _ _ h3⟩⟩
instance(P:Program)(k:Kind)(f:FuncId)(args:C9O):A0f (α:=no_index (Kind.ty k)) (A1s P k f args):=⟨fun _ _ _ hq hm=>V3.mono hm fun _ _ ⟨x,h1,h2⟩=>⟨x,h1,hq _ _ h2⟩⟩
instance(P:Program)(ks:List Kind)(f:FuncId)(args:C9O):A0f (α:=no_index (q9 ks)) (s7 P ks f args):=⟨fun _ _ _ hq hm=>V3.mono hm fun _ _ ⟨x,h1,h2⟩=>⟨x,h1,hq _ _ h2⟩⟩
instance(P:Program)(k:Kind)(v:Value)(args:C9O):A0f (α:=no_index (Kind.ty k)) (B77 P k v args):=⟨fun _ _ _ hq ⟨f,first,captured,h1,h2,hm⟩=>⟨f,first,captured,h1,h2,V3.mono hm fun _ _ ⟨x,h1,h2⟩=>⟨x,h1,hq _ _ h2⟩⟩⟩
instance(P:Program)(ks:List Kind)(v:Value)(args:C9O):A0f (α:=no_index (q9 ks)) (C3c P ks v args):=⟨fun _ _ _ hq ⟨f,first,captured,h1,h2,hm⟩=>⟨f,first,captured,h1,h2,V3.mono hm fun _ _ ⟨x,h1,h2⟩=>⟨x,h1,hq _ _ h2⟩⟩⟩
instance(s:Slc)(lo hi mx:Option Int)(size:Nat):A0f (HM.slice s lo hi mx size):=⟨fun _ _ _ hq ⟨l,hh,m,h1,h2,h3,h4⟩=>⟨l,hh,m,h1,h2,h3,hq _ _ h4⟩⟩
instance(s:B3O)(lo hi:Option Int):A0f (A4O s lo hi):=⟨fun _ _ _ hq ⟨l,hh,h1,h2,h4⟩=>⟨l,hh,h1,h2,hq _ _ h4⟩⟩
instance(elem:TypeId)(size bytes:Nat)(zero:C9O)(s:Slc)(n:Nat)(src:Heap→C9O→Prop):A0f (HM.append elem size bytes zero s n src):=⟨fun h Q1 Q2 hq hm=>by
 refine⟨fun hc=>?_,fun hc=>?_⟩
 ·obtain⟨vs,h1,h2⟩:=hm.1 hc
  refine⟨vs,h1,?_⟩
  cases hs:s.a with
  |none=>rw[hs] at h2;exact hq _ _ h2
  |some a=>rw[hs] at h2;exact⟨h2.1,hq _ _ h2.2⟩
 ·obtain⟨h1,h2,old,vs,h3,h4,h5⟩:=hm.2 hc
  exact⟨h1,h2,old,vs,h3,h4,fun c hc ez=>hq _ _ (h5 c hc ez)⟩⟩
instance(elem:TypeId)(bytes:Nat)(zero:C9O)(n c:Int):A0f (HM.makeSlice elem bytes zero n c):=⟨fun _ _ _ hq ⟨h1,h2,h3,h4,h5⟩=>⟨h1,h2,h3,h4,hq _ _ h5⟩⟩
instance(d:Slc)(n:Nat)(src:Nat→Heap→C9O→Prop):A0f (C7g d n src):=⟨fun h Q1 Q2 hq ⟨vs,h1,h2⟩=>by
 refine⟨vs,h1,?_⟩
 cases hs:d.a with
 |none=>rw[hs] at h2;exact hq _ _ h2
 |some a=>rw[hs] at h2;exact⟨h2.1,hq _ _ h2.2⟩⟩
instance(kd:A2y)(zero:Value)(k:Kind)(r:Option Nat)(key:Value):A0f (α:=no_index (Kind.ty k×Bool)) (HM.lookup kd zero k r key):=⟨fun _ _ _ hq ⟨es,c,o,x,h1,h2,h3,h4⟩=>⟨es,c,o,x,h1,h2,h3,hq _ _ h4⟩⟩
instance(kd:A2y)(r:Option Nat)(key val:Value):A0f (A2Z kd r key val):=⟨fun h Q1 Q2 hq ⟨b,es,c,o,h1,h2,h3,h4⟩=>by
 refine⟨b,es,c,o,h1,h2,h3,?_⟩
 cases o with
 |none=>exact hq _ _ h4
 |some o=>exact⟨h4.1,h4.2.1,hq _ _ h4.2.2⟩⟩
instance(kd:A2y)(r:Option Nat)(key:Value):A0f (A5V kd r key):=⟨fun h Q1 Q2 hq hm=>by
 cases r with
 |none=>exact hq _ _ hm
 |some b=>
  obtain⟨es,c,o,h1,h2,h3⟩:=hm
  refine⟨es,c,o,h1,h2,?_⟩
  cases o with
  |none=>exact hq _ _ h3
  |some o=>exact hq _ _ h3⟩
instance(zero:C9O)(s:Slc):A0f (B76 zero s):=⟨fun h Q1 Q2 hq hm=>by
 unfold B76 at hm⊢
 cases ha:s.a with
 |none=>simp only[ha] at hm⊢;exact hq _ _ hm
 |some a=>
  simp only[ha] at hm⊢
  by_cases hn:s.len=0
  ·rw[if_pos hn] at hm⊢;exact hq _ _ hm
  ·rw[if_neg hn] at hm⊢;exact⟨hm.1,hq _ _ hm.2⟩⟩
instance(r:Option Nat):A0f (C7v r):=⟨fun h Q1 Q2 hq hm=>by
 cases r with
 |none=>exact hq _ _ hm
 |some r=>obtain⟨es,c,h1,h2⟩:=hm;exact⟨es,c,h1,hq _ _ h2⟩⟩
instance(r:Option Nat):A0f (A80 r):=⟨fun h Q1 Q2 hq hm=>by
 cases r with
 |none=>exact hq _ _ hm
 |some r=>obtain⟨es,c,h1,h2⟩:=hm;exact⟨es,c,h1,hq _ _ h2⟩⟩
instance(b:Nat):A0f (C7u b):=⟨fun h Q1 Q2 hq ⟨s,p,h1,h2,h3⟩=>⟨s,p,h1,fun hp=>hq _ _ (h2 hp),fun hp=>hq _ _ (h3 hp)⟩⟩
instance(b:Nat):A0f (A6Y b):=⟨fun h Q1 Q2 hq ⟨m,since,seen,last,h1,h2⟩=>⟨m,since,seen,last,h1,by
 cases m with
 |none=>exact hq _ _ h2
 |some m=>
  obtain⟨es,c,h3,h4,h5,h6⟩:=h2
  exact⟨es,c,h3,h4,fun hh=>hq _ _ (h5 hh),fun e he hs=>hq _ _ (h6 e he hs)⟩⟩⟩
instance(kk kv:Kind)(b:Nat):A0f (α:=no_index (Kind.ty kk×Kind.ty kv)) (A3C kk kv b):=⟨fun h Q1 Q2 hq ⟨m,since,seen,stepped,es,stamp,e,k,v,h1,h2,h3,h4,h5,h6,h7⟩=>⟨m,since,seen,stepped,es,stamp,e,k,v,h1,h2,h3,h4,h5,h6,hq _ _ h7⟩⟩
instance(kd:A2y)(zero:Value)(k:Kind)(r:Option Nat)(key:Value):A0f (α:=no_index (Kind.ty k×Int)) (HM.mapEntry kd zero k r key):=⟨fun h Q1 Q2 hq ⟨b,es,c,o,h1,h2,h3,h4⟩=>⟨b,es,c,o,h1,h2,h3,by
 cases o with
 |none=>obtain⟨x,h5,h6⟩:=h4;exact⟨x,h5,hq _ _ h6⟩
 |some p=>obtain⟨h7,h8,x,h5,h6⟩:=h4;exact⟨h7,h8,x,h5,hq _ _ h6⟩⟩⟩
instance(r:Option Nat)(st:Int)(v:Value):A0f (HM.entryStore r st v):=⟨fun h Q1 Q2 hq ⟨b,es,c,i,h1,h2,h3,h4⟩=>⟨b,es,c,i,h1,h2,h3,hq _ _ h4⟩⟩
instance B93(o:Option α)(a:HM β)(f:α→HM β)[ha:A0f a][hf:∀x,A0f (f x)]:A0f (A2r o a f):=⟨fun h Q1 Q2 hq hm=>by
 cases o with
 |none=>exact ha.mono _ _ _ hq hm
 |some x=>exact(hf x).mono _ _ _ hq hm⟩
instance(s:Slc):A0f (C0V s):=⟨fun _ _ _ hq ⟨ns,h1,h2⟩=>⟨ns,h1,hq _ _ h2⟩⟩
instance(r:Option Nat):A0f (A5W r):=⟨fun _ _ _ hq ⟨es,c,h1,h2⟩=>⟨es,c,h1,hq _ _ h2⟩⟩
theorem B8M{γ:Type}{body:σ→HM (σ⊕τ)}{s:σ}{h:Heap}{Q:τ→Heap→Prop}[hb:∀s,A0f (body s)](I:γ→σ→Heap→Prop)(μ:γ→Nat)(g:γ)(h0:I g s h)
  (hr:∀g s h,I g s h→body s h fun r h'=>match r with
   |.inl s'=>∃g',μ g'<μ g∧I g' s' h'
   |.inr t=>Q t h'):HM.loop body s h Q:=by
 refine C1D (fun n s h=>∃g,μ g=n∧I g s h) (n:=μ g) ⟨g,rfl,h0⟩ ?_ (fun s h _ _ hq hm=>(hb s).mono h _ _ hq hm)
 rintro n s h ⟨g,rfl,hi⟩
 refine(hb s).mono h _ _ ?_ (hr g s h hi)
 intro r h' hx
 cases r with
 |inr t=>exact hx
 |inl s'=>
  obtain⟨g',h1,h2⟩:=hx
  exact⟨_,h1,g',rfl,h2⟩
def Next{γ σ:Type}(I:γ→σ→Heap→Prop)(μ:γ→Nat)(g:γ)(s:σ)(h:Heap):Prop:=∃g',μ g'<μ g∧I g' s h
theorem Next.mk{γ σ:Type}{I:γ→σ→Heap→Prop}{μ:γ→Nat}{g:γ}{s:σ}{h:Heap}(g':γ)(h1:μ g'<μ g)(h2:I g' s h):Next I μ g s h:=⟨g',h1,h2⟩
theorem l9{γ:Type}{body:σ→HM (σ⊕τ)}{s:σ}{h:Heap}{Q:τ→Heap→Prop}[hb:∀s,A0f (body s)](I:γ→σ→Heap→Prop)(μ:γ→Nat)(g:γ)(h0:I g s h)
  (hr:∀g s h,I g s h→body s h fun r h'=>match r with
   |.inl s'=>Next I μ g s' h'
   |.inr t=>Q t h'):HM.loop body s h Q:=B8M I μ g h0 hr
end
theorem V4{α β:Type}{m:HM α}[hm:A0f m]{f:α→HM β}{h:Heap}{Q:β→Heap→Prop}(P:α→Heap→Prop)(h1:m h P)(h2:∀a h',P a h'→f a h' Q):(m.bind f) h Q:=
 hm.mono h P _ h2 h1
end
section
open Go.MapKept (Stamped)
section
variable {K V:Type}
def B6I(ek:K→Value)(ev:V→Value)(l:List (K×V))(es:List MapEntry):Prop:=es.map (fun e=>(e.key,e.val))=l.map (fun p=>(ek p.1,ev p.2))
structure ItF(ek:K→Value)(ev:V→Value)(l done todo:List (K×V))(es:Array MapEntry)(clock:Nat)(seen:Array Nat)(des tes:List MapEntry):Prop where
 dG:A6h ek ev l es.toList
 stamped:Stamped es clock
 perm:(des++tes).Perm es.toList
 seen:seen.toList=des.map (·.born)
 done:B6I ek ev done des
 todo:B6I ek ev todo tes
def itA(ek:K→Value)(ev:V→Value)(m:Nat)(l:List (K×V))(it:Nat)(done todo:List (K×V)):Asn:=
 exA fun x:Array MapEntry×Nat×Array Nat×List MapEntry×List MapEntry=>
  star (pr (ItF ek ev l done todo x.1 x.2.1 x.2.2.1 x.2.2.2.1 x.2.2.2.2)) (star (blk it (.mapIter (some m) x.2.1 x.2.2.1 x.2.1)) (blk m (.map x.1 x.2.1)))
variable {h:Heap} {R:List Asn} {ek:K→Value} {ev:V→Value} {m it:Nat} {l done todo:List (K×V)}
theorem B1I:sat h (itA ek ev m l it done todo::R)↔∃es clock seen des tes,ItF ek ev l done todo es clock seen des tes∧sat h (blk it (.mapIter (some m) clock seen clock)::blk m (.map es clock)::R):=by
 unfold itA
 rw[sat.bA]
 constructor
 ·rintro⟨⟨es,c,s,d,t⟩,hs⟩
  rw[sat.aI,sat.bC,sat.aI] at hs
  exact⟨es,c,s,d,t,hs⟩
 ·rintro⟨es,c,s,d,t,hs⟩
  exact⟨(es,c,s,d,t),by rw[sat.aI,sat.bC,sat.aI];exact hs⟩
theorem A83{Q:Nat→Heap→Prop}(hs:sat h (mapA ek ev m l::R))(hq:∀it h',sat h' (itA ek ev m l it [] l::R)→Q it h'):A80 (some m) h Q:=by
 obtain⟨es,c,⟨he,cy⟩,hs⟩:=A1f.1 hs
 refine⟨es,c,hs.get,?_⟩
 refine hq _ _ (B1I.2 ⟨es,c,#[],[],es.toList,⟨he,cy,by simp,rfl,rfl,he⟩,?_⟩)
 exact hs.push
theorem A9e(hs:sat h (itA ek ev m l it done todo::R)):sat h (mapA ek ev m l::R):=by
 obtain⟨es,c,s,d,t,hf,hs⟩:=B1I.1 hs
 exact A1f.2 ⟨es,c,⟨hf.dG,hf.stamped⟩,hs.drop⟩
theorem B1z{Q:Option (Value×Value)→Heap→Prop}(hs:sat h (itA ek ev m l it done todo::R))(h0:todo=[]→Q none h)
  (h1:∀(p:K×V) (t1 t2:List (K×V)),todo=t1++p::t2→∀h',sat h' (itA ek ev m l it (done++[p]) (t1++t2)::R)→Q (some (ek p.1,ev p.2)) h'):A6Y it h Q:=by
 obtain⟨es,c,seen,des,tes,hf,hs⟩:=B1I.1 hs
 have lP:∀e∈es,e.born<c:=fun e he=>hf.stamped.1 e (by simpa using he)
 have au:(es.toList.map (·.born)).Nodup:=hf.stamped.2.1
 have gM:((des++tes).map (·.born)).Nodup:=(hf.perm.map (·.born)).nodup_iff.2 au
 rw[C0,G1] at gM
 have an:∀e:MapEntry,e∈es↔e∈des∨e∈tes:=fun e=>by
  rw[←Array.mem_toList_iff,←hf.perm.mem_iff,C9]
 have lF:∀b,seen.contains b=true↔b∈des.map (·.born):=fun b=>by
  rw[←hf.seen];simp
 have sR:∀e∈es,seen.contains e.born=false→e∈tes:=fun e he hc=>by
  rcases(an e).1 he with hd|ht
  ·exact absurd ((lF e.born).2 (B3 hd)) (by rw[hc];simp)
  ·exact ht
 refine⟨some m,c,seen,c,hs.get,es,c,hs.p1.get,?_,fun dh=>?_,fun e he hc=>?_⟩
 ·by_cases hz:es.isEmpty=true
  ·simp[hz]
  ·have cg:es≠#[]:=by simpa using hz
   obtain⟨e,he⟩:∃e,e∈es:=⟨es[0]'(Array.size_pos_iff.2 cg),Array.getElem_mem _⟩
   have ah:=lP e he
   have:es.all (fun e=>decide (e.born≥c))=false:=by
    cases hh:es.all (fun e=>decide (e.born≥c)) with
    |false=>rfl
    |true=>
     rw[Array.all_eq_true_iff_forall_mem] at hh
     have:=hh e he
     simp at this
     omega
   simp[this]
 ·
  refine h0 ?_
  have:tes=[]:=by
   cases tes with
   |nil=>rfl
   |cons e t=>
    have he:e∈es:=(an e).2 (.inr (B4 ..))
    have im:seen.contains e.born=false:=by
     cases hh:seen.contains e.born with
     |false=>rfl
     |true=>
      exact absurd rfl (gM.2.2 e.born ((lF _).1 hh) e.born (by simp))
    have:=dh e he im
    have:=lP e he
    omega
  have ht:=hf.todo
  rw[this] at ht
  simp only[B6I,I4] at ht
  exact List.map_eq_nil_iff.1 ht.symm
 ·have ht:=sR e he hc
  obtain⟨t1,t2,rfl⟩:=H0 ht
  have uO:=hf.todo
  simp only[B6I,C0,B6] at uO
  obtain⟨l1,yl,e1,e2,e3⟩:=List.map_eq_append_iff.1 uO.symm
  obtain⟨p,l2,e4,e5,e6⟩:=List.map_eq_cons_iff.1 e3
  subst e4
  have vW:(ek p.1,ev p.2)=(e.key,e.val):=e5
  obtain⟨k1,k2⟩:=Prod.mk.inj vW
  rw[←k1,←k2]
  have ah:=hs.lt
  refine h1 p l1 l2 e1 _ (B1I.2 ⟨es,c,seen.push e.born,des++[e],t1++t2,⟨hf.dG,hf.stamped,?_,?_,?_,?_⟩,?_⟩)
  ·refine List.Perm.trans ?_ hf.perm
   rw[D2]
   refine Q4 des ?_
   show(e::(t1++t2)).Perm _
   exact P8.symm
  ·simp[hf.seen]
  ·simp only[B6I,C0,B6,I4]
   rw[hf.done,vW]
  ·simp only[B6I,C0]
   rw[e2,e6]
  ·exact hs.bG (o':=.mapIter (some m) c (seen.push e.born) c) (by simp[ah]) (fun k hk=>by rw[H4,if_neg (fun e=>hk e.symm)])
theorem A9i{kk kv:Kind}{p:K×V}{x:kk.ty}{y:kv.ty}{Q:kk.ty×kv.ty→Heap→Prop}(hk:ek p.1=kk.val x)(hv:ev p.2=kv.val y)
  (hs:sat h (itA ek ev m l it (done++[p]) todo::R))(hq:Q (x,y) h):A3C kk kv it h Q:=by
 obtain⟨es,c,seen,des,tes,hf,hs⟩:=B1I.1 hs
 have hd:=hf.done
 simp only[B6I,C0,B6,I4] at hd
 obtain⟨d1,yI,e1,e2,e3⟩:=List.map_eq_append_iff.1 hd
 obtain⟨e,d2,e4,e5,e6⟩:=List.map_eq_cons_iff.1 e3
 have:d2=[]:=List.map_eq_nil_iff.1 e6
 subst this e4 e1
 obtain⟨k1,k2⟩:=Prod.mk.inj e5
 have au:(es.toList.map (·.born)).Nodup:=hf.stamped.2.1
 have lg:e∈es.toList:=hf.perm.mem_iff.1 (by simp)
 have gO:es.find? (fun x=>x.born==e.born)=some e:=by
  rw[←Array.find?_toList]
  obtain⟨a,b,dv⟩:=H0 lg
  rw[dv]
  rw[dv,C0,B6,G1] at au
  rw[P5]
  have:a.find? (fun x=>x.born==e.born)=none:=by
   rw[E7]
   intro x hx
   have:=au.2.2 x.born (B3 hx) e.born (by simp)
   simpa using this
  rw[this]
  simp
 have cF:seen.back?=some e.born:=by
  have eR:=hf.seen
  rw[C0,B6,I4] at eR
  rw[←Array.getLast?_toList,eR]
  simp
 exact⟨m,c,seen,c,es,e.born,e,x,y,hs.get,cF,hs.p1.get,gO,k1.trans hk,k2.trans hv,hq⟩
end
@[simp] theorem B9U {α β:Type} (a:HM β) (f:α→HM β) {h:Heap} {Q:β→Heap→Prop}:A2r none a f h Q=a h Q:=rfl
@[simp] theorem B9T {α β:Type} (x:α) (a:HM β) (f:α→HM β) {h:Heap} {Q:β→Heap→Prop}:A2r (some x) a f h Q=f x h Q:=rfl
def Z9{α:Type}(f:α→Asn):List α→Asn
 |[]=>pr True
 |x::l=>star (f x) (Z9 f l)
section
variable {α:Type} {f:α→Asn} {h:Heap} {R:List Asn}
theorem A2x:sat h (Z9 f []::R)↔sat h R:=sat.bC.trans ⟨fun hh=>hh.2,fun hh=>⟨trivial,hh⟩⟩
theorem l3{x:α}{l:List α}:sat h (Z9 f (x::l)::R)↔sat h (f x::Z9 f l::R):=sat.aI
theorem j5{x:α}{l2:List α}:∀{l1:List α} {R:List Asn},sat h (Z9 f (l1++x::l2)::R)↔sat h (f x::Z9 f (l1++l2)::R)
 |[],R=>l3
 |y::l1,R=>by
  rw[G5,G5,l3]
  constructor
  ·intro hs
   exact(l3.2 (j5.1 hs.p1).p2.p2.p1).p1
  ·intro hs
   exact(j5.2 (l3.1 hs.p1).p2.p2.p1).p1
theorem A8U{x:α}{l:List α}(hx:x∈l)(hs:sat h (Z9 f l::R)):∃R',sat h (f x::R'):=by
 obtain⟨l1,l2,rfl⟩:=H0 hx
 exact⟨_,j5.1 hs⟩
end
theorem C09{L L':List Asn}(hp:L.Perm L'):∀m,A0Q L m→A0Q L' m:=by
 induction hp with
 |nil=>exact fun _ h=>h
 |cons x _ ih=>exact fun m h=>A0C (fun _ h=>h) ih h
 |swap x y l=>exact fun m h=>z7 h
 |trans _ _ sE sD=>exact fun m h=>sD m (sE m h)
theorem sat.perm{h:Heap}{L L':List Asn}(hp:L.Perm L')(hs:sat h L):sat h L':=
 let⟨m,h1,h2⟩:=hs
 ⟨m,h1,C09 hp m h2⟩
theorem sat.fL{h:Heap}{R:List Asn}:∀(n:Nat),sat h R→sat h (List.replicate n (pr True)++R)
 |0,hs=>hs
 |n+1,hs=>sat.bC.2 ⟨trivial,sat.fL n hs⟩
theorem sat.re{h:Heap}{L:List Asn}(hs:sat h L)(idx:List Nat)(hi:idx.isPerm (List.range idx.length)=true:=by rfl):
  sat h (idx.map (fun i=>L.getD i (pr True))++L.drop idx.length):=by
 have h1:(idx.map (fun i=>L.getD i (pr True))).Perm ((List.range idx.length).map (fun i=>L.getD i (pr True))):=(List.isPerm_iff.1 hi).map _
 refine sat.perm (h1.symm.append_right _) ?_
 generalize idx.length=n
 clear h1 hi
 by_cases hn:n≤L.length
 ·have e:(List.range n).map (fun i=>L.getD i (pr True))=L.take n:=by
   refine List.ext_getElem (by simp;omega) fun i h2 h3=>?_
   simp at h2 h3
   simp[B0 (show i<L.length by omega)]
  rw[e,J7]
  exact hs
 ·rw[M9 (by omega),C1]
  have e:(List.range n).map (fun i=>L.getD i (pr True))=L++List.replicate (n-L.length) (pr True):=by
   refine List.ext_getElem? fun i=>?_
   rw[List.getElem?_append]
   by_cases h2:i<L.length
   ·simp[h2,show i<n by omega]
   ·by_cases h3:i<n
    ·simp[h2,h3,List.getElem?_replicate,show i-L.length<n-L.length by omega,List.getElem?_eq_none (show L.length≤i by omega)]
    ·simp[h2,h3,List.getElem?_replicate]
     omega
  rw[e]
  exact(sat.fL _ hs).perm List.perm_append_comm
section
variable {K V:Type} [DecidableEq K]
theorem A38:∀{l:List (K×V)} {k:K} {v:V},W3 l k=some v→(k,v)∈l
 |[],k,v,h=>by simp at h
 |(a,b)::l,k,v,h=>by
  rw[Y4] at h
  by_cases e:a=k
  ·rw[if_pos e] at h
   cases h
   subst e
   exact B4 ..
  ·rw[if_neg e] at h
   exact C3 _ (A38 h)
theorem B1C:∀{l1 l2:List (K×V)} {k:K} {v:V},k∉l1.map (·.1)→mdel (l1++(k,v)::l2) k=l1++l2
 |[],l2,k,v,_=>by simp[mdel]
 |(a,b)::l1,l2,k,v,h=>by
  simp only[B6,D3,not_or] at h
  simp only[G5,mdel,if_neg (fun e:a=k=>h.1 e.symm),B1C h.2]
end
end
section
open Go.RowKit
theorem C5Z{w w':World}{R:List Asn}(hs:y9 w w')(ho:sat w'.heap (old w.heap::R)):Below w.heap.size w w':=by
 refine⟨hs.os,hs.tape,hs.output,?_,fun k hk=>?_⟩
 ·rcases Nat.eq_zero_or_pos w.heap.size with h0|hp
  ·omega
  ·have hg:w.heap[w.heap.size-1]? =some w.heap[w.heap.size-1]:=F5 (by omega)
   have:=(F7.1 (ho.dN hg)).1
   omega
 ·rw[ho.dN (F5 hk),F5 hk]
theorem walk_of{P:Program}{f:FuncId}{args:C9O}{w:World}{v:Value}
  (hc:V3 P f args w.heap fun v' h'=>v'=v∧∃R,sat h' (old w.heap::R)):Calls P f args w fun e w'=>e=.returned v∧Below w.heap.size w w':=
 (hc w rfl).mono fun e w' ⟨_,he,hs,hv,R,ho⟩=>⟨by rw[he,hv],C5Z hs ho⟩
def Z7{α:Type}(enc:α→C9P)(size:Nat)(h0:Heap)(s:Slc)(xs:List α):Prop:=
 s.len=xs.length∧s.len≤s.cap∧∀(i:Nat) x,xs[i]? =some x→∃a,s.a=some a∧∀j v,(enc x)[j]? =some v→W0 h0 ((a.add (i*size)).add j)=some v
section
variable {α β:Type} {enc:α→C9P} {size:Nat} {h0 h:Heap} {s:Slc} {xs:List α}
theorem X8(hr:Z7 enc size h0 s xs){i:Nat}{x:α}(hx:xs[i]? =some x){Q:Addr→Heap→Prop}
  (hq:∀a,(∀j v,(enc x)[j]? =some v→W0 h0 (a.add j)=some v)→Q a h):A3W s.a s.len (i:Int) size h Q:=by
 obtain⟨a,ha,hc⟩:=hr.2.2 i x hx
 have ah:=(E0.1 hx).1
 exact⟨a,ha,by omega,by have:=hr.1;omega,hq _ (by simpa using hc)⟩
theorem B2h(hr:Z7 enc size h0 s xs){n:Nat}(hn:n≤xs.length){Q:Slc→Heap→Prop}
  (hq:∀s',Z7 enc size h0 s' (xs.take n)→Q s' h):HM.slice s none (some (n:Int)) none size h Q:=by
 refine⟨0,n,s.cap,rfl,⟨rfl,by have:=hr.1;have:=hr.2.1;omega⟩,rfl,hq _ ⟨?_,?_,?_⟩⟩
 ·simp[j9];omega
 ·have:=hr.1;have:=hr.2.1;simp[j9];omega
 ·intro i x hx
  obtain⟨a,ha,hc⟩:=hr.2.2 i x (by
   rw[M0] at hx
   split at hx
   ·exact hx
   ·cases hx)
  refine⟨a,?_,hc⟩
  simp only[j9,ha]
  split
  ·rfl
  ·simp[add_zero]
end
end
section
theorem V8{n:Int}(h1: -9223372036854775808≤n)(h2:n≤9223372036854775807):IntKind.wrap .i64 n=n:=by
 simp[IntKind.wrap,IntKind.bits,IntKind.signed];omega
section
variable {h h':Heap} {A:Asn} {R:List Asn}
theorem sat.grow(hs:sat h R)(hg:∀(k:Nat) o,h[k]? =some o→h'[k]? =some o):sat h' R:=by
 obtain⟨m,h1,h2⟩:=hs
 exact⟨m,fun k o ho=>hg k o (h1 k o ho),h2⟩
theorem sat.came(hs:sat h R)(hg:∀(k:Nat) o,h[k]? =some o→h'[k]? =some o){b:Nat}{o:Obj}(hb:h.size≤b)(ho:h'[b]? =some o):sat h' (blk b o::R):=by
 obtain⟨m,h1,h2⟩:=hs
 have hm:m b=none:=by
  cases hx:m b with
  |none=>rfl
  |some x=>
   have:=(F7.1 (h1 _ _ hx)).1
   omega
 refine⟨PH.join (fun k=>if k=b then some o else none) m,B4M (fun k x hx=>?_) (fun k x hx=>hg k x (h1 k x hx)),_,m,fun k=>?_,rfl,by simp[blk],h2⟩
 ·have dQ:(if k=b then some o else none)=some x:=hx
  split at dQ
  ·rename_i e;subst e;cases dQ;exact ho
  ·cases dQ
 ·by_cases e:k=b
  ·subst e;exact .inr hm
  ·exact .inl (by simp[e])
theorem sat.eG(hs:sat h R)(hg:∀(k:Nat) o,h[k]? =some o→h'[k]? =some o){b:Nat}{cs:C9O}{T:TypeId}(hb:h.size≤b)(ho:h'[b]? =some (.cells cs T (0,0))):sat h' (cells b cs::R):=
 A2l.2 ⟨T,hs.came hg hb ho⟩
theorem B3Z{P:Program}{f:FuncId}{args:C9O}{v:Value}{Q:Value→Heap→Prop}(hs:sat h R)
  (hc:∀w,w.heap=h→Calls P f args w fun e w'=>e=.returned v∧Go.RowKit.Below w.heap.size w w')(hq:∀h',sat h' R→Q v h'):V3 P f args h Q:=by
 intro w hw
 refine(hc w hw).mono ?_
 rintro e w' ⟨rfl,hb⟩
 refine⟨v,rfl,⟨hb.os,hb.tape,hb.output⟩,hq _ (hs.grow fun k o ho=>?_)⟩
 rw[hb.block k (by rw[hw];exact(F7.1 ho).1),hw]
 exact ho
end
section
variable {α:Type} {enc:α→C9P} {size:Nat} {h h0 h':Heap} {s:Slc} {xs:List α} {R:List Asn}
theorem Z7.mono(hr:Z7 enc size h0 s xs)(hc:∀a v,W0 h0 a=some v→W0 h a=some v):Z7 enc size h s xs:=
 ⟨hr.1,hr.2.1,fun i x hx=>by
  obtain⟨a,ha,hx⟩:=hr.2.2 i x hx
  exact⟨a,ha,fun j v hv=>hc _ _ (hx j v hv)⟩⟩
theorem Z7.old(hr:Z7 enc size h0 s xs)(hs:sat h (old h0::R)):Z7 enc size h s xs:=hr.mono fun _ _ hc=>hs.bY hc
end
structure C6i{α:Type}(enc:α→C9P)(size:Nat)(s:Slc)(xs:List α)(b o:Nat)(cs:C9O):Prop where
 a:s.a=some ⟨b,o*size,none⟩
 le:s.len≤s.cap
 len:s.len=xs.length
 dP:(o+s.cap)*size≤cs.size
 front:(cs.toList.drop (o*size)).take (s.len*size)=xs.flatMap enc
def U5{α:Type}(enc:α→C9P)(size:Nat)(s:Slc)(xs:List α):Asn:=fun m=>
 (s.len=0∧s.cap=0∧xs=[])∨exA (fun x:Nat×Nat×C9O=>star (pr (C6i enc size s xs x.1 x.2.1 x.2.2)) (cells x.1 x.2.2)) m
section
variable {α:Type} {enc:α→C9P} {size:Nat} {h:Heap} {s:Slc} {xs:List α} {R:List Asn}
theorem A1E(hs:sat h (U5 enc size s xs::R)):(s.len=0∧s.cap=0∧xs=[]∧sat h R)∨∃b o cs,C6i enc size s xs b o cs∧sat h (cells b cs::R):=by
 obtain⟨m,h1,a,r,hd,rfl,ha,hr⟩:=id hs
 rcases ha with⟨h2,h3,h4⟩|ha
 ·exact .inl ⟨h2,h3,h4,hs.drop⟩
 ·have af:sat h (exA (fun x:Nat×Nat×C9O=>star (pr (C6i enc size s xs x.1 x.2.1 x.2.2)) (cells x.1 x.2.2))::R):=⟨_,h1,a,r,hd,rfl,ha,hr⟩
  rw[sat.bA] at af
  obtain⟨⟨b,o,cs⟩,af⟩:=af
  rw[sat.aI,sat.bC] at af
  exact .inr ⟨b,o,cs,af⟩
theorem A6E{a:C9N}(hs:sat h R):sat h (U5 enc size ⟨a,0,0⟩ []::R):=by
 obtain⟨m,h1,h2⟩:=hs
 exact⟨m,h1,fun _=>none,m,fun k=>.inl rfl,by funext k;rfl,.inl ⟨rfl,rfl,rfl⟩,h2⟩
theorem Z3(hs:sat h R):sat h (U5 enc size ⟨none,0,0⟩ []::R):=A6E hs
theorem A1D{b o:Nat}{cs:C9O}(ho:C6i enc size s xs b o cs)(hs:sat h (cells b cs::R)):sat h (U5 enc size s xs::R):=by
 have af:sat h (exA (fun x:Nat×Nat×C9O=>star (pr (C6i enc size s xs x.1 x.2.1 x.2.2)) (cells x.1 x.2.2))::R):=by
  rw[sat.bA]
  refine⟨(b,o,cs),?_⟩
  rw[sat.aI,sat.bC]
  exact⟨ho,hs⟩
 exact af.imp fun m hm=>.inr hm
theorem sat.aW(hs:sat h (U5 enc size s xs::R)):s.len=xs.length:=by
 rcases A1E hs with⟨h1,h2,rfl,-⟩|⟨b,o,cs,ho,-⟩
 ·exact h1
 ·exact ho.len
theorem sat.eC(hs:sat h (U5 enc size s xs::R)):s.len≤s.cap:=by
 rcases A1E hs with⟨h1,h2,rfl,-⟩|⟨b,o,cs,ho,-⟩
 ·omega
 ·exact ho.le
theorem B5P(ao:∀x,(enc x).length=size):∀(xs:List α) (i:Nat) (x:α),xs[i]? =some x→∀j v,(enc x)[j]? =some v→(xs.flatMap enc)[i*size+j]? =some v
 |[],i,x,hx,_,_,_=>by simp at hx
 |y::xs,0,x,hx,j,v,hv=>by
  simp only[L7,F4] at hx
  subst hx
  rw[D8,S9,L9]
  have hj:=(E0.1 hv).1
  rw[List.getElem?_append_left hj]
  exact hv
 |y::xs,i+1,x,hx,j,v,hv=>by
  rw[I9] at hx
  rw[D8,List.getElem?_append_right (by rw[ao];rw[J6];omega),ao]
  rw[show(i+1)*size+j-size=i*size+j from by rw[J6];omega]
  exact B5P ao xs i x hx j v hv
theorem y5(ao:∀x,(enc x).length=size)(xs:List α):(xs.flatMap enc).length=xs.length*size:=by
 induction xs with
 |nil=>simp
 |cons x xs ih=>rw[D8,B5,ih,ao,B8,J6];omega
theorem sat.aO(ao:∀x,(enc x).length=size)(hs:sat h (U5 enc size s xs::R)):Z7 enc size h s xs:=by
 rcases A1E hs with⟨h1,h2,rfl,-⟩|⟨b,o,cs,ho,hs⟩
 ·exact⟨h1,by omega,fun i x hx=>by simp at hx⟩
 ·refine⟨ho.len,ho.le,fun i x hx=>⟨_,ho.a,fun j v hv=>?_⟩⟩
  rw[Addr.bM,Addr.bM,hs.cell]
  have h1:=B5P ao xs i x hx j v hv
  rw[←ho.front,M0] at h1
  split at h1
  ·rw[N8] at h1
   rw[show o*size+i*size+j=o*size+(i*size+j) from by omega]
   simpa using h1
  ·cases h1
theorem B2i{lo hi:Nat}{mx:Option Int}{Q:Slc→Heap→Prop}{ol oh:Option Int}(hs:sat h (U5 enc size s xs::R))(ao:∀x,(enc x).length=size)
  (h1:lo≤hi)(h2:hi≤xs.length)(e1:A36 ol (lo=0) lo hi)(e2:A36 oh (hi=s.len) hi s.cap)
  (hq:∀s',sat h (U5 enc size s' ((xs.take hi).drop lo)::R)→Q s' h):HM.slice s ol oh none size h Q:=by
 have hl:=hs.aW
 have hc:=hs.eC
 refine⟨lo,hi,s.cap,rfl,?_,e1,hq _ ?_⟩
 ·cases oh with
  |none=>exact⟨rfl,e2⟩
  |some x=>exact e2
 rcases A1E hs with⟨g1,g2,rfl,aa⟩|⟨b,o,cs,ho,aa⟩
 ·have:hi=0:=by simpa using h2
  subst this
  have:lo=0:=by omega
  subst this
  simp only[j9,g2,if_true,List.take_nil,List.drop_nil,Q3]
  exact A6E aa
 ·by_cases hm:s.cap=lo
  ·have e0:lo=xs.length:=by omega
   simp only[j9,hm,if_true,Q3]
   rw[M9 (by simp;omega),show hi-lo=0 from by omega]
   exact A6E hs.drop
  ·refine A1D (b:=b) (o:=o+lo) (cs:=cs) ⟨?_,?_,?_,?_,?_⟩ aa
   ·simp only[j9,if_neg hm,ho.a,R8,Addr.bM,J8]
   ·simp only[j9];omega
   ·simp only[j9,R2,E6];omega
   ·simp only[j9]
    rw[show o+lo+(s.cap-lo)=o+s.cap from by omega]
    exact ho.dP
   ·simp only[j9]
    have hf:=ho.front
    have e3:((xs.take hi).drop lo).flatMap enc=((xs.flatMap enc).take (hi*size)).drop (lo*size):=by
     have key:∀(l:List α) (n:Nat),(l.flatMap enc).take (n*size)=(l.take n).flatMap enc∧(l.flatMap enc).drop (n*size)=(l.drop n).flatMap enc:=by
      intro l
      induction l with
      |nil=>intro n;simp
      |cons x l ih=>
       intro n
       cases n with
       |zero=>simp
       |succ n=>
        have hx:=ao x
        rw[D8,J6,List.take_succ_cons,List.drop_succ_cons,D8]
        refine⟨?_,?_⟩
        ·rw[List.take_append,hx,D6 (by omega),show n*size+size-size=n*size from by omega,(ih n).1]
        ·rw[List.drop_append,hx,M9 (by omega),show n*size+size-size=n*size from by omega,(ih n).2,F2]
     rw[(key xs hi).1,(key (xs.take hi) lo).2]
    rw[e3,←hf]
    rw[List.take_take,Nat.min_eq_left (Q7 _ (by omega:hi≤s.len)),List.drop_take,List.drop_drop,J8,←Nat.sub_mul]
theorem sat.setCells{b:Nat}:∀(vs:C9P) (cs:C9O) (o i:Nat) {h:Heap} {R:List Asn},sat h (cells b cs::R)→o+i+vs.length≤cs.size→
  ∃cs':C9O,cs'.size=cs.size∧cs'.toList=cs.toList.take (o+i)++vs++cs.toList.drop (o+i+vs.length)∧sat (A2f h ⟨b,o,none⟩ vs i) (cells b cs'::R)
 |[],cs,o,i,h,R,hs,hl=>⟨cs,rfl,by simp,hs⟩
 |v::vs,cs,o,i,h,R,hs,hl=>by
  simp only[B8] at hl
  have h1:=hs.set (o+i) v
  obtain⟨cs',e1,e2,h2⟩:=sat.setCells vs (cs.setIfInBounds (o+i) v) o (i+1) h1 (by simp;omega)
  refine⟨cs',by simpa using e1,?_,by simpa[A2f] using h2⟩
  rw[e2,P7]
  have hlen:o+i<cs.toList.length:=by simp;omega
  rw[show o+(i+1)=(o+i)+1 from by omega,C7 (by simpa using hlen)]
  rw[List.getElem_set_self,List.take_set_of_le (D9 _),List.drop_set_of_lt (by omega)]
  simp only[B8,D2,G5,F2]
  rw[show o+i+1+vs.length=o+i+(vs.length+1) from by omega]
theorem A3r{b:Nat}{cs:C9O}{o:Nat}{vs:C9P}(hs:sat h (cells b cs::R))(hl:o+vs.length≤cs.size)(hv:∀v∈vs,v.oneCell'=true):
  ∀(i:Nat) v,vs[i]? =some v→(W0 h (Addr.add ⟨b,o,none⟩ i)).isSome=true∧A2j h (Addr.add ⟨b,o,none⟩ i)=false∧v.oneCell'=true:=by
 intro i v hi
 have ah:=(E0.1 hi).1
 rw[Addr.bM]
 refine⟨?_,hs.free _,hv v (E9 hi)⟩
 rw[hs.cell]
 simp
 omega
theorem A0d(ao:∀x,(enc x).length=size)(dr:∀x,∀v∈enc x,v.oneCell'=true){elem:TypeId}{bytes n:Nat}{zero:C9O}(hz:zero.size=size){src:Heap→C9O→Prop}{ys:List α}{Q:Slc→Heap→Prop}
  (hs:sat h (U5 enc size s xs::R))(hn:ys.length=n)(gh:src h (ys.flatMap enc).toArray)(hsz:0<size)(gQ:0<bytes)(hb:(xs.length+n)*bytes≤140737488355328)
  (hq:∀s' h',sat h' (U5 enc size s' (xs++ys)::R)→Q s' h'):HM.append elem size bytes zero s n src h Q:=by
 have hl:=hs.aW
 have iY:xs.length+n≤140737488355328:=C4 (Nat.le_mul_of_pos_right _ gQ) hb
 constructor
 ·intro hc
  refine⟨_,gh,?_⟩
  rcases A1E hs with⟨g1,g2,rfl,aa⟩|⟨b,o,cs,ho,hs⟩
  ·have h0:n=0:=by omega
   subst h0
   have hy:ys=[]:=List.eq_nil_of_length_eq_zero hn
   subst hy
   obtain⟨sa,sl,sc⟩:=s
   simp only at g1 g2
   subst g1 g2
   cases sa with
   |none=>exact hq _ _ (A6E aa)
   |some a=>exact⟨fun i v hv=>by simp at hv,hq _ _ (A6E aa)⟩
  ·rw[ho.a]
   simp only[Addr.bM]
   have hlen:(o*size+s.len*size)+(ys.flatMap enc).length≤cs.size:=by
    refine C4 ?_ ho.dP
    rw[y5 ao,hn,←J8,←J8]
    exact Q7 _ (by omega)
   refine⟨?_,?_⟩
   ·have:=A3r (o:=o*size+s.len*size) (vs:=ys.flatMap enc) hs hlen (fun v hv=>by
     obtain⟨x,_,hx⟩:=R3.1 hv
     exact dr x v hx)
    simpa using this
   ·obtain⟨cs',e1,e2,af⟩:=sat.setCells (ys.flatMap enc) cs (o*size+s.len*size) 0 hs (by simpa using hlen)
    refine hq _ _ (A1D (b:=b) (o:=o) (cs:=cs') ⟨rfl,hc,by simp[ho.len,hn],by rw[e1];exact ho.dP,?_⟩ (by simpa using af))
    rw[e2]
    simp only[O7]
    have aQ:cs.toList.length=cs.size:=by simp
    have d1:((cs.toList.take (o*size+s.len*size)++ys.flatMap enc++cs.toList.drop (o*size+s.len*size+(ys.flatMap enc).length)).drop (o*size))=
      xs.flatMap enc++ys.flatMap enc++cs.toList.drop (o*size+s.len*size+(ys.flatMap enc).length):=by
     rw[D2,P1 (by rw[E6,aQ];omega),List.drop_take,show o*size+s.len*size-o*size=s.len*size from by omega,ho.front,D2]
    rw[d1,I6]
    have e3:(s.len+n)*size=(xs.flatMap enc++ys.flatMap enc).length:=by
     rw[B5,y5 ao,y5 ao,J8,ho.len,hn]
    rw[e3,List.take_left']
    rfl
 ·intro hc
  refine⟨by omega,growslice_fits hc (by rw[hl];exact hb),?_⟩
  have gL:∀old:C9O,old.toList=xs.flatMap enc→∀c,s.len+n≤c→∀R',sat h R'→
    sat (h.push (.cells (old++(ys.flatMap enc).toArray++Builtin.zeroCells zero (c-(s.len+n))) elem)) (U5 enc size ⟨some ⟨h.size,0,none⟩,s.len+n,c⟩ (xs++ys)::R'):=by
   intro old hold c fT R' xM
   have ho:old.size=s.len*size:=by
    have:=congrArg List.length hold
    rw[y5 ao] at this
    simpa[hl] using this
   refine A1D (o:=0) ⟨by simp,fT,by simp[hl,hn],T4 ?_,?_⟩ xM.bK
   ·simp only[L9,Array.size_append,ho,Builtin.zeroCells,Array.size_map,Array.size_range,hz,List.size_toArray,y5 ao,hn]
    rw[←J8,←J8]
    congr 1
    omega
   ·simp only[Array.toList_append,hold,I6,S9,S4]
    rw[P2 (by simp only[B5,y5 ao];rw[hl,J8,hn];exact D9 _)]
    rw[D6]
    simp only[B5,y5 ao]
    rw[hl,J8,hn]
    exact D9 _
  rcases A1E hs with⟨g1,g2,rfl,aa⟩|⟨b,o,cs,ho,hs⟩
  ·refine⟨#[],_,?_,gh,fun c fT _=>hq _ _ (gL #[] rfl c fT R aa)⟩
   rw[g1,S9]
   cases s.a with
   |none=>rfl
   |some a=>exact⟨rfl,fun i v hv=>by simp at hv⟩
  ·refine⟨(xs.flatMap enc).toArray,_,?_,gh,fun c fT _=>hq _ _ (gL _ (by simp) c fT R hs.drop)⟩
   simp only[A51,ho.a]
   refine⟨by simp[y5 ao,ho.len],fun i v hi=>?_⟩
   rw[Addr.bM,hs.cell]
   have h1:(xs.flatMap enc)[i]? =some v:=by simpa using hi
   rw[←ho.front,M0] at h1
   split at h1
   ·rw[N8] at h1
    simpa using h1
   ·cases h1
theorem sat.reads{b:Nat}{cs:C9O}{n:Nat}(hs:sat h (cells b cs::R))(hn:cs.size=n):A51 h (some ⟨b,0,none⟩) n cs:=
 ⟨hn,fun i v hi=>by rw[Addr.bM,hs.cell,L9];exact hi⟩
theorem A06(ao:∀x,(enc x).length=size)(dr:∀x,∀v∈enc x,v.oneCell'=true){elem T:TypeId}{bytes:Nat}{zero:C9O}(hz:zero.size=size){x:α}{Q:Slc→Heap→Prop}
  (hs:sat h (U5 enc size s xs::R))(hsz:0<size)(gQ:0<bytes)(hb:(xs.length+1)*bytes≤140737488355328)
  (hq:∀s' h',sat h' (U5 enc size s' (xs++[x])::R)→Q s' h'):HM.new (.cells (enc x).toArray T) h fun b h'=>HM.append elem size bytes zero s 1 (V6 size ⟨some ⟨b,0,none⟩,1,1⟩) h' Q:=by
 refine V5 hs fun b h1 aa=>?_
 refine A0d ao dr hz (ys:=[x]) aa.p1 rfl ?_ hsz gQ hb fun s' h2 ae=>hq s' h2 ae.p1.drop
 simp only[V6,N5,D8,H9,C1]
 exact aa.reads (by simp[ao])
theorem A0n{ts:List Tag}{a:Addr}(x:Tup ts){Q:Tup ts→Heap→Prop}(hc:∀i v,(Tup.cC ts x)[i]? =some v→W0 h (a.add i)=some v)(hq:Q x h):o3 ts a h Q:=⟨x,hc,hq⟩
theorem U3(b i:Nat):(⟨b,0,none⟩:Addr).add i=⟨b,i,none⟩:=by
 cases i with
 |zero=>rfl
 |succ i=>simp[Addr.add]
theorem Y5{b:Nat}{cs:C9O}{ts:List Tag}(x:Tup ts){Q:Tup ts→Heap→Prop}(hs:sat h (cells b cs::R))(he:cs=(Tup.cC ts x).toArray)(hq:Q x h):o3 ts ⟨b,0,none⟩ h Q:=by
 refine⟨x,fun i v hv=>?_,hq⟩
 have:=hs.cell i
 rw[he] at this
 have e:(⟨b,0,none⟩:Addr).add i=⟨b,i,none⟩:=by
  cases i with
  |zero=>rfl
  |succ i=>simp[Addr.add]
 rw[e,this]
 simpa using hv
theorem B4N{b:Nat}{cs:C9O}{vs:C9P}{Q:Unit→Heap→Prop}(hs:sat h (cells b cs::R))(hl:vs.length=cs.size)(hv:∀v∈vs,v.oneCell'=true)
  (hq:∀h',sat h' (cells b vs.toArray::R)→Q () h'):A94 ⟨b,0,none⟩ vs h Q:=by
 refine⟨A3r (o:=0) hs (by omega) hv,?_⟩
 obtain⟨cs',e1,e2,af⟩:=sat.setCells vs cs 0 0 hs (by omega)
 have e3:cs'=vs.toArray:=by
  apply I3.1
  rw[e2]
  simp only[O7,L9,List.take_zero,F2]
  rw[M9 (by simp;omega)]
  simp
 subst e3
 exact hq _ af
theorem l5{b:Nat}{cs:C9O}{vs:C9P}{Q:Unit→Heap→Prop}(hs:sat h (cells b cs::R))(hl:vs.length=cs.size)(hv:vs.all (fun v=>v.oneCell')=true)
  (hq:∀h',sat h' (cells b vs.toArray::R)→Q () h'):A94 ⟨b,0,none⟩ vs h Q:=
 B4N hs hl (J1.1 hv) hq
end
end
end Go.H
namespace Go.R
open Go.H
theorem C2U{α:Type}{p:Nat→α→Prop}:∀(n:Nat),(∀i,i<n→∃x,p i x)→∃xs:List α,xs.length=n∧∀(i:Nat) x,xs[i]? =some x→p i x
 |0,_=>⟨[],rfl,fun i x hx=>by simp at hx⟩
 |n+1,hp=>by
  obtain⟨xs,h1,h2⟩:=C2U n (fun i hi=>hp i (by omega))
  obtain⟨x,hx⟩:=hp n (by omega)
  refine⟨xs++[x],by simp[h1],fun i y hy=>?_⟩
  rw[List.getElem?_append] at hy
  split at hy
  ·exact h2 i y hy
  ·rename_i hi
   have h3:=(E0.1 hy).1
   simp only[B8,H2] at h3
   have ed:i=n:=by omega
   subst ed
   rw[h1,Q3] at hy
   cases hy
   exact hx
structure OkLaw{H:Type}(P:Program)(ok:TypeId→DataW H→Prop)(top:Nat)(wt:TypeId→Nat):Prop where
 str:∀{t:TypeId} {bs:List UInt8},ok t (.lit (.string bs))→bs.length≤top
 elem:∀{t e:TypeId} {elems rest:List (DataW H)} {d:DataW H},P.underlying t=some (.slice e)→ok t (.slice elems rest)→d∈elems→ok e d
 eT:∀{t e:TypeId} {elems rest:List (DataW H)},P.underlying t=some (.slice e)→ok t (.slice elems rest)→elems.length*wt e≤top
 field:∀{t:TypeId} {fs:Array Field} {parts:List (DataW H)} {j:Nat} {f:Field} {d:DataW H},P.underlying t=some (.struct fs)→ok t (.agg parts)→fs[j]? =some f→parts[j]? =some d→ok f.type d
 arr:∀{t e:TypeId} {n:Nat} {parts:List (DataW H)} {d:DataW H},P.underlying t=some (.array n e)→ok t (.agg parts)→d∈parts→ok e d
theorem okWide_agg{P:Program}{w:World}{t:TypeId}{fs:Array Field}{r:Reach}{b0:Nat}{v:Value}(ht:P.underlying t=some (.struct fs))(h:Value.okWide P w r b0 t v):∃cs,v=.agg cs:=by
 simp only[Value.okWide,ht] at h
 obtain⟨cs,h1,_⟩:=h
 exact⟨cs,h1⟩
structure GoodG{α:Type}(enc:α→C9P)(size wt top:Nat)(h:Heap)(bR:α→Prop)(x:Slc×List α):Prop where
 row:Z7 enc size h x.1 x.2
 bR:∀y∈x.2,bR y
 cap:x.1.cap≤maxLen
 reach:x.2.length*wt≤top
section
variable {H:Type} (ec:TypeId×Value→H) (P:Program) (w:World) (base:Nat) (sp:Nat→Bool) (held:Bool) (ok:TypeId→DataW H→Prop)
def RdG{α:Type}(t:TypeId)(enc:α→C9P)(bR:α→Prop):Prop:=
 ∀fuel cs y,DataW.trod ec P w base sp held fuel t cs=some y→ok t y.1→∃x,cs=enc x∧bR x
def RdF{α:Type}(fs:List Field)(o n:Nat)(enc:α→C9P)(bR:α→Prop):Prop:=
 ∀fuel (cs:C9P) (xs:List (DataW H×List MemPlace)),cs.length=n→xs.length=fs.length→
  (∀(j:Nat) f,fs[j]? =some f→DataW.trod ec P w base sp held fuel f.type ((cs.drop f.offset).take (P.cellsOf f.type))=xs[j]?)→
  (∀(j:Nat) f d,fs[j]? =some f→xs[j]? =some d→ok f.type d.1)→∃x,cs.drop o=enc x∧bR x
end
section
variable {H:Type} {ec:TypeId×Value→H} {P:Program} {w:World} {base:Nat} {sp:Nat→Bool} {held:Bool} {ok:TypeId→DataW H→Prop} {top:Nat} {wt:TypeId→Nat}
theorem rg_map{α β:Type}{t:TypeId}{enc:α→C9P}{bR:α→Prop}{enc':β→C9P}{good':β→Prop}(f:α→β)
  (h:RdG ec P w base sp held ok t enc bR)(he:∀x,enc x=enc' (f x))(hg:∀x,bR x→good' (f x)):RdG ec P w base sp held ok t enc' good':=fun fuel cs y hy hw=>by
 obtain⟨x,h1,h2⟩:=h fuel cs y hy hw
 exact⟨f x,h1.trans (he x),hg x h2⟩
theorem rg_int{t:TypeId}{k:IntKind}(ht:P.underlying t=some (.int k)):RdG ec P w base sp held ok t (fun x:Int=>[.int k x]) (fun x=>(Lit.int k x).wf=true):=fun _ _ _ h _=>by
 obtain⟨n,h1,_,h2⟩:=DataW.trod_int ht h
 exact⟨n,h1,h2⟩
theorem rg_bool{t:TypeId}(ht:P.underlying t=some .bool):RdG ec P w base sp held ok t (fun x:Bool=>[.bool x]) (fun _=>True):=fun _ _ _ h _=>by
 obtain⟨n,h1,_⟩:=DataW.trod_bool ht h
 exact⟨n,h1,trivial⟩
theorem rg_str(hk:OkLaw P ok top wt){t:TypeId}(ht:P.underlying t=some .string):RdG ec P w base sp held ok t (fun x:B3O=>[.string x]) (fun x=>x.size≤top):=fun _ _ _ h hw=>by
 obtain⟨n,h1,rfl,h2⟩:=DataW.trod_string ht h
 refine⟨n,h1,?_⟩
 have:=hk.str hw
 rwa[N6] at this
theorem rg_slice(hk:OkLaw P ok top wt){α:Type}{t e:TypeId}{enc:α→C9P}{bR:α→Prop}(ht:P.underlying t=some (.slice e)){size k:Nat}(hc:P.cellsOf e=size)(hb:wt e=k)(he:RdG ec P w base sp held ok e enc bR):
  RdG ec P w base sp held ok t (fun x:Slc×List α=>[.slice x.1.a x.1.len x.1.cap]) (GoodG enc size k top w.heap bR):=fun fuel cs y h hw=>by
 subst hc hb
 rcases DataW.trod_slice ht h with⟨rfl,_⟩|⟨a,len,cap,elems,rest,n,_,rfl,rfl,_,hl,hm,hlen,qE,_,_⟩
 ·exact⟨(⟨none,0,0⟩,[]),rfl,⟨rfl,D9 _,fun i x hx=>by simp at hx⟩,fun y hy=>by simp at hy,D1 _,by simp⟩
 ·have je:∀i (hi:i<elems.length),ok e (elems[i]'hi).1:=fun i hi=>hk.elem ht hw (B3 (H3 hi))
  have uN:=hk.eT ht hw
  have h1:∀i,i<len→∃x,bR x∧∀j v,(enc x)[j]? =some v→W0 w.heap ((a.add (i*P.cellsOf e)).add j)=some v:=by
   intro i hi
   have h2:=qE i hi
   rw[B0 (by omega),Option.bind_eq_some_iff] at h2
   obtain⟨cs',h3,h4⟩:=h2
   obtain⟨x,rfl,hg⟩:=he _ _ _ h4 (je i (by omega))
   obtain⟨_,h5,h6⟩:=World.cells?_some h3
   refine⟨x,hg,fun j v hv=>?_⟩
   rw[←B9g,h6 j (by rw[←h5];exact(E0.1 hv).1)]
   exact hv
  obtain⟨xs,h2,h3⟩:=C2U len h1
  refine⟨(⟨some a,len,cap⟩,xs),rfl,⟨h2.symm,hl,fun i x hx=>⟨a,rfl,(h3 i x hx).2⟩⟩,fun y hy=>?_,hm,?_⟩
  ·obtain⟨i,hi⟩:=List.getElem?_of_mem hy
   exact(h3 i y hi).1
  ·simp only
   rw[C2] at uN
   rw[h2,←hlen]
   exact uN
theorem rf_cons{α β:Type}{f:Field}{fs:List Field}{o n:Nat}{c:Nat}{e0:α→C9P}{g0:α→Prop}{e1:β→C9P}{g1:β→Prop}(hc:P.cellsOf f.type=c)(ho:f.offset=o)
  (h0:RdG ec P w base sp held ok f.type e0 g0)(h1:RdF ec P w base sp held ok fs (o+c) n e1 g1):RdF ec P w base sp held ok (f::fs) o n (fun x:α×β=>e0 x.1++e1 x.2) (fun x=>g0 x.1∧g1 x.2):=fun fuel cs xs hl hx hf ag=>by
 subst hc ho
 cases xs with
 |nil=>simp at hx
 |cons y xs=>
  obtain⟨x0,c0,k0⟩:=h0 fuel _ y (hf 0 f rfl) (ag 0 f y rfl rfl)
  obtain⟨x1,c1,k1⟩:=h1 fuel cs xs hl (by simpa using hx) (fun j f' hj=>by have:=hf (j+1) f' (by simpa using hj);simpa using this) (fun j f' d hj hd=>ag (j+1) f' d (by simpa using hj) (by simpa using hd))
  refine⟨(x0,x1),?_,k0,k1⟩
  simp only[←c0,←c1]
  rw[←List.drop_drop,J7]
theorem rf_one{α:Type}{f:Field}{o n:Nat}{c:Nat}{e0:α→C9P}{g0:α→Prop}(hc:P.cellsOf f.type=c)(ho:f.offset=o)(hn:n≤o+c)
  (h0:RdG ec P w base sp held ok f.type e0 g0):RdF ec P w base sp held ok [f] o n e0 g0:=fun fuel cs xs hl hx hf ag=>by
 subst hc ho
 cases xs with
 |nil=>simp at hx
 |cons y xs=>
  obtain⟨x0,c0,k0⟩:=h0 fuel _ y (hf 0 f rfl) (ag 0 f y rfl rfl)
  refine⟨x0,?_,k0⟩
  rw[←c0,D6 (by rw[R2];omega)]
theorem rg_struct(hk:OkLaw P ok top wt){α:Type}{t:TypeId}{fs:Array Field}{n:Nat}{enc:α→C9P}{bR:α→Prop}(ht:P.underlying t=some (.struct fs))(hn:P.cellsOf t=n)(h:RdF ec P w base sp held ok fs.toList 0 n enc bR):
  RdG ec P w base sp held ok t enc bR:=fun fuel cs y hy hw=>by
 obtain⟨xs,m,_,rfl,hl,hx,hf⟩:=DataW.trod_struct ht hy
 obtain⟨x,h1,h2⟩:=h m cs xs (hl.trans hn) (by simpa using hx) (fun j f hj=>hf j f (by simpa using hj)) (fun j f d hj hd=>hk.field ht hw (by simpa using hj) (by rw[J2,hd];rfl))
 exact⟨x,by simpa using h1,h2⟩
end
end Go.R
namespace Go.Proofs
open Go.H
variable {H:Type} {enc:TypeId×Value→H}
end Go.Proofs
namespace Go.Proofs.YtidlldnlphdhcaaGreatDoor
open Go.H
open Go.Proofs.Tryz
open Go.H Go.Proofs
theorem C7r{P:Program}{C:List Nat}{n:Nat}{live lc:List Nat}{f:FuncId}{fn:Func}{ks:List Kind}{args:C9P}{h:Heap}{Q:Value→Heap→Prop}{m:HM (q9 ks)}(hf:P.funcs[f]? =some fn)(hb:fn.body.isSome=true)(hn:fn.ntmps=n)(hlen:Nat.ble args.length n=true)
  (hC:∀f,f∈C→A1z P f)(hm:P.follows .mixedOrders=true)(he:C5R P C n live lc fn.results.toList ks (B6u fn) args=m)(hd:m h fun x h'=>Q (packed ks x) h'):V3 P f args.toArray h Q:=
 B11 hf hb hn hlen hC hm (he▸hd)
theorem C7N:prog.follows .mixedOrders=true:=by kernel_rfl
def HCs{α:Type}(f:Nat)(args:C9O)(m:HM α)(k:α→Value):Prop:=∀(h:Heap) (Q:Value→Heap→Prop),(m h fun x h'=>Q (k x) h')→V3 prog f args h Q
theorem cE{C:List Nat}{n:Nat}{f:FuncId}{fn:Func}{args:C9P}(ks:List Kind){m:HM (q9 ks)}(live lc:List Nat)(hf:prog.funcs[f]? =some fn)(hn:fn.ntmps=n)(hC:∀f,f∈C→A1z prog f)(he:C5R prog C n live lc fn.results.toList ks (B6u fn) args=m:=by kernel_rfl)(hb:fn.body.isSome=true:=by kernel_rfl)(hlen:Nat.ble args.length n=true:=by kernel_rfl):HCs f args.toArray m (packed ks):=fun h Q hd=>B11 hf hb hn hlen hC C7N (he▸hd)
theorem CN{P:Program}:∀f,f∈([]:List Nat)→A1z P f:=fun f hf=>by cases hf
theorem CC{P:Program}{a:Nat}{l:List Nat}(h:A1z P a)(hl:∀f,f∈l→A1z P f):∀f,f∈a::l→A1z P f:=fun f hf=>by
 rcases D3.1 hf with rfl|hf
 ·exact h
 ·exact hl f hf
abbrev tS0:List Tag:=[.int .i64,.int .i64,.int .i64,.bool,.bool,.int .i64,.int .i64,.str,.str,.int .u8,.slc,.slc,.str,.bool,.int .i64,.bool,.str,.str,.int .i64,.bool,.slc,.bool,.bool,.str,.str,.bool,.slc,.slc,.bool,.str,.str,.int .i64,.bool,.str]
abbrev yS0:Type:=Int×Int×Int×Bool×Bool×Int×Int×B3O×B3O×Int×Slc×Slc×B3O×Bool×Int×Bool×B3O×B3O×Int×Bool×Slc×Bool×Bool×B3O×B3O×Bool×Slc×Slc×Bool×B3O×B3O×Int×Bool×B3O×Unit
abbrev aS0(x:yS0):C9O:=#[.int .i64 x.1,.int .i64 x.2.1,.int .i64 x.2.2.1,.bool x.2.2.2.1,.bool x.2.2.2.2.1,.int .i64 x.2.2.2.2.2.1,.int .i64 x.2.2.2.2.2.2.1,.string x.2.2.2.2.2.2.2.1,.string x.2.2.2.2.2.2.2.2.1,.int .u8 x.2.2.2.2.2.2.2.2.2.1,.slice x.2.2.2.2.2.2.2.2.2.2.1.a x.2.2.2.2.2.2.2.2.2.2.1.len x.2.2.2.2.2.2.2.2.2.2.1.cap,.slice x.2.2.2.2.2.2.2.2.2.2.2.1.a x.2.2.2.2.2.2.2.2.2.2.2.1.len x.2.2.2.2.2.2.2.2.2.2.2.1.cap,.string x.2.2.2.2.2.2.2.2.2.2.2.2.1,.bool x.2.2.2.2.2.2.2.2.2.2.2.2.2.1,.int .i64 x.2.2.2.2.2.2.2.2.2.2.2.2.2.2.1,.bool x.2.2.2.2.2.2.2.2.2.2.2.2.2.2.2.1,.string x.2.2.2.2.2.2.2.2.2.2.2.2.2.2.2.2.1,.string x.2.2.2.2.2.2.2.2.2.2.2.2.2.2.2.2.2.1,.int .i64 x.2.2.2.2.2.2.2.2.2.2.2.2.2.2.2.2.2.2.1,.bool x.2.2.2.2.2.2.2.2.2.2.2.2.2.2.2.2.2.2.2.1,.slice x.2.2.2.2.2.2.2.2.2.2.2.2.2.2.2.2.2.2.2.2.1.a x.2.2.2.2.2.2.2.2.2.2.2.2.2.2.2.2.2.2.2.2.1.len x.2.2.2.2.2.2.2.2.2.2.2.2.2.2.2.2.2.2.2.2.1.cap,.bool x.2.2.2.2.2.2.2.2.2.2.2.2.2.2.2.2.2.2.2.2.2.1,.bool x.2.2.2.2.2.2.2.2.2.2.2.2.2.2.2.2.2.2.2.2.2.2.1,.string x.2.2.2.2.2.2.2.2.2.2.2.2.2.2.2.2.2.2.2.2.2.2.2.1,.string x.2.2.2.2.2.2.2.2.2.2.2.2.2.2.2.2.2.2.2.2.2.2.2.2.1,.bool x.2.2.2.2.2.2.2.2.2.2.2.2.2.2.2.2.2.2.2.2.2.2.2.2.2.1,.slice x.2.2.2.2.2.2.2.2.2.2.2.2.2.2.2.2.2.2.2.2.2.2.2.2.2.2.1.a x.2.2.2.2.2.2.2.2.2.2.2.2.2.2.2.2.2.2.2.2.2.2.2.2.2.2.1.len x.2.2.2.2.2.2.2.2.2.2.2.2.2.2.2.2.2.2.2.2.2.2.2.2.2.2.1.cap,.slice x.2.2.2.2.2.2.2.2.2.2.2.2.2.2.2.2.2.2.2.2.2.2.2.2.2.2.2.1.a x.2.2.2.2.2.2.2.2.2.2.2.2.2.2.2.2.2.2.2.2.2.2.2.2.2.2.2.1.len x.2.2.2.2.2.2.2.2.2.2.2.2.2.2.2.2.2.2.2.2.2.2.2.2.2.2.2.1.cap,.bool x.2.2.2.2.2.2.2.2.2.2.2.2.2.2.2.2.2.2.2.2.2.2.2.2.2.2.2.2.1,.string x.2.2.2.2.2.2.2.2.2.2.2.2.2.2.2.2.2.2.2.2.2.2.2.2.2.2.2.2.2.1,.string x.2.2.2.2.2.2.2.2.2.2.2.2.2.2.2.2.2.2.2.2.2.2.2.2.2.2.2.2.2.2.1,.int .i64 x.2.2.2.2.2.2.2.2.2.2.2.2.2.2.2.2.2.2.2.2.2.2.2.2.2.2.2.2.2.2.2.1,.bool x.2.2.2.2.2.2.2.2.2.2.2.2.2.2.2.2.2.2.2.2.2.2.2.2.2.2.2.2.2.2.2.2.1,.string x.2.2.2.2.2.2.2.2.2.2.2.2.2.2.2.2.2.2.2.2.2.2.2.2.2.2.2.2.2.2.2.2.2.1]
abbrev lS0(x:yS0):C9P:=[.int .i64 x.1,.int .i64 x.2.1,.int .i64 x.2.2.1,.bool x.2.2.2.1,.bool x.2.2.2.2.1,.int .i64 x.2.2.2.2.2.1,.int .i64 x.2.2.2.2.2.2.1,.string x.2.2.2.2.2.2.2.1,.string x.2.2.2.2.2.2.2.2.1,.int .u8 x.2.2.2.2.2.2.2.2.2.1,.slice x.2.2.2.2.2.2.2.2.2.2.1.a x.2.2.2.2.2.2.2.2.2.2.1.len x.2.2.2.2.2.2.2.2.2.2.1.cap,.slice x.2.2.2.2.2.2.2.2.2.2.2.1.a x.2.2.2.2.2.2.2.2.2.2.2.1.len x.2.2.2.2.2.2.2.2.2.2.2.1.cap,.string x.2.2.2.2.2.2.2.2.2.2.2.2.1,.bool x.2.2.2.2.2.2.2.2.2.2.2.2.2.1,.int .i64 x.2.2.2.2.2.2.2.2.2.2.2.2.2.2.1,.bool x.2.2.2.2.2.2.2.2.2.2.2.2.2.2.2.1,.string x.2.2.2.2.2.2.2.2.2.2.2.2.2.2.2.2.1,.string x.2.2.2.2.2.2.2.2.2.2.2.2.2.2.2.2.2.1,.int .i64 x.2.2.2.2.2.2.2.2.2.2.2.2.2.2.2.2.2.2.1,.bool x.2.2.2.2.2.2.2.2.2.2.2.2.2.2.2.2.2.2.2.1,.slice x.2.2.2.2.2.2.2.2.2.2.2.2.2.2.2.2.2.2.2.2.1.a x.2.2.2.2.2.2.2.2.2.2.2.2.2.2.2.2.2.2.2.2.1.len x.2.2.2.2.2.2.2.2.2.2.2.2.2.2.2.2.2.2.2.2.1.cap,.bool x.2.2.2.2.2.2.2.2.2.2.2.2.2.2.2.2.2.2.2.2.2.1,.bool x.2.2.2.2.2.2.2.2.2.2.2.2.2.2.2.2.2.2.2.2.2.2.1,.string x.2.2.2.2.2.2.2.2.2.2.2.2.2.2.2.2.2.2.2.2.2.2.2.1,.string x.2.2.2.2.2.2.2.2.2.2.2.2.2.2.2.2.2.2.2.2.2.2.2.2.1,.bool x.2.2.2.2.2.2.2.2.2.2.2.2.2.2.2.2.2.2.2.2.2.2.2.2.2.1,.slice x.2.2.2.2.2.2.2.2.2.2.2.2.2.2.2.2.2.2.2.2.2.2.2.2.2.2.1.a x.2.2.2.2.2.2.2.2.2.2.2.2.2.2.2.2.2.2.2.2.2.2.2.2.2.2.1.len x.2.2.2.2.2.2.2.2.2.2.2.2.2.2.2.2.2.2.2.2.2.2.2.2.2.2.1.cap,.slice x.2.2.2.2.2.2.2.2.2.2.2.2.2.2.2.2.2.2.2.2.2.2.2.2.2.2.2.1.a x.2.2.2.2.2.2.2.2.2.2.2.2.2.2.2.2.2.2.2.2.2.2.2.2.2.2.2.1.len x.2.2.2.2.2.2.2.2.2.2.2.2.2.2.2.2.2.2.2.2.2.2.2.2.2.2.2.1.cap,.bool x.2.2.2.2.2.2.2.2.2.2.2.2.2.2.2.2.2.2.2.2.2.2.2.2.2.2.2.2.1,.string x.2.2.2.2.2.2.2.2.2.2.2.2.2.2.2.2.2.2.2.2.2.2.2.2.2.2.2.2.2.1,.string x.2.2.2.2.2.2.2.2.2.2.2.2.2.2.2.2.2.2.2.2.2.2.2.2.2.2.2.2.2.2.1,.int .i64 x.2.2.2.2.2.2.2.2.2.2.2.2.2.2.2.2.2.2.2.2.2.2.2.2.2.2.2.2.2.2.2.1,.bool x.2.2.2.2.2.2.2.2.2.2.2.2.2.2.2.2.2.2.2.2.2.2.2.2.2.2.2.2.2.2.2.2.1,.string x.2.2.2.2.2.2.2.2.2.2.2.2.2.2.2.2.2.2.2.2.2.2.2.2.2.2.2.2.2.2.2.2.2.1]
abbrev zS0:C9O:=#[.int .i64 0,.int .i64 0,.int .i64 0,.bool false,.bool false,.int .i64 0,.int .i64 0,.string (ByteArray.mk #[]),.string (ByteArray.mk #[]),.int .u8 0,.slice none 0 0,.slice none 0 0,.string (ByteArray.mk #[]),.bool false,.int .i64 0,.bool false,.string (ByteArray.mk #[]),.string (ByteArray.mk #[]),.int .i64 0,.bool false,.slice none 0 0,.bool false,.bool false,.string (ByteArray.mk #[]),.string (ByteArray.mk #[]),.bool false,.slice none 0 0,.slice none 0 0,.bool false,.string (ByteArray.mk #[]),.string (ByteArray.mk #[]),.int .i64 0,.bool false,.string (ByteArray.mk #[])]
abbrev tS1:List Tag:=[.int .i64,.int .i64,.bool,.bool,.int .i64,.int .i64,.str,.str,.int .u8,.slc,.slc,.str,.bool,.int .i64,.bool,.str,.str,.int .i64,.bool,.slc,.bool,.bool,.str,.str,.bool,.slc,.slc,.bool]
abbrev yS1:Type:=Int×Int×Bool×Bool×Int×Int×B3O×B3O×Int×Slc×Slc×B3O×Bool×Int×Bool×B3O×B3O×Int×Bool×Slc×Bool×Bool×B3O×B3O×Bool×Slc×Slc×Bool×Unit
abbrev lS1(x:yS1):C9P:=[.int .i64 x.1,.int .i64 x.2.1,.bool x.2.2.1,.bool x.2.2.2.1,.int .i64 x.2.2.2.2.1,.int .i64 x.2.2.2.2.2.1,.string x.2.2.2.2.2.2.1,.string x.2.2.2.2.2.2.2.1,.int .u8 x.2.2.2.2.2.2.2.2.1,.slice x.2.2.2.2.2.2.2.2.2.1.a x.2.2.2.2.2.2.2.2.2.1.len x.2.2.2.2.2.2.2.2.2.1.cap,.slice x.2.2.2.2.2.2.2.2.2.2.1.a x.2.2.2.2.2.2.2.2.2.2.1.len x.2.2.2.2.2.2.2.2.2.2.1.cap,.string x.2.2.2.2.2.2.2.2.2.2.2.1,.bool x.2.2.2.2.2.2.2.2.2.2.2.2.1,.int .i64 x.2.2.2.2.2.2.2.2.2.2.2.2.2.1,.bool x.2.2.2.2.2.2.2.2.2.2.2.2.2.2.1,.string x.2.2.2.2.2.2.2.2.2.2.2.2.2.2.2.1,.string x.2.2.2.2.2.2.2.2.2.2.2.2.2.2.2.2.1,.int .i64 x.2.2.2.2.2.2.2.2.2.2.2.2.2.2.2.2.2.1,.bool x.2.2.2.2.2.2.2.2.2.2.2.2.2.2.2.2.2.2.1,.slice x.2.2.2.2.2.2.2.2.2.2.2.2.2.2.2.2.2.2.2.1.a x.2.2.2.2.2.2.2.2.2.2.2.2.2.2.2.2.2.2.2.1.len x.2.2.2.2.2.2.2.2.2.2.2.2.2.2.2.2.2.2.2.1.cap,.bool x.2.2.2.2.2.2.2.2.2.2.2.2.2.2.2.2.2.2.2.2.1,.bool x.2.2.2.2.2.2.2.2.2.2.2.2.2.2.2.2.2.2.2.2.2.1,.string x.2.2.2.2.2.2.2.2.2.2.2.2.2.2.2.2.2.2.2.2.2.2.1,.string x.2.2.2.2.2.2.2.2.2.2.2.2.2.2.2.2.2.2.2.2.2.2.2.1,.bool x.2.2.2.2.2.2.2.2.2.2.2.2.2.2.2.2.2.2.2.2.2.2.2.2.1,.slice x.2.2.2.2.2.2.2.2.2.2.2.2.2.2.2.2.2.2.2.2.2.2.2.2.2.1.a x.2.2.2.2.2.2.2.2.2.2.2.2.2.2.2.2.2.2.2.2.2.2.2.2.2.1.len x.2.2.2.2.2.2.2.2.2.2.2.2.2.2.2.2.2.2.2.2.2.2.2.2.2.1.cap,.slice x.2.2.2.2.2.2.2.2.2.2.2.2.2.2.2.2.2.2.2.2.2.2.2.2.2.2.1.a x.2.2.2.2.2.2.2.2.2.2.2.2.2.2.2.2.2.2.2.2.2.2.2.2.2.2.1.len x.2.2.2.2.2.2.2.2.2.2.2.2.2.2.2.2.2.2.2.2.2.2.2.2.2.2.1.cap,.bool x.2.2.2.2.2.2.2.2.2.2.2.2.2.2.2.2.2.2.2.2.2.2.2.2.2.2.2.1]
abbrev zS1:C9O:=#[.int .i64 0,.int .i64 0,.bool false,.bool false,.int .i64 0,.int .i64 0,.string (ByteArray.mk #[]),.string (ByteArray.mk #[]),.int .u8 0,.slice none 0 0,.slice none 0 0,.string (ByteArray.mk #[]),.bool false,.int .i64 0,.bool false,.string (ByteArray.mk #[]),.string (ByteArray.mk #[]),.int .i64 0,.bool false,.slice none 0 0,.bool false,.bool false,.string (ByteArray.mk #[]),.string (ByteArray.mk #[]),.bool false,.slice none 0 0,.slice none 0 0,.bool false]
abbrev tS2:List Tag:=[.int .i64,.bool,.bool,.int .i64,.int .i64,.str,.str,.int .i64,.slc,.slc,.str,.bool,.int .i64,.bool,.str,.str,.int .i64,.bool,.slc,.bool,.bool,.str,.str,.bool,.slc,.slc]
abbrev yS2:Type:=Int×Bool×Bool×Int×Int×B3O×B3O×Int×Slc×Slc×B3O×Bool×Int×Bool×B3O×B3O×Int×Bool×Slc×Bool×Bool×B3O×B3O×Bool×Slc×Slc×Unit
abbrev aS2(x:yS2):C9O:=#[.int .i64 x.1,.bool x.2.1,.bool x.2.2.1,.int .i64 x.2.2.2.1,.int .i64 x.2.2.2.2.1,.string x.2.2.2.2.2.1,.string x.2.2.2.2.2.2.1,.int .i64 x.2.2.2.2.2.2.2.1,.slice x.2.2.2.2.2.2.2.2.1.a x.2.2.2.2.2.2.2.2.1.len x.2.2.2.2.2.2.2.2.1.cap,.slice x.2.2.2.2.2.2.2.2.2.1.a x.2.2.2.2.2.2.2.2.2.1.len x.2.2.2.2.2.2.2.2.2.1.cap,.string x.2.2.2.2.2.2.2.2.2.2.1,.bool x.2.2.2.2.2.2.2.2.2.2.2.1,.int .i64 x.2.2.2.2.2.2.2.2.2.2.2.2.1,.bool x.2.2.2.2.2.2.2.2.2.2.2.2.2.1,.string x.2.2.2.2.2.2.2.2.2.2.2.2.2.2.1,.string x.2.2.2.2.2.2.2.2.2.2.2.2.2.2.2.1,.int .i64 x.2.2.2.2.2.2.2.2.2.2.2.2.2.2.2.2.1,.bool x.2.2.2.2.2.2.2.2.2.2.2.2.2.2.2.2.2.1,.slice x.2.2.2.2.2.2.2.2.2.2.2.2.2.2.2.2.2.2.1.a x.2.2.2.2.2.2.2.2.2.2.2.2.2.2.2.2.2.2.1.len x.2.2.2.2.2.2.2.2.2.2.2.2.2.2.2.2.2.2.1.cap,.bool x.2.2.2.2.2.2.2.2.2.2.2.2.2.2.2.2.2.2.2.1,.bool x.2.2.2.2.2.2.2.2.2.2.2.2.2.2.2.2.2.2.2.2.1,.string x.2.2.2.2.2.2.2.2.2.2.2.2.2.2.2.2.2.2.2.2.2.1,.string x.2.2.2.2.2.2.2.2.2.2.2.2.2.2.2.2.2.2.2.2.2.2.1,.bool x.2.2.2.2.2.2.2.2.2.2.2.2.2.2.2.2.2.2.2.2.2.2.2.1,.slice x.2.2.2.2.2.2.2.2.2.2.2.2.2.2.2.2.2.2.2.2.2.2.2.2.1.a x.2.2.2.2.2.2.2.2.2.2.2.2.2.2.2.2.2.2.2.2.2.2.2.2.1.len x.2.2.2.2.2.2.2.2.2.2.2.2.2.2.2.2.2.2.2.2.2.2.2.2.1.cap,.slice x.2.2.2.2.2.2.2.2.2.2.2.2.2.2.2.2.2.2.2.2.2.2.2.2.2.1.a x.2.2.2.2.2.2.2.2.2.2.2.2.2.2.2.2.2.2.2.2.2.2.2.2.2.1.len x.2.2.2.2.2.2.2.2.2.2.2.2.2.2.2.2.2.2.2.2.2.2.2.2.2.1.cap]
abbrev lS2(x:yS2):C9P:=[.int .i64 x.1,.bool x.2.1,.bool x.2.2.1,.int .i64 x.2.2.2.1,.int .i64 x.2.2.2.2.1,.string x.2.2.2.2.2.1,.string x.2.2.2.2.2.2.1,.int .i64 x.2.2.2.2.2.2.2.1,.slice x.2.2.2.2.2.2.2.2.1.a x.2.2.2.2.2.2.2.2.1.len x.2.2.2.2.2.2.2.2.1.cap,.slice x.2.2.2.2.2.2.2.2.2.1.a x.2.2.2.2.2.2.2.2.2.1.len x.2.2.2.2.2.2.2.2.2.1.cap,.string x.2.2.2.2.2.2.2.2.2.2.1,.bool x.2.2.2.2.2.2.2.2.2.2.2.1,.int .i64 x.2.2.2.2.2.2.2.2.2.2.2.2.1,.bool x.2.2.2.2.2.2.2.2.2.2.2.2.2.1,.string x.2.2.2.2.2.2.2.2.2.2.2.2.2.2.1,.string x.2.2.2.2.2.2.2.2.2.2.2.2.2.2.2.1,.int .i64 x.2.2.2.2.2.2.2.2.2.2.2.2.2.2.2.2.1,.bool x.2.2.2.2.2.2.2.2.2.2.2.2.2.2.2.2.2.1,.slice x.2.2.2.2.2.2.2.2.2.2.2.2.2.2.2.2.2.2.1.a x.2.2.2.2.2.2.2.2.2.2.2.2.2.2.2.2.2.2.1.len x.2.2.2.2.2.2.2.2.2.2.2.2.2.2.2.2.2.2.1.cap,.bool x.2.2.2.2.2.2.2.2.2.2.2.2.2.2.2.2.2.2.2.1,.bool x.2.2.2.2.2.2.2.2.2.2.2.2.2.2.2.2.2.2.2.2.1,.string x.2.2.2.2.2.2.2.2.2.2.2.2.2.2.2.2.2.2.2.2.2.1,.string x.2.2.2.2.2.2.2.2.2.2.2.2.2.2.2.2.2.2.2.2.2.2.1,.bool x.2.2.2.2.2.2.2.2.2.2.2.2.2.2.2.2.2.2.2.2.2.2.2.1,.slice x.2.2.2.2.2.2.2.2.2.2.2.2.2.2.2.2.2.2.2.2.2.2.2.2.1.a x.2.2.2.2.2.2.2.2.2.2.2.2.2.2.2.2.2.2.2.2.2.2.2.2.1.len x.2.2.2.2.2.2.2.2.2.2.2.2.2.2.2.2.2.2.2.2.2.2.2.2.1.cap,.slice x.2.2.2.2.2.2.2.2.2.2.2.2.2.2.2.2.2.2.2.2.2.2.2.2.2.1.a x.2.2.2.2.2.2.2.2.2.2.2.2.2.2.2.2.2.2.2.2.2.2.2.2.2.1.len x.2.2.2.2.2.2.2.2.2.2.2.2.2.2.2.2.2.2.2.2.2.2.2.2.2.1.cap]
abbrev zS2:C9O:=#[.int .i64 0,.bool false,.bool false,.int .i64 0,.int .i64 0,.string (ByteArray.mk #[]),.string (ByteArray.mk #[]),.int .i64 0,.slice none 0 0,.slice none 0 0,.string (ByteArray.mk #[]),.bool false,.int .i64 0,.bool false,.string (ByteArray.mk #[]),.string (ByteArray.mk #[]),.int .i64 0,.bool false,.slice none 0 0,.bool false,.bool false,.string (ByteArray.mk #[]),.string (ByteArray.mk #[]),.bool false,.slice none 0 0,.slice none 0 0]
abbrev tS3:List Tag:=[.int .i64,.bool,.bool,.int .i64,.int .i64,.str,.str,.int .u8,.slc,.slc,.str,.bool,.int .i64,.bool,.str,.str,.int .i64,.bool,.slc,.bool,.bool,.str,.str,.bool,.slc,.slc]
abbrev yS3:Type:=Int×Bool×Bool×Int×Int×B3O×B3O×Int×Slc×Slc×B3O×Bool×Int×Bool×B3O×B3O×Int×Bool×Slc×Bool×Bool×B3O×B3O×Bool×Slc×Slc×Unit
abbrev aS3(x:yS3):C9O:=#[.int .i64 x.1,.bool x.2.1,.bool x.2.2.1,.int .i64 x.2.2.2.1,.int .i64 x.2.2.2.2.1,.string x.2.2.2.2.2.1,.string x.2.2.2.2.2.2.1,.int .u8 x.2.2.2.2.2.2.2.1,.slice x.2.2.2.2.2.2.2.2.1.a x.2.2.2.2.2.2.2.2.1.len x.2.2.2.2.2.2.2.2.1.cap,.slice x.2.2.2.2.2.2.2.2.2.1.a x.2.2.2.2.2.2.2.2.2.1.len x.2.2.2.2.2.2.2.2.2.1.cap,.string x.2.2.2.2.2.2.2.2.2.2.1,.bool x.2.2.2.2.2.2.2.2.2.2.2.1,.int .i64 x.2.2.2.2.2.2.2.2.2.2.2.2.1,.bool x.2.2.2.2.2.2.2.2.2.2.2.2.2.1,.string x.2.2.2.2.2.2.2.2.2.2.2.2.2.2.1,.string x.2.2.2.2.2.2.2.2.2.2.2.2.2.2.2.1,.int .i64 x.2.2.2.2.2.2.2.2.2.2.2.2.2.2.2.2.1,.bool x.2.2.2.2.2.2.2.2.2.2.2.2.2.2.2.2.2.1,.slice x.2.2.2.2.2.2.2.2.2.2.2.2.2.2.2.2.2.2.1.a x.2.2.2.2.2.2.2.2.2.2.2.2.2.2.2.2.2.2.1.len x.2.2.2.2.2.2.2.2.2.2.2.2.2.2.2.2.2.2.1.cap,.bool x.2.2.2.2.2.2.2.2.2.2.2.2.2.2.2.2.2.2.2.1,.bool x.2.2.2.2.2.2.2.2.2.2.2.2.2.2.2.2.2.2.2.2.1,.string x.2.2.2.2.2.2.2.2.2.2.2.2.2.2.2.2.2.2.2.2.2.1,.string x.2.2.2.2.2.2.2.2.2.2.2.2.2.2.2.2.2.2.2.2.2.2.1,.bool x.2.2.2.2.2.2.2.2.2.2.2.2.2.2.2.2.2.2.2.2.2.2.2.1,.slice x.2.2.2.2.2.2.2.2.2.2.2.2.2.2.2.2.2.2.2.2.2.2.2.2.1.a x.2.2.2.2.2.2.2.2.2.2.2.2.2.2.2.2.2.2.2.2.2.2.2.2.1.len x.2.2.2.2.2.2.2.2.2.2.2.2.2.2.2.2.2.2.2.2.2.2.2.2.1.cap,.slice x.2.2.2.2.2.2.2.2.2.2.2.2.2.2.2.2.2.2.2.2.2.2.2.2.2.1.a x.2.2.2.2.2.2.2.2.2.2.2.2.2.2.2.2.2.2.2.2.2.2.2.2.2.1.len x.2.2.2.2.2.2.2.2.2.2.2.2.2.2.2.2.2.2.2.2.2.2.2.2.2.1.cap]
abbrev lS3(x:yS3):C9P:=[.int .i64 x.1,.bool x.2.1,.bool x.2.2.1,.int .i64 x.2.2.2.1,.int .i64 x.2.2.2.2.1,.string x.2.2.2.2.2.1,.string x.2.2.2.2.2.2.1,.int .u8 x.2.2.2.2.2.2.2.1,.slice x.2.2.2.2.2.2.2.2.1.a x.2.2.2.2.2.2.2.2.1.len x.2.2.2.2.2.2.2.2.1.cap,.slice x.2.2.2.2.2.2.2.2.2.1.a x.2.2.2.2.2.2.2.2.2.1.len x.2.2.2.2.2.2.2.2.2.1.cap,.string x.2.2.2.2.2.2.2.2.2.2.1,.bool x.2.2.2.2.2.2.2.2.2.2.2.1,.int .i64 x.2.2.2.2.2.2.2.2.2.2.2.2.1,.bool x.2.2.2.2.2.2.2.2.2.2.2.2.2.1,.string x.2.2.2.2.2.2.2.2.2.2.2.2.2.2.1,.string x.2.2.2.2.2.2.2.2.2.2.2.2.2.2.2.1,.int .i64 x.2.2.2.2.2.2.2.2.2.2.2.2.2.2.2.2.1,.bool x.2.2.2.2.2.2.2.2.2.2.2.2.2.2.2.2.2.1,.slice x.2.2.2.2.2.2.2.2.2.2.2.2.2.2.2.2.2.2.1.a x.2.2.2.2.2.2.2.2.2.2.2.2.2.2.2.2.2.2.1.len x.2.2.2.2.2.2.2.2.2.2.2.2.2.2.2.2.2.2.1.cap,.bool x.2.2.2.2.2.2.2.2.2.2.2.2.2.2.2.2.2.2.2.1,.bool x.2.2.2.2.2.2.2.2.2.2.2.2.2.2.2.2.2.2.2.2.1,.string x.2.2.2.2.2.2.2.2.2.2.2.2.2.2.2.2.2.2.2.2.2.1,.string x.2.2.2.2.2.2.2.2.2.2.2.2.2.2.2.2.2.2.2.2.2.2.1,.bool x.2.2.2.2.2.2.2.2.2.2.2.2.2.2.2.2.2.2.2.2.2.2.2.1,.slice x.2.2.2.2.2.2.2.2.2.2.2.2.2.2.2.2.2.2.2.2.2.2.2.2.1.a x.2.2.2.2.2.2.2.2.2.2.2.2.2.2.2.2.2.2.2.2.2.2.2.2.1.len x.2.2.2.2.2.2.2.2.2.2.2.2.2.2.2.2.2.2.2.2.2.2.2.2.1.cap,.slice x.2.2.2.2.2.2.2.2.2.2.2.2.2.2.2.2.2.2.2.2.2.2.2.2.2.1.a x.2.2.2.2.2.2.2.2.2.2.2.2.2.2.2.2.2.2.2.2.2.2.2.2.2.1.len x.2.2.2.2.2.2.2.2.2.2.2.2.2.2.2.2.2.2.2.2.2.2.2.2.2.1.cap]
abbrev zS3:C9O:=#[.int .i64 0,.bool false,.bool false,.int .i64 0,.int .i64 0,.string (ByteArray.mk #[]),.string (ByteArray.mk #[]),.int .u8 0,.slice none 0 0,.slice none 0 0,.string (ByteArray.mk #[]),.bool false,.int .i64 0,.bool false,.string (ByteArray.mk #[]),.string (ByteArray.mk #[]),.int .i64 0,.bool false,.slice none 0 0,.bool false,.bool false,.string (ByteArray.mk #[]),.string (ByteArray.mk #[]),.bool false,.slice none 0 0,.slice none 0 0]
abbrev tS4:List Tag:=[.int .i64,.bool,.str,.str,.int .i64,.bool,.str]
abbrev yS4:Type:=Int×Bool×B3O×B3O×Int×Bool×B3O×Unit
abbrev lS4(x:yS4):C9P:=[.int .i64 x.1,.bool x.2.1,.string x.2.2.1,.string x.2.2.2.1,.int .i64 x.2.2.2.2.1,.bool x.2.2.2.2.2.1,.string x.2.2.2.2.2.2.1]
abbrev zS4:C9O:=#[.int .i64 0,.bool false,.string (ByteArray.mk #[]),.string (ByteArray.mk #[]),.int .i64 0,.bool false,.string (ByteArray.mk #[])]
abbrev tS5:List Tag:=[.int .i64,.str,.str,.int .i64,.bool,.str,.bool]
abbrev yS5:Type:=Int×B3O×B3O×Int×Bool×B3O×Bool×Unit
abbrev aS5(x:yS5):C9O:=#[.int .i64 x.1,.string x.2.1,.string x.2.2.1,.int .i64 x.2.2.2.1,.bool x.2.2.2.2.1,.string x.2.2.2.2.2.1,.bool x.2.2.2.2.2.2.1]
abbrev lS5(x:yS5):C9P:=[.int .i64 x.1,.string x.2.1,.string x.2.2.1,.int .i64 x.2.2.2.1,.bool x.2.2.2.2.1,.string x.2.2.2.2.2.1,.bool x.2.2.2.2.2.2.1]
abbrev zS5:C9O:=#[.int .i64 0,.string (ByteArray.mk #[]),.string (ByteArray.mk #[]),.int .i64 0,.bool false,.string (ByteArray.mk #[]),.bool false]
abbrev tS6:List Tag:=[.str,.int .i64,.bool,.bool,.int .i64]
abbrev yS6:Type:=B3O×Int×Bool×Bool×Int×Unit
abbrev aS6(x:yS6):C9O:=#[.string x.1,.int .i64 x.2.1,.bool x.2.2.1,.bool x.2.2.2.1,.int .i64 x.2.2.2.2.1]
abbrev lS6(x:yS6):C9P:=[.string x.1,.int .i64 x.2.1,.bool x.2.2.1,.bool x.2.2.2.1,.int .i64 x.2.2.2.2.1]
abbrev zS6:C9O:=#[.string (ByteArray.mk #[]),.int .i64 0,.bool false,.bool false,.int .i64 0]
abbrev tS7:List Tag:=[.str,.str,.int .i64,.bool,.str]
abbrev yS7:Type:=B3O×B3O×Int×Bool×B3O×Unit
abbrev aS7(x:yS7):C9O:=#[.string x.1,.string x.2.1,.int .i64 x.2.2.1,.bool x.2.2.2.1,.string x.2.2.2.2.1]
abbrev lS7(x:yS7):C9P:=[.string x.1,.string x.2.1,.int .i64 x.2.2.1,.bool x.2.2.2.1,.string x.2.2.2.2.1]
abbrev zS7:C9O:=#[.string (ByteArray.mk #[]),.string (ByteArray.mk #[]),.int .i64 0,.bool false,.string (ByteArray.mk #[])]
abbrev tS8:List Tag:=[.int .i64,.int .i64,.str,.str]
abbrev yS8:Type:=Int×Int×B3O×B3O×Unit
abbrev aS8(x:yS8):C9O:=#[.int .i64 x.1,.int .i64 x.2.1,.string x.2.2.1,.string x.2.2.2.1]
abbrev lS8(x:yS8):C9P:=[.int .i64 x.1,.int .i64 x.2.1,.string x.2.2.1,.string x.2.2.2.1]
abbrev zS8:C9O:=#[.int .i64 0,.int .i64 0,.string (ByteArray.mk #[]),.string (ByteArray.mk #[])]
abbrev tS9:List Tag:=[.int .i64,.str,.bool,.bool]
abbrev yS9:Type:=Int×B3O×Bool×Bool×Unit
abbrev aS9(x:yS9):C9O:=#[.int .i64 x.1,.string x.2.1,.bool x.2.2.1,.bool x.2.2.2.1]
abbrev lS9(x:yS9):C9P:=[.int .i64 x.1,.string x.2.1,.bool x.2.2.1,.bool x.2.2.2.1]
abbrev zS9:C9O:=#[.int .i64 0,.string (ByteArray.mk #[]),.bool false,.bool false]
open Go.Proofs.Tryz
def ad(a n:Nat):=Addr.add ⟨a,0,none⟩ n
def az(a:Nat):Addr:=⟨a,0,none⟩
def bn{α β}(m:HM α)(f:α→HM β):=HM.bind m f
def cb{β}(n:Nat)(l:C9O)(f:Bool→HM β):=HM.bind (α:=Bool) (A1s prog (.one .bool) n l) f
def cc{β}(n:Nat)(l:C9O)(f:Slc→HM β):=HM.bind (α:=Slc) (A1s prog (.one .slc) n l) f
def ci{β}(n:Nat)(l:C9O)(f:Int→HM β):=HM.bind (α:=Int) (A1s prog (.one (.int .i64)) n l) f
def cp{β}(n:Nat)(l:C9O)(f:C9N→HM β):=HM.bind (α:=C9N) (A1s prog (.one .ptr) n l) f
def ct{β}(n:Nat)(l:C9O)(f:B3O→HM β):=HM.bind (α:=B3O) (A1s prog (.one .str) n l) f
def cu{β}(n:Nat)(l:C9O)(f:Int→HM β):=HM.bind (α:=Int) (A1s prog (.one (.int .u8)) n l) f
def cx{β}(n:Nat)(l:C9O)(f:Unit→HM β):=HM.bind (α:=Unit) (s7 prog [] n l) f
def es:=ByteArray.mk #[]
def g0{β}(a:Addr)(f:yS0→HM β):=HM.bind (α:=yS0) (o3 tS0 a) f
def g1{β}(a:Addr)(f:yS1→HM β):=HM.bind (α:=yS1) (o3 tS1 a) f
def g2{β}(a:Addr)(f:yS2→HM β):=HM.bind (α:=yS2) (o3 tS2 a) f
def A0N{β}(a:Addr)(f:yS2→HM β):=HM.bind (α:=yS2) (o3 tS3 a) f
def g5{β}(a:Addr)(f:yS5→HM β):=HM.bind (α:=yS5) (o3 tS5 a) f
def g6{β}(a:Addr)(f:yS6→HM β):=HM.bind (α:=yS6) (o3 tS6 a) f
def g7{β}(a:Addr)(f:yS7→HM β):=HM.bind (α:=yS7) (o3 tS7 a) f
def g8{β}(a:Addr)(f:yS8→HM β):=HM.bind (α:=yS8) (o3 tS8 a) f
def g9{β}(a:Addr)(f:yS9→HM β):=HM.bind (α:=yS9) (o3 tS9 a) f
def ie{α}(c:Bool)(a b:HM α):=A04 c a b
def ix{β}(s:Slc)(i:Int)(w:Nat)(f:Addr→HM β):=HM.bind (α:=Addr) (A3W s.a s.len i w) f
def jb{β}(a n:Nat)(f:Bool→HM β):=HM.bind (α:=Bool) (l6 .bool (Addr.add ⟨a,0,none⟩ n)) f
def jc{β}(a n:Nat)(f:Slc→HM β):=HM.bind (α:=Slc) (l6 .slc (Addr.add ⟨a,0,none⟩ n)) f
def ji{β}(a n:Nat)(f:Int→HM β):=HM.bind (α:=Int) (l6 (.int .i64) (Addr.add ⟨a,0,none⟩ n)) f
def jt{β}(a n:Nat)(f:B3O→HM β):=HM.bind (α:=B3O) (l6 .str (Addr.add ⟨a,0,none⟩ n)) f
def ju{β}(a n:Nat)(f:Int→HM β):=HM.bind (α:=Int) (l6 (.int .u8) (Addr.add ⟨a,0,none⟩ n)) f
def kb{β}(a:Addr)(n:Nat)(f:Bool→HM β):=HM.bind (α:=Bool) (l6 .bool (Addr.add a n)) f
def kc{β}(a:Addr)(n:Nat)(f:Slc→HM β):=HM.bind (α:=Slc) (l6 .slc (Addr.add a n)) f
def ki{β}(a:Addr)(n:Nat)(f:Int→HM β):=HM.bind (α:=Int) (l6 (.int .i64) (Addr.add a n)) f
def km{β}(a:Addr)(n:Nat)(f:Option Nat→HM β):=HM.bind (α:=Option Nat) (l6 .map (Addr.add a n)) f
def kp{β}(a:Addr)(n:Nat)(f:C9N→HM β):=HM.bind (α:=C9N) (l6 .ptr (Addr.add a n)) f
def kt{β}(a:Addr)(n:Nat)(f:B3O→HM β):=HM.bind (α:=B3O) (l6 .str (Addr.add a n)) f
def ku{β}(a:Addr)(n:Nat)(f:Int→HM β):=HM.bind (α:=Int) (l6 (.int .u8) (Addr.add a n)) f
def lc{β}(a:Addr)(f:Slc→HM β):=HM.bind (α:=Slc) (l6 .slc a) f
def li{β}(a:Addr)(f:Int→HM β):=HM.bind (α:=Int) (l6 (.int .i64) a) f
def lp{β}(a:Addr)(f:C9N→HM β):=HM.bind (α:=C9N) (l6 .ptr a) f
def lt{β}(a:Addr)(f:B3O→HM β):=HM.bind (α:=B3O) (l6 .str a) f
def lu{β}(a:Addr)(f:Int→HM β):=HM.bind (α:=Int) (l6 (.int .u8) a) f
def nn{β}(p:C9N)(f:Addr→HM β):=HM.bind (α:=Addr) (A77 p) f
def nw{β}(z:C9O)(t:Nat)(f:Nat→HM β):=HM.bind (α:=Nat) (HM.new (.cells z t)) f
def pu{α}(x:α):=W9 x
def rq{β}(v w:Value)(m:HM β):=A3t (v=w) m
def sn{β}(a:Nat)(l:C9P)(f:Unit→HM β):=HM.bind (α:=Unit) (A94 ⟨a,0,none⟩ l) f
def so{β}(a:Addr)(l:C9P)(f:Unit→HM β):=HM.bind (α:=Unit) (A94 a l) f
def sw{β}(a n:Nat)(v:Value)(f:Unit→HM β):=HM.bind (α:=Unit) (A6Z (Addr.add ⟨a,0,none⟩ n) v) f
def sx{β}(a:Addr)(v:Value)(f:Unit→HM β):=HM.bind (α:=Unit) (A6Z a v) f
def ve:Value:=.string (ByteArray.mk #[])
def vi(x:Int):Value:=.int .i64 x
def vs(s:Slc):Value:=.slice s.a s.len s.cap
def vz:Value:=.slice none 0 0
def w10{A0 A1 A2 A3 A4 A5 A6 A7 A8 A9 A10 A11:Type}(x:A0×A1×A2×A3×A4×A5×A6×A7×A8×A9×A10×A11):=x.2.2.2.2.2.2.2.2.2.2.1
def w11{A0 A1 A2 A3 A4 A5 A6 A7 A8 A9 A10 A11 A12:Type}(x:A0×A1×A2×A3×A4×A5×A6×A7×A8×A9×A10×A11×A12):=x.2.2.2.2.2.2.2.2.2.2.2.1
def w12{A0 A1 A2 A3 A4 A5 A6 A7 A8 A9 A10 A11 A12 A13:Type}(x:A0×A1×A2×A3×A4×A5×A6×A7×A8×A9×A10×A11×A12×A13):=x.2.2.2.2.2.2.2.2.2.2.2.2.1
def w13{A0 A1 A2 A3 A4 A5 A6 A7 A8 A9 A10 A11 A12 A13 A14:Type}(x:A0×A1×A2×A3×A4×A5×A6×A7×A8×A9×A10×A11×A12×A13×A14):=x.2.2.2.2.2.2.2.2.2.2.2.2.2.1
def w14{A0 A1 A2 A3 A4 A5 A6 A7 A8 A9 A10 A11 A12 A13 A14 A15:Type}(x:A0×A1×A2×A3×A4×A5×A6×A7×A8×A9×A10×A11×A12×A13×A14×A15):=x.2.2.2.2.2.2.2.2.2.2.2.2.2.2.1
def w15{A0 A1 A2 A3 A4 A5 A6 A7 A8 A9 A10 A11 A12 A13 A14 A15 A16:Type}(x:A0×A1×A2×A3×A4×A5×A6×A7×A8×A9×A10×A11×A12×A13×A14×A15×A16):=x.2.2.2.2.2.2.2.2.2.2.2.2.2.2.2.1
def w16{A0 A1 A2 A3 A4 A5 A6 A7 A8 A9 A10 A11 A12 A13 A14 A15 A16 A17:Type}(x:A0×A1×A2×A3×A4×A5×A6×A7×A8×A9×A10×A11×A12×A13×A14×A15×A16×A17):=x.2.2.2.2.2.2.2.2.2.2.2.2.2.2.2.2.1
def w17{A0 A1 A2 A3 A4 A5 A6 A7 A8 A9 A10 A11 A12 A13 A14 A15 A16 A17 A18:Type}(x:A0×A1×A2×A3×A4×A5×A6×A7×A8×A9×A10×A11×A12×A13×A14×A15×A16×A17×A18):=x.2.2.2.2.2.2.2.2.2.2.2.2.2.2.2.2.2.1
def w18{A0 A1 A2 A3 A4 A5 A6 A7 A8 A9 A10 A11 A12 A13 A14 A15 A16 A17 A18 A19:Type}(x:A0×A1×A2×A3×A4×A5×A6×A7×A8×A9×A10×A11×A12×A13×A14×A15×A16×A17×A18×A19):=x.2.2.2.2.2.2.2.2.2.2.2.2.2.2.2.2.2.2.1
def w19{A0 A1 A2 A3 A4 A5 A6 A7 A8 A9 A10 A11 A12 A13 A14 A15 A16 A17 A18 A19 A20:Type}(x:A0×A1×A2×A3×A4×A5×A6×A7×A8×A9×A10×A11×A12×A13×A14×A15×A16×A17×A18×A19×A20):=x.2.2.2.2.2.2.2.2.2.2.2.2.2.2.2.2.2.2.2.1
def w20{A0 A1 A2 A3 A4 A5 A6 A7 A8 A9 A10 A11 A12 A13 A14 A15 A16 A17 A18 A19 A20 A21:Type}(x:A0×A1×A2×A3×A4×A5×A6×A7×A8×A9×A10×A11×A12×A13×A14×A15×A16×A17×A18×A19×A20×A21):=x.2.2.2.2.2.2.2.2.2.2.2.2.2.2.2.2.2.2.2.2.1
def w21{A0 A1 A2 A3 A4 A5 A6 A7 A8 A9 A10 A11 A12 A13 A14 A15 A16 A17 A18 A19 A20 A21 A22:Type}(x:A0×A1×A2×A3×A4×A5×A6×A7×A8×A9×A10×A11×A12×A13×A14×A15×A16×A17×A18×A19×A20×A21×A22):=x.2.2.2.2.2.2.2.2.2.2.2.2.2.2.2.2.2.2.2.2.2.1
def w22{A0 A1 A2 A3 A4 A5 A6 A7 A8 A9 A10 A11 A12 A13 A14 A15 A16 A17 A18 A19 A20 A21 A22 A23:Type}(x:A0×A1×A2×A3×A4×A5×A6×A7×A8×A9×A10×A11×A12×A13×A14×A15×A16×A17×A18×A19×A20×A21×A22×A23):=x.2.2.2.2.2.2.2.2.2.2.2.2.2.2.2.2.2.2.2.2.2.2.1
def w23{A0 A1 A2 A3 A4 A5 A6 A7 A8 A9 A10 A11 A12 A13 A14 A15 A16 A17 A18 A19 A20 A21 A22 A23 A24:Type}(x:A0×A1×A2×A3×A4×A5×A6×A7×A8×A9×A10×A11×A12×A13×A14×A15×A16×A17×A18×A19×A20×A21×A22×A23×A24):=x.2.2.2.2.2.2.2.2.2.2.2.2.2.2.2.2.2.2.2.2.2.2.2.1
def w24{A0 A1 A2 A3 A4 A5 A6 A7 A8 A9 A10 A11 A12 A13 A14 A15 A16 A17 A18 A19 A20 A21 A22 A23 A24 A25:Type}(x:A0×A1×A2×A3×A4×A5×A6×A7×A8×A9×A10×A11×A12×A13×A14×A15×A16×A17×A18×A19×A20×A21×A22×A23×A24×A25):=x.2.2.2.2.2.2.2.2.2.2.2.2.2.2.2.2.2.2.2.2.2.2.2.2.1
def w25{A0 A1 A2 A3 A4 A5 A6 A7 A8 A9 A10 A11 A12 A13 A14 A15 A16 A17 A18 A19 A20 A21 A22 A23 A24 A25 A26:Type}(x:A0×A1×A2×A3×A4×A5×A6×A7×A8×A9×A10×A11×A12×A13×A14×A15×A16×A17×A18×A19×A20×A21×A22×A23×A24×A25×A26):=x.2.2.2.2.2.2.2.2.2.2.2.2.2.2.2.2.2.2.2.2.2.2.2.2.2.1
def w5{A0 A1 A2 A3 A4 A5 A6:Type}(x:A0×A1×A2×A3×A4×A5×A6):=x.2.2.2.2.2.1
def w6{A0 A1 A2 A3 A4 A5 A6 A7:Type}(x:A0×A1×A2×A3×A4×A5×A6×A7):=x.2.2.2.2.2.2.1
def w7{A0 A1 A2 A3 A4 A5 A6 A7 A8:Type}(x:A0×A1×A2×A3×A4×A5×A6×A7×A8):=x.2.2.2.2.2.2.2.1
def w8{A0 A1 A2 A3 A4 A5 A6 A7 A8 A9:Type}(x:A0×A1×A2×A3×A4×A5×A6×A7×A8×A9):=x.2.2.2.2.2.2.2.2.1
def w9{A0 A1 A2 A3 A4 A5 A6 A7 A8 A9 A10:Type}(x:A0×A1×A2×A3×A4×A5×A6×A7×A8×A9×A10):=x.2.2.2.2.2.2.2.2.2.1
def wi(x:Int):=IntKind.wrap .i64 x
def A44(p0:Slc)(p1:yS0):HM (Bool×Unit):=
 nw (aS0 p1) 62 fun a=>cp 15 #[vs p0] fun b=>A0N (ad a 2) fun c=>bn (α:=(yS2)×(yS2)×Unit) (s7 prog [.agg tS3,.agg tS2] 16 #[.agg (aS3 c)]) fun d=>nw zS3 45 fun e=>nw zS2 70 fun f=>sn e (lS3 d.1) fun
 _=>sn f (lS2 d.2.1) fun _=>ji a 1 fun g=>A0N (az e) fun h=>jb a 28 fun i=>bn (α:=Slc×Slc×Unit) (A1s prog (.agg [.slc,.slc]) 13 #[.pointer b,vi g,.agg (aS3 h),.bool i]) fun j=>nw #[vz,vz] 35 fun
 k=>sn k [vs j.1,vs j.2.1] fun _=>bn (α:=Nat) (HM.new (.map #[] 0)) fun l=>jc k 0 fun m=>bn (α:=(Int×Unit)⊕(Bool×Unit)) (HM.loop (σ:=Int×Unit) (τ:=(Int×Unit)⊕(Bool×Unit)) (fun n=>ie (decide (n.1<
 (m.len:Int))) (ix m n.1 28 fun o=>g1 o fun p=>nw zS1 50 fun q=>sn q (lS1 p) fun _=>bn (α:=Bool×Unit) (ji q 0 fun r=>bn (α:=Bool×Bool) (HM.lookup (Instr.sameNow (.int .i64)) (.bool false) (.one .bool) (some l)
 (vi r)) fun s=>ie s.1 (ji q 0 fun t=>ji a 1 fun u=>ie (!(t==u)) (pu (true,())) (jb q 27 fun v=>ie v (ki (ad q 1) 0 fun w=>ie (!(w==14)) (ki (ad q 1) 0 fun x=>pu (!(x==2),())) (pu (false,()))) (pu (false,()))))
 (jb q 27 fun y=>ie y (ki (ad q 1) 0 fun z=>ie (!(z==14)) (ki (ad q 1) 0 fun A=>pu (!(A==2),())) (pu (false,()))) (pu (false,())))) fun B=>ie B.1 (pu (.inr (.inr (false,())))) (ji q 0 fun C=>jb q 27 fun D=>bn (α
 :=Unit) (A2Z (Instr.sameNow (.int .i64)) (some l) (vi C) (.bool D)) fun _=>bn (α:=Bool×Unit) (jb q 27 fun E=>ie E (ku (ad q 1) 7 fun F=>pu (F==142,())) (pu (false,()))) fun G=>bn (α:=Bool×Unit) (ji q 0
 fun H=>ji a 1 fun I=>ie (!(H==I)) (ki (ad q 1) 0 fun J=>ie (!(J==3)) (ie G.1 (pu (!(n.1==0),())) (pu (!false,()))) (pu (false,()))) (pu (false,()))) fun K=>ie K.1 (pu (.inr (.inr (false,())))) (pu (.inl (wi
 (n.1+1),()))))) (pu (.inr (.inl (n.1,()))))) (0,())) (Sum.elim (fun L=>bn (α:=Nat) (HM.new (.map #[] 0)) fun M=>cc 17 #[.pointer b] fun N=>bn (α:=Int×Unit) (HM.loop (σ:=Int×Unit) (τ:=Int×Unit) (fun
 O=>ie (decide (O.1<(N.len:Int))) (ix N O.1 1 fun P=>li P fun Q=>bn (α:=Unit) (A2Z (Instr.sameNow (.int .i64)) (some M) (vi Q) (.bool true)) fun _=>pu (.inl (wi (O.1+1),()))) (pu (.inr (O.1,())))) (0,()))
 fun R=>bn (α:=Nat) (A80 (some l)) fun S=>bn (α:=(Unit)⊕(Bool×Unit)) (HM.loop (σ:=Unit) (τ:=(Unit)⊕(Bool×Unit)) (fun T=>bn (α:=Option (Value×Value)) (A6Y S) fun U=>A2r U (ie false (bn (α
 :=Int×Bool) (A3C (.one (.int .i64)) (.one .bool) S) fun V=>bn (α:=Bool×Unit) (ie V.2 (bn (α:=Bool×Bool) (HM.lookup (Instr.sameNow (.int .i64)) (.bool false) (.one .bool) (some M) (vi V.1)) fun W=>pu
 (W.1,())) (pu (false,()))) fun X=>ie X.1 (pu (.inr (.inr (false,())))) (pu (.inl ()))) (pu (.inr (.inl ())))) fun(Y:Value×Value)=>ie true (bn (α:=Int×Bool) (A3C (.one (.int .i64)) (.one .bool) S) fun
 Z=>bn (α:=Bool×Unit) (ie Z.2 (bn (α:=Bool×Bool) (HM.lookup (Instr.sameNow (.int .i64)) (.bool false) (.one .bool) (some M) (vi Z.1)) fun kA=>pu (kA.1,())) (pu (false,()))) fun eu=>ie eu.1 (pu (.inr (.inr
 (false,())))) (pu (.inl ()))) (pu (.inr (.inl ())))) ()) (Sum.elim (fun yf=>bn (α:=Bool×Unit) (cb 10 #[] fun fh=>ie fh (bn (α:=Int) (A5W (some M)) fun gC=>pu (decide (gC≤(64:Int)),())) (pu (false,
 ()))) fun dK=>pu (dK.1,())) W9)) W9)
theorem A55(p0:Slc)(p1:yS0):HCs 4 #[.slice p0.a p0.len p0.cap,.agg (aS0 p1)] (A44 p0 p1) fun x=>.bool x.1:=
 cE [.one .bool] [0,1,3,4,5,6,8,9,10,11,12,13,15,16,17,35,36,37,38,68,100,104,105,106,107,114,116,125] [0,1,3,5,6,8,9,10,11,12,13,15,16,17,35,36,37,38,68,100,104,105,106,107,114,116,125] func4 ntmps4 (CC call15 (CC call16 (CC call13 (CC call17 (CC call10 CN)))))
def B6s:HM (C9N×Unit):=
 cp 27 #[] fun a=>cp 28 #[] fun b=>cp 29 #[vi 64] fun c=>bn (α:=Nat) (HM.new (.map #[] 0)) fun d=>nw #[.pointer a,.pointer b,.pointer c,.map (some d)] 104 fun e=>pu (some (az e),())
theorem B27:HCs 9 #[] (B6s) fun x=>.pointer x.1:=
 cE [.one .ptr] [0] [] func9 ntmps9 (CC call27 (CC call28 (CC call29 CN)))
def B3I:HM (Bool×Unit):=
 cp 9 #[] fun a=>bn (α:=Bool×Unit) (nw #[.string (ByteArray.mk #[97,47,43]),vi 1,.bool false,.bool false,vi 0,.string (ByteArray.mk #[35]),vi 0,.bool false,.bool false,vi 0] 47 fun b=>cb 11 #[.pointer a,
 vi 1,.string (ByteArray.mk #[99]),.slice (some (az b)) 2 2] fun c=>ie (!c) (pu (true,())) (cb 11 #[.pointer a,vi 2,.string (ByteArray.mk #[100]),vz] fun d=>pu (!d,()))) fun e=>ie e.1 (pu (false,())) (bn (α:=Slc
 ×Slc×Unit) (A1s prog (.agg [.slc,.slc]) 13 #[.pointer a,vi 2,.agg #[vi 3,.bool false,.bool false,vi 2,vi 9,.string (ByteArray.mk #[97,47,98]),.string (ByteArray.mk #[120]),.int .u8 0,vz,vz,ve,
 .bool false,vi 0,.bool false,ve,ve,vi 0,.bool false,vz,.bool false,.bool false,ve,ve,.bool false,vz,vz],.bool false]) fun f=>nw #[vz,vz] 35 fun g=>sn g [vs f.1,vs f.2.1] fun _=>bn (α:=Bool×Unit) (jc
 g 0 fun h=>ie ((h.len:Int)==2) (jc g 0 fun i=>ix i 0 28 fun j=>ki j 0 fun k=>ie (k==2) (jc g 0 fun l=>ix l 0 28 fun m=>ki (Addr.add m 1) 0 fun n=>ie (n==5) (jc g 0 fun o=>ix o 1 28 fun p=>ki p 0 fun q=>ie (q==
 1) (jc g 0 fun r=>ix r 1 28 fun s=>ki (Addr.add s 1) 3 fun t=>ie (t==1) (jc g 1 fun u=>pu ((u.len:Int)==1,())) (pu (false,()))) (pu (false,()))) (pu (false,()))) (pu (false,()))) (pu (false,()))) fun v=>pu
 (v.1,()))
theorem B1E:HCs 10 #[] (B3I) fun x=>.bool x.1:=
 cE [.one .bool] [0,1,2,14] [1,2,14] func10 ntmps10 (CC call9 (CC call11 (CC call13 CN)))
def B5B(p0:C9N)(p1:Int)(p2:B3O)(p3:Slc):HM (Bool×Unit):=
 nw #[vi 17,vi 100,ve,ve] 106 fun a=>bn (α:=Slc×Slc×Unit) (A1s prog (.agg [.slc,.slc]) 13 #[.pointer p0,vi p1,.agg #[vi 1,.bool false,.bool false,vi 0,vi 0,ve,ve,.int .u8 0,vz,.slice (some
 (az a)) 1 1,.string p2,.bool false,vi 0,.bool false,ve,ve,vi 0,.bool false,vz,.bool false,.bool false,ve,ve,.bool false,vz,vz],.bool false]) fun b=>nw #[vz,vz] 35 fun c=>sn c [vs b.1,vs b.2.1] fun
 _=>bn (α:=Bool×Unit) (jc c 0 fun d=>ie ((d.len:Int)==0) (pu (true,())) (jc c 0 fun e=>ix e 0 28 fun f=>ki (Addr.add f 1) 0 fun g=>ie (!(g==2)) (pu (true,())) (jc c 0 fun h=>ix h 0 28 fun i=>ku (Addr.add i 1)
 7 fun j=>ie (!(j==0)) (pu (true,())) (jc c 1 fun k=>pu (!((k.len:Int)==0),()))))) fun l=>ie l.1 (pu (false,())) (ie ((p3.len:Int)==0) (pu (true,())) (bn (α:=Slc×Slc×Unit) (A1s prog (.agg
 [.slc,.slc]) 13 #[.pointer p0,vi p1,.agg #[vi 8,.bool false,.bool false,vi 0,vi 1,ve,ve,.int .u8 0,vz,vz,ve,.bool false,vi 0,.bool false,ve,ve,vi 0,.bool false,vz,.bool false,.bool false,ve,ve,
 .bool false,vs p3,vz],.bool false]) fun m=>nw #[vz,vz] 35 fun n=>sn n [vs m.1,vs m.2.1] fun _=>bn (α:=Bool×Unit) (jc n 0 fun o=>ie (decide (1≤(o.len:Int))) (jc n 0 fun p=>ix p 0 28 fun q=>ki (Addr.add q 1) 0
 fun r=>ie (r==9) (jc n 0 fun s=>ix s 0 28 fun t=>kc (Addr.add t 1) 8 fun u=>pu ((u.len:Int)==(p3.len:Int),())) (pu (false,()))) (pu (false,()))) fun v=>pu (v.1,())))
theorem B2M(p0:C9N)(p1:Int)(p2:B3O)(p3:Slc):HCs 11 #[.pointer p0,.int .i64 p1,.string p2,.slice p3.a p3.len p3.cap] (B5B p0 p1 p2 p3) fun x=>.bool x.1:=
 cE [.one .bool] [0,1,2,3,8,9,10,45,48] [0,1,2,3,9,10,45,48] func11 ntmps11 (CC call13 CN)
def A7U(p0:B3O):HM (Int×Unit):=
 bn (α:=Bool×Unit) (cb 30 #[.string p0] fun a=>ie (!a) (pu (true,())) (cb 31 #[.string p0,.string (ByteArray.mk #[43])] fun b=>ie b (pu (true,())) (cb 31 #[.string p0,.string (ByteArray.mk #[35])] fun c=>pu (c,
 ())))) fun d=>ie d.1 (pu (144,())) (pu (0,()))
theorem A8a(p0:B3O):HCs 12 #[.string p0] (A7U p0) fun x=>.int .u8 x.1:=
 cE [.one (.int .u8)] [0,2,13] [0,13] func12 ntmps12 (CC call30 (CC call31 CN))
def A4h(p0:C9N)(p1:Int)(p2:yS2)(p3:Bool):HM ((Slc×Slc×Unit)×Unit):=
 nw (aS3 p2) 45 fun a=>nw #[vz,vz] 35 fun b=>ie (Option.isNone p0) (sn b [vz,vz] fun _=>bn (α:=Slc×Slc×Unit) (o3 [.slc,.slc] (az b)) fun c=>pu ((c.1,c.2.1,()),())) (nw #[.pointer p0,.bool p3,vz,vz]
 110 fun d=>nn p0 fun e=>km e 3 fun f=>bn (α:=(yS4)×Bool) (HM.lookup (Instr.sameNow (.int .i64)) (.agg zS4) (.agg tS4) f (vi p1)) fun g=>nw zS4 112 fun h=>sn h (lS4 g.1) fun _=>bn (α:=Unit) (ie g.2 (A0N (az a) fun
 i=>cx 32 #[.pointer (some (az d)),vi p1,.agg (aS3 i)] fun j=>pu ()) (ji a 0 fun k=>bn (α:=Unit) (ie (k==1) (A0N (az a) fun l=>cx 33 #[.pointer (some (az d)),vi p1,.agg (aS3 l)] fun m=>pu ()) (cx 34 #[.pointer
 (some (az d)),vi p1,.agg #[vi 14,.bool false,.bool false,vi 0,vi 0,ve,ve,.int .u8 130,vz,vz,ve,.bool false,vi 0,.bool false,ve,ve,vi 0,.bool false,vz,.bool false,.bool false,ve,ve,.bool false,
 vz,vz]] fun n=>pu ())) fun o=>pu ())) fun p=>nn (some (az d)) fun q=>bn (α:=Slc×Slc×Unit) (o3 [.slc,.slc] (Addr.add q 2)) fun r=>sn b [vs r.1,vs r.2.1] fun _=>bn (α:=Slc×Slc×Unit) (o3 [.slc,
 .slc] (az b)) fun s=>pu ((s.1,s.2.1,()),()))
theorem A5c(p0:C9N)(p1:Int)(p2:yS2)(p3:Bool):HCs 13 #[.pointer p0,.int .i64 p1,.agg (aS3 p2),.bool p3] (A4h p0 p1 p2 p3) fun x=>.agg #[.slice x.1.1.a x.1.1.len x.1.1.cap,.slice x.1.2.1.a x.1.2.1.len x.1.2.1.cap]:=
 cE [.agg [.slc,.slc]] [0,1,2,3,6,8,9,11,13,32,38] [0,1,2,3,6,8,9,11,13,32,38] func13 ntmps13 (CC call32 (CC call33 (CC call34 CN)))
def B3i(p0:B3O)(p1:B3O):HM (Bool×Unit):=
 bn (α:=Bool×Unit) (cu 35 #[.string p0] fun a=>ie (!(a==0)) (pu (true,())) (cu 12 #[.string p1] fun b=>pu (!(b==0),()))) fun c=>ie c.1 (pu (false,())) (bn (α:=Bool×Unit) (bn (α:=Int) (A5f p1 0) fun
 d=>ie (d==36) (bn (α:=B3O) (A4O p0 none (some 1)) fun e=>ie (decide (e=(ByteArray.mk #[43]))) (pu (true,())) (bn (α:=B3O) (A4O p0 none (some 1)) fun f=>pu (decide (f=(ByteArray.mk
 #[35])),()))) (pu (false,()))) fun g=>ie g.1 (pu (false,())) (cc 36 #[.string p0] fun h=>cc 36 #[.string p1] fun i=>ix h (wi ((h.len:Int)-1)) 1 fun j=>lt j fun k=>bn (α:=Slc×Unit) (ie (decide (k=
 (ByteArray.mk #[35]))) (bn (α:=Slc) (HM.slice h none (some (wi ((h.len:Int)-1))) none 1) fun l=>pu (l,())) (pu (h,()))) fun m=>bn (α:=Bool×Unit) (ie (decide ((i.len:Int)<(m.1.len:Int))) (pu (true,()))
 (ie (!(decide (k=(ByteArray.mk #[35])))) (pu (decide ((m.1.len:Int)<(i.len:Int)),())) (pu (false,())))) fun n=>ie n.1 (pu (false,())) (bn (α:=Slc) (HM.slice i none (some (m.1.len:Int)) none 1) fun o=>cb 37
 #[vs m.1,vs o,.func (.func 38) #[] #[]] fun p=>pu (p,()))))
theorem B0P(p0:B3O)(p1:B3O):HCs 14 #[.string p0,.string p1] (B3i p0 p1) fun x=>.bool x.1:=
 cE [.one .bool] [0,1,4,5,6,7,15,28,40,61] [0,1,5,6,7,15,28,40,61] func14 ntmps14 (CC call35 (CC call12 (CC call36 (CC call37 CN))))
def B3K(p0:Slc):HM (C9N×Unit):=
 cp 9 #[] fun a=>cp 21 #[] fun b=>bn (α:=Slc) (HM.slice p0 none (some (if 40<(p0.len:Int) then 40 else(p0.len:Int))) none 34) fun c=>bn (α:=Int×Unit) (HM.loop (σ:=Int×Unit) (τ:=Int×Unit) (fun d=>ie
 (decide (d.1<(c.len:Int))) (ix c d.1 34 fun e=>g0 e fun f=>nw zS0 62 fun g=>sn g (lS0 f) fun _=>g0 (az g) fun h=>cb 22 #[.pointer a,.pointer b,.agg (aS0 h)] fun i=>pu (.inl (wi (d.1+1),()))) (pu (.inr (d.1,
 ())))) (0,())) fun j=>pu (a,())
theorem B1H(p0:Slc):HCs 15 #[.slice p0.a p0.len p0.cap] (B3K p0) fun x=>.pointer x.1:=
 cE [.one .ptr] [0,2,3,4,6,13,14,15,16] [0,3,4,6,13,14,15,16] func15 ntmps15 (CC call9 (CC call21 (CC call22 CN)))
def A9U(p0:yS2):HM ((yS2)×(yS2)×Unit):=
 nw (aS3 p0) 60 fun a=>nw zS3 45 fun b=>nw zS2 70 fun c=>ji a 0 fun d=>jb a 1 fun e=>jb a 2 fun f=>ji a 3 fun g=>ji a 4 fun h=>jt a 5 fun i=>jt a 6 fun j=>ju a 7 fun k=>jt a 10 fun l=>jb a 11 fun m=>ji a 12 fun n=>jb a
 13 fun o=>jb a 19 fun p=>jb a 20 fun q=>jt a 21 fun r=>jt a 22 fun s=>jb a 23 fun t=>nw zS3 45 fun u=>sn u [vi d,.bool e,.bool f,vi g,vi h,.string i,.string j,.int .u8 k,vz,vz,.string l,.bool m,vi n,.bool o,
 ve,ve,vi 0,.bool false,vz,.bool p,.bool q,.string r,.string s,.bool t,vz,vz] fun _=>ji a 0 fun v=>jb a 1 fun w=>jb a 2 fun x=>ji a 3 fun y=>ji a 4 fun z=>jt a 5 fun A=>jt a 6 fun B=>ju a 7 fun C=>jt a 10 fun
 D=>jb a 11 fun E=>ji a 12 fun F=>jb a 13 fun G=>jb a 19 fun H=>jb a 20 fun I=>jt a 21 fun J=>jt a 22 fun K=>jb a 23 fun L=>nw zS2 70 fun M=>sn M [vi v,.bool w,.bool x,vi y,vi z,.string A,.string B,vi (wi C),vz,
 vz,.string D,.bool E,vi F,.bool G,ve,ve,vi 0,.bool false,vz,.bool H,.bool I,.string J,.string K,.bool L,vz,vz] fun _=>jc a 9 fun N=>bn (α:=Slc×Slc×Unit) (s7 prog [.one .slc,.one .slc] 39
 #[vs N]) fun O=>sw u 9 (vs O.1) fun _=>sw M 9 (vs O.2.1) fun _=>kt (ad a 14) 0 fun P=>kt (ad a 14) 1 fun Q=>ki (ad a 14) 2 fun R=>kb (ad a 14) 3 fun S=>so (ad u 14) [.string P,.string Q,vi R,.bool S,vz] fun _=>kt (ad
 a 14) 0 fun T=>kt (ad a 14) 1 fun U=>ki (ad a 14) 2 fun V=>kb (ad a 14) 3 fun W=>so (ad M 14) [.string T,.string U,vi V,.bool W,vz] fun _=>kc (ad a 14) 4 fun X=>bn (α:=Slc×Slc×Unit) (s7 prog [.one
 .slc,.one .slc] 39 #[vs X]) fun Y=>sx (Addr.add (ad u 14) 4) (vs Y.1) fun _=>sx (Addr.add (ad M 14) 4) (vs Y.2.1) fun _=>jc a 8 fun Z=>jc a 8 fun oA=>bn (α:=Slc) (HM.slice Z none (some (if 80<(oA.len:Int) then
 80 else(oA.len:Int))) none 1) fun kA=>bn (α:=Int×Unit) (HM.loop (σ:=Int×Unit) (τ:=Int×Unit) (fun fh=>ie (decide (fh.1<(kA.len:Int))) (ix kA fh.1 1 fun gC=>lu gC fun dK=>jc u 8 fun gy=>jc M 8
 fun ga=>A0G (nw #[.int .u8 dK] 30 fun jW=>jc M 8 fun kr=>rq (vs kr) (vs ga)<|jc u 8 fun kq=>rq (vs kq) (vs gy)<|A0G (bn (α:=Slc) (HM.append 30 1 1 #[.int .u8 0] gy 1 (V6 1 (⟨some (az jW),1,
 1⟩))) fun ly=>jc M 8 fun mi=>rq (vs mi) (vs ga)<|nw #[vi (wi dK)] 3 fun mh=>jc M 8 fun jx=>rq (vs jx) (vs ga)<|jc u 8 fun oz=>rq (vs oz) (vs gy)<|bn (α:=Slc) (HM.append 3 1 8 #[vi 0] ga 1 (V6 1
 (⟨some (az mh),1,1⟩))) fun mf=>sw u 8 (vs ly) fun _=>sw M 8 (vs mf) fun _=>pu (.inl (wi (fh.1+1),()))) (nw #[vi (wi dK)] 3 fun oy=>jc M 8 fun me=>rq (vs me) (vs ga)<|jc u 8 fun mc=>rq (vs mc) (vs gy)
 <|bn (α:=Slc) (HM.append 30 1 1 #[.int .u8 0] gy 1 (V6 1 (⟨some (az jW),1,1⟩))) fun ma=>jc M 8 fun lZ=>rq (vs lZ) (vs ga)<|bn (α:=Slc) (HM.append 3 1 8 #[vi 0] ga 1 (V6 1 (⟨some (az oy),1,1⟩)))
 fun lY=>sw u 8 (vs ma) fun _=>sw M 8 (vs lY) fun _=>pu (.inl (wi (fh.1+1),())))) (nw #[vi (wi dK)] 3 fun ow=>jc M 8 fun lX=>rq (vs lX) (vs ga)<|jc u 8 fun lW=>rq (vs lW) (vs gy)<|nw #[.int .u8 dK] 30
 fun ou=>jc M 8 fun pn=>rq (vs pn) (vs ga)<|jc u 8 fun pj=>rq (vs pj) (vs gy)<|bn (α:=Slc) (HM.append 30 1 1 #[.int .u8 0] gy 1 (V6 1 (⟨some (az ou),1,1⟩))) fun lx=>jc M 8 fun ph=>rq (vs ph) (vs ga)
 <|bn (α:=Slc) (HM.append 3 1 8 #[vi 0] ga 1 (V6 1 (⟨some (az ow),1,1⟩))) fun pg=>sw u 8 (vs lx) fun _=>sw M 8 (vs pg) fun _=>pu (.inl (wi (fh.1+1),())))) (pu (.inr (fh.1,())))) (0,())) fun eu=>jc a
 24 fun pf=>jc a 24 fun rj=>bn (α:=Slc) (HM.slice pf none (some (if 80<(rj.len:Int) then 80 else(rj.len:Int))) none 5) fun jV=>bn (α:=Int×Unit) (HM.loop (σ:=Int×Unit) (τ:=Int×Unit) (fun iK=>ie
 (decide (iK.1<(jV.len:Int))) (ix jV iK.1 5 fun lV=>g6 lV fun pd=>nw zS6 119 fun fV=>sn fV (lS6 pd) fun _=>jc u 24 fun hZ=>g6 (az fV) fun ko=>jc M 24 fun hX=>g6 (az fV) fun gU=>A0G (nw (aS6 ko) 47
 fun ot=>g6 (az fV) fun pc=>rq (.agg (aS6 pc)) (.agg (aS6 gU))<|jc M 24 fun ri=>rq (vs ri) (vs hX)<|jc u 24 fun fJ=>rq (vs fJ) (vs hZ)<|A0G (bn (α:=Slc) (HM.append 47 5 40 zS6 hZ 1 (V6 5 (⟨some
 (az ot),1,1⟩))) fun jz=>g6 (az fV) fun jy=>rq (.agg (aS6 jy)) (.agg (aS6 gU))<|jc M 24 fun nr=>rq (vs nr) (vs hX)<|nw (aS6 gU) 120 fun iL=>jc M 24 fun nq=>rq (vs nq) (vs hX)<|g6 (az fV) fun
 np=>rq (.agg (aS6 np)) (.agg (aS6 ko))<|jc u 24 fun kL=>rq (vs kL) (vs hZ)<|bn (α:=Slc) (HM.append 120 5 40 zS6 hX 1 (V6 5 (⟨some (az iL),1,1⟩))) fun nk=>sw u 24 (vs jz) fun _=>sw M 24 (vs
 nk) fun _=>pu (.inl (wi (iK.1+1),()))) (nw (aS6 gU) 120 fun nj=>jc M 24 fun ni=>rq (vs ni) (vs hX)<|g6 (az fV) fun nh=>rq (.agg (aS6 nh)) (.agg (aS6 ko))<|jc u 24 fun kK=>rq (vs kK) (vs hZ)
 <|bn (α:=Slc) (HM.append 47 5 40 zS6 hZ 1 (V6 5 (⟨some (az ot),1,1⟩))) fun ng=>g6 (az fV) fun nf=>rq (.agg (aS6 nf)) (.agg (aS6 gU))<|jc M 24 fun nc=>rq (vs nc) (vs hX)<|bn (α:=Slc) (HM.append
 120 5 40 zS6 hX 1 (V6 5 (⟨some (az nj),1,1⟩))) fun na=>sw u 24 (vs ng) fun _=>sw M 24 (vs na) fun _=>pu (.inl (wi (iK.1+1),())))) (nw (aS6 gU) 120 fun mZ=>jc M 24 fun mY=>rq (vs mY) (vs hX)
 <|g6 (az fV) fun mX=>rq (.agg (aS6 mX)) (.agg (aS6 ko))<|jc u 24 fun mV=>rq (vs mV) (vs hZ)<|nw (aS6 ko) 47 fun mU=>g6 (az fV) fun mT=>rq (.agg (aS6 mT)) (.agg (aS6 gU))<|jc M 24 fun mS=>rq (vs
 mS) (vs hX)<|jc u 24 fun mR=>rq (vs mR) (vs hZ)<|bn (α:=Slc) (HM.append 47 5 40 zS6 hZ 1 (V6 5 (⟨some (az mU),1,1⟩))) fun mQ=>g6 (az fV) fun mP=>rq (.agg (aS6 mP)) (.agg (aS6 gU))<|jc M 24
 fun pD=>rq (vs pD) (vs hX)<|bn (α:=Slc) (HM.append 120 5 40 zS6 hX 1 (V6 5 (⟨some (az mZ),1,1⟩))) fun mO=>sw u 24 (vs mQ) fun _=>sw M 24 (vs mO) fun _=>pu (.inl (wi (iK.1+1),())))) (pu (.inr
 (iK.1,())))) (0,())) fun pe=>jc a 25 fun mN=>jc a 25 fun mM=>bn (α:=Slc) (HM.slice mN none (some (if 80<(mM.len:Int) then 80 else(mM.len:Int))) none 1) fun kJ=>bn (α:=Int×Unit) (HM.loop (σ:=
 Int×Unit) (τ:=Int×Unit) (fun gD=>ie (decide (gD.1<(kJ.len:Int))) (ix kJ gD.1 1 fun mL=>lt mL fun gd=>jc u 25 fun gb=>jc M 25 fun eH=>A0G (nw #[.string gd] 9 fun kH=>jc M 25 fun
 pB=>rq (vs pB) (vs eH)<|jc u 25 fun kG=>rq (vs kG) (vs gb)<|A0G (bn (α:=Slc) (HM.append 9 1 16 #[ve] gb 1 (V6 1 (⟨some (az kH),1,1⟩))) fun kF=>jc M 25 fun mK=>rq (vs mK) (vs eH)<|nw
 #[.string gd] 9 fun mJ=>jc M 25 fun pz=>rq (vs pz) (vs eH)<|jc u 25 fun kE=>rq (vs kE) (vs gb)<|bn (α:=Slc) (HM.append 9 1 16 #[ve] eH 1 (V6 1 (⟨some (az mJ),1,1⟩))) fun kD=>sw u 25 (vs
 kF) fun _=>sw M 25 (vs kD) fun _=>pu (.inl (wi (gD.1+1),()))) (nw #[.string gd] 9 fun mI=>jc M 25 fun mH=>rq (vs mH) (vs eH)<|jc u 25 fun py=>rq (vs py) (vs gb)<|bn (α:=Slc) (HM.append 9 1 16
 #[ve] gb 1 (V6 1 (⟨some (az kH),1,1⟩))) fun mG=>jc M 25 fun mF=>rq (vs mF) (vs eH)<|bn (α:=Slc) (HM.append 9 1 16 #[ve] eH 1 (V6 1 (⟨some (az mI),1,1⟩))) fun kC=>sw u 25 (vs mG) fun
 _=>sw M 25 (vs kC) fun _=>pu (.inl (wi (gD.1+1),())))) (nw #[.string gd] 9 fun mE=>jc M 25 fun mD=>rq (vs mD) (vs eH)<|jc u 25 fun mC=>rq (vs mC) (vs gb)<|nw #[.string gd] 9 fun mB=>jc M 25
 fun mA=>rq (vs mA) (vs eH)<|jc u 25 fun mz=>rq (vs mz) (vs gb)<|bn (α:=Slc) (HM.append 9 1 16 #[ve] gb 1 (V6 1 (⟨some (az mB),1,1⟩))) fun my=>jc M 25 fun ia=>rq (vs ia) (vs eH)<|bn (α
 :=Slc) (HM.append 9 1 16 #[ve] eH 1 (V6 1 (⟨some (az mE),1,1⟩))) fun mv=>sw u 25 (vs my) fun _=>sw M 25 (vs mv) fun _=>pu (.inl (wi (gD.1+1),())))) (pu (.inr (gD.1,())))) (0,())) fun pC=>A0N
 (az u) fun mu=>g2 (az M) fun mo=>sn b (lS3 mu) fun _=>g2 (az M) fun mn=>rq (.agg (aS2 mn)) (.agg (aS2 mo))<|sn c (lS2 mo) fun _=>A0N (az b) fun bl=>g2 (az c) fun bk=>pu ((bl.1,bl.2.1,bl.2.2.1,
 bl.2.2.2.1,bl.2.2.2.2.1,(w5 bl),(w6 bl),(w7 bl),(w8 bl),(w9 bl),(w10 bl),(w11 bl),(w12 bl),(w13 bl),(w14 bl),(w15 bl),(w16 bl),(w17 bl),(w18 bl),(w19 bl),(w20 bl),
 (w21 bl),(w22 bl),(w23 bl),(w24 bl),(w25 bl),()),(bk.1,bk.2.1,bk.2.2.1,bk.2.2.2.1,bk.2.2.2.2.1,(w5 bk),(w6 bk),(w7 bk),(w8 bk),(w9 bk),(w10 bk),(w11 bk),(w12 bk),
 (w13 bk),(w14 bk),(w15 bk),(w16 bk),(w17 bk),(w18 bk),(w19 bk),(w20 bk),(w21 bk),(w22 bk),(w23 bk),(w24 bk),(w25 bk),()),())
theorem A9z(p0:yS2):HCs 16 #[.agg (aS3 p0)] (A9U p0) fun x=>.tuple #[.agg (aS3 x.1),.agg (aS2 x.2.1)]:=
 cE [.agg tS3,.agg tS2] [0,1,2,3,4,5,7,9,11,136,137,138,139,162,163,164,165,187,188,189,190] [0,1,2,3,4,5,7,9,11,136,137,138,139,162,163,164,165,187,188,189,190] func16 ntmps16 (CC call39 CN)
def A4z(p0:C9N):HM (Slc×Unit):=
 ie (Option.isNone p0) (pu (⟨none,0,0⟩,())) (nn p0 fun a=>km a 3 fun b=>bn (α:=Value) (A1s prog (.one .any) 41 #[.map b]) fun c=>cc 40 #[c] fun d=>pu (d,()))
theorem A5o(p0:C9N):HCs 17 #[.pointer p0] (A4z p0) fun x=>.slice x.1.a x.1.len x.1.cap:=
 cE [.one .slc] [0,2,4] [0,4] func17 ntmps17 (CC call41 (CC call40 CN))
def A3B(p0:C9N)(p1:yS7):HM (Slc×Unit):=
 nw (aS7 p1) 83 fun a=>ie (Option.isNone p0) (pu (⟨none,0,0⟩,())) (nw #[.pointer p0,.bool false,vz,vz] 110 fun b=>g7 (az a) fun c=>cx 43 #[.pointer (some (az b)),.agg (aS7 c)] fun d=>nn (some (az b)) fun e=>kc
 (Addr.add e 2) 0 fun f=>pu (f,()))
theorem A4K(p0:C9N)(p1:yS7):HCs 19 #[.pointer p0,.agg (aS7 p1)] (A3B p0 p1) fun x=>.slice x.1.a x.1.len x.1.cap:=
 cE [.one .slc] [0,1,3,4,5,7] [0,1,3,5,7] func19 ntmps19 (CC call43 CN)
def B7j:HM (C9N×Unit):=
 cp 45 #[vi 64] fun a=>nw #[vi 0,vz] 131 fun b=>nw #[vz] 135 fun c=>nw #[.pointer (some (az b)),.pointer (some (az c)),.pointer a,vz,.bool false,vz,vz] 140 fun d=>pu (some (az d),())
theorem B38:HCs 21 #[] (B7j) fun x=>.pointer x.1:=
 cE [.one .ptr] [0,1] [1] func21 ntmps21 (CC call45 CN)
def B1G(p0:C9N)(p1:C9N)(p2:yS0):HM (Bool×Unit):=
 nw (aS0 p2) 62 fun a=>nw #[vz,vz] 35 fun b=>ji a 0 fun c=>A3t (6≠(0:Int))<|bn (α:=Bool×Unit) (ie ((Int.tmod c 6)==1) (pu ((Int.tmod c 6)==1,())) (pu ((Int.tmod c 6)==(-1),()))) fun d=>bn (α:=Unit)
 (ie d.1 (ji a 1 fun e=>jb a 28 fun f=>bn (α:=Slc×Slc×Unit) (A1s prog (.agg [.slc,.slc]) 24 #[.pointer p0,vi e,.bool f]) fun g=>sn b [vs g.1,vs g.2.1] fun _=>ji a 1 fun h=>jb a 28 fun i=>cx 46
 #[.pointer p1,vi h,.bool i] fun j=>pu ()) (bn (α:=Bool×Unit) (ie ((Int.tmod c 6)==2) (pu ((Int.tmod c 6)==2,())) (pu ((Int.tmod c 6)==(-2),()))) fun k=>bn (α:=Unit) (ie k.1 (g7 (ad a 29) fun l=>cc 19
 #[.pointer p0,.agg (aS7 l)] fun m=>sw b 0 (vs m) fun _=>g7 (ad a 29) fun n=>cx 47 #[.pointer p1,.agg (aS7 n)] fun o=>pu ()) (bn (α:=Bool×Unit) (ie ((Int.tmod c 6)==3) (pu ((Int.tmod c 6)==3,())) (pu ((Int.tmod
 c 6)==(-3),()))) fun p=>bn (α:=Unit) (ie p.1 (cx 25 #[.pointer p0] fun q=>cx 48 #[.pointer p1] fun r=>pu ()) (A0N (ad a 2) fun s=>bn (α:=(yS2)×(yS2)×Unit) (s7 prog [.agg tS3,.agg tS2] 16 #[.agg
 (aS3 s)]) fun t=>nw zS3 45 fun u=>nw zS2 70 fun v=>sn u (lS3 t.1) fun _=>sn v (lS2 t.2.1) fun _=>ji a 1 fun w=>A0N (az u) fun x=>jb a 28 fun y=>bn (α:=Slc×Slc×Unit) (A1s prog (.agg [.slc,.slc]) 13
 #[.pointer p0,vi w,.agg (aS3 x),.bool y]) fun z=>sn b [vs z.1,vs z.2.1] fun _=>ji a 1 fun A=>g2 (az v) fun B=>jb a 28 fun C=>cx 49 #[.pointer p1,vi A,.agg (aS2 B),.bool C] fun D=>pu ())) fun E=>pu ())) fun F=>pu
 ())) fun G=>bn (α:=Bool×Unit) (jc b 0 fun H=>nn p1 fun I=>kc I 5 fun J=>cb 50 #[vs H,vs J] fun K=>ie K (jc b 1 fun L=>nn p1 fun M=>kc M 6 fun N=>cb 51 #[vs L,vs N] fun O=>pu (O,())) (pu (false,()))) fun P=>pu
 (P.1,())
theorem B0t(p0:C9N)(p1:C9N)(p2:yS0):HCs 22 #[.pointer p0,.pointer p1,.agg (aS0 p2)] (B1G p0 p1 p2) fun x=>.bool x.1:=
 cE [.one .bool] [0,1,2,5,6,7,8,9,12,33,48,60] [0,1,2,5,7,8,9,12,33,48,60] func22 ntmps22 (CC call24 (CC call46 (CC call19 (CC call47 (CC call25 (CC call48 (CC call16 (CC call13 (CC call49 (CC call50 (CC call51 CN)))))))))))
def A5d(p0:C9N)(p1:Int)(p2:Bool):HM ((Slc×Slc×Unit)×Unit):=
 nw #[vz,vz] 35 fun a=>ie (Option.isNone p0) (sn a [vz,vz] fun _=>bn (α:=Slc×Slc×Unit) (o3 [.slc,.slc] (az a)) fun b=>pu ((b.1,b.2.1,()),())) (nw #[.pointer p0,.bool p2,vz,vz] 110 fun c=>cx 54
 #[.pointer (some (az c)),vi p1,.bool true] fun d=>nn (some (az c)) fun e=>bn (α:=Slc×Slc×Unit) (o3 [.slc,.slc] (Addr.add e 2)) fun f=>sn a [vs f.1,vs f.2.1] fun _=>bn (α:=Slc×Slc×Unit) (o3
 [.slc,.slc] (az a)) fun g=>pu ((g.1,g.2.1,()),()))
theorem A6e(p0:C9N)(p1:Int)(p2:Bool):HCs 24 #[.pointer p0,.int .i64 p1,.bool p2] (A5d p0 p1 p2) fun x=>.agg #[.slice x.1.1.a x.1.1.len x.1.1.cap,.slice x.1.2.1.a x.1.2.1.len x.1.2.1.cap]:=
 cE [.agg [.slc,.slc]] [0,1,2,6,7,9] [0,1,2,6,7,9] func24 ntmps24 (CC call54 CN)
def A3A(p0:C9N):HM (Unit):=
 nw #[.pointer p0,.bool false,vz,vz] 110 fun a=>cc 17 #[.pointer p0] fun b=>bn (α:=Int×Unit) (HM.loop (σ:=Int×Unit) (τ:=Int×Unit) (fun c=>ie (decide (c.1<(b.len:Int))) (ix b c.1 1 fun d=>li d fun e=>cx
 54 #[.pointer (some (az a)),vi e,.bool false] fun f=>pu (.inl (wi (c.1+1),()))) (pu (.inr (c.1,())))) (0,())) fun g=>pu ()
theorem A4J(p0:C9N):HCs 25 #[.pointer p0] (A3A p0) fun x=>.tuple #[]:=
 cE [] [0,2,4,9,10,11,12] [0,2,4,9,10,11,12] func25 ntmps25 (CC call17 (CC call54 CN))
def B3n:HM (C9N×Unit):=
 bn (α:=Nat) (HM.new (.map #[] 0)) fun a=>nw #[vi 0,.map (some a)] 172 fun b=>pu (some (az b),())
theorem B0W:HCs 27 #[] (B3n) fun x=>.pointer x.1:=
 cE [.one .ptr] [0] [] func27 ntmps27 CN
def B9m:HM (C9N×Unit):=
 cp 59 #[] fun a=>bn (α:=Nat) (HM.new (.map #[] 0)) fun b=>nw #[.pointer a,.map (some b)] 176 fun c=>pu (some (az c),())
theorem B4I:HCs 28 #[] (B9m) fun x=>.pointer x.1:=
 cE [.one .ptr] [0] [] func28 ntmps28 (CC call59 CN)
def B4Y(p0:Int):HM (C9N×Unit):=
 bn (α:=Nat) (HM.new (.map #[] 0)) fun a=>nw #[vi (if 0<((if 64<(p0:Int) then 64 else p0):Int) then(if 64<(p0:Int) then 64 else p0) else 0),.map (some a)] 179 fun b=>pu (some (az b),())
theorem B2l(p0:Int):HCs 29 #[.int .i64 p0] (B4Y p0) fun x=>.pointer x.1:=
 cE [.one .ptr] [0,2] [0] func29 ntmps29 CN
def B3h(p0:B3O):HM (Bool×Unit):=
 bn (α:=Int×Bool×Unit) (s7 prog [.one (.int .i64),.one .bool] 60 #[.string p0]) fun a=>bn (α:=Bool×Unit) (ie (!a.2.1) (ie (!(decide (p0=es))) (ie (decide (((ByteArray.size p0:Nat):Int)≤(256
 :Int))) (ci 61 #[.string p0,.string (ByteArray.mk #[47])] fun b=>pu (decide (b<(32:Int)),())) (pu (false,()))) (pu (false,()))) (pu (false,()))) fun c=>pu (c.1,())
theorem B0O(p0:B3O):HCs 30 #[.string p0] (B3h p0) fun x=>.bool x.1:=
 cE [.one .bool] [0,2,4] [0,4] func30 ntmps30 (CC call60 (CC call61 CN))
def A5a(p0:C9N)(p1:Int)(p2:yS2):HM (Unit):=
 nw (aS3 p2) 45 fun a=>bn (α:=Bool×Unit) (ji a 4 fun b=>ie (decide (1≤(b:Int))) (ji a 4 fun c=>pu (decide (c≤(65535:Int)),())) (pu (false,()))) fun d=>bn (α:=Bool×Unit) (ji a 0 fun e=>ie (e==3) (pu
 (true,())) (ji a 0 fun f=>pu (f==6,()))) fun g=>bn (α:=Unit) (ie g.1 (A0N (az a) fun h=>cx 63 #[.pointer p0,vi p1,.agg (aS3 h)] fun i=>pu ()) (bn (α:=Bool×Unit) (ji a 0 fun j=>ie (j==4) (pu (true,())) (ji
 a 0 fun k=>ie (k==5) (pu (true,())) (ji a 0 fun l=>pu (l==7,())))) fun m=>bn (α:=Unit) (ie m.1 (A0N (az a) fun n=>cx 64 #[.pointer p0,vi p1,.agg (aS3 n)] fun o=>pu ()) (bn (α:=Bool×Unit) (ji a 0 fun p=>ie
 (p==8) (ie d.1 (jc a 24 fun q=>pu (decide (0<(q.len:Int)),())) (pu (false,()))) (pu (false,()))) fun r=>bn (α:=Unit) (ie r.1 (A0N (az a) fun s=>cx 65 #[.pointer p0,vi p1,.agg (aS3 s)] fun t=>pu ()) (bn (α
 :=Bool×Unit) (ji a 0 fun u=>ie (u==10) (ie d.1 (jc a 25 fun v=>pu (decide (0<(v.len:Int)),())) (pu (false,()))) (pu (false,()))) fun w=>bn (α:=Unit) (ie w.1 (A0N (az a) fun x=>cx 66 #[.pointer p0,vi p1,
 .agg (aS3 x)] fun y=>pu ()) (ji a 0 fun z=>bn (α:=Unit) (ie (z==12) (cx 67 #[.pointer p0,vi p1,.agg #[vi 13,.bool false,.bool false,vi 0,vi 0,ve,ve,.int .u8 0,vz,vz,ve,.bool false,vi 0,.bool false,ve,
 ve,vi 0,.bool false,vz,.bool false,.bool false,ve,ve,.bool false,vz,vz]] fun A=>pu ()) (ji a 0 fun B=>bn (α:=Unit) (ie (B==14) (ju a 7 fun C=>cx 54 #[.pointer p0,vi p1,.bool (C==4)] fun D=>pu ()) (cx 68
 #[.pointer p0,vi p1,.int .u8 130] fun E=>pu ())) fun F=>pu ())) fun G=>pu ())) fun H=>pu ())) fun I=>pu ())) fun J=>pu ())) fun K=>pu ()
theorem A6c(p0:C9N)(p1:Int)(p2:yS2):HCs 32 #[.pointer p0,.int .i64 p1,.agg (aS3 p2)] (A5a p0 p1 p2) fun x=>.tuple #[]:=
 cE [] [0,1,2,5,6,18,31,49,66,83,91] [0,1,2,5,6,18,31,49,66,83,91] func32 ntmps32 (CC call63 (CC call64 (CC call65 (CC call66 (CC call67 (CC call54 (CC call68 CN)))))))
def A4y(p0:C9N)(p1:Int)(p2:yS2):HM (Unit):=
 nw (aS3 p2) 45 fun a=>nn p0 fun b=>kp b 0 fun c=>nn c fun d=>kp d 0 fun e=>jt a 10 fun f=>A0G (bn (α:=(yS9)×Bool×Unit) (s7 prog [.agg tS9,.one .bool] 55 #[.pointer e,.string f]) fun g=>nw zS9 79
 fun h=>jt a 10 fun i=>rq (.string i) (.string f)<|kp d 0 fun j=>rq (.pointer j) (.pointer e)<|kp b 0 fun k=>rq (.pointer k) (.pointer c)<|sn h (lS9 g.1) fun _=>cp 27 #[] fun l=>jt a 10 fun m=>bn (α:=Int×Bool×Int
 ×Unit) (s7 prog [.one (.int .i64),.one .bool,.one (.int .u8)] 69 #[.pointer l,.string m,.bool false,.bool false]) fun n=>bn (α:=Bool×Unit) (jb a 13 fun o=>ie o (kt (ad a 14) 0 fun p=>cu 12 #[.string
 p] fun q=>pu (!(q==0),())) (pu (false,()))) fun r=>bn (α:=Int×Unit) (ie r.1 (pu (144,())) (nn p0 fun s=>kp s 0 fun t=>nn t fun u=>km u 3 fun v=>bn (α:=Int) (A5W v) fun w=>bn (α:=Int×Unit) (ie (decide
 (64≤(w:Int))) (pu (151,())) (bn (α:=Int×Unit) (ie (!(n.2.2.1==0)) (pu (n.2.2.1,())) (bn (α:=Bool×Unit) (ie (!g.2.1) (nn p0 fun x=>kp x 0 fun y=>nn y fun z=>kp z 0 fun A=>cc 42 #[.pointer A] fun B=>pu
 (decide (32≤(B.len:Int)),())) (pu (false,()))) fun C=>bn (α:=Int×Unit) (ie C.1 (pu (151,())) (pu (0,()))) fun D=>pu (D.1,()))) fun E=>pu (E.1,()))) fun F=>pu (F.1,()))) fun G=>ie (!(G.1==0)) (cx 34
 #[.pointer p0,vi p1,.agg #[vi 2,.bool false,.bool false,vi 0,vi 0,ve,ve,.int .u8 G.1,vz,vz,ve,.bool false,vi 0,.bool false,ve,ve,vi 0,.bool false,vz,.bool false,.bool false,ve,ve,.bool false,vz,
 vz]] fun H=>pu ()) (bn (α:=Bool×Unit) (ie g.2.1 (jb h 3 fun I=>pu (I,())) (pu (false,()))) fun J=>bn (α:=Unit) (ie J.1 (nn p0 fun K=>kp K 0 fun L=>nn L fun M=>km M 3 fun N=>bn (α:=Nat) (A80 N) fun O=>bn
 (α:=Unit) (HM.loop (σ:=Unit) (τ:=Unit) (fun P=>bn (α:=Option (Value×Value)) (A6Y O) fun Q=>A2r Q (ie false (bn (α:=Int×(yS4)) (A3C (.one (.int .i64)) (.agg tS4) O) fun R=>nw zS4 112 fun S=>sn
 S (lS4 R.2) fun _=>ji S 0 fun T=>ji h 0 fun U=>ie (T==U) (cx 68 #[.pointer p0,vi R.1,.int .u8 142] fun V=>pu (.inr ())) (pu (.inl ()))) (pu (.inr ()))) fun(W:Value×Value)=>ie true (bn (α:=Int×(yS4))
 (A3C (.one (.int .i64)) (.agg tS4) O) fun X=>nw zS4 112 fun Y=>sn Y (lS4 X.2) fun _=>ji Y 0 fun Z=>ji h 0 fun eu=>ie (Z==eu) (cx 68 #[.pointer p0,vi X.1,.int .u8 142] fun fh=>pu (.inr ())) (pu (.inl ())))
 (pu (.inr ()))) ()) fun uz=>pu ()) (pu ())) fun rk=>jc a 9 fun gC=>bn (α:=(yS8)×Bool×Unit) (s7 prog [.agg tS8,.one .bool] 70 #[vs gC,vi 17]) fun dK=>nw zS8 106 fun gy=>sn gy (lS8 dK.1) fun
 _=>nn p0 fun ga=>kp ga 0 fun jW=>nn jW fun kr=>kp kr 0 fun kq=>jt a 10 fun ly=>jb a 11 fun mi=>ji gy 1 fun mh=>bn (α:=Int×Bool×Int×Unit) (s7 prog [.one (.int .i64),.one .bool,.one (.int
 .u8)] 69 #[.pointer kq,.string ly,.bool mi,.bool (decide (0<(mh:Int)))]) fun jx=>bn (α:=Bool×Unit) (ie g.2.1 (ji h 0 fun oz=>pu (!(jx.1==oz),())) (pu (false,()))) fun mf=>bn (α:=Unit) (ie mf.1
 (nn p0 fun me=>kp me 0 fun mc=>nn mc fun ma=>kp ma 1 fun lZ=>ji h 0 fun lY=>ci 71 #[.pointer lZ,vi lY] fun ow=>pu ()) (pu ())) fun oy=>nn p0 fun lX=>kp lX 0 fun lW=>nn lW fun ou=>km ou 3 fun pn=>jb a
 13 fun pj=>kt (ad a 14) 0 fun lx=>kt (ad a 14) 1 fun ph=>ki (ad a 14) 2 fun pg=>kb (ad a 14) 3 fun pf=>bn (α:=Unit) (A2Z (Instr.sameNow (.int .i64)) pn (vi p1) (.agg #[vi jx.1,.bool pj,.string lx,
 .string ph,vi pg,.bool pf,ve])) fun _=>cx 67 #[.pointer p0,vi p1,.agg #[vi 2,.bool false,.bool false,vi 0,vi 0,ve,ve,.int .u8 0,vz,vz,ve,.bool false,vi 0,.bool false,ve,ve,vi 0,.bool false,vz,
 .bool false,.bool false,ve,ve,.bool jx.2.1,vz,vz]] fun rj=>jc a 9 fun jV=>bn (α:=(yS8)×Bool×Unit) (s7 prog [.agg tS8,.one .bool] 70 #[vs jV,vi 33]) fun pe=>nw zS8 106 fun iK=>sn iK (lS8
 pe.1) fun _=>bn (α:=Unit) (ie (!pe.2.1) (sw iK 1 (vi 64) fun _=>pu ()) (pu ())) fun lV=>nn p0 fun pd=>kp pd 0 fun fV=>nn fV fun hZ=>kp hZ 0 fun ko=>ji iK 1 fun hX=>cp 56 #[.pointer ko,vi jx.1] fun
 gU=>ji iK 1 fun ot=>rq (vi ot) (vi hX)<|cc 73 #[.pointer gU,vi hX] fun pc=>cx 72 #[.pointer p0,vi jx.1,vs pc] fun ri=>pu ())) (nw zS9 79 fun fJ=>jt a 10 fun jz=>rq (.string jz) (.string f)<|kp d 0
 fun jy=>rq (.pointer jy) (.pointer e)<|kp b 0 fun nr=>rq (.pointer nr) (.pointer c)<|bn (α:=(yS9)×Bool×Unit) (s7 prog [.agg tS9,.one .bool] 55 #[.pointer e,.string f]) fun iL=>sn fJ (lS9
 iL.1) fun _=>cp 27 #[] fun nq=>jt a 10 fun np=>bn (α:=Int×Bool×Int×Unit) (s7 prog [.one (.int .i64),.one .bool,.one (.int .u8)] 69 #[.pointer nq,.string np,.bool false,.bool false]) fun
 kL=>bn (α:=Bool×Unit) (jb a 13 fun nk=>ie nk (kt (ad a 14) 0 fun nj=>cu 12 #[.string nj] fun ni=>pu (!(ni==0),())) (pu (false,()))) fun nh=>bn (α:=Int×Unit) (ie nh.1 (pu (144,())) (nn p0
 fun ng=>kp ng 0 fun nf=>nn nf fun nc=>km nc 3 fun na=>bn (α:=Int) (A5W na) fun mZ=>bn (α:=Int×Unit) (ie (decide (64≤(mZ:Int))) (pu (151,())) (bn (α:=Int×Unit) (ie (!(kL.2.2.1==
 0)) (pu (kL.2.2.1,())) (bn (α:=Bool×Unit) (ie (!iL.2.1) (nn p0 fun mV=>kp mV 0 fun mU=>nn mU fun mT=>kp mT 0 fun mS=>cc 42 #[.pointer mS] fun mR=>pu (decide (32≤(mR.len:Int)),())) (pu
 (false,()))) fun mQ=>bn (α:=Int×Unit) (ie mQ.1 (pu (151,())) (pu (0,()))) fun mP=>pu (mP.1,()))) fun mX=>pu (mX.1,()))) fun mY=>pu (mY.1,()))) fun kK=>ie (!(kK.1==0)) (cx 34 #[.pointer p0,
 vi p1,.agg #[vi 2,.bool false,.bool false,vi 0,vi 0,ve,ve,.int .u8 kK.1,vz,vz,ve,.bool false,vi 0,.bool false,ve,ve,vi 0,.bool false,vz,.bool false,.bool false,ve,ve,.bool false,vz,vz]] fun
 pD=>pu ()) (bn (α:=Bool×Unit) (ie iL.2.1 (jb fJ 3 fun mO=>pu (mO,())) (pu (false,()))) fun mN=>bn (α:=Unit) (ie mN.1 (nn p0 fun kJ=>kp kJ 0 fun pC=>nn pC fun gD=>km gD 3 fun mL=>bn (α
 :=Nat) (A80 mL) fun gd=>bn (α:=Unit) (HM.loop (σ:=Unit) (τ:=Unit) (fun eH=>bn (α:=Option (Value×Value)) (A6Y gd) fun kH=>A2r kH (ie false (bn (α:=Int×(yS4)) (A3C (.one (.int
 .i64)) (.agg tS4) gd) fun kG=>nw zS4 112 fun kF=>sn kF (lS4 kG.2) fun _=>ji kF 0 fun mK=>ji fJ 0 fun mJ=>ie (mK==mJ) (cx 68 #[.pointer p0,vi kG.1,.int .u8 142] fun pz=>pu (.inr ())) (pu
 (.inl ()))) (pu (.inr ()))) fun(pB:Value×Value)=>ie true (bn (α:=Int×(yS4)) (A3C (.one (.int .i64)) (.agg tS4) gd) fun kE=>nw zS4 112 fun kD=>sn kD (lS4 kE.2) fun _=>ji kD 0 fun mI=>ji fJ
 0 fun mH=>ie (mI==mH) (cx 68 #[.pointer p0,vi kE.1,.int .u8 142] fun py=>pu (.inr ())) (pu (.inl ()))) (pu (.inr ()))) ()) fun gb=>pu ()) (pu ())) fun mM=>jc a 9 fun mG=>bn (α:=(yS8)×Bool×Unit)
 (s7 prog [.agg tS8,.one .bool] 70 #[vs mG,vi 17]) fun mF=>nw zS8 106 fun kC=>sn kC (lS8 mF.1) fun _=>nn p0 fun mE=>kp mE 0 fun mD=>nn mD fun mC=>kp mC 0 fun mB=>jt a 10 fun mA=>jb a
 11 fun mz=>ji kC 1 fun my=>bn (α:=Int×Bool×Int×Unit) (s7 prog [.one (.int .i64),.one .bool,.one (.int .u8)] 69 #[.pointer mB,.string mA,.bool mz,.bool (decide (0<(my:Int)))]) fun
 ia=>bn (α:=Bool×Unit) (ie iL.2.1 (ji fJ 0 fun mv=>pu (!(ia.1==mv),())) (pu (false,()))) fun mu=>bn (α:=Unit) (ie mu.1 (nn p0 fun mn=>kp mn 0 fun bl=>nn bl fun bk=>kp bk 1 fun
 su=>ji fJ 0 fun sr=>ci 71 #[.pointer su,vi sr] fun wk=>pu ()) (pu ())) fun mo=>nn p0 fun sq=>kp sq 0 fun sk=>nn sk fun sj=>km sj 3 fun si=>jb a 13 fun sh=>kt (ad a 14) 0 fun sg=>kt (ad a
 14) 1 fun se=>ki (ad a 14) 2 fun sd=>kb (ad a 14) 3 fun rZ=>bn (α:=Unit) (A2Z (Instr.sameNow (.int .i64)) si (vi p1) (.agg #[vi ia.1,.bool sh,.string sg,.string se,vi sd,.bool rZ,ve]))
 fun _=>cx 67 #[.pointer p0,vi p1,.agg #[vi 2,.bool false,.bool false,vi 0,vi 0,ve,ve,.int .u8 0,vz,vz,ve,.bool false,vi 0,.bool false,ve,ve,vi 0,.bool false,vz,.bool false,.bool false,ve,ve,.bool
 ia.2.1,vz,vz]] fun wh=>jc a 9 fun rY=>bn (α:=(yS8)×Bool×Unit) (s7 prog [.agg tS8,.one .bool] 70 #[vs rY,vi 33]) fun px=>nw zS8 106 fun kB=>sn kB (lS8 px.1) fun _=>bn (α:=Unit) (ie
 (!px.2.1) (sw kB 1 (vi 64) fun _=>pu ()) (pu ())) fun wg=>nn p0 fun rX=>kp rX 0 fun rW=>nn rW fun rV=>kp rV 0 fun rU=>ji kB 1 fun pw=>cp 56 #[.pointer rU,vi ia.1] fun rT=>ji kB 1 fun
 rS=>rq (vi rS) (vi pw)<|cc 73 #[.pointer rT,vi pw] fun rR=>cx 72 #[.pointer p0,vi ia.1,vs rR] fun wc=>pu ()))
theorem A5n(p0:C9N)(p1:Int)(p2:yS2):HCs 33 #[.pointer p0,.int .i64 p1,.agg (aS3 p2)] (A4y p0 p1 p2) fun x=>.tuple #[]:=
 cE [] [0,1,2,5,6,7,8,9,12,13,14,15,17,18,20,21,44,54,64,68,84,94,102,104,112,147,195] [0,1,2,5,6,7,8,9,12,13,14,15,17,18,20,21,44,54,64,68,84,94,102,104,112,147,195] func33 ntmps33 (CC call55 (CC call27 (CC call69 (CC call12 (CC call42 (CC call34 (CC call68 (CC call70 (CC call71 (CC call67 (CC call56 (CC call73 (CC call72 CN)))))))))))))
def A5S(p0:C9N)(p1:Int)(p2:yS2):HM (Unit):=
 nw (aS3 p2) 45 fun a=>nn p0 fun b=>kc (Addr.add b 2) 0 fun c=>A0N (az a) fun d=>nw #[vi p1,vi d.1,.bool d.2.1,.bool d.2.2.1,vi d.2.2.2.1,vi d.2.2.2.2.1,.string (w5 d),.string (w6 d),.int .u8 (w7 d),vs (w8 d),
 vs (w9 d),.string (w10 d),.bool (w11 d),vi (w12 d),.bool (w13 d),.string (w14 d),.string (w15 d),vi (w16 d),.bool (w17 d),vs (w18 d),.bool (w19 d),.bool (w20 d),.string (w21 d),.string (w22 d),.bool (w23
 d),vs (w24 d),vs (w25 d),.bool true] 50 fun e=>kc (Addr.add b 2) 0 fun f=>rq (vs f) (vs c)<|bn (α:=Slc) (HM.append 50 28 344 zS1 c 1 (V6 28 (⟨some (az e),1,1⟩))) fun g=>nn p0 fun h=>sx (Addr.add (Addr.add h
 2) 0) (vs g) fun _=>pu ()
theorem A6W(p0:C9N)(p1:Int)(p2:yS2):HCs 34 #[.pointer p0,.int .i64 p1,.agg (aS3 p2)] (A5S p0 p1 p2) fun x=>.tuple #[]:=
 cE [] [0,1,2,5] [0,1,2,5] func34 ntmps34 CN
def A5r(p0:B3O):HM (Int×Unit):=
 cb 30 #[.string p0] fun a=>ie (!a) (pu (143,())) (cc 36 #[.string p0] fun b=>bn (α:=(Int×Unit)⊕(Int×Unit)) (HM.loop (σ:=Int×Unit) (τ:=(Int×Unit)⊕(Int×Unit)) (fun c=>ie (decide (c.1<(b.len:Int)))
 (ix b c.1 1 fun d=>lt d fun e=>bn (α:=(Unit)⊕((Int×Unit)⊕((Int×Unit)⊕(Int×Unit)))) (bn (α:=(Unit)⊕((Unit)⊕((Int×Unit)⊕((Int×Unit)⊕(Int×Unit))))) (bn (α:=(Unit)⊕((Unit)⊕((Unit)⊕((Int
 ×Unit)⊕((Int×Unit)⊕(Int×Unit)))))) (cb 31 #[.string e,.string (ByteArray.mk #[35])] fun f=>ie f (pu (.inl ())) (cb 31 #[.string e,.string (ByteArray.mk #[43])] fun g=>ie g (pu (.inr (.inl ()))) (pu (.inr (.inr
 (.inl ())))))) (Sum.elim (fun h=>ie (decide (c.1<((wi ((b.len:Int)-1)):Int))) (pu (.inr (.inr (.inr (.inr (143,())))))) (pu (.inl ()))) W9)) (Sum.elim (fun i=>ie (decide (1<(((ByteArray.size e:Nat):
 Int):Int))) (pu (.inr (.inr (.inr (143,()))))) (pu (.inl ()))) W9)) (Sum.elim (fun j=>pu (.inl (wi (c.1+1),()))) W9)) (pu (.inr (.inl (c.1,()))))) (0,())) (Sum.elim (fun k=>pu (0,())) W9))
theorem A6m(p0:B3O):HCs 35 #[.string p0] (A5r p0) fun x=>.int .u8 x.1:=
 cE [.one (.int .u8)] [0,2,3,4,5,8,11,12,13,14,18,21,28,31] [0,3,4,5,8,11,12,13,14,18,21,28,31] func35 ntmps35 (CC call30 (CC call36 (CC call31 CN)))
def A64(p0:B3O):HM (Slc×Unit):=
 cc 74 #[.string p0,.string (ByteArray.mk #[47])] fun a=>pu (a,())
theorem A4P(p0:B3O):HCs 36 #[.string p0] (A64 p0) fun x=>.slice x.1.a x.1.len x.1.cap:=
 cE [.one .slc] [0,2] [0] func36 ntmps36 (CC call74 CN)
def A6q(p0:Slc)(p1:Slc)(p2:Value):HM (Bool×Unit):=
 ie (!((p0.len:Int)==(p1.len:Int))) (pu (false,())) (bn (α:=(Int×Unit)⊕(Bool×Unit)) (HM.loop (σ:=Int×Unit) (τ:=(Int×Unit)⊕(Bool×Unit)) (fun a=>ie (decide (a.1<(p0.len:Int))) (ix p0 a.1 1
 fun b=>lt b fun c=>ix p1 a.1 1 fun d=>lt d fun e=>bn (α:=Bool) (B77 prog (.one .bool) p2 #[.string c,.string e]) fun f=>ie (!f) (pu (.inr (.inr (false,())))) (pu (.inl (wi (a.1+1),())))) (pu (.inr (.inl
 (a.1,()))))) (0,())) (Sum.elim (fun g=>pu (true,())) W9))
theorem A67(p0:Slc)(p1:Slc)(p2:Value):HCs 37 #[.slice p0.a p0.len p0.cap,.slice p1.a p1.len p1.cap,p2] (A6q p0 p1 p2) fun x=>.bool x.1:=
 cE [.one .bool] [0,1,2,6,7,8,9,14,15,16,17,18,30] [0,1,2,7,8,9,14,15,16,17,18,30] func37 ntmps37 CN
def A8o(p0:B3O)(p1:B3O):HM (Bool×Unit):=
 bn (α:=Bool×Unit) (ie (decide (p0=(ByteArray.mk #[43]))) (pu (true,())) (pu (decide (p0=p1),()))) fun a=>pu (a.1,())
theorem A8n(p0:B3O)(p1:B3O):HCs 38 #[.string p0,.string p1] (A8o p0 p1) fun x=>.bool x.1:=
 cE [.one .bool] [0,1,4] [0,1] func38 ntmps38 CN
def B3J(p0:Slc):HM (Slc×Slc×Unit):=
 bn (α:=Slc) (HM.slice p0 none (some (if 80<(p0.len:Int) then 80 else(p0.len:Int))) none 4) fun a=>bn (α:=Slc×Slc×Int×Unit) (HM.loop (σ:=Slc×Slc×Int×Unit) (τ:=Slc×Slc×Int×Unit) (fun b=>ie
 (decide (b.2.2.1<(a.len:Int))) (ix a b.2.2.1 4 fun c=>g8 c fun d=>nw zS8 193 fun e=>sn e (lS8 d) fun _=>g8 (az e) fun f=>g8 (az e) fun g=>A0G (nw (aS8 f) 106 fun h=>g8 (az e) fun i=>rq (.agg (aS8 i)) (.agg (aS8
 g))<|A0G (bn (α:=Slc) (HM.append 106 4 48 zS8 b.1 1 (V6 4 (⟨some (az h),1,1⟩))) fun j=>g8 (az e) fun k=>rq (.agg (aS8 k)) (.agg (aS8 g))<|nw (aS8 g) 194 fun l=>g8 (az e) fun m=>rq (.agg (aS8 m)) (.agg (aS8
 f))<|bn (α:=Slc) (HM.append 194 4 48 zS8 b.2.1 1 (V6 4 (⟨some (az l),1,1⟩))) fun n=>pu (.inl (j,n,wi (b.2.2.1+1),()))) (nw (aS8 g) 194 fun o=>g8 (az e) fun p=>rq (.agg (aS8 p)) (.agg (aS8 f))<|bn (α:=
 Slc) (HM.append 106 4 48 zS8 b.1 1 (V6 4 (⟨some (az h),1,1⟩))) fun q=>g8 (az e) fun r=>rq (.agg (aS8 r)) (.agg (aS8 g))<|bn (α:=Slc) (HM.append 194 4 48 zS8 b.2.1 1 (V6 4 (⟨some (az o),1,1⟩))) fun s=>pu
 (.inl (q,s,wi (b.2.2.1+1),())))) (nw (aS8 g) 194 fun t=>g8 (az e) fun u=>rq (.agg (aS8 u)) (.agg (aS8 f))<|nw (aS8 f) 106 fun v=>g8 (az e) fun w=>rq (.agg (aS8 w)) (.agg (aS8 g))<|bn (α:=Slc) (HM.append 106 4 48
 zS8 b.1 1 (V6 4 (⟨some (az v),1,1⟩))) fun x=>g8 (az e) fun y=>rq (.agg (aS8 y)) (.agg (aS8 g))<|bn (α:=Slc) (HM.append 194 4 48 zS8 b.2.1 1 (V6 4 (⟨some (az t),1,1⟩))) fun z=>pu (.inl (x,z,wi (b.2.2.1+
 1),())))) (pu (.inr (b.1,b.2.1,b.2.2.1,())))) (⟨none,0,0⟩,⟨none,0,0⟩,0,())) fun A=>pu (A.1,A.2.1,())
theorem B1F(p0:Slc):HCs 39 #[.slice p0.a p0.len p0.cap] (B3J p0) fun x=>.tuple #[.slice x.1.a x.1.len x.1.cap,.slice x.2.1.a x.2.1.len x.2.1.cap]:=
 cE [.one .slc,.one .slc] [0,2,3,4,5,7,12,13,14,15] [0,4,5,7,12,13,14,15] func39 ntmps39 CN
def A4S(p0:C9N):HM (Slc×Unit):=
 ie (Option.isNone p0) (pu (⟨none,0,0⟩,())) (nn p0 fun a=>km a 1 fun b=>bn (α:=Value) (A1s prog (.one .any) 78 #[.map b]) fun c=>cc 40 #[c] fun d=>bn (α:=Slc×Int×Unit) (HM.loop (σ:=Slc×Int×
 Unit) (τ:=Slc×Int×Unit) (fun e=>ie (decide (e.2.1<(d.len:Int))) (ix d e.2.1 1 fun f=>li f fun g=>nn p0 fun h=>km h 1 fun i=>bn (α:=C9N×Bool) (HM.lookup (Instr.sameNow (.int .i64)) (.pointer none)
 (.one .ptr) i (vi g)) fun j=>nn j.1 fun k=>g9 (Addr.add k 0) fun l=>nw (aS9 l) 79 fun m=>bn (α:=Slc) (HM.append 79 4 32 zS9 e.1 1 (V6 4 (⟨some (az m),1,1⟩))) fun n=>pu (.inl (n,wi (e.2.1+1),()))) (pu (.inr
 (e.1,e.2.1,())))) (⟨none,0,0⟩,0,())) fun o=>pu (o.1,()))
theorem A5Y(p0:C9N):HCs 42 #[.pointer p0] (A4S p0) fun x=>.slice x.1.a x.1.len x.1.cap:=
 cE [.one .slc] [0,2,3,5,7,13,14,15,16] [0,3,5,7,13,14,15,16] func42 ntmps42 (CC call78 (CC call40 CN))
def A6V(p0:C9N)(p1:yS7):HM (Unit):=
 nw (aS7 p1) 83 fun a=>jb a 3 fun b=>bn (α:=Unit) (ie b (nn p0 fun c=>kp c 0 fun d=>nn d fun e=>kp e 2 fun f=>jt a 0 fun g=>jt a 1 fun h=>ji a 2 fun i=>cu 79 #[.pointer f,.agg #[.string g,.string h,vi i]] fun j=>pu
 ()) (pu ())) fun k=>nn p0 fun l=>kp l 0 fun m=>nn m fun n=>kp n 1 fun o=>jt a 0 fun p=>cc 80 #[.pointer o,.string p] fun q=>bn (α:=Slc×Unit) (HM.loop (σ:=Slc×Unit) (τ:=Slc×Unit) (fun r=>ie (decide (0<
 (r.1.len:Int))) (ix r.1 0 3 fun s=>ki s 0 fun t=>bn (α:=Int×Slc×Unit) (HM.loop (σ:=Int×Slc×Unit) (τ:=Int×Slc×Unit) (fun u=>bn (α:=Bool×Unit) (ie (decide (0<(u.2.1.len:Int))) (ix u.2.1 0 3 fun
 v=>ki v 0 fun w=>pu (w==t,())) (pu (false,()))) fun x=>ie x.1 (ix u.2.1 0 3 fun y=>ki y 2 fun z=>bn (α:=Slc) (HM.slice u.2.1 (some 1) none none 3) fun A=>pu (.inl (if u.1<(z:Int) then z else u.1,A,()))) (pu
 (.inr (u.1,u.2.1,())))) (0,r.1,())) fun B=>nn p0 fun C=>kp C 0 fun D=>nn D fun E=>kp E 0 fun F=>jt a 0 fun G=>jt a 1 fun H=>ji a 2 fun I=>A0G (cp 56 #[.pointer F,vi t] fun J=>ji a 2 fun K=>rq (vi K) (vi I)<|jt
 a 1 fun L=>rq (.string L) (.string H)<|jt a 0 fun M=>rq (.string M) (.string G)<|jt a 1 fun N=>rq (.string N) (.string H)<|jt a 0 fun O=>rq (.string O) (.string G)<|kp E 0 fun P=>rq (.pointer P) (.pointer F)<|kp C 0
 fun Q=>rq (.pointer Q) (.pointer D)<|bn (α:=Slc×Int×Unit) (s7 prog [.one .slc,.one (.int .u8)] 81 #[.pointer J,.agg #[.string G,.string H,vi (if B.1<(I:Int) then B.1 else I),.bool false,ve]])
 fun R=>cx 72 #[.pointer p0,vi t,vs R.1] fun S=>pu (.inl (B.2.1,()))) (jt a 1 fun T=>rq (.string T) (.string H)<|jt a 0 fun U=>rq (.string U) (.string G)<|kp E 0 fun V=>rq (.pointer V) (.pointer F)<|kp C 0 fun W=>rq
 (.pointer W) (.pointer D)<|cp 56 #[.pointer F,vi t] fun X=>ji a 2 fun Y=>rq (vi Y) (vi I)<|jt a 1 fun Z=>rq (.string Z) (.string H)<|jt a 0 fun kA=>rq (.string kA) (.string G)<|bn (α:=Slc×Int×Unit) (s7
 prog [.one .slc,.one (.int .u8)] 81 #[.pointer X,.agg #[.string G,.string H,vi (if B.1<(I:Int) then B.1 else I),.bool false,ve]]) fun eu=>cx 72 #[.pointer p0,vi t,vs eu.1] fun fh=>pu (.inl (B.2.1,
 ())))) (pu (.inr (r.1,())))) (q,())) fun fE=>pu ()
theorem A7M(p0:C9N)(p1:yS7):HCs 43 #[.pointer p0,.agg (aS7 p1)] (A6V p0 p1) fun x=>.tuple #[]:=
 cE [] [0,1,3,4,5,6,7,10,38,53] [0,1,3,4,5,6,7,10,38,53] func43 ntmps43 (CC call79 (CC call80 (CC call56 (CC call81 (CC call72 CN)))))
def B7n(p0:Int):HM (C9N×Unit):=
 bn (α:=Int×Unit) (ie (decide (p0<(0:Int))) (pu (0,())) (pu (p0,()))) fun a=>bn (α:=Int×Unit) (ie (decide (64<(a.1:Int))) (pu (64,())) (pu (a.1,()))) fun b=>nw #[vi b.1,vz] 220 fun c=>pu (some (az
 c),())
theorem B4c(p0:Int):HCs 45 #[.int .i64 p0] (B7n p0) fun x=>.pointer x.1:=
 cE [.one .ptr] [0,2,4,6] [0,4,6] func45 ntmps45 CN
def B43(p0:C9N)(p1:Int)(p2:Bool):HM (Unit):=
 cx 86 #[.pointer p0,.bool p2] fun a=>cx 87 #[.pointer p0,vi p1,.bool true] fun b=>pu ()
theorem B2r(p0:C9N)(p1:Int)(p2:Bool):HCs 46 #[.pointer p0,.int .i64 p1,.bool p2] (B43 p0 p1 p2) fun x=>.tuple #[]:=
 cE [] [0,1,2] [0,1,2] func46 ntmps46 (CC call86 (CC call87 CN))
def A9Q(p0:C9N)(p1:yS7):HM (Unit):=
 nw (aS7 p1) 143 fun a=>cx 86 #[.pointer p0,.bool false] fun b=>g7 (az a) fun c=>cx 88 #[.pointer p0,.agg (aS7 c)] fun d=>pu ()
theorem A9u(p0:C9N)(p1:yS7):HCs 47 #[.pointer p0,.agg (aS7 p1)] (A9Q p0 p1) fun x=>.tuple #[]:=
 cE [] [0,1,3] [0,1,3] func47 ntmps47 (CC call86 (CC call88 CN))
def A9P(p0:C9N):HM (Unit):=
 cx 86 #[.pointer p0,.bool false] fun a=>bn (α:=Unit) (HM.loop (σ:=Unit) (τ:=Unit) (fun b=>nn p0 fun c=>kc c 3 fun d=>ie (decide (0<(d.len:Int))) (nn p0 fun e=>kc e 3 fun f=>ix f 0 8 fun g=>ki g 0 fun h=>cx 87
 #[.pointer p0,vi h,.bool false] fun i=>pu (.inl ())) (pu (.inr ()))) ()) fun j=>pu ()
theorem A9t(p0:C9N):HCs 48 #[.pointer p0] (A9P p0) fun x=>.tuple #[]:=
 cE [] [0,9] [0,9] func48 ntmps48 (CC call86 (CC call87 CN))
def B02(p0:C9N)(p1:Int)(p2:yS2)(p3:Bool):HM (Unit):=
 nw (aS2 p2) 70 fun a=>cx 86 #[.pointer p0,.bool p3] fun b=>ci 89 #[.pointer p0,vi p1] fun c=>ie (decide (0≤(c:Int))) (nn p0 fun d=>kp d 0 fun e=>nn p0 fun f=>kc f 3 fun g=>ix g c 8 fun h=>ki h 1 fun i=>cp 90
 #[.pointer e,vi i] fun j=>g2 (az a) fun k=>cx 91 #[.pointer p0,vi p1,.pointer j,.agg (aS2 k)] fun l=>pu ()) (ji a 0 fun m=>ie (m==1) (g2 (az a) fun n=>cx 92 #[.pointer p0,vi p1,.agg (aS2 n)] fun o=>pu ()) (cx 93
 #[.pointer p0,vi p1,.agg #[vi 14,.bool false,.bool false,vi 0,vi 0,ve,ve,vi 130,vz,vz,ve,.bool false,vi 0,.bool false,ve,ve,vi 0,.bool false,vz,.bool false,.bool false,ve,ve,.bool false,vz,vz]]
 fun p=>pu ()))
theorem B0m(p0:C9N)(p1:Int)(p2:yS2)(p3:Bool):HCs 49 #[.pointer p0,.int .i64 p1,.agg (aS2 p2),.bool p3] (B02 p0 p1 p2 p3) fun x=>.tuple #[]:=
 cE [] [0,1,2,3,6,8,9,17,38] [0,1,2,3,6,8,9,17,38] func49 ntmps49 (CC call86 (CC call89 (CC call90 (CC call91 (CC call92 (CC call93 CN))))))
def A9T(p0:Slc)(p1:Slc):HM (Bool×Unit):=
 ie (!((p0.len:Int)==(p1.len:Int))) (pu (false,())) (bn (α:=(Int×Unit)⊕(Bool×Unit)) (HM.loop (σ:=Int×Unit) (τ:=(Int×Unit)⊕(Bool×Unit)) (fun a=>ie (decide (a.1<(p0.len:Int))) (bn (α:=Bool
 ×Unit) (ix p0 a.1 28 fun b=>ki b 0 fun c=>ix p1 a.1 28 fun d=>ki d 0 fun e=>ie (!(c==e)) (A0G (pu (true,())) (pu (true,()))) (ix p0 a.1 28 fun f=>kb f 27 fun g=>ix p1 a.1 28 fun h=>kb h 27 fun i=>ie (!(g==i))
 (A0G (pu (true,())) (pu (true,()))) (ix p0 a.1 28 fun j=>A0N (Addr.add j 1) fun k=>ix p1 a.1 28 fun l=>g2 (Addr.add l 1) fun m=>A0G (nw (aS3 k) 45 fun n=>g2 (Addr.add l 1) fun o=>rq (.agg (aS2 o)) (.agg (aS2
 m))<|nw (aS2 m) 70 fun p=>A0N (Addr.add j 1) fun q=>rq (.agg (aS3 q)) (.agg (aS3 k))<|cb 94 #[.slice (some (az n)) 1 1,.slice (some (az p)) 1 1] fun r=>pu (!r,())) (nw (aS2 m) 70 fun s=>A0N (Addr.add j 1) fun t=>rq
 (.agg (aS3 t)) (.agg (aS3 k))<|nw (aS3 k) 45 fun u=>g2 (Addr.add l 1) fun v=>rq (.agg (aS2 v)) (.agg (aS2 m))<|cb 94 #[.slice (some (az u)) 1 1,.slice (some (az s)) 1 1] fun w=>pu (!w,()))))) fun x=>ie x.1 (pu (.inr
 (.inr (false,())))) (pu (.inl (wi (a.1+1),())))) (pu (.inr (.inl (a.1,()))))) (0,())) (Sum.elim (fun y=>pu (true,())) W9))
theorem A9y(p0:Slc)(p1:Slc):HCs 50 #[.slice p0.a p0.len p0.cap,.slice p1.a p1.len p1.cap] (A9T p0 p1) fun x=>.bool x.1:=
 cE [.one .bool] [0,1,4,5,10,12,13,14,55] [0,1,5,10,12,13,14,55] func50 ntmps50 (CC call94 CN)
def A43(p0:Slc)(p1:Slc):HM (Bool×Unit):=
 ie (!((p0.len:Int)==(p1.len:Int))) (pu (false,())) (bn (α:=(Int×Unit)⊕(Bool×Unit)) (HM.loop (σ:=Int×Unit) (τ:=(Int×Unit)⊕(Bool×Unit)) (fun a=>ie (decide (a.1<(p0.len:Int))) (ix p0 a.1 5
 fun b=>g7 b fun c=>ix p1 a.1 5 fun d=>g7 d fun e=>ie (!((decide (c.1=e.1))&&((decide (c.2.1=e.2.1))&&((c.2.2.1==e.2.2.1)&&((c.2.2.2.1==e.2.2.2.1)&&((decide (c.2.2.2.2.1=e.2.2.2.2.1))&&true)))))) (pu
 (.inr (.inr (false,())))) (pu (.inl (wi (a.1+1),())))) (pu (.inr (.inl (a.1,()))))) (0,())) (Sum.elim (fun f=>pu (true,())) W9))
theorem A54(p0:Slc)(p1:Slc):HCs 51 #[.slice p0.a p0.len p0.cap,.slice p1.a p1.len p1.cap] (A43 p0 p1) fun x=>.bool x.1:=
 cE [.one .bool] [0,1,4,5,10,12,13,14,24] [0,1,5,10,12,13,14,24] func51 ntmps51 CN
end Go.Proofs.YtidlldnlphdhcaaGreatDoor