/-
  Our texts, packed by program.
-/
import Derived.Test.YtidlldnlphdhcaaGreatDoorQBrokerFull0
import Derived.MapKept
import Derived.Below
import Derived.Laws.Append
import Derived.ChangeArms
import Derived.DataReads
import Derived.SizedLaws
import Derived.Handed
import Derived.OpenShut
import Derived.Test.YtidlldnlphdhcaaGreatDoorProg
import Derived.KernelRfl
set_option linter.unusedSimpArgs false
set_option linter.unusedVariables false
set_option maxHeartbeats 16000000
set_option maxRecDepth 100000
namespace Go.H
section
open Go.MapKept (Stamped)
abbrev PH:=Nat→Option Obj
def PH.sub(m:PH)(h:Heap):Prop:=∀k o,m k=some o→h[k]? =some o
def PH.dK(a b:PH):Prop:=∀k,a k=none∨b k=none
def PH.join(a b:PH):PH:=fun k=>match a k with|some o=>some o|none=>b k
abbrev Asn:=PH→Prop
def star(A B:Asn):Asn:=fun m=>∃a b,a.dK b∧m=a.join b∧A a∧B b
def A0L:List Asn→Asn
 |[]=>fun _=>True
 |A::L=>star A (A0L L)
def exA{α:Type}(f:α→Asn):Asn:=fun m=>∃x,f x m
def pr(p:Prop):Asn:=fun _=>p
def blk(b:Nat)(o:Obj):Asn:=fun m=>m b=some o
def cells(b:Nat)(cs:C9v):Asn:=exA fun T=>blk b (.cells cs T (0,0))
def old(h0:Heap):Asn:=fun m=>∀(k:Nat) (o:Obj),h0[k]? =some o→m k=some o
def sat(h:Heap)(L:List Asn):Prop:=∃m,PH.sub m h∧A0L L m
theorem join_none{a b:PH}{k:Nat}(h:a k=none):a.join b k=b k:=by simp[PH.join,h]
theorem A3K{a b:PH}{k:Nat}{o:Obj}(h:a k=some o):a.join b k=some o:=by simp[PH.join,h]
theorem A7p{a b:PH}{k:Nat}{o:Obj}(hd:a.dK b)(h:b k=some o):a.join b k=some o:=by
 rcases hd k with h1|h1
 ·rw[join_none h1];exact h
 ·rw[h] at h1;cases h1
theorem C0g{a b:PH}{h:Heap}(hs:PH.sub (a.join b) h)(hd:a.dK b):PH.sub a h∧PH.sub b h:=
 ⟨fun k o ho=>hs k o (A3K ho),fun k o ho=>hs k o (A7p hd ho)⟩
theorem B4M{a b:PH}{h:Heap}(ha:PH.sub a h)(hb:PH.sub b h):PH.sub (a.join b) h:=by
 intro k o ho
 cases hk:a k with
 |some o'=>rw[A3K hk] at ho;cases ho;exact ha k _ hk
 |none=>rw[join_none hk] at ho;exact hb k o ho
theorem join_assoc(a b c:PH):(a.join b).join c=a.join (b.join c):=by
 funext k;simp only[PH.join];cases a k<;>rfl
theorem join_comm{a b:PH}(h:a.dK b):a.join b=b.join a:=by
 funext k;simp only[PH.join]
 rcases h k with h1|h1
 ·rw[h1];cases b k<;>rfl
 ·rw[h1];cases a k<;>rfl
theorem A3N{a b:PH}(h:a.dK b):b.dK a:=fun k=>(h k).symm
theorem B7Y{a b c:PH}(h1:a.dK c)(h2:b.dK c):(a.join b).dK c:=by
 intro k
 rcases h1 k with h|h
 ·rw[join_none h];exact h2 k
 ·exact .inr h
theorem B1Z{a b c:PH}(h:(a.join b).dK c)(hd:a.dK b):a.dK c∧b.dK c:=by
 refine⟨fun k=>?_,fun k=>?_⟩
 ·rcases h k with h1|h1
  ·cases hk:a k with
   |none=>exact .inl rfl
   |some o=>rw[A3K hk] at h1;cases h1
  ·exact .inr h1
 ·rcases h k with h1|h1
  ·cases hk:b k with
   |none=>exact .inl rfl
   |some o=>rw[A7p hd hk] at h1;cases h1
  ·exact .inr h1
theorem A95{A B C:Asn}{m:PH}(h:star (star A B) C m):star A (star B C) m:=by
 obtain⟨ab,c,hd,rfl,⟨a,b,iQ,rfl,ha,hb⟩,hc⟩:=h
 obtain⟨h1,h2⟩:=B1Z hd iQ
 exact⟨a,b.join c,A3N (B7Y (A3N iQ) (A3N h1)),join_assoc a b c,ha,b,c,h2,rfl,hb,hc⟩
theorem A8n{A B C:Asn}{m:PH}(h:star A (star B C) m):star (star A B) C m:=by
 obtain⟨a,bc,hd,rfl,ha,b,c,iQ,rfl,hb,hc⟩:=h
 obtain⟨h1,h2⟩:=B1Z (A3N hd) iQ
 exact⟨a.join b,c,B7Y (A3N h2) iQ,(join_assoc a b c).symm,⟨a,b,A3N h1,rfl,ha,hb⟩,hc⟩
theorem C3p{A B:Asn}{m:PH}(h:star A B m):star B A m:=by
 obtain⟨a,b,hd,rfl,ha,hb⟩:=h
 exact⟨b,a,A3N hd,join_comm hd,hb,ha⟩
theorem A0x{A A' B B':Asn}(ha:∀m,A m→A' m)(hb:∀m,B m→B' m){m:PH}(h:star A B m):star A' B' m:=by
 obtain⟨a,b,hd,rfl,h1,h2⟩:=h
 exact⟨a,b,hd,rfl,ha _ h1,hb _ h2⟩
section
variable {h:Heap} {A B C D E F G:Asn} {R:List Asn}
theorem sat.imp(hs:sat h (A::R))(ha:∀m,A m→B m):sat h (B::R):=by
 obtain⟨m,h1,h2⟩:=hs
 exact⟨m,h1,A0x ha (fun _ h=>h) h2⟩
theorem sat.tail{R':List Asn}(hs:sat h (A::R))(hr:∀m,A0L R m→A0L R' m):sat h (A::R'):=by
 obtain⟨m,h1,h2⟩:=hs
 exact⟨m,h1,A0x (fun _ h=>h) hr h2⟩
theorem y7{m:PH}(h:A0L (A::B::R) m):A0L (B::A::R) m:=
 A95 (A0x (fun _ h=>C3p h) (fun _ h=>h) (A8n h))
theorem A3w{R R':List Asn}(hr:∀m,A0L R m→A0L R' m){m:PH}(h:A0L (A::R) m):A0L (A::R') m:=A0x (fun _ h=>h) hr h
theorem sat.p1(hs:sat h (A::B::R)):sat h (B::A::R):=let⟨m,h1,h2⟩:=hs;⟨m,h1,y7 h2⟩
theorem sat.p2(hs:sat h (A::B::C::R)):sat h (C::A::B::R):=(hs.tail fun _=>y7).p1
theorem sat.p3(hs:sat h (A::B::C::D::R)):sat h (D::A::B::C::R):=(hs.tail fun _ hm=>y7 (A3w (fun _=>y7) hm)).p1
theorem sat.p4(hs:sat h (A::B::C::D::E::R)):sat h (E::A::B::C::D::R):=(hs.tail fun _ hm=>y7 (A3w (fun _ hm=>y7 (A3w (fun _=>y7) hm)) hm)).p1
theorem sat.p5(hs:sat h (A::B::C::D::E::F::R)):sat h (F::A::B::C::D::E::R):=
 (hs.tail fun _ hm=>y7 (A3w (fun _ hm=>y7 (A3w (fun _ hm=>y7 (A3w (fun _=>y7) hm)) hm)) hm)).p1
theorem sat.b2(hs:sat h (C::A::B::R)):sat h (A::B::C::R):=hs.p1.tail fun _=>y7
theorem sat.drop(hs:sat h (A::R)):sat h R:=by
 obtain⟨m,h1,a,r,hd,rfl,ha,hr⟩:=hs
 exact⟨r,(C0g h1 hd).2,hr⟩
theorem sat.aI:sat h (star A B::R)↔sat h (A::B::R):=
 ⟨fun⟨m,h1,h2⟩=>⟨m,h1,A95 h2⟩,fun⟨m,h1,h2⟩=>⟨m,h1,A8n h2⟩⟩
theorem sat.bA{α:Type}{f:α→Asn}:sat h (exA f::R)↔∃x,sat h (f x::R):=by
 constructor
 ·rintro⟨m,h1,a,r,hd,rfl,⟨x,ha⟩,hr⟩
  exact⟨x,_,h1,a,r,hd,rfl,ha,hr⟩
 ·rintro⟨x,m,h1,a,r,hd,rfl,ha,hr⟩
  exact⟨_,h1,a,r,hd,rfl,⟨x,ha⟩,hr⟩
theorem sat.bC{p:Prop}:sat h (pr p::R)↔p∧sat h R:=by
 constructor
 ·intro hs
  refine⟨?_,hs.drop⟩
  obtain⟨m,h1,a,r,hd,rfl,ha,hr⟩:=hs
  exact ha
 ·rintro⟨hp,m,h1,h2⟩
  refine⟨m,h1,fun _=>none,m,fun k=>.inl rfl,?_,hp,h2⟩
  funext k;rfl
theorem A2V:∀(L R:List Asn) {m:PH},star (A0L L) (A0L R) m↔A0L (L++R) m
 |[],R,m=>by
  constructor
  ·rintro⟨a,b,hd,rfl,-,hb⟩
   exact up R (a.join b) b (fun k o ho=>A7p hd ho) hb
  ·intro hr
   exact⟨fun _=>none,m,fun k=>.inl rfl,by funext k;rfl,trivial,hr⟩
 |A::L,R,m=>by
  constructor
  ·intro hm
   exact A0x (fun _ h=>h) (fun _ h=>(A2V L R).1 h) (A95 hm)
  ·intro hm
   exact A8n (A0x (fun _ h=>h) (fun _ h=>(A2V L R).2 h) hm)
where
 up:∀(R:List Asn) (m m':PH),(∀k o,m' k=some o→m k=some o)→A0L R m'→A0L R m
  |[],_,_,_,_=>trivial
  |A::R,m,m',bg,⟨a,b,hd,he,ha,hb⟩=>by
   subst he
   refine⟨a,fun k=>match a k with|some _=>none|none=>m k,fun k=>?_,?_,ha,?_⟩
   ·cases hk:a k with
    |none=>exact .inl rfl
    |some o=>exact .inr (by simp only[hk])
   ·funext k
    cases hk:a k with
    |none=>rw[join_none hk];simp[hk]
    |some o=>rw[A3K hk];exact bg k o (A3K hk)
   ·refine up R _ b (fun k o ho=>?_) hb
    have jk:a k=none:=by
     rcases hd k with h1|h1
     ·exact h1
     ·rw[ho] at h1;cases h1
    simp only[jk]
    exact bg k o (by rw[join_none jk];exact ho)
theorem sat.bV{L:List Asn}:sat h (A0L L::R)↔sat h (L++R):=
 ⟨fun⟨m,h1,h2⟩=>⟨m,h1,(A2V L R).1 h2⟩,fun⟨m,h1,h2⟩=>⟨m,h1,(A2V L R).2 h2⟩⟩
theorem sat.get{b:Nat}{o:Obj}(hs:sat h (blk b o::R)):h[b]? =some o:=by
 obtain⟨m,h1,a,r,hd,rfl,ha,hr⟩:=hs
 exact h1 b o (A3K ha)
theorem sat.lt{b:Nat}{o:Obj}(hs:sat h (blk b o::R)):b<h.size:=(F6.1 hs.get).1
theorem sat.bG{b:Nat}{o o':Obj}{h':Heap}(hs:sat h (blk b o::R))(hb:h'[b]? =some o')(hk:∀k,k≠b→h'[k]? =h[k]?):sat h' (blk b o'::R):=by
 obtain⟨m,h1,a,r,hd,rfl,ha,hr⟩:=hs
 have uF:r b=none:=by
  rcases hd b with h2|h2
  ·rw[ha] at h2;cases h2
  ·exact h2
 refine⟨PH.join (fun k=>if k=b then some o' else none) r,?_,_,r,fun k=>?_,rfl,by simp[blk],hr⟩
 ·refine B4M (fun k x hx=>?_) (fun k x hx=>?_)
  ·have dL:(if k=b then some o' else none)=some x:=hx
   split at dL
   ·rename_i e;subst e;cases dL;exact hb
   ·cases dL
  ·rw[hk k (fun e=>by subst e;rw[uF] at hx;cases hx)]
   exact(C0g h1 hd).2 k x hx
 ·by_cases e:k=b
  ·subst e;exact .inr uF
  ·exact .inl (by simp[e])
theorem sat.push{o:Obj}(hs:sat h R):sat (h.push o) (blk h.size o::R):=by
 obtain⟨m,h1,hr⟩:=hs
 have hm:m h.size=none:=by
  cases hh:m h.size with
  |none=>rfl
  |some x=>
   have:=h1 _ _ hh
   rw[R2 (by omega)] at this
   cases this
 refine⟨PH.join (fun k=>if k=h.size then some o else none) m,?_,_,m,fun k=>?_,rfl,by simp[blk],hr⟩
 ·refine B4M (fun k x hx=>?_) (fun k x hx=>?_)
  ·have dL:(if k=h.size then some o else none)=some x:=hx
   split at dL
   ·rename_i e;subst e;cases dL;simp
   ·cases dL
  ·have:=h1 k x hx
   have ah:=(F6.1 this).1
   rw[M0,if_neg (by omega)]
   exact this
 ·by_cases e:k=h.size
  ·subst e;exact .inr hm
  ·exact .inl (by simp[e])
theorem sat.dM{h0:Heap}{k:Nat}{o:Obj}(hs:sat h (old h0::R))(hk:h0[k]? =some o):h[k]? =some o:=by
 obtain⟨m,h1,a,r,hd,rfl,ha,hr⟩:=hs
 exact h1 k o (A3K (ha k o hk))
theorem sat_old(h0:Heap):sat h0 [old h0]:=by
 refine⟨fun k=>h0[k]?,fun k o ho=>ho,fun k=>h0[k]?,fun _=>none,fun k=>.inr rfl,?_,fun k o ho=>ho,trivial⟩
 funext k
 simp only[PH.join]
 cases h0[k]? <;>rfl
theorem sat.bX{h0:Heap}{a:Addr}{v:Value}(hs:sat h (old h0::R))(hc:V9 h0 a=some v):V9 h a=some v:=by
 unfold V9 at hc⊢
 cases hb:h0[a.block]? with
 |none=>simp[hb] at hc
 |some o=>rw[hs.dM hb];rw[hb] at hc;exact hc
theorem A2k{b:Nat}{cs:C9v}:sat h (cells b cs::R)↔∃T,sat h (blk b (.cells cs T (0,0))::R):=sat.bA
theorem sat.cell{b:Nat}{cs:C9v}(hs:sat h (cells b cs::R))(i:Nat):V9 h ⟨b,i,none⟩=cs[i]? :=by
 obtain⟨T,hs⟩:=A2k.1 hs
 simp[V9,hs.get]
theorem sat.free{b:Nat}{cs:C9v}(hs:sat h (cells b cs::R))(i:Nat):A2i h ⟨b,i,none⟩=false:=by
 obtain⟨T,hs⟩:=A2k.1 hs
 simp[A2i,hs.get]
theorem sat.fB{b:Nat}{cs:C9v}(hs:sat h (cells b cs::R)):b<h.size:=by
 obtain⟨T,hs⟩:=A2k.1 hs
 exact hs.lt
theorem sat.set{b:Nat}{cs:C9v}(hs:sat h (cells b cs::R))(i:Nat)(v:Value):sat (A2q h ⟨b,i,none⟩ v) (cells b (cs.setIfInBounds i v)::R):=by
 obtain⟨T,hs⟩:=A2k.1 hs
 refine A2k.2 ⟨T,hs.bG ?_ ?_⟩
 ·simp[A2q,O3,hs.get]
 ·intro k hk
  simp only[A2q,O3]
  rw[if_neg (fun e=>hk e.symm)]
theorem sat.bJ{T:TypeId}{cs:C9v}(hs:sat h R):sat (h.push (.cells cs T)) (cells h.size cs::R):=A2k.2 ⟨T,hs.push⟩
end
section
variable {α β:Type} {h:Heap} {Q:α→Heap→Prop} {R:List Asn}
@[simp] theorem V0 (a:α):X0 a h Q=Q a h:=rfl
@[simp] theorem U0 (m:HM β) (f:β→HM α):HM.bind m f h Q=m h (fun b h'=>f b h' Q):=rfl
@[simp] theorem U6 (b:Bool) (x y:HM α):A1s b x y h Q=if b=true then x h Q else y h Q:=rfl
@[simp] theorem C9r (x y:HM α):A0B x y h Q=(x h Q∧y h Q):=rfl
@[simp] theorem C6X (p:Prop) (m:HM α):A2w p m h Q=(p∧m h Q):=rfl
@[simp] theorem C9s:(U3:HM α) h Q=False:=rfl
@[simp] theorem C82 (a:Addr) (Q:Addr→Heap→Prop):A75 (some a) h Q=Q a h:=by simp[A75]
theorem C7b{t:Tag}{a:Addr}{x:t.ty}{Q:t.ty→Heap→Prop}(hc:V9 h a=some (t.val x))(hq:Q x h):o9 t a h Q:=⟨x,hc,hq⟩
@[simp] theorem Addr.bL (b o n:Nat):Addr.add ⟨b,o,none⟩ n=⟨b,o+n,none⟩:=by
 cases n<;>simp[Addr.add]
@[simp] theorem C8o (k:IntKind) (a:Addr) (Q:Int→Heap→Prop):o9 (.int k) a h Q=∃x,V9 h a=some (.int k x)∧Q x h:=rfl
@[simp] theorem C7z (a:Addr) (Q:Bool→Heap→Prop):o9 .bool a h Q=∃x,V9 h a=some (.bool x)∧Q x h:=rfl
@[simp] theorem C8k (a:Addr) (Q:B3O→Heap→Prop):o9 .str a h Q=∃x,V9 h a=some (.string x)∧Q x h:=rfl
@[simp] theorem C8m (a:Addr) (Q:C9u→Heap→Prop):o9 .ptr a h Q=∃x,V9 h a=some (.pointer x)∧Q x h:=rfl
@[simp] theorem C8n (a:Addr) (Q:Option Nat→Heap→Prop):o9 .map a h Q=∃x,V9 h a=some (.map x)∧Q x h:=rfl
@[simp] theorem C8p (a:Addr) (Q:Value→Heap→Prop):o9 .any a h Q=∃x,V9 h a=some x∧Q x h:=rfl
def C4H:Option Value→Option Slc
 |some (.slice p n c)=>some ⟨p,n,c⟩
 |_=>none
@[simp] theorem C60 (p:C9u) (n c:Nat):C4H (some (.slice p n c))=some ⟨p,n,c⟩:=rfl
@[simp] theorem Slc.eta (s:Slc):(⟨s.a,s.len,s.cap⟩:Slc)=s:=rfl
@[simp] theorem C8l (a:Addr) (Q:Slc→Heap→Prop):o9 .slc a h Q=∃x,C4H (V9 h a)=some x∧Q x h:=by
 refine propext ⟨fun⟨x,h1,h2⟩=>⟨x,by rw[h1];rfl,h2⟩,fun⟨x,h1,h2⟩=>⟨x,?_,h2⟩⟩
 unfold C4H at h1
 split at h1
 ·rename_i e;rw[e];cases h1;rfl
 ·cases h1
theorem W5{b:Nat}{cs:C9v}{i:Nat}{v:Value}{Q:Unit→Heap→Prop}(hs:sat h (cells b cs::R))(hi:i<cs.size)(hv:v.oneCell'=true)
  (hq:∀h',sat h' (cells b (cs.setIfInBounds i v)::R)→Q () h'):A6V ⟨b,i,none⟩ v h Q:=
 ⟨by rw[hs.cell i];simp[hi],hs.free i,hv,hq _ (hs.set i v)⟩
theorem V4{cs:C9v}{T:TypeId}{Q:Nat→Heap→Prop}(hs:sat h R)(hq:∀b h',sat h' (cells b cs::R)→Q b h'):HM.new (.cells cs T) h Q:=hq _ _ hs.bJ
theorem C6u{o:Obj}{Q:Nat→Heap→Prop}(hs:sat h R)(hq:∀b h',sat h' (blk b o::R)→Q b h'):HM.new o h Q:=hq _ _ hs.push
def Kind.un(k:Kind)(Q:k.ty→Heap→Prop)(v:Value)(h:Heap):Prop:=∃x,v=k.val x∧Q x h
def p8.un(ks:List Kind)(Q:p8 ks→Heap→Prop)(v:Value)(h:Heap):Prop:=∃x,v=.tuple (p8.cA ks x).toArray∧Q x h
@[simp] theorem C57 (P:Program) (k:Kind) (f:FuncId) (args:C9v) (Q:k.ty→Heap→Prop):A1n P k f args h Q=V2 P f args h (k.un Q):=rfl
@[simp] theorem C9t (P:Program) (ks:List Kind) (f:FuncId) (args:C9v) (Q:p8 ks→Heap→Prop):u3 P ks f args h Q=V2 P f args h (p8.un ks Q):=rfl
@[simp] theorem C9h (k:IntKind) (Q:Int→Heap→Prop) (n:Int):Kind.un (.one (.int k)) Q (.int k n) h=Q n h:=by simp[Kind.un,Kind.val,Tag.val]
@[simp] theorem C6f (Q:Bool→Heap→Prop) (b:Bool):Kind.un (.one .bool) Q (.bool b) h=Q b h:=by
 simp only[Kind.un,Kind.val,Tag.val,Value.bool.injEq]
 exact propext ⟨fun⟨x,h1,h2⟩=>h1▸h2,fun h=>⟨b,rfl,h⟩⟩
@[simp] theorem C9f (Q:B3O→Heap→Prop) (b:B3O):Kind.un (.one .str) Q (.string b) h=Q b h:=by simp[Kind.un,Kind.val,Tag.val]
@[simp] theorem C7f (Q:C9u→Heap→Prop) (b:C9u):Kind.un (.one .ptr) Q (.pointer b) h=Q b h:=by simp[Kind.un,Kind.val,Tag.val]
@[simp] theorem C9g (Q:Option Nat→Heap→Prop) (b:Option Nat):Kind.un (.one .map) Q (.map b) h=Q b h:=by simp[Kind.un,Kind.val,Tag.val]
@[simp] theorem C4x (Q:Value→Heap→Prop) (b:Value):Kind.un (.one .any) Q b h=Q b h:=by simp[Kind.un,Kind.val,Tag.val]
@[simp] theorem C0Z (Q:Slc→Heap→Prop) (a:C9u) (n c:Nat):Kind.un (.one .slc) Q (.slice a n c) h=Q ⟨a,n,c⟩ h:=by
 refine propext ⟨?_,fun hq=>⟨⟨a,n,c⟩,rfl,hq⟩⟩
 rintro⟨x,h1,h2⟩
 cases h1
 exact h2
theorem U5{β:Type}{P:Program}{k:Kind}{f:FuncId}{args:C9v}{g:k.ty→HM β}{h:Heap}{Q:β→Heap→Prop}(hc:V2 P f args h (k.un fun x h'=>g x h' Q)):(HM.bind (A1n P k f args) g) h Q:=hc
theorem u6{β:Type}{P:Program}{ks:List Kind}{f:FuncId}{args:C9v}{g:p8 ks→HM β}{h:Heap}{Q:β→Heap→Prop}(hc:V2 P f args h (p8.un ks fun x h'=>g x h' Q)):(HM.bind (u3 P ks f args) g) h Q:=hc
@[simp] theorem un2 (k l:Kind) (Q:p8 [k,l]→Heap→Prop) (v w:Value):p8.un [k,l] Q (.tuple #[v,w]) h=k.un (fun x _=>l.un (fun y h=>Q (x,y,()) h) w h) v h:=by
 refine propext ⟨?_,?_⟩
 ·rintro⟨⟨x,y,u⟩,h1,h2⟩
  have h1:#[v,w]=[k.val x,l.val y].toArray:=Value.tuple.inj h1
  have h1:=congrArg Array.toList h1
  simp at h1
  exact⟨x,h1.1,y,h1.2,h2⟩
 ·rintro⟨x,h1,y,h2,h3⟩
  exact⟨(x,y,()),by rw[h1,h2];rfl,h3⟩
@[simp] theorem un3 (k l m:Kind) (Q:p8 [k,l,m]→Heap→Prop) (v w z:Value):p8.un [k,l,m] Q (.tuple #[v,w,z]) h=k.un (fun x _=>l.un (fun y _=>m.un (fun t h=>Q (x,y,t,()) h) z h) w h) v h:=by
 refine propext ⟨?_,?_⟩
 ·rintro⟨⟨x,y,t,u⟩,h1,h2⟩
  have h1:#[v,w,z]=[k.val x,l.val y,m.val t].toArray:=Value.tuple.inj h1
  have h1:=congrArg Array.toList h1
  simp at h1
  exact⟨x,h1.1,y,h1.2.1,t,h1.2.2,h2⟩
 ·rintro⟨x,h1,y,h2,t,h3,h4⟩
  exact⟨(x,y,t,()),by rw[h1,h2,h3];rfl,h4⟩
@[simp] theorem un0 (Q:p8 []→Heap→Prop):p8.un [] Q (.tuple #[]) h=Q () h:=by
 refine propext ⟨fun⟨x,_,h2⟩=>h2,fun h=>⟨(),rfl,h⟩⟩
@[simp] theorem C9d (x:Unit):packed [] x=.tuple #[]:=rfl
@[simp] theorem C9c (k:Kind) (x:k.ty):packed [k] (x,())=k.val x:=rfl
@[simp] theorem C9b (k l:Kind) (x:k.ty) (y:l.ty):packed [k,l] (x,y,())=.tuple #[k.val x,l.val y]:=rfl
@[simp] theorem C9a (k l m:Kind) (x:k.ty) (y:l.ty) (z:m.ty):packed [k,l,m] (x,y,z,())=.tuple #[k.val x,l.val y,m.val z]:=rfl
@[simp] theorem val_one (t:Tag) (x:t.ty):Kind.val (.one t) x=t.val x:=rfl
@[simp] theorem C88 (k:IntKind) (x:Int):Tag.val (.int k) x=.int k x:=rfl
@[simp] theorem C8q (x:Bool):Tag.val .bool x=.bool x:=rfl
@[simp] theorem C84 (x:B3O):Tag.val .str x=.string x:=rfl
@[simp] theorem C86 (x:C9u):Tag.val .ptr x=.pointer x:=rfl
@[simp] theorem C87 (x:Option Nat):Tag.val .map x=.map x:=rfl
@[simp] theorem C89 (x:Value):Tag.val .any x=x:=rfl
@[simp] theorem C85 (x:Slc):Tag.val .slc x=.slice x.a x.len x.cap:=rfl
@[simp] theorem C9l {k:IntKind} {n:Int} {Q:Int→Prop}:(∃x:Int,Value.int k n=.int k x∧Q x)=Q n:=by simp
theorem C9e{σ τ:Type}{body:σ→HM (σ⊕τ)}{s:σ}{Q:τ→Heap→Prop}(I:σ→Heap→Prop)(μ:σ→Heap→Nat)(h0:I s h)(hr:∀s h,I s h→body s h fun r h'=>match r with
   |.inl s'=>I s' h'∧μ s' h'<μ s h
   |.inr t=>Q t h'):HM.loop body s h Q:=⟨I,μ,h0,hr⟩
theorem C1D{σ τ:Type}{body:σ→HM (σ⊕τ)}{s:σ}{h:Heap}{Q:τ→Heap→Prop}(I:Nat→σ→Heap→Prop){n:Nat}(h0:I n s h)
  (hr:∀n s h,I n s h→body s h fun r h'=>match r with
   |.inl s'=>∃m,m<n∧I m s' h'
   |.inr t=>Q t h')(qc:∀s h (Q1 Q2:σ⊕τ→Heap→Prop),(∀r h',Q1 r h'→Q2 r h')→body s h Q1→body s h Q2):HM.loop body s h Q:=by
 classical
 have least:∀s h,(∃n,I n s h)→∃n,I n s h∧∀m,I m s h→n≤m:=by
  intro s h ⟨n,hn⟩
  induction n using Nat.strongRecOn with
  |_ n ih=>
   by_cases hx:∃m,m<n∧I m s h
   ·obtain⟨m,hm,hi⟩:=hx;exact ih m hm hi
   ·exact⟨n,hn,fun m hm=>by
     rcases S6 m n with ah|qn
     ·exact absurd ⟨m,ah,hm⟩ hx
     ·exact qn⟩
 refine⟨fun s h=>∃n,I n s h,fun s h=>if hx:∃n,I n s h then Classical.choose (least s h hx) else 0,⟨n,h0⟩,fun s h hx=>?_⟩
 obtain⟨fw,eu⟩:=P9 (least s h hx)
 refine qc s h _ _ ?_ (hr _ s h fw)
 intro r h' hq
 cases r with
 |inr t=>exact hq
 |inl s'=>
  obtain⟨m,hm,hi⟩:=hq
  have dL:∃n,I n s' h':=⟨m,hi⟩
  refine⟨dL,?_⟩
  simp only[dif_pos hx,dif_pos dL]
  obtain⟨_,iq⟩:=P9 (least s' h' dL)
  exact Nat.lt_of_le_of_lt (iq m hi) hm
end
section
variable {K V:Type} [DecidableEq K]
def W0(l:List (K×V))(k:K):Option V:=(l.find? (fun p=>decide (p.1=k))).map (·.2)
def mset:List (K×V)→K→V→List (K×V)
 |[],k,v=>[(k,v)]
 |(a,b)::l,k,v=>if a=k then(k,v)::l else(a,b)::mset l k v
def mdel:List (K×V)→K→List (K×V)
 |[],_=>[]
 |(a,b)::l,k=>if a=k then l else(a,b)::mdel l k
@[simp] theorem B5s (k:K):W0 ([]:List (K×V)) k=none:=rfl
theorem Y5(a:K)(b:V)(l:List (K×V))(k:K):W0 ((a,b)::l) k=if a=k then some b else W0 l k:=by
 by_cases h:a=k<;>simp[W0,List.find?,h]
theorem j0(l:List (K×V))(k:K)(v:V)(k':K):W0 (mset l k v) k'=if k=k' then some v else W0 l k':=by
 induction l with
 |nil=>simp[mset,Y5]
 |cons p l ih=>
  obtain⟨a,b⟩:=p
  simp only[mset]
  by_cases h:a=k
  ·rw[if_pos h,Y5,Y5]
   by_cases h':k=k'
   ·simp[h']
   ·rw[if_neg h',if_neg h',if_neg (by rw[h];exact h')]
  ·rw[if_neg h,Y5,Y5,ih]
   by_cases h':k=k'
   ·subst h';simp[h]
   ·simp[h']
def A6b(ek:K→Value)(ev:V→Value)(l:List (K×V))(es:List MapEntry):Prop:=es.map (fun e=>(e.key,e.val))=l.map (fun p=>(ek p.1,ev p.2))
structure KeyLaw(kd:A2v)(ek:K→Value):Prop where
 same:∀a b,kd (ek a) (ek b)=some (decide (a=b))
 bits:∀a,Instr.sameBits 10000 (ek a) (ek a)=true
theorem B1o{kd:A2v}{ek:K→Value}(hk:KeyLaw kd ek){ev:V→Value}(k:K):∀(l:List (K×V)) (es:List MapEntry) (i:Nat),A6b ek ev l es→
  (W0 l k=none∧A0Z kd (ek k) es i=some none)∨∃v j e,W0 l k=some v∧A0Z kd (ek k) es i=some (some (i+j,ev v))∧es[j]? =some e∧e.key=ek k
 |[],[],i,_=>.inl ⟨rfl,rfl⟩
 |[],_::_,i,h=>by simp[A6b] at h
 |_::_,[],i,h=>by simp[A6b] at h
 |(a,b)::l,e::es,i,h=>by
  simp only[A6b,B6,List.cons.injEq,Prod.mk.injEq] at h
  obtain⟨⟨h1,h2⟩,h3⟩:=h
  simp only[A0Z,h1,hk.same,Y5]
  by_cases jJ:k=a
  ·subst jJ
   right
   exact⟨b,0,e,by simp,by simp[h2],rfl,h1⟩
  ·have jk:¬a=k:=fun hh=>jJ hh.symm
   simp only[jJ,jk,decide_false,if_false]
   rcases B1o hk k l es (i+1) h3 with⟨h4,h5⟩|⟨v,j,e',h4,h5,h6,h7⟩
   ·exact .inl ⟨h4,h5⟩
   ·exact .inr ⟨v,j+1,e',h4,by rw[h5];congr 3;omega,by simpa using h6,h7⟩
theorem C0v{ek:K→Value}(gJ:∀a b,ek a=ek b→a=b){ev:V→Value}(k:K)(x:V):∀(l:List (K×V)) (es:List MapEntry),A6b ek ev l es→∀(i:Nat) (o:Nat×Value) (kd:A2v),KeyLaw kd ek→
  A0Z kd (ek k) es i=some (some o)→A6b ek ev (mset l k x) (es.modify (o.1-i) fun e=>{e with key:=ek k,val:=ev x})∧i≤o.1
 |[],[],_,i,o,kd,_,hf=>by simp[A0Z] at hf
 |[],_::_,h,_,_,_,_,_=>by simp[A6b] at h
 |_::_,[],h,_,_,_,_,_=>by simp[A6b] at h
 |(a,b)::l,e::es,h,i,o,kd,hk,hf=>by
  simp only[A6b,B6,List.cons.injEq,Prod.mk.injEq] at h
  obtain⟨⟨h1,h2⟩,h3⟩:=h
  simp only[A0Z,h1,hk.same] at hf
  by_cases jJ:k=a
  ·subst jJ
   simp only[decide_true,F3] at hf
   subst hf
   simp only[Q0,mset,if_true]
   refine⟨?_,D6 _⟩
   simp[A6b,List.modify_zero_cons] at h3⊢
   exact h3
  ·simp only[jJ,decide_false] at hf
   obtain⟨h4,h5⟩:=C0v gJ k x l es h3 (i+1) o kd hk hf
   refine⟨?_,by omega⟩
   rw[show o.1-i=(o.1-(i+1))+1 from by omega]
   simp only[mset,if_neg (fun hh:a=k=>jJ hh.symm),List.modify_succ_cons]
   simp only[A6b,B6,h1,h2]
   rw[h4]
theorem A3F:∀(l:List (K×V)) (k:K) (v:V),W0 l k=none→mset l k v=l++[(k,v)]
 |[],_,_,_=>rfl
 |(a,b)::l,k,v,h=>by
  rw[Y5] at h
  by_cases jk:a=k
  ·rw[if_pos jk] at h;cases h
  ·rw[if_neg jk] at h
   simp only[mset,if_neg jk,G4,A3F l k v h]
theorem C0w{ek:K→Value}{ev:V→Value}(k:K):∀(l:List (K×V)) (es:List MapEntry),A6b ek ev l es→∀(i:Nat) (o:Nat×Value) (kd:A2v),KeyLaw kd ek→
  A0Z kd (ek k) es i=some (some o)→A6b ek ev (mdel l k) (es.eraseIdx (o.1-i))∧i≤o.1
 |[],[],_,i,o,kd,_,hf=>by simp[A0Z] at hf
 |[],_::_,h,_,_,_,_,_=>by simp[A6b] at h
 |_::_,[],h,_,_,_,_,_=>by simp[A6b] at h
 |(a,b)::l,e::es,h,i,o,kd,hk,hf=>by
  simp only[A6b,B6,List.cons.injEq,Prod.mk.injEq] at h
  obtain⟨⟨h1,h2⟩,h3⟩:=h
  simp only[A0Z,h1,hk.same] at hf
  by_cases jJ:k=a
  ·subst jJ
   simp only[decide_true,F3] at hf
   subst hf
   simp only[Q0,mdel,if_true]
   exact⟨h3,D6 _⟩
  ·simp only[jJ,decide_false] at hf
   obtain⟨h4,h5⟩:=C0w k l es h3 (i+1) o kd hk hf
   refine⟨?_,by omega⟩
   rw[show o.1-i=(o.1-(i+1))+1 from by omega]
   simp only[mdel,if_neg (fun hh:a=k=>jJ hh.symm),List.eraseIdx_cons_succ]
   simp only[A6b,B6,h1,h2]
   rw[h4]
theorem B7D:∀(l:List (K×V)) (k:K),W0 l k=none→mdel l k=l
 |[],_,_=>rfl
 |(a,b)::l,k,h=>by
  rw[Y5] at h
  by_cases jk:a=k
  ·rw[if_pos jk] at h;cases h
  ·rw[if_neg jk] at h
   simp only[mdel,if_neg jk,B7D l k h]
end
section
variable {K V:Type}
def mapA(ek:K→Value)(ev:V→Value)(r:Nat)(l:List (K×V)):Asn:=
 exA fun x:Array MapEntry×Nat=>star (pr (A6b ek ev l x.1.toList∧Stamped x.1 x.2)) (blk r (.map x.1 x.2))
variable {h:Heap} {R:List Asn} {ek:K→Value}
theorem A09{ev:V→Value}{r:Nat}{l:List (K×V)}:sat h (mapA ek ev r l::R)↔∃es clock,(A6b ek ev l es.toList∧Stamped es clock)∧sat h (blk r (.map es clock)::R):=by
 unfold mapA
 rw[sat.bA]
 constructor
 ·rintro⟨⟨es,c⟩,hs⟩
  rw[sat.aI,sat.bC] at hs
  exact⟨es,c,hs⟩
 ·rintro⟨es,c,hs⟩
  exact⟨(es,c),by rw[sat.aI,sat.bC];exact hs⟩
theorem A7e{ev:V→Value}{Q:Nat→Heap→Prop}(hs:sat h R)(hq:∀r h',sat h' (mapA ek ev r []::R)→Q r h'):HM.new (.map #[] 0) h Q:=
 C6u hs fun r h' af=>hq r h' (A09.2 ⟨#[],0,⟨rfl,Go.MapKept.stamped_empty 0⟩,af⟩)
theorem A85{ev:V→Value}{r:Nat}{l:List (K×V)}{Q:Int→Heap→Prop}(hs:sat h (mapA ek ev r l::R))(hq:Q (l.length:Int) h):A6U (some r) h Q:=by
 obtain⟨es,c,⟨he,bH⟩,hs⟩:=A09.1 hs
 refine⟨es.toList,c,by simpa[A8K] using hs.get,?_⟩
 have:=congrArg List.length he
 simp at this
 simpa[this] using hq
theorem sat.bN{ev:V→Value}{r:Nat}{l:List (K×V)}(hs:sat h (mapA ek ev r l::R)):(l.map (·.1)).Nodup:=by
 obtain⟨es,c,⟨he,bH⟩,hs⟩:=A09.1 hs
 have hk:=bH.2.2
 have e:es.toList.map (·.key)=(l.map (·.1)).map ek:=by
  have:=congrArg (List.map Prod.fst) he
  simpa[Q6] using this
 rw[e] at hk
 exact List.Pairwise.of_map ek (fun a b bz dp=>bz (congrArg ek dp)) hk
end
section
variable {K V:Type} [DecidableEq K] {h:Heap} {R:List Asn} {ek:K→Value}
theorem u4{kd:A2v}(hk:KeyLaw kd ek){kind:Kind}{z:kind.ty}{zero:Value}(hz:zero=kind.val z){r:Nat}{l:List (K×kind.ty)}{k:K}{Q:kind.ty×Bool→Heap→Prop}
  (hs:sat h (mapA ek kind.val r l::R))(hq:Q ((W0 l k).getD z,(W0 l k).isSome) h):HM.lookup kd zero kind (some r) (ek k) h Q:=by
 obtain⟨es,c,⟨he,bH⟩,hs⟩:=A09.1 hs
 rcases B1o hk k l es.toList 0 he with⟨h1,h2⟩|⟨v,j,e,h1,h2,-,-⟩
 ·refine⟨es.toList,c,none,z,by simpa[A8K] using hs.get,h2,hz,?_⟩
  rw[h1] at hq;exact hq
 ·refine⟨es.toList,c,some (0+j,kind.val v),v,by simpa[A8K] using hs.get,h2,rfl,?_⟩
  rw[h1] at hq;exact hq
theorem A1i(l:List (K×V))(k:K):W0 l k=none↔k∉l.map (·.1):=by
 induction l with
 |nil=>simp
 |cons p l ih=>
  obtain⟨a,b⟩:=p
  rw[Y5]
  by_cases h:a=k
  ·simp[h]
  ·rw[if_neg h,ih]
   simp[Ne.symm h]
theorem A4z{kd:A2v}(hk:KeyLaw kd ek)(gJ:∀a b,ek a=ek b→a=b){ev:V→Value}{r:Nat}{l:List (K×V)}{k:K}{x:V}{Q:Unit→Heap→Prop}
  (hs:sat h (mapA ek ev r l::R))(hq:∀h',sat h' (mapA ek ev r (mset l k x)::R)→Q () h'):A4h kd (some r) (ek k) (ev x) h Q:=by
 obtain⟨es,c,⟨he,bH⟩,hs⟩:=A09.1 hs
 have ah:=hs.lt
 rcases B1o hk k l es.toList 0 he with⟨h1,h2⟩|⟨v,j,e,h1,h2,h3,h4⟩
 ·refine⟨r,es,c,none,rfl,hs.get,h2,hq _ (A09.2 ⟨_,_,⟨?_,?_⟩,hs.bG (o':=.map (es.push {key:=ek k,val:=ev x,born:=c}) (c+1)) (by simp[ah]) (fun k hk=>?_)⟩)⟩
  ·rw[A3F l k x h1]
   simp only[A6b,Array.toList_push,B8,B6,I3]
   rw[he]
  ·refine Go.MapKept.stamped_push bH fun y hy wz=>?_
   have e:es.toList.map (·.key)=(l.map (·.1)).map ek:=by
    have:=congrArg (List.map Prod.fst) he
    simpa[Q6] using this
   have hm:ek k∈(l.map (·.1)).map ek:=by rw[←e,←wz];exact B3 hy
   obtain⟨k',gV,jh⟩:=E4.1 hm
   exact(A1i l k).1 h1 (gJ _ _ jh▸gV)
  ·rw[H3,if_neg (fun e=>hk e.symm)]
 ·have vI:es[0+j]? =some e:=by simpa using h3
  refine⟨r,es,c,some (0+j,ev v),rfl,hs.get,h2,?_,hk.bits k,hq _ (A09.2 ⟨_,_,⟨?_,?_⟩,hs.bG (o':=.map (es.modify (0+j) fun e=>{e with key:=ek k,val:=ev x}) c) (by simp[ah]) (fun k hk=>?_)⟩)⟩
  ·rw[vI];exact h4
  ·have:=(C0v gJ k x l es.toList he 0 _ kd hk h2).1
   simpa using this
  ·refine Go.MapKept.stamped_modify bH _ _ (fun _ _=>rfl) (fun e' _ jh=>?_)
   rw[vI] at jh
   cases jh
   exact h4.symm
  ·rw[H3,if_neg (fun e=>hk e.symm)]
theorem A5N{kd:A2v}(hk:KeyLaw kd ek){ev:V→Value}{r:Nat}{l:List (K×V)}{k:K}{Q:Unit→Heap→Prop}
  (hs:sat h (mapA ek ev r l::R))(hq:∀h',sat h' (mapA ek ev r (mdel l k)::R)→Q () h'):A5S kd (some r) (ek k) h Q:=by
 obtain⟨es,c,⟨he,bH⟩,hs⟩:=A09.1 hs
 have ah:=hs.lt
 rcases B1o hk k l es.toList 0 he with⟨h1,h2⟩|⟨v,j,e,h1,h2,h3,h4⟩
 ·refine⟨es,c,none,hs.get,h2,hq _ (A09.2 ⟨es,c,⟨by rw[B7D l k h1];exact he,bH⟩,hs.bG (by simp[ah]) (fun k hk=>?_)⟩)⟩
  rw[H3,if_neg (fun e=>hk e.symm)]
 ·refine⟨es,c,some (0+j,ev v),hs.get,h2,hq _ (A09.2 ⟨_,_,⟨?_,Go.MapKept.stamped_erase bH (0+j)⟩,hs.bG (o':=.map (es.eraseIdxIfInBounds (0+j)) c) (by simp[ah]) (fun k hk=>?_)⟩)⟩
  ·have:=(C0w k l es.toList he 0 _ kd hk h2).1
   have hj:j<es.size:=by
    have:=(D8.1 h3).1
    simpa using this
   simpa[Array.eraseIdxIfInBounds,hj] using this
  ·rw[H3,if_neg (fun e=>hk e.symm)]
end
theorem B8P(k:IntKind):KeyLaw (Instr.sameNow (.int k)) (fun n:Int=>Value.int k n):=⟨fun a b=>by simp[Instr.sameNow];exact Bool.eq_iff_iff.2 (by simp),fun a=>by simp[Instr.sameBits]⟩
theorem A88:KeyLaw (Instr.sameNow .string) (fun s:B3O=>Value.string s):=⟨fun a b=>by
 simp only[Instr.sameNow,F3]
 exact(beq_toListBytes a b).trans (C07 a b),fun a=>by simp[Instr.sameBits,beq_toListBytes]⟩
theorem C6y:∀a b:B3O,Value.string a=Value.string b→a=b:=fun a b h=>by cases h;rfl
theorem A9b(k:IntKind):∀a b:Int,Value.int k a=Value.int k b→a=b:=fun a b h=>by cases h;rfl
end
section
class A0c {α:Type} (m:HM α):Prop where
 mono:∀(h:Heap) (Q1 Q2:α→Heap→Prop),(∀a h',Q1 a h'→Q2 a h')→m h Q1→m h Q2
section
variable {α β σ τ:Type}
instance C8h(a:α):A0c (X0 a):=⟨fun _ _ _ hq hm=>hq _ _ hm⟩
instance A0n(m:HM α)(f:α→HM β)[A0c m][hf:∀a,A0c (f a)]:A0c (HM.bind m f):=
 ⟨fun h _ _ hq hm=>A0c.mono (m:=m) h _ _ (fun a h' hx=>(hf a).mono h' _ _ hq hx) hm⟩
instance:A0c (U3:HM α):=⟨fun _ _ _ _ hm=>hm⟩
instance C8j(x y:HM α)[hx:A0c x][hy:A0c y]:A0c (A0B x y):=⟨fun h Q Q' hq hm=>⟨hx.mono h Q Q' hq hm.1,hy.mono h Q Q' hq hm.2⟩⟩
instance A0V(b:Bool)(x y:HM α)[A0c x][A0c y]:A0c (A1s b x y):=⟨fun h _ _ hq hm=>by
 cases b
 ·exact A0c.mono (m:=y) h _ _ hq hm
 ·exact A0c.mono (m:=x) h _ _ hq hm⟩
instance A1U(p:Prop)(m:HM α)[A0c m]:A0c (A2w p m):=⟨fun h _ _ hq hm=>⟨hm.1,A0c.mono (m:=m) h _ _ hq hm.2⟩⟩
instance C8i(body:σ→HM (σ⊕τ))(s:σ)[hb:∀s,A0c (body s)]:A0c (HM.loop body s):=⟨fun _ _ _ hq=>by
 rintro⟨I,μ,h0,hr⟩
 refine⟨I,μ,h0,fun s h hi=>(hb s).mono h _ _ ?_ (hr s h hi)⟩
 intro r h' hx
 cases r with
 |inl _=>exact hx
 |inr _=>exact hq _ _ hx⟩
instance C3O(f:α→HM τ)(g:β→HM τ)(x:α⊕β)[hf:∀a,A0c (f a)][hg:∀b,A0c (g b)]:A0c (Sum.elim f g x:HM τ):=by
 cases x with
 |inl a=>exact hf a
 |inr b=>exact hg b
instance(t:Tag)(a:Addr):A0c (α:=no_index (Tag.ty t)) (o9 t a):=⟨fun _ _ _ hq ⟨x,h1,h2⟩=>⟨x,h1,hq _ _ h2⟩⟩
instance(ts:List Tag)(a:Addr):A0c (α:=no_index (Tup ts)) (o4 ts a):=⟨fun _ _ _ hq ⟨x,h1,h2⟩=>⟨x,h1,hq _ _ h2⟩⟩
instance(a:Addr)(v:Value):A0c (A6V a v):=⟨fun _ _ _ hq ⟨x,h1,h2,h3⟩=>⟨x,h1,h2,hq _ _ h3⟩⟩
instance(a:Addr)(vs:C9w):A0c (A91 a vs):=⟨fun _ _ _ hq ⟨x,h1⟩=>⟨x,hq _ _ h1⟩⟩
instance(o:Obj):A0c (HM.new o):=⟨fun _ _ _ hq hm=>hq _ _ hm⟩
instance(p:C9u):A0c (A75 p):=⟨fun _ _ _ hq ⟨x,h1,h2⟩=>⟨x,h1,hq _ _ h2⟩⟩
instance(a:C9u)(len:Nat)(i:Int)(size:Nat):A0c (A4q a len i size):=⟨fun _ _ _ hq ⟨x,h1,h2,h3,h4⟩=>⟨x,h1,h2,h3,hq _ _ h4⟩⟩
instance(s:B3O)(i:Int):A0c (A5f s i):=⟨fun _ _ _ hq ⟨x,h1,h2,h3⟩=>⟨x,h1,h2,hq _ _ h3⟩⟩
instance(P:Program)(k:Kind)(f:FuncId)(args:C9v):A0c (α:=no_index (Kind.ty k)) (A1n P k f args):=⟨fun _ _ _ hq hm=>V2.mono hm fun _ _ ⟨x,h1,h2⟩=>⟨x,h1,hq _ _ h2⟩⟩
instance(P:Program)(ks:List Kind)(f:FuncId)(args:C9v):A0c (α:=no_index (p8 ks)) (u3 P ks f args):=⟨fun _ _ _ hq hm=>V2.mono hm fun _ _ ⟨x,h1,h2⟩=>⟨x,h1,hq _ _ h2⟩⟩
instance(P:Program)(k:Kind)(v:Value)(args:C9v):A0c (α:=no_index (Kind.ty k)) (B78 P k v args):=⟨fun _ _ _ hq ⟨f,first,captured,h1,h2,hm⟩=>⟨f,first,captured,h1,h2,V2.mono hm fun _ _ ⟨x,h1,h2⟩=>⟨x,h1,hq _ _ h2⟩⟩⟩
instance(P:Program)(ks:List Kind)(v:Value)(args:C9v):A0c (α:=no_index (p8 ks)) (C3b P ks v args):=⟨fun _ _ _ hq ⟨f,first,captured,h1,h2,hm⟩=>⟨f,first,captured,h1,h2,V2.mono hm fun _ _ ⟨x,h1,h2⟩=>⟨x,h1,hq _ _ h2⟩⟩⟩
instance(s:Slc)(lo hi mx:Option Int)(size:Nat):A0c (HM.slice s lo hi mx size):=⟨fun _ _ _ hq ⟨l,hh,m,h1,h2,h3,h4⟩=>⟨l,hh,m,h1,h2,h3,hq _ _ h4⟩⟩
instance(s:B3O)(lo hi:Option Int):A0c (A4P s lo hi):=⟨fun _ _ _ hq ⟨l,hh,h1,h2,h4⟩=>⟨l,hh,h1,h2,hq _ _ h4⟩⟩
instance(elem:TypeId)(size bytes:Nat)(zero:C9v)(s:Slc)(n:Nat)(src:Heap→C9v→Prop):A0c (HM.append elem size bytes zero s n src):=⟨fun h Q1 Q2 hq hm=>by
 refine⟨fun hc=>?_,fun hc=>?_⟩
 ·obtain⟨vs,h1,h2⟩:=hm.1 hc
  refine⟨vs,h1,?_⟩
  cases hs:s.a with
  |none=>rw[hs] at h2;exact hq _ _ h2
  |some a=>rw[hs] at h2;exact⟨h2.1,hq _ _ h2.2⟩
 ·obtain⟨h1,h2,old,vs,h3,h4,h5⟩:=hm.2 hc
  exact⟨h1,h2,old,vs,h3,h4,fun c hc eu=>hq _ _ (h5 c hc eu)⟩⟩
instance(elem:TypeId)(bytes:Nat)(zero:C9v)(n c:Int):A0c (HM.makeSlice elem bytes zero n c):=⟨fun _ _ _ hq ⟨h1,h2,h3,h4,h5⟩=>⟨h1,h2,h3,h4,hq _ _ h5⟩⟩
instance(d:Slc)(n:Nat)(src:Nat→Heap→C9v→Prop):A0c (C6Y d n src):=⟨fun h Q1 Q2 hq ⟨vs,h1,h2⟩=>by
 refine⟨vs,h1,?_⟩
 cases hs:d.a with
 |none=>rw[hs] at h2;exact hq _ _ h2
 |some a=>rw[hs] at h2;exact⟨h2.1,hq _ _ h2.2⟩⟩
instance(kd:A2v)(zero:Value)(k:Kind)(r:Option Nat)(key:Value):A0c (α:=no_index (Kind.ty k×Bool)) (HM.lookup kd zero k r key):=⟨fun _ _ _ hq ⟨es,c,o,x,h1,h2,h3,h4⟩=>⟨es,c,o,x,h1,h2,h3,hq _ _ h4⟩⟩
instance(kd:A2v)(r:Option Nat)(key val:Value):A0c (A4h kd r key val):=⟨fun h Q1 Q2 hq ⟨b,es,c,o,h1,h2,h3,h4⟩=>by
 refine⟨b,es,c,o,h1,h2,h3,?_⟩
 cases o with
 |none=>exact hq _ _ h4
 |some o=>exact⟨h4.1,h4.2.1,hq _ _ h4.2.2⟩⟩
instance(kd:A2v)(r:Option Nat)(key:Value):A0c (A5S kd r key):=⟨fun h Q1 Q2 hq hm=>by
 cases r with
 |none=>exact hq _ _ hm
 |some b=>
  obtain⟨es,c,o,h1,h2,h3⟩:=hm
  refine⟨es,c,o,h1,h2,?_⟩
  cases o with
  |none=>exact hq _ _ h3
  |some o=>exact hq _ _ h3⟩
instance(zero:C9v)(s:Slc):A0c (B77 zero s):=⟨fun h Q1 Q2 hq hm=>by
 unfold B77 at hm⊢
 cases ha:s.a with
 |none=>simp only[ha] at hm⊢;exact hq _ _ hm
 |some a=>
  simp only[ha] at hm⊢
  by_cases hn:s.len=0
  ·rw[if_pos hn] at hm⊢;exact hq _ _ hm
  ·rw[if_neg hn] at hm⊢;exact⟨hm.1,hq _ _ hm.2⟩⟩
instance(r:Option Nat):A0c (C7d r):=⟨fun h Q1 Q2 hq hm=>by
 cases r with
 |none=>exact hq _ _ hm
 |some r=>obtain⟨es,c,h1,h2⟩:=hm;exact⟨es,c,h1,hq _ _ h2⟩⟩
instance(r:Option Nat):A0c (A90 r):=⟨fun h Q1 Q2 hq hm=>by
 cases r with
 |none=>exact hq _ _ hm
 |some r=>obtain⟨es,c,h1,h2⟩:=hm;exact⟨es,c,h1,hq _ _ h2⟩⟩
instance(b:Nat):A0c (C7c b):=⟨fun h Q1 Q2 hq ⟨s,p,h1,h2,h3⟩=>⟨s,p,h1,fun hp=>hq _ _ (h2 hp),fun hp=>hq _ _ (h3 hp)⟩⟩
instance(b:Nat):A0c (A74 b):=⟨fun h Q1 Q2 hq ⟨m,since,seen,last,h1,h2⟩=>⟨m,since,seen,last,h1,by
 cases m with
 |none=>exact hq _ _ h2
 |some m=>
  obtain⟨es,c,h3,h4,h5,h6⟩:=h2
  exact⟨es,c,h3,h4,fun hh=>hq _ _ (h5 hh),fun e he hs=>hq _ _ (h6 e he hs)⟩⟩⟩
instance(kk kv:Kind)(b:Nat):A0c (α:=no_index (Kind.ty kk×Kind.ty kv)) (A4y kk kv b):=⟨fun h Q1 Q2 hq ⟨m,since,seen,stepped,es,stamp,e,k,v,h1,h2,h3,h4,h5,h6,h7⟩=>⟨m,since,seen,stepped,es,stamp,e,k,v,h1,h2,h3,h4,h5,h6,hq _ _ h7⟩⟩
instance(kd:A2v)(zero:Value)(k:Kind)(r:Option Nat)(key:Value):A0c (α:=no_index (Kind.ty k×Int)) (HM.mapEntry kd zero k r key):=⟨fun h Q1 Q2 hq ⟨b,es,c,o,h1,h2,h3,h4⟩=>⟨b,es,c,o,h1,h2,h3,by
 cases o with
 |none=>obtain⟨x,h5,h6⟩:=h4;exact⟨x,h5,hq _ _ h6⟩
 |some p=>obtain⟨h7,h8,x,h5,h6⟩:=h4;exact⟨h7,h8,x,h5,hq _ _ h6⟩⟩⟩
instance(r:Option Nat)(st:Int)(v:Value):A0c (HM.entryStore r st v):=⟨fun h Q1 Q2 hq ⟨b,es,c,i,h1,h2,h3,h4⟩=>⟨b,es,c,i,h1,h2,h3,hq _ _ h4⟩⟩
instance B96(o:Option α)(a:HM β)(f:α→HM β)[ha:A0c a][hf:∀x,A0c (f x)]:A0c (A2H o a f):=⟨fun h Q1 Q2 hq hm=>by
 cases o with
 |none=>exact ha.mono _ _ _ hq hm
 |some x=>exact(hf x).mono _ _ _ hq hm⟩
instance(s:Slc):A0c (C0U s):=⟨fun _ _ _ hq ⟨ns,h1,h2⟩=>⟨ns,h1,hq _ _ h2⟩⟩
instance(r:Option Nat):A0c (A6U r):=⟨fun _ _ _ hq ⟨es,c,h1,h2⟩=>⟨es,c,h1,hq _ _ h2⟩⟩
theorem B8N{γ:Type}{body:σ→HM (σ⊕τ)}{s:σ}{h:Heap}{Q:τ→Heap→Prop}[hb:∀s,A0c (body s)](I:γ→σ→Heap→Prop)(μ:γ→Nat)(g:γ)(h0:I g s h)
  (hr:∀g s h,I g s h→body s h fun r h'=>match r with
   |.inl s'=>∃g',μ g'<μ g∧I g' s' h'
   |.inr t=>Q t h'):HM.loop body s h Q:=by
 refine C1D (fun n s h=>∃g,μ g=n∧I g s h) (n:=μ g) ⟨g,rfl,h0⟩ ?_ (fun s h _ _ hq hm=>(hb s).mono h _ _ hq hm)
 rintro n s h ⟨g,rfl,hi⟩
 refine(hb s).mono h _ _ ?_ (hr g s h hi)
 intro r h' hx
 cases r with
 |inr t=>exact hx
 |inl s'=>
  obtain⟨g',h1,h2⟩:=hx
  exact⟨_,h1,g',rfl,h2⟩
def Next{γ σ:Type}(I:γ→σ→Heap→Prop)(μ:γ→Nat)(g:γ)(s:σ)(h:Heap):Prop:=∃g',μ g'<μ g∧I g' s h
theorem Next.mk{γ σ:Type}{I:γ→σ→Heap→Prop}{μ:γ→Nat}{g:γ}{s:σ}{h:Heap}(g':γ)(h1:μ g'<μ g)(h2:I g' s h):Next I μ g s h:=⟨g',h1,h2⟩
theorem l6{γ:Type}{body:σ→HM (σ⊕τ)}{s:σ}{h:Heap}{Q:τ→Heap→Prop}[hb:∀s,A0c (body s)](I:γ→σ→Heap→Prop)(μ:γ→Nat)(g:γ)(h0:I g s h)
  (hr:∀g s h,I g s h→body s h fun r h'=>match r with
   |.inl s'=>Next I μ g s' h'
   |.inr t=>Q t h'):HM.loop body s h Q:=B8N I μ g h0 hr
end
theorem V3{α β:Type}{m:HM α}[hm:A0c m]{f:α→HM β}{h:Heap}{Q:β→Heap→Prop}(P:α→Heap→Prop)(h1:m h P)(h2:∀a h',P a h'→f a h' Q):(m.bind f) h Q:=
 hm.mono h P _ h2 h1
end
section
open Go.MapKept (Stamped)
section
variable {K V:Type}
def B6J(ek:K→Value)(ev:V→Value)(l:List (K×V))(es:List MapEntry):Prop:=es.map (fun e=>(e.key,e.val))=l.map (fun p=>(ek p.1,ev p.2))
structure ItF(ek:K→Value)(ev:V→Value)(l done todo:List (K×V))(es:Array MapEntry)(clock:Nat)(seen:Array Nat)(des tes:List MapEntry):Prop where
 dH:A6b ek ev l es.toList
 stamped:Stamped es clock
 perm:(des++tes).Perm es.toList
 seen:seen.toList=des.map (·.born)
 done:B6J ek ev done des
 todo:B6J ek ev todo tes
def itA(ek:K→Value)(ev:V→Value)(m:Nat)(l:List (K×V))(it:Nat)(done todo:List (K×V)):Asn:=
 exA fun x:Array MapEntry×Nat×Array Nat×List MapEntry×List MapEntry=>
  star (pr (ItF ek ev l done todo x.1 x.2.1 x.2.2.1 x.2.2.2.1 x.2.2.2.2)) (star (blk it (.mapIter (some m) x.2.1 x.2.2.1 x.2.1)) (blk m (.map x.1 x.2.1)))
variable {h:Heap} {R:List Asn} {ek:K→Value} {ev:V→Value} {m it:Nat} {l done todo:List (K×V)}
theorem B1K:sat h (itA ek ev m l it done todo::R)↔∃es clock seen des tes,ItF ek ev l done todo es clock seen des tes∧sat h (blk it (.mapIter (some m) clock seen clock)::blk m (.map es clock)::R):=by
 unfold itA
 rw[sat.bA]
 constructor
 ·rintro⟨⟨es,c,s,d,t⟩,hs⟩
  rw[sat.aI,sat.bC,sat.aI] at hs
  exact⟨es,c,s,d,t,hs⟩
 ·rintro⟨es,c,s,d,t,hs⟩
  exact⟨(es,c,s,d,t),by rw[sat.aI,sat.bC,sat.aI];exact hs⟩
theorem A8Y{Q:Nat→Heap→Prop}(hs:sat h (mapA ek ev m l::R))(hq:∀it h',sat h' (itA ek ev m l it [] l::R)→Q it h'):A90 (some m) h Q:=by
 obtain⟨es,c,⟨he,bH⟩,hs⟩:=A09.1 hs
 refine⟨es,c,hs.get,?_⟩
 refine hq _ _ (B1K.2 ⟨es,c,#[],[],es.toList,⟨he,bH,by simp,rfl,rfl,he⟩,?_⟩)
 exact hs.push
theorem A89(hs:sat h (itA ek ev m l it done todo::R)):sat h (mapA ek ev m l::R):=by
 obtain⟨es,c,s,d,t,hf,hs⟩:=B1K.1 hs
 exact A09.2 ⟨es,c,⟨hf.dH,hf.stamped⟩,hs.drop⟩
theorem B1z{Q:Option (Value×Value)→Heap→Prop}(hs:sat h (itA ek ev m l it done todo::R))(h0:todo=[]→Q none h)
  (h1:∀(p:K×V) (t1 t2:List (K×V)),todo=t1++p::t2→∀h',sat h' (itA ek ev m l it (done++[p]) (t1++t2)::R)→Q (some (ek p.1,ev p.2)) h'):A74 it h Q:=by
 obtain⟨es,c,seen,des,tes,hf,hs⟩:=B1K.1 hs
 have lI:∀e∈es,e.born<c:=fun e he=>hf.stamped.1 e (by simpa using he)
 have au:(es.toList.map (·.born)).Nodup:=hf.stamped.2.1
 have gI:((des++tes).map (·.born)).Nodup:=(hf.perm.map (·.born)).nodup_iff.2 au
 rw[B8,G0] at gI
 have an:∀e:MapEntry,e∈es↔e∈des∨e∈tes:=fun e=>by
  rw[←Array.mem_toList_iff,←hf.perm.mem_iff,C7]
 have lA:∀b,seen.contains b=true↔b∈des.map (·.born):=fun b=>by
  rw[←hf.seen];simp
 have sI:∀e∈es,seen.contains e.born=false→e∈tes:=fun e he hc=>by
  rcases(an e).1 he with hd|ht
  ·exact absurd ((lA e.born).2 (B3 hd)) (by rw[hc];simp)
  ·exact ht
 refine⟨some m,c,seen,c,hs.get,es,c,hs.p1.get,?_,fun cW=>?_,fun e he hc=>?_⟩
 ·by_cases hz:es.isEmpty=true
  ·simp[hz]
  ·have bz:es≠#[]:=by simpa using hz
   obtain⟨e,he⟩:∃e,e∈es:=⟨es[0]'(Array.size_pos_iff.2 bz),Array.getElem_mem _⟩
   have ah:=lI e he
   have:es.all (fun e=>decide (e.born≥c))=false:=by
    cases hh:es.all (fun e=>decide (e.born≥c)) with
    |false=>rfl
    |true=>
     rw[Array.all_eq_true_iff_forall_mem] at hh
     have:=hh e he
     simp at this
     omega
   simp[this]
 ·
  refine h0 ?_
  have:tes=[]:=by
   cases tes with
   |nil=>rfl
   |cons e t=>
    have he:e∈es:=(an e).2 (.inr (B5 ..))
    have ia:seen.contains e.born=false:=by
     cases hh:seen.contains e.born with
     |false=>rfl
     |true=>
      exact absurd rfl (gI.2.2 e.born ((lA _).1 hh) e.born (by simp))
    have:=cW e he ia
    have:=lI e he
    omega
  have ht:=hf.todo
  rw[this] at ht
  simp only[B6J,I3] at ht
  exact List.map_eq_nil_iff.1 ht.symm
 ·have ht:=sI e he hc
  obtain⟨t1,t2,rfl⟩:=G7 ht
  have uD:=hf.todo
  simp only[B6J,B8,B6] at uD
  obtain⟨l1,yc,e1,e2,e3⟩:=List.map_eq_append_iff.1 uD.symm
  obtain⟨p,l2,e4,e5,e6⟩:=List.map_eq_cons_iff.1 e3
  subst e4
  have vO:(ek p.1,ev p.2)=(e.key,e.val):=e5
  obtain⟨k1,k2⟩:=Prod.mk.inj vO
  rw[←k1,←k2]
  have ah:=hs.lt
  refine h1 p l1 l2 e1 _ (B1K.2 ⟨es,c,seen.push e.born,des++[e],t1++t2,⟨hf.dH,hf.stamped,?_,?_,?_,?_⟩,?_⟩)
  ·refine List.Perm.trans ?_ hf.perm
   rw[D4]
   refine Q3 des ?_
   show(e::(t1++t2)).Perm _
   exact P7.symm
  ·simp[hf.seen]
  ·simp only[B6J,B8,B6,I3]
   rw[hf.done,vO]
  ·simp only[B6J,B8]
   rw[e2,e6]
  ·exact hs.bG (o':=.mapIter (some m) c (seen.push e.born) c) (by simp[ah]) (fun k hk=>by rw[H3,if_neg (fun e=>hk e.symm)])
theorem A9d{kk kv:Kind}{p:K×V}{x:kk.ty}{y:kv.ty}{Q:kk.ty×kv.ty→Heap→Prop}(hk:ek p.1=kk.val x)(hv:ev p.2=kv.val y)
  (hs:sat h (itA ek ev m l it (done++[p]) todo::R))(hq:Q (x,y) h):A4y kk kv it h Q:=by
 obtain⟨es,c,seen,des,tes,hf,hs⟩:=B1K.1 hs
 have hd:=hf.done
 simp only[B6J,B8,B6,I3] at hd
 obtain⟨d1,yy,e1,e2,e3⟩:=List.map_eq_append_iff.1 hd
 obtain⟨e,d2,e4,e5,e6⟩:=List.map_eq_cons_iff.1 e3
 have:d2=[]:=List.map_eq_nil_iff.1 e6
 subst this e4 e1
 obtain⟨k1,k2⟩:=Prod.mk.inj e5
 have au:(es.toList.map (·.born)).Nodup:=hf.stamped.2.1
 have kU:e∈es.toList:=hf.perm.mem_iff.1 (by simp)
 have gK:es.find? (fun x=>x.born==e.born)=some e:=by
  rw[←Array.find?_toList]
  obtain⟨a,b,dp⟩:=G7 kU
  rw[dp]
  rw[dp,B8,B6,G0] at au
  rw[N8]
  have:a.find? (fun x=>x.born==e.born)=none:=by
   rw[E3]
   intro x hx
   have:=au.2.2 x.born (B3 hx) e.born (by simp)
   simpa using this
  rw[this]
  simp
 have bS:seen.back?=some e.born:=by
  have eK:=hf.seen
  rw[B8,B6,I3] at eK
  rw[←Array.getLast?_toList,eK]
  simp
 exact⟨m,c,seen,c,es,e.born,e,x,y,hs.get,bS,hs.p1.get,gK,k1.trans hk,k2.trans hv,hq⟩
end
@[simp] theorem B9X {α β:Type} (a:HM β) (f:α→HM β) {h:Heap} {Q:β→Heap→Prop}:A2H none a f h Q=a h Q:=rfl
@[simp] theorem B9W {α β:Type} (x:α) (a:HM β) (f:α→HM β) {h:Heap} {Q:β→Heap→Prop}:A2H (some x) a f h Q=f x h Q:=rfl
def a7{α:Type}(f:α→Asn):List α→Asn
 |[]=>pr True
 |x::l=>star (f x) (a7 f l)
section
variable {α:Type} {f:α→Asn} {h:Heap} {R:List Asn}
theorem A2u:sat h (a7 f []::R)↔sat h R:=sat.bC.trans ⟨fun hh=>hh.2,fun hh=>⟨trivial,hh⟩⟩
theorem k8{x:α}{l:List α}:sat h (a7 f (x::l)::R)↔sat h (f x::a7 f l::R):=sat.aI
theorem j2{x:α}{l2:List α}:∀{l1:List α} {R:List Asn},sat h (a7 f (l1++x::l2)::R)↔sat h (f x::a7 f (l1++l2)::R)
 |[],R=>k8
 |y::l1,R=>by
  rw[G4,G4,k8]
  constructor
  ·intro hs
   exact(k8.2 (j2.1 hs.p1).p2.p2.p1).p1
  ·intro hs
   exact(j2.2 (k8.1 hs.p1).p2.p2.p1).p1
theorem A8R{x:α}{l:List α}(hx:x∈l)(hs:sat h (a7 f l::R)):∃R',sat h (f x::R'):=by
 obtain⟨l1,l2,rfl⟩:=G7 hx
 exact⟨_,j2.1 hs⟩
end
theorem C08{L L':List Asn}(hp:L.Perm L'):∀m,A0L L m→A0L L' m:=by
 induction hp with
 |nil=>exact fun _ h=>h
 |cons x _ ih=>exact fun m h=>A0x (fun _ h=>h) ih h
 |swap x y l=>exact fun m h=>y7 h
 |trans _ _ sr sq=>exact fun m h=>sq m (sr m h)
theorem sat.perm{h:Heap}{L L':List Asn}(hp:L.Perm L')(hs:sat h L):sat h L':=
 let⟨m,h1,h2⟩:=hs
 ⟨m,h1,C08 hp m h2⟩
theorem sat.fK{h:Heap}{R:List Asn}:∀(n:Nat),sat h R→sat h (List.replicate n (pr True)++R)
 |0,hs=>hs
 |n+1,hs=>sat.bC.2 ⟨trivial,sat.fK n hs⟩
theorem sat.re{h:Heap}{L:List Asn}(hs:sat h L)(idx:List Nat)(hi:idx.isPerm (List.range idx.length)=true:=by rfl):
  sat h (idx.map (fun i=>L.getD i (pr True))++L.drop idx.length):=by
 have h1:(idx.map (fun i=>L.getD i (pr True))).Perm ((List.range idx.length).map (fun i=>L.getD i (pr True))):=(List.isPerm_iff.1 hi).map _
 refine sat.perm (h1.symm.append_right _) ?_
 generalize idx.length=n
 clear h1 hi
 by_cases hn:n≤L.length
 ·have e:(List.range n).map (fun i=>L.getD i (pr True))=L.take n:=by
   refine List.ext_getElem (by simp;omega) fun i h2 h3=>?_
   simp at h2 h3
   simp[B0 (show i<L.length by omega)]
  rw[e,J2]
  exact hs
 ·rw[L8 (by omega),C1]
  have e:(List.range n).map (fun i=>L.getD i (pr True))=L++List.replicate (n-L.length) (pr True):=by
   refine List.ext_getElem? fun i=>?_
   rw[List.getElem?_append]
   by_cases h2:i<L.length
   ·simp[h2,show i<n by omega]
   ·by_cases h3:i<n
    ·simp[h2,h3,List.getElem?_replicate,show i-L.length<n-L.length by omega,List.getElem?_eq_none (show L.length≤i by omega)]
    ·simp[h2,h3,List.getElem?_replicate]
     omega
  rw[e]
  exact(sat.fK _ hs).perm List.perm_append_comm
section
variable {K V:Type} [DecidableEq K]
theorem A42:∀{l:List (K×V)} {k:K} {v:V},W0 l k=some v→(k,v)∈l
 |[],k,v,h=>by simp at h
 |(a,b)::l,k,v,h=>by
  rw[Y5] at h
  by_cases e:a=k
  ·rw[if_pos e] at h
   cases h
   subst e
   exact B5 ..
  ·rw[if_neg e] at h
   exact C2 _ (A42 h)
theorem B1C:∀{l1 l2:List (K×V)} {k:K} {v:V},k∉l1.map (·.1)→mdel (l1++(k,v)::l2) k=l1++l2
 |[],l2,k,v,_=>by simp[mdel]
 |(a,b)::l1,l2,k,v,h=>by
  simp only[B6,D7,not_or] at h
  simp only[G4,mdel,if_neg (fun e:a=k=>h.1 e.symm),B1C h.2]
end
end
section
open Go.RowKit
theorem C5L{w w':World}{R:List Asn}(hs:x9 w w')(ho:sat w'.heap (old w.heap::R)):Below w.heap.size w w':=by
 refine⟨hs.os,hs.tape,hs.output,?_,fun k hk=>?_⟩
 ·rcases Nat.eq_zero_or_pos w.heap.size with h0|hp
  ·omega
  ·have hg:w.heap[w.heap.size-1]? =some w.heap[w.heap.size-1]:=F4 (by omega)
   have:=(F6.1 (ho.dM hg)).1
   omega
 ·rw[ho.dM (F4 hk),F4 hk]
theorem walk_of{P:Program}{f:FuncId}{args:C9v}{w:World}{v:Value}
  (hc:V2 P f args w.heap fun v' h'=>v'=v∧∃R,sat h' (old w.heap::R)):Calls P f args w fun e w'=>e=.returned v∧Below w.heap.size w w':=
 (hc w rfl).mono fun e w' ⟨_,he,hs,hv,R,ho⟩=>⟨by rw[he,hv],C5L hs ho⟩
def Z5{α:Type}(enc:α→C9w)(size:Nat)(h0:Heap)(s:Slc)(xs:List α):Prop:=
 s.len=xs.length∧s.len≤s.cap∧∀(i:Nat) x,xs[i]? =some x→∃a,s.a=some a∧∀j v,(enc x)[j]? =some v→V9 h0 ((a.add (i*size)).add j)=some v
section
variable {α β:Type} {enc:α→C9w} {size:Nat} {h0 h:Heap} {s:Slc} {xs:List α}
theorem X6(hr:Z5 enc size h0 s xs){i:Nat}{x:α}(hx:xs[i]? =some x){Q:Addr→Heap→Prop}
  (hq:∀a,(∀j v,(enc x)[j]? =some v→V9 h0 (a.add j)=some v)→Q a h):A4q s.a s.len (i:Int) size h Q:=by
 obtain⟨a,ha,hc⟩:=hr.2.2 i x hx
 have ah:=(D8.1 hx).1
 exact⟨a,ha,by omega,by have:=hr.1;omega,hq _ (by simpa using hc)⟩
theorem B2j(hr:Z5 enc size h0 s xs){n:Nat}(hn:n≤xs.length){Q:Slc→Heap→Prop}
  (hq:∀s',Z5 enc size h0 s' (xs.take n)→Q s' h):HM.slice s none (some (n:Int)) none size h Q:=by
 refine⟨0,n,s.cap,rfl,⟨rfl,by have:=hr.1;have:=hr.2.1;omega⟩,rfl,hq _ ⟨?_,?_,?_⟩⟩
 ·simp[j9];omega
 ·have:=hr.1;have:=hr.2.1;simp[j9];omega
 ·intro i x hx
  obtain⟨a,ha,hc⟩:=hr.2.2 i x (by
   rw[L7] at hx
   split at hx
   ·exact hx
   ·cases hx)
  refine⟨a,?_,hc⟩
  simp only[j9,ha]
  split
  ·rfl
  ·simp[add_zero]
end
end
section
theorem V5{n:Int}(h1: -9223372036854775808≤n)(h2:n≤9223372036854775807):IntKind.wrap .i64 n=n:=by
 simp[IntKind.wrap,IntKind.bits,IntKind.signed];omega
section
variable {h h':Heap} {A:Asn} {R:List Asn}
theorem sat.grow(hs:sat h R)(hg:∀(k:Nat) o,h[k]? =some o→h'[k]? =some o):sat h' R:=by
 obtain⟨m,h1,h2⟩:=hs
 exact⟨m,fun k o ho=>hg k o (h1 k o ho),h2⟩
theorem sat.came(hs:sat h R)(hg:∀(k:Nat) o,h[k]? =some o→h'[k]? =some o){b:Nat}{o:Obj}(hb:h.size≤b)(ho:h'[b]? =some o):sat h' (blk b o::R):=by
 obtain⟨m,h1,h2⟩:=hs
 have hm:m b=none:=by
  cases hx:m b with
  |none=>rfl
  |some x=>
   have:=(F6.1 (h1 _ _ hx)).1
   omega
 refine⟨PH.join (fun k=>if k=b then some o else none) m,B4M (fun k x hx=>?_) (fun k x hx=>hg k x (h1 k x hx)),_,m,fun k=>?_,rfl,by simp[blk],h2⟩
 ·have dL:(if k=b then some o else none)=some x:=hx
  split at dL
  ·rename_i e;subst e;cases dL;exact ho
  ·cases dL
 ·by_cases e:k=b
  ·subst e;exact .inr hm
  ·exact .inl (by simp[e])
theorem sat.eF(hs:sat h R)(hg:∀(k:Nat) o,h[k]? =some o→h'[k]? =some o){b:Nat}{cs:C9v}{T:TypeId}(hb:h.size≤b)(ho:h'[b]? =some (.cells cs T (0,0))):sat h' (cells b cs::R):=
 A2k.2 ⟨T,hs.came hg hb ho⟩
theorem B3X{P:Program}{f:FuncId}{args:C9v}{v:Value}{Q:Value→Heap→Prop}(hs:sat h R)
  (hc:∀w,w.heap=h→Calls P f args w fun e w'=>e=.returned v∧Go.RowKit.Below w.heap.size w w')(hq:∀h',sat h' R→Q v h'):V2 P f args h Q:=by
 intro w hw
 refine(hc w hw).mono ?_
 rintro e w' ⟨rfl,hb⟩
 refine⟨v,rfl,⟨hb.os,hb.tape,hb.output⟩,hq _ (hs.grow fun k o ho=>?_)⟩
 rw[hb.block k (by rw[hw];exact(F6.1 ho).1),hw]
 exact ho
end
section
variable {α:Type} {enc:α→C9w} {size:Nat} {h h0 h':Heap} {s:Slc} {xs:List α} {R:List Asn}
theorem Z5.mono(hr:Z5 enc size h0 s xs)(hc:∀a v,V9 h0 a=some v→V9 h a=some v):Z5 enc size h s xs:=
 ⟨hr.1,hr.2.1,fun i x hx=>by
  obtain⟨a,ha,hx⟩:=hr.2.2 i x hx
  exact⟨a,ha,fun j v hv=>hc _ _ (hx j v hv)⟩⟩
theorem Z5.old(hr:Z5 enc size h0 s xs)(hs:sat h (old h0::R)):Z5 enc size h s xs:=hr.mono fun _ _ hc=>hs.bX hc
end
structure C53{α:Type}(enc:α→C9w)(size:Nat)(s:Slc)(xs:List α)(b o:Nat)(cs:C9v):Prop where
 a:s.a=some ⟨b,o*size,none⟩
 le:s.len≤s.cap
 len:s.len=xs.length
 dO:(o+s.cap)*size≤cs.size
 front:(cs.toList.drop (o*size)).take (s.len*size)=xs.flatMap enc
def U4{α:Type}(enc:α→C9w)(size:Nat)(s:Slc)(xs:List α):Asn:=fun m=>
 (s.len=0∧s.cap=0∧xs=[])∨exA (fun x:Nat×Nat×C9v=>star (pr (C53 enc size s xs x.1 x.2.1 x.2.2)) (cells x.1 x.2.2)) m
section
variable {α:Type} {enc:α→C9w} {size:Nat} {h:Heap} {s:Slc} {xs:List α} {R:List Asn}
theorem A1B(hs:sat h (U4 enc size s xs::R)):(s.len=0∧s.cap=0∧xs=[]∧sat h R)∨∃b o cs,C53 enc size s xs b o cs∧sat h (cells b cs::R):=by
 obtain⟨m,h1,a,r,hd,rfl,ha,hr⟩:=id hs
 rcases ha with⟨h2,h3,h4⟩|ha
 ·exact .inl ⟨h2,h3,h4,hs.drop⟩
 ·have af:sat h (exA (fun x:Nat×Nat×C9v=>star (pr (C53 enc size s xs x.1 x.2.1 x.2.2)) (cells x.1 x.2.2))::R):=⟨_,h1,a,r,hd,rfl,ha,hr⟩
  rw[sat.bA] at af
  obtain⟨⟨b,o,cs⟩,af⟩:=af
  rw[sat.aI,sat.bC] at af
  exact .inr ⟨b,o,cs,af⟩
theorem A6z{a:C9u}(hs:sat h R):sat h (U4 enc size ⟨a,0,0⟩ []::R):=by
 obtain⟨m,h1,h2⟩:=hs
 exact⟨m,h1,fun _=>none,m,fun k=>.inl rfl,by funext k;rfl,.inl ⟨rfl,rfl,rfl⟩,h2⟩
theorem Z3(hs:sat h R):sat h (U4 enc size ⟨none,0,0⟩ []::R):=A6z hs
theorem A1A{b o:Nat}{cs:C9v}(ho:C53 enc size s xs b o cs)(hs:sat h (cells b cs::R)):sat h (U4 enc size s xs::R):=by
 have af:sat h (exA (fun x:Nat×Nat×C9v=>star (pr (C53 enc size s xs x.1 x.2.1 x.2.2)) (cells x.1 x.2.2))::R):=by
  rw[sat.bA]
  refine⟨(b,o,cs),?_⟩
  rw[sat.aI,sat.bC]
  exact⟨ho,hs⟩
 exact af.imp fun m hm=>.inr hm
theorem sat.aW(hs:sat h (U4 enc size s xs::R)):s.len=xs.length:=by
 rcases A1B hs with⟨h1,h2,rfl,-⟩|⟨b,o,cs,ho,-⟩
 ·exact h1
 ·exact ho.len
theorem sat.eB(hs:sat h (U4 enc size s xs::R)):s.len≤s.cap:=by
 rcases A1B hs with⟨h1,h2,rfl,-⟩|⟨b,o,cs,ho,-⟩
 ·omega
 ·exact ho.le
theorem B5O(ao:∀x,(enc x).length=size):∀(xs:List α) (i:Nat) (x:α),xs[i]? =some x→∀j v,(enc x)[j]? =some v→(xs.flatMap enc)[i*size+j]? =some v
 |[],i,x,hx,_,_,_=>by simp at hx
 |y::xs,0,x,hx,j,v,hv=>by
  simp only[P1,F3] at hx
  subst hx
  rw[D5,S7,K9]
  have hj:=(D8.1 hv).1
  rw[List.getElem?_append_left hj]
  exact hv
 |y::xs,i+1,x,hx,j,v,hv=>by
  rw[P2] at hx
  rw[D5,List.getElem?_append_right (by rw[ao];rw[J1];omega),ao]
  rw[show(i+1)*size+j-size=i*size+j from by rw[J1];omega]
  exact B5O ao xs i x hx j v hv
theorem v7(ao:∀x,(enc x).length=size)(xs:List α):(xs.flatMap enc).length=xs.length*size:=by
 induction xs with
 |nil=>simp
 |cons x xs ih=>rw[D5,B4,ih,ao,B7,J1];omega
theorem sat.aO(ao:∀x,(enc x).length=size)(hs:sat h (U4 enc size s xs::R)):Z5 enc size h s xs:=by
 rcases A1B hs with⟨h1,h2,rfl,-⟩|⟨b,o,cs,ho,hs⟩
 ·exact⟨h1,by omega,fun i x hx=>by simp at hx⟩
 ·refine⟨ho.len,ho.le,fun i x hx=>⟨_,ho.a,fun j v hv=>?_⟩⟩
  rw[Addr.bL,Addr.bL,hs.cell]
  have h1:=B5O ao xs i x hx j v hv
  rw[←ho.front,L7] at h1
  split at h1
  ·rw[N4] at h1
   rw[show o*size+i*size+j=o*size+(i*size+j) from by omega]
   simpa using h1
  ·cases h1
theorem B2k{lo hi:Nat}{mx:Option Int}{Q:Slc→Heap→Prop}{ol oh:Option Int}(hs:sat h (U4 enc size s xs::R))(ao:∀x,(enc x).length=size)
  (h1:lo≤hi)(h2:hi≤xs.length)(e1:A32 ol (lo=0) lo hi)(e2:A32 oh (hi=s.len) hi s.cap)
  (hq:∀s',sat h (U4 enc size s' ((xs.take hi).drop lo)::R)→Q s' h):HM.slice s ol oh none size h Q:=by
 have hl:=hs.aW
 have hc:=hs.eB
 refine⟨lo,hi,s.cap,rfl,?_,e1,hq _ ?_⟩
 ·cases oh with
  |none=>exact⟨rfl,e2⟩
  |some x=>exact e2
 rcases A1B hs with⟨g1,g2,rfl,aa⟩|⟨b,o,cs,ho,aa⟩
 ·have:hi=0:=by simpa using h2
  subst this
  have:lo=0:=by omega
  subst this
  simp only[j9,g2,if_true,List.take_nil,List.drop_nil,Q0]
  exact A6z aa
 ·by_cases hm:s.cap=lo
  ·have e0:lo=xs.length:=by omega
   simp only[j9,hm,if_true,Q0]
   rw[L8 (by simp;omega),show hi-lo=0 from by omega]
   exact A6z hs.drop
  ·refine A1A (b:=b) (o:=o+lo) (cs:=cs) ⟨?_,?_,?_,?_,?_⟩ aa
   ·simp only[j9,if_neg hm,ho.a,R5,Addr.bL,J3]
   ·simp only[j9];omega
   ·simp only[j9,R0,E1];omega
   ·simp only[j9]
    rw[show o+lo+(s.cap-lo)=o+s.cap from by omega]
    exact ho.dO
   ·simp only[j9]
    have hf:=ho.front
    have e3:((xs.take hi).drop lo).flatMap enc=((xs.flatMap enc).take (hi*size)).drop (lo*size):=by
     have key:∀(l:List α) (n:Nat),(l.flatMap enc).take (n*size)=(l.take n).flatMap enc∧(l.flatMap enc).drop (n*size)=(l.drop n).flatMap enc:=by
      intro l
      induction l with
      |nil=>intro n;simp
      |cons x l ih=>
       intro n
       cases n with
       |zero=>simp
       |succ n=>
        have hx:=ao x
        rw[D5,J1,List.take_succ_cons,List.drop_succ_cons,D5]
        refine⟨?_,?_⟩
        ·rw[List.take_append,hx,D2 (by omega),show n*size+size-size=n*size from by omega,(ih n).1]
        ·rw[List.drop_append,hx,L8 (by omega),show n*size+size-size=n*size from by omega,(ih n).2,F2]
     rw[(key xs hi).1,(key (xs.take hi) lo).2]
    rw[e3,←hf]
    rw[List.take_take,Nat.min_eq_left (Q5 _ (by omega:hi≤s.len)),List.drop_take,List.drop_drop,J3,←Nat.sub_mul]
theorem sat.setCells{b:Nat}:∀(vs:C9w) (cs:C9v) (o i:Nat) {h:Heap} {R:List Asn},sat h (cells b cs::R)→o+i+vs.length≤cs.size→
  ∃cs':C9v,cs'.size=cs.size∧cs'.toList=cs.toList.take (o+i)++vs++cs.toList.drop (o+i+vs.length)∧sat (A2e h ⟨b,o,none⟩ vs i) (cells b cs'::R)
 |[],cs,o,i,h,R,hs,hl=>⟨cs,rfl,by simp,hs⟩
 |v::vs,cs,o,i,h,R,hs,hl=>by
  simp only[B7] at hl
  have h1:=hs.set (o+i) v
  obtain⟨cs',e1,e2,h2⟩:=sat.setCells vs (cs.setIfInBounds (o+i) v) o (i+1) h1 (by simp;omega)
  refine⟨cs',by simpa using e1,?_,by simpa[A2e] using h2⟩
  rw[e2,P5]
  have hlen:o+i<cs.toList.length:=by simp;omega
  rw[show o+(i+1)=(o+i)+1 from by omega,C3 (by simpa using hlen)]
  rw[List.getElem_set_self,List.take_set_of_le (D6 _),List.drop_set_of_lt (by omega)]
  simp only[B7,D4,G4,F2]
  rw[show o+i+1+vs.length=o+i+(vs.length+1) from by omega]
theorem A3k{b:Nat}{cs:C9v}{o:Nat}{vs:C9w}(hs:sat h (cells b cs::R))(hl:o+vs.length≤cs.size)(hv:∀v∈vs,v.oneCell'=true):
  ∀(i:Nat) v,vs[i]? =some v→(V9 h (Addr.add ⟨b,o,none⟩ i)).isSome=true∧A2i h (Addr.add ⟨b,o,none⟩ i)=false∧v.oneCell'=true:=by
 intro i v hi
 have ah:=(D8.1 hi).1
 rw[Addr.bL]
 refine⟨?_,hs.free _,hv v (F1 hi)⟩
 rw[hs.cell]
 simp
 omega
theorem z8(ao:∀x,(enc x).length=size)(dm:∀x,∀v∈enc x,v.oneCell'=true){elem:TypeId}{bytes n:Nat}{zero:C9v}(hz:zero.size=size){src:Heap→C9v→Prop}{ys:List α}{Q:Slc→Heap→Prop}
  (hs:sat h (U4 enc size s xs::R))(hn:ys.length=n)(gd:src h (ys.flatMap enc).toArray)(hsz:0<size)(gM:0<bytes)(hb:(xs.length+n)*bytes≤140737488355328)
  (hq:∀s' h',sat h' (U4 enc size s' (xs++ys)::R)→Q s' h'):HM.append elem size bytes zero s n src h Q:=by
 have hl:=hs.aW
 have iS:xs.length+n≤140737488355328:=C4 (Nat.le_mul_of_pos_right _ gM) hb
 constructor
 ·intro hc
  refine⟨_,gd,?_⟩
  rcases A1B hs with⟨g1,g2,rfl,aa⟩|⟨b,o,cs,ho,hs⟩
  ·have h0:n=0:=by omega
   subst h0
   have hy:ys=[]:=List.eq_nil_of_length_eq_zero hn
   subst hy
   obtain⟨sa,sl,sc⟩:=s
   simp only at g1 g2
   subst g1 g2
   cases sa with
   |none=>exact hq _ _ (A6z aa)
   |some a=>exact⟨fun i v hv=>by simp at hv,hq _ _ (A6z aa)⟩
  ·rw[ho.a]
   simp only[Addr.bL]
   have hlen:(o*size+s.len*size)+(ys.flatMap enc).length≤cs.size:=by
    refine C4 ?_ ho.dO
    rw[v7 ao,hn,←J3,←J3]
    exact Q5 _ (by omega)
   refine⟨?_,?_⟩
   ·have:=A3k (o:=o*size+s.len*size) (vs:=ys.flatMap enc) hs hlen (fun v hv=>by
     obtain⟨x,_,hx⟩:=S4.1 hv
     exact dm x v hx)
    simpa using this
   ·obtain⟨cs',e1,e2,af⟩:=sat.setCells (ys.flatMap enc) cs (o*size+s.len*size) 0 hs (by simpa using hlen)
    refine hq _ _ (A1A (b:=b) (o:=o) (cs:=cs') ⟨rfl,hc,by simp[ho.len,hn],by rw[e1];exact ho.dO,?_⟩ (by simpa using af))
    rw[e2]
    simp only[O4]
    have ba:cs.toList.length=cs.size:=by simp
    have d1:((cs.toList.take (o*size+s.len*size)++ys.flatMap enc++cs.toList.drop (o*size+s.len*size+(ys.flatMap enc).length)).drop (o*size))=
      xs.flatMap enc++ys.flatMap enc++cs.toList.drop (o*size+s.len*size+(ys.flatMap enc).length):=by
     rw[D4,O9 (by rw[E1,ba];omega),List.drop_take,show o*size+s.len*size-o*size=s.len*size from by omega,ho.front,D4]
    rw[d1,I5]
    have e3:(s.len+n)*size=(xs.flatMap enc++ys.flatMap enc).length:=by
     rw[B4,v7 ao,v7 ao,J3,ho.len,hn]
    rw[e3,List.take_left']
    rfl
 ·intro hc
  refine⟨by omega,growslice_fits hc (by rw[hl];exact hb),?_⟩
  have gH:∀old:C9v,old.toList=xs.flatMap enc→∀c,s.len+n≤c→∀R',sat h R'→
    sat (h.push (.cells (old++(ys.flatMap enc).toArray++Builtin.zeroCells zero (c-(s.len+n))) elem)) (U4 enc size ⟨some ⟨h.size,0,none⟩,s.len+n,c⟩ (xs++ys)::R'):=by
   intro old hold c fh R' xD
   have ho:old.size=s.len*size:=by
    have:=congrArg List.length hold
    rw[v7 ao] at this
    simpa[hl] using this
   refine A1A (o:=0) ⟨by simp,fh,by simp[hl,hn],S8 ?_,?_⟩ xD.bJ
   ·simp only[K9,Array.size_append,ho,Builtin.zeroCells,Array.size_map,Array.size_range,hz,List.size_toArray,v7 ao,hn]
    rw[←J3,←J3]
    congr 1
    omega
   ·simp only[Array.toList_append,hold,I5,S7,R9]
    rw[P0 (by simp only[B4,v7 ao];rw[hl,J3,hn];exact D6 _)]
    rw[D2]
    simp only[B4,v7 ao]
    rw[hl,J3,hn]
    exact D6 _
  rcases A1B hs with⟨g1,g2,rfl,aa⟩|⟨b,o,cs,ho,hs⟩
  ·refine⟨#[],_,?_,gd,fun c fh _=>hq _ _ (gH #[] rfl c fh R aa)⟩
   rw[g1,S7]
   cases s.a with
   |none=>rfl
   |some a=>exact⟨rfl,fun i v hv=>by simp at hv⟩
  ·refine⟨(xs.flatMap enc).toArray,_,?_,gd,fun c fh _=>hq _ _ (gH _ (by simp) c fh R hs.drop)⟩
   simp only[A5X,ho.a]
   refine⟨by simp[v7 ao,ho.len],fun i v hi=>?_⟩
   rw[Addr.bL,hs.cell]
   have h1:(xs.flatMap enc)[i]? =some v:=by simpa using hi
   rw[←ho.front,L7] at h1
   split at h1
   ·rw[N4] at h1
    simpa using h1
   ·cases h1
theorem sat.reads{b:Nat}{cs:C9v}{n:Nat}(hs:sat h (cells b cs::R))(hn:cs.size=n):A5X h (some ⟨b,0,none⟩) n cs:=
 ⟨hn,fun i v hi=>by rw[Addr.bL,hs.cell,K9];exact hi⟩
theorem A00(ao:∀x,(enc x).length=size)(dm:∀x,∀v∈enc x,v.oneCell'=true){elem T:TypeId}{bytes:Nat}{zero:C9v}(hz:zero.size=size){x:α}{Q:Slc→Heap→Prop}
  (hs:sat h (U4 enc size s xs::R))(hsz:0<size)(gM:0<bytes)(hb:(xs.length+1)*bytes≤140737488355328)
  (hq:∀s' h',sat h' (U4 enc size s' (xs++[x])::R)→Q s' h'):HM.new (.cells (enc x).toArray T) h fun b h'=>HM.append elem size bytes zero s 1 (V6 size ⟨some ⟨b,0,none⟩,1,1⟩) h' Q:=by
 refine V4 hs fun b h1 aa=>?_
 refine z8 ao dm hz (ys:=[x]) aa.p1 rfl ?_ hsz gM hb fun s' h2 ae=>hq s' h2 ae.p1.drop
 simp only[V6,M9,D5,H8,C1]
 exact aa.reads (by simp[ao])
theorem A0j{ts:List Tag}{a:Addr}(x:Tup ts){Q:Tup ts→Heap→Prop}(hc:∀i v,(Tup.cA ts x)[i]? =some v→V9 h (a.add i)=some v)(hq:Q x h):o4 ts a h Q:=⟨x,hc,hq⟩
theorem U2(b i:Nat):(⟨b,0,none⟩:Addr).add i=⟨b,i,none⟩:=by
 cases i with
 |zero=>rfl
 |succ i=>simp[Addr.add]
theorem Y4{b:Nat}{cs:C9v}{ts:List Tag}(x:Tup ts){Q:Tup ts→Heap→Prop}(hs:sat h (cells b cs::R))(he:cs=(Tup.cA ts x).toArray)(hq:Q x h):o4 ts ⟨b,0,none⟩ h Q:=by
 refine⟨x,fun i v hv=>?_,hq⟩
 have:=hs.cell i
 rw[he] at this
 have e:(⟨b,0,none⟩:Addr).add i=⟨b,i,none⟩:=by
  cases i with
  |zero=>rfl
  |succ i=>simp[Addr.add]
 rw[e,this]
 simpa using hv
theorem B4N{b:Nat}{cs:C9v}{vs:C9w}{Q:Unit→Heap→Prop}(hs:sat h (cells b cs::R))(hl:vs.length=cs.size)(hv:∀v∈vs,v.oneCell'=true)
  (hq:∀h',sat h' (cells b vs.toArray::R)→Q () h'):A91 ⟨b,0,none⟩ vs h Q:=by
 refine⟨A3k (o:=0) hs (by omega) hv,?_⟩
 obtain⟨cs',e1,e2,af⟩:=sat.setCells vs cs 0 0 hs (by omega)
 have e3:cs'=vs.toArray:=by
  apply I2.1
  rw[e2]
  simp only[O4,K9,List.take_zero,F2]
  rw[L8 (by simp;omega)]
  simp
 subst e3
 exact hq _ af
theorem l0{b:Nat}{cs:C9v}{vs:C9w}{Q:Unit→Heap→Prop}(hs:sat h (cells b cs::R))(hl:vs.length=cs.size)(hv:vs.all (fun v=>v.oneCell')=true)
  (hq:∀h',sat h' (cells b vs.toArray::R)→Q () h'):A91 ⟨b,0,none⟩ vs h Q:=
 B4N hs hl (I8.1 hv) hq
end
end
end Go.H
namespace Go.R
open Go.H
theorem C2U{α:Type}{p:Nat→α→Prop}:∀(n:Nat),(∀i,i<n→∃x,p i x)→∃xs:List α,xs.length=n∧∀(i:Nat) x,xs[i]? =some x→p i x
 |0,_=>⟨[],rfl,fun i x hx=>by simp at hx⟩
 |n+1,hp=>by
  obtain⟨xs,h1,h2⟩:=C2U n (fun i hi=>hp i (by omega))
  obtain⟨x,hx⟩:=hp n (by omega)
  refine⟨xs++[x],by simp[h1],fun i y hy=>?_⟩
  rw[List.getElem?_append] at hy
  split at hy
  ·exact h2 i y hy
  ·rename_i hi
   have h3:=(D8.1 hy).1
   simp only[B7,G8] at h3
   have dY:i=n:=by omega
   subst dY
   rw[h1,Q0] at hy
   cases hy
   exact hx
structure OkLaw{H:Type}(P:Program)(ok:TypeId→DataW H→Prop)(top:Nat)(wt:TypeId→Nat):Prop where
 str:∀{t:TypeId} {bs:List UInt8},ok t (.lit (.string bs))→bs.length≤top
 elem:∀{t e:TypeId} {elems rest:List (DataW H)} {d:DataW H},P.underlying t=some (.slice e)→ok t (.slice elems rest)→d∈elems→ok e d
 eT:∀{t e:TypeId} {elems rest:List (DataW H)},P.underlying t=some (.slice e)→ok t (.slice elems rest)→elems.length*wt e≤top
 field:∀{t:TypeId} {fs:Array Field} {parts:List (DataW H)} {j:Nat} {f:Field} {d:DataW H},P.underlying t=some (.struct fs)→ok t (.agg parts)→fs[j]? =some f→parts[j]? =some d→ok f.type d
 arr:∀{t e:TypeId} {n:Nat} {parts:List (DataW H)} {d:DataW H},P.underlying t=some (.array n e)→ok t (.agg parts)→d∈parts→ok e d
theorem okWide_agg{P:Program}{w:World}{t:TypeId}{fs:Array Field}{r:Reach}{b0:Nat}{v:Value}(ht:P.underlying t=some (.struct fs))(h:Value.okWide P w r b0 t v):∃cs,v=.agg cs:=by
 simp only[Value.okWide,ht] at h
 obtain⟨cs,h1,_⟩:=h
 exact⟨cs,h1⟩
structure GoodG{α:Type}(enc:α→C9w)(size wt top:Nat)(h:Heap)(bQ:α→Prop)(x:Slc×List α):Prop where
 row:Z5 enc size h x.1 x.2
 bQ:∀y∈x.2,bQ y
 cap:x.1.cap≤maxLen
 reach:x.2.length*wt≤top
section
variable {H:Type} (ec:TypeId×Value→H) (P:Program) (w:World) (base:Nat) (sp:Nat→Bool) (held:Bool) (ok:TypeId→DataW H→Prop)
def RdG{α:Type}(t:TypeId)(enc:α→C9w)(bQ:α→Prop):Prop:=
 ∀fuel cs y,DataW.trod ec P w base sp held fuel t cs=some y→ok t y.1→∃x,cs=enc x∧bQ x
def RdF{α:Type}(fs:List Field)(o n:Nat)(enc:α→C9w)(bQ:α→Prop):Prop:=
 ∀fuel (cs:C9w) (xs:List (DataW H×List MemPlace)),cs.length=n→xs.length=fs.length→
  (∀(j:Nat) f,fs[j]? =some f→DataW.trod ec P w base sp held fuel f.type ((cs.drop f.offset).take (P.cellsOf f.type))=xs[j]?)→
  (∀(j:Nat) f d,fs[j]? =some f→xs[j]? =some d→ok f.type d.1)→∃x,cs.drop o=enc x∧bQ x
end
section
variable {H:Type} {ec:TypeId×Value→H} {P:Program} {w:World} {base:Nat} {sp:Nat→Bool} {held:Bool} {ok:TypeId→DataW H→Prop} {top:Nat} {wt:TypeId→Nat}
theorem rg_map{α β:Type}{t:TypeId}{enc:α→C9w}{bQ:α→Prop}{enc':β→C9w}{good':β→Prop}(f:α→β)
  (h:RdG ec P w base sp held ok t enc bQ)(he:∀x,enc x=enc' (f x))(hg:∀x,bQ x→good' (f x)):RdG ec P w base sp held ok t enc' good':=fun fuel cs y hy hw=>by
 obtain⟨x,h1,h2⟩:=h fuel cs y hy hw
 exact⟨f x,h1.trans (he x),hg x h2⟩
theorem rg_int{t:TypeId}{k:IntKind}(ht:P.underlying t=some (.int k)):RdG ec P w base sp held ok t (fun x:Int=>[.int k x]) (fun x=>(Lit.int k x).wf=true):=fun _ _ _ h _=>by
 obtain⟨n,h1,_,h2⟩:=DataW.trod_int ht h
 exact⟨n,h1,h2⟩
theorem rg_bool{t:TypeId}(ht:P.underlying t=some .bool):RdG ec P w base sp held ok t (fun x:Bool=>[.bool x]) (fun _=>True):=fun _ _ _ h _=>by
 obtain⟨n,h1,_⟩:=DataW.trod_bool ht h
 exact⟨n,h1,trivial⟩
theorem rg_str(hk:OkLaw P ok top wt){t:TypeId}(ht:P.underlying t=some .string):RdG ec P w base sp held ok t (fun x:B3O=>[.string x]) (fun x=>x.size≤top):=fun _ _ _ h hw=>by
 obtain⟨n,h1,rfl,h2⟩:=DataW.trod_string ht h
 refine⟨n,h1,?_⟩
 have:=hk.str hw
 rwa[N0] at this
theorem rg_slice(hk:OkLaw P ok top wt){α:Type}{t e:TypeId}{enc:α→C9w}{bQ:α→Prop}(ht:P.underlying t=some (.slice e)){size k:Nat}(hc:P.cellsOf e=size)(hb:wt e=k)(he:RdG ec P w base sp held ok e enc bQ):
  RdG ec P w base sp held ok t (fun x:Slc×List α=>[.slice x.1.a x.1.len x.1.cap]) (GoodG enc size k top w.heap bQ):=fun fuel cs y h hw=>by
 subst hc hb
 rcases DataW.trod_slice ht h with⟨rfl,_⟩|⟨a,len,cap,elems,rest,n,_,rfl,rfl,_,hl,hm,hlen,qw,_,_⟩
 ·exact⟨(⟨none,0,0⟩,[]),rfl,⟨rfl,D6 _,fun i x hx=>by simp at hx⟩,fun y hy=>by simp at hy,C9 _,by simp⟩
 ·have iZ:∀i (hi:i<elems.length),ok e (elems[i]'hi).1:=fun i hi=>hk.elem ht hw (B3 (H2 hi))
  have uB:=hk.eT ht hw
  have h1:∀i,i<len→∃x,bQ x∧∀j v,(enc x)[j]? =some v→V9 w.heap ((a.add (i*P.cellsOf e)).add j)=some v:=by
   intro i hi
   have h2:=qw i hi
   rw[B0 (by omega),Option.bind_eq_some_iff] at h2
   obtain⟨cs',h3,h4⟩:=h2
   obtain⟨x,rfl,hg⟩:=he _ _ _ h4 (iZ i (by omega))
   obtain⟨_,h5,h6⟩:=World.cells?_some h3
   refine⟨x,hg,fun j v hv=>?_⟩
   rw[←B9h,h6 j (by rw[←h5];exact(D8.1 hv).1)]
   exact hv
  obtain⟨xs,h2,h3⟩:=C2U len h1
  refine⟨(⟨some a,len,cap⟩,xs),rfl,⟨h2.symm,hl,fun i x hx=>⟨a,rfl,(h3 i x hx).2⟩⟩,fun y hy=>?_,hm,?_⟩
  ·obtain⟨i,hi⟩:=List.getElem?_of_mem hy
   exact(h3 i y hi).1
  ·simp only
   rw[B9] at uB
   rw[h2,←hlen]
   exact uB
theorem rf_cons{α β:Type}{f:Field}{fs:List Field}{o n:Nat}{c:Nat}{e0:α→C9w}{g0:α→Prop}{e1:β→C9w}{g1:β→Prop}(hc:P.cellsOf f.type=c)(ho:f.offset=o)
  (h0:RdG ec P w base sp held ok f.type e0 g0)(h1:RdF ec P w base sp held ok fs (o+c) n e1 g1):RdF ec P w base sp held ok (f::fs) o n (fun x:α×β=>e0 x.1++e1 x.2) (fun x=>g0 x.1∧g1 x.2):=fun fuel cs xs hl hx hf ag=>by
 subst hc ho
 cases xs with
 |nil=>simp at hx
 |cons y xs=>
  obtain⟨x0,c0,k0⟩:=h0 fuel _ y (hf 0 f rfl) (ag 0 f y rfl rfl)
  obtain⟨x1,c1,k1⟩:=h1 fuel cs xs hl (by simpa using hx) (fun j f' hj=>by have:=hf (j+1) f' (by simpa using hj);simpa using this) (fun j f' d hj hd=>ag (j+1) f' d (by simpa using hj) (by simpa using hd))
  refine⟨(x0,x1),?_,k0,k1⟩
  simp only[←c0,←c1]
  rw[←List.drop_drop,J2]
theorem rf_one{α:Type}{f:Field}{o n:Nat}{c:Nat}{e0:α→C9w}{g0:α→Prop}(hc:P.cellsOf f.type=c)(ho:f.offset=o)(hn:n≤o+c)
  (h0:RdG ec P w base sp held ok f.type e0 g0):RdF ec P w base sp held ok [f] o n e0 g0:=fun fuel cs xs hl hx hf ag=>by
 subst hc ho
 cases xs with
 |nil=>simp at hx
 |cons y xs=>
  obtain⟨x0,c0,k0⟩:=h0 fuel _ y (hf 0 f rfl) (ag 0 f y rfl rfl)
  refine⟨x0,?_,k0⟩
  rw[←c0,D2 (by rw[R0];omega)]
theorem rg_struct(hk:OkLaw P ok top wt){α:Type}{t:TypeId}{fs:Array Field}{n:Nat}{enc:α→C9w}{bQ:α→Prop}(ht:P.underlying t=some (.struct fs))(hn:P.cellsOf t=n)(h:RdF ec P w base sp held ok fs.toList 0 n enc bQ):
  RdG ec P w base sp held ok t enc bQ:=fun fuel cs y hy hw=>by
 obtain⟨xs,m,_,rfl,hl,hx,hf⟩:=DataW.trod_struct ht hy
 obtain⟨x,h1,h2⟩:=h m cs xs (hl.trans hn) (by simpa using hx) (fun j f hj=>hf j f (by simpa using hj)) (fun j f d hj hd=>hk.field ht hw (by simpa using hj) (by rw[K6,hd];rfl))
 exact⟨x,by simpa using h1,h2⟩
end
end Go.R
namespace Go.Proofs
open Go.H
variable {H:Type} {enc:TypeId×Value→H}
end Go.Proofs
namespace Go.Proofs.YtidlldnlphdhcaaGreatDoor
open Go.H
open Go.Proofs.Tryz
open Go.H Go.Proofs
theorem C69{P:Program}{C:List Nat}{n:Nat}{live lc:List Nat}{f:FuncId}{fn:Func}{ks:List Kind}{args:C9w}{h:Heap}{Q:Value→Heap→Prop}{m:HM (p8 ks)}(hf:P.funcs[f]? =some fn)(hb:fn.body.isSome=true)(hn:fn.ntmps=n)(hlen:Nat.ble args.length n=true)
  (hC:∀f,f∈C→A1t P f)(hm:P.follows .mixedOrders=true)(he:C5E P C n live lc fn.results.toList ks (B6t fn) args=m)(hd:m h fun x h'=>Q (packed ks x) h'):V2 P f args.toArray h Q:=
 B13 hf hb hn hlen hC hm (he▸hd)
theorem C7w:prog.follows .mixedOrders=true:=by kernel_rfl
def HCs{α:Type}(f:Nat)(args:C9v)(m:HM α)(k:α→Value):Prop:=∀(h:Heap) (Q:Value→Heap→Prop),(m h fun x h'=>Q (k x) h')→V2 prog f args h Q
theorem cE{C:List Nat}{n:Nat}{f:FuncId}{fn:Func}{args:C9w}(ks:List Kind){m:HM (p8 ks)}(live lc:List Nat)(hf:prog.funcs[f]? =some fn)(hn:fn.ntmps=n)(hC:∀f,f∈C→A1t prog f)(he:C5E prog C n live lc fn.results.toList ks (B6t fn) args=m:=by kernel_rfl)(hb:fn.body.isSome=true:=by kernel_rfl)(hlen:Nat.ble args.length n=true:=by kernel_rfl):HCs f args.toArray m (packed ks):=fun h Q hd=>B13 hf hb hn hlen hC C7w (he▸hd)
theorem CN{P:Program}:∀f,f∈([]:List Nat)→A1t P f:=fun f hf=>by cases hf
theorem CC{P:Program}{a:Nat}{l:List Nat}(h:A1t P a)(hl:∀f,f∈l→A1t P f):∀f,f∈a::l→A1t P f:=fun f hf=>by
 rcases D7.1 hf with rfl|hf
 ·exact h
 ·exact hl f hf
abbrev tS0:List Tag:=[.int .i64,.int .i64,.int .i64,.bool,.bool,.int .i64,.int .i64,.str,.str,.int .u8,.slc,.slc,.str,.bool,.int .i64,.bool,.str,.str,.int .i64,.bool,.slc,.bool,.bool,.str,.str,.bool,.slc,.slc,.bool,.str,.str,.int .i64,.bool,.str]
abbrev yS0:Type:=Int×Int×Int×Bool×Bool×Int×Int×B3O×B3O×Int×Slc×Slc×B3O×Bool×Int×Bool×B3O×B3O×Int×Bool×Slc×Bool×Bool×B3O×B3O×Bool×Slc×Slc×Bool×B3O×B3O×Int×Bool×B3O×Unit
abbrev aS0(x:yS0):C9v:=#[.int .i64 x.1,.int .i64 x.2.1,.int .i64 x.2.2.1,.bool x.2.2.2.1,.bool x.2.2.2.2.1,.int .i64 x.2.2.2.2.2.1,.int .i64 x.2.2.2.2.2.2.1,.string x.2.2.2.2.2.2.2.1,.string x.2.2.2.2.2.2.2.2.1,.int .u8 x.2.2.2.2.2.2.2.2.2.1,.slice x.2.2.2.2.2.2.2.2.2.2.1.a x.2.2.2.2.2.2.2.2.2.2.1.len x.2.2.2.2.2.2.2.2.2.2.1.cap,.slice x.2.2.2.2.2.2.2.2.2.2.2.1.a x.2.2.2.2.2.2.2.2.2.2.2.1.len x.2.2.2.2.2.2.2.2.2.2.2.1.cap,.string x.2.2.2.2.2.2.2.2.2.2.2.2.1,.bool x.2.2.2.2.2.2.2.2.2.2.2.2.2.1,.int .i64 x.2.2.2.2.2.2.2.2.2.2.2.2.2.2.1,.bool x.2.2.2.2.2.2.2.2.2.2.2.2.2.2.2.1,.string x.2.2.2.2.2.2.2.2.2.2.2.2.2.2.2.2.1,.string x.2.2.2.2.2.2.2.2.2.2.2.2.2.2.2.2.2.1,.int .i64 x.2.2.2.2.2.2.2.2.2.2.2.2.2.2.2.2.2.2.1,.bool x.2.2.2.2.2.2.2.2.2.2.2.2.2.2.2.2.2.2.2.1,.slice x.2.2.2.2.2.2.2.2.2.2.2.2.2.2.2.2.2.2.2.2.1.a x.2.2.2.2.2.2.2.2.2.2.2.2.2.2.2.2.2.2.2.2.1.len x.2.2.2.2.2.2.2.2.2.2.2.2.2.2.2.2.2.2.2.2.1.cap,.bool x.2.2.2.2.2.2.2.2.2.2.2.2.2.2.2.2.2.2.2.2.2.1,.bool x.2.2.2.2.2.2.2.2.2.2.2.2.2.2.2.2.2.2.2.2.2.2.1,.string x.2.2.2.2.2.2.2.2.2.2.2.2.2.2.2.2.2.2.2.2.2.2.2.1,.string x.2.2.2.2.2.2.2.2.2.2.2.2.2.2.2.2.2.2.2.2.2.2.2.2.1,.bool x.2.2.2.2.2.2.2.2.2.2.2.2.2.2.2.2.2.2.2.2.2.2.2.2.2.1,.slice x.2.2.2.2.2.2.2.2.2.2.2.2.2.2.2.2.2.2.2.2.2.2.2.2.2.2.1.a x.2.2.2.2.2.2.2.2.2.2.2.2.2.2.2.2.2.2.2.2.2.2.2.2.2.2.1.len x.2.2.2.2.2.2.2.2.2.2.2.2.2.2.2.2.2.2.2.2.2.2.2.2.2.2.1.cap,.slice x.2.2.2.2.2.2.2.2.2.2.2.2.2.2.2.2.2.2.2.2.2.2.2.2.2.2.2.1.a x.2.2.2.2.2.2.2.2.2.2.2.2.2.2.2.2.2.2.2.2.2.2.2.2.2.2.2.1.len x.2.2.2.2.2.2.2.2.2.2.2.2.2.2.2.2.2.2.2.2.2.2.2.2.2.2.2.1.cap,.bool x.2.2.2.2.2.2.2.2.2.2.2.2.2.2.2.2.2.2.2.2.2.2.2.2.2.2.2.2.1,.string x.2.2.2.2.2.2.2.2.2.2.2.2.2.2.2.2.2.2.2.2.2.2.2.2.2.2.2.2.2.1,.string x.2.2.2.2.2.2.2.2.2.2.2.2.2.2.2.2.2.2.2.2.2.2.2.2.2.2.2.2.2.2.1,.int .i64 x.2.2.2.2.2.2.2.2.2.2.2.2.2.2.2.2.2.2.2.2.2.2.2.2.2.2.2.2.2.2.2.1,.bool x.2.2.2.2.2.2.2.2.2.2.2.2.2.2.2.2.2.2.2.2.2.2.2.2.2.2.2.2.2.2.2.2.1,.string x.2.2.2.2.2.2.2.2.2.2.2.2.2.2.2.2.2.2.2.2.2.2.2.2.2.2.2.2.2.2.2.2.2.1]
abbrev lS0(x:yS0):C9w:=[.int .i64 x.1,.int .i64 x.2.1,.int .i64 x.2.2.1,.bool x.2.2.2.1,.bool x.2.2.2.2.1,.int .i64 x.2.2.2.2.2.1,.int .i64 x.2.2.2.2.2.2.1,.string x.2.2.2.2.2.2.2.1,.string x.2.2.2.2.2.2.2.2.1,.int .u8 x.2.2.2.2.2.2.2.2.2.1,.slice x.2.2.2.2.2.2.2.2.2.2.1.a x.2.2.2.2.2.2.2.2.2.2.1.len x.2.2.2.2.2.2.2.2.2.2.1.cap,.slice x.2.2.2.2.2.2.2.2.2.2.2.1.a x.2.2.2.2.2.2.2.2.2.2.2.1.len x.2.2.2.2.2.2.2.2.2.2.2.1.cap,.string x.2.2.2.2.2.2.2.2.2.2.2.2.1,.bool x.2.2.2.2.2.2.2.2.2.2.2.2.2.1,.int .i64 x.2.2.2.2.2.2.2.2.2.2.2.2.2.2.1,.bool x.2.2.2.2.2.2.2.2.2.2.2.2.2.2.2.1,.string x.2.2.2.2.2.2.2.2.2.2.2.2.2.2.2.2.1,.string x.2.2.2.2.2.2.2.2.2.2.2.2.2.2.2.2.2.1,.int .i64 x.2.2.2.2.2.2.2.2.2.2.2.2.2.2.2.2.2.2.1,.bool x.2.2.2.2.2.2.2.2.2.2.2.2.2.2.2.2.2.2.2.1,.slice x.2.2.2.2.2.2.2.2.2.2.2.2.2.2.2.2.2.2.2.2.1.a x.2.2.2.2.2.2.2.2.2.2.2.2.2.2.2.2.2.2.2.2.1.len x.2.2.2.2.2.2.2.2.2.2.2.2.2.2.2.2.2.2.2.2.1.cap,.bool x.2.2.2.2.2.2.2.2.2.2.2.2.2.2.2.2.2.2.2.2.2.1,.bool x.2.2.2.2.2.2.2.2.2.2.2.2.2.2.2.2.2.2.2.2.2.2.1,.string x.2.2.2.2.2.2.2.2.2.2.2.2.2.2.2.2.2.2.2.2.2.2.2.1,.string x.2.2.2.2.2.2.2.2.2.2.2.2.2.2.2.2.2.2.2.2.2.2.2.2.1,.bool x.2.2.2.2.2.2.2.2.2.2.2.2.2.2.2.2.2.2.2.2.2.2.2.2.2.1,.slice x.2.2.2.2.2.2.2.2.2.2.2.2.2.2.2.2.2.2.2.2.2.2.2.2.2.2.1.a x.2.2.2.2.2.2.2.2.2.2.2.2.2.2.2.2.2.2.2.2.2.2.2.2.2.2.1.len x.2.2.2.2.2.2.2.2.2.2.2.2.2.2.2.2.2.2.2.2.2.2.2.2.2.2.1.cap,.slice x.2.2.2.2.2.2.2.2.2.2.2.2.2.2.2.2.2.2.2.2.2.2.2.2.2.2.2.1.a x.2.2.2.2.2.2.2.2.2.2.2.2.2.2.2.2.2.2.2.2.2.2.2.2.2.2.2.1.len x.2.2.2.2.2.2.2.2.2.2.2.2.2.2.2.2.2.2.2.2.2.2.2.2.2.2.2.1.cap,.bool x.2.2.2.2.2.2.2.2.2.2.2.2.2.2.2.2.2.2.2.2.2.2.2.2.2.2.2.2.1,.string x.2.2.2.2.2.2.2.2.2.2.2.2.2.2.2.2.2.2.2.2.2.2.2.2.2.2.2.2.2.1,.string x.2.2.2.2.2.2.2.2.2.2.2.2.2.2.2.2.2.2.2.2.2.2.2.2.2.2.2.2.2.2.1,.int .i64 x.2.2.2.2.2.2.2.2.2.2.2.2.2.2.2.2.2.2.2.2.2.2.2.2.2.2.2.2.2.2.2.1,.bool x.2.2.2.2.2.2.2.2.2.2.2.2.2.2.2.2.2.2.2.2.2.2.2.2.2.2.2.2.2.2.2.2.1,.string x.2.2.2.2.2.2.2.2.2.2.2.2.2.2.2.2.2.2.2.2.2.2.2.2.2.2.2.2.2.2.2.2.2.1]
abbrev zS0:C9v:=#[.int .i64 0,.int .i64 0,.int .i64 0,.bool false,.bool false,.int .i64 0,.int .i64 0,.string (ByteArray.mk #[]),.string (ByteArray.mk #[]),.int .u8 0,.slice none 0 0,.slice none 0 0,.string (ByteArray.mk #[]),.bool false,.int .i64 0,.bool false,.string (ByteArray.mk #[]),.string (ByteArray.mk #[]),.int .i64 0,.bool false,.slice none 0 0,.bool false,.bool false,.string (ByteArray.mk #[]),.string (ByteArray.mk #[]),.bool false,.slice none 0 0,.slice none 0 0,.bool false,.string (ByteArray.mk #[]),.string (ByteArray.mk #[]),.int .i64 0,.bool false,.string (ByteArray.mk #[])]
abbrev zS1:C9v:=#[.int .i64 0,.int .i64 0,.bool false,.bool false,.int .i64 0,.int .i64 0,.string (ByteArray.mk #[]),.string (ByteArray.mk #[]),.int .u8 0,.slice none 0 0,.slice none 0 0,.string (ByteArray.mk #[]),.bool false,.int .i64 0,.bool false,.string (ByteArray.mk #[]),.string (ByteArray.mk #[]),.int .i64 0,.bool false,.slice none 0 0,.bool false,.bool false,.string (ByteArray.mk #[]),.string (ByteArray.mk #[]),.bool false,.slice none 0 0,.slice none 0 0,.bool false]
abbrev tS2:List Tag:=[.int .i64,.bool,.bool,.int .i64,.int .i64,.str,.str,.int .i64,.slc,.slc,.str,.bool,.int .i64,.bool,.str,.str,.int .i64,.bool,.slc,.bool,.bool,.str,.str,.bool,.slc,.slc]
abbrev yS2:Type:=Int×Bool×Bool×Int×Int×B3O×B3O×Int×Slc×Slc×B3O×Bool×Int×Bool×B3O×B3O×Int×Bool×Slc×Bool×Bool×B3O×B3O×Bool×Slc×Slc×Unit
abbrev aS2(x:yS2):C9v:=#[.int .i64 x.1,.bool x.2.1,.bool x.2.2.1,.int .i64 x.2.2.2.1,.int .i64 x.2.2.2.2.1,.string x.2.2.2.2.2.1,.string x.2.2.2.2.2.2.1,.int .i64 x.2.2.2.2.2.2.2.1,.slice x.2.2.2.2.2.2.2.2.1.a x.2.2.2.2.2.2.2.2.1.len x.2.2.2.2.2.2.2.2.1.cap,.slice x.2.2.2.2.2.2.2.2.2.1.a x.2.2.2.2.2.2.2.2.2.1.len x.2.2.2.2.2.2.2.2.2.1.cap,.string x.2.2.2.2.2.2.2.2.2.2.1,.bool x.2.2.2.2.2.2.2.2.2.2.2.1,.int .i64 x.2.2.2.2.2.2.2.2.2.2.2.2.1,.bool x.2.2.2.2.2.2.2.2.2.2.2.2.2.1,.string x.2.2.2.2.2.2.2.2.2.2.2.2.2.2.1,.string x.2.2.2.2.2.2.2.2.2.2.2.2.2.2.2.1,.int .i64 x.2.2.2.2.2.2.2.2.2.2.2.2.2.2.2.2.1,.bool x.2.2.2.2.2.2.2.2.2.2.2.2.2.2.2.2.2.1,.slice x.2.2.2.2.2.2.2.2.2.2.2.2.2.2.2.2.2.2.1.a x.2.2.2.2.2.2.2.2.2.2.2.2.2.2.2.2.2.2.1.len x.2.2.2.2.2.2.2.2.2.2.2.2.2.2.2.2.2.2.1.cap,.bool x.2.2.2.2.2.2.2.2.2.2.2.2.2.2.2.2.2.2.2.1,.bool x.2.2.2.2.2.2.2.2.2.2.2.2.2.2.2.2.2.2.2.2.1,.string x.2.2.2.2.2.2.2.2.2.2.2.2.2.2.2.2.2.2.2.2.2.1,.string x.2.2.2.2.2.2.2.2.2.2.2.2.2.2.2.2.2.2.2.2.2.2.1,.bool x.2.2.2.2.2.2.2.2.2.2.2.2.2.2.2.2.2.2.2.2.2.2.2.1,.slice x.2.2.2.2.2.2.2.2.2.2.2.2.2.2.2.2.2.2.2.2.2.2.2.2.1.a x.2.2.2.2.2.2.2.2.2.2.2.2.2.2.2.2.2.2.2.2.2.2.2.2.1.len x.2.2.2.2.2.2.2.2.2.2.2.2.2.2.2.2.2.2.2.2.2.2.2.2.1.cap,.slice x.2.2.2.2.2.2.2.2.2.2.2.2.2.2.2.2.2.2.2.2.2.2.2.2.2.1.a x.2.2.2.2.2.2.2.2.2.2.2.2.2.2.2.2.2.2.2.2.2.2.2.2.2.1.len x.2.2.2.2.2.2.2.2.2.2.2.2.2.2.2.2.2.2.2.2.2.2.2.2.2.1.cap]
abbrev lS2(x:yS2):C9w:=[.int .i64 x.1,.bool x.2.1,.bool x.2.2.1,.int .i64 x.2.2.2.1,.int .i64 x.2.2.2.2.1,.string x.2.2.2.2.2.1,.string x.2.2.2.2.2.2.1,.int .i64 x.2.2.2.2.2.2.2.1,.slice x.2.2.2.2.2.2.2.2.1.a x.2.2.2.2.2.2.2.2.1.len x.2.2.2.2.2.2.2.2.1.cap,.slice x.2.2.2.2.2.2.2.2.2.1.a x.2.2.2.2.2.2.2.2.2.1.len x.2.2.2.2.2.2.2.2.2.1.cap,.string x.2.2.2.2.2.2.2.2.2.2.1,.bool x.2.2.2.2.2.2.2.2.2.2.2.1,.int .i64 x.2.2.2.2.2.2.2.2.2.2.2.2.1,.bool x.2.2.2.2.2.2.2.2.2.2.2.2.2.1,.string x.2.2.2.2.2.2.2.2.2.2.2.2.2.2.1,.string x.2.2.2.2.2.2.2.2.2.2.2.2.2.2.2.1,.int .i64 x.2.2.2.2.2.2.2.2.2.2.2.2.2.2.2.2.1,.bool x.2.2.2.2.2.2.2.2.2.2.2.2.2.2.2.2.2.1,.slice x.2.2.2.2.2.2.2.2.2.2.2.2.2.2.2.2.2.2.1.a x.2.2.2.2.2.2.2.2.2.2.2.2.2.2.2.2.2.2.1.len x.2.2.2.2.2.2.2.2.2.2.2.2.2.2.2.2.2.2.1.cap,.bool x.2.2.2.2.2.2.2.2.2.2.2.2.2.2.2.2.2.2.2.1,.bool x.2.2.2.2.2.2.2.2.2.2.2.2.2.2.2.2.2.2.2.2.1,.string x.2.2.2.2.2.2.2.2.2.2.2.2.2.2.2.2.2.2.2.2.2.1,.string x.2.2.2.2.2.2.2.2.2.2.2.2.2.2.2.2.2.2.2.2.2.2.1,.bool x.2.2.2.2.2.2.2.2.2.2.2.2.2.2.2.2.2.2.2.2.2.2.2.1,.slice x.2.2.2.2.2.2.2.2.2.2.2.2.2.2.2.2.2.2.2.2.2.2.2.2.1.a x.2.2.2.2.2.2.2.2.2.2.2.2.2.2.2.2.2.2.2.2.2.2.2.2.1.len x.2.2.2.2.2.2.2.2.2.2.2.2.2.2.2.2.2.2.2.2.2.2.2.2.1.cap,.slice x.2.2.2.2.2.2.2.2.2.2.2.2.2.2.2.2.2.2.2.2.2.2.2.2.2.1.a x.2.2.2.2.2.2.2.2.2.2.2.2.2.2.2.2.2.2.2.2.2.2.2.2.2.1.len x.2.2.2.2.2.2.2.2.2.2.2.2.2.2.2.2.2.2.2.2.2.2.2.2.2.1.cap]
abbrev zS2:C9v:=#[.int .i64 0,.bool false,.bool false,.int .i64 0,.int .i64 0,.string (ByteArray.mk #[]),.string (ByteArray.mk #[]),.int .i64 0,.slice none 0 0,.slice none 0 0,.string (ByteArray.mk #[]),.bool false,.int .i64 0,.bool false,.string (ByteArray.mk #[]),.string (ByteArray.mk #[]),.int .i64 0,.bool false,.slice none 0 0,.bool false,.bool false,.string (ByteArray.mk #[]),.string (ByteArray.mk #[]),.bool false,.slice none 0 0,.slice none 0 0]
abbrev tS3:List Tag:=[.int .i64,.bool,.bool,.int .i64,.int .i64,.str,.str,.int .u8,.slc,.slc,.str,.bool,.int .i64,.bool,.str,.str,.int .i64,.bool,.slc,.bool,.bool,.str,.str,.bool,.slc,.slc]
abbrev yS3:Type:=Int×Bool×Bool×Int×Int×B3O×B3O×Int×Slc×Slc×B3O×Bool×Int×Bool×B3O×B3O×Int×Bool×Slc×Bool×Bool×B3O×B3O×Bool×Slc×Slc×Unit
abbrev aS3(x:yS3):C9v:=#[.int .i64 x.1,.bool x.2.1,.bool x.2.2.1,.int .i64 x.2.2.2.1,.int .i64 x.2.2.2.2.1,.string x.2.2.2.2.2.1,.string x.2.2.2.2.2.2.1,.int .u8 x.2.2.2.2.2.2.2.1,.slice x.2.2.2.2.2.2.2.2.1.a x.2.2.2.2.2.2.2.2.1.len x.2.2.2.2.2.2.2.2.1.cap,.slice x.2.2.2.2.2.2.2.2.2.1.a x.2.2.2.2.2.2.2.2.2.1.len x.2.2.2.2.2.2.2.2.2.1.cap,.string x.2.2.2.2.2.2.2.2.2.2.1,.bool x.2.2.2.2.2.2.2.2.2.2.2.1,.int .i64 x.2.2.2.2.2.2.2.2.2.2.2.2.1,.bool x.2.2.2.2.2.2.2.2.2.2.2.2.2.1,.string x.2.2.2.2.2.2.2.2.2.2.2.2.2.2.1,.string x.2.2.2.2.2.2.2.2.2.2.2.2.2.2.2.1,.int .i64 x.2.2.2.2.2.2.2.2.2.2.2.2.2.2.2.2.1,.bool x.2.2.2.2.2.2.2.2.2.2.2.2.2.2.2.2.2.1,.slice x.2.2.2.2.2.2.2.2.2.2.2.2.2.2.2.2.2.2.1.a x.2.2.2.2.2.2.2.2.2.2.2.2.2.2.2.2.2.2.1.len x.2.2.2.2.2.2.2.2.2.2.2.2.2.2.2.2.2.2.1.cap,.bool x.2.2.2.2.2.2.2.2.2.2.2.2.2.2.2.2.2.2.2.1,.bool x.2.2.2.2.2.2.2.2.2.2.2.2.2.2.2.2.2.2.2.2.1,.string x.2.2.2.2.2.2.2.2.2.2.2.2.2.2.2.2.2.2.2.2.2.1,.string x.2.2.2.2.2.2.2.2.2.2.2.2.2.2.2.2.2.2.2.2.2.2.1,.bool x.2.2.2.2.2.2.2.2.2.2.2.2.2.2.2.2.2.2.2.2.2.2.2.1,.slice x.2.2.2.2.2.2.2.2.2.2.2.2.2.2.2.2.2.2.2.2.2.2.2.2.1.a x.2.2.2.2.2.2.2.2.2.2.2.2.2.2.2.2.2.2.2.2.2.2.2.2.1.len x.2.2.2.2.2.2.2.2.2.2.2.2.2.2.2.2.2.2.2.2.2.2.2.2.1.cap,.slice x.2.2.2.2.2.2.2.2.2.2.2.2.2.2.2.2.2.2.2.2.2.2.2.2.2.1.a x.2.2.2.2.2.2.2.2.2.2.2.2.2.2.2.2.2.2.2.2.2.2.2.2.2.1.len x.2.2.2.2.2.2.2.2.2.2.2.2.2.2.2.2.2.2.2.2.2.2.2.2.2.1.cap]
abbrev lS3(x:yS3):C9w:=[.int .i64 x.1,.bool x.2.1,.bool x.2.2.1,.int .i64 x.2.2.2.1,.int .i64 x.2.2.2.2.1,.string x.2.2.2.2.2.1,.string x.2.2.2.2.2.2.1,.int .u8 x.2.2.2.2.2.2.2.1,.slice x.2.2.2.2.2.2.2.2.1.a x.2.2.2.2.2.2.2.2.1.len x.2.2.2.2.2.2.2.2.1.cap,.slice x.2.2.2.2.2.2.2.2.2.1.a x.2.2.2.2.2.2.2.2.2.1.len x.2.2.2.2.2.2.2.2.2.1.cap,.string x.2.2.2.2.2.2.2.2.2.2.1,.bool x.2.2.2.2.2.2.2.2.2.2.2.1,.int .i64 x.2.2.2.2.2.2.2.2.2.2.2.2.1,.bool x.2.2.2.2.2.2.2.2.2.2.2.2.2.1,.string x.2.2.2.2.2.2.2.2.2.2.2.2.2.2.1,.string x.2.2.2.2.2.2.2.2.2.2.2.2.2.2.2.1,.int .i64 x.2.2.2.2.2.2.2.2.2.2.2.2.2.2.2.2.1,.bool x.2.2.2.2.2.2.2.2.2.2.2.2.2.2.2.2.2.1,.slice x.2.2.2.2.2.2.2.2.2.2.2.2.2.2.2.2.2.2.1.a x.2.2.2.2.2.2.2.2.2.2.2.2.2.2.2.2.2.2.1.len x.2.2.2.2.2.2.2.2.2.2.2.2.2.2.2.2.2.2.1.cap,.bool x.2.2.2.2.2.2.2.2.2.2.2.2.2.2.2.2.2.2.2.1,.bool x.2.2.2.2.2.2.2.2.2.2.2.2.2.2.2.2.2.2.2.2.1,.string x.2.2.2.2.2.2.2.2.2.2.2.2.2.2.2.2.2.2.2.2.2.1,.string x.2.2.2.2.2.2.2.2.2.2.2.2.2.2.2.2.2.2.2.2.2.2.1,.bool x.2.2.2.2.2.2.2.2.2.2.2.2.2.2.2.2.2.2.2.2.2.2.2.1,.slice x.2.2.2.2.2.2.2.2.2.2.2.2.2.2.2.2.2.2.2.2.2.2.2.2.1.a x.2.2.2.2.2.2.2.2.2.2.2.2.2.2.2.2.2.2.2.2.2.2.2.2.1.len x.2.2.2.2.2.2.2.2.2.2.2.2.2.2.2.2.2.2.2.2.2.2.2.2.1.cap,.slice x.2.2.2.2.2.2.2.2.2.2.2.2.2.2.2.2.2.2.2.2.2.2.2.2.2.1.a x.2.2.2.2.2.2.2.2.2.2.2.2.2.2.2.2.2.2.2.2.2.2.2.2.2.1.len x.2.2.2.2.2.2.2.2.2.2.2.2.2.2.2.2.2.2.2.2.2.2.2.2.2.1.cap]
abbrev zS3:C9v:=#[.int .i64 0,.bool false,.bool false,.int .i64 0,.int .i64 0,.string (ByteArray.mk #[]),.string (ByteArray.mk #[]),.int .u8 0,.slice none 0 0,.slice none 0 0,.string (ByteArray.mk #[]),.bool false,.int .i64 0,.bool false,.string (ByteArray.mk #[]),.string (ByteArray.mk #[]),.int .i64 0,.bool false,.slice none 0 0,.bool false,.bool false,.string (ByteArray.mk #[]),.string (ByteArray.mk #[]),.bool false,.slice none 0 0,.slice none 0 0]
abbrev tS4:List Tag:=[.int .i64,.bool,.str,.str,.int .i64,.bool,.str]
abbrev yS4:Type:=Int×Bool×B3O×B3O×Int×Bool×B3O×Unit
abbrev lS4(x:yS4):C9w:=[.int .i64 x.1,.bool x.2.1,.string x.2.2.1,.string x.2.2.2.1,.int .i64 x.2.2.2.2.1,.bool x.2.2.2.2.2.1,.string x.2.2.2.2.2.2.1]
abbrev zS4:C9v:=#[.int .i64 0,.bool false,.string (ByteArray.mk #[]),.string (ByteArray.mk #[]),.int .i64 0,.bool false,.string (ByteArray.mk #[])]
abbrev tS5:List Tag:=[.int .i64,.str,.str,.int .i64,.bool,.str,.bool]
abbrev yS5:Type:=Int×B3O×B3O×Int×Bool×B3O×Bool×Unit
abbrev aS5(x:yS5):C9v:=#[.int .i64 x.1,.string x.2.1,.string x.2.2.1,.int .i64 x.2.2.2.1,.bool x.2.2.2.2.1,.string x.2.2.2.2.2.1,.bool x.2.2.2.2.2.2.1]
abbrev lS5(x:yS5):C9w:=[.int .i64 x.1,.string x.2.1,.string x.2.2.1,.int .i64 x.2.2.2.1,.bool x.2.2.2.2.1,.string x.2.2.2.2.2.1,.bool x.2.2.2.2.2.2.1]
abbrev zS5:C9v:=#[.int .i64 0,.string (ByteArray.mk #[]),.string (ByteArray.mk #[]),.int .i64 0,.bool false,.string (ByteArray.mk #[]),.bool false]
abbrev tS6:List Tag:=[.str,.int .i64,.bool,.bool,.int .i64]
abbrev yS6:Type:=B3O×Int×Bool×Bool×Int×Unit
abbrev aS6(x:yS6):C9v:=#[.string x.1,.int .i64 x.2.1,.bool x.2.2.1,.bool x.2.2.2.1,.int .i64 x.2.2.2.2.1]
abbrev lS6(x:yS6):C9w:=[.string x.1,.int .i64 x.2.1,.bool x.2.2.1,.bool x.2.2.2.1,.int .i64 x.2.2.2.2.1]
abbrev zS6:C9v:=#[.string (ByteArray.mk #[]),.int .i64 0,.bool false,.bool false,.int .i64 0]
abbrev tS7:List Tag:=[.str,.str,.int .i64,.bool,.str]
abbrev yS7:Type:=B3O×B3O×Int×Bool×B3O×Unit
abbrev aS7(x:yS7):C9v:=#[.string x.1,.string x.2.1,.int .i64 x.2.2.1,.bool x.2.2.2.1,.string x.2.2.2.2.1]
abbrev lS7(x:yS7):C9w:=[.string x.1,.string x.2.1,.int .i64 x.2.2.1,.bool x.2.2.2.1,.string x.2.2.2.2.1]
abbrev zS7:C9v:=#[.string (ByteArray.mk #[]),.string (ByteArray.mk #[]),.int .i64 0,.bool false,.string (ByteArray.mk #[])]
abbrev tS8:List Tag:=[.int .i64,.int .i64,.str,.str]
abbrev yS8:Type:=Int×Int×B3O×B3O×Unit
abbrev aS8(x:yS8):C9v:=#[.int .i64 x.1,.int .i64 x.2.1,.string x.2.2.1,.string x.2.2.2.1]
abbrev lS8(x:yS8):C9w:=[.int .i64 x.1,.int .i64 x.2.1,.string x.2.2.1,.string x.2.2.2.1]
abbrev zS8:C9v:=#[.int .i64 0,.int .i64 0,.string (ByteArray.mk #[]),.string (ByteArray.mk #[])]
abbrev tS9:List Tag:=[.int .i64,.str,.bool,.bool]
abbrev yS9:Type:=Int×B3O×Bool×Bool×Unit
abbrev aS9(x:yS9):C9v:=#[.int .i64 x.1,.string x.2.1,.bool x.2.2.1,.bool x.2.2.2.1]
abbrev lS9(x:yS9):C9w:=[.int .i64 x.1,.string x.2.1,.bool x.2.2.1,.bool x.2.2.2.1]
abbrev zS9:C9v:=#[.int .i64 0,.string (ByteArray.mk #[]),.bool false,.bool false]
open Go.Proofs.Tryz
def ad(a n:Nat):=Addr.add ⟨a,0,none⟩ n
def az(a:Nat):Addr:=⟨a,0,none⟩
def bn{α β}(m:HM α)(f:α→HM β):=HM.bind m f
def cb{β}(n:Nat)(l:C9v)(f:Bool→HM β):=HM.bind (α:=Bool) (A1n prog (.one .bool) n l) f
def cc{β}(n:Nat)(l:C9v)(f:Slc→HM β):=HM.bind (α:=Slc) (A1n prog (.one .slc) n l) f
def ci{β}(n:Nat)(l:C9v)(f:Int→HM β):=HM.bind (α:=Int) (A1n prog (.one (.int .i64)) n l) f
def cp{β}(n:Nat)(l:C9v)(f:C9u→HM β):=HM.bind (α:=C9u) (A1n prog (.one .ptr) n l) f
def ct{β}(n:Nat)(l:C9v)(f:B3O→HM β):=HM.bind (α:=B3O) (A1n prog (.one .str) n l) f
def cu{β}(n:Nat)(l:C9v)(f:Int→HM β):=HM.bind (α:=Int) (A1n prog (.one (.int .u8)) n l) f
def cx{β}(n:Nat)(l:C9v)(f:Unit→HM β):=HM.bind (α:=Unit) (u3 prog [] n l) f
def es:=ByteArray.mk #[]
def g0{β}(a:Addr)(f:yS0→HM β):=HM.bind (α:=yS0) (o4 tS0 a) f
def g2{β}(a:Addr)(f:yS2→HM β):=HM.bind (α:=yS2) (o4 tS2 a) f
def A0R{β}(a:Addr)(f:yS2→HM β):=HM.bind (α:=yS2) (o4 tS3 a) f
def g5{β}(a:Addr)(f:yS5→HM β):=HM.bind (α:=yS5) (o4 tS5 a) f
def g6{β}(a:Addr)(f:yS6→HM β):=HM.bind (α:=yS6) (o4 tS6 a) f
def g7{β}(a:Addr)(f:yS7→HM β):=HM.bind (α:=yS7) (o4 tS7 a) f
def g8{β}(a:Addr)(f:yS8→HM β):=HM.bind (α:=yS8) (o4 tS8 a) f
def g9{β}(a:Addr)(f:yS9→HM β):=HM.bind (α:=yS9) (o4 tS9 a) f
def ie{α}(c:Bool)(a b:HM α):=A1s c a b
def ix{β}(s:Slc)(i:Int)(w:Nat)(f:Addr→HM β):=HM.bind (α:=Addr) (A4q s.a s.len i w) f
def jb{β}(a n:Nat)(f:Bool→HM β):=HM.bind (α:=Bool) (o9 .bool (Addr.add ⟨a,0,none⟩ n)) f
def jc{β}(a n:Nat)(f:Slc→HM β):=HM.bind (α:=Slc) (o9 .slc (Addr.add ⟨a,0,none⟩ n)) f
def ji{β}(a n:Nat)(f:Int→HM β):=HM.bind (α:=Int) (o9 (.int .i64) (Addr.add ⟨a,0,none⟩ n)) f
def jt{β}(a n:Nat)(f:B3O→HM β):=HM.bind (α:=B3O) (o9 .str (Addr.add ⟨a,0,none⟩ n)) f
def ju{β}(a n:Nat)(f:Int→HM β):=HM.bind (α:=Int) (o9 (.int .u8) (Addr.add ⟨a,0,none⟩ n)) f
def kb{β}(a:Addr)(n:Nat)(f:Bool→HM β):=HM.bind (α:=Bool) (o9 .bool (Addr.add a n)) f
def kc{β}(a:Addr)(n:Nat)(f:Slc→HM β):=HM.bind (α:=Slc) (o9 .slc (Addr.add a n)) f
def ki{β}(a:Addr)(n:Nat)(f:Int→HM β):=HM.bind (α:=Int) (o9 (.int .i64) (Addr.add a n)) f
def km{β}(a:Addr)(n:Nat)(f:Option Nat→HM β):=HM.bind (α:=Option Nat) (o9 .map (Addr.add a n)) f
def kp{β}(a:Addr)(n:Nat)(f:C9u→HM β):=HM.bind (α:=C9u) (o9 .ptr (Addr.add a n)) f
def kt{β}(a:Addr)(n:Nat)(f:B3O→HM β):=HM.bind (α:=B3O) (o9 .str (Addr.add a n)) f
def ku{β}(a:Addr)(n:Nat)(f:Int→HM β):=HM.bind (α:=Int) (o9 (.int .u8) (Addr.add a n)) f
def lc{β}(a:Addr)(f:Slc→HM β):=HM.bind (α:=Slc) (o9 .slc a) f
def li{β}(a:Addr)(f:Int→HM β):=HM.bind (α:=Int) (o9 (.int .i64) a) f
def lp{β}(a:Addr)(f:C9u→HM β):=HM.bind (α:=C9u) (o9 .ptr a) f
def lt{β}(a:Addr)(f:B3O→HM β):=HM.bind (α:=B3O) (o9 .str a) f
def lu{β}(a:Addr)(f:Int→HM β):=HM.bind (α:=Int) (o9 (.int .u8) a) f
def nn{β}(p:C9u)(f:Addr→HM β):=HM.bind (α:=Addr) (A75 p) f
def nw{β}(z:C9v)(t:Nat)(f:Nat→HM β):=HM.bind (α:=Nat) (HM.new (.cells z t)) f
def pu{α}(x:α):=X0 x
def rq{β}(v w:Value)(m:HM β):=A2w (v=w) m
def sn{β}(a:Nat)(l:C9w)(f:Unit→HM β):=HM.bind (α:=Unit) (A91 ⟨a,0,none⟩ l) f
def so{β}(a:Addr)(l:C9w)(f:Unit→HM β):=HM.bind (α:=Unit) (A91 a l) f
def sw{β}(a n:Nat)(v:Value)(f:Unit→HM β):=HM.bind (α:=Unit) (A6V (Addr.add ⟨a,0,none⟩ n) v) f
def sx{β}(a:Addr)(v:Value)(f:Unit→HM β):=HM.bind (α:=Unit) (A6V a v) f
def ve:Value:=.string (ByteArray.mk #[])
def vi(x:Int):Value:=.int .i64 x
def vs(s:Slc):Value:=.slice s.a s.len s.cap
def vz:Value:=.slice none 0 0
def w10{A0 A1 A2 A3 A4 A5 A6 A7 A8 A9 A10 A11:Type}(x:A0×A1×A2×A3×A4×A5×A6×A7×A8×A9×A10×A11):=x.2.2.2.2.2.2.2.2.2.2.1
def w11{A0 A1 A2 A3 A4 A5 A6 A7 A8 A9 A10 A11 A12:Type}(x:A0×A1×A2×A3×A4×A5×A6×A7×A8×A9×A10×A11×A12):=x.2.2.2.2.2.2.2.2.2.2.2.1
def w12{A0 A1 A2 A3 A4 A5 A6 A7 A8 A9 A10 A11 A12 A13:Type}(x:A0×A1×A2×A3×A4×A5×A6×A7×A8×A9×A10×A11×A12×A13):=x.2.2.2.2.2.2.2.2.2.2.2.2.1
def w13{A0 A1 A2 A3 A4 A5 A6 A7 A8 A9 A10 A11 A12 A13 A14:Type}(x:A0×A1×A2×A3×A4×A5×A6×A7×A8×A9×A10×A11×A12×A13×A14):=x.2.2.2.2.2.2.2.2.2.2.2.2.2.1
def w14{A0 A1 A2 A3 A4 A5 A6 A7 A8 A9 A10 A11 A12 A13 A14 A15:Type}(x:A0×A1×A2×A3×A4×A5×A6×A7×A8×A9×A10×A11×A12×A13×A14×A15):=x.2.2.2.2.2.2.2.2.2.2.2.2.2.2.1
def w15{A0 A1 A2 A3 A4 A5 A6 A7 A8 A9 A10 A11 A12 A13 A14 A15 A16:Type}(x:A0×A1×A2×A3×A4×A5×A6×A7×A8×A9×A10×A11×A12×A13×A14×A15×A16):=x.2.2.2.2.2.2.2.2.2.2.2.2.2.2.2.1
def w16{A0 A1 A2 A3 A4 A5 A6 A7 A8 A9 A10 A11 A12 A13 A14 A15 A16 A17:Type}(x:A0×A1×A2×A3×A4×A5×A6×A7×A8×A9×A10×A11×A12×A13×A14×A15×A16×A17):=x.2.2.2.2.2.2.2.2.2.2.2.2.2.2.2.2.1
def w17{A0 A1 A2 A3 A4 A5 A6 A7 A8 A9 A10 A11 A12 A13 A14 A15 A16 A17 A18:Type}(x:A0×A1×A2×A3×A4×A5×A6×A7×A8×A9×A10×A11×A12×A13×A14×A15×A16×A17×A18):=x.2.2.2.2.2.2.2.2.2.2.2.2.2.2.2.2.2.1
def w18{A0 A1 A2 A3 A4 A5 A6 A7 A8 A9 A10 A11 A12 A13 A14 A15 A16 A17 A18 A19:Type}(x:A0×A1×A2×A3×A4×A5×A6×A7×A8×A9×A10×A11×A12×A13×A14×A15×A16×A17×A18×A19):=x.2.2.2.2.2.2.2.2.2.2.2.2.2.2.2.2.2.2.1
def w19{A0 A1 A2 A3 A4 A5 A6 A7 A8 A9 A10 A11 A12 A13 A14 A15 A16 A17 A18 A19 A20:Type}(x:A0×A1×A2×A3×A4×A5×A6×A7×A8×A9×A10×A11×A12×A13×A14×A15×A16×A17×A18×A19×A20):=x.2.2.2.2.2.2.2.2.2.2.2.2.2.2.2.2.2.2.2.1
def w20{A0 A1 A2 A3 A4 A5 A6 A7 A8 A9 A10 A11 A12 A13 A14 A15 A16 A17 A18 A19 A20 A21:Type}(x:A0×A1×A2×A3×A4×A5×A6×A7×A8×A9×A10×A11×A12×A13×A14×A15×A16×A17×A18×A19×A20×A21):=x.2.2.2.2.2.2.2.2.2.2.2.2.2.2.2.2.2.2.2.2.1
def w21{A0 A1 A2 A3 A4 A5 A6 A7 A8 A9 A10 A11 A12 A13 A14 A15 A16 A17 A18 A19 A20 A21 A22:Type}(x:A0×A1×A2×A3×A4×A5×A6×A7×A8×A9×A10×A11×A12×A13×A14×A15×A16×A17×A18×A19×A20×A21×A22):=x.2.2.2.2.2.2.2.2.2.2.2.2.2.2.2.2.2.2.2.2.2.1
def w22{A0 A1 A2 A3 A4 A5 A6 A7 A8 A9 A10 A11 A12 A13 A14 A15 A16 A17 A18 A19 A20 A21 A22 A23:Type}(x:A0×A1×A2×A3×A4×A5×A6×A7×A8×A9×A10×A11×A12×A13×A14×A15×A16×A17×A18×A19×A20×A21×A22×A23):=x.2.2.2.2.2.2.2.2.2.2.2.2.2.2.2.2.2.2.2.2.2.2.1
def w23{A0 A1 A2 A3 A4 A5 A6 A7 A8 A9 A10 A11 A12 A13 A14 A15 A16 A17 A18 A19 A20 A21 A22 A23 A24:Type}(x:A0×A1×A2×A3×A4×A5×A6×A7×A8×A9×A10×A11×A12×A13×A14×A15×A16×A17×A18×A19×A20×A21×A22×A23×A24):=x.2.2.2.2.2.2.2.2.2.2.2.2.2.2.2.2.2.2.2.2.2.2.2.1
def w24{A0 A1 A2 A3 A4 A5 A6 A7 A8 A9 A10 A11 A12 A13 A14 A15 A16 A17 A18 A19 A20 A21 A22 A23 A24 A25:Type}(x:A0×A1×A2×A3×A4×A5×A6×A7×A8×A9×A10×A11×A12×A13×A14×A15×A16×A17×A18×A19×A20×A21×A22×A23×A24×A25):=x.2.2.2.2.2.2.2.2.2.2.2.2.2.2.2.2.2.2.2.2.2.2.2.2.1
def w25{A0 A1 A2 A3 A4 A5 A6 A7 A8 A9 A10 A11 A12 A13 A14 A15 A16 A17 A18 A19 A20 A21 A22 A23 A24 A25 A26:Type}(x:A0×A1×A2×A3×A4×A5×A6×A7×A8×A9×A10×A11×A12×A13×A14×A15×A16×A17×A18×A19×A20×A21×A22×A23×A24×A25×A26):=x.2.2.2.2.2.2.2.2.2.2.2.2.2.2.2.2.2.2.2.2.2.2.2.2.2.1
def w5{A0 A1 A2 A3 A4 A5 A6:Type}(x:A0×A1×A2×A3×A4×A5×A6):=x.2.2.2.2.2.1
def w6{A0 A1 A2 A3 A4 A5 A6 A7:Type}(x:A0×A1×A2×A3×A4×A5×A6×A7):=x.2.2.2.2.2.2.1
def w7{A0 A1 A2 A3 A4 A5 A6 A7 A8:Type}(x:A0×A1×A2×A3×A4×A5×A6×A7×A8):=x.2.2.2.2.2.2.2.1
def w8{A0 A1 A2 A3 A4 A5 A6 A7 A8 A9:Type}(x:A0×A1×A2×A3×A4×A5×A6×A7×A8×A9):=x.2.2.2.2.2.2.2.2.1
def w9{A0 A1 A2 A3 A4 A5 A6 A7 A8 A9 A10:Type}(x:A0×A1×A2×A3×A4×A5×A6×A7×A8×A9×A10):=x.2.2.2.2.2.2.2.2.2.1
def wi(x:Int):=IntKind.wrap .i64 x
def A6H(p0:Slc)(p1:yS7)(p2:Int):HM (Bool×Unit):=
 nw (aS7 p1) 29 fun a=>cp 15 #[vs p0] fun b=>bn (α:=Bool×Unit) (cc 17 #[.pointer b] fun c=>ie (decide (64≤(c.len:Int))) (pu (true,())) (cc 18 #[.pointer b] fun d=>pu (decide (32≤(d.len:Int)),()))) fun e=>ie
 e.1 (cb 10 #[] fun f=>pu (f,())) (cc 18 #[.pointer b] fun g=>bn (α:=(Int×Unit)⊕(Bool×Unit)) (HM.loop (σ:=Int×Unit) (τ:=(Int×Unit)⊕(Bool×Unit)) (fun h=>ie (decide (h.1<(g.len:Int))) (ix g h.1 4
 fun i=>g9 i fun j=>nw zS9 79 fun k=>sn k (lS9 j) fun _=>jt k 1 fun l=>ie (decide (l=(ByteArray.mk #[97,32,99,108,105,101,110,116,32,111,102,32,105,116,115,32,111,119,110]))) (cb 10 #[] fun m=>pu (.inr
 (.inr (m,())))) (pu (.inl (wi (h.1+1),())))) (pu (.inr (.inl (h.1,()))))) (0,())) (Sum.elim (fun n=>cc 17 #[.pointer b] fun o=>bn (α:=(Int×Unit)⊕(Bool×Unit)) (HM.loop (σ:=Int×Unit) (τ:=(Int×Unit)⊕
 (Bool×Unit)) (fun p=>ie (decide (p.1<(o.len:Int))) (ix o p.1 1 fun q=>li q fun r=>ie (decide (1099511627776≤(r:Int))) (cb 10 #[] fun s=>pu (.inr (.inr (s,())))) (pu (.inl (wi (p.1+1),())))) (pu (.inr (.inl
 (p.1,()))))) (0,())) (Sum.elim (fun t=>cb 11 #[.pointer b,vi 1099511627776,.string (ByteArray.mk #[97,32,99,108,105,101,110,116,32,111,102,32,105,116,115,32,111,119,110]),vz] fun u=>ie (!u) (pu
 (false,())) (ji a 2 fun v=>A2w (3≠(0:Int))<|sw a 2 (vi (Int.tmod (if 0<(v:Int) then v else 0) 3)) fun _=>jt a 0 fun w=>jt a 1 fun x=>ji a 2 fun y=>jb a 3 fun z=>A2w (65535≠(0:Int))<|nw zS3 45 fun
 A=>sn A [vi 3,.bool false,.bool z,vi y,vi (wi (1+(Int.tmod (if 0<(p2:Int) then p2 else 0) 65535))),.string w,.string x,.int .u8 0,vz,vz,ve,.bool false,vi 0,.bool false,ve,ve,vi 0,.bool false,vz,
 .bool false,.bool false,ve,ve,.bool false,vz,vz] fun _=>A0R (az A) fun B=>bn (α:=Slc×Slc×Unit) (A1n prog (.agg [.slc,.slc]) 13 #[.pointer b,vi 1099511627776,.agg (aS3 B),.bool true]) fun C=>nw
 #[vz,vz] 35 fun D=>sn D [vs C.1,vs C.2.1] fun _=>jt a 0 fun E=>cu 12 #[.string E] fun F=>ie (!(F==0)) (bn (α:=Bool×Unit) (cb 10 #[] fun G=>ie G (jc D 0 fun H=>ie (decide (0<(H.len:Int))) (jc D 0 fun I=>ix I 0
 28 fun J=>ku (Addr.add J 1) 7 fun K=>ie (K==144) (jc D 0 fun L=>ix L 0 28 fun M=>kb M 27 fun N=>pu (N,())) (pu (false,()))) (pu (false,()))) (pu (false,()))) fun O=>pu (O.1,())) (bn (α:=Bool×Unit) (jc D 1 fun
 P=>ie (!((P.len:Int)==0)) (pu (true,())) (jc D 0 fun Q=>ji a 2 fun R=>pu (!((Q.len:Int)==(if R<(1:Int) then R else 1)),()))) fun S=>ie S.1 (pu (false,())) (bn (α:=Bool×Unit) (cb 10 #[] fun T=>ie T (ji
 a 2 fun U=>ie (U==0) (pu (true,())) (jc D 0 fun V=>ix V 0 28 fun W=>ki W 0 fun X=>ie (X==1099511627776) (jc D 0 fun Y=>ix Y 0 28 fun Z=>ku (Addr.add Z 1) 7 fun lk=>ie (lk==151) (jc D 0 fun kj=>ix kj 0 28 fun
 eo=>ki (Addr.add eo 1) 4 fun fi=>ji A 4 fun gz=>pu (fi==gz,())) (pu (false,()))) (pu (false,())))) (pu (false,()))) fun dI=>pu (dI.1,()))))) X0)) X0))
theorem A7l(p0:Slc)(p1:yS7)(p2:Int):HCs 5 #[.slice p0.a p0.len p0.cap,.agg (aS7 p1),.int .i64 p2] (A6H p0 p1 p2) fun x=>.bool x.1:=
 cE [.one .bool] [0,1,2,4,6,7,9,10,12,13,14,26,29,30,31,32,37,41,42,43,44,49,55,81,117] [0,1,2,4,7,9,10,12,13,14,26,29,30,31,32,37,41,42,43,44,49,55,81,117] func5 ntmps5 (CC call15 (CC call17 (CC call18 (CC call10 (CC call11 (CC call13 (CC call12 CN)))))))
def B6s:HM (C9u×Unit):=
 cp 27 #[] fun a=>cp 28 #[] fun b=>cp 29 #[vi 64] fun c=>bn (α:=Nat) (HM.new (.map #[] 0)) fun d=>nw #[.pointer a,.pointer b,.pointer c,.map (some d)] 104 fun e=>pu (some (az e),())
theorem B29:HCs 9 #[] (B6s) fun x=>.pointer x.1:=
 cE [.one .ptr] [0] [] func9 ntmps9 (CC call27 (CC call28 (CC call29 CN)))
def B3J:HM (Bool×Unit):=
 cp 9 #[] fun a=>bn (α:=Bool×Unit) (nw #[.string (ByteArray.mk #[97,47,43]),vi 1,.bool false,.bool false,vi 0,.string (ByteArray.mk #[35]),vi 0,.bool false,.bool false,vi 0] 47 fun b=>cb 11 #[.pointer a,
 vi 1,.string (ByteArray.mk #[99]),.slice (some (az b)) 2 2] fun c=>ie (!c) (pu (true,())) (cb 11 #[.pointer a,vi 2,.string (ByteArray.mk #[100]),vz] fun d=>pu (!d,()))) fun e=>ie e.1 (pu (false,())) (bn (α:=Slc
 ×Slc×Unit) (A1n prog (.agg [.slc,.slc]) 13 #[.pointer a,vi 2,.agg #[vi 3,.bool false,.bool false,vi 2,vi 9,.string (ByteArray.mk #[97,47,98]),.string (ByteArray.mk #[120]),.int .u8 0,vz,vz,ve,
 .bool false,vi 0,.bool false,ve,ve,vi 0,.bool false,vz,.bool false,.bool false,ve,ve,.bool false,vz,vz],.bool false]) fun f=>nw #[vz,vz] 35 fun g=>sn g [vs f.1,vs f.2.1] fun _=>bn (α:=Bool×Unit) (jc
 g 0 fun h=>ie ((h.len:Int)==2) (jc g 0 fun i=>ix i 0 28 fun j=>ki j 0 fun k=>ie (k==2) (jc g 0 fun l=>ix l 0 28 fun m=>ki (Addr.add m 1) 0 fun n=>ie (n==5) (jc g 0 fun o=>ix o 1 28 fun p=>ki p 0 fun q=>ie (q==
 1) (jc g 0 fun r=>ix r 1 28 fun s=>ki (Addr.add s 1) 3 fun t=>ie (t==1) (jc g 1 fun u=>pu ((u.len:Int)==1,())) (pu (false,()))) (pu (false,()))) (pu (false,()))) (pu (false,()))) (pu (false,()))) fun v=>pu
 (v.1,()))
theorem B1E:HCs 10 #[] (B3J) fun x=>.bool x.1:=
 cE [.one .bool] [0,1,2,14] [1,2,14] func10 ntmps10 (CC call9 (CC call11 (CC call13 CN)))
def B5z(p0:C9u)(p1:Int)(p2:B3O)(p3:Slc):HM (Bool×Unit):=
 nw #[vi 17,vi 100,ve,ve] 106 fun a=>bn (α:=Slc×Slc×Unit) (A1n prog (.agg [.slc,.slc]) 13 #[.pointer p0,vi p1,.agg #[vi 1,.bool false,.bool false,vi 0,vi 0,ve,ve,.int .u8 0,vz,.slice (some
 (az a)) 1 1,.string p2,.bool false,vi 0,.bool false,ve,ve,vi 0,.bool false,vz,.bool false,.bool false,ve,ve,.bool false,vz,vz],.bool false]) fun b=>nw #[vz,vz] 35 fun c=>sn c [vs b.1,vs b.2.1] fun
 _=>bn (α:=Bool×Unit) (jc c 0 fun d=>ie ((d.len:Int)==0) (pu (true,())) (jc c 0 fun e=>ix e 0 28 fun f=>ki (Addr.add f 1) 0 fun g=>ie (!(g==2)) (pu (true,())) (jc c 0 fun h=>ix h 0 28 fun i=>ku (Addr.add i 1)
 7 fun j=>ie (!(j==0)) (pu (true,())) (jc c 1 fun k=>pu (!((k.len:Int)==0),()))))) fun l=>ie l.1 (pu (false,())) (ie ((p3.len:Int)==0) (pu (true,())) (bn (α:=Slc×Slc×Unit) (A1n prog (.agg
 [.slc,.slc]) 13 #[.pointer p0,vi p1,.agg #[vi 8,.bool false,.bool false,vi 0,vi 1,ve,ve,.int .u8 0,vz,vz,ve,.bool false,vi 0,.bool false,ve,ve,vi 0,.bool false,vz,.bool false,.bool false,ve,ve,
 .bool false,vs p3,vz],.bool false]) fun m=>nw #[vz,vz] 35 fun n=>sn n [vs m.1,vs m.2.1] fun _=>bn (α:=Bool×Unit) (jc n 0 fun o=>ie (decide (1≤(o.len:Int))) (jc n 0 fun p=>ix p 0 28 fun q=>ki (Addr.add q 1) 0
 fun r=>ie (r==9) (jc n 0 fun s=>ix s 0 28 fun t=>kc (Addr.add t 1) 8 fun u=>pu ((u.len:Int)==(p3.len:Int),())) (pu (false,()))) (pu (false,()))) fun v=>pu (v.1,())))
theorem B2O(p0:C9u)(p1:Int)(p2:B3O)(p3:Slc):HCs 11 #[.pointer p0,.int .i64 p1,.string p2,.slice p3.a p3.len p3.cap] (B5z p0 p1 p2 p3) fun x=>.bool x.1:=
 cE [.one .bool] [0,1,2,3,8,9,10,45,48] [0,1,2,3,9,10,45,48] func11 ntmps11 (CC call13 CN)
def A7R(p0:B3O):HM (Int×Unit):=
 bn (α:=Bool×Unit) (cb 30 #[.string p0] fun a=>ie (!a) (pu (true,())) (cb 31 #[.string p0,.string (ByteArray.mk #[43])] fun b=>ie b (pu (true,())) (cb 31 #[.string p0,.string (ByteArray.mk #[35])] fun c=>pu (c,
 ())))) fun d=>ie d.1 (pu (144,())) (pu (0,()))
theorem A78(p0:B3O):HCs 12 #[.string p0] (A7R p0) fun x=>.int .u8 x.1:=
 cE [.one (.int .u8)] [0,2,13] [0,13] func12 ntmps12 (CC call30 (CC call31 CN))
def A4c(p0:C9u)(p1:Int)(p2:yS2)(p3:Bool):HM ((Slc×Slc×Unit)×Unit):=
 nw (aS3 p2) 45 fun a=>nw #[vz,vz] 35 fun b=>ie (Option.isNone p0) (sn b [vz,vz] fun _=>bn (α:=Slc×Slc×Unit) (o4 [.slc,.slc] (az b)) fun c=>pu ((c.1,c.2.1,()),())) (nw #[.pointer p0,.bool p3,vz,vz]
 110 fun d=>nn p0 fun e=>km e 3 fun f=>bn (α:=(yS4)×Bool) (HM.lookup (Instr.sameNow (.int .i64)) (.agg zS4) (.agg tS4) f (vi p1)) fun g=>nw zS4 112 fun h=>sn h (lS4 g.1) fun _=>bn (α:=Unit) (ie g.2 (A0R (az a) fun
 i=>cx 32 #[.pointer (some (az d)),vi p1,.agg (aS3 i)] fun j=>pu ()) (ji a 0 fun k=>bn (α:=Unit) (ie (k==1) (A0R (az a) fun l=>cx 33 #[.pointer (some (az d)),vi p1,.agg (aS3 l)] fun m=>pu ()) (cx 34 #[.pointer
 (some (az d)),vi p1,.agg #[vi 14,.bool false,.bool false,vi 0,vi 0,ve,ve,.int .u8 130,vz,vz,ve,.bool false,vi 0,.bool false,ve,ve,vi 0,.bool false,vz,.bool false,.bool false,ve,ve,.bool false,
 vz,vz]] fun n=>pu ())) fun o=>pu ())) fun p=>nn (some (az d)) fun q=>bn (α:=Slc×Slc×Unit) (o4 [.slc,.slc] (Addr.add q 2)) fun r=>sn b [vs r.1,vs r.2.1] fun _=>bn (α:=Slc×Slc×Unit) (o4 [.slc,
 .slc] (az b)) fun s=>pu ((s.1,s.2.1,()),()))
theorem A5c(p0:C9u)(p1:Int)(p2:yS2)(p3:Bool):HCs 13 #[.pointer p0,.int .i64 p1,.agg (aS3 p2),.bool p3] (A4c p0 p1 p2 p3) fun x=>.agg #[.slice x.1.1.a x.1.1.len x.1.1.cap,.slice x.1.2.1.a x.1.2.1.len x.1.2.1.cap]:=
 cE [.agg [.slc,.slc]] [0,1,2,3,6,8,9,11,13,32,38] [0,1,2,3,6,8,9,11,13,32,38] func13 ntmps13 (CC call32 (CC call33 (CC call34 CN)))
def B3j(p0:B3O)(p1:B3O):HM (Bool×Unit):=
 bn (α:=Bool×Unit) (cu 35 #[.string p0] fun a=>ie (!(a==0)) (pu (true,())) (cu 12 #[.string p1] fun b=>pu (!(b==0),()))) fun c=>ie c.1 (pu (false,())) (bn (α:=Bool×Unit) (bn (α:=Int) (A5f p1 0) fun
 d=>ie (d==36) (bn (α:=B3O) (A4P p0 none (some 1)) fun e=>ie (decide (e=(ByteArray.mk #[43]))) (pu (true,())) (bn (α:=B3O) (A4P p0 none (some 1)) fun f=>pu (decide (f=(ByteArray.mk
 #[35])),()))) (pu (false,()))) fun g=>ie g.1 (pu (false,())) (cc 36 #[.string p0] fun h=>cc 36 #[.string p1] fun i=>ix h (wi ((h.len:Int)-1)) 1 fun j=>lt j fun k=>bn (α:=Slc×Unit) (ie (decide (k=
 (ByteArray.mk #[35]))) (bn (α:=Slc) (HM.slice h none (some (wi ((h.len:Int)-1))) none 1) fun l=>pu (l,())) (pu (h,()))) fun m=>bn (α:=Bool×Unit) (ie (decide ((i.len:Int)<(m.1.len:Int))) (pu (true,()))
 (ie (!(decide (k=(ByteArray.mk #[35])))) (pu (decide ((m.1.len:Int)<(i.len:Int)),())) (pu (false,())))) fun n=>ie n.1 (pu (false,())) (bn (α:=Slc) (HM.slice i none (some (m.1.len:Int)) none 1) fun o=>cb 37
 #[vs m.1,vs o,.func (.func 38) #[] #[]] fun p=>pu (p,()))))
theorem B0O(p0:B3O)(p1:B3O):HCs 14 #[.string p0,.string p1] (B3j p0 p1) fun x=>.bool x.1:=
 cE [.one .bool] [0,1,4,5,6,7,15,28,40,61] [0,1,5,6,7,15,28,40,61] func14 ntmps14 (CC call35 (CC call12 (CC call36 (CC call37 CN))))
def B3L(p0:Slc):HM (C9u×Unit):=
 cp 9 #[] fun a=>cp 21 #[] fun b=>bn (α:=Slc) (HM.slice p0 none (some (if 40<(p0.len:Int) then 40 else(p0.len:Int))) none 34) fun c=>bn (α:=Int×Unit) (HM.loop (σ:=Int×Unit) (τ:=Int×Unit) (fun d=>ie
 (decide (d.1<(c.len:Int))) (ix c d.1 34 fun e=>g0 e fun f=>nw zS0 62 fun g=>sn g (lS0 f) fun _=>g0 (az g) fun h=>cb 22 #[.pointer a,.pointer b,.agg (aS0 h)] fun i=>pu (.inl (wi (d.1+1),()))) (pu (.inr (d.1,
 ())))) (0,())) fun j=>pu (a,())
theorem B1H(p0:Slc):HCs 15 #[.slice p0.a p0.len p0.cap] (B3L p0) fun x=>.pointer x.1:=
 cE [.one .ptr] [0,2,3,4,6,13,14,15,16] [0,3,4,6,13,14,15,16] func15 ntmps15 (CC call9 (CC call21 (CC call22 CN)))
def A9Q(p0:yS2):HM ((yS2)×(yS2)×Unit):=
 nw (aS3 p0) 60 fun a=>nw zS3 45 fun b=>nw zS2 70 fun c=>ji a 0 fun d=>jb a 1 fun e=>jb a 2 fun f=>ji a 3 fun g=>ji a 4 fun h=>jt a 5 fun i=>jt a 6 fun j=>ju a 7 fun k=>jt a 10 fun l=>jb a 11 fun m=>ji a 12 fun n=>jb a
 13 fun o=>jb a 19 fun p=>jb a 20 fun q=>jt a 21 fun r=>jt a 22 fun s=>jb a 23 fun t=>nw zS3 45 fun u=>sn u [vi d,.bool e,.bool f,vi g,vi h,.string i,.string j,.int .u8 k,vz,vz,.string l,.bool m,vi n,.bool o,
 ve,ve,vi 0,.bool false,vz,.bool p,.bool q,.string r,.string s,.bool t,vz,vz] fun _=>ji a 0 fun v=>jb a 1 fun w=>jb a 2 fun x=>ji a 3 fun y=>ji a 4 fun z=>jt a 5 fun A=>jt a 6 fun B=>ju a 7 fun C=>jt a 10 fun
 D=>jb a 11 fun E=>ji a 12 fun F=>jb a 13 fun G=>jb a 19 fun H=>jb a 20 fun I=>jt a 21 fun J=>jt a 22 fun K=>jb a 23 fun L=>nw zS2 70 fun M=>sn M [vi v,.bool w,.bool x,vi y,vi z,.string A,.string B,vi (wi C),vz,
 vz,.string D,.bool E,vi F,.bool G,ve,ve,vi 0,.bool false,vz,.bool H,.bool I,.string J,.string K,.bool L,vz,vz] fun _=>jc a 9 fun N=>bn (α:=Slc×Slc×Unit) (u3 prog [.one .slc,.one .slc] 39
 #[vs N]) fun O=>sw u 9 (vs O.1) fun _=>sw M 9 (vs O.2.1) fun _=>kt (ad a 14) 0 fun P=>kt (ad a 14) 1 fun Q=>ki (ad a 14) 2 fun R=>kb (ad a 14) 3 fun S=>so (ad u 14) [.string P,.string Q,vi R,.bool S,vz] fun _=>kt (ad
 a 14) 0 fun T=>kt (ad a 14) 1 fun U=>ki (ad a 14) 2 fun V=>kb (ad a 14) 3 fun W=>so (ad M 14) [.string T,.string U,vi V,.bool W,vz] fun _=>kc (ad a 14) 4 fun X=>bn (α:=Slc×Slc×Unit) (u3 prog [.one
 .slc,.one .slc] 39 #[vs X]) fun Y=>sx (Addr.add (ad u 14) 4) (vs Y.1) fun _=>sx (Addr.add (ad M 14) 4) (vs Y.2.1) fun _=>jc a 8 fun Z=>jc a 8 fun lk=>bn (α:=Slc) (HM.slice Z none (some (if 80<(lk.len:Int) then
 80 else(lk.len:Int))) none 1) fun kj=>bn (α:=Int×Unit) (HM.loop (σ:=Int×Unit) (τ:=Int×Unit) (fun fi=>ie (decide (fi.1<(kj.len:Int))) (ix kj fi.1 1 fun gz=>lu gz fun dI=>jc u 8 fun gr=>jc M 8
 fun fY=>A0B (nw #[.int .u8 dI] 30 fun jP=>jc M 8 fun kh=>rq (vs kh) (vs fY)<|jc u 8 fun kg=>rq (vs kg) (vs gr)<|A0B (bn (α:=Slc) (HM.append 30 1 1 #[.int .u8 0] gr 1 (V6 1 (⟨some (az jP),1,
 1⟩))) fun lj=>jc M 8 fun mc=>rq (vs mc) (vs fY)<|nw #[vi (wi dI)] 3 fun ma=>jc M 8 fun jo=>rq (vs jo) (vs fY)<|jc u 8 fun ot=>rq (vs ot) (vs gr)<|bn (α:=Slc) (HM.append 3 1 8 #[vi 0] fY 1 (V6 1
 (⟨some (az ma),1,1⟩))) fun lZ=>sw u 8 (vs lj) fun _=>sw M 8 (vs lZ) fun _=>pu (.inl (wi (fi.1+1),()))) (nw #[vi (wi dI)] 3 fun oq=>jc M 8 fun lY=>rq (vs lY) (vs fY)<|jc u 8 fun lX=>rq (vs lX) (vs gr)
 <|bn (α:=Slc) (HM.append 30 1 1 #[.int .u8 0] gr 1 (V6 1 (⟨some (az jP),1,1⟩))) fun lW=>jc M 8 fun lV=>rq (vs lV) (vs fY)<|bn (α:=Slc) (HM.append 3 1 8 #[vi 0] fY 1 (V6 1 (⟨some (az oq),1,1⟩)))
 fun lS=>sw u 8 (vs lW) fun _=>sw M 8 (vs lS) fun _=>pu (.inl (wi (fi.1+1),())))) (nw #[vi (wi dI)] 3 fun oo=>jc M 8 fun lR=>rq (vs lR) (vs fY)<|jc u 8 fun lQ=>rq (vs lQ) (vs gr)<|nw #[.int .u8 dI] 30
 fun om=>jc M 8 fun pf=>rq (vs pf) (vs fY)<|jc u 8 fun pe=>rq (vs pe) (vs gr)<|bn (α:=Slc) (HM.append 30 1 1 #[.int .u8 0] gr 1 (V6 1 (⟨some (az om),1,1⟩))) fun lh=>jc M 8 fun pd=>rq (vs pd) (vs fY)
 <|bn (α:=Slc) (HM.append 3 1 8 #[vi 0] fY 1 (V6 1 (⟨some (az oo),1,1⟩))) fun pc=>sw u 8 (vs lh) fun _=>sw M 8 (vs pc) fun _=>pu (.inl (wi (fi.1+1),())))) (pu (.inr (fi.1,())))) (0,())) fun eo=>jc a
 24 fun oZ=>jc a 24 fun qU=>bn (α:=Slc) (HM.slice oZ none (some (if 80<(qU.len:Int) then 80 else(qU.len:Int))) none 5) fun jO=>bn (α:=Int×Unit) (HM.loop (σ:=Int×Unit) (τ:=Int×Unit) (fun iD=>ie
 (decide (iD.1<(jO.len:Int))) (ix jO iD.1 5 fun lP=>g6 lP fun oX=>nw zS6 119 fun fU=>sn fU (lS6 oX) fun _=>jc u 24 fun gX=>g6 (az fU) fun kf=>jc M 24 fun gW=>g6 (az fU) fun gQ=>A0B (nw (aS6 kf) 47
 fun oj=>g6 (az fU) fun oW=>rq (.agg (aS6 oW)) (.agg (aS6 gQ))<|jc M 24 fun qT=>rq (vs qT) (vs gW)<|jc u 24 fun fD=>rq (vs fD) (vs gX)<|A0B (bn (α:=Slc) (HM.append 47 5 40 zS6 gX 1 (V6 5 (⟨some
 (az oj),1,1⟩))) fun jv=>g6 (az fU) fun jr=>rq (.agg (aS6 jr)) (.agg (aS6 gQ))<|jc M 24 fun ni=>rq (vs ni) (vs gW)<|nw (aS6 gQ) 120 fun iE=>jc M 24 fun nh=>rq (vs nh) (vs gW)<|g6 (az fU) fun
 ng=>rq (.agg (aS6 ng)) (.agg (aS6 kf))<|jc u 24 fun kF=>rq (vs kF) (vs gX)<|bn (α:=Slc) (HM.append 120 5 40 zS6 gW 1 (V6 5 (⟨some (az iE),1,1⟩))) fun nf=>sw u 24 (vs jv) fun _=>sw M 24 (vs
 nf) fun _=>pu (.inl (wi (iD.1+1),()))) (nw (aS6 gQ) 120 fun nc=>jc M 24 fun na=>rq (vs na) (vs gW)<|g6 (az fU) fun mZ=>rq (.agg (aS6 mZ)) (.agg (aS6 kf))<|jc u 24 fun kE=>rq (vs kE) (vs gX)
 <|bn (α:=Slc) (HM.append 47 5 40 zS6 gX 1 (V6 5 (⟨some (az oj),1,1⟩))) fun mY=>g6 (az fU) fun mX=>rq (.agg (aS6 mX)) (.agg (aS6 gQ))<|jc M 24 fun mV=>rq (vs mV) (vs gW)<|bn (α:=Slc) (HM.append
 120 5 40 zS6 gW 1 (V6 5 (⟨some (az nc),1,1⟩))) fun mU=>sw u 24 (vs mY) fun _=>sw M 24 (vs mU) fun _=>pu (.inl (wi (iD.1+1),())))) (nw (aS6 gQ) 120 fun mT=>jc M 24 fun mS=>rq (vs mS) (vs gW)
 <|g6 (az fU) fun mR=>rq (.agg (aS6 mR)) (.agg (aS6 kf))<|jc u 24 fun mQ=>rq (vs mQ) (vs gX)<|nw (aS6 kf) 47 fun mP=>g6 (az fU) fun mO=>rq (.agg (aS6 mO)) (.agg (aS6 gQ))<|jc M 24 fun mN=>rq (vs
 mN) (vs gW)<|jc u 24 fun mM=>rq (vs mM) (vs gX)<|bn (α:=Slc) (HM.append 47 5 40 zS6 gX 1 (V6 5 (⟨some (az mP),1,1⟩))) fun mL=>g6 (az fU) fun mK=>rq (.agg (aS6 mK)) (.agg (aS6 gQ))<|jc M 24
 fun py=>rq (vs py) (vs gW)<|bn (α:=Slc) (HM.append 120 5 40 zS6 gW 1 (V6 5 (⟨some (az mT),1,1⟩))) fun mJ=>sw u 24 (vs mL) fun _=>sw M 24 (vs mJ) fun _=>pu (.inl (wi (iD.1+1),())))) (pu (.inr
 (iD.1,())))) (0,())) fun oY=>jc a 25 fun mI=>jc a 25 fun mH=>bn (α:=Slc) (HM.slice mI none (some (if 80<(mH.len:Int) then 80 else(mH.len:Int))) none 1) fun kD=>bn (α:=Int×Unit) (HM.loop (σ:=
 Int×Unit) (τ:=Int×Unit) (fun gA=>ie (decide (gA.1<(kD.len:Int))) (ix kD gA.1 1 fun mG=>lt mG fun ga=>jc u 25 fun fZ=>jc M 25 fun ez=>A0B (nw #[.string ga] 9 fun kC=>jc M 25 fun
 pw=>rq (vs pw) (vs ez)<|jc u 25 fun kB=>rq (vs kB) (vs fZ)<|A0B (bn (α:=Slc) (HM.append 9 1 16 #[ve] fZ 1 (V6 1 (⟨some (az kC),1,1⟩))) fun kA=>jc M 25 fun mF=>rq (vs mF) (vs ez)<|nw
 #[.string ga] 9 fun mE=>jc M 25 fun pq=>rq (vs pq) (vs ez)<|jc u 25 fun kr=>rq (vs kr) (vs fZ)<|bn (α:=Slc) (HM.append 9 1 16 #[ve] ez 1 (V6 1 (⟨some (az mE),1,1⟩))) fun kq=>sw u 25 (vs
 kA) fun _=>sw M 25 (vs kq) fun _=>pu (.inl (wi (gA.1+1),()))) (nw #[.string ga] 9 fun mD=>jc M 25 fun mC=>rq (vs mC) (vs ez)<|jc u 25 fun po=>rq (vs po) (vs fZ)<|bn (α:=Slc) (HM.append 9 1 16
 #[ve] fZ 1 (V6 1 (⟨some (az kC),1,1⟩))) fun mB=>jc M 25 fun mA=>rq (vs mA) (vs ez)<|bn (α:=Slc) (HM.append 9 1 16 #[ve] ez 1 (V6 1 (⟨some (az mD),1,1⟩))) fun ko=>sw u 25 (vs mB) fun
 _=>sw M 25 (vs ko) fun _=>pu (.inl (wi (gA.1+1),())))) (nw #[.string ga] 9 fun mz=>jc M 25 fun my=>rq (vs my) (vs ez)<|jc u 25 fun mw=>rq (vs mw) (vs fZ)<|nw #[.string ga] 9 fun mv=>jc M 25
 fun mu=>rq (vs mu) (vs ez)<|jc u 25 fun mo=>rq (vs mo) (vs fZ)<|bn (α:=Slc) (HM.append 9 1 16 #[ve] fZ 1 (V6 1 (⟨some (az mv),1,1⟩))) fun mn=>jc M 25 fun gY=>rq (vs gY) (vs ez)<|bn (α
 :=Slc) (HM.append 9 1 16 #[ve] ez 1 (V6 1 (⟨some (az mz),1,1⟩))) fun ml=>sw u 25 (vs mn) fun _=>sw M 25 (vs ml) fun _=>pu (.inl (wi (gA.1+1),())))) (pu (.inr (gA.1,())))) (0,())) fun px=>A0R
 (az u) fun mj=>g2 (az M) fun mi=>sn b (lS3 mj) fun _=>g2 (az M) fun mh=>rq (.agg (aS2 mh)) (.agg (aS2 mi))<|sn c (lS2 mi) fun _=>A0R (az b) fun bl=>g2 (az c) fun bk=>pu ((bl.1,bl.2.1,bl.2.2.1,
 bl.2.2.2.1,bl.2.2.2.2.1,(w5 bl),(w6 bl),(w7 bl),(w8 bl),(w9 bl),(w10 bl),(w11 bl),(w12 bl),(w13 bl),(w14 bl),(w15 bl),(w16 bl),(w17 bl),(w18 bl),(w19 bl),(w20 bl),
 (w21 bl),(w22 bl),(w23 bl),(w24 bl),(w25 bl),()),(bk.1,bk.2.1,bk.2.2.1,bk.2.2.2.1,bk.2.2.2.2.1,(w5 bk),(w6 bk),(w7 bk),(w8 bk),(w9 bk),(w10 bk),(w11 bk),(w12 bk),
 (w13 bk),(w14 bk),(w15 bk),(w16 bk),(w17 bk),(w18 bk),(w19 bk),(w20 bk),(w21 bk),(w22 bk),(w23 bk),(w24 bk),(w25 bk),()),())
theorem A9v(p0:yS2):HCs 16 #[.agg (aS3 p0)] (A9Q p0) fun x=>.tuple #[.agg (aS3 x.1),.agg (aS2 x.2.1)]:=
 cE [.agg tS3,.agg tS2] [0,1,2,3,4,5,7,9,11,136,137,138,139,162,163,164,165,187,188,189,190] [0,1,2,3,4,5,7,9,11,136,137,138,139,162,163,164,165,187,188,189,190] func16 ntmps16 (CC call39 CN)
def A4x(p0:C9u):HM (Slc×Unit):=
 ie (Option.isNone p0) (pu (⟨none,0,0⟩,())) (nn p0 fun a=>km a 3 fun b=>bn (α:=Value) (A1n prog (.one .any) 41 #[.map b]) fun c=>cc 40 #[c] fun d=>pu (d,()))
theorem A5o(p0:C9u):HCs 17 #[.pointer p0] (A4x p0) fun x=>.slice x.1.a x.1.len x.1.cap:=
 cE [.one .slc] [0,2,4] [0,4] func17 ntmps17 (CC call41 (CC call40 CN))
def A3m(p0:C9u):HM (Slc×Unit):=
 ie (Option.isNone p0) (pu (⟨none,0,0⟩,())) (nn p0 fun a=>kp a 0 fun b=>cc 42 #[.pointer b] fun c=>pu (c,()))
theorem A4o(p0:C9u):HCs 18 #[.pointer p0] (A3m p0) fun x=>.slice x.1.a x.1.len x.1.cap:=
 cE [.one .slc] [0,2,4] [0,4] func18 ntmps18 (CC call42 CN)
def A3u(p0:C9u)(p1:yS7):HM (Slc×Unit):=
 nw (aS7 p1) 83 fun a=>ie (Option.isNone p0) (pu (⟨none,0,0⟩,())) (nw #[.pointer p0,.bool false,vz,vz] 110 fun b=>g7 (az a) fun c=>cx 43 #[.pointer (some (az b)),.agg (aS7 c)] fun d=>nn (some (az b)) fun e=>kc
 (Addr.add e 2) 0 fun f=>pu (f,()))
theorem A4L(p0:C9u)(p1:yS7):HCs 19 #[.pointer p0,.agg (aS7 p1)] (A3u p0 p1) fun x=>.slice x.1.a x.1.len x.1.cap:=
 cE [.one .slc] [0,1,3,4,5,7] [0,1,3,5,7] func19 ntmps19 (CC call43 CN)
def B7k:HM (C9u×Unit):=
 cp 45 #[vi 64] fun a=>nw #[vi 0,vz] 131 fun b=>nw #[vz] 135 fun c=>nw #[.pointer (some (az b)),.pointer (some (az c)),.pointer a,vz,.bool false,vz,vz] 140 fun d=>pu (some (az d),())
theorem B37:HCs 21 #[] (B7k) fun x=>.pointer x.1:=
 cE [.one .ptr] [0,1] [1] func21 ntmps21 (CC call45 CN)
def B1G(p0:C9u)(p1:C9u)(p2:yS0):HM (Bool×Unit):=
 nw (aS0 p2) 62 fun a=>nw #[vz,vz] 35 fun b=>ji a 0 fun c=>A2w (6≠(0:Int))<|bn (α:=Bool×Unit) (ie ((Int.tmod c 6)==1) (pu ((Int.tmod c 6)==1,())) (pu ((Int.tmod c 6)==(-1),()))) fun d=>bn (α:=Unit)
 (ie d.1 (ji a 1 fun e=>jb a 28 fun f=>bn (α:=Slc×Slc×Unit) (A1n prog (.agg [.slc,.slc]) 24 #[.pointer p0,vi e,.bool f]) fun g=>sn b [vs g.1,vs g.2.1] fun _=>ji a 1 fun h=>jb a 28 fun i=>cx 46
 #[.pointer p1,vi h,.bool i] fun j=>pu ()) (bn (α:=Bool×Unit) (ie ((Int.tmod c 6)==2) (pu ((Int.tmod c 6)==2,())) (pu ((Int.tmod c 6)==(-2),()))) fun k=>bn (α:=Unit) (ie k.1 (g7 (ad a 29) fun l=>cc 19
 #[.pointer p0,.agg (aS7 l)] fun m=>sw b 0 (vs m) fun _=>g7 (ad a 29) fun n=>cx 47 #[.pointer p1,.agg (aS7 n)] fun o=>pu ()) (bn (α:=Bool×Unit) (ie ((Int.tmod c 6)==3) (pu ((Int.tmod c 6)==3,())) (pu ((Int.tmod
 c 6)==(-3),()))) fun p=>bn (α:=Unit) (ie p.1 (cx 25 #[.pointer p0] fun q=>cx 48 #[.pointer p1] fun r=>pu ()) (A0R (ad a 2) fun s=>bn (α:=(yS2)×(yS2)×Unit) (u3 prog [.agg tS3,.agg tS2] 16 #[.agg
 (aS3 s)]) fun t=>nw zS3 45 fun u=>nw zS2 70 fun v=>sn u (lS3 t.1) fun _=>sn v (lS2 t.2.1) fun _=>ji a 1 fun w=>A0R (az u) fun x=>jb a 28 fun y=>bn (α:=Slc×Slc×Unit) (A1n prog (.agg [.slc,.slc]) 13
 #[.pointer p0,vi w,.agg (aS3 x),.bool y]) fun z=>sn b [vs z.1,vs z.2.1] fun _=>ji a 1 fun A=>g2 (az v) fun B=>jb a 28 fun C=>cx 49 #[.pointer p1,vi A,.agg (aS2 B),.bool C] fun D=>pu ())) fun E=>pu ())) fun F=>pu
 ())) fun G=>bn (α:=Bool×Unit) (jc b 0 fun H=>nn p1 fun I=>kc I 5 fun J=>cb 50 #[vs H,vs J] fun K=>ie K (jc b 1 fun L=>nn p1 fun M=>kc M 6 fun N=>cb 51 #[vs L,vs N] fun O=>pu (O,())) (pu (false,()))) fun P=>pu
 (P.1,())
theorem B0q(p0:C9u)(p1:C9u)(p2:yS0):HCs 22 #[.pointer p0,.pointer p1,.agg (aS0 p2)] (B1G p0 p1 p2) fun x=>.bool x.1:=
 cE [.one .bool] [0,1,2,5,6,7,8,9,12,33,48,60] [0,1,2,5,7,8,9,12,33,48,60] func22 ntmps22 (CC call24 (CC call46 (CC call19 (CC call47 (CC call25 (CC call48 (CC call16 (CC call13 (CC call49 (CC call50 (CC call51 CN)))))))))))
def A5d(p0:C9u)(p1:Int)(p2:Bool):HM ((Slc×Slc×Unit)×Unit):=
 nw #[vz,vz] 35 fun a=>ie (Option.isNone p0) (sn a [vz,vz] fun _=>bn (α:=Slc×Slc×Unit) (o4 [.slc,.slc] (az a)) fun b=>pu ((b.1,b.2.1,()),())) (nw #[.pointer p0,.bool p2,vz,vz] 110 fun c=>cx 54
 #[.pointer (some (az c)),vi p1,.bool true] fun d=>nn (some (az c)) fun e=>bn (α:=Slc×Slc×Unit) (o4 [.slc,.slc] (Addr.add e 2)) fun f=>sn a [vs f.1,vs f.2.1] fun _=>bn (α:=Slc×Slc×Unit) (o4
 [.slc,.slc] (az a)) fun g=>pu ((g.1,g.2.1,()),()))
theorem A58(p0:C9u)(p1:Int)(p2:Bool):HCs 24 #[.pointer p0,.int .i64 p1,.bool p2] (A5d p0 p1 p2) fun x=>.agg #[.slice x.1.1.a x.1.1.len x.1.1.cap,.slice x.1.2.1.a x.1.2.1.len x.1.2.1.cap]:=
 cE [.agg [.slc,.slc]] [0,1,2,6,7,9] [0,1,2,6,7,9] func24 ntmps24 (CC call54 CN)
def A3t(p0:C9u):HM (Unit):=
 nw #[.pointer p0,.bool false,vz,vz] 110 fun a=>cc 17 #[.pointer p0] fun b=>bn (α:=Int×Unit) (HM.loop (σ:=Int×Unit) (τ:=Int×Unit) (fun c=>ie (decide (c.1<(b.len:Int))) (ix b c.1 1 fun d=>li d fun e=>cx
 54 #[.pointer (some (az a)),vi e,.bool false] fun f=>pu (.inl (wi (c.1+1),()))) (pu (.inr (c.1,())))) (0,())) fun g=>pu ()
theorem A4K(p0:C9u):HCs 25 #[.pointer p0] (A3t p0) fun x=>.tuple #[]:=
 cE [] [0,2,4,9,10,11,12] [0,2,4,9,10,11,12] func25 ntmps25 (CC call17 (CC call54 CN))
def B3o:HM (C9u×Unit):=
 bn (α:=Nat) (HM.new (.map #[] 0)) fun a=>nw #[vi 0,.map (some a)] 172 fun b=>pu (some (az b),())
theorem B0W:HCs 27 #[] (B3o) fun x=>.pointer x.1:=
 cE [.one .ptr] [0] [] func27 ntmps27 CN
def B9o:HM (C9u×Unit):=
 cp 59 #[] fun a=>bn (α:=Nat) (HM.new (.map #[] 0)) fun b=>nw #[.pointer a,.map (some b)] 176 fun c=>pu (some (az c),())
theorem B4I:HCs 28 #[] (B9o) fun x=>.pointer x.1:=
 cE [.one .ptr] [0] [] func28 ntmps28 (CC call59 CN)
def B4X(p0:Int):HM (C9u×Unit):=
 bn (α:=Nat) (HM.new (.map #[] 0)) fun a=>nw #[vi (if 0<((if 64<(p0:Int) then 64 else p0):Int) then(if 64<(p0:Int) then 64 else p0) else 0),.map (some a)] 179 fun b=>pu (some (az b),())
theorem B2n(p0:Int):HCs 29 #[.int .i64 p0] (B4X p0) fun x=>.pointer x.1:=
 cE [.one .ptr] [0,2] [0] func29 ntmps29 CN
def B3i(p0:B3O):HM (Bool×Unit):=
 bn (α:=Int×Bool×Unit) (u3 prog [.one (.int .i64),.one .bool] 60 #[.string p0]) fun a=>bn (α:=Bool×Unit) (ie (!a.2.1) (ie (!(decide (p0=es))) (ie (decide (((ByteArray.size p0:Nat):Int)≤(256
 :Int))) (ci 61 #[.string p0,.string (ByteArray.mk #[47])] fun b=>pu (decide (b<(32:Int)),())) (pu (false,()))) (pu (false,()))) (pu (false,()))) fun c=>pu (c.1,())
theorem B0N(p0:B3O):HCs 30 #[.string p0] (B3i p0) fun x=>.bool x.1:=
 cE [.one .bool] [0,2,4] [0,4] func30 ntmps30 (CC call60 (CC call61 CN))
def A5a(p0:C9u)(p1:Int)(p2:yS2):HM (Unit):=
 nw (aS3 p2) 45 fun a=>bn (α:=Bool×Unit) (ji a 4 fun b=>ie (decide (1≤(b:Int))) (ji a 4 fun c=>pu (decide (c≤(65535:Int)),())) (pu (false,()))) fun d=>bn (α:=Bool×Unit) (ji a 0 fun e=>ie (e==3) (pu
 (true,())) (ji a 0 fun f=>pu (f==6,()))) fun g=>bn (α:=Unit) (ie g.1 (A0R (az a) fun h=>cx 63 #[.pointer p0,vi p1,.agg (aS3 h)] fun i=>pu ()) (bn (α:=Bool×Unit) (ji a 0 fun j=>ie (j==4) (pu (true,())) (ji
 a 0 fun k=>ie (k==5) (pu (true,())) (ji a 0 fun l=>pu (l==7,())))) fun m=>bn (α:=Unit) (ie m.1 (A0R (az a) fun n=>cx 64 #[.pointer p0,vi p1,.agg (aS3 n)] fun o=>pu ()) (bn (α:=Bool×Unit) (ji a 0 fun p=>ie
 (p==8) (ie d.1 (jc a 24 fun q=>pu (decide (0<(q.len:Int)),())) (pu (false,()))) (pu (false,()))) fun r=>bn (α:=Unit) (ie r.1 (A0R (az a) fun s=>cx 65 #[.pointer p0,vi p1,.agg (aS3 s)] fun t=>pu ()) (bn (α
 :=Bool×Unit) (ji a 0 fun u=>ie (u==10) (ie d.1 (jc a 25 fun v=>pu (decide (0<(v.len:Int)),())) (pu (false,()))) (pu (false,()))) fun w=>bn (α:=Unit) (ie w.1 (A0R (az a) fun x=>cx 66 #[.pointer p0,vi p1,
 .agg (aS3 x)] fun y=>pu ()) (ji a 0 fun z=>bn (α:=Unit) (ie (z==12) (cx 67 #[.pointer p0,vi p1,.agg #[vi 13,.bool false,.bool false,vi 0,vi 0,ve,ve,.int .u8 0,vz,vz,ve,.bool false,vi 0,.bool false,ve,
 ve,vi 0,.bool false,vz,.bool false,.bool false,ve,ve,.bool false,vz,vz]] fun A=>pu ()) (ji a 0 fun B=>bn (α:=Unit) (ie (B==14) (ju a 7 fun C=>cx 54 #[.pointer p0,vi p1,.bool (C==4)] fun D=>pu ()) (cx 68
 #[.pointer p0,vi p1,.int .u8 130] fun E=>pu ())) fun F=>pu ())) fun G=>pu ())) fun H=>pu ())) fun I=>pu ())) fun J=>pu ())) fun K=>pu ()
theorem A56(p0:C9u)(p1:Int)(p2:yS2):HCs 32 #[.pointer p0,.int .i64 p1,.agg (aS3 p2)] (A5a p0 p1 p2) fun x=>.tuple #[]:=
 cE [] [0,1,2,5,6,18,31,49,66,83,91] [0,1,2,5,6,18,31,49,66,83,91] func32 ntmps32 (CC call63 (CC call64 (CC call65 (CC call66 (CC call67 (CC call54 (CC call68 CN)))))))
def A4w(p0:C9u)(p1:Int)(p2:yS2):HM (Unit):=
 nw (aS3 p2) 45 fun a=>nn p0 fun b=>kp b 0 fun c=>nn c fun d=>kp d 0 fun e=>jt a 10 fun f=>A0B (bn (α:=(yS9)×Bool×Unit) (u3 prog [.agg tS9,.one .bool] 55 #[.pointer e,.string f]) fun g=>nw zS9 79
 fun h=>jt a 10 fun i=>rq (.string i) (.string f)<|kp d 0 fun j=>rq (.pointer j) (.pointer e)<|kp b 0 fun k=>rq (.pointer k) (.pointer c)<|sn h (lS9 g.1) fun _=>cp 27 #[] fun l=>jt a 10 fun m=>bn (α:=Int×Bool×Int
 ×Unit) (u3 prog [.one (.int .i64),.one .bool,.one (.int .u8)] 69 #[.pointer l,.string m,.bool false,.bool false]) fun n=>bn (α:=Bool×Unit) (jb a 13 fun o=>ie o (kt (ad a 14) 0 fun p=>cu 12 #[.string
 p] fun q=>pu (!(q==0),())) (pu (false,()))) fun r=>bn (α:=Int×Unit) (ie r.1 (pu (144,())) (nn p0 fun s=>kp s 0 fun t=>nn t fun u=>km u 3 fun v=>bn (α:=Int) (A6U v) fun w=>bn (α:=Int×Unit) (ie (decide
 (64≤(w:Int))) (pu (151,())) (bn (α:=Int×Unit) (ie (!(n.2.2.1==0)) (pu (n.2.2.1,())) (bn (α:=Bool×Unit) (ie (!g.2.1) (nn p0 fun x=>kp x 0 fun y=>nn y fun z=>kp z 0 fun A=>cc 42 #[.pointer A] fun B=>pu
 (decide (32≤(B.len:Int)),())) (pu (false,()))) fun C=>bn (α:=Int×Unit) (ie C.1 (pu (151,())) (pu (0,()))) fun D=>pu (D.1,()))) fun E=>pu (E.1,()))) fun F=>pu (F.1,()))) fun G=>ie (!(G.1==0)) (cx 34
 #[.pointer p0,vi p1,.agg #[vi 2,.bool false,.bool false,vi 0,vi 0,ve,ve,.int .u8 G.1,vz,vz,ve,.bool false,vi 0,.bool false,ve,ve,vi 0,.bool false,vz,.bool false,.bool false,ve,ve,.bool false,vz,
 vz]] fun H=>pu ()) (bn (α:=Bool×Unit) (ie g.2.1 (jb h 3 fun I=>pu (I,())) (pu (false,()))) fun J=>bn (α:=Unit) (ie J.1 (nn p0 fun K=>kp K 0 fun L=>nn L fun M=>km M 3 fun N=>bn (α:=Nat) (A90 N) fun O=>bn
 (α:=Unit) (HM.loop (σ:=Unit) (τ:=Unit) (fun P=>bn (α:=Option (Value×Value)) (A74 O) fun Q=>A2H Q (ie false (bn (α:=Int×(yS4)) (A4y (.one (.int .i64)) (.agg tS4) O) fun R=>nw zS4 112 fun S=>sn
 S (lS4 R.2) fun _=>ji S 0 fun T=>ji h 0 fun U=>ie (T==U) (cx 68 #[.pointer p0,vi R.1,.int .u8 142] fun V=>pu (.inr ())) (pu (.inl ()))) (pu (.inr ()))) fun(W:Value×Value)=>ie true (bn (α:=Int×(yS4))
 (A4y (.one (.int .i64)) (.agg tS4) O) fun X=>nw zS4 112 fun Y=>sn Y (lS4 X.2) fun _=>ji Y 0 fun Z=>ji h 0 fun eo=>ie (Z==eo) (cx 68 #[.pointer p0,vi X.1,.int .u8 142] fun fi=>pu (.inr ())) (pu (.inl ())))
 (pu (.inr ()))) ()) fun ui=>pu ()) (pu ())) fun qV=>jc a 9 fun gz=>bn (α:=(yS8)×Bool×Unit) (u3 prog [.agg tS8,.one .bool] 70 #[vs gz,vi 17]) fun dI=>nw zS8 106 fun gr=>sn gr (lS8 dI.1) fun
 _=>nn p0 fun fY=>kp fY 0 fun jP=>nn jP fun kh=>kp kh 0 fun kg=>jt a 10 fun lj=>jb a 11 fun mc=>ji gr 1 fun ma=>bn (α:=Int×Bool×Int×Unit) (u3 prog [.one (.int .i64),.one .bool,.one (.int
 .u8)] 69 #[.pointer kg,.string lj,.bool mc,.bool (decide (0<(ma:Int)))]) fun jo=>bn (α:=Bool×Unit) (ie g.2.1 (ji h 0 fun ot=>pu (!(jo.1==ot),())) (pu (false,()))) fun lZ=>bn (α:=Unit) (ie lZ.1
 (nn p0 fun lY=>kp lY 0 fun lX=>nn lX fun lW=>kp lW 1 fun lV=>ji h 0 fun lS=>ci 71 #[.pointer lV,vi lS] fun oo=>pu ()) (pu ())) fun oq=>nn p0 fun lR=>kp lR 0 fun lQ=>nn lQ fun om=>km om 3 fun pf=>jb a
 13 fun pe=>kt (ad a 14) 0 fun lh=>kt (ad a 14) 1 fun pd=>ki (ad a 14) 2 fun pc=>kb (ad a 14) 3 fun oZ=>bn (α:=Unit) (A4h (Instr.sameNow (.int .i64)) pf (vi p1) (.agg #[vi jo.1,.bool pe,.string lh,
 .string pd,vi pc,.bool oZ,ve])) fun _=>cx 67 #[.pointer p0,vi p1,.agg #[vi 2,.bool false,.bool false,vi 0,vi 0,ve,ve,.int .u8 0,vz,vz,ve,.bool false,vi 0,.bool false,ve,ve,vi 0,.bool false,vz,
 .bool false,.bool false,ve,ve,.bool jo.2.1,vz,vz]] fun qU=>jc a 9 fun jO=>bn (α:=(yS8)×Bool×Unit) (u3 prog [.agg tS8,.one .bool] 70 #[vs jO,vi 33]) fun oY=>nw zS8 106 fun iD=>sn iD (lS8
 oY.1) fun _=>bn (α:=Unit) (ie (!oY.2.1) (sw iD 1 (vi 64) fun _=>pu ()) (pu ())) fun lP=>nn p0 fun oX=>kp oX 0 fun fU=>nn fU fun gX=>kp gX 0 fun kf=>ji iD 1 fun gW=>cp 56 #[.pointer kf,vi jo.1] fun
 gQ=>ji iD 1 fun oj=>rq (vi oj) (vi gW)<|cc 73 #[.pointer gQ,vi gW] fun oW=>cx 72 #[.pointer p0,vi jo.1,vs oW] fun qT=>pu ())) (nw zS9 79 fun fD=>jt a 10 fun jv=>rq (.string jv) (.string f)<|kp d 0
 fun jr=>rq (.pointer jr) (.pointer e)<|kp b 0 fun ni=>rq (.pointer ni) (.pointer c)<|bn (α:=(yS9)×Bool×Unit) (u3 prog [.agg tS9,.one .bool] 55 #[.pointer e,.string f]) fun iE=>sn fD (lS9
 iE.1) fun _=>cp 27 #[] fun nh=>jt a 10 fun ng=>bn (α:=Int×Bool×Int×Unit) (u3 prog [.one (.int .i64),.one .bool,.one (.int .u8)] 69 #[.pointer nh,.string ng,.bool false,.bool false]) fun
 kF=>bn (α:=Bool×Unit) (jb a 13 fun nf=>ie nf (kt (ad a 14) 0 fun nc=>cu 12 #[.string nc] fun na=>pu (!(na==0),())) (pu (false,()))) fun mZ=>bn (α:=Int×Unit) (ie mZ.1 (pu (144,())) (nn p0
 fun mY=>kp mY 0 fun mX=>nn mX fun mV=>km mV 3 fun mU=>bn (α:=Int) (A6U mU) fun mT=>bn (α:=Int×Unit) (ie (decide (64≤(mT:Int))) (pu (151,())) (bn (α:=Int×Unit) (ie (!(kF.2.2.1==
 0)) (pu (kF.2.2.1,())) (bn (α:=Bool×Unit) (ie (!iE.2.1) (nn p0 fun mQ=>kp mQ 0 fun mP=>nn mP fun mO=>kp mO 0 fun mN=>cc 42 #[.pointer mN] fun mM=>pu (decide (32≤(mM.len:Int)),())) (pu
 (false,()))) fun mL=>bn (α:=Int×Unit) (ie mL.1 (pu (151,())) (pu (0,()))) fun mK=>pu (mK.1,()))) fun mR=>pu (mR.1,()))) fun mS=>pu (mS.1,()))) fun kE=>ie (!(kE.1==0)) (cx 34 #[.pointer p0,
 vi p1,.agg #[vi 2,.bool false,.bool false,vi 0,vi 0,ve,ve,.int .u8 kE.1,vz,vz,ve,.bool false,vi 0,.bool false,ve,ve,vi 0,.bool false,vz,.bool false,.bool false,ve,ve,.bool false,vz,vz]] fun
 py=>pu ()) (bn (α:=Bool×Unit) (ie iE.2.1 (jb fD 3 fun mJ=>pu (mJ,())) (pu (false,()))) fun mI=>bn (α:=Unit) (ie mI.1 (nn p0 fun kD=>kp kD 0 fun px=>nn px fun gA=>km gA 3 fun mG=>bn (α
 :=Nat) (A90 mG) fun ga=>bn (α:=Unit) (HM.loop (σ:=Unit) (τ:=Unit) (fun ez=>bn (α:=Option (Value×Value)) (A74 ga) fun kC=>A2H kC (ie false (bn (α:=Int×(yS4)) (A4y (.one (.int
 .i64)) (.agg tS4) ga) fun kB=>nw zS4 112 fun kA=>sn kA (lS4 kB.2) fun _=>ji kA 0 fun mF=>ji fD 0 fun mE=>ie (mF==mE) (cx 68 #[.pointer p0,vi kB.1,.int .u8 142] fun pq=>pu (.inr ())) (pu
 (.inl ()))) (pu (.inr ()))) fun(pw:Value×Value)=>ie true (bn (α:=Int×(yS4)) (A4y (.one (.int .i64)) (.agg tS4) ga) fun kr=>nw zS4 112 fun kq=>sn kq (lS4 kr.2) fun _=>ji kq 0 fun mD=>ji fD
 0 fun mC=>ie (mD==mC) (cx 68 #[.pointer p0,vi kr.1,.int .u8 142] fun po=>pu (.inr ())) (pu (.inl ()))) (pu (.inr ()))) ()) fun fZ=>pu ()) (pu ())) fun mH=>jc a 9 fun mB=>bn (α:=(yS8)×Bool×Unit)
 (u3 prog [.agg tS8,.one .bool] 70 #[vs mB,vi 17]) fun mA=>nw zS8 106 fun ko=>sn ko (lS8 mA.1) fun _=>nn p0 fun mz=>kp mz 0 fun my=>nn my fun mw=>kp mw 0 fun mv=>jt a 10 fun mu=>jb a
 11 fun mo=>ji ko 1 fun mn=>bn (α:=Int×Bool×Int×Unit) (u3 prog [.one (.int .i64),.one .bool,.one (.int .u8)] 69 #[.pointer mv,.string mu,.bool mo,.bool (decide (0<(mn:Int)))]) fun
 gY=>bn (α:=Bool×Unit) (ie iE.2.1 (ji fD 0 fun ml=>pu (!(gY.1==ml),())) (pu (false,()))) fun mj=>bn (α:=Unit) (ie mj.1 (nn p0 fun mh=>kp mh 0 fun bl=>nn bl fun bk=>kp bk 1 fun
 sd=>ji fD 0 fun rZ=>ci 71 #[.pointer sd,vi rZ] fun vY=>pu ()) (pu ())) fun mi=>nn p0 fun rY=>kp rY 0 fun rX=>nn rX fun rW=>km rW 3 fun rV=>jb a 13 fun rU=>kt (ad a 14) 0 fun rT=>kt (ad a
 14) 1 fun rS=>ki (ad a 14) 2 fun rR=>kb (ad a 14) 3 fun rQ=>bn (α:=Unit) (A4h (Instr.sameNow (.int .i64)) rV (vi p1) (.agg #[vi gY.1,.bool rU,.string rT,.string rS,vi rR,.bool rQ,ve]))
 fun _=>cx 67 #[.pointer p0,vi p1,.agg #[vi 2,.bool false,.bool false,vi 0,vi 0,ve,ve,.int .u8 0,vz,vz,ve,.bool false,vi 0,.bool false,ve,ve,vi 0,.bool false,vz,.bool false,.bool false,ve,ve,.bool
 gY.2.1,vz,vz]] fun vW=>jc a 9 fun rO=>bn (α:=(yS8)×Bool×Unit) (u3 prog [.agg tS8,.one .bool] 70 #[vs rO,vi 33]) fun pn=>nw zS8 106 fun kl=>sn kl (lS8 pn.1) fun _=>bn (α:=Unit) (ie
 (!pn.2.1) (sw kl 1 (vi 64) fun _=>pu ()) (pu ())) fun vV=>nn p0 fun rN=>kp rN 0 fun rM=>nn rM fun rL=>kp rL 0 fun rK=>ji kl 1 fun pj=>cp 56 #[.pointer rK,vi gY.1] fun rJ=>ji kl 1 fun
 rI=>rq (vi rI) (vi pj)<|cc 73 #[.pointer rJ,vi pj] fun rH=>cx 72 #[.pointer p0,vi gY.1,vs rH] fun vT=>pu ()))
theorem A5n(p0:C9u)(p1:Int)(p2:yS2):HCs 33 #[.pointer p0,.int .i64 p1,.agg (aS3 p2)] (A4w p0 p1 p2) fun x=>.tuple #[]:=
 cE [] [0,1,2,5,6,7,8,9,12,13,14,15,17,18,20,21,44,54,64,68,84,94,102,104,112,147,195] [0,1,2,5,6,7,8,9,12,13,14,15,17,18,20,21,44,54,64,68,84,94,102,104,112,147,195] func33 ntmps33 (CC call55 (CC call27 (CC call69 (CC call12 (CC call42 (CC call34 (CC call68 (CC call70 (CC call71 (CC call67 (CC call56 (CC call73 (CC call72 CN)))))))))))))
def A5P(p0:C9u)(p1:Int)(p2:yS2):HM (Unit):=
 nw (aS3 p2) 45 fun a=>nn p0 fun b=>kc (Addr.add b 2) 0 fun c=>A0R (az a) fun d=>nw #[vi p1,vi d.1,.bool d.2.1,.bool d.2.2.1,vi d.2.2.2.1,vi d.2.2.2.2.1,.string (w5 d),.string (w6 d),.int .u8 (w7 d),vs (w8 d),
 vs (w9 d),.string (w10 d),.bool (w11 d),vi (w12 d),.bool (w13 d),.string (w14 d),.string (w15 d),vi (w16 d),.bool (w17 d),vs (w18 d),.bool (w19 d),.bool (w20 d),.string (w21 d),.string (w22 d),.bool (w23
 d),vs (w24 d),vs (w25 d),.bool true] 50 fun e=>kc (Addr.add b 2) 0 fun f=>rq (vs f) (vs c)<|bn (α:=Slc) (HM.append 50 28 344 zS1 c 1 (V6 28 (⟨some (az e),1,1⟩))) fun g=>nn p0 fun h=>sx (Addr.add (Addr.add h
 2) 0) (vs g) fun _=>pu ()
theorem A6S(p0:C9u)(p1:Int)(p2:yS2):HCs 34 #[.pointer p0,.int .i64 p1,.agg (aS3 p2)] (A5P p0 p1 p2) fun x=>.tuple #[]:=
 cE [] [0,1,2,5] [0,1,2,5] func34 ntmps34 CN
def A5q(p0:B3O):HM (Int×Unit):=
 cb 30 #[.string p0] fun a=>ie (!a) (pu (143,())) (cc 36 #[.string p0] fun b=>bn (α:=(Int×Unit)⊕(Int×Unit)) (HM.loop (σ:=Int×Unit) (τ:=(Int×Unit)⊕(Int×Unit)) (fun c=>ie (decide (c.1<(b.len:Int)))
 (ix b c.1 1 fun d=>lt d fun e=>bn (α:=(Unit)⊕((Int×Unit)⊕((Int×Unit)⊕(Int×Unit)))) (bn (α:=(Unit)⊕((Unit)⊕((Int×Unit)⊕((Int×Unit)⊕(Int×Unit))))) (bn (α:=(Unit)⊕((Unit)⊕((Unit)⊕((Int
 ×Unit)⊕((Int×Unit)⊕(Int×Unit)))))) (cb 31 #[.string e,.string (ByteArray.mk #[35])] fun f=>ie f (pu (.inl ())) (cb 31 #[.string e,.string (ByteArray.mk #[43])] fun g=>ie g (pu (.inr (.inl ()))) (pu (.inr (.inr
 (.inl ())))))) (Sum.elim (fun h=>ie (decide (c.1<((wi ((b.len:Int)-1)):Int))) (pu (.inr (.inr (.inr (.inr (143,())))))) (pu (.inl ()))) X0)) (Sum.elim (fun i=>ie (decide (1<(((ByteArray.size e:Nat):
 Int):Int))) (pu (.inr (.inr (.inr (143,()))))) (pu (.inl ()))) X0)) (Sum.elim (fun j=>pu (.inl (wi (c.1+1),()))) X0)) (pu (.inr (.inl (c.1,()))))) (0,())) (Sum.elim (fun k=>pu (0,())) X0))
theorem A6g(p0:B3O):HCs 35 #[.string p0] (A5q p0) fun x=>.int .u8 x.1:=
 cE [.one (.int .u8)] [0,2,3,4,5,8,11,12,13,14,18,21,28,31] [0,3,4,5,8,11,12,13,14,18,21,28,31] func35 ntmps35 (CC call30 (CC call36 (CC call31 CN)))
def A60(p0:B3O):HM (Slc×Unit):=
 cc 74 #[.string p0,.string (ByteArray.mk #[47])] fun a=>pu (a,())
theorem A4Q(p0:B3O):HCs 36 #[.string p0] (A60 p0) fun x=>.slice x.1.a x.1.len x.1.cap:=
 cE [.one .slc] [0,2] [0] func36 ntmps36 (CC call74 CN)
def A6l(p0:Slc)(p1:Slc)(p2:Value):HM (Bool×Unit):=
 ie (!((p0.len:Int)==(p1.len:Int))) (pu (false,())) (bn (α:=(Int×Unit)⊕(Bool×Unit)) (HM.loop (σ:=Int×Unit) (τ:=(Int×Unit)⊕(Bool×Unit)) (fun a=>ie (decide (a.1<(p0.len:Int))) (ix p0 a.1 1
 fun b=>lt b fun c=>ix p1 a.1 1 fun d=>lt d fun e=>bn (α:=Bool) (B78 prog (.one .bool) p2 #[.string c,.string e]) fun f=>ie (!f) (pu (.inr (.inr (false,())))) (pu (.inl (wi (a.1+1),())))) (pu (.inr (.inl
 (a.1,()))))) (0,())) (Sum.elim (fun g=>pu (true,())) X0))
theorem A63(p0:Slc)(p1:Slc)(p2:Value):HCs 37 #[.slice p0.a p0.len p0.cap,.slice p1.a p1.len p1.cap,p2] (A6l p0 p1 p2) fun x=>.bool x.1:=
 cE [.one .bool] [0,1,2,6,7,8,9,14,15,16,17,18,30] [0,1,2,7,8,9,14,15,16,17,18,30] func37 ntmps37 CN
def A8m(p0:B3O)(p1:B3O):HM (Bool×Unit):=
 bn (α:=Bool×Unit) (ie (decide (p0=(ByteArray.mk #[43]))) (pu (true,())) (pu (decide (p0=p1),()))) fun a=>pu (a.1,())
theorem A8l(p0:B3O)(p1:B3O):HCs 38 #[.string p0,.string p1] (A8m p0 p1) fun x=>.bool x.1:=
 cE [.one .bool] [0,1,4] [0,1] func38 ntmps38 CN
def B3K(p0:Slc):HM (Slc×Slc×Unit):=
 bn (α:=Slc) (HM.slice p0 none (some (if 80<(p0.len:Int) then 80 else(p0.len:Int))) none 4) fun a=>bn (α:=Slc×Slc×Int×Unit) (HM.loop (σ:=Slc×Slc×Int×Unit) (τ:=Slc×Slc×Int×Unit) (fun b=>ie
 (decide (b.2.2.1<(a.len:Int))) (ix a b.2.2.1 4 fun c=>g8 c fun d=>nw zS8 193 fun e=>sn e (lS8 d) fun _=>g8 (az e) fun f=>g8 (az e) fun g=>A0B (nw (aS8 f) 106 fun h=>g8 (az e) fun i=>rq (.agg (aS8 i)) (.agg (aS8
 g))<|A0B (bn (α:=Slc) (HM.append 106 4 48 zS8 b.1 1 (V6 4 (⟨some (az h),1,1⟩))) fun j=>g8 (az e) fun k=>rq (.agg (aS8 k)) (.agg (aS8 g))<|nw (aS8 g) 194 fun l=>g8 (az e) fun m=>rq (.agg (aS8 m)) (.agg (aS8
 f))<|bn (α:=Slc) (HM.append 194 4 48 zS8 b.2.1 1 (V6 4 (⟨some (az l),1,1⟩))) fun n=>pu (.inl (j,n,wi (b.2.2.1+1),()))) (nw (aS8 g) 194 fun o=>g8 (az e) fun p=>rq (.agg (aS8 p)) (.agg (aS8 f))<|bn (α:=
 Slc) (HM.append 106 4 48 zS8 b.1 1 (V6 4 (⟨some (az h),1,1⟩))) fun q=>g8 (az e) fun r=>rq (.agg (aS8 r)) (.agg (aS8 g))<|bn (α:=Slc) (HM.append 194 4 48 zS8 b.2.1 1 (V6 4 (⟨some (az o),1,1⟩))) fun s=>pu
 (.inl (q,s,wi (b.2.2.1+1),())))) (nw (aS8 g) 194 fun t=>g8 (az e) fun u=>rq (.agg (aS8 u)) (.agg (aS8 f))<|nw (aS8 f) 106 fun v=>g8 (az e) fun w=>rq (.agg (aS8 w)) (.agg (aS8 g))<|bn (α:=Slc) (HM.append 106 4 48
 zS8 b.1 1 (V6 4 (⟨some (az v),1,1⟩))) fun x=>g8 (az e) fun y=>rq (.agg (aS8 y)) (.agg (aS8 g))<|bn (α:=Slc) (HM.append 194 4 48 zS8 b.2.1 1 (V6 4 (⟨some (az t),1,1⟩))) fun z=>pu (.inl (x,z,wi (b.2.2.1+
 1),())))) (pu (.inr (b.1,b.2.1,b.2.2.1,())))) (⟨none,0,0⟩,⟨none,0,0⟩,0,())) fun A=>pu (A.1,A.2.1,())
theorem B1F(p0:Slc):HCs 39 #[.slice p0.a p0.len p0.cap] (B3K p0) fun x=>.tuple #[.slice x.1.a x.1.len x.1.cap,.slice x.2.1.a x.2.1.len x.2.1.cap]:=
 cE [.one .slc,.one .slc] [0,2,3,4,5,7,12,13,14,15] [0,4,5,7,12,13,14,15] func39 ntmps39 CN
def A4T(p0:C9u):HM (Slc×Unit):=
 ie (Option.isNone p0) (pu (⟨none,0,0⟩,())) (nn p0 fun a=>km a 1 fun b=>bn (α:=Value) (A1n prog (.one .any) 78 #[.map b]) fun c=>cc 40 #[c] fun d=>bn (α:=Slc×Int×Unit) (HM.loop (σ:=Slc×Int×
 Unit) (τ:=Slc×Int×Unit) (fun e=>ie (decide (e.2.1<(d.len:Int))) (ix d e.2.1 1 fun f=>li f fun g=>nn p0 fun h=>km h 1 fun i=>bn (α:=C9u×Bool) (HM.lookup (Instr.sameNow (.int .i64)) (.pointer none)
 (.one .ptr) i (vi g)) fun j=>nn j.1 fun k=>g9 (Addr.add k 0) fun l=>nw (aS9 l) 79 fun m=>bn (α:=Slc) (HM.append 79 4 32 zS9 e.1 1 (V6 4 (⟨some (az m),1,1⟩))) fun n=>pu (.inl (n,wi (e.2.1+1),()))) (pu (.inr
 (e.1,e.2.1,())))) (⟨none,0,0⟩,0,())) fun o=>pu (o.1,()))
theorem A5U(p0:C9u):HCs 42 #[.pointer p0] (A4T p0) fun x=>.slice x.1.a x.1.len x.1.cap:=
 cE [.one .slc] [0,2,3,5,7,13,14,15,16] [0,3,5,7,13,14,15,16] func42 ntmps42 (CC call78 (CC call40 CN))
def A6R(p0:C9u)(p1:yS7):HM (Unit):=
 nw (aS7 p1) 83 fun a=>jb a 3 fun b=>bn (α:=Unit) (ie b (nn p0 fun c=>kp c 0 fun d=>nn d fun e=>kp e 2 fun f=>jt a 0 fun g=>jt a 1 fun h=>ji a 2 fun i=>cu 79 #[.pointer f,.agg #[.string g,.string h,vi i]] fun j=>pu
 ()) (pu ())) fun k=>nn p0 fun l=>kp l 0 fun m=>nn m fun n=>kp n 1 fun o=>jt a 0 fun p=>cc 80 #[.pointer o,.string p] fun q=>bn (α:=Slc×Unit) (HM.loop (σ:=Slc×Unit) (τ:=Slc×Unit) (fun r=>ie (decide (0<
 (r.1.len:Int))) (ix r.1 0 3 fun s=>ki s 0 fun t=>bn (α:=Int×Slc×Unit) (HM.loop (σ:=Int×Slc×Unit) (τ:=Int×Slc×Unit) (fun u=>bn (α:=Bool×Unit) (ie (decide (0<(u.2.1.len:Int))) (ix u.2.1 0 3 fun
 v=>ki v 0 fun w=>pu (w==t,())) (pu (false,()))) fun x=>ie x.1 (ix u.2.1 0 3 fun y=>ki y 2 fun z=>bn (α:=Slc) (HM.slice u.2.1 (some 1) none none 3) fun A=>pu (.inl (if u.1<(z:Int) then z else u.1,A,()))) (pu
 (.inr (u.1,u.2.1,())))) (0,r.1,())) fun B=>nn p0 fun C=>kp C 0 fun D=>nn D fun E=>kp E 0 fun F=>jt a 0 fun G=>jt a 1 fun H=>ji a 2 fun I=>A0B (cp 56 #[.pointer F,vi t] fun J=>ji a 2 fun K=>rq (vi K) (vi I)<|jt
 a 1 fun L=>rq (.string L) (.string H)<|jt a 0 fun M=>rq (.string M) (.string G)<|jt a 1 fun N=>rq (.string N) (.string H)<|jt a 0 fun O=>rq (.string O) (.string G)<|kp E 0 fun P=>rq (.pointer P) (.pointer F)<|kp C 0
 fun Q=>rq (.pointer Q) (.pointer D)<|bn (α:=Slc×Int×Unit) (u3 prog [.one .slc,.one (.int .u8)] 81 #[.pointer J,.agg #[.string G,.string H,vi (if B.1<(I:Int) then B.1 else I),.bool false,ve]])
 fun R=>cx 72 #[.pointer p0,vi t,vs R.1] fun S=>pu (.inl (B.2.1,()))) (jt a 1 fun T=>rq (.string T) (.string H)<|jt a 0 fun U=>rq (.string U) (.string G)<|kp E 0 fun V=>rq (.pointer V) (.pointer F)<|kp C 0 fun W=>rq
 (.pointer W) (.pointer D)<|cp 56 #[.pointer F,vi t] fun X=>ji a 2 fun Y=>rq (vi Y) (vi I)<|jt a 1 fun Z=>rq (.string Z) (.string H)<|jt a 0 fun kj=>rq (.string kj) (.string G)<|bn (α:=Slc×Int×Unit) (u3
 prog [.one .slc,.one (.int .u8)] 81 #[.pointer X,.agg #[.string G,.string H,vi (if B.1<(I:Int) then B.1 else I),.bool false,ve]]) fun eo=>cx 72 #[.pointer p0,vi t,vs eo.1] fun fi=>pu (.inl (B.2.1,
 ())))) (pu (.inr (r.1,())))) (q,())) fun rP=>pu ()
theorem A7J(p0:C9u)(p1:yS7):HCs 43 #[.pointer p0,.agg (aS7 p1)] (A6R p0 p1) fun x=>.tuple #[]:=
 cE [] [0,1,3,4,5,6,7,10,38,53] [0,1,3,4,5,6,7,10,38,53] func43 ntmps43 (CC call79 (CC call80 (CC call56 (CC call81 (CC call72 CN)))))
def B7o(p0:Int):HM (C9u×Unit):=
 bn (α:=Int×Unit) (ie (decide (p0<(0:Int))) (pu (0,())) (pu (p0,()))) fun a=>bn (α:=Int×Unit) (ie (decide (64<(a.1:Int))) (pu (64,())) (pu (a.1,()))) fun b=>nw #[vi b.1,vz] 220 fun c=>pu (some (az
 c),())
theorem B4b(p0:Int):HCs 45 #[.int .i64 p0] (B7o p0) fun x=>.pointer x.1:=
 cE [.one .ptr] [0,2,4,6] [0,4,6] func45 ntmps45 CN
def B42(p0:C9u)(p1:Int)(p2:Bool):HM (Unit):=
 cx 86 #[.pointer p0,.bool p2] fun a=>cx 87 #[.pointer p0,vi p1,.bool true] fun b=>pu ()
theorem B2t(p0:C9u)(p1:Int)(p2:Bool):HCs 46 #[.pointer p0,.int .i64 p1,.bool p2] (B42 p0 p1 p2) fun x=>.tuple #[]:=
 cE [] [0,1,2] [0,1,2] func46 ntmps46 (CC call86 (CC call87 CN))
def A9M(p0:C9u)(p1:yS7):HM (Unit):=
 nw (aS7 p1) 143 fun a=>cx 86 #[.pointer p0,.bool false] fun b=>g7 (az a) fun c=>cx 88 #[.pointer p0,.agg (aS7 c)] fun d=>pu ()
theorem A9p(p0:C9u)(p1:yS7):HCs 47 #[.pointer p0,.agg (aS7 p1)] (A9M p0 p1) fun x=>.tuple #[]:=
 cE [] [0,1,3] [0,1,3] func47 ntmps47 (CC call86 (CC call88 CN))
def A9L(p0:C9u):HM (Unit):=
 cx 86 #[.pointer p0,.bool false] fun a=>bn (α:=Unit) (HM.loop (σ:=Unit) (τ:=Unit) (fun b=>nn p0 fun c=>kc c 3 fun d=>ie (decide (0<(d.len:Int))) (nn p0 fun e=>kc e 3 fun f=>ix f 0 8 fun g=>ki g 0 fun h=>cx 87
 #[.pointer p0,vi h,.bool false] fun i=>pu (.inl ())) (pu (.inr ()))) ()) fun j=>pu ()
theorem A9o(p0:C9u):HCs 48 #[.pointer p0] (A9L p0) fun x=>.tuple #[]:=
 cE [] [0,9] [0,9] func48 ntmps48 (CC call86 (CC call87 CN))
def B02(p0:C9u)(p1:Int)(p2:yS2)(p3:Bool):HM (Unit):=
 nw (aS2 p2) 70 fun a=>cx 86 #[.pointer p0,.bool p3] fun b=>ci 89 #[.pointer p0,vi p1] fun c=>ie (decide (0≤(c:Int))) (nn p0 fun d=>kp d 0 fun e=>nn p0 fun f=>kc f 3 fun g=>ix g c 8 fun h=>ki h 1 fun i=>cp 90
 #[.pointer e,vi i] fun j=>g2 (az a) fun k=>cx 91 #[.pointer p0,vi p1,.pointer j,.agg (aS2 k)] fun l=>pu ()) (ji a 0 fun m=>ie (m==1) (g2 (az a) fun n=>cx 92 #[.pointer p0,vi p1,.agg (aS2 n)] fun o=>pu ()) (cx 93
 #[.pointer p0,vi p1,.agg #[vi 14,.bool false,.bool false,vi 0,vi 0,ve,ve,vi 130,vz,vz,ve,.bool false,vi 0,.bool false,ve,ve,vi 0,.bool false,vz,.bool false,.bool false,ve,ve,.bool false,vz,vz]]
 fun p=>pu ()))
theorem B0j(p0:C9u)(p1:Int)(p2:yS2)(p3:Bool):HCs 49 #[.pointer p0,.int .i64 p1,.agg (aS2 p2),.bool p3] (B02 p0 p1 p2 p3) fun x=>.tuple #[]:=
 cE [] [0,1,2,3,6,8,9,17,38] [0,1,2,3,6,8,9,17,38] func49 ntmps49 (CC call86 (CC call89 (CC call90 (CC call91 (CC call92 (CC call93 CN))))))
def A9P(p0:Slc)(p1:Slc):HM (Bool×Unit):=
 ie (!((p0.len:Int)==(p1.len:Int))) (pu (false,())) (bn (α:=(Int×Unit)⊕(Bool×Unit)) (HM.loop (σ:=Int×Unit) (τ:=(Int×Unit)⊕(Bool×Unit)) (fun a=>ie (decide (a.1<(p0.len:Int))) (bn (α:=Bool
 ×Unit) (ix p0 a.1 28 fun b=>ki b 0 fun c=>ix p1 a.1 28 fun d=>ki d 0 fun e=>ie (!(c==e)) (A0B (pu (true,())) (pu (true,()))) (ix p0 a.1 28 fun f=>kb f 27 fun g=>ix p1 a.1 28 fun h=>kb h 27 fun i=>ie (!(g==i))
 (A0B (pu (true,())) (pu (true,()))) (ix p0 a.1 28 fun j=>A0R (Addr.add j 1) fun k=>ix p1 a.1 28 fun l=>g2 (Addr.add l 1) fun m=>A0B (nw (aS3 k) 45 fun n=>g2 (Addr.add l 1) fun o=>rq (.agg (aS2 o)) (.agg (aS2
 m))<|nw (aS2 m) 70 fun p=>A0R (Addr.add j 1) fun q=>rq (.agg (aS3 q)) (.agg (aS3 k))<|cb 94 #[.slice (some (az n)) 1 1,.slice (some (az p)) 1 1] fun r=>pu (!r,())) (nw (aS2 m) 70 fun s=>A0R (Addr.add j 1) fun t=>rq
 (.agg (aS3 t)) (.agg (aS3 k))<|nw (aS3 k) 45 fun u=>g2 (Addr.add l 1) fun v=>rq (.agg (aS2 v)) (.agg (aS2 m))<|cb 94 #[.slice (some (az u)) 1 1,.slice (some (az s)) 1 1] fun w=>pu (!w,()))))) fun x=>ie x.1 (pu (.inr
 (.inr (false,())))) (pu (.inl (wi (a.1+1),())))) (pu (.inr (.inl (a.1,()))))) (0,())) (Sum.elim (fun y=>pu (true,())) X0))
theorem A9u(p0:Slc)(p1:Slc):HCs 50 #[.slice p0.a p0.len p0.cap,.slice p1.a p1.len p1.cap] (A9P p0 p1) fun x=>.bool x.1:=
 cE [.one .bool] [0,1,4,5,10,12,13,14,55] [0,1,5,10,12,13,14,55] func50 ntmps50 (CC call94 CN)
def A45(p0:Slc)(p1:Slc):HM (Bool×Unit):=
 ie (!((p0.len:Int)==(p1.len:Int))) (pu (false,())) (bn (α:=(Int×Unit)⊕(Bool×Unit)) (HM.loop (σ:=Int×Unit) (τ:=(Int×Unit)⊕(Bool×Unit)) (fun a=>ie (decide (a.1<(p0.len:Int))) (ix p0 a.1 5
 fun b=>g7 b fun c=>ix p1 a.1 5 fun d=>g7 d fun e=>ie (!((decide (c.1=e.1))&&((decide (c.2.1=e.2.1))&&((c.2.2.1==e.2.2.1)&&((c.2.2.2.1==e.2.2.2.1)&&((decide (c.2.2.2.2.1=e.2.2.2.2.1))&&true)))))) (pu
 (.inr (.inr (false,())))) (pu (.inl (wi (a.1+1),())))) (pu (.inr (.inl (a.1,()))))) (0,())) (Sum.elim (fun f=>pu (true,())) X0))
theorem A50(p0:Slc)(p1:Slc):HCs 51 #[.slice p0.a p0.len p0.cap,.slice p1.a p1.len p1.cap] (A45 p0 p1) fun x=>.bool x.1:=
 cE [.one .bool] [0,1,4,5,10,12,13,14,24] [0,1,5,10,12,13,14,24] func51 ntmps51 CN
end Go.Proofs.YtidlldnlphdhcaaGreatDoor