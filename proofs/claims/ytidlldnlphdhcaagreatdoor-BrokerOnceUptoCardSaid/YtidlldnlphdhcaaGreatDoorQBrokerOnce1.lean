/-
  Our texts, packed by program.
-/
import Derived.Test.YtidlldnlphdhcaaGreatDoorQBrokerOnce0
import Derived.MapKept
import Derived.Below
import Derived.Laws.Append
import Derived.ChangeArms
import Derived.DataReads
import Derived.SizedLaws
import Derived.Handed
import Derived.OpenShut
import Derived.Test.YtidlldnlphdhcaaGreatDoorProg
import Derived.KernelRfl
set_option linter.unusedSimpArgs false
set_option linter.unusedVariables false
set_option maxHeartbeats 16000000
set_option maxRecDepth 100000
namespace Go.H
section
open Go.MapKept (Stamped)
abbrev PH:=Nat→Option Obj
def PH.sub(m:PH)(h:Heap):Prop:=∀k o,m k=some o→h[k]? =some o
def PH.dK(a b:PH):Prop:=∀k,a k=none∨b k=none
def PH.join(a b:PH):PH:=fun k=>match a k with|some o=>some o|none=>b k
abbrev Asn:=PH→Prop
def star(A B:Asn):Asn:=fun m=>∃a b,a.dK b∧m=a.join b∧A a∧B b
def A0Y:List Asn→Asn
 |[]=>fun _=>True
 |A::L=>star A (A0Y L)
def exA{α:Type}(f:α→Asn):Asn:=fun m=>∃x,f x m
def pr(p:Prop):Asn:=fun _=>p
def blk(b:Nat)(o:Obj):Asn:=fun m=>m b=some o
def cells(b:Nat)(cs:D0t):Asn:=exA fun T=>blk b (.cells cs T (0,0))
def old(h0:Heap):Asn:=fun m=>∀(k:Nat) (o:Obj),h0[k]? =some o→m k=some o
def sat(h:Heap)(L:List Asn):Prop:=∃m,PH.sub m h∧A0Y L m
theorem join_none{a b:PH}{k:Nat}(h:a k=none):a.join b k=b k:=by simp[PH.join,h]
theorem A3W{a b:PH}{k:Nat}{o:Obj}(h:a k=some o):a.join b k=some o:=by simp[PH.join,h]
theorem A7I{a b:PH}{k:Nat}{o:Obj}(hd:a.dK b)(h:b k=some o):a.join b k=some o:=by
 rcases hd k with h1|h1
 ·rw[join_none h1];exact h
 ·rw[h] at h1;cases h1
theorem C0P{a b:PH}{h:Heap}(hs:PH.sub (a.join b) h)(hd:a.dK b):PH.sub a h∧PH.sub b h:=
 ⟨fun k o ho=>hs k o (A3W ho),fun k o ho=>hs k o (A7I hd ho)⟩
theorem B49{a b:PH}{h:Heap}(ha:PH.sub a h)(hb:PH.sub b h):PH.sub (a.join b) h:=by
 intro k o ho
 cases hk:a k with
 |some o'=>rw[A3W hk] at ho;cases ho;exact ha k _ hk
 |none=>rw[join_none hk] at ho;exact hb k o ho
theorem join_assoc(a b c:PH):(a.join b).join c=a.join (b.join c):=by
 funext k;simp only[PH.join];cases a k<;>rfl
theorem join_comm{a b:PH}(h:a.dK b):a.join b=b.join a:=by
 funext k;simp only[PH.join]
 rcases h k with h1|h1
 ·rw[h1];cases b k<;>rfl
 ·rw[h1];cases a k<;>rfl
theorem A3Z{a b:PH}(h:a.dK b):b.dK a:=fun k=>(h k).symm
theorem B8x{a b c:PH}(h1:a.dK c)(h2:b.dK c):(a.join b).dK c:=by
 intro k
 rcases h1 k with h|h
 ·rw[join_none h];exact h2 k
 ·exact .inr h
theorem B2l{a b c:PH}(h:(a.join b).dK c)(hd:a.dK b):a.dK c∧b.dK c:=by
 refine⟨fun k=>?_,fun k=>?_⟩
 ·rcases h k with h1|h1
  ·cases hk:a k with
   |none=>exact .inl rfl
   |some o=>rw[A3W hk] at h1;cases h1
  ·exact .inr h1
 ·rcases h k with h1|h1
  ·cases hk:b k with
   |none=>exact .inl rfl
   |some o=>rw[A7I hd hk] at h1;cases h1
  ·exact .inr h1
theorem B0r{A B C:Asn}{m:PH}(h:star (star A B) C m):star A (star B C) m:=by
 obtain⟨ab,c,hd,rfl,⟨a,b,iW,rfl,ha,hb⟩,hc⟩:=h
 obtain⟨h1,h2⟩:=B2l hd iW
 exact⟨a,b.join c,A3Z (B8x (A3Z iW) (A3Z h1)),join_assoc a b c,ha,b,c,h2,rfl,hb,hc⟩
theorem A8I{A B C:Asn}{m:PH}(h:star A (star B C) m):star (star A B) C m:=by
 obtain⟨a,bc,hd,rfl,ha,b,c,iW,rfl,hb,hc⟩:=h
 obtain⟨h1,h2⟩:=B2l (A3Z hd) iW
 exact⟨a.join b,c,B8x (A3Z h2) iW,(join_assoc a b c).symm,⟨a,b,A3Z h1,rfl,ha,hb⟩,hc⟩
theorem C35{A B:Asn}{m:PH}(h:star A B m):star B A m:=by
 obtain⟨a,b,hd,rfl,ha,hb⟩:=h
 exact⟨b,a,A3Z hd,join_comm hd,hb,ha⟩
theorem A0I{A A' B B':Asn}(ha:∀m,A m→A' m)(hb:∀m,B m→B' m){m:PH}(h:star A B m):star A' B' m:=by
 obtain⟨a,b,hd,rfl,h1,h2⟩:=h
 exact⟨a,b,hd,rfl,ha _ h1,hb _ h2⟩
section
variable {h:Heap} {A B C D E F G:Asn} {R:List Asn}
theorem sat.imp(hs:sat h (A::R))(ha:∀m,A m→B m):sat h (B::R):=by
 obtain⟨m,h1,h2⟩:=hs
 exact⟨m,h1,A0I ha (fun _ h=>h) h2⟩
theorem sat.tail{R':List Asn}(hs:sat h (A::R))(hr:∀m,A0Y R m→A0Y R' m):sat h (A::R'):=by
 obtain⟨m,h1,h2⟩:=hs
 exact⟨m,h1,A0I (fun _ h=>h) hr h2⟩
theorem A0f{m:PH}(h:A0Y (A::B::R) m):A0Y (B::A::R) m:=
 B0r (A0I (fun _ h=>C35 h) (fun _ h=>h) (A8I h))
theorem A3M{R R':List Asn}(hr:∀m,A0Y R m→A0Y R' m){m:PH}(h:A0Y (A::R) m):A0Y (A::R') m:=A0I (fun _ h=>h) hr h
theorem sat.p1(hs:sat h (A::B::R)):sat h (B::A::R):=let⟨m,h1,h2⟩:=hs;⟨m,h1,A0f h2⟩
theorem sat.p2(hs:sat h (A::B::C::R)):sat h (C::A::B::R):=(hs.tail fun _=>A0f).p1
theorem sat.p3(hs:sat h (A::B::C::D::R)):sat h (D::A::B::C::R):=(hs.tail fun _ hm=>A0f (A3M (fun _=>A0f) hm)).p1
theorem sat.p4(hs:sat h (A::B::C::D::E::R)):sat h (E::A::B::C::D::R):=(hs.tail fun _ hm=>A0f (A3M (fun _ hm=>A0f (A3M (fun _=>A0f) hm)) hm)).p1
theorem sat.p5(hs:sat h (A::B::C::D::E::F::R)):sat h (F::A::B::C::D::E::R):=
 (hs.tail fun _ hm=>A0f (A3M (fun _ hm=>A0f (A3M (fun _ hm=>A0f (A3M (fun _=>A0f) hm)) hm)) hm)).p1
theorem sat.b2(hs:sat h (C::A::B::R)):sat h (A::B::C::R):=hs.p1.tail fun _=>A0f
theorem sat.drop(hs:sat h (A::R)):sat h R:=by
 obtain⟨m,h1,a,r,hd,rfl,ha,hr⟩:=hs
 exact⟨r,(C0P h1 hd).2,hr⟩
theorem sat.aI:sat h (star A B::R)↔sat h (A::B::R):=
 ⟨fun⟨m,h1,h2⟩=>⟨m,h1,B0r h2⟩,fun⟨m,h1,h2⟩=>⟨m,h1,A8I h2⟩⟩
theorem sat.bA{α:Type}{f:α→Asn}:sat h (exA f::R)↔∃x,sat h (f x::R):=by
 constructor
 ·rintro⟨m,h1,a,r,hd,rfl,⟨x,ha⟩,hr⟩
  exact⟨x,_,h1,a,r,hd,rfl,ha,hr⟩
 ·rintro⟨x,m,h1,a,r,hd,rfl,ha,hr⟩
  exact⟨_,h1,a,r,hd,rfl,⟨x,ha⟩,hr⟩
theorem sat.bB{p:Prop}:sat h (pr p::R)↔p∧sat h R:=by
 constructor
 ·intro hs
  refine⟨?_,hs.drop⟩
  obtain⟨m,h1,a,r,hd,rfl,ha,hr⟩:=hs
  exact ha
 ·rintro⟨hp,m,h1,h2⟩
  refine⟨m,h1,fun _=>none,m,fun k=>.inl rfl,?_,hp,h2⟩
  funext k;rfl
theorem A3g:∀(L R:List Asn) {m:PH},star (A0Y L) (A0Y R) m↔A0Y (L++R) m
 |[],R,m=>by
  constructor
  ·rintro⟨a,b,hd,rfl,-,hb⟩
   exact up R (a.join b) b (fun k o ho=>A7I hd ho) hb
  ·intro hr
   exact⟨fun _=>none,m,fun k=>.inl rfl,by funext k;rfl,trivial,hr⟩
 |A::L,R,m=>by
  constructor
  ·intro hm
   exact A0I (fun _ h=>h) (fun _ h=>(A3g L R).1 h) (B0r hm)
  ·intro hm
   exact A8I (A0I (fun _ h=>h) (fun _ h=>(A3g L R).2 h) hm)
where
 up:∀(R:List Asn) (m m':PH),(∀k o,m' k=some o→m k=some o)→A0Y R m'→A0Y R m
  |[],_,_,_,_=>trivial
  |A::R,m,m',bf,⟨a,b,hd,he,ha,hb⟩=>by
   subst he
   refine⟨a,fun k=>match a k with|some _=>none|none=>m k,fun k=>?_,?_,ha,?_⟩
   ·cases hk:a k with
    |none=>exact .inl rfl
    |some o=>exact .inr (by simp only[hk])
   ·funext k
    cases hk:a k with
    |none=>rw[join_none hk];simp[hk]
    |some o=>rw[A3W hk];exact bf k o (A3W hk)
   ·refine up R _ b (fun k o ho=>?_) hb
    have jo:a k=none:=by
     rcases hd k with h1|h1
     ·exact h1
     ·rw[ho] at h1;cases h1
    simp only[jo]
    exact bf k o (by rw[join_none jo];exact ho)
theorem sat.bV{L:List Asn}:sat h (A0Y L::R)↔sat h (L++R):=
 ⟨fun⟨m,h1,h2⟩=>⟨m,h1,(A3g L R).1 h2⟩,fun⟨m,h1,h2⟩=>⟨m,h1,(A3g L R).2 h2⟩⟩
theorem sat.get{b:Nat}{o:Obj}(hs:sat h (blk b o::R)):h[b]? =some o:=by
 obtain⟨m,h1,a,r,hd,rfl,ha,hr⟩:=hs
 exact h1 b o (A3W ha)
theorem sat.lt{b:Nat}{o:Obj}(hs:sat h (blk b o::R)):b<h.size:=(F8.1 hs.get).1
theorem sat.bI{b:Nat}{o o':Obj}{h':Heap}(hs:sat h (blk b o::R))(hb:h'[b]? =some o')(hk:∀k,k≠b→h'[k]? =h[k]?):sat h' (blk b o'::R):=by
 obtain⟨m,h1,a,r,hd,rfl,ha,hr⟩:=hs
 have vf:r b=none:=by
  rcases hd b with h2|h2
  ·rw[ha] at h2;cases h2
  ·exact h2
 refine⟨PH.join (fun k=>if k=b then some o' else none) r,?_,_,r,fun k=>?_,rfl,by simp[blk],hr⟩
 ·refine B49 (fun k x hx=>?_) (fun k x hx=>?_)
  ·have dP:(if k=b then some o' else none)=some x:=hx
   split at dP
   ·rename_i e;subst e;cases dP;exact hb
   ·cases dP
  ·rw[hk k (fun e=>by subst e;rw[vf] at hx;cases hx)]
   exact(C0P h1 hd).2 k x hx
 ·by_cases e:k=b
  ·subst e;exact .inr vf
  ·exact .inl (by simp[e])
theorem sat.push{o:Obj}(hs:sat h R):sat (h.push o) (blk h.size o::R):=by
 obtain⟨m,h1,hr⟩:=hs
 have hm:m h.size=none:=by
  cases hh:m h.size with
  |none=>rfl
  |some x=>
   have:=h1 _ _ hh
   rw[R5 (by omega)] at this
   cases this
 refine⟨PH.join (fun k=>if k=h.size then some o else none) m,?_,_,m,fun k=>?_,rfl,by simp[blk],hr⟩
 ·refine B49 (fun k x hx=>?_) (fun k x hx=>?_)
  ·have dP:(if k=h.size then some o else none)=some x:=hx
   split at dP
   ·rename_i e;subst e;cases dP;simp
   ·cases dP
  ·have:=h1 k x hx
   have ah:=(F8.1 this).1
   rw[M9,if_neg (by omega)]
   exact this
 ·by_cases e:k=h.size
  ·subst e;exact .inr hm
  ·exact .inl (by simp[e])
theorem sat.dM{h0:Heap}{k:Nat}{o:Obj}(hs:sat h (old h0::R))(hk:h0[k]? =some o):h[k]? =some o:=by
 obtain⟨m,h1,a,r,hd,rfl,ha,hr⟩:=hs
 exact h1 k o (A3W (ha k o hk))
theorem sat_old(h0:Heap):sat h0 [old h0]:=by
 refine⟨fun k=>h0[k]?,fun k o ho=>ho,fun k=>h0[k]?,fun _=>none,fun k=>.inr rfl,?_,fun k o ho=>ho,trivial⟩
 funext k
 simp only[PH.join]
 cases h0[k]? <;>rfl
theorem sat.bY{h0:Heap}{a:Addr}{v:Value}(hs:sat h (old h0::R))(hc:W3 h0 a=some v):W3 h a=some v:=by
 unfold W3 at hc⊢
 cases hb:h0[a.block]? with
 |none=>simp[hb] at hc
 |some o=>rw[hs.dM hb];rw[hb] at hc;exact hc
theorem A2s{b:Nat}{cs:D0t}:sat h (cells b cs::R)↔∃T,sat h (blk b (.cells cs T (0,0))::R):=sat.bA
theorem sat.cell{b:Nat}{cs:D0t}(hs:sat h (cells b cs::R))(i:Nat):W3 h ⟨b,i,none⟩=cs[i]? :=by
 obtain⟨T,hs⟩:=A2s.1 hs
 simp[W3,hs.get]
theorem sat.free{b:Nat}{cs:D0t}(hs:sat h (cells b cs::R))(i:Nat):A2q h ⟨b,i,none⟩=false:=by
 obtain⟨T,hs⟩:=A2s.1 hs
 simp[A2q,hs.get]
theorem sat.fC{b:Nat}{cs:D0t}(hs:sat h (cells b cs::R)):b<h.size:=by
 obtain⟨T,hs⟩:=A2s.1 hs
 exact hs.lt
theorem sat.set{b:Nat}{cs:D0t}(hs:sat h (cells b cs::R))(i:Nat)(v:Value):sat (A2A h ⟨b,i,none⟩ v) (cells b (cs.setIfInBounds i v)::R):=by
 obtain⟨T,hs⟩:=A2s.1 hs
 refine A2s.2 ⟨T,hs.bI ?_ ?_⟩
 ·simp[A2A,O3,hs.get]
 ·intro k hk
  simp only[A2A,O3]
  rw[if_neg (fun e=>hk e.symm)]
theorem sat.bG{T:TypeId}{cs:D0t}(hs:sat h R):sat (h.push (.cells cs T)) (cells h.size cs::R):=A2s.2 ⟨T,hs.push⟩
end
section
variable {α β:Type} {h:Heap} {Q:α→Heap→Prop} {R:List Asn}
@[simp] theorem V2 (a:α):X2 a h Q=Q a h:=rfl
@[simp] theorem U2 (m:HM β) (f:β→HM α):HM.bind m f h Q=m h (fun b h'=>f b h' Q):=rfl
@[simp] theorem U9 (b:Bool) (x y:HM α):A1v b x y h Q=if b=true then x h Q else y h Q:=rfl
@[simp] theorem D0p (x y:HM α):A0L x y h Q=(x h Q∧y h Q):=rfl
@[simp] theorem C7W (p:Prop) (m:HM α):A3d p m h Q=(p∧m h Q):=rfl
@[simp] theorem D0q:(U5:HM α) h Q=False:=rfl
@[simp] theorem C90 (a:Addr) (Q:Addr→Heap→Prop):A8r (some a) h Q=Q a h:=by simp[A8r]
theorem C8a{t:Tag}{a:Addr}{x:t.ty}{Q:t.ty→Heap→Prop}(hc:W3 h a=some (t.val x))(hq:Q x h):p8 t a h Q:=⟨x,hc,hq⟩
@[simp] theorem Addr.bN (b o n:Nat):Addr.add ⟨b,o,none⟩ n=⟨b,o+n,none⟩:=by
 cases n<;>simp[Addr.add]
@[simp] theorem C9m (k:IntKind) (a:Addr) (Q:Int→Heap→Prop):p8 (.int k) a h Q=∃x,W3 h a=some (.int k x)∧Q x h:=rfl
@[simp] theorem C8z (a:Addr) (Q:Bool→Heap→Prop):p8 .bool a h Q=∃x,W3 h a=some (.bool x)∧Q x h:=rfl
@[simp] theorem C9i (a:Addr) (Q:B38→Heap→Prop):p8 .str a h Q=∃x,W3 h a=some (.string x)∧Q x h:=rfl
@[simp] theorem C9k (a:Addr) (Q:D0s→Heap→Prop):p8 .ptr a h Q=∃x,W3 h a=some (.pointer x)∧Q x h:=rfl
@[simp] theorem C9l (a:Addr) (Q:Option Nat→Heap→Prop):p8 .map a h Q=∃x,W3 h a=some (.map x)∧Q x h:=rfl
@[simp] theorem C9n (a:Addr) (Q:Value→Heap→Prop):p8 .any a h Q=∃x,W3 h a=some x∧Q x h:=rfl
def C5x:Option Value→Option Slc
 |some (.slice p n c)=>some ⟨p,n,c⟩
 |_=>none
@[simp] theorem C7Z (p:D0s) (n c:Nat):C5x (some (.slice p n c))=some ⟨p,n,c⟩:=rfl
@[simp] theorem Slc.eta (s:Slc):(⟨s.a,s.len,s.cap⟩:Slc)=s:=rfl
@[simp] theorem C9j (a:Addr) (Q:Slc→Heap→Prop):p8 .slc a h Q=∃x,C5x (W3 h a)=some x∧Q x h:=by
 refine propext ⟨fun⟨x,h1,h2⟩=>⟨x,by rw[h1];rfl,h2⟩,fun⟨x,h1,h2⟩=>⟨x,?_,h2⟩⟩
 unfold C5x at h1
 split at h1
 ·rename_i e;rw[e];cases h1;rfl
 ·cases h1
theorem W7{b:Nat}{cs:D0t}{i:Nat}{v:Value}{Q:Unit→Heap→Prop}(hs:sat h (cells b cs::R))(hi:i<cs.size)(hv:v.oneCell'=true)
  (hq:∀h',sat h' (cells b (cs.setIfInBounds i v)::R)→Q () h'):A7e ⟨b,i,none⟩ v h Q:=
 ⟨by rw[hs.cell i];simp[hi],hs.free i,hv,hq _ (hs.set i v)⟩
theorem V6{cs:D0t}{T:TypeId}{Q:Nat→Heap→Prop}(hs:sat h R)(hq:∀b h',sat h' (cells b cs::R)→Q b h'):HM.new (.cells cs T) h Q:=hq _ _ hs.bG
theorem C7u{o:Obj}{Q:Nat→Heap→Prop}(hs:sat h R)(hq:∀b h',sat h' (blk b o::R)→Q b h'):HM.new o h Q:=hq _ _ hs.push
def Kind.un(k:Kind)(Q:k.ty→Heap→Prop)(v:Value)(h:Heap):Prop:=∃x,v=k.val x∧Q x h
def r9.un(ks:List Kind)(Q:r9 ks→Heap→Prop)(v:Value)(h:Heap):Prop:=∃x,v=.tuple (r9.cC ks x).toArray∧Q x h
@[simp] theorem C61 (P:Program) (k:Kind) (f:FuncId) (args:D0t) (Q:k.ty→Heap→Prop):A1z P k f args h Q=V4 P f args h (k.un Q):=rfl
@[simp] theorem D0r (P:Program) (ks:List Kind) (f:FuncId) (args:D0t) (Q:r9 ks→Heap→Prop):y5 P ks f args h Q=V4 P f args h (r9.un ks Q):=rfl
@[simp] theorem D0f (k:IntKind) (Q:Int→Heap→Prop) (n:Int):Kind.un (.one (.int k)) Q (.int k n) h=Q n h:=by simp[Kind.un,Kind.val,Tag.val]
@[simp] theorem C7a (Q:Bool→Heap→Prop) (b:Bool):Kind.un (.one .bool) Q (.bool b) h=Q b h:=by
 simp only[Kind.un,Kind.val,Tag.val,Value.bool.injEq]
 exact propext ⟨fun⟨x,h1,h2⟩=>h1▸h2,fun h=>⟨b,rfl,h⟩⟩
@[simp] theorem D0d (Q:B38→Heap→Prop) (b:B38):Kind.un (.one .str) Q (.string b) h=Q b h:=by simp[Kind.un,Kind.val,Tag.val]
@[simp] theorem C8e (Q:D0s→Heap→Prop) (b:D0s):Kind.un (.one .ptr) Q (.pointer b) h=Q b h:=by simp[Kind.un,Kind.val,Tag.val]
@[simp] theorem D0e (Q:Option Nat→Heap→Prop) (b:Option Nat):Kind.un (.one .map) Q (.map b) h=Q b h:=by simp[Kind.un,Kind.val,Tag.val]
@[simp] theorem C5j (Q:Value→Heap→Prop) (b:Value):Kind.un (.one .any) Q b h=Q b h:=by simp[Kind.un,Kind.val,Tag.val]
@[simp] theorem C1C (Q:Slc→Heap→Prop) (a:D0s) (n c:Nat):Kind.un (.one .slc) Q (.slice a n c) h=Q ⟨a,n,c⟩ h:=by
 refine propext ⟨?_,fun hq=>⟨⟨a,n,c⟩,rfl,hq⟩⟩
 rintro⟨x,h1,h2⟩
 cases h1
 exact h2
theorem U7{β:Type}{P:Program}{k:Kind}{f:FuncId}{args:D0t}{g:k.ty→HM β}{h:Heap}{Q:β→Heap→Prop}(hc:V4 P f args h (k.un fun x h'=>g x h' Q)):(HM.bind (A1z P k f args) g) h Q:=hc
theorem u0{β:Type}{P:Program}{ks:List Kind}{f:FuncId}{args:D0t}{g:r9 ks→HM β}{h:Heap}{Q:β→Heap→Prop}(hc:V4 P f args h (r9.un ks fun x h'=>g x h' Q)):(HM.bind (y5 P ks f args) g) h Q:=hc
@[simp] theorem un2 (k l:Kind) (Q:r9 [k,l]→Heap→Prop) (v w:Value):r9.un [k,l] Q (.tuple #[v,w]) h=k.un (fun x _=>l.un (fun y h=>Q (x,y,()) h) w h) v h:=by
 refine propext ⟨?_,?_⟩
 ·rintro⟨⟨x,y,u⟩,h1,h2⟩
  have h1:#[v,w]=[k.val x,l.val y].toArray:=Value.tuple.inj h1
  have h1:=congrArg Array.toList h1
  simp at h1
  exact⟨x,h1.1,y,h1.2,h2⟩
 ·rintro⟨x,h1,y,h2,h3⟩
  exact⟨(x,y,()),by rw[h1,h2];rfl,h3⟩
@[simp] theorem un3 (k l m:Kind) (Q:r9 [k,l,m]→Heap→Prop) (v w z:Value):r9.un [k,l,m] Q (.tuple #[v,w,z]) h=k.un (fun x _=>l.un (fun y _=>m.un (fun t h=>Q (x,y,t,()) h) z h) w h) v h:=by
 refine propext ⟨?_,?_⟩
 ·rintro⟨⟨x,y,t,u⟩,h1,h2⟩
  have h1:#[v,w,z]=[k.val x,l.val y,m.val t].toArray:=Value.tuple.inj h1
  have h1:=congrArg Array.toList h1
  simp at h1
  exact⟨x,h1.1,y,h1.2.1,t,h1.2.2,h2⟩
 ·rintro⟨x,h1,y,h2,t,h3,h4⟩
  exact⟨(x,y,t,()),by rw[h1,h2,h3];rfl,h4⟩
@[simp] theorem un0 (Q:r9 []→Heap→Prop):r9.un [] Q (.tuple #[]) h=Q () h:=by
 refine propext ⟨fun⟨x,_,h2⟩=>h2,fun h=>⟨(),rfl,h⟩⟩
@[simp] theorem D0b (x:Unit):packed [] x=.tuple #[]:=rfl
@[simp] theorem D0a (k:Kind) (x:k.ty):packed [k] (x,())=k.val x:=rfl
@[simp] theorem C99 (k l:Kind) (x:k.ty) (y:l.ty):packed [k,l] (x,y,())=.tuple #[k.val x,l.val y]:=rfl
@[simp] theorem C98 (k l m:Kind) (x:k.ty) (y:l.ty) (z:m.ty):packed [k,l,m] (x,y,z,())=.tuple #[k.val x,l.val y,m.val z]:=rfl
@[simp] theorem val_one (t:Tag) (x:t.ty):Kind.val (.one t) x=t.val x:=rfl
@[simp] theorem C96 (k:IntKind) (x:Int):Tag.val (.int k) x=.int k x:=rfl
@[simp] theorem C9o (x:Bool):Tag.val .bool x=.bool x:=rfl
@[simp] theorem C92 (x:B38):Tag.val .str x=.string x:=rfl
@[simp] theorem C94 (x:D0s):Tag.val .ptr x=.pointer x:=rfl
@[simp] theorem C95 (x:Option Nat):Tag.val .map x=.map x:=rfl
@[simp] theorem C97 (x:Value):Tag.val .any x=x:=rfl
@[simp] theorem C93 (x:Slc):Tag.val .slc x=.slice x.a x.len x.cap:=rfl
@[simp] theorem D0j {k:IntKind} {n:Int} {Q:Int→Prop}:(∃x:Int,Value.int k n=.int k x∧Q x)=Q n:=by simp
theorem D0c{σ τ:Type}{body:σ→HM (σ⊕τ)}{s:σ}{Q:τ→Heap→Prop}(I:σ→Heap→Prop)(μ:σ→Heap→Nat)(h0:I s h)(hr:∀s h,I s h→body s h fun r h'=>match r with
   |.inl s'=>I s' h'∧μ s' h'<μ s h
   |.inr t=>Q t h'):HM.loop body s h Q:=⟨I,μ,h0,hr⟩
theorem C2i{σ τ:Type}{body:σ→HM (σ⊕τ)}{s:σ}{h:Heap}{Q:τ→Heap→Prop}(I:Nat→σ→Heap→Prop){n:Nat}(h0:I n s h)
  (hr:∀n s h,I n s h→body s h fun r h'=>match r with
   |.inl s'=>∃m,m<n∧I m s' h'
   |.inr t=>Q t h')(qB:∀s h (Q1 Q2:σ⊕τ→Heap→Prop),(∀r h',Q1 r h'→Q2 r h')→body s h Q1→body s h Q2):HM.loop body s h Q:=by
 classical
 have least:∀s h,(∃n,I n s h)→∃n,I n s h∧∀m,I m s h→n≤m:=by
  intro s h ⟨n,hn⟩
  induction n using Nat.strongRecOn with
  |_ n ih=>
   by_cases hx:∃m,m<n∧I m s h
   ·obtain⟨m,hm,hi⟩:=hx;exact ih m hm hi
   ·exact⟨n,hn,fun m hm=>by
     rcases S9 m n with ah|qM
     ·exact absurd ⟨m,ah,hm⟩ hx
     ·exact qM⟩
 refine⟨fun s h=>∃n,I n s h,fun s h=>if hx:∃n,I n s h then Classical.choose (least s h hx) else 0,⟨n,h0⟩,fun s h hx=>?_⟩
 obtain⟨fy,eH⟩:=Q0 (least s h hx)
 refine qB s h _ _ ?_ (hr _ s h fy)
 intro r h' hq
 cases r with
 |inr t=>exact hq
 |inl s'=>
  obtain⟨m,hm,hi⟩:=hq
  have dP:∃n,I n s' h':=⟨m,hi⟩
  refine⟨dP,?_⟩
  simp only[dif_pos hx,dif_pos dP]
  obtain⟨_,iz⟩:=Q0 (least s' h' dP)
  exact Nat.lt_of_le_of_lt (iz m hi) hm
end
section
variable {K V:Type} [DecidableEq K]
def W4(l:List (K×V))(k:K):Option V:=(l.find? (fun p=>decide (p.1=k))).map (·.2)
def mset:List (K×V)→K→V→List (K×V)
 |[],k,v=>[(k,v)]
 |(a,b)::l,k,v=>if a=k then(k,v)::l else(a,b)::mset l k v
def mdel:List (K×V)→K→List (K×V)
 |[],_=>[]
 |(a,b)::l,k=>if a=k then l else(a,b)::mdel l k
@[simp] theorem B5S (k:K):W4 ([]:List (K×V)) k=none:=rfl
theorem Y5(a:K)(b:V)(l:List (K×V))(k:K):W4 ((a,b)::l) k=if a=k then some b else W4 l k:=by
 by_cases h:a=k<;>simp[W4,List.find?,h]
theorem j0(l:List (K×V))(k:K)(v:V)(k':K):W4 (mset l k v) k'=if k=k' then some v else W4 l k':=by
 induction l with
 |nil=>simp[mset,Y5]
 |cons p l ih=>
  obtain⟨a,b⟩:=p
  simp only[mset]
  by_cases h:a=k
  ·rw[if_pos h,Y5,Y5]
   by_cases h':k=k'
   ·simp[h']
   ·rw[if_neg h',if_neg h',if_neg (by rw[h];exact h')]
  ·rw[if_neg h,Y5,Y5,ih]
   by_cases h':k=k'
   ·subst h';simp[h]
   ·simp[h']
def A6v(ek:K→Value)(ev:V→Value)(l:List (K×V))(es:List MapEntry):Prop:=es.map (fun e=>(e.key,e.val))=l.map (fun p=>(ek p.1,ev p.2))
structure KeyLaw(kd:A2E)(ek:K→Value):Prop where
 same:∀a b,kd (ek a) (ek b)=some (decide (a=b))
 bits:∀a,Instr.sameBits 10000 (ek a) (ek a)=true
theorem B1J{kd:A2E}{ek:K→Value}(hk:KeyLaw kd ek){ev:V→Value}(k:K):∀(l:List (K×V)) (es:List MapEntry) (i:Nat),A6v ek ev l es→
  (W4 l k=none∧A1b kd (ek k) es i=some none)∨∃v j e,W4 l k=some v∧A1b kd (ek k) es i=some (some (i+j,ev v))∧es[j]? =some e∧e.key=ek k
 |[],[],i,_=>.inl ⟨rfl,rfl⟩
 |[],_::_,i,h=>by simp[A6v] at h
 |_::_,[],i,h=>by simp[A6v] at h
 |(a,b)::l,e::es,i,h=>by
  simp only[A6v,B6,List.cons.injEq,Prod.mk.injEq] at h
  obtain⟨⟨h1,h2⟩,h3⟩:=h
  simp only[A1b,h1,hk.same,Y5]
  by_cases jN:k=a
  ·subst jN
   right
   exact⟨b,0,e,by simp,by simp[h2],rfl,h1⟩
  ·have jo:¬a=k:=fun hh=>jN hh.symm
   simp only[jN,jo,decide_false,if_false]
   rcases B1J hk k l es (i+1) h3 with⟨h4,h5⟩|⟨v,j,e',h4,h5,h6,h7⟩
   ·exact .inl ⟨h4,h5⟩
   ·exact .inr ⟨v,j+1,e',h4,by rw[h5];congr 3;omega,by simpa using h6,h7⟩
theorem C06{ek:K→Value}(gN:∀a b,ek a=ek b→a=b){ev:V→Value}(k:K)(x:V):∀(l:List (K×V)) (es:List MapEntry),A6v ek ev l es→∀(i:Nat) (o:Nat×Value) (kd:A2E),KeyLaw kd ek→
  A1b kd (ek k) es i=some (some o)→A6v ek ev (mset l k x) (es.modify (o.1-i) fun e=>{e with key:=ek k,val:=ev x})∧i≤o.1
 |[],[],_,i,o,kd,_,hf=>by simp[A1b] at hf
 |[],_::_,h,_,_,_,_,_=>by simp[A6v] at h
 |_::_,[],h,_,_,_,_,_=>by simp[A6v] at h
 |(a,b)::l,e::es,h,i,o,kd,hk,hf=>by
  simp only[A6v,B6,List.cons.injEq,Prod.mk.injEq] at h
  obtain⟨⟨h1,h2⟩,h3⟩:=h
  simp only[A1b,h1,hk.same] at hf
  by_cases jN:k=a
  ·subst jN
   simp only[decide_true,F6] at hf
   subst hf
   simp only[Q3,mset,if_true]
   refine⟨?_,D8 _⟩
   simp[A6v,List.modify_zero_cons] at h3⊢
   exact h3
  ·simp only[jN,decide_false] at hf
   obtain⟨h4,h5⟩:=C06 gN k x l es h3 (i+1) o kd hk hf
   refine⟨?_,by omega⟩
   rw[show o.1-i=(o.1-(i+1))+1 from by omega]
   simp only[mset,if_neg (fun hh:a=k=>jN hh.symm),List.modify_succ_cons]
   simp only[A6v,B6,h1,h2]
   rw[h4]
theorem A2o:∀(l:List (K×V)) (k:K) (v:V),W4 l k=none→mset l k v=l++[(k,v)]
 |[],_,_,_=>rfl
 |(a,b)::l,k,v,h=>by
  rw[Y5] at h
  by_cases jo:a=k
  ·rw[if_pos jo] at h;cases h
  ·rw[if_neg jo] at h
   simp only[mset,if_neg jo,G3,A2o l k v h]
theorem C07{ek:K→Value}{ev:V→Value}(k:K):∀(l:List (K×V)) (es:List MapEntry),A6v ek ev l es→∀(i:Nat) (o:Nat×Value) (kd:A2E),KeyLaw kd ek→
  A1b kd (ek k) es i=some (some o)→A6v ek ev (mdel l k) (es.eraseIdx (o.1-i))∧i≤o.1
 |[],[],_,i,o,kd,_,hf=>by simp[A1b] at hf
 |[],_::_,h,_,_,_,_,_=>by simp[A6v] at h
 |_::_,[],h,_,_,_,_,_=>by simp[A6v] at h
 |(a,b)::l,e::es,h,i,o,kd,hk,hf=>by
  simp only[A6v,B6,List.cons.injEq,Prod.mk.injEq] at h
  obtain⟨⟨h1,h2⟩,h3⟩:=h
  simp only[A1b,h1,hk.same] at hf
  by_cases jN:k=a
  ·subst jN
   simp only[decide_true,F6] at hf
   subst hf
   simp only[Q3,mdel,if_true]
   exact⟨h3,D8 _⟩
  ·simp only[jN,decide_false] at hf
   obtain⟨h4,h5⟩:=C07 k l es h3 (i+1) o kd hk hf
   refine⟨?_,by omega⟩
   rw[show o.1-i=(o.1-(i+1))+1 from by omega]
   simp only[mdel,if_neg (fun hh:a=k=>jN hh.symm),List.eraseIdx_cons_succ]
   simp only[A6v,B6,h1,h2]
   rw[h4]
theorem B8c:∀(l:List (K×V)) (k:K),W4 l k=none→mdel l k=l
 |[],_,_=>rfl
 |(a,b)::l,k,h=>by
  rw[Y5] at h
  by_cases jo:a=k
  ·rw[if_pos jo] at h;cases h
  ·rw[if_neg jo] at h
   simp only[mdel,if_neg jo,B8c l k h]
end
section
variable {K V:Type}
def mapA(ek:K→Value)(ev:V→Value)(r:Nat)(l:List (K×V)):Asn:=
 exA fun x:Array MapEntry×Nat=>star (pr (A6v ek ev l x.1.toList∧Stamped x.1 x.2)) (blk r (.map x.1 x.2))
variable {h:Heap} {R:List Asn} {ek:K→Value}
theorem A1j{ev:V→Value}{r:Nat}{l:List (K×V)}:sat h (mapA ek ev r l::R)↔∃es clock,(A6v ek ev l es.toList∧Stamped es clock)∧sat h (blk r (.map es clock)::R):=by
 unfold mapA
 rw[sat.bA]
 constructor
 ·rintro⟨⟨es,c⟩,hs⟩
  rw[sat.aI,sat.bB] at hs
  exact⟨es,c,hs⟩
 ·rintro⟨es,c,hs⟩
  exact⟨(es,c),by rw[sat.aI,sat.bB];exact hs⟩
theorem A5S{ev:V→Value}{Q:Nat→Heap→Prop}(hs:sat h R)(hq:∀r h',sat h' (mapA ek ev r []::R)→Q r h'):HM.new (.map #[] 0) h Q:=
 C7u hs fun r h' af=>hq r h' (A1j.2 ⟨#[],0,⟨rfl,Go.MapKept.stamped_empty 0⟩,af⟩)
theorem A9q{ev:V→Value}{r:Nat}{l:List (K×V)}{Q:Int→Heap→Prop}(hs:sat h (mapA ek ev r l::R))(hq:Q (l.length:Int) h):A6b (some r) h Q:=by
 obtain⟨es,c,⟨he,bL⟩,hs⟩:=A1j.1 hs
 refine⟨es.toList,c,by simpa[A88] using hs.get,?_⟩
 have:=congrArg List.length he
 simp at this
 simpa[this] using hq
theorem sat.bJ{ev:V→Value}{r:Nat}{l:List (K×V)}(hs:sat h (mapA ek ev r l::R)):(l.map (·.1)).Nodup:=by
 obtain⟨es,c,⟨he,bL⟩,hs⟩:=A1j.1 hs
 have hk:=bL.2.2
 have e:es.toList.map (·.key)=(l.map (·.1)).map ek:=by
  have:=congrArg (List.map Prod.fst) he
  simpa[Q8] using this
 rw[e] at hk
 exact List.Pairwise.of_map ek (fun a b bF db=>bF (congrArg ek db)) hk
end
section
variable {K V:Type} [DecidableEq K] {h:Heap} {R:List Asn} {ek:K→Value}
theorem y7{kd:A2E}(hk:KeyLaw kd ek){kind:Kind}{z:kind.ty}{zero:Value}(hz:zero=kind.val z){r:Nat}{l:List (K×kind.ty)}{k:K}{Q:kind.ty×Bool→Heap→Prop}
  (hs:sat h (mapA ek kind.val r l::R))(hq:Q ((W4 l k).getD z,(W4 l k).isSome) h):HM.lookup kd zero kind (some r) (ek k) h Q:=by
 obtain⟨es,c,⟨he,bL⟩,hs⟩:=A1j.1 hs
 rcases B1J hk k l es.toList 0 he with⟨h1,h2⟩|⟨v,j,e,h1,h2,-,-⟩
 ·refine⟨es.toList,c,none,z,by simpa[A88] using hs.get,h2,hz,?_⟩
  rw[h1] at hq;exact hq
 ·refine⟨es.toList,c,some (0+j,kind.val v),v,by simpa[A88] using hs.get,h2,rfl,?_⟩
  rw[h1] at hq;exact hq
theorem A1t(l:List (K×V))(k:K):W4 l k=none↔k∉l.map (·.1):=by
 induction l with
 |nil=>simp
 |cons p l ih=>
  obtain⟨a,b⟩:=p
  rw[Y5]
  by_cases h:a=k
  ·simp[h]
  ·rw[if_neg h,ih]
   simp[Ne.symm h]
theorem A34{kd:A2E}(hk:KeyLaw kd ek)(gN:∀a b,ek a=ek b→a=b){ev:V→Value}{r:Nat}{l:List (K×V)}{k:K}{x:V}{Q:Unit→Heap→Prop}
  (hs:sat h (mapA ek ev r l::R))(hq:∀h',sat h' (mapA ek ev r (mset l k x)::R)→Q () h'):A2F kd (some r) (ek k) (ev x) h Q:=by
 obtain⟨es,c,⟨he,bL⟩,hs⟩:=A1j.1 hs
 have ah:=hs.lt
 rcases B1J hk k l es.toList 0 he with⟨h1,h2⟩|⟨v,j,e,h1,h2,h3,h4⟩
 ·refine⟨r,es,c,none,rfl,hs.get,h2,hq _ (A1j.2 ⟨_,_,⟨?_,?_⟩,hs.bI (o':=.map (es.push {key:=ek k,val:=ev x,born:=c}) (c+1)) (by simp[ah]) (fun k hk=>?_)⟩)⟩
  ·rw[A2o l k x h1]
   simp only[A6v,Array.toList_push,C0,B6,I3]
   rw[he]
  ·refine Go.MapKept.stamped_push bL fun y hy wU=>?_
   have e:es.toList.map (·.key)=(l.map (·.1)).map ek:=by
    have:=congrArg (List.map Prod.fst) he
    simpa[Q8] using this
   have hm:ek k∈(l.map (·.1)).map ek:=by rw[←e,←wU];exact B3 hy
   obtain⟨k',gX,jl⟩:=E4.1 hm
   exact(A1t l k).1 h1 (gN _ _ jl▸gX)
  ·rw[H6,if_neg (fun e=>hk e.symm)]
 ·have wj:es[0+j]? =some e:=by simpa using h3
  refine⟨r,es,c,some (0+j,ev v),rfl,hs.get,h2,?_,hk.bits k,hq _ (A1j.2 ⟨_,_,⟨?_,?_⟩,hs.bI (o':=.map (es.modify (0+j) fun e=>{e with key:=ek k,val:=ev x}) c) (by simp[ah]) (fun k hk=>?_)⟩)⟩
  ·rw[wj];exact h4
  ·have:=(C06 gN k x l es.toList he 0 _ kd hk h2).1
   simpa using this
  ·refine Go.MapKept.stamped_modify bL _ _ (fun _ _=>rfl) (fun e' _ jl=>?_)
   rw[wj] at jl
   cases jl
   exact h4.symm
  ·rw[H6,if_neg (fun e=>hk e.symm)]
theorem A55{kd:A2E}(hk:KeyLaw kd ek){ev:V→Value}{r:Nat}{l:List (K×V)}{k:K}{Q:Unit→Heap→Prop}
  (hs:sat h (mapA ek ev r l::R))(hq:∀h',sat h' (mapA ek ev r (mdel l k)::R)→Q () h'):A6a kd (some r) (ek k) h Q:=by
 obtain⟨es,c,⟨he,bL⟩,hs⟩:=A1j.1 hs
 have ah:=hs.lt
 rcases B1J hk k l es.toList 0 he with⟨h1,h2⟩|⟨v,j,e,h1,h2,h3,h4⟩
 ·refine⟨es,c,none,hs.get,h2,hq _ (A1j.2 ⟨es,c,⟨by rw[B8c l k h1];exact he,bL⟩,hs.bI (by simp[ah]) (fun k hk=>?_)⟩)⟩
  rw[H6,if_neg (fun e=>hk e.symm)]
 ·refine⟨es,c,some (0+j,ev v),hs.get,h2,hq _ (A1j.2 ⟨_,_,⟨?_,Go.MapKept.stamped_erase bL (0+j)⟩,hs.bI (o':=.map (es.eraseIdxIfInBounds (0+j)) c) (by simp[ah]) (fun k hk=>?_)⟩)⟩
  ·have:=(C07 k l es.toList he 0 _ kd hk h2).1
   have hj:j<es.size:=by
    have:=(E0.1 h3).1
    simpa using this
   simpa[Array.eraseIdxIfInBounds,hj] using this
  ·rw[H6,if_neg (fun e=>hk e.symm)]
end
theorem B9n(k:IntKind):KeyLaw (Instr.sameNow (.int k)) (fun n:Int=>Value.int k n):=⟨fun a b=>by simp[Instr.sameNow];exact Bool.eq_iff_iff.2 (by simp),fun a=>by simp[Instr.sameBits]⟩
theorem A9t:KeyLaw (Instr.sameNow .string) (fun s:B38=>Value.string s):=⟨fun a b=>by
 simp only[Instr.sameNow,F6]
 exact(beq_toListBytes a b).trans (C1K a b),fun a=>by simp[Instr.sameBits,beq_toListBytes]⟩
theorem C3A:∀a b:B38,Value.string a=Value.string b→a=b:=fun a b h=>by cases h;rfl
theorem A9w(k:IntKind):∀a b:Int,Value.int k a=Value.int k b→a=b:=fun a b h=>by cases h;rfl
end
section
class A0o {α:Type} (m:HM α):Prop where
 mono:∀(h:Heap) (Q1 Q2:α→Heap→Prop),(∀a h',Q1 a h'→Q2 a h')→m h Q1→m h Q2
section
variable {α β σ τ:Type}
instance C9f(a:α):A0o (X2 a):=⟨fun _ _ _ hq hm=>hq _ _ hm⟩
instance A0z(m:HM α)(f:α→HM β)[A0o m][hf:∀a,A0o (f a)]:A0o (HM.bind m f):=
 ⟨fun h _ _ hq hm=>A0o.mono (m:=m) h _ _ (fun a h' hx=>(hf a).mono h' _ _ hq hx) hm⟩
instance:A0o (U5:HM α):=⟨fun _ _ _ _ hm=>hm⟩
instance C9h(x y:HM α)[hx:A0o x][hy:A0o y]:A0o (A0L x y):=⟨fun h Q Q' hq hm=>⟨hx.mono h Q Q' hq hm.1,hy.mono h Q Q' hq hm.2⟩⟩
instance A07(b:Bool)(x y:HM α)[A0o x][A0o y]:A0o (A1v b x y):=⟨fun h _ _ hq hm=>by
 cases b
 ·exact A0o.mono (m:=y) h _ _ hq hm
 ·exact A0o.mono (m:=x) h _ _ hq hm⟩
instance A2d(p:Prop)(m:HM α)[A0o m]:A0o (A3d p m):=⟨fun h _ _ hq hm=>⟨hm.1,A0o.mono (m:=m) h _ _ hq hm.2⟩⟩
instance C9g(body:σ→HM (σ⊕τ))(s:σ)[hb:∀s,A0o (body s)]:A0o (HM.loop body s):=⟨fun _ _ _ hq=>by
 rintro⟨I,μ,h0,hr⟩
 refine⟨I,μ,h0,fun s h hi=>(hb s).mono h _ _ ?_ (hr s h hi)⟩
 intro r h' hx
 cases r with
 |inl _=>exact hx
 |inr _=>exact hq _ _ hx⟩
instance C4w(f:α→HM τ)(g:β→HM τ)(x:α⊕β)[hf:∀a,A0o (f a)][hg:∀b,A0o (g b)]:A0o (Sum.elim f g x:HM τ):=by
 cases x with
 |inl a=>exact hf a
 |inr b=>exact hg b
instance(t:Tag)(a:Addr):A0o (α:=no_index (Tag.ty t)) (p8 t a):=⟨fun _ _ _ hq ⟨x,h1,h2⟩=>⟨x,h1,hq _ _ h2⟩⟩
instance(ts:List Tag)(a:Addr):A0o (α:=no_index (Tup ts)) (o6 ts a):=⟨fun _ _ _ hq ⟨x,h1,h2⟩=>⟨x,h1,hq _ _ h2⟩⟩
instance(a:Addr)(v:Value):A0o (A7e a v):=⟨fun _ _ _ hq ⟨x,h1,h2,h3⟩=>⟨x,h1,h2,hq _ _ h3⟩⟩
instance(a:Addr)(vs:D0u):A0o (B0n a vs):=⟨fun _ _ _ hq ⟨x,h1⟩=>⟨x,hq _ _ h1⟩⟩
instance(o:Obj):A0o (HM.new o):=⟨fun _ _ _ hq hm=>hq _ _ hm⟩
instance(p:D0s):A0o (A8r p):=⟨fun _ _ _ hq ⟨x,h1,h2⟩=>⟨x,h1,hq _ _ h2⟩⟩
instance(a:D0s)(len:Nat)(i:Int)(size:Nat):A0o (A32 a len i size):=⟨fun _ _ _ hq ⟨x,h1,h2,h3,h4⟩=>⟨x,h1,h2,h3,hq _ _ h4⟩⟩
instance(s:B38)(i:Int):A0o (A5t s i):=⟨fun _ _ _ hq ⟨x,h1,h2,h3⟩=>⟨x,h1,h2,hq _ _ h3⟩⟩
instance(P:Program)(k:Kind)(f:FuncId)(args:D0t):A0o (α:=no_index (Kind.ty k)) (A1z P k f args):=⟨fun _ _ _ hq hm=>V4.mono hm fun _ _ ⟨x,h1,h2⟩=>⟨x,h1,hq _ _ h2⟩⟩
instance(P:Program)(ks:List Kind)(f:FuncId)(args:D0t):A0o (α:=no_index (r9 ks)) (y5 P ks f args):=⟨fun _ _ _ hq hm=>V4.mono hm fun _ _ ⟨x,h1,h2⟩=>⟨x,h1,hq _ _ h2⟩⟩
instance(P:Program)(k:Kind)(v:Value)(args:D0t):A0o (α:=no_index (Kind.ty k)) (B8H P k v args):=⟨fun _ _ _ hq ⟨f,first,captured,h1,h2,hm⟩=>⟨f,first,captured,h1,h2,V4.mono hm fun _ _ ⟨x,h1,h2⟩=>⟨x,h1,hq _ _ h2⟩⟩⟩
instance(P:Program)(ks:List Kind)(v:Value)(args:D0t):A0o (α:=no_index (r9 ks)) (C3R P ks v args):=⟨fun _ _ _ hq ⟨f,first,captured,h1,h2,hm⟩=>⟨f,first,captured,h1,h2,V4.mono hm fun _ _ ⟨x,h1,h2⟩=>⟨x,h1,hq _ _ h2⟩⟩⟩
instance(s:Slc)(lo hi mx:Option Int)(size:Nat):A0o (HM.slice s lo hi mx size):=⟨fun _ _ _ hq ⟨l,hh,m,h1,h2,h3,h4⟩=>⟨l,hh,m,h1,h2,h3,hq _ _ h4⟩⟩
instance(s:B38)(lo hi:Option Int):A0o (A40 s lo hi):=⟨fun _ _ _ hq ⟨l,hh,h1,h2,h4⟩=>⟨l,hh,h1,h2,hq _ _ h4⟩⟩
instance(elem:TypeId)(size bytes:Nat)(zero:D0t)(s:Slc)(n:Nat)(src:Heap→D0t→Prop):A0o (HM.append elem size bytes zero s n src):=⟨fun h Q1 Q2 hq hm=>by
 refine⟨fun hc=>?_,fun hc=>?_⟩
 ·obtain⟨vs,h1,h2⟩:=hm.1 hc
  refine⟨vs,h1,?_⟩
  cases hs:s.a with
  |none=>rw[hs] at h2;exact hq _ _ h2
  |some a=>rw[hs] at h2;exact⟨h2.1,hq _ _ h2.2⟩
 ·obtain⟨h1,h2,old,vs,h3,h4,h5⟩:=hm.2 hc
  exact⟨h1,h2,old,vs,h3,h4,fun c hc eH=>hq _ _ (h5 c hc eH)⟩⟩
instance(elem:TypeId)(bytes:Nat)(zero:D0t)(n c:Int):A0o (HM.makeSlice elem bytes zero n c):=⟨fun _ _ _ hq ⟨h1,h2,h3,h4,h5⟩=>⟨h1,h2,h3,h4,hq _ _ h5⟩⟩
instance(d:Slc)(n:Nat)(src:Nat→Heap→D0t→Prop):A0o (C7X d n src):=⟨fun h Q1 Q2 hq ⟨vs,h1,h2⟩=>by
 refine⟨vs,h1,?_⟩
 cases hs:d.a with
 |none=>rw[hs] at h2;exact hq _ _ h2
 |some a=>rw[hs] at h2;exact⟨h2.1,hq _ _ h2.2⟩⟩
instance(kd:A2E)(zero:Value)(k:Kind)(r:Option Nat)(key:Value):A0o (α:=no_index (Kind.ty k×Bool)) (HM.lookup kd zero k r key):=⟨fun _ _ _ hq ⟨es,c,o,x,h1,h2,h3,h4⟩=>⟨es,c,o,x,h1,h2,h3,hq _ _ h4⟩⟩
instance(kd:A2E)(r:Option Nat)(key val:Value):A0o (A2F kd r key val):=⟨fun h Q1 Q2 hq ⟨b,es,c,o,h1,h2,h3,h4⟩=>by
 refine⟨b,es,c,o,h1,h2,h3,?_⟩
 cases o with
 |none=>exact hq _ _ h4
 |some o=>exact⟨h4.1,h4.2.1,hq _ _ h4.2.2⟩⟩
instance(kd:A2E)(r:Option Nat)(key:Value):A0o (A6a kd r key):=⟨fun h Q1 Q2 hq hm=>by
 cases r with
 |none=>exact hq _ _ hm
 |some b=>
  obtain⟨es,c,o,h1,h2,h3⟩:=hm
  refine⟨es,c,o,h1,h2,?_⟩
  cases o with
  |none=>exact hq _ _ h3
  |some o=>exact hq _ _ h3⟩
instance(zero:D0t)(s:Slc):A0o (B8G zero s):=⟨fun h Q1 Q2 hq hm=>by
 unfold B8G at hm⊢
 cases ha:s.a with
 |none=>simp only[ha] at hm⊢;exact hq _ _ hm
 |some a=>
  simp only[ha] at hm⊢
  by_cases hn:s.len=0
  ·rw[if_pos hn] at hm⊢;exact hq _ _ hm
  ·rw[if_neg hn] at hm⊢;exact⟨hm.1,hq _ _ hm.2⟩⟩
instance(r:Option Nat):A0o (C8c r):=⟨fun h Q1 Q2 hq hm=>by
 cases r with
 |none=>exact hq _ _ hm
 |some r=>obtain⟨es,c,h1,h2⟩:=hm;exact⟨es,c,h1,hq _ _ h2⟩⟩
instance(r:Option Nat):A0o (B0m r):=⟨fun h Q1 Q2 hq hm=>by
 cases r with
 |none=>exact hq _ _ hm
 |some r=>obtain⟨es,c,h1,h2⟩:=hm;exact⟨es,c,h1,hq _ _ h2⟩⟩
instance(b:Nat):A0o (C8b b):=⟨fun h Q1 Q2 hq ⟨s,p,h1,h2,h3⟩=>⟨s,p,h1,fun hp=>hq _ _ (h2 hp),fun hp=>hq _ _ (h3 hp)⟩⟩
instance(b:Nat):A0o (A8q b):=⟨fun h Q1 Q2 hq ⟨m,since,seen,last,h1,h2⟩=>⟨m,since,seen,last,h1,by
 cases m with
 |none=>exact hq _ _ h2
 |some m=>
  obtain⟨es,c,h3,h4,h5,h6⟩:=h2
  exact⟨es,c,h3,h4,fun hh=>hq _ _ (h5 hh),fun e he hs=>hq _ _ (h6 e he hs)⟩⟩⟩
instance(kk kv:Kind)(b:Nat):A0o (α:=no_index (Kind.ty kk×Kind.ty kv)) (A4I kk kv b):=⟨fun h Q1 Q2 hq ⟨m,since,seen,stepped,es,stamp,e,k,v,h1,h2,h3,h4,h5,h6,h7⟩=>⟨m,since,seen,stepped,es,stamp,e,k,v,h1,h2,h3,h4,h5,h6,hq _ _ h7⟩⟩
instance(kd:A2E)(zero:Value)(k:Kind)(r:Option Nat)(key:Value):A0o (α:=no_index (Kind.ty k×Int)) (HM.mapEntry kd zero k r key):=⟨fun h Q1 Q2 hq ⟨b,es,c,o,h1,h2,h3,h4⟩=>⟨b,es,c,o,h1,h2,h3,by
 cases o with
 |none=>obtain⟨x,h5,h6⟩:=h4;exact⟨x,h5,hq _ _ h6⟩
 |some p=>obtain⟨h7,h8,x,h5,h6⟩:=h4;exact⟨h7,h8,x,h5,hq _ _ h6⟩⟩⟩
instance(r:Option Nat)(st:Int)(v:Value):A0o (HM.entryStore r st v):=⟨fun h Q1 Q2 hq ⟨b,es,c,i,h1,h2,h3,h4⟩=>⟨b,es,c,i,h1,h2,h3,hq _ _ h4⟩⟩
instance C0F(o:Option α)(a:HM β)(f:α→HM β)[ha:A0o a][hf:∀x,A0o (f x)]:A0o (A2Q o a f):=⟨fun h Q1 Q2 hq hm=>by
 cases o with
 |none=>exact ha.mono _ _ _ hq hm
 |some x=>exact(hf x).mono _ _ _ hq hm⟩
instance(s:Slc):A0o (C1x s):=⟨fun _ _ _ hq ⟨ns,h1,h2⟩=>⟨ns,h1,hq _ _ h2⟩⟩
instance(r:Option Nat):A0o (A6b r):=⟨fun _ _ _ hq ⟨es,c,h1,h2⟩=>⟨es,c,h1,hq _ _ h2⟩⟩
theorem B9l{γ:Type}{body:σ→HM (σ⊕τ)}{s:σ}{h:Heap}{Q:τ→Heap→Prop}[hb:∀s,A0o (body s)](I:γ→σ→Heap→Prop)(μ:γ→Nat)(g:γ)(h0:I g s h)
  (hr:∀g s h,I g s h→body s h fun r h'=>match r with
   |.inl s'=>∃g',μ g'<μ g∧I g' s' h'
   |.inr t=>Q t h'):HM.loop body s h Q:=by
 refine C2i (fun n s h=>∃g,μ g=n∧I g s h) (n:=μ g) ⟨g,rfl,h0⟩ ?_ (fun s h _ _ hq hm=>(hb s).mono h _ _ hq hm)
 rintro n s h ⟨g,rfl,hi⟩
 refine(hb s).mono h _ _ ?_ (hr g s h hi)
 intro r h' hx
 cases r with
 |inr t=>exact hx
 |inl s'=>
  obtain⟨g',h1,h2⟩:=hx
  exact⟨_,h1,g',rfl,h2⟩
def Next{γ σ:Type}(I:γ→σ→Heap→Prop)(μ:γ→Nat)(g:γ)(s:σ)(h:Heap):Prop:=∃g',μ g'<μ g∧I g' s h
theorem Next.mk{γ σ:Type}{I:γ→σ→Heap→Prop}{μ:γ→Nat}{g:γ}{s:σ}{h:Heap}(g':γ)(h1:μ g'<μ g)(h2:I g' s h):Next I μ g s h:=⟨g',h1,h2⟩
theorem o0{γ:Type}{body:σ→HM (σ⊕τ)}{s:σ}{h:Heap}{Q:τ→Heap→Prop}[hb:∀s,A0o (body s)](I:γ→σ→Heap→Prop)(μ:γ→Nat)(g:γ)(h0:I g s h)
  (hr:∀g s h,I g s h→body s h fun r h'=>match r with
   |.inl s'=>Next I μ g s' h'
   |.inr t=>Q t h'):HM.loop body s h Q:=B9l I μ g h0 hr
end
theorem V5{α β:Type}{m:HM α}[hm:A0o m]{f:α→HM β}{h:Heap}{Q:β→Heap→Prop}(P:α→Heap→Prop)(h1:m h P)(h2:∀a h',P a h'→f a h' Q):(m.bind f) h Q:=
 hm.mono h P _ h2 h1
end
section
open Go.MapKept (Stamped)
section
variable {K V:Type}
def B7a(ek:K→Value)(ev:V→Value)(l:List (K×V))(es:List MapEntry):Prop:=es.map (fun e=>(e.key,e.val))=l.map (fun p=>(ek p.1,ev p.2))
structure ItF(ek:K→Value)(ev:V→Value)(l done todo:List (K×V))(es:Array MapEntry)(clock:Nat)(seen:Array Nat)(des tes:List MapEntry):Prop where
 dG:A6v ek ev l es.toList
 stamped:Stamped es clock
 perm:(des++tes).Perm es.toList
 seen:seen.toList=des.map (·.born)
 done:B7a ek ev done des
 todo:B7a ek ev todo tes
def itA(ek:K→Value)(ev:V→Value)(m:Nat)(l:List (K×V))(it:Nat)(done todo:List (K×V)):Asn:=
 exA fun x:Array MapEntry×Nat×Array Nat×List MapEntry×List MapEntry=>
  star (pr (ItF ek ev l done todo x.1 x.2.1 x.2.2.1 x.2.2.2.1 x.2.2.2.2)) (star (blk it (.mapIter (some m) x.2.1 x.2.2.1 x.2.1)) (blk m (.map x.1 x.2.1)))
variable {h:Heap} {R:List Asn} {ek:K→Value} {ev:V→Value} {m it:Nat} {l done todo:List (K×V)}
theorem B13:sat h (itA ek ev m l it done todo::R)↔∃es clock seen des tes,ItF ek ev l done todo es clock seen des tes∧sat h (blk it (.mapIter (some m) clock seen clock)::blk m (.map es clock)::R):=by
 unfold itA
 rw[sat.bA]
 constructor
 ·rintro⟨⟨es,c,s,d,t⟩,hs⟩
  rw[sat.aI,sat.bB,sat.aI] at hs
  exact⟨es,c,s,d,t,hs⟩
 ·rintro⟨es,c,s,d,t,hs⟩
  exact⟨(es,c,s,d,t),by rw[sat.aI,sat.bB,sat.aI];exact hs⟩
theorem A9j{Q:Nat→Heap→Prop}(hs:sat h (mapA ek ev m l::R))(hq:∀it h',sat h' (itA ek ev m l it [] l::R)→Q it h'):B0m (some m) h Q:=by
 obtain⟨es,c,⟨he,bL⟩,hs⟩:=A1j.1 hs
 refine⟨es,c,hs.get,?_⟩
 refine hq _ _ (B13.2 ⟨es,c,#[],[],es.toList,⟨he,bL,by simp,rfl,rfl,he⟩,?_⟩)
 exact hs.push
theorem A9u(hs:sat h (itA ek ev m l it done todo::R)):sat h (mapA ek ev m l::R):=by
 obtain⟨es,c,s,d,t,hf,hs⟩:=B13.1 hs
 exact A1j.2 ⟨es,c,⟨hf.dG,hf.stamped⟩,hs.drop⟩
theorem B1S{Q:Option (Value×Value)→Heap→Prop}(hs:sat h (itA ek ev m l it done todo::R))(h0:todo=[]→Q none h)
  (h1:∀(p:K×V) (t1 t2:List (K×V)),todo=t1++p::t2→∀h',sat h' (itA ek ev m l it (done++[p]) (t1++t2)::R)→Q (some (ek p.1,ev p.2)) h'):A8q it h Q:=by
 obtain⟨es,c,seen,des,tes,hf,hs⟩:=B13.1 hs
 have lQ:∀e∈es,e.born<c:=fun e he=>hf.stamped.1 e (by simpa using he)
 have au:(es.toList.map (·.born)).Nodup:=hf.stamped.2.1
 have gL:((des++tes).map (·.born)).Nodup:=(hf.perm.map (·.born)).nodup_iff.2 au
 rw[C0,G1] at gL
 have al:∀e:MapEntry,e∈es↔e∈des∨e∈tes:=fun e=>by
  rw[←Array.mem_toList_iff,←hf.perm.mem_iff,C9]
 have lH:∀b,seen.contains b=true↔b∈des.map (·.born):=fun b=>by
  rw[←hf.seen];simp
 have tf:∀e∈es,seen.contains e.born=false→e∈tes:=fun e he hc=>by
  rcases(al e).1 he with hd|ht
  ·exact absurd ((lH e.born).2 (B3 hd)) (by rw[hc];simp)
  ·exact ht
 refine⟨some m,c,seen,c,hs.get,es,c,hs.p1.get,?_,fun da=>?_,fun e he hc=>?_⟩
 ·by_cases hz:es.isEmpty=true
  ·simp[hz]
  ·have bF:es≠#[]:=by simpa using hz
   obtain⟨e,he⟩:∃e,e∈es:=⟨es[0]'(Array.size_pos_iff.2 bF),Array.getElem_mem _⟩
   have ah:=lQ e he
   have:es.all (fun e=>decide (e.born≥c))=false:=by
    cases hh:es.all (fun e=>decide (e.born≥c)) with
    |false=>rfl
    |true=>
     rw[Array.all_eq_true_iff_forall_mem] at hh
     have:=hh e he
     simp at this
     omega
   simp[this]
 ·
  refine h0 ?_
  have:tes=[]:=by
   cases tes with
   |nil=>rfl
   |cons e t=>
    have he:e∈es:=(al e).2 (.inr (B4 ..))
    have im:seen.contains e.born=false:=by
     cases hh:seen.contains e.born with
     |false=>rfl
     |true=>
      exact absurd rfl (gL.2.2 e.born ((lH _).1 hh) e.born (by simp))
    have:=da e he im
    have:=lQ e he
    omega
  have ht:=hf.todo
  rw[this] at ht
  simp only[B7a,I3] at ht
  exact List.map_eq_nil_iff.1 ht.symm
 ·have ht:=tf e he hc
  obtain⟨t1,t2,rfl⟩:=H0 ht
  have va:=hf.todo
  simp only[B7a,C0,B6] at va
  obtain⟨l1,yC,e1,e2,e3⟩:=List.map_eq_append_iff.1 va.symm
  obtain⟨p,l2,e4,e5,e6⟩:=List.map_eq_cons_iff.1 e3
  subst e4
  have wv:(ek p.1,ev p.2)=(e.key,e.val):=e5
  obtain⟨k1,k2⟩:=Prod.mk.inj wv
  rw[←k1,←k2]
  have ah:=hs.lt
  refine h1 p l1 l2 e1 _ (B13.2 ⟨es,c,seen.push e.born,des++[e],t1++t2,⟨hf.dG,hf.stamped,?_,?_,?_,?_⟩,?_⟩)
  ·refine List.Perm.trans ?_ hf.perm
   rw[D6]
   refine Q4 des ?_
   show(e::(t1++t2)).Perm _
   exact P8.symm
  ·simp[hf.seen]
  ·simp only[B7a,C0,B6,I3]
   rw[hf.done,wv]
  ·simp only[B7a,C0]
   rw[e2,e6]
  ·exact hs.bI (o':=.mapIter (some m) c (seen.push e.born) c) (by simp[ah]) (fun k hk=>by rw[H6,if_neg (fun e=>hk e.symm)])
theorem A9y{kk kv:Kind}{p:K×V}{x:kk.ty}{y:kv.ty}{Q:kk.ty×kv.ty→Heap→Prop}(hk:ek p.1=kk.val x)(hv:ev p.2=kv.val y)
  (hs:sat h (itA ek ev m l it (done++[p]) todo::R))(hq:Q (x,y) h):A4I kk kv it h Q:=by
 obtain⟨es,c,seen,des,tes,hf,hs⟩:=B13.1 hs
 have hd:=hf.done
 simp only[B7a,C0,B6,I3] at hd
 obtain⟨d1,yV,e1,e2,e3⟩:=List.map_eq_append_iff.1 hd
 obtain⟨e,d2,e4,e5,e6⟩:=List.map_eq_cons_iff.1 e3
 have:d2=[]:=List.map_eq_nil_iff.1 e6
 subst this e4 e1
 obtain⟨k1,k2⟩:=Prod.mk.inj e5
 have au:(es.toList.map (·.born)).Nodup:=hf.stamped.2.1
 have lh:e∈es.toList:=hf.perm.mem_iff.1 (by simp)
 have gO:es.find? (fun x=>x.born==e.born)=some e:=by
  rw[←Array.find?_toList]
  obtain⟨a,b,db⟩:=H0 lh
  rw[db]
  rw[db,C0,B6,G1] at au
  rw[P4]
  have:a.find? (fun x=>x.born==e.born)=none:=by
   rw[E8]
   intro x hx
   have:=au.2.2 x.born (B3 hx) e.born (by simp)
   simpa using this
  rw[this]
  simp
 have bZ:seen.back?=some e.born:=by
  have fa:=hf.seen
  rw[C0,B6,I3] at fa
  rw[←Array.getLast?_toList,fa]
  simp
 exact⟨m,c,seen,c,es,e.born,e,x,y,hs.get,bZ,hs.p1.get,gO,k1.trans hk,k2.trans hv,hq⟩
end
@[simp] theorem C0w {α β:Type} (a:HM β) (f:α→HM β) {h:Heap} {Q:β→Heap→Prop}:A2Q none a f h Q=a h Q:=rfl
@[simp] theorem C0v {α β:Type} (x:α) (a:HM β) (f:α→HM β) {h:Heap} {Q:β→Heap→Prop}:A2Q (some x) a f h Q=f x h Q:=rfl
def a7{α:Type}(f:α→Asn):List α→Asn
 |[]=>pr True
 |x::l=>star (f x) (a7 f l)
section
variable {α:Type} {f:α→Asn} {h:Heap} {R:List Asn}
theorem A2D:sat h (a7 f []::R)↔sat h R:=sat.bB.trans ⟨fun hh=>hh.2,fun hh=>⟨trivial,hh⟩⟩
theorem l5{x:α}{l:List α}:sat h (a7 f (x::l)::R)↔sat h (f x::a7 f l::R):=sat.aI
theorem l0{x:α}{l2:List α}:∀{l1:List α} {R:List Asn},sat h (a7 f (l1++x::l2)::R)↔sat h (f x::a7 f (l1++l2)::R)
 |[],R=>l5
 |y::l1,R=>by
  rw[G3,G3,l5]
  constructor
  ·intro hs
   exact(l5.2 (l0.1 hs.p1).p2.p2.p1).p1
  ·intro hs
   exact(l0.2 (l5.1 hs.p1).p2.p2.p1).p1
theorem A9c{x:α}{l:List α}(hx:x∈l)(hs:sat h (a7 f l::R)):∃R',sat h (f x::R'):=by
 obtain⟨l1,l2,rfl⟩:=H0 hx
 exact⟨_,l0.1 hs⟩
end
theorem C1L{L L':List Asn}(hp:L.Perm L'):∀m,A0Y L m→A0Y L' m:=by
 induction hp with
 |nil=>exact fun _ h=>h
 |cons x _ ih=>exact fun m h=>A0I (fun _ h=>h) ih h
 |swap x y l=>exact fun m h=>A0f h
 |trans _ _ sR sQ=>exact fun m h=>sQ m (sR m h)
theorem sat.perm{h:Heap}{L L':List Asn}(hp:L.Perm L')(hs:sat h L):sat h L':=
 let⟨m,h1,h2⟩:=hs
 ⟨m,h1,C1L hp m h2⟩
theorem sat.fL{h:Heap}{R:List Asn}:∀(n:Nat),sat h R→sat h (List.replicate n (pr True)++R)
 |0,hs=>hs
 |n+1,hs=>sat.bB.2 ⟨trivial,sat.fL n hs⟩
theorem sat.re{h:Heap}{L:List Asn}(hs:sat h L)(idx:List Nat)(hi:idx.isPerm (List.range idx.length)=true:=by rfl):
  sat h (idx.map (fun i=>L.getD i (pr True))++L.drop idx.length):=by
 have h1:(idx.map (fun i=>L.getD i (pr True))).Perm ((List.range idx.length).map (fun i=>L.getD i (pr True))):=(List.isPerm_iff.1 hi).map _
 refine sat.perm (h1.symm.append_right _) ?_
 generalize idx.length=n
 clear h1 hi
 by_cases hn:n≤L.length
 ·have e:(List.range n).map (fun i=>L.getD i (pr True))=L.take n:=by
   refine List.ext_getElem (by simp;omega) fun i h2 h3=>?_
   simp at h2 h3
   simp[B0 (show i<L.length by omega)]
  rw[e,J3]
  exact hs
 ·rw[L9 (by omega),C2]
  have e:(List.range n).map (fun i=>L.getD i (pr True))=L++List.replicate (n-L.length) (pr True):=by
   refine List.ext_getElem? fun i=>?_
   rw[List.getElem?_append]
   by_cases h2:i<L.length
   ·simp[h2,show i<n by omega]
   ·by_cases h3:i<n
    ·simp[h2,h3,List.getElem?_replicate,show i-L.length<n-L.length by omega,List.getElem?_eq_none (show L.length≤i by omega)]
    ·simp[h2,h3,List.getElem?_replicate]
     omega
  rw[e]
  exact(sat.fL _ hs).perm List.perm_append_comm
section
variable {K V:Type} [DecidableEq K]
theorem A4f:∀{l:List (K×V)} {k:K} {v:V},W4 l k=some v→(k,v)∈l
 |[],k,v,h=>by simp at h
 |(a,b)::l,k,v,h=>by
  rw[Y5] at h
  by_cases e:a=k
  ·rw[if_pos e] at h
   cases h
   subst e
   exact B4 ..
  ·rw[if_neg e] at h
   exact C3 _ (A4f h)
theorem B1V:∀{l1 l2:List (K×V)} {k:K} {v:V},k∉l1.map (·.1)→mdel (l1++(k,v)::l2) k=l1++l2
 |[],l2,k,v,_=>by simp[mdel]
 |(a,b)::l1,l2,k,v,h=>by
  simp only[B6,D2,not_or] at h
  simp only[G3,mdel,if_neg (fun e:a=k=>h.1 e.symm),B1V h.2]
end
end
section
open Go.RowKit
theorem C6F{w w':World}{R:List Asn}(hs:A0d w w')(ho:sat w'.heap (old w.heap::R)):Below w.heap.size w w':=by
 refine⟨hs.os,hs.tape,hs.output,?_,fun k hk=>?_⟩
 ·rcases Nat.eq_zero_or_pos w.heap.size with h0|hp
  ·omega
  ·have hg:w.heap[w.heap.size-1]? =some w.heap[w.heap.size-1]:=F7 (by omega)
   have:=(F8.1 (ho.dM hg)).1
   omega
 ·rw[ho.dM (F7 hk),F7 hk]
theorem walk_of{P:Program}{f:FuncId}{args:D0t}{w:World}{v:Value}
  (hc:V4 P f args w.heap fun v' h'=>v'=v∧∃R,sat h' (old w.heap::R)):Calls P f args w fun e w'=>e=.returned v∧Below w.heap.size w w':=
 (hc w rfl).mono fun e w' ⟨_,he,hs,hv,R,ho⟩=>⟨by rw[he,hv],C6F hs ho⟩
def Z8{α:Type}(enc:α→D0u)(size:Nat)(h0:Heap)(s:Slc)(xs:List α):Prop:=
 s.len=xs.length∧s.len≤s.cap∧∀(i:Nat) x,xs[i]? =some x→∃a,s.a=some a∧∀j v,(enc x)[j]? =some v→W3 h0 ((a.add (i*size)).add j)=some v
section
variable {α β:Type} {enc:α→D0u} {size:Nat} {h0 h:Heap} {s:Slc} {xs:List α}
theorem X9(hr:Z8 enc size h0 s xs){i:Nat}{x:α}(hx:xs[i]? =some x){Q:Addr→Heap→Prop}
  (hq:∀a,(∀j v,(enc x)[j]? =some v→W3 h0 (a.add j)=some v)→Q a h):A32 s.a s.len (i:Int) size h Q:=by
 obtain⟨a,ha,hc⟩:=hr.2.2 i x hx
 have ah:=(E0.1 hx).1
 exact⟨a,ha,by omega,by have:=hr.1;omega,hq _ (by simpa using hc)⟩
theorem B2F(hr:Z8 enc size h0 s xs){n:Nat}(hn:n≤xs.length){Q:Slc→Heap→Prop}
  (hq:∀s',Z8 enc size h0 s' (xs.take n)→Q s' h):HM.slice s none (some (n:Int)) none size h Q:=by
 refine⟨0,n,s.cap,rfl,⟨rfl,by have:=hr.1;have:=hr.2.1;omega⟩,rfl,hq _ ⟨?_,?_,?_⟩⟩
 ·simp[l4];omega
 ·have:=hr.1;have:=hr.2.1;simp[l4];omega
 ·intro i x hx
  obtain⟨a,ha,hc⟩:=hr.2.2 i x (by
   rw[L8] at hx
   split at hx
   ·exact hx
   ·cases hx)
  refine⟨a,?_,hc⟩
  simp only[l4,ha]
  split
  ·rfl
  ·simp[add_zero]
end
end
section
theorem V8{n:Int}(h1: -9223372036854775808≤n)(h2:n≤9223372036854775807):IntKind.wrap .i64 n=n:=by
 simp[IntKind.wrap,IntKind.bits,IntKind.signed];omega
section
variable {h h':Heap} {A:Asn} {R:List Asn}
theorem sat.grow(hs:sat h R)(hg:∀(k:Nat) o,h[k]? =some o→h'[k]? =some o):sat h' R:=by
 obtain⟨m,h1,h2⟩:=hs
 exact⟨m,fun k o ho=>hg k o (h1 k o ho),h2⟩
theorem sat.came(hs:sat h R)(hg:∀(k:Nat) o,h[k]? =some o→h'[k]? =some o){b:Nat}{o:Obj}(hb:h.size≤b)(ho:h'[b]? =some o):sat h' (blk b o::R):=by
 obtain⟨m,h1,h2⟩:=hs
 have hm:m b=none:=by
  cases hx:m b with
  |none=>rfl
  |some x=>
   have:=(F8.1 (h1 _ _ hx)).1
   omega
 refine⟨PH.join (fun k=>if k=b then some o else none) m,B49 (fun k x hx=>?_) (fun k x hx=>hg k x (h1 k x hx)),_,m,fun k=>?_,rfl,by simp[blk],h2⟩
 ·have dP:(if k=b then some o else none)=some x:=hx
  split at dP
  ·rename_i e;subst e;cases dP;exact ho
  ·cases dP
 ·by_cases e:k=b
  ·subst e;exact .inr hm
  ·exact .inl (by simp[e])
theorem sat.eG(hs:sat h R)(hg:∀(k:Nat) o,h[k]? =some o→h'[k]? =some o){b:Nat}{cs:D0t}{T:TypeId}(hb:h.size≤b)(ho:h'[b]? =some (.cells cs T (0,0))):sat h' (cells b cs::R):=
 A2s.2 ⟨T,hs.came hg hb ho⟩
theorem B4i{P:Program}{f:FuncId}{args:D0t}{v:Value}{Q:Value→Heap→Prop}(hs:sat h R)
  (hc:∀w,w.heap=h→Calls P f args w fun e w'=>e=.returned v∧Go.RowKit.Below w.heap.size w w')(hq:∀h',sat h' R→Q v h'):V4 P f args h Q:=by
 intro w hw
 refine(hc w hw).mono ?_
 rintro e w' ⟨rfl,hb⟩
 refine⟨v,rfl,⟨hb.os,hb.tape,hb.output⟩,hq _ (hs.grow fun k o ho=>?_)⟩
 rw[hb.block k (by rw[hw];exact(F8.1 ho).1),hw]
 exact ho
end
section
variable {α:Type} {enc:α→D0u} {size:Nat} {h h0 h':Heap} {s:Slc} {xs:List α} {R:List Asn}
theorem Z8.mono(hr:Z8 enc size h0 s xs)(hc:∀a v,W3 h0 a=some v→W3 h a=some v):Z8 enc size h s xs:=
 ⟨hr.1,hr.2.1,fun i x hx=>by
  obtain⟨a,ha,hx⟩:=hr.2.2 i x hx
  exact⟨a,ha,fun j v hv=>hc _ _ (hx j v hv)⟩⟩
theorem Z8.old(hr:Z8 enc size h0 s xs)(hs:sat h (old h0::R)):Z8 enc size h s xs:=hr.mono fun _ _ hc=>hs.bY hc
end
structure C6X{α:Type}(enc:α→D0u)(size:Nat)(s:Slc)(xs:List α)(b o:Nat)(cs:D0t):Prop where
 a:s.a=some ⟨b,o*size,none⟩
 le:s.len≤s.cap
 len:s.len=xs.length
 dO:(o+s.cap)*size≤cs.size
 front:(cs.toList.drop (o*size)).take (s.len*size)=xs.flatMap enc
def U6{α:Type}(enc:α→D0u)(size:Nat)(s:Slc)(xs:List α):Asn:=fun m=>
 (s.len=0∧s.cap=0∧xs=[])∨exA (fun x:Nat×Nat×D0t=>star (pr (C6X enc size s xs x.1 x.2.1 x.2.2)) (cells x.1 x.2.2)) m
section
variable {α:Type} {enc:α→D0u} {size:Nat} {h:Heap} {s:Slc} {xs:List α} {R:List Asn}
theorem A1K(hs:sat h (U6 enc size s xs::R)):(s.len=0∧s.cap=0∧xs=[]∧sat h R)∨∃b o cs,C6X enc size s xs b o cs∧sat h (cells b cs::R):=by
 obtain⟨m,h1,a,r,hd,rfl,ha,hr⟩:=id hs
 rcases ha with⟨h2,h3,h4⟩|ha
 ·exact .inl ⟨h2,h3,h4,hs.drop⟩
 ·have af:sat h (exA (fun x:Nat×Nat×D0t=>star (pr (C6X enc size s xs x.1 x.2.1 x.2.2)) (cells x.1 x.2.2))::R):=⟨_,h1,a,r,hd,rfl,ha,hr⟩
  rw[sat.bA] at af
  obtain⟨⟨b,o,cs⟩,af⟩:=af
  rw[sat.aI,sat.bB] at af
  exact .inr ⟨b,o,cs,af⟩
theorem A6U{a:D0s}(hs:sat h R):sat h (U6 enc size ⟨a,0,0⟩ []::R):=by
 obtain⟨m,h1,h2⟩:=hs
 exact⟨m,h1,fun _=>none,m,fun k=>.inl rfl,by funext k;rfl,.inl ⟨rfl,rfl,rfl⟩,h2⟩
theorem Z5(hs:sat h R):sat h (U6 enc size ⟨none,0,0⟩ []::R):=A6U hs
theorem A1J{b o:Nat}{cs:D0t}(ho:C6X enc size s xs b o cs)(hs:sat h (cells b cs::R)):sat h (U6 enc size s xs::R):=by
 have af:sat h (exA (fun x:Nat×Nat×D0t=>star (pr (C6X enc size s xs x.1 x.2.1 x.2.2)) (cells x.1 x.2.2))::R):=by
  rw[sat.bA]
  refine⟨(b,o,cs),?_⟩
  rw[sat.aI,sat.bB]
  exact⟨ho,hs⟩
 exact af.imp fun m hm=>.inr hm
theorem sat.aW(hs:sat h (U6 enc size s xs::R)):s.len=xs.length:=by
 rcases A1K hs with⟨h1,h2,rfl,-⟩|⟨b,o,cs,ho,-⟩
 ·exact h1
 ·exact ho.len
theorem sat.eC(hs:sat h (U6 enc size s xs::R)):s.len≤s.cap:=by
 rcases A1K hs with⟨h1,h2,rfl,-⟩|⟨b,o,cs,ho,-⟩
 ·omega
 ·exact ho.le
theorem B6g(ao:∀x,(enc x).length=size):∀(xs:List α) (i:Nat) (x:α),xs[i]? =some x→∀j v,(enc x)[j]? =some v→(xs.flatMap enc)[i*size+j]? =some v
 |[],i,x,hx,_,_,_=>by simp at hx
 |y::xs,0,x,hx,j,v,hv=>by
  simp only[P1,F6] at hx
  subst hx
  rw[D7,T4,L7]
  have hj:=(E0.1 hv).1
  rw[List.getElem?_append_left hj]
  exact hv
 |y::xs,i+1,x,hx,j,v,hv=>by
  rw[P2] at hx
  rw[D7,List.getElem?_append_right (by rw[ao];rw[J2];omega),ao]
  rw[show(i+1)*size+j-size=i*size+j from by rw[J2];omega]
  exact B6g ao xs i x hx j v hv
theorem z7(ao:∀x,(enc x).length=size)(xs:List α):(xs.flatMap enc).length=xs.length*size:=by
 induction xs with
 |nil=>simp
 |cons x xs ih=>rw[D7,B5,ih,ao,B7,J2];omega
theorem sat.aO(ao:∀x,(enc x).length=size)(hs:sat h (U6 enc size s xs::R)):Z8 enc size h s xs:=by
 rcases A1K hs with⟨h1,h2,rfl,-⟩|⟨b,o,cs,ho,hs⟩
 ·exact⟨h1,by omega,fun i x hx=>by simp at hx⟩
 ·refine⟨ho.len,ho.le,fun i x hx=>⟨_,ho.a,fun j v hv=>?_⟩⟩
  rw[Addr.bN,Addr.bN,hs.cell]
  have h1:=B6g ao xs i x hx j v hv
  rw[←ho.front,L8] at h1
  split at h1
  ·rw[N5] at h1
   rw[show o*size+i*size+j=o*size+(i*size+j) from by omega]
   simpa using h1
  ·cases h1
theorem B2G{lo hi:Nat}{mx:Option Int}{Q:Slc→Heap→Prop}{ol oh:Option Int}(hs:sat h (U6 enc size s xs::R))(ao:∀x,(enc x).length=size)
  (h1:lo≤hi)(h2:hi≤xs.length)(e1:A4d ol (lo=0) lo hi)(e2:A4d oh (hi=s.len) hi s.cap)
  (hq:∀s',sat h (U6 enc size s' ((xs.take hi).drop lo)::R)→Q s' h):HM.slice s ol oh none size h Q:=by
 have hl:=hs.aW
 have hc:=hs.eC
 refine⟨lo,hi,s.cap,rfl,?_,e1,hq _ ?_⟩
 ·cases oh with
  |none=>exact⟨rfl,e2⟩
  |some x=>exact e2
 rcases A1K hs with⟨g1,g2,rfl,aa⟩|⟨b,o,cs,ho,aa⟩
 ·have:hi=0:=by simpa using h2
  subst this
  have:lo=0:=by omega
  subst this
  simp only[l4,g2,if_true,List.take_nil,List.drop_nil,Q3]
  exact A6U aa
 ·by_cases hm:s.cap=lo
  ·have e0:lo=xs.length:=by omega
   simp only[l4,hm,if_true,Q3]
   rw[L9 (by simp;omega),show hi-lo=0 from by omega]
   exact A6U hs.drop
  ·refine A1J (b:=b) (o:=o+lo) (cs:=cs) ⟨?_,?_,?_,?_,?_⟩ aa
   ·simp only[l4,if_neg hm,ho.a,R8,Addr.bN,J4]
   ·simp only[l4];omega
   ·simp only[l4,R2,E6];omega
   ·simp only[l4]
    rw[show o+lo+(s.cap-lo)=o+s.cap from by omega]
    exact ho.dO
   ·simp only[l4]
    have hf:=ho.front
    have e3:((xs.take hi).drop lo).flatMap enc=((xs.flatMap enc).take (hi*size)).drop (lo*size):=by
     have key:∀(l:List α) (n:Nat),(l.flatMap enc).take (n*size)=(l.take n).flatMap enc∧(l.flatMap enc).drop (n*size)=(l.drop n).flatMap enc:=by
      intro l
      induction l with
      |nil=>intro n;simp
      |cons x l ih=>
       intro n
       cases n with
       |zero=>simp
       |succ n=>
        have hx:=ao x
        rw[D7,J2,List.take_succ_cons,List.drop_succ_cons,D7]
        refine⟨?_,?_⟩
        ·rw[List.take_append,hx,D4 (by omega),show n*size+size-size=n*size from by omega,(ih n).1]
        ·rw[List.drop_append,hx,L9 (by omega),show n*size+size-size=n*size from by omega,(ih n).2,F0]
     rw[(key xs hi).1,(key (xs.take hi) lo).2]
    rw[e3,←hf]
    rw[List.take_take,Nat.min_eq_left (Q7 _ (by omega:hi≤s.len)),List.drop_take,List.drop_drop,J4,←Nat.sub_mul]
theorem sat.setCells{b:Nat}:∀(vs:D0u) (cs:D0t) (o i:Nat) {h:Heap} {R:List Asn},sat h (cells b cs::R)→o+i+vs.length≤cs.size→
  ∃cs':D0t,cs'.size=cs.size∧cs'.toList=cs.toList.take (o+i)++vs++cs.toList.drop (o+i+vs.length)∧sat (A2l h ⟨b,o,none⟩ vs i) (cells b cs'::R)
 |[],cs,o,i,h,R,hs,hl=>⟨cs,rfl,by simp,hs⟩
 |v::vs,cs,o,i,h,R,hs,hl=>by
  simp only[B7] at hl
  have h1:=hs.set (o+i) v
  obtain⟨cs',e1,e2,h2⟩:=sat.setCells vs (cs.setIfInBounds (o+i) v) o (i+1) h1 (by simp;omega)
  refine⟨cs',by simpa using e1,?_,by simpa[A2l] using h2⟩
  rw[e2,P6]
  have hlen:o+i<cs.toList.length:=by simp;omega
  rw[show o+(i+1)=(o+i)+1 from by omega,C4 (by simpa using hlen)]
  rw[List.getElem_set_self,List.take_set_of_le (D8 _),List.drop_set_of_lt (by omega)]
  simp only[B7,D6,G3,F0]
  rw[show o+i+1+vs.length=o+i+(vs.length+1) from by omega]
theorem A3A{b:Nat}{cs:D0t}{o:Nat}{vs:D0u}(hs:sat h (cells b cs::R))(hl:o+vs.length≤cs.size)(hv:∀v∈vs,v.oneCell'=true):
  ∀(i:Nat) v,vs[i]? =some v→(W3 h (Addr.add ⟨b,o,none⟩ i)).isSome=true∧A2q h (Addr.add ⟨b,o,none⟩ i)=false∧v.oneCell'=true:=by
 intro i v hi
 have ah:=(E0.1 hi).1
 rw[Addr.bN]
 refine⟨?_,hs.free _,hv v (F3 hi)⟩
 rw[hs.cell]
 simp
 omega
theorem A0k(ao:∀x,(enc x).length=size)(dr:∀x,∀v∈enc x,v.oneCell'=true){elem:TypeId}{bytes n:Nat}{zero:D0t}(hz:zero.size=size){src:Heap→D0t→Prop}{ys:List α}{Q:Slc→Heap→Prop}
  (hs:sat h (U6 enc size s xs::R))(hn:ys.length=n)(gi:src h (ys.flatMap enc).toArray)(hsz:0<size)(gQ:0<bytes)(hb:(xs.length+n)*bytes≤140737488355328)
  (hq:∀s' h',sat h' (U6 enc size s' (xs++ys)::R)→Q s' h'):HM.append elem size bytes zero s n src h Q:=by
 have hl:=hs.aW
 have iY:xs.length+n≤140737488355328:=C7 (Nat.le_mul_of_pos_right _ gQ) hb
 constructor
 ·intro hc
  refine⟨_,gi,?_⟩
  rcases A1K hs with⟨g1,g2,rfl,aa⟩|⟨b,o,cs,ho,hs⟩
  ·have h0:n=0:=by omega
   subst h0
   have hy:ys=[]:=List.eq_nil_of_length_eq_zero hn
   subst hy
   obtain⟨sa,sl,sc⟩:=s
   simp only at g1 g2
   subst g1 g2
   cases sa with
   |none=>exact hq _ _ (A6U aa)
   |some a=>exact⟨fun i v hv=>by simp at hv,hq _ _ (A6U aa)⟩
  ·rw[ho.a]
   simp only[Addr.bN]
   have hlen:(o*size+s.len*size)+(ys.flatMap enc).length≤cs.size:=by
    refine C7 ?_ ho.dO
    rw[z7 ao,hn,←J4,←J4]
    exact Q7 _ (by omega)
   refine⟨?_,?_⟩
   ·have:=A3A (o:=o*size+s.len*size) (vs:=ys.flatMap enc) hs hlen (fun v hv=>by
     obtain⟨x,_,hx⟩:=S7.1 hv
     exact dr x v hx)
    simpa using this
   ·obtain⟨cs',e1,e2,af⟩:=sat.setCells (ys.flatMap enc) cs (o*size+s.len*size) 0 hs (by simpa using hlen)
    refine hq _ _ (A1J (b:=b) (o:=o) (cs:=cs') ⟨rfl,hc,by simp[ho.len,hn],by rw[e1];exact ho.dO,?_⟩ (by simpa using af))
    rw[e2]
    simp only[O4]
    have bd:cs.toList.length=cs.size:=by simp
    have d1:((cs.toList.take (o*size+s.len*size)++ys.flatMap enc++cs.toList.drop (o*size+s.len*size+(ys.flatMap enc).length)).drop (o*size))=
      xs.flatMap enc++ys.flatMap enc++cs.toList.drop (o*size+s.len*size+(ys.flatMap enc).length):=by
     rw[D6,O9 (by rw[E6,bd];omega),List.drop_take,show o*size+s.len*size-o*size=s.len*size from by omega,ho.front,D6]
    rw[d1,I6]
    have e3:(s.len+n)*size=(xs.flatMap enc++ys.flatMap enc).length:=by
     rw[B5,z7 ao,z7 ao,J4,ho.len,hn]
    rw[e3,List.take_left']
    rfl
 ·intro hc
  refine⟨by omega,growslice_fits hc (by rw[hl];exact hb),?_⟩
  have gK:∀old:D0t,old.toList=xs.flatMap enc→∀c,s.len+n≤c→∀R',sat h R'→
    sat (h.push (.cells (old++(ys.flatMap enc).toArray++Builtin.zeroCells zero (c-(s.len+n))) elem)) (U6 enc size ⟨some ⟨h.size,0,none⟩,s.len+n,c⟩ (xs++ys)::R'):=by
   intro old hold c fW R' ye
   have ho:old.size=s.len*size:=by
    have:=congrArg List.length hold
    rw[z7 ao] at this
    simpa[hl] using this
   refine A1J (o:=0) ⟨by simp,fW,by simp[hl,hn],T5 ?_,?_⟩ ye.bG
   ·simp only[L7,Array.size_append,ho,Builtin.zeroCells,Array.size_map,Array.size_range,hz,List.size_toArray,z7 ao,hn]
    rw[←J4,←J4]
    congr 1
    omega
   ·simp only[Array.toList_append,hold,I6,T4,S4]
    rw[P0 (by simp only[B5,z7 ao];rw[hl,J4,hn];exact D8 _)]
    rw[D4]
    simp only[B5,z7 ao]
    rw[hl,J4,hn]
    exact D8 _
  rcases A1K hs with⟨g1,g2,rfl,aa⟩|⟨b,o,cs,ho,hs⟩
  ·refine⟨#[],_,?_,gi,fun c fW _=>hq _ _ (gK #[] rfl c fW R aa)⟩
   rw[g1,T4]
   cases s.a with
   |none=>rfl
   |some a=>exact⟨rfl,fun i v hv=>by simp at hv⟩
  ·refine⟨(xs.flatMap enc).toArray,_,?_,gi,fun c fW _=>hq _ _ (gK _ (by simp) c fW R hs.drop)⟩
   simp only[A6g,ho.a]
   refine⟨by simp[z7 ao,ho.len],fun i v hi=>?_⟩
   rw[Addr.bN,hs.cell]
   have h1:(xs.flatMap enc)[i]? =some v:=by simpa using hi
   rw[←ho.front,L8] at h1
   split at h1
   ·rw[N5] at h1
    simpa using h1
   ·cases h1
theorem sat.reads{b:Nat}{cs:D0t}{n:Nat}(hs:sat h (cells b cs::R))(hn:cs.size=n):A6g h (some ⟨b,0,none⟩) n cs:=
 ⟨hn,fun i v hi=>by rw[Addr.bN,hs.cell,L7];exact hi⟩
theorem A1c(ao:∀x,(enc x).length=size)(dr:∀x,∀v∈enc x,v.oneCell'=true){elem T:TypeId}{bytes:Nat}{zero:D0t}(hz:zero.size=size){x:α}{Q:Slc→Heap→Prop}
  (hs:sat h (U6 enc size s xs::R))(hsz:0<size)(gQ:0<bytes)(hb:(xs.length+1)*bytes≤140737488355328)
  (hq:∀s' h',sat h' (U6 enc size s' (xs++[x])::R)→Q s' h'):HM.new (.cells (enc x).toArray T) h fun b h'=>HM.append elem size bytes zero s 1 (V9 size ⟨some ⟨b,0,none⟩,1,1⟩) h' Q:=by
 refine V6 hs fun b h1 aa=>?_
 refine A0k ao dr hz (ys:=[x]) aa.p1 rfl ?_ hsz gQ hb fun s' h2 ae=>hq s' h2 ae.p1.drop
 simp only[V9,N0,D7,I1,C2]
 exact aa.reads (by simp[ao])
theorem A0v{ts:List Tag}{a:Addr}(x:Tup ts){Q:Tup ts→Heap→Prop}(hc:∀i v,(Tup.cC ts x)[i]? =some v→W3 h (a.add i)=some v)(hq:Q x h):o6 ts a h Q:=⟨x,hc,hq⟩
theorem U4(b i:Nat):(⟨b,0,none⟩:Addr).add i=⟨b,i,none⟩:=by
 cases i with
 |zero=>rfl
 |succ i=>simp[Addr.add]
theorem Y8{b:Nat}{cs:D0t}{ts:List Tag}(x:Tup ts){Q:Tup ts→Heap→Prop}(hs:sat h (cells b cs::R))(he:cs=(Tup.cC ts x).toArray)(hq:Q x h):o6 ts ⟨b,0,none⟩ h Q:=by
 refine⟨x,fun i v hv=>?_,hq⟩
 have:=hs.cell i
 rw[he] at this
 have e:(⟨b,0,none⟩:Addr).add i=⟨b,i,none⟩:=by
  cases i with
  |zero=>rfl
  |succ i=>simp[Addr.add]
 rw[e,this]
 simpa using hv
theorem B5a{b:Nat}{cs:D0t}{vs:D0u}{Q:Unit→Heap→Prop}(hs:sat h (cells b cs::R))(hl:vs.length=cs.size)(hv:∀v∈vs,v.oneCell'=true)
  (hq:∀h',sat h' (cells b vs.toArray::R)→Q () h'):B0n ⟨b,0,none⟩ vs h Q:=by
 refine⟨A3A (o:=0) hs (by omega) hv,?_⟩
 obtain⟨cs',e1,e2,af⟩:=sat.setCells vs cs 0 0 hs (by omega)
 have e3:cs'=vs.toArray:=by
  apply I5.1
  rw[e2]
  simp only[O4,L7,List.take_zero,F0]
  rw[L9 (by simp;omega)]
  simp
 subst e3
 exact hq _ af
theorem l6{b:Nat}{cs:D0t}{vs:D0u}{Q:Unit→Heap→Prop}(hs:sat h (cells b cs::R))(hl:vs.length=cs.size)(hv:vs.all (fun v=>v.oneCell')=true)
  (hq:∀h',sat h' (cells b vs.toArray::R)→Q () h'):B0n ⟨b,0,none⟩ vs h Q:=
 B5a hs hl (I8.1 hv) hq
end
end
end Go.H
namespace Go.R
open Go.H
theorem C3y{α:Type}{p:Nat→α→Prop}:∀(n:Nat),(∀i,i<n→∃x,p i x)→∃xs:List α,xs.length=n∧∀(i:Nat) x,xs[i]? =some x→p i x
 |0,_=>⟨[],rfl,fun i x hx=>by simp at hx⟩
 |n+1,hp=>by
  obtain⟨xs,h1,h2⟩:=C3y n (fun i hi=>hp i (by omega))
  obtain⟨x,hx⟩:=hp n (by omega)
  refine⟨xs++[x],by simp[h1],fun i y hy=>?_⟩
  rw[List.getElem?_append] at hy
  split at hy
  ·exact h2 i y hy
  ·rename_i hi
   have h3:=(E0.1 hy).1
   simp only[B7,G7] at h3
   have ed:i=n:=by omega
   subst ed
   rw[h1,Q3] at hy
   cases hy
   exact hx
structure OkLaw{H:Type}(P:Program)(ok:TypeId→DataW H→Prop)(top:Nat)(wt:TypeId→Nat):Prop where
 str:∀{t:TypeId} {bs:List UInt8},ok t (.lit (.string bs))→bs.length≤top
 elem:∀{t e:TypeId} {elems rest:List (DataW H)} {d:DataW H},P.underlying t=some (.slice e)→ok t (.slice elems rest)→d∈elems→ok e d
 eT:∀{t e:TypeId} {elems rest:List (DataW H)},P.underlying t=some (.slice e)→ok t (.slice elems rest)→elems.length*wt e≤top
 field:∀{t:TypeId} {fs:Array Field} {parts:List (DataW H)} {j:Nat} {f:Field} {d:DataW H},P.underlying t=some (.struct fs)→ok t (.agg parts)→fs[j]? =some f→parts[j]? =some d→ok f.type d
 arr:∀{t e:TypeId} {n:Nat} {parts:List (DataW H)} {d:DataW H},P.underlying t=some (.array n e)→ok t (.agg parts)→d∈parts→ok e d
theorem okWide_agg{P:Program}{w:World}{t:TypeId}{fs:Array Field}{r:Reach}{b0:Nat}{v:Value}(ht:P.underlying t=some (.struct fs))(h:Value.okWide P w r b0 t v):∃cs,v=.agg cs:=by
 simp only[Value.okWide,ht] at h
 obtain⟨cs,h1,_⟩:=h
 exact⟨cs,h1⟩
structure GoodG{α:Type}(enc:α→D0u)(size wt top:Nat)(h:Heap)(bQ:α→Prop)(x:Slc×List α):Prop where
 row:Z8 enc size h x.1 x.2
 bQ:∀y∈x.2,bQ y
 cap:x.1.cap≤maxLen
 reach:x.2.length*wt≤top
section
variable {H:Type} (ec:TypeId×Value→H) (P:Program) (w:World) (base:Nat) (sp:Nat→Bool) (held:Bool) (ok:TypeId→DataW H→Prop)
def RdG{α:Type}(t:TypeId)(enc:α→D0u)(bQ:α→Prop):Prop:=
 ∀fuel cs y,DataW.trod ec P w base sp held fuel t cs=some y→ok t y.1→∃x,cs=enc x∧bQ x
def RdF{α:Type}(fs:List Field)(o n:Nat)(enc:α→D0u)(bQ:α→Prop):Prop:=
 ∀fuel (cs:D0u) (xs:List (DataW H×List MemPlace)),cs.length=n→xs.length=fs.length→
  (∀(j:Nat) f,fs[j]? =some f→DataW.trod ec P w base sp held fuel f.type ((cs.drop f.offset).take (P.cellsOf f.type))=xs[j]?)→
  (∀(j:Nat) f d,fs[j]? =some f→xs[j]? =some d→ok f.type d.1)→∃x,cs.drop o=enc x∧bQ x
end
section
variable {H:Type} {ec:TypeId×Value→H} {P:Program} {w:World} {base:Nat} {sp:Nat→Bool} {held:Bool} {ok:TypeId→DataW H→Prop} {top:Nat} {wt:TypeId→Nat}
theorem rg_map{α β:Type}{t:TypeId}{enc:α→D0u}{bQ:α→Prop}{enc':β→D0u}{good':β→Prop}(f:α→β)
  (h:RdG ec P w base sp held ok t enc bQ)(he:∀x,enc x=enc' (f x))(hg:∀x,bQ x→good' (f x)):RdG ec P w base sp held ok t enc' good':=fun fuel cs y hy hw=>by
 obtain⟨x,h1,h2⟩:=h fuel cs y hy hw
 exact⟨f x,h1.trans (he x),hg x h2⟩
theorem rg_int{t:TypeId}{k:IntKind}(ht:P.underlying t=some (.int k)):RdG ec P w base sp held ok t (fun x:Int=>[.int k x]) (fun x=>(Lit.int k x).wf=true):=fun _ _ _ h _=>by
 obtain⟨n,h1,_,h2⟩:=DataW.trod_int ht h
 exact⟨n,h1,h2⟩
theorem rg_bool{t:TypeId}(ht:P.underlying t=some .bool):RdG ec P w base sp held ok t (fun x:Bool=>[.bool x]) (fun _=>True):=fun _ _ _ h _=>by
 obtain⟨n,h1,_⟩:=DataW.trod_bool ht h
 exact⟨n,h1,trivial⟩
theorem rg_str(hk:OkLaw P ok top wt){t:TypeId}(ht:P.underlying t=some .string):RdG ec P w base sp held ok t (fun x:B38=>[.string x]) (fun x=>x.size≤top):=fun _ _ _ h hw=>by
 obtain⟨n,h1,rfl,h2⟩:=DataW.trod_string ht h
 refine⟨n,h1,?_⟩
 have:=hk.str hw
 rwa[N3] at this
theorem rg_slice(hk:OkLaw P ok top wt){α:Type}{t e:TypeId}{enc:α→D0u}{bQ:α→Prop}(ht:P.underlying t=some (.slice e)){size k:Nat}(hc:P.cellsOf e=size)(hb:wt e=k)(he:RdG ec P w base sp held ok e enc bQ):
  RdG ec P w base sp held ok t (fun x:Slc×List α=>[.slice x.1.a x.1.len x.1.cap]) (GoodG enc size k top w.heap bQ):=fun fuel cs y h hw=>by
 subst hc hb
 rcases DataW.trod_slice ht h with⟨rfl,_⟩|⟨a,len,cap,elems,rest,n,_,rfl,rfl,_,hl,hm,hlen,qS,_,_⟩
 ·exact⟨(⟨none,0,0⟩,[]),rfl,⟨rfl,D8 _,fun i x hx=>by simp at hx⟩,fun y hy=>by simp at hy,D1 _,by simp⟩
 ·have je:∀i (hi:i<elems.length),ok e (elems[i]'hi).1:=fun i hi=>hk.elem ht hw (B3 (G8 hi))
  have uZ:=hk.eT ht hw
  have h1:∀i,i<len→∃x,bQ x∧∀j v,(enc x)[j]? =some v→W3 w.heap ((a.add (i*P.cellsOf e)).add j)=some v:=by
   intro i hi
   have h2:=qS i hi
   rw[B0 (by omega),Option.bind_eq_some_iff] at h2
   obtain⟨cs',h3,h4⟩:=h2
   obtain⟨x,rfl,hg⟩:=he _ _ _ h4 (je i (by omega))
   obtain⟨_,h5,h6⟩:=World.cells?_some h3
   refine⟨x,hg,fun j v hv=>?_⟩
   rw[←B9P,h6 j (by rw[←h5];exact(E0.1 hv).1)]
   exact hv
  obtain⟨xs,h2,h3⟩:=C3y len h1
  refine⟨(⟨some a,len,cap⟩,xs),rfl,⟨h2.symm,hl,fun i x hx=>⟨a,rfl,(h3 i x hx).2⟩⟩,fun y hy=>?_,hm,?_⟩
  ·obtain⟨i,hi⟩:=List.getElem?_of_mem hy
   exact(h3 i y hi).1
  ·simp only
   rw[C1] at uZ
   rw[h2,←hlen]
   exact uZ
theorem rf_cons{α β:Type}{f:Field}{fs:List Field}{o n:Nat}{c:Nat}{e0:α→D0u}{g0:α→Prop}{e1:β→D0u}{g1:β→Prop}(hc:P.cellsOf f.type=c)(ho:f.offset=o)
  (h0:RdG ec P w base sp held ok f.type e0 g0)(h1:RdF ec P w base sp held ok fs (o+c) n e1 g1):RdF ec P w base sp held ok (f::fs) o n (fun x:α×β=>e0 x.1++e1 x.2) (fun x=>g0 x.1∧g1 x.2):=fun fuel cs xs hl hx hf ag=>by
 subst hc ho
 cases xs with
 |nil=>simp at hx
 |cons y xs=>
  obtain⟨x0,c0,k0⟩:=h0 fuel _ y (hf 0 f rfl) (ag 0 f y rfl rfl)
  obtain⟨x1,c1,k1⟩:=h1 fuel cs xs hl (by simpa using hx) (fun j f' hj=>by have:=hf (j+1) f' (by simpa using hj);simpa using this) (fun j f' d hj hd=>ag (j+1) f' d (by simpa using hj) (by simpa using hd))
  refine⟨(x0,x1),?_,k0,k1⟩
  simp only[←c0,←c1]
  rw[←List.drop_drop,J3]
theorem rf_one{α:Type}{f:Field}{o n:Nat}{c:Nat}{e0:α→D0u}{g0:α→Prop}(hc:P.cellsOf f.type=c)(ho:f.offset=o)(hn:n≤o+c)
  (h0:RdG ec P w base sp held ok f.type e0 g0):RdF ec P w base sp held ok [f] o n e0 g0:=fun fuel cs xs hl hx hf ag=>by
 subst hc ho
 cases xs with
 |nil=>simp at hx
 |cons y xs=>
  obtain⟨x0,c0,k0⟩:=h0 fuel _ y (hf 0 f rfl) (ag 0 f y rfl rfl)
  refine⟨x0,?_,k0⟩
  rw[←c0,D4 (by rw[R2];omega)]
theorem rg_struct(hk:OkLaw P ok top wt){α:Type}{t:TypeId}{fs:Array Field}{n:Nat}{enc:α→D0u}{bQ:α→Prop}(ht:P.underlying t=some (.struct fs))(hn:P.cellsOf t=n)(h:RdF ec P w base sp held ok fs.toList 0 n enc bQ):
  RdG ec P w base sp held ok t enc bQ:=fun fuel cs y hy hw=>by
 obtain⟨xs,m,_,rfl,hl,hx,hf⟩:=DataW.trod_struct ht hy
 obtain⟨x,h1,h2⟩:=h m cs xs (hl.trans hn) (by simpa using hx) (fun j f hj=>hf j f (by simpa using hj)) (fun j f d hj hd=>hk.field ht hw (by simpa using hj) (by rw[K7,hd];rfl))
 exact⟨x,by simpa using h1,h2⟩
end
end Go.R
namespace Go.Proofs
open Go.H
variable {H:Type} {enc:TypeId×Value→H}
end Go.Proofs
namespace Go.Proofs.YtidlldnlphdhcaaGreatDoor
open Go.H
open Go.Proofs.Tryz
open Go.H Go.Proofs
theorem C78{P:Program}{C:List Nat}{n:Nat}{live lc:List Nat}{f:FuncId}{fn:Func}{ks:List Kind}{args:D0u}{h:Heap}{Q:Value→Heap→Prop}{m:HM (r9 ks)}(hf:P.funcs[f]? =some fn)(hb:fn.body.isSome=true)(hn:fn.ntmps=n)(hlen:Nat.ble args.length n=true)
  (hC:∀f,f∈C→A1D P f)(hm:P.follows .mixedOrders=true)(he:C6y P C n live lc fn.results.toList ks (B6V fn) args=m)(hd:m h fun x h'=>Q (packed ks x) h'):V4 P f args.toArray h Q:=
 B2p hf hb hn hlen hC hm (he▸hd)
theorem C8w:prog.follows .mixedOrders=true:=by kernel_rfl
def HCs{α:Type}(f:Nat)(args:D0t)(m:HM α)(k:α→Value):Prop:=∀(h:Heap) (Q:Value→Heap→Prop),(m h fun x h'=>Q (k x) h')→V4 prog f args h Q
theorem cE{C:List Nat}{n:Nat}{f:FuncId}{fn:Func}{args:D0u}(ks:List Kind){m:HM (r9 ks)}(live lc:List Nat)(hf:prog.funcs[f]? =some fn)(hn:fn.ntmps=n)(hC:∀f,f∈C→A1D prog f)(he:C6y prog C n live lc fn.results.toList ks (B6V fn) args=m:=by kernel_rfl)(hb:fn.body.isSome=true:=by kernel_rfl)(hlen:Nat.ble args.length n=true:=by kernel_rfl):HCs f args.toArray m (packed ks):=fun h Q hd=>B2p hf hb hn hlen hC C8w (he▸hd)
theorem CN{P:Program}:∀f,f∈([]:List Nat)→A1D P f:=fun f hf=>by cases hf
theorem CC{P:Program}{a:Nat}{l:List Nat}(h:A1D P a)(hl:∀f,f∈l→A1D P f):∀f,f∈a::l→A1D P f:=fun f hf=>by
 rcases D2.1 hf with rfl|hf
 ·exact h
 ·exact hl f hf
abbrev tS0:List Tag:=[.int .i64,.int .i64,.int .i64,.bool,.bool,.int .i64,.int .i64,.str,.str,.int .u8,.slc,.slc,.str,.bool,.int .i64,.bool,.str,.str,.int .i64,.bool,.slc,.bool,.bool,.str,.str,.bool,.slc,.slc,.bool,.str,.str,.int .i64,.bool,.str]
abbrev yS0:Type:=Int×Int×Int×Bool×Bool×Int×Int×B38×B38×Int×Slc×Slc×B38×Bool×Int×Bool×B38×B38×Int×Bool×Slc×Bool×Bool×B38×B38×Bool×Slc×Slc×Bool×B38×B38×Int×Bool×B38×Unit
abbrev aS0(x:yS0):D0t:=#[.int .i64 x.1,.int .i64 x.2.1,.int .i64 x.2.2.1,.bool x.2.2.2.1,.bool x.2.2.2.2.1,.int .i64 x.2.2.2.2.2.1,.int .i64 x.2.2.2.2.2.2.1,.string x.2.2.2.2.2.2.2.1,.string x.2.2.2.2.2.2.2.2.1,.int .u8 x.2.2.2.2.2.2.2.2.2.1,.slice x.2.2.2.2.2.2.2.2.2.2.1.a x.2.2.2.2.2.2.2.2.2.2.1.len x.2.2.2.2.2.2.2.2.2.2.1.cap,.slice x.2.2.2.2.2.2.2.2.2.2.2.1.a x.2.2.2.2.2.2.2.2.2.2.2.1.len x.2.2.2.2.2.2.2.2.2.2.2.1.cap,.string x.2.2.2.2.2.2.2.2.2.2.2.2.1,.bool x.2.2.2.2.2.2.2.2.2.2.2.2.2.1,.int .i64 x.2.2.2.2.2.2.2.2.2.2.2.2.2.2.1,.bool x.2.2.2.2.2.2.2.2.2.2.2.2.2.2.2.1,.string x.2.2.2.2.2.2.2.2.2.2.2.2.2.2.2.2.1,.string x.2.2.2.2.2.2.2.2.2.2.2.2.2.2.2.2.2.1,.int .i64 x.2.2.2.2.2.2.2.2.2.2.2.2.2.2.2.2.2.2.1,.bool x.2.2.2.2.2.2.2.2.2.2.2.2.2.2.2.2.2.2.2.1,.slice x.2.2.2.2.2.2.2.2.2.2.2.2.2.2.2.2.2.2.2.2.1.a x.2.2.2.2.2.2.2.2.2.2.2.2.2.2.2.2.2.2.2.2.1.len x.2.2.2.2.2.2.2.2.2.2.2.2.2.2.2.2.2.2.2.2.1.cap,.bool x.2.2.2.2.2.2.2.2.2.2.2.2.2.2.2.2.2.2.2.2.2.1,.bool x.2.2.2.2.2.2.2.2.2.2.2.2.2.2.2.2.2.2.2.2.2.2.1,.string x.2.2.2.2.2.2.2.2.2.2.2.2.2.2.2.2.2.2.2.2.2.2.2.1,.string x.2.2.2.2.2.2.2.2.2.2.2.2.2.2.2.2.2.2.2.2.2.2.2.2.1,.bool x.2.2.2.2.2.2.2.2.2.2.2.2.2.2.2.2.2.2.2.2.2.2.2.2.2.1,.slice x.2.2.2.2.2.2.2.2.2.2.2.2.2.2.2.2.2.2.2.2.2.2.2.2.2.2.1.a x.2.2.2.2.2.2.2.2.2.2.2.2.2.2.2.2.2.2.2.2.2.2.2.2.2.2.1.len x.2.2.2.2.2.2.2.2.2.2.2.2.2.2.2.2.2.2.2.2.2.2.2.2.2.2.1.cap,.slice x.2.2.2.2.2.2.2.2.2.2.2.2.2.2.2.2.2.2.2.2.2.2.2.2.2.2.2.1.a x.2.2.2.2.2.2.2.2.2.2.2.2.2.2.2.2.2.2.2.2.2.2.2.2.2.2.2.1.len x.2.2.2.2.2.2.2.2.2.2.2.2.2.2.2.2.2.2.2.2.2.2.2.2.2.2.2.1.cap,.bool x.2.2.2.2.2.2.2.2.2.2.2.2.2.2.2.2.2.2.2.2.2.2.2.2.2.2.2.2.1,.string x.2.2.2.2.2.2.2.2.2.2.2.2.2.2.2.2.2.2.2.2.2.2.2.2.2.2.2.2.2.1,.string x.2.2.2.2.2.2.2.2.2.2.2.2.2.2.2.2.2.2.2.2.2.2.2.2.2.2.2.2.2.2.1,.int .i64 x.2.2.2.2.2.2.2.2.2.2.2.2.2.2.2.2.2.2.2.2.2.2.2.2.2.2.2.2.2.2.2.1,.bool x.2.2.2.2.2.2.2.2.2.2.2.2.2.2.2.2.2.2.2.2.2.2.2.2.2.2.2.2.2.2.2.2.1,.string x.2.2.2.2.2.2.2.2.2.2.2.2.2.2.2.2.2.2.2.2.2.2.2.2.2.2.2.2.2.2.2.2.2.1]
abbrev lS0(x:yS0):D0u:=[.int .i64 x.1,.int .i64 x.2.1,.int .i64 x.2.2.1,.bool x.2.2.2.1,.bool x.2.2.2.2.1,.int .i64 x.2.2.2.2.2.1,.int .i64 x.2.2.2.2.2.2.1,.string x.2.2.2.2.2.2.2.1,.string x.2.2.2.2.2.2.2.2.1,.int .u8 x.2.2.2.2.2.2.2.2.2.1,.slice x.2.2.2.2.2.2.2.2.2.2.1.a x.2.2.2.2.2.2.2.2.2.2.1.len x.2.2.2.2.2.2.2.2.2.2.1.cap,.slice x.2.2.2.2.2.2.2.2.2.2.2.1.a x.2.2.2.2.2.2.2.2.2.2.2.1.len x.2.2.2.2.2.2.2.2.2.2.2.1.cap,.string x.2.2.2.2.2.2.2.2.2.2.2.2.1,.bool x.2.2.2.2.2.2.2.2.2.2.2.2.2.1,.int .i64 x.2.2.2.2.2.2.2.2.2.2.2.2.2.2.1,.bool x.2.2.2.2.2.2.2.2.2.2.2.2.2.2.2.1,.string x.2.2.2.2.2.2.2.2.2.2.2.2.2.2.2.2.1,.string x.2.2.2.2.2.2.2.2.2.2.2.2.2.2.2.2.2.1,.int .i64 x.2.2.2.2.2.2.2.2.2.2.2.2.2.2.2.2.2.2.1,.bool x.2.2.2.2.2.2.2.2.2.2.2.2.2.2.2.2.2.2.2.1,.slice x.2.2.2.2.2.2.2.2.2.2.2.2.2.2.2.2.2.2.2.2.1.a x.2.2.2.2.2.2.2.2.2.2.2.2.2.2.2.2.2.2.2.2.1.len x.2.2.2.2.2.2.2.2.2.2.2.2.2.2.2.2.2.2.2.2.1.cap,.bool x.2.2.2.2.2.2.2.2.2.2.2.2.2.2.2.2.2.2.2.2.2.1,.bool x.2.2.2.2.2.2.2.2.2.2.2.2.2.2.2.2.2.2.2.2.2.2.1,.string x.2.2.2.2.2.2.2.2.2.2.2.2.2.2.2.2.2.2.2.2.2.2.2.1,.string x.2.2.2.2.2.2.2.2.2.2.2.2.2.2.2.2.2.2.2.2.2.2.2.2.1,.bool x.2.2.2.2.2.2.2.2.2.2.2.2.2.2.2.2.2.2.2.2.2.2.2.2.2.1,.slice x.2.2.2.2.2.2.2.2.2.2.2.2.2.2.2.2.2.2.2.2.2.2.2.2.2.2.1.a x.2.2.2.2.2.2.2.2.2.2.2.2.2.2.2.2.2.2.2.2.2.2.2.2.2.2.1.len x.2.2.2.2.2.2.2.2.2.2.2.2.2.2.2.2.2.2.2.2.2.2.2.2.2.2.1.cap,.slice x.2.2.2.2.2.2.2.2.2.2.2.2.2.2.2.2.2.2.2.2.2.2.2.2.2.2.2.1.a x.2.2.2.2.2.2.2.2.2.2.2.2.2.2.2.2.2.2.2.2.2.2.2.2.2.2.2.1.len x.2.2.2.2.2.2.2.2.2.2.2.2.2.2.2.2.2.2.2.2.2.2.2.2.2.2.2.1.cap,.bool x.2.2.2.2.2.2.2.2.2.2.2.2.2.2.2.2.2.2.2.2.2.2.2.2.2.2.2.2.1,.string x.2.2.2.2.2.2.2.2.2.2.2.2.2.2.2.2.2.2.2.2.2.2.2.2.2.2.2.2.2.1,.string x.2.2.2.2.2.2.2.2.2.2.2.2.2.2.2.2.2.2.2.2.2.2.2.2.2.2.2.2.2.2.1,.int .i64 x.2.2.2.2.2.2.2.2.2.2.2.2.2.2.2.2.2.2.2.2.2.2.2.2.2.2.2.2.2.2.2.1,.bool x.2.2.2.2.2.2.2.2.2.2.2.2.2.2.2.2.2.2.2.2.2.2.2.2.2.2.2.2.2.2.2.2.1,.string x.2.2.2.2.2.2.2.2.2.2.2.2.2.2.2.2.2.2.2.2.2.2.2.2.2.2.2.2.2.2.2.2.2.1]
abbrev zS0:D0t:=#[.int .i64 0,.int .i64 0,.int .i64 0,.bool false,.bool false,.int .i64 0,.int .i64 0,.string (ByteArray.mk #[]),.string (ByteArray.mk #[]),.int .u8 0,.slice none 0 0,.slice none 0 0,.string (ByteArray.mk #[]),.bool false,.int .i64 0,.bool false,.string (ByteArray.mk #[]),.string (ByteArray.mk #[]),.int .i64 0,.bool false,.slice none 0 0,.bool false,.bool false,.string (ByteArray.mk #[]),.string (ByteArray.mk #[]),.bool false,.slice none 0 0,.slice none 0 0,.bool false,.string (ByteArray.mk #[]),.string (ByteArray.mk #[]),.int .i64 0,.bool false,.string (ByteArray.mk #[])]
abbrev tS1:List Tag:=[.int .i64,.int .i64,.bool,.bool,.int .i64,.int .i64,.str,.str,.int .u8,.slc,.slc,.str,.bool,.int .i64,.bool,.str,.str,.int .i64,.bool,.slc,.bool,.bool,.str,.str,.bool,.slc,.slc,.bool]
abbrev yS1:Type:=Int×Int×Bool×Bool×Int×Int×B38×B38×Int×Slc×Slc×B38×Bool×Int×Bool×B38×B38×Int×Bool×Slc×Bool×Bool×B38×B38×Bool×Slc×Slc×Bool×Unit
abbrev lS1(x:yS1):D0u:=[.int .i64 x.1,.int .i64 x.2.1,.bool x.2.2.1,.bool x.2.2.2.1,.int .i64 x.2.2.2.2.1,.int .i64 x.2.2.2.2.2.1,.string x.2.2.2.2.2.2.1,.string x.2.2.2.2.2.2.2.1,.int .u8 x.2.2.2.2.2.2.2.2.1,.slice x.2.2.2.2.2.2.2.2.2.1.a x.2.2.2.2.2.2.2.2.2.1.len x.2.2.2.2.2.2.2.2.2.1.cap,.slice x.2.2.2.2.2.2.2.2.2.2.1.a x.2.2.2.2.2.2.2.2.2.2.1.len x.2.2.2.2.2.2.2.2.2.2.1.cap,.string x.2.2.2.2.2.2.2.2.2.2.2.1,.bool x.2.2.2.2.2.2.2.2.2.2.2.2.1,.int .i64 x.2.2.2.2.2.2.2.2.2.2.2.2.2.1,.bool x.2.2.2.2.2.2.2.2.2.2.2.2.2.2.1,.string x.2.2.2.2.2.2.2.2.2.2.2.2.2.2.2.1,.string x.2.2.2.2.2.2.2.2.2.2.2.2.2.2.2.2.1,.int .i64 x.2.2.2.2.2.2.2.2.2.2.2.2.2.2.2.2.2.1,.bool x.2.2.2.2.2.2.2.2.2.2.2.2.2.2.2.2.2.2.1,.slice x.2.2.2.2.2.2.2.2.2.2.2.2.2.2.2.2.2.2.2.1.a x.2.2.2.2.2.2.2.2.2.2.2.2.2.2.2.2.2.2.2.1.len x.2.2.2.2.2.2.2.2.2.2.2.2.2.2.2.2.2.2.2.1.cap,.bool x.2.2.2.2.2.2.2.2.2.2.2.2.2.2.2.2.2.2.2.2.1,.bool x.2.2.2.2.2.2.2.2.2.2.2.2.2.2.2.2.2.2.2.2.2.1,.string x.2.2.2.2.2.2.2.2.2.2.2.2.2.2.2.2.2.2.2.2.2.2.1,.string x.2.2.2.2.2.2.2.2.2.2.2.2.2.2.2.2.2.2.2.2.2.2.2.1,.bool x.2.2.2.2.2.2.2.2.2.2.2.2.2.2.2.2.2.2.2.2.2.2.2.2.1,.slice x.2.2.2.2.2.2.2.2.2.2.2.2.2.2.2.2.2.2.2.2.2.2.2.2.2.1.a x.2.2.2.2.2.2.2.2.2.2.2.2.2.2.2.2.2.2.2.2.2.2.2.2.2.1.len x.2.2.2.2.2.2.2.2.2.2.2.2.2.2.2.2.2.2.2.2.2.2.2.2.2.1.cap,.slice x.2.2.2.2.2.2.2.2.2.2.2.2.2.2.2.2.2.2.2.2.2.2.2.2.2.2.1.a x.2.2.2.2.2.2.2.2.2.2.2.2.2.2.2.2.2.2.2.2.2.2.2.2.2.2.1.len x.2.2.2.2.2.2.2.2.2.2.2.2.2.2.2.2.2.2.2.2.2.2.2.2.2.2.1.cap,.bool x.2.2.2.2.2.2.2.2.2.2.2.2.2.2.2.2.2.2.2.2.2.2.2.2.2.2.2.1]
abbrev zS1:D0t:=#[.int .i64 0,.int .i64 0,.bool false,.bool false,.int .i64 0,.int .i64 0,.string (ByteArray.mk #[]),.string (ByteArray.mk #[]),.int .u8 0,.slice none 0 0,.slice none 0 0,.string (ByteArray.mk #[]),.bool false,.int .i64 0,.bool false,.string (ByteArray.mk #[]),.string (ByteArray.mk #[]),.int .i64 0,.bool false,.slice none 0 0,.bool false,.bool false,.string (ByteArray.mk #[]),.string (ByteArray.mk #[]),.bool false,.slice none 0 0,.slice none 0 0,.bool false]
abbrev tS2:List Tag:=[.int .i64,.bool,.bool,.int .i64,.int .i64,.str,.str,.int .i64,.slc,.slc,.str,.bool,.int .i64,.bool,.str,.str,.int .i64,.bool,.slc,.bool,.bool,.str,.str,.bool,.slc,.slc]
abbrev yS2:Type:=Int×Bool×Bool×Int×Int×B38×B38×Int×Slc×Slc×B38×Bool×Int×Bool×B38×B38×Int×Bool×Slc×Bool×Bool×B38×B38×Bool×Slc×Slc×Unit
abbrev aS2(x:yS2):D0t:=#[.int .i64 x.1,.bool x.2.1,.bool x.2.2.1,.int .i64 x.2.2.2.1,.int .i64 x.2.2.2.2.1,.string x.2.2.2.2.2.1,.string x.2.2.2.2.2.2.1,.int .i64 x.2.2.2.2.2.2.2.1,.slice x.2.2.2.2.2.2.2.2.1.a x.2.2.2.2.2.2.2.2.1.len x.2.2.2.2.2.2.2.2.1.cap,.slice x.2.2.2.2.2.2.2.2.2.1.a x.2.2.2.2.2.2.2.2.2.1.len x.2.2.2.2.2.2.2.2.2.1.cap,.string x.2.2.2.2.2.2.2.2.2.2.1,.bool x.2.2.2.2.2.2.2.2.2.2.2.1,.int .i64 x.2.2.2.2.2.2.2.2.2.2.2.2.1,.bool x.2.2.2.2.2.2.2.2.2.2.2.2.2.1,.string x.2.2.2.2.2.2.2.2.2.2.2.2.2.2.1,.string x.2.2.2.2.2.2.2.2.2.2.2.2.2.2.2.1,.int .i64 x.2.2.2.2.2.2.2.2.2.2.2.2.2.2.2.2.1,.bool x.2.2.2.2.2.2.2.2.2.2.2.2.2.2.2.2.2.1,.slice x.2.2.2.2.2.2.2.2.2.2.2.2.2.2.2.2.2.2.1.a x.2.2.2.2.2.2.2.2.2.2.2.2.2.2.2.2.2.2.1.len x.2.2.2.2.2.2.2.2.2.2.2.2.2.2.2.2.2.2.1.cap,.bool x.2.2.2.2.2.2.2.2.2.2.2.2.2.2.2.2.2.2.2.1,.bool x.2.2.2.2.2.2.2.2.2.2.2.2.2.2.2.2.2.2.2.2.1,.string x.2.2.2.2.2.2.2.2.2.2.2.2.2.2.2.2.2.2.2.2.2.1,.string x.2.2.2.2.2.2.2.2.2.2.2.2.2.2.2.2.2.2.2.2.2.2.1,.bool x.2.2.2.2.2.2.2.2.2.2.2.2.2.2.2.2.2.2.2.2.2.2.2.1,.slice x.2.2.2.2.2.2.2.2.2.2.2.2.2.2.2.2.2.2.2.2.2.2.2.2.1.a x.2.2.2.2.2.2.2.2.2.2.2.2.2.2.2.2.2.2.2.2.2.2.2.2.1.len x.2.2.2.2.2.2.2.2.2.2.2.2.2.2.2.2.2.2.2.2.2.2.2.2.1.cap,.slice x.2.2.2.2.2.2.2.2.2.2.2.2.2.2.2.2.2.2.2.2.2.2.2.2.2.1.a x.2.2.2.2.2.2.2.2.2.2.2.2.2.2.2.2.2.2.2.2.2.2.2.2.2.1.len x.2.2.2.2.2.2.2.2.2.2.2.2.2.2.2.2.2.2.2.2.2.2.2.2.2.1.cap]
abbrev lS2(x:yS2):D0u:=[.int .i64 x.1,.bool x.2.1,.bool x.2.2.1,.int .i64 x.2.2.2.1,.int .i64 x.2.2.2.2.1,.string x.2.2.2.2.2.1,.string x.2.2.2.2.2.2.1,.int .i64 x.2.2.2.2.2.2.2.1,.slice x.2.2.2.2.2.2.2.2.1.a x.2.2.2.2.2.2.2.2.1.len x.2.2.2.2.2.2.2.2.1.cap,.slice x.2.2.2.2.2.2.2.2.2.1.a x.2.2.2.2.2.2.2.2.2.1.len x.2.2.2.2.2.2.2.2.2.1.cap,.string x.2.2.2.2.2.2.2.2.2.2.1,.bool x.2.2.2.2.2.2.2.2.2.2.2.1,.int .i64 x.2.2.2.2.2.2.2.2.2.2.2.2.1,.bool x.2.2.2.2.2.2.2.2.2.2.2.2.2.1,.string x.2.2.2.2.2.2.2.2.2.2.2.2.2.2.1,.string x.2.2.2.2.2.2.2.2.2.2.2.2.2.2.2.1,.int .i64 x.2.2.2.2.2.2.2.2.2.2.2.2.2.2.2.2.1,.bool x.2.2.2.2.2.2.2.2.2.2.2.2.2.2.2.2.2.1,.slice x.2.2.2.2.2.2.2.2.2.2.2.2.2.2.2.2.2.2.1.a x.2.2.2.2.2.2.2.2.2.2.2.2.2.2.2.2.2.2.1.len x.2.2.2.2.2.2.2.2.2.2.2.2.2.2.2.2.2.2.1.cap,.bool x.2.2.2.2.2.2.2.2.2.2.2.2.2.2.2.2.2.2.2.1,.bool x.2.2.2.2.2.2.2.2.2.2.2.2.2.2.2.2.2.2.2.2.1,.string x.2.2.2.2.2.2.2.2.2.2.2.2.2.2.2.2.2.2.2.2.2.1,.string x.2.2.2.2.2.2.2.2.2.2.2.2.2.2.2.2.2.2.2.2.2.2.1,.bool x.2.2.2.2.2.2.2.2.2.2.2.2.2.2.2.2.2.2.2.2.2.2.2.1,.slice x.2.2.2.2.2.2.2.2.2.2.2.2.2.2.2.2.2.2.2.2.2.2.2.2.1.a x.2.2.2.2.2.2.2.2.2.2.2.2.2.2.2.2.2.2.2.2.2.2.2.2.1.len x.2.2.2.2.2.2.2.2.2.2.2.2.2.2.2.2.2.2.2.2.2.2.2.2.1.cap,.slice x.2.2.2.2.2.2.2.2.2.2.2.2.2.2.2.2.2.2.2.2.2.2.2.2.2.1.a x.2.2.2.2.2.2.2.2.2.2.2.2.2.2.2.2.2.2.2.2.2.2.2.2.2.1.len x.2.2.2.2.2.2.2.2.2.2.2.2.2.2.2.2.2.2.2.2.2.2.2.2.2.1.cap]
abbrev zS2:D0t:=#[.int .i64 0,.bool false,.bool false,.int .i64 0,.int .i64 0,.string (ByteArray.mk #[]),.string (ByteArray.mk #[]),.int .i64 0,.slice none 0 0,.slice none 0 0,.string (ByteArray.mk #[]),.bool false,.int .i64 0,.bool false,.string (ByteArray.mk #[]),.string (ByteArray.mk #[]),.int .i64 0,.bool false,.slice none 0 0,.bool false,.bool false,.string (ByteArray.mk #[]),.string (ByteArray.mk #[]),.bool false,.slice none 0 0,.slice none 0 0]
abbrev tS3:List Tag:=[.int .i64,.bool,.bool,.int .i64,.int .i64,.str,.str,.int .u8,.slc,.slc,.str,.bool,.int .i64,.bool,.str,.str,.int .i64,.bool,.slc,.bool,.bool,.str,.str,.bool,.slc,.slc]
abbrev yS3:Type:=Int×Bool×Bool×Int×Int×B38×B38×Int×Slc×Slc×B38×Bool×Int×Bool×B38×B38×Int×Bool×Slc×Bool×Bool×B38×B38×Bool×Slc×Slc×Unit
abbrev aS3(x:yS3):D0t:=#[.int .i64 x.1,.bool x.2.1,.bool x.2.2.1,.int .i64 x.2.2.2.1,.int .i64 x.2.2.2.2.1,.string x.2.2.2.2.2.1,.string x.2.2.2.2.2.2.1,.int .u8 x.2.2.2.2.2.2.2.1,.slice x.2.2.2.2.2.2.2.2.1.a x.2.2.2.2.2.2.2.2.1.len x.2.2.2.2.2.2.2.2.1.cap,.slice x.2.2.2.2.2.2.2.2.2.1.a x.2.2.2.2.2.2.2.2.2.1.len x.2.2.2.2.2.2.2.2.2.1.cap,.string x.2.2.2.2.2.2.2.2.2.2.1,.bool x.2.2.2.2.2.2.2.2.2.2.2.1,.int .i64 x.2.2.2.2.2.2.2.2.2.2.2.2.1,.bool x.2.2.2.2.2.2.2.2.2.2.2.2.2.1,.string x.2.2.2.2.2.2.2.2.2.2.2.2.2.2.1,.string x.2.2.2.2.2.2.2.2.2.2.2.2.2.2.2.1,.int .i64 x.2.2.2.2.2.2.2.2.2.2.2.2.2.2.2.2.1,.bool x.2.2.2.2.2.2.2.2.2.2.2.2.2.2.2.2.2.1,.slice x.2.2.2.2.2.2.2.2.2.2.2.2.2.2.2.2.2.2.1.a x.2.2.2.2.2.2.2.2.2.2.2.2.2.2.2.2.2.2.1.len x.2.2.2.2.2.2.2.2.2.2.2.2.2.2.2.2.2.2.1.cap,.bool x.2.2.2.2.2.2.2.2.2.2.2.2.2.2.2.2.2.2.2.1,.bool x.2.2.2.2.2.2.2.2.2.2.2.2.2.2.2.2.2.2.2.2.1,.string x.2.2.2.2.2.2.2.2.2.2.2.2.2.2.2.2.2.2.2.2.2.1,.string x.2.2.2.2.2.2.2.2.2.2.2.2.2.2.2.2.2.2.2.2.2.2.1,.bool x.2.2.2.2.2.2.2.2.2.2.2.2.2.2.2.2.2.2.2.2.2.2.2.1,.slice x.2.2.2.2.2.2.2.2.2.2.2.2.2.2.2.2.2.2.2.2.2.2.2.2.1.a x.2.2.2.2.2.2.2.2.2.2.2.2.2.2.2.2.2.2.2.2.2.2.2.2.1.len x.2.2.2.2.2.2.2.2.2.2.2.2.2.2.2.2.2.2.2.2.2.2.2.2.1.cap,.slice x.2.2.2.2.2.2.2.2.2.2.2.2.2.2.2.2.2.2.2.2.2.2.2.2.2.1.a x.2.2.2.2.2.2.2.2.2.2.2.2.2.2.2.2.2.2.2.2.2.2.2.2.2.1.len x.2.2.2.2.2.2.2.2.2.2.2.2.2.2.2.2.2.2.2.2.2.2.2.2.2.1.cap]
abbrev lS3(x:yS3):D0u:=[.int .i64 x.1,.bool x.2.1,.bool x.2.2.1,.int .i64 x.2.2.2.1,.int .i64 x.2.2.2.2.1,.string x.2.2.2.2.2.1,.string x.2.2.2.2.2.2.1,.int .u8 x.2.2.2.2.2.2.2.1,.slice x.2.2.2.2.2.2.2.2.1.a x.2.2.2.2.2.2.2.2.1.len x.2.2.2.2.2.2.2.2.1.cap,.slice x.2.2.2.2.2.2.2.2.2.1.a x.2.2.2.2.2.2.2.2.2.1.len x.2.2.2.2.2.2.2.2.2.1.cap,.string x.2.2.2.2.2.2.2.2.2.2.1,.bool x.2.2.2.2.2.2.2.2.2.2.2.1,.int .i64 x.2.2.2.2.2.2.2.2.2.2.2.2.1,.bool x.2.2.2.2.2.2.2.2.2.2.2.2.2.1,.string x.2.2.2.2.2.2.2.2.2.2.2.2.2.2.1,.string x.2.2.2.2.2.2.2.2.2.2.2.2.2.2.2.1,.int .i64 x.2.2.2.2.2.2.2.2.2.2.2.2.2.2.2.2.1,.bool x.2.2.2.2.2.2.2.2.2.2.2.2.2.2.2.2.2.1,.slice x.2.2.2.2.2.2.2.2.2.2.2.2.2.2.2.2.2.2.1.a x.2.2.2.2.2.2.2.2.2.2.2.2.2.2.2.2.2.2.1.len x.2.2.2.2.2.2.2.2.2.2.2.2.2.2.2.2.2.2.1.cap,.bool x.2.2.2.2.2.2.2.2.2.2.2.2.2.2.2.2.2.2.2.1,.bool x.2.2.2.2.2.2.2.2.2.2.2.2.2.2.2.2.2.2.2.2.1,.string x.2.2.2.2.2.2.2.2.2.2.2.2.2.2.2.2.2.2.2.2.2.1,.string x.2.2.2.2.2.2.2.2.2.2.2.2.2.2.2.2.2.2.2.2.2.2.1,.bool x.2.2.2.2.2.2.2.2.2.2.2.2.2.2.2.2.2.2.2.2.2.2.2.1,.slice x.2.2.2.2.2.2.2.2.2.2.2.2.2.2.2.2.2.2.2.2.2.2.2.2.1.a x.2.2.2.2.2.2.2.2.2.2.2.2.2.2.2.2.2.2.2.2.2.2.2.2.1.len x.2.2.2.2.2.2.2.2.2.2.2.2.2.2.2.2.2.2.2.2.2.2.2.2.1.cap,.slice x.2.2.2.2.2.2.2.2.2.2.2.2.2.2.2.2.2.2.2.2.2.2.2.2.2.1.a x.2.2.2.2.2.2.2.2.2.2.2.2.2.2.2.2.2.2.2.2.2.2.2.2.2.1.len x.2.2.2.2.2.2.2.2.2.2.2.2.2.2.2.2.2.2.2.2.2.2.2.2.2.1.cap]
abbrev zS3:D0t:=#[.int .i64 0,.bool false,.bool false,.int .i64 0,.int .i64 0,.string (ByteArray.mk #[]),.string (ByteArray.mk #[]),.int .u8 0,.slice none 0 0,.slice none 0 0,.string (ByteArray.mk #[]),.bool false,.int .i64 0,.bool false,.string (ByteArray.mk #[]),.string (ByteArray.mk #[]),.int .i64 0,.bool false,.slice none 0 0,.bool false,.bool false,.string (ByteArray.mk #[]),.string (ByteArray.mk #[]),.bool false,.slice none 0 0,.slice none 0 0]
abbrev tS4:List Tag:=[.int .i64,.bool,.str,.str,.int .i64,.bool,.str]
abbrev yS4:Type:=Int×Bool×B38×B38×Int×Bool×B38×Unit
abbrev lS4(x:yS4):D0u:=[.int .i64 x.1,.bool x.2.1,.string x.2.2.1,.string x.2.2.2.1,.int .i64 x.2.2.2.2.1,.bool x.2.2.2.2.2.1,.string x.2.2.2.2.2.2.1]
abbrev zS4:D0t:=#[.int .i64 0,.bool false,.string (ByteArray.mk #[]),.string (ByteArray.mk #[]),.int .i64 0,.bool false,.string (ByteArray.mk #[])]
abbrev tS5:List Tag:=[.int .i64,.str,.str,.int .i64,.bool,.str,.bool]
abbrev yS5:Type:=Int×B38×B38×Int×Bool×B38×Bool×Unit
abbrev aS5(x:yS5):D0t:=#[.int .i64 x.1,.string x.2.1,.string x.2.2.1,.int .i64 x.2.2.2.1,.bool x.2.2.2.2.1,.string x.2.2.2.2.2.1,.bool x.2.2.2.2.2.2.1]
abbrev lS5(x:yS5):D0u:=[.int .i64 x.1,.string x.2.1,.string x.2.2.1,.int .i64 x.2.2.2.1,.bool x.2.2.2.2.1,.string x.2.2.2.2.2.1,.bool x.2.2.2.2.2.2.1]
abbrev zS5:D0t:=#[.int .i64 0,.string (ByteArray.mk #[]),.string (ByteArray.mk #[]),.int .i64 0,.bool false,.string (ByteArray.mk #[]),.bool false]
abbrev tS6:List Tag:=[.str,.int .i64,.bool,.bool,.int .i64]
abbrev yS6:Type:=B38×Int×Bool×Bool×Int×Unit
abbrev aS6(x:yS6):D0t:=#[.string x.1,.int .i64 x.2.1,.bool x.2.2.1,.bool x.2.2.2.1,.int .i64 x.2.2.2.2.1]
abbrev lS6(x:yS6):D0u:=[.string x.1,.int .i64 x.2.1,.bool x.2.2.1,.bool x.2.2.2.1,.int .i64 x.2.2.2.2.1]
abbrev zS6:D0t:=#[.string (ByteArray.mk #[]),.int .i64 0,.bool false,.bool false,.int .i64 0]
abbrev tS7:List Tag:=[.str,.str,.int .i64,.bool,.str]
abbrev yS7:Type:=B38×B38×Int×Bool×B38×Unit
abbrev aS7(x:yS7):D0t:=#[.string x.1,.string x.2.1,.int .i64 x.2.2.1,.bool x.2.2.2.1,.string x.2.2.2.2.1]
abbrev lS7(x:yS7):D0u:=[.string x.1,.string x.2.1,.int .i64 x.2.2.1,.bool x.2.2.2.1,.string x.2.2.2.2.1]
abbrev zS7:D0t:=#[.string (ByteArray.mk #[]),.string (ByteArray.mk #[]),.int .i64 0,.bool false,.string (ByteArray.mk #[])]
abbrev tS8:List Tag:=[.int .i64,.int .i64,.str,.str]
abbrev yS8:Type:=Int×Int×B38×B38×Unit
abbrev aS8(x:yS8):D0t:=#[.int .i64 x.1,.int .i64 x.2.1,.string x.2.2.1,.string x.2.2.2.1]
abbrev lS8(x:yS8):D0u:=[.int .i64 x.1,.int .i64 x.2.1,.string x.2.2.1,.string x.2.2.2.1]
abbrev zS8:D0t:=#[.int .i64 0,.int .i64 0,.string (ByteArray.mk #[]),.string (ByteArray.mk #[])]
abbrev tS9:List Tag:=[.int .i64,.str,.bool,.bool]
abbrev yS9:Type:=Int×B38×Bool×Bool×Unit
abbrev aS9(x:yS9):D0t:=#[.int .i64 x.1,.string x.2.1,.bool x.2.2.1,.bool x.2.2.2.1]
abbrev lS9(x:yS9):D0u:=[.int .i64 x.1,.string x.2.1,.bool x.2.2.1,.bool x.2.2.2.1]
abbrev zS9:D0t:=#[.int .i64 0,.string (ByteArray.mk #[]),.bool false,.bool false]
open Go.Proofs.Tryz
def ad(a n:Nat):=Addr.add ⟨a,0,none⟩ n
def az(a:Nat):Addr:=⟨a,0,none⟩
def bn{α β}(m:HM α)(f:α→HM β):=HM.bind m f
def cb{β}(n:Nat)(l:D0t)(f:Bool→HM β):=HM.bind (α:=Bool) (A1z prog (.one .bool) n l) f
def cc{β}(n:Nat)(l:D0t)(f:Slc→HM β):=HM.bind (α:=Slc) (A1z prog (.one .slc) n l) f
def ci{β}(n:Nat)(l:D0t)(f:Int→HM β):=HM.bind (α:=Int) (A1z prog (.one (.int .i64)) n l) f
def cp{β}(n:Nat)(l:D0t)(f:D0s→HM β):=HM.bind (α:=D0s) (A1z prog (.one .ptr) n l) f
def ct{β}(n:Nat)(l:D0t)(f:B38→HM β):=HM.bind (α:=B38) (A1z prog (.one .str) n l) f
def cu{β}(n:Nat)(l:D0t)(f:Int→HM β):=HM.bind (α:=Int) (A1z prog (.one (.int .u8)) n l) f
def cx{β}(n:Nat)(l:D0t)(f:Unit→HM β):=HM.bind (α:=Unit) (y5 prog [] n l) f
def es:=ByteArray.mk #[]
def g0{β}(a:Addr)(f:yS0→HM β):=HM.bind (α:=yS0) (o6 tS0 a) f
def g1{β}(a:Addr)(f:yS1→HM β):=HM.bind (α:=yS1) (o6 tS1 a) f
def g2{β}(a:Addr)(f:yS2→HM β):=HM.bind (α:=yS2) (o6 tS2 a) f
def A02{β}(a:Addr)(f:yS2→HM β):=HM.bind (α:=yS2) (o6 tS3 a) f
def g5{β}(a:Addr)(f:yS5→HM β):=HM.bind (α:=yS5) (o6 tS5 a) f
def g6{β}(a:Addr)(f:yS6→HM β):=HM.bind (α:=yS6) (o6 tS6 a) f
def g7{β}(a:Addr)(f:yS7→HM β):=HM.bind (α:=yS7) (o6 tS7 a) f
def g8{β}(a:Addr)(f:yS8→HM β):=HM.bind (α:=yS8) (o6 tS8 a) f
def g9{β}(a:Addr)(f:yS9→HM β):=HM.bind (α:=yS9) (o6 tS9 a) f
def ie{α}(c:Bool)(a b:HM α):=A1v c a b
def ix{β}(s:Slc)(i:Int)(w:Nat)(f:Addr→HM β):=HM.bind (α:=Addr) (A32 s.a s.len i w) f
def jb{β}(a n:Nat)(f:Bool→HM β):=HM.bind (α:=Bool) (p8 .bool (Addr.add ⟨a,0,none⟩ n)) f
def jc{β}(a n:Nat)(f:Slc→HM β):=HM.bind (α:=Slc) (p8 .slc (Addr.add ⟨a,0,none⟩ n)) f
def ji{β}(a n:Nat)(f:Int→HM β):=HM.bind (α:=Int) (p8 (.int .i64) (Addr.add ⟨a,0,none⟩ n)) f
def jt{β}(a n:Nat)(f:B38→HM β):=HM.bind (α:=B38) (p8 .str (Addr.add ⟨a,0,none⟩ n)) f
def ju{β}(a n:Nat)(f:Int→HM β):=HM.bind (α:=Int) (p8 (.int .u8) (Addr.add ⟨a,0,none⟩ n)) f
def kb{β}(a:Addr)(n:Nat)(f:Bool→HM β):=HM.bind (α:=Bool) (p8 .bool (Addr.add a n)) f
def kc{β}(a:Addr)(n:Nat)(f:Slc→HM β):=HM.bind (α:=Slc) (p8 .slc (Addr.add a n)) f
def ki{β}(a:Addr)(n:Nat)(f:Int→HM β):=HM.bind (α:=Int) (p8 (.int .i64) (Addr.add a n)) f
def km{β}(a:Addr)(n:Nat)(f:Option Nat→HM β):=HM.bind (α:=Option Nat) (p8 .map (Addr.add a n)) f
def kp{β}(a:Addr)(n:Nat)(f:D0s→HM β):=HM.bind (α:=D0s) (p8 .ptr (Addr.add a n)) f
def kt{β}(a:Addr)(n:Nat)(f:B38→HM β):=HM.bind (α:=B38) (p8 .str (Addr.add a n)) f
def ku{β}(a:Addr)(n:Nat)(f:Int→HM β):=HM.bind (α:=Int) (p8 (.int .u8) (Addr.add a n)) f
def lc{β}(a:Addr)(f:Slc→HM β):=HM.bind (α:=Slc) (p8 .slc a) f
def li{β}(a:Addr)(f:Int→HM β):=HM.bind (α:=Int) (p8 (.int .i64) a) f
def lm{β}(a:Addr)(f:Option Nat→HM β):=HM.bind (α:=Option Nat) (p8 .map a) f
def lp{β}(a:Addr)(f:D0s→HM β):=HM.bind (α:=D0s) (p8 .ptr a) f
def lt{β}(a:Addr)(f:B38→HM β):=HM.bind (α:=B38) (p8 .str a) f
def lu{β}(a:Addr)(f:Int→HM β):=HM.bind (α:=Int) (p8 (.int .u8) a) f
def nn{β}(p:D0s)(f:Addr→HM β):=HM.bind (α:=Addr) (A8r p) f
def nw{β}(z:D0t)(t:Nat)(f:Nat→HM β):=HM.bind (α:=Nat) (HM.new (.cells z t)) f
def pu{α}(x:α):=X2 x
def rq{β}(v w:Value)(m:HM β):=A3d (v=w) m
def sn{β}(a:Nat)(l:D0u)(f:Unit→HM β):=HM.bind (α:=Unit) (B0n ⟨a,0,none⟩ l) f
def so{β}(a:Addr)(l:D0u)(f:Unit→HM β):=HM.bind (α:=Unit) (B0n a l) f
def sw{β}(a n:Nat)(v:Value)(f:Unit→HM β):=HM.bind (α:=Unit) (A7e (Addr.add ⟨a,0,none⟩ n) v) f
def sx{β}(a:Addr)(v:Value)(f:Unit→HM β):=HM.bind (α:=Unit) (A7e a v) f
def ve:Value:=.string (ByteArray.mk #[])
def vi(x:Int):Value:=.int .i64 x
def vs(s:Slc):Value:=.slice s.a s.len s.cap
def vz:Value:=.slice none 0 0
def w10{A0 A1 A2 A3 A4 A5 A6 A7 A8 A9 A10 A11:Type}(x:A0×A1×A2×A3×A4×A5×A6×A7×A8×A9×A10×A11):=x.2.2.2.2.2.2.2.2.2.2.1
def w11{A0 A1 A2 A3 A4 A5 A6 A7 A8 A9 A10 A11 A12:Type}(x:A0×A1×A2×A3×A4×A5×A6×A7×A8×A9×A10×A11×A12):=x.2.2.2.2.2.2.2.2.2.2.2.1
def w12{A0 A1 A2 A3 A4 A5 A6 A7 A8 A9 A10 A11 A12 A13:Type}(x:A0×A1×A2×A3×A4×A5×A6×A7×A8×A9×A10×A11×A12×A13):=x.2.2.2.2.2.2.2.2.2.2.2.2.1
def w13{A0 A1 A2 A3 A4 A5 A6 A7 A8 A9 A10 A11 A12 A13 A14:Type}(x:A0×A1×A2×A3×A4×A5×A6×A7×A8×A9×A10×A11×A12×A13×A14):=x.2.2.2.2.2.2.2.2.2.2.2.2.2.1
def w14{A0 A1 A2 A3 A4 A5 A6 A7 A8 A9 A10 A11 A12 A13 A14 A15:Type}(x:A0×A1×A2×A3×A4×A5×A6×A7×A8×A9×A10×A11×A12×A13×A14×A15):=x.2.2.2.2.2.2.2.2.2.2.2.2.2.2.1
def w15{A0 A1 A2 A3 A4 A5 A6 A7 A8 A9 A10 A11 A12 A13 A14 A15 A16:Type}(x:A0×A1×A2×A3×A4×A5×A6×A7×A8×A9×A10×A11×A12×A13×A14×A15×A16):=x.2.2.2.2.2.2.2.2.2.2.2.2.2.2.2.1
def w16{A0 A1 A2 A3 A4 A5 A6 A7 A8 A9 A10 A11 A12 A13 A14 A15 A16 A17:Type}(x:A0×A1×A2×A3×A4×A5×A6×A7×A8×A9×A10×A11×A12×A13×A14×A15×A16×A17):=x.2.2.2.2.2.2.2.2.2.2.2.2.2.2.2.2.1
def w17{A0 A1 A2 A3 A4 A5 A6 A7 A8 A9 A10 A11 A12 A13 A14 A15 A16 A17 A18:Type}(x:A0×A1×A2×A3×A4×A5×A6×A7×A8×A9×A10×A11×A12×A13×A14×A15×A16×A17×A18):=x.2.2.2.2.2.2.2.2.2.2.2.2.2.2.2.2.2.1
def w18{A0 A1 A2 A3 A4 A5 A6 A7 A8 A9 A10 A11 A12 A13 A14 A15 A16 A17 A18 A19:Type}(x:A0×A1×A2×A3×A4×A5×A6×A7×A8×A9×A10×A11×A12×A13×A14×A15×A16×A17×A18×A19):=x.2.2.2.2.2.2.2.2.2.2.2.2.2.2.2.2.2.2.1
def w19{A0 A1 A2 A3 A4 A5 A6 A7 A8 A9 A10 A11 A12 A13 A14 A15 A16 A17 A18 A19 A20:Type}(x:A0×A1×A2×A3×A4×A5×A6×A7×A8×A9×A10×A11×A12×A13×A14×A15×A16×A17×A18×A19×A20):=x.2.2.2.2.2.2.2.2.2.2.2.2.2.2.2.2.2.2.2.1
def w20{A0 A1 A2 A3 A4 A5 A6 A7 A8 A9 A10 A11 A12 A13 A14 A15 A16 A17 A18 A19 A20 A21:Type}(x:A0×A1×A2×A3×A4×A5×A6×A7×A8×A9×A10×A11×A12×A13×A14×A15×A16×A17×A18×A19×A20×A21):=x.2.2.2.2.2.2.2.2.2.2.2.2.2.2.2.2.2.2.2.2.1
def w21{A0 A1 A2 A3 A4 A5 A6 A7 A8 A9 A10 A11 A12 A13 A14 A15 A16 A17 A18 A19 A20 A21 A22:Type}(x:A0×A1×A2×A3×A4×A5×A6×A7×A8×A9×A10×A11×A12×A13×A14×A15×A16×A17×A18×A19×A20×A21×A22):=x.2.2.2.2.2.2.2.2.2.2.2.2.2.2.2.2.2.2.2.2.2.1
def w22{A0 A1 A2 A3 A4 A5 A6 A7 A8 A9 A10 A11 A12 A13 A14 A15 A16 A17 A18 A19 A20 A21 A22 A23:Type}(x:A0×A1×A2×A3×A4×A5×A6×A7×A8×A9×A10×A11×A12×A13×A14×A15×A16×A17×A18×A19×A20×A21×A22×A23):=x.2.2.2.2.2.2.2.2.2.2.2.2.2.2.2.2.2.2.2.2.2.2.1
def w23{A0 A1 A2 A3 A4 A5 A6 A7 A8 A9 A10 A11 A12 A13 A14 A15 A16 A17 A18 A19 A20 A21 A22 A23 A24:Type}(x:A0×A1×A2×A3×A4×A5×A6×A7×A8×A9×A10×A11×A12×A13×A14×A15×A16×A17×A18×A19×A20×A21×A22×A23×A24):=x.2.2.2.2.2.2.2.2.2.2.2.2.2.2.2.2.2.2.2.2.2.2.2.1
def w24{A0 A1 A2 A3 A4 A5 A6 A7 A8 A9 A10 A11 A12 A13 A14 A15 A16 A17 A18 A19 A20 A21 A22 A23 A24 A25:Type}(x:A0×A1×A2×A3×A4×A5×A6×A7×A8×A9×A10×A11×A12×A13×A14×A15×A16×A17×A18×A19×A20×A21×A22×A23×A24×A25):=x.2.2.2.2.2.2.2.2.2.2.2.2.2.2.2.2.2.2.2.2.2.2.2.2.1
def w25{A0 A1 A2 A3 A4 A5 A6 A7 A8 A9 A10 A11 A12 A13 A14 A15 A16 A17 A18 A19 A20 A21 A22 A23 A24 A25 A26:Type}(x:A0×A1×A2×A3×A4×A5×A6×A7×A8×A9×A10×A11×A12×A13×A14×A15×A16×A17×A18×A19×A20×A21×A22×A23×A24×A25×A26):=x.2.2.2.2.2.2.2.2.2.2.2.2.2.2.2.2.2.2.2.2.2.2.2.2.2.1
def w5{A0 A1 A2 A3 A4 A5 A6:Type}(x:A0×A1×A2×A3×A4×A5×A6):=x.2.2.2.2.2.1
def w6{A0 A1 A2 A3 A4 A5 A6 A7:Type}(x:A0×A1×A2×A3×A4×A5×A6×A7):=x.2.2.2.2.2.2.1
def w7{A0 A1 A2 A3 A4 A5 A6 A7 A8:Type}(x:A0×A1×A2×A3×A4×A5×A6×A7×A8):=x.2.2.2.2.2.2.2.1
def w8{A0 A1 A2 A3 A4 A5 A6 A7 A8 A9:Type}(x:A0×A1×A2×A3×A4×A5×A6×A7×A8×A9):=x.2.2.2.2.2.2.2.2.1
def w9{A0 A1 A2 A3 A4 A5 A6 A7 A8 A9 A10:Type}(x:A0×A1×A2×A3×A4×A5×A6×A7×A8×A9×A10):=x.2.2.2.2.2.2.2.2.2.1
def wi(x:Int):=IntKind.wrap .i64 x
def A62(p0:Slc)(p1:yS7):HM (Bool×Unit):=
 nw (aS7 p1) 29 fun a=>cp 15 #[vs p0] fun b=>ji a 2 fun c=>A3d (3≠(0:Int))<|sw a 2 (vi (Int.tmod (if 0<(c:Int) then c else 0) 3)) fun _=>bn (α:=Nat) (HM.new (.map #[] 0)) fun d=>cc 17 #[.pointer b] fun
 e=>bn (α:=Int×Unit) (HM.loop (σ:=Int×Unit) (τ:=Int×Unit) (fun f=>ie (decide (f.1<(e.len:Int))) (ix e f.1 1 fun g=>li g fun h=>bn (α:=Unit) (A2F (Instr.sameNow (.int .i64)) (some d) (vi h) (.bool
 true)) fun _=>pu (.inl (wi (f.1+1),()))) (pu (.inr (f.1,())))) (0,())) fun i=>bn (α:=Nat) (HM.new (.map #[] 0)) fun j=>g7 (az a) fun k=>cc 19 #[.pointer b,.agg (aS7 k)] fun l=>bn (α:=(Int×Unit)⊕(Bool×
 Unit)) (HM.loop (σ:=Int×Unit) (τ:=(Int×Unit)⊕(Bool×Unit)) (fun m=>ie (decide (m.1<(l.len:Int))) (ix l m.1 28 fun n=>g1 n fun o=>nw zS1 50 fun p=>sn p (lS1 o) fun _=>A02 (ad p 1) fun q=>nw zS3 45 fun
 r=>sn r (lS3 q) fun _=>ji p 0 fun s=>bn (α:=Int×Bool) (HM.lookup (Instr.sameNow (.int .i64)) (vi 0) (.one (.int .i64)) (some j) (vi s)) fun t=>bn (α:=Unit) (A2F (Instr.sameNow (.int .i64)) (some j) (vi s) (vi
 (wi (t.1+1)))) fun _=>bn (α:=Bool×Unit) (jb p 27 fun u=>ie u (pu (true,())) (ji p 0 fun v=>bn (α:=Bool×Bool) (HM.lookup (Instr.sameNow (.int .i64)) (.bool false) (.one .bool) (some d) (vi v)) fun w=>ie (!w.1)
 (pu (true,())) (ji r 0 fun x=>ie (!(x==3)) (pu (true,())) (jt r 5 fun y=>jt a 0 fun z=>ie (!(decide (y=z))) (pu (true,())) (jt r 6 fun A=>jt a 1 fun B=>ie (!(decide (A=B))) (pu (true,())) (jb r 2 fun C=>ie C
 (pu (true,())) (jb r 1 fun D=>ie D (pu (true,())) (ji r 3 fun E=>ji a 2 fun F=>ie (decide (F<(E:Int))) (pu (true,())) (ji p 0 fun G=>bn (α:=Int×Bool) (HM.lookup (Instr.sameNow (.int .i64)) (vi 0) (.one (.int
 .i64)) (some j) (vi G)) fun H=>pu (decide (1<(H.1:Int)),())))))))))) fun I=>ie I.1 (pu (.inr (.inr (false,())))) (pu (.inl (wi (m.1+1),())))) (pu (.inr (.inl (m.1,()))))) (0,())) (Sum.elim (fun J=>cc 20
 #[.pointer b] fun K=>bn (α:=Bool×Int×Unit) (HM.loop (σ:=Bool×Int×Unit) (τ:=Bool×Int×Unit) (fun L=>ie (decide (L.2.1<(K.len:Int))) (ix K L.2.1 1 fun M=>lt M fun N=>bn (α:=Bool×Unit) (ie L.1 (pu
 (true,())) (jt a 0 fun O=>cb 14 #[.string N,.string O] fun P=>pu (P,()))) fun Q=>pu (.inl (Q.1,wi (L.2.1+1),()))) (pu (.inr (L.1,L.2.1,())))) (false,0,())) fun R=>bn (α:=Bool×Unit) (cb 10 #[] fun S=>ie S
 (bn (α:=Int) (A6b (some j)) fun T=>ie (T==0) (pu (true,())) (pu (R.1,()))) (pu (false,()))) fun U=>pu (U.1,())) X2)
theorem A7D(p0:Slc)(p1:yS7):HCs 6 #[.slice p0.a p0.len p0.cap,.agg (aS7 p1)] (A62 p0 p1) fun x=>.bool x.1:=
 cE [.one .bool] [0,1,3,4,5,6,8,9,11,12,13,15,25,26,27,28,37,38,39,40,99,102,103,104,105] [0,1,3,5,6,8,9,11,12,13,15,25,26,27,28,37,38,39,40,99,102,103,104,105] func6 ntmps6 (CC call15 (CC call17 (CC call19 (CC call20 (CC call14 (CC call10 CN))))))
def B6U:HM (D0s×Unit):=
 cp 27 #[] fun a=>cp 28 #[] fun b=>cp 29 #[vi 64] fun c=>bn (α:=Nat) (HM.new (.map #[] 0)) fun d=>nw #[.pointer a,.pointer b,.pointer c,.map (some d)] 104 fun e=>pu (some (az e),())
theorem B3t:HCs 9 #[] (B6U) fun x=>.pointer x.1:=
 cE [.one .ptr] [0] [] func9 ntmps9 (CC call27 (CC call28 (CC call29 CN)))
def B32:HM (Bool×Unit):=
 cp 9 #[] fun a=>bn (α:=Bool×Unit) (nw #[.string (ByteArray.mk #[97,47,43]),vi 1,.bool false,.bool false,vi 0,.string (ByteArray.mk #[35]),vi 0,.bool false,.bool false,vi 0] 47 fun b=>cb 11 #[.pointer a,
 vi 1,.string (ByteArray.mk #[99]),.slice (some (az b)) 2 2] fun c=>ie (!c) (pu (true,())) (cb 11 #[.pointer a,vi 2,.string (ByteArray.mk #[100]),vz] fun d=>pu (!d,()))) fun e=>ie e.1 (pu (false,())) (bn (α:=Slc
 ×Slc×Unit) (A1z prog (.agg [.slc,.slc]) 13 #[.pointer a,vi 2,.agg #[vi 3,.bool false,.bool false,vi 2,vi 9,.string (ByteArray.mk #[97,47,98]),.string (ByteArray.mk #[120]),.int .u8 0,vz,vz,ve,
 .bool false,vi 0,.bool false,ve,ve,vi 0,.bool false,vz,.bool false,.bool false,ve,ve,.bool false,vz,vz],.bool false]) fun f=>nw #[vz,vz] 35 fun g=>sn g [vs f.1,vs f.2.1] fun _=>bn (α:=Bool×Unit) (jc
 g 0 fun h=>ie ((h.len:Int)==2) (jc g 0 fun i=>ix i 0 28 fun j=>ki j 0 fun k=>ie (k==2) (jc g 0 fun l=>ix l 0 28 fun m=>ki (Addr.add m 1) 0 fun n=>ie (n==5) (jc g 0 fun o=>ix o 1 28 fun p=>ki p 0 fun q=>ie (q==
 1) (jc g 0 fun r=>ix r 1 28 fun s=>ki (Addr.add s 1) 3 fun t=>ie (t==1) (jc g 1 fun u=>pu ((u.len:Int)==1,())) (pu (false,()))) (pu (false,()))) (pu (false,()))) (pu (false,()))) (pu (false,()))) fun v=>pu
 (v.1,()))
theorem B1X:HCs 10 #[] (B32) fun x=>.bool x.1:=
 cE [.one .bool] [0,1,2,14] [1,2,14] func10 ntmps10 (CC call9 (CC call11 (CC call13 CN)))
def B5Z(p0:D0s)(p1:Int)(p2:B38)(p3:Slc):HM (Bool×Unit):=
 nw #[vi 17,vi 100,ve,ve] 106 fun a=>bn (α:=Slc×Slc×Unit) (A1z prog (.agg [.slc,.slc]) 13 #[.pointer p0,vi p1,.agg #[vi 1,.bool false,.bool false,vi 0,vi 0,ve,ve,.int .u8 0,vz,.slice (some
 (az a)) 1 1,.string p2,.bool false,vi 0,.bool false,ve,ve,vi 0,.bool false,vz,.bool false,.bool false,ve,ve,.bool false,vz,vz],.bool false]) fun b=>nw #[vz,vz] 35 fun c=>sn c [vs b.1,vs b.2.1] fun
 _=>bn (α:=Bool×Unit) (jc c 0 fun d=>ie ((d.len:Int)==0) (pu (true,())) (jc c 0 fun e=>ix e 0 28 fun f=>ki (Addr.add f 1) 0 fun g=>ie (!(g==2)) (pu (true,())) (jc c 0 fun h=>ix h 0 28 fun i=>ku (Addr.add i 1)
 7 fun j=>ie (!(j==0)) (pu (true,())) (jc c 1 fun k=>pu (!((k.len:Int)==0),()))))) fun l=>ie l.1 (pu (false,())) (ie ((p3.len:Int)==0) (pu (true,())) (bn (α:=Slc×Slc×Unit) (A1z prog (.agg
 [.slc,.slc]) 13 #[.pointer p0,vi p1,.agg #[vi 8,.bool false,.bool false,vi 0,vi 1,ve,ve,.int .u8 0,vz,vz,ve,.bool false,vi 0,.bool false,ve,ve,vi 0,.bool false,vz,.bool false,.bool false,ve,ve,
 .bool false,vs p3,vz],.bool false]) fun m=>nw #[vz,vz] 35 fun n=>sn n [vs m.1,vs m.2.1] fun _=>bn (α:=Bool×Unit) (jc n 0 fun o=>ie (decide (1≤(o.len:Int))) (jc n 0 fun p=>ix p 0 28 fun q=>ki (Addr.add q 1) 0
 fun r=>ie (r==9) (jc n 0 fun s=>ix s 0 28 fun t=>kc (Addr.add t 1) 8 fun u=>pu ((u.len:Int)==(p3.len:Int),())) (pu (false,()))) (pu (false,()))) fun v=>pu (v.1,())))
theorem B29(p0:D0s)(p1:Int)(p2:B38)(p3:Slc):HCs 11 #[.pointer p0,.int .i64 p1,.string p2,.slice p3.a p3.len p3.cap] (B5Z p0 p1 p2 p3) fun x=>.bool x.1:=
 cE [.one .bool] [0,1,2,3,8,9,10,45,48] [0,1,2,3,9,10,45,48] func11 ntmps11 (CC call13 CN)
def A8d(p0:B38):HM (Int×Unit):=
 bn (α:=Bool×Unit) (cb 30 #[.string p0] fun a=>ie (!a) (pu (true,())) (cb 31 #[.string p0,.string (ByteArray.mk #[43])] fun b=>ie b (pu (true,())) (cb 31 #[.string p0,.string (ByteArray.mk #[35])] fun c=>pu (c,
 ())))) fun d=>ie d.1 (pu (144,())) (pu (0,()))
theorem A8u(p0:B38):HCs 12 #[.string p0] (A8d p0) fun x=>.int .u8 x.1:=
 cE [.one (.int .u8)] [0,2,13] [0,13] func12 ntmps12 (CC call30 (CC call31 CN))
def A4p(p0:D0s)(p1:Int)(p2:yS2)(p3:Bool):HM ((Slc×Slc×Unit)×Unit):=
 nw (aS3 p2) 45 fun a=>nw #[vz,vz] 35 fun b=>ie (Option.isNone p0) (sn b [vz,vz] fun _=>bn (α:=Slc×Slc×Unit) (o6 [.slc,.slc] (az b)) fun c=>pu ((c.1,c.2.1,()),())) (nw #[.pointer p0,.bool p3,vz,vz]
 110 fun d=>nn p0 fun e=>km e 3 fun f=>bn (α:=(yS4)×Bool) (HM.lookup (Instr.sameNow (.int .i64)) (.agg zS4) (.agg tS4) f (vi p1)) fun g=>nw zS4 112 fun h=>sn h (lS4 g.1) fun _=>bn (α:=Unit) (ie g.2 (A02 (az a) fun
 i=>cx 32 #[.pointer (some (az d)),vi p1,.agg (aS3 i)] fun j=>pu ()) (ji a 0 fun k=>bn (α:=Unit) (ie (k==1) (A02 (az a) fun l=>cx 33 #[.pointer (some (az d)),vi p1,.agg (aS3 l)] fun m=>pu ()) (cx 34 #[.pointer
 (some (az d)),vi p1,.agg #[vi 14,.bool false,.bool false,vi 0,vi 0,ve,ve,.int .u8 130,vz,vz,ve,.bool false,vi 0,.bool false,ve,ve,vi 0,.bool false,vz,.bool false,.bool false,ve,ve,.bool false,
 vz,vz]] fun n=>pu ())) fun o=>pu ())) fun p=>nn (some (az d)) fun q=>bn (α:=Slc×Slc×Unit) (o6 [.slc,.slc] (Addr.add q 2)) fun r=>sn b [vs r.1,vs r.2.1] fun _=>bn (α:=Slc×Slc×Unit) (o6 [.slc,
 .slc] (az b)) fun s=>pu ((s.1,s.2.1,()),()))
theorem A5p(p0:D0s)(p1:Int)(p2:yS2)(p3:Bool):HCs 13 #[.pointer p0,.int .i64 p1,.agg (aS3 p2),.bool p3] (A4p p0 p1 p2 p3) fun x=>.agg #[.slice x.1.1.a x.1.1.len x.1.1.cap,.slice x.1.2.1.a x.1.2.1.len x.1.2.1.cap]:=
 cE [.agg [.slc,.slc]] [0,1,2,3,6,8,9,11,13,32,38] [0,1,2,3,6,8,9,11,13,32,38] func13 ntmps13 (CC call32 (CC call33 (CC call34 CN)))
def B3E(p0:B38)(p1:B38):HM (Bool×Unit):=
 bn (α:=Bool×Unit) (cu 35 #[.string p0] fun a=>ie (!(a==0)) (pu (true,())) (cu 12 #[.string p1] fun b=>pu (!(b==0),()))) fun c=>ie c.1 (pu (false,())) (bn (α:=Bool×Unit) (bn (α:=Int) (A5t p1 0) fun
 d=>ie (d==36) (bn (α:=B38) (A40 p0 none (some 1)) fun e=>ie (decide (e=(ByteArray.mk #[43]))) (pu (true,())) (bn (α:=B38) (A40 p0 none (some 1)) fun f=>pu (decide (f=(ByteArray.mk
 #[35])),()))) (pu (false,()))) fun g=>ie g.1 (pu (false,())) (cc 36 #[.string p0] fun h=>cc 36 #[.string p1] fun i=>ix h (wi ((h.len:Int)-1)) 1 fun j=>lt j fun k=>bn (α:=Slc×Unit) (ie (decide (k=
 (ByteArray.mk #[35]))) (bn (α:=Slc) (HM.slice h none (some (wi ((h.len:Int)-1))) none 1) fun l=>pu (l,())) (pu (h,()))) fun m=>bn (α:=Bool×Unit) (ie (decide ((i.len:Int)<(m.1.len:Int))) (pu (true,()))
 (ie (!(decide (k=(ByteArray.mk #[35])))) (pu (decide ((m.1.len:Int)<(i.len:Int)),())) (pu (false,())))) fun n=>ie n.1 (pu (false,())) (bn (α:=Slc) (HM.slice i none (some (m.1.len:Int)) none 1) fun o=>cb 37
 #[vs m.1,vs o,.func (.func 38) #[] #[]] fun p=>pu (p,()))))
theorem B08(p0:B38)(p1:B38):HCs 14 #[.string p0,.string p1] (B3E p0 p1) fun x=>.bool x.1:=
 cE [.one .bool] [0,1,4,5,6,7,15,28,40,61] [0,1,5,6,7,15,28,40,61] func14 ntmps14 (CC call35 (CC call12 (CC call36 (CC call37 CN))))
def B34(p0:Slc):HM (D0s×Unit):=
 cp 9 #[] fun a=>cp 21 #[] fun b=>bn (α:=Slc) (HM.slice p0 none (some (if 40<(p0.len:Int) then 40 else(p0.len:Int))) none 34) fun c=>bn (α:=Int×Unit) (HM.loop (σ:=Int×Unit) (τ:=Int×Unit) (fun d=>ie
 (decide (d.1<(c.len:Int))) (ix c d.1 34 fun e=>g0 e fun f=>nw zS0 62 fun g=>sn g (lS0 f) fun _=>g0 (az g) fun h=>cb 22 #[.pointer a,.pointer b,.agg (aS0 h)] fun i=>pu (.inl (wi (d.1+1),()))) (pu (.inr (d.1,
 ())))) (0,())) fun j=>pu (a,())
theorem B10(p0:Slc):HCs 15 #[.slice p0.a p0.len p0.cap] (B34 p0) fun x=>.pointer x.1:=
 cE [.one .ptr] [0,2,3,4,6,13,14,15,16] [0,3,4,6,13,14,15,16] func15 ntmps15 (CC call9 (CC call21 (CC call22 CN)))
def B0b(p0:yS2):HM ((yS2)×(yS2)×Unit):=
 nw (aS3 p0) 60 fun a=>nw zS3 45 fun b=>nw zS2 70 fun c=>ji a 0 fun d=>jb a 1 fun e=>jb a 2 fun f=>ji a 3 fun g=>ji a 4 fun h=>jt a 5 fun i=>jt a 6 fun j=>ju a 7 fun k=>jt a 10 fun l=>jb a 11 fun m=>ji a 12 fun n=>jb a
 13 fun o=>jb a 19 fun p=>jb a 20 fun q=>jt a 21 fun r=>jt a 22 fun s=>jb a 23 fun t=>nw zS3 45 fun u=>sn u [vi d,.bool e,.bool f,vi g,vi h,.string i,.string j,.int .u8 k,vz,vz,.string l,.bool m,vi n,.bool o,
 ve,ve,vi 0,.bool false,vz,.bool p,.bool q,.string r,.string s,.bool t,vz,vz] fun _=>ji a 0 fun v=>jb a 1 fun w=>jb a 2 fun x=>ji a 3 fun y=>ji a 4 fun z=>jt a 5 fun A=>jt a 6 fun B=>ju a 7 fun C=>jt a 10 fun
 D=>jb a 11 fun E=>ji a 12 fun F=>jb a 13 fun G=>jb a 19 fun H=>jb a 20 fun I=>jt a 21 fun J=>jt a 22 fun K=>jb a 23 fun L=>nw zS2 70 fun M=>sn M [vi v,.bool w,.bool x,vi y,vi z,.string A,.string B,vi (wi C),vz,
 vz,.string D,.bool E,vi F,.bool G,ve,ve,vi 0,.bool false,vz,.bool H,.bool I,.string J,.string K,.bool L,vz,vz] fun _=>jc a 9 fun N=>bn (α:=Slc×Slc×Unit) (y5 prog [.one .slc,.one .slc] 39
 #[vs N]) fun O=>sw u 9 (vs O.1) fun _=>sw M 9 (vs O.2.1) fun _=>kt (ad a 14) 0 fun P=>kt (ad a 14) 1 fun Q=>ki (ad a 14) 2 fun R=>kb (ad a 14) 3 fun S=>so (ad u 14) [.string P,.string Q,vi R,.bool S,vz] fun _=>kt (ad
 a 14) 0 fun T=>kt (ad a 14) 1 fun U=>ki (ad a 14) 2 fun V=>kb (ad a 14) 3 fun W=>so (ad M 14) [.string T,.string U,vi V,.bool W,vz] fun _=>kc (ad a 14) 4 fun X=>bn (α:=Slc×Slc×Unit) (y5 prog [.one
 .slc,.one .slc] 39 #[vs X]) fun Y=>sx (Addr.add (ad u 14) 4) (vs Y.1) fun _=>sx (Addr.add (ad M 14) 4) (vs Y.2.1) fun _=>jc a 8 fun Z=>jc a 8 fun oD=>bn (α:=Slc) (HM.slice Z none (some (if 80<(oD.len:Int) then
 80 else(oD.len:Int))) none 1) fun mm=>bn (α:=Int×Unit) (HM.loop (σ:=Int×Unit) (τ:=Int×Unit) (fun fM=>ie (decide (fM.1<(mm.len:Int))) (ix mm fM.1 1 fun hP=>lu hP fun ef=>jc u 8 fun gx=>jc M 8
 fun ga=>A0L (nw #[.int .u8 ef] 30 fun jU=>jc M 8 fun ko=>rq (vs ko) (vs ga)<|jc u 8 fun kl=>rq (vs kl) (vs gx)<|A0L (bn (α:=Slc) (HM.append 30 1 1 #[.int .u8 0] gx 1 (V9 1 (⟨some (az jU),1,
 1⟩))) fun lA=>jc M 8 fun ml=>rq (vs ml) (vs ga)<|nw #[vi (wi ef)] 3 fun mj=>jc M 8 fun jw=>rq (vs jw) (vs ga)<|jc u 8 fun oC=>rq (vs oC) (vs gx)<|bn (α:=Slc) (HM.append 3 1 8 #[vi 0] ga 1 (V9 1
 (⟨some (az mj),1,1⟩))) fun mi=>sw u 8 (vs lA) fun _=>sw M 8 (vs mi) fun _=>pu (.inl (wi (fM.1+1),()))) (nw #[vi (wi ef)] 3 fun oB=>jc M 8 fun mh=>rq (vs mh) (vs ga)<|jc u 8 fun mf=>rq (vs mf) (vs gx)
 <|bn (α:=Slc) (HM.append 30 1 1 #[.int .u8 0] gx 1 (V9 1 (⟨some (az jU),1,1⟩))) fun me=>jc M 8 fun mc=>rq (vs mc) (vs ga)<|bn (α:=Slc) (HM.append 3 1 8 #[vi 0] ga 1 (V9 1 (⟨some (az oB),1,1⟩)))
 fun ma=>sw u 8 (vs me) fun _=>sw M 8 (vs ma) fun _=>pu (.inl (wi (fM.1+1),())))) (nw #[vi (wi ef)] 3 fun oA=>jc M 8 fun lZ=>rq (vs lZ) (vs ga)<|jc u 8 fun lY=>rq (vs lY) (vs gx)<|nw #[.int .u8 ef] 30
 fun oz=>jc M 8 fun pn=>rq (vs pn) (vs ga)<|jc u 8 fun pj=>rq (vs pj) (vs gx)<|bn (α:=Slc) (HM.append 30 1 1 #[.int .u8 0] gx 1 (V9 1 (⟨some (az oz),1,1⟩))) fun lz=>jc M 8 fun ph=>rq (vs ph) (vs ga)
 <|bn (α:=Slc) (HM.append 3 1 8 #[vi 0] ga 1 (V9 1 (⟨some (az oA),1,1⟩))) fun pg=>sw u 8 (vs lz) fun _=>sw M 8 (vs pg) fun _=>pu (.inl (wi (fM.1+1),())))) (pu (.inr (fM.1,())))) (0,())) fun fh=>jc a
 24 fun pf=>jc a 24 fun rG=>bn (α:=Slc) (HM.slice pf none (some (if 80<(rG.len:Int) then 80 else(rG.len:Int))) none 5) fun jT=>bn (α:=Int×Unit) (HM.loop (σ:=Int×Unit) (τ:=Int×Unit) (fun iL=>ie
 (decide (iL.1<(jT.len:Int))) (ix jT iL.1 5 fun lX=>g6 lX fun pd=>nw zS6 119 fun fX=>sn fX (lS6 pd) fun _=>jc u 24 fun gZ=>g6 (az fX) fun kj=>jc M 24 fun gY=>g6 (az fX) fun gU=>A0L (nw (aS6 kj) 47
 fun oy=>g6 (az fX) fun pc=>rq (.agg (aS6 pc)) (.agg (aS6 gU))<|jc M 24 fun rF=>rq (vs rF) (vs gY)<|jc u 24 fun fO=>rq (vs fO) (vs gZ)<|A0L (bn (α:=Slc) (HM.append 47 5 40 zS6 gZ 1 (V9 5 (⟨some
 (az oy),1,1⟩))) fun jy=>g6 (az fX) fun jx=>rq (.agg (aS6 jx)) (.agg (aS6 gU))<|jc M 24 fun nu=>rq (vs nu) (vs gY)<|nw (aS6 gU) 120 fun iM=>jc M 24 fun nt=>rq (vs nt) (vs gY)<|g6 (az fX) fun
 nr=>rq (.agg (aS6 nr)) (.agg (aS6 kj))<|jc u 24 fun kJ=>rq (vs kJ) (vs gZ)<|bn (α:=Slc) (HM.append 120 5 40 zS6 gY 1 (V9 5 (⟨some (az iM),1,1⟩))) fun nq=>sw u 24 (vs jy) fun _=>sw M 24 (vs
 nq) fun _=>pu (.inl (wi (iL.1+1),()))) (nw (aS6 gU) 120 fun np=>jc M 24 fun nk=>rq (vs nk) (vs gY)<|g6 (az fX) fun nj=>rq (.agg (aS6 nj)) (.agg (aS6 kj))<|jc u 24 fun kH=>rq (vs kH) (vs gZ)
 <|bn (α:=Slc) (HM.append 47 5 40 zS6 gZ 1 (V9 5 (⟨some (az oy),1,1⟩))) fun ni=>g6 (az fX) fun nh=>rq (.agg (aS6 nh)) (.agg (aS6 gU))<|jc M 24 fun ng=>rq (vs ng) (vs gY)<|bn (α:=Slc) (HM.append
 120 5 40 zS6 gY 1 (V9 5 (⟨some (az np),1,1⟩))) fun nf=>sw u 24 (vs ni) fun _=>sw M 24 (vs nf) fun _=>pu (.inl (wi (iL.1+1),())))) (nw (aS6 gU) 120 fun nc=>jc M 24 fun na=>rq (vs na) (vs gY)
 <|g6 (az fX) fun mZ=>rq (.agg (aS6 mZ)) (.agg (aS6 kj))<|jc u 24 fun mY=>rq (vs mY) (vs gZ)<|nw (aS6 kj) 47 fun mX=>g6 (az fX) fun mV=>rq (.agg (aS6 mV)) (.agg (aS6 gU))<|jc M 24 fun mU=>rq (vs
 mU) (vs gY)<|jc u 24 fun mT=>rq (vs mT) (vs gZ)<|bn (α:=Slc) (HM.append 47 5 40 zS6 gZ 1 (V9 5 (⟨some (az mX),1,1⟩))) fun mS=>g6 (az fX) fun mR=>rq (.agg (aS6 mR)) (.agg (aS6 gU))<|jc M 24
 fun pD=>rq (vs pD) (vs gY)<|bn (α:=Slc) (HM.append 120 5 40 zS6 gY 1 (V9 5 (⟨some (az nc),1,1⟩))) fun mQ=>sw u 24 (vs mS) fun _=>sw M 24 (vs mQ) fun _=>pu (.inl (wi (iL.1+1),())))) (pu (.inr
 (iL.1,())))) (0,())) fun pe=>jc a 25 fun mP=>jc a 25 fun mO=>bn (α:=Slc) (HM.slice mP none (some (if 80<(mO.len:Int) then 80 else(mO.len:Int))) none 1) fun kG=>bn (α:=Int×Unit) (HM.loop (σ:=
 Int×Unit) (τ:=Int×Unit) (fun gE=>ie (decide (gE.1<(kG.len:Int))) (ix kG gE.1 1 fun mN=>lt mN fun gd=>jc u 25 fun gb=>jc M 25 fun eR=>A0L (nw #[.string gd] 9 fun kF=>jc M 25 fun
 pB=>rq (vs pB) (vs eR)<|jc u 25 fun kE=>rq (vs kE) (vs gb)<|A0L (bn (α:=Slc) (HM.append 9 1 16 #[ve] gb 1 (V9 1 (⟨some (az kF),1,1⟩))) fun kD=>jc M 25 fun mM=>rq (vs mM) (vs eR)<|nw
 #[.string gd] 9 fun mL=>jc M 25 fun pz=>rq (vs pz) (vs eR)<|jc u 25 fun kC=>rq (vs kC) (vs gb)<|bn (α:=Slc) (HM.append 9 1 16 #[ve] eR 1 (V9 1 (⟨some (az mL),1,1⟩))) fun kB=>sw u 25 (vs
 kD) fun _=>sw M 25 (vs kB) fun _=>pu (.inl (wi (gE.1+1),()))) (nw #[.string gd] 9 fun mK=>jc M 25 fun mJ=>rq (vs mJ) (vs eR)<|jc u 25 fun py=>rq (vs py) (vs gb)<|bn (α:=Slc) (HM.append 9 1 16
 #[ve] gb 1 (V9 1 (⟨some (az kF),1,1⟩))) fun mI=>jc M 25 fun mH=>rq (vs mH) (vs eR)<|bn (α:=Slc) (HM.append 9 1 16 #[ve] eR 1 (V9 1 (⟨some (az mK),1,1⟩))) fun kA=>sw u 25 (vs mI) fun
 _=>sw M 25 (vs kA) fun _=>pu (.inl (wi (gE.1+1),())))) (nw #[.string gd] 9 fun mG=>jc M 25 fun mF=>rq (vs mF) (vs eR)<|jc u 25 fun mE=>rq (vs mE) (vs gb)<|nw #[.string gd] 9 fun mD=>jc M 25
 fun mC=>rq (vs mC) (vs eR)<|jc u 25 fun mB=>rq (vs mB) (vs gb)<|bn (α:=Slc) (HM.append 9 1 16 #[ve] gb 1 (V9 1 (⟨some (az mD),1,1⟩))) fun mA=>jc M 25 fun hZ=>rq (vs hZ) (vs eR)<|bn (α
 :=Slc) (HM.append 9 1 16 #[ve] eR 1 (V9 1 (⟨some (az mG),1,1⟩))) fun my=>sw u 25 (vs mA) fun _=>sw M 25 (vs my) fun _=>pu (.inl (wi (gE.1+1),())))) (pu (.inr (gE.1,())))) (0,())) fun pC=>A02
 (az u) fun mw=>g2 (az M) fun mv=>sn b (lS3 mw) fun _=>g2 (az M) fun mu=>rq (.agg (aS2 mu)) (.agg (aS2 mv))<|sn c (lS2 mv) fun _=>A02 (az b) fun bp=>g2 (az c) fun bo=>pu ((bp.1,bp.2.1,bp.2.2.1,
 bp.2.2.2.1,bp.2.2.2.2.1,(w5 bp),(w6 bp),(w7 bp),(w8 bp),(w9 bp),(w10 bp),(w11 bp),(w12 bp),(w13 bp),(w14 bp),(w15 bp),(w16 bp),(w17 bp),(w18 bp),(w19 bp),(w20 bp),
 (w21 bp),(w22 bp),(w23 bp),(w24 bp),(w25 bp),()),(bo.1,bo.2.1,bo.2.2.1,bo.2.2.2.1,bo.2.2.2.2.1,(w5 bo),(w6 bo),(w7 bo),(w8 bo),(w9 bo),(w10 bo),(w11 bo),(w12 bo),
 (w13 bo),(w14 bo),(w15 bo),(w16 bo),(w17 bo),(w18 bo),(w19 bo),(w20 bo),(w21 bo),(w22 bo),(w23 bo),(w24 bo),(w25 bo),()),())
theorem A9R(p0:yS2):HCs 16 #[.agg (aS3 p0)] (B0b p0) fun x=>.tuple #[.agg (aS3 x.1),.agg (aS2 x.2.1)]:=
 cE [.agg tS3,.agg tS2] [0,1,2,3,4,5,7,9,11,136,137,138,139,162,163,164,165,187,188,189,190] [0,1,2,3,4,5,7,9,11,136,137,138,139,162,163,164,165,187,188,189,190] func16 ntmps16 (CC call39 CN)
def A4H(p0:D0s):HM (Slc×Unit):=
 ie (Option.isNone p0) (pu (⟨none,0,0⟩,())) (nn p0 fun a=>km a 3 fun b=>bn (α:=Value) (A1z prog (.one .any) 41 #[.map b]) fun c=>cc 40 #[c] fun d=>pu (d,()))
theorem A5B(p0:D0s):HCs 17 #[.pointer p0] (A4H p0) fun x=>.slice x.1.a x.1.len x.1.cap:=
 cE [.one .slc] [0,2,4] [0,4] func17 ntmps17 (CC call41 (CC call40 CN))
def A3K(p0:D0s)(p1:yS7):HM (Slc×Unit):=
 nw (aS7 p1) 83 fun a=>ie (Option.isNone p0) (pu (⟨none,0,0⟩,())) (nw #[.pointer p0,.bool false,vz,vz] 110 fun b=>g7 (az a) fun c=>cx 43 #[.pointer (some (az b)),.agg (aS7 c)] fun d=>nn (some (az b)) fun e=>kc
 (Addr.add e 2) 0 fun f=>pu (f,()))
theorem A4U(p0:D0s)(p1:yS7):HCs 19 #[.pointer p0,.agg (aS7 p1)] (A3K p0 p1) fun x=>.slice x.1.a x.1.len x.1.cap:=
 cE [.one .slc] [0,1,3,4,5,7] [0,1,3,5,7] func19 ntmps19 (CC call43 CN)
def A3J(p0:D0s):HM (Slc×Unit):=
 ie (Option.isNone p0) (pu (⟨none,0,0⟩,())) (nn p0 fun a=>kp a 1 fun b=>cc 44 #[.pointer b] fun c=>pu (c,()))
theorem A4T(p0:D0s):HCs 20 #[.pointer p0] (A3J p0) fun x=>.slice x.1.a x.1.len x.1.cap:=
 cE [.one .slc] [0,2,4] [0,4] func20 ntmps20 (CC call44 CN)
def B7R:HM (D0s×Unit):=
 cp 45 #[vi 64] fun a=>nw #[vi 0,vz] 131 fun b=>nw #[vz] 135 fun c=>nw #[.pointer (some (az b)),.pointer (some (az c)),.pointer a,vz,.bool false,vz,vz] 140 fun d=>pu (some (az d),())
theorem B4r:HCs 21 #[] (B7R) fun x=>.pointer x.1:=
 cE [.one .ptr] [0,1] [1] func21 ntmps21 (CC call45 CN)
def B1Z(p0:D0s)(p1:D0s)(p2:yS0):HM (Bool×Unit):=
 nw (aS0 p2) 62 fun a=>nw #[vz,vz] 35 fun b=>ji a 0 fun c=>A3d (6≠(0:Int))<|bn (α:=Bool×Unit) (ie ((Int.tmod c 6)==1) (pu ((Int.tmod c 6)==1,())) (pu ((Int.tmod c 6)==(-1),()))) fun d=>bn (α:=Unit)
 (ie d.1 (ji a 1 fun e=>jb a 28 fun f=>bn (α:=Slc×Slc×Unit) (A1z prog (.agg [.slc,.slc]) 24 #[.pointer p0,vi e,.bool f]) fun g=>sn b [vs g.1,vs g.2.1] fun _=>ji a 1 fun h=>jb a 28 fun i=>cx 46
 #[.pointer p1,vi h,.bool i] fun j=>pu ()) (bn (α:=Bool×Unit) (ie ((Int.tmod c 6)==2) (pu ((Int.tmod c 6)==2,())) (pu ((Int.tmod c 6)==(-2),()))) fun k=>bn (α:=Unit) (ie k.1 (g7 (ad a 29) fun l=>cc 19
 #[.pointer p0,.agg (aS7 l)] fun m=>sw b 0 (vs m) fun _=>g7 (ad a 29) fun n=>cx 47 #[.pointer p1,.agg (aS7 n)] fun o=>pu ()) (bn (α:=Bool×Unit) (ie ((Int.tmod c 6)==3) (pu ((Int.tmod c 6)==3,())) (pu ((Int.tmod
 c 6)==(-3),()))) fun p=>bn (α:=Unit) (ie p.1 (cx 25 #[.pointer p0] fun q=>cx 48 #[.pointer p1] fun r=>pu ()) (A02 (ad a 2) fun s=>bn (α:=(yS2)×(yS2)×Unit) (y5 prog [.agg tS3,.agg tS2] 16 #[.agg
 (aS3 s)]) fun t=>nw zS3 45 fun u=>nw zS2 70 fun v=>sn u (lS3 t.1) fun _=>sn v (lS2 t.2.1) fun _=>ji a 1 fun w=>A02 (az u) fun x=>jb a 28 fun y=>bn (α:=Slc×Slc×Unit) (A1z prog (.agg [.slc,.slc]) 13
 #[.pointer p0,vi w,.agg (aS3 x),.bool y]) fun z=>sn b [vs z.1,vs z.2.1] fun _=>ji a 1 fun A=>g2 (az v) fun B=>jb a 28 fun C=>cx 49 #[.pointer p1,vi A,.agg (aS2 B),.bool C] fun D=>pu ())) fun E=>pu ())) fun F=>pu
 ())) fun G=>bn (α:=Bool×Unit) (jc b 0 fun H=>nn p1 fun I=>kc I 5 fun J=>cb 50 #[vs H,vs J] fun K=>ie K (jc b 1 fun L=>nn p1 fun M=>kc M 6 fun N=>cb 51 #[vs L,vs N] fun O=>pu (O,())) (pu (false,()))) fun P=>pu
 (P.1,())
theorem B0N(p0:D0s)(p1:D0s)(p2:yS0):HCs 22 #[.pointer p0,.pointer p1,.agg (aS0 p2)] (B1Z p0 p1 p2) fun x=>.bool x.1:=
 cE [.one .bool] [0,1,2,5,6,7,8,9,12,33,48,60] [0,1,2,5,7,8,9,12,33,48,60] func22 ntmps22 (CC call24 (CC call46 (CC call19 (CC call47 (CC call25 (CC call48 (CC call16 (CC call13 (CC call49 (CC call50 (CC call51 CN)))))))))))
def A5q(p0:D0s)(p1:Int)(p2:Bool):HM ((Slc×Slc×Unit)×Unit):=
 nw #[vz,vz] 35 fun a=>ie (Option.isNone p0) (sn a [vz,vz] fun _=>bn (α:=Slc×Slc×Unit) (o6 [.slc,.slc] (az a)) fun b=>pu ((b.1,b.2.1,()),())) (nw #[.pointer p0,.bool p2,vz,vz] 110 fun c=>cx 54
 #[.pointer (some (az c)),vi p1,.bool true] fun d=>nn (some (az c)) fun e=>bn (α:=Slc×Slc×Unit) (o6 [.slc,.slc] (Addr.add e 2)) fun f=>sn a [vs f.1,vs f.2.1] fun _=>bn (α:=Slc×Slc×Unit) (o6
 [.slc,.slc] (az a)) fun g=>pu ((g.1,g.2.1,()),()))
theorem A6s(p0:D0s)(p1:Int)(p2:Bool):HCs 24 #[.pointer p0,.int .i64 p1,.bool p2] (A5q p0 p1 p2) fun x=>.agg #[.slice x.1.1.a x.1.1.len x.1.1.cap,.slice x.1.2.1.a x.1.2.1.len x.1.2.1.cap]:=
 cE [.agg [.slc,.slc]] [0,1,2,6,7,9] [0,1,2,6,7,9] func24 ntmps24 (CC call54 CN)
def A3I(p0:D0s):HM (Unit):=
 nw #[.pointer p0,.bool false,vz,vz] 110 fun a=>cc 17 #[.pointer p0] fun b=>bn (α:=Int×Unit) (HM.loop (σ:=Int×Unit) (τ:=Int×Unit) (fun c=>ie (decide (c.1<(b.len:Int))) (ix b c.1 1 fun d=>li d fun e=>cx
 54 #[.pointer (some (az a)),vi e,.bool false] fun f=>pu (.inl (wi (c.1+1),()))) (pu (.inr (c.1,())))) (0,())) fun g=>pu ()
theorem A4S(p0:D0s):HCs 25 #[.pointer p0] (A3I p0) fun x=>.tuple #[]:=
 cE [] [0,2,4,9,10,11,12] [0,2,4,9,10,11,12] func25 ntmps25 (CC call17 (CC call54 CN))
def B3I:HM (D0s×Unit):=
 bn (α:=Nat) (HM.new (.map #[] 0)) fun a=>nw #[vi 0,.map (some a)] 172 fun b=>pu (some (az b),())
theorem B1g:HCs 27 #[] (B3I) fun x=>.pointer x.1:=
 cE [.one .ptr] [0] [] func27 ntmps27 CN
def B9W:HM (D0s×Unit):=
 cp 59 #[] fun a=>bn (α:=Nat) (HM.new (.map #[] 0)) fun b=>nw #[.pointer a,.map (some b)] 176 fun c=>pu (some (az c),())
theorem B45:HCs 28 #[] (B9W) fun x=>.pointer x.1:=
 cE [.one .ptr] [0] [] func28 ntmps28 (CC call59 CN)
def B5m(p0:Int):HM (D0s×Unit):=
 bn (α:=Nat) (HM.new (.map #[] 0)) fun a=>nw #[vi (if 0<((if 64<(p0:Int) then 64 else p0):Int) then(if 64<(p0:Int) then 64 else p0) else 0),.map (some a)] 179 fun b=>pu (some (az b),())
theorem B2J(p0:Int):HCs 29 #[.int .i64 p0] (B5m p0) fun x=>.pointer x.1:=
 cE [.one .ptr] [0,2] [0] func29 ntmps29 CN
def B3D(p0:B38):HM (Bool×Unit):=
 bn (α:=Int×Bool×Unit) (y5 prog [.one (.int .i64),.one .bool] 60 #[.string p0]) fun a=>bn (α:=Bool×Unit) (ie (!a.2.1) (ie (!(decide (p0=es))) (ie (decide (((ByteArray.size p0:Nat):Int)≤(256
 :Int))) (ci 61 #[.string p0,.string (ByteArray.mk #[47])] fun b=>pu (decide (b<(32:Int)),())) (pu (false,()))) (pu (false,()))) (pu (false,()))) fun c=>pu (c.1,())
theorem B07(p0:B38):HCs 30 #[.string p0] (B3D p0) fun x=>.bool x.1:=
 cE [.one .bool] [0,2,4] [0,4] func30 ntmps30 (CC call60 (CC call61 CN))
def A5n(p0:D0s)(p1:Int)(p2:yS2):HM (Unit):=
 nw (aS3 p2) 45 fun a=>bn (α:=Bool×Unit) (ji a 4 fun b=>ie (decide (1≤(b:Int))) (ji a 4 fun c=>pu (decide (c≤(65535:Int)),())) (pu (false,()))) fun d=>bn (α:=Bool×Unit) (ji a 0 fun e=>ie (e==3) (pu
 (true,())) (ji a 0 fun f=>pu (f==6,()))) fun g=>bn (α:=Unit) (ie g.1 (A02 (az a) fun h=>cx 63 #[.pointer p0,vi p1,.agg (aS3 h)] fun i=>pu ()) (bn (α:=Bool×Unit) (ji a 0 fun j=>ie (j==4) (pu (true,())) (ji
 a 0 fun k=>ie (k==5) (pu (true,())) (ji a 0 fun l=>pu (l==7,())))) fun m=>bn (α:=Unit) (ie m.1 (A02 (az a) fun n=>cx 64 #[.pointer p0,vi p1,.agg (aS3 n)] fun o=>pu ()) (bn (α:=Bool×Unit) (ji a 0 fun p=>ie
 (p==8) (ie d.1 (jc a 24 fun q=>pu (decide (0<(q.len:Int)),())) (pu (false,()))) (pu (false,()))) fun r=>bn (α:=Unit) (ie r.1 (A02 (az a) fun s=>cx 65 #[.pointer p0,vi p1,.agg (aS3 s)] fun t=>pu ()) (bn (α
 :=Bool×Unit) (ji a 0 fun u=>ie (u==10) (ie d.1 (jc a 25 fun v=>pu (decide (0<(v.len:Int)),())) (pu (false,()))) (pu (false,()))) fun w=>bn (α:=Unit) (ie w.1 (A02 (az a) fun x=>cx 66 #[.pointer p0,vi p1,
 .agg (aS3 x)] fun y=>pu ()) (ji a 0 fun z=>bn (α:=Unit) (ie (z==12) (cx 67 #[.pointer p0,vi p1,.agg #[vi 13,.bool false,.bool false,vi 0,vi 0,ve,ve,.int .u8 0,vz,vz,ve,.bool false,vi 0,.bool false,ve,
 ve,vi 0,.bool false,vz,.bool false,.bool false,ve,ve,.bool false,vz,vz]] fun A=>pu ()) (ji a 0 fun B=>bn (α:=Unit) (ie (B==14) (ju a 7 fun C=>cx 54 #[.pointer p0,vi p1,.bool (C==4)] fun D=>pu ()) (cx 68
 #[.pointer p0,vi p1,.int .u8 130] fun E=>pu ())) fun F=>pu ())) fun G=>pu ())) fun H=>pu ())) fun I=>pu ())) fun J=>pu ())) fun K=>pu ()
theorem A6q(p0:D0s)(p1:Int)(p2:yS2):HCs 32 #[.pointer p0,.int .i64 p1,.agg (aS3 p2)] (A5n p0 p1 p2) fun x=>.tuple #[]:=
 cE [] [0,1,2,5,6,18,31,49,66,83,91] [0,1,2,5,6,18,31,49,66,83,91] func32 ntmps32 (CC call63 (CC call64 (CC call65 (CC call66 (CC call67 (CC call54 (CC call68 CN)))))))
def A4G(p0:D0s)(p1:Int)(p2:yS2):HM (Unit):=
 nw (aS3 p2) 45 fun a=>nn p0 fun b=>kp b 0 fun c=>nn c fun d=>kp d 0 fun e=>jt a 10 fun f=>A0L (bn (α:=(yS9)×Bool×Unit) (y5 prog [.agg tS9,.one .bool] 55 #[.pointer e,.string f]) fun g=>nw zS9 79
 fun h=>jt a 10 fun i=>rq (.string i) (.string f)<|kp d 0 fun j=>rq (.pointer j) (.pointer e)<|kp b 0 fun k=>rq (.pointer k) (.pointer c)<|sn h (lS9 g.1) fun _=>cp 27 #[] fun l=>jt a 10 fun m=>bn (α:=Int×Bool×Int
 ×Unit) (y5 prog [.one (.int .i64),.one .bool,.one (.int .u8)] 69 #[.pointer l,.string m,.bool false,.bool false]) fun n=>bn (α:=Bool×Unit) (jb a 13 fun o=>ie o (kt (ad a 14) 0 fun p=>cu 12 #[.string
 p] fun q=>pu (!(q==0),())) (pu (false,()))) fun r=>bn (α:=Int×Unit) (ie r.1 (pu (144,())) (nn p0 fun s=>kp s 0 fun t=>nn t fun u=>km u 3 fun v=>bn (α:=Int) (A6b v) fun w=>bn (α:=Int×Unit) (ie (decide
 (64≤(w:Int))) (pu (151,())) (bn (α:=Int×Unit) (ie (!(n.2.2.1==0)) (pu (n.2.2.1,())) (bn (α:=Bool×Unit) (ie (!g.2.1) (nn p0 fun x=>kp x 0 fun y=>nn y fun z=>kp z 0 fun A=>cc 42 #[.pointer A] fun B=>pu
 (decide (32≤(B.len:Int)),())) (pu (false,()))) fun C=>bn (α:=Int×Unit) (ie C.1 (pu (151,())) (pu (0,()))) fun D=>pu (D.1,()))) fun E=>pu (E.1,()))) fun F=>pu (F.1,()))) fun G=>ie (!(G.1==0)) (cx 34
 #[.pointer p0,vi p1,.agg #[vi 2,.bool false,.bool false,vi 0,vi 0,ve,ve,.int .u8 G.1,vz,vz,ve,.bool false,vi 0,.bool false,ve,ve,vi 0,.bool false,vz,.bool false,.bool false,ve,ve,.bool false,vz,
 vz]] fun H=>pu ()) (bn (α:=Bool×Unit) (ie g.2.1 (jb h 3 fun I=>pu (I,())) (pu (false,()))) fun J=>bn (α:=Unit) (ie J.1 (nn p0 fun K=>kp K 0 fun L=>nn L fun M=>km M 3 fun N=>bn (α:=Nat) (B0m N) fun O=>bn
 (α:=Unit) (HM.loop (σ:=Unit) (τ:=Unit) (fun P=>bn (α:=Option (Value×Value)) (A8q O) fun Q=>A2Q Q (ie false (bn (α:=Int×(yS4)) (A4I (.one (.int .i64)) (.agg tS4) O) fun R=>nw zS4 112 fun S=>sn
 S (lS4 R.2) fun _=>ji S 0 fun T=>ji h 0 fun U=>ie (T==U) (cx 68 #[.pointer p0,vi R.1,.int .u8 142] fun V=>pu (.inr ())) (pu (.inl ()))) (pu (.inr ()))) fun(W:Value×Value)=>ie true (bn (α:=Int×(yS4))
 (A4I (.one (.int .i64)) (.agg tS4) O) fun X=>nw zS4 112 fun Y=>sn Y (lS4 X.2) fun _=>ji Y 0 fun Z=>ji h 0 fun fh=>ie (Z==fh) (cx 68 #[.pointer p0,vi X.1,.int .u8 142] fun fM=>pu (.inr ())) (pu (.inl ())))
 (pu (.inr ()))) ()) fun uL=>pu ()) (pu ())) fun rH=>jc a 9 fun hP=>bn (α:=(yS8)×Bool×Unit) (y5 prog [.agg tS8,.one .bool] 70 #[vs hP,vi 17]) fun ef=>nw zS8 106 fun gx=>sn gx (lS8 ef.1) fun
 _=>nn p0 fun ga=>kp ga 0 fun jU=>nn jU fun ko=>kp ko 0 fun kl=>jt a 10 fun lA=>jb a 11 fun ml=>ji gx 1 fun mj=>bn (α:=Int×Bool×Int×Unit) (y5 prog [.one (.int .i64),.one .bool,.one (.int
 .u8)] 69 #[.pointer kl,.string lA,.bool ml,.bool (decide (0<(mj:Int)))]) fun jw=>bn (α:=Bool×Unit) (ie g.2.1 (ji h 0 fun oC=>pu (!(jw.1==oC),())) (pu (false,()))) fun mi=>bn (α:=Unit) (ie mi.1
 (nn p0 fun mh=>kp mh 0 fun mf=>nn mf fun me=>kp me 1 fun mc=>ji h 0 fun ma=>ci 71 #[.pointer mc,vi ma] fun oA=>pu ()) (pu ())) fun oB=>nn p0 fun lZ=>kp lZ 0 fun lY=>nn lY fun oz=>km oz 3 fun pn=>jb a
 13 fun pj=>kt (ad a 14) 0 fun lz=>kt (ad a 14) 1 fun ph=>ki (ad a 14) 2 fun pg=>kb (ad a 14) 3 fun pf=>bn (α:=Unit) (A2F (Instr.sameNow (.int .i64)) pn (vi p1) (.agg #[vi jw.1,.bool pj,.string lz,
 .string ph,vi pg,.bool pf,ve])) fun _=>cx 67 #[.pointer p0,vi p1,.agg #[vi 2,.bool false,.bool false,vi 0,vi 0,ve,ve,.int .u8 0,vz,vz,ve,.bool false,vi 0,.bool false,ve,ve,vi 0,.bool false,vz,
 .bool false,.bool false,ve,ve,.bool jw.2.1,vz,vz]] fun rG=>jc a 9 fun jT=>bn (α:=(yS8)×Bool×Unit) (y5 prog [.agg tS8,.one .bool] 70 #[vs jT,vi 33]) fun pe=>nw zS8 106 fun iL=>sn iL (lS8
 pe.1) fun _=>bn (α:=Unit) (ie (!pe.2.1) (sw iL 1 (vi 64) fun _=>pu ()) (pu ())) fun lX=>nn p0 fun pd=>kp pd 0 fun fX=>nn fX fun gZ=>kp gZ 0 fun kj=>ji iL 1 fun gY=>cp 56 #[.pointer kj,vi jw.1] fun
 gU=>ji iL 1 fun oy=>rq (vi oy) (vi gY)<|cc 73 #[.pointer gU,vi gY] fun pc=>cx 72 #[.pointer p0,vi jw.1,vs pc] fun rF=>pu ())) (nw zS9 79 fun fO=>jt a 10 fun jy=>rq (.string jy) (.string f)<|kp d 0
 fun jx=>rq (.pointer jx) (.pointer e)<|kp b 0 fun nu=>rq (.pointer nu) (.pointer c)<|bn (α:=(yS9)×Bool×Unit) (y5 prog [.agg tS9,.one .bool] 55 #[.pointer e,.string f]) fun iM=>sn fO (lS9
 iM.1) fun _=>cp 27 #[] fun nt=>jt a 10 fun nr=>bn (α:=Int×Bool×Int×Unit) (y5 prog [.one (.int .i64),.one .bool,.one (.int .u8)] 69 #[.pointer nt,.string nr,.bool false,.bool false]) fun
 kJ=>bn (α:=Bool×Unit) (jb a 13 fun nq=>ie nq (kt (ad a 14) 0 fun np=>cu 12 #[.string np] fun nk=>pu (!(nk==0),())) (pu (false,()))) fun nj=>bn (α:=Int×Unit) (ie nj.1 (pu (144,())) (nn p0
 fun ni=>kp ni 0 fun nh=>nn nh fun ng=>km ng 3 fun nf=>bn (α:=Int) (A6b nf) fun nc=>bn (α:=Int×Unit) (ie (decide (64≤(nc:Int))) (pu (151,())) (bn (α:=Int×Unit) (ie (!(kJ.2.2.1==
 0)) (pu (kJ.2.2.1,())) (bn (α:=Bool×Unit) (ie (!iM.2.1) (nn p0 fun mY=>kp mY 0 fun mX=>nn mX fun mV=>kp mV 0 fun mU=>cc 42 #[.pointer mU] fun mT=>pu (decide (32≤(mT.len:Int)),())) (pu
 (false,()))) fun mS=>bn (α:=Int×Unit) (ie mS.1 (pu (151,())) (pu (0,()))) fun mR=>pu (mR.1,()))) fun mZ=>pu (mZ.1,()))) fun na=>pu (na.1,()))) fun kH=>ie (!(kH.1==0)) (cx 34 #[.pointer p0,
 vi p1,.agg #[vi 2,.bool false,.bool false,vi 0,vi 0,ve,ve,.int .u8 kH.1,vz,vz,ve,.bool false,vi 0,.bool false,ve,ve,vi 0,.bool false,vz,.bool false,.bool false,ve,ve,.bool false,vz,vz]] fun
 pD=>pu ()) (bn (α:=Bool×Unit) (ie iM.2.1 (jb fO 3 fun mQ=>pu (mQ,())) (pu (false,()))) fun mP=>bn (α:=Unit) (ie mP.1 (nn p0 fun kG=>kp kG 0 fun pC=>nn pC fun gE=>km gE 3 fun mN=>bn (α
 :=Nat) (B0m mN) fun gd=>bn (α:=Unit) (HM.loop (σ:=Unit) (τ:=Unit) (fun eR=>bn (α:=Option (Value×Value)) (A8q gd) fun kF=>A2Q kF (ie false (bn (α:=Int×(yS4)) (A4I (.one (.int
 .i64)) (.agg tS4) gd) fun kE=>nw zS4 112 fun kD=>sn kD (lS4 kE.2) fun _=>ji kD 0 fun mM=>ji fO 0 fun mL=>ie (mM==mL) (cx 68 #[.pointer p0,vi kE.1,.int .u8 142] fun pz=>pu (.inr ())) (pu
 (.inl ()))) (pu (.inr ()))) fun(pB:Value×Value)=>ie true (bn (α:=Int×(yS4)) (A4I (.one (.int .i64)) (.agg tS4) gd) fun kC=>nw zS4 112 fun kB=>sn kB (lS4 kC.2) fun _=>ji kB 0 fun mK=>ji fO
 0 fun mJ=>ie (mK==mJ) (cx 68 #[.pointer p0,vi kC.1,.int .u8 142] fun py=>pu (.inr ())) (pu (.inl ()))) (pu (.inr ()))) ()) fun gb=>pu ()) (pu ())) fun mO=>jc a 9 fun mI=>bn (α:=(yS8)×Bool×Unit)
 (y5 prog [.agg tS8,.one .bool] 70 #[vs mI,vi 17]) fun mH=>nw zS8 106 fun kA=>sn kA (lS8 mH.1) fun _=>nn p0 fun mG=>kp mG 0 fun mF=>nn mF fun mE=>kp mE 0 fun mD=>jt a 10 fun mC=>jb a
 11 fun mB=>ji kA 1 fun mA=>bn (α:=Int×Bool×Int×Unit) (y5 prog [.one (.int .i64),.one .bool,.one (.int .u8)] 69 #[.pointer mD,.string mC,.bool mB,.bool (decide (0<(mA:Int)))]) fun
 hZ=>bn (α:=Bool×Unit) (ie iM.2.1 (ji fO 0 fun my=>pu (!(hZ.1==my),())) (pu (false,()))) fun mw=>bn (α:=Unit) (ie mw.1 (nn p0 fun mu=>kp mu 0 fun bp=>nn bp fun bo=>kp bo 1 fun
 sJ=>ji fO 0 fun sI=>ci 71 #[.pointer sJ,vi sI] fun wH=>pu ()) (pu ())) fun mv=>nn p0 fun sH=>kp sH 0 fun sG=>nn sG fun sF=>km sF 3 fun sE=>jb a 13 fun sD=>kt (ad a 14) 0 fun sC=>kt (ad a
 14) 1 fun sB=>ki (ad a 14) 2 fun sA=>kb (ad a 14) 3 fun sz=>bn (α:=Unit) (A2F (Instr.sameNow (.int .i64)) sE (vi p1) (.agg #[vi hZ.1,.bool sD,.string sC,.string sB,vi sA,.bool sz,ve]))
 fun _=>cx 67 #[.pointer p0,vi p1,.agg #[vi 2,.bool false,.bool false,vi 0,vi 0,ve,ve,.int .u8 0,vz,vz,ve,.bool false,vi 0,.bool false,ve,ve,vi 0,.bool false,vz,.bool false,.bool false,ve,ve,.bool
 hZ.2.1,vz,vz]] fun wG=>jc a 9 fun sv=>bn (α:=(yS8)×Bool×Unit) (y5 prog [.agg tS8,.one .bool] 70 #[vs sv,vi 33]) fun px=>nw zS8 106 fun kq=>sn kq (lS8 px.1) fun _=>bn (α:=Unit) (ie
 (!px.2.1) (sw kq 1 (vi 64) fun _=>pu ()) (pu ())) fun wF=>nn p0 fun su=>kp su 0 fun sr=>nn sr fun sq=>kp sq 0 fun sk=>ji kq 1 fun pw=>cp 56 #[.pointer sk,vi hZ.1] fun sj=>ji kq 1 fun
 si=>rq (vi si) (vi pw)<|cc 73 #[.pointer sj,vi pw] fun sh=>cx 72 #[.pointer p0,vi hZ.1,vs sh] fun wE=>pu ()))
theorem A5A(p0:D0s)(p1:Int)(p2:yS2):HCs 33 #[.pointer p0,.int .i64 p1,.agg (aS3 p2)] (A4G p0 p1 p2) fun x=>.tuple #[]:=
 cE [] [0,1,2,5,6,7,8,9,12,13,14,15,17,18,20,21,44,54,64,68,84,94,102,104,112,147,195] [0,1,2,5,6,7,8,9,12,13,14,15,17,18,20,21,44,54,64,68,84,94,102,104,112,147,195] func33 ntmps33 (CC call55 (CC call27 (CC call69 (CC call12 (CC call42 (CC call34 (CC call68 (CC call70 (CC call71 (CC call67 (CC call56 (CC call73 (CC call72 CN)))))))))))))
def A57(p0:D0s)(p1:Int)(p2:yS2):HM (Unit):=
 nw (aS3 p2) 45 fun a=>nn p0 fun b=>kc (Addr.add b 2) 0 fun c=>A02 (az a) fun d=>nw #[vi p1,vi d.1,.bool d.2.1,.bool d.2.2.1,vi d.2.2.2.1,vi d.2.2.2.2.1,.string (w5 d),.string (w6 d),.int .u8 (w7 d),vs (w8 d),
 vs (w9 d),.string (w10 d),.bool (w11 d),vi (w12 d),.bool (w13 d),.string (w14 d),.string (w15 d),vi (w16 d),.bool (w17 d),vs (w18 d),.bool (w19 d),.bool (w20 d),.string (w21 d),.string (w22 d),.bool (w23
 d),vs (w24 d),vs (w25 d),.bool true] 50 fun e=>kc (Addr.add b 2) 0 fun f=>rq (vs f) (vs c)<|bn (α:=Slc) (HM.append 50 28 344 zS1 c 1 (V9 28 (⟨some (az e),1,1⟩))) fun g=>nn p0 fun h=>sx (Addr.add (Addr.add h
 2) 0) (vs g) fun _=>pu ()
theorem A7d(p0:D0s)(p1:Int)(p2:yS2):HCs 34 #[.pointer p0,.int .i64 p1,.agg (aS3 p2)] (A57 p0 p1 p2) fun x=>.tuple #[]:=
 cE [] [0,1,2,5] [0,1,2,5] func34 ntmps34 CN
def A5E(p0:B38):HM (Int×Unit):=
 cb 30 #[.string p0] fun a=>ie (!a) (pu (143,())) (cc 36 #[.string p0] fun b=>bn (α:=(Int×Unit)⊕(Int×Unit)) (HM.loop (σ:=Int×Unit) (τ:=(Int×Unit)⊕(Int×Unit)) (fun c=>ie (decide (c.1<(b.len:Int)))
 (ix b c.1 1 fun d=>lt d fun e=>bn (α:=(Unit)⊕((Int×Unit)⊕((Int×Unit)⊕(Int×Unit)))) (bn (α:=(Unit)⊕((Unit)⊕((Int×Unit)⊕((Int×Unit)⊕(Int×Unit))))) (bn (α:=(Unit)⊕((Unit)⊕((Unit)⊕((Int
 ×Unit)⊕((Int×Unit)⊕(Int×Unit)))))) (cb 31 #[.string e,.string (ByteArray.mk #[35])] fun f=>ie f (pu (.inl ())) (cb 31 #[.string e,.string (ByteArray.mk #[43])] fun g=>ie g (pu (.inr (.inl ()))) (pu (.inr (.inr
 (.inl ())))))) (Sum.elim (fun h=>ie (decide (c.1<((wi ((b.len:Int)-1)):Int))) (pu (.inr (.inr (.inr (.inr (143,())))))) (pu (.inl ()))) X2)) (Sum.elim (fun i=>ie (decide (1<(((ByteArray.size e:Nat):
 Int):Int))) (pu (.inr (.inr (.inr (143,()))))) (pu (.inl ()))) X2)) (Sum.elim (fun j=>pu (.inl (wi (c.1+1),()))) X2)) (pu (.inr (.inl (c.1,()))))) (0,())) (Sum.elim (fun k=>pu (0,())) X2))
theorem A6B(p0:B38):HCs 35 #[.string p0] (A5E p0) fun x=>.int .u8 x.1:=
 cE [.one (.int .u8)] [0,2,3,4,5,8,11,12,13,14,18,21,28,31] [0,3,4,5,8,11,12,13,14,18,21,28,31] func35 ntmps35 (CC call30 (CC call36 (CC call31 CN)))
def A7j(p0:B38):HM (Slc×Unit):=
 cc 74 #[.string p0,.string (ByteArray.mk #[47])] fun a=>pu (a,())
theorem A42(p0:B38):HCs 36 #[.string p0] (A7j p0) fun x=>.slice x.1.a x.1.len x.1.cap:=
 cE [.one .slc] [0,2] [0] func36 ntmps36 (CC call74 CN)
def A6G(p0:Slc)(p1:Slc)(p2:Value):HM (Bool×Unit):=
 ie (!((p0.len:Int)==(p1.len:Int))) (pu (false,())) (bn (α:=(Int×Unit)⊕(Bool×Unit)) (HM.loop (σ:=Int×Unit) (τ:=(Int×Unit)⊕(Bool×Unit)) (fun a=>ie (decide (a.1<(p0.len:Int))) (ix p0 a.1 1
 fun b=>lt b fun c=>ix p1 a.1 1 fun d=>lt d fun e=>bn (α:=Bool) (B8H prog (.one .bool) p2 #[.string c,.string e]) fun f=>ie (!f) (pu (.inr (.inr (false,())))) (pu (.inl (wi (a.1+1),())))) (pu (.inr (.inl
 (a.1,()))))) (0,())) (Sum.elim (fun g=>pu (true,())) X2))
theorem A7m(p0:Slc)(p1:Slc)(p2:Value):HCs 37 #[.slice p0.a p0.len p0.cap,.slice p1.a p1.len p1.cap,p2] (A6G p0 p1 p2) fun x=>.bool x.1:=
 cE [.one .bool] [0,1,2,6,7,8,9,14,15,16,17,18,30] [0,1,2,7,8,9,14,15,16,17,18,30] func37 ntmps37 CN
def A8H(p0:B38)(p1:B38):HM (Bool×Unit):=
 bn (α:=Bool×Unit) (ie (decide (p0=(ByteArray.mk #[43]))) (pu (true,())) (pu (decide (p0=p1),()))) fun a=>pu (a.1,())
theorem A8G(p0:B38)(p1:B38):HCs 38 #[.string p0,.string p1] (A8H p0 p1) fun x=>.bool x.1:=
 cE [.one .bool] [0,1,4] [0,1] func38 ntmps38 CN
def B33(p0:Slc):HM (Slc×Slc×Unit):=
 bn (α:=Slc) (HM.slice p0 none (some (if 80<(p0.len:Int) then 80 else(p0.len:Int))) none 4) fun a=>bn (α:=Slc×Slc×Int×Unit) (HM.loop (σ:=Slc×Slc×Int×Unit) (τ:=Slc×Slc×Int×Unit) (fun b=>ie
 (decide (b.2.2.1<(a.len:Int))) (ix a b.2.2.1 4 fun c=>g8 c fun d=>nw zS8 193 fun e=>sn e (lS8 d) fun _=>g8 (az e) fun f=>g8 (az e) fun g=>A0L (nw (aS8 f) 106 fun h=>g8 (az e) fun i=>rq (.agg (aS8 i)) (.agg (aS8
 g))<|A0L (bn (α:=Slc) (HM.append 106 4 48 zS8 b.1 1 (V9 4 (⟨some (az h),1,1⟩))) fun j=>g8 (az e) fun k=>rq (.agg (aS8 k)) (.agg (aS8 g))<|nw (aS8 g) 194 fun l=>g8 (az e) fun m=>rq (.agg (aS8 m)) (.agg (aS8
 f))<|bn (α:=Slc) (HM.append 194 4 48 zS8 b.2.1 1 (V9 4 (⟨some (az l),1,1⟩))) fun n=>pu (.inl (j,n,wi (b.2.2.1+1),()))) (nw (aS8 g) 194 fun o=>g8 (az e) fun p=>rq (.agg (aS8 p)) (.agg (aS8 f))<|bn (α:=
 Slc) (HM.append 106 4 48 zS8 b.1 1 (V9 4 (⟨some (az h),1,1⟩))) fun q=>g8 (az e) fun r=>rq (.agg (aS8 r)) (.agg (aS8 g))<|bn (α:=Slc) (HM.append 194 4 48 zS8 b.2.1 1 (V9 4 (⟨some (az o),1,1⟩))) fun s=>pu
 (.inl (q,s,wi (b.2.2.1+1),())))) (nw (aS8 g) 194 fun t=>g8 (az e) fun u=>rq (.agg (aS8 u)) (.agg (aS8 f))<|nw (aS8 f) 106 fun v=>g8 (az e) fun w=>rq (.agg (aS8 w)) (.agg (aS8 g))<|bn (α:=Slc) (HM.append 106 4 48
 zS8 b.1 1 (V9 4 (⟨some (az v),1,1⟩))) fun x=>g8 (az e) fun y=>rq (.agg (aS8 y)) (.agg (aS8 g))<|bn (α:=Slc) (HM.append 194 4 48 zS8 b.2.1 1 (V9 4 (⟨some (az t),1,1⟩))) fun z=>pu (.inl (x,z,wi (b.2.2.1+
 1),())))) (pu (.inr (b.1,b.2.1,b.2.2.1,())))) (⟨none,0,0⟩,⟨none,0,0⟩,0,())) fun A=>pu (A.1,A.2.1,())
theorem B1Y(p0:Slc):HCs 39 #[.slice p0.a p0.len p0.cap] (B33 p0) fun x=>.tuple #[.slice x.1.a x.1.len x.1.cap,.slice x.2.1.a x.2.1.len x.2.1.cap]:=
 cE [.one .slc,.one .slc] [0,2,3,4,5,7,12,13,14,15] [0,4,5,7,12,13,14,15] func39 ntmps39 CN
def A46(p0:D0s):HM (Slc×Unit):=
 ie (Option.isNone p0) (pu (⟨none,0,0⟩,())) (nn p0 fun a=>km a 1 fun b=>bn (α:=Value) (A1z prog (.one .any) 78 #[.map b]) fun c=>cc 40 #[c] fun d=>bn (α:=Slc×Int×Unit) (HM.loop (σ:=Slc×Int×
 Unit) (τ:=Slc×Int×Unit) (fun e=>ie (decide (e.2.1<(d.len:Int))) (ix d e.2.1 1 fun f=>li f fun g=>nn p0 fun h=>km h 1 fun i=>bn (α:=D0s×Bool) (HM.lookup (Instr.sameNow (.int .i64)) (.pointer none)
 (.one .ptr) i (vi g)) fun j=>nn j.1 fun k=>g9 (Addr.add k 0) fun l=>nw (aS9 l) 79 fun m=>bn (α:=Slc) (HM.append 79 4 32 zS9 e.1 1 (V9 4 (⟨some (az m),1,1⟩))) fun n=>pu (.inl (n,wi (e.2.1+1),()))) (pu (.inr
 (e.1,e.2.1,())))) (⟨none,0,0⟩,0,())) fun o=>pu (o.1,()))
theorem A6d(p0:D0s):HCs 42 #[.pointer p0] (A46 p0) fun x=>.slice x.1.a x.1.len x.1.cap:=
 cE [.one .slc] [0,2,3,5,7,13,14,15,16] [0,3,5,7,13,14,15,16] func42 ntmps42 (CC call78 (CC call40 CN))
def A7c(p0:D0s)(p1:yS7):HM (Unit):=
 nw (aS7 p1) 83 fun a=>jb a 3 fun b=>bn (α:=Unit) (ie b (nn p0 fun c=>kp c 0 fun d=>nn d fun e=>kp e 2 fun f=>jt a 0 fun g=>jt a 1 fun h=>ji a 2 fun i=>cu 79 #[.pointer f,.agg #[.string g,.string h,vi i]] fun j=>pu
 ()) (pu ())) fun k=>nn p0 fun l=>kp l 0 fun m=>nn m fun n=>kp n 1 fun o=>jt a 0 fun p=>cc 80 #[.pointer o,.string p] fun q=>bn (α:=Slc×Unit) (HM.loop (σ:=Slc×Unit) (τ:=Slc×Unit) (fun r=>ie (decide (0<
 (r.1.len:Int))) (ix r.1 0 3 fun s=>ki s 0 fun t=>bn (α:=Int×Slc×Unit) (HM.loop (σ:=Int×Slc×Unit) (τ:=Int×Slc×Unit) (fun u=>bn (α:=Bool×Unit) (ie (decide (0<(u.2.1.len:Int))) (ix u.2.1 0 3 fun
 v=>ki v 0 fun w=>pu (w==t,())) (pu (false,()))) fun x=>ie x.1 (ix u.2.1 0 3 fun y=>ki y 2 fun z=>bn (α:=Slc) (HM.slice u.2.1 (some 1) none none 3) fun A=>pu (.inl (if u.1<(z:Int) then z else u.1,A,()))) (pu
 (.inr (u.1,u.2.1,())))) (0,r.1,())) fun B=>nn p0 fun C=>kp C 0 fun D=>nn D fun E=>kp E 0 fun F=>jt a 0 fun G=>jt a 1 fun H=>ji a 2 fun I=>A0L (cp 56 #[.pointer F,vi t] fun J=>ji a 2 fun K=>rq (vi K) (vi I)<|jt
 a 1 fun L=>rq (.string L) (.string H)<|jt a 0 fun M=>rq (.string M) (.string G)<|jt a 1 fun N=>rq (.string N) (.string H)<|jt a 0 fun O=>rq (.string O) (.string G)<|kp E 0 fun P=>rq (.pointer P) (.pointer F)<|kp C 0
 fun Q=>rq (.pointer Q) (.pointer D)<|bn (α:=Slc×Int×Unit) (y5 prog [.one .slc,.one (.int .u8)] 81 #[.pointer J,.agg #[.string G,.string H,vi (if B.1<(I:Int) then B.1 else I),.bool false,ve]])
 fun R=>cx 72 #[.pointer p0,vi t,vs R.1] fun S=>pu (.inl (B.2.1,()))) (jt a 1 fun T=>rq (.string T) (.string H)<|jt a 0 fun U=>rq (.string U) (.string G)<|kp E 0 fun V=>rq (.pointer V) (.pointer F)<|kp C 0 fun W=>rq
 (.pointer W) (.pointer D)<|cp 56 #[.pointer F,vi t] fun X=>ji a 2 fun Y=>rq (vi Y) (vi I)<|jt a 1 fun Z=>rq (.string Z) (.string H)<|jt a 0 fun mm=>rq (.string mm) (.string G)<|bn (α:=Slc×Int×Unit) (y5
 prog [.one .slc,.one (.int .u8)] 81 #[.pointer X,.agg #[.string G,.string H,vi (if B.1<(I:Int) then B.1 else I),.bool false,ve]]) fun fh=>cx 72 #[.pointer p0,vi t,vs fh.1] fun fM=>pu (.inl (B.2.1,
 ())))) (pu (.inr (r.1,())))) (q,())) fun sy=>pu ()
theorem A74(p0:D0s)(p1:yS7):HCs 43 #[.pointer p0,.agg (aS7 p1)] (A7c p0 p1) fun x=>.tuple #[]:=
 cE [] [0,1,3,4,5,6,7,10,38,53] [0,1,3,4,5,6,7,10,38,53] func43 ntmps43 (CC call79 (CC call80 (CC call56 (CC call81 (CC call72 CN)))))
def A5D(p0:D0s):HM (Slc×Unit):=
 ie (Option.isNone p0) (pu (⟨none,0,0⟩,())) (bn (α:=Nat) (HM.new (.map #[] 0)) fun a=>nw #[.map none] 211 fun b=>sx (az b) (.map (some a)) fun _=>nn p0 fun c=>kp c 0 fun d=>cx 82 #[.pointer d,vz,.func (.func 83)
 #[] #[.pointer (some (az b))]] fun e=>lm (az b) fun f=>bn (α:=Value) (A1z prog (.one .any) 85 #[.map f]) fun g=>cc 84 #[g] fun h=>pu (h,()))
theorem A6A(p0:D0s):HCs 44 #[.pointer p0] (A5D p0) fun x=>.slice x.1.a x.1.len x.1.cap:=
 cE [.one .slc] [0,2,3,5] [0,3,5] func44 ntmps44 (CC call82 (CC call85 (CC call84 CN)))
def B7V(p0:Int):HM (D0s×Unit):=
 bn (α:=Int×Unit) (ie (decide (p0<(0:Int))) (pu (0,())) (pu (p0,()))) fun a=>bn (α:=Int×Unit) (ie (decide (64<(a.1:Int))) (pu (64,())) (pu (a.1,()))) fun b=>nw #[vi b.1,vz] 220 fun c=>pu (some (az
 c),())
theorem B4v(p0:Int):HCs 45 #[.int .i64 p0] (B7V p0) fun x=>.pointer x.1:=
 cE [.one .ptr] [0,2,4,6] [0,4,6] func45 ntmps45 CN
def B5r(p0:D0s)(p1:Int)(p2:Bool):HM (Unit):=
 cx 86 #[.pointer p0,.bool p2] fun a=>cx 87 #[.pointer p0,vi p1,.bool true] fun b=>pu ()
theorem B2P(p0:D0s)(p1:Int)(p2:Bool):HCs 46 #[.pointer p0,.int .i64 p1,.bool p2] (B5r p0 p1 p2) fun x=>.tuple #[]:=
 cE [] [0,1,2] [0,1,2] func46 ntmps46 (CC call86 (CC call87 CN))
def A97(p0:D0s)(p1:yS7):HM (Unit):=
 nw (aS7 p1) 143 fun a=>cx 86 #[.pointer p0,.bool false] fun b=>g7 (az a) fun c=>cx 88 #[.pointer p0,.agg (aS7 c)] fun d=>pu ()
theorem A9M(p0:D0s)(p1:yS7):HCs 47 #[.pointer p0,.agg (aS7 p1)] (A97 p0 p1) fun x=>.tuple #[]:=
 cE [] [0,1,3] [0,1,3] func47 ntmps47 (CC call86 (CC call88 CN))
def A96(p0:D0s):HM (Unit):=
 cx 86 #[.pointer p0,.bool false] fun a=>bn (α:=Unit) (HM.loop (σ:=Unit) (τ:=Unit) (fun b=>nn p0 fun c=>kc c 3 fun d=>ie (decide (0<(d.len:Int))) (nn p0 fun e=>kc e 3 fun f=>ix f 0 8 fun g=>ki g 0 fun h=>cx 87
 #[.pointer p0,vi h,.bool false] fun i=>pu (.inl ())) (pu (.inr ()))) ()) fun j=>pu ()
theorem A9L(p0:D0s):HCs 48 #[.pointer p0] (A96 p0) fun x=>.tuple #[]:=
 cE [] [0,9] [0,9] func48 ntmps48 (CC call86 (CC call87 CN))
def B1m(p0:D0s)(p1:Int)(p2:yS2)(p3:Bool):HM (Unit):=
 nw (aS2 p2) 70 fun a=>cx 86 #[.pointer p0,.bool p3] fun b=>ci 89 #[.pointer p0,vi p1] fun c=>ie (decide (0≤(c:Int))) (nn p0 fun d=>kp d 0 fun e=>nn p0 fun f=>kc f 3 fun g=>ix g c 8 fun h=>ki h 1 fun i=>cp 90
 #[.pointer e,vi i] fun j=>g2 (az a) fun k=>cx 91 #[.pointer p0,vi p1,.pointer j,.agg (aS2 k)] fun l=>pu ()) (ji a 0 fun m=>ie (m==1) (g2 (az a) fun n=>cx 92 #[.pointer p0,vi p1,.agg (aS2 n)] fun o=>pu ()) (cx 93
 #[.pointer p0,vi p1,.agg #[vi 14,.bool false,.bool false,vi 0,vi 0,ve,ve,vi 130,vz,vz,ve,.bool false,vi 0,.bool false,ve,ve,vi 0,.bool false,vz,.bool false,.bool false,ve,ve,.bool false,vz,vz]]
 fun p=>pu ()))
theorem B0G(p0:D0s)(p1:Int)(p2:yS2)(p3:Bool):HCs 49 #[.pointer p0,.int .i64 p1,.agg (aS2 p2),.bool p3] (B1m p0 p1 p2 p3) fun x=>.tuple #[]:=
 cE [] [0,1,2,3,6,8,9,17,38] [0,1,2,3,6,8,9,17,38] func49 ntmps49 (CC call86 (CC call89 (CC call90 (CC call91 (CC call92 (CC call93 CN))))))
def B0a(p0:Slc)(p1:Slc):HM (Bool×Unit):=
 ie (!((p0.len:Int)==(p1.len:Int))) (pu (false,())) (bn (α:=(Int×Unit)⊕(Bool×Unit)) (HM.loop (σ:=Int×Unit) (τ:=(Int×Unit)⊕(Bool×Unit)) (fun a=>ie (decide (a.1<(p0.len:Int))) (bn (α:=Bool
 ×Unit) (ix p0 a.1 28 fun b=>ki b 0 fun c=>ix p1 a.1 28 fun d=>ki d 0 fun e=>ie (!(c==e)) (A0L (pu (true,())) (pu (true,()))) (ix p0 a.1 28 fun f=>kb f 27 fun g=>ix p1 a.1 28 fun h=>kb h 27 fun i=>ie (!(g==i))
 (A0L (pu (true,())) (pu (true,()))) (ix p0 a.1 28 fun j=>A02 (Addr.add j 1) fun k=>ix p1 a.1 28 fun l=>g2 (Addr.add l 1) fun m=>A0L (nw (aS3 k) 45 fun n=>g2 (Addr.add l 1) fun o=>rq (.agg (aS2 o)) (.agg (aS2
 m))<|nw (aS2 m) 70 fun p=>A02 (Addr.add j 1) fun q=>rq (.agg (aS3 q)) (.agg (aS3 k))<|cb 94 #[.slice (some (az n)) 1 1,.slice (some (az p)) 1 1] fun r=>pu (!r,())) (nw (aS2 m) 70 fun s=>A02 (Addr.add j 1) fun t=>rq
 (.agg (aS3 t)) (.agg (aS3 k))<|nw (aS3 k) 45 fun u=>g2 (Addr.add l 1) fun v=>rq (.agg (aS2 v)) (.agg (aS2 m))<|cb 94 #[.slice (some (az u)) 1 1,.slice (some (az s)) 1 1] fun w=>pu (!w,()))))) fun x=>ie x.1 (pu (.inr
 (.inr (false,())))) (pu (.inl (wi (a.1+1),())))) (pu (.inr (.inl (a.1,()))))) (0,())) (Sum.elim (fun y=>pu (true,())) X2))
theorem A9Q(p0:Slc)(p1:Slc):HCs 50 #[.slice p0.a p0.len p0.cap,.slice p1.a p1.len p1.cap] (B0a p0 p1) fun x=>.bool x.1:=
 cE [.one .bool] [0,1,4,5,10,12,13,14,55] [0,1,5,10,12,13,14,55] func50 ntmps50 (CC call94 CN)
def A5i(p0:Slc)(p1:Slc):HM (Bool×Unit):=
 ie (!((p0.len:Int)==(p1.len:Int))) (pu (false,())) (bn (α:=(Int×Unit)⊕(Bool×Unit)) (HM.loop (σ:=Int×Unit) (τ:=(Int×Unit)⊕(Bool×Unit)) (fun a=>ie (decide (a.1<(p0.len:Int))) (ix p0 a.1 5
 fun b=>g7 b fun c=>ix p1 a.1 5 fun d=>g7 d fun e=>ie (!((decide (c.1=e.1))&&((decide (c.2.1=e.2.1))&&((c.2.2.1==e.2.2.1)&&((c.2.2.2.1==e.2.2.2.1)&&((decide (c.2.2.2.2.1=e.2.2.2.2.1))&&true)))))) (pu
 (.inr (.inr (false,())))) (pu (.inl (wi (a.1+1),())))) (pu (.inr (.inl (a.1,()))))) (0,())) (Sum.elim (fun f=>pu (true,())) X2))
theorem A6j(p0:Slc)(p1:Slc):HCs 51 #[.slice p0.a p0.len p0.cap,.slice p1.a p1.len p1.cap] (A5i p0 p1) fun x=>.bool x.1:=
 cE [.one .bool] [0,1,4,5,10,12,13,14,24] [0,1,5,10,12,13,14,24] func51 ntmps51 CN
end Go.Proofs.YtidlldnlphdhcaaGreatDoor