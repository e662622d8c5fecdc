/-
  Our texts, packed by program.
-/
import Derived.Test.YtmpgankhnfpoaaaGreatDoorQNodeRefuses0
import Derived.MapKept
import Derived.Below
import Derived.Laws.Append
import Derived.ChangeArms
import Derived.DataReads
import Derived.SizedLaws
import Derived.Handed
import Derived.OpenShut
import Derived.Test.YtmpgankhnfpoaaaGreatDoorProg
import Derived.KernelRfl
import Derived.Shelf.Unicode.DecodeAny
import Derived.Shelf.Unicode.DecodeLastEight
set_option linter.unusedSimpArgs false
set_option linter.unusedVariables false
set_option maxHeartbeats 16000000
set_option maxRecDepth 100000
set_option synthInstance.maxSize 100000
set_option synthInstance.maxHeartbeats 400000
namespace Go.H
section
open Go.MapKept (Stamped)
abbrev PH:=Nat→Option Obj
def PH.sub(m:PH)(h:Heap):Prop:=∀k o,m k=some o→h[k]? =some o
def PH.bO(a b:PH):Prop:=∀k,a k=none∨b k=none
def PH.join(a b:PH):PH:=fun k=>match a k with|some o=>some o|none=>b k
abbrev Asn:=PH→Prop
def star(A B:Asn):Asn:=fun m=>∃a b,a.bO b∧m=a.join b∧A a∧B b
def v7:List Asn→Asn
 |[]=>fun _=>True
 |A::L=>star A (v7 L)
def exA{α:Type}(f:α→Asn):Asn:=fun m=>∃x,f x m
def pr(p:Prop):Asn:=fun _=>p
def blk(b:Nat)(o:Obj):Asn:=fun m=>m b=some o
def cells(b:Nat)(cs:C3D):Asn:=exA fun T=>blk b (.cells cs T (0,0))
def old(h0:Heap):Asn:=fun m=>∀(k:Nat) (o:Obj),h0[k]? =some o→m k=some o
def sat(h:Heap)(L:List Asn):Prop:=∃m,PH.sub m h∧v7 L m
theorem join_none{a b:PH}{k:Nat}(h:a k=none):a.join b k=b k:=by simp[PH.join,h]
theorem j6{a b:PH}{k:Nat}{o:Obj}(h:a k=some o):a.join b k=some o:=by simp[PH.join,h]
theorem A1G{a b:PH}{k:Nat}{o:Obj}(hd:a.bO b)(h:b k=some o):a.join b k=some o:=by
 rcases hd k with h1|h1
 ·rw[join_none h1];exact h
 ·rw[h] at h1;cases h1
theorem A5g{a b:PH}{h:Heap}(hs:PH.sub (a.join b) h)(hd:a.bO b):PH.sub a h∧PH.sub b h:=
 ⟨fun k o ho=>hs k o (j6 ho),fun k o ho=>hs k o (A1G hd ho)⟩
theorem A8G{a b:PH}{h:Heap}(ha:PH.sub a h)(hb:PH.sub b h):PH.sub (a.join b) h:=by
 intro k o ho
 cases hk:a k with
 |some o'=>rw[j6 hk] at ho;cases ho;exact ha k _ hk
 |none=>rw[join_none hk] at ho;exact hb k o ho
theorem join_assoc(a b c:PH):(a.join b).join c=a.join (b.join c):=by
 funext k;simp only[PH.join];cases a k<;>rfl
theorem join_comm{a b:PH}(h:a.bO b):a.join b=b.join a:=by
 funext k;simp only[PH.join]
 rcases h k with h1|h1
 ·rw[h1];cases b k<;>rfl
 ·rw[h1];cases a k<;>rfl
theorem q8{a b:PH}(h:a.bO b):b.bO a:=fun k=>(h k).symm
theorem B1i{a b c:PH}(h1:a.bO c)(h2:b.bO c):(a.join b).bO c:=by
 intro k
 rcases h1 k with h|h
 ·rw[join_none h];exact h2 k
 ·exact .inr h
theorem A5v{a b c:PH}(h:(a.join b).bO c)(hd:a.bO b):a.bO c∧b.bO c:=by
 refine⟨fun k=>?_,fun k=>?_⟩
 ·rcases h k with h1|h1
  ·cases hk:a k with
   |none=>exact .inl rfl
   |some o=>rw[j6 hk] at h1;cases h1
  ·exact .inr h1
 ·rcases h k with h1|h1
  ·cases hk:b k with
   |none=>exact .inl rfl
   |some o=>rw[A1G hd hk] at h1;cases h1
  ·exact .inr h1
theorem A4a{A B C:Asn}{m:PH}(h:star (star A B) C m):star A (star B C) m:=by
 obtain⟨ab,c,hd,rfl,⟨a,b,eO,rfl,ha,hb⟩,hc⟩:=h
 obtain⟨h1,h2⟩:=A5v hd eO
 exact⟨a,b.join c,q8 (B1i (q8 eO) (q8 h1)),join_assoc a b c,ha,b,c,h2,rfl,hb,hc⟩
theorem A2r{A B C:Asn}{m:PH}(h:star A (star B C) m):star (star A B) C m:=by
 obtain⟨a,bc,hd,rfl,ha,b,c,eO,rfl,hb,hc⟩:=h
 obtain⟨h1,h2⟩:=A5v (q8 hd) eO
 exact⟨a.join b,c,B1i (q8 h2) eO,(join_assoc a b c).symm,⟨a,b,q8 h1,rfl,ha,hb⟩,hc⟩
theorem B6M{A B:Asn}{m:PH}(h:star A B m):star B A m:=by
 obtain⟨a,b,hd,rfl,ha,hb⟩:=h
 exact⟨b,a,q8 hd,join_comm hd,hb,ha⟩
theorem X4{A A' B B':Asn}(ha:∀m,A m→A' m)(hb:∀m,B m→B' m){m:PH}(h:star A B m):star A' B' m:=by
 obtain⟨a,b,hd,rfl,h1,h2⟩:=h
 exact⟨a,b,hd,rfl,ha _ h1,hb _ h2⟩
section
variable {h:Heap} {A B C D E F G:Asn} {R:List Asn}
theorem sat.imp(hs:sat h (A::R))(ha:∀m,A m→B m):sat h (B::R):=by
 obtain⟨m,h1,h2⟩:=hs
 exact⟨m,h1,X4 ha (fun _ h=>h) h2⟩
theorem sat.tail{R':List Asn}(hs:sat h (A::R))(hr:∀m,v7 R m→v7 R' m):sat h (A::R'):=by
 obtain⟨m,h1,h2⟩:=hs
 exact⟨m,h1,X4 (fun _ h=>h) hr h2⟩
theorem A1x{m:PH}(h:v7 (A::B::R) m):v7 (B::A::R) m:=
 A4a (X4 (fun _ h=>B6M h) (fun _ h=>h) (A2r h))
theorem sat.p1(hs:sat h (A::B::R)):sat h (B::A::R):=let⟨m,h1,h2⟩:=hs;⟨m,h1,A1x h2⟩
theorem sat.drop(hs:sat h (A::R)):sat h R:=by
 obtain⟨m,h1,a,r,hd,rfl,ha,hr⟩:=hs
 exact⟨r,(A5g h1 hd).2,hr⟩
theorem sat.aH:sat h (star A B::R)↔sat h (A::B::R):=
 ⟨fun⟨m,h1,h2⟩=>⟨m,h1,A4a h2⟩,fun⟨m,h1,h2⟩=>⟨m,h1,A2r h2⟩⟩
theorem sat.bC{α:Type}{f:α→Asn}:sat h (exA f::R)↔∃x,sat h (f x::R):=by
 constructor
 ·rintro⟨m,h1,a,r,hd,rfl,⟨x,ha⟩,hr⟩
  exact⟨x,_,h1,a,r,hd,rfl,ha,hr⟩
 ·rintro⟨x,m,h1,a,r,hd,rfl,ha,hr⟩
  exact⟨_,h1,a,r,hd,rfl,⟨x,ha⟩,hr⟩
theorem sat.aN{p:Prop}:sat h (pr p::R)↔p∧sat h R:=by
 constructor
 ·intro hs
  refine⟨?_,hs.drop⟩
  obtain⟨m,h1,a,r,hd,rfl,ha,hr⟩:=hs
  exact ha
 ·rintro⟨hp,m,h1,h2⟩
  refine⟨m,h1,fun _=>none,m,fun k=>.inl rfl,?_,hp,h2⟩
  funext k;rfl
theorem A1y:∀(L R:List Asn) {m:PH},star (v7 L) (v7 R) m↔v7 (L++R) m
 |[],R,m=>by
  constructor
  ·rintro⟨a,b,hd,rfl,-,hb⟩
   exact up R (a.join b) b (fun k o ho=>A1G hd ho) hb
  ·intro hr
   exact⟨fun _=>none,m,fun k=>.inl rfl,by funext k;rfl,trivial,hr⟩
 |A::L,R,m=>by
  constructor
  ·intro hm
   exact X4 (fun _ h=>h) (fun _ h=>(A1y L R).1 h) (A4a hm)
  ·intro hm
   exact A2r (X4 (fun _ h=>h) (fun _ h=>(A1y L R).2 h) hm)
where
 up:∀(R:List Asn) (m m':PH),(∀k o,m' k=some o→m k=some o)→v7 R m'→v7 R m
  |[],_,_,_,_=>trivial
  |A::R,m,m',bq,⟨a,b,hd,he,ha,hb⟩=>by
   subst he
   refine⟨a,fun k=>match a k with|some _=>none|none=>m k,fun k=>?_,?_,ha,?_⟩
   ·cases hk:a k with
    |none=>exact .inl rfl
    |some o=>exact .inr (by simp only[hk])
   ·funext k
    cases hk:a k with
    |none=>rw[join_none hk];simp[hk]
    |some o=>rw[j6 hk];exact bq k o (j6 hk)
   ·refine up R _ b (fun k o ho=>?_) hb
    have fc:a k=none:=by
     rcases hd k with h1|h1
     ·exact h1
     ·rw[ho] at h1;cases h1
    simp only[fc]
    exact bq k o (by rw[join_none fc];exact ho)
theorem sat.get{b:Nat}{o:Obj}(hs:sat h (blk b o::R)):h[b]? =some o:=by
 obtain⟨m,h1,a,r,hd,rfl,ha,hr⟩:=hs
 exact h1 b o (j6 ha)
theorem sat.lt{b:Nat}{o:Obj}(hs:sat h (blk b o::R)):b<h.size:=(B3.1 hs.get).1
theorem sat.bU{b:Nat}{o o':Obj}{h':Heap}(hs:sat h (blk b o::R))(hb:h'[b]? =some o')(hk:∀k,k≠b→h'[k]? =h[k]?):sat h' (blk b o'::R):=by
 obtain⟨m,h1,a,r,hd,rfl,ha,hr⟩:=hs
 have jA:r b=none:=by
  rcases hd b with h2|h2
  ·rw[ha] at h2;cases h2
  ·exact h2
 refine⟨PH.join (fun k=>if k=b then some o' else none) r,?_,_,r,fun k=>?_,rfl,by simp[blk],hr⟩
 ·refine A8G (fun k x hx=>?_) (fun k x hx=>?_)
  ·have cr:(if k=b then some o' else none)=some x:=hx
   split at cr
   ·rename_i e;subst e;cases cr;exact hb
   ·cases cr
  ·rw[hk k (fun e=>by subst e;rw[jA] at hx;cases hx)]
   exact(A5g h1 hd).2 k x hx
 ·by_cases e:k=b
  ·subst e;exact .inr jA
  ·exact .inl (by simp[e])
theorem sat.push{o:Obj}(hs:sat h R):sat (h.push o) (blk h.size o::R):=by
 obtain⟨m,h1,hr⟩:=hs
 have hm:m h.size=none:=by
  cases hh:m h.size with
  |none=>rfl
  |some x=>
   have:=h1 _ _ hh
   rw[K7 (by omega)] at this
   cases this
 refine⟨PH.join (fun k=>if k=h.size then some o else none) m,?_,_,m,fun k=>?_,rfl,by simp[blk],hr⟩
 ·refine A8G (fun k x hx=>?_) (fun k x hx=>?_)
  ·have cr:(if k=h.size then some o else none)=some x:=hx
   split at cr
   ·rename_i e;subst e;cases cr;simp
   ·cases cr
  ·have:=h1 k x hx
   have af:=(B3.1 this).1
   rw[Array.getElem?_push,if_neg (by omega)]
   exact this
 ·by_cases e:k=h.size
  ·subst e;exact .inr hm
  ·exact .inl (by simp[e])
theorem sat.bJ{h0:Heap}{k:Nat}{o:Obj}(hs:sat h (old h0::R))(hk:h0[k]? =some o):h[k]? =some o:=by
 obtain⟨m,h1,a,r,hd,rfl,ha,hr⟩:=hs
 exact h1 k o (j6 (ha k o hk))
theorem sat_old(h0:Heap):sat h0 [old h0]:=by
 refine⟨fun k=>h0[k]?,fun k o ho=>ho,fun k=>h0[k]?,fun _=>none,fun k=>.inr rfl,?_,fun k o ho=>ho,trivial⟩
 funext k
 simp only[PH.join]
 cases h0[k]? <;>rfl
theorem sat.aU{h0:Heap}{a:Addr}{v:Value}(hs:sat h (old h0::R))(hc:O5 h0 a=some v):O5 h a=some v:=by
 unfold O5 at hc⊢
 cases hb:h0[a.block]? with
 |none=>simp[hb] at hc
 |some o=>rw[hs.bJ hb];rw[hb] at hc;exact hc
theorem T9{b:Nat}{cs:C3D}:sat h (cells b cs::R)↔∃T,sat h (blk b (.cells cs T (0,0))::R):=sat.bC
theorem sat.cell{b:Nat}{cs:C3D}(hs:sat h (cells b cs::R))(i:Nat):O5 h ⟨b,i,none⟩=cs[i]? :=by
 obtain⟨T,hs⟩:=T9.1 hs
 simp[O5,hs.get]
theorem sat.free{b:Nat}{cs:C3D}(hs:sat h (cells b cs::R))(i:Nat):V5 h ⟨b,i,none⟩=false:=by
 obtain⟨T,hs⟩:=T9.1 hs
 simp[V5,hs.get]
theorem sat.set{b:Nat}{cs:C3D}(hs:sat h (cells b cs::R))(i:Nat)(v:Value):sat (U7 h ⟨b,i,none⟩ v) (cells b (cs.setIfInBounds i v)::R):=by
 obtain⟨T,hs⟩:=T9.1 hs
 refine T9.2 ⟨T,hs.bU ?_ ?_⟩
 ·simp[U7,G7,hs.get]
 ·intro k hk
  simp only[U7,G7]
  rw[if_neg (fun e=>hk e.symm)]
theorem sat.aX{T:TypeId}{cs:C3D}(hs:sat h R):sat (h.push (.cells cs T)) (cells h.size cs::R):=T9.2 ⟨T,hs.push⟩
end
section
variable {α β:Type} {h:Heap} {Q:α→Heap→Prop} {R:List Asn}
@[simp] theorem N1 (a:α):O9 a h Q=Q a h:=rfl
@[simp] theorem N2 (m:HM β) (f:β→HM α):HM.bind m f h Q=m h (fun b h'=>f b h' Q):=rfl
@[simp] theorem N6 (b:Bool) (x y:HM α):X7 b x y h Q=if b=true then x h Q else y h Q:=rfl
@[simp] theorem C3y (x y:HM α):Y4 x y h Q=(x h Q∧y h Q):=rfl
@[simp] theorem C0m (p:Prop) (m:HM α):P7 p m h Q=(p∧m h Q):=rfl
@[simp] theorem C3z:(M8:HM α) h Q=False:=rfl
@[simp] theorem C20 (a:Addr) (Q:Addr→Heap→Prop):B1t (some a) h Q=Q a h:=by simp[B1t]
theorem C0I{t:Tag}{a:Addr}{x:t.ty}{Q:t.ty→Heap→Prop}(hc:O5 h a=some (t.val x))(hq:Q x h):R9 t a h Q:=⟨x,hc,hq⟩
@[simp] theorem Addr.aO (b o n:Nat):Addr.add ⟨b,o,none⟩ n=⟨b,o+n,none⟩:=by
 cases n<;>simp[Addr.add]
@[simp] theorem C18 (k:IntKind) (a:Addr) (Q:Int→Heap→Prop):R9 (.int k) a h Q=∃x,O5 h a=some (.int k x)∧Q x h:=rfl
@[simp] theorem C1g (a:Addr) (Q:Bool→Heap→Prop):R9 .bool a h Q=∃x,O5 h a=some (.bool x)∧Q x h:=rfl
@[simp] theorem C14 (a:Addr) (Q:B1q→Heap→Prop):R9 .str a h Q=∃x,O5 h a=some (.string x)∧Q x h:=rfl
@[simp] theorem C16 (a:Addr) (Q:C3C→Heap→Prop):R9 .ptr a h Q=∃x,O5 h a=some (.pointer x)∧Q x h:=rfl
@[simp] theorem C17 (a:Addr) (Q:Option Nat→Heap→Prop):R9 .map a h Q=∃x,O5 h a=some (.map x)∧Q x h:=rfl
@[simp] theorem C19 (a:Addr) (Q:Value→Heap→Prop):R9 .any a h Q=∃x,O5 h a=some x∧Q x h:=rfl
def B75:Option Value→Option Slc
 |some (.slice p n c)=>some ⟨p,n,c⟩
 |_=>none
@[simp] theorem C0q (p:C3C) (n c:Nat):B75 (some (.slice p n c))=some ⟨p,n,c⟩:=rfl
@[simp] theorem Slc.eta (s:Slc):(⟨s.a,s.len,s.cap⟩:Slc)=s:=rfl
@[simp] theorem C15 (a:Addr) (Q:Slc→Heap→Prop):R9 .slc a h Q=∃x,B75 (O5 h a)=some x∧Q x h:=by
 refine propext ⟨fun⟨x,h1,h2⟩=>⟨x,by rw[h1];rfl,h2⟩,fun⟨x,h1,h2⟩=>⟨x,?_,h2⟩⟩
 unfold B75 at h1
 split at h1
 ·rename_i e;rw[e];cases h1;rfl
 ·cases h1
theorem A1w{b:Nat}{cs:C3D}{i:Nat}{v:Value}{Q:Unit→Heap→Prop}(hs:sat h (cells b cs::R))(hi:i<cs.size)(hv:v.oneCell'=true)
  (hq:∀h',sat h' (cells b (cs.setIfInBounds i v)::R)→Q () h'):A3d ⟨b,i,none⟩ v h Q:=
 ⟨by rw[hs.cell i];simp[hi],hs.free i,hv,hq _ (hs.set i v)⟩
theorem U5{cs:C3D}{T:TypeId}{Q:Nat→Heap→Prop}(hs:sat h R)(hq:∀b h',sat h' (cells b cs::R)→Q b h'):HM.new (.cells cs T) h Q:=hq _ _ hs.aX
theorem B14{o:Obj}{Q:Nat→Heap→Prop}(hs:sat h R)(hq:∀b h',sat h' (blk b o::R)→Q b h'):HM.new o h Q:=hq _ _ hs.push
def Kind.un(k:Kind)(Q:k.ty→Heap→Prop)(v:Value)(h:Heap):Prop:=∃x,v=k.val x∧Q x h
def R0.un(ks:List Kind)(Q:R0 ks→Heap→Prop)(v:Value)(h:Heap):Prop:=∃x,v=.tuple (R0.vals ks x).toArray∧Q x h
@[simp] theorem C3A (P:Program) (k:Kind) (f:FuncId) (args:C3D) (Q:k.ty→Heap→Prop):O3 P k f args h Q=N9 P f args h (k.un Q):=rfl
@[simp] theorem C3B (P:Program) (ks:List Kind) (f:FuncId) (args:C3D) (Q:R0 ks→Heap→Prop):Q4 P ks f args h Q=N9 P f args h (R0.un ks Q):=rfl
@[simp] theorem C3k (k:IntKind) (Q:Int→Heap→Prop) (n:Int):Kind.un (.one (.int k)) Q (.int k n) h=Q n h:=by simp[Kind.un,Kind.val,Tag.val]
@[simp] theorem C29 (Q:Bool→Heap→Prop) (b:Bool):Kind.un (.one .bool) Q (.bool b) h=Q b h:=by
 simp only[Kind.un,Kind.val,Tag.val,Value.bool.injEq]
 exact propext ⟨fun⟨x,h1,h2⟩=>h1▸h2,fun h=>⟨b,rfl,h⟩⟩
@[simp] theorem C3g (Q:B1q→Heap→Prop) (b:B1q):Kind.un (.one .str) Q (.string b) h=Q b h:=by simp[Kind.un,Kind.val,Tag.val]
@[simp] theorem C3i (Q:C3C→Heap→Prop) (b:C3C):Kind.un (.one .ptr) Q (.pointer b) h=Q b h:=by simp[Kind.un,Kind.val,Tag.val]
@[simp] theorem C3j (Q:Option Nat→Heap→Prop) (b:Option Nat):Kind.un (.one .map) Q (.map b) h=Q b h:=by simp[Kind.un,Kind.val,Tag.val]
@[simp] theorem C3l (Q:Value→Heap→Prop) (b:Value):Kind.un (.one .any) Q b h=Q b h:=by simp[Kind.un,Kind.val,Tag.val]
@[simp] theorem C3h (Q:Slc→Heap→Prop) (a:C3C) (n c:Nat):Kind.un (.one .slc) Q (.slice a n c) h=Q ⟨a,n,c⟩ h:=by
 refine propext ⟨?_,fun hq=>⟨⟨a,n,c⟩,rfl,hq⟩⟩
 rintro⟨x,h1,h2⟩
 cases h1
 exact h2
theorem N3{β:Type}{P:Program}{k:Kind}{f:FuncId}{args:C3D}{g:k.ty→HM β}{h:Heap}{Q:β→Heap→Prop}(hc:N9 P f args h (k.un fun x h'=>g x h' Q)):(HM.bind (O3 P k f args) g) h Q:=hc
theorem Z1{β:Type}{P:Program}{ks:List Kind}{f:FuncId}{args:C3D}{g:R0 ks→HM β}{h:Heap}{Q:β→Heap→Prop}(hc:N9 P f args h (R0.un ks fun x h'=>g x h' Q)):(HM.bind (Q4 P ks f args) g) h Q:=hc
@[simp] theorem un2 (k l:Kind) (Q:R0 [k,l]→Heap→Prop) (v w:Value):R0.un [k,l] Q (.tuple #[v,w]) h=k.un (fun x _=>l.un (fun y h=>Q (x,y,()) h) w h) v h:=by
 refine propext ⟨?_,?_⟩
 ·rintro⟨⟨x,y,u⟩,h1,h2⟩
  have h1:#[v,w]=[k.val x,l.val y].toArray:=Value.tuple.inj h1
  have h1:=congrArg Array.toList h1
  simp at h1
  exact⟨x,h1.1,y,h1.2,h2⟩
 ·rintro⟨x,h1,y,h2,h3⟩
  exact⟨(x,y,()),by rw[h1,h2];rfl,h3⟩
@[simp] theorem un3 (k l m:Kind) (Q:R0 [k,l,m]→Heap→Prop) (v w z:Value):R0.un [k,l,m] Q (.tuple #[v,w,z]) h=k.un (fun x _=>l.un (fun y _=>m.un (fun t h=>Q (x,y,t,()) h) z h) w h) v h:=by
 refine propext ⟨?_,?_⟩
 ·rintro⟨⟨x,y,t,u⟩,h1,h2⟩
  have h1:#[v,w,z]=[k.val x,l.val y,m.val t].toArray:=Value.tuple.inj h1
  have h1:=congrArg Array.toList h1
  simp at h1
  exact⟨x,h1.1,y,h1.2.1,t,h1.2.2,h2⟩
 ·rintro⟨x,h1,y,h2,t,h3,h4⟩
  exact⟨(x,y,t,()),by rw[h1,h2,h3];rfl,h4⟩
@[simp] theorem un0 (Q:R0 []→Heap→Prop):R0.un [] Q (.tuple #[]) h=Q () h:=by
 refine propext ⟨fun⟨x,_,h2⟩=>h2,fun h=>⟨(),rfl,h⟩⟩
@[simp] theorem C3d (x:Unit):packed [] x=.tuple #[]:=rfl
@[simp] theorem C3c (k:Kind) (x:k.ty):packed [k] (x,())=k.val x:=rfl
@[simp] theorem C3b (k l:Kind) (x:k.ty) (y:l.ty):packed [k,l] (x,y,())=.tuple #[k.val x,l.val y]:=rfl
@[simp] theorem C3a (k l m:Kind) (x:k.ty) (y:l.ty) (z:m.ty):packed [k,l,m] (x,y,z,())=.tuple #[k.val x,l.val y,m.val z]:=rfl
@[simp] theorem val_one (t:Tag) (x:t.ty):Kind.val (.one t) x=t.val x:=rfl
@[simp] theorem C27 (k:IntKind) (x:Int):Tag.val (.int k) x=.int k x:=rfl
@[simp] theorem C2b (x:Bool):Tag.val .bool x=.bool x:=rfl
@[simp] theorem C23 (x:B1q):Tag.val .str x=.string x:=rfl
@[simp] theorem C25 (x:C3C):Tag.val .ptr x=.pointer x:=rfl
@[simp] theorem C26 (x:Option Nat):Tag.val .map x=.map x:=rfl
@[simp] theorem C28 (x:Value):Tag.val .any x=x:=rfl
@[simp] theorem C24 (x:Slc):Tag.val .slc x=.slice x.a x.len x.cap:=rfl
@[simp] theorem C3r {k:IntKind} {n:Int} {Q:Int→Prop}:(∃x:Int,Value.int k n=.int k x∧Q x)=Q n:=by simp
theorem C3e{σ τ:Type}{body:σ→HM (σ⊕τ)}{s:σ}{Q:τ→Heap→Prop}(I:σ→Heap→Prop)(μ:σ→Heap→Nat)(h0:I s h)(hr:∀s h,I s h→body s h fun r h'=>match r with
   |.inl s'=>I s' h'∧μ s' h'<μ s h
   |.inr t=>Q t h'):HM.loop body s h Q:=⟨I,μ,h0,hr⟩
theorem B5b{σ τ:Type}{body:σ→HM (σ⊕τ)}{s:σ}{h:Heap}{Q:τ→Heap→Prop}(I:Nat→σ→Heap→Prop){n:Nat}(h0:I n s h)
  (hr:∀n s h,I n s h→body s h fun r h'=>match r with
   |.inl s'=>∃m,m<n∧I m s' h'
   |.inr t=>Q t h')(jF:∀s h (Q1 Q2:σ⊕τ→Heap→Prop),(∀r h',Q1 r h'→Q2 r h')→body s h Q1→body s h Q2):HM.loop body s h Q:=by
 classical
 have least:∀s h,(∃n,I n s h)→∃n,I n s h∧∀m,I m s h→n≤m:=by
  intro s h ⟨n,hn⟩
  induction n using Nat.strongRecOn with
  |_ n ih=>
   by_cases hx:∃m,m<n∧I m s h
   ·obtain⟨m,hm,hi⟩:=hx;exact ih m hm hi
   ·exact⟨n,hn,fun m hm=>by
     rcases I7 m n with af|iS
     ·exact absurd ⟨m,af,hm⟩ hx
     ·exact iS⟩
 refine⟨fun s h=>∃n,I n s h,fun s h=>if hx:∃n,I n s h then Classical.choose (least s h hx) else 0,⟨n,h0⟩,fun s h hx=>?_⟩
 obtain⟨iB,eR⟩:=Classical.choose_spec (least s h hx)
 refine jF s h _ _ ?_ (hr _ s h iB)
 intro r h' hq
 cases r with
 |inr t=>exact hq
 |inl s'=>
  obtain⟨m,hm,hi⟩:=hq
  have cr:∃n,I n s' h':=⟨m,hi⟩
  refine⟨cr,?_⟩
  simp only[dif_pos hx,dif_pos cr]
  obtain⟨_,dk⟩:=Classical.choose_spec (least s' h' cr)
  exact Nat.lt_of_le_of_lt (dk m hi) hm
end
section
variable {K V:Type} [DecidableEq K]
def A2j(l:List (K×V))(k:K):Option V:=(l.find? (fun p=>decide (p.1=k))).map (·.2)
def A47:List (K×V)→K→V→List (K×V)
 |[],k,v=>[(k,v)]
 |(a,b)::l,k,v=>if a=k then(k,v)::l else(a,b)::A47 l k v
def A6a:List (K×V)→K→List (K×V)
 |[],_=>[]
 |(a,b)::l,k=>if a=k then l else(a,b)::A6a l k
@[simp] theorem C2x (k:K):A2j ([]:List (K×V)) k=none:=rfl
theorem A3o(a:K)(b:V)(l:List (K×V))(k:K):A2j ((a,b)::l) k=if a=k then some b else A2j l k:=by
 by_cases h:a=k<;>simp[A2j,List.find?,h]
def Z2(ek:K→Value)(ev:V→Value)(l:List (K×V))(es:List MapEntry):Prop:=es.map (fun e=>(e.key,e.val))=l.map (fun p=>(ek p.1,ev p.2))
structure KeyLaw(kd:k4)(ek:K→Value):Prop where
 same:∀a b,kd (ek a) (ek b)=some (decide (a=b))
 bits:∀a,Instr.sameBits 10000 (ek a) (ek a)=true
theorem A41{kd:k4}{ek:K→Value}(hk:KeyLaw kd ek){ev:V→Value}(k:K):∀(l:List (K×V)) (es:List MapEntry) (i:Nat),Z2 ek ev l es→
  (A2j l k=none∧U4 kd (ek k) es i=some none)∨∃v j e,A2j l k=some v∧U4 kd (ek k) es i=some (some (i+j,ev v))∧es[j]? =some e∧e.key=ek k
 |[],[],i,_=>.inl ⟨rfl,rfl⟩
 |[],_::_,i,h=>by simp[Z2] at h
 |_::_,[],i,h=>by simp[Z2] at h
 |(a,b)::l,e::es,i,h=>by
  simp only[Z2,B6,J6,Prod.mk.injEq] at h
  obtain⟨⟨h1,h2⟩,h3⟩:=h
  simp only[U4,h1,hk.same,A3o]
  by_cases fC:k=a
  ·subst fC
   right
   exact⟨b,0,e,by simp,by simp[h2],rfl,h1⟩
  ·have fc:¬a=k:=fun hh=>fC hh.symm
   simp only[fC,fc,decide_false,if_false]
   rcases A41 hk k l es (i+1) h3 with⟨h4,h5⟩|⟨v,j,e',h4,h5,h6,h7⟩
   ·exact .inl ⟨h4,h5⟩
   ·exact .inr ⟨v,j+1,e',h4,by rw[h5];congr 3;omega,by simpa using h6,h7⟩
theorem B3W{ek:K→Value}(cW:∀a b,ek a=ek b→a=b){ev:V→Value}(k:K)(x:V):∀(l:List (K×V)) (es:List MapEntry),Z2 ek ev l es→∀(i:Nat) (o:Nat×Value) (kd:k4),KeyLaw kd ek→
  U4 kd (ek k) es i=some (some o)→Z2 ek ev (A47 l k x) (es.modify (o.1-i) fun e=>{e with key:=ek k,val:=ev x})∧i≤o.1
 |[],[],_,i,o,kd,_,hf=>by simp[U4] at hf
 |[],_::_,h,_,_,_,_,_=>by simp[Z2] at h
 |_::_,[],h,_,_,_,_,_=>by simp[Z2] at h
 |(a,b)::l,e::es,h,i,o,kd,hk,hf=>by
  simp only[Z2,B6,J6,Prod.mk.injEq] at h
  obtain⟨⟨h1,h2⟩,h3⟩:=h
  simp only[U4,h1,hk.same] at hf
  by_cases fC:k=a
  ·subst fC
   simp only[decide_true,C3] at hf
   subst hf
   simp only[L8,A47,if_true]
   refine⟨?_,B5 _⟩
   simp[Z2,List.modify_zero_cons] at h3⊢
   exact h3
  ·simp only[fC,decide_false] at hf
   obtain⟨h4,h5⟩:=B3W cW k x l es h3 (i+1) o kd hk hf
   refine⟨?_,by omega⟩
   rw[show o.1-i=(o.1-(i+1))+1 from by omega]
   simp only[A47,if_neg (fun hh:a=k=>fC hh.symm),List.modify_succ_cons]
   simp only[Z2,B6,h1,h2]
   rw[h4]
theorem B02:∀(l:List (K×V)) (k:K) (v:V),A2j l k=none→A47 l k v=l++[(k,v)]
 |[],_,_,_=>rfl
 |(a,b)::l,k,v,h=>by
  rw[A3o] at h
  by_cases fc:a=k
  ·rw[if_pos fc] at h;cases h
  ·rw[if_neg fc] at h
   simp only[A47,if_neg fc,G3,B02 l k v h]
theorem B3X{ek:K→Value}{ev:V→Value}(k:K):∀(l:List (K×V)) (es:List MapEntry),Z2 ek ev l es→∀(i:Nat) (o:Nat×Value) (kd:k4),KeyLaw kd ek→
  U4 kd (ek k) es i=some (some o)→Z2 ek ev (A6a l k) (es.eraseIdx (o.1-i))∧i≤o.1
 |[],[],_,i,o,kd,_,hf=>by simp[U4] at hf
 |[],_::_,h,_,_,_,_,_=>by simp[Z2] at h
 |_::_,[],h,_,_,_,_,_=>by simp[Z2] at h
 |(a,b)::l,e::es,h,i,o,kd,hk,hf=>by
  simp only[Z2,B6,J6,Prod.mk.injEq] at h
  obtain⟨⟨h1,h2⟩,h3⟩:=h
  simp only[U4,h1,hk.same] at hf
  by_cases fC:k=a
  ·subst fC
   simp only[decide_true,C3] at hf
   subst hf
   simp only[L8,A6a,if_true]
   exact⟨h3,B5 _⟩
  ·simp only[fC,decide_false] at hf
   obtain⟨h4,h5⟩:=B3X k l es h3 (i+1) o kd hk hf
   refine⟨?_,by omega⟩
   rw[show o.1-i=(o.1-(i+1))+1 from by omega]
   simp only[A6a,if_neg (fun hh:a=k=>fC hh.symm),List.eraseIdx_cons_succ]
   simp only[Z2,B6,h1,h2]
   rw[h4]
theorem B05:∀(l:List (K×V)) (k:K),A2j l k=none→A6a l k=l
 |[],_,_=>rfl
 |(a,b)::l,k,h=>by
  rw[A3o] at h
  by_cases fc:a=k
  ·rw[if_pos fc] at h;cases h
  ·rw[if_neg fc] at h
   simp only[A6a,if_neg fc,B05 l k h]
end
section
variable {K V:Type}
def mapA(ek:K→Value)(ev:V→Value)(r:Nat)(l:List (K×V)):Asn:=
 exA fun x:Array MapEntry×Nat=>star (pr (Z2 ek ev l x.1.toList∧Stamped x.1 x.2)) (blk r (.map x.1 x.2))
variable {h:Heap} {R:List Asn} {ek:K→Value}
theorem T7{ev:V→Value}{r:Nat}{l:List (K×V)}:sat h (mapA ek ev r l::R)↔∃es clock,(Z2 ek ev l es.toList∧Stamped es clock)∧sat h (blk r (.map es clock)::R):=by
 unfold mapA
 rw[sat.bC]
 constructor
 ·rintro⟨⟨es,c⟩,hs⟩
  rw[sat.aH,sat.aN] at hs
  exact⟨es,c,hs⟩
 ·rintro⟨es,c,hs⟩
  exact⟨(es,c),by rw[sat.aH,sat.aN];exact hs⟩
theorem A5a{ev:V→Value}{r:Nat}{l:List (K×V)}{Q:Int→Heap→Prop}(hs:sat h (mapA ek ev r l::R))(hq:Q (l.length:Int) h):B9m (some r) h Q:=by
 obtain⟨es,c,⟨he,aM⟩,hs⟩:=T7.1 hs
 refine⟨es.toList,c,by simpa[A2G] using hs.get,?_⟩
 have:=congrArg List.length he
 simp at this
 simpa[this] using hq
end
section
variable {K V:Type} [DecidableEq K] {h:Heap} {R:List Asn} {ek:K→Value}
theorem A95(l:List (K×V))(k:K):A2j l k=none↔k∉l.map (·.1):=by
 induction l with
 |nil=>simp
 |cons p l ih=>
  obtain⟨a,b⟩:=p
  rw[A3o]
  by_cases h:a=k
  ·simp[h]
  ·rw[if_neg h,ih]
   simp[Ne.symm h]
theorem A7Y{kd:k4}(hk:KeyLaw kd ek)(cW:∀a b,ek a=ek b→a=b){ev:V→Value}{r:Nat}{l:List (K×V)}{k:K}{x:V}{Q:Unit→Heap→Prop}
  (hs:sat h (mapA ek ev r l::R))(hq:∀h',sat h' (mapA ek ev r (A47 l k x)::R)→Q () h'):B6q kd (some r) (ek k) (ev x) h Q:=by
 obtain⟨es,c,⟨he,aM⟩,hs⟩:=T7.1 hs
 have af:=hs.lt
 rcases A41 hk k l es.toList 0 he with⟨h1,h2⟩|⟨v,j,e,h1,h2,h3,h4⟩
 ·refine⟨r,es,c,none,rfl,hs.get,h2,hq _ (T7.2 ⟨_,_,⟨?_,?_⟩,hs.bU (o':=.map (es.push {key:=ek k,val:=ev x,born:=c}) (c+1)) (by simp[af]) (fun k hk=>?_)⟩)⟩
  ·rw[B02 l k x h1]
   simp only[Z2,Array.toList_push,C7,B6,I8]
   rw[he]
  ·refine Go.MapKept.stamped_push aM fun y hy pX=>?_
   have e:es.toList.map (·.key)=(l.map (·.1)).map ek:=by
    have:=congrArg (List.map Prod.fst) he
    simpa[G5] using this
   have hm:ek k∈(l.map (·.1)).map ek:=by rw[←e,←pX];exact D6 hy
   obtain⟨k',eY,fE⟩:=H8.1 hm
   exact(A95 l k).1 h1 (cW _ _ fE▸eY)
  ·rw[D2,if_neg (fun e=>hk e.symm)]
 ·have dm:es[0+j]? =some e:=by simpa using h3
  refine⟨r,es,c,some (0+j,ev v),rfl,hs.get,h2,?_,hk.bits k,hq _ (T7.2 ⟨_,_,⟨?_,?_⟩,hs.bU (o':=.map (es.modify (0+j) fun e=>{e with key:=ek k,val:=ev x}) c) (by simp[af]) (fun k hk=>?_)⟩)⟩
  ·rw[dm];exact h4
  ·have:=(B3W cW k x l es.toList he 0 _ kd hk h2).1
   simpa using this
  ·refine Go.MapKept.stamped_modify aM _ _ (fun _ _=>rfl) (fun e' _ fE=>?_)
   rw[dm] at fE
   cases fE
   exact h4.symm
  ·rw[D2,if_neg (fun e=>hk e.symm)]
theorem A8a{kd:k4}(hk:KeyLaw kd ek){ev:V→Value}{r:Nat}{l:List (K×V)}{k:K}{Q:Unit→Heap→Prop}
  (hs:sat h (mapA ek ev r l::R))(hq:∀h',sat h' (mapA ek ev r (A6a l k)::R)→Q () h'):B6p kd (some r) (ek k) h Q:=by
 obtain⟨es,c,⟨he,aM⟩,hs⟩:=T7.1 hs
 have af:=hs.lt
 rcases A41 hk k l es.toList 0 he with⟨h1,h2⟩|⟨v,j,e,h1,h2,h3,h4⟩
 ·refine⟨es,c,none,hs.get,h2,hq _ (T7.2 ⟨es,c,⟨by rw[B05 l k h1];exact he,aM⟩,hs.bU (by simp[af]) (fun k hk=>?_)⟩)⟩
  rw[D2,if_neg (fun e=>hk e.symm)]
 ·refine⟨es,c,some (0+j,ev v),hs.get,h2,hq _ (T7.2 ⟨_,_,⟨?_,Go.MapKept.stamped_erase aM (0+j)⟩,hs.bU (o':=.map (es.eraseIdxIfInBounds (0+j)) c) (by simp[af]) (fun k hk=>?_)⟩)⟩
  ·have:=(B3X k l es.toList he 0 _ kd hk h2).1
   have hj:j<es.size:=by
    have:=(C4.1 h3).1
    simpa using this
   simpa[Array.eraseIdxIfInBounds,hj] using this
  ·rw[D2,if_neg (fun e=>hk e.symm)]
end
theorem A74(k:IntKind):KeyLaw (Instr.sameNow (.int k)) (fun n:Int=>Value.int k n):=⟨fun a b=>by simp[Instr.sameNow];exact Bool.eq_iff_iff.2 (by simp),fun a=>by simp[Instr.sameBits]⟩
theorem A73:KeyLaw (Instr.sameNow .string) (fun s:B1q=>Value.string s):=⟨fun a b=>by
 simp only[Instr.sameNow,C3]
 exact(beq_toListBytes a b).trans (B4W a b),fun a=>by simp[Instr.sameBits,beq_toListBytes]⟩
end
section
class S7 {α:Type} (m:HM α):Prop where
 mono:∀(h:Heap) (Q1 Q2:α→Heap→Prop),(∀a h',Q1 a h'→Q2 a h')→m h Q1→m h Q2
section
variable {α β σ τ:Type}
instance C1Z(a:α):S7 (O9 a):=⟨fun _ _ _ hq hm=>hq _ _ hm⟩
instance A58(m:HM α)(f:α→HM β)[S7 m][hf:∀a,S7 (f a)]:S7 (HM.bind m f):=
 ⟨fun h _ _ hq hm=>S7.mono (m:=m) h _ _ (fun a h' hx=>(hf a).mono h' _ _ hq hx) hm⟩
instance:S7 (M8:HM α):=⟨fun _ _ _ _ hm=>hm⟩
instance C13(x y:HM α)[hx:S7 x][hy:S7 y]:S7 (Y4 x y):=⟨fun h Q Q' hq hm=>⟨hx.mono h Q Q' hq hm.1,hy.mono h Q Q' hq hm.2⟩⟩
instance A9b(b:Bool)(x y:HM α)[S7 x][S7 y]:S7 (X7 b x y):=⟨fun h _ _ hq hm=>by
 cases b
 ·exact S7.mono (m:=y) h _ _ hq hm
 ·exact S7.mono (m:=x) h _ _ hq hm⟩
instance C2v(p:Prop)(m:HM α)[S7 m]:S7 (P7 p m):=⟨fun h _ _ hq hm=>⟨hm.1,S7.mono (m:=m) h _ _ hq hm.2⟩⟩
instance C10(body:σ→HM (σ⊕τ))(s:σ)[hb:∀s,S7 (body s)]:S7 (HM.loop body s):=⟨fun _ _ _ hq=>by
 rintro⟨I,μ,h0,hr⟩
 refine⟨I,μ,h0,fun s h hi=>(hb s).mono h _ _ ?_ (hr s h hi)⟩
 intro r h' hx
 cases r with
 |inl _=>exact hx
 |inr _=>exact hq _ _ hx⟩
instance C12(f:α→HM τ)(g:β→HM τ)(x:α⊕β)[hf:∀a,S7 (f a)][hg:∀b,S7 (g b)]:S7 (Sum.elim f g x:HM τ):=by
 cases x with
 |inl a=>exact hf a
 |inr b=>exact hg b
instance(t:Tag)(a:Addr):S7 (α:=no_index (Tag.ty t)) (R9 t a):=⟨fun _ _ _ hq ⟨x,h1,h2⟩=>⟨x,h1,hq _ _ h2⟩⟩
instance(ts:List Tag)(a:Addr):S7 (α:=no_index (Tup ts)) (N5 ts a):=⟨fun _ _ _ hq ⟨x,h1,h2⟩=>⟨x,h1,hq _ _ h2⟩⟩
instance(a:Addr)(v:Value):S7 (A3d a v):=⟨fun _ _ _ hq ⟨x,h1,h2,h3⟩=>⟨x,h1,h2,hq _ _ h3⟩⟩
instance(a:Addr)(vs:C3E):S7 (A0f a vs):=⟨fun _ _ _ hq ⟨x,h1⟩=>⟨x,hq _ _ h1⟩⟩
instance(o:Obj):S7 (HM.new o):=⟨fun _ _ _ hq hm=>hq _ _ hm⟩
instance(p:C3C):S7 (B1t p):=⟨fun _ _ _ hq ⟨x,h1,h2⟩=>⟨x,h1,hq _ _ h2⟩⟩
instance(a:C3C)(len:Nat)(i:Int)(size:Nat):S7 (r8 a len i size):=⟨fun _ _ _ hq ⟨x,h1,h2,h3,h4⟩=>⟨x,h1,h2,h3,hq _ _ h4⟩⟩
instance(s:B1q)(i:Int):S7 (A9U s i):=⟨fun _ _ _ hq ⟨x,h1,h2,h3⟩=>⟨x,h1,h2,hq _ _ h3⟩⟩
instance(P:Program)(k:Kind)(f:FuncId)(args:C3D):S7 (α:=no_index (Kind.ty k)) (O3 P k f args):=⟨fun _ _ _ hq hm=>N9.mono hm fun _ _ ⟨x,h1,h2⟩=>⟨x,h1,hq _ _ h2⟩⟩
instance(P:Program)(ks:List Kind)(f:FuncId)(args:C3D):S7 (α:=no_index (R0 ks)) (Q4 P ks f args):=⟨fun _ _ _ hq hm=>N9.mono hm fun _ _ ⟨x,h1,h2⟩=>⟨x,h1,hq _ _ h2⟩⟩
instance(P:Program)(k:Kind)(v:Value)(args:C3D):S7 (α:=no_index (Kind.ty k)) (B6n P k v args):=⟨fun _ _ _ hq ⟨f,first,captured,h1,h2,hm⟩=>⟨f,first,captured,h1,h2,N9.mono hm fun _ _ ⟨x,h1,h2⟩=>⟨x,h1,hq _ _ h2⟩⟩⟩
instance(P:Program)(ks:List Kind)(v:Value)(args:C3D):S7 (α:=no_index (R0 ks)) (A1q P ks v args):=⟨fun _ _ _ hq ⟨f,first,captured,h1,h2,hm⟩=>⟨f,first,captured,h1,h2,N9.mono hm fun _ _ ⟨x,h1,h2⟩=>⟨x,h1,hq _ _ h2⟩⟩⟩
instance(s:Slc)(lo hi mx:Option Int)(size:Nat):S7 (HM.slice s lo hi mx size):=⟨fun _ _ _ hq ⟨l,hh,m,h1,h2,h3,h4⟩=>⟨l,hh,m,h1,h2,h3,hq _ _ h4⟩⟩
instance(s:B1q)(lo hi:Option Int):S7 (r7 s lo hi):=⟨fun _ _ _ hq ⟨l,hh,h1,h2,h4⟩=>⟨l,hh,h1,h2,hq _ _ h4⟩⟩
instance(elem:TypeId)(size bytes:Nat)(zero:C3D)(s:Slc)(n:Nat)(src:Heap→C3D→Prop):S7 (HM.append elem size bytes zero s n src):=⟨fun h Q1 Q2 hq hm=>by
 refine⟨fun hc=>?_,fun hc=>?_⟩
 ·obtain⟨vs,h1,h2⟩:=hm.1 hc
  refine⟨vs,h1,?_⟩
  cases hs:s.a with
  |none=>rw[hs] at h2;exact hq _ _ h2
  |some a=>rw[hs] at h2;exact⟨h2.1,hq _ _ h2.2⟩
 ·obtain⟨h1,h2,old,vs,h3,h4,h5⟩:=hm.2 hc
  exact⟨h1,h2,old,vs,h3,h4,fun c hc eR=>hq _ _ (h5 c hc eR)⟩⟩
instance(elem:TypeId)(bytes:Nat)(zero:C3D)(n c:Int):S7 (HM.makeSlice elem bytes zero n c):=⟨fun _ _ _ hq ⟨h1,h2,h3,h4,h5⟩=>⟨h1,h2,h3,h4,hq _ _ h5⟩⟩
instance(d:Slc)(n:Nat)(src:Nat→Heap→C3D→Prop):S7 (C0n d n src):=⟨fun h Q1 Q2 hq ⟨vs,h1,h2⟩=>by
 refine⟨vs,h1,?_⟩
 cases hs:d.a with
 |none=>rw[hs] at h2;exact hq _ _ h2
 |some a=>rw[hs] at h2;exact⟨h2.1,hq _ _ h2.2⟩⟩
instance(kd:k4)(zero:Value)(k:Kind)(r:Option Nat)(key:Value):S7 (α:=no_index (Kind.ty k×Bool)) (HM.lookup kd zero k r key):=⟨fun _ _ _ hq ⟨es,c,o,x,h1,h2,h3,h4⟩=>⟨es,c,o,x,h1,h2,h3,hq _ _ h4⟩⟩
instance(kd:k4)(r:Option Nat)(key val:Value):S7 (B6q kd r key val):=⟨fun h Q1 Q2 hq ⟨b,es,c,o,h1,h2,h3,h4⟩=>by
 refine⟨b,es,c,o,h1,h2,h3,?_⟩
 cases o with
 |none=>exact hq _ _ h4
 |some o=>exact⟨h4.1,h4.2.1,hq _ _ h4.2.2⟩⟩
instance(kd:k4)(r:Option Nat)(key:Value):S7 (B6p kd r key):=⟨fun h Q1 Q2 hq hm=>by
 cases r with
 |none=>exact hq _ _ hm
 |some b=>
  obtain⟨es,c,o,h1,h2,h3⟩:=hm
  refine⟨es,c,o,h1,h2,?_⟩
  cases o with
  |none=>exact hq _ _ h3
  |some o=>exact hq _ _ h3⟩
instance(zero:C3D)(s:Slc):S7 (B9l zero s):=⟨fun h Q1 Q2 hq hm=>by
 unfold B9l at hm⊢
 cases ha:s.a with
 |none=>simp only[ha] at hm⊢;exact hq _ _ hm
 |some a=>
  simp only[ha] at hm⊢
  by_cases hn:s.len=0
  ·rw[if_pos hn] at hm⊢;exact hq _ _ hm
  ·rw[if_neg hn] at hm⊢;exact⟨hm.1,hq _ _ hm.2⟩⟩
instance(r:Option Nat):S7 (B9k r):=⟨fun h Q1 Q2 hq hm=>by
 cases r with
 |none=>exact hq _ _ hm
 |some r=>obtain⟨es,c,h1,h2⟩:=hm;exact⟨es,c,h1,hq _ _ h2⟩⟩
instance(r:Option Nat):S7 (B4n r):=⟨fun h Q1 Q2 hq hm=>by
 cases r with
 |none=>exact hq _ _ hm
 |some r=>obtain⟨es,c,h1,h2⟩:=hm;exact⟨es,c,h1,hq _ _ h2⟩⟩
instance(b:Nat):S7 (C0J b):=⟨fun h Q1 Q2 hq ⟨s,p,h1,h2,h3⟩=>⟨s,p,h1,fun hp=>hq _ _ (h2 hp),fun hp=>hq _ _ (h3 hp)⟩⟩
instance(b:Nat):S7 (B4m b):=⟨fun h Q1 Q2 hq ⟨m,since,seen,last,h1,h2⟩=>⟨m,since,seen,last,h1,by
 cases m with
 |none=>exact hq _ _ h2
 |some m=>
  obtain⟨es,c,h3,h4,h5,h6⟩:=h2
  exact⟨es,c,h3,h4,fun hh=>hq _ _ (h5 hh),fun e he hs=>hq _ _ (h6 e he hs)⟩⟩⟩
instance(kk kv:Kind)(b:Nat):S7 (α:=no_index (Kind.ty kk×Kind.ty kv)) (B6o kk kv b):=⟨fun h Q1 Q2 hq ⟨m,since,seen,stepped,es,stamp,e,k,v,h1,h2,h3,h4,h5,h6,h7⟩=>⟨m,since,seen,stepped,es,stamp,e,k,v,h1,h2,h3,h4,h5,h6,hq _ _ h7⟩⟩
instance(kd:k4)(zero:Value)(k:Kind)(r:Option Nat)(key:Value):S7 (α:=no_index (Kind.ty k×Int)) (HM.mapEntry kd zero k r key):=⟨fun h Q1 Q2 hq ⟨b,es,c,o,h1,h2,h3,h4⟩=>⟨b,es,c,o,h1,h2,h3,by
 cases o with
 |none=>obtain⟨x,h5,h6⟩:=h4;exact⟨x,h5,hq _ _ h6⟩
 |some p=>obtain⟨h7,h8,x,h5,h6⟩:=h4;exact⟨h7,h8,x,h5,hq _ _ h6⟩⟩⟩
instance(r:Option Nat)(st:Int)(v:Value):S7 (HM.entryStore r st v):=⟨fun h Q1 Q2 hq ⟨b,es,c,i,h1,h2,h3,h4⟩=>⟨b,es,c,i,h1,h2,h3,hq _ _ h4⟩⟩
instance C2w(o:Option α)(a:HM β)(f:α→HM β)[ha:S7 a][hf:∀x,S7 (f x)]:S7 (A3c o a f):=⟨fun h Q1 Q2 hq hm=>by
 cases o with
 |none=>exact ha.mono _ _ _ hq hm
 |some x=>exact(hf x).mono _ _ _ hq hm⟩
instance(s:Slc):S7 (y8 s):=⟨fun _ _ _ hq ⟨ns,h1,h2⟩=>⟨ns,h1,hq _ _ h2⟩⟩
instance(r:Option Nat):S7 (B9m r):=⟨fun _ _ _ hq ⟨es,c,h1,h2⟩=>⟨es,c,h1,hq _ _ h2⟩⟩
theorem B93{γ:Type}{body:σ→HM (σ⊕τ)}{s:σ}{h:Heap}{Q:τ→Heap→Prop}[hb:∀s,S7 (body s)](I:γ→σ→Heap→Prop)(μ:γ→Nat)(g:γ)(h0:I g s h)
  (hr:∀g s h,I g s h→body s h fun r h'=>match r with
   |.inl s'=>∃g',μ g'<μ g∧I g' s' h'
   |.inr t=>Q t h'):HM.loop body s h Q:=by
 refine B5b (fun n s h=>∃g,μ g=n∧I g s h) (n:=μ g) ⟨g,rfl,h0⟩ ?_ (fun s h _ _ hq hm=>(hb s).mono h _ _ hq hm)
 rintro n s h ⟨g,rfl,hi⟩
 refine(hb s).mono h _ _ ?_ (hr g s h hi)
 intro r h' hx
 cases r with
 |inr t=>exact hx
 |inl s'=>
  obtain⟨g',h1,h2⟩:=hx
  exact⟨_,h1,g',rfl,h2⟩
def Next{γ σ:Type}(I:γ→σ→Heap→Prop)(μ:γ→Nat)(g:γ)(s:σ)(h:Heap):Prop:=∃g',μ g'<μ g∧I g' s h
theorem Next.mk{γ σ:Type}{I:γ→σ→Heap→Prop}{μ:γ→Nat}{g:γ}{s:σ}{h:Heap}(g':γ)(h1:μ g'<μ g)(h2:I g' s h):Next I μ g s h:=⟨g',h1,h2⟩
theorem Y0{γ:Type}{body:σ→HM (σ⊕τ)}{s:σ}{h:Heap}{Q:τ→Heap→Prop}[hb:∀s,S7 (body s)](I:γ→σ→Heap→Prop)(μ:γ→Nat)(g:γ)(h0:I g s h)
  (hr:∀g s h,I g s h→body s h fun r h'=>match r with
   |.inl s'=>Next I μ g s' h'
   |.inr t=>Q t h'):HM.loop body s h Q:=B93 I μ g h0 hr
end
theorem N8{α β:Type}{m:HM α}[hm:S7 m]{f:α→HM β}{h:Heap}{Q:β→Heap→Prop}(P:α→Heap→Prop)(h1:m h P)(h2:∀a h',P a h'→f a h' Q):(m.bind f) h Q:=
 hm.mono h P _ h2 h1
end
section
open Go.MapKept (Stamped)
section
variable {K V:Type}
def m9(ek:K→Value)(ev:V→Value)(l:List (K×V))(es:List MapEntry):Prop:=es.map (fun e=>(e.key,e.val))=l.map (fun p=>(ek p.1,ev p.2))
structure ItF(ek:K→Value)(ev:V→Value)(l done todo:List (K×V))(es:Array MapEntry)(clock:Nat)(seen:Array Nat)(des tes:List MapEntry):Prop where
 cM:Z2 ek ev l es.toList
 stamped:Stamped es clock
 perm:(des++tes).Perm es.toList
 seen:seen.toList=des.map (·.born)
 done:m9 ek ev done des
 todo:m9 ek ev todo tes
def itA(ek:K→Value)(ev:V→Value)(m:Nat)(l:List (K×V))(it:Nat)(done todo:List (K×V)):Asn:=
 exA fun x:Array MapEntry×Nat×Array Nat×List MapEntry×List MapEntry=>
  star (pr (ItF ek ev l done todo x.1 x.2.1 x.2.2.1 x.2.2.2.1 x.2.2.2.2)) (star (blk it (.mapIter (some m) x.2.1 x.2.2.1 x.2.1)) (blk m (.map x.1 x.2.1)))
variable {h:Heap} {R:List Asn} {ek:K→Value} {ev:V→Value} {m it:Nat} {l done todo:List (K×V)}
theorem A3u:sat h (itA ek ev m l it done todo::R)↔∃es clock seen des tes,ItF ek ev l done todo es clock seen des tes∧sat h (blk it (.mapIter (some m) clock seen clock)::blk m (.map es clock)::R):=by
 unfold itA
 rw[sat.bC]
 constructor
 ·rintro⟨⟨es,c,s,d,t⟩,hs⟩
  rw[sat.aH,sat.aN,sat.aH] at hs
  exact⟨es,c,s,d,t,hs⟩
 ·rintro⟨es,c,s,d,t,hs⟩
  exact⟨(es,c,s,d,t),by rw[sat.aH,sat.aN,sat.aH];exact hs⟩
theorem B6T{Q:Nat→Heap→Prop}(hs:sat h (mapA ek ev m l::R))(hq:∀it h',sat h' (itA ek ev m l it [] l::R)→Q it h'):B4n (some m) h Q:=by
 obtain⟨es,c,⟨he,aM⟩,hs⟩:=T7.1 hs
 refine⟨es,c,hs.get,?_⟩
 refine hq _ _ (A3u.2 ⟨es,c,#[],[],es.toList,⟨he,aM,by simp,rfl,rfl,he⟩,?_⟩)
 exact hs.push
theorem A3t(hs:sat h (itA ek ev m l it done todo::R)):sat h (mapA ek ev m l::R):=by
 obtain⟨es,c,s,d,t,hf,hs⟩:=A3u.1 hs
 exact T7.2 ⟨es,c,⟨hf.cM,hf.stamped⟩,hs.drop⟩
theorem A46{Q:Option (Value×Value)→Heap→Prop}(hs:sat h (itA ek ev m l it done todo::R))(h0:todo=[]→Q none h)
  (h1:∀(p:K×V) (t1 t2:List (K×V)),todo=t1++p::t2→∀h',sat h' (itA ek ev m l it (done++[p]) (t1++t2)::R)→Q (some (ek p.1,ev p.2)) h'):B4m it h Q:=by
 obtain⟨es,c,seen,des,tes,hf,hs⟩:=A3u.1 hs
 have dN:∀e∈es,e.born<c:=fun e he=>hf.stamped.1 e (by simpa using he)
 have fB:(es.toList.map (·.born)).Nodup:=hf.stamped.2.1
 have fA:((des++tes).map (·.born)).Nodup:=(hf.perm.map (·.born)).nodup_iff.2 fB
 rw[C7,List.nodup_append] at fA
 have an:∀e:MapEntry,e∈es↔e∈des∨e∈tes:=fun e=>by
  rw[←Array.mem_toList_iff,←hf.perm.mem_iff,J7]
 have df:∀b,seen.contains b=true↔b∈des.map (·.born):=fun b=>by
  rw[←hf.seen];simp
 have gV:∀e∈es,seen.contains e.born=false→e∈tes:=fun e he hc=>by
  rcases(an e).1 he with hd|ht
  ·exact absurd ((df e.born).2 (D6 hd)) (by rw[hc];simp)
  ·exact ht
 refine⟨some m,c,seen,c,hs.get,es,c,hs.p1.get,?_,fun ak=>?_,fun e he hc=>?_⟩
 ·by_cases hz:es.isEmpty=true
  ·simp[hz]
  ·have bh:es≠#[]:=by simpa using hz
   obtain⟨e,he⟩:∃e,e∈es:=⟨es[0]'(Array.size_pos_iff.2 bh),Array.getElem_mem _⟩
   have af:=dN e he
   have:es.all (fun e=>decide (e.born≥c))=false:=by
    cases hh:es.all (fun e=>decide (e.born≥c)) with
    |false=>rfl
    |true=>
     rw[Array.all_eq_true_iff_forall_mem] at hh
     have:=hh e he
     simp at this
     omega
   simp[this]
 ·
  refine h0 ?_
  have:tes=[]:=by
   cases tes with
   |nil=>rfl
   |cons e t=>
    have he:e∈es:=(an e).2 (.inr (B7 ..))
    have ib:seen.contains e.born=false:=by
     cases hh:seen.contains e.born with
     |false=>rfl
     |true=>
      exact absurd rfl (fA.2.2 e.born ((df _).1 hh) e.born (by simp))
    have:=ak e he ib
    have:=dN e he
    omega
  have ht:=hf.todo
  rw[this] at ht
  simp only[m9,I8] at ht
  exact List.map_eq_nil_iff.1 ht.symm
 ·have ht:=gV e he hc
  obtain⟨t1,t2,rfl⟩:=List.append_of_mem ht
  have jk:=hf.todo
  simp only[m9,C7,B6] at jk
  obtain⟨l1,pQ,e1,e2,e3⟩:=List.map_eq_append_iff.1 jk.symm
  obtain⟨p,l2,e4,e5,e6⟩:=List.map_eq_cons_iff.1 e3
  subst e4
  have kA:(ek p.1,ev p.2)=(e.key,e.val):=e5
  obtain⟨k1,k2⟩:=Prod.mk.inj kA
  rw[←k1,←k2]
  have af:=hs.lt
  refine h1 p l1 l2 e1 _ (A3u.2 ⟨es,c,seen.push e.born,des++[e],t1++t2,⟨hf.cM,hf.stamped,?_,?_,?_,?_⟩,?_⟩)
  ·refine List.Perm.trans ?_ hf.perm
   rw[F1]
   refine List.Perm.append_left des ?_
   show(e::(t1++t2)).Perm _
   exact List.perm_middle.symm
  ·simp[hf.seen]
  ·simp only[m9,C7,B6,I8]
   rw[hf.done,kA]
  ·simp only[m9,C7]
   rw[e2,e6]
  ·exact hs.bU (o':=.mapIter (some m) c (seen.push e.born) c) (by simp[af]) (fun k hk=>by rw[D2,if_neg (fun e=>hk e.symm)])
theorem A6m{kk kv:Kind}{p:K×V}{x:kk.ty}{y:kv.ty}{Q:kk.ty×kv.ty→Heap→Prop}(hk:ek p.1=kk.val x)(hv:ev p.2=kv.val y)
  (hs:sat h (itA ek ev m l it (done++[p]) todo::R))(hq:Q (x,y) h):B6o kk kv it h Q:=by
 obtain⟨es,c,seen,des,tes,hf,hs⟩:=A3u.1 hs
 have hd:=hf.done
 simp only[m9,C7,B6,I8] at hd
 obtain⟨d1,tc,e1,e2,e3⟩:=List.map_eq_append_iff.1 hd
 obtain⟨e,d2,e4,e5,e6⟩:=List.map_eq_cons_iff.1 e3
 have:d2=[]:=List.map_eq_nil_iff.1 e6
 subst this e4 e1
 obtain⟨k1,k2⟩:=Prod.mk.inj e5
 have fB:(es.toList.map (·.born)).Nodup:=hf.stamped.2.1
 have nD:e∈es.toList:=hf.perm.mem_iff.1 (by simp)
 have jP:es.find? (fun x=>x.born==e.born)=some e:=by
  rw[←Array.find?_toList]
  obtain⟨a,b,gR⟩:=List.append_of_mem nD
  rw[gR]
  rw[gR,C7,B6,List.nodup_append] at fB
  rw[List.find?_append]
  have:a.find? (fun x=>x.born==e.born)=none:=by
   rw[List.find?_eq_none]
   intro x hx
   have:=fB.2.2 x.born (D6 hx) e.born (by simp)
   simpa using this
  rw[this]
  simp
 have dO:seen.back?=some e.born:=by
  have oB:=hf.seen
  rw[C7,B6,I8] at oB
  rw[←Array.getLast?_toList,oB]
  simp
 exact⟨m,c,seen,c,es,e.born,e,x,y,hs.get,dO,hs.p1.get,jP,k1.trans hk,k2.trans hv,hq⟩
end
@[simp] theorem C2s {α β:Type} (a:HM β) (f:α→HM β) {h:Heap} {Q:β→Heap→Prop}:A3c none a f h Q=a h Q:=rfl
@[simp] theorem C2r {α β:Type} (x:α) (a:HM β) (f:α→HM β) {h:Heap} {Q:β→Heap→Prop}:A3c (some x) a f h Q=f x h Q:=rfl
section
variable {α:Type} {f:α→Asn} {h:Heap} {R:List Asn}
end
theorem B4Y{L L':List Asn}(hp:L.Perm L'):∀m,v7 L m→v7 L' m:=by
 induction hp with
 |nil=>exact fun _ h=>h
 |cons x _ ih=>exact fun m h=>X4 (fun _ h=>h) ih h
 |swap x y l=>exact fun m h=>A1x h
 |trans _ _ pS pR=>exact fun m h=>pR m (pS m h)
theorem sat.perm{h:Heap}{L L':List Asn}(hp:L.Perm L')(hs:sat h L):sat h L':=
 let⟨m,h1,h2⟩:=hs
 ⟨m,h1,B4Y hp m h2⟩
theorem sat.dC{h:Heap}{R:List Asn}:∀(n:Nat),sat h R→sat h (List.replicate n (pr True)++R)
 |0,hs=>hs
 |n+1,hs=>sat.aN.2 ⟨trivial,sat.dC n hs⟩
theorem sat.re{h:Heap}{L:List Asn}(hs:sat h L)(idx:List Nat)(hi:idx.isPerm (List.range idx.length)=true:=by rfl):
  sat h (idx.map (fun i=>L.getD i (pr True))++L.drop idx.length):=by
 have h1:(idx.map (fun i=>L.getD i (pr True))).Perm ((List.range idx.length).map (fun i=>L.getD i (pr True))):=(List.isPerm_iff.1 hi).map _
 refine sat.perm (h1.symm.append_right _) ?_
 generalize idx.length=n
 clear h1 hi
 by_cases hn:n≤L.length
 ·have e:(List.range n).map (fun i=>L.getD i (pr True))=L.take n:=by
   refine List.ext_getElem (by simp;omega) fun i h2 h3=>?_
   simp at h2 h3
   simp[B2 (show i<L.length by omega)]
  rw[e,List.take_append_drop]
  exact hs
 ·rw[H5 (by omega),I3]
  have e:(List.range n).map (fun i=>L.getD i (pr True))=L++List.replicate (n-L.length) (pr True):=by
   refine List.ext_getElem? fun i=>?_
   rw[List.getElem?_append]
   by_cases h2:i<L.length
   ·simp[h2,show i<n by omega]
   ·by_cases h3:i<n
    ·simp[h2,h3,List.getElem?_replicate,show i-L.length<n-L.length by omega,List.getElem?_eq_none (show L.length≤i by omega)]
    ·simp[h2,h3,List.getElem?_replicate]
     omega
  rw[e]
  exact(sat.dC _ hs).perm List.perm_append_comm
section
variable {K V:Type} [DecidableEq K]
end
end
section
open Go.RowKit
theorem B8X{w w':World}{R:List Asn}(hs:Q7 w w')(ho:sat w'.heap (old w.heap::R)):Below w.heap.size w w':=by
 refine⟨hs.os,hs.tape,hs.output,?_,fun k hk=>?_⟩
 ·rcases Nat.eq_zero_or_pos w.heap.size with h0|hp
  ·omega
  ·have hg:w.heap[w.heap.size-1]? =some w.heap[w.heap.size-1]:=D1 (by omega)
   have:=(B3.1 (ho.bJ hg)).1
   omega
 ·rw[ho.bJ (D1 hk),D1 hk]
theorem walk_of{P:Program}{f:FuncId}{args:C3D}{w:World}{v:Value}
  (hc:N9 P f args w.heap fun v' h'=>v'=v∧∃R,sat h' (old w.heap::R)):Calls P f args w fun e w'=>e=.returned v∧Below w.heap.size w w':=
 (hc w rfl).mono fun e w' ⟨_,he,hs,hv,R,ho⟩=>⟨by rw[he,hv],B8X hs ho⟩
def P6{α:Type}(enc:α→C3E)(size:Nat)(h0:Heap)(s:Slc)(xs:List α):Prop:=
 s.len=xs.length∧s.len≤s.cap∧∀(i:Nat) x,xs[i]? =some x→∃a,s.a=some a∧∀j v,(enc x)[j]? =some v→O5 h0 ((a.add (i*size)).add j)=some v
section
variable {α β:Type} {enc:α→C3E} {size:Nat} {h0 h:Heap} {s:Slc} {xs:List α}
theorem A0U(hr:P6 enc size h0 s xs){i:Nat}{x:α}(hx:xs[i]? =some x){Q:Addr→Heap→Prop}
  (hq:∀a,(∀j v,(enc x)[j]? =some v→O5 h0 (a.add j)=some v)→Q a h):r8 s.a s.len (i:Int) size h Q:=by
 obtain⟨a,ha,hc⟩:=hr.2.2 i x hx
 have af:=(C4.1 hx).1
 exact⟨a,ha,by omega,by have:=hr.1;omega,hq _ (by simpa using hc)⟩
theorem B6N(hr:P6 enc size h0 s xs){n:Nat}(hn:n≤xs.length){Q:Slc→Heap→Prop}
  (hq:∀s',P6 enc size h0 s' (xs.take n)→Q s' h):HM.slice s none (some (n:Int)) none size h Q:=by
 refine⟨0,n,s.cap,rfl,⟨rfl,by have:=hr.1;have:=hr.2.1;omega⟩,rfl,hq _ ⟨?_,?_,?_⟩⟩
 ·simp[P5];omega
 ·have:=hr.1;have:=hr.2.1;simp[P5];omega
 ·intro i x hx
  obtain⟨a,ha,hc⟩:=hr.2.2 i x (by
   rw[G9] at hx
   split at hx
   ·exact hx
   ·cases hx)
  refine⟨a,?_,hc⟩
  simp only[P5,ha]
  split
  ·rfl
  ·simp[add_zero]
end
end
section
theorem O8{n:Int}(h1: -9223372036854775808≤n)(h2:n≤9223372036854775807):IntKind.wrap .i64 n=n:=by
 simp[IntKind.wrap,IntKind.bits,IntKind.signed];omega
section
variable {h h':Heap} {A:Asn} {R:List Asn}
theorem sat.grow(hs:sat h R)(hg:∀(k:Nat) o,h[k]? =some o→h'[k]? =some o):sat h' R:=by
 obtain⟨m,h1,h2⟩:=hs
 exact⟨m,fun k o ho=>hg k o (h1 k o ho),h2⟩
theorem sat.came(hs:sat h R)(hg:∀(k:Nat) o,h[k]? =some o→h'[k]? =some o){b:Nat}{o:Obj}(hb:h.size≤b)(ho:h'[b]? =some o):sat h' (blk b o::R):=by
 obtain⟨m,h1,h2⟩:=hs
 have hm:m b=none:=by
  cases hx:m b with
  |none=>rfl
  |some x=>
   have:=(B3.1 (h1 _ _ hx)).1
   omega
 refine⟨PH.join (fun k=>if k=b then some o else none) m,A8G (fun k x hx=>?_) (fun k x hx=>hg k x (h1 k x hx)),_,m,fun k=>?_,rfl,by simp[blk],h2⟩
 ·have cr:(if k=b then some o else none)=some x:=hx
  split at cr
  ·rename_i e;subst e;cases cr;exact ho
  ·cases cr
 ·by_cases e:k=b
  ·subst e;exact .inr hm
  ·exact .inl (by simp[e])
theorem sat.cP(hs:sat h R)(hg:∀(k:Nat) o,h[k]? =some o→h'[k]? =some o){b:Nat}{cs:C3D}{T:TypeId}(hb:h.size≤b)(ho:h'[b]? =some (.cells cs T (0,0))):sat h' (cells b cs::R):=
 T9.2 ⟨T,hs.came hg hb ho⟩
theorem A7h{P:Program}{f:FuncId}{args:C3D}{v:Value}{Q:Value→Heap→Prop}(hs:sat h R)
  (hc:∀w,w.heap=h→Calls P f args w fun e w'=>e=.returned v∧Go.RowKit.Below w.heap.size w w')(hq:∀h',sat h' R→Q v h'):N9 P f args h Q:=by
 intro w hw
 refine(hc w hw).mono ?_
 rintro e w' ⟨rfl,hb⟩
 refine⟨v,rfl,⟨hb.os,hb.tape,hb.output⟩,hq _ (hs.grow fun k o ho=>?_)⟩
 rw[hb.block k (by rw[hw];exact(B3.1 ho).1),hw]
 exact ho
end
section
variable {α:Type} {enc:α→C3E} {size:Nat} {h h0 h':Heap} {s:Slc} {xs:List α} {R:List Asn}
theorem P6.mono(hr:P6 enc size h0 s xs)(hc:∀a v,O5 h0 a=some v→O5 h a=some v):P6 enc size h s xs:=
 ⟨hr.1,hr.2.1,fun i x hx=>by
  obtain⟨a,ha,hx⟩:=hr.2.2 i x hx
  exact⟨a,ha,fun j v hv=>hc _ _ (hx j v hv)⟩⟩
theorem P6.old(hr:P6 enc size h0 s xs)(hs:sat h (old h0::R)):P6 enc size h s xs:=hr.mono fun _ _ hc=>hs.aU hc
end
structure B9e{α:Type}(enc:α→C3E)(size:Nat)(s:Slc)(xs:List α)(b o:Nat)(cs:C3D):Prop where
 a:s.a=some ⟨b,o*size,none⟩
 le:s.len≤s.cap
 len:s.len=xs.length
 bQ:(o+s.cap)*size≤cs.size
 front:(cs.toList.drop (o*size)).take (s.len*size)=xs.flatMap enc
def N4{α:Type}(enc:α→C3E)(size:Nat)(s:Slc)(xs:List α):Asn:=fun m=>
 (s.len=0∧s.cap=0∧xs=[])∨exA (fun x:Nat×Nat×C3D=>star (pr (B9e enc size s xs x.1 x.2.1 x.2.2)) (cells x.1 x.2.2)) m
section
variable {α:Type} {enc:α→C3E} {size:Nat} {h:Heap} {s:Slc} {xs:List α} {R:List Asn}
theorem V1(hs:sat h (N4 enc size s xs::R)):(s.len=0∧s.cap=0∧xs=[]∧sat h R)∨∃b o cs,B9e enc size s xs b o cs∧sat h (cells b cs::R):=by
 obtain⟨m,h1,a,r,hd,rfl,ha,hr⟩:=id hs
 rcases ha with⟨h2,h3,h4⟩|ha
 ·exact .inl ⟨h2,h3,h4,hs.drop⟩
 ·have ah:sat h (exA (fun x:Nat×Nat×C3D=>star (pr (B9e enc size s xs x.1 x.2.1 x.2.2)) (cells x.1 x.2.2))::R):=⟨_,h1,a,r,hd,rfl,ha,hr⟩
  rw[sat.bC] at ah
  obtain⟨⟨b,o,cs⟩,ah⟩:=ah
  rw[sat.aH,sat.aN] at ah
  exact .inr ⟨b,o,cs,ah⟩
theorem j4{a:C3C}(hs:sat h R):sat h (N4 enc size ⟨a,0,0⟩ []::R):=by
 obtain⟨m,h1,h2⟩:=hs
 exact⟨m,h1,fun _=>none,m,fun k=>.inl rfl,by funext k;rfl,.inl ⟨rfl,rfl,rfl⟩,h2⟩
theorem A0z(hs:sat h R):sat h (N4 enc size ⟨none,0,0⟩ []::R):=j4 hs
theorem W8{b o:Nat}{cs:C3D}(ho:B9e enc size s xs b o cs)(hs:sat h (cells b cs::R)):sat h (N4 enc size s xs::R):=by
 have ah:sat h (exA (fun x:Nat×Nat×C3D=>star (pr (B9e enc size s xs x.1 x.2.1 x.2.2)) (cells x.1 x.2.2))::R):=by
  rw[sat.bC]
  refine⟨(b,o,cs),?_⟩
  rw[sat.aH,sat.aN]
  exact⟨ho,hs⟩
 exact ah.imp fun m hm=>.inr hm
theorem sat.own_len(hs:sat h (N4 enc size s xs::R)):s.len=xs.length:=by
 rcases V1 hs with⟨h1,h2,rfl,-⟩|⟨b,o,cs,ho,-⟩
 ·exact h1
 ·exact ho.len
theorem sat.own_le(hs:sat h (N4 enc size s xs::R)):s.len≤s.cap:=by
 rcases V1 hs with⟨h1,h2,rfl,-⟩|⟨b,o,cs,ho,-⟩
 ·omega
 ·exact ho.le
theorem B3Q(aj:∀x,(enc x).length=size):∀(xs:List α) (i:Nat) (x:α),xs[i]? =some x→∀j v,(enc x)[j]? =some v→(xs.flatMap enc)[i*size+j]? =some v
 |[],i,x,hx,_,_,_=>by simp at hx
 |y::xs,0,x,hx,j,v,hv=>by
  simp only[List.getElem?_cons_zero,C3] at hx
  subst hx
  rw[D4,I1,F5]
  have hj:=(C4.1 hv).1
  rw[List.getElem?_append_left hj]
  exact hv
 |y::xs,i+1,x,hx,j,v,hv=>by
  rw[List.getElem?_cons_succ] at hx
  rw[D4,List.getElem?_append_right (by rw[aj];rw[H3];omega),aj]
  rw[show(i+1)*size+j-size=i*size+j from by rw[H3];omega]
  exact B3Q aj xs i x hx j v hv
theorem U0(aj:∀x,(enc x).length=size)(xs:List α):(xs.flatMap enc).length=xs.length*size:=by
 induction xs with
 |nil=>simp
 |cons x xs ih=>rw[D4,D9,ih,aj,D8,H3];omega
theorem sat.aI(aj:∀x,(enc x).length=size)(hs:sat h (N4 enc size s xs::R)):P6 enc size h s xs:=by
 rcases V1 hs with⟨h1,h2,rfl,-⟩|⟨b,o,cs,ho,hs⟩
 ·exact⟨h1,by omega,fun i x hx=>by simp at hx⟩
 ·refine⟨ho.len,ho.le,fun i x hx=>⟨_,ho.a,fun j v hv=>?_⟩⟩
  rw[Addr.aO,Addr.aO,hs.cell]
  have h1:=B3Q aj xs i x hx j v hv
  rw[←ho.front,G9] at h1
  split at h1
  ·rw[I9] at h1
   rw[show o*size+i*size+j=o*size+(i*size+j) from by omega]
   simpa using h1
  ·cases h1
theorem B0B{lo hi:Nat}{mx:Option Int}{Q:Slc→Heap→Prop}{ol oh:Option Int}(hs:sat h (N4 enc size s xs::R))(aj:∀x,(enc x).length=size)
  (h1:lo≤hi)(h2:hi≤xs.length)(e1:b6 ol (lo=0) lo hi)(e2:b6 oh (hi=s.len) hi s.cap)
  (hq:∀s',sat h (N4 enc size s' ((xs.take hi).drop lo)::R)→Q s' h):HM.slice s ol oh none size h Q:=by
 have hl:=hs.own_len
 have hc:=hs.own_le
 refine⟨lo,hi,s.cap,rfl,?_,e1,hq _ ?_⟩
 ·cases oh with
  |none=>exact⟨rfl,e2⟩
  |some x=>exact e2
 rcases V1 hs with⟨g1,g2,rfl,aa⟩|⟨b,o,cs,ho,aa⟩
 ·have:hi=0:=by simpa using h2
  subst this
  have:lo=0:=by omega
  subst this
  simp only[P5,g2,if_true,List.take_nil,List.drop_nil,L8]
  exact j4 aa
 ·by_cases hm:s.cap=lo
  ·have e0:lo=xs.length:=by omega
   simp only[P5,hm,if_true,L8]
   rw[H5 (by simp;omega),show hi-lo=0 from by omega]
   exact j4 hs.drop
  ·refine W8 (b:=b) (o:=o+lo) (cs:=cs) ⟨?_,?_,?_,?_,?_⟩ aa
   ·simp only[P5,if_neg hm,ho.a,F3,Addr.aO,G0]
   ·simp only[P5];omega
   ·simp only[P5,M3,E2];omega
   ·simp only[P5]
    rw[show o+lo+(s.cap-lo)=o+s.cap from by omega]
    exact ho.bQ
   ·simp only[P5]
    have hf:=ho.front
    have e3:((xs.take hi).drop lo).flatMap enc=((xs.flatMap enc).take (hi*size)).drop (lo*size):=by
     have key:∀(l:List α) (n:Nat),(l.flatMap enc).take (n*size)=(l.take n).flatMap enc∧(l.flatMap enc).drop (n*size)=(l.drop n).flatMap enc:=by
      intro l
      induction l with
      |nil=>intro n;simp
      |cons x l ih=>
       intro n
       cases n with
       |zero=>simp
       |succ n=>
        have hx:=aj x
        rw[D4,H3,List.take_succ_cons,List.drop_succ_cons,D4]
        refine⟨?_,?_⟩
        ·rw[List.take_append,hx,D7 (by omega),show n*size+size-size=n*size from by omega,(ih n).1]
        ·rw[List.drop_append,hx,H5 (by omega),show n*size+size-size=n*size from by omega,(ih n).2,G2]
     rw[(key xs hi).1,(key (xs.take hi) lo).2]
    rw[e3,←hf]
    rw[List.take_take,Nat.min_eq_left (F9 _ (by omega:hi≤s.len)),List.drop_take,List.drop_drop,G0,←Nat.sub_mul]
theorem sat.setCells{b:Nat}:∀(vs:C3E) (cs:C3D) (o i:Nat) {h:Heap} {R:List Asn},sat h (cells b cs::R)→o+i+vs.length≤cs.size→
  ∃cs':C3D,cs'.size=cs.size∧cs'.toList=cs.toList.take (o+i)++vs++cs.toList.drop (o+i+vs.length)∧sat (S8 h ⟨b,o,none⟩ vs i) (cells b cs'::R)
 |[],cs,o,i,h,R,hs,hl=>⟨cs,rfl,by simp,hs⟩
 |v::vs,cs,o,i,h,R,hs,hl=>by
  simp only[D8] at hl
  have h1:=hs.set (o+i) v
  obtain⟨cs',e1,e2,h2⟩:=sat.setCells vs (cs.setIfInBounds (o+i) v) o (i+1) h1 (by simp;omega)
  refine⟨cs',by simpa using e1,?_,by simpa[S8] using h2⟩
  rw[e2,H4]
  have hlen:o+i<cs.toList.length:=by simp;omega
  rw[show o+(i+1)=(o+i)+1 from by omega,E4 (by simpa using hlen)]
  rw[List.getElem_set_self,List.take_set_of_le (B5 _),List.drop_set_of_lt (by omega)]
  simp only[D8,F1,G3,G2]
  rw[show o+i+1+vs.length=o+i+(vs.length+1) from by omega]
theorem A0l{b:Nat}{cs:C3D}{o:Nat}{vs:C3E}(hs:sat h (cells b cs::R))(hl:o+vs.length≤cs.size)(hv:∀v∈vs,v.oneCell'=true):
  ∀(i:Nat) v,vs[i]? =some v→(O5 h (Addr.add ⟨b,o,none⟩ i)).isSome=true∧V5 h (Addr.add ⟨b,o,none⟩ i)=false∧v.oneCell'=true:=by
 intro i v hi
 have af:=(C4.1 hi).1
 rw[Addr.aO]
 refine⟨?_,hs.free _,hv v (E5 hi)⟩
 rw[hs.cell]
 simp
 omega
theorem A1X(aj:∀x,(enc x).length=size)(ew:∀x,∀v∈enc x,v.oneCell'=true){elem:TypeId}{bytes n:Nat}{zero:C3D}(hz:zero.size=size){src:Heap→C3D→Prop}{ys:List α}{Q:Slc→Heap→Prop}
  (hs:sat h (N4 enc size s xs::R))(hn:ys.length=n)(bW:src h (ys.flatMap enc).toArray)(ao:0<size)(db:0<bytes)(hb:(xs.length+n)*bytes≤140737488355328)
  (hq:∀s' h',sat h' (N4 enc size s' (xs++ys)::R)→Q s' h'):HM.append elem size bytes zero s n src h Q:=by
 have hl:=hs.own_len
 have nJ:xs.length+n≤140737488355328:=E3 (Nat.le_mul_of_pos_right _ db) hb
 constructor
 ·intro hc
  refine⟨_,bW,?_⟩
  rcases V1 hs with⟨g1,g2,rfl,aa⟩|⟨b,o,cs,ho,hs⟩
  ·have h0:n=0:=by omega
   subst h0
   have hy:ys=[]:=H9 hn
   subst hy
   obtain⟨sa,sl,sc⟩:=s
   simp only at g1 g2
   subst g1 g2
   cases sa with
   |none=>exact hq _ _ (j4 aa)
   |some a=>exact⟨fun i v hv=>by simp at hv,hq _ _ (j4 aa)⟩
  ·rw[ho.a]
   simp only[Addr.aO]
   have hlen:(o*size+s.len*size)+(ys.flatMap enc).length≤cs.size:=by
    refine E3 ?_ ho.bQ
    rw[U0 aj,hn,←G0,←G0]
    exact F9 _ (by omega)
   refine⟨?_,?_⟩
   ·have:=A0l (o:=o*size+s.len*size) (vs:=ys.flatMap enc) hs hlen (fun v hv=>by
     obtain⟨x,_,hx⟩:=List.mem_flatMap.1 hv
     exact ew x v hx)
    simpa using this
   ·obtain⟨cs',e1,e2,ah⟩:=sat.setCells (ys.flatMap enc) cs (o*size+s.len*size) 0 hs (by simpa using hlen)
    refine hq _ _ (W8 (b:=b) (o:=o) (cs:=cs') ⟨rfl,hc,by simp[ho.len,hn],by rw[e1];exact ho.bQ,?_⟩ (by simpa using ah))
    rw[e2]
    simp only[J8]
    have ae:cs.toList.length=cs.size:=by simp
    have d1:((cs.toList.take (o*size+s.len*size)++ys.flatMap enc++cs.toList.drop (o*size+s.len*size+(ys.flatMap enc).length)).drop (o*size))=
      xs.flatMap enc++ys.flatMap enc++cs.toList.drop (o*size+s.len*size+(ys.flatMap enc).length):=by
     rw[F1,List.drop_append_of_le_length (by rw[E2,ae];omega),List.drop_take,show o*size+s.len*size-o*size=s.len*size from by omega,ho.front,F1]
    rw[d1,J9]
    have e3:(s.len+n)*size=(xs.flatMap enc++ys.flatMap enc).length:=by
     rw[D9,U0 aj,U0 aj,G0,ho.len,hn]
    rw[e3,List.take_left']
    rfl
 ·intro hc
  refine⟨by omega,growslice_fits hc (by rw[hl];exact hb),?_⟩
  have jE:∀old:C3D,old.toList=xs.flatMap enc→∀c,s.len+n≤c→∀R',sat h R'→
    sat (h.push (.cells (old++(ys.flatMap enc).toArray++Builtin.zeroCells zero (c-(s.len+n))) elem)) (N4 enc size ⟨some ⟨h.size,0,none⟩,s.len+n,c⟩ (xs++ys)::R'):=by
   intro old hold c dg R' rr
   have ho:old.size=s.len*size:=by
    have:=congrArg List.length hold
    rw[U0 aj] at this
    simpa[hl] using this
   refine W8 (o:=0) ⟨by simp,dg,by simp[hl,hn],Nat.le_of_eq ?_,?_⟩ rr.aX
   ·simp only[F5,Array.size_append,ho,Builtin.zeroCells,Array.size_map,Array.size_range,hz,I2,U0 aj,hn]
    rw[←G0,←G0]
    congr 1
    omega
   ·simp only[I4,hold,J9,I1,K5]
    rw[List.take_append_of_le_length (by simp only[D9,U0 aj];rw[hl,G0,hn];exact B5 _)]
    rw[D7]
    simp only[D9,U0 aj]
    rw[hl,G0,hn]
    exact B5 _
  rcases V1 hs with⟨g1,g2,rfl,aa⟩|⟨b,o,cs,ho,hs⟩
  ·refine⟨#[],_,?_,bW,fun c dg _=>hq _ _ (jE #[] rfl c dg R aa)⟩
   rw[g1,I1]
   cases s.a with
   |none=>rfl
   |some a=>exact⟨rfl,fun i v hv=>by simp at hv⟩
  ·refine⟨(xs.flatMap enc).toArray,_,?_,bW,fun c dg _=>hq _ _ (jE _ (by simp) c dg R hs.drop)⟩
   simp only[A0x,ho.a]
   refine⟨by simp[U0 aj,ho.len],fun i v hi=>?_⟩
   rw[Addr.aO,hs.cell]
   have h1:(xs.flatMap enc)[i]? =some v:=by simpa using hi
   rw[←ho.front,G9] at h1
   split at h1
   ·rw[I9] at h1
    simpa using h1
   ·cases h1
theorem sat.reads{b:Nat}{cs:C3D}{n:Nat}(hs:sat h (cells b cs::R))(hn:cs.size=n):A0x h (some ⟨b,0,none⟩) n cs:=
 ⟨hn,fun i v hi=>by rw[Addr.aO,hs.cell,F5];exact hi⟩
theorem B2E(aj:∀x,(enc x).length=size)(ew:∀x,∀v∈enc x,v.oneCell'=true){elem T:TypeId}{bytes:Nat}{zero:C3D}(hz:zero.size=size){x:α}{Q:Slc→Heap→Prop}
  (hs:sat h (N4 enc size s xs::R))(ao:0<size)(db:0<bytes)(hb:(xs.length+1)*bytes≤140737488355328)
  (hq:∀s' h',sat h' (N4 enc size s' (xs++[x])::R)→Q s' h'):HM.new (.cells (enc x).toArray T) h fun b h'=>HM.append elem size bytes zero s 1 (P8 size ⟨some ⟨b,0,none⟩,1,1⟩) h' Q:=by
 refine U5 hs fun b h1 aa=>?_
 refine A1X aj ew hz (ys:=[x]) aa.p1 rfl ?_ ao db hb fun s' h2 ai=>hq s' h2 ai.p1.drop
 simp only[P8,Nat.one_mul,D4,List.flatMap_nil,I3]
 exact aa.reads (by simp[aj])
theorem B3G{ts:List Tag}{a:Addr}(x:Tup ts){Q:Tup ts→Heap→Prop}(hc:∀i v,(Tup.vals ts x)[i]? =some v→O5 h (a.add i)=some v)(hq:Q x h):N5 ts a h Q:=⟨x,hc,hq⟩
theorem O0(b i:Nat):(⟨b,0,none⟩:Addr).add i=⟨b,i,none⟩:=by
 cases i with
 |zero=>rfl
 |succ i=>simp[Addr.add]
theorem A63{b:Nat}{cs:C3D}{ts:List Tag}(x:Tup ts){Q:Tup ts→Heap→Prop}(hs:sat h (cells b cs::R))(he:cs=(Tup.vals ts x).toArray)(hq:Q x h):N5 ts ⟨b,0,none⟩ h Q:=by
 refine⟨x,fun i v hv=>?_,hq⟩
 have:=hs.cell i
 rw[he] at this
 have e:(⟨b,0,none⟩:Addr).add i=⟨b,i,none⟩:=by
  cases i with
  |zero=>rfl
  |succ i=>simp[Addr.add]
 rw[e,this]
 simpa using hv
theorem B4X{b:Nat}{cs:C3D}{vs:C3E}{Q:Unit→Heap→Prop}(hs:sat h (cells b cs::R))(hl:vs.length=cs.size)(hv:∀v∈vs,v.oneCell'=true)
  (hq:∀h',sat h' (cells b vs.toArray::R)→Q () h'):A0f ⟨b,0,none⟩ vs h Q:=by
 refine⟨A0l (o:=0) hs (by omega) hv,?_⟩
 obtain⟨cs',e1,e2,ah⟩:=sat.setCells vs cs 0 0 hs (by omega)
 have e3:cs'=vs.toArray:=by
  apply D3.1
  rw[e2]
  simp only[J8,F5,List.take_zero,G2]
  rw[H5 (by simp;omega)]
  simp
 subst e3
 exact hq _ ah
theorem A2q{b:Nat}{cs:C3D}{vs:C3E}{Q:Unit→Heap→Prop}(hs:sat h (cells b cs::R))(hl:vs.length=cs.size)(hv:vs.all (fun v=>v.oneCell')=true)
  (hq:∀h',sat h' (cells b vs.toArray::R)→Q () h'):A0f ⟨b,0,none⟩ vs h Q:=
 B4X hs hl (G6.1 hv) hq
end
abbrev eS(x:B1q):C3E:=[.string x]
end
end Go.H
namespace Go.R
open Go.H
theorem B57{α:Type}{p:Nat→α→Prop}:∀(n:Nat),(∀i,i<n→∃x,p i x)→∃xs:List α,xs.length=n∧∀(i:Nat) x,xs[i]? =some x→p i x
 |0,_=>⟨[],rfl,fun i x hx=>by simp at hx⟩
 |n+1,hp=>by
  obtain⟨xs,h1,h2⟩:=B57 n (fun i hi=>hp i (by omega))
  obtain⟨x,hx⟩:=hp n (by omega)
  refine⟨xs++[x],by simp[h1],fun i y hy=>?_⟩
  rw[List.getElem?_append] at hy
  split at hy
  ·exact h2 i y hy
  ·rename_i hi
   have h3:=(C4.1 hy).1
   simp only[D8,L9] at h3
   have fa:i=n:=by omega
   subst fa
   rw[h1,L8] at hy
   cases hy
   exact hx
structure OkLaw{H:Type}(P:Program)(ok:TypeId→DataW H→Prop)(top:Nat)(wt:TypeId→Nat):Prop where
 str:∀{t:TypeId} {bs:List UInt8},ok t (.lit (.string bs))→bs.length≤top
 elem:∀{t e:TypeId} {elems rest:List (DataW H)} {d:DataW H},P.underlying t=some (.slice e)→ok t (.slice elems rest)→d∈elems→ok e d
 cnt:∀{t e:TypeId} {elems rest:List (DataW H)},P.underlying t=some (.slice e)→ok t (.slice elems rest)→elems.length*wt e≤top
 field:∀{t:TypeId} {fs:Array Field} {parts:List (DataW H)} {j:Nat} {f:Field} {d:DataW H},P.underlying t=some (.struct fs)→ok t (.agg parts)→fs[j]? =some f→parts[j]? =some d→ok f.type d
 arr:∀{t e:TypeId} {n:Nat} {parts:List (DataW H)} {d:DataW H},P.underlying t=some (.array n e)→ok t (.agg parts)→d∈parts→ok e d
theorem okWide_agg{P:Program}{w:World}{t:TypeId}{fs:Array Field}{r:Reach}{b0:Nat}{v:Value}(ht:P.underlying t=some (.struct fs))(h:Value.okWide P w r b0 t v):∃cs,v=.agg cs:=by
 simp only[Value.okWide,ht] at h
 obtain⟨cs,h1,_⟩:=h
 exact⟨cs,h1⟩
structure C21{α:Type}(enc:α→C3E)(size wt top:Nat)(h:Heap)(bB:α→Prop)(x:Slc×List α):Prop where
 row:P6 enc size h x.1 x.2
 bB:∀y∈x.2,bB y
 cap:x.1.cap≤maxLen
 reach:x.2.length*wt≤top
section
variable {H:Type} (ec:TypeId×Value→H) (P:Program) (w:World) (base:Nat) (sp:Nat→Bool) (held:Bool) (ok:TypeId→DataW H→Prop)
def RdG{α:Type}(t:TypeId)(enc:α→C3E)(bB:α→Prop):Prop:=
 ∀fuel cs y,DataW.trod ec P w base sp held fuel t cs=some y→ok t y.1→∃x,cs=enc x∧bB x
def RdF{α:Type}(fs:List Field)(o n:Nat)(enc:α→C3E)(bB:α→Prop):Prop:=
 ∀fuel (cs:C3E) (xs:List (DataW H×List MemPlace)),cs.length=n→xs.length=fs.length→
  (∀(j:Nat) f,fs[j]? =some f→DataW.trod ec P w base sp held fuel f.type ((cs.drop f.offset).take (P.cellsOf f.type))=xs[j]?)→
  (∀(j:Nat) f d,fs[j]? =some f→xs[j]? =some d→ok f.type d.1)→∃x,cs.drop o=enc x∧bB x
end
section
variable {H:Type} {ec:TypeId×Value→H} {P:Program} {w:World} {base:Nat} {sp:Nat→Bool} {held:Bool} {ok:TypeId→DataW H→Prop} {top:Nat} {wt:TypeId→Nat}
theorem rg_map{α β:Type}{t:TypeId}{enc:α→C3E}{bB:α→Prop}{enc':β→C3E}{good':β→Prop}(f:α→β)
  (h:RdG ec P w base sp held ok t enc bB)(he:∀x,enc x=enc' (f x))(hg:∀x,bB x→good' (f x)):RdG ec P w base sp held ok t enc' good':=fun fuel cs y hy hw=>by
 obtain⟨x,h1,h2⟩:=h fuel cs y hy hw
 exact⟨f x,h1.trans (he x),hg x h2⟩
theorem rg_int{t:TypeId}{k:IntKind}(ht:P.underlying t=some (.int k)):RdG ec P w base sp held ok t (fun x:Int=>[.int k x]) (fun x=>(Lit.int k x).wf=true):=fun _ _ _ h _=>by
 obtain⟨n,h1,_,h2⟩:=DataW.trod_int ht h
 exact⟨n,h1,h2⟩
theorem rg_bool{t:TypeId}(ht:P.underlying t=some .bool):RdG ec P w base sp held ok t (fun x:Bool=>[.bool x]) (fun _=>True):=fun _ _ _ h _=>by
 obtain⟨n,h1,_⟩:=DataW.trod_bool ht h
 exact⟨n,h1,trivial⟩
theorem rg_str(hk:OkLaw P ok top wt){t:TypeId}(ht:P.underlying t=some .string):RdG ec P w base sp held ok t (fun x:B1q=>[.string x]) (fun x=>x.size≤top):=fun _ _ _ h hw=>by
 obtain⟨n,h1,rfl,h2⟩:=DataW.trod_string ht h
 refine⟨n,h1,?_⟩
 have:=hk.str hw
 rwa[F2] at this
theorem rg_slice(hk:OkLaw P ok top wt){α:Type}{t e:TypeId}{enc:α→C3E}{bB:α→Prop}(ht:P.underlying t=some (.slice e)){size k:Nat}(hc:P.cellsOf e=size)(hb:wt e=k)(he:RdG ec P w base sp held ok e enc bB):
  RdG ec P w base sp held ok t (fun x:Slc×List α=>[.slice x.1.a x.1.len x.1.cap]) (C21 enc size k top w.heap bB):=fun fuel cs y h hw=>by
 subst hc hb
 rcases DataW.trod_slice ht h with⟨rfl,_⟩|⟨a,len,cap,elems,rest,n,_,rfl,rfl,_,hl,hm,hlen,jS,_,_⟩
 ·exact⟨(⟨none,0,0⟩,[]),rfl,⟨rfl,B5 _,fun i x hx=>by simp at hx⟩,fun y hy=>by simp at hy,E9 _,by simp⟩
 ·have jh:∀i (hi:i<elems.length),ok e (elems[i]'hi).1:=fun i hi=>hk.elem ht hw (D6 (I6 hi))
  have ow:=hk.cnt ht hw
  have h1:∀i,i<len→∃x,bB x∧∀j v,(enc x)[j]? =some v→O5 w.heap ((a.add (i*P.cellsOf e)).add j)=some v:=by
   intro i hi
   have h2:=jS i hi
   rw[B2 (by omega),Option.bind_eq_some_iff] at h2
   obtain⟨cs',h3,h4⟩:=h2
   obtain⟨x,rfl,hg⟩:=he _ _ _ h4 (jh i (by omega))
   obtain⟨_,h5,h6⟩:=World.cells?_some h3
   refine⟨x,hg,fun j v hv=>?_⟩
   rw[←B2z,h6 j (by rw[←h5];exact(C4.1 hv).1)]
   exact hv
  obtain⟨xs,h2,h3⟩:=B57 len h1
  refine⟨(⟨some a,len,cap⟩,xs),rfl,⟨h2.symm,hl,fun i x hx=>⟨a,rfl,(h3 i x hx).2⟩⟩,fun y hy=>?_,hm,?_⟩
  ·obtain⟨i,hi⟩:=List.getElem?_of_mem hy
   exact(h3 i y hi).1
  ·simp only
   rw[C9] at ow
   rw[h2,←hlen]
   exact ow
theorem rf_cons{α β:Type}{f:Field}{fs:List Field}{o n:Nat}{c:Nat}{e0:α→C3E}{g0:α→Prop}{e1:β→C3E}{g1:β→Prop}(hc:P.cellsOf f.type=c)(ho:f.offset=o)
  (h0:RdG ec P w base sp held ok f.type e0 g0)(h1:RdF ec P w base sp held ok fs (o+c) n e1 g1):RdF ec P w base sp held ok (f::fs) o n (fun x:α×β=>e0 x.1++e1 x.2) (fun x=>g0 x.1∧g1 x.2):=fun fuel cs xs hl hx hf bz=>by
 subst hc ho
 cases xs with
 |nil=>simp at hx
 |cons y xs=>
  obtain⟨x0,c0,k0⟩:=h0 fuel _ y (hf 0 f rfl) (bz 0 f y rfl rfl)
  obtain⟨x1,c1,k1⟩:=h1 fuel cs xs hl (by simpa using hx) (fun j f' hj=>by have:=hf (j+1) f' (by simpa using hj);simpa using this) (fun j f' d hj hd=>bz (j+1) f' d (by simpa using hj) (by simpa using hd))
  refine⟨(x0,x1),?_,k0,k1⟩
  simp only[←c0,←c1]
  rw[←List.drop_drop,List.take_append_drop]
theorem rf_one{α:Type}{f:Field}{o n:Nat}{c:Nat}{e0:α→C3E}{g0:α→Prop}(hc:P.cellsOf f.type=c)(ho:f.offset=o)(hn:n≤o+c)
  (h0:RdG ec P w base sp held ok f.type e0 g0):RdF ec P w base sp held ok [f] o n e0 g0:=fun fuel cs xs hl hx hf bz=>by
 subst hc ho
 cases xs with
 |nil=>simp at hx
 |cons y xs=>
  obtain⟨x0,c0,k0⟩:=h0 fuel _ y (hf 0 f rfl) (bz 0 f y rfl rfl)
  refine⟨x0,?_,k0⟩
  rw[←c0,D7 (by rw[M3];omega)]
theorem rg_struct(hk:OkLaw P ok top wt){α:Type}{t:TypeId}{fs:Array Field}{n:Nat}{enc:α→C3E}{bB:α→Prop}(ht:P.underlying t=some (.struct fs))(hn:P.cellsOf t=n)(h:RdF ec P w base sp held ok fs.toList 0 n enc bB):
  RdG ec P w base sp held ok t enc bB:=fun fuel cs y hy hw=>by
 obtain⟨xs,m,_,rfl,hl,hx,hf⟩:=DataW.trod_struct ht hy
 obtain⟨x,h1,h2⟩:=h m cs xs (hl.trans hn) (by simpa using hx) (fun j f hj=>hf j f (by simpa using hj)) (fun j f d hj hd=>hk.field ht hw (by simpa using hj) (by rw[H6,hd];rfl))
 exact⟨x,by simpa using h1,h2⟩
end
end Go.R
namespace Go.Proofs
open Go.H
variable {H:Type} {enc:TypeId×Value→H}
end Go.Proofs
namespace Go.Proofs.YtmpgankhnfpoaaaGreatDoor
open Go.H
open Go.Proofs.Tryz
open Go.H Go.Proofs
theorem C0F{P:Program}{C:List Nat}{n:Nat}{live lc:List Nat}{f:FuncId}{fn:Func}{ks:List Kind}{args:C3E}{h:Heap}{Q:Value→Heap→Prop}{m:HM (R0 ks)}(hf:P.funcs[f]? =some fn)(hb:fn.body.isSome=true)(hn:fn.ntmps=n)(hlen:Nat.ble args.length n=true)
  (hC:∀f,f∈C→Q0 P f)(hm:P.follows .mixedOrders=true)(he:B8O P C n live lc fn.results.toList ks (A6t fn) args=m)(hd:m h fun x h'=>Q (packed ks x) h'):N9 P f args.toArray h Q:=
 A5A hf hb hn hlen hC hm (he▸hd)
theorem C1d:prog.follows .mixedOrders=true:=by kernel_rfl
def HCs{α:Type}(f:Nat)(args:C3D)(m:HM α)(k:α→Value):Prop:=∀(h:Heap) (Q:Value→Heap→Prop),(m h fun x h'=>Q (k x) h')→N9 prog f args h Q
theorem cE{C:List Nat}{n:Nat}{f:FuncId}{fn:Func}{args:C3E}(ks:List Kind){m:HM (R0 ks)}(live lc:List Nat)(hf:prog.funcs[f]? =some fn)(hn:fn.ntmps=n)(hC:∀f,f∈C→Q0 prog f)(he:B8O prog C n live lc fn.results.toList ks (A6t fn) args=m:=by kernel_rfl)(hb:fn.body.isSome=true:=by kernel_rfl)(hlen:Nat.ble args.length n=true:=by kernel_rfl):HCs f args.toArray m (packed ks):=fun h Q hd=>A5A hf hb hn hlen hC C1d (he▸hd)
theorem CN{P:Program}:∀f,f∈([]:List Nat)→Q0 P f:=fun f hf=>by cases hf
theorem CC{P:Program}{a:Nat}{l:List Nat}(h:Q0 P a)(hl:∀f,f∈l→Q0 P f):∀f,f∈a::l→Q0 P f:=fun f hf=>by
 rcases B9.1 hf with rfl|hf
 ·exact h
 ·exact hl f hf
abbrev tS0:List Tag:=[.int .i64,.bool,.bool,.int .i64,.int .i64,.str,.str,.int .i64,.slc,.slc,.str,.bool,.int .i64,.bool,.str,.str,.int .i64,.bool,.slc,.bool,.bool,.str,.str,.bool,.slc,.slc]
abbrev yS0:Type:=Int×Bool×Bool×Int×Int×B1q×B1q×Int×Slc×Slc×B1q×Bool×Int×Bool×B1q×B1q×Int×Bool×Slc×Bool×Bool×B1q×B1q×Bool×Slc×Slc×Unit
abbrev aS0(x:yS0):C3D:=#[.int .i64 x.1,.bool x.2.1,.bool x.2.2.1,.int .i64 x.2.2.2.1,.int .i64 x.2.2.2.2.1,.string x.2.2.2.2.2.1,.string x.2.2.2.2.2.2.1,.int .i64 x.2.2.2.2.2.2.2.1,.slice x.2.2.2.2.2.2.2.2.1.a x.2.2.2.2.2.2.2.2.1.len x.2.2.2.2.2.2.2.2.1.cap,.slice x.2.2.2.2.2.2.2.2.2.1.a x.2.2.2.2.2.2.2.2.2.1.len x.2.2.2.2.2.2.2.2.2.1.cap,.string x.2.2.2.2.2.2.2.2.2.2.1,.bool x.2.2.2.2.2.2.2.2.2.2.2.1,.int .i64 x.2.2.2.2.2.2.2.2.2.2.2.2.1,.bool x.2.2.2.2.2.2.2.2.2.2.2.2.2.1,.string x.2.2.2.2.2.2.2.2.2.2.2.2.2.2.1,.string x.2.2.2.2.2.2.2.2.2.2.2.2.2.2.2.1,.int .i64 x.2.2.2.2.2.2.2.2.2.2.2.2.2.2.2.2.1,.bool x.2.2.2.2.2.2.2.2.2.2.2.2.2.2.2.2.2.1,.slice x.2.2.2.2.2.2.2.2.2.2.2.2.2.2.2.2.2.2.1.a x.2.2.2.2.2.2.2.2.2.2.2.2.2.2.2.2.2.2.1.len x.2.2.2.2.2.2.2.2.2.2.2.2.2.2.2.2.2.2.1.cap,.bool x.2.2.2.2.2.2.2.2.2.2.2.2.2.2.2.2.2.2.2.1,.bool x.2.2.2.2.2.2.2.2.2.2.2.2.2.2.2.2.2.2.2.2.1,.string x.2.2.2.2.2.2.2.2.2.2.2.2.2.2.2.2.2.2.2.2.2.1,.string x.2.2.2.2.2.2.2.2.2.2.2.2.2.2.2.2.2.2.2.2.2.2.1,.bool x.2.2.2.2.2.2.2.2.2.2.2.2.2.2.2.2.2.2.2.2.2.2.2.1,.slice x.2.2.2.2.2.2.2.2.2.2.2.2.2.2.2.2.2.2.2.2.2.2.2.2.1.a x.2.2.2.2.2.2.2.2.2.2.2.2.2.2.2.2.2.2.2.2.2.2.2.2.1.len x.2.2.2.2.2.2.2.2.2.2.2.2.2.2.2.2.2.2.2.2.2.2.2.2.1.cap,.slice x.2.2.2.2.2.2.2.2.2.2.2.2.2.2.2.2.2.2.2.2.2.2.2.2.2.1.a x.2.2.2.2.2.2.2.2.2.2.2.2.2.2.2.2.2.2.2.2.2.2.2.2.2.1.len x.2.2.2.2.2.2.2.2.2.2.2.2.2.2.2.2.2.2.2.2.2.2.2.2.2.1.cap]
abbrev lS0(x:yS0):C3E:=[.int .i64 x.1,.bool x.2.1,.bool x.2.2.1,.int .i64 x.2.2.2.1,.int .i64 x.2.2.2.2.1,.string x.2.2.2.2.2.1,.string x.2.2.2.2.2.2.1,.int .i64 x.2.2.2.2.2.2.2.1,.slice x.2.2.2.2.2.2.2.2.1.a x.2.2.2.2.2.2.2.2.1.len x.2.2.2.2.2.2.2.2.1.cap,.slice x.2.2.2.2.2.2.2.2.2.1.a x.2.2.2.2.2.2.2.2.2.1.len x.2.2.2.2.2.2.2.2.2.1.cap,.string x.2.2.2.2.2.2.2.2.2.2.1,.bool x.2.2.2.2.2.2.2.2.2.2.2.1,.int .i64 x.2.2.2.2.2.2.2.2.2.2.2.2.1,.bool x.2.2.2.2.2.2.2.2.2.2.2.2.2.1,.string x.2.2.2.2.2.2.2.2.2.2.2.2.2.2.1,.string x.2.2.2.2.2.2.2.2.2.2.2.2.2.2.2.1,.int .i64 x.2.2.2.2.2.2.2.2.2.2.2.2.2.2.2.2.1,.bool x.2.2.2.2.2.2.2.2.2.2.2.2.2.2.2.2.2.1,.slice x.2.2.2.2.2.2.2.2.2.2.2.2.2.2.2.2.2.2.1.a x.2.2.2.2.2.2.2.2.2.2.2.2.2.2.2.2.2.2.1.len x.2.2.2.2.2.2.2.2.2.2.2.2.2.2.2.2.2.2.1.cap,.bool x.2.2.2.2.2.2.2.2.2.2.2.2.2.2.2.2.2.2.2.1,.bool x.2.2.2.2.2.2.2.2.2.2.2.2.2.2.2.2.2.2.2.2.1,.string x.2.2.2.2.2.2.2.2.2.2.2.2.2.2.2.2.2.2.2.2.2.1,.string x.2.2.2.2.2.2.2.2.2.2.2.2.2.2.2.2.2.2.2.2.2.2.1,.bool x.2.2.2.2.2.2.2.2.2.2.2.2.2.2.2.2.2.2.2.2.2.2.2.1,.slice x.2.2.2.2.2.2.2.2.2.2.2.2.2.2.2.2.2.2.2.2.2.2.2.2.1.a x.2.2.2.2.2.2.2.2.2.2.2.2.2.2.2.2.2.2.2.2.2.2.2.2.1.len x.2.2.2.2.2.2.2.2.2.2.2.2.2.2.2.2.2.2.2.2.2.2.2.2.1.cap,.slice x.2.2.2.2.2.2.2.2.2.2.2.2.2.2.2.2.2.2.2.2.2.2.2.2.2.1.a x.2.2.2.2.2.2.2.2.2.2.2.2.2.2.2.2.2.2.2.2.2.2.2.2.2.1.len x.2.2.2.2.2.2.2.2.2.2.2.2.2.2.2.2.2.2.2.2.2.2.2.2.2.1.cap]
abbrev zS0:C3D:=#[.int .i64 0,.bool false,.bool false,.int .i64 0,.int .i64 0,.string (ByteArray.mk #[]),.string (ByteArray.mk #[]),.int .i64 0,.slice none 0 0,.slice none 0 0,.string (ByteArray.mk #[]),.bool false,.int .i64 0,.bool false,.string (ByteArray.mk #[]),.string (ByteArray.mk #[]),.int .i64 0,.bool false,.slice none 0 0,.bool false,.bool false,.string (ByteArray.mk #[]),.string (ByteArray.mk #[]),.bool false,.slice none 0 0,.slice none 0 0]
abbrev tS1:List Tag:=[.int .i64,.bool,.bool,.int .i64,.int .i64,.str,.str,.int .u8,.slc,.slc,.str,.bool,.int .i64,.bool,.str,.str,.int .i64,.bool,.slc,.bool,.bool,.str,.str,.bool,.slc,.slc]
abbrev yS1:Type:=Int×Bool×Bool×Int×Int×B1q×B1q×Int×Slc×Slc×B1q×Bool×Int×Bool×B1q×B1q×Int×Bool×Slc×Bool×Bool×B1q×B1q×Bool×Slc×Slc×Unit
abbrev aS1(x:yS1):C3D:=#[.int .i64 x.1,.bool x.2.1,.bool x.2.2.1,.int .i64 x.2.2.2.1,.int .i64 x.2.2.2.2.1,.string x.2.2.2.2.2.1,.string x.2.2.2.2.2.2.1,.int .u8 x.2.2.2.2.2.2.2.1,.slice x.2.2.2.2.2.2.2.2.1.a x.2.2.2.2.2.2.2.2.1.len x.2.2.2.2.2.2.2.2.1.cap,.slice x.2.2.2.2.2.2.2.2.2.1.a x.2.2.2.2.2.2.2.2.2.1.len x.2.2.2.2.2.2.2.2.2.1.cap,.string x.2.2.2.2.2.2.2.2.2.2.1,.bool x.2.2.2.2.2.2.2.2.2.2.2.1,.int .i64 x.2.2.2.2.2.2.2.2.2.2.2.2.1,.bool x.2.2.2.2.2.2.2.2.2.2.2.2.2.1,.string x.2.2.2.2.2.2.2.2.2.2.2.2.2.2.1,.string x.2.2.2.2.2.2.2.2.2.2.2.2.2.2.2.1,.int .i64 x.2.2.2.2.2.2.2.2.2.2.2.2.2.2.2.2.1,.bool x.2.2.2.2.2.2.2.2.2.2.2.2.2.2.2.2.2.1,.slice x.2.2.2.2.2.2.2.2.2.2.2.2.2.2.2.2.2.2.1.a x.2.2.2.2.2.2.2.2.2.2.2.2.2.2.2.2.2.2.1.len x.2.2.2.2.2.2.2.2.2.2.2.2.2.2.2.2.2.2.1.cap,.bool x.2.2.2.2.2.2.2.2.2.2.2.2.2.2.2.2.2.2.2.1,.bool x.2.2.2.2.2.2.2.2.2.2.2.2.2.2.2.2.2.2.2.2.1,.string x.2.2.2.2.2.2.2.2.2.2.2.2.2.2.2.2.2.2.2.2.2.1,.string x.2.2.2.2.2.2.2.2.2.2.2.2.2.2.2.2.2.2.2.2.2.2.1,.bool x.2.2.2.2.2.2.2.2.2.2.2.2.2.2.2.2.2.2.2.2.2.2.2.1,.slice x.2.2.2.2.2.2.2.2.2.2.2.2.2.2.2.2.2.2.2.2.2.2.2.2.1.a x.2.2.2.2.2.2.2.2.2.2.2.2.2.2.2.2.2.2.2.2.2.2.2.2.1.len x.2.2.2.2.2.2.2.2.2.2.2.2.2.2.2.2.2.2.2.2.2.2.2.2.1.cap,.slice x.2.2.2.2.2.2.2.2.2.2.2.2.2.2.2.2.2.2.2.2.2.2.2.2.2.1.a x.2.2.2.2.2.2.2.2.2.2.2.2.2.2.2.2.2.2.2.2.2.2.2.2.2.1.len x.2.2.2.2.2.2.2.2.2.2.2.2.2.2.2.2.2.2.2.2.2.2.2.2.2.1.cap]
abbrev lS1(x:yS1):C3E:=[.int .i64 x.1,.bool x.2.1,.bool x.2.2.1,.int .i64 x.2.2.2.1,.int .i64 x.2.2.2.2.1,.string x.2.2.2.2.2.1,.string x.2.2.2.2.2.2.1,.int .u8 x.2.2.2.2.2.2.2.1,.slice x.2.2.2.2.2.2.2.2.1.a x.2.2.2.2.2.2.2.2.1.len x.2.2.2.2.2.2.2.2.1.cap,.slice x.2.2.2.2.2.2.2.2.2.1.a x.2.2.2.2.2.2.2.2.2.1.len x.2.2.2.2.2.2.2.2.2.1.cap,.string x.2.2.2.2.2.2.2.2.2.2.1,.bool x.2.2.2.2.2.2.2.2.2.2.2.1,.int .i64 x.2.2.2.2.2.2.2.2.2.2.2.2.1,.bool x.2.2.2.2.2.2.2.2.2.2.2.2.2.1,.string x.2.2.2.2.2.2.2.2.2.2.2.2.2.2.1,.string x.2.2.2.2.2.2.2.2.2.2.2.2.2.2.2.1,.int .i64 x.2.2.2.2.2.2.2.2.2.2.2.2.2.2.2.2.1,.bool x.2.2.2.2.2.2.2.2.2.2.2.2.2.2.2.2.2.1,.slice x.2.2.2.2.2.2.2.2.2.2.2.2.2.2.2.2.2.2.1.a x.2.2.2.2.2.2.2.2.2.2.2.2.2.2.2.2.2.2.1.len x.2.2.2.2.2.2.2.2.2.2.2.2.2.2.2.2.2.2.1.cap,.bool x.2.2.2.2.2.2.2.2.2.2.2.2.2.2.2.2.2.2.2.1,.bool x.2.2.2.2.2.2.2.2.2.2.2.2.2.2.2.2.2.2.2.2.1,.string x.2.2.2.2.2.2.2.2.2.2.2.2.2.2.2.2.2.2.2.2.2.1,.string x.2.2.2.2.2.2.2.2.2.2.2.2.2.2.2.2.2.2.2.2.2.2.1,.bool x.2.2.2.2.2.2.2.2.2.2.2.2.2.2.2.2.2.2.2.2.2.2.2.1,.slice x.2.2.2.2.2.2.2.2.2.2.2.2.2.2.2.2.2.2.2.2.2.2.2.2.1.a x.2.2.2.2.2.2.2.2.2.2.2.2.2.2.2.2.2.2.2.2.2.2.2.2.1.len x.2.2.2.2.2.2.2.2.2.2.2.2.2.2.2.2.2.2.2.2.2.2.2.2.1.cap,.slice x.2.2.2.2.2.2.2.2.2.2.2.2.2.2.2.2.2.2.2.2.2.2.2.2.2.1.a x.2.2.2.2.2.2.2.2.2.2.2.2.2.2.2.2.2.2.2.2.2.2.2.2.2.1.len x.2.2.2.2.2.2.2.2.2.2.2.2.2.2.2.2.2.2.2.2.2.2.2.2.2.1.cap]
abbrev zS1:C3D:=#[.int .i64 0,.bool false,.bool false,.int .i64 0,.int .i64 0,.string (ByteArray.mk #[]),.string (ByteArray.mk #[]),.int .u8 0,.slice none 0 0,.slice none 0 0,.string (ByteArray.mk #[]),.bool false,.int .i64 0,.bool false,.string (ByteArray.mk #[]),.string (ByteArray.mk #[]),.int .i64 0,.bool false,.slice none 0 0,.bool false,.bool false,.string (ByteArray.mk #[]),.string (ByteArray.mk #[]),.bool false,.slice none 0 0,.slice none 0 0]
abbrev tS2:List Tag:=[.str,.int .i64,.bool,.bool,.int .i64]
abbrev yS2:Type:=B1q×Int×Bool×Bool×Int×Unit
abbrev aS2(x:yS2):C3D:=#[.string x.1,.int .i64 x.2.1,.bool x.2.2.1,.bool x.2.2.2.1,.int .i64 x.2.2.2.2.1]
abbrev lS2(x:yS2):C3E:=[.string x.1,.int .i64 x.2.1,.bool x.2.2.1,.bool x.2.2.2.1,.int .i64 x.2.2.2.2.1]
abbrev zS2:C3D:=#[.string (ByteArray.mk #[]),.int .i64 0,.bool false,.bool false,.int .i64 0]
abbrev tS3:List Tag:=[.str,.int .i64,.int .i64,.str,.str]
abbrev yS3:Type:=B1q×Int×Int×B1q×B1q×Unit
abbrev aS3(x:yS3):C3D:=#[.string x.1,.int .i64 x.2.1,.int .i64 x.2.2.1,.string x.2.2.2.1,.string x.2.2.2.2.1]
abbrev lS3(x:yS3):C3E:=[.string x.1,.int .i64 x.2.1,.int .i64 x.2.2.1,.string x.2.2.2.1,.string x.2.2.2.2.1]
abbrev zS3:C3D:=#[.string (ByteArray.mk #[]),.int .i64 0,.int .i64 0,.string (ByteArray.mk #[]),.string (ByteArray.mk #[])]
abbrev tS4:List Tag:=[.int .i64,.slc,.int .i64,.int .i64]
abbrev yS4:Type:=Int×Slc×Int×Int×Unit
abbrev aS4(x:yS4):C3D:=#[.int .i64 x.1,.slice x.2.1.a x.2.1.len x.2.1.cap,.int .i64 x.2.2.1,.int .i64 x.2.2.2.1]
abbrev lS4(x:yS4):C3E:=[.int .i64 x.1,.slice x.2.1.a x.2.1.len x.2.1.cap,.int .i64 x.2.2.1,.int .i64 x.2.2.2.1]
abbrev zS4:C3D:=#[.int .i64 0,.slice none 0 0,.int .i64 0,.int .i64 0]
abbrev tS5:List Tag:=[.int .i64,.int .i64,.str,.str]
abbrev yS5:Type:=Int×Int×B1q×B1q×Unit
abbrev aS5(x:yS5):C3D:=#[.int .i64 x.1,.int .i64 x.2.1,.string x.2.2.1,.string x.2.2.2.1]
abbrev lS5(x:yS5):C3E:=[.int .i64 x.1,.int .i64 x.2.1,.string x.2.2.1,.string x.2.2.2.1]
abbrev zS5:C3D:=#[.int .i64 0,.int .i64 0,.string (ByteArray.mk #[]),.string (ByteArray.mk #[])]
open Go.Proofs.Tryz
def ad(a n:Nat):=Addr.add ⟨a,0,none⟩ n
def az(a:Nat):Addr:=⟨a,0,none⟩
def bn{α β}(m:HM α)(f:α→HM β):=HM.bind m f
def cb{β}(n:Nat)(l:C3D)(f:Bool→HM β):=HM.bind (α:=Bool) (O3 prog (.one .bool) n l) f
def cc{β}(n:Nat)(l:C3D)(f:Slc→HM β):=HM.bind (α:=Slc) (O3 prog (.one .slc) n l) f
def ci{β}(n:Nat)(l:C3D)(f:Int→HM β):=HM.bind (α:=Int) (O3 prog (.one (.int .i64)) n l) f
def cp{β}(n:Nat)(l:C3D)(f:C3C→HM β):=HM.bind (α:=C3C) (O3 prog (.one .ptr) n l) f
def ct{β}(n:Nat)(l:C3D)(f:B1q→HM β):=HM.bind (α:=B1q) (O3 prog (.one .str) n l) f
def cu{β}(n:Nat)(l:C3D)(f:Int→HM β):=HM.bind (α:=Int) (O3 prog (.one (.int .u8)) n l) f
def cx{β}(n:Nat)(l:C3D)(f:Unit→HM β):=HM.bind (α:=Unit) (Q4 prog [] n l) f
def es:=ByteArray.mk #[]
def g0{β}(a:Addr)(f:yS0→HM β):=HM.bind (α:=yS0) (N5 tS0 a) f
def B7a{β}(a:Addr)(f:yS0→HM β):=HM.bind (α:=yS0) (N5 tS1 a) f
def g2{β}(a:Addr)(f:yS2→HM β):=HM.bind (α:=yS2) (N5 tS2 a) f
def g3{β}(a:Addr)(f:yS3→HM β):=HM.bind (α:=yS3) (N5 tS3 a) f
def g4{β}(a:Addr)(f:yS4→HM β):=HM.bind (α:=yS4) (N5 tS4 a) f
def g5{β}(a:Addr)(f:yS5→HM β):=HM.bind (α:=yS5) (N5 tS5 a) f
def ie{α}(c:Bool)(a b:HM α):=X7 c a b
def ix{β}(s:Slc)(i:Int)(w:Nat)(f:Addr→HM β):=HM.bind (α:=Addr) (r8 s.a s.len i w) f
def jb{β}(a n:Nat)(f:Bool→HM β):=HM.bind (α:=Bool) (R9 .bool (Addr.add ⟨a,0,none⟩ n)) f
def jc{β}(a n:Nat)(f:Slc→HM β):=HM.bind (α:=Slc) (R9 .slc (Addr.add ⟨a,0,none⟩ n)) f
def ji{β}(a n:Nat)(f:Int→HM β):=HM.bind (α:=Int) (R9 (.int .i64) (Addr.add ⟨a,0,none⟩ n)) f
def jt{β}(a n:Nat)(f:B1q→HM β):=HM.bind (α:=B1q) (R9 .str (Addr.add ⟨a,0,none⟩ n)) f
def ju{β}(a n:Nat)(f:Int→HM β):=HM.bind (α:=Int) (R9 (.int .u8) (Addr.add ⟨a,0,none⟩ n)) f
def kb{β}(a:Addr)(n:Nat)(f:Bool→HM β):=HM.bind (α:=Bool) (R9 .bool (Addr.add a n)) f
def kc{β}(a:Addr)(n:Nat)(f:Slc→HM β):=HM.bind (α:=Slc) (R9 .slc (Addr.add a n)) f
def ki{β}(a:Addr)(n:Nat)(f:Int→HM β):=HM.bind (α:=Int) (R9 (.int .i64) (Addr.add a n)) f
def km{β}(a:Addr)(n:Nat)(f:Option Nat→HM β):=HM.bind (α:=Option Nat) (R9 .map (Addr.add a n)) f
def kp{β}(a:Addr)(n:Nat)(f:C3C→HM β):=HM.bind (α:=C3C) (R9 .ptr (Addr.add a n)) f
def kt{β}(a:Addr)(n:Nat)(f:B1q→HM β):=HM.bind (α:=B1q) (R9 .str (Addr.add a n)) f
def ku{β}(a:Addr)(n:Nat)(f:Int→HM β):=HM.bind (α:=Int) (R9 (.int .u8) (Addr.add a n)) f
def li{β}(a:Addr)(f:Int→HM β):=HM.bind (α:=Int) (R9 (.int .i64) a) f
def lp{β}(a:Addr)(f:C3C→HM β):=HM.bind (α:=C3C) (R9 .ptr a) f
def lt{β}(a:Addr)(f:B1q→HM β):=HM.bind (α:=B1q) (R9 .str a) f
def lu{β}(a:Addr)(f:Int→HM β):=HM.bind (α:=Int) (R9 (.int .u8) a) f
def nn{β}(p:C3C)(f:Addr→HM β):=HM.bind (α:=Addr) (B1t p) f
def nw{β}(z:C3D)(t:Nat)(f:Nat→HM β):=HM.bind (α:=Nat) (HM.new (.cells z t)) f
def pu{α}(x:α):=O9 x
def rq{β}(v w:Value)(m:HM β):=P7 (v=w) m
def sn{β}(a:Nat)(l:C3E)(f:Unit→HM β):=HM.bind (α:=Unit) (A0f ⟨a,0,none⟩ l) f
def so{β}(a:Addr)(l:C3E)(f:Unit→HM β):=HM.bind (α:=Unit) (A0f a l) f
def sw{β}(a n:Nat)(v:Value)(f:Unit→HM β):=HM.bind (α:=Unit) (A3d (Addr.add ⟨a,0,none⟩ n) v) f
def sx{β}(a:Addr)(v:Value)(f:Unit→HM β):=HM.bind (α:=Unit) (A3d a v) f
def ve:Value:=.string (ByteArray.mk #[])
def vi(x:Int):Value:=.int .i64 x
def vs(s:Slc):Value:=.slice s.a s.len s.cap
def vz:Value:=.slice none 0 0
def w10{A0 A1 A2 A3 A4 A5 A6 A7 A8 A9 A10 A11:Type}(x:A0×A1×A2×A3×A4×A5×A6×A7×A8×A9×A10×A11):=x.2.2.2.2.2.2.2.2.2.2.1
def w11{A0 A1 A2 A3 A4 A5 A6 A7 A8 A9 A10 A11 A12:Type}(x:A0×A1×A2×A3×A4×A5×A6×A7×A8×A9×A10×A11×A12):=x.2.2.2.2.2.2.2.2.2.2.2.1
def w12{A0 A1 A2 A3 A4 A5 A6 A7 A8 A9 A10 A11 A12 A13:Type}(x:A0×A1×A2×A3×A4×A5×A6×A7×A8×A9×A10×A11×A12×A13):=x.2.2.2.2.2.2.2.2.2.2.2.2.1
def w13{A0 A1 A2 A3 A4 A5 A6 A7 A8 A9 A10 A11 A12 A13 A14:Type}(x:A0×A1×A2×A3×A4×A5×A6×A7×A8×A9×A10×A11×A12×A13×A14):=x.2.2.2.2.2.2.2.2.2.2.2.2.2.1
def w14{A0 A1 A2 A3 A4 A5 A6 A7 A8 A9 A10 A11 A12 A13 A14 A15:Type}(x:A0×A1×A2×A3×A4×A5×A6×A7×A8×A9×A10×A11×A12×A13×A14×A15):=x.2.2.2.2.2.2.2.2.2.2.2.2.2.2.1
def w15{A0 A1 A2 A3 A4 A5 A6 A7 A8 A9 A10 A11 A12 A13 A14 A15 A16:Type}(x:A0×A1×A2×A3×A4×A5×A6×A7×A8×A9×A10×A11×A12×A13×A14×A15×A16):=x.2.2.2.2.2.2.2.2.2.2.2.2.2.2.2.1
def w16{A0 A1 A2 A3 A4 A5 A6 A7 A8 A9 A10 A11 A12 A13 A14 A15 A16 A17:Type}(x:A0×A1×A2×A3×A4×A5×A6×A7×A8×A9×A10×A11×A12×A13×A14×A15×A16×A17):=x.2.2.2.2.2.2.2.2.2.2.2.2.2.2.2.2.1
def w17{A0 A1 A2 A3 A4 A5 A6 A7 A8 A9 A10 A11 A12 A13 A14 A15 A16 A17 A18:Type}(x:A0×A1×A2×A3×A4×A5×A6×A7×A8×A9×A10×A11×A12×A13×A14×A15×A16×A17×A18):=x.2.2.2.2.2.2.2.2.2.2.2.2.2.2.2.2.2.1
def w18{A0 A1 A2 A3 A4 A5 A6 A7 A8 A9 A10 A11 A12 A13 A14 A15 A16 A17 A18 A19:Type}(x:A0×A1×A2×A3×A4×A5×A6×A7×A8×A9×A10×A11×A12×A13×A14×A15×A16×A17×A18×A19):=x.2.2.2.2.2.2.2.2.2.2.2.2.2.2.2.2.2.2.1
def w19{A0 A1 A2 A3 A4 A5 A6 A7 A8 A9 A10 A11 A12 A13 A14 A15 A16 A17 A18 A19 A20:Type}(x:A0×A1×A2×A3×A4×A5×A6×A7×A8×A9×A10×A11×A12×A13×A14×A15×A16×A17×A18×A19×A20):=x.2.2.2.2.2.2.2.2.2.2.2.2.2.2.2.2.2.2.2.1
def w20{A0 A1 A2 A3 A4 A5 A6 A7 A8 A9 A10 A11 A12 A13 A14 A15 A16 A17 A18 A19 A20 A21:Type}(x:A0×A1×A2×A3×A4×A5×A6×A7×A8×A9×A10×A11×A12×A13×A14×A15×A16×A17×A18×A19×A20×A21):=x.2.2.2.2.2.2.2.2.2.2.2.2.2.2.2.2.2.2.2.2.1
def w21{A0 A1 A2 A3 A4 A5 A6 A7 A8 A9 A10 A11 A12 A13 A14 A15 A16 A17 A18 A19 A20 A21 A22:Type}(x:A0×A1×A2×A3×A4×A5×A6×A7×A8×A9×A10×A11×A12×A13×A14×A15×A16×A17×A18×A19×A20×A21×A22):=x.2.2.2.2.2.2.2.2.2.2.2.2.2.2.2.2.2.2.2.2.2.1
def w22{A0 A1 A2 A3 A4 A5 A6 A7 A8 A9 A10 A11 A12 A13 A14 A15 A16 A17 A18 A19 A20 A21 A22 A23:Type}(x:A0×A1×A2×A3×A4×A5×A6×A7×A8×A9×A10×A11×A12×A13×A14×A15×A16×A17×A18×A19×A20×A21×A22×A23):=x.2.2.2.2.2.2.2.2.2.2.2.2.2.2.2.2.2.2.2.2.2.2.1
def w23{A0 A1 A2 A3 A4 A5 A6 A7 A8 A9 A10 A11 A12 A13 A14 A15 A16 A17 A18 A19 A20 A21 A22 A23 A24:Type}(x:A0×A1×A2×A3×A4×A5×A6×A7×A8×A9×A10×A11×A12×A13×A14×A15×A16×A17×A18×A19×A20×A21×A22×A23×A24):=x.2.2.2.2.2.2.2.2.2.2.2.2.2.2.2.2.2.2.2.2.2.2.2.1
def w24{A0 A1 A2 A3 A4 A5 A6 A7 A8 A9 A10 A11 A12 A13 A14 A15 A16 A17 A18 A19 A20 A21 A22 A23 A24 A25:Type}(x:A0×A1×A2×A3×A4×A5×A6×A7×A8×A9×A10×A11×A12×A13×A14×A15×A16×A17×A18×A19×A20×A21×A22×A23×A24×A25):=x.2.2.2.2.2.2.2.2.2.2.2.2.2.2.2.2.2.2.2.2.2.2.2.2.1
def w25{A0 A1 A2 A3 A4 A5 A6 A7 A8 A9 A10 A11 A12 A13 A14 A15 A16 A17 A18 A19 A20 A21 A22 A23 A24 A25 A26:Type}(x:A0×A1×A2×A3×A4×A5×A6×A7×A8×A9×A10×A11×A12×A13×A14×A15×A16×A17×A18×A19×A20×A21×A22×A23×A24×A25×A26):=x.2.2.2.2.2.2.2.2.2.2.2.2.2.2.2.2.2.2.2.2.2.2.2.2.2.1
def w5{A0 A1 A2 A3 A4 A5 A6:Type}(x:A0×A1×A2×A3×A4×A5×A6):=x.2.2.2.2.2.1
def w6{A0 A1 A2 A3 A4 A5 A6 A7:Type}(x:A0×A1×A2×A3×A4×A5×A6×A7):=x.2.2.2.2.2.2.1
def w7{A0 A1 A2 A3 A4 A5 A6 A7 A8:Type}(x:A0×A1×A2×A3×A4×A5×A6×A7×A8):=x.2.2.2.2.2.2.2.1
def w8{A0 A1 A2 A3 A4 A5 A6 A7 A8 A9:Type}(x:A0×A1×A2×A3×A4×A5×A6×A7×A8×A9):=x.2.2.2.2.2.2.2.2.1
def w9{A0 A1 A2 A3 A4 A5 A6 A7 A8 A9 A10:Type}(x:A0×A1×A2×A3×A4×A5×A6×A7×A8×A9×A10):=x.2.2.2.2.2.2.2.2.2.1
def wi(x:Int):=IntKind.wrap .i64 x
def A0R(p0:yS4)(p1:Int×Int×Slc×Slc×B1q×Unit):HM (Bool×Unit):=
 nw (aS4 p0) 24 fun a=>nw #[vi p1.1,vi p1.2.1,vs p1.2.2.1,vs p1.2.2.2.1,.string p1.2.2.2.2.1] 28 fun b=>g4 (az a) fun c=>bn (α:=(yS4)×(yS4)×Unit) (Q4 prog [.agg tS4,.agg tS4] 4 #[.agg (aS4 c)]) fun
 d=>nw zS4 32 fun e=>nw zS4 35 fun f=>sn e (lS4 d.1) fun _=>sn f (lS4 d.2.1) fun _=>bn (α:=Int×Int×Slc×Slc×B1q×Unit) (N5 [.int .i64,.int .i64,.slc,.slc,.str] (az b)) fun g=>bn (α:=(Int×Int
 ×B1q×Unit)×(Int×Int×B1q×Unit)×Unit) (Q4 prog [.agg [.int .i64,.int .i64,.str],.agg [.int .i64,.int .i64,.str]] 5 #[.agg #[vi g.1,vi g.2.1,vs g.2.2.1,vs g.2.2.2.1,.string
 g.2.2.2.2.1]]) fun h=>nw #[vi 0,vi 0,ve] 40 fun i=>nw #[vi 0,vi 0,ve] 42 fun j=>sn i [vi h.1.1,vi h.1.2.1,.string h.1.2.2.1] fun _=>sn j [vi h.2.1.1,vi h.2.1.2.1,.string h.2.1.2.2.1] fun _=>g4 (az e) fun k=>bn (α
 :=C3C×Value×Unit) (Q4 prog [.one .ptr,.one .any] 6 #[.pointer none,.agg (aS4 k)]) fun l=>bn (α:=Int×Int×B1q×Unit) (N5 [.int .i64,.int .i64,.str] (az i)) fun m=>bn (α:=Slc
 ×Value×Unit) (Q4 prog [.one .slc,.one .any] 7 #[.pointer none,.agg #[vi m.1,vi m.2.1,.string m.2.2.1]]) fun n=>bn (α:=Bool×Unit) (cb 8 #[] fun o=>ie o (ie (Option.isNone l.1) (ci 9 #[l.2.1] fun
 p=>ie (p==128) (ci 9 #[n.2.1] fun q=>ie (q==128) (cp 10 #[.pointer none] fun r=>ie (Option.isNone r) (cc 11 #[.pointer none] fun s=>ie ((s.len:Int)==0) (ji b 1 fun t=>cc 12 #[.pointer none,vi t] fun u=>ie
 ((u.len:Int)==0) (cc 13 #[.pointer none] fun v=>ie ((v.len:Int)==0) (g4 (az f) fun w=>g4 (az e) fun x=>ci 14 #[.agg (aS4 w)] fun y=>g4 (az e) fun z=>rq (.agg (aS4 z)) (.agg (aS4 x))<|cu 15 #[.agg (aS4 x)] fun
 A=>pu ((y==0)==(A==0),())) (pu (false,()))) (pu (false,()))) (pu (false,()))) (pu (false,()))) (pu (false,()))) (pu (false,()))) (pu (false,()))) (pu (false,()))) fun B=>pu (B.1,())
theorem A1d(p0:yS4)(p1:Int×Int×Slc×Slc×B1q×Unit):HCs 3 #[.agg (aS4 p0),.agg #[.int .i64 p1.1,.int .i64 p1.2.1,.slice p1.2.2.1.a p1.2.2.1.len p1.2.2.1.cap,.slice p1.2.2.2.1.a p1.2.2.2.1.len p1.2.2.2.1.cap,.string p1.2.2.2.2.1]] (A0R p0 p1) fun x=>.bool x.1:=
 cE [.one .bool] [0,1,2,3,4,5,6,7,8,10,11,13] [0,1,2,3,5,6,7,8,10,11,13] func3 ntmps3 (CC call4 (CC call5 (CC call6 (CC call7 (CC call8 (CC call9 (CC call10 (CC call11 (CC call12 (CC call13 (CC call14 (CC call15 CN))))))))))))
def A66(p0:yS4):HM ((yS4)×(yS4)×Unit):=
 nw (aS4 p0) 24 fun a=>nw zS4 32 fun b=>nw zS4 35 fun c=>ji a 0 fun d=>ji a 2 fun e=>ji a 3 fun f=>nw zS4 32 fun g=>sn g [vi d,vz,vi e,vi f] fun _=>ji a 0 fun h=>ji a 2 fun i=>ji a 3 fun j=>nw zS4 35 fun k=>sn k [vi
 h,vz,vi i,vi j] fun _=>jc a 1 fun l=>jc a 1 fun m=>bn (α:=Slc) (HM.slice l none (some (if 20<(m.len:Int) then 20 else(m.len:Int))) none 6) fun n=>bn (α:=Int×Unit) (HM.loop (σ:=Int×Unit) (τ:=Int×
 Unit) (fun o=>ie (decide (o.1<(n.len:Int))) (ix n o.1 6 fun p=>bn (α:=Int×B1q×Int×Int×B1q×B1q×Unit) (N5 [.int .i64,.str,.int .i64,.int .i64,.str,.str] p) fun q=>nw #[vi 0,
 ve,vi 0,vi 0,ve,ve] 69 fun r=>sn r [vi q.1,.string q.2.1,vi q.2.2.1,vi q.2.2.2.1,.string q.2.2.2.2.1,.string (w5 q)] fun _=>g3 (ad r 1) fun s=>bn (α:=(yS3)×(yS3)×Unit) (Q4 prog [.agg tS3,.agg
 tS3] 16 #[.agg (aS3 s)]) fun t=>nw zS3 72 fun u=>nw zS3 73 fun v=>sn u (lS3 t.1) fun _=>sn v (lS3 t.2.1) fun _=>jc g 1 fun w=>ji r 0 fun x=>g3 (az u) fun y=>jc k 1 fun z=>ji r 0 fun A=>g3 (az v) fun B=>Y4 (nw #[vi
 x,.string y.1,vi y.2.1,vi y.2.2.1,.string y.2.2.2.1,.string y.2.2.2.2.1] 77 fun C=>g3 (az v) fun D=>rq (.agg (aS3 D)) (.agg (aS3 B))<|ji r 0 fun E=>rq (vi E) (vi A)<|jc k 1 fun F=>rq (vs F) (vs z)<|jc g 1 fun
 G=>rq (vs G) (vs w)<|Y4 (bn (α:=Slc) (HM.append 77 6 72 #[vi 0,ve,vi 0,vi 0,ve,ve] w 1 (P8 6 (⟨some (az C),1,1⟩))) fun H=>g3 (az v) fun I=>rq (.agg (aS3 I)) (.agg (aS3 B))<|ji r 0 fun J=>rq (vi J) (vi
 A)<|jc k 1 fun K=>rq (vs K) (vs z)<|nw #[vi A,.string B.1,vi B.2.1,vi B.2.2.1,.string B.2.2.2.1,.string B.2.2.2.2.1] 79 fun L=>jc k 1 fun M=>rq (vs M) (vs z)<|g3 (az u) fun N=>rq (.agg (aS3 N)) (.agg (aS3 y))
 <|ji r 0 fun O=>rq (vi O) (vi x)<|jc g 1 fun P=>rq (vs P) (vs w)<|bn (α:=Slc) (HM.append 79 6 72 #[vi 0,ve,vi 0,vi 0,ve,ve] z 1 (P8 6 (⟨some (az L),1,1⟩))) fun Q=>sw g 1 (vs H) fun _=>sw k 1 (vs Q) fun
 _=>pu (.inl (wi (o.1+1),()))) (nw #[vi A,.string B.1,vi B.2.1,vi B.2.2.1,.string B.2.2.2.1,.string B.2.2.2.2.1] 79 fun R=>jc k 1 fun S=>rq (vs S) (vs z)<|g3 (az u) fun T=>rq (.agg (aS3 T)) (.agg (aS3 y))<|ji r
 0 fun U=>rq (vi U) (vi x)<|jc g 1 fun V=>rq (vs V) (vs w)<|bn (α:=Slc) (HM.append 77 6 72 #[vi 0,ve,vi 0,vi 0,ve,ve] w 1 (P8 6 (⟨some (az C),1,1⟩))) fun W=>g3 (az v) fun X=>rq (.agg (aS3 X)) (.agg (aS3 B))
 <|ji r 0 fun Y=>rq (vi Y) (vi A)<|jc k 1 fun Z=>rq (vs Z) (vs z)<|bn (α:=Slc) (HM.append 79 6 72 #[vi 0,ve,vi 0,vi 0,ve,ve] z 1 (P8 6 (⟨some (az R),1,1⟩))) fun fU=>sw g 1 (vs W) fun _=>sw k 1 (vs fU) fun
 _=>pu (.inl (wi (o.1+1),())))) (nw #[vi A,.string B.1,vi B.2.1,vi B.2.2.1,.string B.2.2.2.1,.string B.2.2.2.2.1] 79 fun gA=>jc k 1 fun dS=>rq (vs dS) (vs z)<|g3 (az u) fun gz=>rq (.agg (aS3 gz)) (.agg (aS3
 y))<|ji r 0 fun eD=>rq (vi eD) (vi x)<|jc g 1 fun eC=>rq (vs eC) (vs w)<|nw #[vi x,.string y.1,vi y.2.1,vi y.2.2.1,.string y.2.2.2.1,.string y.2.2.2.2.1] 77 fun cT=>g3 (az v) fun gy=>rq (.agg (aS3 gy))
 (.agg (aS3 B))<|ji r 0 fun gx=>rq (vi gx) (vi A)<|jc k 1 fun gv=>rq (vs gv) (vs z)<|jc g 1 fun gu=>rq (vs gu) (vs w)<|bn (α:=Slc) (HM.append 77 6 72 #[vi 0,ve,vi 0,vi 0,ve,ve] w 1 (P8 6 (⟨some (az
 cT),1,1⟩))) fun gr=>g3 (az v) fun gq=>rq (.agg (aS3 gq)) (.agg (aS3 B))<|ji r 0 fun fT=>rq (vi fT) (vi A)<|jc k 1 fun iJ=>rq (vs iJ) (vs z)<|bn (α:=Slc) (HM.append 79 6 72 #[vi 0,ve,vi 0,vi 0,ve,ve] z
 1 (P8 6 (⟨some (az gA),1,1⟩))) fun iI=>sw g 1 (vs gr) fun _=>sw k 1 (vs iI) fun _=>pu (.inl (wi (o.1+1),())))) (pu (.inr (o.1,())))) (0,())) fun pI=>g4 (az g) fun kX=>g4 (az k) fun kC=>sn b (lS4 kX)
 fun _=>g4 (az k) fun kW=>rq (.agg (aS4 kW)) (.agg (aS4 kC))<|sn c (lS4 kC) fun _=>g4 (az b) fun iH=>g4 (az c) fun iG=>pu ((iH.1,iH.2.1,iH.2.2.1,iH.2.2.2.1,()),(iG.1,iG.2.1,iG.2.2.1,iG.2.2.2.1,()),
 ())
theorem A5d(p0:yS4):HCs 4 #[.agg (aS4 p0)] (A66 p0) fun x=>.tuple #[.agg (aS4 x.1),.agg (aS4 x.2.1)]:=
 cE [.agg tS4,.agg tS4] [0,1,2,3,4,5,7,8,9,30,31,32,33] [0,1,2,3,4,5,7,8,9,30,31,32,33] func4 ntmps4 (CC call16 CN)
def A5c(p0:Int×Int×Slc×Slc×B1q×Unit):HM ((Int×Int×B1q×Unit)×(Int×Int×B1q×Unit)×Unit):=
 nw #[vi p0.1,vi p0.2.1,vs p0.2.2.1,vs p0.2.2.2.1,.string p0.2.2.2.2.1] 28 fun a=>nw #[vi 0,vi 0,ve] 40 fun b=>nw #[vi 0,vi 0,ve] 42 fun c=>jc a 2 fun d=>jc a 2 fun e=>bn (α:=Slc) (HM.slice d none (some (if 4<
 (e.len:Int) then 4 else(e.len:Int))) none 26) fun f=>bn (α:=B1q×Int×Unit) (HM.loop (σ:=B1q×Int×Unit) (τ:=B1q×Int×Unit) (fun g=>ie (decide (g.2.1<(f.len:Int))) (ix f g.2.1 26
 fun h=>B7a h fun i=>nw zS1 86 fun j=>sn j (lS1 i) fun _=>bn (α:=Bool×Unit) (jc a 3 fun k=>ie (decide (g.2.1<(k.len:Int))) (jc a 3 fun l=>ix l g.2.1 1 fun m=>lt m fun n=>pu (!(decide (n=es)),())) (pu (false,
 ()))) fun o=>bn (α:=Unit) (ie o.1 (sw j 0 (vi 3) fun _=>sw j 3 (vi 1) fun _=>jc a 3 fun p=>ix p g.2.1 1 fun q=>lt q fun r=>nw #[vi 38,vi 0,.string (ByteArray.mk #[116,97,103]),.string r] 88 fun s=>sw j 9 (.slice
 (some (az s)) 1 1) fun _=>pu ()) (pu ())) fun t=>B7a (az j) fun u=>bn (α:=(yS0)×(yS0)×Unit) (Q4 prog [.agg tS1,.agg tS0] 17 #[.agg (aS1 u)]) fun v=>nw zS1 96 fun w=>nw zS0 103 fun x=>sn w (lS1 v.1) fun
 _=>sn x (lS0 v.2.1) fun _=>g0 (az x) fun y=>bn (α:=B1q×Int×Unit) (Q4 prog [.one .str,.one (.int .i64)] 18 #[.agg (aS0 y)]) fun z=>P7 (ByteArray.size g.1+ByteArray.size z.1≤
 9223372036854775807)<|pu (.inl (g.1++z.1,wi (g.2.1+1),()))) (pu (.inr (g.1,g.2.1,())))) (ByteArray.mk #[],0,())) fun A=>jt a 4 fun B=>jt a 4 fun C=>bn (α:=B1q) (r7 B none (some (if 2000<
 (((ByteArray.size C:Nat):Int):Int) then 2000 else((ByteArray.size C:Nat):Int)))) fun D=>P7 (ByteArray.size A.1+ByteArray.size D≤9223372036854775807)<|ji a 0 fun E=>ji a 1 fun F=>ji a 0 fun G=>ji a 1
 fun H=>sn b [vi E,vi F,.string (A.1++D)] fun _=>ji a 1 fun I=>rq (vi I) (vi H)<|ji a 0 fun J=>rq (vi J) (vi G)<|sn c [vi G,vi H,.string (A.1++D)] fun _=>bn (α:=Int×Int×B1q×Unit) (N5 [.int
 .i64,.int .i64,.str] (az b)) fun K=>bn (α:=Int×Int×B1q×Unit) (N5 [.int .i64,.int .i64,.str] (az c)) fun L=>pu ((K.1,K.2.1,K.2.2.1,()),(L.1,L.2.1,L.2.2.1,()),())
theorem A4m(p0:Int×Int×Slc×Slc×B1q×Unit):HCs 5 #[.agg #[.int .i64 p0.1,.int .i64 p0.2.1,.slice p0.2.2.1.a p0.2.2.1.len p0.2.2.1.cap,.slice p0.2.2.2.1.a p0.2.2.2.1.len p0.2.2.2.1.cap,.string p0.2.2.2.2.1]] (A5c p0) fun x=>.tuple #[.agg #[.int .i64 x.1.1,.int .i64 x.1.2.1,.string x.1.2.2.1],.agg #[.int .i64 x.2.1.1,.int .i64 x.2.1.2.1,.string x.2.1.2.2.1]]:=
 cE [.agg [.int .i64,.int .i64,.str],.agg [.int .i64,.int .i64,.str]] [0,1,2,3,4,5,6,8,9,17,18,19,20,36] [0,1,2,3,4,5,6,8,9,17,18,19,20,36] func5 ntmps5 (CC call17 (CC call18 CN))
def B0Z(p0:C3C)(p1:yS4):HM (C3C×Value×Unit):=
 nw (aS4 p1) 32 fun a=>g4 (az a) fun b=>cu 15 #[.agg (aS4 b)] fun c=>ie (!(c==0)) (bn (α:=Value) (O3 prog (.one .any) 19 #[.int .u8 c,.string (ByteArray.mk #[99,111,110,102,105,103])]) fun d=>pu
 (none,d,())) (bn (α:=C3C×B1q×Slc×Value×Unit) (Q4 prog [.one .ptr,.one .str,.one .slc,.one .any] 20 #[.pointer p0]) fun e=>P7 (isIface (e.2.2.2.1:Value)=true)<|ie (!(A0C
 e.2.2.2.1)) (bn (α:=Value) (O3 prog (.one .any) 21 #[.string (ByteArray.mk #[110,111,100,101]),e.2.2.2.1]) fun f=>pu (none,f,())) (g4 (az a) fun g=>cp 22 #[.agg (aS4 g)] fun h=>nn h fun i=>sx (Addr.add
 i 4) (.pointer e.1) fun _=>bn (α:=(Int×Unit)⊕(C3C×Value×Unit)) (HM.loop (σ:=Int×Unit) (τ:=(Int×Unit)⊕(C3C×Value×Unit)) (fun j=>ie (decide (j.1<(e.2.2.1.len:Int))) (ix e.2.2.1
 j.1 1 fun k=>lt k fun l=>bn (α:=(Int×Int×B1q×Unit)×Bool×Unit) (Q4 prog [.agg [.int .i64,.int .i64,.str],.one .bool] 23 #[.string l]) fun m=>nw #[vi 0,vi 0,ve] 40 fun n=>sn n [vi m.1.1,
 vi m.1.2.1,.string m.1.2.2.1] fun _=>ie (!m.2.1) (bn (α:=Value) (O3 prog (.one .any) 19 #[.int .u8 129,.string (ByteArray.mk #[114,101,99,111,114,100])]) fun o=>pu (.inr (.inr (none,o,())))) (bn (α
 :=Int×Int×B1q×Unit) (N5 [.int .i64,.int .i64,.str] (az n)) fun p=>cc 24 #[.pointer h,.agg #[vi p.1,vi p.2.1,.string p.2.2.1]] fun q=>pu (.inl (wi (j.1+1),())))) (pu (.inr (.inl (j.1,())))))
 (0,())) (Sum.elim (fun r=>ie (!(decide (e.2.1=es))) (bn (α:=Value) (O3 prog (.one .any) 19 #[.int .u8 129,.string (ByteArray.mk #[115,116,97,116,101])]) fun s=>pu (none,s,())) (bn (α:=Slc×Value
 ×Unit) (Q4 prog [.one .slc,.one .any] 7 #[.pointer h,.agg #[vi 5,vi 0,ve]]) fun t=>P7 (isIface (t.2.1:Value)=true)<|ie (!(A0C t.2.1)) (bn (α:=Value) (O3 prog (.one .any) 21
 #[.string (ByteArray.mk #[114,101,115,116,97,114,116]),t.2.1]) fun u=>pu (none,u,())) (pu (h,.nilIface,())))) O9)))
theorem A7C(p0:C3C)(p1:yS4):HCs 6 #[.pointer p0,.agg (aS4 p1)] (B0Z p0 p1) fun x=>.tuple #[.pointer x.1,x.2.1]:=
 cE [.one .ptr,.one .any] [0,1,3,4,5,6,7,8,9,10,11,13,14,15,17,21,32,41,42,43,44,53,60,69] [0,1,3,6,7,8,9,10,11,13,14,15,17,21,32,41,42,43,44,53,60,69] func6 ntmps6 (CC call15 (CC call19 (CC call20 (CC call21 (CC call22 (CC call23 (CC call24 (CC call7 CN))))))))
def A45(p0:C3C)(p1:Int×Int×B1q×Unit):HM (Slc×Value×Unit):=
 nw #[vi p1.1,vi p1.2.1,.string p1.2.2.1] 40 fun a=>bn (α:=Int×Int×B1q×Unit) (N5 [.int .i64,.int .i64,.str] (az a)) fun b=>ct 25 #[.agg #[vi b.1,vi b.2.1,.string b.2.2.1]] fun c=>bn (α:=Bool×
 Unit) (ie (Option.isNone p0) (pu (true,())) (pu (decide (c=es),()))) fun d=>ie d.1 (bn (α:=Value) (O3 prog (.one .any) 19 #[.int .u8 128,.string (ByteArray.mk #[101,118,101,110,116])]) fun e=>pu
 (⟨none,0,0⟩,e,())) (jt a 2 fun f=>ie (decide (65536<(((ByteArray.size f:Nat):Int):Int))) (bn (α:=Value) (O3 prog (.one .any) 19 #[.int .u8 149,.string (ByteArray.mk #[101,118,101,110,116])])
 fun g=>pu (⟨none,0,0⟩,g,())) (nn p0 fun h=>kp h 4 fun i=>bn (α:=Value) (O3 prog (.one .any) 26 #[.pointer i,.string c]) fun j=>P7 (isIface (j:Value)=true)<|ie (!(A0C j)) (bn (α:=Value)
 (O3 prog (.one .any) 21 #[.string (ByteArray.mk #[97,100,100]),j]) fun k=>pu (⟨none,0,0⟩,k,())) (nn p0 fun l=>kp l 4 fun m=>bn (α:=Value) (O3 prog (.one .any) 27 #[.pointer m]) fun
 n=>P7 (isIface (n:Value)=true)<|ie (!(A0C n)) (bn (α:=Value) (O3 prog (.one .any) 21 #[.string (ByteArray.mk #[115,121,110,99]),n]) fun o=>pu (⟨none,0,0⟩,o,())) (bn (α:=Int×Int×
 B1q×Unit) (N5 [.int .i64,.int .i64,.str] (az a)) fun p=>cc 24 #[.pointer p0,.agg #[vi p.1,vi p.2.1,.string p.2.2.1]] fun q=>pu (q,.nilIface,())))))
theorem A4k(p0:C3C)(p1:Int×Int×B1q×Unit):HCs 7 #[.pointer p0,.agg #[.int .i64 p1.1,.int .i64 p1.2.1,.string p1.2.2.1]] (A45 p0 p1) fun x=>.tuple #[.slice x.1.a x.1.len x.1.cap,x.2.1]:=
 cE [.one .slc,.one .any] [0,1,3,4,5,6,7,8,11,19,32,41] [0,1,3,6,7,8,11,19,32,41] func7 ntmps7 (CC call25 (CC call19 (CC call26 (CC call21 (CC call27 (CC call24 CN))))))
def A9f(p0:Value):HM (Int×Unit):=
 cu 30 #[p0] fun a=>pu (wi a,())
theorem A6c(p0:Value):HCs 9 #[p0] (A9f p0) fun x=>.int .i64 x.1:=
 cE [.one (.int .i64)] [0,2] [0] func9 ntmps9 (CC call30 CN)
def A1a(p0:C3C):HM (C3C×Unit):=
 ie (Option.isNone p0) (pu (none,())) (nn p0 fun a=>kp a 5 fun b=>cp 31 #[.pointer b] fun c=>pu (c,()))
theorem A1E(p0:C3C):HCs 10 #[.pointer p0] (A1a p0) fun x=>.pointer x.1:=
 cE [.one .ptr] [0,2,4] [0,4] func10 ntmps10 (CC call31 CN)
def A3T(p0:C3C):HM (Slc×Unit):=
 ie (Option.isNone p0) (pu (⟨none,0,0⟩,())) (nn p0 fun a=>kp a 7 fun b=>cc 32 #[.pointer b] fun c=>pu (c,()))
theorem A3F(p0:C3C):HCs 11 #[.pointer p0] (A3T p0) fun x=>.slice x.1.a x.1.len x.1.cap:=
 cE [.one .slc] [0,2,4] [0,4] func11 ntmps11 (CC call32 CN)
def A2y(p0:C3C)(p1:Int):HM (Slc×Unit):=
 bn (α:=Bool×Unit) (ie (Option.isNone p0) (pu (true,())) (nn p0 fun a=>km a 10 fun b=>bn (α:=C3C×Bool) (HM.lookup (Instr.sameNow (.int .i64)) (.pointer none) (.one .ptr) b (vi p1)) fun c=>pu
 (Option.isNone c.1,()))) fun d=>ie d.1 (pu (⟨none,0,0⟩,())) (nn p0 fun e=>km e 10 fun f=>bn (α:=C3C×Bool) (HM.lookup (Instr.sameNow (.int .i64)) (.pointer none) (.one .ptr) f (vi p1)) fun g=>nn g.1 fun
 h=>kp h 0 fun i=>cc 33 #[.pointer i] fun j=>pu (j,()))
theorem A2x(p0:C3C)(p1:Int):HCs 12 #[.pointer p0,.int .i64 p1] (A2y p0 p1) fun x=>.slice x.1.a x.1.len x.1.cap:=
 cE [.one .slc] [0,1,4,15] [0,1,15] func12 ntmps12 (CC call33 CN)
def A0N(p0:C3C):HM (Slc×Unit):=
 ie (Option.isNone p0) (pu (⟨none,0,0⟩,())) (nn p0 fun a=>kp a 6 fun b=>cc 34 #[.pointer b] fun c=>pu (c,()))
theorem A1b(p0:C3C):HCs 13 #[.pointer p0] (A0N p0) fun x=>.slice x.1.a x.1.len x.1.cap:=
 cE [.one .slc] [0,2,4] [0,4] func13 ntmps13 (CC call34 CN)
def A6L(p0:yS4):HM (Int×Unit):=
 nw (aS4 p0) 35 fun a=>ji a 0 fun b=>jc a 1 fun c=>cb 35 #[.agg #[vi b,vi 1,vz,vs c]] fun d=>bn (α:=Bool×Unit) (ie (!d) (pu (true,())) (ji a 2 fun e=>ie (decide (e<(1:Int))) (pu (true,())) (ji a 2 fun f=>ie
 (decide (32<(f:Int))) (pu (true,())) (ji a 3 fun g=>ie (decide (g<(1:Int))) (pu (true,())) (ji a 3 fun h=>pu (decide (65536<(h:Int)),())))))) fun i=>ie i.1 (pu (128,())) (pu (0,()))
theorem A4L(p0:yS4):HCs 14 #[.agg (aS4 p0)] (A6L p0) fun x=>.int .i64 x.1:=
 cE [.one (.int .i64)] [0,1,2,3,31] [0,1,3,31] func14 ntmps14 (CC call35 CN)
def A0O(p0:yS4):HM (Int×Unit):=
 nw (aS4 p0) 32 fun a=>ji a 0 fun b=>jc a 1 fun c=>bn (α:=B1q×Int×Unit) (Q4 prog [.one .str,.one (.int .u8)] 36 #[.agg #[vi b,vi 1,vz,vs c]]) fun d=>bn (α:=Bool×Unit) (ie (!(d.2.1==0))
 (pu (true,())) (ji a 2 fun e=>ie (decide (e<(1:Int))) (pu (true,())) (ji a 2 fun f=>ie (decide (32<(f:Int))) (pu (true,())) (ji a 3 fun g=>ie (decide (g<(1:Int))) (pu (true,())) (ji a 3 fun h=>pu (decide
 (65536<(h:Int)),())))))) fun i=>ie i.1 (pu (128,())) (pu (0,()))
theorem A1c(p0:yS4):HCs 15 #[.agg (aS4 p0)] (A0O p0) fun x=>.int .u8 x.1:=
 cE [.one (.int .u8)] [0,1,2,4,35] [0,1,4,35] func15 ntmps15 (CC call36 CN)
def A9e(p0:yS3):HM ((yS3)×(yS3)×Unit):=
 nw (aS3 p0) 67 fun a=>nw zS3 72 fun b=>nw zS3 73 fun c=>jt a 0 fun d=>ji a 1 fun e=>ji a 2 fun f=>jt a 3 fun g=>jt a 4 fun h=>g3 (az a) fun i=>sn b [.string d,vi e,vi f,.string g,.string h] fun _=>g3 (az a) fun
 j=>rq (.agg (aS3 j)) (.agg (aS3 i))<|sn c (lS3 i) fun _=>g3 (az b) fun k=>g3 (az c) fun l=>pu ((k.1,k.2.1,k.2.2.1,k.2.2.2.1,k.2.2.2.2.1,()),(l.1,l.2.1,l.2.2.1,l.2.2.2.1,l.2.2.2.2.1,()),())
theorem A6b(p0:yS3):HCs 16 #[.agg (aS3 p0)] (A9e p0) fun x=>.tuple #[.agg (aS3 x.1),.agg (aS3 x.2.1)]:=
 cE [.agg tS3,.agg tS3] [0,1,2,3] [0,1,2,3] func16 ntmps16 CN
def A3V(p0:yS0):HM ((yS0)×(yS0)×Unit):=
 nw (aS1 p0) 86 fun a=>nw zS1 96 fun b=>nw zS0 103 fun c=>ji a 0 fun d=>jb a 1 fun e=>jb a 2 fun f=>ji a 3 fun g=>ji a 4 fun h=>jt a 5 fun i=>jt a 6 fun j=>ju a 7 fun k=>jt a 10 fun l=>jb a 11 fun m=>ji a 12 fun n=>jb a
 13 fun o=>jb a 19 fun p=>jb a 20 fun q=>jt a 21 fun r=>jt a 22 fun s=>jb a 23 fun t=>nw zS1 96 fun u=>sn u [vi d,.bool e,.bool f,vi g,vi h,.string i,.string j,.int .u8 k,vz,vz,.string l,.bool m,vi n,.bool o,
 ve,ve,vi 0,.bool false,vz,.bool p,.bool q,.string r,.string s,.bool t,vz,vz] fun _=>ji a 0 fun v=>jb a 1 fun w=>jb a 2 fun x=>ji a 3 fun y=>ji a 4 fun z=>jt a 5 fun A=>jt a 6 fun B=>ju a 7 fun C=>jt a 10 fun
 D=>jb a 11 fun E=>ji a 12 fun F=>jb a 13 fun G=>jb a 19 fun H=>jb a 20 fun I=>jt a 21 fun J=>jt a 22 fun K=>jb a 23 fun L=>nw zS0 103 fun M=>sn M [vi v,.bool w,.bool x,vi y,vi z,.string A,.string B,vi (wi C),vz,
 vz,.string D,.bool E,vi F,.bool G,ve,ve,vi 0,.bool false,vz,.bool H,.bool I,.string J,.string K,.bool L,vz,vz] fun _=>jc a 9 fun N=>bn (α:=Slc×Slc×Unit) (Q4 prog [.one .slc,.one .slc] 37
 #[vs N]) fun O=>sw u 9 (vs O.1) fun _=>sw M 9 (vs O.2.1) fun _=>kt (ad a 14) 0 fun P=>kt (ad a 14) 1 fun Q=>ki (ad a 14) 2 fun R=>kb (ad a 14) 3 fun S=>so (ad u 14) [.string P,.string Q,vi R,.bool S,vz] fun _=>kt (ad
 a 14) 0 fun T=>kt (ad a 14) 1 fun U=>ki (ad a 14) 2 fun V=>kb (ad a 14) 3 fun W=>so (ad M 14) [.string T,.string U,vi V,.bool W,vz] fun _=>kc (ad a 14) 4 fun X=>bn (α:=Slc×Slc×Unit) (Q4 prog [.one
 .slc,.one .slc] 37 #[vs X]) fun Y=>sx (Addr.add (ad u 14) 4) (vs Y.1) fun _=>sx (Addr.add (ad M 14) 4) (vs Y.2.1) fun _=>jc a 8 fun Z=>jc a 8 fun iW=>bn (α:=Slc) (HM.slice Z none (some (if 80<(iW.len:Int) then
 80 else(iW.len:Int))) none 1) fun fU=>bn (α:=Int×Unit) (HM.loop (σ:=Int×Unit) (τ:=Int×Unit) (fun dS=>ie (decide (dS.1<(fU.len:Int))) (ix fU dS.1 1 fun gz=>lu gz fun eD=>jc u 8 fun eC=>jc M 8
 fun cT=>Y4 (nw #[.int .u8 eD] 63 fun gy=>jc M 8 fun gx=>rq (vs gx) (vs cT)<|jc u 8 fun gv=>rq (vs gv) (vs eC)<|Y4 (bn (α:=Slc) (HM.append 63 1 1 #[.int .u8 0] eC 1 (P8 1 (⟨some (az gy),1,
 1⟩))) fun gu=>jc M 8 fun gr=>rq (vs gr) (vs cT)<|nw #[vi (wi eD)] 3 fun gq=>jc M 8 fun fT=>rq (vs fT) (vs cT)<|jc u 8 fun iJ=>rq (vs iJ) (vs eC)<|bn (α:=Slc) (HM.append 3 1 8 #[vi 0] cT 1 (P8 1
 (⟨some (az gq),1,1⟩))) fun iI=>sw u 8 (vs gu) fun _=>sw M 8 (vs iI) fun _=>pu (.inl (wi (dS.1+1),()))) (nw #[vi (wi eD)] 3 fun kX=>jc M 8 fun kC=>rq (vs kC) (vs cT)<|jc u 8 fun kW=>rq (vs kW) (vs eC)
 <|bn (α:=Slc) (HM.append 63 1 1 #[.int .u8 0] eC 1 (P8 1 (⟨some (az gy),1,1⟩))) fun iH=>jc M 8 fun iG=>rq (vs iG) (vs cT)<|bn (α:=Slc) (HM.append 3 1 8 #[vi 0] cT 1 (P8 1 (⟨some (az kX),1,1⟩)))
 fun pG=>sw u 8 (vs iH) fun _=>sw M 8 (vs pG) fun _=>pu (.inl (wi (dS.1+1),())))) (nw #[vi (wi eD)] 3 fun pF=>jc M 8 fun pE=>rq (vs pE) (vs cT)<|jc u 8 fun pD=>rq (vs pD) (vs eC)<|nw #[.int .u8 eD] 63
 fun pC=>jc M 8 fun pB=>rq (vs pB) (vs cT)<|jc u 8 fun pA=>rq (vs pA) (vs eC)<|bn (α:=Slc) (HM.append 63 1 1 #[.int .u8 0] eC 1 (P8 1 (⟨some (az pC),1,1⟩))) fun pz=>jc M 8 fun py=>rq (vs py) (vs cT)
 <|bn (α:=Slc) (HM.append 3 1 8 #[vi 0] cT 1 (P8 1 (⟨some (az pF),1,1⟩))) fun px=>sw u 8 (vs pz) fun _=>sw M 8 (vs px) fun _=>pu (.inl (wi (dS.1+1),())))) (pu (.inr (dS.1,())))) (0,())) fun gA=>jc a
 24 fun pw=>jc a 24 fun nY=>bn (α:=Slc) (HM.slice pw none (some (if 80<(nY.len:Int) then 80 else(nY.len:Int))) none 5) fun nX=>bn (α:=Int×Unit) (HM.loop (σ:=Int×Unit) (τ:=Int×Unit) (fun iF=>ie
 (decide (iF.1<(nX.len:Int))) (ix nX iF.1 5 fun pv=>g2 pv fun pt=>nw zS2 150 fun dR=>sn dR (lS2 pt) fun _=>jc u 24 fun gp=>g2 (az dR) fun iV=>jc M 24 fun fe=>g2 (az dR) fun gn=>Y4 (nw (aS2 iV)
 151 fun nW=>g2 (az dR) fun pq=>rq (.agg (aS2 pq)) (.agg (aS2 gn))<|jc M 24 fun po=>rq (vs po) (vs fe)<|jc u 24 fun my=>rq (vs my) (vs gp)<|Y4 (bn (α:=Slc) (HM.append 151 5 40 zS2 gp 1 (P8 5
 (⟨some (az nW),1,1⟩))) fun mw=>g2 (az dR) fun mv=>rq (.agg (aS2 mv)) (.agg (aS2 gn))<|jc M 24 fun mu=>rq (vs mu) (vs fe)<|nw (aS2 gn) 152 fun mq=>jc M 24 fun mo=>rq (vs mo) (vs fe)<|g2 (az dR)
 fun mn=>rq (.agg (aS2 mn)) (.agg (aS2 iV))<|jc u 24 fun mm=>rq (vs mm) (vs gp)<|bn (α:=Slc) (HM.append 152 5 40 zS2 fe 1 (P8 5 (⟨some (az mq),1,1⟩))) fun mj=>sw u 24 (vs mw) fun _=>sw M 24 (vs
 mj) fun _=>pu (.inl (wi (iF.1+1),()))) (nw (aS2 gn) 152 fun mi=>jc M 24 fun mh=>rq (vs mh) (vs fe)<|g2 (az dR) fun mg=>rq (.agg (aS2 mg)) (.agg (aS2 iV))<|jc u 24 fun mf=>rq (vs mf) (vs gp)
 <|bn (α:=Slc) (HM.append 151 5 40 zS2 gp 1 (P8 5 (⟨some (az nW),1,1⟩))) fun me=>g2 (az dR) fun mc=>rq (.agg (aS2 mc)) (.agg (aS2 gn))<|jc M 24 fun mb=>rq (vs mb) (vs fe)<|bn (α:=Slc) (HM.append
 152 5 40 zS2 fe 1 (P8 5 (⟨some (az mi),1,1⟩))) fun ma=>sw u 24 (vs me) fun _=>sw M 24 (vs ma) fun _=>pu (.inl (wi (iF.1+1),())))) (nw (aS2 gn) 152 fun lZ=>jc M 24 fun lY=>rq (vs lY) (vs fe)
 <|g2 (az dR) fun lX=>rq (.agg (aS2 lX)) (.agg (aS2 iV))<|jc u 24 fun lW=>rq (vs lW) (vs gp)<|nw (aS2 iV) 151 fun lV=>g2 (az dR) fun lU=>rq (.agg (aS2 lU)) (.agg (aS2 gn))<|jc M 24 fun lT=>rq (vs
 lT) (vs fe)<|jc u 24 fun lS=>rq (vs lS) (vs gp)<|bn (α:=Slc) (HM.append 151 5 40 zS2 gp 1 (P8 5 (⟨some (az lV),1,1⟩))) fun lR=>g2 (az dR) fun lQ=>rq (.agg (aS2 lQ)) (.agg (aS2 gn))<|jc M 24
 fun lP=>rq (vs lP) (vs fe)<|bn (α:=Slc) (HM.append 152 5 40 zS2 fe 1 (P8 5 (⟨some (az lZ),1,1⟩))) fun lO=>sw u 24 (vs lR) fun _=>sw M 24 (vs lO) fun _=>pu (.inl (wi (iF.1+1),())))) (pu (.inr
 (iF.1,())))) (0,())) fun rV=>jc a 25 fun lN=>jc a 25 fun ja=>bn (α:=Slc) (HM.slice lN none (some (if 80<(ja.len:Int) then 80 else(ja.len:Int))) none 1) fun i'=>bn (α:=Int×Unit) (HM.loop (σ:=
 Int×Unit) (τ:=Int×Unit) (fun eE=>ie (decide (eE.1<(i'.len:Int))) (ix i' eE.1 1 fun lM=>lt lM fun ff=>jc u 25 fun dq=>jc M 25 fun cw=>Y4 (nw #[.string ff] 9 fun iZ=>jc M 25 fun
 lL=>rq (vs lL) (vs cw)<|jc u 25 fun lK=>rq (vs lK) (vs dq)<|Y4 (bn (α:=Slc) (HM.append 9 1 16 #[ve] dq 1 (P8 1 (⟨some (az iZ),1,1⟩))) fun lJ=>jc M 25 fun lI=>rq (vs lI) (vs cw)<|nw
 #[.string ff] 9 fun lH=>jc M 25 fun lG=>rq (vs lG) (vs cw)<|jc u 25 fun lF=>rq (vs lF) (vs dq)<|bn (α:=Slc) (HM.append 9 1 16 #[ve] cw 1 (P8 1 (⟨some (az lH),1,1⟩))) fun lE=>sw u 25 (vs
 lJ) fun _=>sw M 25 (vs lE) fun _=>pu (.inl (wi (eE.1+1),()))) (nw #[.string ff] 9 fun lD=>jc M 25 fun lC=>rq (vs lC) (vs cw)<|jc u 25 fun lB=>rq (vs lB) (vs dq)<|bn (α:=Slc) (HM.append 9 1 16
 #[ve] dq 1 (P8 1 (⟨some (az iZ),1,1⟩))) fun lA=>jc M 25 fun lz=>rq (vs lz) (vs cw)<|bn (α:=Slc) (HM.append 9 1 16 #[ve] cw 1 (P8 1 (⟨some (az lD),1,1⟩))) fun ly=>sw u 25 (vs lA) fun
 _=>sw M 25 (vs ly) fun _=>pu (.inl (wi (eE.1+1),())))) (nw #[.string ff] 9 fun lx=>jc M 25 fun lv=>rq (vs lv) (vs cw)<|jc u 25 fun lr=>rq (vs lr) (vs dq)<|nw #[.string ff] 9 fun lq=>jc M 25
 fun ln=>rq (vs ln) (vs cw)<|jc u 25 fun ll=>rq (vs ll) (vs dq)<|bn (α:=Slc) (HM.append 9 1 16 #[ve] dq 1 (P8 1 (⟨some (az lq),1,1⟩))) fun lk=>jc M 25 fun lj=>rq (vs lj) (vs cw)<|bn (α
 :=Slc) (HM.append 9 1 16 #[ve] cw 1 (P8 1 (⟨some (az lx),1,1⟩))) fun lh=>sw u 25 (vs lk) fun _=>sw M 25 (vs lh) fun _=>pu (.inl (wi (eE.1+1),())))) (pu (.inr (eE.1,())))) (0,())) fun pJ=>B7a
 (az u) fun lg=>g0 (az M) fun iY=>sn b (lS1 lg) fun _=>g0 (az M) fun la=>rq (.agg (aS0 la)) (.agg (aS0 iY))<|sn c (lS0 iY) fun _=>B7a (az b) fun aC=>g0 (az c) fun aB=>pu ((aC.1,aC.2.1,aC.2.2.1,
 aC.2.2.2.1,aC.2.2.2.2.1,(w5 aC),(w6 aC),(w7 aC),(w8 aC),(w9 aC),(w10 aC),(w11 aC),(w12 aC),(w13 aC),(w14 aC),(w15 aC),(w16 aC),(w17 aC),(w18 aC),(w19 aC),(w20 aC),
 (w21 aC),(w22 aC),(w23 aC),(w24 aC),(w25 aC),()),(aB.1,aB.2.1,aB.2.2.1,aB.2.2.2.1,aB.2.2.2.2.1,(w5 aB),(w6 aB),(w7 aB),(w8 aB),(w9 aB),(w10 aB),(w11 aB),(w12 aB),
 (w13 aB),(w14 aB),(w15 aB),(w16 aB),(w17 aB),(w18 aB),(w19 aB),(w20 aB),(w21 aB),(w22 aB),(w23 aB),(w24 aB),(w25 aB),()),())
theorem A3G(p0:yS0):HCs 17 #[.agg (aS1 p0)] (A3V p0) fun x=>.tuple #[.agg (aS1 x.1),.agg (aS0 x.2.1)]:=
 cE [.agg tS1,.agg tS0] [0,1,2,3,4,5,7,9,11,136,137,138,139,162,163,164,165,187,188,189,190] [0,1,2,3,4,5,7,9,11,136,137,138,139,162,163,164,165,187,188,189,190] func17 ntmps17 (CC call37 CN)
def B0Q(p0:yS0):HM (B1q×Int×Unit):=
 nw (aS0 p0) 103 fun a=>bn (α:=Bool×Unit) (ji a 0 fun b=>ie (decide (b<(1:Int))) (pu (true,())) (ji a 0 fun c=>pu (decide (15<(c:Int)),()))) fun d=>ie d.1 (pu (ByteArray.mk #[],129,())) (g0 (az a) fun
 e=>bn (α:=B1q×Int×Unit) (O3 prog (.agg [.str,.int .i64]) 38 #[.agg #[ve,vi 0],.agg (aS0 e)]) fun f=>nw #[ve,vi 0] 154 fun g=>sn g [.string f.1,vi f.2.1] fun _=>ji g 1 fun h=>ie (!(h==0)) (ji
 g 1 fun i=>pu (ByteArray.mk #[],i,())) (jt g 0 fun j=>ie (decide (65536<(((ByteArray.size j:Nat):Int):Int))) (pu (ByteArray.mk #[],149,())) (g0 (az a) fun k=>ci 39 #[.agg (aS0 k)] fun l=>ji a 0 fun m=>bn (α
 :=B1q×Int×Unit) (Q4 prog [.one .str,.one (.int .i64)] 40 #[vi 1,vi (wi ((wi (16*m))+l))]) fun n=>jt g 0 fun o=>bn (α:=B1q×Int×Unit) (Q4 prog [.one .str,.one (.int
 .i64)] 41 #[vi ((ByteArray.size o:Nat):Int)]) fun p=>P7 (ByteArray.size n.1+ByteArray.size p.1≤9223372036854775807)<|jt g 0 fun q=>P7 (ByteArray.size (n.1++p.1)+ByteArray.size q≤
 9223372036854775807)<|pu ((n.1++p.1)++q,0,()))))
theorem A7y(p0:yS0):HCs 18 #[.agg (aS0 p0)] (B0Q p0) fun x=>.tuple #[.string x.1,.int .i64 x.2.1]:=
 cE [.one .str,.one (.int .i64)] [0,1,2,3,4,5,6,8,17,23,29] [0,1,4,5,6,8,17,23,29] func18 ntmps18 (CC call38 (CC call39 (CC call40 (CC call41 CN))))
def B1g(p0:Int)(p1:B1q):HM (Value×Unit):=
 nw #[.int .u8 p0,.string p1,.nilIface] 161 fun a=>pu (.iface 159 (.pointer (some (az a))),())
theorem A7E(p0:Int)(p1:B1q):HCs 19 #[.int .u8 p0,.string p1] (B1g p0 p1) fun x=>x.1:=
 cE [.one .any] [0,1,4] [0,1] func19 ntmps19 CN
def A9s(p0:B1q)(p1:Value):HM (Value×Unit):=
 P7 (isIface (p1:Value)=true)<|ie (A0C p1) (pu (.nilIface,())) (cu 30 #[p1] fun a=>P7 (Value.oneCell' p1=true)<|nw #[.int .u8 a,.string p0,p1] 161 fun b=>pu (.iface 159 (.pointer (some (az b))),
 ()))
theorem A6k(p0:B1q)(p1:Value):HCs 21 #[.string p0,p1] (A9s p0 p1) fun x=>x.1:=
 cE [.one .any] [0,1,4,6] [0,1,6] func21 ntmps21 (CC call30 CN)
def A61(p0:Int×Int×B1q×Unit):HM (B1q×Unit):=
 nw #[vi p0.1,vi p0.2.1,.string p0.2.2.1] 40 fun a=>bn (α:=Bool×Unit) (ji a 0 fun b=>ie (decide (b<(0:Int))) (pu (true,())) (ji a 0 fun c=>ie (decide (5<(c:Int))) (pu (true,())) (ji a 1 fun d=>pu (d==
 (-9223372036854775808),())))) fun e=>ie e.1 (pu (ByteArray.mk #[],())) (ji a 1 fun f=>bn (α:=Int×Int×Unit) (ie (decide (f<(0:Int))) (pu (1,wi (0-f),())) (pu (0,f,()))) fun g=>ji a 0 fun h=>P7 ((0:
 Int)≤32)<|nw #[vi 1,vi h,vi 1,vi g.1,vi 4,vi (Int.fdiv g.2.1 (2 ^ (min (Int.toNat 32) (IntKind.bits .i64)))),vi 4,vi (A0e .and .i64 g.2.1 4294967295)] 190 fun i=>bn (α:=B1q×Int×Unit) (HM.loop (σ
 :=B1q×Int×Unit) (τ:=B1q×Int×Unit) (fun j=>ie (decide (j.2.1<(((4:Nat):Int):Int))) (bn (α:=Addr) (r8 (some (az i)) 4 j.2.1 2) fun k=>bn (α:=Int×Int×Unit) (N5 [.int .i64,
 .int .i64] k) fun l=>nw #[vi 0,vi 0] 190 fun m=>sn m [vi l.1,vi l.2.1] fun _=>bn (α:=Addr) (r8 (some (az m)) 2 0 1) fun n=>li n fun o=>bn (α:=Addr) (r8 (some (az m)) 2 1 1) fun p=>li p fun q=>bn (α:=
 B1q×Int×Unit) (Q4 prog [.one .str,.one (.int .u8)] 62 #[vi o,vi q]) fun r=>P7 (ByteArray.size j.1+ByteArray.size r.1≤9223372036854775807)<|pu (.inl (j.1++r.1,wi (j.2.1+1),()))) (pu
 (.inr (j.1,j.2.1,())))) (ByteArray.mk #[],0,())) fun s=>jt a 2 fun t=>P7 (ByteArray.size s.1+ByteArray.size t≤9223372036854775807)<|pu (s.1++t,()))
theorem A44(p0:Int×Int×B1q×Unit):HCs 25 #[.agg #[.int .i64 p0.1,.int .i64 p0.2.1,.string p0.2.2.1]] (A61 p0) fun x=>.string x.1:=
 cE [.one .str] [0,1,2,3,4,5,7,8,22,26,40,41,42,43] [0,1,3,4,5,7,8,22,26,40,41,42,43] func25 ntmps25 (CC call62 CN)
def A5q(p0:Value):HM (Int×Unit):=
 P7 (isIface (p0:Value)=true)<|ie (A0C p0) (pu (0,())) (nw #[.pointer none] 159 fun a=>bn (α:=Bool×Unit) (cb 76 #[p0,.iface 214 (.pointer (some (az a)))] fun b=>ie b (lp (az a) fun c=>pu
 (!(Option.isNone c),())) (pu (false,()))) fun d=>ie d.1 (lp (az a) fun e=>nn e fun f=>ku f 0 fun g=>pu (g,())) (pu (128,())))
theorem A4q(p0:Value):HCs 30 #[p0] (A5q p0) fun x=>.int .u8 x.1:=
 cE [.one (.int .u8)] [0,2,3,5,12] [0,3,5,12] func30 ntmps30 (CC call76 CN)
def A8P(p0:Int×Int×Slc×Slc×Unit):HM (Bool×Unit):=
 nw #[vi p0.1,vi p0.2.1,vs p0.2.2.1,vs p0.2.2.2.1] 143 fun a=>bn (α:=Bool×Unit) (ji a 0 fun b=>ie (decide (b<(0:Int))) (pu (true,())) (ji a 0 fun c=>ie (decide (8≤(c:Int))) (pu (true,())) (ji a 1 fun
 d=>ie (decide (d<(1:Int))) (pu (true,())) (ji a 1 fun e=>ie (decide (9007199254740992<(e:Int))) (pu (true,())) (jc a 2 fun f=>ie (decide (64<(f.len:Int))) (pu (true,())) (jc a 3 fun g=>pu (decide (16<
 (g.len:Int)),()))))))) fun h=>ie h.1 (pu (false,())) (bn (α:=(Int×Unit)⊕(Bool×Unit)) (HM.loop (σ:=Int×Unit) (τ:=(Int×Unit)⊕(Bool×Unit)) (fun i=>jc a 2 fun j=>ie (decide (i.1<(j.len:Int))) (jc
 a 2 fun k=>ix k i.1 1 fun l=>lt l fun m=>ci 88 #[.string m] fun n=>ie (!(n==0)) (pu (.inr (.inr (false,())))) (pu (.inl (wi (i.1+1),())))) (pu (.inr (.inl (i.1,()))))) (0,())) (Sum.elim (fun o=>bn (α:=(Int×
 Unit)⊕(Bool×Unit)) (HM.loop (σ:=Int×Unit) (τ:=(Int×Unit)⊕(Bool×Unit)) (fun p=>jc a 3 fun q=>ie (decide (p.1<(q.len:Int))) (jc a 3 fun r=>ix r p.1 6 fun s=>bn (α:=Int×B1q×Int×Int×
 B1q×B1q×Unit) (N5 [.int .i64,.str,.int .i64,.int .i64,.str,.str] s) fun t=>nw #[vi 0,ve,vi 0,vi 0,ve,ve] 79 fun u=>sn u [vi t.1,.string t.2.1,vi t.2.2.1,vi t.2.2.2.1,.string
 t.2.2.2.2.1,.string (w5 t)] fun _=>g3 (ad u 1) fun v=>ci 89 #[.agg (aS3 v)] fun w=>bn (α:=Bool×Unit) (ji u 0 fun x=>ie (decide (x<(0:Int))) (pu (true,())) (ji u 0 fun y=>ie (decide (8≤(y:Int))) (pu (true,
 ())) (ji u 0 fun z=>ji a 0 fun A=>ie (z==A) (pu (true,())) (pu (!(w==0),()))))) fun B=>ie B.1 (pu (.inr (.inr (false,())))) (pu (.inl (wi (p.1+1),())))) (pu (.inr (.inl (p.1,()))))) (0,())) (Sum.elim (fun
 C=>pu (true,())) O9)) O9))
theorem A5W(p0:Int×Int×Slc×Slc×Unit):HCs 35 #[.agg #[.int .i64 p0.1,.int .i64 p0.2.1,.slice p0.2.2.1.a p0.2.2.1.len p0.2.2.1.cap,.slice p0.2.2.2.1.a p0.2.2.2.1.len p0.2.2.2.1.cap]] (A8P p0) fun x=>.bool x.1:=
 cE [.one .bool] [0,1,2,3,4,5,6,7,37,42,52,57,86] [0,1,3,4,5,6,7,37,42,52,57,86] func35 ntmps35 (CC call88 (CC call89 CN))
def A9R(p0:Int×Int×Slc×Slc×Unit):HM (B1q×Int×Unit):=
 nw #[vi p0.1,vi p0.2.1,vs p0.2.2.1,vs p0.2.2.2.1] 146 fun a=>bn (α:=Int×Int×Slc×Slc×Unit) (N5 [.int .i64,.int .i64,.slc,.slc] (az a)) fun b=>cb 90 #[.agg #[vi b.1,vi b.2.1,vs b.2.2.1,vs
 b.2.2.2.1]] fun c=>ie (!c) (pu (ByteArray.mk #[],129,())) (nw #[.pointer none,vz] 206 fun d=>ji a 0 fun e=>bn (α:=Unit) (A1q prog [] (.func (.func 91) #[] #[.pointer (some (az d))]) #[vi 1,vi e]) fun
 f=>ji a 1 fun g=>P7 ((0:Int)≤32)<|bn (α:=Unit) (A1q prog [] (.func (.func 91) #[] #[.pointer (some (az d))]) #[vi 4,vi (Int.fdiv g (2 ^ (min (Int.toNat 32) (IntKind.bits .i64))))]) fun h=>ji a 1
 fun i=>bn (α:=Unit) (A1q prog [] (.func (.func 91) #[] #[.pointer (some (az d))]) #[vi 4,vi (A0e .and .i64 i 4294967295)]) fun j=>jc a 2 fun k=>bn (α:=Unit) (A1q prog [] (.func (.func 91) #[]
 #[.pointer (some (az d))]) #[vi 1,vi (k.len:Int)]) fun l=>jc a 2 fun m=>bn (α:=Unit) (A1q prog [] (.func (.func 93) #[] #[.pointer (some (az d))]) #[vs m]) fun n=>jc a 3 fun o=>bn (α:=Unit) (A1q
 prog [] (.func (.func 91) #[] #[.pointer (some (az d))]) #[vi 1,vi (o.len:Int)]) fun p=>jc a 3 fun q=>bn (α:=Int×Unit) (HM.loop (σ:=Int×Unit) (τ:=Int×Unit) (fun r=>ie (decide (r.1<(q.len:Int)))
 (ix q r.1 6 fun s=>bn (α:=Int×B1q×Int×Int×B1q×B1q×Unit) (N5 [.int .i64,.str,.int .i64,.int .i64,.str,.str] s) fun t=>nw #[vi 0,ve,vi 0,vi 0,ve,ve] 77 fun u=>sn u [vi t.1,
 .string t.2.1,vi t.2.2.1,vi t.2.2.2.1,.string t.2.2.2.2.1,.string (w5 t)] fun _=>ji u 0 fun v=>bn (α:=Unit) (A1q prog [] (.func (.func 91) #[] #[.pointer (some (az d))]) #[vi 1,vi v]) fun w=>ki (ad u 1)
 1 fun x=>bn (α:=Unit) (A1q prog [] (.func (.func 91) #[] #[.pointer (some (az d))]) #[vi 1,vi x]) fun y=>ki (ad u 1) 2 fun z=>bn (α:=Unit) (A1q prog [] (.func (.func 91) #[] #[.pointer (some
 (az d))]) #[vi 1,vi z]) fun A=>kt (ad u 1) 0 fun B=>kt (ad u 1) 3 fun C=>kt (ad u 1) 4 fun D=>nw #[.string B,.string C,.string D] 9 fun E=>bn (α:=Unit) (A1q prog [] (.func (.func 93) #[] #[.pointer (some
 (az d))]) #[.slice (some (az E)) 3 3]) fun F=>pu (.inl (wi (r.1+1),()))) (pu (.inr (r.1,())))) (0,())) fun G=>ct 75 #[.pointer (some (az d))] fun H=>pu (H,0,()))
theorem A6w(p0:Int×Int×Slc×Slc×Unit):HCs 36 #[.agg #[.int .i64 p0.1,.int .i64 p0.2.1,.slice p0.2.2.1.a p0.2.2.1.len p0.2.2.1.cap,.slice p0.2.2.2.1.a p0.2.2.2.1.len p0.2.2.2.1.cap]] (A9R p0) fun x=>.tuple #[.string x.1,.int .u8 x.2.1]:=
 cE [.one .str,.one (.int .u8)] [0,1,2,3,4,5,6,8,11,43,44,45,46] [0,1,4,5,6,8,11,43,44,45,46] func36 ntmps36 (CC call90 (CC call75 CN))
def A65(p0:Slc):HM (Slc×Slc×Unit):=
 bn (α:=Slc) (HM.slice p0 none (some (if 80<(p0.len:Int) then 80 else(p0.len:Int))) none 4) fun a=>bn (α:=Slc×Slc×Int×Unit) (HM.loop (σ:=Slc×Slc×Int×Unit) (τ:=Slc×Slc×Int×Unit) (fun b=>ie
 (decide (b.2.2.1<(a.len:Int))) (ix a b.2.2.1 4 fun c=>g5 c fun d=>nw zS5 88 fun e=>sn e (lS5 d) fun _=>g5 (az e) fun f=>g5 (az e) fun g=>Y4 (nw (aS5 f) 252 fun h=>g5 (az e) fun i=>rq (.agg (aS5 i)) (.agg (aS5
 g))<|Y4 (bn (α:=Slc) (HM.append 252 4 48 zS5 b.1 1 (P8 4 (⟨some (az h),1,1⟩))) fun j=>g5 (az e) fun k=>rq (.agg (aS5 k)) (.agg (aS5 g))<|nw (aS5 g) 253 fun l=>g5 (az e) fun m=>rq (.agg (aS5 m)) (.agg (aS5
 f))<|bn (α:=Slc) (HM.append 253 4 48 zS5 b.2.1 1 (P8 4 (⟨some (az l),1,1⟩))) fun n=>pu (.inl (j,n,wi (b.2.2.1+1),()))) (nw (aS5 g) 253 fun o=>g5 (az e) fun p=>rq (.agg (aS5 p)) (.agg (aS5 f))<|bn (α:=
 Slc) (HM.append 252 4 48 zS5 b.1 1 (P8 4 (⟨some (az h),1,1⟩))) fun q=>g5 (az e) fun r=>rq (.agg (aS5 r)) (.agg (aS5 g))<|bn (α:=Slc) (HM.append 253 4 48 zS5 b.2.1 1 (P8 4 (⟨some (az o),1,1⟩))) fun s=>pu
 (.inl (q,s,wi (b.2.2.1+1),())))) (nw (aS5 g) 253 fun t=>g5 (az e) fun u=>rq (.agg (aS5 u)) (.agg (aS5 f))<|nw (aS5 f) 252 fun v=>g5 (az e) fun w=>rq (.agg (aS5 w)) (.agg (aS5 g))<|bn (α:=Slc) (HM.append 252 4 48
 zS5 b.1 1 (P8 4 (⟨some (az v),1,1⟩))) fun x=>g5 (az e) fun y=>rq (.agg (aS5 y)) (.agg (aS5 g))<|bn (α:=Slc) (HM.append 253 4 48 zS5 b.2.1 1 (P8 4 (⟨some (az t),1,1⟩))) fun z=>pu (.inl (x,z,wi (b.2.2.1+
 1),())))) (pu (.inr (b.1,b.2.1,b.2.2.1,())))) (⟨none,0,0⟩,⟨none,0,0⟩,0,())) fun A=>pu (A.1,A.2.1,())
theorem A5b(p0:Slc):HCs 37 #[.slice p0.a p0.len p0.cap] (A65 p0) fun x=>.tuple #[.slice x.1.a x.1.len x.1.cap,.slice x.2.1.a x.2.1.len x.2.1.cap]:=
 cE [.one .slc,.one .slc] [0,2,3,4,5,7,12,13,14,15] [0,4,5,7,12,13,14,15] func37 ntmps37 CN
def A8V(p0:B1q×Int×Unit)(p1:yS0):HM ((B1q×Int×Unit)×Unit):=
 nw #[.string p0.1,vi p0.2.1] 154 fun a=>nw (aS0 p1) 103 fun b=>nw #[ve,vi 0] 154 fun c=>ji b 0 fun d=>ie (d==1) (bn (α:=B1q×Int×Unit) (N5 [.str,.int .i64] (az a)) fun e=>g0 (az b) fun f=>bn (α:=
 B1q×Int×Unit) (O3 prog (.agg [.str,.int .i64]) 95 #[.agg #[.string e.1,vi e.2.1],.agg (aS0 f)]) fun g=>sn c [.string g.1,vi g.2.1] fun _=>bn (α:=B1q×Int×Unit) (N5 [.str,.int
 .i64] (az c)) fun h=>pu ((h.1,h.2.1,()),())) (ie (d==2) (jb b 23 fun i=>ci 96 #[.bool i,vi 1] fun j=>bn (α:=B1q×Int×Unit) (N5 [.str,.int .i64] (az a)) fun k=>bn (α:=B1q×Int×Unit)
 (O3 prog (.agg [.str,.int .i64]) 97 #[.agg #[.string k.1,vi k.2.1],vi 1,vi j]) fun l=>sn a [.string l.1,vi l.2.1] fun _=>bn (α:=B1q×Int×Unit) (N5 [.str,.int .i64] (az a)) fun m=>ji b 7
 fun n=>bn (α:=B1q×Int×Unit) (O3 prog (.agg [.str,.int .i64]) 97 #[.agg #[.string m.1,vi m.2.1],vi 1,vi n]) fun o=>sn a [.string o.1,vi o.2.1] fun _=>bn (α:=B1q×Int×Unit) (N5
 [.str,.int .i64] (az a)) fun p=>jc b 9 fun q=>bn (α:=B1q×Int×Unit) (O3 prog (.agg [.str,.int .i64]) 98 #[.agg #[.string p.1,vi p.2.1],vi 2,vs q]) fun r=>sn c [.string r.1,vi r.2.1] fun _=>bn
 (α:=B1q×Int×Unit) (N5 [.str,.int .i64] (az c)) fun s=>pu ((s.1,s.2.1,()),())) (ie (d==3) (bn (α:=B1q×Int×Unit) (N5 [.str,.int .i64] (az a)) fun t=>ji b 3 fun u=>bn (α:=
 B1q×Int×Unit) (O3 prog (.agg [.str,.int .i64]) 99 #[.agg #[.string t.1,vi t.2.1],vi u]) fun v=>sn a [.string v.1,vi v.2.1] fun _=>bn (α:=Bool×Unit) (jb b 1 fun w=>ie w (ji b 3 fun x=>pu (x==
 0,())) (pu (false,()))) fun y=>bn (α:=Unit) (ie y.1 (bn (α:=B1q×Int×Unit) (N5 [.str,.int .i64] (az a)) fun z=>bn (α:=B1q×Int×Unit) (O3 prog (.agg [.str,.int .i64]) 100
 #[.agg #[.string z.1,vi z.2.1],ve,vi 129]) fun A=>sn a [.string A.1,vi A.2.1] fun _=>pu ()) (pu ())) fun B=>bn (α:=B1q×Int×Unit) (N5 [.str,.int .i64] (az a)) fun C=>jt b 5 fun D=>bn (α:=B1q
 ×Int×Unit) (O3 prog (.agg [.str,.int .i64]) 101 #[.agg #[.string C.1,vi C.2.1],.string D]) fun E=>sn a [.string E.1,vi E.2.1] fun _=>ji b 3 fun F=>bn (α:=Unit) (ie (decide (0<(F:Int))) (bn (α:=
 B1q×Int×Unit) (N5 [.str,.int .i64] (az a)) fun G=>ji b 4 fun H=>bn (α:=B1q×Int×Unit) (O3 prog (.agg [.str,.int .i64]) 102 #[.agg #[.string G.1,vi G.2.1],vi H]) fun I=>sn a
 [.string I.1,vi I.2.1] fun _=>pu ()) (pu ())) fun J=>bn (α:=B1q×Int×Unit) (N5 [.str,.int .i64] (az a)) fun K=>jc b 9 fun L=>bn (α:=B1q×Int×Unit) (O3 prog (.agg [.str,.int
 .i64]) 98 #[.agg #[.string K.1,vi K.2.1],vi 3,vs L]) fun M=>sn a [.string M.1,vi M.2.1] fun _=>bn (α:=B1q×Int×Unit) (N5 [.str,.int .i64] (az a)) fun N=>jt b 6 fun O=>bn (α:=B1q×Int×
 Unit) (O3 prog (.agg [.str,.int .i64]) 100 #[.agg #[.string N.1,vi N.2.1],.string O,vi 0]) fun P=>sn c [.string P.1,vi P.2.1] fun _=>bn (α:=B1q×Int×Unit) (N5 [.str,.int .i64] (az c))
 fun Q=>pu ((Q.1,Q.2.1,()),())) (bn (α:=Bool×Unit) (ie (d==4) (pu (d==4,())) (bn (α:=Bool×Unit) (ie (d==5) (pu (d==5,())) (bn (α:=Bool×Unit) (ie (d==6) (pu (d==6,())) (pu (d==7,()))) fun
 R=>pu (R.1,()))) fun S=>pu (S.1,()))) fun T=>ie T.1 (bn (α:=B1q×Int×Unit) (N5 [.str,.int .i64] (az a)) fun U=>ji b 4 fun V=>bn (α:=B1q×Int×Unit) (O3 prog (.agg [.str,.int
 .i64]) 102 #[.agg #[.string U.1,vi U.2.1],vi V]) fun W=>sn a [.string W.1,vi W.2.1] fun _=>bn (α:=B1q×Int×Unit) (N5 [.str,.int .i64] (az a)) fun X=>g0 (az b) fun Y=>bn (α:=B1q×Int×Unit)
 (O3 prog (.agg [.str,.int .i64]) 103 #[.agg #[.string X.1,vi X.2.1],.agg (aS0 Y)]) fun Z=>sn c [.string Z.1,vi Z.2.1] fun _=>bn (α:=B1q×Int×Unit) (N5 [.str,.int .i64] (az c)) fun iW=>pu
 ((iW.1,iW.2.1,()),())) (bn (α:=Bool×Unit) (ie (d==14) (pu (d==14,())) (pu (d==15,()))) fun fU=>ie fU.1 (bn (α:=B1q×Int×Unit) (N5 [.str,.int .i64] (az a)) fun gA=>g0 (az b) fun
 dS=>bn (α:=B1q×Int×Unit) (O3 prog (.agg [.str,.int .i64]) 103 #[.agg #[.string gA.1,vi gA.2.1],.agg (aS0 dS)]) fun gz=>sn c [.string gz.1,vi gz.2.1] fun _=>bn (α:=B1q×Int×
 Unit) (N5 [.str,.int .i64] (az c)) fun eD=>pu ((eD.1,eD.2.1,()),())) (bn (α:=Bool×Unit) (ie (d==8) (pu (d==8,())) (bn (α:=Bool×Unit) (ie (d==9) (pu (d==9,())) (bn (α:=Bool×Unit) (ie (d
 ==10) (pu (d==10,())) (pu (d==11,()))) fun gy=>pu (gy.1,()))) fun cT=>pu (cT.1,()))) fun eC=>ie eC.1 (bn (α:=B1q×Int×Unit) (N5 [.str,.int .i64] (az a)) fun gx=>g0 (az b) fun gv=>bn (α
 :=B1q×Int×Unit) (O3 prog (.agg [.str,.int .i64]) 104 #[.agg #[.string gx.1,vi gx.2.1],.agg (aS0 gv)]) fun gu=>sn c [.string gu.1,vi gu.2.1] fun _=>bn (α:=B1q×Int×Unit)
 (N5 [.str,.int .i64] (az c)) fun gr=>pu ((gr.1,gr.2.1,()),())) (bn (α:=B1q×Int×Unit) (N5 [.str,.int .i64] (az a)) fun gq=>sn c [.string gq.1,vi gq.2.1] fun _=>bn (α:=B1q×Int
 ×Unit) (N5 [.str,.int .i64] (az c)) fun fT=>pu ((fT.1,fT.2.1,()),())))))))
theorem A50(p0:B1q×Int×Unit)(p1:yS0):HCs 38 #[.agg #[.string p0.1,.int .i64 p0.2.1],.agg (aS0 p1)] (A8V p0 p1) fun x=>.agg #[.string x.1.1,.int .i64 x.1.2.1]:=
 cE [.agg [.str,.int .i64]] [0,1,2,3,4,5,7,8,13,29,41,50,63,75,81] [0,1,2,3,4,5,7,8,13,29,41,50,63,75,81] func38 ntmps38 (CC call95 (CC call96 (CC call97 (CC call98 (CC call99 (CC call100 (CC call101 (CC call102 (CC call103 (CC call104 CN))))))))))
def A6Q(p0:yS0):HM (Int×Unit):=
 nw (aS0 p0) 103 fun a=>ji a 0 fun b=>bn (α:=Bool×Unit) (ie (b==6) (pu (b==6,())) (bn (α:=Bool×Unit) (ie (b==8) (pu (b==8,())) (pu (b==10,()))) fun c=>pu (c.1,()))) fun d=>ie d.1 (pu (2,())) (ie (b
 ==3) (jb a 1 fun e=>ci 96 #[.bool e,vi 8] fun f=>jb a 2 fun g=>ci 96 #[.bool g,vi 1] fun h=>ji a 3 fun i=>pu (wi ((wi (f+(wi (2*i))))+h),())) (pu (0,())))
theorem A4S(p0:yS0):HCs 39 #[.agg (aS0 p0)] (A6Q p0) fun x=>.int .i64 x.1:=
 cE [.one (.int .i64)] [0,1,2,3,4,6,7,11] [0,1,3,4,6,7,11] func39 ntmps39 (CC call96 CN)
def A2v(p0:Int)(p1:Int):HM (B1q×Int×Unit):=
 ci 105 #[vi p0] fun a=>ie (a==0) (pu (ByteArray.mk #[],128,())) (bn (α:=Bool×Unit) (ie (decide (p1<(0:Int))) (pu (true,())) (pu (decide (a≤(p1:Int)),()))) fun b=>ie b.1 (pu (ByteArray.mk #[],129,()))
 (bn (α:=B1q×Int×Int×Unit) (HM.loop (σ:=B1q×Int×Int×Unit) (τ:=B1q×Int×Int×Unit) (fun c=>ie (decide (c.2.2.1<(p0:Int))) (P7 (256≠(0:Int))<|nw #[.int .u8 (IntKind.wrap
 .u8 (Int.tmod c.2.1 256))] 5 fun d=>bn (α:=B1q) (y8 (⟨some (az d),1,1⟩)) fun e=>P7 (ByteArray.size e+ByteArray.size c.1≤9223372036854775807)<|P7 (256≠(0:Int))<|pu (.inl (e++c.1,wi
 (Int.tdiv c.2.1 256),wi (c.2.2.1+1),()))) (pu (.inr (c.1,c.2.1,c.2.2.1,())))) (ByteArray.mk #[],p1,0,())) fun f=>pu (f.1,0,())))
theorem A0L(p0:Int)(p1:Int):HCs 40 #[.int .i64 p0,.int .i64 p1] (A2v p0 p1) fun x=>.tuple #[.string x.1,.int .i64 x.2.1]:=
 cE [.one .str,.one (.int .i64)] [0,1,4,5,6,7,8,12,19,22] [0,1,6,7,8,12,19,22] func40 ntmps40 (CC call105 CN)
def B0T(p0:Int):HM (B1q×Int×Unit):=
 ci 106 #[vi p0] fun a=>ie (a==0) (pu (ByteArray.mk #[],129,())) (bn (α:=B1q×Int×Int×Unit) (HM.loop (σ:=B1q×Int×Int×Unit) (τ:=B1q×Int×Int×Unit) (fun b=>ie (decide (b.2.2.1<
 (a:Int))) (P7 (128≠(0:Int))<|bn (α:=Int×Unit) (ie (decide (b.2.2.1<((wi (a-1)):Int))) (pu (wi ((Int.tmod b.2.1 128)+128),())) (pu (Int.tmod b.2.1 128,()))) fun c=>nw #[.int .u8 (IntKind.wrap .u8
 c.1)] 5 fun d=>bn (α:=B1q) (y8 (⟨some (az d),1,1⟩)) fun e=>P7 (ByteArray.size b.1+ByteArray.size e≤9223372036854775807)<|P7 (128≠(0:Int))<|pu (.inl (b.1++e,wi (Int.tdiv b.2.1 128),wi
 (b.2.2.1+1),()))) (pu (.inr (b.1,b.2.1,b.2.2.1,())))) (ByteArray.mk #[],p0,0,())) fun f=>pu (f.1,0,()))
theorem A7B(p0:Int):HCs 41 #[.int .i64 p0] (B0T p0) fun x=>.tuple #[.string x.1,.int .i64 x.2.1]:=
 cE [.one .str,.one (.int .i64)] [0,2,3,4,5,6,7,11,14,22] [0,4,5,6,7,11,14,22] func41 ntmps41 (CC call106 CN)
def A1t(p0:Int)(p1:Int):HM (B1q×Int×Unit):=
 cb 120 #[vi p0] fun a=>ie (!a) (pu (ByteArray.mk #[],128,())) (bn (α:=Bool×Unit) (ie (decide (p1<(0:Int))) (pu (true,())) (P7 ((0:Int)≤(wi (8*p0)))<|pu (decide ((wi (1*2 ^ (min (Int.toNat (wi (8
 *p0))) (IntKind.bits .i64))))≤(p1:Int)),()))) fun b=>ie b.1 (pu (ByteArray.mk #[],129,())) (bn (α:=Slc×Int×Unit) (HM.loop (σ:=Slc×Int×Unit) (τ:=Slc×Int×Unit) (fun c=>ie (decide (0≤(c.2.1:
 Int))) (P7 ((0:Int)≤(wi (8*c.2.1)))<|nw #[.int .u8 (IntKind.wrap .u8 (Int.fdiv p1 (2 ^ (min (Int.toNat (wi (8*c.2.1))) (IntKind.bits .i64)))))] 5 fun d=>bn (α:=Slc) (HM.append 5 1 1 #[.int .u8 0] c.1 1
 (P8 1 (⟨some (az d),1,1⟩))) fun e=>pu (.inl (e,wi (c.2.1-1),()))) (pu (.inr (c.1,c.2.1,())))) (⟨none,0,0⟩,wi (p0-1),())) fun f=>bn (α:=B1q) (y8 f.1) fun g=>pu (g,0,())))
theorem A0u(p0:Int)(p1:Int):HCs 62 #[.int .i64 p0,.int .i64 p1] (A1t p0 p1) fun x=>.tuple #[.string x.1,.int .u8 x.2.1]:=
 cE [.one .str,.one (.int .u8)] [0,1,4,5,6,7,8,12,25] [0,1,6,7,8,12,25] func62 ntmps62 (CC call120 CN)
def A0K(p0:B1q):HM (Int×Unit):=
 cb 170 #[.string p0] fun a=>ie (!a) (pu (143,())) (cc 171 #[.string p0] fun b=>bn (α:=(Int×Unit)⊕(Int×Unit)) (HM.loop (σ:=Int×Unit) (τ:=(Int×Unit)⊕(Int×Unit)) (fun c=>ie (decide (c.1<(b.len:
 Int))) (ix b c.1 1 fun d=>lt d fun e=>cb 172 #[.string e,.int .u8 43] fun f=>ix b c.1 1 fun g=>lt g fun h=>cb 172 #[.string h,.int .u8 35] fun i=>bn (α:=Bool×Unit) (ie f (ix b c.1 1 fun j=>lt j fun k=>pu (!(decide
 (k=(ByteArray.mk #[43]))),())) (pu (false,()))) fun l=>ie l.1 (pu (.inr (.inr (143,())))) (bn (α:=Bool×Unit) (ie i (ix b c.1 1 fun m=>lt m fun n=>ie (!(decide (n=(ByteArray.mk #[35])))) (pu (true,())) (pu
 (decide (c.1<((wi ((b.len:Int)-1)):Int)),()))) (pu (false,()))) fun o=>ie o.1 (pu (.inr (.inr (143,())))) (pu (.inl (wi (c.1+1),()))))) (pu (.inr (.inl (c.1,()))))) (0,())) (Sum.elim (fun p=>pu (0,()))
 O9))
theorem A07(p0:B1q):HCs 88 #[.string p0] (A0K p0) fun x=>.int .i64 x.1:=
 cE [.one (.int .i64)] [0,2,3,4,5,6,7,11,17,37,52] [0,3,4,5,6,7,11,17,37,52] func88 ntmps88 (CC call170 (CC call171 (CC call172 CN)))
def A6M(p0:yS3):HM (Int×Unit):=
 nw (aS3 p0) 73 fun a=>jt a 0 fun b=>ci 88 #[.string b] fun c=>jt a 3 fun d=>ci 173 #[.string d] fun e=>jt a 4 fun f=>ci 173 #[.string f] fun g=>ie (!(c==0)) (pu (143,())) (bn (α:=Bool×Unit) (jt a 3 fun h=>ie
 (!(decide (h=es))) (ie (!(e==0)) (pu (true,())) (jt a 4 fun i=>ie (!(decide (i=es))) (pu (!(g==0),())) (pu (false,())))) (jt a 4 fun j=>ie (!(decide (j=es))) (pu (!(g==0),())) (pu (false,())))) fun k=>ie
 k.1 (pu (144,())) (bn (α:=Bool×Unit) (ji a 1 fun l=>ie (decide (l<(0:Int))) (pu (true,())) (ji a 1 fun m=>pu (decide (2<(m:Int)),()))) fun n=>ie n.1 (pu (128,())) (bn (α:=Bool×Unit) (ji a 2 fun o=>ie
 (decide (o<(0:Int))) (pu (true,())) (ji a 2 fun p=>pu (decide (2<(p:Int)),()))) fun q=>ie q.1 (pu (155,())) (pu (0,())))))
theorem A4M(p0:yS3):HCs 89 #[.agg (aS3 p0)] (A6M p0) fun x=>.int .i64 x.1:=
 cE [.one (.int .i64)] [0,1,2,3,4,5,16,32,40,48] [0,1,3,4,5,16,32,40,48] func89 ntmps89 (CC call88 (CC call173 CN))
def A0H(p0:Int×Int×Slc×Slc×Unit):HM (Bool×Unit):=
 nw #[vi p0.1,vi p0.2.1,vs p0.2.2.1,vs p0.2.2.2.1] 146 fun a=>bn (α:=Bool×Unit) (ji a 0 fun b=>cb 174 #[vi b] fun c=>ie (!c) (pu (true,())) (ji a 1 fun d=>ie (decide (d<(1:Int))) (pu (true,())) (ji a 1 fun
 e=>ie (decide (9007199254740992<(e:Int))) (pu (true,())) (jc a 2 fun f=>ie (decide (64<(f.len:Int))) (pu (true,())) (jc a 3 fun g=>pu (decide (16<(g.len:Int)),())))))) fun h=>ie h.1 (pu (false,())) (jc a
 2 fun i=>cb 175 #[vs i,.func (.func 176) #[] #[]] fun j=>bn (α:=Bool×Unit) (ie (!j) (jc a 3 fun k=>cb 178 #[vs k,.func (.func 179) #[] #[.pointer (some (az a))]] fun l=>pu (!l,())) (pu (false,()))) fun m=>pu
 (m.1,()))
theorem A03(p0:Int×Int×Slc×Slc×Unit):HCs 90 #[.agg #[.int .i64 p0.1,.int .i64 p0.2.1,.slice p0.2.2.1.a p0.2.2.1.len p0.2.2.1.cap,.slice p0.2.2.2.1.a p0.2.2.2.1.len p0.2.2.2.1.cap]] (A0H p0) fun x=>.bool x.1:=
 cE [.one .bool] [0,1,2,3,29] [0,1,3,29] func90 ntmps90 (CC call174 (CC call175 (CC call178 CN)))
def A31(p0:Int)(p1:Int)(p2:Addr):HM (Unit):=
 bn (α:=B1q×Int×Unit) (Q4 prog [.one .str,.one (.int .u8)] 62 #[vi p0,vi p1]) fun a=>bn (α:=Int×Value×Unit) (Q4 prog [.one (.int .i64),.one .any] 92 #[.pointer (some p2),
 .string a.1]) fun b=>pu ()
theorem A3O(p0:Int)(p1:Int)(p2:Addr):HCs 91 #[.int .i64 p0,.int .i64 p1,.pointer (some p2)] (A31 p0 p1 p2) fun x=>.tuple #[]:=
 cE [] [0,1,2,5] [0,1,2,5] func91 ntmps91 (CC call62 (CC call92 CN))
def X8(p0:C3C)(p1:B1q):HM (Int×Value×Unit):=
 cx 180 #[.pointer p0] fun a=>nn p0 fun b=>kc b 1 fun c=>bn (α:=Slc) (HM.append 5 1 1 #[.int .u8 0] c (ByteArray.size p1) (A5S p1)) fun d=>nn p0 fun e=>sx (Addr.add e 1) (vs d) fun _=>pu (((ByteArray.size p1:Nat)
 :Int),.nilIface,())
theorem k8(p0:C3C)(p1:B1q):HCs 92 #[.pointer p0,.string p1] (X8 p0 p1) fun x=>.tuple #[.int .i64 x.1,x.2.1]:=
 cE [.one (.int .i64),.one .any] [0,1,4,5] [0,1] func92 ntmps92 (CC call180 CN)
def A30(p0:Slc)(p1:Addr):HM (Unit):=
 bn (α:=Int×Unit) (HM.loop (σ:=Int×Unit) (τ:=Int×Unit) (fun a=>ie (decide (a.1<(p0.len:Int))) (ix p0 a.1 1 fun b=>lt b fun c=>bn (α:=B1q×Int×Unit) (Q4 prog [.one .str,.one (.int
 .u8)] 94 #[.string c]) fun d=>bn (α:=Int×Value×Unit) (Q4 prog [.one (.int .i64),.one .any] 92 #[.pointer (some p1),.string d.1]) fun e=>pu (.inl (wi (a.1+1),()))) (pu (.inr (a.1,())))) (0,())) fun
 f=>pu ()
theorem A3N(p0:Slc)(p1:Addr):HCs 93 #[.slice p0.a p0.len p0.cap,.pointer (some p1)] (A30 p0 p1) fun x=>.tuple #[]:=
 cE [] [0,1,4,5,7,8,9,10] [0,1,4,5,7,8,9,10] func93 ntmps93 (CC call94 (CC call92 CN))
def A6D(p0:B1q):HM (B1q×Int×Unit):=
 ie (decide (65535<(((ByteArray.size p0:Nat):Int):Int))) (pu (ByteArray.mk #[],149,())) (bn (α:=B1q×Int×Unit) (Q4 prog [.one .str,.one (.int .u8)] 62 #[vi 2,vi ((ByteArray.size p0:
 Nat):Int)]) fun a=>P7 (ByteArray.size a.1+ByteArray.size p0≤9223372036854775807)<|pu (a.1++p0,0,()))
theorem A4F(p0:B1q):HCs 94 #[.string p0] (A6D p0) fun x=>.tuple #[.string x.1,.int .u8 x.2.1]:=
 cE [.one .str,.one (.int .u8)] [0,2,3,4,8] [0,4,8] func94 ntmps94 (CC call62 CN)
def A3R(p0:B1q×Int×Unit)(p1:yS0):HM ((B1q×Int×Unit)×Unit):=
 nw #[.string p0.1,vi p0.2.1] 154 fun a=>nw (aS0 p1) 103 fun b=>nw #[ve,vi 0] 154 fun c=>bn (α:=B1q×Int×Unit) (N5 [.str,.int .i64] (az a)) fun d=>bn (α:=B1q×Int×Unit) (O3 prog
 (.agg [.str,.int .i64]) 101 #[.agg #[.string d.1,vi d.2.1],.string (ByteArray.mk #[77,81,84,84])]) fun e=>sn a [.string e.1,vi e.2.1] fun _=>bn (α:=B1q×Int×Unit) (N5 [.str,.int .i64] (az a)) fun
 f=>bn (α:=B1q×Int×Unit) (O3 prog (.agg [.str,.int .i64]) 97 #[.agg #[.string f.1,vi f.2.1],vi 1,vi 5]) fun g=>sn a [.string g.1,vi g.2.1] fun _=>jb b 11 fun h=>ci 96 #[.bool h,vi 2] fun i=>jb
 b 20 fun j=>ci 96 #[.bool j,vi 64] fun k=>jb b 19 fun l=>ci 96 #[.bool l,vi 128] fun m=>jb b 13 fun n=>bn (α:=Int×Unit) (ie n (bn (α:=B1q×Int×Unit) (N5 [.str,.int .i64] (az a)) fun o=>ki (ad b
 14) 2 fun p=>bn (α:=B1q×Int×Unit) (O3 prog (.agg [.str,.int .i64]) 99 #[.agg #[.string o.1,vi o.2.1],vi p]) fun q=>sn a [.string q.1,vi q.2.1] fun _=>ki (ad b 14) 2 fun r=>ci 181 #[vi r] fun
 s=>kb (ad b 14) 3 fun t=>ci 96 #[.bool t,vi 32] fun u=>pu (wi ((wi ((wi ((wi ((wi (i+k))+m))+4))+(wi (8*s))))+u),())) (pu (wi ((wi (i+k))+m),()))) fun v=>bn (α:=B1q×Int×Unit) (N5
 [.str,.int .i64] (az a)) fun w=>bn (α:=B1q×Int×Unit) (O3 prog (.agg [.str,.int .i64]) 97 #[.agg #[.string w.1,vi w.2.1],vi 1,vi v.1]) fun x=>sn a [.string x.1,vi x.2.1] fun _=>bn (α:=
 B1q×Int×Unit) (N5 [.str,.int .i64] (az a)) fun y=>ji b 12 fun z=>bn (α:=B1q×Int×Unit) (O3 prog (.agg [.str,.int .i64]) 97 #[.agg #[.string y.1,vi y.2.1],vi 2,vi z]) fun A=>sn a
 [.string A.1,vi A.2.1] fun _=>bn (α:=B1q×Int×Unit) (N5 [.str,.int .i64] (az a)) fun B=>jc b 9 fun C=>bn (α:=B1q×Int×Unit) (O3 prog (.agg [.str,.int .i64]) 98 #[.agg #[.string
 B.1,vi B.2.1],vi 1,vs C]) fun D=>sn a [.string D.1,vi D.2.1] fun _=>bn (α:=B1q×Int×Unit) (N5 [.str,.int .i64] (az a)) fun E=>jt b 10 fun F=>bn (α:=B1q×Int×Unit) (O3 prog
 (.agg [.str,.int .i64]) 101 #[.agg #[.string E.1,vi E.2.1],.string F]) fun G=>sn a [.string G.1,vi G.2.1] fun _=>jb b 13 fun H=>bn (α:=Unit) (ie H (bn (α:=B1q×Int×Unit) (N5 [.str,.int .i64] (az
 a)) fun I=>kc (ad b 14) 4 fun J=>bn (α:=B1q×Int×Unit) (O3 prog (.agg [.str,.int .i64]) 98 #[.agg #[.string I.1,vi I.2.1],vi 0,vs J]) fun K=>sn a [.string K.1,vi K.2.1] fun _=>bn (α:=
 B1q×Int×Unit) (N5 [.str,.int .i64] (az a)) fun L=>kt (ad b 14) 0 fun M=>bn (α:=B1q×Int×Unit) (O3 prog (.agg [.str,.int .i64]) 101 #[.agg #[.string L.1,vi L.2.1],.string M]) fun
 N=>sn a [.string N.1,vi N.2.1] fun _=>bn (α:=B1q×Int×Unit) (N5 [.str,.int .i64] (az a)) fun O=>kt (ad b 14) 1 fun P=>bn (α:=B1q×Int×Unit) (O3 prog (.agg [.str,.int .i64]) 182
 #[.agg #[.string O.1,vi O.2.1],.string P]) fun Q=>sn a [.string Q.1,vi Q.2.1] fun _=>pu ()) (pu ())) fun R=>jb b 19 fun S=>bn (α:=Unit) (ie S (bn (α:=B1q×Int×Unit) (N5 [.str,.int .i64] (az a)) fun
 T=>jt b 21 fun U=>bn (α:=B1q×Int×Unit) (O3 prog (.agg [.str,.int .i64]) 101 #[.agg #[.string T.1,vi T.2.1],.string U]) fun V=>sn a [.string V.1,vi V.2.1] fun _=>pu ()) (pu ())) fun W=>jb b 20
 fun X=>bn (α:=Unit) (ie X (bn (α:=B1q×Int×Unit) (N5 [.str,.int .i64] (az a)) fun Y=>jt b 22 fun Z=>bn (α:=B1q×Int×Unit) (O3 prog (.agg [.str,.int .i64]) 182 #[.agg #[.string
 Y.1,vi Y.2.1],.string Z]) fun fU=>sn a [.string fU.1,vi fU.2.1] fun _=>pu ()) (pu ())) fun rW=>bn (α:=B1q×Int×Unit) (N5 [.str,.int .i64] (az a)) fun gA=>sn c [.string gA.1,vi gA.2.1] fun
 _=>bn (α:=B1q×Int×Unit) (N5 [.str,.int .i64] (az c)) fun dS=>pu ((dS.1,dS.2.1,()),())
theorem A3D(p0:B1q×Int×Unit)(p1:yS0):HCs 95 #[.agg #[.string p0.1,.int .i64 p0.2.1],.agg (aS0 p1)] (A3R p0 p1) fun x=>.agg #[.string x.1.1,.int .i64 x.1.2.1]:=
 cE [.agg [.str,.int .i64]] [0,1,2,3,4,5,6,7,8,9,10,30,67,84,90] [0,1,2,3,4,5,6,7,8,9,10,30,67,84,90] func95 ntmps95 (CC call101 (CC call97 (CC call96 (CC call99 (CC call181 (CC call98 (CC call182 CN)))))))
def B0N(p0:Bool)(p1:Int):HM (Int×Unit):=
 ie p0 (pu (p1,())) (pu (0,()))
theorem A7v(p0:Bool)(p1:Int):HCs 96 #[.bool p0,.int .i64 p1] (B0N p0 p1) fun x=>.int .i64 x.1:=
 cE [.one (.int .i64)] [0,1,4,5] [0,1,5] func96 ntmps96 CN
def A4Q(p0:B1q×Int×Unit)(p1:Int)(p2:Int):HM ((B1q×Int×Unit)×Unit):=
 nw #[.string p0.1,vi p0.2.1] 154 fun a=>nw #[ve,vi 0] 154 fun b=>bn (α:=B1q×Int×Unit) (Q4 prog [.one .str,.one (.int .i64)] 40 #[vi p1,vi p2]) fun c=>bn (α:=B1q×Int×Unit) (N5
 [.str,.int .i64] (az a)) fun d=>bn (α:=B1q×Int×Unit) (O3 prog (.agg [.str,.int .i64]) 100 #[.agg #[.string d.1,vi d.2.1],.string c.1,vi c.2.1]) fun e=>sn b [.string e.1,vi e.2.1] fun _=>bn (α
 :=B1q×Int×Unit) (N5 [.str,.int .i64] (az b)) fun f=>pu ((f.1,f.2.1,()),())
theorem A4h(p0:B1q×Int×Unit)(p1:Int)(p2:Int):HCs 97 #[.agg #[.string p0.1,.int .i64 p0.2.1],.int .i64 p1,.int .i64 p2] (A4Q p0 p1 p2) fun x=>.agg #[.string x.1.1,.int .i64 x.1.2.1]:=
 cE [.agg [.str,.int .i64]] [0,1,2,3,6,7,8] [0,1,2,3,6,7,8] func97 ntmps97 (CC call40 (CC call100 CN))
def A6O(p0:B1q×Int×Unit)(p1:Int)(p2:Slc):HM ((B1q×Int×Unit)×Unit):=
 nw #[.string p0.1,vi p0.2.1] 154 fun a=>nw #[ve,vi 0] 154 fun b=>bn (α:=B1q×Int×Unit) (Q4 prog [.one .str,.one (.int .i64)] 183 #[vs p2]) fun c=>bn (α:=B1q×Int×Unit) (N5
 [.str,.int .i64] (az a)) fun d=>bn (α:=B1q×Int×Unit) (O3 prog (.agg [.str,.int .i64]) 100 #[.agg #[.string d.1,vi d.2.1],.string c.1,vi c.2.1]) fun e=>sn a [.string e.1,vi e.2.1] fun _=>cb
 184 #[vi p1,vs p2] fun f=>bn (α:=Unit) (ie (!f) (bn (α:=B1q×Int×Unit) (N5 [.str,.int .i64] (az a)) fun g=>bn (α:=B1q×Int×Unit) (O3 prog (.agg [.str,.int .i64]) 100 #[.agg
 #[.string g.1,vi g.2.1],ve,vi 130]) fun h=>sn a [.string h.1,vi h.2.1] fun _=>pu ()) (pu ())) fun i=>bn (α:=B1q×Int×Unit) (N5 [.str,.int .i64] (az a)) fun j=>sn b [.string j.1,vi j.2.1] fun _=>bn
 (α:=B1q×Int×Unit) (N5 [.str,.int .i64] (az b)) fun k=>pu ((k.1,k.2.1,()),())
theorem A4P(p0:B1q×Int×Unit)(p1:Int)(p2:Slc):HCs 98 #[.agg #[.string p0.1,.int .i64 p0.2.1],.int .i64 p1,.slice p2.a p2.len p2.cap] (A6O p0 p1 p2) fun x=>.agg #[.string x.1.1,.int .i64 x.1.2.1]:=
 cE [.agg [.str,.int .i64]] [0,1,2,3,6,7,8,9,23] [0,1,2,3,6,7,8,9,23] func98 ntmps98 (CC call183 (CC call100 (CC call184 CN)))
def B0K(p0:B1q×Int×Unit)(p1:Int):HM ((B1q×Int×Unit)×Unit):=
 nw #[.string p0.1,vi p0.2.1] 154 fun a=>nw #[ve,vi 0] 154 fun b=>bn (α:=Bool×Unit) (ie (decide (p1<(0:Int))) (pu (true,())) (pu (decide (2<(p1:Int)),()))) fun c=>ie c.1 (bn (α:=B1q×Int×Unit)
 (N5 [.str,.int .i64] (az a)) fun d=>bn (α:=B1q×Int×Unit) (O3 prog (.agg [.str,.int .i64]) 100 #[.agg #[.string d.1,vi d.2.1],ve,vi 129]) fun e=>sn b [.string e.1,vi e.2.1] fun _=>bn (α
 :=B1q×Int×Unit) (N5 [.str,.int .i64] (az b)) fun f=>pu ((f.1,f.2.1,()),())) (bn (α:=B1q×Int×Unit) (N5 [.str,.int .i64] (az a)) fun g=>sn b [.string g.1,vi g.2.1] fun _=>bn (α:=
 B1q×Int×Unit) (N5 [.str,.int .i64] (az b)) fun h=>pu ((h.1,h.2.1,()),()))
theorem A7s(p0:B1q×Int×Unit)(p1:Int):HCs 99 #[.agg #[.string p0.1,.int .i64 p0.2.1],.int .i64 p1] (B0K p0 p1) fun x=>.agg #[.string x.1.1,.int .i64 x.1.2.1]:=
 cE [.agg [.str,.int .i64]] [0,1,2,4,10] [0,1,2,4,10] func99 ntmps99 (CC call100 CN)
def B0P(p0:B1q×Int×Unit)(p1:B1q)(p2:Int):HM ((B1q×Int×Unit)×Unit):=
 nw #[.string p0.1,vi p0.2.1] 154 fun a=>nw #[ve,vi 0] 154 fun b=>ji a 1 fun c=>bn (α:=Unit) (ie (c==0) (sw a 1 (vi p2) fun _=>pu ()) (pu ())) fun d=>jt a 0 fun e=>P7 (ByteArray.size e+ByteArray.size p1≤
 9223372036854775807)<|sw a 0 (.string (e++p1)) fun _=>bn (α:=B1q×Int×Unit) (N5 [.str,.int .i64] (az a)) fun f=>sn b [.string f.1,vi f.2.1] fun _=>bn (α:=B1q×Int×Unit) (N5 [.str,
 .int .i64] (az b)) fun g=>pu ((g.1,g.2.1,()),())
theorem A7x(p0:B1q×Int×Unit)(p1:B1q)(p2:Int):HCs 100 #[.agg #[.string p0.1,.int .i64 p0.2.1],.string p1,.int .i64 p2] (B0P p0 p1 p2) fun x=>.agg #[.string x.1.1,.int .i64 x.1.2.1]:=
 cE [.agg [.str,.int .i64]] [0,1,2,3,6,9] [0,1,2,3,6,9] func100 ntmps100 CN
def A8Q(p0:B1q×Int×Unit)(p1:B1q):HM ((B1q×Int×Unit)×Unit):=
 nw #[.string p0.1,vi p0.2.1] 154 fun a=>nw #[ve,vi 0] 154 fun b=>bn (α:=B1q×Int×Unit) (Q4 prog [.one .str,.one (.int .i64)] 185 #[.string p1]) fun c=>bn (α:=B1q×Int×Unit) (N5
 [.str,.int .i64] (az a)) fun d=>bn (α:=B1q×Int×Unit) (O3 prog (.agg [.str,.int .i64]) 100 #[.agg #[.string d.1,vi d.2.1],.string c.1,vi c.2.1]) fun e=>sn b [.string e.1,vi e.2.1] fun _=>bn (α
 :=B1q×Int×Unit) (N5 [.str,.int .i64] (az b)) fun f=>pu ((f.1,f.2.1,()),())
theorem A5X(p0:B1q×Int×Unit)(p1:B1q):HCs 101 #[.agg #[.string p0.1,.int .i64 p0.2.1],.string p1] (A8Q p0 p1) fun x=>.agg #[.string x.1.1,.int .i64 x.1.2.1]:=
 cE [.agg [.str,.int .i64]] [0,1,2,4,5,6] [0,1,2,4,5,6] func101 ntmps101 (CC call185 (CC call100 CN))
def B3q(p0:B1q×Int×Unit)(p1:Int):HM ((B1q×Int×Unit)×Unit):=
 nw #[.string p0.1,vi p0.2.1] 154 fun a=>nw #[ve,vi 0] 154 fun b=>bn (α:=Bool×Unit) (ie (decide (p1<(1:Int))) (pu (true,())) (pu (decide (65535<(p1:Int)),()))) fun c=>ie c.1 (bn (α:=B1q×Int×
 Unit) (N5 [.str,.int .i64] (az a)) fun d=>bn (α:=B1q×Int×Unit) (O3 prog (.agg [.str,.int .i64]) 100 #[.agg #[.string d.1,vi d.2.1],ve,vi 130]) fun e=>sn b [.string e.1,vi e.2.1] fun
 _=>bn (α:=B1q×Int×Unit) (N5 [.str,.int .i64] (az b)) fun f=>pu ((f.1,f.2.1,()),())) (bn (α:=B1q×Int×Unit) (N5 [.str,.int .i64] (az a)) fun g=>bn (α:=B1q×Int×Unit)
 (O3 prog (.agg [.str,.int .i64]) 97 #[.agg #[.string g.1,vi g.2.1],vi 2,vi p1]) fun h=>sn b [.string h.1,vi h.2.1] fun _=>bn (α:=B1q×Int×Unit) (N5 [.str,.int .i64] (az b)) fun i=>pu
 ((i.1,i.2.1,()),()))
theorem A8T(p0:B1q×Int×Unit)(p1:Int):HCs 102 #[.agg #[.string p0.1,.int .i64 p0.2.1],.int .i64 p1] (B3q p0 p1) fun x=>.agg #[.string x.1.1,.int .i64 x.1.2.1]:=
 cE [.agg [.str,.int .i64]] [0,1,2,4,10] [0,1,2,4,10] func102 ntmps102 (CC call100 (CC call97 CN))
def B0M(p0:B1q×Int×Unit)(p1:yS0):HM ((B1q×Int×Unit)×Unit):=
 nw #[.string p0.1,vi p0.2.1] 154 fun a=>nw (aS0 p1) 103 fun b=>nw #[ve,vi 0] 154 fun c=>bn (α:=Bool×Unit) (ji b 7 fun d=>ie (!(d==0)) (pu (true,())) (jc b 9 fun e=>pu (decide (0<(e.len:Int)),()))) fun
 f=>bn (α:=Unit) (ie f.1 (bn (α:=B1q×Int×Unit) (N5 [.str,.int .i64] (az a)) fun g=>ji b 7 fun h=>bn (α:=B1q×Int×Unit) (O3 prog (.agg [.str,.int .i64]) 97 #[.agg #[.string g.1,
 vi g.2.1],vi 1,vi h]) fun i=>sn a [.string i.1,vi i.2.1] fun _=>pu ()) (pu ())) fun j=>jc b 9 fun k=>bn (α:=Unit) (ie (decide (0<(k.len:Int))) (bn (α:=B1q×Int×Unit) (N5 [.str,.int .i64] (az
 a)) fun l=>ji b 0 fun m=>jc b 9 fun n=>bn (α:=B1q×Int×Unit) (O3 prog (.agg [.str,.int .i64]) 98 #[.agg #[.string l.1,vi l.2.1],vi m,vs n]) fun o=>sn a [.string o.1,vi o.2.1] fun _=>pu ()) (pu
 ())) fun p=>bn (α:=B1q×Int×Unit) (N5 [.str,.int .i64] (az a)) fun q=>sn c [.string q.1,vi q.2.1] fun _=>bn (α:=B1q×Int×Unit) (N5 [.str,.int .i64] (az c)) fun r=>pu ((r.1,r.2.1,
 ()),())
theorem A7u(p0:B1q×Int×Unit)(p1:yS0):HCs 103 #[.agg #[.string p0.1,.int .i64 p0.2.1],.agg (aS0 p1)] (B0M p0 p1) fun x=>.agg #[.string x.1.1,.int .i64 x.1.2.1]:=
 cE [.agg [.str,.int .i64]] [0,1,2,3,4,13,21] [0,1,2,3,4,13,21] func103 ntmps103 (CC call97 (CC call98 CN))
def A6P(p0:B1q×Int×Unit)(p1:yS0):HM ((B1q×Int×Unit)×Unit):=
 nw #[.string p0.1,vi p0.2.1] 154 fun a=>nw (aS0 p1) 103 fun b=>nw #[ve,vi 0] 154 fun c=>bn (α:=B1q×Int×Unit) (N5 [.str,.int .i64] (az a)) fun d=>ji b 4 fun e=>bn (α:=B1q×Int×Unit)
 (O3 prog (.agg [.str,.int .i64]) 102 #[.agg #[.string d.1,vi d.2.1],vi e]) fun f=>sn a [.string f.1,vi f.2.1] fun _=>bn (α:=B1q×Int×Unit) (N5 [.str,.int .i64] (az a)) fun g=>ji b 0 fun
 h=>jc b 9 fun i=>bn (α:=B1q×Int×Unit) (O3 prog (.agg [.str,.int .i64]) 98 #[.agg #[.string g.1,vi g.2.1],vi h,vs i]) fun j=>sn a [.string j.1,vi j.2.1] fun _=>ji b 0 fun k=>bn (α:=Unit) (ie
 (k==8) (bn (α:=B1q×Int×Unit) (N5 [.str,.int .i64] (az a)) fun l=>jc b 24 fun m=>bn (α:=B1q×Int×Unit) (O3 prog (.agg [.str,.int .i64]) 186 #[.agg #[.string l.1,vi l.2.1],vi
 (m.len:Int)]) fun n=>sn a [.string n.1,vi n.2.1] fun _=>bn (α:=Int×Unit) (HM.loop (σ:=Int×Unit) (τ:=Int×Unit) (fun o=>bn (α:=Bool×Unit) (jc b 24 fun p=>ie (decide (o.1<(p.len:Int))) (pu (decide
 (o.1<(64:Int)),())) (pu (false,()))) fun q=>ie q.1 (jc b 24 fun r=>ix r o.1 5 fun s=>g2 s fun t=>nw zS2 152 fun u=>sn u (lS2 t) fun _=>bn (α:=B1q×Int×Unit) (N5 [.str,.int .i64] (az a)) fun v=>jt
 u 0 fun w=>bn (α:=B1q×Int×Unit) (O3 prog (.agg [.str,.int .i64]) 101 #[.agg #[.string v.1,vi v.2.1],.string w]) fun x=>sn a [.string x.1,vi x.2.1] fun _=>bn (α:=B1q×Int×Unit)
 (N5 [.str,.int .i64] (az a)) fun y=>ji u 1 fun z=>bn (α:=B1q×Int×Unit) (O3 prog (.agg [.str,.int .i64]) 99 #[.agg #[.string y.1,vi y.2.1],vi z]) fun A=>sn a [.string A.1,vi A.2.1] fun
 _=>bn (α:=B1q×Int×Unit) (N5 [.str,.int .i64] (az a)) fun B=>ji u 4 fun C=>bn (α:=B1q×Int×Unit) (O3 prog (.agg [.str,.int .i64]) 99 #[.agg #[.string B.1,vi B.2.1],vi C]) fun
 D=>sn a [.string D.1,vi D.2.1] fun _=>ji u 1 fun E=>ci 181 #[vi E] fun F=>jb u 2 fun G=>ci 96 #[.bool G,vi 4] fun H=>jb u 3 fun I=>ci 96 #[.bool I,vi 8] fun J=>ji u 4 fun K=>ci 181 #[vi K] fun L=>bn (α:=B1q×
 Int×Unit) (N5 [.str,.int .i64] (az a)) fun M=>bn (α:=B1q×Int×Unit) (O3 prog (.agg [.str,.int .i64]) 97 #[.agg #[.string M.1,vi M.2.1],vi 1,vi (wi ((wi ((wi (F+H))+J))+(wi (16*
 L))))]) fun N=>sn a [.string N.1,vi N.2.1] fun _=>pu (.inl (wi (o.1+1),()))) (pu (.inr (o.1,())))) (0,())) fun O=>pu ()) (bn (α:=Unit) (ie (k==10) (bn (α:=B1q×Int×Unit) (N5 [.str,.int .i64]
 (az a)) fun P=>jc b 25 fun Q=>bn (α:=B1q×Int×Unit) (O3 prog (.agg [.str,.int .i64]) 186 #[.agg #[.string P.1,vi P.2.1],vi (Q.len:Int)]) fun R=>sn a [.string R.1,vi R.2.1] fun _=>bn (α:=Int
 ×Unit) (HM.loop (σ:=Int×Unit) (τ:=Int×Unit) (fun S=>bn (α:=Bool×Unit) (jc b 25 fun T=>ie (decide (S.1<(T.len:Int))) (pu (decide (S.1<(64:Int)),())) (pu (false,()))) fun U=>ie U.1 (bn (α:=
 B1q×Int×Unit) (N5 [.str,.int .i64] (az a)) fun V=>jc b 25 fun W=>ix W S.1 1 fun X=>lt X fun Y=>bn (α:=B1q×Int×Unit) (O3 prog (.agg [.str,.int .i64]) 101 #[.agg #[.string V.1,vi
 V.2.1],.string Y]) fun Z=>sn a [.string Z.1,vi Z.2.1] fun _=>pu (.inl (wi (S.1+1),()))) (pu (.inr (S.1,())))) (0,())) fun rX=>pu ()) (bn (α:=B1q×Int×Unit) (N5 [.str,.int .i64] (az a)) fun
 dS=>jc b 8 fun gz=>bn (α:=B1q×Int×Unit) (O3 prog (.agg [.str,.int .i64]) 186 #[.agg #[.string dS.1,vi dS.2.1],vi (gz.len:Int)]) fun eD=>sn a [.string eD.1,vi eD.2.1] fun _=>bn (α:=
 Int×Unit) (HM.loop (σ:=Int×Unit) (τ:=Int×Unit) (fun cT=>bn (α:=Bool×Unit) (jc b 8 fun gy=>ie (decide (cT.1<(gy.len:Int))) (pu (decide (cT.1<(64:Int)),())) (pu (false,()))) fun gx=>ie gx.1
 (bn (α:=B1q×Int×Unit) (N5 [.str,.int .i64] (az a)) fun gv=>jc b 8 fun gu=>ix gu cT.1 1 fun gr=>li gr fun gq=>bn (α:=B1q×Int×Unit) (O3 prog (.agg [.str,.int .i64]) 97
 #[.agg #[.string gv.1,vi gv.2.1],vi 1,vi gq]) fun fT=>sn a [.string fT.1,vi fT.2.1] fun _=>pu (.inl (wi (cT.1+1),()))) (pu (.inr (cT.1,())))) (0,())) fun eC=>pu ())) fun rY=>pu ())) fun rZ=>bn (α:=
 B1q×Int×Unit) (N5 [.str,.int .i64] (az a)) fun iJ=>sn c [.string iJ.1,vi iJ.2.1] fun _=>bn (α:=B1q×Int×Unit) (N5 [.str,.int .i64] (az c)) fun iI=>pu ((iI.1,iI.2.1,()),())
theorem A4R(p0:B1q×Int×Unit)(p1:yS0):HCs 104 #[.agg #[.string p0.1,.int .i64 p0.2.1],.agg (aS0 p1)] (A6P p0 p1) fun x=>.agg #[.string x.1.1,.int .i64 x.1.2.1]:=
 cE [.agg [.str,.int .i64]] [0,1,2,3,4,5,6,7,8,9,10,11,12,24,38,48,63,105,120] [0,1,2,3,4,5,6,7,8,9,10,11,12,24,38,48,63,105,120] func104 ntmps104 (CC call102 (CC call98 (CC call186 (CC call101 (CC call99 (CC call181 (CC call96 (CC call97 CN))))))))
def A8Z(p0:Int):HM (Int×Unit):=
 ie (p0==1) (pu (256,())) (ie (p0==2) (pu (65536,())) (ie (p0==4) (pu (4294967296,())) (pu (0,()))))
theorem A53(p0:Int):HCs 105 #[.int .i64 p0] (A8Z p0) fun x=>.int .i64 x.1:=
 cE [.one (.int .i64)] [0,2,3,4,6,8] [0,3,4,6,8] func105 ntmps105 CN
def A80(p0:Int):HM (Int×Unit):=
 bn (α:=Bool×Unit) (ie (decide (p0<(0:Int))) (pu (true,())) (pu (decide (268435455<(p0:Int)),()))) fun a=>ie a.1 (pu (0,())) (bn (α:=Int×Int×Unit) (HM.loop (σ:=Int×Int×Unit) (τ:=Int×Int×
 Unit) (fun b=>ie (decide (127<(b.1:Int))) (P7 (128≠(0:Int))<|pu (.inl (wi (Int.tdiv b.1 128),wi (b.2.1+1),()))) (pu (.inr (b.1,b.2.1,())))) (p0,1,())) fun c=>pu (c.2.1,()))
theorem A54(p0:Int):HCs 106 #[.int .i64 p0] (A80 p0) fun x=>.int .i64 x.1:=
 cE [.one (.int .i64)] [0,2,3,9,11] [0,3,9,11] func106 ntmps106 CN
def A06(p0:yS3):HM (Int×Unit):=
 nw (aS3 p0) 72 fun a=>jt a 0 fun b=>cu 177 #[.string b] fun c=>ie (!(c==0)) (pu (143,())) (bn (α:=Bool×Unit) (jt a 3 fun d=>cb 194 #[.string d] fun e=>ie (!e) (pu (true,())) (jt a 4 fun f=>cb 194 #[.string f]
 fun g=>pu (!g,()))) fun h=>ie h.1 (pu (144,())) (bn (α:=Bool×Unit) (ji a 1 fun i=>ie (decide (i<(0:Int))) (pu (true,())) (ji a 1 fun j=>pu (decide (2<(j:Int)),()))) fun k=>ie k.1 (pu (128,())) (bn (α:=
 Bool×Unit) (ji a 2 fun l=>ie (decide (l<(0:Int))) (pu (true,())) (ji a 2 fun m=>pu (decide (2<(m:Int)),()))) fun n=>ie n.1 (pu (155,())) (pu (0,())))))
theorem A1A(p0:yS3):HCs 117 #[.agg (aS3 p0)] (A06 p0) fun x=>.int .u8 x.1:=
 cE [.one (.int .u8)] [0,1,2,3,8,19,28] [0,1,3,8,19,28] func117 ntmps117 (CC call177 (CC call194 CN))
def A6C(p0:Int):HM (Bool×Unit):=
 bn (α:=Bool×Unit) (ie (p0==1) (pu (true,())) (ie (p0==2) (pu (true,())) (pu (p0==4,())))) fun a=>pu (a.1,())
theorem A4E(p0:Int):HCs 120 #[.int .i64 p0] (A6C p0) fun x=>.bool x.1:=
 cE [.one .bool] [0,2] [0] func120 ntmps120 CN
def A6N(p0:B1q):HM (Bool×Unit):=
 bn (α:=Int×Bool×Unit) (Q4 prog [.one (.int .i64),.one .bool] 241 #[.string p0]) fun a=>bn (α:=Bool×Unit) (ie a.2.1 (pu (true,())) (ie (((ByteArray.size p0:Nat):Int)==0) (pu (true,())) (pu
 (decide (256<(((ByteArray.size p0:Nat):Int):Int)),())))) fun b=>ie b.1 (pu (false,())) (cc 171 #[.string p0] fun c=>pu (decide ((c.len:Int)≤(32:Int)),()))
theorem A4N(p0:B1q):HCs 170 #[.string p0] (A6N p0) fun x=>.bool x.1:=
 cE [.one .bool] [0,2,4,5,21] [0,4,5,21] func170 ntmps170 (CC call241 (CC call171 CN))
def A4O(p0:B1q):HM (Slc×Unit):=
 bn (α:=Slc×B1q×Int×Unit) (HM.loop (σ:=Slc×B1q×Int×Unit) (τ:=Slc×B1q×Int×Unit) (fun a=>ie (decide (a.2.2.1<(((ByteArray.size p0:Nat):Int):Int))) (bn (α:=Slc×B1q
 ×Unit) (bn (α:=Int) (A9U p0 a.2.2.1) fun b=>ie (b==47) (nw #[.string a.2.1] 9 fun c=>bn (α:=Slc) (HM.append 9 1 16 #[ve] a.1 1 (P8 1 (⟨some (az c),1,1⟩))) fun d=>pu (d,ByteArray.mk #[],())) (bn (α:=
 B1q) (r7 p0 (some a.2.2.1) (some (wi (a.2.2.1+1)))) fun e=>P7 (ByteArray.size a.2.1+ByteArray.size e≤9223372036854775807)<|pu (a.1,a.2.1++e,()))) fun f=>pu (.inl (f.1,f.2.1,wi (a.2.2.1+1),
 ()))) (pu (.inr (a.1,a.2.1,a.2.2.1,())))) (⟨none,0,0⟩,ByteArray.mk #[],0,())) fun g=>nw #[.string g.2.1] 9 fun h=>bn (α:=Slc) (HM.append 9 1 16 #[ve] g.1 1 (P8 1 (⟨some (az h),1,1⟩))) fun i=>pu (i,())
theorem A4g(p0:B1q):HCs 171 #[.string p0] (A4O p0) fun x=>.slice x.1.a x.1.len x.1.cap:=
 cE [.one .slc] [0,2,3,4,5,9,15] [0,3,4,5,9,15] func171 ntmps171 CN
def B0J(p0:B1q)(p1:Int):HM (Bool×Unit):=
 bn (α:=(Int×Unit)⊕(Bool×Unit)) (HM.loop (σ:=Int×Unit) (τ:=(Int×Unit)⊕(Bool×Unit)) (fun a=>ie (decide (a.1<(((ByteArray.size p0:Nat):Int):Int))) (bn (α:=Int) (A9U p0 a.1) fun b=>ie (b
 ==p1) (pu (.inr (.inr (true,())))) (pu (.inl (wi (a.1+1),())))) (pu (.inr (.inl (a.1,()))))) (0,())) (Sum.elim (fun c=>pu (false,())) O9)
theorem A7r(p0:B1q)(p1:Int):HCs 172 #[.string p0,.int .u8 p1] (B0J p0 p1) fun x=>.bool x.1:=
 cE [.one .bool] [0,1,4,5,9,16] [0,1,5,9,16] func172 ntmps172 CN
def A2b(p0:B1q):HM (Int×Unit):=
 cb 170 #[.string p0] fun a=>cb 172 #[.string p0,.int .u8 43] fun b=>cb 172 #[.string p0,.int .u8 35] fun c=>bn (α:=Bool×Unit) (ie (!a) (pu (true,())) (ie b (pu (true,())) (pu (c,())))) fun d=>ie d.1 (pu (144,
 ())) (pu (0,()))
theorem A2i(p0:B1q):HCs 173 #[.string p0] (A2b p0) fun x=>.int .i64 x.1:=
 cE [.one (.int .i64)] [0,2,3,4,5,19] [0,3,4,5,19] func173 ntmps173 (CC call170 (CC call172 CN))
def A7k(p0:Int):HM (Bool×Unit):=
 bn (α:=Bool×Unit) (ie (decide (0≤(p0:Int))) (pu (decide (p0<(8:Int)),())) (pu (false,()))) fun a=>pu (a.1,())
theorem A5G(p0:Int):HCs 174 #[.int .i64 p0] (A7k p0) fun x=>.bool x.1:=
 cE [.one .bool] [0,2] [0] func174 ntmps174 CN
def Y5(p0:Slc)(p1:Value):HM (Bool×Unit):=
 ci 242 #[vs p0,p1] fun a=>pu (decide (0≤(a:Int)),())
theorem l5(p0:Slc)(p1:Value):HCs 175 #[.slice p0.a p0.len p0.cap,p1] (Y5 p0 p1) fun x=>.bool x.1:=
 cE [.one .bool] [0,1,4] [0,1] func175 ntmps175 (CC call242 CN)
def p5(p0:B1q):HM (Bool×Unit):=
 cu 177 #[.string p0] fun a=>pu (!(a==0),())
theorem A0n(p0:B1q):HCs 176 #[.string p0] (p5 p0) fun x=>.bool x.1:=
 cE [.one .bool] [0,2] [0] func176 ntmps176 (CC call177 CN)
def A0J(p0:B1q):HM (Int×Unit):=
 cb 243 #[.string p0] fun a=>ie (!a) (pu (143,())) (cc 244 #[.string p0] fun b=>bn (α:=(Int×Unit)⊕(Int×Unit)) (HM.loop (σ:=Int×Unit) (τ:=(Int×Unit)⊕(Int×Unit)) (fun c=>ie (decide (c.1<(b.len:
 Int))) (ix b c.1 1 fun d=>lt d fun e=>bn (α:=(Unit)⊕((Int×Unit)⊕((Int×Unit)⊕(Int×Unit)))) (bn (α:=(Unit)⊕((Unit)⊕((Int×Unit)⊕((Int×Unit)⊕(Int×Unit))))) (bn (α:=(Unit)⊕((Unit)⊕((Unit)⊕
 ((Int×Unit)⊕((Int×Unit)⊕(Int×Unit)))))) (cb 245 #[.string e,.string (ByteArray.mk #[35])] fun f=>ie f (pu (.inl ())) (cb 245 #[.string e,.string (ByteArray.mk #[43])] fun g=>ie g (pu (.inr (.inl ()))) (pu
 (.inr (.inr (.inl ())))))) (Sum.elim (fun h=>ie (decide (c.1<((wi ((b.len:Int)-1)):Int))) (pu (.inr (.inr (.inr (.inr (143,())))))) (pu (.inl ()))) O9)) (Sum.elim (fun i=>ie (decide (1<(((ByteArray.size e
 :Nat):Int):Int))) (pu (.inr (.inr (.inr (143,()))))) (pu (.inl ()))) O9)) (Sum.elim (fun j=>pu (.inl (wi (c.1+1),()))) O9)) (pu (.inr (.inl (c.1,()))))) (0,())) (Sum.elim (fun k=>pu (0,()))
 O9))
theorem A05(p0:B1q):HCs 177 #[.string p0] (A0J p0) fun x=>.int .u8 x.1:=
 cE [.one (.int .u8)] [0,2,3,4,5,8,11,12,13,14,18,21,28,31] [0,3,4,5,8,11,12,13,14,18,21,28,31] func177 ntmps177 (CC call243 (CC call244 (CC call245 CN)))
def a6(p0:Slc)(p1:Value):HM (Bool×Unit):=
 ci 246 #[vs p0,p1] fun a=>pu (decide (0≤(a:Int)),())
theorem p7(p0:Slc)(p1:Value):HCs 178 #[.slice p0.a p0.len p0.cap,p1] (a6 p0 p1) fun x=>.bool x.1:=
 cE [.one .bool] [0,1,4] [0,1] func178 ntmps178 (CC call246 CN)
def o9(p0:Int×B1q×Int×Int×B1q×B1q×Unit)(p1:Addr):HM (Bool×Unit):=
 nw #[vi p0.1,.string p0.2.1,vi p0.2.2.1,vi p0.2.2.2.1,.string p0.2.2.2.2.1,.string (w5 p0)] 77 fun a=>bn (α:=Bool×Unit) (ji a 0 fun b=>cb 174 #[vi b] fun c=>ie (!c) (pu (true,())) (ji a 0 fun d=>ki p1 0 fun
 e=>ie (d==e) (pu (true,())) (g3 (ad a 1) fun f=>cu 117 #[.agg (aS3 f)] fun g=>pu (!(g==0),())))) fun h=>pu (h.1,())
theorem A0m(p0:Int×B1q×Int×Int×B1q×B1q×Unit)(p1:Addr):HCs 179 #[.agg #[.int .i64 p0.1,.string p0.2.1,.int .i64 p0.2.2.1,.int .i64 p0.2.2.2.1,.string p0.2.2.2.2.1,.string p0.2.2.2.2.2.1],.pointer (some p1)] (o9 p0 p1) fun x=>.bool x.1:=
 cE [.one .bool] [0,1,2,3] [0,1,2] func179 ntmps179 (CC call174 (CC call117 CN))
def B0L(p0:Int):HM (Int×Unit):=
 P7 (4≠(0:Int))<|bn (α:=Int×Unit) (ie (decide ((Int.tmod p0 4)<(0:Int))) (pu (wi ((Int.tmod p0 4)+4),())) (pu (Int.tmod p0 4,()))) fun a=>pu (a.1,())
theorem A7t(p0:Int):HCs 181 #[.int .i64 p0] (B0L p0) fun x=>.int .i64 x.1:=
 cE [.one (.int .i64)] [0,2,6] [0,6] func181 ntmps181 CN
def A8U(p0:B1q×Int×Unit)(p1:B1q):HM ((B1q×Int×Unit)×Unit):=
 nw #[.string p0.1,vi p0.2.1] 154 fun a=>nw #[ve,vi 0] 154 fun b=>bn (α:=B1q×Int×Unit) (Q4 prog [.one .str,.one (.int .i64)] 248 #[.string p1]) fun c=>bn (α:=B1q×Int×Unit) (N5
 [.str,.int .i64] (az a)) fun d=>bn (α:=B1q×Int×Unit) (O3 prog (.agg [.str,.int .i64]) 100 #[.agg #[.string d.1,vi d.2.1],.string c.1,vi c.2.1]) fun e=>sn b [.string e.1,vi e.2.1] fun _=>bn (α
 :=B1q×Int×Unit) (N5 [.str,.int .i64] (az b)) fun f=>pu ((f.1,f.2.1,()),())
theorem A5Z(p0:B1q×Int×Unit)(p1:B1q):HCs 182 #[.agg #[.string p0.1,.int .i64 p0.2.1],.string p1] (A8U p0 p1) fun x=>.agg #[.string x.1.1,.int .i64 x.1.2.1]:=
 cE [.agg [.str,.int .i64]] [0,1,2,4,5,6] [0,1,2,4,5,6] func182 ntmps182 (CC call248 (CC call100 CN))
def B0R(p0:Slc):HM (B1q×Int×Unit):=
 ie (decide (64<(p0.len:Int))) (pu (ByteArray.mk #[],149,())) (bn (α:=(B1q×Int×Unit)⊕(B1q×Int×Unit)) (HM.loop (σ:=B1q×Int×Unit) (τ:=(B1q×Int×Unit)⊕(B1q×Int
 ×Unit)) (fun a=>ie (decide (a.2.1<(p0.len:Int))) (ix p0 a.2.1 4 fun b=>ki b 0 fun c=>ci 249 #[vi c] fun d=>ie (d==0) (pu (.inr (.inr (ByteArray.mk #[],129,())))) (ix p0 a.2.1 4 fun e=>ki e 0 fun f=>cb 250 #[vs
 p0,vi a.2.1,vi f] fun g=>ie g (pu (.inr (.inr (ByteArray.mk #[],130,())))) (ix p0 a.2.1 4 fun h=>g5 h fun i=>bn (α:=B1q×Int×Unit) (Q4 prog [.one .str,.one (.int .i64)] 251 #[.agg (aS5 i)]) fun
 j=>ie (!(j.2.1==0)) (pu (.inr (.inr (ByteArray.mk #[],j.2.1,())))) (ix p0 a.2.1 4 fun k=>ki k 0 fun l=>bn (α:=B1q×Int×Unit) (Q4 prog [.one .str,.one (.int .i64)] 41 #[vi l]) fun m=>P7
 (ByteArray.size a.1+ByteArray.size m.1≤9223372036854775807)<|P7 (ByteArray.size (a.1++m.1)+ByteArray.size j.1≤9223372036854775807)<|pu (.inl ((a.1++m.1)++j.1,wi (a.2.1+1),())))))) (pu (.inr (.inl
 (a.1,a.2.1,()))))) (ByteArray.mk #[],0,())) (Sum.elim (fun n=>bn (α:=B1q×Int×Unit) (Q4 prog [.one .str,.one (.int .i64)] 41 #[vi ((ByteArray.size n.1:Nat):Int)]) fun o=>ie (!(o.2.1==0))
 (pu (ByteArray.mk #[],149,())) (P7 (ByteArray.size o.1+ByteArray.size n.1≤9223372036854775807)<|pu (o.1++n.1,0,()))) O9))
theorem A7z(p0:Slc):HCs 183 #[.slice p0.a p0.len p0.cap] (B0R p0) fun x=>.tuple #[.string x.1,.int .i64 x.2.1]:=
 cE [.one .str,.one (.int .i64)] [0,2,3,4,5,6,7,8,9,10,12,13,16,20,30,39,49,72] [0,4,5,6,7,8,9,10,12,13,16,20,30,39,49,72] func183 ntmps183 (CC call249 (CC call250 (CC call251 (CC call41 CN))))
def B0O(p0:Int)(p1:Slc):HM (Bool×Unit):=
 bn (α:=(Int×Unit)⊕(Bool×Unit)) (HM.loop (σ:=Int×Unit) (τ:=(Int×Unit)⊕(Bool×Unit)) (fun a=>ie (decide (a.1<(p1.len:Int))) (ix p1 a.1 4 fun b=>ki b 0 fun c=>cb 252 #[vi p0,vi c] fun d=>ie (!d) (pu
 (.inr (.inr (false,())))) (pu (.inl (wi (a.1+1),())))) (pu (.inr (.inl (a.1,()))))) (0,())) (Sum.elim (fun e=>pu (true,())) O9)
theorem A7w(p0:Int)(p1:Slc):HCs 184 #[.int .i64 p0,.slice p1.a p1.len p1.cap] (B0O p0 p1) fun x=>.bool x.1:=
 cE [.one .bool] [0,1,4,5,6,10,21] [0,1,5,6,10,21] func184 ntmps184 (CC call252 CN)
def B0S(p0:B1q):HM (B1q×Int×Unit):=
 bn (α:=Int×Bool×Unit) (Q4 prog [.one (.int .i64),.one .bool] 241 #[.string p0]) fun a=>ie a.2.1 (pu (ByteArray.mk #[],129,())) (bn (α:=B1q×Int×Unit) (Q4 prog [.one .str,.one
 (.int .i64)] 248 #[.string p0]) fun b=>pu (b.1,b.2.1,()))
theorem A7A(p0:B1q):HCs 185 #[.string p0] (B0S p0) fun x=>.tuple #[.string x.1,.int .i64 x.2.1]:=
 cE [.one .str,.one (.int .i64)] [0,2,3,5,11] [0,5,11] func185 ntmps185 (CC call241 (CC call248 CN))
def A8R(p0:B1q×Int×Unit)(p1:Int):HM ((B1q×Int×Unit)×Unit):=
 nw #[.string p0.1,vi p0.2.1] 154 fun a=>nw #[ve,vi 0] 154 fun b=>ie (p1==0) (bn (α:=B1q×Int×Unit) (N5 [.str,.int .i64] (az a)) fun c=>bn (α:=B1q×Int×Unit) (O3 prog (.agg
 [.str,.int .i64]) 100 #[.agg #[.string c.1,vi c.2.1],ve,vi 130]) fun d=>sn b [.string d.1,vi d.2.1] fun _=>bn (α:=B1q×Int×Unit) (N5 [.str,.int .i64] (az b)) fun e=>pu ((e.1,e.2.1,()),())) (ie
 (decide (64<(p1:Int))) (bn (α:=B1q×Int×Unit) (N5 [.str,.int .i64] (az a)) fun f=>bn (α:=B1q×Int×Unit) (O3 prog (.agg [.str,.int .i64]) 100 #[.agg #[.string f.1,vi f.2.1],
 ve,vi 149]) fun g=>sn b [.string g.1,vi g.2.1] fun _=>bn (α:=B1q×Int×Unit) (N5 [.str,.int .i64] (az b)) fun h=>pu ((h.1,h.2.1,()),())) (bn (α:=B1q×Int×Unit) (N5 [.str,.int .i64]
 (az a)) fun i=>sn b [.string i.1,vi i.2.1] fun _=>bn (α:=B1q×Int×Unit) (N5 [.str,.int .i64] (az b)) fun j=>pu ((j.1,j.2.1,()),())))
theorem A5Y(p0:B1q×Int×Unit)(p1:Int):HCs 186 #[.agg #[.string p0.1,.int .i64 p0.2.1],.int .i64 p1] (A8R p0 p1) fun x=>.agg #[.string x.1.1,.int .i64 x.1.2.1]:=
 cE [.agg [.str,.int .i64]] [0,1,2,4,6,10] [0,1,2,4,6,10] func186 ntmps186 (CC call100 CN)
def A4K(p0:B1q):HM (Bool×Unit):=
 bn (α:=Bool×Unit) (ie (decide (p0=es)) (pu (true,())) (cu 215 #[.string p0] fun a=>pu (a==0,()))) fun b=>pu (b.1,())
theorem A4f(p0:B1q):HCs 194 #[.string p0] (A4K p0) fun x=>.bool x.1:=
 cE [.one .bool] [0,2] [0] func194 ntmps194 (CC call215 CN)
def A1Z(p0:B1q):HM (Int×Unit):=
 bn (α:=Bool×Unit) (cb 243 #[.string p0] fun a=>ie (!a) (pu (true,())) (cb 245 #[.string p0,.string (ByteArray.mk #[43])] fun b=>ie b (pu (true,())) (cb 245 #[.string p0,.string (ByteArray.mk #[35])] fun c=>pu
 (c,())))) fun d=>ie d.1 (pu (144,())) (pu (0,()))
theorem A2h(p0:B1q):HCs 215 #[.string p0] (A1Z p0) fun x=>.int .u8 x.1:=
 cE [.one (.int .u8)] [0,2,13] [0,13] func215 ntmps215 (CC call243 (CC call245 CN))
def A6U(p0:B1q):HM (Int×Bool×Unit):=
 bn (α:=(Int×Unit)⊕(Int×Bool×Unit)) (HM.loop (σ:=Int×Unit) (τ:=(Int×Unit)⊕(Int×Bool×Unit)) (fun a=>ie (decide (a.1<(((ByteArray.size p0:Nat):Int):Int))) (ci 326 #[.string p0,vi a.1] fun
 b=>ie (b==0) (pu (.inr (.inr (a.1,true,())))) (pu (.inl (wi (a.1+b),())))) (pu (.inr (.inl (a.1,()))))) (0,())) (Sum.elim (fun c=>pu (0,false,())) O9)
theorem A4X(p0:B1q):HCs 241 #[.string p0] (A6U p0) fun x=>.tuple #[.int .i64 x.1,.bool x.2.1]:=
 cE [.one (.int .i64),.one .bool] [0,2,3,4,5,9,14] [0,4,5,9,14] func241 ntmps241 (CC call326 CN)
def j0(p0:Slc)(p1:Value):HM (Int×Unit):=
 bn (α:=(Int×Unit)⊕(Int×Unit)) (HM.loop (σ:=Int×Unit) (τ:=(Int×Unit)⊕(Int×Unit)) (fun a=>ie (decide (a.1<(p0.len:Int))) (ix p0 a.1 1 fun b=>lt b fun c=>bn (α:=Bool) (B6n prog (.one
 .bool) p1 #[.string c]) fun d=>ie d (pu (.inr (.inr (a.1,())))) (pu (.inl (wi (a.1+1),())))) (pu (.inr (.inl (a.1,()))))) (0,())) (Sum.elim (fun e=>pu ((-1),())) O9)
theorem v8(p0:Slc)(p1:Value):HCs 242 #[.slice p0.a p0.len p0.cap,p1] (j0 p0 p1) fun x=>.int .i64 x.1:=
 cE [.one (.int .i64)] [0,1,4,5,7,8,9,16] [0,1,5,7,8,9,16] func242 ntmps242 CN
def A6F(p0:B1q):HM (Bool×Unit):=
 bn (α:=Int×Bool×Unit) (Q4 prog [.one (.int .i64),.one .bool] 327 #[.string p0]) fun a=>bn (α:=Bool×Unit) (ie (!a.2.1) (ie (!(decide (p0=es))) (ie (decide (((ByteArray.size p0:Nat):Int)≤(256
 :Int))) (ci 328 #[.string p0,.string (ByteArray.mk #[47])] fun b=>pu (decide (b<(32:Int)),())) (pu (false,()))) (pu (false,()))) (pu (false,()))) fun c=>pu (c.1,())
theorem A4H(p0:B1q):HCs 243 #[.string p0] (A6F p0) fun x=>.bool x.1:=
 cE [.one .bool] [0,2,4] [0,4] func243 ntmps243 (CC call327 (CC call328 CN))
def A4I(p0:B1q):HM (Slc×Unit):=
 cc 329 #[.string p0,.string (ByteArray.mk #[47])] fun a=>pu (a,())
theorem A38(p0:B1q):HCs 244 #[.string p0] (A4I p0) fun x=>.slice x.1.a x.1.len x.1.cap:=
 cE [.one .slc] [0,2] [0] func244 ntmps244 (CC call329 CN)
def o7(p0:Slc)(p1:Value):HM (Int×Unit):=
 bn (α:=(Int×Unit)⊕(Int×Unit)) (HM.loop (σ:=Int×Unit) (τ:=(Int×Unit)⊕(Int×Unit)) (fun a=>ie (decide (a.1<(p0.len:Int))) (ix p0 a.1 6 fun b=>bn (α:=Int×B1q×Int×Int×B1q×
 B1q×Unit) (N5 [.int .i64,.str,.int .i64,.int .i64,.str,.str] b) fun c=>bn (α:=Bool) (B6n prog (.one .bool) p1 #[.agg #[vi c.1,.string c.2.1,vi c.2.2.1,vi c.2.2.2.1,.string c.2.2.2.2.1,
 .string (w5 c)]]) fun d=>ie d (pu (.inr (.inr (a.1,())))) (pu (.inl (wi (a.1+1),())))) (pu (.inr (.inl (a.1,()))))) (0,())) (Sum.elim (fun e=>pu ((-1),())) O9)
theorem A0i(p0:Slc)(p1:Value):HCs 246 #[.slice p0.a p0.len p0.cap,p1] (o7 p0 p1) fun x=>.int .i64 x.1:=
 cE [.one (.int .i64)] [0,1,4,5,7,8,9,16] [0,1,5,7,8,9,16] func246 ntmps246 CN
def A81(p0:B1q):HM (B1q×Int×Unit):=
 ie (decide (65535<(((ByteArray.size p0:Nat):Int):Int))) (pu (ByteArray.mk #[],149,())) (bn (α:=B1q×Int×Unit) (Q4 prog [.one .str,.one (.int .i64)] 40 #[vi 2,vi ((ByteArray.size p0:
 Nat):Int)]) fun a=>P7 (ByteArray.size a.1+ByteArray.size p0≤9223372036854775807)<|pu (a.1++p0,0,()))
theorem A55(p0:B1q):HCs 248 #[.string p0] (A81 p0) fun x=>.tuple #[.string x.1,.int .i64 x.2.1]:=
 cE [.one .str,.one (.int .i64)] [0,2,3,4,8] [0,4,8] func248 ntmps248 (CC call40 CN)
def A4W(p0:Int):HM (Int×Unit):=
 nw #[vi 1,vi 23,vi 25,vi 36,vi 37,vi 40,vi 41,vi 42] 3 fun a=>cb 331 #[vi p0,.slice (some (az a)) 8 8] fun b=>nw #[vi 19,vi 33,vi 34,vi 35] 3 fun c=>cb 331 #[vi p0,.slice (some (az c)) 4 4] fun d=>nw #[vi 2,
 vi 17,vi 24,vi 39] 3 fun e=>cb 331 #[vi p0,.slice (some (az e)) 4 4] fun f=>nw #[vi 9,vi 22] 3 fun g=>cb 331 #[vi p0,.slice (some (az g)) 2 2] fun h=>nw #[vi 3,vi 8,vi 18,vi 21,vi 26,vi 28,vi 31] 3 fun i=>cb
 331 #[vi p0,.slice (some (az i)) 7 7] fun j=>ie b (pu (1,())) (ie d (pu (2,())) (ie f (pu (3,())) (ie (p0==11) (pu (4,())) (ie h (pu (5,())) (ie j (pu (6,())) (ie (p0==38) (pu (7,())) (pu (0,()))))))))
theorem A4i(p0:Int):HCs 249 #[.int .i64 p0] (A4W p0) fun x=>.int .i64 x.1:=
 cE [.one (.int .i64)] [0,2,3,4,5,6,7,23,24,25,27,28,29,31] [0,3,4,5,6,7,23,24,25,27,28,29,31] func249 ntmps249 (CC call331 CN)
def A6T(p0:Slc)(p1:Int)(p2:Int):HM (Bool×Unit):=
 ie (p2==38) (pu (false,())) (bn (α:=(Int×Unit)⊕(Bool×Unit)) (HM.loop (σ:=Int×Unit) (τ:=(Int×Unit)⊕(Bool×Unit)) (fun a=>ie (decide (a.1<(p1:Int))) (ix p0 a.1 4 fun b=>ki b 0 fun c=>ie (c==p2)
 (pu (.inr (.inr (true,())))) (pu (.inl (wi (a.1+1),())))) (pu (.inr (.inl (a.1,()))))) (0,())) (Sum.elim (fun d=>pu (false,())) O9))
theorem A4V(p0:Slc)(p1:Int)(p2:Int):HCs 250 #[.slice p0.a p0.len p0.cap,.int .i64 p1,.int .i64 p2] (A6T p0 p1 p2) fun x=>.bool x.1:=
 cE [.one .bool] [0,1,2,6,7,9,12,21] [0,1,2,7,9,12,21] func250 ntmps250 CN
def A6S(p0:yS5):HM (B1q×Int×Unit):=
 nw (aS5 p0) 253 fun a=>ji a 0 fun b=>ci 249 #[vi b] fun c=>ie (c==4) (ji a 1 fun d=>bn (α:=B1q×Int×Unit) (Q4 prog [.one .str,.one (.int .i64)] 41 #[vi d]) fun e=>pu (e.1,e.2.1,())) (ie (c==
 5) (jt a 2 fun f=>bn (α:=B1q×Int×Unit) (Q4 prog [.one .str,.one (.int .i64)] 248 #[.string f]) fun g=>pu (g.1,g.2.1,())) (ie (c==6) (jt a 2 fun h=>bn (α:=B1q×Int×Unit) (Q4
 prog [.one .str,.one (.int .i64)] 185 #[.string h]) fun i=>pu (i.1,i.2.1,())) (ie (c==7) (jt a 2 fun j=>bn (α:=B1q×Int×Unit) (Q4 prog [.one .str,.one (.int .i64)] 185 #[.string j]) fun
 k=>ie (!(k.2.1==0)) (pu (ByteArray.mk #[],k.2.1,())) (jt a 3 fun l=>bn (α:=B1q×Int×Unit) (Q4 prog [.one .str,.one (.int .i64)] 185 #[.string l]) fun m=>ie (!(m.2.1==0)) (pu (ByteArray.mk
 #[],m.2.1,())) (P7 (ByteArray.size k.1+ByteArray.size m.1≤9223372036854775807)<|pu (k.1++m.1,0,())))) (ci 332 #[vi c] fun n=>ji a 1 fun o=>bn (α:=B1q×Int×Unit) (Q4 prog [.one .str,
 .one (.int .i64)] 40 #[vi n,vi o]) fun p=>pu (p.1,p.2.1,())))))
theorem A4U(p0:yS5):HCs 251 #[.agg (aS5 p0)] (A6S p0) fun x=>.tuple #[.string x.1,.int .i64 x.2.1]:=
 cE [.one .str,.one (.int .i64)] [0,1,2,3,4,5,6,7,8,9,13,14,21,28,35,44,53] [0,1,4,5,6,7,8,9,13,14,21,28,35,44,53] func251 ntmps251 (CC call249 (CC call41 (CC call248 (CC call185 (CC call332 (CC call40 CN))))))
def A3S(p0:Int)(p1:Int):HM (Bool×Unit):=
 ie (p0==0) (nw #[vi 1,vi 2,vi 3,vi 8,vi 9,vi 24,vi 38] 3 fun a=>cb 333 #[vi p1,.slice (some (az a)) 7 7] fun b=>pu (b,())) (ie (p0==1) (nw #[vi 17,vi 21,vi 22,vi 23,vi 25,vi 33,vi 34,vi 38,vi 39] 3
 fun c=>cb 333 #[vi p1,.slice (some (az c)) 9 9] fun d=>pu (d,())) (ie (p0==2) (bn (α:=Bool×Unit) (nw #[vi 17,vi 18,vi 19,vi 21,vi 22,vi 26,vi 28,vi 31,vi 33,vi 34] 3 fun e=>cb 333 #[vi p1,.slice (some
 (az e)) 10 10] fun f=>ie f (pu (true,())) (ie (decide (36≤(p1:Int))) (pu (decide (p1≤(42:Int)),())) (pu (false,())))) fun g=>pu (g.1,())) (ie (p0==3) (nw #[vi 1,vi 2,vi 3,vi 8,vi 9,vi 11,vi 35,vi 38]
 3 fun h=>cb 333 #[vi p1,.slice (some (az h)) 8 8] fun i=>pu (i,())) (bn (α:=Bool×Unit) (ie (p0==4) (pu (p0==4,())) (bn (α:=Bool×Unit) (ie (p0==5) (pu (p0==5,())) (bn (α:=Bool×Unit) (ie (p0==6)
 (pu (p0==6,())) (bn (α:=Bool×Unit) (ie (p0==7) (pu (p0==7,())) (bn (α:=Bool×Unit) (ie (p0==9) (pu (p0==9,())) (pu (p0==11,()))) fun j=>pu (j.1,()))) fun k=>pu (k.1,()))) fun l=>pu (l.1,())))
 fun m=>pu (m.1,()))) fun n=>ie n.1 (bn (α:=Bool×Unit) (ie (p1==31) (pu (true,())) (pu (p1==38,()))) fun o=>pu (o.1,())) (ie (p0==8) (bn (α:=Bool×Unit) (ie (p1==11) (pu (true,())) (pu (p1==38,())))
 fun p=>pu (p.1,())) (ie (p0==10) (pu (p1==38,())) (ie (p0==14) (nw #[vi 17,vi 28,vi 31,vi 38] 3 fun q=>cb 333 #[vi p1,.slice (some (az q)) 4 4] fun r=>pu (r,())) (ie (p0==15) (nw #[vi 21,vi 22,vi 31,vi
 38] 3 fun s=>cb 333 #[vi p1,.slice (some (az s)) 4 4] fun t=>pu (t,())) (pu (false,()))))))))))
theorem A3E(p0:Int)(p1:Int):HCs 252 #[.int .i64 p0,.int .i64 p1] (A3S p0 p1) fun x=>.bool x.1:=
 cE [.one .bool] [0,1,4,5,6,11,16,29,34,47,55,59,64] [0,1,5,6,11,16,29,34,47,55,59,64] func252 ntmps252 (CC call333 CN)
def A8Y(p0:B1q)(p1:Int):HM (Int×Unit):=
 bn (α:=Int) (A9U p0 p1) fun a=>bn (α:=Bool×Unit) (ie (decide (1≤((wi a):Int))) (pu (decide ((wi a)≤(127:Int)),())) (pu (false,()))) fun b=>ie b.1 (pu (1,())) (cb 394 #[.string p0,vi (wi (p1+
 1)),vi 128,vi 191] fun c=>cb 394 #[.string p0,vi (wi (p1+2)),vi 128,vi 191] fun d=>cb 394 #[.string p0,vi (wi (p1+3)),vi 128,vi 191] fun e=>bn (α:=Bool×Unit) (ie (decide (194≤((wi a):Int))) (ie
 (decide ((wi a)≤(223:Int))) (pu (c,())) (pu (false,()))) (pu (false,()))) fun f=>ie f.1 (pu (2,())) (bn (α:=Bool×Unit) (ie (decide (224≤((wi a):Int))) (ie (decide ((wi a)≤(239:Int))) (ie c (pu (d,
 ())) (pu (false,()))) (pu (false,()))) (pu (false,()))) fun g=>ie g.1 (cb 394 #[.string p0,vi (wi (p1+1)),vi 160,vi 191] fun h=>cb 394 #[.string p0,vi (wi (p1+1)),vi 128,vi 159] fun i=>bn (α:=Bool×Unit)
 (ie ((wi a)==224) (ie (!h) (pu (true,())) (ie ((wi a)==237) (pu (!i,())) (pu (false,())))) (ie ((wi a)==237) (pu (!i,())) (pu (false,())))) fun j=>ie j.1 (pu (0,())) (pu (3,()))) (bn (α:=Bool×Unit) (ie
 (decide (240≤((wi a):Int))) (ie (decide ((wi a)≤(244:Int))) (ie c (ie d (pu (e,())) (pu (false,()))) (pu (false,()))) (pu (false,()))) (pu (false,()))) fun k=>ie k.1 (cb 394 #[.string p0,vi (wi (p1+1)),
 vi 144,vi 191] fun l=>cb 394 #[.string p0,vi (wi (p1+1)),vi 128,vi 143] fun m=>bn (α:=Bool×Unit) (ie ((wi a)==240) (ie (!l) (pu (true,())) (ie ((wi a)==244) (pu (!m,())) (pu (false,())))) (ie ((wi a)==
 244) (pu (!m,())) (pu (false,())))) fun n=>ie n.1 (pu (0,())) (pu (4,()))) (pu (0,())))))
theorem A52(p0:B1q)(p1:Int):HCs 326 #[.string p0,.int .i64 p1] (A8Y p0 p1) fun x=>.int .i64 x.1:=
 cE [.one (.int .i64)] [0,1,4,5,6,7,8,9,10,11,12,22,43,55,77,92,114] [0,1,5,6,7,8,9,10,11,12,22,43,55,77,92,114] func326 ntmps326 (CC call394 CN)
def A8F(p0:B1q):HM (Int×Bool×Unit):=
 bn (α:=(Int×Unit)⊕(Int×Bool×Unit)) (HM.loop (σ:=Int×Unit) (τ:=(Int×Unit)⊕(Int×Bool×Unit)) (fun a=>ie (decide (a.1<(((ByteArray.size p0:Nat):Int):Int))) (bn (α:=B1q) (r7 p0
 (some a.1) none) fun b=>ci 395 #[.string b] fun c=>ie (c==0) (pu (.inr (.inr (a.1,true,())))) (pu (.inl (wi (a.1+c),())))) (pu (.inr (.inl (a.1,()))))) (0,())) (Sum.elim (fun d=>pu (0,false,())) O9)
theorem A5R(p0:B1q):HCs 327 #[.string p0] (A8F p0) fun x=>.tuple #[.int .i64 x.1,.bool x.2.1]:=
 cE [.one (.int .i64),.one .bool] [0,2,3,4,5,9,15] [0,4,5,9,15] func327 ntmps327 (CC call395 CN)
def B3r(p0:Int)(p1:Slc):HM (Bool×Unit):=
 bn (α:=(Int×Unit)⊕(Bool×Unit)) (HM.loop (σ:=Int×Unit) (τ:=(Int×Unit)⊕(Bool×Unit)) (fun a=>ie (decide (a.1<(p1.len:Int))) (ix p1 a.1 1 fun b=>li b fun c=>ie (c==p0) (pu (.inr (.inr (true,()))))
 (pu (.inl (wi (a.1+1),())))) (pu (.inr (.inl (a.1,()))))) (0,())) (Sum.elim (fun d=>pu (false,())) O9)
theorem A8W(p0:Int)(p1:Slc):HCs 331 #[.int .i64 p0,.slice p1.a p1.len p1.cap] (B3r p0 p1) fun x=>.bool x.1:=
 cE [.one .bool] [0,1,4,5,9,17] [0,1,5,9,17] func331 ntmps331 CN
def A6R(p0:Int):HM (Int×Unit):=
 ie (p0==1) (pu (1,())) (ie (p0==2) (pu (2,())) (pu (4,())))
theorem A4T(p0:Int):HCs 332 #[.int .i64 p0] (A6R p0) fun x=>.int .i64 x.1:=
 cE [.one (.int .i64)] [0,2,4,6] [0,4,6] func332 ntmps332 CN
def B3p(p0:Int)(p1:Slc):HM (Bool×Unit):=
 bn (α:=(Int×Unit)⊕(Bool×Unit)) (HM.loop (σ:=Int×Unit) (τ:=(Int×Unit)⊕(Bool×Unit)) (fun a=>ie (decide (a.1<(p1.len:Int))) (ix p1 a.1 1 fun b=>li b fun c=>ie (c==p0) (pu (.inr (.inr (true,()))))
 (pu (.inl (wi (a.1+1),())))) (pu (.inr (.inl (a.1,()))))) (0,())) (Sum.elim (fun d=>pu (false,())) O9)
theorem A8S(p0:Int)(p1:Slc):HCs 333 #[.int .i64 p0,.slice p1.a p1.len p1.cap] (B3p p0 p1) fun x=>.bool x.1:=
 cE [.one .bool] [0,1,4,5,9,17] [0,1,5,9,17] func333 ntmps333 CN
def A8X(p0:B1q)(p1:Int)(p2:Int)(p3:Int):HM (Bool×Unit):=
 bn (α:=Bool×Unit) (ie (decide (p1<(((ByteArray.size p0:Nat):Int):Int))) (bn (α:=Int) (A9U p0 p1) fun a=>ie (decide (p2≤((wi a):Int))) (bn (α:=Int) (A9U p0 p1) fun b=>pu (decide ((wi b)≤
 (p3:Int)),())) (pu (false,()))) (pu (false,()))) fun c=>pu (c.1,())
theorem A51(p0:B1q)(p1:Int)(p2:Int)(p3:Int):HCs 394 #[.string p0,.int .i64 p1,.int .i64 p2,.int .i64 p3] (A8X p0 p1 p2 p3) fun x=>.bool x.1:=
 cE [.one .bool] [0,1,2,3,8] [0,1,2,3] func394 ntmps394 CN
def B0w(p0:B1q):HM (Int×Unit):=
 bn (α:=Int×Int×Unit) (Q4 prog [.one (.int .i32),.one (.int .i64)] 430 #[.string p0]) fun a=>bn (α:=Bool×Unit) (ie (a.1==0) (pu (true,())) (ie (a.1==65533) (pu (decide (a.2.1<(2:Int)),()))
 (pu (false,())))) fun b=>ie b.1 (pu (0,())) (pu (a.2.1,()))
theorem A7n(p0:B1q):HCs 395 #[.string p0] (B0w p0) fun x=>.int .i64 x.1:=
 cE [.one (.int .i64)] [0,2,3,4,19] [0,3,4,19] func395 ntmps395 (CC call430 CN)
def A5f(p0:C3C):HM (C3C×B1q×Slc×Value×Unit):=
 ie (Option.isNone p0) (bn (α:=Value) (O3 prog (.one .any) 42 #[.string (ByteArray.mk #[111,112,101,110]),.int .u8 128]) fun a=>pu (none,ByteArray.mk #[],⟨none,0,0⟩,a,())) (nw #[.pointer p0,vi 1,
 vi 0,.bool false] 164 fun b=>nw #[vi 0,ve,vz] 166 fun c=>bn (α:=(Int×Unit)⊕(C3C×B1q×Slc×Value×Unit)) (HM.loop (σ:=Int×Unit) (τ:=(Int×Unit)⊕(C3C×B1q×Slc×Value×
 Unit)) (fun d=>ie (decide (d.1<(2:Int))) (bn (α:=B1q×Int×Unit) (Q4 prog [.one .str,.one (.int .u8)] 43 #[.pointer p0,vi d.1]) fun e=>ie (!(e.2.1==0)) (bn (α:=Value) (O3 prog
 (.one .any) 42 #[.string (ByteArray.mk #[100,105,115,107]),.int .u8 e.2.1]) fun f=>pu (.inr (.inr (none,ByteArray.mk #[],⟨none,0,0⟩,f,())))) (bn (α:=Int×B1q×Slc×Unit) (O3 prog (.agg
 [.int .i64,.str,.slc]) 44 #[.string e.1]) fun g=>nw #[vi 0,ve,vz] 166 fun h=>sn h [vi g.1,.string g.2.1,vs g.2.2.1] fun _=>ji h 0 fun i=>ji c 0 fun j=>bn (α:=Unit) (ie (decide (j<(i:Int))) (bn (α:=Int×
 B1q×Slc×Unit) (N5 [.int .i64,.str,.slc] (az h)) fun k=>ji h 0 fun l=>sn c [vi k.1,.string k.2.1,vs k.2.2.1] fun _=>ji h 0 fun m=>rq (vi m) (vi l)<|nn (some (az b)) fun n=>sx (Addr.add n 1) (vi d.1)
 fun _=>ji h 0 fun o=>rq (vi o) (vi l)<|nn (some (az b)) fun p=>sx (Addr.add p 2) (vi l) fun _=>pu ()) (pu ())) fun q=>pu (.inl (wi (d.1+1),())))) (pu (.inr (.inl (d.1,()))))) (0,())) (Sum.elim (fun r=>jt c 1 fun
 s=>jc c 2 fun t=>bn (α:=Value) (O3 prog (.one .any) 45 #[.pointer (some (az b)),.string s,vs t]) fun u=>P7 (isIface (u:Value)=true)<|ie (!(A0C u)) (pu (none,ByteArray.mk #[],⟨none,0,0⟩,u,
 ())) (jt c 1 fun v=>jc c 2 fun w=>pu (some (az b),v,w,.nilIface,()))) O9))
theorem A4n(p0:C3C):HCs 20 #[.pointer p0] (A5f p0) fun x=>.tuple #[.pointer x.1,.string x.2.1,.slice x.2.2.1.a x.2.2.1.len x.2.2.1.cap,x.2.2.2.1]:=
 cE [.one .ptr,.one .str,.one .slc,.one .any] [0,2,3,4,5,6,7,8,9,10,11,12,14,19,20,29,38,57] [0,6,7,8,9,10,11,12,14,19,20,29,38,57] func20 ntmps20 (CC call42 (CC call43 (CC call44 (CC call45 CN))))
def A2B(p0:B1q)(p1:Int):HM (Value×Unit):=
 ie (p1==0) (pu (.nilIface,())) (bn (α:=Value) (O3 prog (.one .any) 19 #[.int .u8 p1,.string p0]) fun a=>bn (α:=Value) (O3 prog (.one .any) 21 #[.string (ByteArray.mk #[106,111,117,114,
 110,97,108]),a]) fun b=>pu (b,()))
theorem A2A(p0:B1q)(p1:Int):HCs 42 #[.string p0,.int .u8 p1] (A2B p0 p1) fun x=>x.1:=
 cE [.one .any] [0,1,4,6] [0,1,6] func42 ntmps42 (CC call19 (CC call21 CN))
open Go.Proofs Go.Shelf
def A37:Go.Shelf.Ren:=⟨fun n=>match n with|197=>430|260=>465|n=>n,fun n=>match n with|9=>9|21=>21|3=>3|4=>4|5=>5|105=>588|119=>635|0=>0|46=>180|139=>638|138=>637|n=>n,fun n=>match n with|3=>5|4=>6|n=>n⟩
theorem u8:Lays.n197 prog A37 where
 mixed:=by kernel_rfl
 f197:=func430.trans (congrArg some (by kernel_rfl))
 f260:=func465.trans (congrArg some (by kernel_rfl))
 t0:=underlying0
 a0:=isAgg0
 z0:=sizeOf0
 v0:=zeroValue0
 t3:=underlying3
 a3:=isAgg3
 z3:=sizeOf3
 v3:=zeroValue3
 t4:=underlying4
 a4:=isAgg4
 z4:=sizeOf4
 v4:=zeroValue4
 t5:=underlying5
 a5:=isAgg5
 z5:=sizeOf5
 v5:=zeroValue5
 t9:=underlying9
 a9:=isAgg9
 z9:=sizeOf9
 v9:=zeroValue9
 t21:=underlying21
 a21:=isAgg21
 z21:=sizeOf21
 v21:=zeroValue21
 t46:=underlying180
 a46:=isAgg180
 z46:=sizeOf180
 v46:=zeroValue180
 t105:=underlying588
 a105:=isAgg588
 z105:=sizeOf588
 v105:=zeroValue588
 t119:=underlying635
 a119:=isAgg635
 z119:=sizeOf635
 t138:=underlying637
 a138:=isAgg637
 z138:=sizeOf637
 v138:=zeroValue637
 t139:=underlying638
 a139:=isAgg638
 z139:=sizeOf638
 v139:=zeroValue638
 g3:=by kernel_rfl
 g4:=by kernel_rfl
def U8(h0:Heap):Prop:=
 (∀c,c<256→O5 h0 ⟨A37.g 3,c,none⟩=some (.int .u8 (Lib.firstT c)))∧
 (∀i,i<16→O5 h0 ⟨A37.g 4,2*i,none⟩=some (.int .u8 (Lib.accLo i))∧O5 h0 ⟨A37.g 4,2*i+1,none⟩=some (.int .u8 (Lib.accHi i)))
theorem U8.tabs{h h0:Heap}{R:List Asn}(ht:U8 h0)(hs:sat h (old h0::R)){w:World}(hw:w.heap=h):Lib.Utf8Tabs (A37.g 3) (A37.g 4) w:=by
 subst hw
 exact⟨fun c hc=>hs.aU (ht.1 c hc),fun i hi=>⟨hs.aU (ht.2 i hi).1,hs.aU (ht.2 i hi).2⟩⟩
theorem B4o{h h0:Heap}{R:List Asn}(hs:sat h (old h0::R))(ht:U8 h0)(s:B1q){Q:Value→Heap→Prop}
  (hq:∀h',sat h' (old h0::R)→Q (.tuple #[.int .i32 (Lib.decodeGo s).1,.int .i64 (Lib.decodeGo s).2]) h'):N9 prog 430 #[.string s] h Q:=
 A7h hs (fun w hw=>Any.utf8_DecodeRuneInString u8 s w (ht.tabs hs hw)) hq
def m0(s:B1q):Nat:=if(Lib.decodeGo s).1=0∨((Lib.decodeGo s).1=65533∧(Lib.decodeGo s).2<2) then 0 else(Lib.decodeGo s).2
theorem A9a(s:B1q):m0 s≤s.size:=by
 unfold m0
 split
 ·exact E9 _
 ·exact Lib.decodeGo_le_size s
theorem B6W{h h0:Heap}{R:List Asn}(hs:sat h (old h0::R))(ht:U8 h0)(s:B1q){Q:Value→Heap→Prop}
  (hq:∀h',sat h' (old h0::R)→Q (.int .i64 (m0 s)) h'):N9 prog 395 #[.string s] h Q:=by
 refine A7n s h Q ?_
 delta B0w bn ie pu
 simp
 refine B4o hs ht s fun h' ah=>?_
 have:=hq h' ah
 unfold m0 at this
 by_cases g1:(Lib.decodeGo s).1=0
 ·simpa[g1] using this
 ·by_cases g2:(Lib.decodeGo s).1=65533
  ·by_cases g3:(Lib.decodeGo s).2<2
   ·have nV:((Lib.decodeGo s).2:Int)<2:=by omega
    simpa[g1,g2,g3,nV] using this
   ·have nV:¬((Lib.decodeGo s).2:Int)<2:=by omega
    simpa[g1,g2,g3,nV] using this
  ·have rT:¬((Lib.decodeGo s).1:Int)=65533:=by omega
   simpa[g1,g2,rT] using this
def A3y(s:B1q):Nat→Nat→Option Nat
 |0,_=>none
 |f+1,at'=>if at'<s.size then(if m0 (s.extract at' s.size)=0 then some at' else A3y s f (at'+m0 (s.extract at' s.size))) else none
def W9(s:B1q):Option Nat:=A3y s (s.size+1) 0
def B2n:Option Nat→Value
 |some n=>.tuple #[.int .i64 n,.bool true]
 |none=>.tuple #[.int .i64 0,.bool false]
theorem B5H{h h0:Heap}{R:List Asn}(hs:sat h (old h0::R))(ht:U8 h0)(s:B1q)(ao:s.size≤9223372036854775807){Q:Value→Heap→Prop}
  (hq:∀h',sat h' (old h0::R)→Q (B2n (W9 s)) h'):N9 prog 327 #[.string s] h Q:=by
 refine A5R s h Q ?_
 delta A8F bn ci ie pu wi
 simp only[N2]
 refine Y0 (γ:=Nat×Nat) (fun g c h'=>c.1=(g.2:Int)∧g.2≤s.size∧s.size-g.2<g.1∧A3y s g.1 g.2=W9 s∧sat h' (old h0::R)) (fun g=>g.1) (s.size+1,0) ⟨rfl,E9 _,by simp,rfl,hs⟩ ?_
 rintro⟨f,at'⟩ ⟨c,⟨⟩⟩ h1 ⟨hc,hle,hf,hg,aa⟩
 simp only at hc hle hf hg
 subst hc
 cases f with
 |zero=>omega
 |succ f=>
 simp only[A3y] at hg
 by_cases af:at'<s.size
 ·rw[if_pos af] at hg
  have dD:(at':Int)<(s.size:Int):=by omega
  simp[dD]
  refine⟨at',s.size,rfl,⟨rfl,by omega⟩,?_⟩
  refine B6W aa ht _ fun h2 ai=>?_
  have hn:=A9a (s.extract at' s.size)
  generalize m0 (s.extract at' s.size)=n at hg hn⊢
  have fo:(s.extract at' s.size).size=s.size-at':=by simp
  rw[fo] at hn
  by_cases h0:n=0
  ·rw[if_pos h0] at hg
   have:=hq h2 ai
   rw[←hg] at this
   simpa[h0,B2n] using this
  ·rw[if_neg h0] at hg
   simp[h0]
   exact .mk (f,at'+n) (by simp) ⟨by simp only[];rw[O8 (by omega) (by omega)];rfl,by simp only[];omega,by simp only[];omega,hg,ai⟩
 ·rw[if_neg af] at hg
  have dD:¬(at':Int)<(s.size:Int):=by omega
  have:=hq h1 aa
  rw[←hg] at this
  simpa[dD,B2n] using this
end Go.Proofs.YtmpgankhnfpoaaaGreatDoor