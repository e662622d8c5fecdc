/-
  Our texts, packed by program.
-/
import Derived.Test.YtmpgankhnfpoaaaGreatDoorQNodeRefuses3
import Derived.LoopN
import Derived.Scope
import Derived.Defers
import Derived.Shelf.Strings.Builder1
import Derived.Tactics
import Derived.Tactics2
import Derived.Recover
import Derived.Laws.Pointers
import Derived.WalkSmall
import Derived.Shelf.SlIter.Collect
import Derived.RangeFuncGives
import Derived.Maps.AppendAt
import Derived.Sort.MapsRangeIn
set_option linter.unusedSimpArgs false
set_option linter.unusedVariables false
set_option maxHeartbeats 16000000
set_option maxRecDepth 100000
namespace Go.X
open Go.H
section
open Go.H
mutual
def ren(σ:Nat→Nat):XV→XV
 |.ptr k o=>.ptr (σ k) o
 |.eptr k o=>.eptr (σ k) o
 |.slc k=>.slc (σ k)
 |.map k=>.map (σ k)
 |.agg cs=>.agg (A5V σ cs)
 |.aQ cs=>.aQ (A5V σ cs)
 |.func f a b=>.func f (A5V σ a) (A5V σ b)
 |.iface t v=>.iface t (ren σ v)
 |.int k n=>.int k n
 |.bool b=>.bool b
 |.str s=>.str s
 |.nptr=>.nptr
 |.gptr g o=>.gptr g o
 |.nslc=>.nslc
 |.nmap=>.nmap
 |.nfunc=>.nfunc
 |.niface=>.niface
def A5V(σ:Nat→Nat):List XV→List XV
 |[]=>[]
 |v::vs=>ren σ v::A5V σ vs
end
def As.ren(β:As)(σ:Nat→Nat):As:=⟨fun k=>β.b (σ k),fun k=>β.s (σ k),β.o⟩
mutual
theorem A7X{β:As}{σ:Nat→Nat}:∀v,val β (ren σ v)=val (β.ren σ) v
 |.ptr k o=>rfl
 |.eptr k o=>rfl
 |.slc k=>rfl
 |.map k=>rfl
 |.agg cs=>by simp only[ren,val];rw[A0v cs]
 |.aQ cs=>by simp only[ren,val];rw[A0v cs]
 |.func f a b=>by simp only[ren,val];rw[A0v a,A0v b]
 |.iface t v=>by simp only[ren,val];rw[A7X v]
 |.int k n=>rfl
 |.bool b=>rfl
 |.str s=>rfl
 |.nptr=>rfl
 |.gptr g o=>rfl
 |.nslc=>rfl
 |.nmap=>rfl
 |.nfunc=>rfl
 |.niface=>rfl
theorem A0v{β:As}{σ:Nat→Nat}:∀l,vals β (A5V σ l)=vals (β.ren σ) l
 |[]=>rfl
 |v::vs=>by simp only[A5V,vals];rw[A7X v,A0v vs]
end
def A4e{K:Type}(σ:Nat→Nat):List (K×XV)→List (K×XV)
 |[]=>[]
 |(k,v)::r=>(k,ren σ v)::A4e σ r
def B6O(σ:Nat→Nat):List (List XV)→List (List XV)
 |[]=>[]
 |l::r=>A5V σ l::B6O σ r
def A4d(σ:Nat→Nat):XF→XF
 |.cells T cs=>.cells T (A5V σ cs)
 |.mapI es=>.mapI (A4e σ es)
 |.mapS es=>.mapS (A4e σ es)
 |.mapT es=>.mapT (A4e σ es)
 |.mapP es=>.mapP (A4e σ es)
 |.own size es=>.own size (B6O σ es)
 |.txt s p=>.txt s p
 |.buf T bs=>.buf T bs
 |.walkI it l d t=>.walkI (σ it) (A4e σ l) (A4e σ d) (A4e σ t)
 |.walkS it l d t=>.walkS (σ it) (A4e σ l) (A4e σ d) (A4e σ t)
 |.itOf m=>.itOf (σ m)
 |.itNil=>.itNil
 |.view k z lo hi mx=>.view (σ k) z lo hi mx
 |.base gs=>.base gs
theorem l7{K:Type}{β:As}{σ:Nat→Nat}:∀{es:List (K×XV)},(A4e σ es).map (fun p=>(p.1,val β p.2))=es.map (fun p=>(p.1,val (β.ren σ) p.2))
 |[]=>rfl
 |(k,v)::r=>by simp only[A4e,B6];rw[A7X v,l7]
theorem B5W{β:As}{σ:Nat→Nat}:∀{es:List (List XV)},(B6O σ es).map (vals β)=es.map (vals (β.ren σ))
 |[]=>rfl
 |l::r=>by simp only[B6O,B6];rw[A0v l,B5W]
theorem A72{K:Type}{ek:K→Value}{b:Nat}{f g:XV→Value}{es fs:List (K×XV)}(h:es.map (fun p=>(p.1,f p.2))=fs.map (fun p=>(p.1,g p.2))):mapA ek f b es=mapA ek g b fs:=by
 have e:∀l,Z2 ek f es l=Z2 ek g fs l:=fun l=>by
  unfold Z2
  have h2:=congrArg (List.map fun p:K×Value=>(ek p.1,p.2)) h
  simp only[F6,G5] at h2
  rw[h2]
 unfold mapA
 simp only[e]
theorem B8v{K:Type}{ek:K→Value}{b it:Nat}{f g:XV→Value}{l d t l' d' t':List (K×XV)}(h1:l.map (fun p=>(p.1,f p.2))=l'.map (fun p=>(p.1,g p.2)))(h2:d.map (fun p=>(p.1,f p.2))=d'.map (fun p=>(p.1,g p.2)))(h3:t.map (fun p=>(p.1,f p.2))=t'.map (fun p=>(p.1,g p.2))):
  itA ek f b l it d t=itA ek g b l' it d' t':=by
 have key:∀{l l':List (K×XV)},l.map (fun p=>(p.1,f p.2))=l'.map (fun p=>(p.1,g p.2))→l.map (fun p=>(ek p.1,f p.2))=l'.map (fun p=>(ek p.1,g p.2)):=fun{l l'} h=>by
  have h2:=congrArg (List.map fun p:K×Value=>(ek p.1,p.2)) h
  simpa only[F6,G5] using h2
 have e:∀es c s des tes,ItF ek f l d t es c s des tes=ItF ek g l' d' t' es c s des tes:=fun es c s des tes=>by
  refine propext ⟨fun h=>⟨?_,h.stamped,h.perm,h.seen,?_,?_⟩,fun h=>⟨?_,h.stamped,h.perm,h.seen,?_,?_⟩⟩
  ·have:=h.cM;unfold Z2 at this⊢;rw[←key h1];exact this
  ·have:=h.done;unfold m9 at this⊢;rw[←key h2];exact this
  ·have:=h.todo;unfold m9 at this⊢;rw[←key h3];exact this
  ·have:=h.cM;unfold Z2 at this⊢;rw[key h1];exact this
  ·have:=h.done;unfold m9 at this⊢;rw[key h2];exact this
  ·have:=h.todo;unfold m9 at this⊢;rw[key h3];exact this
 unfold itA
 simp only[e]
theorem B8H{β:As}{σ:Nat→Nat}(k:Nat):∀f,fact β (σ k,A4d σ f)=fact (β.ren σ) (k,f)
 |.cells T cs=>by simp only[A4d,fact];rw[A0v];rfl
 |.mapI es=>by simp only[A4d,fact];rw[A72 l7];rfl
 |.mapS es=>by simp only[A4d,fact];rw[A72 l7];rfl
 |.mapT es=>by simp only[A4d,fact];rw[A72 l7];rfl
 |.mapP es=>by simp only[A4d,fact];rw[A72 l7];rfl
 |.own size es=>by simp only[A4d,fact,A1B];rw[B5W];rfl
 |.txt s p=>rfl
 |.buf T bs=>rfl
 |.walkI it l d t=>by simp only[A4d,fact];rw[B8v l7 l7 l7];rfl
 |.walkS it l d t=>by simp only[A4d,fact];rw[B8v l7 l7 l7];rfl
 |.itOf m=>rfl
 |.itNil=>rfl
 |.view k z lo hi mx=>rfl
 |.base gs=>rfl
def A5M{K:Type}(eq:K→K→Bool):List (K×XV)→List (K×XV)→Bool
 |[],[]=>true
 |(k,v)::r,(k',v')::r'=>match eq k k' with
  |true=>match xeq v v' with
   |true=>A5M eq r r'
   |false=>false
  |false=>false
 |_,_=>false
theorem l4{K:Type}{eq:K→K→Bool}(heq:∀a b,eq a b=true→a=b):∀{a b:List (K×XV)},A5M eq a b=true→a=b
 |[],[],_=>rfl
 |[],_::_,h=>by cases h
 |_::_,[],h=>by cases h
 |(k,v)::r,(k',v')::r',h=>by
  simp only[A5M] at h
  split at h
  ·rename_i h1
   split at h
   ·rename_i h2;rw[heq _ _ h1,A2n _ _ h2,l4 heq h]
   ·cases h
  ·cases h
def B9s:List (List XV)→List (List XV)→Bool
 |[],[]=>true
 |a::r,b::r'=>match A5L a b with
  |true=>B9s r r'
  |false=>false
 |_,_=>false
theorem B5K:∀{a b:List (List XV)},B9s a b=true→a=b
 |[],[],_=>rfl
 |[],_::_,h=>by cases h
 |_::_,[],h=>by cases h
 |a::r,b::r',h=>by
  simp only[B9s] at h
  split at h
  ·rename_i h1;rw[A0g _ _ h1,B5K h]
  ·cases h
def B7C:XF→XF→Bool
 |.cells n a,.cells m b=>match Nat.beq n m with
  |true=>A5L a b
  |false=>false
 |.mapI a,.mapI b=>A5M (fun x y=>decide (x=y)) a b
 |.mapS a,.mapS b=>A5M (fun x y=>decide (x=y)) a b
 |.mapT a,.mapT b=>A5M (fun x y=>decide (x=y)) a b
 |.mapP a,.mapP b=>A5M (fun x y=>decide (x=y)) a b
 |.own n a,.own m b=>match Nat.beq n m with
  |true=>B9s a b
  |false=>false
 |.txt s p,.txt t q=>match decide (s=t) with
  |true=>Nat.beq p q
  |false=>false
 |.buf n a,.buf m b=>match Nat.beq n m with
  |true=>decide (a=b)
  |false=>false
 |.walkI n a b c,.walkI m a' b' c'=>match Nat.beq n m with
  |true=>match A5M (fun x y=>decide (x=y)) a a' with
   |true=>match A5M (fun x y=>decide (x=y)) b b' with
    |true=>A5M (fun x y=>decide (x=y)) c c'
    |false=>false
   |false=>false
  |false=>false
 |.walkS n a b c,.walkS m a' b' c'=>match Nat.beq n m with
  |true=>match A5M (fun x y=>decide (x=y)) a a' with
   |true=>match A5M (fun x y=>decide (x=y)) b b' with
    |true=>A5M (fun x y=>decide (x=y)) c c'
    |false=>false
   |false=>false
  |false=>false
 |.itOf n,.itOf m=>Nat.beq n m
 |.itNil,.itNil=>true
 |.view k z lo hi mx,.view k2 z2 pP gb pM=>match Nat.beq k k2 with
  |true=>match Nat.beq z z2 with
   |true=>match Nat.beq lo pP with
    |true=>match Nat.beq hi gb with
     |true=>decide (mx=pM)
     |false=>false
    |false=>false
   |false=>false
  |false=>false
 |.base a,.base b=>decide (a=b)
 |_,_=>false
theorem B5L{a b:XF}(h:B7C a b=true):a=b:=by
 have hd:∀{K:Type} [DecidableEq K] (x y:K),(decide (x=y))=true→x=y:=fun x y h=>of_decide_eq_true h
 cases a<;>cases b<;>simp only[B7C] at h<;>try(cases h;done)
 ·split at h
  ·rename_i h1;rw[B0 h1,A0g _ _ h]
  ·cases h
 ·rw[l4 hd h]
 ·rw[l4 hd h]
 ·rw[l4 hd h]
 ·rw[l4 hd h]
 ·split at h
  ·rename_i h1;rw[B0 h1,B5K h]
  ·cases h
 ·split at h
  ·rename_i h1;rw[of_decide_eq_true h1,B0 h]
  ·cases h
 ·split at h
  ·rename_i h1;rw[B0 h1,of_decide_eq_true h]
  ·cases h
 ·split at h
  ·rename_i h1
   split at h
   ·rename_i h2
    split at h
    ·rename_i h3;rw[B0 h1,l4 hd h2,l4 hd h3,l4 hd h]
    ·cases h
   ·cases h
  ·cases h
 ·split at h
  ·rename_i h1
   split at h
   ·rename_i h2
    split at h
    ·rename_i h3;rw[B0 h1,l4 hd h2,l4 hd h3,l4 hd h]
    ·cases h
   ·cases h
  ·cases h
 ·rw[B0 h]
 ·rfl
 ·split at h
  ·rename_i h1
   split at h
   ·rename_i h2
    split at h
    ·rename_i h3
     split at h
     ·rename_i h4;rw[B0 h1,B0 h2,B0 h3,B0 h4,of_decide_eq_true h]
     ·cases h
    ·cases h
   ·cases h
  ·cases h
 ·rw[of_decide_eq_true h]
section
variable {α:Type}
def Tri.cG(p:Nat→α→Bool):Tri α→(Nat→Nat)→Tri α
 |.lf,_=>.lf
 |.nd o l r,κ=>.nd (match o with
  |some x=>match p (κ 0) x with
   |true=>some x
   |false=>none
  |none=>none) (l.cG p (fun j=>κ (2*j+1))) (r.cG p (fun j=>κ (2*j+2)))
theorem A1f{p:Nat→α→Bool}:∀{t:Tri α} {κ:Nat→Nat} {i:Nat} {x:α},(t.cG p κ).get i=some x→t.get i=some x∧p (κ i) x=true
 |.lf,κ,i,x,h=>by cases h
 |.nd o l r,κ,i,x,h=>by
  rcases A1F i with rfl|⟨j,rfl⟩|⟨j,rfl⟩
  ·simp only[Tri.cG,Tri.get] at h⊢
   cases o with
   |none=>cases h
   |some y=>
    simp only at h
    split at h
    ·rename_i hp;cases h;exact⟨rfl,hp⟩
    ·cases h
  ·simp only[Tri.cG,R2] at h⊢
   exact A1f h
  ·simp only[Tri.cG,Q3] at h⊢
   exact A1f h
def Tri.every(p:Nat→α→Bool):Tri α→(Nat→Nat)→Bool
 |.lf,_=>true
 |.nd o l r,κ=>match(match o with
  |some x=>p (κ 0) x
  |none=>true) with
  |true=>match l.every p (fun j=>κ (2*j+1)) with
   |true=>r.every p (fun j=>κ (2*j+2))
   |false=>false
  |false=>false
theorem A1g{p:Nat→α→Bool}:∀{t:Tri α} {κ:Nat→Nat},t.every p κ=true→∀{i:Nat} {x:α},t.get i=some x→p (κ i) x=true
 |.lf,κ,h,i,x,hx=>by cases hx
 |.nd o l r,κ,h,i,x,hx=>by
  simp only[Tri.every] at h
  split at h
  ·rename_i h1
   split at h
   ·rename_i h2
    rcases A1F i with rfl|⟨j,rfl⟩|⟨j,rfl⟩
    ·have:o=some x:=hx
     subst this
     exact h1
    ·rw[R2] at hx;exact A1g h2 hx
    ·rw[Q3] at hx;exact A1g h hx
   ·cases h
  ·cases h
theorem A6v:∀(t:Tri α) (κ:Nat→Nat),(∀i j,κ i=κ j→i=j)→((t.all κ).map (·.1)).Nodup
 |.lf,κ,_=>List.nodup_nil
 |.nd o l r,κ,hk=>by
  have hl:=A6v l (fun j=>κ (2*j+1)) (fun i j h=>by have:=hk _ _ h;omega)
  have hr:=A6v r (fun j=>κ (2*j+2)) (fun i j h=>by have:=hk _ _ h;omega)
  have ml:∀a∈(l.all (fun j=>κ (2*j+1))).map (·.1),∃i,a=κ (2*i+1):=fun a ha=>by
   obtain⟨⟨b,f⟩,hb,rfl⟩:=H8.1 ha
   obtain⟨i,h1,-⟩:=A3B _ _ _ _ hb
   exact⟨i,h1⟩
  have mr:∀a∈(r.all (fun j=>κ (2*j+2))).map (·.1),∃i,a=κ (2*i+2):=fun a ha=>by
   obtain⟨⟨b,f⟩,hb,rfl⟩:=H8.1 ha
   obtain⟨i,h1,-⟩:=A3B _ _ _ _ hb
   exact⟨i,h1⟩
  simp only[Tri.all,C7,List.nodup_append]
  refine⟨?_,⟨hl,hr,?_⟩,?_⟩
  ·cases o<;>simp
  ·intro a ha b hb e
   obtain⟨i,rfl⟩:=ml a ha
   obtain⟨j,rfl⟩:=mr b hb
   have:=hk _ _ e
   omega
  ·intro a ha b hb e
   have ed:a=κ 0:=by cases o<;>simp_all
   subst ed
   rcases J7.1 hb with hb|hb
   ·obtain⟨j,rfl⟩:=ml b hb
    have:=hk _ _ e
    omega
   ·obtain⟨j,rfl⟩:=mr b hb
    have:=hk _ _ e
    omega
end
theorem B0x{γ:As}:∀(K:List (Nat×XF)) (s:XSt) (L:List Asn),(K.map (·.1)).Nodup→(∀k f,(k,f)∈K→s.get k=some f)→Sub (asn γ s++L) (K.map (fact γ)++L)
 |[],s,L,_,_=>by
  have:∀(A B:List Asn),Sub (A++B) B:=fun A=>by
   induction A with
   |nil=>exact fun B=>Sub.rfl
   |cons a A ih=>exact fun B=>Sub.drop (ih B)
  exact this _ L
 |(k,f)::K,s,L,hn,hg=>by
  have h1:=hg k f (B7 ..)
  obtain⟨r,hr⟩:=A3q h1
  obtain⟨-,rfl⟩:=p8 hr
  refine Sub.cons (P3 hr) (B0x K _ L (J4.1 hn).2 fun j g hj=>?_)
  have bh:j≠k:=fun e=>by
   subst e
   exact(J4.1 hn).1 (D6 (f:=(·.1)) hj)
  rw[A1J s k j none h1,if_neg bh]
  exact hg j g (B8 _ hj)
theorem B5T{γ:As}{σ:Nat→Nat}{s s':XSt}{L:List Asn}(cW:∀i j,σ i=σ j→i=j)(h:∀k f,s'.get k=some f→s.get (σ k)=some (A4d σ f)):Sub (asn γ s++L) (asn (γ.ren σ) s'++L):=by
 have e:asn (γ.ren σ) s'=((s'.all id).map fun p=>(σ p.1,A4d σ p.2)).map (fact γ):=by
  unfold asn
  rw[F6]
  refine K0 fun⟨k,f⟩ _=>?_
  exact(B8H k f).symm
 rw[e]
 refine B0x _ s L ?_ fun k f hm=>?_
 ·rw[F6]
  have h1:=A6v s' id (fun i j h=>h)
  have:(s'.all id).map ((fun p:Nat×XF=>p.1)∘fun p=>(σ p.1,A4d σ p.2))=((s'.all id).map (·.1)).map σ:=by rw[F6];rfl
  rw[this]
  exact(List.pairwise_map.2 (h1.imp fun bh e=>bh (cW _ _ e)))
 ·obtain⟨⟨j,g⟩,hj,e⟩:=H8.1 hm
  cases e
  obtain⟨i,h1,h2⟩:=A3B _ _ _ _ hj
  cases h1
  exact h _ g h2
theorem B44{σ:Nat→Nat}(h:∀k,σ k=k)(γ:As):γ.ren σ=γ:=by
 cases γ;simp only[As.ren,h]
end
section
open Go.H
section
variable {ρ:Type} {L:List Asn} {Q:ρ→Heap→Prop} {k:Value→HM ρ} {P:Program} {β:As} {T2:TypeId→Nat} {C:List Nat}
def B7F(e:T3)(d:Dec)(c a b:Operand):Option XV:=
 match c with
 |.tmp t=>match d.get t with
  |some true=>xev e a
  |some false=>xev e b
  |none=>match e.get t with
   |some (.bool x)=>match xev e a with
    |some (.bool y)=>match xev e b with
     |some (.bool z)=>some (.bool (match x with|true=>y|false=>z))
     |_=>none
    |_=>none
   |_=>none
 |_=>none
theorem B7E{e:T3}{e0:Env}(hE:EAg β e e0){d:Dec}{c a b:Operand}{v:XV}(h:B7F e d c a b=some v)(hk:W L (k (val β v)) Q):W L (A5w e0 d c a b k) Q:=by
 unfold B7F at h
 split at h
 ·rename_i t
  simp only[A5w]
  split at h
  ·rename_i hd;simp only[hd,O7 hE h];exact hk
  ·rename_i hd;simp only[hd,O7 hE h];exact hk
  ·rename_i hd
   simp only[hd]
   split at h
   ·rename_i x hx
    split at h
    ·rename_i y hy
     split at h
     ·rename_i z hz
      cases h
      have e1:e0.ev (.tmp t)=some (.bool x):=hE t _ hx
      simp only[e1,O7 hE hy,O7 hE hz,val]
      cases x<;>exact hk
     ·cases h
    ·cases h
   ·cases h
 ·cases h
def A3P(z:List XV):Nat→List XV
 |0=>[]
 |n+1=>z++A3P z n
theorem A6E(β:As)(a b:List XV):vals β (a++b)=vals β a++vals β b:=by simp only[R1,C7]
theorem A8f(z:List XV):∀n,vals β (A3P z n)=B1W (vals β z) n
 |0=>rfl
 |n+1=>by simp only[A3P,B1W,A6E];rw[A8f z n]
def A0I(size:Nat):Nat→List XV→List (List XV)
 |0,_=>[]
 |m+1,cs=>cs.take size::A0I size m (cs.drop size)
theorem A8e{size:Nat}:∀(m:Nat) (cs:List XV),m*size≤cs.length→(A0I size m cs).length=m∧(∀l∈A0I size m cs,l.length=size∧∀x∈l,x∈cs)∧(A0I size m cs).flatten=cs.take (m*size)
 |0,cs,h=>⟨rfl,fun l hl=>(by cases hl),by simp[A0I]⟩
 |m+1,cs,h=>by
  rw[H3] at h
  obtain⟨h1,h2,h3⟩:=A8e (size:=size) m (cs.drop size) (by rw[M3];omega)
  simp only[A0I]
  refine⟨by simp[h1],fun l hl=>?_,?_⟩
  ·rcases B9.1 hl with rfl|hl
   ·exact⟨by rw[E2];omega,fun x hx=>E6 hx⟩
   ·exact⟨(h2 l hl).1,fun x hx=>J3 ((h2 l hl).2 x hx)⟩
  ·rw[M1,h3,H3,Nat.add_comm (m*size) size,List.take_add]
theorem B7d(rows:List (List XV)):(rows.map (vals β)).flatten=vals β rows.flatten:=by
 induction rows with
 |nil=>rfl
 |cons l r ih=>simp only[B6,M1,A6E,ih]
theorem B1Y{b size m c:Nat}{cs:List XV}{R:List Asn}{h:Heap}(hs:sat h (cells b (vals β cs).toArray::R))(h0:0<size)(hm:m≤c)(hc:c*size≤cs.length)(h1:A0t cs=true):
  ∃xs:List (VS size),xs.map (·.1)=(A0I size m cs).map (vals β)∧sat h (N4 (vsV (size:=size)) size ⟨some ⟨b,0,none⟩,m,c⟩ xs::R):=by
 have qu:m*size≤cs.length:=E3 (F9 _ hm) hc
 obtain⟨r1,r2,r3⟩:=A8e m cs qu
 obtain⟨xs,hx⟩:=B1V (β:=β) (size:=size) (es:=A0I size m cs) fun l hl=>by
  refine⟨(r2 l hl).1,fun v hv=>A8i (β:=β) h1 v ?_⟩
  rw[R1] at hv⊢
  obtain⟨x,hx,rfl⟩:=H8.1 hv
  exact D6 ((r2 l hl).2 x hx)
 refine⟨xs,hx,W8 (b:=b) (o:=0) (cs:=(vals β cs).toArray) ⟨by simp,hm,?_,?_,?_⟩ hs⟩
 ·have:=congrArg List.length hx;simp only[C9,r1] at this;exact this.symm
 ·simp only[F5,I2,V6];exact hc
 ·simp only[I1,K5]
  rw[A76 hx,B7d,r3,R1,R1,H0]
theorem B5v{n size m:Nat}{cs:List XV}(h:S9 n cs=true)(hm:m*size≤cs.length):e7 n (A0I size m cs)=true:=by
 rw[y7]
 intro l hl
 rw[A2V] at h⊢
 exact fun x hx=>h x (((A8e m cs hm).2.1 l hl).2 x hx)
def A2o(P:Program)(t:TypeId)(len:Nat)(ps:List (Nat×XV))(n:Nat)(s:XSt):Option (XV×XSt):=
 match P.underlying t with
 |some (.slice elem)=>match P.info? elem with
  |some i=>match i.zero with
   |some z=>match Nat.beq z.cells.toList.length i.size with
    |true=>match Nat.ble (len*i.size) 16777216 with
     |true=>match Nat.ble 1 i.size with
      |true=>match B19 (ofV 4) z.cells.toList with
       |some zs=>match A8j (T5 P elem) (A3P zs len) ps with
        |some cs=>match B6s (T5 P elem) ps with
         |true=>match Nat.beq cs.length (len*i.size) with
          |true=>match A0t cs with
           |true=>match S9 n cs with
            |true=>some (.slc n,add n (.own i.size (A0I i.size len cs)) s)
            |false=>none
           |false=>none
          |false=>none
         |false=>none
        |none=>none
       |none=>none
      |false=>none
     |false=>none
    |false=>none
   |none=>none
  |none=>none
 |_=>none
theorem B0X{n size m c b:Nat}{s:XSt}{cs:List XV}{h:Heap}(ae:O4 n s)(hs:sat h (cells b (vals β cs).toArray::(asn β s++L)))(h0:0<size)(hm:m≤c)(hc:c*size≤cs.length)(h1:A0t cs=true)(dg:S9 n cs=true):
  sat h (asn (β.aR n ⟨some ⟨b,0,none⟩,m,c⟩) (add n (.own size (A0I size m cs)) s)++L)∧O4 (n+1) (add n (.own size (A0I size m cs)) s):=by
 obtain⟨xs,hx,aa⟩:=B1Y hs h0 hm hc h1
 have hr:e7 n (A0I size m cs)=true:=B5v dg (E3 (F9 _ hm) hc)
 exact⟨A0p ae hx hr h0 aa,ae.new (g:=.own size _) (q9 (E7 _) hr)⟩
theorem A8w{t:TypeId}{len n:Nat}{ps:List (Nat×XV)}{s s':XSt}{v:XV}(h:A2o P t len ps n s=some (v,s'))(ae:O4 n s)
  (hk:∀γ,Agr n β γ→O4 (n+1) s'→W (asn γ s'++L) (k (val γ v)) Q):W (asn β s++L) (b8 P t len (A6X β ps) k) Q:=by
 unfold A2o at h
 unfold b8
 split at h
 ·rename_i elem ht
  rw[ht]
  split at h
  ·rename_i i hi
   split at h
   ·rename_i z hz
    split at h
    ·rename_i bl
     split at h
     ·rename_i cN
      split at h
      ·rename_i dU
       split at h
       ·rename_i zs fK
        split at h
        ·rename_i cs cJ
         split at h
         ·rename_i hq
          split at h
          ·rename_i hlen
           split at h
           ·rename_i h1
            split at h
            ·rename_i dg
             cases h
             have e1:=(A0P (β:=β) (fun v x=>A1D 4 v x) fK).1
             have e2:=A4A (β:=β) _ _ _ cJ
             rw[A8f,e1] at e2
             simp only[hi,hz,bl,cN,dU,e2]
             refine A7S ps hq ?_
             refine P2 fun b h' ah=>?_
             obtain⟨g1,g2⟩:=B0X (m:=len) (c:=len) ae ah (B1 dU) (B5 _) (Nat.le_of_eq (B0 hlen).symm) h1 dg
             have:=hk _ W5 g2 h' g1
             simp only[val,As.aR,if_true] at this
             exact this
            ·cases h
           ·cases h
          ·cases h
         ·cases h
        ·cases h
       ·cases h
      ·cases h
     ·cases h
    ·cases h
   ·cases h
  ·cases h
 ·cases h
def A34(P:Program)(t:TypeId)(x y:XV)(n:Nat)(s:XSt):Option (XV×XSt):=
 match P.underlying t with
 |some (.slice elem)=>match P.info? elem with
  |some i=>match i.zero with
   |some z=>match Nat.beq z.cells.toList.length i.size with
    |true=>match x,y with
     |.int _ (.ofNat a),.int _ (.ofNat b)=>match Nat.ble a b with
      |true=>match Nat.ble b 9223372036854775807 with
       |true=>match Nat.ble (i.bytes*b) 281474976710656 with
        |true=>match Nat.ble 1 i.size with
         |true=>match B19 (ofV 4) z.cells.toList with
          |some zs=>match A0t (A3P zs b) with
           |true=>match Nat.beq (A3P zs b).length (b*i.size) with
            |true=>match S9 n (A3P zs b) with
             |true=>some (.slc n,add n (.own i.size (A0I i.size a (A3P zs b))) s)
             |false=>none
            |false=>none
           |false=>none
          |none=>none
         |false=>none
        |false=>none
       |false=>none
      |false=>none
     |_,_=>none
    |false=>none
   |none=>none
  |none=>none
 |_=>none
theorem A9X{t:TypeId}{n:Nat}{x y:XV}{s s':XSt}{v:XV}(h:A34 P t x y n s=some (v,s'))(ae:O4 n s)
  (hk:∀γ,Agr n β γ→O4 (n+1) s'→W (asn γ s'++L) (k (val γ v)) Q):W (asn β s++L) (m4 P t (val β x) (val β y) k) Q:=by
 unfold A34 at h
 unfold m4
 split at h
 ·rename_i elem ht
  rw[ht]
  split at h
  ·rename_i i hi
   split at h
   ·rename_i z hz
    split at h
    ·rename_i bl
     split at h
     ·rename_i ka a kb b
      split at h
      ·rename_i gR
       split at h
       ·rename_i cN
        split at h
        ·rename_i iT
         split at h
         ·rename_i dU
          split at h
          ·rename_i zs fK
           split at h
           ·rename_i h1
            split at h
            ·rename_i hlen
             split at h
             ·rename_i dg
              cases h
              have e1:=(A0P (β:=β) (fun v x=>A1D 4 v x) fK).1
              simp only[hi,hz,bl,val]
              intro hp hs
              have kj:=B1 gR
              have q':=B1 cN
              have nM:=B1 iT
              refine⟨G1 _,Int.ofNat_le.2 kj,?_,?_,?_⟩
              ·show((b:Nat):Int)≤9223372036854775807;omega
              ·have:((i.bytes:Int)*((b:Nat):Int))=((i.bytes*b:Nat):Int):=(Int.natCast_mul _ _).symm
               show(i.bytes:Int)*((b:Nat):Int)≤2 ^ 48
               rw[this]
               have:(2:Int) ^ 48=((281474976710656:Nat):Int):=rfl
               rw[this]
               exact Int.ofNat_le.2 nM
              ·have ez:Builtin.zeroCells z.cells b=(vals β (A3P zs b)).toArray:=by
                apply D3.1
                rw[A8f,e1,B5V]
                simp[Builtin.zeroCells,getElem!_def,Array.getElem!_eq_getD]
               have ah:sat (hp.push (.cells (Builtin.zeroCells z.cells b) elem)) (cells hp.size (vals β (A3P zs b)).toArray::(asn β s++L)):=by
                rw[ez];exact hs.aX
               obtain⟨g1,g2⟩:=B0X (m:=a) (c:=b) ae ah (B1 dU) kj (Nat.le_of_eq (B0 hlen).symm) h1 dg
               have:=hk _ W5 g2 _ g1
               simp only[val,As.aR,if_true] at this
               exact this
             ·cases h
            ·cases h
           ·cases h
          ·cases h
         ·cases h
        ·cases h
       ·cases h
      ·cases h
     ·cases h
    ·cases h
   ·cases h
  ·cases h
 ·cases h
theorem B40{α:Type}{enc:α→C3E}{size:Nat}{s:Slc}{xs:List α}{R:List Asn}{h:Heap}{lo hi m:Nat}{mx:Int}{Q:Slc→Heap→Prop}{ol oh:Option Int}(hs:sat h (N4 enc size s xs::R))(aj:∀x,(enc x).length=size)
  (h1:lo≤hi)(h2:hi≤xs.length)(h3:hi≤m)(h4:m≤xs.length)(em:mx=(m:Int))(e1:b6 ol (lo=0) lo hi)(e2:b6 oh False hi m)
  (hq:∀s',sat h (N4 enc size s' ((xs.take hi).drop lo)::R)→Q s' h):HM.slice s ol oh (some mx) size h Q:=by
 have hl:=hs.own_len
 have hc:=hs.own_le
 refine⟨lo,hi,m,⟨em,by omega⟩,?_,e1,hq _ ?_⟩
 ·cases oh with
  |none=>exact e2.elim
  |some x=>exact e2
 rcases V1 hs with⟨g1,g2,rfl,aa⟩|⟨b,o,cs,ho,aa⟩
 ·have:hi=0:=by simpa using h2
  subst this
  have:lo=0:=by omega
  subst this
  have:m=0:=by simpa using h4
  subst this
  simp only[P5,if_true,List.take_nil,List.drop_nil,L8]
  exact j4 aa
 ·by_cases hm:m=lo
  ·have e0:hi=lo:=by omega
   simp only[P5,hm,if_true,L8]
   rw[H5 (by simp;omega),show hi-lo=0 from by omega]
   exact j4 hs.drop
  ·refine W8 (b:=b) (o:=o+lo) (cs:=cs) ⟨?_,?_,?_,?_,?_⟩ aa
   ·simp only[P5,if_neg hm,ho.a,F3,Addr.aO,G0]
   ·simp only[P5];omega
   ·simp only[P5,M3,E2];omega
   ·simp only[P5]
    refine E3 (F9 _ ?_) ho.bQ
    omega
   ·simp only[P5]
    have hf:=ho.front
    have e3:((xs.take hi).drop lo).flatMap enc=((xs.flatMap enc).take (hi*size)).drop (lo*size):=by
     have key:∀(l:List α) (n:Nat),(l.flatMap enc).take (n*size)=(l.take n).flatMap enc∧(l.flatMap enc).drop (n*size)=(l.drop n).flatMap enc:=by
      intro l
      induction l with
      |nil=>intro n;simp
      |cons x l ih=>
       intro n
       cases n with
       |zero=>simp
       |succ n=>
        have hx:=aj x
        rw[D4,H3,List.take_succ_cons,List.drop_succ_cons,D4]
        refine⟨?_,?_⟩
        ·rw[List.take_append,hx,D7 (by omega),show n*size+size-size=n*size from by omega,(ih n).1]
        ·rw[List.drop_append,hx,H5 (by omega),show n*size+size-size=n*size from by omega,(ih n).2,G2]
     rw[(key xs hi).1,(key (xs.take hi) lo).2]
    rw[e3,←hf]
    rw[List.take_take,Nat.min_eq_left (F9 _ (by omega:hi≤s.len)),List.drop_take,List.drop_drop,G0,←Nat.sub_mul]
def B1A(P:Program)(t:TypeId)(n:Nat)(s:XSt)(x:XV)(lo hi mx:Option Int):Option (XV×XSt):=
 match P.underlying t with
 |some (.slice elem)=>match P.info? elem with
  |some inf=>match mx with
   |some (.ofNat m)=>match B2K inf.size s x with
    |some (es,r)=>match hi with
     |some (.ofNat hh)=>match A90 lo 0 with
      |some l=>match Nat.ble l hh with
       |true=>match Nat.ble hh m with
        |true=>match Nat.ble m es.length with
         |true=>match Nat.ble 1 inf.size with
          |true=>some (.slc n,add n (.own inf.size ((es.take hh).drop l)) r)
          |false=>none
         |false=>none
        |false=>none
       |false=>none
      |none=>none
     |_=>none
    |none=>none
   |_=>none
  |none=>none
 |_=>none
theorem B4w{t:TypeId}{n:Nat}{s s':XSt}{x v:XV}{lo hi mx:Option Int}(h:B1A P t n s x lo hi mx=some (v,s'))(ae:O4 n s)
  (hk:∀γ,Agr n β γ→O4 (n+1) s'→W (asn γ s'++L) (k (val γ v)) Q):W (asn β s++L) (U9 P t (val β x) lo hi mx k) Q:=by
 unfold B1A at h
 split at h
 ·rename_i elem ht
  split at h
  ·rename_i inf da
   split at h
   ·rename_i m
    split at h
    ·rename_i es r cO
     split at h
     ·rename_i hh
      split at h
      ·rename_i l h2
       split at h
       ·rename_i h3
        split at h
        ·rename_i h4
         split at h
         ·rename_i h6
          split at h
          ·rename_i h5
           cases h
           intro hp hs
           have dm:=B1 h3
           have fJ:=B1 h4
           have iU:=B1 h5
           have sO:=B1 h6
           obtain⟨c1,c2,sl,xs,e1,e2,aa⟩:=A8l (L:=L) cO ae iU hs
           have fh:xs.length=es.length:=by have:=congrArg List.length e2;simpa using this
           rw[e1]
           simp only[U9,ht,da]
           refine B40 (m:=m) aa (fun x=>x.2.1) dm (by omega) fJ (by omega) rfl (A0h h2 dm id) ⟨rfl,fJ⟩ fun s9 bF=>?_
           have fH:e7 n ((es.take hh).drop l)=true:=by
            rw[y7] at c2⊢
            exact fun y hy=>c2 y (E6 (J3 hy))
           have bo:=A0p (L:=L) c1 (xs:=(xs.take hh).drop l) (es:=(es.take hh).drop l) (by rw[H2,H0,e2,H2,H0]) fH iU bF
           have:=hk (β.aR n s9) W5 (c1.new (g:=.own inf.size ((es.take hh).drop l)) (q9 (E7 _) fH)) hp bo
           simp only[val,As.aR,if_true] at this
           exact this
          ·cases h
         ·cases h
        ·cases h
       ·cases h
      ·cases h
     ·cases h
    ·cases h
   ·cases h
  ·cases h
 ·cases h
def B1B(P:Program)(t:TypeId)(x:XV)(n:Nat)(s:XSt):Option (XV×XSt):=
 match P.underlying t with
 |some .string=>match x with
  |.str b=>some (.ptr n 0,add n (.txt b 0) s)
  |_=>none
 |_=>none
theorem B4y{t:TypeId}{n:Nat}{x v:XV}{s s':XSt}(h:B1B P t x n s=some (v,s'))(ae:O4 n s)
  (hk:∀γ,Agr n β γ→O4 (n+1) s'→W (asn γ s'++L) (k (val γ v)) Q):W (asn β s++L) (m3 P t (val β x) k) Q:=by
 unfold B1B at h
 split at h
 ·rename_i ht
  split at h
  ·rename_i b
   cases h
   intro hp hs
   simp only[val,m3,ht]
   refine B14 hs fun r h' ah=>?_
   have ha:Agr n β (β.aT n r):=A27
   have hb:(β.aT n r).b n=r:=by simp[As.aT]
   have:=hk _ ha (ae.new rfl) h' ((A1v (β:=β.aT n r) (L:=L) ae (.txt b 0)).s (by
    rw[←A0X ha ae]
    simp only[fact,hb]
    exact ah))
   simp only[val,hb] at this
   exact this
  ·cases h
 ·cases h
def B4B(s:XSt)(x:XV):Option (XV×XSt):=
 match x with
 |.ptr j o=>match Nat.beq o 0 with
  |true=>match pick j s with
   |some (.txt b pos,r)=>match Nat.blt pos b.size with
    |true=>some (.aQ [.bool true,.int .i64 (pos:Int),.int .i32 ((Utf8.decode b pos).1:Int)],back j (.txt b (pos+(Utf8.decode b pos).2)) r)
    |false=>some (.aQ [.bool false],s)
   |_=>none
  |false=>none
 |_=>none
theorem B6x{n:Nat}{s s':XSt}{x v:XV}(h:B4B s x=some (v,s'))(ae:O4 n s)(hk:O4 n s'→W (asn β s'++L) (k (val β v)) Q):W (asn β s++L) (A0V true (val β x) k) Q:=by
 unfold B4B at h
 split at h
 ·rename_i j o
  split at h
  ·rename_i ho
   have ho:=B0 ho
   subst ho
   split at h
   ·rename_i b pos r hp
    intro di hs
    have aa:sat di (blk (β.b j) (.stringIter b pos)::(asn β r++L)):=(P3 (L:=L) hp).s hs
    have hb:∀x y:Nat,Nat.blt x y=true↔x<y:=fun x y=>by simp
    simp only[val,A0V,A2Y,show Nat.beq 0 0=true from rfl] at hk⊢
    refine⟨b,pos,aa.get,fun af=>?_,fun af=>?_⟩
    ·rw[(hb _ _).2 af] at h
     cases h
     refine hk (ae.put hp rfl) _ ((S3 (β:=β) (L:=L) hp _).s ?_)
     exact aa.bU (by simp[aa.lt]) (fun k hk=>by rw[D2,if_neg (fun e=>hk e.symm)])
    ·have:Nat.blt pos b.size=false:=by
      cases hh:Nat.blt pos b.size with
      |false=>rfl
      |true=>exact absurd ((hb _ _).1 hh) af
     rw[this] at h
     cases h
     exact hk ae di hs
   ·cases h
  ·cases h
 ·cases h
def B4I(P:Program)(ts:List TypeId)(s:XSt)(vs:List XV):Option XSt:=
 match ts,vs with
 |[t],[x]=>match P.underlying t with
  |some (.map _ _)=>match x with
   |.nmap=>some s
   |.map j=>match pick j s with
    |some (.mapI _,r)=>some (back j (.mapI []) r)
    |some (.mapS _,r)=>some (back j (.mapS []) r)
    |some (.mapT _,r)=>some (back j (.mapT []) r)
    |_=>none
   |_=>none
  |_=>none
 |_,_=>none
theorem A6r{K V:Type}{ek:K→Value}{ev:V→Value}{r:Nat}{l:List (K×V)}{R:List Asn}{h:Heap}{Q:Unit→Heap→Prop}(hs:sat h (mapA ek ev r l::R))(hq:∀h',sat h' (mapA ek ev r []::R)→Q () h'):B9k (some r) h Q:=by
 obtain⟨es,c,⟨he,aM⟩,hs⟩:=T7.1 hs
 refine⟨es,c,hs.get,hq _ (T7.2 ⟨#[],c,⟨rfl,Go.MapKept.stamped_empty c⟩,?_⟩)⟩
 exact hs.bU (by simp[hs.lt]) (fun k hk=>by rw[D2,if_neg (fun e=>hk e.symm)])
theorem B6D{ts:List TypeId}{n:Nat}{s s':XSt}{vs:List XV}(h:B4I P ts s vs=some s')(ae:O4 n s)(hk:O4 n s'→W (asn β s'++L) (k (.tuple #[])) Q):W (asn β s++L) (A1m P ts (vals β vs) k) Q:=by
 intro di hs
 unfold B4I at h
 split at h
 ·rename_i t x
  simp only[vals]
  split at h
  ·rename_i a b ht
   split at h
   ·cases h
    simp only[val,A1m,ht]
    exact hk ae di hs
   ·rename_i j
    simp only[val,A1m,ht]
    split at h
    ·rename_i es r hp
     cases h
     exact A6r (l:=es) ((P3 (β:=β) (L:=L) hp).s hs) fun h' ah=>hk (ae.put hp rfl) h' ((S3 (β:=β) (L:=L) hp _).s ah)
    ·rename_i es r hp
     cases h
     exact A6r (l:=es) ((P3 (β:=β) (L:=L) hp).s hs) fun h' ah=>hk (ae.put hp rfl) h' ((S3 (β:=β) (L:=L) hp _).s ah)
    ·rename_i es r hp
     cases h
     exact A6r (l:=es) ((P3 (β:=β) (L:=L) hp).s hs) fun h' ah=>hk (ae.put hp rfl) h' ((S3 (β:=β) (L:=L) hp _).s ah)
    ·cases h
   ·cases h
  ·cases h
 ·cases h
def unw(x:XV)(s:XSt):XSt:=
 match x with
 |.map j=>match pick j s with
  |some (.walkI _ es _ _,r)=>back j (.mapI es) r
  |some (.walkS _ es _ _,r)=>back j (.mapS es) r
  |_=>s
 |_=>s
theorem Z7{x:XV}{s:XSt}{n:Nat}{h:Heap}:(O4 n s→O4 n (unw x s))∧(sat h (asn β s++L)→sat h (asn β (unw x s)++L)):=by
 unfold unw
 split
 ·split
  ·rename_i j it es d t r hp
   exact⟨fun hc=>hc.put hp (u6 (hc _ _ (S5 hp).1).2).2.1,fun hs=>(S3 (β:=β) (L:=L) hp _).s (A3t ((P3 (β:=β) (L:=L) hp).s hs))⟩
  ·rename_i j it es d t r hp
   exact⟨fun hc=>hc.put hp (u6 (hc _ _ (S5 hp).1).2).2.1,fun hs=>(S3 (β:=β) (L:=L) hp _).s (A3t ((P3 (β:=β) (L:=L) hp).s hs))⟩
  ·exact⟨id,id⟩
 ·exact⟨id,id⟩
def B1C(P:Program)(t:TypeId)(x:XV)(n:Nat)(s:XSt):Option (XV×XSt):=
 match P.underlying t with
 |some (.map _ _)=>match x with
  |.nmap=>some (.ptr n 0,add n .itNil s)
  |.map j=>match pick j s with
   |some (.mapI es,r)=>some (.ptr n 0,add n (.itOf j) (back j (.walkI n es [] es) r))
   |some (.mapS es,r)=>some (.ptr n 0,add n (.itOf j) (back j (.walkS n es [] es) r))
   |_=>none
  |_=>none
 |_=>none
theorem A6V{K:Type}{ek:K→Value}{n j:Nat}{s r:XSt}{es:List (K×XV)}{f g:XF}{F:Nat→HM ρ}(hp:pick j s=some (f,r))(ae:O4 n s)(hf:∀γ,fact γ (j,f)=mapA ek (val γ) (γ.b j) es)(hg:∀γ,fact γ (j,g)=itA ek (val γ) (γ.b j) es (γ.b n) [] es)(qU:A1S (n+1) g=true)(cv:T8 n es=true)
  (hk:∀γ,Agr n β γ→O4 (n+1) (add n (.itOf j) (back j g r))→W (asn γ (add n (.itOf j) (back j g r))++L) (F (γ.b n)) Q):W (asn β s++L) (HM.bind (B4n (some (β.b j))) F) Q:=by
 intro h hs
 have aa:=(P3 (β:=β) (L:=L) hp).s hs
 rw[hf] at aa
 refine B6T aa fun it h' ah=>?_
 have ha:Agr n β (β.aT n it):=A27
 have hb:(β.aT n it).b n=it:=by simp[As.aT]
 have hj:j<n:=(ae _ _ (S5 hp).1).1
 have bP:O4 n r:=ae.rest hp
 have e:asn β r=asn (β.aT n it) r:=A0X ha bP
 have qV:O4 (n+1) (add n (.itOf j) (back j g r)):=by
  obtain⟨h1,rfl⟩:=p8 hp
  intro k f' cf
  unfold add at cf
  rw[A0S (n+1) _ n k _ (G4 _)] at cf
  split at cf
  ·rename_i e1;subst e1;cases cf;exact⟨G4 _,by simp only[A1S,J5];omega⟩
  ·unfold back at cf
   rw[A3f,A1J s j k (some g) h1] at cf
   split at cf
   ·cases cf;rename_i e2;subst e2;exact⟨by omega,qU⟩
   ·exact⟨Nat.lt_succ_of_lt (ae k f' cf).1,B1l (E7 _) (ae k f' cf).2⟩
 have h0:(back j g r).get n=none:=by
  obtain⟨h1,rfl⟩:=p8 hp
  unfold back
  rw[A3f,A1J s j n (some g) h1,if_neg (by omega)]
  cases hg:s.get n with
  |none=>rfl
  |some f=>exact absurd (ae n f hg).1 (Nat.lt_irrefl _)
 have:=hk _ ha qV h' (by
  have e1:sat h' (fact (β.aT n it) (j,g)::(asn (β.aT n it) r++L)):=by
   rw[hg,hb,←e,show(β.aT n it).b j=β.b j from(ha.b j hj).symm]
   have e3:itA ek (val (β.aT n it)) (β.b j) es it [] es=itA ek (val β) (β.b j) es it [] es:=by
    exact(B2e (W4 ha cv) rfl (W4 ha cv)).symm
   rw[e3]
   exact ah
  have e2:=(S3 (β:=β.aT n it) (L:=L) hp g).s e1
  have e4:sat h' (fact (β.aT n it) (n,.itOf j)::(asn (β.aT n it) (back j g r)++L)):=sat.aN.2 ⟨trivial,e2⟩
  exact(Sub.perm (((A3x (n+1) (back j g r) id n (.itOf j) (G4 _) h0).map (fact (β.aT n it))).symm.append_right L)).s e4)
 rwa[hb] at this
theorem B4z{t:TypeId}{n:Nat}{x v:XV}{s s':XSt}(h:B1C P t x n s=some (v,s'))(ae:O4 n s)
  (hk:∀γ,Agr n β γ→O4 (n+1) s'→W (asn γ s'++L) (k (val γ v)) Q):W (asn β s++L) (m3 P t (val β x) k) Q:=by
 unfold B1C at h
 split at h
 ·rename_i kt et ht
  split at h
  ·cases h
   intro hp hs
   simp only[val,m3,ht]
   show(HM.bind (B4n none) fun b=>k (.pointer (some ⟨b,0,none⟩))) hp Q
   have ah:sat (hp.push (.mapIter none 0 #[] 0)) (blk hp.size (.mapIter none 0 #[] 0)::(asn β s++L)):=hs.push
   have ha:Agr n β (β.aT n hp.size):=A27
   have hb:(β.aT n hp.size).b n=hp.size:=by simp[As.aT]
   have:=hk _ ha (ae.new rfl) _ ((A1v (β:=β.aT n hp.size) (L:=L) ae .itNil).s (by
    rw[←A0X ha ae]
    simp only[fact,hb]
    exact ah))
   simp only[val,hb] at this
   exact this
  ·rename_i j
   split at h
   ·rename_i es r hp
    cases h
    simp only[val,m3,ht]
    have cv:T8 n es=true:=(ae _ _ (S5 hp).1).2
    have hw:A1S (n+1) (.walkI n es [] es)=true:=A0o (d:=[]) (G4 n) (T0 (E7 n) cv) rfl (T0 (E7 n) cv)
    exact A6V (F:=fun b=>k (.pointer (some ⟨b,0,none⟩))) hp ae (fun _=>rfl) (fun _=>rfl) hw cv fun γ hγ hc=>hk γ hγ hc
   ·rename_i es r hp
    cases h
    simp only[val,m3,ht]
    have cv:T8 n es=true:=(ae _ _ (S5 hp).1).2
    have hw:A1S (n+1) (.walkS n es [] es)=true:=A0o (d:=[]) (G4 n) (T0 (E7 n) cv) rfl (T0 (E7 n) cv)
    exact A6V (F:=fun b=>k (.pointer (some ⟨b,0,none⟩))) hp ae (fun _=>rfl) (fun _=>rfl) hw cv fun γ hγ hc=>hk γ hγ hc
   ·cases h
  ·cases h
 ·cases h
def A42{α:Type}:List α→List α→List (α×List α)
 |_,[]=>[]
 |a,x::r=>(x,a++r)::A42 (a++[x]) r
theorem A84{α:Type}:∀{b a:List α} {t1 t2:List α} {p:α},b=t1++p::t2→(p,a++t1++t2)∈A42 a b
 |[],a,t1,t2,p,h=>by simp at h
 |x::r,a,[],t2,p,h=>by
  simp only[G2,J6] at h
  obtain⟨rfl,rfl⟩:=h
  simp[A42]
 |x::r,a,y::t1,t2,p,h=>by
  simp only[G3,J6] at h
  obtain⟨rfl,rfl⟩:=h
  simp only[A42]
  refine B8 _ ?_
  have:=A84 (b:=t1++p::t2) (a:=a++[x]) (t1:=t1) (t2:=t2) (p:=p) rfl
  simpa using this
theorem A85{K:Type}{n:Nat}:∀{b a:List (K×XV)} {p:K×XV} {r:List (K×XV)},(p,r)∈A42 a b→T8 n a=true→T8 n b=true→clo n p.2=true∧T8 n r=true:=by
 have app:∀(a b:List (K×XV)),T8 n (a++b)=true↔T8 n a=true∧T8 n b=true:=fun a=>by
  induction a with
  |nil=>intro b;simp[T8]
  |cons x a ih=>
   obtain⟨k,v⟩:=x
   intro b
   simp only[G3,T8]
   cases hv:clo n v with
   |true=>exact ih b
   |false=>simp
 intro b
 induction b with
 |nil=>intro a p r h;simp[A42] at h
 |cons x b ih=>
  intro a p r h ha hb
  have hx:clo n x.2=true∧T8 n b=true:=by
   obtain⟨k,v⟩:=x
   simp only[T8] at hb
   split at hb
   ·rename_i hv;exact⟨hv,hb⟩
   ·cases hb
  simp only[A42] at h
  rcases B9.1 h with e|h
  ·cases e
   exact⟨hx.1,(app _ _).2 ⟨ha,hx.2⟩⟩
  ·refine ih h ((app _ _).2 ⟨ha,?_⟩) hx.2
   obtain⟨k,v⟩:=x
   simp only[T8]
   rw[hx.1]
theorem B1m{K:Type}{n:Nat}{a:List (K×XV)}{p:K×XV}(ha:T8 n a=true)(hp:clo n p.2=true):T8 n (a++[p])=true:=by
 induction a with
 |nil=>obtain⟨k,v⟩:=p;simp only[G2,T8];rw[hp]
 |cons x a ih=>
  obtain⟨k,v⟩:=x
  simp only[T8] at ha
  split at ha
  ·rename_i hv;simp only[G3,T8];rw[hv];exact ih ha
  ·cases ha
def B4C(s:XSt)(x:XV):Option (List (XV×XSt)):=
 match x with
 |.ptr it o=>match Nat.beq o 0 with
  |true=>match look it s with
   |some .itNil=>some [(.aQ [.bool false],s)]
   |some (.itOf j)=>match pick j s with
    |some (.walkI it' es d t,r)=>match Nat.beq it' it with
     |true=>match t with
      |[]=>some [(.aQ [.bool false],s)]
      |p::t'=>some ((A42 [] (p::t')).map fun q=>(.aQ [.bool true,.int .i64 q.1.1,q.1.2],back j (.walkI it es (d++[q.1]) q.2) r))
     |false=>none
    |some (.walkS it' es d t,r)=>match Nat.beq it' it with
     |true=>match t with
      |[]=>some [(.aQ [.bool false],s)]
      |p::t'=>some ((A42 [] (p::t')).map fun q=>(.aQ [.bool true,.str q.1.1,q.1.2],back j (.walkS it es (d++[q.1]) q.2) r))
     |false=>none
    |_=>none
   |_=>none
  |false=>none
 |_=>none
theorem B6y{n:Nat}{s:XSt}{x:XV}{outs:List (XV×XSt)}(h:B4C s x=some outs)(ae:O4 n s)(hk:∀o∈outs,O4 n o.2→W (asn β o.2++L) (k (val β o.1)) Q):W (asn β s++L) (A0V false (val β x) k) Q:=by
 intro di hs
 unfold B4C at h
 split at h
 ·rename_i it o
  split at h
  ·rename_i ho
   have ho:=B0 ho
   subst ho
   simp only[val,A0V,A2Y,show Nat.beq 0 0=true from rfl]
   have opt:∀o:Option (Value×Value),(match o with|none=>k (.tuple #[.bool false])|some p=>k (.tuple #[.bool true,p.1,p.2]))=A3c o (k (.tuple #[.bool false])) fun p=>k (.tuple #[.bool true,p.1,p.2]):=fun o=>by
    cases o<;>rfl
   split at h
   ·rename_i hl
    cases h
    obtain⟨R,aa⟩:=P0 (L:=L) hl hs
    have:=hk _ (B4.2 rfl) ae di hs
    exact⟨none,0,#[],0,sat.get aa,this⟩
   ·rename_i j hl
    split at h
    ·rename_i it' es d t r hp
     split at h
     ·rename_i hb
      have hb:=B0 hb
      subst hb
      obtain⟨c1,c2,c3,c4⟩:=u6 (ae _ _ (S5 hp).1).2
      have aa:sat di (itA (fun n:Int=>Value.int .i64 n) (val β) (β.b j) es (β.b it') d t::(asn β r++L)):=(P3 (L:=L) hp).s hs
      cases t with
      |nil=>
       cases h
       refine A46 aa (fun _=>hk _ (B4.2 rfl) ae di hs) fun p t1 t2 e=>?_
       simp at e
      |cons p t'=>
       cases h
       refine A46 aa (fun e=>by cases e) fun q t1 t2 e h' ah=>?_
       have hm:=A84 (a:=[]) e
       obtain⟨g1,g2⟩:=A85 hm rfl c4
       exact hk _ (D6 hm) (ae.put hp (A0o c1 c2 (B1m c3 g1) g2)) h' ((S3 (β:=β) (L:=L) hp _).s ah)
     ·cases h
    ·rename_i it' es d t r hp
     split at h
     ·rename_i hb
      have hb:=B0 hb
      subst hb
      obtain⟨c1,c2,c3,c4⟩:=u6 (ae _ _ (S5 hp).1).2
      have aa:sat di (itA (fun s:B1q=>Value.string s) (val β) (β.b j) es (β.b it') d t::(asn β r++L)):=(P3 (L:=L) hp).s hs
      cases t with
      |nil=>
       cases h
       refine A46 aa (fun _=>hk _ (B4.2 rfl) ae di hs) fun p t1 t2 e=>?_
       simp at e
      |cons p t'=>
       cases h
       refine A46 aa (fun e=>by cases e) fun q t1 t2 e h' ah=>?_
       have hm:=A84 (a:=[]) e
       obtain⟨g1,g2⟩:=A85 hm rfl c4
       exact hk _ (D6 hm) (ae.put hp (A0o c1 c2 (B1m c3 g1) g2)) h' ((S3 (β:=β) (L:=L) hp _).s ah)
     ·cases h
    ·cases h
   ·cases h
  ·cases h
 ·cases h
def B07{α:Type}:List α→Option (List α×α)
 |[]=>none
 |x::r=>match B07 r with
  |some (a,y)=>some (x::a,y)
  |none=>some ([],x)
theorem A9g{α:Type}:∀{l a:List α} {y:α},B07 l=some (a,y)→l=a++[y]
 |[],a,y,h=>by cases h
 |x::r,a,y,h=>by
  simp only[B07] at h
  split at h
  ·rename_i b z hb
   cases h
   rw[A9g hb];rfl
  ·rename_i hb
   cases h
   cases r with
   |nil=>rfl
   |cons z r=>
    simp only[B07] at hb
    split at hb<;>cases hb
def B4G(ka kb:Kind)(s:XSt)(x:XV):Option XV:=
 match x with
 |.ptr it o=>match Nat.beq o 0 with
  |true=>match look it s with
   |some (.itOf j)=>match look j s with
    |some (.walkI it' _ d _)=>match Nat.beq it' it with
     |true=>match B07 d with
      |some (_,p)=>match A4z ka (.int .i64 p.1) with
       |true=>match A4z kb p.2 with
        |true=>some (.aQ [.int .i64 p.1,p.2])
        |false=>none
       |false=>none
      |none=>none
     |false=>none
    |some (.walkS it' _ d _)=>match Nat.beq it' it with
     |true=>match B07 d with
      |some (_,p)=>match A4z ka (.str p.1) with
       |true=>match A4z kb p.2 with
        |true=>some (.aQ [.str p.1,p.2])
        |false=>none
       |false=>none
      |none=>none
     |false=>none
    |_=>none
   |_=>none
  |false=>none
 |_=>none
theorem B6B{ka kb:Kind}{s:XSt}{x v:XV}(h:B4G ka kb s x=some v)(hk:W (asn β s++L) (k (val β v)) Q):W (asn β s++L) (A1k ka kb (val β x) k) Q:=by
 intro di hs
 unfold B4G at h
 split at h
 ·rename_i it o
  split at h
  ·rename_i ho
   have ho:=B0 ho
   subst ho
   simp only[val,A1k,A2Y,show Nat.beq 0 0=true from rfl]
   split at h
   ·rename_i j hl
    split at h
    ·rename_i it' es d t cD
     split at h
     ·rename_i hb
      have hb:=B0 hb
      subst hb
      split at h
      ·rename_i d' p hd
       split at h
       ·rename_i h1
        split at h
        ·rename_i h2
         cases h
         obtain⟨y1,e1⟩:=u0 (β:=β) h1
         obtain⟨y2,e2⟩:=u0 (β:=β) h2
         obtain⟨R,aa⟩:=P0 (L:=L) cD hs
         have ai:sat di (itA (fun n:Int=>Value.int .i64 n) (val β) (β.b j) es (β.b it') d t::R):=aa
         rw[A9g hd] at ai
         have:=hk di hs
         simp only[val,vals] at this
         refine A6m (p:=p) (x:=y1) (y:=y2) e1 e2 ai ?_
         show k (.tuple #[ka.val y1,kb.val y2]) di Q
         rw[←e1,←e2]
         exact this
        ·cases h
       ·cases h
      ·cases h
     ·cases h
    ·rename_i it' es d t cD
     split at h
     ·rename_i hb
      have hb:=B0 hb
      subst hb
      split at h
      ·rename_i d' p hd
       split at h
       ·rename_i h1
        split at h
        ·rename_i h2
         cases h
         obtain⟨y1,e1⟩:=u0 (β:=β) h1
         obtain⟨y2,e2⟩:=u0 (β:=β) h2
         obtain⟨R,aa⟩:=P0 (L:=L) cD hs
         have ai:sat di (itA (fun s:B1q=>Value.string s) (val β) (β.b j) es (β.b it') d t::R):=aa
         rw[A9g hd] at ai
         have:=hk di hs
         simp only[val,vals] at this
         refine A6m (p:=p) (x:=y1) (y:=y2) e1 e2 ai ?_
         show k (.tuple #[ka.val y1,kb.val y2]) di Q
         rw[←e1,←e2]
         exact this
        ·cases h
       ·cases h
      ·cases h
     ·cases h
    ·cases h
   ·cases h
  ·cases h
 ·cases h
theorem B6E{call:Nat→List XV→Nat→XSt→Option XR}(hC:y9 P call)(ck:∀f,f∈C→Q0 P f){t:TypeId}{f n n':Nat}{s s':XSt}{first cap vs:List XV}{v:XV}(hf:X2 f C=true)(h:call f (first++(vs++cap)) n s=some (v,n',s'))(bA:B0l P t v=true)(ae:O4 n s)
  (hk:∀γ,Agr n β γ→n≤n'→O4 n' s'→W (asn γ s'++L) (k (val γ v)) Q):W (asn β s++L) (A2R P t (val β (.func f first cap)) (vals β vs) k) Q:=by
 intro hp hs
 have dK:=fun Q'=>hC f _ n s v n' s' h ae β L Q'
 have ea:(vals β (first++(vs++cap))).toArray=(vals β first).toArray++(vals β vs).toArray++(vals β cap).toArray:=by
  simp only[R1,C7,List.append_toArray,F1]
 have bz:=ck f (q5 hf)
 simp only[A2R]
 unfold B0l at bA
 split at bA
 ·rename_i kd hr
  rw[hr]
  have:=dK (fun v' h'=>∃x,v'=kd.val x∧k (kd.val x) h' Q) (fun γ hγ hle hc h' ah=>by
   obtain⟨y,hy⟩:=u0 (β:=γ) bA
   refine⟨y,hy,?_⟩
   have:=hk γ hγ hle hc h' ah
   rwa[hy] at this) hp hs
  rw[ea] at this
  exact⟨f,_,_,rfl,bz,this⟩
 ·rename_i ks hr
  rw[hr]
  split at bA
  ·rename_i us
   have:=dK (fun v' h'=>∃x,v'=.tuple (R0.vals ks x).toArray∧k (.tuple (R0.vals ks x).toArray) h' Q) (fun γ hγ hle hc h' ah=>by
    obtain⟨y,hy⟩:=A5K (β:=γ) bA
    refine⟨y,by simp only[val];rw[hy],?_⟩
    have:=hk γ hγ hle hc h' ah
    simp only[val] at this
    rw[←hy] at this
    exact this) hp hs
   rw[ea] at this
   exact⟨f,_,_,rfl,bz,this⟩
  ·cases bA
 ·cases bA
def B1O(T:Nat)(sl:XV)(s:XSt):Option (List Int×XSt):=
 match sl with
 |.nslc=>some ([],s)
 |.slc j=>match pick j s with
  |some (.buf t bs,r)=>match Nat.beq t T with
   |true=>some (bs,r)
   |false=>none
  |_=>none
 |_=>none
theorem B4V{T n:Nat}{x:XV}{s r:XSt}{bs:List Int}{h:Heap}(hx:B1O T x s=some (bs,r))(ae:O4 n s)(hs:sat h (asn β s++L)):O4 n r∧∃sl:Slc,val β x=.slice sl.a sl.len sl.cap∧sat h (A6s T sl bs::(asn β r++L)):=by
 unfold B1O at hx
 split at hx
 ·cases hx
  exact⟨ae,⟨none,0,0⟩,rfl,A9M hs⟩
 ·rename_i j
  split at hx
  ·rename_i t bs' r' hp
   split at hx
   ·rename_i hb
    cases hx
    have:=B0 hb
    subst this
    exact⟨ae.rest hp,β.s j,rfl,(P3 (β:=β) (L:=L) hp).s hs⟩
   ·cases hx
  ·cases hx
 ·cases hx
theorem B7k{T n:Nat}{r:XSt}{sl:Slc}{bs:List Int}{h:Heap}(ae:O4 n r)(hs:sat h (A6s T sl bs::(asn β r++L))):sat h (asn (β.aR n sl) (add n (.buf T bs) r)++L):=by
 have ha:Agr n β (β.aR n sl):=W5
 refine(A1v (β:=β.aR n sl) (L:=L) ae _).s ?_
 rw[←A0X ha ae]
 simp only[fact,As.aR,if_true]
 exact hs
def A8y(P:Program)(ts:List TypeId)(n:Nat)(s:XSt)(vs:List XV):Option (XV×XSt):=
 match ts,vs with
 |[t,u],[x,.str b]=>match P.underlying t with
  |some (.slice elem)=>match P.underlying u with
   |some .string=>match P.info? elem with
    |some i=>match i.zero with
     |some z=>match z.cells.toList with
      |[.int .u8 (.ofNat 0)]=>match Nat.beq i.size 1 with
       |true=>match Nat.beq i.bytes 1 with
        |true=>match B1O elem x s with
         |some (bs,r)=>match Nat.ble (bs.length+b.size) 140737488355328 with
          |true=>some (.slc n,add n (.buf elem (bs++A2D b)) r)
          |false=>none
         |none=>none
        |false=>none
       |false=>none
      |_=>none
     |none=>none
    |none=>none
   |_=>none
  |_=>none
 |_,_=>none
theorem B2Y{ts:List TypeId}{n:Nat}{s s':XSt}{vs:List XV}{v:XV}(h:A8y P ts n s vs=some (v,s'))(ae:O4 n s)
  (hk:∀γ,Agr n β γ→O4 (n+1) s'→W (asn γ s'++L) (k (val γ v)) Q):W (asn β s++L) (V9 P ts (vals β vs) k) Q:=by
 unfold A8y at h
 split at h
 ·rename_i t u x b
  split at h
  ·rename_i elem ht
   split at h
   ·rename_i hu
    split at h
    ·rename_i i hi
     split at h
     ·rename_i z hz
      split at h
      ·rename_i pV
       split at h
       ·rename_i h1
        split at h
        ·rename_i h2
         split at h
         ·rename_i bs r cO
          split at h
          ·rename_i h3
           cases h
           intro hp hs
           obtain⟨c1,sl,e1,aa⟩:=B4V (L:=L) cO ae hs
           have bp:z.cells=#[.int .u8 0]:=D3.1 pV
           simp only[vals]
           rw[e1]
           simp only[val,V9,ht,hi,hz,hu,B0 h1,B0 h2,bp]
           refine A9Q aa (B1 h3) fun s9 h9 bF=>?_
           have:=hk (β.aR n s9) W5 (c1.new (g:=.buf elem (bs++A2D b)) rfl) h9 (B7k c1 bF)
           simp only[val,As.aR,if_true] at this
           exact this
          ·cases h
         ·cases h
        ·cases h
       ·cases h
      ·cases h
     ·cases h
    ·cases h
   ·cases h
  ·cases h
 ·cases h
def B11:BinOp→Option XV
 |.eql=>some (.bool (V8 false false))
 |.neq=>some (.bool (V8 true false))
 |_=>none
def C0B:XF→Bool
 |.own _ (_::_)=>true
 |.buf _ (_::_)=>true
 |_=>false
def C0O(P:Program)(op:BinOp)(t:TypeId)(x:XV)(yo:Operand)(s:XSt):Option XV:=
 match P.underlying t with
 |some (.slice _)=>match yo with
  |.const (.slice none _ _)=>match x with
   |.slc j=>match look j s with
    |some f=>match C0B f with
     |true=>B11 op
     |false=>match res 40 s j with
      |some (_,_,_,_::_)=>B11 op
      |_=>none
    |none=>none
   |_=>none
  |_=>none
 |_=>none
theorem B73{h:Heap}{j k' z off:Nat}{s:XSt}{r:List XV}{rows:List (List XV)}(hr:res 40 s j=some (k',z,off,r::rows))(hs:sat h (asn β s++L)):(β.s j).a.isNone=false:=by
 obtain⟨ys,h1,h2,-⟩:=A7Z (L:=L) hr hs
 cases ys with
 |nil=>cases h1
 |cons y ys=>
  obtain⟨a,ha,-⟩:=h2.2.2 0 y rfl
  rw[ha];rfl
theorem B74{h:Heap}{j:Nat}{s:XSt}{f:XF}(hl:look j s=some f)(hf:C0B f=true)(hs:sat h (asn β s++L)):(β.s j).a.isNone=false:=by
 obtain⟨r,hr⟩:=A3q hl
 have h1:=(P3 (β:=β) (L:=L) hr).s hs
 cases f with
 |own z es=>
  cases es with
  |nil=>cases hf
  |cons e es=>
   obtain⟨xs,h2⟩:=(sat.bC ..).1 h1
   rw[sat.aH,sat.aN] at h2
   obtain⟨⟨h3,h4⟩,h5⟩:=h2
   rcases V1 h5 with⟨-,-,h6,-⟩|⟨b,o,cs,h6,-⟩
   ·rw[h6] at h3;cases h3
   ·rw[h6.a];rfl
 |buf T bs=>
  cases bs with
  |nil=>cases hf
  |cons b bs=>
   rcases r6 h1 with⟨-,h6,-⟩|⟨g,cur,h6,-⟩
   ·cases h6
   ·rw[h6.a];rfl
 |_=>cases hf
theorem B9C{op:BinOp}{t:TypeId}{x v:XV}{yo:Operand}{y:Value}{s:XSt}(h:C0O P op t x yo s=some v)(hk:W (asn β s++L) (k (val β v)) Q):W (asn β s++L) (A2T P op t yo (val β x) y k) Q:=by
 unfold C0O at h
 split at h
 ·rename_i el ht
  split at h
  ·rename_i l c
   split at h
   ·rename_i j
    split at h
    ·rename_i f hl
     split at h
     ·rename_i hf
      intro hp hs
      have hn:=B74 hl hf hs
      cases op<;>simp only[B11] at h<;>first
       |(cases h;done)
       |(cases h
         simp only[A2T,o8,ht,val,hn]
         exact hk hp hs)
     ·split at h
      ·rename_i hr
       intro hp hs
       have hn:=B73 (L:=L) hr hs
       cases op<;>simp only[B11] at h<;>first
        |(cases h;done)
        |(cases h
          simp only[A2T,o8,ht,val,hn]
          exact hk hp hs)
      ·cases h
    ·cases h
   ·cases h
  ·cases h
 ·cases h
def B9x(P:Program)(T2:TypeId→Nat)(C:List Nat)(call:Nat→List XV→Nat→XSt→Option XR)(e:T3)(d:Dec)(n:Nat)(s:XSt)(o:Oper):Option XR:=
 match o.op with
 |.pick c a b=>same n s (B7F e d c a b)
 |.binOp op t x y _=>match xev e x with
  |some v=>match xev e y with
   |some _=>match C0O P op t v y s with
    |some u=>some (u,n,s)
    |none=>xOp P T2 C call e n s o
   |none=>none
  |none=>none
 |.buildSlice t len ps=>match A8g e ps.toList with
  |some vs=>next n (A2o P t len vs n s)
  |none=>none
 |.makeSlice t a b=>match xev e a with
  |some v=>match xev e b with
   |some u=>next n (A34 P t v u n s)
   |none=>none
  |none=>none
 |.slice t x lo hi none=>match xev e x with
  |some v=>match s5 e lo with
   |some l=>match s5 e hi with
    |some hh=>match B1z P t n s v l hh with
     |some r=>next n (some r)
     |none=>xOp P T2 C call e n s o
    |none=>none
   |none=>none
  |none=>none
 |.slice t x lo hi (some mx)=>match xev e x with
  |some v=>match s5 e lo with
   |some l=>match s5 e hi with
    |some hh=>match s5 e (some mx) with
     |some m=>match B4A P t v l hh m with
      |some u=>some (u,n,s)
      |none=>match A8m P t n s v l hh m with
       |some r=>next n (some r)
       |none=>next n (B1A P t n s v l hh m)
     |none=>none
    |none=>none
   |none=>none
  |none=>none
 |.insert t x i y=>match xev e x with
  |some v=>match xev e i with
   |some u=>match xev e y with
    |some z=>unit n (A4B P T2 t n (unw v s) v u z)
    |none=>none
   |none=>none
  |none=>none
 |.mapUpdate t x i y=>match xev e x with
  |some v=>match xev e i with
   |some u=>match xev e y with
    |some z=>unit n (A4B P T2 t n (unw v s) v u z)
    |none=>none
   |none=>none
  |none=>none
 |.range t x=>match xev e x with
  |some v=>match B1B P t v n s with
   |some r=>next n (some r)
   |none=>next n (B1C P t v n (unw v s))
  |none=>none
 |.next x true=>match xev e x with
  |some v=>match B4B s v with
   |some (u,s')=>some (u,n,s')
   |none=>none
  |none=>none
 |.call c=>match c.callee with
  |.builtin .clear=>match A8k e c.args.toList with
   |some vs=>match vs with
    |v::r=>unit n (B4I P c.argTypes.toList (unw v s) (v::r))
    |[]=>none
   |none=>none
  |.builtin .append=>match A8k e c.args.toList with
   |some vs=>match A8x P c.argTypes.toList n s vs with
    |some r=>next n (some r)
    |none=>match A8y P c.argTypes.toList n s vs with
     |some r=>next n (some r)
     |none=>xOp P T2 C call e n s o
   |none=>none
  |.builtin .delete=>match A8k e c.args.toList with
   |some vs=>match vs with
    |v::r=>unit n (A7V P T2 c.argTypes.toList (unw v s) (v::r))
    |[]=>none
   |none=>none
  |.value (.tmp t)=>match A8k e c.args.toList with
   |some vs=>match e.get t with
    |some (.func f first cap)=>match X2 f C with
     |true=>B98 P o.type (call f (first++(vs++cap)) n s)
     |false=>none
    |_=>none
   |none=>none
  |_=>xOp P T2 C call e n s o
 |_=>xOp P T2 C call e n s o
theorem B9w(hT:A1Y P T2){call:Nat→List XV→Nat→XSt→Option XR}(hC:y9 P call)(ck:∀f,f∈C→Q0 P f){e:T3}{e0:Env}(hE:EAg β e e0){d:Dec}{n n':Nat}{s s':XSt}{o:Oper}{v:XV}(h:B9x P T2 C call e d n s o=some (v,n',s'))(ae:O4 n s)
  (hk:∀γ,Agr n β γ→n≤n'→O4 n' s'→W (asn γ s'++L) (k (val γ v)) Q):W (asn β s++L) (T4 P C e0 d o k) Q:=by
 have hs:n'=n→s'=s→W (asn β s++L) (k (val β v)) Q:=fun e1 e2=>by subst e1 e2;exact hk β Agr.rfl (B5 _) ae
 unfold B9x at h
 split at h
 ·rename_i c a b ho
  obtain⟨h1,h2,h3⟩:=U3 h
  unfold T4;rw[ho]
  exact B7E hE h1 (hs h2 h3)
 ·rename_i op t x y ty ho
  split at h
  ·rename_i u hu
   split at h
   ·rename_i w hw
    split at h
    ·rename_i z hz
     cases h
     unfold T4;rw[ho]
     simp only[O7 hE hu,O7 hE hw]
     exact B9C hz (hs rfl rfl)
    ·exact A5N hT hC hE h ae hk
   ·cases h
  ·cases h
 ·rename_i t len ps ho
  split at h
  ·rename_i vs al
   obtain⟨h1,rfl⟩:=b9 h
   unfold T4;rw[ho]
   simp only[A5J hE al]
   exact A8w h1 ae fun γ hγ hc=>hk γ hγ (E7 _) hc
  ·cases h
 ·rename_i t a b ho
  split at h
  ·rename_i u hu
   split at h
   ·rename_i w hw
    obtain⟨h1,rfl⟩:=b9 h
    unfold T4;rw[ho]
    simp only[O7 hE hu,O7 hE hw]
    exact A9X h1 ae fun γ hγ hc=>hk γ hγ (E7 _) hc
   ·cases h
  ·cases h
 ·rename_i t x lo hi ho
  split at h
  ·rename_i u hu
   split at h
   ·rename_i l hl
    split at h
    ·rename_i hh iq
     split at h
     ·rename_i r hr
      obtain⟨h1,rfl⟩:=b9 h
      cases h1
      unfold T4;rw[ho]
      simp only[O7 hE hu,S4 hE hl,S4 hE iq]
      exact B4v hr ae fun γ hγ hc=>hk γ hγ (E7 _) hc
     ·exact A5N hT hC hE h ae hk
    ·cases h
   ·cases h
  ·cases h
 ·rename_i t x lo hi mx ho
  split at h
  ·rename_i u hu
   split at h
   ·rename_i l hl
    split at h
    ·rename_i hh iq
     split at h
     ·rename_i m hm
      split at h
      ·rename_i z hz
       cases h
       unfold T4;rw[ho]
       simp only[O7 hE hu,S4 hE hl,S4 hE iq,S4 hE hm]
       exact B6w hz (hs rfl rfl)
      ·split at h
       ·rename_i r hr
        obtain⟨h1,rfl⟩:=b9 h
        cases h1
        unfold T4;rw[ho]
        simp only[O7 hE hu,S4 hE hl,S4 hE iq,S4 hE hm]
        exact B2M hr ae fun γ hγ hc=>hk γ hγ (E7 _) hc
       ·obtain⟨h1,rfl⟩:=b9 h
        unfold T4;rw[ho]
        simp only[O7 hE hu,S4 hE hl,S4 hE iq,S4 hE hm]
        exact B4w h1 ae fun γ hγ hc=>hk γ hγ (E7 _) hc
     ·cases h
    ·cases h
   ·cases h
  ·cases h
 ·rename_i t x i y ho
  split at h
  ·rename_i u hu
   split at h
   ·rename_i w hw
    split at h
    ·rename_i z hz
     obtain⟨h1,rfl,rfl⟩:=unit_eq h
     unfold T4;rw[ho]
     simp only[O7 hE hu,O7 hE hw,O7 hE hz]
     exact fun hp hs=>A33 hT h1 (Z7 (β:=β) (L:=L) (h:=hp).1 ae) (fun hc=>hk β Agr.rfl (B5 _) hc) hp ((Z7 (n:=0)).2 hs)
    ·cases h
   ·cases h
  ·cases h
 ·rename_i t x i y ho
  split at h
  ·rename_i u hu
   split at h
   ·rename_i w hw
    split at h
    ·rename_i z hz
     obtain⟨h1,rfl,rfl⟩:=unit_eq h
     unfold T4;rw[ho]
     simp only[O7 hE hu,O7 hE hw,O7 hE hz]
     exact fun hp hs=>A33 hT h1 (Z7 (β:=β) (L:=L) (h:=hp).1 ae) (fun hc=>hk β Agr.rfl (B5 _) hc) hp ((Z7 (n:=0)).2 hs)
    ·cases h
   ·cases h
  ·cases h
 ·rename_i t x ho
  split at h
  ·rename_i u hu
   split at h
   ·rename_i r hr
    obtain⟨h1,rfl⟩:=b9 h
    cases h1
    unfold T4;rw[ho]
    simp only[O7 hE hu]
    exact B4y hr ae fun γ hγ hc=>hk γ hγ (E7 _) hc
   ·obtain⟨h1,rfl⟩:=b9 h
    unfold T4;rw[ho]
    simp only[O7 hE hu]
    exact fun hp hs=>B4z h1 (Z7 (β:=β) (L:=L) (h:=hp).1 ae) (fun γ hγ hc=>hk γ hγ (E7 _) hc) hp ((Z7 (n:=0)).2 hs)
  ·cases h
 ·rename_i x ho
  split at h
  ·rename_i u hu
   split at h
   ·rename_i w s1 hw
    cases h
    unfold T4;rw[ho]
    simp only[O7 hE hu]
    exact B6x hw ae fun hc=>hk β Agr.rfl (B5 _) hc
   ·cases h
  ·cases h
 ·rename_i c ho
  split at h
  ·rename_i hb
   split at h
   ·rename_i vs al
    split at h
    ·rename_i u r
     obtain⟨h1,rfl,rfl⟩:=unit_eq h
     unfold T4;rw[ho]
     simp only[l3 hE al,hb]
     exact fun hp hs=>B6D h1 (Z7 (β:=β) (L:=L) (h:=hp).1 ae) (fun hc=>hk β Agr.rfl (B5 _) hc) hp ((Z7 (n:=0)).2 hs)
    ·cases h
   ·cases h
  ·rename_i hb
   split at h
   ·rename_i vs al
    split at h
    ·rename_i r hr
     obtain⟨h1,rfl⟩:=b9 h
     cases h1
     unfold T4;rw[ho]
     simp only[l3 hE al,hb]
     exact B2X hr ae fun γ hγ hc=>hk γ hγ (E7 _) hc
    ·split at h
     ·rename_i r hr
      obtain⟨h1,rfl⟩:=b9 h
      cases h1
      unfold T4;rw[ho]
      simp only[l3 hE al,hb]
      exact B2Y hr ae fun γ hγ hc=>hk γ hγ (E7 _) hc
     ·exact A5N hT hC hE h ae hk
   ·cases h
  ·rename_i hb
   split at h
   ·rename_i vs al
    split at h
    ·rename_i u r
     obtain⟨h1,rfl,rfl⟩:=unit_eq h
     unfold T4;rw[ho]
     simp only[l3 hE al,hb]
     exact fun hp hs=>A8r hT h1 (Z7 (β:=β) (L:=L) (h:=hp).1 ae) (fun hc=>hk β Agr.rfl (B5 _) hc) hp ((Z7 (n:=0)).2 hs)
    ·cases h
   ·cases h
  ·rename_i t hb
   split at h
   ·rename_i vs al
    split at h
    ·rename_i f first cap hf
     split at h
     ·rename_i hm
      obtain⟨h1,h2⟩:=B6b h
      unfold T4;rw[ho]
      have e1:e0.ev (.tmp t)=some (val β (.func f first cap)):=hE t _ hf
      simp only[l3 hE al,hb,e1]
      exact B6E hC ck hm h1 h2 ae hk
     ·cases h
    ·cases h
   ·cases h
  ·exact A5N hT hC hE h ae hk
 ·exact A5N hT hC hE h ae hk
end
end
section
open Go.H
structure Inv(β:As)(e:T3)(n:Nat)(s:XSt)(e0:Env):Prop where
 ag:EAg β e e0
 ce:∀t v,e.get t=some v→clo n v=true
 cs:O4 n s
def A8n(e:T3)(dst:Option Nat)(v:XV):T3:=
 match dst with
 |some t=>add t v e
 |none=>e
theorem B2N{e:T3}{dst:Option Nat}{v u:XV}{t:Nat}(h:(A8n e dst v).get t=some u):(dst=some t∧u=v)∨(dst≠some t∧e.get t=some u):=by
 cases dst with
 |none=>exact .inr ⟨nofun,h⟩
 |some s=>
  simp only[A8n,add] at h
  rw[A0S (s+1) e s t v (G4 _)] at h
  split at h
  ·rename_i e1;subst e1;cases h;exact .inl ⟨rfl,rfl⟩
  ·rename_i e1;exact .inr ⟨fun hh=>e1 (by cases hh;rfl),h⟩
theorem EAg.set{β:As}{e:T3}{e0:Env}(h:EAg β e e0)(dst:Option Nat)(v:XV):EAg β (A8n e dst v) (e0.put dst (val β v)):=by
 intro t u hu
 rcases B2N hu with⟨rfl,rfl⟩|⟨hd,kI⟩
 ·rw[A75,if_pos rfl]
 ·cases dst with
  |none=>exact h t u kI
  |some s=>rw[A75,if_neg (fun e=>hd (by rw[e]))];exact h t u kI
theorem EAg.agr{n:Nat}{β γ:As}{e:T3}{e0:Env}(h:EAg β e e0)(ce:∀t v,e.get t=some v→clo n v=true)(ha:Agr n β γ):EAg γ e e0:=fun t v hv=>by
 rw[h t v hv,A1u ha v (ce t v hv)]
theorem A6q{n m:Nat}{e:T3}(h:∀t v,e.get t=some v→clo n v=true)(hm:n≤m){dst:Option Nat}{v:XV}(hv:clo m v=true):∀t u,(A8n e dst v).get t=some u→clo m u=true:=fun t u hu=>by
 rcases B2N hu with⟨-,rfl⟩|⟨-,hu⟩
 ·exact hv
 ·exact m6 hm u (h t u hu)
def asc:List (Nat×Nat)→Nat→Option Nat
 |[],_=>none
 |(a,b)::r,k=>match Nat.beq a k with
  |true=>some b
  |false=>asc r k
def sig(n m:Nat)(l:List (Nat×Nat))(k:Nat):Nat:=
 match Nat.blt k n with
 |true=>k
 |false=>match asc l k with
  |some v=>v
  |none=>k+m
def B54(b:Nat):List (Nat×Nat)→Bool
 |[]=>true
 |(_,c)::r=>match Nat.beq b c with
  |true=>false
  |false=>B54 b r
def B3a(n m:Nat):List (Nat×Nat)→Bool
 |[]=>true
 |(_,b)::r=>match Nat.ble n b with
  |true=>match Nat.blt b m with
   |true=>match B54 b r with
    |true=>B3a n m r
    |false=>false
   |false=>false
  |false=>false
theorem A1W:∀{l:List (Nat×Nat)} {k v:Nat},asc l k=some v→(k,v)∈l
 |[],_,_,h=>by cases h
 |(a,b)::r,k,v,h=>by
  unfold asc at h
  split at h
  ·rename_i hb
   cases h
   rw[B0 hb]
   exact B7 ..
  ·exact B8 _ (A1W h)
theorem A89:∀{l:List (Nat×Nat)} {b k:Nat},B54 b l=true→(k,b)∈l→False
 |[],_,_,_,h=>by cases h
 |(a,c)::r,b,k,h,hm=>by
  unfold B54 at h
  split at h
  ·cases h
  ·rename_i hb
   rcases B9.1 hm with he|hm
   ·cases he
    simp at hb
   ·exact A89 h hm
theorem B29{n m:Nat}:∀{l:List (Nat×Nat)},B3a n m l=true→(∀k v,(k,v)∈l→n≤v∧v<m)∧∀i j v,(i,v)∈l→(j,v)∈l→i=j
 |[],_=>⟨fun _ _ h=>(by cases h),fun _ _ _ h=>(by cases h)⟩
 |(a,b)::r,h=>by
  unfold B3a at h
  split at h
  ·rename_i h1
   split at h
   ·rename_i h2
    split at h
    ·rename_i h3
     obtain⟨h4,h5⟩:=B29 h
     refine⟨fun k v hm=>?_,fun i j v hi hj=>?_⟩
     ·rcases B9.1 hm with he|hm
      ·cases he
       exact⟨B1 h1,by simpa using h2⟩
      ·exact h4 k v hm
     ·rcases B9.1 hi with he|hi
      ·cases he
       rcases B9.1 hj with he|hj
       ·cases he;rfl
       ·exact(A89 h3 hj).elim
      ·rcases B9.1 hj with he|hj
       ·cases he
        exact(A89 h3 hi).elim
       ·exact h5 i j v hi hj
    ·cases h
   ·cases h
  ·cases h
theorem A8M{n m k:Nat}{l:List (Nat×Nat)}(h:k<n):sig n m l k=k:=by
 unfold sig
 rw[show Nat.blt k n=true by simpa using h]
theorem B41{n m k:Nat}{l:List (Nat×Nat)}(h:¬k<n):sig n m l k=match asc l k with
  |some v=>v
  |none=>k+m:=by
 unfold sig
 cases hb:Nat.blt k n with
 |true=>exact absurd (by simpa using hb) h
 |false=>rfl
theorem B9T{n m:Nat}{l:List (Nat×Nat)}(h:B3a n m l=true):∀i j,sig n m l i=sig n m l j→i=j:=by
 obtain⟨h4,h5⟩:=B29 h
 intro i j he
 by_cases hi:i<n
 ·rw[A8M hi] at he
  by_cases hj:j<n
  ·rwa[A8M hj] at he
  ·rw[B41 hj] at he
   cases ha:asc l j with
   |some v=>
    rw[ha] at he
    have:=h4 j v (A1W ha)
    simp only at he
    omega
   |none=>
    rw[ha] at he
    simp only at he
    omega
 ·rw[B41 hi] at he
  by_cases hj:j<n
  ·rw[A8M hj] at he
   cases ha:asc l i with
   |some v=>
    rw[ha] at he
    have:=h4 i v (A1W ha)
    simp only at he
    omega
   |none=>
    rw[ha] at he
    simp only at he
    omega
  ·rw[B41 hj] at he
   cases ha:asc l i with
   |some v=>
    cases hb:asc l j with
    |some u=>
     rw[ha,hb] at he
     simp only at he
     subst he
     exact h5 i j v (A1W ha) (A1W hb)
    |none=>
     rw[ha,hb] at he
     have:=h4 i v (A1W ha)
     simp only at he
     omega
   |none=>
    cases hb:asc l j with
    |some u=>
     rw[ha,hb] at he
     have:=h4 j u (A1W hb)
     simp only at he
     omega
    |none=>
     rw[ha,hb] at he
     simp only at he
     omega
def A86:List XV→List XV→List (XV×XV)→List (XV×XV)
 |a::x,b::y,r=>(a,b)::A86 x y r
 |_,_,r=>r
def A87{K:Type}:List (K×XV)→List (K×XV)→List (XV×XV)→List (XV×XV)
 |(_,a)::x,(_,b)::y,r=>(a,b)::A87 x y r
 |_,_,r=>r
def C0t:List (List XV)→List (List XV)→List (XV×XV)→List (XV×XV)
 |a::x,b::y,r=>A86 a b (C0t x y r)
 |_,_,r=>r
def C0u(f g:XF)(r:List (XV×XV)):List (XV×XV):=
 match f with
 |.cells _ a=>match g with
  |.cells _ b=>A86 a b r
  |_=>r
 |.mapI a=>match g with
  |.mapI b=>A87 a b r
  |_=>r
 |.mapS a=>match g with
  |.mapS b=>A87 a b r
  |_=>r
 |.mapT a=>match g with
  |.mapT b=>A87 a b r
  |_=>r
 |.mapP a=>match g with
  |.mapP b=>A87 a b r
  |_=>r
 |.own _ a=>match g with
  |.own _ b=>C0t a b r
  |_=>r
 |.walkI i a _ _=>match g with
  |.walkI j b _ _=>(.ptr i 0,.ptr j 0)::A87 a b r
  |_=>r
 |.walkS i a _ _=>match g with
  |.walkS j b _ _=>(.ptr i 0,.ptr j 0)::A87 a b r
  |_=>r
 |.itOf i=>match g with
  |.itOf j=>(.ptr i 0,.ptr j 0)::r
  |_=>r
 |.view i _ _ _ _=>match g with
  |.view j _ _ _ _=>(.slc i,.slc j)::r
  |_=>r
 |_=>r
def C0v:XV→Option Nat
 |.ptr k _=>some k
 |.eptr k _=>some k
 |.slc k=>some k
 |.map k=>some k
 |_=>none
def uni(n:Nat)(s s2:XSt):Nat→List (XV×XV)→List (Nat×Nat)→List (Nat×Nat)
 |0,_,acc=>acc
 |f+1,todo,acc=>match todo with
  |[]=>acc
  |(v,w)::r=>match C0v v with
   |some k=>match C0v w with
    |some j=>match Nat.blt k n with
     |true=>uni n s s2 f r acc
     |false=>match asc acc k with
      |some _=>uni n s s2 f r acc
      |none=>match s.get k with
       |some a=>match s2.get j with
        |some b=>uni n s s2 f (C0u a b r) ((k,j)::acc)
        |none=>uni n s s2 f r ((k,j)::acc)
       |none=>uni n s s2 f r ((k,j)::acc)
    |none=>uni n s s2 f r acc
   |none=>match v with
    |.agg a=>match w with
     |.agg b=>uni n s s2 f (A86 a b r) acc
     |_=>uni n s s2 f r acc
    |.aQ a=>match w with
     |.aQ b=>uni n s s2 f (A86 a b r) acc
     |_=>uni n s s2 f r acc
    |.func _ a c=>match w with
     |.func _ b d=>uni n s s2 f (A86 a b (A86 c d r)) acc
     |_=>uni n s s2 f r acc
    |.iface _ a=>match w with
     |.iface _ b=>uni n s s2 f ((a,b)::r) acc
     |_=>uni n s s2 f r acc
    |_=>uni n s s2 f r acc
def B2I:T3→T3→List (XV×XV)→List (XV×XV)
 |.lf,_,z=>z
 |.nd o l r,t,z=>match t with
  |.lf=>z
  |.nd o2 l2 r2=>match o with
   |some a=>match o2 with
    |some b=>(a,b)::B2I l l2 (B2I r r2 z)
    |none=>B2I l l2 (B2I r r2 z)
   |none=>B2I l l2 (B2I r r2 z)
def A7m(n:Nat):XSt→XSt→(Nat→Nat)→List (XV×XV)→List (XV×XV)
 |.lf,_,_,z=>z
 |.nd o l r,t,κ,z=>match t with
  |.lf=>z
  |.nd o2 l2 r2=>match Nat.blt (κ 0) n with
   |true=>match o with
    |some a=>match o2 with
     |some b=>match B7C a b with
      |true=>A7m n l l2 (fun j=>κ (2*j+1)) (A7m n r r2 (fun j=>κ (2*j+2)) z)
      |false=>C0u a b (A7m n l l2 (fun j=>κ (2*j+1)) (A7m n r r2 (fun j=>κ (2*j+2)) z))
     |none=>A7m n l l2 (fun j=>κ (2*j+1)) (A7m n r r2 (fun j=>κ (2*j+2)) z)
    |none=>A7m n l l2 (fun j=>κ (2*j+1)) (A7m n r r2 (fun j=>κ (2*j+2)) z)
   |false=>A7m n l l2 (fun j=>κ (2*j+1)) (A7m n r r2 (fun j=>κ (2*j+2)) z)
def C0f(n:Nat)(k:Nat)(f:XF):Bool:=
 match Nat.blt k n with
 |true=>A1S n f
 |false=>false
def C0z(σ:Nat→Nat)(e2:T3)(t:Nat)(v:XV):Bool:=
 match e2.get t with
 |some v2=>xeq (ren σ v) v2
 |none=>false
def C0y(σ:Nat→Nat)(s2:XSt)(k:Nat)(f:XF):Bool:=
 match s2.get (σ k) with
 |some f2=>B7C (A4d σ f) f2
 |none=>false
def C0g(n:Nat)(e:T3)(s:XSt):Bool:=
 match e.every (fun _ v=>clo n v) id with
 |true=>s.every (C0f n) id
 |false=>false
theorem B6h{n:Nat}{e:T3}{s:XSt}(h:C0g n e s=true):(∀t v,e.get t=some v→clo n v=true)∧O4 n s:=by
 unfold C0g at h
 split at h
 ·rename_i h1
  refine⟨fun t v hv=>A1g h1 hv,fun k f hf=>?_⟩
  have:=A1g h hf
  unfold C0f at this
  split at this
  ·rename_i hb;exact⟨by simpa using hb,this⟩
  ·cases this
 ·cases h
def B04(σ:Nat→Nat)(e e2:T3):T3:=e.cG (C0z σ e2) id
def A3U(σ:Nat→Nat)(s s2:XSt):XSt:=s.cG (C0y σ s2) id
theorem A59{σ:Nat→Nat}{γ:As}{e e2:T3}{s s2:XSt}{e0:Env}{L:List Asn}(h:EAg γ e e0):EAg γ (B04 σ e e2) e0∧Sub (asn γ s++L) (asn γ (A3U σ s s2)++L):=by
 refine⟨fun t v hv=>h t v (A1f hv).1,?_⟩
 have h1:=B5T (γ:=γ) (σ:=id) (s:=s) (s':=A3U σ s s2) (L:=L) (fun i j h=>h) fun k f hf=>?_
 ·have:γ.ren id=γ:=B44 (fun _=>rfl) γ
  rw[this] at h1
  exact h1
 ·have:∀f:XF,A4d id f=f:=by
   have hv:∀v:XV,ren id v=v:=fun v=>by
    refine XV.rec (motive_1:=fun v=>ren id v=v) (motive_2:=fun l=>A5V id l=l) ?_ ?_ ?_ ?_ ?_ ?_ ?_ ?_ ?_ ?_ ?_ ?_ ?_ ?_ ?_ ?_ ?_ ?_ ?_ v
    all_goals(intros;simp only[ren,A5V,id] at*;try simp only[*])
   have hl:∀l:List XV,A5V id l=l:=fun l=>by
    induction l with
    |nil=>rfl
    |cons a l ih=>simp only[A5V];rw[hv a,ih]
   have he:∀{K:Type} (l:List (K×XV)),A4e id l=l:=fun l=>by
    induction l with
    |nil=>rfl
    |cons a l ih=>obtain⟨a,b⟩:=a;simp only[A4e];rw[hv b,ih]
   have hr:∀l:List (List XV),B6O id l=l:=fun l=>by
    induction l with
    |nil=>rfl
    |cons a l ih=>simp only[B6O];rw[hl a,ih]
   intro f
   cases f<;>simp only[A4d,hl,he,hr,id]
  rw[this]
  exact(A1f hf).1
theorem A4l{σ:Nat→Nat}{γ:As}{e e2:T3}{s s2:XSt}{e0:Env}{L:List Asn}(cW:∀i j,σ i=σ j→i=j)(h:EAg γ e2 e0):EAg (γ.ren σ) (B04 σ e e2) e0∧Sub (asn γ s2++L) (asn (γ.ren σ) (A3U σ s s2)++L):=by
 refine⟨fun t v hv=>?_,B5T cW fun k f hf=>?_⟩
 ·have:=(A1f hv).2
  unfold C0z at this
  split at this
  ·rename_i v2 h2
   rw[←A7X,A2n _ _ this]
   exact h t v2 h2
  ·cases this
 ·have:=(A1f hf).2
  unfold C0y at this
  split at this
  ·rename_i f2 h2
   rw[B5L this]
   exact h2
  ·cases this
def A7i{α τ:Type}(f:α→Option (List τ)):List α→Option (List τ)
 |[]=>some []
 |x::xs=>match f x with
  |some a=>match A7i f xs with
   |some b=>some (a++b)
   |none=>none
  |none=>none
theorem A1o{α τ:Type}{f:α→Option (List τ)}:∀{l:List α} {r:List τ},A7i f l=some r→∀x∈l,∃a,f x=some a∧∀y∈a,y∈r
 |[],r,_,x,hx=>by cases hx
 |z::l,r,h,x,hx=>by
  simp only[A7i] at h
  split at h
  ·rename_i a ha
   split at h
   ·rename_i b hb
    cases h
    rcases B9.1 hx with rfl|hx
    ·exact⟨a,ha,fun y hy=>J2 _ hy⟩
    ·obtain⟨c,h1,h2⟩:=A1o hb x hx
     exact⟨c,h1,fun y hy=>List.mem_append_right _ (h2 y hy)⟩
   ·cases h
  ·cases h
section
variable {ρ:Type} {L:List Asn} {Q:ρ→Heap→Prop} {P:Program} {β:As} {T2:TypeId→Nat} {C:List Nat} {call:Nat→List XV→Nat→XSt→Option XR}
def C0N(P:Program)(T2:TypeId→Nat)(C:List Nat)(call:Nat→List XV→Nat→XSt→Option XR)(ops:Array Oper)(e:T3)(d:Dec)(n:Nat)(s:XSt)(o:Oper):Option (List XR):=
 match o.op with
 |.next x false=>match xev e x with
  |some v=>match B4C s v with
   |some l=>some (l.map fun q=>(q.1,n,q.2))
   |none=>none
  |none=>none
 |.entry x=>match xev e x with
  |some v=>match B4G (A0y P o.dst 0 ops.toList) (A0y P o.dst 1 ops.toList) s v with
   |some u=>some [(u,n,s)]
   |none=>none
  |none=>none
 |_=>match B9x P T2 C call e d n s o with
  |some r=>some [r]
  |none=>none
theorem B9y(hT:A1Y P T2)(hC:y9 P call)(ck:∀f,f∈C→Q0 P f){ops:Array Oper}{e:T3}{e0:Env}(hE:EAg β e e0){d:Dec}{n:Nat}{s:XSt}{o:Oper}{rs:List XR}{k:Value→HM ρ}(h:C0N P T2 C call ops e d n s o=some rs)(ae:O4 n s)
  (hk:∀r∈rs,∀γ,Agr n β γ→n≤r.2.1→O4 r.2.1 r.2.2→W (asn γ r.2.2++L) (k (val γ r.1)) Q):W (asn β s++L) (A1P P C ops e0 d o k) Q:=by
 unfold C0N at h
 split at h
 ·rename_i x ho
  split at h
  ·rename_i v hv
   split at h
   ·rename_i l hl
    cases h
    unfold A1P T4
    rw[ho]
    simp only[O7 hE hv]
    exact B6y hl ae fun q hq hc=>hk _ (D6 hq) β Agr.rfl (B5 _) hc
   ·cases h
  ·cases h
 ·rename_i x ho
  split at h
  ·rename_i v hv
   split at h
   ·rename_i u hu
    cases h
    unfold A1P
    rw[ho]
    simp only[O7 hE hv]
    exact B6B hu (hk _ (B4.2 rfl) β Agr.rfl (B5 _) ae)
   ·cases h
  ·cases h
 split at h
 ·rename_i r hr
  obtain⟨v,n',s'⟩:=r
  cases h
  have bh:∀x,o.op≠ .entry x:=fun x hx=>by
   simp only[B9x,hx,xOp,B9A] at hr
   cases hr
  unfold A1P
  split
  ·rename_i x hx;exact absurd hx (bh x)
  ·exact B9w hT hC ck hE hr ae fun γ ha hn hc=>hk (v,n',s') (B4.2 rfl) γ ha hn hc
 ·cases h
structure XT where
 e:T3
 d:Dec
 dn:List (Nat×XV)
 n:Nat
 s:XSt
def B3Z(β:As)(dn:List (Nat×XV)):U2:=dn.map fun p=>(p.1,val β p.2)
structure B83(β:As)(x:XT)(e0:Env)(dn0:U2):Prop extends Inv β x.e x.n x.s e0 where
 dn:dn0=B3Z β x.dn
 cd:∀p∈x.dn,clo x.n p.2=true
theorem A5u{n:Nat}{β γ:As}(h:Agr n β γ):∀{dn:List (Nat×XV)},(∀p∈dn,clo n p.2=true)→B3Z β dn=B3Z γ dn
 |[],_=>rfl
 |p::r,hc=>by
  simp only[B3Z,B6]
  rw[A1u h p.2 (hc p (B7 ..))]
  congr 1
  exact A5u h fun q hq=>hc q (B8 _ hq)
def A8z(P:Program)(T2:TypeId→Nat)(C:List Nat)(call:Nat→List XV→Nat→XSt→Option XR)(ops:Array Oper)(b:Nat)(e:T3)(n:Nat)(s:XSt):List (Nat×XV)→Option (Nat×XSt)
 |[]=>some (n,s)
 |(i,v)::r=>match b.testBit i with
  |true=>A8z P T2 C call ops b e n s r
  |false=>match ops.toList[i]? with
   |some o=>match xOp P T2 C call e n s o with
    |some (v',n',s')=>match xeq v' v with
     |true=>A8z P T2 C call ops b e n' s' r
     |false=>none
    |none=>none
   |none=>none
theorem A5P(hT:A1Y P T2)(hC:y9 P call){ops:Array Oper}{b:Nat}{d:Dec}{m:HM ρ}{e:T3}{e0:Env}:∀{dn:List (Nat×XV)} {β:As} {n n':Nat} {s s':XSt},A8z P T2 C call ops b e n s dn=some (n',s')→EAg β e e0→(∀t v,e.get t=some v→clo n v=true)→O4 n s→(∀p∈dn,clo n p.2=true)→
  (∀γ,Agr n β γ→n≤n'→O4 n' s'→W (asn γ s'++L) m Q)→W (asn β s++L) (again P C ops b e0 d (B3Z β dn) m) Q
 |[],β,n,n',s,s',h,hE,cv,ae,fQ,hk=>by cases h;exact hk β Agr.rfl (B5 _) ae
 |(i,v)::r,β,n,n',s,s',h,hE,cv,ae,fQ,hk=>by
  have iA:∀p∈r,clo n p.2=true:=fun p hp=>fQ p (B8 _ hp)
  simp only[A8z] at h
  simp only[B3Z,B6,again]
  split at h
  ·rename_i hb
   simp only[hb]
   exact A5P hT hC h hE cv ae iA hk
  ·rename_i hb
   simp only[hb]
   split at h
   ·rename_i o ho
    simp only[ho]
    split at h
    ·rename_i v' n1 s1 eV
     split at h
     ·rename_i hv
      have:=A2n _ _ hv
      subst this
      refine A5N hT hC hE eV ae fun γ ha hn hc=>?_
      have qb:clo n v'=true:=fQ (i,v') (B7 ..)
      refine W6 ?_ (A1u ha v' qb).symm
      have e1:List.map (fun p=>(p.1,val β p.2)) r=B3Z γ r:=A5u ha iA
      rw[e1]
      exact A5P hT hC h (hE.agr cv ha) (fun t u hu=>m6 hn u (cv t u hu)) hc (fun p hp=>m6 hn _ (iA p hp)) fun δ gO ic dL=>hk δ (ha.trans gO hn) (E3 hn ic) dL
     ·cases h
    ·cases h
   ·cases h
def C0p(P:Program)(T2:TypeId→Nat)(C:List Nat)(call:Nat→List XV→Nat→XSt→Option XR)(ops:Array Oper)(draw:Bool)(j:Nat)(o:Oper)(x:XT)(r:XR):Option (List XT):=
 match r with
 |(v,n',s')=>match clo n' v with
  |true=>match draw with
   |false=>some [⟨A8n x.e o.dst v,U1 x.d o,x.dn,n',s'⟩]
   |true=>match R3 P o.op with
    |.stat=>some [⟨A8n x.e o.dst v,U1 x.d o,x.dn,n',s'⟩]
    |.read=>some [⟨A8n x.e o.dst v,U1 x.d o,(j,v)::x.dn,n',s'⟩]
    |.bD=>match A8z P T2 C call ops ((Region.before ops).getD j 0) (A8n x.e o.dst v) n' s' x.dn with
     |some (n2,s2)=>some [⟨A8n x.e o.dst v,U1 x.d o,x.dn,n2,s2⟩]
     |none=>none
  |false=>none
def B2P(P:Program)(T2:TypeId→Nat)(C:List Nat)(call:Nat→List XV→Nat→XSt→Option XR)(ops:Array Oper)(draw:Bool)(j:Nat)(o:Oper)(x:XT):Option (List XT):=
 match C0N P T2 C call ops x.e x.d x.n x.s o with
 |some rs=>A7i (C0p P T2 C call ops draw j o x) rs
 |none=>none
theorem B9B(hT:A1Y P T2)(hC:y9 P call)(ck:∀f,f∈C→Q0 P f){ops:Array Oper}{draw:Bool}{j:Nat}{o:Oper}{x:XT}{outs:List XT}{e0:Env}{dn0:U2}{kk:Env→U2→HM ρ}(h:B2P P T2 C call ops draw j o x=some outs)(hI:B83 β x e0 dn0)
  (hk:∀y∈outs,∀γ e1 gm,Agr x.n β γ→x.n≤y.n→B83 γ y e1 gm→y.d=U1 x.d o→W (asn γ y.s++L) (kk e1 gm) Q):W (asn β x.s++L) (A01 P C ops draw j o e0 x.d dn0 kk) Q:=by
 unfold B2P at h
 split at h
 ·rename_i rs qn
  unfold A01
  refine B9y hT hC ck hI.ag qn hI.cs fun r hr γ ha hn hc=>?_
  obtain⟨asZ,h1,h2⟩:=A1o h r hr
  obtain⟨v,n',s'⟩:=r
  simp only[C0p] at h1
  have bw:dn0=B3Z γ x.dn:=by rw[hI.dn,A5u ha hI.cd]
  have hE:EAg γ x.e e0:=hI.ag.agr hI.ce ha
  simp only at hn hc
  split at h1
  ·rename_i hv
   have cv:=A6q (dst:=o.dst) hI.ce hn hv
   have fQ:∀p∈x.dn,clo n' p.2=true:=fun p hp=>m6 hn _ (hI.cd p hp)
   cases draw with
   |false=>
    cases h1
    exact hk _ (h2 _ (B4.2 rfl)) γ _ _ ha hn ⟨⟨hE.set o.dst v,cv,hc⟩,bw,fQ⟩ rfl
   |true=>
    simp only at h1⊢
    split at h1
    ·rename_i ae
     cases h1
     simp only[ae]
     exact hk _ (h2 _ (B4.2 rfl)) γ _ _ ha hn ⟨⟨hE.set o.dst v,cv,hc⟩,bw,fQ⟩ rfl
    ·rename_i ae
     cases h1
     simp only[ae]
     refine hk _ (h2 _ (B4.2 rfl)) γ _ _ ha hn ⟨⟨hE.set o.dst v,cv,hc⟩,by rw[bw];rfl,fun p hp=>?_⟩ rfl
     rcases B9.1 hp with rfl|hp
     ·exact hv
     ·exact fQ p hp
    ·rename_i ae
     simp only[ae]
     split at h1
     ·rename_i n2 s2 gQ
      cases h1
      rw[bw]
      refine A5P hT hC gQ (hE.set o.dst v) cv hc fQ fun δ hb eW eR=>?_
      refine hk _ (h2 _ (B4.2 rfl)) δ _ _ (ha.trans hb hn) (E3 hn eW) ⟨⟨(hE.set o.dst v).agr cv hb,fun t u hu=>m6 eW u (cv t u hu),eR⟩,A5u hb fQ,fun p hp=>m6 eW _ (fQ p hp)⟩ rfl
     ·cases h1
  ·cases h1
 ·cases h
def B0n(o:Oper)(d:Dec)(x:XT):Option (List XT):=some [⟨A8n x.e o.dst (.aQ []),d,x.dn,x.n,x.s⟩]
def B0m(P:Program)(T2:TypeId→Nat)(C:List Nat)(call:Nat→List XV→Nat→XSt→Option XR)(nt:Nat)(ops:Array Oper)(draw:Bool)(j:Nat)(x:XT):Option (List XT):=
 match ops.toList[j]? with
 |none=>none
 |some o=>match B5w nt x.d o.dst with
  |false=>none
  |true=>match o.guard with
   |none=>B2P P T2 C call ops draw j o x
   |some (g,want)=>match q7 ops g with
    |none=>none
    |some s=>match x.d.get s with
     |some b=>match b,want with
      |true,true=>B2P P T2 C call ops draw j o x
      |false,false=>B2P P T2 C call ops draw j o x
      |true,false=>B0n o x.d x
      |false,true=>B0n o x.d x
     |none=>match B8A o.dst s with
      |true=>none
      |false=>match x.e.get s with
       |some (.bool b)=>match b,want with
        |true,true=>B2P P T2 C call ops draw j o {x with d:=(s,true)::x.d}
        |false,false=>B2P P T2 C call ops draw j o {x with d:=(s,false)::x.d}
        |true,false=>B0n o ((s,true)::x.d) x
        |false,true=>B0n o ((s,false)::x.d) x
       |some (.aQ [])=>B0n o x.d x
       |_=>none
theorem B2L(hT:A1Y P T2)(hC:y9 P call)(ck:∀f,f∈C→Q0 P f){nt:Nat}{ops:Array Oper}{draw:Bool}{j:Nat}{x:XT}{outs:List XT}{e0:Env}{dn0:U2}{kk:Env→Dec→U2→HM ρ}(h:B0m P T2 C call nt ops draw j x=some outs)(hI:B83 β x e0 dn0)
  (hk:∀y∈outs,∀γ e1 gm,Agr x.n β γ→x.n≤y.n→B83 γ y e1 gm→W (asn γ y.s++L) (kk e1 y.d gm) Q):W (asn β x.s++L) (A1O P C nt ops draw j e0 x.d dn0 kk) Q:=by
 have one:∀(o:Oper) (d:Dec),B2P P T2 C call ops draw j o {x with d:=d}=some outs→W (asn β x.s++L) (A01 P C ops draw j o e0 d dn0 fun e' dn'=>kk e' (U1 d o) dn') Q:=fun o d ho=>
  B9B (x:={x with d:=d}) hT hC ck ho ⟨⟨hI.ag,hI.ce,hI.cs⟩,hI.dn,hI.cd⟩ fun y hy γ e1 gm ha hn hi hd=>by
   have:=hk y hy γ e1 gm ha hn hi
   rw[hd] at this
   exact this
 have skip:∀(o:Oper) (d:Dec),B0n o d x=some outs→W (asn β x.s++L) (kk (e0.put o.dst undef) d dn0) Q:=fun o d ho=>by
  cases ho
  refine hk _ (B4.2 rfl) β _ _ Agr.rfl (B5 _) ⟨⟨?_,A6q hI.ce (B5 _) rfl,hI.cs⟩,hI.dn,hI.cd⟩
  exact hI.ag.set o.dst (.aQ [])
 unfold B0m at h
 unfold A1O
 split at h
 ·cases h
 ·rename_i o ho
  rw[ho]
  split at h
  ·cases h
  ·rename_i hd
   simp only[hd]
   split at h
   ·rename_i hg
    simp only[hg]
    exact one o x.d h
   ·rename_i g want hg
    simp only[hg]
    split at h
    ·cases h
    ·rename_i s hs
     simp only[hs]
     split at h
     ·rename_i b hb
      simp only[hb]
      cases b<;>cases want<;>simp only at h⊢
      ·exact one o x.d h
      ·exact skip o x.d h
      ·exact skip o x.d h
      ·exact one o x.d h
     ·rename_i hb
      simp only[hb]
      split at h
      ·cases h
      ·rename_i hh
       simp only[hh]
       split at h
       ·rename_i b he
        simp only[hI.ag s _ he,val]
        cases b<;>cases want<;>simp only at h⊢
        ·exact A2l rfl (one o _ h)
        ·exact A2l rfl (skip o _ h)
        ·exact o4 rfl (skip o _ h)
        ·exact o4 rfl (one o _ h)
       ·rename_i he
        simp only[hI.ag s _ he,val]
        exact skip o x.d h
       ·cases h
def B7L(n m:Nat)(e e2:T3)(s s2:XSt)(l:List (Nat×Nat)):Option (List XT):=
 match B3a n m l with
 |true=>match C0g m (B04 (sig n m l) e e2) (A3U (sig n m l) s s2) with
  |true=>some [⟨B04 (sig n m l) e e2,[],[],m,A3U (sig n m l) s s2⟩]
  |false=>none
 |false=>none
def B5P(x:XT)(oi oj:Option (List XT)):Option (List XT):=
 match oi,oj with
 |some [a],some [b]=>B7L x.n (Nat.max a.n b.n) a.e b.e a.s b.s (uni x.n a.s b.s 100000 (B2I a.e b.e (A7m x.n a.s b.s id [])) [])
 |some l,some r=>some (l++r)
 |_,_=>none
def B2R(x:XT):List (Option (List XT))→Option (List XT)
 |[]=>none
 |o::r=>match r with
  |[]=>o
  |_::_=>B5P x o (B2R x r)
def B26(f:XT→Option (List XT)):Option (List XT)→Option (List XT)
 |some l=>A7i f l
 |none=>none
def xT(P:Program)(T2:TypeId→Nat)(C:List Nat)(call:Nat→List XV→Nat→XSt→Option XR)(nt:Nat)(ops:Array Oper)(draw:Bool):k5→XT→Option (List XT)
 |.done,x=>some [x]
 |.q j t,x=>B26 (xT P T2 C call nt ops draw t) (B0m P T2 C call nt ops draw j x)
 |.br js f,x=>B2R x (js.map fun j=>B26 (xT P T2 C call nt ops draw (f j)) (B0m P T2 C call nt ops draw j x))
def Ends(L:List Asn)(Q:ρ→Heap→Prop)(k:Env→HM ρ)(β:As)(n:Nat)(y:XT):Prop:=
 ∀γ e1,Agr n β γ→n≤y.n→Inv γ y.e y.n y.s e1→W (asn γ y.s++L) (k e1) Q
theorem B7I{x:XT}{oi oj:Option (List XT)}{outs:List XT}{k:Env→HM ρ}(h:B5P x oi oj=some outs)(hk:∀y∈outs,Ends L Q k β x.n y):
  (∃l,oi=some l∧∀y∈l,Ends L Q k β x.n y)∧(∃l,oj=some l∧∀y∈l,Ends L Q k β x.n y):=by
 unfold B5P at h
 split at h
 ·rename_i a b
  generalize uni x.n a.s b.s 100000 (B2I a.e b.e (A7m x.n a.s b.s id [])) []=l at h
  unfold B7L at h
  split at h
  ·rename_i hs
   split at h
   ·rename_i hc
    cases h
    obtain⟨c1,c2⟩:=B6h hc
    have hm:=hk _ (B4.2 rfl)
    refine⟨⟨_,rfl,fun y hy γ e1 ha hn hi=>?_⟩,⟨_,rfl,fun y hy γ e1 ha hn hi=>?_⟩⟩
    ·rw[B4.1 hy] at*
     obtain⟨h1,h2⟩:=A59 (σ:=sig x.n (Nat.max a.n b.n) l) (e2:=b.e) (s:=a.s) (s2:=b.s) (L:=L) hi.ag
     exact W.sub (hm γ e1 ha (E3 hn (Nat.le_max_left _ _)) ⟨h1,c1,c2⟩) h2
    ·rw[B4.1 hy] at*
     obtain⟨h1,h2⟩:=A4l (σ:=sig x.n (Nat.max a.n b.n) l) (e:=a.e) (s:=a.s) (s2:=b.s) (L:=L) (B9T hs) hi.ag
     refine W.sub (hm (γ.ren (sig x.n (Nat.max a.n b.n) l)) e1 ⟨fun k eY=>?_,fun k eY=>?_,ha.o⟩ (E3 hn (Nat.le_max_right _ _)) ⟨h1,c1,c2⟩) h2
     ·rw[ha.b k eY];simp only[As.ren,A8M eY]
     ·rw[ha.s k eY];simp only[As.ren,A8M eY]
   ·cases h
  ·cases h
 ·rename_i l r _
  cases h
  exact⟨⟨l,rfl,fun y hy=>hk y (J2 _ hy)⟩,⟨r,rfl,fun y hy=>hk y (List.mem_append_right _ hy)⟩⟩
 ·cases h
theorem B2Q{x:XT}{k:Env→HM ρ}:∀{l:List (Option (List XT))} {outs:List XT},B2R x l=some outs→(∀y∈outs,Ends L Q k β x.n y)→l≠[]∧∀o∈l,∃l',o=some l'∧∀y∈l',Ends L Q k β x.n y
 |[],_,h,_=>by cases h
 |[o],outs,h,hk=>⟨by simp,fun o' ho=>by rw[B4.1 ho];exact⟨outs,h,hk⟩⟩
 |o::o2::r,outs,h,hk=>by
  obtain⟨h1,l,h2,h3⟩:=B7I (show B5P x o (B2R x (o2::r))=some outs from h) hk
  obtain⟨-,h4⟩:=B2Q h2 h3
  refine⟨by simp,fun o' ho=>?_⟩
  rcases B9.1 ho with rfl|ho
  ·exact h1
  ·exact h4 o' ho
theorem B86:∀{l:List (HM ρ)} {L:List Asn},l≠[]→(∀m∈l,W L m Q)→W L (B80 l) Q
 |[],_,h,_=>absurd rfl h
 |[m],_,_,h=>h m (B4.2 rfl)
 |m::x::r,_,_,h=>A6z (h m (B7 ..)) (B86 (by simp) fun y hy=>h y (B8 _ hy))
theorem B25{f:XT→Option (List XT)}{o:Option (List XT)}{outs:List XT}(h:B26 f o=some outs):∃l,o=some l∧A7i f l=some outs:=by
 cases o with
 |none=>cases h
 |some l=>exact⟨l,rfl,h⟩
theorem B7D(hT:A1Y P T2)(hC:y9 P call)(ck:∀f,f∈C→Q0 P f){nt:Nat}{ops:Array Oper}{draw:Bool}{k:Env→HM ρ}:∀(t:k5) {x:XT} {outs:List XT} {β:As} {e0:Env} {dn0:U2},xT P T2 C call nt ops draw t x=some outs→B83 β x e0 dn0→
  (∀y∈outs,Ends L Q k β x.n y)→W (asn β x.s++L) (A9w P C nt ops draw t e0 x.d dn0 k) Q
 |.done,x,outs,β,e0,dn0,h,hI,hk=>by
  cases h
  exact hk x (B4.2 rfl) β e0 Agr.rfl (B5 _) hI.toInv
 |.q j t,x,outs,β,e0,dn0,h,hI,hk=>by
  obtain⟨l,h1,h2⟩:=B25 h
  simp only[A9w]
  refine B2L hT hC ck h1 hI fun y hy γ e1 gm ha hn hi=>?_
  obtain⟨a,h3,h4⟩:=A1o h2 y hy
  exact B7D hT hC ck t h3 hi fun z hz δ e2 hb eW gb=>hk z (h4 z hz) δ e2 (ha.trans hb hn) (E3 hn eW) gb
 |.br js f,x,outs,β,e0,dn0,h,hI,hk=>by
  have go:∀(j:Nat) (outs:List XT),B26 (xT P T2 C call nt ops draw (f j)) (B0m P T2 C call nt ops draw j x)=some outs→(∀y∈outs,Ends L Q k β x.n y)→
    W (asn β x.s++L) (A1O P C nt ops draw j e0 x.d dn0 fun e' d' dn'=>A9w P C nt ops draw (f j) e' d' dn' k) Q:=by
   intro j outs h hk
   obtain⟨l,h1,h2⟩:=B25 h
   refine B2L hT hC ck h1 hI fun y hy γ e1 gm ha hn hi=>?_
   obtain⟨a,h3,h4⟩:=A1o h2 y hy
   exact B7D hT hC ck (f j) h3 hi fun z hz δ e2 hb eW gb=>hk z (h4 z hz) δ e2 (ha.trans hb hn) (E3 hn eW) gb
  simp only[A9w]
  have h':B2R x (js.map fun j=>B26 (xT P T2 C call nt ops draw (f j)) (B0m P T2 C call nt ops draw j x))=some outs:=h
  obtain⟨bh,ak⟩:=B2Q h' hk
  refine B86 (fun he=>bh (by rw[List.map_eq_nil_iff] at he⊢;exact he)) fun y hy=>?_
  obtain⟨z,hz,rfl⟩:=H8.1 hy
  obtain⟨l,h1,h2⟩:=ak _ (H8.2 ⟨z,hz,rfl⟩)
  exact go z l h1 h2
end
end
section
open Go.H
inductive XEx where
 |norm|ret|exit (id:Nat)
def XEx.eq:XEx→XEx→Bool
 |.norm,.norm=>true
 |.ret,.ret=>true
 |.exit i,.exit j=>Nat.beq i j
 |_,_=>false
theorem XEx.eq_ok{a b:XEx}(h:XEx.eq a b=true):a=b:=by
 cases a<;>cases b<;>simp only[XEx.eq] at h<;>first|(cases h;done)|rfl|(rw[B0 h])
def XEx.aW:XEx→Exit
 |.norm=>.normal
 |.ret=>.ret
 |.exit i=>.exit i
structure XO where
 x:XEx
 e:T3
 n:Nat
 s:XSt
section
variable {DF:List Deferred} {L:List Asn} {P:Program} {T2:TypeId→Nat} {C:List Nat} {call:Nat→List XV→Nat→XSt→Option XR} {nt:Nat}
def A7Q(DF:List Deferred)(L:List Asn)(nt:Nat)(Ψ:Exit→Act→Heap→Prop)(β:As)(n:Nat)(o:XO):Prop:=
 ∀γ a' h' e1,Agr n β γ→n≤o.n→R6 DF nt e1 a'→Inv γ o.e o.n o.s e1→sat h' (asn γ o.s++L)→Ψ o.x.aW a' h'
def B8o(a b:XO):Option XO:=
 match XEx.eq a.x b.x with
 |true=>match C0g (Nat.max a.n b.n) (B04 id a.e b.e) (A3U id a.s b.s) with
  |true=>some ⟨a.x,B04 id a.e b.e,Nat.max a.n b.n,A3U id a.s b.s⟩
  |false=>none
 |false=>none
theorem B8n{a b m:XO}{Ψ:Exit→Act→Heap→Prop}{β:As}{n:Nat}(h:B8o a b=some m)(hm:A7Q DF L nt Ψ β n m):A7Q DF L nt Ψ β n a∧A7Q DF L nt Ψ β n b:=by
 unfold B8o at h
 split at h
 ·rename_i hx
  split at h
  ·rename_i hc
   cases h
   obtain⟨c1,c2⟩:=B6h hc
   have hx:=XEx.eq_ok hx
   refine⟨fun γ a' h' e1 ha hn hA hi hs=>?_,fun γ a' h' e1 ha hn hA hi hs=>?_⟩
   ·obtain⟨h1,h2⟩:=A59 (σ:=id) (e2:=b.e) (s:=a.s) (s2:=b.s) (L:=L) hi.ag
    exact hm γ a' h' e1 ha (E3 hn (Nat.le_max_left _ _)) hA ⟨h1,c1,c2⟩ (h2.s hs)
   ·obtain⟨h1,h2⟩:=A4l (σ:=id) (e:=a.e) (s:=a.s) (s2:=b.s) (L:=L) (fun i j h=>h) hi.ag
    have e:γ.ren id=γ:=B44 (fun _=>rfl) γ
    rw[e] at h1 h2
    have:=hm γ a' h' e1 ha (E3 hn (Nat.le_max_right _ _)) hA ⟨h1,c1,c2⟩ (h2.s hs)
    rw[←hx]
    exact this
  ·cases h
 ·cases h
def A62:List XO→List XO
 |[]=>[]
 |[a]=>[a]
 |a::b::r=>match A62 (b::r) with
  |[]=>[a]
  |m::r'=>match B8o a m with
   |some c=>c::r'
   |none=>a::m::r'
theorem B8p:∀(b:XO) (r:List XO),A62 (b::r)≠[]
 |b,[]=>by simp[A62]
 |b,c::r=>by
  simp only[A62]
  split
  ·simp
  ·split<;>simp
theorem B3F{Ψ:Exit→Act→Heap→Prop}{β:As}{n:Nat}:∀(l:List XO),(∀o∈A62 l,A7Q DF L nt Ψ β n o)→∀o∈l,A7Q DF L nt Ψ β n o
 |[],_,o,ho=>by cases ho
 |[a],h,o,ho=>h o ho
 |a::b::r,h,o,ho=>by
  simp only[A62] at h
  have key:A7Q DF L nt Ψ β n a∧∀o∈A62 (b::r),A7Q DF L nt Ψ β n o:=by
   split at h
   ·rename_i he;exact absurd he (B8p b r)
   ·rename_i m r' he
    split at h
    ·rename_i c hc
     obtain⟨h1,h2⟩:=B8n hc (h c (B7 ..))
     refine⟨h1,fun o ho=>?_⟩
     rw[he] at ho
     rcases B9.1 ho with rfl|ho
     ·exact h2
     ·exact h o (B8 _ ho)
    ·refine⟨h a (B7 ..),fun o ho=>?_⟩
     rw[he] at ho
     exact h o (B8 _ ho)
  rcases B9.1 ho with rfl|ho
  ·exact key.1
  ·exact B3F (b::r) key.2 o ho
def B9Q:List XT→List XO
 |[]=>[]
 |y::r=>⟨.norm,y.e,y.n,y.s⟩::B9Q r
theorem B24:∀{l:List XT} {y:XT},y∈l→⟨.norm,y.e,y.n,y.s⟩∈B9Q l
 |x::l,y,h=>by
  rcases B9.1 h with rfl|h
  ·exact B7 ..
  ·exact B8 _ (B24 h)
def B5O(P:Program)(T2:TypeId→Nat)(C:List Nat)(call:Nat→List XV→Nat→XSt→Option XR)(nt:Nat)(ops:Array Oper)(draw:Bool)(e:T3)(n:Nat)(s:XSt):Option (List XO):=
 match(match draw with
  |true=>A3m P ops (p6 P ops true)
  |false=>true) with
 |true=>match xT P T2 C call nt ops draw (p6 P ops draw) ⟨e,[],[],n,s⟩ with
  |some l=>some (B9Q l)
  |none=>none
 |false=>none
def B5Q(body:T3→Nat→XSt→Option (List XO)):Nat→T3→Nat→XSt→Option (List XO)
 |0,_,_,_=>none
 |f+1,e,n,s=>match body e n s with
  |some l=>A7i (fun o=>match o.x with
   |.norm=>B5Q body f o.e o.n o.s
   |_=>some [o]) l
  |none=>none
def B52(id:Nat)(o:XO):XO:=
 match o.x with
 |.exit i=>match Nat.beq i id with
  |true=>⟨.norm,o.e,o.n,o.s⟩
  |false=>o
 |_=>o
def o6(P:Program)(T2:TypeId→Nat)(C:List Nat)(call:Nat→List XV→Nat→XSt→Option XR)(nt lf:Nat):Code→T3→Nat→XSt→Option (List XO)
 |.skip,e,n,s=>some [⟨.norm,e,n,s⟩]
 |.label _,e,n,s=>some [⟨.norm,e,n,s⟩]
 |.region _ ops draw,e,n,s=>B5O P T2 C call nt ops draw e n s
 |.seq a b,e,n,s=>match o6 P T2 C call nt lf a e n s with
  |some l=>A7i (fun o=>match o.x with
   |.norm=>o6 P T2 C call nt lf b o.e o.n o.s
   |_=>some [o]) l
  |none=>none
 |.cond c a b,e,n,s=>match xev e c with
  |some (.bool true)=>o6 P T2 C call nt lf a e n s
  |some (.bool false)=>o6 P T2 C call nt lf b e n s
  |_=>none
 |.block id a,e,n,s=>match o6 P T2 C call nt lf a e n s with
  |some l=>some (l.map (B52 id))
  |none=>none
 |.loop a,e,n,s=>match B5Q (o6 P T2 C call nt lf a) lf e n s with
  |some l=>some (A62 l)
  |none=>none
 |.scope a,e,n,s=>o6 P T2 C call nt lf a e n s
 |.exit id,e,n,s=>some [⟨.exit id,e,n,s⟩]
 |.ret,e,n,s=>some [⟨.ret,e,n,s⟩]
 |_,_,_,_=>none
theorem A7Q.trans{Ψ:Exit→Act→Heap→Prop}{β γ:As}{n m:Nat}{o:XO}(h:A7Q DF L nt Ψ β n o)(ha:Agr n β γ)(hn:n≤m):A7Q DF L nt Ψ γ m o:=
 fun δ a' h' e1 hb hm hA hi hs=>h δ a' h' e1 (ha.trans hb hn) (E3 hn hm) hA hi hs
def C0K(DF:List Deferred)(P:Program)(nt:Nat)(f:T3→Nat→XSt→Option (List XO))(c:Code):Prop:=
 ∀(e:T3) (n:Nat) (s:XSt) (outs:List XO) (L:List Asn) (β:As) (a:Act) (h:Heap) (e0:Env) (Ψ:Exit→Act→Heap→Prop),f e n s=some outs→R6 DF nt e0 a→Inv β e n s e0→sat h (asn β s++L)→(∀o∈outs,A7Q DF L nt Ψ β n o)→HW P c a h Ψ
theorem B2S{body:T3→Nat→XSt→Option (List XO)}{c:Code}(hb:C0K DF P nt body c):∀f,∀(e:T3) (n:Nat) (s:XSt) (outs:List XO) (L:List Asn) (β:As) (a:Act) (h:Heap) (e0:Env) (Ψ:Exit→Act→Heap→Prop),B5Q body f e n s=some outs→R6 DF nt e0 a→Inv β e n s e0→sat h (asn β s++L)→(∀o∈outs,A7Q DF L nt Ψ β n o)→
  ∀w0 w,w.heap=h→Q7 w0 w→Code.rounds P c (fun x a' w'=>Q7 w0 w'∧Ψ x a' w'.heap) f a w
 |0,e,n,s,outs,L,β,a,h,e0,Ψ,hx,hA,hI,hs,hk,w0,w,hw,gX=>by cases hx
 |f+1,e,n,s,outs,L,β,a,h,e0,Ψ,hx,hA,hI,hs,hk,w0,w,hw,gX=>by
  simp only[B5Q] at hx
  split at hx
  ·rename_i l hl
   rw[rounds_succ]
   have:=hb e n s l L β a h e0 (fun ex a' h'=>match ex with
    |.normal=>∀w0 w,w.heap=h'→Q7 w0 w→Code.rounds P c (fun x a' w'=>Q7 w0 w'∧Ψ x a' w'.heap) f a' w
    |ex=>Ψ ex a' h') hl hA hI hs ?_
   ·refine wp_mono (this w hw) ?_
    rintro ex a' w' ⟨ah,hq⟩
    cases ex with
    |normal=>exact hq w0 w' rfl (gX.trans ah)
    |exit id=>exact⟨gX.trans ah,hq⟩
    |goto l=>exact⟨gX.trans ah,hq⟩
    |ret=>exact⟨gX.trans ah,hq⟩
    |panic ch=>exact⟨gX.trans ah,hq⟩
    |outgrown=>exact⟨gX.trans ah,hq⟩
   ·intro o ho γ a' h' e1 ha hn bk hi ah
    obtain⟨asZ,h1,h2⟩:=A1o hx o ho
    cases cn:o.x with
    |norm=>
     simp only[cn] at h1
     simp only[XEx.aW]
     exact B2S hb f o.e o.n o.s asZ L γ a' h' e1 Ψ h1 bk hi ah fun q hq=>(hk q (h2 q hq)).trans ha hn
    |ret=>
     simp only[cn] at h1
     cases h1
     simp only[XEx.aW]
     have:=hk o (h2 o (B4.2 rfl)) γ a' h' e1 ha hn bk hi ah
     rw[cn] at this
     exact this
    |exit i=>
     simp only[cn] at h1
     cases h1
     simp only[XEx.aW]
     have:=hk o (h2 o (B4.2 rfl)) γ a' h' e1 ha hn bk hi ah
     rw[cn] at this
     exact this
  ·cases hx
theorem A8t(hT:A1Y P T2)(hC:y9 P call)(hm:P.follows .mixedOrders=true)(ck:∀f,f∈C→Q0 P f){lf:Nat}:∀c,C0K DF P nt (o6 P T2 C call nt lf c) c:=by
 intro c
 induction c with
 |skip=>
  intro e n s outs L β a h e0 Ψ hx hA hI hs hk w hw
  cases hx
  subst hw
  exact wp_skip ⟨Q7.refl w,hk _ (B4.2 rfl) β a _ e0 Agr.rfl (B5 _) hA hI hs⟩
 |label l=>
  intro e n s outs L β a h e0 Ψ hx hA hI hs hk w hw
  cases hx
  subst hw
  exact wp_label ⟨Q7.refl w,hk _ (B4.2 rfl) β a _ e0 Agr.rfl (B5 _) hA hI hs⟩
 |exit id=>
  intro e n s outs L β a h e0 Ψ hx hA hI hs hk w hw
  cases hx
  subst hw
  exact wp_exit ⟨Q7.refl w,hk _ (B4.2 rfl) β a _ e0 Agr.rfl (B5 _) hA hI hs⟩
 |ret=>
  intro e n s outs L β a h e0 Ψ hx hA hI hs hk w hw
  cases hx
  subst hw
  exact wp_ret ⟨Q7.refl w,hk _ (B4.2 rfl) β a _ e0 Agr.rfl (B5 _) hA hI hs⟩
 |region id ops draw=>
  intro e n s outs L β a h e0 Ψ hx hA hI hs hk
  simp only[o6,B5O] at hx
  split at hx
  ·rename_i bz
   split at hx
   ·rename_i l hl
    cases hx
    have hd:=B7D (P:=P) (L:=L) (ρ:=Unit) (Q:=fun _ _=>True) (k:=fun e' h' _=>∃o∈B9Q l,∃γ,Agr n β γ∧n≤o.n∧Inv γ o.e o.n o.s e'∧sat h' (asn γ o.s++L)∧o.x=.norm) hT hC ck (p6 P ops draw) (dn0:=[]) (e0:=e0) (β:=β) hl ⟨hI,rfl,fun p hp=>by cases hp⟩
     (fun y hy γ e1 ha hn hi h' ah=>⟨_,B24 hy,γ,ha,hn,hi,ah,rfl⟩) h hs
    refine A3Q hm (fun fO=>by subst fO;exact bz) ?_
    refine A0a.imp ?_ _ _ _ _ (A2L ck (Go.H.dstsOf ops.toList) (fun o s ho hs=>A4r _ o s (by simpa using ho) hs) e0 _ e0 [] [] [] a h hd (Ext.refl _ _) hA (fun t b ht=>by cases ht) (fun _ p hp=>by cases hp) (fun _ p hp=>hp))
    rintro a' h' ⟨e',bk,-,o,ho,γ,ha,hn,hi,ah,cn⟩
    have:=hk o ho γ a' h' e' ha hn bk hi ah
    rw[cn] at this
    exact this
   ·cases hx
  ·cases hx
 |seq x y ihx ihy=>
  intro e n s outs L β a h e0 Ψ hx hA hI hs hk
  simp only[o6] at hx
  split at hx
  ·rename_i l hl
   have h1:=ihx e n s l L β a h e0 (fun ex a' h'=>match ex with|.normal=>HW P y a' h' Ψ|ex=>Ψ ex a' h') hl hA hI hs ?_
   ·intro w hw
    refine wp_seq (wp_mono (h1 w hw) ?_)
    rintro ex a' w' ⟨hs,hq⟩
    cases ex with
    |normal=>exact wp_mono (hq w' rfl) fun pj a2 w2 ⟨ai,hU⟩=>⟨hs.trans ai,hU⟩
    |exit id=>exact⟨hs,hq⟩
    |goto l=>exact⟨hs,hq⟩
    |ret=>exact⟨hs,hq⟩
    |panic ch=>exact⟨hs,hq⟩
    |outgrown=>exact⟨hs,hq⟩
   ·intro o ho γ a' h' e1 ha hn bk hi ah
    obtain⟨asZ,h1,h2⟩:=A1o hx o ho
    cases cn:o.x with
    |norm=>
     simp only[cn] at h1
     simp only[XEx.aW]
     exact ihy o.e o.n o.s asZ L γ a' h' e1 Ψ h1 bk hi ah fun q hq=>(hk q (h2 q hq)).trans ha hn
    |ret=>
     simp only[cn] at h1
     cases h1
     simp only[XEx.aW]
     have:=hk o (h2 o (B4.2 rfl)) γ a' h' e1 ha hn bk hi ah
     rw[cn] at this
     exact this
    |exit i=>
     simp only[cn] at h1
     cases h1
     simp only[XEx.aW]
     have:=hk o (h2 o (B4.2 rfl)) γ a' h' e1 ha hn bk hi ah
     rw[cn] at this
     exact this
  ·cases hx
 |cond c x y ihx ihy=>
  intro e n s outs L β a h e0 Ψ hx hA hI hs hk w hw
  simp only[o6] at hx
  split at hx
  ·rename_i hc
   refine wp_cond (t:=true) (hA.ev (O7 hI.ag hc)) ?_
   rw[if_pos rfl]
   exact ihx e n s outs L β a h e0 Ψ hx hA hI hs hk w hw
  ·rename_i hc
   refine wp_cond (t:=false) (hA.ev (O7 hI.ag hc)) ?_
   rw[if_neg (by simp)]
   exact ihy e n s outs L β a h e0 Ψ hx hA hI hs hk w hw
  ·cases hx
 |block id x ih=>
  intro e n s outs L β a h e0 Ψ hx hA hI hs hk
  simp only[o6] at hx
  split at hx
  ·rename_i l hl
   cases hx
   have h1:=ih e n s l L β a h e0 (A2d (some id) Ψ) hl hA hI hs ?_
   ·intro w hw
    refine wp_block (wp_mono (h1 w hw) ?_)
    rintro ex a' w' ⟨hs,hq⟩
    cases ex with
    |exit id'=>
     simp only[A2d] at hq
     simp only[Exit.inBlock]
     by_cases hid:id'=id
     ·subst hid;rw[if_pos rfl] at hq⊢;exact⟨hs,hq⟩
     ·rw[if_neg (by intro hh;cases hh;exact hid rfl)] at hq
      rw[if_neg hid]
      exact⟨hs,hq⟩
    |normal=>exact⟨hs,hq⟩
    |goto l=>exact⟨hs,hq⟩
    |ret=>exact⟨hs,hq⟩
    |panic ch=>exact⟨hs,hq⟩
    |outgrown=>exact⟨hs,hq⟩
   ·intro o ho γ a' h' e1 ha hn bk hi ah
    have hg:=hk _ (D6 ho)
    cases cn:o.x with
    |norm=>
     have:=hg γ a' h' e1
     simp only[B52,cn] at this
     exact this ha hn bk hi ah
    |ret=>
     have:=hg γ a' h' e1
     simp only[B52,cn] at this
     exact this ha hn bk hi ah
    |exit i=>
     have:=hg γ a' h' e1
     simp only[B52,cn] at this
     simp only[XEx.aW,A2d]
     by_cases hid:some id=some i
     ·cases hid
      rw[if_pos rfl]
      have hb:Nat.beq id id=true:=Nat.beq_refl id
      simp only[hb] at this
      exact this ha hn bk hi ah
     ·rw[if_neg hid]
      have hb:Nat.beq i id=false:=by
       cases hb:Nat.beq i id with
       |false=>rfl
       |true=>exact absurd (by rw[B0 hb]) hid
      simp only[hb,cn] at this
      exact this ha hn bk hi ah
  ·cases hx
 |loop x ih=>
  intro e n s outs L β a h e0 Ψ hx hA hI hs hk w hw
  simp only[o6] at hx
  split at hx
  ·rename_i l hl
   cases hx
   exact wp_loop_rounds lf (B2S ih lf e n s l L β a h e0 Ψ hl hA hI hs (B3F l hk) w w hw (Q7.refl _))
  ·cases hx
 |scope x ih=>
  intro e n s outs L β a h e0 Ψ hx hA hI hs hk w hw
  refine wp_scope_straight (wp_mono (ih e n s outs L β a h e0 (fun ex a' h'=>match ex with|.goto _=>False|ex=>Ψ ex a' h') hx hA hI hs (fun o ho γ a' h' e1 ha hn bk hi ah=>?_) w hw) ?_)
  ·have:=hk o ho γ a' h' e1 ha hn bk hi ah
   cases cn:o.x<;>rw[cn] at this<;>exact this
  ·rintro ex a' w' ⟨hs,hq⟩
   cases ex with
   |goto l=>exact hq.elim
   |exit id=>exact⟨hs,hq⟩
   |normal=>exact⟨hs,hq⟩
   |ret=>exact⟨hs,hq⟩
   |panic ch=>exact⟨hs,hq⟩
   |outgrown=>exact⟨hs,hq⟩
 |_=>intro e n s outs L β a h e0 Ψ hx;cases hx
end
end
section
open Go.H
section
variable {P:Program} {T2:TypeId→Nat} {C:List Nat}
def B2O(P:Program)(e:T3)(s:XSt):List ResultVar→Option (List XV)
 |[]=>some []
 |.tmp t::rs=>match e.get t with
  |some v=>match B2O P e s rs with
   |some vs=>some (v::vs)
   |none=>none
  |none=>none
 |.cell t ty::rs=>match e.get t with
  |some x=>match B5R P ty s x with
   |some v=>match B2O P e s rs with
    |some vs=>some (v::vs)
    |none=>none
   |none=>none
  |none=>none
theorem A7T{ρ:Type}{L:List Asn}{Q:ρ→Heap→Prop}{β:As}{e:T3}{s:XSt}{e0:Env}(hE:EAg β e e0):∀{rs:List ResultVar} {vs:List XV} {kk:C3E→HM ρ},B2O P e s rs=some vs→W (asn β s++L) (kk (vals β vs)) Q→W (asn β s++L) (A00 P e0 rs kk) Q
 |[],vs,kk,h,hk=>by cases h;exact hk
 |.tmp t::rs,vs,kk,h,hk=>by
  simp only[B2O] at h
  split at h
  ·rename_i v hv
   split at h
   ·rename_i us dv
    cases h
    simp only[A00,hE t v hv]
    exact A7T hE dv hk
   ·cases h
  ·cases h
 |.cell t ty::rs,vs,kk,h,hk=>by
  simp only[B2O] at h
  split at h
  ·rename_i x hx
   split at h
   ·rename_i v hv
    split at h
    ·rename_i us dv
     cases h
     simp only[A00,hE t x hx]
     exact B2T hv (A7T hE dv hk)
    ·cases h
   ·cases h
  ·cases h
def B50:List XV→XV
 |[v]=>v
 |vs=>.aQ vs
theorem B3x(β:As):∀vs,val β (B50 vs)=B0W (vals β vs)
 |[]=>rfl
 |[v]=>rfl
 |a::b::r=>rfl
def B7Q(P:Program)(rs:List ResultVar)(o:XO):Option XR:=
 match o.x with
 |.exit _=>none
 |_=>match B2O P o.e o.s rs with
  |some vs=>match S9 o.n vs with
   |true=>some (B50 vs,o.n,o.s)
   |false=>none
  |none=>none
def B8m(a b:XR):Option XR:=
 match a,b with
 |(v,n,s),(u,m,t)=>match xeq v u with
  |true=>match(A3U id s t).every (C0f (Nat.max n m)) id with
   |true=>some (v,Nat.max n m,A3U id s t)
   |false=>none
  |false=>none
def B2U(P:Program)(rs:List ResultVar):List XO→Option XR
 |[]=>none
 |[o]=>B7Q P rs o
 |o::p::r=>match B7Q P rs o with
  |some a=>match B2U P rs (p::r) with
   |some b=>B8m a b
   |none=>none
  |none=>none
def k6(L:List Asn)(Q:Value→Heap→Prop)(β:As)(n:Nat)(r:XR):Prop:=
 ∀γ,Agr n β γ→n≤r.2.1→O4 r.2.1 r.2.2→At (asn γ r.2.2++L) (Q (val γ r.1))
theorem B8l{L:List Asn}{Q:Value→Heap→Prop}{β:As}{n:Nat}{a b m:XR}(h:B8m a b=some m)(hm:k6 L Q β n m):k6 L Q β n a∧k6 L Q β n b:=by
 obtain⟨v,n1,s⟩:=a
 obtain⟨u,n2,t⟩:=b
 unfold B8m at h
 simp only at h
 split at h
 ·rename_i hx
  split at h
  ·rename_i hc
   cases h
   have hx:=A2n _ _ hx
   subst hx
   have cJ:O4 (Nat.max n1 n2) (A3U id s t):=fun k f hf=>by
    have:=A1g hc hf
    unfold C0f at this
    split at this
    ·rename_i hb;exact⟨by simpa using hb,this⟩
    ·cases this
   refine⟨fun γ ha hn dL=>?_,fun γ ha hn dL=>?_⟩
   ·obtain⟨-,h2⟩:=A59 (σ:=id) (γ:=γ) (e:=Tri.lf) (e2:=Tri.lf) (e0:=[]) (s:=s) (s2:=t) (L:=L) (fun t v hv=>by cases hv)
    exact At.sub (hm γ ha (E3 hn (Nat.le_max_left _ _)) cJ) h2
   ·obtain⟨-,h2⟩:=A4l (σ:=id) (γ:=γ) (e:=Tri.lf) (e2:=Tri.lf) (e0:=[]) (s:=s) (s2:=t) (L:=L) (fun i j h=>h) (fun t v hv=>by cases hv)
    have e:γ.ren id=γ:=B44 (fun _=>rfl) γ
    rw[e] at h2
    exact At.sub (hm γ ha (E3 hn (Nat.le_max_right _ _)) cJ) h2
  ·cases h
 ·cases h
theorem A8q{L:List Asn}{Q:Value→Heap→Prop}{β:As}{n:Nat}{rs:List ResultVar}:∀{l:List XO} {r:XR},B2U P rs l=some r→k6 L Q β n r→∀o∈l,∃a,B7Q P rs o=some a∧k6 L Q β n a
 |[],r,h,hr,o,ho=>by cases ho
 |[p],r,h,hr,o,ho=>by rw[B4.1 ho];exact⟨r,h,hr⟩
 |p::q::l,r,h,hr,o,ho=>by
  simp only[B2U] at h
  split at h
  ·rename_i a ha
   split at h
   ·rename_i b hb
    obtain⟨h1,h2⟩:=B8l h hr
    rcases B9.1 ho with rfl|ho
    ·exact⟨a,ha,h1⟩
    ·exact A8q hb h2 o ho
   ·cases h
  ·cases h
def B7s:List XV→Nat→T3→T3
 |[],_,e=>e
 |v::r,i,e=>B7s r (i+1) (add i v e)
theorem A2Z:∀{l:List XV} {i:Nat} {e:T3} {t:Nat} {v:XV},(B7s l i e).get t=some v→(∃j,t=i+j∧l[j]? =some v)∨e.get t=some v
 |[],i,e,t,v,h=>.inr h
 |u::r,i,e,t,v,h=>by
  simp only[B7s] at h
  rcases A2Z h with⟨j,rfl,hj⟩|h2
  ·exact .inl ⟨j+1,by omega,by simpa using hj⟩
  ·clear h
   simp only[add] at h2
   rw[A0S (i+1) e i t u (G4 _)] at h2
   split at h2
   ·rename_i ht;subst ht;cases h2;exact .inl ⟨0,rfl,rfl⟩
   ·exact .inr h2
theorem A32:∀(l:C3E) (i j:Nat) (v:Value),l[j]? =some v→Env.get ((l.zipIdx i).map fun(v,i)=>(i,v)) (i+j)=some v
 |[],i,j,v,h=>by simp at h
 |u::l,i,0,v,h=>by
  simp only[List.zipIdx_cons,B6,Env.get]
  rw[show Nat.beq i (i+0)=true from Nat.beq_refl i]
  simpa using h
 |u::l,i,j+1,v,h=>by
  simp only[List.zipIdx_cons,B6,Env.get]
  have:Nat.beq i (i+(j+1))=false:=by
   cases hb:Nat.beq i (i+(j+1)) with
   |false=>rfl
   |true=>have:=B0 hb;omega
  rw[this]
  have:=A32 l (i+1) j v (by simpa using h)
  rwa[show i+1+j=i+(j+1) from by omega] at this
theorem B36{f:FuncId}{fn:Func}{c:Code}{args:C3E}{h:Heap}{Q:Value→Heap→Prop}(hf:P.funcs[f]? =some fn)(hc:fn.body=some c)
  (hd:HW P c {tmps:=args.toArray++Array.replicate (fn.ntmps-args.toArray.size) undef,defers:=[]} h (fun ex a' h'=>match ex with
   |.normal=>a'.defers=[]∧∃v,(∀w',w'.heap=h'→(results fn a'.tmps).run P w'=.ok v w')∧Q v h'
   |.ret=>a'.defers=[]∧∃v,(∀w',w'.heap=h'→(results fn a'.tmps).run P w'=.ok v w')∧Q v h'
   |_=>False)):N9 P f args.toArray h Q:=by
 intro w hw
 subst hw
 refine calls_of_wp hf hc ?_
 refine wp_mono (hd w rfl) ?_
 rintro ex a' w' ⟨hs,hq⟩
 cases ex with
 |normal=>
  obtain⟨cQ,v,hv,hq⟩:=hq
  exact⟨cQ,v,hv w' rfl,v,rfl,hs,hq⟩
 |ret=>
  obtain⟨cQ,v,hv,hq⟩:=hq
  exact⟨cQ,v,hv w' rfl,v,rfl,hs,hq⟩
 |exit id=>exact hq.elim
 |goto l=>exact hq.elim
 |panic ch=>exact hq.elim
 |outgrown=>exact hq.elim
def B7T(P:Program)(T2:TypeId→Nat)(C:List Nat)(call:Nat→List XV→Nat→XSt→Option XR)(lf:Nat)(f:Nat)(args:List XV)(n:Nat)(s:XSt):Option XR:=
 match P.funcs.toList[f]? with
 |some fn=>match fn.body with
  |some c=>match Nat.ble args.length fn.ntmps with
   |true=>match o6 P T2 C call fn.ntmps lf c (B7s args 0 .lf) n s with
    |some l=>B2U P fn.results.toList l
    |none=>none
   |false=>none
  |none=>none
 |none=>none
abbrev B9h:=Nat→Option (List XV→Nat→XSt→Option XR)
def B6m(P:Program)(dB:B9h):Prop:=
 ∀f g,dB f=some g→∀args n s v n' s',g args n s=some (v,n',s')→O4 n s→S9 n args=true→∀(β:As) (L:List Asn) (Q:Value→Heap→Prop),k6 L Q β n (v,n',s')→FW P f (vals β args).toArray (asn β s++L) Q
theorem B7S(hT:A1Y P T2){call:Nat→List XV→Nat→XSt→Option XR}(hC:y9 P call)(hm:P.follows .mixedOrders=true)(ck:∀f,f∈C→Q0 P f){lf f n:Nat}{args:List XV}{s:XSt}{r:XR}(h:B7T P T2 C call lf f args n s=some r)(ae:O4 n s)(bK:S9 n args=true)
  (β:As)(L:List Asn)(Q:Value→Heap→Prop)(hk:k6 L Q β n r):FW P f (vals β args).toArray (asn β s++L) Q:=by
 unfold B7T at h
 split at h
 ·rename_i fn hf
  split at h
  ·rename_i c hc
   split at h
   ·rename_i hlen
    split at h
    ·rename_i l hl
     intro h0 hs
     have cf:P.funcs[f]? =some fn:=by simpa using hf
     refine B36 cf hc ?_
     have hle:=B1 hlen
     have nh:(vals β args).length=args.length:=V6 β args
     have hA:A2g fn.ntmps ((vals β args).zipIdx.map fun(v,i)=>(i,v)) {tmps:=(vals β args).toArray++Array.replicate (fn.ntmps-(vals β args).toArray.size) undef,defers:=[]}:=by
      refine⟨by simp[nh];omega,rfl,fun t v ht=>?_⟩
      obtain⟨-,h2⟩:=A5n (vals β args) 0 t v ht
      simp only[Nat.sub_zero] at h2
      have af:t<(vals β args).length:=by
       rcases I7 t (vals β args).length with hh|hh
       ·exact hh
       ·rw[List.getElem?_eq_none hh] at h2;cases h2
      simp[Array.getElem?_append,af,h2]
      rw[B2 af] at h2
      exact L7 h2
     refine A8t hT hC hm ck c _ n s l L β _ h0 _ _ hl hA ⟨fun t v hv=>?_,fun t v hv=>?_,ae⟩ hs fun o ho γ a' h' e1 ha hn bk hi ah=>?_
     ·rcases A2Z hv with⟨j,rfl,hj⟩|hv
      ·exact A32 _ 0 j _ (A8D hj)
      ·cases hv
     ·rcases A2Z hv with⟨j,rfl,hj⟩|hv
      ·exact A2V.1 bK v (E5 hj)
      ·cases hv
     ·obtain⟨a,h1,h2⟩:=A8q h hk o ho
      unfold B7Q at h1
      have fin:∀vs,B2O P o.e o.s fn.results.toList=some vs→S9 o.n vs=true→(B50 vs,o.n,o.s)=a→a'.defers=[]∧∃v,(∀w',w'.heap=h'→(results fn a'.tmps).run P w'=.ok v w')∧Q v h':=by
       intro vs al gi e
       subst e
       have hd:=A7T (P:=P) (L:=L) (ρ:=Unit) (Q:=fun _ _=>True) (kk:=fun us h2 _=>us=vals γ vs∧sat h2 (asn γ o.s++L)) hi.ag al (fun h2 ai=>⟨rfl,ai⟩) h' ah
       obtain⟨us,bL,rfl,-⟩:=Z4 bk _ _ hd
       refine⟨bk.defers,B0W (vals γ vs),fun w' dr=>by subst dr;exact A2u bL,?_⟩
       have:=h2 γ ha hn hi.cs h' ah
       simp only[B3x] at this
       exact this
      cases cn:o.x with
      |exit i=>simp only[cn] at h1;cases h1
      |norm=>
       simp only[cn] at h1
       simp only[XEx.aW]
       split at h1
       ·rename_i vs al
        split at h1
        ·rename_i gi;cases h1;exact fin vs al gi rfl
        ·cases h1
       ·cases h1
      |ret=>
       simp only[cn] at h1
       simp only[XEx.aW]
       split at h1
       ·rename_i vs al
        split at h1
        ·rename_i gi;cases h1;exact fin vs al gi rfl
        ·cases h1
       ·cases h1
    ·cases h
   ·cases h
  ·cases h
 ·cases h
end
end
section
open Go.H
section
variable {P:Program} {T2:TypeId→Nat} {C:List Nat}
def B31(c:Code):Option (Array Oper×Array Oper×Code):=
 match c with
 |.seq (.region _ o1 false) (.seq (.region _ o2 false) rest)=>some (o1,o2,rest)
 |_=>none
def B5t(l:List Oper):Option (Nat×List Operand×Nat):=
 match l with
 |[a,b]=>match a.guard,b.guard,a.dst,b.dst with
  |none,none,some t,none=>match a.op,b.op with
   |.makeFunc (.func g) first cap,.defer c=>match first.toList,c.callee,c.args.toList with
    |[],.value (.tmp t'),[]=>match Nat.beq t t' with
     |true=>some (g,cap.toList,t)
     |false=>none
    |_,_,_=>none
   |_,_=>none
  |_,_,_,_=>none
 |_=>none
def B1Z(g:Nat)(caps:C3D):Deferred:={target:=.fn (.func g) caps,args:=#[]}
theorem B9j{id:Nat}{ops:Array Oper}{g t:Nat}{cap:List Operand}{a:Act}{h:Heap}{Ψ:Exit→Act→Heap→Prop}(hd:B5t ops.toList=some (g,cap,t))(ht:t<a.tmps.size)
  (hk:Ψ .normal {(a.put (some t) (.func (.func g) #[] (cap.map a.eval).toArray)) with defers:=B1Z g (cap.map a.eval).toArray::a.defers} h):HW P (.region id ops false) a h Ψ:=by
 intro w hw
 subst hw
 unfold B5t at hd
 split at hd
 ·rename_i x y aJ
  split at hd
  ·rename_i t0 qI fN qS dk
   split at hd
   ·rename_i g' first cap' c kN nb
    split at hd
    ·rename_i t' hf hc ha
     split at hd
     ·rename_i hb
      cases hd
      have hb:=B0 hb
      subst hb
      have e0:ops=#[x,y]:=D3.1 aJ
      subst e0
      have cf:first=#[]:=D3.1 hf
      have ed:c.args=#[]:=D3.1 ha
      subst cf
      refine wp_region ?_
      have e1:(List.range (#[x,y]:Array Oper).size)=[0,1]:=rfl
      rw[e1]
      simp only[wpOps,show(#[x,y]:Array Oper)[0]? =some x from rfl,show(#[x,y]:Array Oper)[1]? =some y from rfl]
      rw[if_pos (by simp[Region.wanted,qI])]
      refine .inl ?_
      unfold Oper.wp
      have r1:(execOp a.eval x).run P w=.ok (.value (.func (.func g) #[] (cap'.map a.eval))) w:=by
       simp[execOp,kN,Instr.makeFunc]
      rw[r1,Oper.upon_value,qS]
      rw[if_pos (by simp[Region.wanted,fN])]
      refine .inl ?_
      have iv:(a.put (some t) (.func (.func g) #[] (cap'.map a.eval))).eval (.tmp t)=.func (.func g) #[] (cap'.map a.eval):=by
       simp[Act.eval,Act.put,ht]
      have r2:(execOp (a.put (some t) (.func (.func g) #[] (cap'.map a.eval))).eval y).run P w=.ok (.defer (B1Z g (cap'.map a.eval))) w:=by
       simp[execOp,nb,resolve,hc,iv,ed,B1Z,Deferred.ofValue]
      rw[r2,Oper.upon_defer,dk]
      refine⟨Q7.refl w,?_⟩
      have e2:(cap'.toList.map a.eval).toArray=cap'.map a.eval:=D3.1 (by rw[Array.toList_map])
      rw[e2] at hk
      exact hk
     ·cases hd
    ·cases hd
   ·cases hd
  ·cases hd
 ·cases hd
def B4l(P:Program)(idle:Nat→Bool):Prop:=
 ∀g,idle g=true→Q0 P g∧∀(caps:C3D) (w:World),caps.size=2→CallsD P g caps .returning w fun e u' w'=>(∃v,e=.returned v)∧u'=.returning∧w'=w
def B4H(P:Program)(T2:TypeId→Nat)(C:List Nat)(call:Nat→List XV→Nat→XSt→Option XR)(idle:Nat→Bool)(lf:Nat)(f:Nat)(args:List XV)(n:Nat)(s:XSt):Option XR:=
 match P.funcs.toList[f]? with
 |some fn=>match fn.body with
  |some c=>match B31 c with
   |some (o1,o2,rest)=>match Nat.ble args.length fn.ntmps with
    |true=>match o6 P T2 C call fn.ntmps lf (.region 0 o1 false) (B7s args 0 .lf) n s with
     |some [o]=>match o.x with
      |.norm=>match B5t o2.toList with
       |some (g,cap,t)=>match idle g with
        |true=>match Nat.blt t fn.ntmps with
         |true=>match A8k o.e cap with
          |some us=>match S9 o.n us with
           |true=>match Nat.beq us.length 2 with
            |true=>match o6 P T2 C call fn.ntmps lf rest (A8n o.e (some t) (.func g [] us)) o.n o.s with
             |some l=>B2U P fn.results.toList l
             |none=>none
            |false=>none
           |false=>none
          |none=>none
         |false=>none
        |false=>none
       |none=>none
      |_=>none
     |_=>none
    |false=>none
   |none=>none
  |none=>none
 |none=>none
theorem A64{idle:Nat→Bool}(hid:B4l P idle){g:Nat}(hg:idle g=true){fn:Func}{tmps:C3D}{R:Ending→World→Prop}{caps:C3D}(jV:caps.size=2){w:World}{v:Value}(hr:(results fn tmps).run P w=.ok v w)(hR:R (.returned v) w):
  Leaves P fn tmps R [B1Z g caps] .returning w:=by
 obtain⟨h1,h2⟩:=hid g hg
 refine leaves_cons (f:=g) (args:=#[]++caps) (by simp) (h1 _ w) ((h2 _ w (by simpa using jV)).mono ?_)
 rintro e u' w' ⟨⟨v',rfl⟩,rfl,rfl⟩
 exact⟨v,hr,hR⟩
theorem B2A{idle:Nat→Bool}(hid:B4l P idle){g:Nat}(hg:idle g=true){f:FuncId}{fn:Func}{c:Code}{args:C3E}{h:Heap}{Q:Value→Heap→Prop}(hf:P.funcs[f]? =some fn)(hc:fn.body=some c)
  (hd:HW P c {tmps:=args.toArray++Array.replicate (fn.ntmps-args.toArray.size) undef,defers:=[]} h (fun ex a' h'=>match ex with
   |.normal=>(∃caps,caps.size=2∧a'.defers=[B1Z g caps])∧∃v,(∀w',w'.heap=h'→(results fn a'.tmps).run P w'=.ok v w')∧Q v h'
   |.ret=>(∃caps,caps.size=2∧a'.defers=[B1Z g caps])∧∃v,(∀w',w'.heap=h'→(results fn a'.tmps).run P w'=.ok v w')∧Q v h'
   |_=>False)):N9 P f args.toArray h Q:=by
 intro w hw
 subst hw
 refine calls_of_wp_defers hf hc ?_
 refine wp_mono (hd w rfl) ?_
 rintro ex a' w' ⟨hs,hq⟩
 cases ex with
 |normal=>
  obtain⟨⟨caps,jV,cQ⟩,v,hv,hq⟩:=hq
  simp only[bodyPostD,cQ]
  exact A64 hid hg jV (hv w' rfl) ⟨v,rfl,hs,hq⟩
 |ret=>
  obtain⟨⟨caps,jV,cQ⟩,v,hv,hq⟩:=hq
  simp only[bodyPostD,cQ]
  exact A64 hid hg jV (hv w' rfl) ⟨v,rfl,hs,hq⟩
 |exit id=>exact hq.elim
 |goto l=>exact hq.elim
 |panic ch=>exact hq.elim
 |outgrown=>exact hq.elim
theorem B9i{x y:Code}{a:Act}{h:Heap}{Ψ:Exit→Act→Heap→Prop}(h1:HW P x a h (fun ex a' h'=>match ex with|.normal=>HW P y a' h' Ψ|ex=>Ψ ex a' h')):HW P (.seq x y) a h Ψ:=by
 intro w hw
 refine wp_seq (wp_mono (h1 w hw) ?_)
 rintro ex a' w' ⟨hs,hq⟩
 cases ex with
 |normal=>exact wp_mono (hq w' rfl) fun pj a2 w2 ⟨ai,hU⟩=>⟨hs.trans ai,hU⟩
 |exit id=>exact⟨hs,hq⟩
 |goto l=>exact⟨hs,hq⟩
 |ret=>exact⟨hs,hq⟩
 |panic ch=>exact⟨hs,hq⟩
 |outgrown=>exact⟨hs,hq⟩
theorem B6C(hT:A1Y P T2){call:Nat→List XV→Nat→XSt→Option XR}(hC:y9 P call)(hm:P.follows .mixedOrders=true)(ck:∀f,f∈C→Q0 P f){idle:Nat→Bool}(hid:B4l P idle){lf f n:Nat}{args:List XV}{s:XSt}{r:XR}(h:B4H P T2 C call idle lf f args n s=some r)(ae:O4 n s)(bK:S9 n args=true)
  (β:As)(L:List Asn)(Q:Value→Heap→Prop)(hk:k6 L Q β n r):FW P f (vals β args).toArray (asn β s++L) Q:=by
 unfold B4H at h
 split at h
 ·rename_i fn hf
  split at h
  ·rename_i c hc
   split at h
   ·rename_i o1 o2 rest hp
    split at h
    ·rename_i hlen
     split at h
     ·rename_i o ij
      split at h
      ·rename_i cn
       split at h
       ·rename_i g cap t qQ
        split at h
        ·rename_i hg
         split at h
         ·rename_i qi
          split at h
          ·rename_i us dv
           split at h
           ·rename_i qg
            split at h
            case h_2=>cases h
            rename_i mN
            have mN:=B0 mN
            split at h
            ·rename_i l hl
             intro h0 hs
             obtain⟨i1,i2,rfl⟩:∃i1 i2,c=.seq (.region i1 o1 false) (.seq (.region i2 o2 false) rest):=by
              unfold B31 at hp
              split at hp
              ·cases hp;exact⟨_,_,rfl⟩
              ·cases hp
             have cf:P.funcs[f]? =some fn:=by simpa using hf
             refine B2A hid hg cf hc ?_
             have hle:=B1 hlen
             have nh:(vals β args).length=args.length:=V6 β args
             have hA:A2g fn.ntmps ((vals β args).zipIdx.map fun(v,i)=>(i,v)) {tmps:=(vals β args).toArray++Array.replicate (fn.ntmps-(vals β args).toArray.size) undef,defers:=[]}:=by
              refine⟨by simp[nh];omega,rfl,fun t v ht=>?_⟩
              obtain⟨-,h2⟩:=A5n (vals β args) 0 t v ht
              simp only[Nat.sub_zero] at h2
              have af:t<(vals β args).length:=by
               rcases I7 t (vals β args).length with hh|hh
               ·exact hh
               ·rw[List.getElem?_eq_none hh] at h2;cases h2
              simp[Array.getElem?_append,af,h2]
              rw[B2 af] at h2
              exact L7 h2
             refine B9i ?_
             refine A8t (lf:=lf) hT hC hm ck (.region i1 o1 false) _ n s [o] L β _ h0 _ _ ij hA ⟨fun t v hv=>?_,fun t v hv=>?_,ae⟩ hs fun o' ho γ a' h' e1 ha hn bk hi ah=>?_
             ·rcases A2Z hv with⟨j,rfl,hj⟩|hv
              ·exact A32 _ 0 j _ (A8D hj)
              ·cases hv
             ·rcases A2Z hv with⟨j,rfl,hj⟩|hv
              ·exact A2V.1 bK v (E5 hj)
              ·cases hv
             ·rw[B4.1 ho] at*
              rw[cn]
              simp only[XEx.aW]
              refine B9i ?_
              have ox:t<fn.ntmps:=by simpa using qi
              have iv:=l3 hi.ag dv
              have nB:cap.map a'.eval=vals γ us:=bk.cH iv
              refine B9j qQ (by rw[bk.size];exact ox) ?_
              rw[nB]
              have qJ:Value.func (.func g) #[] (vals γ us).toArray=val γ (.func g [] us):=rfl
              rw[qJ]
              have rK:R6 [B1Z g (vals γ us).toArray] fn.ntmps (e1.put (some t) (val γ (.func g [] us))) {(a'.put (some t) (val γ (.func g [] us))) with defers:=B1Z g (vals γ us).toArray::a'.defers}:=by
               have h3:=bk.put (dst:=some t) (fun s hs=>by cases hs;exact ox) (val γ (.func g [] us))
               refine⟨h3.size,?_,h3.get⟩
               show _::a'.defers=_
               rw[bk.defers]
              refine A8t hT hC hm ck rest _ o.n o.s l L γ _ h' _ _ hl rK ⟨hi.ag.set (some t) _,A6q hi.ce (B5 _) (by simp only[clo,S9];exact qg),hi.cs⟩ ah fun gB nb δ a2 h2 e2 hb eW pd gb ai=>?_
              obtain⟨a3,h1,rO⟩:=A8q h hk gB nb
              unfold B7Q at h1
              have fin:∀vs,B2O P gB.e gB.s fn.results.toList=some vs→S9 gB.n vs=true→(B50 vs,gB.n,gB.s)=a3→(∃caps,caps.size=2∧a2.defers=[B1Z g caps])∧∃v,(∀w',w'.heap=h2→(results fn a2.tmps).run P w'=.ok v w')∧Q v h2:=by
               intro vs al gi e
               subst e
               have hd:=A7T (P:=P) (L:=L) (ρ:=Unit) (Q:=fun _ _=>True) (kk:=fun us h2 _=>us=vals δ vs∧sat h2 (asn δ gB.s++L)) gb.ag al (fun h2 ai=>⟨rfl,ai⟩) h2 ai
               obtain⟨us',bL,rfl,-⟩:=Z4 pd _ _ hd
               refine⟨⟨_,by simp[V6,mN],pd.defers⟩,B0W (vals δ vs),fun w' dr=>by subst dr;exact A2u bL,?_⟩
               have:=rO δ (ha.trans hb hn) (E3 hn eW) gb.cs h2 ai
               simp only[B3x] at this
               exact this
              cases hX:gB.x with
              |exit i=>simp only[hX] at h1;cases h1
              |norm=>
               simp only[hX] at h1
               simp only[XEx.aW]
               split at h1
               ·rename_i vs al
                split at h1
                ·rename_i gi;cases h1;exact fin vs al gi rfl
                ·cases h1
               ·cases h1
              |ret=>
               simp only[hX] at h1
               simp only[XEx.aW]
               split at h1
               ·rename_i vs al
                split at h1
                ·rename_i gi;cases h1;exact fin vs al gi rfl
                ·cases h1
               ·cases h1
            ·cases h
           ·cases h
          ·cases h
         ·cases h
        ·cases h
       ·cases h
      ·cases h
     ·cases h
    ·cases h
   ·cases h
  ·cases h
 ·cases h
structure B84 where
 dB:B9h
 dI:Nat→Bool
 idle:Nat→Bool
def told(o:Option (List XV→Nat→XSt→Option XR))(args:List XV)(n:Nat)(s:XSt):Option XR:=
 match o with
 |some g=>g args n s
 |none=>none
def A8u(P:Program)(T2:TypeId→Nat)(C:List Nat)(G:B84)(lf:Nat):Nat→Nat→List XV→Nat→XSt→Option XR
 |0,_,_,_,_=>none
 |k+1,f,args,n,s=>match S9 n args with
  |true=>match told (G.dB f) args n s with
   |some r=>some r
   |none=>match G.dI f with
    |false=>B7T P T2 C (A8u P T2 C G lf k) lf f args n s
    |true=>B4H P T2 C (A8u P T2 C G lf k) G.idle lf f args n s
  |false=>none
theorem A04(hT:A1Y P T2)(hm:P.follows .mixedOrders=true)(ck:∀f,f∈C→Q0 P f){G:B84}(hH:B6m P G.dB)(hid:B4l P G.idle){lf:Nat}:∀k,y9 P (A8u P T2 C G lf k)
 |0=>fun f args n s v n' s' h=>by cases h
 |k+1=>fun f args n s v n' s' h ae β L Q hq=>by
  simp only[A8u] at h
  split at h
  ·rename_i bK
   split at h
   ·rename_i r hr
    cases h
    unfold told at hr
    split at hr
    ·rename_i g hg
     exact hH f g hg args n s v n' s' hr ae bK β L Q hq
    ·cases hr
   ·split at h
    ·exact B7S hT (A04 hT hm ck hH hid k) hm ck h ae bK β L Q hq
    ·exact B6C hT (A04 hT hm ck hH hid k) hm ck hid h ae bK β L Q hq
  ·cases h
end
end
end Go.X
namespace Go.Proofs.YtmpgankhnfpoaaaGreatDoor
open Go.H
open Go.Proofs.Tryz
section
open Go.Shelf Go.RowKit Go.Proofs
section
variable {P:Program} {ρ:Ren}
theorem B5x(L:Lays.n240 P ρ)(X:Builder.X72 P ρ){b n:Nat}{E:TypeId}{w:World}(h0:w.cell? ⟨b,0,none⟩=some (.pointer none))(gE:w.shape? b=some (E,n))(hn:0<n)(hl:liesAt P P.depth E (n / P.cellsOf E) 0 (ρ.t 72) 1=true)(jN:w.frozen? ⟨b,0,none⟩=false):
  Calls P (ρ.f 240) #[.pointer (some ⟨b,0,none⟩)] w fun e w'=>e=.returned (.tuple #[])∧w'=w.setCell ⟨b,0,none⟩ (.pointer (some ⟨b,0,none⟩)):=by
 obtain⟨j,hj,qD⟩:=Option.map_eq_some_iff.1 X.sizeBuilder
 have mixed:=L.mixed
 have v72:=L.v72;have oc:=run_underlying L.t72;have z72:=L.z72;have a72:=L.a72;have t72:=L.t72
 have v70:=L.v70;have od:=run_underlying L.t70;have z70:=L.z70;have a70:=L.a70;have t70:=L.t70
 have v9:=L.v9;have u9:=run_underlying L.t9;have z9:=L.z9;have a9:=L.a9;have t9:=L.t9
 have v4:=L.v4;have u4:=run_underlying L.t4;have z4:=L.z4;have a4:=L.a4;have t4:=L.t4
 have v164:=L.v164;have pL:=run_underlying L.t164;have z164:=L.z164;have a164:=L.a164;have t164:=L.t164
 go_enter L.f240,Body.n240_ntmps ρ
 go_wp2
 rw[Lib.run_to_unsafe w ⟨b,0,none⟩ L.t70 L.t164 hj (by rw[qD];decide) gE hn]
 simp only[Result.andThen]
 rw[Oper.upon_value]
 go_wp2
 rw[run_callFunc_extern L.f276 (by kernel_rfl) (by kernel_rfl) (by kernel_rfl) (e:=Extern.AbiNoEscape.same) (by kernel_rfl),Lib.run_noEscape]
 simp only[Result.andThen]
 rw[Oper.upon_value]
 go_wp2
 rw[Lib.run_from_unsafe w ⟨b,0,none⟩ L.t164 L.t70 hj gE hl]
 simp only[Result.andThen]
 rw[Oper.upon_value]
 go_wp2
 go_end0
 exact⟨rfl,rfl⟩
end
end
section
open Go.Shelf Go.RowKit Go.Proofs
section
variable {P:Program} {ρ:Ren}
def B9p(g:Nat)(w w':World):Prop:=w'.os=w.os∧w'.tape=w.tape∧w'.output=w.output∧∀k,k≠g→w'.heap[k]? =w.heap[k]?
theorem B0e(w:World)(a:Addr)(n:Nat):B9p a.block w (w.drew.freeze a n):=by
 unfold World.freeze
 split
 ·exact⟨rfl,rfl,rfl,fun _ _=>rfl⟩
 ·refine⟨rfl,rfl,rfl,fun k hk=>?_⟩
  simp only[G7]
  rw[if_neg (fun e=>hk e.symm)]
  rfl
theorem B6K(L:Lays.n169 P ρ)(X:Builder.Extra P ρ){b g cap:Nat}{cur:C3D}{l:List UInt8}{w:World}(h0:l≠[])(hc:w.cell? ⟨b,1,none⟩=some (.slice (some ⟨g,0,none⟩) l.length cap))
  (hg:w.heap[g]? =some (.cells cur (ρ.t 5) (0,0)))(ib:l.length≤cap)(sK:cap≤9223372036854775807)(cJ:cur.size=cap)(hb:∀j (x:UInt8),l[j]? =some x→w.cell? ((⟨g,0,none⟩:Addr).add j)=some (.int .u8 x.toNat)):
  Calls P (ρ.f 169) #[.pointer (some ⟨b,0,none⟩)] w fun e w'=>e=.returned (.string ⟨l.toArray⟩)∧B9p g w w':=by
 have oL:l.length≠0:=by simpa using h0
 have c1:w.drew.cell? ⟨b,1,none⟩=some (.slice (some ⟨g,0,none⟩) l.length cap):=hc
 have rp:(Builtin.unsafeSliceData_ #[(ρ.t 37)] (ρ.t 127) #[.slice (some ⟨g,0,none⟩) l.length cap]).run P w.drew=.ok (.pointer (some ⟨g,0,none⟩)) w.drew:=
  Lib.run_unsafeSliceData_row _ _ _ _ _ _ (by omega)
 have rn:(Builtin.unsafeString_ #[(ρ.t 127),(ρ.t 3)] (ρ.t 9) #[.pointer (some ⟨g,0,none⟩),.int .i64 l.length]).run P w.drew=.ok (.string ⟨l.toArray⟩) (w.drew.freeze ⟨g,0,none⟩ l.length):=by
  have iu:w.drew.heap[g]? =some (.cells cur (ρ.t 5) (0,0)):=hg
  exact Lib.run_unsafeString_row w.drew (ρ.t 127) (ρ.t 3) (ρ.t 9) (ρ.t 5) L.t127 X.cellsByte g cur.size (by simp[World.shape?,iu]) l h0 (by omega) (by omega) hb
 have mixed:=L.mixed
 have v72:=L.v72;have oc:=run_underlying L.t72;have z72:=L.z72;have a72:=L.a72;have t72:=L.t72
 have v70:=L.v70;have od:=run_underlying L.t70;have z70:=L.z70;have a70:=L.a70;have t70:=L.t70
 have v37:=L.v37;have pK:=run_underlying L.t37;have z37:=L.z37;have a37:=L.a37;have t37:=L.t37
 have v127:=L.v127;have mB:=run_underlying L.t127;have z127:=L.z127;have a127:=L.a127;have t127:=L.t127
 have v3:=L.v3;have u3:=run_underlying L.t3;have z3:=L.z3;have a3:=L.a3;have t3:=L.t3
 have v9:=L.v9;have u9:=run_underlying L.t9;have z9:=L.z9;have a9:=L.a9;have t9:=L.t9
 have v5:=X.v5;have u5:=run_underlying X.t5;have z5:=X.z5;have a5:=X.a5;have t5:=X.t5
 go_enter L.f169,Body.n169_ntmps ρ
 go_wp2
 go_region_o
 all_goals(go_wp2;go_ret;exact⟨rfl,B0e w ⟨g,0,none⟩ _⟩)
theorem B6J(L:Lays.n169 P ρ)(X:Builder.Extra P ρ){b:Nat}{w:World}(hc:w.cell? ⟨b,1,none⟩=some (.slice none 0 0)):
  Calls P (ρ.f 169) #[.pointer (some ⟨b,0,none⟩)] w fun e w'=>e=.returned (.string .empty)∧w'=w.drew:=by
 have c1:w.drew.cell? ⟨b,1,none⟩=some (.slice none 0 0):=hc
 have rp:(Builtin.unsafeSliceData_ #[(ρ.t 37)] (ρ.t 127) #[.slice none 0 0]).run P w.drew=.ok (.pointer none) w.drew:=
  Lib.run_unsafeSliceData_nil _ _ _ _ _
 have rn:(Builtin.unsafeString_ #[(ρ.t 127),(ρ.t 3)] (ρ.t 9) #[.pointer none,.int .i64 0]).run P w.drew=.ok (.string .empty) w.drew:=
  Lib.run_unsafeString_none _ _ _ _ _
 have mixed:=L.mixed
 have v72:=L.v72;have oc:=run_underlying L.t72;have z72:=L.z72;have a72:=L.a72;have t72:=L.t72
 have v70:=L.v70;have od:=run_underlying L.t70;have z70:=L.z70;have a70:=L.a70;have t70:=L.t70
 have v37:=L.v37;have pK:=run_underlying L.t37;have z37:=L.z37;have a37:=L.a37;have t37:=L.t37
 have v127:=L.v127;have mB:=run_underlying L.t127;have z127:=L.z127;have a127:=L.a127;have t127:=L.t127
 have v3:=L.v3;have u3:=run_underlying L.t3;have z3:=L.z3;have a3:=L.a3;have t3:=L.t3
 have v9:=L.v9;have u9:=run_underlying L.t9;have z9:=L.z9;have a9:=L.a9;have t9:=L.t9
 have v5:=X.v5;have u5:=run_underlying X.t5;have z5:=X.z5;have a5:=X.a5;have t5:=X.t5
 go_enter L.f169,Body.n169_ntmps ρ
 go_wp2
 go_region_o
 all_goals(go_wp2;go_ret;exact⟨rfl,rfl⟩)
end
end
open Go.H Go.X Go.Proofs Go.Shelf Go.RowKit
theorem B9V{g:Nat}{o:Obj}{h h':Heap}{R:List Asn}(hs:sat h (blk g o::R))(hk:∀k,k≠g→h'[k]? =h[k]?):sat h' R:=by
 obtain⟨m,h1,a,r,hd,rfl,ha,hr⟩:=hs
 have hG:r g=none:=by
  rcases hd g with h2|h2
  ·rw[ha] at h2;cases h2
  ·exact h2
 refine⟨r,fun k x hx=>?_,hr⟩
 rw[hk k (fun e=>by subst e;rw[hG] at hx;cases hx)]
 exact(A5g h1 hd).2 k x hx
def C2R(k:Nat):XV→Bool
 |.nptr=>true
 |.ptr j o=>match Nat.beq j k with
  |true=>Nat.beq o 0
  |false=>false
 |_=>false
noncomputable def B2l(args:List XV)(n:Nat)(s:XSt):Option XR:=
 match args with
 |[.ptr k 0]=>match pick k s with
  |some (.cells T (p::rest),r)=>match C2R k p with
   |true=>match liesAt prog (Program.depth prog) T ((rest.length+1) / Program.cellsOf prog T) 0 (j7.t 72) 1 with
    |true=>some (.aQ [],n,back k (.cells T (.ptr k 0::rest)) r)
    |false=>none
   |false=>none
  |_=>none
 |_=>none
theorem B5m{args:List XV}{n n':Nat}{s s':XSt}{v:XV}(h:B2l args n s=some (v,n',s'))(ae:O4 n s)(bK:S9 n args=true)(β:As)(L:List Asn)(Q:Value→Heap→Prop)(hq:k6 L Q β n (v,n',s')):
  FW prog 180 (vals β args).toArray (asn β s++L) Q:=by
 unfold B2l at h
 split at h
 ·rename_i k
  split at h
  ·rename_i T p rest r hp
   split at h
   ·rename_i jW
    split at h
    ·rename_i hl
     cases h
     intro h0 hs w hw
     subst hw
     have qz:k<n:=(ae _ _ (S5 hp).1).1
     have bP:=(ae _ _ (S5 hp).1).2
     have cg:O4 n (back k (.cells T (.ptr k 0::rest)) r):=ae.put hp (by
      simp only[A1S,S9] at bP⊢
      split at bP
      ·simp only[clo,show Nat.blt k n=true by simpa using qz];exact bP
      ·cases bP)
     have aa:sat w.heap (blk (β.b k) (.cells (vals β (p::rest)).toArray T (0,0))::(asn β r++L)):=(P3 (β:=β) (L:=L) hp).s hs
     have hg:=aa.get
     have fin:∀h',sat h' (blk (β.b k) (.cells (vals β (.ptr k 0::rest)).toArray T (0,0))::(asn β r++L))→Q (.tuple #[]) h':=fun h' ah=>
      hq β Agr.rfl (B5 _) cg h' ((S3 (β:=β) (L:=L) hp _).s ah)
     cases p<;>simp only[C2R] at jW<;>try(cases jW;done)
     ·refine(B5x {A68 with} A67.toX72 (b:=β.b k) (n:=rest.length+1) (E:=T) (w:=w) (by simp[World.cell?,hg,vals,val]) (by simp[World.shape?,hg,vals,V6]) (by omega) hl (by simp[World.frozen?,hg])).mono ?_
      rintro e w' ⟨rfl,rfl⟩
      refine⟨_,rfl,⟨rfl,rfl,rfl⟩,fin _ ?_⟩
      have:=A5D aa 0 (val β (.ptr k 0))
      simp only[vals,List.setIfInBounds_toArray,List.set_cons_zero] at this
      exact this
     ·rename_i j o
      split at jW
      ·rename_i hj
       have hj:=B0 hj
       have ho:=B0 jW
       subst hj ho
       refine(Any.Builder_copyCheck_used {A68 with} A67.toX72 (β.b j) w (by simp[World.cell?,hg,vals,val,A2Y])).mono ?_
       rintro e w' ⟨rfl,rfl⟩
       exact⟨_,rfl,⟨rfl,rfl,rfl⟩,fin _ aa⟩
      ·cases jW
    ·cases h
   ·cases h
  ·cases h
 ·cases h
def B2B:List Int→Bool
 |[]=>true
 |x::r=>match decide (0≤x) with
  |true=>match decide (x<256) with
   |true=>B2B r
   |false=>false
  |false=>false
theorem B1o:∀{l:List Int},B2B l=true→∀x∈l,0≤x∧x<256
 |[],_,x,hx=>by cases hx
 |y::l,h,x,hx=>by
  simp only[B2B] at h
  split at h
  ·rename_i h1
   split at h
   ·rename_i h2
    rcases B9.1 hx with rfl|hx
    ·exact⟨of_decide_eq_true h1,of_decide_eq_true h2⟩
    ·exact B1o h x hx
   ·cases h
  ·cases h
theorem B8U(ns:List Int):P1 ns=⟨(ns.map fun n:Int=>UInt8.ofNat n.toNat).toArray⟩:=by
 have inj:∀{x y:B1q},x.data.toList=y.data.toList→x=y:=fun{x y} h=>by
  cases x;cases y
  simp at h
  rw[h]
 have:∀(ns:List Int) (r:B1q),(ns.foldl (fun r n=>r.push (UInt8.ofNat n.toNat)) r).data.toList=r.data.toList++ns.map fun n=>UInt8.ofNat n.toNat:=by
  intro ns
  induction ns with
  |nil=>intro r;simp
  |cons n ns ih=>intro r;rw[List.foldl_cons,ih];simp
 refine inj ?_
 unfold P1
 rw[this]
 rfl
def A9k(args:List XV)(n:Nat)(s:XSt):Option XR:=
 match args with
 |[.ptr k 0]=>match Go.X.look k s with
  |some (.cells _ (_:: .nslc::_))=>some (.str (P1 []),n,s)
  |some (.cells _ (_:: .slc j::_))=>match pick j s with
   |some (.buf t (b::br),r)=>match Nat.beq t (j7.t 5) with
    |true=>match B2B (b::br) with
     |true=>match Nat.beq j k with
      |true=>none
      |false=>some (.str (P1 (b::br)),n,r)
     |false=>none
    |false=>none
   |_=>none
  |_=>none
 |_=>none
theorem B3M{args:List XV}{n n':Nat}{s s':XSt}{v:XV}(h:A9k args n s=some (v,n',s'))(ae:O4 n s)(bK:S9 n args=true)(β:As)(L:List Asn)(Q:Value→Heap→Prop)(hq:k6 L Q β n (v,n',s')):
  FW prog 75 (vals β args).toArray (asn β s++L) Q:=by
 unfold A9k at h
 split at h
 ·rename_i k
  split at h
  ·rename_i T p rest hl
   cases h
   intro h0 hs w hw
   subst hw
   obtain⟨R,aa⟩:=P0 (L:=L) hl hs
   have hg:=sat.get (show sat w.heap (blk (β.b k) (.cells (vals β (p:: .nslc::rest)).toArray T (0,0))::R) from aa)
   refine(B6J (ρ:=j7) {A68 with} A67 (b:=β.b k) (w:=w) (by simp[World.cell?,hg,vals,val])).mono ?_
   rintro e w' ⟨rfl,rfl⟩
   exact⟨_,rfl,⟨rfl,rfl,rfl⟩,hq β Agr.rfl (B5 _) ae _ hs⟩
  ·rename_i T p j rest hl
   split at h
   ·rename_i t b br r hp
    split at h
    ·rename_i ht
     split at h
     ·rename_i hb
      split at h
      ·cases h
      ·rename_i sF
       cases h
       intro h0 hs w hw
       subst hw
       have ht:=B0 ht
       subst ht
       have hx:=B1o hb
       have aa:sat w.heap (A6s (j7.t 5) (β.s j) (b::br)::(asn β s'++L)):=(P3 (β:=β) (L:=L) hp).s hs
       obtain⟨R,iP⟩:=P0 (L:=L) hl hs
       have hg:=sat.get (show sat w.heap (blk (β.b k) (.cells (vals β (p:: .slc j::rest)).toArray T (0,0))::R) from iP)
       rcases r6 aa with⟨e1,e2,-⟩|⟨g,cur,hf,ai⟩
       ·cases e2
       have ir:=ai.get
       have eu:((b::br).map fun x:Int=>UInt8.ofNat x.toNat).length=(β.s j).len:=by rw[C9,hf.len]
       refine(B6K (ρ:=j7) {A68 with} A67 (b:=β.b k) (g:=g) (cap:=(β.s j).cap) (cur:=cur) (l:=(b::br).map fun x:Int=>UInt8.ofNat x.toNat) (w:=w) (by simp) ?_ ir (by rw[eu];exact hf.le) hf.cap hf.size ?_).mono ?_
       ·rw[eu,←hf.a]
        simp[World.cell?,hg,vals,val]
       ·intro i x hi
        have qK:=hf.front
        have kF:((b::br).map (Value.int .u8))[i]? =some (.int .u8 x.toNat):=by
         rw[H6] at hi⊢
         cases dc:(b::br)[i]? with
         |none=>rw[dc] at hi;cases hi
         |some y=>
          rw[dc] at hi
          simp only[F3,C3] at hi⊢
          subst hi
          obtain⟨h1,h2⟩:=hx y (E5 dc)
          simp only[UInt8.toNat_ofNat']
          congr 1
          omega
        rw[←qK,G9] at kF
        split at kF
        ·simp only[World.cell?,Addr.aO,F5,ir]
         simpa using kF
        ·cases kF
       ·rintro e w' ⟨rfl,h1,h2,h3,h4⟩
        have e1:(⟨((b::br).map fun x:Int=>UInt8.ofNat x.toNat).toArray⟩:B1q)=P1 (b::br):=(B8U _).symm
        rw[e1]
        exact⟨_,rfl,⟨h1,h2,h3⟩,hq β Agr.rfl (B5 _) (ae.rest hp) _ (B9V ai h4)⟩
     ·cases h
    ·cases h
   ·cases h
  ·cases h
 ·cases h
end Go.Proofs.YtmpgankhnfpoaaaGreatDoor
namespace Go.X
open Go.H
section
variable {P:Program} {T2:TypeId→Nat} {C:List Nat}
theorem C2Q:∀f,f∈([]:List Nat)→Q0 P f:=fun f hf=>by cases hf
theorem M9{a:Nat}{l:List Nat}(h:Q0 P a)(hl:∀f,f∈l→Q0 P f):∀f,f∈a::l→Q0 P f:=fun f hf=>by
 rcases B9.1 hf with rfl|hf
 ·exact h
 ·exact hl f hf
def cL:Code→Code
 |.seq a _=>a
 |_=>.skip
def cR:Code→Code
 |.seq _ b=>b
 |_=>.skip
def C3t:Code→Array Oper
 |.region _ o _=>o
 |_=>#[]
def B68(r:Option (List XO)):XO:=
 match r with
 |some [o]=>o
 |_=>⟨.norm,.lf,0,.lf⟩
end
end Go.X
namespace Go.Proofs.YtmpgankhnfpoaaaGreatDoor
open Go.H
open Go.Proofs.Tryz
section
open Go.H Go.X Go.Proofs
theorem B5A(w:World):(Instr.typeAssert .nilIface 20 436 true).run prog w=.ok (.tuple #[.int .u8 0,.bool false]) w:=by
 have mz:=zeroValue436
 have mC:=run_underlying underlying436
 simp[Instr.typeAssert,mz,mC]
theorem B69(p q:Value)(w:World):CallsD prog 264 #[p,q] .returning w fun e u' w'=>e=.returned (.tuple #[])∧u'=.returning∧w'=w:=by
 refine callsD_of_wpS func264 rfl fun c₀ cs hu=>?_
 apply wpS_seq
 apply wpS_region
 simp[wpOpsS,go_sem,recoverD,hu,Exit.thenS,B5A]
 apply wpS_seq
 apply wpS_region
 simp[wpOpsS,go_sem,Exit.thenS]
 refine wpS_cond (t:=false) (by simp[Act.eval,Array.replicate]) ?_
 simp only[F4,if_false]
 refine wpS_of_wp (wp_skip ?_)
 cases c₀
 simp_all [bodyPostS,results]
abbrev chain(n:Int):List PanicEntry:=[{v:=.iface 436 (.int .u8 n),recovered:=false}]
section
variable {P:Program} {ops:Array Oper} {Q:Exit→Act→List Frame→World→Prop} {i:Nat} {rest:List Nat} {a:Act} {cs:List Frame} {w w':World} {o:Oper}
end
theorem B5a:prog.follows .mixedOrders=true:=by kernel_rfl
abbrev noT:TypeId→Nat:=fun _=>0
abbrev noC:Nat→List XV→Nat→XSt→Option XR:=fun _ _ _ _=>none
noncomputable def hB:Code:=A6t f265
noncomputable def hr0:Option (List XO):=o6 prog noT [] noC (Func.ntmps f265) 0 (cL hB) (B7s [.int .i64 0] 0 .lf) 0 .lf
noncomputable def hr1:Option (List XO):=o6 prog noT [] noC (Func.ntmps f265) 0 (cL (cR hB)) (B68 hr0).e (B68 hr0).n (B68 hr0).s
noncomputable def hR:Array Oper:=C3t (cL (cR (cR hB)))
noncomputable def hY:Option (List XT):=xT prog noT [] noC (Func.ntmps f265) hR false (k5.ofList [0,1,2]) ⟨(B68 hr1).e,[],[],(B68 hr1).n,(B68 hr1).s⟩
theorem B6L(L:List Asn):∀(A:List Asn),Go.H.Sub (A++L) L:=fun A=>by
 induction A with
 |nil=>exact M4
 |cons a A ih=>exact M7 ih
end
open Go.H Go.Proofs Go.Shelf
def B1a:Go.Shelf.Ren:=⟨fun n=>match n with|7=>116|10=>193|n=>n,fun n=>match n with|23=>269|26=>3|3=>4|28=>240|0=>0|27=>239|33=>186|4=>4|n=>n,fun n=>n⟩
theorem C2z:SlLaysZI.n7 prog B1a where
 mixed:=by kernel_rfl
 f7:=⟨f116.name,by kernel_rfl,func116.trans (congrArg some (by kernel_rfl))⟩
 f10:=⟨f193.name,by kernel_rfl,func193.trans (congrArg some (by kernel_rfl))⟩
 t0:=underlying0
 a0:=isAgg0
 z0:=sizeOf0
 v0:=zeroValue0
 t4:=underlying4
 a4:=isAgg4
 z4:=sizeOf4
 v4:=zeroValue4
 t23:=underlying269
 a23:=isAgg269
 z23:=sizeOf269
 v23:=zeroValue269
 t26:=underlying3
 a26:=isAgg3
 z26:=sizeOf3
 v26:=zeroValue3
 t27:=underlying239
 a27:=isAgg239
 z27:=sizeOf239
 v27:=zeroValue239
 t28:=underlying240
 a28:=isAgg240
 z28:=sizeOf240
 v28:=zeroValue240
 t33:=underlying186
 a33:=isAgg186
 z33:=sizeOf186
 v33:=zeroValue186
def A6J:Go.Shelf.Ren:=⟨fun n=>match n with|6=>85|8=>166|9=>167|11=>239|13=>238|12=>240|23=>315|24=>316|14=>317|15=>318|16=>319|17=>320|18=>321|19=>322|20=>323|21=>324|22=>325|25=>391|26=>387|27=>388|28=>392|29=>393|30=>162|31=>429|n=>n,fun n=>match n with|26=>3|28=>240|24=>97|0=>0|3=>3|37=>180|48=>495|50=>497|4=>4|40=>489|39=>488|45=>402|5=>5|9=>9|51=>553|55=>557|57=>584|58=>585|33=>186|n=>n,fun n=>n⟩
theorem B9S:SlLaysZI.n6 prog A6J where
 mixed:=by kernel_rfl
 f6:=⟨f85.name,by kernel_rfl,func85.trans (congrArg some (by kernel_rfl))⟩
 f8:=⟨Tryz.f166.name,by kernel_rfl,func166.trans (congrArg some (by kernel_rfl))⟩
 f11:=⟨f239.name,by kernel_rfl,func239.trans (congrArg some (by kernel_rfl))⟩
 t0:=underlying0
 a0:=isAgg0
 z0:=sizeOf0
 v0:=zeroValue0
 t24:=underlying97
 a24:=isAgg97
 z24:=sizeOf97
 v24:=zeroValue97
 t26:=underlying3
 a26:=isAgg3
 z26:=sizeOf3
 v26:=zeroValue3
 t28:=underlying240
 a28:=isAgg240
 z28:=sizeOf240
 v28:=zeroValue240
 i26:=by kernel_rfl
def A8J:Go.Shelf.Ren:=⟨fun n=>match n with|5=>167|8=>238|7=>240|19=>315|20=>316|10=>317|11=>318|12=>319|13=>320|14=>321|15=>322|16=>323|17=>324|18=>325|30=>391|31=>387|32=>388|33=>392|34=>393|35=>162|40=>429|n=>n,fun n=>match n with|23=>97|25=>3|3=>3|32=>180|22=>97|0=>0|44=>495|46=>497|4=>4|36=>489|35=>488|41=>402|5=>5|9=>9|53=>553|57=>557|63=>584|64=>585|n=>n,fun n=>n⟩
theorem C00:SlLaysM.n5 prog A8J where
 mixed:=by kernel_rfl
 f5:=⟨f167.name,by kernel_rfl,func167.trans (congrArg some (by kernel_rfl))⟩
 f7:=⟨Tryz.f240.name,by kernel_rfl,func240.trans (congrArg some (by kernel_rfl))⟩
 f8:=func238.trans (congrArg some (by kernel_rfl))
 f10:=⟨f317.name,by kernel_rfl,func317.trans (congrArg some (by kernel_rfl))⟩
 f11:=⟨f318.name,by kernel_rfl,func318.trans (congrArg some (by kernel_rfl))⟩
 f12:=⟨f319.name,by kernel_rfl,func319.trans (congrArg some (by kernel_rfl))⟩
 f13:=⟨f320.name,by kernel_rfl,func320.trans (congrArg some (by kernel_rfl))⟩
 f14:=⟨f321.name,by kernel_rfl,func321.trans (congrArg some (by kernel_rfl))⟩
 f15:=⟨f322.name,by kernel_rfl,func322.trans (congrArg some (by kernel_rfl))⟩
 f16:=⟨f323.name,by kernel_rfl,func323.trans (congrArg some (by kernel_rfl))⟩
 f17:=⟨f324.name,by kernel_rfl,func324.trans (congrArg some (by kernel_rfl))⟩
 f18:=⟨f325.name,by kernel_rfl,func325.trans (congrArg some (by kernel_rfl))⟩
 f19:=func315.trans (congrArg some (by kernel_rfl))
 f20:=func316.trans (congrArg some (by kernel_rfl))
 f30:=⟨f391.name,by kernel_rfl,func391.trans (congrArg some (by kernel_rfl))⟩
 f31:=func387.trans (congrArg some (by kernel_rfl))
 f32:=func388.trans (congrArg some (by kernel_rfl))
 f33:=⟨f392.name,by kernel_rfl,func392.trans (congrArg some (by kernel_rfl))⟩
 f34:=⟨f393.name,by kernel_rfl,func393.trans (congrArg some (by kernel_rfl))⟩
 f35:=⟨f162.name,by kernel_rfl,func162.trans (congrArg some (by kernel_rfl))⟩
 f40:=⟨f429.name,by kernel_rfl,func429.trans (congrArg some (by kernel_rfl))⟩
 t0:=underlying0
 a0:=isAgg0
 z0:=sizeOf0
 v0:=zeroValue0
 t3:=underlying3
 a3:=isAgg3
 z3:=sizeOf3
 v3:=zeroValue3
 t4:=underlying4
 a4:=isAgg4
 z4:=sizeOf4
 v4:=zeroValue4
 t5:=underlying5
 a5:=isAgg5
 z5:=sizeOf5
 v5:=zeroValue5
 t9:=underlying9
 a9:=isAgg9
 z9:=sizeOf9
 v9:=zeroValue9
 t22:=underlying97
 a22:=isAgg97
 z22:=sizeOf97
 v22:=zeroValue97
 t23:=underlying97
 a23:=isAgg97
 z23:=sizeOf97
 v23:=zeroValue97
 t25:=underlying3
 a25:=isAgg3
 z25:=sizeOf3
 v25:=zeroValue3
 t32:=underlying180
 a32:=isAgg180
 z32:=sizeOf180
 v32:=zeroValue180
 t35:=underlying488
 a35:=isAgg488
 z35:=sizeOf488
 v35:=zeroValue488
 t36:=underlying489
 a36:=isAgg489
 z36:=sizeOf489
 v36:=zeroValue489
 t41:=underlying402
 a41:=isAgg402
 z41:=sizeOf402
 v41:=zeroValue402
 t44:=underlying495
 a44:=isAgg495
 z44:=sizeOf495
 v44:=zeroValue495
 t46:=underlying497
 a46:=isAgg497
 z46:=sizeOf497
 v46:=zeroValue497
 t53:=underlying553
 a53:=isAgg553
 z53:=sizeOf553
 v53:=zeroValue553
 t57:=underlying557
 a57:=isAgg557
 z57:=sizeOf557
 v57:=zeroValue557
 t63:=underlying584
 a63:=isAgg584
 z63:=sizeOf584
 v63:=zeroValue584
 t64:=underlying585
 a64:=isAgg585
 z64:=sizeOf585
 v64:=zeroValue585
end Go.Proofs.YtmpgankhnfpoaaaGreatDoor
namespace Go.X
open Go.H
theorem C1c{α α':Type}{enc:α→C3E}{enc':α'→C3E}{size:Nat}{s:Slc}{xs:List α}{ys:List α'}{h:Heap}{R:List Asn}(hs:sat h (N4 enc size s xs::R))(hl:xs.length=ys.length)(hf:xs.flatMap enc=ys.flatMap enc'):sat h (N4 enc' size s ys::R):=by
 rcases V1 hs with⟨h1,h2,rfl,aa⟩|⟨b,o,cs,ho,aa⟩
 ·have:ys=[]:=H9 (by simpa using hl.symm)
  subst this
  obtain⟨a,l,c⟩:=s
  simp only at h1 h2
  subst h1 h2
  exact j4 aa
 ·exact W8 ⟨ho.a,ho.le,by rw[ho.len,hl],ho.bQ,by rw[ho.front,hf]⟩ aa
theorem A5l{α:Type}{enc:α→C3E}{size n:Nat}{s:XSt}{β:As}{L:List Asn}{Q:Value→Heap→Prop}{xs:List α}{rows:List (List XV)}{sl:Slc}{h:Heap}(ae:O4 n s)(h0:0<size)(hr:rows.map (vals β)=xs.map enc)
  (h1:∀l∈rows,l.length=size∧∀v∈vals β l,v.oneCell'=true)(hc:∀m,e7 m rows=true)(hq:k6 L Q β n (.slc n,n+1,add n (.own size rows) s))(hs:sat h (N4 enc size sl xs::(asn β s++L))):Q (.slice sl.a sl.len sl.cap) h:=by
 obtain⟨ys,hx⟩:=B1V (β:=β) (size:=size) (es:=rows) h1
 have qL:xs.flatMap enc=ys.flatMap (vsV (size:=size)):=by
  rw[A76 hx,hr];rfl
 have hlen:xs.length=ys.length:=by
  have e1:=congrArg List.length hx
  have e2:=congrArg List.length hr
  simp only[C9] at e1 e2
  omega
 have fu:=C1c (enc':=vsV (size:=size)) hs hlen qL
 have ft:=A0p (L:=L) ae hx (hc n) h0 fu
 have:=hq (β.aR n sl) W5 (E7 _) (ae.new (g:=.own size rows) (hc _)) h ft
 simp only[val,As.aR,if_true] at this
 exact this
end Go.X
namespace Go.Proofs.YtmpgankhnfpoaaaGreatDoor
open Go.H
open Go.Proofs.Tryz
section
open Go.H Go.X Go.Proofs Go.Shelf Go.RowKit
def B64(x:Int):List Int→List Int
 |[]=>[x]
 |y::r=>match decide (x≤y) with
  |true=>x::y::r
  |false=>y::B64 x r
def A6d:List Int→List Int
 |[]=>[]
 |x::r=>B64 x (A6d r)
theorem A6g(x:Int):∀l,(B64 x l).Perm (x::l)
 |[]=>J0 _
 |y::r=>by
  simp only[B64]
  split
  ·exact J0 _
  ·exact((A6g x r).cons y).trans (List.Perm.swap x y r)
theorem A7a:∀l,(A6d l).Perm l
 |[]=>J0 _
 |x::r=>(A6g x _).trans ((A7a r).cons x)
theorem B3L(x:Int):∀l:List Int,l.Pairwise (·≤ ·)→(B64 x l).Pairwise (·≤ ·)
 |[],_=>List.pairwise_singleton _ _
 |y::r,h=>by
  obtain⟨h1,h2⟩:=K9.1 h
  simp only[B64]
  split
  ·rename_i hx
   have hx:=of_decide_eq_true hx
   refine K9.2 ⟨fun z hz=>?_,h⟩
   rcases B9.1 hz with rfl|hz
   ·exact hx
   ·exact Int.le_trans hx (h1 z hz)
  ·rename_i hx
   have hx:=E0 hx
   refine K9.2 ⟨fun z hz=>?_,B3L x r h2⟩
   rcases B9.1 ((A6g x r).mem_iff.1 hz) with rfl|hz
   ·omega
   ·exact h1 z hz
theorem A9i:∀l:List Int,(A6d l).Pairwise (·≤ ·)
 |[]=>List.Pairwise.nil
 |x::r=>B3L x _ (A9i r)
theorem B3w:∀{a b:List Int},a.Perm b→a.Pairwise (·≤ ·)→b.Pairwise (·≤ ·)→a=b
 |[],b,h,_,_=>h.nil_eq
 |x::a,[],h,_,_=>absurd h.length_eq (by simp)
 |x::a,y::b,h,ha,hb=>by
  obtain⟨h1,h2⟩:=K9.1 ha
  obtain⟨h3,h4⟩:=K9.1 hb
  have e:x=y:=by
   rcases B9.1 (h.mem_iff.1 (B7 ..)) with e|hx
   ·exact e
   ·rcases B9.1 (h.mem_iff.2 (B7 ..)) with e|hy
    ·exact e.symm
    ·exact Int.le_antisymm (h1 y hy) (h3 x hx)
  subst e
  rw[B3w h.cons_inv h2 h4]
theorem B72(l:List Int):A8K l=A6d l:=by
 refine B3w ((List.mergeSort_perm l _).trans (A7a l).symm) ?_ (A9i l)
 refine(List.pairwise_mergeSort (fun a b c h1 h2=>?_) (fun a b=>?_) l).imp fun{a b} h=>of_decide_eq_true h
 ·exact decide_eq_true (Int.le_trans (of_decide_eq_true h1) (of_decide_eq_true h2))
 ·rcases Int.le_total a b with h|h<;>simp[h]
def wfI:List Int→Bool
 |[]=>true
 |x::r=>match decide (-9223372036854775808≤x) with
  |true=>match decide (x≤9223372036854775807) with
   |true=>wfI r
   |false=>false
  |false=>false
def B62{K:Type}:List (K×XV)→List K
 |[]=>[]
 |(k,_)::r=>k::B62 r
theorem B2c{K:Type}:∀l:List (K×XV),B62 l=l.map (·.1)
 |[]=>rfl
 |(k,v)::r=>by simp only[B62,B6,B2c r]
def B3k:List Int→List (List XV)
 |[]=>[]
 |k::r=>[.int .i64 k]::B3k r
theorem B7W:∀{l:List Int},wfI l=true→∀x∈l,-9223372036854775808≤x∧x≤9223372036854775807
 |[],_,x,hx=>by cases hx
 |y::l,h,x,hx=>by
  simp only[wfI] at h
  split at h
  ·rename_i h1
   split at h
   ·rename_i h2
    rcases B9.1 hx with rfl|hx
    ·exact⟨of_decide_eq_true h1,of_decide_eq_true h2⟩
    ·exact B7W h x hx
   ·cases h
  ·cases h
theorem B0F(β:As):∀l:List Int,(B3k l).map (vals β)=l.map eI
 |[]=>rfl
 |k::r=>by simp only[B3k,B6,B0F β r];rfl
theorem B3j(n:Nat):∀l:List Int,e7 n (B3k l)=true
 |[]=>rfl
 |k::r=>by simp only[B3k,e7,S9,clo];exact B3j n r
def A9l(gs:List Nat)(args:List XV)(n:Nat)(s:XSt):Option XR:=
 match args with
 |[.func g [] [.ptr x 0]]=>match X2 g gs with
  |true=>match Go.X.look x s with
   |some (.cells _ [.map m])=>match pick m (unw (.map m) s) with
    |some (.mapI es,r)=>match wfI (B62 es) with
     |true=>match Nat.ble es.length 1000000 with
      |true=>some (.slc n,n+1,add n (.own 1 (B3k (A6d (B62 es)))) (unw (.map m) s))
      |false=>none
     |false=>none
    |_=>none
   |_=>none
  |false=>none
 |_=>none
def B4k(g:Nat):Prop:=∃ρk,SlLaysZI.n7 prog ρk∧ρk.f 10=g∧Q0 prog g
theorem B3i(β:As):∀l:List Int,∀r∈B3k l,r.length=1∧∀v∈vals β r,v.oneCell'=true
 |[],r,h=>by cases h
 |l::ls,r,h=>by
  simp only[B3k] at h
  rcases B9.1 h with rfl|h
  ·exact⟨rfl,fun v hv=>by simp only[vals,B4] at hv;subst hv;rfl⟩
  ·exact B3i β ls r h
theorem B3N{gs:List Nat}(nx:∀g,X2 g gs=true→B4k g){args:List XV}{n n':Nat}{s s':XSt}{v:XV}(h:A9l gs args n s=some (v,n',s'))(ae:O4 n s)(bK:S9 n args=true)(β:As)(L:List Asn)(Q:Value→Heap→Prop)(hq:k6 L Q β n (v,n',s')):
  FW prog 85 (vals β args).toArray (asn β s++L) Q:=by
 unfold A9l at h
 split at h
 ·rename_i g x
  split at h
  ·rename_i hg
   split at h
   ·rename_i T m hl
    split at h
    ·rename_i es r hp
     split at h
     ·rename_i hw
      split at h
      ·rename_i hle
       cases h
       intro h0 hs
       obtain⟨ρk,K,rfl,bz⟩:=nx g hg
       obtain⟨R,aa⟩:=P0 (L:=L) hl hs
       have hc:O5 h0 ⟨β.b x,0,none⟩=some (.map (some (β.b m))):=by
        have:=sat.cell (T9.2 ⟨T,show sat h0 (blk (β.b x) (.cells (vals β [.map m]).toArray T (0,0))::R) from aa⟩) 0
        simpa[vals,val] using this
       have cg:O4 n (unw (.map m) s):=(Z7 (β:=β) (L:=L) (h:=h0)).1 ae
       have ah:sat h0 (asn β (unw (.map m) s)++L):=(Z7 (n:=n)).2 hs
       have ai:sat h0 (mapA (fun n:Int=>Value.int .i64 n) (val β) (β.b m) es::(asn β r++L)):=(P3 (β:=β) (L:=L) hp).s ah
       have qw:=B1 hle
       refine B1T (ρk:=ρk) (ρs:=A6J) (ρt:=A8J) K B9S C00 rfl (enters_of func167 (by kernel_rfl) rfl) bz ai (fun p cm=>?_) (by omega) hc fun s9 h9 bF=>?_
       ·have:=B7W hw p.1 (by rw[B2c];exact D6 cm)
        simp[Lit.wf,IntKind.min,IntKind.max,IntKind.bits,IntKind.signed]
        omega
       ·rw[←B2c,B72] at bF
        have bo:sat h9 (N4 eI 1 s9 (A6d (B62 es))::(asn β (unw (.map m) s)++L)):=
         bF.tail (Sub.perm (((A3l hp β).append_right L).symm))
        exact A5l cg Nat.one_pos (B0F β _) (B3i β _) (fun k=>B3j k _) hq bo
      ·cases h
     ·cases h
    ·cases h
   ·cases h
  ·cases h
 ·cases h
open Go.Proofs Go.Shelf
def A6I:Go.Shelf.Ren:=⟨fun n=>match n with|6=>297|8=>381|9=>382|11=>426|13=>238|12=>427|23=>315|24=>316|14=>456|15=>457|16=>458|17=>459|18=>460|19=>461|20=>462|21=>463|22=>464|25=>489|26=>387|27=>388|28=>490|29=>491|30=>492|31=>499|n=>n,fun n=>match n with|26=>9|28=>479|24=>26|0=>0|3=>3|37=>180|48=>495|50=>497|4=>4|40=>489|39=>488|45=>402|5=>5|9=>9|51=>553|55=>557|57=>584|58=>585|33=>328|n=>n,fun n=>n⟩
theorem B9R:SlLaysZ.n6 prog A6I where
 mixed:=by kernel_rfl
 f6:=⟨f297.name,by kernel_rfl,func297.trans (congrArg some (by kernel_rfl))⟩
 f8:=⟨f381.name,by kernel_rfl,func381.trans (congrArg some (by kernel_rfl))⟩
 f11:=⟨f426.name,by kernel_rfl,func426.trans (congrArg some (by kernel_rfl))⟩
 t0:=underlying0
 a0:=isAgg0
 z0:=sizeOf0
 v0:=zeroValue0
 t24:=underlying26
 a24:=isAgg26
 z24:=sizeOf26
 v24:=zeroValue26
 t26:=underlying9
 a26:=isAgg9
 z26:=sizeOf9
 v26:=zeroValue9
 t28:=underlying479
 a28:=isAgg479
 z28:=sizeOf479
 v28:=zeroValue479
 i26:=by kernel_rfl
def A8I:Go.Shelf.Ren:=⟨fun n=>match n with|6=>382|8=>238|9=>427|19=>315|20=>316|21=>456|22=>457|23=>458|24=>459|25=>460|26=>461|27=>462|28=>463|29=>464|36=>489|31=>387|32=>388|37=>490|38=>491|39=>492|41=>499|n=>n,fun n=>match n with|27=>26|29=>9|3=>3|32=>180|26=>26|0=>0|44=>495|46=>497|4=>4|36=>489|35=>488|41=>402|5=>5|9=>9|53=>553|57=>557|63=>584|64=>585|n=>n,fun n=>n⟩
theorem C0Z:SlLaysM.n6 prog A8I where
 mixed:=by kernel_rfl
 f6:=⟨f382.name,by kernel_rfl,func382.trans (congrArg some (by kernel_rfl))⟩
 f8:=func238.trans (congrArg some (by kernel_rfl))
 f9:=⟨f427.name,by kernel_rfl,func427.trans (congrArg some (by kernel_rfl))⟩
 f19:=func315.trans (congrArg some (by kernel_rfl))
 f20:=func316.trans (congrArg some (by kernel_rfl))
 f21:=⟨f456.name,by kernel_rfl,func456.trans (congrArg some (by kernel_rfl))⟩
 f22:=⟨f457.name,by kernel_rfl,func457.trans (congrArg some (by kernel_rfl))⟩
 f23:=⟨f458.name,by kernel_rfl,func458.trans (congrArg some (by kernel_rfl))⟩
 f24:=⟨f459.name,by kernel_rfl,func459.trans (congrArg some (by kernel_rfl))⟩
 f25:=⟨f460.name,by kernel_rfl,func460.trans (congrArg some (by kernel_rfl))⟩
 f26:=⟨f461.name,by kernel_rfl,func461.trans (congrArg some (by kernel_rfl))⟩
 f27:=⟨f462.name,by kernel_rfl,func462.trans (congrArg some (by kernel_rfl))⟩
 f28:=⟨f463.name,by kernel_rfl,func463.trans (congrArg some (by kernel_rfl))⟩
 f29:=⟨f464.name,by kernel_rfl,func464.trans (congrArg some (by kernel_rfl))⟩
 f31:=func387.trans (congrArg some (by kernel_rfl))
 f32:=func388.trans (congrArg some (by kernel_rfl))
 f36:=⟨f489.name,by kernel_rfl,func489.trans (congrArg some (by kernel_rfl))⟩
 f37:=⟨f490.name,by kernel_rfl,func490.trans (congrArg some (by kernel_rfl))⟩
 f38:=⟨f491.name,by kernel_rfl,func491.trans (congrArg some (by kernel_rfl))⟩
 f39:=⟨f492.name,by kernel_rfl,func492.trans (congrArg some (by kernel_rfl))⟩
 f41:=⟨f499.name,by kernel_rfl,func499.trans (congrArg some (by kernel_rfl))⟩
 t0:=underlying0
 a0:=isAgg0
 z0:=sizeOf0
 v0:=zeroValue0
 t3:=underlying3
 a3:=isAgg3
 z3:=sizeOf3
 v3:=zeroValue3
 t4:=underlying4
 a4:=isAgg4
 z4:=sizeOf4
 v4:=zeroValue4
 t5:=underlying5
 a5:=isAgg5
 z5:=sizeOf5
 v5:=zeroValue5
 t9:=underlying9
 a9:=isAgg9
 z9:=sizeOf9
 v9:=zeroValue9
 t26:=underlying26
 a26:=isAgg26
 z26:=sizeOf26
 v26:=zeroValue26
 t27:=underlying26
 a27:=isAgg26
 z27:=sizeOf26
 v27:=zeroValue26
 t29:=underlying9
 a29:=isAgg9
 z29:=sizeOf9
 v29:=zeroValue9
 t32:=underlying180
 a32:=isAgg180
 z32:=sizeOf180
 v32:=zeroValue180
 t35:=underlying488
 a35:=isAgg488
 z35:=sizeOf488
 v35:=zeroValue488
 t36:=underlying489
 a36:=isAgg489
 z36:=sizeOf489
 v36:=zeroValue489
 t41:=underlying402
 a41:=isAgg402
 z41:=sizeOf402
 v41:=zeroValue402
 t44:=underlying495
 a44:=isAgg495
 z44:=sizeOf495
 v44:=zeroValue495
 t46:=underlying497
 a46:=isAgg497
 z46:=sizeOf497
 v46:=zeroValue497
 t53:=underlying553
 a53:=isAgg553
 z53:=sizeOf553
 v53:=zeroValue553
 t57:=underlying557
 a57:=isAgg557
 z57:=sizeOf557
 v57:=zeroValue557
 t63:=underlying584
 a63:=isAgg584
 z63:=sizeOf584
 v63:=zeroValue584
 t64:=underlying585
 a64:=isAgg585
 z64:=sizeOf585
 v64:=zeroValue585
open Go.H Go.X Go.Proofs Go.Shelf Go.RowKit
def B63:List (B1q×XV)→List B1q
 |[]=>[]
 |(k,_)::r=>k::B63 r
theorem B2d:∀l:List (B1q×XV),B63 l=l.map (·.1)
 |[]=>rfl
 |(k,v)::r=>by simp only[B63,B6,B2d r]
def B3n:List B1q→List (List XV)
 |[]=>[]
 |k::r=>[.str k]::B3n r
theorem B0G(β:As):∀l:List B1q,(B3n l).map (vals β)=l.map eS
 |[]=>rfl
 |k::r=>by simp only[B3n,B6,B0G β r];rfl
theorem B3m(n:Nat):∀l:List B1q,e7 n (B3n l)=true
 |[]=>rfl
 |k::r=>by simp only[B3n,e7,S9,clo];exact B3m n r
theorem B3l(β:As):∀l:List B1q,∀r∈B3n l,r.length=1∧∀v∈vals β r,v.oneCell'=true
 |[],r,h=>by cases h
 |l::ls,r,h=>by
  simp only[B3n] at h
  rcases B9.1 h with rfl|h
  ·exact⟨rfl,fun v hv=>by simp only[vals,B4] at hv;subst hv;rfl⟩
  ·exact B3l β ls r h
def C2C:List B1q→Bool
 |[]=>true
 |[b]=>Nat.ble b.size 1000000
 |_=>false
theorem C0a{l:List B1q}(h:C2C l=true):A8H l=l∧l.length≤1∧∀b∈l,b.size≤maxLen:=by
 match l,h with
 |[],_=>exact⟨by simp[A8H],by simp,fun b hb=>by cases hb⟩
 |[b],h=>
  refine⟨?_,by simp,fun c hc=>?_⟩
  ·unfold A8H
   simp
   exact B8h b
  ·rw[B4.1 hc]
   have:=B1 h
   unfold maxLen
   omega
def A6h(gs:List Nat)(args:List XV)(n:Nat)(s:XSt):Option XR:=
 match args with
 |[.func g [] [.ptr x 0]]=>match X2 g gs with
  |true=>match Go.X.look x s with
   |some (.cells _ [.map m])=>match pick m (unw (.map m) s) with
    |some (.mapS es,r)=>match C2C (B63 es) with
     |true=>some (.slc n,n+1,add n (.own 1 (B3n (B63 es))) (unw (.map m) s))
     |false=>none
    |_=>none
   |_=>none
  |false=>none
 |_=>none
def B1s(g:Nat):Prop:=∃ρk,SlLaysZ.n7 prog ρk∧ρk.f 10=g∧Q0 prog g
theorem B2i{gs:List Nat}(nx:∀g,X2 g gs=true→B1s g){args:List XV}{n n':Nat}{s s':XSt}{v:XV}(h:A6h gs args n s=some (v,n',s'))(ae:O4 n s)(bK:S9 n args=true)(β:As)(L:List Asn)(Q:Value→Heap→Prop)(hq:k6 L Q β n (v,n',s')):
  FW prog 297 (vals β args).toArray (asn β s++L) Q:=by
 unfold A6h at h
 split at h
 ·rename_i g x
  split at h
  ·rename_i hg
   split at h
   ·rename_i T m hl
    split at h
    ·rename_i es r hp
     split at h
     ·rename_i hw
      cases h
      intro h0 hs
      obtain⟨ρk,K,rfl,bz⟩:=nx g hg
      obtain⟨R,aa⟩:=P0 (L:=L) hl hs
      have hc:O5 h0 ⟨β.b x,0,none⟩=some (.map (some (β.b m))):=by
       have:=sat.cell (T9.2 ⟨T,show sat h0 (blk (β.b x) (.cells (vals β [.map m]).toArray T (0,0))::R) from aa⟩) 0
       simpa[vals,val] using this
      have cg:O4 n (unw (.map m) s):=(Z7 (β:=β) (L:=L) (h:=h0)).1 ae
      have ah:sat h0 (asn β (unw (.map m) s)++L):=(Z7 (n:=n)).2 hs
      have ai:sat h0 (mapA (fun n:B1q=>Value.string n) (val β) (β.b m) es::(asn β r++L)):=(P3 (β:=β) (L:=L) hp).s ah
      obtain⟨f1,f2,f3⟩:=C0a hw
      rw[B2d] at f1 f2 f3
      rw[C9] at f2
      refine B1S (ρk:=ρk) (ρs:=A6I) (ρt:=A8I) K B9R C0Z rfl (enters_of func382 (by kernel_rfl) rfl) bz ai (fun p cm=>f3 _ (D6 cm)) (by omega) hc fun s9 h9 bF=>?_
      rw[f1,←B2d] at bF
      have bo:sat h9 (N4 eS 1 s9 (B63 es)::(asn β (unw (.map m) s)++L)):=
       bF.tail (Sub.perm (((A3l hp β).append_right L).symm))
      exact A5l cg Nat.one_pos (B0G β _) (B3l β _) (fun k=>B3m k _) hq bo
     ·cases h
    ·cases h
   ·cases h
  ·cases h
 ·cases h
open Go.H Go.Proofs Go.RowKit Go.Maps Go.Sort Go.Shelf
theorem B9U{h:Heap}{b1 b2:Nat}{o1 o2:Obj}(h1:h[b1]? =some o1)(h2:h[b2]? =some o2)(bh:b1≠b2):sat h [blk b1 o1,blk b2 o2]:=by
 refine⟨fun k=>if k=b1 then some o1 else if k=b2 then some o2 else none,fun k o ho=>?_,fun k=>if k=b1 then some o1 else none,fun k=>if k=b2 then some o2 else none,fun k=>?_,?_,?_,fun k=>if k=b2 then some o2 else none,fun _=>none,fun k=>.inr rfl,?_,?_,trivial⟩
 ·simp only at ho
  split at ho
  ·rename_i e;cases ho;rw[e];exact h1
  ·split at ho
   ·rename_i e;cases ho;rw[e];exact h2
   ·cases ho
 ·by_cases e:k=b1
  ·right
   show(if k=b2 then some o2 else none)=none
   rw[if_neg (fun e2=>bh (e.symm.trans e2))]
  ·left
   show(if k=b1 then some o1 else none)=none
   rw[if_neg e]
 ·funext k
  simp only[PH.join]
  by_cases e:k=b1<;>simp[e]
 ·simp[blk]
 ·funext k
  simp only[PH.join]
  by_cases e:k=b2<;>simp[e]
 ·simp[blk]
section
variable {K V:Type} {h:Heap} {ek:K→Value} {ev:V→Value} {m it:Nat} {l done todo:List (K×V)} {es:Array MapEntry} {c:Nat} {seen:Array Nat} {des tes:List MapEntry}
theorem B8i{Q:Option (Value×Value)→Heap→Prop}(hf:ItF ek ev l done todo es c seen des tes)(hit:h[it]? =some (.mapIter (some m) c seen c))(hm:h[m]? =some (.map es c))(h0:todo=[]→Q none h)
  (h1:∀(p:K×V) (t1 t2:List (K×V)) (b:Nat) (d2 s2:List MapEntry),todo=t1++p::t2→ItF ek ev l (done++[p]) (t1++t2) es c (seen.push b) d2 s2→Q (some (ek p.1,ev p.2)) (h.setIfInBounds it (.mapIter (some m) c (seen.push b) c))):B4m it h Q:=by
 have dN:∀e∈es,e.born<c:=fun e he=>hf.stamped.1 e (by simpa using he)
 have fB:(es.toList.map (·.born)).Nodup:=hf.stamped.2.1
 have fA:((des++tes).map (·.born)).Nodup:=(hf.perm.map (·.born)).nodup_iff.2 fB
 rw[C7,List.nodup_append] at fA
 have an:∀e:MapEntry,e∈es↔e∈des∨e∈tes:=fun e=>by
  rw[←Array.mem_toList_iff,←hf.perm.mem_iff,J7]
 have df:∀b,seen.contains b=true↔b∈des.map (·.born):=fun b=>by
  rw[←hf.seen];simp
 have gV:∀e∈es,seen.contains e.born=false→e∈tes:=fun e he hc=>by
  rcases(an e).1 he with hd|ht
  ·exact absurd ((df e.born).2 (D6 hd)) (by rw[hc];simp)
  ·exact ht
 refine⟨some m,c,seen,c,hit,es,c,hm,?_,fun ak=>?_,fun e he hc=>?_⟩
 ·by_cases hz:es.isEmpty=true
  ·simp[hz]
  ·have bh:es≠#[]:=by simpa using hz
   obtain⟨e,he⟩:∃e,e∈es:=⟨es[0]'(Array.size_pos_iff.2 bh),Array.getElem_mem _⟩
   have af:=dN e he
   have:es.all (fun e=>decide (e.born≥c))=false:=by
    cases hh:es.all (fun e=>decide (e.born≥c)) with
    |false=>rfl
    |true=>
     rw[Array.all_eq_true_iff_forall_mem] at hh
     have:=hh e he
     simp at this
     omega
   simp[this]
 ·refine h0 ?_
  have:tes=[]:=by
   cases tes with
   |nil=>rfl
   |cons e t=>
    have he:e∈es:=(an e).2 (.inr (B7 ..))
    have ib:seen.contains e.born=false:=by
     cases hh:seen.contains e.born with
     |false=>rfl
     |true=>
      exact absurd rfl (fA.2.2 e.born ((df _).1 hh) e.born (by simp))
    have:=ak e he ib
    have:=dN e he
    omega
  have ht:=hf.todo
  rw[this] at ht
  simp only[m9,I8] at ht
  exact List.map_eq_nil_iff.1 ht.symm
 ·have ht:=gV e he hc
  obtain⟨t1,t2,rfl⟩:=List.append_of_mem ht
  have jk:=hf.todo
  simp only[m9,C7,B6] at jk
  obtain⟨l1,pQ,e1,e2,e3⟩:=List.map_eq_append_iff.1 jk.symm
  obtain⟨p,l2,e4,e5,e6⟩:=List.map_eq_cons_iff.1 e3
  subst e4
  have kA:(ek p.1,ev p.2)=(e.key,e.val):=e5
  obtain⟨k1,k2⟩:=Prod.mk.inj kA
  rw[←k1,←k2]
  refine h1 p l1 l2 e.born (des++[e]) (t1++t2) e1 ⟨hf.cM,hf.stamped,?_,?_,?_,?_⟩
  ·refine List.Perm.trans ?_ hf.perm
   rw[F1]
   refine List.Perm.append_left des ?_
   show(e::(t1++t2)).Perm _
   exact List.perm_middle.symm
  ·simp[hf.seen]
  ·simp only[m9,C7,B6,I8]
   rw[hf.done,kA]
  ·simp only[m9,C7]
   rw[e2,e6]
end
section
variable {F:Fence} {n:Nat} {P:Program} (w:World) {ops:Array Oper} {rest:List Oper} {o:Oper} {a:Act} {Q:Exit→Act→World→Prop}
theorem A8N{w w':World}{row:Option Nat}(hs:Q7 w w')(hz:w.heap.size≤w'.heap.size)(hb:∀k,k<w.heap.size→some k≠row→w'.heap[k]? =w.heap[k]?):w.grownBy w' row:=⟨hs.1,hs.2,hs.3,hz,hb⟩
theorem B1I(hg:o.guard=none)(m:Operand)(t:TypeId)(eV:o.op=Op.range t m)(k e:TypeId)(ht:P.underlying t=some (.map k e))(b:Nat)(es:Array MapEntry)(c:Nat)
  (hm:a.eval m=.map (some b))(hb:w.heap[b]? =some (.map es c))
  (hK:wpListIn F n P ops Q rest (a.put o.dst (.pointer (some ⟨w.heap.size,0,none⟩))) (w.alloc (.mapIter (some b) c #[] c))):
  wpListIn F n P ops Q (o::rest) a w:=by
 refine wpListIn_plain hg fun K' kU=>?_
 have bx:(Instr.range t (.map (some b))).run P w=.ok (.pointer (some ⟨w.heap.size,0,none⟩)) (w.alloc (.mapIter (some b) c #[] c)):=by
  simp[Instr.range,N7 ht,P9 hb (by simp)]
 unfold Oper.wpIn
 refine⟨by simp[Oper.about,eV],?_⟩
 rw[Oper.semAt_plain F _ _ (by rw[eV];intro c dL;cases dL)]
 simp[execOp,eV,hm,bx,Result.andThen]
 exact kU _ _ hK
def C2Z{K V:Type}(ek:K→Value)(ev:V→Value)(l done todo:List (K×V))(es:Array MapEntry)(c:Nat)(seen:Array Nat)(b r:Nat)(w:World)(T:Value→World→Prop):Prop:=
 ∀(p:K×V) (t1 t2:List (K×V)) (x:Nat) (d2 s2:List MapEntry) (w':World),todo=t1++p::t2→ItF ek ev l (done++[p]) (t1++t2) es c (seen.push x) d2 s2→
   w.grownBy w' (some r)→w'.heap=w.heap.setIfInBounds r (.mapIter (some b) c (seen.push x) c)→T (.tuple #[.bool true,ek p.1,ev p.2]) w'
theorem B2Z{K V:Type}{ek:K→Value}{ev:V→Value}{l done todo:List (K×V)}{es:Array MapEntry}{c:Nat}{seen:Array Nat}{des tes:List MapEntry}(hg:o.guard=none)(it:Operand)(eV:o.op=Op.next it false)(b r:Nat)
  (hit:a.eval it=.pointer (some ⟨r,0,none⟩))(hf:ItF ek ev l done todo es c seen des tes)(hr:w.heap[r]? =some (.mapIter (some b) c seen c))(hb:w.heap[b]? =some (.map es c))(jA:r≠b)
  (kr:∀w':World,todo=[]→w.grownBy w' none→w'.heap=w.heap→wpListIn F n P ops Q rest (a.put o.dst (.tuple #[.bool false])) w')
  (ko:C2Z ek ev l done todo es c seen b r w fun v w'=>wpListIn F n P ops Q rest (a.put o.dst v) w'):
  wpListIn F n P ops Q (o::rest) a w:=by
 refine wpListIn_plain hg fun K' kU=>?_
 unfold Oper.wpIn
 refine⟨by simp[Oper.about,eV],?_⟩
 rw[Oper.semAt_plain F _ _ (by rw[eV];intro c dL;cases dL)]
 obtain⟨KK,nP⟩:∃KK:Value→HM Unit,KK=fun v h' _=>(v=.tuple #[.bool false]∧todo=[]∧h'=w.heap)∨(∃p t1 t2 x d2 s2,v=.tuple #[.bool true,ek p.1,ev p.2]∧todo=t1++p::t2∧ItF ek ev l (done++[p]) (t1++t2) es c (seen.push x) d2 s2∧h'=w.heap.setIfInBounds r (.mapIter (some b) c (seen.push x) c)):=⟨_,rfl⟩
 have hd:A0V (ρ:=Unit) false (.pointer (some ⟨r,0,none⟩)) KK w.heap (fun _ _=>True):=by
  show B4m r w.heap (fun o h'=>A3c o (KK (.tuple #[.bool false])) (fun p=>KK (.tuple #[.bool true,p.1,p.2])) h' (fun _ _=>True))
  refine B8i hf hr hb (fun h0=>?_) fun p t1 t2 x d2 s2 e1 e2=>?_
  ·show KK (.tuple #[.bool false]) w.heap (fun _ _=>True)
   rw[nP];exact Or.inl ⟨rfl,h0,rfl⟩
  ·show KK (.tuple #[.bool true,ek p.1,ev p.2]) _ (fun _ _=>True)
   rw[nP];exact Or.inr ⟨p,t1,t2,x,d2,s2,rfl,e1,e2,rfl⟩
 obtain⟨v,w',bx,hs,hv⟩:=A3X (P:=P) (t:=o.type) hd w rfl
 rw[nP] at hv
 rcases hv with⟨rfl,h0,hh⟩|⟨p,t1,t2,x,d2,s2,rfl,e1,e2,hh⟩
 ·simp[execOp,eV,hit,bx,Result.andThen]
  exact kU _ _ (kr w' h0 (A8N hs (by rw[hh];exact B5 _) (fun k _ _=>by rw[hh])) hh)
 ·simp[execOp,eV,hit,bx,Result.andThen]
  refine kU _ _ (ko p t1 t2 x d2 s2 w' e1 e2 (A8N hs (by rw[hh];simp) fun k hk bh=>?_) hh)
  rw[hh,D2,if_neg (fun e=>bh (by rw[e]))]
theorem B7f{K V:Type}{ek:K→Value}{ev:V→Value}{l done todo:List (K×V)}{es:Array MapEntry}{c:Nat}{seen:Array Nat}{des tes:List MapEntry}{b r:Nat}{p:K×V}(kk kv:Kind)(x:kk.ty)(y:kv.ty)(hk:ek p.1=kk.val x)(hv:ev p.2=kv.val y)
  (hf:ItF ek ev l (done++[p]) todo es c seen des tes)(hr:w.heap[r]? =some (.mapIter (some b) c seen c))(hb:w.heap[b]? =some (.map es c))(jA:r≠b):
  (Instr.entry (.pointer (some ⟨r,0,none⟩))).run P w=.ok (.tuple #[ek p.1,ev p.2]) w:=by
 have hs:sat w.heap (itA ek ev b l r (done++[p]) todo::[]):=A3u.2 ⟨es,c,seen,des,tes,hf,B9U hr hb jA⟩
 have hd:A1k (ρ:=Unit) kk kv (.pointer (some ⟨r,0,none⟩)) (fun v _ _=>v=.tuple #[kk.val x,kv.val y]) w.heap (fun _ _=>True):=by
  show B6o kk kv r w.heap (fun p _=>(Value.tuple #[kk.val p.1,kv.val p.2])=.tuple #[kk.val x,kv.val y])
  exact A6m (kk:=kk) (kv:=kv) (x:=x) (y:=y) hk hv hs rfl
 obtain⟨v,bx,rfl⟩:=A2Q (P:=P) hd
 rw[hk,hv]
 exact bx w rfl
end
end
open Go.H Go.Proofs Go.RowKit Go.Maps Go.Sort Go.Shelf
abbrev B7e:Bool→Value:=Kind.val (.one .bool)
def C0w(n it:Nat)(w:World):Nat:=match w.heap[it]? with
 |some (.mapIter _ _ seen _)=>n-seen.size
 |_=>0
theorem A7e(w:World)(o:Obj):w.grownBy (w.alloc o) none:=⟨rfl,rfl,rfl,by simp,fun k hk _=>Below.heap_alloc w o k hk⟩
theorem C1i(F:Fence)(n:Nat)(rN:F.fn 161)(kK:F.round=none)(hn:1≤n)(l0 Bm b:Nat)(l:List ((Int×Int)×Bool))(es:Array MapEntry)(c:Nat)(J:List (Int×Int)→World→Prop)
  (hY:∀pre x W,J pre W→pre.length<l.length→YieldAt F (n-1) prog l0 #[e2 x] W fun e W'=>e=.returned (.bool true)∧J (pre++[x]) W'∧KeepsWalks W W')
  (W:World)(hJ:AbidesFrom W.heap.size J)(hm:W.cell? ⟨Bm,0,none⟩=some (.map (some b)))(hb:W.heap[b]? =some (.map es c))(gM:Z2 e2 B7e l es.toList)(aM:MapKept.Stamped es c)(h0:J [] W):
  CallsIn F n prog 161 #[.func (.yield l0) #[] #[],.pointer (some ⟨Bm,0,none⟩)] W fun e W'=>(∃v,e=.returned v)∧∃ss:List (Int×Int),ss.Perm (l.map (·.1))∧J ss W':=by
 refine callsIn_of_wp func161 rfl rN ?_ kK
 simp only[ntmps161,I2,D8,L9,Nat.reduceAdd,Nat.reduceSub,Array.replicate_succ,Array.replicate_zero,List.push_toArray,List.append_toArray,G2,G3]
 gi_wp2_with (first
  |(gi_at_range;refine B1I _ rfl _ 222 rfl 133 4 underlying222 b es c rfl hb ?_)
  |gi_in)
 go_frame
 have fb:b<W.heap.size:=(B3.1 hb).1
 gi_loopw [3] (fun _ wr=>∃(seen:Array Nat) (des tes:List MapEntry) (done todo:List ((Int×Int)×Bool)),ItF e2 B7e l done todo es c seen des tes∧wr.heap[b]? =some (.map es c)∧wr.heap[W.heap.size]? =some (.mapIter (some b) c seen c)∧J (done.map (·.1)) wr∧(done++todo).Perm l)
  (fun _ wr=>C0w l.length W.heap.size wr)
 case atStart=>
  refine⟨#[],[],es.toList,[],l,⟨gM,aM,by simp,rfl,rfl,gM⟩,(Below.heap_alloc W _ b fb).trans hb,World.alloc_heap_new W _,?_,J0 _⟩
  exact hJ [] W _ none h0 (A7e W _) (fun r e=>by cases e)
 case round=>
  obtain⟨seen,des,tes,done,todo,hf,gO,hit,oZ,eK⟩:=hrel
  gi_wp2_with (first
   |(gi_at_next;refine B2Z _ rfl _ rfl b W.heap.size rfl hf hit gO (Nat.ne_of_gt fb) ?_ ?_)
   |gi_in)
  ·intro w' ht hg hh
   gi_wp2
   go_end0
   subst ht
   rw[I3] at eK
   exact⟨⟨_,rfl⟩,done.map (·.1),eK.map _,hJ _ wr w' none oZ hg (fun r e=>by cases e)⟩
  ·intro p t1 t2 x d2 s2 w2 e1 nA fN oQ
   have im:w2.heap[W.heap.size]? =some (.mapIter (some b) c (seen.push x) c):=by
    rw[oQ,Array.getElem?_setIfInBounds_self_of_lt (B3.1 hit).1]
   have cN:w2.heap[b]? =some (.map es c):=by
    rw[oQ,D2,if_neg (Nat.ne_of_gt fb)];exact gO
   have qO:=B7f (P:=prog) w2 (.agg [.int .i64,.int .i64]) (.one .bool) (p.1.1,p.1.2,()) p.2 rfl rfl nA im cN (Nat.ne_of_gt fb)
   have jC:(done++[p]++(t1++t2)).Perm l:=by
    refine List.Perm.trans ?_ eK
    rw[e1,F1]
    exact List.Perm.append_left done (show(p::(t1++t2)).Perm (t1++p::t2) from List.perm_middle.symm)
   have hlen:(done.map (·.1)).length<l.length:=by
    rw[←jC.length_eq]
    simp
   have df:seen.size<l.length:=by
    have h1:=congrArg List.length hf.seen
    have h2:=congrArg List.length hf.done
    simp at h1 h2 hlen
    omega
   obtain⟨⟨p1,p2⟩,pb⟩:=p
   change (Instr.entry _).run _ _=.ok (.tuple #[.agg #[.int .i64 p1,.int .i64 p2],.bool pb]) _ at qO
   have rC:J (done.map (·.1)) w2:=hJ _ wr w2 (some W.heap.size) oZ fN (fun r e=>by cases e;exact⟨B5 _,_,hit,rfl⟩)
   have rB:J (done.map (·.1)) (w2.alloc (.cells #[.int .i64 p1,.int .i64 p2] 133)):=hJ _ w2 _ none rC (A7e _ _) (fun r e=>by cases e)
   obtain⟨fn,tmps,assign,body,hy,hR⟩:=hY (done.map (·.1)) (p1,p2) _ rB hlen
   change (Instr.yield l0 #[.agg #[.int .i64 p1,.int .i64 p2]]).run _ _=_ at hy
   have dU:(w2.alloc (.cells #[.int .i64 p1,.int .i64 p2] 133)).heap[b]? =some (.map es c):=(Below.heap_alloc _ _ b (B3.1 cN).1).trans cN
   have nm:(w2.alloc (.cells #[.int .i64 p1,.int .i64 p2] 133)).heap[W.heap.size]? =some (.mapIter (some b) c (seen.push x) c):=(Below.heap_alloc _ _ _ (B3.1 im).1).trans im
   gi_wp2
   refine hR.mono ?_
   rintro e W3 ⟨rfl,rA,oN⟩
   have iT:=oN.same b _ dU rfl
   have jK:=oN.same _ _ nm rfl
   gi_wp2
   go_roundw
   case rel=>exact⟨seen.push x,d2,s2,done++[((p1,p2),pb)],t1++t2,nA,iT,jK,by simpa using rA,jC⟩
   case measure=>
    unfold C0w
    rw[jK,hit]
    simp only[Array.size_push]
    omega
open Go.H Go.Proofs Go.RowKit Go.Maps Go.Sort Go.Shelf
abbrev eT2(x:Int×Int):C3E:=[.int .i64 x.1,.int .i64 x.2]
def A6u:Code:=.region 2 #[{dst:=some 5,op:=.alloc 133,type:=0,pos:= "iter.go:51",after:=#[],guard:=none},{dst:=none,op:=.store 133 (.tmp 5) (.tmp 7),type:=0,pos:= "iter.go:51",after:=#[{on:=0,ground:=.data},{on:=0,ground:=.phase}],guard:=none}] false
def B2F:Code:=.block 1 (.region 3 #[{dst:=some 8,op:=.load 56 (.tmp 2),type:=56,pos:= "iter.go:52",after:=#[],guard:=none},{dst:=some 9,op:=.load 133 (.tmp 5),type:=133,pos:= "iter.go:52",after:=#[],guard:=none},{dst:=some 10,op:=.buildSlice 56 1 #[(0,.tmp 9)],type:=56,pos:= "iter.go:52",after:=#[{on:=1,ground:=.data}],guard:=none},{dst:=some 11,op:=.call {callee:=.builtin .append,args:=#[.tmp 8,.tmp 10],argTypes:=#[56,56]},type:=56,pos:= "iter.go:52",after:=#[{on:=0,ground:=.data},{on:=2,ground:=.data}],guard:=none},{dst:=none,op:=.store 56 (.tmp 2) (.tmp 11),type:=0,pos:= "iter.go:52",after:=#[{on:=3,ground:=.data},{on:=3,ground:=.chain},{on:=0,ground:=.phase},{on:=1,ground:=.phase},{on:=2,ground:=.phase},{on:=3,ground:=.phase}],guard:=none}] false)
def A0G(fn:FuncId)(sv:Value)(Bs D:Nat)(st:LoopState)(pend:Option Code):Loop:=
 {state:=st,pending:=pend,fn,tmps:=#[.slice none 0 0,sv,.pointer (some ⟨Bs,0,none⟩),undef,.slice none 0 0,undef,sv,undef,undef,undef,undef,undef,undef],params:=#[7],assign:=A6u,body:=B2F,defers:=D}
structure B4q(w0:World)(fn:FuncId)(sv:Value)(Bs l D:Nat)(ss:List (Int×Int))(W:World):Prop where
 box:∃v,W.heap[Bs]? =some (.cells #[v] 56 (0,0))∧W.ownsRow w0.heap.size 133 2 v ss.length (ss.flatMap eT2)
 L:W.heap[l]? =some (.loop (A0G fn sv Bs D .ready none))
 K:W.heap[D]? =some (.deferred (some []))
 below:Below w0.heap.size w0 W
theorem B5F(w0:World)(fn:FuncId)(sv:Value)(Bs l D B:Nat)(hB:w0.heap.size≤B):AbidesFrom B (B4q w0 fn sv Bs l D):=fun s W W' row h hg av=>by
 have eo:∀r,row=some r→∃o:Obj,W.heap[r]? =some o∧o.isWalk=true:=fun r e=>(av r e).2
 obtain⟨v,hv,hr⟩:=h.box
 exact⟨⟨v,(grownBy_keeps hg eo hv rfl).trans hv,ownsRow_abides_a hr hg eo⟩,(grownBy_keeps hg eo h.L rfl).trans h.L,(grownBy_keeps hg eo h.K rfl).trans h.K,
  h.below.grown hg h.below.size (fun k e=>E3 hB (av k e).1)⟩
theorem B8T(w:World)(b:Nat)(x y:Value)(t:TypeId)(hb:w.heap[b]? =some (.cells #[x,y] t (0,0)))(j:Nat):w.cell? ((⟨b,0,none⟩:Addr).add j)=#[x,y][j]? :=by
 by_cases hj:j=0
 ·subst hj;simp[World.cell?,Addr.add,hb]
 ·simp[World.cell?,Addr.add,hj,hb]
theorem cell_two_new(w:World)(x y:Value)(t:TypeId):∀j u,[x,y][j]? =some u→(w.alloc (.cells #[x,y] t)).cell? ((⟨w.heap.size,0,none⟩:Addr).add j)=some u:=by
 intro j u hu
 rw[B8T _ _ x y t (World.alloc_heap_new w (.cells #[x,y] t)),←hu]
 simp
theorem B8Z(F:Fence)(m:Nat)(w0:World)(fn:FuncId)(nz:F.fn fn)(sv:Value)(Bs l D:Nat)(nS:Bs≠l)(pc:D≠l)(rI:D≠Bs)(rS:w0.heap.size≤Bs)(ph:w0.heap.size≤l)
  (N:Nat)(hN:N≤maxLen)(oX:N*16≤140737488355328)(ss:List (Int×Int))(x:Int×Int)(W:World)(h:B4q w0 fn sv Bs l D ss W)(hlen:ss.length<N):
  YieldAt F m prog l #[e2 x] W fun e W'=>e=.returned (.bool true)∧B4q w0 fn sv Bs l D (ss++[x]) W'∧KeepsWalks W W':=by
 have bh:(56:TypeId)≠133:=by decide
 have nu:(prog.info? 133).map (fun i=>(i.zero,i.size,i.bytes))=some (some (.agg #[.int .i64 0,.int .i64 0]),2,16):=by kernel_rfl
 obtain⟨i0,hi,je,eG,pW⟩:=info_parts nu
 obtain⟨v,hv,av⟩:=h.box
 obtain⟨p1,p2⟩:=x
 refine⟨fn,#[.slice none 0 0,sv,.pointer (some ⟨Bs,0,none⟩),undef,.slice none 0 0,undef,sv,.agg #[.int .i64 p1,.int .i64 p2],undef,undef,undef,undef,undef],A6u,B2F,by simpa[A0G] using run_yield (P:=prog) (args:=#[.agg #[.int .i64 p1,.int .i64 p2]]) h.L rfl,roundIn_of_wpIn nz ?_⟩
 obtain⟨W1,eT⟩:∃W1,W.alloc (.cells #[.int .i64 p1,.int .i64 p2] 133)=W1:=⟨_,rfl⟩
 have qj:W1.heap.size=W.heap.size+1:=by rw[←eT];simp
 have hold:∀k,k<W.heap.size→W1.heap[k]? =W.heap[k]? :=fun k hk=>by rw[←eT];exact Below.heap_alloc _ _ k hk
 have mM:=(hold Bs (B3.1 hv).1).trans hv
 have kT:=(hold l (B3.1 h.L).1).trans h.L
 have rz:=(hold D (B3.1 h.K).1).trans h.K
 have gK:W1.ownsRow w0.heap.size 133 2 v ss.length (ss.flatMap eT2):=by rw[←eT];exact av.alloc _
 have bl:Below w0.heap.size w0 W1:=by rw[←eT];exact h.below.alloc h.below.size _
 have qC:KeepsWalks W W1:=by rw[←eT];exact KeepsWalks.alloc _ _
 have rj:W1.heap[W.heap.size]? =some (.cells #[.int .i64 p1,.int .i64 p2] 133 (0,0)):=by rw[←eT];exact World.alloc_heap_new W _
 have ri:W.heap.size≠l:=fun e=>by have:=(B3.1 h.L).1;omega
 unfold A6u
 gi_wp2_with gi_round_op_a
 have gj:=run_beginRound (P:=prog) kT rfl
 obtain⟨W2,gS⟩:∃W2,W1.putObj l (.loop {A0G fn sv Bs D .ready none with state:=.busy})=W2:=⟨_,rfl⟩
 rw[gS] at gj
 have fN:W1.grownBy W2 (some l):=by rw[←gS];exact grownBy_putObj_a _ _ _
 have qB:KeepsWalks W W2:=qC.trans (by rw[←gS];exact KeepsWalks.putObj _ kT rfl)
 have kH:W2.heap[Bs]? =some (.cells #[v] 56 (0,0)):=by rw[←gS];exact(World.putObj_heap_other nS).trans mM
 have ee:W2.heap[D]? =some (.deferred (some [])):=by rw[←gS];exact(World.putObj_heap_other pc).trans rz
 have nO:W2.heap[l]? =some (.loop {A0G fn sv Bs D .ready none with state:=.busy}):=by rw[←gS];exact World.putObj_heap_same (B3.1 kT).1
 have oW:W2.heap[W.heap.size]? =some (.cells #[.int .i64 p1,.int .i64 p2] 133 (0,0)):=by rw[←gS];exact(World.putObj_heap_other ri).trans rj
 have ej:W2.ownsRow w0.heap.size 133 2 v ss.length (ss.flatMap eT2):=gK.kept fN (ownsRow_ne_a gK kT (fun cur e=>by first|cases e|exact bh (Obj.cells.inj e).2.1))
 have cN:Below w0.heap.size w0 W2:=bl.grown fN bl.size (fun k e=>by cases e;exact ph)
 obtain⟨eR,nA⟩:=cell_of_box_a kH
 have sq:W2.cell? ⟨W.heap.size,0,none⟩=some (.int .i64 p1):=by simp[World.cell?,oW]
 have fi:W2.cell? ⟨W.heap.size,1,none⟩=some (.int .i64 p2):=by simp[World.cell?,oW]
 have nR:Bs<W2.heap.size:=(B3.1 kH).1
 have cD:l<W2.heap.size:=(B3.1 nO).1
 have nQ:D<W2.heap.size:=(B3.1 ee).1
 have ne_of:∀{j:Nat} {o:Obj},W2.heap[j]? =some o→(∀cur,o≠ .cells cur 133 (0,0))→some j≠v.ownBlock:=fun hj nc=>by
  rcases ownsRow_ne_a ej hj nc with e|e
  ·rw[e];simp
  ·exact fun e'=>e e'.symm
 clear gS
 refine⟨W2,gj,?_⟩
 unfold B2F
 gi_wp2_with (first
  |(gi_at_builtin;refine wpListIn_append_own _ rfl _ _ 56 rfl w0.heap.size 133 i0 (.agg #[.int .i64 0,.int .i64 0]) 2 16 underlying56 hi je eG pW rfl (by decide) _ _ _ rfl (ej.alloc _) ⟨W2.heap.size,0,none⟩ 1 1 [.int .i64 p1,.int .i64 p2] rfl rfl (cell_two_new _ _ _ _) (by simp[Value.oneCell']) (by omega) (by omega) (by have:=cN.size;simp;omega) ?_;intro v' w3 fy jM oG
    have jj:w3.heap[Bs]? =some (.cells #[v] 56 (0,0)):=(jM.block Bs (by simp;omega) (ne_of kH (fun cur e=>by first|cases e|exact bh (Obj.cells.inj e).2.1))).trans ((Below.heap_alloc _ _ Bs nR).trans kH)
    obtain⟨qW,qM⟩:=cell_of_box_a jj
    obtain⟨g',cap',cur',rfl,nK,qH,hr1,kL,sy,su⟩:∃g' cap' cur',v'=.slice (some ⟨g',0,none⟩) (ss.length+1) cap'∧w0.heap.size≤g'∧w3.heap[g']? =some (.cells cur' 133 (0,0))∧ss.length+1≤cap'∧cap'≤maxLen∧cur'.size=cap'*2∧cur'.toList.take ((ss.length+1)*2)=ss.flatMap eT2++[.int .i64 p1,.int .i64 p2]:=by
     rcases fy.2 with⟨_,h0⟩|h'
     ·exact absurd h0 (by omega)
     ·exact h'
    go_frame)
  |gi_round_op_a)
 have gd:(W2.alloc (.cells #[.int .i64 p1,.int .i64 p2] 133)).grownBy w3 v.ownBlock:=jM
 have oY:w3.heap[l]? =some (.loop {A0G fn sv Bs D .ready none with state:=.busy}):=(gd.block l (by simp;omega) (ne_of nO (fun cur e=>by first|cases e|exact bh (Obj.cells.inj e).2.1))).trans ((Below.heap_alloc _ _ l cD).trans nO)
 have kq:w3.heap[D]? =some (.deferred (some [])):=(gd.block D (by simp;omega) (ne_of ee (fun cur e=>by first|cases e|exact bh (Obj.cells.inj e).2.1))).trans ((Below.heap_alloc _ _ D nQ).trans ee)
 obtain⟨w4,jg⟩:∃w4,w3.setCell ⟨Bs,0,none⟩ (.slice (some ⟨g',0,none⟩) (ss.length+1) cap')=w4:=⟨_,rfl⟩
 rw[jg]
 have kP:w3.grownBy w4 (some Bs):=by rw[←jg];exact grownBy_setCell0_a _ _ _
 have qd:w4.heap[Bs]? =some (.cells #[.slice (some ⟨g',0,none⟩) (ss.length+1) cap'] 56 (0,0)):=by rw[←jg];exact heap_setCell_box_a _ jj
 have kS:w4.heap[l]? =some (.loop {A0G fn sv Bs D .ready none with state:=.busy}):=(kP.block l (B3.1 oY).1 (fun e=>nS (by cases e;rfl))).trans oY
 have ry:w4.heap[D]? =some (.deferred (some [])):=(kP.block D (B3.1 kq).1 (fun e=>rI (by cases e;rfl))).trans kq
 have gI:=fy.kept kP (ownsRow_ne_a fy jj (fun cur e=>by first|cases e|exact bh (Obj.cells.inj e).2.1))
 have qx:l<w4.heap.size:=(B3.1 kS).1
 have dU:Below w0.heap.size w0 w3:=(cN.alloc cN.size _).grown gd (by have:=cN.size;simp;omega) (fun k e=>(ej.lt k e).1)
 have iT:Below w0.heap.size w0 w4:=dU.grown kP dU.size (fun k e=>by cases e;exact rS)
 have qA:KeepsWalks W w4:=((qB.trans (KeepsWalks.alloc _ _)).trans (KeepsWalks.of_grownBy gd (ownsRow_not_walk_a (ej.alloc _)))).trans (by rw[←jg];exact KeepsWalks.setCell _ _ _)
 clear jg
 refine⟨_,_,run_endRound none kS,rfl,⟨⟨_,(World.putObj_heap_other nS).trans qd,?_⟩,World.putObj_heap_same qx,(World.putObj_heap_other pc).trans ry,iT.grown (grownBy_putObj_a _ _ _) iT.size (fun k e=>by cases e;exact ph)⟩,qA.trans (KeepsWalks.putObj _ kS rfl)⟩
 have:=gI.kept (grownBy_putObj_a w4 l (.loop {{A0G fn sv Bs D .ready none with state:=.busy} with state:=if(none:Option Code).isNone then .ready else .done,pending:=none})) (ownsRow_ne_a gI kS (fun cur e=>by first|cases e|exact bh (Obj.cells.inj e).2.1))
 simpa using this
theorem B5E(F:Fence)(n:Nat)(rM:F.fn 236)(kK:F.round=none)(hn:2≤n)(g:Nat)(lb:C3D)(rH:F.fn g)(eg:∀args w,(callFunc g args).run prog w=.ok (.enter g args) w)
  (S:List (Int×Int)→Prop)(N:Nat)(hN:N≤maxLen)(oX:N*16≤140737488355328)(w:World)(dX:SeqGives F (n-1) prog g lb e2 S N w):
  CallsIn F n prog 236 #[.slice none 0 0,.func (.func g) #[] lb] w fun e w'=>∃(v:Value) (ss:List (Int×Int)),e=.returned v∧S ss∧w'.ownsRow w.heap.size 133 2 v ss.length (ss.flatMap eT2)∧Below w.heap.size w w':=by
 have h1:1≤n:=by omega
 have bh:(56:TypeId)≠133:=by decide
 refine callsIn_of_wp_marks func236 rfl rM ?_ kK
 simp only[ntmps236,I2,D8,L9,Nat.reduceAdd,Nat.reduceSub,Array.replicate_succ,Array.replicate_zero,List.push_toArray,List.append_toArray,G2,G3]
 gi_wp2
 refine wpIn_rangeFunc ?_
 intro fn nz
 rw[kK]
 obtain⟨W0,kR⟩:∃W0,w.alloc (.cells #[.slice none 0 0] 56)=W0:=⟨_,rfl⟩
 have iP:W0.heap.size=w.heap.size+1:=by rw[←kR];simp
 have qe:W0.heap[w.heap.size]? =some (.cells #[.slice none 0 0] 56 (0,0)):=by rw[←kR];exact World.alloc_heap_new w _
 have db:Below w.heap.size w W0:=by rw[←kR];exact(Below.refl _ w).alloc (B5 _) _
 rw[kR]
 obtain⟨W1,eT⟩:∃W1,(W0.alloc (.deferred (some []))).alloc (.loop (A0G fn (.func (.func g) #[] lb) w.heap.size W0.heap.size .ready none))=W1:=⟨_,rfl⟩
 have hold:∀k,k<W0.heap.size→W1.heap[k]? =W0.heap[k]? :=fun k hk=>by
  rw[←eT];exact(Below.heap_alloc _ _ k (by simp;omega)).trans (Below.heap_alloc _ _ k hk)
 have bl:Below w.heap.size w W1:=by rw[←eT];exact(db.alloc db.size _).alloc (by have:=db.size;simp;omega) _
 have aa:W1.heap.size=W0.heap.size+2:=by rw[←eT];simp
 have hM:B4q w fn (.func (.func g) #[] lb) w.heap.size (W0.heap.size+1) W0.heap.size [] W1:=
  ⟨⟨_,(hold w.heap.size (by omega)).trans qe,⟨rfl,.inl ⟨rfl,rfl⟩⟩⟩,
   by rw[←eT];have:=World.alloc_heap_new (W0.alloc (.deferred (some []))) (.loop (A0G fn (.func (.func g) #[] lb) w.heap.size W0.heap.size .ready none));rwa[World.size_alloc] at this,
   by rw[←eT];exact(Below.heap_alloc _ _ _ (by simp)).trans (World.alloc_heap_new W0 _),bl⟩
 refine⟨W0.heap.size+1,[{target:=.collected W0.heap.size,args:=#[]}],W1,{target:=.fn (.func g) lb,args:=#[.func (.yield (W0.heap.size+1)) #[] #[]]},W1,g,
  #[.func (.yield (W0.heap.size+1)) #[] #[]]++lb,W1,?_,?_,?_,?_,fun _=>h1,?_⟩
 ·rw[←eT];exact run_enterLoop_outer _ _ _ _ _
 ·simp[resolve,go_sem]
 ·intro f' cf;simp[Target.leads] at cf;subst cf;exact rH
 ·simp[invoke,go_sem,eg]
 ·refine(dX (W0.heap.size+1) (B4q w fn (.func (.func g) #[] lb) w.heap.size (W0.heap.size+1) W0.heap.size) W1 bl (B5F _ _ _ _ _ _ _ bl.size)
   (fun pre x W hJ hl=>B8Z F (n-1-1) w fn nz _ w.heap.size (W0.heap.size+1) W0.heap.size (by omega) (by omega) (by omega) (B5 _) (by omega) N hN oX pre x W hJ hl) hM).mono ?_
  rintro e W2 ⟨⟨v0,rfl⟩,ss,hS,h2⟩
  obtain⟨v,hv,av⟩:=h2.box
  have jQ:=run_endLoop (P:=prog) h2.L (by simp[A0G])
  obtain⟨W3,kl⟩:∃W3,W2.putObj (W0.heap.size+1) (.loop {A0G fn (.func (.func g) #[] lb) w.heap.size W0.heap.size .ready none with state:=.exhausted})=W3:=⟨_,rfl⟩
  rw[kl] at jQ
  have jM:W2.grownBy W3 (some (W0.heap.size+1)):=by rw[←kl];exact grownBy_putObj_a _ _ _
  have jj:W3.heap[w.heap.size]? =some (.cells #[v] 56 (0,0)):=by rw[←kl];exact(World.putObj_heap_other (by omega)).trans hv
  have kq:W3.heap[W0.heap.size]? =some (.deferred (some [])):=by rw[←kl];exact(World.putObj_heap_other (by omega)).trans h2.K
  have gJ:=av.kept jM (ownsRow_ne_a av h2.L (fun cur e=>by first|cases e|exact bh (Obj.cells.inj e).2.1))
  have dU:Below w.heap.size w W3:=h2.below.grown jM h2.below.size (fun k e=>by cases e;omega)
  obtain⟨qW,qM⟩:=cell_of_box_a jj
  clear kl
  refine⟨none,W3,jQ,?_⟩
  gi_wp2
  rw[←iP]
  refine⟨by simp,.inl ⟨_,_,rfl,run_takeDeferred kq,?_⟩⟩
  exact⟨_,results_tmp rfl _ _ _,v,ss,rfl,hS,gJ.kept (grownBy_putObj_a _ _ _) (ownsRow_ne_a gJ kq (fun cur e=>by first|cases e|exact bh (Obj.cells.inj e).2.1)),dU.grown (grownBy_putObj_a _ _ _) dU.size (fun k e=>by cases e;omega)⟩
open Go.H Go.Proofs Go.Shelf Go.Sort Go.RowKit Go.Maps
theorem B7t{h:Heap}{R:List Asn}{b bm:Nat}{l:List ((Int×Int)×Bool)}(hs:sat h (mapA e2 B7e b l::R))(hl:l.length*16≤140737488355328)(hc:O5 h ⟨bm,0,none⟩=some (.map (some b))){Q:Value→Heap→Prop}
  (hq:∀(s:Slc) (ss:List (Int×Int)) h',ss.Perm (l.map (·.1))→sat h' (N4 eT2 2 s ss::mapA e2 B7e b l::R)→Q (.slice s.a s.len s.cap) h'):
  N9 prog 236 #[.slice none 0 0,.func (.func 161) #[] #[.pointer (some ⟨bm,0,none⟩)]] h Q:=fun w dr=>by
 subst dr
 have dy:l.length≤maxLen:=by unfold maxLen;omega
 obtain⟨es,c,⟨he,aM⟩,aa⟩:=T7.1 hs
 have jZ:bm<w.heap.size:=by
  unfold O5 at hc
  cases hx:w.heap[bm]? with
  |none=>simp[hx] at hc
  |some o=>exact(B3.1 hx).1
 have hb:=aa.get
 have fb:b<w.heap.size:=(B3.1 hb).1
 have dX:SeqGives Fence.wide 4 prog 161 #[.pointer (some ⟨bm,0,none⟩)] e2 (fun ss=>ss.Perm (l.map (·.1))) l.length w:=fun l0 J W hW hJ hY h0=>
  C1i Fence.wide 4 trivial rfl (by omega) l0 bm b l es c J hY W hJ ((hW.cell (p:=⟨bm,0,none⟩) jZ).trans hc) ((hW.block b fb).trans hb) he aM h0
 have cS:=B5E Fence.wide 5 trivial rfl (by omega) 161 #[.pointer (some ⟨bm,0,none⟩)] trivial (enters_of func161 (by kernel_rfl) rfl) _ _ dy hl w dX
 refine((callsIn_wide).1 cS).mono ?_
 rintro e w' ⟨v,ss,rfl,hS,av,oT⟩
 obtain⟨s,rfl,ah⟩:=A4j av rfl hs (A4v oT) (B5 _)
 exact⟨_,rfl,A1V oT,hq s ss _ hS ah⟩
open Go.H Go.X Go.Proofs Go.Shelf Go.RowKit
theorem B92{K V:Type}{ek:K→Value}{b:Nat}{f:XV→Value}{g:V→Value}{es:List (K×XV)}{fs:List (K×V)}(h:es.map (fun p=>(p.1,f p.2))=fs.map (fun p=>(p.1,g p.2))):mapA ek f b es=mapA ek g b fs:=by
 have e:∀l,Z2 ek f es l=Z2 ek g fs l:=fun l=>by
  unfold Z2
  have h2:=congrArg (List.map fun p:K×Value=>(ek p.1,p.2)) h
  simp only[F6,G5] at h2
  rw[h2]
 unfold mapA
 simp only[e]
def C1p:List ((Int×Int)×XV)→Option (List ((Int×Int)×Bool))
 |[]=>some []
 |[(k,v)]=>match v with
  |.bool b=>some [(k,b)]
  |_=>none
 |_=>none
theorem B99(β:As){es:List ((Int×Int)×XV)}{l:List ((Int×Int)×Bool)}(h:C1p es=some l):es.map (fun p=>(p.1,val β p.2))=l.map (fun p=>(p.1,B7e p.2))∧l.length≤1:=by
 match es,h with
 |[],h=>cases h;exact⟨rfl,by simp⟩
 |[(k,v)],h=>
  simp only[C1p] at h
  split at h
  ·cases h;exact⟨rfl,by simp⟩
  ·cases h
def B3h:List ((Int×Int)×Bool)→List (List XV)
 |[]=>[]
 |(k,_)::r=>[.int .i64 k.1,.int .i64 k.2]::B3h r
theorem B0E(β:As):∀l:List ((Int×Int)×Bool),(B3h l).map (vals β)=(l.map (·.1)).map eT2
 |[]=>rfl
 |(k,b)::r=>by simp only[B3h,B6,B0E β r];rfl
theorem B3g(n:Nat):∀l:List ((Int×Int)×Bool),e7 n (B3h l)=true
 |[]=>rfl
 |(k,b)::r=>by simp only[B3h,e7,S9,clo];exact B3g n r
theorem B3f(β:As):∀l:List ((Int×Int)×Bool),∀r∈B3h l,r.length=2∧∀v∈vals β r,v.oneCell'=true
 |[],r,h=>by cases h
 |(k,b)::ls,r,h=>by
  simp only[B3h] at h
  rcases B9.1 h with rfl|h
  ·refine⟨rfl,fun v hv=>?_⟩
   simp only[vals,B9,K3,or_false] at hv
   rcases hv with rfl|rfl<;>rfl
  ·exact B3f β ls r h
def B2j(args:List XV)(n:Nat)(s:XSt):Option XR:=
 match args with
 |[.nslc,.func g [] [.ptr x 0]]=>match Nat.beq g 161 with
  |true=>match Go.X.look x s with
   |some (.cells _ [.map m])=>match pick m (unw (.map m) s) with
    |some (.mapT es,r)=>match C1p es with
     |some l=>some (.slc n,n+1,add n (.own 2 (B3h l)) (unw (.map m) s))
     |none=>none
    |_=>none
   |_=>none
  |false=>none
 |_=>none
theorem B5j{args:List XV}{n n':Nat}{s s':XSt}{v:XV}(h:B2j args n s=some (v,n',s'))(ae:O4 n s)(bK:S9 n args=true)(β:As)(L:List Asn)(Q:Value→Heap→Prop)(hq:k6 L Q β n (v,n',s')):
  FW prog 236 (vals β args).toArray (asn β s++L) Q:=by
 unfold B2j at h
 split at h
 ·rename_i g x
  split at h
  ·rename_i hg
   have hg:=B0 hg
   subst hg
   split at h
   ·rename_i T m hl
    split at h
    ·rename_i es r hp
     split at h
     ·rename_i l hw
      cases h
      intro h0 hs
      obtain⟨R,aa⟩:=P0 (L:=L) hl hs
      have hc:O5 h0 ⟨β.b x,0,none⟩=some (.map (some (β.b m))):=by
       have:=sat.cell (T9.2 ⟨T,show sat h0 (blk (β.b x) (.cells (vals β [.map m]).toArray T (0,0))::R) from aa⟩) 0
       simpa[vals,val] using this
      have cg:O4 n (unw (.map m) s):=(Z7 (β:=β) (L:=L) (h:=h0)).1 ae
      have ah:sat h0 (asn β (unw (.map m) s)++L):=(Z7 (n:=n)).2 hs
      have ai:sat h0 (mapA e2 (val β) (β.b m) es::(asn β r++L)):=(P3 (β:=β) (L:=L) hp).s ah
      obtain⟨f1,f2⟩:=B99 β hw
      have em:mapA e2 (val β) (β.b m) es=mapA e2 B7e (β.b m) l:=B92 f1
      rw[em] at ai
      refine B7t (b:=β.b m) (bm:=β.b x) ai (by omega) hc fun s9 ss h9 eK bF=>?_
      have fY:ss=l.map (·.1):=by
       match l,f2,eK with
       |[],_,eK=>exact eK.eq_nil
       |[p],_,eK=>exact eK.eq_singleton
       |_::_::_,f2,_=>simp at f2
      rw[fY,←em] at bF
      have bo:sat h9 (N4 eT2 2 s9 (l.map (·.1))::(asn β (unw (.map m) s)++L)):=
       bF.tail (Sub.perm (((A3l hp β).append_right L).symm))
      exact A5l cg Nat.two_pos (B0E β _) (B3f β _) (fun k=>B3g k _) hq bo
     ·cases h
    ·cases h
   ·cases h
  ·cases h
 ·cases h
open Go.H Go.X Go.Proofs Go.Shelf Go.RowKit
def A9J(c:Nat):List UInt8→Nat
 |[]=>0
 |b::r=>match Nat.beq b.toNat c with
  |true=>A9J c r+1
  |false=>A9J c r
theorem B4T{a c:UInt8}(h:Nat.beq a.toNat c.toNat=true):a=c:=UInt8.toNat_inj.1 (B0 h)
theorem B4S{a c:UInt8}(h:Nat.beq a.toNat c.toNat=false):a≠c:=fun e=>by
 subst e
 rw[Nat.beq_refl] at h
 cases h
theorem A6p(c:UInt8):∀l:List UInt8,A9J c.toNat l=l.count c
 |[]=>rfl
 |b::r=>by
  simp only[A9J]
  split
  ·rename_i h
   rw[B4T h,List.count_cons_self,A6p c r]
  ·rename_i h
   rw[List.count_cons_of_ne (B4S h),A6p c r]
def B2k(args:List XV)(n:Nat)(s:XSt):Option XR:=
 match args with
 |[.str b,.str c]=>match c.data.toList with
  |[x]=>some (.int .i64 (A9J x.toNat b.data.toList:Nat),n,s)
  |_=>none
 |_=>none
theorem B5l{args:List XV}{n n':Nat}{s s':XSt}{v:XV}(h:B2k args n s=some (v,n',s'))(ae:O4 n s)(bK:S9 n args=true)(β:As)(L:List Asn)(Q:Value→Heap→Prop)(hq:k6 L Q β n (v,n',s')):
  FW prog 328 (vals β args).toArray (asn β s++L) Q:=by
 unfold B2k at h
 split at h
 ·rename_i b c
  split at h
  ·rename_i x hx
   cases h
   have hc:c=ByteArray.mk #[x]:=data_inj hx
   subst hc
   intro h0 hs w hw
   subst hw
   refine(Any.strings_Count_one B8Q b x w).mono ?_
   rintro e w' ⟨rfl,rfl⟩
   have:=hq β Agr.rfl (B5 _) ae _ hs
   rw[A6p] at this
   exact⟨_,rfl,⟨rfl,rfl,rfl⟩,this⟩
  ·cases h
 ·cases h
def B91(c:Nat):List UInt8→Bool
 |[]=>false
 |b::r=>match Nat.beq b.toNat c with
  |true=>true
  |false=>B91 c r
theorem B55(c:UInt8):∀l:List UInt8,B91 c.toNat l=decide (c∈l)
 |[]=>rfl
 |b::r=>by
  simp only[B91]
  split
  ·rename_i h
   rw[B4T h]
   simp
  ·rename_i h
   rw[B55 c r]
   simp[Ne.symm (B4S h)]
def A4o(args:List XV)(n:Nat)(s:XSt):Option XR:=
 match args with
 |[.str b,.str c]=>match c.data.toList with
  |[x]=>some (.bool (B91 x.toNat b.data.toList),n,s)
  |_=>none
 |_=>none
theorem A96{args:List XV}{n n':Nat}{s s':XSt}{v:XV}(h:A4o args n s=some (v,n',s'))(ae:O4 n s)(bK:S9 n args=true)(β:As)(L:List Asn)(Q:Value→Heap→Prop)(hq:k6 L Q β n (v,n',s')):
  FW prog 245 (vals β args).toArray (asn β s++L) Q:=by
 unfold A4o at h
 split at h
 ·rename_i b c
  split at h
  ·rename_i x hx
   cases h
   have hc:c=ByteArray.mk #[x]:=data_inj hx
   subst hc
   intro h0 hs w hw
   subst hw
   refine(Any.strings_Contains_one C0E b x w).mono ?_
   rintro e w' ⟨rfl,rfl⟩
   rw[B1d]
   have:=hq β Agr.rfl (B5 _) ae _ hs
   rw[B55] at this
   exact⟨_,rfl,⟨rfl,rfl,rfl⟩,this⟩
  ·cases h
 ·cases h
def B60(c:Nat):List UInt8→List UInt8→List (List UInt8)
 |x,[]=>[x]
 |x,b::r=>match Nat.beq b.toNat c with
  |true=>x::B60 c [] r
  |false=>B60 c (x++[b]) r
theorem B2b(c:UInt8):∀r x:List UInt8,B60 c.toNat x r=lev c x r
 |[],x=>rfl
 |b::r,x=>by
  simp only[B60,lev]
  split
  ·rename_i h
   rw[if_pos (B4T h),B2b c r []]
  ·rename_i h
   rw[if_neg (B4S h),B2b c r _]
def B3e:List (List UInt8)→List (List XV)
 |[]=>[]
 |l::r=>[.str ⟨l.toArray⟩]::B3e r
theorem B5U(β:As):∀(l:List (List UInt8)) (xs:List B1q),xs.map (·.data.toList)=l→(B3e l).map (vals β)=xs.map eS
 |[],[],_=>rfl
 |[],_::_,h=>by cases h
 |_::_,[],h=>by cases h
 |l::r,x::xs,h=>by
  simp only[B6,J6] at h
  simp only[B3e,B6,B5U β r xs h.2]
  rw[←h.1]
  rfl
theorem B3c(β:As):∀l:List (List UInt8),∀r∈B3e l,r.length=1∧∀v∈vals β r,v.oneCell'=true
 |[],r,h=>by cases h
 |l::ls,r,h=>by
  simp only[B3e] at h
  rcases B9.1 h with rfl|h
  ·exact⟨rfl,fun v hv=>by simp only[vals,B4] at hv;subst hv;rfl⟩
  ·exact B3c β ls r h
theorem B3d(m:Nat):∀l:List (List UInt8),e7 m (B3e l)=true
 |[]=>rfl
 |l::r=>by simp only[B3e,e7,S9,clo];exact B3d m r
def B2h(args:List XV)(n:Nat)(s:XSt):Option XR:=
 match args with
 |[.str b,.str c]=>match c.data.toList with
  |[x]=>match Nat.ble b.size 1000000 with
   |true=>match Go.X.look 0 s with
    |some (.base gs)=>match X2 1 gs with
     |true=>some (.slc n,n+1,add n (.own 1 (B3e (B60 x.toNat [] b.data.toList))) s)
     |false=>none
    |_=>none
   |false=>none
  |_=>none
 |_=>none
theorem B5i{args:List XV}{n n':Nat}{s s':XSt}{v:XV}(h:B2h args n s=some (v,n',s'))(ae:O4 n s)(bK:S9 n args=true)(β:As)(L:List Asn)(Q:Value→Heap→Prop)(hq:k6 L Q β n (v,n',s')):
  FW prog 329 (vals β args).toArray (asn β s++L) Q:=by
 unfold B2h at h
 split at h
 ·rename_i b c
  split at h
  ·rename_i x hx
   split at h
   ·rename_i hb
    split at h
    ·rename_i gs hl
     split at h
     ·rename_i hg
      cases h
      have hc:c=ByteArray.mk #[x]:=data_inj hx
      subst hc
      have hb:=B1 hb
      intro h0 hs w hw
      subst hw
      obtain⟨R,aa⟩:=P0 (L:=L) hl hs
      have ai:sat w.heap (star (pr (∀g∈gs,∃m,O5 β.o ⟨g,0,none⟩=some (.int .i64 m))) (old β.o)::R):=aa
      rw[sat.aH,sat.aN] at ai
      obtain⟨hm,aY⟩:=ai
      obtain⟨m,hm⟩:=hm _ (q5 hg)
      refine(Any.strings_Split B71 (by kernel_rfl) b (ByteArray.mk #[x]) m w (by omega) (aY.aU hm) (show 1≤1 from B5 1)).mono ?_
      rintro e w' ⟨rfl,rfl⟩
      have h1:(1:Nat)≤(ByteArray.mk #[x]).size:=B5 1
      have hlen:(Lib.splitB (ByteArray.mk #[x]) 0 (Lib.countB b (ByteArray.mk #[x])) b).length=Lib.countB b (ByteArray.mk #[x])+1:=Lib.splitB_all (ByteArray.mk #[x]) h1 0 _ b rfl
      have jU:(Lib.splitB (ByteArray.mk #[x]) 0 (Lib.countB b (ByteArray.mk #[x])) b).map (·.data.toList)=B60 x.toNat [] b.data.toList:=by
       rw[B2b,Lib.splitB_data]
       exact A3r x b.data.toList [] (by simp)
      generalize Lib.splitB (ByteArray.mk #[x]) 0 (Lib.countB b (ByteArray.mk #[x])) b=xs at hlen jU⊢
      have bT:sat (w.alloc (.cells (xs.map Value.string).toArray (A1z.t 9))).heap (cells w.heap.size (xs.map Value.string).toArray::(asn β s++L)):=hs.aX
      have gF:sat (w.alloc (.cells (xs.map Value.string).toArray (A1z.t 9))).heap (N4 eS 1 ⟨some ⟨w.heap.size,0,none⟩,xs.length,xs.length⟩ xs::(asn β s++L)):=by
       refine W8 (o:=0) ⟨rfl,B5 _,rfl,by simp,?_⟩ bT
       simp only[I1,K5,M0]
       rw[D7 (by simp)]
       have:∀xs:List B1q,xs.map Value.string=xs.flatMap eS:=fun xs=>by
        induction xs with
        |nil=>rfl
        |cons y ys ih=>rw[B6,D4,ih];rfl
       exact this xs
      have:=A5l ae Nat.one_pos (B5U β _ xs jU) (B3c β _) (fun m=>B3d m _) hq gF
      simp only[hlen] at this
      exact⟨_,rfl,⟨rfl,rfl,rfl⟩,this⟩
     ·cases h
    ·cases h
   ·cases h
  ·cases h
 ·cases h
def B1P:List (List XV)→Option (List B1q)
 |[]=>some []
 |l::r=>match l with
  |[.str b]=>match B1P r with
   |some bs=>some (b::bs)
   |none=>none
  |_=>none
theorem B0y(β:As):∀{l:List (List XV)} {bs:List B1q},B1P l=some bs→l.map (vals β)=bs.map eS
 |[],_,h=>by cases h;rfl
 |l::r,bs,h=>by
  simp only[B1P] at h
  split at h
  ·split at h
   ·rename_i b bs' qX
    cases h
    simp only[B6,B0y β qX]
    rfl
   ·cases h
  ·cases h
def jnT(sep:List UInt8):List B1q→List UInt8
 |[]=>[]
 |y::r=>sep++(y.data.toList++jnT sep r)
def jnU(sep:List UInt8):List B1q→List UInt8
 |[]=>[]
 |x::r=>x.data.toList++jnT sep r
theorem B8u(sep:List UInt8):∀l:List B1q,jnT sep l=Lib.joinTail sep (l.map (·.data.toList))
 |[]=>rfl
 |y::r=>by
  simp only[jnT,B8u sep r,Lib.joinTail,B6,M1,F1]
theorem B8t(sep:List UInt8):∀l:List B1q,jnU sep l=Lib.join (l.map (·.data.toList)) sep
 |[]=>rfl
 |y::r=>by
  rw[B6,Lib.join_cons,←B8u];rfl
def B5k(args:List XV)(n:Nat)(s:XSt):Option XR:=
 match args with
 |[.slc j,.str sep]=>match res 20 s j with
  |some (_,z,_,rows)=>match Nat.beq z 1 with
   |true=>match B1P rows with
    |some (b::bs)=>match Nat.ble (b::bs).length 1000000 with
     |true=>match Nat.ble (jnU sep.data.toList (b::bs)).length 1000000 with
      |true=>some (.str ⟨(jnU sep.data.toList (b::bs)).toArray⟩,n,s)
      |false=>none
     |false=>none
    |_=>none
   |false=>none
  |none=>none
 |_=>none
theorem B65{args:List XV}{n n':Nat}{s s':XSt}{v:XV}(h:B5k args n s=some (v,n',s'))(ae:O4 n s)(bK:S9 n args=true)(β:As)(L:List Asn)(Q:Value→Heap→Prop)(hq:k6 L Q β n (v,n',s')):
  FW prog 335 (vals β args).toArray (asn β s++L) Q:=by
 unfold B5k at h
 split at h
 ·rename_i j sep
  split at h
  ·rename_i k z off rows hr
   split at h
   ·rename_i hz
    have hz:=B0 hz
    subst hz
    split at h
    ·rename_i b bs aM
     split at h
     ·rename_i hN
      split at h
      ·rename_i hlen
       cases h
       have hN:=B1 hN
       have hlen:=B1 hlen
       intro h0 hs
       obtain⟨ys,hy,⟨r1,r2,r3⟩,-⟩:=A7Z (L:=L) hr hs
       rw[B0y β aM] at hy
       have fW:ys.length=(b::bs).length:=by have:=congrArg List.length hy;simpa using this
       have kg:∀i x,(b::bs)[i]? =some x→∃a,(β.s j).a=some a∧O5 h0 (a.add i)=some (.string x):=by
        intro i x hi
        have da:i<ys.length:=by rw[fW];exact(C4.1 hi).1
        have e:=congrArg (fun l=>l[i]?) hy
        simp only[H6,hi,B2 da,F3,C3] at e
        obtain⟨a,ha,hc⟩:=r3 i ys[i] (B2 da)
        refine⟨a,ha,?_⟩
        have:=hc 0 (.string x) (by show(ys[i].1)[0]? =_;rw[e];rfl)
        rwa[M0,B82] at this
       obtain⟨a,ha,kQ⟩:=kg 0 b rfl
       rw[B82] at kQ
       have jn:=B5y kQ
       obtain⟨bb,o,sp⟩:=a
       have mQ:sp=none:=by simpa using jn
       subst mQ
       have ql:vals β [.slc j,.str sep]=[.slice (some ⟨bb,o,none⟩) (b::bs).length (β.s j).cap,.string sep]:=by
        simp only[vals,val]
        rw[ha,r1,fW]
       rw[ql]
       refine A7h hs (fun w hw=>Any.strings_Join A68 A67 bb o (β.s j).cap (b::bs) sep w (fun i x hx=>?_) ?_ (by omega) (by rw[←fW,←r1];exact r2) ?_) fun h' ah=>?_
       ·obtain⟨a',ed,hc⟩:=kg i x hx
        rw[ha] at ed
        cases ed
        subst hw
        rw[Addr.aO] at hc
        exact hc
       ·subst hw
        unfold O5 at kQ
        cases hx:w.heap[bb]? with
        |none=>simp[hx] at kQ
        |some ob=>exact(B3.1 hx).1
       ·rw[←B8t];omega
       ·rw[←B8t]
        exact hq β Agr.rfl (B5 _) ae h' ah
      ·cases h
     ·cases h
    ·cases h
   ·cases h
  ·cases h
 ·cases h
open Go.H Go.Proofs Go.Shelf
def B09:Go.Shelf.Ren:=⟨fun n=>match n with|7=>360|10=>414|n=>n,fun n=>match n with|23=>410|26=>3|3=>531|28=>240|0=>0|27=>239|33=>186|4=>4|n=>n,fun n=>n⟩
theorem C2y:SlLaysZI.n7 prog B09 where
 mixed:=by kernel_rfl
 f7:=⟨f360.name,by kernel_rfl,func360.trans (congrArg some (by kernel_rfl))⟩
 f10:=⟨f414.name,by kernel_rfl,func414.trans (congrArg some (by kernel_rfl))⟩
 t0:=underlying0
 a0:=isAgg0
 z0:=sizeOf0
 v0:=zeroValue0
 t4:=underlying4
 a4:=isAgg4
 z4:=sizeOf4
 v4:=zeroValue4
 t23:=underlying410
 a23:=isAgg410
 z23:=sizeOf410
 v23:=zeroValue410
 t26:=underlying3
 a26:=isAgg3
 z26:=sizeOf3
 v26:=zeroValue3
 t27:=underlying239
 a27:=isAgg239
 z27:=sizeOf239
 v27:=zeroValue239
 t28:=underlying240
 a28:=isAgg240
 z28:=sizeOf240
 v28:=zeroValue240
 t33:=underlying186
 a33:=isAgg186
 z33:=sizeOf186
 v33:=zeroValue186
open Go.H Go.Proofs Go.Shelf
def B1b:Go.Shelf.Ren:=⟨fun n=>match n with|7=>283|10=>365|n=>n,fun n=>match n with|23=>344|26=>3|3=>365|28=>240|0=>0|27=>239|33=>186|4=>4|n=>n,fun n=>n⟩
theorem C2A:SlLaysZI.n7 prog B1b where
 mixed:=by kernel_rfl
 f7:=⟨f283.name,by kernel_rfl,func283.trans (congrArg some (by kernel_rfl))⟩
 f10:=⟨f365.name,by kernel_rfl,func365.trans (congrArg some (by kernel_rfl))⟩
 t0:=underlying0
 a0:=isAgg0
 z0:=sizeOf0
 v0:=zeroValue0
 t4:=underlying4
 a4:=isAgg4
 z4:=sizeOf4
 v4:=zeroValue4
 t23:=underlying344
 a23:=isAgg344
 z23:=sizeOf344
 v23:=zeroValue344
 t26:=underlying3
 a26:=isAgg3
 z26:=sizeOf3
 v26:=zeroValue3
 t27:=underlying239
 a27:=isAgg239
 z27:=sizeOf239
 v27:=zeroValue239
 t28:=underlying240
 a28:=isAgg240
 z28:=sizeOf240
 v28:=zeroValue240
 t33:=underlying186
 a33:=isAgg186
 z33:=sizeOf186
 v33:=zeroValue186
open Go.Proofs Go.Shelf
def A9h:Go.Shelf.Ren:=⟨fun n=>match n with|7=>298|10=>383|n=>n,fun n=>match n with|23=>472|26=>9|3=>4|28=>479|0=>0|27=>478|33=>328|4=>4|n=>n,fun n=>n⟩
theorem C1h:SlLaysZ.n7 prog A9h where
 mixed:=by kernel_rfl
 f7:=⟨f298.name,by kernel_rfl,func298.trans (congrArg some (by kernel_rfl))⟩
 f10:=⟨f383.name,by kernel_rfl,func383.trans (congrArg some (by kernel_rfl))⟩
 t0:=underlying0
 a0:=isAgg0
 z0:=sizeOf0
 v0:=zeroValue0
 t4:=underlying4
 a4:=isAgg4
 z4:=sizeOf4
 v4:=zeroValue4
 t23:=underlying472
 a23:=isAgg472
 z23:=sizeOf472
 v23:=zeroValue472
 t26:=underlying9
 a26:=isAgg9
 z26:=sizeOf9
 v26:=zeroValue9
 t27:=underlying478
 a27:=isAgg478
 z27:=sizeOf478
 v27:=zeroValue478
 t28:=underlying479
 a28:=isAgg479
 z28:=sizeOf479
 v28:=zeroValue479
 t33:=underlying328
 a33:=isAgg328
 z33:=sizeOf328
 v33:=zeroValue328
end Go.Proofs.YtmpgankhnfpoaaaGreatDoor
namespace Go.X
open Go.H
def C2t:Option XF→Option XF→Bool
 |none,none=>true
 |some a,some b=>B7C a b
 |_,_=>false
def B0v:Tri XF→Tri XF→Bool
 |.lf,.lf=>true
 |.nd o l r,.nd o' l' r'=>match C2t o o' with
  |true=>match B0v l l' with
   |true=>B0v r r'
   |false=>false
  |false=>false
 |_,_=>false
theorem B90:∀{a b:Option XF},C2t a b=true→a=b
 |none,none,_=>rfl
 |some a,some b,h=>by rw[B5L h]
 |none,some _,h=>by cases h
 |some _,none,h=>by cases h
theorem A2p:∀{a b:Tri XF},B0v a b=true→a=b
 |.lf,.lf,_=>rfl
 |.nd o l r,.nd o' l' r',h=>by
  simp only[B0v] at h
  split at h
  ·rename_i h1
   split at h
   ·rename_i h2
    rw[B90 h1,A2p h2,A2p h]
   ·cases h
  ·cases h
 |.lf,.nd ..,h=>by cases h
 |.nd ..,.lf,h=>by cases h
def eqR(r:Option XR)(v:XV)(n:Nat)(s:XSt):Bool:=
 match r with
 |some (u,m,t)=>match xeq u v with
  |true=>match Nat.beq m n with
   |true=>B0v t s
   |false=>false
  |false=>false
 |none=>false
theorem C1O{r:Option XR}{v:XV}{n:Nat}{s:XSt}(h:eqR r v n s=true):r=some (v,n,s):=by
 unfold eqR at h
 split at h
 ·split at h
  ·rename_i h1
   split at h
   ·rename_i h2
    rw[A2n _ _ h1,B0 h2,A2p h]
   ·cases h
  ·cases h
 ·cases h
def B8z(a0:List XV)(n0:Nat)(s0:XSt)(v:XV)(n1:Nat)(s1:XSt)(args:List XV)(n:Nat)(s:XSt):Option XR:=
 match A5L args a0 with
 |true=>match Nat.beq n n0 with
  |true=>match B0v s s0 with
   |true=>some (v,n1,s1)
   |false=>none
  |false=>none
 |false=>none
theorem B2m{P:Program}{call:Nat→List XV→Nat→XSt→Option XR}(hC:y9 P call){f:Nat}{a0:List XV}{n0 n1:Nat}{s0 s1:XSt}{v0:XV}(hr:eqR (call f a0 n0 s0) v0 n1 s1=true){args:List XV}{n n':Nat}{s s':XSt}{v:XV}
  (h:B8z a0 n0 s0 v0 n1 s1 args n s=some (v,n',s'))(ae:O4 n s)(β:As)(L:List Asn)(Q:Value→Heap→Prop)(hq:k6 L Q β n (v,n',s')):FW P f (vals β args).toArray (asn β s++L) Q:=by
 unfold B8z at h
 split at h
 ·rename_i h1
  split at h
  ·rename_i h2
   split at h
   ·rename_i h3
    cases h
    rw[A0g _ _ h1,A2p h3]
    have h2:=B0 h2
    subst h2
    have h3:=A2p h3
    subst h3
    exact hC _ _ _ _ _ _ _ (C1O hr) ae β L Q hq
   ·cases h
  ·cases h
 ·cases h
def A0d(r:Option XR)(v:XV):Bool:=
 match r with
 |some (u,_,_)=>match xeq u v with
  |true=>clo 0 v
  |false=>false
 |none=>false
def A9m:List (List XV×XV)→List XV→Nat→XSt→Option XR
 |[],_,_,_=>none
 |(a,v)::r,args,n,s=>match A5L args a with
  |true=>some (v,n,s)
  |false=>A9m r args n s
theorem A6i{P:Program}{call:Nat→List XV→Nat→XSt→Option XR}(hC:y9 P call){f:Nat}:∀{t:List (List XV×XV)},(∀p,p∈t→A0d (call f p.1 0 .lf) p.2=true)→∀{args:List XV} {n n':Nat} {s s':XSt} {v:XV},
  A9m t args n s=some (v,n',s')→O4 n s→∀(β:As) (L:List Asn) (Q:Value→Heap→Prop),k6 L Q β n (v,n',s')→FW P f (vals β args).toArray (asn β s++L) Q
 |[],_,_,_,_,_,_,_,h,_,_,_,_,_=>by cases h
 |(a,w)::t,ht,args,n,n',s,s',v,h,ae,β,L,Q,hq=>by
  simp only[A9m] at h
  split at h
  ·rename_i h1
   cases h
   rw[A0g _ _ h1]
   have hr:=ht (a,w) (B7 ..)
   unfold A0d at hr
   split at hr
   ·rename_i u m t' bx
    split at hr
    ·rename_i hu
     have hu:=A2n _ _ hu
     subst hu
     refine fun h0 hs=>hC f a 0 .lf _ _ _ bx (fun k f hk=>by cases hk) β (asn β s++L) Q (fun γ hg _ _ h' ah=>?_) h0 hs
     rw[←A1u hg _ hr]
     refine hq β Agr.rfl (B5 _) ae h' ?_
     have sr:∀A:List Asn,Sub (A++(asn β s++L)) (asn β s++L):=fun A=>by
      induction A with
      |nil=>exact Sub.rfl
      |cons a A ih=>exact Sub.drop ih
     exact(sr _).s ah
    ·cases hr
   ·cases hr
  ·exact A6i hC (fun p hp=>ht p (B8 _ hp)) h ae β L Q hq
theorem C2q{c:List XV→Option XR}:∀p,p∈([]:List (List XV×XV))→A0d (c p.1) p.2=true:=fun p h=>by cases h
theorem A60{c:List XV→Option XR}{q:List XV×XV}{t:List (List XV×XV)}(h:A0d (c q.1) q.2=true)(ht:∀p,p∈t→A0d (c p.1) p.2=true):∀p,p∈q::t→A0d (c p.1) p.2=true:=fun p hp=>by
 rcases B9.1 hp with rfl|hp
 ·exact h
 ·exact ht p hp
end Go.X