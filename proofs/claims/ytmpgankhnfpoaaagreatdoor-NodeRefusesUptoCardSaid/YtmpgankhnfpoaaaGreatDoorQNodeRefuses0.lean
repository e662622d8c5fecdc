/-
  Our texts, packed by program.
-/
import Derived.Calls
import Derived.Orders
import Derived.Laws.Sem
import Derived.Laws.World
import Derived.Laws.Entries
import Derived.Laws.Strings
import Derived.Laws.StructEq
import Derived.Laws.BytesString
set_option linter.unusedSimpArgs false
set_option linter.unusedVariables false
set_option maxHeartbeats 16000000
set_option maxRecDepth 100000
namespace Go.H
abbrev B1q:=ByteArray
abbrev C3C:=Option Addr
abbrev C3D:=Array Value
abbrev C3E:=List Value
end Go.H
namespace Go.H
theorem B0:type_of% @Nat.eq_of_beq_eq_true:=@Nat.eq_of_beq_eq_true
theorem B1:type_of% @Nat.le_of_ble_eq_true:=@Nat.le_of_ble_eq_true
theorem B2.{u}:type_of% @List.getElem?_eq_getElem.{u}:=@List.getElem?_eq_getElem
theorem B3.{u}:type_of% @Array.getElem?_eq_some_iff.{u}:=@Array.getElem?_eq_some_iff
theorem B4.{u}:type_of% @List.mem_singleton.{u}:=@List.mem_singleton
theorem B5:type_of% @Nat.le_refl:=@Nat.le_refl
theorem B6.{u,v}:type_of% @List.map_cons.{u,v}:=@List.map_cons
theorem B7.{u}:type_of% @List.mem_cons_self.{u}:=@List.mem_cons_self
theorem B8.{u}:type_of% @List.mem_cons_of_mem.{u}:=@List.mem_cons_of_mem
theorem B9.{u}:type_of% @List.mem_cons.{u}:=@List.mem_cons
theorem C0.{u,v,w}:type_of% @Sum.elim_inl.{u,v,w}:=@Sum.elim_inl
theorem C3.{u}:type_of% @Option.some.injEq.{u}:=@Option.some.injEq
theorem C4.{u}:type_of% @List.getElem?_eq_some_iff.{u}:=@List.getElem?_eq_some_iff
theorem C5.{u,v,w}:type_of% @Sum.elim_inr.{u,v,w}:=@Sum.elim_inr
theorem C7.{u,v}:type_of% @List.map_append.{u,v}:=@List.map_append
theorem C9.{u,v}:type_of% @List.length_map.{u,v}:=@List.length_map
theorem D1.{u}:type_of% @Array.getElem?_eq_getElem.{u}:=@Array.getElem?_eq_getElem
theorem D2.{u}:type_of% @Array.getElem?_setIfInBounds.{u}:=@Array.getElem?_setIfInBounds
theorem D3.{u}:type_of% @Array.toList_inj.{u}:=@Array.toList_inj
theorem D4.{u,v}:type_of% @List.flatMap_cons.{u,v}:=@List.flatMap_cons
theorem D5.{u}:type_of% @Array.getD_eq_getD_getElem?.{u}:=@Array.getD_eq_getD_getElem?
theorem D6.{u,v}:type_of% @List.mem_map_of_mem.{u,v}:=@List.mem_map_of_mem
theorem D7.{u}:type_of% @List.take_of_length_le.{u}:=@List.take_of_length_le
theorem D8.{u}:type_of% @List.length_cons.{u}:=@List.length_cons
theorem D9.{u}:type_of% @List.length_append.{u}:=@List.length_append
theorem E0:type_of% @of_decide_eq_false:=@of_decide_eq_false
theorem E1:type_of% @ByteArray.size_append:=@ByteArray.size_append
theorem E2.{u}:type_of% @List.length_take.{u}:=@List.length_take
theorem E3:type_of% @Nat.le_trans:=@Nat.le_trans
theorem E4.{u}:type_of% @List.take_succ_eq_append_getElem.{u}:=@List.take_succ_eq_append_getElem
theorem E5.{u}:type_of% @List.mem_of_getElem?.{u}:=@List.mem_of_getElem?
theorem E6.{u}:type_of% @List.mem_of_mem_take.{u}:=@List.mem_of_mem_take
theorem E7:type_of% @Nat.le_succ:=@Nat.le_succ
theorem E8:type_of% @Bool.and_eq_true:=@Bool.and_eq_true
theorem E9:type_of% @Nat.zero_le:=@Nat.zero_le
theorem F0:type_of% @Bool.true_and:=@Bool.true_and
theorem F1.{u}:type_of% @List.append_assoc.{u}:=@List.append_assoc
theorem F2.{u}:type_of% @Array.length_toList.{u}:=@Array.length_toList
theorem F3.{u,v}:type_of% @Option.map_some.{u,v}:=@Option.map_some
theorem F4:type_of% @Bool.false_eq_true:=@Bool.false_eq_true
theorem F5:type_of% @Nat.zero_add:=@Nat.zero_add
theorem F6.{u,v,w}:type_of% @List.map_map.{u,v,w}:=@List.map_map
theorem F7:type_of% @Int.eq_ofNat_of_zero_le:=@Int.eq_ofNat_of_zero_le
theorem F8:type_of% @Bool.false_and:=@Bool.false_and
theorem F9:type_of% @Nat.mul_le_mul_right:=@Nat.mul_le_mul_right
theorem G0:type_of% @Nat.add_mul:=@Nat.add_mul
theorem G1:type_of% @Int.natCast_nonneg:=@Int.natCast_nonneg
theorem G2.{u}:type_of% @List.nil_append.{u}:=@List.nil_append
theorem G3.{u}:type_of% @List.cons_append.{u}:=@List.cons_append
theorem G4:type_of% @Nat.lt_succ_self:=@Nat.lt_succ_self
theorem G5.{u,v,w}:type_of% @Function.comp_def.{u,v,w}:=@Function.comp_def
theorem G6.{u}:type_of% @List.all_eq_true.{u}:=@List.all_eq_true
theorem G7.{u}:type_of% @Array.getElem?_modify.{u}:=@Array.getElem?_modify
theorem G8:type_of% @Int.toNat_natCast:=@Int.toNat_natCast
theorem G9.{u}:type_of% @List.getElem?_take.{u}:=@List.getElem?_take
theorem H0.{u,v}:type_of% @List.map_take.{u,v}:=@List.map_take
theorem H2.{u,v}:type_of% @List.map_drop.{u,v}:=@List.map_drop
theorem H3:type_of% @Nat.succ_mul:=@Nat.succ_mul
theorem H4.{u}:type_of% @Array.toList_setIfInBounds.{u}:=@Array.toList_setIfInBounds
theorem H5.{u}:type_of% @List.drop_of_length_le.{u}:=@List.drop_of_length_le
theorem H6.{u,v}:type_of% @List.getElem?_map.{u,v}:=@List.getElem?_map
theorem H7:type_of% @Bool.not_false:=@Bool.not_false
theorem H8.{u,v}:type_of% @List.mem_map.{u,v}:=@List.mem_map
theorem H9.{u}:type_of% @List.eq_nil_of_length_eq_zero.{u}:=@List.eq_nil_of_length_eq_zero
theorem I0:type_of% @decide_eq_decide:=@decide_eq_decide
theorem I1:type_of% @Nat.zero_mul:=@Nat.zero_mul
theorem I2.{u}:type_of% @List.size_toArray.{u}:=@List.size_toArray
theorem I3.{u}:type_of% @List.append_nil.{u}:=@List.append_nil
theorem I4.{u}:type_of% @Array.toList_append.{u}:=@Array.toList_append
theorem I5.{u}:type_of% @List.length_take_le.{u}:=@List.length_take_le
theorem I6.{u}:type_of% @List.getElem_mem.{u}:=@List.getElem_mem
theorem I7:type_of% @Nat.lt_or_ge:=@Nat.lt_or_ge
theorem I8.{u,v}:type_of% @List.map_nil.{u,v}:=@List.map_nil
theorem I9.{u}:type_of% @List.getElem?_drop.{u}:=@List.getElem?_drop
theorem J0.{u}:type_of% @List.Perm.refl.{u}:=@List.Perm.refl
theorem J1.{u}:type_of% @Array.toArray_toList.{u}:=@Array.toArray_toList
theorem J2.{u}:type_of% @List.mem_append_left.{u}:=@List.mem_append_left
theorem J3.{u}:type_of% @List.mem_of_mem_drop.{u}:=@List.mem_of_mem_drop
theorem J4.{u}:type_of% @List.nodup_cons.{u}:=@List.nodup_cons
theorem J5:type_of% @Nat.blt_eq:=@Nat.blt_eq
theorem J6.{u}:type_of% @List.cons.injEq.{u}:=@List.cons.injEq
theorem J7.{u}:type_of% @List.mem_append.{u}:=@List.mem_append
theorem J8:type_of% @Nat.add_zero:=@Nat.add_zero
theorem J9.{u,v}:type_of% @List.flatMap_append.{u,v}:=@List.flatMap_append
theorem K0.{u,v}:type_of% @List.map_congr_left.{u,v}:=@List.map_congr_left
theorem K3.{u}:type_of% @List.not_mem_nil.{u}:=@List.not_mem_nil
theorem K4.{u}:type_of% @List.take_length.{u}:=@List.take_length
theorem K5.{u}:type_of% @List.drop_zero.{u}:=@List.drop_zero
theorem K6:type_of% @UInt8.toNat_lt:=@UInt8.toNat_lt
theorem K7.{u}:type_of% @Array.getElem?_eq_none.{u}:=@Array.getElem?_eq_none
theorem K8:type_of% @Nat.lt_of_lt_of_le:=@Nat.lt_of_lt_of_le
theorem K9.{u}:type_of% @List.pairwise_cons.{u}:=@List.pairwise_cons
theorem L7.{u}:type_of% @Option.some.inj.{u}:=@Option.some.inj
theorem L8:type_of% @Nat.sub_self:=@Nat.sub_self
theorem L9.{u}:type_of% @List.length_nil.{u}:=@List.length_nil
theorem M0:type_of% @Nat.mul_one:=@Nat.mul_one
theorem M1.{u}:type_of% @List.flatten_cons.{u}:=@List.flatten_cons
theorem M3.{u}:type_of% @List.length_drop.{u}:=@List.length_drop
end Go.H
namespace Go.H
abbrev Heap:=Array Obj
def O5(h:Heap)(a:Addr):Option Value:=
 match h[a.block]? with
 |some (.cells c _ _)=>if a.spot.isSome then none else c[a.off]?
 |_=>none
def V5(h:Heap)(a:Addr):Bool:=
 match h[a.block]? with
 |some (.cells _ _ (lo,hi))=>lo≤a.off&&a.off<hi
 |_=>false
def U7(h:Heap)(a:Addr)(v:Value):Heap:=
 h.modify a.block fun
  |.cells c elem frozen=>.cells (if a.spot.isSome then c else c.setIfInBounds a.off v) elem frozen
  |o=>o
theorem B2z(w:World)(a:Addr):w.cell? a=O5 w.heap a:=rfl
theorem B7b(w:World)(a:Addr):w.frozen? a=V5 w.heap a:=rfl
theorem B1U(w:World)(a:Addr)(v:Value):(w.setCell a v).heap=U7 w.heap a v:=rfl
structure Q7(w w':World):Prop where
 os:w'.os=w.os
 tape:w'.tape=w.tape
 output:w'.output=w.output
theorem Q7.refl(w:World):Q7 w w:=⟨rfl,rfl,rfl⟩
theorem Q7.trans{a b c:World}(h:Q7 a b)(k:Q7 b c):Q7 a c:=⟨k.os.trans h.os,k.tape.trans h.tape,k.output.trans h.output⟩
def N9(P:Program)(f:FuncId)(args:C3D)(h:Heap)(Q:Value→Heap→Prop):Prop:=
 ∀w,w.heap=h→Calls P f args w fun e w'=>∃v,e=.returned v∧Q7 w w'∧Q v w'.heap
theorem N9.mono{P:Program}{f:FuncId}{args:C3D}{h:Heap}{Q Q':Value→Heap→Prop}
  (hc:N9 P f args h Q)(hq:∀v h',Q v h'→Q' v h'):N9 P f args h Q':=
 fun w hw=>(hc w hw).mono fun _ _ ⟨v,he,hs,q⟩=>⟨v,he,hs,hq _ _ q⟩
structure Slc where
 a:C3C
 len:Nat
 cap:Nat
 deriving Inhabited
inductive Tag where
 |int (k:IntKind)|bool|str|ptr|slc|map|any
abbrev Tag.ty:Tag→Type
 |.int _=>Int
 |.bool=>Bool
 |.str=>B1q
 |.ptr=>C3C
 |.slc=>Slc
 |.map=>Option Nat
 |.any=>Value
def Tag.val:(t:Tag)→t.ty→Value
 |.int k,n=>.int k n
 |.bool,b=>.bool b
 |.str,s=>.string s
 |.ptr,p=>.pointer p
 |.slc,s=>.slice s.a s.len s.cap
 |.map,r=>.map r
 |.any,v=>v
def A1e:IntKind→IntKind→Bool
 |.i8,.i8=>true
 |.i16,.i16=>true
 |.i32,.i32=>true
 |.i64,.i64=>true
 |.u8,.u8=>true
 |.u16,.u16=>true
 |.u32,.u32=>true
 |.u64,.u64=>true
 |_,_=>false
theorem A0T{a b:IntKind}(h:A1e a b=true):a=b:=by
 cases a<;>cases b<;>first|rfl|cases h
def Tag.get:(t:Tag)→Value→Option t.ty
 |.int k,.int k' n=>if A1e k k'=true then some n else none
 |.bool,.bool b=>some b
 |.str,.string s=>some s
 |.ptr,.pointer p=>some p
 |.slc,.slice a n c=>some ⟨a,n,c⟩
 |.map,.map r=>some r
 |.any,v=>some v
 |_,_=>none
theorem Tag.aS{t:Tag}{v:Value}{x:t.ty}(h:t.get v=some x):v=t.val x:=by
 cases t<;>cases v<;>simp[Tag.get] at h<;>(try(obtain⟨h1,h2⟩:=h;have:=A0T h1;subst this))<;>simp_all [Tag.val]
 subst h;exact⟨rfl,rfl,rfl⟩
def Tag.of:Value→Option Tag
 |.int k _=>some (.int k)
 |.bool _=>some .bool
 |.string _=>some .str
 |.pointer _=>some .ptr
 |.slice .. =>some .slc
 |.map _=>some .map
 |.agg _=>none
 |.tuple _=>none
 |_=>some .any
abbrev HT{α:Type}(ty:α→Type):List α→Type
 |[]=>Unit
 |t::ts=>ty t×HT ty ts
def HT.vals{α:Type}{ty:α→Type}(val:(t:α)→ty t→Value):(ts:List α)→HT ty ts→C3E
 |[],_=>[]
 |t::ts,x=>val t x.1::HT.vals val ts x.2
def HT.get{α:Type}{ty:α→Type}(get:(t:α)→Value→Option (ty t)):(ts:List α)→C3E→Option (HT ty ts)
 |[],[]=>some ()
 |[],_::_=>none
 |_::_,[]=>none
 |t::ts,v::vs=>match get t v with
  |some x=>match HT.get get ts vs with
   |some y=>some (x,y)
   |none=>none
  |none=>none
theorem HT.aP{α:Type}{ty:α→Type}{val:(t:α)→ty t→Value}{get:(t:α)→Value→Option (ty t)}(hg:∀t v x,get t v=some x→v=val t x)
  (ts:List α):∀(vs:C3E) (x:HT ty ts),HT.get get ts vs=some x→vs=HT.vals val ts x:=by
 induction ts with
 |nil=>intro vs x h;cases vs with
  |nil=>rfl
  |cons v vs=>cases h
 |cons t ts ih=>intro vs x h;cases vs with
  |nil=>cases h
  |cons v vs=>
   simp only[HT.get] at h
   cases h1:get t v with
   |none=>rw[h1] at h;cases h
   |some y=>
    rw[h1] at h
    simp only at h
    cases h2:HT.get get ts vs with
    |none=>rw[h2] at h;cases h
    |some z=>
     rw[h2] at h
     cases h
     show v::vs=val t y::HT.vals val ts z
     rw[←ih vs z h2,←hg t v y h1]
abbrev Tup(ts:List Tag):Type:=HT Tag.ty ts
abbrev Tup.vals(ts:List Tag)(x:Tup ts):C3E:=HT.vals Tag.val ts x
abbrev Tup.get(ts:List Tag)(vs:C3E):Option (Tup ts):=HT.get Tag.get ts vs
theorem Tup.aP(ts:List Tag)(vs:C3E)(x:Tup ts)(h:Tup.get ts vs=some x):vs=Tup.vals ts x:=
 HT.aP (val:=Tag.val) (get:=Tag.get) (fun t _ _ h=>Tag.aS (t:=t) h) ts vs x h
inductive Kind where
 |one (t:Tag)
 |agg (ts:List Tag)
abbrev Kind.ty:Kind→Type
 |.one t=>t.ty
 |.agg ts=>Tup ts
def Kind.val:(k:Kind)→k.ty→Value
 |.one t,x=>t.val x
 |.agg ts,x=>.agg (Tup.vals ts x).toArray
def Kind.get:(k:Kind)→Value→Option k.ty
 |.one t,v=>t.get v
 |.agg ts,.agg cs=>Tup.get ts cs.toList
 |.agg _,_=>none
theorem Kind.aS{k:Kind}{v:Value}{x:k.ty}(h:k.get v=some x):v=k.val x:=by
 cases k with
 |one t=>exact Tag.aS h
 |agg ts=>
  cases v<;>simp only[Kind.get] at h<;>try cases h
  rename_i cs
  simp only[Kind.val]
  rw[←Tup.aP ts _ x h]
def B7Z:C3E→Option (List Tag)
 |[]=>some []
 |v::vs=>match Tag.of v with
  |some t=>match B7Z vs with
   |some ts=>some (t::ts)
   |none=>none
  |none=>none
def Kind.of:Value→Option Kind
 |.agg cs=>match B7Z cs.toList with
  |some ts=>some (.agg ts)
  |none=>none
 |v=>match Tag.of v with
  |some t=>some (.one t)
  |none=>none
def kindOf(P:Program)(t:TypeId):Option Kind:=
 match P.info? t with
 |some i=>match i.zero with
  |some z=>Kind.of z
  |none=>none
 |none=>none
abbrev R0(ks:List Kind):Type:=HT Kind.ty ks
abbrev R0.vals(ks:List Kind)(x:R0 ks):C3E:=HT.vals Kind.val ks x
abbrev R0.get(ks:List Kind)(vs:C3E):Option (R0 ks):=HT.get Kind.get ks vs
theorem R0.aP(ks:List Kind)(vs:C3E)(x:R0 ks)(h:R0.get ks vs=some x):vs=R0.vals ks x:=
 HT.aP (val:=Kind.val) (get:=Kind.get) (fun k _ _ h=>Kind.aS (k:=k) h) ks vs x h
abbrev HM(α:Type):Type:=Heap→(α→Heap→Prop)→Prop
def O9{α:Type}(a:α):HM α:=fun h Q=>Q a h
def HM.bind{α β:Type}(m:HM α)(f:α→HM β):HM β:=fun h Q=>m h fun a h'=>f a h' Q
def M8{α:Type}:HM α:=fun _ _=>False
def X7{α:Type}(b:Bool)(x y:HM α):HM α:=fun h Q=>if b=true then x h Q else y h Q
def P7{α:Type}(p:Prop)(m:HM α):HM α:=fun h Q=>p∧m h Q
def Y4{α:Type}(x y:HM α):HM α:=fun h Q=>x h Q∧y h Q
def HM.loop{σ τ:Type}(body:σ→HM (σ⊕τ))(s:σ):HM τ:=fun h Q=>
 ∃(I:σ→Heap→Prop) (μ:σ→Heap→Nat),I s h∧∀s h,I s h→
  body s h fun r h'=>match r with
   |.inl s'=>I s' h'∧μ s' h'<μ s h
   |.inr t=>Q t h'
def R9(t:Tag)(a:Addr):HM t.ty:=fun h Q=>∃x,O5 h a=some (t.val x)∧Q x h
def N5(ts:List Tag)(a:Addr):HM (Tup ts):=fun h Q=>
 ∃x,(∀i v,(Tup.vals ts x)[i]? =some v→O5 h (a.add i)=some v)∧Q x h
def A3d(a:Addr)(v:Value):HM Unit:=fun h Q=>
 (O5 h a).isSome=true∧V5 h a=false∧v.oneCell'=true∧Q () (U7 h a v)
def S8(h:Heap)(a:Addr):C3E→Nat→Heap
 |[],_=>h
 |v::vs,i=>S8 (U7 h (a.add i) v) a vs (i+1)
def A0f(a:Addr)(vs:C3E):HM Unit:=fun h Q=>
 (∀i v,vs[i]? =some v→(O5 h (a.add i)).isSome=true∧V5 h (a.add i)=false∧v.oneCell'=true)∧Q () (S8 h a vs 0)
def HM.new(o:Obj):HM Nat:=fun h Q=>Q h.size (h.push o)
def B1t(p:C3C):HM Addr:=fun h Q=>∃a,p=some a∧Q a h
def r8(a:C3C)(len:Nat)(i:Int)(size:Nat):HM Addr:=fun h Q=>
 ∃x,a=some x∧0≤i∧i<(len:Int)∧Q (x.add (i.toNat*size)) h
def A9U(s:B1q)(i:Int):HM Int:=fun h Q=>
 ∃b,0≤i∧s[i.toNat]? =some b∧Q (b.toNat:Int) h
def Q0(P:Program)(f:FuncId):Prop:=∀args w,(callFunc f args).run P w=.ok (.enter f args) w
def O3(P:Program)(k:Kind)(f:FuncId)(args:C3D):HM k.ty:=fun h Q=>
 N9 P f args h fun v h'=>∃x,v=k.val x∧Q x h'
def Q4(P:Program)(ks:List Kind)(f:FuncId)(args:C3D):HM (R0 ks):=fun h Q=>
 N9 P f args h fun v h'=>∃x,v=.tuple (R0.vals ks x).toArray∧Q x h'
def B6n(P:Program)(k:Kind)(v:Value)(args:C3D):HM k.ty:=fun h Q=>
 ∃f first captured,v=.func (.func f) first captured∧Q0 P f∧N9 P f (first++args++captured) h fun v h'=>∃x,v=k.val x∧Q x h'
def A1q(P:Program)(ks:List Kind)(v:Value)(args:C3D):HM (R0 ks):=fun h Q=>
 ∃f first captured,v=.func (.func f) first captured∧Q0 P f∧N9 P f (first++args++captured) h fun v h'=>∃x,v=.tuple (R0.vals ks x).toArray∧Q x h'
def P5(s:Slc)(lo hi mx:Nat)(size:Nat):Slc:=
 ⟨if mx=lo then s.a else s.a.map (·.add (lo*size)),hi-lo,mx-lo⟩
def b6(x:Option Int)(none:Prop)(m bound:Nat):Prop:=
 match x with
 |some x=>x=(m:Int)∧m≤bound
 |.none=>none
def HM.slice(s:Slc)(lo hi mx:Option Int)(size:Nat):HM Slc:=fun h Q=>
 ∃l hh m:Nat,b6 mx (m=s.cap) m s.cap∧b6 hi (mx=none∧hh=s.len) hh m∧b6 lo (l=0) l hh∧Q (P5 s l hh m size) h
def r7(s:B1q)(lo hi:Option Int):HM B1q:=fun h Q=>
 ∃l hh:Nat,b6 hi (hh=s.size) hh s.size∧b6 lo (l=0) l hh∧Q (s.extract l hh) h
def A0x(h:Heap)(a:C3C)(n:Nat)(vs:C3D):Prop:=
 match a with
 |some x=>vs.size=n∧∀(i:Nat) v,vs[i]? =some v→O5 h (x.add i)=some v
 |none=>vs=#[]
def B9l(zero:C3D)(s:Slc):HM Unit:=fun h Q=>
 match s.a with
 |none=>Q () h
 |some a=>if s.len=0 then Q () h else
  (∀(i:Nat) v,(Builtin.zeroCells zero s.len).toList[i]? =some v→(O5 h (a.add i)).isSome=true∧V5 h (a.add i)=false∧v.oneCell'=true)∧
   Q () (S8 h a (Builtin.zeroCells zero s.len).toList 0)
def B9k(r:Option Nat):HM Unit:=fun h Q=>
 match r with
 |none=>Q () h
 |some b=>∃(es:Array MapEntry) (clock:Nat),h[b]? =some (.map es clock)∧Q () (h.setIfInBounds b (.map #[] clock))
def HM.append(elem:TypeId)(size bytes:Nat)(zero:C3D)(s:Slc)(n:Nat)(src:Heap→C3D→Prop):HM Slc:=fun h Q=>
 (s.len+n≤s.cap→∃vs,src h vs∧
  match s.a with
  |some a=>(∀i v,vs[i]? =some v→(O5 h ((a.add (s.len*size)).add i)).isSome=true∧V5 h ((a.add (s.len*size)).add i)=false∧v.oneCell'=true)∧
    Q ⟨s.a,s.len+n,s.cap⟩ (S8 h (a.add (s.len*size)) vs.toList 0)
  |none=>Q ⟨none,s.len+n,s.cap⟩ h)∧
 (s.cap<s.len+n→(s.len+n:Nat)≤9223372036854775807∧Builtin.nextslicecap (s.len+n) s.cap*bytes≤2 ^ 48∧∃old vs,A0x h s.a (s.len*size) old∧src h vs∧
  ∀c,s.len+n≤c→c≤9223372036854775807→Q ⟨some ⟨h.size,0,none⟩,s.len+n,c⟩ (h.push (.cells (old++vs++Builtin.zeroCells zero (c-(s.len+n))) elem)))
def P8(size:Nat)(x:Slc)(h:Heap)(vs:C3D):Prop:=A0x h x.a (x.len*size) vs
def A5S(s:B1q)(_:Heap)(vs:C3D):Prop:=vs=s.data.map fun b=>.int .u8 b.toNat
def HM.makeSlice(elem:TypeId)(bytes:Nat)(zero:C3D)(n c:Int):HM Slc:=fun h Q=>
 0≤n∧n≤c∧c≤9223372036854775807∧(bytes:Int)*c≤2 ^ 48∧
  Q ⟨some ⟨h.size,0,none⟩,n.toNat,c.toNat⟩ (h.push (.cells (Builtin.zeroCells zero c.toNat) elem))
def C0n(d:Slc)(n:Nat)(src:Nat→Heap→C3D→Prop):HM Int:=fun h Q=>
 ∃vs,src (Nat.min n d.len) h vs∧
  match d.a with
  |some a=>(∀i v,vs[i]? =some v→(O5 h (a.add i)).isSome=true∧V5 h (a.add i)=false∧v.oneCell'=true)∧Q ((Nat.min n d.len:Nat):Int) (S8 h a vs.toList 0)
  |none=>Q ((Nat.min n d.len:Nat):Int) h
def A2G(h:Heap)(r:Option Nat)(es:List MapEntry)(clock:Nat):Prop:=
 match r with
 |none=>es=[]∧clock=0
 |some r=>h[r]? =some (.map es.toArray clock)
abbrev k4:=Value→Value→Option Bool
def U4(sm:k4)(k:Value):List MapEntry→Nat→Option (Option (Nat×Value))
 |[],_=>some none
 |e::es,i=>match sm k e.key with
  |some true=>some (some (i,e.val))
  |some false=>U4 sm k es (i+1)
  |none=>none
def placeOf(sm:k4)(k:Value)(es:List MapEntry):Option (Option (Nat×Value)):=U4 sm k es 0
theorem A6Z(kd:TypeDesc)(k:Value):∀(es:List MapEntry) (i:Nat),U4 (Instr.sameNow kd) k es i=Instr.findNow kd k es i
 |[],_=>rfl
 |e::es,i=>by
  simp only[U4,Instr.findNow]
  rw[A6Z kd k es (i+1)]
  cases Instr.sameNow kd k e.key with
  |none=>rfl
  |some b=>cases b<;>rfl
def HM.lookup(kd:k4)(zero:Value)(k:Kind)(r:Option Nat)(key:Value):HM (k.ty×Bool):=fun h Q=>
 ∃es clock o x,A2G h r es clock∧placeOf kd key es=some o∧
  (match o with|some (_,v)=>v=k.val x|none=>zero=k.val x)∧Q (x,o.isSome) h
def B6q(kd:k4)(r:Option Nat)(key val:Value):HM Unit:=fun h Q=>
 ∃b es clock o,r=some b∧h[b]? =some (.map es clock)∧placeOf kd key es.toList=some o∧
  match o with
  |some (i,_)=>((es[i]?).map (·.key)).getD key=key∧Instr.sameBits 10000 key key=true∧Q () (h.setIfInBounds b (.map (es.modify i fun e=>{e with key:=key,val:=val}) clock))
  |none=>Q () (h.setIfInBounds b (.map (es.push {key:=key,val:=val,born:=clock}) (clock+1)))
def HM.mapEntry(kd:k4)(zero:Value)(k:Kind)(r:Option Nat)(key:Value):HM (k.ty×Int):=fun h Q=>
 ∃b es clock o,r=some b∧h[b]? =some (.map es clock)∧placeOf kd key es.toList=some o∧
  match o with
  |some (i,v)=>((es[i]?).map (·.key)).getD key=key∧Instr.sameBits 10000 key key=true∧
    ∃x,v=k.val x∧Q (x,(((es[i]?).map (·.born)).getD 0:Nat)) (h.setIfInBounds b (.map (es.modify i fun e=>{e with key:=key}) clock))
  |none=>∃x,zero=k.val x∧Q (x,(clock:Int)) (h.setIfInBounds b (.map (es.push {key:=key,val:=zero,born:=clock}) (clock+1)))
def HM.entryStore(r:Option Nat)(stamp:Int)(val:Value):HM Unit:=fun h Q=>
 ∃b es clock i,r=some b∧h[b]? =some (.map es clock)∧es.findIdx? (fun e=>(e.born:Int)==stamp)=some i∧
  Q () (h.setIfInBounds b (.map (es.modify i fun e=>{e with val:=val}) clock))
def B6p(kd:k4)(r:Option Nat)(key:Value):HM Unit:=fun h Q=>
 match r with
 |none=>Q () h
 |some b=>∃es clock o,h[b]? =some (.map es clock)∧placeOf kd key es.toList=some o∧
  match o with
  |some (i,_)=>Q () (h.setIfInBounds b (.map (es.eraseIdxIfInBounds i) clock))
  |none=>Q () (h.setIfInBounds b (.map es clock))
def B4n(r:Option Nat):HM Nat:=fun h Q=>
 match r with
 |none=>Q h.size (h.push (.mapIter none 0 #[] 0))
 |some m=>∃es clock,h[m]? =some (.map es clock)∧Q h.size (h.push (.mapIter (some m) clock #[] clock))
def B4m(b:Nat):HM (Option (Value×Value)):=fun h Q=>
 ∃m since seen last,h[b]? =some (.mapIter m since seen last)∧
  match m with
  |none=>Q none h
  |some m=>∃es clock,h[m]? =some (.map es clock)∧(!seen.isEmpty && !es.isEmpty &&es.all (fun e=>e.born≥last))=false∧
    ((∀e∈es,seen.contains e.born=false→since≤e.born)→Q none h)∧
    ∀e∈es,seen.contains e.born=false→Q (some (e.key,e.val)) (h.setIfInBounds b (.mapIter (some m) since (seen.push e.born) clock))
def B6o(kk kv:Kind)(b:Nat):HM (kk.ty×kv.ty):=fun h Q=>
 ∃m since seen stepped es stamp e k v,h[b]? =some (.mapIter (some m) since seen stepped)∧seen.back?=some stamp∧h[m]? =some (.map es stepped)∧
  es.find? (fun e=>e.born==stamp)=some e∧e.key=kk.val k∧e.val=kv.val v∧Q (k,v) h
def C0J(b:Nat):HM (Option (Int×Int)):=fun h Q=>
 ∃s pos,h[b]? =some (.stringIter s pos)∧
  (pos<s.size→Q (some ((pos:Int),((Utf8.decode s pos).1:Int))) (h.setIfInBounds b (.stringIter s (pos+(Utf8.decode s pos).2))))∧
  (¬pos<s.size→Q none h)
def A3c{α β:Type}(o:Option α)(a:HM β)(f:α→HM β):HM β:=fun h Q=>
 match o with
 |none=>a h Q
 |some x=>f x h Q
def P1(ns:List Int):B1q:=ns.foldl (fun r n=>r.push (UInt8.ofNat n.toNat)) ByteArray.empty
def y8(s:Slc):HM B1q:=fun h Q=>∃ns:List Int,A0x h s.a s.len (ns.map (Value.int .u8)).toArray∧Q (P1 ns) h
def B9m(r:Option Nat):HM Int:=fun h Q=>∃es clock,A2G h r es clock∧Q (es.length:Int) h
section
abbrev Env:=List (Nat×Value)
def Env.get:Env→Nat→Option Value
 |[],_=>none
 |(t,v)::e,n=>match Nat.beq t n with
  |true=>some v
  |false=>Env.get e n
def X2:Nat→List Nat→Bool
 |_,[]=>false
 |n,t::ts=>match Nat.beq t n with
  |true=>true
  |false=>X2 n ts
def Env.forget(ts:List Nat):Env→Env
 |[]=>[]
 |(t,v)::e=>match X2 t ts with
  |true=>Env.forget ts e
  |false=>(t,v)::Env.forget ts e
def Env.put(e:Env)(dst:Option Tmp)(v:Value):Env:=
 match dst with
 |some d=>(d,v)::e
 |none=>e
def Env.ev(e:Env):Operand→Option Value
 |.tmp t=>e.get t
 |.const v=>some v
 |.global g=>some (.pointer (some ⟨g,0,none⟩))
 |.func f=>some (.func (.func f) #[] #[])
def Env.cH(e:Env):List Operand→Option (C3E)
 |[]=>some []
 |x::xs=>match e.ev x with
  |some v=>match Env.cH e xs with
   |some vs=>some (v::vs)
   |none=>none
  |none=>none
def A0e(op:BinOp)(k:IntKind)(x y:Int):Int:=
 let a:=BitVec.ofInt k.bits x
 let b:=BitVec.ofInt k.bits y
 match op with
 |.and=>k.wrap (a&&& b).toNat
 |.or=>k.wrap (a|||b).toNat
 |.xor=>k.wrap (a ^^^ b).toNat
 |_=>k.wrap (a&&& ~~~b).toNat
def A0C:Value→Bool
 |.nilIface=>true
 |_=>false
def isIface:Value→Bool
 |.nilIface=>true
 |.iface _ _=>true
 |_=>false
def B2g:Value→Bool
 |.nilFunc=>true
 |_=>false
def A1H:Value→Bool
 |.nilFunc=>true
 |.func _ _ _=>true
 |_=>false
section
variable {ρ:Type}
def V8(neg:Bool)(r:Bool):Bool:=
 match neg with
 |true=> !r
 |false=>r
def A9A(op:BinOp)(kx ky:IntKind)(a b:Int)(k:Value→HM ρ):HM ρ:=
 match op with
 |.shl=>P7 (0≤b) (k (.int kx (kx.wrap (a*2 ^ (min b.toNat kx.bits)))))
 |.shr=>P7 (0≤b) (k (.int kx (a.fdiv (2 ^ (min b.toNat kx.bits)))))
 |op=>match A1e kx ky with
  |false=>M8
  |true=>match op with
   |.add=>k (.int kx (kx.wrap (a+b)))
   |.sub=>k (.int kx (kx.wrap (a-b)))
   |.mul=>k (.int kx (kx.wrap (a*b)))
   |.quo=>P7 (b≠0) (k (.int kx (kx.wrap (a.tdiv b))))
   |.rem=>P7 (b≠0) (k (.int kx (a.tmod b)))
   |.and=>k (.int kx (A0e .and kx a b))
   |.or=>k (.int kx (A0e .or kx a b))
   |.xor=>k (.int kx (A0e .xor kx a b))
   |.andNot=>k (.int kx (A0e .andNot kx a b))
   |.lss=>k (.bool (decide (a<b)))
   |.leq=>k (.bool (decide (a≤b)))
   |.gtr=>k (.bool (decide (b<a)))
   |.geq=>k (.bool (decide (b≤a)))
   |_=>M8
def B2s(op:BinOp)(a b:B1q)(k:Value→HM ρ):HM ρ:=
 match op with
 |.add=>P7 (a.size+b.size≤9223372036854775807) (k (.string (a++b)))
 |.lss=>k (.bool (Op.bytesLess a.toList b.toList))
 |.leq=>k (.bool (Op.bytesLess a.toList b.toList||a.toList==b.toList))
 |.gtr=>k (.bool !(Op.bytesLess a.toList b.toList||a.toList==b.toList))
 |.geq=>k (.bool !(Op.bytesLess a.toList b.toList))
 |_=>M8
def A1I:TypeDesc→Bool
 |.struct _=>true
 |.array _ _=>true
 |_=>false
def l8(P:Program)(t:TypeId)(cs:C3E)(off:Nat):Option Value:=
 match P.underlying t with
 |some d=>match A1I d with
  |true=>some (.agg ((cs.drop off).take (P.cellsOf t)).toArray)
  |false=>cs[off]?
 |none=>none
def A7J(P:Program)(rec:TypeId→Value→Value→Option Bool)(xs ys:C3E):List Field→Option Bool
 |[]=>some true
 |f::fs=>match decide (f.name= "_") with
  |true=>none
  |false=>match l8 P f.type xs f.offset with
   |none=>none
   |some a=>match l8 P f.type ys f.offset with
    |none=>none
    |some b=>match rec f.type a b with
     |none=>none
     |some r=>match A7J P rec xs ys fs with
      |none=>none
      |some r'=>some (r&&r')
def A3H(P:Program):Nat→TypeId→Value→Value→Option Bool
 |0,_,_,_=>none
 |d+1,t,x,y=>match P.underlying t with
  |some (.int _)=>match x,y with
   |.int k a,.int k' b=>match A1e k k' with
    |true=>some (a==b)
    |false=>none
   |_,_=>none
  |some .bool=>match x,y with
   |.bool a,.bool b=>some (a==b)
   |_,_=>none
  |some .string=>match x,y with
   |.string a,.string b=>some (decide (a=b))
   |_,_=>none
  |some (.struct fs)=>match P.stoodInHeld t with
   |true=>none
   |false=>match x,y with
    |.agg xs,.agg ys=>A7J P (A3H P d) xs.toList ys.toList fs.toList
    |_,_=>none
  |_=>none
def o8(P:Program)(neg:Bool)(t:TypeId)(yo:Operand)(x y:Value)(k:Value→HM ρ):HM ρ:=
 match P.underlying t with
 |some (.pointer _)=>match yo with
  |.const (.pointer none)=>match x with
   |.pointer p=>k (.bool (V8 neg p.isNone))
   |_=>M8
  |_=>M8
 |some (.slice _)=>match yo with
  |.const (.slice none _ _)=>match x with
   |.slice p _ _=>k (.bool (V8 neg p.isNone))
   |_=>M8
  |_=>M8
 |some (.map _ _)=>match yo with
  |.const (.map none)=>match x with
   |.map p=>k (.bool (V8 neg p.isNone))
   |_=>M8
  |_=>M8
 |some (.interface _)=>match yo with
  |.const .nilIface=>P7 (isIface x=true) (k (.bool (V8 neg (A0C x))))
  |_=>M8
 |some (.func _ _ _)=>match yo with
  |.const .nilFunc=>P7 (A1H x=true) (k (.bool (V8 neg (B2g x))))
  |_=>M8
 |some (.int _)=>match x,y with
  |.int kx a,.int ky b=>match A1e kx ky with
   |true=>k (.bool (V8 neg (a==b)))
   |false=>M8
  |_,_=>M8
 |some .bool=>match x,y with
  |.bool a,.bool b=>k (.bool (V8 neg (a==b)))
  |_,_=>M8
 |some .string=>match x,y with
  |.string a,.string b=>k (.bool (V8 neg (decide (a=b))))
  |_,_=>M8
 |some (.struct _)=>match x with
  |.agg _=>match A3H P 8 t x y with
   |some r=>k (.bool (V8 neg r))
   |none=>M8
  |_=>M8
 |_=>M8
def A2T(P:Program)(op:BinOp)(t:TypeId)(yo:Operand)(x y:Value)(k:Value→HM ρ):HM ρ:=
 match op with
 |.eql=>o8 P false t yo x y k
 |.neq=>o8 P true t yo x y k
 |op=>match x,y with
  |.int kx a,.int ky b=>A9A op kx ky a b k
  |.string a,.string b=>B2s op a b k
  |_,_=>M8
def B6g(op:UnOp)(x:Value)(k:Value→HM ρ):HM ρ:=
 match op,x with
 |.not,.bool b=>k (.bool !b)
 |.neg,.int kd n=>k (.int kd (kd.wrap (0-n)))
 |.xor,.int kd n=>k (.int kd (A0e .xor kd (if kd.signed then -1 else kd.max) n))
 |_,_=>M8
def A1Q(P:Program)(t:TypeId)(x:Value)(k:Value→HM ρ):HM ρ:=
 match x with
 |.pointer (some a)=>match P.underlying t with
  |some d=>match A1I d with
   |true=>match kindOf P t with
    |some (.agg ts)=>match Nat.beq ts.length (P.cellsOf t) with
     |true=>(N5 ts a).bind fun vs=>k (.agg (Tup.vals ts vs).toArray)
     |false=>M8
    |_=>M8
   |false=>match kindOf P t with
    |some (.one tg)=>(R9 tg a).bind fun v=>k (tg.val v)
    |_=>M8
  |none=>M8
 |_=>M8
def Y3(kd:Kind)(v:Value):Option (C3E):=
 match kd with
 |.one _=>some [v]
 |.agg ts=>match v with
  |.agg cs=>match Nat.beq cs.toList.length ts.length with
   |true=>some cs.toList
   |false=>none
  |_=>none
def Tag.isAny:Tag→Bool
 |.any=>true
 |_=>false
def A5U(kd:Kind)(v:Value)(m:HM ρ):HM ρ:=
 match kd with
 |.one tg=>match tg.isAny with
  |true=>P7 (v.oneCell'=true) m
  |false=>match tg.get v with
   |some _=>m
   |none=>M8
 |.agg _=>m
def A0E(P:Program)(t:TypeId)(x v:Value)(k:Value→HM ρ):HM ρ:=
 match x with
 |.pointer (some a)=>match kindOf P t with
  |some kd=>match Y3 kd v with
   |some cs=>match Nat.beq cs.length (P.cellsOf t) with
    |true=>match kd with
     |.one _=>(A3d a v).bind fun _=>k undef
     |.agg _=>(A0f a cs).bind fun _=>k undef
    |false=>M8
   |none=>M8
  |none=>M8
 |_=>M8
def A9G(P:Program)(t:TypeId)(v:Value)(k:Value→HM ρ):HM ρ:=
 match kindOf P t with
 |some kd=>match Y3 kd v with
  |some cs=>A5U kd v ((HM.new (.cells cs.toArray t)).bind fun r=>k (.pointer (some ⟨r,0,none⟩)))
  |none=>M8
 |none=>M8
def A2U(P:Program)(t:TypeId)(k:Value→HM ρ):HM ρ:=
 match P.info? t with
 |some i=>match i.zero with
  |some z=>(HM.new (.cells z.cells t)).bind fun r=>k (.pointer (some ⟨r,0,none⟩))
  |none=>M8
 |none=>M8
def V4:C3E→Nat→C3E→C3E
 |cs,_,[]=>cs
 |[],_,_::_=>[]
 |_::cs,0,v::vs=>v::V4 cs 0 vs
 |c::cs,n+1,v::vs=>c::V4 cs n (v::vs)
def z8(place:Nat→Option (Nat×Kind)):C3E→List (Nat×Value)→Option (C3E)
 |cs,[]=>some cs
 |cs,(i,v)::rest=>match place i with
  |some (off,kd)=>match Y3 kd v with
   |some vs=>match Nat.ble (off+vs.length) cs.length with
    |true=>z8 place (V4 cs off vs) rest
    |false=>none
   |none=>none
  |none=>none
def y0(place:Nat→Option (Nat×Kind))(ps:List (Nat×Value))(m:HM ρ):HM ρ:=
 match ps with
 |[]=>m
 |(i,v)::rest=>match place i with
  |some (_,kd)=>A5U kd v (y0 place rest m)
  |none=>M8
def s6(e:Env):List (Nat×Operand)→Option (List (Nat×Value))
 |[]=>some []
 |(i,x)::xs=>match e.ev x with
  |some v=>match s6 e xs with
   |some vs=>some ((i,v)::vs)
   |none=>none
  |none=>none
def Y8(P:Program)(fields:Array Field)(i:Nat):Option (Nat×Kind):=
 match fields.toList[i]? with
 |some f=>match kindOf P f.type with
  |some kd=>match kd with
   |.one tg=>match Nat.beq (P.cellsOf f.type) 1 with
    |true=>some (f.offset,.one tg)
    |false=>none
   |.agg ts=>match Nat.beq (P.cellsOf f.type) ts.length with
    |true=>some (f.offset,.agg ts)
    |false=>none
  |none=>none
 |none=>none
def T5(P:Program)(elem:TypeId)(i:Nat):Option (Nat×Kind):=
 match kindOf P elem with
 |some kd=>match kd with
  |.one tg=>match Nat.beq (P.cellsOf elem) 1 with
   |true=>some (i,.one tg)
   |false=>none
  |.agg ts=>match Nat.beq (P.cellsOf elem) ts.length with
   |true=>some (i*ts.length,.agg ts)
   |false=>none
 |none=>none
def A3C(P:Program):List Field→Bool
 |[]=>true
 |f::r=>match P.info? f.type with
  |some _=>A3C P r
  |none=>false
def A2S(P:Program)(t:TypeId)(ps:List (Nat×Value))(k:Value→HM ρ):HM ρ:=
 match P.underlying t with
 |some (.struct fields)=>match A3C P fields.toList with
  |true=>match P.info? t with
   |some i=>match i.zero with
    |some z=>match z8 (Y8 P fields) z.cells.toList ps with
     |some cs=>y0 (Y8 P fields) ps (k (.agg cs.toArray))
     |none=>M8
    |none=>M8
   |none=>M8
  |false=>M8
 |some (.array _ elem)=>match P.info? t with
  |some i=>match i.zero with
   |some z=>match P.info? elem with
    |some _=>match z8 (T5 P elem) z.cells.toList ps with
     |some cs=>y0 (T5 P elem) ps (k (.agg cs.toArray))
     |none=>M8
    |none=>M8
   |none=>M8
  |none=>M8
 |_=>M8
def B1W(z:C3E):Nat→C3E
 |0=>[]
 |n+1=>z++B1W z n
def b8(P:Program)(t:TypeId)(len:Nat)(ps:List (Nat×Value))(k:Value→HM ρ):HM ρ:=
 match P.underlying t with
 |some (.slice elem)=>match P.info? elem with
  |some i=>match i.zero with
   |some z=>match Nat.beq z.cells.toList.length i.size with
    |true=>match Nat.ble (len*i.size) 16777216 with
     |true=>match Nat.ble 1 i.size with
      |true=>match z8 (T5 P elem) (B1W z.cells.toList len) ps with
       |some cs=>y0 (T5 P elem) ps ((HM.new (.cells cs.toArray elem)).bind fun r=>k (.slice (some ⟨r,0,none⟩) len len))
       |none=>M8
      |false=>M8
     |false=>M8
    |false=>M8
   |none=>M8
  |none=>M8
 |_=>M8
def m5(P:Program)(s:TypeId)(x:Value)(f:Nat)(k:Value→HM ρ):HM ρ:=
 match x with
 |.pointer (some a)=>match P.underlying s with
  |some (.struct fields)=>match fields.toList[f]? with
   |some fd=>match Nat.ble 1 (P.cellsOf fd.type) with
    |true=>k (.pointer (some (a.add fd.offset)))
    |false=>M8
   |none=>M8
  |_=>M8
 |_=>M8
def A2P(P:Program)(t:TypeId)(x:Value)(f:Nat)(k:Value→HM ρ):HM ρ:=
 match x with
 |.agg cs=>match P.underlying t with
  |some (.struct fields)=>match fields.toList[f]? with
   |some fd=>match l8 P fd.type cs.toList fd.offset with
    |some v=>k v
    |none=>M8
   |none=>M8
  |_=>M8
 |_=>M8
def Z5(P:Program)(t:TypeId)(x i:Value)(k:Value→HM ρ):HM ρ:=
 match i with
 |.int _ n=>match P.underlying t with
  |some (.slice elem)=>match x with
   |.slice a len _=>match P.info? elem with
    |some inf=>(r8 a len n inf.size).bind fun ad=>k (.pointer (some ad))
    |none=>M8
   |_=>M8
  |some (.array len elem)=>match x with
   |.pointer (some a)=>match P.info? elem with
    |some inf=>(r8 (some a) len n inf.size).bind fun ad=>k (.pointer (some ad))
    |none=>M8
   |_=>M8
  |_=>M8
 |_=>M8
def A2O(P:Program)(t:TypeId)(x i:Value)(k:Value→HM ρ):HM ρ:=
 match i with
 |.int _ n=>match P.underlying t with
  |some .string=>match x with
   |.string s=>(A9U s n).bind fun b=>k (.int .u8 b)
   |_=>M8
  |_=>M8
 |_=>M8
def A0A(e:Env):Option Operand→Option (Option Int)
 |none=>some none
 |some x=>match e.ev x with
  |some (.int _ n)=>some (some n)
  |_=>none
def U9(P:Program)(t:TypeId)(x:Value)(lo hi mx:Option Int)(k:Value→HM ρ):HM ρ:=
 match P.underlying t with
 |some .string=>match x with
  |.string s=>match mx with
   |none=>(r7 s lo hi).bind fun r=>k (.string r)
   |some _=>M8
  |_=>M8
 |some (.slice elem)=>match x with
  |.slice a n c=>match P.info? elem with
   |some inf=>(HM.slice ⟨a,n,c⟩ lo hi mx inf.size).bind fun s=>k (.slice s.a s.len s.cap)
   |none=>M8
  |_=>M8
 |_=>M8
def plainKey:TypeDesc→Bool
 |.int _=>true
 |.string=>true
 |.bool=>true
 |_=>false
def m1(P:Program)(kt:TypeId)(kd:TypeDesc):k4:=
 match kd with
 |.struct _=>A3H P 8 kt
 |d=>Instr.sameNow d
def A0Y(P:Program)(kt:TypeId)(kd:TypeDesc)(key:Value)(m:HM ρ):HM ρ:=
 match plainKey kd with
 |true=>m
 |false=>match kd with
  |.struct _=>P7 (A3H P 8 kt key key=some true) m
  |_=>M8
def A1j(P:Program)(t:TypeId)(x key:Value)(ok:Bool)(k:Value→HM ρ):HM ρ:=
 match P.underlying t with
 |some (.map kt et)=>match P.underlying kt with
  |some kd=>A0Y P kt kd key (match x with
   |.map r=>match P.info? et with
    |some i=>match i.zero with
     |some z=>match Kind.of z with
      |some ek=>(HM.lookup (m1 P kt kd) z ek r key).bind fun p=>match ok with
       |true=>k (.tuple #[ek.val p.1,.bool p.2])
       |false=>k (ek.val p.1)
      |none=>M8
     |none=>M8
    |none=>M8
   |_=>M8)
  |none=>M8
 |_=>M8
def A0s(P:Program)(t:TypeId)(x key v:Value)(k:Value→HM ρ):HM ρ:=
 match P.underlying t with
 |some (.map kt _)=>match P.underlying kt with
  |some kd=>A0Y P kt kd key (match x with
   |.map r=>(B6q (m1 P kt kd) r key v).bind fun _=>k undef
   |_=>M8)
  |none=>M8
 |_=>M8
def A2N(P:Program)(t:TypeId)(x key:Value)(k:Value→HM ρ):HM ρ:=
 match P.underlying t with
 |some (.map kt et)=>match P.underlying kt with
  |some kd=>A0Y P kt kd key (match x with
   |.map r=>match P.info? et with
    |some i=>match i.zero with
     |some z=>match Kind.of z with
      |some ek=>(HM.mapEntry (m1 P kt kd) z ek r key).bind fun p=>k (.tuple #[ek.val p.1,.int .i64 p.2])
      |none=>M8
     |none=>M8
    |none=>M8
   |_=>M8)
  |none=>M8
 |_=>M8
def A02(x stamp v:Value)(k:Value→HM ρ):HM ρ:=
 match x with
 |.map r=>match stamp with
  |.int _ n=>(HM.entryStore r n v).bind fun _=>k undef
  |_=>M8
 |_=>M8
def V9(P:Program)(ts:List TypeId)(vs:C3E)(k:Value→HM ρ):HM ρ:=
 match ts,vs with
 |[t,u],[s,x]=>match P.underlying t with
  |some (.slice elem)=>match s with
   |.slice a n c=>match P.info? elem with
    |some i=>match i.zero with
     |some z=>match P.underlying u with
      |some (.slice _)=>match x with
       |.slice b m d=>(HM.append elem i.size i.bytes z.cells ⟨a,n,c⟩ m (P8 i.size ⟨b,m,d⟩)).bind fun s=>k (.slice s.a s.len s.cap)
       |_=>M8
      |some .string=>match x with
       |.string b=>(HM.append elem i.size i.bytes z.cells ⟨a,n,c⟩ b.size (A5S b)).bind fun s=>k (.slice s.a s.len s.cap)
       |_=>M8
      |_=>M8
     |none=>M8
    |none=>M8
   |_=>M8
  |_=>M8
 |_,_=>M8
def Z8(P:Program)(ts:List TypeId)(vs:C3E)(k:Value→HM ρ):HM ρ:=
 match ts,vs with
 |[t],[x]=>match P.underlying t with
  |some .string=>match x with
   |.string s=>k (.int .i64 (s.size:Int))
   |_=>M8
  |some (.slice _)=>match x with
   |.slice _ n _=>k (.int .i64 (n:Int))
   |_=>M8
  |some (.array n _)=>k (.int .i64 (n:Int))
  |some (.map _ _)=>match x with
   |.map r=>(B9m r).bind fun n=>k (.int .i64 n)
   |_=>M8
  |_=>M8
 |_,_=>M8
def A0r(max:Bool)(vs:C3E)(k:Value→HM ρ):HM ρ:=
 match vs with
 |[.int ka a,.int kb b]=>match A1e ka kb with
  |true=>match max with
   |true=>k (.int ka (if a<b then b else a))
   |false=>k (.int ka (if b<a then b else a))
  |false=>M8
 |[.int ka a,.int kb b,.int kc c]=>match A1e ka kb&&A1e ka kc with
  |true=>match max with
   |true=>k (.int ka (if(if a<b then b else a)<c then c else(if a<b then b else a)))
   |false=>k (.int ka (if c<(if b<a then b else a) then c else(if b<a then b else a)))
  |false=>M8
 |_=>M8
def A1l(P:Program)(ts:List TypeId)(vs:C3E)(k:Value→HM ρ):HM ρ:=
 match ts,vs with
 |t::_,[x,key]=>match P.underlying t with
  |some (.map kt _)=>match P.underlying kt with
   |some kd=>A0Y P kt kd key (match x with
    |.map r=>(B6p (m1 P kt kd) r key).bind fun _=>k (.tuple #[])
    |_=>M8)
   |none=>M8
  |_=>M8
 |_,_=>M8
def A1m(P:Program)(ts:List TypeId)(vs:C3E)(k:Value→HM ρ):HM ρ:=
 match ts,vs with
 |[t],[x]=>match P.underlying t with
  |some (.slice elem)=>match x with
   |.slice a n c=>match P.info? elem with
    |some i=>match i.zero with
     |some z=>(B9l z.cells ⟨a,n,c⟩).bind fun _=>k (.tuple #[])
     |none=>M8
    |none=>M8
   |_=>M8
  |some (.map _ _)=>match x with
   |.map r=>(B9k r).bind fun _=>k (.tuple #[])
   |_=>M8
  |_=>M8
 |_,_=>M8
def A1R(P:Program)(b:Builtin)(ts:List TypeId)(vs:C3E)(k:Value→HM ρ):HM ρ:=
 match b with
 |.len=>Z8 P ts vs k
 |.append=>V9 P ts vs k
 |.min=>A0r false vs k
 |.max=>A0r true vs k
 |.delete=>A1l P ts vs k
 |.clear=>A1m P ts vs k
 |_=>M8
inductive Ret where
 |one (k:Kind)
 |many (ks:List Kind)
def B58(P:Program):List TypeId→Option (List Kind)
 |[]=>some []
 |t::ts=>match kindOf P t with
  |some k=>match B58 P ts with
   |some ks=>some (k::ks)
   |none=>none
  |none=>none
def B3o(P:Program)(t:TypeId):Option Ret:=
 match P.underlying t with
 |some (.tuple es)=>match B58 P es.toList with
  |some ks=>some (.many ks)
  |none=>none
 |some _=>match kindOf P t with
  |some k=>some (.one k)
  |none=>none
 |none=>none
def A5z(P:Program)(C:List Nat)(t:TypeId)(f:Value)(vs:C3E)(k:Value→HM ρ):HM ρ:=
 match f with
 |.func (.func f) first captured=>match X2 f C with
  |true=>match B3o P t with
   |some (.one kd)=>(O3 P kd f (first.toList++(vs++captured.toList)).toArray).bind fun r=>k (kd.val r)
   |some (.many ks)=>(Q4 P ks f (first.toList++(vs++captured.toList)).toArray).bind fun r=>k (.tuple (R0.vals ks r).toArray)
   |none=>M8
  |false=>M8
 |_=>M8
def A2R(P:Program)(t:TypeId)(f:Value)(vs:C3E)(k:Value→HM ρ):HM ρ:=
 match B3o P t with
 |some (.one kd)=>(B6n P kd f vs.toArray).bind fun r=>k (kd.val r)
 |some (.many ks)=>(A1q P ks f vs.toArray).bind fun r=>k (.tuple (R0.vals ks r).toArray)
 |none=>M8
def X0(P:Program)(src dst:TypeId)(x:Value)(k:Value→HM ρ):HM ρ:=
 match P.underlying src with
 |none=>M8
 |some _=>match P.underlying dst with
  |some (.int kd)=>match x with
   |.int _ n=>k (.int kd (kd.wrap n))
   |_=>M8
  |some .string=>match x with
   |.string s=>k (.string s)
   |.slice a n c=>match P.underlying src with
    |some (.slice e)=>match P.underlying e with
     |some (.int .u8)=>(y8 ⟨a,n,c⟩).bind fun s=>k (.string s)
     |_=>M8
    |_=>M8
   |_=>M8
  |_=>M8
def m3(P:Program)(t:TypeId)(x:Value)(k:Value→HM ρ):HM ρ:=
 match P.underlying t with
 |some .string=>match x with
  |.string s=>(HM.new (.stringIter s 0)).bind fun b=>k (.pointer (some ⟨b,0,none⟩))
  |_=>M8
 |some (.map _ _)=>match x with
  |.map r=>(B4n r).bind fun b=>k (.pointer (some ⟨b,0,none⟩))
  |_=>M8
 |_=>M8
def A0V(str:Bool)(x:Value)(k:Value→HM ρ):HM ρ:=
 match x with
 |.pointer (some a)=>match Nat.beq a.off 0 with
  |false=>M8
  |true=>match str with
   |true=>(C0J a.block).bind fun o=>A3c o (k (.tuple #[.bool false])) fun p=>k (.tuple #[.bool true,.int .i64 p.1,.int .i32 p.2])
   |false=>(B4m a.block).bind fun o=>A3c o (k (.tuple #[.bool false])) fun p=>k (.tuple #[.bool true,p.1,p.2])
 |_=>M8
def A2M(x:Value)(k:Value→HM ρ):HM ρ:=
 match x with
 |.pointer p=>(B1t p).bind fun a=>k (.pointer (some a))
 |.func (.func f) first captured=>k (.func (.func f) first captured)
 |_=>M8
def m4(P:Program)(t:TypeId)(n c:Value)(k:Value→HM ρ):HM ρ:=
 match P.underlying t with
 |some (.slice elem)=>match P.info? elem with
  |some i=>match i.zero with
   |some z=>match Nat.beq z.cells.toList.length i.size with
    |true=>match n,c with
     |.int _ a,.int _ b=>(HM.makeSlice elem i.bytes z.cells a b).bind fun s=>k (.slice s.a s.len s.cap)
     |_,_=>M8
    |false=>M8
   |none=>M8
  |none=>M8
 |_=>M8
abbrev Dec:=List (Nat×Bool)
def Dec.get:Dec→Nat→Option Bool
 |[],_=>none
 |(t,b)::d,n=>match Nat.beq t n with
  |true=>some b
  |false=>Dec.get d n
def A5w(e:Env)(d:Dec)(c a b:Operand)(k:Value→HM ρ):HM ρ:=
 match c with
 |.tmp t=>match d.get t with
  |some true=>match e.ev a with
   |some v=>k v
   |none=>M8
  |some false=>match e.ev b with
   |some v=>k v
   |none=>M8
  |none=>match e.ev c,e.ev a,e.ev b with
   |some (.bool x),some (.bool y),some (.bool z)=>k (.bool (if x=true then y else z))
   |_,_,_=>M8
 |_=>M8
def T4(P:Program)(C:List Nat)(e:Env)(d:Dec)(o:Oper)(k:Value→HM ρ):HM ρ:=
 match o.op with
 |.move x=>match e.ev x with
  |some v=>k v
  |none=>M8
 |.assign x=>match e.ev x with
  |some v=>k v
  |none=>M8
 |.pick c a b=>A5w e d c a b k
 |.alloc t=>A2U P t k
 |.box t x=>match e.ev x with
  |some v=>A9G P t v k
  |none=>M8
 |.build t ps=>match s6 e ps.toList with
  |some vs=>A2S P t vs k
  |none=>M8
 |.buildSlice t n ps=>match s6 e ps.toList with
  |some vs=>b8 P t n vs k
  |none=>M8
 |.load t x=>match e.ev x with
  |some v=>A1Q P t v k
  |none=>M8
 |.store t x y=>match e.ev x with
  |some v=>match e.ev y with
   |some u=>A0E P t v u k
   |none=>M8
  |none=>M8
 |.nilCheck x=>match e.ev x with
  |some v=>A2M v k
  |none=>M8
 |.binOp op t x y _=>match e.ev x with
  |some v=>match e.ev y with
   |some u=>A2T P op t y v u k
   |none=>M8
  |none=>M8
 |.unOp op _ x=>match e.ev x with
  |some v=>B6g op v k
  |none=>M8
 |.convert s t x=>match e.ev x with
  |some v=>X0 P s t v k
  |none=>M8
 |.makeInterface t x=>match e.ev x with
  |some v=>match P.underlying t with
   |some (.interface _)=>M8
   |some _=>k (.iface t v)
   |none=>M8
  |none=>M8
 |.makeFunc fn first captured=>match e.cH first.toList with
  |some vs=>match e.cH captured.toList with
   |some us=>k (.func fn vs.toArray us.toArray)
   |none=>M8
  |none=>M8
 |.makeMap _ none=>(HM.new (.map #[] 0)).bind fun r=>k (.map (some r))
 |.makeSlice t n c=>match e.ev n with
  |some v=>match e.ev c with
   |some u=>m4 P t v u k
   |none=>M8
  |none=>M8
 |.slice t x lo hi mx=>match e.ev x with
  |some v=>match A0A e lo with
   |some l=>match A0A e hi with
    |some hh=>match A0A e mx with
     |some m=>U9 P t v l hh m k
     |none=>M8
    |none=>M8
   |none=>M8
  |none=>M8
 |.fieldAddr t x f=>match e.ev x with
  |some v=>m5 P t v f k
  |none=>M8
 |.field t x f=>match e.ev x with
  |some v=>A2P P t v f k
  |none=>M8
 |.indexAddr t x i=>match e.ev x with
  |some v=>match e.ev i with
   |some u=>Z5 P t v u k
   |none=>M8
  |none=>M8
 |.index t x i=>match e.ev x with
  |some v=>match e.ev i with
   |some u=>A2O P t v u k
   |none=>M8
  |none=>M8
 |.lookup t x i ok=>match e.ev x with
  |some v=>match e.ev i with
   |some u=>A1j P t v u ok k
   |none=>M8
  |none=>M8
 |.mapUpdate t x i y=>match e.ev x with
  |some v=>match e.ev i with
   |some u=>match e.ev y with
    |some z=>A0s P t v u z k
    |none=>M8
   |none=>M8
  |none=>M8
 |.insert t x i y=>match e.ev x with
  |some v=>match e.ev i with
   |some u=>match e.ev y with
    |some z=>A0s P t v u z k
    |none=>M8
   |none=>M8
  |none=>M8
 |.mapEntry t x i=>match e.ev x with
  |some v=>match e.ev i with
   |some u=>A2N P t v u k
   |none=>M8
  |none=>M8
 |.entryStore _ x i y=>match e.ev x with
  |some v=>match e.ev i with
   |some u=>match e.ev y with
    |some z=>A02 v u z k
    |none=>M8
   |none=>M8
  |none=>M8
 |.range t x=>match e.ev x with
  |some v=>m3 P t v k
  |none=>M8
 |.next x str=>match e.ev x with
  |some v=>A0V str v k
  |none=>M8
 |.extract x i=>match e.ev x with
  |some (.tuple vs)=>match vs.toList[i]? with
   |some v=>k v
   |none=>M8
  |_=>M8
 |.call c=>match e.cH c.args.toList with
  |some vs=>match c.callee with
   |.builtin b=>A1R P b c.argTypes.toList vs k
   |.value (.func f)=>A5z P C o.type (.func (.func f) #[] #[]) vs k
   |.value x=>match e.ev x with
    |some v=>A2R P o.type v vs k
    |none=>M8
   |.invoke _ _=>M8
  |none=>M8
 |_=>M8
inductive Cls where
 |stat|read|bD
def R3(P:Program)(op:Op):Cls:=
 match op with
 |.move _=>.stat
 |.assign _=>.stat
 |.pick _ _ _=>.stat
 |.nilCheck _=>.stat
 |.binOp _ _ _ _ _=>.stat
 |.unOp _ _ _=>.stat
 |.convert _ t _=>match P.underlying t with
  |some (.int _)=>.stat
  |_=>.bD
 |.makeInterface _ _=>.stat
 |.makeFunc _ _ _=>.stat
 |.build _ _=>.stat
 |.fieldAddr _ _ _=>.stat
 |.field _ _ _=>.stat
 |.indexAddr _ _ _=>.stat
 |.index _ _ _=>.stat
 |.slice _ _ _ _ _=>.stat
 |.extract _ _=>.stat
 |.load _ _=>.read
 |.lookup _ _ _ _=>.read
 |.call c=>match c.callee with
  |.builtin .len=>.read
  |_=>.bD
 |_=>.bD
def q7(ops:Array Oper)(j:Nat):Option Nat:=
 match ops.toList[j]? with
 |some o=>o.dst
 |none=>none
abbrev U2:=List (Nat×Value)
def again(P:Program)(C:List Nat)(ops:Array Oper)(b:Nat)(e:Env)(d:Dec):U2→HM ρ→HM ρ
 |[],m=>m
 |(i,v)::r,m=>match b.testBit i with
  |true=>again P C ops b e d r m
  |false=>match ops.toList[i]? with
   |some o=>T4 P C e d o fun v'=>P7 (v'=v) (again P C ops b e d r m)
   |none=>M8
def B8A(dst:Option Nat)(s:Nat):Bool:=
 match dst with
 |some t=>Nat.beq t s
 |none=>false
def A0y(P:Program)(dst:Option Nat)(i:Nat):List Oper→Kind
 |[]=>.one .any
 |o::r=>match o.op with
  |.extract (.tmp t) j=>match B8A dst t with
   |true=>match Nat.beq j i with
    |true=>match kindOf P o.type with
     |some k=>k
     |none=>.one .any
    |false=>A0y P dst i r
   |false=>A0y P dst i r
  |_=>A0y P dst i r
def A1k(ka kb:Kind)(x:Value)(k:Value→HM ρ):HM ρ:=
 match x with
 |.pointer (some a)=>match Nat.beq a.off 0 with
  |false=>M8
  |true=>(B6o ka kb a.block).bind fun p=>k (.tuple #[ka.val p.1,kb.val p.2])
 |_=>M8
def A1P(P:Program)(C:List Nat)(ops:Array Oper)(e:Env)(d:Dec)(o:Oper)(k:Value→HM ρ):HM ρ:=
 match o.op with
 |.entry x=>match e.ev x with
  |some v=>A1k (A0y P o.dst 0 ops.toList) (A0y P o.dst 1 ops.toList) v k
  |none=>M8
 |_=>T4 P C e d o k
def A01(P:Program)(C:List Nat)(ops:Array Oper)(draw:Bool)(j:Nat)(o:Oper)(e:Env)(d:Dec)(dn:U2)(k:Env→U2→HM ρ):HM ρ:=
 A1P P C ops e d o fun v=>match draw with
  |false=>k (e.put o.dst v) dn
  |true=>match R3 P o.op with
   |.stat=>k (e.put o.dst v) dn
   |.read=>k (e.put o.dst v) ((j,v)::dn)
   |.bD=>again P C ops ((Region.before ops).getD j 0) (e.put o.dst v) d dn (k (e.put o.dst v) dn)
def B5w(n:Nat)(d:Dec)(dst:Option Nat):Bool:=
 match dst with
 |some s=>Nat.blt s n&&(d.get s).isNone
 |none=>true
def B06(d:Dec):Operand→Option Bool
 |.const (.bool b)=>some b
 |.tmp t=>d.get t
 |_=>none
def B56(d:Dec)(op:Op):Option Bool:=
 match op with
 |.move x=>B06 d x
 |.assign x=>B06 d x
 |.pick (.tmp t) a b=>match d.get t with
  |some true=>B06 d a
  |some false=>B06 d b
  |none=>none
 |_=>none
def U1(d:Dec)(o:Oper):Dec:=
 match o.dst with
 |none=>d
 |some s=>match B56 d o.op with
  |some b=>(s,b)::d
  |none=>d
def A1O(P:Program)(C:List Nat)(n:Nat)(ops:Array Oper)(draw:Bool)(j:Nat)(e:Env)(d:Dec)(dn:U2)(k:Env→Dec→U2→HM ρ):HM ρ:=
 match ops.toList[j]? with
  |none=>M8
  |some o=>match B5w n d o.dst with
   |false=>M8
   |true=>match o.guard with
    |none=>A01 P C ops draw j o e d dn fun e' dn'=>k e' (U1 d o) dn'
    |some (g,want)=>match q7 ops g with
     |none=>M8
     |some s=>match d.get s with
      |some b=>match b,want with
       |true,true=>A01 P C ops draw j o e d dn fun e' dn'=>k e' (U1 d o) dn'
       |false,false=>A01 P C ops draw j o e d dn fun e' dn'=>k e' (U1 d o) dn'
       |true,false=>k (e.put o.dst undef) d dn
       |false,true=>k (e.put o.dst undef) d dn
      |none=>match B8A o.dst s with
       |true=>M8
       |false=>match e.get s with
       |some (.bool b)=>match want with
        |true=>X7 b (A01 P C ops draw j o e ((s,true)::d) dn fun e' dn'=>k e' (U1 ((s,true)::d) o) dn')
          (k (e.put o.dst undef) ((s,false)::d) dn)
        |false=>X7 b (k (e.put o.dst undef) ((s,true)::d) dn)
          (A01 P C ops draw j o e ((s,false)::d) dn fun e' dn'=>k e' (U1 ((s,false)::d) o) dn')
       |some (.tuple _)=>k (e.put o.dst undef) d dn
       |_=>M8
inductive k5 where
 |done
 |q (j:Nat) (t:k5)
 |br (js:List Nat) (f:Nat→k5)
def k5.ofList:List Nat→k5
 |[]=>.done
 |j::r=>.q j (ofList r)
def B80:List (HM ρ)→HM ρ
 |[]=>M8
 |[m]=>m
 |m::x::r=>Y4 m (B80 (x::r))
def A9w(P:Program)(C:List Nat)(n:Nat)(ops:Array Oper)(draw:Bool):k5→Env→Dec→U2→(Env→HM ρ)→HM ρ
 |.done,e,_,_,k=>k e
 |.q j t,e,d,dn,k=>A1O P C n ops draw j e d dn fun e' d' dn'=>A9w P C n ops draw t e' d' dn' k
 |.br js f,e,d,dn,k=>B80 (js.map fun j=>A1O P C n ops draw j e d dn fun e' d' dn'=>A9w P C n ops draw (f j) e' d' dn' k)
def C1P(P:Program)(op:Op):Nat:=
 match R3 P op with
 |.stat=>0
 |.read=>1
 |.bD=>2
def A1L(m:Nat)(acts:Bool):List (Nat×Nat×Nat)→Option Nat
 |[]=>none
 |(i,b,c)::r=>match m.testBit i with
  |true=>A1L m acts r
  |false=>match Nat.beq (b&&& m) b with
   |false=>A1L m acts r
   |true=>match acts with
    |true=>some i
    |false=>match Nat.blt c 2 with
     |true=>some i
     |false=>A1L m acts r
def A4Y(m:Nat):List (Nat×Nat×Nat)→List Nat
 |[]=>[]
 |(i,b,_)::r=>match m.testBit i with
  |true=>A4Y m r
  |false=>match Nat.beq (b&&& m) b with
   |false=>A4Y m r
   |true=>i::A4Y m r
def B4U(l:List (Nat×Nat×Nat)):Nat→Nat→k5
 |0,_=>.done
 |f+1,m=>match A1L m false l with
  |some i=>.q i (B4U l f (m|||2 ^ i))
  |none=>match A4Y m l with
   |[]=>.done
   |j::js=>.br (j::js) fun i=>B4U l f (m|||2 ^ i)
def p6(P:Program)(ops:Array Oper)(draw:Bool):k5:=
 match draw with
 |true=>
  let b:=Region.before ops
  B4U (ops.toList.zipIdx.map fun(o,i)=>(i,b.getD i 0,C1P P o.op)) ops.size 0
 |false=>.ofList (List.range ops.size)
def B1R(ops:Array Oper)(x y:Oper):Bool:=
 match y.dst with
 |some d=> !((x.looksAt ops).contains d)
 |none=>true
def B8d(P:Program)(ops:Array Oper)(b:Array Nat)(i:Nat)(x:Oper)(j:Nat)(y:Oper):Bool:=
 match(b.getD j 0).testBit i with
 |true=>match R3 P x.op with
  |.read=>B1R ops x y
  |_=>true
 |false=>match R3 P x.op with
  |.bD=>false
  |_=>x.apart ops y
def V3(j:Nat):List Nat→List Nat
 |[]=>[]
 |i::r=>match Nat.beq i j with
  |true=>V3 j r
  |false=>i::V3 j r
def A5i(P:Program)(ops:Array Oper)(j:Nat):Bool:=
 match ops.toList[j]? with
 |some o=>match R3 P o.op with
  |.bD=>true
  |_=>false
 |none=>false
def A9o(P:Program)(ops:Array Oper)(b:Array Nat):k5→List Nat→Bool
 |.done,R=>R.isEmpty
 |.q j t,R=>(match ops.toList[j]? with
  |none=>false
  |some x=>X2 j R&& !(A5i P ops j)&&B1R ops x x&&(V3 j R).all fun i=>match ops.toList[i]? with
   |some y=>B8d P ops b j x i y
   |none=>false)&&A9o P ops b t (V3 j R)
 |.br js f,R=> !js.isEmpty &&(js.all fun j=>X2 j R&&A5i P ops j&&A9o P ops b (f j) (V3 j R))&&R.all fun i=>X2 i js||R.any fun x=>(b.getD i 0).testBit x
def B5z(ops:Array Oper):Bool:=
 ops.toList.zipIdx.all fun(o,j)=>o.after.toList.all (fun e=> !(Region.binds .any e)||Nat.blt e.on j)&& !(match o.op with|.select .. =>true|_=>false)
def A3m(P:Program)(ops:Array Oper)(t:k5):Bool:=
 B5z ops&&A9o P ops (Region.before ops) t (List.range ops.size)
def p9(P:Program)(live:List Nat):List Oper→List (Nat×Kind)
 |[]=>[]
 |o::rest=>match o.guard with
  |some _=>p9 P live rest
  |none=>match o.dst with
   |none=>p9 P live rest
   |some s=>match X2 s live with
    |false=>p9 P live rest
    |true=>match kindOf P o.type with
     |some k=>(s,k)::p9 P live rest
     |none=>p9 P live rest
def guarded:List Oper→Bool
 |[]=>false
 |o::rest=>match o.guard with
  |some _=>true
  |none=>guarded rest
def dstsOf:List Oper→List Nat
 |[]=>[]
 |o::rest=>match o.dst with
  |some s=>s::dstsOf rest
  |none=>dstsOf rest
def Env.cK(e:Env):List (Nat×Kind)→Option (C3E)
 |[]=>some []
 |(s,_)::r=>match e.get s with
  |some v=>match Env.cK e r with
   |some vs=>some (v::vs)
   |none=>none
  |none=>none
def Env.aQ(e:Env)(ss:List (Nat×Kind)):Option (R0 (ss.map (·.2))):=
 match e.cK ss with
 |some vs=>R0.get (ss.map (·.2)) vs
 |none=>none
def r9:List (Nat×Kind)→C3E→Env
 |(s,_)::r,v::vs=>(s,v)::r9 r vs
 |_,_=>[]
def Env.join(e:Env)(ds:List Nat)(ss:List (Nat×Kind))(x:R0 (ss.map (·.2))):Env:=
 r9 ss (R0.vals (ss.map (·.2)) x)++e.forget ds
def A40{α:Type}:Option α→HM α
 |some a=>O9 a
 |none=>M8
def A6n(P:Program)(C:List Nat)(n:Nat)(live:List Nat)(ops:Array Oper)(draw:Bool)(e:Env)(k:Env→HM ρ):HM ρ:=
 match(match draw with|true=>A3m P ops (p6 P ops true)|false=>true) with
 |false=>M8
 |true=>match guarded ops.toList with
  |false=>A9w P C n ops draw (p6 P ops draw) e [] [] k
  |true=>(A9w P C n ops draw (p6 P ops draw) e [] [] fun e'=>A40 (e'.aQ (p9 P live ops.toList))).bind fun x=>k (e.join (Go.H.dstsOf ops.toList) (p9 P live ops.toList) x)
def c9:Code→List Nat
 |.region _ ops _=>dstsOf ops.toList
 |.seq a b=>c9 a++c9 b
 |.cond _ a b=>c9 a++c9 b
 |.block _ a=>c9 a
 |.loop a=>c9 a
 |.scope a=>c9 a
 |.rangeFunc _ _ a b=>c9 a++c9 b
 |_=>[]
def m7:Code→Bool
 |.skip=>true
 |.region _ _ _=>true
 |.seq a b=>m7 a&&m7 b
 |.cond _ a b=>m7 a||m7 b
 |.block id a=>m7 a||canExit id a
 |.loop _=>false
 |_=>false
where
 canExit (id:Nat):Code→Bool
  |.seq a b=>canExit id a||canExit id b
  |.cond _ a b=>canExit id a||canExit id b
  |.block _ a=>canExit id a
  |.loop a=>canExit id a
  |.exit i=>Nat.beq i id
  |_=>false
def A1U:Code→List Nat→Bool
 |.seq a b,ids=>A1U a ids||A1U b ids
 |.cond _ a b,ids=>A1U a ids||A1U b ids
 |.block id a,ids=>A1U a (id::ids)
 |.loop a,ids=>A1U a ids
 |.exit i,ids=> !(X2 i ids)
 |.ret,_=>true
 |_,_=>false
structure KK(ρ:Type) where
 norm:Env→HM ρ
 ret:C3E→Option ρ
 aV:List (Nat×(Env→Option ρ))
def Y1{β:Type}:List (Nat×β)→Nat→Option β
 |[],_=>none
 |(t,b)::d,n=>match Nat.beq t n with
  |true=>some b
  |false=>Y1 d n
def A2K{β:Type}(n:Nat):List (Nat×β)→List (Nat×β)
 |[]=>[]
 |(t,b)::d=>match Nat.beq t n with
  |true=>A2K n d
  |false=>(t,b)::A2K n d
def A0B{ρ':Type}(f:ρ→ρ'):List (Nat×(Env→Option ρ))→List (Nat×(Env→Option ρ'))
 |[]=>[]
 |(t,g)::d=>(t,fun e=>match g e with|some r=>some (f r)|none=>none)::A0B f d
def B18{ρ':Type}(f:ρ→ρ')(g:C3E→Option ρ)(vs:C3E):Option ρ':=
 match g vs with
 |some r=>some (f r)
 |none=>none
def carried(live:List Nat)(e:Env):List Nat→List (Nat×Kind)
 |[]=>[]
 |s::r=>match X2 s r with
  |true=>carried live e r
  |false=>match X2 s live with
   |false=>carried live e r
   |true=>match e.get s with
    |none=>carried live e r
    |some v=>match Kind.of v with
     |some k=>(s,k)::carried live e r
     |none=>carried live e r
def A00(P:Program)(e:Env):List ResultVar→(C3E→HM ρ)→HM ρ
 |[],k=>k []
 |.tmp t::rs,k=>match e.get t with
  |some v=>A00 P e rs fun vs=>k (v::vs)
  |none=>M8
 |.cell t ty::rs,k=>match e.get t with
  |some x=>A1Q P ty x fun v=>A00 P e rs fun vs=>k (v::vs)
  |none=>M8
def B59(outs:Bool)(ss:List (Nat×Kind))(inner:(ρ':Type)→KK ρ'→HM ρ')(exit:Option Nat)(e:Env)(ds:List Nat)(k:KK ρ):HM ρ:=
 match outs with
 |true=>(inner (R0 (ss.map (·.2))⊕ρ)
   {norm:=fun e'=>A40 (match e'.aQ ss with|some x=>some (.inl x)|none=>none)
    ret:=B18 .inr k.ret
    aV:=match exit with
     |some id=>(id,fun e'=>match e'.aQ ss with|some x=>some (.inl x)|none=>none)::A0B .inr k.aV
     |none=>A0B .inr k.aV}).bind (Sum.elim (fun x=>k.norm (e.join ds ss x)) O9)
 |false=>(inner (R0 (ss.map (·.2)))
   {norm:=fun e'=>A40 (e'.aQ ss)
    ret:=fun _=>none
    aV:=match exit with
     |some id=>[(id,fun e'=>e'.aQ ss)]
     |none=>[]}).bind fun x=>k.norm (e.join ds ss x)
def den(P:Program)(C:List Nat)(n:Nat)(live lc:List Nat)(rs:List ResultVar):Code→(ρ:Type)→Env→KK ρ→HM ρ
 |.skip,_,e,k=>k.norm e
 |.region _ ops draw,_,e,k=>A6n P C n live ops draw e k.norm
 |.seq a b,ρ,e,k=>den P C n live lc rs a ρ e {k with norm:=fun e'=>den P C n live lc rs b ρ e' k}
 |.cond c a b,ρ,e,k=>match e.ev c with
  |some (.bool t)=>match m7 a&&m7 b with
   |true=>B59 (A1U a []||A1U b []) (carried lc e (c9 a++c9 b))
     (fun ρ' k'=>X7 t (den P C n live lc rs a ρ' e k') (den P C n live lc rs b ρ' e k')) none e (c9 a++c9 b) k
   |false=>X7 t (den P C n live lc rs a ρ e k) (den P C n live lc rs b ρ e k)
  |_=>M8
 |.block id a,ρ,e,k=>match m7.canExit id a with
  |true=>B59 (A1U a [id]) (carried lc e (c9 a)) (fun ρ' k'=>den P C n live lc rs a ρ' e k') (some id) e (c9 a) k
  |false=>den P C n live lc rs a ρ e {k with aV:=A2K id k.aV}
 |.loop a,ρ,e,k=>match e.aQ (carried lc e (c9 a)) with
  |none=>M8
  |some x=>HM.loop (fun y=>den P C n live lc rs a (R0 ((carried lc e (c9 a)).map (·.2))⊕ρ) (e.join (c9 a) (carried lc e (c9 a)) y)
    {norm:=fun e'=>A40 (match e'.aQ (carried lc e (c9 a)) with|some z=>some (.inl z)|none=>none)
     ret:=B18 .inr k.ret
     aV:=A0B .inr k.aV}) x
 |.exit id,_,e,k=>match Y1 k.aV id with
  |some g=>A40 (g e)
  |none=>M8
 |.ret,_,e,k=>A00 P e rs fun vs=>A40 (k.ret vs)
 |_,_,_,_=>M8
def A6t(f:Func):Code:=f.body.getD .skip
def B8O(P:Program)(C:List Nat)(n:Nat)(live lc:List Nat)(rs:List ResultVar)(ks:List Kind)(c:Code)(args:C3E):HM (R0 ks):=
 den P C n live lc rs c (R0 ks) (args.zipIdx.map fun(v,i)=>(i,v))
  {norm:=fun e=>A00 P e rs fun vs=>A40 (R0.get ks vs)
   ret:=R0.get ks
   aV:=[]}
end
end
section
structure R6(DF:List Deferred)(n:Nat)(e:Env)(a:Act):Prop where
 size:a.tmps.size=n
 defers:a.defers=DF
 get:∀t v,e.get t=some v→a.tmps[t]? =some v
abbrev A2g(n:Nat)(e:Env)(a:Act):Prop:=R6 [] n e a
def k7(d:Dec)(a:Act):Prop:=∀t b,d.get t=some b→a.tmps[t]? =some (.bool b)
theorem R6.ev{DF:List Deferred}{n:Nat}{e:Env}{a:Act}(h:R6 DF n e a){x:Operand}{v:Value}(hx:e.ev x=some v):a.eval x=v:=by
 cases x with
 |tmp t=>
  have:=h.get t v hx
  simp only[Act.eval,D5,this,Option.getD_some]
 |const c=>simpa[Env.ev,Act.eval] using hx
 |global g=>simpa[Env.ev,Act.eval] using hx
 |func f=>simpa[Env.ev,Act.eval] using hx
theorem R6.cH{DF:List Deferred}{n:Nat}{e:Env}{a:Act}(h:R6 DF n e a):∀{xs:List Operand} {vs:C3E},e.cH xs=some vs→xs.map a.eval=vs
 |[],vs,hx=>by simp only[Env.cH,C3] at hx;subst hx;rfl
 |x::xs,vs,hx=>by
  simp only[Env.cH] at hx
  split at hx
  ·rename_i v hv
   split at hx
   ·rename_i us dv
    cases hx
    simp[h.ev hv,R6.cH h dv]
   ·cases hx
  ·cases hx
theorem R6.bY{DF:List Deferred}{n:Nat}{e:Env}{a:Act}(h:R6 DF n e a){xs:Array Operand}{vs:C3E}(hx:e.cH xs.toList=some vs):xs.map a.eval=vs.toArray:=by
 have:=h.cH hx
 apply D3.1
 simp[this]
theorem R6.parts{DF:List Deferred}{n:Nat}{e:Env}{a:Act}(h:R6 DF n e a):∀{xs:List (Nat×Operand)} {vs:List (Nat×Value)},s6 e xs=some vs→xs.map (fun(i,x)=>(i,a.eval x))=vs
 |[],vs,hx=>by simp only[s6,C3] at hx;subst hx;rfl
 |(i,x)::xs,vs,hx=>by
  simp only[s6] at hx
  split at hx
  ·rename_i v hv
   split at hx
   ·rename_i us dv
    cases hx
    simp only[B6,h.ev hv]
    rw[R6.parts h dv]
   ·cases hx
  ·cases hx
def Res(P:Program)(w0:World)(Φ:Value→Heap→Prop):Result Next→Prop
 |.ok (.value v) w'=>Q7 w0 w'∧Φ v w'.heap
 |.ok .skip w'=>Q7 w0 w'∧Φ undef w'.heap
 |.ok (.enter f args) w'=>Q7 w0 w'∧N9 P f args w'.heap Φ
 |_=>False
def o5(P:Program)(s:Sem Next)(h:Heap)(Φ:Value→Heap→Prop):Prop:=∀w,w.heap=h→Res P w Φ (s.run P w)
def Stat(P:Program)(s:Sem Next)(v:Value):Prop:=∀w,s.run P w=.ok (.value v) w
def c7(P:Program)(s:Sem Next)(h:Heap)(v:Value):Prop:=∀w,w.heap=h→s.run P w=.ok (.value v) w
def R8(P:Program)(c:Cls)(s:Sem Next)(h:Heap)(Φ:Value→Heap→Prop):Prop:=
 match c with
 |.stat=>∃v,Stat P s v∧Φ v h
 |.read=>∃v,c7 P s h v∧Φ v h
 |.bD=>o5 P s h Φ
theorem o5.cU{P:Program}{s:Sem Next}{h:Heap}{Φ:Value→Heap→Prop}{v:Value}(hs:c7 P s h v)(hp:Φ v h):o5 P s h Φ:=by
 intro w hw
 rw[hs w hw]
 exact⟨Q7.refl w,hw▸hp⟩
theorem B76(P:Program)(s:Sem Value)(w:World):(do pure (Next.value (←s)):Sem Next).run P w=(s.run P w).andThen fun x w'=>.ok (.value x) w':=by
 simp
theorem Stat.of{P:Program}{s:Sem Value}{v:Value}(h:∀w,s.run P w=.ok v w):Stat P (do pure (Next.value (←s)):Sem Next) v:=by
 intro w;rw[B76,h w];rfl
theorem c7.of{P:Program}{s:Sem Value}{h:Heap}{v:Value}(hs:∀w,w.heap=h→s.run P w=.ok v w):c7 P (do pure (Next.value (←s)):Sem Next) h v:=by
 intro w hw;rw[B76,hs w hw];rfl
theorem o5.cI{P:Program}{s:Sem Value}{h:Heap}{Φ:Value→Heap→Prop}(hs:∀w,w.heap=h→∃v w',s.run P w=.ok v w'∧Q7 w w'∧Φ v w'.heap):
  o5 P (do pure (Next.value (←s)):Sem Next) h Φ:=by
 intro w hw
 obtain⟨v,w',hr,hm,hp⟩:=hs w hw
 rw[B76,hr];exact⟨hm,hp⟩
theorem o5.dA{P:Program}{s:Sem Unit}{h:Heap}{Φ:Value→Heap→Prop}(hs:∀w,w.heap=h→∃w',s.run P w=.ok () w'∧Q7 w w'∧Φ undef w'.heap):
  o5 P (do s;pure Next.skip:Sem Next) h Φ:=by
 intro w hw
 obtain⟨w',hr,hm,hp⟩:=hs w hw
 have:(do s;pure Next.skip:Sem Next).run P w=.ok .skip w':=by simp[hr]
 rw[this];exact⟨hm,hp⟩
theorem N7{P:Program}{t:TypeId}{d:TypeDesc}(h:P.underlying t=some d)(w:World):(underlying t).run P w=.ok d w:=run_underlying h w
theorem A2s{P:Program}{t:TypeId}{i:TypeInfo}(h:P.info? t=some i)(w:World):(typeInfo t).run P w=.ok i w:=by
 simp[typeInfo,h]
theorem T6{P:Program}{t:TypeId}{i:TypeInfo}(h:P.info? t=some i)(w:World):(sizeOf t).run P w=.ok i.size w:=by
 simp[sizeOf,A2s h]
theorem a7{P:Program}{t:TypeId}{i:TypeInfo}{z:Value}(h:P.info? t=some i)(hz:i.zero=some z)(w:World):(zeroValue t).run P w=.ok z w:=by
 simp[zeroValue,A2s h,hz]
theorem Z0{P:Program}{t:TypeId}{i:TypeInfo}(h:P.info? t=some i):P.cellsOf t=i.size:=by
 simp[Program.cellsOf,h]
theorem B3I{P:Program}{t:TypeId}{k:Kind}(h:kindOf P t=some k):∃i z,P.info? t=some i∧i.zero=some z∧Kind.of z=some k:=by
 unfold kindOf at h
 split at h
 ·rename_i i hi
  split at h
  ·rename_i z hz;exact⟨i,z,hi,hz,h⟩
  ·cases h
 ·cases h
section
variable {ρ:Type} {P:Program} {k:Value→HM ρ} {h:Heap} {Q:ρ→Heap→Prop}
theorem B2u{op:BinOp}{t:TypeId}{kx ky:IntKind}{a b:Int}(h1:op≠ .eql)(h2:op≠ .neq)(hd:A9A op kx ky a b k h Q):
  ∃v,(∀w,(binOp op t (.int kx a) (.int ky b)).run P w=.ok v w)∧k v h Q:=by
 unfold A9A at hd
 cases op<;>first|exact absurd rfl h1|exact absurd rfl h2|skip
 case shl=>
  obtain⟨h0,hk⟩:=hd
  refine⟨_,fun w=>?_,hk⟩
  simp[binOp,Op.shift,Int.not_lt.2 h0]
 case shr=>
  obtain⟨h0,hk⟩:=hd
  refine⟨_,fun w=>?_,hk⟩
  simp[binOp,Op.shift,Int.not_lt.2 h0]
 all_goals
  have eX:A1e kx ky=true:=by
   cases eX:A1e kx ky with
   |false=>simp only[eX] at hd;exact hd.elim
   |true=>rfl
  simp only[eX] at hd
  obtain rfl:=A0T eX
 case quo=>
  obtain⟨h0,hk⟩:=hd
  exact⟨_,fun w=>by simp[binOp,Op.intDiv,h0],hk⟩
 case rem=>
  obtain⟨h0,hk⟩:=hd
  exact⟨_,fun w=>by simp[binOp,Op.intDiv,h0],hk⟩
 all_goals exact⟨_,fun w=>by simp[binOp,Op.intArith,Op.intBits,Op.intCmp,A0e],hd⟩
theorem B2r{op:BinOp}{t:TypeId}{a b:B1q}(h1:op≠ .eql)(h2:op≠ .neq)(hd:B2s op a b k h Q):
  ∃v,(∀w,(binOp op t (.string a) (.string b)).run P w=.ok v w)∧k v h Q:=by
 unfold B2s at hd
 cases op<;>first|exact absurd rfl h1|exact absurd rfl h2|skip
 case add=>
  obtain⟨h0,hk⟩:=hd
  refine⟨_,fun w=>?_,hk⟩
  have:¬(((a.size+b.size:Nat):Int)>9223372036854775807):=by omega
  simp only[binOp,Op.stringOp,IntKind.max_i64,if_neg this,Sem.run_pure]
 all_goals first
  |exact hd.elim
  |exact⟨_,fun w=>by simp[binOp,Op.stringOp],hd⟩
theorem B30{op:UnOp}{x:Value}(hd:B6g op x k h Q):
  ∃v,(∀w,(Op.unary op x).run P w=.ok v w)∧k v h Q:=by
 unfold B6g at hd
 split at hd
 ·exact⟨_,fun w=>by simp[Op.unary],hd⟩
 ·exact⟨_,fun w=>by simp[Op.unary,Op.intArith],hd⟩
 ·exact⟨_,fun w=>by simp[Op.unary,Op.intBits,A0e],hd⟩
 ·exact hd.elim
theorem B4W(a b:B1q):(a.toList==b.toList)=decide (a=b):=by
 have cW:a.toList=b.toList↔a=b:=by
  constructor
  ·intro hh
   rw[ByteArray.toList_eq,ByteArray.toList_eq] at hh
   cases a;cases b
   simp_all
  ·intro hh;rw[hh]
 by_cases gR:a=b
 ·simp[gR]
 ·have:¬a.toList=b.toList:=fun hh=>gR (cW.1 hh)
  simp[gR,this]
theorem X1{t:TypeId}{x y:Value}{r:Bool}(neg:Bool)(h1:∀k n,x≠ .int k n)(h2:∀k n,x≠ .float k n)(h3:∀k n m,x≠ .complex k n m)(h4:∀s,x≠ .string s)
  (hr:∀w,(Op.equal t x y).run P w=.ok r w)(w:World):(binOp (if neg=true then .neq else .eql) t x y).run P w=.ok (.bool (V8 neg r)) w:=by
 cases neg<;>cases x<;>cases y<;>simp_all [binOp,V8]
theorem A7H(d:Nat){t e:TypeId}(ht:P.underlying t=some (.pointer e))(p:C3C)(w:World):(Op.equalIn (d+1) t (.pointer p) (.pointer none)).run P w=.ok p.isNone w:=by
 cases p<;>simp only[Op.equalIn,Sem.run_bind,N7 ht,Result.andThen_ok]<;>rfl
theorem A7G(d:Nat){t e:TypeId}(ht:P.underlying t=some (.slice e))(p:C3C)(a b c f:Nat)(w:World):(Op.equalIn (d+1) t (.slice p a b) (.slice none c f)).run P w=.ok p.isNone w:=by
 cases p<;>simp only[Op.equalIn,Sem.run_bind,N7 ht,Result.andThen_ok]<;>rfl
theorem A7I(d:Nat){t e f:TypeId}(ht:P.underlying t=some (.map e f))(p:Option Nat)(w:World):(Op.equalIn (d+1) t (.map p) (.map none)).run P w=.ok p.isNone w:=by
 cases p<;>simp only[Op.equalIn,Sem.run_bind,N7 ht,Result.andThen_ok]<;>rfl
theorem A5r(d:Nat){t:TypeId}{ms:Array (String×TypeId)}(ht:P.underlying t=some (.interface ms))(x:Value)(hx:isIface x=true)(w:World):(Op.equalIn (d+1) t x .nilIface).run P w=.ok (A0C x) w:=by
 cases x<;>simp[isIface] at hx<;>simp only[Op.equalIn,Sem.run_bind,N7 ht,Result.andThen_ok,A0C]<;>rfl
theorem A6l(d:Nat){t:TypeId}{a b:Array TypeId}{c:Bool}(ht:P.underlying t=some (.func a b c))(x:Value)(hx:A1H x=true)(w:World):(Op.equalIn (d+1) t x .nilFunc).run P w=.ok (B2g x) w:=by
 cases x<;>simp[A1H] at hx<;>simp only[Op.equalIn,Sem.run_bind,N7 ht,Result.andThen_ok,B2g]<;>rfl
theorem B2o(d:Nat){t:TypeId}(ht:P.underlying t=some .bool)(a b:Bool)(w:World):(Op.equalIn (d+1) t (.bool a) (.bool b)).run P w=.ok (a==b) w:=by
 simp only[Op.equalIn,Sem.run_bind,N7 ht,Result.andThen_ok];rfl
theorem B0a{t e:TypeId}(ht:P.underlying t=some (.pointer e))(p:C3C)(w:World):(Op.equal t (.pointer p) (.pointer none)).run P w=.ok p.isNone w:=A7H 9999 ht p w
theorem A99{t e:TypeId}(ht:P.underlying t=some (.slice e))(p:C3C)(a b c d:Nat)(w:World):(Op.equal t (.slice p a b) (.slice none c d)).run P w=.ok p.isNone w:=A7G 9999 ht p a b c d w
theorem B0b{t e f:TypeId}(ht:P.underlying t=some (.map e f))(p:Option Nat)(w:World):(Op.equal t (.map p) (.map none)).run P w=.ok p.isNone w:=A7I 9999 ht p w
theorem A7F{t:TypeId}{ms:Array (String×TypeId)}(ht:P.underlying t=some (.interface ms))(x:Value)(hx:isIface x=true)(w:World):(Op.equal t x .nilIface).run P w=.ok (A0C x) w:=A5r 9999 ht x hx w
theorem A9t{t:TypeId}{a b:Array TypeId}{c:Bool}(ht:P.underlying t=some (.func a b c))(x:Value)(hx:A1H x=true)(w:World):(Op.equal t x .nilFunc).run P w=.ok (B2g x) w:=A6l 9999 ht x hx w
theorem B5q{t:TypeId}(ht:P.underlying t=some .bool)(a b:Bool)(w:World):(Op.equal t (.bool a) (.bool b)).run P w=.ok (a==b) w:=B2o 9999 ht a b w
theorem A3v{t:TypeId}{d:TypeDesc}(h:P.underlying t=some d)(w:World):(isAgg t).run P w=.ok (A1I d) w:=by
 simp only[isAgg,Sem.run_bind,N7 h,Result.andThen_ok]
 cases d<;>rfl
theorem A7b{t:TypeId}{d:TypeDesc}(h:P.underlying t=some d):∃i,P.info? t=some i:=by
 unfold Program.underlying at h
 split at h
 ·exact⟨_,by assumption⟩
 ·exact⟨_,by assumption⟩
 ·cases h
theorem Z3{t:TypeId}{cs:C3E}{off:Nat}{v:Value}(hp:l8 P t cs off=some v)(w:World):(part t cs.toArray off).run P w=.ok v w:=by
 unfold l8 at hp
 cases hu:P.underlying t with
 |none=>simp only[hu] at hp;cases hp
 |some d=>
  obtain⟨i,hi⟩:=A7b hu
  cases cj:A1I d with
  |true=>
   have cm:some (Value.agg ((cs.drop off).take (P.cellsOf t)).toArray)=some v:=by simpa only[hu,cj] using hp
   cases cm
   simp only[part,Sem.run_bind,A3v hu,Result.andThen_ok,cj,if_true,T6 hi,Sem.run_pure]
   congr 2
   rw[Z0 hi]
   apply D3.1
   simp[List.drop_take,Nat.add_sub_cancel_left]
  |false=>
   have cm:cs[off]? =some v:=by simpa only[hu,cj] using hp
   simp only[part,Sem.run_bind,A3v hu,Result.andThen_ok,cj,F4,if_false]
   have:cs.toArray[off]? =some v:=by simpa using cm
   rw[this];rfl
theorem A9u{rec:TypeId→Value→Value→Option Bool}{n:Nat}
  (eJ:∀t x y r,rec t x y=some r→∀w,(Op.equalIn n t x y).run P w=.ok r w){xs ys:C3D}:
  ∀(fs:List Field) (r:Bool),A7J P rec xs.toList ys.toList fs=some r→∀w,(Op.eqFields n xs ys fs).run P w=.ok r w
 |[],r,hr,w=>by
  simp only[A7J,C3] at hr
  subst hr
  rfl
 |f::fs,r,hr,w=>by
  simp only[A7J] at hr
  cases hn:decide (f.name= "_") with
  |true=>simp only[hn] at hr;cases hr
  |false=>
  simp only[hn] at hr
  cases ha:l8 P f.type xs.toList f.offset with
  |none=>simp only[ha] at hr;cases hr
  |some a=>
  simp only[ha] at hr
  cases hb:l8 P f.type ys.toList f.offset with
  |none=>simp only[hb] at hr;cases hr
  |some b=>
  simp only[hb] at hr
  cases h1:rec f.type a b with
  |none=>simp only[h1] at hr;cases hr
  |some r1=>
  simp only[h1] at hr
  cases h2:A7J P rec xs.toList ys.toList fs with
  |none=>simp only[h2] at hr;cases hr
  |some r2=>
  simp only[h2,C3] at hr
  subst hr
  have ic:f.name≠ "_" :=by simpa using hn
  have pa:=Z3 ha w
  have pb:=Z3 hb w
  simp only[J1] at pa pb
  have ih:=A9u eJ fs r2 h2 w
  simp only[Op.eqFields,ic,ne_eq,not_false_eq_true,if_true,Sem.run_bind,pa,pb,Result.andThen_ok,eJ _ _ _ _ h1 w]
  cases r1
  ·simp
  ·simpa using ih
theorem A97{rec:TypeId→Value→Value→Option Bool}{n:Nat}{t:TypeId}{fields:Array Field}(ht:P.underlying t=some (.struct fields))
  (eJ:∀t x y r,rec t x y=some r→∀w,(Op.eqGuardIn n t x y).run P w=.ok false w){xs ys:C3D}{r:Bool}(hr:A7J P rec xs.toList ys.toList fields.toList=some r)(w:World):
  (Op.eqGuardIn (n+1) t (.agg xs) (.agg ys)).run P w=.ok false w:=by
 simp only[Op.eqGuardIn,Sem.run_bind,N7 ht,Result.andThen_ok]
 rw[←Array.forIn_toList]
 generalize fields.toList=fs at hr
 clear ht
 induction fs generalizing r with
 |nil=>simp
 |cons f fs ih=>
  simp only[A7J] at hr
  cases hn:decide (f.name= "_") with
  |true=>simp only[hn] at hr;cases hr
  |false=>
  simp only[hn] at hr
  cases ha:l8 P f.type xs.toList f.offset with
  |none=>simp only[ha] at hr;cases hr
  |some a=>
  simp only[ha] at hr
  cases hb:l8 P f.type ys.toList f.offset with
  |none=>simp only[hb] at hr;cases hr
  |some b=>
  simp only[hb] at hr
  cases h1:rec f.type a b with
  |none=>simp only[h1] at hr;cases hr
  |some r1=>
  simp only[h1] at hr
  cases h2:A7J P rec xs.toList ys.toList fs with
  |none=>simp only[h2] at hr;cases hr
  |some r2=>
  have ic:f.name≠ "_" :=by simpa using hn
  have pa:=Z3 ha w
  have pb:=Z3 hb w
  simp only[J1] at pa pb
  simp only[List.forIn_cons,ic,ne_eq,not_false_eq_true,if_true,Sem.run_bind,pa,pb,Result.andThen_ok,eJ _ _ _ _ h1 w,F4,if_false,Sem.run_pure]
  exact ih h2
theorem B3J{rec:TypeId→Value→Value→Option Bool}{n:Nat}{t:TypeId}{fields:Array Field}{e:Bool}(ht:P.underlying t=some (.struct fields))
  (eJ:∀t x y r,rec t x y=some r→∀w,(Instr.checkKey e n t x).run P w=.ok () w){xs ys:C3D}{r:Bool}(hr:A7J P rec xs.toList ys.toList fields.toList=some r)(w:World):
  (Instr.checkKey e (n+1) t (.agg xs)).run P w=.ok () w:=by
 simp only[Instr.checkKey,Sem.run_bind,N7 ht,Result.andThen_ok]
 rw[←Array.forIn_toList]
 generalize fields.toList=fs at hr
 clear ht
 induction fs generalizing r with
 |nil=>simp
 |cons f fs ih=>
  simp only[A7J] at hr
  cases hn:decide (f.name= "_") with
  |true=>simp only[hn] at hr;cases hr
  |false=>
  simp only[hn] at hr
  cases ha:l8 P f.type xs.toList f.offset with
  |none=>simp only[ha] at hr;cases hr
  |some a=>
  simp only[ha] at hr
  cases hb:l8 P f.type ys.toList f.offset with
  |none=>simp only[hb] at hr;cases hr
  |some b=>
  simp only[hb] at hr
  cases h1:rec f.type a b with
  |none=>simp only[h1] at hr;cases hr
  |some r1=>
  simp only[h1] at hr
  cases h2:A7J P rec xs.toList ys.toList fs with
  |none=>simp only[h2] at hr;cases hr
  |some r2=>
  have ic:f.name≠ "_" :=by simpa using hn
  have pa:=Z3 ha w
  simp only[J1] at pa
  simp only[List.forIn_cons,ic,ne_eq,not_false_eq_true,if_true,Sem.run_bind,pa,Result.andThen_ok,eJ _ _ _ _ h1 w,Sem.run_pure]
  exact ih h2
theorem Y9:∀(d:Nat) {t:TypeId} {x y:Value} {r:Bool},A3H P d t x y=some r→∀(D:Nat) (w:World),
  (Op.equalIn (d+D) t x y).run P w=.ok r w∧(Op.eqGuardIn (d+D) t x y).run P w=.ok false w∧∀e,(Instr.checkKey e (d+D) t x).run P w=.ok () w
 |0,_,_,_,_,hr,_,_=>by cases hr
 |d+1,t,x,y,r,hr,D,w=>by
  rw[show d+1+D=(d+D)+1 from by omega]
  unfold A3H at hr
  cases ht:P.underlying t with
  |none=>simp only[ht] at hr;cases hr
  |some dd=>
  cases dd with
  |int kk=>
   simp only[ht] at hr
   cases x<;>try cases hr
   cases y<;>try cases hr
   rename_i k a k' b
   simp only at hr
   cases eX:A1e k k' with
   |false=>simp only[eX] at hr;cases hr
   |true=>
    simp only[eX,C3] at hr
    obtain rfl:=A0T eX
    subst hr
    refine⟨?_,?_,fun e=>?_⟩
    ·simp only[Op.equalIn,Sem.run_bind,N7 ht,Result.andThen_ok];simp
    ·simp only[Op.eqGuardIn,Sem.run_bind,N7 ht,Result.andThen_ok];simp
    ·simp only[Instr.checkKey,Sem.run_bind,N7 ht,Result.andThen_ok];simp
  |bool=>
   simp only[ht] at hr
   cases x<;>try cases hr
   cases y<;>try cases hr
   refine⟨?_,?_,fun e=>?_⟩
   ·simp only[Op.equalIn,Sem.run_bind,N7 ht,Result.andThen_ok];simp
   ·simp only[Op.eqGuardIn,Sem.run_bind,N7 ht,Result.andThen_ok];simp
   ·simp only[Instr.checkKey,Sem.run_bind,N7 ht,Result.andThen_ok];simp
  |string=>
   simp only[ht] at hr
   cases x<;>try cases hr
   cases y<;>try cases hr
   rename_i a b
   refine⟨?_,?_,fun e=>?_⟩
   ·simp only[Op.equalIn,Sem.run_bind,N7 ht,Result.andThen_ok]
    have e:(a==b)=decide (a=b):=(beq_toListBytes a b).trans (B4W a b)
    simp[e]
   ·simp only[Op.eqGuardIn,Sem.run_bind,N7 ht,Result.andThen_ok];simp
   ·simp only[Instr.checkKey,Sem.run_bind,N7 ht,Result.andThen_ok];simp
  |struct fields=>
   simp only[ht] at hr
   cases aM:P.stoodInHeld t with
   |true=>simp only[aM] at hr;cases hr
   |false=>
   simp only[aM] at hr
   cases x<;>try cases hr
   cases y<;>try cases hr
   rename_i xs ys
   simp only at hr
   have hf:P.fieldsOf t=fields:=by simp[Program.fieldsOf,ht]
   refine⟨?_,A97 ht (fun t x y r hr w=>(Y9 d hr D w).2.1) hr w,fun e=>B3J ht (fun t x y r hr w=>(Y9 d hr D w).2.2 e) hr w⟩
   rw[run_equalIn_struct w (d+D) t xs ys (by rw[hf];exact ht) aM,hf]
   exact A9u (fun t x y r hr w=>(Y9 d hr D w).1) _ r hr w
  |_=>simp only[ht] at hr;cases hr
def A5s(neg:Bool):BinOp:=if neg=true then .neq else .eql
theorem A7g{neg:Bool}{t:TypeId}{xo yo:Operand}{x y:Value}(hy:∀c,yo=.const c→y=c)(hd:o8 P neg t yo x y k h Q):
  ∃v,(∀w,(do eqGuard (A5s neg) t xo yo x y;binOp (A5s neg) t x y:Sem Value).run P w=.ok v w)∧k v h Q:=by
 cases ht:P.underlying t with
 |none=>simp only[o8,ht] at hd;exact hd.elim
 |some d=>
 cases d with
 |pointer e=>
  simp only[o8,ht] at hd
  split at hd
  ·split at hd
   ·rename_i p
    obtain rfl:=hy _ rfl
    refine⟨_,fun w=>?_,hd⟩
    have hb:=X1 (P:=P) (y:=.pointer none) neg (by simp) (by simp) (by simp) (by simp) (B0a ht p) w
    cases neg<;>simpa[A5s,go_sem] using hb
   ·exact hd.elim
  ·exact hd.elim
 |slice e=>
  simp only[o8,ht] at hd
  split at hd
  ·split at hd
   ·rename_i m n _ p a b
    obtain rfl:=hy _ rfl
    refine⟨_,fun w=>?_,hd⟩
    have hb:=X1 (P:=P) (y:=.slice none m n) neg (by simp) (by simp) (by simp) (by simp) (A99 ht p a b m n) w
    cases neg<;>simpa[A5s,go_sem] using hb
   ·exact hd.elim
  ·exact hd.elim
 |map e f=>
  simp only[o8,ht] at hd
  split at hd
  ·split at hd
   ·rename_i p
    obtain rfl:=hy _ rfl
    refine⟨_,fun w=>?_,hd⟩
    have hb:=X1 (P:=P) (y:=.map none) neg (by simp) (by simp) (by simp) (by simp) (B0b ht p) w
    cases neg<;>simpa[A5s,go_sem] using hb
   ·exact hd.elim
  ·exact hd.elim
 |interface ms=>
  simp only[o8,ht] at hd
  split at hd
  ·obtain⟨hx,hk⟩:=hd
   obtain rfl:=hy _ rfl
   refine⟨_,fun w=>?_,hk⟩
   have hb:=X1 (P:=P) (y:=.nilIface) neg (by intros;rintro rfl;simp[isIface] at hx) (by intros;rintro rfl;simp[isIface] at hx) (by intros;rintro rfl;simp[isIface] at hx) (by intros;rintro rfl;simp[isIface] at hx) (A7F ht x hx) w
   have hg:eqGuard (A5s neg) t xo (.const .nilIface) x .nilIface=pure ():=by cases x<;>simp[isIface] at hx<;>simp[go_sem]
   rw[hg]
   cases neg<;>simpa[A5s] using hb
  ·exact hd.elim
 |func a b c=>
  simp only[o8,ht] at hd
  split at hd
  ·obtain⟨hx,hk⟩:=hd
   obtain rfl:=hy _ rfl
   refine⟨_,fun w=>?_,hk⟩
   have hb:=X1 (P:=P) (y:=.nilFunc) neg (by intros;rintro rfl;simp[A1H] at hx) (by intros;rintro rfl;simp[A1H] at hx) (by intros;rintro rfl;simp[A1H] at hx) (by intros;rintro rfl;simp[A1H] at hx) (A9t ht x hx) w
   have hg:eqGuard (A5s neg) t xo (.const .nilFunc) x .nilFunc=pure ():=by cases x<;>simp[A1H] at hx<;>simp[go_sem]
   rw[hg]
   cases neg<;>simpa[A5s] using hb
  ·exact hd.elim
 |int ki=>
  simp only[o8,ht] at hd
  cases x<;>try exact hd.elim
  cases y<;>try exact hd.elim
  rename_i kx a ky b
  simp only at hd
  cases eX:A1e kx ky with
  |false=>simp only[eX] at hd;exact hd.elim
  |true=>
   simp only[eX] at hd
   obtain rfl:=A0T eX
   refine⟨_,fun w=>?_,hd⟩
   cases neg<;>simp[A5s,go_sem,V8,bne]
 |bool=>
  simp only[o8,ht] at hd
  cases x<;>try exact hd.elim
  cases y<;>try exact hd.elim
  rename_i a b
  refine⟨_,fun w=>?_,hd⟩
  have hb:=X1 (P:=P) (y:=.bool b) neg (by simp) (by simp) (by simp) (by simp) (B5q ht a b) w
  cases neg<;>simpa[A5s,go_sem] using hb
 |string=>
  simp only[o8,ht] at hd
  cases x<;>try exact hd.elim
  cases y<;>try exact hd.elim
  rename_i a b
  refine⟨_,fun w=>?_,hd⟩
  rw[←B4W]
  cases neg<;>simp[A5s,go_sem,V8,binOp,Op.stringOp]
 |struct fields=>
  simp only[o8,ht] at hd
  cases x<;>try exact hd.elim
  rename_i xs
  simp only at hd
  cases hr:A3H P 8 t (.agg xs) y with
  |none=>simp only[hr] at hd;exact hd.elim
  |some r=>
   simp only[hr] at hd
   refine⟨_,fun w=>?_,hd⟩
   have h1:=(Y9 8 hr 9992 w).1
   have h2:=(Y9 8 hr 9992 w).2.1
   have hg:(eqGuard (A5s neg) t xo yo (.agg xs) y).run P w=.ok () w:=by
    have pY:∃ys,y=.agg ys:=by
     unfold A3H at hr
     simp only[ht] at hr
     cases aM:P.stoodInHeld t with
     |true=>simp only[aM] at hr;cases hr
     |false=>
      simp only[aM] at hr
      cases y<;>try cases hr
      exact⟨_,rfl⟩
    obtain⟨ys,rfl⟩:=pY
    have eA:(Op.eqGuardIn Op.maxDepth t (.agg xs) (.agg ys)).run P w=.ok false w:=h2
    cases neg
    all_goals
     simp only[eqGuard,A5s,F4,if_false,if_true,Bool.not_true,Sem.run_bind,run_program,Result.andThen_ok]
     simp only[Sem.run_ite]
     split
     ·rfl
     ·simp only[Sem.run_bind,eA,Result.andThen_ok,F4,if_false]
      rfl
   have dQ:(Op.equal t (.agg xs) y).run P w=.ok r w:=h1
   have hb:=X1 (P:=P) (t:=t) (x:=.agg xs) (y:=y) (r:=r) neg (by simp) (by simp) (by simp) (by simp)
   rw[Sem.run_bind,hg,Result.andThen_ok]
   exact hb (fun w=>(Y9 8 hr 9992 w).1) w
 |_=>simp only[o8,ht] at hd;exact hd.elim
theorem B2w{op:BinOp}{t:TypeId}{xo yo:Operand}{x y:Value}(hy:∀c,yo=.const c→y=c)(hd:A2T P op t yo x y k h Q):
  ∃v,(∀w,(do eqGuard op t xo yo x y;binOp op t x y:Sem Value).run P w=.ok v w)∧k v h Q:=by
 unfold A2T at hd
 split at hd
 ·exact A7g (neg:=false) hy hd
 ·exact A7g (neg:=true) hy hd
 ·rename_i h1 h2
  have hg:∀a b,eqGuard op t xo yo a b=pure ():=by intro a b;cases op<;>first|rfl|exact absurd rfl h1|exact absurd rfl h2
  rw[hg]
  split at hd
  ·obtain⟨v,hv,hk⟩:=B2u (t:=t) h1 h2 hd
   exact⟨v,fun w=>by simpa using hv w,hk⟩
  ·obtain⟨v,hv,hk⟩:=B2r (t:=t) h1 h2 hd
   exact⟨v,fun w=>by simpa using hv w,hk⟩
  ·exact hd.elim
theorem add_zero(a:Addr):a.add 0=a:=by simp[Addr.add]
theorem B5y{h:Heap}{a:Addr}{v:Value}(hc:O5 h a=some v):a.spot=none:=by
 unfold O5 at hc
 split at hc
 ·cases hs:a.spot with
  |none=>rfl
  |some x=>simp[hs] at hc
 ·cases hc
theorem B0D{w:World}{a:Addr}{v:Value}(hc:O5 w.heap a=some v):(load a).run P w=.ok v w:=by
 rw[run_load,B2z,hc]
theorem run_loadCellsFrom(a:Addr)(w:World):∀(vs:C3E) (i:Nat) (acc:C3D),(∀(j:Nat) v,vs[j]? =some v→O5 w.heap (a.add (i+j))=some v)→
  (loadCellsFrom a i vs.length acc).run P w=.ok (acc++vs.toArray) w
 |[],_,acc,_=>by simp[loadCellsFrom]
 |v::vs,i,acc,hc=>by
  have h0:=hc 0 v rfl
  simp only[D8,loadCellsFrom,Sem.run_bind]
  rw[B0D (by simpa using h0)]
  simp only[Result.andThen_ok]
  rw[run_loadCellsFrom a w vs (i+1) (acc.push v) (fun j u hj=>by have:=hc (j+1) u (by simpa using hj);rwa[show i+1+j=i+(j+1) from by omega])]
  congr 1
  apply D3.1
  simp
theorem run_loadCells{a:Addr}{w:World}{vs:C3E}{n:Nat}(hn:n=vs.length)(hc:∀(j:Nat) v,vs[j]? =some v→O5 w.heap (a.add j)=some v):
  (loadCells a n).run P w=.ok vs.toArray w:=by
 subst hn
 have:=run_loadCellsFrom (P:=P) a w vs 0 #[] (by simpa using hc)
 simpa[loadCells] using this
theorem A6o{s t:TypeId}{x:Value}(hd:X0 P s t x k h Q):
  ∃v,(∀w,(w.heap=h∨∃kd,P.underlying t=some (.int kd))→(convert s t x).run P w=.ok v w)∧k v h Q:=by
 cases hs:P.underlying s with
 |none=>simp only[X0,hs] at hd;exact hd.elim
 |some ds=>
 cases ht:P.underlying t with
 |none=>simp only[X0,hs,ht] at hd;exact hd.elim
 |some dt=>
 cases dt with
 |int kd=>
  simp only[X0,hs,ht] at hd
  cases x<;>try exact hd.elim
  exact⟨_,fun w _=>by simp[convert,N7 hs,N7 ht,Conv.intToInt],hd⟩
 |string=>
  simp only[X0,hs,ht] at hd
  cases x<;>try exact hd.elim
  ·exact⟨_,fun w _=>by simp[convert,N7 hs,N7 ht],hd⟩
  ·rename_i a n c
   simp only at hd
   cases ds with
   |slice e=>
    simp only at hd
    cases he:P.underlying e with
    |none=>simp only[he] at hd;exact hd.elim
    |some de=>
    simp only[he] at hd
    cases de with
    |int kd=>
     cases kd with
     |u8=>
      obtain⟨ns,hr,hq⟩:=hd
      refine⟨_,fun w hw=>?_,hq⟩
      have hw:w.heap=h:=by
       rcases hw with hw|⟨kd,hk⟩
       ·exact hw
       ·cases hk
      subst hw
      rw[run_convert_bytes_string w s t e a n c hs he ht]
      cases a with
      |none=>
       have dZ:ns=[]:=by simpa[A0x] using hr
       subst dZ
       rfl
      |some a=>
       obtain⟨h1,h2⟩:=hr
       refine run_bytesToString w a n c ns ?_
       exact run_loadCells (by simpa using h1.symm) (fun j v hv=>h2 j v (by simpa using hv))
     |_=>exact hd.elim
    |_=>exact hd.elim
   |_=>exact hd.elim
 |_=>simp only[X0,hs,ht] at hd;exact hd.elim
end
end
section
theorem A7D(h:Heap)(a b:Addr)(v:Value):(O5 (U7 h a v) b).isSome=(O5 h b).isSome:=by
 unfold O5 U7
 simp only[G7]
 by_cases hb:a.block=b.block
 ·simp only[hb,if_true]
  cases hh:h[b.block]? with
  |none=>simp
  |some x=>
   cases x<;>simp
   cases hs:b.spot<;>simp
   cases ah:a.spot<;>simp
   rename_i c _ _
   by_cases af:b.off<c.size
   ·simp[af]
   ·simp[af]
 ·simp[hb]
theorem A6j(h:Heap)(a b:Addr)(v:Value):V5 (U7 h a v) b=V5 h b:=by
 unfold V5 U7
 simp only[G7]
 by_cases hb:a.block=b.block
 ·simp only[hb,if_true]
  cases hh:h[b.block]? with
  |none=>simp
  |some x=>cases x<;>simp
 ·simp[hb]
section
variable {P:Program}
theorem Y6(a:Addr):∀(vs:C3E) (i:Nat) (w:World),(∀(j:Nat) v,vs[j]? =some v→(O5 w.heap (a.add (i+j))).isSome=true∧V5 w.heap (a.add (i+j))=false∧v.oneCell'=true)→
  ∃w',(storeCells a vs i).run P w=.ok () w'∧Q7 w w'∧w'.heap=S8 w.heap a vs i
 |[],i,w,_=>⟨w,by simp[storeCells],Q7.refl w,rfl⟩
 |v::vs,i,w,hc=>by
  obtain⟨h1,h2,h3⟩:=hc 0 v rfl
  simp only[J8] at h1 h2
  obtain⟨w',hr,hs,hh⟩:=Y6 a vs (i+1) (w.setCell (a.add i) v) (fun j u hj=>by
   obtain⟨k1,k2,k3⟩:=hc (j+1) u (by simpa using hj)
   rw[show i+1+j=i+(j+1) from by omega,B1U,A7D,A6j]
   exact⟨k1,k2,k3⟩)
  refine⟨w',?_,⟨hs.os,hs.tape,hs.output⟩,hh⟩
  simp only[storeCells,Sem.run_bind]
  rw[run_store P w _ v _ h3,B2z]
  obtain⟨u,hu⟩:=Option.isSome_iff_exists.1 h1
  rw[hu,B7b,h2]
  simpa using hr
theorem A7p{t:TypeId}{d:TypeDesc}{w:World}{a:Addr}{vs:C3E}(hd:P.underlying t=some d)(cj:A1I d=true)
  (hn:P.cellsOf t=vs.length)(hc:∀(j:Nat) v,vs[j]? =some v→O5 w.heap (a.add j)=some v):(loadVar t a).run P w=.ok (.agg vs.toArray) w:=by
 obtain⟨i,hi⟩:=A7b hd
 simp only[loadVar,Sem.run_bind,A3v hd,Result.andThen_ok,cj,if_true,T6 hi]
 rw[run_loadCells (by rw[←hn,Z0 hi]) hc]
 rfl
theorem A7o{t:TypeId}{d:TypeDesc}{w:World}{a:Addr}{v:Value}(hd:P.underlying t=some d)(cj:A1I d=false)
  (hc:O5 w.heap a=some v):(loadVar t a).run P w=.ok v w:=by
 simp only[loadVar,Sem.run_bind,A3v hd,Result.andThen_ok,cj]
 exact B0D hc
variable {ρ:Type} {k:Value→HM ρ} {h:Heap} {Q:ρ→Heap→Prop}
theorem B9P(ts:List Tag)(x:Tup ts):(Tup.vals ts x).length=ts.length:=by
 induction ts with
 |nil=>rfl
 |cons t ts ih=>simp[HT.vals,ih]
theorem A3Y{t:TypeId}{x:Value}(hd:A1Q P t x k h Q):∃v,(∀w,w.heap=h→(Instr.loadAt t x).run P w=.ok v w)∧k v h Q:=by
 unfold A1Q at hd
 cases x<;>try exact hd.elim
 rename_i p
 cases p with
 |none=>exact hd.elim
 |some a=>
 have hl:∀w,(Instr.loadAt t (.pointer (some a))).run P w=(loadVar t a).run P w:=fun w=>by simp[Instr.loadAt,Instr.sureAddr]
 simp only[hl]
 simp only at hd
 cases hu:P.underlying t with
 |none=>simp only[hu] at hd;exact hd.elim
 |some d=>
  simp only[hu] at hd
  cases cj:A1I d with
  |true=>
   simp only[cj] at hd
   cases hk:kindOf P t with
   |none=>simp only[hk] at hd;exact hd.elim
   |some kd=>
    cases kd with
    |one tg=>simp only[hk] at hd;exact hd.elim
    |agg ts=>
     simp only[hk] at hd
     cases hb:Nat.beq ts.length (P.cellsOf t) with
     |false=>simp only[hb] at hd;exact hd.elim
     |true=>
      simp only[hb] at hd
      obtain⟨x,hx,hq⟩:=hd
      refine⟨_,fun w hw=>?_,hq⟩
      subst hw
      exact A7p hu cj (by rw[B9P];exact(B0 hb).symm) hx
  |false=>
   simp only[cj] at hd
   cases hk:kindOf P t with
   |none=>simp only[hk] at hd;exact hd.elim
   |some kd=>
    cases kd with
    |agg ts=>simp only[hk] at hd;exact hd.elim
    |one tg=>
     simp only[hk] at hd
     obtain⟨x,hx,hq⟩:=hd
     exact⟨_,fun w hw=>by subst hw;exact A7o hu cj hx,hq⟩
theorem s7{kd:Kind}{v:Value}{cs:C3E}(h1:Y3 kd v=some cs)(bX:∀t,kd=.one t→v.oneCell'=true):v.cells=cs.toArray:=by
 cases kd with
 |one t=>
  simp only[Y3,C3] at h1
  subst h1
  have:=bX t rfl
  cases v<;>first|rfl|simp[Value.oneCell'] at this
 |agg ts=>
  simp only[Y3] at h1
  cases v<;>simp only at h1<;>try cases h1
  split at h1
  ·cases h1;simp[Value.cells]
  ·cases h1
theorem A4J{kd:Kind}{v:Value}{α:Type}{m:HM α}{R:α→Heap→Prop}(hd:A5U kd v m h R):(∀t,kd=.one t→v.oneCell'=true)∧m h R:=by
 cases kd with
 |agg ts=>exact⟨fun t ht=>(by cases ht),hd⟩
 |one tg=>
  simp only[A5U] at hd
  cases ha:tg.isAny with
  |true=>simp only[ha] at hd;exact⟨fun _ _=>hd.1,hd.2⟩
  |false=>
   simp only[ha] at hd
   cases hx:tg.get v with
   |none=>simp only[hx] at hd;exact hd.elim
   |some x=>
    simp only[hx] at hd
    refine⟨fun t ht=>?_,hd⟩
    have:=Tag.aS hx
    subst this
    cases tg<;>first|rfl|cases ha
theorem A9x{t:TypeId}{x v:Value}(hd:A0E P t x v k h Q):∀w,w.heap=h→∃w',(Instr.storeAt t x v).run P w=.ok () w'∧Q7 w w'∧k undef w'.heap Q:=by
 unfold A0E at hd
 cases x<;>try exact hd.elim
 rename_i p
 cases p with
 |none=>exact hd.elim
 |some a=>
 simp only at hd
 cases hk:kindOf P t with
 |none=>simp only[hk] at hd;exact hd.elim
 |some kd=>
  simp only[hk] at hd
  obtain⟨i,z,hi,hz,-⟩:=B3I hk
  cases hc:Y3 kd v with
  |none=>simp only[hc] at hd;exact hd.elim
  |some cs=>
   simp only[hc] at hd
   cases hb:Nat.beq cs.length (P.cellsOf t) with
   |false=>simp only[hb] at hd;exact hd.elim
   |true=>
    simp only[hb] at hd
    have hlen:=B0 hb
    intro w hw
    subst hw
    have aM:∀(vs:C3E),v.cells=vs.toArray→(Instr.storeAt t (.pointer (some a)) v).run P w=(storeCells a vs 0).run P w∨vs.length≠i.size:=by
     intro vs al
     by_cases hl:vs.length=i.size
     ·left
      simp[Instr.storeAt,Instr.sureAddr,storeVar,T6 hi,al,hl]
     ·exact .inr hl
    cases kd with
    |one tg=>
     simp only at hd
     obtain⟨h1,h2,h3,hq⟩:=hd
     have hv:=s7 hc (fun _ _=>h3)
     simp only[Y3,C3] at hc
     subst hc
     obtain⟨w',hr,hs,hh⟩:=Y6 (P:=P) a [v] 0 w (fun j u hj=>by
      cases j with
      |zero=>simp at hj;subst hj;rw[F5,add_zero];exact⟨h1,h2,h3⟩
      |succ j=>simp at hj)
     refine⟨w',?_,hs,?_⟩
     ·rcases aM [v] hv with he|he
      ·rw[he];exact hr
      ·rw[Z0 hi] at hlen;exact absurd hlen he
     ·rw[hh]
      simpa[S8,add_zero] using hq
    |agg ts=>
     simp only at hd
     obtain⟨h1,hq⟩:=hd
     have hv:=s7 hc (fun _ ht=>by cases ht)
     obtain⟨w',hr,hs,hh⟩:=Y6 (P:=P) a cs 0 w (fun j u hj=>by rw[F5];exact h1 j u hj)
     refine⟨w',?_,hs,by rw[hh];exact hq⟩
     rcases aM cs hv with he|he
     ·rw[he];exact hr
     ·rw[Z0 hi] at hlen;exact absurd hlen he
theorem B42{t:TypeId}{v:Value}{cs:C3E}(hv:v.cells=cs.toArray)(w:World):
  (newVar t v).run P w=.ok ⟨w.heap.size,0,none⟩ {w with heap:=w.heap.push (.cells cs.toArray t)}:=by
 simp[newVar,newRow,hv]
theorem B2v{t:TypeId}{v:Value}(hd:A9G P t v k h Q):∀w,w.heap=h→∃u w',(Instr.box t v).run P w=.ok u w'∧Q7 w w'∧k u w'.heap Q:=by
 unfold A9G at hd
 cases hk:kindOf P t with
 |none=>simp only[hk] at hd;exact hd.elim
 |some kd=>
  simp only[hk] at hd
  cases hc:Y3 kd v with
  |none=>simp only[hc] at hd;exact hd.elim
  |some cs=>
   simp only[hc] at hd
   obtain⟨ho,hq⟩:=A4J hd
   intro w hw
   subst hw
   exact⟨_,w.alloc (.cells cs.toArray t),by simp[Instr.box,B42 (s7 hc ho)],⟨rfl,rfl,rfl⟩,hq⟩
theorem A9H{t:TypeId}(hd:A2U P t k h Q):∀w,w.heap=h→∃u w',(Instr.alloc t true (.tuple #[])).run P w=.ok u w'∧Q7 w w'∧k u w'.heap Q:=by
 unfold A2U at hd
 cases hi:P.info? t with
 |none=>simp only[hi] at hd;exact hd.elim
 |some i=>
  simp only[hi] at hd
  cases hz:i.zero with
  |none=>simp only[hz] at hd;exact hd.elim
  |some z=>
   simp only[hz] at hd
   intro w hw
   subst hw
   exact⟨_,w.alloc (.cells z.cells t),by simp[Instr.alloc,a7 hi hz,newVar,newRow],⟨rfl,rfl,rfl⟩,hd⟩
theorem A4u{s:TypeId}{x:Value}{f:Nat}(hd:m5 P s x f k h Q):∃v,(∀w,(Instr.fieldAt s x f).run P w=.ok v w)∧k v h Q:=by
 unfold m5 at hd
 cases x<;>try exact hd.elim
 rename_i p
 cases p with
 |none=>exact hd.elim
 |some a=>
 simp only at hd
 cases hu:P.underlying s with
 |none=>simp only[hu] at hd;exact hd.elim
 |some d=>
 cases d with
 |struct fields=>
  simp only[hu] at hd
  cases hf:fields.toList[f]? with
  |none=>simp only[hf] at hd;exact hd.elim
  |some fd=>
   simp only[hf] at hd
   cases hb:Nat.ble 1 (P.cellsOf fd.type) with
   |false=>simp only[hb] at hd;exact hd.elim
   |true=>
    simp only[hb] at hd
    refine⟨_,fun w=>?_,hd⟩
    have cf:fields[f]? =some fd:=by simpa using hf
    have ao:1≤P.cellsOf fd.type:=B1 hb
    cases hi:P.info? fd.type with
    |none=>simp[Program.cellsOf,hi] at ao
    |some i=>
     rw[Z0 hi] at ao
     have bh:i.size≠0:=by omega
     simp[Instr.fieldAt,N7 hu,cf,Instr.sureAddr,fieldPlace,T6 hi,bh]
 |_=>simp only[hu] at hd;exact hd.elim
theorem A9C{t:TypeId}{x:Value}{f:Nat}(hd:A2P P t x f k h Q):∃v,(∀w,(Instr.field t x f).run P w=.ok v w)∧k v h Q:=by
 unfold A2P at hd
 cases x<;>try exact hd.elim
 rename_i cs
 simp only at hd
 cases hu:P.underlying t with
 |none=>simp only[hu] at hd;exact hd.elim
 |some d=>
 cases d with
 |struct fields=>
  simp only[hu] at hd
  cases hf:fields.toList[f]? with
  |none=>simp only[hf] at hd;exact hd.elim
  |some fd=>
   simp only[hf] at hd
   cases hp:l8 P fd.type cs.toList fd.offset with
   |none=>simp only[hp] at hd;exact hd.elim
   |some v=>
    simp only[hp] at hd
    refine⟨_,fun w=>?_,hd⟩
    have cf:fields[f]? =some fd:=by simpa using hf
    have:=Z3 hp w
    simp only[Instr.field,Sem.run_bind,N7 hu,Result.andThen_ok,cf,asAgg,Sem.run_pure]
    simpa using this
 |_=>simp only[hu] at hd;exact hd.elim
theorem A4t{t:TypeId}{x i:Value}(hd:Z5 P t x i k h Q):∃v,(∀w,(Instr.indexAt t x i).run P w=.ok v w)∧k v h Q:=by
 unfold Z5 at hd
 cases i<;>try exact hd.elim
 rename_i ki n
 simp only at hd
 cases hu:P.underlying t with
 |none=>simp only[hu] at hd;exact hd.elim
 |some d=>
 cases d with
 |slice elem=>
  simp only[hu] at hd
  cases x<;>try exact hd.elim
  rename_i a len cap
  simp only at hd
  cases hi:P.info? elem with
  |none=>simp only[hi] at hd;exact hd.elim
  |some inf=>
   simp only[hi] at hd
   obtain⟨ad,rfl,h0,h1,hq⟩:=hd
   refine⟨_,fun w=>?_,hq⟩
   simp[Instr.indexAt,asIntOf,N7 hu,h0,h1,T6 hi]
 |array len elem=>
  simp only[hu] at hd
  cases x<;>try exact hd.elim
  rename_i p
  cases p with
  |none=>exact hd.elim
  |some a=>
  simp only at hd
  cases hi:P.info? elem with
  |none=>simp only[hi] at hd;exact hd.elim
  |some inf=>
   simp only[hi] at hd
   obtain⟨ad,hh,h0,h1,hq⟩:=hd
   cases hh
   refine⟨_,fun w=>?_,hq⟩
   simp[Instr.indexAt,asIntOf,N7 hu,h0,h1,T6 hi,Instr.sureAddr]
 |_=>simp only[hu] at hd;exact hd.elim
theorem A9B{t:TypeId}{x i:Value}(hd:A2O P t x i k h Q):∃v,(∀w,(Instr.index t x i).run P w=.ok v w)∧k v h Q:=by
 unfold A2O at hd
 cases i<;>try exact hd.elim
 rename_i ki n
 simp only at hd
 cases hu:P.underlying t with
 |none=>simp only[hu] at hd;exact hd.elim
 |some d=>
 cases d with
 |string=>
  simp only[hu] at hd
  cases x<;>try exact hd.elim
  rename_i s
  simp only at hd
  obtain⟨b,h0,hb,hq⟩:=hd
  refine⟨_,fun w=>?_,hq⟩
  simp[Instr.index,asIntOf,N7 hu,h0,hb]
 |_=>simp only[hu] at hd;exact hd.elim
theorem A5x{o:Oper}{x:Operand}{ev:Operand→Value}(ho:o.op=.nilCheck x)(hd:A2M (ev x) k h Q):∃v,Stat P (execOp ev o) v∧k v h Q:=by
 cases hp:ev x with
 |pointer p=>
  rw[hp] at hd
  obtain⟨a,rfl,hq⟩:=hd
  exact⟨_,fun w=>by simp[execOp,ho,hp],hq⟩
 |func fn first captured=>
  rw[hp] at hd
  cases fn with
  |func f=>exact⟨_,fun w=>by simp[execOp,ho,hp],hd⟩
  |_=>exact hd.elim
 |_=>rw[hp] at hd;exact hd.elim
end
end
section
section
variable {P:Program} {ρ:Type} {k:Value→HM ρ} {h:Heap} {Q:ρ→Heap→Prop}
def A0b(v:Option Value)(r:Option Int):Prop:=
 match r with
 |none=>v=none
 |some n=>∃kd,v=some (.int kd n)
theorem A1C{DF:List Deferred}{n:Nat}{e:Env}{a:Act}(hA:R6 DF n e a){x:Option Operand}{r:Option Int}(hx:A0A e x=some r):A0b (x.map a.eval) r:=by
 cases x with
 |none=>simp only[A0A,C3] at hx;subst hx;rfl
 |some x=>
  simp only[A0A] at hx
  split at hx
  ·rename_i kd m hv
   cases hx
   exact⟨kd,by simp[hA.ev hv]⟩
  ·cases hx
theorem run_sliceBound(kd:IntKind)(n:Int)(y:Nat)(code:BoundsCode)(m:Nat)(hm:n=(m:Int))(hle:m≤y)(w:World):
  (Instr.sliceBound (.int kd n) y code).run P w=.ok m w:=by
 subst hm
 have h1:(0:Int)≤(m:Int)∧(m:Int)≤(y:Int):=by omega
 simp[Instr.sliceBound,asIntOf,h1]
theorem A2a{b:Bool}{len cap:Nat}{lo hi mx:Option Value}{rl rh rm:Option Int}(hl:A0b lo rl)(hh:A0b hi rh)(hm:A0b mx rm){l u m:Nat}
  (h1:b6 rm (m=cap) m cap)(h2:b6 rh (rm=none∧u=len) u m)(h3:b6 rl (l=0) l u)(w:World):(Instr.sliceBounds b len cap lo hi mx).run P w=.ok (l,u,m) w:=by
 unfold Instr.sliceBounds
 cases rm with
 |none=>
  simp only[A0b] at hm;subst hm
  simp only[b6] at h1;subst h1
  cases rh with
  |none=>
   simp only[A0b] at hh;subst hh
   obtain⟨-,rfl⟩:=h2
   cases rl with
   |none=>simp only[A0b] at hl;subst hl;simp only[b6] at h3;subst h3;rfl
   |some x=>obtain⟨kd,rfl⟩:=hl;simp[run_sliceBound _ _ _ _ _ h3.1 h3.2]
  |some y=>
   obtain⟨kd,rfl⟩:=hh
   cases rl with
   |none=>simp only[A0b] at hl;subst hl;simp only[b6] at h3;subst h3;simp[run_sliceBound _ _ _ _ _ h2.1 h2.2]
   |some x=>obtain⟨kd,rfl⟩:=hl;simp[run_sliceBound _ _ _ _ _ h2.1 h2.2,run_sliceBound _ _ _ _ _ h3.1 h3.2]
 |some z=>
  obtain⟨kz,rfl⟩:=hm
  cases rh with
  |none=>exact absurd h2.1 (by simp)
  |some y=>
   obtain⟨kd,rfl⟩:=hh
   cases rl with
   |none=>simp only[A0b] at hl;subst hl;simp only[b6] at h3;subst h3;simp[run_sliceBound _ _ _ _ _ h1.1 h1.2,run_sliceBound _ _ _ _ _ h2.1 h2.2]
   |some x=>obtain⟨kd,rfl⟩:=hl;simp[run_sliceBound _ _ _ _ _ h1.1 h1.2,run_sliceBound _ _ _ _ _ h2.1 h2.2,run_sliceBound _ _ _ _ _ h3.1 h3.2]
theorem A9y{t:TypeId}{x:Value}{lo hi mx:Option Value}{rl rh rm:Option Int}(hl:A0b lo rl)(hh:A0b hi rh)(hm:A0b mx rm)
  (hd:U9 P t x rl rh rm k h Q):∃v,(∀w,(Instr.sliceAt t x lo hi mx).run P w=.ok v w)∧k v h Q:=by
 unfold U9 at hd
 cases hu:P.underlying t with
 |none=>simp only[hu] at hd;exact hd.elim
 |some d=>
 cases d with
 |string=>
  simp only[hu] at hd
  cases x<;>try exact hd.elim
  rename_i s
  cases rm with
  |some _=>exact hd.elim
  |none=>
   obtain⟨l,u,h1,h2,hq⟩:=hd
   refine⟨_,fun w=>?_,hq⟩
   have iR:mx=none:=hm
   subst iR
   have dQ:b6 rh ((none:Option Int)=none∧u=s.size) u s.size:=by
    cases rh with
    |none=>exact⟨rfl,h1⟩
    |some y=>exact h1
   have hb:=A2a (P:=P) (b:=false) (len:=s.size) (cap:=s.size) (m:=s.size) hl hh (mx:=none) (rm:=none) rfl rfl dQ h2 w
   simp only[Instr.sliceAt,Sem.run_bind,N7 hu,Result.andThen_ok,Instr.slice,Option.isSome_none,F4,if_false,hb]
   rfl
 |slice elem=>
  simp only[hu] at hd
  cases x<;>try exact hd.elim
  rename_i a n c
  simp only at hd
  cases da:P.info? elem with
  |none=>simp only[da] at hd;exact hd.elim
  |some inf=>
   simp only[da] at hd
   obtain⟨l,u,m,h1,h2,h3,hq⟩:=hd
   refine⟨_,fun w=>?_,hq⟩
   have hb:=A2a (P:=P) (b:=true) (len:=n) (cap:=c) hl hh hm h1 h2 h3 w
   simp only[Instr.sliceAt,Sem.run_bind,N7 hu,Result.andThen_ok,Instr.slice,hb,T6 da]
   rfl
 |_=>simp only[hu] at hd;exact hd.elim
def Kind.width:Kind→Nat
 |.one _=>1
 |.agg ts=>ts.length
theorem A2w(cs:C3E)(off:Nat):V4 cs off []=cs:=by cases cs<;>rfl
theorem A43(v:Value)(vs:C3E):∀(cs:C3E) (off:Nat),off<cs.length→V4 cs off (v::vs)=V4 (cs.set off v) (off+1) vs
 |[],off,h=>by simp at h
 |c::cs,0,_=>by
  cases vs with
  |nil=>simp[V4,A2w]
  |cons u us=>simp[V4]
 |c::cs,off+1,h=>by
  have ih:=A43 v vs cs off (by simpa using h)
  cases vs with
  |nil=>simp only[V4,List.set_cons_succ,A2w] at ih⊢;rw[ih]
  |cons u us=>simp only[V4,List.set_cons_succ] at ih⊢;rw[ih]
theorem A5o(off:Nat):∀(vs:C3E) (i:Nat) (cs:C3E),off+i+vs.length≤cs.length→
  (vs.zipIdx i).foldl (fun cs (x:Value×Nat)=>cs.setIfInBounds (off+x.2) x.1) cs.toArray=(V4 cs (off+i) vs).toArray
 |[],i,cs,_=>by simp[A2w]
 |v::vs,i,cs,hle=>by
  simp only[D8] at hle
  rw[A43 v vs cs (off+i) (by omega)]
  have:=A5o off vs (i+1) (cs.set (off+i) v) (by simp;omega)
  simp only[List.zipIdx_cons,List.foldl_cons]
  rw[show off+i+1=off+(i+1) from by omega,←this]
  congr 1
  simp
theorem B35{kd:Kind}{v:Value}{cs:C3E}(h1:Y3 kd v=some cs):cs.length=kd.width:=by
 cases kd with
 |one t=>simp only[Y3,C3] at h1;subst h1;rfl
 |agg ts=>
  simp only[Y3] at h1
  cases v<;>simp only at h1<;>try cases h1
  split at h1
  ·rename_i hb;cases h1;exact B0 hb
  ·cases h1
theorem l6{place:Nat→Option (Nat×Kind)}{m:HM ρ}:∀(ps:List (Nat×Value)),y0 place ps m h Q→
  (∀i v off kd,(i,v)∈ps→place i=some (off,kd)→∀t,kd=.one t→v.oneCell'=true)∧m h Q
 |[],hd=>by
  refine⟨fun _ _ _ _ hm=>?_,hd⟩
  exact absurd hm (K3)
 |(i,v)::rest,hd=>by
  simp only[y0] at hd
  cases hp:place i with
  |none=>simp only[hp] at hd;exact hd.elim
  |some x=>
   obtain⟨off,kd⟩:=x
   simp only[hp] at hd
   obtain⟨h1,h2⟩:=A4J hd
   obtain⟨h3,h4⟩:=l6 rest h2
   refine⟨fun j u off' kd' hm cm=>?_,h4⟩
   cases hm with
   |head=>rw[hp] at cm;cases cm;exact h1
   |tail _ hm=>exact h3 j u off' kd' hm cm
theorem A1M{place':Nat→Option (Nat×Nat)}{place:Nat→Option (Nat×Kind)}(iQ:∀i off kd,place i=some (off,kd)→place' i=some (off,kd.width)):
  ∀(ps:List (Nat×Value)) (cs out:C3E),z8 place cs ps=some out→
   (∀i v off kd,(i,v)∈ps→place i=some (off,kd)→∀t,kd=.one t→v.oneCell'=true)→Instr.fill place' cs.toArray ps=some out.toArray
 |[],cs,out,hf,_=>by simp only[z8,C3] at hf;subst hf;rfl
 |(i,v)::rest,cs,out,hf,bX=>by
  simp only[z8] at hf
  split at hf
  ·rename_i off kd hp
   split at hf
   ·rename_i vs al
    split at hf
    ·rename_i hb
     have hle:off+vs.length≤cs.length:=B1 hb
     have eb:=s7 al (bX i v off kd (B7 ..) hp)
     have hlen:=B35 al
     have ih:=A1M iQ rest _ out hf (fun j u off' kd' hm=>bX j u off' kd' (B8 _ hm))
     simp only[Instr.fill,iQ i off kd hp,eb]
     have iB:¬((vs.toArray.size≠kd.width||off+vs.toArray.size>cs.toArray.size)=true):=by
      simp[hlen];omega
     rw[if_neg iB]
     rw[←ih]
     congr 1
     have:=A5o off vs 0 cs (by omega)
     rw[J8] at this
     rw[←this]
     simp[←Array.foldl_toList]
    ·cases hf
   ·cases hf
  ·cases hf
theorem B3b{α β:Type}{f:α→Sem β}{g:α→β}{w:World}:∀(xs:List α),(∀x∈xs,(f x).run P w=.ok (g x) w)→(xs.mapM f).run P w=.ok (xs.map g) w
 |[],_=>rfl
 |x::xs,hf=>by
  rw[List.mapM_cons]
  simp only[Sem.run_bind,hf x (B7 ..),Result.andThen_ok,B3b xs (fun y hy=>hf y (B8 _ hy)),Sem.run_pure,B6]
theorem A3Z:∀(fs:List Field),A3C P fs=true→∀f∈fs,∃i,P.info? f.type=some i
 |[],_,_,hf=>by cases hf
 |g::fs,hi,f,hf=>by
  simp only[A3C] at hi
  split at hi
  ·rename_i i bH
   cases hf with
   |head=>exact⟨i,bH⟩
   |tail _ hf=>exact A3Z fs hi f hf
  ·cases hi
theorem A5p{fields:Array Field}{i off:Nat}{kd:Kind}(hp:Y8 P fields i=some (off,kd)):∃f,fields.toList[i]? =some f∧f.offset=off∧P.cellsOf f.type=kd.width:=by
 unfold Y8 at hp
 split at hp
 ·rename_i f hf
  refine⟨f,hf,?_⟩
  split at hp
  ·split at hp
   ·split at hp
    ·rename_i hb;cases hp;exact⟨rfl,B0 hb⟩
    ·cases hp
   ·split at hp
    ·rename_i hb;cases hp;exact⟨rfl,B0 hb⟩
    ·cases hp
  ·cases hp
 ·cases hp
theorem A1h{elem:TypeId}{i off:Nat}{kd:Kind}(hp:T5 P elem i=some (off,kd)):off=i*P.cellsOf elem∧P.cellsOf elem=kd.width:=by
 unfold T5 at hp
 split at hp
 ·split at hp
  ·split at hp
   ·rename_i hb;cases hp;have:=B0 hb;rw[this];exact⟨by omega,rfl⟩
   ·cases hp
  ·split at hp
   ·rename_i hb;cases hp;have:=B0 hb;rw[this];exact⟨rfl,rfl⟩
   ·cases hp
 ·cases hp
theorem A9F{t:TypeId}{ps:Array (Nat×Value)}(hd:A2S P t ps.toList k h Q):∃v,(∀w,(Instr.build t ps).run P w=.ok v w)∧k v h Q:=by
 unfold A2S at hd
 cases hu:P.underlying t with
 |none=>simp only[hu] at hd;exact hd.elim
 |some d=>
 cases d with
 |struct fields=>
  simp only[hu] at hd
  cases ha:A3C P fields.toList with
  |false=>simp only[ha] at hd;exact hd.elim
  |true=>
  simp only[ha] at hd
  cases hi:P.info? t with
  |none=>simp only[hi] at hd;exact hd.elim
  |some i=>
  simp only[hi] at hd
  cases hz:i.zero with
  |none=>simp only[hz] at hd;exact hd.elim
  |some z=>
  simp only[hz] at hd
  cases hf:z8 (Y8 P fields) z.cells.toList ps.toList with
  |none=>simp only[hf] at hd;exact hd.elim
  |some cs=>
   simp only[hf] at hd
   obtain⟨bX,hq⟩:=l6 _ hd
   refine⟨_,fun w=>?_,hq⟩
   have iQ:∀w,(fields.mapM fun f=>do pure (f.offset,←sizeOf f.type):Sem _).run P w=.ok (fields.map fun f=>(f.offset,P.cellsOf f.type)) w:=by
    intro w
    rw[Array.mapM_eq_mapM_toList]
    simp only[Sem.run_map]
    rw[B3b (g:=fun f=>(f.offset,P.cellsOf f.type)) fields.toList (fun f hf=>by
     obtain⟨i,hi⟩:=A3Z _ ha f hf
     simp[T6 hi,Z0 hi])]
    simp only[Result.andThen_ok]
    congr 1
    apply D3.1
    simp
   have bu:=A1M (place':=fun i=>(fields.map fun f=>(f.offset,P.cellsOf f.type))[i]?) (fun i off kd hp=>by
    obtain⟨f,hf,h1,h2⟩:=A5p hp
    have cf:fields[i]? =some f:=by simpa using hf
    simp[cf,h1,h2]) ps.toList _ _ hf bX
   simp only[Instr.build,Sem.run_bind,a7 hi hz,Result.andThen_ok,N7 hu,iQ]
   simp only[J1] at bu
   rw[bu]
   rfl
 |array len elem=>
  simp only[hu] at hd
  cases hi:P.info? t with
  |none=>simp only[hi] at hd;exact hd.elim
  |some i=>
  simp only[hi] at hd
  cases hz:i.zero with
  |none=>simp only[hz] at hd;exact hd.elim
  |some z=>
  simp only[hz] at hd
  cases he:P.info? elem with
  |none=>simp only[he] at hd;exact hd.elim
  |some ie=>
  simp only[he] at hd
  cases hf:z8 (T5 P elem) z.cells.toList ps.toList with
  |none=>simp only[hf] at hd;exact hd.elim
  |some cs=>
   simp only[hf] at hd
   obtain⟨bX,hq⟩:=l6 _ hd
   refine⟨_,fun w=>?_,hq⟩
   have bu:=A1M (place':=fun i=>some (i*ie.size,ie.size)) (fun i off kd hp=>by
    obtain⟨h1,h2⟩:=A1h hp
    rw[Z0 he] at h1 h2
    simp[h1,h2]) ps.toList _ _ hf bX
   simp only[Instr.build,Sem.run_bind,a7 hi hz,Result.andThen_ok,N7 hu,T6 he]
   simp only[J1] at bu
   rw[bu]
   rfl
 |_=>simp only[hu] at hd;exact hd.elim
theorem B5V(z:C3E)(n:Nat):B1W z n=(List.range (n*z.length)).map (fun i=>z[i % z.length]!):=by
 induction n with
 |zero=>simp[B1W]
 |succ n ih=>
  have hz:(List.range z.length).map (fun i=>z[i % z.length]!)=z:=by
   apply List.ext_getElem
   ·simp
   ·intro i h1 h2
    simp only[List.getElem_map,List.getElem_range]
    rw[Nat.mod_eq_of_lt h2,getElem!_pos z i h2]
  rw[B1W,ih,H3,Nat.add_comm,List.range_add,C7,hz]
  congr 1
  simp[F6,G5]
theorem A3J{t:TypeId}{n:Nat}{ps:Array (Nat×Value)}(hd:b8 P t n ps.toList k h Q):
  ∀w,w.heap=h→∃v w',(Instr.buildSlice t n ps).run P w=.ok v w'∧Q7 w w'∧k v w'.heap Q:=by
 unfold b8 at hd
 cases hu:P.underlying t with
 |none=>simp only[hu] at hd;exact hd.elim
 |some d=>
 cases d with
 |slice elem=>
  simp only[hu] at hd
  cases hi:P.info? elem with
  |none=>simp only[hi] at hd;exact hd.elim
  |some i=>
  simp only[hi] at hd
  cases hz:i.zero with
  |none=>simp only[hz] at hd;exact hd.elim
  |some z=>
  simp only[hz] at hd
  cases hb:Nat.beq z.cells.toList.length i.size with
  |false=>simp only[hb] at hd;exact hd.elim
  |true=>
  simp only[hb] at hd
  cases cN:Nat.ble (n*i.size) 16777216 with
  |false=>simp only[cN] at hd;exact hd.elim
  |true=>
  simp only[cN] at hd
  cases dU:Nat.ble 1 i.size with
  |false=>simp only[dU] at hd;exact hd.elim
  |true=>
  simp only[dU] at hd
  cases hf:z8 (T5 P elem) (B1W z.cells.toList n) ps.toList with
  |none=>simp only[hf] at hd;exact hd.elim
  |some cs=>
   simp only[hf] at hd
   obtain⟨bX,hq⟩:=l6 _ hd
   intro w hw
   subst hw
   refine⟨_,w.alloc (.cells cs.toArray elem),?_,⟨rfl,rfl,rfl⟩,hq⟩
   have h1:=B0 hb
   have h2:=B1 cN
   have h3:=B1 dU
   have bu:=A1M (place':=fun j=>some (j*i.size,i.size)) (fun j off kd hp=>by
    obtain⟨g1,g2⟩:=A1h hp
    rw[Z0 hi] at g1 g2
    simp[g1,g2]) ps.toList _ _ hf bX
   have ao:z.cells.size=i.size:=by simpa using h1
   have mX:(B1W z.cells.toList n).toArray=(Array.range (n*i.size)).map (fun j=>z.cells[j % z.cells.size]!):=by
    apply D3.1
    rw[B5V]
    simp[ao,Array.toList_range]
    intro a _
    rw[getElem!_def]
    cases z.cells[a % i.size]? <;>rfl
   rw[mX] at bu
   have hle:¬(n*i.size>2 ^ 24):=by omega
   by_cases h0:n*i.size=0
   ·have hr0:(Array.range (n*i.size)).map (fun j=>z.cells[j % z.cells.size]!)=#[]:=by rw[h0];simp
    rw[hr0] at bu
    simp only[Instr.buildSlice,Sem.run_bind,N7 hu,Result.andThen_ok,T6 hi,if_neg hle,Sem.run_pure,Sem.run_ite,if_pos h0]
    simp only[h0]
    rw[show(Array.range 0).map (fun x=>(#[]:C3D)[x % (#[]:C3D).size]!)=#[] from by simp,bu]
    simp[newRow]
   ·simp only[Instr.buildSlice,Sem.run_bind,N7 hu,Result.andThen_ok,T6 hi,if_neg hle,Sem.run_pure,Sem.run_ite,if_neg h0,a7 hi hz]
    rw[bu]
    simp[newRow]
 |_=>simp only[hu] at hd;exact hd.elim
end
end
section
section
variable {P:Program} {ρ:Type} {k:Value→HM ρ} {h:Heap} {Q:ρ→Heap→Prop}
theorem A0w{a:C3C}{m n c size:Nat}{vs:C3D}{w:World}(hr:A0x w.heap a (n*size) vs):
  (Builtin.firstCells size n (.slice a m c)).run P w=.ok vs w:=by
 cases a with
 |none=>simp only[A0x] at hr;subst hr;rfl
 |some x=>
  obtain⟨h1,h2⟩:=hr
  have:=run_loadCells (P:=P) (a:=x) (w:=w) (vs:=vs.toList) (n:=n*size) (by simp[h1]) (fun j v hj=>h2 j v (by simpa using hj))
  simpa[Builtin.firstCells] using this
theorem A4c{s:B1q}{size:Nat}{w:World}:(Builtin.firstCells size s.size (.string s)).run P w=.ok (s.data.map fun b=>.int .u8 b.toNat) w:=by
 simp[Builtin.firstCells,ByteArray.extract_zero_size]
theorem A9P{t u elem:TypeId}{ty:TypeId}{i:TypeInfo}{z x:Value}{s:Slc}{n:Nat}{src:Heap→C3D→Prop}{du:TypeDesc}
  (ht:P.underlying t=some (.slice elem))(hu:P.underlying u=some du)(qP:∀kd,du≠ .int kd)(hi:P.info? elem=some i)(hz:i.zero=some z)
  (hlen:∀w,(Builtin.lenOf x).run P w=.ok n w)
  (bW:∀(w:World) (vs:C3D),src w.heap vs→(Builtin.firstCells i.size n x).run P w=.ok vs w)
  {R:Slc→Heap→Prop}(hd:HM.append elem i.size i.bytes z.cells s n src h R):
  ∀w,w.heap=h→∃r w',(Builtin.append_ #[t,u] ty #[.slice s.a s.len s.cap,x]).run P w=.ok (.slice r.a r.len r.cap) w'∧Q7 w w'∧R r w'.heap:=by
 intro w hw
 subst hw
 obtain⟨h1,h2⟩:=hd
 have mF:(match du with|.int _=>true|_=>false)=false:=by cases du<;>first|rfl|exact absurd rfl (qP _)
 by_cases hle:s.len+n≤s.cap
 ·obtain⟨vs,al,hm⟩:=h1 hle
  cases ha:s.a with
  |none=>
   simp only[ha] at hm
   refine⟨_,w,?_,Q7.refl w,hm⟩
   simp[Builtin.append_,N7 ht,N7 hu,mF,T6 hi,hlen,hle,bW w vs al]
  |some a=>
   simp only[ha] at hm
   obtain⟨h3,hq⟩:=hm
   obtain⟨w',hr,hs,hh⟩:=Y6 (P:=P) (a.add (s.len*i.size)) vs.toList 0 w (fun j v hj=>by rw[F5];exact h3 j v (by simpa using hj))
   refine⟨⟨some a,s.len+n,s.cap⟩,w',?_,hs,by rw[hh];exact hq⟩
   simp[Builtin.append_,N7 ht,N7 hu,mF,T6 hi,hlen,hle,bW w vs al,hr]
 ·obtain⟨dy,dJ,old,vs,hold,al,hq⟩:=h2 (by omega)
  have iB:¬(((s.len+n:Nat):Int)>IntKind.i64.max∧(false=true∨i.bytes=0)):=by rw[IntKind.max_i64];omega
  have eR:¬(Builtin.nextslicecap (s.len+n) s.cap*i.bytes>2 ^ 48):=by omega
  have iS:s.len+n≤Question.cut (.appendCap (s.len+n) s.cap elem) (w.tape w.drawn (.appendCap (s.len+n) s.cap elem)):=by simp[Question.cut]
  have ni:Question.cut (.appendCap (s.len+n) s.cap elem) (w.tape w.drawn (.appendCap (s.len+n) s.cap elem))≤9223372036854775807:=by
   simp only[Question.cut]
   have:=Nat.mod_lt (w.tape w.drawn (.appendCap (s.len+n) s.cap elem)) (show 2 ^ 63-(s.len+n)>0 by omega)
   omega
  refine⟨_,(w.drew).alloc (.cells (old++vs++Builtin.zeroCells z.cells (Question.cut (.appendCap (s.len+n) s.cap elem) (w.tape w.drawn (.appendCap (s.len+n) s.cap elem))-(s.len+n))) elem),?_,⟨rfl,rfl,rfl⟩,hq _ iS ni⟩
  have jD:(Builtin.firstCells i.size s.len (.slice s.a s.len s.cap)).run P w.drew=.ok old w.drew:=A0w (w:=w.drew) hold
  have gU:(Builtin.firstCells i.size n x).run P w.drew=.ok vs w.drew:=bW w.drew vs al
  have nI:¬(((s.len:Int)+(n:Int))>9223372036854775807∧i.bytes=0):=by omega
  simp[Builtin.append_,N7 ht,N7 hu,mF,T6 hi,hlen,hle,A2s hi,nI,eR,Question.forced,jD,gU,a7 hi hz,newRow]
theorem A7N{ts:Array TypeId}{ty:TypeId}{vs:C3D}(hd:V9 P ts.toList vs.toList k h Q):
  ∀w,w.heap=h→∃r w',(Builtin.append_ ts ty vs).run P w=.ok r w'∧Q7 w w'∧k r w'.heap Q:=by
 obtain⟨ts⟩:=ts
 obtain⟨vs⟩:=vs
 simp only at hd
 unfold V9 at hd
 match ts,vs,hd with
 |[t,u],[s,x],hd=>
  simp only at hd
  cases ht:P.underlying t with
  |none=>simp only[ht] at hd;exact hd.elim
  |some d=>
  cases d with
  |slice elem=>
   simp only[ht] at hd
   cases s<;>try exact hd.elim
   rename_i a n c
   simp only at hd
   cases hi:P.info? elem with
   |none=>simp only[hi] at hd;exact hd.elim
   |some i=>
   simp only[hi] at hd
   cases hz:i.zero with
   |none=>simp only[hz] at hd;exact hd.elim
   |some z=>
   simp only[hz] at hd
   cases hu:P.underlying u with
   |none=>simp only[hu] at hd;exact hd.elim
   |some du=>
   cases du with
   |slice e2=>
    simp only[hu] at hd
    cases x<;>try exact hd.elim
    rename_i b m dd
    simp only at hd
    intro w hw
    obtain⟨r,w',hr,hs,hq⟩:=A9P (ty:=ty) (x:=.slice b m dd) (s:=⟨a,n,c⟩) ht hu (by simp) hi hz (fun w=>rfl) (fun w vs al=>A0w al) hd w hw
    exact⟨_,w',hr,hs,hq⟩
   |string=>
    simp only[hu] at hd
    cases x<;>try exact hd.elim
    rename_i b
    simp only at hd
    intro w hw
    obtain⟨r,w',hr,hs,hq⟩:=A9P (ty:=ty) (x:=.string b) (s:=⟨a,n,c⟩) ht hu (by simp) hi hz (fun w=>rfl) (fun w vs al=>by simp only[A5S] at al;subst al;exact A4c) hd w hw
    exact⟨_,w',hr,hs,hq⟩
   |_=>simp only[hu] at hd;exact hd.elim
  |_=>simp only[ht] at hd;exact hd.elim
 |[],_,hd=>exact hd.elim
 |[_],_,hd=>exact hd.elim
 |[_,_],[],hd=>exact hd.elim
 |[_,_],[_],hd=>exact hd.elim
 |[_,_],_::_::_::_,hd=>exact hd.elim
 |_::_::_::_,_,hd=>exact hd.elim
theorem B2t{ts:Array TypeId}{ty:TypeId}{vs:C3D}(hd:Z8 P ts.toList vs.toList k h Q):
  ∃v,(∀w,w.heap=h→(Builtin.len_ ts ty vs).run P w=.ok v w)∧k v h Q:=by
 obtain⟨ts⟩:=ts
 obtain⟨vs⟩:=vs
 simp only at hd
 unfold Z8 at hd
 match ts,vs,hd with
 |[t],[x],hd=>
  simp only at hd
  cases ht:P.underlying t with
  |none=>simp only[ht] at hd;exact hd.elim
  |some d=>
  cases d with
  |string=>
   simp only[ht] at hd
   cases x<;>try exact hd.elim
   exact⟨_,fun w _=>by simp[Builtin.len_,N7 ht,goInt],hd⟩
  |slice e=>
   simp only[ht] at hd
   cases x<;>try exact hd.elim
   exact⟨_,fun w _=>by simp[Builtin.len_,N7 ht,goInt],hd⟩
  |array n e=>
   simp only[ht] at hd
   exact⟨_,fun w _=>by simp[Builtin.len_,N7 ht,goInt],hd⟩
  |map a b=>
   simp only[ht] at hd
   cases x<;>try exact hd.elim
   rename_i r
   obtain⟨es,clock,he,hq⟩:=hd
   refine⟨_,fun w hw=>?_,hq⟩
   subst hw
   cases r with
   |none=>obtain⟨rfl,-⟩:=he;simp[Builtin.len_,N7 ht,goInt]
   |some r=>
    have hg:(getObj r).run P w=.ok (.map es.toArray clock) w:=by
     have fE:w.heap[r]? =some (.map es.toArray clock):=he
     simp[getObj,Sem.run,fE]
    simp[Builtin.len_,N7 ht,goInt,hg]
  |_=>simp only[ht] at hd;exact hd.elim
 |[],_,hd=>exact hd.elim
 |[_],[],hd=>exact hd.elim
 |[_],_::_::_,hd=>exact hd.elim
 |_::_::_,_,hd=>exact hd.elim
theorem A2e{mx:Bool}{ts:Array TypeId}{ty:TypeId}{vs:C3D}(hd:A0r mx vs.toList k h Q):
  ∃v,(∀w,(if mx=true then Builtin.max_ ts ty vs else Builtin.min_ ts ty vs).run P w=.ok v w)∧k v h Q:=by
 obtain⟨vs⟩:=vs
 simp only at hd
 unfold A0r at hd
 split at hd
 ·rename_i ka a kb b
  cases hk:A1e ka kb with
  |false=>simp only[hk] at hd;exact hd.elim
  |true=>
   simp only[hk] at hd
   obtain rfl:=A0T hk
   cases mx with
   |true=>exact⟨_,fun w=>by simp[Builtin.max_,Builtin.max2],hd⟩
   |false=>exact⟨_,fun w=>by simp[Builtin.min_,Builtin.min2],hd⟩
 ·rename_i ka a kb b kc c
  cases hk:A1e ka kb&&A1e ka kc with
  |false=>simp only[hk] at hd;exact hd.elim
  |true=>
   simp only[hk] at hd
   rw[E8] at hk
   obtain rfl:=A0T hk.1
   obtain rfl:=A0T hk.2
   cases mx with
   |true=>exact⟨_,fun w=>by simp[Builtin.max_,Builtin.max2],hd⟩
   |false=>exact⟨_,fun w=>by simp[Builtin.min_,Builtin.min2],hd⟩
 ·exact hd.elim
theorem A4s{t:TypeId}{n c:Value}(hd:m4 P t n c k h Q):
  ∀w,w.heap=h→∃r w',(Instr.makeSlice t n c).run P w=.ok r w'∧Q7 w w'∧k r w'.heap Q:=by
 unfold m4 at hd
 cases ht:P.underlying t with
 |none=>simp only[ht] at hd;exact hd.elim
 |some d=>
 cases d with
 |slice elem=>
  simp only[ht] at hd
  cases hi:P.info? elem with
  |none=>simp only[hi] at hd;exact hd.elim
  |some i=>
  simp only[hi] at hd
  cases hz:i.zero with
  |none=>simp only[hz] at hd;exact hd.elim
  |some z=>
  simp only[hz] at hd
  cases hb:Nat.beq z.cells.toList.length i.size with
  |false=>simp only[hb] at hd;exact hd.elim
  |true=>
  simp only[hb] at hd
  cases n<;>try exact hd.elim
  cases c<;>try exact hd.elim
  rename_i kn n kc c
  obtain⟨h0,h1,h2,h3,hq⟩:=hd
  intro w hw
  subst hw
  have ao:z.cells.size=i.size:=by simpa using B0 hb
  refine⟨_,w.alloc (.cells (Builtin.zeroCells z.cells c.toNat) elem),?_,⟨rfl,rfl,rfl⟩,hq⟩
  have ot:IntKind.i64.wrap n=n:=by simp[IntKind.wrap,IntKind.bits,IntKind.signed];omega
  have ou:IntKind.i64.wrap c=c:=by simp[IntKind.wrap,IntKind.bits,IntKind.signed];omega
  have iB:¬(c<0):=by omega
  have eR:¬(281474976710656<(i.bytes:Int)*c):=by omega
  have oJ:¬(n<0):=by omega
  have ib:¬(c<n):=by omega
  by_cases je:c.toNat*i.size=0
  ·have:Builtin.zeroCells z.cells c.toNat=#[]:=by simp[Builtin.zeroCells,ao,je]
   simp[Instr.makeSlice,N7 ht,asInt,asIntOf,A2s hi,ot,ou,iB,eR,oJ,ib,T6 hi,je,newRow,this,Array.range_zero']
  ·simp only[Builtin.zeroCells,ao]
   simp[Instr.makeSlice,N7 ht,asInt,asIntOf,A2s hi,ot,ou,iB,eR,oJ,ib,T6 hi,je,newRow,a7 hi hz,ao]
 |_=>simp only[ht] at hd;exact hd.elim
def B9g(P:Program)(kt:TypeId)(kd:TypeDesc)(key:Value):Prop:=plainKey kd=true∨(∃fs,kd=.struct fs)∧A3H P 8 kt key key=some true
theorem A0j{kt:TypeId}{kd:TypeDesc}{key:Value}{m:HM ρ}(hd:A0Y P kt kd key m h Q):B9g P kt kd key∧m h Q:=by
 unfold A0Y at hd
 cases hp:plainKey kd with
 |true=>simp only[hp] at hd;exact⟨.inl hp,hd⟩
 |false=>
  simp only[hp] at hd
  cases kd<;>try exact hd.elim
  exact⟨.inr ⟨⟨_,rfl⟩,hd.1⟩,hd.2⟩
theorem A92{kt:TypeId}{kd:TypeDesc}(hk:P.underlying kt=some kd)(hp:plainKey kd=true)(e:Bool)(n:Nat)(v:Value)(w:World):
  (Instr.checkKey e (n+1) kt v).run P w=.ok () w:=by
 simp only[Instr.checkKey,Sem.run_bind,N7 hk,Result.andThen_ok]
 cases kd<;>first|(cases v<;>rfl)|cases hp
theorem run_checkKey{kt:TypeId}{kd:TypeDesc}{v:Value}(hk:P.underlying kt=some kd)(hp:B9g P kt kd v)(e:Bool)(w:World):
  (Instr.checkKey e 10000 kt v).run P w=.ok () w:=by
 rcases hp with hp|⟨-,hp⟩
 ·exact A92 hk hp e 9999 v w
 ·exact(Y9 8 hp 9992 w).2.2 e
theorem A2t{kt:TypeId}{key:Value}{w:World}:∀(es:List MapEntry) (i:Nat) (o:Option (Nat×Value)),U4 (A3H P 8 kt) key es i=some o→(Instr.findAsking kt key es i).run P w=.ok o w
 |[],i,o,hf=>by
  simp only[U4,C3] at hf
  subst hf
  rfl
 |e::es,i,o,hf=>by
  simp only[U4] at hf
  cases hs:A3H P 8 kt key e.key with
  |none=>simp only[hs] at hf;cases hf
  |some r=>
   have h1:(Op.equal kt key e.key).run P w=.ok r w:=(Y9 8 hs 9992 w).1
   simp only[Instr.findAsking,Sem.run_bind,h1,Result.andThen_ok]
   simp only[hs] at hf
   cases r with
   |true=>
    simp only[C3] at hf
    subst hf
    rfl
   |false=>
    simp only at hf
    simpa using A2t es (i+1) o hf
theorem run_findKey{kt:TypeId}{kd:TypeDesc}(hk:P.underlying kt=some kd){key:Value}(hp:B9g P kt kd key){es:List MapEntry}{o:Option (Nat×Value)}(hf:placeOf (m1 P kt kd) key es=some o)(w:World):
  (Instr.findKey kt key es).run P w=.ok o w:=by
 rcases hp with hp|⟨⟨fs,rfl⟩,-⟩
 ·have e:m1 P kt kd=Instr.sameNow kd:=by cases kd<;>first|rfl|cases hp
  rw[e] at hf
  simp only[placeOf,A6Z] at hf
  simp[Instr.findKey,N7 hk,hf]
 ·simp only[placeOf,m1] at hf
  simp only[Instr.findKey,Sem.run_bind,N7 hk,Result.andThen_ok]
  cases es with
  |nil=>
   simp only[U4,C3] at hf
   subst hf
   rfl
  |cons e es=>
   have:Instr.findNow (.struct fs) key (e::es) 0=none:=by simp[Instr.findNow,Instr.sameNow]
   rw[this]
   exact A2t (e::es) 0 o hf
theorem P9{w:World}{r:Nat}{o:Obj}(ho:w.heap[r]? =some o)(hc:∀a b c,o≠ .cells a b c):(getObj r).run P w=.ok o w:=by
 cases o<;>first|exact absurd rfl (hc _ _ _)|simp only[getObj,Sem.run,ho]
theorem V0{w:World}{r:Nat}{o o':Obj}(ho:w.heap[r]? =some o)(hc:∀a b c,o≠ .cells a b c):(setObj r o').run P w=.ok () {w with heap:=w.heap.setIfInBounds r o'}:=by
 cases o<;>first|exact absurd rfl (hc _ _ _)|simp only[setObj,Sem.run,ho]
theorem A7L{t:TypeId}{x key:Value}{ok:Bool}(hd:A1j P t x key ok k h Q):
  ∃v,(∀w,w.heap=h→(Instr.lookup t x key ok).run P w=.ok v w)∧k v h Q:=by
 unfold A1j at hd
 cases ht:P.underlying t with
 |none=>simp only[ht] at hd;exact hd.elim
 |some d=>
 cases d with
 |map kt et=>
  simp only[ht] at hd
  cases bG:P.underlying kt with
  |none=>simp only[bG] at hd;exact hd.elim
  |some kd=>
  simp only[bG] at hd
  have iy:=A0j hd
  clear hd
  obtain⟨hp,hd⟩:=iy
  cases x<;>try exact hd.elim
  rename_i r
  simp only at hd
  cases hi:P.info? et with
  |none=>simp only[hi] at hd;exact hd.elim
  |some i=>
  simp only[hi] at hd
  cases hz:i.zero with
  |none=>simp only[hz] at hd;exact hd.elim
  |some z=>
  simp only[hz] at hd
  cases iw:Kind.of z with
  |none=>simp only[iw] at hd;exact hd.elim
  |some ek=>
  simp only[iw] at hd
  obtain⟨es,clock,o,xx,he,hf,hv,hq⟩:=hd
  have bx:∀w,w.heap=h→(Instr.lookup t (.map r) key ok).run P w=.ok (if ok=true then .tuple #[ek.val xx,.bool o.isSome] else ek.val xx) w:=by
   intro w hw
   subst hw
   cases r with
   |none=>
    obtain⟨rfl,-⟩:=he
    simp only[placeOf,U4,C3] at hf
    subst hf
    simp only at hv
    simp[Instr.lookup,N7 ht,run_checkKey bG hp,run_findKey bG hp (show placeOf (m1 P kt kd) key []=some none from rfl),a7 hi hz,hv]
   |some r=>
    have fE:w.heap[r]? =some (.map es.toArray clock):=he
    cases o with
    |none=>
     simp only at hv
     simp[Instr.lookup,N7 ht,P9 fE (by simp),run_checkKey bG hp,run_findKey bG hp hf,a7 hi hz,hv]
    |some ov=>
     obtain⟨j,vv⟩:=ov
     simp only at hv
     simp[Instr.lookup,N7 ht,P9 fE (by simp),run_checkKey bG hp,run_findKey bG hp hf,hv]
  cases ok with
  |true=>exact⟨_,bx,hq⟩
  |false=>exact⟨_,bx,hq⟩
 |_=>simp only[ht] at hd;exact hd.elim
theorem A2f{t:TypeId}{x key v:Value}(hd:A0s P t x key v k h Q):
  ∀w,w.heap=h→∃w',(Instr.mapUpdate t x key v).run P w=.ok () w'∧Q7 w w'∧k undef w'.heap Q:=by
 unfold A0s at hd
 cases ht:P.underlying t with
 |none=>simp only[ht] at hd;exact hd.elim
 |some d=>
 cases d with
 |map kt et=>
  simp only[ht] at hd
  cases bG:P.underlying kt with
  |none=>simp only[bG] at hd;exact hd.elim
  |some kd=>
  simp only[bG] at hd
  have iy:=A0j hd
  clear hd
  obtain⟨hp,hd⟩:=iy
  cases x<;>try exact hd.elim
  rename_i r
  obtain⟨b,es,clock,o,rfl,he,hf,hq⟩:=hd
  intro w hw
  subst hw
  cases o with
  |none=>
   refine⟨{w with heap:=w.heap.setIfInBounds b (.map (es.push {key:=key,val:=v,born:=clock}) (clock+1))},?_,⟨rfl,rfl,rfl⟩,hq⟩
   simp[Instr.mapUpdate,N7 ht,P9 he (by simp),run_checkKey bG hp,run_findKey bG hp hf,V0 he (by simp)]
  |some ov=>
   obtain⟨j,vv⟩:=ov
   obtain⟨il,mS,hq⟩:=hq
   refine⟨{w with heap:=w.heap.setIfInBounds b (.map (es.modify j fun e=>{e with key:=key,val:=v}) clock)},?_,⟨rfl,rfl,rfl⟩,hq⟩
   have nj:(Instr.keyThatStays (((es[j]?).map (·.key)).getD key) key).run P w=.ok key w:=by
    rw[il]
    unfold Instr.keyThatStays
    rw[if_pos mS]
    rfl
   simp[Instr.mapUpdate,N7 ht,P9 he (by simp),run_checkKey bG hp,run_findKey bG hp hf,V0 he (by simp),nj]
 |_=>simp only[ht] at hd;exact hd.elim
theorem A7M{ts:Array TypeId}{ty:TypeId}{vs:C3D}(hd:A1l P ts.toList vs.toList k h Q):
  ∀w,w.heap=h→∃r w',(Builtin.delete_ ts ty vs).run P w=.ok r w'∧Q7 w w'∧k r w'.heap Q:=by
 obtain⟨ts⟩:=ts
 obtain⟨vs⟩:=vs
 simp only at hd
 unfold A1l at hd
 match ts,vs,hd with
 |t::tr,[x,key],hd=>
  simp only at hd
  cases ht:P.underlying t with
  |none=>simp only[ht] at hd;exact hd.elim
  |some d=>
  cases d with
  |map kt et=>
   simp only[ht] at hd
   cases bG:P.underlying kt with
   |none=>simp only[bG] at hd;exact hd.elim
   |some kd=>
   simp only[bG] at hd
   have iy:=A0j hd
   clear hd
   obtain⟨hp,hd⟩:=iy
   cases x<;>try exact hd.elim
   rename_i r
   intro w hw
   subst hw
   cases r with
   |none=>
    exact⟨_,w,by simp[Builtin.delete_,N7 ht,run_checkKey bG hp],Q7.refl w,hd⟩
   |some b=>
    obtain⟨es,clock,o,he,hf,hq⟩:=hd
    cases o with
    |none=>
     refine⟨_,{w with heap:=w.heap.setIfInBounds b (.map es clock)},?_,⟨rfl,rfl,rfl⟩,hq⟩
     simp[Builtin.delete_,N7 ht,P9 he (by simp),run_checkKey bG hp,run_findKey bG hp hf,V0 he (by simp)]
    |some ov=>
     refine⟨_,{w with heap:=w.heap.setIfInBounds b (.map (es.eraseIdxIfInBounds ov.1) clock)},?_,⟨rfl,rfl,rfl⟩,hq⟩
     simp[Builtin.delete_,N7 ht,P9 he (by simp),run_checkKey bG hp,run_findKey bG hp hf,V0 he (by simp)]
  |_=>simp only[ht] at hd;exact hd.elim
 |[],_,hd=>exact hd.elim
 |_::_,[],hd=>exact hd.elim
 |_::_,[_],hd=>exact hd.elim
 |_::_,_::_::_::_,hd=>exact hd.elim
theorem A9z{t:TypeId}{x:Value}(hd:m3 P t x k h Q):
  ∀w,w.heap=h→∃v w',(Instr.range t x).run P w=.ok v w'∧Q7 w w'∧k v w'.heap Q:=by
 unfold m3 at hd
 cases ht:P.underlying t with
 |none=>simp only[ht] at hd;exact hd.elim
 |some d=>
 cases d with
 |string=>
  simp only[ht] at hd
  cases x<;>try exact hd.elim
  intro w hw
  subst hw
  rename_i s
  refine⟨_,w.alloc (.stringIter s 0),?_,⟨rfl,rfl,rfl⟩,hd⟩
  simp[Instr.range,N7 ht]
 |map kt et=>
  simp only[ht] at hd
  cases x<;>try exact hd.elim
  rename_i r
  intro w hw
  subst hw
  cases r with
  |none=>
   refine⟨_,w.alloc (.mapIter none 0 #[] 0),?_,⟨rfl,rfl,rfl⟩,hd⟩
   simp[Instr.range,N7 ht]
  |some m=>
   obtain⟨es,clock,he,hq⟩:=hd
   refine⟨_,w.alloc (.mapIter (some m) clock #[] clock),?_,⟨rfl,rfl,rfl⟩,hq⟩
   simp[Instr.range,N7 ht,P9 he (by simp)]
 |_=>simp only[ht] at hd;exact hd.elim
theorem A7q(n:Nat)(hn:0<n)(w:World):∃i w',(choose (.mapNext n)).run P w=.ok i w'∧i<n∧w'.heap=w.heap∧Q7 w w':=by
 rw[run_choose]
 by_cases hf:(Question.mapNext n).forced=true
 ·exact⟨0,w,by rw[if_pos hf],hn,rfl,Q7.refl w⟩
 ·exact⟨w.tape w.drawn (.mapNext n) % n,{w with drawn:=w.drawn+1},by rw[if_neg hf];rfl,Nat.mod_lt _ hn,rfl,⟨rfl,rfl,rfl⟩⟩
theorem A3X{t:TypeId}{str:Bool}{x:Value}(hd:A0V str x k h Q):
  ∀w,w.heap=h→∃v w',(Instr.next x str t).run P w=.ok v w'∧Q7 w w'∧k v w'.heap Q:=by
 unfold A0V at hd
 cases x<;>try exact hd.elim
 rename_i a
 cases a with
 |none=>exact hd.elim
 |some a=>
 obtain⟨b,off,sp⟩:=a
 simp only at hd
 cases off with
 |succ n=>exact hd.elim
 |zero=>
 simp only[show Nat.beq 0 0=true from rfl] at hd
 intro w hw
 subst hw
 cases str with
 |true=>
  obtain⟨s,pos,ho,h1,h2⟩:=hd
  by_cases hp:pos<s.size
  ·refine⟨_,{w with heap:=w.heap.setIfInBounds b (.stringIter s (pos+(Utf8.decode s pos).2))},?_,⟨rfl,rfl,rfl⟩,h1 hp⟩
   simp[Instr.next,P9 ho (by simp),hp,V0 ho (by simp),goInt]
  ·refine⟨_,w,?_,Q7.refl w,h2 hp⟩
   simp[Instr.next,P9 ho (by simp),hp]
 |false=>
  simp only at hd
  obtain⟨m,since,seen,last,ho,hd⟩:=hd
  cases m with
  |none=>
   refine⟨_,w,?_,Q7.refl w,hd⟩
   simp[Instr.next,P9 ho (by simp)]
  |some m=>
   obtain⟨es,clock,he,hc,h1,h2⟩:=hd
   have dg:(!seen.isEmpty && !es.isEmpty &&es.all (fun e=>decide (e.born≥last)))=false:=hc
   let left:=es.filter fun e=> !seen.contains e.born
   let cand:=(if(left.filter (fun e=>decide (e.born<since))).isEmpty then #[none] else #[])++(left.filter (fun e=>decide (e.born<since))++left.filter (fun e=>decide (e.born≥since))).map some
   have jX:0<cand.size:=by
    simp only[cand]
    by_cases hz:(left.filter (fun e=>decide (e.born<since))).isEmpty=true
    ·simp[hz];omega
    ·have:left.filter (fun e=>decide (e.born<since))≠#[]:=by simpa using hz
     have:=Array.size_pos_iff.2 this
     simp only[Array.size_append,Array.size_map]
     omega
   obtain⟨i,w',hr,hi,hh,hs⟩:=A7q (P:=P) cand.size jX w
   have qT:cand[i]? =some cand[i]:=D1 hi
   have fg:(Instr.next (.pointer (some ⟨b,0,sp⟩)) false t).run P w=(match cand[i]? with
     |some (some e)=>do setObj b (.mapIter (some m) since (seen.push e.born) clock);pure (.tuple #[.bool true,e.key,e.val])
     |some none=>pure (.tuple #[.bool false])
     |none=>stuck "Next: no such candidate" :Sem Value).run P w':=by
    simp only[Instr.next,Sem.run_bind,P9 ho (by simp),Result.andThen_ok,P9 he (by simp),dg,F4,if_false]
    show((choose (.mapNext cand.size)).run P w).andThen _=_
    rw[hr]
    rfl
   rw[qT] at fg
   cases hx:cand[i] with
   |none=>
    rw[hx] at fg
    refine⟨_,w',fg.trans rfl,hs,?_⟩
    rw[hh]
    refine h1 fun e nD qm=>?_
    have an:none∈cand:=hx▸Array.getElem_mem hi
    simp only[cand,Array.mem_append,Array.mem_map,reduceCtorEq,and_false,exists_false,or_false] at an
    split at an
    ·rename_i hz
     have gT:left.filter (fun e=>decide (e.born<since))=#[]:=by simpa using hz
     by_cases af:e.born<since
     ·have:e∈left.filter (fun e=>decide (e.born<since)):=by simp[left,nD,af];simpa using qm
      rw[gT] at this
      simp at this
     ·omega
    ·simp at an
   |some e=>
    rw[hx] at fg
    have an:some e∈cand:=hx▸Array.getElem_mem hi
    have jS:e∈left:=by
     simp only[cand,Array.mem_append,Array.mem_map,C3,exists_eq_right] at an
     rcases an with an|an
     ·split at an<;>simp at an
     ·rcases an with an|an<;>exact(Array.mem_filter.1 an).1
    have jR:=Array.mem_filter.1 jS
    have hq:=h2 e jR.1 (by simpa using jR.2)
    have cC:w'.heap[b]? =some (.mapIter (some m) since seen last):=by rw[hh];exact ho
    refine⟨.tuple #[.bool true,e.key,e.val],{w' with heap:=w'.heap.setIfInBounds b (.mapIter (some m) since (seen.push e.born) clock)},fg.trans ?_,⟨hs.os,hs.tape,hs.output⟩,?_⟩
    ·simp only[Sem.run_bind,V0 cC (by simp),Result.andThen_ok]
     rfl
    ·simpa[hh,A3c] using hq
theorem A2Q{ka kb:Kind}{x:Value}(hd:A1k ka kb x k h Q):∃v,(∀w,w.heap=h→(Instr.entry x).run P w=.ok v w)∧k v h Q:=by
 unfold A1k at hd
 cases x<;>try exact hd.elim
 rename_i a
 cases a with
 |none=>exact hd.elim
 |some a=>
 obtain⟨b,off,sp⟩:=a
 simp only at hd
 cases off with
 |succ n=>exact hd.elim
 |zero=>
 simp only[show Nat.beq 0 0=true from rfl] at hd
 obtain⟨m,since,seen,stepped,es,stamp,e,kx,vx,ho,hb,he,hf,e1,e2,hq⟩:=hd
 refine⟨_,fun w hw=>?_,hq⟩
 subst hw
 have bh:(stepped !=stepped)=false:=by simp
 simp[Instr.entry,P9 ho (by simp),P9 he (by simp),hb,hf,e1,e2]
theorem A5y{t:TypeId}{x key:Value}(hd:A2N P t x key k h Q):
  ∀w,w.heap=h→∃v w',(Instr.mapEntry t x key).run P w=.ok v w'∧Q7 w w'∧k v w'.heap Q:=by
 unfold A2N at hd
 cases ht:P.underlying t with
 |none=>simp only[ht] at hd;exact hd.elim
 |some d=>
 cases d with
 |map kt et=>
  simp only[ht] at hd
  cases bG:P.underlying kt with
  |none=>simp only[bG] at hd;exact hd.elim
  |some kd=>
  simp only[bG] at hd
  have iy:=A0j hd
  clear hd
  obtain⟨hp,hd⟩:=iy
  cases x<;>try exact hd.elim
  rename_i r
  simp only at hd
  cases hi:P.info? et with
  |none=>simp only[hi] at hd;exact hd.elim
  |some i=>
  simp only[hi] at hd
  cases hz:i.zero with
  |none=>simp only[hz] at hd;exact hd.elim
  |some z=>
  simp only[hz] at hd
  cases iw:Kind.of z with
  |none=>simp only[iw] at hd;exact hd.elim
  |some ek=>
  simp only[iw] at hd
  obtain⟨b,es,clock,o,rfl,he,hf,hq⟩:=hd
  intro w hw
  subst hw
  cases o with
  |none=>
   obtain⟨x,hx,hq⟩:=hq
   refine⟨.tuple #[ek.val x,.int .i64 clock],{w with heap:=w.heap.setIfInBounds b (.map (es.push {key:=key,val:=z,born:=clock}) (clock+1))},?_,⟨rfl,rfl,rfl⟩,hq⟩
   simp[Instr.mapEntry,N7 ht,P9 he (by simp),run_checkKey bG hp,run_findKey bG hp hf,V0 he (by simp),a7 hi hz,goInt,←hx]
  |some ov=>
   obtain⟨j,vv⟩:=ov
   obtain⟨il,mS,x,hx,hq⟩:=hq
   refine⟨.tuple #[ek.val x,.int .i64 ((((es[j]?).map (·.born)).getD 0:Nat):Int)],{w with heap:=w.heap.setIfInBounds b (.map (es.modify j fun e=>{e with key:=key}) clock)},?_,⟨rfl,rfl,rfl⟩,hq⟩
   have nj:(Instr.keyThatStays (((es[j]?).map (·.key)).getD key) key).run P w=.ok key w:=by
    rw[il]
    unfold Instr.keyThatStays
    rw[if_pos mS]
    rfl
   simp[Instr.mapEntry,N7 ht,P9 he (by simp),run_checkKey bG hp,run_findKey bG hp hf,V0 he (by simp),nj,goInt,←hx]
   cases es[j]? <;>simp
 |_=>simp only[ht] at hd;exact hd.elim
theorem A3I{t:TypeId}{x stamp v:Value}(hd:A02 x stamp v k h Q):
  ∀w,w.heap=h→∃w',(Instr.entryStore t x stamp v).run P w=.ok () w'∧Q7 w w'∧k undef w'.heap Q:=by
 unfold A02 at hd
 cases x<;>try exact hd.elim
 simp only at hd
 cases stamp<;>try exact hd.elim
 rename_i r kd n
 obtain⟨b,es,clock,i,rfl,he,hf,hq⟩:=hd
 intro w hw
 subst hw
 refine⟨{w with heap:=w.heap.setIfInBounds b (.map (es.modify i fun e=>{e with val:=v}) clock)},?_,⟨rfl,rfl,rfl⟩,hq⟩
 simp[Instr.entryStore,P9 he (by simp),asInt,asIntOf,hf,V0 he (by simp)]
end
end
section
section
variable {P:Program} {ρ:Type} {k:Value→HM ρ} {h:Heap} {Q:ρ→Heap→Prop}
theorem q5:∀{l:List Nat} {n:Nat},X2 n l=true→n∈l
 |[],_,h=>by cases h
 |t::ts,n,h=>by
  simp only[X2] at h
  cases hb:Nat.beq t n with
  |true=>rw[B0 hb];exact B7 ..
  |false=>rw[hb] at h;exact B8 _ (q5 h)
theorem A8O{c:Call}{ev:Operand→Value}{o:Oper}{f:FuncId}{first captured:C3D}{x:Operand}(ho:o.op=.call c)(hc:c.callee=.value x)
  (hx:ev x=.func (.func f) first captured)(hf:Q0 P f)(w:World):(execOp ev o).run P w=.ok (.enter f (first++c.args.map ev++captured)) w:=by
 have:=hf (first++c.args.map ev++captured) w
 rw[Array.append_assoc] at this⊢
 simp[execOp,ho,resolve,hc,hx,Deferred.ofValue,invoke,this]
theorem j1{c:Call}{ev:Operand→Value}{o:Oper}{b:Builtin}(ho:o.op=.call c)(hc:c.callee=.builtin b)(w:World):
  (execOp ev o).run P w=(builtin b c.argTypes o.type (c.args.map fun|.const _=>true|_=>false) (c.args.map ev)).run P w:=by
 simp only[execOp,ho,Sem.run_bind]
 simp only[resolve,hc,Sem.run_pure,Result.andThen_ok,invoke]
 rfl
theorem B0d{C:List Nat}{c:Call}{ev:Operand→Value}{o:Oper}{f:FuncId}{vs:C3E}(hC:∀f,f∈C→Q0 P f)(ho:o.op=.call c)(hc:c.callee=.value (.func f))
  (iv:ev (.func f)=.func (.func f) #[] #[])(al:c.args.map ev=vs.toArray)(hd:A5z P C o.type (.func (.func f) #[] #[]) vs k h Q):o5 P (execOp ev o) h fun v h'=>k v h' Q:=by
 intro w hw
 subst hw
 simp only[A5z] at hd
 cases hm:X2 f C with
 |false=>simp only[hm] at hd;exact hd.elim
 |true=>
 simp only[hm] at hd
 rw[A8O ho hc iv (hC f (q5 hm)) w,al]
 refine⟨Q7.refl w,?_⟩
 have e1:(#[]++vs.toArray++#[]:C3D)=((#[]:C3D).toList++(vs++(#[]:C3D).toList)).toArray:=by simp
 rw[e1]
 cases hr:B3o P o.type with
 |none=>simp only[hr] at hd;exact hd.elim
 |some r=>
  cases r with
  |one kd=>
   simp only[hr] at hd
   exact N9.mono (Q:=fun v h'=>∃x,v=kd.val x∧k (kd.val x) h' Q) hd fun v h' ⟨x,hx,hq⟩=>by subst hx;exact hq
  |many ks=>
   simp only[hr] at hd
   exact N9.mono (Q:=fun v h'=>∃x,v=.tuple (R0.vals ks x).toArray∧k (.tuple (R0.vals ks x).toArray) h' Q) hd fun v h' ⟨x,hx,hq⟩=>by subst hx;exact hq
theorem A0F{c:Call}{ev:Operand→Value}{o:Oper}{x:Operand}{vs:C3E}(ho:o.op=.call c)(hc:c.callee=.value x)
  (al:c.args.map ev=vs.toArray)(hd:A2R P o.type (ev x) vs k h Q):o5 P (execOp ev o) h fun v h'=>k v h' Q:=by
 intro w hw
 subst hw
 unfold A2R at hd
 cases hr:B3o P o.type with
 |none=>simp only[hr] at hd;exact hd.elim
 |some r=>
  cases r with
  |one kd=>
   simp only[hr] at hd
   obtain⟨f,first,captured,hx,hf,hd⟩:=hd
   rw[A8O ho hc hx hf w,al]
   exact⟨Q7.refl w,N9.mono hd fun v h' ⟨x,hx,hq⟩=>by subst hx;exact hq⟩
  |many ks=>
   simp only[hr] at hd
   obtain⟨f,first,captured,hx,hf,hd⟩:=hd
   rw[A8O ho hc hx hf w,al]
   exact⟨Q7.refl w,N9.mono hd fun v h' ⟨x,hx,hq⟩=>by subst hx;exact hq⟩
theorem B0c{DF:List Deferred}{n:Nat}{e:Env}{d:Dec}{a:Act}(hA:R6 DF n e a)(hD:k7 d a){o:Oper}{c x y:Operand}(ho:o.op=.pick c x y)(hd:A5w e d c x y k h Q):
  ∃v,Stat P (execOp a.eval o) v∧k v h Q:=by
 unfold A5w at hd
 cases c with
 |tmp t=>
  simp only at hd
  have bx:∀b w,a.eval (.tmp t)=.bool b→(execOp a.eval o).run P w=.ok (.value (if b=true then a.eval x else a.eval y)) w:=by
   intro b w hb
   simp[execOp,ho,hb,asBool]
  cases hg:d.get t with
  |some b=>
   have hb:a.eval (.tmp t)=.bool b:=by
    have:=hD t b hg
    simp[Act.eval,this]
   cases b with
   |true=>
    simp only[hg] at hd
    cases hx:e.ev x with
    |none=>simp only[hx] at hd;exact hd.elim
    |some v=>
     simp only[hx] at hd
     exact⟨v,fun w=>by rw[bx true w hb,hA.ev hx];rfl,hd⟩
   |false=>
    simp only[hg] at hd
    cases hx:e.ev y with
    |none=>simp only[hx] at hd;exact hd.elim
    |some v=>
     simp only[hx] at hd
     exact⟨v,fun w=>by rw[bx false w hb,hA.ev hx];rfl,hd⟩
  |none=>
   simp only[hg] at hd
   cases hu:e.ev (.tmp t) with
   |none=>simp only[hu] at hd;exact hd.elim
   |some u=>
   simp only[hu] at hd
   cases u<;>try exact hd.elim
   rename_i u
   cases hv:e.ev x with
   |none=>simp only[hv] at hd;exact hd.elim
   |some v=>
   simp only[hv] at hd
   cases v<;>try exact hd.elim
   rename_i v
   cases hz:e.ev y with
   |none=>simp only[hz] at hd;exact hd.elim
   |some z=>
   simp only[hz] at hd
   cases z<;>try exact hd.elim
   rename_i z
   exact⟨_,fun w=>by rw[bx u w (hA.ev hu),hA.ev hv,hA.ev hz];cases u<;>rfl,hd⟩
 |_=>exact hd.elim
theorem A9D{ts:Array TypeId}{ty:TypeId}{vs:C3D}(hd:A1m P ts.toList vs.toList k h Q):
  ∀w,w.heap=h→∃r w',(Builtin.clear_ ts ty vs).run P w=.ok r w'∧Q7 w w'∧k r w'.heap Q:=by
 obtain⟨ts⟩:=ts
 obtain⟨vs⟩:=vs
 simp only at hd
 unfold A1m at hd
 match ts,vs,hd with
 |[t],[x],hd=>
  simp only at hd
  cases ht:P.underlying t with
  |none=>simp only[ht] at hd;exact hd.elim
  |some d=>
  cases d with
  |slice elem=>
   simp only[ht] at hd
   cases x<;>try exact hd.elim
   rename_i a n c
   simp only at hd
   cases hi:P.info? elem with
   |none=>simp only[hi] at hd;exact hd.elim
   |some i=>
   simp only[hi] at hd
   cases hz:i.zero with
   |none=>simp only[hz] at hd;exact hd.elim
   |some z=>
   simp only[hz] at hd
   intro w hw
   subst hw
   cases a with
   |none=>
    exact⟨_,w,by simp[Builtin.clear_,N7 ht],Q7.refl w,hd⟩
   |some a=>
    have eO:(if n=0 then(fun(_:Unit) (h:Heap)=>k (.tuple #[]) h Q) () w.heap else _):=hd
    by_cases hn:n=0
    ·subst hn
     rw[if_pos rfl] at eO
     exact⟨_,w,by simp[Builtin.clear_,N7 ht],Q7.refl w,eO⟩
    ·rw[if_neg hn] at eO
     obtain⟨h1,h2⟩:=eO
     obtain⟨w',hr,hs,hh⟩:=Y6 (P:=P) a (Builtin.zeroCells z.cells n).toList 0 w (fun j v hj=>by rw[F5];exact h1 j v hj)
     refine⟨.tuple #[],w',?_,hs,by rw[hh];exact h2⟩
     cases n with
     |zero=>exact absurd rfl hn
     |succ n=>simp[Builtin.clear_,N7 ht,a7 hi hz,hr]
  |map kt et=>
   simp only[ht] at hd
   cases x<;>try exact hd.elim
   rename_i r
   intro w hw
   subst hw
   cases r with
   |none=>exact⟨_,w,by simp[Builtin.clear_,N7 ht],Q7.refl w,hd⟩
   |some b=>
    obtain⟨es,clock,he,hq⟩:=hd
    refine⟨_,{w with heap:=w.heap.setIfInBounds b (.map #[] clock)},?_,⟨rfl,rfl,rfl⟩,hq⟩
    simp[Builtin.clear_,N7 ht,P9 he (by simp),V0 he (by simp)]
  |_=>simp only[ht] at hd;exact hd.elim
 |[],_,hd=>exact hd.elim
 |[_],[],hd=>exact hd.elim
 |_::_::_,[],hd=>exact hd.elim
 |[_],_::_::_,hd=>exact hd.elim
 |_::_::_,[_],hd=>exact hd.elim
 |_::_::_,_::_::_,hd=>exact hd.elim
theorem R8.bD{c:Cls}{s:Sem Next}{Φ:Value→Heap→Prop}(hc:c=.bD)(hd:o5 P s h Φ):R8 P c s h Φ:=by subst hc;exact hd
theorem R8.stat{c:Cls}{s:Sem Next}{Φ:Value→Heap→Prop}(hc:c=.stat)(hd:∃v,Stat P s v∧Φ v h):R8 P c s h Φ:=by subst hc;exact hd
theorem R8.read{c:Cls}{s:Sem Next}{Φ:Value→Heap→Prop}(hc:c=.read)(hd:∃v,c7 P s h v∧Φ v h):R8 P c s h Φ:=by subst hc;exact hd
theorem A9E{n:Nat}{e:Env}{a:Act}{o:Oper}{c:Call}{b:Builtin}{vs:C3E}(ho:o.op=.call c)(hc:c.callee=.builtin b)
  (al:c.args.map a.eval=vs.toArray)(hd:A1R P b c.argTypes.toList vs k h Q):R8 P (R3 P o.op) (execOp a.eval o) h fun v h'=>k v h' Q:=by
 have gU:(c.args.map a.eval).toList=vs:=by rw[al]
 rw[←gU] at hd
 unfold A1R at hd
 cases b<;>try exact hd.elim
 case len=>
  refine R8.read (by simp[R3,ho,hc]) ?_
  obtain⟨v,hv,hq⟩:=B2t (ty:=o.type) hd
  exact⟨v,fun w hw=>by rw[j1 ho hc];simp[builtin,hv w hw],hq⟩
 all_goals refine R8.bD (by simp[R3,ho,hc]) ?_
 all_goals intro w hw
 case append=>
  obtain⟨r,w',hr,hs,hq⟩:=A7N (ty:=o.type) hd w hw
  rw[j1 ho hc]
  have:(builtin .append c.argTypes o.type (c.args.map fun|.const _=>true|_=>false) (c.args.map a.eval)).run P w=.ok (.value r) w':=by simp[builtin,hr]
  rw[this];exact⟨hs,hq⟩
 case delete=>
  obtain⟨r,w',hr,hs,hq⟩:=A7M (ty:=o.type) hd w hw
  rw[j1 ho hc]
  have:(builtin .delete c.argTypes o.type (c.args.map fun|.const _=>true|_=>false) (c.args.map a.eval)).run P w=.ok (.value r) w':=by simp[builtin,hr]
  rw[this];exact⟨hs,hq⟩
 case clear=>
  obtain⟨r,w',hr,hs,hq⟩:=A9D (ty:=o.type) hd w hw
  rw[j1 ho hc]
  have:(builtin .clear c.argTypes o.type (c.args.map fun|.const _=>true|_=>false) (c.args.map a.eval)).run P w=.ok (.value r) w':=by simp[builtin,hr]
  rw[this];exact⟨hs,hq⟩
 case max=>
  obtain⟨v,hv,hq⟩:=A2e (P:=P) (ts:=c.argTypes) (ty:=o.type) hd
  rw[j1 ho hc]
  have:(builtin .max c.argTypes o.type (c.args.map fun|.const _=>true|_=>false) (c.args.map a.eval)).run P w=.ok (.value v) w:=by
   have:=hv w;simp at this;simp[builtin,this]
  rw[this];exact⟨Q7.refl w,by rw[hw];exact hq⟩
 case min=>
  obtain⟨v,hv,hq⟩:=A2e (P:=P) (ts:=c.argTypes) (ty:=o.type) hd
  rw[j1 ho hc]
  have:(builtin .min c.argTypes o.type (c.args.map fun|.const _=>true|_=>false) (c.args.map a.eval)).run P w=.ok (.value v) w:=by
   have:=hv w;simp at this;simp[builtin,this]
  rw[this];exact⟨Q7.refl w,by rw[hw];exact hq⟩
theorem B1j{DF:List Deferred}{C:List Nat}(hC:∀f,f∈C→Q0 P f){n:Nat}{e:Env}{d:Dec}{a:Act}(hA:R6 DF n e a)(hD:k7 d a){o:Oper}(hd:T4 P C e d o k h Q):
  R8 P (R3 P o.op) (execOp a.eval o) h fun v h'=>k v h' Q:=by
 unfold T4 at hd
 cases ho:o.op<;>simp only[ho] at hd<;>try exact hd.elim
 case move x=>
  cases hx:e.ev x with
  |none=>simp only[hx] at hd;exact hd.elim
  |some v=>
   simp only[hx] at hd
   exact R8.stat rfl ⟨v,fun w=>by simp[execOp,ho,hA.ev hx],hd⟩
 case assign x=>
  cases hx:e.ev x with
  |none=>simp only[hx] at hd;exact hd.elim
  |some v=>
   simp only[hx] at hd
   exact R8.stat rfl ⟨v,fun w=>by simp[execOp,ho,hA.ev hx],hd⟩
 case pick c x y=>exact R8.stat rfl (B0c hA hD ho hd)
 case alloc t=>
  have:=o5.cI (Φ:=fun v h'=>k v h' Q) (A9H hd)
  exact R8.bD rfl (by simpa[execOp,ho] using this)
 case box t x=>
  cases hx:e.ev x with
  |none=>simp only[hx] at hd;exact hd.elim
  |some v=>
   simp only[hx] at hd
   have:=o5.cI (Φ:=fun v h'=>k v h' Q) (B2v hd)
   exact R8.bD rfl (by simpa[execOp,ho,hA.ev hx] using this)
 case build t ps=>
  cases hx:s6 e ps.toList with
  |none=>simp only[hx] at hd;exact hd.elim
  |some vs=>
   simp only[hx] at hd
   have hp:=hA.parts hx
   have cm:ps.map (fun(i,x)=>(i,a.eval x))=vs.toArray:=by apply D3.1;simpa using hp
   obtain⟨v,hv,hq⟩:=A9F (ps:=vs.toArray) (by simpa using hd)
   refine R8.stat rfl ⟨v,?_,hq⟩
   have:=Stat.of hv
   simpa[execOp,ho,cm] using this
 case buildSlice t m ps=>
  cases hx:s6 e ps.toList with
  |none=>simp only[hx] at hd;exact hd.elim
  |some vs=>
   simp only[hx] at hd
   have hp:=hA.parts hx
   have cm:ps.map (fun(i,x)=>(i,a.eval x))=vs.toArray:=by apply D3.1;simpa using hp
   have:=o5.cI (Φ:=fun v h'=>k v h' Q) (A3J (ps:=vs.toArray) (by simpa using hd))
   exact R8.bD rfl (by simpa[execOp,ho,cm] using this)
 case load t x=>
  cases hx:e.ev x with
  |none=>simp only[hx] at hd;exact hd.elim
  |some v=>
   simp only[hx] at hd
   obtain⟨u,hu,hq⟩:=A3Y hd
   refine R8.read rfl ⟨u,?_,hq⟩
   have:=c7.of hu
   simpa[execOp,ho,hA.ev hx] using this
 case store t x y=>
  cases hx:e.ev x with
  |none=>simp only[hx] at hd;exact hd.elim
  |some v=>
  simp only[hx] at hd
  cases hy:e.ev y with
  |none=>simp only[hy] at hd;exact hd.elim
  |some u=>
   simp only[hy] at hd
   have:=o5.dA (Φ:=fun v h'=>k v h' Q) (A9x hd)
   exact R8.bD rfl (by simpa[execOp,ho,hA.ev hx,hA.ev hy] using this)
 case nilCheck x=>
  cases hx:e.ev x with
  |none=>simp only[hx] at hd;exact hd.elim
  |some v=>
   simp only[hx] at hd
   rw[←hA.ev hx] at hd
   exact R8.stat rfl (A5x ho hd)
 case binOp op t x y t2=>
  cases hx:e.ev x with
  |none=>simp only[hx] at hd;exact hd.elim
  |some v=>
  simp only[hx] at hd
  cases hy:e.ev y with
  |none=>simp only[hy] at hd;exact hd.elim
  |some u=>
   simp only[hy] at hd
   obtain⟨r,hr,hq⟩:=B2w (xo:=x) (fun c hc=>by subst hc;simp only[Env.ev,C3] at hy;exact hy.symm) hd
   refine R8.stat rfl ⟨r,?_,hq⟩
   have:=Stat.of hr
   simpa[execOp,ho,hA.ev hx,hA.ev hy] using this
 case unOp op t x=>
  cases hx:e.ev x with
  |none=>simp only[hx] at hd;exact hd.elim
  |some v=>
   simp only[hx] at hd
   obtain⟨r,hr,hq⟩:=B30 (P:=P) hd
   refine R8.stat rfl ⟨r,?_,hq⟩
   have:=Stat.of hr
   simpa[execOp,ho,hA.ev hx] using this
 case convert s t x=>
  cases hx:e.ev x with
  |none=>simp only[hx] at hd;exact hd.elim
  |some v=>
   simp only[hx] at hd
   obtain⟨r,hr,hq⟩:=A6o hd
   simp only[R3]
   split
   ·rename_i kd hk
    refine⟨r,?_,hq⟩
    have:=Stat.of (fun w=>hr w (.inr ⟨kd,hk⟩))
    simpa[execOp,ho,hA.ev hx] using this
   ·refine o5.cU (v:=r) ?_ hq
    have:=c7.of (fun w hw=>hr w (.inl hw))
    simpa[execOp,ho,hA.ev hx] using this
 case mapEntry t x y=>
  cases hx:e.ev x with
  |none=>simp only[hx] at hd;exact hd.elim
  |some v=>
  simp only[hx] at hd
  cases hy:e.ev y with
  |none=>simp only[hy] at hd;exact hd.elim
  |some u=>
   simp only[hy] at hd
   have:=o5.cI (Φ:=fun v h'=>k v h' Q) (A5y hd)
   exact R8.bD rfl (by simpa[execOp,ho,hA.ev hx,hA.ev hy] using this)
 case entryStore t x y z=>
  cases hx:e.ev x with
  |none=>simp only[hx] at hd;exact hd.elim
  |some v=>
  simp only[hx] at hd
  cases hy:e.ev y with
  |none=>simp only[hy] at hd;exact hd.elim
  |some u=>
  simp only[hy] at hd
  cases hz:e.ev z with
  |none=>simp only[hz] at hd;exact hd.elim
  |some u'=>
   simp only[hz] at hd
   have:=o5.dA (P:=P) (Φ:=fun v h'=>k v h' Q) (A3I (P:=P) (t:=t) hd)
   exact R8.bD rfl (by simpa[execOp,ho,hA.ev hx,hA.ev hy,hA.ev hz] using this)
 case range t x=>
  cases hx:e.ev x with
  |none=>simp only[hx] at hd;exact hd.elim
  |some v=>
   simp only[hx] at hd
   have:=o5.cI (Φ:=fun v h'=>k v h' Q) (A9z hd)
   exact R8.bD rfl (by simpa[execOp,ho,hA.ev hx] using this)
 case next x str=>
  cases hx:e.ev x with
  |none=>simp only[hx] at hd;exact hd.elim
  |some v=>
   simp only[hx] at hd
   have:=o5.cI (P:=P) (Φ:=fun v h'=>k v h' Q) (A3X (P:=P) (t:=o.type) hd)
   exact R8.bD rfl (by simpa[execOp,ho,hA.ev hx] using this)
 case makeInterface t x=>
  cases hx:e.ev x with
  |none=>simp only[hx] at hd;exact hd.elim
  |some v=>
   simp only[hx] at hd
   refine R8.stat rfl ?_
   cases ht:P.underlying t with
   |none=>simp only[ht] at hd;exact hd.elim
   |some dd=>
    simp only[ht] at hd
    cases dd<;>first
     |exact hd.elim
     |exact⟨_,fun w=>by simp[execOp,ho,hA.ev hx,Instr.makeInterface,N7 ht],hd⟩
 case makeFunc fn first captured=>
  cases hx:e.cH first.toList with
  |none=>simp only[hx] at hd;exact hd.elim
  |some vs=>
  simp only[hx] at hd
  cases hy:e.cH captured.toList with
  |none=>simp only[hy] at hd;exact hd.elim
  |some us=>
   simp only[hy] at hd
   refine R8.stat rfl ⟨_,fun w=>?_,hd⟩
   simp[execOp,ho,hA.bY hx,hA.bY hy,Instr.makeFunc]
 case makeMap t r=>
  cases r with
  |some r=>exact hd.elim
  |none=>
   refine R8.bD rfl ?_
   intro w hw
   subst hw
   have:(execOp a.eval o).run P w=.ok (.value (.map (some w.heap.size))) (w.alloc (.map #[] 0)):=by simp[execOp,ho,Instr.makeMap]
   rw[this]
   exact⟨⟨rfl,rfl,rfl⟩,hd⟩
 case makeSlice t x y=>
  cases hx:e.ev x with
  |none=>simp only[hx] at hd;exact hd.elim
  |some v=>
  simp only[hx] at hd
  cases hy:e.ev y with
  |none=>simp only[hy] at hd;exact hd.elim
  |some u=>
   simp only[hy] at hd
   have:=o5.cI (Φ:=fun v h'=>k v h' Q) (A4s hd)
   exact R8.bD rfl (by simpa[execOp,ho,hA.ev hx,hA.ev hy] using this)
 case slice t x lo hi mx=>
  cases hx:e.ev x with
  |none=>simp only[hx] at hd;exact hd.elim
  |some v=>
  simp only[hx] at hd
  cases hl:A0A e lo with
  |none=>simp only[hl] at hd;exact hd.elim
  |some l=>
  simp only[hl] at hd
  cases hh:A0A e hi with
  |none=>simp only[hh] at hd;exact hd.elim
  |some u=>
  simp only[hh] at hd
  cases hm:A0A e mx with
  |none=>simp only[hm] at hd;exact hd.elim
  |some m=>
   simp only[hm] at hd
   obtain⟨r,hr,hq⟩:=A9y (A1C hA hl) (A1C hA hh) (A1C hA hm) hd
   refine R8.stat rfl ⟨r,?_,hq⟩
   have:=Stat.of hr
   simpa[execOp,ho,hA.ev hx] using this
 case fieldAddr t x f=>
  cases hx:e.ev x with
  |none=>simp only[hx] at hd;exact hd.elim
  |some v=>
   simp only[hx] at hd
   obtain⟨r,hr,hq⟩:=A4u hd
   refine R8.stat rfl ⟨r,?_,hq⟩
   have:=Stat.of hr
   simpa[execOp,ho,hA.ev hx] using this
 case field t x f=>
  cases hx:e.ev x with
  |none=>simp only[hx] at hd;exact hd.elim
  |some v=>
   simp only[hx] at hd
   obtain⟨r,hr,hq⟩:=A9C hd
   refine R8.stat rfl ⟨r,?_,hq⟩
   have:=Stat.of hr
   simpa[execOp,ho,hA.ev hx] using this
 case indexAddr t x y=>
  cases hx:e.ev x with
  |none=>simp only[hx] at hd;exact hd.elim
  |some v=>
  simp only[hx] at hd
  cases hy:e.ev y with
  |none=>simp only[hy] at hd;exact hd.elim
  |some u=>
   simp only[hy] at hd
   obtain⟨r,hr,hq⟩:=A4t hd
   refine R8.stat rfl ⟨r,?_,hq⟩
   have:=Stat.of hr
   simpa[execOp,ho,hA.ev hx,hA.ev hy] using this
 case index t x y=>
  cases hx:e.ev x with
  |none=>simp only[hx] at hd;exact hd.elim
  |some v=>
  simp only[hx] at hd
  cases hy:e.ev y with
  |none=>simp only[hy] at hd;exact hd.elim
  |some u=>
   simp only[hy] at hd
   obtain⟨r,hr,hq⟩:=A9B hd
   refine R8.stat rfl ⟨r,?_,hq⟩
   have:=Stat.of hr
   simpa[execOp,ho,hA.ev hx,hA.ev hy] using this
 case lookup t x y ok=>
  cases hx:e.ev x with
  |none=>simp only[hx] at hd;exact hd.elim
  |some v=>
  simp only[hx] at hd
  cases hy:e.ev y with
  |none=>simp only[hy] at hd;exact hd.elim
  |some u=>
   simp only[hy] at hd
   obtain⟨r,hr,hq⟩:=A7L hd
   refine R8.read rfl ⟨r,?_,hq⟩
   have:=c7.of hr
   simpa[execOp,ho,hA.ev hx,hA.ev hy] using this
 case mapUpdate t x y z=>
  cases hx:e.ev x with
  |none=>simp only[hx] at hd;exact hd.elim
  |some v=>
  simp only[hx] at hd
  cases hy:e.ev y with
  |none=>simp only[hy] at hd;exact hd.elim
  |some u=>
  simp only[hy] at hd
  cases hz:e.ev z with
  |none=>simp only[hz] at hd;exact hd.elim
  |some u'=>
   simp only[hz] at hd
   have:=o5.dA (Φ:=fun v h'=>k v h' Q) (A2f hd)
   exact R8.bD rfl (by simpa[execOp,ho,hA.ev hx,hA.ev hy,hA.ev hz] using this)
 case insert t x y z=>
  cases hx:e.ev x with
  |none=>simp only[hx] at hd;exact hd.elim
  |some v=>
  simp only[hx] at hd
  cases hy:e.ev y with
  |none=>simp only[hy] at hd;exact hd.elim
  |some u=>
  simp only[hy] at hd
  cases hz:e.ev z with
  |none=>simp only[hz] at hd;exact hd.elim
  |some u'=>
   simp only[hz] at hd
   have:=o5.dA (Φ:=fun v h'=>k v h' Q) (A2f hd)
   exact R8.bD rfl (by simpa[execOp,ho,hA.ev hx,hA.ev hy,hA.ev hz] using this)
 case extract x i=>
  cases hx:e.ev x with
  |none=>simp only[hx] at hd;exact hd.elim
  |some v=>
   cases v<;>simp only[hx] at hd<;>try exact hd.elim
   rename_i vs
   cases hi:vs.toList[i]? with
   |none=>simp only[hi] at hd;exact hd.elim
   |some u=>
    simp only[hi] at hd
    refine R8.stat rfl ⟨u,fun w=>?_,hd⟩
    have da:vs[i]? =some u:=by simpa using hi
    simp[execOp,ho,hA.ev hx,Instr.extract,da]
 case call c=>
  cases hx:e.cH c.args.toList with
  |none=>simp only[hx] at hd;exact hd.elim
  |some vs=>
   simp only[hx] at hd
   have al:=hA.bY hx
   cases hc:c.callee with
   |builtin b=>
    simp only[hc] at hd
    have:=A9E (n:=n) (e:=e) ho hc al hd
    rwa[ho] at this
   |invoke x m=>simp only[hc] at hd;exact hd.elim
   |value x=>
    refine R8.bD (by simp[R3,hc]) ?_
    cases x with
    |func f=>
     simp only[hc] at hd
     exact B0d hC ho hc rfl al hd
    |tmp t=>
     simp only[hc] at hd
     cases hv:e.ev (.tmp t) with
     |none=>simp only[hv] at hd;exact hd.elim
     |some v=>
      simp only[hv] at hd
      rw[←hA.ev hv] at hd
      exact A0F ho hc al hd
    |const v=>
     simp only[hc] at hd
     exact A0F (x:=.const v) ho hc al hd
    |global g=>
     simp only[hc] at hd
     exact A0F (x:=.global g) ho hc al hd
theorem B5r{DF:List Deferred}{C:List Nat}(hC:∀f,f∈C→Q0 P f){n:Nat}{e:Env}{d:Dec}{a:Act}(hA:R6 DF n e a)(hD:k7 d a){ops:Array Oper}{o:Oper}(hd:A1P P C ops e d o k h Q):
  R8 P (R3 P o.op) (execOp a.eval o) h fun v h'=>k v h' Q:=by
 have key:(∃x,o.op=.entry x)∨A1P P C ops e d o k=T4 P C e d o k:=by
  unfold A1P
  cases o.op<;>first|exact .inr rfl|exact .inl ⟨_,rfl⟩
 rcases key with⟨x,ho⟩|key
 ·unfold A1P at hd
  simp only[ho] at hd
  cases hx:e.ev x with
  |none=>simp only[hx] at hd;exact hd.elim
  |some v=>
   simp only[hx] at hd
   obtain⟨r,hr,hq⟩:=A2Q (P:=P) hd
   refine R8.bD (by rw[ho];rfl) (o5.cU (v:=r) ?_ hq)
   have:=c7.of hr
   simpa[execOp,ho,hA.ev hx] using this
 ·rw[key] at hd
  exact B1j hC hA hD hd
end
end
section
section
variable {P:Program} {ops:Array Oper} {b:Array Nat} {Φ:Act→Heap→Prop}
theorem o5.mono{s:Sem Next}{h:Heap}{Ψ Ψ':Value→Heap→Prop}(hd:o5 P s h Ψ)(hp:∀v h',Ψ v h'→Ψ' v h'):o5 P s h Ψ':=by
 intro w hw
 have:=hd w hw
 revert this
 cases s.run P w with
 |halt x w'=>exact id
 |ok n w'=>
  cases n<;>first
   |exact fun hh=>⟨hh.1,hp _ _ hh.2⟩
   |exact fun hh=>⟨hh.1,N9.mono hh.2 hp⟩
   |exact id
def want(ops:Array Oper)(o:Oper)(a:Act):Bool:=Region.wanted o (yielded ops a.tmps)
def B6r(P:Program)(ops:Array Oper)(i:Nat)(v:Value)(a:Act)(h:Heap):Prop:=∃o,ops[i]? =some o∧c7 P (execOp a.eval o) h v
def R4(P:Program)(ops:Array Oper)(b:Array Nat)(draw:Bool)(K:U2→Act→Heap→Prop)(j:Nat)(dn:U2)(a:Act)(h:Heap):Prop:=
 match ops[j]? with
  |none=>False
  |some o=>if want ops o a=true then
    match R3 P o.op with
    |.stat=>∃v,Stat P (execOp a.eval o) v∧K dn (a.put o.dst v) h
    |.read=>∃v,c7 P (execOp a.eval o) h v∧K ((j,v)::dn) (a.put o.dst v) h
    |.bD=>o5 P (execOp a.eval o) h fun v h'=>(draw=true→∀i v',(i,v')∈dn→(b.getD j 0).testBit i=false→B6r P ops i v' (a.put o.dst v) h')∧K dn (a.put o.dst v) h'
   else K dn (a.put o.dst undef) h
def C0o(K:U2→Act→Heap→Prop):Prop:=∀(dn dn':U2) (a:Act) (h:Heap),(∀p,p∈dn'→p∈dn)→K dn a h→K dn' a h
theorem R4.imp{K K':U2→Act→Heap→Prop}{draw:Bool}{j:Nat}{dn:U2}{a:Act}{h:Heap}(hi:∀dn a h,K dn a h→K' dn a h)(hl:R4 P ops b draw K j dn a h):R4 P ops b draw K' j dn a h:=by
 unfold R4 at hl⊢
 cases ho:ops[j]? with
 |none=>simp only[ho] at hl
 |some o=>
  simp only[ho] at hl⊢
  by_cases hw:want ops o a=true
  ·rw[if_pos hw] at hl⊢
   cases hc:R3 P o.op with
   |stat=>
    simp only[hc] at hl⊢
    obtain⟨v,hv,hr⟩:=hl
    exact⟨v,hv,hi _ _ _ hr⟩
   |read=>
    simp only[hc] at hl⊢
    obtain⟨v,hv,hr⟩:=hl
    exact⟨v,hv,hi _ _ _ hr⟩
   |bD=>
    simp only[hc] at hl⊢
    exact hl.mono fun v h' ⟨h1,h2⟩=>⟨h1,hi _ _ _ h2⟩
  ·rw[if_neg hw] at hl⊢
   exact hi _ _ _ hl
theorem R4.cV{K:U2→Act→Heap→Prop}{draw:Bool}{j:Nat}(hK:C0o K):C0o (R4 P ops b draw K j):=by
 intro dn dn' a h hs hl
 unfold R4 at hl⊢
 cases ho:ops[j]? with
 |none=>simp only[ho] at hl
 |some o=>
  simp only[ho] at hl⊢
  by_cases hw:want ops o a=true
  ·rw[if_pos hw] at hl⊢
   cases hc:R3 P o.op with
   |stat=>
    simp only[hc] at hl⊢
    obtain⟨v,hv,hr⟩:=hl
    exact⟨v,hv,hK _ _ _ _ hs hr⟩
   |read=>
    simp only[hc] at hl⊢
    obtain⟨v,hv,hr⟩:=hl
    refine⟨v,hv,hK _ _ _ _ (fun p hp=>?_) hr⟩
    cases hp with
    |head=>exact B7 ..
    |tail _ hp=>exact B8 _ (hs p hp)
   |bD=>
    simp only[hc] at hl⊢
    exact hl.mono fun v h' ⟨h1,h2⟩=>⟨fun hd i v' hi=>h1 hd i v' (hs _ hi),hK _ _ _ _ hs h2⟩
  ·rw[if_neg hw] at hl⊢
   exact hK _ _ _ _ hs hl
def A0a(P:Program)(ops:Array Oper)(b:Array Nat)(draw:Bool)(Φ:Act→Heap→Prop):k5→U2→Act→Heap→Prop
 |.done,_,a,h=>Φ a h
 |.q j t,dn,a,h=>R4 P ops b draw (A0a P ops b draw Φ t) j dn a h
 |.br js f,dn,a,h=>∀j,j∈js→R4 P ops b draw (A0a P ops b draw Φ (f j)) j dn a h
theorem A0a.cV{draw:Bool}:∀(t:k5),C0o (A0a P ops b draw Φ t)
 |.done=>fun _ _ _ _ _ hl=>hl
 |.q j t=>R4.cV (A0a.cV t)
 |.br js f=>fun dn dn' a h hs hl j hj=>R4.cV (A0a.cV (f j)) dn dn' a h hs (hl j hj)
theorem A0a.imp{Φ':Act→Heap→Prop}{draw:Bool}(hi:∀a h,Φ a h→Φ' a h):∀(t:k5) (dn:U2) (a:Act) (h:Heap),A0a P ops b draw Φ t dn a h→A0a P ops b draw Φ' t dn a h
 |.done,_,_,_,hl=>hi _ _ hl
 |.q j t,dn,a,h,hl=>R4.imp (A0a.imp hi t) hl
 |.br js f,dn,a,h,hl=>fun j hj=>R4.imp (A0a.imp hi (f j)) (hl j hj)
def YX(P:Program)(ops:Array Oper)(o:Oper)(a:Act)(h:Heap)(v:Value):Prop:=
 (want ops o a=true∧c7 P (execOp a.eval o) h v∧(R3 P o.op=.stat→Stat P (execOp a.eval o) v))∨(want ops o a=false∧v=undef)
def A6e:Cls→Bool
 |.read=>true
 |_=>false
def ext(P:Program)(ops:Array Oper)(j:Nat)(o:Oper)(a:Act)(v:Value)(dn:U2):U2:=
 match want ops o a&&A6e (R3 P o.op) with
 |true=>(j,v)::dn
 |false=>dn
theorem B17{j:Nat}{o:Oper}{a:Act}{v:Value}{dn:U2}{p:Nat×Value}:p∈ext P ops j o a v dn↔p∈dn∨((want ops o a&&A6e (R3 P o.op))=true∧p=(j,v)):=by
 unfold ext
 cases hh:want ops o a&&A6e (R3 P o.op) with
 |true=>
  simp only[B9]
  constructor
  ·rintro(h|h)
   ·exact .inr ⟨trivial,h⟩
   ·exact .inl h
  ·rintro(h|⟨-,h⟩)
   ·exact .inr h
   ·exact .inl h
 |false=>simp
theorem R4.quiet{K:U2→Act→Heap→Prop}{draw:Bool}{j:Nat}{o:Oper}(ho:ops[j]? =some o)(hc:R3 P o.op≠ .bD){dn:U2}{a:Act}{h:Heap}:
  R4 P ops b draw K j dn a h↔∃v,YX P ops o a h v∧K (ext P ops j o a v dn) (a.put o.dst v) h:=by
 conv=>lhs;unfold R4
 simp only[ho]
 by_cases hw:want ops o a=true
 ·rw[if_pos hw]
  cases ae:R3 P o.op with
  |stat=>
   simp only[YX,ext,ae,A6e,hw,Bool.and_false]
   constructor
   ·rintro⟨v,hv,hr⟩
    exact⟨v,.inl ⟨trivial,fun w _=>hv w,fun _=>hv⟩,hr⟩
   ·rintro⟨v,hv|hv,hr⟩
    ·exact⟨v,hv.2.2 trivial,hr⟩
    ·exact absurd hv.1 (by simp)
  |read=>
   simp only[YX,ext,ae,A6e,hw,Bool.and_true]
   constructor
   ·rintro⟨v,hv,hr⟩
    exact⟨v,.inl ⟨trivial,hv,fun hh=>by cases hh⟩,hr⟩
   ·rintro⟨v,hv|hv,hr⟩
    ·exact⟨v,hv.2.1,hr⟩
    ·exact absurd hv.1 (by simp)
  |bD=>exact absurd ae hc
 ·rw[if_neg hw]
  have dr:want ops o a=false:=by simpa using hw
  simp only[YX,ext,dr,F8]
  constructor
  ·intro hr
   exact⟨undef,.inr ⟨trivial,rfl⟩,hr⟩
  ·rintro⟨v,hv|hv,hr⟩
   ·exact absurd hv.1 (by simp)
   ·obtain⟨-,rfl⟩:=hv;exact hr
theorem B21{o:Oper}{a:Act}{dst:Option Tmp}{v:Value}(h:∀d,dst=some d→d∉o.looksAt ops):want ops o (a.put dst v)=want ops o a:=wanted_put o a dst v h
theorem YX.congr{o:Oper}{a a':Act}{h:Heap}{v:Value}(he:execOp a'.eval o=execOp a.eval o)(hw:want ops o a'=want ops o a)(hy:YX P ops o a h v):YX P ops o a' h v:=by
 unfold YX at*
 rw[he,hw]
 exact hy
theorem R4.swap{K:U2→Act→Heap→Prop}(hK:C0o K){draw:Bool}{i j:Nat}{x y:Oper}(jT:draw=true)(hx:ops[i]? =some x)(hy:ops[j]? =some y)(gP:x.apart ops y=true)(jr:∀cs b,x.op≠ .select cs b)(jq:∀cs b,y.op≠ .select cs b)
  (fP:R3 P x.op≠ .bD)(hb:(b.getD j 0).testBit i=false)(ei:∀d,x.dst=some d→d∉x.looksAt ops){dn:U2}{a:Act}{h:Heap}
  (bw:∀p,p∈dn→∀o,ops[p.1]? =some o→(∀cs b,o.op≠ .select cs b)∧∀d,x.dst=some d→d∉o.looksAt ops)
  (hl:R4 P ops b draw (R4 P ops b draw K j) i dn a h):R4 P ops b draw (R4 P ops b draw K i) j dn a h:=by
 obtain⟨h1,h2,h3⟩:=Oper.apart_spec gP
 obtain⟨v,hv,hl⟩:=(R4.quiet hx fP).1 hl
 have ey:execOp (a.put x.dst v).eval y=execOp a.eval y:=execOp_put y jq a x.dst v h1
 have wy:want ops y (a.put x.dst v)=want ops y a:=B21 h1
 have kx:∀u,execOp (a.put y.dst u).eval x=execOp a.eval x:=fun u=>execOp_put x jr a y.dst u h3
 have wx:∀u,want ops x (a.put y.dst u)=want ops x a:=fun u=>B21 h3
 have bS:∀u,(a.put x.dst v).put y.dst u=(a.put y.dst u).put x.dst v:=fun u=>Act.put_comm a v u h2
 by_cases nH:R3 P y.op=.bD
 ·unfold R4 at hl⊢
  simp only[hy] at hl⊢
  rw[wy] at hl
  by_cases hw:want ops y a=true
  ·rw[if_pos hw] at hl⊢
   simp only[nH] at hl⊢
   rw[ey] at hl
   refine hl.mono fun u h' ⟨gQ,cz⟩=>⟨fun hd p v' hp qY=>?_,?_⟩
   ·have cm:(p,v')∈ext P ops i x a v dn:=by
     unfold ext;split
     ·exact B8 _ hp
     ·exact hp
    obtain⟨o,ho,hr⟩:=gQ hd p v' cm qY
    obtain⟨qk,nc⟩:=bw _ hp o ho
    rw[bS u] at hr
    rw[execOp_put o qk (a.put y.dst u) x.dst v nc] at hr
    exact⟨o,ho,hr⟩
   ·refine(R4.quiet hx fP).2 ⟨v,?_,?_⟩
    ·rcases hv with⟨kG,hr1,aa⟩|⟨kG,mM⟩
     ·refine .inl ⟨by rw[wx];exact kG,?_,fun hs=>by rw[kx];exact aa hs⟩
      cases ae:R3 P x.op with
      |stat=>rw[kx];exact fun w _=>aa ae w
      |bD=>exact absurd ae fP
      |read=>
       have cm:(i,v)∈ext P ops i x a v dn:=by
        unfold ext;rw[kG,ae];exact B7 ..
       obtain⟨o,ho,hr⟩:=gQ jT i v cm hb
       rw[hx] at ho
       cases ho
       rw[bS u,execOp_put x jr (a.put y.dst u) x.dst v ei] at hr
       exact hr
     ·exact .inr ⟨by rw[wx];exact kG,mM⟩
    ·rw[←bS u]
     have:ext P ops i x (a.put y.dst u) v dn=ext P ops i x a v dn:=by unfold ext;rw[wx]
     rw[this]
     exact cz
  ·rw[if_neg hw] at hl⊢
   refine(R4.quiet hx fP).2 ⟨v,hv.congr (kx _) (wx _),?_⟩
   rw[←bS]
   have:ext P ops i x (a.put y.dst undef) v dn=ext P ops i x a v dn:=by unfold ext;rw[wx]
   rw[this]
   exact hl
 ·obtain⟨u,hu,hl⟩:=(R4.quiet hy nH).1 hl
  refine(R4.quiet hy nH).2 ⟨u,hu.congr ey.symm wy.symm,(R4.quiet hx fP).2 ⟨v,hv.congr (kx _) (wx _),?_⟩⟩
  rw[←bS u]
  refine hK _ _ _ _ (fun p hp=>?_) hl
  have e1:ext P ops i x (a.put y.dst u) v (ext P ops j y a u dn)=ext P ops i x a v (ext P ops j y a u dn):=by unfold ext;rw[wx]
  have e2:ext P ops j y (a.put x.dst v) u (ext P ops i x a v dn)=ext P ops j y a u (ext P ops i x a v dn):=by unfold ext;rw[wy]
  rw[e1] at hp
  rw[e2]
  rw[B17,B17] at hp⊢
  rcases hp with(hp|hp)|hp
  ·exact .inl (.inl hp)
  ·exact .inr hp
  ·exact .inl (.inr hp)
def C1Y(P:Program)(ops:Array Oper)(b:Array Nat)(i j:Nat):Prop:=
 ∃x y,ops[i]? =some x∧ops[j]? =some y∧i≠j∧((b.getD j 0).testBit i=true∧(R3 P x.op=.read→∀d,y.dst=some d→d∉x.looksAt ops)∨
  (b.getD j 0).testBit i=false∧R3 P x.op≠ .bD∧x.apart ops y=true)
theorem A6H{x y:Oper}(h:B1R ops x y=true):∀d,y.dst=some d→d∉x.looksAt ops:=by
 intro d hd hm
 simp only[B1R,hd] at h
 simp[hm] at h
theorem A3p:∀{l:List Nat} {n:Nat},X2 n l=true→n∈l
 |t::l,n,h=>by
  simp only[X2] at h
  cases hb:Nat.beq t n with
  |true=>rw[B0 hb];exact B7 ..
  |false=>simp only[hb] at h;exact B8 _ (A3p h)
theorem U6{j:Nat}:∀{l:List Nat} {i:Nat},i∈V3 j l↔i∈l∧i≠j
 |[],i=>by simp[V3]
 |x::l,i=>by
  simp only[V3]
  cases hb:Nat.beq x j with
  |true=>
   have hx:=B0 hb
   subst hx
   simp only[U6 (l:=l),B9]
   constructor
   ·rintro⟨h1,h2⟩;exact⟨.inr h1,h2⟩
   ·rintro⟨h1|h1,h2⟩
    ·exact absurd h1 h2
    ·exact⟨h1,h2⟩
  |false=>
   have hx:x≠j:=Nat.ne_of_beq_eq_false hb
   simp only[B9,U6 (l:=l)]
   constructor
   ·rintro(h1|⟨h1,h2⟩)
    ·subst h1;exact⟨.inl rfl,hx⟩
    ·exact⟨.inr h1,h2⟩
   ·rintro⟨h1|h1,h2⟩
    ·exact .inl h1
    ·exact .inr ⟨h1,h2⟩
theorem A2J{j:Nat}:∀{l:List Nat},l.Nodup→(V3 j l).Nodup
 |[],h=>h
 |x::l,h=>by
  rw[J4] at h
  simp only[V3]
  cases hb:Nat.beq x j with
  |true=>exact A2J h.2
  |false=>rw[J4];exact⟨fun hm=>h.1 (U6.1 hm).1,A2J h.2⟩
theorem A9v{j:Nat}:∀{l:List Nat},j∉l→V3 j l=l
 |[],_=>rfl
 |x::l,h=>by
  simp only[B9,not_or] at h
  simp only[V3]
  cases hb:Nat.beq x j with
  |true=>exact absurd (B0 hb).symm h.1
  |false=>rw[A9v h.2]
theorem A5t{j:Nat}:∀{l:List Nat},l.Nodup→j∈l→(V3 j l).length+1=l.length
 |x::l,h,hm=>by
  rw[J4] at h
  simp only[V3]
  cases hb:Nat.beq x j with
  |true=>
   have hx:=B0 hb
   subst hx
   rw[A9v h.1]
   rfl
  |false=>
   have hx:x≠j:=Nat.ne_of_beq_eq_false hb
   rcases B9.1 hm with e|hm
   ·exact absurd e.symm hx
   ·simp only[D8,A5t h.2 hm]
def A9V(P:Program)(ops:Array Oper)(b:Array Nat):k5→List Nat→Prop
 |.done,R=>R=[]
 |.q j t,R=>(∃x,ops[j]? =some x∧R3 P x.op≠ .bD∧∀d,x.dst=some d→d∉x.looksAt ops)∧j∈R∧(∀i∈V3 j R,C1Y P ops b j i)∧A9V P ops b t (V3 j R)
 |.br js f,R=>js≠[]∧(∀j∈js,j∈R∧(∃x,ops[j]? =some x∧R3 P x.op=.bD)∧A9V P ops b (f j) (V3 j R))∧∀i∈R,i∈js∨∃x∈R,(b.getD i 0).testBit x=true
theorem A5h{j:Nat}{x:Oper}(hx:ops[j]? =some x):A5i P ops j=true↔R3 P x.op=.bD:=by
 have cr:ops.toList[j]? =some x:=by simpa using hx
 unfold A5i
 simp only[cr]
 cases R3 P x.op<;>simp
theorem A4p:∀(t:k5) (R:List Nat),A9o P ops b t R=true→A9V P ops b t R
 |.done,R,h=>by simpa[A9o,A9V] using h
 |.q j t,R,h=>by
  simp only[A9o,E8] at h
  obtain⟨h1,h2⟩:=h
  cases hx:ops.toList[j]? with
  |none=>simp only[hx] at h1;cases h1
  |some x=>
   have cr:ops[j]? =some x:=by simpa using hx
   simp only[hx,E8] at h1
   obtain⟨⟨⟨h3,h4⟩,h5⟩,h6⟩:=h1
   refine⟨⟨x,cr,fun hc=>?_,A6H h5⟩,A3p h3,fun i hi=>?_,A4p t _ h2⟩
   ·rw[(A5h cr).2 hc] at h4;cases h4
   ·have h7:=G6.1 h6 i hi
    cases hy:ops.toList[i]? with
    |none=>simp only[hy] at h7;cases h7
    |some y=>
     simp only[hy] at h7
     refine⟨x,y,cr,by simpa using hy,fun he=>(U6.1 hi).2 he.symm,?_⟩
     unfold B8d at h7
     cases hb:(b.getD i 0).testBit j with
     |true=>
      simp only[hb] at h7
      refine .inl ⟨rfl,fun hr=>?_⟩
      simp only[hr] at h7
      exact A6H h7
     |false=>
      simp only[hb] at h7
      refine .inr ⟨rfl,?_,?_⟩
      ·intro hr;simp only[hr] at h7;cases h7
      ·cases hc:R3 P x.op<;>simp only[hc] at h7<;>first|exact h7|cases h7
 |.br js f,R,h=>by
  simp only[A9o,E8,G6] at h
  refine⟨fun e=>?_,fun j hj=>?_,fun i hi=>?_⟩
  ·have:=h.1.1;rw[e] at this;cases this
  ·obtain⟨⟨h1,h2⟩,h3⟩:=h.1.2 j hj
   refine⟨A3p h1,?_,A4p (f j) _ h3⟩
   cases hx:ops.toList[j]? with
   |none=>simp[A5i,hx] at h2
   |some x=>exact⟨x,by simpa using hx,(A5h (by simpa using hx)).1 h2⟩
  ·have:=h.2 i hi
   rw[Bool.or_eq_true] at this
   rcases this with h1|h1
   ·exact .inl (A3p h1)
   ·obtain⟨x,hx,hb⟩:=List.any_eq_true.1 h1
    exact .inr ⟨x,hx,hb⟩
def B9n(ops:Array Oper)(dn:U2)(l:List Nat):Prop:=
 ∀p,p∈dn→∀o,ops[p.1]? =some o→∀k,k∈l→∀x,ops[k]? =some x→∀d,x.dst=some d→d∉o.looksAt ops
theorem A0a.pull(hs:Region.noSelect ops=true){i:Nat}:∀(t:k5) (R:List Nat),A9V P ops b t R→i∈R→(∀x∈R,(b.getD i 0).testBit x=false)→
  ∃t' o,A9V P ops b t' (V3 i R)∧ops[i]? =some o∧(R3 P o.op=.read→∀k∈V3 i R,∀z,ops[k]? =some z→∀d,z.dst=some d→d∉o.looksAt ops)∧
   ∀(dn:U2) (a:Act) (h:Heap),B9n ops dn R→A0a P ops b true Φ t dn a h→R4 P ops b true (A0a P ops b true Φ t') i dn a h
 |.done,R,hg,hi,_=>by rw[show R=[] from hg] at hi;cases hi
 |.br js f,R,hg,hi,hm=>by
  rcases hg.2.2 i hi with h1|⟨x,hx,hb⟩
  ·obtain⟨-,⟨o,ho,hc⟩,bH⟩:=hg.2.1 i h1
   exact⟨f i,o,bH,ho,(fun hr=>by rw[hc] at hr;cases hr),fun dn a h _ hl=>hl i h1⟩
  ·rw[hm x hx] at hb;cases hb
 |.q j t,R,hg,hi,hm=>by
  obtain⟨⟨x,hx,fP,ei⟩,kO,dh,oS⟩:=hg
  by_cases nq:i=j
  ·subst nq
   refine⟨t,x,oS,hx,fun hr k hk z hz d hd=>?_,fun dn a h _ hl=>hl⟩
   obtain⟨x1,z1,fi,eG,-,dj⟩:=dh k hk
   rw[hx] at fi;cases fi
   rw[hz] at eG;cases eG
   rcases dj with⟨-,jn⟩|⟨-,-,gP⟩
   ·exact jn hr d hd
   ·exact(Oper.apart_spec gP).2.2 d hd
  ·have da:i∈V3 j R:=U6.2 ⟨hi,nq⟩
   obtain⟨t',o,nv,ho,jz,fk⟩:=A0a.pull hs t (V3 j R) oS da (fun y hy=>hm y (U6.1 hy).1)
   have bS:∀R:List Nat,V3 i (V3 j R)=V3 j (V3 i R):=by
    intro R
    induction R with
    |nil=>rfl
    |cons y R ih=>
     simp only[V3]
     cases h1:Nat.beq y j<;>cases h2:Nat.beq y i<;>simp only[V3,h1,h2,ih]
   obtain⟨x1,o1,fi,kN,bh,dj⟩:=dh i da
   rw[hx] at fi;cases fi
   rw[ho] at kN;cases kN
   have gP:x.apart ops o=true:=by
    rcases dj with⟨hb,-⟩|⟨-,-,gP⟩
    ·rw[hm j kO] at hb;cases hb
    ·exact gP
   refine⟨.q j t',o,⟨⟨x,hx,fP,ei⟩,U6.2 ⟨kO,fun e=>nq e.symm⟩,fun k hk=>dh k ?_,?_⟩,ho,fun hr k hk z hz d hd=>?_,fun dn a h bw hl=>?_⟩
   ·rw[←bS] at hk;exact(U6.1 hk).1
   ·rw[←bS];exact nv
   ·by_cases oM:k=j
    ·subst oM
     rw[hx] at hz;cases hz
     exact(Oper.apart_spec gP).1 d hd
    ·exact jz hr k (by rw[bS];exact U6.2 ⟨hk,oM⟩) z hz d hd
   ·refine R4.swap (A0a.cV t') rfl hx ho gP (fun cs bb=>Region.noSelect_spec hs j x cs bb hx) (fun cs bb=>Region.noSelect_spec hs i o cs bb ho) fP (hm j kO) ei (fun p hp o' cC=>⟨fun cs bb=>Region.noSelect_spec hs p.1 o' cs bb cC,fun d hd=>bw p hp o' cC j kO x hx d hd⟩) ?_
    obtain⟨v,hv,hq⟩:=(R4.quiet hx fP).1 hl
    refine(R4.quiet hx fP).2 ⟨v,hv,fk _ _ _ ?_ hq⟩
    intro p eK o' cC k hk z hz d hd
    rcases B17.1 eK with eK|⟨fM,rfl⟩
    ·exact bw p eK o' cC k (U6.1 hk).1 z hz d hd
    ·rw[hx] at cC;cases cC
     have mZ:R3 P x.op=.read:=by
      simp only[E8] at fM
      cases hc:R3 P x.op<;>simp[hc,A6e] at fM⊢
     obtain⟨x1,z1,fi,eG,-,dj⟩:=dh k hk
     rw[hx] at fi;cases fi
     rw[hz] at eG;cases eG
     rcases dj with⟨-,jn⟩|⟨-,-,nN⟩
     ·exact jn mZ d hd
     ·exact(Oper.apart_spec nN).2.2 d hd
theorem A4D{Qx:Exit→Act→World→Prop}{K:U2→Act→Heap→Prop}{draw:Bool}{i:Nat}{dn:U2}{a:Act}{w:World}(hl:R4 P ops b draw K i dn a w.heap):
  wpOp P ops Qx i (fun a' w'=>Q7 w w'∧∃dn',(∀p,p∈dn'→p∈dn∨∃o,ops[i]? =some o∧R3 P o.op=.read∧p.1=i)∧K dn' a' w'.heap) a w:=by
 unfold R4 at hl
 cases ho:ops[i]? with
 |none=>simp only[ho] at hl
 |some o=>
  simp only[ho] at hl
  unfold wpOp
  simp only[ho]
  by_cases hw:want ops o a=true
  ·have dr:Region.wanted o (yielded ops a.tmps)=true:=hw
   rw[if_pos hw] at hl
   rw[if_pos dr]
   left
   unfold Oper.wp
   cases hc:R3 P o.op with
   |stat=>
    simp only[hc] at hl
    obtain⟨v,hv,hr⟩:=hl
    rw[hv w]
    exact⟨Q7.refl w,dn,fun p hp=>.inl hp,hr⟩
   |read=>
    simp only[hc] at hl
    obtain⟨v,hv,hr⟩:=hl
    rw[hv w rfl]
    refine⟨Q7.refl w,_,fun p hp=>?_,hr⟩
    cases hp with
    |head=>exact .inr ⟨o,rfl,hc,rfl⟩
    |tail _ hp=>exact .inl hp
   |bD=>
    simp only[hc] at hl
    have:=hl w rfl
    revert this
    cases(execOp a.eval o).run P w with
    |halt x w'=>exact fun hh=>hh.elim
    |ok n w'=>
     cases n<;>first
      |exact fun hh=>hh.elim
      |exact fun hh=>⟨hh.1,dn,fun p hp=>.inl hp,hh.2.2⟩
      |skip
     rename_i f args
     intro hh
     refine Calls.mono (hh.2 w' rfl) ?_
     rintro e w'' ⟨v,rfl,fp,h1,h2⟩
     exact⟨hh.1.trans fp,dn,fun p hp=>.inl hp,h2⟩
  ·have dr:¬Region.wanted o (yielded ops a.tmps)=true:=hw
   rw[if_neg hw] at hl
   rw[if_neg dr]
   exact⟨Q7.refl w,dn,fun p hp=>.inl hp,hl⟩
theorem A4C{Qx:Exit→Act→World→Prop}{draw:Bool}{w0:World}(hQ:∀a w',Q7 w0 w'→Φ a w'.heap→Qx .normal a w'):∀(l:List Nat) (dn:U2) (a:Act) (w:World),Q7 w0 w→
  A0a P ops b draw Φ (.ofList l) dn a w.heap→wpOps P ops Qx l a w
 |[],_,a,w,hs,hl=>hQ a w hs hl
 |i::t,dn,a,w,hs,hl=>by
  rw[wpOps_cons]
  exact wpOp_mono (fun a' w' ⟨h1,dn',_,h2⟩=>A4C hQ t dn' a' w' (hs.trans h1) h2) (A4D (K:=A0a P ops b draw Φ (.ofList t)) hl)
theorem B1e(acc:Array Nat):∀(l:List Edge) (s x:Nat),(l.foldl (fun s e=>if Region.binds .any e then s|||2 ^ e.on|||acc.getD e.on 0 else s) s).testBit x=true→
  s.testBit x=true∨∃e∈l,Region.binds .any e=true∧(e.on=x∨(acc.getD e.on 0).testBit x=true)
 |[],s,x,h=>.inl h
 |e::l,s,x,h=>by
  simp only[List.foldl_cons] at h
  rcases B1e acc l _ x h with h|⟨e',fE,hb,dj⟩
  ·by_cases hb:Region.binds .any e=true
   ·rw[if_pos hb] at h
    simp only[Nat.testBit_or,Bool.or_eq_true,Nat.testBit_two_pow] at h
    rcases h with(h|h)|h
    ·exact .inl h
    ·exact .inr ⟨e,B7 ..,hb,.inl (by simpa using h)⟩
    ·exact .inr ⟨e,B7 ..,hb,.inr h⟩
   ·rw[if_neg hb] at h
    exact .inl h
  ·exact .inr ⟨e',B8 _ fE,hb,dj⟩
def B9r(ops:Array Oper)(acc:Array Nat):Prop:=∀(j x:Nat),(acc.getD j 0).testBit x=true→∃o:Oper,ops[j]? =some o∧∃e∈o.after,Region.binds .any e=true∧(e.on=x∨(acc.getD e.on 0).testBit x=true)
theorem B39(ops:Array Oper):B9r ops (Region.before ops):=by
 unfold Region.before
 have:=Array.foldl_induction (as:=ops) (motive:=fun k acc=>acc.size=k∧B9r ops acc) (init:=(#[]:Array Nat))
  (f:=fun acc o=>acc.push (o.after.foldl (fun s e=>if Region.binds .any e then s|||2 ^ e.on|||acc.getD e.on 0 else s) 0)) ?_ ?_
 ·exact this.2
 ·exact⟨rfl,fun j x h=>by simp at h⟩
 ·rintro k acc ⟨ao,hB⟩
  refine⟨by simp[ao],fun j x h=>?_⟩
  have lift:∀(v:Nat) m,(acc.getD m 0).testBit x=true→((acc.push v).getD m 0).testBit x=true:=by
   intro v m hm
   have af:m<acc.size:=by
    rcases I7 m acc.size with hh|hh
    ·exact hh
    ·simp[K7 hh] at hm
   have:(acc.push v)[m]? =acc[m]? :=by rw[Array.getElem?_push,if_neg (by omega)]
   simp only[D5,this] at hm⊢
   exact hm
  rcases Nat.lt_trichotomy j acc.size with hj|hj|hj
  ·have hold:(acc.getD j 0).testBit x=true:=by
    simp only[D5] at h⊢
    rwa[Array.getElem?_push,if_neg (by omega)] at h
   obtain⟨o,ho,e,he,hb,dj⟩:=hB j x hold
   exact⟨o,ho,e,he,hb,dj.imp id (lift _ _)⟩
  ·subst hj
   have hk:ops[acc.size]? =some ops[k]:=by rw[ao];exact D1 k.2
   refine⟨_,hk,?_⟩
   simp only[D5,Array.getElem?_push,if_true,Option.getD_some] at h
   rw[←Array.foldl_toList] at h
   rcases B1e acc _ 0 x (by simpa only[D5] using h) with h0|⟨e,he,hb,dj⟩
   ·simp at h0
   ·exact⟨e,by simpa using he,hb,dj.imp id (lift _ _)⟩
  ·simp only[D5] at h
   rw[K7 (by simp;omega)] at h
   simp at h
theorem B4a(h:B5z ops=true):(∀(j:Nat) (o:Oper),ops[j]? =some o→∀e∈o.after,Region.binds .any e=true→e.on<j)∧Region.noSelect ops=true:=by
 unfold B5z at h
 rw[G6] at h
 have key:∀(j:Nat) (o:Oper),ops[j]? =some o→(o.after.toList.all (fun e=> !(Region.binds .any e)||Nat.blt e.on j)&& !(match o.op with|.select .. =>true|_=>false))=true:=by
  intro j o ho
  refine h (o,j) ?_
  rw[List.mem_zipIdx_iff_getElem?]
  simpa using ho
 refine⟨fun j o ho e he hb=>?_,?_⟩
 ·have:=key j o ho
  simp only[E8,G6] at this
  have h1:=this.1 e (by simpa using he)
  rw[hb] at h1
  exact J5.mp (by simpa using h1)
 ·unfold Region.noSelect
  rw[Array.all_eq_true_iff_forall_mem]
  intro o ho
  obtain⟨j,hj,rfl⟩:=Array.mem_iff_getElem.1 ho
  have:=key j ops[j] (D1 hj)
  simp only[E8] at this
  have h2:=this.2
  cases eV:ops[j].op<;>simp[eV] at h2⊢
theorem A91{Qx:Exit→Act→World→Prop}{w0:World}(hQ:∀a w',Q7 w0 w'→Φ a w'.heap→Qx .normal a w')(hB:B9r ops b)
  (dO:∀(j:Nat) (o:Oper),ops[j]? =some o→∀e∈o.after,Region.binds .any e=true→e.on<j)(dZ:Region.noSelect ops=true):
  ∀(n:Nat) (t:k5) (l:List Nat) (listed:Array Bool) (dn:U2) (a:Act) (w:World),l.length=n→Q7 w0 w→l.Nodup→A9V P ops b t l→B9n ops dn l→
   listed.size=ops.size→(∀i,i∈l↔listed[i]? =some false)→(∀m,listed[m]? =some true→∀x,(b.getD m 0).testBit x=true→listed[x]? =some true)→
   A0a P ops b true Φ t dn a w.heap→wpAny P .any ops Qx n listed a w:=by
 intro n
 induction n with
 |zero=>
  intro t l listed dn a w hn hs fB cF bw ao an ae hl
  have:l=[]:=List.length_eq_zero_iff.1 hn
  subst this
  have gf:Φ a w.heap:=by
   cases t with
   |done=>exact hl
   |q j t=>exact absurd cF.2.1 (by simp)
   |br js f=>
    cases js with
    |nil=>exact absurd rfl cF.1
    |cons j js=>exact absurd (cF.2.1 j (B7 ..)).1 (by simp)
  refine⟨?_,hQ a w hs gf⟩
  rw[List.eq_nil_iff_forall_not_mem]
  intro i hi
  obtain⟨h0,o,ho,_⟩:=mem_ready.1 hi
  have af:i<listed.size:=by rw[ao];exact(B3.1 ho).1
  have:listed[i]? =some false:=by
   rw[D1 af]
   simp only[D5,D1 af,Option.getD_some] at h0
   rw[h0]
  exact absurd ((an i).2 this) (by simp)
 |succ n ih=>
  intro t l listed dn a w hn hs fB cF bw ao an ae hl
  have rdy:∀i,i∈Region.ready .any ops listed→i∈l∧∀x,x∈l→(b.getD i 0).testBit x=false:=by
   intro i hi
   obtain⟨h0,o,ho,ak⟩:=mem_ready.1 hi
   have af:i<listed.size:=by rw[ao];exact(B3.1 ho).1
   have hf:listed[i]? =some false:=by
    rw[D1 af]
    simp only[D5,D1 af,Option.getD_some] at h0
    rw[h0]
   refine⟨(an i).2 hf,fun x hx=>?_⟩
   cases hb:(b.getD i 0).testBit x with
   |false=>rfl
   |true=>
    exfalso
    obtain⟨o',cC,e,he,kf,dj⟩:=hB i x hb
    rw[ho] at cC;cases cC
    have eL:=ak e he kf
    have fz:listed[e.on]? =some true:=by
     simp only[D5] at eL
     cases hh:listed[e.on]? with
     |none=>rw[hh] at eL;cases eL
     |some z=>rw[hh] at eL;simp at eL;rw[eL]
    have om:listed[x]? =some true:=by
     rcases dj with rfl|dj
     ·exact fz
     ·exact ae e.on fz x dj
    rw[(an x).1 hx] at om
    cases om
  refine⟨fun ia=>?_,fun i hi=>?_⟩
  ·
   exfalso
   have bh:l≠[]:=by intro h0;rw[h0] at hn;simp at hn
   obtain⟨m,hm,jG⟩:∃m,m∈l∧∀x,x∈l→m≤x:=by
    have jo:∃m,m∈l:=by cases l with
     |nil=>exact absurd rfl bh
     |cons m t=>exact⟨m,B7 ..⟩
    obtain⟨m,hm⟩:=jo
    exact⟨l.min bh,List.min_mem bh,fun x hx=>List.min_le_of_mem hx⟩
   have hf:=(an m).1 hm
   have af:m<listed.size:=(B3.1 hf).1
   have oK:m<ops.size:=by rw[←ao];exact af
   have:m∈Region.ready .any ops listed:=by
    rw[mem_ready]
    refine⟨by simp[D5,hf],ops[m],D1 oK,fun e he kf=>?_⟩
    have dD:=dO m ops[m] (D1 oK) e he kf
    have jS:e.on<listed.size:=by omega
    cases hh:listed[e.on]? with
    |none=>rw[D1 jS] at hh;cases hh
    |some z=>
     cases z with
     |true=>simp[D5,hh]
     |false=>have:=jG _ ((an e.on).2 hh);omega
   rw[ia] at this
   cases this
  ·obtain⟨dT,qs⟩:=rdy i hi
   have hf:=(an i).1 dT
   have af:i<listed.size:=(B3.1 hf).1
   obtain⟨t',oi,iu,oF,mY,fk⟩:=A0a.pull (Φ:=Φ) dZ t l cF dT qs
   refine wpOp_mono ?_ (A4D (fk dn a w.heap bw hl))
   rintro a' w' ⟨fp,dn',nF,jI⟩
   have hlen:=A5t fB dT
   refine ih t' (V3 i l) (listed.setIfInBounds i true) dn' a' w' (by omega) (hs.trans fp) (A2J fB) iu ?_ (by simp[ao]) ?_ ?_ jI
   ·intro p hp o ho k hk z hz d hd
    rcases nF p hp with hp|⟨o',cC,fM,kM⟩
    ·exact bw p hp o ho k (U6.1 hk).1 z hz d hd
    ·rw[kM] at ho
     rw[ho] at cC;cases cC
     rw[ho] at oF;cases oF
     exact mY fM k hk z hz d hd
   ·intro k
    rw[D2,U6]
    by_cases nk:i=k
    ·subst nk
     simp only[if_true,af]
     constructor
     ·rintro⟨-,h0⟩;exact absurd rfl h0
     ·intro hh;cases hh
    ·rw[if_neg nk,←an k]
     exact⟨fun h1=>h1.1,fun h1=>⟨h1,fun e=>nk e.symm⟩⟩
   ·intro m hm x hx
    rw[D2] at hm⊢
    by_cases oO:i=x
    ·subst oO;simp[af]
    ·rw[if_neg oO]
     by_cases oP:i=m
     ·subst oP
      obtain⟨h0,o,ho,ak⟩:=mem_ready.1 hi
      obtain⟨o',cC,e,he,kf,dj⟩:=hB i x hx
      rw[ho] at cC;cases cC
      have eL:=ak e he kf
      have fz:listed[e.on]? =some true:=by
       simp only[D5] at eL
       cases hh:listed[e.on]? with
       |none=>rw[hh] at eL;cases eL
       |some z=>rw[hh] at eL;simp at eL;rw[eL]
      rcases dj with rfl|dj
      ·exact fz
      ·exact ae e.on fz x dj
     ·rw[if_neg oP] at hm
      exact ae m hm x hx
end
end
section
def Ext(D:List Nat)(e e':Env):Prop:=∀t,t∉D→e'.get t=e.get t
theorem Ext.refl(D:List Nat)(e:Env):Ext D e e:=fun _ _=>rfl
theorem Ext.trans{D:List Nat}{a b c:Env}(h:Ext D a b)(k:Ext D b c):Ext D a c:=fun t ht=>(k t ht).trans (h t ht)
theorem Ext.mono{D D':List Nat}{a b:Env}(h:Ext D a b)(hs:∀t,t∈D→t∈D'):Ext D' a b:=fun t ht=>h t (fun hh=>ht (hs t hh))
theorem A75(e:Env)(s:Nat)(v:Value)(t:Nat):Env.get (e.put (some s) v) t=if s=t then some v else e.get t:=by
 simp only[Env.put,Env.get]
 by_cases h:s=t
 ·subst h;simp
 ·rw[if_neg h]
  cases hb:Nat.beq s t with
  |true=>exact absurd (B0 hb) h
  |false=>rfl
theorem A9d:∀{l:List Nat} {n:Nat},X2 n l=true↔n∈l
 |[],n=>by simp[X2]
 |t::ts,n=>by
  simp only[X2,B9]
  cases hb:Nat.beq t n with
  |true=>simp[B0 hb]
  |false=>
   have bh:n≠t:=by intro h;subst h;simp at hb
   simp[bh,A9d]
theorem A1K(ts:List Nat):∀(e:Env) (t:Nat),(e.forget ts).get t=if t∈ts then none else e.get t
 |[],t=>by simp[Env.forget,Env.get]
 |(s,v)::e,t=>by
  have ih:=A1K ts e t
  simp only[Env.forget]
  cases hm:X2 s ts with
  |true=>
   simp only[Env.get]
   rw[ih]
   have hs:=A9d.1 hm
   by_cases ht:t∈ts
   ·rw[if_pos ht,if_pos ht]
   ·rw[if_neg ht,if_neg ht]
    cases hb:Nat.beq s t with
    |true=>rw[B0 hb] at hs;exact absurd hs ht
    |false=>rfl
  |false=>
   simp only[Env.get]
   have hs:s∉ts:=fun hh=>by rw[A9d.2 hh] at hm;cases hm
   cases hb:Nat.beq s t with
   |true=>have:=B0 hb;subst this;rw[if_neg hs]
   |false=>exact ih
theorem R6.put{DF:List Deferred}{n:Nat}{e:Env}{a:Act}(h:R6 DF n e a){dst:Option Nat}(hd:∀s,dst=some s→s<n)(v:Value):R6 DF n (e.put dst v) (a.put dst v):=by
 cases dst with
 |none=>exact h
 |some s=>
  refine⟨by simp[Act.put,h.size],h.defers,fun t u ht=>?_⟩
  rw[A75] at ht
  simp only[Act.put,D2]
  by_cases aM:s=t
  ·subst aM
   rw[if_pos rfl] at ht
   cases ht
   simp[h.size,hd s rfl]
  ·rw[if_neg aM] at ht⊢
   exact h.get t u ht
theorem k7.put{d:Dec}{a:Act}(h:k7 d a){dst:Option Nat}(hd:∀s,dst=some s→d.get s=none)(v:Value):k7 d (a.put dst v):=by
 cases dst with
 |none=>exact h
 |some s=>
  intro t b ht
  simp only[Act.put,D2]
  by_cases aM:s=t
  ·subst aM;rw[hd s rfl] at ht;cases ht
  ·rw[if_neg aM];exact h t b ht
theorem k7.cons{d:Dec}{a:Act}(h:k7 d a){s:Nat}{b:Bool}(hs:a.tmps[s]? =some (.bool b)):k7 ((s,b)::d) a:=by
 intro t c ht
 simp only[Dec.get] at ht
 cases hb:Nat.beq s t with
 |true=>rw[hb] at ht;cases ht;rw[←B0 hb];exact hs
 |false=>rw[hb] at ht;exact h t c ht
theorem Dec.cY{d:Dec}{s t:Nat}{b:Bool}(h:d.get t=none)(bh:s≠t):Dec.get ((s,b)::d) t=none:=by
 simp only[Dec.get]
 cases hb:Nat.beq s t with
 |true=>exact absurd (B0 hb) bh
 |false=>exact h
theorem A9p{e:Env}:∀{ss:List (Nat×Kind)} {vs:C3E},e.cK ss=some vs→vs.length=ss.length∧∀t v,Env.get (r9 ss vs) t=some v→e.get t=some v
 |[],vs,h=>by simp only[Env.cK,C3] at h;subst h;exact⟨rfl,fun t v hh=>by simp[r9,Env.get] at hh⟩
 |(s,kd)::r,vs,h=>by
  simp only[Env.cK] at h
  cases hs:e.get s with
  |none=>simp only[hs] at h;cases h
  |some u=>
   simp only[hs] at h
   cases hr:e.cK r with
   |none=>simp only[hr] at h;cases h
   |some us=>
    simp only[hr] at h
    cases h
    obtain⟨h1,h2⟩:=A9p hr
    refine⟨by simp[h1],fun t v hh=>?_⟩
    simp only[r9,Env.get] at hh
    cases hb:Nat.beq s t with
    |true=>rw[hb] at hh;cases hh;rw[←B0 hb];exact hs
    |false=>rw[hb] at hh;exact h2 t v hh
theorem get_append(a b:Env)(t:Nat):Env.get (a++b) t=match Env.get a t with|some v=>some v|none=>Env.get b t:=by
 induction a with
 |nil=>rfl
 |cons x a ih=>
  obtain⟨s,v⟩:=x
  simp only[G3,Env.get]
  cases hb:Nat.beq s t with
  |true=>rfl
  |false=>exact ih
theorem A4y:∀(ss:List (Nat×Kind)) (vs:C3E) (t:Nat),t∉ss.map (·.1)→Env.get (r9 ss vs) t=none
 |[],vs,t,_=>rfl
 |_::_,[],t,_=>by simp[r9,Env.get]
 |(s,kd)::r,v::vs,t,h=>by
  simp only[B6,B9,not_or] at h
  simp only[r9,Env.get]
  cases hb:Nat.beq s t with
  |true=>exact absurd (B0 hb).symm h.1
  |false=>exact A4y r vs t h.2
theorem A2C{e:Env}{ds:List Nat}{ss:List (Nat×Kind)}(fY:∀p∈ss,p.1∈ds)(x:R0 (ss.map (·.2))):Ext ds e (e.join ds ss x):=by
 intro t ht
 unfold Env.join
 rw[get_append,A4y,A1K,if_neg ht]
 intro hm
 obtain⟨p,hp,rfl⟩:=H8.1 hm
 exact ht (fY p hp)
theorem B6I{e:Env}{ss:List (Nat×Kind)}{x:R0 (ss.map (·.2))}(h:e.aQ ss=some x):∀t v,Env.get (r9 ss (R0.vals (ss.map (·.2)) x)) t=some v→e.get t=some v:=by
 unfold Env.aQ at h
 cases hg:e.cK ss with
 |none=>simp only[hg] at h;cases h
 |some vs=>
  simp only[hg] at h
  have:=R0.aP _ _ _ h
  rw[←this]
  exact(A9p hg).2
theorem R6.join{DF:List Deferred}{n:Nat}{e e':Env}{a:Act}(h:R6 DF n e' a){ds:List Nat}(hx:Ext ds e e'){ss:List (Nat×Kind)}{x:R0 (ss.map (·.2))}(ht:e'.aQ ss=some x):R6 DF n (e.join ds ss x) a:=by
 refine⟨h.size,h.defers,fun t v hg=>?_⟩
 unfold Env.join at hg
 rw[get_append] at hg
 cases hz:Env.get (r9 ss (R0.vals (ss.map (·.2)) x)) t with
 |some u=>rw[hz] at hg;cases hg;exact h.get t v (B6I ht t v hz)
 |none=>
  rw[hz] at hg
  simp only at hg
  rw[A1K] at hg
  by_cases hm:t∈ds
  ·rw[if_pos hm] at hg;cases hg
  ·rw[if_neg hm] at hg
   exact h.get t v (by rw[hx t hm];exact hg)
section
variable {P:Program} {C:List Nat} {n:Nat} {ops:Array Oper} {draw:Bool} {ρ:Type} {Q:ρ→Heap→Prop}
def B9o(P:Program)(ops:Array Oper)(draw:Bool)(dn:U2):Prop:=draw=true→∀p,p∈dn→∃o,ops[p.1]? =some o∧R3 P o.op=.read
theorem A28{DF:List Deferred}(hC:∀f,f∈C→Q0 P f){bj:Nat}{e:Env}{d:Dec}{a:Act}{h:Heap}(hA:R6 DF n e a)(hD:k7 d a){m:HM ρ}:∀(dn:U2),(∀p,p∈dn→∃o,ops[p.1]? =some o∧R3 P o.op=.read)→
  again P C ops bj e d dn m h Q→(∀i v,(i,v)∈dn→bj.testBit i=false→B6r P ops i v a h)∧m h Q
 |[],_,hd=>⟨fun _ _ hm=>(by cases hm),hd⟩
 |(i,v)::r,bw,hd=>by
  simp only[again] at hd
  cases hb:bj.testBit i with
  |true=>
   simp only[hb] at hd
   obtain⟨h1,h2⟩:=A28 hC hA hD r (fun p hp=>bw p (B8 _ hp)) hd
   refine⟨fun j u hm j'=>?_,h2⟩
   cases hm with
   |head=>rw[hb] at j';cases j'
   |tail _ hm=>exact h1 j u hm j'
  |false=>
   simp only[hb] at hd
   obtain⟨o,ho,ae⟩:=bw (i,v) (B7 ..)
   have cC:ops.toList[i]? =some o:=by simpa using ho
   simp only[cC] at hd
   have:=B1j hC hA hD hd
   rw[ae] at this
   obtain⟨v',qf,mL,cz⟩:=this
   subst mL
   obtain⟨h1,h2⟩:=A28 hC hA hD r (fun p hp=>bw p (B8 _ hp)) cz
   refine⟨fun j u hm j'=>?_,h2⟩
   cases hm with
   |head=>exact⟨o,ho,qf⟩
   |tail _ hm=>exact h1 j u hm j'
theorem B5s{DF:List Deferred}(hC:∀f,f∈C→Q0 P f){j:Nat}{o:Oper}{e:Env}{d:Dec}{dn dn':U2}{kk:Env→U2→HM ρ}{a:Act}{h:Heap}{K:U2→Act→Heap→Prop}
  (ho:ops[j]? =some o)(hA:R6 DF n e a)(hD:k7 d a)(eM:∀s,o.dst=some s→s<n)(fF:∀s,o.dst=some s→d.get s=none)(bw:B9o P ops draw dn)(bq:draw=true→∀p,p∈dn'→p∈dn)
  (hw:want ops o a=true)
  (ih:∀v h' kB gl,(R3 P o.op=.stat→Stat P (execOp a.eval o) v)→kk (e.put o.dst v) kB h' Q→B9o P ops draw kB→(draw=true→∀p,p∈gl→p∈kB)→K gl (a.put o.dst v) h')
  (hd:A01 P C ops draw j o e d dn kk h Q):R4 P ops (Region.before ops) draw K j dn' a h:=by
 have hl:=B5r hC hA hD hd
 unfold R4
 simp only[ho]
 rw[if_pos hw]
 cases hc:R3 P o.op with
 |stat=>
  rw[hc] at hl
  simp only
  obtain⟨v,hv,hq⟩:=hl
  refine⟨v,hv,?_⟩
  cases fO:draw with
  |false=>subst fO;simp only at hq;exact ih v h dn dn' (fun _=>hv) hq bw bq
  |true=>subst fO;simp only[hc] at hq;exact ih v h dn dn' (fun _=>hv) hq bw bq
 |read=>
  rw[hc] at hl
  simp only
  obtain⟨v,hv,hq⟩:=hl
  refine⟨v,hv,?_⟩
  cases fO:draw with
  |false=>subst fO;simp only at hq;exact ih v h dn _ (fun hh=>by rw[hc] at hh;cases hh) hq bw (fun hh=>by cases hh)
  |true=>
   subst fO;simp only[hc] at hq
   refine ih v h _ _ (fun hh=>by rw[hc] at hh;cases hh) hq (fun _ p hp=>?_) (fun _ p hp=>?_)
   ·cases hp with
    |head=>exact⟨o,ho,hc⟩
    |tail _ hp=>exact bw rfl p hp
   ·cases hp with
    |head=>exact B7 ..
    |tail _ hp=>exact B8 _ (bq rfl p hp)
 |bD=>
  rw[hc] at hl
  simp only
  refine o5.mono hl fun v h' hq=>?_
  cases fO:draw with
  |false=>subst fO;simp only at hq;exact⟨fun hh=>(by cases hh),ih v h' dn dn' (fun hh=>by rw[hc] at hh;cases hh) hq bw bq⟩
  |true=>
   subst fO;simp only[hc] at hq
   obtain⟨h1,h2⟩:=A28 hC (hA.put eM v) (hD.put fF v) dn (bw rfl) hq
   exact⟨fun _ i v' hi hb=>h1 i v' (bq rfl _ hi) hb,ih v h' dn dn' (fun hh=>by rw[hc] at hh;cases hh) h2 bw bq⟩
theorem R4.pass{K:U2→Act→Heap→Prop}{b:Array Nat}{j:Nat}{o:Oper}{dn:U2}{a:Act}{h:Heap}(ho:ops[j]? =some o)(hw:want ops o a=false)
  (hl:K dn (a.put o.dst undef) h):R4 P ops b draw K j dn a h:=by
 unfold R4
 simp only[ho,hw]
 simpa using hl
theorem A0Q{d:Dec}{a:Act}(hD:k7 d a){x:Operand}{b:Bool}(h:B06 d x=some b):a.eval x=.bool b:=by
 cases x with
 |tmp t=>
  have:=hD t b h
  simp[Act.eval,this]
 |const c=>cases c<;>simp[B06] at h;subst h;rfl
 |global g=>cases h
 |func f=>cases h
theorem B3H{d:Dec}{a:Act}(hD:k7 d a){o:Oper}{b:Bool}(h:B56 d o.op=some b):R3 P o.op=.stat∧∀w,(execOp a.eval o).run P w=.ok (.value (.bool b)) w:=by
 unfold B56 at h
 split at h
 ·rename_i x ho
  exact⟨by rw[ho];rfl,fun w=>by simp[execOp,ho,A0Q hD h]⟩
 ·rename_i x ho
  exact⟨by rw[ho];rfl,fun w=>by simp[execOp,ho,A0Q hD h]⟩
 ·rename_i t x y ho
  refine⟨by rw[ho];rfl,fun w=>?_⟩
  split at h
  ·rename_i hg
   have ht:=hD t true hg
   have hx:=A0Q hD h
   have he:a.eval (.tmp t)=.bool true:=by simp[Act.eval,ht]
   simp[execOp,ho,he,asBool,hx]
  ·rename_i hg
   have ht:=hD t false hg
   have hx:=A0Q hD h
   have he:a.eval (.tmp t)=.bool false:=by simp[Act.eval,ht]
   simp[execOp,ho,he,asBool,hx]
  ·cases h
 ·cases h
theorem B33{d:Dec}{a:Act}(hD:k7 d a){o:Oper}(fF:∀s,o.dst=some s→d.get s=none)(af:∀s,o.dst=some s→s<a.tmps.size){v:Value}(aM:R3 P o.op=.stat→Stat P (execOp a.eval o) v):
  k7 (U1 d o) (a.put o.dst v):=by
 have hp:=hD.put fF v
 unfold U1
 cases hs:o.dst with
 |none=>rw[hs] at hp;exact hp
 |some s=>
  rw[hs] at hp
  simp only
  cases hl:B56 d o.op with
  |none=>exact hp
  |some b=>
   obtain⟨hc,hr⟩:=B3H (P:=P) hD hl
   have h1:=aM hc default
   rw[hr default] at h1
   cases h1
   exact hp.cons (by simp[Act.put,af s hs])
theorem B6H{o:Oper}{a:Act}(h:o.guard=none):want ops o a=true:=by simp[want,Region.wanted,h]
theorem B0t{o:Oper}{a:Act}{g:Nat}{wnt b:Bool}{s:Nat}(h:o.guard=some (g,wnt))(hs:q7 ops g=some s)(hb:a.tmps[s]? =some (.bool b)):want ops o a=(b==wnt):=by
 unfold q7 at hs
 cases hg:ops.toList[g]? with
 |none=>simp only[hg] at hs;cases hs
 |some og=>
  simp only[hg] at hs
  have iu:ops[g]? =some og:=by simpa using hg
  simp only[want,Region.wanted,h,yielded,iu,Option.bind_some,hs,hb]
  cases b<;>cases wnt<;>rfl
theorem B4Q{o:Oper}{a:Act}{g:Nat}{wnt:Bool}{s:Nat}{vs:C3D}(h:o.guard=some (g,wnt))(hs:q7 ops g=some s)(hb:a.tmps[s]? =some (.tuple vs)):want ops o a=false:=by
 unfold q7 at hs
 cases hg:ops.toList[g]? with
 |none=>simp only[hg] at hs;cases hs
 |some og=>
  simp only[hg] at hs
  have iu:ops[g]? =some og:=by simpa using hg
  simp only[want,Region.wanted,h,yielded,iu,Option.bind_some,hs,hb]
  cases wnt<;>rfl
theorem A7f{DF:List Deferred}(hC:∀f,f∈C→Q0 P f){k:Env→Dec→U2→HM ρ}{K:U2→Act→Heap→Prop}(D:List Nat)(iE:∀o s,o∈ops→o.dst=some s→s∈D)(e0:Env)
  (ih:∀(e:Env) (d:Dec) (dn dn':U2) (a:Act) (h:Heap),k e d dn h Q→Ext D e0 e→R6 DF n e a→k7 d a→B9o P ops draw dn→(draw=true→∀p,p∈dn'→p∈dn)→K dn' a h)
  (j:Nat)(e:Env)(d:Dec)(dn dn':U2)(a:Act)(h:Heap)(hd:A1O P C n ops draw j e d dn k h Q)(hx:Ext D e0 e)(hA:R6 DF n e a)(ef:k7 d a)(bw:B9o P ops draw dn)(bq:draw=true→∀p,p∈dn'→p∈dn):
  R4 P ops (Region.before ops) draw K j dn' a h:=by
  simp only[A1O] at hd
  cases ho:ops.toList[j]? with
  |none=>simp only[ho] at hd;exact hd.elim
  |some o=>
   simp only[ho] at hd
   have cC:ops[j]? =some o:=by simpa using ho
   have an:o∈ops:=Array.mem_of_getElem? cC
   cases eQ:B5w n d o.dst with
   |false=>simp only[eQ] at hd;exact hd.elim
   |true=>
   simp only[eQ] at hd
   have eM:∀s,o.dst=some s→s<n:=by
    intro s hs
    rw[hs] at eQ
    have dG:(Nat.blt s n&&(d.get s).isNone)=true:=eQ
    rw[E8] at dG
    exact J5.mp dG.1
   have fF:∀s,o.dst=some s→d.get s=none:=by
    intro s hs
    rw[hs] at eQ
    have dG:(Nat.blt s n&&(d.get s).isNone)=true:=eQ
    rw[E8] at dG
    exact Option.isNone_iff_eq_none.1 dG.2
   have oo:∀v,Ext D e0 (e.put o.dst v):=by
    intro v
    refine hx.trans fun t ht=>?_
    cases hs:o.dst with
    |none=>rfl
    |some s=>
     rw[A75,if_neg]
     intro aM;subst aM;exact ht (iE o s an hs)
   have sk:Ext D e0 (e.forget o.dst.toList):=by
    refine hx.trans fun t ht=>?_
    rw[A1K,if_neg]
    intro hm
    cases hs:o.dst with
    |none=>rw[hs] at hm;exact absurd hm K3
    |some s=>rw[hs] at hm;have:=B4.1 hm;subst this;exact ht (iE o t an hs)
   have run:∀(d2:Dec),k7 d2 a→(∀s,o.dst=some s→d2.get s=none)→want ops o a=true→(A01 P C ops draw j o e d2 dn fun e' dn'=>k e' (U1 d2 o) dn') h Q→
     R4 P ops (Region.before ops) draw K j dn' a h:=by
    intro d2 dk gg hw hh
    exact B5s hC cC hA dk eM gg bw bq hw (fun v h' kB gl aM hh nE jm=>ih _ (U1 d2 o) kB gl _ h' hh (oo v) (hA.put eM v) (B33 (P:=P) dk gg (fun s hs=>by rw[hA.size];exact eM s hs) aM) nE jm) hh
   have skip:∀(d2:Dec),k7 d2 a→(∀s,o.dst=some s→d2.get s=none)→want ops o a=false→k (e.put o.dst undef) d2 dn h Q→
     R4 P ops (Region.before ops) draw K j dn' a h:=by
    intro d2 dk gg hw hh
    have:=ih _ d2 dn dn' _ h hh (oo undef) (hA.put eM undef) (dk.put gg undef) bw bq
    exact R4.pass cC hw this
   cases hg:o.guard with
   |none=>
    simp only[hg] at hd
    exact run d ef fF (B6H hg) hd
   |some gw=>
    obtain⟨g,wnt⟩:=gw
    simp only[hg] at hd
    cases hs:q7 ops g with
    |none=>simp only[hs] at hd;exact hd.elim
    |some s=>
     simp only[hs] at hd
     cases nG:d.get s with
     |some b=>
      simp only[nG] at hd
      have hw:=B0t (ops:=ops) (a:=a) hg hs (ef s b nG)
      cases b<;>cases wnt<;>simp only at hd
      ·exact run d ef fF (by rw[hw];rfl) hd
      ·exact skip d ef fF (by rw[hw];rfl) hd
      ·exact skip d ef fF (by rw[hw];rfl) hd
      ·exact run d ef fF (by rw[hw];rfl) hd
     |none=>
      simp only[nG] at hd
      cases hh:B8A o.dst s with
      |true=>simp only[hh] at hd;exact hd.elim
      |false=>
      simp only[hh] at hd
      have bh:∀t,o.dst=some t→s≠t:=by
       intro t ht aM
       subst aM
       rw[ht] at hh
       simp[B8A] at hh
      cases nC:e.get s with
      |none=>simp only[nC] at hd;exact hd.elim
      |some u=>
       have iN:=hA.get s _ nC
       cases u<;>simp only[nC] at hd<;>first|exact hd.elim|exact skip d ef fF (B4Q (ops:=ops) (a:=a) hg hs iN) hd|skip
       rename_i bb
       have hw:=B0t (ops:=ops) (a:=a) hg hs iN
       have gh:∀b',∀t,o.dst=some t→Dec.get ((s,b')::d) t=none:=fun b' t ht=>Dec.cY (fF t ht) (bh t ht)
       cases wnt<;>simp only at hd<;>cases bb
       ·exact run _ (ef.cons iN) (gh _) (by rw[hw];rfl) hd
       ·exact skip _ (ef.cons iN) (gh _) (by rw[hw];rfl) hd
       ·exact skip _ (ef.cons iN) (gh _) (by rw[hw];rfl) hd
       ·exact run _ (ef.cons iN) (gh _) (by rw[hw];rfl) hd
theorem B4f{h:Heap}:∀{l:List (HM ρ)},B80 l h Q→∀m∈l,m h Q
 |[m],hd,x,hx=>by rw[B4.1 hx];exact hd
 |m::y::r,hd,x,hx=>by
  have eO:m h Q∧B80 (y::r) h Q:=hd
  rcases B9.1 hx with rfl|hx
  ·exact eO.1
  ·exact B4f eO.2 x hx
theorem A2L{DF:List Deferred}(hC:∀f,f∈C→Q0 P f){k:Env→HM ρ}(D:List Nat)(iE:∀o s,o∈ops→o.dst=some s→s∈D)(e0:Env):∀(t:k5) (e:Env) (d:Dec) (dn dn':U2) (a:Act) (h:Heap),
  A9w P C n ops draw t e d dn k h Q→Ext D e0 e→R6 DF n e a→k7 d a→B9o P ops draw dn→(draw=true→∀p,p∈dn'→p∈dn)→
  A0a P ops (Region.before ops) draw (fun a' h'=>∃e',R6 DF n e' a'∧Ext D e0 e'∧k e' h' Q) t dn' a h
 |.done,e,d,dn,dn',a,h,hd,hx,hA,_,_,_=>⟨e,hA,hx,hd⟩
 |.q j t,e,d,dn,dn',a,h,hd,hx,hA,ef,bw,bq=>A7f hC D iE e0 (A2L hC D iE e0 t) j e d dn dn' a h hd hx hA ef bw bq
 |.br js f,e,d,dn,dn',a,h,hd,hx,hA,ef,bw,bq=>fun j hj=>
  A7f hC D iE e0 (A2L hC D iE e0 (f j)) j e d dn dn' a h (B4f hd _ (D6 hj)) hx hA ef bw bq
end
end
section
def HW(P:Program)(c:Code)(a:Act)(h:Heap)(Ψ:Exit→Act→Heap→Prop):Prop:=∀w,w.heap=h→c.wp P (fun x a' w'=>Q7 w w'∧Ψ x a' w'.heap) a w
section
variable {P:Program} {C:List Nat} {n:Nat} {live lc:List Nat} {rs:List ResultVar}
theorem A3Q(hm:P.follows .mixedOrders=true){ops:Array Oper}{draw:Bool}{id:Nat}{a:Act}{h:Heap}{Ψ:Exit→Act→Heap→Prop}(bz:draw=true→A3m P ops (p6 P ops true)=true)
  (hl:A0a P ops (Region.before ops) draw (fun a' h'=>Ψ .normal a' h') (p6 P ops draw) [] a h):HW P (.region id ops draw) a h Ψ:=by
 intro w hw
 subst hw
 cases draw with
 |false=>
  exact wp_region (A4C (w0:=w) (fun a' w' hs hp=>⟨hs,hp⟩) (List.range ops.size) [] a w (Q7.refl w) hl)
 |true=>
  have ho:=bz rfl
  simp only[A3m,E8] at ho
  obtain⟨hb,hp⟩:=ho
  obtain⟨dO,dZ⟩:=B4a hb
  have cF:=A4p _ _ hp
  refine wp_region_any hm ?_
  have an:∀i,i∈List.range ops.size↔(Array.replicate ops.size false)[i]? =some false:=by
   intro i
   rw[List.mem_range]
   constructor
   ·intro hi;simp[hi]
   ·intro hi
    rcases I7 i ops.size with hh|hh
    ·exact hh
    ·simp[hh] at hi
  exact A91 (w0:=w) (fun a' w' hs hp=>⟨hs,hp⟩) (B39 ops) dO dZ ops.size (p6 P ops true) (List.range ops.size) (Array.replicate ops.size false) [] a {w with drawn:=w.drawn+1} (by simp) ⟨rfl,rfl,rfl⟩ List.nodup_range cF
   (fun p hp=>by cases hp) (by simp) an (fun m hm=>by
    rw[Array.getElem?_replicate] at hm
    split at hm<;>cases hm) hl
theorem A88:∀(l:List Oper) (p:Nat×Kind),p∈p9 P live l→p.1∈dstsOf l
 |[],p,h=>by cases h
 |o::l,p,h=>by
  have ih:=A88 l p
  have step:p∈p9 P live l→p.1∈dstsOf (o::l):=fun hh=>by
   simp only[dstsOf]
   cases o.dst with
   |none=>exact ih hh
   |some s=>exact B8 _ (ih hh)
  simp only[p9] at h
  cases hg:o.guard with
  |some g=>simp only[hg] at h;exact step h
  |none=>
   simp only[hg] at h
   cases hs:o.dst with
   |none=>simp only[hs] at h;exact step h
   |some s=>
    simp only[hs] at h
    cases hm:X2 s live with
    |false=>simp only[hm] at h;exact step h
    |true=>
     simp only[hm] at h
     cases hk:kindOf P o.type with
     |none=>simp only[hk] at h;exact step h
     |some k=>
      simp only[hk] at h
      cases h with
      |head=>simp only[dstsOf,hs];exact B7 ..
      |tail _ hh=>exact step hh
theorem A4r:∀(l:List Oper) (o:Oper) (s:Nat),o∈l→o.dst=some s→s∈dstsOf l
 |[],_,_,h,_=>by cases h
 |x::l,o,s,h,hs=>by
  simp only[dstsOf]
  cases h with
  |head=>rw[hs];exact B7 ..
  |tail _ h=>
   have:=A4r l o s h hs
   cases x.dst with
   |none=>exact this
   |some t=>exact B8 _ this
theorem A7K(hm:P.follows .mixedOrders=true)(hC:∀f,f∈C→Q0 P f){ρ:Type}{Q:ρ→Heap→Prop}{ops:Array Oper}{draw:Bool}{id:Nat}{e:Env}{k:Env→HM ρ}{a:Act}{h:Heap}{Ψ:Exit→Act→Heap→Prop}
  (hd:A6n P C n live ops draw e k h Q)(hA:A2g n e a)(hk:∀e' a' h',Ext (Go.H.dstsOf ops.toList) e e'→A2g n e' a'→k e' h' Q→Ψ .normal a' h'):HW P (.region id ops draw) a h Ψ:=by
 unfold A6n at hd
 have gN:∀(o:Oper) (s:Nat),o∈ops→o.dst=some s→s∈dstsOf ops.toList:=fun o s ho hs=>A4r _ o s (by simpa using ho) hs
 have go:∀(hh:(draw=true→A3m P ops (p6 P ops true)=true)∧((match guarded ops.toList with
  |false=>A9w P C n ops draw (p6 P ops draw) e [] [] k
  |true=>(A9w P C n ops draw (p6 P ops draw) e [] [] fun e'=>A40 (e'.aQ (p9 P live ops.toList))).bind fun x=>k (e.join (Go.H.dstsOf ops.toList) (p9 P live ops.toList) x)) h Q)),HW P (.region id ops draw) a h Ψ:=by
  rintro⟨bz,hd⟩
  refine A3Q hm bz ?_
  cases hg:guarded ops.toList with
  |false=>
   simp only[hg] at hd
   refine A0a.imp ?_ _ _ _ _ (A2L hC (Go.H.dstsOf ops.toList) gN e _ e [] [] [] a h hd (Ext.refl _ _) hA (fun t b ht=>by cases ht) (fun _ p hp=>by cases hp) (fun _ p hp=>hp))
   rintro a' h' ⟨e',bk,hx,hq⟩
   exact hk e' a' h' hx bk hq
  |true=>
   simp only[hg] at hd
   refine A0a.imp ?_ _ _ _ _ (A2L hC (Go.H.dstsOf ops.toList) gN e _ e [] [] [] a h hd (Ext.refl _ _) hA (fun t b ht=>by cases ht) (fun _ p hp=>by cases hp) (fun _ p hp=>hp))
   rintro a' h' ⟨e',bk,hx,hq⟩
   cases ht:e'.aQ (p9 P live ops.toList) with
   |none=>rw[ht] at hq;exact hq.elim
   |some x=>
    rw[ht] at hq
    exact hk _ a' h' (A2C (fun p hp=>A88 _ p hp) x) (bk.join hx ht) hq
 cases draw with
 |false=>exact go ⟨fun hh=>(by cases hh),hd⟩
 |true=>
  cases ho:A3m P ops (p6 P ops true) with
  |false=>simp only[ho] at hd;exact hd.elim
  |true=>simp only[ho] at hd;exact go ⟨fun _=>ho,hd⟩
def B0H(a:Act):ResultVar→Sem Value
 |.tmp t=>pure (a.tmps.getD t undef)
 |.cell x t=>do loadVar t (←asAddr (a.tmps.getD x undef))
def B1r(P:Program)(rs:List ResultVar)(a:Act)(h:Heap)(vs:C3E):Prop:=∀w,w.heap=h→(rs.mapM (B0H a)).run P w=.ok vs w
theorem Z4{DF:List Deferred}{ρ:Type}{Q:ρ→Heap→Prop}{e:Env}{a:Act}{h:Heap}(hA:R6 DF n e a):∀(rs:List ResultVar) (kk:C3E→HM ρ),A00 P e rs kk h Q→∃vs,B1r P rs a h vs∧kk vs h Q
 |[],kk,hd=>⟨[],fun w _=>rfl,hd⟩
 |.tmp t::rs,kk,hd=>by
  simp only[A00] at hd
  cases ht:e.get t with
  |none=>simp only[ht] at hd;exact hd.elim
  |some v=>
   simp only[ht] at hd
   obtain⟨vs,al,hq⟩:=Z4 hA rs _ hd
   refine⟨v::vs,fun w hw=>?_,hq⟩
   have dF:=hA.get t v ht
   rw[List.mapM_cons]
   simp[B0H,dF,al w hw]
 |.cell x ty::rs,kk,hd=>by
  simp only[A00] at hd
  cases ht:e.get x with
  |none=>simp only[ht] at hd;exact hd.elim
  |some u=>
   simp only[ht] at hd
   obtain⟨v,hv,hd⟩:=A3Y hd
   obtain⟨vs,al,hq⟩:=Z4 hA rs _ hd
   refine⟨v::vs,fun w hw=>?_,hq⟩
   have dF:=hA.get x u ht
   rw[List.mapM_cons]
   have hl:=hv w hw
   have:(B0H a (.cell x ty)).run P w=.ok v w:=by
    cases u with
    |pointer p=>
     cases p with
     |some ad=>simpa[B0H,dF,asAddr,Instr.loadAt,Instr.sureAddr] using hl
     |none=>simp[Instr.loadAt,Instr.sureAddr] at hl
    |_=>simp[Instr.loadAt,Instr.sureAddr] at hl
   simp[this,al w hw]
structure KOK(P:Program)(n:Nat)(rs:List ResultVar)(D:List Nat)(e:Env){ρ:Type}(k:KK ρ)(Q:ρ→Heap→Prop)(Ψ:Exit→Act→Heap→Prop):Prop where
 norm:∀e' a' h',Ext D e e'→A2g n e' a'→k.norm e' h' Q→Ψ .normal a' h'
 ret:∀a' h' vs r,a'.defers=[]→B1r P rs a' h' vs→k.ret vs=some r→Q r h'→Ψ .ret a' h'
 aV:∀id g e' a' h' r,Y1 k.aV id=some g→Ext D e e'→A2g n e' a'→g e'=some r→Q r h'→Ψ (.exit id) a' h'
theorem KOK.at{D D':List Nat}{e e1:Env}{ρ:Type}{k:KK ρ}{Q:ρ→Heap→Prop}{Ψ:Exit→Act→Heap→Prop}(hk:KOK P n rs D e k Q Ψ)(hs:∀t,t∈D'→t∈D)(hx:Ext D e e1):KOK P n rs D' e1 k Q Ψ:=
 ⟨fun e' a' h' cr hA hq=>hk.norm e' a' h' (hx.trans (cr.mono hs)) hA hq,hk.ret,fun id g e' a' h' r hg cr hA he hq=>hk.aV id g e' a' h' r hg (hx.trans (cr.mono hs)) hA he hq⟩
theorem j3{ρ:Type}{Q:ρ→Heap→Prop}{h:Heap}{o:Option ρ}(hd:A40 o h Q):∃r,o=some r∧Q r h:=by
 cases o with
 |none=>exact hd.elim
 |some r=>exact⟨r,rfl,hd⟩
theorem A2F{ρ ρ':Type}{f:ρ→ρ'}:∀(l:List (Nat×(Env→Option ρ))) (id:Nat) (g:Env→Option ρ'),Y1 (A0B f l) id=some g→
  ∃g0,Y1 l id=some g0∧∀e r,g e=some r→∃r0,g0 e=some r0∧r=f r0
 |[],id,g,h=>by cases h
 |(t,g1)::d,id,g,h=>by
  simp only[A0B,Y1] at h⊢
  cases hb:Nat.beq t id with
  |true=>
   simp only[hb] at h⊢
   cases h
   refine⟨g1,rfl,fun e r hr=>?_⟩
   cases hg:g1 e with
   |none=>simp only[hg] at hr;cases hr
   |some r0=>simp only[hg] at hr;cases hr;exact⟨r0,rfl,rfl⟩
  |false=>
   simp only[hb] at h⊢
   exact A2F d id g h
theorem A1N{β:Type}(x:Nat):∀(l:List (Nat×β)) (id:Nat) (g:β),Y1 (A2K x l) id=some g→id≠x∧Y1 l id=some g
 |[],_,_,h=>by cases h
 |(t,b)::d,id,g,h=>by
  simp only[A2K] at h
  cases hb:Nat.beq t x with
  |true=>
   simp only[hb] at h
   obtain⟨h1,h2⟩:=A1N x d id g h
   refine⟨h1,?_⟩
   simp only[Y1]
   cases hc:Nat.beq t id with
   |true=>have:=B0 hb;have:=B0 hc;omega
   |false=>exact h2
  |false=>
   simp only[hb,Y1] at h⊢
   cases hc:Nat.beq t id with
   |true=>
    simp only[hc] at h⊢
    refine⟨?_,h⟩
    have:=B0 hc
    intro he
    subst he;subst this
    simp at hb
   |false=>
    simp only[hc] at h⊢
    exact A1N x d id g h
theorem A0W(e:Env):∀(l:List Nat) (p:Nat×Kind),p∈carried lc e l→p.1∈l
 |[],p,h=>by cases h
 |s::r,p,h=>by
  have ih:=A0W e r p
  simp only[carried] at h
  cases hm:X2 s r with
  |true=>simp only[hm] at h;exact B8 _ (ih h)
  |false=>
   simp only[hm] at h
   cases hl:X2 s lc with
   |false=>simp only[hl] at h;exact B8 _ (ih h)
   |true=>
    simp only[hl] at h
    cases hv:e.get s with
    |none=>simp only[hv] at h;exact B8 _ (ih h)
    |some v=>
     simp only[hv] at h
     cases hk:Kind.of v with
     |none=>simp only[hk] at h;exact B8 _ (ih h)
     |some k=>
      simp only[hk] at h
      cases h with
      |head=>exact B7 ..
      |tail _ hh=>exact B8 _ (ih hh)
def A2d(ex:Option Nat)(Ψ:Exit→Act→Heap→Prop):Exit→Act→Heap→Prop
 |.exit id,a,h=>if ex=some id then Ψ .normal a h else Ψ (.exit id) a h
 |x,a,h=>Ψ x a h
theorem A69{ρ:Type}{Q:ρ→Heap→Prop}{outs:Bool}{ss:List (Nat×Kind)}{inner:(ρ':Type)→KK ρ'→HM ρ'}{ex:Option Nat}{e:Env}{ds:List Nat}{k:KK ρ}{h:Heap}{Ψ:Exit→Act→Heap→Prop}
  (fY:∀p∈ss,p.1∈ds)(hk:KOK P n rs ds e k Q Ψ)(hd:B59 outs ss inner ex e ds k h Q){R:Prop}
  (fa:∀(ρ':Type) (k':KK ρ') (Q':ρ'→Heap→Prop),inner ρ' k' h Q'→KOK P n rs ds e k' Q' (A2d ex Ψ)→R):R:=by
 unfold B59 at hd
 cases outs with
 |true=>
  simp only at hd
  refine fa _ _ _ hd ?_
  have dw:∀e' a' h',Ext ds e e'→A2g n e' a'→∀r,(match e'.aQ ss with|some x=>some (Sum.inl (β:=ρ) x)|none=>none)=some r→
    Sum.elim (fun x=>k.norm (e.join ds ss x)) O9 r h' Q→Ψ .normal a' h':=by
   intro e' a' h' hx hA r hr hq
   cases ht:e'.aQ ss with
   |none=>rw[ht] at hr;cases hr
   |some x=>
    rw[ht] at hr;cases hr
    exact hk.norm _ a' h' (A2C fY x) (hA.join hx ht) hq
  refine⟨fun e' a' h' hx hA hq=>?_,fun a' h' vs r cQ bL hr hq=>?_,fun id g e' a' h' r hg hx hA hr hq=>?_⟩
  ·obtain⟨r,hr,hq⟩:=j3 hq
   exact dw e' a' h' hx hA r hr hq
  ·simp only[B18] at hr
   cases ik:k.ret vs with
   |none=>simp only[ik] at hr;cases hr
   |some r0=>simp only[ik] at hr;cases hr;exact hk.ret a' h' vs r0 cQ bL ik hq
  ·have old:∀g0,Y1 (A0B (Sum.inr (α:=R0 (ss.map (·.2)))) k.aV) id=some g0→g0 e'=some r→Ψ (.exit id) a' h':=by
    intro g0 ny hr0
    obtain⟨g1,h1,h2⟩:=A2F _ _ _ ny
    obtain⟨r0,h3,h4⟩:=h2 e' r hr0
    subst h4
    exact hk.aV id g1 e' a' h' r0 h1 hx hA h3 hq
   cases ex with
   |none=>simp only[A2d];rw[if_neg (by simp)];exact old g hg hr
   |some x=>
    simp only[Y1] at hg
    simp only[A2d]
    cases hb:Nat.beq x id with
    |true=>
     simp only[hb] at hg
     cases hg
     have:=B0 hb
     subst this
     rw[if_pos rfl]
     exact dw e' a' h' hx hA r hr hq
    |false=>
     simp only[hb] at hg
     rw[if_neg (by intro hh;cases hh;simp at hb)]
     exact old g hg hr
 |false=>
  simp only at hd
  refine fa _ _ _ hd ?_
  have dw:∀e' a' h',Ext ds e e'→A2g n e' a'→∀r,e'.aQ ss=some r→k.norm (e.join ds ss r) h' Q→Ψ .normal a' h':=
   fun e' a' h' hx hA r ht hq=>hk.norm _ a' h' (A2C fY r) (hA.join hx ht) hq
  refine⟨fun e' a' h' hx hA hq=>?_,fun a' h' vs r cQ bL hr hq=>(by cases hr),fun id g e' a' h' r hg hx hA hr hq=>?_⟩
  ·obtain⟨r,hr,hq⟩:=j3 hq
   exact dw e' a' h' hx hA r hr hq
  ·cases ex with
   |none=>cases hg
   |some x=>
    simp only[Y1] at hg
    simp only[A2d]
    cases hb:Nat.beq x id with
    |true=>
     simp only[hb] at hg
     cases hg
     have:=B0 hb
     subst this
     rw[if_pos rfl]
     exact dw e' a' h' hx hA r hr hq
    |false=>simp only[hb] at hg;cases hg
theorem B20{c:Code}{Q:Exit→Act→World→Prop}{σ:Type}(J:σ→Act→World→Prop)(μ:σ→World→Nat)(round:∀s a w,J s a w→c.wp P (Exit.then (fun a' w'=>∃s',J s' a' w'∧μ s' w'<μ s w) Q) a w)
  {s:σ}{a:Act}{w:World}(h0:J s a w):(Code.loop c).wp P Q a w:=by
 intro b k cs
 have key:∀m s a w,μ s w=m→J s a w→∃e a' w',Q e a' w'∧Arrives P (lone (b.at a (.code c:: .inLoop c::k)) cs w) b k cs e a' w':=by
  intro m
  induction m using Nat.strongRecOn with
  |_ m ih=>
   intro s a w hm hJ
   obtain⟨e,a1,w1,hq,dP⟩:=round s a w hJ b (.inLoop c::k) cs
   cases e with
   |normal=>
    obtain⟨s',rD,af⟩:=hq
    obtain⟨e2,a2,w2,hU,kh⟩:=ih (μ s' w1) (hm▸af) s' a1 w1 rfl rD
    exact⟨e2,a2,w2,hU,.of_steps (Steps.trans dP (.one step_inLoop)) kh⟩
   |exit id=>exact⟨_,a1,w1,hq,.pass (x:=.inLoop c) rfl (fun _ _=>.inl (by simp)) dP⟩
   |goto l=>exact⟨_,a1,w1,hq,.pass (x:=.inLoop c) rfl (fun _ _=>.inl (by simp)) dP⟩
   |ret=>exact⟨_,a1,w1,hq,.pass (x:=.inLoop c) rfl (fun _ _=>.inl (by simp)) dP⟩
   |panic ch=>exact⟨_,a1,w1,hq,.pass (x:=.inLoop c) rfl (fun _ _=>.inl (by simp)) dP⟩
   |outgrown=>exact⟨_,a1,w1,hq,.pass (x:=.inLoop c) rfl (fun _ _=>.inl (by simp)) dP⟩
 obtain⟨e,a',w',hq,dP⟩:=key _ s a w rfl h0
 exact⟨e,a',w',hq,.of_steps (.one step_loop) dP⟩
theorem B7g(hm:P.follows .mixedOrders=true)(hC:∀f,f∈C→Q0 P f):∀(c:Code) (ρ:Type) (e:Env) (k:KK ρ) (h:Heap) (Q:ρ→Heap→Prop) (a:Act) (Ψ:Exit→Act→Heap→Prop),
  den P C n live lc rs c ρ e k h Q→A2g n e a→KOK P n rs (c9 c) e k Q Ψ→HW P c a h Ψ:=by
 intro c
 induction c with
 |skip=>
  intro ρ e k h Q a Ψ hd hA hk w hw
  subst hw
  exact wp_skip ⟨Q7.refl w,hk.norm e a _ (Ext.refl _ _) hA hd⟩
 |region id ops draw=>
  intro ρ e k h Q a Ψ hd hA hk
  exact A7K hm hC hd hA hk.norm
 |seq x y ihx ihy=>
  intro ρ e k h Q a Ψ hd hA hk
  have h1:=ihx ρ e {k with norm:=fun e'=>den P C n live lc rs y ρ e' k} h Q a (fun ex a' h'=>match ex with|.normal=>HW P y a' h' Ψ|ex=>Ψ ex a' h') hd hA
   ⟨fun e' a' h' hx bk hq=>ihy ρ e' k h' Q a' Ψ hq bk (hk.at (fun t ht=>List.mem_append_right _ ht) (hx.mono fun t ht=>J2 _ ht)),
    fun a' h' vs r cQ bL hr hq=>hk.ret a' h' vs r cQ bL hr hq,
    fun id g e' a' h' r hg hx bk hr hq=>hk.aV id g e' a' h' r hg (hx.mono fun t ht=>J2 _ ht) bk hr hq⟩
  intro w hw
  refine wp_seq (wp_mono (h1 w hw) ?_)
  rintro ex a' w' ⟨hs,hq⟩
  cases ex with
  |normal=>exact wp_mono (hq w' rfl) fun pj a2 w2 ⟨ai,hU⟩=>⟨hs.trans ai,hU⟩
  |exit id=>exact⟨hs,hq⟩
  |goto l=>exact⟨hs,hq⟩
  |ret=>exact⟨hs,hq⟩
  |panic ch=>exact⟨hs,hq⟩
  |outgrown=>exact⟨hs,hq⟩
 |cond c x y ihx ihy=>
  intro ρ e k h Q a Ψ hd hA hk
  simp only[den] at hd
  cases hc:e.ev c with
  |none=>simp only[hc] at hd;exact hd.elim
  |some v=>
   cases v<;>simp only[hc] at hd<;>try exact hd.elim
   rename_i t
   have iv:=hA.ev hc
   have inner:∀(ρ':Type) (k':KK ρ') (Q':ρ'→Heap→Prop),X7 t (den P C n live lc rs x ρ' e k') (den P C n live lc rs y ρ' e k') h Q'→KOK P n rs (c9 x++c9 y) e k' Q' Ψ→HW P (.cond c x y) a h Ψ:=by
    intro ρ' k' Q' hd hk w hw
    refine wp_cond iv ?_
    simp only[X7] at hd
    cases t with
    |true=>
     rw[if_pos rfl] at hd⊢
     exact ihx ρ' e k' h Q' a Ψ hd hA (hk.at (fun t ht=>J2 _ ht) (Ext.refl _ _)) w hw
    |false=>
     rw[if_neg (by simp)] at hd⊢
     exact ihy ρ' e k' h Q' a Ψ hd hA (hk.at (fun t ht=>List.mem_append_right _ ht) (Ext.refl _ _)) w hw
   cases hn:m7 x&&m7 y with
   |false=>simp only[hn] at hd;exact inner ρ k Q hd hk
   |true=>
    simp only[hn] at hd
    have e0:A2d none Ψ=Ψ:=by
     funext ex a' h'
     cases ex<;>simp[A2d]
    exact A69 (fun p hp=>A0W e _ p hp) hk hd (fun ρ' k' Q' hi eY=>inner ρ' k' Q' hi (by rw[e0] at eY;exact eY))
 |block id x ih=>
  intro ρ e k h Q a Ψ hd hA hk
  have fin:HW P x a h (A2d (some id) Ψ)→HW P (.block id x) a h Ψ:=by
   intro hx w hw
   refine wp_block (wp_mono (hx w hw) ?_)
   rintro ex a' w' ⟨hs,hq⟩
   cases ex with
   |exit id'=>
    simp only[A2d] at hq
    simp only[Exit.inBlock]
    by_cases hid:id'=id
    ·subst hid;rw[if_pos rfl] at hq⊢;exact⟨hs,hq⟩
    ·rw[if_neg (by intro hh;cases hh;exact hid rfl)] at hq
     rw[if_neg hid]
     exact⟨hs,hq⟩
   |normal=>exact⟨hs,hq⟩
   |goto l=>exact⟨hs,hq⟩
   |ret=>exact⟨hs,hq⟩
   |panic ch=>exact⟨hs,hq⟩
   |outgrown=>exact⟨hs,hq⟩
  simp only[den] at hd
  cases hx:m7.canExit id x with
  |true=>
   simp only[hx] at hd
   exact A69 (fun p hp=>A0W e _ p hp) hk hd (fun ρ' k' Q' hi eY=>fin (ih ρ' e k' h Q' a _ hi hA eY))
  |false=>
   simp only[hx] at hd
   refine fin (ih ρ e _ h Q a _ hd hA ⟨hk.norm,hk.ret,fun id' g e' a' h' r hg hx bk hr hq=>?_⟩)
   obtain⟨h1,h2⟩:=A1N id _ _ _ hg
   simp only[A2d]
   rw[if_neg (by intro hh;cases hh;exact h1 rfl)]
   exact hk.aV id' g e' a' h' r h2 hx bk hr hq
 |loop x ih=>
  intro ρ e k h Q a Ψ hd hA hk
  simp only[den] at hd
  cases ht:e.aQ (carried lc e (c9 x)) with
  |none=>simp only[ht] at hd;exact hd.elim
  |some s0=>
   simp only[ht] at hd
   obtain⟨I,μ,hI,hF⟩:=hd
   have fY:∀p∈carried lc e (c9 x),p.1∈c9 x:=fun p hp=>A0W e _ p hp
   intro w0 qa
   refine B20 (J:=fun y a w=>Q7 w0 w∧A2g n (e.join (c9 x) (carried lc e (c9 x)) y) a∧I y w.heap) (μ:=fun y w=>μ y w.heap) ?_ (s:=s0) ⟨Q7.refl _,hA.join (Ext.refl _ _) ht,by rw[qa];exact hI⟩
   rintro y a1 w1 ⟨aa,rL,rE⟩
   have hb:=hF y w1.heap rE
   have:=ih _ _ _ w1.heap _ a1 (fun ex a' h'=>match ex with
    |.normal=>∃s',A2g n (e.join (c9 x) (carried lc e (c9 x)) s') a'∧I s' h'∧μ s' h'<μ y w1.heap
    |ex=>Ψ ex a' h') hb rL ⟨fun e' a' h' hx bk hq=>?_,fun a' h' vs r cQ bL hr hq=>?_,fun id g e' a' h' r hg hx bk hr hq=>?_⟩
   ·refine wp_mono (this w1 rfl) ?_
    rintro ex a' w' ⟨hs,hq⟩
    cases ex with
    |normal=>
     obtain⟨s',h1,h2,h3⟩:=hq
     exact⟨s',⟨aa.trans hs,h1,h2⟩,h3⟩
    |exit id=>exact⟨aa.trans hs,hq⟩
    |goto l=>exact⟨aa.trans hs,hq⟩
    |ret=>exact⟨aa.trans hs,hq⟩
    |panic ch=>exact⟨aa.trans hs,hq⟩
    |outgrown=>exact⟨aa.trans hs,hq⟩
   ·obtain⟨r,hr,hq⟩:=j3 hq
    cases mO:e'.aQ (carried lc e (c9 x)) with
    |none=>rw[mO] at hr;cases hr
    |some z=>
     rw[mO] at hr;cases hr
     exact⟨z,bk.join ((A2C fY y).trans hx) mO,hq.1,hq.2⟩
   ·simp only[B18] at hr
    cases ik:k.ret vs with
    |none=>simp only[ik] at hr;cases hr
    |some r0=>simp only[ik] at hr;cases hr;exact hk.ret a' h' vs r0 cQ bL ik hq
   ·obtain⟨g1,h1,h2⟩:=A2F _ _ _ hg
    obtain⟨r0,h3,h4⟩:=h2 e' r hr
    subst h4
    exact hk.aV id g1 e' a' h' r0 h1 ((A2C fY y).trans hx) bk h3 hq
 |exit id=>
  intro ρ e k h Q a Ψ hd hA hk w hw
  subst hw
  simp only[den] at hd
  cases hg:Y1 k.aV id with
  |none=>simp only[hg] at hd;exact hd.elim
  |some g=>
   simp only[hg] at hd
   obtain⟨r,hr,hq⟩:=j3 hd
   exact wp_exit ⟨Q7.refl w,hk.aV id g e a _ r hg (Ext.refl _ _) hA hr hq⟩
 |ret=>
  intro ρ e k h Q a Ψ hd hA hk w hw
  subst hw
  simp only[den] at hd
  obtain⟨vs,al,hq⟩:=Z4 hA rs _ hd
  obtain⟨r,hr,hq⟩:=j3 hq
  exact wp_ret ⟨Q7.refl w,hk.ret a _ vs r hA.defers al hr hq⟩
 |_=>intro ρ e k h Q a Ψ hd hA hk;exact hd.elim
def B0W:C3E→Value
 |[v]=>v
 |vs=>.tuple vs.toArray
def packed(ks:List Kind)(x:R0 ks):Value:=B0W (R0.vals ks x)
theorem A2u{fn:Func}{a:Act}{w:World}{vs:C3E}(h:B1r P fn.results.toList a w.heap vs):(results fn a.tmps).run P w=.ok (B0W vs) w:=by
 have hm:(fn.results.mapM (B0H a)).run P w=.ok vs.toArray w:=by
  rw[Array.mapM_eq_mapM_toList]
  simp only[Sem.run_map]
  rw[h w rfl]
  rfl
 have e1:results fn a.tmps=(do let vs←fn.results.mapM (B0H a);pure (if h:vs.size=1 then vs[0] else .tuple vs)):=by
  unfold results
  congr 1
 rw[e1]
 simp only[Sem.run_bind,hm,Result.andThen_ok,Sem.run_pure]
 congr 1
 match vs with
 |[]=>rfl
 |[v]=>rfl
 |u::v::r=>rfl
theorem A5n:∀(args:C3E) (i t:Nat) (v:Value),Env.get ((args.zipIdx i).map fun(v,i)=>(i,v)) t=some v→i≤t∧args[t-i]? =some v
 |[],_,_,_,h=>by cases h
 |x::args,i,t,v,h=>by
  simp only[List.zipIdx_cons,B6,Env.get] at h
  cases hb:Nat.beq i t with
  |true=>
   rw[hb] at h
   have:=B0 hb
   subst this
   cases h
   simp
  |false=>
   rw[hb] at h
   obtain⟨h1,h2⟩:=A5n args (i+1) t v h
   refine⟨by omega,?_⟩
   rw[show t-i=(t-(i+1))+1 from by omega]
   simpa using h2
theorem A5A{f:FuncId}{fn:Func}{ks:List Kind}{args:C3E}{h:Heap}{Q:Value→Heap→Prop}(hf:P.funcs[f]? =some fn)(hb:fn.body.isSome=true)(hn:fn.ntmps=n)(hlen:Nat.ble args.length n=true)
  (hC:∀f,f∈C→Q0 P f)(hm:P.follows .mixedOrders=true)(hd:B8O P C n live lc fn.results.toList ks (A6t fn) args h fun x h'=>Q (packed ks x) h'):N9 P f args.toArray h Q:=by
 obtain⟨c,hc⟩:=Option.isSome_iff_exists.1 hb
 have jY:A6t fn=c:=by simp[A6t,hc]
 rw[jY] at hd
 intro w hw
 subst hw
 refine calls_of_wp hf hc ?_
 have hle:=B1 hlen
 have hA:A2g n (args.zipIdx.map fun(v,i)=>(i,v)) {tmps:=args.toArray++Array.replicate (fn.ntmps-args.toArray.size) undef,defers:=[]}:=by
  refine⟨by simp[hn];omega,rfl,fun t v ht=>?_⟩
  obtain⟨-,h2⟩:=A5n args 0 t v ht
  simp only[Nat.sub_zero] at h2
  have af:t<args.length:=by
   rcases I7 t args.length with hh|hh
   ·exact hh
   ·rw[List.getElem?_eq_none hh] at h2;cases h2
  simp[Array.getElem?_append,af,h2]
  rw[B2 af] at h2
  exact L7 h2
 have gf:∀(a':Act) (h':Heap) (vs:C3E) (r:R0 ks),a'.defers=[]→B1r P fn.results.toList a' h' vs→R0.get ks vs=some r→Q (packed ks r) h'→
   a'.defers=[]∧∃v,(∀w',w'.heap=h'→(results fn a'.tmps).run P w'=.ok v w')∧Q v h':=by
  intro a' h' vs r cQ bL hr hq
  refine⟨cQ,B0W vs,fun w' dr=>by subst dr;exact A2u bL,?_⟩
  have:=R0.aP _ _ _ hr
  rw[this];exact hq
 have gW:=B7g (live:=live) (lc:=lc) (rs:=fn.results.toList) hm hC c (R0 ks) _ _ w.heap _ _
  (fun ex a' h'=>match ex with
   |.normal=>a'.defers=[]∧∃v,(∀w',w'.heap=h'→(results fn a'.tmps).run P w'=.ok v w')∧Q v h'
   |.ret=>a'.defers=[]∧∃v,(∀w',w'.heap=h'→(results fn a'.tmps).run P w'=.ok v w')∧Q v h'
   |_=>False) hd hA
  ⟨fun e' a' h' hx bk hq=>by
   obtain⟨vs,al,hq⟩:=Z4 bk _ _ hq
   obtain⟨r,hr,hq⟩:=j3 hq
   exact gf a' h' vs r bk.defers al hr hq,
   fun a' h' vs r cQ bL hr hq=>gf a' h' vs r cQ bL hr hq,
   fun id g e' a' h' r hg=>by cases hg⟩
 refine wp_mono (gW w rfl) ?_
 rintro ex a' w' ⟨hs,hq⟩
 cases ex with
 |normal=>
  obtain⟨cQ,v,hv,hq⟩:=hq
  exact⟨cQ,v,hv w' rfl,v,rfl,hs,hq⟩
 |ret=>
  obtain⟨cQ,v,hv,hq⟩:=hq
  exact⟨cQ,v,hv w' rfl,v,rfl,hs,hq⟩
 |exit id=>exact hq.elim
 |goto l=>exact hq.elim
 |panic ch=>exact hq.elim
 |outgrown=>exact hq.elim
end
end
end Go.H