/-
  Our texts, packed by program.
-/
import Derived.Calls
import Derived.Orders
import Derived.Laws.Sem
import Derived.Laws.World
import Derived.Laws.Entries
import Derived.Laws.Strings
import Derived.Laws.StructEq
import Derived.Laws.BytesString
set_option linter.unusedSimpArgs false
set_option linter.unusedVariables false
set_option maxHeartbeats 16000000
set_option maxRecDepth 100000
namespace Go.H
abbrev B3O:=ByteArray
abbrev C9N:=Option Addr
abbrev C9O:=Array Value
abbrev C9P:=List Value
end Go.H
namespace Go.H
theorem B0.{u}:type_of% @List.getElem?_eq_getElem.{u}:=@List.getElem?_eq_getElem
theorem B3.{u,v}:type_of% @List.mem_map_of_mem.{u,v}:=@List.mem_map_of_mem
theorem B4.{u}:type_of% @List.mem_cons_self.{u}:=@List.mem_cons_self
theorem B5.{u}:type_of% @List.length_append.{u}:=@List.length_append
theorem B6.{u,v}:type_of% @List.map_cons.{u,v}:=@List.map_cons
theorem B7.{u}:type_of% @List.mem_singleton.{u}:=@List.mem_singleton
theorem B8.{u}:type_of% @List.length_cons.{u}:=@List.length_cons
theorem C0.{u,v}:type_of% @List.map_append.{u,v}:=@List.map_append
theorem C1.{u}:type_of% @List.append_nil.{u}:=@List.append_nil
theorem C2.{u,v}:type_of% @List.length_map.{u,v}:=@List.length_map
theorem C3.{u}:type_of% @List.mem_cons_of_mem.{u}:=@List.mem_cons_of_mem
theorem C4:type_of% @Nat.le_trans:=@Nat.le_trans
theorem C7.{u}:type_of% @List.take_succ_eq_append_getElem.{u}:=@List.take_succ_eq_append_getElem
theorem C9.{u}:type_of% @List.mem_append.{u}:=@List.mem_append
theorem D1:type_of% @Nat.zero_le:=@Nat.zero_le
theorem D2.{u}:type_of% @List.append_assoc.{u}:=@List.append_assoc
theorem D3.{u}:type_of% @List.mem_cons.{u}:=@List.mem_cons
theorem D4.{u}:type_of% @List.length_filter_le.{u}:=@List.length_filter_le
theorem D5.{u}:type_of% @List.mem_filter.{u}:=@List.mem_filter
theorem D6.{u}:type_of% @List.take_of_length_le.{u}:=@List.take_of_length_le
theorem D7.{u,v,w}:type_of% @Sum.elim_inl.{u,v,w}:=@Sum.elim_inl
theorem D8.{u,v}:type_of% @List.flatMap_cons.{u,v}:=@List.flatMap_cons
theorem D9:type_of% @Nat.le_refl:=@Nat.le_refl
theorem E0.{u}:type_of% @List.getElem?_eq_some_iff.{u}:=@List.getElem?_eq_some_iff
theorem E1.{u}:type_of% @List.drop_eq_getElem_cons.{u}:=@List.drop_eq_getElem_cons
theorem E3:type_of% @Nat.eq_of_beq_eq_true:=@Nat.eq_of_beq_eq_true
theorem E4.{u,v}:type_of% @List.mem_map.{u,v}:=@List.mem_map
theorem E6.{u}:type_of% @List.length_take.{u}:=@List.length_take
theorem E7.{u}:type_of% @List.find?_eq_none.{u}:=@List.find?_eq_none
theorem E8.{u,v,w}:type_of% @Sum.elim_inr.{u,v,w}:=@Sum.elim_inr
theorem E9.{u}:type_of% @List.mem_of_getElem?.{u}:=@List.mem_of_getElem?
theorem F0:type_of% @Bool.and_eq_true:=@Bool.and_eq_true
theorem F1.{u,v,w}:type_of% @List.map_map.{u,v,w}:=@List.map_map
theorem F2.{u}:type_of% @List.nil_append.{u}:=@List.nil_append
theorem F3.{u}:type_of% @List.filter_append.{u}:=@List.filter_append
theorem F4.{u}:type_of% @Option.some.injEq.{u}:=@Option.some.injEq
theorem F5.{u}:type_of% @Array.getElem?_eq_getElem.{u}:=@Array.getElem?_eq_getElem
theorem F6.{u}:type_of% @List.mem_append_right.{u}:=@List.mem_append_right
theorem F7.{u}:type_of% @Array.getElem?_eq_some_iff.{u}:=@Array.getElem?_eq_some_iff
theorem F8.{u}:type_of% @List.nodup_cons.{u}:=@List.nodup_cons
theorem F9.{u}:type_of% @List.take_length.{u}:=@List.take_length
theorem G0.{u}:type_of% @List.filter_cons_of_neg.{u}:=@List.filter_cons_of_neg
theorem G1.{u}:type_of% @List.nodup_append.{u}:=@List.nodup_append
theorem G2.{u}:type_of% @Array.getD_eq_getD_getElem?.{u}:=@Array.getD_eq_getD_getElem?
theorem G3:type_of% @Bool.true_and:=@Bool.true_and
theorem G4.{u}:type_of% @List.Sublist.refl.{u}:=@List.Sublist.refl
theorem G5.{u}:type_of% @List.cons_append.{u}:=@List.cons_append
theorem G6:type_of% @decide_eq_decide:=@decide_eq_decide
theorem G7.{u}:type_of% @List.mem_of_find?_eq_some.{u}:=@List.mem_of_find?_eq_some
theorem G8.{u}:type_of% @List.filter_cons_of_pos.{u}:=@List.filter_cons_of_pos
theorem G9.{u}:type_of% @List.filter_eq_self.{u}:=@List.filter_eq_self
theorem H0.{u}:type_of% @List.append_of_mem.{u}:=@List.append_of_mem
theorem H2.{u}:type_of% @List.length_nil.{u}:=@List.length_nil
theorem H3.{u}:type_of% @List.getElem_mem.{u}:=@List.getElem_mem
theorem H4.{u}:type_of% @Array.getElem?_setIfInBounds.{u}:=@Array.getElem?_setIfInBounds
theorem H5.{u}:type_of% @beq_eq_false_iff_ne.{u}:=@beq_eq_false_iff_ne
theorem H6.{u}:type_of% @List.filter_cons.{u}:=@List.filter_cons
theorem H7:type_of% @Bool.false_eq_true:=@Bool.false_eq_true
theorem H8.{u}:type_of% @List.take_add_one.{u}:=@List.take_add_one
theorem H9.{u,v}:type_of% @List.flatMap_nil.{u,v}:=@List.flatMap_nil
theorem I0.{u,v}:type_of% @List.map_congr_left.{u,v}:=@List.map_congr_left
theorem I1.{u,v}:type_of% @List.foldl_cons.{u,v}:=@List.foldl_cons
theorem I2.{u}:type_of% @List.filter_sublist.{u}:=@List.filter_sublist
theorem I3.{u}:type_of% @Array.toList_inj.{u}:=@Array.toList_inj
theorem I4.{u,v}:type_of% @List.map_nil.{u,v}:=@List.map_nil
theorem I5.{u}:type_of% @List.pairwise_cons.{u}:=@List.pairwise_cons
theorem I6.{u,v}:type_of% @List.flatMap_append.{u,v}:=@List.flatMap_append
theorem I7.{u}:type_of% @List.mem_append_left.{u}:=@List.mem_append_left
theorem I8.{u}:type_of% @List.pairwise_append.{u}:=@List.pairwise_append
theorem I9.{u}:type_of% @List.getElem?_cons_succ.{u}:=@List.getElem?_cons_succ
theorem J0.{u}:type_of% @List.length_take_le.{u}:=@List.length_take_le
theorem J1.{u}:type_of% @List.all_eq_true.{u}:=@List.all_eq_true
theorem J2.{u,v}:type_of% @List.getElem?_map.{u,v}:=@List.getElem?_map
theorem J3.{u}:type_of% @List.Perm.refl.{u}:=@List.Perm.refl
theorem J4.{u}:type_of% @List.filter_eq_nil_iff.{u}:=@List.filter_eq_nil_iff
theorem J5.{u}:type_of% @List.findIdx?_eq_some_iff_getElem.{u}:=@List.findIdx?_eq_some_iff_getElem
theorem J6:type_of% @Nat.succ_mul:=@Nat.succ_mul
theorem J7.{u}:type_of% @List.take_append_drop.{u}:=@List.take_append_drop
theorem J8:type_of% @Nat.add_mul:=@Nat.add_mul
theorem J9.{u}:type_of% @List.filter_nil.{u}:=@List.filter_nil
theorem K6:type_of% @Bool.false_and:=@Bool.false_and
theorem K7.{u}:type_of% @List.drop_length.{u}:=@List.drop_length
theorem K8:type_of% @Nat.le_add_right:=@Nat.le_add_right
theorem K9.{u}:type_of% @List.length_eq_zero_iff.{u}:=@List.length_eq_zero_iff
theorem L7.{u}:type_of% @List.getElem?_cons_zero.{u}:=@List.getElem?_cons_zero
theorem L8.{u}:type_of% @List.filter_congr.{u}:=@List.filter_congr
theorem L9:type_of% @Nat.zero_add:=@Nat.zero_add
theorem M0.{u}:type_of% @List.getElem?_take.{u}:=@List.getElem?_take
theorem M9.{u}:type_of% @List.drop_of_length_le.{u}:=@List.drop_of_length_le
theorem N0.{u}:type_of% @List.find?_some.{u}:=@List.find?_some
theorem N3:type_of% @Classical.byContradiction:=@Classical.byContradiction
theorem N4.{u}:type_of% @Array.getElem?_push.{u}:=@Array.getElem?_push
theorem N5:type_of% @Nat.one_mul:=@Nat.one_mul
theorem N6.{u}:type_of% @Array.length_toList.{u}:=@Array.length_toList
theorem N7:type_of% @Bool.not_true:=@Bool.not_true
theorem N8.{u}:type_of% @List.getElem?_drop.{u}:=@List.getElem?_drop
theorem N9.{u,v}:type_of% @Option.bind_some.{u,v}:=@Option.bind_some
theorem O0.{u}:type_of% @List.length_filter_eq_length_iff.{u}:=@List.length_filter_eq_length_iff
theorem O1.{u}:type_of% @List.exists_cons_of_ne_nil.{u}:=@List.exists_cons_of_ne_nil
theorem O2:type_of% @Int.toNat_natCast:=@Int.toNat_natCast
theorem O3:type_of% @Bool.not_eq_true':=@Bool.not_eq_true'
theorem O4.{u}:type_of% @List.findIdx?_eq_none_iff.{u}:=@List.findIdx?_eq_none_iff
theorem O6.{u}:type_of% @Array.getElem?_modify.{u}:=@Array.getElem?_modify
theorem O7:type_of% @Nat.add_zero:=@Nat.add_zero
theorem O8:type_of% @Nat.le_of_ble_eq_true:=@Nat.le_of_ble_eq_true
theorem O9.{u}:type_of% @List.length_mergeSort.{u}:=@List.length_mergeSort
theorem P0.{u,v}:type_of% @List.filterMap_cons_some.{u,v}:=@List.filterMap_cons_some
theorem P1.{u}:type_of% @List.drop_append_of_le_length.{u}:=@List.drop_append_of_le_length
theorem P2.{u}:type_of% @List.take_append_of_le_length.{u}:=@List.take_append_of_le_length
theorem P3.{u}:type_of% @List.mem_of_mem_take.{u}:=@List.mem_of_mem_take
theorem P4.{u,v}:type_of% @List.foldl_nil.{u,v}:=@List.foldl_nil
theorem P5.{u}:type_of% @List.find?_append.{u}:=@List.find?_append
theorem P6.{u,v}:type_of% @List.pairwise_map.{u,v}:=@List.pairwise_map
theorem P7.{u}:type_of% @Array.toList_setIfInBounds.{u}:=@Array.toList_setIfInBounds
theorem P8.{u}:type_of% @List.perm_middle.{u}:=@List.perm_middle
theorem P9.{u}:type_of% @beq_iff_eq.{u}:=@beq_iff_eq
theorem Q0.{u}:type_of% @Classical.choose_spec.{u}:=@Classical.choose_spec
theorem Q3:type_of% @Nat.sub_self:=@Nat.sub_self
theorem Q4.{u}:type_of% @List.Perm.append_left.{u}:=@List.Perm.append_left
theorem Q5.{u}:type_of% @List.pairwise_iff_getElem.{u}:=@List.pairwise_iff_getElem
theorem Q6.{u}:type_of% @Array.toArray_toList.{u}:=@Array.toArray_toList
theorem Q7:type_of% @Nat.mul_le_mul_right:=@Nat.mul_le_mul_right
theorem Q8.{u,v,w}:type_of% @Function.comp_def.{u,v,w}:=@Function.comp_def
theorem Q9.{u}:type_of% @List.append_cancel_left.{u}:=@List.append_cancel_left
theorem R0.{u}:type_of% @List.mergeSort_perm.{u}:=@List.mergeSort_perm
theorem R1.{u}:type_of% @List.not_mem_nil.{u}:=@List.not_mem_nil
theorem R2.{u}:type_of% @List.length_drop.{u}:=@List.length_drop
theorem R3.{u,v}:type_of% @List.mem_flatMap.{u,v}:=@List.mem_flatMap
theorem R4:type_of% @List.mem_range:=@List.mem_range
theorem R5.{u}:type_of% @Array.getElem?_eq_none.{u}:=@Array.getElem?_eq_none
theorem R6.{u}:type_of% @List.find?_cons_of_pos.{u}:=@List.find?_cons_of_pos
theorem R7.{u}:type_of% @List.filter_filter.{u}:=@List.filter_filter
theorem R8.{u,v}:type_of% @Option.map_some.{u,v}:=@Option.map_some
theorem R9.{u,v}:type_of% @List.filter_map.{u,v}:=@List.filter_map
theorem S0:type_of% @Nat.le_succ:=@Nat.le_succ
theorem S3:type_of% @Bool.false_or:=@Bool.false_or
theorem S4.{u}:type_of% @List.drop_zero.{u}:=@List.drop_zero
theorem S5:type_of% @UInt8.toNat_lt:=@UInt8.toNat_lt
theorem S6:type_of% @Bool.not_false:=@Bool.not_false
theorem S7:type_of% @Int.le_refl:=@Int.le_refl
theorem S8:type_of% @Nat.lt_or_ge:=@Nat.lt_or_ge
theorem S9:type_of% @Nat.zero_mul:=@Nat.zero_mul
theorem T4:type_of% @Nat.le_of_eq:=@Nat.le_of_eq
theorem T5.{u}:type_of% @List.map_id.{u}:=@List.map_id
end Go.H
namespace Go.H
abbrev Heap:=Array Obj
def W0(h:Heap)(a:Addr):Option Value:=
 match h[a.block]? with
 |some (.cells c _ _)=>if a.spot.isSome then none else c[a.off]?
 |_=>none
def A2j(h:Heap)(a:Addr):Bool:=
 match h[a.block]? with
 |some (.cells _ _ (lo,hi))=>lo≤a.off&&a.off<hi
 |_=>false
def A2t(h:Heap)(a:Addr)(v:Value):Heap:=
 h.modify a.block fun
  |.cells c elem frozen=>.cells (if a.spot.isSome then c else c.setIfInBounds a.off v) elem frozen
  |o=>o
theorem B9g(w:World)(a:Addr):w.cell? a=W0 w.heap a:=rfl
theorem C35(w:World)(a:Addr):w.frozen? a=A2j w.heap a:=rfl
theorem B8l(w:World)(a:Addr)(v:Value):(w.setCell a v).heap=A2t w.heap a v:=rfl
structure y9(w w':World):Prop where
 os:w'.os=w.os
 tape:w'.tape=w.tape
 output:w'.output=w.output
theorem y9.refl(w:World):y9 w w:=⟨rfl,rfl,rfl⟩
theorem y9.trans{a b c:World}(h:y9 a b)(k:y9 b c):y9 a c:=⟨k.os.trans h.os,k.tape.trans h.tape,k.output.trans h.output⟩
def V3(P:Program)(f:FuncId)(args:C9O)(h:Heap)(Q:Value→Heap→Prop):Prop:=
 ∀w,w.heap=h→Calls P f args w fun e w'=>∃v,e=.returned v∧y9 w w'∧Q v w'.heap
theorem V3.mono{P:Program}{f:FuncId}{args:C9O}{h:Heap}{Q Q':Value→Heap→Prop}
  (hc:V3 P f args h Q)(hq:∀v h',Q v h'→Q' v h'):V3 P f args h Q':=
 fun w hw=>(hc w hw).mono fun _ _ ⟨v,he,hs,q⟩=>⟨v,he,hs,hq _ _ q⟩
structure Slc where
 a:C9N
 len:Nat
 cap:Nat
 deriving Inhabited
inductive Tag where
 |int (k:IntKind)|bool|str|ptr|slc|map|any
abbrev Tag.ty:Tag→Type
 |.int _=>Int
 |.bool=>Bool
 |.str=>B3O
 |.ptr=>C9N
 |.slc=>Slc
 |.map=>Option Nat
 |.any=>Value
def Tag.val:(t:Tag)→t.ty→Value
 |.int k,n=>.int k n
 |.bool,b=>.bool b
 |.str,s=>.string s
 |.ptr,p=>.pointer p
 |.slc,s=>.slice s.a s.len s.cap
 |.map,r=>.map r
 |.any,v=>v
def B0x:IntKind→IntKind→Bool
 |.i8,.i8=>true
 |.i16,.i16=>true
 |.i32,.i32=>true
 |.i64,.i64=>true
 |.u8,.u8=>true
 |.u16,.u16=>true
 |.u32,.u32=>true
 |.u64,.u64=>true
 |_,_=>false
theorem A7v{a b:IntKind}(h:B0x a b=true):a=b:=by
 cases a<;>cases b<;>first|rfl|cases h
def Tag.get:(t:Tag)→Value→Option t.ty
 |.int k,.int k' n=>if B0x k k'=true then some n else none
 |.bool,.bool b=>some b
 |.str,.string s=>some s
 |.ptr,.pointer p=>some p
 |.slc,.slice a n c=>some ⟨a,n,c⟩
 |.map,.map r=>some r
 |.any,v=>some v
 |_,_=>none
theorem Tag.bS{t:Tag}{v:Value}{x:t.ty}(h:t.get v=some x):v=t.val x:=by
 cases t<;>cases v<;>simp[Tag.get] at h<;>(try(obtain⟨h1,h2⟩:=h;have:=A7v h1;subst this))<;>simp_all [Tag.val]
 subst h;exact⟨rfl,rfl,rfl⟩
def Tag.of:Value→Option Tag
 |.int k _=>some (.int k)
 |.bool _=>some .bool
 |.string _=>some .str
 |.pointer _=>some .ptr
 |.slice .. =>some .slc
 |.map _=>some .map
 |.agg _=>none
 |.tuple _=>none
 |_=>some .any
abbrev HT{α:Type}(ty:α→Type):List α→Type
 |[]=>Unit
 |t::ts=>ty t×HT ty ts
def HT.cC{α:Type}{ty:α→Type}(val:(t:α)→ty t→Value):(ts:List α)→HT ty ts→C9P
 |[],_=>[]
 |t::ts,x=>val t x.1::HT.cC val ts x.2
def HT.get{α:Type}{ty:α→Type}(get:(t:α)→Value→Option (ty t)):(ts:List α)→C9P→Option (HT ty ts)
 |[],[]=>some ()
 |[],_::_=>none
 |_::_,[]=>none
 |t::ts,v::vs=>match get t v with
  |some x=>match HT.get get ts vs with
   |some y=>some (x,y)
   |none=>none
  |none=>none
theorem HT.bJ{α:Type}{ty:α→Type}{val:(t:α)→ty t→Value}{get:(t:α)→Value→Option (ty t)}(hg:∀t v x,get t v=some x→v=val t x)
  (ts:List α):∀(vs:C9P) (x:HT ty ts),HT.get get ts vs=some x→vs=HT.cC val ts x:=by
 induction ts with
 |nil=>intro vs x h;cases vs with
  |nil=>rfl
  |cons v vs=>cases h
 |cons t ts ih=>intro vs x h;cases vs with
  |nil=>cases h
  |cons v vs=>
   simp only[HT.get] at h
   cases h1:get t v with
   |none=>rw[h1] at h;cases h
   |some y=>
    rw[h1] at h
    simp only at h
    cases h2:HT.get get ts vs with
    |none=>rw[h2] at h;cases h
    |some z=>
     rw[h2] at h
     cases h
     show v::vs=val t y::HT.cC val ts z
     rw[←ih vs z h2,←hg t v y h1]
abbrev Tup(ts:List Tag):Type:=HT Tag.ty ts
abbrev Tup.cC(ts:List Tag)(x:Tup ts):C9P:=HT.cC Tag.val ts x
abbrev Tup.get(ts:List Tag)(vs:C9P):Option (Tup ts):=HT.get Tag.get ts vs
theorem Tup.bJ(ts:List Tag)(vs:C9P)(x:Tup ts)(h:Tup.get ts vs=some x):vs=Tup.cC ts x:=
 HT.bJ (val:=Tag.val) (get:=Tag.get) (fun t _ _ h=>Tag.bS (t:=t) h) ts vs x h
inductive Kind where
 |one (t:Tag)
 |agg (ts:List Tag)
abbrev Kind.ty:Kind→Type
 |.one t=>t.ty
 |.agg ts=>Tup ts
def Kind.val:(k:Kind)→k.ty→Value
 |.one t,x=>t.val x
 |.agg ts,x=>.agg (Tup.cC ts x).toArray
def Kind.get:(k:Kind)→Value→Option k.ty
 |.one t,v=>t.get v
 |.agg ts,.agg cs=>Tup.get ts cs.toList
 |.agg _,_=>none
theorem Kind.bS{k:Kind}{v:Value}{x:k.ty}(h:k.get v=some x):v=k.val x:=by
 cases k with
 |one t=>exact Tag.bS h
 |agg ts=>
  cases v<;>simp only[Kind.get] at h<;>try cases h
  rename_i cs
  simp only[Kind.val]
  rw[←Tup.bJ ts _ x h]
def C4I:C9P→Option (List Tag)
 |[]=>some []
 |v::vs=>match Tag.of v with
  |some t=>match C4I vs with
   |some ts=>some (t::ts)
   |none=>none
  |none=>none
def Kind.of:Value→Option Kind
 |.agg cs=>match C4I cs.toList with
  |some ts=>some (.agg ts)
  |none=>none
 |v=>match Tag.of v with
  |some t=>some (.one t)
  |none=>none
def kindOf(P:Program)(t:TypeId):Option Kind:=
 match P.info? t with
 |some i=>match i.zero with
  |some z=>Kind.of z
  |none=>none
 |none=>none
abbrev q9(ks:List Kind):Type:=HT Kind.ty ks
abbrev q9.cC(ks:List Kind)(x:q9 ks):C9P:=HT.cC Kind.val ks x
abbrev q9.get(ks:List Kind)(vs:C9P):Option (q9 ks):=HT.get Kind.get ks vs
theorem q9.bJ(ks:List Kind)(vs:C9P)(x:q9 ks)(h:q9.get ks vs=some x):vs=q9.cC ks x:=
 HT.bJ (val:=Kind.val) (get:=Kind.get) (fun k _ _ h=>Kind.bS (k:=k) h) ks vs x h
abbrev HM(α:Type):Type:=Heap→(α→Heap→Prop)→Prop
def W9{α:Type}(a:α):HM α:=fun h Q=>Q a h
def HM.bind{α β:Type}(m:HM α)(f:α→HM β):HM β:=fun h Q=>m h fun a h'=>f a h' Q
def U4{α:Type}:HM α:=fun _ _=>False
def A04{α:Type}(b:Bool)(x y:HM α):HM α:=fun h Q=>if b=true then x h Q else y h Q
def A3t{α:Type}(p:Prop)(m:HM α):HM α:=fun h Q=>p∧m h Q
def A0G{α:Type}(x y:HM α):HM α:=fun h Q=>x h Q∧y h Q
def HM.loop{σ τ:Type}(body:σ→HM (σ⊕τ))(s:σ):HM τ:=fun h Q=>
 ∃(I:σ→Heap→Prop) (μ:σ→Heap→Nat),I s h∧∀s h,I s h→
  body s h fun r h'=>match r with
   |.inl s'=>I s' h'∧μ s' h'<μ s h
   |.inr t=>Q t h'
def l6(t:Tag)(a:Addr):HM t.ty:=fun h Q=>∃x,W0 h a=some (t.val x)∧Q x h
def o3(ts:List Tag)(a:Addr):HM (Tup ts):=fun h Q=>
 ∃x,(∀i v,(Tup.cC ts x)[i]? =some v→W0 h (a.add i)=some v)∧Q x h
def A6Z(a:Addr)(v:Value):HM Unit:=fun h Q=>
 (W0 h a).isSome=true∧A2j h a=false∧v.oneCell'=true∧Q () (A2t h a v)
def A2f(h:Heap)(a:Addr):C9P→Nat→Heap
 |[],_=>h
 |v::vs,i=>A2f (A2t h (a.add i) v) a vs (i+1)
def A94(a:Addr)(vs:C9P):HM Unit:=fun h Q=>
 (∀i v,vs[i]? =some v→(W0 h (a.add i)).isSome=true∧A2j h (a.add i)=false∧v.oneCell'=true)∧Q () (A2f h a vs 0)
def HM.new(o:Obj):HM Nat:=fun h Q=>Q h.size (h.push o)
def A77(p:C9N):HM Addr:=fun h Q=>∃a,p=some a∧Q a h
def A3W(a:C9N)(len:Nat)(i:Int)(size:Nat):HM Addr:=fun h Q=>
 ∃x,a=some x∧0≤i∧i<(len:Int)∧Q (x.add (i.toNat*size)) h
def A5f(s:B3O)(i:Int):HM Int:=fun h Q=>
 ∃b,0≤i∧s[i.toNat]? =some b∧Q (b.toNat:Int) h
def A1z(P:Program)(f:FuncId):Prop:=∀args w,(callFunc f args).run P w=.ok (.enter f args) w
def A1s(P:Program)(k:Kind)(f:FuncId)(args:C9O):HM k.ty:=fun h Q=>
 V3 P f args h fun v h'=>∃x,v=k.val x∧Q x h'
def s7(P:Program)(ks:List Kind)(f:FuncId)(args:C9O):HM (q9 ks):=fun h Q=>
 V3 P f args h fun v h'=>∃x,v=.tuple (q9.cC ks x).toArray∧Q x h'
def B77(P:Program)(k:Kind)(v:Value)(args:C9O):HM k.ty:=fun h Q=>
 ∃f first captured,v=.func (.func f) first captured∧A1z P f∧V3 P f (first++args++captured) h fun v h'=>∃x,v=k.val x∧Q x h'
def C3c(P:Program)(ks:List Kind)(v:Value)(args:C9O):HM (q9 ks):=fun h Q=>
 ∃f first captured,v=.func (.func f) first captured∧A1z P f∧V3 P f (first++args++captured) h fun v h'=>∃x,v=.tuple (q9.cC ks x).toArray∧Q x h'
def j9(s:Slc)(lo hi mx:Nat)(size:Nat):Slc:=
 ⟨if mx=lo then s.a else s.a.map (·.add (lo*size)),hi-lo,mx-lo⟩
def A36(x:Option Int)(none:Prop)(m bound:Nat):Prop:=
 match x with
 |some x=>x=(m:Int)∧m≤bound
 |.none=>none
def HM.slice(s:Slc)(lo hi mx:Option Int)(size:Nat):HM Slc:=fun h Q=>
 ∃l hh m:Nat,A36 mx (m=s.cap) m s.cap∧A36 hi (mx=none∧hh=s.len) hh m∧A36 lo (l=0) l hh∧Q (j9 s l hh m size) h
def A4O(s:B3O)(lo hi:Option Int):HM B3O:=fun h Q=>
 ∃l hh:Nat,A36 hi (hh=s.size) hh s.size∧A36 lo (l=0) l hh∧Q (s.extract l hh) h
def A51(h:Heap)(a:C9N)(n:Nat)(vs:C9O):Prop:=
 match a with
 |some x=>vs.size=n∧∀(i:Nat) v,vs[i]? =some v→W0 h (x.add i)=some v
 |none=>vs=#[]
def B76(zero:C9O)(s:Slc):HM Unit:=fun h Q=>
 match s.a with
 |none=>Q () h
 |some a=>if s.len=0 then Q () h else
  (∀(i:Nat) v,(Builtin.zeroCells zero s.len).toList[i]? =some v→(W0 h (a.add i)).isSome=true∧A2j h (a.add i)=false∧v.oneCell'=true)∧
   Q () (A2f h a (Builtin.zeroCells zero s.len).toList 0)
def C7v(r:Option Nat):HM Unit:=fun h Q=>
 match r with
 |none=>Q () h
 |some b=>∃(es:Array MapEntry) (clock:Nat),h[b]? =some (.map es clock)∧Q () (h.setIfInBounds b (.map #[] clock))
def HM.append(elem:TypeId)(size bytes:Nat)(zero:C9O)(s:Slc)(n:Nat)(src:Heap→C9O→Prop):HM Slc:=fun h Q=>
 (s.len+n≤s.cap→∃vs,src h vs∧
  match s.a with
  |some a=>(∀i v,vs[i]? =some v→(W0 h ((a.add (s.len*size)).add i)).isSome=true∧A2j h ((a.add (s.len*size)).add i)=false∧v.oneCell'=true)∧
    Q ⟨s.a,s.len+n,s.cap⟩ (A2f h (a.add (s.len*size)) vs.toList 0)
  |none=>Q ⟨none,s.len+n,s.cap⟩ h)∧
 (s.cap<s.len+n→(s.len+n:Nat)≤9223372036854775807∧Builtin.nextslicecap (s.len+n) s.cap*bytes≤2 ^ 48∧∃old vs,A51 h s.a (s.len*size) old∧src h vs∧
  ∀c,s.len+n≤c→c≤9223372036854775807→Q ⟨some ⟨h.size,0,none⟩,s.len+n,c⟩ (h.push (.cells (old++vs++Builtin.zeroCells zero (c-(s.len+n))) elem)))
def V6(size:Nat)(x:Slc)(h:Heap)(vs:C9O):Prop:=A51 h x.a (x.len*size) vs
def C4N(s:B3O)(_:Heap)(vs:C9O):Prop:=vs=s.data.map fun b=>.int .u8 b.toNat
def HM.makeSlice(elem:TypeId)(bytes:Nat)(zero:C9O)(n c:Int):HM Slc:=fun h Q=>
 0≤n∧n≤c∧c≤9223372036854775807∧(bytes:Int)*c≤2 ^ 48∧
  Q ⟨some ⟨h.size,0,none⟩,n.toNat,c.toNat⟩ (h.push (.cells (Builtin.zeroCells zero c.toNat) elem))
def C7g(d:Slc)(n:Nat)(src:Nat→Heap→C9O→Prop):HM Int:=fun h Q=>
 ∃vs,src (Nat.min n d.len) h vs∧
  match d.a with
  |some a=>(∀i v,vs[i]? =some v→(W0 h (a.add i)).isSome=true∧A2j h (a.add i)=false∧v.oneCell'=true)∧Q ((Nat.min n d.len:Nat):Int) (A2f h a vs.toList 0)
  |none=>Q ((Nat.min n d.len:Nat):Int) h
def A8P(h:Heap)(r:Option Nat)(es:List MapEntry)(clock:Nat):Prop:=
 match r with
 |none=>es=[]∧clock=0
 |some r=>h[r]? =some (.map es.toArray clock)
abbrev A2y:=Value→Value→Option Bool
def A05(sm:A2y)(k:Value):List MapEntry→Nat→Option (Option (Nat×Value))
 |[],_=>some none
 |e::es,i=>match sm k e.key with
  |some true=>some (some (i,e.val))
  |some false=>A05 sm k es (i+1)
  |none=>none
def placeOf(sm:A2y)(k:Value)(es:List MapEntry):Option (Option (Nat×Value)):=A05 sm k es 0
theorem B3E(kd:TypeDesc)(k:Value):∀(es:List MapEntry) (i:Nat),A05 (Instr.sameNow kd) k es i=Instr.findNow kd k es i
 |[],_=>rfl
 |e::es,i=>by
  simp only[A05,Instr.findNow]
  rw[B3E kd k es (i+1)]
  cases Instr.sameNow kd k e.key with
  |none=>rfl
  |some b=>cases b<;>rfl
def HM.lookup(kd:A2y)(zero:Value)(k:Kind)(r:Option Nat)(key:Value):HM (k.ty×Bool):=fun h Q=>
 ∃es clock o x,A8P h r es clock∧placeOf kd key es=some o∧
  (match o with|some (_,v)=>v=k.val x|none=>zero=k.val x)∧Q (x,o.isSome) h
def A2Z(kd:A2y)(r:Option Nat)(key val:Value):HM Unit:=fun h Q=>
 ∃b es clock o,r=some b∧h[b]? =some (.map es clock)∧placeOf kd key es.toList=some o∧
  match o with
  |some (i,_)=>((es[i]?).map (·.key)).getD key=key∧Instr.sameBits 10000 key key=true∧Q () (h.setIfInBounds b (.map (es.modify i fun e=>{e with key:=key,val:=val}) clock))
  |none=>Q () (h.setIfInBounds b (.map (es.push {key:=key,val:=val,born:=clock}) (clock+1)))
def HM.mapEntry(kd:A2y)(zero:Value)(k:Kind)(r:Option Nat)(key:Value):HM (k.ty×Int):=fun h Q=>
 ∃b es clock o,r=some b∧h[b]? =some (.map es clock)∧placeOf kd key es.toList=some o∧
  match o with
  |some (i,v)=>((es[i]?).map (·.key)).getD key=key∧Instr.sameBits 10000 key key=true∧
    ∃x,v=k.val x∧Q (x,(((es[i]?).map (·.born)).getD 0:Nat)) (h.setIfInBounds b (.map (es.modify i fun e=>{e with key:=key}) clock))
  |none=>∃x,zero=k.val x∧Q (x,(clock:Int)) (h.setIfInBounds b (.map (es.push {key:=key,val:=zero,born:=clock}) (clock+1)))
def HM.entryStore(r:Option Nat)(stamp:Int)(val:Value):HM Unit:=fun h Q=>
 ∃b es clock i,r=some b∧h[b]? =some (.map es clock)∧es.findIdx? (fun e=>(e.born:Int)==stamp)=some i∧
  Q () (h.setIfInBounds b (.map (es.modify i fun e=>{e with val:=val}) clock))
def A5V(kd:A2y)(r:Option Nat)(key:Value):HM Unit:=fun h Q=>
 match r with
 |none=>Q () h
 |some b=>∃es clock o,h[b]? =some (.map es clock)∧placeOf kd key es.toList=some o∧
  match o with
  |some (i,_)=>Q () (h.setIfInBounds b (.map (es.eraseIdxIfInBounds i) clock))
  |none=>Q () (h.setIfInBounds b (.map es clock))
def A80(r:Option Nat):HM Nat:=fun h Q=>
 match r with
 |none=>Q h.size (h.push (.mapIter none 0 #[] 0))
 |some m=>∃es clock,h[m]? =some (.map es clock)∧Q h.size (h.push (.mapIter (some m) clock #[] clock))
def A6Y(b:Nat):HM (Option (Value×Value)):=fun h Q=>
 ∃m since seen last,h[b]? =some (.mapIter m since seen last)∧
  match m with
  |none=>Q none h
  |some m=>∃es clock,h[m]? =some (.map es clock)∧(!seen.isEmpty && !es.isEmpty &&es.all (fun e=>e.born≥last))=false∧
    ((∀e∈es,seen.contains e.born=false→since≤e.born)→Q none h)∧
    ∀e∈es,seen.contains e.born=false→Q (some (e.key,e.val)) (h.setIfInBounds b (.mapIter (some m) since (seen.push e.born) clock))
def A3C(kk kv:Kind)(b:Nat):HM (kk.ty×kv.ty):=fun h Q=>
 ∃m since seen stepped es stamp e k v,h[b]? =some (.mapIter (some m) since seen stepped)∧seen.back?=some stamp∧h[m]? =some (.map es stepped)∧
  es.find? (fun e=>e.born==stamp)=some e∧e.key=kk.val k∧e.val=kv.val v∧Q (k,v) h
def C7u(b:Nat):HM (Option (Int×Int)):=fun h Q=>
 ∃s pos,h[b]? =some (.stringIter s pos)∧
  (pos<s.size→Q (some ((pos:Int),((Utf8.decode s pos).1:Int))) (h.setIfInBounds b (.stringIter s (pos+(Utf8.decode s pos).2))))∧
  (¬pos<s.size→Q none h)
def A2r{α β:Type}(o:Option α)(a:HM β)(f:α→HM β):HM β:=fun h Q=>
 match o with
 |none=>a h Q
 |some x=>f x h Q
def C0F(ns:List Int):B3O:=ns.foldl (fun r n=>r.push (UInt8.ofNat n.toNat)) ByteArray.empty
def C0V(s:Slc):HM B3O:=fun h Q=>∃ns:List Int,A51 h s.a s.len (ns.map (Value.int .u8)).toArray∧Q (C0F ns) h
def A5W(r:Option Nat):HM Int:=fun h Q=>∃es clock,A8P h r es clock∧Q (es.length:Int) h
section
abbrev Env:=List (Nat×Value)
def Env.get:Env→Nat→Option Value
 |[],_=>none
 |(t,v)::e,n=>match Nat.beq t n with
  |true=>some v
  |false=>Env.get e n
def A5j:Nat→List Nat→Bool
 |_,[]=>false
 |n,t::ts=>match Nat.beq t n with
  |true=>true
  |false=>A5j n ts
def Env.forget(ts:List Nat):Env→Env
 |[]=>[]
 |(t,v)::e=>match A5j t ts with
  |true=>Env.forget ts e
  |false=>(t,v)::Env.forget ts e
def Env.put(e:Env)(dst:Option Tmp)(v:Value):Env:=
 match dst with
 |some d=>(d,v)::e
 |none=>e
def Env.ev(e:Env):Operand→Option Value
 |.tmp t=>e.get t
 |.const v=>some v
 |.global g=>some (.pointer (some ⟨g,0,none⟩))
 |.func f=>some (.func (.func f) #[] #[])
def Env.eP(e:Env):List Operand→Option (C9P)
 |[]=>some []
 |x::xs=>match e.ev x with
  |some v=>match Env.eP e xs with
   |some vs=>some (v::vs)
   |none=>none
  |none=>none
def B6v(op:BinOp)(k:IntKind)(x y:Int):Int:=
 let a:=BitVec.ofInt k.bits x
 let b:=BitVec.ofInt k.bits y
 match op with
 |.and=>k.wrap (a&&& b).toNat
 |.or=>k.wrap (a|||b).toNat
 |.xor=>k.wrap (a ^^^ b).toNat
 |_=>k.wrap (a&&& ~~~b).toNat
def B8P:Value→Bool
 |.nilIface=>true
 |_=>false
def isIface:Value→Bool
 |.nilIface=>true
 |.iface _ _=>true
 |_=>false
def B8Q:Value→Bool
 |.nilFunc=>true
 |_=>false
def A7t:Value→Bool
 |.nilFunc=>true
 |.func _ _ _=>true
 |_=>false
section
variable {ρ:Type}
def A6Q(neg:Bool)(r:Bool):Bool:=
 match neg with
 |true=> !r
 |false=>r
def C18(op:BinOp)(kx ky:IntKind)(a b:Int)(k:Value→HM ρ):HM ρ:=
 match op with
 |.shl=>A3t (0≤b) (k (.int kx (kx.wrap (a*2 ^ (min b.toNat kx.bits)))))
 |.shr=>A3t (0≤b) (k (.int kx (a.fdiv (2 ^ (min b.toNat kx.bits)))))
 |op=>match B0x kx ky with
  |false=>U4
  |true=>match op with
   |.add=>k (.int kx (kx.wrap (a+b)))
   |.sub=>k (.int kx (kx.wrap (a-b)))
   |.mul=>k (.int kx (kx.wrap (a*b)))
   |.quo=>A3t (b≠0) (k (.int kx (kx.wrap (a.tdiv b))))
   |.rem=>A3t (b≠0) (k (.int kx (a.tmod b)))
   |.and=>k (.int kx (B6v .and kx a b))
   |.or=>k (.int kx (B6v .or kx a b))
   |.xor=>k (.int kx (B6v .xor kx a b))
   |.andNot=>k (.int kx (B6v .andNot kx a b))
   |.lss=>k (.bool (decide (a<b)))
   |.leq=>k (.bool (decide (a≤b)))
   |.gtr=>k (.bool (decide (b<a)))
   |.geq=>k (.bool (decide (b≤a)))
   |_=>U4
def C14(op:BinOp)(a b:B3O)(k:Value→HM ρ):HM ρ:=
 match op with
 |.add=>A3t (a.size+b.size≤9223372036854775807) (k (.string (a++b)))
 |.lss=>k (.bool (Op.bytesLess a.toList b.toList))
 |.leq=>k (.bool (Op.bytesLess a.toList b.toList||a.toList==b.toList))
 |.gtr=>k (.bool !(Op.bytesLess a.toList b.toList||a.toList==b.toList))
 |.geq=>k (.bool !(Op.bytesLess a.toList b.toList))
 |_=>U4
def B0w:TypeDesc→Bool
 |.struct _=>true
 |.array _ _=>true
 |_=>false
def A4n(P:Program)(t:TypeId)(cs:C9P)(off:Nat):Option Value:=
 match P.underlying t with
 |some d=>match B0w d with
  |true=>some (.agg ((cs.drop off).take (P.cellsOf t)).toArray)
  |false=>cs[off]?
 |none=>none
def B4p(P:Program)(rec:TypeId→Value→Value→Option Bool)(xs ys:C9P):List Field→Option Bool
 |[]=>some true
 |f::fs=>match decide (f.name= "_") with
  |true=>none
  |false=>match A4n P f.type xs f.offset with
   |none=>none
   |some a=>match A4n P f.type ys f.offset with
    |none=>none
    |some b=>match rec f.type a b with
     |none=>none
     |some r=>match B4p P rec xs ys fs with
      |none=>none
      |some r'=>some (r&&r')
def B5T(P:Program):Nat→TypeId→Value→Value→Option Bool
 |0,_,_,_=>none
 |d+1,t,x,y=>match P.underlying t with
  |some (.int _)=>match x,y with
   |.int k a,.int k' b=>match B0x k k' with
    |true=>some (a==b)
    |false=>none
   |_,_=>none
  |some .bool=>match x,y with
   |.bool a,.bool b=>some (a==b)
   |_,_=>none
  |some .string=>match x,y with
   |.string a,.string b=>some (decide (a=b))
   |_,_=>none
  |some (.struct fs)=>match P.stoodInHeld t with
   |true=>none
   |false=>match x,y with
    |.agg xs,.agg ys=>B4p P (B5T P d) xs.toList ys.toList fs.toList
    |_,_=>none
  |_=>none
def A5P(P:Program)(neg:Bool)(t:TypeId)(yo:Operand)(x y:Value)(k:Value→HM ρ):HM ρ:=
 match P.underlying t with
 |some (.pointer _)=>match yo with
  |.const (.pointer none)=>match x with
   |.pointer p=>k (.bool (A6Q neg p.isNone))
   |_=>U4
  |_=>U4
 |some (.slice _)=>match yo with
  |.const (.slice none _ _)=>match x with
   |.slice p _ _=>k (.bool (A6Q neg p.isNone))
   |_=>U4
  |_=>U4
 |some (.map _ _)=>match yo with
  |.const (.map none)=>match x with
   |.map p=>k (.bool (A6Q neg p.isNone))
   |_=>U4
  |_=>U4
 |some (.interface _)=>match yo with
  |.const .nilIface=>A3t (isIface x=true) (k (.bool (A6Q neg (B8P x))))
  |_=>U4
 |some (.func _ _ _)=>match yo with
  |.const .nilFunc=>A3t (A7t x=true) (k (.bool (A6Q neg (B8Q x))))
  |_=>U4
 |some (.int _)=>match x,y with
  |.int kx a,.int ky b=>match B0x kx ky with
   |true=>k (.bool (A6Q neg (a==b)))
   |false=>U4
  |_,_=>U4
 |some .bool=>match x,y with
  |.bool a,.bool b=>k (.bool (A6Q neg (a==b)))
  |_,_=>U4
 |some .string=>match x,y with
  |.string a,.string b=>k (.bool (A6Q neg (decide (a=b))))
  |_,_=>U4
 |some (.struct _)=>match x with
  |.agg _=>match B5T P 8 t x y with
   |some r=>k (.bool (A6Q neg r))
   |none=>U4
  |_=>U4
 |_=>U4
def C2a(P:Program)(op:BinOp)(t:TypeId)(yo:Operand)(x y:Value)(k:Value→HM ρ):HM ρ:=
 match op with
 |.eql=>A5P P false t yo x y k
 |.neq=>A5P P true t yo x y k
 |op=>match x,y with
  |.int kx a,.int ky b=>C18 op kx ky a b k
  |.string a,.string b=>C14 op a b k
  |_,_=>U4
def C5Q(op:UnOp)(x:Value)(k:Value→HM ρ):HM ρ:=
 match op,x with
 |.not,.bool b=>k (.bool !b)
 |.neg,.int kd n=>k (.int kd (kd.wrap (0-n)))
 |.xor,.int kd n=>k (.int kd (B6v .xor kd (if kd.signed then -1 else kd.max) n))
 |_,_=>U4
def B4E(P:Program)(t:TypeId)(x:Value)(k:Value→HM ρ):HM ρ:=
 match x with
 |.pointer (some a)=>match P.underlying t with
  |some d=>match B0w d with
   |true=>match kindOf P t with
    |some (.agg ts)=>match Nat.beq ts.length (P.cellsOf t) with
     |true=>(o3 ts a).bind fun vs=>k (.agg (Tup.cC ts vs).toArray)
     |false=>U4
    |_=>U4
   |false=>match kindOf P t with
    |some (.one tg)=>(l6 tg a).bind fun v=>k (tg.val v)
    |_=>U4
  |none=>U4
 |_=>U4
def A2A(kd:Kind)(v:Value):Option (C9P):=
 match kd with
 |.one _=>some [v]
 |.agg ts=>match v with
  |.agg cs=>match Nat.beq cs.toList.length ts.length with
   |true=>some cs.toList
   |false=>none
  |_=>none
def Tag.isAny:Tag→Bool
 |.any=>true
 |_=>false
def B8v(kd:Kind)(v:Value)(m:HM ρ):HM ρ:=
 match kd with
 |.one tg=>match tg.isAny with
  |true=>A3t (v.oneCell'=true) m
  |false=>match tg.get v with
   |some _=>m
   |none=>U4
 |.agg _=>m
def B54(P:Program)(t:TypeId)(x v:Value)(k:Value→HM ρ):HM ρ:=
 match x with
 |.pointer (some a)=>match kindOf P t with
  |some kd=>match A2A kd v with
   |some cs=>match Nat.beq cs.length (P.cellsOf t) with
    |true=>match kd with
     |.one _=>(A6Z a v).bind fun _=>k undef
     |.agg _=>(A94 a cs).bind fun _=>k undef
    |false=>U4
   |none=>U4
  |none=>U4
 |_=>U4
def C19(P:Program)(t:TypeId)(v:Value)(k:Value→HM ρ):HM ρ:=
 match kindOf P t with
 |some kd=>match A2A kd v with
  |some cs=>B8v kd v ((HM.new (.cells cs.toArray t)).bind fun r=>k (.pointer (some ⟨r,0,none⟩)))
  |none=>U4
 |none=>U4
def B6n(P:Program)(t:TypeId)(k:Value→HM ρ):HM ρ:=
 match P.info? t with
 |some i=>match i.zero with
  |some z=>(HM.new (.cells z.cells t)).bind fun r=>k (.pointer (some ⟨r,0,none⟩))
  |none=>U4
 |none=>U4
def A3h:C9P→Nat→C9P→C9P
 |cs,_,[]=>cs
 |[],_,_::_=>[]
 |_::cs,0,v::vs=>v::A3h cs 0 vs
 |c::cs,n+1,v::vs=>c::A3h cs n (v::vs)
def A57(place:Nat→Option (Nat×Kind)):C9P→List (Nat×Value)→Option (C9P)
 |cs,[]=>some cs
 |cs,(i,v)::rest=>match place i with
  |some (off,kd)=>match A2A kd v with
   |some vs=>match Nat.ble (off+vs.length) cs.length with
    |true=>A57 place (A3h cs off vs) rest
    |false=>none
   |none=>none
  |none=>none
def A6z(place:Nat→Option (Nat×Kind))(ps:List (Nat×Value))(m:HM ρ):HM ρ:=
 match ps with
 |[]=>m
 |(i,v)::rest=>match place i with
  |some (_,kd)=>B8v kd v (A6z place rest m)
  |none=>U4
def A5M(e:Env):List (Nat×Operand)→Option (List (Nat×Value))
 |[]=>some []
 |(i,x)::xs=>match e.ev x with
  |some v=>match A5M e xs with
   |some vs=>some ((i,v)::vs)
   |none=>none
  |none=>none
def A4e(P:Program)(fields:Array Field)(i:Nat):Option (Nat×Kind):=
 match fields.toList[i]? with
 |some f=>match kindOf P f.type with
  |some kd=>match kd with
   |.one tg=>match Nat.beq (P.cellsOf f.type) 1 with
    |true=>some (f.offset,.one tg)
    |false=>none
   |.agg ts=>match Nat.beq (P.cellsOf f.type) ts.length with
    |true=>some (f.offset,.agg ts)
    |false=>none
  |none=>none
 |none=>none
def A2b(P:Program)(elem:TypeId)(i:Nat):Option (Nat×Kind):=
 match kindOf P elem with
 |some kd=>match kd with
  |.one tg=>match Nat.beq (P.cellsOf elem) 1 with
   |true=>some (i,.one tg)
   |false=>none
  |.agg ts=>match Nat.beq (P.cellsOf elem) ts.length with
   |true=>some (i*ts.length,.agg ts)
   |false=>none
 |none=>none
def B17(P:Program):List Field→Bool
 |[]=>true
 |f::r=>match P.info? f.type with
  |some _=>B17 P r
  |none=>false
def B6l(P:Program)(t:TypeId)(ps:List (Nat×Value))(k:Value→HM ρ):HM ρ:=
 match P.underlying t with
 |some (.struct fields)=>match B17 P fields.toList with
  |true=>match P.info? t with
   |some i=>match i.zero with
    |some z=>match A57 (A4e P fields) z.cells.toList ps with
     |some cs=>A6z (A4e P fields) ps (k (.agg cs.toArray))
     |none=>U4
    |none=>U4
   |none=>U4
  |false=>U4
 |some (.array _ elem)=>match P.info? t with
  |some i=>match i.zero with
   |some z=>match P.info? elem with
    |some _=>match A57 (A2b P elem) z.cells.toList ps with
     |some cs=>A6z (A2b P elem) ps (k (.agg cs.toArray))
     |none=>U4
    |none=>U4
   |none=>U4
  |none=>U4
 |_=>U4
def C1h(z:C9P):Nat→C9P
 |0=>[]
 |n+1=>z++C1h z n
def A6a(P:Program)(t:TypeId)(len:Nat)(ps:List (Nat×Value))(k:Value→HM ρ):HM ρ:=
 match P.underlying t with
 |some (.slice elem)=>match P.info? elem with
  |some i=>match i.zero with
   |some z=>match Nat.beq z.cells.toList.length i.size with
    |true=>match Nat.ble (len*i.size) 16777216 with
     |true=>match Nat.ble 1 i.size with
      |true=>match A57 (A2b P elem) (C1h z.cells.toList len) ps with
       |some cs=>A6z (A2b P elem) ps ((HM.new (.cells cs.toArray elem)).bind fun r=>k (.slice (some ⟨r,0,none⟩) len len))
       |none=>U4
      |false=>U4
     |false=>U4
    |false=>U4
   |none=>U4
  |none=>U4
 |_=>U4
def A7H(P:Program)(s:TypeId)(x:Value)(f:Nat)(k:Value→HM ρ):HM ρ:=
 match x with
 |.pointer (some a)=>match P.underlying s with
  |some (.struct fields)=>match fields.toList[f]? with
   |some fd=>match Nat.ble 1 (P.cellsOf fd.type) with
    |true=>k (.pointer (some (a.add fd.offset)))
    |false=>U4
   |none=>U4
  |_=>U4
 |_=>U4
def B6d(P:Program)(t:TypeId)(x:Value)(f:Nat)(k:Value→HM ρ):HM ρ:=
 match x with
 |.agg cs=>match P.underlying t with
  |some (.struct fields)=>match fields.toList[f]? with
   |some fd=>match A4n P fd.type cs.toList fd.offset with
    |some v=>k v
    |none=>U4
   |none=>U4
  |_=>U4
 |_=>U4
def A7G(P:Program)(t:TypeId)(x i:Value)(k:Value→HM ρ):HM ρ:=
 match i with
 |.int _ n=>match P.underlying t with
  |some (.slice elem)=>match x with
   |.slice a len _=>match P.info? elem with
    |some inf=>(A3W a len n inf.size).bind fun ad=>k (.pointer (some ad))
    |none=>U4
   |_=>U4
  |some (.array len elem)=>match x with
   |.pointer (some a)=>match P.info? elem with
    |some inf=>(A3W (some a) len n inf.size).bind fun ad=>k (.pointer (some ad))
    |none=>U4
   |_=>U4
  |_=>U4
 |_=>U4
def B6b(P:Program)(t:TypeId)(x i:Value)(k:Value→HM ρ):HM ρ:=
 match i with
 |.int _ n=>match P.underlying t with
  |some .string=>match x with
   |.string s=>(A5f s n).bind fun b=>k (.int .u8 b)
   |_=>U4
  |_=>U4
 |_=>U4
def A7h(e:Env):Option Operand→Option (Option Int)
 |none=>some none
 |some x=>match e.ev x with
  |some (.int _ n)=>some (some n)
  |_=>none
def B56(P:Program)(t:TypeId)(x:Value)(lo hi mx:Option Int)(k:Value→HM ρ):HM ρ:=
 match P.underlying t with
 |some .string=>match x with
  |.string s=>match mx with
   |none=>(A4O s lo hi).bind fun r=>k (.string r)
   |some _=>U4
  |_=>U4
 |some (.slice elem)=>match x with
  |.slice a n c=>match P.info? elem with
   |some inf=>(HM.slice ⟨a,n,c⟩ lo hi mx inf.size).bind fun s=>k (.slice s.a s.len s.cap)
   |none=>U4
  |_=>U4
 |_=>U4
def plainKey:TypeDesc→Bool
 |.int _=>true
 |.string=>true
 |.bool=>true
 |_=>false
def A5J(P:Program)(kt:TypeId)(kd:TypeDesc):A2y:=
 match kd with
 |.struct _=>B5T P 8 kt
 |d=>Instr.sameNow d
def B2O(P:Program)(kt:TypeId)(kd:TypeDesc)(key:Value)(m:HM ρ):HM ρ:=
 match plainKey kd with
 |true=>m
 |false=>match kd with
  |.struct _=>A3t (B5T P 8 kt key key=some true) m
  |_=>U4
def B22(P:Program)(t:TypeId)(x key:Value)(ok:Bool)(k:Value→HM ρ):HM ρ:=
 match P.underlying t with
 |some (.map kt et)=>match P.underlying kt with
  |some kd=>B2O P kt kd key (match x with
   |.map r=>match P.info? et with
    |some i=>match i.zero with
     |some z=>match Kind.of z with
      |some ek=>(HM.lookup (A5J P kt kd) z ek r key).bind fun p=>match ok with
       |true=>k (.tuple #[ek.val p.1,.bool p.2])
       |false=>k (ek.val p.1)
      |none=>U4
     |none=>U4
    |none=>U4
   |_=>U4)
  |none=>U4
 |_=>U4
def A9l(P:Program)(t:TypeId)(x key v:Value)(k:Value→HM ρ):HM ρ:=
 match P.underlying t with
 |some (.map kt _)=>match P.underlying kt with
  |some kd=>B2O P kt kd key (match x with
   |.map r=>(A2Z (A5J P kt kd) r key v).bind fun _=>k undef
   |_=>U4)
  |none=>U4
 |_=>U4
def A8S(P:Program)(t:TypeId)(x key:Value)(k:Value→HM ρ):HM ρ:=
 match P.underlying t with
 |some (.map kt et)=>match P.underlying kt with
  |some kd=>B2O P kt kd key (match x with
   |.map r=>match P.info? et with
    |some i=>match i.zero with
     |some z=>match Kind.of z with
      |some ek=>(HM.mapEntry (A5J P kt kd) z ek r key).bind fun p=>k (.tuple #[ek.val p.1,.int .i64 p.2])
      |none=>U4
     |none=>U4
    |none=>U4
   |_=>U4)
  |none=>U4
 |_=>U4
def A59(x stamp v:Value)(k:Value→HM ρ):HM ρ:=
 match x with
 |.map r=>match stamp with
  |.int _ n=>(HM.entryStore r n v).bind fun _=>k undef
  |_=>U4
 |_=>U4
def B25(P:Program)(ts:List TypeId)(vs:C9P)(k:Value→HM ρ):HM ρ:=
 match ts,vs with
 |[t,u],[s,x]=>match P.underlying t with
  |some (.slice elem)=>match s with
   |.slice a n c=>match P.info? elem with
    |some i=>match i.zero with
     |some z=>match P.underlying u with
      |some (.slice _)=>match x with
       |.slice b m d=>(HM.append elem i.size i.bytes z.cells ⟨a,n,c⟩ m (V6 i.size ⟨b,m,d⟩)).bind fun s=>k (.slice s.a s.len s.cap)
       |_=>U4
      |some .string=>match x with
       |.string b=>(HM.append elem i.size i.bytes z.cells ⟨a,n,c⟩ b.size (C4N b)).bind fun s=>k (.slice s.a s.len s.cap)
       |_=>U4
      |_=>U4
     |none=>U4
    |none=>U4
   |_=>U4
  |_=>U4
 |_,_=>U4
def C17(P:Program)(ts:List TypeId)(vs:C9P)(k:Value→HM ρ):HM ρ:=
 match ts,vs with
 |[t],[x]=>match P.underlying t with
  |some .string=>match x with
   |.string s=>k (.int .i64 (s.size:Int))
   |_=>U4
  |some (.slice _)=>match x with
   |.slice _ n _=>k (.int .i64 (n:Int))
   |_=>U4
  |some (.array n _)=>k (.int .i64 (n:Int))
  |some (.map _ _)=>match x with
   |.map r=>(A5W r).bind fun n=>k (.int .i64 n)
   |_=>U4
  |_=>U4
 |_,_=>U4
def A9k(max:Bool)(vs:C9P)(k:Value→HM ρ):HM ρ:=
 match vs with
 |[.int ka a,.int kb b]=>match B0x ka kb with
  |true=>match max with
   |true=>k (.int ka (if a<b then b else a))
   |false=>k (.int ka (if b<a then b else a))
  |false=>U4
 |[.int ka a,.int kb b,.int kc c]=>match B0x ka kb&&B0x ka kc with
  |true=>match max with
   |true=>k (.int ka (if(if a<b then b else a)<c then c else(if a<b then b else a)))
   |false=>k (.int ka (if c<(if b<a then b else a) then c else(if b<a then b else a)))
  |false=>U4
 |_=>U4
def B23(P:Program)(ts:List TypeId)(vs:C9P)(k:Value→HM ρ):HM ρ:=
 match ts,vs with
 |t::_,[x,key]=>match P.underlying t with
  |some (.map kt _)=>match P.underlying kt with
   |some kd=>B2O P kt kd key (match x with
    |.map r=>(A5V (A5J P kt kd) r key).bind fun _=>k (.tuple #[])
    |_=>U4)
   |none=>U4
  |_=>U4
 |_,_=>U4
def B6h(P:Program)(ts:List TypeId)(vs:C9P)(k:Value→HM ρ):HM ρ:=
 match ts,vs with
 |[t],[x]=>match P.underlying t with
  |some (.slice elem)=>match x with
   |.slice a n c=>match P.info? elem with
    |some i=>match i.zero with
     |some z=>(B76 z.cells ⟨a,n,c⟩).bind fun _=>k (.tuple #[])
     |none=>U4
    |none=>U4
   |_=>U4
  |some (.map _ _)=>match x with
   |.map r=>(C7v r).bind fun _=>k (.tuple #[])
   |_=>U4
  |_=>U4
 |_,_=>U4
def B0G(P:Program)(b:Builtin)(ts:List TypeId)(vs:C9P)(k:Value→HM ρ):HM ρ:=
 match b with
 |.len=>C17 P ts vs k
 |.append=>B25 P ts vs k
 |.min=>A9k false vs k
 |.max=>A9k true vs k
 |.delete=>B23 P ts vs k
 |.clear=>B6h P ts vs k
 |_=>U4
inductive Ret where
 |one (k:Kind)
 |many (ks:List Kind)
def C2V(P:Program):List TypeId→Option (List Kind)
 |[]=>some []
 |t::ts=>match kindOf P t with
  |some k=>match C2V P ts with
   |some ks=>some (k::ks)
   |none=>none
  |none=>none
def C2G(P:Program)(t:TypeId):Option Ret:=
 match P.underlying t with
 |some (.tuple es)=>match C2V P es.toList with
  |some ks=>some (.many ks)
  |none=>none
 |some _=>match kindOf P t with
  |some k=>some (.one k)
  |none=>none
 |none=>none
def B89(P:Program)(C:List Nat)(t:TypeId)(f:Value)(vs:C9P)(k:Value→HM ρ):HM ρ:=
 match f with
 |.func (.func f) first captured=>match A5j f C with
  |true=>match C2G P t with
   |some (.one kd)=>(A1s P kd f (first.toList++(vs++captured.toList)).toArray).bind fun r=>k (kd.val r)
   |some (.many ks)=>(s7 P ks f (first.toList++(vs++captured.toList)).toArray).bind fun r=>k (.tuple (q9.cC ks r).toArray)
   |none=>U4
  |false=>U4
 |_=>U4
def B6i(P:Program)(t:TypeId)(f:Value)(vs:C9P)(k:Value→HM ρ):HM ρ:=
 match C2G P t with
 |some (.one kd)=>(B77 P kd f vs.toArray).bind fun r=>k (kd.val r)
 |some (.many ks)=>(C3c P ks f vs.toArray).bind fun r=>k (.tuple (q9.cC ks r).toArray)
 |none=>U4
def A2H(P:Program)(src dst:TypeId)(x:Value)(k:Value→HM ρ):HM ρ:=
 match P.underlying src with
 |none=>U4
 |some _=>match P.underlying dst with
  |some (.int kd)=>match x with
   |.int _ n=>k (.int kd (kd.wrap n))
   |_=>U4
  |some .string=>match x with
   |.string s=>k (.string s)
   |.slice a n c=>match P.underlying src with
    |some (.slice e)=>match P.underlying e with
     |some (.int .u8)=>(C0V ⟨a,n,c⟩).bind fun s=>k (.string s)
     |_=>U4
    |_=>U4
   |_=>U4
  |_=>U4
def B58(P:Program)(t:TypeId)(x:Value)(k:Value→HM ρ):HM ρ:=
 match P.underlying t with
 |some .string=>match x with
  |.string s=>(HM.new (.stringIter s 0)).bind fun b=>k (.pointer (some ⟨b,0,none⟩))
  |_=>U4
 |some (.map _ _)=>match x with
  |.map r=>(A80 r).bind fun b=>k (.pointer (some ⟨b,0,none⟩))
  |_=>U4
 |_=>U4
def B86(str:Bool)(x:Value)(k:Value→HM ρ):HM ρ:=
 match x with
 |.pointer (some a)=>match Nat.beq a.off 0 with
  |false=>U4
  |true=>match str with
   |true=>(C7u a.block).bind fun o=>A2r o (k (.tuple #[.bool false])) fun p=>k (.tuple #[.bool true,.int .i64 p.1,.int .i32 p.2])
   |false=>(A6Y a.block).bind fun o=>A2r o (k (.tuple #[.bool false])) fun p=>k (.tuple #[.bool true,p.1,p.2])
 |_=>U4
def B3V(x:Value)(k:Value→HM ρ):HM ρ:=
 match x with
 |.pointer p=>(A77 p).bind fun a=>k (.pointer (some a))
 |.func (.func f) first captured=>k (.func (.func f) first captured)
 |_=>U4
def A7F(P:Program)(t:TypeId)(n c:Value)(k:Value→HM ρ):HM ρ:=
 match P.underlying t with
 |some (.slice elem)=>match P.info? elem with
  |some i=>match i.zero with
   |some z=>match Nat.beq z.cells.toList.length i.size with
    |true=>match n,c with
     |.int _ a,.int _ b=>(HM.makeSlice elem i.bytes z.cells a b).bind fun s=>k (.slice s.a s.len s.cap)
     |_,_=>U4
    |false=>U4
   |none=>U4
  |none=>U4
 |_=>U4
abbrev Dec:=List (Nat×Bool)
def Dec.get:Dec→Nat→Option Bool
 |[],_=>none
 |(t,b)::d,n=>match Nat.beq t n with
  |true=>some b
  |false=>Dec.get d n
def B85(e:Env)(d:Dec)(c a b:Operand)(k:Value→HM ρ):HM ρ:=
 match c with
 |.tmp t=>match d.get t with
  |some true=>match e.ev a with
   |some v=>k v
   |none=>U4
  |some false=>match e.ev b with
   |some v=>k v
   |none=>U4
  |none=>match e.ev c,e.ev a,e.ev b with
   |some (.bool x),some (.bool y),some (.bool z)=>k (.bool (if x=true then y else z))
   |_,_,_=>U4
 |_=>U4
def C0z(P:Program)(C:List Nat)(e:Env)(d:Dec)(o:Oper)(k:Value→HM ρ):HM ρ:=
 match o.op with
 |.move x=>match e.ev x with
  |some v=>k v
  |none=>U4
 |.assign x=>match e.ev x with
  |some v=>k v
  |none=>U4
 |.pick c a b=>B85 e d c a b k
 |.alloc t=>B6n P t k
 |.box t x=>match e.ev x with
  |some v=>C19 P t v k
  |none=>U4
 |.build t ps=>match A5M e ps.toList with
  |some vs=>B6l P t vs k
  |none=>U4
 |.buildSlice t n ps=>match A5M e ps.toList with
  |some vs=>A6a P t n vs k
  |none=>U4
 |.load t x=>match e.ev x with
  |some v=>B4E P t v k
  |none=>U4
 |.store t x y=>match e.ev x with
  |some v=>match e.ev y with
   |some u=>B54 P t v u k
   |none=>U4
  |none=>U4
 |.nilCheck x=>match e.ev x with
  |some v=>B3V v k
  |none=>U4
 |.binOp op t x y _=>match e.ev x with
  |some v=>match e.ev y with
   |some u=>C2a P op t y v u k
   |none=>U4
  |none=>U4
 |.unOp op _ x=>match e.ev x with
  |some v=>C5Q op v k
  |none=>U4
 |.convert s t x=>match e.ev x with
  |some v=>A2H P s t v k
  |none=>U4
 |.makeInterface t x=>match e.ev x with
  |some v=>match P.underlying t with
   |some (.interface _)=>U4
   |some _=>k (.iface t v)
   |none=>U4
  |none=>U4
 |.makeFunc fn first captured=>match e.eP first.toList with
  |some vs=>match e.eP captured.toList with
   |some us=>k (.func fn vs.toArray us.toArray)
   |none=>U4
  |none=>U4
 |.makeMap _ none=>(HM.new (.map #[] 0)).bind fun r=>k (.map (some r))
 |.makeSlice t n c=>match e.ev n with
  |some v=>match e.ev c with
   |some u=>A7F P t v u k
   |none=>U4
  |none=>U4
 |.slice t x lo hi mx=>match e.ev x with
  |some v=>match A7h e lo with
   |some l=>match A7h e hi with
    |some hh=>match A7h e mx with
     |some m=>B56 P t v l hh m k
     |none=>U4
    |none=>U4
   |none=>U4
  |none=>U4
 |.fieldAddr t x f=>match e.ev x with
  |some v=>A7H P t v f k
  |none=>U4
 |.field t x f=>match e.ev x with
  |some v=>B6d P t v f k
  |none=>U4
 |.indexAddr t x i=>match e.ev x with
  |some v=>match e.ev i with
   |some u=>A7G P t v u k
   |none=>U4
  |none=>U4
 |.index t x i=>match e.ev x with
  |some v=>match e.ev i with
   |some u=>B6b P t v u k
   |none=>U4
  |none=>U4
 |.lookup t x i ok=>match e.ev x with
  |some v=>match e.ev i with
   |some u=>B22 P t v u ok k
   |none=>U4
  |none=>U4
 |.mapUpdate t x i y=>match e.ev x with
  |some v=>match e.ev i with
   |some u=>match e.ev y with
    |some z=>A9l P t v u z k
    |none=>U4
   |none=>U4
  |none=>U4
 |.insert t x i y=>match e.ev x with
  |some v=>match e.ev i with
   |some u=>match e.ev y with
    |some z=>A9l P t v u z k
    |none=>U4
   |none=>U4
  |none=>U4
 |.mapEntry t x i=>match e.ev x with
  |some v=>match e.ev i with
   |some u=>A8S P t v u k
   |none=>U4
  |none=>U4
 |.entryStore _ x i y=>match e.ev x with
  |some v=>match e.ev i with
   |some u=>match e.ev y with
    |some z=>A59 v u z k
    |none=>U4
   |none=>U4
  |none=>U4
 |.range t x=>match e.ev x with
  |some v=>B58 P t v k
  |none=>U4
 |.next x str=>match e.ev x with
  |some v=>B86 str v k
  |none=>U4
 |.extract x i=>match e.ev x with
  |some (.tuple vs)=>match vs.toList[i]? with
   |some v=>k v
   |none=>U4
  |_=>U4
 |.call c=>match e.eP c.args.toList with
  |some vs=>match c.callee with
   |.builtin b=>B0G P b c.argTypes.toList vs k
   |.value (.func f)=>B89 P C o.type (.func (.func f) #[] #[]) vs k
   |.value x=>match e.ev x with
    |some v=>B6i P o.type v vs k
    |none=>U4
   |.invoke _ _=>U4
  |none=>U4
 |_=>U4
inductive Cls where
 |stat|read|cU
def u5(P:Program)(op:Op):Cls:=
 match op with
 |.move _=>.stat
 |.assign _=>.stat
 |.pick _ _ _=>.stat
 |.nilCheck _=>.stat
 |.binOp _ _ _ _ _=>.stat
 |.unOp _ _ _=>.stat
 |.convert _ t _=>match P.underlying t with
  |some (.int _)=>.stat
  |_=>.cU
 |.makeInterface _ _=>.stat
 |.makeFunc _ _ _=>.stat
 |.build _ _=>.stat
 |.fieldAddr _ _ _=>.stat
 |.field _ _ _=>.stat
 |.indexAddr _ _ _=>.stat
 |.index _ _ _=>.stat
 |.slice _ _ _ _ _=>.stat
 |.extract _ _=>.stat
 |.load _ _=>.read
 |.lookup _ _ _ _=>.read
 |.call c=>match c.callee with
  |.builtin .len=>.read
  |_=>.cU
 |_=>.cU
def A4N(ops:Array Oper)(j:Nat):Option Nat:=
 match ops.toList[j]? with
 |some o=>o.dst
 |none=>none
abbrev A1B:=List (Nat×Value)
def again(P:Program)(C:List Nat)(ops:Array Oper)(b:Nat)(e:Env)(d:Dec):A1B→HM ρ→HM ρ
 |[],m=>m
 |(i,v)::r,m=>match b.testBit i with
  |true=>again P C ops b e d r m
  |false=>match ops.toList[i]? with
   |some o=>C0z P C e d o fun v'=>A3t (v'=v) (again P C ops b e d r m)
   |none=>U4
def C6U(dst:Option Nat)(s:Nat):Bool:=
 match dst with
 |some t=>Nat.beq t s
 |none=>false
def A8x(P:Program)(dst:Option Nat)(i:Nat):List Oper→Kind
 |[]=>.one .any
 |o::r=>match o.op with
  |.extract (.tmp t) j=>match C6U dst t with
   |true=>match Nat.beq j i with
    |true=>match kindOf P o.type with
     |some k=>k
     |none=>.one .any
    |false=>A8x P dst i r
   |false=>A8x P dst i r
  |_=>A8x P dst i r
def B6f(ka kb:Kind)(x:Value)(k:Value→HM ρ):HM ρ:=
 match x with
 |.pointer (some a)=>match Nat.beq a.off 0 with
  |false=>U4
  |true=>(A3C ka kb a.block).bind fun p=>k (.tuple #[ka.val p.1,kb.val p.2])
 |_=>U4
def B59(P:Program)(C:List Nat)(ops:Array Oper)(e:Env)(d:Dec)(o:Oper)(k:Value→HM ρ):HM ρ:=
 match o.op with
 |.entry x=>match e.ev x with
  |some v=>B6f (A8x P o.dst 0 ops.toList) (A8x P o.dst 1 ops.toList) v k
  |none=>U4
 |_=>C0z P C e d o k
def B0C(P:Program)(C:List Nat)(ops:Array Oper)(draw:Bool)(j:Nat)(o:Oper)(e:Env)(d:Dec)(dn:A1B)(k:Env→A1B→HM ρ):HM ρ:=
 B59 P C ops e d o fun v=>match draw with
  |false=>k (e.put o.dst v) dn
  |true=>match u5 P o.op with
   |.stat=>k (e.put o.dst v) dn
   |.read=>k (e.put o.dst v) ((j,v)::dn)
   |.cU=>again P C ops ((Region.before ops).getD j 0) (e.put o.dst v) d dn (k (e.put o.dst v) dn)
def C5X(n:Nat)(d:Dec)(dst:Option Nat):Bool:=
 match dst with
 |some s=>Nat.blt s n&&(d.get s).isNone
 |none=>true
def B7H(d:Dec):Operand→Option Bool
 |.const (.bool b)=>some b
 |.tmp t=>d.get t
 |_=>none
def C2T(d:Dec)(op:Op):Option Bool:=
 match op with
 |.move x=>B7H d x
 |.assign x=>B7H d x
 |.pick (.tmp t) a b=>match d.get t with
  |some true=>B7H d a
  |some false=>B7H d b
  |none=>none
 |_=>none
def A3q(d:Dec)(o:Oper):Dec:=
 match o.dst with
 |none=>d
 |some s=>match C2T d o.op with
  |some b=>(s,b)::d
  |none=>d
def B4D(P:Program)(C:List Nat)(n:Nat)(ops:Array Oper)(draw:Bool)(j:Nat)(e:Env)(d:Dec)(dn:A1B)(k:Env→Dec→A1B→HM ρ):HM ρ:=
 match ops.toList[j]? with
  |none=>U4
  |some o=>match C5X n d o.dst with
   |false=>U4
   |true=>match o.guard with
    |none=>B0C P C ops draw j o e d dn fun e' dn'=>k e' (A3q d o) dn'
    |some (g,want)=>match A4N ops g with
     |none=>U4
     |some s=>match d.get s with
      |some b=>match b,want with
       |true,true=>B0C P C ops draw j o e d dn fun e' dn'=>k e' (A3q d o) dn'
       |false,false=>B0C P C ops draw j o e d dn fun e' dn'=>k e' (A3q d o) dn'
       |true,false=>k (e.put o.dst undef) d dn
       |false,true=>k (e.put o.dst undef) d dn
      |none=>match C6U o.dst s with
       |true=>U4
       |false=>match e.get s with
       |some (.bool b)=>match want with
        |true=>A04 b (B0C P C ops draw j o e ((s,true)::d) dn fun e' dn'=>k e' (A3q ((s,true)::d) o) dn')
          (k (e.put o.dst undef) ((s,false)::d) dn)
        |false=>A04 b (k (e.put o.dst undef) ((s,true)::d) dn)
          (B0C P C ops draw j o e ((s,false)::d) dn fun e' dn'=>k e' (A3q ((s,false)::d) o) dn')
       |some (.tuple _)=>k (e.put o.dst undef) d dn
       |_=>U4
inductive A4k where
 |done
 |q (j:Nat) (t:A4k)
 |br (js:List Nat) (f:Nat→A4k)
def A4k.ofList:List Nat→A4k
 |[]=>.done
 |j::r=>.q j (ofList r)
def C65:List (HM ρ)→HM ρ
 |[]=>U4
 |[m]=>m
 |m::x::r=>A0G m (C65 (x::r))
def C13(P:Program)(C:List Nat)(n:Nat)(ops:Array Oper)(draw:Bool):A4k→Env→Dec→A1B→(Env→HM ρ)→HM ρ
 |.done,e,_,_,k=>k e
 |.q j t,e,d,dn,k=>B4D P C n ops draw j e d dn fun e' d' dn'=>C13 P C n ops draw t e' d' dn' k
 |.br js f,e,d,dn,k=>C65 (js.map fun j=>B4D P C n ops draw j e d dn fun e' d' dn'=>C13 P C n ops draw (f j) e' d' dn' k)
def C8l(P:Program)(op:Op):Nat:=
 match u5 P op with
 |.stat=>0
 |.read=>1
 |.cU=>2
def A7z(m:Nat)(acts:Bool):List (Nat×Nat×Nat)→Option Nat
 |[]=>none
 |(i,b,c)::r=>match m.testBit i with
  |true=>A7z m acts r
  |false=>match Nat.beq (b&&& m) b with
   |false=>A7z m acts r
   |true=>match acts with
    |true=>some i
    |false=>match Nat.blt c 2 with
     |true=>some i
     |false=>A7z m acts r
def B1h(m:Nat):List (Nat×Nat×Nat)→List Nat
 |[]=>[]
 |(i,b,_)::r=>match m.testBit i with
  |true=>B1h m r
  |false=>match Nat.beq (b&&& m) b with
   |false=>B1h m r
   |true=>i::B1h m r
def C02(l:List (Nat×Nat×Nat)):Nat→Nat→A4k
 |0,_=>.done
 |f+1,m=>match A7z m false l with
  |some i=>.q i (C02 l f (m|||2 ^ i))
  |none=>match B1h m l with
   |[]=>.done
   |j::js=>.br (j::js) fun i=>C02 l f (m|||2 ^ i)
def A5X(P:Program)(ops:Array Oper)(draw:Bool):A4k:=
 match draw with
 |true=>
  let b:=Region.before ops
  C02 (ops.toList.zipIdx.map fun(o,i)=>(i,b.getD i 0,C8l P o.op)) ops.size 0
 |false=>.ofList (List.range ops.size)
def B8g(ops:Array Oper)(x y:Oper):Bool:=
 match y.dst with
 |some d=> !((x.looksAt ops).contains d)
 |none=>true
def C48(P:Program)(ops:Array Oper)(b:Array Nat)(i:Nat)(x:Oper)(j:Nat)(y:Oper):Bool:=
 match(b.getD j 0).testBit i with
 |true=>match u5 P x.op with
  |.read=>B8g ops x y
  |_=>true
 |false=>match u5 P x.op with
  |.cU=>false
  |_=>x.apart ops y
def A1r(j:Nat):List Nat→List Nat
 |[]=>[]
 |i::r=>match Nat.beq i j with
  |true=>A1r j r
  |false=>i::A1r j r
def B1K(P:Program)(ops:Array Oper)(j:Nat):Bool:=
 match ops.toList[j]? with
 |some o=>match u5 P o.op with
  |.cU=>true
  |_=>false
 |none=>false
def B5M(P:Program)(ops:Array Oper)(b:Array Nat):A4k→List Nat→Bool
 |.done,R=>R.isEmpty
 |.q j t,R=>(match ops.toList[j]? with
  |none=>false
  |some x=>A5j j R&& !(B1K P ops j)&&B8g ops x x&&(A1r j R).all fun i=>match ops.toList[i]? with
   |some y=>C48 P ops b j x i y
   |none=>false)&&B5M P ops b t (A1r j R)
 |.br js f,R=> !js.isEmpty &&(js.all fun j=>A5j j R&&B1K P ops j&&B5M P ops b (f j) (A1r j R))&&R.all fun i=>A5j i js||R.any fun x=>(b.getD i 0).testBit x
def C2j(ops:Array Oper):Bool:=
 ops.toList.zipIdx.all fun(o,j)=>o.after.toList.all (fun e=> !(Region.binds .any e)||Nat.blt e.on j)&& !(match o.op with|.select .. =>true|_=>false)
def B1s(P:Program)(ops:Array Oper)(t:A4k):Bool:=
 C2j ops&&B5M P ops (Region.before ops) t (List.range ops.size)
def A3K(P:Program)(live:List Nat):List Oper→List (Nat×Kind)
 |[]=>[]
 |o::rest=>match o.guard with
  |some _=>A3K P live rest
  |none=>match o.dst with
   |none=>A3K P live rest
   |some s=>match A5j s live with
    |false=>A3K P live rest
    |true=>match kindOf P o.type with
     |some k=>(s,k)::A3K P live rest
     |none=>A3K P live rest
def guarded:List Oper→Bool
 |[]=>false
 |o::rest=>match o.guard with
  |some _=>true
  |none=>guarded rest
def dstsOf:List Oper→List Nat
 |[]=>[]
 |o::rest=>match o.dst with
  |some s=>s::dstsOf rest
  |none=>dstsOf rest
def Env.eE(e:Env):List (Nat×Kind)→Option (C9P)
 |[]=>some []
 |(s,_)::r=>match e.get s with
  |some v=>match Env.eE e r with
   |some vs=>some (v::vs)
   |none=>none
  |none=>none
def Env.dW(e:Env)(ss:List (Nat×Kind)):Option (q9 (ss.map (·.2))):=
 match e.eE ss with
 |some vs=>q9.get (ss.map (·.2)) vs
 |none=>none
def A3X:List (Nat×Kind)→C9P→Env
 |(s,_)::r,v::vs=>(s,v)::A3X r vs
 |_,_=>[]
def Env.join(e:Env)(ds:List Nat)(ss:List (Nat×Kind))(x:q9 (ss.map (·.2))):Env:=
 A3X ss (q9.cC (ss.map (·.2)) x)++e.forget ds
def B1l{α:Type}:Option α→HM α
 |some a=>W9 a
 |none=>U4
def B21(P:Program)(C:List Nat)(n:Nat)(live:List Nat)(ops:Array Oper)(draw:Bool)(e:Env)(k:Env→HM ρ):HM ρ:=
 match(match draw with|true=>B1s P ops (A5X P ops true)|false=>true) with
 |false=>U4
 |true=>match guarded ops.toList with
  |false=>C13 P C n ops draw (A5X P ops draw) e [] [] k
  |true=>(C13 P C n ops draw (A5X P ops draw) e [] [] fun e'=>B1l (e'.dW (A3K P live ops.toList))).bind fun x=>k (e.join (dstsOf ops.toList) (A3K P live ops.toList) x)
def A2G:Code→List Nat
 |.region _ ops _=>dstsOf ops.toList
 |.seq a b=>A2G a++A2G b
 |.cond _ a b=>A2G a++A2G b
 |.block _ a=>A2G a
 |.loop a=>A2G a
 |.scope a=>A2G a
 |.rangeFunc _ _ a b=>A2G a++A2G b
 |_=>[]
def A3s:Code→Bool
 |.skip=>true
 |.region _ _ _=>true
 |.seq a b=>A3s a&&A3s b
 |.cond _ a b=>A3s a||A3s b
 |.block id a=>A3s a||canExit id a
 |.loop _=>false
 |_=>false
where
 canExit (id:Nat):Code→Bool
  |.seq a b=>canExit id a||canExit id b
  |.cond _ a b=>canExit id a||canExit id b
  |.block _ a=>canExit id a
  |.loop a=>canExit id a
  |.exit i=>Nat.beq i id
  |_=>false
def A7I:Code→List Nat→Bool
 |.seq a b,ids=>A7I a ids||A7I b ids
 |.cond _ a b,ids=>A7I a ids||A7I b ids
 |.block id a,ids=>A7I a (id::ids)
 |.loop a,ids=>A7I a ids
 |.exit i,ids=> !(A5j i ids)
 |.ret,_=>true
 |_,_=>false
structure KK(ρ:Type) where
 norm:Env→HM ρ
 ret:C9P→Option ρ
 bW:List (Nat×(Env→Option ρ))
def A1R{β:Type}:List (Nat×β)→Nat→Option β
 |[],_=>none
 |(t,b)::d,n=>match Nat.beq t n with
  |true=>some b
  |false=>A1R d n
def A8R{β:Type}(n:Nat):List (Nat×β)→List (Nat×β)
 |[]=>[]
 |(t,b)::d=>match Nat.beq t n with
  |true=>A8R n d
  |false=>(t,b)::A8R n d
def A42{ρ':Type}(f:ρ→ρ'):List (Nat×(Env→Option ρ))→List (Nat×(Env→Option ρ'))
 |[]=>[]
 |(t,g)::d=>(t,fun e=>match g e with|some r=>some (f r)|none=>none)::A42 f d
def B8L{ρ':Type}(f:ρ→ρ')(g:C9P→Option ρ)(vs:C9P):Option ρ':=
 match g vs with
 |some r=>some (f r)
 |none=>none
def carried(live:List Nat)(e:Env):List Nat→List (Nat×Kind)
 |[]=>[]
 |s::r=>match A5j s r with
  |true=>carried live e r
  |false=>match A5j s live with
   |false=>carried live e r
   |true=>match e.get s with
    |none=>carried live e r
    |some v=>match Kind.of v with
     |some k=>(s,k)::carried live e r
     |none=>carried live e r
def B0B(P:Program)(e:Env):List ResultVar→(C9P→HM ρ)→HM ρ
 |[],k=>k []
 |.tmp t::rs,k=>match e.get t with
  |some v=>B0B P e rs fun vs=>k (v::vs)
  |none=>U4
 |.cell t ty::rs,k=>match e.get t with
  |some x=>B4E P ty x fun v=>B0B P e rs fun vs=>k (v::vs)
  |none=>U4
def B3P(outs:Bool)(ss:List (Nat×Kind))(inner:(ρ':Type)→KK ρ'→HM ρ')(exit:Option Nat)(e:Env)(ds:List Nat)(k:KK ρ):HM ρ:=
 match outs with
 |true=>(inner (q9 (ss.map (·.2))⊕ρ)
   {norm:=fun e'=>B1l (match e'.dW ss with|some x=>some (.inl x)|none=>none)
    ret:=B8L .inr k.ret
    bW:=match exit with
     |some id=>(id,fun e'=>match e'.dW ss with|some x=>some (.inl x)|none=>none)::A42 .inr k.bW
     |none=>A42 .inr k.bW}).bind (Sum.elim (fun x=>k.norm (e.join ds ss x)) W9)
 |false=>(inner (q9 (ss.map (·.2)))
   {norm:=fun e'=>B1l (e'.dW ss)
    ret:=fun _=>none
    bW:=match exit with
     |some id=>[(id,fun e'=>e'.dW ss)]
     |none=>[]}).bind fun x=>k.norm (e.join ds ss x)
def den(P:Program)(C:List Nat)(n:Nat)(live lc:List Nat)(rs:List ResultVar):Code→(ρ:Type)→Env→KK ρ→HM ρ
 |.skip,_,e,k=>k.norm e
 |.region _ ops draw,_,e,k=>B21 P C n live ops draw e k.norm
 |.seq a b,ρ,e,k=>den P C n live lc rs a ρ e {k with norm:=fun e'=>den P C n live lc rs b ρ e' k}
 |.cond c a b,ρ,e,k=>match e.ev c with
  |some (.bool t)=>match A3s a&&A3s b with
   |true=>B3P (A7I a []||A7I b []) (carried lc e (A2G a++A2G b))
     (fun ρ' k'=>A04 t (den P C n live lc rs a ρ' e k') (den P C n live lc rs b ρ' e k')) none e (A2G a++A2G b) k
   |false=>A04 t (den P C n live lc rs a ρ e k) (den P C n live lc rs b ρ e k)
  |_=>U4
 |.block id a,ρ,e,k=>match A3s.canExit id a with
  |true=>B3P (A7I a [id]) (carried lc e (A2G a)) (fun ρ' k'=>den P C n live lc rs a ρ' e k') (some id) e (A2G a) k
  |false=>den P C n live lc rs a ρ e {k with bW:=A8R id k.bW}
 |.loop a,ρ,e,k=>match e.dW (carried lc e (A2G a)) with
  |none=>U4
  |some x=>HM.loop (fun y=>den P C n live lc rs a (q9 ((carried lc e (A2G a)).map (·.2))⊕ρ) (e.join (A2G a) (carried lc e (A2G a)) y)
    {norm:=fun e'=>B1l (match e'.dW (carried lc e (A2G a)) with|some z=>some (.inl z)|none=>none)
     ret:=B8L .inr k.ret
     bW:=A42 .inr k.bW}) x
 |.exit id,_,e,k=>match A1R k.bW id with
  |some g=>B1l (g e)
  |none=>U4
 |.ret,_,e,k=>B0B P e rs fun vs=>B1l (k.ret vs)
 |_,_,_,_=>U4
def B6u(f:Func):Code:=f.body.getD .skip
def C5R(P:Program)(C:List Nat)(n:Nat)(live lc:List Nat)(rs:List ResultVar)(ks:List Kind)(c:Code)(args:C9P):HM (q9 ks):=
 den P C n live lc rs c (q9 ks) (args.zipIdx.map fun(v,i)=>(i,v))
  {norm:=fun e=>B0B P e rs fun vs=>B1l (q9.get ks vs)
   ret:=q9.get ks
   bW:=[]}
end
end
section
structure A0o(n:Nat)(e:Env)(a:Act):Prop where
 size:a.tmps.size=n
 defers:a.defers=[]
 get:∀t v,e.get t=some v→a.tmps[t]? =some v
def A27(d:Dec)(a:Act):Prop:=∀t b,d.get t=some b→a.tmps[t]? =some (.bool b)
theorem A0o.ev{n:Nat}{e:Env}{a:Act}(h:A0o n e a){x:Operand}{v:Value}(hx:e.ev x=some v):a.eval x=v:=by
 cases x with
 |tmp t=>
  have:=h.get t v hx
  simp only[Act.eval,G2,this,Option.getD_some]
 |const c=>simpa[Env.ev,Act.eval] using hx
 |global g=>simpa[Env.ev,Act.eval] using hx
 |func f=>simpa[Env.ev,Act.eval] using hx
theorem A0o.eP{n:Nat}{e:Env}{a:Act}(h:A0o n e a):∀{xs:List Operand} {vs:C9P},e.eP xs=some vs→xs.map a.eval=vs
 |[],vs,hx=>by simp only[Env.eP,F4] at hx;subst hx;rfl
 |x::xs,vs,hx=>by
  simp only[Env.eP] at hx
  split at hx
  ·rename_i v hv
   split at hx
   ·rename_i us sP
    cases hx
    simp[h.ev hv,A0o.eP h sP]
   ·cases hx
  ·cases hx
theorem A0o.dU{n:Nat}{e:Env}{a:Act}(h:A0o n e a){xs:Array Operand}{vs:C9P}(hx:e.eP xs.toList=some vs):xs.map a.eval=vs.toArray:=by
 have:=h.eP hx
 apply I3.1
 simp[this]
theorem A0o.parts{n:Nat}{e:Env}{a:Act}(h:A0o n e a):∀{xs:List (Nat×Operand)} {vs:List (Nat×Value)},A5M e xs=some vs→xs.map (fun(i,x)=>(i,a.eval x))=vs
 |[],vs,hx=>by simp only[A5M,F4] at hx;subst hx;rfl
 |(i,x)::xs,vs,hx=>by
  simp only[A5M] at hx
  split at hx
  ·rename_i v hv
   split at hx
   ·rename_i us sP
    cases hx
    simp only[B6,h.ev hv]
    rw[A0o.parts h sP]
   ·cases hx
  ·cases hx
def Res(P:Program)(w0:World)(Φ:Value→Heap→Prop):Result Next→Prop
 |.ok (.value v) w'=>y9 w0 w'∧Φ v w'.heap
 |.ok .skip w'=>y9 w0 w'∧Φ undef w'.heap
 |.ok (.enter f args) w'=>y9 w0 w'∧V3 P f args w'.heap Φ
 |_=>False
def A3x(P:Program)(s:Sem Next)(h:Heap)(Φ:Value→Heap→Prop):Prop:=∀w,w.heap=h→Res P w Φ (s.run P w)
def Stat(P:Program)(s:Sem Next)(v:Value):Prop:=∀w,s.run P w=.ok (.value v) w
def A2C(P:Program)(s:Sem Next)(h:Heap)(v:Value):Prop:=∀w,w.heap=h→s.run P w=.ok (.value v) w
def u6(P:Program)(c:Cls)(s:Sem Next)(h:Heap)(Φ:Value→Heap→Prop):Prop:=
 match c with
 |.stat=>∃v,Stat P s v∧Φ v h
 |.read=>∃v,A2C P s h v∧Φ v h
 |.cU=>A3x P s h Φ
theorem A3x.eN{P:Program}{s:Sem Next}{h:Heap}{Φ:Value→Heap→Prop}{v:Value}(hs:A2C P s h v)(hp:Φ v h):A3x P s h Φ:=by
 intro w hw
 rw[hs w hw]
 exact⟨y9.refl w,hw▸hp⟩
theorem C4V(P:Program)(s:Sem Value)(w:World):(do pure (Next.value (←s)):Sem Next).run P w=(s.run P w).andThen fun x w'=>.ok (.value x) w':=by
 simp
theorem Stat.of{P:Program}{s:Sem Value}{v:Value}(h:∀w,s.run P w=.ok v w):Stat P (do pure (Next.value (←s)):Sem Next) v:=by
 intro w;rw[C4V,h w];rfl
theorem A2C.of{P:Program}{s:Sem Value}{h:Heap}{v:Value}(hs:∀w,w.heap=h→s.run P w=.ok v w):A2C P (do pure (Next.value (←s)):Sem Next) h v:=by
 intro w hw;rw[C4V,hs w hw];rfl
theorem A3x.eD{P:Program}{s:Sem Value}{h:Heap}{Φ:Value→Heap→Prop}(hs:∀w,w.heap=h→∃v w',s.run P w=.ok v w'∧y9 w w'∧Φ v w'.heap):
  A3x P (do pure (Next.value (←s)):Sem Next) h Φ:=by
 intro w hw
 obtain⟨v,w',hr,hm,hp⟩:=hs w hw
 rw[C4V,hr];exact⟨hm,hp⟩
theorem A3x.fH{P:Program}{s:Sem Unit}{h:Heap}{Φ:Value→Heap→Prop}(hs:∀w,w.heap=h→∃w',s.run P w=.ok () w'∧y9 w w'∧Φ undef w'.heap):
  A3x P (do s;pure Next.skip:Sem Next) h Φ:=by
 intro w hw
 obtain⟨w',hr,hm,hp⟩:=hs w hw
 have:(do s;pure Next.skip:Sem Next).run P w=.ok .skip w':=by simp[hr]
 rw[this];exact⟨hm,hp⟩
theorem W5{P:Program}{t:TypeId}{d:TypeDesc}(h:P.underlying t=some d)(w:World):(underlying t).run P w=.ok d w:=run_underlying h w
theorem A8r{P:Program}{t:TypeId}{i:TypeInfo}(h:P.info? t=some i)(w:World):(typeInfo t).run P w=.ok i w:=by
 simp[typeInfo,h]
theorem A0I{P:Program}{t:TypeId}{i:TypeInfo}(h:P.info? t=some i)(w:World):(sizeOf t).run P w=.ok i.size w:=by
 simp[sizeOf,A8r h]
theorem A2u{P:Program}{t:TypeId}{i:TypeInfo}{z:Value}(h:P.info? t=some i)(hz:i.zero=some z)(w:World):(zeroValue t).run P w=.ok z w:=by
 simp[zeroValue,A8r h,hz]
theorem A2c{P:Program}{t:TypeId}{i:TypeInfo}(h:P.info? t=some i):P.cellsOf t=i.size:=by
 simp[Program.cellsOf,h]
theorem B97{P:Program}{t:TypeId}{k:Kind}(h:kindOf P t=some k):∃i z,P.info? t=some i∧i.zero=some z∧Kind.of z=some k:=by
 unfold kindOf at h
 split at h
 ·rename_i i hi
  split at h
  ·rename_i z hz;exact⟨i,z,hi,hz,h⟩
  ·cases h
 ·cases h
section
variable {ρ:Type} {P:Program} {k:Value→HM ρ} {h:Heap} {Q:ρ→Heap→Prop}
theorem B88{op:BinOp}{t:TypeId}{kx ky:IntKind}{a b:Int}(h1:op≠ .eql)(h2:op≠ .neq)(hd:C18 op kx ky a b k h Q):
  ∃v,(∀w,(binOp op t (.int kx a) (.int ky b)).run P w=.ok v w)∧k v h Q:=by
 unfold C18 at hd
 cases op<;>first|exact absurd rfl h1|exact absurd rfl h2|skip
 case shl=>
  obtain⟨h0,hk⟩:=hd
  refine⟨_,fun w=>?_,hk⟩
  simp[binOp,Op.shift,Int.not_lt.2 h0]
 case shr=>
  obtain⟨h0,hk⟩:=hd
  refine⟨_,fun w=>?_,hk⟩
  simp[binOp,Op.shift,Int.not_lt.2 h0]
 all_goals
  have jh:B0x kx ky=true:=by
   cases jh:B0x kx ky with
   |false=>simp only[jh] at hd;exact hd.elim
   |true=>rfl
  simp only[jh] at hd
  obtain rfl:=A7v jh
 case quo=>
  obtain⟨h0,hk⟩:=hd
  exact⟨_,fun w=>by simp[binOp,Op.intDiv,h0],hk⟩
 case rem=>
  obtain⟨h0,hk⟩:=hd
  exact⟨_,fun w=>by simp[binOp,Op.intDiv,h0],hk⟩
 all_goals exact⟨_,fun w=>by simp[binOp,Op.intArith,Op.intBits,Op.intCmp,B6v],hd⟩
theorem B84{op:BinOp}{t:TypeId}{a b:B3O}(h1:op≠ .eql)(h2:op≠ .neq)(hd:C14 op a b k h Q):
  ∃v,(∀w,(binOp op t (.string a) (.string b)).run P w=.ok v w)∧k v h Q:=by
 unfold C14 at hd
 cases op<;>first|exact absurd rfl h1|exact absurd rfl h2|skip
 case add=>
  obtain⟨h0,hk⟩:=hd
  refine⟨_,fun w=>?_,hk⟩
  have:¬(((a.size+b.size:Nat):Int)>9223372036854775807):=by omega
  simp only[binOp,Op.stringOp,IntKind.max_i64,if_neg this,Sem.run_pure]
 all_goals first
  |exact hd.elim
  |exact⟨_,fun w=>by simp[binOp,Op.stringOp],hd⟩
theorem C0y{op:UnOp}{x:Value}(hd:C5Q op x k h Q):
  ∃v,(∀w,(Op.unary op x).run P w=.ok v w)∧k v h Q:=by
 unfold C5Q at hd
 split at hd
 ·exact⟨_,fun w=>by simp[Op.unary],hd⟩
 ·exact⟨_,fun w=>by simp[Op.unary,Op.intArith],hd⟩
 ·exact⟨_,fun w=>by simp[Op.unary,Op.intBits,B6v],hd⟩
 ·exact hd.elim
theorem C08(a b:B3O):(a.toList==b.toList)=decide (a=b):=by
 have gN:a.toList=b.toList↔a=b:=by
  constructor
  ·intro hh
   rw[ByteArray.toList_eq,ByteArray.toList_eq] at hh
   cases a;cases b
   simp_all
  ·intro hh;rw[hh]
 by_cases dv:a=b
 ·simp[dv]
 ·have:¬a.toList=b.toList:=fun hh=>dv (gN.1 hh)
  simp[dv,this]
theorem A1G{t:TypeId}{x y:Value}{r:Bool}(neg:Bool)(h1:∀k n,x≠ .int k n)(h2:∀k n,x≠ .float k n)(h3:∀k n m,x≠ .complex k n m)(h4:∀s,x≠ .string s)
  (hr:∀w,(Op.equal t x y).run P w=.ok r w)(w:World):(binOp (if neg=true then .neq else .eql) t x y).run P w=.ok (.bool (A6Q neg r)) w:=by
 cases neg<;>cases x<;>cases y<;>simp_all [binOp,A6Q]
theorem B4n(d:Nat){t e:TypeId}(ht:P.underlying t=some (.pointer e))(p:C9N)(w:World):(Op.equalIn (d+1) t (.pointer p) (.pointer none)).run P w=.ok p.isNone w:=by
 cases p<;>simp only[Op.equalIn,Sem.run_bind,W5 ht,Result.andThen_ok]<;>rfl
theorem B4m(d:Nat){t e:TypeId}(ht:P.underlying t=some (.slice e))(p:C9N)(a b c f:Nat)(w:World):(Op.equalIn (d+1) t (.slice p a b) (.slice none c f)).run P w=.ok p.isNone w:=by
 cases p<;>simp only[Op.equalIn,Sem.run_bind,W5 ht,Result.andThen_ok]<;>rfl
theorem B4o(d:Nat){t e f:TypeId}(ht:P.underlying t=some (.map e f))(p:Option Nat)(w:World):(Op.equalIn (d+1) t (.map p) (.map none)).run P w=.ok p.isNone w:=by
 cases p<;>simp only[Op.equalIn,Sem.run_bind,W5 ht,Result.andThen_ok]<;>rfl
theorem B1T(d:Nat){t:TypeId}{ms:Array (String×TypeId)}(ht:P.underlying t=some (.interface ms))(x:Value)(hx:isIface x=true)(w:World):(Op.equalIn (d+1) t x .nilIface).run P w=.ok (B8P x) w:=by
 cases x<;>simp[isIface] at hx<;>simp only[Op.equalIn,Sem.run_bind,W5 ht,Result.andThen_ok,B8P]<;>rfl
theorem B2Y(d:Nat){t:TypeId}{a b:Array TypeId}{c:Bool}(ht:P.underlying t=some (.func a b c))(x:Value)(hx:A7t x=true)(w:World):(Op.equalIn (d+1) t x .nilFunc).run P w=.ok (B8Q x) w:=by
 cases x<;>simp[A7t] at hx<;>simp only[Op.equalIn,Sem.run_bind,W5 ht,Result.andThen_ok,B8Q]<;>rfl
theorem B8Z(d:Nat){t:TypeId}(ht:P.underlying t=some .bool)(a b:Bool)(w:World):(Op.equalIn (d+1) t (.bool a) (.bool b)).run P w=.ok (a==b) w:=by
 simp only[Op.equalIn,Sem.run_bind,W5 ht,Result.andThen_ok];rfl
theorem B6Z{t e:TypeId}(ht:P.underlying t=some (.pointer e))(p:C9N)(w:World):(Op.equal t (.pointer p) (.pointer none)).run P w=.ok p.isNone w:=B4n 9999 ht p w
theorem B6Y{t e:TypeId}(ht:P.underlying t=some (.slice e))(p:C9N)(a b c d:Nat)(w:World):(Op.equal t (.slice p a b) (.slice none c d)).run P w=.ok p.isNone w:=B4m 9999 ht p a b c d w
theorem B60{t e f:TypeId}(ht:P.underlying t=some (.map e f))(p:Option Nat)(w:World):(Op.equal t (.map p) (.map none)).run P w=.ok p.isNone w:=B4o 9999 ht p w
theorem B4l{t:TypeId}{ms:Array (String×TypeId)}(ht:P.underlying t=some (.interface ms))(x:Value)(hx:isIface x=true)(w:World):(Op.equal t x .nilIface).run P w=.ok (B8P x) w:=B1T 9999 ht x hx w
theorem B5S{t:TypeId}{a b:Array TypeId}{c:Bool}(ht:P.underlying t=some (.func a b c))(x:Value)(hx:A7t x=true)(w:World):(Op.equal t x .nilFunc).run P w=.ok (B8Q x) w:=B2Y 9999 ht x hx w
theorem C1V{t:TypeId}(ht:P.underlying t=some .bool)(a b:Bool)(w:World):(Op.equal t (.bool a) (.bool b)).run P w=.ok (a==b) w:=B8Z 9999 ht a b w
theorem A9f{t:TypeId}{d:TypeDesc}(h:P.underlying t=some d)(w:World):(isAgg t).run P w=.ok (B0w d) w:=by
 simp only[isAgg,Sem.run_bind,W5 h,Result.andThen_ok]
 cases d<;>rfl
theorem B3Q{t:TypeId}{d:TypeDesc}(h:P.underlying t=some d):∃i,P.info? t=some i:=by
 unfold Program.underlying at h
 split at h
 ·exact⟨_,by assumption⟩
 ·exact⟨_,by assumption⟩
 ·cases h
theorem A2g{t:TypeId}{cs:C9P}{off:Nat}{v:Value}(hp:A4n P t cs off=some v)(w:World):(part t cs.toArray off).run P w=.ok v w:=by
 unfold A4n at hp
 cases hu:P.underlying t with
 |none=>simp only[hu] at hp;cases hp
 |some d=>
  obtain⟨i,hi⟩:=B3Q hu
  cases eo:B0w d with
  |true=>
   have dp:some (Value.agg ((cs.drop off).take (P.cellsOf t)).toArray)=some v:=by simpa only[hu,eo] using hp
   cases dp
   simp only[part,Sem.run_bind,A9f hu,Result.andThen_ok,eo,if_true,A0I hi,Sem.run_pure]
   congr 2
   rw[A2c hi]
   apply I3.1
   simp[List.drop_take,Nat.add_sub_cancel_left]
  |false=>
   have dp:cs[off]? =some v:=by simpa only[hu,eo] using hp
   simp only[part,Sem.run_bind,A9f hu,Result.andThen_ok,eo,H7,if_false]
   have:cs.toArray[off]? =some v:=by simpa using dp
   rw[this];rfl
theorem B5U{rec:TypeId→Value→Value→Option Bool}{n:Nat}
  (iO:∀t x y r,rec t x y=some r→∀w,(Op.equalIn n t x y).run P w=.ok r w){xs ys:C9O}:
  ∀(fs:List Field) (r:Bool),B4p P rec xs.toList ys.toList fs=some r→∀w,(Op.eqFields n xs ys fs).run P w=.ok r w
 |[],r,hr,w=>by
  simp only[B4p,F4] at hr
  subst hr
  rfl
 |f::fs,r,hr,w=>by
  simp only[B4p] at hr
  cases hn:decide (f.name= "_") with
  |true=>simp only[hn] at hr;cases hr
  |false=>
  simp only[hn] at hr
  cases ha:A4n P f.type xs.toList f.offset with
  |none=>simp only[ha] at hr;cases hr
  |some a=>
  simp only[ha] at hr
  cases hb:A4n P f.type ys.toList f.offset with
  |none=>simp only[hb] at hr;cases hr
  |some b=>
  simp only[hb] at hr
  cases h1:rec f.type a b with
  |none=>simp only[h1] at hr;cases hr
  |some r1=>
  simp only[h1] at hr
  cases h2:B4p P rec xs.toList ys.toList fs with
  |none=>simp only[h2] at hr;cases hr
  |some r2=>
  simp only[h2,F4] at hr
  subst hr
  have jO:f.name≠ "_" :=by simpa using hn
  have pa:=A2g ha w
  have pb:=A2g hb w
  simp only[Q6] at pa pb
  have ih:=B5U iO fs r2 h2 w
  simp only[Op.eqFields,jO,ne_eq,not_false_eq_true,if_true,Sem.run_bind,pa,pb,Result.andThen_ok,iO _ _ _ _ h1 w]
  cases r1
  ·simp
  ·simpa using ih
theorem B6X{rec:TypeId→Value→Value→Option Bool}{n:Nat}{t:TypeId}{fields:Array Field}(ht:P.underlying t=some (.struct fields))
  (iO:∀t x y r,rec t x y=some r→∀w,(Op.eqGuardIn n t x y).run P w=.ok false w){xs ys:C9O}{r:Bool}(hr:B4p P rec xs.toList ys.toList fields.toList=some r)(w:World):
  (Op.eqGuardIn (n+1) t (.agg xs) (.agg ys)).run P w=.ok false w:=by
 simp only[Op.eqGuardIn,Sem.run_bind,W5 ht,Result.andThen_ok]
 rw[←Array.forIn_toList]
 generalize fields.toList=fs at hr
 clear ht
 induction fs generalizing r with
 |nil=>simp
 |cons f fs ih=>
  simp only[B4p] at hr
  cases hn:decide (f.name= "_") with
  |true=>simp only[hn] at hr;cases hr
  |false=>
  simp only[hn] at hr
  cases ha:A4n P f.type xs.toList f.offset with
  |none=>simp only[ha] at hr;cases hr
  |some a=>
  simp only[ha] at hr
  cases hb:A4n P f.type ys.toList f.offset with
  |none=>simp only[hb] at hr;cases hr
  |some b=>
  simp only[hb] at hr
  cases h1:rec f.type a b with
  |none=>simp only[h1] at hr;cases hr
  |some r1=>
  simp only[h1] at hr
  cases h2:B4p P rec xs.toList ys.toList fs with
  |none=>simp only[h2] at hr;cases hr
  |some r2=>
  have jO:f.name≠ "_" :=by simpa using hn
  have pa:=A2g ha w
  have pb:=A2g hb w
  simp only[Q6] at pa pb
  simp only[List.forIn_cons,jO,ne_eq,not_false_eq_true,if_true,Sem.run_bind,pa,pb,Result.andThen_ok,iO _ _ _ _ h1 w,H7,if_false,Sem.run_pure]
  exact ih h2
theorem B99{rec:TypeId→Value→Value→Option Bool}{n:Nat}{t:TypeId}{fields:Array Field}{e:Bool}(ht:P.underlying t=some (.struct fields))
  (iO:∀t x y r,rec t x y=some r→∀w,(Instr.checkKey e n t x).run P w=.ok () w){xs ys:C9O}{r:Bool}(hr:B4p P rec xs.toList ys.toList fields.toList=some r)(w:World):
  (Instr.checkKey e (n+1) t (.agg xs)).run P w=.ok () w:=by
 simp only[Instr.checkKey,Sem.run_bind,W5 ht,Result.andThen_ok]
 rw[←Array.forIn_toList]
 generalize fields.toList=fs at hr
 clear ht
 induction fs generalizing r with
 |nil=>simp
 |cons f fs ih=>
  simp only[B4p] at hr
  cases hn:decide (f.name= "_") with
  |true=>simp only[hn] at hr;cases hr
  |false=>
  simp only[hn] at hr
  cases ha:A4n P f.type xs.toList f.offset with
  |none=>simp only[ha] at hr;cases hr
  |some a=>
  simp only[ha] at hr
  cases hb:A4n P f.type ys.toList f.offset with
  |none=>simp only[hb] at hr;cases hr
  |some b=>
  simp only[hb] at hr
  cases h1:rec f.type a b with
  |none=>simp only[h1] at hr;cases hr
  |some r1=>
  simp only[h1] at hr
  cases h2:B4p P rec xs.toList ys.toList fs with
  |none=>simp only[h2] at hr;cases hr
  |some r2=>
  have jO:f.name≠ "_" :=by simpa using hn
  have pa:=A2g ha w
  simp only[Q6] at pa
  simp only[List.forIn_cons,jO,ne_eq,not_false_eq_true,if_true,Sem.run_bind,pa,Result.andThen_ok,iO _ _ _ _ h1 w,Sem.run_pure]
  exact ih h2
theorem A2a:∀(d:Nat) {t:TypeId} {x y:Value} {r:Bool},B5T P d t x y=some r→∀(D:Nat) (w:World),
  (Op.equalIn (d+D) t x y).run P w=.ok r w∧(Op.eqGuardIn (d+D) t x y).run P w=.ok false w∧∀e,(Instr.checkKey e (d+D) t x).run P w=.ok () w
 |0,_,_,_,_,hr,_,_=>by cases hr
 |d+1,t,x,y,r,hr,D,w=>by
  rw[show d+1+D=(d+D)+1 from by omega]
  unfold B5T at hr
  cases ht:P.underlying t with
  |none=>simp only[ht] at hr;cases hr
  |some dd=>
  cases dd with
  |int kk=>
   simp only[ht] at hr
   cases x<;>try cases hr
   cases y<;>try cases hr
   rename_i k a k' b
   simp only at hr
   cases jh:B0x k k' with
   |false=>simp only[jh] at hr;cases hr
   |true=>
    simp only[jh,F4] at hr
    obtain rfl:=A7v jh
    subst hr
    refine⟨?_,?_,fun e=>?_⟩
    ·simp only[Op.equalIn,Sem.run_bind,W5 ht,Result.andThen_ok];simp
    ·simp only[Op.eqGuardIn,Sem.run_bind,W5 ht,Result.andThen_ok];simp
    ·simp only[Instr.checkKey,Sem.run_bind,W5 ht,Result.andThen_ok];simp
  |bool=>
   simp only[ht] at hr
   cases x<;>try cases hr
   cases y<;>try cases hr
   refine⟨?_,?_,fun e=>?_⟩
   ·simp only[Op.equalIn,Sem.run_bind,W5 ht,Result.andThen_ok];simp
   ·simp only[Op.eqGuardIn,Sem.run_bind,W5 ht,Result.andThen_ok];simp
   ·simp only[Instr.checkKey,Sem.run_bind,W5 ht,Result.andThen_ok];simp
  |string=>
   simp only[ht] at hr
   cases x<;>try cases hr
   cases y<;>try cases hr
   rename_i a b
   refine⟨?_,?_,fun e=>?_⟩
   ·simp only[Op.equalIn,Sem.run_bind,W5 ht,Result.andThen_ok]
    have e:(a==b)=decide (a=b):=(beq_toListBytes a b).trans (C08 a b)
    simp[e]
   ·simp only[Op.eqGuardIn,Sem.run_bind,W5 ht,Result.andThen_ok];simp
   ·simp only[Instr.checkKey,Sem.run_bind,W5 ht,Result.andThen_ok];simp
  |struct fields=>
   simp only[ht] at hr
   cases cy:P.stoodInHeld t with
   |true=>simp only[cy] at hr;cases hr
   |false=>
   simp only[cy] at hr
   cases x<;>try cases hr
   cases y<;>try cases hr
   rename_i xs ys
   simp only at hr
   have hf:P.fieldsOf t=fields:=by simp[Program.fieldsOf,ht]
   refine⟨?_,B6X ht (fun t x y r hr w=>(A2a d hr D w).2.1) hr w,fun e=>B99 ht (fun t x y r hr w=>(A2a d hr D w).2.2 e) hr w⟩
   rw[run_equalIn_struct w (d+D) t xs ys (by rw[hf];exact ht) cy,hf]
   exact B5U (fun t x y r hr w=>(A2a d hr D w).1) _ r hr w
  |_=>simp only[ht] at hr;cases hr
def B1U(neg:Bool):BinOp:=if neg=true then .neq else .eql
theorem B3W{neg:Bool}{t:TypeId}{xo yo:Operand}{x y:Value}(hy:∀c,yo=.const c→y=c)(hd:A5P P neg t yo x y k h Q):
  ∃v,(∀w,(do eqGuard (B1U neg) t xo yo x y;binOp (B1U neg) t x y:Sem Value).run P w=.ok v w)∧k v h Q:=by
 cases ht:P.underlying t with
 |none=>simp only[A5P,ht] at hd;exact hd.elim
 |some d=>
 cases d with
 |pointer e=>
  simp only[A5P,ht] at hd
  split at hd
  ·split at hd
   ·rename_i p
    obtain rfl:=hy _ rfl
    refine⟨_,fun w=>?_,hd⟩
    have hb:=A1G (P:=P) (y:=.pointer none) neg (by simp) (by simp) (by simp) (by simp) (B6Z ht p) w
    cases neg<;>simpa[B1U,go_sem] using hb
   ·exact hd.elim
  ·exact hd.elim
 |slice e=>
  simp only[A5P,ht] at hd
  split at hd
  ·split at hd
   ·rename_i m n _ p a b
    obtain rfl:=hy _ rfl
    refine⟨_,fun w=>?_,hd⟩
    have hb:=A1G (P:=P) (y:=.slice none m n) neg (by simp) (by simp) (by simp) (by simp) (B6Y ht p a b m n) w
    cases neg<;>simpa[B1U,go_sem] using hb
   ·exact hd.elim
  ·exact hd.elim
 |map e f=>
  simp only[A5P,ht] at hd
  split at hd
  ·split at hd
   ·rename_i p
    obtain rfl:=hy _ rfl
    refine⟨_,fun w=>?_,hd⟩
    have hb:=A1G (P:=P) (y:=.map none) neg (by simp) (by simp) (by simp) (by simp) (B60 ht p) w
    cases neg<;>simpa[B1U,go_sem] using hb
   ·exact hd.elim
  ·exact hd.elim
 |interface ms=>
  simp only[A5P,ht] at hd
  split at hd
  ·obtain⟨hx,hk⟩:=hd
   obtain rfl:=hy _ rfl
   refine⟨_,fun w=>?_,hk⟩
   have hb:=A1G (P:=P) (y:=.nilIface) neg (by intros;rintro rfl;simp[isIface] at hx) (by intros;rintro rfl;simp[isIface] at hx) (by intros;rintro rfl;simp[isIface] at hx) (by intros;rintro rfl;simp[isIface] at hx) (B4l ht x hx) w
   have hg:eqGuard (B1U neg) t xo (.const .nilIface) x .nilIface=pure ():=by cases x<;>simp[isIface] at hx<;>simp[go_sem]
   rw[hg]
   cases neg<;>simpa[B1U] using hb
  ·exact hd.elim
 |func a b c=>
  simp only[A5P,ht] at hd
  split at hd
  ·obtain⟨hx,hk⟩:=hd
   obtain rfl:=hy _ rfl
   refine⟨_,fun w=>?_,hk⟩
   have hb:=A1G (P:=P) (y:=.nilFunc) neg (by intros;rintro rfl;simp[A7t] at hx) (by intros;rintro rfl;simp[A7t] at hx) (by intros;rintro rfl;simp[A7t] at hx) (by intros;rintro rfl;simp[A7t] at hx) (B5S ht x hx) w
   have hg:eqGuard (B1U neg) t xo (.const .nilFunc) x .nilFunc=pure ():=by cases x<;>simp[A7t] at hx<;>simp[go_sem]
   rw[hg]
   cases neg<;>simpa[B1U] using hb
  ·exact hd.elim
 |int ki=>
  simp only[A5P,ht] at hd
  cases x<;>try exact hd.elim
  cases y<;>try exact hd.elim
  rename_i kx a ky b
  simp only at hd
  cases jh:B0x kx ky with
  |false=>simp only[jh] at hd;exact hd.elim
  |true=>
   simp only[jh] at hd
   obtain rfl:=A7v jh
   refine⟨_,fun w=>?_,hd⟩
   cases neg<;>simp[B1U,go_sem,A6Q,bne]
 |bool=>
  simp only[A5P,ht] at hd
  cases x<;>try exact hd.elim
  cases y<;>try exact hd.elim
  rename_i a b
  refine⟨_,fun w=>?_,hd⟩
  have hb:=A1G (P:=P) (y:=.bool b) neg (by simp) (by simp) (by simp) (by simp) (C1V ht a b) w
  cases neg<;>simpa[B1U,go_sem] using hb
 |string=>
  simp only[A5P,ht] at hd
  cases x<;>try exact hd.elim
  cases y<;>try exact hd.elim
  rename_i a b
  refine⟨_,fun w=>?_,hd⟩
  rw[←C08]
  cases neg<;>simp[B1U,go_sem,A6Q,binOp,Op.stringOp]
 |struct fields=>
  simp only[A5P,ht] at hd
  cases x<;>try exact hd.elim
  rename_i xs
  simp only at hd
  cases hr:B5T P 8 t (.agg xs) y with
  |none=>simp only[hr] at hd;exact hd.elim
  |some r=>
   simp only[hr] at hd
   refine⟨_,fun w=>?_,hd⟩
   have h1:=(A2a 8 hr 9992 w).1
   have h2:=(A2a 8 hr 9992 w).2.1
   have hg:(eqGuard (B1U neg) t xo yo (.agg xs) y).run P w=.ok () w:=by
    have pG:∃ys,y=.agg ys:=by
     unfold B5T at hr
     simp only[ht] at hr
     cases cy:P.stoodInHeld t with
     |true=>simp only[cy] at hr;cases hr
     |false=>
      simp only[cy] at hr
      cases y<;>try cases hr
      exact⟨_,rfl⟩
    obtain⟨ys,rfl⟩:=pG
    have xY:(Op.eqGuardIn Op.maxDepth t (.agg xs) (.agg ys)).run P w=.ok false w:=h2
    cases neg
    all_goals
     simp only[eqGuard,B1U,H7,if_false,if_true,N7,Sem.run_bind,run_program,Result.andThen_ok]
     simp only[Sem.run_ite]
     split
     ·rfl
     ·simp only[Sem.run_bind,xY,Result.andThen_ok,H7,if_false]
      rfl
   have vT:(Op.equal t (.agg xs) y).run P w=.ok r w:=h1
   have hb:=A1G (P:=P) (t:=t) (x:=.agg xs) (y:=y) (r:=r) neg (by simp) (by simp) (by simp) (by simp)
   rw[Sem.run_bind,hg,Result.andThen_ok]
   exact hb (fun w=>(A2a 8 hr 9992 w).1) w
 |_=>simp only[A5P,ht] at hd;exact hd.elim
theorem B9b{op:BinOp}{t:TypeId}{xo yo:Operand}{x y:Value}(hy:∀c,yo=.const c→y=c)(hd:C2a P op t yo x y k h Q):
  ∃v,(∀w,(do eqGuard op t xo yo x y;binOp op t x y:Sem Value).run P w=.ok v w)∧k v h Q:=by
 unfold C2a at hd
 split at hd
 ·exact B3W (neg:=false) hy hd
 ·exact B3W (neg:=true) hy hd
 ·rename_i h1 h2
  have hg:∀a b,eqGuard op t xo yo a b=pure ():=by intro a b;cases op<;>first|rfl|exact absurd rfl h1|exact absurd rfl h2
  rw[hg]
  split at hd
  ·obtain⟨v,hv,hk⟩:=B88 (t:=t) h1 h2 hd
   exact⟨v,fun w=>by simpa using hv w,hk⟩
  ·obtain⟨v,hv,hk⟩:=B84 (t:=t) h1 h2 hd
   exact⟨v,fun w=>by simpa using hv w,hk⟩
  ·exact hd.elim
theorem add_zero(a:Addr):a.add 0=a:=by simp[Addr.add]
theorem C2h{h:Heap}{a:Addr}{v:Value}(hc:W0 h a=some v):a.spot=none:=by
 unfold W0 at hc
 split at hc
 ·cases hs:a.spot with
  |none=>rfl
  |some x=>simp[hs] at hc
 ·cases hc
theorem B7e{w:World}{a:Addr}{v:Value}(hc:W0 w.heap a=some v):(load a).run P w=.ok v w:=by
 rw[run_load,B9g,hc]
theorem run_loadCellsFrom(a:Addr)(w:World):∀(vs:C9P) (i:Nat) (acc:C9O),(∀(j:Nat) v,vs[j]? =some v→W0 w.heap (a.add (i+j))=some v)→
  (loadCellsFrom a i vs.length acc).run P w=.ok (acc++vs.toArray) w
 |[],_,acc,_=>by simp[loadCellsFrom]
 |v::vs,i,acc,hc=>by
  have h0:=hc 0 v rfl
  simp only[B8,loadCellsFrom,Sem.run_bind]
  rw[B7e (by simpa using h0)]
  simp only[Result.andThen_ok]
  rw[run_loadCellsFrom a w vs (i+1) (acc.push v) (fun j u hj=>by have:=hc (j+1) u (by simpa using hj);rwa[show i+1+j=i+(j+1) from by omega])]
  congr 1
  apply I3.1
  simp
theorem run_loadCells{a:Addr}{w:World}{vs:C9P}{n:Nat}(hn:n=vs.length)(hc:∀(j:Nat) v,vs[j]? =some v→W0 w.heap (a.add j)=some v):
  (loadCells a n).run P w=.ok vs.toArray w:=by
 subst hn
 have:=run_loadCellsFrom (P:=P) a w vs 0 #[] (by simpa using hc)
 simpa[loadCells] using this
theorem B24{s t:TypeId}{x:Value}(hd:A2H P s t x k h Q):
  ∃v,(∀w,(w.heap=h∨∃kd,P.underlying t=some (.int kd))→(convert s t x).run P w=.ok v w)∧k v h Q:=by
 cases hs:P.underlying s with
 |none=>simp only[A2H,hs] at hd;exact hd.elim
 |some ds=>
 cases ht:P.underlying t with
 |none=>simp only[A2H,hs,ht] at hd;exact hd.elim
 |some dt=>
 cases dt with
 |int kd=>
  simp only[A2H,hs,ht] at hd
  cases x<;>try exact hd.elim
  exact⟨_,fun w _=>by simp[convert,W5 hs,W5 ht,Conv.intToInt],hd⟩
 |string=>
  simp only[A2H,hs,ht] at hd
  cases x<;>try exact hd.elim
  ·exact⟨_,fun w _=>by simp[convert,W5 hs,W5 ht],hd⟩
  ·rename_i a n c
   simp only at hd
   cases ds with
   |slice e=>
    simp only at hd
    cases he:P.underlying e with
    |none=>simp only[he] at hd;exact hd.elim
    |some de=>
    simp only[he] at hd
    cases de with
    |int kd=>
     cases kd with
     |u8=>
      obtain⟨ns,hr,hq⟩:=hd
      refine⟨_,fun w hw=>?_,hq⟩
      have hw:w.heap=h:=by
       rcases hw with hw|⟨kd,hk⟩
       ·exact hw
       ·cases hk
      subst hw
      rw[run_convert_bytes_string w s t e a n c hs he ht]
      cases a with
      |none=>
       have qe:ns=[]:=by simpa[A51] using hr
       subst qe
       rfl
      |some a=>
       obtain⟨h1,h2⟩:=hr
       refine run_bytesToString w a n c ns ?_
       exact run_loadCells (by simpa using h1.symm) (fun j v hv=>h2 j v (by simpa using hv))
     |_=>exact hd.elim
    |_=>exact hd.elim
   |_=>exact hd.elim
 |_=>simp only[A2H,hs,ht] at hd;exact hd.elim
end
end
section
theorem B4k(h:Heap)(a b:Addr)(v:Value):(W0 (A2t h a v) b).isSome=(W0 h b).isSome:=by
 unfold W0 A2t
 simp only[O6]
 by_cases hb:a.block=b.block
 ·simp only[hb,if_true]
  cases hh:h[b.block]? with
  |none=>simp
  |some x=>
   cases x<;>simp
   cases hs:b.spot<;>simp
   cases af:a.spot<;>simp
   rename_i c _ _
   by_cases ah:b.off<c.size
   ·simp[ah]
   ·simp[ah]
 ·simp[hb]
theorem B2W(h:Heap)(a b:Addr)(v:Value):A2j (A2t h a v) b=A2j h b:=by
 unfold A2j A2t
 simp only[O6]
 by_cases hb:a.block=b.block
 ·simp only[hb,if_true]
  cases hh:h[b.block]? with
  |none=>simp
  |some x=>cases x<;>simp
 ·simp[hb]
section
variable {P:Program}
theorem A1U(a:Addr):∀(vs:C9P) (i:Nat) (w:World),(∀(j:Nat) v,vs[j]? =some v→(W0 w.heap (a.add (i+j))).isSome=true∧A2j w.heap (a.add (i+j))=false∧v.oneCell'=true)→
  ∃w',(storeCells a vs i).run P w=.ok () w'∧y9 w w'∧w'.heap=A2f w.heap a vs i
 |[],i,w,_=>⟨w,by simp[storeCells],y9.refl w,rfl⟩
 |v::vs,i,w,hc=>by
  obtain⟨h1,h2,h3⟩:=hc 0 v rfl
  simp only[O7] at h1 h2
  obtain⟨w',hr,hs,hh⟩:=A1U a vs (i+1) (w.setCell (a.add i) v) (fun j u hj=>by
   obtain⟨k1,k2,k3⟩:=hc (j+1) u (by simpa using hj)
   rw[show i+1+j=i+(j+1) from by omega,B8l,B4k,B2W]
   exact⟨k1,k2,k3⟩)
  refine⟨w',?_,⟨hs.os,hs.tape,hs.output⟩,hh⟩
  simp only[storeCells,Sem.run_bind]
  rw[run_store P w _ v _ h3,B9g]
  obtain⟨u,hu⟩:=Option.isSome_iff_exists.1 h1
  rw[hu,C35,h2]
  simpa using hr
theorem B34{t:TypeId}{d:TypeDesc}{w:World}{a:Addr}{vs:C9P}(hd:P.underlying t=some d)(eo:B0w d=true)
  (hn:P.cellsOf t=vs.length)(hc:∀(j:Nat) v,vs[j]? =some v→W0 w.heap (a.add j)=some v):(loadVar t a).run P w=.ok (.agg vs.toArray) w:=by
 obtain⟨i,hi⟩:=B3Q hd
 simp only[loadVar,Sem.run_bind,A9f hd,Result.andThen_ok,eo,if_true,A0I hi]
 rw[run_loadCells (by rw[←hn,A2c hi]) hc]
 rfl
theorem B33{t:TypeId}{d:TypeDesc}{w:World}{a:Addr}{v:Value}(hd:P.underlying t=some d)(eo:B0w d=false)
  (hc:W0 w.heap a=some v):(loadVar t a).run P w=.ok v w:=by
 simp only[loadVar,Sem.run_bind,A9f hd,Result.andThen_ok,eo]
 exact B7e hc
variable {ρ:Type} {k:Value→HM ρ} {h:Heap} {Q:ρ→Heap→Prop}
theorem C6w(ts:List Tag)(x:Tup ts):(Tup.cC ts x).length=ts.length:=by
 induction ts with
 |nil=>rfl
 |cons t ts ih=>simp[HT.cC,ih]
theorem A92{t:TypeId}{x:Value}(hd:B4E P t x k h Q):∃v,(∀w,w.heap=h→(Instr.loadAt t x).run P w=.ok v w)∧k v h Q:=by
 unfold B4E at hd
 cases x<;>try exact hd.elim
 rename_i p
 cases p with
 |none=>exact hd.elim
 |some a=>
 have hl:∀w,(Instr.loadAt t (.pointer (some a))).run P w=(loadVar t a).run P w:=fun w=>by simp[Instr.loadAt,Instr.sureAddr]
 simp only[hl]
 simp only at hd
 cases hu:P.underlying t with
 |none=>simp only[hu] at hd;exact hd.elim
 |some d=>
  simp only[hu] at hd
  cases eo:B0w d with
  |true=>
   simp only[eo] at hd
   cases hk:kindOf P t with
   |none=>simp only[hk] at hd;exact hd.elim
   |some kd=>
    cases kd with
    |one tg=>simp only[hk] at hd;exact hd.elim
    |agg ts=>
     simp only[hk] at hd
     cases hb:Nat.beq ts.length (P.cellsOf t) with
     |false=>simp only[hb] at hd;exact hd.elim
     |true=>
      simp only[hb] at hd
      obtain⟨x,hx,hq⟩:=hd
      refine⟨_,fun w hw=>?_,hq⟩
      subst hw
      exact B34 hu eo (by rw[C6w];exact(E3 hb).symm) hx
  |false=>
   simp only[eo] at hd
   cases hk:kindOf P t with
   |none=>simp only[hk] at hd;exact hd.elim
   |some kd=>
    cases kd with
    |agg ts=>simp only[hk] at hd;exact hd.elim
    |one tg=>
     simp only[hk] at hd
     obtain⟨x,hx,hq⟩:=hd
     exact⟨_,fun w hw=>by subst hw;exact B33 hu eo hx,hq⟩
theorem A30{kd:Kind}{v:Value}{cs:C9P}(h1:A2A kd v=some cs)(fO:∀t,kd=.one t→v.oneCell'=true):v.cells=cs.toArray:=by
 cases kd with
 |one t=>
  simp only[A2A,F4] at h1
  subst h1
  have:=fO t rfl
  cases v<;>first|rfl|simp[Value.oneCell'] at this
 |agg ts=>
  simp only[A2A] at h1
  cases v<;>simp only at h1<;>try cases h1
  split at h1
  ·cases h1;simp[Value.cells]
  ·cases h1
theorem B0Y{kd:Kind}{v:Value}{α:Type}{m:HM α}{R:α→Heap→Prop}(hd:B8v kd v m h R):(∀t,kd=.one t→v.oneCell'=true)∧m h R:=by
 cases kd with
 |agg ts=>exact⟨fun t ht=>(by cases ht),hd⟩
 |one tg=>
  simp only[B8v] at hd
  cases ha:tg.isAny with
  |true=>simp only[ha] at hd;exact⟨fun _ _=>hd.1,hd.2⟩
  |false=>
   simp only[ha] at hd
   cases hx:tg.get v with
   |none=>simp only[hx] at hd;exact hd.elim
   |some x=>
    simp only[hx] at hd
    refine⟨fun t ht=>?_,hd⟩
    have:=Tag.bS hx
    subst this
    cases tg<;>first|rfl|cases ha
theorem B53{t:TypeId}{x v:Value}(hd:B54 P t x v k h Q):∀w,w.heap=h→∃w',(Instr.storeAt t x v).run P w=.ok () w'∧y9 w w'∧k undef w'.heap Q:=by
 unfold B54 at hd
 cases x<;>try exact hd.elim
 rename_i p
 cases p with
 |none=>exact hd.elim
 |some a=>
 simp only at hd
 cases hk:kindOf P t with
 |none=>simp only[hk] at hd;exact hd.elim
 |some kd=>
  simp only[hk] at hd
  obtain⟨i,z,hi,hz,-⟩:=B97 hk
  cases hc:A2A kd v with
  |none=>simp only[hc] at hd;exact hd.elim
  |some cs=>
   simp only[hc] at hd
   cases hb:Nat.beq cs.length (P.cellsOf t) with
   |false=>simp only[hb] at hd;exact hd.elim
   |true=>
    simp only[hb] at hd
    have hlen:=E3 hb
    intro w hw
    subst hw
    have cy:∀(vs:C9P),v.cells=vs.toArray→(Instr.storeAt t (.pointer (some a)) v).run P w=(storeCells a vs 0).run P w∨vs.length≠i.size:=by
     intro vs dm
     by_cases hl:vs.length=i.size
     ·left
      simp[Instr.storeAt,Instr.sureAddr,storeVar,A0I hi,dm,hl]
     ·exact .inr hl
    cases kd with
    |one tg=>
     simp only at hd
     obtain⟨h1,h2,h3,hq⟩:=hd
     have hv:=A30 hc (fun _ _=>h3)
     simp only[A2A,F4] at hc
     subst hc
     obtain⟨w',hr,hs,hh⟩:=A1U (P:=P) a [v] 0 w (fun j u hj=>by
      cases j with
      |zero=>simp at hj;subst hj;rw[L9,add_zero];exact⟨h1,h2,h3⟩
      |succ j=>simp at hj)
     refine⟨w',?_,hs,?_⟩
     ·rcases cy [v] hv with he|he
      ·rw[he];exact hr
      ·rw[A2c hi] at hlen;exact absurd hlen he
     ·rw[hh]
      simpa[A2f,add_zero] using hq
    |agg ts=>
     simp only at hd
     obtain⟨h1,hq⟩:=hd
     have hv:=A30 hc (fun _ ht=>by cases ht)
     obtain⟨w',hr,hs,hh⟩:=A1U (P:=P) a cs 0 w (fun j u hj=>by rw[L9];exact h1 j u hj)
     refine⟨w',?_,hs,by rw[hh];exact hq⟩
     rcases cy cs hv with he|he
     ·rw[he];exact hr
     ·rw[A2c hi] at hlen;exact absurd hlen he
theorem C1d{t:TypeId}{v:Value}{cs:C9P}(hv:v.cells=cs.toArray)(w:World):
  (newVar t v).run P w=.ok ⟨w.heap.size,0,none⟩ {w with heap:=w.heap.push (.cells cs.toArray t)}:=by
 simp[newVar,newRow,hv]
theorem B9a{t:TypeId}{v:Value}(hd:C19 P t v k h Q):∀w,w.heap=h→∃u w',(Instr.box t v).run P w=.ok u w'∧y9 w w'∧k u w'.heap Q:=by
 unfold C19 at hd
 cases hk:kindOf P t with
 |none=>simp only[hk] at hd;exact hd.elim
 |some kd=>
  simp only[hk] at hd
  cases hc:A2A kd v with
  |none=>simp only[hc] at hd;exact hd.elim
  |some cs=>
   simp only[hc] at hd
   obtain⟨ho,hq⟩:=B0Y hd
   intro w hw
   subst hw
   exact⟨_,w.alloc (.cells cs.toArray t),by simp[Instr.box,C1d (A30 hc ho)],⟨rfl,rfl,rfl⟩,hq⟩
theorem B6m{t:TypeId}(hd:B6n P t k h Q):∀w,w.heap=h→∃u w',(Instr.alloc t true (.tuple #[])).run P w=.ok u w'∧y9 w w'∧k u w'.heap Q:=by
 unfold B6n at hd
 cases hi:P.info? t with
 |none=>simp only[hi] at hd;exact hd.elim
 |some i=>
  simp only[hi] at hd
  cases hz:i.zero with
  |none=>simp only[hz] at hd;exact hd.elim
  |some z=>
   simp only[hz] at hd
   intro w hw
   subst hw
   exact⟨_,w.alloc (.cells z.cells t),by simp[Instr.alloc,A2u hi hz,newVar,newRow],⟨rfl,rfl,rfl⟩,hd⟩
theorem B0F{s:TypeId}{x:Value}{f:Nat}(hd:A7H P s x f k h Q):∃v,(∀w,(Instr.fieldAt s x f).run P w=.ok v w)∧k v h Q:=by
 unfold A7H at hd
 cases x<;>try exact hd.elim
 rename_i p
 cases p with
 |none=>exact hd.elim
 |some a=>
 simp only at hd
 cases hu:P.underlying s with
 |none=>simp only[hu] at hd;exact hd.elim
 |some d=>
 cases d with
 |struct fields=>
  simp only[hu] at hd
  cases hf:fields.toList[f]? with
  |none=>simp only[hf] at hd;exact hd.elim
  |some fd=>
   simp only[hf] at hd
   cases hb:Nat.ble 1 (P.cellsOf fd.type) with
   |false=>simp only[hb] at hd;exact hd.elim
   |true=>
    simp only[hb] at hd
    refine⟨_,fun w=>?_,hd⟩
    have nV:fields[f]? =some fd:=by simpa using hf
    have hsz:1≤P.cellsOf fd.type:=O8 hb
    cases hi:P.info? fd.type with
    |none=>simp[Program.cellsOf,hi] at hsz
    |some i=>
     rw[A2c hi] at hsz
     have cg:i.size≠0:=by omega
     simp[Instr.fieldAt,W5 hu,nV,Instr.sureAddr,fieldPlace,A0I hi,cg]
 |_=>simp only[hu] at hd;exact hd.elim
theorem B6c{t:TypeId}{x:Value}{f:Nat}(hd:B6d P t x f k h Q):∃v,(∀w,(Instr.field t x f).run P w=.ok v w)∧k v h Q:=by
 unfold B6d at hd
 cases x<;>try exact hd.elim
 rename_i cs
 simp only at hd
 cases hu:P.underlying t with
 |none=>simp only[hu] at hd;exact hd.elim
 |some d=>
 cases d with
 |struct fields=>
  simp only[hu] at hd
  cases hf:fields.toList[f]? with
  |none=>simp only[hf] at hd;exact hd.elim
  |some fd=>
   simp only[hf] at hd
   cases hp:A4n P fd.type cs.toList fd.offset with
   |none=>simp only[hp] at hd;exact hd.elim
   |some v=>
    simp only[hp] at hd
    refine⟨_,fun w=>?_,hd⟩
    have nV:fields[f]? =some fd:=by simpa using hf
    have:=A2g hp w
    simp only[Instr.field,Sem.run_bind,W5 hu,Result.andThen_ok,nV,asAgg,Sem.run_pure]
    simpa using this
 |_=>simp only[hu] at hd;exact hd.elim
theorem B0E{t:TypeId}{x i:Value}(hd:A7G P t x i k h Q):∃v,(∀w,(Instr.indexAt t x i).run P w=.ok v w)∧k v h Q:=by
 unfold A7G at hd
 cases i<;>try exact hd.elim
 rename_i ki n
 simp only at hd
 cases hu:P.underlying t with
 |none=>simp only[hu] at hd;exact hd.elim
 |some d=>
 cases d with
 |slice elem=>
  simp only[hu] at hd
  cases x<;>try exact hd.elim
  rename_i a len cap
  simp only at hd
  cases hi:P.info? elem with
  |none=>simp only[hi] at hd;exact hd.elim
  |some inf=>
   simp only[hi] at hd
   obtain⟨ad,rfl,h0,h1,hq⟩:=hd
   refine⟨_,fun w=>?_,hq⟩
   simp[Instr.indexAt,asIntOf,W5 hu,h0,h1,A0I hi]
 |array len elem=>
  simp only[hu] at hd
  cases x<;>try exact hd.elim
  rename_i p
  cases p with
  |none=>exact hd.elim
  |some a=>
  simp only at hd
  cases hi:P.info? elem with
  |none=>simp only[hi] at hd;exact hd.elim
  |some inf=>
   simp only[hi] at hd
   obtain⟨ad,hh,h0,h1,hq⟩:=hd
   cases hh
   refine⟨_,fun w=>?_,hq⟩
   simp[Instr.indexAt,asIntOf,W5 hu,h0,h1,A0I hi,Instr.sureAddr]
 |_=>simp only[hu] at hd;exact hd.elim
theorem B6a{t:TypeId}{x i:Value}(hd:B6b P t x i k h Q):∃v,(∀w,(Instr.index t x i).run P w=.ok v w)∧k v h Q:=by
 unfold B6b at hd
 cases i<;>try exact hd.elim
 rename_i ki n
 simp only at hd
 cases hu:P.underlying t with
 |none=>simp only[hu] at hd;exact hd.elim
 |some d=>
 cases d with
 |string=>
  simp only[hu] at hd
  cases x<;>try exact hd.elim
  rename_i s
  simp only at hd
  obtain⟨b,h0,hb,hq⟩:=hd
  refine⟨_,fun w=>?_,hq⟩
  simp[Instr.index,asIntOf,W5 hu,h0,hb]
 |_=>simp only[hu] at hd;exact hd.elim
theorem B1Z{o:Oper}{x:Operand}{ev:Operand→Value}(ho:o.op=.nilCheck x)(hd:B3V (ev x) k h Q):∃v,Stat P (execOp ev o) v∧k v h Q:=by
 cases hp:ev x with
 |pointer p=>
  rw[hp] at hd
  obtain⟨a,rfl,hq⟩:=hd
  exact⟨_,fun w=>by simp[execOp,ho,hp],hq⟩
 |func fn first captured=>
  rw[hp] at hd
  cases fn with
  |func f=>exact⟨_,fun w=>by simp[execOp,ho,hp],hd⟩
  |_=>exact hd.elim
 |_=>rw[hp] at hd;exact hd.elim
end
end
section
section
variable {P:Program} {ρ:Type} {k:Value→HM ρ} {h:Heap} {Q:ρ→Heap→Prop}
def A4s(v:Option Value)(r:Option Int):Prop:=
 match r with
 |none=>v=none
 |some n=>∃kd,v=some (.int kd n)
theorem A7g{n:Nat}{e:Env}{a:Act}(hA:A0o n e a){x:Option Operand}{r:Option Int}(hx:A7h e x=some r):A4s (x.map a.eval) r:=by
 cases x with
 |none=>simp only[A7h,F4] at hx;subst hx;rfl
 |some x=>
  simp only[A7h] at hx
  split at hx
  ·rename_i kd m hv
   cases hx
   exact⟨kd,by simp[hA.ev hv]⟩
  ·cases hx
theorem run_sliceBound(kd:IntKind)(n:Int)(y:Nat)(code:BoundsCode)(m:Nat)(hm:n=(m:Int))(hle:m≤y)(w:World):
  (Instr.sliceBound (.int kd n) y code).run P w=.ok m w:=by
 subst hm
 have h1:(0:Int)≤(m:Int)∧(m:Int)≤(y:Int):=by omega
 simp[Instr.sliceBound,asIntOf,h1]
theorem A7W{b:Bool}{len cap:Nat}{lo hi mx:Option Value}{rl rh rm:Option Int}(hl:A4s lo rl)(hh:A4s hi rh)(hm:A4s mx rm){l u m:Nat}
  (h1:A36 rm (m=cap) m cap)(h2:A36 rh (rm=none∧u=len) u m)(h3:A36 rl (l=0) l u)(w:World):(Instr.sliceBounds b len cap lo hi mx).run P w=.ok (l,u,m) w:=by
 unfold Instr.sliceBounds
 cases rm with
 |none=>
  simp only[A4s] at hm;subst hm
  simp only[A36] at h1;subst h1
  cases rh with
  |none=>
   simp only[A4s] at hh;subst hh
   obtain⟨-,rfl⟩:=h2
   cases rl with
   |none=>simp only[A4s] at hl;subst hl;simp only[A36] at h3;subst h3;rfl
   |some x=>obtain⟨kd,rfl⟩:=hl;simp[run_sliceBound _ _ _ _ _ h3.1 h3.2]
  |some y=>
   obtain⟨kd,rfl⟩:=hh
   cases rl with
   |none=>simp only[A4s] at hl;subst hl;simp only[A36] at h3;subst h3;simp[run_sliceBound _ _ _ _ _ h2.1 h2.2]
   |some x=>obtain⟨kd,rfl⟩:=hl;simp[run_sliceBound _ _ _ _ _ h2.1 h2.2,run_sliceBound _ _ _ _ _ h3.1 h3.2]
 |some z=>
  obtain⟨kz,rfl⟩:=hm
  cases rh with
  |none=>exact absurd h2.1 (by simp)
  |some y=>
   obtain⟨kd,rfl⟩:=hh
   cases rl with
   |none=>simp only[A4s] at hl;subst hl;simp only[A36] at h3;subst h3;simp[run_sliceBound _ _ _ _ _ h1.1 h1.2,run_sliceBound _ _ _ _ _ h2.1 h2.2]
   |some x=>obtain⟨kd,rfl⟩:=hl;simp[run_sliceBound _ _ _ _ _ h1.1 h1.2,run_sliceBound _ _ _ _ _ h2.1 h2.2,run_sliceBound _ _ _ _ _ h3.1 h3.2]
theorem B55{t:TypeId}{x:Value}{lo hi mx:Option Value}{rl rh rm:Option Int}(hl:A4s lo rl)(hh:A4s hi rh)(hm:A4s mx rm)
  (hd:B56 P t x rl rh rm k h Q):∃v,(∀w,(Instr.sliceAt t x lo hi mx).run P w=.ok v w)∧k v h Q:=by
 unfold B56 at hd
 cases hu:P.underlying t with
 |none=>simp only[hu] at hd;exact hd.elim
 |some d=>
 cases d with
 |string=>
  simp only[hu] at hd
  cases x<;>try exact hd.elim
  rename_i s
  cases rm with
  |some _=>exact hd.elim
  |none=>
   obtain⟨l,u,h1,h2,hq⟩:=hd
   refine⟨_,fun w=>?_,hq⟩
   have kW:mx=none:=hm
   subst kW
   have vT:A36 rh ((none:Option Int)=none∧u=s.size) u s.size:=by
    cases rh with
    |none=>exact⟨rfl,h1⟩
    |some y=>exact h1
   have hb:=A7W (P:=P) (b:=false) (len:=s.size) (cap:=s.size) (m:=s.size) hl hh (mx:=none) (rm:=none) rfl rfl vT h2 w
   simp only[Instr.sliceAt,Sem.run_bind,W5 hu,Result.andThen_ok,Instr.slice,Option.isSome_none,H7,if_false,hb]
   rfl
 |slice elem=>
  simp only[hu] at hd
  cases x<;>try exact hd.elim
  rename_i a n c
  simp only at hd
  cases kg:P.info? elem with
  |none=>simp only[kg] at hd;exact hd.elim
  |some inf=>
   simp only[kg] at hd
   obtain⟨l,u,m,h1,h2,h3,hq⟩:=hd
   refine⟨_,fun w=>?_,hq⟩
   have hb:=A7W (P:=P) (b:=true) (len:=n) (cap:=c) hl hh hm h1 h2 h3 w
   simp only[Instr.sliceAt,Sem.run_bind,W5 hu,Result.andThen_ok,Instr.slice,hb,A0I kg]
   rfl
 |_=>simp only[hu] at hd;exact hd.elim
def Kind.width:Kind→Nat
 |.one _=>1
 |.agg ts=>ts.length
theorem A8y(cs:C9P)(off:Nat):A3h cs off []=cs:=by cases cs<;>rfl
theorem B1p(v:Value)(vs:C9P):∀(cs:C9P) (off:Nat),off<cs.length→A3h cs off (v::vs)=A3h (cs.set off v) (off+1) vs
 |[],off,h=>by simp at h
 |c::cs,0,_=>by
  cases vs with
  |nil=>simp[A3h,A8y]
  |cons u us=>simp[A3h]
 |c::cs,off+1,h=>by
  have ih:=B1p v vs cs off (by simpa using h)
  cases vs with
  |nil=>simp only[A3h,List.set_cons_succ,A8y] at ih⊢;rw[ih]
  |cons u us=>simp only[A3h,List.set_cons_succ] at ih⊢;rw[ih]
theorem B1P(off:Nat):∀(vs:C9P) (i:Nat) (cs:C9P),off+i+vs.length≤cs.length→
  (vs.zipIdx i).foldl (fun cs (x:Value×Nat)=>cs.setIfInBounds (off+x.2) x.1) cs.toArray=(A3h cs (off+i) vs).toArray
 |[],i,cs,_=>by simp[A8y]
 |v::vs,i,cs,hle=>by
  simp only[B8] at hle
  rw[B1p v vs cs (off+i) (by omega)]
  have:=B1P off vs (i+1) (cs.set (off+i) v) (by simp;omega)
  simp only[List.zipIdx_cons,I1]
  rw[show off+i+1=off+(i+1) from by omega,←this]
  congr 1
  simp
theorem C0E{kd:Kind}{v:Value}{cs:C9P}(h1:A2A kd v=some cs):cs.length=kd.width:=by
 cases kd with
 |one t=>simp only[A2A,F4] at h1;subst h1;rfl
 |agg ts=>
  simp only[A2A] at h1
  cases v<;>simp only at h1<;>try cases h1
  split at h1
  ·rename_i hb;cases h1;exact E3 hb
  ·cases h1
theorem A3e{place:Nat→Option (Nat×Kind)}{m:HM ρ}:∀(ps:List (Nat×Value)),A6z place ps m h Q→
  (∀i v off kd,(i,v)∈ps→place i=some (off,kd)→∀t,kd=.one t→v.oneCell'=true)∧m h Q
 |[],hd=>by
  refine⟨fun _ _ _ _ hm=>?_,hd⟩
  exact absurd hm (R1)
 |(i,v)::rest,hd=>by
  simp only[A6z] at hd
  cases hp:place i with
  |none=>simp only[hp] at hd;exact hd.elim
  |some x=>
   obtain⟨off,kd⟩:=x
   simp only[hp] at hd
   obtain⟨h1,h2⟩:=B0Y hd
   obtain⟨h3,h4⟩:=A3e rest h2
   refine⟨fun j u off' kd' hm dp=>?_,h4⟩
   cases hm with
   |head=>rw[hp] at dp;cases dp;exact h1
   |tail _ hm=>exact h3 j u off' kd' hm dp
theorem A7B{place':Nat→Option (Nat×Nat)}{place:Nat→Option (Nat×Kind)}(fu:∀i off kd,place i=some (off,kd)→place' i=some (off,kd.width)):
  ∀(ps:List (Nat×Value)) (cs out:C9P),A57 place cs ps=some out→
   (∀i v off kd,(i,v)∈ps→place i=some (off,kd)→∀t,kd=.one t→v.oneCell'=true)→Instr.fill place' cs.toArray ps=some out.toArray
 |[],cs,out,hf,_=>by simp only[A57,F4] at hf;subst hf;rfl
 |(i,v)::rest,cs,out,hf,fO=>by
  simp only[A57] at hf
  split at hf
  ·rename_i off kd hp
   split at hf
   ·rename_i vs dm
    split at hf
    ·rename_i hb
     have hle:off+vs.length≤cs.length:=O8 hb
     have nX:=A30 dm (fO i v off kd (B4 ..) hp)
     have hlen:=C0E dm
     have ih:=A7B fu rest _ out hf (fun j u off' kd' hm=>fO j u off' kd' (C3 _ hm))
     simp only[Instr.fill,fu i off kd hp,nX]
     have fx:¬((vs.toArray.size≠kd.width||off+vs.toArray.size>cs.toArray.size)=true):=by
      simp[hlen];omega
     rw[if_neg fx]
     rw[←ih]
     congr 1
     have:=B1P off vs 0 cs (by omega)
     rw[O7] at this
     rw[←this]
     simp[←Array.foldl_toList]
    ·cases hf
   ·cases hf
  ·cases hf
theorem B9z{α β:Type}{f:α→Sem β}{g:α→β}{w:World}:∀(xs:List α),(∀x∈xs,(f x).run P w=.ok (g x) w)→(xs.mapM f).run P w=.ok (xs.map g) w
 |[],_=>rfl
 |x::xs,hf=>by
  rw[List.mapM_cons]
  simp only[Sem.run_bind,hf x (B4 ..),Result.andThen_ok,B9z xs (fun y hy=>hf y (C3 _ hy)),Sem.run_pure,B6]
theorem A93:∀(fs:List Field),B17 P fs=true→∀f∈fs,∃i,P.info? f.type=some i
 |[],_,_,hf=>by cases hf
 |g::fs,hi,f,hf=>by
  simp only[B17] at hi
  split at hi
  ·rename_i i aY
   cases hf with
   |head=>exact⟨i,aY⟩
   |tail _ hf=>exact A93 fs hi f hf
  ·cases hi
theorem B1R{fields:Array Field}{i off:Nat}{kd:Kind}(hp:A4e P fields i=some (off,kd)):∃f,fields.toList[i]? =some f∧f.offset=off∧P.cellsOf f.type=kd.width:=by
 unfold A4e at hp
 split at hp
 ·rename_i f hf
  refine⟨f,hf,?_⟩
  split at hp
  ·split at hp
   ·split at hp
    ·rename_i hb;cases hp;exact⟨rfl,E3 hb⟩
    ·cases hp
   ·split at hp
    ·rename_i hb;cases hp;exact⟨rfl,E3 hb⟩
    ·cases hp
  ·cases hp
 ·cases hp
theorem A6R{elem:TypeId}{i off:Nat}{kd:Kind}(hp:A2b P elem i=some (off,kd)):off=i*P.cellsOf elem∧P.cellsOf elem=kd.width:=by
 unfold A2b at hp
 split at hp
 ·split at hp
  ·split at hp
   ·rename_i hb;cases hp;have:=E3 hb;rw[this];exact⟨by omega,rfl⟩
   ·cases hp
  ·split at hp
   ·rename_i hb;cases hp;have:=E3 hb;rw[this];exact⟨rfl,rfl⟩
   ·cases hp
 ·cases hp
theorem B6k{t:TypeId}{ps:Array (Nat×Value)}(hd:B6l P t ps.toList k h Q):∃v,(∀w,(Instr.build t ps).run P w=.ok v w)∧k v h Q:=by
 unfold B6l at hd
 cases hu:P.underlying t with
 |none=>simp only[hu] at hd;exact hd.elim
 |some d=>
 cases d with
 |struct fields=>
  simp only[hu] at hd
  cases ha:B17 P fields.toList with
  |false=>simp only[ha] at hd;exact hd.elim
  |true=>
  simp only[ha] at hd
  cases hi:P.info? t with
  |none=>simp only[hi] at hd;exact hd.elim
  |some i=>
  simp only[hi] at hd
  cases hz:i.zero with
  |none=>simp only[hz] at hd;exact hd.elim
  |some z=>
  simp only[hz] at hd
  cases hf:A57 (A4e P fields) z.cells.toList ps.toList with
  |none=>simp only[hf] at hd;exact hd.elim
  |some cs=>
   simp only[hf] at hd
   obtain⟨fO,hq⟩:=A3e _ hd
   refine⟨_,fun w=>?_,hq⟩
   have fu:∀w,(fields.mapM fun f=>do pure (f.offset,←sizeOf f.type):Sem _).run P w=.ok (fields.map fun f=>(f.offset,P.cellsOf f.type)) w:=by
    intro w
    rw[Array.mapM_eq_mapM_toList]
    simp only[Sem.run_map]
    rw[B9z (g:=fun f=>(f.offset,P.cellsOf f.type)) fields.toList (fun f hf=>by
     obtain⟨i,hi⟩:=A93 _ ha f hf
     simp[A0I hi,A2c hi])]
    simp only[Result.andThen_ok]
    congr 1
    apply I3.1
    simp
   have dC:=A7B (place':=fun i=>(fields.map fun f=>(f.offset,P.cellsOf f.type))[i]?) (fun i off kd hp=>by
    obtain⟨f,hf,h1,h2⟩:=B1R hp
    have nV:fields[i]? =some f:=by simpa using hf
    simp[nV,h1,h2]) ps.toList _ _ hf fO
   simp only[Instr.build,Sem.run_bind,A2u hi hz,Result.andThen_ok,W5 hu,fu]
   simp only[Q6] at dC
   rw[dC]
   rfl
 |array len elem=>
  simp only[hu] at hd
  cases hi:P.info? t with
  |none=>simp only[hi] at hd;exact hd.elim
  |some i=>
  simp only[hi] at hd
  cases hz:i.zero with
  |none=>simp only[hz] at hd;exact hd.elim
  |some z=>
  simp only[hz] at hd
  cases he:P.info? elem with
  |none=>simp only[he] at hd;exact hd.elim
  |some ie=>
  simp only[he] at hd
  cases hf:A57 (A2b P elem) z.cells.toList ps.toList with
  |none=>simp only[hf] at hd;exact hd.elim
  |some cs=>
   simp only[hf] at hd
   obtain⟨fO,hq⟩:=A3e _ hd
   refine⟨_,fun w=>?_,hq⟩
   have dC:=A7B (place':=fun i=>some (i*ie.size,ie.size)) (fun i off kd hp=>by
    obtain⟨h1,h2⟩:=A6R hp
    rw[A2c he] at h1 h2
    simp[h1,h2]) ps.toList _ _ hf fO
   simp only[Instr.build,Sem.run_bind,A2u hi hz,Result.andThen_ok,W5 hu,A0I he]
   simp only[Q6] at dC
   rw[dC]
   rfl
 |_=>simp only[hu] at hd;exact hd.elim
theorem C6G(z:C9P)(n:Nat):C1h z n=(List.range (n*z.length)).map (fun i=>z[i % z.length]!):=by
 induction n with
 |zero=>simp[C1h]
 |succ n ih=>
  have hz:(List.range z.length).map (fun i=>z[i % z.length]!)=z:=by
   apply List.ext_getElem
   ·simp
   ·intro i h1 h2
    simp only[List.getElem_map,List.getElem_range]
    rw[Nat.mod_eq_of_lt h2,getElem!_pos z i h2]
  rw[C1h,ih,J6,Nat.add_comm,List.range_add,C0,hz]
  congr 1
  simp[F1,Q8]
theorem A9H{t:TypeId}{n:Nat}{ps:Array (Nat×Value)}(hd:A6a P t n ps.toList k h Q):
  ∀w,w.heap=h→∃v w',(Instr.buildSlice t n ps).run P w=.ok v w'∧y9 w w'∧k v w'.heap Q:=by
 unfold A6a at hd
 cases hu:P.underlying t with
 |none=>simp only[hu] at hd;exact hd.elim
 |some d=>
 cases d with
 |slice elem=>
  simp only[hu] at hd
  cases hi:P.info? elem with
  |none=>simp only[hi] at hd;exact hd.elim
  |some i=>
  simp only[hi] at hd
  cases hz:i.zero with
  |none=>simp only[hz] at hd;exact hd.elim
  |some z=>
  simp only[hz] at hd
  cases hb:Nat.beq z.cells.toList.length i.size with
  |false=>simp only[hb] at hd;exact hd.elim
  |true=>
  simp only[hb] at hd
  cases dy:Nat.ble (n*i.size) 16777216 with
  |false=>simp only[dy] at hd;exact hd.elim
  |true=>
  simp only[dy] at hd
  cases oa:Nat.ble 1 i.size with
  |false=>simp only[oa] at hd;exact hd.elim
  |true=>
  simp only[oa] at hd
  cases hf:A57 (A2b P elem) (C1h z.cells.toList n) ps.toList with
  |none=>simp only[hf] at hd;exact hd.elim
  |some cs=>
   simp only[hf] at hd
   obtain⟨fO,hq⟩:=A3e _ hd
   intro w hw
   subst hw
   refine⟨_,w.alloc (.cells cs.toArray elem),?_,⟨rfl,rfl,rfl⟩,hq⟩
   have h1:=E3 hb
   have h2:=O8 dy
   have h3:=O8 oa
   have dC:=A7B (place':=fun j=>some (j*i.size,i.size)) (fun j off kd hp=>by
    obtain⟨g1,g2⟩:=A6R hp
    rw[A2c hi] at g1 g2
    simp[g1,g2]) ps.toList _ _ hf fO
   have hsz:z.cells.size=i.size:=by simpa using h1
   have ta:(C1h z.cells.toList n).toArray=(Array.range (n*i.size)).map (fun j=>z.cells[j % z.cells.size]!):=by
    apply I3.1
    rw[C6G]
    simp[hsz,Array.toList_range]
    intro a _
    rw[getElem!_def]
    cases z.cells[a % i.size]? <;>rfl
   rw[ta] at dC
   have hle:¬(n*i.size>2 ^ 24):=by omega
   by_cases h0:n*i.size=0
   ·have ij:(Array.range (n*i.size)).map (fun j=>z.cells[j % z.cells.size]!)=#[]:=by rw[h0];simp
    rw[ij] at dC
    simp only[Instr.buildSlice,Sem.run_bind,W5 hu,Result.andThen_ok,A0I hi,if_neg hle,Sem.run_pure,Sem.run_ite,if_pos h0]
    simp only[h0]
    rw[show(Array.range 0).map (fun x=>(#[]:C9O)[x % (#[]:C9O).size]!)=#[] from by simp,dC]
    simp[newRow]
   ·simp only[Instr.buildSlice,Sem.run_bind,W5 hu,Result.andThen_ok,A0I hi,if_neg hle,Sem.run_pure,Sem.run_ite,if_neg h0,A2u hi hz]
    rw[dC]
    simp[newRow]
 |_=>simp only[hu] at hd;exact hd.elim
end
end
section
section
variable {P:Program} {ρ:Type} {k:Value→HM ρ} {h:Heap} {Q:ρ→Heap→Prop}
theorem A4U{a:C9N}{m n c size:Nat}{vs:C9O}{w:World}(hr:A51 w.heap a (n*size) vs):
  (Builtin.firstCells size n (.slice a m c)).run P w=.ok vs w:=by
 cases a with
 |none=>simp only[A51] at hr;subst hr;rfl
 |some x=>
  obtain⟨h1,h2⟩:=hr
  have:=run_loadCells (P:=P) (a:=x) (w:=w) (vs:=vs.toList) (n:=n*size) (by simp[h1]) (fun j v hj=>h2 j v (by simpa using hj))
  simpa[Builtin.firstCells] using this
theorem B0e{s:B3O}{size:Nat}{w:World}:(Builtin.firstCells size s.size (.string s)).run P w=.ok (s.data.map fun b=>.int .u8 b.toNat) w:=by
 simp[Builtin.firstCells,ByteArray.extract_zero_size]
theorem B6B{t u elem:TypeId}{ty:TypeId}{i:TypeInfo}{z x:Value}{s:Slc}{n:Nat}{src:Heap→C9O→Prop}{du:TypeDesc}
  (ht:P.underlying t=some (.slice elem))(hu:P.underlying u=some du)(xC:∀kd,du≠ .int kd)(hi:P.info? elem=some i)(hz:i.zero=some z)
  (hlen:∀w,(Builtin.lenOf x).run P w=.ok n w)
  (gh:∀(w:World) (vs:C9O),src w.heap vs→(Builtin.firstCells i.size n x).run P w=.ok vs w)
  {R:Slc→Heap→Prop}(hd:HM.append elem i.size i.bytes z.cells s n src h R):
  ∀w,w.heap=h→∃r w',(Builtin.append_ #[t,u] ty #[.slice s.a s.len s.cap,x]).run P w=.ok (.slice r.a r.len r.cap) w'∧y9 w w'∧R r w'.heap:=by
 intro w hw
 subst hw
 obtain⟨h1,h2⟩:=hd
 have sG:(match du with|.int _=>true|_=>false)=false:=by cases du<;>first|rfl|exact absurd rfl (xC _)
 by_cases hle:s.len+n≤s.cap
 ·obtain⟨vs,dm,hm⟩:=h1 hle
  cases ha:s.a with
  |none=>
   simp only[ha] at hm
   refine⟨_,w,?_,y9.refl w,hm⟩
   simp[Builtin.append_,W5 ht,W5 hu,sG,A0I hi,hlen,hle,gh w vs dm]
  |some a=>
   simp only[ha] at hm
   obtain⟨h3,hq⟩:=hm
   obtain⟨w',hr,hs,hh⟩:=A1U (P:=P) (a.add (s.len*i.size)) vs.toList 0 w (fun j v hj=>by rw[L9];exact h3 j v (by simpa using hj))
   refine⟨⟨some a,s.len+n,s.cap⟩,w',?_,hs,by rw[hh];exact hq⟩
   simp[Builtin.append_,W5 ht,W5 hu,sG,A0I hi,hlen,hle,gh w vs dm,hr]
 ·obtain⟨iS,nY,old,vs,hold,dm,hq⟩:=h2 (by omega)
  have fx:¬(((s.len+n:Nat):Int)>IntKind.i64.max∧(false=true∨i.bytes=0)):=by rw[IntKind.max_i64];omega
  have ez:¬(Builtin.nextslicecap (s.len+n) s.cap*i.bytes>2 ^ 48):=by omega
  have qy:s.len+n≤Question.cut (.appendCap (s.len+n) s.cap elem) (w.tape w.drawn (.appendCap (s.len+n) s.cap elem)):=by simp[Question.cut]
  have tE:Question.cut (.appendCap (s.len+n) s.cap elem) (w.tape w.drawn (.appendCap (s.len+n) s.cap elem))≤9223372036854775807:=by
   simp only[Question.cut]
   have:=Nat.mod_lt (w.tape w.drawn (.appendCap (s.len+n) s.cap elem)) (show 2 ^ 63-(s.len+n)>0 by omega)
   omega
  refine⟨_,(w.drew).alloc (.cells (old++vs++Builtin.zeroCells z.cells (Question.cut (.appendCap (s.len+n) s.cap elem) (w.tape w.drawn (.appendCap (s.len+n) s.cap elem))-(s.len+n))) elem),?_,⟨rfl,rfl,rfl⟩,hq _ qy tE⟩
  have qc:(Builtin.firstCells i.size s.len (.slice s.a s.len s.cap)).run P w.drew=.ok old w.drew:=A4U (w:=w.drew) hold
  have nD:(Builtin.firstCells i.size n x).run P w.drew=.ok vs w.drew:=gh w.drew vs dm
  have uf:¬(((s.len:Int)+(n:Int))>9223372036854775807∧i.bytes=0):=by omega
  simp[Builtin.append_,W5 ht,W5 hu,sG,A0I hi,hlen,hle,A8r hi,uf,ez,Question.forced,qc,nD,A2u hi hz,newRow]
theorem B4t{ts:Array TypeId}{ty:TypeId}{vs:C9O}(hd:B25 P ts.toList vs.toList k h Q):
  ∀w,w.heap=h→∃r w',(Builtin.append_ ts ty vs).run P w=.ok r w'∧y9 w w'∧k r w'.heap Q:=by
 obtain⟨ts⟩:=ts
 obtain⟨vs⟩:=vs
 simp only at hd
 unfold B25 at hd
 match ts,vs,hd with
 |[t,u],[s,x],hd=>
  simp only at hd
  cases ht:P.underlying t with
  |none=>simp only[ht] at hd;exact hd.elim
  |some d=>
  cases d with
  |slice elem=>
   simp only[ht] at hd
   cases s<;>try exact hd.elim
   rename_i a n c
   simp only at hd
   cases hi:P.info? elem with
   |none=>simp only[hi] at hd;exact hd.elim
   |some i=>
   simp only[hi] at hd
   cases hz:i.zero with
   |none=>simp only[hz] at hd;exact hd.elim
   |some z=>
   simp only[hz] at hd
   cases hu:P.underlying u with
   |none=>simp only[hu] at hd;exact hd.elim
   |some du=>
   cases du with
   |slice e2=>
    simp only[hu] at hd
    cases x<;>try exact hd.elim
    rename_i b m dd
    simp only at hd
    intro w hw
    obtain⟨r,w',hr,hs,hq⟩:=B6B (ty:=ty) (x:=.slice b m dd) (s:=⟨a,n,c⟩) ht hu (by simp) hi hz (fun w=>rfl) (fun w vs dm=>A4U dm) hd w hw
    exact⟨_,w',hr,hs,hq⟩
   |string=>
    simp only[hu] at hd
    cases x<;>try exact hd.elim
    rename_i b
    simp only at hd
    intro w hw
    obtain⟨r,w',hr,hs,hq⟩:=B6B (ty:=ty) (x:=.string b) (s:=⟨a,n,c⟩) ht hu (by simp) hi hz (fun w=>rfl) (fun w vs dm=>by simp only[C4N] at dm;subst dm;exact B0e) hd w hw
    exact⟨_,w',hr,hs,hq⟩
   |_=>simp only[hu] at hd;exact hd.elim
  |_=>simp only[ht] at hd;exact hd.elim
 |[],_,hd=>exact hd.elim
 |[_],_,hd=>exact hd.elim
 |[_,_],[],hd=>exact hd.elim
 |[_,_],[_],hd=>exact hd.elim
 |[_,_],_::_::_::_,hd=>exact hd.elim
 |_::_::_::_,_,hd=>exact hd.elim
theorem B87{ts:Array TypeId}{ty:TypeId}{vs:C9O}(hd:C17 P ts.toList vs.toList k h Q):
  ∃v,(∀w,w.heap=h→(Builtin.len_ ts ty vs).run P w=.ok v w)∧k v h Q:=by
 obtain⟨ts⟩:=ts
 obtain⟨vs⟩:=vs
 simp only at hd
 unfold C17 at hd
 match ts,vs,hd with
 |[t],[x],hd=>
  simp only at hd
  cases ht:P.underlying t with
  |none=>simp only[ht] at hd;exact hd.elim
  |some d=>
  cases d with
  |string=>
   simp only[ht] at hd
   cases x<;>try exact hd.elim
   exact⟨_,fun w _=>by simp[Builtin.len_,W5 ht,goInt],hd⟩
  |slice e=>
   simp only[ht] at hd
   cases x<;>try exact hd.elim
   exact⟨_,fun w _=>by simp[Builtin.len_,W5 ht,goInt],hd⟩
  |array n e=>
   simp only[ht] at hd
   exact⟨_,fun w _=>by simp[Builtin.len_,W5 ht,goInt],hd⟩
  |map a b=>
   simp only[ht] at hd
   cases x<;>try exact hd.elim
   rename_i r
   obtain⟨es,clock,he,hq⟩:=hd
   refine⟨_,fun w hw=>?_,hq⟩
   subst hw
   cases r with
   |none=>obtain⟨rfl,-⟩:=he;simp[Builtin.len_,W5 ht,goInt]
   |some r=>
    have hg:(getObj r).run P w=.ok (.map es.toArray clock) w:=by
     have jm:w.heap[r]? =some (.map es.toArray clock):=he
     simp[getObj,Sem.run,jm]
    simp[Builtin.len_,W5 ht,goInt,hg]
  |_=>simp only[ht] at hd;exact hd.elim
 |[],_,hd=>exact hd.elim
 |[_],[],hd=>exact hd.elim
 |[_],_::_::_,hd=>exact hd.elim
 |_::_::_,_,hd=>exact hd.elim
theorem A74{mx:Bool}{ts:Array TypeId}{ty:TypeId}{vs:C9O}(hd:A9k mx vs.toList k h Q):
  ∃v,(∀w,(if mx=true then Builtin.max_ ts ty vs else Builtin.min_ ts ty vs).run P w=.ok v w)∧k v h Q:=by
 obtain⟨vs⟩:=vs
 simp only at hd
 unfold A9k at hd
 split at hd
 ·rename_i ka a kb b
  cases hk:B0x ka kb with
  |false=>simp only[hk] at hd;exact hd.elim
  |true=>
   simp only[hk] at hd
   obtain rfl:=A7v hk
   cases mx with
   |true=>exact⟨_,fun w=>by simp[Builtin.max_,Builtin.max2],hd⟩
   |false=>exact⟨_,fun w=>by simp[Builtin.min_,Builtin.min2],hd⟩
 ·rename_i ka a kb b kc c
  cases hk:B0x ka kb&&B0x ka kc with
  |false=>simp only[hk] at hd;exact hd.elim
  |true=>
   simp only[hk] at hd
   rw[F0] at hk
   obtain rfl:=A7v hk.1
   obtain rfl:=A7v hk.2
   cases mx with
   |true=>exact⟨_,fun w=>by simp[Builtin.max_,Builtin.max2],hd⟩
   |false=>exact⟨_,fun w=>by simp[Builtin.min_,Builtin.min2],hd⟩
 ·exact hd.elim
theorem B0D{t:TypeId}{n c:Value}(hd:A7F P t n c k h Q):
  ∀w,w.heap=h→∃r w',(Instr.makeSlice t n c).run P w=.ok r w'∧y9 w w'∧k r w'.heap Q:=by
 unfold A7F at hd
 cases ht:P.underlying t with
 |none=>simp only[ht] at hd;exact hd.elim
 |some d=>
 cases d with
 |slice elem=>
  simp only[ht] at hd
  cases hi:P.info? elem with
  |none=>simp only[hi] at hd;exact hd.elim
  |some i=>
  simp only[hi] at hd
  cases hz:i.zero with
  |none=>simp only[hz] at hd;exact hd.elim
  |some z=>
  simp only[hz] at hd
  cases hb:Nat.beq z.cells.toList.length i.size with
  |false=>simp only[hb] at hd;exact hd.elim
  |true=>
  simp only[hb] at hd
  cases n<;>try exact hd.elim
  cases c<;>try exact hd.elim
  rename_i kn n kc c
  obtain⟨h0,h1,h2,h3,hq⟩:=hd
  intro w hw
  subst hw
  have hsz:z.cells.size=i.size:=by simpa using E3 hb
  refine⟨_,w.alloc (.cells (Builtin.zeroCells z.cells c.toNat) elem),?_,⟨rfl,rfl,rfl⟩,hq⟩
  have uK:IntKind.i64.wrap n=n:=by simp[IntKind.wrap,IntKind.bits,IntKind.signed];omega
  have uM:IntKind.i64.wrap c=c:=by simp[IntKind.wrap,IntKind.bits,IntKind.signed];omega
  have fx:¬(c<0):=by omega
  have ez:¬(281474976710656<(i.bytes:Int)*c):=by omega
  have uX:¬(n<0):=by omega
  have im:¬(c<n):=by omega
  by_cases sI:c.toNat*i.size=0
  ·have:Builtin.zeroCells z.cells c.toNat=#[]:=by simp[Builtin.zeroCells,hsz,sI]
   simp[Instr.makeSlice,W5 ht,asInt,asIntOf,A8r hi,uK,uM,fx,ez,uX,im,A0I hi,sI,newRow,this,Array.range_zero']
  ·simp only[Builtin.zeroCells,hsz]
   simp[Instr.makeSlice,W5 ht,asInt,asIntOf,A8r hi,uK,uM,fx,ez,uX,im,A0I hi,sI,newRow,A2u hi hz,hsz]
 |_=>simp only[ht] at hd;exact hd.elim
def C6l(P:Program)(kt:TypeId)(kd:TypeDesc)(key:Value):Prop:=plainKey kd=true∨(∃fs,kd=.struct fs)∧B5T P 8 kt key key=some true
theorem A4E{kt:TypeId}{kd:TypeDesc}{key:Value}{m:HM ρ}(hd:B2O P kt kd key m h Q):C6l P kt kd key∧m h Q:=by
 unfold B2O at hd
 cases hp:plainKey kd with
 |true=>simp only[hp] at hd;exact⟨.inl hp,hd⟩
 |false=>
  simp only[hp] at hd
  cases kd<;>try exact hd.elim
  exact⟨.inr ⟨⟨_,rfl⟩,hd.1⟩,hd.2⟩
theorem B6U{kt:TypeId}{kd:TypeDesc}(hk:P.underlying kt=some kd)(hp:plainKey kd=true)(e:Bool)(n:Nat)(v:Value)(w:World):
  (Instr.checkKey e (n+1) kt v).run P w=.ok () w:=by
 simp only[Instr.checkKey,Sem.run_bind,W5 hk,Result.andThen_ok]
 cases kd<;>first|(cases v<;>rfl)|cases hp
theorem run_checkKey{kt:TypeId}{kd:TypeDesc}{v:Value}(hk:P.underlying kt=some kd)(hp:C6l P kt kd v)(e:Bool)(w:World):
  (Instr.checkKey e 10000 kt v).run P w=.ok () w:=by
 rcases hp with hp|⟨-,hp⟩
 ·exact B6U hk hp e 9999 v w
 ·exact(A2a 8 hp 9992 w).2.2 e
theorem A8s{kt:TypeId}{key:Value}{w:World}:∀(es:List MapEntry) (i:Nat) (o:Option (Nat×Value)),A05 (B5T P 8 kt) key es i=some o→(Instr.findAsking kt key es i).run P w=.ok o w
 |[],i,o,hf=>by
  simp only[A05,F4] at hf
  subst hf
  rfl
 |e::es,i,o,hf=>by
  simp only[A05] at hf
  cases hs:B5T P 8 kt key e.key with
  |none=>simp only[hs] at hf;cases hf
  |some r=>
   have h1:(Op.equal kt key e.key).run P w=.ok r w:=(A2a 8 hs 9992 w).1
   simp only[Instr.findAsking,Sem.run_bind,h1,Result.andThen_ok]
   simp only[hs] at hf
   cases r with
   |true=>
    simp only[F4] at hf
    subst hf
    rfl
   |false=>
    simp only at hf
    simpa using A8s es (i+1) o hf
theorem run_findKey{kt:TypeId}{kd:TypeDesc}(hk:P.underlying kt=some kd){key:Value}(hp:C6l P kt kd key){es:List MapEntry}{o:Option (Nat×Value)}(hf:placeOf (A5J P kt kd) key es=some o)(w:World):
  (Instr.findKey kt key es).run P w=.ok o w:=by
 rcases hp with hp|⟨⟨fs,rfl⟩,-⟩
 ·have e:A5J P kt kd=Instr.sameNow kd:=by cases kd<;>first|rfl|cases hp
  rw[e] at hf
  simp only[placeOf,B3E] at hf
  simp[Instr.findKey,W5 hk,hf]
 ·simp only[placeOf,A5J] at hf
  simp only[Instr.findKey,Sem.run_bind,W5 hk,Result.andThen_ok]
  cases es with
  |nil=>
   simp only[A05,F4] at hf
   subst hf
   rfl
  |cons e es=>
   have:Instr.findNow (.struct fs) key (e::es) 0=none:=by simp[Instr.findNow,Instr.sameNow]
   rw[this]
   exact A8s (e::es) 0 o hf
theorem l7{w:World}{r:Nat}{o:Obj}(ho:w.heap[r]? =some o)(hc:∀a b c,o≠ .cells a b c):(getObj r).run P w=.ok o w:=by
 cases o<;>first|exact absurd rfl (hc _ _ _)|simp only[getObj,Sem.run,ho]
theorem A1m{w:World}{r:Nat}{o o':Obj}(ho:w.heap[r]? =some o)(hc:∀a b c,o≠ .cells a b c):(setObj r o').run P w=.ok () {w with heap:=w.heap.setIfInBounds r o'}:=by
 cases o<;>first|exact absurd rfl (hc _ _ _)|simp only[setObj,Sem.run,ho]
theorem B4r{t:TypeId}{x key:Value}{ok:Bool}(hd:B22 P t x key ok k h Q):
  ∃v,(∀w,w.heap=h→(Instr.lookup t x key ok).run P w=.ok v w)∧k v h Q:=by
 unfold B22 at hd
 cases ht:P.underlying t with
 |none=>simp only[ht] at hd;exact hd.elim
 |some d=>
 cases d with
 |map kt et=>
  simp only[ht] at hd
  cases dM:P.underlying kt with
  |none=>simp only[dM] at hd;exact hd.elim
  |some kd=>
  simp only[dM] at hd
  have jn:=A4E hd
  clear hd
  obtain⟨hp,hd⟩:=jn
  cases x<;>try exact hd.elim
  rename_i r
  simp only at hd
  cases hi:P.info? et with
  |none=>simp only[hi] at hd;exact hd.elim
  |some i=>
  simp only[hi] at hd
  cases hz:i.zero with
  |none=>simp only[hz] at hd;exact hd.elim
  |some z=>
  simp only[hz] at hd
  cases qF:Kind.of z with
  |none=>simp only[qF] at hd;exact hd.elim
  |some ek=>
  simp only[qF] at hd
  obtain⟨es,clock,o,xx,he,hf,hv,hq⟩:=hd
  have iN:∀w,w.heap=h→(Instr.lookup t (.map r) key ok).run P w=.ok (if ok=true then .tuple #[ek.val xx,.bool o.isSome] else ek.val xx) w:=by
   intro w hw
   subst hw
   cases r with
   |none=>
    obtain⟨rfl,-⟩:=he
    simp only[placeOf,A05,F4] at hf
    subst hf
    simp only at hv
    simp[Instr.lookup,W5 ht,run_checkKey dM hp,run_findKey dM hp (show placeOf (A5J P kt kd) key []=some none from rfl),A2u hi hz,hv]
   |some r=>
    have jm:w.heap[r]? =some (.map es.toArray clock):=he
    cases o with
    |none=>
     simp only at hv
     simp[Instr.lookup,W5 ht,l7 jm (by simp),run_checkKey dM hp,run_findKey dM hp hf,A2u hi hz,hv]
    |some ov=>
     obtain⟨j,vv⟩:=ov
     simp only at hv
     simp[Instr.lookup,W5 ht,l7 jm (by simp),run_checkKey dM hp,run_findKey dM hp hf,hv]
  cases ok with
  |true=>exact⟨_,iN,hq⟩
  |false=>exact⟨_,iN,hq⟩
 |_=>simp only[ht] at hd;exact hd.elim
theorem A75{t:TypeId}{x key v:Value}(hd:A9l P t x key v k h Q):
  ∀w,w.heap=h→∃w',(Instr.mapUpdate t x key v).run P w=.ok () w'∧y9 w w'∧k undef w'.heap Q:=by
 unfold A9l at hd
 cases ht:P.underlying t with
 |none=>simp only[ht] at hd;exact hd.elim
 |some d=>
 cases d with
 |map kt et=>
  simp only[ht] at hd
  cases dM:P.underlying kt with
  |none=>simp only[dM] at hd;exact hd.elim
  |some kd=>
  simp only[dM] at hd
  have jn:=A4E hd
  clear hd
  obtain⟨hp,hd⟩:=jn
  cases x<;>try exact hd.elim
  rename_i r
  obtain⟨b,es,clock,o,rfl,he,hf,hq⟩:=hd
  intro w hw
  subst hw
  cases o with
  |none=>
   refine⟨{w with heap:=w.heap.setIfInBounds b (.map (es.push {key:=key,val:=v,born:=clock}) (clock+1))},?_,⟨rfl,rfl,rfl⟩,hq⟩
   simp[Instr.mapUpdate,W5 ht,l7 he (by simp),run_checkKey dM hp,run_findKey dM hp hf,A1m he (by simp)]
  |some ov=>
   obtain⟨j,vv⟩:=ov
   obtain⟨fQ,iD,hq⟩:=hq
   refine⟨{w with heap:=w.heap.setIfInBounds b (.map (es.modify j fun e=>{e with key:=key,val:=v}) clock)},?_,⟨rfl,rfl,rfl⟩,hq⟩
   have tI:(Instr.keyThatStays (((es[j]?).map (·.key)).getD key) key).run P w=.ok key w:=by
    rw[fQ]
    unfold Instr.keyThatStays
    rw[if_pos iD]
    rfl
   simp[Instr.mapUpdate,W5 ht,l7 he (by simp),run_checkKey dM hp,run_findKey dM hp hf,A1m he (by simp),tI]
 |_=>simp only[ht] at hd;exact hd.elim
theorem B4s{ts:Array TypeId}{ty:TypeId}{vs:C9O}(hd:B23 P ts.toList vs.toList k h Q):
  ∀w,w.heap=h→∃r w',(Builtin.delete_ ts ty vs).run P w=.ok r w'∧y9 w w'∧k r w'.heap Q:=by
 obtain⟨ts⟩:=ts
 obtain⟨vs⟩:=vs
 simp only at hd
 unfold B23 at hd
 match ts,vs,hd with
 |t::tr,[x,key],hd=>
  simp only at hd
  cases ht:P.underlying t with
  |none=>simp only[ht] at hd;exact hd.elim
  |some d=>
  cases d with
  |map kt et=>
   simp only[ht] at hd
   cases dM:P.underlying kt with
   |none=>simp only[dM] at hd;exact hd.elim
   |some kd=>
   simp only[dM] at hd
   have jn:=A4E hd
   clear hd
   obtain⟨hp,hd⟩:=jn
   cases x<;>try exact hd.elim
   rename_i r
   intro w hw
   subst hw
   cases r with
   |none=>
    exact⟨_,w,by simp[Builtin.delete_,W5 ht,run_checkKey dM hp],y9.refl w,hd⟩
   |some b=>
    obtain⟨es,clock,o,he,hf,hq⟩:=hd
    cases o with
    |none=>
     refine⟨_,{w with heap:=w.heap.setIfInBounds b (.map es clock)},?_,⟨rfl,rfl,rfl⟩,hq⟩
     simp[Builtin.delete_,W5 ht,l7 he (by simp),run_checkKey dM hp,run_findKey dM hp hf,A1m he (by simp)]
    |some ov=>
     refine⟨_,{w with heap:=w.heap.setIfInBounds b (.map (es.eraseIdxIfInBounds ov.1) clock)},?_,⟨rfl,rfl,rfl⟩,hq⟩
     simp[Builtin.delete_,W5 ht,l7 he (by simp),run_checkKey dM hp,run_findKey dM hp hf,A1m he (by simp)]
  |_=>simp only[ht] at hd;exact hd.elim
 |[],_,hd=>exact hd.elim
 |_::_,[],hd=>exact hd.elim
 |_::_,[_],hd=>exact hd.elim
 |_::_,_::_::_::_,hd=>exact hd.elim
theorem B57{t:TypeId}{x:Value}(hd:B58 P t x k h Q):
  ∀w,w.heap=h→∃v w',(Instr.range t x).run P w=.ok v w'∧y9 w w'∧k v w'.heap Q:=by
 unfold B58 at hd
 cases ht:P.underlying t with
 |none=>simp only[ht] at hd;exact hd.elim
 |some d=>
 cases d with
 |string=>
  simp only[ht] at hd
  cases x<;>try exact hd.elim
  intro w hw
  subst hw
  rename_i s
  refine⟨_,w.alloc (.stringIter s 0),?_,⟨rfl,rfl,rfl⟩,hd⟩
  simp[Instr.range,W5 ht]
 |map kt et=>
  simp only[ht] at hd
  cases x<;>try exact hd.elim
  rename_i r
  intro w hw
  subst hw
  cases r with
  |none=>
   refine⟨_,w.alloc (.mapIter none 0 #[] 0),?_,⟨rfl,rfl,rfl⟩,hd⟩
   simp[Instr.range,W5 ht]
  |some m=>
   obtain⟨es,clock,he,hq⟩:=hd
   refine⟨_,w.alloc (.mapIter (some m) clock #[] clock),?_,⟨rfl,rfl,rfl⟩,hq⟩
   simp[Instr.range,W5 ht,l7 he (by simp)]
 |_=>simp only[ht] at hd;exact hd.elim
theorem B35(n:Nat)(hn:0<n)(w:World):∃i w',(choose (.mapNext n)).run P w=.ok i w'∧i<n∧w'.heap=w.heap∧y9 w w':=by
 rw[run_choose]
 by_cases hf:(Question.mapNext n).forced=true
 ·exact⟨0,w,by rw[if_pos hf],hn,rfl,y9.refl w⟩
 ·exact⟨w.tape w.drawn (.mapNext n) % n,{w with drawn:=w.drawn+1},by rw[if_neg hf];rfl,Nat.mod_lt _ hn,rfl,⟨rfl,rfl,rfl⟩⟩
theorem B62{t:TypeId}{str:Bool}{x:Value}(hd:B86 str x k h Q):
  ∀w,w.heap=h→∃v w',(Instr.next x str t).run P w=.ok v w'∧y9 w w'∧k v w'.heap Q:=by
 unfold B86 at hd
 cases x<;>try exact hd.elim
 rename_i a
 cases a with
 |none=>exact hd.elim
 |some a=>
 obtain⟨b,off,sp⟩:=a
 simp only at hd
 cases off with
 |succ n=>exact hd.elim
 |zero=>
 simp only[show Nat.beq 0 0=true from rfl] at hd
 intro w hw
 subst hw
 cases str with
 |true=>
  obtain⟨s,pos,ho,h1,h2⟩:=hd
  by_cases hp:pos<s.size
  ·refine⟨_,{w with heap:=w.heap.setIfInBounds b (.stringIter s (pos+(Utf8.decode s pos).2))},?_,⟨rfl,rfl,rfl⟩,h1 hp⟩
   simp[Instr.next,l7 ho (by simp),hp,A1m ho (by simp),goInt]
  ·refine⟨_,w,?_,y9.refl w,h2 hp⟩
   simp[Instr.next,l7 ho (by simp),hp]
 |false=>
  simp only at hd
  obtain⟨m,since,seen,last,ho,hd⟩:=hd
  cases m with
  |none=>
   refine⟨_,w,?_,y9.refl w,hd⟩
   simp[Instr.next,l7 ho (by simp)]
  |some m=>
   obtain⟨es,clock,he,hc,h1,h2⟩:=hd
   have fT:(!seen.isEmpty && !es.isEmpty &&es.all (fun e=>decide (e.born≥last)))=false:=hc
   let left:=es.filter fun e=> !seen.contains e.born
   let cand:=(if(left.filter (fun e=>decide (e.born<since))).isEmpty then #[none] else #[])++(left.filter (fun e=>decide (e.born<since))++left.filter (fun e=>decide (e.born≥since))).map some
   have qK:0<cand.size:=by
    simp only[cand]
    by_cases hz:(left.filter (fun e=>decide (e.born<since))).isEmpty=true
    ·simp[hz];omega
    ·have:left.filter (fun e=>decide (e.born<since))≠#[]:=by simpa using hz
     have:=Array.size_pos_iff.2 this
     simp only[Array.size_append,Array.size_map]
     omega
   obtain⟨i,w',hr,hi,hh,hs⟩:=B35 (P:=P) cand.size qK w
   have bu:cand[i]? =some cand[i]:=F5 hi
   have jA:(Instr.next (.pointer (some ⟨b,0,sp⟩)) false t).run P w=(match cand[i]? with
     |some (some e)=>do setObj b (.mapIter (some m) since (seen.push e.born) clock);pure (.tuple #[.bool true,e.key,e.val])
     |some none=>pure (.tuple #[.bool false])
     |none=>stuck "Next: no such candidate" :Sem Value).run P w':=by
    simp only[Instr.next,Sem.run_bind,l7 ho (by simp),Result.andThen_ok,l7 he (by simp),fT,H7,if_false]
    show((choose (.mapNext cand.size)).run P w).andThen _=_
    rw[hr]
    rfl
   rw[bu] at jA
   cases hx:cand[i] with
   |none=>
    rw[hx] at jA
    refine⟨_,w',jA.trans rfl,hs,?_⟩
    rw[hh]
    refine h1 fun e lg rD=>?_
    have an:none∈cand:=hx▸Array.getElem_mem hi
    simp only[cand,Array.mem_append,Array.mem_map,reduceCtorEq,and_false,exists_false,or_false] at an
    split at an
    ·rename_i hz
     have oC:left.filter (fun e=>decide (e.born<since))=#[]:=by simpa using hz
     by_cases ah:e.born<since
     ·have:e∈left.filter (fun e=>decide (e.born<since)):=by simp[left,lg,ah];simpa using rD
      rw[oC] at this
      simp at this
     ·omega
    ·simp at an
   |some e=>
    rw[hx] at jA
    have an:some e∈cand:=hx▸Array.getElem_mem hi
    have qE:e∈left:=by
     simp only[cand,Array.mem_append,Array.mem_map,F4,exists_eq_right] at an
     rcases an with an|an
     ·split at an<;>simp at an
     ·rcases an with an|an<;>exact(Array.mem_filter.1 an).1
    have qD:=Array.mem_filter.1 qE
    have hq:=h2 e qD.1 (by simpa using qD.2)
    have fv:w'.heap[b]? =some (.mapIter (some m) since seen last):=by rw[hh];exact ho
    refine⟨.tuple #[.bool true,e.key,e.val],{w' with heap:=w'.heap.setIfInBounds b (.mapIter (some m) since (seen.push e.born) clock)},jA.trans ?_,⟨hs.os,hs.tape,hs.output⟩,?_⟩
    ·simp only[Sem.run_bind,A1m fv (by simp),Result.andThen_ok]
     rfl
    ·simpa[hh,A2r] using hq
theorem B6e{ka kb:Kind}{x:Value}(hd:B6f ka kb x k h Q):∃v,(∀w,w.heap=h→(Instr.entry x).run P w=.ok v w)∧k v h Q:=by
 unfold B6f at hd
 cases x<;>try exact hd.elim
 rename_i a
 cases a with
 |none=>exact hd.elim
 |some a=>
 obtain⟨b,off,sp⟩:=a
 simp only at hd
 cases off with
 |succ n=>exact hd.elim
 |zero=>
 simp only[show Nat.beq 0 0=true from rfl] at hd
 obtain⟨m,since,seen,stepped,es,stamp,e,kx,vx,ho,hb,he,hf,e1,e2,hq⟩:=hd
 refine⟨_,fun w hw=>?_,hq⟩
 subst hw
 have cg:(stepped !=stepped)=false:=by simp
 simp[Instr.entry,l7 ho (by simp),l7 he (by simp),hb,hf,e1,e2]
theorem B10{t:TypeId}{x key:Value}(hd:A8S P t x key k h Q):
  ∀w,w.heap=h→∃v w',(Instr.mapEntry t x key).run P w=.ok v w'∧y9 w w'∧k v w'.heap Q:=by
 unfold A8S at hd
 cases ht:P.underlying t with
 |none=>simp only[ht] at hd;exact hd.elim
 |some d=>
 cases d with
 |map kt et=>
  simp only[ht] at hd
  cases dM:P.underlying kt with
  |none=>simp only[dM] at hd;exact hd.elim
  |some kd=>
  simp only[dM] at hd
  have jn:=A4E hd
  clear hd
  obtain⟨hp,hd⟩:=jn
  cases x<;>try exact hd.elim
  rename_i r
  simp only at hd
  cases hi:P.info? et with
  |none=>simp only[hi] at hd;exact hd.elim
  |some i=>
  simp only[hi] at hd
  cases hz:i.zero with
  |none=>simp only[hz] at hd;exact hd.elim
  |some z=>
  simp only[hz] at hd
  cases qF:Kind.of z with
  |none=>simp only[qF] at hd;exact hd.elim
  |some ek=>
  simp only[qF] at hd
  obtain⟨b,es,clock,o,rfl,he,hf,hq⟩:=hd
  intro w hw
  subst hw
  cases o with
  |none=>
   obtain⟨x,hx,hq⟩:=hq
   refine⟨.tuple #[ek.val x,.int .i64 clock],{w with heap:=w.heap.setIfInBounds b (.map (es.push {key:=key,val:=z,born:=clock}) (clock+1))},?_,⟨rfl,rfl,rfl⟩,hq⟩
   simp[Instr.mapEntry,W5 ht,l7 he (by simp),run_checkKey dM hp,run_findKey dM hp hf,A1m he (by simp),A2u hi hz,goInt,←hx]
  |some ov=>
   obtain⟨j,vv⟩:=ov
   obtain⟨fQ,iD,x,hx,hq⟩:=hq
   refine⟨.tuple #[ek.val x,.int .i64 ((((es[j]?).map (·.born)).getD 0:Nat):Int)],{w with heap:=w.heap.setIfInBounds b (.map (es.modify j fun e=>{e with key:=key}) clock)},?_,⟨rfl,rfl,rfl⟩,hq⟩
   have tI:(Instr.keyThatStays (((es[j]?).map (·.key)).getD key) key).run P w=.ok key w:=by
    rw[fQ]
    unfold Instr.keyThatStays
    rw[if_pos iD]
    rfl
   simp[Instr.mapEntry,W5 ht,l7 he (by simp),run_checkKey dM hp,run_findKey dM hp hf,A1m he (by simp),tI,goInt,←hx]
   cases es[j]? <;>simp
 |_=>simp only[ht] at hd;exact hd.elim
theorem A9G{t:TypeId}{x stamp v:Value}(hd:A59 x stamp v k h Q):
  ∀w,w.heap=h→∃w',(Instr.entryStore t x stamp v).run P w=.ok () w'∧y9 w w'∧k undef w'.heap Q:=by
 unfold A59 at hd
 cases x<;>try exact hd.elim
 simp only at hd
 cases stamp<;>try exact hd.elim
 rename_i r kd n
 obtain⟨b,es,clock,i,rfl,he,hf,hq⟩:=hd
 intro w hw
 subst hw
 refine⟨{w with heap:=w.heap.setIfInBounds b (.map (es.modify i fun e=>{e with val:=v}) clock)},?_,⟨rfl,rfl,rfl⟩,hq⟩
 simp[Instr.entryStore,l7 he (by simp),asInt,asIntOf,hf,A1m he (by simp)]
end
end
section
section
variable {P:Program} {ρ:Type} {k:Value→HM ρ} {h:Heap} {Q:ρ→Heap→Prop}
theorem B5v:∀{l:List Nat} {n:Nat},A5j n l=true→n∈l
 |[],_,h=>by cases h
 |t::ts,n,h=>by
  simp only[A5j] at h
  cases hb:Nat.beq t n with
  |true=>rw[E3 hb];exact B4 ..
  |false=>rw[hb] at h;exact C3 _ (B5v h)
theorem B4V{c:Call}{ev:Operand→Value}{o:Oper}{f:FuncId}{first captured:C9O}{x:Operand}(ho:o.op=.call c)(hc:c.callee=.value x)
  (hx:ev x=.func (.func f) first captured)(hf:A1z P f)(w:World):(execOp ev o).run P w=.ok (.enter f (first++c.args.map ev++captured)) w:=by
 have:=hf (first++c.args.map ev++captured) w
 rw[Array.append_assoc] at this⊢
 simp[execOp,ho,resolve,hc,hx,Deferred.ofValue,invoke,this]
theorem A2O{c:Call}{ev:Operand→Value}{o:Oper}{b:Builtin}(ho:o.op=.call c)(hc:c.callee=.builtin b)(w:World):
  (execOp ev o).run P w=(builtin b c.argTypes o.type (c.args.map fun|.const _=>true|_=>false) (c.args.map ev)).run P w:=by
 simp only[execOp,ho,Sem.run_bind]
 simp only[resolve,hc,Sem.run_pure,Result.andThen_ok,invoke]
 rfl
theorem B63{C:List Nat}{c:Call}{ev:Operand→Value}{o:Oper}{f:FuncId}{vs:C9P}(hC:∀f,f∈C→A1z P f)(ho:o.op=.call c)(hc:c.callee=.value (.func f))
  (oQ:ev (.func f)=.func (.func f) #[] #[])(dm:c.args.map ev=vs.toArray)(hd:B89 P C o.type (.func (.func f) #[] #[]) vs k h Q):A3x P (execOp ev o) h fun v h'=>k v h' Q:=by
 intro w hw
 subst hw
 simp only[B89] at hd
 cases hm:A5j f C with
 |false=>simp only[hm] at hd;exact hd.elim
 |true=>
 simp only[hm] at hd
 rw[B4V ho hc oQ (hC f (B5v hm)) w,dm]
 refine⟨y9.refl w,?_⟩
 have e1:(#[]++vs.toArray++#[]:C9O)=((#[]:C9O).toList++(vs++(#[]:C9O).toList)).toArray:=by simp
 rw[e1]
 cases hr:C2G P o.type with
 |none=>simp only[hr] at hd;exact hd.elim
 |some r=>
  cases r with
  |one kd=>
   simp only[hr] at hd
   exact V3.mono (Q:=fun v h'=>∃x,v=kd.val x∧k (kd.val x) h' Q) hd fun v h' ⟨x,hx,hq⟩=>by subst hx;exact hq
  |many ks=>
   simp only[hr] at hd
   exact V3.mono (Q:=fun v h'=>∃x,v=.tuple (q9.cC ks x).toArray∧k (.tuple (q9.cC ks x).toArray) h' Q) hd fun v h' ⟨x,hx,hq⟩=>by subst hx;exact hq
theorem A48{c:Call}{ev:Operand→Value}{o:Oper}{x:Operand}{vs:C9P}(ho:o.op=.call c)(hc:c.callee=.value x)
  (dm:c.args.map ev=vs.toArray)(hd:B6i P o.type (ev x) vs k h Q):A3x P (execOp ev o) h fun v h'=>k v h' Q:=by
 intro w hw
 subst hw
 unfold B6i at hd
 cases hr:C2G P o.type with
 |none=>simp only[hr] at hd;exact hd.elim
 |some r=>
  cases r with
  |one kd=>
   simp only[hr] at hd
   obtain⟨f,first,captured,hx,hf,hd⟩:=hd
   rw[B4V ho hc hx hf w,dm]
   exact⟨y9.refl w,V3.mono hd fun v h' ⟨x,hx,hq⟩=>by subst hx;exact hq⟩
  |many ks=>
   simp only[hr] at hd
   obtain⟨f,first,captured,hx,hf,hd⟩:=hd
   rw[B4V ho hc hx hf w,dm]
   exact⟨y9.refl w,V3.mono hd fun v h' ⟨x,hx,hq⟩=>by subst hx;exact hq⟩
theorem B61{n:Nat}{e:Env}{d:Dec}{a:Act}(hA:A0o n e a)(hD:A27 d a){o:Oper}{c x y:Operand}(ho:o.op=.pick c x y)(hd:B85 e d c x y k h Q):
  ∃v,Stat P (execOp a.eval o) v∧k v h Q:=by
 unfold B85 at hd
 cases c with
 |tmp t=>
  simp only at hd
  have iN:∀b w,a.eval (.tmp t)=.bool b→(execOp a.eval o).run P w=.ok (.value (if b=true then a.eval x else a.eval y)) w:=by
   intro b w hb
   simp[execOp,ho,hb,asBool]
  cases hg:d.get t with
  |some b=>
   have hb:a.eval (.tmp t)=.bool b:=by
    have:=hD t b hg
    simp[Act.eval,this]
   cases b with
   |true=>
    simp only[hg] at hd
    cases hx:e.ev x with
    |none=>simp only[hx] at hd;exact hd.elim
    |some v=>
     simp only[hx] at hd
     exact⟨v,fun w=>by rw[iN true w hb,hA.ev hx];rfl,hd⟩
   |false=>
    simp only[hg] at hd
    cases hx:e.ev y with
    |none=>simp only[hx] at hd;exact hd.elim
    |some v=>
     simp only[hx] at hd
     exact⟨v,fun w=>by rw[iN false w hb,hA.ev hx];rfl,hd⟩
  |none=>
   simp only[hg] at hd
   cases hu:e.ev (.tmp t) with
   |none=>simp only[hu] at hd;exact hd.elim
   |some u=>
   simp only[hu] at hd
   cases u<;>try exact hd.elim
   rename_i u
   cases hv:e.ev x with
   |none=>simp only[hv] at hd;exact hd.elim
   |some v=>
   simp only[hv] at hd
   cases v<;>try exact hd.elim
   rename_i v
   cases hz:e.ev y with
   |none=>simp only[hz] at hd;exact hd.elim
   |some z=>
   simp only[hz] at hd
   cases z<;>try exact hd.elim
   rename_i z
   exact⟨_,fun w=>by rw[iN u w (hA.ev hu),hA.ev hv,hA.ev hz];cases u<;>rfl,hd⟩
 |_=>exact hd.elim
theorem B6g{ts:Array TypeId}{ty:TypeId}{vs:C9O}(hd:B6h P ts.toList vs.toList k h Q):
  ∀w,w.heap=h→∃r w',(Builtin.clear_ ts ty vs).run P w=.ok r w'∧y9 w w'∧k r w'.heap Q:=by
 obtain⟨ts⟩:=ts
 obtain⟨vs⟩:=vs
 simp only at hd
 unfold B6h at hd
 match ts,vs,hd with
 |[t],[x],hd=>
  simp only at hd
  cases ht:P.underlying t with
  |none=>simp only[ht] at hd;exact hd.elim
  |some d=>
  cases d with
  |slice elem=>
   simp only[ht] at hd
   cases x<;>try exact hd.elim
   rename_i a n c
   simp only at hd
   cases hi:P.info? elem with
   |none=>simp only[hi] at hd;exact hd.elim
   |some i=>
   simp only[hi] at hd
   cases hz:i.zero with
   |none=>simp only[hz] at hd;exact hd.elim
   |some z=>
   simp only[hz] at hd
   intro w hw
   subst hw
   cases a with
   |none=>
    exact⟨_,w,by simp[Builtin.clear_,W5 ht],y9.refl w,hd⟩
   |some a=>
    have iV:(if n=0 then(fun(_:Unit) (h:Heap)=>k (.tuple #[]) h Q) () w.heap else _):=hd
    by_cases hn:n=0
    ·subst hn
     rw[if_pos rfl] at iV
     exact⟨_,w,by simp[Builtin.clear_,W5 ht],y9.refl w,iV⟩
    ·rw[if_neg hn] at iV
     obtain⟨h1,h2⟩:=iV
     obtain⟨w',hr,hs,hh⟩:=A1U (P:=P) a (Builtin.zeroCells z.cells n).toList 0 w (fun j v hj=>by rw[L9];exact h1 j v hj)
     refine⟨.tuple #[],w',?_,hs,by rw[hh];exact h2⟩
     cases n with
     |zero=>exact absurd rfl hn
     |succ n=>simp[Builtin.clear_,W5 ht,A2u hi hz,hr]
  |map kt et=>
   simp only[ht] at hd
   cases x<;>try exact hd.elim
   rename_i r
   intro w hw
   subst hw
   cases r with
   |none=>exact⟨_,w,by simp[Builtin.clear_,W5 ht],y9.refl w,hd⟩
   |some b=>
    obtain⟨es,clock,he,hq⟩:=hd
    refine⟨_,{w with heap:=w.heap.setIfInBounds b (.map #[] clock)},?_,⟨rfl,rfl,rfl⟩,hq⟩
    simp[Builtin.clear_,W5 ht,l7 he (by simp),A1m he (by simp)]
  |_=>simp only[ht] at hd;exact hd.elim
 |[],_,hd=>exact hd.elim
 |[_],[],hd=>exact hd.elim
 |_::_::_,[],hd=>exact hd.elim
 |[_],_::_::_,hd=>exact hd.elim
 |_::_::_,[_],hd=>exact hd.elim
 |_::_::_,_::_::_,hd=>exact hd.elim
theorem u6.cU{c:Cls}{s:Sem Next}{Φ:Value→Heap→Prop}(hc:c=.cU)(hd:A3x P s h Φ):u6 P c s h Φ:=by subst hc;exact hd
theorem u6.stat{c:Cls}{s:Sem Next}{Φ:Value→Heap→Prop}(hc:c=.stat)(hd:∃v,Stat P s v∧Φ v h):u6 P c s h Φ:=by subst hc;exact hd
theorem u6.read{c:Cls}{s:Sem Next}{Φ:Value→Heap→Prop}(hc:c=.read)(hd:∃v,A2C P s h v∧Φ v h):u6 P c s h Φ:=by subst hc;exact hd
theorem B6j{n:Nat}{e:Env}{a:Act}{o:Oper}{c:Call}{b:Builtin}{vs:C9P}(ho:o.op=.call c)(hc:c.callee=.builtin b)
  (dm:c.args.map a.eval=vs.toArray)(hd:B0G P b c.argTypes.toList vs k h Q):u6 P (u5 P o.op) (execOp a.eval o) h fun v h'=>k v h' Q:=by
 have nD:(c.args.map a.eval).toList=vs:=by rw[dm]
 rw[←nD] at hd
 unfold B0G at hd
 cases b<;>try exact hd.elim
 case len=>
  refine u6.read (by simp[u5,ho,hc]) ?_
  obtain⟨v,hv,hq⟩:=B87 (ty:=o.type) hd
  exact⟨v,fun w hw=>by rw[A2O ho hc];simp[builtin,hv w hw],hq⟩
 all_goals refine u6.cU (by simp[u5,ho,hc]) ?_
 all_goals intro w hw
 case append=>
  obtain⟨r,w',hr,hs,hq⟩:=B4t (ty:=o.type) hd w hw
  rw[A2O ho hc]
  have:(builtin .append c.argTypes o.type (c.args.map fun|.const _=>true|_=>false) (c.args.map a.eval)).run P w=.ok (.value r) w':=by simp[builtin,hr]
  rw[this];exact⟨hs,hq⟩
 case delete=>
  obtain⟨r,w',hr,hs,hq⟩:=B4s (ty:=o.type) hd w hw
  rw[A2O ho hc]
  have:(builtin .delete c.argTypes o.type (c.args.map fun|.const _=>true|_=>false) (c.args.map a.eval)).run P w=.ok (.value r) w':=by simp[builtin,hr]
  rw[this];exact⟨hs,hq⟩
 case clear=>
  obtain⟨r,w',hr,hs,hq⟩:=B6g (ty:=o.type) hd w hw
  rw[A2O ho hc]
  have:(builtin .clear c.argTypes o.type (c.args.map fun|.const _=>true|_=>false) (c.args.map a.eval)).run P w=.ok (.value r) w':=by simp[builtin,hr]
  rw[this];exact⟨hs,hq⟩
 case max=>
  obtain⟨v,hv,hq⟩:=A74 (P:=P) (ts:=c.argTypes) (ty:=o.type) hd
  rw[A2O ho hc]
  have:(builtin .max c.argTypes o.type (c.args.map fun|.const _=>true|_=>false) (c.args.map a.eval)).run P w=.ok (.value v) w:=by
   have:=hv w;simp at this;simp[builtin,this]
  rw[this];exact⟨y9.refl w,by rw[hw];exact hq⟩
 case min=>
  obtain⟨v,hv,hq⟩:=A74 (P:=P) (ts:=c.argTypes) (ty:=o.type) hd
  rw[A2O ho hc]
  have:(builtin .min c.argTypes o.type (c.args.map fun|.const _=>true|_=>false) (c.args.map a.eval)).run P w=.ok (.value v) w:=by
   have:=hv w;simp at this;simp[builtin,this]
  rw[this];exact⟨y9.refl w,by rw[hw];exact hq⟩
theorem B7Z{C:List Nat}(hC:∀f,f∈C→A1z P f){n:Nat}{e:Env}{d:Dec}{a:Act}(hA:A0o n e a)(hD:A27 d a){o:Oper}(hd:C0z P C e d o k h Q):
  u6 P (u5 P o.op) (execOp a.eval o) h fun v h'=>k v h' Q:=by
 unfold C0z at hd
 cases ho:o.op<;>simp only[ho] at hd<;>try exact hd.elim
 case move x=>
  cases hx:e.ev x with
  |none=>simp only[hx] at hd;exact hd.elim
  |some v=>
   simp only[hx] at hd
   exact u6.stat rfl ⟨v,fun w=>by simp[execOp,ho,hA.ev hx],hd⟩
 case assign x=>
  cases hx:e.ev x with
  |none=>simp only[hx] at hd;exact hd.elim
  |some v=>
   simp only[hx] at hd
   exact u6.stat rfl ⟨v,fun w=>by simp[execOp,ho,hA.ev hx],hd⟩
 case pick c x y=>exact u6.stat rfl (B61 hA hD ho hd)
 case alloc t=>
  have:=A3x.eD (Φ:=fun v h'=>k v h' Q) (B6m hd)
  exact u6.cU rfl (by simpa[execOp,ho] using this)
 case box t x=>
  cases hx:e.ev x with
  |none=>simp only[hx] at hd;exact hd.elim
  |some v=>
   simp only[hx] at hd
   have:=A3x.eD (Φ:=fun v h'=>k v h' Q) (B9a hd)
   exact u6.cU rfl (by simpa[execOp,ho,hA.ev hx] using this)
 case build t ps=>
  cases hx:A5M e ps.toList with
  |none=>simp only[hx] at hd;exact hd.elim
  |some vs=>
   simp only[hx] at hd
   have hp:=hA.parts hx
   have dp:ps.map (fun(i,x)=>(i,a.eval x))=vs.toArray:=by apply I3.1;simpa using hp
   obtain⟨v,hv,hq⟩:=B6k (ps:=vs.toArray) (by simpa using hd)
   refine u6.stat rfl ⟨v,?_,hq⟩
   have:=Stat.of hv
   simpa[execOp,ho,dp] using this
 case buildSlice t m ps=>
  cases hx:A5M e ps.toList with
  |none=>simp only[hx] at hd;exact hd.elim
  |some vs=>
   simp only[hx] at hd
   have hp:=hA.parts hx
   have dp:ps.map (fun(i,x)=>(i,a.eval x))=vs.toArray:=by apply I3.1;simpa using hp
   have:=A3x.eD (Φ:=fun v h'=>k v h' Q) (A9H (ps:=vs.toArray) (by simpa using hd))
   exact u6.cU rfl (by simpa[execOp,ho,dp] using this)
 case load t x=>
  cases hx:e.ev x with
  |none=>simp only[hx] at hd;exact hd.elim
  |some v=>
   simp only[hx] at hd
   obtain⟨u,hu,hq⟩:=A92 hd
   refine u6.read rfl ⟨u,?_,hq⟩
   have:=A2C.of hu
   simpa[execOp,ho,hA.ev hx] using this
 case store t x y=>
  cases hx:e.ev x with
  |none=>simp only[hx] at hd;exact hd.elim
  |some v=>
  simp only[hx] at hd
  cases hy:e.ev y with
  |none=>simp only[hy] at hd;exact hd.elim
  |some u=>
   simp only[hy] at hd
   have:=A3x.fH (Φ:=fun v h'=>k v h' Q) (B53 hd)
   exact u6.cU rfl (by simpa[execOp,ho,hA.ev hx,hA.ev hy] using this)
 case nilCheck x=>
  cases hx:e.ev x with
  |none=>simp only[hx] at hd;exact hd.elim
  |some v=>
   simp only[hx] at hd
   rw[←hA.ev hx] at hd
   exact u6.stat rfl (B1Z ho hd)
 case binOp op t x y t2=>
  cases hx:e.ev x with
  |none=>simp only[hx] at hd;exact hd.elim
  |some v=>
  simp only[hx] at hd
  cases hy:e.ev y with
  |none=>simp only[hy] at hd;exact hd.elim
  |some u=>
   simp only[hy] at hd
   obtain⟨r,hr,hq⟩:=B9b (xo:=x) (fun c hc=>by subst hc;simp only[Env.ev,F4] at hy;exact hy.symm) hd
   refine u6.stat rfl ⟨r,?_,hq⟩
   have:=Stat.of hr
   simpa[execOp,ho,hA.ev hx,hA.ev hy] using this
 case unOp op t x=>
  cases hx:e.ev x with
  |none=>simp only[hx] at hd;exact hd.elim
  |some v=>
   simp only[hx] at hd
   obtain⟨r,hr,hq⟩:=C0y (P:=P) hd
   refine u6.stat rfl ⟨r,?_,hq⟩
   have:=Stat.of hr
   simpa[execOp,ho,hA.ev hx] using this
 case convert s t x=>
  cases hx:e.ev x with
  |none=>simp only[hx] at hd;exact hd.elim
  |some v=>
   simp only[hx] at hd
   obtain⟨r,hr,hq⟩:=B24 hd
   simp only[u5]
   split
   ·rename_i kd hk
    refine⟨r,?_,hq⟩
    have:=Stat.of (fun w=>hr w (.inr ⟨kd,hk⟩))
    simpa[execOp,ho,hA.ev hx] using this
   ·refine A3x.eN (v:=r) ?_ hq
    have:=A2C.of (fun w hw=>hr w (.inl hw))
    simpa[execOp,ho,hA.ev hx] using this
 case mapEntry t x y=>
  cases hx:e.ev x with
  |none=>simp only[hx] at hd;exact hd.elim
  |some v=>
  simp only[hx] at hd
  cases hy:e.ev y with
  |none=>simp only[hy] at hd;exact hd.elim
  |some u=>
   simp only[hy] at hd
   have:=A3x.eD (Φ:=fun v h'=>k v h' Q) (B10 hd)
   exact u6.cU rfl (by simpa[execOp,ho,hA.ev hx,hA.ev hy] using this)
 case entryStore t x y z=>
  cases hx:e.ev x with
  |none=>simp only[hx] at hd;exact hd.elim
  |some v=>
  simp only[hx] at hd
  cases hy:e.ev y with
  |none=>simp only[hy] at hd;exact hd.elim
  |some u=>
  simp only[hy] at hd
  cases hz:e.ev z with
  |none=>simp only[hz] at hd;exact hd.elim
  |some u'=>
   simp only[hz] at hd
   have:=A3x.fH (P:=P) (Φ:=fun v h'=>k v h' Q) (A9G (P:=P) (t:=t) hd)
   exact u6.cU rfl (by simpa[execOp,ho,hA.ev hx,hA.ev hy,hA.ev hz] using this)
 case range t x=>
  cases hx:e.ev x with
  |none=>simp only[hx] at hd;exact hd.elim
  |some v=>
   simp only[hx] at hd
   have:=A3x.eD (Φ:=fun v h'=>k v h' Q) (B57 hd)
   exact u6.cU rfl (by simpa[execOp,ho,hA.ev hx] using this)
 case next x str=>
  cases hx:e.ev x with
  |none=>simp only[hx] at hd;exact hd.elim
  |some v=>
   simp only[hx] at hd
   have:=A3x.eD (P:=P) (Φ:=fun v h'=>k v h' Q) (B62 (P:=P) (t:=o.type) hd)
   exact u6.cU rfl (by simpa[execOp,ho,hA.ev hx] using this)
 case makeInterface t x=>
  cases hx:e.ev x with
  |none=>simp only[hx] at hd;exact hd.elim
  |some v=>
   simp only[hx] at hd
   refine u6.stat rfl ?_
   cases ht:P.underlying t with
   |none=>simp only[ht] at hd;exact hd.elim
   |some dd=>
    simp only[ht] at hd
    cases dd<;>first
     |exact hd.elim
     |exact⟨_,fun w=>by simp[execOp,ho,hA.ev hx,Instr.makeInterface,W5 ht],hd⟩
 case makeFunc fn first captured=>
  cases hx:e.eP first.toList with
  |none=>simp only[hx] at hd;exact hd.elim
  |some vs=>
  simp only[hx] at hd
  cases hy:e.eP captured.toList with
  |none=>simp only[hy] at hd;exact hd.elim
  |some us=>
   simp only[hy] at hd
   refine u6.stat rfl ⟨_,fun w=>?_,hd⟩
   simp[execOp,ho,hA.dU hx,hA.dU hy,Instr.makeFunc]
 case makeMap t r=>
  cases r with
  |some r=>exact hd.elim
  |none=>
   refine u6.cU rfl ?_
   intro w hw
   subst hw
   have:(execOp a.eval o).run P w=.ok (.value (.map (some w.heap.size))) (w.alloc (.map #[] 0)):=by simp[execOp,ho,Instr.makeMap]
   rw[this]
   exact⟨⟨rfl,rfl,rfl⟩,hd⟩
 case makeSlice t x y=>
  cases hx:e.ev x with
  |none=>simp only[hx] at hd;exact hd.elim
  |some v=>
  simp only[hx] at hd
  cases hy:e.ev y with
  |none=>simp only[hy] at hd;exact hd.elim
  |some u=>
   simp only[hy] at hd
   have:=A3x.eD (Φ:=fun v h'=>k v h' Q) (B0D hd)
   exact u6.cU rfl (by simpa[execOp,ho,hA.ev hx,hA.ev hy] using this)
 case slice t x lo hi mx=>
  cases hx:e.ev x with
  |none=>simp only[hx] at hd;exact hd.elim
  |some v=>
  simp only[hx] at hd
  cases hl:A7h e lo with
  |none=>simp only[hl] at hd;exact hd.elim
  |some l=>
  simp only[hl] at hd
  cases hh:A7h e hi with
  |none=>simp only[hh] at hd;exact hd.elim
  |some u=>
  simp only[hh] at hd
  cases hm:A7h e mx with
  |none=>simp only[hm] at hd;exact hd.elim
  |some m=>
   simp only[hm] at hd
   obtain⟨r,hr,hq⟩:=B55 (A7g hA hl) (A7g hA hh) (A7g hA hm) hd
   refine u6.stat rfl ⟨r,?_,hq⟩
   have:=Stat.of hr
   simpa[execOp,ho,hA.ev hx] using this
 case fieldAddr t x f=>
  cases hx:e.ev x with
  |none=>simp only[hx] at hd;exact hd.elim
  |some v=>
   simp only[hx] at hd
   obtain⟨r,hr,hq⟩:=B0F hd
   refine u6.stat rfl ⟨r,?_,hq⟩
   have:=Stat.of hr
   simpa[execOp,ho,hA.ev hx] using this
 case field t x f=>
  cases hx:e.ev x with
  |none=>simp only[hx] at hd;exact hd.elim
  |some v=>
   simp only[hx] at hd
   obtain⟨r,hr,hq⟩:=B6c hd
   refine u6.stat rfl ⟨r,?_,hq⟩
   have:=Stat.of hr
   simpa[execOp,ho,hA.ev hx] using this
 case indexAddr t x y=>
  cases hx:e.ev x with
  |none=>simp only[hx] at hd;exact hd.elim
  |some v=>
  simp only[hx] at hd
  cases hy:e.ev y with
  |none=>simp only[hy] at hd;exact hd.elim
  |some u=>
   simp only[hy] at hd
   obtain⟨r,hr,hq⟩:=B0E hd
   refine u6.stat rfl ⟨r,?_,hq⟩
   have:=Stat.of hr
   simpa[execOp,ho,hA.ev hx,hA.ev hy] using this
 case index t x y=>
  cases hx:e.ev x with
  |none=>simp only[hx] at hd;exact hd.elim
  |some v=>
  simp only[hx] at hd
  cases hy:e.ev y with
  |none=>simp only[hy] at hd;exact hd.elim
  |some u=>
   simp only[hy] at hd
   obtain⟨r,hr,hq⟩:=B6a hd
   refine u6.stat rfl ⟨r,?_,hq⟩
   have:=Stat.of hr
   simpa[execOp,ho,hA.ev hx,hA.ev hy] using this
 case lookup t x y ok=>
  cases hx:e.ev x with
  |none=>simp only[hx] at hd;exact hd.elim
  |some v=>
  simp only[hx] at hd
  cases hy:e.ev y with
  |none=>simp only[hy] at hd;exact hd.elim
  |some u=>
   simp only[hy] at hd
   obtain⟨r,hr,hq⟩:=B4r hd
   refine u6.read rfl ⟨r,?_,hq⟩
   have:=A2C.of hr
   simpa[execOp,ho,hA.ev hx,hA.ev hy] using this
 case mapUpdate t x y z=>
  cases hx:e.ev x with
  |none=>simp only[hx] at hd;exact hd.elim
  |some v=>
  simp only[hx] at hd
  cases hy:e.ev y with
  |none=>simp only[hy] at hd;exact hd.elim
  |some u=>
  simp only[hy] at hd
  cases hz:e.ev z with
  |none=>simp only[hz] at hd;exact hd.elim
  |some u'=>
   simp only[hz] at hd
   have:=A3x.fH (Φ:=fun v h'=>k v h' Q) (A75 hd)
   exact u6.cU rfl (by simpa[execOp,ho,hA.ev hx,hA.ev hy,hA.ev hz] using this)
 case insert t x y z=>
  cases hx:e.ev x with
  |none=>simp only[hx] at hd;exact hd.elim
  |some v=>
  simp only[hx] at hd
  cases hy:e.ev y with
  |none=>simp only[hy] at hd;exact hd.elim
  |some u=>
  simp only[hy] at hd
  cases hz:e.ev z with
  |none=>simp only[hz] at hd;exact hd.elim
  |some u'=>
   simp only[hz] at hd
   have:=A3x.fH (Φ:=fun v h'=>k v h' Q) (A75 hd)
   exact u6.cU rfl (by simpa[execOp,ho,hA.ev hx,hA.ev hy,hA.ev hz] using this)
 case extract x i=>
  cases hx:e.ev x with
  |none=>simp only[hx] at hd;exact hd.elim
  |some v=>
   cases v<;>simp only[hx] at hd<;>try exact hd.elim
   rename_i vs
   cases hi:vs.toList[i]? with
   |none=>simp only[hi] at hd;exact hd.elim
   |some u=>
    simp only[hi] at hd
    refine u6.stat rfl ⟨u,fun w=>?_,hd⟩
    have kg:vs[i]? =some u:=by simpa using hi
    simp[execOp,ho,hA.ev hx,Instr.extract,kg]
 case call c=>
  cases hx:e.eP c.args.toList with
  |none=>simp only[hx] at hd;exact hd.elim
  |some vs=>
   simp only[hx] at hd
   have dm:=hA.dU hx
   cases hc:c.callee with
   |builtin b=>
    simp only[hc] at hd
    have:=B6j (n:=n) (e:=e) ho hc dm hd
    rwa[ho] at this
   |invoke x m=>simp only[hc] at hd;exact hd.elim
   |value x=>
    refine u6.cU (by simp[u5,hc]) ?_
    cases x with
    |func f=>
     simp only[hc] at hd
     exact B63 hC ho hc rfl dm hd
    |tmp t=>
     simp only[hc] at hd
     cases hv:e.ev (.tmp t) with
     |none=>simp only[hv] at hd;exact hd.elim
     |some v=>
      simp only[hv] at hd
      rw[←hA.ev hv] at hd
      exact A48 ho hc dm hd
    |const v=>
     simp only[hc] at hd
     exact A48 (x:=.const v) ho hc dm hd
    |global g=>
     simp only[hc] at hd
     exact A48 (x:=.global g) ho hc dm hd
theorem C15{C:List Nat}(hC:∀f,f∈C→A1z P f){n:Nat}{e:Env}{d:Dec}{a:Act}(hA:A0o n e a)(hD:A27 d a){ops:Array Oper}{o:Oper}(hd:B59 P C ops e d o k h Q):
  u6 P (u5 P o.op) (execOp a.eval o) h fun v h'=>k v h' Q:=by
 have key:(∃x,o.op=.entry x)∨B59 P C ops e d o k=C0z P C e d o k:=by
  unfold B59
  cases o.op<;>first|exact .inr rfl|exact .inl ⟨_,rfl⟩
 rcases key with⟨x,ho⟩|key
 ·unfold B59 at hd
  simp only[ho] at hd
  cases hx:e.ev x with
  |none=>simp only[hx] at hd;exact hd.elim
  |some v=>
   simp only[hx] at hd
   obtain⟨r,hr,hq⟩:=B6e (P:=P) hd
   refine u6.cU (by rw[ho];rfl) (A3x.eN (v:=r) ?_ hq)
   have:=A2C.of hr
   simpa[execOp,ho,hA.ev hx] using this
 ·rw[key] at hd
  exact B7Z hC hA hD hd
end
end
section
section
variable {P:Program} {ops:Array Oper} {b:Array Nat} {Φ:Act→Heap→Prop}
theorem A3x.mono{s:Sem Next}{h:Heap}{Ψ Ψ':Value→Heap→Prop}(hd:A3x P s h Ψ)(hp:∀v h',Ψ v h'→Ψ' v h'):A3x P s h Ψ':=by
 intro w hw
 have:=hd w hw
 revert this
 cases s.run P w with
 |halt x w'=>exact id
 |ok n w'=>
  cases n<;>first
   |exact fun hh=>⟨hh.1,hp _ _ hh.2⟩
   |exact fun hh=>⟨hh.1,V3.mono hh.2 hp⟩
   |exact id
def want(ops:Array Oper)(o:Oper)(a:Act):Bool:=Region.wanted o (yielded ops a.tmps)
def C3e(P:Program)(ops:Array Oper)(i:Nat)(v:Value)(a:Act)(h:Heap):Prop:=∃o,ops[i]? =some o∧A2C P (execOp a.eval o) h v
def r9(P:Program)(ops:Array Oper)(b:Array Nat)(draw:Bool)(K:A1B→Act→Heap→Prop)(j:Nat)(dn:A1B)(a:Act)(h:Heap):Prop:=
 match ops[j]? with
  |none=>False
  |some o=>if want ops o a=true then
    match u5 P o.op with
    |.stat=>∃v,Stat P (execOp a.eval o) v∧K dn (a.put o.dst v) h
    |.read=>∃v,A2C P (execOp a.eval o) h v∧K ((j,v)::dn) (a.put o.dst v) h
    |.cU=>A3x P (execOp a.eval o) h fun v h'=>(draw=true→∀i v',(i,v')∈dn→(b.getD j 0).testBit i=false→C3e P ops i v' (a.put o.dst v) h')∧K dn (a.put o.dst v) h'
   else K dn (a.put o.dst undef) h
def C7i(K:A1B→Act→Heap→Prop):Prop:=∀(dn dn':A1B) (a:Act) (h:Heap),(∀p,p∈dn'→p∈dn)→K dn a h→K dn' a h
theorem r9.imp{K K':A1B→Act→Heap→Prop}{draw:Bool}{j:Nat}{dn:A1B}{a:Act}{h:Heap}(hi:∀dn a h,K dn a h→K' dn a h)(hl:r9 P ops b draw K j dn a h):r9 P ops b draw K' j dn a h:=by
 unfold r9 at hl⊢
 cases ho:ops[j]? with
 |none=>simp only[ho] at hl
 |some o=>
  simp only[ho] at hl⊢
  by_cases hw:want ops o a=true
  ·rw[if_pos hw] at hl⊢
   cases hc:u5 P o.op with
   |stat=>
    simp only[hc] at hl⊢
    obtain⟨v,hv,hr⟩:=hl
    exact⟨v,hv,hi _ _ _ hr⟩
   |read=>
    simp only[hc] at hl⊢
    obtain⟨v,hv,hr⟩:=hl
    exact⟨v,hv,hi _ _ _ hr⟩
   |cU=>
    simp only[hc] at hl⊢
    exact hl.mono fun v h' ⟨h1,h2⟩=>⟨h1,hi _ _ _ h2⟩
  ·rw[if_neg hw] at hl⊢
   exact hi _ _ _ hl
theorem r9.eU{K:A1B→Act→Heap→Prop}{draw:Bool}{j:Nat}(hK:C7i K):C7i (r9 P ops b draw K j):=by
 intro dn dn' a h hs hl
 unfold r9 at hl⊢
 cases ho:ops[j]? with
 |none=>simp only[ho] at hl
 |some o=>
  simp only[ho] at hl⊢
  by_cases hw:want ops o a=true
  ·rw[if_pos hw] at hl⊢
   cases hc:u5 P o.op with
   |stat=>
    simp only[hc] at hl⊢
    obtain⟨v,hv,hr⟩:=hl
    exact⟨v,hv,hK _ _ _ _ hs hr⟩
   |read=>
    simp only[hc] at hl⊢
    obtain⟨v,hv,hr⟩:=hl
    refine⟨v,hv,hK _ _ _ _ (fun p hp=>?_) hr⟩
    cases hp with
    |head=>exact B4 ..
    |tail _ hp=>exact C3 _ (hs p hp)
   |cU=>
    simp only[hc] at hl⊢
    exact hl.mono fun v h' ⟨h1,h2⟩=>⟨fun hd i v' hi=>h1 hd i v' (hs _ hi),hK _ _ _ _ hs h2⟩
  ·rw[if_neg hw] at hl⊢
   exact hK _ _ _ _ hs hl
def A4M(P:Program)(ops:Array Oper)(b:Array Nat)(draw:Bool)(Φ:Act→Heap→Prop):A4k→A1B→Act→Heap→Prop
 |.done,_,a,h=>Φ a h
 |.q j t,dn,a,h=>r9 P ops b draw (A4M P ops b draw Φ t) j dn a h
 |.br js f,dn,a,h=>∀j,j∈js→r9 P ops b draw (A4M P ops b draw Φ (f j)) j dn a h
theorem A4M.eU{draw:Bool}:∀(t:A4k),C7i (A4M P ops b draw Φ t)
 |.done=>fun _ _ _ _ _ hl=>hl
 |.q j t=>r9.eU (A4M.eU t)
 |.br js f=>fun dn dn' a h hs hl j hj=>r9.eU (A4M.eU (f j)) dn dn' a h hs (hl j hj)
theorem A4M.imp{Φ':Act→Heap→Prop}{draw:Bool}(hi:∀a h,Φ a h→Φ' a h):∀(t:A4k) (dn:A1B) (a:Act) (h:Heap),A4M P ops b draw Φ t dn a h→A4M P ops b draw Φ' t dn a h
 |.done,_,_,_,hl=>hi _ _ hl
 |.q j t,dn,a,h,hl=>r9.imp (A4M.imp hi t) hl
 |.br js f,dn,a,h,hl=>fun j hj=>r9.imp (A4M.imp hi (f j)) (hl j hj)
def YX(P:Program)(ops:Array Oper)(o:Oper)(a:Act)(h:Heap)(v:Value):Prop:=
 (want ops o a=true∧A2C P (execOp a.eval o) h v∧(u5 P o.op=.stat→Stat P (execOp a.eval o) v))∨(want ops o a=false∧v=undef)
def B2Q:Cls→Bool
 |.read=>true
 |_=>false
def ext(P:Program)(ops:Array Oper)(j:Nat)(o:Oper)(a:Act)(v:Value)(dn:A1B):A1B:=
 match want ops o a&&B2Q (u5 P o.op) with
 |true=>(j,v)::dn
 |false=>dn
theorem B8H{j:Nat}{o:Oper}{a:Act}{v:Value}{dn:A1B}{p:Nat×Value}:p∈ext P ops j o a v dn↔p∈dn∨((want ops o a&&B2Q (u5 P o.op))=true∧p=(j,v)):=by
 unfold ext
 cases hh:want ops o a&&B2Q (u5 P o.op) with
 |true=>
  simp only[D3]
  constructor
  ·rintro(h|h)
   ·exact .inr ⟨trivial,h⟩
   ·exact .inl h
  ·rintro(h|⟨-,h⟩)
   ·exact .inr h
   ·exact .inl h
 |false=>simp
theorem r9.quiet{K:A1B→Act→Heap→Prop}{draw:Bool}{j:Nat}{o:Oper}(ho:ops[j]? =some o)(hc:u5 P o.op≠ .cU){dn:A1B}{a:Act}{h:Heap}:
  r9 P ops b draw K j dn a h↔∃v,YX P ops o a h v∧K (ext P ops j o a v dn) (a.put o.dst v) h:=by
 conv=>lhs;unfold r9
 simp only[ho]
 by_cases hw:want ops o a=true
 ·rw[if_pos hw]
  cases aQ:u5 P o.op with
  |stat=>
   simp only[YX,ext,aQ,B2Q,hw,Bool.and_false]
   constructor
   ·rintro⟨v,hv,hr⟩
    exact⟨v,.inl ⟨trivial,fun w _=>hv w,fun _=>hv⟩,hr⟩
   ·rintro⟨v,hv|hv,hr⟩
    ·exact⟨v,hv.2.2 trivial,hr⟩
    ·exact absurd hv.1 (by simp)
  |read=>
   simp only[YX,ext,aQ,B2Q,hw,Bool.and_true]
   constructor
   ·rintro⟨v,hv,hr⟩
    exact⟨v,.inl ⟨trivial,hv,fun hh=>by cases hh⟩,hr⟩
   ·rintro⟨v,hv|hv,hr⟩
    ·exact⟨v,hv.2.1,hr⟩
    ·exact absurd hv.1 (by simp)
  |cU=>exact absurd aQ hc
 ·rw[if_neg hw]
  have jC:want ops o a=false:=by simpa using hw
  simp only[YX,ext,jC,K6]
  constructor
  ·intro hr
   exact⟨undef,.inr ⟨trivial,rfl⟩,hr⟩
  ·rintro⟨v,hv|hv,hr⟩
   ·exact absurd hv.1 (by simp)
   ·obtain⟨-,rfl⟩:=hv;exact hr
theorem B9l{o:Oper}{a:Act}{dst:Option Tmp}{v:Value}(h:∀d,dst=some d→d∉o.looksAt ops):want ops o (a.put dst v)=want ops o a:=wanted_put o a dst v h
theorem YX.congr{o:Oper}{a a':Act}{h:Heap}{v:Value}(he:execOp a'.eval o=execOp a.eval o)(hw:want ops o a'=want ops o a)(hy:YX P ops o a h v):YX P ops o a' h v:=by
 unfold YX at*
 rw[he,hw]
 exact hy
theorem r9.swap{K:A1B→Act→Heap→Prop}(hK:C7i K){draw:Bool}{i j:Nat}{x y:Oper}(qH:draw=true)(hx:ops[i]? =some x)(hy:ops[j]? =some y)(lQ:x.apart ops y=true)(pR:∀cs b,x.op≠ .select cs b)(pQ:∀cs b,y.op≠ .select cs b)
  (kh:u5 P x.op≠ .cU)(hb:(b.getD j 0).testBit i=false)(fm:∀d,x.dst=some d→d∉x.looksAt ops){dn:A1B}{a:Act}{h:Heap}
  (en:∀p,p∈dn→∀o,ops[p.1]? =some o→(∀cs b,o.op≠ .select cs b)∧∀d,x.dst=some d→d∉o.looksAt ops)
  (hl:r9 P ops b draw (r9 P ops b draw K j) i dn a h):r9 P ops b draw (r9 P ops b draw K i) j dn a h:=by
 obtain⟨h1,h2,h3⟩:=Oper.apart_spec lQ
 obtain⟨v,hv,hl⟩:=(r9.quiet hx kh).1 hl
 have ey:execOp (a.put x.dst v).eval y=execOp a.eval y:=execOp_put y pQ a x.dst v h1
 have wy:want ops y (a.put x.dst v)=want ops y a:=B9l h1
 have kx:∀u,execOp (a.put y.dst u).eval x=execOp a.eval x:=fun u=>execOp_put x pR a y.dst u h3
 have wx:∀u,want ops x (a.put y.dst u)=want ops x a:=fun u=>B9l h3
 have ee:∀u,(a.put x.dst v).put y.dst u=(a.put y.dst u).put x.dst v:=fun u=>Act.put_comm a v u h2
 by_cases ua:u5 P y.op=.cU
 ·unfold r9 at hl⊢
  simp only[hy] at hl⊢
  rw[wy] at hl
  by_cases hw:want ops y a=true
  ·rw[if_pos hw] at hl⊢
   simp only[ua] at hl⊢
   rw[ey] at hl
   refine hl.mono fun u h' ⟨vH,fp⟩=>⟨fun hd p v' hp xG=>?_,?_⟩
   ·have dp:(p,v')∈ext P ops i x a v dn:=by
     unfold ext;split
     ·exact C3 _ hp
     ·exact hp
    obtain⟨o,ho,hr⟩:=vH hd p v' dp xG
    obtain⟨sW,ax⟩:=en _ hp o ho
    rw[ee u] at hr
    rw[execOp_put o sW (a.put y.dst u) x.dst v ax] at hr
    exact⟨o,ho,hr⟩
   ·refine(r9.quiet hx kh).2 ⟨v,?_,?_⟩
    ·rcases hv with⟨rB,fr,aa⟩|⟨rB,wL⟩
     ·refine .inl ⟨by rw[wx];exact rB,?_,fun hs=>by rw[kx];exact aa hs⟩
      cases aQ:u5 P x.op with
      |stat=>rw[kx];exact fun w _=>aa aQ w
      |cU=>exact absurd aQ kh
      |read=>
       have dp:(i,v)∈ext P ops i x a v dn:=by
        unfold ext;rw[rB,aQ];exact B4 ..
       obtain⟨o,ho,hr⟩:=vH qH i v dp hb
       rw[hx] at ho
       cases ho
       rw[ee u,execOp_put x pR (a.put y.dst u) x.dst v fm] at hr
       exact hr
     ·exact .inr ⟨by rw[wx];exact rB,wL⟩
    ·rw[←ee u]
     have:ext P ops i x (a.put y.dst u) v dn=ext P ops i x a v dn:=by unfold ext;rw[wx]
     rw[this]
     exact fp
  ·rw[if_neg hw] at hl⊢
   refine(r9.quiet hx kh).2 ⟨v,hv.congr (kx _) (wx _),?_⟩
   rw[←ee]
   have:ext P ops i x (a.put y.dst undef) v dn=ext P ops i x a v dn:=by unfold ext;rw[wx]
   rw[this]
   exact hl
 ·obtain⟨u,hu,hl⟩:=(r9.quiet hy ua).1 hl
  refine(r9.quiet hy ua).2 ⟨u,hu.congr ey.symm wy.symm,(r9.quiet hx kh).2 ⟨v,hv.congr (kx _) (wx _),?_⟩⟩
  rw[←ee u]
  refine hK _ _ _ _ (fun p hp=>?_) hl
  have e1:ext P ops i x (a.put y.dst u) v (ext P ops j y a u dn)=ext P ops i x a v (ext P ops j y a u dn):=by unfold ext;rw[wx]
  have e2:ext P ops j y (a.put x.dst v) u (ext P ops i x a v dn)=ext P ops j y a u (ext P ops i x a v dn):=by unfold ext;rw[wy]
  rw[e1] at hp
  rw[e2]
  rw[B8H,B8H] at hp⊢
  rcases hp with(hp|hp)|hp
  ·exact .inl (.inl hp)
  ·exact .inr hp
  ·exact .inl (.inr hp)
def C8z(P:Program)(ops:Array Oper)(b:Array Nat)(i j:Nat):Prop:=
 ∃x y,ops[i]? =some x∧ops[j]? =some y∧i≠j∧((b.getD j 0).testBit i=true∧(u5 P x.op=.read→∀d,y.dst=some d→d∉x.looksAt ops)∨
  (b.getD j 0).testBit i=false∧u5 P x.op≠ .cU∧x.apart ops y=true)
theorem B3k{x y:Oper}(h:B8g ops x y=true):∀d,y.dst=some d→d∉x.looksAt ops:=by
 intro d hd hm
 simp only[B8g,hd] at h
 simp[hm] at h
theorem A88:∀{l:List Nat} {n:Nat},A5j n l=true→n∈l
 |t::l,n,h=>by
  simp only[A5j] at h
  cases hb:Nat.beq t n with
  |true=>rw[E3 hb];exact B4 ..
  |false=>simp only[hb] at h;exact C3 _ (A88 h)
theorem A1d{j:Nat}:∀{l:List Nat} {i:Nat},i∈A1r j l↔i∈l∧i≠j
 |[],i=>by simp[A1r]
 |x::l,i=>by
  simp only[A1r]
  cases hb:Nat.beq x j with
  |true=>
   have hx:=E3 hb
   subst hx
   simp only[A1d (l:=l),D3]
   constructor
   ·rintro⟨h1,h2⟩;exact⟨.inr h1,h2⟩
   ·rintro⟨h1|h1,h2⟩
    ·exact absurd h1 h2
    ·exact⟨h1,h2⟩
  |false=>
   have hx:x≠j:=Nat.ne_of_beq_eq_false hb
   simp only[D3,A1d (l:=l)]
   constructor
   ·rintro(h1|⟨h1,h2⟩)
    ·subst h1;exact⟨.inl rfl,hx⟩
    ·exact⟨.inr h1,h2⟩
   ·rintro⟨h1|h1,h2⟩
    ·exact .inl h1
    ·exact .inr ⟨h1,h2⟩
theorem A8Q{j:Nat}:∀{l:List Nat},l.Nodup→(A1r j l).Nodup
 |[],h=>h
 |x::l,h=>by
  rw[F8] at h
  simp only[A1r]
  cases hb:Nat.beq x j with
  |true=>exact A8Q h.2
  |false=>rw[F8];exact⟨fun hm=>h.1 (A1d.1 hm).1,A8Q h.2⟩
theorem B52{j:Nat}:∀{l:List Nat},j∉l→A1r j l=l
 |[],_=>rfl
 |x::l,h=>by
  simp only[D3,not_or] at h
  simp only[A1r]
  cases hb:Nat.beq x j with
  |true=>exact absurd (E3 hb).symm h.1
  |false=>rw[B52 h.2]
theorem B1W{j:Nat}:∀{l:List Nat},l.Nodup→j∈l→(A1r j l).length+1=l.length
 |x::l,h,hm=>by
  rw[F8] at h
  simp only[A1r]
  cases hb:Nat.beq x j with
  |true=>
   have hx:=E3 hb
   subst hx
   rw[B52 h.1]
   rfl
  |false=>
   have hx:x≠j:=Nat.ne_of_beq_eq_false hb
   rcases D3.1 hm with e|hm
   ·exact absurd e.symm hx
   ·simp only[B8,B1W h.2 hm]
def B6K(P:Program)(ops:Array Oper)(b:Array Nat):A4k→List Nat→Prop
 |.done,R=>R=[]
 |.q j t,R=>(∃x,ops[j]? =some x∧u5 P x.op≠ .cU∧∀d,x.dst=some d→d∉x.looksAt ops)∧j∈R∧(∀i∈A1r j R,C8z P ops b j i)∧B6K P ops b t (A1r j R)
 |.br js f,R=>js≠[]∧(∀j∈js,j∈R∧(∃x,ops[j]? =some x∧u5 P x.op=.cU)∧B6K P ops b (f j) (A1r j R))∧∀i∈R,i∈js∨∃x∈R,(b.getD i 0).testBit x=true
theorem B1J{j:Nat}{x:Oper}(hx:ops[j]? =some x):B1K P ops j=true↔u5 P x.op=.cU:=by
 have dQ:ops.toList[j]? =some x:=by simpa using hx
 unfold B1K
 simp only[dQ]
 cases u5 P x.op<;>simp
theorem B0z:∀(t:A4k) (R:List Nat),B5M P ops b t R=true→B6K P ops b t R
 |.done,R,h=>by simpa[B5M,B6K] using h
 |.q j t,R,h=>by
  simp only[B5M,F0] at h
  obtain⟨h1,h2⟩:=h
  cases hx:ops.toList[j]? with
  |none=>simp only[hx] at h1;cases h1
  |some x=>
   have dQ:ops[j]? =some x:=by simpa using hx
   simp only[hx,F0] at h1
   obtain⟨⟨⟨h3,h4⟩,h5⟩,h6⟩:=h1
   refine⟨⟨x,dQ,fun hc=>?_,B3k h5⟩,A88 h3,fun i hi=>?_,B0z t _ h2⟩
   ·rw[(B1J dQ).2 hc] at h4;cases h4
   ·have h7:=J1.1 h6 i hi
    cases hy:ops.toList[i]? with
    |none=>simp only[hy] at h7;cases h7
    |some y=>
     simp only[hy] at h7
     refine⟨x,y,dQ,by simpa using hy,fun he=>(A1d.1 hi).2 he.symm,?_⟩
     unfold C48 at h7
     cases hb:(b.getD i 0).testBit j with
     |true=>
      simp only[hb] at h7
      refine .inl ⟨rfl,fun hr=>?_⟩
      simp only[hr] at h7
      exact B3k h7
     |false=>
      simp only[hb] at h7
      refine .inr ⟨rfl,?_,?_⟩
      ·intro hr;simp only[hr] at h7;cases h7
      ·cases hc:u5 P x.op<;>simp only[hc] at h7<;>first|exact h7|cases h7
 |.br js f,R,h=>by
  simp only[B5M,F0,J1] at h
  refine⟨fun e=>?_,fun j hj=>?_,fun i hi=>?_⟩
  ·have:=h.1.1;rw[e] at this;cases this
  ·obtain⟨⟨h1,h2⟩,h3⟩:=h.1.2 j hj
   refine⟨A88 h1,?_,B0z (f j) _ h3⟩
   cases hx:ops.toList[j]? with
   |none=>simp[B1K,hx] at h2
   |some x=>exact⟨x,by simpa using hx,(B1J (by simpa using hx)).1 h2⟩
  ·have:=h.2 i hi
   rw[Bool.or_eq_true] at this
   rcases this with h1|h1
   ·exact .inl (A88 h1)
   ·obtain⟨x,hx,hb⟩:=List.any_eq_true.1 h1
    exact .inr ⟨x,hx,hb⟩
def C6o(ops:Array Oper)(dn:A1B)(l:List Nat):Prop:=
 ∀p,p∈dn→∀o,ops[p.1]? =some o→∀k,k∈l→∀x,ops[k]? =some x→∀d,x.dst=some d→d∉o.looksAt ops
theorem A4M.pull(hs:Region.noSelect ops=true){i:Nat}:∀(t:A4k) (R:List Nat),B6K P ops b t R→i∈R→(∀x∈R,(b.getD i 0).testBit x=false)→
  ∃t' o,B6K P ops b t' (A1r i R)∧ops[i]? =some o∧(u5 P o.op=.read→∀k∈A1r i R,∀z,ops[k]? =some z→∀d,z.dst=some d→d∉o.looksAt ops)∧
   ∀(dn:A1B) (a:Act) (h:Heap),C6o ops dn R→A4M P ops b true Φ t dn a h→r9 P ops b true (A4M P ops b true Φ t') i dn a h
 |.done,R,hg,hi,_=>by rw[show R=[] from hg] at hi;cases hi
 |.br js f,R,hg,hi,hm=>by
  rcases hg.2.2 i hi with h1|⟨x,hx,hb⟩
  ·obtain⟨-,⟨o,ho,hc⟩,aY⟩:=hg.2.1 i h1
   exact⟨f i,o,aY,ho,(fun hr=>by rw[hc] at hr;cases hr),fun dn a h _ hl=>hl i h1⟩
  ·rw[hm x hx] at hb;cases hb
 |.q j t,R,hg,hi,hm=>by
  obtain⟨⟨x,hx,kh,fm⟩,rL,gk,vn⟩:=hg
  by_cases kY:i=j
  ·subst kY
   refine⟨t,x,vn,hx,fun hr k hk z hz d hd=>?_,fun dn a h _ hl=>hl⟩
   obtain⟨x1,z1,fe,dx,-,gl⟩:=gk k hk
   rw[hx] at fe;cases fe
   rw[hz] at dx;cases dx
   rcases gl with⟨-,eL⟩|⟨-,-,lQ⟩
   ·exact eL hr d hd
   ·exact(Oper.apart_spec lQ).2.2 d hd
  ·have kg:i∈A1r j R:=A1d.2 ⟨hi,kY⟩
   obtain⟨t',o,tR,ho,pU,dR⟩:=A4M.pull hs t (A1r j R) vn kg (fun y hy=>hm y (A1d.1 hy).1)
   have ee:∀R:List Nat,A1r i (A1r j R)=A1r j (A1r i R):=by
    intro R
    induction R with
    |nil=>rfl
    |cons y R ih=>
     simp only[A1r]
     cases h1:Nat.beq y j<;>cases h2:Nat.beq y i<;>simp only[A1r,h1,h2,ih]
   obtain⟨x1,o1,fe,uW,cg,gl⟩:=gk i kg
   rw[hx] at fe;cases fe
   rw[ho] at uW;cases uW
   have lQ:x.apart ops o=true:=by
    rcases gl with⟨hb,-⟩|⟨-,-,lQ⟩
    ·rw[hm j rL] at hb;cases hb
    ·exact lQ
   refine⟨.q j t',o,⟨⟨x,hx,kh,fm⟩,A1d.2 ⟨rL,fun e=>kY e.symm⟩,fun k hk=>gk k ?_,?_⟩,ho,fun hr k hk z hz d hd=>?_,fun dn a h en hl=>?_⟩
   ·rw[←ee] at hk;exact(A1d.1 hk).1
   ·rw[←ee];exact tR
   ·by_cases vg:k=j
    ·subst vg
     rw[hx] at hz;cases hz
     exact(Oper.apart_spec lQ).1 d hd
    ·exact pU hr k (by rw[ee];exact A1d.2 ⟨hk,vg⟩) z hz d hd
   ·refine r9.swap (A4M.eU t') rfl hx ho lQ (fun cs bb=>Region.noSelect_spec hs j x cs bb hx) (fun cs bb=>Region.noSelect_spec hs i o cs bb ho) kh (hm j rL) fm (fun p hp o' fv=>⟨fun cs bb=>Region.noSelect_spec hs p.1 o' cs bb fv,fun d hd=>en p hp o' fv j rL x hx d hd⟩) ?_
    obtain⟨v,hv,hq⟩:=(r9.quiet hx kh).1 hl
    refine(r9.quiet hx kh).2 ⟨v,hv,dR _ _ _ ?_ hq⟩
    intro p iQ o' fv k hk z hz d hd
    rcases B8H.1 iQ with iQ|⟨jY,rfl⟩
    ·exact en p iQ o' fv k (A1d.1 hk).1 z hz d hd
    ·rw[hx] at fv;cases fv
     have td:u5 P x.op=.read:=by
      simp only[F0] at jY
      cases hc:u5 P x.op<;>simp[hc,B2Q] at jY⊢
     obtain⟨x1,z1,fe,dx,-,gl⟩:=gk k hk
     rw[hx] at fe;cases fe
     rw[hz] at dx;cases dx
     rcases gl with⟨-,eL⟩|⟨-,-,ui⟩
     ·exact eL td d hd
     ·exact(Oper.apart_spec ui).2.2 d hd
theorem B0M{Qx:Exit→Act→World→Prop}{K:A1B→Act→Heap→Prop}{draw:Bool}{i:Nat}{dn:A1B}{a:Act}{w:World}(hl:r9 P ops b draw K i dn a w.heap):
  wpOp P ops Qx i (fun a' w'=>y9 w w'∧∃dn',(∀p,p∈dn'→p∈dn∨∃o,ops[i]? =some o∧u5 P o.op=.read∧p.1=i)∧K dn' a' w'.heap) a w:=by
 unfold r9 at hl
 cases ho:ops[i]? with
 |none=>simp only[ho] at hl
 |some o=>
  simp only[ho] at hl
  unfold wpOp
  simp only[ho]
  by_cases hw:want ops o a=true
  ·have jC:Region.wanted o (yielded ops a.tmps)=true:=hw
   rw[if_pos hw] at hl
   rw[if_pos jC]
   left
   unfold Oper.wp
   cases hc:u5 P o.op with
   |stat=>
    simp only[hc] at hl
    obtain⟨v,hv,hr⟩:=hl
    rw[hv w]
    exact⟨y9.refl w,dn,fun p hp=>.inl hp,hr⟩
   |read=>
    simp only[hc] at hl
    obtain⟨v,hv,hr⟩:=hl
    rw[hv w rfl]
    refine⟨y9.refl w,_,fun p hp=>?_,hr⟩
    cases hp with
    |head=>exact .inr ⟨o,rfl,hc,rfl⟩
    |tail _ hp=>exact .inl hp
   |cU=>
    simp only[hc] at hl
    have:=hl w rfl
    revert this
    cases(execOp a.eval o).run P w with
    |halt x w'=>exact fun hh=>hh.elim
    |ok n w'=>
     cases n<;>first
      |exact fun hh=>hh.elim
      |exact fun hh=>⟨hh.1,dn,fun p hp=>.inl hp,hh.2.2⟩
      |skip
     rename_i f args
     intro hh
     refine Calls.mono (hh.2 w' rfl) ?_
     rintro e w'' ⟨v,rfl,fY,h1,h2⟩
     exact⟨hh.1.trans fY,dn,fun p hp=>.inl hp,h2⟩
  ·have jC:¬Region.wanted o (yielded ops a.tmps)=true:=hw
   rw[if_neg hw] at hl
   rw[if_neg jC]
   exact⟨y9.refl w,dn,fun p hp=>.inl hp,hl⟩
theorem B0L{Qx:Exit→Act→World→Prop}{draw:Bool}{w0:World}(hQ:∀a w',y9 w0 w'→Φ a w'.heap→Qx .normal a w'):∀(l:List Nat) (dn:A1B) (a:Act) (w:World),y9 w0 w→
  A4M P ops b draw Φ (.ofList l) dn a w.heap→wpOps P ops Qx l a w
 |[],_,a,w,hs,hl=>hQ a w hs hl
 |i::t,dn,a,w,hs,hl=>by
  rw[wpOps_cons]
  exact wpOp_mono (fun a' w' ⟨h1,dn',_,h2⟩=>B0L hQ t dn' a' w' (hs.trans h1) h2) (B0M (K:=A4M P ops b draw Φ (.ofList t)) hl)
theorem B7S(acc:Array Nat):∀(l:List Edge) (s x:Nat),(l.foldl (fun s e=>if Region.binds .any e then s|||2 ^ e.on|||acc.getD e.on 0 else s) s).testBit x=true→
  s.testBit x=true∨∃e∈l,Region.binds .any e=true∧(e.on=x∨(acc.getD e.on 0).testBit x=true)
 |[],s,x,h=>.inl h
 |e::l,s,x,h=>by
  simp only[I1] at h
  rcases B7S acc l _ x h with h|⟨e',jm,hb,gl⟩
  ·by_cases hb:Region.binds .any e=true
   ·rw[if_pos hb] at h
    simp only[Nat.testBit_or,Bool.or_eq_true,Nat.testBit_two_pow] at h
    rcases h with(h|h)|h
    ·exact .inl h
    ·exact .inr ⟨e,B4 ..,hb,.inl (by simpa using h)⟩
    ·exact .inr ⟨e,B4 ..,hb,.inr h⟩
   ·rw[if_neg hb] at h
    exact .inl h
  ·exact .inr ⟨e',C3 _ jm,hb,gl⟩
def C6q(ops:Array Oper)(acc:Array Nat):Prop:=∀(j x:Nat),(acc.getD j 0).testBit x=true→∃o:Oper,ops[j]? =some o∧∃e∈o.after,Region.binds .any e=true∧(e.on=x∨(acc.getD e.on 0).testBit x=true)
theorem C0J(ops:Array Oper):C6q ops (Region.before ops):=by
 unfold Region.before
 have:=Array.foldl_induction (as:=ops) (motive:=fun k acc=>acc.size=k∧C6q ops acc) (init:=(#[]:Array Nat))
  (f:=fun acc o=>acc.push (o.after.foldl (fun s e=>if Region.binds .any e then s|||2 ^ e.on|||acc.getD e.on 0 else s) 0)) ?_ ?_
 ·exact this.2
 ·exact⟨rfl,fun j x h=>by simp at h⟩
 ·rintro k acc ⟨hsz,hB⟩
  refine⟨by simp[hsz],fun j x h=>?_⟩
  have lift:∀(v:Nat) m,(acc.getD m 0).testBit x=true→((acc.push v).getD m 0).testBit x=true:=by
   intro v m hm
   have ah:m<acc.size:=by
    rcases S8 m acc.size with hh|hh
    ·exact hh
    ·simp[R5 hh] at hm
   have:(acc.push v)[m]? =acc[m]? :=by rw[N4,if_neg (by omega)]
   simp only[G2,this] at hm⊢
   exact hm
  rcases Nat.lt_trichotomy j acc.size with hj|hj|hj
  ·have hold:(acc.getD j 0).testBit x=true:=by
    simp only[G2] at h⊢
    rwa[N4,if_neg (by omega)] at h
   obtain⟨o,ho,e,he,hb,gl⟩:=hB j x hold
   exact⟨o,ho,e,he,hb,gl.imp id (lift _ _)⟩
  ·subst hj
   have hk:ops[acc.size]? =some ops[k]:=by rw[hsz];exact F5 k.2
   refine⟨_,hk,?_⟩
   simp only[G2,N4,if_true,Option.getD_some] at h
   rw[←Array.foldl_toList] at h
   rcases B7S acc _ 0 x (by simpa only[G2] using h) with h0|⟨e,he,hb,gl⟩
   ·simp at h0
   ·exact⟨e,by simpa using he,hb,gl.imp id (lift _ _)⟩
  ·simp only[G2] at h
   rw[R5 (by simp;omega)] at h
   simp at h
theorem C0K(h:C2j ops=true):(∀(j:Nat) (o:Oper),ops[j]? =some o→∀e∈o.after,Region.binds .any e=true→e.on<j)∧Region.noSelect ops=true:=by
 unfold C2j at h
 rw[J1] at h
 have key:∀(j:Nat) (o:Oper),ops[j]? =some o→(o.after.toList.all (fun e=> !(Region.binds .any e)||Nat.blt e.on j)&& !(match o.op with|.select .. =>true|_=>false))=true:=by
  intro j o ho
  refine h (o,j) ?_
  rw[List.mem_zipIdx_iff_getElem?]
  simpa using ho
 refine⟨fun j o ho e he hb=>?_,?_⟩
 ·have:=key j o ho
  simp only[F0,J1] at this
  have h1:=this.1 e (by simpa using he)
  rw[hb] at h1
  exact Nat.blt_eq.mp (by simpa using h1)
 ·unfold Region.noSelect
  rw[Array.all_eq_true_iff_forall_mem]
  intro o ho
  obtain⟨j,hj,rfl⟩:=Array.mem_iff_getElem.1 ho
  have:=key j ops[j] (F5 hj)
  simp only[F0] at this
  have h2:=this.2
  cases wY:ops[j].op<;>simp[wY] at h2⊢
theorem B6P{Qx:Exit→Act→World→Prop}{w0:World}(hQ:∀a w',y9 w0 w'→Φ a w'.heap→Qx .normal a w')(hB:C6q ops b)
  (cF:∀(j:Nat) (o:Oper),ops[j]? =some o→∀e∈o.after,Region.binds .any e=true→e.on<j)(qe:Region.noSelect ops=true):
  ∀(n:Nat) (t:A4k) (l:List Nat) (listed:Array Bool) (dn:A1B) (a:Act) (w:World),l.length=n→y9 w0 w→l.Nodup→B6K P ops b t l→C6o ops dn l→
   listed.size=ops.size→(∀i,i∈l↔listed[i]? =some false)→(∀m,listed[m]? =some true→∀x,(b.getD m 0).testBit x=true→listed[x]? =some true)→
   A4M P ops b true Φ t dn a w.heap→wpAny P .any ops Qx n listed a w:=by
 intro n
 induction n with
 |zero=>
  intro t l listed dn a w hn hs au cA en hsz an aQ hl
  have:l=[]:=K9.1 hn
  subst this
  have cG:Φ a w.heap:=by
   cases t with
   |done=>exact hl
   |q j t=>exact absurd cA.2.1 (by simp)
   |br js f=>
    cases js with
    |nil=>exact absurd rfl cA.1
    |cons j js=>exact absurd (cA.2.1 j (B4 ..)).1 (by simp)
  refine⟨?_,hQ a w hs cG⟩
  rw[List.eq_nil_iff_forall_not_mem]
  intro i hi
  obtain⟨h0,o,ho,_⟩:=mem_ready.1 hi
  have ah:i<listed.size:=by rw[hsz];exact(F7.1 ho).1
  have:listed[i]? =some false:=by
   rw[F5 ah]
   simp only[G2,F5 ah,Option.getD_some] at h0
   rw[h0]
  exact absurd ((an i).2 this) (by simp)
 |succ n ih=>
  intro t l listed dn a w hn hs au cA en hsz an aQ hl
  have rdy:∀i,i∈Region.ready .any ops listed→i∈l∧∀x,x∈l→(b.getD i 0).testBit x=false:=by
   intro i hi
   obtain⟨h0,o,ho,dh⟩:=mem_ready.1 hi
   have ah:i<listed.size:=by rw[hsz];exact(F7.1 ho).1
   have hf:listed[i]? =some false:=by
    rw[F5 ah]
    simp only[G2,F5 ah,Option.getD_some] at h0
    rw[h0]
   refine⟨(an i).2 hf,fun x hx=>?_⟩
   cases hb:(b.getD i 0).testBit x with
   |false=>rfl
   |true=>
    exfalso
    obtain⟨o',fv,e,he,qP,gl⟩:=hB i x hb
    rw[ho] at fv;cases fv
    have aP:=dh e he qP
    have cZ:listed[e.on]? =some true:=by
     simp only[G2] at aP
     cases hh:listed[e.on]? with
     |none=>rw[hh] at aP;cases aP
     |some z=>rw[hh] at aP;simp at aP;rw[aP]
    have uG:listed[x]? =some true:=by
     rcases gl with rfl|gl
     ·exact cZ
     ·exact aQ e.on cZ x gl
    rw[(an x).1 hx] at uG
    cases uG
  refine⟨fun dq=>?_,fun i hi=>?_⟩
  ·
   exfalso
   have cg:l≠[]:=by intro h0;rw[h0] at hn;simp at hn
   obtain⟨m,hm,iR⟩:∃m,m∈l∧∀x,x∈l→m≤x:=by
    have pP:∃m,m∈l:=by cases l with
     |nil=>exact absurd rfl cg
     |cons m t=>exact⟨m,B4 ..⟩
    obtain⟨m,hm⟩:=pP
    exact⟨l.min cg,List.min_mem cg,fun x hx=>List.min_le_of_mem hx⟩
   have hf:=(an m).1 hm
   have ah:m<listed.size:=(F7.1 hf).1
   have uZ:m<ops.size:=by rw[←hsz];exact ah
   have:m∈Region.ready .any ops listed:=by
    rw[mem_ready]
    refine⟨by simp[G2,hf],ops[m],F5 uZ,fun e he qP=>?_⟩
    have bf:=cF m ops[m] (F5 uZ) e he qP
    have qE:e.on<listed.size:=by omega
    cases hh:listed[e.on]? with
    |none=>rw[F5 qE] at hh;cases hh
    |some z=>
     cases z with
     |true=>simp[G2,hh]
     |false=>have:=iR _ ((an e.on).2 hh);omega
   rw[dq] at this
   cases this
  ·obtain⟨cK,oK⟩:=rdy i hi
   have hf:=(an i).1 cK
   have ah:i<listed.size:=(F7.1 hf).1
   obtain⟨t',oi,qA,j',tc,dR⟩:=A4M.pull (Φ:=Φ) qe t l cA cK oK
   refine wpOp_mono ?_ (B0M (dR dn a w.heap en hl))
   rintro a' w' ⟨fY,dn',tX,gY⟩
   have hlen:=B1W au cK
   refine ih t' (A1r i l) (listed.setIfInBounds i true) dn' a' w' (by omega) (hs.trans fY) (A8Q au) qA ?_ (by simp[hsz]) ?_ ?_ gY
   ·intro p hp o ho k hk z hz d hd
    rcases tX p hp with hp|⟨o',fv,jY,wX⟩
    ·exact en p hp o ho k (A1d.1 hk).1 z hz d hd
    ·rw[wX] at ho
     rw[ho] at fv;cases fv
     rw[ho] at j';cases j'
     exact tc jY k hk z hz d hd
   ·intro k
    rw[H4,A1d]
    by_cases tJ:i=k
    ·subst tJ
     simp only[if_true,ah]
     constructor
     ·rintro⟨-,h0⟩;exact absurd rfl h0
     ·intro hh;cases hh
    ·rw[if_neg tJ,←an k]
     exact⟨fun h1=>h1.1,fun h1=>⟨h1,fun e=>tJ e.symm⟩⟩
   ·intro m hm x hx
    rw[H4] at hm⊢
    by_cases vl:i=x
    ·subst vl;simp[ah]
    ·rw[if_neg vl]
     by_cases vm:i=m
     ·subst vm
      obtain⟨h0,o,ho,dh⟩:=mem_ready.1 hi
      obtain⟨o',fv,e,he,qP,gl⟩:=hB i x hx
      rw[ho] at fv;cases fv
      have aP:=dh e he qP
      have cZ:listed[e.on]? =some true:=by
       simp only[G2] at aP
       cases hh:listed[e.on]? with
       |none=>rw[hh] at aP;cases aP
       |some z=>rw[hh] at aP;simp at aP;rw[aP]
      rcases gl with rfl|gl
      ·exact cZ
      ·exact aQ e.on cZ x gl
     ·rw[if_neg vm] at hm
      exact aQ m hm x hx
end
end
section
def Ext(D:List Nat)(e e':Env):Prop:=∀t,t∉D→e'.get t=e.get t
theorem Ext.refl(D:List Nat)(e:Env):Ext D e e:=fun _ _=>rfl
theorem Ext.trans{D:List Nat}{a b c:Env}(h:Ext D a b)(k:Ext D b c):Ext D a c:=fun t ht=>(k t ht).trans (h t ht)
theorem Ext.mono{D D':List Nat}{a b:Env}(h:Ext D a b)(hs:∀t,t∈D→t∈D'):Ext D' a b:=fun t ht=>h t (fun hh=>ht (hs t hh))
theorem C2Z(e:Env)(s:Nat)(v:Value)(t:Nat):Env.get (e.put (some s) v) t=if s=t then some v else e.get t:=by
 simp only[Env.put,Env.get]
 by_cases h:s=t
 ·subst h;simp
 ·rw[if_neg h]
  cases hb:Nat.beq s t with
  |true=>exact absurd (E3 hb) h
  |false=>rfl
theorem B5w:∀{l:List Nat} {n:Nat},A5j n l=true↔n∈l
 |[],n=>by simp[A5j]
 |t::ts,n=>by
  simp only[A5j,D3]
  cases hb:Nat.beq t n with
  |true=>simp[E3 hb]
  |false=>
   have cg:n≠t:=by intro h;subst h;simp at hb
   simp[cg,B5w]
theorem A7x(ts:List Nat):∀(e:Env) (t:Nat),(e.forget ts).get t=if t∈ts then none else e.get t
 |[],t=>by simp[Env.forget,Env.get]
 |(s,v)::e,t=>by
  have ih:=A7x ts e t
  simp only[Env.forget]
  cases hm:A5j s ts with
  |true=>
   simp only[Env.get]
   rw[ih]
   have hs:=B5w.1 hm
   by_cases ht:t∈ts
   ·rw[if_pos ht,if_pos ht]
   ·rw[if_neg ht,if_neg ht]
    cases hb:Nat.beq s t with
    |true=>rw[E3 hb] at hs;exact absurd hs ht
    |false=>rfl
  |false=>
   simp only[Env.get]
   have hs:s∉ts:=fun hh=>by rw[B5w.2 hh] at hm;cases hm
   cases hb:Nat.beq s t with
   |true=>have:=E3 hb;subst this;rw[if_neg hs]
   |false=>exact ih
theorem A0o.put{n:Nat}{e:Env}{a:Act}(h:A0o n e a){dst:Option Nat}(hd:∀s,dst=some s→s<n)(v:Value):A0o n (e.put dst v) (a.put dst v):=by
 cases dst with
 |none=>exact h
 |some s=>
  refine⟨by simp[Act.put,h.size],h.defers,fun t u ht=>?_⟩
  rw[C2Z] at ht
  simp only[Act.put,H4]
  by_cases cy:s=t
  ·subst cy
   rw[if_pos rfl] at ht
   cases ht
   simp[h.size,hd s rfl]
  ·rw[if_neg cy] at ht⊢
   exact h.get t u ht
theorem A27.put{d:Dec}{a:Act}(h:A27 d a){dst:Option Nat}(hd:∀s,dst=some s→d.get s=none)(v:Value):A27 d (a.put dst v):=by
 cases dst with
 |none=>exact h
 |some s=>
  intro t b ht
  simp only[Act.put,H4]
  by_cases cy:s=t
  ·subst cy;rw[hd s rfl] at ht;cases ht
  ·rw[if_neg cy];exact h t b ht
theorem A27.cons{d:Dec}{a:Act}(h:A27 d a){s:Nat}{b:Bool}(hs:a.tmps[s]? =some (.bool b)):A27 ((s,b)::d) a:=by
 intro t c ht
 simp only[Dec.get] at ht
 cases hb:Nat.beq s t with
 |true=>rw[hb] at ht;cases ht;rw[←E3 hb];exact hs
 |false=>rw[hb] at ht;exact h t c ht
theorem Dec.eZ{d:Dec}{s t:Nat}{b:Bool}(h:d.get t=none)(cg:s≠t):Dec.get ((s,b)::d) t=none:=by
 simp only[Dec.get]
 cases hb:Nat.beq s t with
 |true=>exact absurd (E3 hb) cg
 |false=>exact h
theorem B5N{e:Env}:∀{ss:List (Nat×Kind)} {vs:C9P},e.eE ss=some vs→vs.length=ss.length∧∀t v,Env.get (A3X ss vs) t=some v→e.get t=some v
 |[],vs,h=>by simp only[Env.eE,F4] at h;subst h;exact⟨rfl,fun t v hh=>by simp[A3X,Env.get] at hh⟩
 |(s,kd)::r,vs,h=>by
  simp only[Env.eE] at h
  cases hs:e.get s with
  |none=>simp only[hs] at h;cases h
  |some u=>
   simp only[hs] at h
   cases hr:e.eE r with
   |none=>simp only[hr] at h;cases h
   |some us=>
    simp only[hr] at h
    cases h
    obtain⟨h1,h2⟩:=B5N hr
    refine⟨by simp[h1],fun t v hh=>?_⟩
    simp only[A3X,Env.get] at hh
    cases hb:Nat.beq s t with
    |true=>rw[hb] at hh;cases hh;rw[←E3 hb];exact hs
    |false=>rw[hb] at hh;exact h2 t v hh
theorem get_append(a b:Env)(t:Nat):Env.get (a++b) t=match Env.get a t with|some v=>some v|none=>Env.get b t:=by
 induction a with
 |nil=>rfl
 |cons x a ih=>
  obtain⟨s,v⟩:=x
  simp only[G5,Env.get]
  cases hb:Nat.beq s t with
  |true=>rfl
  |false=>exact ih
theorem B0K:∀(ss:List (Nat×Kind)) (vs:C9P) (t:Nat),t∉ss.map (·.1)→Env.get (A3X ss vs) t=none
 |[],vs,t,_=>rfl
 |_::_,[],t,_=>by simp[A3X,Env.get]
 |(s,kd)::r,v::vs,t,h=>by
  simp only[B6,D3,not_or] at h
  simp only[A3X,Env.get]
  cases hb:Nat.beq s t with
  |true=>exact absurd (E3 hb).symm h.1
  |false=>exact B0K r vs t h.2
theorem A8F{e:Env}{ds:List Nat}{ss:List (Nat×Kind)}(jF:∀p∈ss,p.1∈ds)(x:q9 (ss.map (·.2))):Ext ds e (e.join ds ss x):=by
 intro t ht
 unfold Env.join
 rw[get_append,B0K,A7x,if_neg ht]
 intro hm
 obtain⟨p,hp,rfl⟩:=E4.1 hm
 exact ht (jF p hp)
theorem C3h{e:Env}{ss:List (Nat×Kind)}{x:q9 (ss.map (·.2))}(h:e.dW ss=some x):∀t v,Env.get (A3X ss (q9.cC (ss.map (·.2)) x)) t=some v→e.get t=some v:=by
 unfold Env.dW at h
 cases hg:e.eE ss with
 |none=>simp only[hg] at h;cases h
 |some vs=>
  simp only[hg] at h
  have:=q9.bJ _ _ _ h
  rw[←this]
  exact(B5N hg).2
theorem A0o.join{n:Nat}{e e':Env}{a:Act}(h:A0o n e' a){ds:List Nat}(hx:Ext ds e e'){ss:List (Nat×Kind)}{x:q9 (ss.map (·.2))}(ht:e'.dW ss=some x):A0o n (e.join ds ss x) a:=by
 refine⟨h.size,h.defers,fun t v hg=>?_⟩
 unfold Env.join at hg
 rw[get_append] at hg
 cases hz:Env.get (A3X ss (q9.cC (ss.map (·.2)) x)) t with
 |some u=>rw[hz] at hg;cases hg;exact h.get t v (C3h ht t v hz)
 |none=>
  rw[hz] at hg
  simp only at hg
  rw[A7x] at hg
  by_cases hm:t∈ds
  ·rw[if_pos hm] at hg;cases hg
  ·rw[if_neg hm] at hg
   exact h.get t v (by rw[hx t hm];exact hg)
section
variable {P:Program} {C:List Nat} {n:Nat} {ops:Array Oper} {draw:Bool} {ρ:Type} {Q:ρ→Heap→Prop}
def C6p(P:Program)(ops:Array Oper)(draw:Bool)(dn:A1B):Prop:=draw=true→∀p,p∈dn→∃o,ops[p.1]? =some o∧u5 P o.op=.read
theorem A8W(hC:∀f,f∈C→A1z P f){bj:Nat}{e:Env}{d:Dec}{a:Act}{h:Heap}(hA:A0o n e a)(hD:A27 d a){m:HM ρ}:∀(dn:A1B),(∀p,p∈dn→∃o,ops[p.1]? =some o∧u5 P o.op=.read)→
  again P C ops bj e d dn m h Q→(∀i v,(i,v)∈dn→bj.testBit i=false→C3e P ops i v a h)∧m h Q
 |[],_,hd=>⟨fun _ _ hm=>(by cases hm),hd⟩
 |(i,v)::r,en,hd=>by
  simp only[again] at hd
  cases hb:bj.testBit i with
  |true=>
   simp only[hb] at hd
   obtain⟨h1,h2⟩:=A8W hC hA hD r (fun p hp=>en p (C3 _ hp)) hd
   refine⟨fun j u hm qO=>?_,h2⟩
   cases hm with
   |head=>rw[hb] at qO;cases qO
   |tail _ hm=>exact h1 j u hm qO
  |false=>
   simp only[hb] at hd
   obtain⟨o,ho,aQ⟩:=en (i,v) (B4 ..)
   have fv:ops.toList[i]? =some o:=by simpa using ho
   simp only[fv] at hd
   have:=B7Z hC hA hD hd
   rw[aQ] at this
   obtain⟨v',pL,sO,fp⟩:=this
   subst sO
   obtain⟨h1,h2⟩:=A8W hC hA hD r (fun p hp=>en p (C3 _ hp)) fp
   refine⟨fun j u hm qO=>?_,h2⟩
   cases hm with
   |head=>exact⟨o,ho,pL⟩
   |tail _ hm=>exact h1 j u hm qO
theorem C16(hC:∀f,f∈C→A1z P f){j:Nat}{o:Oper}{e:Env}{d:Dec}{dn dn':A1B}{kk:Env→A1B→HM ρ}{a:Act}{h:Heap}{K:A1B→Act→Heap→Prop}
  (ho:ops[j]? =some o)(hA:A0o n e a)(hD:A27 d a)(iU:∀s,o.dst=some s→s<n)(jQ:∀s,o.dst=some s→d.get s=none)(en:C6p P ops draw dn)(bg:draw=true→∀p,p∈dn'→p∈dn)
  (hw:want ops o a=true)
  (ih:∀v h' rf lv,(u5 P o.op=.stat→Stat P (execOp a.eval o) v)→kk (e.put o.dst v) rf h' Q→C6p P ops draw rf→(draw=true→∀p,p∈lv→p∈rf)→K lv (a.put o.dst v) h')
  (hd:B0C P C ops draw j o e d dn kk h Q):r9 P ops (Region.before ops) draw K j dn' a h:=by
 have hl:=C15 hC hA hD hd
 unfold r9
 simp only[ho]
 rw[if_pos hw]
 cases hc:u5 P o.op with
 |stat=>
  rw[hc] at hl
  simp only
  obtain⟨v,hv,hq⟩:=hl
  refine⟨v,hv,?_⟩
  cases gA:draw with
  |false=>subst gA;simp only at hq;exact ih v h dn dn' (fun _=>hv) hq en bg
  |true=>subst gA;simp only[hc] at hq;exact ih v h dn dn' (fun _=>hv) hq en bg
 |read=>
  rw[hc] at hl
  simp only
  obtain⟨v,hv,hq⟩:=hl
  refine⟨v,hv,?_⟩
  cases gA:draw with
  |false=>subst gA;simp only at hq;exact ih v h dn _ (fun hh=>by rw[hc] at hh;cases hh) hq en (fun hh=>by cases hh)
  |true=>
   subst gA;simp only[hc] at hq
   refine ih v h _ _ (fun hh=>by rw[hc] at hh;cases hh) hq (fun _ p hp=>?_) (fun _ p hp=>?_)
   ·cases hp with
    |head=>exact⟨o,ho,hc⟩
    |tail _ hp=>exact en rfl p hp
   ·cases hp with
    |head=>exact B4 ..
    |tail _ hp=>exact C3 _ (bg rfl p hp)
 |cU=>
  rw[hc] at hl
  simp only
  refine A3x.mono hl fun v h' hq=>?_
  cases gA:draw with
  |false=>subst gA;simp only at hq;exact⟨fun hh=>(by cases hh),ih v h' dn dn' (fun hh=>by rw[hc] at hh;cases hh) hq en bg⟩
  |true=>
   subst gA;simp only[hc] at hq
   obtain⟨h1,h2⟩:=A8W hC (hA.put iU v) (hD.put jQ v) dn (en rfl) hq
   exact⟨fun _ i v' hi hb=>h1 i v' (bg rfl _ hi) hb,ih v h' dn dn' (fun hh=>by rw[hc] at hh;cases hh) h2 en bg⟩
theorem r9.pass{K:A1B→Act→Heap→Prop}{b:Array Nat}{j:Nat}{o:Oper}{dn:A1B}{a:Act}{h:Heap}(ho:ops[j]? =some o)(hw:want ops o a=false)
  (hl:K dn (a.put o.dst undef) h):r9 P ops b draw K j dn a h:=by
 unfold r9
 simp only[ho,hw]
 simpa using hl
theorem A5H{d:Dec}{a:Act}(hD:A27 d a){x:Operand}{b:Bool}(h:B7H d x=some b):a.eval x=.bool b:=by
 cases x with
 |tmp t=>
  have:=hD t b h
  simp[Act.eval,this]
 |const c=>cases c<;>simp[B7H] at h;subst h;rfl
 |global g=>cases h
 |func f=>cases h
theorem B95{d:Dec}{a:Act}(hD:A27 d a){o:Oper}{b:Bool}(h:C2T d o.op=some b):u5 P o.op=.stat∧∀w,(execOp a.eval o).run P w=.ok (.value (.bool b)) w:=by
 unfold C2T at h
 split at h
 ·rename_i x ho
  exact⟨by rw[ho];rfl,fun w=>by simp[execOp,ho,A5H hD h]⟩
 ·rename_i x ho
  exact⟨by rw[ho];rfl,fun w=>by simp[execOp,ho,A5H hD h]⟩
 ·rename_i t x y ho
  refine⟨by rw[ho];rfl,fun w=>?_⟩
  split at h
  ·rename_i hg
   have ht:=hD t true hg
   have hx:=A5H hD h
   have he:a.eval (.tmp t)=.bool true:=by simp[Act.eval,ht]
   simp[execOp,ho,he,asBool,hx]
  ·rename_i hg
   have ht:=hD t false hg
   have hx:=A5H hD h
   have he:a.eval (.tmp t)=.bool false:=by simp[Act.eval,ht]
   simp[execOp,ho,he,asBool,hx]
  ·cases h
 ·cases h
theorem C0C{d:Dec}{a:Act}(hD:A27 d a){o:Oper}(jQ:∀s,o.dst=some s→d.get s=none)(ah:∀s,o.dst=some s→s<a.tmps.size){v:Value}(cy:u5 P o.op=.stat→Stat P (execOp a.eval o) v):
  A27 (A3q d o) (a.put o.dst v):=by
 have hp:=hD.put jQ v
 unfold A3q
 cases hs:o.dst with
 |none=>rw[hs] at hp;exact hp
 |some s=>
  rw[hs] at hp
  simp only
  cases hl:C2T d o.op with
  |none=>exact hp
  |some b=>
   obtain⟨hc,hr⟩:=B95 (P:=P) hD hl
   have h1:=cy hc default
   rw[hr default] at h1
   cases h1
   exact hp.cons (by simp[Act.put,ah s hs])
theorem C3g{o:Oper}{a:Act}(h:o.guard=none):want ops o a=true:=by simp[want,Region.wanted,h]
theorem B68{o:Oper}{a:Act}{g:Nat}{wnt b:Bool}{s:Nat}(h:o.guard=some (g,wnt))(hs:A4N ops g=some s)(hb:a.tmps[s]? =some (.bool b)):want ops o a=(b==wnt):=by
 unfold A4N at hs
 cases hg:ops.toList[g]? with
 |none=>simp only[hg] at hs;cases hs
 |some og=>
  simp only[hg] at hs
  have qA:ops[g]? =some og:=by simpa using hg
  simp only[want,Region.wanted,h,yielded,qA,N9,hs,hb]
  cases b<;>cases wnt<;>rfl
theorem C0Z{o:Oper}{a:Act}{g:Nat}{wnt:Bool}{s:Nat}{vs:C9O}(h:o.guard=some (g,wnt))(hs:A4N ops g=some s)(hb:a.tmps[s]? =some (.tuple vs)):want ops o a=false:=by
 unfold A4N at hs
 cases hg:ops.toList[g]? with
 |none=>simp only[hg] at hs;cases hs
 |some og=>
  simp only[hg] at hs
  have qA:ops[g]? =some og:=by simpa using hg
  simp only[want,Region.wanted,h,yielded,qA,N9,hs,hb]
  cases wnt<;>rfl
theorem B3U(hC:∀f,f∈C→A1z P f){k:Env→Dec→A1B→HM ρ}{K:A1B→Act→Heap→Prop}(D:List Nat)(oo:∀o s,o∈ops→o.dst=some s→s∈D)(e0:Env)
  (ih:∀(e:Env) (d:Dec) (dn dn':A1B) (a:Act) (h:Heap),k e d dn h Q→Ext D e0 e→A0o n e a→A27 d a→C6p P ops draw dn→(draw=true→∀p,p∈dn'→p∈dn)→K dn' a h)
  (j:Nat)(e:Env)(d:Dec)(dn dn':A1B)(a:Act)(h:Heap)(hd:B4D P C n ops draw j e d dn k h Q)(hx:Ext D e0 e)(hA:A0o n e a)(iB:A27 d a)(en:C6p P ops draw dn)(bg:draw=true→∀p,p∈dn'→p∈dn):
  r9 P ops (Region.before ops) draw K j dn' a h:=by
  simp only[B4D] at hd
  cases ho:ops.toList[j]? with
  |none=>simp only[ho] at hd;exact hd.elim
  |some o=>
   simp only[ho] at hd
   have fv:ops[j]? =some o:=by simpa using ho
   have an:o∈ops:=Array.mem_of_getElem? fv
   cases iX:C5X n d o.dst with
   |false=>simp only[iX] at hd;exact hd.elim
   |true=>
   simp only[iX] at hd
   have iU:∀s,o.dst=some s→s<n:=by
    intro s hs
    rw[hs] at iX
    have gP:(Nat.blt s n&&(d.get s).isNone)=true:=iX
    rw[F0] at gP
    exact Nat.blt_eq.mp gP.1
   have jQ:∀s,o.dst=some s→d.get s=none:=by
    intro s hs
    rw[hs] at iX
    have gP:(Nat.blt s n&&(d.get s).isNone)=true:=iX
    rw[F0] at gP
    exact Option.isNone_iff_eq_none.1 gP.2
   have nB:∀v,Ext D e0 (e.put o.dst v):=by
    intro v
    refine hx.trans fun t ht=>?_
    cases hs:o.dst with
    |none=>rfl
    |some s=>
     rw[C2Z,if_neg]
     intro cy;subst cy;exact ht (oo o s an hs)
   have yp:Ext D e0 (e.forget o.dst.toList):=by
    refine hx.trans fun t ht=>?_
    rw[A7x,if_neg]
    intro hm
    cases hs:o.dst with
    |none=>rw[hs] at hm;exact absurd hm R1
    |some s=>rw[hs] at hm;have:=B7.1 hm;subst this;exact ht (oo o t an hs)
   have run:∀(d2:Dec),A27 d2 a→(∀s,o.dst=some s→d2.get s=none)→want ops o a=true→(B0C P C ops draw j o e d2 dn fun e' dn'=>k e' (A3q d2 o) dn') h Q→
     r9 P ops (Region.before ops) draw K j dn' a h:=by
    intro d2 iA lh hw hh
    exact C16 hC fv hA iA iU lh en bg hw (fun v h' rf lv cy hh tW pN=>ih _ (A3q d2 o) rf lv _ h' hh (nB v) (hA.put iU v) (C0C (P:=P) iA lh (fun s hs=>by rw[hA.size];exact iU s hs) cy) tW pN) hh
   have skip:∀(d2:Dec),A27 d2 a→(∀s,o.dst=some s→d2.get s=none)→want ops o a=false→k (e.put o.dst undef) d2 dn h Q→
     r9 P ops (Region.before ops) draw K j dn' a h:=by
    intro d2 iA lh hw hh
    have:=ih _ d2 dn dn' _ h hh (nB undef) (hA.put iU undef) (iA.put lh undef) en bg
    exact r9.pass fv hw this
   cases hg:o.guard with
   |none=>
    simp only[hg] at hd
    exact run d iB jQ (C3g hg) hd
   |some gw=>
    obtain⟨g,wnt⟩:=gw
    simp only[hg] at hd
    cases hs:A4N ops g with
    |none=>simp only[hs] at hd;exact hd.elim
    |some s=>
     simp only[hs] at hd
     cases tY:d.get s with
     |some b=>
      simp only[tY] at hd
      have hw:=B68 (ops:=ops) (a:=a) hg hs (iB s b tY)
      cases b<;>cases wnt<;>simp only at hd
      ·exact run d iB jQ (by rw[hw];rfl) hd
      ·exact skip d iB jQ (by rw[hw];rfl) hd
      ·exact skip d iB jQ (by rw[hw];rfl) hd
      ·exact run d iB jQ (by rw[hw];rfl) hd
     |none=>
      simp only[tY] at hd
      cases hh:C6U o.dst s with
      |true=>simp only[hh] at hd;exact hd.elim
      |false=>
      simp only[hh] at hd
      have cg:∀t,o.dst=some t→s≠t:=by
       intro t ht cy
       subst cy
       rw[ht] at hh
       simp[C6U] at hh
      cases oR:e.get s with
      |none=>simp only[oR] at hd;exact hd.elim
      |some u=>
       have oE:=hA.get s _ oR
       cases u<;>simp only[oR] at hd<;>first|exact hd.elim|exact skip d iB jQ (C0Z (ops:=ops) (a:=a) hg hs oE) hd|skip
       rename_i bb
       have hw:=B68 (ops:=ops) (a:=a) hg hs oE
       have lj:∀b',∀t,o.dst=some t→Dec.get ((s,b')::d) t=none:=fun b' t ht=>Dec.eZ (jQ t ht) (cg t ht)
       cases wnt<;>simp only at hd<;>cases bb
       ·exact run _ (iB.cons oE) (lj _) (by rw[hw];rfl) hd
       ·exact skip _ (iB.cons oE) (lj _) (by rw[hw];rfl) hd
       ·exact skip _ (iB.cons oE) (lj _) (by rw[hw];rfl) hd
       ·exact run _ (iB.cons oE) (lj _) (by rw[hw];rfl) hd
theorem C0R{h:Heap}:∀{l:List (HM ρ)},C65 l h Q→∀m∈l,m h Q
 |[m],hd,x,hx=>by rw[B7.1 hx];exact hd
 |m::y::r,hd,x,hx=>by
  have iV:m h Q∧C65 (y::r) h Q:=hd
  rcases D3.1 hx with rfl|hx
  ·exact iV.1
  ·exact C0R iV.2 x hx
theorem B1Y(hC:∀f,f∈C→A1z P f){k:Env→HM ρ}(D:List Nat)(oo:∀o s,o∈ops→o.dst=some s→s∈D)(e0:Env):∀(t:A4k) (e:Env) (d:Dec) (dn dn':A1B) (a:Act) (h:Heap),
  C13 P C n ops draw t e d dn k h Q→Ext D e0 e→A0o n e a→A27 d a→C6p P ops draw dn→(draw=true→∀p,p∈dn'→p∈dn)→
  A4M P ops (Region.before ops) draw (fun a' h'=>∃e',A0o n e' a'∧Ext D e0 e'∧k e' h' Q) t dn' a h
 |.done,e,d,dn,dn',a,h,hd,hx,hA,_,_,_=>⟨e,hA,hx,hd⟩
 |.q j t,e,d,dn,dn',a,h,hd,hx,hA,iB,en,bg=>B3U hC D oo e0 (B1Y hC D oo e0 t) j e d dn dn' a h hd hx hA iB en bg
 |.br js f,e,d,dn,dn',a,h,hd,hx,hA,iB,en,bg=>fun j hj=>
  B3U hC D oo e0 (B1Y hC D oo e0 (f j)) j e d dn dn' a h (C0R hd _ (B3 hj)) hx hA iB en bg
end
end
section
def HW(P:Program)(c:Code)(a:Act)(h:Heap)(Ψ:Exit→Act→Heap→Prop):Prop:=∀w,w.heap=h→c.wp P (fun x a' w'=>y9 w w'∧Ψ x a' w'.heap) a w
section
variable {P:Program} {C:List Nat} {n:Nat} {live lc:List Nat} {rs:List ResultVar}
theorem B6V(hm:P.follows .mixedOrders=true){ops:Array Oper}{draw:Bool}{id:Nat}{a:Act}{h:Heap}{Ψ:Exit→Act→Heap→Prop}(ag:draw=true→B1s P ops (A5X P ops true)=true)
  (hl:A4M P ops (Region.before ops) draw (fun a' h'=>Ψ .normal a' h') (A5X P ops draw) [] a h):HW P (.region id ops draw) a h Ψ:=by
 intro w hw
 subst hw
 cases draw with
 |false=>
  exact wp_region (B0L (w0:=w) (fun a' w' hs hp=>⟨hs,hp⟩) (List.range ops.size) [] a w (y9.refl w) hl)
 |true=>
  have ho:=ag rfl
  simp only[B1s,F0] at ho
  obtain⟨hb,hp⟩:=ho
  obtain⟨cF,qe⟩:=C0K hb
  have cA:=B0z _ _ hp
  refine wp_region_any hm ?_
  have an:∀i,i∈List.range ops.size↔(Array.replicate ops.size false)[i]? =some false:=by
   intro i
   rw[R4]
   constructor
   ·intro hi;simp[hi]
   ·intro hi
    rcases S8 i ops.size with hh|hh
    ·exact hh
    ·simp[hh] at hi
  exact B6P (w0:=w) (fun a' w' hs hp=>⟨hs,hp⟩) (C0J ops) cF qe ops.size (A5X P ops true) (List.range ops.size) (Array.replicate ops.size false) [] a {w with drawn:=w.drawn+1} (by simp) ⟨rfl,rfl,rfl⟩ List.nodup_range cA
   (fun p hp=>by cases hp) (by simp) an (fun m hm=>by
    rw[Array.getElem?_replicate] at hm
    split at hm<;>cases hm) hl
theorem B5m:∀(l:List Oper) (p:Nat×Kind),p∈A3K P live l→p.1∈dstsOf l
 |[],p,h=>by cases h
 |o::l,p,h=>by
  have ih:=B5m l p
  have step:p∈A3K P live l→p.1∈dstsOf (o::l):=fun hh=>by
   simp only[dstsOf]
   cases o.dst with
   |none=>exact ih hh
   |some s=>exact C3 _ (ih hh)
  simp only[A3K] at h
  cases hg:o.guard with
  |some g=>simp only[hg] at h;exact step h
  |none=>
   simp only[hg] at h
   cases hs:o.dst with
   |none=>simp only[hs] at h;exact step h
   |some s=>
    simp only[hs] at h
    cases hm:A5j s live with
    |false=>simp only[hm] at h;exact step h
    |true=>
     simp only[hm] at h
     cases hk:kindOf P o.type with
     |none=>simp only[hk] at h;exact step h
     |some k=>
      simp only[hk] at h
      cases h with
      |head=>simp only[dstsOf,hs];exact B4 ..
      |tail _ hh=>exact step hh
theorem B51:∀(l:List Oper) (o:Oper) (s:Nat),o∈l→o.dst=some s→s∈dstsOf l
 |[],_,_,h,_=>by cases h
 |x::l,o,s,h,hs=>by
  simp only[dstsOf]
  cases h with
  |head=>rw[hs];exact B4 ..
  |tail _ h=>
   have:=B51 l o s h hs
   cases x.dst with
   |none=>exact this
   |some t=>exact C3 _ this
theorem B4q(hm:P.follows .mixedOrders=true)(hC:∀f,f∈C→A1z P f){ρ:Type}{Q:ρ→Heap→Prop}{ops:Array Oper}{draw:Bool}{id:Nat}{e:Env}{k:Env→HM ρ}{a:Act}{h:Heap}{Ψ:Exit→Act→Heap→Prop}
  (hd:B21 P C n live ops draw e k h Q)(hA:A0o n e a)(hk:∀e' a' h',Ext (dstsOf ops.toList) e e'→A0o n e' a'→k e' h' Q→Ψ .normal a' h'):HW P (.region id ops draw) a h Ψ:=by
 unfold B21 at hd
 have lN:∀(o:Oper) (s:Nat),o∈ops→o.dst=some s→s∈dstsOf ops.toList:=fun o s ho hs=>B51 _ o s (by simpa using ho) hs
 have go:∀(hh:(draw=true→B1s P ops (A5X P ops true)=true)∧((match guarded ops.toList with
  |false=>C13 P C n ops draw (A5X P ops draw) e [] [] k
  |true=>(C13 P C n ops draw (A5X P ops draw) e [] [] fun e'=>B1l (e'.dW (A3K P live ops.toList))).bind fun x=>k (e.join (dstsOf ops.toList) (A3K P live ops.toList) x)) h Q)),HW P (.region id ops draw) a h Ψ:=by
  rintro⟨ag,hd⟩
  refine B6V hm ag ?_
  cases hg:guarded ops.toList with
  |false=>
   simp only[hg] at hd
   refine A4M.imp ?_ _ _ _ _ (B1Y hC (dstsOf ops.toList) lN e _ e [] [] [] a h hd (Ext.refl _ _) hA (fun t b ht=>by cases ht) (fun _ p hp=>by cases hp) (fun _ p hp=>hp))
   rintro a' h' ⟨e',gB,hx,hq⟩
   exact hk e' a' h' hx gB hq
  |true=>
   simp only[hg] at hd
   refine A4M.imp ?_ _ _ _ _ (B1Y hC (dstsOf ops.toList) lN e _ e [] [] [] a h hd (Ext.refl _ _) hA (fun t b ht=>by cases ht) (fun _ p hp=>by cases hp) (fun _ p hp=>hp))
   rintro a' h' ⟨e',gB,hx,hq⟩
   cases ht:e'.dW (A3K P live ops.toList) with
   |none=>rw[ht] at hq;exact hq.elim
   |some x=>
    rw[ht] at hq
    exact hk _ a' h' (A8F (fun p hp=>B5m _ p hp) x) (gB.join hx ht) hq
 cases draw with
 |false=>exact go ⟨fun hh=>(by cases hh),hd⟩
 |true=>
  cases ho:B1s P ops (A5X P ops true) with
  |false=>simp only[ho] at hd;exact hd.elim
  |true=>simp only[ho] at hd;exact go ⟨fun _=>ho,hd⟩
def B7g(a:Act):ResultVar→Sem Value
 |.tmp t=>pure (a.tmps.getD t undef)
 |.cell x t=>do loadVar t (←asAddr (a.tmps.getD x undef))
def C3b(P:Program)(rs:List ResultVar)(a:Act)(h:Heap)(vs:C9P):Prop:=∀w,w.heap=h→(rs.mapM (B7g a)).run P w=.ok vs w
theorem A4G{ρ:Type}{Q:ρ→Heap→Prop}{e:Env}{a:Act}{h:Heap}(hA:A0o n e a):∀(rs:List ResultVar) (kk:C9P→HM ρ),B0B P e rs kk h Q→∃vs,C3b P rs a h vs∧kk vs h Q
 |[],kk,hd=>⟨[],fun w _=>rfl,hd⟩
 |.tmp t::rs,kk,hd=>by
  simp only[B0B] at hd
  cases ht:e.get t with
  |none=>simp only[ht] at hd;exact hd.elim
  |some v=>
   simp only[ht] at hd
   obtain⟨vs,dm,hq⟩:=A4G hA rs _ hd
   refine⟨v::vs,fun w hw=>?_,hq⟩
   have bt:=hA.get t v ht
   rw[List.mapM_cons]
   simp[B7g,bt,dm w hw]
 |.cell x ty::rs,kk,hd=>by
  simp only[B0B] at hd
  cases ht:e.get x with
  |none=>simp only[ht] at hd;exact hd.elim
  |some u=>
   simp only[ht] at hd
   obtain⟨v,hv,hd⟩:=A92 hd
   obtain⟨vs,dm,hq⟩:=A4G hA rs _ hd
   refine⟨v::vs,fun w hw=>?_,hq⟩
   have bt:=hA.get x u ht
   rw[List.mapM_cons]
   have hl:=hv w hw
   have:(B7g a (.cell x ty)).run P w=.ok v w:=by
    cases u with
    |pointer p=>
     cases p with
     |some ad=>simpa[B7g,bt,asAddr,Instr.loadAt,Instr.sureAddr] using hl
     |none=>simp[Instr.loadAt,Instr.sureAddr] at hl
    |_=>simp[Instr.loadAt,Instr.sureAddr] at hl
   simp[this,dm w hw]
structure KOK(P:Program)(n:Nat)(rs:List ResultVar)(D:List Nat)(e:Env){ρ:Type}(k:KK ρ)(Q:ρ→Heap→Prop)(Ψ:Exit→Act→Heap→Prop):Prop where
 norm:∀e' a' h',Ext D e e'→A0o n e' a'→k.norm e' h' Q→Ψ .normal a' h'
 ret:∀a' h' vs r,a'.defers=[]→C3b P rs a' h' vs→k.ret vs=some r→Q r h'→Ψ .ret a' h'
 bW:∀id g e' a' h' r,A1R k.bW id=some g→Ext D e e'→A0o n e' a'→g e'=some r→Q r h'→Ψ (.exit id) a' h'
theorem KOK.at{D D':List Nat}{e e1:Env}{ρ:Type}{k:KK ρ}{Q:ρ→Heap→Prop}{Ψ:Exit→Act→Heap→Prop}(hk:KOK P n rs D e k Q Ψ)(hs:∀t,t∈D'→t∈D)(hx:Ext D e e1):KOK P n rs D' e1 k Q Ψ:=
 ⟨fun e' a' h' dQ hA hq=>hk.norm e' a' h' (hx.trans (dQ.mono hs)) hA hq,hk.ret,fun id g e' a' h' r hg dQ hA he hq=>hk.bW id g e' a' h' r hg (hx.trans (dQ.mono hs)) hA he hq⟩
theorem A2P{ρ:Type}{Q:ρ→Heap→Prop}{h:Heap}{o:Option ρ}(hd:B1l o h Q):∃r,o=some r∧Q r h:=by
 cases o with
 |none=>exact hd.elim
 |some r=>exact⟨r,rfl,hd⟩
theorem A8O{ρ ρ':Type}{f:ρ→ρ'}:∀(l:List (Nat×(Env→Option ρ))) (id:Nat) (g:Env→Option ρ'),A1R (A42 f l) id=some g→
  ∃g0,A1R l id=some g0∧∀e r,g e=some r→∃r0,g0 e=some r0∧r=f r0
 |[],id,g,h=>by cases h
 |(t,g1)::d,id,g,h=>by
  simp only[A42,A1R] at h⊢
  cases hb:Nat.beq t id with
  |true=>
   simp only[hb] at h⊢
   cases h
   refine⟨g1,rfl,fun e r hr=>?_⟩
   cases hg:g1 e with
   |none=>simp only[hg] at hr;cases hr
   |some r0=>simp only[hg] at hr;cases hr;exact⟨r0,rfl,rfl⟩
  |false=>
   simp only[hb] at h⊢
   exact A8O d id g h
theorem A7C{β:Type}(x:Nat):∀(l:List (Nat×β)) (id:Nat) (g:β),A1R (A8R x l) id=some g→id≠x∧A1R l id=some g
 |[],_,_,h=>by cases h
 |(t,b)::d,id,g,h=>by
  simp only[A8R] at h
  cases hb:Nat.beq t x with
  |true=>
   simp only[hb] at h
   obtain⟨h1,h2⟩:=A7C x d id g h
   refine⟨h1,?_⟩
   simp only[A1R]
   cases hc:Nat.beq t id with
   |true=>have:=E3 hb;have:=E3 hc;omega
   |false=>exact h2
  |false=>
   simp only[hb,A1R] at h⊢
   cases hc:Nat.beq t id with
   |true=>
    simp only[hc] at h⊢
    refine⟨?_,h⟩
    have:=E3 hc
    intro he
    subst he;subst this
    simp at hb
   |false=>
    simp only[hc] at h⊢
    exact A7C x d id g h
theorem A5R(e:Env):∀(l:List Nat) (p:Nat×Kind),p∈carried lc e l→p.1∈l
 |[],p,h=>by cases h
 |s::r,p,h=>by
  have ih:=A5R e r p
  simp only[carried] at h
  cases hm:A5j s r with
  |true=>simp only[hm] at h;exact C3 _ (ih h)
  |false=>
   simp only[hm] at h
   cases hl:A5j s lc with
   |false=>simp only[hl] at h;exact C3 _ (ih h)
   |true=>
    simp only[hl] at h
    cases hv:e.get s with
    |none=>simp only[hv] at h;exact C3 _ (ih h)
    |some v=>
     simp only[hv] at h
     cases hk:Kind.of v with
     |none=>simp only[hk] at h;exact C3 _ (ih h)
     |some k=>
      simp only[hk] at h
      cases h with
      |head=>exact B4 ..
      |tail _ hh=>exact C3 _ (ih hh)
def B1M(ex:Option Nat)(Ψ:Exit→Act→Heap→Prop):Exit→Act→Heap→Prop
 |.exit id,a,h=>if ex=some id then Ψ .normal a h else Ψ (.exit id) a h
 |x,a,h=>Ψ x a h
theorem B3N{ρ:Type}{Q:ρ→Heap→Prop}{outs:Bool}{ss:List (Nat×Kind)}{inner:(ρ':Type)→KK ρ'→HM ρ'}{ex:Option Nat}{e:Env}{ds:List Nat}{k:KK ρ}{h:Heap}{Ψ:Exit→Act→Heap→Prop}
  (jF:∀p∈ss,p.1∈ds)(hk:KOK P n rs ds e k Q Ψ)(hd:B3P outs ss inner ex e ds k h Q){R:Prop}
  (ed:∀(ρ':Type) (k':KK ρ') (Q':ρ'→Heap→Prop),inner ρ' k' h Q'→KOK P n rs ds e k' Q' (B1M ex Ψ)→R):R:=by
 unfold B3P at hd
 cases outs with
 |true=>
  simp only at hd
  refine ed _ _ _ hd ?_
  have gK:∀e' a' h',Ext ds e e'→A0o n e' a'→∀r,(match e'.dW ss with|some x=>some (Sum.inl (β:=ρ) x)|none=>none)=some r→
    Sum.elim (fun x=>k.norm (e.join ds ss x)) W9 r h' Q→Ψ .normal a' h':=by
   intro e' a' h' hx hA r hr hq
   cases ht:e'.dW ss with
   |none=>rw[ht] at hr;cases hr
   |some x=>
    rw[ht] at hr;cases hr
    exact hk.norm _ a' h' (A8F jF x) (hA.join hx ht) hq
  refine⟨fun e' a' h' hx hA hq=>?_,fun a' h' vs r iI fM hr hq=>?_,fun id g e' a' h' r hg hx hA hr hq=>?_⟩
  ·obtain⟨r,hr,hq⟩:=A2P hq
   exact gK e' a' h' hx hA r hr hq
  ·simp only[B8L] at hr
   cases nO:k.ret vs with
   |none=>simp only[nO] at hr;cases hr
   |some r0=>simp only[nO] at hr;cases hr;exact hk.ret a' h' vs r0 iI fM nO hq
  ·have old:∀g0,A1R (A42 (Sum.inr (α:=q9 (ss.map (·.2)))) k.bW) id=some g0→g0 e'=some r→Ψ (.exit id) a' h':=by
    intro g0 rM ij
    obtain⟨g1,h1,h2⟩:=A8O _ _ _ rM
    obtain⟨r0,h3,h4⟩:=h2 e' r ij
    subst h4
    exact hk.bW id g1 e' a' h' r0 h1 hx hA h3 hq
   cases ex with
   |none=>simp only[B1M];rw[if_neg (by simp)];exact old g hg hr
   |some x=>
    simp only[A1R] at hg
    simp only[B1M]
    cases hb:Nat.beq x id with
    |true=>
     simp only[hb] at hg
     cases hg
     have:=E3 hb
     subst this
     rw[if_pos rfl]
     exact gK e' a' h' hx hA r hr hq
    |false=>
     simp only[hb] at hg
     rw[if_neg (by intro hh;cases hh;simp at hb)]
     exact old g hg hr
 |false=>
  simp only at hd
  refine ed _ _ _ hd ?_
  have gK:∀e' a' h',Ext ds e e'→A0o n e' a'→∀r,e'.dW ss=some r→k.norm (e.join ds ss r) h' Q→Ψ .normal a' h':=
   fun e' a' h' hx hA r ht hq=>hk.norm _ a' h' (A8F jF r) (hA.join hx ht) hq
  refine⟨fun e' a' h' hx hA hq=>?_,fun a' h' vs r iI fM hr hq=>(by cases hr),fun id g e' a' h' r hg hx hA hr hq=>?_⟩
  ·obtain⟨r,hr,hq⟩:=A2P hq
   exact gK e' a' h' hx hA r hr hq
  ·cases ex with
   |none=>cases hg
   |some x=>
    simp only[A1R] at hg
    simp only[B1M]
    cases hb:Nat.beq x id with
    |true=>
     simp only[hb] at hg
     cases hg
     have:=E3 hb
     subst this
     rw[if_pos rfl]
     exact gK e' a' h' hx hA r hr hq
    |false=>simp only[hb] at hg;cases hg
theorem B9k{c:Code}{Q:Exit→Act→World→Prop}{σ:Type}(J:σ→Act→World→Prop)(μ:σ→World→Nat)(round:∀s a w,J s a w→c.wp P (Exit.then (fun a' w'=>∃s',J s' a' w'∧μ s' w'<μ s w) Q) a w)
  {s:σ}{a:Act}{w:World}(h0:J s a w):(Code.loop c).wp P Q a w:=by
 intro b k cs
 have key:∀m s a w,μ s w=m→J s a w→∃e a' w',Q e a' w'∧Arrives P (lone (b.at a (.code c:: .inLoop c::k)) cs w) b k cs e a' w':=by
  intro m
  induction m using Nat.strongRecOn with
  |_ m ih=>
   intro s a w hm hJ
   obtain⟨e,a1,w1,hq,gR⟩:=round s a w hJ b (.inLoop c::k) cs
   cases e with
   |normal=>
    obtain⟨s',oY,ah⟩:=hq
    obtain⟨e2,a2,w2,ef,qS⟩:=ih (μ s' w1) (hm▸ah) s' a1 w1 rfl oY
    exact⟨e2,a2,w2,ef,.of_steps (Steps.trans gR (.one step_inLoop)) qS⟩
   |exit id=>exact⟨_,a1,w1,hq,.pass (x:=.inLoop c) rfl (fun _ _=>.inl (by simp)) gR⟩
   |goto l=>exact⟨_,a1,w1,hq,.pass (x:=.inLoop c) rfl (fun _ _=>.inl (by simp)) gR⟩
   |ret=>exact⟨_,a1,w1,hq,.pass (x:=.inLoop c) rfl (fun _ _=>.inl (by simp)) gR⟩
   |panic ch=>exact⟨_,a1,w1,hq,.pass (x:=.inLoop c) rfl (fun _ _=>.inl (by simp)) gR⟩
   |outgrown=>exact⟨_,a1,w1,hq,.pass (x:=.inLoop c) rfl (fun _ _=>.inl (by simp)) gR⟩
 obtain⟨e,a',w',hq,gR⟩:=key _ s a w rfl h0
 exact⟨e,a',w',hq,.of_steps (.one step_loop) gR⟩
theorem C4a(hm:P.follows .mixedOrders=true)(hC:∀f,f∈C→A1z P f):∀(c:Code) (ρ:Type) (e:Env) (k:KK ρ) (h:Heap) (Q:ρ→Heap→Prop) (a:Act) (Ψ:Exit→Act→Heap→Prop),
  den P C n live lc rs c ρ e k h Q→A0o n e a→KOK P n rs (A2G c) e k Q Ψ→HW P c a h Ψ:=by
 intro c
 induction c with
 |skip=>
  intro ρ e k h Q a Ψ hd hA hk w hw
  subst hw
  exact wp_skip ⟨y9.refl w,hk.norm e a _ (Ext.refl _ _) hA hd⟩
 |region id ops draw=>
  intro ρ e k h Q a Ψ hd hA hk
  exact B4q hm hC hd hA hk.norm
 |seq x y ihx ihy=>
  intro ρ e k h Q a Ψ hd hA hk
  have h1:=ihx ρ e {k with norm:=fun e'=>den P C n live lc rs y ρ e' k} h Q a (fun ex a' h'=>match ex with|.normal=>HW P y a' h' Ψ|ex=>Ψ ex a' h') hd hA
   ⟨fun e' a' h' hx gB hq=>ihy ρ e' k h' Q a' Ψ hq gB (hk.at (fun t ht=>F6 _ ht) (hx.mono fun t ht=>I7 _ ht)),
    fun a' h' vs r iI fM hr hq=>hk.ret a' h' vs r iI fM hr hq,
    fun id g e' a' h' r hg hx gB hr hq=>hk.bW id g e' a' h' r hg (hx.mono fun t ht=>I7 _ ht) gB hr hq⟩
  intro w hw
  refine wp_seq (wp_mono (h1 w hw) ?_)
  rintro ex a' w' ⟨hs,hq⟩
  cases ex with
  |normal=>exact wp_mono (hq w' rfl) fun yF a2 w2 ⟨ae,ef⟩=>⟨hs.trans ae,ef⟩
  |exit id=>exact⟨hs,hq⟩
  |goto l=>exact⟨hs,hq⟩
  |ret=>exact⟨hs,hq⟩
  |panic ch=>exact⟨hs,hq⟩
  |outgrown=>exact⟨hs,hq⟩
 |cond c x y ihx ihy=>
  intro ρ e k h Q a Ψ hd hA hk
  simp only[den] at hd
  cases hc:e.ev c with
  |none=>simp only[hc] at hd;exact hd.elim
  |some v=>
   cases v<;>simp only[hc] at hd<;>try exact hd.elim
   rename_i t
   have oQ:=hA.ev hc
   have inner:∀(ρ':Type) (k':KK ρ') (Q':ρ'→Heap→Prop),A04 t (den P C n live lc rs x ρ' e k') (den P C n live lc rs y ρ' e k') h Q'→KOK P n rs (A2G x++A2G y) e k' Q' Ψ→HW P (.cond c x y) a h Ψ:=by
    intro ρ' k' Q' hd hk w hw
    refine wp_cond oQ ?_
    simp only[A04] at hd
    cases t with
    |true=>
     rw[if_pos rfl] at hd⊢
     exact ihx ρ' e k' h Q' a Ψ hd hA (hk.at (fun t ht=>I7 _ ht) (Ext.refl _ _)) w hw
    |false=>
     rw[if_neg (by simp)] at hd⊢
     exact ihy ρ' e k' h Q' a Ψ hd hA (hk.at (fun t ht=>F6 _ ht) (Ext.refl _ _)) w hw
   cases hn:A3s x&&A3s y with
   |false=>simp only[hn] at hd;exact inner ρ k Q hd hk
   |true=>
    simp only[hn] at hd
    have e0:B1M none Ψ=Ψ:=by
     funext ex a' h'
     cases ex<;>simp[B1M]
    exact B3N (fun p hp=>A5R e _ p hp) hk hd (fun ρ' k' Q' hi gZ=>inner ρ' k' Q' hi (by rw[e0] at gZ;exact gZ))
 |block id x ih=>
  intro ρ e k h Q a Ψ hd hA hk
  have fin:HW P x a h (B1M (some id) Ψ)→HW P (.block id x) a h Ψ:=by
   intro hx w hw
   refine wp_block (wp_mono (hx w hw) ?_)
   rintro ex a' w' ⟨hs,hq⟩
   cases ex with
   |exit id'=>
    simp only[B1M] at hq
    simp only[Exit.inBlock]
    by_cases hid:id'=id
    ·subst hid;rw[if_pos rfl] at hq⊢;exact⟨hs,hq⟩
    ·rw[if_neg (by intro hh;cases hh;exact hid rfl)] at hq
     rw[if_neg hid]
     exact⟨hs,hq⟩
   |normal=>exact⟨hs,hq⟩
   |goto l=>exact⟨hs,hq⟩
   |ret=>exact⟨hs,hq⟩
   |panic ch=>exact⟨hs,hq⟩
   |outgrown=>exact⟨hs,hq⟩
  simp only[den] at hd
  cases hx:A3s.canExit id x with
  |true=>
   simp only[hx] at hd
   exact B3N (fun p hp=>A5R e _ p hp) hk hd (fun ρ' k' Q' hi gZ=>fin (ih ρ' e k' h Q' a _ hi hA gZ))
  |false=>
   simp only[hx] at hd
   refine fin (ih ρ e _ h Q a _ hd hA ⟨hk.norm,hk.ret,fun id' g e' a' h' r hg hx gB hr hq=>?_⟩)
   obtain⟨h1,h2⟩:=A7C id _ _ _ hg
   simp only[B1M]
   rw[if_neg (by intro hh;cases hh;exact h1 rfl)]
   exact hk.bW id' g e' a' h' r h2 hx gB hr hq
 |loop x ih=>
  intro ρ e k h Q a Ψ hd hA hk
  simp only[den] at hd
  cases ht:e.dW (carried lc e (A2G x)) with
  |none=>simp only[ht] at hd;exact hd.elim
  |some s0=>
   simp only[ht] at hd
   obtain⟨I,μ,hI,nI⟩:=hd
   have jF:∀p∈carried lc e (A2G x),p.1∈A2G x:=fun p hp=>A5R e _ p hp
   intro w0 jX
   refine B9k (J:=fun y a w=>y9 w0 w∧A0o n (e.join (A2G x) (carried lc e (A2G x)) y) a∧I y w.heap) (μ:=fun y w=>μ y w.heap) ?_ (s:=s0) ⟨y9.refl _,hA.join (Ext.refl _ _) ht,by rw[jX];exact hI⟩
   rintro y a1 w1 ⟨aa,jv,xU⟩
   have hb:=nI y w1.heap xU
   have:=ih _ _ _ w1.heap _ a1 (fun ex a' h'=>match ex with
    |.normal=>∃s',A0o n (e.join (A2G x) (carried lc e (A2G x)) s') a'∧I s' h'∧μ s' h'<μ y w1.heap
    |ex=>Ψ ex a' h') hb jv ⟨fun e' a' h' hx gB hq=>?_,fun a' h' vs r iI fM hr hq=>?_,fun id g e' a' h' r hg hx gB hr hq=>?_⟩
   ·refine wp_mono (this w1 rfl) ?_
    rintro ex a' w' ⟨hs,hq⟩
    cases ex with
    |normal=>
     obtain⟨s',h1,h2,h3⟩:=hq
     exact⟨s',⟨aa.trans hs,h1,h2⟩,h3⟩
    |exit id=>exact⟨aa.trans hs,hq⟩
    |goto l=>exact⟨aa.trans hs,hq⟩
    |ret=>exact⟨aa.trans hs,hq⟩
    |panic ch=>exact⟨aa.trans hs,hq⟩
    |outgrown=>exact⟨aa.trans hs,hq⟩
   ·obtain⟨r,hr,hq⟩:=A2P hq
    cases sS:e'.dW (carried lc e (A2G x)) with
    |none=>rw[sS] at hr;cases hr
    |some z=>
     rw[sS] at hr;cases hr
     exact⟨z,gB.join ((A8F jF y).trans hx) sS,hq.1,hq.2⟩
   ·simp only[B8L] at hr
    cases nO:k.ret vs with
    |none=>simp only[nO] at hr;cases hr
    |some r0=>simp only[nO] at hr;cases hr;exact hk.ret a' h' vs r0 iI fM nO hq
   ·obtain⟨g1,h1,h2⟩:=A8O _ _ _ hg
    obtain⟨r0,h3,h4⟩:=h2 e' r hr
    subst h4
    exact hk.bW id g1 e' a' h' r0 h1 ((A8F jF y).trans hx) gB h3 hq
 |exit id=>
  intro ρ e k h Q a Ψ hd hA hk w hw
  subst hw
  simp only[den] at hd
  cases hg:A1R k.bW id with
  |none=>simp only[hg] at hd;exact hd.elim
  |some g=>
   simp only[hg] at hd
   obtain⟨r,hr,hq⟩:=A2P hd
   exact wp_exit ⟨y9.refl w,hk.bW id g e a _ r hg (Ext.refl _ _) hA hr hq⟩
 |ret=>
  intro ρ e k h Q a Ψ hd hA hk w hw
  subst hw
  simp only[den] at hd
  obtain⟨vs,dm,hq⟩:=A4G hA rs _ hd
  obtain⟨r,hr,hq⟩:=A2P hq
  exact wp_ret ⟨y9.refl w,hk.ret a _ vs r hA.defers dm hr hq⟩
 |_=>intro ρ e k h Q a Ψ hd hA hk;exact hd.elim
def C5a:C9P→Value
 |[v]=>v
 |vs=>.tuple vs.toArray
def packed(ks:List Kind)(x:q9 ks):Value:=C5a (q9.cC ks x)
theorem B9G{fn:Func}{a:Act}{w:World}{vs:C9P}(h:C3b P fn.results.toList a w.heap vs):(results fn a.tmps).run P w=.ok (C5a vs) w:=by
 have hm:(fn.results.mapM (B7g a)).run P w=.ok vs.toArray w:=by
  rw[Array.mapM_eq_mapM_toList]
  simp only[Sem.run_map]
  rw[h w rfl]
  rfl
 have e1:results fn a.tmps=(do let vs←fn.results.mapM (B7g a);pure (if h:vs.size=1 then vs[0] else .tuple vs)):=by
  unfold results
  congr 1
 rw[e1]
 simp only[Sem.run_bind,hm,Result.andThen_ok,Sem.run_pure]
 congr 1
 match vs with
 |[]=>rfl
 |[v]=>rfl
 |u::v::r=>rfl
theorem C0k:∀(args:C9P) (i t:Nat) (v:Value),Env.get ((args.zipIdx i).map fun(v,i)=>(i,v)) t=some v→i≤t∧args[t-i]? =some v
 |[],_,_,_,h=>by cases h
 |x::args,i,t,v,h=>by
  simp only[List.zipIdx_cons,B6,Env.get] at h
  cases hb:Nat.beq i t with
  |true=>
   rw[hb] at h
   have:=E3 hb
   subst this
   cases h
   simp
  |false=>
   rw[hb] at h
   obtain⟨h1,h2⟩:=C0k args (i+1) t v h
   refine⟨by omega,?_⟩
   rw[show t-i=(t-(i+1))+1 from by omega]
   simpa using h2
theorem B11{f:FuncId}{fn:Func}{ks:List Kind}{args:C9P}{h:Heap}{Q:Value→Heap→Prop}(hf:P.funcs[f]? =some fn)(hb:fn.body.isSome=true)(hn:fn.ntmps=n)(hlen:Nat.ble args.length n=true)
  (hC:∀f,f∈C→A1z P f)(hm:P.follows .mixedOrders=true)(hd:C5R P C n live lc fn.results.toList ks (B6u fn) args h fun x h'=>Q (packed ks x) h'):V3 P f args.toArray h Q:=by
 obtain⟨c,hc⟩:=Option.isSome_iff_exists.1 hb
 have qN:B6u fn=c:=by simp[B6u,hc]
 rw[qN] at hd
 intro w hw
 subst hw
 refine calls_of_wp hf hc ?_
 have hle:=O8 hlen
 have hA:A0o n (args.zipIdx.map fun(v,i)=>(i,v)) {tmps:=args.toArray++Array.replicate (fn.ntmps-args.toArray.size) undef,defers:=[]}:=by
  refine⟨by simp[hn];omega,rfl,fun t v ht=>?_⟩
  obtain⟨-,h2⟩:=C0k args 0 t v ht
  simp only[Nat.sub_zero] at h2
  have ah:t<args.length:=by
   rcases S8 t args.length with hh|hh
   ·exact hh
   ·rw[List.getElem?_eq_none hh] at h2;cases h2
  simp[Array.getElem?_append,ah,h2]
  rw[B0 ah] at h2
  exact Option.some.inj h2
 have cG:∀(a':Act) (h':Heap) (vs:C9P) (r:q9 ks),a'.defers=[]→C3b P fn.results.toList a' h' vs→q9.get ks vs=some r→Q (packed ks r) h'→
   a'.defers=[]∧∃v,(∀w',w'.heap=h'→(results fn a'.tmps).run P w'=.ok v w')∧Q v h':=by
  intro a' h' vs r iI fM hr hq
  refine⟨iI,C5a vs,fun w' jC=>by subst jC;exact B9G fM,?_⟩
  have:=q9.bJ _ _ _ hr
  rw[this];exact hq
 have nF:=C4a (live:=live) (lc:=lc) (rs:=fn.results.toList) hm hC c (q9 ks) _ _ w.heap _ _
  (fun ex a' h'=>match ex with
   |.normal=>a'.defers=[]∧∃v,(∀w',w'.heap=h'→(results fn a'.tmps).run P w'=.ok v w')∧Q v h'
   |.ret=>a'.defers=[]∧∃v,(∀w',w'.heap=h'→(results fn a'.tmps).run P w'=.ok v w')∧Q v h'
   |_=>False) hd hA
  ⟨fun e' a' h' hx gB hq=>by
   obtain⟨vs,dm,hq⟩:=A4G gB _ _ hq
   obtain⟨r,hr,hq⟩:=A2P hq
   exact cG a' h' vs r gB.defers dm hr hq,
   fun a' h' vs r iI fM hr hq=>cG a' h' vs r iI fM hr hq,
   fun id g e' a' h' r hg=>by cases hg⟩
 refine wp_mono (nF w rfl) ?_
 rintro ex a' w' ⟨hs,hq⟩
 cases ex with
 |normal=>
  obtain⟨iI,v,hv,hq⟩:=hq
  exact⟨iI,v,hv w' rfl,v,rfl,hs,hq⟩
 |ret=>
  obtain⟨iI,v,hv,hq⟩:=hq
  exact⟨iI,v,hv w' rfl,v,rfl,hs,hq⟩
 |exit id=>exact hq.elim
 |goto l=>exact hq.elim
 |panic ch=>exact hq.elim
 |outgrown=>exact hq.elim
end
end
end Go.H