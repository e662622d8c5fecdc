/-
  Our texts, packed by program.
-/
import Derived.Calls
import Derived.Orders
import Derived.Laws.Sem
import Derived.Laws.World
import Derived.Laws.Entries
import Derived.Laws.Strings
import Derived.Laws.StructEq
import Derived.Laws.BytesString
set_option linter.unusedSimpArgs false
set_option linter.unusedVariables false
set_option maxHeartbeats 16000000
set_option maxRecDepth 100000
namespace Go.H
abbrev B4p:=ByteArray
abbrev D0p:=Option Addr
abbrev D0q:=Array Value
abbrev D0r:=List Value
end Go.H
namespace Go.H
theorem B0.{u}:type_of% @List.getElem?_eq_getElem.{u}:=@List.getElem?_eq_getElem
theorem B3.{u}:type_of% @List.length_append.{u}:=@List.length_append
theorem B4.{u,v}:type_of% @List.mem_map_of_mem.{u,v}:=@List.mem_map_of_mem
theorem B5.{u,v}:type_of% @List.map_cons.{u,v}:=@List.map_cons
theorem B6.{u}:type_of% @List.mem_cons_self.{u}:=@List.mem_cons_self
theorem B7.{u}:type_of% @List.length_cons.{u}:=@List.length_cons
theorem B8.{u,v}:type_of% @List.map_append.{u,v}:=@List.map_append
theorem B9.{u}:type_of% @List.mem_singleton.{u}:=@List.mem_singleton
theorem C0.{u,v}:type_of% @List.length_map.{u,v}:=@List.length_map
theorem C1.{u}:type_of% @List.append_nil.{u}:=@List.append_nil
theorem C2.{u}:type_of% @List.mem_cons_of_mem.{u}:=@List.mem_cons_of_mem
theorem C3.{u}:type_of% @List.take_succ_eq_append_getElem.{u}:=@List.take_succ_eq_append_getElem
theorem C4:type_of% @Nat.le_trans:=@Nat.le_trans
theorem C7.{u}:type_of% @List.mem_append.{u}:=@List.mem_append
theorem C9:type_of% @Nat.zero_le:=@Nat.zero_le
theorem D1.{u}:type_of% @List.take_of_length_le.{u}:=@List.take_of_length_le
theorem D2.{u}:type_of% @List.length_filter_le.{u}:=@List.length_filter_le
theorem D3.{u}:type_of% @List.mem_cons.{u}:=@List.mem_cons
theorem D4.{u}:type_of% @List.getElem?_eq_some_iff.{u}:=@List.getElem?_eq_some_iff
theorem D5.{u,v,w}:type_of% @Sum.elim_inl.{u,v,w}:=@Sum.elim_inl
theorem D6.{u}:type_of% @List.length_take.{u}:=@List.length_take
theorem D7.{u}:type_of% @List.append_assoc.{u}:=@List.append_assoc
theorem D8.{u,v}:type_of% @List.flatMap_cons.{u,v}:=@List.flatMap_cons
theorem D9:type_of% @Nat.le_refl:=@Nat.le_refl
theorem E0.{u}:type_of% @List.drop_eq_getElem_cons.{u}:=@List.drop_eq_getElem_cons
theorem E1:type_of% @Nat.eq_of_beq_eq_true:=@Nat.eq_of_beq_eq_true
theorem E3.{u,v}:type_of% @List.mem_map.{u,v}:=@List.mem_map
theorem E4.{u,v,w}:type_of% @Sum.elim_inr.{u,v,w}:=@Sum.elim_inr
theorem E6.{u}:type_of% @List.mem_filter.{u}:=@List.mem_filter
theorem E7.{u}:type_of% @List.find?_eq_none.{u}:=@List.find?_eq_none
theorem E8:type_of% @Bool.and_eq_true:=@Bool.and_eq_true
theorem E9.{u}:type_of% @List.mem_of_getElem?.{u}:=@List.mem_of_getElem?
theorem F0.{u}:type_of% @List.nil_append.{u}:=@List.nil_append
theorem F3.{u,v,w}:type_of% @List.map_map.{u,v,w}:=@List.map_map
theorem F4.{u}:type_of% @List.filter_append.{u}:=@List.filter_append
theorem F5.{u}:type_of% @List.take_length.{u}:=@List.take_length
theorem F6.{u}:type_of% @Option.some.injEq.{u}:=@Option.some.injEq
theorem F7.{u}:type_of% @Array.getElem?_eq_getElem.{u}:=@Array.getElem?_eq_getElem
theorem F8:type_of% @decide_eq_decide:=@decide_eq_decide
theorem F9.{u}:type_of% @Array.getElem?_eq_some_iff.{u}:=@Array.getElem?_eq_some_iff
theorem G0.{u}:type_of% @List.nodup_cons.{u}:=@List.nodup_cons
theorem G1.{u}:type_of% @List.length_nil.{u}:=@List.length_nil
theorem G2.{u}:type_of% @List.filter_cons_of_neg.{u}:=@List.filter_cons_of_neg
theorem G3.{u}:type_of% @List.nodup_append.{u}:=@List.nodup_append
theorem G4.{u}:type_of% @Array.getD_eq_getD_getElem?.{u}:=@Array.getD_eq_getD_getElem?
theorem G5:type_of% @Bool.true_and:=@Bool.true_and
theorem G6.{u}:type_of% @List.Sublist.refl.{u}:=@List.Sublist.refl
theorem G7.{u}:type_of% @List.cons_append.{u}:=@List.cons_append
theorem G8.{u}:type_of% @List.mem_append_right.{u}:=@List.mem_append_right
theorem G9.{u}:type_of% @List.filter_cons_of_pos.{u}:=@List.filter_cons_of_pos
theorem H0.{u}:type_of% @List.append_of_mem.{u}:=@List.append_of_mem
theorem H2.{u}:type_of% @List.mem_of_find?_eq_some.{u}:=@List.mem_of_find?_eq_some
theorem H3.{u}:type_of% @List.filter_eq_self.{u}:=@List.filter_eq_self
theorem H4.{u}:type_of% @List.pairwise_cons.{u}:=@List.pairwise_cons
theorem H5.{u}:type_of% @List.take_add_one.{u}:=@List.take_add_one
theorem H6.{u}:type_of% @List.getElem_mem.{u}:=@List.getElem_mem
theorem H7:type_of% @Bool.false_eq_true:=@Bool.false_eq_true
theorem H8.{u}:type_of% @Array.getElem?_setIfInBounds.{u}:=@Array.getElem?_setIfInBounds
theorem H9.{u}:type_of% @beq_eq_false_iff_ne.{u}:=@beq_eq_false_iff_ne
theorem I0.{u}:type_of% @List.filter_cons.{u}:=@List.filter_cons
theorem I1.{u,v}:type_of% @List.flatMap_nil.{u,v}:=@List.flatMap_nil
theorem I2.{u,v}:type_of% @List.map_congr_left.{u,v}:=@List.map_congr_left
theorem I3.{u,v}:type_of% @List.map_nil.{u,v}:=@List.map_nil
theorem I4.{u,v}:type_of% @List.foldl_cons.{u,v}:=@List.foldl_cons
theorem I5.{u}:type_of% @List.filter_sublist.{u}:=@List.filter_sublist
theorem I6.{u}:type_of% @List.pairwise_append.{u}:=@List.pairwise_append
theorem I7.{u,v}:type_of% @List.flatMap_append.{u,v}:=@List.flatMap_append
theorem I8.{u}:type_of% @Array.toList_inj.{u}:=@Array.toList_inj
theorem I9.{u,v}:type_of% @List.getElem?_map.{u,v}:=@List.getElem?_map
theorem J0.{u}:type_of% @List.take_append_drop.{u}:=@List.take_append_drop
theorem J1.{u}:type_of% @List.all_eq_true.{u}:=@List.all_eq_true
theorem J2.{u}:type_of% @List.Perm.refl.{u}:=@List.Perm.refl
theorem J3.{u}:type_of% @List.filter_eq_nil_iff.{u}:=@List.filter_eq_nil_iff
theorem J4.{u}:type_of% @List.getElem?_take.{u}:=@List.getElem?_take
theorem J5.{u}:type_of% @List.getElem?_drop.{u}:=@List.getElem?_drop
theorem J6.{u}:type_of% @List.findIdx?_eq_some_iff_getElem.{u}:=@List.findIdx?_eq_some_iff_getElem
theorem J7:type_of% @Nat.succ_mul:=@Nat.succ_mul
theorem J8:type_of% @Nat.add_mul:=@Nat.add_mul
theorem J9.{u}:type_of% @List.filter_nil.{u}:=@List.filter_nil
theorem K7.{u}:type_of% @List.length_take_le.{u}:=@List.length_take_le
theorem K8:type_of% @Bool.false_and:=@Bool.false_and
theorem K9.{u}:type_of% @List.drop_length.{u}:=@List.drop_length
theorem L7:type_of% @Nat.le_add_right:=@Nat.le_add_right
theorem L8.{u}:type_of% @List.length_eq_zero_iff.{u}:=@List.length_eq_zero_iff
theorem L9.{u}:type_of% @List.filter_congr.{u}:=@List.filter_congr
theorem M0.{u}:type_of% @List.mem_append_left.{u}:=@List.mem_append_left
theorem M9:type_of% @Nat.zero_add:=@Nat.zero_add
theorem N0.{u}:type_of% @List.drop_of_length_le.{u}:=@List.drop_of_length_le
theorem N3.{u}:type_of% @List.find?_some.{u}:=@List.find?_some
theorem N4.{u}:type_of% @Array.getElem?_push.{u}:=@Array.getElem?_push
theorem N5:type_of% @Nat.one_mul:=@Nat.one_mul
theorem N6.{u}:type_of% @Array.length_toList.{u}:=@Array.length_toList
theorem N7:type_of% @Bool.not_true:=@Bool.not_true
theorem N8.{u,v}:type_of% @Option.bind_some.{u,v}:=@Option.bind_some
theorem N9.{u}:type_of% @List.length_filter_eq_length_iff.{u}:=@List.length_filter_eq_length_iff
theorem O0.{u}:type_of% @List.exists_cons_of_ne_nil.{u}:=@List.exists_cons_of_ne_nil
theorem O1:type_of% @Int.toNat_natCast:=@Int.toNat_natCast
theorem O2:type_of% @Bool.not_eq_true':=@Bool.not_eq_true'
theorem O3.{u}:type_of% @List.findIdx?_eq_none_iff.{u}:=@List.findIdx?_eq_none_iff
theorem O4:type_of% @Classical.byContradiction:=@Classical.byContradiction
theorem O6.{u}:type_of% @Array.getElem?_modify.{u}:=@Array.getElem?_modify
theorem O7:type_of% @Nat.add_zero:=@Nat.add_zero
theorem O8:type_of% @Nat.le_of_ble_eq_true:=@Nat.le_of_ble_eq_true
theorem O9.{u}:type_of% @List.length_mergeSort.{u}:=@List.length_mergeSort
theorem P0.{u,v}:type_of% @List.filterMap_cons_some.{u,v}:=@List.filterMap_cons_some
theorem P1.{u}:type_of% @List.drop_append_of_le_length.{u}:=@List.drop_append_of_le_length
theorem P2.{u}:type_of% @List.take_append_of_le_length.{u}:=@List.take_append_of_le_length
theorem P3.{u}:type_of% @List.getElem?_cons_zero.{u}:=@List.getElem?_cons_zero
theorem P4.{u}:type_of% @List.getElem?_cons_succ.{u}:=@List.getElem?_cons_succ
theorem P5.{u}:type_of% @List.find?_append.{u}:=@List.find?_append
theorem P6.{u,v}:type_of% @List.pairwise_map.{u,v}:=@List.pairwise_map
theorem P7.{u}:type_of% @Array.toList_setIfInBounds.{u}:=@Array.toList_setIfInBounds
theorem P8.{u}:type_of% @List.perm_ext_iff_of_nodup.{u}:=@List.perm_ext_iff_of_nodup
theorem P9.{u}:type_of% @List.perm_middle.{u}:=@List.perm_middle
theorem Q0.{u}:type_of% @beq_iff_eq.{u}:=@beq_iff_eq
theorem Q3.{u}:type_of% @Classical.choose_spec.{u}:=@Classical.choose_spec
theorem Q4:type_of% @Nat.sub_self:=@Nat.sub_self
theorem Q5.{u}:type_of% @List.Perm.append_left.{u}:=@List.Perm.append_left
theorem Q6.{u,v}:type_of% @List.foldl_nil.{u,v}:=@List.foldl_nil
theorem Q7.{u}:type_of% @Array.toArray_toList.{u}:=@Array.toArray_toList
theorem Q8:type_of% @Nat.mul_le_mul_right:=@Nat.mul_le_mul_right
theorem Q9.{u,v,w}:type_of% @Function.comp_def.{u,v,w}:=@Function.comp_def
theorem R0.{u}:type_of% @List.append_cancel_left.{u}:=@List.append_cancel_left
theorem R1.{u}:type_of% @List.mergeSort_perm.{u}:=@List.mergeSort_perm
theorem R2.{u}:type_of% @List.not_mem_nil.{u}:=@List.not_mem_nil
theorem R3.{u}:type_of% @List.length_drop.{u}:=@List.length_drop
theorem R4:type_of% @List.mem_range:=@List.mem_range
theorem R5.{u}:type_of% @Array.getElem?_eq_none.{u}:=@Array.getElem?_eq_none
theorem R6.{u}:type_of% @List.find?_cons_of_pos.{u}:=@List.find?_cons_of_pos
theorem R7.{u}:type_of% @List.filter_filter.{u}:=@List.filter_filter
theorem R8.{u}:type_of% @Option.some.inj.{u}:=@Option.some.inj
theorem R9:type_of% @Nat.zero_mul:=@Nat.zero_mul
theorem S0.{u,v}:type_of% @Option.map_some.{u,v}:=@Option.map_some
theorem S6.{u,v}:type_of% @List.filter_map.{u,v}:=@List.filter_map
theorem S7:type_of% @Int.le_refl:=@Int.le_refl
theorem S8:type_of% @Nat.le_succ:=@Nat.le_succ
theorem S9:type_of% @Bool.false_or:=@Bool.false_or
theorem T4.{u}:type_of% @List.drop_zero.{u}:=@List.drop_zero
theorem T5.{u}:type_of% @List.take_zero.{u}:=@List.take_zero
theorem T6:type_of% @UInt8.toNat_lt:=@UInt8.toNat_lt
theorem T7:type_of% @Bool.not_false:=@Bool.not_false
theorem T8.{u,v}:type_of% @List.mem_flatMap.{u,v}:=@List.mem_flatMap
theorem U0:type_of% @Nat.lt_or_ge:=@Nat.lt_or_ge
theorem U1:type_of% @Nat.le_of_eq:=@Nat.le_of_eq
theorem U2.{u}:type_of% @List.map_id.{u}:=@List.map_id
end Go.H
namespace Go.H
abbrev Heap:=Array Obj
def W8(h:Heap)(a:Addr):Option Value:=
 match h[a.block]? with
 |some (.cells c _ _)=>if a.spot.isSome then none else c[a.off]?
 |_=>none
def A2s(h:Heap)(a:Addr):Bool:=
 match h[a.block]? with
 |some (.cells _ _ (lo,hi))=>lo≤a.off&&a.off<hi
 |_=>false
def A2C(h:Heap)(a:Addr)(v:Value):Heap:=
 h.modify a.block fun
  |.cells c elem frozen=>.cells (if a.spot.isSome then c else c.setIfInBounds a.off v) elem frozen
  |o=>o
theorem B92(w:World)(a:Addr):w.cell? a=W8 w.heap a:=rfl
theorem C4S(w:World)(a:Addr):w.frozen? a=A2s w.heap a:=rfl
theorem B85(w:World)(a:Addr)(v:Value):(w.setCell a v).heap=A2C w.heap a v:=rfl
structure A0i(w w':World):Prop where
 os:w'.os=w.os
 tape:w'.tape=w.tape
 output:w'.output=w.output
theorem A0i.refl(w:World):A0i w w:=⟨rfl,rfl,rfl⟩
theorem A0i.trans{a b c:World}(h:A0i a b)(k:A0i b c):A0i a c:=⟨k.os.trans h.os,k.tape.trans h.tape,k.output.trans h.output⟩
def V9(P:Program)(f:FuncId)(args:D0q)(h:Heap)(Q:Value→Heap→Prop):Prop:=
 ∀w,w.heap=h→Calls P f args w fun e w'=>∃v,e=.returned v∧A0i w w'∧Q v w'.heap
theorem V9.mono{P:Program}{f:FuncId}{args:D0q}{h:Heap}{Q Q':Value→Heap→Prop}
  (hc:V9 P f args h Q)(hq:∀v h',Q v h'→Q' v h'):V9 P f args h Q':=
 fun w hw=>(hc w hw).mono fun _ _ ⟨v,he,hs,q⟩=>⟨v,he,hs,hq _ _ q⟩
structure Slc where
 a:D0p
 len:Nat
 cap:Nat
 deriving Inhabited
inductive Tag where
 |int (k:IntKind)|bool|str|ptr|slc|map|any
abbrev Tag.ty:Tag→Type
 |.int _=>Int
 |.bool=>Bool
 |.str=>B4p
 |.ptr=>D0p
 |.slc=>Slc
 |.map=>Option Nat
 |.any=>Value
def Tag.val:(t:Tag)→t.ty→Value
 |.int k,n=>.int k n
 |.bool,b=>.bool b
 |.str,s=>.string s
 |.ptr,p=>.pointer p
 |.slc,s=>.slice s.a s.len s.cap
 |.map,r=>.map r
 |.any,v=>v
def B1d:IntKind→IntKind→Bool
 |.i8,.i8=>true
 |.i16,.i16=>true
 |.i32,.i32=>true
 |.i64,.i64=>true
 |.u8,.u8=>true
 |.u16,.u16=>true
 |.u32,.u32=>true
 |.u64,.u64=>true
 |_,_=>false
theorem A73{a b:IntKind}(h:B1d a b=true):a=b:=by
 cases a<;>cases b<;>first|rfl|cases h
def Tag.get:(t:Tag)→Value→Option t.ty
 |.int k,.int k' n=>if B1d k k'=true then some n else none
 |.bool,.bool b=>some b
 |.str,.string s=>some s
 |.ptr,.pointer p=>some p
 |.slc,.slice a n c=>some ⟨a,n,c⟩
 |.map,.map r=>some r
 |.any,v=>some v
 |_,_=>none
theorem Tag.bU{t:Tag}{v:Value}{x:t.ty}(h:t.get v=some x):v=t.val x:=by
 cases t<;>cases v<;>simp[Tag.get] at h<;>(try(obtain⟨h1,h2⟩:=h;have:=A73 h1;subst this))<;>simp_all [Tag.val]
 subst h;exact⟨rfl,rfl,rfl⟩
def Tag.of:Value→Option Tag
 |.int k _=>some (.int k)
 |.bool _=>some .bool
 |.string _=>some .str
 |.pointer _=>some .ptr
 |.slice .. =>some .slc
 |.map _=>some .map
 |.agg _=>none
 |.tuple _=>none
 |_=>some .any
abbrev HT{α:Type}(ty:α→Type):List α→Type
 |[]=>Unit
 |t::ts=>ty t×HT ty ts
def HT.cC{α:Type}{ty:α→Type}(val:(t:α)→ty t→Value):(ts:List α)→HT ty ts→D0r
 |[],_=>[]
 |t::ts,x=>val t x.1::HT.cC val ts x.2
def HT.get{α:Type}{ty:α→Type}(get:(t:α)→Value→Option (ty t)):(ts:List α)→D0r→Option (HT ty ts)
 |[],[]=>some ()
 |[],_::_=>none
 |_::_,[]=>none
 |t::ts,v::vs=>match get t v with
  |some x=>match HT.get get ts vs with
   |some y=>some (x,y)
   |none=>none
  |none=>none
theorem HT.bH{α:Type}{ty:α→Type}{val:(t:α)→ty t→Value}{get:(t:α)→Value→Option (ty t)}(hg:∀t v x,get t v=some x→v=val t x)
  (ts:List α):∀(vs:D0r) (x:HT ty ts),HT.get get ts vs=some x→vs=HT.cC val ts x:=by
 induction ts with
 |nil=>intro vs x h;cases vs with
  |nil=>rfl
  |cons v vs=>cases h
 |cons t ts ih=>intro vs x h;cases vs with
  |nil=>cases h
  |cons v vs=>
   simp only[HT.get] at h
   cases h1:get t v with
   |none=>rw[h1] at h;cases h
   |some y=>
    rw[h1] at h
    simp only at h
    cases h2:HT.get get ts vs with
    |none=>rw[h2] at h;cases h
    |some z=>
     rw[h2] at h
     cases h
     show v::vs=val t y::HT.cC val ts z
     rw[←ih vs z h2,←hg t v y h1]
abbrev Tup(ts:List Tag):Type:=HT Tag.ty ts
abbrev Tup.cC(ts:List Tag)(x:Tup ts):D0r:=HT.cC Tag.val ts x
abbrev Tup.get(ts:List Tag)(vs:D0r):Option (Tup ts):=HT.get Tag.get ts vs
theorem Tup.bH(ts:List Tag)(vs:D0r)(x:Tup ts)(h:Tup.get ts vs=some x):vs=Tup.cC ts x:=
 HT.bH (val:=Tag.val) (get:=Tag.get) (fun t _ _ h=>Tag.bU (t:=t) h) ts vs x h
inductive Kind where
 |one (t:Tag)
 |agg (ts:List Tag)
abbrev Kind.ty:Kind→Type
 |.one t=>t.ty
 |.agg ts=>Tup ts
def Kind.val:(k:Kind)→k.ty→Value
 |.one t,x=>t.val x
 |.agg ts,x=>.agg (Tup.cC ts x).toArray
def Kind.get:(k:Kind)→Value→Option k.ty
 |.one t,v=>t.get v
 |.agg ts,.agg cs=>Tup.get ts cs.toList
 |.agg _,_=>none
theorem Kind.bU{k:Kind}{v:Value}{x:k.ty}(h:k.get v=some x):v=k.val x:=by
 cases k with
 |one t=>exact Tag.bU h
 |agg ts=>
  cases v<;>simp only[Kind.get] at h<;>try cases h
  rename_i cs
  simp only[Kind.val]
  rw[←Tup.bH ts _ x h]
def C5s:D0r→Option (List Tag)
 |[]=>some []
 |v::vs=>match Tag.of v with
  |some t=>match C5s vs with
   |some ts=>some (t::ts)
   |none=>none
  |none=>none
def Kind.of:Value→Option Kind
 |.agg cs=>match C5s cs.toList with
  |some ts=>some (.agg ts)
  |none=>none
 |v=>match Tag.of v with
  |some t=>some (.one t)
  |none=>none
def kindOf(P:Program)(t:TypeId):Option Kind:=
 match P.info? t with
 |some i=>match i.zero with
  |some z=>Kind.of z
  |none=>none
 |none=>none
abbrev s6(ks:List Kind):Type:=HT Kind.ty ks
abbrev s6.cC(ks:List Kind)(x:s6 ks):D0r:=HT.cC Kind.val ks x
abbrev s6.get(ks:List Kind)(vs:D0r):Option (s6 ks):=HT.get Kind.get ks vs
theorem s6.bH(ks:List Kind)(vs:D0r)(x:s6 ks)(h:s6.get ks vs=some x):vs=s6.cC ks x:=
 HT.bH (val:=Kind.val) (get:=Kind.get) (fun k _ _ h=>Kind.bU (k:=k) h) ks vs x h
abbrev HM(α:Type):Type:=Heap→(α→Heap→Prop)→Prop
def X8{α:Type}(a:α):HM α:=fun h Q=>Q a h
def HM.bind{α β:Type}(m:HM α)(f:α→HM β):HM β:=fun h Q=>m h fun a h'=>f a h' Q
def V2{α:Type}:HM α:=fun _ _=>False
def A1G{α:Type}(b:Bool)(x y:HM α):HM α:=fun h Q=>if b=true then x h Q else y h Q
def A3z{α:Type}(p:Prop)(m:HM α):HM α:=fun h Q=>p∧m h Q
def A0R{α:Type}(x y:HM α):HM α:=fun h Q=>x h Q∧y h Q
def HM.loop{σ τ:Type}(body:σ→HM (σ⊕τ))(s:σ):HM τ:=fun h Q=>
 ∃(I:σ→Heap→Prop) (μ:σ→Heap→Nat),I s h∧∀s h,I s h→
  body s h fun r h'=>match r with
   |.inl s'=>I s' h'∧μ s' h'<μ s h
   |.inr t=>Q t h'
def r7(t:Tag)(a:Addr):HM t.ty:=fun h Q=>∃x,W8 h a=some (t.val x)∧Q x h
def o9(ts:List Tag)(a:Addr):HM (Tup ts):=fun h Q=>
 ∃x,(∀i v,(Tup.cC ts x)[i]? =some v→W8 h (a.add i)=some v)∧Q x h
def A7v(a:Addr)(v:Value):HM Unit:=fun h Q=>
 (W8 h a).isSome=true∧A2s h a=false∧v.oneCell'=true∧Q () (A2C h a v)
def A2o(h:Heap)(a:Addr):D0r→Nat→Heap
 |[],_=>h
 |v::vs,i=>A2o (A2C h (a.add i) v) a vs (i+1)
def B0I(a:Addr)(vs:D0r):HM Unit:=fun h Q=>
 (∀i v,vs[i]? =some v→(W8 h (a.add i)).isSome=true∧A2s h (a.add i)=false∧v.oneCell'=true)∧Q () (A2o h a vs 0)
def HM.new(o:Obj):HM Nat:=fun h Q=>Q h.size (h.push o)
def A8H(p:D0p):HM Addr:=fun h Q=>∃a,p=some a∧Q a h
def A4F(a:D0p)(len:Nat)(i:Int)(size:Nat):HM Addr:=fun h Q=>
 ∃x,a=some x∧0≤i∧i<(len:Int)∧Q (x.add (i.toNat*size)) h
def A5I(s:B4p)(i:Int):HM Int:=fun h Q=>
 ∃b,0≤i∧s[i.toNat]? =some b∧Q (b.toNat:Int) h
def A1H(P:Program)(f:FuncId):Prop:=∀args w,(callFunc f args).run P w=.ok (.enter f args) w
def A1C(P:Program)(k:Kind)(f:FuncId)(args:D0q):HM k.ty:=fun h Q=>
 V9 P f args h fun v h'=>∃x,v=k.val x∧Q x h'
def u9(P:Program)(ks:List Kind)(f:FuncId)(args:D0q):HM (s6 ks):=fun h Q=>
 V9 P f args h fun v h'=>∃x,v=.tuple (s6.cC ks x).toArray∧Q x h'
def B8T(P:Program)(k:Kind)(v:Value)(args:D0q):HM k.ty:=fun h Q=>
 ∃f first captured,v=.func (.func f) first captured∧A1H P f∧V9 P f (first++args++captured) h fun v h'=>∃x,v=k.val x∧Q x h'
def C32(P:Program)(ks:List Kind)(v:Value)(args:D0q):HM (s6 ks):=fun h Q=>
 ∃f first captured,v=.func (.func f) first captured∧A1H P f∧V9 P f (first++args++captured) h fun v h'=>∃x,v=.tuple (s6.cC ks x).toArray∧Q x h'
def o0(s:Slc)(lo hi mx:Nat)(size:Nat):Slc:=
 ⟨if mx=lo then s.a else s.a.map (·.add (lo*size)),hi-lo,mx-lo⟩
def A4i(x:Option Int)(none:Prop)(m bound:Nat):Prop:=
 match x with
 |some x=>x=(m:Int)∧m≤bound
 |.none=>none
def HM.slice(s:Slc)(lo hi mx:Option Int)(size:Nat):HM Slc:=fun h Q=>
 ∃l hh m:Nat,A4i mx (m=s.cap) m s.cap∧A4i hi (mx=none∧hh=s.len) hh m∧A4i lo (l=0) l hh∧Q (o0 s l hh m size) h
def A47(s:B4p)(lo hi:Option Int):HM B4p:=fun h Q=>
 ∃l hh:Nat,A4i hi (hh=s.size) hh s.size∧A4i lo (l=0) l hh∧Q (s.extract l hh) h
def A5n(h:Heap)(a:D0p)(n:Nat)(vs:D0q):Prop:=
 match a with
 |some x=>vs.size=n∧∀(i:Nat) v,vs[i]? =some v→W8 h (x.add i)=some v
 |none=>vs=#[]
def B8S(zero:D0q)(s:Slc):HM Unit:=fun h Q=>
 match s.a with
 |none=>Q () h
 |some a=>if s.len=0 then Q () h else
  (∀(i:Nat) v,(Builtin.zeroCells zero s.len).toList[i]? =some v→(W8 h (a.add i)).isSome=true∧A2s h (a.add i)=false∧v.oneCell'=true)∧
   Q () (A2o h a (Builtin.zeroCells zero s.len).toList 0)
def C8a(r:Option Nat):HM Unit:=fun h Q=>
 match r with
 |none=>Q () h
 |some b=>∃(es:Array MapEntry) (clock:Nat),h[b]? =some (.map es clock)∧Q () (h.setIfInBounds b (.map #[] clock))
def HM.append(elem:TypeId)(size bytes:Nat)(zero:D0q)(s:Slc)(n:Nat)(src:Heap→D0q→Prop):HM Slc:=fun h Q=>
 (s.len+n≤s.cap→∃vs,src h vs∧
  match s.a with
  |some a=>(∀i v,vs[i]? =some v→(W8 h ((a.add (s.len*size)).add i)).isSome=true∧A2s h ((a.add (s.len*size)).add i)=false∧v.oneCell'=true)∧
    Q ⟨s.a,s.len+n,s.cap⟩ (A2o h (a.add (s.len*size)) vs.toList 0)
  |none=>Q ⟨none,s.len+n,s.cap⟩ h)∧
 (s.cap<s.len+n→(s.len+n:Nat)≤9223372036854775807∧Builtin.nextslicecap (s.len+n) s.cap*bytes≤2 ^ 48∧∃old vs,A5n h s.a (s.len*size) old∧src h vs∧
  ∀c,s.len+n≤c→c≤9223372036854775807→Q ⟨some ⟨h.size,0,none⟩,s.len+n,c⟩ (h.push (.cells (old++vs++Builtin.zeroCells zero (c-(s.len+n))) elem)))
def W4(size:Nat)(x:Slc)(h:Heap)(vs:D0q):Prop:=A5n h x.a (x.len*size) vs
def C5x(s:B4p)(_:Heap)(vs:D0q):Prop:=vs=s.data.map fun b=>.int .u8 b.toNat
def HM.makeSlice(elem:TypeId)(bytes:Nat)(zero:D0q)(n c:Int):HM Slc:=fun h Q=>
 0≤n∧n≤c∧c≤9223372036854775807∧(bytes:Int)*c≤2 ^ 48∧
  Q ⟨some ⟨h.size,0,none⟩,n.toNat,c.toNat⟩ (h.push (.cells (Builtin.zeroCells zero c.toNat) elem))
def C7V(d:Slc)(n:Nat)(src:Nat→Heap→D0q→Prop):HM Int:=fun h Q=>
 ∃vs,src (Nat.min n d.len) h vs∧
  match d.a with
  |some a=>(∀i v,vs[i]? =some v→(W8 h (a.add i)).isSome=true∧A2s h (a.add i)=false∧v.oneCell'=true)∧Q ((Nat.min n d.len:Nat):Int) (A2o h a vs.toList 0)
  |none=>Q ((Nat.min n d.len:Nat):Int) h
def A9p(h:Heap)(r:Option Nat)(es:List MapEntry)(clock:Nat):Prop:=
 match r with
 |none=>es=[]∧clock=0
 |some r=>h[r]? =some (.map es.toArray clock)
abbrev A2G:=Value→Value→Option Bool
def A1f(sm:A2G)(k:Value):List MapEntry→Nat→Option (Option (Nat×Value))
 |[],_=>some none
 |e::es,i=>match sm k e.key with
  |some true=>some (some (i,e.val))
  |some false=>A1f sm k es (i+1)
  |none=>none
def placeOf(sm:A2G)(k:Value)(es:List MapEntry):Option (Option (Nat×Value)):=A1f sm k es 0
theorem B4g(kd:TypeDesc)(k:Value):∀(es:List MapEntry) (i:Nat),A1f (Instr.sameNow kd) k es i=Instr.findNow kd k es i
 |[],_=>rfl
 |e::es,i=>by
  simp only[A1f,Instr.findNow]
  rw[B4g kd k es (i+1)]
  cases Instr.sameNow kd k e.key with
  |none=>rfl
  |some b=>cases b<;>rfl
def HM.lookup(kd:A2G)(zero:Value)(k:Kind)(r:Option Nat)(key:Value):HM (k.ty×Bool):=fun h Q=>
 ∃es clock o x,A9p h r es clock∧placeOf kd key es=some o∧
  (match o with|some (_,v)=>v=k.val x|none=>zero=k.val x)∧Q (x,o.isSome) h
def A3J(kd:A2G)(r:Option Nat)(key val:Value):HM Unit:=fun h Q=>
 ∃b es clock o,r=some b∧h[b]? =some (.map es clock)∧placeOf kd key es.toList=some o∧
  match o with
  |some (i,_)=>((es[i]?).map (·.key)).getD key=key∧Instr.sameBits 10000 key key=true∧Q () (h.setIfInBounds b (.map (es.modify i fun e=>{e with key:=key,val:=val}) clock))
  |none=>Q () (h.setIfInBounds b (.map (es.push {key:=key,val:=val,born:=clock}) (clock+1)))
def HM.mapEntry(kd:A2G)(zero:Value)(k:Kind)(r:Option Nat)(key:Value):HM (k.ty×Int):=fun h Q=>
 ∃b es clock o,r=some b∧h[b]? =some (.map es clock)∧placeOf kd key es.toList=some o∧
  match o with
  |some (i,v)=>((es[i]?).map (·.key)).getD key=key∧Instr.sameBits 10000 key key=true∧
    ∃x,v=k.val x∧Q (x,(((es[i]?).map (·.born)).getD 0:Nat)) (h.setIfInBounds b (.map (es.modify i fun e=>{e with key:=key}) clock))
  |none=>∃x,zero=k.val x∧Q (x,(clock:Int)) (h.setIfInBounds b (.map (es.push {key:=key,val:=zero,born:=clock}) (clock+1)))
def HM.entryStore(r:Option Nat)(stamp:Int)(val:Value):HM Unit:=fun h Q=>
 ∃b es clock i,r=some b∧h[b]? =some (.map es clock)∧es.findIdx? (fun e=>(e.born:Int)==stamp)=some i∧
  Q () (h.setIfInBounds b (.map (es.modify i fun e=>{e with val:=val}) clock))
def A6q(kd:A2G)(r:Option Nat)(key:Value):HM Unit:=fun h Q=>
 match r with
 |none=>Q () h
 |some b=>∃es clock o,h[b]? =some (.map es clock)∧placeOf kd key es.toList=some o∧
  match o with
  |some (i,_)=>Q () (h.setIfInBounds b (.map (es.eraseIdxIfInBounds i) clock))
  |none=>Q () (h.setIfInBounds b (.map es clock))
def B0H(r:Option Nat):HM Nat:=fun h Q=>
 match r with
 |none=>Q h.size (h.push (.mapIter none 0 #[] 0))
 |some m=>∃es clock,h[m]? =some (.map es clock)∧Q h.size (h.push (.mapIter (some m) clock #[] clock))
def A8G(b:Nat):HM (Option (Value×Value)):=fun h Q=>
 ∃m since seen last,h[b]? =some (.mapIter m since seen last)∧
  match m with
  |none=>Q none h
  |some m=>∃es clock,h[m]? =some (.map es clock)∧(!seen.isEmpty && !es.isEmpty &&es.all (fun e=>e.born≥last))=false∧
    ((∀e∈es,seen.contains e.born=false→since≤e.born)→Q none h)∧
    ∀e∈es,seen.contains e.born=false→Q (some (e.key,e.val)) (h.setIfInBounds b (.mapIter (some m) since (seen.push e.born) clock))
def A4O(kk kv:Kind)(b:Nat):HM (kk.ty×kv.ty):=fun h Q=>
 ∃m since seen stepped es stamp e k v,h[b]? =some (.mapIter (some m) since seen stepped)∧seen.back?=some stamp∧h[m]? =some (.map es stepped)∧
  es.find? (fun e=>e.born==stamp)=some e∧e.key=kk.val k∧e.val=kv.val v∧Q (k,v) h
def C79(b:Nat):HM (Option (Int×Int)):=fun h Q=>
 ∃s pos,h[b]? =some (.stringIter s pos)∧
  (pos<s.size→Q (some ((pos:Int),((Utf8.decode s pos).1:Int))) (h.setIfInBounds b (.stringIter s (pos+(Utf8.decode s pos).2))))∧
  (¬pos<s.size→Q none h)
def A2Q{α β:Type}(o:Option α)(a:HM β)(f:α→HM β):HM β:=fun h Q=>
 match o with
 |none=>a h Q
 |some x=>f x h Q
def C1s(ns:List Int):B4p:=ns.foldl (fun r n=>r.push (UInt8.ofNat n.toNat)) ByteArray.empty
def C1L(s:Slc):HM B4p:=fun h Q=>∃ns:List Int,A5n h s.a s.len (ns.map (Value.int .u8)).toArray∧Q (C1s ns) h
def A7u(r:Option Nat):HM Int:=fun h Q=>∃es clock,A9p h r es clock∧Q (es.length:Int) h
section
abbrev Env:=List (Nat×Value)
def Env.get:Env→Nat→Option Value
 |[],_=>none
 |(t,v)::e,n=>match Nat.beq t n with
  |true=>some v
  |false=>Env.get e n
def A5N:Nat→List Nat→Bool
 |_,[]=>false
 |n,t::ts=>match Nat.beq t n with
  |true=>true
  |false=>A5N n ts
def Env.forget(ts:List Nat):Env→Env
 |[]=>[]
 |(t,v)::e=>match A5N t ts with
  |true=>Env.forget ts e
  |false=>(t,v)::Env.forget ts e
def Env.put(e:Env)(dst:Option Tmp)(v:Value):Env:=
 match dst with
 |some d=>(d,v)::e
 |none=>e
def Env.ev(e:Env):Operand→Option Value
 |.tmp t=>e.get t
 |.const v=>some v
 |.global g=>some (.pointer (some ⟨g,0,none⟩))
 |.func f=>some (.func (.func f) #[] #[])
def Env.eR(e:Env):List Operand→Option (D0r)
 |[]=>some []
 |x::xs=>match e.ev x with
  |some v=>match Env.eR e xs with
   |some vs=>some (v::vs)
   |none=>none
  |none=>none
def B67(op:BinOp)(k:IntKind)(x y:Int):Int:=
 let a:=BitVec.ofInt k.bits x
 let b:=BitVec.ofInt k.bits y
 match op with
 |.and=>k.wrap (a&&& b).toNat
 |.or=>k.wrap (a|||b).toNat
 |.xor=>k.wrap (a ^^^ b).toNat
 |_=>k.wrap (a&&& ~~~b).toNat
def B9C:Value→Bool
 |.nilIface=>true
 |_=>false
def isIface:Value→Bool
 |.nilIface=>true
 |.iface _ _=>true
 |_=>false
def B9D:Value→Bool
 |.nilFunc=>true
 |_=>false
def A70:Value→Bool
 |.nilFunc=>true
 |.func _ _ _=>true
 |_=>false
section
variable {ρ:Type}
def A7k(neg:Bool)(r:Bool):Bool:=
 match neg with
 |true=> !r
 |false=>r
def C2W(op:BinOp)(kx ky:IntKind)(a b:Int)(k:Value→HM ρ):HM ρ:=
 match op with
 |.shl=>A3z (0≤b) (k (.int kx (kx.wrap (a*2 ^ (min b.toNat kx.bits)))))
 |.shr=>A3z (0≤b) (k (.int kx (a.fdiv (2 ^ (min b.toNat kx.bits)))))
 |op=>match B1d kx ky with
  |false=>V2
  |true=>match op with
   |.add=>k (.int kx (kx.wrap (a+b)))
   |.sub=>k (.int kx (kx.wrap (a-b)))
   |.mul=>k (.int kx (kx.wrap (a*b)))
   |.quo=>A3z (b≠0) (k (.int kx (kx.wrap (a.tdiv b))))
   |.rem=>A3z (b≠0) (k (.int kx (a.tmod b)))
   |.and=>k (.int kx (B67 .and kx a b))
   |.or=>k (.int kx (B67 .or kx a b))
   |.xor=>k (.int kx (B67 .xor kx a b))
   |.andNot=>k (.int kx (B67 .andNot kx a b))
   |.lss=>k (.bool (decide (a<b)))
   |.leq=>k (.bool (decide (a≤b)))
   |.gtr=>k (.bool (decide (b<a)))
   |.geq=>k (.bool (decide (b≤a)))
   |_=>V2
def C2S(op:BinOp)(a b:B4p)(k:Value→HM ρ):HM ρ:=
 match op with
 |.add=>A3z (a.size+b.size≤9223372036854775807) (k (.string (a++b)))
 |.lss=>k (.bool (Op.bytesLess a.toList b.toList))
 |.leq=>k (.bool (Op.bytesLess a.toList b.toList||a.toList==b.toList))
 |.gtr=>k (.bool !(Op.bytesLess a.toList b.toList||a.toList==b.toList))
 |.geq=>k (.bool !(Op.bytesLess a.toList b.toList))
 |_=>V2
def B1b:TypeDesc→Bool
 |.struct _=>true
 |.array _ _=>true
 |_=>false
def A4z(P:Program)(t:TypeId)(cs:D0r)(off:Nat):Option Value:=
 match P.underlying t with
 |some d=>match B1b d with
  |true=>some (.agg ((cs.drop off).take (P.cellsOf t)).toArray)
  |false=>cs[off]?
 |none=>none
def B4Z(P:Program)(rec:TypeId→Value→Value→Option Bool)(xs ys:D0r):List Field→Option Bool
 |[]=>some true
 |f::fs=>match decide (f.name= "_") with
  |true=>none
  |false=>match A4z P f.type xs f.offset with
   |none=>none
   |some a=>match A4z P f.type ys f.offset with
    |none=>none
    |some b=>match rec f.type a b with
     |none=>none
     |some r=>match B4Z P rec xs ys fs with
      |none=>none
      |some r'=>some (r&&r')
def B6w(P:Program):Nat→TypeId→Value→Value→Option Bool
 |0,_,_,_=>none
 |d+1,t,x,y=>match P.underlying t with
  |some (.int _)=>match x,y with
   |.int k a,.int k' b=>match B1d k k' with
    |true=>some (a==b)
    |false=>none
   |_,_=>none
  |some .bool=>match x,y with
   |.bool a,.bool b=>some (a==b)
   |_,_=>none
  |some .string=>match x,y with
   |.string a,.string b=>some (decide (a=b))
   |_,_=>none
  |some (.struct fs)=>match P.stoodInHeld t with
   |true=>none
   |false=>match x,y with
    |.agg xs,.agg ys=>B4Z P (B6w P d) xs.toList ys.toList fs.toList
    |_,_=>none
  |_=>none
def A6k(P:Program)(neg:Bool)(t:TypeId)(yo:Operand)(x y:Value)(k:Value→HM ρ):HM ρ:=
 match P.underlying t with
 |some (.pointer _)=>match yo with
  |.const (.pointer none)=>match x with
   |.pointer p=>k (.bool (A7k neg p.isNone))
   |_=>V2
  |_=>V2
 |some (.slice _)=>match yo with
  |.const (.slice none _ _)=>match x with
   |.slice p _ _=>k (.bool (A7k neg p.isNone))
   |_=>V2
  |_=>V2
 |some (.map _ _)=>match yo with
  |.const (.map none)=>match x with
   |.map p=>k (.bool (A7k neg p.isNone))
   |_=>V2
  |_=>V2
 |some (.interface _)=>match yo with
  |.const .nilIface=>A3z (isIface x=true) (k (.bool (A7k neg (B9C x))))
  |_=>V2
 |some (.func _ _ _)=>match yo with
  |.const .nilFunc=>A3z (A70 x=true) (k (.bool (A7k neg (B9D x))))
  |_=>V2
 |some (.int _)=>match x,y with
  |.int kx a,.int ky b=>match B1d kx ky with
   |true=>k (.bool (A7k neg (a==b)))
   |false=>V2
  |_,_=>V2
 |some .bool=>match x,y with
  |.bool a,.bool b=>k (.bool (A7k neg (a==b)))
  |_,_=>V2
 |some .string=>match x,y with
  |.string a,.string b=>k (.bool (A7k neg (decide (a=b))))
  |_,_=>V2
 |some (.struct _)=>match x with
  |.agg _=>match B6w P 8 t x y with
   |some r=>k (.bool (A7k neg r))
   |none=>V2
  |_=>V2
 |_=>V2
def C2Y(P:Program)(op:BinOp)(t:TypeId)(yo:Operand)(x y:Value)(k:Value→HM ρ):HM ρ:=
 match op with
 |.eql=>A6k P false t yo x y k
 |.neq=>A6k P true t yo x y k
 |op=>match x,y with
  |.int kx a,.int ky b=>C2W op kx ky a b k
  |.string a,.string b=>C2S op a b k
  |_,_=>V2
def C6D(op:UnOp)(x:Value)(k:Value→HM ρ):HM ρ:=
 match op,x with
 |.not,.bool b=>k (.bool !b)
 |.neg,.int kd n=>k (.int kd (kd.wrap (0-n)))
 |.xor,.int kd n=>k (.int kd (B67 .xor kd (if kd.signed then -1 else kd.max) n))
 |_,_=>V2
def B5e(P:Program)(t:TypeId)(x:Value)(k:Value→HM ρ):HM ρ:=
 match x with
 |.pointer (some a)=>match P.underlying t with
  |some d=>match B1b d with
   |true=>match kindOf P t with
    |some (.agg ts)=>match Nat.beq ts.length (P.cellsOf t) with
     |true=>(o9 ts a).bind fun vs=>k (.agg (Tup.cC ts vs).toArray)
     |false=>V2
    |_=>V2
   |false=>match kindOf P t with
    |some (.one tg)=>(r7 tg a).bind fun v=>k (tg.val v)
    |_=>V2
  |none=>V2
 |_=>V2
def A2I(kd:Kind)(v:Value):Option (D0r):=
 match kd with
 |.one _=>some [v]
 |.agg ts=>match v with
  |.agg cs=>match Nat.beq cs.toList.length ts.length with
   |true=>some cs.toList
   |false=>none
  |_=>none
def Tag.isAny:Tag→Bool
 |.any=>true
 |_=>false
def B9i(kd:Kind)(v:Value)(m:HM ρ):HM ρ:=
 match kd with
 |.one tg=>match tg.isAny with
  |true=>A3z (v.oneCell'=true) m
  |false=>match tg.get v with
   |some _=>m
   |none=>V2
 |.agg _=>m
def B6H(P:Program)(t:TypeId)(x v:Value)(k:Value→HM ρ):HM ρ:=
 match x with
 |.pointer (some a)=>match kindOf P t with
  |some kd=>match A2I kd v with
   |some cs=>match Nat.beq cs.length (P.cellsOf t) with
    |true=>match kd with
     |.one _=>(A7v a v).bind fun _=>k undef
     |.agg _=>(B0I a cs).bind fun _=>k undef
    |false=>V2
   |none=>V2
  |none=>V2
 |_=>V2
def C2X(P:Program)(t:TypeId)(v:Value)(k:Value→HM ρ):HM ρ:=
 match kindOf P t with
 |some kd=>match A2I kd v with
  |some cs=>B9i kd v ((HM.new (.cells cs.toArray t)).bind fun r=>k (.pointer (some ⟨r,0,none⟩)))
  |none=>V2
 |none=>V2
def B60(P:Program)(t:TypeId)(k:Value→HM ρ):HM ρ:=
 match P.info? t with
 |some i=>match i.zero with
  |some z=>(HM.new (.cells z.cells t)).bind fun r=>k (.pointer (some ⟨r,0,none⟩))
  |none=>V2
 |none=>V2
def A3k:D0r→Nat→D0r→D0r
 |cs,_,[]=>cs
 |[],_,_::_=>[]
 |_::cs,0,v::vs=>v::A3k cs 0 vs
 |c::cs,n+1,v::vs=>c::A3k cs n (v::vs)
def A6A(place:Nat→Option (Nat×Kind)):D0r→List (Nat×Value)→Option (D0r)
 |cs,[]=>some cs
 |cs,(i,v)::rest=>match place i with
  |some (off,kd)=>match A2I kd v with
   |some vs=>match Nat.ble (off+vs.length) cs.length with
    |true=>A6A place (A3k cs off vs) rest
    |false=>none
   |none=>none
  |none=>none
def A61(place:Nat→Option (Nat×Kind))(ps:List (Nat×Value))(m:HM ρ):HM ρ:=
 match ps with
 |[]=>m
 |(i,v)::rest=>match place i with
  |some (_,kd)=>B9i kd v (A61 place rest m)
  |none=>V2
def A6g(e:Env):List (Nat×Operand)→Option (List (Nat×Value))
 |[]=>some []
 |(i,x)::xs=>match e.ev x with
  |some v=>match A6g e xs with
   |some vs=>some ((i,v)::vs)
   |none=>none
  |none=>none
def A4p(P:Program)(fields:Array Field)(i:Nat):Option (Nat×Kind):=
 match fields.toList[i]? with
 |some f=>match kindOf P f.type with
  |some kd=>match kd with
   |.one tg=>match Nat.beq (P.cellsOf f.type) 1 with
    |true=>some (f.offset,.one tg)
    |false=>none
   |.agg ts=>match Nat.beq (P.cellsOf f.type) ts.length with
    |true=>some (f.offset,.agg ts)
    |false=>none
  |none=>none
 |none=>none
def A2k(P:Program)(elem:TypeId)(i:Nat):Option (Nat×Kind):=
 match kindOf P elem with
 |some kd=>match kd with
  |.one tg=>match Nat.beq (P.cellsOf elem) 1 with
   |true=>some (i,.one tg)
   |false=>none
  |.agg ts=>match Nat.beq (P.cellsOf elem) ts.length with
   |true=>some (i*ts.length,.agg ts)
   |false=>none
 |none=>none
def B2Q(P:Program):List Field→Bool
 |[]=>true
 |f::r=>match P.info? f.type with
  |some _=>B2Q P r
  |none=>false
def B6Y(P:Program)(t:TypeId)(ps:List (Nat×Value))(k:Value→HM ρ):HM ρ:=
 match P.underlying t with
 |some (.struct fields)=>match B2Q P fields.toList with
  |true=>match P.info? t with
   |some i=>match i.zero with
    |some z=>match A6A (A4p P fields) z.cells.toList ps with
     |some cs=>A61 (A4p P fields) ps (k (.agg cs.toArray))
     |none=>V2
    |none=>V2
   |none=>V2
  |false=>V2
 |some (.array _ elem)=>match P.info? t with
  |some i=>match i.zero with
   |some z=>match P.info? elem with
    |some _=>match A6A (A2k P elem) z.cells.toList ps with
     |some cs=>A61 (A2k P elem) ps (k (.agg cs.toArray))
     |none=>V2
    |none=>V2
   |none=>V2
  |none=>V2
 |_=>V2
def C18(z:D0r):Nat→D0r
 |0=>[]
 |n+1=>z++C18 z n
def A6C(P:Program)(t:TypeId)(len:Nat)(ps:List (Nat×Value))(k:Value→HM ρ):HM ρ:=
 match P.underlying t with
 |some (.slice elem)=>match P.info? elem with
  |some i=>match i.zero with
   |some z=>match Nat.beq z.cells.toList.length i.size with
    |true=>match Nat.ble (len*i.size) 16777216 with
     |true=>match Nat.ble 1 i.size with
      |true=>match A6A (A2k P elem) (C18 z.cells.toList len) ps with
       |some cs=>A61 (A2k P elem) ps ((HM.new (.cells cs.toArray elem)).bind fun r=>k (.slice (some ⟨r,0,none⟩) len len))
       |none=>V2
      |false=>V2
     |false=>V2
    |false=>V2
   |none=>V2
  |none=>V2
 |_=>V2
def A8g(P:Program)(s:TypeId)(x:Value)(f:Nat)(k:Value→HM ρ):HM ρ:=
 match x with
 |.pointer (some a)=>match P.underlying s with
  |some (.struct fields)=>match fields.toList[f]? with
   |some fd=>match Nat.ble 1 (P.cellsOf fd.type) with
    |true=>k (.pointer (some (a.add fd.offset)))
    |false=>V2
   |none=>V2
  |_=>V2
 |_=>V2
def B6Q(P:Program)(t:TypeId)(x:Value)(f:Nat)(k:Value→HM ρ):HM ρ:=
 match x with
 |.agg cs=>match P.underlying t with
  |some (.struct fields)=>match fields.toList[f]? with
   |some fd=>match A4z P fd.type cs.toList fd.offset with
    |some v=>k v
    |none=>V2
   |none=>V2
  |_=>V2
 |_=>V2
def A8f(P:Program)(t:TypeId)(x i:Value)(k:Value→HM ρ):HM ρ:=
 match i with
 |.int _ n=>match P.underlying t with
  |some (.slice elem)=>match x with
   |.slice a len _=>match P.info? elem with
    |some inf=>(A4F a len n inf.size).bind fun ad=>k (.pointer (some ad))
    |none=>V2
   |_=>V2
  |some (.array len elem)=>match x with
   |.pointer (some a)=>match P.info? elem with
    |some inf=>(A4F (some a) len n inf.size).bind fun ad=>k (.pointer (some ad))
    |none=>V2
   |_=>V2
  |_=>V2
 |_=>V2
def B6O(P:Program)(t:TypeId)(x i:Value)(k:Value→HM ρ):HM ρ:=
 match i with
 |.int _ n=>match P.underlying t with
  |some .string=>match x with
   |.string s=>(A5I s n).bind fun b=>k (.int .u8 b)
   |_=>V2
  |_=>V2
 |_=>V2
def A7O(e:Env):Option Operand→Option (Option Int)
 |none=>some none
 |some x=>match e.ev x with
  |some (.int _ n)=>some (some n)
  |_=>none
def B6J(P:Program)(t:TypeId)(x:Value)(lo hi mx:Option Int)(k:Value→HM ρ):HM ρ:=
 match P.underlying t with
 |some .string=>match x with
  |.string s=>match mx with
   |none=>(A47 s lo hi).bind fun r=>k (.string r)
   |some _=>V2
  |_=>V2
 |some (.slice elem)=>match x with
  |.slice a n c=>match P.info? elem with
   |some inf=>(HM.slice ⟨a,n,c⟩ lo hi mx inf.size).bind fun s=>k (.slice s.a s.len s.cap)
   |none=>V2
  |_=>V2
 |_=>V2
def plainKey:TypeDesc→Bool
 |.int _=>true
 |.string=>true
 |.bool=>true
 |_=>false
def A6d(P:Program)(kt:TypeId)(kd:TypeDesc):A2G:=
 match kd with
 |.struct _=>B6w P 8 kt
 |d=>Instr.sameNow d
def B3u(P:Program)(kt:TypeId)(kd:TypeDesc)(key:Value)(m:HM ρ):HM ρ:=
 match plainKey kd with
 |true=>m
 |false=>match kd with
  |.struct _=>A3z (B6w P 8 kt key key=some true) m
  |_=>V2
def B3J(P:Program)(t:TypeId)(x key:Value)(ok:Bool)(k:Value→HM ρ):HM ρ:=
 match P.underlying t with
 |some (.map kt et)=>match P.underlying kt with
  |some kd=>B3u P kt kd key (match x with
   |.map r=>match P.info? et with
    |some i=>match i.zero with
     |some z=>match Kind.of z with
      |some ek=>(HM.lookup (A6d P kt kd) z ek r key).bind fun p=>match ok with
       |true=>k (.tuple #[ek.val p.1,.bool p.2])
       |false=>k (ek.val p.1)
      |none=>V2
     |none=>V2
    |none=>V2
   |_=>V2)
  |none=>V2
 |_=>V2
def A9U(P:Program)(t:TypeId)(x key v:Value)(k:Value→HM ρ):HM ρ:=
 match P.underlying t with
 |some (.map kt _)=>match P.underlying kt with
  |some kd=>B3u P kt kd key (match x with
   |.map r=>(A3J (A6d P kt kd) r key v).bind fun _=>k undef
   |_=>V2)
  |none=>V2
 |_=>V2
def A9t(P:Program)(t:TypeId)(x key:Value)(k:Value→HM ρ):HM ρ:=
 match P.underlying t with
 |some (.map kt et)=>match P.underlying kt with
  |some kd=>B3u P kt kd key (match x with
   |.map r=>match P.info? et with
    |some i=>match i.zero with
     |some z=>match Kind.of z with
      |some ek=>(HM.mapEntry (A6d P kt kd) z ek r key).bind fun p=>k (.tuple #[ek.val p.1,.int .i64 p.2])
      |none=>V2
     |none=>V2
    |none=>V2
   |_=>V2)
  |none=>V2
 |_=>V2
def A6B(x stamp v:Value)(k:Value→HM ρ):HM ρ:=
 match x with
 |.map r=>match stamp with
  |.int _ n=>(HM.entryStore r n v).bind fun _=>k undef
  |_=>V2
 |_=>V2
def B3M(P:Program)(ts:List TypeId)(vs:D0r)(k:Value→HM ρ):HM ρ:=
 match ts,vs with
 |[t,u],[s,x]=>match P.underlying t with
  |some (.slice elem)=>match s with
   |.slice a n c=>match P.info? elem with
    |some i=>match i.zero with
     |some z=>match P.underlying u with
      |some (.slice _)=>match x with
       |.slice b m d=>(HM.append elem i.size i.bytes z.cells ⟨a,n,c⟩ m (W4 i.size ⟨b,m,d⟩)).bind fun s=>k (.slice s.a s.len s.cap)
       |_=>V2
      |some .string=>match x with
       |.string b=>(HM.append elem i.size i.bytes z.cells ⟨a,n,c⟩ b.size (C5x b)).bind fun s=>k (.slice s.a s.len s.cap)
       |_=>V2
      |_=>V2
     |none=>V2
    |none=>V2
   |_=>V2
  |_=>V2
 |_,_=>V2
def C2V(P:Program)(ts:List TypeId)(vs:D0r)(k:Value→HM ρ):HM ρ:=
 match ts,vs with
 |[t],[x]=>match P.underlying t with
  |some .string=>match x with
   |.string s=>k (.int .i64 (s.size:Int))
   |_=>V2
  |some (.slice _)=>match x with
   |.slice _ n _=>k (.int .i64 (n:Int))
   |_=>V2
  |some (.array n _)=>k (.int .i64 (n:Int))
  |some (.map _ _)=>match x with
   |.map r=>(A7u r).bind fun n=>k (.int .i64 n)
   |_=>V2
  |_=>V2
 |_,_=>V2
def A9T(max:Bool)(vs:D0r)(k:Value→HM ρ):HM ρ:=
 match vs with
 |[.int ka a,.int kb b]=>match B1d ka kb with
  |true=>match max with
   |true=>k (.int ka (if a<b then b else a))
   |false=>k (.int ka (if b<a then b else a))
  |false=>V2
 |[.int ka a,.int kb b,.int kc c]=>match B1d ka kb&&B1d ka kc with
  |true=>match max with
   |true=>k (.int ka (if(if a<b then b else a)<c then c else(if a<b then b else a)))
   |false=>k (.int ka (if c<(if b<a then b else a) then c else(if b<a then b else a)))
  |false=>V2
 |_=>V2
def B3K(P:Program)(ts:List TypeId)(vs:D0r)(k:Value→HM ρ):HM ρ:=
 match ts,vs with
 |t::_,[x,key]=>match P.underlying t with
  |some (.map kt _)=>match P.underlying kt with
   |some kd=>B3u P kt kd key (match x with
    |.map r=>(A6q (A6d P kt kd) r key).bind fun _=>k (.tuple #[])
    |_=>V2)
   |none=>V2
  |_=>V2
 |_,_=>V2
def B6U(P:Program)(ts:List TypeId)(vs:D0r)(k:Value→HM ρ):HM ρ:=
 match ts,vs with
 |[t],[x]=>match P.underlying t with
  |some (.slice elem)=>match x with
   |.slice a n c=>match P.info? elem with
    |some i=>match i.zero with
     |some z=>(B8S z.cells ⟨a,n,c⟩).bind fun _=>k (.tuple #[])
     |none=>V2
    |none=>V2
   |_=>V2
  |some (.map _ _)=>match x with
   |.map r=>(C8a r).bind fun _=>k (.tuple #[])
   |_=>V2
  |_=>V2
 |_,_=>V2
def B1m(P:Program)(b:Builtin)(ts:List TypeId)(vs:D0r)(k:Value→HM ρ):HM ρ:=
 match b with
 |.len=>C2V P ts vs k
 |.append=>B3M P ts vs k
 |.min=>A9T false vs k
 |.max=>A9T true vs k
 |.delete=>B3K P ts vs k
 |.clear=>B6U P ts vs k
 |_=>V2
inductive Ret where
 |one (k:Kind)
 |many (ks:List Kind)
def C3K(P:Program):List TypeId→Option (List Kind)
 |[]=>some []
 |t::ts=>match kindOf P t with
  |some k=>match C3K P ts with
   |some ks=>some (k::ks)
   |none=>none
  |none=>none
def C3x(P:Program)(t:TypeId):Option Ret:=
 match P.underlying t with
 |some (.tuple es)=>match C3K P es.toList with
  |some ks=>some (.many ks)
  |none=>none
 |some _=>match kindOf P t with
  |some k=>some (.one k)
  |none=>none
 |none=>none
def B9V(P:Program)(C:List Nat)(t:TypeId)(f:Value)(vs:D0r)(k:Value→HM ρ):HM ρ:=
 match f with
 |.func (.func f) first captured=>match A5N f C with
  |true=>match C3x P t with
   |some (.one kd)=>(A1C P kd f (first.toList++(vs++captured.toList)).toArray).bind fun r=>k (kd.val r)
   |some (.many ks)=>(u9 P ks f (first.toList++(vs++captured.toList)).toArray).bind fun r=>k (.tuple (s6.cC ks r).toArray)
   |none=>V2
  |false=>V2
 |_=>V2
def B6V(P:Program)(t:TypeId)(f:Value)(vs:D0r)(k:Value→HM ρ):HM ρ:=
 match C3x P t with
 |some (.one kd)=>(B8T P kd f vs.toArray).bind fun r=>k (kd.val r)
 |some (.many ks)=>(C32 P ks f vs.toArray).bind fun r=>k (.tuple (s6.cC ks r).toArray)
 |none=>V2
def A2N(P:Program)(src dst:TypeId)(x:Value)(k:Value→HM ρ):HM ρ:=
 match P.underlying src with
 |none=>V2
 |some _=>match P.underlying dst with
  |some (.int kd)=>match x with
   |.int _ n=>k (.int kd (kd.wrap n))
   |_=>V2
  |some .string=>match x with
   |.string s=>k (.string s)
   |.slice a n c=>match P.underlying src with
    |some (.slice e)=>match P.underlying e with
     |some (.int .u8)=>(C1L ⟨a,n,c⟩).bind fun s=>k (.string s)
     |_=>V2
    |_=>V2
   |_=>V2
  |_=>V2
def B6L(P:Program)(t:TypeId)(x:Value)(k:Value→HM ρ):HM ρ:=
 match P.underlying t with
 |some .string=>match x with
  |.string s=>(HM.new (.stringIter s 0)).bind fun b=>k (.pointer (some ⟨b,0,none⟩))
  |_=>V2
 |some (.map _ _)=>match x with
  |.map r=>(B0H r).bind fun b=>k (.pointer (some ⟨b,0,none⟩))
  |_=>V2
 |_=>V2
def B9S(str:Bool)(x:Value)(k:Value→HM ρ):HM ρ:=
 match x with
 |.pointer (some a)=>match Nat.beq a.off 0 with
  |false=>V2
  |true=>match str with
   |true=>(C79 a.block).bind fun o=>A2Q o (k (.tuple #[.bool false])) fun p=>k (.tuple #[.bool true,.int .i64 p.1,.int .i32 p.2])
   |false=>(A8G a.block).bind fun o=>A2Q o (k (.tuple #[.bool false])) fun p=>k (.tuple #[.bool true,p.1,p.2])
 |_=>V2
def B4v(x:Value)(k:Value→HM ρ):HM ρ:=
 match x with
 |.pointer p=>(A8H p).bind fun a=>k (.pointer (some a))
 |.func (.func f) first captured=>k (.func (.func f) first captured)
 |_=>V2
def A8e(P:Program)(t:TypeId)(n c:Value)(k:Value→HM ρ):HM ρ:=
 match P.underlying t with
 |some (.slice elem)=>match P.info? elem with
  |some i=>match i.zero with
   |some z=>match Nat.beq z.cells.toList.length i.size with
    |true=>match n,c with
     |.int _ a,.int _ b=>(HM.makeSlice elem i.bytes z.cells a b).bind fun s=>k (.slice s.a s.len s.cap)
     |_,_=>V2
    |false=>V2
   |none=>V2
  |none=>V2
 |_=>V2
abbrev Dec:=List (Nat×Bool)
def Dec.get:Dec→Nat→Option Bool
 |[],_=>none
 |(t,b)::d,n=>match Nat.beq t n with
  |true=>some b
  |false=>Dec.get d n
def B9R(e:Env)(d:Dec)(c a b:Operand)(k:Value→HM ρ):HM ρ:=
 match c with
 |.tmp t=>match d.get t with
  |some true=>match e.ev a with
   |some v=>k v
   |none=>V2
  |some false=>match e.ev b with
   |some v=>k v
   |none=>V2
  |none=>match e.ev c,e.ev a,e.ev b with
   |some (.bool x),some (.bool y),some (.bool z)=>k (.bool (if x=true then y else z))
   |_,_,_=>V2
 |_=>V2
def C1l(P:Program)(C:List Nat)(e:Env)(d:Dec)(o:Oper)(k:Value→HM ρ):HM ρ:=
 match o.op with
 |.move x=>match e.ev x with
  |some v=>k v
  |none=>V2
 |.assign x=>match e.ev x with
  |some v=>k v
  |none=>V2
 |.pick c a b=>B9R e d c a b k
 |.alloc t=>B60 P t k
 |.box t x=>match e.ev x with
  |some v=>C2X P t v k
  |none=>V2
 |.build t ps=>match A6g e ps.toList with
  |some vs=>B6Y P t vs k
  |none=>V2
 |.buildSlice t n ps=>match A6g e ps.toList with
  |some vs=>A6C P t n vs k
  |none=>V2
 |.load t x=>match e.ev x with
  |some v=>B5e P t v k
  |none=>V2
 |.store t x y=>match e.ev x with
  |some v=>match e.ev y with
   |some u=>B6H P t v u k
   |none=>V2
  |none=>V2
 |.nilCheck x=>match e.ev x with
  |some v=>B4v v k
  |none=>V2
 |.binOp op t x y _=>match e.ev x with
  |some v=>match e.ev y with
   |some u=>C2Y P op t y v u k
   |none=>V2
  |none=>V2
 |.unOp op _ x=>match e.ev x with
  |some v=>C6D op v k
  |none=>V2
 |.convert s t x=>match e.ev x with
  |some v=>A2N P s t v k
  |none=>V2
 |.makeInterface t x=>match e.ev x with
  |some v=>match P.underlying t with
   |some (.interface _)=>V2
   |some _=>k (.iface t v)
   |none=>V2
  |none=>V2
 |.makeFunc fn first captured=>match e.eR first.toList with
  |some vs=>match e.eR captured.toList with
   |some us=>k (.func fn vs.toArray us.toArray)
   |none=>V2
  |none=>V2
 |.makeMap _ none=>(HM.new (.map #[] 0)).bind fun r=>k (.map (some r))
 |.makeSlice t n c=>match e.ev n with
  |some v=>match e.ev c with
   |some u=>A8e P t v u k
   |none=>V2
  |none=>V2
 |.slice t x lo hi mx=>match e.ev x with
  |some v=>match A7O e lo with
   |some l=>match A7O e hi with
    |some hh=>match A7O e mx with
     |some m=>B6J P t v l hh m k
     |none=>V2
    |none=>V2
   |none=>V2
  |none=>V2
 |.fieldAddr t x f=>match e.ev x with
  |some v=>A8g P t v f k
  |none=>V2
 |.field t x f=>match e.ev x with
  |some v=>B6Q P t v f k
  |none=>V2
 |.indexAddr t x i=>match e.ev x with
  |some v=>match e.ev i with
   |some u=>A8f P t v u k
   |none=>V2
  |none=>V2
 |.index t x i=>match e.ev x with
  |some v=>match e.ev i with
   |some u=>B6O P t v u k
   |none=>V2
  |none=>V2
 |.lookup t x i ok=>match e.ev x with
  |some v=>match e.ev i with
   |some u=>B3J P t v u ok k
   |none=>V2
  |none=>V2
 |.mapUpdate t x i y=>match e.ev x with
  |some v=>match e.ev i with
   |some u=>match e.ev y with
    |some z=>A9U P t v u z k
    |none=>V2
   |none=>V2
  |none=>V2
 |.insert t x i y=>match e.ev x with
  |some v=>match e.ev i with
   |some u=>match e.ev y with
    |some z=>A9U P t v u z k
    |none=>V2
   |none=>V2
  |none=>V2
 |.mapEntry t x i=>match e.ev x with
  |some v=>match e.ev i with
   |some u=>A9t P t v u k
   |none=>V2
  |none=>V2
 |.entryStore _ x i y=>match e.ev x with
  |some v=>match e.ev i with
   |some u=>match e.ev y with
    |some z=>A6B v u z k
    |none=>V2
   |none=>V2
  |none=>V2
 |.range t x=>match e.ev x with
  |some v=>B6L P t v k
  |none=>V2
 |.next x str=>match e.ev x with
  |some v=>B9S str v k
  |none=>V2
 |.extract x i=>match e.ev x with
  |some (.tuple vs)=>match vs.toList[i]? with
   |some v=>k v
   |none=>V2
  |_=>V2
 |.call c=>match e.eR c.args.toList with
  |some vs=>match c.callee with
   |.builtin b=>B1m P b c.argTypes.toList vs k
   |.value (.func f)=>B9V P C o.type (.func (.func f) #[] #[]) vs k
   |.value x=>match e.ev x with
    |some v=>B6V P o.type v vs k
    |none=>V2
   |.invoke _ _=>V2
  |none=>V2
 |_=>V2
inductive Cls where
 |stat|read|cW
def z8(P:Program)(op:Op):Cls:=
 match op with
 |.move _=>.stat
 |.assign _=>.stat
 |.pick _ _ _=>.stat
 |.nilCheck _=>.stat
 |.binOp _ _ _ _ _=>.stat
 |.unOp _ _ _=>.stat
 |.convert _ t _=>match P.underlying t with
  |some (.int _)=>.stat
  |_=>.cW
 |.makeInterface _ _=>.stat
 |.makeFunc _ _ _=>.stat
 |.build _ _=>.stat
 |.fieldAddr _ _ _=>.stat
 |.field _ _ _=>.stat
 |.indexAddr _ _ _=>.stat
 |.index _ _ _=>.stat
 |.slice _ _ _ _ _=>.stat
 |.extract _ _=>.stat
 |.load _ _=>.read
 |.lookup _ _ _ _=>.read
 |.call c=>match c.callee with
  |.builtin .len=>.read
  |_=>.cW
 |_=>.cW
def A46(ops:Array Oper)(j:Nat):Option Nat:=
 match ops.toList[j]? with
 |some o=>o.dst
 |none=>none
abbrev A1J:=List (Nat×Value)
def again(P:Program)(C:List Nat)(ops:Array Oper)(b:Nat)(e:Env)(d:Dec):A1J→HM ρ→HM ρ
 |[],m=>m
 |(i,v)::r,m=>match b.testBit i with
  |true=>again P C ops b e d r m
  |false=>match ops.toList[i]? with
   |some o=>C1l P C e d o fun v'=>A3z (v'=v) (again P C ops b e d r m)
   |none=>V2
def C7z(dst:Option Nat)(s:Nat):Bool:=
 match dst with
 |some t=>Nat.beq t s
 |none=>false
def A89(P:Program)(dst:Option Nat)(i:Nat):List Oper→Kind
 |[]=>.one .any
 |o::r=>match o.op with
  |.extract (.tmp t) j=>match C7z dst t with
   |true=>match Nat.beq j i with
    |true=>match kindOf P o.type with
     |some k=>k
     |none=>.one .any
    |false=>A89 P dst i r
   |false=>A89 P dst i r
  |_=>A89 P dst i r
def B6S(ka kb:Kind)(x:Value)(k:Value→HM ρ):HM ρ:=
 match x with
 |.pointer (some a)=>match Nat.beq a.off 0 with
  |false=>V2
  |true=>(A4O ka kb a.block).bind fun p=>k (.tuple #[ka.val p.1,kb.val p.2])
 |_=>V2
def B6M(P:Program)(C:List Nat)(ops:Array Oper)(e:Env)(d:Dec)(o:Oper)(k:Value→HM ρ):HM ρ:=
 match o.op with
 |.entry x=>match e.ev x with
  |some v=>B6S (A89 P o.dst 0 ops.toList) (A89 P o.dst 1 ops.toList) v k
  |none=>V2
 |_=>C1l P C e d o k
def B1i(P:Program)(C:List Nat)(ops:Array Oper)(draw:Bool)(j:Nat)(o:Oper)(e:Env)(d:Dec)(dn:A1J)(k:Env→A1J→HM ρ):HM ρ:=
 B6M P C ops e d o fun v=>match draw with
  |false=>k (e.put o.dst v) dn
  |true=>match z8 P o.op with
   |.stat=>k (e.put o.dst v) dn
   |.read=>k (e.put o.dst v) ((j,v)::dn)
   |.cW=>again P C ops ((Region.before ops).getD j 0) (e.put o.dst v) d dn (k (e.put o.dst v) dn)
def C6J(n:Nat)(d:Dec)(dst:Option Nat):Bool:=
 match dst with
 |some s=>Nat.blt s n&&(d.get s).isNone
 |none=>true
def B8r(d:Dec):Operand→Option Bool
 |.const (.bool b)=>some b
 |.tmp t=>d.get t
 |_=>none
def C3I(d:Dec)(op:Op):Option Bool:=
 match op with
 |.move x=>B8r d x
 |.assign x=>B8r d x
 |.pick (.tmp t) a b=>match d.get t with
  |some true=>B8r d a
  |some false=>B8r d b
  |none=>none
 |_=>none
def A3v(d:Dec)(o:Oper):Dec:=
 match o.dst with
 |none=>d
 |some s=>match C3I d o.op with
  |some b=>(s,b)::d
  |none=>d
def B5d(P:Program)(C:List Nat)(n:Nat)(ops:Array Oper)(draw:Bool)(j:Nat)(e:Env)(d:Dec)(dn:A1J)(k:Env→Dec→A1J→HM ρ):HM ρ:=
 match ops.toList[j]? with
  |none=>V2
  |some o=>match C6J n d o.dst with
   |false=>V2
   |true=>match o.guard with
    |none=>B1i P C ops draw j o e d dn fun e' dn'=>k e' (A3v d o) dn'
    |some (g,want)=>match A46 ops g with
     |none=>V2
     |some s=>match d.get s with
      |some b=>match b,want with
       |true,true=>B1i P C ops draw j o e d dn fun e' dn'=>k e' (A3v d o) dn'
       |false,false=>B1i P C ops draw j o e d dn fun e' dn'=>k e' (A3v d o) dn'
       |true,false=>k (e.put o.dst undef) d dn
       |false,true=>k (e.put o.dst undef) d dn
      |none=>match C7z o.dst s with
       |true=>V2
       |false=>match e.get s with
       |some (.bool b)=>match want with
        |true=>A1G b (B1i P C ops draw j o e ((s,true)::d) dn fun e' dn'=>k e' (A3v ((s,true)::d) o) dn')
          (k (e.put o.dst undef) ((s,false)::d) dn)
        |false=>A1G b (k (e.put o.dst undef) ((s,true)::d) dn)
          (B1i P C ops draw j o e ((s,false)::d) dn fun e' dn'=>k e' (A3v ((s,false)::d) o) dn')
       |some (.tuple _)=>k (e.put o.dst undef) d dn
       |_=>V2
inductive A4w where
 |done
 |q (j:Nat) (t:A4w)
 |br (js:List Nat) (f:Nat→A4w)
def A4w.ofList:List Nat→A4w
 |[]=>.done
 |j::r=>.q j (ofList r)
def C7K:List (HM ρ)→HM ρ
 |[]=>V2
 |[m]=>m
 |m::x::r=>A0R m (C7K (x::r))
def C2R(P:Program)(C:List Nat)(n:Nat)(ops:Array Oper)(draw:Bool):A4w→Env→Dec→A1J→(Env→HM ρ)→HM ρ
 |.done,e,_,_,k=>k e
 |.q j t,e,d,dn,k=>B5d P C n ops draw j e d dn fun e' d' dn'=>C2R P C n ops draw t e' d' dn' k
 |.br js f,e,d,dn,k=>C7K (js.map fun j=>B5d P C n ops draw j e d dn fun e' d' dn'=>C2R P C n ops draw (f j) e' d' dn' k)
def C8Z(P:Program)(op:Op):Nat:=
 match z8 P op with
 |.stat=>0
 |.read=>1
 |.cW=>2
def A77(m:Nat)(acts:Bool):List (Nat×Nat×Nat)→Option Nat
 |[]=>none
 |(i,b,c)::r=>match m.testBit i with
  |true=>A77 m acts r
  |false=>match Nat.beq (b&&& m) b with
   |false=>A77 m acts r
   |true=>match acts with
    |true=>some i
    |false=>match Nat.blt c 2 with
     |true=>some i
     |false=>A77 m acts r
def B1Z(m:Nat):List (Nat×Nat×Nat)→List Nat
 |[]=>[]
 |(i,b,_)::r=>match m.testBit i with
  |true=>B1Z m r
  |false=>match Nat.beq (b&&& m) b with
   |false=>B1Z m r
   |true=>i::B1Z m r
def C1T(l:List (Nat×Nat×Nat)):Nat→Nat→A4w
 |0,_=>.done
 |f+1,m=>match A77 m false l with
  |some i=>.q i (C1T l f (m|||2 ^ i))
  |none=>match B1Z m l with
   |[]=>.done
   |j::js=>.br (j::js) fun i=>C1T l f (m|||2 ^ i)
def A6r(P:Program)(ops:Array Oper)(draw:Bool):A4w:=
 match draw with
 |true=>
  let b:=Region.before ops
  C1T (ops.toList.zipIdx.map fun(o,i)=>(i,b.getD i 0,C8Z P o.op)) ops.size 0
 |false=>.ofList (List.range ops.size)
def B81(ops:Array Oper)(x y:Oper):Bool:=
 match y.dst with
 |some d=> !((x.looksAt ops).contains d)
 |none=>true
def C5T(P:Program)(ops:Array Oper)(b:Array Nat)(i:Nat)(x:Oper)(j:Nat)(y:Oper):Bool:=
 match(b.getD j 0).testBit i with
 |true=>match z8 P x.op with
  |.read=>B81 ops x y
  |_=>true
 |false=>match z8 P x.op with
  |.cW=>false
  |_=>x.apart ops y
def A1B(j:Nat):List Nat→List Nat
 |[]=>[]
 |i::r=>match Nat.beq i j with
  |true=>A1B j r
  |false=>i::A1B j r
def B2r(P:Program)(ops:Array Oper)(j:Nat):Bool:=
 match ops.toList[j]? with
 |some o=>match z8 P o.op with
  |.cW=>true
  |_=>false
 |none=>false
def B6o(P:Program)(ops:Array Oper)(b:Array Nat):A4w→List Nat→Bool
 |.done,R=>R.isEmpty
 |.q j t,R=>(match ops.toList[j]? with
  |none=>false
  |some x=>A5N j R&& !(B2r P ops j)&&B81 ops x x&&(A1B j R).all fun i=>match ops.toList[i]? with
   |some y=>C5T P ops b j x i y
   |none=>false)&&B6o P ops b t (A1B j R)
 |.br js f,R=> !js.isEmpty &&(js.all fun j=>A5N j R&&B2r P ops j&&B6o P ops b (f j) (A1B j R))&&R.all fun i=>A5N i js||R.any fun x=>(b.getD i 0).testBit x
def C27(ops:Array Oper):Bool:=
 ops.toList.zipIdx.all fun(o,j)=>o.after.toList.all (fun e=> !(Region.binds .any e)||Nat.blt e.on j)&& !(match o.op with|.select .. =>true|_=>false)
def B2a(P:Program)(ops:Array Oper)(t:A4w):Bool:=
 C27 ops&&B6o P ops (Region.before ops) t (List.range ops.size)
def A3Q(P:Program)(live:List Nat):List Oper→List (Nat×Kind)
 |[]=>[]
 |o::rest=>match o.guard with
  |some _=>A3Q P live rest
  |none=>match o.dst with
   |none=>A3Q P live rest
   |some s=>match A5N s live with
    |false=>A3Q P live rest
    |true=>match kindOf P o.type with
     |some k=>(s,k)::A3Q P live rest
     |none=>A3Q P live rest
def guarded:List Oper→Bool
 |[]=>false
 |o::rest=>match o.guard with
  |some _=>true
  |none=>guarded rest
def dstsOf:List Oper→List Nat
 |[]=>[]
 |o::rest=>match o.dst with
  |some s=>s::dstsOf rest
  |none=>dstsOf rest
def Env.eH(e:Env):List (Nat×Kind)→Option (D0r)
 |[]=>some []
 |(s,_)::r=>match e.get s with
  |some v=>match Env.eH e r with
   |some vs=>some (v::vs)
   |none=>none
  |none=>none
def Env.dX(e:Env)(ss:List (Nat×Kind)):Option (s6 (ss.map (·.2))):=
 match e.eH ss with
 |some vs=>s6.get (ss.map (·.2)) vs
 |none=>none
def A32:List (Nat×Kind)→D0r→Env
 |(s,_)::r,v::vs=>(s,v)::A32 r vs
 |_,_=>[]
def Env.join(e:Env)(ds:List Nat)(ss:List (Nat×Kind))(x:s6 (ss.map (·.2))):Env:=
 A32 ss (s6.cC (ss.map (·.2)) x)++e.forget ds
def B13{α:Type}:Option α→HM α
 |some a=>X8 a
 |none=>V2
def B3I(P:Program)(C:List Nat)(n:Nat)(live:List Nat)(ops:Array Oper)(draw:Bool)(e:Env)(k:Env→HM ρ):HM ρ:=
 match(match draw with|true=>B2a P ops (A6r P ops true)|false=>true) with
 |false=>V2
 |true=>match guarded ops.toList with
  |false=>C2R P C n ops draw (A6r P ops draw) e [] [] k
  |true=>(C2R P C n ops draw (A6r P ops draw) e [] [] fun e'=>B13 (e'.dX (A3Q P live ops.toList))).bind fun x=>k (e.join (dstsOf ops.toList) (A3Q P live ops.toList) x)
def A2M:Code→List Nat
 |.region _ ops _=>dstsOf ops.toList
 |.seq a b=>A2M a++A2M b
 |.cond _ a b=>A2M a++A2M b
 |.block _ a=>A2M a
 |.loop a=>A2M a
 |.scope a=>A2M a
 |.rangeFunc _ _ a b=>A2M a++A2M b
 |_=>[]
def A3x:Code→Bool
 |.skip=>true
 |.region _ _ _=>true
 |.seq a b=>A3x a&&A3x b
 |.cond _ a b=>A3x a||A3x b
 |.block id a=>A3x a||canExit id a
 |.loop _=>false
 |_=>false
where
 canExit (id:Nat):Code→Bool
  |.seq a b=>canExit id a||canExit id b
  |.cond _ a b=>canExit id a||canExit id b
  |.block _ a=>canExit id a
  |.loop a=>canExit id a
  |.exit i=>Nat.beq i id
  |_=>false
def A8h:Code→List Nat→Bool
 |.seq a b,ids=>A8h a ids||A8h b ids
 |.cond _ a b,ids=>A8h a ids||A8h b ids
 |.block id a,ids=>A8h a (id::ids)
 |.loop a,ids=>A8h a ids
 |.exit i,ids=> !(A5N i ids)
 |.ret,_=>true
 |_,_=>false
structure KK(ρ:Type) where
 norm:Env→HM ρ
 ret:D0r→Option ρ
 bX:List (Nat×(Env→Option ρ))
def A1Z{β:Type}:List (Nat×β)→Nat→Option β
 |[],_=>none
 |(t,b)::d,n=>match Nat.beq t n with
  |true=>some b
  |false=>A1Z d n
def A9s{β:Type}(n:Nat):List (Nat×β)→List (Nat×β)
 |[]=>[]
 |(t,b)::d=>match Nat.beq t n with
  |true=>A9s n d
  |false=>(t,b)::A9s n d
def A5u{ρ':Type}(f:ρ→ρ'):List (Nat×(Env→Option ρ))→List (Nat×(Env→Option ρ'))
 |[]=>[]
 |(t,g)::d=>(t,fun e=>match g e with|some r=>some (f r)|none=>none)::A5u f d
def B9y{ρ':Type}(f:ρ→ρ')(g:D0r→Option ρ)(vs:D0r):Option ρ':=
 match g vs with
 |some r=>some (f r)
 |none=>none
def carried(live:List Nat)(e:Env):List Nat→List (Nat×Kind)
 |[]=>[]
 |s::r=>match A5N s r with
  |true=>carried live e r
  |false=>match A5N s live with
   |false=>carried live e r
   |true=>match e.get s with
    |none=>carried live e r
    |some v=>match Kind.of v with
     |some k=>(s,k)::carried live e r
     |none=>carried live e r
def B1h(P:Program)(e:Env):List ResultVar→(D0r→HM ρ)→HM ρ
 |[],k=>k []
 |.tmp t::rs,k=>match e.get t with
  |some v=>B1h P e rs fun vs=>k (v::vs)
  |none=>V2
 |.cell t ty::rs,k=>match e.get t with
  |some x=>B5e P ty x fun v=>B1h P e rs fun vs=>k (v::vs)
  |none=>V2
def B4q(outs:Bool)(ss:List (Nat×Kind))(inner:(ρ':Type)→KK ρ'→HM ρ')(exit:Option Nat)(e:Env)(ds:List Nat)(k:KK ρ):HM ρ:=
 match outs with
 |true=>(inner (s6 (ss.map (·.2))⊕ρ)
   {norm:=fun e'=>B13 (match e'.dX ss with|some x=>some (.inl x)|none=>none)
    ret:=B9y .inr k.ret
    bX:=match exit with
     |some id=>(id,fun e'=>match e'.dX ss with|some x=>some (.inl x)|none=>none)::A5u .inr k.bX
     |none=>A5u .inr k.bX}).bind (Sum.elim (fun x=>k.norm (e.join ds ss x)) X8)
 |false=>(inner (s6 (ss.map (·.2)))
   {norm:=fun e'=>B13 (e'.dX ss)
    ret:=fun _=>none
    bX:=match exit with
     |some id=>[(id,fun e'=>e'.dX ss)]
     |none=>[]}).bind fun x=>k.norm (e.join ds ss x)
def den(P:Program)(C:List Nat)(n:Nat)(live lc:List Nat)(rs:List ResultVar):Code→(ρ:Type)→Env→KK ρ→HM ρ
 |.skip,_,e,k=>k.norm e
 |.region _ ops draw,_,e,k=>B3I P C n live ops draw e k.norm
 |.seq a b,ρ,e,k=>den P C n live lc rs a ρ e {k with norm:=fun e'=>den P C n live lc rs b ρ e' k}
 |.cond c a b,ρ,e,k=>match e.ev c with
  |some (.bool t)=>match A3x a&&A3x b with
   |true=>B4q (A8h a []||A8h b []) (carried lc e (A2M a++A2M b))
     (fun ρ' k'=>A1G t (den P C n live lc rs a ρ' e k') (den P C n live lc rs b ρ' e k')) none e (A2M a++A2M b) k
   |false=>A1G t (den P C n live lc rs a ρ e k) (den P C n live lc rs b ρ e k)
  |_=>V2
 |.block id a,ρ,e,k=>match A3x.canExit id a with
  |true=>B4q (A8h a [id]) (carried lc e (A2M a)) (fun ρ' k'=>den P C n live lc rs a ρ' e k') (some id) e (A2M a) k
  |false=>den P C n live lc rs a ρ e {k with bX:=A9s id k.bX}
 |.loop a,ρ,e,k=>match e.dX (carried lc e (A2M a)) with
  |none=>V2
  |some x=>HM.loop (fun y=>den P C n live lc rs a (s6 ((carried lc e (A2M a)).map (·.2))⊕ρ) (e.join (A2M a) (carried lc e (A2M a)) y)
    {norm:=fun e'=>B13 (match e'.dX (carried lc e (A2M a)) with|some z=>some (.inl z)|none=>none)
     ret:=B9y .inr k.ret
     bX:=A5u .inr k.bX}) x
 |.exit id,_,e,k=>match A1Z k.bX id with
  |some g=>B13 (g e)
  |none=>V2
 |.ret,_,e,k=>B1h P e rs fun vs=>B13 (k.ret vs)
 |_,_,_,_=>V2
def B66(f:Func):Code:=f.body.getD .skip
def C6E(P:Program)(C:List Nat)(n:Nat)(live lc:List Nat)(rs:List ResultVar)(ks:List Kind)(c:Code)(args:D0r):HM (s6 ks):=
 den P C n live lc rs c (s6 ks) (args.zipIdx.map fun(v,i)=>(i,v))
  {norm:=fun e=>B1h P e rs fun vs=>B13 (s6.get ks vs)
   ret:=s6.get ks
   bX:=[]}
end
end
section
structure A0B(n:Nat)(e:Env)(a:Act):Prop where
 size:a.tmps.size=n
 defers:a.defers=[]
 get:∀t v,e.get t=some v→a.tmps[t]? =some v
def A3c(d:Dec)(a:Act):Prop:=∀t b,d.get t=some b→a.tmps[t]? =some (.bool b)
theorem A0B.ev{n:Nat}{e:Env}{a:Act}(h:A0B n e a){x:Operand}{v:Value}(hx:e.ev x=some v):a.eval x=v:=by
 cases x with
 |tmp t=>
  have:=h.get t v hx
  simp only[Act.eval,G4,this,Option.getD_some]
 |const c=>simpa[Env.ev,Act.eval] using hx
 |global g=>simpa[Env.ev,Act.eval] using hx
 |func f=>simpa[Env.ev,Act.eval] using hx
theorem A0B.eR{n:Nat}{e:Env}{a:Act}(h:A0B n e a):∀{xs:List Operand} {vs:D0r},e.eR xs=some vs→xs.map a.eval=vs
 |[],vs,hx=>by simp only[Env.eR,F6] at hx;subst hx;rfl
 |x::xs,vs,hx=>by
  simp only[Env.eR] at hx
  split at hx
  ·rename_i v hv
   split at hx
   ·rename_i us tc
    cases hx
    simp[h.ev hv,A0B.eR h tc]
   ·cases hx
  ·cases hx
theorem A0B.dT{n:Nat}{e:Env}{a:Act}(h:A0B n e a){xs:Array Operand}{vs:D0r}(hx:e.eR xs.toList=some vs):xs.map a.eval=vs.toArray:=by
 have:=h.eR hx
 apply I8.1
 simp[this]
theorem A0B.parts{n:Nat}{e:Env}{a:Act}(h:A0B n e a):∀{xs:List (Nat×Operand)} {vs:List (Nat×Value)},A6g e xs=some vs→xs.map (fun(i,x)=>(i,a.eval x))=vs
 |[],vs,hx=>by simp only[A6g,F6] at hx;subst hx;rfl
 |(i,x)::xs,vs,hx=>by
  simp only[A6g] at hx
  split at hx
  ·rename_i v hv
   split at hx
   ·rename_i us tc
    cases hx
    simp only[B5,h.ev hv]
    rw[A0B.parts h tc]
   ·cases hx
  ·cases hx
def Res(P:Program)(w0:World)(Φ:Value→Heap→Prop):Result Next→Prop
 |.ok (.value v) w'=>A0i w0 w'∧Φ v w'.heap
 |.ok .skip w'=>A0i w0 w'∧Φ undef w'.heap
 |.ok (.enter f args) w'=>A0i w0 w'∧V9 P f args w'.heap Φ
 |_=>False
def A3C(P:Program)(s:Sem Next)(h:Heap)(Φ:Value→Heap→Prop):Prop:=∀w,w.heap=h→Res P w Φ (s.run P w)
def Stat(P:Program)(s:Sem Next)(v:Value):Prop:=∀w,s.run P w=.ok (.value v) w
def A2J(P:Program)(s:Sem Next)(h:Heap)(v:Value):Prop:=∀w,w.heap=h→s.run P w=.ok (.value v) w
def A0a(P:Program)(c:Cls)(s:Sem Next)(h:Heap)(Φ:Value→Heap→Prop):Prop:=
 match c with
 |.stat=>∃v,Stat P s v∧Φ v h
 |.read=>∃v,A2J P s h v∧Φ v h
 |.cW=>A3C P s h Φ
theorem A3C.eP{P:Program}{s:Sem Next}{h:Heap}{Φ:Value→Heap→Prop}{v:Value}(hs:A2J P s h v)(hp:Φ v h):A3C P s h Φ:=by
 intro w hw
 rw[hs w hw]
 exact⟨A0i.refl w,hw▸hp⟩
theorem C5G(P:Program)(s:Sem Value)(w:World):(do pure (Next.value (←s)):Sem Next).run P w=(s.run P w).andThen fun x w'=>.ok (.value x) w':=by
 simp
theorem Stat.of{P:Program}{s:Sem Value}{v:Value}(h:∀w,s.run P w=.ok v w):Stat P (do pure (Next.value (←s)):Sem Next) v:=by
 intro w;rw[C5G,h w];rfl
theorem A2J.of{P:Program}{s:Sem Value}{h:Heap}{v:Value}(hs:∀w,w.heap=h→s.run P w=.ok v w):A2J P (do pure (Next.value (←s)):Sem Next) h v:=by
 intro w hw;rw[C5G,hs w hw];rfl
theorem A3C.eF{P:Program}{s:Sem Value}{h:Heap}{Φ:Value→Heap→Prop}(hs:∀w,w.heap=h→∃v w',s.run P w=.ok v w'∧A0i w w'∧Φ v w'.heap):
  A3C P (do pure (Next.value (←s)):Sem Next) h Φ:=by
 intro w hw
 obtain⟨v,w',hr,hm,hp⟩:=hs w hw
 rw[C5G,hr];exact⟨hm,hp⟩
theorem A3C.fH{P:Program}{s:Sem Unit}{h:Heap}{Φ:Value→Heap→Prop}(hs:∀w,w.heap=h→∃w',s.run P w=.ok () w'∧A0i w w'∧Φ undef w'.heap):
  A3C P (do s;pure Next.skip:Sem Next) h Φ:=by
 intro w hw
 obtain⟨w',hr,hm,hp⟩:=hs w hw
 have:(do s;pure Next.skip:Sem Next).run P w=.ok .skip w':=by simp[hr]
 rw[this];exact⟨hm,hp⟩
theorem X2{P:Program}{t:TypeId}{d:TypeDesc}(h:P.underlying t=some d)(w:World):(underlying t).run P w=.ok d w:=run_underlying h w
theorem A83{P:Program}{t:TypeId}{i:TypeInfo}(h:P.info? t=some i)(w:World):(typeInfo t).run P w=.ok i w:=by
 simp[typeInfo,h]
theorem A0V{P:Program}{t:TypeId}{i:TypeInfo}(h:P.info? t=some i)(w:World):(sizeOf t).run P w=.ok i.size w:=by
 simp[sizeOf,A83 h]
theorem A2D{P:Program}{t:TypeId}{i:TypeInfo}{z:Value}(h:P.info? t=some i)(hz:i.zero=some z)(w:World):(zeroValue t).run P w=.ok z w:=by
 simp[zeroValue,A83 h,hz]
theorem A2l{P:Program}{t:TypeId}{i:TypeInfo}(h:P.info? t=some i):P.cellsOf t=i.size:=by
 simp[Program.cellsOf,h]
theorem C0S{P:Program}{t:TypeId}{k:Kind}(h:kindOf P t=some k):∃i z,P.info? t=some i∧i.zero=some z∧Kind.of z=some k:=by
 unfold kindOf at h
 split at h
 ·rename_i i hi
  split at h
  ·rename_i z hz;exact⟨i,z,hi,hz,h⟩
  ·cases h
 ·cases h
section
variable {ρ:Type} {P:Program} {k:Value→HM ρ} {h:Heap} {Q:ρ→Heap→Prop}
theorem B9U{op:BinOp}{t:TypeId}{kx ky:IntKind}{a b:Int}(h1:op≠ .eql)(h2:op≠ .neq)(hd:C2W op kx ky a b k h Q):
  ∃v,(∀w,(binOp op t (.int kx a) (.int ky b)).run P w=.ok v w)∧k v h Q:=by
 unfold C2W at hd
 cases op<;>first|exact absurd rfl h1|exact absurd rfl h2|skip
 case shl=>
  obtain⟨h0,hk⟩:=hd
  refine⟨_,fun w=>?_,hk⟩
  simp[binOp,Op.shift,Int.not_lt.2 h0]
 case shr=>
  obtain⟨h0,hk⟩:=hd
  refine⟨_,fun w=>?_,hk⟩
  simp[binOp,Op.shift,Int.not_lt.2 h0]
 all_goals
  have iN:B1d kx ky=true:=by
   cases iN:B1d kx ky with
   |false=>simp only[iN] at hd;exact hd.elim
   |true=>rfl
  simp only[iN] at hd
  obtain rfl:=A73 iN
 case quo=>
  obtain⟨h0,hk⟩:=hd
  exact⟨_,fun w=>by simp[binOp,Op.intDiv,h0],hk⟩
 case rem=>
  obtain⟨h0,hk⟩:=hd
  exact⟨_,fun w=>by simp[binOp,Op.intDiv,h0],hk⟩
 all_goals exact⟨_,fun w=>by simp[binOp,Op.intArith,Op.intBits,Op.intCmp,B67],hd⟩
theorem B9Q{op:BinOp}{t:TypeId}{a b:B4p}(h1:op≠ .eql)(h2:op≠ .neq)(hd:C2S op a b k h Q):
  ∃v,(∀w,(binOp op t (.string a) (.string b)).run P w=.ok v w)∧k v h Q:=by
 unfold C2S at hd
 cases op<;>first|exact absurd rfl h1|exact absurd rfl h2|skip
 case add=>
  obtain⟨h0,hk⟩:=hd
  refine⟨_,fun w=>?_,hk⟩
  have:¬(((a.size+b.size:Nat):Int)>9223372036854775807):=by omega
  simp only[binOp,Op.stringOp,IntKind.max_i64,if_neg this,Sem.run_pure]
 all_goals first
  |exact hd.elim
  |exact⟨_,fun w=>by simp[binOp,Op.stringOp],hd⟩
theorem C1k{op:UnOp}{x:Value}(hd:C6D op x k h Q):
  ∃v,(∀w,(Op.unary op x).run P w=.ok v w)∧k v h Q:=by
 unfold C6D at hd
 split at hd
 ·exact⟨_,fun w=>by simp[Op.unary],hd⟩
 ·exact⟨_,fun w=>by simp[Op.unary,Op.intArith],hd⟩
 ·exact⟨_,fun w=>by simp[Op.unary,Op.intBits,B67],hd⟩
 ·exact hd.elim
theorem C1Z(a b:B4p):(a.toList==b.toList)=decide (a=b):=by
 have gW:a.toList=b.toList↔a=b:=by
  constructor
  ·intro hh
   rw[ByteArray.toList_eq,ByteArray.toList_eq] at hh
   cases a;cases b
   simp_all
  ·intro hh;rw[hh]
 by_cases dg:a=b
 ·simp[dg]
 ·have:¬a.toList=b.toList:=fun hh=>dg (gW.1 hh)
  simp[dg,this]
theorem A1O{t:TypeId}{x y:Value}{r:Bool}(neg:Bool)(h1:∀k n,x≠ .int k n)(h2:∀k n,x≠ .float k n)(h3:∀k n m,x≠ .complex k n m)(h4:∀s,x≠ .string s)
  (hr:∀w,(Op.equal t x y).run P w=.ok r w)(w:World):(binOp (if neg=true then .neq else .eql) t x y).run P w=.ok (.bool (A7k neg r)) w:=by
 cases neg<;>cases x<;>cases y<;>simp_all [binOp,A7k]
theorem B4X(d:Nat){t e:TypeId}(ht:P.underlying t=some (.pointer e))(p:D0p)(w:World):(Op.equalIn (d+1) t (.pointer p) (.pointer none)).run P w=.ok p.isNone w:=by
 cases p<;>simp only[Op.equalIn,Sem.run_bind,X2 ht,Result.andThen_ok]<;>rfl
theorem B4W(d:Nat){t e:TypeId}(ht:P.underlying t=some (.slice e))(p:D0p)(a b c f:Nat)(w:World):(Op.equalIn (d+1) t (.slice p a b) (.slice none c f)).run P w=.ok p.isNone w:=by
 cases p<;>simp only[Op.equalIn,Sem.run_bind,X2 ht,Result.andThen_ok]<;>rfl
theorem B4Y(d:Nat){t e f:TypeId}(ht:P.underlying t=some (.map e f))(p:Option Nat)(w:World):(Op.equalIn (d+1) t (.map p) (.map none)).run P w=.ok p.isNone w:=by
 cases p<;>simp only[Op.equalIn,Sem.run_bind,X2 ht,Result.andThen_ok]<;>rfl
theorem B2C(d:Nat){t:TypeId}{ms:Array (String×TypeId)}(ht:P.underlying t=some (.interface ms))(x:Value)(hx:isIface x=true)(w:World):(Op.equalIn (d+1) t x .nilIface).run P w=.ok (B9C x) w:=by
 cases x<;>simp[isIface] at hx<;>simp only[Op.equalIn,Sem.run_bind,X2 ht,Result.andThen_ok,B9C]<;>rfl
theorem B3F(d:Nat){t:TypeId}{a b:Array TypeId}{c:Bool}(ht:P.underlying t=some (.func a b c))(x:Value)(hx:A70 x=true)(w:World):(Op.equalIn (d+1) t x .nilFunc).run P w=.ok (B9D x) w:=by
 cases x<;>simp[A70] at hx<;>simp only[Op.equalIn,Sem.run_bind,X2 ht,Result.andThen_ok,B9D]<;>rfl
theorem B9M(d:Nat){t:TypeId}(ht:P.underlying t=some .bool)(a b:Bool)(w:World):(Op.equalIn (d+1) t (.bool a) (.bool b)).run P w=.ok (a==b) w:=by
 simp only[Op.equalIn,Sem.run_bind,X2 ht,Result.andThen_ok];rfl
theorem B7G{t e:TypeId}(ht:P.underlying t=some (.pointer e))(p:D0p)(w:World):(Op.equal t (.pointer p) (.pointer none)).run P w=.ok p.isNone w:=B4X 9999 ht p w
theorem B7F{t e:TypeId}(ht:P.underlying t=some (.slice e))(p:D0p)(a b c d:Nat)(w:World):(Op.equal t (.slice p a b) (.slice none c d)).run P w=.ok p.isNone w:=B4W 9999 ht p a b c d w
theorem B7H{t e f:TypeId}(ht:P.underlying t=some (.map e f))(p:Option Nat)(w:World):(Op.equal t (.map p) (.map none)).run P w=.ok p.isNone w:=B4Y 9999 ht p w
theorem B4V{t:TypeId}{ms:Array (String×TypeId)}(ht:P.underlying t=some (.interface ms))(x:Value)(hx:isIface x=true)(w:World):(Op.equal t x .nilIface).run P w=.ok (B9C x) w:=B2C 9999 ht x hx w
theorem B6v{t:TypeId}{a b:Array TypeId}{c:Bool}(ht:P.underlying t=some (.func a b c))(x:Value)(hx:A70 x=true)(w:World):(Op.equal t x .nilFunc).run P w=.ok (B9D x) w:=B3F 9999 ht x hx w
theorem C2L{t:TypeId}(ht:P.underlying t=some .bool)(a b:Bool)(w:World):(Op.equal t (.bool a) (.bool b)).run P w=.ok (a==b) w:=B9M 9999 ht a b w
theorem A9N{t:TypeId}{d:TypeDesc}(h:P.underlying t=some d)(w:World):(isAgg t).run P w=.ok (B1b d) w:=by
 simp only[isAgg,Sem.run_bind,X2 h,Result.andThen_ok]
 cases d<;>rfl
theorem B4r{t:TypeId}{d:TypeDesc}(h:P.underlying t=some d):∃i,P.info? t=some i:=by
 unfold Program.underlying at h
 split at h
 ·exact⟨_,by assumption⟩
 ·exact⟨_,by assumption⟩
 ·cases h
theorem A2p{t:TypeId}{cs:D0r}{off:Nat}{v:Value}(hp:A4z P t cs off=some v)(w:World):(part t cs.toArray off).run P w=.ok v w:=by
 unfold A4z at hp
 cases hu:P.underlying t with
 |none=>simp only[hu] at hp;cases hp
 |some d=>
  obtain⟨i,hi⟩:=B4r hu
  cases eu:B1b d with
  |true=>
   have dv:some (Value.agg ((cs.drop off).take (P.cellsOf t)).toArray)=some v:=by simpa only[hu,eu] using hp
   cases dv
   simp only[part,Sem.run_bind,A9N hu,Result.andThen_ok,eu,if_true,A0V hi,Sem.run_pure]
   congr 2
   rw[A2l hi]
   apply I8.1
   simp[List.drop_take,Nat.add_sub_cancel_left]
  |false=>
   have dv:cs[off]? =some v:=by simpa only[hu,eu] using hp
   simp only[part,Sem.run_bind,A9N hu,Result.andThen_ok,eu,H7,if_false]
   have:cs.toArray[off]? =some v:=by simpa using dv
   rw[this];rfl
theorem B6x{rec:TypeId→Value→Value→Option Bool}{n:Nat}
  (iY:∀t x y r,rec t x y=some r→∀w,(Op.equalIn n t x y).run P w=.ok r w){xs ys:D0q}:
  ∀(fs:List Field) (r:Bool),B4Z P rec xs.toList ys.toList fs=some r→∀w,(Op.eqFields n xs ys fs).run P w=.ok r w
 |[],r,hr,w=>by
  simp only[B4Z,F6] at hr
  subst hr
  rfl
 |f::fs,r,hr,w=>by
  simp only[B4Z] at hr
  cases hn:decide (f.name= "_") with
  |true=>simp only[hn] at hr;cases hr
  |false=>
  simp only[hn] at hr
  cases ha:A4z P f.type xs.toList f.offset with
  |none=>simp only[ha] at hr;cases hr
  |some a=>
  simp only[ha] at hr
  cases hb:A4z P f.type ys.toList f.offset with
  |none=>simp only[hb] at hr;cases hr
  |some b=>
  simp only[hb] at hr
  cases h1:rec f.type a b with
  |none=>simp only[h1] at hr;cases hr
  |some r1=>
  simp only[h1] at hr
  cases h2:B4Z P rec xs.toList ys.toList fs with
  |none=>simp only[h2] at hr;cases hr
  |some r2=>
  simp only[h2,F6] at hr
  subst hr
  have jZ:f.name≠ "_" :=by simpa using hn
  have pa:=A2p ha w
  have pb:=A2p hb w
  simp only[Q7] at pa pb
  have ih:=B6x iY fs r2 h2 w
  simp only[Op.eqFields,jZ,ne_eq,not_false_eq_true,if_true,Sem.run_bind,pa,pb,Result.andThen_ok,iY _ _ _ _ h1 w]
  cases r1
  ·simp
  ·simpa using ih
theorem B7E{rec:TypeId→Value→Value→Option Bool}{n:Nat}{t:TypeId}{fields:Array Field}(ht:P.underlying t=some (.struct fields))
  (iY:∀t x y r,rec t x y=some r→∀w,(Op.eqGuardIn n t x y).run P w=.ok false w){xs ys:D0q}{r:Bool}(hr:B4Z P rec xs.toList ys.toList fields.toList=some r)(w:World):
  (Op.eqGuardIn (n+1) t (.agg xs) (.agg ys)).run P w=.ok false w:=by
 simp only[Op.eqGuardIn,Sem.run_bind,X2 ht,Result.andThen_ok]
 rw[←Array.forIn_toList]
 generalize fields.toList=fs at hr
 clear ht
 induction fs generalizing r with
 |nil=>simp
 |cons f fs ih=>
  simp only[B4Z] at hr
  cases hn:decide (f.name= "_") with
  |true=>simp only[hn] at hr;cases hr
  |false=>
  simp only[hn] at hr
  cases ha:A4z P f.type xs.toList f.offset with
  |none=>simp only[ha] at hr;cases hr
  |some a=>
  simp only[ha] at hr
  cases hb:A4z P f.type ys.toList f.offset with
  |none=>simp only[hb] at hr;cases hr
  |some b=>
  simp only[hb] at hr
  cases h1:rec f.type a b with
  |none=>simp only[h1] at hr;cases hr
  |some r1=>
  simp only[h1] at hr
  cases h2:B4Z P rec xs.toList ys.toList fs with
  |none=>simp only[h2] at hr;cases hr
  |some r2=>
  have jZ:f.name≠ "_" :=by simpa using hn
  have pa:=A2p ha w
  have pb:=A2p hb w
  simp only[Q7] at pa pb
  simp only[List.forIn_cons,jZ,ne_eq,not_false_eq_true,if_true,Sem.run_bind,pa,pb,Result.andThen_ok,iY _ _ _ _ h1 w,H7,if_false,Sem.run_pure]
  exact ih h2
theorem C0U{rec:TypeId→Value→Value→Option Bool}{n:Nat}{t:TypeId}{fields:Array Field}{e:Bool}(ht:P.underlying t=some (.struct fields))
  (iY:∀t x y r,rec t x y=some r→∀w,(Instr.checkKey e n t x).run P w=.ok () w){xs ys:D0q}{r:Bool}(hr:B4Z P rec xs.toList ys.toList fields.toList=some r)(w:World):
  (Instr.checkKey e (n+1) t (.agg xs)).run P w=.ok () w:=by
 simp only[Instr.checkKey,Sem.run_bind,X2 ht,Result.andThen_ok]
 rw[←Array.forIn_toList]
 generalize fields.toList=fs at hr
 clear ht
 induction fs generalizing r with
 |nil=>simp
 |cons f fs ih=>
  simp only[B4Z] at hr
  cases hn:decide (f.name= "_") with
  |true=>simp only[hn] at hr;cases hr
  |false=>
  simp only[hn] at hr
  cases ha:A4z P f.type xs.toList f.offset with
  |none=>simp only[ha] at hr;cases hr
  |some a=>
  simp only[ha] at hr
  cases hb:A4z P f.type ys.toList f.offset with
  |none=>simp only[hb] at hr;cases hr
  |some b=>
  simp only[hb] at hr
  cases h1:rec f.type a b with
  |none=>simp only[h1] at hr;cases hr
  |some r1=>
  simp only[h1] at hr
  cases h2:B4Z P rec xs.toList ys.toList fs with
  |none=>simp only[h2] at hr;cases hr
  |some r2=>
  have jZ:f.name≠ "_" :=by simpa using hn
  have pa:=A2p ha w
  simp only[Q7] at pa
  simp only[List.forIn_cons,jZ,ne_eq,not_false_eq_true,if_true,Sem.run_bind,pa,Result.andThen_ok,iY _ _ _ _ h1 w,Sem.run_pure]
  exact ih h2
theorem A2j:∀(d:Nat) {t:TypeId} {x y:Value} {r:Bool},B6w P d t x y=some r→∀(D:Nat) (w:World),
  (Op.equalIn (d+D) t x y).run P w=.ok r w∧(Op.eqGuardIn (d+D) t x y).run P w=.ok false w∧∀e,(Instr.checkKey e (d+D) t x).run P w=.ok () w
 |0,_,_,_,_,hr,_,_=>by cases hr
 |d+1,t,x,y,r,hr,D,w=>by
  rw[show d+1+D=(d+D)+1 from by omega]
  unfold B6w at hr
  cases ht:P.underlying t with
  |none=>simp only[ht] at hr;cases hr
  |some dd=>
  cases dd with
  |int kk=>
   simp only[ht] at hr
   cases x<;>try cases hr
   cases y<;>try cases hr
   rename_i k a k' b
   simp only at hr
   cases iN:B1d k k' with
   |false=>simp only[iN] at hr;cases hr
   |true=>
    simp only[iN,F6] at hr
    obtain rfl:=A73 iN
    subst hr
    refine⟨?_,?_,fun e=>?_⟩
    ·simp only[Op.equalIn,Sem.run_bind,X2 ht,Result.andThen_ok];simp
    ·simp only[Op.eqGuardIn,Sem.run_bind,X2 ht,Result.andThen_ok];simp
    ·simp only[Instr.checkKey,Sem.run_bind,X2 ht,Result.andThen_ok];simp
  |bool=>
   simp only[ht] at hr
   cases x<;>try cases hr
   cases y<;>try cases hr
   refine⟨?_,?_,fun e=>?_⟩
   ·simp only[Op.equalIn,Sem.run_bind,X2 ht,Result.andThen_ok];simp
   ·simp only[Op.eqGuardIn,Sem.run_bind,X2 ht,Result.andThen_ok];simp
   ·simp only[Instr.checkKey,Sem.run_bind,X2 ht,Result.andThen_ok];simp
  |string=>
   simp only[ht] at hr
   cases x<;>try cases hr
   cases y<;>try cases hr
   rename_i a b
   refine⟨?_,?_,fun e=>?_⟩
   ·simp only[Op.equalIn,Sem.run_bind,X2 ht,Result.andThen_ok]
    have e:(a==b)=decide (a=b):=(beq_toListBytes a b).trans (C1Z a b)
    simp[e]
   ·simp only[Op.eqGuardIn,Sem.run_bind,X2 ht,Result.andThen_ok];simp
   ·simp only[Instr.checkKey,Sem.run_bind,X2 ht,Result.andThen_ok];simp
  |struct fields=>
   simp only[ht] at hr
   cases bF:P.stoodInHeld t with
   |true=>simp only[bF] at hr;cases hr
   |false=>
   simp only[bF] at hr
   cases x<;>try cases hr
   cases y<;>try cases hr
   rename_i xs ys
   simp only at hr
   have hf:P.fieldsOf t=fields:=by simp[Program.fieldsOf,ht]
   refine⟨?_,B7E ht (fun t x y r hr w=>(A2j d hr D w).2.1) hr w,fun e=>C0U ht (fun t x y r hr w=>(A2j d hr D w).2.2 e) hr w⟩
   rw[run_equalIn_struct w (d+D) t xs ys (by rw[hf];exact ht) bF,hf]
   exact B6x (fun t x y r hr w=>(A2j d hr D w).1) _ r hr w
  |_=>simp only[ht] at hr;cases hr
def B2D(neg:Bool):BinOp:=if neg=true then .neq else .eql
theorem B4w{neg:Bool}{t:TypeId}{xo yo:Operand}{x y:Value}(hy:∀c,yo=.const c→y=c)(hd:A6k P neg t yo x y k h Q):
  ∃v,(∀w,(do eqGuard (B2D neg) t xo yo x y;binOp (B2D neg) t x y:Sem Value).run P w=.ok v w)∧k v h Q:=by
 cases ht:P.underlying t with
 |none=>simp only[A6k,ht] at hd;exact hd.elim
 |some d=>
 cases d with
 |pointer e=>
  simp only[A6k,ht] at hd
  split at hd
  ·split at hd
   ·rename_i p
    obtain rfl:=hy _ rfl
    refine⟨_,fun w=>?_,hd⟩
    have hb:=A1O (P:=P) (y:=.pointer none) neg (by simp) (by simp) (by simp) (by simp) (B7G ht p) w
    cases neg<;>simpa[B2D,go_sem] using hb
   ·exact hd.elim
  ·exact hd.elim
 |slice e=>
  simp only[A6k,ht] at hd
  split at hd
  ·split at hd
   ·rename_i m n _ p a b
    obtain rfl:=hy _ rfl
    refine⟨_,fun w=>?_,hd⟩
    have hb:=A1O (P:=P) (y:=.slice none m n) neg (by simp) (by simp) (by simp) (by simp) (B7F ht p a b m n) w
    cases neg<;>simpa[B2D,go_sem] using hb
   ·exact hd.elim
  ·exact hd.elim
 |map e f=>
  simp only[A6k,ht] at hd
  split at hd
  ·split at hd
   ·rename_i p
    obtain rfl:=hy _ rfl
    refine⟨_,fun w=>?_,hd⟩
    have hb:=A1O (P:=P) (y:=.map none) neg (by simp) (by simp) (by simp) (by simp) (B7H ht p) w
    cases neg<;>simpa[B2D,go_sem] using hb
   ·exact hd.elim
  ·exact hd.elim
 |interface ms=>
  simp only[A6k,ht] at hd
  split at hd
  ·obtain⟨hx,hk⟩:=hd
   obtain rfl:=hy _ rfl
   refine⟨_,fun w=>?_,hk⟩
   have hb:=A1O (P:=P) (y:=.nilIface) neg (by intros;rintro rfl;simp[isIface] at hx) (by intros;rintro rfl;simp[isIface] at hx) (by intros;rintro rfl;simp[isIface] at hx) (by intros;rintro rfl;simp[isIface] at hx) (B4V ht x hx) w
   have hg:eqGuard (B2D neg) t xo (.const .nilIface) x .nilIface=pure ():=by cases x<;>simp[isIface] at hx<;>simp[go_sem]
   rw[hg]
   cases neg<;>simpa[B2D] using hb
  ·exact hd.elim
 |func a b c=>
  simp only[A6k,ht] at hd
  split at hd
  ·obtain⟨hx,hk⟩:=hd
   obtain rfl:=hy _ rfl
   refine⟨_,fun w=>?_,hk⟩
   have hb:=A1O (P:=P) (y:=.nilFunc) neg (by intros;rintro rfl;simp[A70] at hx) (by intros;rintro rfl;simp[A70] at hx) (by intros;rintro rfl;simp[A70] at hx) (by intros;rintro rfl;simp[A70] at hx) (B6v ht x hx) w
   have hg:eqGuard (B2D neg) t xo (.const .nilFunc) x .nilFunc=pure ():=by cases x<;>simp[A70] at hx<;>simp[go_sem]
   rw[hg]
   cases neg<;>simpa[B2D] using hb
  ·exact hd.elim
 |int ki=>
  simp only[A6k,ht] at hd
  cases x<;>try exact hd.elim
  cases y<;>try exact hd.elim
  rename_i kx a ky b
  simp only at hd
  cases iN:B1d kx ky with
  |false=>simp only[iN] at hd;exact hd.elim
  |true=>
   simp only[iN] at hd
   obtain rfl:=A73 iN
   refine⟨_,fun w=>?_,hd⟩
   cases neg<;>simp[B2D,go_sem,A7k,bne]
 |bool=>
  simp only[A6k,ht] at hd
  cases x<;>try exact hd.elim
  cases y<;>try exact hd.elim
  rename_i a b
  refine⟨_,fun w=>?_,hd⟩
  have hb:=A1O (P:=P) (y:=.bool b) neg (by simp) (by simp) (by simp) (by simp) (C2L ht a b) w
  cases neg<;>simpa[B2D,go_sem] using hb
 |string=>
  simp only[A6k,ht] at hd
  cases x<;>try exact hd.elim
  cases y<;>try exact hd.elim
  rename_i a b
  refine⟨_,fun w=>?_,hd⟩
  rw[←C1Z]
  cases neg<;>simp[B2D,go_sem,A7k,binOp,Op.stringOp]
 |struct fields=>
  simp only[A6k,ht] at hd
  cases x<;>try exact hd.elim
  rename_i xs
  simp only at hd
  cases hr:B6w P 8 t (.agg xs) y with
  |none=>simp only[hr] at hd;exact hd.elim
  |some r=>
   simp only[hr] at hd
   refine⟨_,fun w=>?_,hd⟩
   have h1:=(A2j 8 hr 9992 w).1
   have h2:=(A2j 8 hr 9992 w).2.1
   have hg:(eqGuard (B2D neg) t xo yo (.agg xs) y).run P w=.ok () w:=by
    have pS:∃ys,y=.agg ys:=by
     unfold B6w at hr
     simp only[ht] at hr
     cases bF:P.stoodInHeld t with
     |true=>simp only[bF] at hr;cases hr
     |false=>
      simp only[bF] at hr
      cases y<;>try cases hr
      exact⟨_,rfl⟩
    obtain⟨ys,rfl⟩:=pS
    have rY:(Op.eqGuardIn Op.maxDepth t (.agg xs) (.agg ys)).run P w=.ok false w:=h2
    cases neg
    all_goals
     simp only[eqGuard,B2D,H7,if_false,if_true,N7,Sem.run_bind,run_program,Result.andThen_ok]
     simp only[Sem.run_ite]
     split
     ·rfl
     ·simp only[Sem.run_bind,rY,Result.andThen_ok,H7,if_false]
      rfl
   have wh:(Op.equal t (.agg xs) y).run P w=.ok r w:=h1
   have hb:=A1O (P:=P) (t:=t) (x:=.agg xs) (y:=y) (r:=r) neg (by simp) (by simp) (by simp) (by simp)
   rw[Sem.run_bind,hg,Result.andThen_ok]
   exact hb (fun w=>(A2j 8 hr 9992 w).1) w
 |_=>simp only[A6k,ht] at hd;exact hd.elim
theorem B9X{op:BinOp}{t:TypeId}{xo yo:Operand}{x y:Value}(hy:∀c,yo=.const c→y=c)(hd:C2Y P op t yo x y k h Q):
  ∃v,(∀w,(do eqGuard op t xo yo x y;binOp op t x y:Sem Value).run P w=.ok v w)∧k v h Q:=by
 unfold C2Y at hd
 split at hd
 ·exact B4w (neg:=false) hy hd
 ·exact B4w (neg:=true) hy hd
 ·rename_i h1 h2
  have hg:∀a b,eqGuard op t xo yo a b=pure ():=by intro a b;cases op<;>first|rfl|exact absurd rfl h1|exact absurd rfl h2
  rw[hg]
  split at hd
  ·obtain⟨v,hv,hk⟩:=B9U (t:=t) h1 h2 hd
   exact⟨v,fun w=>by simpa using hv w,hk⟩
  ·obtain⟨v,hv,hk⟩:=B9Q (t:=t) h1 h2 hd
   exact⟨v,fun w=>by simpa using hv w,hk⟩
  ·exact hd.elim
theorem add_zero(a:Addr):a.add 0=a:=by simp[Addr.add]
theorem C24{h:Heap}{a:Addr}{v:Value}(hc:W8 h a=some v):a.spot=none:=by
 unfold W8 at hc
 split at hc
 ·cases hs:a.spot with
  |none=>rfl
  |some x=>simp[hs] at hc
 ·cases hc
theorem B7Z{w:World}{a:Addr}{v:Value}(hc:W8 w.heap a=some v):(load a).run P w=.ok v w:=by
 rw[run_load,B92,hc]
theorem run_loadCellsFrom(a:Addr)(w:World):∀(vs:D0r) (i:Nat) (acc:D0q),(∀(j:Nat) v,vs[j]? =some v→W8 w.heap (a.add (i+j))=some v)→
  (loadCellsFrom a i vs.length acc).run P w=.ok (acc++vs.toArray) w
 |[],_,acc,_=>by simp[loadCellsFrom]
 |v::vs,i,acc,hc=>by
  have h0:=hc 0 v rfl
  simp only[B7,loadCellsFrom,Sem.run_bind]
  rw[B7Z (by simpa using h0)]
  simp only[Result.andThen_ok]
  rw[run_loadCellsFrom a w vs (i+1) (acc.push v) (fun j u hj=>by have:=hc (j+1) u (by simpa using hj);rwa[show i+1+j=i+(j+1) from by omega])]
  congr 1
  apply I8.1
  simp
theorem run_loadCells{a:Addr}{w:World}{vs:D0r}{n:Nat}(hn:n=vs.length)(hc:∀(j:Nat) v,vs[j]? =some v→W8 w.heap (a.add j)=some v):
  (loadCells a n).run P w=.ok vs.toArray w:=by
 subst hn
 have:=run_loadCellsFrom (P:=P) a w vs 0 #[] (by simpa using hc)
 simpa[loadCells] using this
theorem B3L{s t:TypeId}{x:Value}(hd:A2N P s t x k h Q):
  ∃v,(∀w,(w.heap=h∨∃kd,P.underlying t=some (.int kd))→(convert s t x).run P w=.ok v w)∧k v h Q:=by
 cases hs:P.underlying s with
 |none=>simp only[A2N,hs] at hd;exact hd.elim
 |some ds=>
 cases ht:P.underlying t with
 |none=>simp only[A2N,hs,ht] at hd;exact hd.elim
 |some dt=>
 cases dt with
 |int kd=>
  simp only[A2N,hs,ht] at hd
  cases x<;>try exact hd.elim
  exact⟨_,fun w _=>by simp[convert,X2 hs,X2 ht,Conv.intToInt],hd⟩
 |string=>
  simp only[A2N,hs,ht] at hd
  cases x<;>try exact hd.elim
  ·exact⟨_,fun w _=>by simp[convert,X2 hs,X2 ht],hd⟩
  ·rename_i a n c
   simp only at hd
   cases ds with
   |slice e=>
    simp only at hd
    cases he:P.underlying e with
    |none=>simp only[he] at hd;exact hd.elim
    |some de=>
    simp only[he] at hd
    cases de with
    |int kd=>
     cases kd with
     |u8=>
      obtain⟨ns,hr,hq⟩:=hd
      refine⟨_,fun w hw=>?_,hq⟩
      have hw:w.heap=h:=by
       rcases hw with hw|⟨kd,hk⟩
       ·exact hw
       ·cases hk
      subst hw
      rw[run_convert_bytes_string w s t e a n c hs he ht]
      cases a with
      |none=>
       have qu:ns=[]:=by simpa[A5n] using hr
       subst qu
       rfl
      |some a=>
       obtain⟨h1,h2⟩:=hr
       refine run_bytesToString w a n c ns ?_
       exact run_loadCells (by simpa using h1.symm) (fun j v hv=>h2 j v (by simpa using hv))
     |_=>exact hd.elim
    |_=>exact hd.elim
   |_=>exact hd.elim
 |_=>simp only[A2N,hs,ht] at hd;exact hd.elim
end
end
section
theorem B4U(h:Heap)(a b:Addr)(v:Value):(W8 (A2C h a v) b).isSome=(W8 h b).isSome:=by
 unfold W8 A2C
 simp only[O6]
 by_cases hb:a.block=b.block
 ·simp only[hb,if_true]
  cases hh:h[b.block]? with
  |none=>simp
  |some x=>
   cases x<;>simp
   cases hs:b.spot<;>simp
   cases af:a.spot<;>simp
   rename_i c _ _
   by_cases ah:b.off<c.size
   ·simp[ah]
   ·simp[ah]
 ·simp[hb]
theorem B3D(h:Heap)(a b:Addr)(v:Value):A2s (A2C h a v) b=A2s h b:=by
 unfold A2s A2C
 simp only[O6]
 by_cases hb:a.block=b.block
 ·simp only[hb,if_true]
  cases hh:h[b.block]? with
  |none=>simp
  |some x=>cases x<;>simp
 ·simp[hb]
section
variable {P:Program}
theorem A2c(a:Addr):∀(vs:D0r) (i:Nat) (w:World),(∀(j:Nat) v,vs[j]? =some v→(W8 w.heap (a.add (i+j))).isSome=true∧A2s w.heap (a.add (i+j))=false∧v.oneCell'=true)→
  ∃w',(storeCells a vs i).run P w=.ok () w'∧A0i w w'∧w'.heap=A2o w.heap a vs i
 |[],i,w,_=>⟨w,by simp[storeCells],A0i.refl w,rfl⟩
 |v::vs,i,w,hc=>by
  obtain⟨h1,h2,h3⟩:=hc 0 v rfl
  simp only[O7] at h1 h2
  obtain⟨w',hr,hs,hh⟩:=A2c a vs (i+1) (w.setCell (a.add i) v) (fun j u hj=>by
   obtain⟨k1,k2,k3⟩:=hc (j+1) u (by simpa using hj)
   rw[show i+1+j=i+(j+1) from by omega,B85,B4U,B3D]
   exact⟨k1,k2,k3⟩)
  refine⟨w',?_,⟨hs.os,hs.tape,hs.output⟩,hh⟩
  simp only[storeCells,Sem.run_bind]
  rw[run_store P w _ v _ h3,B92]
  obtain⟨u,hu⟩:=Option.isSome_iff_exists.1 h1
  rw[hu,C4S,h2]
  simpa using hr
theorem B4E{t:TypeId}{d:TypeDesc}{w:World}{a:Addr}{vs:D0r}(hd:P.underlying t=some d)(eu:B1b d=true)
  (hn:P.cellsOf t=vs.length)(hc:∀(j:Nat) v,vs[j]? =some v→W8 w.heap (a.add j)=some v):(loadVar t a).run P w=.ok (.agg vs.toArray) w:=by
 obtain⟨i,hi⟩:=B4r hd
 simp only[loadVar,Sem.run_bind,A9N hd,Result.andThen_ok,eu,if_true,A0V hi]
 rw[run_loadCells (by rw[←hn,A2l hi]) hc]
 rfl
theorem B4D{t:TypeId}{d:TypeDesc}{w:World}{a:Addr}{v:Value}(hd:P.underlying t=some d)(eu:B1b d=false)
  (hc:W8 w.heap a=some v):(loadVar t a).run P w=.ok v w:=by
 simp only[loadVar,Sem.run_bind,A9N hd,Result.andThen_ok,eu]
 exact B7Z hc
variable {ρ:Type} {k:Value→HM ρ} {h:Heap} {Q:ρ→Heap→Prop}
theorem C7e(ts:List Tag)(x:Tup ts):(Tup.cC ts x).length=ts.length:=by
 induction ts with
 |nil=>rfl
 |cons t ts ih=>simp[HT.cC,ih]
theorem B0F{t:TypeId}{x:Value}(hd:B5e P t x k h Q):∃v,(∀w,w.heap=h→(Instr.loadAt t x).run P w=.ok v w)∧k v h Q:=by
 unfold B5e at hd
 cases x<;>try exact hd.elim
 rename_i p
 cases p with
 |none=>exact hd.elim
 |some a=>
 have hl:∀w,(Instr.loadAt t (.pointer (some a))).run P w=(loadVar t a).run P w:=fun w=>by simp[Instr.loadAt,Instr.sureAddr]
 simp only[hl]
 simp only at hd
 cases hu:P.underlying t with
 |none=>simp only[hu] at hd;exact hd.elim
 |some d=>
  simp only[hu] at hd
  cases eu:B1b d with
  |true=>
   simp only[eu] at hd
   cases hk:kindOf P t with
   |none=>simp only[hk] at hd;exact hd.elim
   |some kd=>
    cases kd with
    |one tg=>simp only[hk] at hd;exact hd.elim
    |agg ts=>
     simp only[hk] at hd
     cases hb:Nat.beq ts.length (P.cellsOf t) with
     |false=>simp only[hb] at hd;exact hd.elim
     |true=>
      simp only[hb] at hd
      obtain⟨x,hx,hq⟩:=hd
      refine⟨_,fun w hw=>?_,hq⟩
      subst hw
      exact B4E hu eu (by rw[C7e];exact(E1 hb).symm) hx
  |false=>
   simp only[eu] at hd
   cases hk:kindOf P t with
   |none=>simp only[hk] at hd;exact hd.elim
   |some kd=>
    cases kd with
    |agg ts=>simp only[hk] at hd;exact hd.elim
    |one tg=>
     simp only[hk] at hd
     obtain⟨x,hx,hq⟩:=hd
     exact⟨_,fun w hw=>by subst hw;exact B4D hu eu hx,hq⟩
theorem A36{kd:Kind}{v:Value}{cs:D0r}(h1:A2I kd v=some cs)(fZ:∀t,kd=.one t→v.oneCell'=true):v.cells=cs.toArray:=by
 cases kd with
 |one t=>
  simp only[A2I,F6] at h1
  subst h1
  have:=fZ t rfl
  cases v<;>first|rfl|simp[Value.oneCell'] at this
 |agg ts=>
  simp only[A2I] at h1
  cases v<;>simp only at h1<;>try cases h1
  split at h1
  ·cases h1;simp[Value.cells]
  ·cases h1
theorem B1F{kd:Kind}{v:Value}{α:Type}{m:HM α}{R:α→Heap→Prop}(hd:B9i kd v m h R):(∀t,kd=.one t→v.oneCell'=true)∧m h R:=by
 cases kd with
 |agg ts=>exact⟨fun t ht=>(by cases ht),hd⟩
 |one tg=>
  simp only[B9i] at hd
  cases ha:tg.isAny with
  |true=>simp only[ha] at hd;exact⟨fun _ _=>hd.1,hd.2⟩
  |false=>
   simp only[ha] at hd
   cases hx:tg.get v with
   |none=>simp only[hx] at hd;exact hd.elim
   |some x=>
    simp only[hx] at hd
    refine⟨fun t ht=>?_,hd⟩
    have:=Tag.bU hx
    subst this
    cases tg<;>first|rfl|cases ha
theorem B6G{t:TypeId}{x v:Value}(hd:B6H P t x v k h Q):∀w,w.heap=h→∃w',(Instr.storeAt t x v).run P w=.ok () w'∧A0i w w'∧k undef w'.heap Q:=by
 unfold B6H at hd
 cases x<;>try exact hd.elim
 rename_i p
 cases p with
 |none=>exact hd.elim
 |some a=>
 simp only at hd
 cases hk:kindOf P t with
 |none=>simp only[hk] at hd;exact hd.elim
 |some kd=>
  simp only[hk] at hd
  obtain⟨i,z,hi,hz,-⟩:=C0S hk
  cases hc:A2I kd v with
  |none=>simp only[hc] at hd;exact hd.elim
  |some cs=>
   simp only[hc] at hd
   cases hb:Nat.beq cs.length (P.cellsOf t) with
   |false=>simp only[hb] at hd;exact hd.elim
   |true=>
    simp only[hb] at hd
    have hlen:=E1 hb
    intro w hw
    subst hw
    have bF:∀(vs:D0r),v.cells=vs.toArray→(Instr.storeAt t (.pointer (some a)) v).run P w=(storeCells a vs 0).run P w∨vs.length≠i.size:=by
     intro vs dr
     by_cases hl:vs.length=i.size
     ·left
      simp[Instr.storeAt,Instr.sureAddr,storeVar,A0V hi,dr,hl]
     ·exact .inr hl
    cases kd with
    |one tg=>
     simp only at hd
     obtain⟨h1,h2,h3,hq⟩:=hd
     have hv:=A36 hc (fun _ _=>h3)
     simp only[A2I,F6] at hc
     subst hc
     obtain⟨w',hr,hs,hh⟩:=A2c (P:=P) a [v] 0 w (fun j u hj=>by
      cases j with
      |zero=>simp at hj;subst hj;rw[M9,add_zero];exact⟨h1,h2,h3⟩
      |succ j=>simp at hj)
     refine⟨w',?_,hs,?_⟩
     ·rcases bF [v] hv with he|he
      ·rw[he];exact hr
      ·rw[A2l hi] at hlen;exact absurd hlen he
     ·rw[hh]
      simpa[A2o,add_zero] using hq
    |agg ts=>
     simp only at hd
     obtain⟨h1,hq⟩:=hd
     have hv:=A36 hc (fun _ ht=>by cases ht)
     obtain⟨w',hr,hs,hh⟩:=A2c (P:=P) a cs 0 w (fun j u hj=>by rw[M9];exact h1 j u hj)
     refine⟨w',?_,hs,by rw[hh];exact hq⟩
     rcases bF cs hv with he|he
     ·rw[he];exact hr
     ·rw[A2l hi] at hlen;exact absurd hlen he
theorem C14{t:TypeId}{v:Value}{cs:D0r}(hv:v.cells=cs.toArray)(w:World):
  (newVar t v).run P w=.ok ⟨w.heap.size,0,none⟩ {w with heap:=w.heap.push (.cells cs.toArray t)}:=by
 simp[newVar,newRow,hv]
theorem B9W{t:TypeId}{v:Value}(hd:C2X P t v k h Q):∀w,w.heap=h→∃u w',(Instr.box t v).run P w=.ok u w'∧A0i w w'∧k u w'.heap Q:=by
 unfold C2X at hd
 cases hk:kindOf P t with
 |none=>simp only[hk] at hd;exact hd.elim
 |some kd=>
  simp only[hk] at hd
  cases hc:A2I kd v with
  |none=>simp only[hc] at hd;exact hd.elim
  |some cs=>
   simp only[hc] at hd
   obtain⟨ho,hq⟩:=B1F hd
   intro w hw
   subst hw
   exact⟨_,w.alloc (.cells cs.toArray t),by simp[Instr.box,C14 (A36 hc ho)],⟨rfl,rfl,rfl⟩,hq⟩
theorem B6Z{t:TypeId}(hd:B60 P t k h Q):∀w,w.heap=h→∃u w',(Instr.alloc t true (.tuple #[])).run P w=.ok u w'∧A0i w w'∧k u w'.heap Q:=by
 unfold B60 at hd
 cases hi:P.info? t with
 |none=>simp only[hi] at hd;exact hd.elim
 |some i=>
  simp only[hi] at hd
  cases hz:i.zero with
  |none=>simp only[hz] at hd;exact hd.elim
  |some z=>
   simp only[hz] at hd
   intro w hw
   subst hw
   exact⟨_,w.alloc (.cells z.cells t),by simp[Instr.alloc,A2D hi hz,newVar,newRow],⟨rfl,rfl,rfl⟩,hd⟩
theorem B1l{s:TypeId}{x:Value}{f:Nat}(hd:A8g P s x f k h Q):∃v,(∀w,(Instr.fieldAt s x f).run P w=.ok v w)∧k v h Q:=by
 unfold A8g at hd
 cases x<;>try exact hd.elim
 rename_i p
 cases p with
 |none=>exact hd.elim
 |some a=>
 simp only at hd
 cases hu:P.underlying s with
 |none=>simp only[hu] at hd;exact hd.elim
 |some d=>
 cases d with
 |struct fields=>
  simp only[hu] at hd
  cases hf:fields.toList[f]? with
  |none=>simp only[hf] at hd;exact hd.elim
  |some fd=>
   simp only[hf] at hd
   cases hb:Nat.ble 1 (P.cellsOf fd.type) with
   |false=>simp only[hb] at hd;exact hd.elim
   |true=>
    simp only[hb] at hd
    refine⟨_,fun w=>?_,hd⟩
    have oo:fields[f]? =some fd:=by simpa using hf
    have hsz:1≤P.cellsOf fd.type:=O8 hb
    cases hi:P.info? fd.type with
    |none=>simp[Program.cellsOf,hi] at hsz
    |some i=>
     rw[A2l hi] at hsz
     have bS:i.size≠0:=by omega
     simp[Instr.fieldAt,X2 hu,oo,Instr.sureAddr,fieldPlace,A0V hi,bS]
 |_=>simp only[hu] at hd;exact hd.elim
theorem B6P{t:TypeId}{x:Value}{f:Nat}(hd:B6Q P t x f k h Q):∃v,(∀w,(Instr.field t x f).run P w=.ok v w)∧k v h Q:=by
 unfold B6Q at hd
 cases x<;>try exact hd.elim
 rename_i cs
 simp only at hd
 cases hu:P.underlying t with
 |none=>simp only[hu] at hd;exact hd.elim
 |some d=>
 cases d with
 |struct fields=>
  simp only[hu] at hd
  cases hf:fields.toList[f]? with
  |none=>simp only[hf] at hd;exact hd.elim
  |some fd=>
   simp only[hf] at hd
   cases hp:A4z P fd.type cs.toList fd.offset with
   |none=>simp only[hp] at hd;exact hd.elim
   |some v=>
    simp only[hp] at hd
    refine⟨_,fun w=>?_,hd⟩
    have oo:fields[f]? =some fd:=by simpa using hf
    have:=A2p hp w
    simp only[Instr.field,Sem.run_bind,X2 hu,Result.andThen_ok,oo,asAgg,Sem.run_pure]
    simpa using this
 |_=>simp only[hu] at hd;exact hd.elim
theorem B1k{t:TypeId}{x i:Value}(hd:A8f P t x i k h Q):∃v,(∀w,(Instr.indexAt t x i).run P w=.ok v w)∧k v h Q:=by
 unfold A8f at hd
 cases i<;>try exact hd.elim
 rename_i ki n
 simp only at hd
 cases hu:P.underlying t with
 |none=>simp only[hu] at hd;exact hd.elim
 |some d=>
 cases d with
 |slice elem=>
  simp only[hu] at hd
  cases x<;>try exact hd.elim
  rename_i a len cap
  simp only at hd
  cases hi:P.info? elem with
  |none=>simp only[hi] at hd;exact hd.elim
  |some inf=>
   simp only[hi] at hd
   obtain⟨ad,rfl,h0,h1,hq⟩:=hd
   refine⟨_,fun w=>?_,hq⟩
   simp[Instr.indexAt,asIntOf,X2 hu,h0,h1,A0V hi]
 |array len elem=>
  simp only[hu] at hd
  cases x<;>try exact hd.elim
  rename_i p
  cases p with
  |none=>exact hd.elim
  |some a=>
  simp only at hd
  cases hi:P.info? elem with
  |none=>simp only[hi] at hd;exact hd.elim
  |some inf=>
   simp only[hi] at hd
   obtain⟨ad,hh,h0,h1,hq⟩:=hd
   cases hh
   refine⟨_,fun w=>?_,hq⟩
   simp[Instr.indexAt,asIntOf,X2 hu,h0,h1,A0V hi,Instr.sureAddr]
 |_=>simp only[hu] at hd;exact hd.elim
theorem B6N{t:TypeId}{x i:Value}(hd:B6O P t x i k h Q):∃v,(∀w,(Instr.index t x i).run P w=.ok v w)∧k v h Q:=by
 unfold B6O at hd
 cases i<;>try exact hd.elim
 rename_i ki n
 simp only at hd
 cases hu:P.underlying t with
 |none=>simp only[hu] at hd;exact hd.elim
 |some d=>
 cases d with
 |string=>
  simp only[hu] at hd
  cases x<;>try exact hd.elim
  rename_i s
  simp only at hd
  obtain⟨b,h0,hb,hq⟩:=hd
  refine⟨_,fun w=>?_,hq⟩
  simp[Instr.index,asIntOf,X2 hu,h0,hb]
 |_=>simp only[hu] at hd;exact hd.elim
theorem B2J{o:Oper}{x:Operand}{ev:Operand→Value}(ho:o.op=.nilCheck x)(hd:B4v (ev x) k h Q):∃v,Stat P (execOp ev o) v∧k v h Q:=by
 cases hp:ev x with
 |pointer p=>
  rw[hp] at hd
  obtain⟨a,rfl,hq⟩:=hd
  exact⟨_,fun w=>by simp[execOp,ho,hp],hq⟩
 |func fn first captured=>
  rw[hp] at hd
  cases fn with
  |func f=>exact⟨_,fun w=>by simp[execOp,ho,hp],hd⟩
  |_=>exact hd.elim
 |_=>rw[hp] at hd;exact hd.elim
end
end
section
section
variable {P:Program} {ρ:Type} {k:Value→HM ρ} {h:Heap} {Q:ρ→Heap→Prop}
def A4E(v:Option Value)(r:Option Int):Prop:=
 match r with
 |none=>v=none
 |some n=>∃kd,v=some (.int kd n)
theorem A7N{n:Nat}{e:Env}{a:Act}(hA:A0B n e a){x:Option Operand}{r:Option Int}(hx:A7O e x=some r):A4E (x.map a.eval) r:=by
 cases x with
 |none=>simp only[A7O,F6] at hx;subst hx;rfl
 |some x=>
  simp only[A7O] at hx
  split at hx
  ·rename_i kd m hv
   cases hx
   exact⟨kd,by simp[hA.ev hv]⟩
  ·cases hx
theorem run_sliceBound(kd:IntKind)(n:Int)(y:Nat)(code:BoundsCode)(m:Nat)(hm:n=(m:Int))(hle:m≤y)(w:World):
  (Instr.sliceBound (.int kd n) y code).run P w=.ok m w:=by
 subst hm
 have h1:(0:Int)≤(m:Int)∧(m:Int)≤(y:Int):=by omega
 simp[Instr.sliceBound,asIntOf,h1]
theorem A8v{b:Bool}{len cap:Nat}{lo hi mx:Option Value}{rl rh rm:Option Int}(hl:A4E lo rl)(hh:A4E hi rh)(hm:A4E mx rm){l u m:Nat}
  (h1:A4i rm (m=cap) m cap)(h2:A4i rh (rm=none∧u=len) u m)(h3:A4i rl (l=0) l u)(w:World):(Instr.sliceBounds b len cap lo hi mx).run P w=.ok (l,u,m) w:=by
 unfold Instr.sliceBounds
 cases rm with
 |none=>
  simp only[A4E] at hm;subst hm
  simp only[A4i] at h1;subst h1
  cases rh with
  |none=>
   simp only[A4E] at hh;subst hh
   obtain⟨-,rfl⟩:=h2
   cases rl with
   |none=>simp only[A4E] at hl;subst hl;simp only[A4i] at h3;subst h3;rfl
   |some x=>obtain⟨kd,rfl⟩:=hl;simp[run_sliceBound _ _ _ _ _ h3.1 h3.2]
  |some y=>
   obtain⟨kd,rfl⟩:=hh
   cases rl with
   |none=>simp only[A4E] at hl;subst hl;simp only[A4i] at h3;subst h3;simp[run_sliceBound _ _ _ _ _ h2.1 h2.2]
   |some x=>obtain⟨kd,rfl⟩:=hl;simp[run_sliceBound _ _ _ _ _ h2.1 h2.2,run_sliceBound _ _ _ _ _ h3.1 h3.2]
 |some z=>
  obtain⟨kz,rfl⟩:=hm
  cases rh with
  |none=>exact absurd h2.1 (by simp)
  |some y=>
   obtain⟨kd,rfl⟩:=hh
   cases rl with
   |none=>simp only[A4E] at hl;subst hl;simp only[A4i] at h3;subst h3;simp[run_sliceBound _ _ _ _ _ h1.1 h1.2,run_sliceBound _ _ _ _ _ h2.1 h2.2]
   |some x=>obtain⟨kd,rfl⟩:=hl;simp[run_sliceBound _ _ _ _ _ h1.1 h1.2,run_sliceBound _ _ _ _ _ h2.1 h2.2,run_sliceBound _ _ _ _ _ h3.1 h3.2]
theorem B6I{t:TypeId}{x:Value}{lo hi mx:Option Value}{rl rh rm:Option Int}(hl:A4E lo rl)(hh:A4E hi rh)(hm:A4E mx rm)
  (hd:B6J P t x rl rh rm k h Q):∃v,(∀w,(Instr.sliceAt t x lo hi mx).run P w=.ok v w)∧k v h Q:=by
 unfold B6J at hd
 cases hu:P.underlying t with
 |none=>simp only[hu] at hd;exact hd.elim
 |some d=>
 cases d with
 |string=>
  simp only[hu] at hd
  cases x<;>try exact hd.elim
  rename_i s
  cases rm with
  |some _=>exact hd.elim
  |none=>
   obtain⟨l,u,h1,h2,hq⟩:=hd
   refine⟨_,fun w=>?_,hq⟩
   have lx:mx=none:=hm
   subst lx
   have wh:A4i rh ((none:Option Int)=none∧u=s.size) u s.size:=by
    cases rh with
    |none=>exact⟨rfl,h1⟩
    |some y=>exact h1
   have hb:=A8v (P:=P) (b:=false) (len:=s.size) (cap:=s.size) (m:=s.size) hl hh (mx:=none) (rm:=none) rfl rfl wh h2 w
   simp only[Instr.sliceAt,Sem.run_bind,X2 hu,Result.andThen_ok,Instr.slice,Option.isSome_none,H7,if_false,hb]
   rfl
 |slice elem=>
  simp only[hu] at hd
  cases x<;>try exact hd.elim
  rename_i a n c
  simp only at hd
  cases kE:P.info? elem with
  |none=>simp only[kE] at hd;exact hd.elim
  |some inf=>
   simp only[kE] at hd
   obtain⟨l,u,m,h1,h2,h3,hq⟩:=hd
   refine⟨_,fun w=>?_,hq⟩
   have hb:=A8v (P:=P) (b:=true) (len:=n) (cap:=c) hl hh hm h1 h2 h3 w
   simp only[Instr.sliceAt,Sem.run_bind,X2 hu,Result.andThen_ok,Instr.slice,hb,A0V kE]
   rfl
 |_=>simp only[hu] at hd;exact hd.elim
def Kind.width:Kind→Nat
 |.one _=>1
 |.agg ts=>ts.length
theorem A9a(cs:D0r)(off:Nat):A3k cs off []=cs:=by cases cs<;>rfl
theorem B17(v:Value)(vs:D0r):∀(cs:D0r) (off:Nat),off<cs.length→A3k cs off (v::vs)=A3k (cs.set off v) (off+1) vs
 |[],off,h=>by simp at h
 |c::cs,0,_=>by
  cases vs with
  |nil=>simp[A3k,A9a]
  |cons u us=>simp[A3k]
 |c::cs,off+1,h=>by
  have ih:=B17 v vs cs off (by simpa using h)
  cases vs with
  |nil=>simp only[A3k,List.set_cons_succ,A9a] at ih⊢;rw[ih]
  |cons u us=>simp only[A3k,List.set_cons_succ] at ih⊢;rw[ih]
theorem B2x(off:Nat):∀(vs:D0r) (i:Nat) (cs:D0r),off+i+vs.length≤cs.length→
  (vs.zipIdx i).foldl (fun cs (x:Value×Nat)=>cs.setIfInBounds (off+x.2) x.1) cs.toArray=(A3k cs (off+i) vs).toArray
 |[],i,cs,_=>by simp[A9a]
 |v::vs,i,cs,hle=>by
  simp only[B7] at hle
  rw[B17 v vs cs (off+i) (by omega)]
  have:=B2x off vs (i+1) (cs.set (off+i) v) (by simp;omega)
  simp only[List.zipIdx_cons,I4]
  rw[show off+i+1=off+(i+1) from by omega,←this]
  congr 1
  simp
theorem C1r{kd:Kind}{v:Value}{cs:D0r}(h1:A2I kd v=some cs):cs.length=kd.width:=by
 cases kd with
 |one t=>simp only[A2I,F6] at h1;subst h1;rfl
 |agg ts=>
  simp only[A2I] at h1
  cases v<;>simp only at h1<;>try cases h1
  split at h1
  ·rename_i hb;cases h1;exact E1 hb
  ·cases h1
theorem A3i{place:Nat→Option (Nat×Kind)}{m:HM ρ}:∀(ps:List (Nat×Value)),A61 place ps m h Q→
  (∀i v off kd,(i,v)∈ps→place i=some (off,kd)→∀t,kd=.one t→v.oneCell'=true)∧m h Q
 |[],hd=>by
  refine⟨fun _ _ _ _ hm=>?_,hd⟩
  exact absurd hm (R2)
 |(i,v)::rest,hd=>by
  simp only[A61] at hd
  cases hp:place i with
  |none=>simp only[hp] at hd;exact hd.elim
  |some x=>
   obtain⟨off,kd⟩:=x
   simp only[hp] at hd
   obtain⟨h1,h2⟩:=B1F hd
   obtain⟨h3,h4⟩:=A3i rest h2
   refine⟨fun j u off' kd' hm dv=>?_,h4⟩
   cases hm with
   |head=>rw[hp] at dv;cases dv;exact h1
   |tail _ hm=>exact h3 j u off' kd' hm dv
theorem A8a{place':Nat→Option (Nat×Nat)}{place:Nat→Option (Nat×Kind)}(fz:∀i off kd,place i=some (off,kd)→place' i=some (off,kd.width)):
  ∀(ps:List (Nat×Value)) (cs out:D0r),A6A place cs ps=some out→
   (∀i v off kd,(i,v)∈ps→place i=some (off,kd)→∀t,kd=.one t→v.oneCell'=true)→Instr.fill place' cs.toArray ps=some out.toArray
 |[],cs,out,hf,_=>by simp only[A6A,F6] at hf;subst hf;rfl
 |(i,v)::rest,cs,out,hf,fZ=>by
  simp only[A6A] at hf
  split at hf
  ·rename_i off kd hp
   split at hf
   ·rename_i vs dr
    split at hf
    ·rename_i hb
     have hle:off+vs.length≤cs.length:=O8 hb
     have ot:=A36 dr (fZ i v off kd (B6 ..) hp)
     have hlen:=C1r dr
     have ih:=A8a fz rest _ out hf (fun j u off' kd' hm=>fZ j u off' kd' (C2 _ hm))
     simp only[Instr.fill,fz i off kd hp,ot]
     have fK:¬((vs.toArray.size≠kd.width||off+vs.toArray.size>cs.toArray.size)=true):=by
      simp[hlen];omega
     rw[if_neg fK]
     rw[←ih]
     congr 1
     have:=B2x off vs 0 cs (by omega)
     rw[O7] at this
     rw[←this]
     simp[←Array.foldl_toList]
    ·cases hf
   ·cases hf
  ·cases hf
theorem C0l{α β:Type}{f:α→Sem β}{g:α→β}{w:World}:∀(xs:List α),(∀x∈xs,(f x).run P w=.ok (g x) w)→(xs.mapM f).run P w=.ok (xs.map g) w
 |[],_=>rfl
 |x::xs,hf=>by
  rw[List.mapM_cons]
  simp only[Sem.run_bind,hf x (B6 ..),Result.andThen_ok,C0l xs (fun y hy=>hf y (C2 _ hy)),Sem.run_pure,B5]
theorem B0G:∀(fs:List Field),B2Q P fs=true→∀f∈fs,∃i,P.info? f.type=some i
 |[],_,_,hf=>by cases hf
 |g::fs,hi,f,hf=>by
  simp only[B2Q] at hi
  split at hi
  ·rename_i i aP
   cases hf with
   |head=>exact⟨i,aP⟩
   |tail _ hf=>exact B0G fs hi f hf
  ·cases hi
theorem B2A{fields:Array Field}{i off:Nat}{kd:Kind}(hp:A4p P fields i=some (off,kd)):∃f,fields.toList[i]? =some f∧f.offset=off∧P.cellsOf f.type=kd.width:=by
 unfold A4p at hp
 split at hp
 ·rename_i f hf
  refine⟨f,hf,?_⟩
  split at hp
  ·split at hp
   ·split at hp
    ·rename_i hb;cases hp;exact⟨rfl,E1 hb⟩
    ·cases hp
   ·split at hp
    ·rename_i hb;cases hp;exact⟨rfl,E1 hb⟩
    ·cases hp
  ·cases hp
 ·cases hp
theorem A7l{elem:TypeId}{i off:Nat}{kd:Kind}(hp:A2k P elem i=some (off,kd)):off=i*P.cellsOf elem∧P.cellsOf elem=kd.width:=by
 unfold A2k at hp
 split at hp
 ·split at hp
  ·split at hp
   ·rename_i hb;cases hp;have:=E1 hb;rw[this];exact⟨by omega,rfl⟩
   ·cases hp
  ·split at hp
   ·rename_i hb;cases hp;have:=E1 hb;rw[this];exact⟨rfl,rfl⟩
   ·cases hp
 ·cases hp
theorem B6X{t:TypeId}{ps:Array (Nat×Value)}(hd:B6Y P t ps.toList k h Q):∃v,(∀w,(Instr.build t ps).run P w=.ok v w)∧k v h Q:=by
 unfold B6Y at hd
 cases hu:P.underlying t with
 |none=>simp only[hu] at hd;exact hd.elim
 |some d=>
 cases d with
 |struct fields=>
  simp only[hu] at hd
  cases ha:B2Q P fields.toList with
  |false=>simp only[ha] at hd;exact hd.elim
  |true=>
  simp only[ha] at hd
  cases hi:P.info? t with
  |none=>simp only[hi] at hd;exact hd.elim
  |some i=>
  simp only[hi] at hd
  cases hz:i.zero with
  |none=>simp only[hz] at hd;exact hd.elim
  |some z=>
  simp only[hz] at hd
  cases hf:A6A (A4p P fields) z.cells.toList ps.toList with
  |none=>simp only[hf] at hd;exact hd.elim
  |some cs=>
   simp only[hf] at hd
   obtain⟨fZ,hq⟩:=A3i _ hd
   refine⟨_,fun w=>?_,hq⟩
   have fz:∀w,(fields.mapM fun f=>do pure (f.offset,←sizeOf f.type):Sem _).run P w=.ok (fields.map fun f=>(f.offset,P.cellsOf f.type)) w:=by
    intro w
    rw[Array.mapM_eq_mapM_toList]
    simp only[Sem.run_map]
    rw[C0l (g:=fun f=>(f.offset,P.cellsOf f.type)) fields.toList (fun f hf=>by
     obtain⟨i,hi⟩:=B0G _ ha f hf
     simp[A0V hi,A2l hi])]
    simp only[Result.andThen_ok]
    congr 1
    apply I8.1
    simp
   have dJ:=A8a (place':=fun i=>(fields.map fun f=>(f.offset,P.cellsOf f.type))[i]?) (fun i off kd hp=>by
    obtain⟨f,hf,h1,h2⟩:=B2A hp
    have oo:fields[i]? =some f:=by simpa using hf
    simp[oo,h1,h2]) ps.toList _ _ hf fZ
   simp only[Instr.build,Sem.run_bind,A2D hi hz,Result.andThen_ok,X2 hu,fz]
   simp only[Q7] at dJ
   rw[dJ]
   rfl
 |array len elem=>
  simp only[hu] at hd
  cases hi:P.info? t with
  |none=>simp only[hi] at hd;exact hd.elim
  |some i=>
  simp only[hi] at hd
  cases hz:i.zero with
  |none=>simp only[hz] at hd;exact hd.elim
  |some z=>
  simp only[hz] at hd
  cases he:P.info? elem with
  |none=>simp only[he] at hd;exact hd.elim
  |some ie=>
  simp only[he] at hd
  cases hf:A6A (A2k P elem) z.cells.toList ps.toList with
  |none=>simp only[hf] at hd;exact hd.elim
  |some cs=>
   simp only[hf] at hd
   obtain⟨fZ,hq⟩:=A3i _ hd
   refine⟨_,fun w=>?_,hq⟩
   have dJ:=A8a (place':=fun i=>some (i*ie.size,ie.size)) (fun i off kd hp=>by
    obtain⟨h1,h2⟩:=A7l hp
    rw[A2l he] at h1 h2
    simp[h1,h2]) ps.toList _ _ hf fZ
   simp only[Instr.build,Sem.run_bind,A2D hi hz,Result.andThen_ok,X2 hu,A0V he]
   simp only[Q7] at dJ
   rw[dJ]
   rfl
 |_=>simp only[hu] at hd;exact hd.elim
theorem C7l(z:D0r)(n:Nat):C18 z n=(List.range (n*z.length)).map (fun i=>z[i % z.length]!):=by
 induction n with
 |zero=>simp[C18]
 |succ n ih=>
  have hz:(List.range z.length).map (fun i=>z[i % z.length]!)=z:=by
   apply List.ext_getElem
   ·simp
   ·intro i h1 h2
    simp only[List.getElem_map,List.getElem_range]
    rw[Nat.mod_eq_of_lt h2,getElem!_pos z i h2]
  rw[C18,ih,J7,Nat.add_comm,List.range_add,B8,hz]
  congr 1
  simp[F3,Q9]
theorem B0i{t:TypeId}{n:Nat}{ps:Array (Nat×Value)}(hd:A6C P t n ps.toList k h Q):
  ∀w,w.heap=h→∃v w',(Instr.buildSlice t n ps).run P w=.ok v w'∧A0i w w'∧k v w'.heap Q:=by
 unfold A6C at hd
 cases hu:P.underlying t with
 |none=>simp only[hu] at hd;exact hd.elim
 |some d=>
 cases d with
 |slice elem=>
  simp only[hu] at hd
  cases hi:P.info? elem with
  |none=>simp only[hi] at hd;exact hd.elim
  |some i=>
  simp only[hi] at hd
  cases hz:i.zero with
  |none=>simp only[hz] at hd;exact hd.elim
  |some z=>
  simp only[hz] at hd
  cases hb:Nat.beq z.cells.toList.length i.size with
  |false=>simp only[hb] at hd;exact hd.elim
  |true=>
  simp only[hb] at hd
  cases dA:Nat.ble (n*i.size) 16777216 with
  |false=>simp only[dA] at hd;exact hd.elim
  |true=>
  simp only[dA] at hd
  cases oy:Nat.ble 1 i.size with
  |false=>simp only[oy] at hd;exact hd.elim
  |true=>
  simp only[oy] at hd
  cases hf:A6A (A2k P elem) (C18 z.cells.toList n) ps.toList with
  |none=>simp only[hf] at hd;exact hd.elim
  |some cs=>
   simp only[hf] at hd
   obtain⟨fZ,hq⟩:=A3i _ hd
   intro w hw
   subst hw
   refine⟨_,w.alloc (.cells cs.toArray elem),?_,⟨rfl,rfl,rfl⟩,hq⟩
   have h1:=E1 hb
   have h2:=O8 dA
   have h3:=O8 oy
   have dJ:=A8a (place':=fun j=>some (j*i.size,i.size)) (fun j off kd hp=>by
    obtain⟨g1,g2⟩:=A7l hp
    rw[A2l hi] at g1 g2
    simp[g1,g2]) ps.toList _ _ hf fZ
   have hsz:z.cells.size=i.size:=by simpa using h1
   have tq:(C18 z.cells.toList n).toArray=(Array.range (n*i.size)).map (fun j=>z.cells[j % z.cells.size]!):=by
    apply I8.1
    rw[C7l]
    simp[hsz,Array.toList_range]
    intro a _
    rw[getElem!_def]
    cases z.cells[a % i.size]? <;>rfl
   rw[tq] at dJ
   have hle:¬(n*i.size>2 ^ 24):=by omega
   by_cases h0:n*i.size=0
   ·have iZ:(Array.range (n*i.size)).map (fun j=>z.cells[j % z.cells.size]!)=#[]:=by rw[h0];simp
    rw[iZ] at dJ
    simp only[Instr.buildSlice,Sem.run_bind,X2 hu,Result.andThen_ok,A0V hi,if_neg hle,Sem.run_pure,Sem.run_ite,if_pos h0]
    simp only[h0]
    rw[show(Array.range 0).map (fun x=>(#[]:D0q)[x % (#[]:D0q).size]!)=#[] from by simp,dJ]
    simp[newRow]
   ·simp only[Instr.buildSlice,Sem.run_bind,X2 hu,Result.andThen_ok,A0V hi,if_neg hle,Sem.run_pure,Sem.run_ite,if_neg h0,A2D hi hz]
    rw[dJ]
    simp[newRow]
 |_=>simp only[hu] at hd;exact hd.elim
end
end
section
section
variable {P:Program} {ρ:Type} {k:Value→HM ρ} {h:Heap} {Q:ρ→Heap→Prop}
theorem A5h{a:D0p}{m n c size:Nat}{vs:D0q}{w:World}(hr:A5n w.heap a (n*size) vs):
  (Builtin.firstCells size n (.slice a m c)).run P w=.ok vs w:=by
 cases a with
 |none=>simp only[A5n] at hr;subst hr;rfl
 |some x=>
  obtain⟨h1,h2⟩:=hr
  have:=run_loadCells (P:=P) (a:=x) (w:=w) (vs:=vs.toList) (n:=n*size) (by simp[h1]) (fun j v hj=>h2 j v (by simpa using hj))
  simpa[Builtin.firstCells] using this
theorem B0S{s:B4p}{size:Nat}{w:World}:(Builtin.firstCells size s.size (.string s)).run P w=.ok (s.data.map fun b=>.int .u8 b.toNat) w:=by
 simp[Builtin.firstCells,ByteArray.extract_zero_size]
theorem B7e{t u elem:TypeId}{ty:TypeId}{i:TypeInfo}{z x:Value}{s:Slc}{n:Nat}{src:Heap→D0q→Prop}{du:TypeDesc}
  (ht:P.underlying t=some (.slice elem))(hu:P.underlying u=some du)(xP:∀kd,du≠ .int kd)(hi:P.info? elem=some i)(hz:i.zero=some z)
  (hlen:∀w,(Builtin.lenOf x).run P w=.ok n w)
  (fo:∀(w:World) (vs:D0q),src w.heap vs→(Builtin.firstCells i.size n x).run P w=.ok vs w)
  {R:Slc→Heap→Prop}(hd:HM.append elem i.size i.bytes z.cells s n src h R):
  ∀w,w.heap=h→∃r w',(Builtin.append_ #[t,u] ty #[.slice s.a s.len s.cap,x]).run P w=.ok (.slice r.a r.len r.cap) w'∧A0i w w'∧R r w'.heap:=by
 intro w hw
 subst hw
 obtain⟨h1,h2⟩:=hd
 have sS:(match du with|.int _=>true|_=>false)=false:=by cases du<;>first|rfl|exact absurd rfl (xP _)
 by_cases hle:s.len+n≤s.cap
 ·obtain⟨vs,dr,hm⟩:=h1 hle
  cases ha:s.a with
  |none=>
   simp only[ha] at hm
   refine⟨_,w,?_,A0i.refl w,hm⟩
   simp[Builtin.append_,X2 ht,X2 hu,sS,A0V hi,hlen,hle,fo w vs dr]
  |some a=>
   simp only[ha] at hm
   obtain⟨h3,hq⟩:=hm
   obtain⟨w',hr,hs,hh⟩:=A2c (P:=P) (a.add (s.len*i.size)) vs.toList 0 w (fun j v hj=>by rw[M9];exact h3 j v (by simpa using hj))
   refine⟨⟨some a,s.len+n,s.cap⟩,w',?_,hs,by rw[hh];exact hq⟩
   simp[Builtin.append_,X2 ht,X2 hu,sS,A0V hi,hlen,hle,fo w vs dr,hr]
 ·obtain⟨jd,ou,old,vs,hold,dr,hq⟩:=h2 (by omega)
  have fK:¬(((s.len+n:Nat):Int)>IntKind.i64.max∧(false=true∨i.bytes=0)):=by rw[IntKind.max_i64];omega
  have eD:¬(Builtin.nextslicecap (s.len+n) s.cap*i.bytes>2 ^ 48):=by omega
  have qM:s.len+n≤Question.cut (.appendCap (s.len+n) s.cap elem) (w.tape w.drawn (.appendCap (s.len+n) s.cap elem)):=by simp[Question.cut]
  have tP:Question.cut (.appendCap (s.len+n) s.cap elem) (w.tape w.drawn (.appendCap (s.len+n) s.cap elem))≤9223372036854775807:=by
   simp only[Question.cut]
   have:=Nat.mod_lt (w.tape w.drawn (.appendCap (s.len+n) s.cap elem)) (show 2 ^ 63-(s.len+n)>0 by omega)
   omega
  refine⟨_,(w.drew).alloc (.cells (old++vs++Builtin.zeroCells z.cells (Question.cut (.appendCap (s.len+n) s.cap elem) (w.tape w.drawn (.appendCap (s.len+n) s.cap elem))-(s.len+n))) elem),?_,⟨rfl,rfl,rfl⟩,hq _ qM tP⟩
  have qq:(Builtin.firstCells i.size s.len (.slice s.a s.len s.cap)).run P w.drew=.ok old w.drew:=A5h (w:=w.drew) hold
  have nL:(Builtin.firstCells i.size n x).run P w.drew=.ok vs w.drew:=fo w.drew vs dr
  have uv:¬(((s.len:Int)+(n:Int))>9223372036854775807∧i.bytes=0):=by omega
  simp[Builtin.append_,X2 ht,X2 hu,sS,A0V hi,hlen,hle,A83 hi,uv,eD,Question.forced,qq,nL,A2D hi hz,newRow]
theorem B43{ts:Array TypeId}{ty:TypeId}{vs:D0q}(hd:B3M P ts.toList vs.toList k h Q):
  ∀w,w.heap=h→∃r w',(Builtin.append_ ts ty vs).run P w=.ok r w'∧A0i w w'∧k r w'.heap Q:=by
 obtain⟨ts⟩:=ts
 obtain⟨vs⟩:=vs
 simp only at hd
 unfold B3M at hd
 match ts,vs,hd with
 |[t,u],[s,x],hd=>
  simp only at hd
  cases ht:P.underlying t with
  |none=>simp only[ht] at hd;exact hd.elim
  |some d=>
  cases d with
  |slice elem=>
   simp only[ht] at hd
   cases s<;>try exact hd.elim
   rename_i a n c
   simp only at hd
   cases hi:P.info? elem with
   |none=>simp only[hi] at hd;exact hd.elim
   |some i=>
   simp only[hi] at hd
   cases hz:i.zero with
   |none=>simp only[hz] at hd;exact hd.elim
   |some z=>
   simp only[hz] at hd
   cases hu:P.underlying u with
   |none=>simp only[hu] at hd;exact hd.elim
   |some du=>
   cases du with
   |slice e2=>
    simp only[hu] at hd
    cases x<;>try exact hd.elim
    rename_i b m dd
    simp only at hd
    intro w hw
    obtain⟨r,w',hr,hs,hq⟩:=B7e (ty:=ty) (x:=.slice b m dd) (s:=⟨a,n,c⟩) ht hu (by simp) hi hz (fun w=>rfl) (fun w vs dr=>A5h dr) hd w hw
    exact⟨_,w',hr,hs,hq⟩
   |string=>
    simp only[hu] at hd
    cases x<;>try exact hd.elim
    rename_i b
    simp only at hd
    intro w hw
    obtain⟨r,w',hr,hs,hq⟩:=B7e (ty:=ty) (x:=.string b) (s:=⟨a,n,c⟩) ht hu (by simp) hi hz (fun w=>rfl) (fun w vs dr=>by simp only[C5x] at dr;subst dr;exact B0S) hd w hw
    exact⟨_,w',hr,hs,hq⟩
   |_=>simp only[hu] at hd;exact hd.elim
  |_=>simp only[ht] at hd;exact hd.elim
 |[],_,hd=>exact hd.elim
 |[_],_,hd=>exact hd.elim
 |[_,_],[],hd=>exact hd.elim
 |[_,_],[_],hd=>exact hd.elim
 |[_,_],_::_::_::_,hd=>exact hd.elim
 |_::_::_::_,_,hd=>exact hd.elim
theorem B9T{ts:Array TypeId}{ty:TypeId}{vs:D0q}(hd:C2V P ts.toList vs.toList k h Q):
  ∃v,(∀w,w.heap=h→(Builtin.len_ ts ty vs).run P w=.ok v w)∧k v h Q:=by
 obtain⟨ts⟩:=ts
 obtain⟨vs⟩:=vs
 simp only at hd
 unfold C2V at hd
 match ts,vs,hd with
 |[t],[x],hd=>
  simp only at hd
  cases ht:P.underlying t with
  |none=>simp only[ht] at hd;exact hd.elim
  |some d=>
  cases d with
  |string=>
   simp only[ht] at hd
   cases x<;>try exact hd.elim
   exact⟨_,fun w _=>by simp[Builtin.len_,X2 ht,goInt],hd⟩
  |slice e=>
   simp only[ht] at hd
   cases x<;>try exact hd.elim
   exact⟨_,fun w _=>by simp[Builtin.len_,X2 ht,goInt],hd⟩
  |array n e=>
   simp only[ht] at hd
   exact⟨_,fun w _=>by simp[Builtin.len_,X2 ht,goInt],hd⟩
  |map a b=>
   simp only[ht] at hd
   cases x<;>try exact hd.elim
   rename_i r
   obtain⟨es,clock,he,hq⟩:=hd
   refine⟨_,fun w hw=>?_,hq⟩
   subst hw
   cases r with
   |none=>obtain⟨rfl,-⟩:=he;simp[Builtin.len_,X2 ht,goInt]
   |some r=>
    have hg:(getObj r).run P w=.ok (.map es.toArray clock) w:=by
     have jA:w.heap[r]? =some (.map es.toArray clock):=he
     simp[getObj,Sem.run,jA]
    simp[Builtin.len_,X2 ht,goInt,hg]
  |_=>simp only[ht] at hd;exact hd.elim
 |[],_,hd=>exact hd.elim
 |[_],[],hd=>exact hd.elim
 |[_],_::_::_,hd=>exact hd.elim
 |_::_::_,_,hd=>exact hd.elim
theorem A8D{mx:Bool}{ts:Array TypeId}{ty:TypeId}{vs:D0q}(hd:A9T mx vs.toList k h Q):
  ∃v,(∀w,(if mx=true then Builtin.max_ ts ty vs else Builtin.min_ ts ty vs).run P w=.ok v w)∧k v h Q:=by
 obtain⟨vs⟩:=vs
 simp only at hd
 unfold A9T at hd
 split at hd
 ·rename_i ka a kb b
  cases hk:B1d ka kb with
  |false=>simp only[hk] at hd;exact hd.elim
  |true=>
   simp only[hk] at hd
   obtain rfl:=A73 hk
   cases mx with
   |true=>exact⟨_,fun w=>by simp[Builtin.max_,Builtin.max2],hd⟩
   |false=>exact⟨_,fun w=>by simp[Builtin.min_,Builtin.min2],hd⟩
 ·rename_i ka a kb b kc c
  cases hk:B1d ka kb&&B1d ka kc with
  |false=>simp only[hk] at hd;exact hd.elim
  |true=>
   simp only[hk] at hd
   rw[E8] at hk
   obtain rfl:=A73 hk.1
   obtain rfl:=A73 hk.2
   cases mx with
   |true=>exact⟨_,fun w=>by simp[Builtin.max_,Builtin.max2],hd⟩
   |false=>exact⟨_,fun w=>by simp[Builtin.min_,Builtin.min2],hd⟩
 ·exact hd.elim
theorem B1j{t:TypeId}{n c:Value}(hd:A8e P t n c k h Q):
  ∀w,w.heap=h→∃r w',(Instr.makeSlice t n c).run P w=.ok r w'∧A0i w w'∧k r w'.heap Q:=by
 unfold A8e at hd
 cases ht:P.underlying t with
 |none=>simp only[ht] at hd;exact hd.elim
 |some d=>
 cases d with
 |slice elem=>
  simp only[ht] at hd
  cases hi:P.info? elem with
  |none=>simp only[hi] at hd;exact hd.elim
  |some i=>
  simp only[hi] at hd
  cases hz:i.zero with
  |none=>simp only[hz] at hd;exact hd.elim
  |some z=>
  simp only[hz] at hd
  cases hb:Nat.beq z.cells.toList.length i.size with
  |false=>simp only[hb] at hd;exact hd.elim
  |true=>
  simp only[hb] at hd
  cases n<;>try exact hd.elim
  cases c<;>try exact hd.elim
  rename_i kn n kc c
  obtain⟨h0,h1,h2,h3,hq⟩:=hd
  intro w hw
  subst hw
  have hsz:z.cells.size=i.size:=by simpa using E1 hb
  refine⟨_,w.alloc (.cells (Builtin.zeroCells z.cells c.toNat) elem),?_,⟨rfl,rfl,rfl⟩,hq⟩
  have uS:IntKind.i64.wrap n=n:=by simp[IntKind.wrap,IntKind.bits,IntKind.signed];omega
  have uU:IntKind.i64.wrap c=c:=by simp[IntKind.wrap,IntKind.bits,IntKind.signed];omega
  have fK:¬(c<0):=by omega
  have eD:¬(281474976710656<(i.bytes:Int)*c):=by omega
  have vo:¬(n<0):=by omega
  have iy:¬(c<n):=by omega
  by_cases sU:c.toNat*i.size=0
  ·have:Builtin.zeroCells z.cells c.toNat=#[]:=by simp[Builtin.zeroCells,hsz,sU]
   simp[Instr.makeSlice,X2 ht,asInt,asIntOf,A83 hi,uS,uU,fK,eD,vo,iy,A0V hi,sU,newRow,this,Array.range_zero']
  ·simp only[Builtin.zeroCells,hsz]
   simp[Instr.makeSlice,X2 ht,asInt,asIntOf,A83 hi,uS,uU,fK,eD,vo,iy,A0V hi,sU,newRow,A2D hi hz,hsz]
 |_=>simp only[ht] at hd;exact hd.elim
def C63(P:Program)(kt:TypeId)(kd:TypeDesc)(key:Value):Prop:=plainKey kd=true∨(∃fs,kd=.struct fs)∧B6w P 8 kt key key=some true
theorem A4S{kt:TypeId}{kd:TypeDesc}{key:Value}{m:HM ρ}(hd:B3u P kt kd key m h Q):C63 P kt kd key∧m h Q:=by
 unfold B3u at hd
 cases hp:plainKey kd with
 |true=>simp only[hp] at hd;exact⟨.inl hp,hd⟩
 |false=>
  simp only[hp] at hd
  cases kd<;>try exact hd.elim
  exact⟨.inr ⟨⟨_,rfl⟩,hd.1⟩,hd.2⟩
theorem B7w{kt:TypeId}{kd:TypeDesc}(hk:P.underlying kt=some kd)(hp:plainKey kd=true)(e:Bool)(n:Nat)(v:Value)(w:World):
  (Instr.checkKey e (n+1) kt v).run P w=.ok () w:=by
 simp only[Instr.checkKey,Sem.run_bind,X2 hk,Result.andThen_ok]
 cases kd<;>first|(cases v<;>rfl)|cases hp
theorem run_checkKey{kt:TypeId}{kd:TypeDesc}{v:Value}(hk:P.underlying kt=some kd)(hp:C63 P kt kd v)(e:Bool)(w:World):
  (Instr.checkKey e 10000 kt v).run P w=.ok () w:=by
 rcases hp with hp|⟨-,hp⟩
 ·exact B7w hk hp e 9999 v w
 ·exact(A2j 8 hp 9992 w).2.2 e
theorem A84{kt:TypeId}{key:Value}{w:World}:∀(es:List MapEntry) (i:Nat) (o:Option (Nat×Value)),A1f (B6w P 8 kt) key es i=some o→(Instr.findAsking kt key es i).run P w=.ok o w
 |[],i,o,hf=>by
  simp only[A1f,F6] at hf
  subst hf
  rfl
 |e::es,i,o,hf=>by
  simp only[A1f] at hf
  cases hs:B6w P 8 kt key e.key with
  |none=>simp only[hs] at hf;cases hf
  |some r=>
   have h1:(Op.equal kt key e.key).run P w=.ok r w:=(A2j 8 hs 9992 w).1
   simp only[Instr.findAsking,Sem.run_bind,h1,Result.andThen_ok]
   simp only[hs] at hf
   cases r with
   |true=>
    simp only[F6] at hf
    subst hf
    rfl
   |false=>
    simp only at hf
    simpa using A84 es (i+1) o hf
theorem run_findKey{kt:TypeId}{kd:TypeDesc}(hk:P.underlying kt=some kd){key:Value}(hp:C63 P kt kd key){es:List MapEntry}{o:Option (Nat×Value)}(hf:placeOf (A6d P kt kd) key es=some o)(w:World):
  (Instr.findKey kt key es).run P w=.ok o w:=by
 rcases hp with hp|⟨⟨fs,rfl⟩,-⟩
 ·have e:A6d P kt kd=Instr.sameNow kd:=by cases kd<;>first|rfl|cases hp
  rw[e] at hf
  simp only[placeOf,B4g] at hf
  simp[Instr.findKey,X2 hk,hf]
 ·simp only[placeOf,A6d] at hf
  simp only[Instr.findKey,Sem.run_bind,X2 hk,Result.andThen_ok]
  cases es with
  |nil=>
   simp only[A1f,F6] at hf
   subst hf
   rfl
  |cons e es=>
   have:Instr.findNow (.struct fs) key (e::es) 0=none:=by simp[Instr.findNow,Instr.sameNow]
   rw[this]
   exact A84 (e::es) 0 o hf
theorem o6{w:World}{r:Nat}{o:Obj}(ho:w.heap[r]? =some o)(hc:∀a b c,o≠ .cells a b c):(getObj r).run P w=.ok o w:=by
 cases o<;>first|exact absurd rfl (hc _ _ _)|simp only[getObj,Sem.run,ho]
theorem A1w{w:World}{r:Nat}{o o':Obj}(ho:w.heap[r]? =some o)(hc:∀a b c,o≠ .cells a b c):(setObj r o').run P w=.ok () {w with heap:=w.heap.setIfInBounds r o'}:=by
 cases o<;>first|exact absurd rfl (hc _ _ _)|simp only[setObj,Sem.run,ho]
theorem B41{t:TypeId}{x key:Value}{ok:Bool}(hd:B3J P t x key ok k h Q):
  ∃v,(∀w,w.heap=h→(Instr.lookup t x key ok).run P w=.ok v w)∧k v h Q:=by
 unfold B3J at hd
 cases ht:P.underlying t with
 |none=>simp only[ht] at hd;exact hd.elim
 |some d=>
 cases d with
 |map kt et=>
  simp only[ht] at hd
  cases dP:P.underlying kt with
  |none=>simp only[dP] at hd;exact hd.elim
  |some kd=>
  simp only[dP] at hd
  have jB:=A4S hd
  clear hd
  obtain⟨hp,hd⟩:=jB
  cases x<;>try exact hd.elim
  rename_i r
  simp only at hd
  cases hi:P.info? et with
  |none=>simp only[hi] at hd;exact hd.elim
  |some i=>
  simp only[hi] at hd
  cases hz:i.zero with
  |none=>simp only[hz] at hd;exact hd.elim
  |some z=>
  simp only[hz] at hd
  cases qT:Kind.of z with
  |none=>simp only[qT] at hd;exact hd.elim
  |some ek=>
  simp only[qT] at hd
  obtain⟨es,clock,o,xx,he,hf,hv,hq⟩:=hd
  have iX:∀w,w.heap=h→(Instr.lookup t (.map r) key ok).run P w=.ok (if ok=true then .tuple #[ek.val xx,.bool o.isSome] else ek.val xx) w:=by
   intro w hw
   subst hw
   cases r with
   |none=>
    obtain⟨rfl,-⟩:=he
    simp only[placeOf,A1f,F6] at hf
    subst hf
    simp only at hv
    simp[Instr.lookup,X2 ht,run_checkKey dP hp,run_findKey dP hp (show placeOf (A6d P kt kd) key []=some none from rfl),A2D hi hz,hv]
   |some r=>
    have jA:w.heap[r]? =some (.map es.toArray clock):=he
    cases o with
    |none=>
     simp only at hv
     simp[Instr.lookup,X2 ht,o6 jA (by simp),run_checkKey dP hp,run_findKey dP hp hf,A2D hi hz,hv]
    |some ov=>
     obtain⟨j,vv⟩:=ov
     simp only at hv
     simp[Instr.lookup,X2 ht,o6 jA (by simp),run_checkKey dP hp,run_findKey dP hp hf,hv]
  cases ok with
  |true=>exact⟨_,iX,hq⟩
  |false=>exact⟨_,iX,hq⟩
 |_=>simp only[ht] at hd;exact hd.elim
theorem A8E{t:TypeId}{x key v:Value}(hd:A9U P t x key v k h Q):
  ∀w,w.heap=h→∃w',(Instr.mapUpdate t x key v).run P w=.ok () w'∧A0i w w'∧k undef w'.heap Q:=by
 unfold A9U at hd
 cases ht:P.underlying t with
 |none=>simp only[ht] at hd;exact hd.elim
 |some d=>
 cases d with
 |map kt et=>
  simp only[ht] at hd
  cases dP:P.underlying kt with
  |none=>simp only[dP] at hd;exact hd.elim
  |some kd=>
  simp only[dP] at hd
  have jB:=A4S hd
  clear hd
  obtain⟨hp,hd⟩:=jB
  cases x<;>try exact hd.elim
  rename_i r
  obtain⟨b,es,clock,o,rfl,he,hf,hq⟩:=hd
  intro w hw
  subst hw
  cases o with
  |none=>
   refine⟨{w with heap:=w.heap.setIfInBounds b (.map (es.push {key:=key,val:=v,born:=clock}) (clock+1))},?_,⟨rfl,rfl,rfl⟩,hq⟩
   simp[Instr.mapUpdate,X2 ht,o6 he (by simp),run_checkKey dP hp,run_findKey dP hp hf,A1w he (by simp)]
  |some ov=>
   obtain⟨j,vv⟩:=ov
   obtain⟨ga,iI,hq⟩:=hq
   refine⟨{w with heap:=w.heap.setIfInBounds b (.map (es.modify j fun e=>{e with key:=key,val:=v}) clock)},?_,⟨rfl,rfl,rfl⟩,hq⟩
   have tS:(Instr.keyThatStays (((es[j]?).map (·.key)).getD key) key).run P w=.ok key w:=by
    rw[ga]
    unfold Instr.keyThatStays
    rw[if_pos iI]
    rfl
   simp[Instr.mapUpdate,X2 ht,o6 he (by simp),run_checkKey dP hp,run_findKey dP hp hf,A1w he (by simp),tS]
 |_=>simp only[ht] at hd;exact hd.elim
theorem B42{ts:Array TypeId}{ty:TypeId}{vs:D0q}(hd:B3K P ts.toList vs.toList k h Q):
  ∀w,w.heap=h→∃r w',(Builtin.delete_ ts ty vs).run P w=.ok r w'∧A0i w w'∧k r w'.heap Q:=by
 obtain⟨ts⟩:=ts
 obtain⟨vs⟩:=vs
 simp only at hd
 unfold B3K at hd
 match ts,vs,hd with
 |t::tr,[x,key],hd=>
  simp only at hd
  cases ht:P.underlying t with
  |none=>simp only[ht] at hd;exact hd.elim
  |some d=>
  cases d with
  |map kt et=>
   simp only[ht] at hd
   cases dP:P.underlying kt with
   |none=>simp only[dP] at hd;exact hd.elim
   |some kd=>
   simp only[dP] at hd
   have jB:=A4S hd
   clear hd
   obtain⟨hp,hd⟩:=jB
   cases x<;>try exact hd.elim
   rename_i r
   intro w hw
   subst hw
   cases r with
   |none=>
    exact⟨_,w,by simp[Builtin.delete_,X2 ht,run_checkKey dP hp],A0i.refl w,hd⟩
   |some b=>
    obtain⟨es,clock,o,he,hf,hq⟩:=hd
    cases o with
    |none=>
     refine⟨_,{w with heap:=w.heap.setIfInBounds b (.map es clock)},?_,⟨rfl,rfl,rfl⟩,hq⟩
     simp[Builtin.delete_,X2 ht,o6 he (by simp),run_checkKey dP hp,run_findKey dP hp hf,A1w he (by simp)]
    |some ov=>
     refine⟨_,{w with heap:=w.heap.setIfInBounds b (.map (es.eraseIdxIfInBounds ov.1) clock)},?_,⟨rfl,rfl,rfl⟩,hq⟩
     simp[Builtin.delete_,X2 ht,o6 he (by simp),run_checkKey dP hp,run_findKey dP hp hf,A1w he (by simp)]
  |_=>simp only[ht] at hd;exact hd.elim
 |[],_,hd=>exact hd.elim
 |_::_,[],hd=>exact hd.elim
 |_::_,[_],hd=>exact hd.elim
 |_::_,_::_::_::_,hd=>exact hd.elim
theorem B6K{t:TypeId}{x:Value}(hd:B6L P t x k h Q):
  ∀w,w.heap=h→∃v w',(Instr.range t x).run P w=.ok v w'∧A0i w w'∧k v w'.heap Q:=by
 unfold B6L at hd
 cases ht:P.underlying t with
 |none=>simp only[ht] at hd;exact hd.elim
 |some d=>
 cases d with
 |string=>
  simp only[ht] at hd
  cases x<;>try exact hd.elim
  intro w hw
  subst hw
  rename_i s
  refine⟨_,w.alloc (.stringIter s 0),?_,⟨rfl,rfl,rfl⟩,hd⟩
  simp[Instr.range,X2 ht]
 |map kt et=>
  simp only[ht] at hd
  cases x<;>try exact hd.elim
  rename_i r
  intro w hw
  subst hw
  cases r with
  |none=>
   refine⟨_,w.alloc (.mapIter none 0 #[] 0),?_,⟨rfl,rfl,rfl⟩,hd⟩
   simp[Instr.range,X2 ht]
  |some m=>
   obtain⟨es,clock,he,hq⟩:=hd
   refine⟨_,w.alloc (.mapIter (some m) clock #[] clock),?_,⟨rfl,rfl,rfl⟩,hq⟩
   simp[Instr.range,X2 ht,o6 he (by simp)]
 |_=>simp only[ht] at hd;exact hd.elim
theorem B4F(n:Nat)(hn:0<n)(w:World):∃i w',(choose (.mapNext n)).run P w=.ok i w'∧i<n∧w'.heap=w.heap∧A0i w w':=by
 rw[run_choose]
 by_cases hf:(Question.mapNext n).forced=true
 ·exact⟨0,w,by rw[if_pos hf],hn,rfl,A0i.refl w⟩
 ·exact⟨w.tape w.drawn (.mapNext n) % n,{w with drawn:=w.drawn+1},by rw[if_neg hf];rfl,Nat.mod_lt _ hn,rfl,⟨rfl,rfl,rfl⟩⟩
theorem B7J{t:TypeId}{str:Bool}{x:Value}(hd:B9S str x k h Q):
  ∀w,w.heap=h→∃v w',(Instr.next x str t).run P w=.ok v w'∧A0i w w'∧k v w'.heap Q:=by
 unfold B9S at hd
 cases x<;>try exact hd.elim
 rename_i a
 cases a with
 |none=>exact hd.elim
 |some a=>
 obtain⟨b,off,sp⟩:=a
 simp only at hd
 cases off with
 |succ n=>exact hd.elim
 |zero=>
 simp only[show Nat.beq 0 0=true from rfl] at hd
 intro w hw
 subst hw
 cases str with
 |true=>
  obtain⟨s,pos,ho,h1,h2⟩:=hd
  by_cases hp:pos<s.size
  ·refine⟨_,{w with heap:=w.heap.setIfInBounds b (.stringIter s (pos+(Utf8.decode s pos).2))},?_,⟨rfl,rfl,rfl⟩,h1 hp⟩
   simp[Instr.next,o6 ho (by simp),hp,A1w ho (by simp),goInt]
  ·refine⟨_,w,?_,A0i.refl w,h2 hp⟩
   simp[Instr.next,o6 ho (by simp),hp]
 |false=>
  simp only at hd
  obtain⟨m,since,seen,last,ho,hd⟩:=hd
  cases m with
  |none=>
   refine⟨_,w,?_,A0i.refl w,hd⟩
   simp[Instr.next,o6 ho (by simp)]
  |some m=>
   obtain⟨es,clock,he,hc,h1,h2⟩:=hd
   have gd:(!seen.isEmpty && !es.isEmpty &&es.all (fun e=>decide (e.born≥last)))=false:=hc
   let left:=es.filter fun e=> !seen.contains e.born
   let cand:=(if(left.filter (fun e=>decide (e.born<since))).isEmpty then #[none] else #[])++(left.filter (fun e=>decide (e.born<since))++left.filter (fun e=>decide (e.born≥since))).map some
   have qY:0<cand.size:=by
    simp only[cand]
    by_cases hz:(left.filter (fun e=>decide (e.born<since))).isEmpty=true
    ·simp[hz];omega
    ·have:left.filter (fun e=>decide (e.born<since))≠#[]:=by simpa using hz
     have:=Array.size_pos_iff.2 this
     simp only[Array.size_append,Array.size_map]
     omega
   obtain⟨i,w',hr,hi,hh,hs⟩:=B4F (P:=P) cand.size qY w
   have bN:cand[i]? =some cand[i]:=F7 hi
   have jK:(Instr.next (.pointer (some ⟨b,0,sp⟩)) false t).run P w=(match cand[i]? with
     |some (some e)=>do setObj b (.mapIter (some m) since (seen.push e.born) clock);pure (.tuple #[.bool true,e.key,e.val])
     |some none=>pure (.tuple #[.bool false])
     |none=>stuck "Next: no such candidate" :Sem Value).run P w':=by
    simp only[Instr.next,Sem.run_bind,o6 ho (by simp),Result.andThen_ok,o6 he (by simp),gd,H7,if_false]
    show((choose (.mapNext cand.size)).run P w).andThen _=_
    rw[hr]
    rfl
   rw[bN] at jK
   cases hx:cand[i] with
   |none=>
    rw[hx] at jK
    refine⟨_,w',jK.trans rfl,hs,?_⟩
    rw[hh]
    refine h1 fun e lD lk=>?_
    have an:none∈cand:=hx▸Array.getElem_mem hi
    simp only[cand,Array.mem_append,Array.mem_map,reduceCtorEq,and_false,exists_false,or_false] at an
    split at an
    ·rename_i hz
     have oK:left.filter (fun e=>decide (e.born<since))=#[]:=by simpa using hz
     by_cases ah:e.born<since
     ·have:e∈left.filter (fun e=>decide (e.born<since)):=by simp[left,lD,ah];simpa using lk
      rw[oK] at this
      simp at this
     ·omega
    ·simp at an
   |some e=>
    rw[hx] at jK
    have an:some e∈cand:=hx▸Array.getElem_mem hi
    have qS:e∈left:=by
     simp only[cand,Array.mem_append,Array.mem_map,F6,exists_eq_right] at an
     rcases an with an|an
     ·split at an<;>simp at an
     ·rcases an with an|an<;>exact(Array.mem_filter.1 an).1
    have qR:=Array.mem_filter.1 qS
    have hq:=h2 e qR.1 (by simpa using qR.2)
    have fC:w'.heap[b]? =some (.mapIter (some m) since seen last):=by rw[hh];exact ho
    refine⟨.tuple #[.bool true,e.key,e.val],{w' with heap:=w'.heap.setIfInBounds b (.mapIter (some m) since (seen.push e.born) clock)},jK.trans ?_,⟨hs.os,hs.tape,hs.output⟩,?_⟩
    ·simp only[Sem.run_bind,A1w fC (by simp),Result.andThen_ok]
     rfl
    ·simpa[hh,A2Q] using hq
theorem B6R{ka kb:Kind}{x:Value}(hd:B6S ka kb x k h Q):∃v,(∀w,w.heap=h→(Instr.entry x).run P w=.ok v w)∧k v h Q:=by
 unfold B6S at hd
 cases x<;>try exact hd.elim
 rename_i a
 cases a with
 |none=>exact hd.elim
 |some a=>
 obtain⟨b,off,sp⟩:=a
 simp only at hd
 cases off with
 |succ n=>exact hd.elim
 |zero=>
 simp only[show Nat.beq 0 0=true from rfl] at hd
 obtain⟨m,since,seen,stepped,es,stamp,e,kx,vx,ho,hb,he,hf,e1,e2,hq⟩:=hd
 refine⟨_,fun w hw=>?_,hq⟩
 subst hw
 have bS:(stepped !=stepped)=false:=by simp
 simp[Instr.entry,o6 ho (by simp),o6 he (by simp),hb,hf,e1,e2]
theorem B2K{t:TypeId}{x key:Value}(hd:A9t P t x key k h Q):
  ∀w,w.heap=h→∃v w',(Instr.mapEntry t x key).run P w=.ok v w'∧A0i w w'∧k v w'.heap Q:=by
 unfold A9t at hd
 cases ht:P.underlying t with
 |none=>simp only[ht] at hd;exact hd.elim
 |some d=>
 cases d with
 |map kt et=>
  simp only[ht] at hd
  cases dP:P.underlying kt with
  |none=>simp only[dP] at hd;exact hd.elim
  |some kd=>
  simp only[dP] at hd
  have jB:=A4S hd
  clear hd
  obtain⟨hp,hd⟩:=jB
  cases x<;>try exact hd.elim
  rename_i r
  simp only at hd
  cases hi:P.info? et with
  |none=>simp only[hi] at hd;exact hd.elim
  |some i=>
  simp only[hi] at hd
  cases hz:i.zero with
  |none=>simp only[hz] at hd;exact hd.elim
  |some z=>
  simp only[hz] at hd
  cases qT:Kind.of z with
  |none=>simp only[qT] at hd;exact hd.elim
  |some ek=>
  simp only[qT] at hd
  obtain⟨b,es,clock,o,rfl,he,hf,hq⟩:=hd
  intro w hw
  subst hw
  cases o with
  |none=>
   obtain⟨x,hx,hq⟩:=hq
   refine⟨.tuple #[ek.val x,.int .i64 clock],{w with heap:=w.heap.setIfInBounds b (.map (es.push {key:=key,val:=z,born:=clock}) (clock+1))},?_,⟨rfl,rfl,rfl⟩,hq⟩
   simp[Instr.mapEntry,X2 ht,o6 he (by simp),run_checkKey dP hp,run_findKey dP hp hf,A1w he (by simp),A2D hi hz,goInt,←hx]
  |some ov=>
   obtain⟨j,vv⟩:=ov
   obtain⟨ga,iI,x,hx,hq⟩:=hq
   refine⟨.tuple #[ek.val x,.int .i64 ((((es[j]?).map (·.born)).getD 0:Nat):Int)],{w with heap:=w.heap.setIfInBounds b (.map (es.modify j fun e=>{e with key:=key}) clock)},?_,⟨rfl,rfl,rfl⟩,hq⟩
   have tS:(Instr.keyThatStays (((es[j]?).map (·.key)).getD key) key).run P w=.ok key w:=by
    rw[ga]
    unfold Instr.keyThatStays
    rw[if_pos iI]
    rfl
   simp[Instr.mapEntry,X2 ht,o6 he (by simp),run_checkKey dP hp,run_findKey dP hp hf,A1w he (by simp),tS,goInt,←hx]
   cases es[j]? <;>simp
 |_=>simp only[ht] at hd;exact hd.elim
theorem B0h{t:TypeId}{x stamp v:Value}(hd:A6B x stamp v k h Q):
  ∀w,w.heap=h→∃w',(Instr.entryStore t x stamp v).run P w=.ok () w'∧A0i w w'∧k undef w'.heap Q:=by
 unfold A6B at hd
 cases x<;>try exact hd.elim
 simp only at hd
 cases stamp<;>try exact hd.elim
 rename_i r kd n
 obtain⟨b,es,clock,i,rfl,he,hf,hq⟩:=hd
 intro w hw
 subst hw
 refine⟨{w with heap:=w.heap.setIfInBounds b (.map (es.modify i fun e=>{e with val:=v}) clock)},?_,⟨rfl,rfl,rfl⟩,hq⟩
 simp[Instr.entryStore,o6 he (by simp),asInt,asIntOf,hf,A1w he (by simp)]
end
end
section
section
variable {P:Program} {ρ:Type} {k:Value→HM ρ} {h:Heap} {Q:ρ→Heap→Prop}
theorem B55:∀{l:List Nat} {n:Nat},A5N n l=true→n∈l
 |[],_,h=>by cases h
 |t::ts,n,h=>by
  simp only[A5N] at h
  cases hb:Nat.beq t n with
  |true=>rw[E1 hb];exact B6 ..
  |false=>rw[hb] at h;exact C2 _ (B55 h)
theorem B5u{c:Call}{ev:Operand→Value}{o:Oper}{f:FuncId}{first captured:D0q}{x:Operand}(ho:o.op=.call c)(hc:c.callee=.value x)
  (hx:ev x=.func (.func f) first captured)(hf:A1H P f)(w:World):(execOp ev o).run P w=.ok (.enter f (first++c.args.map ev++captured)) w:=by
 have:=hf (first++c.args.map ev++captured) w
 rw[Array.append_assoc] at this⊢
 simp[execOp,ho,resolve,hc,hx,Deferred.ofValue,invoke,this]
theorem A2V{c:Call}{ev:Operand→Value}{o:Oper}{b:Builtin}(ho:o.op=.call c)(hc:c.callee=.builtin b)(w:World):
  (execOp ev o).run P w=(builtin b c.argTypes o.type (c.args.map fun|.const _=>true|_=>false) (c.args.map ev)).run P w:=by
 simp only[execOp,ho,Sem.run_bind]
 simp only[resolve,hc,Sem.run_pure,Result.andThen_ok,invoke]
 rfl
theorem B7K{C:List Nat}{c:Call}{ev:Operand→Value}{o:Oper}{f:FuncId}{vs:D0r}(hC:∀f,f∈C→A1H P f)(ho:o.op=.call c)(hc:c.callee=.value (.func f))
  (pc:ev (.func f)=.func (.func f) #[] #[])(dr:c.args.map ev=vs.toArray)(hd:B9V P C o.type (.func (.func f) #[] #[]) vs k h Q):A3C P (execOp ev o) h fun v h'=>k v h' Q:=by
 intro w hw
 subst hw
 simp only[B9V] at hd
 cases hm:A5N f C with
 |false=>simp only[hm] at hd;exact hd.elim
 |true=>
 simp only[hm] at hd
 rw[B5u ho hc pc (hC f (B55 hm)) w,dr]
 refine⟨A0i.refl w,?_⟩
 have e1:(#[]++vs.toArray++#[]:D0q)=((#[]:D0q).toList++(vs++(#[]:D0q).toList)).toArray:=by simp
 rw[e1]
 cases hr:C3x P o.type with
 |none=>simp only[hr] at hd;exact hd.elim
 |some r=>
  cases r with
  |one kd=>
   simp only[hr] at hd
   exact V9.mono (Q:=fun v h'=>∃x,v=kd.val x∧k (kd.val x) h' Q) hd fun v h' ⟨x,hx,hq⟩=>by subst hx;exact hq
  |many ks=>
   simp only[hr] at hd
   exact V9.mono (Q:=fun v h'=>∃x,v=.tuple (s6.cC ks x).toArray∧k (.tuple (s6.cC ks x).toArray) h' Q) hd fun v h' ⟨x,hx,hq⟩=>by subst hx;exact hq
theorem A5z{c:Call}{ev:Operand→Value}{o:Oper}{x:Operand}{vs:D0r}(ho:o.op=.call c)(hc:c.callee=.value x)
  (dr:c.args.map ev=vs.toArray)(hd:B6V P o.type (ev x) vs k h Q):A3C P (execOp ev o) h fun v h'=>k v h' Q:=by
 intro w hw
 subst hw
 unfold B6V at hd
 cases hr:C3x P o.type with
 |none=>simp only[hr] at hd;exact hd.elim
 |some r=>
  cases r with
  |one kd=>
   simp only[hr] at hd
   obtain⟨f,first,captured,hx,hf,hd⟩:=hd
   rw[B5u ho hc hx hf w,dr]
   exact⟨A0i.refl w,V9.mono hd fun v h' ⟨x,hx,hq⟩=>by subst hx;exact hq⟩
  |many ks=>
   simp only[hr] at hd
   obtain⟨f,first,captured,hx,hf,hd⟩:=hd
   rw[B5u ho hc hx hf w,dr]
   exact⟨A0i.refl w,V9.mono hd fun v h' ⟨x,hx,hq⟩=>by subst hx;exact hq⟩
theorem B7I{n:Nat}{e:Env}{d:Dec}{a:Act}(hA:A0B n e a)(hD:A3c d a){o:Oper}{c x y:Operand}(ho:o.op=.pick c x y)(hd:B9R e d c x y k h Q):
  ∃v,Stat P (execOp a.eval o) v∧k v h Q:=by
 unfold B9R at hd
 cases c with
 |tmp t=>
  simp only at hd
  have iX:∀b w,a.eval (.tmp t)=.bool b→(execOp a.eval o).run P w=.ok (.value (if b=true then a.eval x else a.eval y)) w:=by
   intro b w hb
   simp[execOp,ho,hb,asBool]
  cases hg:d.get t with
  |some b=>
   have hb:a.eval (.tmp t)=.bool b:=by
    have:=hD t b hg
    simp[Act.eval,this]
   cases b with
   |true=>
    simp only[hg] at hd
    cases hx:e.ev x with
    |none=>simp only[hx] at hd;exact hd.elim
    |some v=>
     simp only[hx] at hd
     exact⟨v,fun w=>by rw[iX true w hb,hA.ev hx];rfl,hd⟩
   |false=>
    simp only[hg] at hd
    cases hx:e.ev y with
    |none=>simp only[hx] at hd;exact hd.elim
    |some v=>
     simp only[hx] at hd
     exact⟨v,fun w=>by rw[iX false w hb,hA.ev hx];rfl,hd⟩
  |none=>
   simp only[hg] at hd
   cases hu:e.ev (.tmp t) with
   |none=>simp only[hu] at hd;exact hd.elim
   |some u=>
   simp only[hu] at hd
   cases u<;>try exact hd.elim
   rename_i u
   cases hv:e.ev x with
   |none=>simp only[hv] at hd;exact hd.elim
   |some v=>
   simp only[hv] at hd
   cases v<;>try exact hd.elim
   rename_i v
   cases hz:e.ev y with
   |none=>simp only[hz] at hd;exact hd.elim
   |some z=>
   simp only[hz] at hd
   cases z<;>try exact hd.elim
   rename_i z
   exact⟨_,fun w=>by rw[iX u w (hA.ev hu),hA.ev hv,hA.ev hz];cases u<;>rfl,hd⟩
 |_=>exact hd.elim
theorem B6T{ts:Array TypeId}{ty:TypeId}{vs:D0q}(hd:B6U P ts.toList vs.toList k h Q):
  ∀w,w.heap=h→∃r w',(Builtin.clear_ ts ty vs).run P w=.ok r w'∧A0i w w'∧k r w'.heap Q:=by
 obtain⟨ts⟩:=ts
 obtain⟨vs⟩:=vs
 simp only at hd
 unfold B6U at hd
 match ts,vs,hd with
 |[t],[x],hd=>
  simp only at hd
  cases ht:P.underlying t with
  |none=>simp only[ht] at hd;exact hd.elim
  |some d=>
  cases d with
  |slice elem=>
   simp only[ht] at hd
   cases x<;>try exact hd.elim
   rename_i a n c
   simp only at hd
   cases hi:P.info? elem with
   |none=>simp only[hi] at hd;exact hd.elim
   |some i=>
   simp only[hi] at hd
   cases hz:i.zero with
   |none=>simp only[hz] at hd;exact hd.elim
   |some z=>
   simp only[hz] at hd
   intro w hw
   subst hw
   cases a with
   |none=>
    exact⟨_,w,by simp[Builtin.clear_,X2 ht],A0i.refl w,hd⟩
   |some a=>
    have jh:(if n=0 then(fun(_:Unit) (h:Heap)=>k (.tuple #[]) h Q) () w.heap else _):=hd
    by_cases hn:n=0
    ·subst hn
     rw[if_pos rfl] at jh
     exact⟨_,w,by simp[Builtin.clear_,X2 ht],A0i.refl w,jh⟩
    ·rw[if_neg hn] at jh
     obtain⟨h1,h2⟩:=jh
     obtain⟨w',hr,hs,hh⟩:=A2c (P:=P) a (Builtin.zeroCells z.cells n).toList 0 w (fun j v hj=>by rw[M9];exact h1 j v hj)
     refine⟨.tuple #[],w',?_,hs,by rw[hh];exact h2⟩
     cases n with
     |zero=>exact absurd rfl hn
     |succ n=>simp[Builtin.clear_,X2 ht,A2D hi hz,hr]
  |map kt et=>
   simp only[ht] at hd
   cases x<;>try exact hd.elim
   rename_i r
   intro w hw
   subst hw
   cases r with
   |none=>exact⟨_,w,by simp[Builtin.clear_,X2 ht],A0i.refl w,hd⟩
   |some b=>
    obtain⟨es,clock,he,hq⟩:=hd
    refine⟨_,{w with heap:=w.heap.setIfInBounds b (.map #[] clock)},?_,⟨rfl,rfl,rfl⟩,hq⟩
    simp[Builtin.clear_,X2 ht,o6 he (by simp),A1w he (by simp)]
  |_=>simp only[ht] at hd;exact hd.elim
 |[],_,hd=>exact hd.elim
 |[_],[],hd=>exact hd.elim
 |_::_::_,[],hd=>exact hd.elim
 |[_],_::_::_,hd=>exact hd.elim
 |_::_::_,[_],hd=>exact hd.elim
 |_::_::_,_::_::_,hd=>exact hd.elim
theorem A0a.cW{c:Cls}{s:Sem Next}{Φ:Value→Heap→Prop}(hc:c=.cW)(hd:A3C P s h Φ):A0a P c s h Φ:=by subst hc;exact hd
theorem A0a.stat{c:Cls}{s:Sem Next}{Φ:Value→Heap→Prop}(hc:c=.stat)(hd:∃v,Stat P s v∧Φ v h):A0a P c s h Φ:=by subst hc;exact hd
theorem A0a.read{c:Cls}{s:Sem Next}{Φ:Value→Heap→Prop}(hc:c=.read)(hd:∃v,A2J P s h v∧Φ v h):A0a P c s h Φ:=by subst hc;exact hd
theorem B6W{n:Nat}{e:Env}{a:Act}{o:Oper}{c:Call}{b:Builtin}{vs:D0r}(ho:o.op=.call c)(hc:c.callee=.builtin b)
  (dr:c.args.map a.eval=vs.toArray)(hd:B1m P b c.argTypes.toList vs k h Q):A0a P (z8 P o.op) (execOp a.eval o) h fun v h'=>k v h' Q:=by
 have nL:(c.args.map a.eval).toList=vs:=by rw[dr]
 rw[←nL] at hd
 unfold B1m at hd
 cases b<;>try exact hd.elim
 case len=>
  refine A0a.read (by simp[z8,ho,hc]) ?_
  obtain⟨v,hv,hq⟩:=B9T (ty:=o.type) hd
  exact⟨v,fun w hw=>by rw[A2V ho hc];simp[builtin,hv w hw],hq⟩
 all_goals refine A0a.cW (by simp[z8,ho,hc]) ?_
 all_goals intro w hw
 case append=>
  obtain⟨r,w',hr,hs,hq⟩:=B43 (ty:=o.type) hd w hw
  rw[A2V ho hc]
  have:(builtin .append c.argTypes o.type (c.args.map fun|.const _=>true|_=>false) (c.args.map a.eval)).run P w=.ok (.value r) w':=by simp[builtin,hr]
  rw[this];exact⟨hs,hq⟩
 case delete=>
  obtain⟨r,w',hr,hs,hq⟩:=B42 (ty:=o.type) hd w hw
  rw[A2V ho hc]
  have:(builtin .delete c.argTypes o.type (c.args.map fun|.const _=>true|_=>false) (c.args.map a.eval)).run P w=.ok (.value r) w':=by simp[builtin,hr]
  rw[this];exact⟨hs,hq⟩
 case clear=>
  obtain⟨r,w',hr,hs,hq⟩:=B6T (ty:=o.type) hd w hw
  rw[A2V ho hc]
  have:(builtin .clear c.argTypes o.type (c.args.map fun|.const _=>true|_=>false) (c.args.map a.eval)).run P w=.ok (.value r) w':=by simp[builtin,hr]
  rw[this];exact⟨hs,hq⟩
 case max=>
  obtain⟨v,hv,hq⟩:=A8D (P:=P) (ts:=c.argTypes) (ty:=o.type) hd
  rw[A2V ho hc]
  have:(builtin .max c.argTypes o.type (c.args.map fun|.const _=>true|_=>false) (c.args.map a.eval)).run P w=.ok (.value v) w:=by
   have:=hv w;simp at this;simp[builtin,this]
  rw[this];exact⟨A0i.refl w,by rw[hw];exact hq⟩
 case min=>
  obtain⟨v,hv,hq⟩:=A8D (P:=P) (ts:=c.argTypes) (ty:=o.type) hd
  rw[A2V ho hc]
  have:(builtin .min c.argTypes o.type (c.args.map fun|.const _=>true|_=>false) (c.args.map a.eval)).run P w=.ok (.value v) w:=by
   have:=hv w;simp at this;simp[builtin,this]
  rw[this];exact⟨A0i.refl w,by rw[hw];exact hq⟩
theorem B8K{C:List Nat}(hC:∀f,f∈C→A1H P f){n:Nat}{e:Env}{d:Dec}{a:Act}(hA:A0B n e a)(hD:A3c d a){o:Oper}(hd:C1l P C e d o k h Q):
  A0a P (z8 P o.op) (execOp a.eval o) h fun v h'=>k v h' Q:=by
 unfold C1l at hd
 cases ho:o.op<;>simp only[ho] at hd<;>try exact hd.elim
 case move x=>
  cases hx:e.ev x with
  |none=>simp only[hx] at hd;exact hd.elim
  |some v=>
   simp only[hx] at hd
   exact A0a.stat rfl ⟨v,fun w=>by simp[execOp,ho,hA.ev hx],hd⟩
 case assign x=>
  cases hx:e.ev x with
  |none=>simp only[hx] at hd;exact hd.elim
  |some v=>
   simp only[hx] at hd
   exact A0a.stat rfl ⟨v,fun w=>by simp[execOp,ho,hA.ev hx],hd⟩
 case pick c x y=>exact A0a.stat rfl (B7I hA hD ho hd)
 case alloc t=>
  have:=A3C.eF (Φ:=fun v h'=>k v h' Q) (B6Z hd)
  exact A0a.cW rfl (by simpa[execOp,ho] using this)
 case box t x=>
  cases hx:e.ev x with
  |none=>simp only[hx] at hd;exact hd.elim
  |some v=>
   simp only[hx] at hd
   have:=A3C.eF (Φ:=fun v h'=>k v h' Q) (B9W hd)
   exact A0a.cW rfl (by simpa[execOp,ho,hA.ev hx] using this)
 case build t ps=>
  cases hx:A6g e ps.toList with
  |none=>simp only[hx] at hd;exact hd.elim
  |some vs=>
   simp only[hx] at hd
   have hp:=hA.parts hx
   have dv:ps.map (fun(i,x)=>(i,a.eval x))=vs.toArray:=by apply I8.1;simpa using hp
   obtain⟨v,hv,hq⟩:=B6X (ps:=vs.toArray) (by simpa using hd)
   refine A0a.stat rfl ⟨v,?_,hq⟩
   have:=Stat.of hv
   simpa[execOp,ho,dv] using this
 case buildSlice t m ps=>
  cases hx:A6g e ps.toList with
  |none=>simp only[hx] at hd;exact hd.elim
  |some vs=>
   simp only[hx] at hd
   have hp:=hA.parts hx
   have dv:ps.map (fun(i,x)=>(i,a.eval x))=vs.toArray:=by apply I8.1;simpa using hp
   have:=A3C.eF (Φ:=fun v h'=>k v h' Q) (B0i (ps:=vs.toArray) (by simpa using hd))
   exact A0a.cW rfl (by simpa[execOp,ho,dv] using this)
 case load t x=>
  cases hx:e.ev x with
  |none=>simp only[hx] at hd;exact hd.elim
  |some v=>
   simp only[hx] at hd
   obtain⟨u,hu,hq⟩:=B0F hd
   refine A0a.read rfl ⟨u,?_,hq⟩
   have:=A2J.of hu
   simpa[execOp,ho,hA.ev hx] using this
 case store t x y=>
  cases hx:e.ev x with
  |none=>simp only[hx] at hd;exact hd.elim
  |some v=>
  simp only[hx] at hd
  cases hy:e.ev y with
  |none=>simp only[hy] at hd;exact hd.elim
  |some u=>
   simp only[hy] at hd
   have:=A3C.fH (Φ:=fun v h'=>k v h' Q) (B6G hd)
   exact A0a.cW rfl (by simpa[execOp,ho,hA.ev hx,hA.ev hy] using this)
 case nilCheck x=>
  cases hx:e.ev x with
  |none=>simp only[hx] at hd;exact hd.elim
  |some v=>
   simp only[hx] at hd
   rw[←hA.ev hx] at hd
   exact A0a.stat rfl (B2J ho hd)
 case binOp op t x y t2=>
  cases hx:e.ev x with
  |none=>simp only[hx] at hd;exact hd.elim
  |some v=>
  simp only[hx] at hd
  cases hy:e.ev y with
  |none=>simp only[hy] at hd;exact hd.elim
  |some u=>
   simp only[hy] at hd
   obtain⟨r,hr,hq⟩:=B9X (xo:=x) (fun c hc=>by subst hc;simp only[Env.ev,F6] at hy;exact hy.symm) hd
   refine A0a.stat rfl ⟨r,?_,hq⟩
   have:=Stat.of hr
   simpa[execOp,ho,hA.ev hx,hA.ev hy] using this
 case unOp op t x=>
  cases hx:e.ev x with
  |none=>simp only[hx] at hd;exact hd.elim
  |some v=>
   simp only[hx] at hd
   obtain⟨r,hr,hq⟩:=C1k (P:=P) hd
   refine A0a.stat rfl ⟨r,?_,hq⟩
   have:=Stat.of hr
   simpa[execOp,ho,hA.ev hx] using this
 case convert s t x=>
  cases hx:e.ev x with
  |none=>simp only[hx] at hd;exact hd.elim
  |some v=>
   simp only[hx] at hd
   obtain⟨r,hr,hq⟩:=B3L hd
   simp only[z8]
   split
   ·rename_i kd hk
    refine⟨r,?_,hq⟩
    have:=Stat.of (fun w=>hr w (.inr ⟨kd,hk⟩))
    simpa[execOp,ho,hA.ev hx] using this
   ·refine A3C.eP (v:=r) ?_ hq
    have:=A2J.of (fun w hw=>hr w (.inl hw))
    simpa[execOp,ho,hA.ev hx] using this
 case mapEntry t x y=>
  cases hx:e.ev x with
  |none=>simp only[hx] at hd;exact hd.elim
  |some v=>
  simp only[hx] at hd
  cases hy:e.ev y with
  |none=>simp only[hy] at hd;exact hd.elim
  |some u=>
   simp only[hy] at hd
   have:=A3C.eF (Φ:=fun v h'=>k v h' Q) (B2K hd)
   exact A0a.cW rfl (by simpa[execOp,ho,hA.ev hx,hA.ev hy] using this)
 case entryStore t x y z=>
  cases hx:e.ev x with
  |none=>simp only[hx] at hd;exact hd.elim
  |some v=>
  simp only[hx] at hd
  cases hy:e.ev y with
  |none=>simp only[hy] at hd;exact hd.elim
  |some u=>
  simp only[hy] at hd
  cases hz:e.ev z with
  |none=>simp only[hz] at hd;exact hd.elim
  |some u'=>
   simp only[hz] at hd
   have:=A3C.fH (P:=P) (Φ:=fun v h'=>k v h' Q) (B0h (P:=P) (t:=t) hd)
   exact A0a.cW rfl (by simpa[execOp,ho,hA.ev hx,hA.ev hy,hA.ev hz] using this)
 case range t x=>
  cases hx:e.ev x with
  |none=>simp only[hx] at hd;exact hd.elim
  |some v=>
   simp only[hx] at hd
   have:=A3C.eF (Φ:=fun v h'=>k v h' Q) (B6K hd)
   exact A0a.cW rfl (by simpa[execOp,ho,hA.ev hx] using this)
 case next x str=>
  cases hx:e.ev x with
  |none=>simp only[hx] at hd;exact hd.elim
  |some v=>
   simp only[hx] at hd
   have:=A3C.eF (P:=P) (Φ:=fun v h'=>k v h' Q) (B7J (P:=P) (t:=o.type) hd)
   exact A0a.cW rfl (by simpa[execOp,ho,hA.ev hx] using this)
 case makeInterface t x=>
  cases hx:e.ev x with
  |none=>simp only[hx] at hd;exact hd.elim
  |some v=>
   simp only[hx] at hd
   refine A0a.stat rfl ?_
   cases ht:P.underlying t with
   |none=>simp only[ht] at hd;exact hd.elim
   |some dd=>
    simp only[ht] at hd
    cases dd<;>first
     |exact hd.elim
     |exact⟨_,fun w=>by simp[execOp,ho,hA.ev hx,Instr.makeInterface,X2 ht],hd⟩
 case makeFunc fn first captured=>
  cases hx:e.eR first.toList with
  |none=>simp only[hx] at hd;exact hd.elim
  |some vs=>
  simp only[hx] at hd
  cases hy:e.eR captured.toList with
  |none=>simp only[hy] at hd;exact hd.elim
  |some us=>
   simp only[hy] at hd
   refine A0a.stat rfl ⟨_,fun w=>?_,hd⟩
   simp[execOp,ho,hA.dT hx,hA.dT hy,Instr.makeFunc]
 case makeMap t r=>
  cases r with
  |some r=>exact hd.elim
  |none=>
   refine A0a.cW rfl ?_
   intro w hw
   subst hw
   have:(execOp a.eval o).run P w=.ok (.value (.map (some w.heap.size))) (w.alloc (.map #[] 0)):=by simp[execOp,ho,Instr.makeMap]
   rw[this]
   exact⟨⟨rfl,rfl,rfl⟩,hd⟩
 case makeSlice t x y=>
  cases hx:e.ev x with
  |none=>simp only[hx] at hd;exact hd.elim
  |some v=>
  simp only[hx] at hd
  cases hy:e.ev y with
  |none=>simp only[hy] at hd;exact hd.elim
  |some u=>
   simp only[hy] at hd
   have:=A3C.eF (Φ:=fun v h'=>k v h' Q) (B1j hd)
   exact A0a.cW rfl (by simpa[execOp,ho,hA.ev hx,hA.ev hy] using this)
 case slice t x lo hi mx=>
  cases hx:e.ev x with
  |none=>simp only[hx] at hd;exact hd.elim
  |some v=>
  simp only[hx] at hd
  cases hl:A7O e lo with
  |none=>simp only[hl] at hd;exact hd.elim
  |some l=>
  simp only[hl] at hd
  cases hh:A7O e hi with
  |none=>simp only[hh] at hd;exact hd.elim
  |some u=>
  simp only[hh] at hd
  cases hm:A7O e mx with
  |none=>simp only[hm] at hd;exact hd.elim
  |some m=>
   simp only[hm] at hd
   obtain⟨r,hr,hq⟩:=B6I (A7N hA hl) (A7N hA hh) (A7N hA hm) hd
   refine A0a.stat rfl ⟨r,?_,hq⟩
   have:=Stat.of hr
   simpa[execOp,ho,hA.ev hx] using this
 case fieldAddr t x f=>
  cases hx:e.ev x with
  |none=>simp only[hx] at hd;exact hd.elim
  |some v=>
   simp only[hx] at hd
   obtain⟨r,hr,hq⟩:=B1l hd
   refine A0a.stat rfl ⟨r,?_,hq⟩
   have:=Stat.of hr
   simpa[execOp,ho,hA.ev hx] using this
 case field t x f=>
  cases hx:e.ev x with
  |none=>simp only[hx] at hd;exact hd.elim
  |some v=>
   simp only[hx] at hd
   obtain⟨r,hr,hq⟩:=B6P hd
   refine A0a.stat rfl ⟨r,?_,hq⟩
   have:=Stat.of hr
   simpa[execOp,ho,hA.ev hx] using this
 case indexAddr t x y=>
  cases hx:e.ev x with
  |none=>simp only[hx] at hd;exact hd.elim
  |some v=>
  simp only[hx] at hd
  cases hy:e.ev y with
  |none=>simp only[hy] at hd;exact hd.elim
  |some u=>
   simp only[hy] at hd
   obtain⟨r,hr,hq⟩:=B1k hd
   refine A0a.stat rfl ⟨r,?_,hq⟩
   have:=Stat.of hr
   simpa[execOp,ho,hA.ev hx,hA.ev hy] using this
 case index t x y=>
  cases hx:e.ev x with
  |none=>simp only[hx] at hd;exact hd.elim
  |some v=>
  simp only[hx] at hd
  cases hy:e.ev y with
  |none=>simp only[hy] at hd;exact hd.elim
  |some u=>
   simp only[hy] at hd
   obtain⟨r,hr,hq⟩:=B6N hd
   refine A0a.stat rfl ⟨r,?_,hq⟩
   have:=Stat.of hr
   simpa[execOp,ho,hA.ev hx,hA.ev hy] using this
 case lookup t x y ok=>
  cases hx:e.ev x with
  |none=>simp only[hx] at hd;exact hd.elim
  |some v=>
  simp only[hx] at hd
  cases hy:e.ev y with
  |none=>simp only[hy] at hd;exact hd.elim
  |some u=>
   simp only[hy] at hd
   obtain⟨r,hr,hq⟩:=B41 hd
   refine A0a.read rfl ⟨r,?_,hq⟩
   have:=A2J.of hr
   simpa[execOp,ho,hA.ev hx,hA.ev hy] using this
 case mapUpdate t x y z=>
  cases hx:e.ev x with
  |none=>simp only[hx] at hd;exact hd.elim
  |some v=>
  simp only[hx] at hd
  cases hy:e.ev y with
  |none=>simp only[hy] at hd;exact hd.elim
  |some u=>
  simp only[hy] at hd
  cases hz:e.ev z with
  |none=>simp only[hz] at hd;exact hd.elim
  |some u'=>
   simp only[hz] at hd
   have:=A3C.fH (Φ:=fun v h'=>k v h' Q) (A8E hd)
   exact A0a.cW rfl (by simpa[execOp,ho,hA.ev hx,hA.ev hy,hA.ev hz] using this)
 case insert t x y z=>
  cases hx:e.ev x with
  |none=>simp only[hx] at hd;exact hd.elim
  |some v=>
  simp only[hx] at hd
  cases hy:e.ev y with
  |none=>simp only[hy] at hd;exact hd.elim
  |some u=>
  simp only[hy] at hd
  cases hz:e.ev z with
  |none=>simp only[hz] at hd;exact hd.elim
  |some u'=>
   simp only[hz] at hd
   have:=A3C.fH (Φ:=fun v h'=>k v h' Q) (A8E hd)
   exact A0a.cW rfl (by simpa[execOp,ho,hA.ev hx,hA.ev hy,hA.ev hz] using this)
 case extract x i=>
  cases hx:e.ev x with
  |none=>simp only[hx] at hd;exact hd.elim
  |some v=>
   cases v<;>simp only[hx] at hd<;>try exact hd.elim
   rename_i vs
   cases hi:vs.toList[i]? with
   |none=>simp only[hi] at hd;exact hd.elim
   |some u=>
    simp only[hi] at hd
    refine A0a.stat rfl ⟨u,fun w=>?_,hd⟩
    have kE:vs[i]? =some u:=by simpa using hi
    simp[execOp,ho,hA.ev hx,Instr.extract,kE]
 case call c=>
  cases hx:e.eR c.args.toList with
  |none=>simp only[hx] at hd;exact hd.elim
  |some vs=>
   simp only[hx] at hd
   have dr:=hA.dT hx
   cases hc:c.callee with
   |builtin b=>
    simp only[hc] at hd
    have:=B6W (n:=n) (e:=e) ho hc dr hd
    rwa[ho] at this
   |invoke x m=>simp only[hc] at hd;exact hd.elim
   |value x=>
    refine A0a.cW (by simp[z8,hc]) ?_
    cases x with
    |func f=>
     simp only[hc] at hd
     exact B7K hC ho hc rfl dr hd
    |tmp t=>
     simp only[hc] at hd
     cases hv:e.ev (.tmp t) with
     |none=>simp only[hv] at hd;exact hd.elim
     |some v=>
      simp only[hv] at hd
      rw[←hA.ev hv] at hd
      exact A5z ho hc dr hd
    |const v=>
     simp only[hc] at hd
     exact A5z (x:=.const v) ho hc dr hd
    |global g=>
     simp only[hc] at hd
     exact A5z (x:=.global g) ho hc dr hd
theorem C2T{C:List Nat}(hC:∀f,f∈C→A1H P f){n:Nat}{e:Env}{d:Dec}{a:Act}(hA:A0B n e a)(hD:A3c d a){ops:Array Oper}{o:Oper}(hd:B6M P C ops e d o k h Q):
  A0a P (z8 P o.op) (execOp a.eval o) h fun v h'=>k v h' Q:=by
 have key:(∃x,o.op=.entry x)∨B6M P C ops e d o k=C1l P C e d o k:=by
  unfold B6M
  cases o.op<;>first|exact .inr rfl|exact .inl ⟨_,rfl⟩
 rcases key with⟨x,ho⟩|key
 ·unfold B6M at hd
  simp only[ho] at hd
  cases hx:e.ev x with
  |none=>simp only[hx] at hd;exact hd.elim
  |some v=>
   simp only[hx] at hd
   obtain⟨r,hr,hq⟩:=B6R (P:=P) hd
   refine A0a.cW (by rw[ho];rfl) (A3C.eP (v:=r) ?_ hq)
   have:=A2J.of hr
   simpa[execOp,ho,hA.ev hx] using this
 ·rw[key] at hd
  exact B8K hC hA hD hd
end
end
section
section
variable {P:Program} {ops:Array Oper} {b:Array Nat} {Φ:Act→Heap→Prop}
theorem A3C.mono{s:Sem Next}{h:Heap}{Ψ Ψ':Value→Heap→Prop}(hd:A3C P s h Ψ)(hp:∀v h',Ψ v h'→Ψ' v h'):A3C P s h Ψ':=by
 intro w hw
 have:=hd w hw
 revert this
 cases s.run P w with
 |halt x w'=>exact id
 |ok n w'=>
  cases n<;>first
   |exact fun hh=>⟨hh.1,hp _ _ hh.2⟩
   |exact fun hh=>⟨hh.1,V9.mono hh.2 hp⟩
   |exact id
def want(ops:Array Oper)(o:Oper)(a:Act):Bool:=Region.wanted o (yielded ops a.tmps)
def C33(P:Program)(ops:Array Oper)(i:Nat)(v:Value)(a:Act)(h:Heap):Prop:=∃o,ops[i]? =some o∧A2J P (execOp a.eval o) h v
def y8(P:Program)(ops:Array Oper)(b:Array Nat)(draw:Bool)(K:A1J→Act→Heap→Prop)(j:Nat)(dn:A1J)(a:Act)(h:Heap):Prop:=
 match ops[j]? with
  |none=>False
  |some o=>if want ops o a=true then
    match z8 P o.op with
    |.stat=>∃v,Stat P (execOp a.eval o) v∧K dn (a.put o.dst v) h
    |.read=>∃v,A2J P (execOp a.eval o) h v∧K ((j,v)::dn) (a.put o.dst v) h
    |.cW=>A3C P (execOp a.eval o) h fun v h'=>(draw=true→∀i v',(i,v')∈dn→(b.getD j 0).testBit i=false→C33 P ops i v' (a.put o.dst v) h')∧K dn (a.put o.dst v) h'
   else K dn (a.put o.dst undef) h
def C7W(K:A1J→Act→Heap→Prop):Prop:=∀(dn dn':A1J) (a:Act) (h:Heap),(∀p,p∈dn'→p∈dn)→K dn a h→K dn' a h
theorem y8.imp{K K':A1J→Act→Heap→Prop}{draw:Bool}{j:Nat}{dn:A1J}{a:Act}{h:Heap}(hi:∀dn a h,K dn a h→K' dn a h)(hl:y8 P ops b draw K j dn a h):y8 P ops b draw K' j dn a h:=by
 unfold y8 at hl⊢
 cases ho:ops[j]? with
 |none=>simp only[ho] at hl
 |some o=>
  simp only[ho] at hl⊢
  by_cases hw:want ops o a=true
  ·rw[if_pos hw] at hl⊢
   cases hc:z8 P o.op with
   |stat=>
    simp only[hc] at hl⊢
    obtain⟨v,hv,hr⟩:=hl
    exact⟨v,hv,hi _ _ _ hr⟩
   |read=>
    simp only[hc] at hl⊢
    obtain⟨v,hv,hr⟩:=hl
    exact⟨v,hv,hi _ _ _ hr⟩
   |cW=>
    simp only[hc] at hl⊢
    exact hl.mono fun v h' ⟨h1,h2⟩=>⟨h1,hi _ _ _ h2⟩
  ·rw[if_neg hw] at hl⊢
   exact hi _ _ _ hl
theorem y8.eW{K:A1J→Act→Heap→Prop}{draw:Bool}{j:Nat}(hK:C7W K):C7W (y8 P ops b draw K j):=by
 intro dn dn' a h hs hl
 unfold y8 at hl⊢
 cases ho:ops[j]? with
 |none=>simp only[ho] at hl
 |some o=>
  simp only[ho] at hl⊢
  by_cases hw:want ops o a=true
  ·rw[if_pos hw] at hl⊢
   cases hc:z8 P o.op with
   |stat=>
    simp only[hc] at hl⊢
    obtain⟨v,hv,hr⟩:=hl
    exact⟨v,hv,hK _ _ _ _ hs hr⟩
   |read=>
    simp only[hc] at hl⊢
    obtain⟨v,hv,hr⟩:=hl
    refine⟨v,hv,hK _ _ _ _ (fun p hp=>?_) hr⟩
    cases hp with
    |head=>exact B6 ..
    |tail _ hp=>exact C2 _ (hs p hp)
   |cW=>
    simp only[hc] at hl⊢
    exact hl.mono fun v h' ⟨h1,h2⟩=>⟨fun hd i v' hi=>h1 hd i v' (hs _ hi),hK _ _ _ _ hs h2⟩
  ·rw[if_neg hw] at hl⊢
   exact hK _ _ _ _ hs hl
def A41(P:Program)(ops:Array Oper)(b:Array Nat)(draw:Bool)(Φ:Act→Heap→Prop):A4w→A1J→Act→Heap→Prop
 |.done,_,a,h=>Φ a h
 |.q j t,dn,a,h=>y8 P ops b draw (A41 P ops b draw Φ t) j dn a h
 |.br js f,dn,a,h=>∀j,j∈js→y8 P ops b draw (A41 P ops b draw Φ (f j)) j dn a h
theorem A41.eW{draw:Bool}:∀(t:A4w),C7W (A41 P ops b draw Φ t)
 |.done=>fun _ _ _ _ _ hl=>hl
 |.q j t=>y8.eW (A41.eW t)
 |.br js f=>fun dn dn' a h hs hl j hj=>y8.eW (A41.eW (f j)) dn dn' a h hs (hl j hj)
theorem A41.imp{Φ':Act→Heap→Prop}{draw:Bool}(hi:∀a h,Φ a h→Φ' a h):∀(t:A4w) (dn:A1J) (a:Act) (h:Heap),A41 P ops b draw Φ t dn a h→A41 P ops b draw Φ' t dn a h
 |.done,_,_,_,hl=>hi _ _ hl
 |.q j t,dn,a,h,hl=>y8.imp (A41.imp hi t) hl
 |.br js f,dn,a,h,hl=>fun j hj=>y8.imp (A41.imp hi (f j)) (hl j hj)
def YX(P:Program)(ops:Array Oper)(o:Oper)(a:Act)(h:Heap)(v:Value):Prop:=
 (want ops o a=true∧A2J P (execOp a.eval o) h v∧(z8 P o.op=.stat→Stat P (execOp a.eval o) v))∨(want ops o a=false∧v=undef)
def B3x:Cls→Bool
 |.read=>true
 |_=>false
def ext(P:Program)(ops:Array Oper)(j:Nat)(o:Oper)(a:Act)(v:Value)(dn:A1J):A1J:=
 match want ops o a&&B3x (z8 P o.op) with
 |true=>(j,v)::dn
 |false=>dn
theorem B9u{j:Nat}{o:Oper}{a:Act}{v:Value}{dn:A1J}{p:Nat×Value}:p∈ext P ops j o a v dn↔p∈dn∨((want ops o a&&B3x (z8 P o.op))=true∧p=(j,v)):=by
 unfold ext
 cases hh:want ops o a&&B3x (z8 P o.op) with
 |true=>
  simp only[D3]
  constructor
  ·rintro(h|h)
   ·exact .inr ⟨trivial,h⟩
   ·exact .inl h
  ·rintro(h|⟨-,h⟩)
   ·exact .inr h
   ·exact .inl h
 |false=>simp
theorem y8.quiet{K:A1J→Act→Heap→Prop}{draw:Bool}{j:Nat}{o:Oper}(ho:ops[j]? =some o)(hc:z8 P o.op≠ .cW){dn:A1J}{a:Act}{h:Heap}:
  y8 P ops b draw K j dn a h↔∃v,YX P ops o a h v∧K (ext P ops j o a v dn) (a.put o.dst v) h:=by
 conv=>lhs;unfold y8
 simp only[ho]
 by_cases hw:want ops o a=true
 ·rw[if_pos hw]
  cases bg:z8 P o.op with
  |stat=>
   simp only[YX,ext,bg,B3x,hw,Bool.and_false]
   constructor
   ·rintro⟨v,hv,hr⟩
    exact⟨v,.inl ⟨trivial,fun w _=>hv w,fun _=>hv⟩,hr⟩
   ·rintro⟨v,hv|hv,hr⟩
    ·exact⟨v,hv.2.2 trivial,hr⟩
    ·exact absurd hv.1 (by simp)
  |read=>
   simp only[YX,ext,bg,B3x,hw,Bool.and_true]
   constructor
   ·rintro⟨v,hv,hr⟩
    exact⟨v,.inl ⟨trivial,hv,fun hh=>by cases hh⟩,hr⟩
   ·rintro⟨v,hv|hv,hr⟩
    ·exact⟨v,hv.2.1,hr⟩
    ·exact absurd hv.1 (by simp)
  |cW=>exact absurd bg hc
 ·rw[if_neg hw]
  have jN:want ops o a=false:=by simpa using hw
  simp only[YX,ext,jN,K8]
  constructor
  ·intro hr
   exact⟨undef,.inr ⟨trivial,rfl⟩,hr⟩
  ·rintro⟨v,hv|hv,hr⟩
   ·exact absurd hv.1 (by simp)
   ·obtain⟨-,rfl⟩:=hv;exact hr
theorem B96{o:Oper}{a:Act}{dst:Option Tmp}{v:Value}(h:∀d,dst=some d→d∉o.looksAt ops):want ops o (a.put dst v)=want ops o a:=wanted_put o a dst v h
theorem YX.congr{o:Oper}{a a':Act}{h:Heap}{v:Value}(he:execOp a'.eval o=execOp a.eval o)(hw:want ops o a'=want ops o a)(hy:YX P ops o a h v):YX P ops o a' h v:=by
 unfold YX at*
 rw[he,hw]
 exact hy
theorem y8.swap{K:A1J→Act→Heap→Prop}(hK:C7W K){draw:Bool}{i j:Nat}{x y:Oper}(qV:draw=true)(hx:ops[i]? =some x)(hy:ops[j]? =some y)(mn:x.apart ops y=true)(qe:∀cs b,x.op≠ .select cs b)(qd:∀cs b,y.op≠ .select cs b)
  (kF:z8 P x.op≠ .cW)(hb:(b.getD j 0).testBit i=false)(fu:∀d,x.dst=some d→d∉x.looksAt ops){dn:A1J}{a:Act}{h:Heap}
  (er:∀p,p∈dn→∀o,ops[p.1]? =some o→(∀cs b,o.op≠ .select cs b)∧∀d,x.dst=some d→d∉o.looksAt ops)
  (hl:y8 P ops b draw (y8 P ops b draw K j) i dn a h):y8 P ops b draw (y8 P ops b draw K i) j dn a h:=by
 obtain⟨h1,h2,h3⟩:=Oper.apart_spec mn
 obtain⟨v,hv,hl⟩:=(y8.quiet hx kF).1 hl
 have ey:execOp (a.put x.dst v).eval y=execOp a.eval y:=execOp_put y qd a x.dst v h1
 have wy:want ops y (a.put x.dst v)=want ops y a:=B96 h1
 have kx:∀u,execOp (a.put y.dst u).eval x=execOp a.eval x:=fun u=>execOp_put x qe a y.dst u h3
 have wx:∀u,want ops x (a.put y.dst u)=want ops x a:=fun u=>B96 h3
 have eh:∀u,(a.put x.dst v).put y.dst u=(a.put y.dst u).put x.dst v:=fun u=>Act.put_comm a v u h2
 by_cases um:z8 P y.op=.cW
 ·unfold y8 at hl⊢
  simp only[hy] at hl⊢
  rw[wy] at hl
  by_cases hw:want ops y a=true
  ·rw[if_pos hw] at hl⊢
   simp only[um] at hl⊢
   rw[ey] at hl
   refine hl.mono fun u h' ⟨vV,fw⟩=>⟨fun hd p v' hp xU=>?_,?_⟩
   ·have dv:(p,v')∈ext P ops i x a v dn:=by
     unfold ext;split
     ·exact C2 _ hp
     ·exact hp
    obtain⟨o,ho,hr⟩:=vV hd p v' dv xU
    obtain⟨tj,ay⟩:=er _ hp o ho
    rw[eh u] at hr
    rw[execOp_put o tj (a.put y.dst u) x.dst v ay] at hr
    exact⟨o,ho,hr⟩
   ·refine(y8.quiet hx kF).2 ⟨v,?_,?_⟩
    ·rcases hv with⟨rP,fb,aa⟩|⟨rP,wY⟩
     ·refine .inl ⟨by rw[wx];exact rP,?_,fun hs=>by rw[kx];exact aa hs⟩
      cases bg:z8 P x.op with
      |stat=>rw[kx];exact fun w _=>aa bg w
      |cW=>exact absurd bg kF
      |read=>
       have dv:(i,v)∈ext P ops i x a v dn:=by
        unfold ext;rw[rP,bg];exact B6 ..
       obtain⟨o,ho,hr⟩:=vV qV i v dv hb
       rw[hx] at ho
       cases ho
       rw[eh u,execOp_put x qe (a.put y.dst u) x.dst v fu] at hr
       exact hr
     ·exact .inr ⟨by rw[wx];exact rP,wY⟩
    ·rw[←eh u]
     have:ext P ops i x (a.put y.dst u) v dn=ext P ops i x a v dn:=by unfold ext;rw[wx]
     rw[this]
     exact fw
  ·rw[if_neg hw] at hl⊢
   refine(y8.quiet hx kF).2 ⟨v,hv.congr (kx _) (wx _),?_⟩
   rw[←eh]
   have:ext P ops i x (a.put y.dst undef) v dn=ext P ops i x a v dn:=by unfold ext;rw[wx]
   rw[this]
   exact hl
 ·obtain⟨u,hu,hl⟩:=(y8.quiet hy um).1 hl
  refine(y8.quiet hy um).2 ⟨u,hu.congr ey.symm wy.symm,(y8.quiet hx kF).2 ⟨v,hv.congr (kx _) (wx _),?_⟩⟩
  rw[←eh u]
  refine hK _ _ _ _ (fun p hp=>?_) hl
  have e1:ext P ops i x (a.put y.dst u) v (ext P ops j y a u dn)=ext P ops i x a v (ext P ops j y a u dn):=by unfold ext;rw[wx]
  have e2:ext P ops j y (a.put x.dst v) u (ext P ops i x a v dn)=ext P ops j y a u (ext P ops i x a v dn):=by unfold ext;rw[wy]
  rw[e1] at hp
  rw[e2]
  rw[B9u,B9u] at hp⊢
  rcases hp with(hp|hp)|hp
  ·exact .inl (.inl hp)
  ·exact .inr hp
  ·exact .inl (.inr hp)
def C9a(P:Program)(ops:Array Oper)(b:Array Nat)(i j:Nat):Prop:=
 ∃x y,ops[i]? =some x∧ops[j]? =some y∧i≠j∧((b.getD j 0).testBit i=true∧(z8 P x.op=.read→∀d,y.dst=some d→d∉x.looksAt ops)∨
  (b.getD j 0).testBit i=false∧z8 P x.op≠ .cW∧x.apart ops y=true)
theorem B3X{x y:Oper}(h:B81 ops x y=true):∀d,y.dst=some d→d∉x.looksAt ops:=by
 intro d hd hm
 simp only[B81,hd] at h
 simp[hm] at h
theorem A9G:∀{l:List Nat} {n:Nat},A5N n l=true→n∈l
 |t::l,n,h=>by
  simp only[A5N] at h
  cases hb:Nat.beq t n with
  |true=>rw[E1 hb];exact B6 ..
  |false=>simp only[hb] at h;exact C2 _ (A9G h)
theorem A1m{j:Nat}:∀{l:List Nat} {i:Nat},i∈A1B j l↔i∈l∧i≠j
 |[],i=>by simp[A1B]
 |x::l,i=>by
  simp only[A1B]
  cases hb:Nat.beq x j with
  |true=>
   have hx:=E1 hb
   subst hx
   simp only[A1m (l:=l),D3]
   constructor
   ·rintro⟨h1,h2⟩;exact⟨.inr h1,h2⟩
   ·rintro⟨h1|h1,h2⟩
    ·exact absurd h1 h2
    ·exact⟨h1,h2⟩
  |false=>
   have hx:x≠j:=Nat.ne_of_beq_eq_false hb
   simp only[D3,A1m (l:=l)]
   constructor
   ·rintro(h1|⟨h1,h2⟩)
    ·subst h1;exact⟨.inl rfl,hx⟩
    ·exact⟨.inr h1,h2⟩
   ·rintro⟨h1|h1,h2⟩
    ·exact .inl h1
    ·exact .inr ⟨h1,h2⟩
theorem A9r{j:Nat}:∀{l:List Nat},l.Nodup→(A1B j l).Nodup
 |[],h=>h
 |x::l,h=>by
  rw[G0] at h
  simp only[A1B]
  cases hb:Nat.beq x j with
  |true=>exact A9r h.2
  |false=>rw[G0];exact⟨fun hm=>h.1 (A1m.1 hm).1,A9r h.2⟩
theorem B6F{j:Nat}:∀{l:List Nat},j∉l→A1B j l=l
 |[],_=>rfl
 |x::l,h=>by
  simp only[D3,not_or] at h
  simp only[A1B]
  cases hb:Nat.beq x j with
  |true=>exact absurd (E1 hb).symm h.1
  |false=>rw[B6F h.2]
theorem B2G{j:Nat}:∀{l:List Nat},l.Nodup→j∈l→(A1B j l).length+1=l.length
 |x::l,h,hm=>by
  rw[G0] at h
  simp only[A1B]
  cases hb:Nat.beq x j with
  |true=>
   have hx:=E1 hb
   subst hx
   rw[B6F h.1]
   rfl
  |false=>
   have hx:x≠j:=Nat.ne_of_beq_eq_false hb
   rcases D3.1 hm with e|hm
   ·exact absurd e.symm hx
   ·simp only[B7,B2G h.2 hm]
def B7m(P:Program)(ops:Array Oper)(b:Array Nat):A4w→List Nat→Prop
 |.done,R=>R=[]
 |.q j t,R=>(∃x,ops[j]? =some x∧z8 P x.op≠ .cW∧∀d,x.dst=some d→d∉x.looksAt ops)∧j∈R∧(∀i∈A1B j R,C9a P ops b j i)∧B7m P ops b t (A1B j R)
 |.br js f,R=>js≠[]∧(∀j∈js,j∈R∧(∃x,ops[j]? =some x∧z8 P x.op=.cW)∧B7m P ops b (f j) (A1B j R))∧∀i∈R,i∈js∨∃x∈R,(b.getD i 0).testBit x=true
theorem B2q{j:Nat}{x:Oper}(hx:ops[j]? =some x):B2r P ops j=true↔z8 P x.op=.cW:=by
 have dS:ops.toList[j]? =some x:=by simpa using hx
 unfold B2r
 simp only[dS]
 cases z8 P x.op<;>simp
theorem B1f:∀(t:A4w) (R:List Nat),B6o P ops b t R=true→B7m P ops b t R
 |.done,R,h=>by simpa[B6o,B7m] using h
 |.q j t,R,h=>by
  simp only[B6o,E8] at h
  obtain⟨h1,h2⟩:=h
  cases hx:ops.toList[j]? with
  |none=>simp only[hx] at h1;cases h1
  |some x=>
   have dS:ops[j]? =some x:=by simpa using hx
   simp only[hx,E8] at h1
   obtain⟨⟨⟨h3,h4⟩,h5⟩,h6⟩:=h1
   refine⟨⟨x,dS,fun hc=>?_,B3X h5⟩,A9G h3,fun i hi=>?_,B1f t _ h2⟩
   ·rw[(B2q dS).2 hc] at h4;cases h4
   ·have h7:=J1.1 h6 i hi
    cases hy:ops.toList[i]? with
    |none=>simp only[hy] at h7;cases h7
    |some y=>
     simp only[hy] at h7
     refine⟨x,y,dS,by simpa using hy,fun he=>(A1m.1 hi).2 he.symm,?_⟩
     unfold C5T at h7
     cases hb:(b.getD i 0).testBit j with
     |true=>
      simp only[hb] at h7
      refine .inl ⟨rfl,fun hr=>?_⟩
      simp only[hr] at h7
      exact B3X h7
     |false=>
      simp only[hb] at h7
      refine .inr ⟨rfl,?_,?_⟩
      ·intro hr;simp only[hr] at h7;cases h7
      ·cases hc:z8 P x.op<;>simp only[hc] at h7<;>first|exact h7|cases h7
 |.br js f,R,h=>by
  simp only[B6o,E8,J1] at h
  refine⟨fun e=>?_,fun j hj=>?_,fun i hi=>?_⟩
  ·have:=h.1.1;rw[e] at this;cases this
  ·obtain⟨⟨h1,h2⟩,h3⟩:=h.1.2 j hj
   refine⟨A9G h1,?_,B1f (f j) _ h3⟩
   cases hx:ops.toList[j]? with
   |none=>simp[B2r,hx] at h2
   |some x=>exact⟨x,by simpa using hx,(B2q (by simpa using hx)).1 h2⟩
  ·have:=h.2 i hi
   rw[Bool.or_eq_true] at this
   rcases this with h1|h1
   ·exact .inl (A9G h1)
   ·obtain⟨x,hx,hb⟩:=List.any_eq_true.1 h1
    exact .inr ⟨x,hx,hb⟩
def C66(ops:Array Oper)(dn:A1J)(l:List Nat):Prop:=
 ∀p,p∈dn→∀o,ops[p.1]? =some o→∀k,k∈l→∀x,ops[k]? =some x→∀d,x.dst=some d→d∉o.looksAt ops
theorem A41.pull(hs:Region.noSelect ops=true){i:Nat}:∀(t:A4w) (R:List Nat),B7m P ops b t R→i∈R→(∀x∈R,(b.getD i 0).testBit x=false)→
  ∃t' o,B7m P ops b t' (A1B i R)∧ops[i]? =some o∧(z8 P o.op=.read→∀k∈A1B i R,∀z,ops[k]? =some z→∀d,z.dst=some d→d∉o.looksAt ops)∧
   ∀(dn:A1J) (a:Act) (h:Heap),C66 ops dn R→A41 P ops b true Φ t dn a h→y8 P ops b true (A41 P ops b true Φ t') i dn a h
 |.done,R,hg,hi,_=>by rw[show R=[] from hg] at hi;cases hi
 |.br js f,R,hg,hi,hm=>by
  rcases hg.2.2 i hi with h1|⟨x,hx,hb⟩
  ·obtain⟨-,⟨o,ho,hc⟩,aP⟩:=hg.2.1 i h1
   exact⟨f i,o,aP,ho,(fun hr=>by rw[hc] at hr;cases hr),fun dn a h _ hl=>hl i h1⟩
  ·rw[hm x hx] at hb;cases hb
 |.q j t,R,hg,hi,hm=>by
  obtain⟨⟨x,hx,kF,fu⟩,rV,gx,vJ⟩:=hg
  by_cases oa:i=j
  ·subst oa
   refine⟨t,x,vJ,hx,fun hr k hk z hz d hd=>?_,fun dn a h _ hl=>hl⟩
   obtain⟨x1,z1,gK,dz,-,gy⟩:=gx k hk
   rw[hx] at gK;cases gK
   rw[hz] at dz;cases dz
   rcases gy with⟨-,ei⟩|⟨-,-,mn⟩
   ·exact ei hr d hd
   ·exact(Oper.apart_spec mn).2.2 d hd
  ·have kE:i∈A1B j R:=A1m.2 ⟨hi,oa⟩
   obtain⟨t',o,ua,ho,qh,dU⟩:=A41.pull hs t (A1B j R) vJ kE (fun y hy=>hm y (A1m.1 hy).1)
   have eh:∀R:List Nat,A1B i (A1B j R)=A1B j (A1B i R):=by
    intro R
    induction R with
    |nil=>rfl
    |cons y R ih=>
     simp only[A1B]
     cases h1:Nat.beq y j<;>cases h2:Nat.beq y i<;>simp only[A1B,h1,h2,ih]
   obtain⟨x1,o1,gK,vn,bS,gy⟩:=gx i kE
   rw[hx] at gK;cases gK
   rw[ho] at vn;cases vn
   have mn:x.apart ops o=true:=by
    rcases gy with⟨hb,-⟩|⟨-,-,mn⟩
    ·rw[hm j rV] at hb;cases hb
    ·exact mn
   refine⟨.q j t',o,⟨⟨x,hx,kF,fu⟩,A1m.2 ⟨rV,fun e=>oa e.symm⟩,fun k hk=>gx k ?_,?_⟩,ho,fun hr k hk z hz d hd=>?_,fun dn a h er hl=>?_⟩
   ·rw[←eh] at hk;exact(A1m.1 hk).1
   ·rw[←eh];exact ua
   ·by_cases vE:k=j
    ·subst vE
     rw[hx] at hz;cases hz
     exact(Oper.apart_spec mn).1 d hd
    ·exact qh hr k (by rw[eh];exact A1m.2 ⟨hk,vE⟩) z hz d hd
   ·refine y8.swap (A41.eW t') rfl hx ho mn (fun cs bb=>Region.noSelect_spec hs j x cs bb hx) (fun cs bb=>Region.noSelect_spec hs i o cs bb ho) kF (hm j rV) fu (fun p hp o' fC=>⟨fun cs bb=>Region.noSelect_spec hs p.1 o' cs bb fC,fun d hd=>er p hp o' fC j rV x hx d hd⟩) ?_
    obtain⟨v,hv,hq⟩:=(y8.quiet hx kF).1 hl
    refine(y8.quiet hx kF).2 ⟨v,hv,dU _ _ _ ?_ hq⟩
    intro p ir o' fC k hk z hz d hd
    rcases B9u.1 ir with ir|⟨kC,rfl⟩
    ·exact er p ir o' fC k (A1m.1 hk).1 z hz d hd
    ·rw[hx] at fC;cases fC
     have tu:z8 P x.op=.read:=by
      simp only[E8] at kC
      cases hc:z8 P x.op<;>simp[hc,B3x] at kC⊢
     obtain⟨x1,z1,gK,dz,-,gy⟩:=gx k hk
     rw[hx] at gK;cases gK
     rw[hz] at dz;cases dz
     rcases gy with⟨-,ei⟩|⟨-,-,uy⟩
     ·exact ei tu d hd
     ·exact(Oper.apart_spec uy).2.2 d hd
theorem B1s{Qx:Exit→Act→World→Prop}{K:A1J→Act→Heap→Prop}{draw:Bool}{i:Nat}{dn:A1J}{a:Act}{w:World}(hl:y8 P ops b draw K i dn a w.heap):
  wpOp P ops Qx i (fun a' w'=>A0i w w'∧∃dn',(∀p,p∈dn'→p∈dn∨∃o,ops[i]? =some o∧z8 P o.op=.read∧p.1=i)∧K dn' a' w'.heap) a w:=by
 unfold y8 at hl
 cases ho:ops[i]? with
 |none=>simp only[ho] at hl
 |some o=>
  simp only[ho] at hl
  unfold wpOp
  simp only[ho]
  by_cases hw:want ops o a=true
  ·have jN:Region.wanted o (yielded ops a.tmps)=true:=hw
   rw[if_pos hw] at hl
   rw[if_pos jN]
   left
   unfold Oper.wp
   cases hc:z8 P o.op with
   |stat=>
    simp only[hc] at hl
    obtain⟨v,hv,hr⟩:=hl
    rw[hv w]
    exact⟨A0i.refl w,dn,fun p hp=>.inl hp,hr⟩
   |read=>
    simp only[hc] at hl
    obtain⟨v,hv,hr⟩:=hl
    rw[hv w rfl]
    refine⟨A0i.refl w,_,fun p hp=>?_,hr⟩
    cases hp with
    |head=>exact .inr ⟨o,rfl,hc,rfl⟩
    |tail _ hp=>exact .inl hp
   |cW=>
    simp only[hc] at hl
    have:=hl w rfl
    revert this
    cases(execOp a.eval o).run P w with
    |halt x w'=>exact fun hh=>hh.elim
    |ok n w'=>
     cases n<;>first
      |exact fun hh=>hh.elim
      |exact fun hh=>⟨hh.1,dn,fun p hp=>.inl hp,hh.2.2⟩
      |skip
     rename_i f args
     intro hh
     refine Calls.mono (hh.2 w' rfl) ?_
     rintro e w'' ⟨v,rfl,gk,h1,h2⟩
     exact⟨hh.1.trans gk,dn,fun p hp=>.inl hp,h2⟩
  ·have jN:¬Region.wanted o (yielded ops a.tmps)=true:=hw
   rw[if_neg hw] at hl
   rw[if_neg jN]
   exact⟨A0i.refl w,dn,fun p hp=>.inl hp,hl⟩
theorem B1r{Qx:Exit→Act→World→Prop}{draw:Bool}{w0:World}(hQ:∀a w',A0i w0 w'→Φ a w'.heap→Qx .normal a w'):∀(l:List Nat) (dn:A1J) (a:Act) (w:World),A0i w0 w→
  A41 P ops b draw Φ (.ofList l) dn a w.heap→wpOps P ops Qx l a w
 |[],_,a,w,hs,hl=>hQ a w hs hl
 |i::t,dn,a,w,hs,hl=>by
  rw[wpOps_cons]
  exact wpOp_mono (fun a' w' ⟨h1,dn',_,h2⟩=>B1r hQ t dn' a' w' (hs.trans h1) h2) (B1s (K:=A41 P ops b draw Φ (.ofList t)) hl)
theorem B8C(acc:Array Nat):∀(l:List Edge) (s x:Nat),(l.foldl (fun s e=>if Region.binds .any e then s|||2 ^ e.on|||acc.getD e.on 0 else s) s).testBit x=true→
  s.testBit x=true∨∃e∈l,Region.binds .any e=true∧(e.on=x∨(acc.getD e.on 0).testBit x=true)
 |[],s,x,h=>.inl h
 |e::l,s,x,h=>by
  simp only[I4] at h
  rcases B8C acc l _ x h with h|⟨e',jA,hb,gy⟩
  ·by_cases hb:Region.binds .any e=true
   ·rw[if_pos hb] at h
    simp only[Nat.testBit_or,Bool.or_eq_true,Nat.testBit_two_pow] at h
    rcases h with(h|h)|h
    ·exact .inl h
    ·exact .inr ⟨e,B6 ..,hb,.inl (by simpa using h)⟩
    ·exact .inr ⟨e,B6 ..,hb,.inr h⟩
   ·rw[if_neg hb] at h
    exact .inl h
  ·exact .inr ⟨e',C2 _ jA,hb,gy⟩
def C68(ops:Array Oper)(acc:Array Nat):Prop:=∀(j x:Nat),(acc.getD j 0).testBit x=true→∃o:Oper,ops[j]? =some o∧∃e∈o.after,Region.binds .any e=true∧(e.on=x∨(acc.getD e.on 0).testBit x=true)
theorem C1w(ops:Array Oper):C68 ops (Region.before ops):=by
 unfold Region.before
 have:=Array.foldl_induction (as:=ops) (motive:=fun k acc=>acc.size=k∧C68 ops acc) (init:=(#[]:Array Nat))
  (f:=fun acc o=>acc.push (o.after.foldl (fun s e=>if Region.binds .any e then s|||2 ^ e.on|||acc.getD e.on 0 else s) 0)) ?_ ?_
 ·exact this.2
 ·exact⟨rfl,fun j x h=>by simp at h⟩
 ·rintro k acc ⟨hsz,hB⟩
  refine⟨by simp[hsz],fun j x h=>?_⟩
  have lift:∀(v:Nat) m,(acc.getD m 0).testBit x=true→((acc.push v).getD m 0).testBit x=true:=by
   intro v m hm
   have ah:m<acc.size:=by
    rcases U0 m acc.size with hh|hh
    ·exact hh
    ·simp[R5 hh] at hm
   have:(acc.push v)[m]? =acc[m]? :=by rw[N4,if_neg (by omega)]
   simp only[G4,this] at hm⊢
   exact hm
  rcases Nat.lt_trichotomy j acc.size with hj|hj|hj
  ·have hold:(acc.getD j 0).testBit x=true:=by
    simp only[G4] at h⊢
    rwa[N4,if_neg (by omega)] at h
   obtain⟨o,ho,e,he,hb,gy⟩:=hB j x hold
   exact⟨o,ho,e,he,hb,gy.imp id (lift _ _)⟩
  ·subst hj
   have hk:ops[acc.size]? =some ops[k]:=by rw[hsz];exact F7 k.2
   refine⟨_,hk,?_⟩
   simp only[G4,N4,if_true,Option.getD_some] at h
   rw[←Array.foldl_toList] at h
   rcases B8C acc _ 0 x (by simpa only[G4] using h) with h0|⟨e,he,hb,gy⟩
   ·simp at h0
   ·exact⟨e,by simpa using he,hb,gy.imp id (lift _ _)⟩
  ·simp only[G4] at h
   rw[R5 (by simp;omega)] at h
   simp at h
theorem C1x(h:C27 ops=true):(∀(j:Nat) (o:Oper),ops[j]? =some o→∀e∈o.after,Region.binds .any e=true→e.on<j)∧Region.noSelect ops=true:=by
 unfold C27 at h
 rw[J1] at h
 have key:∀(j:Nat) (o:Oper),ops[j]? =some o→(o.after.toList.all (fun e=> !(Region.binds .any e)||Nat.blt e.on j)&& !(match o.op with|.select .. =>true|_=>false))=true:=by
  intro j o ho
  refine h (o,j) ?_
  rw[List.mem_zipIdx_iff_getElem?]
  simpa using ho
 refine⟨fun j o ho e he hb=>?_,?_⟩
 ·have:=key j o ho
  simp only[E8,J1] at this
  have h1:=this.1 e (by simpa using he)
  rw[hb] at h1
  exact Nat.blt_eq.mp (by simpa using h1)
 ·unfold Region.noSelect
  rw[Array.all_eq_true_iff_forall_mem]
  intro o ho
  obtain⟨j,hj,rfl⟩:=Array.mem_iff_getElem.1 ho
  have:=key j ops[j] (F7 hj)
  simp only[E8] at this
  have h2:=this.2
  cases xn:ops[j].op<;>simp[xn] at h2⊢
theorem B7q{Qx:Exit→Act→World→Prop}{w0:World}(hQ:∀a w',A0i w0 w'→Φ a w'.heap→Qx .normal a w')(hB:C68 ops b)
  (bV:∀(j:Nat) (o:Oper),ops[j]? =some o→∀e∈o.after,Region.binds .any e=true→e.on<j)(qu:Region.noSelect ops=true):
  ∀(n:Nat) (t:A4w) (l:List Nat) (listed:Array Bool) (dn:A1J) (a:Act) (w:World),l.length=n→A0i w0 w→l.Nodup→B7m P ops b t l→C66 ops dn l→
   listed.size=ops.size→(∀i,i∈l↔listed[i]? =some false)→(∀m,listed[m]? =some true→∀x,(b.getD m 0).testBit x=true→listed[x]? =some true)→
   A41 P ops b true Φ t dn a w.heap→wpAny P .any ops Qx n listed a w:=by
 intro n
 induction n with
 |zero=>
  intro t l listed dn a w hn hs au bz er hsz an bg hl
  have:l=[]:=L8.1 hn
  subst this
  have bC:Φ a w.heap:=by
   cases t with
   |done=>exact hl
   |q j t=>exact absurd bz.2.1 (by simp)
   |br js f=>
    cases js with
    |nil=>exact absurd rfl bz.1
    |cons j js=>exact absurd (bz.2.1 j (B6 ..)).1 (by simp)
  refine⟨?_,hQ a w hs bC⟩
  rw[List.eq_nil_iff_forall_not_mem]
  intro i hi
  obtain⟨h0,o,ho,_⟩:=mem_ready.1 hi
  have ah:i<listed.size:=by rw[hsz];exact(F9.1 ho).1
  have:listed[i]? =some false:=by
   rw[F7 ah]
   simp only[G4,F7 ah,Option.getD_some] at h0
   rw[h0]
  exact absurd ((an i).2 this) (by simp)
 |succ n ih=>
  intro t l listed dn a w hn hs au bz er hsz an bg hl
  have rdy:∀i,i∈Region.ready .any ops listed→i∈l∧∀x,x∈l→(b.getD i 0).testBit x=false:=by
   intro i hi
   obtain⟨h0,o,ho,df⟩:=mem_ready.1 hi
   have ah:i<listed.size:=by rw[hsz];exact(F9.1 ho).1
   have hf:listed[i]? =some false:=by
    rw[F7 ah]
    simp only[G4,F7 ah,Option.getD_some] at h0
    rw[h0]
   refine⟨(an i).2 hf,fun x hx=>?_⟩
   cases hb:(b.getD i 0).testBit x with
   |false=>rfl
   |true=>
    exfalso
    obtain⟨o',fC,e,he,ri,gy⟩:=hB i x hb
    rw[ho] at fC;cases fC
    have aV:=df e he ri
    have cO:listed[e.on]? =some true:=by
     simp only[G4] at aV
     cases hh:listed[e.on]? with
     |none=>rw[hh] at aV;cases aV
     |some z=>rw[hh] at aV;simp at aV;rw[aV]
    have uO:listed[x]? =some true:=by
     rcases gy with rfl|gy
     ·exact cO
     ·exact bg e.on cO x gy
    rw[(an x).1 hx] at uO
    cases uO
  refine⟨fun dw=>?_,fun i hi=>?_⟩
  ·
   exfalso
   have bS:l≠[]:=by intro h0;rw[h0] at hn;simp at hn
   obtain⟨m,hm,ja⟩:∃m,m∈l∧∀x,x∈l→m≤x:=by
    have qc:∃m,m∈l:=by cases l with
     |nil=>exact absurd rfl bS
     |cons m t=>exact⟨m,B6 ..⟩
    obtain⟨m,hm⟩:=qc
    exact⟨l.min bS,List.min_mem bS,fun x hx=>List.min_le_of_mem hx⟩
   have hf:=(an m).1 hm
   have ah:m<listed.size:=(F9.1 hf).1
   have vy:m<ops.size:=by rw[←hsz];exact ah
   have:m∈Region.ready .any ops listed:=by
    rw[mem_ready]
    refine⟨by simp[G4,hf],ops[m],F7 vy,fun e he ri=>?_⟩
    have bf:=bV m ops[m] (F7 vy) e he ri
    have qS:e.on<listed.size:=by omega
    cases hh:listed[e.on]? with
    |none=>rw[F7 qS] at hh;cases hh
    |some z=>
     cases z with
     |true=>simp[G4,hh]
     |false=>have:=ja _ ((an e.on).2 hh);omega
   rw[dw] at this
   cases this
  ·obtain⟨cF,oU⟩:=rdy i hi
   have hf:=(an i).1 cF
   have ah:i<listed.size:=(F9.1 hf).1
   obtain⟨t',oi,qN,vl,tt,dU⟩:=A41.pull (Φ:=Φ) qu t l bz cF oU
   refine wpOp_mono ?_ (B1s (dU dn a w.heap er hl))
   rintro a' w' ⟨gk,dn',ui,gC⟩
   have hlen:=B2G au cF
   refine ih t' (A1B i l) (listed.setIfInBounds i true) dn' a' w' (by omega) (hs.trans gk) (A9r au) qN ?_ (by simp[hsz]) ?_ ?_ gC
   ·intro p hp o ho k hk z hz d hd
    rcases ui p hp with hp|⟨o',fC,kC,xm⟩
    ·exact er p hp o ho k (A1m.1 hk).1 z hz d hd
    ·rw[xm] at ho
     rw[ho] at fC;cases fC
     rw[ho] at vl;cases vl
     exact tt kC k hk z hz d hd
   ·intro k
    rw[H8,A1m]
    by_cases tT:i=k
    ·subst tT
     simp only[if_true,ah]
     constructor
     ·rintro⟨-,h0⟩;exact absurd rfl h0
     ·intro hh;cases hh
    ·rw[if_neg tT,←an k]
     exact⟨fun h1=>h1.1,fun h1=>⟨h1,fun e=>tT e.symm⟩⟩
   ·intro m hm x hx
    rw[H8] at hm⊢
    by_cases vH:i=x
    ·subst vH;simp[ah]
    ·rw[if_neg vH]
     by_cases vI:i=m
     ·subst vI
      obtain⟨h0,o,ho,df⟩:=mem_ready.1 hi
      obtain⟨o',fC,e,he,ri,gy⟩:=hB i x hx
      rw[ho] at fC;cases fC
      have aV:=df e he ri
      have cO:listed[e.on]? =some true:=by
       simp only[G4] at aV
       cases hh:listed[e.on]? with
       |none=>rw[hh] at aV;cases aV
       |some z=>rw[hh] at aV;simp at aV;rw[aV]
      rcases gy with rfl|gy
      ·exact cO
      ·exact bg e.on cO x gy
     ·rw[if_neg vI] at hm
      exact bg m hm x hx
end
end
section
def Ext(D:List Nat)(e e':Env):Prop:=∀t,t∉D→e'.get t=e.get t
theorem Ext.refl(D:List Nat)(e:Env):Ext D e e:=fun _ _=>rfl
theorem Ext.trans{D:List Nat}{a b c:Env}(h:Ext D a b)(k:Ext D b c):Ext D a c:=fun t ht=>(k t ht).trans (h t ht)
theorem Ext.mono{D D':List Nat}{a b:Env}(h:Ext D a b)(hs:∀t,t∈D→t∈D'):Ext D' a b:=fun t ht=>h t (fun hh=>ht (hs t hh))
theorem C3P(e:Env)(s:Nat)(v:Value)(t:Nat):Env.get (e.put (some s) v) t=if s=t then some v else e.get t:=by
 simp only[Env.put,Env.get]
 by_cases h:s=t
 ·subst h;simp
 ·rw[if_neg h]
  cases hb:Nat.beq s t with
  |true=>exact absurd (E1 hb) h
  |false=>rfl
theorem B56:∀{l:List Nat} {n:Nat},A5N n l=true↔n∈l
 |[],n=>by simp[A5N]
 |t::ts,n=>by
  simp only[A5N,D3]
  cases hb:Nat.beq t n with
  |true=>simp[E1 hb]
  |false=>
   have bS:n≠t:=by intro h;subst h;simp at hb
   simp[bS,B56]
theorem A75(ts:List Nat):∀(e:Env) (t:Nat),(e.forget ts).get t=if t∈ts then none else e.get t
 |[],t=>by simp[Env.forget,Env.get]
 |(s,v)::e,t=>by
  have ih:=A75 ts e t
  simp only[Env.forget]
  cases hm:A5N s ts with
  |true=>
   simp only[Env.get]
   rw[ih]
   have hs:=B56.1 hm
   by_cases ht:t∈ts
   ·rw[if_pos ht,if_pos ht]
   ·rw[if_neg ht,if_neg ht]
    cases hb:Nat.beq s t with
    |true=>rw[E1 hb] at hs;exact absurd hs ht
    |false=>rfl
  |false=>
   simp only[Env.get]
   have hs:s∉ts:=fun hh=>by rw[B56.2 hh] at hm;cases hm
   cases hb:Nat.beq s t with
   |true=>have:=E1 hb;subst this;rw[if_neg hs]
   |false=>exact ih
theorem A0B.put{n:Nat}{e:Env}{a:Act}(h:A0B n e a){dst:Option Nat}(hd:∀s,dst=some s→s<n)(v:Value):A0B n (e.put dst v) (a.put dst v):=by
 cases dst with
 |none=>exact h
 |some s=>
  refine⟨by simp[Act.put,h.size],h.defers,fun t u ht=>?_⟩
  rw[C3P] at ht
  simp only[Act.put,H8]
  by_cases bF:s=t
  ·subst bF
   rw[if_pos rfl] at ht
   cases ht
   simp[h.size,hd s rfl]
  ·rw[if_neg bF] at ht⊢
   exact h.get t u ht
theorem A3c.put{d:Dec}{a:Act}(h:A3c d a){dst:Option Nat}(hd:∀s,dst=some s→d.get s=none)(v:Value):A3c d (a.put dst v):=by
 cases dst with
 |none=>exact h
 |some s=>
  intro t b ht
  simp only[Act.put,H8]
  by_cases bF:s=t
  ·subst bF;rw[hd s rfl] at ht;cases ht
  ·rw[if_neg bF];exact h t b ht
theorem A3c.cons{d:Dec}{a:Act}(h:A3c d a){s:Nat}{b:Bool}(hs:a.tmps[s]? =some (.bool b)):A3c ((s,b)::d) a:=by
 intro t c ht
 simp only[Dec.get] at ht
 cases hb:Nat.beq s t with
 |true=>rw[hb] at ht;cases ht;rw[←E1 hb];exact hs
 |false=>rw[hb] at ht;exact h t c ht
theorem Dec.fB{d:Dec}{s t:Nat}{b:Bool}(h:d.get t=none)(bS:s≠t):Dec.get ((s,b)::d) t=none:=by
 simp only[Dec.get]
 cases hb:Nat.beq s t with
 |true=>exact absurd (E1 hb) bS
 |false=>exact h
theorem B6p{e:Env}:∀{ss:List (Nat×Kind)} {vs:D0r},e.eH ss=some vs→vs.length=ss.length∧∀t v,Env.get (A32 ss vs) t=some v→e.get t=some v
 |[],vs,h=>by simp only[Env.eH,F6] at h;subst h;exact⟨rfl,fun t v hh=>by simp[A32,Env.get] at hh⟩
 |(s,kd)::r,vs,h=>by
  simp only[Env.eH] at h
  cases hs:e.get s with
  |none=>simp only[hs] at h;cases h
  |some u=>
   simp only[hs] at h
   cases hr:e.eH r with
   |none=>simp only[hr] at h;cases h
   |some us=>
    simp only[hr] at h
    cases h
    obtain⟨h1,h2⟩:=B6p hr
    refine⟨by simp[h1],fun t v hh=>?_⟩
    simp only[A32,Env.get] at hh
    cases hb:Nat.beq s t with
    |true=>rw[hb] at hh;cases hh;rw[←E1 hb];exact hs
    |false=>rw[hb] at hh;exact h2 t v hh
theorem get_append(a b:Env)(t:Nat):Env.get (a++b) t=match Env.get a t with|some v=>some v|none=>Env.get b t:=by
 induction a with
 |nil=>rfl
 |cons x a ih=>
  obtain⟨s,v⟩:=x
  simp only[G7,Env.get]
  cases hb:Nat.beq s t with
  |true=>rfl
  |false=>exact ih
theorem B1q:∀(ss:List (Nat×Kind)) (vs:D0r) (t:Nat),t∉ss.map (·.1)→Env.get (A32 ss vs) t=none
 |[],vs,t,_=>rfl
 |_::_,[],t,_=>by simp[A32,Env.get]
 |(s,kd)::r,v::vs,t,h=>by
  simp only[B5,D3,not_or] at h
  simp only[A32,Env.get]
  cases hb:Nat.beq s t with
  |true=>exact absurd (E1 hb).symm h.1
  |false=>exact B1q r vs t h.2
theorem A9f{e:Env}{ds:List Nat}{ss:List (Nat×Kind)}(jQ:∀p∈ss,p.1∈ds)(x:s6 (ss.map (·.2))):Ext ds e (e.join ds ss x):=by
 intro t ht
 unfold Env.join
 rw[get_append,B1q,A75,if_neg ht]
 intro hm
 obtain⟨p,hp,rfl⟩:=E3.1 hm
 exact ht (jQ p hp)
theorem C36{e:Env}{ss:List (Nat×Kind)}{x:s6 (ss.map (·.2))}(h:e.dX ss=some x):∀t v,Env.get (A32 ss (s6.cC (ss.map (·.2)) x)) t=some v→e.get t=some v:=by
 unfold Env.dX at h
 cases hg:e.eH ss with
 |none=>simp only[hg] at h;cases h
 |some vs=>
  simp only[hg] at h
  have:=s6.bH _ _ _ h
  rw[←this]
  exact(B6p hg).2
theorem A0B.join{n:Nat}{e e':Env}{a:Act}(h:A0B n e' a){ds:List Nat}(hx:Ext ds e e'){ss:List (Nat×Kind)}{x:s6 (ss.map (·.2))}(ht:e'.dX ss=some x):A0B n (e.join ds ss x) a:=by
 refine⟨h.size,h.defers,fun t v hg=>?_⟩
 unfold Env.join at hg
 rw[get_append] at hg
 cases hz:Env.get (A32 ss (s6.cC (ss.map (·.2)) x)) t with
 |some u=>rw[hz] at hg;cases hg;exact h.get t v (C36 ht t v hz)
 |none=>
  rw[hz] at hg
  simp only at hg
  rw[A75] at hg
  by_cases hm:t∈ds
  ·rw[if_pos hm] at hg;cases hg
  ·rw[if_neg hm] at hg
   exact h.get t v (by rw[hx t hm];exact hg)
section
variable {P:Program} {C:List Nat} {n:Nat} {ops:Array Oper} {draw:Bool} {ρ:Type} {Q:ρ→Heap→Prop}
def C67(P:Program)(ops:Array Oper)(draw:Bool)(dn:A1J):Prop:=draw=true→∀p,p∈dn→∃o,ops[p.1]? =some o∧z8 P o.op=.read
theorem A9w(hC:∀f,f∈C→A1H P f){bj:Nat}{e:Env}{d:Dec}{a:Act}{h:Heap}(hA:A0B n e a)(hD:A3c d a){m:HM ρ}:∀(dn:A1J),(∀p,p∈dn→∃o,ops[p.1]? =some o∧z8 P o.op=.read)→
  again P C ops bj e d dn m h Q→(∀i v,(i,v)∈dn→bj.testBit i=false→C33 P ops i v a h)∧m h Q
 |[],_,hd=>⟨fun _ _ hm=>(by cases hm),hd⟩
 |(i,v)::r,er,hd=>by
  simp only[again] at hd
  cases hb:bj.testBit i with
  |true=>
   simp only[hb] at hd
   obtain⟨h1,h2⟩:=A9w hC hA hD r (fun p hp=>er p (C2 _ hp)) hd
   refine⟨fun j u hm rf=>?_,h2⟩
   cases hm with
   |head=>rw[hb] at rf;cases rf
   |tail _ hm=>exact h1 j u hm rf
  |false=>
   simp only[hb] at hd
   obtain⟨o,ho,bg⟩:=er (i,v) (B6 ..)
   have fC:ops.toList[i]? =some o:=by simpa using ho
   simp only[fC] at hd
   have:=B8K hC hA hD hd
   rw[bg] at this
   obtain⟨v',kB,ta,fw⟩:=this
   subst ta
   obtain⟨h1,h2⟩:=A9w hC hA hD r (fun p hp=>er p (C2 _ hp)) fw
   refine⟨fun j u hm rf=>?_,h2⟩
   cases hm with
   |head=>exact⟨o,ho,kB⟩
   |tail _ hm=>exact h1 j u hm rf
theorem C2U(hC:∀f,f∈C→A1H P f){j:Nat}{o:Oper}{e:Env}{d:Dec}{dn dn':A1J}{kk:Env→A1J→HM ρ}{a:Act}{h:Heap}{K:A1J→Act→Heap→Prop}
  (ho:ops[j]? =some o)(hA:A0B n e a)(hD:A3c d a)(jg:∀s,o.dst=some s→s<n)(kg:∀s,o.dst=some s→d.get s=none)(er:C67 P ops draw dn)(bl:draw=true→∀p,p∈dn'→p∈dn)
  (hw:want ops o a=true)
  (ih:∀v h' rF lM,(z8 P o.op=.stat→Stat P (execOp a.eval o) v)→kk (e.put o.dst v) rF h' Q→C67 P ops draw rF→(draw=true→∀p,p∈lM→p∈rF)→K lM (a.put o.dst v) h')
  (hd:B1i P C ops draw j o e d dn kk h Q):y8 P ops (Region.before ops) draw K j dn' a h:=by
 have hl:=C2T hC hA hD hd
 unfold y8
 simp only[ho]
 rw[if_pos hw]
 cases hc:z8 P o.op with
 |stat=>
  rw[hc] at hl
  simp only
  obtain⟨v,hv,hq⟩:=hl
  refine⟨v,hv,?_⟩
  cases fI:draw with
  |false=>subst fI;simp only at hq;exact ih v h dn dn' (fun _=>hv) hq er bl
  |true=>subst fI;simp only[hc] at hq;exact ih v h dn dn' (fun _=>hv) hq er bl
 |read=>
  rw[hc] at hl
  simp only
  obtain⟨v,hv,hq⟩:=hl
  refine⟨v,hv,?_⟩
  cases fI:draw with
  |false=>subst fI;simp only at hq;exact ih v h dn _ (fun hh=>by rw[hc] at hh;cases hh) hq er (fun hh=>by cases hh)
  |true=>
   subst fI;simp only[hc] at hq
   refine ih v h _ _ (fun hh=>by rw[hc] at hh;cases hh) hq (fun _ p hp=>?_) (fun _ p hp=>?_)
   ·cases hp with
    |head=>exact⟨o,ho,hc⟩
    |tail _ hp=>exact er rfl p hp
   ·cases hp with
    |head=>exact B6 ..
    |tail _ hp=>exact C2 _ (bl rfl p hp)
 |cW=>
  rw[hc] at hl
  simp only
  refine A3C.mono hl fun v h' hq=>?_
  cases fI:draw with
  |false=>subst fI;simp only at hq;exact⟨fun hh=>(by cases hh),ih v h' dn dn' (fun hh=>by rw[hc] at hh;cases hh) hq er bl⟩
  |true=>
   subst fI;simp only[hc] at hq
   obtain⟨h1,h2⟩:=A9w hC (hA.put jg v) (hD.put kg v) dn (er rfl) hq
   exact⟨fun _ i v' hi hb=>h1 i v' (bl rfl _ hi) hb,ih v h' dn dn' (fun hh=>by rw[hc] at hh;cases hh) h2 er bl⟩
theorem y8.pass{K:A1J→Act→Heap→Prop}{b:Array Nat}{j:Nat}{o:Oper}{dn:A1J}{a:Act}{h:Heap}(ho:ops[j]? =some o)(hw:want ops o a=false)
  (hl:K dn (a.put o.dst undef) h):y8 P ops b draw K j dn a h:=by
 unfold y8
 simp only[ho,hw]
 simpa using hl
theorem A6a{d:Dec}{a:Act}(hD:A3c d a){x:Operand}{b:Bool}(h:B8r d x=some b):a.eval x=.bool b:=by
 cases x with
 |tmp t=>
  have:=hD t b h
  simp[Act.eval,this]
 |const c=>cases c<;>simp[B8r] at h;subst h;rfl
 |global g=>cases h
 |func f=>cases h
theorem C0R{d:Dec}{a:Act}(hD:A3c d a){o:Oper}{b:Bool}(h:C3I d o.op=some b):z8 P o.op=.stat∧∀w,(execOp a.eval o).run P w=.ok (.value (.bool b)) w:=by
 unfold C3I at h
 split at h
 ·rename_i x ho
  exact⟨by rw[ho];rfl,fun w=>by simp[execOp,ho,A6a hD h]⟩
 ·rename_i x ho
  exact⟨by rw[ho];rfl,fun w=>by simp[execOp,ho,A6a hD h]⟩
 ·rename_i t x y ho
  refine⟨by rw[ho];rfl,fun w=>?_⟩
  split at h
  ·rename_i hg
   have ht:=hD t true hg
   have hx:=A6a hD h
   have he:a.eval (.tmp t)=.bool true:=by simp[Act.eval,ht]
   simp[execOp,ho,he,asBool,hx]
  ·rename_i hg
   have ht:=hD t false hg
   have hx:=A6a hD h
   have he:a.eval (.tmp t)=.bool false:=by simp[Act.eval,ht]
   simp[execOp,ho,he,asBool,hx]
  ·cases h
 ·cases h
theorem C1o{d:Dec}{a:Act}(hD:A3c d a){o:Oper}(kg:∀s,o.dst=some s→d.get s=none)(ah:∀s,o.dst=some s→s<a.tmps.size){v:Value}(bF:z8 P o.op=.stat→Stat P (execOp a.eval o) v):
  A3c (A3v d o) (a.put o.dst v):=by
 have hp:=hD.put kg v
 unfold A3v
 cases hs:o.dst with
 |none=>rw[hs] at hp;exact hp
 |some s=>
  rw[hs] at hp
  simp only
  cases hl:C3I d o.op with
  |none=>exact hp
  |some b=>
   obtain⟨hc,hr⟩:=C0R (P:=P) hD hl
   have h1:=bF hc default
   rw[hr default] at h1
   cases h1
   exact hp.cons (by simp[Act.put,ah s hs])
theorem C35{o:Oper}{a:Act}(h:o.guard=none):want ops o a=true:=by simp[want,Region.wanted,h]
theorem B7R{o:Oper}{a:Act}{g:Nat}{wnt b:Bool}{s:Nat}(h:o.guard=some (g,wnt))(hs:A46 ops g=some s)(hb:a.tmps[s]? =some (.bool b)):want ops o a=(b==wnt):=by
 unfold A46 at hs
 cases hg:ops.toList[g]? with
 |none=>simp only[hg] at hs;cases hs
 |some og=>
  simp only[hg] at hs
  have qN:ops[g]? =some og:=by simpa using hg
  simp only[want,Region.wanted,h,yielded,qN,N8,hs,hb]
  cases b<;>cases wnt<;>rfl
theorem C1Q{o:Oper}{a:Act}{g:Nat}{wnt:Bool}{s:Nat}{vs:D0q}(h:o.guard=some (g,wnt))(hs:A46 ops g=some s)(hb:a.tmps[s]? =some (.tuple vs)):want ops o a=false:=by
 unfold A46 at hs
 cases hg:ops.toList[g]? with
 |none=>simp only[hg] at hs;cases hs
 |some og=>
  simp only[hg] at hs
  have qN:ops[g]? =some og:=by simpa using hg
  simp only[want,Region.wanted,h,yielded,qN,N8,hs,hb]
  cases wnt<;>rfl
theorem B4u(hC:∀f,f∈C→A1H P f){k:Env→Dec→A1J→HM ρ}{K:A1J→Act→Heap→Prop}(D:List Nat)(oD:∀o s,o∈ops→o.dst=some s→s∈D)(e0:Env)
  (ih:∀(e:Env) (d:Dec) (dn dn':A1J) (a:Act) (h:Heap),k e d dn h Q→Ext D e0 e→A0B n e a→A3c d a→C67 P ops draw dn→(draw=true→∀p,p∈dn'→p∈dn)→K dn' a h)
  (j:Nat)(e:Env)(d:Dec)(dn dn':A1J)(a:Act)(h:Heap)(hd:B5d P C n ops draw j e d dn k h Q)(hx:Ext D e0 e)(hA:A0B n e a)(iF:A3c d a)(er:C67 P ops draw dn)(bl:draw=true→∀p,p∈dn'→p∈dn):
  y8 P ops (Region.before ops) draw K j dn' a h:=by
  simp only[B5d] at hd
  cases ho:ops.toList[j]? with
  |none=>simp only[ho] at hd;exact hd.elim
  |some o=>
   simp only[ho] at hd
   have fC:ops[j]? =some o:=by simpa using ho
   have an:o∈ops:=Array.mem_of_getElem? fC
   cases jj:C6J n d o.dst with
   |false=>simp only[jj] at hd;exact hd.elim
   |true=>
   simp only[jj] at hd
   have jg:∀s,o.dst=some s→s<n:=by
    intro s hs
    rw[hs] at jj
    have gY:(Nat.blt s n&&(d.get s).isNone)=true:=jj
    rw[E8] at gY
    exact Nat.blt_eq.mp gY.1
   have kg:∀s,o.dst=some s→d.get s=none:=by
    intro s hs
    rw[hs] at jj
    have gY:(Nat.blt s n&&(d.get s).isNone)=true:=jj
    rw[E8] at gY
    exact Option.isNone_iff_eq_none.1 gY.2
   have nJ:∀v,Ext D e0 (e.put o.dst v):=by
    intro v
    refine hx.trans fun t ht=>?_
    cases hs:o.dst with
    |none=>rfl
    |some s=>
     rw[C3P,if_neg]
     intro bF;subst bF;exact ht (oD o s an hs)
   have yC:Ext D e0 (e.forget o.dst.toList):=by
    refine hx.trans fun t ht=>?_
    rw[A75,if_neg]
    intro hm
    cases hs:o.dst with
    |none=>rw[hs] at hm;exact absurd hm R2
    |some s=>rw[hs] at hm;have:=B9.1 hm;subst this;exact ht (oD o t an hs)
   have run:∀(d2:Dec),A3c d2 a→(∀s,o.dst=some s→d2.get s=none)→want ops o a=true→(B1i P C ops draw j o e d2 dn fun e' dn'=>k e' (A3v d2 o) dn') h Q→
     y8 P ops (Region.before ops) draw K j dn' a h:=by
    intro d2 iE lE hw hh
    exact C2U hC fC hA iE jg lE er bl hw (fun v h' rF lM bF hh uh pZ=>ih _ (A3v d2 o) rF lM _ h' hh (nJ v) (hA.put jg v) (C1o (P:=P) iE lE (fun s hs=>by rw[hA.size];exact jg s hs) bF) uh pZ) hh
   have skip:∀(d2:Dec),A3c d2 a→(∀s,o.dst=some s→d2.get s=none)→want ops o a=false→k (e.put o.dst undef) d2 dn h Q→
     y8 P ops (Region.before ops) draw K j dn' a h:=by
    intro d2 iE lE hw hh
    have:=ih _ d2 dn dn' _ h hh (nJ undef) (hA.put jg undef) (iE.put lE undef) er bl
    exact y8.pass fC hw this
   cases hg:o.guard with
   |none=>
    simp only[hg] at hd
    exact run d iF kg (C35 hg) hd
   |some gw=>
    obtain⟨g,wnt⟩:=gw
    simp only[hg] at hd
    cases hs:A46 ops g with
    |none=>simp only[hs] at hd;exact hd.elim
    |some s=>
     simp only[hs] at hd
     cases uj:d.get s with
     |some b=>
      simp only[uj] at hd
      have hw:=B7R (ops:=ops) (a:=a) hg hs (iF s b uj)
      cases b<;>cases wnt<;>simp only at hd
      ·exact run d iF kg (by rw[hw];rfl) hd
      ·exact skip d iF kg (by rw[hw];rfl) hd
      ·exact skip d iF kg (by rw[hw];rfl) hd
      ·exact run d iF kg (by rw[hw];rfl) hd
     |none=>
      simp only[uj] at hd
      cases hh:C7z o.dst s with
      |true=>simp only[hh] at hd;exact hd.elim
      |false=>
      simp only[hh] at hd
      have bS:∀t,o.dst=some t→s≠t:=by
       intro t ht bF
       subst bF
       rw[ht] at hh
       simp[C7z] at hh
      cases pd:e.get s with
      |none=>simp only[pd] at hd;exact hd.elim
      |some u=>
       have oN:=hA.get s _ pd
       cases u<;>simp only[pd] at hd<;>first|exact hd.elim|exact skip d iF kg (C1Q (ops:=ops) (a:=a) hg hs oN) hd|skip
       rename_i bb
       have hw:=B7R (ops:=ops) (a:=a) hg hs oN
       have lG:∀b',∀t,o.dst=some t→Dec.get ((s,b')::d) t=none:=fun b' t ht=>Dec.fB (kg t ht) (bS t ht)
       cases wnt<;>simp only at hd<;>cases bb
       ·exact run _ (iF.cons oN) (lG _) (by rw[hw];rfl) hd
       ·exact skip _ (iF.cons oN) (lG _) (by rw[hw];rfl) hd
       ·exact skip _ (iF.cons oN) (lG _) (by rw[hw];rfl) hd
       ·exact run _ (iF.cons oN) (lG _) (by rw[hw];rfl) hd
theorem C1G{h:Heap}:∀{l:List (HM ρ)},C7K l h Q→∀m∈l,m h Q
 |[m],hd,x,hx=>by rw[B9.1 hx];exact hd
 |m::y::r,hd,x,hx=>by
  have jh:m h Q∧C7K (y::r) h Q:=hd
  rcases D3.1 hx with rfl|hx
  ·exact jh.1
  ·exact C1G jh.2 x hx
theorem B2I(hC:∀f,f∈C→A1H P f){k:Env→HM ρ}(D:List Nat)(oD:∀o s,o∈ops→o.dst=some s→s∈D)(e0:Env):∀(t:A4w) (e:Env) (d:Dec) (dn dn':A1J) (a:Act) (h:Heap),
  C2R P C n ops draw t e d dn k h Q→Ext D e0 e→A0B n e a→A3c d a→C67 P ops draw dn→(draw=true→∀p,p∈dn'→p∈dn)→
  A41 P ops (Region.before ops) draw (fun a' h'=>∃e',A0B n e' a'∧Ext D e0 e'∧k e' h' Q) t dn' a h
 |.done,e,d,dn,dn',a,h,hd,hx,hA,_,_,_=>⟨e,hA,hx,hd⟩
 |.q j t,e,d,dn,dn',a,h,hd,hx,hA,iF,er,bl=>B4u hC D oD e0 (B2I hC D oD e0 t) j e d dn dn' a h hd hx hA iF er bl
 |.br js f,e,d,dn,dn',a,h,hd,hx,hA,iF,er,bl=>fun j hj=>
  B4u hC D oD e0 (B2I hC D oD e0 (f j)) j e d dn dn' a h (C1G hd _ (B4 hj)) hx hA iF er bl
end
end
section
def HW(P:Program)(c:Code)(a:Act)(h:Heap)(Ψ:Exit→Act→Heap→Prop):Prop:=∀w,w.heap=h→c.wp P (fun x a' w'=>A0i w w'∧Ψ x a' w'.heap) a w
section
variable {P:Program} {C:List Nat} {n:Nat} {live lc:List Nat} {rs:List ResultVar}
theorem B7x(hm:P.follows .mixedOrders=true){ops:Array Oper}{draw:Bool}{id:Nat}{a:Act}{h:Heap}{Ψ:Exit→Act→Heap→Prop}(ag:draw=true→B2a P ops (A6r P ops true)=true)
  (hl:A41 P ops (Region.before ops) draw (fun a' h'=>Ψ .normal a' h') (A6r P ops draw) [] a h):HW P (.region id ops draw) a h Ψ:=by
 intro w hw
 subst hw
 cases draw with
 |false=>
  exact wp_region (B1r (w0:=w) (fun a' w' hs hp=>⟨hs,hp⟩) (List.range ops.size) [] a w (A0i.refl w) hl)
 |true=>
  have ho:=ag rfl
  simp only[B2a,E8] at ho
  obtain⟨hb,hp⟩:=ho
  obtain⟨bV,qu⟩:=C1x hb
  have bz:=B1f _ _ hp
  refine wp_region_any hm ?_
  have an:∀i,i∈List.range ops.size↔(Array.replicate ops.size false)[i]? =some false:=by
   intro i
   rw[R4]
   constructor
   ·intro hi;simp[hi]
   ·intro hi
    rcases U0 i ops.size with hh|hh
    ·exact hh
    ·simp[hh] at hi
  exact B7q (w0:=w) (fun a' w' hs hp=>⟨hs,hp⟩) (C1w ops) bV qu ops.size (A6r P ops true) (List.range ops.size) (Array.replicate ops.size false) [] a {w with drawn:=w.drawn+1} (by simp) ⟨rfl,rfl,rfl⟩ List.nodup_range bz
   (fun p hp=>by cases hp) (by simp) an (fun m hm=>by
    rw[Array.getElem?_replicate] at hm
    split at hm<;>cases hm) hl
theorem B5W:∀(l:List Oper) (p:Nat×Kind),p∈A3Q P live l→p.1∈dstsOf l
 |[],p,h=>by cases h
 |o::l,p,h=>by
  have ih:=B5W l p
  have step:p∈A3Q P live l→p.1∈dstsOf (o::l):=fun hh=>by
   simp only[dstsOf]
   cases o.dst with
   |none=>exact ih hh
   |some s=>exact C2 _ (ih hh)
  simp only[A3Q] at h
  cases hg:o.guard with
  |some g=>simp only[hg] at h;exact step h
  |none=>
   simp only[hg] at h
   cases hs:o.dst with
   |none=>simp only[hs] at h;exact step h
   |some s=>
    simp only[hs] at h
    cases hm:A5N s live with
    |false=>simp only[hm] at h;exact step h
    |true=>
     simp only[hm] at h
     cases hk:kindOf P o.type with
     |none=>simp only[hk] at h;exact step h
     |some k=>
      simp only[hk] at h
      cases h with
      |head=>simp only[dstsOf,hs];exact B6 ..
      |tail _ hh=>exact step hh
theorem B6E:∀(l:List Oper) (o:Oper) (s:Nat),o∈l→o.dst=some s→s∈dstsOf l
 |[],_,_,h,_=>by cases h
 |x::l,o,s,h,hs=>by
  simp only[dstsOf]
  cases h with
  |head=>rw[hs];exact B6 ..
  |tail _ h=>
   have:=B6E l o s h hs
   cases x.dst with
   |none=>exact this
   |some t=>exact C2 _ this
theorem B40(hm:P.follows .mixedOrders=true)(hC:∀f,f∈C→A1H P f){ρ:Type}{Q:ρ→Heap→Prop}{ops:Array Oper}{draw:Bool}{id:Nat}{e:Env}{k:Env→HM ρ}{a:Act}{h:Heap}{Ψ:Exit→Act→Heap→Prop}
  (hd:B3I P C n live ops draw e k h Q)(hA:A0B n e a)(hk:∀e' a' h',Ext (dstsOf ops.toList) e e'→A0B n e' a'→k e' h' Q→Ψ .normal a' h'):HW P (.region id ops draw) a h Ψ:=by
 unfold B3I at hd
 have mj:∀(o:Oper) (s:Nat),o∈ops→o.dst=some s→s∈dstsOf ops.toList:=fun o s ho hs=>B6E _ o s (by simpa using ho) hs
 have go:∀(hh:(draw=true→B2a P ops (A6r P ops true)=true)∧((match guarded ops.toList with
  |false=>C2R P C n ops draw (A6r P ops draw) e [] [] k
  |true=>(C2R P C n ops draw (A6r P ops draw) e [] [] fun e'=>B13 (e'.dX (A3Q P live ops.toList))).bind fun x=>k (e.join (dstsOf ops.toList) (A3Q P live ops.toList) x)) h Q)),HW P (.region id ops draw) a h Ψ:=by
  rintro⟨ag,hd⟩
  refine B7x hm ag ?_
  cases hg:guarded ops.toList with
  |false=>
   simp only[hg] at hd
   refine A41.imp ?_ _ _ _ _ (B2I hC (dstsOf ops.toList) mj e _ e [] [] [] a h hd (Ext.refl _ _) hA (fun t b ht=>by cases ht) (fun _ p hp=>by cases hp) (fun _ p hp=>hp))
   rintro a' h' ⟨e',gL,hx,hq⟩
   exact hk e' a' h' hx gL hq
  |true=>
   simp only[hg] at hd
   refine A41.imp ?_ _ _ _ _ (B2I hC (dstsOf ops.toList) mj e _ e [] [] [] a h hd (Ext.refl _ _) hA (fun t b ht=>by cases ht) (fun _ p hp=>by cases hp) (fun _ p hp=>hp))
   rintro a' h' ⟨e',gL,hx,hq⟩
   cases ht:e'.dX (A3Q P live ops.toList) with
   |none=>rw[ht] at hq;exact hq.elim
   |some x=>
    rw[ht] at hq
    exact hk _ a' h' (A9f (fun p hp=>B5W _ p hp) x) (gL.join hx ht) hq
 cases draw with
 |false=>exact go ⟨fun hh=>(by cases hh),hd⟩
 |true=>
  cases ho:B2a P ops (A6r P ops true) with
  |false=>simp only[ho] at hd;exact hd.elim
  |true=>simp only[ho] at hd;exact go ⟨fun _=>ho,hd⟩
def B71(a:Act):ResultVar→Sem Value
 |.tmp t=>pure (a.tmps.getD t undef)
 |.cell x t=>do loadVar t (←asAddr (a.tmps.getD x undef))
def C31(P:Program)(rs:List ResultVar)(a:Act)(h:Heap)(vs:D0r):Prop:=∀w,w.heap=h→(rs.mapM (B71 a)).run P w=.ok vs w
theorem A4V{ρ:Type}{Q:ρ→Heap→Prop}{e:Env}{a:Act}{h:Heap}(hA:A0B n e a):∀(rs:List ResultVar) (kk:D0r→HM ρ),B1h P e rs kk h Q→∃vs,C31 P rs a h vs∧kk vs h Q
 |[],kk,hd=>⟨[],fun w _=>rfl,hd⟩
 |.tmp t::rs,kk,hd=>by
  simp only[B1h] at hd
  cases ht:e.get t with
  |none=>simp only[ht] at hd;exact hd.elim
  |some v=>
   simp only[ht] at hd
   obtain⟨vs,dr,hq⟩:=A4V hA rs _ hd
   refine⟨v::vs,fun w hw=>?_,hq⟩
   have bu:=hA.get t v ht
   rw[List.mapM_cons]
   simp[B71,bu,dr w hw]
 |.cell x ty::rs,kk,hd=>by
  simp only[B1h] at hd
  cases ht:e.get x with
  |none=>simp only[ht] at hd;exact hd.elim
  |some u=>
   simp only[ht] at hd
   obtain⟨v,hv,hd⟩:=B0F hd
   obtain⟨vs,dr,hq⟩:=A4V hA rs _ hd
   refine⟨v::vs,fun w hw=>?_,hq⟩
   have bu:=hA.get x u ht
   rw[List.mapM_cons]
   have hl:=hv w hw
   have:(B71 a (.cell x ty)).run P w=.ok v w:=by
    cases u with
    |pointer p=>
     cases p with
     |some ad=>simpa[B71,bu,asAddr,Instr.loadAt,Instr.sureAddr] using hl
     |none=>simp[Instr.loadAt,Instr.sureAddr] at hl
    |_=>simp[Instr.loadAt,Instr.sureAddr] at hl
   simp[this,dr w hw]
structure KOK(P:Program)(n:Nat)(rs:List ResultVar)(D:List Nat)(e:Env){ρ:Type}(k:KK ρ)(Q:ρ→Heap→Prop)(Ψ:Exit→Act→Heap→Prop):Prop where
 norm:∀e' a' h',Ext D e e'→A0B n e' a'→k.norm e' h' Q→Ψ .normal a' h'
 ret:∀a' h' vs r,a'.defers=[]→C31 P rs a' h' vs→k.ret vs=some r→Q r h'→Ψ .ret a' h'
 bX:∀id g e' a' h' r,A1Z k.bX id=some g→Ext D e e'→A0B n e' a'→g e'=some r→Q r h'→Ψ (.exit id) a' h'
theorem KOK.at{D D':List Nat}{e e1:Env}{ρ:Type}{k:KK ρ}{Q:ρ→Heap→Prop}{Ψ:Exit→Act→Heap→Prop}(hk:KOK P n rs D e k Q Ψ)(hs:∀t,t∈D'→t∈D)(hx:Ext D e e1):KOK P n rs D' e1 k Q Ψ:=
 ⟨fun e' a' h' dS hA hq=>hk.norm e' a' h' (hx.trans (dS.mono hs)) hA hq,hk.ret,fun id g e' a' h' r hg dS hA he hq=>hk.bX id g e' a' h' r hg (hx.trans (dS.mono hs)) hA he hq⟩
theorem A2W{ρ:Type}{Q:ρ→Heap→Prop}{h:Heap}{o:Option ρ}(hd:B13 o h Q):∃r,o=some r∧Q r h:=by
 cases o with
 |none=>exact hd.elim
 |some r=>exact⟨r,rfl,hd⟩
theorem A9o{ρ ρ':Type}{f:ρ→ρ'}:∀(l:List (Nat×(Env→Option ρ))) (id:Nat) (g:Env→Option ρ'),A1Z (A5u f l) id=some g→
  ∃g0,A1Z l id=some g0∧∀e r,g e=some r→∃r0,g0 e=some r0∧r=f r0
 |[],id,g,h=>by cases h
 |(t,g1)::d,id,g,h=>by
  simp only[A5u,A1Z] at h⊢
  cases hb:Nat.beq t id with
  |true=>
   simp only[hb] at h⊢
   cases h
   refine⟨g1,rfl,fun e r hr=>?_⟩
   cases hg:g1 e with
   |none=>simp only[hg] at hr;cases hr
   |some r0=>simp only[hg] at hr;cases hr;exact⟨r0,rfl,rfl⟩
  |false=>
   simp only[hb] at h⊢
   exact A9o d id g h
theorem A8b{β:Type}(x:Nat):∀(l:List (Nat×β)) (id:Nat) (g:β),A1Z (A9s x l) id=some g→id≠x∧A1Z l id=some g
 |[],_,_,h=>by cases h
 |(t,b)::d,id,g,h=>by
  simp only[A9s] at h
  cases hb:Nat.beq t x with
  |true=>
   simp only[hb] at h
   obtain⟨h1,h2⟩:=A8b x d id g h
   refine⟨h1,?_⟩
   simp only[A1Z]
   cases hc:Nat.beq t id with
   |true=>have:=E1 hb;have:=E1 hc;omega
   |false=>exact h2
  |false=>
   simp only[hb,A1Z] at h⊢
   cases hc:Nat.beq t id with
   |true=>
    simp only[hc] at h⊢
    refine⟨?_,h⟩
    have:=E1 hc
    intro he
    subst he;subst this
    simp at hb
   |false=>
    simp only[hc] at h⊢
    exact A8b x d id g h
theorem A6m(e:Env):∀(l:List Nat) (p:Nat×Kind),p∈carried lc e l→p.1∈l
 |[],p,h=>by cases h
 |s::r,p,h=>by
  have ih:=A6m e r p
  simp only[carried] at h
  cases hm:A5N s r with
  |true=>simp only[hm] at h;exact C2 _ (ih h)
  |false=>
   simp only[hm] at h
   cases hl:A5N s lc with
   |false=>simp only[hl] at h;exact C2 _ (ih h)
   |true=>
    simp only[hl] at h
    cases hv:e.get s with
    |none=>simp only[hv] at h;exact C2 _ (ih h)
    |some v=>
     simp only[hv] at h
     cases hk:Kind.of v with
     |none=>simp only[hk] at h;exact C2 _ (ih h)
     |some k=>
      simp only[hk] at h
      cases h with
      |head=>exact B6 ..
      |tail _ hh=>exact C2 _ (ih hh)
def B2t(ex:Option Nat)(Ψ:Exit→Act→Heap→Prop):Exit→Act→Heap→Prop
 |.exit id,a,h=>if ex=some id then Ψ .normal a h else Ψ (.exit id) a h
 |x,a,h=>Ψ x a h
theorem B4o{ρ:Type}{Q:ρ→Heap→Prop}{outs:Bool}{ss:List (Nat×Kind)}{inner:(ρ':Type)→KK ρ'→HM ρ'}{ex:Option Nat}{e:Env}{ds:List Nat}{k:KK ρ}{h:Heap}{Ψ:Exit→Act→Heap→Prop}
  (jQ:∀p∈ss,p.1∈ds)(hk:KOK P n rs ds e k Q Ψ)(hd:B4q outs ss inner ex e ds k h Q){R:Prop}
  (ef:∀(ρ':Type) (k':KK ρ') (Q':ρ'→Heap→Prop),inner ρ' k' h Q'→KOK P n rs ds e k' Q' (B2t ex Ψ)→R):R:=by
 unfold B4q at hd
 cases outs with
 |true=>
  simp only at hd
  refine ef _ _ _ hd ?_
  have gT:∀e' a' h',Ext ds e e'→A0B n e' a'→∀r,(match e'.dX ss with|some x=>some (Sum.inl (β:=ρ) x)|none=>none)=some r→
    Sum.elim (fun x=>k.norm (e.join ds ss x)) X8 r h' Q→Ψ .normal a' h':=by
   intro e' a' h' hx hA r hr hq
   cases ht:e'.dX ss with
   |none=>rw[ht] at hr;cases hr
   |some x=>
    rw[ht] at hr;cases hr
    exact hk.norm _ a' h' (A9f jQ x) (hA.join hx ht) hq
  refine⟨fun e' a' h' hx hA hq=>?_,fun a' h' vs r iP fY hr hq=>?_,fun id g e' a' h' r hg hx hA hr hq=>?_⟩
  ·obtain⟨r,hr,hq⟩:=A2W hq
   exact gT e' a' h' hx hA r hr hq
  ·simp only[B9y] at hr
   cases nY:k.ret vs with
   |none=>simp only[nY] at hr;cases hr
   |some r0=>simp only[nY] at hr;cases hr;exact hk.ret a' h' vs r0 iP fY nY hq
  ·have old:∀g0,A1Z (A5u (Sum.inr (α:=s6 (ss.map (·.2)))) k.bX) id=some g0→g0 e'=some r→Ψ (.exit id) a' h':=by
    intro g0 rW iZ
    obtain⟨g1,h1,h2⟩:=A9o _ _ _ rW
    obtain⟨r0,h3,h4⟩:=h2 e' r iZ
    subst h4
    exact hk.bX id g1 e' a' h' r0 h1 hx hA h3 hq
   cases ex with
   |none=>simp only[B2t];rw[if_neg (by simp)];exact old g hg hr
   |some x=>
    simp only[A1Z] at hg
    simp only[B2t]
    cases hb:Nat.beq x id with
    |true=>
     simp only[hb] at hg
     cases hg
     have:=E1 hb
     subst this
     rw[if_pos rfl]
     exact gT e' a' h' hx hA r hr hq
    |false=>
     simp only[hb] at hg
     rw[if_neg (by intro hh;cases hh;simp at hb)]
     exact old g hg hr
 |false=>
  simp only at hd
  refine ef _ _ _ hd ?_
  have gT:∀e' a' h',Ext ds e e'→A0B n e' a'→∀r,e'.dX ss=some r→k.norm (e.join ds ss r) h' Q→Ψ .normal a' h':=
   fun e' a' h' hx hA r ht hq=>hk.norm _ a' h' (A9f jQ r) (hA.join hx ht) hq
  refine⟨fun e' a' h' hx hA hq=>?_,fun a' h' vs r iP fY hr hq=>(by cases hr),fun id g e' a' h' r hg hx hA hr hq=>?_⟩
  ·obtain⟨r,hr,hq⟩:=A2W hq
   exact gT e' a' h' hx hA r hr hq
  ·cases ex with
   |none=>cases hg
   |some x=>
    simp only[A1Z] at hg
    simp only[B2t]
    cases hb:Nat.beq x id with
    |true=>
     simp only[hb] at hg
     cases hg
     have:=E1 hb
     subst this
     rw[if_pos rfl]
     exact gT e' a' h' hx hA r hr hq
    |false=>simp only[hb] at hg;cases hg
theorem B95{c:Code}{Q:Exit→Act→World→Prop}{σ:Type}(J:σ→Act→World→Prop)(μ:σ→World→Nat)(round:∀s a w,J s a w→c.wp P (Exit.then (fun a' w'=>∃s',J s' a' w'∧μ s' w'<μ s w) Q) a w)
  {s:σ}{a:Act}{w:World}(h0:J s a w):(Code.loop c).wp P Q a w:=by
 intro b k cs
 have key:∀m s a w,μ s w=m→J s a w→∃e a' w',Q e a' w'∧Arrives P (lone (b.at a (.code c:: .inLoop c::k)) cs w) b k cs e a' w':=by
  intro m
  induction m using Nat.strongRecOn with
  |_ m ih=>
   intro s a w hm hJ
   obtain⟨e,a1,w1,hq,gZ⟩:=round s a w hJ b (.inLoop c::k) cs
   cases e with
   |normal=>
    obtain⟨s',pq,ah⟩:=hq
    obtain⟨e2,a2,w2,fc,rp⟩:=ih (μ s' w1) (hm▸ah) s' a1 w1 rfl pq
    exact⟨e2,a2,w2,fc,.of_steps (Steps.trans gZ (.one step_inLoop)) rp⟩
   |exit id=>exact⟨_,a1,w1,hq,.pass (x:=.inLoop c) rfl (fun _ _=>.inl (by simp)) gZ⟩
   |goto l=>exact⟨_,a1,w1,hq,.pass (x:=.inLoop c) rfl (fun _ _=>.inl (by simp)) gZ⟩
   |ret=>exact⟨_,a1,w1,hq,.pass (x:=.inLoop c) rfl (fun _ _=>.inl (by simp)) gZ⟩
   |panic ch=>exact⟨_,a1,w1,hq,.pass (x:=.inLoop c) rfl (fun _ _=>.inl (by simp)) gZ⟩
   |outgrown=>exact⟨_,a1,w1,hq,.pass (x:=.inLoop c) rfl (fun _ _=>.inl (by simp)) gZ⟩
 obtain⟨e,a',w',hq,gZ⟩:=key _ s a w rfl h0
 exact⟨e,a',w',hq,.of_steps (.one step_loop) gZ⟩
theorem C4Y(hm:P.follows .mixedOrders=true)(hC:∀f,f∈C→A1H P f):∀(c:Code) (ρ:Type) (e:Env) (k:KK ρ) (h:Heap) (Q:ρ→Heap→Prop) (a:Act) (Ψ:Exit→Act→Heap→Prop),
  den P C n live lc rs c ρ e k h Q→A0B n e a→KOK P n rs (A2M c) e k Q Ψ→HW P c a h Ψ:=by
 intro c
 induction c with
 |skip=>
  intro ρ e k h Q a Ψ hd hA hk w hw
  subst hw
  exact wp_skip ⟨A0i.refl w,hk.norm e a _ (Ext.refl _ _) hA hd⟩
 |region id ops draw=>
  intro ρ e k h Q a Ψ hd hA hk
  exact B40 hm hC hd hA hk.norm
 |seq x y ihx ihy=>
  intro ρ e k h Q a Ψ hd hA hk
  have h1:=ihx ρ e {k with norm:=fun e'=>den P C n live lc rs y ρ e' k} h Q a (fun ex a' h'=>match ex with|.normal=>HW P y a' h' Ψ|ex=>Ψ ex a' h') hd hA
   ⟨fun e' a' h' hx gL hq=>ihy ρ e' k h' Q a' Ψ hq gL (hk.at (fun t ht=>G8 _ ht) (hx.mono fun t ht=>M0 _ ht)),
    fun a' h' vs r iP fY hr hq=>hk.ret a' h' vs r iP fY hr hq,
    fun id g e' a' h' r hg hx gL hr hq=>hk.bX id g e' a' h' r hg (hx.mono fun t ht=>M0 _ ht) gL hr hq⟩
  intro w hw
  refine wp_seq (wp_mono (h1 w hw) ?_)
  rintro ex a' w' ⟨hs,hq⟩
  cases ex with
  |normal=>exact wp_mono (hq w' rfl) fun yR a2 w2 ⟨ae,fc⟩=>⟨hs.trans ae,fc⟩
  |exit id=>exact⟨hs,hq⟩
  |goto l=>exact⟨hs,hq⟩
  |ret=>exact⟨hs,hq⟩
  |panic ch=>exact⟨hs,hq⟩
  |outgrown=>exact⟨hs,hq⟩
 |cond c x y ihx ihy=>
  intro ρ e k h Q a Ψ hd hA hk
  simp only[den] at hd
  cases hc:e.ev c with
  |none=>simp only[hc] at hd;exact hd.elim
  |some v=>
   cases v<;>simp only[hc] at hd<;>try exact hd.elim
   rename_i t
   have pc:=hA.ev hc
   have inner:∀(ρ':Type) (k':KK ρ') (Q':ρ'→Heap→Prop),A1G t (den P C n live lc rs x ρ' e k') (den P C n live lc rs y ρ' e k') h Q'→KOK P n rs (A2M x++A2M y) e k' Q' Ψ→HW P (.cond c x y) a h Ψ:=by
    intro ρ' k' Q' hd hk w hw
    refine wp_cond pc ?_
    simp only[A1G] at hd
    cases t with
    |true=>
     rw[if_pos rfl] at hd⊢
     exact ihx ρ' e k' h Q' a Ψ hd hA (hk.at (fun t ht=>M0 _ ht) (Ext.refl _ _)) w hw
    |false=>
     rw[if_neg (by simp)] at hd⊢
     exact ihy ρ' e k' h Q' a Ψ hd hA (hk.at (fun t ht=>G8 _ ht) (Ext.refl _ _)) w hw
   cases hn:A3x x&&A3x y with
   |false=>simp only[hn] at hd;exact inner ρ k Q hd hk
   |true=>
    simp only[hn] at hd
    have e0:B2t none Ψ=Ψ:=by
     funext ex a' h'
     cases ex<;>simp[B2t]
    exact B4o (fun p hp=>A6m e _ p hp) hk hd (fun ρ' k' Q' hi ij=>inner ρ' k' Q' hi (by rw[e0] at ij;exact ij))
 |block id x ih=>
  intro ρ e k h Q a Ψ hd hA hk
  have fin:HW P x a h (B2t (some id) Ψ)→HW P (.block id x) a h Ψ:=by
   intro hx w hw
   refine wp_block (wp_mono (hx w hw) ?_)
   rintro ex a' w' ⟨hs,hq⟩
   cases ex with
   |exit id'=>
    simp only[B2t] at hq
    simp only[Exit.inBlock]
    by_cases hid:id'=id
    ·subst hid;rw[if_pos rfl] at hq⊢;exact⟨hs,hq⟩
    ·rw[if_neg (by intro hh;cases hh;exact hid rfl)] at hq
     rw[if_neg hid]
     exact⟨hs,hq⟩
   |normal=>exact⟨hs,hq⟩
   |goto l=>exact⟨hs,hq⟩
   |ret=>exact⟨hs,hq⟩
   |panic ch=>exact⟨hs,hq⟩
   |outgrown=>exact⟨hs,hq⟩
  simp only[den] at hd
  cases hx:A3x.canExit id x with
  |true=>
   simp only[hx] at hd
   exact B4o (fun p hp=>A6m e _ p hp) hk hd (fun ρ' k' Q' hi ij=>fin (ih ρ' e k' h Q' a _ hi hA ij))
  |false=>
   simp only[hx] at hd
   refine fin (ih ρ e _ h Q a _ hd hA ⟨hk.norm,hk.ret,fun id' g e' a' h' r hg hx gL hr hq=>?_⟩)
   obtain⟨h1,h2⟩:=A8b id _ _ _ hg
   simp only[B2t]
   rw[if_neg (by intro hh;cases hh;exact h1 rfl)]
   exact hk.bX id' g e' a' h' r h2 hx gL hr hq
 |loop x ih=>
  intro ρ e k h Q a Ψ hd hA hk
  simp only[den] at hd
  cases ht:e.dX (carried lc e (A2M x)) with
  |none=>simp only[ht] at hd;exact hd.elim
  |some s0=>
   simp only[ht] at hd
   obtain⟨I,μ,hI,nR⟩:=hd
   have jQ:∀p∈carried lc e (A2M x),p.1∈A2M x:=fun p hp=>A6m e _ p hp
   intro w0 kA
   refine B95 (J:=fun y a w=>A0i w0 w∧A0B n (e.join (A2M x) (carried lc e (A2M x)) y) a∧I y w.heap) (μ:=fun y w=>μ y w.heap) ?_ (s:=s0) ⟨A0i.refl _,hA.join (Ext.refl _ _) ht,by rw[kA];exact hI⟩
   rintro y a1 w1 ⟨aa,jE,yh⟩
   have hb:=nR y w1.heap yh
   have:=ih _ _ _ w1.heap _ a1 (fun ex a' h'=>match ex with
    |.normal=>∃s',A0B n (e.join (A2M x) (carried lc e (A2M x)) s') a'∧I s' h'∧μ s' h'<μ y w1.heap
    |ex=>Ψ ex a' h') hb jE ⟨fun e' a' h' hx gL hq=>?_,fun a' h' vs r iP fY hr hq=>?_,fun id g e' a' h' r hg hx gL hr hq=>?_⟩
   ·refine wp_mono (this w1 rfl) ?_
    rintro ex a' w' ⟨hs,hq⟩
    cases ex with
    |normal=>
     obtain⟨s',h1,h2,h3⟩:=hq
     exact⟨s',⟨aa.trans hs,h1,h2⟩,h3⟩
    |exit id=>exact⟨aa.trans hs,hq⟩
    |goto l=>exact⟨aa.trans hs,hq⟩
    |ret=>exact⟨aa.trans hs,hq⟩
    |panic ch=>exact⟨aa.trans hs,hq⟩
    |outgrown=>exact⟨aa.trans hs,hq⟩
   ·obtain⟨r,hr,hq⟩:=A2W hq
    cases tf:e'.dX (carried lc e (A2M x)) with
    |none=>rw[tf] at hr;cases hr
    |some z=>
     rw[tf] at hr;cases hr
     exact⟨z,gL.join ((A9f jQ y).trans hx) tf,hq.1,hq.2⟩
   ·simp only[B9y] at hr
    cases nY:k.ret vs with
    |none=>simp only[nY] at hr;cases hr
    |some r0=>simp only[nY] at hr;cases hr;exact hk.ret a' h' vs r0 iP fY nY hq
   ·obtain⟨g1,h1,h2⟩:=A9o _ _ _ hg
    obtain⟨r0,h3,h4⟩:=h2 e' r hr
    subst h4
    exact hk.bX id g1 e' a' h' r0 h1 ((A9f jQ y).trans hx) gL h3 hq
 |exit id=>
  intro ρ e k h Q a Ψ hd hA hk w hw
  subst hw
  simp only[den] at hd
  cases hg:A1Z k.bX id with
  |none=>simp only[hg] at hd;exact hd.elim
  |some g=>
   simp only[hg] at hd
   obtain⟨r,hr,hq⟩:=A2W hd
   exact wp_exit ⟨A0i.refl w,hk.bX id g e a _ r hg (Ext.refl _ _) hA hr hq⟩
 |ret=>
  intro ρ e k h Q a Ψ hd hA hk w hw
  subst hw
  simp only[den] at hd
  obtain⟨vs,dr,hq⟩:=A4V hA rs _ hd
  obtain⟨r,hr,hq⟩:=A2W hq
  exact wp_ret ⟨A0i.refl w,hk.ret a _ vs r hA.defers dr hr hq⟩
 |_=>intro ρ e k h Q a Ψ hd hA hk;exact hd.elim
def C5V:D0r→Value
 |[v]=>v
 |vs=>.tuple vs.toArray
def packed(ks:List Kind)(x:s6 ks):Value:=C5V (s6.cC ks x)
theorem C0r{fn:Func}{a:Act}{w:World}{vs:D0r}(h:C31 P fn.results.toList a w.heap vs):(results fn a.tmps).run P w=.ok (C5V vs) w:=by
 have hm:(fn.results.mapM (B71 a)).run P w=.ok vs.toArray w:=by
  rw[Array.mapM_eq_mapM_toList]
  simp only[Sem.run_map]
  rw[h w rfl]
  rfl
 have e1:results fn a.tmps=(do let vs←fn.results.mapM (B71 a);pure (if h:vs.size=1 then vs[0] else .tuple vs)):=by
  unfold results
  congr 1
 rw[e1]
 simp only[Sem.run_bind,hm,Result.andThen_ok,Sem.run_pure]
 congr 1
 match vs with
 |[]=>rfl
 |[v]=>rfl
 |u::v::r=>rfl
theorem C06:∀(args:D0r) (i t:Nat) (v:Value),Env.get ((args.zipIdx i).map fun(v,i)=>(i,v)) t=some v→i≤t∧args[t-i]? =some v
 |[],_,_,_,h=>by cases h
 |x::args,i,t,v,h=>by
  simp only[List.zipIdx_cons,B5,Env.get] at h
  cases hb:Nat.beq i t with
  |true=>
   rw[hb] at h
   have:=E1 hb
   subst this
   cases h
   simp
  |false=>
   rw[hb] at h
   obtain⟨h1,h2⟩:=C06 args (i+1) t v h
   refine⟨by omega,?_⟩
   rw[show t-i=(t-(i+1))+1 from by omega]
   simpa using h2
theorem B2L{f:FuncId}{fn:Func}{ks:List Kind}{args:D0r}{h:Heap}{Q:Value→Heap→Prop}(hf:P.funcs[f]? =some fn)(hb:fn.body.isSome=true)(hn:fn.ntmps=n)(hlen:Nat.ble args.length n=true)
  (hC:∀f,f∈C→A1H P f)(hm:P.follows .mixedOrders=true)(hd:C6E P C n live lc fn.results.toList ks (B66 fn) args h fun x h'=>Q (packed ks x) h'):V9 P f args.toArray h Q:=by
 obtain⟨c,hc⟩:=Option.isSome_iff_exists.1 hb
 have ra:B66 fn=c:=by simp[B66,hc]
 rw[ra] at hd
 intro w hw
 subst hw
 refine calls_of_wp hf hc ?_
 have hle:=O8 hlen
 have hA:A0B n (args.zipIdx.map fun(v,i)=>(i,v)) {tmps:=args.toArray++Array.replicate (fn.ntmps-args.toArray.size) undef,defers:=[]}:=by
  refine⟨by simp[hn];omega,rfl,fun t v ht=>?_⟩
  obtain⟨-,h2⟩:=C06 args 0 t v ht
  simp only[Nat.sub_zero] at h2
  have ah:t<args.length:=by
   rcases U0 t args.length with hh|hh
   ·exact hh
   ·rw[List.getElem?_eq_none hh] at h2;cases h2
  simp[Array.getElem?_append,ah,h2]
  rw[B0 ah] at h2
  exact R8 h2
 have bC:∀(a':Act) (h':Heap) (vs:D0r) (r:s6 ks),a'.defers=[]→C31 P fn.results.toList a' h' vs→s6.get ks vs=some r→Q (packed ks r) h'→
   a'.defers=[]∧∃v,(∀w',w'.heap=h'→(results fn a'.tmps).run P w'=.ok v w')∧Q v h':=by
  intro a' h' vs r iP fY hr hq
  refine⟨iP,C5V vs,fun w' jN=>by subst jN;exact C0r fY,?_⟩
  have:=s6.bH _ _ _ hr
  rw[this];exact hq
 have nP:=C4Y (live:=live) (lc:=lc) (rs:=fn.results.toList) hm hC c (s6 ks) _ _ w.heap _ _
  (fun ex a' h'=>match ex with
   |.normal=>a'.defers=[]∧∃v,(∀w',w'.heap=h'→(results fn a'.tmps).run P w'=.ok v w')∧Q v h'
   |.ret=>a'.defers=[]∧∃v,(∀w',w'.heap=h'→(results fn a'.tmps).run P w'=.ok v w')∧Q v h'
   |_=>False) hd hA
  ⟨fun e' a' h' hx gL hq=>by
   obtain⟨vs,dr,hq⟩:=A4V gL _ _ hq
   obtain⟨r,hr,hq⟩:=A2W hq
   exact bC a' h' vs r gL.defers dr hr hq,
   fun a' h' vs r iP fY hr hq=>bC a' h' vs r iP fY hr hq,
   fun id g e' a' h' r hg=>by cases hg⟩
 refine wp_mono (nP w rfl) ?_
 rintro ex a' w' ⟨hs,hq⟩
 cases ex with
 |normal=>
  obtain⟨iP,v,hv,hq⟩:=hq
  exact⟨iP,v,hv w' rfl,v,rfl,hs,hq⟩
 |ret=>
  obtain⟨iP,v,hv,hq⟩:=hq
  exact⟨iP,v,hv w' rfl,v,rfl,hs,hq⟩
 |exit id=>exact hq.elim
 |goto l=>exact hq.elim
 |panic ch=>exact hq.elim
 |outgrown=>exact hq.elim
end
end
end Go.H