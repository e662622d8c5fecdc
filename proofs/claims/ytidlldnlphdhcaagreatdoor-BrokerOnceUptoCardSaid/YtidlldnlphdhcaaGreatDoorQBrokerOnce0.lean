/-
  Our texts, packed by program.
-/
import Derived.Calls
import Derived.Orders
import Derived.Laws.Sem
import Derived.Laws.World
import Derived.Laws.Entries
import Derived.Laws.Strings
import Derived.Laws.StructEq
import Derived.Laws.BytesString
set_option linter.unusedSimpArgs false
set_option linter.unusedVariables false
set_option maxHeartbeats 16000000
set_option maxRecDepth 100000
namespace Go.H
abbrev B38:=ByteArray
abbrev D0s:=Option Addr
abbrev D0t:=Array Value
abbrev D0u:=List Value
end Go.H
namespace Go.H
theorem B0.{u}:type_of% @List.getElem?_eq_getElem.{u}:=@List.getElem?_eq_getElem
theorem B3.{u,v}:type_of% @List.mem_map_of_mem.{u,v}:=@List.mem_map_of_mem
theorem B4.{u}:type_of% @List.mem_cons_self.{u}:=@List.mem_cons_self
theorem B5.{u}:type_of% @List.length_append.{u}:=@List.length_append
theorem B6.{u,v}:type_of% @List.map_cons.{u,v}:=@List.map_cons
theorem B7.{u}:type_of% @List.length_cons.{u}:=@List.length_cons
theorem B8.{u}:type_of% @List.mem_singleton.{u}:=@List.mem_singleton
theorem C0.{u,v}:type_of% @List.map_append.{u,v}:=@List.map_append
theorem C1.{u,v}:type_of% @List.length_map.{u,v}:=@List.length_map
theorem C2.{u}:type_of% @List.append_nil.{u}:=@List.append_nil
theorem C3.{u}:type_of% @List.mem_cons_of_mem.{u}:=@List.mem_cons_of_mem
theorem C4.{u}:type_of% @List.take_succ_eq_append_getElem.{u}:=@List.take_succ_eq_append_getElem
theorem C7:type_of% @Nat.le_trans:=@Nat.le_trans
theorem C9.{u}:type_of% @List.mem_append.{u}:=@List.mem_append
theorem D1:type_of% @Nat.zero_le:=@Nat.zero_le
theorem D2.{u}:type_of% @List.mem_cons.{u}:=@List.mem_cons
theorem D3.{u}:type_of% @List.length_filter_le.{u}:=@List.length_filter_le
theorem D4.{u}:type_of% @List.take_of_length_le.{u}:=@List.take_of_length_le
theorem D5.{u,v,w}:type_of% @Sum.elim_inl.{u,v,w}:=@Sum.elim_inl
theorem D6.{u}:type_of% @List.append_assoc.{u}:=@List.append_assoc
theorem D7.{u,v}:type_of% @List.flatMap_cons.{u,v}:=@List.flatMap_cons
theorem D8:type_of% @Nat.le_refl:=@Nat.le_refl
theorem D9.{u}:type_of% @List.mem_filter.{u}:=@List.mem_filter
theorem E0.{u}:type_of% @List.getElem?_eq_some_iff.{u}:=@List.getElem?_eq_some_iff
theorem E1.{u}:type_of% @List.drop_eq_getElem_cons.{u}:=@List.drop_eq_getElem_cons
theorem E3:type_of% @Nat.eq_of_beq_eq_true:=@Nat.eq_of_beq_eq_true
theorem E4.{u,v}:type_of% @List.mem_map.{u,v}:=@List.mem_map
theorem E6.{u}:type_of% @List.length_take.{u}:=@List.length_take
theorem E7.{u,v,w}:type_of% @Sum.elim_inr.{u,v,w}:=@Sum.elim_inr
theorem E8.{u}:type_of% @List.find?_eq_none.{u}:=@List.find?_eq_none
theorem E9:type_of% @Bool.and_eq_true:=@Bool.and_eq_true
theorem F0.{u}:type_of% @List.nil_append.{u}:=@List.nil_append
theorem F1.{u,v,w}:type_of% @List.map_map.{u,v,w}:=@List.map_map
theorem F2.{u}:type_of% @List.filter_append.{u}:=@List.filter_append
theorem F3.{u}:type_of% @List.mem_of_getElem?.{u}:=@List.mem_of_getElem?
theorem F4.{u}:type_of% @List.nodup_cons.{u}:=@List.nodup_cons
theorem F5.{u}:type_of% @List.take_length.{u}:=@List.take_length
theorem F6.{u}:type_of% @Option.some.injEq.{u}:=@Option.some.injEq
theorem F7.{u}:type_of% @Array.getElem?_eq_getElem.{u}:=@Array.getElem?_eq_getElem
theorem F8.{u}:type_of% @Array.getElem?_eq_some_iff.{u}:=@Array.getElem?_eq_some_iff
theorem F9.{u}:type_of% @List.filter_cons_of_neg.{u}:=@List.filter_cons_of_neg
theorem G0:type_of% @decide_eq_decide:=@decide_eq_decide
theorem G1.{u}:type_of% @List.nodup_append.{u}:=@List.nodup_append
theorem G2.{u}:type_of% @Array.getD_eq_getD_getElem?.{u}:=@Array.getD_eq_getD_getElem?
theorem G3.{u}:type_of% @List.cons_append.{u}:=@List.cons_append
theorem G4:type_of% @Bool.true_and:=@Bool.true_and
theorem G5.{u}:type_of% @List.Sublist.refl.{u}:=@List.Sublist.refl
theorem G6.{u}:type_of% @List.mem_append_right.{u}:=@List.mem_append_right
theorem G7.{u}:type_of% @List.length_nil.{u}:=@List.length_nil
theorem G8.{u}:type_of% @List.getElem_mem.{u}:=@List.getElem_mem
theorem G9.{u}:type_of% @List.filter_cons_of_pos.{u}:=@List.filter_cons_of_pos
theorem H0.{u}:type_of% @List.append_of_mem.{u}:=@List.append_of_mem
theorem H2.{u}:type_of% @List.mem_of_find?_eq_some.{u}:=@List.mem_of_find?_eq_some
theorem H3.{u,v}:type_of% @List.foldl_cons.{u,v}:=@List.foldl_cons
theorem H4.{u}:type_of% @List.filter_eq_self.{u}:=@List.filter_eq_self
theorem H5.{u}:type_of% @List.pairwise_cons.{u}:=@List.pairwise_cons
theorem H6.{u}:type_of% @Array.getElem?_setIfInBounds.{u}:=@Array.getElem?_setIfInBounds
theorem H7.{u}:type_of% @beq_eq_false_iff_ne.{u}:=@beq_eq_false_iff_ne
theorem H8.{u}:type_of% @List.filter_cons.{u}:=@List.filter_cons
theorem H9:type_of% @Bool.false_eq_true:=@Bool.false_eq_true
theorem I0.{u}:type_of% @List.take_add_one.{u}:=@List.take_add_one
theorem I1.{u,v}:type_of% @List.flatMap_nil.{u,v}:=@List.flatMap_nil
theorem I2.{u,v}:type_of% @List.map_congr_left.{u,v}:=@List.map_congr_left
theorem I3.{u,v}:type_of% @List.map_nil.{u,v}:=@List.map_nil
theorem I4.{u}:type_of% @List.filter_sublist.{u}:=@List.filter_sublist
theorem I5.{u}:type_of% @Array.toList_inj.{u}:=@Array.toList_inj
theorem I6.{u,v}:type_of% @List.flatMap_append.{u,v}:=@List.flatMap_append
theorem I7.{u}:type_of% @List.pairwise_append.{u}:=@List.pairwise_append
theorem I8.{u}:type_of% @List.all_eq_true.{u}:=@List.all_eq_true
theorem I9.{u}:type_of% @List.Perm.refl.{u}:=@List.Perm.refl
theorem J0.{u}:type_of% @List.filter_eq_nil_iff.{u}:=@List.filter_eq_nil_iff
theorem J1.{u}:type_of% @List.findIdx?_eq_some_iff_getElem.{u}:=@List.findIdx?_eq_some_iff_getElem
theorem J2:type_of% @Nat.succ_mul:=@Nat.succ_mul
theorem J3.{u}:type_of% @List.take_append_drop.{u}:=@List.take_append_drop
theorem J4:type_of% @Nat.add_mul:=@Nat.add_mul
theorem J5.{u}:type_of% @List.filter_nil.{u}:=@List.filter_nil
theorem J6.{u}:type_of% @List.length_take_le.{u}:=@List.length_take_le
theorem J7:type_of% @Bool.false_and:=@Bool.false_and
theorem J8.{u}:type_of% @List.drop_length.{u}:=@List.drop_length
theorem J9:type_of% @Nat.le_add_right:=@Nat.le_add_right
theorem K6.{u}:type_of% @List.length_eq_zero_iff.{u}:=@List.length_eq_zero_iff
theorem K7.{u,v}:type_of% @List.getElem?_map.{u,v}:=@List.getElem?_map
theorem K8.{u}:type_of% @List.filter_congr.{u}:=@List.filter_congr
theorem K9.{u}:type_of% @List.mem_append_left.{u}:=@List.mem_append_left
theorem L7:type_of% @Nat.zero_add:=@Nat.zero_add
theorem L8.{u}:type_of% @List.getElem?_take.{u}:=@List.getElem?_take
theorem L9.{u}:type_of% @List.drop_of_length_le.{u}:=@List.drop_of_length_le
theorem M0.{u}:type_of% @List.find?_some.{u}:=@List.find?_some
theorem M9.{u}:type_of% @Array.getElem?_push.{u}:=@Array.getElem?_push
theorem N0:type_of% @Nat.one_mul:=@Nat.one_mul
theorem N3.{u}:type_of% @Array.length_toList.{u}:=@Array.length_toList
theorem N4:type_of% @Bool.not_true:=@Bool.not_true
theorem N5.{u}:type_of% @List.getElem?_drop.{u}:=@List.getElem?_drop
theorem N6.{u,v}:type_of% @Option.bind_some.{u,v}:=@Option.bind_some
theorem N7.{u}:type_of% @List.length_filter_eq_length_iff.{u}:=@List.length_filter_eq_length_iff
theorem N8.{u}:type_of% @List.exists_cons_of_ne_nil.{u}:=@List.exists_cons_of_ne_nil
theorem N9:type_of% @Int.toNat_natCast:=@Int.toNat_natCast
theorem O0:type_of% @Bool.not_eq_true':=@Bool.not_eq_true'
theorem O1.{u}:type_of% @List.findIdx?_eq_none_iff.{u}:=@List.findIdx?_eq_none_iff
theorem O2:type_of% @Classical.byContradiction:=@Classical.byContradiction
theorem O3.{u}:type_of% @Array.getElem?_modify.{u}:=@Array.getElem?_modify
theorem O4:type_of% @Nat.add_zero:=@Nat.add_zero
theorem O6:type_of% @Nat.le_of_ble_eq_true:=@Nat.le_of_ble_eq_true
theorem O7.{u}:type_of% @List.length_mergeSort.{u}:=@List.length_mergeSort
theorem O8.{u,v}:type_of% @List.filterMap_cons_some.{u,v}:=@List.filterMap_cons_some
theorem O9.{u}:type_of% @List.drop_append_of_le_length.{u}:=@List.drop_append_of_le_length
theorem P0.{u}:type_of% @List.take_append_of_le_length.{u}:=@List.take_append_of_le_length
theorem P1.{u}:type_of% @List.getElem?_cons_zero.{u}:=@List.getElem?_cons_zero
theorem P2.{u}:type_of% @List.getElem?_cons_succ.{u}:=@List.getElem?_cons_succ
theorem P3.{u,v}:type_of% @List.foldl_nil.{u,v}:=@List.foldl_nil
theorem P4.{u}:type_of% @List.find?_append.{u}:=@List.find?_append
theorem P5.{u,v}:type_of% @List.pairwise_map.{u,v}:=@List.pairwise_map
theorem P6.{u}:type_of% @Array.toList_setIfInBounds.{u}:=@Array.toList_setIfInBounds
theorem P7.{u}:type_of% @List.perm_ext_iff_of_nodup.{u}:=@List.perm_ext_iff_of_nodup
theorem P8.{u}:type_of% @List.perm_middle.{u}:=@List.perm_middle
theorem P9.{u}:type_of% @beq_iff_eq.{u}:=@beq_iff_eq
theorem Q0.{u}:type_of% @Classical.choose_spec.{u}:=@Classical.choose_spec
theorem Q3:type_of% @Nat.sub_self:=@Nat.sub_self
theorem Q4.{u}:type_of% @List.Perm.append_left.{u}:=@List.Perm.append_left
theorem Q5.{u}:type_of% @List.pairwise_iff_getElem.{u}:=@List.pairwise_iff_getElem
theorem Q6.{u}:type_of% @Array.toArray_toList.{u}:=@Array.toArray_toList
theorem Q7:type_of% @Nat.mul_le_mul_right:=@Nat.mul_le_mul_right
theorem Q8.{u,v,w}:type_of% @Function.comp_def.{u,v,w}:=@Function.comp_def
theorem Q9.{u}:type_of% @List.append_cancel_left.{u}:=@List.append_cancel_left
theorem R0.{u}:type_of% @List.mergeSort_perm.{u}:=@List.mergeSort_perm
theorem R1.{u}:type_of% @List.not_mem_nil.{u}:=@List.not_mem_nil
theorem R2.{u}:type_of% @List.length_drop.{u}:=@List.length_drop
theorem R3:type_of% @List.mem_range:=@List.mem_range
theorem R4.{u}:type_of% @List.nodup_nil.{u}:=@List.nodup_nil
theorem R5.{u}:type_of% @Array.getElem?_eq_none.{u}:=@Array.getElem?_eq_none
theorem R6.{u}:type_of% @List.find?_cons_of_pos.{u}:=@List.find?_cons_of_pos
theorem R7.{u}:type_of% @List.filter_filter.{u}:=@List.filter_filter
theorem R8.{u,v}:type_of% @Option.map_some.{u,v}:=@Option.map_some
theorem R9.{u,v}:type_of% @List.filter_map.{u,v}:=@List.filter_map
theorem S0:type_of% @Nat.le_succ:=@Nat.le_succ
theorem S3:type_of% @Bool.false_or:=@Bool.false_or
theorem S4.{u}:type_of% @List.drop_zero.{u}:=@List.drop_zero
theorem S5:type_of% @UInt8.toNat_lt:=@UInt8.toNat_lt
theorem S6:type_of% @Bool.not_false:=@Bool.not_false
theorem S7.{u,v}:type_of% @List.mem_flatMap.{u,v}:=@List.mem_flatMap
theorem S8:type_of% @Int.le_refl:=@Int.le_refl
theorem S9:type_of% @Nat.lt_or_ge:=@Nat.lt_or_ge
theorem T4:type_of% @Nat.zero_mul:=@Nat.zero_mul
theorem T5:type_of% @Nat.le_of_eq:=@Nat.le_of_eq
theorem T6.{u}:type_of% @List.map_id.{u}:=@List.map_id
end Go.H
namespace Go.H
abbrev Heap:=Array Obj
def W3(h:Heap)(a:Addr):Option Value:=
 match h[a.block]? with
 |some (.cells c _ _)=>if a.spot.isSome then none else c[a.off]?
 |_=>none
def A2q(h:Heap)(a:Addr):Bool:=
 match h[a.block]? with
 |some (.cells _ _ (lo,hi))=>lo≤a.off&&a.off<hi
 |_=>false
def A2A(h:Heap)(a:Addr)(v:Value):Heap:=
 h.modify a.block fun
  |.cells c elem frozen=>.cells (if a.spot.isSome then c else c.setIfInBounds a.off v) elem frozen
  |o=>o
theorem B9P(w:World)(a:Addr):w.cell? a=W3 w.heap a:=rfl
theorem C4L(w:World)(a:Addr):w.frozen? a=A2q w.heap a:=rfl
theorem B8T(w:World)(a:Addr)(v:Value):(w.setCell a v).heap=A2A w.heap a v:=rfl
structure A0d(w w':World):Prop where
 os:w'.os=w.os
 tape:w'.tape=w.tape
 output:w'.output=w.output
theorem A0d.refl(w:World):A0d w w:=⟨rfl,rfl,rfl⟩
theorem A0d.trans{a b c:World}(h:A0d a b)(k:A0d b c):A0d a c:=⟨k.os.trans h.os,k.tape.trans h.tape,k.output.trans h.output⟩
def V4(P:Program)(f:FuncId)(args:D0t)(h:Heap)(Q:Value→Heap→Prop):Prop:=
 ∀w,w.heap=h→Calls P f args w fun e w'=>∃v,e=.returned v∧A0d w w'∧Q v w'.heap
theorem V4.mono{P:Program}{f:FuncId}{args:D0t}{h:Heap}{Q Q':Value→Heap→Prop}
  (hc:V4 P f args h Q)(hq:∀v h',Q v h'→Q' v h'):V4 P f args h Q':=
 fun w hw=>(hc w hw).mono fun _ _ ⟨v,he,hs,q⟩=>⟨v,he,hs,hq _ _ q⟩
structure Slc where
 a:D0s
 len:Nat
 cap:Nat
 deriving Inhabited
inductive Tag where
 |int (k:IntKind)|bool|str|ptr|slc|map|any
abbrev Tag.ty:Tag→Type
 |.int _=>Int
 |.bool=>Bool
 |.str=>B38
 |.ptr=>D0s
 |.slc=>Slc
 |.map=>Option Nat
 |.any=>Value
def Tag.val:(t:Tag)→t.ty→Value
 |.int k,n=>.int k n
 |.bool,b=>.bool b
 |.str,s=>.string s
 |.ptr,p=>.pointer p
 |.slc,s=>.slice s.a s.len s.cap
 |.map,r=>.map r
 |.any,v=>v
def B0R:IntKind→IntKind→Bool
 |.i8,.i8=>true
 |.i16,.i16=>true
 |.i32,.i32=>true
 |.i64,.i64=>true
 |.u8,.u8=>true
 |.u16,.u16=>true
 |.u32,.u32=>true
 |.u64,.u64=>true
 |_,_=>false
theorem A7L{a b:IntKind}(h:B0R a b=true):a=b:=by
 cases a<;>cases b<;>first|rfl|cases h
def Tag.get:(t:Tag)→Value→Option t.ty
 |.int k,.int k' n=>if B0R k k'=true then some n else none
 |.bool,.bool b=>some b
 |.str,.string s=>some s
 |.ptr,.pointer p=>some p
 |.slc,.slice a n c=>some ⟨a,n,c⟩
 |.map,.map r=>some r
 |.any,v=>some v
 |_,_=>none
theorem Tag.bT{t:Tag}{v:Value}{x:t.ty}(h:t.get v=some x):v=t.val x:=by
 cases t<;>cases v<;>simp[Tag.get] at h<;>(try(obtain⟨h1,h2⟩:=h;have:=A7L h1;subst this))<;>simp_all [Tag.val]
 subst h;exact⟨rfl,rfl,rfl⟩
def Tag.of:Value→Option Tag
 |.int k _=>some (.int k)
 |.bool _=>some .bool
 |.string _=>some .str
 |.pointer _=>some .ptr
 |.slice .. =>some .slc
 |.map _=>some .map
 |.agg _=>none
 |.tuple _=>none
 |_=>some .any
abbrev HT{α:Type}(ty:α→Type):List α→Type
 |[]=>Unit
 |t::ts=>ty t×HT ty ts
def HT.cC{α:Type}{ty:α→Type}(val:(t:α)→ty t→Value):(ts:List α)→HT ty ts→D0u
 |[],_=>[]
 |t::ts,x=>val t x.1::HT.cC val ts x.2
def HT.get{α:Type}{ty:α→Type}(get:(t:α)→Value→Option (ty t)):(ts:List α)→D0u→Option (HT ty ts)
 |[],[]=>some ()
 |[],_::_=>none
 |_::_,[]=>none
 |t::ts,v::vs=>match get t v with
  |some x=>match HT.get get ts vs with
   |some y=>some (x,y)
   |none=>none
  |none=>none
theorem HT.bK{α:Type}{ty:α→Type}{val:(t:α)→ty t→Value}{get:(t:α)→Value→Option (ty t)}(hg:∀t v x,get t v=some x→v=val t x)
  (ts:List α):∀(vs:D0u) (x:HT ty ts),HT.get get ts vs=some x→vs=HT.cC val ts x:=by
 induction ts with
 |nil=>intro vs x h;cases vs with
  |nil=>rfl
  |cons v vs=>cases h
 |cons t ts ih=>intro vs x h;cases vs with
  |nil=>cases h
  |cons v vs=>
   simp only[HT.get] at h
   cases h1:get t v with
   |none=>rw[h1] at h;cases h
   |some y=>
    rw[h1] at h
    simp only at h
    cases h2:HT.get get ts vs with
    |none=>rw[h2] at h;cases h
    |some z=>
     rw[h2] at h
     cases h
     show v::vs=val t y::HT.cC val ts z
     rw[←ih vs z h2,←hg t v y h1]
abbrev Tup(ts:List Tag):Type:=HT Tag.ty ts
abbrev Tup.cC(ts:List Tag)(x:Tup ts):D0u:=HT.cC Tag.val ts x
abbrev Tup.get(ts:List Tag)(vs:D0u):Option (Tup ts):=HT.get Tag.get ts vs
theorem Tup.bK(ts:List Tag)(vs:D0u)(x:Tup ts)(h:Tup.get ts vs=some x):vs=Tup.cC ts x:=
 HT.bK (val:=Tag.val) (get:=Tag.get) (fun t _ _ h=>Tag.bT (t:=t) h) ts vs x h
inductive Kind where
 |one (t:Tag)
 |agg (ts:List Tag)
abbrev Kind.ty:Kind→Type
 |.one t=>t.ty
 |.agg ts=>Tup ts
def Kind.val:(k:Kind)→k.ty→Value
 |.one t,x=>t.val x
 |.agg ts,x=>.agg (Tup.cC ts x).toArray
def Kind.get:(k:Kind)→Value→Option k.ty
 |.one t,v=>t.get v
 |.agg ts,.agg cs=>Tup.get ts cs.toList
 |.agg _,_=>none
theorem Kind.bT{k:Kind}{v:Value}{x:k.ty}(h:k.get v=some x):v=k.val x:=by
 cases k with
 |one t=>exact Tag.bT h
 |agg ts=>
  cases v<;>simp only[Kind.get] at h<;>try cases h
  rename_i cs
  simp only[Kind.val]
  rw[←Tup.bK ts _ x h]
def C5l:D0u→Option (List Tag)
 |[]=>some []
 |v::vs=>match Tag.of v with
  |some t=>match C5l vs with
   |some ts=>some (t::ts)
   |none=>none
  |none=>none
def Kind.of:Value→Option Kind
 |.agg cs=>match C5l cs.toList with
  |some ts=>some (.agg ts)
  |none=>none
 |v=>match Tag.of v with
  |some t=>some (.one t)
  |none=>none
def kindOf(P:Program)(t:TypeId):Option Kind:=
 match P.info? t with
 |some i=>match i.zero with
  |some z=>Kind.of z
  |none=>none
 |none=>none
abbrev r9(ks:List Kind):Type:=HT Kind.ty ks
abbrev r9.cC(ks:List Kind)(x:r9 ks):D0u:=HT.cC Kind.val ks x
abbrev r9.get(ks:List Kind)(vs:D0u):Option (r9 ks):=HT.get Kind.get ks vs
theorem r9.bK(ks:List Kind)(vs:D0u)(x:r9 ks)(h:r9.get ks vs=some x):vs=r9.cC ks x:=
 HT.bK (val:=Kind.val) (get:=Kind.get) (fun k _ _ h=>Kind.bT (k:=k) h) ks vs x h
abbrev HM(α:Type):Type:=Heap→(α→Heap→Prop)→Prop
def X2{α:Type}(a:α):HM α:=fun h Q=>Q a h
def HM.bind{α β:Type}(m:HM α)(f:α→HM β):HM β:=fun h Q=>m h fun a h'=>f a h' Q
def U5{α:Type}:HM α:=fun _ _=>False
def A1v{α:Type}(b:Bool)(x y:HM α):HM α:=fun h Q=>if b=true then x h Q else y h Q
def A3d{α:Type}(p:Prop)(m:HM α):HM α:=fun h Q=>p∧m h Q
def A0L{α:Type}(x y:HM α):HM α:=fun h Q=>x h Q∧y h Q
def HM.loop{σ τ:Type}(body:σ→HM (σ⊕τ))(s:σ):HM τ:=fun h Q=>
 ∃(I:σ→Heap→Prop) (μ:σ→Heap→Nat),I s h∧∀s h,I s h→
  body s h fun r h'=>match r with
   |.inl s'=>I s' h'∧μ s' h'<μ s h
   |.inr t=>Q t h'
def p8(t:Tag)(a:Addr):HM t.ty:=fun h Q=>∃x,W3 h a=some (t.val x)∧Q x h
def o6(ts:List Tag)(a:Addr):HM (Tup ts):=fun h Q=>
 ∃x,(∀i v,(Tup.cC ts x)[i]? =some v→W3 h (a.add i)=some v)∧Q x h
def A7e(a:Addr)(v:Value):HM Unit:=fun h Q=>
 (W3 h a).isSome=true∧A2q h a=false∧v.oneCell'=true∧Q () (A2A h a v)
def A2l(h:Heap)(a:Addr):D0u→Nat→Heap
 |[],_=>h
 |v::vs,i=>A2l (A2A h (a.add i) v) a vs (i+1)
def B0n(a:Addr)(vs:D0u):HM Unit:=fun h Q=>
 (∀i v,vs[i]? =some v→(W3 h (a.add i)).isSome=true∧A2q h (a.add i)=false∧v.oneCell'=true)∧Q () (A2l h a vs 0)
def HM.new(o:Obj):HM Nat:=fun h Q=>Q h.size (h.push o)
def A8r(p:D0s):HM Addr:=fun h Q=>∃a,p=some a∧Q a h
def A32(a:D0s)(len:Nat)(i:Int)(size:Nat):HM Addr:=fun h Q=>
 ∃x,a=some x∧0≤i∧i<(len:Int)∧Q (x.add (i.toNat*size)) h
def A5t(s:B38)(i:Int):HM Int:=fun h Q=>
 ∃b,0≤i∧s[i.toNat]? =some b∧Q (b.toNat:Int) h
def A1D(P:Program)(f:FuncId):Prop:=∀args w,(callFunc f args).run P w=.ok (.enter f args) w
def A1z(P:Program)(k:Kind)(f:FuncId)(args:D0t):HM k.ty:=fun h Q=>
 V4 P f args h fun v h'=>∃x,v=k.val x∧Q x h'
def y5(P:Program)(ks:List Kind)(f:FuncId)(args:D0t):HM (r9 ks):=fun h Q=>
 V4 P f args h fun v h'=>∃x,v=.tuple (r9.cC ks x).toArray∧Q x h'
def B8H(P:Program)(k:Kind)(v:Value)(args:D0t):HM k.ty:=fun h Q=>
 ∃f first captured,v=.func (.func f) first captured∧A1D P f∧V4 P f (first++args++captured) h fun v h'=>∃x,v=k.val x∧Q x h'
def C3R(P:Program)(ks:List Kind)(v:Value)(args:D0t):HM (r9 ks):=fun h Q=>
 ∃f first captured,v=.func (.func f) first captured∧A1D P f∧V4 P f (first++args++captured) h fun v h'=>∃x,v=.tuple (r9.cC ks x).toArray∧Q x h'
def l4(s:Slc)(lo hi mx:Nat)(size:Nat):Slc:=
 ⟨if mx=lo then s.a else s.a.map (·.add (lo*size)),hi-lo,mx-lo⟩
def A4d(x:Option Int)(none:Prop)(m bound:Nat):Prop:=
 match x with
 |some x=>x=(m:Int)∧m≤bound
 |.none=>none
def HM.slice(s:Slc)(lo hi mx:Option Int)(size:Nat):HM Slc:=fun h Q=>
 ∃l hh m:Nat,A4d mx (m=s.cap) m s.cap∧A4d hi (mx=none∧hh=s.len) hh m∧A4d lo (l=0) l hh∧Q (l4 s l hh m size) h
def A40(s:B38)(lo hi:Option Int):HM B38:=fun h Q=>
 ∃l hh:Nat,A4d hi (hh=s.size) hh s.size∧A4d lo (l=0) l hh∧Q (s.extract l hh) h
def A6g(h:Heap)(a:D0s)(n:Nat)(vs:D0t):Prop:=
 match a with
 |some x=>vs.size=n∧∀(i:Nat) v,vs[i]? =some v→W3 h (x.add i)=some v
 |none=>vs=#[]
def B8G(zero:D0t)(s:Slc):HM Unit:=fun h Q=>
 match s.a with
 |none=>Q () h
 |some a=>if s.len=0 then Q () h else
  (∀(i:Nat) v,(Builtin.zeroCells zero s.len).toList[i]? =some v→(W3 h (a.add i)).isSome=true∧A2q h (a.add i)=false∧v.oneCell'=true)∧
   Q () (A2l h a (Builtin.zeroCells zero s.len).toList 0)
def C8c(r:Option Nat):HM Unit:=fun h Q=>
 match r with
 |none=>Q () h
 |some b=>∃(es:Array MapEntry) (clock:Nat),h[b]? =some (.map es clock)∧Q () (h.setIfInBounds b (.map #[] clock))
def HM.append(elem:TypeId)(size bytes:Nat)(zero:D0t)(s:Slc)(n:Nat)(src:Heap→D0t→Prop):HM Slc:=fun h Q=>
 (s.len+n≤s.cap→∃vs,src h vs∧
  match s.a with
  |some a=>(∀i v,vs[i]? =some v→(W3 h ((a.add (s.len*size)).add i)).isSome=true∧A2q h ((a.add (s.len*size)).add i)=false∧v.oneCell'=true)∧
    Q ⟨s.a,s.len+n,s.cap⟩ (A2l h (a.add (s.len*size)) vs.toList 0)
  |none=>Q ⟨none,s.len+n,s.cap⟩ h)∧
 (s.cap<s.len+n→(s.len+n:Nat)≤9223372036854775807∧Builtin.nextslicecap (s.len+n) s.cap*bytes≤2 ^ 48∧∃old vs,A6g h s.a (s.len*size) old∧src h vs∧
  ∀c,s.len+n≤c→c≤9223372036854775807→Q ⟨some ⟨h.size,0,none⟩,s.len+n,c⟩ (h.push (.cells (old++vs++Builtin.zeroCells zero (c-(s.len+n))) elem)))
def V9(size:Nat)(x:Slc)(h:Heap)(vs:D0t):Prop:=A6g h x.a (x.len*size) vs
def C5t(s:B38)(_:Heap)(vs:D0t):Prop:=vs=s.data.map fun b=>.int .u8 b.toNat
def HM.makeSlice(elem:TypeId)(bytes:Nat)(zero:D0t)(n c:Int):HM Slc:=fun h Q=>
 0≤n∧n≤c∧c≤9223372036854775807∧(bytes:Int)*c≤2 ^ 48∧
  Q ⟨some ⟨h.size,0,none⟩,n.toNat,c.toNat⟩ (h.push (.cells (Builtin.zeroCells zero c.toNat) elem))
def C7X(d:Slc)(n:Nat)(src:Nat→Heap→D0t→Prop):HM Int:=fun h Q=>
 ∃vs,src (Nat.min n d.len) h vs∧
  match d.a with
  |some a=>(∀i v,vs[i]? =some v→(W3 h (a.add i)).isSome=true∧A2q h (a.add i)=false∧v.oneCell'=true)∧Q ((Nat.min n d.len:Nat):Int) (A2l h a vs.toList 0)
  |none=>Q ((Nat.min n d.len:Nat):Int) h
def A88(h:Heap)(r:Option Nat)(es:List MapEntry)(clock:Nat):Prop:=
 match r with
 |none=>es=[]∧clock=0
 |some r=>h[r]? =some (.map es.toArray clock)
abbrev A2E:=Value→Value→Option Bool
def A1b(sm:A2E)(k:Value):List MapEntry→Nat→Option (Option (Nat×Value))
 |[],_=>some none
 |e::es,i=>match sm k e.key with
  |some true=>some (some (i,e.val))
  |some false=>A1b sm k es (i+1)
  |none=>none
def placeOf(sm:A2E)(k:Value)(es:List MapEntry):Option (Option (Nat×Value)):=A1b sm k es 0
theorem B3Y(kd:TypeDesc)(k:Value):∀(es:List MapEntry) (i:Nat),A1b (Instr.sameNow kd) k es i=Instr.findNow kd k es i
 |[],_=>rfl
 |e::es,i=>by
  simp only[A1b,Instr.findNow]
  rw[B3Y kd k es (i+1)]
  cases Instr.sameNow kd k e.key with
  |none=>rfl
  |some b=>cases b<;>rfl
def HM.lookup(kd:A2E)(zero:Value)(k:Kind)(r:Option Nat)(key:Value):HM (k.ty×Bool):=fun h Q=>
 ∃es clock o x,A88 h r es clock∧placeOf kd key es=some o∧
  (match o with|some (_,v)=>v=k.val x|none=>zero=k.val x)∧Q (x,o.isSome) h
def A2F(kd:A2E)(r:Option Nat)(key val:Value):HM Unit:=fun h Q=>
 ∃b es clock o,r=some b∧h[b]? =some (.map es clock)∧placeOf kd key es.toList=some o∧
  match o with
  |some (i,_)=>((es[i]?).map (·.key)).getD key=key∧Instr.sameBits 10000 key key=true∧Q () (h.setIfInBounds b (.map (es.modify i fun e=>{e with key:=key,val:=val}) clock))
  |none=>Q () (h.setIfInBounds b (.map (es.push {key:=key,val:=val,born:=clock}) (clock+1)))
def HM.mapEntry(kd:A2E)(zero:Value)(k:Kind)(r:Option Nat)(key:Value):HM (k.ty×Int):=fun h Q=>
 ∃b es clock o,r=some b∧h[b]? =some (.map es clock)∧placeOf kd key es.toList=some o∧
  match o with
  |some (i,v)=>((es[i]?).map (·.key)).getD key=key∧Instr.sameBits 10000 key key=true∧
    ∃x,v=k.val x∧Q (x,(((es[i]?).map (·.born)).getD 0:Nat)) (h.setIfInBounds b (.map (es.modify i fun e=>{e with key:=key}) clock))
  |none=>∃x,zero=k.val x∧Q (x,(clock:Int)) (h.setIfInBounds b (.map (es.push {key:=key,val:=zero,born:=clock}) (clock+1)))
def HM.entryStore(r:Option Nat)(stamp:Int)(val:Value):HM Unit:=fun h Q=>
 ∃b es clock i,r=some b∧h[b]? =some (.map es clock)∧es.findIdx? (fun e=>(e.born:Int)==stamp)=some i∧
  Q () (h.setIfInBounds b (.map (es.modify i fun e=>{e with val:=val}) clock))
def A6a(kd:A2E)(r:Option Nat)(key:Value):HM Unit:=fun h Q=>
 match r with
 |none=>Q () h
 |some b=>∃es clock o,h[b]? =some (.map es clock)∧placeOf kd key es.toList=some o∧
  match o with
  |some (i,_)=>Q () (h.setIfInBounds b (.map (es.eraseIdxIfInBounds i) clock))
  |none=>Q () (h.setIfInBounds b (.map es clock))
def B0m(r:Option Nat):HM Nat:=fun h Q=>
 match r with
 |none=>Q h.size (h.push (.mapIter none 0 #[] 0))
 |some m=>∃es clock,h[m]? =some (.map es clock)∧Q h.size (h.push (.mapIter (some m) clock #[] clock))
def A8q(b:Nat):HM (Option (Value×Value)):=fun h Q=>
 ∃m since seen last,h[b]? =some (.mapIter m since seen last)∧
  match m with
  |none=>Q none h
  |some m=>∃es clock,h[m]? =some (.map es clock)∧(!seen.isEmpty && !es.isEmpty &&es.all (fun e=>e.born≥last))=false∧
    ((∀e∈es,seen.contains e.born=false→since≤e.born)→Q none h)∧
    ∀e∈es,seen.contains e.born=false→Q (some (e.key,e.val)) (h.setIfInBounds b (.mapIter (some m) since (seen.push e.born) clock))
def A4I(kk kv:Kind)(b:Nat):HM (kk.ty×kv.ty):=fun h Q=>
 ∃m since seen stepped es stamp e k v,h[b]? =some (.mapIter (some m) since seen stepped)∧seen.back?=some stamp∧h[m]? =some (.map es stepped)∧
  es.find? (fun e=>e.born==stamp)=some e∧e.key=kk.val k∧e.val=kv.val v∧Q (k,v) h
def C8b(b:Nat):HM (Option (Int×Int)):=fun h Q=>
 ∃s pos,h[b]? =some (.stringIter s pos)∧
  (pos<s.size→Q (some ((pos:Int),((Utf8.decode s pos).1:Int))) (h.setIfInBounds b (.stringIter s (pos+(Utf8.decode s pos).2))))∧
  (¬pos<s.size→Q none h)
def A2Q{α β:Type}(o:Option α)(a:HM β)(f:α→HM β):HM β:=fun h Q=>
 match o with
 |none=>a h Q
 |some x=>f x h Q
def C1h(ns:List Int):B38:=ns.foldl (fun r n=>r.push (UInt8.ofNat n.toNat)) ByteArray.empty
def C1x(s:Slc):HM B38:=fun h Q=>∃ns:List Int,A6g h s.a s.len (ns.map (Value.int .u8)).toArray∧Q (C1h ns) h
def A6b(r:Option Nat):HM Int:=fun h Q=>∃es clock,A88 h r es clock∧Q (es.length:Int) h
section
abbrev Env:=List (Nat×Value)
def Env.get:Env→Nat→Option Value
 |[],_=>none
 |(t,v)::e,n=>match Nat.beq t n with
  |true=>some v
  |false=>Env.get e n
def A5x:Nat→List Nat→Bool
 |_,[]=>false
 |n,t::ts=>match Nat.beq t n with
  |true=>true
  |false=>A5x n ts
def Env.forget(ts:List Nat):Env→Env
 |[]=>[]
 |(t,v)::e=>match A5x t ts with
  |true=>Env.forget ts e
  |false=>(t,v)::Env.forget ts e
def Env.put(e:Env)(dst:Option Tmp)(v:Value):Env:=
 match dst with
 |some d=>(d,v)::e
 |none=>e
def Env.ev(e:Env):Operand→Option Value
 |.tmp t=>e.get t
 |.const v=>some v
 |.global g=>some (.pointer (some ⟨g,0,none⟩))
 |.func f=>some (.func (.func f) #[] #[])
def Env.eO(e:Env):List Operand→Option (D0u)
 |[]=>some []
 |x::xs=>match e.ev x with
  |some v=>match Env.eO e xs with
   |some vs=>some (v::vs)
   |none=>none
  |none=>none
def B6W(op:BinOp)(k:IntKind)(x y:Int):Int:=
 let a:=BitVec.ofInt k.bits x
 let b:=BitVec.ofInt k.bits y
 match op with
 |.and=>k.wrap (a&&& b).toNat
 |.or=>k.wrap (a|||b).toNat
 |.xor=>k.wrap (a ^^^ b).toNat
 |_=>k.wrap (a&&& ~~~b).toNat
def B9o:Value→Bool
 |.nilIface=>true
 |_=>false
def isIface:Value→Bool
 |.nilIface=>true
 |.iface _ _=>true
 |_=>false
def B9p:Value→Bool
 |.nilFunc=>true
 |_=>false
def A7J:Value→Bool
 |.nilFunc=>true
 |.func _ _ _=>true
 |_=>false
section
variable {ρ:Type}
def A66(neg:Bool)(r:Bool):Bool:=
 match neg with
 |true=> !r
 |false=>r
def C2L(op:BinOp)(kx ky:IntKind)(a b:Int)(k:Value→HM ρ):HM ρ:=
 match op with
 |.shl=>A3d (0≤b) (k (.int kx (kx.wrap (a*2 ^ (min b.toNat kx.bits)))))
 |.shr=>A3d (0≤b) (k (.int kx (a.fdiv (2 ^ (min b.toNat kx.bits)))))
 |op=>match B0R kx ky with
  |false=>U5
  |true=>match op with
   |.add=>k (.int kx (kx.wrap (a+b)))
   |.sub=>k (.int kx (kx.wrap (a-b)))
   |.mul=>k (.int kx (kx.wrap (a*b)))
   |.quo=>A3d (b≠0) (k (.int kx (kx.wrap (a.tdiv b))))
   |.rem=>A3d (b≠0) (k (.int kx (a.tmod b)))
   |.and=>k (.int kx (B6W .and kx a b))
   |.or=>k (.int kx (B6W .or kx a b))
   |.xor=>k (.int kx (B6W .xor kx a b))
   |.andNot=>k (.int kx (B6W .andNot kx a b))
   |.lss=>k (.bool (decide (a<b)))
   |.leq=>k (.bool (decide (a≤b)))
   |.gtr=>k (.bool (decide (b<a)))
   |.geq=>k (.bool (decide (b≤a)))
   |_=>U5
def C2H(op:BinOp)(a b:B38)(k:Value→HM ρ):HM ρ:=
 match op with
 |.add=>A3d (a.size+b.size≤9223372036854775807) (k (.string (a++b)))
 |.lss=>k (.bool (Op.bytesLess a.toList b.toList))
 |.leq=>k (.bool (Op.bytesLess a.toList b.toList||a.toList==b.toList))
 |.gtr=>k (.bool !(Op.bytesLess a.toList b.toList||a.toList==b.toList))
 |.geq=>k (.bool !(Op.bytesLess a.toList b.toList))
 |_=>U5
def B0Q:TypeDesc→Bool
 |.struct _=>true
 |.array _ _=>true
 |_=>false
def A4v(P:Program)(t:TypeId)(cs:D0u)(off:Nat):Option Value:=
 match P.underlying t with
 |some d=>match B0Q d with
  |true=>some (.agg ((cs.drop off).take (P.cellsOf t)).toArray)
  |false=>cs[off]?
 |none=>none
def B4J(P:Program)(rec:TypeId→Value→Value→Option Bool)(xs ys:D0u):List Field→Option Bool
 |[]=>some true
 |f::fs=>match decide (f.name= "_") with
  |true=>none
  |false=>match A4v P f.type xs f.offset with
   |none=>none
   |some a=>match A4v P f.type ys f.offset with
    |none=>none
    |some b=>match rec f.type a b with
     |none=>none
     |some r=>match B4J P rec xs ys fs with
      |none=>none
      |some r'=>some (r&&r')
def B6k(P:Program):Nat→TypeId→Value→Value→Option Bool
 |0,_,_,_=>none
 |d+1,t,x,y=>match P.underlying t with
  |some (.int _)=>match x,y with
   |.int k a,.int k' b=>match B0R k k' with
    |true=>some (a==b)
    |false=>none
   |_,_=>none
  |some .bool=>match x,y with
   |.bool a,.bool b=>some (a==b)
   |_,_=>none
  |some .string=>match x,y with
   |.string a,.string b=>some (decide (a=b))
   |_,_=>none
  |some (.struct fs)=>match P.stoodInHeld t with
   |true=>none
   |false=>match x,y with
    |.agg xs,.agg ys=>B4J P (B6k P d) xs.toList ys.toList fs.toList
    |_,_=>none
  |_=>none
def A53(P:Program)(neg:Bool)(t:TypeId)(yo:Operand)(x y:Value)(k:Value→HM ρ):HM ρ:=
 match P.underlying t with
 |some (.pointer _)=>match yo with
  |.const (.pointer none)=>match x with
   |.pointer p=>k (.bool (A66 neg p.isNone))
   |_=>U5
  |_=>U5
 |some (.slice _)=>match yo with
  |.const (.slice none _ _)=>match x with
   |.slice p _ _=>k (.bool (A66 neg p.isNone))
   |_=>U5
  |_=>U5
 |some (.map _ _)=>match yo with
  |.const (.map none)=>match x with
   |.map p=>k (.bool (A66 neg p.isNone))
   |_=>U5
  |_=>U5
 |some (.interface _)=>match yo with
  |.const .nilIface=>A3d (isIface x=true) (k (.bool (A66 neg (B9o x))))
  |_=>U5
 |some (.func _ _ _)=>match yo with
  |.const .nilFunc=>A3d (A7J x=true) (k (.bool (A66 neg (B9p x))))
  |_=>U5
 |some (.int _)=>match x,y with
  |.int kx a,.int ky b=>match B0R kx ky with
   |true=>k (.bool (A66 neg (a==b)))
   |false=>U5
  |_,_=>U5
 |some .bool=>match x,y with
  |.bool a,.bool b=>k (.bool (A66 neg (a==b)))
  |_,_=>U5
 |some .string=>match x,y with
  |.string a,.string b=>k (.bool (A66 neg (decide (a=b))))
  |_,_=>U5
 |some (.struct _)=>match x with
  |.agg _=>match B6k P 8 t x y with
   |some r=>k (.bool (A66 neg r))
   |none=>U5
  |_=>U5
 |_=>U5
def C2N(P:Program)(op:BinOp)(t:TypeId)(yo:Operand)(x y:Value)(k:Value→HM ρ):HM ρ:=
 match op with
 |.eql=>A53 P false t yo x y k
 |.neq=>A53 P true t yo x y k
 |op=>match x,y with
  |.int kx a,.int ky b=>C2L op kx ky a b k
  |.string a,.string b=>C2H op a b k
  |_,_=>U5
def C6x(op:UnOp)(x:Value)(k:Value→HM ρ):HM ρ:=
 match op,x with
 |.not,.bool b=>k (.bool !b)
 |.neg,.int kd n=>k (.int kd (kd.wrap (0-n)))
 |.xor,.int kd n=>k (.int kd (B6W .xor kd (if kd.signed then -1 else kd.max) n))
 |_,_=>U5
def B41(P:Program)(t:TypeId)(x:Value)(k:Value→HM ρ):HM ρ:=
 match x with
 |.pointer (some a)=>match P.underlying t with
  |some d=>match B0Q d with
   |true=>match kindOf P t with
    |some (.agg ts)=>match Nat.beq ts.length (P.cellsOf t) with
     |true=>(o6 ts a).bind fun vs=>k (.agg (Tup.cC ts vs).toArray)
     |false=>U5
    |_=>U5
   |false=>match kindOf P t with
    |some (.one tg)=>(p8 tg a).bind fun v=>k (tg.val v)
    |_=>U5
  |none=>U5
 |_=>U5
def A2H(kd:Kind)(v:Value):Option (D0u):=
 match kd with
 |.one _=>some [v]
 |.agg ts=>match v with
  |.agg cs=>match Nat.beq cs.toList.length ts.length with
   |true=>some cs.toList
   |false=>none
  |_=>none
def Tag.isAny:Tag→Bool
 |.any=>true
 |_=>false
def B84(kd:Kind)(v:Value)(m:HM ρ):HM ρ:=
 match kd with
 |.one tg=>match tg.isAny with
  |true=>A3d (v.oneCell'=true) m
  |false=>match tg.get v with
   |some _=>m
   |none=>U5
 |.agg _=>m
def B6w(P:Program)(t:TypeId)(x v:Value)(k:Value→HM ρ):HM ρ:=
 match x with
 |.pointer (some a)=>match kindOf P t with
  |some kd=>match A2H kd v with
   |some cs=>match Nat.beq cs.length (P.cellsOf t) with
    |true=>match kd with
     |.one _=>(A7e a v).bind fun _=>k undef
     |.agg _=>(B0n a cs).bind fun _=>k undef
    |false=>U5
   |none=>U5
  |none=>U5
 |_=>U5
def C2M(P:Program)(t:TypeId)(v:Value)(k:Value→HM ρ):HM ρ:=
 match kindOf P t with
 |some kd=>match A2H kd v with
  |some cs=>B84 kd v ((HM.new (.cells cs.toArray t)).bind fun r=>k (.pointer (some ⟨r,0,none⟩)))
  |none=>U5
 |none=>U5
def B6P(P:Program)(t:TypeId)(k:Value→HM ρ):HM ρ:=
 match P.info? t with
 |some i=>match i.zero with
  |some z=>(HM.new (.cells z.cells t)).bind fun r=>k (.pointer (some ⟨r,0,none⟩))
  |none=>U5
 |none=>U5
def A3p:D0u→Nat→D0u→D0u
 |cs,_,[]=>cs
 |[],_,_::_=>[]
 |_::cs,0,v::vs=>v::A3p cs 0 vs
 |c::cs,n+1,v::vs=>c::A3p cs n (v::vs)
def A6l(place:Nat→Option (Nat×Kind)):D0u→List (Nat×Value)→Option (D0u)
 |cs,[]=>some cs
 |cs,(i,v)::rest=>match place i with
  |some (off,kd)=>match A2H kd v with
   |some vs=>match Nat.ble (off+vs.length) cs.length with
    |true=>A6l place (A3p cs off vs) rest
    |false=>none
   |none=>none
  |none=>none
def A6P(place:Nat→Option (Nat×Kind))(ps:List (Nat×Value))(m:HM ρ):HM ρ:=
 match ps with
 |[]=>m
 |(i,v)::rest=>match place i with
  |some (_,kd)=>B84 kd v (A6P place rest m)
  |none=>U5
def A50(e:Env):List (Nat×Operand)→Option (List (Nat×Value))
 |[]=>some []
 |(i,x)::xs=>match e.ev x with
  |some v=>match A50 e xs with
   |some vs=>some ((i,v)::vs)
   |none=>none
  |none=>none
def A4l(P:Program)(fields:Array Field)(i:Nat):Option (Nat×Kind):=
 match fields.toList[i]? with
 |some f=>match kindOf P f.type with
  |some kd=>match kd with
   |.one tg=>match Nat.beq (P.cellsOf f.type) 1 with
    |true=>some (f.offset,.one tg)
    |false=>none
   |.agg ts=>match Nat.beq (P.cellsOf f.type) ts.length with
    |true=>some (f.offset,.agg ts)
    |false=>none
  |none=>none
 |none=>none
def A2h(P:Program)(elem:TypeId)(i:Nat):Option (Nat×Kind):=
 match kindOf P elem with
 |some kd=>match kd with
  |.one tg=>match Nat.beq (P.cellsOf elem) 1 with
   |true=>some (i,.one tg)
   |false=>none
  |.agg ts=>match Nat.beq (P.cellsOf elem) ts.length with
   |true=>some (i*ts.length,.agg ts)
   |false=>none
 |none=>none
def B2u(P:Program):List Field→Bool
 |[]=>true
 |f::r=>match P.info? f.type with
  |some _=>B2u P r
  |none=>false
def B6N(P:Program)(t:TypeId)(ps:List (Nat×Value))(k:Value→HM ρ):HM ρ:=
 match P.underlying t with
 |some (.struct fields)=>match B2u P fields.toList with
  |true=>match P.info? t with
   |some i=>match i.zero with
    |some z=>match A6l (A4l P fields) z.cells.toList ps with
     |some cs=>A6P (A4l P fields) ps (k (.agg cs.toArray))
     |none=>U5
    |none=>U5
   |none=>U5
  |false=>U5
 |some (.array _ elem)=>match P.info? t with
  |some i=>match i.zero with
   |some z=>match P.info? elem with
    |some _=>match A6l (A2h P elem) z.cells.toList ps with
     |some cs=>A6P (A2h P elem) ps (k (.agg cs.toArray))
     |none=>U5
    |none=>U5
   |none=>U5
  |none=>U5
 |_=>U5
def C1X(z:D0u):Nat→D0u
 |0=>[]
 |n+1=>z++C1X z n
def A6o(P:Program)(t:TypeId)(len:Nat)(ps:List (Nat×Value))(k:Value→HM ρ):HM ρ:=
 match P.underlying t with
 |some (.slice elem)=>match P.info? elem with
  |some i=>match i.zero with
   |some z=>match Nat.beq z.cells.toList.length i.size with
    |true=>match Nat.ble (len*i.size) 16777216 with
     |true=>match Nat.ble 1 i.size with
      |true=>match A6l (A2h P elem) (C1X z.cells.toList len) ps with
       |some cs=>A6P (A2h P elem) ps ((HM.new (.cells cs.toArray elem)).bind fun r=>k (.slice (some ⟨r,0,none⟩) len len))
       |none=>U5
      |false=>U5
     |false=>U5
    |false=>U5
   |none=>U5
  |none=>U5
 |_=>U5
def A7Z(P:Program)(s:TypeId)(x:Value)(f:Nat)(k:Value→HM ρ):HM ρ:=
 match x with
 |.pointer (some a)=>match P.underlying s with
  |some (.struct fields)=>match fields.toList[f]? with
   |some fd=>match Nat.ble 1 (P.cellsOf fd.type) with
    |true=>k (.pointer (some (a.add fd.offset)))
    |false=>U5
   |none=>U5
  |_=>U5
 |_=>U5
def B6F(P:Program)(t:TypeId)(x:Value)(f:Nat)(k:Value→HM ρ):HM ρ:=
 match x with
 |.agg cs=>match P.underlying t with
  |some (.struct fields)=>match fields.toList[f]? with
   |some fd=>match A4v P fd.type cs.toList fd.offset with
    |some v=>k v
    |none=>U5
   |none=>U5
  |_=>U5
 |_=>U5
def A7Y(P:Program)(t:TypeId)(x i:Value)(k:Value→HM ρ):HM ρ:=
 match i with
 |.int _ n=>match P.underlying t with
  |some (.slice elem)=>match x with
   |.slice a len _=>match P.info? elem with
    |some inf=>(A32 a len n inf.size).bind fun ad=>k (.pointer (some ad))
    |none=>U5
   |_=>U5
  |some (.array len elem)=>match x with
   |.pointer (some a)=>match P.info? elem with
    |some inf=>(A32 (some a) len n inf.size).bind fun ad=>k (.pointer (some ad))
    |none=>U5
   |_=>U5
  |_=>U5
 |_=>U5
def B6D(P:Program)(t:TypeId)(x i:Value)(k:Value→HM ρ):HM ρ:=
 match i with
 |.int _ n=>match P.underlying t with
  |some .string=>match x with
   |.string s=>(A5t s n).bind fun b=>k (.int .u8 b)
   |_=>U5
  |_=>U5
 |_=>U5
def A7w(e:Env):Option Operand→Option (Option Int)
 |none=>some none
 |some x=>match e.ev x with
  |some (.int _ n)=>some (some n)
  |_=>none
def B6y(P:Program)(t:TypeId)(x:Value)(lo hi mx:Option Int)(k:Value→HM ρ):HM ρ:=
 match P.underlying t with
 |some .string=>match x with
  |.string s=>match mx with
   |none=>(A40 s lo hi).bind fun r=>k (.string r)
   |some _=>U5
  |_=>U5
 |some (.slice elem)=>match x with
  |.slice a n c=>match P.info? elem with
   |some inf=>(HM.slice ⟨a,n,c⟩ lo hi mx inf.size).bind fun s=>k (.slice s.a s.len s.cap)
   |none=>U5
  |_=>U5
 |_=>U5
def plainKey:TypeDesc→Bool
 |.int _=>true
 |.string=>true
 |.bool=>true
 |_=>false
def A5X(P:Program)(kt:TypeId)(kd:TypeDesc):A2E:=
 match kd with
 |.struct _=>B6k P 8 kt
 |d=>Instr.sameNow d
def B3b(P:Program)(kt:TypeId)(kd:TypeDesc)(key:Value)(m:HM ρ):HM ρ:=
 match plainKey kd with
 |true=>m
 |false=>match kd with
  |.struct _=>A3d (B6k P 8 kt key key=some true) m
  |_=>U5
def B3p(P:Program)(t:TypeId)(x key:Value)(ok:Bool)(k:Value→HM ρ):HM ρ:=
 match P.underlying t with
 |some (.map kt et)=>match P.underlying kt with
  |some kd=>B3b P kt kd key (match x with
   |.map r=>match P.info? et with
    |some i=>match i.zero with
     |some z=>match Kind.of z with
      |some ek=>(HM.lookup (A5X P kt kd) z ek r key).bind fun p=>match ok with
       |true=>k (.tuple #[ek.val p.1,.bool p.2])
       |false=>k (ek.val p.1)
      |none=>U5
     |none=>U5
    |none=>U5
   |_=>U5)
  |none=>U5
 |_=>U5
def A9B(P:Program)(t:TypeId)(x key v:Value)(k:Value→HM ρ):HM ρ:=
 match P.underlying t with
 |some (.map kt _)=>match P.underlying kt with
  |some kd=>B3b P kt kd key (match x with
   |.map r=>(A2F (A5X P kt kd) r key v).bind fun _=>k undef
   |_=>U5)
  |none=>U5
 |_=>U5
def A9b(P:Program)(t:TypeId)(x key:Value)(k:Value→HM ρ):HM ρ:=
 match P.underlying t with
 |some (.map kt et)=>match P.underlying kt with
  |some kd=>B3b P kt kd key (match x with
   |.map r=>match P.info? et with
    |some i=>match i.zero with
     |some z=>match Kind.of z with
      |some ek=>(HM.mapEntry (A5X P kt kd) z ek r key).bind fun p=>k (.tuple #[ek.val p.1,.int .i64 p.2])
      |none=>U5
     |none=>U5
    |none=>U5
   |_=>U5)
  |none=>U5
 |_=>U5
def A6n(x stamp v:Value)(k:Value→HM ρ):HM ρ:=
 match x with
 |.map r=>match stamp with
  |.int _ n=>(HM.entryStore r n v).bind fun _=>k undef
  |_=>U5
 |_=>U5
def B3s(P:Program)(ts:List TypeId)(vs:D0u)(k:Value→HM ρ):HM ρ:=
 match ts,vs with
 |[t,u],[s,x]=>match P.underlying t with
  |some (.slice elem)=>match s with
   |.slice a n c=>match P.info? elem with
    |some i=>match i.zero with
     |some z=>match P.underlying u with
      |some (.slice _)=>match x with
       |.slice b m d=>(HM.append elem i.size i.bytes z.cells ⟨a,n,c⟩ m (V9 i.size ⟨b,m,d⟩)).bind fun s=>k (.slice s.a s.len s.cap)
       |_=>U5
      |some .string=>match x with
       |.string b=>(HM.append elem i.size i.bytes z.cells ⟨a,n,c⟩ b.size (C5t b)).bind fun s=>k (.slice s.a s.len s.cap)
       |_=>U5
      |_=>U5
     |none=>U5
    |none=>U5
   |_=>U5
  |_=>U5
 |_,_=>U5
def C2K(P:Program)(ts:List TypeId)(vs:D0u)(k:Value→HM ρ):HM ρ:=
 match ts,vs with
 |[t],[x]=>match P.underlying t with
  |some .string=>match x with
   |.string s=>k (.int .i64 (s.size:Int))
   |_=>U5
  |some (.slice _)=>match x with
   |.slice _ n _=>k (.int .i64 (n:Int))
   |_=>U5
  |some (.array n _)=>k (.int .i64 (n:Int))
  |some (.map _ _)=>match x with
   |.map r=>(A6b r).bind fun n=>k (.int .i64 n)
   |_=>U5
  |_=>U5
 |_,_=>U5
def A9A(max:Bool)(vs:D0u)(k:Value→HM ρ):HM ρ:=
 match vs with
 |[.int ka a,.int kb b]=>match B0R ka kb with
  |true=>match max with
   |true=>k (.int ka (if a<b then b else a))
   |false=>k (.int ka (if b<a then b else a))
  |false=>U5
 |[.int ka a,.int kb b,.int kc c]=>match B0R ka kb&&B0R ka kc with
  |true=>match max with
   |true=>k (.int ka (if(if a<b then b else a)<c then c else(if a<b then b else a)))
   |false=>k (.int ka (if c<(if b<a then b else a) then c else(if b<a then b else a)))
  |false=>U5
 |_=>U5
def B3q(P:Program)(ts:List TypeId)(vs:D0u)(k:Value→HM ρ):HM ρ:=
 match ts,vs with
 |t::_,[x,key]=>match P.underlying t with
  |some (.map kt _)=>match P.underlying kt with
   |some kd=>B3b P kt kd key (match x with
    |.map r=>(A6a (A5X P kt kd) r key).bind fun _=>k (.tuple #[])
    |_=>U5)
   |none=>U5
  |_=>U5
 |_,_=>U5
def B6J(P:Program)(ts:List TypeId)(vs:D0u)(k:Value→HM ρ):HM ρ:=
 match ts,vs with
 |[t],[x]=>match P.underlying t with
  |some (.slice elem)=>match x with
   |.slice a n c=>match P.info? elem with
    |some i=>match i.zero with
     |some z=>(B8G z.cells ⟨a,n,c⟩).bind fun _=>k (.tuple #[])
     |none=>U5
    |none=>U5
   |_=>U5
  |some (.map _ _)=>match x with
   |.map r=>(C8c r).bind fun _=>k (.tuple #[])
   |_=>U5
  |_=>U5
 |_,_=>U5
def B00(P:Program)(b:Builtin)(ts:List TypeId)(vs:D0u)(k:Value→HM ρ):HM ρ:=
 match b with
 |.len=>C2K P ts vs k
 |.append=>B3s P ts vs k
 |.min=>A9A false vs k
 |.max=>A9A true vs k
 |.delete=>B3q P ts vs k
 |.clear=>B6J P ts vs k
 |_=>U5
inductive Ret where
 |one (k:Kind)
 |many (ks:List Kind)
def C3z(P:Program):List TypeId→Option (List Kind)
 |[]=>some []
 |t::ts=>match kindOf P t with
  |some k=>match C3z P ts with
   |some ks=>some (k::ks)
   |none=>none
  |none=>none
def C3l(P:Program)(t:TypeId):Option Ret:=
 match P.underlying t with
 |some (.tuple es)=>match C3z P es.toList with
  |some ks=>some (.many ks)
  |none=>none
 |some _=>match kindOf P t with
  |some k=>some (.one k)
  |none=>none
 |none=>none
def B9H(P:Program)(C:List Nat)(t:TypeId)(f:Value)(vs:D0u)(k:Value→HM ρ):HM ρ:=
 match f with
 |.func (.func f) first captured=>match A5x f C with
  |true=>match C3l P t with
   |some (.one kd)=>(A1z P kd f (first.toList++(vs++captured.toList)).toArray).bind fun r=>k (kd.val r)
   |some (.many ks)=>(y5 P ks f (first.toList++(vs++captured.toList)).toArray).bind fun r=>k (.tuple (r9.cC ks r).toArray)
   |none=>U5
  |false=>U5
 |_=>U5
def B6K(P:Program)(t:TypeId)(f:Value)(vs:D0u)(k:Value→HM ρ):HM ρ:=
 match C3l P t with
 |some (.one kd)=>(B8H P kd f vs.toArray).bind fun r=>k (kd.val r)
 |some (.many ks)=>(C3R P ks f vs.toArray).bind fun r=>k (.tuple (r9.cC ks r).toArray)
 |none=>U5
def A2N(P:Program)(src dst:TypeId)(x:Value)(k:Value→HM ρ):HM ρ:=
 match P.underlying src with
 |none=>U5
 |some _=>match P.underlying dst with
  |some (.int kd)=>match x with
   |.int _ n=>k (.int kd (kd.wrap n))
   |_=>U5
  |some .string=>match x with
   |.string s=>k (.string s)
   |.slice a n c=>match P.underlying src with
    |some (.slice e)=>match P.underlying e with
     |some (.int .u8)=>(C1x ⟨a,n,c⟩).bind fun s=>k (.string s)
     |_=>U5
    |_=>U5
   |_=>U5
  |_=>U5
def B6A(P:Program)(t:TypeId)(x:Value)(k:Value→HM ρ):HM ρ:=
 match P.underlying t with
 |some .string=>match x with
  |.string s=>(HM.new (.stringIter s 0)).bind fun b=>k (.pointer (some ⟨b,0,none⟩))
  |_=>U5
 |some (.map _ _)=>match x with
  |.map r=>(B0m r).bind fun b=>k (.pointer (some ⟨b,0,none⟩))
  |_=>U5
 |_=>U5
def B9E(str:Bool)(x:Value)(k:Value→HM ρ):HM ρ:=
 match x with
 |.pointer (some a)=>match Nat.beq a.off 0 with
  |false=>U5
  |true=>match str with
   |true=>(C8b a.block).bind fun o=>A2Q o (k (.tuple #[.bool false])) fun p=>k (.tuple #[.bool true,.int .i64 p.1,.int .i32 p.2])
   |false=>(A8q a.block).bind fun o=>A2Q o (k (.tuple #[.bool false])) fun p=>k (.tuple #[.bool true,p.1,p.2])
 |_=>U5
def B4e(x:Value)(k:Value→HM ρ):HM ρ:=
 match x with
 |.pointer p=>(A8r p).bind fun a=>k (.pointer (some a))
 |.func (.func f) first captured=>k (.func (.func f) first captured)
 |_=>U5
def A7X(P:Program)(t:TypeId)(n c:Value)(k:Value→HM ρ):HM ρ:=
 match P.underlying t with
 |some (.slice elem)=>match P.info? elem with
  |some i=>match i.zero with
   |some z=>match Nat.beq z.cells.toList.length i.size with
    |true=>match n,c with
     |.int _ a,.int _ b=>(HM.makeSlice elem i.bytes z.cells a b).bind fun s=>k (.slice s.a s.len s.cap)
     |_,_=>U5
    |false=>U5
   |none=>U5
  |none=>U5
 |_=>U5
abbrev Dec:=List (Nat×Bool)
def Dec.get:Dec→Nat→Option Bool
 |[],_=>none
 |(t,b)::d,n=>match Nat.beq t n with
  |true=>some b
  |false=>Dec.get d n
def B9D(e:Env)(d:Dec)(c a b:Operand)(k:Value→HM ρ):HM ρ:=
 match c with
 |.tmp t=>match d.get t with
  |some true=>match e.ev a with
   |some v=>k v
   |none=>U5
  |some false=>match e.ev b with
   |some v=>k v
   |none=>U5
  |none=>match e.ev c,e.ev a,e.ev b with
   |some (.bool x),some (.bool y),some (.bool z)=>k (.bool (if x=true then y else z))
   |_,_,_=>U5
 |_=>U5
def C1b(P:Program)(C:List Nat)(e:Env)(d:Dec)(o:Oper)(k:Value→HM ρ):HM ρ:=
 match o.op with
 |.move x=>match e.ev x with
  |some v=>k v
  |none=>U5
 |.assign x=>match e.ev x with
  |some v=>k v
  |none=>U5
 |.pick c a b=>B9D e d c a b k
 |.alloc t=>B6P P t k
 |.box t x=>match e.ev x with
  |some v=>C2M P t v k
  |none=>U5
 |.build t ps=>match A50 e ps.toList with
  |some vs=>B6N P t vs k
  |none=>U5
 |.buildSlice t n ps=>match A50 e ps.toList with
  |some vs=>A6o P t n vs k
  |none=>U5
 |.load t x=>match e.ev x with
  |some v=>B41 P t v k
  |none=>U5
 |.store t x y=>match e.ev x with
  |some v=>match e.ev y with
   |some u=>B6w P t v u k
   |none=>U5
  |none=>U5
 |.nilCheck x=>match e.ev x with
  |some v=>B4e v k
  |none=>U5
 |.binOp op t x y _=>match e.ev x with
  |some v=>match e.ev y with
   |some u=>C2N P op t y v u k
   |none=>U5
  |none=>U5
 |.unOp op _ x=>match e.ev x with
  |some v=>C6x op v k
  |none=>U5
 |.convert s t x=>match e.ev x with
  |some v=>A2N P s t v k
  |none=>U5
 |.makeInterface t x=>match e.ev x with
  |some v=>match P.underlying t with
   |some (.interface _)=>U5
   |some _=>k (.iface t v)
   |none=>U5
  |none=>U5
 |.makeFunc fn first captured=>match e.eO first.toList with
  |some vs=>match e.eO captured.toList with
   |some us=>k (.func fn vs.toArray us.toArray)
   |none=>U5
  |none=>U5
 |.makeMap _ none=>(HM.new (.map #[] 0)).bind fun r=>k (.map (some r))
 |.makeSlice t n c=>match e.ev n with
  |some v=>match e.ev c with
   |some u=>A7X P t v u k
   |none=>U5
  |none=>U5
 |.slice t x lo hi mx=>match e.ev x with
  |some v=>match A7w e lo with
   |some l=>match A7w e hi with
    |some hh=>match A7w e mx with
     |some m=>B6y P t v l hh m k
     |none=>U5
    |none=>U5
   |none=>U5
  |none=>U5
 |.fieldAddr t x f=>match e.ev x with
  |some v=>A7Z P t v f k
  |none=>U5
 |.field t x f=>match e.ev x with
  |some v=>B6F P t v f k
  |none=>U5
 |.indexAddr t x i=>match e.ev x with
  |some v=>match e.ev i with
   |some u=>A7Y P t v u k
   |none=>U5
  |none=>U5
 |.index t x i=>match e.ev x with
  |some v=>match e.ev i with
   |some u=>B6D P t v u k
   |none=>U5
  |none=>U5
 |.lookup t x i ok=>match e.ev x with
  |some v=>match e.ev i with
   |some u=>B3p P t v u ok k
   |none=>U5
  |none=>U5
 |.mapUpdate t x i y=>match e.ev x with
  |some v=>match e.ev i with
   |some u=>match e.ev y with
    |some z=>A9B P t v u z k
    |none=>U5
   |none=>U5
  |none=>U5
 |.insert t x i y=>match e.ev x with
  |some v=>match e.ev i with
   |some u=>match e.ev y with
    |some z=>A9B P t v u z k
    |none=>U5
   |none=>U5
  |none=>U5
 |.mapEntry t x i=>match e.ev x with
  |some v=>match e.ev i with
   |some u=>A9b P t v u k
   |none=>U5
  |none=>U5
 |.entryStore _ x i y=>match e.ev x with
  |some v=>match e.ev i with
   |some u=>match e.ev y with
    |some z=>A6n v u z k
    |none=>U5
   |none=>U5
  |none=>U5
 |.range t x=>match e.ev x with
  |some v=>B6A P t v k
  |none=>U5
 |.next x str=>match e.ev x with
  |some v=>B9E str v k
  |none=>U5
 |.extract x i=>match e.ev x with
  |some (.tuple vs)=>match vs.toList[i]? with
   |some v=>k v
   |none=>U5
  |_=>U5
 |.call c=>match e.eO c.args.toList with
  |some vs=>match c.callee with
   |.builtin b=>B00 P b c.argTypes.toList vs k
   |.value (.func f)=>B9H P C o.type (.func (.func f) #[] #[]) vs k
   |.value x=>match e.ev x with
    |some v=>B6K P o.type v vs k
    |none=>U5
   |.invoke _ _=>U5
  |none=>U5
 |_=>U5
inductive Cls where
 |stat|read|cT
def v7(P:Program)(op:Op):Cls:=
 match op with
 |.move _=>.stat
 |.assign _=>.stat
 |.pick _ _ _=>.stat
 |.nilCheck _=>.stat
 |.binOp _ _ _ _ _=>.stat
 |.unOp _ _ _=>.stat
 |.convert _ t _=>match P.underlying t with
  |some (.int _)=>.stat
  |_=>.cT
 |.makeInterface _ _=>.stat
 |.makeFunc _ _ _=>.stat
 |.build _ _=>.stat
 |.fieldAddr _ _ _=>.stat
 |.field _ _ _=>.stat
 |.indexAddr _ _ _=>.stat
 |.index _ _ _=>.stat
 |.slice _ _ _ _ _=>.stat
 |.extract _ _=>.stat
 |.load _ _=>.read
 |.lookup _ _ _ _=>.read
 |.call c=>match c.callee with
  |.builtin .len=>.read
  |_=>.cT
 |_=>.cT
def A4Z(ops:Array Oper)(j:Nat):Option Nat:=
 match ops.toList[j]? with
 |some o=>o.dst
 |none=>none
abbrev A1F:=List (Nat×Value)
def again(P:Program)(C:List Nat)(ops:Array Oper)(b:Nat)(e:Env)(d:Dec):A1F→HM ρ→HM ρ
 |[],m=>m
 |(i,v)::r,m=>match b.testBit i with
  |true=>again P C ops b e d r m
  |false=>match ops.toList[i]? with
   |some o=>C1b P C e d o fun v'=>A3d (v'=v) (again P C ops b e d r m)
   |none=>U5
def C7B(dst:Option Nat)(s:Nat):Bool:=
 match dst with
 |some t=>Nat.beq t s
 |none=>false
def A8Q(P:Program)(dst:Option Nat)(i:Nat):List Oper→Kind
 |[]=>.one .any
 |o::r=>match o.op with
  |.extract (.tmp t) j=>match C7B dst t with
   |true=>match Nat.beq j i with
    |true=>match kindOf P o.type with
     |some k=>k
     |none=>.one .any
    |false=>A8Q P dst i r
   |false=>A8Q P dst i r
  |_=>A8Q P dst i r
def B6H(ka kb:Kind)(x:Value)(k:Value→HM ρ):HM ρ:=
 match x with
 |.pointer (some a)=>match Nat.beq a.off 0 with
  |false=>U5
  |true=>(A4I ka kb a.block).bind fun p=>k (.tuple #[ka.val p.1,kb.val p.2])
 |_=>U5
def B6B(P:Program)(C:List Nat)(ops:Array Oper)(e:Env)(d:Dec)(o:Oper)(k:Value→HM ρ):HM ρ:=
 match o.op with
 |.entry x=>match e.ev x with
  |some v=>B6H (A8Q P o.dst 0 ops.toList) (A8Q P o.dst 1 ops.toList) v k
  |none=>U5
 |_=>C1b P C e d o k
def B0W(P:Program)(C:List Nat)(ops:Array Oper)(draw:Bool)(j:Nat)(o:Oper)(e:Env)(d:Dec)(dn:A1F)(k:Env→A1F→HM ρ):HM ρ:=
 B6B P C ops e d o fun v=>match draw with
  |false=>k (e.put o.dst v) dn
  |true=>match v7 P o.op with
   |.stat=>k (e.put o.dst v) dn
   |.read=>k (e.put o.dst v) ((j,v)::dn)
   |.cT=>again P C ops ((Region.before ops).getD j 0) (e.put o.dst v) d dn (k (e.put o.dst v) dn)
def C6D(n:Nat)(d:Dec)(dst:Option Nat):Bool:=
 match dst with
 |some s=>Nat.blt s n&&(d.get s).isNone
 |none=>true
def B8f(d:Dec):Operand→Option Bool
 |.const (.bool b)=>some b
 |.tmp t=>d.get t
 |_=>none
def C3x(d:Dec)(op:Op):Option Bool:=
 match op with
 |.move x=>B8f d x
 |.assign x=>B8f d x
 |.pick (.tmp t) a b=>match d.get t with
  |some true=>B8f d a
  |some false=>B8f d b
  |none=>none
 |_=>none
def A3z(d:Dec)(o:Oper):Dec:=
 match o.dst with
 |none=>d
 |some s=>match C3x d o.op with
  |some b=>(s,b)::d
  |none=>d
def B40(P:Program)(C:List Nat)(n:Nat)(ops:Array Oper)(draw:Bool)(j:Nat)(e:Env)(d:Dec)(dn:A1F)(k:Env→Dec→A1F→HM ρ):HM ρ:=
 match ops.toList[j]? with
  |none=>U5
  |some o=>match C6D n d o.dst with
   |false=>U5
   |true=>match o.guard with
    |none=>B0W P C ops draw j o e d dn fun e' dn'=>k e' (A3z d o) dn'
    |some (g,want)=>match A4Z ops g with
     |none=>U5
     |some s=>match d.get s with
      |some b=>match b,want with
       |true,true=>B0W P C ops draw j o e d dn fun e' dn'=>k e' (A3z d o) dn'
       |false,false=>B0W P C ops draw j o e d dn fun e' dn'=>k e' (A3z d o) dn'
       |true,false=>k (e.put o.dst undef) d dn
       |false,true=>k (e.put o.dst undef) d dn
      |none=>match C7B o.dst s with
       |true=>U5
       |false=>match e.get s with
       |some (.bool b)=>match want with
        |true=>A1v b (B0W P C ops draw j o e ((s,true)::d) dn fun e' dn'=>k e' (A3z ((s,true)::d) o) dn')
          (k (e.put o.dst undef) ((s,false)::d) dn)
        |false=>A1v b (k (e.put o.dst undef) ((s,true)::d) dn)
          (B0W P C ops draw j o e ((s,false)::d) dn fun e' dn'=>k e' (A3z ((s,false)::d) o) dn')
       |some (.tuple _)=>k (e.put o.dst undef) d dn
       |_=>U5
inductive A4s where
 |done
 |q (j:Nat) (t:A4s)
 |br (js:List Nat) (f:Nat→A4s)
def A4s.ofList:List Nat→A4s
 |[]=>.done
 |j::r=>.q j (ofList r)
def C7M:List (HM ρ)→HM ρ
 |[]=>U5
 |[m]=>m
 |m::x::r=>A0L m (C7M (x::r))
def C2G(P:Program)(C:List Nat)(n:Nat)(ops:Array Oper)(draw:Bool):A4s→Env→Dec→A1F→(Env→HM ρ)→HM ρ
 |.done,e,_,_,k=>k e
 |.q j t,e,d,dn,k=>B40 P C n ops draw j e d dn fun e' d' dn'=>C2G P C n ops draw t e' d' dn' k
 |.br js f,e,d,dn,k=>C7M (js.map fun j=>B40 P C n ops draw j e d dn fun e' d' dn'=>C2G P C n ops draw (f j) e' d' dn' k)
def C84(P:Program)(op:Op):Nat:=
 match v7 P op with
 |.stat=>0
 |.read=>1
 |.cT=>2
def A7Q(m:Nat)(acts:Bool):List (Nat×Nat×Nat)→Option Nat
 |[]=>none
 |(i,b,c)::r=>match m.testBit i with
  |true=>A7Q m acts r
  |false=>match Nat.beq (b&&& m) b with
   |false=>A7Q m acts r
   |true=>match acts with
    |true=>some i
    |false=>match Nat.blt c 2 with
     |true=>some i
     |false=>A7Q m acts r
def B1C(m:Nat):List (Nat×Nat×Nat)→List Nat
 |[]=>[]
 |(i,b,_)::r=>match m.testBit i with
  |true=>B1C m r
  |false=>match Nat.beq (b&&& m) b with
   |false=>B1C m r
   |true=>i::B1C m r
def C1E(l:List (Nat×Nat×Nat)):Nat→Nat→A4s
 |0,_=>.done
 |f+1,m=>match A7Q m false l with
  |some i=>.q i (C1E l f (m|||2 ^ i))
  |none=>match B1C m l with
   |[]=>.done
   |j::js=>.br (j::js) fun i=>C1E l f (m|||2 ^ i)
def A6c(P:Program)(ops:Array Oper)(draw:Bool):A4s:=
 match draw with
 |true=>
  let b:=Region.before ops
  C1E (ops.toList.zipIdx.map fun(o,i)=>(i,b.getD i 0,C84 P o.op)) ops.size 0
 |false=>.ofList (List.range ops.size)
def B8P(ops:Array Oper)(x y:Oper):Bool:=
 match y.dst with
 |some d=> !((x.looksAt ops).contains d)
 |none=>true
def C5O(P:Program)(ops:Array Oper)(b:Array Nat)(i:Nat)(x:Oper)(j:Nat)(y:Oper):Bool:=
 match(b.getD j 0).testBit i with
 |true=>match v7 P x.op with
  |.read=>B8P ops x y
  |_=>true
 |false=>match v7 P x.op with
  |.cT=>false
  |_=>x.apart ops y
def A1y(j:Nat):List Nat→List Nat
 |[]=>[]
 |i::r=>match Nat.beq i j with
  |true=>A1y j r
  |false=>i::A1y j r
def B15(P:Program)(ops:Array Oper)(j:Nat):Bool:=
 match ops.toList[j]? with
 |some o=>match v7 P o.op with
  |.cT=>true
  |_=>false
 |none=>false
def B6d(P:Program)(ops:Array Oper)(b:Array Nat):A4s→List Nat→Bool
 |.done,R=>R.isEmpty
 |.q j t,R=>(match ops.toList[j]? with
  |none=>false
  |some x=>A5x j R&& !(B15 P ops j)&&B8P ops x x&&(A1y j R).all fun i=>match ops.toList[i]? with
   |some y=>C5O P ops b j x i y
   |none=>false)&&B6d P ops b t (A1y j R)
 |.br js f,R=> !js.isEmpty &&(js.all fun j=>A5x j R&&B15 P ops j&&B6d P ops b (f j) (A1y j R))&&R.all fun i=>A5x i js||R.any fun x=>(b.getD i 0).testBit x
def C2V(ops:Array Oper):Bool:=
 ops.toList.zipIdx.all fun(o,j)=>o.after.toList.all (fun e=> !(Region.binds .any e)||Nat.blt e.on j)&& !(match o.op with|.select .. =>true|_=>false)
def B1N(P:Program)(ops:Array Oper)(t:A4s):Bool:=
 C2V ops&&B6d P ops (Region.before ops) t (List.range ops.size)
def A3Q(P:Program)(live:List Nat):List Oper→List (Nat×Kind)
 |[]=>[]
 |o::rest=>match o.guard with
  |some _=>A3Q P live rest
  |none=>match o.dst with
   |none=>A3Q P live rest
   |some s=>match A5x s live with
    |false=>A3Q P live rest
    |true=>match kindOf P o.type with
     |some k=>(s,k)::A3Q P live rest
     |none=>A3Q P live rest
def guarded:List Oper→Bool
 |[]=>false
 |o::rest=>match o.guard with
  |some _=>true
  |none=>guarded rest
def dstsOf:List Oper→List Nat
 |[]=>[]
 |o::rest=>match o.dst with
  |some s=>s::dstsOf rest
  |none=>dstsOf rest
def Env.eF(e:Env):List (Nat×Kind)→Option (D0u)
 |[]=>some []
 |(s,_)::r=>match e.get s with
  |some v=>match Env.eF e r with
   |some vs=>some (v::vs)
   |none=>none
  |none=>none
def Env.dV(e:Env)(ss:List (Nat×Kind)):Option (r9 (ss.map (·.2))):=
 match e.eF ss with
 |some vs=>r9.get (ss.map (·.2)) vs
 |none=>none
def A33:List (Nat×Kind)→D0u→Env
 |(s,_)::r,v::vs=>(s,v)::A33 r vs
 |_,_=>[]
def Env.join(e:Env)(ds:List Nat)(ss:List (Nat×Kind))(x:r9 (ss.map (·.2))):Env:=
 A33 ss (r9.cC (ss.map (·.2)) x)++e.forget ds
def B1G{α:Type}:Option α→HM α
 |some a=>X2 a
 |none=>U5
def B3o(P:Program)(C:List Nat)(n:Nat)(live:List Nat)(ops:Array Oper)(draw:Bool)(e:Env)(k:Env→HM ρ):HM ρ:=
 match(match draw with|true=>B1N P ops (A6c P ops true)|false=>true) with
 |false=>U5
 |true=>match guarded ops.toList with
  |false=>C2G P C n ops draw (A6c P ops draw) e [] [] k
  |true=>(C2G P C n ops draw (A6c P ops draw) e [] [] fun e'=>B1G (e'.dV (A3Q P live ops.toList))).bind fun x=>k (e.join (dstsOf ops.toList) (A3Q P live ops.toList) x)
def A2M:Code→List Nat
 |.region _ ops _=>dstsOf ops.toList
 |.seq a b=>A2M a++A2M b
 |.cond _ a b=>A2M a++A2M b
 |.block _ a=>A2M a
 |.loop a=>A2M a
 |.scope a=>A2M a
 |.rangeFunc _ _ a b=>A2M a++A2M b
 |_=>[]
def A3B:Code→Bool
 |.skip=>true
 |.region _ _ _=>true
 |.seq a b=>A3B a&&A3B b
 |.cond _ a b=>A3B a||A3B b
 |.block id a=>A3B a||canExit id a
 |.loop _=>false
 |_=>false
where
 canExit (id:Nat):Code→Bool
  |.seq a b=>canExit id a||canExit id b
  |.cond _ a b=>canExit id a||canExit id b
  |.block _ a=>canExit id a
  |.loop a=>canExit id a
  |.exit i=>Nat.beq i id
  |_=>false
def A70:Code→List Nat→Bool
 |.seq a b,ids=>A70 a ids||A70 b ids
 |.cond _ a b,ids=>A70 a ids||A70 b ids
 |.block id a,ids=>A70 a (id::ids)
 |.loop a,ids=>A70 a ids
 |.exit i,ids=> !(A5x i ids)
 |.ret,_=>true
 |_,_=>false
structure KK(ρ:Type) where
 norm:Env→HM ρ
 ret:D0u→Option ρ
 bW:List (Nat×(Env→Option ρ))
def A1Y{β:Type}:List (Nat×β)→Nat→Option β
 |[],_=>none
 |(t,b)::d,n=>match Nat.beq t n with
  |true=>some b
  |false=>A1Y d n
def A9a{β:Type}(n:Nat):List (Nat×β)→List (Nat×β)
 |[]=>[]
 |(t,b)::d=>match Nat.beq t n with
  |true=>A9a n d
  |false=>(t,b)::A9a n d
def A5h{ρ':Type}(f:ρ→ρ'):List (Nat×(Env→Option ρ))→List (Nat×(Env→Option ρ'))
 |[]=>[]
 |(t,g)::d=>(t,fun e=>match g e with|some r=>some (f r)|none=>none)::A5h f d
def B9k{ρ':Type}(f:ρ→ρ')(g:D0u→Option ρ)(vs:D0u):Option ρ':=
 match g vs with
 |some r=>some (f r)
 |none=>none
def carried(live:List Nat)(e:Env):List Nat→List (Nat×Kind)
 |[]=>[]
 |s::r=>match A5x s r with
  |true=>carried live e r
  |false=>match A5x s live with
   |false=>carried live e r
   |true=>match e.get s with
    |none=>carried live e r
    |some v=>match Kind.of v with
     |some k=>(s,k)::carried live e r
     |none=>carried live e r
def B0V(P:Program)(e:Env):List ResultVar→(D0u→HM ρ)→HM ρ
 |[],k=>k []
 |.tmp t::rs,k=>match e.get t with
  |some v=>B0V P e rs fun vs=>k (v::vs)
  |none=>U5
 |.cell t ty::rs,k=>match e.get t with
  |some x=>B41 P ty x fun v=>B0V P e rs fun vs=>k (v::vs)
  |none=>U5
def B39(outs:Bool)(ss:List (Nat×Kind))(inner:(ρ':Type)→KK ρ'→HM ρ')(exit:Option Nat)(e:Env)(ds:List Nat)(k:KK ρ):HM ρ:=
 match outs with
 |true=>(inner (r9 (ss.map (·.2))⊕ρ)
   {norm:=fun e'=>B1G (match e'.dV ss with|some x=>some (.inl x)|none=>none)
    ret:=B9k .inr k.ret
    bW:=match exit with
     |some id=>(id,fun e'=>match e'.dV ss with|some x=>some (.inl x)|none=>none)::A5h .inr k.bW
     |none=>A5h .inr k.bW}).bind (Sum.elim (fun x=>k.norm (e.join ds ss x)) X2)
 |false=>(inner (r9 (ss.map (·.2)))
   {norm:=fun e'=>B1G (e'.dV ss)
    ret:=fun _=>none
    bW:=match exit with
     |some id=>[(id,fun e'=>e'.dV ss)]
     |none=>[]}).bind fun x=>k.norm (e.join ds ss x)
def den(P:Program)(C:List Nat)(n:Nat)(live lc:List Nat)(rs:List ResultVar):Code→(ρ:Type)→Env→KK ρ→HM ρ
 |.skip,_,e,k=>k.norm e
 |.region _ ops draw,_,e,k=>B3o P C n live ops draw e k.norm
 |.seq a b,ρ,e,k=>den P C n live lc rs a ρ e {k with norm:=fun e'=>den P C n live lc rs b ρ e' k}
 |.cond c a b,ρ,e,k=>match e.ev c with
  |some (.bool t)=>match A3B a&&A3B b with
   |true=>B39 (A70 a []||A70 b []) (carried lc e (A2M a++A2M b))
     (fun ρ' k'=>A1v t (den P C n live lc rs a ρ' e k') (den P C n live lc rs b ρ' e k')) none e (A2M a++A2M b) k
   |false=>A1v t (den P C n live lc rs a ρ e k) (den P C n live lc rs b ρ e k)
  |_=>U5
 |.block id a,ρ,e,k=>match A3B.canExit id a with
  |true=>B39 (A70 a [id]) (carried lc e (A2M a)) (fun ρ' k'=>den P C n live lc rs a ρ' e k') (some id) e (A2M a) k
  |false=>den P C n live lc rs a ρ e {k with bW:=A9a id k.bW}
 |.loop a,ρ,e,k=>match e.dV (carried lc e (A2M a)) with
  |none=>U5
  |some x=>HM.loop (fun y=>den P C n live lc rs a (r9 ((carried lc e (A2M a)).map (·.2))⊕ρ) (e.join (A2M a) (carried lc e (A2M a)) y)
    {norm:=fun e'=>B1G (match e'.dV (carried lc e (A2M a)) with|some z=>some (.inl z)|none=>none)
     ret:=B9k .inr k.ret
     bW:=A5h .inr k.bW}) x
 |.exit id,_,e,k=>match A1Y k.bW id with
  |some g=>B1G (g e)
  |none=>U5
 |.ret,_,e,k=>B0V P e rs fun vs=>B1G (k.ret vs)
 |_,_,_,_=>U5
def B6V(f:Func):Code:=f.body.getD .skip
def C6y(P:Program)(C:List Nat)(n:Nat)(live lc:List Nat)(rs:List ResultVar)(ks:List Kind)(c:Code)(args:D0u):HM (r9 ks):=
 den P C n live lc rs c (r9 ks) (args.zipIdx.map fun(v,i)=>(i,v))
  {norm:=fun e=>B0V P e rs fun vs=>B1G (r9.get ks vs)
   ret:=r9.get ks
   bW:=[]}
end
end
section
structure A0w(n:Nat)(e:Env)(a:Act):Prop where
 size:a.tmps.size=n
 defers:a.defers=[]
 get:∀t v,e.get t=some v→a.tmps[t]? =some v
def A3e(d:Dec)(a:Act):Prop:=∀t b,d.get t=some b→a.tmps[t]? =some (.bool b)
theorem A0w.ev{n:Nat}{e:Env}{a:Act}(h:A0w n e a){x:Operand}{v:Value}(hx:e.ev x=some v):a.eval x=v:=by
 cases x with
 |tmp t=>
  have:=h.get t v hx
  simp only[Act.eval,G2,this,Option.getD_some]
 |const c=>simpa[Env.ev,Act.eval] using hx
 |global g=>simpa[Env.ev,Act.eval] using hx
 |func f=>simpa[Env.ev,Act.eval] using hx
theorem A0w.eO{n:Nat}{e:Env}{a:Act}(h:A0w n e a):∀{xs:List Operand} {vs:D0u},e.eO xs=some vs→xs.map a.eval=vs
 |[],vs,hx=>by simp only[Env.eO,F6] at hx;subst hx;rfl
 |x::xs,vs,hx=>by
  simp only[Env.eO] at hx
  split at hx
  ·rename_i v hv
   split at hx
   ·rename_i us td
    cases hx
    simp[h.ev hv,A0w.eO h td]
   ·cases hx
  ·cases hx
theorem A0w.dT{n:Nat}{e:Env}{a:Act}(h:A0w n e a){xs:Array Operand}{vs:D0u}(hx:e.eO xs.toList=some vs):xs.map a.eval=vs.toArray:=by
 have:=h.eO hx
 apply I5.1
 simp[this]
theorem A0w.parts{n:Nat}{e:Env}{a:Act}(h:A0w n e a):∀{xs:List (Nat×Operand)} {vs:List (Nat×Value)},A50 e xs=some vs→xs.map (fun(i,x)=>(i,a.eval x))=vs
 |[],vs,hx=>by simp only[A50,F6] at hx;subst hx;rfl
 |(i,x)::xs,vs,hx=>by
  simp only[A50] at hx
  split at hx
  ·rename_i v hv
   split at hx
   ·rename_i us td
    cases hx
    simp only[B6,h.ev hv]
    rw[A0w.parts h td]
   ·cases hx
  ·cases hx
def Res(P:Program)(w0:World)(Φ:Value→Heap→Prop):Result Next→Prop
 |.ok (.value v) w'=>A0d w0 w'∧Φ v w'.heap
 |.ok .skip w'=>A0d w0 w'∧Φ undef w'.heap
 |.ok (.enter f args) w'=>A0d w0 w'∧V4 P f args w'.heap Φ
 |_=>False
def A3F(P:Program)(s:Sem Next)(h:Heap)(Φ:Value→Heap→Prop):Prop:=∀w,w.heap=h→Res P w Φ (s.run P w)
def Stat(P:Program)(s:Sem Next)(v:Value):Prop:=∀w,s.run P w=.ok (.value v) w
def A2J(P:Program)(s:Sem Next)(h:Heap)(v:Value):Prop:=∀w,w.heap=h→s.run P w=.ok (.value v) w
def v8(P:Program)(c:Cls)(s:Sem Next)(h:Heap)(Φ:Value→Heap→Prop):Prop:=
 match c with
 |.stat=>∃v,Stat P s v∧Φ v h
 |.read=>∃v,A2J P s h v∧Φ v h
 |.cT=>A3F P s h Φ
theorem A3F.eN{P:Program}{s:Sem Next}{h:Heap}{Φ:Value→Heap→Prop}{v:Value}(hs:A2J P s h v)(hp:Φ v h):A3F P s h Φ:=by
 intro w hw
 rw[hs w hw]
 exact⟨A0d.refl w,hw▸hp⟩
theorem C5C(P:Program)(s:Sem Value)(w:World):(do pure (Next.value (←s)):Sem Next).run P w=(s.run P w).andThen fun x w'=>.ok (.value x) w':=by
 simp
theorem Stat.of{P:Program}{s:Sem Value}{v:Value}(h:∀w,s.run P w=.ok v w):Stat P (do pure (Next.value (←s)):Sem Next) v:=by
 intro w;rw[C5C,h w];rfl
theorem A2J.of{P:Program}{s:Sem Value}{h:Heap}{v:Value}(hs:∀w,w.heap=h→s.run P w=.ok v w):A2J P (do pure (Next.value (←s)):Sem Next) h v:=by
 intro w hw;rw[C5C,hs w hw];rfl
theorem A3F.eD{P:Program}{s:Sem Value}{h:Heap}{Φ:Value→Heap→Prop}(hs:∀w,w.heap=h→∃v w',s.run P w=.ok v w'∧A0d w w'∧Φ v w'.heap):
  A3F P (do pure (Next.value (←s)):Sem Next) h Φ:=by
 intro w hw
 obtain⟨v,w',hr,hm,hp⟩:=hs w hw
 rw[C5C,hr];exact⟨hm,hp⟩
theorem A3F.fH{P:Program}{s:Sem Unit}{h:Heap}{Φ:Value→Heap→Prop}(hs:∀w,w.heap=h→∃w',s.run P w=.ok () w'∧A0d w w'∧Φ undef w'.heap):
  A3F P (do s;pure Next.skip:Sem Next) h Φ:=by
 intro w hw
 obtain⟨w',hr,hm,hp⟩:=hs w hw
 have:(do s;pure Next.skip:Sem Next).run P w=.ok .skip w':=by simp[hr]
 rw[this];exact⟨hm,hp⟩
theorem W6{P:Program}{t:TypeId}{d:TypeDesc}(h:P.underlying t=some d)(w:World):(underlying t).run P w=.ok d w:=run_underlying h w
theorem A8L{P:Program}{t:TypeId}{i:TypeInfo}(h:P.info? t=some i)(w:World):(typeInfo t).run P w=.ok i w:=by
 simp[typeInfo,h]
theorem A0M{P:Program}{t:TypeId}{i:TypeInfo}(h:P.info? t=some i)(w:World):(sizeOf t).run P w=.ok i.size w:=by
 simp[sizeOf,A8L h]
theorem A2B{P:Program}{t:TypeId}{i:TypeInfo}{z:Value}(h:P.info? t=some i)(hz:i.zero=some z)(w:World):(zeroValue t).run P w=.ok z w:=by
 simp[zeroValue,A8L h,hz]
theorem A2i{P:Program}{t:TypeId}{i:TypeInfo}(h:P.info? t=some i):P.cellsOf t=i.size:=by
 simp[Program.cellsOf,h]
theorem C0J{P:Program}{t:TypeId}{k:Kind}(h:kindOf P t=some k):∃i z,P.info? t=some i∧i.zero=some z∧Kind.of z=some k:=by
 unfold kindOf at h
 split at h
 ·rename_i i hi
  split at h
  ·rename_i z hz;exact⟨i,z,hi,hz,h⟩
  ·cases h
 ·cases h
section
variable {ρ:Type} {P:Program} {k:Value→HM ρ} {h:Heap} {Q:ρ→Heap→Prop}
theorem B9G{op:BinOp}{t:TypeId}{kx ky:IntKind}{a b:Int}(h1:op≠ .eql)(h2:op≠ .neq)(hd:C2L op kx ky a b k h Q):
  ∃v,(∀w,(binOp op t (.int kx a) (.int ky b)).run P w=.ok v w)∧k v h Q:=by
 unfold C2L at hd
 cases op<;>first|exact absurd rfl h1|exact absurd rfl h2|skip
 case shl=>
  obtain⟨h0,hk⟩:=hd
  refine⟨_,fun w=>?_,hk⟩
  simp[binOp,Op.shift,Int.not_lt.2 h0]
 case shr=>
  obtain⟨h0,hk⟩:=hd
  refine⟨_,fun w=>?_,hk⟩
  simp[binOp,Op.shift,Int.not_lt.2 h0]
 all_goals
  have jh:B0R kx ky=true:=by
   cases jh:B0R kx ky with
   |false=>simp only[jh] at hd;exact hd.elim
   |true=>rfl
  simp only[jh] at hd
  obtain rfl:=A7L jh
 case quo=>
  obtain⟨h0,hk⟩:=hd
  exact⟨_,fun w=>by simp[binOp,Op.intDiv,h0],hk⟩
 case rem=>
  obtain⟨h0,hk⟩:=hd
  exact⟨_,fun w=>by simp[binOp,Op.intDiv,h0],hk⟩
 all_goals exact⟨_,fun w=>by simp[binOp,Op.intArith,Op.intBits,Op.intCmp,B6W],hd⟩
theorem B9C{op:BinOp}{t:TypeId}{a b:B38}(h1:op≠ .eql)(h2:op≠ .neq)(hd:C2H op a b k h Q):
  ∃v,(∀w,(binOp op t (.string a) (.string b)).run P w=.ok v w)∧k v h Q:=by
 unfold C2H at hd
 cases op<;>first|exact absurd rfl h1|exact absurd rfl h2|skip
 case add=>
  obtain⟨h0,hk⟩:=hd
  refine⟨_,fun w=>?_,hk⟩
  have:¬(((a.size+b.size:Nat):Int)>9223372036854775807):=by omega
  simp only[binOp,Op.stringOp,IntKind.max_i64,if_neg this,Sem.run_pure]
 all_goals first
  |exact hd.elim
  |exact⟨_,fun w=>by simp[binOp,Op.stringOp],hd⟩
theorem C1a{op:UnOp}{x:Value}(hd:C6x op x k h Q):
  ∃v,(∀w,(Op.unary op x).run P w=.ok v w)∧k v h Q:=by
 unfold C6x at hd
 split at hd
 ·exact⟨_,fun w=>by simp[Op.unary],hd⟩
 ·exact⟨_,fun w=>by simp[Op.unary,Op.intArith],hd⟩
 ·exact⟨_,fun w=>by simp[Op.unary,Op.intBits,B6W],hd⟩
 ·exact hd.elim
theorem C1K(a b:B38):(a.toList==b.toList)=decide (a=b):=by
 have gN:a.toList=b.toList↔a=b:=by
  constructor
  ·intro hh
   rw[ByteArray.toList_eq,ByteArray.toList_eq] at hh
   cases a;cases b
   simp_all
  ·intro hh;rw[hh]
 by_cases db:a=b
 ·simp[db]
 ·have:¬a.toList=b.toList:=fun hh=>db (gN.1 hh)
  simp[db,this]
theorem A1M{t:TypeId}{x y:Value}{r:Bool}(neg:Bool)(h1:∀k n,x≠ .int k n)(h2:∀k n,x≠ .float k n)(h3:∀k n m,x≠ .complex k n m)(h4:∀s,x≠ .string s)
  (hr:∀w,(Op.equal t x y).run P w=.ok r w)(w:World):(binOp (if neg=true then .neq else .eql) t x y).run P w=.ok (.bool (A66 neg r)) w:=by
 cases neg<;>cases x<;>cases y<;>simp_all [binOp,A66]
theorem B4H(d:Nat){t e:TypeId}(ht:P.underlying t=some (.pointer e))(p:D0s)(w:World):(Op.equalIn (d+1) t (.pointer p) (.pointer none)).run P w=.ok p.isNone w:=by
 cases p<;>simp only[Op.equalIn,Sem.run_bind,W6 ht,Result.andThen_ok]<;>rfl
theorem B4G(d:Nat){t e:TypeId}(ht:P.underlying t=some (.slice e))(p:D0s)(a b c f:Nat)(w:World):(Op.equalIn (d+1) t (.slice p a b) (.slice none c f)).run P w=.ok p.isNone w:=by
 cases p<;>simp only[Op.equalIn,Sem.run_bind,W6 ht,Result.andThen_ok]<;>rfl
theorem B4I(d:Nat){t e f:TypeId}(ht:P.underlying t=some (.map e f))(p:Option Nat)(w:World):(Op.equalIn (d+1) t (.map p) (.map none)).run P w=.ok p.isNone w:=by
 cases p<;>simp only[Op.equalIn,Sem.run_bind,W6 ht,Result.andThen_ok]<;>rfl
theorem B2g(d:Nat){t:TypeId}{ms:Array (String×TypeId)}(ht:P.underlying t=some (.interface ms))(x:Value)(hx:isIface x=true)(w:World):(Op.equalIn (d+1) t x .nilIface).run P w=.ok (B9o x) w:=by
 cases x<;>simp[isIface] at hx<;>simp only[Op.equalIn,Sem.run_bind,W6 ht,Result.andThen_ok,B9o]<;>rfl
theorem B3l(d:Nat){t:TypeId}{a b:Array TypeId}{c:Bool}(ht:P.underlying t=some (.func a b c))(x:Value)(hx:A7J x=true)(w:World):(Op.equalIn (d+1) t x .nilFunc).run P w=.ok (B9p x) w:=by
 cases x<;>simp[A7J] at hx<;>simp only[Op.equalIn,Sem.run_bind,W6 ht,Result.andThen_ok,B9p]<;>rfl
theorem B9y(d:Nat){t:TypeId}(ht:P.underlying t=some .bool)(a b:Bool)(w:World):(Op.equalIn (d+1) t (.bool a) (.bool b)).run P w=.ok (a==b) w:=by
 simp only[Op.equalIn,Sem.run_bind,W6 ht,Result.andThen_ok];rfl
theorem B7v{t e:TypeId}(ht:P.underlying t=some (.pointer e))(p:D0s)(w:World):(Op.equal t (.pointer p) (.pointer none)).run P w=.ok p.isNone w:=B4H 9999 ht p w
theorem B7u{t e:TypeId}(ht:P.underlying t=some (.slice e))(p:D0s)(a b c d:Nat)(w:World):(Op.equal t (.slice p a b) (.slice none c d)).run P w=.ok p.isNone w:=B4G 9999 ht p a b c d w
theorem B7w{t e f:TypeId}(ht:P.underlying t=some (.map e f))(p:Option Nat)(w:World):(Op.equal t (.map p) (.map none)).run P w=.ok p.isNone w:=B4I 9999 ht p w
theorem B4F{t:TypeId}{ms:Array (String×TypeId)}(ht:P.underlying t=some (.interface ms))(x:Value)(hx:isIface x=true)(w:World):(Op.equal t x .nilIface).run P w=.ok (B9o x) w:=B2g 9999 ht x hx w
theorem B6j{t:TypeId}{a b:Array TypeId}{c:Bool}(ht:P.underlying t=some (.func a b c))(x:Value)(hx:A7J x=true)(w:World):(Op.equal t x .nilFunc).run P w=.ok (B9p x) w:=B3l 9999 ht x hx w
theorem C2z{t:TypeId}(ht:P.underlying t=some .bool)(a b:Bool)(w:World):(Op.equal t (.bool a) (.bool b)).run P w=.ok (a==b) w:=B9y 9999 ht a b w
theorem A9v{t:TypeId}{d:TypeDesc}(h:P.underlying t=some d)(w:World):(isAgg t).run P w=.ok (B0Q d) w:=by
 simp only[isAgg,Sem.run_bind,W6 h,Result.andThen_ok]
 cases d<;>rfl
theorem B4a{t:TypeId}{d:TypeDesc}(h:P.underlying t=some d):∃i,P.info? t=some i:=by
 unfold Program.underlying at h
 split at h
 ·exact⟨_,by assumption⟩
 ·exact⟨_,by assumption⟩
 ·cases h
theorem A2m{t:TypeId}{cs:D0u}{off:Nat}{v:Value}(hp:A4v P t cs off=some v)(w:World):(part t cs.toArray off).run P w=.ok v w:=by
 unfold A4v at hp
 cases hu:P.underlying t with
 |none=>simp only[hu] at hp;cases hp
 |some d=>
  obtain⟨i,hi⟩:=B4a hu
  cases er:B0Q d with
  |true=>
   have dp:some (Value.agg ((cs.drop off).take (P.cellsOf t)).toArray)=some v:=by simpa only[hu,er] using hp
   cases dp
   simp only[part,Sem.run_bind,A9v hu,Result.andThen_ok,er,if_true,A0M hi,Sem.run_pure]
   congr 2
   rw[A2i hi]
   apply I5.1
   simp[List.drop_take,Nat.add_sub_cancel_left]
  |false=>
   have dp:cs[off]? =some v:=by simpa only[hu,er] using hp
   simp only[part,Sem.run_bind,A9v hu,Result.andThen_ok,er,H9,if_false]
   have:cs.toArray[off]? =some v:=by simpa using dp
   rw[this];rfl
theorem B6l{rec:TypeId→Value→Value→Option Bool}{n:Nat}
  (iP:∀t x y r,rec t x y=some r→∀w,(Op.equalIn n t x y).run P w=.ok r w){xs ys:D0t}:
  ∀(fs:List Field) (r:Bool),B4J P rec xs.toList ys.toList fs=some r→∀w,(Op.eqFields n xs ys fs).run P w=.ok r w
 |[],r,hr,w=>by
  simp only[B4J,F6] at hr
  subst hr
  rfl
 |f::fs,r,hr,w=>by
  simp only[B4J] at hr
  cases hn:decide (f.name= "_") with
  |true=>simp only[hn] at hr;cases hr
  |false=>
  simp only[hn] at hr
  cases ha:A4v P f.type xs.toList f.offset with
  |none=>simp only[ha] at hr;cases hr
  |some a=>
  simp only[ha] at hr
  cases hb:A4v P f.type ys.toList f.offset with
  |none=>simp only[hb] at hr;cases hr
  |some b=>
  simp only[hb] at hr
  cases h1:rec f.type a b with
  |none=>simp only[h1] at hr;cases hr
  |some r1=>
  simp only[h1] at hr
  cases h2:B4J P rec xs.toList ys.toList fs with
  |none=>simp only[h2] at hr;cases hr
  |some r2=>
  simp only[h2,F6] at hr
  subst hr
  have jM:f.name≠ "_" :=by simpa using hn
  have pa:=A2m ha w
  have pb:=A2m hb w
  simp only[Q6] at pa pb
  have ih:=B6l iP fs r2 h2 w
  simp only[Op.eqFields,jM,ne_eq,not_false_eq_true,if_true,Sem.run_bind,pa,pb,Result.andThen_ok,iP _ _ _ _ h1 w]
  cases r1
  ·simp
  ·simpa using ih
theorem B7t{rec:TypeId→Value→Value→Option Bool}{n:Nat}{t:TypeId}{fields:Array Field}(ht:P.underlying t=some (.struct fields))
  (iP:∀t x y r,rec t x y=some r→∀w,(Op.eqGuardIn n t x y).run P w=.ok false w){xs ys:D0t}{r:Bool}(hr:B4J P rec xs.toList ys.toList fields.toList=some r)(w:World):
  (Op.eqGuardIn (n+1) t (.agg xs) (.agg ys)).run P w=.ok false w:=by
 simp only[Op.eqGuardIn,Sem.run_bind,W6 ht,Result.andThen_ok]
 rw[←Array.forIn_toList]
 generalize fields.toList=fs at hr
 clear ht
 induction fs generalizing r with
 |nil=>simp
 |cons f fs ih=>
  simp only[B4J] at hr
  cases hn:decide (f.name= "_") with
  |true=>simp only[hn] at hr;cases hr
  |false=>
  simp only[hn] at hr
  cases ha:A4v P f.type xs.toList f.offset with
  |none=>simp only[ha] at hr;cases hr
  |some a=>
  simp only[ha] at hr
  cases hb:A4v P f.type ys.toList f.offset with
  |none=>simp only[hb] at hr;cases hr
  |some b=>
  simp only[hb] at hr
  cases h1:rec f.type a b with
  |none=>simp only[h1] at hr;cases hr
  |some r1=>
  simp only[h1] at hr
  cases h2:B4J P rec xs.toList ys.toList fs with
  |none=>simp only[h2] at hr;cases hr
  |some r2=>
  have jM:f.name≠ "_" :=by simpa using hn
  have pa:=A2m ha w
  have pb:=A2m hb w
  simp only[Q6] at pa pb
  simp only[List.forIn_cons,jM,ne_eq,not_false_eq_true,if_true,Sem.run_bind,pa,pb,Result.andThen_ok,iP _ _ _ _ h1 w,H9,if_false,Sem.run_pure]
  exact ih h2
theorem C0L{rec:TypeId→Value→Value→Option Bool}{n:Nat}{t:TypeId}{fields:Array Field}{e:Bool}(ht:P.underlying t=some (.struct fields))
  (iP:∀t x y r,rec t x y=some r→∀w,(Instr.checkKey e n t x).run P w=.ok () w){xs ys:D0t}{r:Bool}(hr:B4J P rec xs.toList ys.toList fields.toList=some r)(w:World):
  (Instr.checkKey e (n+1) t (.agg xs)).run P w=.ok () w:=by
 simp only[Instr.checkKey,Sem.run_bind,W6 ht,Result.andThen_ok]
 rw[←Array.forIn_toList]
 generalize fields.toList=fs at hr
 clear ht
 induction fs generalizing r with
 |nil=>simp
 |cons f fs ih=>
  simp only[B4J] at hr
  cases hn:decide (f.name= "_") with
  |true=>simp only[hn] at hr;cases hr
  |false=>
  simp only[hn] at hr
  cases ha:A4v P f.type xs.toList f.offset with
  |none=>simp only[ha] at hr;cases hr
  |some a=>
  simp only[ha] at hr
  cases hb:A4v P f.type ys.toList f.offset with
  |none=>simp only[hb] at hr;cases hr
  |some b=>
  simp only[hb] at hr
  cases h1:rec f.type a b with
  |none=>simp only[h1] at hr;cases hr
  |some r1=>
  simp only[h1] at hr
  cases h2:B4J P rec xs.toList ys.toList fs with
  |none=>simp only[h2] at hr;cases hr
  |some r2=>
  have jM:f.name≠ "_" :=by simpa using hn
  have pa:=A2m ha w
  simp only[Q6] at pa
  simp only[List.forIn_cons,jM,ne_eq,not_false_eq_true,if_true,Sem.run_bind,pa,Result.andThen_ok,iP _ _ _ _ h1 w,Sem.run_pure]
  exact ih h2
theorem A2g:∀(d:Nat) {t:TypeId} {x y:Value} {r:Bool},B6k P d t x y=some r→∀(D:Nat) (w:World),
  (Op.equalIn (d+D) t x y).run P w=.ok r w∧(Op.eqGuardIn (d+D) t x y).run P w=.ok false w∧∀e,(Instr.checkKey e (d+D) t x).run P w=.ok () w
 |0,_,_,_,_,hr,_,_=>by cases hr
 |d+1,t,x,y,r,hr,D,w=>by
  rw[show d+1+D=(d+D)+1 from by omega]
  unfold B6k at hr
  cases ht:P.underlying t with
  |none=>simp only[ht] at hr;cases hr
  |some dd=>
  cases dd with
  |int kk=>
   simp only[ht] at hr
   cases x<;>try cases hr
   cases y<;>try cases hr
   rename_i k a k' b
   simp only at hr
   cases jh:B0R k k' with
   |false=>simp only[jh] at hr;cases hr
   |true=>
    simp only[jh,F6] at hr
    obtain rfl:=A7L jh
    subst hr
    refine⟨?_,?_,fun e=>?_⟩
    ·simp only[Op.equalIn,Sem.run_bind,W6 ht,Result.andThen_ok];simp
    ·simp only[Op.eqGuardIn,Sem.run_bind,W6 ht,Result.andThen_ok];simp
    ·simp only[Instr.checkKey,Sem.run_bind,W6 ht,Result.andThen_ok];simp
  |bool=>
   simp only[ht] at hr
   cases x<;>try cases hr
   cases y<;>try cases hr
   refine⟨?_,?_,fun e=>?_⟩
   ·simp only[Op.equalIn,Sem.run_bind,W6 ht,Result.andThen_ok];simp
   ·simp only[Op.eqGuardIn,Sem.run_bind,W6 ht,Result.andThen_ok];simp
   ·simp only[Instr.checkKey,Sem.run_bind,W6 ht,Result.andThen_ok];simp
  |string=>
   simp only[ht] at hr
   cases x<;>try cases hr
   cases y<;>try cases hr
   rename_i a b
   refine⟨?_,?_,fun e=>?_⟩
   ·simp only[Op.equalIn,Sem.run_bind,W6 ht,Result.andThen_ok]
    have e:(a==b)=decide (a=b):=(beq_toListBytes a b).trans (C1K a b)
    simp[e]
   ·simp only[Op.eqGuardIn,Sem.run_bind,W6 ht,Result.andThen_ok];simp
   ·simp only[Instr.checkKey,Sem.run_bind,W6 ht,Result.andThen_ok];simp
  |struct fields=>
   simp only[ht] at hr
   cases bL:P.stoodInHeld t with
   |true=>simp only[bL] at hr;cases hr
   |false=>
   simp only[bL] at hr
   cases x<;>try cases hr
   cases y<;>try cases hr
   rename_i xs ys
   simp only at hr
   have hf:P.fieldsOf t=fields:=by simp[Program.fieldsOf,ht]
   refine⟨?_,B7t ht (fun t x y r hr w=>(A2g d hr D w).2.1) hr w,fun e=>C0L ht (fun t x y r hr w=>(A2g d hr D w).2.2 e) hr w⟩
   rw[run_equalIn_struct w (d+D) t xs ys (by rw[hf];exact ht) bL,hf]
   exact B6l (fun t x y r hr w=>(A2g d hr D w).1) _ r hr w
  |_=>simp only[ht] at hr;cases hr
def B2h(neg:Bool):BinOp:=if neg=true then .neq else .eql
theorem B4f{neg:Bool}{t:TypeId}{xo yo:Operand}{x y:Value}(hy:∀c,yo=.const c→y=c)(hd:A53 P neg t yo x y k h Q):
  ∃v,(∀w,(do eqGuard (B2h neg) t xo yo x y;binOp (B2h neg) t x y:Sem Value).run P w=.ok v w)∧k v h Q:=by
 cases ht:P.underlying t with
 |none=>simp only[A53,ht] at hd;exact hd.elim
 |some d=>
 cases d with
 |pointer e=>
  simp only[A53,ht] at hd
  split at hd
  ·split at hd
   ·rename_i p
    obtain rfl:=hy _ rfl
    refine⟨_,fun w=>?_,hd⟩
    have hb:=A1M (P:=P) (y:=.pointer none) neg (by simp) (by simp) (by simp) (by simp) (B7v ht p) w
    cases neg<;>simpa[B2h,go_sem] using hb
   ·exact hd.elim
  ·exact hd.elim
 |slice e=>
  simp only[A53,ht] at hd
  split at hd
  ·split at hd
   ·rename_i m n _ p a b
    obtain rfl:=hy _ rfl
    refine⟨_,fun w=>?_,hd⟩
    have hb:=A1M (P:=P) (y:=.slice none m n) neg (by simp) (by simp) (by simp) (by simp) (B7u ht p a b m n) w
    cases neg<;>simpa[B2h,go_sem] using hb
   ·exact hd.elim
  ·exact hd.elim
 |map e f=>
  simp only[A53,ht] at hd
  split at hd
  ·split at hd
   ·rename_i p
    obtain rfl:=hy _ rfl
    refine⟨_,fun w=>?_,hd⟩
    have hb:=A1M (P:=P) (y:=.map none) neg (by simp) (by simp) (by simp) (by simp) (B7w ht p) w
    cases neg<;>simpa[B2h,go_sem] using hb
   ·exact hd.elim
  ·exact hd.elim
 |interface ms=>
  simp only[A53,ht] at hd
  split at hd
  ·obtain⟨hx,hk⟩:=hd
   obtain rfl:=hy _ rfl
   refine⟨_,fun w=>?_,hk⟩
   have hb:=A1M (P:=P) (y:=.nilIface) neg (by intros;rintro rfl;simp[isIface] at hx) (by intros;rintro rfl;simp[isIface] at hx) (by intros;rintro rfl;simp[isIface] at hx) (by intros;rintro rfl;simp[isIface] at hx) (B4F ht x hx) w
   have hg:eqGuard (B2h neg) t xo (.const .nilIface) x .nilIface=pure ():=by cases x<;>simp[isIface] at hx<;>simp[go_sem]
   rw[hg]
   cases neg<;>simpa[B2h] using hb
  ·exact hd.elim
 |func a b c=>
  simp only[A53,ht] at hd
  split at hd
  ·obtain⟨hx,hk⟩:=hd
   obtain rfl:=hy _ rfl
   refine⟨_,fun w=>?_,hk⟩
   have hb:=A1M (P:=P) (y:=.nilFunc) neg (by intros;rintro rfl;simp[A7J] at hx) (by intros;rintro rfl;simp[A7J] at hx) (by intros;rintro rfl;simp[A7J] at hx) (by intros;rintro rfl;simp[A7J] at hx) (B6j ht x hx) w
   have hg:eqGuard (B2h neg) t xo (.const .nilFunc) x .nilFunc=pure ():=by cases x<;>simp[A7J] at hx<;>simp[go_sem]
   rw[hg]
   cases neg<;>simpa[B2h] using hb
  ·exact hd.elim
 |int ki=>
  simp only[A53,ht] at hd
  cases x<;>try exact hd.elim
  cases y<;>try exact hd.elim
  rename_i kx a ky b
  simp only at hd
  cases jh:B0R kx ky with
  |false=>simp only[jh] at hd;exact hd.elim
  |true=>
   simp only[jh] at hd
   obtain rfl:=A7L jh
   refine⟨_,fun w=>?_,hd⟩
   cases neg<;>simp[B2h,go_sem,A66,bne]
 |bool=>
  simp only[A53,ht] at hd
  cases x<;>try exact hd.elim
  cases y<;>try exact hd.elim
  rename_i a b
  refine⟨_,fun w=>?_,hd⟩
  have hb:=A1M (P:=P) (y:=.bool b) neg (by simp) (by simp) (by simp) (by simp) (C2z ht a b) w
  cases neg<;>simpa[B2h,go_sem] using hb
 |string=>
  simp only[A53,ht] at hd
  cases x<;>try exact hd.elim
  cases y<;>try exact hd.elim
  rename_i a b
  refine⟨_,fun w=>?_,hd⟩
  rw[←C1K]
  cases neg<;>simp[B2h,go_sem,A66,binOp,Op.stringOp]
 |struct fields=>
  simp only[A53,ht] at hd
  cases x<;>try exact hd.elim
  rename_i xs
  simp only at hd
  cases hr:B6k P 8 t (.agg xs) y with
  |none=>simp only[hr] at hd;exact hd.elim
  |some r=>
   simp only[hr] at hd
   refine⟨_,fun w=>?_,hd⟩
   have h1:=(A2g 8 hr 9992 w).1
   have h2:=(A2g 8 hr 9992 w).2.1
   have hg:(eqGuard (B2h neg) t xo yo (.agg xs) y).run P w=.ok () w:=by
    have pT:∃ys,y=.agg ys:=by
     unfold B6k at hr
     simp only[ht] at hr
     cases bL:P.stoodInHeld t with
     |true=>simp only[bL] at hr;cases hr
     |false=>
      simp only[bL] at hr
      cases y<;>try cases hr
      exact⟨_,rfl⟩
    obtain⟨ys,rfl⟩:=pT
    have rY:(Op.eqGuardIn Op.maxDepth t (.agg xs) (.agg ys)).run P w=.ok false w:=h2
    cases neg
    all_goals
     simp only[eqGuard,B2h,H9,if_false,if_true,N4,Sem.run_bind,run_program,Result.andThen_ok]
     simp only[Sem.run_ite]
     split
     ·rfl
     ·simp only[Sem.run_bind,rY,Result.andThen_ok,H9,if_false]
      rfl
   have wm:(Op.equal t (.agg xs) y).run P w=.ok r w:=h1
   have hb:=A1M (P:=P) (t:=t) (x:=.agg xs) (y:=y) (r:=r) neg (by simp) (by simp) (by simp) (by simp)
   rw[Sem.run_bind,hg,Result.andThen_ok]
   exact hb (fun w=>(A2g 8 hr 9992 w).1) w
 |_=>simp only[A53,ht] at hd;exact hd.elim
theorem B9J{op:BinOp}{t:TypeId}{xo yo:Operand}{x y:Value}(hy:∀c,yo=.const c→y=c)(hd:C2N P op t yo x y k h Q):
  ∃v,(∀w,(do eqGuard op t xo yo x y;binOp op t x y:Sem Value).run P w=.ok v w)∧k v h Q:=by
 unfold C2N at hd
 split at hd
 ·exact B4f (neg:=false) hy hd
 ·exact B4f (neg:=true) hy hd
 ·rename_i h1 h2
  have hg:∀a b,eqGuard op t xo yo a b=pure ():=by intro a b;cases op<;>first|rfl|exact absurd rfl h1|exact absurd rfl h2
  rw[hg]
  split at hd
  ·obtain⟨v,hv,hk⟩:=B9G (t:=t) h1 h2 hd
   exact⟨v,fun w=>by simpa using hv w,hk⟩
  ·obtain⟨v,hv,hk⟩:=B9C (t:=t) h1 h2 hd
   exact⟨v,fun w=>by simpa using hv w,hk⟩
  ·exact hd.elim
theorem add_zero(a:Addr):a.add 0=a:=by simp[Addr.add]
theorem C2T{h:Heap}{a:Addr}{v:Value}(hc:W3 h a=some v):a.spot=none:=by
 unfold W3 at hc
 split at hc
 ·cases hs:a.spot with
  |none=>rfl
  |some x=>simp[hs] at hc
 ·cases hc
theorem B7M{w:World}{a:Addr}{v:Value}(hc:W3 w.heap a=some v):(load a).run P w=.ok v w:=by
 rw[run_load,B9P,hc]
theorem run_loadCellsFrom(a:Addr)(w:World):∀(vs:D0u) (i:Nat) (acc:D0t),(∀(j:Nat) v,vs[j]? =some v→W3 w.heap (a.add (i+j))=some v)→
  (loadCellsFrom a i vs.length acc).run P w=.ok (acc++vs.toArray) w
 |[],_,acc,_=>by simp[loadCellsFrom]
 |v::vs,i,acc,hc=>by
  have h0:=hc 0 v rfl
  simp only[B7,loadCellsFrom,Sem.run_bind]
  rw[B7M (by simpa using h0)]
  simp only[Result.andThen_ok]
  rw[run_loadCellsFrom a w vs (i+1) (acc.push v) (fun j u hj=>by have:=hc (j+1) u (by simpa using hj);rwa[show i+1+j=i+(j+1) from by omega])]
  congr 1
  apply I5.1
  simp
theorem run_loadCells{a:Addr}{w:World}{vs:D0u}{n:Nat}(hn:n=vs.length)(hc:∀(j:Nat) v,vs[j]? =some v→W3 w.heap (a.add j)=some v):
  (loadCells a n).run P w=.ok vs.toArray w:=by
 subst hn
 have:=run_loadCellsFrom (P:=P) a w vs 0 #[] (by simpa using hc)
 simpa[loadCells] using this
theorem B3r{s t:TypeId}{x:Value}(hd:A2N P s t x k h Q):
  ∃v,(∀w,(w.heap=h∨∃kd,P.underlying t=some (.int kd))→(convert s t x).run P w=.ok v w)∧k v h Q:=by
 cases hs:P.underlying s with
 |none=>simp only[A2N,hs] at hd;exact hd.elim
 |some ds=>
 cases ht:P.underlying t with
 |none=>simp only[A2N,hs,ht] at hd;exact hd.elim
 |some dt=>
 cases dt with
 |int kd=>
  simp only[A2N,hs,ht] at hd
  cases x<;>try exact hd.elim
  exact⟨_,fun w _=>by simp[convert,W6 hs,W6 ht,Conv.intToInt],hd⟩
 |string=>
  simp only[A2N,hs,ht] at hd
  cases x<;>try exact hd.elim
  ·exact⟨_,fun w _=>by simp[convert,W6 hs,W6 ht],hd⟩
  ·rename_i a n c
   simp only at hd
   cases ds with
   |slice e=>
    simp only at hd
    cases he:P.underlying e with
    |none=>simp only[he] at hd;exact hd.elim
    |some de=>
    simp only[he] at hd
    cases de with
    |int kd=>
     cases kd with
     |u8=>
      obtain⟨ns,hr,hq⟩:=hd
      refine⟨_,fun w hw=>?_,hq⟩
      have hw:w.heap=h:=by
       rcases hw with hw|⟨kd,hk⟩
       ·exact hw
       ·cases hk
      subst hw
      rw[run_convert_bytes_string w s t e a n c hs he ht]
      cases a with
      |none=>
       have qw:ns=[]:=by simpa[A6g] using hr
       subst qw
       rfl
      |some a=>
       obtain⟨h1,h2⟩:=hr
       refine run_bytesToString w a n c ns ?_
       exact run_loadCells (by simpa using h1.symm) (fun j v hv=>h2 j v (by simpa using hv))
     |_=>exact hd.elim
    |_=>exact hd.elim
   |_=>exact hd.elim
 |_=>simp only[A2N,hs,ht] at hd;exact hd.elim
end
end
section
theorem B4D(h:Heap)(a b:Addr)(v:Value):(W3 (A2A h a v) b).isSome=(W3 h b).isSome:=by
 unfold W3 A2A
 simp only[O3]
 by_cases hb:a.block=b.block
 ·simp only[hb,if_true]
  cases hh:h[b.block]? with
  |none=>simp
  |some x=>
   cases x<;>simp
   cases hs:b.spot<;>simp
   cases af:a.spot<;>simp
   rename_i c _ _
   by_cases ah:b.off<c.size
   ·simp[ah]
   ·simp[ah]
 ·simp[hb]
theorem B3j(h:Heap)(a b:Addr)(v:Value):A2q (A2A h a v) b=A2q h b:=by
 unfold A2q A2A
 simp only[O3]
 by_cases hb:a.block=b.block
 ·simp only[hb,if_true]
  cases hh:h[b.block]? with
  |none=>simp
  |some x=>cases x<;>simp
 ·simp[hb]
section
variable {P:Program}
theorem A2b(a:Addr):∀(vs:D0u) (i:Nat) (w:World),(∀(j:Nat) v,vs[j]? =some v→(W3 w.heap (a.add (i+j))).isSome=true∧A2q w.heap (a.add (i+j))=false∧v.oneCell'=true)→
  ∃w',(storeCells a vs i).run P w=.ok () w'∧A0d w w'∧w'.heap=A2l w.heap a vs i
 |[],i,w,_=>⟨w,by simp[storeCells],A0d.refl w,rfl⟩
 |v::vs,i,w,hc=>by
  obtain⟨h1,h2,h3⟩:=hc 0 v rfl
  simp only[O4] at h1 h2
  obtain⟨w',hr,hs,hh⟩:=A2b a vs (i+1) (w.setCell (a.add i) v) (fun j u hj=>by
   obtain⟨k1,k2,k3⟩:=hc (j+1) u (by simpa using hj)
   rw[show i+1+j=i+(j+1) from by omega,B8T,B4D,B3j]
   exact⟨k1,k2,k3⟩)
  refine⟨w',?_,⟨hs.os,hs.tape,hs.output⟩,hh⟩
  simp only[storeCells,Sem.run_bind]
  rw[run_store P w _ v _ h3,B9P]
  obtain⟨u,hu⟩:=Option.isSome_iff_exists.1 h1
  rw[hu,C4L,h2]
  simpa using hr
theorem B4n{t:TypeId}{d:TypeDesc}{w:World}{a:Addr}{vs:D0u}(hd:P.underlying t=some d)(er:B0Q d=true)
  (hn:P.cellsOf t=vs.length)(hc:∀(j:Nat) v,vs[j]? =some v→W3 w.heap (a.add j)=some v):(loadVar t a).run P w=.ok (.agg vs.toArray) w:=by
 obtain⟨i,hi⟩:=B4a hd
 simp only[loadVar,Sem.run_bind,A9v hd,Result.andThen_ok,er,if_true,A0M hi]
 rw[run_loadCells (by rw[←hn,A2i hi]) hc]
 rfl
theorem B4m{t:TypeId}{d:TypeDesc}{w:World}{a:Addr}{v:Value}(hd:P.underlying t=some d)(er:B0Q d=false)
  (hc:W3 w.heap a=some v):(loadVar t a).run P w=.ok v w:=by
 simp only[loadVar,Sem.run_bind,A9v hd,Result.andThen_ok,er]
 exact B7M hc
variable {ρ:Type} {k:Value→HM ρ} {h:Heap} {Q:ρ→Heap→Prop}
theorem C7b(ts:List Tag)(x:Tup ts):(Tup.cC ts x).length=ts.length:=by
 induction ts with
 |nil=>rfl
 |cons t ts ih=>simp[HT.cC,ih]
theorem B0j{t:TypeId}{x:Value}(hd:B41 P t x k h Q):∃v,(∀w,w.heap=h→(Instr.loadAt t x).run P w=.ok v w)∧k v h Q:=by
 unfold B41 at hd
 cases x<;>try exact hd.elim
 rename_i p
 cases p with
 |none=>exact hd.elim
 |some a=>
 have hl:∀w,(Instr.loadAt t (.pointer (some a))).run P w=(loadVar t a).run P w:=fun w=>by simp[Instr.loadAt,Instr.sureAddr]
 simp only[hl]
 simp only at hd
 cases hu:P.underlying t with
 |none=>simp only[hu] at hd;exact hd.elim
 |some d=>
  simp only[hu] at hd
  cases er:B0Q d with
  |true=>
   simp only[er] at hd
   cases hk:kindOf P t with
   |none=>simp only[hk] at hd;exact hd.elim
   |some kd=>
    cases kd with
    |one tg=>simp only[hk] at hd;exact hd.elim
    |agg ts=>
     simp only[hk] at hd
     cases hb:Nat.beq ts.length (P.cellsOf t) with
     |false=>simp only[hb] at hd;exact hd.elim
     |true=>
      simp only[hb] at hd
      obtain⟨x,hx,hq⟩:=hd
      refine⟨_,fun w hw=>?_,hq⟩
      subst hw
      exact B4n hu er (by rw[C7b];exact(E3 hb).symm) hx
  |false=>
   simp only[er] at hd
   cases hk:kindOf P t with
   |none=>simp only[hk] at hd;exact hd.elim
   |some kd=>
    cases kd with
    |agg ts=>simp only[hk] at hd;exact hd.elim
    |one tg=>
     simp only[hk] at hd
     obtain⟨x,hx,hq⟩:=hd
     exact⟨_,fun w hw=>by subst hw;exact B4m hu er hx,hq⟩
theorem A37{kd:Kind}{v:Value}{cs:D0u}(h1:A2H kd v=some cs)(eh:∀t,kd=.one t→v.oneCell'=true):v.cells=cs.toArray:=by
 cases kd with
 |one t=>
  simp only[A2H,F6] at h1
  subst h1
  have:=eh t rfl
  cases v<;>first|rfl|simp[Value.oneCell'] at this
 |agg ts=>
  simp only[A2H] at h1
  cases v<;>simp only at h1<;>try cases h1
  split at h1
  ·cases h1;simp[Value.cells]
  ·cases h1
theorem B1i{kd:Kind}{v:Value}{α:Type}{m:HM α}{R:α→Heap→Prop}(hd:B84 kd v m h R):(∀t,kd=.one t→v.oneCell'=true)∧m h R:=by
 cases kd with
 |agg ts=>exact⟨fun t ht=>(by cases ht),hd⟩
 |one tg=>
  simp only[B84] at hd
  cases ha:tg.isAny with
  |true=>simp only[ha] at hd;exact⟨fun _ _=>hd.1,hd.2⟩
  |false=>
   simp only[ha] at hd
   cases hx:tg.get v with
   |none=>simp only[hx] at hd;exact hd.elim
   |some x=>
    simp only[hx] at hd
    refine⟨fun t ht=>?_,hd⟩
    have:=Tag.bT hx
    subst this
    cases tg<;>first|rfl|cases ha
theorem B6v{t:TypeId}{x v:Value}(hd:B6w P t x v k h Q):∀w,w.heap=h→∃w',(Instr.storeAt t x v).run P w=.ok () w'∧A0d w w'∧k undef w'.heap Q:=by
 unfold B6w at hd
 cases x<;>try exact hd.elim
 rename_i p
 cases p with
 |none=>exact hd.elim
 |some a=>
 simp only at hd
 cases hk:kindOf P t with
 |none=>simp only[hk] at hd;exact hd.elim
 |some kd=>
  simp only[hk] at hd
  obtain⟨i,z,hi,hz,-⟩:=C0J hk
  cases hc:A2H kd v with
  |none=>simp only[hc] at hd;exact hd.elim
  |some cs=>
   simp only[hc] at hd
   cases hb:Nat.beq cs.length (P.cellsOf t) with
   |false=>simp only[hb] at hd;exact hd.elim
   |true=>
    simp only[hb] at hd
    have hlen:=E3 hb
    intro w hw
    subst hw
    have bL:∀(vs:D0u),v.cells=vs.toArray→(Instr.storeAt t (.pointer (some a)) v).run P w=(storeCells a vs 0).run P w∨vs.length≠i.size:=by
     intro vs dm
     by_cases hl:vs.length=i.size
     ·left
      simp[Instr.storeAt,Instr.sureAddr,storeVar,A0M hi,dm,hl]
     ·exact .inr hl
    cases kd with
    |one tg=>
     simp only at hd
     obtain⟨h1,h2,h3,hq⟩:=hd
     have hv:=A37 hc (fun _ _=>h3)
     simp only[A2H,F6] at hc
     subst hc
     obtain⟨w',hr,hs,hh⟩:=A2b (P:=P) a [v] 0 w (fun j u hj=>by
      cases j with
      |zero=>simp at hj;subst hj;rw[L7,add_zero];exact⟨h1,h2,h3⟩
      |succ j=>simp at hj)
     refine⟨w',?_,hs,?_⟩
     ·rcases bL [v] hv with he|he
      ·rw[he];exact hr
      ·rw[A2i hi] at hlen;exact absurd hlen he
     ·rw[hh]
      simpa[A2l,add_zero] using hq
    |agg ts=>
     simp only at hd
     obtain⟨h1,hq⟩:=hd
     have hv:=A37 hc (fun _ ht=>by cases ht)
     obtain⟨w',hr,hs,hh⟩:=A2b (P:=P) a cs 0 w (fun j u hj=>by rw[L7];exact h1 j u hj)
     refine⟨w',?_,hs,by rw[hh];exact hq⟩
     rcases bL cs hv with he|he
     ·rw[he];exact hr
     ·rw[A2i hi] at hlen;exact absurd hlen he
theorem C1T{t:TypeId}{v:Value}{cs:D0u}(hv:v.cells=cs.toArray)(w:World):
  (newVar t v).run P w=.ok ⟨w.heap.size,0,none⟩ {w with heap:=w.heap.push (.cells cs.toArray t)}:=by
 simp[newVar,newRow,hv]
theorem B9I{t:TypeId}{v:Value}(hd:C2M P t v k h Q):∀w,w.heap=h→∃u w',(Instr.box t v).run P w=.ok u w'∧A0d w w'∧k u w'.heap Q:=by
 unfold C2M at hd
 cases hk:kindOf P t with
 |none=>simp only[hk] at hd;exact hd.elim
 |some kd=>
  simp only[hk] at hd
  cases hc:A2H kd v with
  |none=>simp only[hc] at hd;exact hd.elim
  |some cs=>
   simp only[hc] at hd
   obtain⟨ho,hq⟩:=B1i hd
   intro w hw
   subst hw
   exact⟨_,w.alloc (.cells cs.toArray t),by simp[Instr.box,C1T (A37 hc ho)],⟨rfl,rfl,rfl⟩,hq⟩
theorem B6O{t:TypeId}(hd:B6P P t k h Q):∀w,w.heap=h→∃u w',(Instr.alloc t true (.tuple #[])).run P w=.ok u w'∧A0d w w'∧k u w'.heap Q:=by
 unfold B6P at hd
 cases hi:P.info? t with
 |none=>simp only[hi] at hd;exact hd.elim
 |some i=>
  simp only[hi] at hd
  cases hz:i.zero with
  |none=>simp only[hz] at hd;exact hd.elim
  |some z=>
   simp only[hz] at hd
   intro w hw
   subst hw
   exact⟨_,w.alloc (.cells z.cells t),by simp[Instr.alloc,A2B hi hz,newVar,newRow],⟨rfl,rfl,rfl⟩,hd⟩
theorem B0Z{s:TypeId}{x:Value}{f:Nat}(hd:A7Z P s x f k h Q):∃v,(∀w,(Instr.fieldAt s x f).run P w=.ok v w)∧k v h Q:=by
 unfold A7Z at hd
 cases x<;>try exact hd.elim
 rename_i p
 cases p with
 |none=>exact hd.elim
 |some a=>
 simp only at hd
 cases hu:P.underlying s with
 |none=>simp only[hu] at hd;exact hd.elim
 |some d=>
 cases d with
 |struct fields=>
  simp only[hu] at hd
  cases hf:fields.toList[f]? with
  |none=>simp only[hf] at hd;exact hd.elim
  |some fd=>
   simp only[hf] at hd
   cases hb:Nat.ble 1 (P.cellsOf fd.type) with
   |false=>simp only[hb] at hd;exact hd.elim
   |true=>
    simp only[hb] at hd
    refine⟨_,fun w=>?_,hd⟩
    have nX:fields[f]? =some fd:=by simpa using hf
    have hsz:1≤P.cellsOf fd.type:=O6 hb
    cases hi:P.info? fd.type with
    |none=>simp[Program.cellsOf,hi] at hsz
    |some i=>
     rw[A2i hi] at hsz
     have bF:i.size≠0:=by omega
     simp[Instr.fieldAt,W6 hu,nX,Instr.sureAddr,fieldPlace,A0M hi,bF]
 |_=>simp only[hu] at hd;exact hd.elim
theorem B6E{t:TypeId}{x:Value}{f:Nat}(hd:B6F P t x f k h Q):∃v,(∀w,(Instr.field t x f).run P w=.ok v w)∧k v h Q:=by
 unfold B6F at hd
 cases x<;>try exact hd.elim
 rename_i cs
 simp only at hd
 cases hu:P.underlying t with
 |none=>simp only[hu] at hd;exact hd.elim
 |some d=>
 cases d with
 |struct fields=>
  simp only[hu] at hd
  cases hf:fields.toList[f]? with
  |none=>simp only[hf] at hd;exact hd.elim
  |some fd=>
   simp only[hf] at hd
   cases hp:A4v P fd.type cs.toList fd.offset with
   |none=>simp only[hp] at hd;exact hd.elim
   |some v=>
    simp only[hp] at hd
    refine⟨_,fun w=>?_,hd⟩
    have nX:fields[f]? =some fd:=by simpa using hf
    have:=A2m hp w
    simp only[Instr.field,Sem.run_bind,W6 hu,Result.andThen_ok,nX,asAgg,Sem.run_pure]
    simpa using this
 |_=>simp only[hu] at hd;exact hd.elim
theorem B0Y{t:TypeId}{x i:Value}(hd:A7Y P t x i k h Q):∃v,(∀w,(Instr.indexAt t x i).run P w=.ok v w)∧k v h Q:=by
 unfold A7Y at hd
 cases i<;>try exact hd.elim
 rename_i ki n
 simp only at hd
 cases hu:P.underlying t with
 |none=>simp only[hu] at hd;exact hd.elim
 |some d=>
 cases d with
 |slice elem=>
  simp only[hu] at hd
  cases x<;>try exact hd.elim
  rename_i a len cap
  simp only at hd
  cases hi:P.info? elem with
  |none=>simp only[hi] at hd;exact hd.elim
  |some inf=>
   simp only[hi] at hd
   obtain⟨ad,rfl,h0,h1,hq⟩:=hd
   refine⟨_,fun w=>?_,hq⟩
   simp[Instr.indexAt,asIntOf,W6 hu,h0,h1,A0M hi]
 |array len elem=>
  simp only[hu] at hd
  cases x<;>try exact hd.elim
  rename_i p
  cases p with
  |none=>exact hd.elim
  |some a=>
  simp only at hd
  cases hi:P.info? elem with
  |none=>simp only[hi] at hd;exact hd.elim
  |some inf=>
   simp only[hi] at hd
   obtain⟨ad,hh,h0,h1,hq⟩:=hd
   cases hh
   refine⟨_,fun w=>?_,hq⟩
   simp[Instr.indexAt,asIntOf,W6 hu,h0,h1,A0M hi,Instr.sureAddr]
 |_=>simp only[hu] at hd;exact hd.elim
theorem B6C{t:TypeId}{x i:Value}(hd:B6D P t x i k h Q):∃v,(∀w,(Instr.index t x i).run P w=.ok v w)∧k v h Q:=by
 unfold B6D at hd
 cases i<;>try exact hd.elim
 rename_i ki n
 simp only at hd
 cases hu:P.underlying t with
 |none=>simp only[hu] at hd;exact hd.elim
 |some d=>
 cases d with
 |string=>
  simp only[hu] at hd
  cases x<;>try exact hd.elim
  rename_i s
  simp only at hd
  obtain⟨b,h0,hb,hq⟩:=hd
  refine⟨_,fun w=>?_,hq⟩
  simp[Instr.index,asIntOf,W6 hu,h0,hb]
 |_=>simp only[hu] at hd;exact hd.elim
theorem B2n{o:Oper}{x:Operand}{ev:Operand→Value}(ho:o.op=.nilCheck x)(hd:B4e (ev x) k h Q):∃v,Stat P (execOp ev o) v∧k v h Q:=by
 cases hp:ev x with
 |pointer p=>
  rw[hp] at hd
  obtain⟨a,rfl,hq⟩:=hd
  exact⟨_,fun w=>by simp[execOp,ho,hp],hq⟩
 |func fn first captured=>
  rw[hp] at hd
  cases fn with
  |func f=>exact⟨_,fun w=>by simp[execOp,ho,hp],hd⟩
  |_=>exact hd.elim
 |_=>rw[hp] at hd;exact hd.elim
end
end
section
section
variable {P:Program} {ρ:Type} {k:Value→HM ρ} {h:Heap} {Q:ρ→Heap→Prop}
def A4A(v:Option Value)(r:Option Int):Prop:=
 match r with
 |none=>v=none
 |some n=>∃kd,v=some (.int kd n)
theorem A7v{n:Nat}{e:Env}{a:Act}(hA:A0w n e a){x:Option Operand}{r:Option Int}(hx:A7w e x=some r):A4A (x.map a.eval) r:=by
 cases x with
 |none=>simp only[A7w,F6] at hx;subst hx;rfl
 |some x=>
  simp only[A7w] at hx
  split at hx
  ·rename_i kd m hv
   cases hx
   exact⟨kd,by simp[hA.ev hv]⟩
  ·cases hx
theorem run_sliceBound(kd:IntKind)(n:Int)(y:Nat)(code:BoundsCode)(m:Nat)(hm:n=(m:Int))(hle:m≤y)(w:World):
  (Instr.sliceBound (.int kd n) y code).run P w=.ok m w:=by
 subst hm
 have h1:(0:Int)≤(m:Int)∧(m:Int)≤(y:Int):=by omega
 simp[Instr.sliceBound,asIntOf,h1]
theorem A8f{b:Bool}{len cap:Nat}{lo hi mx:Option Value}{rl rh rm:Option Int}(hl:A4A lo rl)(hh:A4A hi rh)(hm:A4A mx rm){l u m:Nat}
  (h1:A4d rm (m=cap) m cap)(h2:A4d rh (rm=none∧u=len) u m)(h3:A4d rl (l=0) l u)(w:World):(Instr.sliceBounds b len cap lo hi mx).run P w=.ok (l,u,m) w:=by
 unfold Instr.sliceBounds
 cases rm with
 |none=>
  simp only[A4A] at hm;subst hm
  simp only[A4d] at h1;subst h1
  cases rh with
  |none=>
   simp only[A4A] at hh;subst hh
   obtain⟨-,rfl⟩:=h2
   cases rl with
   |none=>simp only[A4A] at hl;subst hl;simp only[A4d] at h3;subst h3;rfl
   |some x=>obtain⟨kd,rfl⟩:=hl;simp[run_sliceBound _ _ _ _ _ h3.1 h3.2]
  |some y=>
   obtain⟨kd,rfl⟩:=hh
   cases rl with
   |none=>simp only[A4A] at hl;subst hl;simp only[A4d] at h3;subst h3;simp[run_sliceBound _ _ _ _ _ h2.1 h2.2]
   |some x=>obtain⟨kd,rfl⟩:=hl;simp[run_sliceBound _ _ _ _ _ h2.1 h2.2,run_sliceBound _ _ _ _ _ h3.1 h3.2]
 |some z=>
  obtain⟨kz,rfl⟩:=hm
  cases rh with
  |none=>exact absurd h2.1 (by simp)
  |some y=>
   obtain⟨kd,rfl⟩:=hh
   cases rl with
   |none=>simp only[A4A] at hl;subst hl;simp only[A4d] at h3;subst h3;simp[run_sliceBound _ _ _ _ _ h1.1 h1.2,run_sliceBound _ _ _ _ _ h2.1 h2.2]
   |some x=>obtain⟨kd,rfl⟩:=hl;simp[run_sliceBound _ _ _ _ _ h1.1 h1.2,run_sliceBound _ _ _ _ _ h2.1 h2.2,run_sliceBound _ _ _ _ _ h3.1 h3.2]
theorem B6x{t:TypeId}{x:Value}{lo hi mx:Option Value}{rl rh rm:Option Int}(hl:A4A lo rl)(hh:A4A hi rh)(hm:A4A mx rm)
  (hd:B6y P t x rl rh rm k h Q):∃v,(∀w,(Instr.sliceAt t x lo hi mx).run P w=.ok v w)∧k v h Q:=by
 unfold B6y at hd
 cases hu:P.underlying t with
 |none=>simp only[hu] at hd;exact hd.elim
 |some d=>
 cases d with
 |string=>
  simp only[hu] at hd
  cases x<;>try exact hd.elim
  rename_i s
  cases rm with
  |some _=>exact hd.elim
  |none=>
   obtain⟨l,u,h1,h2,hq⟩:=hd
   refine⟨_,fun w=>?_,hq⟩
   have kW:mx=none:=hm
   subst kW
   have wm:A4d rh ((none:Option Int)=none∧u=s.size) u s.size:=by
    cases rh with
    |none=>exact⟨rfl,h1⟩
    |some y=>exact h1
   have hb:=A8f (P:=P) (b:=false) (len:=s.size) (cap:=s.size) (m:=s.size) hl hh (mx:=none) (rm:=none) rfl rfl wm h2 w
   simp only[Instr.sliceAt,Sem.run_bind,W6 hu,Result.andThen_ok,Instr.slice,Option.isSome_none,H9,if_false,hb]
   rfl
 |slice elem=>
  simp only[hu] at hd
  cases x<;>try exact hd.elim
  rename_i a n c
  simp only at hd
  cases kf:P.info? elem with
  |none=>simp only[kf] at hd;exact hd.elim
  |some inf=>
   simp only[kf] at hd
   obtain⟨l,u,m,h1,h2,h3,hq⟩:=hd
   refine⟨_,fun w=>?_,hq⟩
   have hb:=A8f (P:=P) (b:=true) (len:=n) (cap:=c) hl hh hm h1 h2 h3 w
   simp only[Instr.sliceAt,Sem.run_bind,W6 hu,Result.andThen_ok,Instr.slice,hb,A0M kf]
   rfl
 |_=>simp only[hu] at hd;exact hd.elim
def Kind.width:Kind→Nat
 |.one _=>1
 |.agg ts=>ts.length
theorem A8R(cs:D0u)(off:Nat):A3p cs off []=cs:=by cases cs<;>rfl
theorem B1K(v:Value)(vs:D0u):∀(cs:D0u) (off:Nat),off<cs.length→A3p cs off (v::vs)=A3p (cs.set off v) (off+1) vs
 |[],off,h=>by simp at h
 |c::cs,0,_=>by
  cases vs with
  |nil=>simp[A3p,A8R]
  |cons u us=>simp[A3p]
 |c::cs,off+1,h=>by
  have ih:=B1K v vs cs off (by simpa using h)
  cases vs with
  |nil=>simp only[A3p,List.set_cons_succ,A8R] at ih⊢;rw[ih]
  |cons u us=>simp only[A3p,List.set_cons_succ] at ih⊢;rw[ih]
theorem B2b(off:Nat):∀(vs:D0u) (i:Nat) (cs:D0u),off+i+vs.length≤cs.length→
  (vs.zipIdx i).foldl (fun cs (x:Value×Nat)=>cs.setIfInBounds (off+x.2) x.1) cs.toArray=(A3p cs (off+i) vs).toArray
 |[],i,cs,_=>by simp[A8R]
 |v::vs,i,cs,hle=>by
  simp only[B7] at hle
  rw[B1K v vs cs (off+i) (by omega)]
  have:=B2b off vs (i+1) (cs.set (off+i) v) (by simp;omega)
  simp only[List.zipIdx_cons,H3]
  rw[show off+i+1=off+(i+1) from by omega,←this]
  congr 1
  simp
theorem C1g{kd:Kind}{v:Value}{cs:D0u}(h1:A2H kd v=some cs):cs.length=kd.width:=by
 cases kd with
 |one t=>simp only[A2H,F6] at h1;subst h1;rfl
 |agg ts=>
  simp only[A2H] at h1
  cases v<;>simp only at h1<;>try cases h1
  split at h1
  ·rename_i hb;cases h1;exact E3 hb
  ·cases h1
theorem A3m{place:Nat→Option (Nat×Kind)}{m:HM ρ}:∀(ps:List (Nat×Value)),A6P place ps m h Q→
  (∀i v off kd,(i,v)∈ps→place i=some (off,kd)→∀t,kd=.one t→v.oneCell'=true)∧m h Q
 |[],hd=>by
  refine⟨fun _ _ _ _ hm=>?_,hd⟩
  exact absurd hm (R1)
 |(i,v)::rest,hd=>by
  simp only[A6P] at hd
  cases hp:place i with
  |none=>simp only[hp] at hd;exact hd.elim
  |some x=>
   obtain⟨off,kd⟩:=x
   simp only[hp] at hd
   obtain⟨h1,h2⟩:=B1i hd
   obtain⟨h3,h4⟩:=A3m rest h2
   refine⟨fun j u off' kd' hm dp=>?_,h4⟩
   cases hm with
   |head=>rw[hp] at dp;cases dp;exact h1
   |tail _ hm=>exact h3 j u off' kd' hm dp
theorem A7T{place':Nat→Option (Nat×Nat)}{place:Nat→Option (Nat×Kind)}(fu:∀i off kd,place i=some (off,kd)→place' i=some (off,kd.width)):
  ∀(ps:List (Nat×Value)) (cs out:D0u),A6l place cs ps=some out→
   (∀i v off kd,(i,v)∈ps→place i=some (off,kd)→∀t,kd=.one t→v.oneCell'=true)→Instr.fill place' cs.toArray ps=some out.toArray
 |[],cs,out,hf,_=>by simp only[A6l,F6] at hf;subst hf;rfl
 |(i,v)::rest,cs,out,hf,eh=>by
  simp only[A6l] at hf
  split at hf
  ·rename_i off kd hp
   split at hf
   ·rename_i vs dm
    split at hf
    ·rename_i hb
     have hle:off+vs.length≤cs.length:=O6 hb
     have oa:=A37 dm (eh i v off kd (B4 ..) hp)
     have hlen:=C1g dm
     have ih:=A7T fu rest _ out hf (fun j u off' kd' hm=>eh j u off' kd' (C3 _ hm))
     simp only[Instr.fill,fu i off kd hp,oa]
     have fy:¬((vs.toArray.size≠kd.width||off+vs.toArray.size>cs.toArray.size)=true):=by
      simp[hlen];omega
     rw[if_neg fy]
     rw[←ih]
     congr 1
     have:=B2b off vs 0 cs (by omega)
     rw[O4] at this
     rw[←this]
     simp[←Array.foldl_toList]
    ·cases hf
   ·cases hf
  ·cases hf
theorem C0a{α β:Type}{f:α→Sem β}{g:α→β}{w:World}:∀(xs:List α),(∀x∈xs,(f x).run P w=.ok (g x) w)→(xs.mapM f).run P w=.ok (xs.map g) w
 |[],_=>rfl
 |x::xs,hf=>by
  rw[List.mapM_cons]
  simp only[Sem.run_bind,hf x (B4 ..),Result.andThen_ok,C0a xs (fun y hy=>hf y (C3 _ hy)),Sem.run_pure,B6]
theorem B0k:∀(fs:List Field),B2u P fs=true→∀f∈fs,∃i,P.info? f.type=some i
 |[],_,_,hf=>by cases hf
 |g::fs,hi,f,hf=>by
  simp only[B2u] at hi
  split at hi
  ·rename_i i aY
   cases hf with
   |head=>exact⟨i,aY⟩
   |tail _ hf=>exact B0k fs hi f hf
  ·cases hi
theorem B2e{fields:Array Field}{i off:Nat}{kd:Kind}(hp:A4l P fields i=some (off,kd)):∃f,fields.toList[i]? =some f∧f.offset=off∧P.cellsOf f.type=kd.width:=by
 unfold A4l at hp
 split at hp
 ·rename_i f hf
  refine⟨f,hf,?_⟩
  split at hp
  ·split at hp
   ·split at hp
    ·rename_i hb;cases hp;exact⟨rfl,E3 hb⟩
    ·cases hp
   ·split at hp
    ·rename_i hb;cases hp;exact⟨rfl,E3 hb⟩
    ·cases hp
  ·cases hp
 ·cases hp
theorem A67{elem:TypeId}{i off:Nat}{kd:Kind}(hp:A2h P elem i=some (off,kd)):off=i*P.cellsOf elem∧P.cellsOf elem=kd.width:=by
 unfold A2h at hp
 split at hp
 ·split at hp
  ·split at hp
   ·rename_i hb;cases hp;have:=E3 hb;rw[this];exact⟨by omega,rfl⟩
   ·cases hp
  ·split at hp
   ·rename_i hb;cases hp;have:=E3 hb;rw[this];exact⟨rfl,rfl⟩
   ·cases hp
 ·cases hp
theorem B6M{t:TypeId}{ps:Array (Nat×Value)}(hd:B6N P t ps.toList k h Q):∃v,(∀w,(Instr.build t ps).run P w=.ok v w)∧k v h Q:=by
 unfold B6N at hd
 cases hu:P.underlying t with
 |none=>simp only[hu] at hd;exact hd.elim
 |some d=>
 cases d with
 |struct fields=>
  simp only[hu] at hd
  cases ha:B2u P fields.toList with
  |false=>simp only[ha] at hd;exact hd.elim
  |true=>
  simp only[ha] at hd
  cases hi:P.info? t with
  |none=>simp only[hi] at hd;exact hd.elim
  |some i=>
  simp only[hi] at hd
  cases hz:i.zero with
  |none=>simp only[hz] at hd;exact hd.elim
  |some z=>
  simp only[hz] at hd
  cases hf:A6l (A4l P fields) z.cells.toList ps.toList with
  |none=>simp only[hf] at hd;exact hd.elim
  |some cs=>
   simp only[hf] at hd
   obtain⟨eh,hq⟩:=A3m _ hd
   refine⟨_,fun w=>?_,hq⟩
   have fu:∀w,(fields.mapM fun f=>do pure (f.offset,←sizeOf f.type):Sem _).run P w=.ok (fields.map fun f=>(f.offset,P.cellsOf f.type)) w:=by
    intro w
    rw[Array.mapM_eq_mapM_toList]
    simp only[Sem.run_map]
    rw[C0a (g:=fun f=>(f.offset,P.cellsOf f.type)) fields.toList (fun f hf=>by
     obtain⟨i,hi⟩:=B0k _ ha f hf
     simp[A0M hi,A2i hi])]
    simp only[Result.andThen_ok]
    congr 1
    apply I5.1
    simp
   have dD:=A7T (place':=fun i=>(fields.map fun f=>(f.offset,P.cellsOf f.type))[i]?) (fun i off kd hp=>by
    obtain⟨f,hf,h1,h2⟩:=B2e hp
    have nX:fields[i]? =some f:=by simpa using hf
    simp[nX,h1,h2]) ps.toList _ _ hf eh
   simp only[Instr.build,Sem.run_bind,A2B hi hz,Result.andThen_ok,W6 hu,fu]
   simp only[Q6] at dD
   rw[dD]
   rfl
 |array len elem=>
  simp only[hu] at hd
  cases hi:P.info? t with
  |none=>simp only[hi] at hd;exact hd.elim
  |some i=>
  simp only[hi] at hd
  cases hz:i.zero with
  |none=>simp only[hz] at hd;exact hd.elim
  |some z=>
  simp only[hz] at hd
  cases he:P.info? elem with
  |none=>simp only[he] at hd;exact hd.elim
  |some ie=>
  simp only[he] at hd
  cases hf:A6l (A2h P elem) z.cells.toList ps.toList with
  |none=>simp only[hf] at hd;exact hd.elim
  |some cs=>
   simp only[hf] at hd
   obtain⟨eh,hq⟩:=A3m _ hd
   refine⟨_,fun w=>?_,hq⟩
   have dD:=A7T (place':=fun i=>some (i*ie.size,ie.size)) (fun i off kd hp=>by
    obtain⟨h1,h2⟩:=A67 hp
    rw[A2i he] at h1 h2
    simp[h1,h2]) ps.toList _ _ hf eh
   simp only[Instr.build,Sem.run_bind,A2B hi hz,Result.andThen_ok,W6 hu,A0M he]
   simp only[Q6] at dD
   rw[dD]
   rfl
 |_=>simp only[hu] at hd;exact hd.elim
theorem C7n(z:D0u)(n:Nat):C1X z n=(List.range (n*z.length)).map (fun i=>z[i % z.length]!):=by
 induction n with
 |zero=>simp[C1X]
 |succ n ih=>
  have hz:(List.range z.length).map (fun i=>z[i % z.length]!)=z:=by
   apply List.ext_getElem
   ·simp
   ·intro i h1 h2
    simp only[List.getElem_map,List.getElem_range]
    rw[Nat.mod_eq_of_lt h2,getElem!_pos z i h2]
  rw[C1X,ih,J2,Nat.add_comm,List.range_add,C0,hz]
  congr 1
  simp[F1,Q8]
theorem A9Y{t:TypeId}{n:Nat}{ps:Array (Nat×Value)}(hd:A6o P t n ps.toList k h Q):
  ∀w,w.heap=h→∃v w',(Instr.buildSlice t n ps).run P w=.ok v w'∧A0d w w'∧k v w'.heap Q:=by
 unfold A6o at hd
 cases hu:P.underlying t with
 |none=>simp only[hu] at hd;exact hd.elim
 |some d=>
 cases d with
 |slice elem=>
  simp only[hu] at hd
  cases hi:P.info? elem with
  |none=>simp only[hi] at hd;exact hd.elim
  |some i=>
  simp only[hi] at hd
  cases hz:i.zero with
  |none=>simp only[hz] at hd;exact hd.elim
  |some z=>
  simp only[hz] at hd
  cases hb:Nat.beq z.cells.toList.length i.size with
  |false=>simp only[hb] at hd;exact hd.elim
  |true=>
  simp only[hb] at hd
  cases dx:Nat.ble (n*i.size) 16777216 with
  |false=>simp only[dx] at hd;exact hd.elim
  |true=>
  simp only[dx] at hd
  cases oj:Nat.ble 1 i.size with
  |false=>simp only[oj] at hd;exact hd.elim
  |true=>
  simp only[oj] at hd
  cases hf:A6l (A2h P elem) (C1X z.cells.toList n) ps.toList with
  |none=>simp only[hf] at hd;exact hd.elim
  |some cs=>
   simp only[hf] at hd
   obtain⟨eh,hq⟩:=A3m _ hd
   intro w hw
   subst hw
   refine⟨_,w.alloc (.cells cs.toArray elem),?_,⟨rfl,rfl,rfl⟩,hq⟩
   have h1:=E3 hb
   have h2:=O6 dx
   have h3:=O6 oj
   have dD:=A7T (place':=fun j=>some (j*i.size,i.size)) (fun j off kd hp=>by
    obtain⟨g1,g2⟩:=A67 hp
    rw[A2i hi] at g1 g2
    simp[g1,g2]) ps.toList _ _ hf eh
   have hsz:z.cells.size=i.size:=by simpa using h1
   have tu:(C1X z.cells.toList n).toArray=(Array.range (n*i.size)).map (fun j=>z.cells[j % z.cells.size]!):=by
    apply I5.1
    rw[C7n]
    simp[hsz,Array.toList_range]
    intro a _
    rw[getElem!_def]
    cases z.cells[a % i.size]? <;>rfl
   rw[tu] at dD
   have hle:¬(n*i.size>2 ^ 24):=by omega
   by_cases h0:n*i.size=0
   ·have ig:(Array.range (n*i.size)).map (fun j=>z.cells[j % z.cells.size]!)=#[]:=by rw[h0];simp
    rw[ig] at dD
    simp only[Instr.buildSlice,Sem.run_bind,W6 hu,Result.andThen_ok,A0M hi,if_neg hle,Sem.run_pure,Sem.run_ite,if_pos h0]
    simp only[h0]
    rw[show(Array.range 0).map (fun x=>(#[]:D0t)[x % (#[]:D0t).size]!)=#[] from by simp,dD]
    simp[newRow]
   ·simp only[Instr.buildSlice,Sem.run_bind,W6 hu,Result.andThen_ok,A0M hi,if_neg hle,Sem.run_pure,Sem.run_ite,if_neg h0,A2B hi hz]
    rw[dD]
    simp[newRow]
 |_=>simp only[hu] at hd;exact hd.elim
end
end
section
section
variable {P:Program} {ρ:Type} {k:Value→HM ρ} {h:Heap} {Q:ρ→Heap→Prop}
theorem A48{a:D0s}{m n c size:Nat}{vs:D0t}{w:World}(hr:A6g w.heap a (n*size) vs):
  (Builtin.firstCells size n (.slice a m c)).run P w=.ok vs w:=by
 cases a with
 |none=>simp only[A6g] at hr;subst hr;rfl
 |some x=>
  obtain⟨h1,h2⟩:=hr
  have:=run_loadCells (P:=P) (a:=x) (w:=w) (vs:=vs.toList) (n:=n*size) (by simp[h1]) (fun j v hj=>h2 j v (by simpa using hj))
  simpa[Builtin.firstCells] using this
theorem B0y{s:B38}{size:Nat}{w:World}:(Builtin.firstCells size s.size (.string s)).run P w=.ok (s.data.map fun b=>.int .u8 b.toNat) w:=by
 simp[Builtin.firstCells,ByteArray.extract_zero_size]
theorem B64{t u elem:TypeId}{ty:TypeId}{i:TypeInfo}{z x:Value}{s:Slc}{n:Nat}{src:Heap→D0t→Prop}{du:TypeDesc}
  (ht:P.underlying t=some (.slice elem))(hu:P.underlying u=some du)(xT:∀kd,du≠ .int kd)(hi:P.info? elem=some i)(hz:i.zero=some z)
  (hlen:∀w,(Builtin.lenOf x).run P w=.ok n w)
  (gi:∀(w:World) (vs:D0t),src w.heap vs→(Builtin.firstCells i.size n x).run P w=.ok vs w)
  {R:Slc→Heap→Prop}(hd:HM.append elem i.size i.bytes z.cells s n src h R):
  ∀w,w.heap=h→∃r w',(Builtin.append_ #[t,u] ty #[.slice s.a s.len s.cap,x]).run P w=.ok (.slice r.a r.len r.cap) w'∧A0d w w'∧R r w'.heap:=by
 intro w hw
 subst hw
 obtain⟨h1,h2⟩:=hd
 have sT:(match du with|.int _=>true|_=>false)=false:=by cases du<;>first|rfl|exact absurd rfl (xT _)
 by_cases hle:s.len+n≤s.cap
 ·obtain⟨vs,dm,hm⟩:=h1 hle
  cases ha:s.a with
  |none=>
   simp only[ha] at hm
   refine⟨_,w,?_,A0d.refl w,hm⟩
   simp[Builtin.append_,W6 ht,W6 hu,sT,A0M hi,hlen,hle,gi w vs dm]
  |some a=>
   simp only[ha] at hm
   obtain⟨h3,hq⟩:=hm
   obtain⟨w',hr,hs,hh⟩:=A2b (P:=P) (a.add (s.len*i.size)) vs.toList 0 w (fun j v hj=>by rw[L7];exact h3 j v (by simpa using hj))
   refine⟨⟨some a,s.len+n,s.cap⟩,w',?_,hs,by rw[hh];exact hq⟩
   simp[Builtin.append_,W6 ht,W6 hu,sT,A0M hi,hlen,hle,gi w vs dm,hr]
 ·obtain⟨iS,od,old,vs,hold,dm,hq⟩:=h2 (by omega)
  have fy:¬(((s.len+n:Nat):Int)>IntKind.i64.max∧(false=true∨i.bytes=0)):=by rw[IntKind.max_i64];omega
  have eH:¬(Builtin.nextslicecap (s.len+n) s.cap*i.bytes>2 ^ 48):=by omega
  have qM:s.len+n≤Question.cut (.appendCap (s.len+n) s.cap elem) (w.tape w.drawn (.appendCap (s.len+n) s.cap elem)):=by simp[Question.cut]
  have tP:Question.cut (.appendCap (s.len+n) s.cap elem) (w.tape w.drawn (.appendCap (s.len+n) s.cap elem))≤9223372036854775807:=by
   simp only[Question.cut]
   have:=Nat.mod_lt (w.tape w.drawn (.appendCap (s.len+n) s.cap elem)) (show 2 ^ 63-(s.len+n)>0 by omega)
   omega
  refine⟨_,(w.drew).alloc (.cells (old++vs++Builtin.zeroCells z.cells (Question.cut (.appendCap (s.len+n) s.cap elem) (w.tape w.drawn (.appendCap (s.len+n) s.cap elem))-(s.len+n))) elem),?_,⟨rfl,rfl,rfl⟩,hq _ qM tP⟩
  have qu:(Builtin.firstCells i.size s.len (.slice s.a s.len s.cap)).run P w.drew=.ok old w.drew:=A48 (w:=w.drew) hold
  have nF:(Builtin.firstCells i.size n x).run P w.drew=.ok vs w.drew:=gi w.drew vs dm
  have uv:¬(((s.len:Int)+(n:Int))>9223372036854775807∧i.bytes=0):=by omega
  simp[Builtin.append_,W6 ht,W6 hu,sT,A0M hi,hlen,hle,A8L hi,uv,eH,Question.forced,qu,nF,A2B hi hz,newRow]
theorem B4N{ts:Array TypeId}{ty:TypeId}{vs:D0t}(hd:B3s P ts.toList vs.toList k h Q):
  ∀w,w.heap=h→∃r w',(Builtin.append_ ts ty vs).run P w=.ok r w'∧A0d w w'∧k r w'.heap Q:=by
 obtain⟨ts⟩:=ts
 obtain⟨vs⟩:=vs
 simp only at hd
 unfold B3s at hd
 match ts,vs,hd with
 |[t,u],[s,x],hd=>
  simp only at hd
  cases ht:P.underlying t with
  |none=>simp only[ht] at hd;exact hd.elim
  |some d=>
  cases d with
  |slice elem=>
   simp only[ht] at hd
   cases s<;>try exact hd.elim
   rename_i a n c
   simp only at hd
   cases hi:P.info? elem with
   |none=>simp only[hi] at hd;exact hd.elim
   |some i=>
   simp only[hi] at hd
   cases hz:i.zero with
   |none=>simp only[hz] at hd;exact hd.elim
   |some z=>
   simp only[hz] at hd
   cases hu:P.underlying u with
   |none=>simp only[hu] at hd;exact hd.elim
   |some du=>
   cases du with
   |slice e2=>
    simp only[hu] at hd
    cases x<;>try exact hd.elim
    rename_i b m dd
    simp only at hd
    intro w hw
    obtain⟨r,w',hr,hs,hq⟩:=B64 (ty:=ty) (x:=.slice b m dd) (s:=⟨a,n,c⟩) ht hu (by simp) hi hz (fun w=>rfl) (fun w vs dm=>A48 dm) hd w hw
    exact⟨_,w',hr,hs,hq⟩
   |string=>
    simp only[hu] at hd
    cases x<;>try exact hd.elim
    rename_i b
    simp only at hd
    intro w hw
    obtain⟨r,w',hr,hs,hq⟩:=B64 (ty:=ty) (x:=.string b) (s:=⟨a,n,c⟩) ht hu (by simp) hi hz (fun w=>rfl) (fun w vs dm=>by simp only[C5t] at dm;subst dm;exact B0y) hd w hw
    exact⟨_,w',hr,hs,hq⟩
   |_=>simp only[hu] at hd;exact hd.elim
  |_=>simp only[ht] at hd;exact hd.elim
 |[],_,hd=>exact hd.elim
 |[_],_,hd=>exact hd.elim
 |[_,_],[],hd=>exact hd.elim
 |[_,_],[_],hd=>exact hd.elim
 |[_,_],_::_::_::_,hd=>exact hd.elim
 |_::_::_::_,_,hd=>exact hd.elim
theorem B9F{ts:Array TypeId}{ty:TypeId}{vs:D0t}(hd:C2K P ts.toList vs.toList k h Q):
  ∃v,(∀w,w.heap=h→(Builtin.len_ ts ty vs).run P w=.ok v w)∧k v h Q:=by
 obtain⟨ts⟩:=ts
 obtain⟨vs⟩:=vs
 simp only at hd
 unfold C2K at hd
 match ts,vs,hd with
 |[t],[x],hd=>
  simp only at hd
  cases ht:P.underlying t with
  |none=>simp only[ht] at hd;exact hd.elim
  |some d=>
  cases d with
  |string=>
   simp only[ht] at hd
   cases x<;>try exact hd.elim
   exact⟨_,fun w _=>by simp[Builtin.len_,W6 ht,goInt],hd⟩
  |slice e=>
   simp only[ht] at hd
   cases x<;>try exact hd.elim
   exact⟨_,fun w _=>by simp[Builtin.len_,W6 ht,goInt],hd⟩
  |array n e=>
   simp only[ht] at hd
   exact⟨_,fun w _=>by simp[Builtin.len_,W6 ht,goInt],hd⟩
  |map a b=>
   simp only[ht] at hd
   cases x<;>try exact hd.elim
   rename_i r
   obtain⟨es,clock,he,hq⟩:=hd
   refine⟨_,fun w hw=>?_,hq⟩
   subst hw
   cases r with
   |none=>obtain⟨rfl,-⟩:=he;simp[Builtin.len_,W6 ht,goInt]
   |some r=>
    have hg:(getObj r).run P w=.ok (.map es.toArray clock) w:=by
     have jl:w.heap[r]? =some (.map es.toArray clock):=he
     simp[getObj,Sem.run,jl]
    simp[Builtin.len_,W6 ht,goInt,hg]
  |_=>simp only[ht] at hd;exact hd.elim
 |[],_,hd=>exact hd.elim
 |[_],[],hd=>exact hd.elim
 |[_],_::_::_,hd=>exact hd.elim
 |_::_::_,_,hd=>exact hd.elim
theorem A8n{mx:Bool}{ts:Array TypeId}{ty:TypeId}{vs:D0t}(hd:A9A mx vs.toList k h Q):
  ∃v,(∀w,(if mx=true then Builtin.max_ ts ty vs else Builtin.min_ ts ty vs).run P w=.ok v w)∧k v h Q:=by
 obtain⟨vs⟩:=vs
 simp only at hd
 unfold A9A at hd
 split at hd
 ·rename_i ka a kb b
  cases hk:B0R ka kb with
  |false=>simp only[hk] at hd;exact hd.elim
  |true=>
   simp only[hk] at hd
   obtain rfl:=A7L hk
   cases mx with
   |true=>exact⟨_,fun w=>by simp[Builtin.max_,Builtin.max2],hd⟩
   |false=>exact⟨_,fun w=>by simp[Builtin.min_,Builtin.min2],hd⟩
 ·rename_i ka a kb b kc c
  cases hk:B0R ka kb&&B0R ka kc with
  |false=>simp only[hk] at hd;exact hd.elim
  |true=>
   simp only[hk] at hd
   rw[E9] at hk
   obtain rfl:=A7L hk.1
   obtain rfl:=A7L hk.2
   cases mx with
   |true=>exact⟨_,fun w=>by simp[Builtin.max_,Builtin.max2],hd⟩
   |false=>exact⟨_,fun w=>by simp[Builtin.min_,Builtin.min2],hd⟩
 ·exact hd.elim
theorem B0X{t:TypeId}{n c:Value}(hd:A7X P t n c k h Q):
  ∀w,w.heap=h→∃r w',(Instr.makeSlice t n c).run P w=.ok r w'∧A0d w w'∧k r w'.heap Q:=by
 unfold A7X at hd
 cases ht:P.underlying t with
 |none=>simp only[ht] at hd;exact hd.elim
 |some d=>
 cases d with
 |slice elem=>
  simp only[ht] at hd
  cases hi:P.info? elem with
  |none=>simp only[hi] at hd;exact hd.elim
  |some i=>
  simp only[hi] at hd
  cases hz:i.zero with
  |none=>simp only[hz] at hd;exact hd.elim
  |some z=>
  simp only[hz] at hd
  cases hb:Nat.beq z.cells.toList.length i.size with
  |false=>simp only[hb] at hd;exact hd.elim
  |true=>
  simp only[hb] at hd
  cases n<;>try exact hd.elim
  cases c<;>try exact hd.elim
  rename_i kn n kc c
  obtain⟨h0,h1,h2,h3,hq⟩:=hd
  intro w hw
  subst hw
  have hsz:z.cells.size=i.size:=by simpa using E3 hb
  refine⟨_,w.alloc (.cells (Builtin.zeroCells z.cells c.toNat) elem),?_,⟨rfl,rfl,rfl⟩,hq⟩
  have uW:IntKind.i64.wrap n=n:=by simp[IntKind.wrap,IntKind.bits,IntKind.signed];omega
  have uY:IntKind.i64.wrap c=c:=by simp[IntKind.wrap,IntKind.bits,IntKind.signed];omega
  have fy:¬(c<0):=by omega
  have eH:¬(281474976710656<(i.bytes:Int)*c):=by omega
  have vw:¬(n<0):=by omega
  have im:¬(c<n):=by omega
  by_cases sV:c.toNat*i.size=0
  ·have:Builtin.zeroCells z.cells c.toNat=#[]:=by simp[Builtin.zeroCells,hsz,sV]
   simp[Instr.makeSlice,W6 ht,asInt,asIntOf,A8L hi,uW,uY,fy,eH,vw,im,A0M hi,sV,newRow,this,Array.range_zero']
  ·simp only[Builtin.zeroCells,hsz]
   simp[Instr.makeSlice,W6 ht,asInt,asIntOf,A8L hi,uW,uY,fy,eH,vw,im,A0M hi,sV,newRow,A2B hi hz,hsz]
 |_=>simp only[ht] at hd;exact hd.elim
def C60(P:Program)(kt:TypeId)(kd:TypeDesc)(key:Value):Prop:=plainKey kd=true∨(∃fs,kd=.struct fs)∧B6k P 8 kt key key=some true
theorem A4M{kt:TypeId}{kd:TypeDesc}{key:Value}{m:HM ρ}(hd:B3b P kt kd key m h Q):C60 P kt kd key∧m h Q:=by
 unfold B3b at hd
 cases hp:plainKey kd with
 |true=>simp only[hp] at hd;exact⟨.inl hp,hd⟩
 |false=>
  simp only[hp] at hd
  cases kd<;>try exact hd.elim
  exact⟨.inr ⟨⟨_,rfl⟩,hd.1⟩,hd.2⟩
theorem B7o{kt:TypeId}{kd:TypeDesc}(hk:P.underlying kt=some kd)(hp:plainKey kd=true)(e:Bool)(n:Nat)(v:Value)(w:World):
  (Instr.checkKey e (n+1) kt v).run P w=.ok () w:=by
 simp only[Instr.checkKey,Sem.run_bind,W6 hk,Result.andThen_ok]
 cases kd<;>first|(cases v<;>rfl)|cases hp
theorem run_checkKey{kt:TypeId}{kd:TypeDesc}{v:Value}(hk:P.underlying kt=some kd)(hp:C60 P kt kd v)(e:Bool)(w:World):
  (Instr.checkKey e 10000 kt v).run P w=.ok () w:=by
 rcases hp with hp|⟨-,hp⟩
 ·exact B7o hk hp e 9999 v w
 ·exact(A2g 8 hp 9992 w).2.2 e
theorem A8M{kt:TypeId}{key:Value}{w:World}:∀(es:List MapEntry) (i:Nat) (o:Option (Nat×Value)),A1b (B6k P 8 kt) key es i=some o→(Instr.findAsking kt key es i).run P w=.ok o w
 |[],i,o,hf=>by
  simp only[A1b,F6] at hf
  subst hf
  rfl
 |e::es,i,o,hf=>by
  simp only[A1b] at hf
  cases hs:B6k P 8 kt key e.key with
  |none=>simp only[hs] at hf;cases hf
  |some r=>
   have h1:(Op.equal kt key e.key).run P w=.ok r w:=(A2g 8 hs 9992 w).1
   simp only[Instr.findAsking,Sem.run_bind,h1,Result.andThen_ok]
   simp only[hs] at hf
   cases r with
   |true=>
    simp only[F6] at hf
    subst hf
    rfl
   |false=>
    simp only at hf
    simpa using A8M es (i+1) o hf
theorem run_findKey{kt:TypeId}{kd:TypeDesc}(hk:P.underlying kt=some kd){key:Value}(hp:C60 P kt kd key){es:List MapEntry}{o:Option (Nat×Value)}(hf:placeOf (A5X P kt kd) key es=some o)(w:World):
  (Instr.findKey kt key es).run P w=.ok o w:=by
 rcases hp with hp|⟨⟨fs,rfl⟩,-⟩
 ·have e:A5X P kt kd=Instr.sameNow kd:=by cases kd<;>first|rfl|cases hp
  rw[e] at hf
  simp only[placeOf,B3Y] at hf
  simp[Instr.findKey,W6 hk,hf]
 ·simp only[placeOf,A5X] at hf
  simp only[Instr.findKey,Sem.run_bind,W6 hk,Result.andThen_ok]
  cases es with
  |nil=>
   simp only[A1b,F6] at hf
   subst hf
   rfl
  |cons e es=>
   have:Instr.findNow (.struct fs) key (e::es) 0=none:=by simp[Instr.findNow,Instr.sameNow]
   rw[this]
   exact A8M (e::es) 0 o hf
theorem l8{w:World}{r:Nat}{o:Obj}(ho:w.heap[r]? =some o)(hc:∀a b c,o≠ .cells a b c):(getObj r).run P w=.ok o w:=by
 cases o<;>first|exact absurd rfl (hc _ _ _)|simp only[getObj,Sem.run,ho]
theorem A1s{w:World}{r:Nat}{o o':Obj}(ho:w.heap[r]? =some o)(hc:∀a b c,o≠ .cells a b c):(setObj r o').run P w=.ok () {w with heap:=w.heap.setIfInBounds r o'}:=by
 cases o<;>first|exact absurd rfl (hc _ _ _)|simp only[setObj,Sem.run,ho]
theorem B4L{t:TypeId}{x key:Value}{ok:Bool}(hd:B3p P t x key ok k h Q):
  ∃v,(∀w,w.heap=h→(Instr.lookup t x key ok).run P w=.ok v w)∧k v h Q:=by
 unfold B3p at hd
 cases ht:P.underlying t with
 |none=>simp only[ht] at hd;exact hd.elim
 |some d=>
 cases d with
 |map kt et=>
  simp only[ht] at hd
  cases dL:P.underlying kt with
  |none=>simp only[dL] at hd;exact hd.elim
  |some kd=>
  simp only[dL] at hd
  have jm:=A4M hd
  clear hd
  obtain⟨hp,hd⟩:=jm
  cases x<;>try exact hd.elim
  rename_i r
  simp only at hd
  cases hi:P.info? et with
  |none=>simp only[hi] at hd;exact hd.elim
  |some i=>
  simp only[hi] at hd
  cases hz:i.zero with
  |none=>simp only[hz] at hd;exact hd.elim
  |some z=>
  simp only[hz] at hd
  cases qT:Kind.of z with
  |none=>simp only[qT] at hd;exact hd.elim
  |some ek=>
  simp only[qT] at hd
  obtain⟨es,clock,o,xx,he,hf,hv,hq⟩:=hd
  have iO:∀w,w.heap=h→(Instr.lookup t (.map r) key ok).run P w=.ok (if ok=true then .tuple #[ek.val xx,.bool o.isSome] else ek.val xx) w:=by
   intro w hw
   subst hw
   cases r with
   |none=>
    obtain⟨rfl,-⟩:=he
    simp only[placeOf,A1b,F6] at hf
    subst hf
    simp only at hv
    simp[Instr.lookup,W6 ht,run_checkKey dL hp,run_findKey dL hp (show placeOf (A5X P kt kd) key []=some none from rfl),A2B hi hz,hv]
   |some r=>
    have jl:w.heap[r]? =some (.map es.toArray clock):=he
    cases o with
    |none=>
     simp only at hv
     simp[Instr.lookup,W6 ht,l8 jl (by simp),run_checkKey dL hp,run_findKey dL hp hf,A2B hi hz,hv]
    |some ov=>
     obtain⟨j,vv⟩:=ov
     simp only at hv
     simp[Instr.lookup,W6 ht,l8 jl (by simp),run_checkKey dL hp,run_findKey dL hp hf,hv]
  cases ok with
  |true=>exact⟨_,iO,hq⟩
  |false=>exact⟨_,iO,hq⟩
 |_=>simp only[ht] at hd;exact hd.elim
theorem A8o{t:TypeId}{x key v:Value}(hd:A9B P t x key v k h Q):
  ∀w,w.heap=h→∃w',(Instr.mapUpdate t x key v).run P w=.ok () w'∧A0d w w'∧k undef w'.heap Q:=by
 unfold A9B at hd
 cases ht:P.underlying t with
 |none=>simp only[ht] at hd;exact hd.elim
 |some d=>
 cases d with
 |map kt et=>
  simp only[ht] at hd
  cases dL:P.underlying kt with
  |none=>simp only[dL] at hd;exact hd.elim
  |some kd=>
  simp only[dL] at hd
  have jm:=A4M hd
  clear hd
  obtain⟨hp,hd⟩:=jm
  cases x<;>try exact hd.elim
  rename_i r
  obtain⟨b,es,clock,o,rfl,he,hf,hq⟩:=hd
  intro w hw
  subst hw
  cases o with
  |none=>
   refine⟨{w with heap:=w.heap.setIfInBounds b (.map (es.push {key:=key,val:=v,born:=clock}) (clock+1))},?_,⟨rfl,rfl,rfl⟩,hq⟩
   simp[Instr.mapUpdate,W6 ht,l8 he (by simp),run_checkKey dL hp,run_findKey dL hp hf,A1s he (by simp)]
  |some ov=>
   obtain⟨j,vv⟩:=ov
   obtain⟨fT,iE,hq⟩:=hq
   refine⟨{w with heap:=w.heap.setIfInBounds b (.map (es.modify j fun e=>{e with key:=key,val:=v}) clock)},?_,⟨rfl,rfl,rfl⟩,hq⟩
   have tS:(Instr.keyThatStays (((es[j]?).map (·.key)).getD key) key).run P w=.ok key w:=by
    rw[fT]
    unfold Instr.keyThatStays
    rw[if_pos iE]
    rfl
   simp[Instr.mapUpdate,W6 ht,l8 he (by simp),run_checkKey dL hp,run_findKey dL hp hf,A1s he (by simp),tS]
 |_=>simp only[ht] at hd;exact hd.elim
theorem B4M{ts:Array TypeId}{ty:TypeId}{vs:D0t}(hd:B3q P ts.toList vs.toList k h Q):
  ∀w,w.heap=h→∃r w',(Builtin.delete_ ts ty vs).run P w=.ok r w'∧A0d w w'∧k r w'.heap Q:=by
 obtain⟨ts⟩:=ts
 obtain⟨vs⟩:=vs
 simp only at hd
 unfold B3q at hd
 match ts,vs,hd with
 |t::tr,[x,key],hd=>
  simp only at hd
  cases ht:P.underlying t with
  |none=>simp only[ht] at hd;exact hd.elim
  |some d=>
  cases d with
  |map kt et=>
   simp only[ht] at hd
   cases dL:P.underlying kt with
   |none=>simp only[dL] at hd;exact hd.elim
   |some kd=>
   simp only[dL] at hd
   have jm:=A4M hd
   clear hd
   obtain⟨hp,hd⟩:=jm
   cases x<;>try exact hd.elim
   rename_i r
   intro w hw
   subst hw
   cases r with
   |none=>
    exact⟨_,w,by simp[Builtin.delete_,W6 ht,run_checkKey dL hp],A0d.refl w,hd⟩
   |some b=>
    obtain⟨es,clock,o,he,hf,hq⟩:=hd
    cases o with
    |none=>
     refine⟨_,{w with heap:=w.heap.setIfInBounds b (.map es clock)},?_,⟨rfl,rfl,rfl⟩,hq⟩
     simp[Builtin.delete_,W6 ht,l8 he (by simp),run_checkKey dL hp,run_findKey dL hp hf,A1s he (by simp)]
    |some ov=>
     refine⟨_,{w with heap:=w.heap.setIfInBounds b (.map (es.eraseIdxIfInBounds ov.1) clock)},?_,⟨rfl,rfl,rfl⟩,hq⟩
     simp[Builtin.delete_,W6 ht,l8 he (by simp),run_checkKey dL hp,run_findKey dL hp hf,A1s he (by simp)]
  |_=>simp only[ht] at hd;exact hd.elim
 |[],_,hd=>exact hd.elim
 |_::_,[],hd=>exact hd.elim
 |_::_,[_],hd=>exact hd.elim
 |_::_,_::_::_::_,hd=>exact hd.elim
theorem B6z{t:TypeId}{x:Value}(hd:B6A P t x k h Q):
  ∀w,w.heap=h→∃v w',(Instr.range t x).run P w=.ok v w'∧A0d w w'∧k v w'.heap Q:=by
 unfold B6A at hd
 cases ht:P.underlying t with
 |none=>simp only[ht] at hd;exact hd.elim
 |some d=>
 cases d with
 |string=>
  simp only[ht] at hd
  cases x<;>try exact hd.elim
  intro w hw
  subst hw
  rename_i s
  refine⟨_,w.alloc (.stringIter s 0),?_,⟨rfl,rfl,rfl⟩,hd⟩
  simp[Instr.range,W6 ht]
 |map kt et=>
  simp only[ht] at hd
  cases x<;>try exact hd.elim
  rename_i r
  intro w hw
  subst hw
  cases r with
  |none=>
   refine⟨_,w.alloc (.mapIter none 0 #[] 0),?_,⟨rfl,rfl,rfl⟩,hd⟩
   simp[Instr.range,W6 ht]
  |some m=>
   obtain⟨es,clock,he,hq⟩:=hd
   refine⟨_,w.alloc (.mapIter (some m) clock #[] clock),?_,⟨rfl,rfl,rfl⟩,hq⟩
   simp[Instr.range,W6 ht,l8 he (by simp)]
 |_=>simp only[ht] at hd;exact hd.elim
theorem B4o(n:Nat)(hn:0<n)(w:World):∃i w',(choose (.mapNext n)).run P w=.ok i w'∧i<n∧w'.heap=w.heap∧A0d w w':=by
 rw[run_choose]
 by_cases hf:(Question.mapNext n).forced=true
 ·exact⟨0,w,by rw[if_pos hf],hn,rfl,A0d.refl w⟩
 ·exact⟨w.tape w.drawn (.mapNext n) % n,{w with drawn:=w.drawn+1},by rw[if_neg hf];rfl,Nat.mod_lt _ hn,rfl,⟨rfl,rfl,rfl⟩⟩
theorem B7y{t:TypeId}{str:Bool}{x:Value}(hd:B9E str x k h Q):
  ∀w,w.heap=h→∃v w',(Instr.next x str t).run P w=.ok v w'∧A0d w w'∧k v w'.heap Q:=by
 unfold B9E at hd
 cases x<;>try exact hd.elim
 rename_i a
 cases a with
 |none=>exact hd.elim
 |some a=>
 obtain⟨b,off,sp⟩:=a
 simp only at hd
 cases off with
 |succ n=>exact hd.elim
 |zero=>
 simp only[show Nat.beq 0 0=true from rfl] at hd
 intro w hw
 subst hw
 cases str with
 |true=>
  obtain⟨s,pos,ho,h1,h2⟩:=hd
  by_cases hp:pos<s.size
  ·refine⟨_,{w with heap:=w.heap.setIfInBounds b (.stringIter s (pos+(Utf8.decode s pos).2))},?_,⟨rfl,rfl,rfl⟩,h1 hp⟩
   simp[Instr.next,l8 ho (by simp),hp,A1s ho (by simp),goInt]
  ·refine⟨_,w,?_,A0d.refl w,h2 hp⟩
   simp[Instr.next,l8 ho (by simp),hp]
 |false=>
  simp only at hd
  obtain⟨m,since,seen,last,ho,hd⟩:=hd
  cases m with
  |none=>
   refine⟨_,w,?_,A0d.refl w,hd⟩
   simp[Instr.next,l8 ho (by simp)]
  |some m=>
   obtain⟨es,clock,he,hc,h1,h2⟩:=hd
   have fW:(!seen.isEmpty && !es.isEmpty &&es.all (fun e=>decide (e.born≥last)))=false:=hc
   let left:=es.filter fun e=> !seen.contains e.born
   let cand:=(if(left.filter (fun e=>decide (e.born<since))).isEmpty then #[none] else #[])++(left.filter (fun e=>decide (e.born<since))++left.filter (fun e=>decide (e.born≥since))).map some
   have qX:0<cand.size:=by
    simp only[cand]
    by_cases hz:(left.filter (fun e=>decide (e.born<since))).isEmpty=true
    ·simp[hz];omega
    ·have:left.filter (fun e=>decide (e.born<since))≠#[]:=by simpa using hz
     have:=Array.size_pos_iff.2 this
     simp only[Array.size_append,Array.size_map]
     omega
   obtain⟨i,w',hr,hi,hh,hs⟩:=B4o (P:=P) cand.size qX w
   have bO:cand[i]? =some cand[i]:=F7 hi
   have jz:(Instr.next (.pointer (some ⟨b,0,sp⟩)) false t).run P w=(match cand[i]? with
     |some (some e)=>do setObj b (.mapIter (some m) since (seen.push e.born) clock);pure (.tuple #[.bool true,e.key,e.val])
     |some none=>pure (.tuple #[.bool false])
     |none=>stuck "Next: no such candidate" :Sem Value).run P w':=by
    simp only[Instr.next,Sem.run_bind,l8 ho (by simp),Result.andThen_ok,l8 he (by simp),fW,H9,if_false]
    show((choose (.mapNext cand.size)).run P w).andThen _=_
    rw[hr]
    rfl
   rw[bO] at jz
   cases hx:cand[i] with
   |none=>
    rw[hx] at jz
    refine⟨_,w',jz.trans rfl,hs,?_⟩
    rw[hh]
    refine h1 fun e lh rQ=>?_
    have al:none∈cand:=hx▸Array.getElem_mem hi
    simp only[cand,Array.mem_append,Array.mem_map,reduceCtorEq,and_false,exists_false,or_false] at al
    split at al
    ·rename_i hz
     have oF:left.filter (fun e=>decide (e.born<since))=#[]:=by simpa using hz
     by_cases ah:e.born<since
     ·have:e∈left.filter (fun e=>decide (e.born<since)):=by simp[left,lh,ah];simpa using rQ
      rw[oF] at this
      simp at this
     ·omega
    ·simp at al
   |some e=>
    rw[hx] at jz
    have al:some e∈cand:=hx▸Array.getElem_mem hi
    have qS:e∈left:=by
     simp only[cand,Array.mem_append,Array.mem_map,F6,exists_eq_right] at al
     rcases al with al|al
     ·split at al<;>simp at al
     ·rcases al with al|al<;>exact(Array.mem_filter.1 al).1
    have qR:=Array.mem_filter.1 qS
    have hq:=h2 e qR.1 (by simpa using qR.2)
    have fv:w'.heap[b]? =some (.mapIter (some m) since seen last):=by rw[hh];exact ho
    refine⟨.tuple #[.bool true,e.key,e.val],{w' with heap:=w'.heap.setIfInBounds b (.mapIter (some m) since (seen.push e.born) clock)},jz.trans ?_,⟨hs.os,hs.tape,hs.output⟩,?_⟩
    ·simp only[Sem.run_bind,A1s fv (by simp),Result.andThen_ok]
     rfl
    ·simpa[hh,A2Q] using hq
theorem B6G{ka kb:Kind}{x:Value}(hd:B6H ka kb x k h Q):∃v,(∀w,w.heap=h→(Instr.entry x).run P w=.ok v w)∧k v h Q:=by
 unfold B6H at hd
 cases x<;>try exact hd.elim
 rename_i a
 cases a with
 |none=>exact hd.elim
 |some a=>
 obtain⟨b,off,sp⟩:=a
 simp only at hd
 cases off with
 |succ n=>exact hd.elim
 |zero=>
 simp only[show Nat.beq 0 0=true from rfl] at hd
 obtain⟨m,since,seen,stepped,es,stamp,e,kx,vx,ho,hb,he,hf,e1,e2,hq⟩:=hd
 refine⟨_,fun w hw=>?_,hq⟩
 subst hw
 have bF:(stepped !=stepped)=false:=by simp
 simp[Instr.entry,l8 ho (by simp),l8 he (by simp),hb,hf,e1,e2]
theorem B2o{t:TypeId}{x key:Value}(hd:A9b P t x key k h Q):
  ∀w,w.heap=h→∃v w',(Instr.mapEntry t x key).run P w=.ok v w'∧A0d w w'∧k v w'.heap Q:=by
 unfold A9b at hd
 cases ht:P.underlying t with
 |none=>simp only[ht] at hd;exact hd.elim
 |some d=>
 cases d with
 |map kt et=>
  simp only[ht] at hd
  cases dL:P.underlying kt with
  |none=>simp only[dL] at hd;exact hd.elim
  |some kd=>
  simp only[dL] at hd
  have jm:=A4M hd
  clear hd
  obtain⟨hp,hd⟩:=jm
  cases x<;>try exact hd.elim
  rename_i r
  simp only at hd
  cases hi:P.info? et with
  |none=>simp only[hi] at hd;exact hd.elim
  |some i=>
  simp only[hi] at hd
  cases hz:i.zero with
  |none=>simp only[hz] at hd;exact hd.elim
  |some z=>
  simp only[hz] at hd
  cases qT:Kind.of z with
  |none=>simp only[qT] at hd;exact hd.elim
  |some ek=>
  simp only[qT] at hd
  obtain⟨b,es,clock,o,rfl,he,hf,hq⟩:=hd
  intro w hw
  subst hw
  cases o with
  |none=>
   obtain⟨x,hx,hq⟩:=hq
   refine⟨.tuple #[ek.val x,.int .i64 clock],{w with heap:=w.heap.setIfInBounds b (.map (es.push {key:=key,val:=z,born:=clock}) (clock+1))},?_,⟨rfl,rfl,rfl⟩,hq⟩
   simp[Instr.mapEntry,W6 ht,l8 he (by simp),run_checkKey dL hp,run_findKey dL hp hf,A1s he (by simp),A2B hi hz,goInt,←hx]
  |some ov=>
   obtain⟨j,vv⟩:=ov
   obtain⟨fT,iE,x,hx,hq⟩:=hq
   refine⟨.tuple #[ek.val x,.int .i64 ((((es[j]?).map (·.born)).getD 0:Nat):Int)],{w with heap:=w.heap.setIfInBounds b (.map (es.modify j fun e=>{e with key:=key}) clock)},?_,⟨rfl,rfl,rfl⟩,hq⟩
   have tS:(Instr.keyThatStays (((es[j]?).map (·.key)).getD key) key).run P w=.ok key w:=by
    rw[fT]
    unfold Instr.keyThatStays
    rw[if_pos iE]
    rfl
   simp[Instr.mapEntry,W6 ht,l8 he (by simp),run_checkKey dL hp,run_findKey dL hp hf,A1s he (by simp),tS,goInt,←hx]
   cases es[j]? <;>simp
 |_=>simp only[ht] at hd;exact hd.elim
theorem A9X{t:TypeId}{x stamp v:Value}(hd:A6n x stamp v k h Q):
  ∀w,w.heap=h→∃w',(Instr.entryStore t x stamp v).run P w=.ok () w'∧A0d w w'∧k undef w'.heap Q:=by
 unfold A6n at hd
 cases x<;>try exact hd.elim
 simp only at hd
 cases stamp<;>try exact hd.elim
 rename_i r kd n
 obtain⟨b,es,clock,i,rfl,he,hf,hq⟩:=hd
 intro w hw
 subst hw
 refine⟨{w with heap:=w.heap.setIfInBounds b (.map (es.modify i fun e=>{e with val:=v}) clock)},?_,⟨rfl,rfl,rfl⟩,hq⟩
 simp[Instr.entryStore,l8 he (by simp),asInt,asIntOf,hf,A1s he (by simp)]
end
end
section
section
variable {P:Program} {ρ:Type} {k:Value→HM ρ} {h:Heap} {Q:ρ→Heap→Prop}
theorem B5T:∀{l:List Nat} {n:Nat},A5x n l=true→n∈l
 |[],_,h=>by cases h
 |t::ts,n,h=>by
  simp only[A5x] at h
  cases hb:Nat.beq t n with
  |true=>rw[E3 hb];exact B4 ..
  |false=>rw[hb] at h;exact C3 _ (B5T h)
theorem B5j{c:Call}{ev:Operand→Value}{o:Oper}{f:FuncId}{first captured:D0t}{x:Operand}(ho:o.op=.call c)(hc:c.callee=.value x)
  (hx:ev x=.func (.func f) first captured)(hf:A1D P f)(w:World):(execOp ev o).run P w=.ok (.enter f (first++c.args.map ev++captured)) w:=by
 have:=hf (first++c.args.map ev++captured) w
 rw[Array.append_assoc] at this⊢
 simp[execOp,ho,resolve,hc,hx,Deferred.ofValue,invoke,this]
theorem A2V{c:Call}{ev:Operand→Value}{o:Oper}{b:Builtin}(ho:o.op=.call c)(hc:c.callee=.builtin b)(w:World):
  (execOp ev o).run P w=(builtin b c.argTypes o.type (c.args.map fun|.const _=>true|_=>false) (c.args.map ev)).run P w:=by
 simp only[execOp,ho,Sem.run_bind]
 simp only[resolve,hc,Sem.run_pure,Result.andThen_ok,invoke]
 rfl
theorem B7z{C:List Nat}{c:Call}{ev:Operand→Value}{o:Oper}{f:FuncId}{vs:D0u}(hC:∀f,f∈C→A1D P f)(ho:o.op=.call c)(hc:c.callee=.value (.func f))
  (oQ:ev (.func f)=.func (.func f) #[] #[])(dm:c.args.map ev=vs.toArray)(hd:B9H P C o.type (.func (.func f) #[] #[]) vs k h Q):A3F P (execOp ev o) h fun v h'=>k v h' Q:=by
 intro w hw
 subst hw
 simp only[B9H] at hd
 cases hm:A5x f C with
 |false=>simp only[hm] at hd;exact hd.elim
 |true=>
 simp only[hm] at hd
 rw[B5j ho hc oQ (hC f (B5T hm)) w,dm]
 refine⟨A0d.refl w,?_⟩
 have e1:(#[]++vs.toArray++#[]:D0t)=((#[]:D0t).toList++(vs++(#[]:D0t).toList)).toArray:=by simp
 rw[e1]
 cases hr:C3l P o.type with
 |none=>simp only[hr] at hd;exact hd.elim
 |some r=>
  cases r with
  |one kd=>
   simp only[hr] at hd
   exact V4.mono (Q:=fun v h'=>∃x,v=kd.val x∧k (kd.val x) h' Q) hd fun v h' ⟨x,hx,hq⟩=>by subst hx;exact hq
  |many ks=>
   simp only[hr] at hd
   exact V4.mono (Q:=fun v h'=>∃x,v=.tuple (r9.cC ks x).toArray∧k (.tuple (r9.cC ks x).toArray) h' Q) hd fun v h' ⟨x,hx,hq⟩=>by subst hx;exact hq
theorem A5l{c:Call}{ev:Operand→Value}{o:Oper}{x:Operand}{vs:D0u}(ho:o.op=.call c)(hc:c.callee=.value x)
  (dm:c.args.map ev=vs.toArray)(hd:B6K P o.type (ev x) vs k h Q):A3F P (execOp ev o) h fun v h'=>k v h' Q:=by
 intro w hw
 subst hw
 unfold B6K at hd
 cases hr:C3l P o.type with
 |none=>simp only[hr] at hd;exact hd.elim
 |some r=>
  cases r with
  |one kd=>
   simp only[hr] at hd
   obtain⟨f,first,captured,hx,hf,hd⟩:=hd
   rw[B5j ho hc hx hf w,dm]
   exact⟨A0d.refl w,V4.mono hd fun v h' ⟨x,hx,hq⟩=>by subst hx;exact hq⟩
  |many ks=>
   simp only[hr] at hd
   obtain⟨f,first,captured,hx,hf,hd⟩:=hd
   rw[B5j ho hc hx hf w,dm]
   exact⟨A0d.refl w,V4.mono hd fun v h' ⟨x,hx,hq⟩=>by subst hx;exact hq⟩
theorem B7x{n:Nat}{e:Env}{d:Dec}{a:Act}(hA:A0w n e a)(hD:A3e d a){o:Oper}{c x y:Operand}(ho:o.op=.pick c x y)(hd:B9D e d c x y k h Q):
  ∃v,Stat P (execOp a.eval o) v∧k v h Q:=by
 unfold B9D at hd
 cases c with
 |tmp t=>
  simp only at hd
  have iO:∀b w,a.eval (.tmp t)=.bool b→(execOp a.eval o).run P w=.ok (.value (if b=true then a.eval x else a.eval y)) w:=by
   intro b w hb
   simp[execOp,ho,hb,asBool]
  cases hg:d.get t with
  |some b=>
   have hb:a.eval (.tmp t)=.bool b:=by
    have:=hD t b hg
    simp[Act.eval,this]
   cases b with
   |true=>
    simp only[hg] at hd
    cases hx:e.ev x with
    |none=>simp only[hx] at hd;exact hd.elim
    |some v=>
     simp only[hx] at hd
     exact⟨v,fun w=>by rw[iO true w hb,hA.ev hx];rfl,hd⟩
   |false=>
    simp only[hg] at hd
    cases hx:e.ev y with
    |none=>simp only[hx] at hd;exact hd.elim
    |some v=>
     simp only[hx] at hd
     exact⟨v,fun w=>by rw[iO false w hb,hA.ev hx];rfl,hd⟩
  |none=>
   simp only[hg] at hd
   cases hu:e.ev (.tmp t) with
   |none=>simp only[hu] at hd;exact hd.elim
   |some u=>
   simp only[hu] at hd
   cases u<;>try exact hd.elim
   rename_i u
   cases hv:e.ev x with
   |none=>simp only[hv] at hd;exact hd.elim
   |some v=>
   simp only[hv] at hd
   cases v<;>try exact hd.elim
   rename_i v
   cases hz:e.ev y with
   |none=>simp only[hz] at hd;exact hd.elim
   |some z=>
   simp only[hz] at hd
   cases z<;>try exact hd.elim
   rename_i z
   exact⟨_,fun w=>by rw[iO u w (hA.ev hu),hA.ev hv,hA.ev hz];cases u<;>rfl,hd⟩
 |_=>exact hd.elim
theorem B6I{ts:Array TypeId}{ty:TypeId}{vs:D0t}(hd:B6J P ts.toList vs.toList k h Q):
  ∀w,w.heap=h→∃r w',(Builtin.clear_ ts ty vs).run P w=.ok r w'∧A0d w w'∧k r w'.heap Q:=by
 obtain⟨ts⟩:=ts
 obtain⟨vs⟩:=vs
 simp only at hd
 unfold B6J at hd
 match ts,vs,hd with
 |[t],[x],hd=>
  simp only at hd
  cases ht:P.underlying t with
  |none=>simp only[ht] at hd;exact hd.elim
  |some d=>
  cases d with
  |slice elem=>
   simp only[ht] at hd
   cases x<;>try exact hd.elim
   rename_i a n c
   simp only at hd
   cases hi:P.info? elem with
   |none=>simp only[hi] at hd;exact hd.elim
   |some i=>
   simp only[hi] at hd
   cases hz:i.zero with
   |none=>simp only[hz] at hd;exact hd.elim
   |some z=>
   simp only[hz] at hd
   intro w hw
   subst hw
   cases a with
   |none=>
    exact⟨_,w,by simp[Builtin.clear_,W6 ht],A0d.refl w,hd⟩
   |some a=>
    have iW:(if n=0 then(fun(_:Unit) (h:Heap)=>k (.tuple #[]) h Q) () w.heap else _):=hd
    by_cases hn:n=0
    ·subst hn
     rw[if_pos rfl] at iW
     exact⟨_,w,by simp[Builtin.clear_,W6 ht],A0d.refl w,iW⟩
    ·rw[if_neg hn] at iW
     obtain⟨h1,h2⟩:=iW
     obtain⟨w',hr,hs,hh⟩:=A2b (P:=P) a (Builtin.zeroCells z.cells n).toList 0 w (fun j v hj=>by rw[L7];exact h1 j v hj)
     refine⟨.tuple #[],w',?_,hs,by rw[hh];exact h2⟩
     cases n with
     |zero=>exact absurd rfl hn
     |succ n=>simp[Builtin.clear_,W6 ht,A2B hi hz,hr]
  |map kt et=>
   simp only[ht] at hd
   cases x<;>try exact hd.elim
   rename_i r
   intro w hw
   subst hw
   cases r with
   |none=>exact⟨_,w,by simp[Builtin.clear_,W6 ht],A0d.refl w,hd⟩
   |some b=>
    obtain⟨es,clock,he,hq⟩:=hd
    refine⟨_,{w with heap:=w.heap.setIfInBounds b (.map #[] clock)},?_,⟨rfl,rfl,rfl⟩,hq⟩
    simp[Builtin.clear_,W6 ht,l8 he (by simp),A1s he (by simp)]
  |_=>simp only[ht] at hd;exact hd.elim
 |[],_,hd=>exact hd.elim
 |[_],[],hd=>exact hd.elim
 |_::_::_,[],hd=>exact hd.elim
 |[_],_::_::_,hd=>exact hd.elim
 |_::_::_,[_],hd=>exact hd.elim
 |_::_::_,_::_::_,hd=>exact hd.elim
theorem v8.cT{c:Cls}{s:Sem Next}{Φ:Value→Heap→Prop}(hc:c=.cT)(hd:A3F P s h Φ):v8 P c s h Φ:=by subst hc;exact hd
theorem v8.stat{c:Cls}{s:Sem Next}{Φ:Value→Heap→Prop}(hc:c=.stat)(hd:∃v,Stat P s v∧Φ v h):v8 P c s h Φ:=by subst hc;exact hd
theorem v8.read{c:Cls}{s:Sem Next}{Φ:Value→Heap→Prop}(hc:c=.read)(hd:∃v,A2J P s h v∧Φ v h):v8 P c s h Φ:=by subst hc;exact hd
theorem B6L{n:Nat}{e:Env}{a:Act}{o:Oper}{c:Call}{b:Builtin}{vs:D0u}(ho:o.op=.call c)(hc:c.callee=.builtin b)
  (dm:c.args.map a.eval=vs.toArray)(hd:B00 P b c.argTypes.toList vs k h Q):v8 P (v7 P o.op) (execOp a.eval o) h fun v h'=>k v h' Q:=by
 have nF:(c.args.map a.eval).toList=vs:=by rw[dm]
 rw[←nF] at hd
 unfold B00 at hd
 cases b<;>try exact hd.elim
 case len=>
  refine v8.read (by simp[v7,ho,hc]) ?_
  obtain⟨v,hv,hq⟩:=B9F (ty:=o.type) hd
  exact⟨v,fun w hw=>by rw[A2V ho hc];simp[builtin,hv w hw],hq⟩
 all_goals refine v8.cT (by simp[v7,ho,hc]) ?_
 all_goals intro w hw
 case append=>
  obtain⟨r,w',hr,hs,hq⟩:=B4N (ty:=o.type) hd w hw
  rw[A2V ho hc]
  have:(builtin .append c.argTypes o.type (c.args.map fun|.const _=>true|_=>false) (c.args.map a.eval)).run P w=.ok (.value r) w':=by simp[builtin,hr]
  rw[this];exact⟨hs,hq⟩
 case delete=>
  obtain⟨r,w',hr,hs,hq⟩:=B4M (ty:=o.type) hd w hw
  rw[A2V ho hc]
  have:(builtin .delete c.argTypes o.type (c.args.map fun|.const _=>true|_=>false) (c.args.map a.eval)).run P w=.ok (.value r) w':=by simp[builtin,hr]
  rw[this];exact⟨hs,hq⟩
 case clear=>
  obtain⟨r,w',hr,hs,hq⟩:=B6I (ty:=o.type) hd w hw
  rw[A2V ho hc]
  have:(builtin .clear c.argTypes o.type (c.args.map fun|.const _=>true|_=>false) (c.args.map a.eval)).run P w=.ok (.value r) w':=by simp[builtin,hr]
  rw[this];exact⟨hs,hq⟩
 case max=>
  obtain⟨v,hv,hq⟩:=A8n (P:=P) (ts:=c.argTypes) (ty:=o.type) hd
  rw[A2V ho hc]
  have:(builtin .max c.argTypes o.type (c.args.map fun|.const _=>true|_=>false) (c.args.map a.eval)).run P w=.ok (.value v) w:=by
   have:=hv w;simp at this;simp[builtin,this]
  rw[this];exact⟨A0d.refl w,by rw[hw];exact hq⟩
 case min=>
  obtain⟨v,hv,hq⟩:=A8n (P:=P) (ts:=c.argTypes) (ty:=o.type) hd
  rw[A2V ho hc]
  have:(builtin .min c.argTypes o.type (c.args.map fun|.const _=>true|_=>false) (c.args.map a.eval)).run P w=.ok (.value v) w:=by
   have:=hv w;simp at this;simp[builtin,this]
  rw[this];exact⟨A0d.refl w,by rw[hw];exact hq⟩
theorem B8y{C:List Nat}(hC:∀f,f∈C→A1D P f){n:Nat}{e:Env}{d:Dec}{a:Act}(hA:A0w n e a)(hD:A3e d a){o:Oper}(hd:C1b P C e d o k h Q):
  v8 P (v7 P o.op) (execOp a.eval o) h fun v h'=>k v h' Q:=by
 unfold C1b at hd
 cases ho:o.op<;>simp only[ho] at hd<;>try exact hd.elim
 case move x=>
  cases hx:e.ev x with
  |none=>simp only[hx] at hd;exact hd.elim
  |some v=>
   simp only[hx] at hd
   exact v8.stat rfl ⟨v,fun w=>by simp[execOp,ho,hA.ev hx],hd⟩
 case assign x=>
  cases hx:e.ev x with
  |none=>simp only[hx] at hd;exact hd.elim
  |some v=>
   simp only[hx] at hd
   exact v8.stat rfl ⟨v,fun w=>by simp[execOp,ho,hA.ev hx],hd⟩
 case pick c x y=>exact v8.stat rfl (B7x hA hD ho hd)
 case alloc t=>
  have:=A3F.eD (Φ:=fun v h'=>k v h' Q) (B6O hd)
  exact v8.cT rfl (by simpa[execOp,ho] using this)
 case box t x=>
  cases hx:e.ev x with
  |none=>simp only[hx] at hd;exact hd.elim
  |some v=>
   simp only[hx] at hd
   have:=A3F.eD (Φ:=fun v h'=>k v h' Q) (B9I hd)
   exact v8.cT rfl (by simpa[execOp,ho,hA.ev hx] using this)
 case build t ps=>
  cases hx:A50 e ps.toList with
  |none=>simp only[hx] at hd;exact hd.elim
  |some vs=>
   simp only[hx] at hd
   have hp:=hA.parts hx
   have dp:ps.map (fun(i,x)=>(i,a.eval x))=vs.toArray:=by apply I5.1;simpa using hp
   obtain⟨v,hv,hq⟩:=B6M (ps:=vs.toArray) (by simpa using hd)
   refine v8.stat rfl ⟨v,?_,hq⟩
   have:=Stat.of hv
   simpa[execOp,ho,dp] using this
 case buildSlice t m ps=>
  cases hx:A50 e ps.toList with
  |none=>simp only[hx] at hd;exact hd.elim
  |some vs=>
   simp only[hx] at hd
   have hp:=hA.parts hx
   have dp:ps.map (fun(i,x)=>(i,a.eval x))=vs.toArray:=by apply I5.1;simpa using hp
   have:=A3F.eD (Φ:=fun v h'=>k v h' Q) (A9Y (ps:=vs.toArray) (by simpa using hd))
   exact v8.cT rfl (by simpa[execOp,ho,dp] using this)
 case load t x=>
  cases hx:e.ev x with
  |none=>simp only[hx] at hd;exact hd.elim
  |some v=>
   simp only[hx] at hd
   obtain⟨u,hu,hq⟩:=B0j hd
   refine v8.read rfl ⟨u,?_,hq⟩
   have:=A2J.of hu
   simpa[execOp,ho,hA.ev hx] using this
 case store t x y=>
  cases hx:e.ev x with
  |none=>simp only[hx] at hd;exact hd.elim
  |some v=>
  simp only[hx] at hd
  cases hy:e.ev y with
  |none=>simp only[hy] at hd;exact hd.elim
  |some u=>
   simp only[hy] at hd
   have:=A3F.fH (Φ:=fun v h'=>k v h' Q) (B6v hd)
   exact v8.cT rfl (by simpa[execOp,ho,hA.ev hx,hA.ev hy] using this)
 case nilCheck x=>
  cases hx:e.ev x with
  |none=>simp only[hx] at hd;exact hd.elim
  |some v=>
   simp only[hx] at hd
   rw[←hA.ev hx] at hd
   exact v8.stat rfl (B2n ho hd)
 case binOp op t x y t2=>
  cases hx:e.ev x with
  |none=>simp only[hx] at hd;exact hd.elim
  |some v=>
  simp only[hx] at hd
  cases hy:e.ev y with
  |none=>simp only[hy] at hd;exact hd.elim
  |some u=>
   simp only[hy] at hd
   obtain⟨r,hr,hq⟩:=B9J (xo:=x) (fun c hc=>by subst hc;simp only[Env.ev,F6] at hy;exact hy.symm) hd
   refine v8.stat rfl ⟨r,?_,hq⟩
   have:=Stat.of hr
   simpa[execOp,ho,hA.ev hx,hA.ev hy] using this
 case unOp op t x=>
  cases hx:e.ev x with
  |none=>simp only[hx] at hd;exact hd.elim
  |some v=>
   simp only[hx] at hd
   obtain⟨r,hr,hq⟩:=C1a (P:=P) hd
   refine v8.stat rfl ⟨r,?_,hq⟩
   have:=Stat.of hr
   simpa[execOp,ho,hA.ev hx] using this
 case convert s t x=>
  cases hx:e.ev x with
  |none=>simp only[hx] at hd;exact hd.elim
  |some v=>
   simp only[hx] at hd
   obtain⟨r,hr,hq⟩:=B3r hd
   simp only[v7]
   split
   ·rename_i kd hk
    refine⟨r,?_,hq⟩
    have:=Stat.of (fun w=>hr w (.inr ⟨kd,hk⟩))
    simpa[execOp,ho,hA.ev hx] using this
   ·refine A3F.eN (v:=r) ?_ hq
    have:=A2J.of (fun w hw=>hr w (.inl hw))
    simpa[execOp,ho,hA.ev hx] using this
 case mapEntry t x y=>
  cases hx:e.ev x with
  |none=>simp only[hx] at hd;exact hd.elim
  |some v=>
  simp only[hx] at hd
  cases hy:e.ev y with
  |none=>simp only[hy] at hd;exact hd.elim
  |some u=>
   simp only[hy] at hd
   have:=A3F.eD (Φ:=fun v h'=>k v h' Q) (B2o hd)
   exact v8.cT rfl (by simpa[execOp,ho,hA.ev hx,hA.ev hy] using this)
 case entryStore t x y z=>
  cases hx:e.ev x with
  |none=>simp only[hx] at hd;exact hd.elim
  |some v=>
  simp only[hx] at hd
  cases hy:e.ev y with
  |none=>simp only[hy] at hd;exact hd.elim
  |some u=>
  simp only[hy] at hd
  cases hz:e.ev z with
  |none=>simp only[hz] at hd;exact hd.elim
  |some u'=>
   simp only[hz] at hd
   have:=A3F.fH (P:=P) (Φ:=fun v h'=>k v h' Q) (A9X (P:=P) (t:=t) hd)
   exact v8.cT rfl (by simpa[execOp,ho,hA.ev hx,hA.ev hy,hA.ev hz] using this)
 case range t x=>
  cases hx:e.ev x with
  |none=>simp only[hx] at hd;exact hd.elim
  |some v=>
   simp only[hx] at hd
   have:=A3F.eD (Φ:=fun v h'=>k v h' Q) (B6z hd)
   exact v8.cT rfl (by simpa[execOp,ho,hA.ev hx] using this)
 case next x str=>
  cases hx:e.ev x with
  |none=>simp only[hx] at hd;exact hd.elim
  |some v=>
   simp only[hx] at hd
   have:=A3F.eD (P:=P) (Φ:=fun v h'=>k v h' Q) (B7y (P:=P) (t:=o.type) hd)
   exact v8.cT rfl (by simpa[execOp,ho,hA.ev hx] using this)
 case makeInterface t x=>
  cases hx:e.ev x with
  |none=>simp only[hx] at hd;exact hd.elim
  |some v=>
   simp only[hx] at hd
   refine v8.stat rfl ?_
   cases ht:P.underlying t with
   |none=>simp only[ht] at hd;exact hd.elim
   |some dd=>
    simp only[ht] at hd
    cases dd<;>first
     |exact hd.elim
     |exact⟨_,fun w=>by simp[execOp,ho,hA.ev hx,Instr.makeInterface,W6 ht],hd⟩
 case makeFunc fn first captured=>
  cases hx:e.eO first.toList with
  |none=>simp only[hx] at hd;exact hd.elim
  |some vs=>
  simp only[hx] at hd
  cases hy:e.eO captured.toList with
  |none=>simp only[hy] at hd;exact hd.elim
  |some us=>
   simp only[hy] at hd
   refine v8.stat rfl ⟨_,fun w=>?_,hd⟩
   simp[execOp,ho,hA.dT hx,hA.dT hy,Instr.makeFunc]
 case makeMap t r=>
  cases r with
  |some r=>exact hd.elim
  |none=>
   refine v8.cT rfl ?_
   intro w hw
   subst hw
   have:(execOp a.eval o).run P w=.ok (.value (.map (some w.heap.size))) (w.alloc (.map #[] 0)):=by simp[execOp,ho,Instr.makeMap]
   rw[this]
   exact⟨⟨rfl,rfl,rfl⟩,hd⟩
 case makeSlice t x y=>
  cases hx:e.ev x with
  |none=>simp only[hx] at hd;exact hd.elim
  |some v=>
  simp only[hx] at hd
  cases hy:e.ev y with
  |none=>simp only[hy] at hd;exact hd.elim
  |some u=>
   simp only[hy] at hd
   have:=A3F.eD (Φ:=fun v h'=>k v h' Q) (B0X hd)
   exact v8.cT rfl (by simpa[execOp,ho,hA.ev hx,hA.ev hy] using this)
 case slice t x lo hi mx=>
  cases hx:e.ev x with
  |none=>simp only[hx] at hd;exact hd.elim
  |some v=>
  simp only[hx] at hd
  cases hl:A7w e lo with
  |none=>simp only[hl] at hd;exact hd.elim
  |some l=>
  simp only[hl] at hd
  cases hh:A7w e hi with
  |none=>simp only[hh] at hd;exact hd.elim
  |some u=>
  simp only[hh] at hd
  cases hm:A7w e mx with
  |none=>simp only[hm] at hd;exact hd.elim
  |some m=>
   simp only[hm] at hd
   obtain⟨r,hr,hq⟩:=B6x (A7v hA hl) (A7v hA hh) (A7v hA hm) hd
   refine v8.stat rfl ⟨r,?_,hq⟩
   have:=Stat.of hr
   simpa[execOp,ho,hA.ev hx] using this
 case fieldAddr t x f=>
  cases hx:e.ev x with
  |none=>simp only[hx] at hd;exact hd.elim
  |some v=>
   simp only[hx] at hd
   obtain⟨r,hr,hq⟩:=B0Z hd
   refine v8.stat rfl ⟨r,?_,hq⟩
   have:=Stat.of hr
   simpa[execOp,ho,hA.ev hx] using this
 case field t x f=>
  cases hx:e.ev x with
  |none=>simp only[hx] at hd;exact hd.elim
  |some v=>
   simp only[hx] at hd
   obtain⟨r,hr,hq⟩:=B6E hd
   refine v8.stat rfl ⟨r,?_,hq⟩
   have:=Stat.of hr
   simpa[execOp,ho,hA.ev hx] using this
 case indexAddr t x y=>
  cases hx:e.ev x with
  |none=>simp only[hx] at hd;exact hd.elim
  |some v=>
  simp only[hx] at hd
  cases hy:e.ev y with
  |none=>simp only[hy] at hd;exact hd.elim
  |some u=>
   simp only[hy] at hd
   obtain⟨r,hr,hq⟩:=B0Y hd
   refine v8.stat rfl ⟨r,?_,hq⟩
   have:=Stat.of hr
   simpa[execOp,ho,hA.ev hx,hA.ev hy] using this
 case index t x y=>
  cases hx:e.ev x with
  |none=>simp only[hx] at hd;exact hd.elim
  |some v=>
  simp only[hx] at hd
  cases hy:e.ev y with
  |none=>simp only[hy] at hd;exact hd.elim
  |some u=>
   simp only[hy] at hd
   obtain⟨r,hr,hq⟩:=B6C hd
   refine v8.stat rfl ⟨r,?_,hq⟩
   have:=Stat.of hr
   simpa[execOp,ho,hA.ev hx,hA.ev hy] using this
 case lookup t x y ok=>
  cases hx:e.ev x with
  |none=>simp only[hx] at hd;exact hd.elim
  |some v=>
  simp only[hx] at hd
  cases hy:e.ev y with
  |none=>simp only[hy] at hd;exact hd.elim
  |some u=>
   simp only[hy] at hd
   obtain⟨r,hr,hq⟩:=B4L hd
   refine v8.read rfl ⟨r,?_,hq⟩
   have:=A2J.of hr
   simpa[execOp,ho,hA.ev hx,hA.ev hy] using this
 case mapUpdate t x y z=>
  cases hx:e.ev x with
  |none=>simp only[hx] at hd;exact hd.elim
  |some v=>
  simp only[hx] at hd
  cases hy:e.ev y with
  |none=>simp only[hy] at hd;exact hd.elim
  |some u=>
  simp only[hy] at hd
  cases hz:e.ev z with
  |none=>simp only[hz] at hd;exact hd.elim
  |some u'=>
   simp only[hz] at hd
   have:=A3F.fH (Φ:=fun v h'=>k v h' Q) (A8o hd)
   exact v8.cT rfl (by simpa[execOp,ho,hA.ev hx,hA.ev hy,hA.ev hz] using this)
 case insert t x y z=>
  cases hx:e.ev x with
  |none=>simp only[hx] at hd;exact hd.elim
  |some v=>
  simp only[hx] at hd
  cases hy:e.ev y with
  |none=>simp only[hy] at hd;exact hd.elim
  |some u=>
  simp only[hy] at hd
  cases hz:e.ev z with
  |none=>simp only[hz] at hd;exact hd.elim
  |some u'=>
   simp only[hz] at hd
   have:=A3F.fH (Φ:=fun v h'=>k v h' Q) (A8o hd)
   exact v8.cT rfl (by simpa[execOp,ho,hA.ev hx,hA.ev hy,hA.ev hz] using this)
 case extract x i=>
  cases hx:e.ev x with
  |none=>simp only[hx] at hd;exact hd.elim
  |some v=>
   cases v<;>simp only[hx] at hd<;>try exact hd.elim
   rename_i vs
   cases hi:vs.toList[i]? with
   |none=>simp only[hi] at hd;exact hd.elim
   |some u=>
    simp only[hi] at hd
    refine v8.stat rfl ⟨u,fun w=>?_,hd⟩
    have kf:vs[i]? =some u:=by simpa using hi
    simp[execOp,ho,hA.ev hx,Instr.extract,kf]
 case call c=>
  cases hx:e.eO c.args.toList with
  |none=>simp only[hx] at hd;exact hd.elim
  |some vs=>
   simp only[hx] at hd
   have dm:=hA.dT hx
   cases hc:c.callee with
   |builtin b=>
    simp only[hc] at hd
    have:=B6L (n:=n) (e:=e) ho hc dm hd
    rwa[ho] at this
   |invoke x m=>simp only[hc] at hd;exact hd.elim
   |value x=>
    refine v8.cT (by simp[v7,hc]) ?_
    cases x with
    |func f=>
     simp only[hc] at hd
     exact B7z hC ho hc rfl dm hd
    |tmp t=>
     simp only[hc] at hd
     cases hv:e.ev (.tmp t) with
     |none=>simp only[hv] at hd;exact hd.elim
     |some v=>
      simp only[hv] at hd
      rw[←hA.ev hv] at hd
      exact A5l ho hc dm hd
    |const v=>
     simp only[hc] at hd
     exact A5l (x:=.const v) ho hc dm hd
    |global g=>
     simp only[hc] at hd
     exact A5l (x:=.global g) ho hc dm hd
theorem C2I{C:List Nat}(hC:∀f,f∈C→A1D P f){n:Nat}{e:Env}{d:Dec}{a:Act}(hA:A0w n e a)(hD:A3e d a){ops:Array Oper}{o:Oper}(hd:B6B P C ops e d o k h Q):
  v8 P (v7 P o.op) (execOp a.eval o) h fun v h'=>k v h' Q:=by
 have key:(∃x,o.op=.entry x)∨B6B P C ops e d o k=C1b P C e d o k:=by
  unfold B6B
  cases o.op<;>first|exact .inr rfl|exact .inl ⟨_,rfl⟩
 rcases key with⟨x,ho⟩|key
 ·unfold B6B at hd
  simp only[ho] at hd
  cases hx:e.ev x with
  |none=>simp only[hx] at hd;exact hd.elim
  |some v=>
   simp only[hx] at hd
   obtain⟨r,hr,hq⟩:=B6G (P:=P) hd
   refine v8.cT (by rw[ho];rfl) (A3F.eN (v:=r) ?_ hq)
   have:=A2J.of hr
   simpa[execOp,ho,hA.ev hx] using this
 ·rw[key] at hd
  exact B8y hC hA hD hd
end
end
section
section
variable {P:Program} {ops:Array Oper} {b:Array Nat} {Φ:Act→Heap→Prop}
theorem A3F.mono{s:Sem Next}{h:Heap}{Ψ Ψ':Value→Heap→Prop}(hd:A3F P s h Ψ)(hp:∀v h',Ψ v h'→Ψ' v h'):A3F P s h Ψ':=by
 intro w hw
 have:=hd w hw
 revert this
 cases s.run P w with
 |halt x w'=>exact id
 |ok n w'=>
  cases n<;>first
   |exact fun hh=>⟨hh.1,hp _ _ hh.2⟩
   |exact fun hh=>⟨hh.1,V4.mono hh.2 hp⟩
   |exact id
def want(ops:Array Oper)(o:Oper)(a:Act):Bool:=Region.wanted o (yielded ops a.tmps)
def C3T(P:Program)(ops:Array Oper)(i:Nat)(v:Value)(a:Act)(h:Heap):Prop:=∃o,ops[i]? =some o∧A2J P (execOp a.eval o) h v
def u5(P:Program)(ops:Array Oper)(b:Array Nat)(draw:Bool)(K:A1F→Act→Heap→Prop)(j:Nat)(dn:A1F)(a:Act)(h:Heap):Prop:=
 match ops[j]? with
  |none=>False
  |some o=>if want ops o a=true then
    match v7 P o.op with
    |.stat=>∃v,Stat P (execOp a.eval o) v∧K dn (a.put o.dst v) h
    |.read=>∃v,A2J P (execOp a.eval o) h v∧K ((j,v)::dn) (a.put o.dst v) h
    |.cT=>A3F P (execOp a.eval o) h fun v h'=>(draw=true→∀i v',(i,v')∈dn→(b.getD j 0).testBit i=false→C3T P ops i v' (a.put o.dst v) h')∧K dn (a.put o.dst v) h'
   else K dn (a.put o.dst undef) h
def C7Y(K:A1F→Act→Heap→Prop):Prop:=∀(dn dn':A1F) (a:Act) (h:Heap),(∀p,p∈dn'→p∈dn)→K dn a h→K dn' a h
theorem u5.imp{K K':A1F→Act→Heap→Prop}{draw:Bool}{j:Nat}{dn:A1F}{a:Act}{h:Heap}(hi:∀dn a h,K dn a h→K' dn a h)(hl:u5 P ops b draw K j dn a h):u5 P ops b draw K' j dn a h:=by
 unfold u5 at hl⊢
 cases ho:ops[j]? with
 |none=>simp only[ho] at hl
 |some o=>
  simp only[ho] at hl⊢
  by_cases hw:want ops o a=true
  ·rw[if_pos hw] at hl⊢
   cases hc:v7 P o.op with
   |stat=>
    simp only[hc] at hl⊢
    obtain⟨v,hv,hr⟩:=hl
    exact⟨v,hv,hi _ _ _ hr⟩
   |read=>
    simp only[hc] at hl⊢
    obtain⟨v,hv,hr⟩:=hl
    exact⟨v,hv,hi _ _ _ hr⟩
   |cT=>
    simp only[hc] at hl⊢
    exact hl.mono fun v h' ⟨h1,h2⟩=>⟨h1,hi _ _ _ h2⟩
  ·rw[if_neg hw] at hl⊢
   exact hi _ _ _ hl
theorem u5.eV{K:A1F→Act→Heap→Prop}{draw:Bool}{j:Nat}(hK:C7Y K):C7Y (u5 P ops b draw K j):=by
 intro dn dn' a h hs hl
 unfold u5 at hl⊢
 cases ho:ops[j]? with
 |none=>simp only[ho] at hl
 |some o=>
  simp only[ho] at hl⊢
  by_cases hw:want ops o a=true
  ·rw[if_pos hw] at hl⊢
   cases hc:v7 P o.op with
   |stat=>
    simp only[hc] at hl⊢
    obtain⟨v,hv,hr⟩:=hl
    exact⟨v,hv,hK _ _ _ _ hs hr⟩
   |read=>
    simp only[hc] at hl⊢
    obtain⟨v,hv,hr⟩:=hl
    refine⟨v,hv,hK _ _ _ _ (fun p hp=>?_) hr⟩
    cases hp with
    |head=>exact B4 ..
    |tail _ hp=>exact C3 _ (hs p hp)
   |cT=>
    simp only[hc] at hl⊢
    exact hl.mono fun v h' ⟨h1,h2⟩=>⟨fun hd i v' hi=>h1 hd i v' (hs _ hi),hK _ _ _ _ hs h2⟩
  ·rw[if_neg hw] at hl⊢
   exact hK _ _ _ _ hs hl
def A4W(P:Program)(ops:Array Oper)(b:Array Nat)(draw:Bool)(Φ:Act→Heap→Prop):A4s→A1F→Act→Heap→Prop
 |.done,_,a,h=>Φ a h
 |.q j t,dn,a,h=>u5 P ops b draw (A4W P ops b draw Φ t) j dn a h
 |.br js f,dn,a,h=>∀j,j∈js→u5 P ops b draw (A4W P ops b draw Φ (f j)) j dn a h
theorem A4W.eV{draw:Bool}:∀(t:A4s),C7Y (A4W P ops b draw Φ t)
 |.done=>fun _ _ _ _ _ hl=>hl
 |.q j t=>u5.eV (A4W.eV t)
 |.br js f=>fun dn dn' a h hs hl j hj=>u5.eV (A4W.eV (f j)) dn dn' a h hs (hl j hj)
theorem A4W.imp{Φ':Act→Heap→Prop}{draw:Bool}(hi:∀a h,Φ a h→Φ' a h):∀(t:A4s) (dn:A1F) (a:Act) (h:Heap),A4W P ops b draw Φ t dn a h→A4W P ops b draw Φ' t dn a h
 |.done,_,_,_,hl=>hi _ _ hl
 |.q j t,dn,a,h,hl=>u5.imp (A4W.imp hi t) hl
 |.br js f,dn,a,h,hl=>fun j hj=>u5.imp (A4W.imp hi (f j)) (hl j hj)
def YX(P:Program)(ops:Array Oper)(o:Oper)(a:Act)(h:Heap)(v:Value):Prop:=
 (want ops o a=true∧A2J P (execOp a.eval o) h v∧(v7 P o.op=.stat→Stat P (execOp a.eval o) v))∨(want ops o a=false∧v=undef)
def B3d:Cls→Bool
 |.read=>true
 |_=>false
def ext(P:Program)(ops:Array Oper)(j:Nat)(o:Oper)(a:Act)(v:Value)(dn:A1F):A1F:=
 match want ops o a&&B3d (v7 P o.op) with
 |true=>(j,v)::dn
 |false=>dn
theorem B9g{j:Nat}{o:Oper}{a:Act}{v:Value}{dn:A1F}{p:Nat×Value}:p∈ext P ops j o a v dn↔p∈dn∨((want ops o a&&B3d (v7 P o.op))=true∧p=(j,v)):=by
 unfold ext
 cases hh:want ops o a&&B3d (v7 P o.op) with
 |true=>
  simp only[D2]
  constructor
  ·rintro(h|h)
   ·exact .inr ⟨trivial,h⟩
   ·exact .inl h
  ·rintro(h|⟨-,h⟩)
   ·exact .inr h
   ·exact .inl h
 |false=>simp
theorem u5.quiet{K:A1F→Act→Heap→Prop}{draw:Bool}{j:Nat}{o:Oper}(ho:ops[j]? =some o)(hc:v7 P o.op≠ .cT){dn:A1F}{a:Act}{h:Heap}:
  u5 P ops b draw K j dn a h↔∃v,YX P ops o a h v∧K (ext P ops j o a v dn) (a.put o.dst v) h:=by
 conv=>lhs;unfold u5
 simp only[ho]
 by_cases hw:want ops o a=true
 ·rw[if_pos hw]
  cases bd:v7 P o.op with
  |stat=>
   simp only[YX,ext,bd,B3d,hw,Bool.and_false]
   constructor
   ·rintro⟨v,hv,hr⟩
    exact⟨v,.inl ⟨trivial,fun w _=>hv w,fun _=>hv⟩,hr⟩
   ·rintro⟨v,hv|hv,hr⟩
    ·exact⟨v,hv.2.2 trivial,hr⟩
    ·exact absurd hv.1 (by simp)
  |read=>
   simp only[YX,ext,bd,B3d,hw,Bool.and_true]
   constructor
   ·rintro⟨v,hv,hr⟩
    exact⟨v,.inl ⟨trivial,hv,fun hh=>by cases hh⟩,hr⟩
   ·rintro⟨v,hv|hv,hr⟩
    ·exact⟨v,hv.2.1,hr⟩
    ·exact absurd hv.1 (by simp)
  |cT=>exact absurd bd hc
 ·rw[if_neg hw]
  have jA:want ops o a=false:=by simpa using hw
  simp only[YX,ext,jA,J7]
  constructor
  ·intro hr
   exact⟨undef,.inr ⟨trivial,rfl⟩,hr⟩
  ·rintro⟨v,hv|hv,hr⟩
   ·exact absurd hv.1 (by simp)
   ·obtain⟨-,rfl⟩:=hv;exact hr
theorem B9V{o:Oper}{a:Act}{dst:Option Tmp}{v:Value}(h:∀d,dst=some d→d∉o.looksAt ops):want ops o (a.put dst v)=want ops o a:=wanted_put o a dst v h
theorem YX.congr{o:Oper}{a a':Act}{h:Heap}{v:Value}(he:execOp a'.eval o=execOp a.eval o)(hw:want ops o a'=want ops o a)(hy:YX P ops o a h v):YX P ops o a' h v:=by
 unfold YX at*
 rw[he,hw]
 exact hy
theorem u5.swap{K:A1F→Act→Heap→Prop}(hK:C7Y K){draw:Bool}{i j:Nat}{x y:Oper}(qV:draw=true)(hx:ops[i]? =some x)(hy:ops[j]? =some y)(lR:x.apart ops y=true)(qf:∀cs b,x.op≠ .select cs b)(qe:∀cs b,y.op≠ .select cs b)
  (kg:v7 P x.op≠ .cT)(hb:(b.getD j 0).testBit i=false)(fo:∀d,x.dst=some d→d∉x.looksAt ops){dn:A1F}{a:Act}{h:Heap}
  (eo:∀p,p∈dn→∀o,ops[p.1]? =some o→(∀cs b,o.op≠ .select cs b)∧∀d,x.dst=some d→d∉o.looksAt ops)
  (hl:u5 P ops b draw (u5 P ops b draw K j) i dn a h):u5 P ops b draw (u5 P ops b draw K i) j dn a h:=by
 obtain⟨h1,h2,h3⟩:=Oper.apart_spec lR
 obtain⟨v,hv,hl⟩:=(u5.quiet hx kg).1 hl
 have ey:execOp (a.put x.dst v).eval y=execOp a.eval y:=execOp_put y qe a x.dst v h1
 have wy:want ops y (a.put x.dst v)=want ops y a:=B9V h1
 have kx:∀u,execOp (a.put y.dst u).eval x=execOp a.eval x:=fun u=>execOp_put x qf a y.dst u h3
 have wx:∀u,want ops x (a.put y.dst u)=want ops x a:=fun u=>B9V h3
 have ee:∀u,(a.put x.dst v).put y.dst u=(a.put y.dst u).put x.dst v:=fun u=>Act.put_comm a v u h2
 by_cases uj:v7 P y.op=.cT
 ·unfold u5 at hl⊢
  simp only[hy] at hl⊢
  rw[wy] at hl
  by_cases hw:want ops y a=true
  ·rw[if_pos hw] at hl⊢
   simp only[uj] at hl⊢
   rw[ey] at hl
   refine hl.mono fun u h' ⟨vW,fr⟩=>⟨fun hd p v' hp xY=>?_,?_⟩
   ·have dp:(p,v')∈ext P ops i x a v dn:=by
     unfold ext;split
     ·exact C3 _ hp
     ·exact hp
    obtain⟨o,ho,hr⟩:=vW hd p v' dp xY
    obtain⟨tn,ay⟩:=eo _ hp o ho
    rw[ee u] at hr
    rw[execOp_put o tn (a.put y.dst u) x.dst v ay] at hr
    exact⟨o,ho,hr⟩
   ·refine(u5.quiet hx kg).2 ⟨v,?_,?_⟩
    ·rcases hv with⟨rO,fc,aa⟩|⟨rO,wY⟩
     ·refine .inl ⟨by rw[wx];exact rO,?_,fun hs=>by rw[kx];exact aa hs⟩
      cases bd:v7 P x.op with
      |stat=>rw[kx];exact fun w _=>aa bd w
      |cT=>exact absurd bd kg
      |read=>
       have dp:(i,v)∈ext P ops i x a v dn:=by
        unfold ext;rw[rO,bd];exact B4 ..
       obtain⟨o,ho,hr⟩:=vW qV i v dp hb
       rw[hx] at ho
       cases ho
       rw[ee u,execOp_put x qf (a.put y.dst u) x.dst v fo] at hr
       exact hr
     ·exact .inr ⟨by rw[wx];exact rO,wY⟩
    ·rw[←ee u]
     have:ext P ops i x (a.put y.dst u) v dn=ext P ops i x a v dn:=by unfold ext;rw[wx]
     rw[this]
     exact fr
  ·rw[if_neg hw] at hl⊢
   refine(u5.quiet hx kg).2 ⟨v,hv.congr (kx _) (wx _),?_⟩
   rw[←ee]
   have:ext P ops i x (a.put y.dst undef) v dn=ext P ops i x a v dn:=by unfold ext;rw[wx]
   rw[this]
   exact hl
 ·obtain⟨u,hu,hl⟩:=(u5.quiet hy uj).1 hl
  refine(u5.quiet hy uj).2 ⟨u,hu.congr ey.symm wy.symm,(u5.quiet hx kg).2 ⟨v,hv.congr (kx _) (wx _),?_⟩⟩
  rw[←ee u]
  refine hK _ _ _ _ (fun p hp=>?_) hl
  have e1:ext P ops i x (a.put y.dst u) v (ext P ops j y a u dn)=ext P ops i x a v (ext P ops j y a u dn):=by unfold ext;rw[wx]
  have e2:ext P ops j y (a.put x.dst v) u (ext P ops i x a v dn)=ext P ops j y a u (ext P ops i x a v dn):=by unfold ext;rw[wy]
  rw[e1] at hp
  rw[e2]
  rw[B9g,B9g] at hp⊢
  rcases hp with(hp|hp)|hp
  ·exact .inl (.inl hp)
  ·exact .inr hp
  ·exact .inl (.inr hp)
def C9e(P:Program)(ops:Array Oper)(b:Array Nat)(i j:Nat):Prop:=
 ∃x y,ops[i]? =some x∧ops[j]? =some y∧i≠j∧((b.getD j 0).testBit i=true∧(v7 P x.op=.read→∀d,y.dst=some d→d∉x.looksAt ops)∨
  (b.getD j 0).testBit i=false∧v7 P x.op≠ .cT∧x.apart ops y=true)
theorem B3G{x y:Oper}(h:B8P ops x y=true):∀d,y.dst=some d→d∉x.looksAt ops:=by
 intro d hd hm
 simp only[B8P,hd] at h
 simp[hm] at h
theorem A9o:∀{l:List Nat} {n:Nat},A5x n l=true→n∈l
 |t::l,n,h=>by
  simp only[A5x] at h
  cases hb:Nat.beq t n with
  |true=>rw[E3 hb];exact B4 ..
  |false=>simp only[hb] at h;exact C3 _ (A9o h)
theorem A1h{j:Nat}:∀{l:List Nat} {i:Nat},i∈A1y j l↔i∈l∧i≠j
 |[],i=>by simp[A1y]
 |x::l,i=>by
  simp only[A1y]
  cases hb:Nat.beq x j with
  |true=>
   have hx:=E3 hb
   subst hx
   simp only[A1h (l:=l),D2]
   constructor
   ·rintro⟨h1,h2⟩;exact⟨.inr h1,h2⟩
   ·rintro⟨h1|h1,h2⟩
    ·exact absurd h1 h2
    ·exact⟨h1,h2⟩
  |false=>
   have hx:x≠j:=Nat.ne_of_beq_eq_false hb
   simp only[D2,A1h (l:=l)]
   constructor
   ·rintro(h1|⟨h1,h2⟩)
    ·subst h1;exact⟨.inl rfl,hx⟩
    ·exact⟨.inr h1,h2⟩
   ·rintro⟨h1|h1,h2⟩
    ·exact .inl h1
    ·exact .inr ⟨h1,h2⟩
theorem A89{j:Nat}:∀{l:List Nat},l.Nodup→(A1y j l).Nodup
 |[],h=>h
 |x::l,h=>by
  rw[F4] at h
  simp only[A1y]
  cases hb:Nat.beq x j with
  |true=>exact A89 h.2
  |false=>rw[F4];exact⟨fun hm=>h.1 (A1h.1 hm).1,A89 h.2⟩
theorem B6u{j:Nat}:∀{l:List Nat},j∉l→A1y j l=l
 |[],_=>rfl
 |x::l,h=>by
  simp only[D2,not_or] at h
  simp only[A1y]
  cases hb:Nat.beq x j with
  |true=>exact absurd (E3 hb).symm h.1
  |false=>rw[B6u h.2]
theorem B2k{j:Nat}:∀{l:List Nat},l.Nodup→j∈l→(A1y j l).length+1=l.length
 |x::l,h,hm=>by
  rw[F4] at h
  simp only[A1y]
  cases hb:Nat.beq x j with
  |true=>
   have hx:=E3 hb
   subst hx
   rw[B6u h.1]
   rfl
  |false=>
   have hx:x≠j:=Nat.ne_of_beq_eq_false hb
   rcases D2.1 hm with e|hm
   ·exact absurd e.symm hx
   ·simp only[B7,B2k h.2 hm]
def B7d(P:Program)(ops:Array Oper)(b:Array Nat):A4s→List Nat→Prop
 |.done,R=>R=[]
 |.q j t,R=>(∃x,ops[j]? =some x∧v7 P x.op≠ .cT∧∀d,x.dst=some d→d∉x.looksAt ops)∧j∈R∧(∀i∈A1y j R,C9e P ops b j i)∧B7d P ops b t (A1y j R)
 |.br js f,R=>js≠[]∧(∀j∈js,j∈R∧(∃x,ops[j]? =some x∧v7 P x.op=.cT)∧B7d P ops b (f j) (A1y j R))∧∀i∈R,i∈js∨∃x∈R,(b.getD i 0).testBit x=true
theorem B14{j:Nat}{x:Oper}(hx:ops[j]? =some x):B15 P ops j=true↔v7 P x.op=.cT:=by
 have dP:ops.toList[j]? =some x:=by simpa using hx
 unfold B15
 simp only[dP]
 cases v7 P x.op<;>simp
theorem B0T:∀(t:A4s) (R:List Nat),B6d P ops b t R=true→B7d P ops b t R
 |.done,R,h=>by simpa[B6d,B7d] using h
 |.q j t,R,h=>by
  simp only[B6d,E9] at h
  obtain⟨h1,h2⟩:=h
  cases hx:ops.toList[j]? with
  |none=>simp only[hx] at h1;cases h1
  |some x=>
   have dP:ops[j]? =some x:=by simpa using hx
   simp only[hx,E9] at h1
   obtain⟨⟨⟨h3,h4⟩,h5⟩,h6⟩:=h1
   refine⟨⟨x,dP,fun hc=>?_,B3G h5⟩,A9o h3,fun i hi=>?_,B0T t _ h2⟩
   ·rw[(B14 dP).2 hc] at h4;cases h4
   ·have h7:=I8.1 h6 i hi
    cases hy:ops.toList[i]? with
    |none=>simp only[hy] at h7;cases h7
    |some y=>
     simp only[hy] at h7
     refine⟨x,y,dP,by simpa using hy,fun he=>(A1h.1 hi).2 he.symm,?_⟩
     unfold C5O at h7
     cases hb:(b.getD i 0).testBit j with
     |true=>
      simp only[hb] at h7
      refine .inl ⟨rfl,fun hr=>?_⟩
      simp only[hr] at h7
      exact B3G h7
     |false=>
      simp only[hb] at h7
      refine .inr ⟨rfl,?_,?_⟩
      ·intro hr;simp only[hr] at h7;cases h7
      ·cases hc:v7 P x.op<;>simp only[hc] at h7<;>first|exact h7|cases h7
 |.br js f,R,h=>by
  simp only[B6d,E9,I8] at h
  refine⟨fun e=>?_,fun j hj=>?_,fun i hi=>?_⟩
  ·have:=h.1.1;rw[e] at this;cases this
  ·obtain⟨⟨h1,h2⟩,h3⟩:=h.1.2 j hj
   refine⟨A9o h1,?_,B0T (f j) _ h3⟩
   cases hx:ops.toList[j]? with
   |none=>simp[B15,hx] at h2
   |some x=>exact⟨x,by simpa using hx,(B14 (by simpa using hx)).1 h2⟩
  ·have:=h.2 i hi
   rw[Bool.or_eq_true] at this
   rcases this with h1|h1
   ·exact .inl (A9o h1)
   ·obtain⟨x,hx,hb⟩:=List.any_eq_true.1 h1
    exact .inr ⟨x,hx,hb⟩
def C63(ops:Array Oper)(dn:A1F)(l:List Nat):Prop:=
 ∀p,p∈dn→∀o,ops[p.1]? =some o→∀k,k∈l→∀x,ops[k]? =some x→∀d,x.dst=some d→d∉o.looksAt ops
theorem A4W.pull(hs:Region.noSelect ops=true){i:Nat}:∀(t:A4s) (R:List Nat),B7d P ops b t R→i∈R→(∀x∈R,(b.getD i 0).testBit x=false)→
  ∃t' o,B7d P ops b t' (A1y i R)∧ops[i]? =some o∧(v7 P o.op=.read→∀k∈A1y i R,∀z,ops[k]? =some z→∀d,z.dst=some d→d∉o.looksAt ops)∧
   ∀(dn:A1F) (a:Act) (h:Heap),C63 ops dn R→A4W P ops b true Φ t dn a h→u5 P ops b true (A4W P ops b true Φ t') i dn a h
 |.done,R,hg,hi,_=>by rw[show R=[] from hg] at hi;cases hi
 |.br js f,R,hg,hi,hm=>by
  rcases hg.2.2 i hi with h1|⟨x,hx,hb⟩
  ·obtain⟨-,⟨o,ho,hc⟩,aY⟩:=hg.2.1 i h1
   exact⟨f i,o,aY,ho,(fun hr=>by rw[hc] at hr;cases hr),fun dn a h _ hl=>hl i h1⟩
  ·rw[hm x hx] at hb;cases hb
 |.q j t,R,hg,hi,hm=>by
  obtain⟨⟨x,hx,kg,fo⟩,rV,gl,vK⟩:=hg
  by_cases nS:i=j
  ·subst nS
   refine⟨t,x,vK,hx,fun hr k hk z hz d hd=>?_,fun dn a h _ hl=>hl⟩
   obtain⟨x1,z1,gA,dw,-,gm⟩:=gl k hk
   rw[hx] at gA;cases gA
   rw[hz] at dw;cases dw
   rcases gm with⟨-,eY⟩|⟨-,-,lR⟩
   ·exact eY hr d hd
   ·exact(Oper.apart_spec lR).2.2 d hd
  ·have kf:i∈A1y j R:=A1h.2 ⟨hi,nS⟩
   obtain⟨t',o,ua,ho,qi,dQ⟩:=A4W.pull hs t (A1y j R) vK kf (fun y hy=>hm y (A1h.1 hy).1)
   have ee:∀R:List Nat,A1y i (A1y j R)=A1y j (A1y i R):=by
    intro R
    induction R with
    |nil=>rfl
    |cons y R ih=>
     simp only[A1y]
     cases h1:Nat.beq y j<;>cases h2:Nat.beq y i<;>simp only[A1y,h1,h2,ih]
   obtain⟨x1,o1,gA,vn,bF,gm⟩:=gl i kf
   rw[hx] at gA;cases gA
   rw[ho] at vn;cases vn
   have lR:x.apart ops o=true:=by
    rcases gm with⟨hb,-⟩|⟨-,-,lR⟩
    ·rw[hm j rV] at hb;cases hb
    ·exact lR
   refine⟨.q j t',o,⟨⟨x,hx,kg,fo⟩,A1h.2 ⟨rV,fun e=>nS e.symm⟩,fun k hk=>gl k ?_,?_⟩,ho,fun hr k hk z hz d hd=>?_,fun dn a h eo hl=>?_⟩
   ·rw[←ee] at hk;exact(A1h.1 hk).1
   ·rw[←ee];exact ua
   ·by_cases vF:k=j
    ·subst vF
     rw[hx] at hz;cases hz
     exact(Oper.apart_spec lR).1 d hd
    ·exact qi hr k (by rw[ee];exact A1h.2 ⟨hk,vF⟩) z hz d hd
   ·refine u5.swap (A4W.eV t') rfl hx ho lR (fun cs bb=>Region.noSelect_spec hs j x cs bb hx) (fun cs bb=>Region.noSelect_spec hs i o cs bb ho) kg (hm j rV) fo (fun p hp o' fv=>⟨fun cs bb=>Region.noSelect_spec hs p.1 o' cs bb fv,fun d hd=>eo p hp o' fv j rV x hx d hd⟩) ?_
    obtain⟨v,hv,hq⟩:=(u5.quiet hx kg).1 hl
    refine(u5.quiet hx kg).2 ⟨v,hv,dQ _ _ _ ?_ hq⟩
    intro p ij o' fv k hk z hz d hd
    rcases B9g.1 ij with ij|⟨jX,rfl⟩
    ·exact eo p ij o' fv k (A1h.1 hk).1 z hz d hd
    ·rw[hx] at fv;cases fv
     have tw:v7 P x.op=.read:=by
      simp only[E9] at jX
      cases hc:v7 P x.op<;>simp[hc,B3d] at jX⊢
     obtain⟨x1,z1,gA,dw,-,gm⟩:=gl k hk
     rw[hx] at gA;cases gA
     rw[hz] at dw;cases dw
     rcases gm with⟨-,eY⟩|⟨-,-,uy⟩
     ·exact eY tw d hd
     ·exact(Oper.apart_spec uy).2.2 d hd
theorem B05{Qx:Exit→Act→World→Prop}{K:A1F→Act→Heap→Prop}{draw:Bool}{i:Nat}{dn:A1F}{a:Act}{w:World}(hl:u5 P ops b draw K i dn a w.heap):
  wpOp P ops Qx i (fun a' w'=>A0d w w'∧∃dn',(∀p,p∈dn'→p∈dn∨∃o,ops[i]? =some o∧v7 P o.op=.read∧p.1=i)∧K dn' a' w'.heap) a w:=by
 unfold u5 at hl
 cases ho:ops[i]? with
 |none=>simp only[ho] at hl
 |some o=>
  simp only[ho] at hl
  unfold wpOp
  simp only[ho]
  by_cases hw:want ops o a=true
  ·have jA:Region.wanted o (yielded ops a.tmps)=true:=hw
   rw[if_pos hw] at hl
   rw[if_pos jA]
   left
   unfold Oper.wp
   cases hc:v7 P o.op with
   |stat=>
    simp only[hc] at hl
    obtain⟨v,hv,hr⟩:=hl
    rw[hv w]
    exact⟨A0d.refl w,dn,fun p hp=>.inl hp,hr⟩
   |read=>
    simp only[hc] at hl
    obtain⟨v,hv,hr⟩:=hl
    rw[hv w rfl]
    refine⟨A0d.refl w,_,fun p hp=>?_,hr⟩
    cases hp with
    |head=>exact .inr ⟨o,rfl,hc,rfl⟩
    |tail _ hp=>exact .inl hp
   |cT=>
    simp only[hc] at hl
    have:=hl w rfl
    revert this
    cases(execOp a.eval o).run P w with
    |halt x w'=>exact fun hh=>hh.elim
    |ok n w'=>
     cases n<;>first
      |exact fun hh=>hh.elim
      |exact fun hh=>⟨hh.1,dn,fun p hp=>.inl hp,hh.2.2⟩
      |skip
     rename_i f args
     intro hh
     refine Calls.mono (hh.2 w' rfl) ?_
     rintro e w'' ⟨v,rfl,fY,h1,h2⟩
     exact⟨hh.1.trans fY,dn,fun p hp=>.inl hp,h2⟩
  ·have jA:¬Region.wanted o (yielded ops a.tmps)=true:=hw
   rw[if_neg hw] at hl
   rw[if_neg jA]
   exact⟨A0d.refl w,dn,fun p hp=>.inl hp,hl⟩
theorem B04{Qx:Exit→Act→World→Prop}{draw:Bool}{w0:World}(hQ:∀a w',A0d w0 w'→Φ a w'.heap→Qx .normal a w'):∀(l:List Nat) (dn:A1F) (a:Act) (w:World),A0d w0 w→
  A4W P ops b draw Φ (.ofList l) dn a w.heap→wpOps P ops Qx l a w
 |[],_,a,w,hs,hl=>hQ a w hs hl
 |i::t,dn,a,w,hs,hl=>by
  rw[wpOps_cons]
  exact wpOp_mono (fun a' w' ⟨h1,dn',_,h2⟩=>B04 hQ t dn' a' w' (hs.trans h1) h2) (B05 (K:=A4W P ops b draw Φ (.ofList t)) hl)
theorem B8r(acc:Array Nat):∀(l:List Edge) (s x:Nat),(l.foldl (fun s e=>if Region.binds .any e then s|||2 ^ e.on|||acc.getD e.on 0 else s) s).testBit x=true→
  s.testBit x=true∨∃e∈l,Region.binds .any e=true∧(e.on=x∨(acc.getD e.on 0).testBit x=true)
 |[],s,x,h=>.inl h
 |e::l,s,x,h=>by
  simp only[H3] at h
  rcases B8r acc l _ x h with h|⟨e',jl,hb,gm⟩
  ·by_cases hb:Region.binds .any e=true
   ·rw[if_pos hb] at h
    simp only[Nat.testBit_or,Bool.or_eq_true,Nat.testBit_two_pow] at h
    rcases h with(h|h)|h
    ·exact .inl h
    ·exact .inr ⟨e,B4 ..,hb,.inl (by simpa using h)⟩
    ·exact .inr ⟨e,B4 ..,hb,.inr h⟩
   ·rw[if_neg hb] at h
    exact .inl h
  ·exact .inr ⟨e',C3 _ jl,hb,gm⟩
def C65(ops:Array Oper)(acc:Array Nat):Prop:=∀(j x:Nat),(acc.getD j 0).testBit x=true→∃o:Oper,ops[j]? =some o∧∃e∈o.after,Region.binds .any e=true∧(e.on=x∨(acc.getD e.on 0).testBit x=true)
theorem C1l(ops:Array Oper):C65 ops (Region.before ops):=by
 unfold Region.before
 have:=Array.foldl_induction (as:=ops) (motive:=fun k acc=>acc.size=k∧C65 ops acc) (init:=(#[]:Array Nat))
  (f:=fun acc o=>acc.push (o.after.foldl (fun s e=>if Region.binds .any e then s|||2 ^ e.on|||acc.getD e.on 0 else s) 0)) ?_ ?_
 ·exact this.2
 ·exact⟨rfl,fun j x h=>by simp at h⟩
 ·rintro k acc ⟨hsz,hB⟩
  refine⟨by simp[hsz],fun j x h=>?_⟩
  have lift:∀(v:Nat) m,(acc.getD m 0).testBit x=true→((acc.push v).getD m 0).testBit x=true:=by
   intro v m hm
   have ah:m<acc.size:=by
    rcases S9 m acc.size with hh|hh
    ·exact hh
    ·simp[R5 hh] at hm
   have:(acc.push v)[m]? =acc[m]? :=by rw[M9,if_neg (by omega)]
   simp only[G2,this] at hm⊢
   exact hm
  rcases Nat.lt_trichotomy j acc.size with hj|hj|hj
  ·have hold:(acc.getD j 0).testBit x=true:=by
    simp only[G2] at h⊢
    rwa[M9,if_neg (by omega)] at h
   obtain⟨o,ho,e,he,hb,gm⟩:=hB j x hold
   exact⟨o,ho,e,he,hb,gm.imp id (lift _ _)⟩
  ·subst hj
   have hk:ops[acc.size]? =some ops[k]:=by rw[hsz];exact F7 k.2
   refine⟨_,hk,?_⟩
   simp only[G2,M9,if_true,Option.getD_some] at h
   rw[←Array.foldl_toList] at h
   rcases B8r acc _ 0 x (by simpa only[G2] using h) with h0|⟨e,he,hb,gm⟩
   ·simp at h0
   ·exact⟨e,by simpa using he,hb,gm.imp id (lift _ _)⟩
  ·simp only[G2] at h
   rw[R5 (by simp;omega)] at h
   simp at h
theorem C1m(h:C2V ops=true):(∀(j:Nat) (o:Oper),ops[j]? =some o→∀e∈o.after,Region.binds .any e=true→e.on<j)∧Region.noSelect ops=true:=by
 unfold C2V at h
 rw[I8] at h
 have key:∀(j:Nat) (o:Oper),ops[j]? =some o→(o.after.toList.all (fun e=> !(Region.binds .any e)||Nat.blt e.on j)&& !(match o.op with|.select .. =>true|_=>false))=true:=by
  intro j o ho
  refine h (o,j) ?_
  rw[List.mem_zipIdx_iff_getElem?]
  simpa using ho
 refine⟨fun j o ho e he hb=>?_,?_⟩
 ·have:=key j o ho
  simp only[E9,I8] at this
  have h1:=this.1 e (by simpa using he)
  rw[hb] at h1
  exact Nat.blt_eq.mp (by simpa using h1)
 ·unfold Region.noSelect
  rw[Array.all_eq_true_iff_forall_mem]
  intro o ho
  obtain⟨j,hj,rfl⟩:=Array.mem_iff_getElem.1 ho
  have:=key j ops[j] (F7 hj)
  simp only[E9] at this
  have h2:=this.2
  cases xq:ops[j].op<;>simp[xq] at h2⊢
theorem B7h{Qx:Exit→Act→World→Prop}{w0:World}(hQ:∀a w',A0d w0 w'→Φ a w'.heap→Qx .normal a w')(hB:C65 ops b)
  (bZ:∀(j:Nat) (o:Oper),ops[j]? =some o→∀e∈o.after,Region.binds .any e=true→e.on<j)(qw:Region.noSelect ops=true):
  ∀(n:Nat) (t:A4s) (l:List Nat) (listed:Array Bool) (dn:A1F) (a:Act) (w:World),l.length=n→A0d w0 w→l.Nodup→B7d P ops b t l→C63 ops dn l→
   listed.size=ops.size→(∀i,i∈l↔listed[i]? =some false)→(∀m,listed[m]? =some true→∀x,(b.getD m 0).testBit x=true→listed[x]? =some true)→
   A4W P ops b true Φ t dn a w.heap→wpAny P .any ops Qx n listed a w:=by
 intro n
 induction n with
 |zero=>
  intro t l listed dn a w hn hs au bC eo hsz al bd hl
  have:l=[]:=K6.1 hn
  subst this
  have ca:Φ a w.heap:=by
   cases t with
   |done=>exact hl
   |q j t=>exact absurd bC.2.1 (by simp)
   |br js f=>
    cases js with
    |nil=>exact absurd rfl bC.1
    |cons j js=>exact absurd (bC.2.1 j (B4 ..)).1 (by simp)
  refine⟨?_,hQ a w hs ca⟩
  rw[List.eq_nil_iff_forall_not_mem]
  intro i hi
  obtain⟨h0,o,ho,_⟩:=mem_ready.1 hi
  have ah:i<listed.size:=by rw[hsz];exact(F8.1 ho).1
  have:listed[i]? =some false:=by
   rw[F7 ah]
   simp only[G2,F7 ah,Option.getD_some] at h0
   rw[h0]
  exact absurd ((al i).2 this) (by simp)
 |succ n ih=>
  intro t l listed dn a w hn hs au bC eo hsz al bd hl
  have rdy:∀i,i∈Region.ready .any ops listed→i∈l∧∀x,x∈l→(b.getD i 0).testBit x=false:=by
   intro i hi
   obtain⟨h0,o,ho,da⟩:=mem_ready.1 hi
   have ah:i<listed.size:=by rw[hsz];exact(F8.1 ho).1
   have hf:listed[i]? =some false:=by
    rw[F7 ah]
    simp only[G2,F7 ah,Option.getD_some] at h0
    rw[h0]
   refine⟨(al i).2 hf,fun x hx=>?_⟩
   cases hb:(b.getD i 0).testBit x with
   |false=>rfl
   |true=>
    exfalso
    obtain⟨o',fv,e,he,rf,gm⟩:=hB i x hb
    rw[ho] at fv;cases fv
    have aP:=da e he rf
    have cI:listed[e.on]? =some true:=by
     simp only[G2] at aP
     cases hh:listed[e.on]? with
     |none=>rw[hh] at aP;cases aP
     |some z=>rw[hh] at aP;simp at aP;rw[aP]
    have uS:listed[x]? =some true:=by
     rcases gm with rfl|gm
     ·exact cI
     ·exact bd e.on cI x gm
    rw[(al x).1 hx] at uS
    cases uS
  refine⟨fun dq=>?_,fun i hi=>?_⟩
  ·
   exfalso
   have bF:l≠[]:=by intro h0;rw[h0] at hn;simp at hn
   obtain⟨m,hm,iR⟩:∃m,m∈l∧∀x,x∈l→m≤x:=by
    have qd:∃m,m∈l:=by cases l with
     |nil=>exact absurd rfl bF
     |cons m t=>exact⟨m,B4 ..⟩
    obtain⟨m,hm⟩:=qd
    exact⟨l.min bF,List.min_mem bF,fun x hx=>List.min_le_of_mem hx⟩
   have hf:=(al m).1 hm
   have ah:m<listed.size:=(F8.1 hf).1
   have vA:m<ops.size:=by rw[←hsz];exact ah
   have:m∈Region.ready .any ops listed:=by
    rw[mem_ready]
    refine⟨by simp[G2,hf],ops[m],F7 vA,fun e he rf=>?_⟩
    have bk:=bZ m ops[m] (F7 vA) e he rf
    have qS:e.on<listed.size:=by omega
    cases hh:listed[e.on]? with
    |none=>rw[F7 qS] at hh;cases hh
    |some z=>
     cases z with
     |true=>simp[G2,hh]
     |false=>have:=iR _ ((al e.on).2 hh);omega
   rw[dq] at this
   cases this
  ·obtain⟨cn,oM⟩:=rdy i hi
   have hf:=(al i).1 cn
   have ah:i<listed.size:=(F8.1 hf).1
   obtain⟨t',oi,qN,qv,tv,dQ⟩:=A4W.pull (Φ:=Φ) qw t l bC cn oM
   refine wpOp_mono ?_ (B05 (dQ dn a w.heap eo hl))
   rintro a' w' ⟨fY,dn',ug,gq⟩
   have hlen:=B2k au cn
   refine ih t' (A1y i l) (listed.setIfInBounds i true) dn' a' w' (by omega) (hs.trans fY) (A89 au) qN ?_ (by simp[hsz]) ?_ ?_ gq
   ·intro p hp o ho k hk z hz d hd
    rcases ug p hp with hp|⟨o',fv,jX,xp⟩
    ·exact eo p hp o ho k (A1h.1 hk).1 z hz d hd
    ·rw[xp] at ho
     rw[ho] at fv;cases fv
     rw[ho] at qv;cases qv
     exact tv jX k hk z hz d hd
   ·intro k
    rw[H6,A1h]
    by_cases tT:i=k
    ·subst tT
     simp only[if_true,ah]
     constructor
     ·rintro⟨-,h0⟩;exact absurd rfl h0
     ·intro hh;cases hh
    ·rw[if_neg tT,←al k]
     exact⟨fun h1=>h1.1,fun h1=>⟨h1,fun e=>tT e.symm⟩⟩
   ·intro m hm x hx
    rw[H6] at hm⊢
    by_cases vI:i=x
    ·subst vI;simp[ah]
    ·rw[if_neg vI]
     by_cases vJ:i=m
     ·subst vJ
      obtain⟨h0,o,ho,da⟩:=mem_ready.1 hi
      obtain⟨o',fv,e,he,rf,gm⟩:=hB i x hx
      rw[ho] at fv;cases fv
      have aP:=da e he rf
      have cI:listed[e.on]? =some true:=by
       simp only[G2] at aP
       cases hh:listed[e.on]? with
       |none=>rw[hh] at aP;cases aP
       |some z=>rw[hh] at aP;simp at aP;rw[aP]
      rcases gm with rfl|gm
      ·exact cI
      ·exact bd e.on cI x gm
     ·rw[if_neg vJ] at hm
      exact bd m hm x hx
end
end
section
def Ext(D:List Nat)(e e':Env):Prop:=∀t,t∉D→e'.get t=e.get t
theorem Ext.refl(D:List Nat)(e:Env):Ext D e e:=fun _ _=>rfl
theorem Ext.trans{D:List Nat}{a b c:Env}(h:Ext D a b)(k:Ext D b c):Ext D a c:=fun t ht=>(k t ht).trans (h t ht)
theorem Ext.mono{D D':List Nat}{a b:Env}(h:Ext D a b)(hs:∀t,t∈D→t∈D'):Ext D' a b:=fun t ht=>h t (fun hh=>ht (hs t hh))
theorem C3E(e:Env)(s:Nat)(v:Value)(t:Nat):Env.get (e.put (some s) v) t=if s=t then some v else e.get t:=by
 simp only[Env.put,Env.get]
 by_cases h:s=t
 ·subst h;simp
 ·rw[if_neg h]
  cases hb:Nat.beq s t with
  |true=>exact absurd (E3 hb) h
  |false=>rfl
theorem B5U:∀{l:List Nat} {n:Nat},A5x n l=true↔n∈l
 |[],n=>by simp[A5x]
 |t::ts,n=>by
  simp only[A5x,D2]
  cases hb:Nat.beq t n with
  |true=>simp[E3 hb]
  |false=>
   have bF:n≠t:=by intro h;subst h;simp at hb
   simp[bF,B5U]
theorem A7O(ts:List Nat):∀(e:Env) (t:Nat),(e.forget ts).get t=if t∈ts then none else e.get t
 |[],t=>by simp[Env.forget,Env.get]
 |(s,v)::e,t=>by
  have ih:=A7O ts e t
  simp only[Env.forget]
  cases hm:A5x s ts with
  |true=>
   simp only[Env.get]
   rw[ih]
   have hs:=B5U.1 hm
   by_cases ht:t∈ts
   ·rw[if_pos ht,if_pos ht]
   ·rw[if_neg ht,if_neg ht]
    cases hb:Nat.beq s t with
    |true=>rw[E3 hb] at hs;exact absurd hs ht
    |false=>rfl
  |false=>
   simp only[Env.get]
   have hs:s∉ts:=fun hh=>by rw[B5U.2 hh] at hm;cases hm
   cases hb:Nat.beq s t with
   |true=>have:=E3 hb;subst this;rw[if_neg hs]
   |false=>exact ih
theorem A0w.put{n:Nat}{e:Env}{a:Act}(h:A0w n e a){dst:Option Nat}(hd:∀s,dst=some s→s<n)(v:Value):A0w n (e.put dst v) (a.put dst v):=by
 cases dst with
 |none=>exact h
 |some s=>
  refine⟨by simp[Act.put,h.size],h.defers,fun t u ht=>?_⟩
  rw[C3E] at ht
  simp only[Act.put,H6]
  by_cases bL:s=t
  ·subst bL
   rw[if_pos rfl] at ht
   cases ht
   simp[h.size,hd s rfl]
  ·rw[if_neg bL] at ht⊢
   exact h.get t u ht
theorem A3e.put{d:Dec}{a:Act}(h:A3e d a){dst:Option Nat}(hd:∀s,dst=some s→d.get s=none)(v:Value):A3e d (a.put dst v):=by
 cases dst with
 |none=>exact h
 |some s=>
  intro t b ht
  simp only[Act.put,H6]
  by_cases bL:s=t
  ·subst bL;rw[hd s rfl] at ht;cases ht
  ·rw[if_neg bL];exact h t b ht
theorem A3e.cons{d:Dec}{a:Act}(h:A3e d a){s:Nat}{b:Bool}(hs:a.tmps[s]? =some (.bool b)):A3e ((s,b)::d) a:=by
 intro t c ht
 simp only[Dec.get] at ht
 cases hb:Nat.beq s t with
 |true=>rw[hb] at ht;cases ht;rw[←E3 hb];exact hs
 |false=>rw[hb] at ht;exact h t c ht
theorem Dec.fA{d:Dec}{s t:Nat}{b:Bool}(h:d.get t=none)(bF:s≠t):Dec.get ((s,b)::d) t=none:=by
 simp only[Dec.get]
 cases hb:Nat.beq s t with
 |true=>exact absurd (E3 hb) bF
 |false=>exact h
theorem B6e{e:Env}:∀{ss:List (Nat×Kind)} {vs:D0u},e.eF ss=some vs→vs.length=ss.length∧∀t v,Env.get (A33 ss vs) t=some v→e.get t=some v
 |[],vs,h=>by simp only[Env.eF,F6] at h;subst h;exact⟨rfl,fun t v hh=>by simp[A33,Env.get] at hh⟩
 |(s,kd)::r,vs,h=>by
  simp only[Env.eF] at h
  cases hs:e.get s with
  |none=>simp only[hs] at h;cases h
  |some u=>
   simp only[hs] at h
   cases hr:e.eF r with
   |none=>simp only[hr] at h;cases h
   |some us=>
    simp only[hr] at h
    cases h
    obtain⟨h1,h2⟩:=B6e hr
    refine⟨by simp[h1],fun t v hh=>?_⟩
    simp only[A33,Env.get] at hh
    cases hb:Nat.beq s t with
    |true=>rw[hb] at hh;cases hh;rw[←E3 hb];exact hs
    |false=>rw[hb] at hh;exact h2 t v hh
theorem get_append(a b:Env)(t:Nat):Env.get (a++b) t=match Env.get a t with|some v=>some v|none=>Env.get b t:=by
 induction a with
 |nil=>rfl
 |cons x a ih=>
  obtain⟨s,v⟩:=x
  simp only[G3,Env.get]
  cases hb:Nat.beq s t with
  |true=>rfl
  |false=>exact ih
theorem B03:∀(ss:List (Nat×Kind)) (vs:D0u) (t:Nat),t∉ss.map (·.1)→Env.get (A33 ss vs) t=none
 |[],vs,t,_=>rfl
 |_::_,[],t,_=>by simp[A33,Env.get]
 |(s,kd)::r,v::vs,t,h=>by
  simp only[B6,D2,not_or] at h
  simp only[A33,Env.get]
  cases hb:Nat.beq s t with
  |true=>exact absurd (E3 hb).symm h.1
  |false=>exact B03 r vs t h.2
theorem A8Y{e:Env}{ds:List Nat}{ss:List (Nat×Kind)}(jD:∀p∈ss,p.1∈ds)(x:r9 (ss.map (·.2))):Ext ds e (e.join ds ss x):=by
 intro t ht
 unfold Env.join
 rw[get_append,B03,A7O,if_neg ht]
 intro hm
 obtain⟨p,hp,rfl⟩:=E4.1 hm
 exact ht (jD p hp)
theorem C3W{e:Env}{ss:List (Nat×Kind)}{x:r9 (ss.map (·.2))}(h:e.dV ss=some x):∀t v,Env.get (A33 ss (r9.cC (ss.map (·.2)) x)) t=some v→e.get t=some v:=by
 unfold Env.dV at h
 cases hg:e.eF ss with
 |none=>simp only[hg] at h;cases h
 |some vs=>
  simp only[hg] at h
  have:=r9.bK _ _ _ h
  rw[←this]
  exact(B6e hg).2
theorem A0w.join{n:Nat}{e e':Env}{a:Act}(h:A0w n e' a){ds:List Nat}(hx:Ext ds e e'){ss:List (Nat×Kind)}{x:r9 (ss.map (·.2))}(ht:e'.dV ss=some x):A0w n (e.join ds ss x) a:=by
 refine⟨h.size,h.defers,fun t v hg=>?_⟩
 unfold Env.join at hg
 rw[get_append] at hg
 cases hz:Env.get (A33 ss (r9.cC (ss.map (·.2)) x)) t with
 |some u=>rw[hz] at hg;cases hg;exact h.get t v (C3W ht t v hz)
 |none=>
  rw[hz] at hg
  simp only at hg
  rw[A7O] at hg
  by_cases hm:t∈ds
  ·rw[if_pos hm] at hg;cases hg
  ·rw[if_neg hm] at hg
   exact h.get t v (by rw[hx t hm];exact hg)
section
variable {P:Program} {C:List Nat} {n:Nat} {ops:Array Oper} {draw:Bool} {ρ:Type} {Q:ρ→Heap→Prop}
def C64(P:Program)(ops:Array Oper)(draw:Bool)(dn:A1F):Prop:=draw=true→∀p,p∈dn→∃o,ops[p.1]? =some o∧v7 P o.op=.read
theorem A9d(hC:∀f,f∈C→A1D P f){bj:Nat}{e:Env}{d:Dec}{a:Act}{h:Heap}(hA:A0w n e a)(hD:A3e d a){m:HM ρ}:∀(dn:A1F),(∀p,p∈dn→∃o,ops[p.1]? =some o∧v7 P o.op=.read)→
  again P C ops bj e d dn m h Q→(∀i v,(i,v)∈dn→bj.testBit i=false→C3T P ops i v a h)∧m h Q
 |[],_,hd=>⟨fun _ _ hm=>(by cases hm),hd⟩
 |(i,v)::r,eo,hd=>by
  simp only[again] at hd
  cases hb:bj.testBit i with
  |true=>
   simp only[hb] at hd
   obtain⟨h1,h2⟩:=A9d hC hA hD r (fun p hp=>eo p (C3 _ hp)) hd
   refine⟨fun j u hm ra=>?_,h2⟩
   cases hm with
   |head=>rw[hb] at ra;cases ra
   |tail _ hm=>exact h1 j u hm ra
  |false=>
   simp only[hb] at hd
   obtain⟨o,ho,bd⟩:=eo (i,v) (B4 ..)
   have fv:ops.toList[i]? =some o:=by simpa using ho
   simp only[fv] at hd
   have:=B8y hC hA hD hd
   rw[bd] at this
   obtain⟨v',pY,tc,fr⟩:=this
   subst tc
   obtain⟨h1,h2⟩:=A9d hC hA hD r (fun p hp=>eo p (C3 _ hp)) fr
   refine⟨fun j u hm ra=>?_,h2⟩
   cases hm with
   |head=>exact⟨o,ho,pY⟩
   |tail _ hm=>exact h1 j u hm ra
theorem C2J(hC:∀f,f∈C→A1D P f){j:Nat}{o:Oper}{e:Env}{d:Dec}{dn dn':A1F}{kk:Env→A1F→HM ρ}{a:Act}{h:Heap}{K:A1F→Act→Heap→Prop}
  (ho:ops[j]? =some o)(hA:A0w n e a)(hD:A3e d a)(iV:∀s,o.dst=some s→s<n)(jO:∀s,o.dst=some s→d.get s=none)(eo:C64 P ops draw dn)(bf:draw=true→∀p,p∈dn'→p∈dn)
  (hw:want ops o a=true)
  (ih:∀v h' rE ly,(v7 P o.op=.stat→Stat P (execOp a.eval o) v)→kk (e.put o.dst v) rE h' Q→C64 P ops draw rE→(draw=true→∀p,p∈ly→p∈rE)→K ly (a.put o.dst v) h')
  (hd:B0W P C ops draw j o e d dn kk h Q):u5 P ops (Region.before ops) draw K j dn' a h:=by
 have hl:=C2I hC hA hD hd
 unfold u5
 simp only[ho]
 rw[if_pos hw]
 cases hc:v7 P o.op with
 |stat=>
  rw[hc] at hl
  simp only
  obtain⟨v,hv,hq⟩:=hl
  refine⟨v,hv,?_⟩
  cases gC:draw with
  |false=>subst gC;simp only at hq;exact ih v h dn dn' (fun _=>hv) hq eo bf
  |true=>subst gC;simp only[hc] at hq;exact ih v h dn dn' (fun _=>hv) hq eo bf
 |read=>
  rw[hc] at hl
  simp only
  obtain⟨v,hv,hq⟩:=hl
  refine⟨v,hv,?_⟩
  cases gC:draw with
  |false=>subst gC;simp only at hq;exact ih v h dn _ (fun hh=>by rw[hc] at hh;cases hh) hq eo (fun hh=>by cases hh)
  |true=>
   subst gC;simp only[hc] at hq
   refine ih v h _ _ (fun hh=>by rw[hc] at hh;cases hh) hq (fun _ p hp=>?_) (fun _ p hp=>?_)
   ·cases hp with
    |head=>exact⟨o,ho,hc⟩
    |tail _ hp=>exact eo rfl p hp
   ·cases hp with
    |head=>exact B4 ..
    |tail _ hp=>exact C3 _ (bf rfl p hp)
 |cT=>
  rw[hc] at hl
  simp only
  refine A3F.mono hl fun v h' hq=>?_
  cases gC:draw with
  |false=>subst gC;simp only at hq;exact⟨fun hh=>(by cases hh),ih v h' dn dn' (fun hh=>by rw[hc] at hh;cases hh) hq eo bf⟩
  |true=>
   subst gC;simp only[hc] at hq
   obtain⟨h1,h2⟩:=A9d hC (hA.put iV v) (hD.put jO v) dn (eo rfl) hq
   exact⟨fun _ i v' hi hb=>h1 i v' (bf rfl _ hi) hb,ih v h' dn dn' (fun hh=>by rw[hc] at hh;cases hh) h2 eo bf⟩
theorem u5.pass{K:A1F→Act→Heap→Prop}{b:Array Nat}{j:Nat}{o:Oper}{dn:A1F}{a:Act}{h:Heap}(ho:ops[j]? =some o)(hw:want ops o a=false)
  (hl:K dn (a.put o.dst undef) h):u5 P ops b draw K j dn a h:=by
 unfold u5
 simp only[ho,hw]
 simpa using hl
theorem A5V{d:Dec}{a:Act}(hD:A3e d a){x:Operand}{b:Bool}(h:B8f d x=some b):a.eval x=.bool b:=by
 cases x with
 |tmp t=>
  have:=hD t b h
  simp[Act.eval,this]
 |const c=>cases c<;>simp[B8f] at h;subst h;rfl
 |global g=>cases h
 |func f=>cases h
theorem C0H{d:Dec}{a:Act}(hD:A3e d a){o:Oper}{b:Bool}(h:C3x d o.op=some b):v7 P o.op=.stat∧∀w,(execOp a.eval o).run P w=.ok (.value (.bool b)) w:=by
 unfold C3x at h
 split at h
 ·rename_i x ho
  exact⟨by rw[ho];rfl,fun w=>by simp[execOp,ho,A5V hD h]⟩
 ·rename_i x ho
  exact⟨by rw[ho];rfl,fun w=>by simp[execOp,ho,A5V hD h]⟩
 ·rename_i t x y ho
  refine⟨by rw[ho];rfl,fun w=>?_⟩
  split at h
  ·rename_i hg
   have ht:=hD t true hg
   have hx:=A5V hD h
   have he:a.eval (.tmp t)=.bool true:=by simp[Act.eval,ht]
   simp[execOp,ho,he,asBool,hx]
  ·rename_i hg
   have ht:=hD t false hg
   have hx:=A5V hD h
   have he:a.eval (.tmp t)=.bool false:=by simp[Act.eval,ht]
   simp[execOp,ho,he,asBool,hx]
  ·cases h
 ·cases h
theorem C1e{d:Dec}{a:Act}(hD:A3e d a){o:Oper}(jO:∀s,o.dst=some s→d.get s=none)(ah:∀s,o.dst=some s→s<a.tmps.size){v:Value}(bL:v7 P o.op=.stat→Stat P (execOp a.eval o) v):
  A3e (A3z d o) (a.put o.dst v):=by
 have hp:=hD.put jO v
 unfold A3z
 cases hs:o.dst with
 |none=>rw[hs] at hp;exact hp
 |some s=>
  rw[hs] at hp
  simp only
  cases hl:C3x d o.op with
  |none=>exact hp
  |some b=>
   obtain⟨hc,hr⟩:=C0H (P:=P) hD hl
   have h1:=bL hc default
   rw[hr default] at h1
   cases h1
   exact hp.cons (by simp[Act.put,ah s hs])
theorem C3V{o:Oper}{a:Act}(h:o.guard=none):want ops o a=true:=by simp[want,Region.wanted,h]
theorem B7F{o:Oper}{a:Act}{g:Nat}{wnt b:Bool}{s:Nat}(h:o.guard=some (g,wnt))(hs:A4Z ops g=some s)(hb:a.tmps[s]? =some (.bool b)):want ops o a=(b==wnt):=by
 unfold A4Z at hs
 cases hg:ops.toList[g]? with
 |none=>simp only[hg] at hs;cases hs
 |some og=>
  simp only[hg] at hs
  have qN:ops[g]? =some og:=by simpa using hg
  simp only[want,Region.wanted,h,yielded,qN,N6,hs,hb]
  cases b<;>cases wnt<;>rfl
theorem C1B{o:Oper}{a:Act}{g:Nat}{wnt:Bool}{s:Nat}{vs:D0t}(h:o.guard=some (g,wnt))(hs:A4Z ops g=some s)(hb:a.tmps[s]? =some (.tuple vs)):want ops o a=false:=by
 unfold A4Z at hs
 cases hg:ops.toList[g]? with
 |none=>simp only[hg] at hs;cases hs
 |some og=>
  simp only[hg] at hs
  have qN:ops[g]? =some og:=by simpa using hg
  simp only[want,Region.wanted,h,yielded,qN,N6,hs,hb]
  cases wnt<;>rfl
theorem B4d(hC:∀f,f∈C→A1D P f){k:Env→Dec→A1F→HM ρ}{K:A1F→Act→Heap→Prop}(D:List Nat)(ou:∀o s,o∈ops→o.dst=some s→s∈D)(e0:Env)
  (ih:∀(e:Env) (d:Dec) (dn dn':A1F) (a:Act) (h:Heap),k e d dn h Q→Ext D e0 e→A0w n e a→A3e d a→C64 P ops draw dn→(draw=true→∀p,p∈dn'→p∈dn)→K dn' a h)
  (j:Nat)(e:Env)(d:Dec)(dn dn':A1F)(a:Act)(h:Heap)(hd:B40 P C n ops draw j e d dn k h Q)(hx:Ext D e0 e)(hA:A0w n e a)(iA:A3e d a)(eo:C64 P ops draw dn)(bf:draw=true→∀p,p∈dn'→p∈dn):
  u5 P ops (Region.before ops) draw K j dn' a h:=by
  simp only[B40] at hd
  cases ho:ops.toList[j]? with
  |none=>simp only[ho] at hd;exact hd.elim
  |some o=>
   simp only[ho] at hd
   have fv:ops[j]? =some o:=by simpa using ho
   have al:o∈ops:=Array.mem_of_getElem? fv
   cases iX:C6D n d o.dst with
   |false=>simp only[iX] at hd;exact hd.elim
   |true=>
   simp only[iX] at hd
   have iV:∀s,o.dst=some s→s<n:=by
    intro s hs
    rw[hs] at iX
    have gP:(Nat.blt s n&&(d.get s).isNone)=true:=iX
    rw[E9] at gP
    exact Nat.blt_eq.mp gP.1
   have jO:∀s,o.dst=some s→d.get s=none:=by
    intro s hs
    rw[hs] at iX
    have gP:(Nat.blt s n&&(d.get s).isNone)=true:=iX
    rw[E9] at gP
    exact Option.isNone_iff_eq_none.1 gP.2
   have nD:∀v,Ext D e0 (e.put o.dst v):=by
    intro v
    refine hx.trans fun t ht=>?_
    cases hs:o.dst with
    |none=>rfl
    |some s=>
     rw[C3E,if_neg]
     intro bL;subst bL;exact ht (ou o s al hs)
   have yF:Ext D e0 (e.forget o.dst.toList):=by
    refine hx.trans fun t ht=>?_
    rw[A7O,if_neg]
    intro hm
    cases hs:o.dst with
    |none=>rw[hs] at hm;exact absurd hm R1
    |some s=>rw[hs] at hm;have:=B8.1 hm;subst this;exact ht (ou o t al hs)
   have run:∀(d2:Dec),A3e d2 a→(∀s,o.dst=some s→d2.get s=none)→want ops o a=true→(B0W P C ops draw j o e d2 dn fun e' dn'=>k e' (A3z d2 o) dn') h Q→
     u5 P ops (Region.before ops) draw K j dn' a h:=by
    intro d2 iz lj hw hh
    exact C2J hC fv hA iz iV lj eo bf hw (fun v h' rE ly bL hh uf qa=>ih _ (A3z d2 o) rE ly _ h' hh (nD v) (hA.put iV v) (C1e (P:=P) iz lj (fun s hs=>by rw[hA.size];exact iV s hs) bL) uf qa) hh
   have skip:∀(d2:Dec),A3e d2 a→(∀s,o.dst=some s→d2.get s=none)→want ops o a=false→k (e.put o.dst undef) d2 dn h Q→
     u5 P ops (Region.before ops) draw K j dn' a h:=by
    intro d2 iz lj hw hh
    have:=ih _ d2 dn dn' _ h hh (nD undef) (hA.put iV undef) (iz.put lj undef) eo bf
    exact u5.pass fv hw this
   cases hg:o.guard with
   |none=>
    simp only[hg] at hd
    exact run d iA jO (C3V hg) hd
   |some gw=>
    obtain⟨g,wnt⟩:=gw
    simp only[hg] at hd
    cases hs:A4Z ops g with
    |none=>simp only[hs] at hd;exact hd.elim
    |some s=>
     simp only[hs] at hd
     cases uh:d.get s with
     |some b=>
      simp only[uh] at hd
      have hw:=B7F (ops:=ops) (a:=a) hg hs (iA s b uh)
      cases b<;>cases wnt<;>simp only at hd
      ·exact run d iA jO (by rw[hw];rfl) hd
      ·exact skip d iA jO (by rw[hw];rfl) hd
      ·exact skip d iA jO (by rw[hw];rfl) hd
      ·exact run d iA jO (by rw[hw];rfl) hd
     |none=>
      simp only[uh] at hd
      cases hh:C7B o.dst s with
      |true=>simp only[hh] at hd;exact hd.elim
      |false=>
      simp only[hh] at hd
      have bF:∀t,o.dst=some t→s≠t:=by
       intro t ht bL
       subst bL
       rw[ht] at hh
       simp[C7B] at hh
      cases oR:e.get s with
      |none=>simp only[oR] at hd;exact hd.elim
      |some u=>
       have oH:=hA.get s _ oR
       cases u<;>simp only[oR] at hd<;>first|exact hd.elim|exact skip d iA jO (C1B (ops:=ops) (a:=a) hg hs oH) hd|skip
       rename_i bb
       have hw:=B7F (ops:=ops) (a:=a) hg hs oH
       have lk:∀b',∀t,o.dst=some t→Dec.get ((s,b')::d) t=none:=fun b' t ht=>Dec.fA (jO t ht) (bF t ht)
       cases wnt<;>simp only at hd<;>cases bb
       ·exact run _ (iA.cons oH) (lk _) (by rw[hw];rfl) hd
       ·exact skip _ (iA.cons oH) (lk _) (by rw[hw];rfl) hd
       ·exact skip _ (iA.cons oH) (lk _) (by rw[hw];rfl) hd
       ·exact run _ (iA.cons oH) (lk _) (by rw[hw];rfl) hd
theorem C1u{h:Heap}:∀{l:List (HM ρ)},C7M l h Q→∀m∈l,m h Q
 |[m],hd,x,hx=>by rw[B8.1 hx];exact hd
 |m::y::r,hd,x,hx=>by
  have iW:m h Q∧C7M (y::r) h Q:=hd
  rcases D2.1 hx with rfl|hx
  ·exact iW.1
  ·exact C1u iW.2 x hx
theorem B2m(hC:∀f,f∈C→A1D P f){k:Env→HM ρ}(D:List Nat)(ou:∀o s,o∈ops→o.dst=some s→s∈D)(e0:Env):∀(t:A4s) (e:Env) (d:Dec) (dn dn':A1F) (a:Act) (h:Heap),
  C2G P C n ops draw t e d dn k h Q→Ext D e0 e→A0w n e a→A3e d a→C64 P ops draw dn→(draw=true→∀p,p∈dn'→p∈dn)→
  A4W P ops (Region.before ops) draw (fun a' h'=>∃e',A0w n e' a'∧Ext D e0 e'∧k e' h' Q) t dn' a h
 |.done,e,d,dn,dn',a,h,hd,hx,hA,_,_,_=>⟨e,hA,hx,hd⟩
 |.q j t,e,d,dn,dn',a,h,hd,hx,hA,iA,eo,bf=>B4d hC D ou e0 (B2m hC D ou e0 t) j e d dn dn' a h hd hx hA iA eo bf
 |.br js f,e,d,dn,dn',a,h,hd,hx,hA,iA,eo,bf=>fun j hj=>
  B4d hC D ou e0 (B2m hC D ou e0 (f j)) j e d dn dn' a h (C1u hd _ (B3 hj)) hx hA iA eo bf
end
end
section
def HW(P:Program)(c:Code)(a:Act)(h:Heap)(Ψ:Exit→Act→Heap→Prop):Prop:=∀w,w.heap=h→c.wp P (fun x a' w'=>A0d w w'∧Ψ x a' w'.heap) a w
section
variable {P:Program} {C:List Nat} {n:Nat} {live lc:List Nat} {rs:List ResultVar}
theorem B7p(hm:P.follows .mixedOrders=true){ops:Array Oper}{draw:Bool}{id:Nat}{a:Act}{h:Heap}{Ψ:Exit→Act→Heap→Prop}(ag:draw=true→B1N P ops (A6c P ops true)=true)
  (hl:A4W P ops (Region.before ops) draw (fun a' h'=>Ψ .normal a' h') (A6c P ops draw) [] a h):HW P (.region id ops draw) a h Ψ:=by
 intro w hw
 subst hw
 cases draw with
 |false=>
  exact wp_region (B04 (w0:=w) (fun a' w' hs hp=>⟨hs,hp⟩) (List.range ops.size) [] a w (A0d.refl w) hl)
 |true=>
  have ho:=ag rfl
  simp only[B1N,E9] at ho
  obtain⟨hb,hp⟩:=ho
  obtain⟨bZ,qw⟩:=C1m hb
  have bC:=B0T _ _ hp
  refine wp_region_any hm ?_
  have al:∀i,i∈List.range ops.size↔(Array.replicate ops.size false)[i]? =some false:=by
   intro i
   rw[R3]
   constructor
   ·intro hi;simp[hi]
   ·intro hi
    rcases S9 i ops.size with hh|hh
    ·exact hh
    ·simp[hh] at hi
  exact B7h (w0:=w) (fun a' w' hs hp=>⟨hs,hp⟩) (C1l ops) bZ qw ops.size (A6c P ops true) (List.range ops.size) (Array.replicate ops.size false) [] a {w with drawn:=w.drawn+1} (by simp) ⟨rfl,rfl,rfl⟩ List.nodup_range bC
   (fun p hp=>by cases hp) (by simp) al (fun m hm=>by
    rw[Array.getElem?_replicate] at hm
    split at hm<;>cases hm) hl
theorem B5J:∀(l:List Oper) (p:Nat×Kind),p∈A3Q P live l→p.1∈dstsOf l
 |[],p,h=>by cases h
 |o::l,p,h=>by
  have ih:=B5J l p
  have step:p∈A3Q P live l→p.1∈dstsOf (o::l):=fun hh=>by
   simp only[dstsOf]
   cases o.dst with
   |none=>exact ih hh
   |some s=>exact C3 _ (ih hh)
  simp only[A3Q] at h
  cases hg:o.guard with
  |some g=>simp only[hg] at h;exact step h
  |none=>
   simp only[hg] at h
   cases hs:o.dst with
   |none=>simp only[hs] at h;exact step h
   |some s=>
    simp only[hs] at h
    cases hm:A5x s live with
    |false=>simp only[hm] at h;exact step h
    |true=>
     simp only[hm] at h
     cases hk:kindOf P o.type with
     |none=>simp only[hk] at h;exact step h
     |some k=>
      simp only[hk] at h
      cases h with
      |head=>simp only[dstsOf,hs];exact B4 ..
      |tail _ hh=>exact step hh
theorem B6t:∀(l:List Oper) (o:Oper) (s:Nat),o∈l→o.dst=some s→s∈dstsOf l
 |[],_,_,h,_=>by cases h
 |x::l,o,s,h,hs=>by
  simp only[dstsOf]
  cases h with
  |head=>rw[hs];exact B4 ..
  |tail _ h=>
   have:=B6t l o s h hs
   cases x.dst with
   |none=>exact this
   |some t=>exact C3 _ this
theorem B4K(hm:P.follows .mixedOrders=true)(hC:∀f,f∈C→A1D P f){ρ:Type}{Q:ρ→Heap→Prop}{ops:Array Oper}{draw:Bool}{id:Nat}{e:Env}{k:Env→HM ρ}{a:Act}{h:Heap}{Ψ:Exit→Act→Heap→Prop}
  (hd:B3o P C n live ops draw e k h Q)(hA:A0w n e a)(hk:∀e' a' h',Ext (dstsOf ops.toList) e e'→A0w n e' a'→k e' h' Q→Ψ .normal a' h'):HW P (.region id ops draw) a h Ψ:=by
 unfold B3o at hd
 have lP:∀(o:Oper) (s:Nat),o∈ops→o.dst=some s→s∈dstsOf ops.toList:=fun o s ho hs=>B6t _ o s (by simpa using ho) hs
 have go:∀(hh:(draw=true→B1N P ops (A6c P ops true)=true)∧((match guarded ops.toList with
  |false=>C2G P C n ops draw (A6c P ops draw) e [] [] k
  |true=>(C2G P C n ops draw (A6c P ops draw) e [] [] fun e'=>B1G (e'.dV (A3Q P live ops.toList))).bind fun x=>k (e.join (dstsOf ops.toList) (A3Q P live ops.toList) x)) h Q)),HW P (.region id ops draw) a h Ψ:=by
  rintro⟨ag,hd⟩
  refine B7p hm ag ?_
  cases hg:guarded ops.toList with
  |false=>
   simp only[hg] at hd
   refine A4W.imp ?_ _ _ _ _ (B2m hC (dstsOf ops.toList) lP e _ e [] [] [] a h hd (Ext.refl _ _) hA (fun t b ht=>by cases ht) (fun _ p hp=>by cases hp) (fun _ p hp=>hp))
   rintro a' h' ⟨e',gD,hx,hq⟩
   exact hk e' a' h' hx gD hq
  |true=>
   simp only[hg] at hd
   refine A4W.imp ?_ _ _ _ _ (B2m hC (dstsOf ops.toList) lP e _ e [] [] [] a h hd (Ext.refl _ _) hA (fun t b ht=>by cases ht) (fun _ p hp=>by cases hp) (fun _ p hp=>hp))
   rintro a' h' ⟨e',gD,hx,hq⟩
   cases ht:e'.dV (A3Q P live ops.toList) with
   |none=>rw[ht] at hq;exact hq.elim
   |some x=>
    rw[ht] at hq
    exact hk _ a' h' (A8Y (fun p hp=>B5J _ p hp) x) (gD.join hx ht) hq
 cases draw with
 |false=>exact go ⟨fun hh=>(by cases hh),hd⟩
 |true=>
  cases ho:B1N P ops (A6c P ops true) with
  |false=>simp only[ho] at hd;exact hd.elim
  |true=>simp only[ho] at hd;exact go ⟨fun _=>ho,hd⟩
def B7O(a:Act):ResultVar→Sem Value
 |.tmp t=>pure (a.tmps.getD t undef)
 |.cell x t=>do loadVar t (←asAddr (a.tmps.getD x undef))
def C3Q(P:Program)(rs:List ResultVar)(a:Act)(h:Heap)(vs:D0u):Prop:=∀w,w.heap=h→(rs.mapM (B7O a)).run P w=.ok vs w
theorem A4P{ρ:Type}{Q:ρ→Heap→Prop}{e:Env}{a:Act}{h:Heap}(hA:A0w n e a):∀(rs:List ResultVar) (kk:D0u→HM ρ),B0V P e rs kk h Q→∃vs,C3Q P rs a h vs∧kk vs h Q
 |[],kk,hd=>⟨[],fun w _=>rfl,hd⟩
 |.tmp t::rs,kk,hd=>by
  simp only[B0V] at hd
  cases ht:e.get t with
  |none=>simp only[ht] at hd;exact hd.elim
  |some v=>
   simp only[ht] at hd
   obtain⟨vs,dm,hq⟩:=A4P hA rs _ hd
   refine⟨v::vs,fun w hw=>?_,hq⟩
   have ba:=hA.get t v ht
   rw[List.mapM_cons]
   simp[B7O,ba,dm w hw]
 |.cell x ty::rs,kk,hd=>by
  simp only[B0V] at hd
  cases ht:e.get x with
  |none=>simp only[ht] at hd;exact hd.elim
  |some u=>
   simp only[ht] at hd
   obtain⟨v,hv,hd⟩:=B0j hd
   obtain⟨vs,dm,hq⟩:=A4P hA rs _ hd
   refine⟨v::vs,fun w hw=>?_,hq⟩
   have ba:=hA.get x u ht
   rw[List.mapM_cons]
   have hl:=hv w hw
   have:(B7O a (.cell x ty)).run P w=.ok v w:=by
    cases u with
    |pointer p=>
     cases p with
     |some ad=>simpa[B7O,ba,asAddr,Instr.loadAt,Instr.sureAddr] using hl
     |none=>simp[Instr.loadAt,Instr.sureAddr] at hl
    |_=>simp[Instr.loadAt,Instr.sureAddr] at hl
   simp[this,dm w hw]
structure KOK(P:Program)(n:Nat)(rs:List ResultVar)(D:List Nat)(e:Env){ρ:Type}(k:KK ρ)(Q:ρ→Heap→Prop)(Ψ:Exit→Act→Heap→Prop):Prop where
 norm:∀e' a' h',Ext D e e'→A0w n e' a'→k.norm e' h' Q→Ψ .normal a' h'
 ret:∀a' h' vs r,a'.defers=[]→C3Q P rs a' h' vs→k.ret vs=some r→Q r h'→Ψ .ret a' h'
 bW:∀id g e' a' h' r,A1Y k.bW id=some g→Ext D e e'→A0w n e' a'→g e'=some r→Q r h'→Ψ (.exit id) a' h'
theorem KOK.at{D D':List Nat}{e e1:Env}{ρ:Type}{k:KK ρ}{Q:ρ→Heap→Prop}{Ψ:Exit→Act→Heap→Prop}(hk:KOK P n rs D e k Q Ψ)(hs:∀t,t∈D'→t∈D)(hx:Ext D e e1):KOK P n rs D' e1 k Q Ψ:=
 ⟨fun e' a' h' dP hA hq=>hk.norm e' a' h' (hx.trans (dP.mono hs)) hA hq,hk.ret,fun id g e' a' h' r hg dP hA he hq=>hk.bW id g e' a' h' r hg (hx.trans (dP.mono hs)) hA he hq⟩
theorem A2W{ρ:Type}{Q:ρ→Heap→Prop}{h:Heap}{o:Option ρ}(hd:B1G o h Q):∃r,o=some r∧Q r h:=by
 cases o with
 |none=>exact hd.elim
 |some r=>exact⟨r,rfl,hd⟩
theorem A87{ρ ρ':Type}{f:ρ→ρ'}:∀(l:List (Nat×(Env→Option ρ))) (id:Nat) (g:Env→Option ρ'),A1Y (A5h f l) id=some g→
  ∃g0,A1Y l id=some g0∧∀e r,g e=some r→∃r0,g0 e=some r0∧r=f r0
 |[],id,g,h=>by cases h
 |(t,g1)::d,id,g,h=>by
  simp only[A5h,A1Y] at h⊢
  cases hb:Nat.beq t id with
  |true=>
   simp only[hb] at h⊢
   cases h
   refine⟨g1,rfl,fun e r hr=>?_⟩
   cases hg:g1 e with
   |none=>simp only[hg] at hr;cases hr
   |some r0=>simp only[hg] at hr;cases hr;exact⟨r0,rfl,rfl⟩
  |false=>
   simp only[hb] at h⊢
   exact A87 d id g h
theorem A7U{β:Type}(x:Nat):∀(l:List (Nat×β)) (id:Nat) (g:β),A1Y (A9a x l) id=some g→id≠x∧A1Y l id=some g
 |[],_,_,h=>by cases h
 |(t,b)::d,id,g,h=>by
  simp only[A9a] at h
  cases hb:Nat.beq t x with
  |true=>
   simp only[hb] at h
   obtain⟨h1,h2⟩:=A7U x d id g h
   refine⟨h1,?_⟩
   simp only[A1Y]
   cases hc:Nat.beq t id with
   |true=>have:=E3 hb;have:=E3 hc;omega
   |false=>exact h2
  |false=>
   simp only[hb,A1Y] at h⊢
   cases hc:Nat.beq t id with
   |true=>
    simp only[hc] at h⊢
    refine⟨?_,h⟩
    have:=E3 hc
    intro he
    subst he;subst this
    simp at hb
   |false=>
    simp only[hc] at h⊢
    exact A7U x d id g h
theorem A56(e:Env):∀(l:List Nat) (p:Nat×Kind),p∈carried lc e l→p.1∈l
 |[],p,h=>by cases h
 |s::r,p,h=>by
  have ih:=A56 e r p
  simp only[carried] at h
  cases hm:A5x s r with
  |true=>simp only[hm] at h;exact C3 _ (ih h)
  |false=>
   simp only[hm] at h
   cases hl:A5x s lc with
   |false=>simp only[hl] at h;exact C3 _ (ih h)
   |true=>
    simp only[hl] at h
    cases hv:e.get s with
    |none=>simp only[hv] at h;exact C3 _ (ih h)
    |some v=>
     simp only[hv] at h
     cases hk:Kind.of v with
     |none=>simp only[hk] at h;exact C3 _ (ih h)
     |some k=>
      simp only[hk] at h
      cases h with
      |head=>exact B4 ..
      |tail _ hh=>exact C3 _ (ih hh)
def B17(ex:Option Nat)(Ψ:Exit→Act→Heap→Prop):Exit→Act→Heap→Prop
 |.exit id,a,h=>if ex=some id then Ψ .normal a h else Ψ (.exit id) a h
 |x,a,h=>Ψ x a h
theorem B37{ρ:Type}{Q:ρ→Heap→Prop}{outs:Bool}{ss:List (Nat×Kind)}{inner:(ρ':Type)→KK ρ'→HM ρ'}{ex:Option Nat}{e:Env}{ds:List Nat}{k:KK ρ}{h:Heap}{Ψ:Exit→Act→Heap→Prop}
  (jD:∀p∈ss,p.1∈ds)(hk:KOK P n rs ds e k Q Ψ)(hd:B39 outs ss inner ex e ds k h Q){R:Prop}
  (ed:∀(ρ':Type) (k':KK ρ') (Q':ρ'→Heap→Prop),inner ρ' k' h Q'→KOK P n rs ds e k' Q' (B17 ex Ψ)→R):R:=by
 unfold B39 at hd
 cases outs with
 |true=>
  simp only at hd
  refine ed _ _ _ hd ?_
  have gJ:∀e' a' h',Ext ds e e'→A0w n e' a'→∀r,(match e'.dV ss with|some x=>some (Sum.inl (β:=ρ) x)|none=>none)=some r→
    Sum.elim (fun x=>k.norm (e.join ds ss x)) X2 r h' Q→Ψ .normal a' h':=by
   intro e' a' h' hx hA r hr hq
   cases ht:e'.dV ss with
   |none=>rw[ht] at hr;cases hr
   |some x=>
    rw[ht] at hr;cases hr
    exact hk.norm _ a' h' (A8Y jD x) (hA.join hx ht) hq
  refine⟨fun e' a' h' hx hA hq=>?_,fun a' h' vs r iI fP hr hq=>?_,fun id g e' a' h' r hg hx hA hr hq=>?_⟩
  ·obtain⟨r,hr,hq⟩:=A2W hq
   exact gJ e' a' h' hx hA r hr hq
  ·simp only[B9k] at hr
   cases nQ:k.ret vs with
   |none=>simp only[nQ] at hr;cases hr
   |some r0=>simp only[nQ] at hr;cases hr;exact hk.ret a' h' vs r0 iI fP nQ hq
  ·have old:∀g0,A1Y (A5h (Sum.inr (α:=r9 (ss.map (·.2)))) k.bW) id=some g0→g0 e'=some r→Ψ (.exit id) a' h':=by
    intro g0 rW ig
    obtain⟨g1,h1,h2⟩:=A87 _ _ _ rW
    obtain⟨r0,h3,h4⟩:=h2 e' r ig
    subst h4
    exact hk.bW id g1 e' a' h' r0 h1 hx hA h3 hq
   cases ex with
   |none=>simp only[B17];rw[if_neg (by simp)];exact old g hg hr
   |some x=>
    simp only[A1Y] at hg
    simp only[B17]
    cases hb:Nat.beq x id with
    |true=>
     simp only[hb] at hg
     cases hg
     have:=E3 hb
     subst this
     rw[if_pos rfl]
     exact gJ e' a' h' hx hA r hr hq
    |false=>
     simp only[hb] at hg
     rw[if_neg (by intro hh;cases hh;simp at hb)]
     exact old g hg hr
 |false=>
  simp only at hd
  refine ed _ _ _ hd ?_
  have gJ:∀e' a' h',Ext ds e e'→A0w n e' a'→∀r,e'.dV ss=some r→k.norm (e.join ds ss r) h' Q→Ψ .normal a' h':=
   fun e' a' h' hx hA r ht hq=>hk.norm _ a' h' (A8Y jD r) (hA.join hx ht) hq
  refine⟨fun e' a' h' hx hA hq=>?_,fun a' h' vs r iI fP hr hq=>(by cases hr),fun id g e' a' h' r hg hx hA hr hq=>?_⟩
  ·obtain⟨r,hr,hq⟩:=A2W hq
   exact gJ e' a' h' hx hA r hr hq
  ·cases ex with
   |none=>cases hg
   |some x=>
    simp only[A1Y] at hg
    simp only[B17]
    cases hb:Nat.beq x id with
    |true=>
     simp only[hb] at hg
     cases hg
     have:=E3 hb
     subst this
     rw[if_pos rfl]
     exact gJ e' a' h' hx hA r hr hq
    |false=>simp only[hb] at hg;cases hg
theorem B9U{c:Code}{Q:Exit→Act→World→Prop}{σ:Type}(J:σ→Act→World→Prop)(μ:σ→World→Nat)(round:∀s a w,J s a w→c.wp P (Exit.then (fun a' w'=>∃s',J s' a' w'∧μ s' w'<μ s w) Q) a w)
  {s:σ}{a:Act}{w:World}(h0:J s a w):(Code.loop c).wp P Q a w:=by
 intro b k cs
 have key:∀m s a w,μ s w=m→J s a w→∃e a' w',Q e a' w'∧Arrives P (lone (b.at a (.code c:: .inLoop c::k)) cs w) b k cs e a' w':=by
  intro m
  induction m using Nat.strongRecOn with
  |_ m ih=>
   intro s a w hm hJ
   obtain⟨e,a1,w1,hq,gR⟩:=round s a w hJ b (.inLoop c::k) cs
   cases e with
   |normal=>
    obtain⟨s',oY,ah⟩:=hq
    obtain⟨e2,a2,w2,fe,rk⟩:=ih (μ s' w1) (hm▸ah) s' a1 w1 rfl oY
    exact⟨e2,a2,w2,fe,.of_steps (Steps.trans gR (.one step_inLoop)) rk⟩
   |exit id=>exact⟨_,a1,w1,hq,.pass (x:=.inLoop c) rfl (fun _ _=>.inl (by simp)) gR⟩
   |goto l=>exact⟨_,a1,w1,hq,.pass (x:=.inLoop c) rfl (fun _ _=>.inl (by simp)) gR⟩
   |ret=>exact⟨_,a1,w1,hq,.pass (x:=.inLoop c) rfl (fun _ _=>.inl (by simp)) gR⟩
   |panic ch=>exact⟨_,a1,w1,hq,.pass (x:=.inLoop c) rfl (fun _ _=>.inl (by simp)) gR⟩
   |outgrown=>exact⟨_,a1,w1,hq,.pass (x:=.inLoop c) rfl (fun _ _=>.inl (by simp)) gR⟩
 obtain⟨e,a',w',hq,gR⟩:=key _ s a w rfl h0
 exact⟨e,a',w',hq,.of_steps (.one step_loop) gR⟩
theorem C4R(hm:P.follows .mixedOrders=true)(hC:∀f,f∈C→A1D P f):∀(c:Code) (ρ:Type) (e:Env) (k:KK ρ) (h:Heap) (Q:ρ→Heap→Prop) (a:Act) (Ψ:Exit→Act→Heap→Prop),
  den P C n live lc rs c ρ e k h Q→A0w n e a→KOK P n rs (A2M c) e k Q Ψ→HW P c a h Ψ:=by
 intro c
 induction c with
 |skip=>
  intro ρ e k h Q a Ψ hd hA hk w hw
  subst hw
  exact wp_skip ⟨A0d.refl w,hk.norm e a _ (Ext.refl _ _) hA hd⟩
 |region id ops draw=>
  intro ρ e k h Q a Ψ hd hA hk
  exact B4K hm hC hd hA hk.norm
 |seq x y ihx ihy=>
  intro ρ e k h Q a Ψ hd hA hk
  have h1:=ihx ρ e {k with norm:=fun e'=>den P C n live lc rs y ρ e' k} h Q a (fun ex a' h'=>match ex with|.normal=>HW P y a' h' Ψ|ex=>Ψ ex a' h') hd hA
   ⟨fun e' a' h' hx gD hq=>ihy ρ e' k h' Q a' Ψ hq gD (hk.at (fun t ht=>G6 _ ht) (hx.mono fun t ht=>K9 _ ht)),
    fun a' h' vs r iI fP hr hq=>hk.ret a' h' vs r iI fP hr hq,
    fun id g e' a' h' r hg hx gD hr hq=>hk.bW id g e' a' h' r hg (hx.mono fun t ht=>K9 _ ht) gD hr hq⟩
  intro w hw
  refine wp_seq (wp_mono (h1 w hw) ?_)
  rintro ex a' w' ⟨hs,hq⟩
  cases ex with
  |normal=>exact wp_mono (hq w' rfl) fun yS a2 w2 ⟨ae,fe⟩=>⟨hs.trans ae,fe⟩
  |exit id=>exact⟨hs,hq⟩
  |goto l=>exact⟨hs,hq⟩
  |ret=>exact⟨hs,hq⟩
  |panic ch=>exact⟨hs,hq⟩
  |outgrown=>exact⟨hs,hq⟩
 |cond c x y ihx ihy=>
  intro ρ e k h Q a Ψ hd hA hk
  simp only[den] at hd
  cases hc:e.ev c with
  |none=>simp only[hc] at hd;exact hd.elim
  |some v=>
   cases v<;>simp only[hc] at hd<;>try exact hd.elim
   rename_i t
   have oQ:=hA.ev hc
   have inner:∀(ρ':Type) (k':KK ρ') (Q':ρ'→Heap→Prop),A1v t (den P C n live lc rs x ρ' e k') (den P C n live lc rs y ρ' e k') h Q'→KOK P n rs (A2M x++A2M y) e k' Q' Ψ→HW P (.cond c x y) a h Ψ:=by
    intro ρ' k' Q' hd hk w hw
    refine wp_cond oQ ?_
    simp only[A1v] at hd
    cases t with
    |true=>
     rw[if_pos rfl] at hd⊢
     exact ihx ρ' e k' h Q' a Ψ hd hA (hk.at (fun t ht=>K9 _ ht) (Ext.refl _ _)) w hw
    |false=>
     rw[if_neg (by simp)] at hd⊢
     exact ihy ρ' e k' h Q' a Ψ hd hA (hk.at (fun t ht=>G6 _ ht) (Ext.refl _ _)) w hw
   cases hn:A3B x&&A3B y with
   |false=>simp only[hn] at hd;exact inner ρ k Q hd hk
   |true=>
    simp only[hn] at hd
    have e0:B17 none Ψ=Ψ:=by
     funext ex a' h'
     cases ex<;>simp[B17]
    exact B37 (fun p hp=>A56 e _ p hp) hk hd (fun ρ' k' Q' hi gX=>inner ρ' k' Q' hi (by rw[e0] at gX;exact gX))
 |block id x ih=>
  intro ρ e k h Q a Ψ hd hA hk
  have fin:HW P x a h (B17 (some id) Ψ)→HW P (.block id x) a h Ψ:=by
   intro hx w hw
   refine wp_block (wp_mono (hx w hw) ?_)
   rintro ex a' w' ⟨hs,hq⟩
   cases ex with
   |exit id'=>
    simp only[B17] at hq
    simp only[Exit.inBlock]
    by_cases hid:id'=id
    ·subst hid;rw[if_pos rfl] at hq⊢;exact⟨hs,hq⟩
    ·rw[if_neg (by intro hh;cases hh;exact hid rfl)] at hq
     rw[if_neg hid]
     exact⟨hs,hq⟩
   |normal=>exact⟨hs,hq⟩
   |goto l=>exact⟨hs,hq⟩
   |ret=>exact⟨hs,hq⟩
   |panic ch=>exact⟨hs,hq⟩
   |outgrown=>exact⟨hs,hq⟩
  simp only[den] at hd
  cases hx:A3B.canExit id x with
  |true=>
   simp only[hx] at hd
   exact B37 (fun p hp=>A56 e _ p hp) hk hd (fun ρ' k' Q' hi gX=>fin (ih ρ' e k' h Q' a _ hi hA gX))
  |false=>
   simp only[hx] at hd
   refine fin (ih ρ e _ h Q a _ hd hA ⟨hk.norm,hk.ret,fun id' g e' a' h' r hg hx gD hr hq=>?_⟩)
   obtain⟨h1,h2⟩:=A7U id _ _ _ hg
   simp only[B17]
   rw[if_neg (by intro hh;cases hh;exact h1 rfl)]
   exact hk.bW id' g e' a' h' r h2 hx gD hr hq
 |loop x ih=>
  intro ρ e k h Q a Ψ hd hA hk
  simp only[den] at hd
  cases ht:e.dV (carried lc e (A2M x)) with
  |none=>simp only[ht] at hd;exact hd.elim
  |some s0=>
   simp only[ht] at hd
   obtain⟨I,μ,hI,nJ⟩:=hd
   have jD:∀p∈carried lc e (A2M x),p.1∈A2M x:=fun p hp=>A56 e _ p hp
   intro w0 jW
   refine B9U (J:=fun y a w=>A0d w0 w∧A0w n (e.join (A2M x) (carried lc e (A2M x)) y) a∧I y w.heap) (μ:=fun y w=>μ y w.heap) ?_ (s:=s0) ⟨A0d.refl _,hA.join (Ext.refl _ _) ht,by rw[jW];exact hI⟩
   rintro y a1 w1 ⟨aa,jr,uG⟩
   have hb:=nJ y w1.heap uG
   have:=ih _ _ _ w1.heap _ a1 (fun ex a' h'=>match ex with
    |.normal=>∃s',A0w n (e.join (A2M x) (carried lc e (A2M x)) s') a'∧I s' h'∧μ s' h'<μ y w1.heap
    |ex=>Ψ ex a' h') hb jr ⟨fun e' a' h' hx gD hq=>?_,fun a' h' vs r iI fP hr hq=>?_,fun id g e' a' h' r hg hx gD hr hq=>?_⟩
   ·refine wp_mono (this w1 rfl) ?_
    rintro ex a' w' ⟨hs,hq⟩
    cases ex with
    |normal=>
     obtain⟨s',h1,h2,h3⟩:=hq
     exact⟨s',⟨aa.trans hs,h1,h2⟩,h3⟩
    |exit id=>exact⟨aa.trans hs,hq⟩
    |goto l=>exact⟨aa.trans hs,hq⟩
    |ret=>exact⟨aa.trans hs,hq⟩
    |panic ch=>exact⟨aa.trans hs,hq⟩
    |outgrown=>exact⟨aa.trans hs,hq⟩
   ·obtain⟨r,hr,hq⟩:=A2W hq
    cases th:e'.dV (carried lc e (A2M x)) with
    |none=>rw[th] at hr;cases hr
    |some z=>
     rw[th] at hr;cases hr
     exact⟨z,gD.join ((A8Y jD y).trans hx) th,hq.1,hq.2⟩
   ·simp only[B9k] at hr
    cases nQ:k.ret vs with
    |none=>simp only[nQ] at hr;cases hr
    |some r0=>simp only[nQ] at hr;cases hr;exact hk.ret a' h' vs r0 iI fP nQ hq
   ·obtain⟨g1,h1,h2⟩:=A87 _ _ _ hg
    obtain⟨r0,h3,h4⟩:=h2 e' r hr
    subst h4
    exact hk.bW id g1 e' a' h' r0 h1 ((A8Y jD y).trans hx) gD h3 hq
 |exit id=>
  intro ρ e k h Q a Ψ hd hA hk w hw
  subst hw
  simp only[den] at hd
  cases hg:A1Y k.bW id with
  |none=>simp only[hg] at hd;exact hd.elim
  |some g=>
   simp only[hg] at hd
   obtain⟨r,hr,hq⟩:=A2W hd
   exact wp_exit ⟨A0d.refl w,hk.bW id g e a _ r hg (Ext.refl _ _) hA hr hq⟩
 |ret=>
  intro ρ e k h Q a Ψ hd hA hk w hw
  subst hw
  simp only[den] at hd
  obtain⟨vs,dm,hq⟩:=A4P hA rs _ hd
  obtain⟨r,hr,hq⟩:=A2W hq
  exact wp_ret ⟨A0d.refl w,hk.ret a _ vs r hA.defers dm hr hq⟩
 |_=>intro ρ e k h Q a Ψ hd hA hk;exact hd.elim
def C5Q:D0u→Value
 |[v]=>v
 |vs=>.tuple vs.toArray
def packed(ks:List Kind)(x:r9 ks):Value:=C5Q (r9.cC ks x)
theorem C0h{fn:Func}{a:Act}{w:World}{vs:D0u}(h:C3Q P fn.results.toList a w.heap vs):(results fn a.tmps).run P w=.ok (C5Q vs) w:=by
 have hm:(fn.results.mapM (B7O a)).run P w=.ok vs.toArray w:=by
  rw[Array.mapM_eq_mapM_toList]
  simp only[Sem.run_map]
  rw[h w rfl]
  rfl
 have e1:results fn a.tmps=(do let vs←fn.results.mapM (B7O a);pure (if h:vs.size=1 then vs[0] else .tuple vs)):=by
  unfold results
  congr 1
 rw[e1]
 simp only[Sem.run_bind,hm,Result.andThen_ok,Sem.run_pure]
 congr 1
 match vs with
 |[]=>rfl
 |[v]=>rfl
 |u::v::r=>rfl
theorem C0X:∀(args:D0u) (i t:Nat) (v:Value),Env.get ((args.zipIdx i).map fun(v,i)=>(i,v)) t=some v→i≤t∧args[t-i]? =some v
 |[],_,_,_,h=>by cases h
 |x::args,i,t,v,h=>by
  simp only[List.zipIdx_cons,B6,Env.get] at h
  cases hb:Nat.beq i t with
  |true=>
   rw[hb] at h
   have:=E3 hb
   subst this
   cases h
   simp
  |false=>
   rw[hb] at h
   obtain⟨h1,h2⟩:=C0X args (i+1) t v h
   refine⟨by omega,?_⟩
   rw[show t-i=(t-(i+1))+1 from by omega]
   simpa using h2
theorem B2p{f:FuncId}{fn:Func}{ks:List Kind}{args:D0u}{h:Heap}{Q:Value→Heap→Prop}(hf:P.funcs[f]? =some fn)(hb:fn.body.isSome=true)(hn:fn.ntmps=n)(hlen:Nat.ble args.length n=true)
  (hC:∀f,f∈C→A1D P f)(hm:P.follows .mixedOrders=true)(hd:C6y P C n live lc fn.results.toList ks (B6V fn) args h fun x h'=>Q (packed ks x) h'):V4 P f args.toArray h Q:=by
 obtain⟨c,hc⟩:=Option.isSome_iff_exists.1 hb
 have qZ:B6V fn=c:=by simp[B6V,hc]
 rw[qZ] at hd
 intro w hw
 subst hw
 refine calls_of_wp hf hc ?_
 have hle:=O6 hlen
 have hA:A0w n (args.zipIdx.map fun(v,i)=>(i,v)) {tmps:=args.toArray++Array.replicate (fn.ntmps-args.toArray.size) undef,defers:=[]}:=by
  refine⟨by simp[hn];omega,rfl,fun t v ht=>?_⟩
  obtain⟨-,h2⟩:=C0X args 0 t v ht
  simp only[Nat.sub_zero] at h2
  have ah:t<args.length:=by
   rcases S9 t args.length with hh|hh
   ·exact hh
   ·rw[List.getElem?_eq_none hh] at h2;cases h2
  simp[Array.getElem?_append,ah,h2]
  rw[B0 ah] at h2
  exact Option.some.inj h2
 have ca:∀(a':Act) (h':Heap) (vs:D0u) (r:r9 ks),a'.defers=[]→C3Q P fn.results.toList a' h' vs→r9.get ks vs=some r→Q (packed ks r) h'→
   a'.defers=[]∧∃v,(∀w',w'.heap=h'→(results fn a'.tmps).run P w'=.ok v w')∧Q v h':=by
  intro a' h' vs r iI fP hr hq
  refine⟨iI,C5Q vs,fun w' jA=>by subst jA;exact C0h fP,?_⟩
  have:=r9.bK _ _ _ hr
  rw[this];exact hq
 have nH:=C4R (live:=live) (lc:=lc) (rs:=fn.results.toList) hm hC c (r9 ks) _ _ w.heap _ _
  (fun ex a' h'=>match ex with
   |.normal=>a'.defers=[]∧∃v,(∀w',w'.heap=h'→(results fn a'.tmps).run P w'=.ok v w')∧Q v h'
   |.ret=>a'.defers=[]∧∃v,(∀w',w'.heap=h'→(results fn a'.tmps).run P w'=.ok v w')∧Q v h'
   |_=>False) hd hA
  ⟨fun e' a' h' hx gD hq=>by
   obtain⟨vs,dm,hq⟩:=A4P gD _ _ hq
   obtain⟨r,hr,hq⟩:=A2W hq
   exact ca a' h' vs r gD.defers dm hr hq,
   fun a' h' vs r iI fP hr hq=>ca a' h' vs r iI fP hr hq,
   fun id g e' a' h' r hg=>by cases hg⟩
 refine wp_mono (nH w rfl) ?_
 rintro ex a' w' ⟨hs,hq⟩
 cases ex with
 |normal=>
  obtain⟨iI,v,hv,hq⟩:=hq
  exact⟨iI,v,hv w' rfl,v,rfl,hs,hq⟩
 |ret=>
  obtain⟨iI,v,hv,hq⟩:=hq
  exact⟨iI,v,hv w' rfl,v,rfl,hs,hq⟩
 |exit id=>exact hq.elim
 |goto l=>exact hq.elim
 |panic ch=>exact hq.elim
 |outgrown=>exact hq.elim
end
end
end Go.H