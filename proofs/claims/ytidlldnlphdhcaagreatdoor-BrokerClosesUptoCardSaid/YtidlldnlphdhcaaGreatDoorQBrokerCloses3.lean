/-
  Our texts, packed by program.
-/
import Derived.Test.YtidlldnlphdhcaaGreatDoorQBrokerCloses2
import Derived.Lib.Split
import Derived.Lib.SplitLaws
import Derived.Lib.IndexBytes
import Derived.Shelf.Strings.Split
import Derived.Shelf.Strings.Count
import Derived.Shelf.SlIterI.Nil
import Derived.Shelf.SortM.Plain
import Derived.Shelf.SortM.SortNone
import Derived.Shelf.SlIter.Nil
import Derived.Test.YtidlldnlphdhcaaGreatDoorRows
import Derived.Test.YtidlldnlphdhcaaGreatDoorChecked
import Derived.Shelf.Vars
import Derived.ProofKit
import Derived.LaidMore
import Derived.LaidHandle
import Derived.Stop.Joined
import Derived.Lib.LaidU8T
import Derived.PinnedBridge
import Derived.Shelf.Strings.OnBuilder
import Derived.Sort.Walk0
import Derived.WalkKit
import Derived.StillTailTactics
import Derived.Deep.QuietTactic
import Derived.Shelf.SlicesG.Cmp
import Derived.Shelf.Small.Strs
import Derived.Sort.Row
import Derived.Sort.Grow
import Derived.Shelf.SlSortCmp.NoneTotal
set_option linter.unusedSectionVars false
set_option linter.unusedSimpArgs false
set_option linter.unusedVariables false
set_option maxHeartbeats 16000000
set_option maxRecDepth 100000
set_option synthInstance.maxSize 100000
set_option synthInstance.maxHeartbeats 400000
namespace Go.Proofs.YtidlldnlphdhcaaGreatDoor
open Go.H
open Go.Proofs.Tryz
open Go.H Go.Proofs Go.Lib
theorem B3R(c:UInt8):∀(x r:List UInt8),c∉x→indexByte (x++c::r) c=x.length
 |[],r,_=>by simp[indexByte]
 |b::x,r,h=>by
  simp only[D3,not_or] at h
  have hb:(b==c)=false:=by simpa using fun e=>h.1 e.symm
  have ih:=B3R c x r h.2
  simp only[G5,indexByte,hb,ih]
  have:¬(((x.length:Nat):Int)== -1)=true:=by simp
  simp only[H7,if_false,if_neg this,B8]
  omega
theorem B1L(c:UInt8):∀(x:List UInt8),c∉x→indexByte x c= -1
 |[],_=>rfl
 |b::x,h=>by
  simp only[D3,not_or] at h
  have hb:(b==c)=false:=by simpa using fun e=>h.1 e.symm
  simp[indexByte,hb,B1L c x h.2]
theorem C7q(c:UInt8)(x r:List UInt8)(h:c∉x):index (x++c::r) [c]=x.length:=by rw[index_one];exact B3R c x r h
theorem C5o(c:UInt8)(x:List UInt8)(h:c∉x):index x [c]= -1:=by rw[index_one];exact B1L c x h
theorem B9w(c:UInt8)(x r:List UInt8)(k:Nat)(h:c∉x):splitK [c] 0 (k+1) (x++c::r)=x::splitK [c] 0 k r:=by
 have hi:=C7q c x r h
 have hn:¬(index (x++c::r) [c]== -1)=true:=by rw[hi];simp
 simp only[splitK,if_neg hn,hi]
 congr 1
 all_goals simp
theorem B8f(c:UInt8)(x:List UInt8)(k:Nat)(h:c∉x):splitK [c] 0 k x=[x]:=by
 cases k with
 |zero=>rfl
 |succ k=>simp[splitK,C5o c x h]
theorem C0D(c:UInt8)(x r:List UInt8)(h:c∉x):count (x++c::r) [c]=1+count r [c]:=by
 rw[count_hit (by simp) (C7q c x r h)]
 simp
theorem B9c(c:UInt8)(x:List UInt8)(h:c∉x):count x [c]=0:=count_miss (C5o c x h)
def lev(c:UInt8):List UInt8→List UInt8→List (List UInt8)
 |x,[]=>[x]
 |x,b::r=>if b=c then x::lev c [] r else lev c (x++[b]) r
theorem B2K(c:UInt8):∀(r x:List UInt8),c∉x→splitK [c] 0 (count (x++r) [c]) (x++r)=lev c x r
 |[],x,h=>by
  rw[C1,B9c c x h,B8f c x _ h]
  rfl
 |b::r,x,h=>by
  by_cases hb:b=c
  ·subst hb
   rw[C0D b x r h,Nat.add_comm,B9w b x r _ h]
   have ih:=B2K b r [] (by simp)
   rw[F2] at ih
   rw[ih]
   simp[lev]
  ·have ih:=B2K c r (x++[b]) (by simp[h,Ne.symm hb])
   rw[D2] at ih
   simp only[lev,if_neg hb]
   exact ih
theorem B4A(c:UInt8):∀(r x:List UInt8),(lev c x r).length=r.count c+1
 |[],x=>rfl
 |b::r,x=>by
  by_cases hb:b=c
  ·subst hb
   simp only[lev,if_pos,B8,List.count_cons_self,B4A b r []]
  ·simp only[lev,if_neg hb,B4A c r (x++[b]),List.count_cons_of_ne hb]
theorem data_inj{x y:B3O}(h:x.data.toList=y.data.toList):x=y:=by
 cases x;cases y
 simp at h
 rw[h]
theorem A7l:∀{xs ys:List B3O},xs.map (·.data.toList)=ys.map (·.data.toList)→xs=ys
 |[],[],_=>rfl
 |[],_::_,h=>by simp at h
 |_::_,[],h=>by simp at h
 |x::xs,y::ys,h=>by
  simp only[B6,List.cons.injEq] at h
  rw[data_inj h.1,A7l h.2]
def A9L:B3O:=ByteArray.mk #[47]
def levels(s:B3O):List B3O:=splitB A9L 0 (countB s A9L) s
theorem A2U(s:B3O):(levels s).map (·.data.toList)=lev 47 [] s.data.toList:=by
 unfold levels
 rw[splitB_data]
 exact B2K 47 s.data.toList [] (by simp)
theorem A7n(s:B3O):(levels s).length=s.data.toList.count 47+1:=by
 have:=congrArg List.length (A2U s)
 rw[C2,B4A] at this
 exact this
theorem B2J(s:B3O):levels s≠[]:=fun h=>by
 have:=A7n s
 rw[h] at this
 simp at this
theorem C1E(c:UInt8):∀(r x:List UInt8),∀y∈lev c x r,y.length≤x.length+r.length
 |[],x,y,h=>by rw[B7.1 h];simp
 |b::r,x,y,h=>by
  unfold lev at h
  split at h
  ·rcases D3.1 h with rfl|h
   ·simp
   ·have:=C1E c r [] y h
    simp at this⊢
    omega
  ·have:=C1E c r (x++[b]) y h
   simp at this⊢
   omega
theorem C3U{s x:B3O}(h:x∈levels s):x.size≤s.size:=by
 have h1:x.data.toList∈lev 47 [] s.data.toList:=by rw[←A2U];exact B3 h
 have:=C1E 47 _ _ _ h1
 simp only[H2,L9,N6] at this
 exact this
def r8:B3O:=ByteArray.mk #[43]
def o8:B3O:=ByteArray.mk #[35]
def hasB(c:UInt8)(s:B3O):Bool:=decide (c∈s.data.toList)
theorem B7N(c:UInt8):∀l:List UInt8,0≤indexByte l c↔c∈l
 |[]=>by simp[indexByte]
 |b::l=>by
  by_cases hb:b=c
  ·subst hb
   simp[indexByte]
  ·have ih:=B7N c l
   have qR:(b==c)=false:=by simpa using hb
   have qy:=indexByte_ge l c
   simp only[indexByte,qR,H7,if_false,D3,Ne.symm hb,false_or]
   rw[←ih]
   by_cases h1:indexByte l c= -1
   ·simp[h1]
   ·have h2:¬(indexByte l c== -1)=true:=by simpa using h1
    rw[if_neg h2]
    omega
theorem C30(c:UInt8)(s:B3O):decide (0≤indexByte s.data.toList c)=hasB c s:=by
 unfold hasB
 simp only[B7N]
def A1l(s:B3O):Bool:=(q8 s).isNone&&decide (s.size≠0)&&decide (s.size≤256)&&decide ((levels s).length≤32)
def Z4(s:B3O):Bool:=A1l s&& !hasB 43 s&& !hasB 35 s
def A4d:List B3O→Bool
 |[]=>true
 |x::r=>(if hasB 35 x then(r.isEmpty&&decide (x.size≤1)) else(!hasB 43 x||decide (x.size≤1)))&&A4d r
def X5(s:B3O):Bool:=A1l s&&A4d (levels s)
theorem A0X{s:B3O}:A1l s=true↔q8 s=none∧s.size≠0∧s.size≤256∧(levels s).length≤32:=by
 unfold A1l
 simp[Option.isNone_iff_eq_none,and_assoc]
theorem A3F{s:B3O}(h:A1l s=true):s.size≤256:=(A0X.1 h).2.2.1
theorem A4D{s:B3O}(h:Z4 s=true):A1l s=true:=by
 unfold Z4 at h
 simp only[F0] at h
 exact h.1.1
theorem A0z{s:B3O}(h:X5 s=true):A1l s=true:=by
 unfold X5 at h
 simp only[F0] at h
 exact h.1
theorem C2Y{c:UInt8}{x:B3O}(h:hasB c x=true):x.size≤1↔x=ByteArray.mk #[c]:=by
 unfold hasB at h
 rw[decide_eq_true_eq] at h
 constructor
 ·intro h1
  refine data_inj ?_
  have hl:x.data.toList.length≤1:=by rw[N6];exact h1
  generalize x.data.toList=l at h hl
  match l,h,hl with
  |[b],h,_=>rw[B7.1 h]
  |_::_::_,_,hl=>simp at hl
 ·rintro rfl
  exact D9 1
theorem C5z(c:UInt8):hasB c (ByteArray.mk #[c])=true:=by simp[hasB]
def B2L(x:B3O)(last:Bool):Bool:=(hasB 43 x&&decide (x≠r8))||(hasB 35 x&&(decide (x≠o8)|| !last))
theorem A7A(x:B3O)(r:List B3O):A4d (x::r)=(!B2L x r.isEmpty&&A4d r):=by
 unfold B2L
 rw[A4d]
 congr 1
 by_cases gT:hasB 35 x=true
 ·rw[if_pos gT,gT]
  by_cases hx:x=o8
  ·subst hx
   have:hasB 43 o8=false:=rfl
   rw[this]
   cases r.isEmpty<;>rfl
  ·have hs:¬x.size≤1:=fun h=>hx ((C2Y gT).1 h)
   simp[hs,hx]
 ·rw[if_neg gT]
  simp only[Bool.not_eq_true] at gT
  rw[gT]
  by_cases er:hasB 43 x=true
  ·rw[er]
   by_cases hx:x=r8
   ·subst hx
    rfl
   ·have hs:¬x.size≤1:=fun h=>hx ((C2Y er).1 h)
    simp[hs,hx]
  ·simp only[Bool.not_eq_true] at er
   rw[er]
   rfl
def A2o:List B3O→List B3O→Bool
 |[],n=>n.isEmpty
 |f::fs,n=>if f=o8 then true else match n with
  |[]=>false
  |m::ns=>if f≠r8∧f≠m then false else A2o fs ns
theorem A39(f:B3O)(fs n:List B3O):A2o (f::fs) n=if f=o8 then true else match n with
  |[]=>false
  |m::ns=>if f≠r8∧f≠m then false else A2o fs ns:=by cases n<;>rfl
def eqL:List B3O→List B3O→Bool
 |[],[]=>true
 |a::l,b::m=>(decide (a=r8)||decide (a=b))&&eqL l m
 |_,_=>false
def B3b(f:List B3O):Bool:=decide (f[f.length-1]? =some o8)
def A6S(f:List B3O):List B3O:=if B3b f=true then f.take (f.length-1) else f
def B8J(f n:List B3O):Bool:=
 if n.length<(A6S f).length∨(B3b f=false∧(A6S f).length<n.length) then false else eqL (A6S f) (n.take (A6S f).length)
theorem B73(x y:B3O)(r:List B3O):B3b (x::y::r)=B3b (y::r):=by
 unfold B3b
 simp
theorem C4c(x y:B3O)(r:List B3O):A6S (x::y::r)=x::A6S (y::r):=by
 unfold A6S
 rw[B73]
 split
 ·simp
 ·rfl
theorem B5x:∀(f n:List B3O),f≠[]→A4d f=true→A2o f n=B8J f n
 |[],_,h,_=>absurd rfl h
 |[x],n,_,hf=>by
  rw[A39]
  unfold B8J
  by_cases hx:x=o8
  ·have ha:B3b [x]=true:=by simp[B3b,hx]
   have hc:A6S [x]=[]:=by simp[A6S,ha]
   rw[if_pos hx,ha,hc]
   simp[eqL]
  ·have ha:B3b [x]=false:=by simp[B3b,hx]
   have hc:A6S [x]=[x]:=by simp[A6S,ha]
   rw[if_neg hx,ha,hc]
   match n with
   |[]=>simp
   |[m]=>
    by_cases h1:x=r8
    ·simp[eqL,A2o,h1]
    ·by_cases h2:x=m<;>simp[eqL,A2o,h1,h2]
   |m::m'::ns=>
    by_cases h1:x=r8
    ·simp[A2o,h1]
    ·by_cases h2:x=m<;>simp[A2o,h1,h2]
 |x::y::r,n,_,hf=>by
  have xv:A4d (y::r)=true:=by
   rw[A4d,F0] at hf
   exact hf.2
  have hx:x≠o8:=fun h=>by
   subst h
   rw[A7A] at hf
   have:B2L o8 (y::r).isEmpty=true:=rfl
   rw[this] at hf
   simp at hf
  have ih:=fun ns=>B5x (y::r) ns (by simp) xv
  rw[A39,if_neg hx]
  unfold B8J at ih⊢
  rw[B73,C4c]
  match n with
  |[]=>simp
  |m::ns=>
   have ih:=ih ns
   simp only[B8,Nat.add_lt_add_iff_right,List.take_succ_cons]
   by_cases hc:x≠r8∧x≠m
   ·rw[if_pos hc]
    split
    ·rfl
    ·simp[eqL,hc.1,hc.2]
   ·rw[if_neg hc,ih]
    have hd:(decide (x=r8)||decide (x=m))=true:=by
     by_cases h1:x=r8
     ·simp[h1]
     ·by_cases h2:x=m
      ·simp[h2]
      ·exact absurd ⟨h1,h2⟩ hc
    split
    ·rfl
    ·simp only[eqL,hd,G3]
def A3Z(filter name:B3O):Bool:=decide (name.get! 0=36)&&(decide (filter.get! 0=43)||decide (filter.get! 0=35))
def Y8(filter name:B3O):Bool:=X5 filter&&Z4 name&& !A3Z filter name&&A2o (levels filter) (levels name)
theorem B2X{s:B3O}(h:s.size≠0)(c:UInt8):s.extract 0 1=ByteArray.mk #[c]↔s.get! 0=c:=by
 obtain⟨⟨l⟩⟩:=s
 match l with
 |[]=>exact absurd rfl h
 |b::l=>
  have e1:(ByteArray.mk (List.toArray (b::l))).get! 0=b:=rfl
  rw[e1]
  constructor
  ·intro he
   have:=congrArg (fun x:B3O=>x.data.toList) he
   simp at this
   exact this
  ·rintro rfl
   refine data_inj ?_
   simp
open Go.Proofs Go.Shelf
def C2d:Go.Shelf.Ren:=⟨fun n=>match n with|138=>61|195=>103|218=>104|143=>62|219=>105|217=>154|225=>155|224=>156|267=>157|266=>205|314=>206|n=>n,fun n=>match n with|9=>9|3=>3|4=>4|5=>5|0=>0|46=>263|146=>335|51=>315|n=>n,fun n=>match n with|1=>0|n=>n⟩
theorem C8j:Lays.n138 prog C2d where
 mixed:=by kernel_rfl
 f138:=func61.trans (congrArg some (by kernel_rfl))
 f143:=func62.trans (congrArg some (by kernel_rfl))
 f195:=func103.trans (congrArg some (by kernel_rfl))
 f217:=func154.trans (congrArg some (by kernel_rfl))
 f218:=func104.trans (congrArg some (by kernel_rfl))
 f219:=func105.trans (congrArg some (by kernel_rfl))
 f224:=func156.trans (congrArg some (by kernel_rfl))
 f225:=func155.trans (congrArg some (by kernel_rfl))
 f266:=func205.trans (congrArg some (by kernel_rfl))
 f267:=func157.trans (congrArg some (by kernel_rfl))
 f314:=func206.trans (congrArg some (by kernel_rfl))
 t0:=underlying0
 a0:=isAgg0
 z0:=sizeOf0
 v0:=zeroValue0
 t3:=underlying3
 a3:=isAgg3
 z3:=sizeOf3
 v3:=zeroValue3
 t4:=underlying4
 a4:=isAgg4
 z4:=sizeOf4
 v4:=zeroValue4
 t5:=underlying5
 a5:=isAgg5
 z5:=sizeOf5
 v5:=zeroValue5
 t9:=underlying9
 a9:=isAgg9
 z9:=sizeOf9
 v9:=zeroValue9
 t46:=underlying263
 a46:=isAgg263
 z46:=sizeOf263
 v46:=zeroValue263
 t51:=underlying315
 a51:=isAgg315
 z51:=sizeOf315
 v51:=zeroValue315
 t146:=underlying335
 a146:=isAgg335
 z146:=sizeOf335
 v146:=zeroValue335
 g1:=by kernel_rfl
def C4d:Go.Shelf.Ren:=⟨fun n=>match n with|144=>31|143=>62|219=>105|217=>154|225=>155|224=>156|267=>157|266=>205|314=>206|n=>n,fun n=>match n with|9=>9|4=>4|3=>3|5=>5|46=>263|146=>335|51=>315|n=>n,fun n=>match n with|1=>0|n=>n⟩
theorem C88:Lays.n144 prog C4d where
 mixed:=by kernel_rfl
 f143:=func62.trans (congrArg some (by kernel_rfl))
 f144:=func31.trans (congrArg some (by kernel_rfl))
 f217:=func154.trans (congrArg some (by kernel_rfl))
 f219:=func105.trans (congrArg some (by kernel_rfl))
 f224:=func156.trans (congrArg some (by kernel_rfl))
 f225:=func155.trans (congrArg some (by kernel_rfl))
 f266:=func205.trans (congrArg some (by kernel_rfl))
 f267:=func157.trans (congrArg some (by kernel_rfl))
 f314:=func206.trans (congrArg some (by kernel_rfl))
 t3:=underlying3
 a3:=isAgg3
 z3:=sizeOf3
 v3:=zeroValue3
 t4:=underlying4
 a4:=isAgg4
 z4:=sizeOf4
 v4:=zeroValue4
 t5:=underlying5
 a5:=isAgg5
 z5:=sizeOf5
 v5:=zeroValue5
 t9:=underlying9
 a9:=isAgg9
 z9:=sizeOf9
 v9:=zeroValue9
 t46:=underlying263
 a46:=isAgg263
 z46:=sizeOf263
 v46:=zeroValue263
 t51:=underlying315
 a51:=isAgg315
 z51:=sizeOf315
 v51:=zeroValue315
 t146:=underlying335
 a146:=isAgg335
 z146:=sizeOf335
 v146:=zeroValue335
 g1:=by kernel_rfl
def A99:Go.Shelf.Ren:=⟨fun n=>match n with|146=>74|221=>120|268=>170|138=>61|143=>62|195=>103|197=>153|218=>104|219=>105|260=>204|217=>154|225=>155|224=>156|267=>157|266=>205|314=>206|n=>n,fun n=>match n with|9=>9|31=>43|3=>3|4=>4|0=>0|105=>289|21=>21|5=>5|46=>263|119=>373|139=>376|138=>375|146=>335|51=>315|n=>n,fun n=>match n with|1=>0|3=>1|4=>2|n=>n⟩
theorem C4O:Lays.n146 prog A99 where
 mixed:=by kernel_rfl
 f138:=func61.trans (congrArg some (by kernel_rfl))
 f143:=func62.trans (congrArg some (by kernel_rfl))
 f146:=func74.trans (congrArg some (by kernel_rfl))
 f195:=func103.trans (congrArg some (by kernel_rfl))
 f197:=func153.trans (congrArg some (by kernel_rfl))
 f217:=func154.trans (congrArg some (by kernel_rfl))
 f218:=func104.trans (congrArg some (by kernel_rfl))
 f219:=func105.trans (congrArg some (by kernel_rfl))
 f221:=func120.trans (congrArg some (by kernel_rfl))
 f224:=func156.trans (congrArg some (by kernel_rfl))
 f225:=func155.trans (congrArg some (by kernel_rfl))
 f260:=func204.trans (congrArg some (by kernel_rfl))
 f266:=func205.trans (congrArg some (by kernel_rfl))
 f267:=func157.trans (congrArg some (by kernel_rfl))
 f268:=func170.trans (congrArg some (by kernel_rfl))
 f314:=func206.trans (congrArg some (by kernel_rfl))
 t0:=underlying0
 a0:=isAgg0
 z0:=sizeOf0
 v0:=zeroValue0
 t3:=underlying3
 a3:=isAgg3
 z3:=sizeOf3
 v3:=zeroValue3
 t4:=underlying4
 a4:=isAgg4
 z4:=sizeOf4
 v4:=zeroValue4
 t5:=underlying5
 a5:=isAgg5
 z5:=sizeOf5
 v5:=zeroValue5
 t9:=underlying9
 a9:=isAgg9
 z9:=sizeOf9
 v9:=zeroValue9
 t21:=underlying21
 a21:=isAgg21
 z21:=sizeOf21
 v21:=zeroValue21
 t31:=underlying43
 a31:=isAgg43
 z31:=sizeOf43
 v31:=zeroValue43
 t46:=underlying263
 a46:=isAgg263
 z46:=sizeOf263
 v46:=zeroValue263
 t51:=underlying315
 a51:=isAgg315
 z51:=sizeOf315
 v51:=zeroValue315
 t105:=underlying289
 a105:=isAgg289
 z105:=sizeOf289
 v105:=zeroValue289
 t119:=underlying373
 a119:=isAgg373
 z119:=sizeOf373
 t138:=underlying375
 a138:=isAgg375
 z138:=sizeOf375
 v138:=zeroValue375
 t139:=underlying376
 a139:=isAgg376
 z139:=sizeOf376
 v139:=zeroValue376
 t146:=underlying335
 a146:=isAgg335
 z146:=sizeOf335
 v146:=zeroValue335
 g1:=by kernel_rfl
 g3:=by kernel_rfl
 g4:=by kernel_rfl
end Go.Proofs.YtidlldnlphdhcaaGreatDoor
namespace Go.H
section
open Go.RowKit Go.Maps Go.Sort Go.Shelf Go.Proofs
theorem B6z{w w':World}(hb:Below w.heap.size w w'):∀(k:Nat) o,w.heap[k]? =some o→w'.heap[k]? =some o:=fun k o ho=>by
 have hk:=(F7.1 ho).1
 rw[hb.block k hk];exact ho
theorem B6x{B:Nat}{w w':World}(hb:Below B w w'):y9 w w':=⟨hb.os,hb.tape,hb.output⟩
theorem B5l{α:Type}{enc:α→C9P}{size base:Nat}{T:TypeId}{w':World}{v:Value}{n:Nat}{xs:List α}{h:Heap}{R:List Asn}
  (hr:w'.ownsRow base T size v n (xs.flatMap enc))(hn:n=xs.length)(hs:sat h R)(hg:∀(k:Nat) o,h[k]? =some o→w'.heap[k]? =some o)(hb:h.size≤base):
  ∃s:Slc,v=.slice s.a s.len s.cap∧sat w'.heap (U5 enc size s xs::R):=by
 obtain⟨h1,⟨rfl,h2⟩|⟨g,cap,cur,rfl,h3,h4,h5,h6,h7,h8⟩⟩:=hr
 ·have hx:xs=[]:=List.eq_nil_of_length_eq_zero (by omega)
  subst hx
  exact⟨⟨none,0,0⟩,rfl,Z3 (hs.grow hg)⟩
 ·exact⟨⟨some ⟨g,0,none⟩,n,cap⟩,rfl,A1D (o:=0) ⟨by simp,h5,hn,by simp only[L9];exact T4 h7.symm,by simpa using h8⟩ (hs.eG hg (by omega) h4)⟩
abbrev eI(x:Int):C9P:=[.int .i64 x]
def Z2(l:List Int):List Int:=l.mergeSort fun x y=>decide (x≤y)
section
variable {P:Program} {ρk ρs ρt:Ren} {V:Type} {ev:V→Value} {h:Heap} {R:List Asn}
theorem B0u(K:SlLaysZI.n7 P ρk)(m:Option Nat){Q:Value→Heap→Prop}(hq:Q (.func (.func (ρk.f 10)) #[] #[.pointer (some ⟨h.size,0,none⟩)]) (h.push (.cells #[.map m] (ρk.t 23)))):
  V3 P (ρk.f 7) #[.map m] h Q:=fun w hw=>by
 subst hw
 refine(callsIn_wide (n:=5)).1 ((AnyZI.keys_in K Fence.wide 5 trivial rfl m w).mono ?_)
 rintro e w' ⟨rfl,rfl⟩
 exact⟨_,rfl,⟨rfl,rfl,rfl⟩,hq⟩
theorem C7C(T:SlLaysM.n5 P ρt)(he:ρt.f 5=ρs.f 9)(m:Nat):AnyZI.SortsIn P ρs Fence.wide m:=by
 refine⟨fun blk off cap ss W hH hblk hsz=>?_,fun p cap W=>?_⟩
 ·rw[←he];exact callsIn_wide.2 (AnyM.slices_Sort_int T blk off cap ss W hH hblk hsz)
 ·rw[←he];exact callsIn_wide.2 (AnyM.slices_Sort_int_none T p cap W)
theorem B9P{H:Type}{w:World}{b:Nat}{l:List (Int×V)}{k:TypeId}(hk:P.underlying k=some (.int .i64))(hs:sat w.heap (mapA (fun n:Int=>.int .i64 n) ev b l::R))
  (hw:∀p∈l,(Lit.int .i64 p.1).wf=true)(hl:l.length≤maxLen):
  ∃D0:DataW H,w.ownsMap P k (fun _=>some (.nil,[])) b l.length D0∧Maps.size D0=l.length∧(intKeys D0).Perm (l.map (·.1)):=by
 obtain⟨es,c,⟨he,cy⟩,hs⟩:=A1f.1 hs
 have hsz:es.size=l.length:=by
  have:=congrArg List.length he
  simpa using this
 have da:es.toList.map (·.key)=l.map (fun p=>Value.int .i64 p.1):=by
  have:=congrArg (List.map Prod.fst) he
  simpa[Q8] using this
 have jY:∀x∈es.toList,∃p∈l,x.key=.int .i64 p.1∧WideElems.rd (H:=H) P k (fun _=>some (.nil,[])) x=some (.int .i64 p.1,.nil):=by
  intro x hx
  have hm:x.key∈l.map (fun p=>Value.int .i64 p.1):=by rw[←da];exact B3 hx
  obtain⟨p,hp,e⟩:=E4.1 hm
  exact⟨p,hp,e.symm,by simp[WideElems.rd,←e,keyOf,hk,mapKey,hw p hp]⟩
 have kR:es.toList.map (WideElems.rg (H:=H) P k (fun _=>some (.nil,[])))=l.map (fun p=>((Lit.int .i64 p.1,DataW.nil):Lit×DataW H)):=by
  have e1:es.toList.map (WideElems.rg (H:=H) P k (fun _=>some (.nil,[])))=(es.toList.map (·.key)).map (fun v=>(match v with|.int q n=>Lit.int q n|_=>.bool false,DataW.nil)):=by
   rw[F1]
   refine I0 fun x hx=>?_
   obtain⟨p,hp,h1,h2⟩:=jY x hx
   simp[WideElems.rg,h2,h1]
  rw[e1,da,F1]
  rfl
 refine⟨_,⟨es,c,hs.get,⟨by omega,cy,fun x hx=>?_⟩,by omega,rfl⟩,?_,?_⟩
 ·obtain⟨p,_,_,h2⟩:=jY x hx
  exact⟨_,h2⟩
 ·rw[kR,Maps.size_eq,length_sorted,C2]
 ·rw[kR]
  show(List.map _ _).Perm _
  refine((WideShapes.sorted_perm _).map _).trans ?_
  rw[F1]
  exact J3 _
theorem A65(K:SlLaysZI.n7 P ρk)(S:SlLaysZI.n6 P ρs)(T:SlLaysM.n5 P ρt)(he:ρt.f 5=ρs.f 9)(e9:∀args w,(callFunc (ρs.f 9) args).run P w=.ok (.enter (ρs.f 9) args) w)
  (eg:∀args w,(callFunc (ρk.f 10) args).run P w=.ok (.enter (ρk.f 10) args) w){b bm:Nat}{l:List (Int×V)}
  (hs:sat h (mapA (fun n:Int=>.int .i64 n) ev b l::R))(hw:∀p∈l,(Lit.int .i64 p.1).wf=true)(hl:l.length*8≤140737488355328)(hc:W0 h ⟨bm,0,none⟩=some (.map (some b))){Q:Value→Heap→Prop}
  (hq:∀(s:Slc) h',sat h' (U5 eI 1 s (Z2 (l.map (·.1)))::mapA (fun n:Int=>.int .i64 n) ev b l::R)→Q (.slice s.a s.len s.cap) h'):
  V3 P (ρs.f 6) #[.func (.func (ρk.f 10)) #[] #[.pointer (some ⟨bm,0,none⟩)]] h Q:=fun w jC=>by
 subst jC
 have K':SlLaysZI.n10 P ρk:={K with}
 have iS:l.length≤maxLen:=by unfold maxLen;omega
 obtain⟨D0,nK,hsz,dB⟩:=B9P (H:=Unit) K'.t26 hs hw iS
 have ug:bm<w.heap.size:=by
  unfold W0 at hc
  cases hx:w.heap[bm]? with
  |none=>simp[hx] at hc
  |some o=>exact(F7.1 hx).1
 have nG:SeqGives Fence.wide 2 P (ρk.f 10) #[.pointer (some ⟨bm,0,none⟩)] encZ (fun ss=>ss.Perm (intKeys D0)) (Maps.size D0) w:=
  AnyZI.keys_gives K' Fence.wide _ trivial rfl (by omega) bm b l.length D0 w ug hc nK
 have cS:=AnyZI.sorted_in S Fence.wide 5 trivial trivial trivial trivial rfl (by omega) (C7C T he _) e9 (ρk.f 10) #[.pointer (some ⟨bm,0,none⟩)] trivial eg _ _ (by rw[hsz];exact iS) (by rw[hsz];exact hl) _ nG
 refine((callsIn_wide).1 cS).mono ?_
 rintro e w' ⟨v,ss,rfl,hS,aM,dq,hb⟩
 have hp:ss.Perm (l.map (·.1)):=hS.trans dB
 have e1:(ss.mergeSort fun x y=>decide (x≤y))=Z2 (l.map (·.1)):=mergeSort_of_perm_i hp
 rw[e1] at aM
 have e2:(Z2 (l.map (·.1))).map encZ=(Z2 (l.map (·.1))).flatMap eI:=by
  induction Z2 (l.map (·.1)) with
  |nil=>rfl
  |cons a l ih=>rw[B6,ih];rfl
 rw[e2] at aM
 obtain⟨s,rfl,af⟩:=B5l aM (by simp[Z2,O9,hp.length_eq]) hs (B6z hb) (D9 _)
 exact⟨_,rfl,B6x hb,hq s _ af⟩
end
end
section
open Go.RowKit Go.Maps Go.Sort Go.Shelf Go.Proofs
abbrev eS(x:B3O):C9P:=[.string x]
def ofL(x:List UInt8):B3O:=⟨x.toArray⟩
def A5v(l:List B3O):List B3O:=((l.map (·.data.toList)).mergeSort fun x y=>decide (x≤y)).map ofL
section
variable {P:Program} {ρk ρs ρt:Ren} {V:Type} {ev:V→Value} {h:Heap} {R:List Asn}
theorem C1G(K:SlLaysZ.n7 P ρk)(m:Option Nat){Q:Value→Heap→Prop}(hq:Q (.func (.func (ρk.f 10)) #[] #[.pointer (some ⟨h.size,0,none⟩)]) (h.push (.cells #[.map m] (ρk.t 23)))):
  V3 P (ρk.f 7) #[.map m] h Q:=fun w hw=>by
 subst hw
 refine(callsIn_wide (n:=5)).1 ((AnyZ.keys_in K Fence.wide 5 trivial rfl m w).mono ?_)
 rintro e w' ⟨rfl,rfl⟩
 exact⟨_,rfl,⟨rfl,rfl,rfl⟩,hq⟩
theorem C7B(T:SlLaysM.n6 P ρt)(he:ρt.f 6=ρs.f 9)(m:Nat):AnyZ.SortsIn P ρs Fence.wide m:=by
 refine⟨fun blk off cap ss W hH hblk hsz=>?_,fun p cap W=>?_⟩
 ·rw[←he];exact callsIn_wide.2 (AnyM.slices_Sort_string T blk off cap ss W hH hblk hsz)
 ·rw[←he];exact callsIn_wide.2 (AnyM.slices_Sort_string_none T p cap W)
theorem B8B{H:Type}{w:World}{b:Nat}{l:List (B3O×V)}{k:TypeId}(hk:P.underlying k=some .string)(hs:sat w.heap (mapA (fun n:B3O=>.string n) ev b l::R))
  (hw:∀p∈l,p.1.size≤maxLen)(hl:l.length≤maxLen):
  ∃D0:DataW H,w.ownsMap P k (fun _=>some (.nil,[])) b l.length D0∧Maps.size D0=l.length∧(strKeys D0).Perm (l.map (·.1.data.toList)):=by
 obtain⟨es,c,⟨he,cy⟩,hs⟩:=A1f.1 hs
 have hsz:es.size=l.length:=by
  have:=congrArg List.length he
  simpa using this
 have da:es.toList.map (·.key)=l.map (fun p=>Value.string p.1):=by
  have:=congrArg (List.map Prod.fst) he
  simpa[Q8] using this
 have jY:∀x∈es.toList,∃p∈l,x.key=.string p.1∧WideElems.rd (H:=H) P k (fun _=>some (.nil,[])) x=some (.string p.1.data.toList,.nil):=by
  intro x hx
  have hm:x.key∈l.map (fun p=>Value.string p.1):=by rw[←da];exact B3 hx
  obtain⟨p,hp,e⟩:=E4.1 hm
  exact⟨p,hp,e.symm,by simp[WideElems.rd,←e,keyOf,hk,mapKey,hw p hp]⟩
 have kR:es.toList.map (WideElems.rg (H:=H) P k (fun _=>some (.nil,[])))=l.map (fun p=>((Lit.string p.1.data.toList,DataW.nil):Lit×DataW H)):=by
  have e1:es.toList.map (WideElems.rg (H:=H) P k (fun _=>some (.nil,[])))=(es.toList.map (·.key)).map (fun v=>(match v with|.string q=>Lit.string q.data.toList|_=>.bool false,DataW.nil)):=by
   rw[F1]
   refine I0 fun x hx=>?_
   obtain⟨p,hp,h1,h2⟩:=jY x hx
   simp[WideElems.rg,h2,h1]
  rw[e1,da,F1]
  rfl
 refine⟨_,⟨es,c,hs.get,⟨by omega,cy,fun x hx=>?_⟩,by omega,rfl⟩,?_,?_⟩
 ·obtain⟨p,_,_,h2⟩:=jY x hx
  exact⟨_,h2⟩
 ·rw[kR,Maps.size_eq,length_sorted,C2]
 ·rw[kR]
  show(List.map _ _).Perm _
  refine((WideShapes.sorted_perm _).map _).trans ?_
  rw[F1]
  exact J3 _
theorem B8h(K:SlLaysZ.n7 P ρk)(S:SlLaysZ.n6 P ρs)(T:SlLaysM.n6 P ρt)(he:ρt.f 6=ρs.f 9)(e9:∀args w,(callFunc (ρs.f 9) args).run P w=.ok (.enter (ρs.f 9) args) w)
  (eg:∀args w,(callFunc (ρk.f 10) args).run P w=.ok (.enter (ρk.f 10) args) w){b bm:Nat}{l:List (B3O×V)}
  (hs:sat h (mapA (fun n:B3O=>.string n) ev b l::R))(hw:∀p∈l,p.1.size≤maxLen)(hl:l.length*16≤140737488355328)(hc:W0 h ⟨bm,0,none⟩=some (.map (some b))){Q:Value→Heap→Prop}
  (hq:∀(s:Slc) h',sat h' (U5 eS 1 s (A5v (l.map (·.1)))::mapA (fun n:B3O=>.string n) ev b l::R)→Q (.slice s.a s.len s.cap) h'):
  V3 P (ρs.f 6) #[.func (.func (ρk.f 10)) #[] #[.pointer (some ⟨bm,0,none⟩)]] h Q:=fun w jC=>by
 subst jC
 have K':SlLaysZ.n10 P ρk:={K with}
 have iS:l.length≤maxLen:=by unfold maxLen;omega
 obtain⟨D0,nK,hsz,dB⟩:=B8B (H:=Unit) K'.t26 hs hw iS
 have ug:bm<w.heap.size:=by
  unfold W0 at hc
  cases hx:w.heap[bm]? with
  |none=>simp[hx] at hc
  |some o=>exact(F7.1 hx).1
 have nG:SeqGives Fence.wide 2 P (ρk.f 10) #[.pointer (some ⟨bm,0,none⟩)] encStr (fun ss=>ss.Perm (strKeys D0)) (Maps.size D0) w:=
  AnyZ.keys_gives K' Fence.wide _ trivial rfl (by omega) bm b l.length D0 w ug hc nK
 have cS:=AnyZ.sorted_in S Fence.wide 5 trivial trivial trivial trivial rfl (by omega) (C7B T he _) e9 (ρk.f 10) #[.pointer (some ⟨bm,0,none⟩)] trivial eg _ _ (by rw[hsz];exact iS) (by rw[hsz];exact hl) _ nG
 refine((callsIn_wide).1 cS).mono ?_
 rintro e w' ⟨v,ss,rfl,hS,aM,dq,hb⟩
 have hp:ss.Perm (l.map (·.1.data.toList)):=hS.trans dB
 have e1:((ss.mergeSort fun x y=>decide (x≤y)).map ofL)=A5v (l.map (·.1)):=by
  unfold A5v
  rw[F1]
  exact congrArg (List.map ofL) (mergeSort_of_perm hp)
 have e2:(ss.mergeSort fun x y=>decide (x≤y)).map encStr=(A5v (l.map (·.1))).flatMap eS:=by
  rw[←e1]
  generalize(ss.mergeSort fun x y=>decide (x≤y))=t
  induction t with
  |nil=>rfl
  |cons a l ih=>rw[B6,ih];rfl
 rw[e2] at aM
 obtain⟨s,rfl,af⟩:=B5l aM (by rw[←e1];simp[O9]) hs (B6z hb) (D9 _)
 exact⟨_,rfl,B6x hb,hq s _ af⟩
end
end
end Go.H
namespace Go.Proofs.YtidlldnlphdhcaaGreatDoor
open Go.H
open Go.Proofs.Tryz
section
open Go.H Go.Proofs Go.Lib
structure TP(h0:Heap):Prop where
 u8:U8 h0
 maxl:∃m,W0 h0 ⟨0,0,none⟩=some (.int .i64 m)
theorem A1F:∀x:B3O,(eS x).length=1:=fun _=>rfl
theorem B4C:∀x:B3O,∀v∈eS x,v.oneCell'=true:=fun x v hv=>by rw[B7.1 hv];rfl
variable {h h0:Heap} {R:List Asn}
theorem B9Q{b:Nat}{xs:List B3O}(hs:sat h (cells b (xs.map Value.string).toArray::R)):sat h (U5 eS 1 ⟨some ⟨b,0,none⟩,xs.length,xs.length⟩ xs::R):=by
 refine A1D (o:=0) ⟨rfl,D9 _,rfl,by simp,?_⟩ hs
 simp only[S9,S4,Nat.mul_one,List.toList_toArray]
 rw[D6 (by simp)]
 induction xs with
 |nil=>rfl
 |cons x xs ih=>
  rw[B6,D8]
  have:∀xs:List B3O,xs.map Value.string=xs.flatMap eS:=fun xs=>by
   induction xs with
   |nil=>rfl
   |cons y ys ih=>rw[B6,D8,ih];rfl
  rw[this xs]
  rfl
theorem C2s{s:B3O}{Q:Value→Heap→Prop}(hq:Q (.int .i64 ((s.data.toList.count 47:Nat):Int)) h):
  V3 prog 61 #[.string s,.string (ByteArray.mk #[47])] h Q:=fun w hw=>by
 subst hw
 refine(Any.strings_Count_one C8j s 47 w).mono ?_
 rintro e w' ⟨rfl,rfl⟩
 exact⟨_,rfl,⟨rfl,rfl,rfl⟩,hq⟩
theorem u0{s:B3O}{c:UInt8}{Q:Value→Heap→Prop}(hq:Q (.bool (hasB c s)) h):
  V3 prog 31 #[.string s,.string (ByteArray.mk #[c])] h Q:=fun w hw=>by
 subst hw
 refine(Any.strings_Contains_one C88 s c w).mono ?_
 rintro e w' ⟨rfl,rfl⟩
 rw[C30]
 exact⟨_,rfl,⟨rfl,rfl,rfl⟩,hq⟩
theorem A4l(hs:sat h (old h0::R))(ht:TP h0){s:B3O}(hsz:s.size≤256){Q:Value→Heap→Prop}
  (hq:∀(sl:Slc) h',sat h' (U5 eS 1 sl (levels s)::old h0::R)→Q (.slice sl.a sl.len sl.cap) h'):
  V3 prog 36 #[.string s] h Q:=by
 refine A4P s h Q ?_
 delta A64 cc pu
 refine U6 (fun w hw=>?_)
 subst hw
 obtain⟨m,hm⟩:=ht.maxl
 refine(Any.strings_Split C4O (by kernel_rfl) s (ByteArray.mk #[47]) m w (by omega) (hs.bY hm) (by decide)).mono ?_
 rintro e w' ⟨rfl,rfl⟩
 have hl:(levels s).length=countB s A9L+1:=splitB_all A9L (by decide) 0 _ s rfl
 have:=hq ⟨some ⟨w.heap.size,0,none⟩,(levels s).length,(levels s).length⟩ _ (B9Q (hs.bK (T:=A99.t 9)))
 rw[hl] at this
 exact⟨_,rfl,⟨rfl,rfl,rfl⟩,⟨some ⟨w.heap.size,0,none⟩,countB s A9L+1,countB s A9L+1⟩,rfl,this⟩
theorem B4Q(hs:sat h (old h0::R))(ht:TP h0){s:B3O}(hsz:s.size≤9223372036854775807){Q:Value→Heap→Prop}
  (hq:∀h',sat h' (old h0::R)→Q (.bool (A1l s)) h'):V3 prog 30 #[.string s] h Q:=by
 refine B0O s h Q ?_
 delta B3h bn ci es ie pu
 refine u9 (B6L hs ht.u8 s (by omega) fun h1 aa=>⟨(match q8 s with|some n=>((n:Int),true,())|none=>(0,false,())),by cases q8 s<;>rfl,?_⟩)
 refine V4 (fun x h'=>h'=h1∧x.1=A1l s) ?_ ?_
 ·(try dsimp only);rw[U9]
  cases hf:q8 s with
  |some n=>
   rw[if_neg (by simp)]
   exact⟨rfl,by simp[A1l,hf]⟩
  |none=>
   rw[if_pos (by rfl),U9]
   have he:s=ByteArray.mk #[]↔s.size=0:=by
    constructor
    ·rintro rfl;rfl
    ·intro h0
     refine data_inj ?_
     have:s.data.toList.length=0:=by rw[N6];exact h0
     rw[K9.1 this]
   by_cases h0:s.size=0
   ·rw[if_neg (by simp[he.2 h0])]
    exact⟨rfl,by simp[A1l,h0]⟩
   rw[if_pos (by simpa using fun e=>h0 (he.1 e)),U9]
   by_cases h1:s.size≤256
   ·rw[if_pos (by simp only[decide_eq_true_eq];omega)]
    refine U6 (C2s ⟨_,rfl,?_⟩)
    refine⟨rfl,?_⟩
    have e:A1l s=decide ((levels s).length≤32):=by simp[A1l,hf,h0,h1]
    rw[e,A7n]
    simp only[G6]
    omega
   ·rw[if_neg (by simp only[decide_eq_true_eq];omega)]
    exact⟨rfl,by simp[A1l,h1]⟩
 rintro⟨x,⟨⟩⟩ h2 ⟨rfl,rfl⟩
 exact hq _ aa
def A2Q(s:B3O):Int:=if Z4 s=true then 0 else 144
def A91(s:B3O):Int:=if X5 s=true then 0 else 143
theorem A3u(hs:sat h (old h0::R))(ht:TP h0){s:B3O}(hsz:s.size≤9223372036854775807){Q:Value→Heap→Prop}
  (hq:∀h',sat h' (old h0::R)→Q (.int .u8 (A2Q s)) h'):V3 prog 12 #[.string s] h Q:=by
 refine A8a s h Q ?_
 delta A7U bn cb ie pu
 refine V4 (fun x h'=>sat h' (old h0::R)∧x.1= !Z4 s) ?_ ?_
 ·refine U6 (B4Q hs ht hsz fun h1 aa=>⟨_,rfl,?_⟩)
  (try dsimp only);rw[U9]
  cases hz:A1l s with
  |false=>
   rw[if_pos (by rfl)]
   exact⟨aa,by simp[Z4,hz]⟩
  |true=>
   rw[if_neg (by simp)]
   refine U6 (u0 (c:=43) ⟨_,rfl,?_⟩)
   (try dsimp only);rw[U9]
   cases er:hasB 43 s with
   |true=>
    rw[if_pos rfl]
    exact⟨aa,by simp[Z4,hz,er]⟩
   |false=>
    rw[if_neg (by simp)]
    refine U6 (u0 (c:=35) ⟨_,rfl,?_⟩)
    exact⟨aa,by simp[Z4,hz,er]⟩
 rintro⟨x,⟨⟩⟩ h1 ⟨aa,hx⟩
 simp only at hx
 subst hx
 have:=hq _ aa
 unfold A2Q at this
 (try dsimp only);rw[U9]
 cases hn:Z4 s with
 |true=>rw[hn,if_pos rfl] at this;rw[if_neg (by simp)];exact this
 |false=>rw[hn,if_neg (by simp)] at this;rw[if_pos (by rfl)];exact this
theorem A6P{l:List B3O}{i:Nat}{x:B3O}(hx:l[i]? =some x):l.drop i=x::l.drop (i+1):=by
 obtain⟨hi,rfl⟩:=E0.1 hx
 exact E1 hi
theorem A60(hs:sat h (old h0::R))(ht:TP h0){s:B3O}(hsz:s.size≤9223372036854775807){Q:Value→Heap→Prop}
  (hq:∀h',sat h' (old h0::R)→Q (.int .u8 (A91 s)) h'):V3 prog 35 #[.string s] h Q:=by
 refine A6m s h Q ?_
 delta A5r bn cb cc ie ix lt pu wi
 refine U6 (B4Q hs ht hsz fun h1 aa=>⟨_,rfl,?_⟩)
 (try dsimp only);rw[U9]
 unfold A91 X5 at hq
 cases hz:A1l s with
 |false=>
  rw[hz] at hq
  rw[if_pos (by rfl)]
  exact hq _ aa
 |true=>
 rw[hz,G3] at hq
 rw[if_neg (by simp)]
 have hle:=A3F hz
 refine U6 (A4l aa ht hle fun sl h2 ae=>⟨sl,rfl,?_⟩)
 have hlen:=ae.aW
 have aM:=ae.aO A1F
 have hn:(levels s).length≤32:=(A0X.1 hz).2.2.2
 generalize levels s=l at hlen aM hn hq
 have aj:=ae.drop
 clear ae
 (try dsimp only);rw[U1]
 refine l9 (γ:=Nat) (fun g c h'=>h'=h2∧c.1=(((l.length-g:Nat)):Int)∧g≤l.length∧A4d l=A4d (l.drop (l.length-g))) (fun g=>g) l.length ⟨rfl,by simp,D9 _,by simp⟩ ?_
 rintro g ⟨c,⟨⟩⟩ h' ⟨rfl,hc,hg,hf⟩
 simp only at hc
 subst hc
 (try dsimp only);rw[U9]
 by_cases ah:l.length-g<l.length
 ·rw[if_pos (by simp only[decide_eq_true_eq,hlen];omega)]
  obtain⟨x,hx⟩:∃x,l[l.length-g]? =some x:=⟨_,B0 ah⟩
  have hd:=A6P hx
  rw[hd] at hf
  (try dsimp only);rw[U1]
  refine X8 aM hx fun a ha=>?_
  refine⟨x,by have:=ha 0 (.string x) rfl;rwa[Go.H.add_zero] at this,?_⟩
  simp only[A4d] at hf
  have fp:(l.drop (l.length-g+1)).isEmpty=decide (l.length-g+1=l.length):=by
   by_cases he:l.length-g+1=l.length
   ·rw[he];simp
   ·have:l.drop (l.length-g+1)≠[]:=by simp;omega
    cases hh:l.drop (l.length-g+1) with
    |nil=>exact absurd hh this
    |cons=>simp[he]
  rw[fp] at hf
  have hw:IntKind.wrap .i64 ((sl.len:Int)-1)=(l.length:Int)-1:=by rw[hlen];exact V8 (by omega) (by omega)
  have je:IntKind.wrap .i64 (((l.length-g:Nat):Int)+1)=((l.length-(g-1):Nat):Int):=by rw[V8 (by omega) (by omega)];omega
  have ay:l.length-g+1=l.length-(g-1):=by omega
  rw[ay] at hf
  rw[hw,je]
  by_cases gT:hasB 35 x=true
  ·rw[if_pos gT] at hf
   by_cases iF:l.length-(g-1)=l.length
   ·by_cases h1:x.size≤1
    ·rw[decide_eq_true iF,decide_eq_true h1,G3,G3] at hf
     refine V4 (fun z aR=>aR=h'∧z=.inl ()) ?_ ?_
     ·refine V4 (fun z aR=>aR=h'∧z=.inl ()) ?_ ?_
      ·refine V4 (fun z aR=>aR=h'∧z=.inl ()) ?_ ?_
       ·refine U6 (u0 (c:=35) ⟨_,rfl,?_⟩)
        (try dsimp only);rw[U9,if_pos gT]
        exact⟨rfl,rfl⟩
       rintro z aR ⟨rfl,rfl⟩
       simp only[D7]
       (try dsimp only);rw[U9,if_neg (by simp only[decide_eq_true_eq];omega)]
       exact⟨rfl,rfl⟩
      rintro z aR ⟨rfl,rfl⟩
      simp only[D7]
      (try dsimp only);rw[U9,if_neg (by simp only[decide_eq_true_eq];omega)]
      exact⟨rfl,rfl⟩
     rintro z aR ⟨rfl,rfl⟩
     simp only[D7,E8,V1]
     exact .mk (g-1) (by omega) ⟨rfl,rfl,by omega,hf⟩
    ·rw[decide_eq_false h1,Bool.and_false,K6] at hf
     rw[hf,if_neg (by simp)] at hq
     refine V4 (fun z aR=>aR=h'∧z=.inr (.inr (.inr (143,())))) ?_ ?_
     ·refine V4 (fun z aR=>aR=h'∧z=.inl ()) ?_ ?_
      ·refine V4 (fun z aR=>aR=h'∧z=.inl ()) ?_ ?_
       ·refine U6 (u0 (c:=35) ⟨_,rfl,?_⟩)
        (try dsimp only);rw[U9,if_pos gT]
        exact⟨rfl,rfl⟩
       rintro z aR ⟨rfl,rfl⟩
       simp only[D7]
       (try dsimp only);rw[U9,if_neg (by simp only[decide_eq_true_eq];omega)]
       exact⟨rfl,rfl⟩
      rintro z aR ⟨rfl,rfl⟩
      simp only[D7]
      (try dsimp only);rw[U9,if_pos (by simp only[decide_eq_true_eq];omega)]
      exact⟨rfl,rfl⟩
     rintro z aR ⟨rfl,rfl⟩
     simp only[D7,E8,V1]
     exact hq _ aj
   ·rw[decide_eq_false iF,K6,K6] at hf
    rw[hf,if_neg (by simp)] at hq
    refine V4 (fun z aR=>aR=h'∧z=.inr (.inr (.inr (143,())))) ?_ ?_
    ·refine V4 (fun z aR=>aR=h'∧z=.inr (.inr (.inr (.inr (143,()))))) ?_ ?_
     ·refine V4 (fun z aR=>aR=h'∧z=.inl ()) ?_ ?_
      ·refine U6 (u0 (c:=35) ⟨_,rfl,?_⟩)
       (try dsimp only);rw[U9,if_pos gT]
       exact⟨rfl,rfl⟩
      rintro z aR ⟨rfl,rfl⟩
      simp only[D7]
      (try dsimp only);rw[U9,if_pos (by simp only[decide_eq_true_eq];omega)]
      exact⟨rfl,rfl⟩
     rintro z aR ⟨rfl,rfl⟩
     exact⟨rfl,rfl⟩
    rintro z aR ⟨rfl,rfl⟩
    simp only[D7,E8,V1]
    exact hq _ aj
  ·rw[if_neg gT] at hf
   by_cases er:hasB 43 x=true
   ·by_cases h1:x.size≤1
    ·rw[er,decide_eq_true h1,Bool.or_true,G3] at hf
     refine V4 (fun z aR=>aR=h'∧z=.inl ()) ?_ ?_
     ·refine V4 (fun z aR=>aR=h'∧z=.inl ()) ?_ ?_
      ·refine V4 (fun z aR=>aR=h'∧z=.inr (.inl ())) ?_ ?_
       ·refine U6 (u0 (c:=35) ⟨_,rfl,?_⟩)
        (try dsimp only);rw[U9,if_neg gT]
        refine U6 (u0 (c:=43) ⟨_,rfl,?_⟩)
        (try dsimp only);rw[U9,if_pos er]
        exact⟨rfl,rfl⟩
       rintro z aR ⟨rfl,rfl⟩
       exact⟨rfl,rfl⟩
      rintro z aR ⟨rfl,rfl⟩
      simp only[D7]
      (try dsimp only);rw[U9,if_neg (by simp only[decide_eq_true_eq];omega)]
      exact⟨rfl,rfl⟩
     rintro z aR ⟨rfl,rfl⟩
     simp only[D7,E8,V1]
     exact .mk (g-1) (by omega) ⟨rfl,rfl,by omega,hf⟩
    ·rw[er,decide_eq_false h1,Bool.or_false,N7,K6] at hf
     rw[hf,if_neg (by simp)] at hq
     refine V4 (fun z aR=>aR=h'∧z=.inr (.inr (.inr (143,())))) ?_ ?_
     ·refine V4 (fun z aR=>aR=h'∧z=.inl ()) ?_ ?_
      ·refine V4 (fun z aR=>aR=h'∧z=.inr (.inl ())) ?_ ?_
       ·refine U6 (u0 (c:=35) ⟨_,rfl,?_⟩)
        (try dsimp only);rw[U9,if_neg gT]
        refine U6 (u0 (c:=43) ⟨_,rfl,?_⟩)
        (try dsimp only);rw[U9,if_pos er]
        exact⟨rfl,rfl⟩
       rintro z aR ⟨rfl,rfl⟩
       exact⟨rfl,rfl⟩
      rintro z aR ⟨rfl,rfl⟩
      simp only[D7]
      (try dsimp only);rw[U9,if_pos (by simp only[decide_eq_true_eq];omega)]
      exact⟨rfl,rfl⟩
     rintro z aR ⟨rfl,rfl⟩
     simp only[D7,E8,V1]
     exact hq _ aj
   ·simp only[Bool.not_eq_true] at er
    rw[er,S6,Bool.true_or,G3] at hf
    refine V4 (fun z aR=>aR=h'∧z=.inl ()) ?_ ?_
    ·refine V4 (fun z aR=>aR=h'∧z=.inr (.inl ())) ?_ ?_
     ·refine V4 (fun z aR=>aR=h'∧z=.inr (.inr (.inl ()))) ?_ ?_
      ·refine U6 (u0 (c:=35) ⟨_,rfl,?_⟩)
       (try dsimp only);rw[U9,if_neg gT]
       refine U6 (u0 (c:=43) ⟨_,rfl,?_⟩)
       (try dsimp only);rw[U9,if_neg (by rw[er];simp)]
       exact⟨rfl,rfl⟩
      rintro z aR ⟨rfl,rfl⟩
      exact⟨rfl,rfl⟩
     rintro z aR ⟨rfl,rfl⟩
     exact⟨rfl,rfl⟩
    rintro z aR ⟨rfl,rfl⟩
    simp only[D7,E8,V1]
    exact .mk (g-1) (by omega) ⟨rfl,rfl,by omega,hf⟩
 ·rw[if_neg (by simp only[decide_eq_true_eq,hlen];omega)]
  simp only[D7,E8,V1]
  have:l.drop (l.length-g)=[]:=by simp;omega
  rw[this] at hf
  rw[hf] at hq
  exact hq _ aj
end
section
open Go.ChangeShapes Go.WideShapes Go.ChangeAt Go.RowKit Go.Proofs Go.Lib Go.H
def B5C:List (String×DataW Unit):=Rows.brokerNilRow.laid
theorem B7I:B5C=[("unicode/utf8.acceptRanges",Rows.laid_unicode_utf8_acceptRanges),("unicode/utf8.first",Rows.laid_unicode_utf8_first)]:=rfl
noncomputable def B2N(os:Os):World:=
 let w0:=World.doorLaid prog 400 os
 {w0 with heap:=w0.heap.modify 1 fun
   |.cells _ t frozen=>.cells ((List.range 256).map fun c=>Value.int .u8 (firstT c)).toArray t frozen
   |o=>o}
theorem C5r(os:Os)(args:C9O):laidMetH prog B5C ((B2N os).forCall (fun _ _=>0) ⟨#[],args,[]⟩).memory:=
 laidMetH_of_parts3 (fuel:=8) (laidMet_of_run' 8 (by kernel_rfl) (by kernel_rfl)) (by kernel_rfl) (by kernel_rfl)
theorem C4H:U8Extra prog A96 where
 n3:=by kernel_rfl
 n4:=by kernel_rfl
 y3:=by kernel_rfl
 y4:=by kernel_rfl
 c5:=by kernel_rfl
 c119:=by kernel_rfl
 c138:=by kernel_rfl
theorem C4r:(Rows.laid_unicode_utf8_acceptRanges:DataW Unit)=acceptData:=by kernel_rfl
theorem C5G:(Rows.laid_unicode_utf8_first:DataW Unit)=firstData:=Pinned.utf8First_eq
theorem C01{W:World}(h:laidMetH prog B5C W):U8 W.heap:=by
 rw[MakeChecks.laidMetH_plain _ _ _ (by kernel_rfl)] at h
 have h4:=laidMet.reads h (n:= "unicode/utf8.acceptRanges") (d:=Rows.laid_unicode_utf8_acceptRanges) (by rw[B7I];exact B4 ..)
 have h3:=laidMet.reads h (n:= "unicode/utf8.first") (d:=Rows.laid_unicode_utf8_first) (by rw[B7I];exact C3 _ (B4 ..))
 rw[C4r] at h4
 rw[C5G] at h3
 have ht:=utf8Tabs_of_readsT (L:={u8 with}) C4H h3 h4
 exact⟨fun c hc=>ht.1 c hc,fun i hi=>ht.2 i hi⟩
theorem C04{W:World}(h:laidMetH prog B5C W)(oH:W.ShapedOpen prog):TP W.heap:=
 ⟨C01 h,cell_of_shapedOpen_int (t:=3) (zero:=#[.int .i64 0]) oH (of_decide_eq_true (by kernel_rfl)) (by kernel_rfl) rfl (by kernel_rfl) (by kernel_rfl) underlying3⟩
def okB{H:Type}(t:TypeId)(d:DataW H):Prop:=Rows.uptoBulk d≤1048576
theorem B12{H:Type}:∀{l:List (DataW H)} {d:DataW H},d∈l→Rows.uptoBulk d≤Rows.uptoBulkAll l
 |x::l,d,h=>by
  simp only[Rows.uptoBulkAll]
  rcases D3.1 h with rfl|h
  ·omega
  ·have:=B12 h
   omega
theorem C5Y{H:Type}(d:DataW H):1≤Rows.uptoBulk d:=by
 cases d with
 |lit l=>cases l<;>simp[Rows.uptoBulk]
 |_=>simp[Rows.uptoBulk]
theorem C0G{H:Type}:∀(l:List (DataW H)),l.length≤Rows.uptoBulkAll l
 |[]=>D1 _
 |d::l=>by
  have:=C0G l
  have:=C5Y d
  simp only[B8,Rows.uptoBulkAll]
  omega
theorem C2N{H:Type}:Go.R.OkLaw (H:=H) prog okB 1048576 (fun _=>1) where
 str h:=by simp only[okB,Rows.uptoBulk] at h;omega
 elem _ h hd:=by simp only[okB,Rows.uptoBulk] at h⊢;have:=B12 hd;omega
 eT {t e elems rest} _ h:=by simp only[okB,Rows.uptoBulk] at h;have:=C0G elems;omega
 field _ h _ hd:=by simp only[okB,Rows.uptoBulk] at h⊢;have:=B12 (E9 hd);omega
 arr _ h hd:=by simp only[okB,Rows.uptoBulk] at h⊢;have:=B12 hd;omega
section
variable {H:Type} {ec:TypeId×Value→H} {w:World} {base:Nat} {sp:Nat→Bool} {held:Bool} {ok:TypeId→DataW H→Prop} {top:Nat} {wt:TypeId→Nat}
end
end
end Go.Proofs.YtidlldnlphdhcaaGreatDoor
namespace Go.H
section
section
variable {α β γ σ τ:Type} {h:Heap} {s:σ}
theorem cut{m:HM α}{f:α→HM β}{Q:β→Heap→Prop}(P:α→Heap→Prop)(h1:∀K:α→Heap→Prop,(∀a h',P a h'→K a h')→m h K)(h2:∀a h',P a h'→f a h' Q):(HM.bind m f) h Q:=h1 _ h2
theorem B6S{p:Prop}{R:List Asn}{m:PH}(hp:p)(h:A0Q R m):A0Q (pr p::R) m:=by
 refine⟨fun _=>none,m,fun k=>.inl rfl,?_,hp,h⟩
 funext k;rfl
theorem A7m{body:σ→HM (σ⊕τ)}{Q:τ→Heap→Prop}(J:γ→σ→Heap→Prop)(μ:γ→Nat)(g:γ)(h0:J g s h)
  (hr:∀g s h,J g s h→∀K:σ⊕τ→Heap→Prop,(∀g' s' h',μ g'<μ g→J g' s' h'→K (.inl s') h')→(∀t h',Q t h'→K (.inr t) h')→body s h K):HM.loop body s h Q:=by
 classical
 have hex:∀(s:σ) (h:Heap),(∃g,J g s h)→∃n,∃g,J g s h∧μ g=n:=fun s h ⟨g,hg⟩=>⟨μ g,g,hg,rfl⟩
 have key:∀(n:Nat) (s:σ) (h:Heap),(∃g,J g s h∧μ g=n)→∃m,(∃g,J g s h∧μ g=m)∧∀g,J g s h→m≤μ g:=by
  intro n
  induction n using Nat.strongRecOn with
  |_ n ih=>
   intro s h hn
   by_cases hl:∃g,J g s h∧μ g<n
   ·obtain⟨g,hg,ah⟩:=hl
    exact ih _ ah s h ⟨g,hg,rfl⟩
   ·exact⟨n,hn,fun g hg=>by
     rcases S8 (μ g) n with h1|h1
     ·exact absurd ⟨g,hg,h1⟩ hl
     ·exact h1⟩
 refine⟨fun s h=>∃g,J g s h,fun s h=>if hh:∃m,(∃g,J g s h∧μ g=m)∧∀g,J g s h→m≤μ g then Classical.choose hh else 0,⟨g,h0⟩,?_⟩
 intro s h hi
 obtain⟨n,hn⟩:=hex s h hi
 have hm:=key n s h hn
 obtain⟨⟨g,hg,yx⟩,iR⟩:=Q0 hm
 refine hr g s h hg _ (fun g' s' h' ah hJ=>?_) (fun t h' hq=>hq)
 refine⟨⟨g',hJ⟩,?_⟩
 have kW:=key (μ g') s' h' ⟨g',hJ,rfl⟩
 have h2:=(Q0 kW).2 g' hJ
 simp only[dif_pos kW,dif_pos hm]
 omega
theorem B5z{c:σ→Bool}{B E:σ→HM (σ⊕τ)}{Q:τ→Heap→Prop}(n:Nat)(J:Nat→σ→Heap→Prop)(h0:J 0 s h)(hc:∀i s h,i≤n→J i s h→c s=decide (i<n))
  (hE:∀s h,J n s h→∀K:σ⊕τ→Heap→Prop,(∀t h',Q t h'→K (.inr t) h')→E s h K)
  (hB:∀i s h,i<n→J i s h→∀K:σ⊕τ→Heap→Prop,(∀s' h',J (i+1) s' h'→K (.inl s') h')→(∀t h',Q t h'→K (.inr t) h')→B s h K):
  HM.loop (fun s=>A04 (c s) (B s) (E s)) s h Q:=by
 refine A7m (fun i s h=>i≤n∧J i s h) (fun i=>n-i) 0 ⟨D1 _,h0⟩ ?_
 rintro i s h ⟨hi,hJ⟩ K h1 h2
 rw[U9,hc i s h hi hJ]
 by_cases ah:i<n
 ·rw[if_pos (by simpa using ah)]
  exact hB i s h ah hJ K (fun s' h' oY=>h1 (i+1) s' h' (by omega) ⟨ah,oY⟩) h2
 ·have:i=n:=by omega
  subst this
  rw[if_neg (by simp)]
  exact hE s h hJ K h2
variable {KT V:Type} {ek:KT→Value} {ev:V→Value} {m it:Nat} {l:List (KT×V)}
theorem C5p{N:σ→HM (σ⊕τ)}{S:σ→Value×Value→HM (σ⊕τ)}{Q:τ→Heap→Prop}(J:List (KT×V)→σ→List Asn)(h0:sat h (itA ek ev m l it [] l::J [] s))
  (hN:∀done s h,done.Perm l→sat h (mapA ek ev m l::J done s)→∀K:σ⊕τ→Heap→Prop,(∀t h',Q t h'→K (.inr t) h')→N s h K)
  (hS:∀done p rest s h,(done++p::rest).Perm l→sat h (itA ek ev m l it (done++[p]) rest::J done s)→∀K:σ⊕τ→Heap→Prop,
   (∀s' h',sat h' (itA ek ev m l it (done++[p]) rest::J (done++[p]) s')→K (.inl s') h')→(∀t h',Q t h'→K (.inr t) h')→S s (ek p.1,ev p.2) h K):
  HM.loop (fun s=>HM.bind (A6Y it) fun o=>A2r o (N s) (S s)) s h Q:=by
 refine A7m (γ:=List (KT×V)×List (KT×V)) (fun g s h=>(g.1++g.2).Perm l∧sat h (itA ek ev m l it g.1 g.2::J g.1 s)) (fun g=>g.2.length) ([],l) ⟨J3 _,h0⟩ ?_
 rintro⟨done,todo⟩ s h ⟨hp,hs⟩ K h1 h2
 simp only at hp hs
 rw[U1]
 refine B1z hs (fun ht=>?_) (fun p t1 t2 ht h' af=>?_)
 ·subst ht
  rw[C1] at hp
  exact hN done s h hp (A9e hs) K h2
 ·subst ht
  have dp:(done++p::(t1++t2)).Perm l:=by
   refine List.Perm.trans (Q4 done ?_) hp
   exact P8.symm
  refine hS done p (t1++t2) s h' dp af K (fun s' aR nH=>h1 (done++[p],t1++t2) s' aR (by simp) ⟨?_,nH⟩) h2
  simpa using dp
end
end
section
section
variable {α:Type} {enc:α→C9P} {size:Nat} {h h0:Heap} {s:Slc} {xs:List α} {R:List Asn}
theorem C0n(ao:∀x,(enc x).length=size):∀(xs:List α) (i:Nat) (v:Value),(xs.flatMap enc)[i]? =some v→∃q x r,xs[q]? =some x∧(enc x)[r]? =some v∧i=q*size+r
 |[],i,v,h=>by simp at h
 |x::xs,i,v,h=>by
  rw[D8] at h
  rcases S8 i size with hi|hi
  ·rw[List.getElem?_append_left (by rw[ao];exact hi)] at h
   exact⟨0,x,i,rfl,h,by simp⟩
  ·rw[List.getElem?_append_right (by rw[ao];exact hi),ao] at h
   obtain⟨q,y,r,h1,h2,h3⟩:=C0n ao xs _ v h
   exact⟨q+1,y,r,by simpa using h1,h2,by rw[J6];omega⟩
theorem A8X(a:Addr)(m r:Nat):(a.add m).add r=a.add (m+r):=by
 unfold Addr.add
 by_cases h1:m=0<;>by_cases h2:r=0<;>simp[h1,h2,Nat.add_assoc]
theorem C3z(ao:∀x,(enc x).length=size)(hr:Z7 enc size h s xs)(hsz:0<size):A51 h s.a (s.len*size) (xs.flatMap enc).toArray:=by
 unfold A51
 cases ha:s.a with
 |none=>
  cases xs with
  |nil=>rfl
  |cons x xs=>
   obtain⟨a,h1,_⟩:=hr.2.2 0 x rfl
   rw[ha] at h1;cases h1
 |some a=>
  refine⟨by simp[y5 ao,hr.1],fun i v hi=>?_⟩
  obtain⟨q,x,r,h1,h2,rfl⟩:=C0n ao xs i v (by simpa using hi)
  obtain⟨a',h3,h4⟩:=hr.2.2 q x h1
  rw[ha] at h3;cases h3
  have:=h4 r v h2
  rwa[A8X] at this
theorem C0P(ao:∀x,(enc x).length=size)(dr:∀x,∀v∈enc x,v.oneCell'=true){elem:TypeId}{bytes n:Nat}{zero:C9O}(hz:zero.size=size){src:Heap→C9O→Prop}{ys:List α}{Q:Slc→Heap→Prop}
  (hs:sat h R)(hr:Z7 enc size h s xs)(nY:s.cap=s.len)(hn:ys.length=n)(gh:src h (ys.flatMap enc).toArray)(hsz:0<size)(gQ:0<bytes)(h0:0<n)(hb:(xs.length+n)*bytes≤140737488355328)
  (hq:∀s' h',sat h' (U5 enc size s' (xs++ys)::R)→Q s' h'):HM.append elem size bytes zero s n src h Q:=by
 have hl:=hr.1
 have iY:xs.length+n≤140737488355328:=C4 (Nat.le_mul_of_pos_right _ gQ) hb
 constructor
 ·intro hc;omega
 ·intro hc
  refine⟨by omega,growslice_fits hc (by rw[hl];exact hb),(xs.flatMap enc).toArray,_,C3z ao hr hsz,gh,fun c fT _=>hq _ _ ?_⟩
  have ho:(xs.flatMap enc).toArray.size=s.len*size:=by simp[y5 ao,hl]
  refine A1D (o:=0) ⟨by simp,fT,by simp[hl,hn],T4 ?_,?_⟩ hs.bK
  ·simp only[L9,Array.size_append,ho,Builtin.zeroCells,Array.size_map,Array.size_range,hz,List.size_toArray,y5 ao,hn]
   rw[hl,←J8,←J8]
   congr 1
   omega
  ·simp only[Array.toList_append,I6,S9,S4]
   rw[P2 (by simp only[B5,y5 ao];rw[hl,J8,hn];exact D9 _)]
   rw[D6]
   simp only[B5,y5 ao]
   rw[hl,J8,hn]
   exact D9 _
end
end
section
section
variable {α:Type} {enc:α→C9P} {size:Nat} {h:Heap} {s:Slc} {xs:List α} {R:List Asn}
theorem C0m(ao:∀x,(enc x).length=size){j:Nat}{v:Value}(hj:j<size):∀(xs:List α) (i:Nat) (x x':α),xs[i]? =some x→enc x'=(enc x).set j v→(xs.flatMap enc).set (i*size+j) v=(xs.set i x').flatMap enc
 |[],i,x,x',hx,_=>by simp at hx
 |y::xs,0,x,x',hx,he=>by
  simp only[L7,F4] at hx
  subst hx
  rw[List.set_cons_zero,D8,D8,he,S9,L9,List.set_append_left _ _ (by rw[ao];exact hj)]
 |y::xs,i+1,x,x',hx,he=>by
  rw[I9] at hx
  rw[List.set_cons_succ,D8,D8,List.set_append_right _ _ (by rw[ao,J6];omega),ao]
  rw[show(i+1)*size+j-size=i*size+j from by rw[J6];omega,C0m ao hj xs i x x' hx he]
theorem B8S(ao:∀x,(enc x).length=size)(hs:sat h (U5 enc size s xs::R)){i:Nat}{x:α}(hx:xs[i]? =some x){Q:Addr→Heap→Prop}
  (hq:∀p:Addr,(∀j v,(enc x)[j]? =some v→W0 h (p.add j)=some v)→
   (∀(j:Nat) (v:Value) (x':α) (Q':Unit→Heap→Prop),j<size→enc x'=(enc x).set j v→v.oneCell'=true→(∀h',sat h' (U5 enc size s (xs.set i x')::R)→Q' () h')→A6Z (p.add j) v h Q')→Q p h):
  A3W s.a s.len (i:Int) size h Q:=by
 have cK:=(E0.1 hx).1
 rcases A1E hs with⟨-,-,rfl,-⟩|⟨b,o,cs,ho,aa⟩
 ·simp at hx
 have aM:=hs.aO ao
 obtain⟨a,ha,hc⟩:=aM.2.2 i x hx
 have xI:a=⟨b,o*size,none⟩:=by rw[ho.a] at ha;exact(Option.some.inj ha).symm
 subst xI
 refine⟨_,ho.a,Int.natCast_nonneg _,by rw[ho.len];omega,?_⟩
 rw[O2]
 refine hq _ hc fun j v x' Q' hj he hv eh=>?_
 rw[Addr.bM,Addr.bM]
 have ed:o*size+i*size+j<cs.size:=by
  refine Nat.lt_of_lt_of_le ?_ ho.dP
  have h1:(i+1)*size≤s.cap*size:=Q7 _ (by have:=ho.le;have:=ho.len;omega)
  rw[J6] at h1
  rw[J8]
  omega
 refine W7 aa ed hv fun h' af=>eh h' (A1D (b:=b) (o:=o) ⟨ho.a,ho.le,by rw[List.length_set];exact ho.len,by rw[Array.size_setIfInBounds];exact ho.dP,?_⟩ af)
 rw[P7,List.drop_set,if_neg (by omega),List.take_set,ho.front,show o*size+i*size+j-o*size=i*size+j by omega]
 exact C0m ao hj xs i x x' hx he
end
end
section
def At(L:List Asn)(q:Heap→Prop):Prop:=∀h,sat h L→q h
def W{α:Type}(L:List Asn)(m:HM α)(Q:α→Heap→Prop):Prop:=∀h,sat h L→m h Q
def FW(P:Program)(f:FuncId)(args:C9O)(L:List Asn)(Q:Value→Heap→Prop):Prop:=∀h,sat h L→V3 P f args h Q
def Has(L:List Asn)(A:Asn)(L':List Asn):Prop:=∀m,A0Q L m→A0Q (A::L') m
def Sub(L L':List Asn):Prop:=∀m,A0Q L m→A0Q L' m
class Enc {α:Type} (enc:α→C9P) (size:outParam Nat):Prop where
 len:∀x,(enc x).length=size
 cell:∀x,∀v∈enc x,v.oneCell'=true
 pos:0<size
section
variable {A B C D E F:Asn} {L L1 L2 L3 L4 L5 L6 L' R:List Asn} {h:Heap}
theorem nbq{α:Type}[BEq α][LawfulBEq α](a:α):(!(a==a))=false:=by simp
theorem nbd{p:Prop}[Decidable p](hp:p):(!(decide p))=false:=by simp[hp]
theorem V0:Has (A::L) A L:=fun _ hs=>hs
theorem V2(hx:Has L A L'):Has (B::L) A (B::L'):=fun _ hs=>z7 (A0C (fun _ h=>h) hx hs)
theorem Sub.rfl:Sub L L:=fun _ hs=>hs
theorem Sub.nil:Sub L []:=fun _ _=>trivial
theorem Sub.drop(hr:Sub L R):Sub (A::L) R:=fun m hs=>by
 obtain⟨a,b,hd,rfl,ha,hb⟩:=hs
 exact A29.up R (a.join b) b (fun k o ho=>A7s hd ho) (hr b hb)
theorem Sub.cons(hx:Has L A L1)(hr:Sub L1 R):Sub L (A::R):=fun m hs=>A0C (fun _ h=>h) hr (hx m hs)
theorem Has.s(hx:Has L A L')(hs:sat h L):sat h (A::L'):=let⟨m,h1,h2⟩:=hs;⟨m,h1,hx m h2⟩
theorem Sub.s(hx:Sub L L')(hs:sat h L):sat h L':=let⟨m,h1,h2⟩:=hs;⟨m,h1,hx m h2⟩
theorem Has.then(hx:Has L A L1)(hy:Has L1 B L2):Sub L (A::B::L2):=fun m hs=>A0C (fun _ h=>h) hy (hx m hs)
variable {α β:Type} {m:HM α} {Q:α→Heap→Prop} {q:Heap→Prop} {p:Prop}
theorem T6:type_of% @Sub.rfl:=@Sub.rfl
theorem T7:type_of% @Sub.nil:=@Sub.nil
theorem T8:type_of% @Sub.cons:=@Sub.cons
theorem U0:type_of% @Sub.drop:=@Sub.drop
theorem At.sub(hq:At L' q)(hs:Sub L L':=by repeat(first|with_reducible exact T6|with_reducible exact T7|refine T8 (by repeat first|with_reducible exact V0|apply V2) ?_|refine U0 ?_)):At L q:=fun h h1=>hq h (hs.s h1)
theorem W.sub(hq:W L' m Q)(hs:Sub L L':=by repeat(first|with_reducible exact T6|with_reducible exact T7|refine T8 (by repeat first|with_reducible exact V0|apply V2) ?_|refine U0 ?_)):W L m Q:=fun h h1=>hq h (hs.s h1)
theorem A2m{X:Type}{g:X→List Asn→List Asn}(hf:∀h R,sat h (A::R)→∃x,sat h (g x R))(hw:∀x,W (g x L') m Q)(hx:Has L A L':=by repeat first|with_reducible exact V0|apply V2):W L m Q:=fun h hs=>by
 obtain⟨x,h1⟩:=hf h L' (hx.s hs)
 exact hw x h h1
theorem A8Y{X Y:Type}{g:X→Y→List Asn→List Asn}(hf:∀h R,sat h (A::R)→∃x y,sat h (g x y R))(hw:∀x y,W (g x y L') m Q)(hx:Has L A L':=by repeat first|with_reducible exact V0|apply V2):W L m Q:=fun h hs=>by
 obtain⟨x,y,h1⟩:=hf h L' (hx.s hs)
 exact hw x y h h1
theorem A6g{X Y Z:Type}{g:X→Y→Z→List Asn→List Asn}(hf:∀h R,sat h (A::R)→∃x y z,sat h (g x y z R))(hw:∀x y z,W (g x y z L') m Q)(hx:Has L A L':=by repeat first|with_reducible exact V0|apply V2):W L m Q:=fun h hs=>by
 obtain⟨x,y,z,h1⟩:=hf h L' (hx.s hs)
 exact hw x y z h h1
theorem B9j{X:Type}{r:X→Prop}{g:X→List Asn→List Asn}(hf:∀h R,sat h (A::R)→∃x,r x∧sat h (g x R))(hw:∀x,r x→W (g x L') m Q)(hx:Has L A L':=by repeat first|with_reducible exact V0|apply V2):W L m Q:=fun h hs=>by
 obtain⟨x,h0,h1⟩:=hf h L' (hx.s hs)
 exact hw x h0 h h1
theorem C2n(hf:∀h R,sat h (A::R)→sat h (B::C::R))(hw:W (B::C::L') m Q)(hx:Has L A L':=by repeat first|with_reducible exact V0|apply V2):W L m Q:=fun h hs=>hw h (hf h L' (hx.s hs))
theorem B9i(hf:∀h R,sat h (A::R)→sat h (B::R))(hw:W (B::L') m Q)(hx:Has L A L':=by repeat first|with_reducible exact V0|apply V2):W L m Q:=fun h hs=>hw h (hf h L' (hx.s hs))
theorem Y9(hf:∀h R,sat h (A::R)→p)(hw:p→W L m Q)(hx:Has L A L':=by repeat first|with_reducible exact V0|apply V2):W L m Q:=fun h hs=>hw (hf h L' (hx.s hs)) h hs
theorem C7s(mk:∀h,sat h (B::L1)→sat h (A::L1))(hw:W (A::L1) m Q)(hb:Has L B L1:=by repeat first|with_reducible exact V0|apply V2):W L m Q:=fun h hs=>hw h (mk h (hb.s hs))
theorem W.cY(mk:∀h,sat h (B::C::L2)→sat h (A::L2))(hw:W (A::L2) m Q)(hb:Has L B L1:=by repeat first|with_reducible exact V0|apply V2)(hc:Has L1 C L2:=by repeat first|with_reducible exact V0|apply V2):W L m Q:=fun h hs=>hw h (mk h ((hb.then hc).s hs))
theorem Has.cV(hb:Has L B L1)(hc:Has L1 C L2)(hd:Has L2 D L3):Sub L (B::C::D::L3):=fun m hs=>A0C (fun _ h=>h) (hc.then hd) (hb m hs)
theorem Has.eJ(hb:Has L B L1)(hc:Has L1 C L2)(hd:Has L2 D L3)(he:Has L3 E L4):Sub L (B::C::D::E::L4):=fun m hs=>A0C (fun _ h=>h) (hc.cV hd he) (hb m hs)
theorem B19(mk:∀h,sat h (B::C::D::L3)→sat h (A::L3))(hw:W (A::L3) m Q)(hb:Has L B L1:=by repeat first|with_reducible exact V0|apply V2)(hc:Has L1 C L2:=by repeat first|with_reducible exact V0|apply V2)(hd:Has L2 D L3:=by repeat first|with_reducible exact V0|apply V2):W L m Q:=fun h hs=>hw h (mk h ((hb.cV hc hd).s hs))
theorem B0J(mk:∀h,sat h (B::C::D::E::L4)→sat h (A::L4))(hw:W (A::L4) m Q)(hb:Has L B L1:=by repeat first|with_reducible exact V0|apply V2)(hc:Has L1 C L2:=by repeat first|with_reducible exact V0|apply V2)(hd:Has L2 D L3:=by repeat first|with_reducible exact V0|apply V2)(he:Has L3 E L4:=by repeat first|with_reducible exact V0|apply V2):W L m Q:=fun h hs=>hw h (mk h ((hb.eJ hc hd he).s hs))
variable {f:α→HM β} {Q':β→Heap→Prop} {b:Bool} {x y:HM β}
theorem U2{a:α}(hq:At L (Q a)):W L (W9 a) Q:=hq
theorem b6{a:α}(hw:W L (f a) Q'):W L (HM.bind (W9 a) f) Q':=hw
theorem X3{γ:Type}{m:HM γ}{g:γ→HM α}(hw:W L (HM.bind m fun x=>HM.bind (g x) f) Q'):W L (HM.bind (HM.bind m g) f) Q':=hw
theorem A0i(ht:b=true→W L x Q')(hf:b=false→W L y Q'):W L (A04 b x y) Q':=fun h hs=>by
 rw[U9];cases b
 ·exact hf (Eq.refl _) h hs
 ·exact ht (Eq.refl _) h hs
theorem X6(hb:b=true)(hw:W L x Q'):W L (A04 b x y) Q':=by subst hb;exact hw
theorem W6(hb:b=false)(hw:W L y Q'):W L (A04 b x y) Q':=by subst hb;exact hw
theorem C8t{u v:HM α}(ht:b=true→W L (HM.bind u f) Q')(hf:b=false→W L (HM.bind v f) Q'):W L (HM.bind (A04 b u v) f) Q':=fun h hs=>by
 rw[U1,U9];cases b
 ·exact hf (Eq.refl _) h hs
 ·exact ht (Eq.refl _) h hs
theorem A1k{u v:HM α}(hb:b=true)(hw:W L (HM.bind u f) Q'):W L (HM.bind (A04 b u v) f) Q':=by subst hb;exact hw
theorem o0{u v:HM α}(hb:b=false)(hw:W L (HM.bind v f) Q'):W L (HM.bind (A04 b u v) f) Q':=by subst hb;exact hw
theorem A1p(hw:W L x Q')(hp:p):W L (A3t p x) Q':=fun h hs=>⟨hp,hw h hs⟩
theorem W.inl{γ δ:Type}{u:γ→HM β}{v:δ→HM β}{a:γ}(hw:W L (u a) Q'):W L (Sum.elim u v (Sum.inl a)) Q':=hw
theorem W.inr{γ δ:Type}{u:γ→HM β}{v:δ→HM β}{a:δ}(hw:W L (v a) Q'):W L (Sum.elim u v (Sum.inr a)) Q':=hw
theorem A7Q(h1:W L x Q')(h2:W L y Q'):W L (A0G x y) Q':=fun h hs=>⟨h1 h hs,h2 h hs⟩
theorem W4{a:Addr}{f:Addr→HM β}(hw:W L (f a) Q'):W L (HM.bind (A77 (some a)) f) Q':=fun h hs=>by rw[U1,C9k];exact hw h hs
theorem W.cut(P:α→List Asn)(h1:∀K:α→Heap→Prop,(∀a,At (P a) (K a))→W L m K)(h2:∀a,W (P a) (f a) Q'):W L (HM.bind m f) Q':=fun h hs=>h1 (fun a h'=>f a h' Q') (fun a h' af=>h2 a h' af) h hs
theorem C4s(p:α→Prop)(P:α→List Asn)(h1:∀K:α→Heap→Prop,(∀a,p a→At (P a) (K a))→W L m K)(h2:∀a,p a→W (P a) (f a) Q'):W L (HM.bind m f) Q':=fun h hs=>h1 (fun a h'=>f a h' Q') (fun a hp h' af=>h2 a hp h' af) h hs
theorem A02(p:α→Prop)(h1:∀K:α→Heap→Prop,(∀a,p a→At L (K a))→W L m K)(h2:∀a,p a→W L (f a) Q'):W L (HM.bind m f) Q':=C4s p (fun _=>L) h1 h2
theorem C8u{X:Type}(p:X→α→Prop)(P:X→α→List Asn)(h1:∀K:α→Heap→Prop,(∀x a,p x a→At (P x a) (K a))→W L m K)(h2:∀x a,p x a→W (P x a) (f a) Q'):W L (HM.bind m f) Q':=fun h hs=>h1 (fun a h'=>f a h' Q') (fun x a hp h' af=>h2 x a hp h' af) h hs
theorem Y1{f:Nat→HM β}{cs:C9O}{T:TypeId}(hw:∀b,W (cells b cs::L) (f b) Q'):W L (HM.bind (HM.new (.cells cs T)) f) Q':=fun h hs=>V5 hs fun b h' af=>hw b h' af
theorem C8w{K V:Type}{ek:K→Value}{ev:V→Value}{f:Nat→HM β}(hw:∀b,W (mapA ek ev b []::L) (f b) Q'):W L (HM.bind (HM.new (.map #[] 0)) f) Q':=fun h hs=>A7i hs fun b h' af=>hw b h' af
theorem W.load{t:Tag}{b i:Nat}{cs:C9O}{v:t.ty}{f:t.ty→HM β}(hw:W L (f v) Q')(hx:Has L (cells b cs) L':=by repeat first|with_reducible exact V0|apply V2)(hv:(cs[i]?).bind t.get=some v:=by rfl):W L (HM.bind (l6 t (Addr.add ⟨b,0,none⟩ i)) f) Q':=fun h hs=>by
 refine⟨v,?_,hw h hs⟩
 rw[U3,(hx.s hs).cell i]
 cases hc:cs[i]? with
 |none=>rw[hc] at hv;cases hv
 |some u=>rw[hc] at hv;exact congrArg some (Tag.bS hv)
theorem B4u{t:Tag}{b:Nat}{cs:C9O}{v:t.ty}{f:t.ty→HM β}(hw:W L (f v) Q')(hx:Has L (cells b cs) L':=by repeat first|with_reducible exact V0|apply V2)(hv:(cs[0]?).bind t.get=some v:=by rfl):W L (HM.bind (l6 t ⟨b,0,none⟩) f) Q':=by
 have:=W.load (i:=0) (f:=f) hw hx hv
 exact this
theorem e8{t:Tag}{a:Addr}{b i:Nat}{cs:C9O}{v:t.ty}{f:t.ty→HM β}(hw:W L (f v) Q')(ha:a=⟨b,i,none⟩:=by rfl)(hx:Has L (cells b cs) L':=by repeat first|with_reducible exact V0|apply V2)(hv:(cs[i]?).bind t.get=some v:=by rfl):W L (HM.bind (l6 t a) f) Q':=fun h hs=>by
 subst ha
 refine⟨v,?_,hw h hs⟩
 rw[(hx.s hs).cell i]
 cases hc:cs[i]? with
 |none=>rw[hc] at hv;cases hv
 |some u=>rw[hc] at hv;exact congrArg some (Tag.bS hv)
theorem r7{ts:List Tag}{b:Nat}{cs:C9O}{v:Tup ts}{f:Tup ts→HM β}(hw:W L (f v) Q')(hx:Has L (cells b cs) L':=by repeat first|with_reducible exact V0|apply V2)(hv:Tup.get ts cs.toList=some v:=by rfl):W L (HM.bind (o3 ts ⟨b,0,none⟩) f) Q':=fun h hs=>
 Y5 v (hx.s hs) (I3.1 (Tup.bJ ts _ v hv)) (hw h hs)
theorem A7R{ts:List Tag}{b i:Nat}{cs:C9O}{v:Tup ts}{f:Tup ts→HM β}(hw:W L (f v) Q')(hx:Has L (Go.H.cells b cs) L':=by repeat first|with_reducible exact V0|apply V2)(hv:Tup.get ts ((cs.toList.drop i).take ts.length)=some v:=by rfl):W L (HM.bind (o3 ts (Addr.add ⟨b,0,none⟩ i)) f) Q':=fun h hs=>by
 refine⟨v,fun j u hu=>?_,hw h hs⟩
 rw[←Tup.bJ ts _ v hv,M0] at hu
 split at hu
 ·rw[N8] at hu
  rw[U3,Addr.bM,(hx.s hs).cell]
  simpa using hu
 ·cases hu
theorem A4j{a:Addr}{b i:Nat}{cs cs':C9O}{v:Value}{f:Unit→HM β}(hw:W (Go.H.cells b cs'::L') (f ()) Q')(ha:a=⟨b,i,none⟩:=by rfl)(hx:Has L (Go.H.cells b cs) L':=by repeat first|with_reducible exact V0|apply V2)(hc:(if i<cs.size then cs.toList.set i v else[])=cs'.toList:=by rfl)(hn:0<cs'.size:=by exact Nat.zero_lt_succ _)(hv:v.oneCell'=true:=by rfl):W L (HM.bind (A6Z a v) f) Q':=fun h hs=>by
 subst ha
 rw[U1]
 by_cases hi:i<cs.size
 ·rw[if_pos hi] at hc
  refine W7 (hx.s hs) hi hv fun h' af=>hw h' ?_
  have:cs'=cs.setIfInBounds i v:=by
   apply I3.1;rw[←hc,P7]
  rw[this];exact af
 ·rw[if_neg hi] at hc
  have:=congrArg List.length hc
  simp at this
  omega
theorem W.store{b i:Nat}{cs cs':C9O}{v:Value}{f:Unit→HM β}(hw:W (cells b cs'::L') (f ()) Q')(hx:Has L (cells b cs) L':=by repeat first|with_reducible exact V0|apply V2)(hc:(if i<cs.size then cs.toList.set i v else[])=cs'.toList:=by rfl)(hn:0<cs'.size:=by exact Nat.zero_lt_succ _)(hv:v.oneCell'=true:=by rfl):W L (HM.bind (A6Z (Addr.add ⟨b,0,none⟩ i) v) f) Q':=fun h hs=>by
 rw[U1,U3]
 by_cases hi:i<cs.size
 ·rw[if_pos hi] at hc
  refine W7 (hx.s hs) hi hv fun h' af=>hw h' ?_
  have:cs'=cs.setIfInBounds i v:=by
   apply I3.1;rw[←hc,P7]
  rw[this];exact af
 ·rw[if_neg hi] at hc
  have:=congrArg List.length hc
  simp at this
  omega
theorem y8{b:Nat}{cs:C9O}{vs:C9P}{f:Unit→HM β}(hw:W (cells b vs.toArray::L') (f ()) Q')(hx:Has L (cells b cs) L':=by repeat first|with_reducible exact V0|apply V2)(hl:vs.length=cs.size:=by rfl)(hv:vs.all (fun v=>v.oneCell')=true:=by rfl):W L (HM.bind (A94 ⟨b,0,none⟩ vs) f) Q':=fun h hs=>
 l5 (hx.s hs) hl hv fun h' af=>hw h' af
theorem W.cells{b:Nat}{cs:C9O}(cs':C9O)(hw:W (cells b cs'::L') m Q)(hx:Has L (Go.H.cells b cs) L':=by repeat first|with_reducible exact V0|apply V2)(hc:cs=cs':=by rfl):W L m Q:=by subst hc;exact W.sub hw (fun m hs=>hx m hs)
theorem j1{P:Program}{k:Kind}{fn:FuncId}{args:C9O}{f:k.ty→HM β}(hc:FW P fn args L (k.un fun x h'=>f x h' Q')):W L (HM.bind (A1s P k fn args) f) Q':=hc
theorem Z1{P:Program}{ks:List Kind}{fn:FuncId}{args:C9O}{f:q9 ks→HM β}(hc:FW P fn args L (q9.un ks fun x h'=>f x h' Q')):W L (HM.bind (s7 P ks fn args) f) Q':=hc
theorem At.un{k:Kind}{v:Value}{x:k.ty}{f:k.ty→HM β}(hw:W L (f x) Q')(hv:k.get v=some x:=by rfl):At L (k.un (fun x h'=>f x h' Q') v):=fun h hs=>⟨x,Kind.bS hv,hw h hs⟩
def unT(v:Value):C9P:=match v with|.tuple a=>a.toList|_=>[]
def isT(v:Value):Bool:=match v with|.tuple a=>true|_=>false
theorem At.bD{ks:List Kind}{v:Value}{x:q9 ks}{f:q9 ks→HM β}(hw:W L (f x) Q')(hv:q9.get ks (unT v)=some x:=by rfl)(ht:isT v=true:=by rfl):At L (q9.un ks (fun x h'=>f x h' Q') v):=fun h hs=>by
 refine⟨x,?_,hw h hs⟩
 cases v with
 |tuple a=>exact congrArg Value.tuple (I3.1 (q9.bJ ks _ x hv))
 |_=>cases ht
section
variable {γ:Type} {enc:γ→C9P} {size:Nat} {s:Slc} {xs:List γ} {h0:Heap}
def El(s:Slc)(size i:Nat)(a:Addr):Prop:=∃x,s.a=some x∧a=x.add (i*size)
def ElO(h0:Heap)(l:C9P)(a:Addr):Prop:=∀j v,l[j]? =some v→W0 h0 (a.add j)=some v
theorem El.row(hr:Z7 enc size h0 s xs){i:Nat}{x:γ}(hi:xs[i]? =some x){a:Addr}(ha:El s size i a):ElO h0 (enc x) a:=by
 obtain⟨y,h1,rfl⟩:=ha
 obtain⟨a,h2,h3⟩:=hr.2.2 i x hi
 rw[h1] at h2
 cases h2
 exact h3
theorem j4{i:Nat}{e:Int}{f:Addr→HM β}(hi:i<xs.length)(hw:∀a,El s size i a→W L (f a) Q')(hx:Has L (U5 enc size s xs) L':=by repeat first|with_reducible exact V0|apply V2)(he:e=(i:Int):=by rfl)[Enc enc size]:W L (HM.bind (A3W s.a s.len e size) f) Q':=fun h hs=>by
 have hr:=(hx.s hs).aO (Enc.len (enc:=enc))
 obtain⟨a,ha,hc⟩:=hr.2.2 i _ (B0 hi)
 refine⟨a,ha,by omega,by have:=hr.1;omega,?_⟩
 subst he
 exact hw _ ⟨a,ha,by rw[O2]⟩ h hs
theorem A7P{i:Nat}{e:Int}{f:Addr→HM β}(hr:Z7 enc size h0 s xs)(hi:i<xs.length)(hw:∀a,El s size i a→W L (f a) Q')(he:e=(i:Int):=by rfl):W L (HM.bind (A3W s.a s.len e size) f) Q':=fun h hs=>by
 obtain⟨a,ha,hc⟩:=hr.2.2 i _ (B0 hi)
 refine⟨a,ha,by omega,by have:=hr.1;omega,?_⟩
 subst he
 exact hw _ ⟨a,ha,by rw[O2]⟩ h hs
theorem A4r{t:Tag}{i k:Nat}{a:Addr}{x:γ}{v:t.ty}{f:t.ty→HM β}(ha:El s size i a)(hi:xs[i]? =some x)(hw:W L (f v) Q')(hx:Has L (U5 enc size s xs) L':=by repeat first|with_reducible exact V0|apply V2)(hv:((enc x)[k]?).bind t.get=some v:=by rfl)[Enc enc size]:W L (HM.bind (l6 t (Addr.add a k)) f) Q':=fun h hs=>by
 have:=ha.row ((hx.s hs).aO (Enc.len (enc:=enc))) hi
 cases hc:(enc x)[k]? with
 |none=>rw[hc] at hv;cases hv
 |some u=>
  rw[hc] at hv
  exact⟨v,by rw[this k u hc];exact congrArg some (Tag.bS hv),hw h hs⟩
theorem B6F{t:Tag}{i:Nat}{a:Addr}{x:γ}{v:t.ty}{f:t.ty→HM β}(ha:El s size i a)(hi:xs[i]? =some x)(hw:W L (f v) Q')(hx:Has L (U5 enc size s xs) L':=by repeat first|with_reducible exact V0|apply V2)(hv:((enc x)[0]?).bind t.get=some v:=by rfl)[Enc enc size]:W L (HM.bind (l6 t a) f) Q':=by
 have:=A4r (k:=0) (f:=f) ha hi hw hx hv
 rwa[add_zero] at this
theorem B3d{ts:List Tag}{i:Nat}{a:Addr}{x:γ}{v:Tup ts}{f:Tup ts→HM β}(ha:El s size i a)(hi:xs[i]? =some x)(hw:W L (f v) Q')(hx:Has L (U5 enc size s xs) L':=by repeat first|with_reducible exact V0|apply V2)(hv:Tup.get ts (enc x)=some v:=by rfl)[Enc enc size]:W L (HM.bind (o3 ts a) f) Q':=fun h hs=>by
 have:=ha.row ((hx.s hs).aO (Enc.len (enc:=enc))) hi
 refine⟨v,fun j u hu=>?_,hw h hs⟩
 rw[←Tup.bJ ts _ v hv] at hu
 exact this j u hu
theorem C6f{t:Tag}{i k:Nat}{a:Addr}{x:γ}{v:t.ty}{f:t.ty→HM β}(hr:Z7 enc size h0 s xs)(ha:El s size i a)(hi:xs[i]? =some x)(hw:W L (f v) Q')(hx:Has L (old h0) L':=by repeat first|with_reducible exact V0|apply V2)(hv:((enc x)[k]?).bind t.get=some v:=by rfl):W L (HM.bind (l6 t (Addr.add a k)) f) Q':=fun h hs=>by
 have:=ha.row hr hi
 cases hc:(enc x)[k]? with
 |none=>rw[hc] at hv;cases hv
 |some u=>
  rw[hc] at hv
  exact⟨v,by rw[(hx.s hs).bY (this k u hc)];exact congrArg some (Tag.bS hv),hw h hs⟩
theorem C7a{t:Tag}{i:Nat}{a:Addr}{x:γ}{v:t.ty}{f:t.ty→HM β}(hr:Z7 enc size h0 s xs)(ha:El s size i a)(hi:xs[i]? =some x)(hw:W L (f v) Q')(hx:Has L (old h0) L':=by repeat first|with_reducible exact V0|apply V2)(hv:((enc x)[0]?).bind t.get=some v:=by rfl):W L (HM.bind (l6 t a) f) Q':=by
 have:=C6f (k:=0) (f:=f) hr ha hi hw hx hv
 rwa[add_zero] at this
theorem B4v{ts:List Tag}{i:Nat}{a:Addr}{x:γ}{v:Tup ts}{f:Tup ts→HM β}(hr:Z7 enc size h0 s xs)(ha:El s size i a)(hi:xs[i]? =some x)(hw:W L (f v) Q')(hx:Has L (old h0) L':=by repeat first|with_reducible exact V0|apply V2)(hv:Tup.get ts (enc x)=some v:=by rfl):W L (HM.bind (o3 ts a) f) Q':=fun h hs=>by
 have:=ha.row hr hi
 refine⟨v,fun j u hu=>?_,hw h hs⟩
 rw[←Tup.bJ ts _ v hv] at hu
 exact(hx.s hs).bY (this j u hu)
theorem C6d{cs:C9O}{T elem:TypeId}{bytes:Nat}{zero:C9O}{f:Slc→HM β}(x:γ)(hw:∀s',W (U5 enc size s' (xs++[x])::L') (f s') Q')(hb:(xs.length+1)*bytes≤140737488355328)(hx:Has L (U5 enc size s xs) L':=by repeat first|with_reducible exact V0|apply V2)(hc:cs=(enc x).toArray:=by rfl)(hz:zero.size=size:=by rfl)(gQ:0<bytes:=by decide)[Enc enc size]:
  W L (HM.bind (HM.new (.cells cs T)) fun b=>HM.bind (HM.append elem size bytes zero s 1 (V6 size ⟨some ⟨b,0,none⟩,1,1⟩)) f) Q':=fun h hs=>by
 subst hc
 exact A06 (T:=T) (elem:=elem) (x:=x) (Enc.len (enc:=enc)) (Enc.cell (enc:=enc)) hz (hx.s hs) (Enc.pos enc) gQ hb fun s' h' af=>hw s' h' af
theorem A9I{b:Nat}{cs:C9O}{elem:TypeId}{bytes:Nat}{zero:C9O}{f:Slc→HM β}(x:γ)(hw:∀s',W (U5 enc size s' (xs++[x])::L2) (f s') Q')(hb:(xs.length+1)*bytes≤140737488355328)(hx:Has L (U5 enc size s xs) L':=by repeat first|with_reducible exact V0|apply V2)(hy:Has L' (Go.H.cells b cs) L2:=by repeat first|with_reducible exact V0|apply V2)(hc:cs=(enc x).toArray:=by rfl)(hz:zero.size=size:=by rfl)(gQ:0<bytes:=by decide)[Enc enc size]:
  W L (HM.bind (HM.append elem size bytes zero s 1 (V6 size ⟨some ⟨b,0,none⟩,1,1⟩)) f) Q':=fun h hs=>by
 subst hc
 have h1:=(hx.then hy).s hs
 rw[U1]
 refine A0d (ys:=[x]) (Enc.len (enc:=enc)) (Enc.cell (enc:=enc)) hz h1 rfl ?_ (Enc.pos enc) gQ hb fun s' h2 ae=>hw s' h2 (ae.p1.drop)
 simp only[V6,N5,D8,H9,C1]
 exact h1.p1.reads (by simp[Enc.len (enc:=enc)])
theorem Y0:∀h R,sat h (U5 enc size s xs::R)→s.len=xs.length:=fun h R hs=>hs.aW
theorem A4L(enc:γ→C9P)(size:Nat)(hw:W (U5 enc size ⟨none,0,0⟩ ([]:List γ)::L) m Q):W L m Q:=fun h hs=>hw h (Z3 hs)
theorem B67(enc:γ→C9P)(size:Nat)(xs:List γ)(hw:W (U5 enc size ⟨none,0,0⟩ xs::L) m Q)(he:xs=[]:=by rfl):W L m Q:=by subst he;exact A4L enc size hw
theorem C29{n:Nat}{e:Int}{f:Slc→HM β}(hr:Z7 enc size h0 s xs)(hn:n≤xs.length)(hw:∀s',Z7 enc size h0 s' (xs.take n)→W L (f s') Q')(he:e=(n:Int):=by rfl):W L (HM.bind (HM.slice s none (some e) none size) f) Q':=fun h hs=>by
 subst he
 exact B2h hr hn fun s' dw=>hw s' dw h hs
theorem C9d{lo hi:Nat}{ol oh:Option Int}{f:Slc→HM β}(h1:lo≤hi)(h2:hi≤xs.length)(hw:∀s',W (U5 enc size s' ((xs.take hi).drop lo)::L') (f s') Q')(e1:A36 ol (lo=0) lo hi)(e2:∀c,hi≤c→s.len=xs.length→A36 oh (hi=s.len) hi c)(hx:Has L (U5 enc size s xs) L':=by repeat first|with_reducible exact V0|apply V2)[Enc enc size]:W L (HM.bind (HM.slice s ol oh none size) f) Q':=fun h hs=>by
 have aa:=hx.s hs
 have:=aa.aW
 have:=aa.eC
 exact B2i (mx:=none) aa (Enc.len (enc:=enc)) h1 h2 e1 (e2 _ (by omega) (by omega)) fun s' h'=>hw s' h h'
end
section
variable {K V:Type} [DecidableEq K] {ek:K→Value}
theorem W.lookup{kd:A2y}{kind:Kind}{z:kind.ty}{zero:Value}{r:Nat}{l:List (K×kind.ty)}{key:Value}{f:kind.ty×Bool→HM β}(hk:KeyLaw kd ek)(k:K)(hw:W L (f ((W3 l k).getD z,(W3 l k).isSome)) Q')(hx:Has L (mapA ek kind.val r l) L':=by repeat first|with_reducible exact V0|apply V2)(he:key=ek k:=by rfl)(hz:kind.get zero=some z:=by rfl):W L (HM.bind (HM.lookup kd zero kind (some r) key) f) Q':=fun h hs=>by
 subst he
 exact u7 hk (Kind.bS hz) (hx.s hs) (hw h hs)
theorem W.mset{kd:A2y}{ev:V→Value}{r:Nat}{l:List (K×V)}{key val:Value}{f:Unit→HM β}(hk:KeyLaw kd ek)(gN:∀a b,ek a=ek b→a=b)(k:K)(v:V)(hw:W (mapA ek ev r (Go.H.mset l k v)::L') (f ()) Q')(hx:Has L (mapA ek ev r l) L':=by repeat first|with_reducible exact V0|apply V2)(he:key=ek k:=by rfl)(hv:val=ev v:=by rfl):W L (HM.bind (A2Z kd (some r) key val) f) Q':=fun h hs=>by
 subst he hv
 exact A4A hk gN (hx.s hs) fun h' af=>hw h' af
theorem W.mdel{kd:A2y}{ev:V→Value}{r:Nat}{l:List (K×V)}{key:Value}{f:Unit→HM β}(hk:KeyLaw kd ek)(k:K)(hw:W (mapA ek ev r (Go.H.mdel l k)::L') (f ()) Q')(hx:Has L (mapA ek ev r l) L':=by repeat first|with_reducible exact V0|apply V2)(he:key=ek k:=by rfl):W L (HM.bind (A5V kd (some r) key) f) Q':=fun h hs=>by
 subst he
 exact A5Q hk (hx.s hs) fun h' af=>hw h' af
omit [DecidableEq K] in
theorem C6c{ev:V→Value}{r:Nat}{l:List (K×V)}{f:Int→HM β}(hw:W L (f (l.length:Int)) Q')(hx:Has L (mapA ek ev r l) L':=by repeat first|with_reducible exact V0|apply V2):W L (HM.bind (A5W (some r)) f) Q':=fun h hs=>A9a (hx.s hs) (hw h hs)
end
theorem C3d{P:Program}{fn:FuncId}{args:C9O}{v:Value}{Q:Value→Heap→Prop}(hf:∀h0,sat h0 L→∀Q':Value→Heap→Prop,At [old h0] (Q' v)→FW P fn args [old h0] Q')(hq:At L (Q v)):FW P fn args L Q:=fun h hs=>
 hf h hs Q (fun h' af=>hq h' (hs.grow fun k o ho=>af.dN ho)) h (sat_old h)
section
variable {σ τ γ:Type} {s:σ} {body:σ→HM (σ⊕τ)} {f:τ→HM β}
theorem W.loop(I:γ→σ→Prop)(J:γ→σ→List Asn)(μ:γ→Nat)(g:γ)(h0:I g s)(hL:Sub L (J g s))
  (hr:∀g s,I g s→∀K:σ⊕τ→Heap→Prop,(∀g' s',μ g'<μ g→I g' s'→At (J g' s') (K (.inl s')))→(∀t L,W L (f t) Q'→At L (K (.inr t)))→W (J g s) (body s) K):
  W L (HM.bind (HM.loop body s) f) Q':=fun h hs=>by
 rw[U1]
 refine A7m (γ:=γ) (fun g s h=>I g s∧sat h (J g s)) μ g ⟨h0,hL.s hs⟩ ?_
 rintro g s h ⟨hI,hJ⟩ K h1 h2
 exact hr g s hI K (fun g' s' hm qX h' af=>h1 g' s' h' hm ⟨qX,af⟩) (fun t L hw h' af=>h2 t h' (hw h' af)) h hJ
theorem B31{c:σ→Bool}{B E:σ→HM (σ⊕τ)}(n:Nat)(I:Nat→σ→Prop)(J:Nat→σ→List Asn)(h0:I 0 s)(hL:Sub L (J 0 s))(hc:∀i s,i≤n→I i s→c s=decide (i<n))
  (hE:∀s,I n s→∀K:σ⊕τ→Heap→Prop,(∀t L,W L (f t) Q'→At L (K (.inr t)))→W (J n s) (E s) K)
  (hB:∀i s,i<n→I i s→∀K:σ⊕τ→Heap→Prop,(∀s',I (i+1) s'→At (J (i+1) s') (K (.inl s')))→(∀t L,W L (f t) Q'→At L (K (.inr t)))→W (J i s) (B s) K):
  W L (HM.bind (HM.loop (fun s=>A04 (c s) (B s) (E s)) s) f) Q':=fun h hs=>by
 rw[U1]
 refine B5z n (fun i s h=>I i s∧sat h (J i s)) ⟨h0,hL.s hs⟩ (fun i s h hi hJ=>hc i s hi hJ.1) (fun s h hJ K hd=>?_) (fun i s h ah hJ K bx hd=>?_)
 ·exact hE s hJ.1 K (fun t L hw h' af=>hd t h' (hw h' af)) h hJ.2
 ·exact hB i s ah hJ.1 K (fun s' qX h' af=>bx s' h' ⟨qX,af⟩) (fun t L hw h' af=>hd t h' (hw h' af)) h hJ.2
end
end
end
end Go.H
namespace Go.Proofs.YtidlldnlphdhcaaGreatDoor
open Go.H
open Go.Proofs.Tryz
open Go.H Go.Proofs
structure s6 where
 most:Int
 taken:Int
 used:List Int
structure s6.ok(s:s6):Prop where
 fN:1≤s.most
 cP:s.most≤64
 cN:0≤s.taken
 dO:s.taken≤65535
 len:(s.used.length:Int)≤s.most
 nodup:s.used.Nodup
 range:∀k∈s.used,1≤k∧k≤65535
def nxt(t:Int):Int:=t % 65535+1
inductive Reach (used:List Int):Nat→Int→Int→Prop
 |here {t:Int}:nxt t∉used→Reach used 0 t (nxt t)
 |on {n:Nat} {t u:Int}:nxt t∈used→Reach used n (nxt t) u→Reach used (n+1) t u
def A4i(l:List Int):List (Int×Bool):=l.map fun k=>(k,true)
theorem A7j(l:List Int)(k:Int):W3 (A4i l) k=if k∈l then some true else none:=by
 induction l with
 |nil=>rfl
 |cons a l ih=>
  simp only[A4i,B6] at ih⊢
  rw[Y4,ih]
  by_cases h:a=k
  ·simp[h]
  ·simp[h,Ne.symm h]
theorem B5r(l:List Int)(k:Int)(h:k∉l):mset (A4i l) k true=A4i (l++[k]):=by
 rw[A2R _ _ _ (by rw[A7j,if_neg h])]
 simp[A4i]
theorem C1B(l:List Int)(k:Int):mdel (A4i l) k=A4i (l.erase k):=by
 induction l with
 |nil=>rfl
 |cons a l ih=>
  simp only[A4i,B6,mdel] at ih⊢
  by_cases h:a=k
  ·simp[h]
  ·rw[if_neg h,ih,List.erase_cons_tail (by simpa using h)]
   simp
def A1q(b:Nat)(s:s6):Asn:=exA fun m=>star (pr s.ok) (star (cells b #[.int .i64 s.most,.int .i64 s.taken,.map (some m)]) (mapA (fun n:Int=>.int .i64 n) (Kind.val (.one .bool)) m (A4i s.used)))
theorem A0U{h:Heap}{b:Nat}{s:s6}{R:List Asn}:sat h (A1q b s::R)↔
  ∃m,s.ok∧sat h (cells b #[.int .i64 s.most,.int .i64 s.taken,.map (some m)]::mapA (fun n:Int=>.int .i64 n) (Kind.val (.one .bool)) m (A4i s.used)::R):=by
 unfold A1q
 rw[sat.bA]
 constructor
 ·rintro⟨m,hs⟩
  rw[sat.aI,sat.bC,sat.aI] at hs
  exact⟨m,hs⟩
 ·rintro⟨m,h1,hs⟩
  exact⟨m,by rw[sat.aI,sat.bC,sat.aI];exact⟨h1,hs⟩⟩
abbrev kI:=B8O .i64
abbrev at0(b:Nat):Value:=.pointer (some ⟨b,0,none⟩)
theorem C0U{h:Heap}{R:List Asn}(hs:sat h R)(most:Int){Q:Value→Heap→Prop}
  (hq:∀b h',sat h' (A1q b ⟨max 1 (min most 64),0,[]⟩::R)→Q (at0 b) h'):V3 prog 167 #[.int .i64 most] h Q:=by
 refine B6W most h Q ?_
 delta C2X az bn nw pu vi
 simp only[U1]
 refine A7i (ek:=fun n:Int=>Value.int .i64 n) (ev:=Kind.val (.one .bool)) hs fun m h1 aa=>?_
 refine V5 aa fun b h2 ae=>?_
 simp only[V1]
 refine hq b h2 (A0U.2 ⟨m,⟨?_,?_,?_,?_,?_,?_,?_⟩,?_⟩)
 all_goals try(simp;done)
 all_goals try(simp;omega)
 have e:(if 1<(if 64<most then(64:Int) else most) then(if 64<most then 64 else most) else 1)=max 1 (min most 64):=by
  split<;>split<;>omega
 rw[e] at ae
 exact ae
theorem B3f{h:Heap}{R:List Asn}{b:Nat}{s:s6}(hs:sat h (A1q b s::R)){Q:Value→Heap→Prop}
  (hq:Q (.int .i64 (s.most-s.used.length)) h):V3 prog 209 #[at0 b] h Q:=by
 refine A9D _ h Q ?_
 obtain⟨m,ag,hs⟩:=A0U.1 hs
 have c0:W0 h ⟨b,0,none⟩=some (.int .i64 s.most):=hs.cell 0
 have c2:W0 h ⟨b,2,none⟩=some (.map (some m)):=hs.cell 2
 delta A9Z bn ie ki km nn pu wi
 simp[c0,c2]
 refine A9a hs.p1 ?_
 have:=ag.len;have:=ag.cP
 rw[V8 (by simp[A4i];omega) (by simp[A4i];omega)]
 simpa[A4i] using hq
theorem C1y{s:s6}(h:s.ok){k:Int}(h1:1≤k)(h2:k≤65535)(hn:k∉s.used)(hl:(s.used.length:Int)<s.most){t:Int}(t0:0≤t)(t1:t≤65535):s6.ok ⟨s.most,t,s.used++[k]⟩:=by
 refine⟨h.fN,h.cP,t0,t1,by simp;omega,?_,?_⟩
 ·rw[G1]
  refine⟨h.nodup,by simp,?_⟩
  rintro a ha b hb rfl
  simp at hb
  subst hb
  exact hn ha
 ·intro a ha
  simp at ha
  rcases ha with ha|rfl
  ·exact h.range a ha
  ·exact⟨h1,h2⟩
theorem C5c{s:s6}(h:s.ok)(k:Int):s6.ok ⟨s.most,s.taken,s.used.erase k⟩:=by
 refine⟨h.fN,h.cP,h.cN,h.dO,?_,h.nodup.erase k,fun a ha=>h.range a (List.mem_of_mem_erase ha)⟩
 have:=List.length_erase_le (a:=k) (l:=s.used)
 have:=h.len
 simp only
 omega
def i6(s:s6)(k:Int):Int:=
 if k<1∨65535<k then 129 else if k∈s.used then 145 else if(s.used.length:Int)=s.most then 147 else 0
theorem C2t{h:Heap}{R:List Asn}{b:Nat}{s:s6}{k:Int}(hs:sat h (A1q b s::R)){Q:Value→Heap→Prop}
  (al:i6 s k≠0→Q (.int .u8 (i6 s k)) h)
  (ag:i6 s k=0→∀h',sat h' (A1q b ⟨s.most,s.taken,s.used++[k]⟩::R)→Q (.int .u8 0) h'):V3 prog 210 #[at0 b,.int .i64 k] h Q:=by
 refine A8G _ _ h Q ?_
 obtain⟨m,hi,af⟩:=A0U.1 hs
 have c0:W0 h ⟨b,0,none⟩=some (.int .i64 s.most):=af.cell 0
 have c2:W0 h ⟨b,2,none⟩=some (.map (some m)):=af.cell 2
 delta A8H bn ci ie km nn pu vi
 simp[c0,c2]
 by_cases h1:k<1
 ·simp[h1];simpa[i6,h1] using al
 by_cases h2:65535<k
 ·simp[h1,h2];simpa[i6,h2] using al
 simp[h1,h2]
 refine u7 kI (kind:=.one .bool) (z:=false) rfl af.p1 ?_
 rw[A7j]
 by_cases h3:k∈s.used
 ·simp[h3]
  have:i6 s k=145:=by simp[i6,h1,h2,h3]
  rw[this] at al
  exact al (by omega)
 simp[h3]
 refine B3f hs ?_
 simp
 have hl:=hi.len
 by_cases h4:(s.used.length:Int)=s.most
 ·have:i6 s k=147:=by simp[i6,h1,h2,h3,h4]
  rw[this] at al
  simp[h4]
  exact al (by omega)
 have h5:¬(s.most-(s.used.length:Int)=0):=by omega
 simp[h5]
 simp[c2]
 refine A4A kI (A9g .i64) (ev:=Kind.val (.one .bool)) (x:=true) af.p1 fun h' ae=>?_
 refine ag (by simp[i6,h1,h2,h3,h4]) h' (A0U.2 ⟨m,C1y hi (by omega) (by omega) h3 (by omega) hi.cN hi.dO,?_⟩)
 rw[B5r _ _ h3] at ae
 exact ae.p1
theorem B78{h:Heap}{R:List Asn}{b:Nat}{s:s6}{k:Int}(hs:sat h (A1q b s::R)){Q:Value→Heap→Prop}
  (hq:∀h',sat h' (A1q b ⟨s.most,s.taken,s.used.erase k⟩::R)→Q (.bool (decide (k∈s.used))) h'):V3 prog 158 #[at0 b,.int .i64 k] h Q:=by
 refine A9E _ _ h Q ?_
 obtain⟨m,hi,af⟩:=A0U.1 hs
 have c0:W0 h ⟨b,0,none⟩=some (.int .i64 s.most):=af.cell 0
 have c2:W0 h ⟨b,2,none⟩=some (.map (some m)):=af.cell 2
 delta A90 bn ie km nn pu vi
 simp[c0,c2]
 refine u7 kI (kind:=.one .bool) (z:=false) rfl af.p1 ?_
 rw[A7j]
 by_cases h3:k∈s.used
 ·simp[h3]
  simp[c2]
  refine A5Q kI (ev:=Kind.val (.one .bool)) af.p1 fun h' ae=>?_
  have:=hq h' (A0U.2 ⟨m,C5c hi k,by rw[C1B] at ae;exact ae.p1⟩)
  simpa[h3] using this
 ·simp[h3]
  have he:s.used.erase k=s.used:=List.erase_of_not_mem h3
  have:=hq h (by rw[he];exact hs)
  simpa[h3] using this
theorem A3L{t:Int}(h0:0≤t):1≤nxt t∧nxt t≤65535:=by unfold nxt;omega
theorem Reach.range{used:List Int}{n:Nat}{t u:Int}(h:Reach used n t u)(h0:0≤t):1≤u∧u≤65535∧u∉used:=by
 induction h with
 |here hn=>exact⟨(A3L h0).1,(A3L h0).2,hn⟩
 |on _ _ ih=>exact ih (by have:=(A3L h0).1;omega)
theorem B8N{α:Type}[DecidableEq α]:∀(l1 l2:List α),l1.Nodup→(∀x∈l1,x∈l2)→l1.length≤l2.length
 |[],_,_,_=>by simp
 |x::xs,l2,au,hs=>by
  have h1:=F8.1 au
  have h2:=B8N xs (l2.erase x) h1.2 (fun y hy=>(List.mem_erase_of_ne (fun e=>h1.1 (by rw[←e];exact hy))).2 (hs y (C3 _ hy)))
  have h3:=List.length_erase_of_mem (hs x (B4 ..))
  have h4:=List.length_pos_of_mem (hs x (B4 ..))
  simp only[B8]
  omega
theorem B9K(used:List Int)(t:Int)(h0:0≤t)(h1:used.Nodup)(h2:used.length<65535):∃n u,Reach used n t u:=by
 have key:∀(j:Nat),j≤65535→∀t,0≤t→t≤65535→(∃n u,Reach used n t u)∨∀i,i<j→((t+i) % 65535+1)∈used:=by
  intro j
  induction j with
  |zero=>intro _ t _ _;exact .inr (fun i hi=>by omega)
  |succ j ih=>
   intro hj t oF pM
   by_cases hm:nxt t∈used
   ·have hr:=A3L oF
    rcases ih (by omega) (nxt t) (by omega) (by omega) with⟨n,u,hu⟩|dh
    ·exact .inl ⟨n+1,u,.on hm hu⟩
    ·refine .inr fun i hi=>?_
     cases i with
     |zero=>simpa[nxt] using hm
     |succ i=>
      have:=dh i (by omega)
      have e:((nxt t+(i:Int)) % 65535+1)=((t+((i+1:Nat):Int)) % 65535+1):=by unfold nxt;omega
      rw[e] at this
      exact this
   ·exact .inl ⟨0,nxt t,.here hm⟩
 have jJ:∃t',0≤t'∧t'≤65535∧nxt t'=nxt t∧True:=⟨t % 65535,by omega,by omega,by unfold nxt;omega,trivial⟩
 obtain⟨t',a0,a1,a2,-⟩:=jJ
 have move:∀n u,Reach used n t' u→Reach used n t u:=by
  intro n u hr
  cases hr with
  |here hn=>rw[a2] at hn⊢;exact .here hn
  |on hm hr=>rw[a2] at hm hr;exact .on hm hr
 rcases key 65535 (D9 _) t' a0 a1 with⟨n,u,hu⟩|dh
 ·exact⟨n,u,move n u hu⟩
 ·exfalso
  have bg:∀x∈((List.range 65535).map fun(i:Nat)=>((t'+(i:Int)) % 65535+1)),x∈used:=by
   intro x hx
   obtain⟨i,hi,rfl⟩:=E4.1 hx
   exact dh i (R4.1 hi)
  have au:((List.range 65535).map fun(i:Nat)=>((t'+(i:Int)) % 65535+1)).Nodup:=by
   refine P6.2 (List.Pairwise.imp_of_mem ?_ List.pairwise_lt_range)
   intro a b ha hb dv
   have:=R4.1 ha
   have:=R4.1 hb
   omega
  have:=B8N _ _ au bg
  simp at this
  omega
theorem Reach.det{used:List Int}{n n':Nat}{t u u':Int}(h:Reach used n t u)(h':Reach used n' t u'):u=u':=by
 induction h generalizing n' with
 |here hn=>
  cases h' with
  |here _=>rfl
  |on hm _=>exact absurd hm hn
 |on hm _ ih=>
  cases h' with
  |here hn=>exact absurd hm hn
  |on _ h2=>exact ih h2
theorem C4E{t:Int}(h0:0≤t):IntKind.wrap .i64 (Int.tmod t 65535+1)=nxt t:=by
 have e:Int.tmod t 65535=t % 65535:=Int.tmod_eq_emod_of_nonneg h0
 rw[e,V8 (by omega) (by omega)]
 rfl
theorem C4w{h:Heap}{R:List Asn}{b:Nat}{s:s6}(hs:sat h (A1q b s::R)){Q:Value→Heap→Prop}
  (aA:(s.used.length:Int)=s.most→Q (.tuple #[.int .i64 0,.int .u8 147]) h)
  (ag:(s.used.length:Int)≠s.most→∀n u,Reach s.used n s.taken u→∀h',sat h' (A1q b ⟨s.most,u,s.used++[u]⟩::R)→Q (.tuple #[.int .i64 u,.int .u8 0]) h'):
  V3 prog 169 #[at0 b] h Q:=by
 refine A9C _ h Q ?_
 obtain⟨m,hi,af⟩:=A0U.1 hs
 delta A9Y bn ci ie ki km nn pu sx vi wi
 simp
 refine B3f hs ?_
 simp
 have hl:=hi.len
 have qk:=hi.cP
 by_cases h4:(s.used.length:Int)=s.most
 ·simp[h4]
  exact aA h4
 have h5:¬(s.most-(s.used.length:Int)=0):=by omega
 simp[h5]
 obtain⟨n,u,hu⟩:=B9K s.used s.taken hi.cN hi.nodup (by omega)
 have wM:=hu.range hi.cN
 refine B8M (γ:=Nat×Int) (fun g _ h=>Reach s.used g.1 g.2 u∧0≤g.2∧g.2≤65535∧sat h (cells b #[.int .i64 s.most,.int .i64 g.2,.map (some m)]::mapA (fun n:Int=>.int .i64 n) (Kind.val (.one .bool)) m (A4i s.used)::R))
  (fun g=>g.1) (n,s.taken) ⟨hu,hi.cN,hi.dO,af⟩ ?_
 ·rintro⟨n,t⟩-h1 ⟨hr,t0,t1,aa⟩
  have c1:W0 h1 ⟨b,1,none⟩=some (.int .i64 t):=aa.cell 1
  simp[c1]
  rw[C4E t0]
  refine W7 aa (by simp) rfl fun h2 ae=>?_
  have d1:W0 h2 ⟨b,1,none⟩=some (.int .i64 (nxt t)):=ae.cell 1
  have d2:W0 h2 ⟨b,2,none⟩=some (.map (some m)):=ae.cell 2
  have hn:=A3L t0
  simp[d1,d2]
  refine u7 kI (kind:=.one .bool) (z:=false) rfl ae.p1 ?_
  rw[A7j]
  cases hr with
  |here jO=>
   simp[jO]
   simp[d2,d1]
   refine A4A kI (A9g .i64) (ev:=Kind.val (.one .bool)) (x:=true) ae.p1 fun h3 aj=>?_
   rw[B5r _ _ jO] at aj
   have e1:W0 h3 ⟨b,1,none⟩=some (.int .i64 (nxt t)):=aj.p1.cell 1
   simp[e1]
   refine ag h4 n _ hu h3 (A0U.2 ⟨m,C1y hi (by omega) (by omega) jO (by omega) (by omega) (by omega),aj.p1⟩)
  |on kW dw=>
   simp[kW]
   exact⟨_,Nat.lt_succ_self _,_,dw,Int.le_trans (by omega) hn.1,hn.2,ae⟩
section
open Go.H Go.Proofs
abbrev MsT:=B3O×B3O×Int×Bool×B3O
abbrev Z6(x:MsT):C9P:=[.string x.1,.string x.2.1,.int .i64 x.2.2.1,.bool x.2.2.2.1,.string x.2.2.2.2]
abbrev FlT:=Int×MsT×Bool
abbrev A0O(x:FlT):C9P:=[.int .i64 x.1,.string x.2.1.1,.string x.2.1.2.1,.int .i64 x.2.1.2.2.1,.bool x.2.1.2.2.2.1,.string x.2.1.2.2.2.2,.bool x.2.2]
structure Z5 where
 aV:s6
 most:Int
 on:Bool
 aG:List FlT
 waiting:List MsT
def A0m(b:Nat)(o:Z5):Asn:=exA fun x:Nat×Slc×Slc=>
 star (cells b #[at0 x.1,.int .i64 o.most,.bool o.on,.slice x.2.1.a x.2.1.len x.2.1.cap,.slice x.2.2.a x.2.2.len x.2.2.cap])
  (star (A1q x.1 o.aV) (star (U5 A0O 7 x.2.1 o.aG) (U5 Z6 5 x.2.2 o.waiting)))
theorem A0l{h:Heap}{b:Nat}{o:Z5}{R:List Asn}:sat h (A0m b o::R)↔∃(pb:Nat) (fl wt:Slc),
  sat h (cells b #[at0 pb,.int .i64 o.most,.bool o.on,.slice fl.a fl.len fl.cap,.slice wt.a wt.len wt.cap]::A1q pb o.aV::U5 A0O 7 fl o.aG::U5 Z6 5 wt o.waiting::R):=by
 unfold A0m
 rw[sat.bA]
 constructor
 ·rintro⟨⟨pb,fl,wt⟩,hs⟩
  rw[sat.aI] at hs
  exact⟨pb,fl,wt,(sat.aI.1 (sat.aI.1 hs.p1).p1).re [3,2,0,1]⟩
 ·rintro⟨pb,fl,wt,hs⟩
  refine⟨(pb,fl,wt),?_⟩
  rw[sat.aI]
  exact(sat.aI.2 ((sat.aI.2 (hs.re [2,3,0,1])).re [2,0,1])).p1
theorem B9R{h:Heap}{R:List Asn}(hs:sat h R)(most:Int){Q:Value→Heap→Prop}
  (hq:∀b h',sat h' (A0m b ⟨⟨64,0,[]⟩,max 1 (min most 64),false,[],[]⟩::R)→Q (at0 b) h'):V3 prog 112 #[.int .i64 most] h Q:=by
 refine B1r most h Q ?_
 delta B3F az ci cp nw pu vi vz
 refine U6 (C0U hs 64 fun pb h1 aa=>⟨some ⟨pb,0,none⟩,rfl,?_⟩)
 have e:(if 1<(if 64<most then(64:Int) else most) then(if 64<most then 64 else most) else 1)=max 1 (min most 64):=by
  split<;>split<;>omega
 refine U6 (A3y most h1 _ ⟨_,rfl,?_⟩)
 rw[e]
 refine V5 aa fun b h2 ae=>?_
 refine hq b h2 (A0l.2 ⟨pb,⟨none,0,0⟩,⟨none,0,0⟩,?_⟩)
 exact(Z3 (Z3 ae)).p3.p3
theorem B9S{h:Heap}{R:List Asn}{b:Nat}{o:Z5}(hs:sat h (A0m b o::R)){Q:Value→Heap→Prop}
  (hq:∀h',sat h' (A0m b {o with on:=false}::R)→Q (.tuple #[]) h'):V3 prog 152 #[at0 b] h Q:=by
 refine A7f _ h Q ?_
 obtain⟨pb,fl,wt,hs⟩:=A0l.1 hs
 delta A6I bn ie nn pu sx
 simp
 refine W7 hs (by simp) rfl fun h1 aa=>?_
 exact hq h1 (A0l.2 ⟨pb,fl,wt,aa⟩)
abbrev Pk:Type:=Int×Bool×Bool×Int×Int×B3O×B3O×Int×Slc×Slc×B3O×Bool×Int×Bool×B3O×B3O×Int×Bool×Slc×Bool×Bool×B3O×B3O×Bool×Slc×Slc×Unit
abbrev C7d(p:Pk):C9O:=#[.int .i64 p.1,.bool p.2.1,.bool p.2.2.1,.int .i64 p.2.2.2.1,.int .i64 p.2.2.2.2.1,.string p.2.2.2.2.2.1,.string p.2.2.2.2.2.2.1,.int .u8 p.2.2.2.2.2.2.2.1,.slice p.2.2.2.2.2.2.2.2.1.a p.2.2.2.2.2.2.2.2.1.len p.2.2.2.2.2.2.2.2.1.cap,.slice p.2.2.2.2.2.2.2.2.2.1.a p.2.2.2.2.2.2.2.2.2.1.len p.2.2.2.2.2.2.2.2.2.1.cap,.string p.2.2.2.2.2.2.2.2.2.2.1,.bool p.2.2.2.2.2.2.2.2.2.2.2.1,.int .i64 p.2.2.2.2.2.2.2.2.2.2.2.2.1,.bool p.2.2.2.2.2.2.2.2.2.2.2.2.2.1,.string p.2.2.2.2.2.2.2.2.2.2.2.2.2.2.1,.string p.2.2.2.2.2.2.2.2.2.2.2.2.2.2.2.1,.int .i64 p.2.2.2.2.2.2.2.2.2.2.2.2.2.2.2.2.1,.bool p.2.2.2.2.2.2.2.2.2.2.2.2.2.2.2.2.2.1,.slice p.2.2.2.2.2.2.2.2.2.2.2.2.2.2.2.2.2.2.1.a p.2.2.2.2.2.2.2.2.2.2.2.2.2.2.2.2.2.2.1.len p.2.2.2.2.2.2.2.2.2.2.2.2.2.2.2.2.2.2.1.cap,.bool p.2.2.2.2.2.2.2.2.2.2.2.2.2.2.2.2.2.2.2.1,.bool p.2.2.2.2.2.2.2.2.2.2.2.2.2.2.2.2.2.2.2.2.1,.string p.2.2.2.2.2.2.2.2.2.2.2.2.2.2.2.2.2.2.2.2.2.1,.string p.2.2.2.2.2.2.2.2.2.2.2.2.2.2.2.2.2.2.2.2.2.2.1,.bool p.2.2.2.2.2.2.2.2.2.2.2.2.2.2.2.2.2.2.2.2.2.2.2.1,.slice p.2.2.2.2.2.2.2.2.2.2.2.2.2.2.2.2.2.2.2.2.2.2.2.2.1.a p.2.2.2.2.2.2.2.2.2.2.2.2.2.2.2.2.2.2.2.2.2.2.2.2.1.len p.2.2.2.2.2.2.2.2.2.2.2.2.2.2.2.2.2.2.2.2.2.2.2.2.1.cap,.slice p.2.2.2.2.2.2.2.2.2.2.2.2.2.2.2.2.2.2.2.2.2.2.2.2.2.1.a p.2.2.2.2.2.2.2.2.2.2.2.2.2.2.2.2.2.2.2.2.2.2.2.2.2.1.len p.2.2.2.2.2.2.2.2.2.2.2.2.2.2.2.2.2.2.2.2.2.2.2.2.2.1.cap]
abbrev C9H(p:Pk):Value:=.agg #[.int .i64 p.1,.bool p.2.1,.bool p.2.2.1,.int .i64 p.2.2.2.1,.int .i64 p.2.2.2.2.1,.string p.2.2.2.2.2.1,.string p.2.2.2.2.2.2.1,.int .u8 p.2.2.2.2.2.2.2.1,.slice p.2.2.2.2.2.2.2.2.1.a p.2.2.2.2.2.2.2.2.1.len p.2.2.2.2.2.2.2.2.1.cap,.slice p.2.2.2.2.2.2.2.2.2.1.a p.2.2.2.2.2.2.2.2.2.1.len p.2.2.2.2.2.2.2.2.2.1.cap,.string p.2.2.2.2.2.2.2.2.2.2.1,.bool p.2.2.2.2.2.2.2.2.2.2.2.1,.int .i64 p.2.2.2.2.2.2.2.2.2.2.2.2.1,.bool p.2.2.2.2.2.2.2.2.2.2.2.2.2.1,.string p.2.2.2.2.2.2.2.2.2.2.2.2.2.2.1,.string p.2.2.2.2.2.2.2.2.2.2.2.2.2.2.2.1,.int .i64 p.2.2.2.2.2.2.2.2.2.2.2.2.2.2.2.2.1,.bool p.2.2.2.2.2.2.2.2.2.2.2.2.2.2.2.2.2.1,.slice p.2.2.2.2.2.2.2.2.2.2.2.2.2.2.2.2.2.2.1.a p.2.2.2.2.2.2.2.2.2.2.2.2.2.2.2.2.2.2.1.len p.2.2.2.2.2.2.2.2.2.2.2.2.2.2.2.2.2.2.1.cap,.bool p.2.2.2.2.2.2.2.2.2.2.2.2.2.2.2.2.2.2.2.1,.bool p.2.2.2.2.2.2.2.2.2.2.2.2.2.2.2.2.2.2.2.2.1,.string p.2.2.2.2.2.2.2.2.2.2.2.2.2.2.2.2.2.2.2.2.2.1,.string p.2.2.2.2.2.2.2.2.2.2.2.2.2.2.2.2.2.2.2.2.2.2.1,.bool p.2.2.2.2.2.2.2.2.2.2.2.2.2.2.2.2.2.2.2.2.2.2.2.1,.slice p.2.2.2.2.2.2.2.2.2.2.2.2.2.2.2.2.2.2.2.2.2.2.2.2.1.a p.2.2.2.2.2.2.2.2.2.2.2.2.2.2.2.2.2.2.2.2.2.2.2.2.1.len p.2.2.2.2.2.2.2.2.2.2.2.2.2.2.2.2.2.2.2.2.2.2.2.2.1.cap,.slice p.2.2.2.2.2.2.2.2.2.2.2.2.2.2.2.2.2.2.2.2.2.2.2.2.2.1.a p.2.2.2.2.2.2.2.2.2.2.2.2.2.2.2.2.2.2.2.2.2.2.2.2.2.1.len p.2.2.2.2.2.2.2.2.2.2.2.2.2.2.2.2.2.2.2.2.2.2.2.2.2.1.cap]
abbrev C4x:Pk:=(0,false,false,0,0,ByteArray.mk #[],ByteArray.mk #[],0,⟨none,0,0⟩,⟨none,0,0⟩,ByteArray.mk #[],false,0,false,ByteArray.mk #[],ByteArray.mk #[],0,false,⟨none,0,0⟩,false,false,ByteArray.mk #[],ByteArray.mk #[],false,⟨none,0,0⟩,⟨none,0,0⟩,())
abbrev C8y(k id c:Int):Pk:=(k,false,false,0,id,ByteArray.mk #[],ByteArray.mk #[],c,⟨none,0,0⟩,⟨none,0,0⟩,ByteArray.mk #[],false,0,false,ByteArray.mk #[],ByteArray.mk #[],0,false,⟨none,0,0⟩,false,false,ByteArray.mk #[],ByteArray.mk #[],false,⟨none,0,0⟩,⟨none,0,0⟩,())
abbrev p9:=Int×Int×B3O×B3O
abbrev e0S:B3O:=ByteArray.mk #[]
abbrev C4J:B3O:=ByteArray.mk #[116,97,103]
structure PkO where
 kind:Int
 dup:Bool
 dF:Bool
 eM:Int
 id:Int
 bX:B3O
 cR:B3O
 code:Int
 props:List p9
 cB:List Int
 fG:Bool
def C06(t:B3O):List p9:=if t=e0S then[] else[(38,0,C4J,t)]
def A0x(m:MsT)(id:Int)(dup:Bool):PkO:=⟨3,dup,m.2.2.2.1,m.2.2.1,id,m.1,m.2.1,0,C06 m.2.2.2.2,[],false⟩
def j3(k id c:Int):PkO:=⟨k,false,false,0,id,e0S,e0S,c,[],[],false⟩
open Classical in
noncomputable def A37(used:List Int)(t:Int):Int:=if h:∃(u:Int) (n:Nat),Reach used n t u then Classical.choose h else 0
theorem B5q{used:List Int}{n:Nat}{t u:Int}(h:Reach used n t u):A37 used t=u:=by
 unfold A37
 have hex:∃(u:Int) (n:Nat),Reach used n t u:=⟨u,n,h⟩
 rw[dif_pos hex]
 obtain⟨n',h'⟩:=Q0 hex
 exact h'.det h
noncomputable def goF(o:Z5):List MsT→Z5×List PkO
 |[]=>({o with waiting:=[]},[])
 |m::w=>
  if 0<m.2.2.1∧o.most≤(o.aG.length:Int) then({o with waiting:=m::w},[])
  else if 0<m.2.2.1 then
   let id:=A37 o.aV.used o.aV.taken
   let r:=goF {o with aV:=⟨o.aV.most,id,o.aV.used++[id]⟩,aG:=o.aG++[(id,m,false)]} w
   (r.1,A0x m id false::r.2)
  else
   let r:=goF o w
   (r.1,A0x m 0 false::r.2)
noncomputable def Y7(o:Z5):Z5×List PkO:=if o.on=true then goF o o.waiting else(o,[])
noncomputable def Y3(o:Z5)(m:MsT):(Z5×List PkO)×Int:=
 if m.2.2.1<0∨2<m.2.2.1 then((o,[]),155)
 else if m.2.2.1=0∧o.on=false then((o,[]),0)
 else if 256≤o.waiting.length then((o,[]),151)
 else(Y7 {o with waiting:=o.waiting++[m]},0)
def A3i(o:Z5)(id:Int):Z5:={o with aV:=⟨o.aV.most,o.aV.taken,o.aV.used.erase id⟩,aG:=o.aG.filter fun f=>decide (f.1≠id)}
def B2m(o:Z5)(id:Int):Z5:={o with aG:=o.aG.map fun f=>if f.1=id then(f.1,f.2.1,true) else f}
noncomputable def A0V(o:Z5)(k id c:Int):(Z5×List PkO)×Int:=
 if o.on=false∨(k≠4∧k≠5∧k≠7) then((o,[]),130)
 else match o.aG.find? (fun f=>decide (f.1=id)) with
  |none=>((o,[]),146)
  |some f=>
   if k=4 then(if f.2.1.2.2.1≠1 then((o,[]),130) else(Y7 (A3i o id),0))
   else if k=5 then
    (if f.2.1.2.2.1≠2∨(128≤c∧f.2.2=true) then((o,[]),130)
    else if 128≤c then(Y7 (A3i o id),0)
    else(((Y7 (B2m o id)).1,j3 6 id 0::(Y7 (B2m o id)).2),0))
   else(if f.2.2=false then((o,[]),130) else(Y7 (A3i o id),0))
def A1y(f:FlT):PkO:=if f.2.2=true then j3 6 f.1 0 else A0x f.2.1 f.1 true
noncomputable def A0k(o:Z5)(most:Int):Z5×List PkO:=
 let r:=Y7 {o with on:=true,most:=max 1 (min most 64)}
 (r.1,o.aG.map A1y++r.2)
structure X0(o:Z5):Prop where
 pm:o.aV.most=64
 pk:o.aV.ok
 m1:1≤o.most
 m64:o.most≤64
 ids:o.aG.map (·.1)=o.aV.used
 wl:o.waiting.length≤256
 fq:∀f∈o.aG,1≤f.2.1.2.2.1∧f.2.1.2.2.1≤2∧(f.2.2=true→f.2.1.2.2.1=2)
 wq:∀m∈o.waiting,0≤m.2.2.1∧m.2.2.1≤2
theorem X0.fI{o:Z5}(h:X0 o):o.aG.length=o.aV.used.length:=by rw[←h.ids,C2]
theorem X0.f64{o:Z5}(h:X0 o):o.aG.length≤64:=by
 have:=h.pk.len
 rw[h.pm] at this
 rw[h.fI];omega
theorem X0.new:X0 ⟨⟨64,0,[]⟩,64,false,[],[]⟩ where
 pm:=rfl
 pk:=⟨by decide,by decide,by decide,by decide,by simp,by simp,by simp⟩
 m1:=by decide
 m64:=by decide
 ids:=rfl
 wl:=by simp
 fq:=by simp
 wq:=by simp
theorem X0.next{o:Z5}(h:X0 o)(hl:(o.aG.length:Int)<o.most):∃n,Reach o.aV.used n o.aV.taken (A37 o.aV.used o.aV.taken):=by
 have h1:=h.pk.len
 have h2:=h.pm
 obtain⟨n,u,hu⟩:=B9K o.aV.used o.aV.taken h.pk.cN h.pk.nodup (by omega)
 exact⟨n,by rw[B5q hu];exact hu⟩
theorem X0.take{o:Z5}(h:X0 o){m:MsT}{w:List MsT}(hw:w.length≤256)(nC:∀x∈w,0≤x.2.2.1∧x.2.2.1≤2)(hm:0<m.2.2.1∧m.2.2.1≤2)(hl:(o.aG.length:Int)<o.most):
  X0 {o with aV:=⟨o.aV.most,A37 o.aV.used o.aV.taken,o.aV.used++[A37 o.aV.used o.aV.taken]⟩,aG:=o.aG++[(A37 o.aV.used o.aV.taken,m,false)],waiting:=w}:=by
 obtain⟨n,hr⟩:=h.next hl
 have kR:=hr.range h.pk.cN
 have h2:=h.pm
 have h3:=h.fI
 have h4:=h.m64
 refine⟨h.pm,C1y h.pk kR.1 kR.2.1 kR.2.2 (by omega) (by omega) (by omega),h.m1,h.m64,?_,hw,?_,nC⟩
 ·simp only[C0,B6,I4,h.ids]
 ·intro f hf
  rcases C9.1 hf with hf|hf
  ·exact h.fq f hf
  ·have:=B7.1 hf
   subst this
   exact⟨by simp only;omega,by simp only;omega,fun e=>by cases e⟩
theorem C1O:∀(w:List MsT) {o:Z5},X0 o→w.length≤256→(∀x∈w,0≤x.2.2.1∧x.2.2.1≤2)→X0 (goF o w).1∧(goF o w).2.length≤w.length∧(goF o w).1.on=o.on∧(goF o w).1.most=o.most
 |[],o,h,_,_=>⟨⟨h.pm,h.pk,h.m1,h.m64,h.ids,by simp[goF],h.fq,by simp[goF]⟩,by simp[goF],rfl,rfl⟩
 |m::w,o,h,hl,hq=>by
  have gY:w.length≤256:=by simp only[B8] at hl;omega
  have eh:∀x∈w,0≤x.2.2.1∧x.2.2.1≤2:=fun x hx=>hq x (C3 _ hx)
  have hm:=hq m (B4 ..)
  unfold goF
  by_cases h1:0<m.2.2.1∧o.most≤(o.aG.length:Int)
  ·rw[if_pos h1]
   exact⟨⟨h.pm,h.pk,h.m1,h.m64,h.ids,hl,h.fq,hq⟩,by simp,rfl,rfl⟩
  ·rw[if_neg h1]
   by_cases h2:0<m.2.2.1
   ·rw[if_pos h2]
    have h3:(o.aG.length:Int)<o.most:=by omega
    have h4:=C1O w (h.take (m:=m) (w:=o.waiting) h.wl h.wq ⟨h2,hm.2⟩ h3) gY eh
    refine⟨h4.1,?_,h4.2.2.1,h4.2.2.2⟩
    have:=h4.2.1
    simp only[B8]
    exact Nat.succ_le_succ this
   ·rw[if_neg h2]
    have h4:=C1O w h gY eh
    refine⟨h4.1,?_,h4.2.2.1,h4.2.2.2⟩
    have:=h4.2.1
    simp only[B8]
    omega
theorem A8I{o:Z5}(h:X0 o):X0 (Y7 o).1∧(Y7 o).2.length≤256:=by
 unfold Y7
 split
 ·have:=C1O o.waiting h h.wl h.wq
  exact⟨this.1,C4 this.2.1 h.wl⟩
 ·exact⟨h,by simp⟩
theorem X0.wait{o:Z5}(h:X0 o){m:MsT}(hm:0≤m.2.2.1∧m.2.2.1≤2)(hl:¬256≤o.waiting.length):X0 {o with waiting:=o.waiting++[m]}:=
 ⟨h.pm,h.pk,h.m1,h.m64,h.ids,by simp;omega,h.fq,fun x hx=>by
  rcases C9.1 hx with hx|hx
  ·exact h.wq x hx
  ·rw[B7.1 hx];exact hm⟩
theorem A33{o:Z5}(h:X0 o)(m:MsT):X0 (Y3 o m).1.1∧(Y3 o m).1.2.length≤256:=by
 unfold Y3
 split
 ·exact⟨h,by simp⟩
 ·split
  ·exact⟨h,by simp⟩
  ·split
   ·exact⟨h,by simp⟩
   ·rename_i h1 h2 h3
    exact A8I (h.wait ⟨by omega,by omega⟩ h3)
theorem C38{l:List FlT}{u:List Int}(h:l.map (·.1)=u)(hn:u.Nodup)(id:Int):(l.filter fun f=>decide (f.1≠id)).map (·.1)=u.erase id:=by
 subst h
 rw[List.Nodup.erase_eq_filter hn,R9]
 congr 1
 refine L8 fun x _=>?_
 by_cases e:x.1=id<;>simp[e]
theorem X0.over{o:Z5}(h:X0 o)(id:Int):X0 (A3i o id):=
 ⟨h.pm,C5c h.pk id,h.m1,h.m64,C38 h.ids h.pk.nodup id,h.wl,fun f hf=>h.fq f (D5.1 hf).1,h.wq⟩
theorem X0.rel{o:Z5}(h:X0 o){id:Int}(hq:∀f∈o.aG,f.1=id→f.2.1.2.2.1=2):X0 (B2m o id):=by
 refine⟨h.pm,h.pk,h.m1,h.m64,?_,h.wl,fun f hf=>?_,h.wq⟩
 ·show(o.aG.map _).map _=o.aV.used
  rw[←h.ids,F1]
  refine I0 fun f _=>?_
  simp only[Function.comp_apply]
  split<;>rfl
 ·obtain⟨g,hg,rfl⟩:=E4.1 hf
  by_cases e:g.1=id
  ·rw[if_pos e]
   have:=h.fq g hg
   exact⟨this.1,this.2.1,fun _=>hq g hg e⟩
  ·rw[if_neg e]
   exact h.fq g hg
theorem X0.one{o:Z5}(h:X0 o){f g:FlT}(hf:f∈o.aG)(hg:g∈o.aG)(e:f.1=g.1):f=g:=by
 have hn:=h.pk.nodup
 rw[←h.ids] at hn
 obtain⟨i,hi⟩:=List.getElem?_of_mem hf
 obtain⟨j,hj⟩:=List.getElem?_of_mem hg
 obtain⟨h1,rfl⟩:=E0.1 hi
 obtain⟨h2,rfl⟩:=E0.1 hj
 have hp:=Q5.1 (P6.1 hn)
 rcases Nat.lt_trichotomy i j with h3|h3|h3
 ·exact absurd e (hp i j h1 h2 h3)
 ·subst h3;rfl
 ·exact absurd e.symm (hp j i h2 h1 h3)
theorem B4G{o:Z5}(h:X0 o)(k id c:Int):X0 (A0V o k id c).1.1∧(A0V o k id c).1.2.length≤257:=by
 have aN:X0 o∧([]:List PkO).length≤257:=⟨h,by simp⟩
 have over:X0 (Y7 (A3i o id)).1∧(Y7 (A3i o id)).2.length≤257:=⟨(A8I (h.over id)).1,C4 (A8I (h.over id)).2 (by decide)⟩
 unfold A0V
 split
 ·exact aN
 ·split
  ·exact aN
  ·rename_i f hf
   split
   ·split
    ·exact aN
    ·exact over
   ·split
    ·split
     ·exact aN
     ·split
      ·exact over
      ·rename_i h5 h6 h7
       have oP:=G7 hf
       have xy:f.1=id:=by simpa using N0 hf
       have hq:∀g∈o.aG,g.1=id→g.2.1.2.2.1=2:=fun g hg e=>by
        rw[h.one hg oP (e.trans xy.symm)]
        simp only[not_or,Classical.not_not] at h6
        exact h6.1
       have:=A8I (h.rel hq)
       exact⟨this.1,by simp only[B8];omega⟩
    ·split
     ·exact aN
     ·exact over
theorem B29{o:Z5}(h:X0 o)(most:Int):X0 (A0k o most).1∧(A0k o most).2.length≤320:=by
 have h1:X0 {o with on:=true,most:=max 1 (min most 64)}:=⟨h.pm,h.pk,by simp only;omega,by simp only;omega,h.ids,h.wl,h.fq,h.wq⟩
 have h2:=A8I h1
 have h3:=h.f64
 unfold A0k
 refine⟨h2.1,?_⟩
 simp only[B5,C2]
 omega
theorem X0.off{o:Z5}(h:X0 o)(b:Bool):X0 {o with on:=b}:=⟨h.pm,h.pk,h.m1,h.m64,h.ids,h.wl,h.fq,h.wq⟩
variable {h:Heap} {R:List Asn}
abbrev X1(x:p9):C9P:=[.int .i64 x.1,.int .i64 x.2.1,.string x.2.2.1,.string x.2.2.2]
theorem C22(x:p9):(X1 x).length=4:=rfl
theorem C5M(x:p9):∀v∈X1 x,v.oneCell'=true:=by
 intro v hv;simp at hv;rcases hv with rfl|rfl|rfl|rfl<;>rfl
abbrev eKd(k:IntKind)(n:Int):C9P:=[.int k n]
theorem C24(k:IntKind)(n:Int):(eKd k n).length=1:=rfl
theorem C5O(k:IntKind)(n:Int):∀v∈eKd k n,v.oneCell'=true:=by intro v hv;rw[B7.1 hv];rfl
abbrev pkT(o:PkO)(c p:Slc):Pk:=(o.kind,o.dup,o.dF,o.eM,o.id,o.bX,o.cR,o.code,c,p,ByteArray.mk #[],false,0,false,ByteArray.mk #[],ByteArray.mk #[],0,false,⟨none,0,0⟩,false,false,ByteArray.mk #[],ByteArray.mk #[],o.fG,⟨none,0,0⟩,⟨none,0,0⟩,())
abbrev W8(k:IntKind)(p:Pk):C9P:=[.int .i64 p.1,.bool p.2.1,.bool p.2.2.1,.int .i64 p.2.2.2.1,.int .i64 p.2.2.2.2.1,.string p.2.2.2.2.2.1,.string p.2.2.2.2.2.2.1,.int k p.2.2.2.2.2.2.2.1,.slice p.2.2.2.2.2.2.2.2.1.a p.2.2.2.2.2.2.2.2.1.len p.2.2.2.2.2.2.2.2.1.cap,.slice p.2.2.2.2.2.2.2.2.2.1.a p.2.2.2.2.2.2.2.2.2.1.len p.2.2.2.2.2.2.2.2.2.1.cap,.string p.2.2.2.2.2.2.2.2.2.2.1,.bool p.2.2.2.2.2.2.2.2.2.2.2.1,.int .i64 p.2.2.2.2.2.2.2.2.2.2.2.2.1,.bool p.2.2.2.2.2.2.2.2.2.2.2.2.2.1,.string p.2.2.2.2.2.2.2.2.2.2.2.2.2.2.1,.string p.2.2.2.2.2.2.2.2.2.2.2.2.2.2.2.1,.int .i64 p.2.2.2.2.2.2.2.2.2.2.2.2.2.2.2.2.1,.bool p.2.2.2.2.2.2.2.2.2.2.2.2.2.2.2.2.2.1,.slice p.2.2.2.2.2.2.2.2.2.2.2.2.2.2.2.2.2.2.1.a p.2.2.2.2.2.2.2.2.2.2.2.2.2.2.2.2.2.2.1.len p.2.2.2.2.2.2.2.2.2.2.2.2.2.2.2.2.2.2.1.cap,.bool p.2.2.2.2.2.2.2.2.2.2.2.2.2.2.2.2.2.2.2.1,.bool p.2.2.2.2.2.2.2.2.2.2.2.2.2.2.2.2.2.2.2.2.1,.string p.2.2.2.2.2.2.2.2.2.2.2.2.2.2.2.2.2.2.2.2.2.1,.string p.2.2.2.2.2.2.2.2.2.2.2.2.2.2.2.2.2.2.2.2.2.2.1,.bool p.2.2.2.2.2.2.2.2.2.2.2.2.2.2.2.2.2.2.2.2.2.2.2.1,.slice p.2.2.2.2.2.2.2.2.2.2.2.2.2.2.2.2.2.2.2.2.2.2.2.2.1.a p.2.2.2.2.2.2.2.2.2.2.2.2.2.2.2.2.2.2.2.2.2.2.2.2.1.len p.2.2.2.2.2.2.2.2.2.2.2.2.2.2.2.2.2.2.2.2.2.2.2.2.1.cap,.slice p.2.2.2.2.2.2.2.2.2.2.2.2.2.2.2.2.2.2.2.2.2.2.2.2.2.1.a p.2.2.2.2.2.2.2.2.2.2.2.2.2.2.2.2.2.2.2.2.2.2.2.2.2.1.len p.2.2.2.2.2.2.2.2.2.2.2.2.2.2.2.2.2.2.2.2.2.2.2.2.2.1.cap]
abbrev B75(k:IntKind):List Tag:=[.int .i64,.bool,.bool,.int .i64,.int .i64,.str,.str,.int k,.slc,.slc,.str,.bool,.int .i64,.bool,.str,.str,.int .i64,.bool,.slc,.bool,.bool,.str,.str,.bool,.slc,.slc]
abbrev A2s(k:IntKind)(p:Pk):Value:=.agg (W8 k p).toArray
theorem B5Z(k:IntKind)(p:Pk):(W8 k p).length=26:=rfl
theorem B20(k:IntKind)(p:Pk):∀v∈W8 k p,v.oneCell'=true:=by
 intro v hv
 have:(W8 k p).all (fun v=>v.oneCell')=true:=rfl
 exact J1.1 this v hv
def pkB(k:IntKind)(t:Slc×Slc×PkO):Asn:=star (U5 (eKd k) 1 t.1 t.2.2.cB) (U5 X1 4 t.2.1 t.2.2.props)
theorem A4C{k:IntKind}{t:Slc×Slc×PkO}:sat h (pkB k t::R)↔sat h (U5 (eKd k) 1 t.1 t.2.2.cB::U5 X1 4 t.2.1 t.2.2.props::R):=sat.aI
theorem A3g{k:IntKind}{o:PkO}(hc:o.cB=[])(hp:o.props=[])(hs:sat h R):sat h (pkB k (⟨none,0,0⟩,⟨none,0,0⟩,o)::R):=by
 refine A4C.2 ?_
 show sat h (U5 (eKd k) 1 ⟨none,0,0⟩ o.cB::U5 X1 4 ⟨none,0,0⟩ o.props::R)
 rw[hc,hp]
 exact Z3 (Z3 hs)
abbrev pkF(t:Slc×Slc×PkO):Pk:=pkT t.2.2 t.1 t.2.1
def p7(k:IntKind)(s:Slc)(os:List PkO):Asn:=exA fun T:List (Slc×Slc×PkO)=>star (pr (T.map (·.2.2)=os)) (star (U5 (W8 k) 26 s (T.map pkF)) (Z9 (pkB k) T))
theorem A7e{k:IntKind}{s:Slc}{os:List PkO}:sat h (p7 k s os::R)↔∃T:List (Slc×Slc×PkO),T.map (·.2.2)=os∧sat h (U5 (W8 k) 26 s (T.map pkF)::Z9 (pkB k) T::R):=by
 unfold p7
 rw[sat.bA]
 simp only[sat.aI,sat.bC]
theorem A1O{k:IntKind}(hs:sat h R):sat h (p7 k ⟨none,0,0⟩ []::R):=A7e.2 ⟨[],rfl,Z3 (A2x.2 hs)⟩
theorem A5e{α:Type}{f:α→Asn}:∀{a b:List α} {R:List Asn},sat h (Z9 f (a++b)::R)↔sat h (Z9 f a::Z9 f b::R)
 |[],b,R=>by
  rw[F2]
  exact⟨fun hs=>A2x.2 hs,fun hs=>A2x.1 hs⟩
 |x::a,b,R=>by
  rw[G5,l3]
  constructor
  ·intro hs
   exact l3.2 ((A5e.1 hs.p1).re [2,0,1])
  ·intro hs
   exact(A5e.2 ((l3.1 hs).re [1,2,0])).p1
theorem A3V{α:Type}{f:α→Asn}{x:α}:sat h (Z9 f [x]::R)↔sat h (f x::R):=by
 rw[l3]
 exact⟨fun hs=>A2x.1 hs.p1,fun hs=>(A2x.2 hs).p1⟩
theorem A4Z{k:IntKind}{s:Slc}{os:List PkO}{t:Slc×Slc×PkO}(hs:sat h (p7 k s os::pkB k t::R)){elem T:TypeId}{bytes:Nat}{zero:C9O}(hz:zero.size=26)(gQ:0<bytes)(hb:(os.length+1)*bytes≤140737488355328){Q:Slc→Heap→Prop}
  (hq:∀s' h',sat h' (p7 k s' (os++[t.2.2])::R)→Q s' h'):HM.new (.cells (W8 k (pkF t)).toArray T) h fun b h'=>HM.append elem 26 bytes zero s 1 (V6 26 ⟨some ⟨b,0,none⟩,1,1⟩) h' Q:=by
 obtain⟨L,rfl,aa⟩:=A7e.1 hs
 refine A06 (x:=pkF t) (B5Z k) (B20 k) hz aa (by decide) gQ (by simpa using hb) fun s' h' ae=>?_
 refine hq s' h' (A7e.2 ⟨L++[t],by simp,?_⟩)
 rw[C0]
 exact(A5e.2 ((A3V.2 (ae.re [2,1,0])).p1)).p1
end
section
open Go.H Go.Proofs
variable {h:Heap} {R:List Asn}
theorem A7D(x:MsT):(Z6 x).length=5:=rfl
theorem B50(x:MsT):∀v∈Z6 x,v.oneCell'=true:=by
 intro v hv;simp at hv;rcases hv with rfl|rfl|rfl|rfl|rfl<;>rfl
theorem A2F(x:FlT):(A0O x).length=7:=rfl
theorem B1V(x:FlT):∀v∈A0O x,v.oneCell'=true:=by
 intro v hv;simp at hv;rcases hv with rfl|rfl|rfl|rfl|rfl|rfl|rfl<;>rfl
abbrev MsU:=B3O×B3O×Int×Bool×B3O×Unit
abbrev toU(m:MsT):MsU:=(m.1,m.2.1,m.2.2.1,m.2.2.2.1,m.2.2.2.2,())
abbrev vMs(m:MsT):Value:=.agg #[.string m.1,.string m.2.1,.int .i64 m.2.2.1,.bool m.2.2.2.1,.string m.2.2.2.2]
theorem C2S{a:Addr}{m:MsT}(ha:∀j v,(Z6 m)[j]? =some v→W0 h (a.add j)=some v){Q:MsU→Heap→Prop}(hq:Q (toU m) h):o3 [.str,.str,.int .i64,.bool,.str] a h Q:=
 A0n (ts:=[.str,.str,.int .i64,.bool,.str]) (toU m) (fun i v hv=>ha i v hv) hq
theorem B7A{m:MsT}{id:Int}{dup:Bool}(hs:sat h R){Q:Value→Heap→Prop}(hq:∀c p h',sat h' (pkB .u8 (c,p,A0x m id dup)::R)→Q (A2s .u8 (pkT (A0x m id dup) c p)) h'):
  V3 prog 118 #[vMs m,.int .i64 id,.bool dup] h Q:=by
 refine A4p (toU m) id dup h Q ?_
 delta A3j az bn es A0N ie jb ji jt nw pu sn sw ve vi vz w10 w11 w12 w13 w14 w15 w16 w17 w18 w19 w20 w21 w22 w23 w24 w25 w5 w6 w7 w8 w9
 refine V5 hs fun x1 h1 aa=>?_
 refine V5 aa fun x2 h2 ae=>?_
 refine⟨m.2.2.1,by rw[U3];exact ae.p1.cell 2,m.2.2.2.1,by rw[U3];exact ae.p1.cell 3,m.1,by rw[U3];exact ae.p1.cell 0,m.2.1,by rw[U3];exact ae.p1.cell 1,?_⟩
 refine V5 ae fun x7 h3 bo=>?_
 (try dsimp only);rw[U1]
 refine l5 bo rfl rfl fun h4 ak=>?_
 refine⟨m.2.2.2.2,by rw[U3];exact ak.p2.cell 4,?_⟩
 refine cut (fun z h'=>∃p:Slc,sat h' (cells x7 (W8 .u8 (pkT (A0x m id dup) ⟨none,0,0⟩ p)).toArray::cells x2 (W8 .u8 C4x).toArray::pkB .u8 (⟨none,0,0⟩,p,A0x m id dup)::R)) ?_ ?_
 ·intro K hK
  (try dsimp only);rw[U9]
  by_cases ht:m.2.2.2.2=ByteArray.mk #[]
  ·rw[if_neg (by simp[ht])]
   refine hK _ _ ⟨⟨none,0,0⟩,?_⟩
   have:=A3g (k:=.u8) (o:=A0x m id dup) rfl (by simp[A0x,C06,ht]) ak
   exact(this.re [1,2,0,3]).p3.drop
  ·rw[if_pos (by simp[ht])]
   refine⟨m.2.2.2.2,by rw[U3];exact ak.p2.cell 4,?_⟩
   refine V5 ak fun gE h5 ai=>?_
   (try dsimp only);rw[U1,U3]
   refine W7 ai.p1 (by simp) rfl fun h6 aw=>?_
   refine hK _ _ ⟨⟨some ⟨gE,0,none⟩,1,1⟩,?_⟩
   have hp:(A0x m id dup).props=[(38,0,C4J,m.2.2.2.2)]:=by simp[A0x,C06,ht]
   have h7:sat h6 (U5 X1 4 ⟨some ⟨gE,0,none⟩,1,1⟩ (A0x m id dup).props::cells x7 (W8 .u8 (pkT (A0x m id dup) ⟨none,0,0⟩ ⟨some ⟨gE,0,none⟩,1,1⟩)).toArray::cells x2 (W8 .u8 C4x).toArray::R):=by
    rw[hp]
    exact A1D (o:=0) (cs:=(X1 (38,0,C4J,m.2.2.2.2)).toArray) ⟨rfl,D9 _,rfl,by simp,by simp⟩ (aw.re [1,0,2,3]).p3.drop
   have h8:sat h6 (U5 (eKd .u8) 1 ⟨none,0,0⟩ (A0x m id dup).cB::U5 X1 4 ⟨some ⟨gE,0,none⟩,1,1⟩ (A0x m id dup).props::cells x7 (W8 .u8 (pkT (A0x m id dup) ⟨none,0,0⟩ ⟨some ⟨gE,0,none⟩,1,1⟩)).toArray::cells x2 (W8 .u8 C4x).toArray::R):=Z3 h7
   exact((A4C (t:=(⟨none,0,0⟩,⟨some ⟨gE,0,none⟩,1,1⟩,A0x m id dup))).2 h8).re [1,2,0]
 rintro⟨⟩ h5 ⟨p,ai⟩
 refine Y5 (ts:=B75 .u8) (pkT (A0x m id dup) ⟨none,0,0⟩ p) ai rfl ?_
 (try dsimp only);rw[U1]
 refine l5 ai.p1 rfl rfl fun h6 aw=>?_
 refine Y5 (ts:=B75 .u8) (pkT (A0x m id dup) ⟨none,0,0⟩ p) aw rfl ?_
 exact hq _ _ h6 aw.drop.drop
theorem B1O(o:Z5)(m:MsT)(w:List MsT):goF o (m::w)=if 0<m.2.2.1∧o.most≤(o.aG.length:Int) then({o with waiting:=m::w},[])
  else if 0<m.2.2.1 then((goF {o with aV:=⟨o.aV.most,A37 o.aV.used o.aV.taken,o.aV.used++[A37 o.aV.used o.aV.taken]⟩,aG:=o.aG++[(A37 o.aV.used o.aV.taken,m,false)]} w).1,A0x m (A37 o.aV.used o.aV.taken) false::(goF {o with aV:=⟨o.aV.most,A37 o.aV.used o.aV.taken,o.aV.used++[A37 o.aV.used o.aV.taken]⟩,aG:=o.aG++[(A37 o.aV.used o.aV.taken,m,false)]} w).2)
  else((goF o w).1,A0x m 0 false::(goF o w).2):=rfl
theorem A4c(o:Z5)(l:List MsT):∀(w:List MsT),goF {o with waiting:=l} w=goF o w:=by
 intro w
 induction w generalizing o with
 |nil=>rfl
 |cons m w ih=>
  rw[B1O,B1O]
  split
  ·rfl
  ·split
   ·have:=ih {o with aV:=⟨o.aV.most,A37 o.aV.used o.aV.taken,o.aV.used++[A37 o.aV.used o.aV.taken]⟩,aG:=o.aG++[(A37 o.aV.used o.aV.taken,m,false)]}
    simp only[this]
   ·rw[ih o]
theorem B2V{b:Nat}{o:Z5}{ps:List PkO}{s:Slc}(hs:sat h (A0m b o::p7 .u8 s ps::R))(ag:X0 o)(gV:ps.length≤10000){Q:Value→Heap→Prop}
  (hq:∀h' S,sat h' (A0m b (Y7 o).1::p7 .u8 S (ps++(Y7 o).2)::R)→Q (.slice S.a S.len S.cap) h'):
  V3 prog 119 #[at0 b,.slice s.a s.len s.cap] h Q:=by
 refine A6G (some ⟨b,0,none⟩) s h Q ?_
 delta A5C az bn g7 ie ix ji kb kc ki kp nn nw pu rq sn sx vi vs
 (try dsimp only);rw[U1]
 refine A7m (γ:=Z5×List PkO) (fun g c h'=>X0 g.1∧g.2.length+g.1.waiting.length≤10300∧(Y7 g.1).1=(Y7 o).1∧g.2++(Y7 g.1).2=ps++(Y7 o).2∧sat h' (A0m b g.1::p7 .u8 c.1 g.2::R)) (fun g=>g.1.waiting.length) (o,ps)
  ⟨ag,by have:=ag.wl;simp only;omega,rfl,rfl,hs⟩ ?_
 clear hs gV ag
 rintro⟨o1,os⟩ ⟨out,⟨⟩⟩ h1 ⟨ag,gV,dj,db,dT⟩ K bx hd
 simp only at ag gV dj db dT
 obtain⟨pb,fl,wt,aa⟩:=A0l.1 dT
 have eK:wt.len=o1.waiting.length:=(aa.p3).aW
 have cT:fl.len=o1.aG.length:=(aa.p2).aW
 refine cut (fun z h'=>h'=h1∧z.1=(o1.on&&decide (0<o1.waiting.length))) ?_ ?_
 ·intro K2 bd
  refine⟨_,rfl,o1.on,by rw[U3];exact aa.cell 2,?_⟩
  (try dsimp only);rw[U9]
  cases aP:o1.on with
  |false=>rw[if_neg (by simp)];exact bd _ _ ⟨rfl,by simp[aP]⟩
  |true=>
   rw[if_pos rfl]
   refine⟨_,rfl,wt,by rw[U3];exact aa.cell 4,?_⟩
   refine bd _ _ ⟨rfl,?_⟩
   simp only[eK,aP,G3]
   exact G6.2 (by omega)
 rintro⟨z,⟨⟩⟩ h2 ⟨rfl,hz⟩
 simp only at hz
 subst hz
 (try dsimp only);rw[U9]
 by_cases nS:o1.on=true∧0<o1.waiting.length
 case neg=>
  rw[if_neg (by rw[F0,decide_eq_true_eq];exact nS)]
  have e:Y7 o1=(o1,[]):=by
   unfold Y7
   by_cases aP:o1.on=true
   ·rw[if_pos aP]
    have hw:o1.waiting=[]:=by
     cases hw:o1.waiting with
     |nil=>rfl
     |cons m w=>exact absurd ⟨aP,by rw[hw];simp⟩ nS
    rw[hw]
    show({o1 with waiting:=[]},[])=_
    rw[←hw]
   ·rw[if_neg aP]
  rw[e] at dj db
  rw[C1] at db
  refine hd _ _ (hq h2 out ?_)
  rw[←dj,←db]
  exact dT
 obtain⟨aP,jX⟩:=nS
 rw[if_pos (by simp[aP,jX])]
 cases bz:o1.waiting with
 |nil=>rw[bz] at jX;simp at jX
 |cons m w=>
 have ig:=ag.wl
 have tD:=ag.wq m (by rw[bz];exact B4 ..)
 have nC:∀x∈w,0≤x.2.2.1∧x.2.2.1≤2:=fun x hx=>ag.wq x (by rw[bz];exact C3 _ hx)
 have nS:Y7 o1=goF o1 (m::w):=by unfold Y7;rw[if_pos aP,bz]
 rw[nS,B1O] at dj db
 rw[bz] at gV aa eK ig
 have iv:=ag.f64
 have qk:=ag.m64
 refine⟨_,rfl,wt,by rw[U3];exact aa.cell 4,?_⟩
 (try dsimp only);rw[U1]
 refine X8 (i:=0) (aa.p3.aO A7D) (x:=m) rfl fun p hp=>?_
 (try dsimp only);rw[U1]
 refine C2S hp ?_
 refine V5 aa fun fW h3 ba=>?_
 (try dsimp only);rw[U1]
 refine l5 ba rfl rfl fun h4 gJ=>?_
 have ae:sat h4 (cells fW (Z6 m).toArray::cells b #[at0 pb,.int .i64 o1.most,.bool o1.on,.slice fl.a fl.len fl.cap,.slice wt.a wt.len wt.cap]::A1q pb o1.aV::U5 A0O 7 fl o1.aG::U5 Z6 5 wt (m::w)::p7 .u8 out os::R):=gJ
 clear gJ ba aa
 refine cut (fun z h'=>h'=h4∧z.1=decide (0<m.2.2.1∧o1.most≤(o1.aG.length:Int))) ?_ ?_
 ·intro K2 bd
  refine⟨m.2.2.1,by rw[U3];exact ae.cell 2,?_⟩
  (try dsimp only);rw[U9]
  by_cases gq:0<m.2.2.1
  ·rw[if_pos (by simpa using gq)]
   refine⟨_,rfl,fl,by rw[U3];exact ae.p1.cell 3,_,rfl,o1.most,by rw[U3];exact ae.p1.cell 1,?_⟩
   refine bd _ _ ⟨rfl,?_⟩
   simp only[cT]
   rw[G6]
   simp[gq]
  ·rw[if_neg (by simpa using gq)]
   exact bd _ _ ⟨rfl,by simp[gq]⟩
 rintro⟨z,⟨⟩⟩ h5 ⟨rfl,hz⟩
 simp only at hz
 subst hz
 (try dsimp only);rw[U9]
 by_cases aA:0<m.2.2.1∧o1.most≤(o1.aG.length:Int)
 ·rw[if_pos (by simpa using aA)]
  rw[if_pos aA] at dj db
  rw[C1] at db
  refine hd _ _ (hq h5 out ?_)
  rw[←dj,←db]
  have:sat h5 (A0m b {o1 with waiting:=m::w}::p7 .u8 out os::R):=A0l.2 ⟨pb,fl,wt,ae.drop⟩
  exact this
 rw[if_neg (by simpa using aA)]
 rw[if_neg aA] at dj db
 refine⟨_,rfl,wt,by rw[U3];exact ae.p1.cell 4,?_⟩
 (try dsimp only);rw[U1]
 refine B2i (mx:=none) (lo:=1) (hi:=(m::w).length) ae.p4 A7D (by simp) (D9 _) ⟨rfl,by simp⟩ (by rw[eK];rfl) fun wt' aj=>?_
 rw[F9] at aj
 have bo:sat h5 (U5 Z6 5 wt' w::cells fW (Z6 m).toArray::cells b #[at0 pb,.int .i64 o1.most,.bool o1.on,.slice fl.a fl.len fl.cap,.slice wt.a wt.len wt.cap]::A1q pb o1.aV::U5 A0O 7 fl o1.aG::p7 .u8 out os::R):=aj
 clear aj ae
 refine⟨_,rfl,?_⟩
 (try dsimp only);rw[U1,U3]
 refine W7 bo.p2 (by simp) rfl fun h6 bp=>?_
 have ak:sat h6 (cells b #[at0 pb,.int .i64 o1.most,.bool o1.on,.slice fl.a fl.len fl.cap,.slice wt'.a wt'.len wt'.cap]::U5 Z6 5 wt' w::cells fW (Z6 m).toArray::A1q pb o1.aV::U5 A0O 7 fl o1.aG::p7 .u8 out os::R):=bp
 clear bp bo
 refine⟨m.2.2.1,by rw[U3];exact ak.p2.cell 2,?_⟩
 refine cut (fun z h'=>∃(fl':Slc) (o2:Z5),o2.on=true∧o2.waiting=w∧X0 o2∧(goF o2 w).1=(Y7 o).1∧os++A0x m z.1 false::(goF o2 w).2=ps++(Y7 o).2∧
   sat h' (cells fW (Z6 m).toArray::cells b #[at0 pb,.int .i64 o2.most,.bool o2.on,.slice fl'.a fl'.len fl'.cap,.slice wt'.a wt'.len wt'.cap]::A1q pb o2.aV::U5 A0O 7 fl' o2.aG::U5 Z6 5 wt' w::p7 .u8 out os::R)) ?_ ?_
 ·intro K2 bd
  (try dsimp only);rw[U9]
  by_cases gq:0<m.2.2.1
  ·rw[if_pos (by simpa using gq)]
   rw[if_pos gq] at dj db
   dsimp only at dj db
   have jI:(o1.aG.length:Int)<o1.most:=by omega
   refine⟨_,rfl,some ⟨pb,0,none⟩,by rw[U3];exact ak.cell 0,?_⟩
   have tT:=ag.fI
   have iQ:=ag.pm
   refine u9 (C4w ak.p3 (fun hf=>absurd hf (by omega)) (fun _ n u hr h7 gi=>⟨(u,0,()),rfl,?_⟩))
   have hu:=B5q hr
   have aK:sat h7 (A1q pb ⟨o1.aV.most,u,o1.aV.used++[u]⟩::cells b #[at0 pb,.int .i64 o1.most,.bool o1.on,.slice fl.a fl.len fl.cap,.slice wt'.a wt'.len wt'.cap]::U5 Z6 5 wt' w::cells fW (Z6 m).toArray::U5 A0O 7 fl o1.aG::p7 .u8 out os::R):=gi
   clear gi
   refine⟨_,rfl,fl,by rw[U3];exact aK.p1.cell 3,?_⟩
   refine Y5 (ts:=[.str,.str,.int .i64,.bool,.str]) (toU m) aK.p3 rfl ?_
   refine V5 aK fun po h8 bw=>?_
   refine⟨fl,by rw[U3];exact bw.p2.cell 3,rfl,?_⟩
   (try dsimp only);rw[U1]
   refine A0d (enc:=A0O) (ys:=[(u,m,false)]) A2F B1V rfl bw.p5 rfl ?_ (by decide) (by decide) (by omega) fun fl' h9 ff=>?_
   ·simp only[V6,N5,D8,H9,C1]
    exact bw.reads rfl
   refine⟨_,rfl,?_⟩
   (try dsimp only);rw[U1,U3]
   refine W7 ff.p3 (by simp) rfl fun fZ gj=>?_
   have aU:=ag.take (m:=m) (w:=w) (by simp only[B8] at ig;omega) nC ⟨gq,tD.2⟩ jI
   rw[hu] at dj db aU
   refine bd _ _ ⟨fl',{o1 with aV:=⟨o1.aV.most,u,o1.aV.used++[u]⟩,aG:=o1.aG++[(u,m,false)],waiting:=w},aP,rfl,aU,?_,?_,(gj.re [2,5,0,3,1,4,6]).drop⟩
   ·rw[←dj]
    exact congrArg Prod.fst (A4c {o1 with aV:=⟨o1.aV.most,u,o1.aV.used++[u]⟩,aG:=o1.aG++[(u,m,false)]} w w)
   ·rw[←db]
    have:=congrArg Prod.snd (A4c {o1 with aV:=⟨o1.aV.most,u,o1.aV.used++[u]⟩,aG:=o1.aG++[(u,m,false)]} w w)
    simp only at this⊢
    rw[this]
  ·rw[if_neg (by simpa using gq)]
   rw[if_neg gq] at dj db
   dsimp only at dj db
   refine bd _ _ ⟨fl,{o1 with waiting:=w},aP,rfl,⟨ag.pm,ag.pk,ag.m1,ag.m64,ag.ids,by simp only[B8] at ig⊢;omega,ag.fq,nC⟩,?_,?_,ak.re [2,0,3,4,1]⟩
   ·rw[←dj,A4c]
   ·rw[←db,A4c]
 rintro⟨id,⟨⟩⟩ h7 ⟨fl',o2,tn,je,bq,xB,vB,ai⟩
 simp only at vB
 refine Y5 (ts:=[.str,.str,.int .i64,.bool,.str]) (toU m) ai rfl ?_
 refine U6 (B7A (m:=m) (id:=id) (dup:=false) ai fun c p h8 aw=>⟨pkT (A0x m id false) c p,rfl,?_⟩)
 refine A4Z (t:=(c,p,A0x m id false)) (aw.re [6,0,1,2,3,4,5]) rfl (by decide) (by simp only[B8] at gV;omega) fun out' h9 aK=>?_
 have e2:Y7 o2=goF o2 w:=by unfold Y7;rw[if_pos tn,je]
 refine bx (o2,os++[A0x m id false]) _ _ (by simp only[bz,je,B8];omega) ⟨bq,?_,by rw[e2];exact xB,by rw[e2,D2];exact vB,?_⟩
 ·simp only[je,B5,B8,H2] at gV⊢
  omega
 ·refine A0l.2 ⟨pb,fl',wt',?_⟩
  rw[je]
  exact(aK.re [2,3,4,5,0,1]).re [0,1,2,3,4,5]|>fun hh=>(hh.re [5,0,1,2,3,4]).drop
end
instance:Enc Z6 5:=⟨A7D,B50,by decide⟩
instance:Enc A0O 7:=⟨A2F,B1V,by decide⟩
instance(k:IntKind):Enc (W8 k) 26:=⟨B5Z k,B20 k,by decide⟩
instance(k:IntKind):Enc (eKd k) 1:=⟨C24 k,C5O k,by decide⟩
instance:Enc X1 4:=⟨C22,C5M,by decide⟩
abbrev A0a(x:B3O):C9P:=[.string x]
instance:Enc A0a 1:=⟨fun _=>rfl,fun x v hv=>by rw[B7.1 hv];rfl,by decide⟩
end Go.Proofs.YtidlldnlphdhcaaGreatDoor
namespace Go.H
section
variable {A B C D E F:Asn} {L L1 L2 L3 L4 L5 L' R:List Asn} {h:Heap}
theorem Has.eW(hb:Has L B L1)(hc:Has L1 C L2)(hd:Has L2 D L3)(he:Has L3 E L4)(hf:Has L4 F L5):Sub L (B::C::D::E::F::L5):=fun m hs=>A0C (fun _ h=>h) (hc.eJ hd he hf) (hb m hs)
theorem W.fA{α:Type}{m:HM α}{Q:α→Heap→Prop}(mk:∀h,sat h (B::C::D::E::F::L5)→sat h (A::L5))(hw:W (A::L5) m Q)(hb:Has L B L1:=by repeat first|with_reducible exact V0|apply V2)(hc:Has L1 C L2:=by repeat first|with_reducible exact V0|apply V2)(hd:Has L2 D L3:=by repeat first|with_reducible exact V0|apply V2)(he:Has L3 E L4:=by repeat first|with_reducible exact V0|apply V2)(hf:Has L4 F L5:=by repeat first|with_reducible exact V0|apply V2):W L m Q:=fun h hs=>hw h (mk h ((hb.eW hc hd he hf).s hs))
theorem At.cY{q:Heap→Prop}(mk:∀h,sat h (B::C::L2)→sat h (A::L2))(hw:At (A::L2) q)(hb:Has L B L1:=by repeat first|with_reducible exact V0|apply V2)(hc:Has L1 C L2:=by repeat first|with_reducible exact V0|apply V2):At L q:=fun h hs=>hw h (mk h ((hb.then hc).s hs))
theorem At.fA{q:Heap→Prop}(mk:∀h,sat h (B::C::D::E::F::L5)→sat h (A::L5))(hw:At (A::L5) q)(hb:Has L B L1:=by repeat first|with_reducible exact V0|apply V2)(hc:Has L1 C L2:=by repeat first|with_reducible exact V0|apply V2)(hd:Has L2 D L3:=by repeat first|with_reducible exact V0|apply V2)(he:Has L3 E L4:=by repeat first|with_reducible exact V0|apply V2)(hf:Has L4 F L5:=by repeat first|with_reducible exact V0|apply V2):At L q:=fun h hs=>hw h (mk h ((hb.eW hc hd he hf).s hs))
variable {K V σ τ β:Type} {ek:K→Value} {ev:V→Value} {r it:Nat} {l done todo:List (K×V)} {Q':β→Heap→Prop}
theorem W.range{f:Nat→HM β}(hw:∀it,W (itA ek ev r l it [] l::L') (f it) Q')(hx:Has L (mapA ek ev r l) L':=by repeat first|with_reducible exact V0|apply V2):W L (HM.bind (A80 (some r)) f) Q':=fun h hs=>
 A83 (hx.s hs) fun it h' af=>hw it h' af
theorem W.entry{kk kv:Kind}{p:K×V}{x:kk.ty}{y:kv.ty}{f:kk.ty×kv.ty→HM β}(hw:W L (f (x,y)) Q')(hx:Has L (itA ek ev r l it (done++[p]) todo) L':=by repeat first|with_reducible exact V0|apply V2)(hk:ek p.1=kk.val x:=by rfl)(hv:ev p.2=kv.val y:=by rfl):W L (HM.bind (A3C kk kv it) f) Q':=fun h hs=>
 A9i hk hv (hx.s hs) (hw h hs)
theorem C9e{γ:Type}{s:σ}{body:σ→HM (σ⊕τ)}{Q:τ→Heap→Prop}(I:γ→σ→Prop)(J:γ→σ→List Asn)(μ:γ→Nat)(g:γ)(h0:I g s)(hL:Sub L (J g s))
  (hr:∀g s,I g s→∀K:σ⊕τ→Heap→Prop,(∀g' s',μ g'<μ g→I g' s'→At (J g' s') (K (.inl s')))→(∀t L,At L (Q t)→At L (K (.inr t)))→W (J g s) (body s) K):
  W L (HM.loop body s) Q:=fun h hs=>by
 refine A7m (γ:=γ) (fun g s h=>I g s∧sat h (J g s)) μ g ⟨h0,hL.s hs⟩ ?_
 rintro g s h ⟨hI,hJ⟩ K h1 h2
 exact hr g s hI K (fun g' s' hm qX h' af=>h1 g' s' h' hm ⟨qX,af⟩) (fun t L hw h' af=>h2 t h' (hw h' af)) h hJ
theorem C8v{s:σ}{N:σ→HM (σ⊕τ)}{S:σ→Value×Value→HM (σ⊕τ)}{f:τ→HM β}(J:List (K×V)→σ→List Asn)(hL:Sub L (itA ek ev r l it [] l::J [] s))
  (hN:∀done s,done.Perm l→∀K':σ⊕τ→Heap→Prop,(∀t L,W L (f t) Q'→At L (K' (.inr t)))→W (mapA ek ev r l::J done s) (N s) K')
  (hS:∀done p rest s,(done++p::rest).Perm l→∀K':σ⊕τ→Heap→Prop,(∀s',At (itA ek ev r l it (done++[p]) rest::J (done++[p]) s') (K' (.inl s')))→
   (∀t L,W L (f t) Q'→At L (K' (.inr t)))→W (itA ek ev r l it (done++[p]) rest::J done s) (S s (ek p.1,ev p.2)) K'):
  W L (HM.bind (HM.loop (fun s=>HM.bind (A6Y it) fun o=>A2r o (N s) (S s)) s) f) Q':=fun h hs=>by
 rw[U1]
 refine C5p J (hL.s hs) (fun done s h hp hs K' hd=>?_) (fun done p rest s h hp hs K' bx hd=>?_)
 ·exact hN done s hp K' (fun t L hw h' af=>hd t h' (hw h' af)) h hs
 ·exact hS done p rest s hp K' (fun s' h' af=>bx s' h' af) (fun t L hw h' af=>hd t h' (hw h' af)) h hs
theorem C67{s:σ}{N:σ→HM (σ⊕τ)}{S:σ→Value×Value→HM (σ⊕τ)}{f:τ→HM β}(p:List (K×V)→σ→Prop)(J:List (K×V)→σ→List Asn)(hp:p [] s)(hL:Sub L (itA ek ev r l it [] l::J [] s))
  (hN:∀done s,done.Perm l→p done s→∀K':σ⊕τ→Heap→Prop,(∀t L,W L (f t) Q'→At L (K' (.inr t)))→W (mapA ek ev r l::J done s) (N s) K')
  (hS:∀done q rest s,(done++q::rest).Perm l→p done s→∀K':σ⊕τ→Heap→Prop,(∀s',p (done++[q]) s'→At (itA ek ev r l it (done++[q]) rest::J (done++[q]) s') (K' (.inl s')))→
   (∀t L,W L (f t) Q'→At L (K' (.inr t)))→W (itA ek ev r l it (done++[q]) rest::J done s) (S s (ek q.1,ev q.2)) K'):
  W L (HM.bind (HM.loop (fun s=>HM.bind (A6Y it) fun o=>A2r o (N s) (S s)) s) f) Q':=by
 refine C8v (ek:=ek) (ev:=ev) (r:=r) (l:=l) (fun done s=>pr (p done s)::J done s) ?_ ?_ ?_
 ·exact fun m hs=>A0C (fun _ h=>h) (fun _ h=>B6S hp h) (hL m hs)
 ·intro done s hd K' hk h hs
  obtain⟨h1,h2⟩:=sat.bC.1 (hs.re [1,0])
  exact hN done s hd h1 K' hk h h2
 ·intro done q rest s hd K' bx hk h hs
  obtain⟨h1,h2⟩:=sat.bC.1 (hs.re [1,0])
  refine hS done q rest s hd h1 K' (fun s' dp h' af=>?_) hk h h2
  have h3:sat h' (pr (p (done++[q]) s')::itA ek ev r l it (done++[q]) rest::J (done++[q]) s'):=sat.bC.2 ⟨dp,af⟩
  exact bx s' h' (h3.re [1,0])
end
end Go.H
namespace Go.Proofs.YtidlldnlphdhcaaGreatDoor
open Go.H
open Go.Proofs.Tryz
open Go.H Go.Proofs
def A0g(f:Nat)(s:s6):Asn:=exA fun b:Nat=>star (cells f #[at0 b]) (A1q b s)
theorem A2X{h:Heap}{f:Nat}{s:s6}{R:List Asn}:sat h (A0g f s::R)↔∃b:Nat,sat h (cells f #[at0 b]::A1q b s::R):=by
 unfold A0g
 rw[sat.bA]
 constructor
 ·rintro⟨b,hs⟩;exact⟨b,sat.aI.1 hs⟩
 ·rintro⟨b,hs⟩;exact⟨b,sat.aI.2 hs⟩
theorem C0g{h:Heap}{R:List Asn}(hs:sat h R)(most:Int){Q:Value→Heap→Prop}
  (hq:∀b h',sat h' (A0g b ⟨max 1 (min most 64),0,[]⟩::R)→Q (at0 b) h'):V3 prog 113 #[.int .i64 most] h Q:=by
 refine B2S most h Q ?_
 delta B5J az cp nw pu vi
 simp only[U1,C6m]
 refine C0U hs most fun b h1 aa=>?_
 simp only[C7x,U1]
 refine V5 aa fun f h2 ae=>?_
 exact hq f h2 (A2X.2 ⟨b,ae⟩)
section
open Go.H Go.Proofs
structure V7 where
 id:Int
 aC:B3O
 aN:Bool
 on:Bool
 out:Z5
 aZ:s6
def A3G(b:Nat)(s:V7):Asn:=exA fun x:Nat×Nat=>
 star (cells b #[.int .i64 s.id,.string s.aC,.bool s.aN,.bool s.on,at0 x.1,at0 x.2]) (star (A0m x.1 s.out) (A0g x.2 s.aZ))
theorem A1J{h:Heap}{b:Nat}{s:V7}{R:List Asn}:sat h (A3G b s::R)↔∃ob ib:Nat,
  sat h (cells b #[.int .i64 s.id,.string s.aC,.bool s.aN,.bool s.on,at0 ob,at0 ib]::A0m ob s.out::A0g ib s.aZ::R):=by
 unfold A3G
 rw[sat.bA]
 constructor
 ·rintro⟨⟨ob,ib⟩,hs⟩
  rw[sat.aI] at hs
  exact⟨ob,ib,(sat.aI.1 hs.p1).p2⟩
 ·rintro⟨ob,ib,hs⟩
  refine⟨(ob,ib),?_⟩
  rw[sat.aI]
  exact(sat.aI.2 (hs.re [1,2,0])).p1
def o9(p:Nat×V7):Int×C9N:=(p.2.id,some ⟨p.1,0,none⟩)
abbrev eKI:Int→Value:=fun n=>.int .i64 n
abbrev eVP:C9N→Value:=Kind.val (.one .ptr)
def A1I(b:Nat)(last:Int)(L:List (Nat×V7)):Asn:=exA fun m:Nat=>
 star (cells b #[.int .i64 last,.map (some m)]) (star (mapA eKI eVP m (L.map o9)) (Z9 (fun p=>A3G p.1 p.2) L))
theorem r6{h:Heap}{b:Nat}{last:Int}{L:List (Nat×V7)}{R:List Asn}:sat h (A1I b last L::R)↔∃m:Nat,
  sat h (cells b #[.int .i64 last,.map (some m)]::mapA eKI eVP m (L.map o9)::Z9 (fun p=>A3G p.1 p.2) L::R):=by
 unfold A1I
 rw[sat.bA]
 constructor
 ·rintro⟨m,hs⟩
  rw[sat.aI] at hs
  exact⟨m,(sat.aI.1 hs.p1).p2⟩
 ·rintro⟨m,hs⟩
  refine⟨m,?_⟩
  rw[sat.aI]
  exact(sat.aI.2 (hs.re [1,2,0])).p1
theorem B9x{h:Heap}{R:List Asn}(hs:sat h R){Q:Value→Heap→Prop}(hq:∀b h',sat h' (A1I b 0 []::R)→Q (at0 b) h'):V3 prog 27 #[] h Q:=by
 refine B0W h Q ?_
 delta B3n az bn nw pu vi
 refine A7i (ek:=eKI) (ev:=eVP) hs fun m h1 aa=>?_
 refine V5 aa fun b h2 ae=>?_
 exact hq b h2 (r6.2 ⟨m,(A2x.2 ae).b2⟩)
theorem B4S{h:Heap}{L:List (Nat×V7)}{R:List Asn}{p:Nat×V7}(hp:p∈L)(hs:sat h (Z9 (fun p=>A3G p.1 p.2) L::R)):W0 h ⟨p.1,1,none⟩=some (.string p.2.aC):=by
 obtain⟨R',hs⟩:=A8U hp hs
 obtain⟨ob,ib,hs⟩:=A1J.1 hs
 exact hs.cell 1
theorem C2O{h:Heap}{R:List Asn}{b:Nat}{last:Int}{L:List (Nat×V7)}{c:B3O}(hs:sat h (A1I b last L::R)){Q:Value→Heap→Prop}
  (ax:(∀p∈L,p.2.aC≠c)→∀h',sat h' (A1I b last L::R)→Q (.pointer none) h')
  (dc:∀p∈L,p.2.aC=c→∀h',sat h' (A1I b last L::R)→Q (at0 p.1) h'):V3 prog 98 #[at0 b,.string c] h Q:=by
 refine A7a _ c h Q ?_
 obtain⟨m,hs⟩:=r6.1 hs
 have c1:W0 h ⟨b,1,none⟩=some (.map (some m)):=hs.cell 1
 delta A6s bn ie km kt nn pu
 simp[c1]
 refine A83 hs.p1 fun it h1 aa=>?_
 refine l9 (γ:=List (Int×C9N)×List (Int×C9N))
  (fun g _ h'=>(g.1++g.2).Perm (L.map o9)∧(∀p∈L,o9 p∈g.1→p.2.aC≠c)∧
   sat h' (itA eKI eVP m (L.map o9) it g.1 g.2::cells b #[.int .i64 last,.map (some m)]::Z9 (fun p=>A3G p.1 p.2) L::R)) (fun g=>g.2.length) ([],L.map o9) ⟨J3 _,by simp,aa⟩ ?_
 rintro⟨done,todo⟩ ⟨⟩ h2 ⟨hp,hd,ae⟩
 simp only at hp hd ae
 simp
 refine B1z ae (fun h0=>?_) (fun q t1 t2 ht h3 aj=>?_)
 ·subst h0
  simp
  refine ax (fun p qa=>hd p qa ?_) h2 (r6.2 ⟨m,(A9e ae).p1⟩)
  rw[C1] at hp
  exact hp.mem_iff.2 (B3 qa)
 ·subst ht
  simp
  have rE:q∈L.map o9:=hp.mem_iff.1 (by simp)
  obtain⟨p,qa,rfl⟩:=E4.1 rE
  refine A9i (kk:=.one .any) (kv:=.one .ptr) (ek:=eKI) (ev:=eVP) (p:=o9 p) (x:=Value.int .i64 p.2.id) (y:=some ⟨p.1,0,none⟩) rfl rfl aj ?_
  have cc:W0 h3 ⟨p.1,1,none⟩=some (.string p.2.aC):=B4S qa aj.p2
  simp[o9,cc]
  by_cases hc:p.2.aC=c
  ·simp[hc]
   exact dc p qa hc h3 (r6.2 ⟨m,(A9e aj).p1⟩)
  ·simp[hc]
   refine .mk (done++[o9 p],t1++t2) (by simp) ⟨?_,fun a b dp hm=>?_,aj⟩
   ·refine List.Perm.trans ?_ hp
    simp only[D2]
    refine Q4 done ?_
    show(o9 p::(t1++t2)).Perm _
    exact P8.symm
   ·rcases C9.1 hm with hm|hm
    ·exact hd (a,b) dp hm
    ·have he:=B7.1 hm
     have:a=p.1:=by
      have:=congrArg Prod.snd he
      simpa[o9] using this
     have c2:=B4S dp aj.p2
     simp only at c2
     rw[this,cc] at c2
     have e2:p.2.aC=b.aC:=by simpa using c2
     exact fun e3=>hc (e2.trans e3)
def a8(c:B3O):Prop:=q8 c=none∧c≠ByteArray.mk #[]∧c.size≤64
theorem C27{h:Heap}{R:List Asn}{b:Nat}{last:Int}{L:List (Nat×V7)}{k:Int}(hs:sat h (A1I b last L::R)){Q:Value→Heap→Prop}
  (ax:(∀p∈L,p.2.id≠k)→Q (.pointer none) h)(dc:∀p∈L,p.2.id=k→Q (at0 p.1) h):V3 prog 99 #[at0 b,.int .i64 k] h Q:=by
 refine A7b _ k h Q ?_
 obtain⟨m,hs⟩:=r6.1 hs
 have c1:W0 h ⟨b,1,none⟩=some (.map (some m)):=hs.cell 1
 delta A6t bn ie km nn pu vi
 simp[c1]
 refine u7 kI (kind:=.one .ptr) (z:=none) rfl hs.p1 ?_
 cases hg:W3 (L.map o9) k with
 |none=>
  simp
  refine ax fun p hp e=>?_
  have:=(A1n _ _).1 hg
  exact this (by rw[F1];exact E4.2 ⟨p,hp,e⟩)
 |some v=>
  obtain⟨p,hp,e⟩:=E4.1 (A38 hg)
  have e1:p.2.id=k:=congrArg Prod.fst e
  have e2:some ⟨p.1,0,none⟩=v:=congrArg Prod.snd e
  subst e2
  simpa using dc p hp e1
theorem C2w{h:Heap}{R:List Asn}{m:Nat}{l1 l2:List (Nat×V7)}{p:Nat×V7}(hs:sat h (mapA eKI eVP m ((l1++p::l2).map o9)::R)):p.2.id∉(l1.map o9).map (·.1):=by
 have hn:=hs.bP
 rw[C0,B6,C0,B6,G1] at hn
 intro hm
 exact hn.2.2 p.2.id hm p.2.id (B4 ..) rfl
theorem C6n{h:Heap}{R:List Asn}{b:Nat}{last:Int}{L:List (Nat×V7)}{k:Int}(hs:sat h (A1I b last L::R)){Q:Value→Heap→Prop}
  (ax:(∀p∈L,p.2.id≠k)→Q (.bool false) h)(dH:∀p∈L,p.2.id=k→p.2.on=false→Q (.bool false) h)
  (ew:∀l1 p l2,L=l1++p::l2→p.2.id=k→p.2.on=true→p.2.aN=true→∀h',sat h' (A1I b last (l1++(p.1,{p.2 with on:=false,out:={p.2.out with on:=false}})::l2)::R)→Q (.bool false) h')
  (tZ:∀l1 p l2,L=l1++p::l2→p.2.id=k→p.2.on=true→p.2.aN=false→∀h',sat h' (A1I b last (l1++l2)::R)→Q (.bool true) h'):
  V3 prog 95 #[at0 b,.int .i64 k] h Q:=by
 refine A6w _ k h Q ?_
 delta A5x bn cp cx ie kb km kp nn pu sx vi
 simp only[U1,C6m]
 refine C27 hs (fun hn=>?_) (fun p hp he=>?_)
 ·simp
  exact ax hn
 ·obtain⟨l1,l2,rfl⟩:=H0 hp
  obtain⟨m,hs⟩:=r6.1 hs
  have aa:=j5.1 (hs.re [2,0,1])
  obtain⟨ob,ib,ae⟩:=A1J.1 aa
  have c2:W0 h ⟨p.1,2,none⟩=some (.bool p.2.aN):=ae.cell 2
  have c3:W0 h ⟨p.1,3,none⟩=some (.bool p.2.on):=ae.cell 3
  by_cases aP:p.2.on=true
  ·rw[aP] at c3
   simp[U3,c3]
   refine W7 ae (by simp) rfl fun h1 aj=>?_
   have d4:W0 h1 ⟨p.1,4,none⟩=some (at0 ob):=by rw[aj.cell];rfl
   simp[d4]
   refine B9S aj.p1 fun h2 ak=>?_
   have e2:W0 h2 ⟨p.1,2,none⟩=some (.bool p.2.aN):=by rw[ak.p1.cell];rfl
   simp[e2]
   have fin:∀{h':Heap} {R':List Asn},sat h' (A0m ob {p.2.out with on:=false}::cells p.1 (#[.int .i64 p.2.id,.string p.2.aC,.bool p.2.aN,.bool p.2.on,at0 ob,at0 ib].setIfInBounds 3 (.bool false))::A0g ib p.2.aZ::Z9 (fun p=>A3G p.1 p.2) (l1++l2)::R')→
     sat h' (Z9 (fun p=>A3G p.1 p.2) (l1++(p.1,{p.2 with on:=false,out:={p.2.out with on:=false}})::l2)::R'):=fun af=>by
    refine j5.2 (A1J.2 ⟨ob,ib,?_⟩)
    exact af.re [1,0,2]
   by_cases hk:p.2.aN=true
   ·simp[hk,e2]
    refine ew l1 p l2 rfl he aP hk h2 (r6.2 ⟨m,?_⟩)
    have e:(l1++(p.1,{p.2 with on:=false,out:={p.2.out with on:=false}})::l2).map o9=(l1++p::l2).map o9:=by simp[o9]
    rw[e]
    exact(fin ak).re [1,2,0]
   ·have gZ:p.2.aN=false:=by simpa using hk
    have ai:=ak.re [4,5,0,1,2,3]
    have f1:W0 h2 ⟨b,1,none⟩=some (.map (some m)):=by rw[ai.cell];rfl
    simp[gZ,f1]
    refine A5Q kI (ev:=eVP) ai.p1 fun h3 aw=>?_
    have g2:W0 h3 ⟨p.1,2,none⟩=some (.bool p.2.aN):=by rw[(aw.re [3,0,1,2]).cell];rfl
    rw[gZ] at g2
    simp[g2]
    refine tZ l1 p l2 rfl he aP gZ h3 (r6.2 ⟨m,?_⟩)
    have fQ:=C2w hs.p1
    have iH:mdel ((l1++p::l2).map o9) k=(l1++l2).map o9:=by
     rw[C0,B6,show o9 p=(k,(o9 p).2) from by rw[←he];rfl,B1C (by rw[←he];exact fQ),C0]
    rw[iH] at aw
    have aK:=aw.re [1,0,5,2,3,4]
    exact(aK.re [3,4,5,0,1,2]).drop.drop.drop
  ·have cZ:p.2.on=false:=by simpa using aP
   rw[cZ] at c3
   simp[U3,c3]
   exact dH p hp he cZ
def A2w(id:Int)(c:B3O)(aN:Bool):V7:=⟨id,c,aN,true,⟨⟨64,0,[]⟩,64,false,[],[]⟩,⟨64,0,[]⟩⟩
theorem C2v{h h0:Heap}{R:List Asn}{b:Nat}{last:Int}{L:List (Nat×V7)}(hs:sat h (A1I b last L::old h0::R))(ht:U8 h0){c:B3O}(hsz:c.size≤9223372036854775807){clean aN:Bool}
  (tG:0≤last)(fa:last<4611686018427387904)(hid:∀p∈L,p.2.id≤last){Q:Value→Heap→Prop}
  (al:¬a8 c→∀h',sat h' (A1I b last L::old h0::R)→Q (.tuple #[.int .i64 0,.bool false,.int .u8 133]) h')
  (aA:a8 c→(∀p∈L,p.2.aC≠c)→32≤L.length→∀h',sat h' (A1I b last L::old h0::R)→Q (.tuple #[.int .i64 0,.bool false,.int .u8 151]) h')
  (aP:a8 c→clean=false→∀l1 p l2,L=l1++p::l2→p.2.aC=c→∀h',sat h' (A1I b last (l1++(p.1,{p.2 with on:=true,aN:=aN})::l2)::old h0::R)→Q (.tuple #[.int .i64 p.2.id,.bool true,.int .u8 0]) h')
  (gL:a8 c→∀L0,((∀p∈L,p.2.aC≠c)∧L.length<32∧L0=L)∨(clean=true∧∃l1 p l2,L=l1++p::l2∧p.2.aC=c∧L0=l1++l2)→
   ∀nb h',sat h' (A1I b (last+1) (L0++[(nb,A2w (last+1) c aN)])::old h0::R)→Q (.tuple #[.int .i64 (last+1),.bool false,.int .u8 0]) h'):
  V3 prog 69 #[at0 b,.string c,.bool clean,.bool aN] h Q:=by
 refine A5h _ c clean aN h Q ?_
 delta A4t az bn cp es ie ki km nn nw pu rq sx vi wi
 refine u9 (B6L hs.p1 ht c hsz fun h1 bB=>⟨(match q8 c with|some n=>((n:Int),true,())|none=>(0,false,())),by cases q8 c<;>rfl,?_⟩)
 have aa:=bB.p1
 clear bB hs
 have hx:(match q8 c with|some n=>((n:Int),true,())|none=>(0,false,()):Int×Bool×Unit).2.1=(q8 c).isSome:=by cases q8 c<;>rfl
 simp only[hx,U9,Option.isNone_some,H7,if_false]
 clear hx
 refine V4 (fun x h'=>h'=h1∧(x.1=true↔¬a8 c)) ?_ ?_
 ·unfold a8
  cases hf:q8 c with
  |some n=>simp
  |none=>
   by_cases g1:c=ByteArray.mk #[]
   ·simp[g1]
   ·by_cases g2:64<((c.size:Nat):Int)
    ·simp[g1,g2];omega
    ·simp[g1,g2];omega
 rintro⟨x,⟨⟩⟩ h2 ⟨rfl,hb⟩
 simp only at hb⊢
 by_cases hg:a8 c
 case neg=>
  rw[U9,if_pos (hb.2 hg)]
  exact al hg h2 aa
 rw[U9,if_neg (fun hh=>(hb.1 hh) hg)]
 clear hb al
 refine V4 (fun x h'=>(x=none∧(∀p∈L,p.2.aC≠c)∧sat h' (A1I b last L::old h0::R))∨(∃p,p∈L∧x=some ⟨p.1,0,none⟩∧p.2.aC=c∧sat h' (A1I b last L::old h0::R))) ?_ ?_
 ·exact C2O aa (fun hn h' af=>⟨none,rfl,.inl ⟨rfl,hn,af⟩⟩) (fun p hp hc h' af=>⟨some ⟨p.1,0,none⟩,rfl,.inr ⟨p,hp,rfl,hc,af⟩⟩)
 intro x h3 hx
 refine V4 (fun y h'=>h'=h3∧y.1=(x.isSome&& !clean)) ?_ ?_
 ·cases x<;>simp
 rintro⟨y,⟨⟩⟩ h4 ⟨rfl,hy⟩
 simp only at hy⊢
 by_cases cZ:y=true
 ·
  rw[U9,if_pos cZ]
  rw[cZ] at hy
  obtain⟨fc,aQ⟩:x.isSome=true∧clean=false:=by
   cases x<;>cases clean<;>simp at hy⊢
  rcases hx with⟨rfl,-,-⟩|⟨p,hp,rfl,hc,ak⟩
  ·cases fc
  obtain⟨l1,l2,rfl⟩:=H0 hp
  obtain⟨m,ai⟩:=r6.1 ak
  have aw:=j5.1 (ai.re [2,0,1])
  obtain⟨ob,ib,aK⟩:=A1J.1 aw
  simp[U3]
  refine W7 aK (by simp) rfl fun h5 bw=>?_
  refine W7 bw (by simp) rfl fun h6 ff=>?_
  have c0:W0 h6 ⟨p.1,0,none⟩=some (.int .i64 p.2.id):=by rw[ff.cell];rfl
  simp[c0]
  refine aP hg aQ l1 p l2 rfl hc h6 (r6.2 ⟨m,?_⟩)
  have e:(l1++(p.1,{p.2 with on:=true,aN:=aN})::l2).map o9=(l1++p::l2).map o9:=by simp[o9]
  rw[e]
  have fU:sat h6 (Z9 (fun p=>A3G p.1 p.2) (l1++(p.1,{p.2 with on:=true,aN:=aN})::l2)::cells b #[.int .i64 last,.map (some m)]::mapA eKI eVP m ((l1++p::l2).map o9)::old h0::R):=
   j5.2 (A1J.2 ⟨ob,ib,ff⟩)
  exact fU.re [1,2,0]
 rw[U9,if_neg cZ]
 obtain⟨P,xP,vK,xO⟩:∃P:Unit⊕(Int×Bool×Int×Unit)→Heap→Prop,
   (∀h',(∀p∈L,p.2.aC≠c)→32≤L.length→sat h' (A1I b last L::old h0::R)→P (Sum.inr (0,false,151,())) h')∧
   (∀L0 h',(((∀p∈L,p.2.aC≠c)∧L.length<32∧L0=L)∨(clean=true∧∃l1 p l2,L=l1++p::l2∧p.2.aC=c∧L0=l1++l2))→(∀p∈L0,p.2.id≤last)→sat h' (A1I b last L0::old h0::R)→P (Sum.inl ()) h')∧
   (∀z h',P z h'→(z=Sum.inr (0,false,151,())∧(∀p∈L,p.2.aC≠c)∧32≤L.length∧sat h' (A1I b last L::old h0::R))∨
    (z=Sum.inl ()∧∃L0,(((∀p∈L,p.2.aC≠c)∧L.length<32∧L0=L)∨(clean=true∧∃l1 p l2,L=l1++p::l2∧p.2.aC=c∧L0=l1++l2))∧(∀p∈L0,p.2.id≤last)∧sat h' (A1I b last L0::old h0::R))):=
  ⟨fun z h'=>(z=Sum.inr (0,false,151,())∧(∀p∈L,p.2.aC≠c)∧32≤L.length∧sat h' (A1I b last L::old h0::R))∨
    (z=Sum.inl ()∧∃L0,(((∀p∈L,p.2.aC≠c)∧L.length<32∧L0=L)∨(clean=true∧∃l1 p l2,L=l1++p::l2∧p.2.aC=c∧L0=l1++l2))∧(∀p∈L0,p.2.id≤last)∧sat h' (A1I b last L0::old h0::R)),
   fun h' a1 a2 a3=>.inl ⟨rfl,a1,a2,a3⟩,fun L0 h' a1 a2 a3=>.inr ⟨rfl,L0,a1,a2,a3⟩,fun z h' hz=>hz⟩
 refine V4 P ?_ ?_
 ·rcases hx with⟨rfl,im,ak⟩|⟨p,hp,rfl,hc,ak⟩
  ·obtain⟨m,ai⟩:=r6.1 ak
   have c1:W0 h4 ⟨b,1,none⟩=some (.map (some m)):=ai.cell 1
   simp[c1]
   refine A9a ai.p1 ?_
   by_cases hlen:32≤L.length
   ·have:(32:Int)≤(((L.map o9).length:Nat):Int):=by simp;omega
    rw[if_pos this]
    exact xP h4 im hlen ak
   ·have:¬(32:Int)≤(((L.map o9).length:Nat):Int):=by simp;omega
    rw[if_neg this]
    exact vK L h4 (.inl ⟨im,by omega,rfl⟩) hid ak
  ·have aQ:clean=true:=by
    cases clean with
    |true=>rfl
    |false=>simp at hy;exact absurd hy cZ
   obtain⟨l1,l2,rfl⟩:=H0 hp
   obtain⟨m,ai⟩:=r6.1 ak
   have c1:W0 h4 ⟨b,1,none⟩=some (.map (some m)):=ai.cell 1
   have aw:=j5.1 (ai.re [2,0,1])
   obtain⟨ob,ib,aK⟩:=A1J.1 aw
   have c0:W0 h4 ⟨p.1,0,none⟩=some (.int .i64 p.2.id):=aK.cell 0
   have fQ:=C2w ai.p1
   have iH:mdel ((l1++p::l2).map o9) p.2.id=(l1++l2).map o9:=by
    rw[C0,B6,show o9 p=(p.2.id,(o9 p).2) from rfl,B1C fQ,C0]
   simp[c1,U3,c0]
   refine A5Q kI (ev:=eVP) (aw.re [3,0,1,2]) fun h5 bw=>?_
   rw[iH] at bw
   refine vK (l1++l2) h5 (.inr ⟨aQ,l1,p,l2,rfl,hc,rfl⟩) (fun p' dp=>hid p' ?_) (r6.2 ⟨m,?_⟩)
   ·rcases C9.1 dp with h|h
    ·exact I7 _ h
    ·exact F6 _ (C3 _ h)
   ·exact(bw.re [1,3,0,2]).drop
 intro z h5 hz
 rcases xO z h5 hz with⟨rfl,im,hlen,ai⟩|⟨rfl,L0,xT,tP,ai⟩
 ·exact aA hg im hlen h5 ai
 simp only[D7]
 obtain⟨m,aw⟩:=r6.1 ai
 have w1:IntKind.wrap .i64 (last+1)=last+1:=V8 (by omega) (by omega)
 have c0:W0 h5 ⟨b,0,none⟩=some (.int .i64 last):=aw.cell 0
 simp[c0,w1]
 refine W7 aw (by simp) rfl fun h6 aK=>?_
 have gi:sat h6 (cells b #[.int .i64 (last+1),.map (some m)]::mapA eKI eVP m (L0.map o9)::Z9 (fun p=>A3G p.1 p.2) L0::old h0::R):=aK
 clear aK
 have d0:W0 h6 ⟨b,0,none⟩=some (.int .i64 (last+1)):=gi.cell 0
 have d1:W0 h6 ⟨b,1,none⟩=some (.map (some m)):=gi.cell 1
 simp[d0,d1]
 refine B9R gi 64 fun ob h7 bw=>?_
 have e0:W0 h7 ⟨b,0,none⟩=some (.int .i64 (last+1)):=bw.p1.cell 0
 have e1:W0 h7 ⟨b,1,none⟩=some (.map (some m)):=bw.p1.cell 1
 simp[e0,e1]
 refine C0g bw 64 fun ib h8 ff=>?_
 have f0:W0 h8 ⟨b,0,none⟩=some (.int .i64 (last+1)):=ff.p2.cell 0
 have f1:W0 h8 ⟨b,1,none⟩=some (.map (some m)):=ff.p2.cell 1
 simp[f0,f1]
 refine V5 ff fun nb h9 gj=>?_
 have g0:W0 h9 ⟨b,0,none⟩=some (.int .i64 (last+1)):=gj.p3.cell 0
 have g1:W0 h9 ⟨b,1,none⟩=some (.map (some m)):=gj.p3.cell 1
 simp[g0,g1]
 refine A4A kI (A9g .i64) (ev:=eVP) (x:=some ⟨nb,0,none⟩) (gj.re [4,0,1,2,3]) fun fZ eY=>?_
 have xb:W3 (L0.map o9) (last+1)=none:=by
  rw[A1n]
  intro hm
  rw[F1] at hm
  obtain⟨p,hp,he⟩:=E4.1 hm
  have:=tP p hp
  have jm:p.2.id=last+1:=he
  omega
 rw[A2R _ _ _ xb] at eY
 have k0:W0 fZ ⟨b,0,none⟩=some (.int .i64 (last+1)):=by rw[(eY.re [4,0,1,2,3]).cell];rfl
 simp[k0]
 refine gL hg L0 xT nb fZ (r6.2 ⟨m,?_⟩)
 have sX:sat fZ (A3G nb (A2w (last+1) c aN)::Z9 (fun p=>A3G p.1 p.2) L0::cells b #[.int .i64 (last+1),.map (some m)]::mapA eKI eVP m (L0.map o9++[(last+1,some ⟨nb,0,none⟩)])::old h0::R):=
  A1J.2 ⟨ob,ib,eY.re [1,3,2,5,4,0]⟩
 have iY:sat fZ (Z9 (fun p=>A3G p.1 p.2) (L0++[(nb,A2w (last+1) c aN)])::cells b #[.int .i64 (last+1),.map (some m)]::mapA eKI eVP m (L0.map o9++[(last+1,some ⟨nb,0,none⟩)])::old h0::R):=by
  refine j5.2 ?_
  rw[C1]
  exact sX
 have e:(L0++[(nb,A2w (last+1) c aN)]).map o9=L0.map o9++[(last+1,some ⟨nb,0,none⟩)]:=by simp[o9,A2w]
 rw[e]
 exact iY.re [1,2,0]
variable {h:Heap} {R:List Asn}
abbrev B8m(s:V7)(ob ib:Nat):C9O:=#[.int .i64 s.id,.string s.aC,.bool s.aN,.bool s.on,at0 ob,at0 ib]
theorem B9q{b:Nat}{last:Int}{l1 l2:List (Nat×V7)}{p:Nat×V7}(hs:sat h (A1I b last (l1++p::l2)::R)):∃m ob ib,
  sat h (A0m ob p.2.out::A0g ib p.2.aZ::cells p.1 (B8m p.2 ob ib)::cells b #[.int .i64 last,.map (some m)]::mapA eKI eVP m ((l1++p::l2).map o9)::Z9 (fun p=>A3G p.1 p.2) (l1++l2)::R):=by
 obtain⟨m,hs⟩:=r6.1 hs
 have aa:=j5.1 (hs.re [2,0,1])
 obtain⟨ob,ib,ae⟩:=A1J.1 aa
 exact⟨m,ob,ib,(ae.re [1,2,0,4,5,3])⟩
theorem B9p{b:Nat}{last:Int}{l1 l2:List (Nat×V7)}{p:Nat×V7}{o:Z5}{m ob ib:Nat}
  (hs:sat h (A0m ob o::A0g ib p.2.aZ::cells p.1 (B8m p.2 ob ib)::cells b #[.int .i64 last,.map (some m)]::mapA eKI eVP m ((l1++p::l2).map o9)::Z9 (fun p=>A3G p.1 p.2) (l1++l2)::R)):
  sat h (A1I b last (l1++(p.1,{p.2 with out:=o})::l2)::R):=by
 refine r6.2 ⟨m,?_⟩
 have e:(l1++(p.1,{p.2 with out:=o})::l2).map o9=(l1++p::l2).map o9:=by simp[o9]
 rw[e]
 have h1:sat h (A3G p.1 {p.2 with out:=o}::Z9 (fun p=>A3G p.1 p.2) (l1++l2)::cells b #[.int .i64 last,.map (some m)]::mapA eKI eVP m ((l1++p::l2).map o9)::R):=
  A1J.2 ⟨ob,ib,hs.re [2,0,1,5,3,4]⟩
 have h2:sat h (Z9 (fun p=>A3G p.1 p.2) (l1++(p.1,{p.2 with out:=o})::l2)::cells b #[.int .i64 last,.map (some m)]::mapA eKI eVP m ((l1++p::l2).map o9)::R):=j5.2 h1
 exact h2.re [1,2,0]
theorem C28{b:Nat}{last:Int}{l1 l2:List (Nat×V7)}{p:Nat×V7}{k:Int}{m ob ib:Nat}{o:Z5}(hk:p.2.id=k)
  (hs:sat h (A0m ob o::A0g ib p.2.aZ::cells p.1 (B8m p.2 ob ib)::cells b #[.int .i64 last,.map (some m)]::mapA eKI eVP m ((l1++p::l2).map o9)::Z9 (fun p=>A3G p.1 p.2) (l1++l2)::R))
  {Q:Value→Heap→Prop}(hq:Q (at0 p.1) h):V3 prog 99 #[at0 b,.int .i64 k] h Q:=by
 have au:=(hs.re [4,0,1,2,3]).bP
 rw[F1] at au
 refine C27 (B9p hs) (fun ax=>?_) (fun q eh uT=>?_)
 ·exact absurd hk (ax (p.1,{p.2 with out:=o}) (F6 _ (B4 ..)))
 ·have:q.1=p.1:=by
   rw[C0,B6,G1] at au
   rcases C9.1 eh with hm|hm
   ·exact absurd (uT.trans hk.symm) (au.2.2 _ (B3 hm) _ (B4 ..))
   ·rcases D3.1 hm with rfl|hm
    ·rfl
    ·have h3:=(F8.1 au.2.1).1
     have h4:(((·.1)∘o9) q:Int)=((·.1)∘o9) p:=uT.trans hk.symm
     rw[←h4] at h3
     exact absurd (B3 hm) h3
  rw[this]
  exact hq
theorem C6j{b:Nat}{last:Int}{l1 l2:List (Nat×V7)}{p:Nat×V7}{k:Int}{m ob ib:Nat}{o:Z5}(hk:p.2.id=k)
  (hs:sat h (A0m ob o::A0g ib p.2.aZ::cells p.1 (B8m p.2 ob ib)::cells b #[.int .i64 last,.map (some m)]::mapA eKI eVP m ((l1++p::l2).map o9)::Z9 (fun p=>A3G p.1 p.2) (l1++l2)::R))
  {Q:Value→Heap→Prop}(hq:Q (at0 ob) h):V3 prog 56 #[at0 b,.int .i64 k] h Q:=by
 refine A6u _ k h Q ?_
 delta A5w cp ie kp nn pu vi
 refine U6 (C28 hk hs ⟨some ⟨p.1,0,none⟩,rfl,?_⟩)
 have c4:W0 h ⟨p.1,4,none⟩=some (at0 ob):=(hs.re [2,0,1]).cell 4
 (try dsimp only);rw[U9,if_pos (by rfl)]
 exact⟨_,rfl,some ⟨ob,0,none⟩,by rw[U3];exact c4,hq⟩
theorem C7e{b:Nat}{last:Int}{l1 l2:List (Nat×V7)}{p:Nat×V7}{k:Int}{m ob ib:Nat}{o:Z5}(hk:p.2.id=k)
  (hs:sat h (A0m ob o::A0g ib p.2.aZ::cells p.1 (B8m p.2 ob ib)::cells b #[.int .i64 last,.map (some m)]::mapA eKI eVP m ((l1++p::l2).map o9)::Z9 (fun p=>A3G p.1 p.2) (l1++l2)::R))
  {Q:Value→Heap→Prop}(hq:Q (at0 ib) h):V3 prog 106 #[at0 b,.int .i64 k] h Q:=by
 refine A7c _ k h Q ?_
 delta A6v cp ie kp nn pu vi
 refine U6 (C28 hk hs ⟨some ⟨p.1,0,none⟩,rfl,?_⟩)
 have c5:W0 h ⟨p.1,5,none⟩=some (at0 ib):=(hs.re [2,0,1]).cell 5
 (try dsimp only);rw[U9,if_pos (by rfl)]
 exact⟨_,rfl,some ⟨ib,0,none⟩,by rw[U3];exact c5,hq⟩
end
end Go.Proofs.YtidlldnlphdhcaaGreatDoor
namespace Go.H
open Go.MapKept (Stamped)
section
variable {K:Type} [DecidableEq K]
def allM{V:Type}(v:V)(l:List K):List (K×V):=l.map fun k=>(k,v)
theorem B7D{V:Type}(v:V)(l:List K)(k:K):W3 (allM v l) k=if k∈l then some v else none:=by
 induction l with
 |nil=>rfl
 |cons a l ih=>
  show W3 ((a,v)::allM v l) k=_
  rw[Y4,ih]
  by_cases h:a=k
  ·simp[h]
  ·simp[h,Ne.symm h]
theorem C3P{V:Type}(v:V)(l:List K)(k:K)(h:k∉l):mset (allM v l) k v=allM v (l++[k]):=by
 rw[A2R _ _ _ (by rw[B7D,if_neg h])]
 simp[allM]
omit [DecidableEq K] in
theorem C55{V:Type}(v:V)(l:List K):(allM v l).length=l.length:=by simp[allM]
abbrev B4R(l:List K):List (K×Bool):=allM true l
theorem C3R(l:List K)(k:K):W3 (B4R l) k=if k∈l then some true else none:=B7D true l k
theorem C3O(l:List K)(k:K)(h:k∉l):mset (B4R l) k true=B4R (l++[k]):=C3P true l k h
theorem B7C{V:Type}:∀{l:List (K×V)} {k:K} {v:V},W3 l k=some v→mset l k v=l
 |[],k,v,h=>by simp at h
 |(a,b)::l,k,v,h=>by
  rw[Y4] at h
  by_cases e:a=k
  ·rw[if_pos e] at h
   cases h
   simp[mset,e]
  ·rw[if_neg e] at h
   simp only[mset,if_neg e,B7C h]
end
section
variable {K V:Type} {h:Heap} {R:List Asn} {ek:K→Value}
variable [DecidableEq K]
end
abbrev e2(k:Int×Int):Value:=.agg #[.int .i64 k.1,.int .i64 k.2]
end Go.H
namespace Go.Proofs.YtidlldnlphdhcaaGreatDoor
open Go.H
open Go.Proofs.Tryz
open Go.H Go.Proofs
abbrev Path:=List B3O
structure Nd where
 b:Nat
 qm:Nat
 nm:Nat
 q:List (Int×Int)
 nx:List (B3O×C9N)
abbrev Nds:=List (Path×Nd)
abbrev o7(n:Nd):C9N:=some ⟨n.b,0,none⟩
structure A0e(rb:Nat)(N:Nds):Prop where
 keys:(N.map (·.1)).Nodup
 root:∃nd,W3 N []=some nd∧nd.b=rb
 down:∀p nd x v,W3 N p=some nd→W3 nd.nx x=some v→∃nd',W3 N (p++[x])=some nd'∧v=o7 nd'
 up:∀p x nd',W3 N (p++[x])=some nd'→∃nd,W3 N p=some nd∧W3 nd.nx x=some (o7 nd')
 short:∀p nd,W3 N p=some nd→p.length≤32
section
variable {K V:Type} [DecidableEq K]
theorem A2S:∀{l:List (K×V)} {k:K} {v:V},(l.map (·.1)).Nodup→(k,v)∈l→W3 l k=some v
 |[],k,v,_,h=>by simp at h
 |(a,b)::l,k,v,hn,h=>by
  rw[Y4]
  rw[B6,F8] at hn
  rcases D3.1 h with e|h
  ·cases e
   rw[if_pos rfl]
  ·have:a≠k:=fun e=>hn.1 (by rw[e];exact E4.2 ⟨_,h,rfl⟩)
   rw[if_neg this]
   exact A2S hn.2 h
theorem B92:∀{l1 l2:List (K×V)} {k:K} {v v':V},k∉l1.map (·.1)→mset (l1++(k,v)::l2) k v'=l1++(k,v')::l2
 |[],l2,k,v,v',_=>by simp[mset]
 |(a,b)::l1,l2,k,v,v',h=>by
  simp only[B6,D3,not_or] at h
  simp only[G5,mset,if_neg (fun e:a=k=>h.1 e.symm),B92 h.2]
theorem A6M:∀{l:List (K×V)} {k:K} {v v':V},W3 l k=some v→(mset l k v').map (·.1)=l.map (·.1)
 |[],k,v,v',h=>by simp at h
 |(a,b)::l,k,v,v',h=>by
  rw[Y4] at h
  simp only[mset]
  by_cases e:a=k
  ·rw[if_pos e];simp[e]
  ·rw[if_neg e] at h
   rw[if_neg e,B6,A6M h,B6]
theorem A2T{l:List (K×V)}(hn:(l.map (·.1)).Nodup)(k k':K):W3 (mdel l k) k'=if k=k' then none else W3 l k':=by
 induction l with
 |nil=>simp[mdel]
 |cons p l ih=>
  obtain⟨a,b⟩:=p
  rw[B6,F8] at hn
  simp only[mdel]
  by_cases e:a=k
  ·rw[if_pos e]
   subst e
   by_cases e':a=k'
   ·subst e'
    rw[if_pos rfl]
    exact(A1n _ _).2 hn.1
   ·rw[if_neg e',Y4,if_neg e']
  ·rw[if_neg e,Y4,Y4,ih hn.2]
   by_cases e':k=k'
   ·subst e'
    rw[if_neg e,if_pos rfl,if_pos rfl]
   ·rw[if_neg e',if_neg e']
theorem C3W:∀{l:List (K×V)} {k:K},(l.map (·.1)).Nodup→((mdel l k).map (·.1)).Nodup:=by
 intro l k hn
 have:((mdel l k).map (·.1)).Sublist (l.map (·.1)):=by
  clear hn
  induction l with
  |nil=>simp[mdel]
  |cons p l ih=>
   obtain⟨a,b⟩:=p
   simp only[mdel]
   by_cases e:a=k
   ·rw[if_pos e];exact List.sublist_cons_self ..
   ·rw[if_neg e];exact ih.cons_cons _
 exact this.nodup hn
theorem B0s{l:List (K×V)}{k:K}{v:V}(h:W3 l k=some v):∃l1 l2,l=l1++(k,v)::l2∧k∉l1.map (·.1):=by
 induction l with
 |nil=>simp at h
 |cons p l ih=>
  obtain⟨a,b⟩:=p
  rw[Y4] at h
  by_cases e:a=k
  ·rw[if_pos e] at h
   cases h
   subst e
   exact⟨[],l,rfl,by simp⟩
  ·rw[if_neg e] at h
   obtain⟨l1,l2,rfl,h2⟩:=ih h
   exact⟨(a,b)::l1,l2,rfl,by simp only[B6,D3,not_or];exact⟨fun x=>e x.symm,h2⟩⟩
theorem A5F(l1 l2:List (K×V))(k:K):W3 (l1++l2) k=(W3 l1 k).or (W3 l2 k):=by
 induction l1 with
 |nil=>simp
 |cons p l ih=>
  obtain⟨a,b⟩:=p
  rw[G5,Y4,Y4,ih]
  by_cases e:a=k
  ·rw[if_pos e,if_pos e];rfl
  ·rw[if_neg e,if_neg e]
end
def ent(N:Nds)(p:Path)(id:Int):Option Int:=(W3 N p).bind fun nd=>W3 nd.q id
theorem A7N(p:Path)(x:B3O):p++[x]≠p:=fun h=>by
 have:=congrArg List.length h
 simp at this
theorem B16{p p':Path}{x x':B3O}(h:p++[x]=p'++[x']):p=p'∧x=x':=by
 have:=List.append_inj' h rfl
 exact⟨this.1,by simpa using this.2⟩
namespace A0e
open Go.H
variable {rb:Nat} {N:Nds}
theorem pre(h:A0e rb N):∀(r p:Path) nd,W3 N (p++r)=some nd→∃nd',W3 N p=some nd'
 |[],p,nd,hn=>by rw[C1] at hn;exact⟨nd,hn⟩
 |x::r,p,nd,hn=>by
  have e:p++x::r=(p++[x])++r:=by simp
  rw[e] at hn
  obtain⟨nd',h1⟩:=pre h r _ nd hn
  obtain⟨nd'',h2,_⟩:=h.up _ _ _ h1
  exact⟨nd'',h2⟩
theorem setq(h:A0e rb N){p:Path}{nd:Nd}(hp:W3 N p=some nd)(q':List (Int×Int)):A0e rb (mset N p {nd with q:=q'}) where
 keys:=by rw[A6M hp];exact h.keys
 root:=by
  obtain⟨r,h1,h2⟩:=h.root
  rw[j0]
  by_cases e:p=[]
  ·rw[if_pos e]
   subst e
   rw[hp] at h1
   cases h1
   exact⟨_,rfl,h2⟩
  ·rw[if_neg e];exact⟨r,h1,h2⟩
 down:=by
  intro p1 n1 x v h1 h2
  have key:∃n0,W3 N p1=some n0∧W3 n0.nx x=some v:=by
   rw[j0] at h1
   by_cases e:p=p1
   ·rw[if_pos e] at h1
    cases h1
    subst e
    exact⟨nd,hp,h2⟩
   ·rw[if_neg e] at h1;exact⟨n1,h1,h2⟩
  obtain⟨n0,h3,h4⟩:=key
  obtain⟨c,h5,h6⟩:=h.down _ _ _ _ h3 h4
  rw[j0]
  by_cases e:p=p1++[x]
  ·rw[if_pos e]
   rw[←e,hp] at h5
   cases h5
   exact⟨_,rfl,h6⟩
  ·rw[if_neg e];exact⟨c,h5,h6⟩
 up:=by
  intro p1 x c h1
  have key:∃c0,W3 N (p1++[x])=some c0∧o7 c=o7 c0:=by
   rw[j0] at h1
   by_cases e:p=p1++[x]
   ·rw[if_pos e] at h1
    cases h1
    rw[←e]
    exact⟨nd,hp,rfl⟩
   ·rw[if_neg e] at h1;exact⟨c,h1,rfl⟩
  obtain⟨c0,h2,h3⟩:=key
  obtain⟨n0,h4,h5⟩:=h.up _ _ _ h2
  rw[j0]
  by_cases e:p=p1
  ·rw[if_pos e]
   subst e
   rw[hp] at h4
   cases h4
   exact⟨_,rfl,by rw[h3];exact h5⟩
  ·rw[if_neg e];exact⟨n0,h4,by rw[h3];exact h5⟩
 short:=by
  intro p1 n1 h1
  rw[j0] at h1
  by_cases e:p=p1
  ·rw[←e];exact h.short _ _ hp
  ·rw[if_neg e] at h1;exact h.short _ _ h1
theorem grow(h:A0e rb N){p:Path}{nd c:Nd}{x:B3O}(hp:W3 N p=some nd)(hx:W3 nd.nx x=none)(hc:c.nx=[])(oH:p.length<32):
  W3 N (p++[x])=none∧A0e rb (mset N p {nd with nx:=mset nd.nx x (o7 c)}++[(p++[x],c)]):=by
 have ax:W3 N (p++[x])=none:=by
  cases e:W3 N (p++[x]) with
  |none=>rfl
  |some c'=>
   obtain⟨n0,h1,h2⟩:=h.up _ _ _ e
   rw[hp] at h1
   cases h1
   rw[hx] at h2
   cases h2
 have bt:∀p',W3 (mset N p {nd with nx:=mset nd.nx x (o7 c)}++[(p++[x],c)]) p'=if p=p' then some {nd with nx:=mset nd.nx x (o7 c)} else if p++[x]=p' then some c else W3 N p':=by
  intro p'
  rw[A5F,j0]
  by_cases e:p=p'
  ·rw[if_pos e,if_pos e];rfl
  ·rw[if_neg e,if_neg e,Y4]
   by_cases e':p++[x]=p'
   ·rw[if_pos e',if_pos e',←e',ax];rfl
   ·rw[if_neg e',if_neg e',B5u]
    cases W3 N p'<;>rfl
 refine⟨ax,?_,?_,?_,?_,?_⟩
 ·rw[C0,A6M hp,G1]
  refine⟨h.keys,by simp,fun a ha b hb=>?_⟩
  simp only[B6,I4,B7] at hb
  subst hb
  intro e
  subst e
  exact(A1n _ _).1 ax ha
 ·obtain⟨r,h1,h2⟩:=h.root
  rw[bt]
  by_cases e:p=[]
  ·rw[if_pos e]
   subst e
   rw[hp] at h1
   cases h1
   exact⟨_,rfl,h2⟩
  ·rw[if_neg e,if_neg (by simp)];exact⟨r,h1,h2⟩
 ·intro p1 n1 y v h1 h2
  rw[bt] at h1
  by_cases e:p=p1
  ·rw[if_pos e] at h1
   cases h1
   subst e
   simp only[j0] at h2
   by_cases e':x=y
   ·rw[if_pos e'] at h2
    cases h2
    subst e'
    rw[bt,if_neg (fun e=>A7N p x e.symm),if_pos rfl]
    exact⟨c,rfl,rfl⟩
   ·rw[if_neg e'] at h2
    obtain⟨c',h3,h4⟩:=h.down _ _ _ _ hp h2
    rw[bt,if_neg (fun e=>A7N p y e.symm),if_neg (fun e=>e' (B16 e).2)]
    exact⟨c',h3,h4⟩
  ·rw[if_neg e] at h1
   by_cases e2:p++[x]=p1
   ·rw[if_pos e2] at h1
    cases h1
    rw[hc] at h2
    simp at h2
   ·rw[if_neg e2] at h1
    obtain⟨c',h3,h4⟩:=h.down _ _ _ _ h1 h2
    rw[bt]
    by_cases e3:p=p1++[y]
    ·rw[if_pos e3]
     rw[←e3,hp] at h3
     cases h3
     exact⟨_,rfl,h4⟩
    ·rw[if_neg e3]
     by_cases e4:p++[x]=p1++[y]
     ·exact absurd (B16 e4).1 e
     ·rw[if_neg e4];exact⟨c',h3,h4⟩
 ·intro p1 y c1 h1
  rw[bt] at h1
  by_cases e:p=p1++[y]
  ·rw[if_pos e] at h1
   cases h1
   obtain⟨n0,h3,h4⟩:=h.up p1 y nd (by rw[←e];exact hp)
   rw[bt,if_neg (fun e'=>by rw[e'] at e;exact A7N _ _ e.symm)]
   by_cases e5:p++[x]=p1
   ·rw[←e5,ax] at h3
    cases h3
   ·rw[if_neg e5];exact⟨n0,h3,h4⟩
  ·rw[if_neg e] at h1
   by_cases e2:p++[x]=p1++[y]
   ·rw[if_pos e2] at h1
    cases h1
    obtain⟨rfl,rfl⟩:=B16 e2
    rw[bt,if_pos rfl]
    exact⟨_,rfl,by simp[j0]⟩
   ·rw[if_neg e2] at h1
    obtain⟨n0,h3,h4⟩:=h.up _ _ _ h1
    rw[bt]
    by_cases e5:p=p1
    ·rw[if_pos e5]
     subst e5
     rw[hp] at h3
     cases h3
     refine⟨_,rfl,?_⟩
     simp only[j0]
     rw[if_neg (fun e6=>e2 (by rw[e6]))]
     exact h4
    ·rw[if_neg e5]
     by_cases e6:p++[x]=p1
     ·rw[←e6,ax] at h3
      cases h3
     ·rw[if_neg e6];exact⟨n0,h3,h4⟩
 ·intro p1 n1 h1
  rw[bt] at h1
  by_cases e:p=p1
  ·rw[←e];exact h.short _ _ hp
  ·rw[if_neg e] at h1
   by_cases e2:p++[x]=p1
   ·rw[←e2,B5];simp;omega
   ·rw[if_neg e2] at h1;exact h.short _ _ h1
theorem cut(h:A0e rb N){p:Path}{nd c:Nd}{x:B3O}(hp:W3 N p=some nd)(hk:(nd.nx.map (·.1)).Nodup)(hx:W3 N (p++[x])=some c)(hc:c.nx=[]):
  A0e rb (mdel (mset N p {nd with nx:=mdel nd.nx x}) (p++[x])):=by
 have da:((mset N p {nd with nx:=mdel nd.nx x}).map (·.1)).Nodup:=by rw[A6M hp];exact h.keys
 have bt:∀p',W3 (mdel (mset N p {nd with nx:=mdel nd.nx x}) (p++[x])) p'=if p++[x]=p' then none else if p=p' then some {nd with nx:=mdel nd.nx x} else W3 N p':=by
  intro p'
  rw[A2T da,j0]
 refine⟨C3W da,?_,?_,?_,?_⟩
 ·obtain⟨r,h1,h2⟩:=h.root
  rw[bt,if_neg (by simp)]
  by_cases e:p=[]
  ·rw[if_pos e]
   subst e
   rw[hp] at h1
   cases h1
   exact⟨_,rfl,h2⟩
  ·rw[if_neg e];exact⟨r,h1,h2⟩
 ·intro p1 n1 y v h1 h2
  rw[bt] at h1
  by_cases e0:p++[x]=p1
  ·rw[if_pos e0] at h1;cases h1
  rw[if_neg e0] at h1
  by_cases e:p=p1
  ·rw[if_pos e] at h1
   cases h1
   subst e
   simp only[A2T hk] at h2
   by_cases e':x=y
   ·rw[if_pos e'] at h2;cases h2
   rw[if_neg e'] at h2
   obtain⟨c',h3,h4⟩:=h.down _ _ _ _ hp h2
   rw[bt,if_neg (fun e=>e' (B16 e).2),if_neg (fun e=>A7N p y e.symm)]
   exact⟨c',h3,h4⟩
  ·rw[if_neg e] at h1
   obtain⟨c',h3,h4⟩:=h.down _ _ _ _ h1 h2
   rw[bt,if_neg (fun e'=>e (B16 e').1)]
   by_cases e3:p=p1++[y]
   ·rw[if_pos e3]
    rw[←e3,hp] at h3
    cases h3
    exact⟨_,rfl,h4⟩
   ·rw[if_neg e3];exact⟨c',h3,h4⟩
 ·intro p1 y c1 h1
  rw[bt] at h1
  by_cases e0:p++[x]=p1++[y]
  ·rw[if_pos e0] at h1;cases h1
  rw[if_neg e0] at h1
  have key:∃c0,W3 N (p1++[y])=some c0∧o7 c1=o7 c0:=by
   by_cases e:p=p1++[y]
   ·rw[if_pos e] at h1
    cases h1
    rw[←e]
    exact⟨nd,hp,rfl⟩
   ·rw[if_neg e] at h1;exact⟨c1,h1,rfl⟩
  obtain⟨c0,h2,h3⟩:=key
  obtain⟨n0,h4,h5⟩:=h.up _ _ _ h2
  rw[bt]
  have cg:p++[x]≠p1:=by
   intro e
   rw[←e,hx] at h4
   cases h4
   rw[hc] at h5
   simp at h5
  rw[if_neg cg]
  by_cases e:p=p1
  ·rw[if_pos e]
   subst e
   rw[hp] at h4
   cases h4
   refine⟨_,rfl,?_⟩
   simp only[A2T hk]
   rw[if_neg (fun e6=>e0 (by rw[e6])),h3]
   exact h5
  ·rw[if_neg e];exact⟨n0,h4,by rw[h3];exact h5⟩
 ·intro p1 n1 h1
  rw[bt] at h1
  by_cases e:p++[x]=p1
  ·rw[if_pos e] at h1;cases h1
  ·rw[if_neg e] at h1
   by_cases e2:p=p1
   ·rw[←e2];exact h.short _ _ hp
   ·rw[if_neg e2] at h1;exact h.short _ _ h1
end A0e
end Go.Proofs.YtidlldnlphdhcaaGreatDoor
namespace Go.Proofs.YtidlldnlphdhcaaGreatDoor
open Go.H
open Go.Proofs.Tryz
section
open Go.H Go.Proofs
variable {h h0:Heap} {R:List Asn}
abbrev kI9:=B8O .i64
abbrev kS9:=A9d
abbrev A1b:Int→Value:=fun n=>.int .i64 n
abbrev A1A:Int→Value:=Kind.val (.one (.int .i64))
abbrev A9F:B3O→Value:=fun s=>.string s
abbrev B0A:C9N→Value:=Kind.val (.one .ptr)
abbrev at9(b:Nat):Value:=.pointer (some ⟨b,0,none⟩)
def ndA(x:Nd):Asn:=star (cells x.b #[.map (some x.qm),.map (some x.nm)]) (star (mapA A1b A1A x.qm x.q) (mapA A9F B0A x.nm x.nx))
def p8(N:Nds):Asn:=Z9 (fun p:Path×Nd=>ndA p.2) N
theorem B1A{x:Nd}:sat h (ndA x::R)↔sat h (cells x.b #[.map (some x.qm),.map (some x.nm)]::mapA A1b A1A x.qm x.q::mapA A9F B0A x.nm x.nx::R):=by
 unfold ndA
 constructor
 ·intro hs
  exact(sat.aI.1 (sat.aI.1 hs).p1).p2
 ·intro hs
  exact sat.aI.2 (sat.aI.2 (hs.re [1,2,0])).p1
theorem A1W{N:Nds}{p:Path}{nd:Nd}(hp:W3 N p=some nd)(hs:sat h (p8 N::R)):∃l1 l2,N=l1++(p,nd)::l2∧p∉l1.map (·.1)∧
  sat h (cells nd.b #[.map (some nd.qm),.map (some nd.nm)]::mapA A1b A1A nd.qm nd.q::mapA A9F B0A nd.nm nd.nx::Z9 (fun p:Path×Nd=>ndA p.2) (l1++l2)::R):=by
 obtain⟨l1,l2,rfl,hn⟩:=B0s hp
 exact⟨l1,l2,rfl,hn,B1A.1 (j5.1 hs)⟩
theorem A8B{l1 l2:Nds}{p:Path}{nd nd':Nd}(hn:p∉l1.map (·.1))
  (hs:sat h (cells nd'.b #[.map (some nd'.qm),.map (some nd'.nm)]::mapA A1b A1A nd'.qm nd'.q::mapA A9F B0A nd'.nm nd'.nx::Z9 (fun p:Path×Nd=>ndA p.2) (l1++l2)::R)):
  sat h (p8 (mset (l1++(p,nd)::l2) p nd')::R):=by
 rw[B92 hn]
 exact j5.2 (B1A.2 hs)
theorem v8{N:Nds}{p:Path}{nd:Nd}(hp:W3 N p=some nd)(hs:sat h (p8 N::R)):W0 h ⟨nd.b,0,none⟩=some (.map (some nd.qm))∧W0 h ⟨nd.b,1,none⟩=some (.map (some nd.nm)):=by
 obtain⟨l1,l2,-,-,hs⟩:=A1W hp hs
 exact⟨hs.cell 0,hs.cell 1⟩
theorem A6K{N:Nds}{p:Path}{nd:Nd}{x:B3O}(hp:W3 N p=some nd)(hs:sat h (p8 N::R)){Q:C9N×Bool→Heap→Prop}(hq:Q ((W3 nd.nx x).getD none,(W3 nd.nx x).isSome) h):
  HM.lookup (Instr.sameNow .string) (.pointer none) (.one .ptr) (some nd.nm) (.string x) h Q:=by
 obtain⟨l1,l2,-,-,hs⟩:=A1W hp hs
 exact u7 kS9 (ek:=A9F) (kind:=.one .ptr) (z:=none) rfl hs.p2 hq
theorem C7m{N:Nds}{p:Path}{nd:Nd}{x:Int}(hp:W3 N p=some nd)(hs:sat h (p8 N::R)){Q:Int×Bool→Heap→Prop}(hq:Q ((W3 nd.q x).getD 0,(W3 nd.q x).isSome) h):
  HM.lookup (Instr.sameNow (.int .i64)) (.int .i64 0) (.one (.int .i64)) (some nd.qm) (.int .i64 x) h Q:=by
 obtain⟨l1,l2,-,-,hs⟩:=A1W hp hs
 exact u7 kI9 (ek:=A1b) (kind:=.one (.int .i64)) (z:=0) rfl hs.p1 hq
theorem A6J{N:Nds}{p:Path}{nd:Nd}(hp:W3 N p=some nd)(hs:sat h (p8 N::R)):(nd.q.map (·.1)).Nodup∧(nd.nx.map (·.1)).Nodup:=by
 obtain⟨l1,l2,-,-,hs⟩:=A1W hp hs
 exact⟨hs.p1.bP,hs.p2.bP⟩
theorem B9Z{N:Nds}{p:Path}{nd:Nd}{k v:Int}(hp:W3 N p=some nd)(hs:sat h (p8 N::R)){Q:Unit→Heap→Prop}(hq:∀h',sat h' (p8 (mset N p {nd with q:=mset nd.q k v})::R)→Q () h'):
  A2Z (Instr.sameNow (.int .i64)) (some nd.qm) (.int .i64 k) (.int .i64 v) h Q:=by
 obtain⟨l1,l2,rfl,hn,hs⟩:=A1W hp hs
 refine A4A kI9 (ek:=A1b) (A9g .i64) (ev:=A1A) (x:=v) hs.p1 fun h1 aa=>hq h1 ?_
 exact A8B (nd':={nd with q:=mset nd.q k v}) hn aa.p1
theorem C5k{N:Nds}{p:Path}{nd:Nd}{k:Int}(hp:W3 N p=some nd)(hs:sat h (p8 N::R)){Q:Unit→Heap→Prop}(hq:∀h',sat h' (p8 (mset N p {nd with q:=mdel nd.q k})::R)→Q () h'):
  A5V (Instr.sameNow (.int .i64)) (some nd.qm) (.int .i64 k) h Q:=by
 obtain⟨l1,l2,rfl,hn,hs⟩:=A1W hp hs
 refine A5Q kI9 (ek:=A1b) (ev:=A1A) hs.p1 fun h1 aa=>hq h1 ?_
 exact A8B (nd':={nd with q:=mdel nd.q k}) hn aa.p1
theorem C5i{N:Nds}{p:Path}{nd:Nd}{k:B3O}{v:C9N}(hp:W3 N p=some nd)(hs:sat h (p8 N::R)){Q:Unit→Heap→Prop}(hq:∀h',sat h' (p8 (mset N p {nd with nx:=mset nd.nx k v})::R)→Q () h'):
  A2Z (Instr.sameNow .string) (some nd.nm) (.string k) (.pointer v) h Q:=by
 obtain⟨l1,l2,rfl,hn,hs⟩:=A1W hp hs
 refine A4A kS9 (ek:=A9F) C6R (ev:=B0A) (x:=v) hs.p2 fun h1 aa=>hq h1 ?_
 exact A8B (nd':={nd with nx:=mset nd.nx k v}) hn (aa.re [1,2,0])
theorem C5l{N:Nds}{p:Path}{nd:Nd}{k:B3O}(hp:W3 N p=some nd)(hs:sat h (p8 N::R)){Q:Unit→Heap→Prop}(hq:∀h',sat h' (p8 (mset N p {nd with nx:=mdel nd.nx k})::R)→Q () h'):
  A5V (Instr.sameNow .string) (some nd.nm) (.string k) h Q:=by
 obtain⟨l1,l2,rfl,hn,hs⟩:=A1W hp hs
 refine A5Q kS9 (ek:=A9F) (ev:=B0A) hs.p2 fun h1 aa=>hq h1 ?_
 exact A8B (nd':={nd with nx:=mdel nd.nx k}) hn (aa.re [1,2,0])
theorem B90{N:Nds}{p:Path}{nd:Nd}(hp:W3 N p=some nd)(hs:sat h (p8 N::R)){Q:Int→Heap→Prop}(hq:Q (nd.q.length:Int) h):A5W (some nd.qm) h Q:=by
 obtain⟨l1,l2,rfl,hn,hs⟩:=A1W hp hs
 exact A9a hs.p1 hq
theorem B91{N:Nds}{p:Path}{nd:Nd}(hp:W3 N p=some nd)(hs:sat h (p8 N::R)){Q:Int→Heap→Prop}(hq:Q (nd.nx.length:Int) h):A5W (some nd.nm) h Q:=by
 obtain⟨l1,l2,rfl,hn,hs⟩:=A1W hp hs
 exact A9a hs.p2 hq
theorem C5j{N:Nds}{p:Path}{nd:Nd}(hp:W3 N p=some nd)(hs:sat h (p8 N::R)):sat h (p8 (mdel N p)::R):=by
 obtain⟨l1,l2,rfl,hn⟩:=B0s hp
 rw[B1C hn]
 exact(j5.1 hs).drop
theorem C2Q{N:Nds}{p:Path}{nd:Nd}(hs:sat h (ndA nd::p8 N::R)):sat h (p8 (N++[(p,nd)])::R):=by
 refine j5.2 ?_
 rw[C1]
 exact hs
theorem B3j(hs:sat h R){Q:Value→Heap→Prop}(hq:∀b qm nm h',sat h' (ndA ⟨b,qm,nm,[],[]⟩::R)→Q (at9 b) h'):V3 prog 59 #[] h Q:=by
 refine B0N h Q ?_
 delta B3g az bn nw pu
 refine A7i (ek:=A1b) (ev:=A1A) hs fun qm h1 aa=>?_
 refine A7i (ek:=A9F) (ev:=B0A) aa fun nm h2 ae=>?_
 refine V5 ae fun b h3 aj=>?_
 exact hq b qm nm h3 (B1A.2 (aj.re [0,2,1]))
abbrev trC(rb cm:Nat):C9O:=#[at9 rb,.map (some cm)]
theorem B2a(hs:sat h (old h0::R))(ht:TP h0){s:B3O}(hsz:s.size≤16777216){Q:Value→Heap→Prop}
  (hq:∀(sl:Slc) h',sat h' (U5 eS 1 sl (levels s)::old h0::R)→Q (.slice sl.a sl.len sl.cap) h'):
  V3 prog 36 #[.string s] h Q:=by
 refine A4P s h Q ?_
 delta A64 cc pu
 refine U6 (fun w hw=>?_)
 subst hw
 obtain⟨m,hm⟩:=ht.maxl
 refine(Any.strings_Split C4O (by kernel_rfl) s (ByteArray.mk #[47]) m w (by omega) (hs.bY hm) (by decide)).mono ?_
 rintro e w' ⟨rfl,rfl⟩
 have hl:(levels s).length=Go.Lib.countB s A9L+1:=Go.Lib.splitB_all A9L (by decide) 0 _ s rfl
 have:=hq ⟨some ⟨w.heap.size,0,none⟩,(levels s).length,(levels s).length⟩ _ (B9Q (hs.bK (T:=A99.t 9)))
 rw[hl] at this
 exact⟨_,rfl,⟨rfl,rfl,rfl⟩,⟨some ⟨w.heap.size,0,none⟩,Go.Lib.countB s A9L+1,Go.Lib.countB s A9L+1⟩,rfl,this⟩
theorem B7a{xs:Path}{i:Nat}{x:B3O}(hx:xs[i]? =some x):xs.take (i+1)=xs.take i++[x]:=by
 rw[H8,hx]
 rfl
theorem find_spec{t rb cm:Nat}{N:Nds}(ht:TP h0)(hT:A0e rb N){f:B3O}(hsz:f.size≤16777216)(hs:sat h (cells t (trC rb cm)::p8 N::old h0::R)){Q:Value→Heap→Prop}
  (ax:W3 N (levels f)=none→∀h',sat h' (cells t (trC rb cm)::p8 N::old h0::R)→Q (.pointer none) h')
  (dc:∀nd,W3 N (levels f)=some nd→∀h',sat h' (cells t (trC rb cm)::p8 N::old h0::R)→Q (.pointer (o7 nd)) h'):
  V3 prog 164 #[at9 t,.string f] h Q:=by
 refine A8j (some ⟨t,0,none⟩) f h Q ?_
 delta A8k bn cc ie ix km kp lt nn pu wi
 refine⟨_,rfl,some ⟨rb,0,none⟩,by rw[U3];exact hs.cell 0,?_⟩
 refine U6 (B2a hs.p2 ht hsz fun sl h1 bB=>⟨sl,rfl,?_⟩)
 have aa:sat h1 (U5 eS 1 sl (levels f)::cells t (trC rb cm)::p8 N::old h0::R):=bB.re [0,2,3,1]
 clear bB hs
 have hlen:=aa.aW
 have tF:(levels f).length<1000000000:=by
  have:=A7n f
  have h2:=List.count_le_length (a:=(47:UInt8)) (l:=f.data.toList)
  have h3:f.data.toList.length=f.size:=by simp
  omega
 obtain⟨r,fr,cQ⟩:=hT.root
 (try dsimp only);rw[U1]
 refine l9 (γ:=Nat) (hb:=fun s=>by
   repeat' with_reducible first
    |refine @A0r _ _ _ _ ?_ (fun _=>?_)
    |refine @A0Z _ _ _ _ ?_ ?_
    |refine @A1X _ _ _ ?_
   all_goals infer_instance)
  (fun g x h'=>g≤(levels f).length∧x.2.1=(g:Int)∧(∃nd,W3 N ((levels f).take g)=some nd∧x.1=o7 nd)∧sat h' (U5 eS 1 sl (levels f)::cells t (trC rb cm)::p8 N::old h0::R)) (fun g=>(levels f).length-g) 0
  ⟨D1 _,rfl,⟨r,by simpa using fr,by rw[←cQ]⟩,aa⟩ ?_
 clear aa fr cQ r
 rintro i ⟨pt,ci,⟨⟩⟩ h2 ⟨hi,bu,⟨nd,au,lG⟩,ae⟩
 simp only at hi bu lG ae
 subst bu
 subst lG
 have next:IntKind.wrap .i64 ((i:Int)+1)=((i+1:Nat):Int):=by rw[V8 (by omega) (by omega)];rfl
 simp only[U9,decide_eq_true_eq]
 by_cases ah:i<(levels f).length
 ·rw[if_pos (by omega),U1]
  have hx:=B0 ah
  generalize(levels f)[i]=x at hx
  refine X8 (ae.aO A1F) hx fun a ha=>?_
  refine⟨x,ha 0 _ rfl,?_⟩
  refine⟨_,rfl,some nd.nm,by rw[U3];exact(v8 au ae.p2).2,?_⟩
  (try dsimp only);rw[U1]
  refine A6K au ae.p2 ?_
  (try dsimp only);rw[U9]
  have aU:=B7a hx
  cases hg:W3 nd.nx x with
  |none=>
   rw[if_pos (by rfl)]
   simp only[D7,E8,V1]
   refine ax ?_ h2 ae.drop
   cases hh:W3 N (levels f) with
   |none=>rfl
   |some nd'=>
    have e:levels f=(levels f).take (i+1)++(levels f).drop (i+1):=(J7 _ _).symm
    rw[e] at hh
    obtain⟨c,hc⟩:=hT.pre _ _ _ hh
    rw[aU] at hc
    obtain⟨n0,h3,h4⟩:=hT.up _ _ _ hc
    rw[au] at h3
    cases h3
    rw[hg] at h4
    cases h4
  |some v=>
   obtain⟨c,hc,rfl⟩:=hT.down _ _ _ _ au hg
   rw[if_neg (by simp)]
   simp only[D7,E8,V1]
   exact .mk (i+1) (by omega) ⟨by omega,next,⟨c,by rw[aU];exact hc,rfl⟩,ae⟩
 ·rw[if_neg (by omega)]
  have:i=(levels f).length:=by omega
  subst this
  rw[F9] at au
  simp only[D7,E8,V1]
  exact dc nd au h2 ae.drop
end
section
open Go.H Go.Proofs
variable {h h0:Heap} {R:List Asn}
def trM(t:Nat)(N:Nds)(C:List (Int×Int)):Asn:=exA fun x:Nat×Nat=>
 star (pr (A0e x.1 N)) (star (cells t (trC x.1 x.2)) (star (p8 N) (mapA A1b A1A x.2 C)))
theorem A2e{t:Nat}{N:Nds}{C:List (Int×Int)}:sat h (trM t N C::R)↔∃rb cm,A0e rb N∧sat h (cells t (trC rb cm)::p8 N::mapA A1b A1A cm C::R):=by
 unfold trM
 rw[sat.bA]
 constructor
 ·rintro⟨⟨rb,cm⟩,hs⟩
  rw[sat.aI,sat.bC] at hs
  exact⟨rb,cm,hs.1,(sat.aI.1 (sat.aI.1 hs.2).p1).re [2,0,1]⟩
 ·rintro⟨rb,cm,hT,hs⟩
  refine⟨(rb,cm),?_⟩
  rw[sat.aI,sat.bC]
  exact⟨hT,sat.aI.2 (sat.aI.2 (hs.re [1,2,0])).p1⟩
theorem C20{N:Nds}{p:Path}{nd:Nd}(hp:W3 N p=some nd)(k v:Int)(p':Path)(k':Int):
  ent (mset N p {nd with q:=mset nd.q k v}) p' k'=if p=p'∧k=k' then some v else ent N p' k':=by
 unfold ent
 rw[j0]
 by_cases e:p=p'
 ·subst e
  rw[if_pos rfl,hp]
  simp only[N9,j0,true_and]
 ·rw[if_neg e,if_neg (fun h=>e h.1)]
theorem C6X{N:Nds}{p:Path}{nd:Nd}(hp:W3 N p=some nd)(hn:(nd.q.map (·.1)).Nodup)(k:Int)(p':Path)(k':Int):
  ent (mset N p {nd with q:=mdel nd.q k}) p' k'=if p=p'∧k=k' then none else ent N p' k':=by
 unfold ent
 rw[j0]
 by_cases e:p=p'
 ·subst e
  rw[if_pos rfl,hp]
  simp only[N9,A2T hn,true_and]
 ·rw[if_neg e,if_neg (fun h=>e h.1)]
theorem C5J{N:Nds}{p:Path}{nd:Nd}(hp:W3 N p=some nd)(nx:List (B3O×C9N))(p':Path)(k':Int):ent (mset N p {nd with nx:=nx}) p' k'=ent N p' k':=by
 unfold ent
 rw[j0]
 by_cases e:p=p'
 ·subst e
  rw[if_pos rfl,hp]
  rfl
 ·rw[if_neg e]
theorem B9n(hs:sat h R){Q:Value→Heap→Prop}(hq:∀t nd h',nd.q=[]→nd.nx=[]→sat h' (trM t [([],nd)] []::R)→Q (at9 t) h'):V3 prog 28 #[] h Q:=by
 refine B4I h Q ?_
 delta B9m az bn cp nw pu
 refine U6 (B3j hs fun b qm nm h1 aa=>⟨some ⟨b,0,none⟩,rfl,?_⟩)
 refine A7i (ek:=A1b) (ev:=A1A) aa fun cm h2 ae=>?_
 refine V5 ae fun t h3 aj=>?_
 refine hq t ⟨b,qm,nm,[],[]⟩ h3 rfl rfl (A2e.2 ⟨b,cm,⟨by simp,⟨_,rfl,rfl⟩,?_,?_,?_⟩,?_⟩)
 ·intro p nd x v h1 h2
  rw[Y4] at h1
  by_cases e:([]:Path)=p
  ·rw[if_pos e] at h1;cases h1;simp at h2
  ·rw[if_neg e] at h1;simp at h1
 ·intro p x nd' h1
  rw[Y4,if_neg (by simp)] at h1
  simp at h1
 ·intro p nd h1
  rw[Y4] at h1
  by_cases e:([]:Path)=p
  ·rw[←e];simp
  ·rw[if_neg e] at h1;simp at h1
 ·have h4:=C2Q (N:=[]) (p:=[]) (A2x (f:=fun p:Path×Nd=>ndA p.2).2 aj.p2).p1
  exact h4.re [1,0,2]
abbrev C4F(id:Int)(f:B3O)(q:Int):Value:=.agg #[.int .i64 id,.string f,.int .i64 q]
theorem C6r{t:Nat}{N:Nds}{C:List (Int×Int)}(ht:TP h0){id q:Int}{f:B3O}(hsz:f.size≤9223372036854775807)(hs:sat h (trM t N C::old h0::R)){Q:Value→Heap→Prop}
  (al:X5 f=false→∀h',sat h' (trM t N C::old h0::R)→Q (.int .u8 143) h')
  (ft:X5 f=true→(q<0∨2<q)→∀h',sat h' (trM t N C::old h0::R)→Q (.int .u8 155) h')
  (eX:X5 f=true→0≤q→q≤2→∀q0,ent N (levels f) id=some q0→∀N' h',(∀p' k',ent N' p' k'=if levels f=p'∧id=k' then some q else ent N p' k')→sat h' (trM t N' C::old h0::R)→Q (.int .u8 0) h')
  (aA:X5 f=true→0≤q→q≤2→ent N (levels f) id=none→64≤(W3 C id).getD 0→∀h',sat h' (trM t N C::old h0::R)→Q (.int .u8 151) h')
  (iZ:X5 f=true→0≤q→q≤2→ent N (levels f) id=none→(W3 C id).getD 0<64→∀N' h',(∀p' k',ent N' p' k'=if levels f=p'∧id=k' then some q else ent N p' k')→
   sat h' (trM t N' (mset C id (IntKind.wrap .i64 ((W3 C id).getD 0+1)))::old h0::R)→Q (.int .u8 0) h'):
  V3 prog 109 #[at9 t,C4F id f q] h Q:=by
 refine A9o (some ⟨t,0,none⟩) (id,f,q,()) h Q ?_
 delta A9K bn cc cp cu ie ix ji jt km kp lt nn nw pu rq vi wi
 refine V5 hs fun x1 h1 aa=>?_
 have hE:∀{h':Heap} {R':List Asn},sat h' (cells x1 #[.int .i64 id,.string f,.int .i64 q]::R')→W0 h' ⟨x1,0,none⟩=some (.int .i64 id)∧W0 h' ⟨x1,1,none⟩=some (.string f)∧W0 h' ⟨x1,2,none⟩=some (.int .i64 q):=fun af=>⟨af.cell 0,af.cell 1,af.cell 2⟩
 (try dsimp only);rw[U9,if_neg (by simp)]
 refine⟨f,by rw[U3];exact(hE aa).2.1,?_⟩
 refine U6 (A60 (aa.re [2,0,1]) ht hsz fun h2 ae=>⟨A91 f,rfl,?_⟩)
 have aj:sat h2 (cells x1 #[.int .i64 id,.string f,.int .i64 q]::trM t N C::old h0::R):=ae.re [1,2,0]
 clear aa hs ae
 (try dsimp only);rw[U9]
 unfold A91
 by_cases hf:X5 f=true
 case neg=>
  rw[if_neg hf,if_pos (by decide)]
  exact al (by simpa using hf) h2 aj.drop
 rw[if_pos hf,if_neg (by decide)]
 clear al
 refine V4 (fun x h'=>h'=h2∧(x.1=true↔(q<0∨2<q))) ?_ ?_
 ·refine⟨q,by rw[U3];exact(hE aj).2.2,?_⟩
  (try dsimp only);rw[U9]
  by_cases g1:q<0
  ·rw[if_pos (by simpa using g1)]
   exact⟨rfl,by simp[g1]⟩
  ·rw[if_neg (by simpa using g1)]
   exact⟨q,by rw[U3];exact(hE aj).2.2,rfl,by simp[g1]⟩
 rintro⟨x,⟨⟩⟩ h3 ⟨rfl,hx⟩
 simp only at hx
 rw[U9]
 by_cases g:q<0∨2<q
 ·rw[if_pos (hx.2 g)]
  exact ft hf g h3 aj.drop
 rw[if_neg (fun e=>g (hx.1 e))]
 clear hx ft
 have iP:0≤q:=by omega
 have ef:q≤2:=by omega
 clear g
 have oO:f.size≤256:=A3F (A0z hf)
 refine⟨f,by rw[U3];exact(hE aj).2.1,?_⟩
 obtain⟨rb,cm,hT,bp⟩:=A2e.1 aj.p1
 have ak:sat h3 (cells t (trC rb cm)::p8 N::old h0::mapA A1b A1A cm C::cells x1 #[.int .i64 id,.string f,.int .i64 q]::R):=bp.re [0,1,4,2,3]
 clear bp aj
 refine V4 (fun x h'=>(x=(W3 N (levels f)).bind fun nd=>o7 nd)∧sat h' (cells t (trC rb cm)::p8 N::old h0::mapA A1b A1A cm C::cells x1 #[.int .i64 id,.string f,.int .i64 q]::R)) ?_ ?_
 ·exact find_spec ht hT (by omega) ak (fun hn h' af=>⟨none,rfl,by rw[hn];rfl,af⟩) (fun nd hn h' af=>⟨o7 nd,rfl,by rw[hn];rfl,af⟩)
 clear ak
 rintro x8 h4 ⟨pJ,ak⟩
 refine V4 (fun z h'=>(z=.inl ()∧ent N (levels f) id=none∧sat h' (cells t (trC rb cm)::p8 N::old h0::mapA A1b A1A cm C::cells x1 #[.int .i64 id,.string f,.int .i64 q]::R))∨
  (z=.inr (0,())∧∃q0 N',ent N (levels f) id=some q0∧(∀p' k',ent N' p' k'=if levels f=p'∧id=k' then some q else ent N p' k')∧sat h' (trM t N' C::old h0::R))) ?_ ?_
 ·rw[U9]
  cases hg:W3 N (levels f) with
  |none=>
   rw[hg] at pJ
   subst pJ
   rw[if_neg (by simp)]
   exact .inl ⟨rfl,by unfold ent;rw[hg];rfl,ak⟩
  |some nd=>
   rw[hg] at pJ
   subst pJ
   rw[if_pos (by rfl)]
   refine⟨_,rfl,some nd.qm,by rw[U3];exact(v8 hg ak.p1).1,id,by rw[U3];exact(hE ak.p4).1,?_⟩
   (try dsimp only);rw[U1]
   refine C7m hg ak.p1 ?_
   (try dsimp only);rw[U9]
   cases hm:W3 nd.q id with
   |none=>
    rw[if_neg (by simp)]
    exact .inl ⟨rfl,by unfold ent;rw[hg];exact hm,ak⟩
   |some q0=>
    rw[if_pos (by rfl)]
    refine⟨_,rfl,some nd.qm,by rw[U3];exact(v8 hg ak.p1).1,id,by rw[U3];exact(hE ak.p4).1,q,by rw[U3];exact(hE ak.p4).2.2,?_⟩
    (try dsimp only);rw[U1]
    refine B9Z hg ak.p1 fun h5 ai=>?_
    exact .inr ⟨rfl,q0,_,by unfold ent;rw[hg];exact hm,C20 hg id q,A2e.2 ⟨rb,cm,hT.setq hg _,(ai.re [4,1,0,3,2]).drop⟩⟩
 clear ak pJ
 clear x8
 rintro z h5 (⟨rfl,jN,ai⟩|⟨rfl,q0,N',tf,xR,ai⟩)
 case inr=>
  simp only[E8,V1]
  exact eX hf iP ef q0 tf N' h5 xR ai
 simp only[D7]
 clear eX
 refine⟨_,rfl,some cm,by rw[U3];exact ai.cell 1,id,by rw[U3];exact(hE ai.p4).1,?_⟩
 (try dsimp only);rw[U1]
 refine u7 kI9 (ek:=A1b) (kind:=.one (.int .i64)) (z:=0) rfl ai.p3 ?_
 (try dsimp only);rw[U9]
 by_cases cT:64≤(W3 C id).getD 0
 ·rw[if_pos (by simpa using cT)]
  exact aA hf iP ef jN cT h5 (A2e.2 ⟨rb,cm,hT,(ai.re [4,0,1,3,2]).drop⟩)
 rw[if_neg (by simpa using cT)]
 clear aA
 refine⟨_,rfl,some ⟨rb,0,none⟩,by rw[U3];exact ai.cell 0,f,by rw[U3];exact(hE ai.p4).2.1,?_⟩
 refine U6 (A4l ai.p2 ht oO fun sl h6 gI=>⟨sl,rfl,?_⟩)
 have aw:sat h6 (p8 N::U5 eS 1 sl (levels f)::cells t (trC rb cm)::mapA A1b A1A cm C::cells x1 #[.int .i64 id,.string f,.int .i64 q]::old h0::R):=gI.re [3,0,2,4,5,1]
 clear gI ai
 have hlen:=aw.p1.aW
 have tF:(levels f).length≤32:=(A0X.1 (A0z hf)).2.2.2
 obtain⟨r,fr,cQ⟩:=hT.root
 refine V4 (fun x h'=>∃N1 nd,A0e rb N1∧(∀p k,ent N1 p k=ent N p k)∧W3 N1 (levels f)=some nd∧x.1=o7 nd∧
  sat h' (p8 N1::U5 eS 1 sl (levels f)::cells t (trC rb cm)::mapA A1b A1A cm C::cells x1 #[.int .i64 id,.string f,.int .i64 q]::old h0::R)) ?_ ?_
 ·refine l9 (γ:=Nat×Nds) (hb:=fun s=>by
    repeat' with_reducible first
     |refine @A0r _ _ _ _ ?_ (fun _=>?_)
     |refine @A0Z _ _ _ _ ?_ ?_
     |refine @A1X _ _ _ ?_
    all_goals infer_instance)
   (fun g x h'=>g.1≤(levels f).length∧x.2.1=(g.1:Int)∧A0e rb g.2∧(∀p k,ent g.2 p k=ent N p k)∧(∃nd,W3 g.2 ((levels f).take g.1)=some nd∧x.1=o7 nd)∧
    sat h' (p8 g.2::U5 eS 1 sl (levels f)::cells t (trC rb cm)::mapA A1b A1A cm C::cells x1 #[.int .i64 id,.string f,.int .i64 q]::old h0::R)) (fun g=>(levels f).length-g.1) (0,N)
   ⟨D1 _,rfl,hT,fun _ _=>rfl,⟨r,by simpa using fr,by rw[←cQ]⟩,aw⟩ ?_
  clear aw fr cQ r jN iZ hT
  rintro⟨i,N1⟩ ⟨pt,ci,⟨⟩⟩ h7 ⟨hi,bu,hT,iy,⟨nd,au,lG⟩,aK⟩
  simp only at hi bu hT iy au lG aK
  subst bu
  subst lG
  have next:IntKind.wrap .i64 ((i:Int)+1)=((i+1:Nat):Int):=by rw[V8 (by omega) (by omega)];rfl
  simp only[U9,decide_eq_true_eq]
  by_cases ah:i<(levels f).length
  ·rw[if_pos (by omega),U1]
   have hx:=B0 ah
   generalize(levels f)[i]=x at hx
   have aU:=B7a hx
   refine X8 (aK.p1.aO A1F) hx fun a ha=>?_
   refine⟨x,ha 0 _ rfl,?_⟩
   refine⟨_,rfl,some nd.nm,by rw[U3];exact(v8 au aK).2,?_⟩
   (try dsimp only);rw[U1]
   refine A6K au aK ?_
   refine V4 (fun _ h'=>∃N2 nd2 c,A0e rb N2∧(∀p k,ent N2 p k=ent N p k)∧W3 N2 ((levels f).take i)=some nd2∧nd2.b=nd.b∧W3 nd2.nx x=some (o7 c)∧W3 N2 ((levels f).take (i+1))=some c∧
    sat h' (p8 N2::U5 eS 1 sl (levels f)::cells t (trC rb cm)::mapA A1b A1A cm C::cells x1 #[.int .i64 id,.string f,.int .i64 q]::old h0::R)) ?_ ?_
   ·(try dsimp only);rw[U9]
    cases hg:W3 nd.nx x with
    |some v=>
     obtain⟨c,hc,rfl⟩:=hT.down _ _ _ _ au hg
     rw[if_neg (by simp)]
     exact⟨N1,nd,c,hT,iy,au,rfl,hg,by rw[aU];exact hc,aK⟩
    |none=>
     rw[if_pos (by rfl)]
     refine⟨_,rfl,some nd.nm,by rw[U3];exact(v8 au aK).2,?_⟩
     refine U6 (B3j aK fun b qm nm h8 bw=>⟨some ⟨b,0,none⟩,rfl,?_⟩)
     refine⟨some nd.nm,by rw[U3];exact(v8 au bw.p1).2,rfl,?_⟩
     (try dsimp only);rw[U1]
     refine C5i au bw.p1 fun h9 ff=>?_
     obtain⟨ax,od⟩:=hT.grow (c:=⟨b,qm,nm,[],[]⟩) au hg rfl (by rw[E6];omega)
     have e1:∀p k,ent (mset N1 ((levels f).take i) {nd with nx:=mset nd.nx x (o7 ⟨b,qm,nm,[],[]⟩)}++[((levels f).take i++[x],⟨b,qm,nm,[],[]⟩)]) p k=ent N p k:=by
      intro p k
      rw[←iy p k,←C5J au (mset nd.nx x (o7 ⟨b,qm,nm,[],[]⟩)) p k]
      unfold ent
      rw[A5F,Y4,B5u]
      by_cases e:(levels f).take i++[x]=p
      ·rw[if_pos e,←e,j0,if_neg (fun e=>A7N _ _ e.symm),ax]
       rfl
      ·rw[if_neg e]
       cases W3 (mset N1 ((levels f).take i) {nd with nx:=mset nd.nx x (o7 ⟨b,qm,nm,[],[]⟩)}) p<;>rfl
     refine⟨_,{nd with nx:=mset nd.nx x (o7 ⟨b,qm,nm,[],[]⟩)},⟨b,qm,nm,[],[]⟩,od,e1,?_,rfl,by simp[j0],?_,C2Q ff.p1⟩
     ·rw[A5F,j0,if_pos rfl]
      rfl
     ·rw[aU,A5F,j0,if_neg (fun e=>A7N _ _ e.symm),ax,Y4,if_pos rfl]
      rfl
   clear aK hT iy au
   rintro⟨⟩ h8 ⟨N2,nd2,c,od,db,qg,dy,kP,hc,bw⟩
   have ep:o7 nd=o7 nd2:=by unfold o7;rw[dy]
   rw[ep]
   refine⟨_,rfl,some nd2.nm,by rw[U3];exact(v8 qg bw).2,?_⟩
   (try dsimp only);rw[U1]
   refine A6K qg bw ?_
   rw[kP]
   simp only[D7,E8,V1]
   exact .mk (i+1,N2) (by simp only[];omega) ⟨by simp only[];omega,next,od,db,⟨c,hc,rfl⟩,bw⟩
  ·rw[if_neg (by omega)]
   have:i=(levels f).length:=by omega
   subst this
   rw[F9] at au
   exact⟨N1,nd,hT,iy,au,rfl,aK⟩
 clear aw fr cQ r hT
 rintro⟨pt,ci,⟨⟩⟩ h7 ⟨N1,nd,hT,iy,au,lG,aK⟩
 simp only at lG
 subst lG
 refine⟨_,rfl,some nd.qm,by rw[U3];exact(v8 au aK).1,id,by rw[U3];exact(hE aK.p4).1,q,by rw[U3];exact(hE aK.p4).2.2,?_⟩
 (try dsimp only);rw[U1]
 refine B9Z au aK fun h8 bw=>?_
 refine⟨_,rfl,some cm,by rw[U3];exact bw.p2.cell 1,id,by rw[U3];exact(hE bw.p4).1,?_⟩
 (try dsimp only);rw[U1]
 refine u7 kI9 (ek:=A1b) (kind:=.one (.int .i64)) (z:=0) rfl bw.p3 ?_
 (try dsimp only);rw[U1]
 refine A4A kI9 (ek:=A1b) (A9g .i64) (ev:=A1A) (x:=IntKind.wrap .i64 ((W3 C id).getD 0+1)) bw.p3 fun h9 ff=>?_
 refine iZ hf iP ef jN (by omega) _ h9 (fun p' k'=>?_) (A2e.2 ⟨rb,cm,hT.setq au (mset nd.q id q),(ff.re [4,2,3,1,0,5]).drop.drop⟩)
 rw[C20 au,iy]
end
end Go.Proofs.YtidlldnlphdhcaaGreatDoor
namespace Go.H
section
variable {α:Type} {enc:α→C9P} {size:Nat} {h:Heap} {s:Slc} {x:α} {xs:List α}
theorem Z7.tail(hr:Z7 enc size h s (x::xs)):Z7 enc size h (j9 s 1 s.len s.cap size) xs:=by
 have h1:=hr.1
 have h2:=hr.2.1
 rw[B8] at h1
 refine⟨?_,?_,fun i y hy=>?_⟩
 ·simp only[j9];omega
 ·simp only[j9];omega
 ·obtain⟨a,ha,hc⟩:=hr.2.2 (i+1) y (by simpa using hy)
  have ah:=(E0.1 hy).1
  refine⟨a.add size,?_,fun j v hv=>?_⟩
  ·simp only[j9]
   rw[if_neg (by omega),ha,N5]
   rfl
  ·have:=hc j v hv
   rw[A8X] at this⊢
   rw[A8X]
   rw[show size+(i*size+j)=(i+1)*size+j by rw[J6];omega]
   exact this
theorem B0b(hr:Z7 enc size h s (x::xs)){Q:Slc→Heap→Prop}(hq:Q (j9 s 1 s.len s.cap size) h):HM.slice s (some 1) none none size h Q:=by
 have h1:=hr.1
 have h2:=hr.2.1
 rw[B8] at h1
 exact⟨1,s.len,s.cap,rfl,⟨rfl,rfl⟩,⟨rfl,by omega⟩,hq⟩
end
end Go.H
namespace Go.Proofs.YtidlldnlphdhcaaGreatDoor
open Go.H
open Go.Proofs.Tryz
section
open Go.H Go.Proofs
variable {h h0:Heap} {R:List Asn}
theorem B7F{K V:Type}[DecidableEq K]:∀(l:List (K×V)) (k:K) (v:V),mdel (mset l k v) k=mdel l k
 |[],k,v=>by simp[mset,mdel]
 |(a,b)::l,k,v=>by
  simp only[mset]
  by_cases e:a=k
  ·rw[if_pos e];simp[mdel,e]
  ·rw[if_neg e];simp only[mdel,if_neg e];rw[B7F l k v]
theorem C2P(p:Path)(x:B3O):¬(p++[x])<+:p:=fun h=>by
 have:=h.length_le
 simp at this
 omega
theorem C47{p p':Path}{x:B3O}(h:¬p<+:p'):¬(p++[x])<+:p':=fun hh=>h ((List.prefix_append p [x]).trans hh)
theorem C1p{A:Asn}{rb:Nat}{id:Int}:∀(ls p:Path) {N:Nds} {nd:Nd} {s:Slc} {h:Heap} {R:List Asn} (hT:A0e rb N) (au:W3 N p=some nd) (aM:∀{h':Heap} {R':List Asn},sat h' (A::R')→Z7 eS 1 h' s ls)
  (hs:sat h (p8 N::A::R)) {Q:Value→Heap→Prop}
  (hq:∀N' nd' h',A0e rb N'→W3 N' p=some nd'→nd'.b=nd.b→(∀p',¬p<+:p'→W3 N' p'=W3 N p')→(∀p' k',ent N' p' k'=if p'=p++ls∧k'=id then none else ent N p' k')→
   sat h' (p8 N'::A::R)→Q (.bool (nd'.q.isEmpty&&nd'.nx.isEmpty)) h'),
  V3 prog 166 #[.pointer (o7 nd),.int .i64 id,.slice s.a s.len s.cap] h Q:=by
 intro ls
 induction ls with
 |nil=>
  intro p N nd s h R hT au aM hs Q hq
  refine A2K (o7 nd) id s h Q ?_
  delta A28 bn cb ie ix km lt nn pu vi vs
  have hl:s.len=0:=(aM hs.p1).1
  have hn:=A6J au hs
  refine V4 (fun _ h'=>sat h' (p8 (mset N p {nd with q:=mdel nd.q id})::A::R)) ?_ ?_
  ·rw[U9,if_pos (by simp[hl])]
   refine⟨_,rfl,some nd.qm,by rw[U3];exact(v8 au hs).1,?_⟩
   (try dsimp only);rw[U1]
   exact C5k au hs fun h1 aa=>aa
  rintro⟨⟩ h1 aa
  have dZ:W3 (mset N p {nd with q:=mdel nd.q id}) p=some {nd with q:=mdel nd.q id}:=by rw[j0,if_pos rfl]
  have fin:Q (.bool ((mdel nd.q id).isEmpty&&nd.nx.isEmpty)) h1:=by
   refine hq _ _ h1 (hT.setq au _) dZ rfl (fun p' dp=>?_) (fun p' k'=>?_) aa
   ·rw[j0,if_neg (fun e=>dp (by rw[e];exact List.prefix_refl _))]
   ·rw[C6X au hn.1,C1]
    by_cases e:p=p'∧id=k'
    ·rw[if_pos e,if_pos ⟨e.1.symm,e.2.symm⟩]
    ·rw[if_neg e,if_neg (fun e'=>e ⟨e'.1.symm,e'.2.symm⟩)]
  refine V4 (fun x h'=>h'=h1∧x.1=((mdel nd.q id).isEmpty&&nd.nx.isEmpty)) ?_ ?_
  ·refine⟨_,rfl,some nd.qm,by rw[U3];exact(v8 dZ aa).1,?_⟩
   (try dsimp only);rw[U1]
   refine B90 dZ aa ?_
   (try dsimp only);rw[U9]
   cases hm:mdel nd.q id with
   |cons a l=>rw[if_neg (by simp;omega)];exact⟨rfl,rfl⟩
   |nil=>
    rw[if_pos (by simp)]
    refine⟨_,rfl,some nd.nm,by rw[U3];exact(v8 dZ aa).2,?_⟩
    (try dsimp only);rw[U1]
    refine B91 dZ aa ?_
    refine⟨rfl,?_⟩
    simp only[]
    cases nd.nx<;>simp
    omega
  rintro⟨x,⟨⟩⟩ h2 ⟨rfl,hx⟩
  simp only at hx
  subst hx
  exact fin
 |cons x r ih=>
  intro p N nd s h R hT au aM hs Q hq
  refine A2K (o7 nd) id s h Q ?_
  delta A28 bn cb ie ix km lt nn pu vi vs
  have hl:s.len=r.length+1:=(aM hs.p1).1
  refine V4 (fun _ h'=>∃N' nd',A0e rb N'∧W3 N' p=some nd'∧nd'.b=nd.b∧nd'.qm=nd.qm∧nd'.nm=nd.nm∧(∀p',¬p<+:p'→W3 N' p'=W3 N p')∧(∀p' k',ent N' p' k'=if p'=p++x::r∧k'=id then none else ent N p' k')∧sat h' (p8 N'::A::R)) ?_ ?_
  ·rw[U9,if_neg (by simp[hl];omega)]
   refine⟨_,rfl,some nd.nm,by rw[U3];exact(v8 au hs).2,?_⟩
   (try dsimp only);rw[U1]
   have vU:=aM hs.p1
   refine X8 (i:=0) vU (x:=x) rfl fun a ha=>?_
   refine⟨x,ha 0 _ rfl,?_⟩
   (try dsimp only);rw[U1]
   refine A6K au hs ?_
   cases hg:W3 nd.nx x with
   |none=>
    have ax:∀k',ent N (p++x::r) k'=none:=by
     intro k'
     unfold ent
     cases hh:W3 N (p++x::r) with
     |none=>rfl
     |some nd'=>
      have e:p++x::r=(p++[x])++r:=by simp
      rw[e] at hh
      obtain⟨c,hc⟩:=hT.pre _ _ _ hh
      obtain⟨n0,h3,h4⟩:=hT.up _ _ _ hc
      rw[au] at h3
      cases h3
      rw[hg] at h4
      cases h4
    refine V4 (fun z h'=>h'=h∧z.1=false) ?_ ?_
    ·(try dsimp only);rw[U9,if_neg (by simp)]
     exact⟨rfl,rfl⟩
    rintro⟨z,⟨⟩⟩ h1 ⟨rfl,hz⟩
    simp only at hz
    subst hz
    (try dsimp only);rw[U1,U9,if_neg (by simp)]
    refine⟨N,nd,hT,au,rfl,rfl,rfl,fun _ _=>rfl,fun p' k'=>?_,hs⟩
    by_cases e:p'=p++x::r∧k'=id
    ·rw[if_pos e,e.1,ax]
    ·rw[if_neg e]
   |some v=>
    obtain⟨c,hc,rfl⟩:=hT.down _ _ _ _ au hg
    refine V4 (fun z h'=>∃N1 c1,A0e rb N1∧W3 N1 (p++[x])=some c1∧c1.b=c.b∧(∀p',¬(p++[x])<+:p'→W3 N1 p'=W3 N p')∧(∀p' k',ent N1 p' k'=if p'=(p++[x])++r∧k'=id then none else ent N p' k')∧
     z.1=(c1.q.isEmpty&&c1.nx.isEmpty)∧sat h' (p8 N1::A::R)) ?_ ?_
    ·(try dsimp only);rw[U9,if_pos (by rfl)]
     refine B0b vU ?_
     refine U6 (ih (p++[x]) hT hc (fun af=>(aM af).tail) hs fun N1 c1 h1 a1 a2 a3 a4 a5 aa=>⟨_,rfl,?_⟩)
     exact⟨N1,c1,a1,a2,a3,a4,a5,rfl,aa⟩
    rintro⟨z,⟨⟩⟩ h1 ⟨N1,c1,ck,fx,fU,tV,dj,hz,aa⟩
    simp only at hz
    subst hz
    have dZ:W3 N1 p=some nd:=by rw[tV p (C2P p x)];exact au
    have wV:(p++[x])++r=p++x::r:=by simp
    rw[wV] at dj
    (try dsimp only);rw[U1,U9]
    by_cases lg:(c1.q.isEmpty&&c1.nx.isEmpty)=true
    ·rw[if_pos lg]
     rw[F0,List.isEmpty_iff,List.isEmpty_iff] at lg
     have hk:=(A6J dZ aa).2
     have yy:W3 nd.nx x=some (o7 c1):=by
      obtain⟨n0,h3,h4⟩:=ck.up _ _ _ fx
      rw[dZ] at h3
      cases h3
      exact h4
     refine⟨_,rfl,some nd.nm,by rw[U3];exact(v8 dZ aa).2,?_⟩
     (try dsimp only);rw[U1]
     refine X8 (i:=0) (aM aa.p1) (x:=x) rfl fun a ha=>?_
     refine⟨x,ha 0 _ rfl,?_⟩
     (try dsimp only);rw[U1]
     refine C5l dZ aa fun h2 ae=>?_
     have ez:W3 (mset N1 p {nd with nx:=mdel nd.nx x}) (p++[x])=some c1:=by rw[j0,if_neg (fun e=>A7N p x e.symm)];exact fx
     have da:((mset N1 p {nd with nx:=mdel nd.nx x}).map (·.1)).Nodup:=by rw[A6M dZ];exact ck.keys
     refine⟨_,{nd with nx:=mdel nd.nx x},ck.cut dZ hk fx lg.2,?_,rfl,rfl,rfl,fun p' dp=>?_,fun p' k'=>?_,C5j ez ae⟩
     ·rw[A2T da,if_neg (A7N p x),j0,if_pos rfl]
     ·rw[A2T da,if_neg (fun e=>dp (by rw[←e];exact List.prefix_append _ _)),j0,if_neg (fun e=>dp (by rw[e];exact List.prefix_refl _))]
      exact tV p' (C47 dp)
     ·rw[←dj]
      have:ent (mset N1 p {nd with nx:=mdel nd.nx x}) p' k'=ent N1 p' k':=C5J dZ _ p' k'
      rw[←this]
      unfold ent
      rw[A2T da]
      by_cases e:p++[x]=p'
      ·subst e
       rw[if_pos rfl,ez]
       simp[lg.1]
      ·rw[if_neg e]
    ·rw[if_neg lg]
     exact⟨N1,nd,ck,dZ,rfl,rfl,rfl,fun p' dp=>tV p' (C47 dp),dj,aa⟩
  clear hs
  rintro⟨⟩ h1 ⟨N',nd',uo,gM,hb,rE,nL,hf,he,aa⟩
  have ep:o7 nd=o7 nd':=by unfold o7;rw[hb]
  refine V4 (fun x h'=>h'=h1∧x.1=(nd'.q.isEmpty&&nd'.nx.isEmpty)) ?_ ?_
  ·rw[ep]
   refine⟨_,rfl,some nd'.qm,by rw[U3];exact(v8 gM aa).1,?_⟩
   (try dsimp only);rw[U1]
   refine B90 gM aa ?_
   (try dsimp only);rw[U9]
   cases hm:nd'.q with
   |cons a l=>rw[if_neg (by simp;omega)];exact⟨rfl,rfl⟩
   |nil=>
    rw[if_pos (by simp)]
    refine⟨_,rfl,some nd'.nm,by rw[U3];exact(v8 gM aa).2,?_⟩
    (try dsimp only);rw[U1]
    refine B91 gM aa ?_
    refine⟨rfl,?_⟩
    simp only[]
    cases nd'.nx<;>simp
    omega
  rintro⟨x,⟨⟩⟩ h2 ⟨rfl,hx⟩
  simp only at hx
  subst hx
  exact hq N' nd' h2 uo gM hb hf he aa
theorem C0S{t:Nat}{N:Nds}{C:List (Int×Int)}(ht:TP h0){id:Int}{f:B3O}(hsz:f.size≤16777216)(hs:sat h (trM t N C::old h0::R)){Q:Value→Heap→Prop}
  (ax:ent N (levels f) id=none→∀h',sat h' (trM t N C::old h0::R)→Q (.bool false) h')
  (dc:∀q0,ent N (levels f) id=some q0→∀N' h',(∀p' k',ent N' p' k'=if p'=levels f∧k'=id then none else ent N p' k')→
   sat h' (trM t N' (if IntKind.wrap .i64 ((W3 C id).getD 0-1)=0 then mdel C id else mset C id (IntKind.wrap .i64 ((W3 C id).getD 0-1)))::old h0::R)→Q (.bool true) h'):
  V3 prog 111 #[at9 t,.int .i64 id,.string f] h Q:=by
 refine A62 (some ⟨t,0,none⟩) id f h Q ?_
 delta A6k bn cb cc cp ie km kp nn pu rq vi vs wi
 rw[U9,if_neg (by simp)]
 obtain⟨rb,cm,hT,bB⟩:=A2e.1 hs
 have aa:sat h (cells t (trC rb cm)::p8 N::old h0::mapA A1b A1A cm C::R):=bB.re [0,1,3,2]
 clear bB hs
 have back:∀{h':Heap},sat h' (cells t (trC rb cm)::p8 N::old h0::mapA A1b A1A cm C::R)→sat h' (trM t N C::old h0::R):=fun af=>A2e.2 ⟨rb,cm,hT,af.re [0,1,3,2]⟩
 refine V4 (fun x h'=>(x=(W3 N (levels f)).bind fun nd=>o7 nd)∧sat h' (cells t (trC rb cm)::p8 N::old h0::mapA A1b A1A cm C::R)) ?_ ?_
 ·exact find_spec ht hT hsz aa (fun hn h' af=>⟨none,rfl,by rw[hn];rfl,af⟩) (fun nd hn h' af=>⟨o7 nd,rfl,by rw[hn];rfl,af⟩)
 clear aa
 rintro x1 h1 ⟨hx,aa⟩
 rw[U9]
 cases hg:W3 N (levels f) with
 |none=>
  rw[hg] at hx
  subst hx
  rw[if_pos (by rfl)]
  exact ax (by unfold ent;rw[hg];rfl) h1 (back aa)
 |some nd=>
  rw[hg] at hx
  subst hx
  rw[if_neg (by simp)]
  refine⟨_,rfl,some nd.qm,by rw[U3];exact(v8 hg aa.p1).1,?_⟩
  (try dsimp only);rw[U1]
  refine C7m hg aa.p1 ?_
  (try dsimp only);rw[U9]
  cases hm:W3 nd.q id with
  |none=>
   rw[if_pos (by simp)]
   exact ax (by unfold ent;rw[hg];exact hm) h1 (back aa)
  |some q0=>
   rw[if_neg (by simp)]
   have iP:ent N (levels f) id=some q0:=by unfold ent;rw[hg];exact hm
   refine⟨_,rfl,some ⟨rb,0,none⟩,by rw[U3];exact aa.cell 0,?_⟩
   refine U6 (B2a aa.p2 ht hsz fun sl h2 ba=>⟨sl,rfl,?_⟩)
   have ae:sat h2 (cells t (trC rb cm)::p8 N::U5 eS 1 sl (levels f)::mapA A1b A1A cm C::old h0::R):=ba.re [2,3,0,4,1]
   clear ba aa
   refine⟨some ⟨rb,0,none⟩,by rw[U3];exact ae.cell 0,rfl,?_⟩
   obtain⟨r,fr,cQ⟩:=hT.root
   have ep:(Value.pointer (some ⟨rb,0,none⟩))=.pointer (o7 r):=by unfold o7;rw[cQ]
   rw[ep]
   refine U6 (C1p (A:=U5 eS 1 sl (levels f)) (levels f) [] hT fr (fun af=>af.aO A1F) (ae.re [1,2,0]) fun N' nd' h3 uo _ _ _ he bo=>⟨_,rfl,?_⟩)
   have aj:sat h3 (cells t (trC rb cm)::mapA A1b A1A cm C::p8 N'::old h0::R):=(bo.re [1,2,3,0,4]).drop
   clear bo ae
   refine⟨_,rfl,some cm,by rw[U3];exact aj.cell 1,?_⟩
   (try dsimp only);rw[U1]
   refine u7 kI9 (ek:=A1b) (kind:=.one (.int .i64)) (z:=0) rfl aj.p1 ?_
   (try dsimp only);rw[U1]
   refine A4A kI9 (ek:=A1b) (A9g .i64) (ev:=A1A) (x:=IntKind.wrap .i64 ((W3 C id).getD 0-1)) aj.p1 fun h4 ak=>?_
   refine⟨_,rfl,some cm,by rw[U3];exact ak.p1.cell 1,?_⟩
   (try dsimp only);rw[U1]
   refine u7 kI9 (ek:=A1b) (kind:=.one (.int .i64)) (z:=0) rfl ak ?_
   rw[j0,if_pos rfl]
   generalize hw:IntKind.wrap .i64 ((W3 C id).getD 0-1)=w at ak dc
   refine V4 (fun _ h'=>sat h' (mapA A1b A1A cm (if w=0 then mdel C id else mset C id w)::cells t (trC rb cm)::p8 N'::old h0::R)) ?_ ?_
   ·(try dsimp only);rw[U9]
    by_cases jX:w=0
    ·rw[if_pos (by simpa using jX),if_pos jX]
     refine⟨_,rfl,some cm,by rw[U3];exact ak.p1.cell 1,?_⟩
     (try dsimp only);rw[U1]
     refine A5Q kI9 (ek:=A1b) (ev:=A1A) ak fun h5 ai=>?_
     rw[B7F] at ai
     exact ai
    ·rw[if_neg (by simpa using jX),if_neg jX]
     exact ak
   rintro⟨⟩ h5 ai
   refine dc q0 iP N' h5 (fun p' k'=>?_) (A2e.2 ⟨rb,cm,uo,ai.re [1,2,0]⟩)
   rw[he,F2]
end
open Go.Proofs Go.Shelf
def B7K:Go.Shelf.Ren:=⟨fun n=>match n with|156=>228|165=>257|166=>258|169=>259|240=>269|241=>270|276=>273|277=>274|n=>n,fun n=>match n with|31=>43|9=>9|3=>3|4=>4|0=>0|20=>20|72=>384|76=>387|70=>382|37=>54|75=>386|127=>397|164=>399|5=>5|80=>389|n=>n,fun n=>n⟩
theorem C8U:Lays.n156 prog B7K where
 mixed:=by kernel_rfl
 f156:=func228.trans (congrArg some (by kernel_rfl))
 f165:=func257.trans (congrArg some (by kernel_rfl))
 f166:=func258.trans (congrArg some (by kernel_rfl))
 f169:=func259.trans (congrArg some (by kernel_rfl))
 f240:=func269.trans (congrArg some (by kernel_rfl))
 f241:=func270.trans (congrArg some (by kernel_rfl))
 f276:=func273.trans (congrArg some (by kernel_rfl))
 f277:=func274.trans (congrArg some (by kernel_rfl))
 t0:=underlying0
 a0:=isAgg0
 z0:=sizeOf0
 v0:=zeroValue0
 t3:=underlying3
 a3:=isAgg3
 z3:=sizeOf3
 v3:=zeroValue3
 t4:=underlying4
 a4:=isAgg4
 z4:=sizeOf4
 v4:=zeroValue4
 t9:=underlying9
 a9:=isAgg9
 z9:=sizeOf9
 v9:=zeroValue9
 t20:=underlying20
 a20:=isAgg20
 z20:=sizeOf20
 v20:=zeroValue20
 t31:=underlying43
 a31:=isAgg43
 z31:=sizeOf43
 v31:=zeroValue43
 t37:=underlying54
 a37:=isAgg54
 z37:=sizeOf54
 v37:=zeroValue54
 t70:=underlying382
 a70:=isAgg382
 z70:=sizeOf382
 v70:=zeroValue382
 t72:=underlying384
 a72:=isAgg384
 z72:=sizeOf384
 v72:=zeroValue384
 t75:=underlying386
 a75:=isAgg386
 z75:=sizeOf386
 v75:=zeroValue386
 t76:=underlying387
 a76:=isAgg387
 z76:=sizeOf387
 v76:=zeroValue387
 t127:=underlying397
 a127:=isAgg397
 z127:=sizeOf397
 v127:=zeroValue397
 t164:=underlying399
 a164:=isAgg399
 z164:=sizeOf399
 v164:=zeroValue399
theorem C8T:Builder.Extra prog B7K where
 sizeBuilder:=by kernel_rfl
 liesBuilder:=by kernel_rfl
 t5:=underlying5
 a5:=isAgg5
 z5:=sizeOf5
 v5:=zeroValue5
 infoByte:=by kernel_rfl
 cellsByte:=by kernel_rfl
 sizeByte:=by kernel_rfl
 neB5:=by decide
end Go.Proofs.YtidlldnlphdhcaaGreatDoor
namespace Go.H
section
variable {α:Type} {enc:α→C9P} {size:Nat} {h:Heap} {s:Slc} {x:α} {xs:List α}
theorem Z7.clip(hr:Z7 enc size h s xs):Z7 enc size h (j9 s 0 s.len s.len size) xs:=by
 have h1:=hr.1
 refine⟨by simp only[j9];omega,by simp only[j9];omega,fun i y hy=>?_⟩
 obtain⟨a,ha,hc⟩:=hr.2.2 i y hy
 refine⟨a,?_,hc⟩
 simp only[j9,ha]
 split
 ·rfl
 ·simp[add_zero]
end
end Go.H
namespace Go.Proofs.YtidlldnlphdhcaaGreatDoor
open Go.H
open Go.Proofs.Tryz
section
open Go.H Go.Proofs
variable {h h0:Heap} {R:List Asn}
def A5K(p:Path):B3O:=⟨(Lib.join (p.map (·.data.toList)) [47]).toArray⟩
theorem B5E(c:UInt8):∀(r x:List UInt8),Lib.join (lev c x r) [c]=x++r
 |[],x=>by simp[lev,Lib.join_one]
 |b::r,x=>by
  unfold lev
  by_cases e:b=c
  ·rw[if_pos e]
   have ih:=B5E c r []
   have cg:lev c [] r≠[]:=fun h=>by have:=B4A c r [];rw[h] at this;simp at this
   obtain⟨y,ys,hy⟩:=O1 cg
   rw[hy,Lib.join_cons] at ih⊢
   rw[←e] at ih⊢
   simp only[Lib.joinTail,B6,List.flatten_cons] at ih⊢
   simp only[F2] at ih
   rw[←ih]
   simp
  ·rw[if_neg e,B5E c r (x++[b])]
   simp
theorem A2W(f:B3O):A5K (levels f)=f:=by
 unfold A5K
 rw[A2U,B5E,F2]
theorem C2p(hs:sat h R){s:Slc}{xs:Path}(hr:Z7 eS 1 h s xs)(cg:xs≠[])(hN:xs.length≤100000)(hlen:(A5K xs).size≤100000){Q:Value→Heap→Prop}(hq:∀h',sat h' R→Q (.string (A5K xs)) h'):
  V3 prog 186 #[.slice s.a s.len s.cap] h Q:=by
 refine B2c s h Q ?_
 delta B4J ct pu vs
 obtain⟨x,xr,rfl⟩:=O1 cg
 obtain⟨a,ha,xF⟩:=hr.2.2 0 x rfl
 have vV:=xF 0 _ rfl
 have eL:=C2h vV
 obtain⟨b,o,sp⟩:=a
 have sV:sp=none:=by simpa[Addr.add] using eL
 subst sV
 refine U6 ?_
 have cW:(Value.slice s.a s.len s.cap)=.slice (some ⟨b,o,none⟩) (x::xr).length s.cap:=by rw[ha,hr.1]
 rw[cW]
 refine B3Z hs (fun w hw=>Any.strings_Join C8U C8T b o s.cap (x::xr) (ByteArray.mk #[47]) w (fun j y hy=>?_) ?_ (by omega) (by rw[←hr.1];exact hr.2.1) ?_) fun h' af=>⟨_,rfl,?_⟩
 ·obtain⟨a',i',hc⟩:=hr.2.2 j y hy
  rw[ha] at i'
  cases i'
  have:=hc 0 _ rfl
  subst hw
  rw[Nat.mul_one,Addr.bM,Addr.bM,O7] at this
  exact this
 ·subst hw
  have h1:W0 w.heap ⟨b,o,none⟩=some (.string x):=by simpa[Addr.add] using vV
  unfold W0 at h1
  cases hx:w.heap[b]? with
  |none=>simp[hx] at h1
  |some ob=>exact(F7.1 hx).1
 ·have:(A5K (x::xr)).size=(Lib.join ((x::xr).map (·.data.toList)) [47]).length:=by simp[A5K,ByteArray.size]
  have e:(ByteArray.mk #[47]).data.toList=[47]:=rfl
  rw[e,←this]
  omega
 ·exact hq h' af
abbrev Ent:=Int×B3O×Int
abbrev Z8(x:Ent):C9P:=[.int .i64 x.1,.string x.2.1,.int .i64 x.2.2]
theorem A0P(x:Ent):(Z8 x).length=3:=rfl
theorem A3Y(x:Ent):∀v∈Z8 x,v.oneCell'=true:=by
 intro v hv;simp at hv;rcases hv with rfl|rfl|rfl<;>rfl
def A01(p:Path)(q:List (Int×Int)):List Ent:=q.map fun kv=>(kv.1,A5K p,kv.2)
def A4f(N:Nds)(p:Path):List Ent:=match W3 N p with|some nd=>A01 p nd.q|none=>[]
theorem B2e{A:Asn}{N:Nds}{p:Path}{nd:Nd}(au:W3 N p=some nd)(cg:nd.q≠[]→p≠[]∧(A5K p).size≤100000)(fu:p.length≤100000){s out:Slc}{es:List Ent}
  (aM:∀{h':Heap} {R':List Asn},sat h' (A::R')→Z7 eS 1 h' s p)(hs:sat h (p8 N::U5 Z8 3 out es::A::R))(hb:es.length+nd.q.length≤100000){Q:Value→Heap→Prop}
  (hq:∀out' l h',l.Perm (A01 p nd.q)→sat h' (p8 N::U5 Z8 3 out' (es++l)::A::R)→Q (.slice out'.a out'.len out'.cap) h'):
  V3 prog 129 #[.pointer (o7 nd),.slice s.a s.len s.cap,.slice out.a out.len out.cap] h Q:=by
 refine A61 (o7 nd) s out h Q ?_
 delta A6i az bn ct ie km nn nw pu ve vi vs
 refine⟨_,rfl,some nd.qm,by rw[U3];exact(v8 au hs).1,?_⟩
 obtain⟨l1,l2,rfl,hn,bB⟩:=A1W au hs
 have aa:sat h (mapA A1b A1A nd.qm nd.q::U5 Z8 3 out es::A::cells nd.b #[.map (some nd.qm),.map (some nd.nm)]::mapA A9F B0A nd.nm nd.nx::Z9 (fun p:Path×Nd=>ndA p.2) (l1++l2)::R):=bB.re [1,4,5,0,2,3]
 clear bB hs
 (try dsimp only);rw[U1]
 refine A83 aa fun it h1 ae=>?_
 refine l9 (γ:=List (Int×Int)×List (Int×Int)) (hb:=fun s=>by
   repeat' with_reducible first
    |refine @A0r _ _ _ _ ?_ (fun _=>?_)
    |refine @B93 _ _ _ _ _ ?_ (fun _=>?_)
    |refine @A0Z _ _ _ _ ?_ ?_
    |refine @A1X _ _ _ ?_
   all_goals infer_instance)
  (fun g x h'=>(g.1++g.2).Perm nd.q∧sat h' (itA A1b A1A nd.qm nd.q it g.1 g.2::U5 Z8 3 x.1 (es++A01 p g.1)::A::cells nd.b #[.map (some nd.qm),.map (some nd.nm)]::mapA A9F B0A nd.nm nd.nx::Z9 (fun p:Path×Nd=>ndA p.2) (l1++l2)::R))
  (fun g=>g.2.length) ([],nd.q) ⟨J3 _,by simpa[A01] using ae⟩ ?_
 clear aa ae
 rintro⟨done,todo⟩ ⟨o1,⟨⟩⟩ h2 ⟨hp,ae⟩
 simp only at hp ae
 have iH:done.length+todo.length=nd.q.length:=by have:=hp.length_eq;simpa using this
 rw[U1]
 refine B1z ae (fun h0=>?_) (fun kv t1 t2 ht h3 aj=>?_)
 ·subst h0
  (try dsimp only);rw[B9U,U9,if_neg (by simp)]
  simp only[D7,E8,V1]
  rw[C1] at hp
  refine hq o1 (A01 p done) h2 (hp.map _) ?_
  have h4:=A9e ae
  have h5:=A8B (p:=p) (nd:=nd) (nd':=nd) hn (h4.re [3,0,4,5,1,2])
  rw[B7C au] at h5
  exact h5
 ·subst ht
  (try dsimp only);rw[B9T,U9,if_pos rfl]
  rw[U1]
  refine A9i (kk:=.one (.int .i64)) (kv:=.one (.int .i64)) (ek:=A1b) (ev:=A1A) (p:=kv) (x:=kv.1) (y:=kv.2) rfl rfl aj ?_
  have iP:nd.q≠[]:=fun e=>by rw[e] at hp;simp at hp
  obtain⟨tx,tw⟩:=cg iP
  refine U6 (C2p aj (aM aj.p2) tx fu tw fun h4 ak=>⟨A5K p,rfl,?_⟩)
  refine V5 ak fun lA h5 ai=>?_
  (try dsimp only);rw[U1]
  refine A0d (enc:=Z8) (ys:=[(kv.1,A5K p,kv.2)]) A0P A3Y rfl ai.p2 rfl ?_ (by decide) (by decide) ?_ fun o2 h6 aw=>?_
  ·simp only[V6,N5,D8,H9,C1]
   exact ai.reads rfl
  ·rw[B5,A01,C2]
   simp only[B5,B8] at iH
   omega
  simp only[D7,E8,V1]
  refine .mk (done++[kv],t1++t2) (by simp) ⟨?_,?_⟩
  ·refine List.Perm.trans ?_ hp
   simp only[D2]
   refine Q4 done ?_
   show(kv::(t1++t2)).Perm _
   exact P8.symm
  ·have e:es++A01 p (done++[kv])=es++A01 p done++[(kv.1,A5K p,kv.2)]:=by simp[A01]
   rw[e]
   exact(aw.re [1,2,0]).drop
end
section
open Go.H Go.Proofs
variable {h h0:Heap} {R:List Asn}
def A1Z(N:Nds):Path→Path→Bool→List Ent
 |p,left,d=>match W3 N p with
  |none=>[]
  |some _=>(if d=true then[] else A4f N (p++[o8]))++match left with
   |[]=>A4f N p
   |x::r=>(if d=true then[] else A1Z N (p++[r8]) r false)++A1Z N (p++[x]) r false
 termination_by p left d=>left.length
theorem A4a{N:Nds}{p left:Path}{d:Bool}(h:W3 N p=none):A1Z N p left d=[]:=by
 unfold A1Z;rw[h]
theorem A7k{N:Nds}{p:Path}{nd:Nd}{d:Bool}(h:W3 N p=some nd):A1Z N p [] d=(if d=true then[] else A4f N (p++[o8]))++A4f N p:=by
 unfold A1Z;rw[h]
theorem A5G{N:Nds}{p r:Path}{x:B3O}{nd:Nd}{d:Bool}(h:W3 N p=some nd):
  A1Z N p (x::r) d=(if d=true then[] else A4f N (p++[o8]))++((if d=true then[] else A1Z N (p++[r8]) r false)++A1Z N (p++[x]) r false):=by
 rw[A1Z,h]
theorem B9X{rb:Nat}{N:Nds}(hT:A0e rb N){p:Path}{nd:Nd}(h:W3 N p=some nd)(x:B3O):(W3 nd.nx x).getD none=(W3 N (p++[x])).bind fun n=>o7 n:=by
 cases hg:W3 nd.nx x with
 |some v=>
  obtain⟨c,hc,rfl⟩:=hT.down _ _ _ _ h hg
  rw[hc]
  rfl
 |none=>
  cases hc:W3 N (p++[x]) with
  |none=>rfl
  |some c=>
   obtain⟨n0,h1,h2⟩:=hT.up _ _ _ hc
   rw[h] at h1
   cases h1
   rw[hg] at h2
   cases h2
theorem B79{s:Slc}{Q:Value→Heap→Prop}(hle:s.len≤s.cap)(hq:Q (.slice (j9 s 0 s.len s.len 1).a (j9 s 0 s.len s.len 1).len (j9 s 0 s.len s.len 1).cap) h):
  V3 prog 128 #[.slice s.a s.len s.cap] h Q:=by
 refine B0U s h Q ?_
 delta B3m bn pu
 exact⟨0,s.len,s.len,⟨rfl,hle⟩,⟨rfl,D9 _⟩,rfl,hq⟩
theorem A5T{A:Asn}{s:Slc}{p:Path}{x:B3O}(hr:Z7 eS 1 h s p)(hc:s.cap=s.len)(fu:p.length≤100000){b:Nat}{L:List Asn}(hs:sat h (cells b #[.string x]::L)){Q:Slc→Heap→Prop}
  (hq:∀s' h',sat h' (U5 eS 1 s' (p++[x])::cells b #[.string x]::L)→Q s' h'):
  HM.append 9 1 16 #[.string (ByteArray.mk #[])] s 1 (V6 1 (⟨some ⟨b,0,none⟩,1,1⟩)) h Q:=by
 refine C0P (ys:=[x]) A1F B4C rfl hs hr hc rfl ?_ (by decide) (by decide) (by decide) (by omega) hq
 simp only[V6,N5,D8,H9,C1]
 exact hs.reads rfl
def C2r(N:Nds):Prop:=∀p nd,W3 N p=some nd→nd.q≠[]→p≠[]∧(A5K p).size≤100000
theorem B5V{N:Nds}{p:Path}{nd:Nd}(h:W3 N p=some nd):A4f N p=A01 p nd.q:=by unfold A4f;rw[h]
theorem C1C{rb:Nat}{N:Nds}(hT:A0e rb N)(hG:C2r N):∀(n:Nat) (left p:Path) (_:left.length=n) {A:Asn} {s1 s2 out:Slc} {d:Bool} {es:List Ent} {h:Heap} {R:List Asn} (fu:p.length+left.length≤1000)
  (oZ:∀{h':Heap} {R':List Asn},sat h' (A::R')→Z7 eS 1 h' s1 p) (lR:∀{h':Heap} {R':List Asn},sat h' (A::R')→Z7 eS 1 h' s2 left)
  (hs:sat h (p8 N::U5 Z8 3 out es::A::R)) (hb:es.length+(A1Z N p left d).length≤100000) {Q:Value→Heap→Prop}
  (hq:∀out' l h',l.Perm (A1Z N p left d)→sat h' (p8 N::U5 Z8 3 out' (es++l)::A::R)→Q (.slice out'.a out'.len out'.cap) h'),
  V3 prog 125 #[.pointer ((W3 N p).bind fun nd=>o7 nd),.slice s1.a s1.len s1.cap,.slice s2.a s2.len s2.cap,.bool d,.slice out.a out.len out.cap] h Q:=by
 intro n
 induction n using Nat.strongRecOn with
 |_ n ih=>
 intro left p ke A s1 s2 out d es h R fu oZ lR hs hb Q hq
 refine A6j _ s1 s2 d out h Q ?_
 delta A5q az bn cc ie ix km lt nn nw pu rq ve vs
 rw[U9]
 cases hg:W3 N p with
 |none=>
  rw[if_pos (by rfl)]
  rw[A4a hg] at hq
  exact hq out [] h (J3 _) (by rw[C1];exact hs)
 |some nd=>
 rw[if_neg (by simp)]
 have fr:=oZ hs.p2
 refine U6 (B79 fr.2.1 ⟨_,rfl,?_⟩)
 refine⟨_,rfl,some nd.nm,by rw[U3];exact(v8 hg hs).2,?_⟩
 (try dsimp only);rw[U1]
 refine A6K (x:=o8) hg hs ?_
 rw[B9X hT hg]
 refine V4 (fun z h'=>h'=h∧z.1=((W3 N (p++[o8])).isSome&& !d)) ?_ ?_
 ·(try dsimp only);rw[U9]
  cases W3 N (p++[o8]) with
  |none=>rw[if_neg (by simp)];exact⟨rfl,rfl⟩
  |some c=>rw[if_pos (by rfl)];exact⟨rfl,rfl⟩
 rintro⟨x5,⟨⟩⟩ h1 ⟨rfl,uI⟩
 simp only at uI
 subst uI
 have fU:es.length+(if d=true then[] else A4f N (p++[o8])).length≤100000:=by
  cases left with
  |nil=>rw[A7k hg,B5] at hb;omega
  |cons x r=>rw[A5G hg,B5] at hb;omega
 refine V4 (fun z h'=>∃l1,l1.Perm (if d=true then[] else A4f N (p++[o8]))∧sat h' (p8 N::U5 Z8 3 z.1 (es++l1)::A::R)) ?_ ?_
 ·(try dsimp only);rw[U9]
  cases hh:W3 N (p++[o8]) with
  |none=>
   rw[if_neg (by simp)]
   refine⟨[],?_,by rw[C1];exact hs⟩
   have:A4f N (p++[o8])=[]:=by unfold A4f;rw[hh]
   rw[this]
   split<;>exact J3 _
  |some c=>
   cases d with
   |true=>
    rw[if_neg (by simp)]
    exact⟨[],by simp,by rw[C1];exact hs⟩
   |false=>
    rw[if_pos (by rfl)]
    refine V5 hs fun x7 h2 ae=>?_
    (try dsimp only);rw[U1]
    refine A5T (A:=A) (oZ ae.p3).clip rfl (by omega) ae fun s8 h3 aj=>?_
    have bo:sat h3 (p8 N::U5 Z8 3 out es::star (U5 eS 1 s8 (p++[o8])) A::cells x7 #[.string o8]::R):=(sat.aI.2 (aj.re [0,4,1,2,3])).re [2,3,0,1]
    have e0:((some c:Option Nd).bind fun nd=>o7 nd)=o7 c:=rfl
    rw[B5V hh] at fU⊢
    refine U6 (B2e hh (fun eh=>hG _ _ hh eh) (by rw[B5];simp;omega) (fun af=>(sat.aI.1 af).aO A1F) bo (by simpa[A01] using fU) fun o' l h4 hl ak=>⟨o',rfl,?_⟩)
    refine⟨l,by simpa using hl,?_⟩
    have h5:=sat.aI.1 (ak.re [2,0,1,3])
    exact(h5.re [0,4,2,3,1]).drop.drop
 clear hs fU
 rintro⟨o1,⟨⟩⟩ h2 ⟨l1,oJ,aa⟩
 simp only at aa
 have fa:=oJ.length_eq
 have fg:s2.len=left.length:=(lR aa.p2).1
 (try dsimp only);rw[U9]
 cases left with
 |nil=>
  rw[if_pos (by simp[fg])]
  rw[A7k hg] at hq hb
  rw[B5V hg] at hq hb
  rw[B5] at hb
  have dy:(es++l1).length+nd.q.length≤100000:=by
   rw[B5,fa]
   simp only[A01,C2] at hb
   omega
  refine U6 (B2e (A:=A) hg (hG _ _ hg) (by omega) (fun af=>(oZ af).clip) aa dy fun o' l h3 hl aj=>⟨o',rfl,?_⟩)
  exact hq o' (l1++l) h3 (oJ.append hl) (by rw[←D2];exact aj)
 |cons x r=>
  rw[if_neg (by simp[fg];omega)]
  rw[A5G hg] at hq hb
  simp only[B5,B8] at hb fu ke
  have bx:∀(y:B3O) {h':Heap} {R':List Asn} {Q':C9N×Bool→Heap→Prop},sat h' (p8 N::R')→Q' ((W3 N (p++[y])).bind fun n=>o7 n,(W3 nd.nx y).isSome) h'→
    HM.lookup (Instr.sameNow .string) (.pointer none) (.one .ptr) (some nd.nm) (.string y) h' Q':=fun y h' R' Q' af eh=>A6K hg af (by rw[B9X hT hg];exact eh)
  have nL:∀{h':Heap} {R':List Asn},sat h' (p8 N::R')→W0 h' ⟨nd.b,1,none⟩=some (.map (some nd.nm)):=fun af=>(v8 hg af).2
  refine V4 (fun z h'=>∃l2,l2.Perm (if d=true then[] else A1Z N (p++[r8]) r false)∧sat h' (p8 N::U5 Z8 3 z.1 (es++l1++l2)::A::R)) ?_ ?_
  ·(try dsimp only);rw[U9]
   cases d with
   |true=>
    rw[if_neg (by simp)]
    exact⟨[],by simp,by rw[C1];exact aa⟩
   |false=>
    rw[if_pos (by rfl)]
    refine⟨_,rfl,some nd.nm,by rw[U3];exact nL aa,?_⟩
    (try dsimp only);rw[U1]
    refine bx r8 aa ?_
    (try dsimp only);rw[U1]
    refine B0b (lR aa.p2) ?_
    refine V5 aa fun mw h3 aj=>?_
    (try dsimp only);rw[U1]
    refine bx r8 aj.p1 ?_
    refine⟨rfl,some nd.nm,by rw[U3];exact nL aj.p1,rfl,?_⟩
    (try dsimp only);rw[U1]
    refine A5T (A:=A) (oZ aj.p3).clip rfl (by omega) aj fun s8 h4 ak=>?_
    (try dsimp only);rw[U1]
    refine bx r8 ak.p2 ?_
    refine⟨rfl,some nd.nm,by rw[U3];exact nL ak.p2,rfl,?_⟩
    have bp:sat h4 (p8 N::U5 Z8 3 o1 (es++l1)::star (U5 eS 1 s8 (p++[r8])) A::cells mw #[.string r8]::R):=(sat.aI.2 (ak.re [0,4,1,2,3])).re [2,3,0,1]
    refine U6 (ih r.length (by omega) r (p++[r8]) rfl (by simp;omega) (fun af=>(sat.aI.1 af).aO A1F) (fun af=>(lR (sat.aI.1 af).p1).tail) bp (by rw[B5,fa];simp at hb⊢;omega) fun o' l h5 hl ai=>⟨o',rfl,?_⟩)
    refine⟨l,by simpa using hl,?_⟩
    have h6:=sat.aI.1 (ai.re [2,0,1,3])
    exact(h6.re [0,4,2,3,1]).drop.drop
  clear aa
  rintro⟨o2,⟨⟩⟩ h3 ⟨l2,jK,ae⟩
  simp only at ae
  have kX:=jK.length_eq
  refine⟨_,rfl,some nd.nm,by rw[U3];exact nL ae,?_⟩
  (try dsimp only);rw[U1]
  obtain⟨a0,vI,-⟩:=(lR ae.p2).2.2 0 x rfl
  have dr:∀{h':Heap} {R':List Asn},sat h' (A::R')→W0 h' (a0.add ((0:Int).toNat*1))=some (.string x):=fun af=>by
   obtain⟨a1,e1,e2⟩:=(lR af).2.2 0 x rfl
   rw[vI] at e1
   cases e1
   exact e2 0 _ rfl
  have iu:∀{h':Heap} {Q':Addr→Heap→Prop},Q' (a0.add ((0:Int).toNat*1)) h'→A3W s2.a s2.len 0 1 h' Q':=fun eh=>⟨a0,vI,S7 _,by rw[fg];simp,eh⟩
  refine iu ?_
  refine⟨x,dr ae.p2,?_⟩
  (try dsimp only);rw[U1]
  refine bx x ae ?_
  (try dsimp only);rw[U1]
  refine iu ?_
  refine⟨x,dr ae.p2,?_⟩
  (try dsimp only);rw[U1]
  refine B0b (lR ae.p2) ?_
  refine V5 ae fun po h4 aj=>?_
  (try dsimp only);rw[U1]
  refine bx x aj.p1 ?_
  refine⟨rfl,x,dr aj.p3,rfl,some nd.nm,by rw[U3];exact nL aj.p1,rfl,?_⟩
  (try dsimp only);rw[U1]
  refine A5T (A:=A) (oZ aj.p3).clip rfl (by omega) aj fun s8 h5 ak=>?_
  (try dsimp only);rw[U1]
  refine bx x ak.p2 ?_
  refine⟨rfl,x,dr ak.p4,rfl,some nd.nm,by rw[U3];exact nL ak.p2,rfl,?_⟩
  have bp:sat h5 (p8 N::U5 Z8 3 o2 (es++l1++l2)::star (U5 eS 1 s8 (p++[x])) A::cells po #[.string x]::R):=(sat.aI.2 (ak.re [0,4,1,2,3])).re [2,3,0,1]
  refine U6 (ih r.length (by omega) r (p++[x]) rfl (by simp;omega) (fun af=>(sat.aI.1 af).aO A1F) (fun af=>(lR (sat.aI.1 af).p1).tail) bp (by rw[B5,B5,fa,kX];omega) fun o' l h6 hl ai=>⟨o',rfl,?_⟩)
  refine hq o' (l1++(l2++l)) h6 (oJ.append (jK.append hl)) ?_
  have h7:=sat.aI.1 (ai.re [2,0,1,3])
  have h8:sat h6 (p8 N::U5 Z8 3 o' (es++l1++l2++l)::A::R):=(h7.re [0,4,2,3,1]).drop.drop
  rw[D2,D2] at h8
  exact h8
end
end Go.Proofs.YtidlldnlphdhcaaGreatDoor
namespace Go.H
section
variable {α:Type} {f:α→Asn} {h:Heap}
theorem B6w{l l':List α}(hp:l.Perm l'):∀{R:List Asn},sat h (Z9 f l::R)→sat h (Z9 f l'::R):=by
 induction hp with
 |nil=>exact fun hs=>hs
 |cons x _ ih=>exact fun hs=>l3.2 (ih (l3.1 hs).p1).p1
 |swap x y l=>
  intro R hs
  have h1:=l3.1 hs
  have h2:=l3.1 h1.p1
  exact l3.2 ((l3.2 (h2.re [2,1,0])).p1)
 |trans _ _ sE sD=>exact fun hs=>sD (sE hs)
theorem B13:∀{a b:List α} {R:List Asn},sat h (Z9 f (a++b)::R)↔sat h (Z9 f a::Z9 f b::R)
 |[],b,R=>A2x.symm
 |x::a,b,R=>by
  rw[G5,l3]
  constructor
  ·intro hs
   exact l3.2 ((B13.1 hs.p1).re [2,0,1])
  ·intro hs
   have h1:=l3.1 hs
   exact(B13.2 (h1.re [1,2,0])).p1
end
theorem A8N{α β:Type}{l:List α}{f g:α→List β}(h:∀a∈l,f a=g a):l.flatMap f=l.flatMap g:=by
 induction l with
 |nil=>rfl
 |cons a l ih=>rw[D8,D8,h a (B4 ..),ih fun b hb=>h b (C3 _ hb)]
def preB:List B3O→List B3O→Bool
 |[],_=>true
 |_::_,[]=>false
 |x::p,y::q=>decide (x=y)&&preB p q
theorem A34:∀{p q:List B3O},preB p q=true↔p<+:q
 |[],q=>by simp[preB]
 |x::p,[]=>by simp[preB]
 |x::p,y::q=>by
  rw[preB,F0,A34 (p:=p) (q:=q),List.cons_prefix_cons]
  simp
theorem B7y{α K:Type}[DecidableEq K](g:α→K):∀(L:List α) (ks:List K),ks.Nodup→(∀a∈L,g a∈ks)→L.Perm (ks.flatMap fun k=>L.filter fun a=>decide (g a=k))
 |[],ks,_,_=>by
  have:(ks.flatMap fun k=>([]:List α).filter fun a=>decide (g a=k))=[]:=by simp
  rw[this]
 |a::L,ks,hn,hg=>by
  have ih:=B7y g L ks hn (fun b hb=>hg b (C3 _ hb))
  refine(ih.cons a).trans ?_
  have key:∀ks:List K,ks.Nodup→g a∈ks→(a::ks.flatMap fun k=>L.filter fun a=>decide (g a=k)).Perm (ks.flatMap fun k=>(a::L).filter fun a=>decide (g a=k)):=by
   intro ks
   induction ks with
   |nil=>intro _ h;simp at h
   |cons k ks ih=>
    intro hn hm
    rw[F8] at hn
    rw[D8,D8]
    by_cases e:g a=k
    ·have h1:(a::L).filter (fun a=>decide (g a=k))=a::L.filter (fun a=>decide (g a=k)):=by rw[H6,if_pos (by simpa using e)]
     have h2:(ks.flatMap fun k=>(a::L).filter fun a=>decide (g a=k))=ks.flatMap fun k=>L.filter fun a=>decide (g a=k):=by
      refine A8N fun k' gZ=>?_
      rw[H6,if_neg]
      intro e'
      have e2:g a=k':=by simpa using e'
      exact hn.1 (by rw[←e,e2];exact gZ)
     rw[h1,h2]
     exact J3 _
    ·have h1:(a::L).filter (fun a=>decide (g a=k))=L.filter (fun a=>decide (g a=k)):=by rw[H6,if_neg (by simpa using e)]
     rw[h1]
     have kW:g a∈ks:=by
      rcases D3.1 hm with e'|h
      ·exact absurd e' e
      ·exact h
     refine List.Perm.trans ?_ ((ih hn.2 kW).append_left _)
     exact P8.symm
  exact key ks hn (hg a (B4 ..))
end Go.H
namespace Go.Proofs.YtidlldnlphdhcaaGreatDoor
open Go.H
open Go.Proofs.Tryz
open Go.H Go.Proofs
variable {h h0:Heap} {R:List Asn}
def below(N:Nds)(p:Path):Nds:=N.filter fun q=>preB p q.1
def A1a(N:Nds):List Ent:=N.flatMap fun q=>A01 q.1 q.2.q
theorem B0H(N:Nds):below N []=N:=by
 unfold below
 rw[G9]
 intro q _
 rfl
theorem A8D{K V:Type}[DecidableEq K](c:K→Bool):∀(l:List (K×V)) (k:K),W3 (l.filter fun q=>c q.1) k=if c k=true then W3 l k else none
 |[],k=>by simp
 |(a,b)::l,k=>by
  rw[H6]
  by_cases e:c a=true
  ·rw[if_pos e,Y4,Y4,A8D c l k]
   by_cases e':a=k
   ·subst e';rw[if_pos rfl,if_pos rfl,if_pos e]
   ·rw[if_neg e',if_neg e']
  ·rw[if_neg e,Y4,A8D c l k]
   by_cases e':a=k
   ·subst e';rw[if_neg e,if_neg e]
   ·rw[if_neg e']
theorem C1A(N:Nds)(p p':Path):W3 (below N p) p'=if preB p p'=true then W3 N p' else none:=A8D (fun q=>preB p q) N p'
theorem B6y{rb:Nat}{N:Nds}(hT:A0e rb N){p:Path}{nd:Nd}{l1 l2:Nds}(he:below N p=l1++(p,nd)::l2)(x:B3O):(l1++l2).filter (fun q=>preB (p++[x]) q.1)=below N (p++[x]):=by
 have h1:(below N p).filter (fun q=>preB (p++[x]) q.1)=below N (p++[x]):=by
  unfold below
  rw[R7]
  refine L8 fun q _=>?_
  cases hq:preB (p++[x]) q.1 with
  |false=>simp
  |true=>
   have h2:(p++[x])<+:q.1:=A34.1 hq
   have h3:preB p q.1=true:=A34.2 ((List.prefix_append p [x]).trans h2)
   simp[h3]
 rw[←h1,he,F3,F3,H6,if_neg]
 intro hq
 exact C2P p x (A34.1 hq)
theorem C0H{rb:Nat}{N:Nds}(hT:A0e rb N){p:Path}{nd:Nd}(hp:W3 N p=some nd)(hk:(nd.nx.map (·.1)).Nodup){l1 l2:Nds}(he:below N p=l1++(p,nd)::l2):
  (l1++l2).Perm (nd.nx.flatMap fun kv=>below N (p++[kv.1])):=by
 have au:((below N p).map (·.1)).Nodup:=by
  have:((below N p).map (·.1)).Sublist (N.map (·.1)):=(I2 ..).map _
  exact this.nodup hT.keys
 have an:∀q∈l1++l2,q∈N∧∃x r,q.1=p++x::r:=by
  intro q hq
  have hb:q∈below N p:=by
   rw[he]
   rcases C9.1 hq with h|h
   ·exact I7 _ h
   ·exact F6 _ (C3 _ h)
  obtain⟨h1,h2⟩:=D5.1 hb
  obtain⟨r,hr⟩:=A34.1 h2
  refine⟨h1,?_⟩
  cases r with
  |cons x r=>exact⟨x,r,hr.symm⟩
  |nil=>
   exfalso
   rw[C1] at hr
   rw[he,C0,B6,G1,F8] at au
   rcases C9.1 hq with h|h
   ·exact au.2.2 _ (B3 h) _ (B4 ..) hr.symm
   ·exact au.2.1.1 (E4.2 ⟨q,h,hr.symm⟩)
 have kT:=B7y (fun q:Path×Nd=>(q.1.drop p.length).head?) (l1++l2) ((nd.nx.map (·.1)).map some) (by
  refine List.Pairwise.map _ (fun a b dv e=>dv (Option.some.inj e)) hk) (fun q hq=>by
   obtain⟨hN,x,r,rA⟩:=an q hq
   have nN:=A2S hT.keys hN
   have e:q.1=(p++[x])++r:=by rw[rA];simp
   rw[e] at nN
   obtain⟨c,hc⟩:=hT.pre _ _ _ nN
   obtain⟨n0,h1,h2⟩:=hT.up _ _ _ hc
   rw[hp] at h1
   cases h1
   have h3:=A38 h2
   rw[rA]
   simp only[List.drop_left,List.head?_cons]
   exact B3 (E4.2 ⟨_,h3,rfl⟩))
 refine kT.trans ?_
 rw[F1,List.flatMap_map]
 have:(nd.nx.flatMap fun kv=>(l1++l2).filter fun q=>decide ((q.1.drop p.length).head?=some kv.1))=nd.nx.flatMap fun kv=>below N (p++[kv.1]):=by
  refine A8N fun kv _=>?_
  rw[←B6y hT he kv.1]
  refine L8 fun q hq=>?_
  obtain⟨hN,x,r,rA⟩:=an q hq
  rw[rA]
  simp only[List.drop_left,List.head?_cons,F4]
  by_cases e:x=kv.1
  ·have:preB (p++[kv.1]) (p++x::r)=true:=A34.2 ⟨r,by simp[e]⟩
   rw[this]
   simp[e]
  ·have:preB (p++[kv.1]) (p++x::r)=false:=by
    cases hb:preB (p++[kv.1]) (p++x::r) with
    |false=>rfl
    |true=>
     obtain⟨s,hs⟩:=A34.1 hb
     rw[D2] at hs
     have:=Q9 hs
     simp at this
     exact absurd this.1.symm e
   rw[this]
   simp[e]
 exact List.Perm.of_eq this
theorem C1X{N N':Nds}(h:N.Perm N'):(A1a N).Perm (A1a N'):=h.flatMap_right _
theorem C39(N N':Nds):A1a (N++N')=A1a N++A1a N':=I6 ..
theorem C1Y{K:Type}(l:List K)(f:K→Nds):A1a (l.flatMap f)=l.flatMap fun k=>A1a (f k):=by
 unfold A1a
 rw[List.flatMap_assoc]
theorem C4o{N:Nds}{p:Path}{nd:Nd}{l1 l2:Nds}(he:below N p=l1++(p,nd)::l2)(x:B3O)(hx:(l1++l2).filter (fun q=>preB (p++[x]) q.1)=below N (p++[x])):(below N (p++[x])).length<(below N p).length:=by
 rw[←hx,he]
 have:=D4 (fun q:Path×Nd=>preB (p++[x]) q.1) (l1++l2)
 simp only[B5,B8] at this⊢
 omega
theorem C54{rb:Nat}{N:Nds}(hT:A0e rb N)(hG:C2r N){yv:Value}{J:List Ent→Asn}
  (hY:∀(l:List Ent) (e:Ent) {h:Heap} {R:List Asn} {Q:Unit→Heap→Prop},l.length≤100000→sat h (J l::R)→(∀h',sat h' (J (l++[e])::R)→Q () h')→C3c prog [] yv #[.agg #[.int .i64 e.1,.string e.2.1,.int .i64 e.2.2]] h Q):
  ∀(n:Nat) (p:Path) (nd:Nd) (_:(below N p).length=n) (_:W3 N p=some nd) {A:Asn} {s:Slc} {l:List Ent} {h:Heap} {R:List Asn}
  (_:∀{h':Heap} {R':List Asn},sat h' (A::R')→Z7 eS 1 h' s p) (_:sat h (p8 (below N p)::J l::A::R)) (_:l.length+(A1a (below N p)).length≤100000) {Q:Value→Heap→Prop}
  (_:∀l' h',l'.Perm (A1a (below N p))→sat h' (p8 (below N p)::J (l++l')::A::R)→Q (.tuple #[]) h'),
  V3 prog 82 #[.pointer (o7 nd),.slice s.a s.len s.cap,yv] h Q:=by
 intro n
 induction n using Nat.strongRecOn with
 |_ n ih=>
 intro p nd ke au A s l h R aM hs hb Q hq
 have fu:=hT.short p nd au
 refine A78 (o7 nd) s yv h Q ?_
 delta A7S az bn cc cx ie ix km nn nw pu sn ve vi vs vz wi
 have hr:=aM hs.p2
 have qj:W3 (below N p) p=some nd:=by rw[C1A,if_pos (A34.2 (List.prefix_refl _))];exact au
 refine U6 (B79 hr.2.1 ⟨_,rfl,?_⟩)
 obtain⟨l1,l2,he,tA⟩:=B0s qj
 have vf:(A01 p nd.q).length≤(A1a (below N p)).length:=by
  have:A1a (l1++(p,nd)::l2)=A1a l1++(A01 p nd.q++A1a l2):=by unfold A1a;rw[I6,D8]
  rw[he,this,B5,B5]
  omega
 have wT:nd.q.length=(A01 p nd.q).length:=by simp[A01]
 refine U6 (B2e (A:=star (J l) A) (es:=[]) qj (hG _ _ au) (by omega) (fun af=>(aM (sat.aI.1 af).p1).clip) (out:=⟨none,0,0⟩) ((sat.aI.2 (Z3 hs|>.re [2,3,0,1])).re [2,1,0]) (by simp only[H2];omega) fun o' es h1 oJ bB=>⟨o',rfl,?_⟩)
 have aa:sat h1 (J l::p8 (below N p)::U5 Z8 3 o' es::A::R):=by
  have h2:=sat.aI.1 (bB.re [2,0,1])
  exact h2.re [0,2,3,1]
 clear bB hs
 have xz:es.length=nd.q.length:=by rw[oJ.length_eq,wT]
 have gm:=aa.p2.aW
 have kT:(A1a (below N p)).Perm (es++nd.nx.flatMap fun kv=>A1a (below N (p++[kv.1]))):=by
  obtain⟨h1,h2⟩:=A6J qj aa.p1
  have e1:=C1X (C0H hT au h2 he)
  rw[C1Y] at e1
  have e2:A1a (below N p)=A1a l1++(A01 p nd.q++A1a l2):=by rw[he];unfold A1a;rw[I6,D8]
  rw[e2]
  refine List.Perm.trans ?_ (oJ.symm.append e1)
  rw[C39,←D2,←D2]
  exact List.perm_append_comm.append_right _
 have lH:=kT.length_eq
 rw[B5] at lH
 refine V4 (fun _ h'=>sat h' (J (l++es)::p8 (below N p)::A::R)) ?_ ?_
 ·refine l9 (γ:=Nat) (hb:=fun s=>by
    repeat' with_reducible first
     |refine @A0r _ _ _ _ ?_ (fun _=>?_)
     |refine @A0Z _ _ _ _ ?_ ?_
     |refine @A1X _ _ _ ?_
    all_goals infer_instance)
   (fun g x h'=>g≤es.length∧x.1=(g:Int)∧sat h' (J (l++es.take g)::p8 (below N p)::U5 Z8 3 o' es::A::R)) (fun g=>es.length-g) 0
   ⟨D1 _,rfl,by simpa using aa⟩ ?_
  clear aa
  rintro i ⟨ci,⟨⟩⟩ h2 ⟨hi,bu,ae⟩
  simp only at hi bu ae
  subst bu
  have next:IntKind.wrap .i64 ((i:Int)+1)=((i+1:Nat):Int):=by rw[V8 (by omega) (by omega)];rfl
  simp only[U9,decide_eq_true_eq]
  by_cases ah:i<es.length
  ·rw[if_pos (by omega),U1]
   have hx:=B0 ah
   generalize es[i]=e at hx
   refine X8 (ae.p2.aO A0P) hx fun a ha=>?_
   refine A0n (ts:=[.int .i64,.str,.int .i64]) (e.1,e.2.1,e.2.2,()) (fun j v hv=>ha j v hv) ?_
   refine V5 ae fun x7 h3 aj=>?_
   (try dsimp only);rw[U1]
   refine l5 aj rfl rfl fun h4 ak=>?_
   refine Y5 (ts:=[.int .i64,.str,.int .i64]) (e.1,e.2.1,e.2.2,()) ak rfl ?_
   (try dsimp only);rw[U1]
   refine hY (l++es.take i) e (by simp only[B5,E6];omega) ak.p1 fun h5 ai=>?_
   simp only[D7,E8,V1]
   refine .mk (i+1) (by omega) ⟨by omega,next,?_⟩
   have e1:l++es.take (i+1)=l++es.take i++[e]:=by rw[H8,hx];simp
   rw[e1]
   exact(ai.re [1,0,2,3,4]).drop
  ·rw[if_neg (by omega)]
   have:i=es.length:=by omega
   subst this
   rw[F9] at ae
   exact(ae.re [2,0,1,3]).drop
 clear aa gm
 rintro⟨ci,⟨⟩⟩ h2 ae
 refine⟨_,rfl,some nd.nm,by rw[U3];exact(v8 qj ae.p1).2,?_⟩
 have qf:∀{h':Heap} {R':List Asn},sat h' (p8 (below N p)::R')↔sat h' (cells nd.b #[.map (some nd.qm),.map (some nd.nm)]::mapA A1b A1A nd.qm nd.q::mapA A9F B0A nd.nm nd.nx::Z9 (fun p:Path×Nd=>ndA p.2) (l1++l2)::R'):=by
  intro h' R'
  rw[he]
  exact⟨fun af=>B1A.1 (j5.1 af),fun af=>j5.2 (B1A.2 af)⟩
 have hk:=(A6J qj ae.p1).2
 have aj:sat h2 (mapA A9F B0A nd.nm nd.nx::J (l++es)::A::cells nd.b #[.map (some nd.qm),.map (some nd.nm)]::mapA A1b A1A nd.qm nd.q::Z9 (fun p:Path×Nd=>ndA p.2) (l1++l2)::R):=(qf.1 ae.p1).re [2,4,5,0,1,3]
 clear ae
 (try dsimp only);rw[U1]
 refine A83 aj fun it h3 ak=>?_
 clear aj
 refine l9 (γ:=List (B3O×C9N)×List (B3O×C9N)×List Ent) (hb:=fun s=>by
   repeat' with_reducible first
    |refine @A0r _ _ _ _ ?_ (fun _=>?_)
    |refine @B93 _ _ _ _ _ ?_ (fun _=>?_)
    |refine @A0Z _ _ _ _ ?_ ?_
    |refine @A1X _ _ _ ?_
   all_goals infer_instance)
  (fun g x h'=>(g.1++g.2.1).Perm nd.nx∧g.2.2.Perm (g.1.flatMap fun kv=>A1a (below N (p++[kv.1])))∧
   sat h' (itA A9F B0A nd.nm nd.nx it g.1 g.2.1::J (l++es++g.2.2)::A::cells nd.b #[.map (some nd.qm),.map (some nd.nm)]::mapA A1b A1A nd.qm nd.q::Z9 (fun p:Path×Nd=>ndA p.2) (l1++l2)::R))
  (fun g=>g.2.1.length) ([],nd.nx,[]) ⟨J3 _,J3 _,by simpa using ak⟩ ?_
 clear ak
 rintro⟨done,todo,L'⟩ ⟨⟩ h4 ⟨hp,hL,ak⟩
 simp only at hp hL ak
 rw[U1]
 refine B1z ak (fun h0=>?_) (fun kv t1 t2 ht h5 ai=>?_)
 ·subst h0
  (try dsimp only);rw[B9U,U9,if_neg (by simp)]
  simp only[D7,E8,V1]
  rw[C1] at hp
  refine hq (es++L') h4 ?_ ?_
  ·refine List.Perm.trans ?_ kT.symm
   exact(hL.trans (hp.flatMap_right _)).append_left es
  ·rw[←D2]
   have h5:=A9e ak
   exact qf.2 (h5.re [3,4,0,5,1,2])
 ·subst ht
  (try dsimp only);rw[B9T,U9,if_pos rfl]
  rw[U1]
  refine A9i (kk:=.one .str) (kv:=.one .ptr) (ek:=A9F) (ev:=B0A) (p:=kv) (x:=kv.1) (y:=kv.2) rfl rfl ai ?_
  have rK:kv∈nd.nx:=hp.mem_iff.1 (by simp)
  obtain⟨c,hc,lO⟩:=hT.down _ _ _ _ au (A2S hk rK)
  refine V5 ai fun mm h6 aw=>?_
  (try dsimp only);rw[U1]
  refine A5T (A:=A) (aM aw.p3).clip rfl (by omega) aw fun s8 h7 aK=>?_
  have cT:=B6y hT he kv.1
  have ah:=C4o he kv.1 cT
  have sT:L'.length+(A1a (below N (p++[kv.1]))).length≤(nd.nx.flatMap fun kv=>A1a (below N (p++[kv.1]))).length:=by
   have h8:=(hp.flatMap_right (fun kv=>A1a (below N (p++[kv.1])))).length_eq
   rw[I6,I6,D8,B5,B5,B5,←hL.length_eq] at h8
   omega
  have bw:sat h7 (p8 (below N (p++[kv.1]))::J (l++es++L')::star (U5 eS 1 s8 (p++[kv.1])) A::Z9 (fun p:Path×Nd=>ndA p.2) ((l1++l2).filter fun q=> !(preB (p++[kv.1]) q.1))::itA A9F B0A nd.nm nd.nx it (done++[kv]) (t1++t2)::cells nd.b #[.map (some nd.qm),.map (some nd.nm)]::mapA A1b A1A nd.qm nd.q::cells mm #[.string kv.1]::R):=by
   have h9:=aK.re [7,0,1,2,3,4,5,6]
   have fZ:=B13.1 (B6w (List.filter_append_perm (fun q:Path×Nd=>preB (p++[kv.1]) q.1) (l1++l2)).symm h9)
   rw[cT] at fZ
   have qZ:=sat.aI.2 (fZ.re [2,6,0,1,3,4,5,7,8])
   exact qZ.re [1,5,0,2,4,6,7,3]
  rw[lO]
  refine u9 (ih _ (by omega) (p++[kv.1]) c rfl hc (fun af=>(sat.aI.1 af).aO A1F) bw (by rw[B5,B5];omega) fun l' h8 gY ff=>⟨(),rfl,?_⟩)
  simp only[D7,E8,V1]
  refine .mk (done++[kv],t1++t2,L'++l') (by simp) ⟨?_,?_,?_⟩
  ·refine List.Perm.trans ?_ hp
   simp only[D2]
   refine Q4 done ?_
   show(kv::(t1++t2)).Perm _
   exact P8.symm
  ·show(L'++l').Perm ((done++[kv]).flatMap _)
   rw[I6,D8,H9,C1]
   exact hL.append gY
  ·show sat h8 (_::J (l++es++(L'++l'))::_)
   rw[←D2]
   have h9:=sat.aI.1 (ff.re [2,0,1])
   have fZ:sat h8 (Z9 (fun p:Path×Nd=>ndA p.2) (below N (p++[kv.1]))::Z9 (fun p:Path×Nd=>ndA p.2) ((l1++l2).filter fun q=> !(preB (p++[kv.1]) q.1))::itA A9F B0A nd.nm nd.nx it (done++[kv]) (t1++t2)::J (l++es++L'++l')::A::cells nd.b #[.map (some nd.qm),.map (some nd.nm)]::mapA A1b A1A nd.qm nd.q::R):=
    (h9.re [0,8,2,4,5,3,1,6,7]).drop.drop
   rw[←cT] at fZ
   have qZ:=B6w (List.filter_append_perm (fun q:Path×Nd=>preB (p++[kv.1]) q.1) (l1++l2)) (B13.2 fZ)
   exact qZ.re [1,2,3,4,5,0]
end Go.Proofs.YtidlldnlphdhcaaGreatDoor
namespace Go.H
open Go.Sort
section
variable {K V:Type} [DecidableEq K]
theorem A1C:∀{l:List (K×V)} {k:K},(l.map (·.1)).Nodup→mdel l k=l.filter fun p=>decide (p.1≠k)
 |[],_,_=>rfl
 |(a,b)::l,k,h=>by
  simp only[B6,F8] at h
  by_cases hk:a=k
  ·subst hk
   rw[mdel,if_pos rfl,G0 (by simp)]
   symm
   rw[G9]
   intro p hp
   simp only[ne_eq,decide_not,Bool.not_eq_eq_eq_not,N7,decide_eq_false_iff_not]
   rintro e
   exact h.1 (e▸B3 hp)
  ·rw[mdel,if_neg hk,G8 (by simpa using hk),A1C h.2]
theorem B2I:∀{l:List (K×V)} {k:K} {x:V},(mset l k x).Perm ((k,x)::mdel l k)
 |[],_,_=>J3 _
 |(a,b)::l,k,x=>by
  by_cases hk:a=k
  ·rw[mset,if_pos hk,mdel,if_pos hk]
  ·rw[mset,if_neg hk,mdel,if_neg hk]
   exact((B2I (l:=l)).cons _).trans (List.Perm.swap _ _ _)
theorem B1B{l:List (K×V)}(hn:(l.map (·.1)).Nodup){k:K}{v:V}:W3 l k=some v↔(k,v)∈l:=by
 constructor
 ·exact A38
 ·intro h
  induction l with
  |nil=>exact absurd h (by simp)
  |cons p l ih=>
   obtain⟨a,b⟩:=p
   simp only[B6,F8] at hn
   rw[Y4]
   rcases D3.1 h with e|h
   ·cases e;rw[if_pos rfl]
   ·rw[if_neg (fun e=>hn.1 (by subst e;exact B3 (f:=(·.1)) h)),ih hn.2 h]
variable (lt:K→K→Prop) [DecidableRel lt] (key:V→K)
def A2q(m:V):List V→List V
 |[]=>[m]
 |x::r=>if lt (key m) (key x) then m::x::r else x::A2q m r
theorem A1M(m:V):∀l:List V,(A2q lt key m l).Perm (m::l)
 |[]=>J3 _
 |x::r=>by
  unfold A2q
  split
  ·exact J3 _
  ·exact((A1M m r).cons _).trans (List.Perm.swap _ _ _)
structure Ord:Prop where
 eO:∀a,¬lt a a
 trans:∀{a b c},lt a b→lt b c→lt a c
 tri:∀a b,a=b∨lt a b∨lt b a
variable {lt key}
theorem B5H(ho:Ord lt){m:V}:∀{l:List V},l.Pairwise (fun a b=>lt (key a) (key b))→(∀x∈l,key x≠key m)→(A2q lt key m l).Pairwise (fun a b=>lt (key a) (key b))
 |[],_,_=>by simp[A2q]
 |x::r,h,hm=>by
  unfold A2q
  rw[I5] at h
  split
  ·rename_i ah
   rw[I5,I5]
   refine⟨fun y hy=>?_,h⟩
   rcases D3.1 hy with rfl|hy
   ·exact ah
   ·exact ho.trans ah (h.1 y hy)
  ·rename_i ah
   rw[I5]
   refine⟨fun y hy=>?_,B5H ho h.2 fun z hz=>hm z (C3 _ hz)⟩
   rcases D3.1 ((A1M lt key m r).mem_iff.1 hy) with rfl|hy
   ·rcases ho.tri (key x) (key y) with e|e|e
    ·exact absurd e (hm x (B4 ..))
    ·exact e
    ·exact absurd e ah
   ·exact h.1 y hy
variable (lt key)
structure Rel(l:List (K×V))(L:List V):Prop where
 kk:∀p∈l,key p.2=p.1
 nd:(l.map (·.1)).Nodup
 dE:L.Pairwise fun a b=>lt (key a) (key b)
 perm:(l.map (·.2)).Perm L
variable {lt key} {l:List (K×V)} {L:List V}
theorem Rel.nil:Rel lt key ([]:List (K×V)) []:=⟨by simp,by simp,by simp,by simp⟩
theorem Rel.len(h:Rel lt key l L):l.length=L.length:=by
 have:=h.perm.length_eq
 simpa using this
theorem Rel.mem(h:Rel lt key l L){k:K}{v:V}:(k,v)∈l↔v∈L∧key v=k:=by
 constructor
 ·intro hm
  exact⟨h.perm.mem_iff.1 (B3 (f:=(·.2)) hm),h.kk _ hm⟩
 ·rintro⟨hv,rfl⟩
  obtain⟨p,hp,rfl⟩:=E4.1 (h.perm.mem_iff.2 hv)
  have:=h.kk p hp
  rw[this]
  exact hp
theorem Rel.get(ho:Ord lt)(h:Rel lt key l L)(k:K):W3 l k=L.find? fun v=>decide (key v=k):=by
 have fy:=h.dE
 have hs:∀v,W3 l k=some v↔v∈L∧key v=k:=fun v=>(B1B h.nd).trans h.mem
 clear h
 have inj:∀{L:List V},L.Pairwise (fun a b=>lt (key a) (key b))→∀a∈L,∀b∈L,key a=key b→a=b:=by
  intro L hL
  induction L with
  |nil=>intro a ha;exact absurd ha (by simp)
  |cons x r ih=>
   rw[I5] at hL
   intro a ha b hb e
   rcases D3.1 ha with e1|i'
   ·rcases D3.1 hb with e2|qR
    ·rw[e1,e2]
    ·have:=hL.1 b qR;rw[←e1,e] at this;exact absurd this (ho.eO _)
   ·rcases D3.1 hb with e2|qR
    ·have:=hL.1 a i';rw[←e2,e] at this;exact absurd this (ho.eO _)
    ·exact ih hL.2 a i' b qR e
 cases hf:L.find? fun v=>decide (key v=k) with
 |none=>
  rw[E7] at hf
  cases hg:W3 l k with
  |none=>rfl
  |some v=>obtain⟨h1,h2⟩:=(hs v).1 hg;exact absurd h2 (by simpa using hf v h1)
 |some v=>
  rw[hs]
  exact⟨G7 hf,by simpa using N0 hf⟩
theorem Rel.del(h:Rel lt key l L)(k:K):Rel lt key (mdel l k) (L.filter fun v=>decide (key v≠k)):=by
 rw[A1C h.nd]
 refine⟨fun p hp=>h.kk p (D5.1 hp).1,((I2 (l:=l)).map _).nodup h.nd,h.dE.filter _,?_⟩
 have e:(l.filter fun p=>decide (p.1≠k)).map (·.2)=(l.map (·.2)).filter fun v=>decide (key v≠k):=by
  rw[R9]
  congr 1
  refine L8 fun p hp=>?_
  simp only[Function.comp_apply,h.kk p hp]
 rw[e]
 exact h.perm.filter _
theorem Rel.set(ho:Ord lt)(h:Rel lt key l L)(x:V):Rel lt key (mset l (key x) x) (A2q lt key x (L.filter fun v=>decide (key v≠key x))):=by
 have hd:=h.del (key x)
 have hp:=B2I (l:=l) (k:=key x) (x:=x)
 refine⟨fun p dp=>?_,?_,?_,?_⟩
 ·rcases D3.1 (hp.mem_iff.1 dp) with rfl|hm
  ·rfl
  ·exact hd.kk p hm
 ·rw[(hp.map (·.1)).nodup_iff,B6,F8]
  refine⟨fun hm=>?_,hd.nd⟩
  obtain⟨p,iQ,e⟩:=E4.1 hm
  rw[A1C h.nd] at iQ
  have:=(D5.1 iQ).2
  simp only[ne_eq,decide_not,Bool.not_eq_eq_eq_not,N7,decide_eq_false_iff_not] at this
  exact this e
 ·exact B5H ho hd.dE fun y hy=>by simpa using(D5.1 hy).2
 ·exact((hp.map (·.2)).trans ((List.Perm.cons _ hd.perm))).trans (A1M lt key x _).symm
theorem Rel.keys(h:Rel lt key l L):(l.map (·.1)).Perm (L.map key):=by
 have e:l.map (·.1)=(l.map (·.2)).map key:=by
  rw[F1]
  refine I0 fun p hp=>?_
  exact(h.kk p hp).symm
 rw[e]
 exact h.perm.map _
theorem Rel.fS(ho:Ord lt)(h:Rel lt key l L){v:V}(hv:v∈L):W3 l (key v)=some v:=
 (B1B h.nd).2 (h.mem.2 ⟨hv,rfl⟩)
end
def ltS(a b:B3O):Prop:=a.data.toList<b.data.toList
instance:DecidableRel ltS:=fun a b=>by unfold ltS;infer_instance
theorem C1v:Ord ltS where
 eO a:=List.lt_irrefl _
 trans h1 h2:=List.lt_trans h1 h2
 tri a b:=by
  unfold ltS
  by_cases h1:a.data.toList<b.data.toList
  ·exact .inr (.inl h1)
  ·by_cases h2:b.data.toList<a.data.toList
   ·exact .inr (.inr h2)
   ·left
    have:=List.le_antisymm (List.not_lt.1 h2) (List.not_lt.1 h1)
    cases a;cases b
    simp at this
    rw[this]
theorem toList_data(s:B3O):s.toList=s.data.toList:=by
 simp[ByteArray.toList_eq]
theorem B96(a b:B3O):Op.bytesLess a.toList b.toList=decide (ltS a b):=by
 rw[Go.Proofs.bytesLess_eq,toList_data,toList_data]
 rfl
theorem C3s{l l':List B3O}(hp:l.Perm l')(h:l'.Pairwise ltS):A5v l=l':=by
 unfold A5v
 rw[mergeSort_of_perm (hp.map (·.data.toList))]
 rw[List.mergeSort_of_pairwise]
 ·rw[F1]
  exact T5 _
 ·rw[P6]
  refine h.imp fun dv=>?_
  simpa using List.le_of_lt dv
theorem Rel.sorted{V:Type}{key:V→B3O}{l:List (B3O×V)}{L:List V}(h:Rel ltS key l L):A5v (l.map (·.1))=L.map key:=
 C3s h.keys (by rw[P6];exact h.dE)
end Go.H
namespace Go.Proofs.YtidlldnlphdhcaaGreatDoor
open Go.H
open Go.Proofs.Tryz
open Go.H Go.Proofs
abbrev b7(e:Ent):Int×B3O:=(e.1,e.2.1)
def ltK(a b:Int×B3O):Prop:=a.1<b.1∨(a.1=b.1∧ltS a.2 b.2)
instance:DecidableRel ltK:=fun a b=>by unfold ltK;infer_instance
theorem A9x:Ord ltK where
 eO a h:=by
  rcases h with h|h
  ·omega
  ·exact C1v.eO _ h.2
 trans {a b c} h1 h2:=by
  rcases h1 with h1|h1<;>rcases h2 with h2|h2
  ·exact .inl (by omega)
  ·exact .inl (by omega)
  ·exact .inl (by omega)
  ·exact .inr ⟨h1.1.trans h2.1,C1v.trans h1.2 h2.2⟩
 tri a b:=by
  by_cases h1:a.1<b.1
  ·exact .inr (.inl (.inl h1))
  ·by_cases h2:b.1<a.1
   ·exact .inr (.inr (.inl h2))
   ·have e:a.1=b.1:=by omega
    rcases C1v.tri a.2 b.2 with h|h|h
    ·exact .inl (Prod.ext e h)
    ·exact .inr (.inl (.inr ⟨e,h⟩))
    ·exact .inr (.inr (.inr ⟨e.symm,h⟩))
abbrev Asc(L:List Ent):Prop:=L.Pairwise fun a b=>ltK (b7 a) (b7 b)
theorem Asc.key{L:List Ent}(h:Asc L){a b:Ent}(ha:a∈L)(hb:b∈L)(e:b7 a=b7 b):a=b:=by
 induction L with
 |nil=>simp at ha
 |cons x L ih=>
  rw[Asc,I5] at h
  rcases D3.1 ha with e1|h1
  ·rcases D3.1 hb with e2|h2
   ·rw[e1,e2]
   ·have:=h.1 b h2;rw[←e1,e] at this;exact absurd this (A9x.eO _)
  ·rcases D3.1 hb with e2|h2
   ·have:=h.1 a h1;rw[←e2,e] at this;exact absurd this (A9x.eO _)
   ·exact ih h.2 h1 h2
theorem Asc.nodup{L:List Ent}(h:Asc L):L.Nodup:=h.imp fun dv e=>by subst e;exact A9x.eO _ dv
theorem C0N:∀{ys zs:List Ent},ys.Perm zs→Asc zs→ys.Pairwise (fun a b=>¬ltK (b7 b) (b7 a))→ys=zs
 |[],zs,hp,_,_=>(List.nil_perm.1 hp).symm
 |y::ys,[],hp,_,_=>absurd hp.length_eq (by simp)
 |y::ys,z::zs,hp,hz,hy=>by
  have oC:=I5.1 hz
  have pG:=I5.1 hy
  have e:y=z:=by
   rcases D3.1 (hp.mem_iff.1 (B4 ..)) with e|h1
   ·exact e
   ·rcases D3.1 (hp.mem_iff.2 (B4 ..)) with e|h2
    ·exact e.symm
    ·exact absurd (oC.1 y h1) (pG.1 z h2)
  subst e
  rw[C0N (List.Perm.cons_inv hp) oC.2 pG.2]
structure A03(N:Nds)(L:List Ent):Prop where
 bR:∀x∈L,X5 x.2.1=true
 dE:Asc L
 dG:∀p k q,ent N p k=some q↔∃f,levels f=p∧(k,f,q)∈L
theorem A7o{f f':B3O}(h:levels f=levels f'):f=f':=by rw[←A2W f,h,A2W]
theorem A03.get{N:Nds}{L:List Ent}(h:A03 N L)(f:B3O)(k q:Int):ent N (levels f) k=some q↔(k,f,q)∈L:=by
 rw[h.dG]
 constructor
 ·rintro⟨f',e,hm⟩
  rw[A7o e] at hm
  exact hm
 ·exact fun hm=>⟨f,rfl,hm⟩
theorem A03.none{N:Nds}{L:List Ent}(h:A03 N L)(f:B3O)(k:Int):ent N (levels f) k=none↔∀x∈L,b7 x≠(k,f):=by
 constructor
 ·intro hn x hx e
  have e1:x.1=k:=congrArg Prod.fst e
  have e2:x.2.1=f:=congrArg Prod.snd e
  have:(k,f,x.2.2)∈L:=by rw[←e1,←e2];exact hx
  rw[(h.get f k _).2 this] at hn
  cases hn
 ·intro hn
  cases he:ent N (levels f) k with
  |none=>rfl
  |some q=>exact absurd rfl (hn _ ((h.get f k q).1 he))
theorem A03.fP{N:Nds}{L:List Ent}(h:A03 N L)(hk:∀p nd,W3 N p=some nd→(nd.q.map (·.1)).Nodup):C2r N:=by
 intro p nd hp hq
 obtain⟨kv,r,hr⟩:=O1 hq
 have h1:W3 nd.q kv.1=some kv.2:=A2S (hk p nd hp) (by rw[hr];exact B4 ..)
 have h2:ent N p kv.1=some kv.2:=by unfold ent;rw[hp];exact h1
 obtain⟨f,hf,hm⟩:=(h.dG _ _ _).1 h2
 have hg:=h.bR _ hm
 subst hf
 refine⟨B2J f,?_⟩
 rw[A2W]
 have:=A3F (A0z hg)
 simp only at this
 omega
def A08(L:List Ent)(k:Int):Nat:=(L.map (·.1)).count k
def A95(C:List (Int×Int))(L:List Ent):Prop:=∀k,W3 C k=if A08 L k=0 then none else some (A08 L k:Int)
theorem A95.getD{C:List (Int×Int)}{L:List Ent}(h:A95 C L)(k:Int):(W3 C k).getD 0=(A08 L k:Int):=by
 rw[h k]
 split
 ·rename_i e;rw[e];rfl
 ·rfl
theorem A68{L:List Ent}{i:Nat}{x e:Ent}(hi:L[i]? =some x)(he:b7 x=b7 e):(L.set i e).map b7=L.map b7:=by
 rw[List.map_set]
 have h1:(L.map b7)[i]? =some (b7 e):=by rw[J2,hi];simp[he]
 apply List.ext_getElem?
 intro j
 rw[List.getElem?_set]
 by_cases e':i=j
 ·subst e'
  rw[if_pos rfl,h1]
  have:=(E0.1 h1).1
  rw[if_pos (by simpa using this)]
 ·rw[if_neg e']
theorem C5U{L L':List Ent}(h:(L'.map b7)=L.map b7)(k:Int):A08 L' k=A08 L k:=by
 unfold A08
 have:∀M:List Ent,M.map (·.1)=(M.map b7).map (·.1):=fun M=>by rw[F1];rfl
 rw[this,this,h]
theorem C0O{L L':List Ent}(h:(L'.map b7)=L.map b7)(ha:Asc L):Asc L':=by
 have h1:(L.map b7).Pairwise ltK:=by rw[P6];exact ha
 rw[←h,P6] at h1
 exact h1
theorem A03.set{N N':Nds}{L:List Ent}(h:A03 N L){i:Nat}{x:Ent}{k q:Int}{f:B3O}(hi:L[i]? =some x)(hx:b7 x=(k,f))(hf:X5 f=true)
  (hN:∀p' k',ent N' p' k'=if levels f=p'∧k=k' then some q else ent N p' k'):A03 N' (L.set i (k,f,q)) where
 bR:=by
  intro y hy
  rcases List.mem_or_eq_of_mem_set hy with hy|rfl
  ·exact h.bR y hy
  ·exact hf
 dE:=C0O (A68 hi hx) h.dE
 dG:=by
  have ah:=(E0.1 hi).1
  have uH:=E9 hi
  have an:∀y:Ent,y∈L.set i (k,f,q)↔y=(k,f,q)∨(y∈L∧b7 y≠(k,f)):=by
   intro y
   constructor
   ·intro hy
    by_cases e:y=(k,f,q)
    ·exact .inl e
    ·right
     have fX:y∈L:=by
      rcases List.mem_or_eq_of_mem_set hy with h|h
      ·exact h
      ·exact absurd h e
     refine⟨fX,fun ek=>?_⟩
     have hm:(k,f,q)∈L.set i (k,f,q):=List.mem_set ah _
     have fy:=C0O (A68 (e:=(k,f,q)) hi hx) h.dE
     exact e (fy.key hy hm ek)
   ·rintro(rfl|⟨hy,hk⟩)
    ·exact List.mem_set ah _
    ·obtain⟨j,hj⟩:=List.mem_iff_getElem?.1 hy
     have cg:i≠j:=fun e=>by
      subst e
      rw[hi] at hj
      cases hj
      exact hk hx
     exact E9 (i:=j) (by rw[List.getElem?_set,if_neg cg];exact hj)
  intro p k' q'
  rw[hN]
  by_cases e:levels f=p∧k=k'
  ·rw[if_pos e]
   obtain⟨rfl,rfl⟩:=e
   constructor
   ·intro h1
    cases h1
    exact⟨f,rfl,(an _).2 (.inl rfl)⟩
   ·rintro⟨f',e1,hm⟩
    have:=A7o e1
    subst this
    rcases(an _).1 hm with h1|⟨_,h2⟩
    ·have:q'=q:=congrArg (fun x:Ent=>x.2.2) h1
     rw[this]
    ·exact absurd rfl h2
  ·rw[if_neg e,h.dG]
   constructor
   ·rintro⟨f',e1,hm⟩
    refine⟨f',e1,(an _).2 (.inr ⟨hm,fun ek=>e ⟨?_,(congrArg Prod.fst ek).symm⟩⟩)⟩
    have:f'=f:=congrArg Prod.snd ek
    rw[←e1,this]
   ·rintro⟨f',e1,hm⟩
    rcases(an _).1 hm with h1|⟨h2,_⟩
    ·exfalso
     have e2:k'=k:=congrArg (fun x:Ent=>x.1) h1
     have e3:f'=f:=congrArg (fun x:Ent=>x.2.1) h1
     exact e ⟨by rw[←e1,e3],e2.symm⟩
    ·exact⟨f',e1,h2⟩
theorem A03.ins{N N':Nds}{L:List Ent}(h:A03 N L){k q:Int}{f:B3O}(ax:∀x∈L,b7 x≠(k,f))(hf:X5 f=true)
  (hN:∀p' k',ent N' p' k'=if levels f=p'∧k=k' then some q else ent N p' k'):A03 N' (A2q ltK b7 (k,f,q) L) where
 bR:=by
  intro y hy
  rcases D3.1 ((A1M ltK b7 _ L).mem_iff.1 hy) with rfl|hy
  ·exact hf
  ·exact h.bR y hy
 dE:=B5H A9x h.dE ax
 dG:=by
  have an:∀y:Ent,y∈A2q ltK b7 (k,f,q) L↔y=(k,f,q)∨y∈L:=fun y=>by rw[(A1M ltK b7 _ L).mem_iff,D3]
  intro p k' q'
  rw[hN]
  by_cases e:levels f=p∧k=k'
  ·rw[if_pos e]
   obtain⟨rfl,rfl⟩:=e
   constructor
   ·intro h1
    cases h1
    exact⟨f,rfl,(an _).2 (.inl rfl)⟩
   ·rintro⟨f',e1,hm⟩
    have:=A7o e1
    subst this
    rcases(an _).1 hm with h1|h2
    ·have:q'=q:=congrArg (fun x:Ent=>x.2.2) h1
     rw[this]
    ·exact absurd rfl (ax _ h2)
  ·rw[if_neg e,h.dG]
   constructor
   ·rintro⟨f',e1,hm⟩
    exact⟨f',e1,(an _).2 (.inr hm)⟩
   ·rintro⟨f',e1,hm⟩
    rcases(an _).1 hm with h1|h2
    ·exfalso
     have e2:k'=k:=congrArg (fun x:Ent=>x.1) h1
     have e3:f'=f:=congrArg (fun x:Ent=>x.2.1) h1
     exact e ⟨by rw[←e1,e3],e2.symm⟩
    ·exact⟨f',e1,h2⟩
def A1L(L:List Ent)(k:Int)(f:B3O):List Ent:=L.filter fun x=>decide (b7 x≠(k,f))
theorem A03.del{N N':Nds}{L:List Ent}(h:A03 N L){k:Int}{f:B3O}(hN:∀p' k',ent N' p' k'=if p'=levels f∧k'=k then Option.none else ent N p' k'):A03 N' (A1L L k f) where
 bR:=fun y hy=>h.bR y (D5.1 hy).1
 dE:=h.dE.filter _
 dG:=by
  intro p k' q'
  rw[hN]
  by_cases e:p=levels f∧k'=k
  ·rw[if_pos e]
   obtain⟨rfl,rfl⟩:=e
   constructor
   ·intro h1;cases h1
   ·rintro⟨f',e1,hm⟩
    have:=A7o e1
    subst this
    have:=(D5.1 hm).2
    simp at this
  ·rw[if_neg e,h.dG]
   constructor
   ·rintro⟨f',e1,hm⟩
    refine⟨f',e1,D5.2 ⟨hm,?_⟩⟩
    rw[decide_eq_true_eq]
    intro ek
    have e2:k'=k:=congrArg Prod.fst ek
    have e3:f'=f:=congrArg Prod.snd ek
    exact e ⟨by rw[←e1,e3],e2⟩
   ·rintro⟨f',e1,hm⟩
    exact⟨f',e1,(D5.1 hm).1⟩
theorem C6Z(L:List Ent)(e:Ent)(k:Int):A08 (A2q ltK b7 e L) k=A08 L k+if e.1=k then 1 else 0:=by
 unfold A08
 rw[((A1M ltK b7 e L).map (·.1)).count_eq,B6,List.count_cons]
 simp
theorem B9e{L:List Ent}(ha:Asc L){x:Ent}(hx:x∈L)(k:Int):A08 L k=A08 (A1L L x.1 x.2.1) k+if x.1=k then 1 else 0:=by
 obtain⟨l1,l2,rfl⟩:=H0 hx
 have h1:∀y∈l1++l2,b7 y≠b7 x:=by
  intro y hy e
  rw[Asc,I8,I5] at ha
  rcases C9.1 hy with h|h
  ·have:=ha.2.2 y h x (B4 ..);rw[e] at this;exact A9x.eO _ this
  ·have:=ha.2.1.1 y h;rw[e] at this;exact A9x.eO _ this
 have h2:A1L (l1++x::l2) x.1 x.2.1=l1++l2:=by
  unfold A1L
  rw[F3,H6,if_neg (by simp),←F3]
  exact G9.2 fun y hy=>by rw[decide_eq_true_eq];exact h1 y hy
 rw[h2]
 unfold A08
 rw[C0,B6,C0,List.count_append,List.count_append,List.count_cons]
 simp
 omega
theorem C4b{L:List Ent}{k:Int}{f:B3O}(h:∀x∈L,b7 x≠(k,f)):A1L L k f=L:=
 G9.2 fun y hy=>by rw[decide_eq_true_eq];exact h y hy
theorem A95.ins{C:List (Int×Int)}{L:List Ent}(h:A95 C L)(e:Ent):A95 (mset C e.1 ((A08 L e.1:Int)+1)) (A2q ltK b7 e L):=by
 intro k
 rw[j0,C6Z,h k]
 by_cases hk:e.1=k
 ·subst hk
  rw[if_pos rfl,if_pos rfl,if_neg (by omega)]
  simp
 ·rw[if_neg hk,if_neg hk,O7]
theorem A95.del{C:List (Int×Int)}{L:List Ent}(h:A95 C L)(ha:Asc L)(hn:(C.map (·.1)).Nodup){x:Ent}(hx:x∈L):
  A95 (if(A08 L x.1:Int)-1=0 then mdel C x.1 else mset C x.1 ((A08 L x.1:Int)-1)) (A1L L x.1 x.2.1):=by
 intro k
 have h1:=B9e ha hx k
 have h2:=B9e ha hx x.1
 rw[if_pos rfl] at h2
 by_cases hz:(A08 L x.1:Int)-1=0
 ·rw[if_pos hz,A2T hn]
  by_cases hk:x.1=k
  ·subst hk
   rw[if_pos rfl,if_pos (by omega)]
  ·rw[if_neg hk,h k]
   rw[if_neg hk] at h1
   rw[h1,O7]
 ·rw[if_neg hz,j0]
  by_cases hk:x.1=k
  ·subst hk
   rw[if_pos rfl,if_neg (by omega)]
   congr 1
   omega
  ·rw[if_neg hk,h k]
   rw[if_neg hk] at h1
   rw[h1,O7]
open Go.Proofs Go.Shelf Go.RowKit Go.Sort
def C4i:Go.Shelf.Ren:=⟨fun n=>match n with|106=>185|213=>227|265=>256|n=>n,fun n=>match n with|9=>9|3=>3|n=>n,fun n=>n⟩
theorem C89:Lays.n106 prog C4i where
 mixed:=by kernel_rfl
 f106:=func185.trans (congrArg some (by kernel_rfl))
 f213:=func227.trans (congrArg some (by kernel_rfl))
 f265:=func256.trans (congrArg some (by kernel_rfl))
 t3:=underlying3
 a3:=isAgg3
 z3:=sizeOf3
 v3:=zeroValue3
 t9:=underlying9
 a9:=isAgg9
 z9:=sizeOf9
 v9:=zeroValue9
def C4j:Go.Shelf.Ren:=⟨fun n=>match n with|5=>184|7=>218|n=>n,fun n=>match n with|22=>3|3=>3|4=>4|n=>n,fun n=>n⟩
theorem C9a:SlLaysC2.n5 prog C4j where
 mixed:=by kernel_rfl
 f5:=⟨f184.name,by kernel_rfl,func184.trans (congrArg some (by kernel_rfl))⟩
 f7:=⟨Tryz.f218.name,by kernel_rfl,func218.trans (congrArg some (by kernel_rfl))⟩
 t3:=underlying3
 a3:=isAgg3
 z3:=sizeOf3
 v3:=zeroValue3
 t4:=underlying4
 a4:=isAgg4
 z4:=sizeOf4
 v4:=zeroValue4
 t22:=underlying3
 a22:=isAgg3
 z22:=sizeOf3
 v22:=zeroValue3
theorem C8k(b:Nat)(x y:Int)(w:World)(h0:w.cell? ⟨b,0,none⟩=some (.int .i64 x))(h1:w.cell? ⟨b,1,none⟩=some (.int .i64 y)):
  Calls prog 183 #[.slice (some ⟨b,0,none⟩) 2 2] w fun e w'=>e=.returned (.int .i64 (if x=0 then y else x))∧w'=w:=by
 generalize hr:(if x=0 then y else x)=r
 go_enter func183,ntmps183
 go_wp2
 go_loop [5,8] (fun _ i=>(i=.int .i64 0)∨(i=.int .i64 1∧x=0)∨(i=.int .i64 2∧x=0∧y=0)) (fun _ i=>2-(intOf i).toNat)
 case atStart=>exact .inl rfl
 case round=>
  rcases hrel with rfl|⟨rfl,hx⟩|⟨rfl,hx,hy⟩
  ·by_cases hx:x=0
   ·subst hx
    go_wp2
    go_round
    case rel=>exact .inr (.inl ⟨by go_num,by first|trivial|rfl⟩)
    case measure=>simp[intOf]
   ·have dQ:(x==0)=false:=by simpa using hx
    have iC:(x !=0)=true:=by simpa using hx
    go_wp2
    go_ret
    rw[if_neg hx] at hr
    subst hr
    exact⟨rfl,rfl⟩
  ·by_cases hy:y=0
   ·subst hy
    go_wp2
    go_round
    case rel=>exact .inr (.inr ⟨by go_num,hx,by first|trivial|rfl⟩)
    case measure=>simp[intOf]
   ·have pG:(y==0)=false:=by simpa using hy
    have fX:(y !=0)=true:=by simpa using hy
    go_wp2
    go_ret
    rw[if_pos hx] at hr
    subst hr
    exact⟨rfl,rfl⟩
  ·go_wp2
   go_ret
   rw[if_pos hx,hy] at hr
   subst hr
   exact⟨rfl,rfl⟩
theorem C8L(W:World)(c1 c2:Obj):((W.alloc c1).alloc c2).heap[W.heap.size]? =some c1:=by
 show((W.heap.push c1).push c2)[W.heap.size]? =some c1
 rw[N4,if_neg (by simp),N4,if_pos rfl]
theorem C8K(W:World)(c1 c2:Obj):((W.alloc c1).alloc c2).heap[W.heap.size+1]? =some c2:=by
 show((W.heap.push c1).push c2)[W.heap.size+1]? =some c2
 rw[N4,if_pos (by simp)]
theorem C8O(W:World)(c1:Obj):(W.alloc c1).heap[W.heap.size]? =some c1:=by
 show(W.heap.push c1)[W.heap.size]? =some c1
 rw[N4,if_pos rfl]
theorem A9m{w:World}{b:Nat}{cs:C9O}{t:TypeId}{f:Nat×Nat}(h:w.heap[b]? =some (.cells cs t f))(j:Nat):w.cell? ⟨b,j,none⟩=cs[j]? :=by
 unfold World.cell?
 simp only
 rw[h]
 rfl
def C4k(x y:Int×B3O×Int):Int:=if Lib.compareInt x.1 y.1=0 then Lib.compareBytes x.2.1.data.toList y.2.1.data.toList else Lib.compareInt x.1 y.1
theorem C7O(x y:Int×B3O×Int)(W:World):Calls prog 127 #[.agg #[.int .i64 x.1,.string x.2.1,.int .i64 x.2.2],.agg #[.int .i64 y.1,.string y.2.1,.int .i64 y.2.2]] W fun e w'=>e=.returned (.int .i64 (C4k x y))∧∃q os',w'=grow (W.drewN q) os':=by
 have hI:=fun W'=>AnyG.cmp_Compare_int C9a x.1 y.1 W'
 have hS:=fun W'=>Any.strings_Compare C89 x.2.1 y.2.1 W'
 change ∀W',Calls prog 184 _ _ _ at hI
 change ∀W',Calls prog 185 _ _ _ at hS
 unfold C4k
 generalize Lib.compareInt x.1 y.1=r1 at hI⊢
 generalize Lib.compareBytes x.2.1.data.toList y.2.1.data.toList=r2 at hS⊢
 have hO:=fun b w=>C8k b r1 r2 w
 generalize(if r1=0 then r2 else r1)=r at hO⊢
 obtain⟨x1,x2,x3⟩:=x
 obtain⟨y1,y2,y3⟩:=y
 go_enter func127,ntmps127
 go_wp2_with fail
 obtain⟨W1,oW⟩:∃W1,(W.alloc (.cells #[.int .i64 x1,.string x2,.int .i64 x3] 208)).alloc (.cells #[.int .i64 y1,.string y2,.int .i64 y3] 208)=W1:=⟨_,rfl⟩
 obtain⟨A,hA⟩:∃A,W.heap.size=A:=⟨_,rfl⟩
 obtain⟨B,hB⟩:∃B,W.heap.size+1=B:=⟨_,rfl⟩
 rw[oW,hB,hA]
 refine wp_region_still_tail 10 (by kernel_rfl) (by kernel_rfl) ?_
 obtain⟨W2,oV⟩:∃W2,{W1 with drawn:=W1.drawn+1}=W2:=⟨_,rfl⟩
 rw[oV]
 have d0:W2.cell? ⟨A,0,none⟩=some (.int .i64 x1):=by
  refine(A9m (w:=W2) (b:=A) (by rw[←oV,←oW,←hA];exact C8L _ _ _) _).trans rfl
 have d1:W2.cell? ⟨A,1,none⟩=some (.string x2):=by
  refine(A9m (w:=W2) (b:=A) (by rw[←oV,←oW,←hA];exact C8L _ _ _) _).trans rfl
 have e0:W2.cell? ⟨B,0,none⟩=some (.int .i64 y1):=by
  refine(A9m (w:=W2) (b:=B) (by rw[←oV,←oW,←hB];exact C8K _ _ _) _).trans rfl
 have e1:W2.cell? ⟨B,1,none⟩=some (.string y2):=by
  refine(A9m (w:=W2) (b:=B) (by rw[←oV,←oW,←hB];exact C8K _ _ _) _).trans rfl
 simp only[List.take_succ_cons,List.take_zero,List.drop_succ_cons,S4]
 repeat still_step
 still_call (hI _)
 repeat still_step
 still_call (hS _)
 refine wpStill_nil ?_
 go_wp2_with (go_at_call 183;refine(hO _ _ ((A9m (C8O _ _) 0).trans rfl) ((A9m (C8O _ _) 1).trans rfl)).mono ?_;rintro e w' ⟨rfl,rfl⟩)
 go_ret
 refine⟨rfl,1,#[.cells #[.int .i64 x1,.string x2,.int .i64 x3] 208]++#[.cells #[.int .i64 y1,.string y2,.int .i64 y3] 208]++#[.cells #[.int .i64 r1,.int .i64 r2] 3],?_⟩
 rw[←oV,←oW]
 unfold grow World.drewN World.alloc
 simp only[World.mk.injEq,true_and,and_true]
 apply Array.ext'
 simp
end Go.Proofs.YtidlldnlphdhcaaGreatDoor
namespace Go.H
open Go.RowKit Go.Sort Go.Shelf Go.Proofs
section
variable {α:Type} [Inhabited α] {enc:α→C9P} {size:Nat} {h:Heap} {R:List Asn}
theorem C0o(ao:∀x,(enc x).length=size)(hsz:0<size)(d:Array α):flatK enc size d=(d.toList.flatMap enc).toArray:=by
 apply Array.ext_getElem?
 intro t
 have hlen:(d.toList.flatMap enc).length=d.size*size:=by rw[y5 ao];simp
 by_cases ht:t<d.size*size
 ·have hq:t / size<d.size:=by rw[Nat.div_lt_iff_lt_mul hsz];exact ht
  have hr:t % size<size:=Nat.mod_lt _ hsz
  have h1:=get_flatK enc size d t ht
  rw[getElem!_pos _ t (by simpa using ht)] at h1
  have hx:d.toList[t / size]? =some d[t / size]:=by simp[hq]
  have hv:(enc d[t / size])[t % size]? =some ((enc d[t / size])[t % size]!):=by
   rw[B0 (by rw[ao];exact hr),getElem!_pos _ _ (by rw[ao];exact hr)]
  have h2:=B5P ao d.toList _ _ hx _ _ hv
  rw[show t / size*size+t % size=t from by rw[Nat.mul_comm];exact Nat.div_add_mod t size] at h2
  rw[F5 (by simpa using ht),h1,List.getElem?_toArray,h2,getElem!_pos d _ hq]
 ·rw[R5 (by simp;omega),List.getElem?_toArray,List.getElem?_eq_none (by omega)]
theorem C4P(ao:∀x,(enc x).length=size)(hsz:0<size)(h1:∀x,∀v∈enc x,v.oneCell'=true){P:Program}{ρ:Ren}(L:SlLaysF0.n6 P ρ)(aE:∀w,(isAgg (ρ.t 24)).run P w=.ok true w)(zE:∀w,(Go.sizeOf (ρ.t 24)).run P w=.ok size w)
  (cf:α→α→Int)(hO:SWO (ltOf cf))(g:Nat)(eg:∀args w,(callFunc g args).run P w=.ok (.enter g args) w)
  (uc:∀x y W,Calls P g #[.agg (enc x).toArray,.agg (enc y).toArray] W fun e w'=>e=.returned (.int .i64 (cf x y))∧∃q os',w'=grow (W.drewN q) os')
  {s:Slc}{xs:List α}(hs:sat h (U5 enc size s xs::R))(hl:xs.length<4611686018427387904){Q:Value→Heap→Prop}
  (hq:∀(ys:List α) h',ys.Perm xs→ys.Pairwise (fun a b=>ltOf cf b a=false)→sat h' (U5 enc size s ys::R)→Q (.tuple #[]) h'):
  V3 P (ρ.f 6) #[.slice s.a s.len s.cap,.func (.func g) #[] #[]] h Q:=fun w hw=>by
 subst hw
 rcases A1E hs with⟨g1,g2,rfl,aa⟩|⟨b,o,cs,ho,aa⟩
 ·have dT:=hs.aW
  rw[H2] at dT
  rw[dT]
  refine(AnyF.slices_SortFunc_none L s.a s.cap _ w).mono ?_
  rintro e w' ⟨rfl,rfl⟩
  exact⟨_,rfl,⟨rfl,rfl,rfl⟩,hq [] w'.heap (J3 _) List.Pairwise.nil hs⟩
 ·have hlen:=ho.len
  have gv:=ho.dP
  have hle:=ho.le
  have hmul:s.len*size≤s.cap*size:=Q7 _ hle
  rw[J8] at gv
  have hF:flatK enc size xs.toArray=(xs.flatMap enc).toArray:=C0o ao hsz _
  have gH:(xs.flatMap enc).length=s.len*size:=by rw[y5 ao,hlen]
  have hH:HoldsK enc size w b (o*size) xs.toArray:=by
   unfold HoldsK Holds
   rw[hF]
   intro j hj
   have qq:j<s.len*size:=by simpa[gH] using hj
   refine⟨?_,aa.free _⟩
   have h2:w.cell? ⟨b,o*size+j,none⟩=cs[o*size+j]? :=aa.cell _
   have h3:((cs.toList.drop (o*size)).take (s.len*size))[j]? =cs[o*size+j]? :=by
    rw[M0,if_pos qq,N8]
    simp
   rw[h2,←h3,ho.front,getElem!_pos _ j hj]
   rw[B0 (by simpa using hj)]
   rfl
  have hblk:b<w.heap.size:=aa.fC
  rw[ho.a]
  have cW:(Value.slice (some ⟨b,o*size,none⟩) s.len s.cap)=.slice (some ⟨b,o*size,none⟩) xs.toArray.size s.cap:=by rw[hlen];rfl
  rw[cW]
  refine(AnyQ.slices_SortFunc L size aE zE enc ao h1 cf hO g #[] b (o*size) s.cap xs.toArray w eg (fun m os dk _ x y=>uc x y _) hH hblk (by simpa using hl)).mono ?_
  rintro e w' ⟨rfl,d',n,os,⟨gV,-,kT⟩,sU,rfl⟩
  have dB:d'.toList.Perm xs:=by
   rw[Array.extract_eq_self_of_le (by omega),Array.extract_eq_self_of_le (by omega)] at kT
   exact kT
  refine⟨_,rfl,⟨rfl,rfl,rfl⟩,hq d'.toList _ dB ?_ ?_⟩
  ·rw[Q5]
   intro i j hi hj kY
   have kg:i<d'.size:=by simpa using hi
   have qq:j<d'.size:=by simpa using hj
   have:=sU i j (D1 _) kY (by omega)
   rw[getElem!_pos d' i kg,getElem!_pos d' j qq] at this
   simpa using this
  ·have xV:flatK enc size d'=(d'.toList.flatMap enc).toArray:=C0o ao hsz _
   have jH:(d'.toList.flatMap enc).length=s.len*size:=by rw[y5 ao,hlen,dB.length_eq]
   obtain⟨T,hb⟩:=A2l.1 aa
   have bt:=hb.get
   have ae:sat (putRowK enc size (Sort.ahead w n) b (o*size) d').heap (blk b (.cells (putCells id (o*size) (flatK enc size d') cs) T (0,0))::R):=by
    refine hb.bG ?_ fun k hk=>?_
    ·show(w.heap.modify b _)[b]? =_
     rw[O6,if_pos rfl,bt]
     rfl
    ·show(w.heap.modify b _)[k]? =_
     rw[O6,if_neg (fun e=>hk e.symm)]
   have aj:sat (sortWorldK enc size w b (o*size) n d' os).heap (blk b (.cells (putCells id (o*size) (flatK enc size d') cs) T (0,0))::R):=by
    refine ae.grow fun k ob hk=>?_
    show((putRowK enc size (Sort.ahead w n) b (o*size) d').heap++os)[k]? =some ob
    rw[Array.getElem?_append_left (F7.1 hk).1]
    exact hk
   refine A1D (b:=b) (o:=o) ⟨ho.a,ho.le,by rw[hlen,dB.length_eq],?_,?_⟩ (A2l.2 ⟨T,aj⟩)
   ·rw[J8]
    simpa[putCells] using gv
   ·rw[xV]
    apply List.ext_getElem?
    intro j
    by_cases hj:j<s.len*size
    ·rw[M0,if_pos hj,N8,Array.getElem?_toList,putCells,Array.getElem?_mapIdx]
     have ah:o*size+j<cs.size:=by omega
     rw[F5 ah]
     simp only[R8]
     rw[if_pos ⟨by omega,by simp[jH];omega⟩,Nat.add_sub_cancel_left]
     rw[getElem!_pos _ j (by simpa[jH] using hj),B0 (by omega)]
     rfl
    ·rw[M0,if_neg hj,List.getElem?_eq_none (by omega)]
end
end Go.H
namespace Go.Proofs.YtidlldnlphdhcaaGreatDoor
open Go.H
open Go.Proofs.Tryz
open Go.H Go.Proofs Go.Shelf Go.Sort
def C1b:Go.Shelf.Ren:=⟨fun n=>match n with|6=>126|15=>123|14=>182|28=>180|29=>181|20=>219|21=>220|22=>221|23=>222|24=>223|25=>224|26=>225|27=>226|46=>253|47=>214|48=>215|49=>254|50=>255|57=>268|n=>n,fun n=>match n with|22=>205|24=>208|25=>267|3=>3|39=>263|0=>0|53=>315|55=>317|4=>4|46=>308|45=>307|50=>180|5=>5|9=>9|66=>343|70=>347|76=>378|77=>361|n=>n,fun n=>n⟩
theorem C7E:SlLaysF0.n6 prog C1b where
 mixed:=by kernel_rfl
 f6:=⟨f126.name,by kernel_rfl,func126.trans (congrArg some (by kernel_rfl))⟩
 f14:=⟨f182.name,by kernel_rfl,func182.trans (congrArg some (by kernel_rfl))⟩
 f15:=func123.trans (congrArg some (by kernel_rfl))
 f20:=⟨Tryz.f219.name,by kernel_rfl,func219.trans (congrArg some (by kernel_rfl))⟩
 f21:=⟨f220.name,by kernel_rfl,func220.trans (congrArg some (by kernel_rfl))⟩
 f22:=⟨Tryz.f221.name,by kernel_rfl,func221.trans (congrArg some (by kernel_rfl))⟩
 f23:=⟨f222.name,by kernel_rfl,func222.trans (congrArg some (by kernel_rfl))⟩
 f24:=⟨f223.name,by kernel_rfl,func223.trans (congrArg some (by kernel_rfl))⟩
 f25:=⟨Tryz.f224.name,by kernel_rfl,func224.trans (congrArg some (by kernel_rfl))⟩
 f26:=⟨Tryz.f225.name,by kernel_rfl,func225.trans (congrArg some (by kernel_rfl))⟩
 f27:=⟨f226.name,by kernel_rfl,func226.trans (congrArg some (by kernel_rfl))⟩
 f28:=func180.trans (congrArg some (by kernel_rfl))
 f29:=func181.trans (congrArg some (by kernel_rfl))
 f46:=⟨f253.name,by kernel_rfl,func253.trans (congrArg some (by kernel_rfl))⟩
 f47:=func214.trans (congrArg some (by kernel_rfl))
 f48:=func215.trans (congrArg some (by kernel_rfl))
 f49:=⟨f254.name,by kernel_rfl,func254.trans (congrArg some (by kernel_rfl))⟩
 f50:=⟨f255.name,by kernel_rfl,func255.trans (congrArg some (by kernel_rfl))⟩
 f57:=⟨Tryz.f268.name,by kernel_rfl,func268.trans (congrArg some (by kernel_rfl))⟩
 t0:=underlying0
 a0:=isAgg0
 z0:=sizeOf0
 v0:=zeroValue0
 t3:=underlying3
 a3:=isAgg3
 z3:=sizeOf3
 v3:=zeroValue3
 t4:=underlying4
 a4:=isAgg4
 z4:=sizeOf4
 v4:=zeroValue4
 t5:=underlying5
 a5:=isAgg5
 z5:=sizeOf5
 v5:=zeroValue5
 t9:=underlying9
 a9:=isAgg9
 z9:=sizeOf9
 v9:=zeroValue9
 t22:=underlying205
 a22:=isAgg205
 z22:=sizeOf205
 v22:=zeroValue205
 t25:=underlying267
 a25:=isAgg267
 z25:=sizeOf267
 v25:=zeroValue267
 t39:=underlying263
 a39:=isAgg263
 z39:=sizeOf263
 v39:=zeroValue263
 t45:=underlying307
 a45:=isAgg307
 z45:=sizeOf307
 v45:=zeroValue307
 t46:=underlying308
 a46:=isAgg308
 z46:=sizeOf308
 v46:=zeroValue308
 t50:=underlying180
 a50:=isAgg180
 z50:=sizeOf180
 v50:=zeroValue180
 t53:=underlying315
 a53:=isAgg315
 z53:=sizeOf315
 v53:=zeroValue315
 t55:=underlying317
 a55:=isAgg317
 z55:=sizeOf317
 v55:=zeroValue317
 t66:=underlying343
 a66:=isAgg343
 z66:=sizeOf343
 v66:=zeroValue343
 t70:=underlying347
 a70:=isAgg347
 z70:=sizeOf347
 v70:=zeroValue347
 t76:=underlying378
 a76:=isAgg378
 z76:=sizeOf378
 v76:=zeroValue378
 t77:=underlying361
 a77:=isAgg361
 z77:=sizeOf361
 v77:=zeroValue361
theorem C2f(a b:Int):(Lib.compareInt a b<0↔a<b)∧(Lib.compareInt a b=0↔a=b):=by
 unfold Lib.compareInt
 by_cases h1:a<b
 ·rw[if_pos h1];constructor<;>constructor<;>intro _<;>omega
 ·rw[if_neg h1]
  by_cases h2:b<a
  ·rw[if_pos h2];constructor<;>constructor<;>intro _<;>omega
  ·rw[if_neg h2];constructor<;>constructor<;>intro _<;>omega
theorem C25:∀(a b:List UInt8),Lib.compareBytes a b<0↔a<b
 |[],[]=>by simp[Lib.compareBytes]
 |[],b::l=>by simp[Lib.compareBytes]
 |a::l,[]=>by simp[Lib.compareBytes]
 |a::l,b::m=>by
  unfold Lib.compareBytes
  rw[List.cons_lt_cons_iff]
  by_cases h1:a<b
  ·simp[h1]
  ·rw[if_neg h1]
   by_cases h2:b<a
   ·rw[if_pos h2]
    have:a≠b:=fun e=>by subst e;exact h1 h2
    simp[h1,this]
   ·rw[if_neg h2]
    have e:a=b:=by
     apply UInt8.toNat_inj.1
     have h3:¬a.toNat<b.toNat:=fun h=>h1 (UInt8.lt_iff_toNat_lt.2 h)
     have h4:¬b.toNat<a.toNat:=fun h=>h2 (UInt8.lt_iff_toNat_lt.2 h)
     omega
    rw[C25 l m]
    simp[h1,e]
theorem B4z(x y:Ent):ltOf C4k x y=decide (ltK (b7 x) (b7 y)):=by
 unfold ltOf
 rw[G6]
 unfold C4k ltK
 have h1:=C2f x.1 y.1
 by_cases h0:Lib.compareInt x.1 y.1=0
 ·rw[if_pos h0,C25]
  have e:=h1.2.1 h0
  constructor
  ·intro h;exact .inr ⟨e,h⟩
  ·rintro(h|⟨_,h⟩)
   ·simp only at h;omega
   ·exact h
 ·rw[if_neg h0,h1.1]
  constructor
  ·intro h;exact .inl h
  ·rintro(h|⟨e,_⟩)
   ·exact h
   ·exact absurd (h1.2.2 e) h0
theorem C9A:SWO (ltOf C4k) where
 irrefl x:=by rw[B4z];simpa using A9x.eO _
 trans x y z h1 h2:=by
  rw[B4z,decide_eq_true_eq] at*
  exact A9x.trans h1 h2
 ntrans x y z h1 h2:=by
  rw[B4z,decide_eq_false_iff_not] at*
  intro h3
  rcases A9x.tri (b7 x) (b7 y) with e|e|e
  ·rw[e] at h3;exact h2 h3
  ·exact h1 e
  ·rcases A9x.tri (b7 y) (b7 z) with e'|e'|e'
   ·rw[e'] at e;exact A9x.eO _ (A9x.trans e h3)
   ·exact h2 e'
   ·exact A9x.eO _ (A9x.trans (A9x.trans e' e) h3)
instance:Inhabited Ent:=⟨(0,ByteArray.mk #[],0)⟩
theorem B6G{h:Heap}{R:List Asn}{s:Slc}{es:List Ent}(hs:sat h (U5 Z8 3 s es::R))(hl:es.length≤100000){Q:Value→Heap→Prop}
  (hq:∀(ys:List Ent) h',ys.Perm es→ys.Pairwise (fun a b=>¬ltK (b7 b) (b7 a))→sat h' (U5 Z8 3 s ys::R)→Q (.tuple #[]) h'):
  V3 prog 126 #[.slice s.a s.len s.cap,.func (.func 127) #[] #[]] h Q:=
 C4P A0P (by decide) A3Y C7E isAgg208 sizeOf208 C4k C9A 127 (enters_of func127 (by kernel_rfl) rfl) (fun x y W=>C7O x y W) hs (by omega) fun ys h' hp rF af=>
  hq ys h' hp (rF.imp fun{a b} dv=>by rw[B4z,decide_eq_false_iff_not] at dv;exact dv) af
end Go.Proofs.YtidlldnlphdhcaaGreatDoor