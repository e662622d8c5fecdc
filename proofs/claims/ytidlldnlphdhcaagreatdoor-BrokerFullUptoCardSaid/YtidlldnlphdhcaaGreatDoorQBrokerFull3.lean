/-
  Our texts, packed by program.
-/
import Derived.Test.YtidlldnlphdhcaaGreatDoorQBrokerFull2
import Derived.Lib.Split
import Derived.Lib.SplitLaws
import Derived.Lib.IndexBytes
import Derived.Shelf.Strings.Split
import Derived.Shelf.Strings.Count
import Derived.Shelf.SlIterI.Nil
import Derived.Shelf.SortM.Plain
import Derived.Shelf.SortM.SortNone
import Derived.Shelf.SlIter.Nil
import Derived.Test.YtidlldnlphdhcaaGreatDoorRows
import Derived.Test.YtidlldnlphdhcaaGreatDoorChecked
import Derived.Shelf.Vars
import Derived.ProofKit
import Derived.LaidMore
import Derived.LaidHandle
import Derived.Stop.Joined
import Derived.Lib.LaidU8T
import Derived.PinnedBridge
import Derived.Shelf.Strings.OnBuilder
import Derived.Sort.Walk0
import Derived.WalkKit
import Derived.StillTailTactics
import Derived.Deep.QuietTactic
import Derived.Shelf.SlicesG.Cmp
import Derived.Shelf.Small.Strs
import Derived.Sort.Row
import Derived.Sort.Grow
import Derived.Shelf.SlSortCmp.NoneTotal
set_option linter.unusedSectionVars false
set_option linter.unusedSimpArgs false
set_option linter.unusedVariables false
set_option maxHeartbeats 16000000
set_option maxRecDepth 100000
set_option synthInstance.maxSize 100000
set_option synthInstance.maxHeartbeats 400000
namespace Go.Proofs.YtidlldnlphdhcaaGreatDoor
open Go.H
open Go.Proofs.Tryz
open Go.H Go.Proofs Go.Lib
theorem B3R(c:UInt8):∀(x r:List UInt8),c∉x→indexByte (x++c::r) c=x.length
 |[],r,_=>by simp[indexByte]
 |b::x,r,h=>by
  simp only[D7,not_or] at h
  have hb:(b==c)=false:=by simpa using fun e=>h.1 e.symm
  have ih:=B3R c x r h.2
  simp only[G4,indexByte,hb,ih]
  have:¬(((x.length:Nat):Int)== -1)=true:=by simp
  simp only[H6,if_false,if_neg this,B7]
  omega
theorem B1N(c:UInt8):∀(x:List UInt8),c∉x→indexByte x c= -1
 |[],_=>rfl
 |b::x,h=>by
  simp only[D7,not_or] at h
  have hb:(b==c)=false:=by simpa using fun e=>h.1 e.symm
  simp[indexByte,hb,B1N c x h.2]
theorem C67(c:UInt8)(x r:List UInt8)(h:c∉x):index (x++c::r) [c]=x.length:=by rw[index_one];exact B3R c x r h
theorem C5d(c:UInt8)(x:List UInt8)(h:c∉x):index x [c]= -1:=by rw[index_one];exact B1N c x h
theorem B9y(c:UInt8)(x r:List UInt8)(k:Nat)(h:c∉x):splitK [c] 0 (k+1) (x++c::r)=x::splitK [c] 0 k r:=by
 have hi:=C67 c x r h
 have hn:¬(index (x++c::r) [c]== -1)=true:=by rw[hi];simp
 simp only[splitK,if_neg hn,hi]
 congr 1
 all_goals simp
theorem B8g(c:UInt8)(x:List UInt8)(k:Nat)(h:c∉x):splitK [c] 0 k x=[x]:=by
 cases k with
 |zero=>rfl
 |succ k=>simp[splitK,C5d c x h]
theorem C0E(c:UInt8)(x r:List UInt8)(h:c∉x):count (x++c::r) [c]=1+count r [c]:=by
 rw[count_hit (by simp) (C67 c x r h)]
 simp
theorem B9d(c:UInt8)(x:List UInt8)(h:c∉x):count x [c]=0:=count_miss (C5d c x h)
def lev(c:UInt8):List UInt8→List UInt8→List (List UInt8)
 |x,[]=>[x]
 |x,b::r=>if b=c then x::lev c [] r else lev c (x++[b]) r
theorem B2M(c:UInt8):∀(r x:List UInt8),c∉x→splitK [c] 0 (count (x++r) [c]) (x++r)=lev c x r
 |[],x,h=>by
  rw[C1,B9d c x h,B8g c x _ h]
  rfl
 |b::r,x,h=>by
  by_cases hb:b=c
  ·subst hb
   rw[C0E b x r h,Nat.add_comm,B9y b x r _ h]
   have ih:=B2M b r [] (by simp)
   rw[F2] at ih
   rw[ih]
   simp[lev]
  ·have ih:=B2M c r (x++[b]) (by simp[h,Ne.symm hb])
   rw[D4] at ih
   simp only[lev,if_neg hb]
   exact ih
theorem B4A(c:UInt8):∀(r x:List UInt8),(lev c x r).length=r.count c+1
 |[],x=>rfl
 |b::r,x=>by
  by_cases hb:b=c
  ·subst hb
   simp only[lev,if_pos,B7,List.count_cons_self,B4A b r []]
  ·simp only[lev,if_neg hb,B4A c r (x++[b]),List.count_cons_of_ne hb]
theorem data_inj{x y:B3O}(h:x.data.toList=y.data.toList):x=y:=by
 cases x;cases y
 simp at h
 rw[h]
theorem A7h:∀{xs ys:List B3O},xs.map (·.data.toList)=ys.map (·.data.toList)→xs=ys
 |[],[],_=>rfl
 |[],_::_,h=>by simp at h
 |_::_,[],h=>by simp at h
 |x::xs,y::ys,h=>by
  simp only[B6,List.cons.injEq] at h
  rw[data_inj h.1,A7h h.2]
def A9H:B3O:=ByteArray.mk #[47]
def levels(s:B3O):List B3O:=splitB A9H 0 (countB s A9H) s
theorem A2P(s:B3O):(levels s).map (·.data.toList)=lev 47 [] s.data.toList:=by
 unfold levels
 rw[splitB_data]
 exact B2M 47 s.data.toList [] (by simp)
theorem A7j(s:B3O):(levels s).length=s.data.toList.count 47+1:=by
 have:=congrArg List.length (A2P s)
 rw[B9,B4A] at this
 exact this
theorem B2L(s:B3O):levels s≠[]:=fun h=>by
 have:=A7j s
 rw[h] at this
 simp at this
theorem C1E(c:UInt8):∀(r x:List UInt8),∀y∈lev c x r,y.length≤x.length+r.length
 |[],x,y,h=>by rw[C0.1 h];simp
 |b::r,x,y,h=>by
  unfold lev at h
  split at h
  ·rcases D7.1 h with rfl|h
   ·simp
   ·have:=C1E c r [] y h
    simp at this⊢
    omega
  ·have:=C1E c r (x++[b]) y h
   simp at this⊢
   omega
theorem C3R{s x:B3O}(h:x∈levels s):x.size≤s.size:=by
 have h1:x.data.toList∈lev 47 [] s.data.toList:=by rw[←A2P];exact B3 h
 have:=C1E 47 _ _ _ h1
 simp only[G8,K9,N0] at this
 exact this
def r6:B3O:=ByteArray.mk #[43]
def o3:B3O:=ByteArray.mk #[35]
def hasB(c:UInt8)(s:B3O):Bool:=decide (c∈s.data.toList)
theorem B7M(c:UInt8):∀l:List UInt8,0≤indexByte l c↔c∈l
 |[]=>by simp[indexByte]
 |b::l=>by
  by_cases hb:b=c
  ·subst hb
   simp[indexByte]
  ·have ih:=B7M c l
   have qI:(b==c)=false:=by simpa using hb
   have qn:=indexByte_ge l c
   simp only[indexByte,qI,H6,if_false,D7,Ne.symm hb,false_or]
   rw[←ih]
   by_cases h1:indexByte l c= -1
   ·simp[h1]
   ·have h2:¬(indexByte l c== -1)=true:=by simpa using h1
    rw[if_neg h2]
    omega
theorem C3X(c:UInt8)(s:B3O):decide (0≤indexByte s.data.toList c)=hasB c s:=by
 unfold hasB
 simp only[B7M]
def A1g(s:B3O):Bool:=(p7 s).isNone&&decide (s.size≠0)&&decide (s.size≤256)&&decide ((levels s).length≤32)
def Y8(s:B3O):Bool:=A1g s&& !hasB 43 s&& !hasB 35 s
def A38:List B3O→Bool
 |[]=>true
 |x::r=>(if hasB 35 x then(r.isEmpty&&decide (x.size≤1)) else(!hasB 43 x||decide (x.size≤1)))&&A38 r
def X4(s:B3O):Bool:=A1g s&&A38 (levels s)
theorem A0T{s:B3O}:A1g s=true↔p7 s=none∧s.size≠0∧s.size≤256∧(levels s).length≤32:=by
 unfold A1g
 simp[Option.isNone_iff_eq_none,and_assoc]
theorem A3y{s:B3O}(h:A1g s=true):s.size≤256:=(A0T.1 h).2.2.1
theorem A4C{s:B3O}(h:Y8 s=true):A1g s=true:=by
 unfold Y8 at h
 simp only[E8] at h
 exact h.1.1
theorem A0u{s:B3O}(h:X4 s=true):A1g s=true:=by
 unfold X4 at h
 simp only[E8] at h
 exact h.1
theorem C2X{c:UInt8}{x:B3O}(h:hasB c x=true):x.size≤1↔x=ByteArray.mk #[c]:=by
 unfold hasB at h
 rw[decide_eq_true_eq] at h
 constructor
 ·intro h1
  refine data_inj ?_
  have hl:x.data.toList.length≤1:=by rw[N0];exact h1
  generalize x.data.toList=l at h hl
  match l,h,hl with
  |[b],h,_=>rw[C0.1 h]
  |_::_::_,_,hl=>simp at hl
 ·rintro rfl
  exact D6 1
theorem C5m(c:UInt8):hasB c (ByteArray.mk #[c])=true:=by simp[hasB]
def B2N(x:B3O)(last:Bool):Bool:=(hasB 43 x&&decide (x≠r6))||(hasB 35 x&&(decide (x≠o3)|| !last))
theorem A7x(x:B3O)(r:List B3O):A38 (x::r)=(!B2N x r.isEmpty&&A38 r):=by
 unfold B2N
 rw[A38]
 congr 1
 by_cases gP:hasB 35 x=true
 ·rw[if_pos gP,gP]
  by_cases hx:x=o3
  ·subst hx
   have:hasB 43 o3=false:=rfl
   rw[this]
   cases r.isEmpty<;>rfl
  ·have hs:¬x.size≤1:=fun h=>hx ((C2X gP).1 h)
   simp[hs,hx]
 ·rw[if_neg gP]
  simp only[Bool.not_eq_true] at gP
  rw[gP]
  by_cases en:hasB 43 x=true
  ·rw[en]
   by_cases hx:x=r6
   ·subst hx
    rfl
   ·have hs:¬x.size≤1:=fun h=>hx ((C2X en).1 h)
    simp[hs,hx]
  ·simp only[Bool.not_eq_true] at en
   rw[en]
   rfl
def A2m:List B3O→List B3O→Bool
 |[],n=>n.isEmpty
 |f::fs,n=>if f=o3 then true else match n with
  |[]=>false
  |m::ns=>if f≠r6∧f≠m then false else A2m fs ns
theorem A34(f:B3O)(fs n:List B3O):A2m (f::fs) n=if f=o3 then true else match n with
  |[]=>false
  |m::ns=>if f≠r6∧f≠m then false else A2m fs ns:=by cases n<;>rfl
def eqL:List B3O→List B3O→Bool
 |[],[]=>true
 |a::l,b::m=>(decide (a=r6)||decide (a=b))&&eqL l m
 |_,_=>false
def B3c(f:List B3O):Bool:=decide (f[f.length-1]? =some o3)
def A6O(f:List B3O):List B3O:=if B3c f=true then f.take (f.length-1) else f
def B8K(f n:List B3O):Bool:=
 if n.length<(A6O f).length∨(B3c f=false∧(A6O f).length<n.length) then false else eqL (A6O f) (n.take (A6O f).length)
theorem B74(x y:B3O)(r:List B3O):B3c (x::y::r)=B3c (y::r):=by
 unfold B3c
 simp
theorem C39(x y:B3O)(r:List B3O):A6O (x::y::r)=x::A6O (y::r):=by
 unfold A6O
 rw[B74]
 split
 ·simp
 ·rfl
theorem B5v:∀(f n:List B3O),f≠[]→A38 f=true→A2m f n=B8K f n
 |[],_,h,_=>absurd rfl h
 |[x],n,_,hf=>by
  rw[A34]
  unfold B8K
  by_cases hx:x=o3
  ·have ha:B3c [x]=true:=by simp[B3c,hx]
   have hc:A6O [x]=[]:=by simp[A6O,ha]
   rw[if_pos hx,ha,hc]
   simp[eqL]
  ·have ha:B3c [x]=false:=by simp[B3c,hx]
   have hc:A6O [x]=[x]:=by simp[A6O,ha]
   rw[if_neg hx,ha,hc]
   match n with
   |[]=>simp
   |[m]=>
    by_cases h1:x=r6
    ·simp[eqL,A2m,h1]
    ·by_cases h2:x=m<;>simp[eqL,A2m,h1,h2]
   |m::m'::ns=>
    by_cases h1:x=r6
    ·simp[A2m,h1]
    ·by_cases h2:x=m<;>simp[A2m,h1,h2]
 |x::y::r,n,_,hf=>by
  have xk:A38 (y::r)=true:=by
   rw[A38,E8] at hf
   exact hf.2
  have hx:x≠o3:=fun h=>by
   subst h
   rw[A7x] at hf
   have:B2N o3 (y::r).isEmpty=true:=rfl
   rw[this] at hf
   simp at hf
  have ih:=fun ns=>B5v (y::r) ns (by simp) xk
  rw[A34,if_neg hx]
  unfold B8K at ih⊢
  rw[B74,C39]
  match n with
  |[]=>simp
  |m::ns=>
   have ih:=ih ns
   simp only[B7,Nat.add_lt_add_iff_right,List.take_succ_cons]
   by_cases hc:x≠r6∧x≠m
   ·rw[if_pos hc]
    split
    ·rfl
    ·simp[eqL,hc.1,hc.2]
   ·rw[if_neg hc,ih]
    have hd:(decide (x=r6)||decide (x=m))=true:=by
     by_cases h1:x=r6
     ·simp[h1]
     ·by_cases h2:x=m
      ·simp[h2]
      ·exact absurd ⟨h1,h2⟩ hc
    split
    ·rfl
    ·simp only[eqL,hd,G2]
def A3T(filter name:B3O):Bool:=decide (name.get! 0=36)&&(decide (filter.get! 0=43)||decide (filter.get! 0=35))
def Y9(filter name:B3O):Bool:=X4 filter&&Y8 name&& !A3T filter name&&A2m (levels filter) (levels name)
theorem B2Z{s:B3O}(h:s.size≠0)(c:UInt8):s.extract 0 1=ByteArray.mk #[c]↔s.get! 0=c:=by
 obtain⟨⟨l⟩⟩:=s
 match l with
 |[]=>exact absurd rfl h
 |b::l=>
  have e1:(ByteArray.mk (List.toArray (b::l))).get! 0=b:=rfl
  rw[e1]
  constructor
  ·intro he
   have:=congrArg (fun x:B3O=>x.data.toList) he
   simp at this
   exact this
  ·rintro rfl
   refine data_inj ?_
   simp
open Go.Proofs Go.Shelf
def C2b:Go.Shelf.Ren:=⟨fun n=>match n with|138=>61|195=>103|218=>104|143=>62|219=>105|217=>154|225=>155|224=>156|267=>157|266=>205|314=>206|n=>n,fun n=>match n with|9=>9|3=>3|4=>4|5=>5|0=>0|46=>263|146=>335|51=>315|n=>n,fun n=>match n with|1=>0|n=>n⟩
theorem C72:Lays.n138 prog C2b where
 mixed:=by kernel_rfl
 f138:=func61.trans (congrArg some (by kernel_rfl))
 f143:=func62.trans (congrArg some (by kernel_rfl))
 f195:=func103.trans (congrArg some (by kernel_rfl))
 f217:=func154.trans (congrArg some (by kernel_rfl))
 f218:=func104.trans (congrArg some (by kernel_rfl))
 f219:=func105.trans (congrArg some (by kernel_rfl))
 f224:=func156.trans (congrArg some (by kernel_rfl))
 f225:=func155.trans (congrArg some (by kernel_rfl))
 f266:=func205.trans (congrArg some (by kernel_rfl))
 f267:=func157.trans (congrArg some (by kernel_rfl))
 f314:=func206.trans (congrArg some (by kernel_rfl))
 t0:=underlying0
 a0:=isAgg0
 z0:=sizeOf0
 v0:=zeroValue0
 t3:=underlying3
 a3:=isAgg3
 z3:=sizeOf3
 v3:=zeroValue3
 t4:=underlying4
 a4:=isAgg4
 z4:=sizeOf4
 v4:=zeroValue4
 t5:=underlying5
 a5:=isAgg5
 z5:=sizeOf5
 v5:=zeroValue5
 t9:=underlying9
 a9:=isAgg9
 z9:=sizeOf9
 v9:=zeroValue9
 t46:=underlying263
 a46:=isAgg263
 z46:=sizeOf263
 v46:=zeroValue263
 t51:=underlying315
 a51:=isAgg315
 z51:=sizeOf315
 v51:=zeroValue315
 t146:=underlying335
 a146:=isAgg335
 z146:=sizeOf335
 v146:=zeroValue335
 g1:=by kernel_rfl
def C4a:Go.Shelf.Ren:=⟨fun n=>match n with|144=>31|143=>62|219=>105|217=>154|225=>155|224=>156|267=>157|266=>205|314=>206|n=>n,fun n=>match n with|9=>9|4=>4|3=>3|5=>5|46=>263|146=>335|51=>315|n=>n,fun n=>match n with|1=>0|n=>n⟩
theorem C8Q:Lays.n144 prog C4a where
 mixed:=by kernel_rfl
 f143:=func62.trans (congrArg some (by kernel_rfl))
 f144:=func31.trans (congrArg some (by kernel_rfl))
 f217:=func154.trans (congrArg some (by kernel_rfl))
 f219:=func105.trans (congrArg some (by kernel_rfl))
 f224:=func156.trans (congrArg some (by kernel_rfl))
 f225:=func155.trans (congrArg some (by kernel_rfl))
 f266:=func205.trans (congrArg some (by kernel_rfl))
 f267:=func157.trans (congrArg some (by kernel_rfl))
 f314:=func206.trans (congrArg some (by kernel_rfl))
 t3:=underlying3
 a3:=isAgg3
 z3:=sizeOf3
 v3:=zeroValue3
 t4:=underlying4
 a4:=isAgg4
 z4:=sizeOf4
 v4:=zeroValue4
 t5:=underlying5
 a5:=isAgg5
 z5:=sizeOf5
 v5:=zeroValue5
 t9:=underlying9
 a9:=isAgg9
 z9:=sizeOf9
 v9:=zeroValue9
 t46:=underlying263
 a46:=isAgg263
 z46:=sizeOf263
 v46:=zeroValue263
 t51:=underlying315
 a51:=isAgg315
 z51:=sizeOf315
 v51:=zeroValue315
 t146:=underlying335
 a146:=isAgg335
 z146:=sizeOf335
 v146:=zeroValue335
 g1:=by kernel_rfl
def A96:Go.Shelf.Ren:=⟨fun n=>match n with|146=>74|221=>120|268=>170|138=>61|143=>62|195=>103|197=>153|218=>104|219=>105|260=>204|217=>154|225=>155|224=>156|267=>157|266=>205|314=>206|n=>n,fun n=>match n with|9=>9|31=>43|3=>3|4=>4|0=>0|105=>289|21=>21|5=>5|46=>263|119=>373|139=>376|138=>375|146=>335|51=>315|n=>n,fun n=>match n with|1=>0|3=>1|4=>2|n=>n⟩
theorem C4F:Lays.n146 prog A96 where
 mixed:=by kernel_rfl
 f138:=func61.trans (congrArg some (by kernel_rfl))
 f143:=func62.trans (congrArg some (by kernel_rfl))
 f146:=func74.trans (congrArg some (by kernel_rfl))
 f195:=func103.trans (congrArg some (by kernel_rfl))
 f197:=func153.trans (congrArg some (by kernel_rfl))
 f217:=func154.trans (congrArg some (by kernel_rfl))
 f218:=func104.trans (congrArg some (by kernel_rfl))
 f219:=func105.trans (congrArg some (by kernel_rfl))
 f221:=func120.trans (congrArg some (by kernel_rfl))
 f224:=func156.trans (congrArg some (by kernel_rfl))
 f225:=func155.trans (congrArg some (by kernel_rfl))
 f260:=func204.trans (congrArg some (by kernel_rfl))
 f266:=func205.trans (congrArg some (by kernel_rfl))
 f267:=func157.trans (congrArg some (by kernel_rfl))
 f268:=func170.trans (congrArg some (by kernel_rfl))
 f314:=func206.trans (congrArg some (by kernel_rfl))
 t0:=underlying0
 a0:=isAgg0
 z0:=sizeOf0
 v0:=zeroValue0
 t3:=underlying3
 a3:=isAgg3
 z3:=sizeOf3
 v3:=zeroValue3
 t4:=underlying4
 a4:=isAgg4
 z4:=sizeOf4
 v4:=zeroValue4
 t5:=underlying5
 a5:=isAgg5
 z5:=sizeOf5
 v5:=zeroValue5
 t9:=underlying9
 a9:=isAgg9
 z9:=sizeOf9
 v9:=zeroValue9
 t21:=underlying21
 a21:=isAgg21
 z21:=sizeOf21
 v21:=zeroValue21
 t31:=underlying43
 a31:=isAgg43
 z31:=sizeOf43
 v31:=zeroValue43
 t46:=underlying263
 a46:=isAgg263
 z46:=sizeOf263
 v46:=zeroValue263
 t51:=underlying315
 a51:=isAgg315
 z51:=sizeOf315
 v51:=zeroValue315
 t105:=underlying289
 a105:=isAgg289
 z105:=sizeOf289
 v105:=zeroValue289
 t119:=underlying373
 a119:=isAgg373
 z119:=sizeOf373
 t138:=underlying375
 a138:=isAgg375
 z138:=sizeOf375
 v138:=zeroValue375
 t139:=underlying376
 a139:=isAgg376
 z139:=sizeOf376
 v139:=zeroValue376
 t146:=underlying335
 a146:=isAgg335
 z146:=sizeOf335
 v146:=zeroValue335
 g1:=by kernel_rfl
 g3:=by kernel_rfl
 g4:=by kernel_rfl
end Go.Proofs.YtidlldnlphdhcaaGreatDoor
namespace Go.H
section
open Go.RowKit Go.Maps Go.Sort Go.Shelf Go.Proofs
theorem B6y{w w':World}(hb:Below w.heap.size w w'):∀(k:Nat) o,w.heap[k]? =some o→w'.heap[k]? =some o:=fun k o ho=>by
 have hk:=(F6.1 ho).1
 rw[hb.block k hk];exact ho
theorem B6w{B:Nat}{w w':World}(hb:Below B w w'):x9 w w':=⟨hb.os,hb.tape,hb.output⟩
theorem B5j{α:Type}{enc:α→C9w}{size base:Nat}{T:TypeId}{w':World}{v:Value}{n:Nat}{xs:List α}{h:Heap}{R:List Asn}
  (hr:w'.ownsRow base T size v n (xs.flatMap enc))(hn:n=xs.length)(hs:sat h R)(hg:∀(k:Nat) o,h[k]? =some o→w'.heap[k]? =some o)(hb:h.size≤base):
  ∃s:Slc,v=.slice s.a s.len s.cap∧sat w'.heap (U4 enc size s xs::R):=by
 obtain⟨h1,⟨rfl,h2⟩|⟨g,cap,cur,rfl,h3,h4,h5,h6,h7,h8⟩⟩:=hr
 ·have hx:xs=[]:=List.eq_nil_of_length_eq_zero (by omega)
  subst hx
  exact⟨⟨none,0,0⟩,rfl,Z3 (hs.grow hg)⟩
 ·exact⟨⟨some ⟨g,0,none⟩,n,cap⟩,rfl,A1A (o:=0) ⟨by simp,h5,hn,by simp only[K9];exact S8 h7.symm,by simpa using h8⟩ (hs.eF hg (by omega) h4)⟩
abbrev eI(x:Int):C9w:=[.int .i64 x]
def Z0(l:List Int):List Int:=l.mergeSort fun x y=>decide (x≤y)
section
variable {P:Program} {ρk ρs ρt:Ren} {V:Type} {ev:V→Value} {h:Heap} {R:List Asn}
theorem B0r(K:SlLaysZI.n7 P ρk)(m:Option Nat){Q:Value→Heap→Prop}(hq:Q (.func (.func (ρk.f 10)) #[] #[.pointer (some ⟨h.size,0,none⟩)]) (h.push (.cells #[.map m] (ρk.t 23)))):
  V2 P (ρk.f 7) #[.map m] h Q:=fun w hw=>by
 subst hw
 refine(callsIn_wide (n:=5)).1 ((AnyZI.keys_in K Fence.wide 5 trivial rfl m w).mono ?_)
 rintro e w' ⟨rfl,rfl⟩
 exact⟨_,rfl,⟨rfl,rfl,rfl⟩,hq⟩
theorem C7k(T:SlLaysM.n5 P ρt)(he:ρt.f 5=ρs.f 9)(m:Nat):AnyZI.SortsIn P ρs Fence.wide m:=by
 refine⟨fun blk off cap ss W hH hblk hsz=>?_,fun p cap W=>?_⟩
 ·rw[←he];exact callsIn_wide.2 (AnyM.slices_Sort_int T blk off cap ss W hH hblk hsz)
 ·rw[←he];exact callsIn_wide.2 (AnyM.slices_Sort_int_none T p cap W)
theorem B9S{H:Type}{w:World}{b:Nat}{l:List (Int×V)}{k:TypeId}(hk:P.underlying k=some (.int .i64))(hs:sat w.heap (mapA (fun n:Int=>.int .i64 n) ev b l::R))
  (hw:∀p∈l,(Lit.int .i64 p.1).wf=true)(hl:l.length≤maxLen):
  ∃D0:DataW H,w.ownsMap P k (fun _=>some (.nil,[])) b l.length D0∧Maps.size D0=l.length∧(intKeys D0).Perm (l.map (·.1)):=by
 obtain⟨es,c,⟨he,bH⟩,hs⟩:=A09.1 hs
 have hsz:es.size=l.length:=by
  have:=congrArg List.length he
  simpa using this
 have cJ:es.toList.map (·.key)=l.map (fun p=>Value.int .i64 p.1):=by
  have:=congrArg (List.map Prod.fst) he
  simpa[Q6] using this
 have jS:∀x∈es.toList,∃p∈l,x.key=.int .i64 p.1∧WideElems.rd (H:=H) P k (fun _=>some (.nil,[])) x=some (.int .i64 p.1,.nil):=by
  intro x hx
  have hm:x.key∈l.map (fun p=>Value.int .i64 p.1):=by rw[←cJ];exact B3 hx
  obtain⟨p,hp,e⟩:=E4.1 hm
  exact⟨p,hp,e.symm,by simp[WideElems.rd,←e,keyOf,hk,mapKey,hw p hp]⟩
 have kK:es.toList.map (WideElems.rg (H:=H) P k (fun _=>some (.nil,[])))=l.map (fun p=>((Lit.int .i64 p.1,DataW.nil):Lit×DataW H)):=by
  have e1:es.toList.map (WideElems.rg (H:=H) P k (fun _=>some (.nil,[])))=(es.toList.map (·.key)).map (fun v=>(match v with|.int q n=>Lit.int q n|_=>.bool false,DataW.nil)):=by
   rw[F0]
   refine H9 fun x hx=>?_
   obtain⟨p,hp,h1,h2⟩:=jS x hx
   simp[WideElems.rg,h2,h1]
  rw[e1,cJ,F0]
  rfl
 refine⟨_,⟨es,c,hs.get,⟨by omega,bH,fun x hx=>?_⟩,by omega,rfl⟩,?_,?_⟩
 ·obtain⟨p,_,_,h2⟩:=jS x hx
  exact⟨_,h2⟩
 ·rw[kK,Maps.size_eq,length_sorted,B9]
 ·rw[kK]
  show(List.map _ _).Perm _
  refine((WideShapes.sorted_perm _).map _).trans ?_
  rw[F0]
  exact I9 _
theorem A61(K:SlLaysZI.n7 P ρk)(S:SlLaysZI.n6 P ρs)(T:SlLaysM.n5 P ρt)(he:ρt.f 5=ρs.f 9)(e9:∀args w,(callFunc (ρs.f 9) args).run P w=.ok (.enter (ρs.f 9) args) w)
  (eg:∀args w,(callFunc (ρk.f 10) args).run P w=.ok (.enter (ρk.f 10) args) w){b bm:Nat}{l:List (Int×V)}
  (hs:sat h (mapA (fun n:Int=>.int .i64 n) ev b l::R))(hw:∀p∈l,(Lit.int .i64 p.1).wf=true)(hl:l.length*8≤140737488355328)(hc:V9 h ⟨bm,0,none⟩=some (.map (some b))){Q:Value→Heap→Prop}
  (hq:∀(s:Slc) h',sat h' (U4 eI 1 s (Z0 (l.map (·.1)))::mapA (fun n:Int=>.int .i64 n) ev b l::R)→Q (.slice s.a s.len s.cap) h'):
  V2 P (ρs.f 6) #[.func (.func (ρk.f 10)) #[] #[.pointer (some ⟨bm,0,none⟩)]] h Q:=fun w jy=>by
 subst jy
 have K':SlLaysZI.n10 P ρk:={K with}
 have iM:l.length≤maxLen:=by unfold maxLen;omega
 obtain⟨D0,nG,hsz,dB⟩:=B9S (H:=Unit) K'.t26 hs hw iM
 have tW:bm<w.heap.size:=by
  unfold V9 at hc
  cases hx:w.heap[bm]? with
  |none=>simp[hx] at hc
  |some o=>exact(F6.1 hx).1
 have nB:SeqGives Fence.wide 2 P (ρk.f 10) #[.pointer (some ⟨bm,0,none⟩)] encZ (fun ss=>ss.Perm (intKeys D0)) (Maps.size D0) w:=
  AnyZI.keys_gives K' Fence.wide _ trivial rfl (by omega) bm b l.length D0 w tW hc nG
 have cS:=AnyZI.sorted_in S Fence.wide 5 trivial trivial trivial trivial rfl (by omega) (C7k T he _) e9 (ρk.f 10) #[.pointer (some ⟨bm,0,none⟩)] trivial eg _ _ (by rw[hsz];exact iM) (by rw[hsz];exact hl) _ nB
 refine((callsIn_wide).1 cS).mono ?_
 rintro e w' ⟨v,ss,rfl,hS,aM,dj,hb⟩
 have hp:ss.Perm (l.map (·.1)):=hS.trans dB
 have e1:(ss.mergeSort fun x y=>decide (x≤y))=Z0 (l.map (·.1)):=mergeSort_of_perm_i hp
 rw[e1] at aM
 have e2:(Z0 (l.map (·.1))).map encZ=(Z0 (l.map (·.1))).flatMap eI:=by
  induction Z0 (l.map (·.1)) with
  |nil=>rfl
  |cons a l ih=>rw[B6,ih];rfl
 rw[e2] at aM
 obtain⟨s,rfl,af⟩:=B5j aM (by simp[Z0,O7,hp.length_eq]) hs (B6y hb) (D6 _)
 exact⟨_,rfl,B6w hb,hq s _ af⟩
end
end
section
open Go.RowKit Go.Maps Go.Sort Go.Shelf Go.Proofs
abbrev eS(x:B3O):C9w:=[.string x]
def ofL(x:List UInt8):B3O:=⟨x.toArray⟩
def A5t(l:List B3O):List B3O:=((l.map (·.data.toList)).mergeSort fun x y=>decide (x≤y)).map ofL
section
variable {P:Program} {ρk ρs ρt:Ren} {V:Type} {ev:V→Value} {h:Heap} {R:List Asn}
theorem C1G(K:SlLaysZ.n7 P ρk)(m:Option Nat){Q:Value→Heap→Prop}(hq:Q (.func (.func (ρk.f 10)) #[] #[.pointer (some ⟨h.size,0,none⟩)]) (h.push (.cells #[.map m] (ρk.t 23)))):
  V2 P (ρk.f 7) #[.map m] h Q:=fun w hw=>by
 subst hw
 refine(callsIn_wide (n:=5)).1 ((AnyZ.keys_in K Fence.wide 5 trivial rfl m w).mono ?_)
 rintro e w' ⟨rfl,rfl⟩
 exact⟨_,rfl,⟨rfl,rfl,rfl⟩,hq⟩
theorem C7j(T:SlLaysM.n6 P ρt)(he:ρt.f 6=ρs.f 9)(m:Nat):AnyZ.SortsIn P ρs Fence.wide m:=by
 refine⟨fun blk off cap ss W hH hblk hsz=>?_,fun p cap W=>?_⟩
 ·rw[←he];exact callsIn_wide.2 (AnyM.slices_Sort_string T blk off cap ss W hH hblk hsz)
 ·rw[←he];exact callsIn_wide.2 (AnyM.slices_Sort_string_none T p cap W)
theorem B8C{H:Type}{w:World}{b:Nat}{l:List (B3O×V)}{k:TypeId}(hk:P.underlying k=some .string)(hs:sat w.heap (mapA (fun n:B3O=>.string n) ev b l::R))
  (hw:∀p∈l,p.1.size≤maxLen)(hl:l.length≤maxLen):
  ∃D0:DataW H,w.ownsMap P k (fun _=>some (.nil,[])) b l.length D0∧Maps.size D0=l.length∧(strKeys D0).Perm (l.map (·.1.data.toList)):=by
 obtain⟨es,c,⟨he,bH⟩,hs⟩:=A09.1 hs
 have hsz:es.size=l.length:=by
  have:=congrArg List.length he
  simpa using this
 have cJ:es.toList.map (·.key)=l.map (fun p=>Value.string p.1):=by
  have:=congrArg (List.map Prod.fst) he
  simpa[Q6] using this
 have jS:∀x∈es.toList,∃p∈l,x.key=.string p.1∧WideElems.rd (H:=H) P k (fun _=>some (.nil,[])) x=some (.string p.1.data.toList,.nil):=by
  intro x hx
  have hm:x.key∈l.map (fun p=>Value.string p.1):=by rw[←cJ];exact B3 hx
  obtain⟨p,hp,e⟩:=E4.1 hm
  exact⟨p,hp,e.symm,by simp[WideElems.rd,←e,keyOf,hk,mapKey,hw p hp]⟩
 have kK:es.toList.map (WideElems.rg (H:=H) P k (fun _=>some (.nil,[])))=l.map (fun p=>((Lit.string p.1.data.toList,DataW.nil):Lit×DataW H)):=by
  have e1:es.toList.map (WideElems.rg (H:=H) P k (fun _=>some (.nil,[])))=(es.toList.map (·.key)).map (fun v=>(match v with|.string q=>Lit.string q.data.toList|_=>.bool false,DataW.nil)):=by
   rw[F0]
   refine H9 fun x hx=>?_
   obtain⟨p,hp,h1,h2⟩:=jS x hx
   simp[WideElems.rg,h2,h1]
  rw[e1,cJ,F0]
  rfl
 refine⟨_,⟨es,c,hs.get,⟨by omega,bH,fun x hx=>?_⟩,by omega,rfl⟩,?_,?_⟩
 ·obtain⟨p,_,_,h2⟩:=jS x hx
  exact⟨_,h2⟩
 ·rw[kK,Maps.size_eq,length_sorted,B9]
 ·rw[kK]
  show(List.map _ _).Perm _
  refine((WideShapes.sorted_perm _).map _).trans ?_
  rw[F0]
  exact I9 _
theorem B8i(K:SlLaysZ.n7 P ρk)(S:SlLaysZ.n6 P ρs)(T:SlLaysM.n6 P ρt)(he:ρt.f 6=ρs.f 9)(e9:∀args w,(callFunc (ρs.f 9) args).run P w=.ok (.enter (ρs.f 9) args) w)
  (eg:∀args w,(callFunc (ρk.f 10) args).run P w=.ok (.enter (ρk.f 10) args) w){b bm:Nat}{l:List (B3O×V)}
  (hs:sat h (mapA (fun n:B3O=>.string n) ev b l::R))(hw:∀p∈l,p.1.size≤maxLen)(hl:l.length*16≤140737488355328)(hc:V9 h ⟨bm,0,none⟩=some (.map (some b))){Q:Value→Heap→Prop}
  (hq:∀(s:Slc) h',sat h' (U4 eS 1 s (A5t (l.map (·.1)))::mapA (fun n:B3O=>.string n) ev b l::R)→Q (.slice s.a s.len s.cap) h'):
  V2 P (ρs.f 6) #[.func (.func (ρk.f 10)) #[] #[.pointer (some ⟨bm,0,none⟩)]] h Q:=fun w jy=>by
 subst jy
 have K':SlLaysZ.n10 P ρk:={K with}
 have iM:l.length≤maxLen:=by unfold maxLen;omega
 obtain⟨D0,nG,hsz,dB⟩:=B8C (H:=Unit) K'.t26 hs hw iM
 have tW:bm<w.heap.size:=by
  unfold V9 at hc
  cases hx:w.heap[bm]? with
  |none=>simp[hx] at hc
  |some o=>exact(F6.1 hx).1
 have nB:SeqGives Fence.wide 2 P (ρk.f 10) #[.pointer (some ⟨bm,0,none⟩)] encStr (fun ss=>ss.Perm (strKeys D0)) (Maps.size D0) w:=
  AnyZ.keys_gives K' Fence.wide _ trivial rfl (by omega) bm b l.length D0 w tW hc nG
 have cS:=AnyZ.sorted_in S Fence.wide 5 trivial trivial trivial trivial rfl (by omega) (C7j T he _) e9 (ρk.f 10) #[.pointer (some ⟨bm,0,none⟩)] trivial eg _ _ (by rw[hsz];exact iM) (by rw[hsz];exact hl) _ nB
 refine((callsIn_wide).1 cS).mono ?_
 rintro e w' ⟨v,ss,rfl,hS,aM,dj,hb⟩
 have hp:ss.Perm (l.map (·.1.data.toList)):=hS.trans dB
 have e1:((ss.mergeSort fun x y=>decide (x≤y)).map ofL)=A5t (l.map (·.1)):=by
  unfold A5t
  rw[F0]
  exact congrArg (List.map ofL) (mergeSort_of_perm hp)
 have e2:(ss.mergeSort fun x y=>decide (x≤y)).map encStr=(A5t (l.map (·.1))).flatMap eS:=by
  rw[←e1]
  generalize(ss.mergeSort fun x y=>decide (x≤y))=t
  induction t with
  |nil=>rfl
  |cons a l ih=>rw[B6,ih];rfl
 rw[e2] at aM
 obtain⟨s,rfl,af⟩:=B5j aM (by rw[←e1];simp[O7]) hs (B6y hb) (D6 _)
 exact⟨_,rfl,B6w hb,hq s _ af⟩
end
end
end Go.H
namespace Go.Proofs.YtidlldnlphdhcaaGreatDoor
open Go.H
open Go.Proofs.Tryz
section
open Go.H Go.Proofs Go.Lib
structure TP(h0:Heap):Prop where
 u8:U8 h0
 maxl:∃m,V9 h0 ⟨0,0,none⟩=some (.int .i64 m)
theorem A1C:∀x:B3O,(eS x).length=1:=fun _=>rfl
theorem B4C:∀x:B3O,∀v∈eS x,v.oneCell'=true:=fun x v hv=>by rw[C0.1 hv];rfl
variable {h h0:Heap} {R:List Asn}
theorem B9T{b:Nat}{xs:List B3O}(hs:sat h (cells b (xs.map Value.string).toArray::R)):sat h (U4 eS 1 ⟨some ⟨b,0,none⟩,xs.length,xs.length⟩ xs::R):=by
 refine A1A (o:=0) ⟨rfl,D6 _,rfl,by simp,?_⟩ hs
 simp only[S7,R9,Nat.mul_one,List.toList_toArray]
 rw[D2 (by simp)]
 induction xs with
 |nil=>rfl
 |cons x xs ih=>
  rw[B6,D5]
  have:∀xs:List B3O,xs.map Value.string=xs.flatMap eS:=fun xs=>by
   induction xs with
   |nil=>rfl
   |cons y ys ih=>rw[B6,D5,ih];rfl
  rw[this xs]
  rfl
theorem C2r{s:B3O}{Q:Value→Heap→Prop}(hq:Q (.int .i64 ((s.data.toList.count 47:Nat):Int)) h):
  V2 prog 61 #[.string s,.string (ByteArray.mk #[47])] h Q:=fun w hw=>by
 subst hw
 refine(Any.strings_Count_one C72 s 47 w).mono ?_
 rintro e w' ⟨rfl,rfl⟩
 exact⟨_,rfl,⟨rfl,rfl,rfl⟩,hq⟩
theorem r9{s:B3O}{c:UInt8}{Q:Value→Heap→Prop}(hq:Q (.bool (hasB c s)) h):
  V2 prog 31 #[.string s,.string (ByteArray.mk #[c])] h Q:=fun w hw=>by
 subst hw
 refine(Any.strings_Contains_one C8Q s c w).mono ?_
 rintro e w' ⟨rfl,rfl⟩
 rw[C3X]
 exact⟨_,rfl,⟨rfl,rfl,rfl⟩,hq⟩
theorem A4g(hs:sat h (old h0::R))(ht:TP h0){s:B3O}(hsz:s.size≤256){Q:Value→Heap→Prop}
  (hq:∀(sl:Slc) h',sat h' (U4 eS 1 sl (levels s)::old h0::R)→Q (.slice sl.a sl.len sl.cap) h'):
  V2 prog 36 #[.string s] h Q:=by
 refine A4Q s h Q ?_
 delta A60 cc pu
 refine U5 (fun w hw=>?_)
 subst hw
 obtain⟨m,hm⟩:=ht.maxl
 refine(Any.strings_Split C4F (by kernel_rfl) s (ByteArray.mk #[47]) m w (by omega) (hs.bX hm) (by decide)).mono ?_
 rintro e w' ⟨rfl,rfl⟩
 have hl:(levels s).length=countB s A9H+1:=splitB_all A9H (by decide) 0 _ s rfl
 have:=hq ⟨some ⟨w.heap.size,0,none⟩,(levels s).length,(levels s).length⟩ _ (B9T (hs.bJ (T:=A96.t 9)))
 rw[hl] at this
 exact⟨_,rfl,⟨rfl,rfl,rfl⟩,⟨some ⟨w.heap.size,0,none⟩,countB s A9H+1,countB s A9H+1⟩,rfl,this⟩
theorem B4Q(hs:sat h (old h0::R))(ht:TP h0){s:B3O}(hsz:s.size≤9223372036854775807){Q:Value→Heap→Prop}
  (hq:∀h',sat h' (old h0::R)→Q (.bool (A1g s)) h'):V2 prog 30 #[.string s] h Q:=by
 refine B0N s h Q ?_
 delta B3i bn ci es ie pu
 refine u6 (B6M hs ht.u8 s (by omega) fun h1 aa=>⟨(match p7 s with|some n=>((n:Int),true,())|none=>(0,false,())),by cases p7 s<;>rfl,?_⟩)
 refine V3 (fun x h'=>h'=h1∧x.1=A1g s) ?_ ?_
 ·(try dsimp only);rw[U6]
  cases hf:p7 s with
  |some n=>
   rw[if_neg (by simp)]
   exact⟨rfl,by simp[A1g,hf]⟩
  |none=>
   rw[if_pos (by rfl),U6]
   have he:s=ByteArray.mk #[]↔s.size=0:=by
    constructor
    ·rintro rfl;rfl
    ·intro h0
     refine data_inj ?_
     have:s.data.toList.length=0:=by rw[N0];exact h0
     rw[J9.1 this]
   by_cases h0:s.size=0
   ·rw[if_neg (by simp[he.2 h0])]
    exact⟨rfl,by simp[A1g,h0]⟩
   rw[if_pos (by simpa using fun e=>h0 (he.1 e)),U6]
   by_cases h1:s.size≤256
   ·rw[if_pos (by simp only[decide_eq_true_eq];omega)]
    refine U5 (C2r ⟨_,rfl,?_⟩)
    refine⟨rfl,?_⟩
    have e:A1g s=decide ((levels s).length≤32):=by simp[A1g,hf,h0,h1]
    rw[e,A7j]
    simp only[F9]
    omega
   ·rw[if_neg (by simp only[decide_eq_true_eq];omega)]
    exact⟨rfl,by simp[A1g,h1]⟩
 rintro⟨x,⟨⟩⟩ h2 ⟨rfl,rfl⟩
 exact hq _ aa
def A2t(s:B3O):Int:=if Y8 s=true then 0 else 144
def A9X(s:B3O):Int:=if X4 s=true then 0 else 143
theorem A3n(hs:sat h (old h0::R))(ht:TP h0){s:B3O}(hsz:s.size≤9223372036854775807){Q:Value→Heap→Prop}
  (hq:∀h',sat h' (old h0::R)→Q (.int .u8 (A2t s)) h'):V2 prog 12 #[.string s] h Q:=by
 refine A78 s h Q ?_
 delta A7R bn cb ie pu
 refine V3 (fun x h'=>sat h' (old h0::R)∧x.1= !Y8 s) ?_ ?_
 ·refine U5 (B4Q hs ht hsz fun h1 aa=>⟨_,rfl,?_⟩)
  (try dsimp only);rw[U6]
  cases hz:A1g s with
  |false=>
   rw[if_pos (by rfl)]
   exact⟨aa,by simp[Y8,hz]⟩
  |true=>
   rw[if_neg (by simp)]
   refine U5 (r9 (c:=43) ⟨_,rfl,?_⟩)
   (try dsimp only);rw[U6]
   cases en:hasB 43 s with
   |true=>
    rw[if_pos rfl]
    exact⟨aa,by simp[Y8,hz,en]⟩
   |false=>
    rw[if_neg (by simp)]
    refine U5 (r9 (c:=35) ⟨_,rfl,?_⟩)
    exact⟨aa,by simp[Y8,hz,en]⟩
 rintro⟨x,⟨⟩⟩ h1 ⟨aa,hx⟩
 simp only at hx
 subst hx
 have:=hq _ aa
 unfold A2t at this
 (try dsimp only);rw[U6]
 cases hn:Y8 s with
 |true=>rw[hn,if_pos rfl] at this;rw[if_neg (by simp)];exact this
 |false=>rw[hn,if_neg (by simp)] at this;rw[if_pos (by rfl)];exact this
theorem A6L{l:List B3O}{i:Nat}{x:B3O}(hx:l[i]? =some x):l.drop i=x::l.drop (i+1):=by
 obtain⟨hi,rfl⟩:=D8.1 hx
 exact D9 hi
theorem A6W(hs:sat h (old h0::R))(ht:TP h0){s:B3O}(hsz:s.size≤9223372036854775807){Q:Value→Heap→Prop}
  (hq:∀h',sat h' (old h0::R)→Q (.int .u8 (A9X s)) h'):V2 prog 35 #[.string s] h Q:=by
 refine A6g s h Q ?_
 delta A5q bn cb cc ie ix lt pu wi
 refine U5 (B4Q hs ht hsz fun h1 aa=>⟨_,rfl,?_⟩)
 (try dsimp only);rw[U6]
 unfold A9X X4 at hq
 cases hz:A1g s with
 |false=>
  rw[hz] at hq
  rw[if_pos (by rfl)]
  exact hq _ aa
 |true=>
 rw[hz,G2] at hq
 rw[if_neg (by simp)]
 have hle:=A3y hz
 refine U5 (A4g aa ht hle fun sl h2 ae=>⟨sl,rfl,?_⟩)
 have hlen:=ae.aW
 have aM:=ae.aO A1C
 have hn:(levels s).length≤32:=(A0T.1 hz).2.2.2
 generalize levels s=l at hlen aM hn hq
 have aj:=ae.drop
 clear ae
 (try dsimp only);rw[U0]
 refine l6 (γ:=Nat) (fun g c h'=>h'=h2∧c.1=(((l.length-g:Nat)):Int)∧g≤l.length∧A38 l=A38 (l.drop (l.length-g))) (fun g=>g) l.length ⟨rfl,by simp,D6 _,by simp⟩ ?_
 rintro g ⟨c,⟨⟩⟩ h' ⟨rfl,hc,hg,hf⟩
 simp only at hc
 subst hc
 (try dsimp only);rw[U6]
 by_cases ah:l.length-g<l.length
 ·rw[if_pos (by simp only[decide_eq_true_eq,hlen];omega)]
  obtain⟨x,hx⟩:∃x,l[l.length-g]? =some x:=⟨_,B0 ah⟩
  have hd:=A6L hx
  rw[hd] at hf
  (try dsimp only);rw[U0]
  refine X6 aM hx fun a ha=>?_
  refine⟨x,by have:=ha 0 (.string x) rfl;rwa[Go.H.add_zero] at this,?_⟩
  simp only[A38] at hf
  have fp:(l.drop (l.length-g+1)).isEmpty=decide (l.length-g+1=l.length):=by
   by_cases he:l.length-g+1=l.length
   ·rw[he];simp
   ·have:l.drop (l.length-g+1)≠[]:=by simp;omega
    cases hh:l.drop (l.length-g+1) with
    |nil=>exact absurd hh this
    |cons=>simp[he]
  rw[fp] at hf
  have hw:IntKind.wrap .i64 ((sl.len:Int)-1)=(l.length:Int)-1:=by rw[hlen];exact V5 (by omega) (by omega)
  have iZ:IntKind.wrap .i64 (((l.length-g:Nat):Int)+1)=((l.length-(g-1):Nat):Int):=by rw[V5 (by omega) (by omega)];omega
  have aw:l.length-g+1=l.length-(g-1):=by omega
  rw[aw] at hf
  rw[hw,iZ]
  by_cases gP:hasB 35 x=true
  ·rw[if_pos gP] at hf
   by_cases iz:l.length-(g-1)=l.length
   ·by_cases h1:x.size≤1
    ·rw[decide_eq_true iz,decide_eq_true h1,G2,G2] at hf
     refine V3 (fun z aR=>aR=h'∧z=.inl ()) ?_ ?_
     ·refine V3 (fun z aR=>aR=h'∧z=.inl ()) ?_ ?_
      ·refine V3 (fun z aR=>aR=h'∧z=.inl ()) ?_ ?_
       ·refine U5 (r9 (c:=35) ⟨_,rfl,?_⟩)
        (try dsimp only);rw[U6,if_pos gP]
        exact⟨rfl,rfl⟩
       rintro z aR ⟨rfl,rfl⟩
       simp only[D3]
       (try dsimp only);rw[U6,if_neg (by simp only[decide_eq_true_eq];omega)]
       exact⟨rfl,rfl⟩
      rintro z aR ⟨rfl,rfl⟩
      simp only[D3]
      (try dsimp only);rw[U6,if_neg (by simp only[decide_eq_true_eq];omega)]
      exact⟨rfl,rfl⟩
     rintro z aR ⟨rfl,rfl⟩
     simp only[D3,E6,V0]
     exact .mk (g-1) (by omega) ⟨rfl,rfl,by omega,hf⟩
    ·rw[decide_eq_false h1,Bool.and_false,J6] at hf
     rw[hf,if_neg (by simp)] at hq
     refine V3 (fun z aR=>aR=h'∧z=.inr (.inr (.inr (143,())))) ?_ ?_
     ·refine V3 (fun z aR=>aR=h'∧z=.inl ()) ?_ ?_
      ·refine V3 (fun z aR=>aR=h'∧z=.inl ()) ?_ ?_
       ·refine U5 (r9 (c:=35) ⟨_,rfl,?_⟩)
        (try dsimp only);rw[U6,if_pos gP]
        exact⟨rfl,rfl⟩
       rintro z aR ⟨rfl,rfl⟩
       simp only[D3]
       (try dsimp only);rw[U6,if_neg (by simp only[decide_eq_true_eq];omega)]
       exact⟨rfl,rfl⟩
      rintro z aR ⟨rfl,rfl⟩
      simp only[D3]
      (try dsimp only);rw[U6,if_pos (by simp only[decide_eq_true_eq];omega)]
      exact⟨rfl,rfl⟩
     rintro z aR ⟨rfl,rfl⟩
     simp only[D3,E6,V0]
     exact hq _ aj
   ·rw[decide_eq_false iz,J6,J6] at hf
    rw[hf,if_neg (by simp)] at hq
    refine V3 (fun z aR=>aR=h'∧z=.inr (.inr (.inr (143,())))) ?_ ?_
    ·refine V3 (fun z aR=>aR=h'∧z=.inr (.inr (.inr (.inr (143,()))))) ?_ ?_
     ·refine V3 (fun z aR=>aR=h'∧z=.inl ()) ?_ ?_
      ·refine U5 (r9 (c:=35) ⟨_,rfl,?_⟩)
       (try dsimp only);rw[U6,if_pos gP]
       exact⟨rfl,rfl⟩
      rintro z aR ⟨rfl,rfl⟩
      simp only[D3]
      (try dsimp only);rw[U6,if_pos (by simp only[decide_eq_true_eq];omega)]
      exact⟨rfl,rfl⟩
     rintro z aR ⟨rfl,rfl⟩
     exact⟨rfl,rfl⟩
    rintro z aR ⟨rfl,rfl⟩
    simp only[D3,E6,V0]
    exact hq _ aj
  ·rw[if_neg gP] at hf
   by_cases en:hasB 43 x=true
   ·by_cases h1:x.size≤1
    ·rw[en,decide_eq_true h1,Bool.or_true,G2] at hf
     refine V3 (fun z aR=>aR=h'∧z=.inl ()) ?_ ?_
     ·refine V3 (fun z aR=>aR=h'∧z=.inl ()) ?_ ?_
      ·refine V3 (fun z aR=>aR=h'∧z=.inr (.inl ())) ?_ ?_
       ·refine U5 (r9 (c:=35) ⟨_,rfl,?_⟩)
        (try dsimp only);rw[U6,if_neg gP]
        refine U5 (r9 (c:=43) ⟨_,rfl,?_⟩)
        (try dsimp only);rw[U6,if_pos en]
        exact⟨rfl,rfl⟩
       rintro z aR ⟨rfl,rfl⟩
       exact⟨rfl,rfl⟩
      rintro z aR ⟨rfl,rfl⟩
      simp only[D3]
      (try dsimp only);rw[U6,if_neg (by simp only[decide_eq_true_eq];omega)]
      exact⟨rfl,rfl⟩
     rintro z aR ⟨rfl,rfl⟩
     simp only[D3,E6,V0]
     exact .mk (g-1) (by omega) ⟨rfl,rfl,by omega,hf⟩
    ·rw[en,decide_eq_false h1,Bool.or_false,N3,J6] at hf
     rw[hf,if_neg (by simp)] at hq
     refine V3 (fun z aR=>aR=h'∧z=.inr (.inr (.inr (143,())))) ?_ ?_
     ·refine V3 (fun z aR=>aR=h'∧z=.inl ()) ?_ ?_
      ·refine V3 (fun z aR=>aR=h'∧z=.inr (.inl ())) ?_ ?_
       ·refine U5 (r9 (c:=35) ⟨_,rfl,?_⟩)
        (try dsimp only);rw[U6,if_neg gP]
        refine U5 (r9 (c:=43) ⟨_,rfl,?_⟩)
        (try dsimp only);rw[U6,if_pos en]
        exact⟨rfl,rfl⟩
       rintro z aR ⟨rfl,rfl⟩
       exact⟨rfl,rfl⟩
      rintro z aR ⟨rfl,rfl⟩
      simp only[D3]
      (try dsimp only);rw[U6,if_pos (by simp only[decide_eq_true_eq];omega)]
      exact⟨rfl,rfl⟩
     rintro z aR ⟨rfl,rfl⟩
     simp only[D3,E6,V0]
     exact hq _ aj
   ·simp only[Bool.not_eq_true] at en
    rw[en,S3,Bool.true_or,G2] at hf
    refine V3 (fun z aR=>aR=h'∧z=.inl ()) ?_ ?_
    ·refine V3 (fun z aR=>aR=h'∧z=.inr (.inl ())) ?_ ?_
     ·refine V3 (fun z aR=>aR=h'∧z=.inr (.inr (.inl ()))) ?_ ?_
      ·refine U5 (r9 (c:=35) ⟨_,rfl,?_⟩)
       (try dsimp only);rw[U6,if_neg gP]
       refine U5 (r9 (c:=43) ⟨_,rfl,?_⟩)
       (try dsimp only);rw[U6,if_neg (by rw[en];simp)]
       exact⟨rfl,rfl⟩
      rintro z aR ⟨rfl,rfl⟩
      exact⟨rfl,rfl⟩
     rintro z aR ⟨rfl,rfl⟩
     exact⟨rfl,rfl⟩
    rintro z aR ⟨rfl,rfl⟩
    simp only[D3,E6,V0]
    exact .mk (g-1) (by omega) ⟨rfl,rfl,by omega,hf⟩
 ·rw[if_neg (by simp only[decide_eq_true_eq,hlen];omega)]
  simp only[D3,E6,V0]
  have:l.drop (l.length-g)=[]:=by simp;omega
  rw[this] at hf
  rw[hf] at hq
  exact hq _ aj
end
section
open Go.ChangeShapes Go.WideShapes Go.ChangeAt Go.RowKit Go.Proofs Go.Lib Go.H
def B5A:List (String×DataW Unit):=Rows.brokerNilRow.laid
theorem B7H:B5A=[("unicode/utf8.acceptRanges",Rows.laid_unicode_utf8_acceptRanges),("unicode/utf8.first",Rows.laid_unicode_utf8_first)]:=rfl
noncomputable def B2P(os:Os):World:=
 let w0:=World.doorLaid prog 400 os
 {w0 with heap:=w0.heap.modify 1 fun
   |.cells _ t frozen=>.cells ((List.range 256).map fun c=>Value.int .u8 (firstT c)).toArray t frozen
   |o=>o}
theorem C5g(os:Os)(args:C9v):laidMetH prog B5A ((B2P os).forCall (fun _ _=>0) ⟨#[],args,[]⟩).memory:=
 laidMetH_of_parts3 (fuel:=8) (laidMet_of_run' 8 (by kernel_rfl) (by kernel_rfl)) (by kernel_rfl) (by kernel_rfl)
theorem C4y:U8Extra prog A93 where
 n3:=by kernel_rfl
 n4:=by kernel_rfl
 y3:=by kernel_rfl
 y4:=by kernel_rfl
 c5:=by kernel_rfl
 c119:=by kernel_rfl
 c138:=by kernel_rfl
theorem C4l:(Rows.laid_unicode_utf8_acceptRanges:DataW Unit)=acceptData:=by kernel_rfl
theorem C5t:(Rows.laid_unicode_utf8_first:DataW Unit)=firstData:=Pinned.utf8First_eq
theorem C00{W:World}(h:laidMetH prog B5A W):U8 W.heap:=by
 rw[MakeChecks.laidMetH_plain _ _ _ (by kernel_rfl)] at h
 have h4:=laidMet.reads h (n:= "unicode/utf8.acceptRanges") (d:=Rows.laid_unicode_utf8_acceptRanges) (by rw[B7H];exact B5 ..)
 have h3:=laidMet.reads h (n:= "unicode/utf8.first") (d:=Rows.laid_unicode_utf8_first) (by rw[B7H];exact C2 _ (B5 ..))
 rw[C4l] at h4
 rw[C5t] at h3
 have ht:=utf8Tabs_of_readsT (L:={u8 with}) C4y h3 h4
 exact⟨fun c hc=>ht.1 c hc,fun i hi=>ht.2 i hi⟩
theorem C03{W:World}(h:laidMetH prog B5A W)(oC:W.ShapedOpen prog):TP W.heap:=
 ⟨C00 h,cell_of_shapedOpen_int (t:=3) (zero:=#[.int .i64 0]) oC (of_decide_eq_true (by kernel_rfl)) (by kernel_rfl) rfl (by kernel_rfl) (by kernel_rfl) underlying3⟩
def okB{H:Type}(t:TypeId)(d:DataW H):Prop:=Rows.uptoBulk d≤1048576
theorem B14{H:Type}:∀{l:List (DataW H)} {d:DataW H},d∈l→Rows.uptoBulk d≤Rows.uptoBulkAll l
 |x::l,d,h=>by
  simp only[Rows.uptoBulkAll]
  rcases D7.1 h with rfl|h
  ·omega
  ·have:=B14 h
   omega
theorem C5K{H:Type}(d:DataW H):1≤Rows.uptoBulk d:=by
 cases d with
 |lit l=>cases l<;>simp[Rows.uptoBulk]
 |_=>simp[Rows.uptoBulk]
theorem C0H{H:Type}:∀(l:List (DataW H)),l.length≤Rows.uptoBulkAll l
 |[]=>C9 _
 |d::l=>by
  have:=C0H l
  have:=C5K d
  simp only[B7,Rows.uptoBulkAll]
  omega
theorem C2O{H:Type}:Go.R.OkLaw (H:=H) prog okB 1048576 (fun _=>1) where
 str h:=by simp only[okB,Rows.uptoBulk] at h;omega
 elem _ h hd:=by simp only[okB,Rows.uptoBulk] at h⊢;have:=B14 hd;omega
 eT {t e elems rest} _ h:=by simp only[okB,Rows.uptoBulk] at h;have:=C0H elems;omega
 field _ h _ hd:=by simp only[okB,Rows.uptoBulk] at h⊢;have:=B14 (F1 hd);omega
 arr _ h hd:=by simp only[okB,Rows.uptoBulk] at h⊢;have:=B14 hd;omega
section
variable {H:Type} {ec:TypeId×Value→H} {w:World} {base:Nat} {sp:Nat→Bool} {held:Bool} {ok:TypeId→DataW H→Prop} {top:Nat} {wt:TypeId→Nat}
end
end
end Go.Proofs.YtidlldnlphdhcaaGreatDoor
namespace Go.H
section
section
variable {α β γ σ τ:Type} {h:Heap} {s:σ}
theorem cut{m:HM α}{f:α→HM β}{Q:β→Heap→Prop}(P:α→Heap→Prop)(h1:∀K:α→Heap→Prop,(∀a h',P a h'→K a h')→m h K)(h2:∀a h',P a h'→f a h' Q):(HM.bind m f) h Q:=h1 _ h2
theorem B6S{p:Prop}{R:List Asn}{m:PH}(hp:p)(h:A0L R m):A0L (pr p::R) m:=by
 refine⟨fun _=>none,m,fun k=>.inl rfl,?_,hp,h⟩
 funext k;rfl
theorem A7i{body:σ→HM (σ⊕τ)}{Q:τ→Heap→Prop}(J:γ→σ→Heap→Prop)(μ:γ→Nat)(g:γ)(h0:J g s h)
  (hr:∀g s h,J g s h→∀K:σ⊕τ→Heap→Prop,(∀g' s' h',μ g'<μ g→J g' s' h'→K (.inl s') h')→(∀t h',Q t h'→K (.inr t) h')→body s h K):HM.loop body s h Q:=by
 classical
 have hex:∀(s:σ) (h:Heap),(∃g,J g s h)→∃n,∃g,J g s h∧μ g=n:=fun s h ⟨g,hg⟩=>⟨μ g,g,hg,rfl⟩
 have key:∀(n:Nat) (s:σ) (h:Heap),(∃g,J g s h∧μ g=n)→∃m,(∃g,J g s h∧μ g=m)∧∀g,J g s h→m≤μ g:=by
  intro n
  induction n using Nat.strongRecOn with
  |_ n ih=>
   intro s h hn
   by_cases hl:∃g,J g s h∧μ g<n
   ·obtain⟨g,hg,ah⟩:=hl
    exact ih _ ah s h ⟨g,hg,rfl⟩
   ·exact⟨n,hn,fun g hg=>by
     rcases S6 (μ g) n with h1|h1
     ·exact absurd ⟨g,hg,h1⟩ hl
     ·exact h1⟩
 refine⟨fun s h=>∃g,J g s h,fun s h=>if hh:∃m,(∃g,J g s h∧μ g=m)∧∀g,J g s h→m≤μ g then Classical.choose hh else 0,⟨g,h0⟩,?_⟩
 intro s h hi
 obtain⟨n,hn⟩:=hex s h hi
 have hm:=key n s h hn
 obtain⟨⟨g,hg,yk⟩,iL⟩:=P9 hm
 refine hr g s h hg _ (fun g' s' h' ah hJ=>?_) (fun t h' hq=>hq)
 refine⟨⟨g',hJ⟩,?_⟩
 have kP:=key (μ g') s' h' ⟨g',hJ,rfl⟩
 have h2:=(P9 kP).2 g' hJ
 simp only[dif_pos kP,dif_pos hm]
 omega
theorem B5x{c:σ→Bool}{B E:σ→HM (σ⊕τ)}{Q:τ→Heap→Prop}(n:Nat)(J:Nat→σ→Heap→Prop)(h0:J 0 s h)(hc:∀i s h,i≤n→J i s h→c s=decide (i<n))
  (hE:∀s h,J n s h→∀K:σ⊕τ→Heap→Prop,(∀t h',Q t h'→K (.inr t) h')→E s h K)
  (hB:∀i s h,i<n→J i s h→∀K:σ⊕τ→Heap→Prop,(∀s' h',J (i+1) s' h'→K (.inl s') h')→(∀t h',Q t h'→K (.inr t) h')→B s h K):
  HM.loop (fun s=>A1s (c s) (B s) (E s)) s h Q:=by
 refine A7i (fun i s h=>i≤n∧J i s h) (fun i=>n-i) 0 ⟨C9 _,h0⟩ ?_
 rintro i s h ⟨hi,hJ⟩ K h1 h2
 rw[U6,hc i s h hi hJ]
 by_cases ah:i<n
 ·rw[if_pos (by simpa using ah)]
  exact hB i s h ah hJ K (fun s' h' oU=>h1 (i+1) s' h' (by omega) ⟨ah,oU⟩) h2
 ·have:i=n:=by omega
  subst this
  rw[if_neg (by simp)]
  exact hE s h hJ K h2
variable {KT V:Type} {ek:KT→Value} {ev:V→Value} {m it:Nat} {l:List (KT×V)}
theorem C5e{N:σ→HM (σ⊕τ)}{S:σ→Value×Value→HM (σ⊕τ)}{Q:τ→Heap→Prop}(J:List (KT×V)→σ→List Asn)(h0:sat h (itA ek ev m l it [] l::J [] s))
  (hN:∀done s h,done.Perm l→sat h (mapA ek ev m l::J done s)→∀K:σ⊕τ→Heap→Prop,(∀t h',Q t h'→K (.inr t) h')→N s h K)
  (hS:∀done p rest s h,(done++p::rest).Perm l→sat h (itA ek ev m l it (done++[p]) rest::J done s)→∀K:σ⊕τ→Heap→Prop,
   (∀s' h',sat h' (itA ek ev m l it (done++[p]) rest::J (done++[p]) s')→K (.inl s') h')→(∀t h',Q t h'→K (.inr t) h')→S s (ek p.1,ev p.2) h K):
  HM.loop (fun s=>HM.bind (A74 it) fun o=>A2H o (N s) (S s)) s h Q:=by
 refine A7i (γ:=List (KT×V)×List (KT×V)) (fun g s h=>(g.1++g.2).Perm l∧sat h (itA ek ev m l it g.1 g.2::J g.1 s)) (fun g=>g.2.length) ([],l) ⟨I9 _,h0⟩ ?_
 rintro⟨done,todo⟩ s h ⟨hp,hs⟩ K h1 h2
 simp only at hp hs
 rw[U0]
 refine B1z hs (fun ht=>?_) (fun p t1 t2 ht h' af=>?_)
 ·subst ht
  rw[C1] at hp
  exact hN done s h hp (A89 hs) K h2
 ·subst ht
  have di:(done++p::(t1++t2)).Perm l:=by
   refine List.Perm.trans (Q3 done ?_) hp
   exact P7.symm
  refine hS done p (t1++t2) s h' di af K (fun s' aR nC=>h1 (done++[p],t1++t2) s' aR (by simp) ⟨?_,nC⟩) h2
  simpa using di
end
end
section
section
variable {α:Type} {enc:α→C9w} {size:Nat} {h h0:Heap} {s:Slc} {xs:List α} {R:List Asn}
theorem C0o(ao:∀x,(enc x).length=size):∀(xs:List α) (i:Nat) (v:Value),(xs.flatMap enc)[i]? =some v→∃q x r,xs[q]? =some x∧(enc x)[r]? =some v∧i=q*size+r
 |[],i,v,h=>by simp at h
 |x::xs,i,v,h=>by
  rw[D5] at h
  rcases S6 i size with hi|hi
  ·rw[List.getElem?_append_left (by rw[ao];exact hi)] at h
   exact⟨0,x,i,rfl,h,by simp⟩
  ·rw[List.getElem?_append_right (by rw[ao];exact hi),ao] at h
   obtain⟨q,y,r,h1,h2,h3⟩:=C0o ao xs _ v h
   exact⟨q+1,y,r,by simpa using h1,h2,by rw[J1];omega⟩
theorem A8T(a:Addr)(m r:Nat):(a.add m).add r=a.add (m+r):=by
 unfold Addr.add
 by_cases h1:m=0<;>by_cases h2:r=0<;>simp[h1,h2,Nat.add_assoc]
theorem C3y(ao:∀x,(enc x).length=size)(hr:Z5 enc size h s xs)(hsz:0<size):A5X h s.a (s.len*size) (xs.flatMap enc).toArray:=by
 unfold A5X
 cases ha:s.a with
 |none=>
  cases xs with
  |nil=>rfl
  |cons x xs=>
   obtain⟨a,h1,_⟩:=hr.2.2 0 x rfl
   rw[ha] at h1;cases h1
 |some a=>
  refine⟨by simp[v7 ao,hr.1],fun i v hi=>?_⟩
  obtain⟨q,x,r,h1,h2,rfl⟩:=C0o ao xs i v (by simpa using hi)
  obtain⟨a',h3,h4⟩:=hr.2.2 q x h1
  rw[ha] at h3;cases h3
  have:=h4 r v h2
  rwa[A8T] at this
theorem C0P(ao:∀x,(enc x).length=size)(dm:∀x,∀v∈enc x,v.oneCell'=true){elem:TypeId}{bytes n:Nat}{zero:C9v}(hz:zero.size=size){src:Heap→C9v→Prop}{ys:List α}{Q:Slc→Heap→Prop}
  (hs:sat h R)(hr:Z5 enc size h s xs)(nU:s.cap=s.len)(hn:ys.length=n)(gd:src h (ys.flatMap enc).toArray)(hsz:0<size)(gM:0<bytes)(h0:0<n)(hb:(xs.length+n)*bytes≤140737488355328)
  (hq:∀s' h',sat h' (U4 enc size s' (xs++ys)::R)→Q s' h'):HM.append elem size bytes zero s n src h Q:=by
 have hl:=hr.1
 have iS:xs.length+n≤140737488355328:=C4 (Nat.le_mul_of_pos_right _ gM) hb
 constructor
 ·intro hc;omega
 ·intro hc
  refine⟨by omega,growslice_fits hc (by rw[hl];exact hb),(xs.flatMap enc).toArray,_,C3y ao hr hsz,gd,fun c fh _=>hq _ _ ?_⟩
  have ho:(xs.flatMap enc).toArray.size=s.len*size:=by simp[v7 ao,hl]
  refine A1A (o:=0) ⟨by simp,fh,by simp[hl,hn],S8 ?_,?_⟩ hs.bJ
  ·simp only[K9,Array.size_append,ho,Builtin.zeroCells,Array.size_map,Array.size_range,hz,List.size_toArray,v7 ao,hn]
   rw[hl,←J3,←J3]
   congr 1
   omega
  ·simp only[Array.toList_append,I5,S7,R9]
   rw[P0 (by simp only[B4,v7 ao];rw[hl,J3,hn];exact D6 _)]
   rw[D2]
   simp only[B4,v7 ao]
   rw[hl,J3,hn]
   exact D6 _
end
end
section
section
variable {α:Type} {enc:α→C9w} {size:Nat} {h:Heap} {s:Slc} {xs:List α} {R:List Asn}
theorem C0n(ao:∀x,(enc x).length=size){j:Nat}{v:Value}(hj:j<size):∀(xs:List α) (i:Nat) (x x':α),xs[i]? =some x→enc x'=(enc x).set j v→(xs.flatMap enc).set (i*size+j) v=(xs.set i x').flatMap enc
 |[],i,x,x',hx,_=>by simp at hx
 |y::xs,0,x,x',hx,he=>by
  simp only[P1,F3] at hx
  subst hx
  rw[List.set_cons_zero,D5,D5,he,S7,K9,List.set_append_left _ _ (by rw[ao];exact hj)]
 |y::xs,i+1,x,x',hx,he=>by
  rw[P2] at hx
  rw[List.set_cons_succ,D5,D5,List.set_append_right _ _ (by rw[ao,J1];omega),ao]
  rw[show(i+1)*size+j-size=i*size+j from by rw[J1];omega,C0n ao hj xs i x x' hx he]
theorem B8T(ao:∀x,(enc x).length=size)(hs:sat h (U4 enc size s xs::R)){i:Nat}{x:α}(hx:xs[i]? =some x){Q:Addr→Heap→Prop}
  (hq:∀p:Addr,(∀j v,(enc x)[j]? =some v→V9 h (p.add j)=some v)→
   (∀(j:Nat) (v:Value) (x':α) (Q':Unit→Heap→Prop),j<size→enc x'=(enc x).set j v→v.oneCell'=true→(∀h',sat h' (U4 enc size s (xs.set i x')::R)→Q' () h')→A6V (p.add j) v h Q')→Q p h):
  A4q s.a s.len (i:Int) size h Q:=by
 have ck:=(D8.1 hx).1
 rcases A1B hs with⟨-,-,rfl,-⟩|⟨b,o,cs,ho,aa⟩
 ·simp at hx
 have aM:=hs.aO ao
 obtain⟨a,ha,hc⟩:=aM.2.2 i x hx
 have xB:a=⟨b,o*size,none⟩:=by rw[ho.a] at ha;exact(Option.some.inj ha).symm
 subst xB
 refine⟨_,ho.a,Int.natCast_nonneg _,by rw[ho.len];omega,?_⟩
 rw[N9]
 refine hq _ hc fun j v x' Q' hj he hv ed=>?_
 rw[Addr.bL,Addr.bL]
 have dY:o*size+i*size+j<cs.size:=by
  refine Nat.lt_of_lt_of_le ?_ ho.dO
  have h1:(i+1)*size≤s.cap*size:=Q5 _ (by have:=ho.le;have:=ho.len;omega)
  rw[J1] at h1
  rw[J3]
  omega
 refine W5 aa dY hv fun h' af=>ed h' (A1A (b:=b) (o:=o) ⟨ho.a,ho.le,by rw[List.length_set];exact ho.len,by rw[Array.size_setIfInBounds];exact ho.dO,?_⟩ af)
 rw[P5,List.drop_set,if_neg (by omega),List.take_set,ho.front,show o*size+i*size+j-o*size=i*size+j by omega]
 exact C0n ao hj xs i x x' hx he
end
end
section
def At(L:List Asn)(q:Heap→Prop):Prop:=∀h,sat h L→q h
def W{α:Type}(L:List Asn)(m:HM α)(Q:α→Heap→Prop):Prop:=∀h,sat h L→m h Q
def FW(P:Program)(f:FuncId)(args:C9v)(L:List Asn)(Q:Value→Heap→Prop):Prop:=∀h,sat h L→V2 P f args h Q
def Has(L:List Asn)(A:Asn)(L':List Asn):Prop:=∀m,A0L L m→A0L (A::L') m
def Sub(L L':List Asn):Prop:=∀m,A0L L m→A0L L' m
class Enc {α:Type} (enc:α→C9w) (size:outParam Nat):Prop where
 len:∀x,(enc x).length=size
 cell:∀x,∀v∈enc x,v.oneCell'=true
 pos:0<size
section
variable {A B C D E F:Asn} {L L1 L2 L3 L4 L5 L6 L' R:List Asn} {h:Heap}
theorem nbq{α:Type}[BEq α][LawfulBEq α](a:α):(!(a==a))=false:=by simp
theorem nbd{p:Prop}[Decidable p](hp:p):(!(decide p))=false:=by simp[hp]
theorem U9:Has (A::L) A L:=fun _ hs=>hs
theorem V1(hx:Has L A L'):Has (B::L) A (B::L'):=fun _ hs=>y7 (A0x (fun _ h=>h) hx hs)
theorem Sub.rfl:Sub L L:=fun _ hs=>hs
theorem Sub.nil:Sub L []:=fun _ _=>trivial
theorem Sub.drop(hr:Sub L R):Sub (A::L) R:=fun m hs=>by
 obtain⟨a,b,hd,rfl,ha,hb⟩:=hs
 exact A2V.up R (a.join b) b (fun k o ho=>A7p hd ho) (hr b hb)
theorem Sub.cons(hx:Has L A L1)(hr:Sub L1 R):Sub L (A::R):=fun m hs=>A0x (fun _ h=>h) hr (hx m hs)
theorem Has.s(hx:Has L A L')(hs:sat h L):sat h (A::L'):=let⟨m,h1,h2⟩:=hs;⟨m,h1,hx m h2⟩
theorem Sub.s(hx:Sub L L')(hs:sat h L):sat h L':=let⟨m,h1,h2⟩:=hs;⟨m,h1,hx m h2⟩
theorem Has.then(hx:Has L A L1)(hy:Has L1 B L2):Sub L (A::B::L2):=fun m hs=>A0x (fun _ h=>h) hy (hx m hs)
variable {α β:Type} {m:HM α} {Q:α→Heap→Prop} {q:Heap→Prop} {p:Prop}
theorem T5:type_of% @Sub.rfl:=@Sub.rfl
theorem T6:type_of% @Sub.nil:=@Sub.nil
theorem T7:type_of% @Sub.cons:=@Sub.cons
theorem T8:type_of% @Sub.drop:=@Sub.drop
theorem At.sub(hq:At L' q)(hs:Sub L L':=by repeat(first|with_reducible exact T5|with_reducible exact T6|refine T7 (by repeat first|with_reducible exact U9|apply V1) ?_|refine T8 ?_)):At L q:=fun h h1=>hq h (hs.s h1)
theorem W.sub(hq:W L' m Q)(hs:Sub L L':=by repeat(first|with_reducible exact T5|with_reducible exact T6|refine T7 (by repeat first|with_reducible exact U9|apply V1) ?_|refine T8 ?_)):W L m Q:=fun h h1=>hq h (hs.s h1)
theorem A2b{X:Type}{g:X→List Asn→List Asn}(hf:∀h R,sat h (A::R)→∃x,sat h (g x R))(hw:∀x,W (g x L') m Q)(hx:Has L A L':=by repeat first|with_reducible exact U9|apply V1):W L m Q:=fun h hs=>by
 obtain⟨x,h1⟩:=hf h L' (hx.s hs)
 exact hw x h h1
theorem A8U{X Y:Type}{g:X→Y→List Asn→List Asn}(hf:∀h R,sat h (A::R)→∃x y,sat h (g x y R))(hw:∀x y,W (g x y L') m Q)(hx:Has L A L':=by repeat first|with_reducible exact U9|apply V1):W L m Q:=fun h hs=>by
 obtain⟨x,y,h1⟩:=hf h L' (hx.s hs)
 exact hw x y h h1
theorem A6a{X Y Z:Type}{g:X→Y→Z→List Asn→List Asn}(hf:∀h R,sat h (A::R)→∃x y z,sat h (g x y z R))(hw:∀x y z,W (g x y z L') m Q)(hx:Has L A L':=by repeat first|with_reducible exact U9|apply V1):W L m Q:=fun h hs=>by
 obtain⟨x,y,z,h1⟩:=hf h L' (hx.s hs)
 exact hw x y z h h1
theorem B68{X:Type}{r:X→Prop}{g:X→List Asn→List Asn}(hf:∀h R,sat h (A::R)→∃x,r x∧sat h (g x R))(hw:∀x,r x→W (g x L') m Q)(hx:Has L A L':=by repeat first|with_reducible exact U9|apply V1):W L m Q:=fun h hs=>by
 obtain⟨x,h0,h1⟩:=hf h L' (hx.s hs)
 exact hw x h0 h h1
theorem C2k(hf:∀h R,sat h (A::R)→sat h (B::C::R))(hw:W (B::C::L') m Q)(hx:Has L A L':=by repeat first|with_reducible exact U9|apply V1):W L m Q:=fun h hs=>hw h (hf h L' (hx.s hs))
theorem B9j(hf:∀h R,sat h (A::R)→sat h (B::R))(hw:W (B::L') m Q)(hx:Has L A L':=by repeat first|with_reducible exact U9|apply V1):W L m Q:=fun h hs=>hw h (hf h L' (hx.s hs))
theorem Y2(hf:∀h R,sat h (A::R)→p)(hw:p→W L m Q)(hx:Has L A L':=by repeat first|with_reducible exact U9|apply V1):W L m Q:=fun h hs=>hw (hf h L' (hx.s hs)) h hs
theorem C7a(mk:∀h,sat h (B::L1)→sat h (A::L1))(hw:W (A::L1) m Q)(hb:Has L B L1:=by repeat first|with_reducible exact U9|apply V1):W L m Q:=fun h hs=>hw h (mk h (hb.s hs))
theorem W.cZ(mk:∀h,sat h (B::C::L2)→sat h (A::L2))(hw:W (A::L2) m Q)(hb:Has L B L1:=by repeat first|with_reducible exact U9|apply V1)(hc:Has L1 C L2:=by repeat first|with_reducible exact U9|apply V1):W L m Q:=fun h hs=>hw h (mk h ((hb.then hc).s hs))
theorem Has.cV(hb:Has L B L1)(hc:Has L1 C L2)(hd:Has L2 D L3):Sub L (B::C::D::L3):=fun m hs=>A0x (fun _ h=>h) (hc.then hd) (hb m hs)
theorem Has.eH(hb:Has L B L1)(hc:Has L1 C L2)(hd:Has L2 D L3)(he:Has L3 E L4):Sub L (B::C::D::E::L4):=fun m hs=>A0x (fun _ h=>h) (hc.cV hd he) (hb m hs)
theorem B2b(mk:∀h,sat h (B::C::D::L3)→sat h (A::L3))(hw:W (A::L3) m Q)(hb:Has L B L1:=by repeat first|with_reducible exact U9|apply V1)(hc:Has L1 C L2:=by repeat first|with_reducible exact U9|apply V1)(hd:Has L2 D L3:=by repeat first|with_reducible exact U9|apply V1):W L m Q:=fun h hs=>hw h (mk h ((hb.cV hc hd).s hs))
theorem B0H(mk:∀h,sat h (B::C::D::E::L4)→sat h (A::L4))(hw:W (A::L4) m Q)(hb:Has L B L1:=by repeat first|with_reducible exact U9|apply V1)(hc:Has L1 C L2:=by repeat first|with_reducible exact U9|apply V1)(hd:Has L2 D L3:=by repeat first|with_reducible exact U9|apply V1)(he:Has L3 E L4:=by repeat first|with_reducible exact U9|apply V1):W L m Q:=fun h hs=>hw h (mk h ((hb.eH hc hd he).s hs))
variable {f:α→HM β} {Q':β→Heap→Prop} {b:Bool} {x y:HM β}
theorem U1{a:α}(hq:At L (Q a)):W L (X0 a) Q:=hq
theorem b7{a:α}(hw:W L (f a) Q'):W L (HM.bind (X0 a) f) Q':=hw
theorem X2{γ:Type}{m:HM γ}{g:γ→HM α}(hw:W L (HM.bind m fun x=>HM.bind (g x) f) Q'):W L (HM.bind (HM.bind m g) f) Q':=hw
theorem A0e(ht:b=true→W L x Q')(hf:b=false→W L y Q'):W L (A1s b x y) Q':=fun h hs=>by
 rw[U6];cases b
 ·exact hf (Eq.refl _) h hs
 ·exact ht (Eq.refl _) h hs
theorem X7(hb:b=true)(hw:W L x Q'):W L (A1s b x y) Q':=by subst hb;exact hw
theorem W6(hb:b=false)(hw:W L y Q'):W L (A1s b x y) Q':=by subst hb;exact hw
theorem C8c{u v:HM α}(ht:b=true→W L (HM.bind u f) Q')(hf:b=false→W L (HM.bind v f) Q'):W L (HM.bind (A1s b u v) f) Q':=fun h hs=>by
 rw[U0,U6];cases b
 ·exact hf (Eq.refl _) h hs
 ·exact ht (Eq.refl _) h hs
theorem A1d{u v:HM α}(hb:b=true)(hw:W L (HM.bind u f) Q'):W L (HM.bind (A1s b u v) f) Q':=by subst hb;exact hw
theorem l7{u v:HM α}(hb:b=false)(hw:W L (HM.bind v f) Q'):W L (HM.bind (A1s b u v) f) Q':=by subst hb;exact hw
theorem A06(hw:W L x Q')(hp:p):W L (A2w p x) Q':=fun h hs=>⟨hp,hw h hs⟩
theorem W.inl{γ δ:Type}{u:γ→HM β}{v:δ→HM β}{a:γ}(hw:W L (u a) Q'):W L (Sum.elim u v (Sum.inl a)) Q':=hw
theorem W.inr{γ δ:Type}{u:γ→HM β}{v:δ→HM β}{a:δ}(hw:W L (v a) Q'):W L (Sum.elim u v (Sum.inr a)) Q':=hw
theorem A7O(h1:W L x Q')(h2:W L y Q'):W L (A0B x y) Q':=fun h hs=>⟨h1 h hs,h2 h hs⟩
theorem W3{a:Addr}{f:Addr→HM β}(hw:W L (f a) Q'):W L (HM.bind (A75 (some a)) f) Q':=fun h hs=>by rw[U0,C82];exact hw h hs
theorem W.cut(P:α→List Asn)(h1:∀K:α→Heap→Prop,(∀a,At (P a) (K a))→W L m K)(h2:∀a,W (P a) (f a) Q'):W L (HM.bind m f) Q':=fun h hs=>h1 (fun a h'=>f a h' Q') (fun a h' af=>h2 a h' af) h hs
theorem C2l(p:α→Prop)(P:α→List Asn)(h1:∀K:α→Heap→Prop,(∀a,p a→At (P a) (K a))→W L m K)(h2:∀a,p a→W (P a) (f a) Q'):W L (HM.bind m f) Q':=fun h hs=>h1 (fun a h'=>f a h' Q') (fun a hp h' af=>h2 a hp h' af) h hs
theorem A07(p:α→Prop)(h1:∀K:α→Heap→Prop,(∀a,p a→At L (K a))→W L m K)(h2:∀a,p a→W L (f a) Q'):W L (HM.bind m f) Q':=C2l p (fun _=>L) h1 h2
theorem C8d{X:Type}(p:X→α→Prop)(P:X→α→List Asn)(h1:∀K:α→Heap→Prop,(∀x a,p x a→At (P x a) (K a))→W L m K)(h2:∀x a,p x a→W (P x a) (f a) Q'):W L (HM.bind m f) Q':=fun h hs=>h1 (fun a h'=>f a h' Q') (fun x a hp h' af=>h2 x a hp h' af) h hs
theorem Y0{f:Nat→HM β}{cs:C9v}{T:TypeId}(hw:∀b,W (cells b cs::L) (f b) Q'):W L (HM.bind (HM.new (.cells cs T)) f) Q':=fun h hs=>V4 hs fun b h' af=>hw b h' af
theorem C8a{K V:Type}{ek:K→Value}{ev:V→Value}{f:Nat→HM β}(hw:∀b,W (mapA ek ev b []::L) (f b) Q'):W L (HM.bind (HM.new (.map #[] 0)) f) Q':=fun h hs=>A7e hs fun b h' af=>hw b h' af
theorem W.load{t:Tag}{b i:Nat}{cs:C9v}{v:t.ty}{f:t.ty→HM β}(hw:W L (f v) Q')(hx:Has L (cells b cs) L':=by repeat first|with_reducible exact U9|apply V1)(hv:(cs[i]?).bind t.get=some v:=by rfl):W L (HM.bind (o9 t (Addr.add ⟨b,0,none⟩ i)) f) Q':=fun h hs=>by
 refine⟨v,?_,hw h hs⟩
 rw[U2,(hx.s hs).cell i]
 cases hc:cs[i]? with
 |none=>rw[hc] at hv;cases hv
 |some u=>rw[hc] at hv;exact congrArg some (Tag.bT hv)
theorem B4u{t:Tag}{b:Nat}{cs:C9v}{v:t.ty}{f:t.ty→HM β}(hw:W L (f v) Q')(hx:Has L (cells b cs) L':=by repeat first|with_reducible exact U9|apply V1)(hv:(cs[0]?).bind t.get=some v:=by rfl):W L (HM.bind (o9 t ⟨b,0,none⟩) f) Q':=by
 have:=W.load (i:=0) (f:=f) hw hx hv
 exact this
theorem i7{t:Tag}{a:Addr}{b i:Nat}{cs:C9v}{v:t.ty}{f:t.ty→HM β}(hw:W L (f v) Q')(ha:a=⟨b,i,none⟩:=by rfl)(hx:Has L (cells b cs) L':=by repeat first|with_reducible exact U9|apply V1)(hv:(cs[i]?).bind t.get=some v:=by rfl):W L (HM.bind (o9 t a) f) Q':=fun h hs=>by
 subst ha
 refine⟨v,?_,hw h hs⟩
 rw[(hx.s hs).cell i]
 cases hc:cs[i]? with
 |none=>rw[hc] at hv;cases hv
 |some u=>rw[hc] at hv;exact congrArg some (Tag.bT hv)
theorem q8{ts:List Tag}{b:Nat}{cs:C9v}{v:Tup ts}{f:Tup ts→HM β}(hw:W L (f v) Q')(hx:Has L (cells b cs) L':=by repeat first|with_reducible exact U9|apply V1)(hv:Tup.get ts cs.toList=some v:=by rfl):W L (HM.bind (o4 ts ⟨b,0,none⟩) f) Q':=fun h hs=>
 Y4 v (hx.s hs) (I2.1 (Tup.bI ts _ v hv)) (hw h hs)
theorem A8g{ts:List Tag}{b i:Nat}{cs:C9v}{v:Tup ts}{f:Tup ts→HM β}(hw:W L (f v) Q')(hx:Has L (Go.H.cells b cs) L':=by repeat first|with_reducible exact U9|apply V1)(hv:Tup.get ts ((cs.toList.drop i).take ts.length)=some v:=by rfl):W L (HM.bind (o4 ts (Addr.add ⟨b,0,none⟩ i)) f) Q':=fun h hs=>by
 refine⟨v,fun j u hu=>?_,hw h hs⟩
 rw[←Tup.bI ts _ v hv,L7] at hu
 split at hu
 ·rw[N4] at hu
  rw[U2,Addr.bL,(hx.s hs).cell]
  simpa using hu
 ·cases hu
theorem A4e{a:Addr}{b i:Nat}{cs cs':C9v}{v:Value}{f:Unit→HM β}(hw:W (Go.H.cells b cs'::L') (f ()) Q')(ha:a=⟨b,i,none⟩:=by rfl)(hx:Has L (Go.H.cells b cs) L':=by repeat first|with_reducible exact U9|apply V1)(hc:(if i<cs.size then cs.toList.set i v else[])=cs'.toList:=by rfl)(hn:0<cs'.size:=by exact Nat.zero_lt_succ _)(hv:v.oneCell'=true:=by rfl):W L (HM.bind (A6V a v) f) Q':=fun h hs=>by
 subst ha
 rw[U0]
 by_cases hi:i<cs.size
 ·rw[if_pos hi] at hc
  refine W5 (hx.s hs) hi hv fun h' af=>hw h' ?_
  have:cs'=cs.setIfInBounds i v:=by
   apply I2.1;rw[←hc,P5]
  rw[this];exact af
 ·rw[if_neg hi] at hc
  have:=congrArg List.length hc
  simp at this
  omega
theorem W.store{b i:Nat}{cs cs':C9v}{v:Value}{f:Unit→HM β}(hw:W (cells b cs'::L') (f ()) Q')(hx:Has L (cells b cs) L':=by repeat first|with_reducible exact U9|apply V1)(hc:(if i<cs.size then cs.toList.set i v else[])=cs'.toList:=by rfl)(hn:0<cs'.size:=by exact Nat.zero_lt_succ _)(hv:v.oneCell'=true:=by rfl):W L (HM.bind (A6V (Addr.add ⟨b,0,none⟩ i) v) f) Q':=fun h hs=>by
 rw[U0,U2]
 by_cases hi:i<cs.size
 ·rw[if_pos hi] at hc
  refine W5 (hx.s hs) hi hv fun h' af=>hw h' ?_
  have:cs'=cs.setIfInBounds i v:=by
   apply I2.1;rw[←hc,P5]
  rw[this];exact af
 ·rw[if_neg hi] at hc
  have:=congrArg List.length hc
  simp at this
  omega
theorem A0a{b:Nat}{cs:C9v}{vs:C9w}{f:Unit→HM β}(hw:W (cells b vs.toArray::L') (f ()) Q')(hx:Has L (cells b cs) L':=by repeat first|with_reducible exact U9|apply V1)(hl:vs.length=cs.size:=by rfl)(hv:vs.all (fun v=>v.oneCell')=true:=by rfl):W L (HM.bind (A91 ⟨b,0,none⟩ vs) f) Q':=fun h hs=>
 l0 (hx.s hs) hl hv fun h' af=>hw h' af
theorem W.cells{b:Nat}{cs:C9v}(cs':C9v)(hw:W (cells b cs'::L') m Q)(hx:Has L (Go.H.cells b cs) L':=by repeat first|with_reducible exact U9|apply V1)(hc:cs=cs':=by rfl):W L m Q:=by subst hc;exact W.sub hw (fun m hs=>hx m hs)
theorem b6{P:Program}{k:Kind}{fn:FuncId}{args:C9v}{f:k.ty→HM β}(hc:FW P fn args L (k.un fun x h'=>f x h' Q')):W L (HM.bind (A1n P k fn args) f) Q':=hc
theorem Z1{P:Program}{ks:List Kind}{fn:FuncId}{args:C9v}{f:p8 ks→HM β}(hc:FW P fn args L (p8.un ks fun x h'=>f x h' Q')):W L (HM.bind (u3 P ks fn args) f) Q':=hc
theorem At.un{k:Kind}{v:Value}{x:k.ty}{f:k.ty→HM β}(hw:W L (f x) Q')(hv:k.get v=some x:=by rfl):At L (k.un (fun x h'=>f x h' Q') v):=fun h hs=>⟨x,Kind.bT hv,hw h hs⟩
def unT(v:Value):C9w:=match v with|.tuple a=>a.toList|_=>[]
def isT(v:Value):Bool:=match v with|.tuple a=>true|_=>false
theorem At.bD{ks:List Kind}{v:Value}{x:p8 ks}{f:p8 ks→HM β}(hw:W L (f x) Q')(hv:p8.get ks (unT v)=some x:=by rfl)(ht:isT v=true:=by rfl):At L (p8.un ks (fun x h'=>f x h' Q') v):=fun h hs=>by
 refine⟨x,?_,hw h hs⟩
 cases v with
 |tuple a=>exact congrArg Value.tuple (I2.1 (p8.bI ks _ x hv))
 |_=>cases ht
section
variable {γ:Type} {enc:γ→C9w} {size:Nat} {s:Slc} {xs:List γ} {h0:Heap}
def El(s:Slc)(size i:Nat)(a:Addr):Prop:=∃x,s.a=some x∧a=x.add (i*size)
def ElO(h0:Heap)(l:C9w)(a:Addr):Prop:=∀j v,l[j]? =some v→V9 h0 (a.add j)=some v
theorem El.row(hr:Z5 enc size h0 s xs){i:Nat}{x:γ}(hi:xs[i]? =some x){a:Addr}(ha:El s size i a):ElO h0 (enc x) a:=by
 obtain⟨y,h1,rfl⟩:=ha
 obtain⟨a,h2,h3⟩:=hr.2.2 i x hi
 rw[h1] at h2
 cases h2
 exact h3
theorem e8{i:Nat}{e:Int}{f:Addr→HM β}(hi:i<xs.length)(hw:∀a,El s size i a→W L (f a) Q')(hx:Has L (U4 enc size s xs) L':=by repeat first|with_reducible exact U9|apply V1)(he:e=(i:Int):=by rfl)[Enc enc size]:W L (HM.bind (A4q s.a s.len e size) f) Q':=fun h hs=>by
 have hr:=(hx.s hs).aO (Enc.len (enc:=enc))
 obtain⟨a,ha,hc⟩:=hr.2.2 i _ (B0 hi)
 refine⟨a,ha,by omega,by have:=hr.1;omega,?_⟩
 subst he
 exact hw _ ⟨a,ha,by rw[N9]⟩ h hs
theorem A7N{i:Nat}{e:Int}{f:Addr→HM β}(hr:Z5 enc size h0 s xs)(hi:i<xs.length)(hw:∀a,El s size i a→W L (f a) Q')(he:e=(i:Int):=by rfl):W L (HM.bind (A4q s.a s.len e size) f) Q':=fun h hs=>by
 obtain⟨a,ha,hc⟩:=hr.2.2 i _ (B0 hi)
 refine⟨a,ha,by omega,by have:=hr.1;omega,?_⟩
 subst he
 exact hw _ ⟨a,ha,by rw[N9]⟩ h hs
theorem A3Q{t:Tag}{i k:Nat}{a:Addr}{x:γ}{v:t.ty}{f:t.ty→HM β}(ha:El s size i a)(hi:xs[i]? =some x)(hw:W L (f v) Q')(hx:Has L (U4 enc size s xs) L':=by repeat first|with_reducible exact U9|apply V1)(hv:((enc x)[k]?).bind t.get=some v:=by rfl)[Enc enc size]:W L (HM.bind (o9 t (Addr.add a k)) f) Q':=fun h hs=>by
 have:=ha.row ((hx.s hs).aO (Enc.len (enc:=enc))) hi
 cases hc:(enc x)[k]? with
 |none=>rw[hc] at hv;cases hv
 |some u=>
  rw[hc] at hv
  exact⟨v,by rw[this k u hc];exact congrArg some (Tag.bT hv),hw h hs⟩
theorem B6G{t:Tag}{i:Nat}{a:Addr}{x:γ}{v:t.ty}{f:t.ty→HM β}(ha:El s size i a)(hi:xs[i]? =some x)(hw:W L (f v) Q')(hx:Has L (U4 enc size s xs) L':=by repeat first|with_reducible exact U9|apply V1)(hv:((enc x)[0]?).bind t.get=some v:=by rfl)[Enc enc size]:W L (HM.bind (o9 t a) f) Q':=by
 have:=A3Q (k:=0) (f:=f) ha hi hw hx hv
 rwa[add_zero] at this
theorem B3e{ts:List Tag}{i:Nat}{a:Addr}{x:γ}{v:Tup ts}{f:Tup ts→HM β}(ha:El s size i a)(hi:xs[i]? =some x)(hw:W L (f v) Q')(hx:Has L (U4 enc size s xs) L':=by repeat first|with_reducible exact U9|apply V1)(hv:Tup.get ts (enc x)=some v:=by rfl)[Enc enc size]:W L (HM.bind (o4 ts a) f) Q':=fun h hs=>by
 have:=ha.row ((hx.s hs).aO (Enc.len (enc:=enc))) hi
 refine⟨v,fun j u hu=>?_,hw h hs⟩
 rw[←Tup.bI ts _ v hv] at hu
 exact this j u hu
theorem C50{t:Tag}{i k:Nat}{a:Addr}{x:γ}{v:t.ty}{f:t.ty→HM β}(hr:Z5 enc size h0 s xs)(ha:El s size i a)(hi:xs[i]? =some x)(hw:W L (f v) Q')(hx:Has L (old h0) L':=by repeat first|with_reducible exact U9|apply V1)(hv:((enc x)[k]?).bind t.get=some v:=by rfl):W L (HM.bind (o9 t (Addr.add a k)) f) Q':=fun h hs=>by
 have:=ha.row hr hi
 cases hc:(enc x)[k]? with
 |none=>rw[hc] at hv;cases hv
 |some u=>
  rw[hc] at hv
  exact⟨v,by rw[(hx.s hs).bX (this k u hc)];exact congrArg some (Tag.bT hv),hw h hs⟩
theorem C6S{t:Tag}{i:Nat}{a:Addr}{x:γ}{v:t.ty}{f:t.ty→HM β}(hr:Z5 enc size h0 s xs)(ha:El s size i a)(hi:xs[i]? =some x)(hw:W L (f v) Q')(hx:Has L (old h0) L':=by repeat first|with_reducible exact U9|apply V1)(hv:((enc x)[0]?).bind t.get=some v:=by rfl):W L (HM.bind (o9 t a) f) Q':=by
 have:=C50 (k:=0) (f:=f) hr ha hi hw hx hv
 rwa[add_zero] at this
theorem B4v{ts:List Tag}{i:Nat}{a:Addr}{x:γ}{v:Tup ts}{f:Tup ts→HM β}(hr:Z5 enc size h0 s xs)(ha:El s size i a)(hi:xs[i]? =some x)(hw:W L (f v) Q')(hx:Has L (old h0) L':=by repeat first|with_reducible exact U9|apply V1)(hv:Tup.get ts (enc x)=some v:=by rfl):W L (HM.bind (o4 ts a) f) Q':=fun h hs=>by
 have:=ha.row hr hi
 refine⟨v,fun j u hu=>?_,hw h hs⟩
 rw[←Tup.bI ts _ v hv] at hu
 exact(hx.s hs).bX (this j u hu)
theorem C5Y{cs:C9v}{T elem:TypeId}{bytes:Nat}{zero:C9v}{f:Slc→HM β}(x:γ)(hw:∀s',W (U4 enc size s' (xs++[x])::L') (f s') Q')(hb:(xs.length+1)*bytes≤140737488355328)(hx:Has L (U4 enc size s xs) L':=by repeat first|with_reducible exact U9|apply V1)(hc:cs=(enc x).toArray:=by rfl)(hz:zero.size=size:=by rfl)(gM:0<bytes:=by decide)[Enc enc size]:
  W L (HM.bind (HM.new (.cells cs T)) fun b=>HM.bind (HM.append elem size bytes zero s 1 (V6 size ⟨some ⟨b,0,none⟩,1,1⟩)) f) Q':=fun h hs=>by
 subst hc
 exact A00 (T:=T) (elem:=elem) (x:=x) (Enc.len (enc:=enc)) (Enc.cell (enc:=enc)) hz (hx.s hs) (Enc.pos enc) gM hb fun s' h' af=>hw s' h' af
theorem A9E{b:Nat}{cs:C9v}{elem:TypeId}{bytes:Nat}{zero:C9v}{f:Slc→HM β}(x:γ)(hw:∀s',W (U4 enc size s' (xs++[x])::L2) (f s') Q')(hb:(xs.length+1)*bytes≤140737488355328)(hx:Has L (U4 enc size s xs) L':=by repeat first|with_reducible exact U9|apply V1)(hy:Has L' (Go.H.cells b cs) L2:=by repeat first|with_reducible exact U9|apply V1)(hc:cs=(enc x).toArray:=by rfl)(hz:zero.size=size:=by rfl)(gM:0<bytes:=by decide)[Enc enc size]:
  W L (HM.bind (HM.append elem size bytes zero s 1 (V6 size ⟨some ⟨b,0,none⟩,1,1⟩)) f) Q':=fun h hs=>by
 subst hc
 have h1:=(hx.then hy).s hs
 rw[U0]
 refine z8 (ys:=[x]) (Enc.len (enc:=enc)) (Enc.cell (enc:=enc)) hz h1 rfl ?_ (Enc.pos enc) gM hb fun s' h2 ae=>hw s' h2 (ae.p1.drop)
 simp only[V6,M9,D5,H8,C1]
 exact h1.p1.reads (by simp[Enc.len (enc:=enc)])
theorem X1:∀h R,sat h (U4 enc size s xs::R)→s.len=xs.length:=fun h R hs=>hs.aW
theorem A3p(enc:γ→C9w)(size:Nat)(hw:W (U4 enc size ⟨none,0,0⟩ ([]:List γ)::L) m Q):W L m Q:=fun h hs=>hw h (Z3 hs)
theorem B67(enc:γ→C9w)(size:Nat)(xs:List γ)(hw:W (U4 enc size ⟨none,0,0⟩ xs::L) m Q)(he:xs=[]:=by rfl):W L m Q:=by subst he;exact A3p enc size hw
theorem C28{n:Nat}{e:Int}{f:Slc→HM β}(hr:Z5 enc size h0 s xs)(hn:n≤xs.length)(hw:∀s',Z5 enc size h0 s' (xs.take n)→W L (f s') Q')(he:e=(n:Int):=by rfl):W L (HM.bind (HM.slice s none (some e) none size) f) Q':=fun h hs=>by
 subst he
 exact B2j hr hn fun s' dr=>hw s' dr h hs
theorem C8V{lo hi:Nat}{ol oh:Option Int}{f:Slc→HM β}(h1:lo≤hi)(h2:hi≤xs.length)(hw:∀s',W (U4 enc size s' ((xs.take hi).drop lo)::L') (f s') Q')(e1:A32 ol (lo=0) lo hi)(e2:∀c,hi≤c→s.len=xs.length→A32 oh (hi=s.len) hi c)(hx:Has L (U4 enc size s xs) L':=by repeat first|with_reducible exact U9|apply V1)[Enc enc size]:W L (HM.bind (HM.slice s ol oh none size) f) Q':=fun h hs=>by
 have aa:=hx.s hs
 have:=aa.aW
 have:=aa.eB
 exact B2k (mx:=none) aa (Enc.len (enc:=enc)) h1 h2 e1 (e2 _ (by omega) (by omega)) fun s' h'=>hw s' h h'
end
section
variable {K V:Type} [DecidableEq K] {ek:K→Value}
theorem W.lookup{kd:A2v}{kind:Kind}{z:kind.ty}{zero:Value}{r:Nat}{l:List (K×kind.ty)}{key:Value}{f:kind.ty×Bool→HM β}(hk:KeyLaw kd ek)(k:K)(hw:W L (f ((W0 l k).getD z,(W0 l k).isSome)) Q')(hx:Has L (mapA ek kind.val r l) L':=by repeat first|with_reducible exact U9|apply V1)(he:key=ek k:=by rfl)(hz:kind.get zero=some z:=by rfl):W L (HM.bind (HM.lookup kd zero kind (some r) key) f) Q':=fun h hs=>by
 subst he
 exact u4 hk (Kind.bT hz) (hx.s hs) (hw h hs)
theorem W.mset{kd:A2v}{ev:V→Value}{r:Nat}{l:List (K×V)}{key val:Value}{f:Unit→HM β}(hk:KeyLaw kd ek)(gJ:∀a b,ek a=ek b→a=b)(k:K)(v:V)(hw:W (mapA ek ev r (Go.H.mset l k v)::L') (f ()) Q')(hx:Has L (mapA ek ev r l) L':=by repeat first|with_reducible exact U9|apply V1)(he:key=ek k:=by rfl)(hv:val=ev v:=by rfl):W L (HM.bind (A4h kd (some r) key val) f) Q':=fun h hs=>by
 subst he hv
 exact A4z hk gJ (hx.s hs) fun h' af=>hw h' af
theorem W.mdel{kd:A2v}{ev:V→Value}{r:Nat}{l:List (K×V)}{key:Value}{f:Unit→HM β}(hk:KeyLaw kd ek)(k:K)(hw:W (mapA ek ev r (Go.H.mdel l k)::L') (f ()) Q')(hx:Has L (mapA ek ev r l) L':=by repeat first|with_reducible exact U9|apply V1)(he:key=ek k:=by rfl):W L (HM.bind (A5S kd (some r) key) f) Q':=fun h hs=>by
 subst he
 exact A5N hk (hx.s hs) fun h' af=>hw h' af
omit [DecidableEq K] in
theorem C8b{ev:V→Value}{r:Nat}{l:List (K×V)}{f:Int→HM β}(hw:W L (f (l.length:Int)) Q')(hx:Has L (mapA ek ev r l) L':=by repeat first|with_reducible exact U9|apply V1):W L (HM.bind (A6U (some r)) f) Q':=fun h hs=>A85 (hx.s hs) (hw h hs)
end
theorem C3c{P:Program}{fn:FuncId}{args:C9v}{v:Value}{Q:Value→Heap→Prop}(hf:∀h0,sat h0 L→∀Q':Value→Heap→Prop,At [old h0] (Q' v)→FW P fn args [old h0] Q')(hq:At L (Q v)):FW P fn args L Q:=fun h hs=>
 hf h hs Q (fun h' af=>hq h' (hs.grow fun k o ho=>af.dM ho)) h (sat_old h)
section
variable {σ τ γ:Type} {s:σ} {body:σ→HM (σ⊕τ)} {f:τ→HM β}
theorem W.loop(I:γ→σ→Prop)(J:γ→σ→List Asn)(μ:γ→Nat)(g:γ)(h0:I g s)(hL:Sub L (J g s))
  (hr:∀g s,I g s→∀K:σ⊕τ→Heap→Prop,(∀g' s',μ g'<μ g→I g' s'→At (J g' s') (K (.inl s')))→(∀t L,W L (f t) Q'→At L (K (.inr t)))→W (J g s) (body s) K):
  W L (HM.bind (HM.loop body s) f) Q':=fun h hs=>by
 rw[U0]
 refine A7i (γ:=γ) (fun g s h=>I g s∧sat h (J g s)) μ g ⟨h0,hL.s hs⟩ ?_
 rintro g s h ⟨hI,hJ⟩ K h1 h2
 exact hr g s hI K (fun g' s' hm qO h' af=>h1 g' s' h' hm ⟨qO,af⟩) (fun t L hw h' af=>h2 t h' (hw h' af)) h hJ
theorem B2a{c:σ→Bool}{B E:σ→HM (σ⊕τ)}(n:Nat)(I:Nat→σ→Prop)(J:Nat→σ→List Asn)(h0:I 0 s)(hL:Sub L (J 0 s))(hc:∀i s,i≤n→I i s→c s=decide (i<n))
  (hE:∀s,I n s→∀K:σ⊕τ→Heap→Prop,(∀t L,W L (f t) Q'→At L (K (.inr t)))→W (J n s) (E s) K)
  (hB:∀i s,i<n→I i s→∀K:σ⊕τ→Heap→Prop,(∀s',I (i+1) s'→At (J (i+1) s') (K (.inl s')))→(∀t L,W L (f t) Q'→At L (K (.inr t)))→W (J i s) (B s) K):
  W L (HM.bind (HM.loop (fun s=>A1s (c s) (B s) (E s)) s) f) Q':=fun h hs=>by
 rw[U0]
 refine B5x n (fun i s h=>I i s∧sat h (J i s)) ⟨h0,hL.s hs⟩ (fun i s h hi hJ=>hc i s hi hJ.1) (fun s h hJ K hd=>?_) (fun i s h ah hJ K bp hd=>?_)
 ·exact hE s hJ.1 K (fun t L hw h' af=>hd t h' (hw h' af)) h hJ.2
 ·exact hB i s ah hJ.1 K (fun s' qO h' af=>bp s' h' ⟨qO,af⟩) (fun t L hw h' af=>hd t h' (hw h' af)) h hJ.2
end
end
end
end Go.H
namespace Go.Proofs.YtidlldnlphdhcaaGreatDoor
open Go.H
open Go.Proofs.Tryz
open Go.H Go.Proofs
structure r8 where
 most:Int
 taken:Int
 used:List Int
structure r8.ok(s:r8):Prop where
 fM:1≤s.most
 cO:s.most≤64
 cL:0≤s.taken
 dN:s.taken≤65535
 len:(s.used.length:Int)≤s.most
 nodup:s.used.Nodup
 range:∀k∈s.used,1≤k∧k≤65535
def nxt(t:Int):Int:=t % 65535+1
inductive Reach (used:List Int):Nat→Int→Int→Prop
 |here {t:Int}:nxt t∉used→Reach used 0 t (nxt t)
 |on {n:Nat} {t u:Int}:nxt t∈used→Reach used n (nxt t) u→Reach used (n+1) t u
def A4d(l:List Int):List (Int×Bool):=l.map fun k=>(k,true)
theorem A7f(l:List Int)(k:Int):W0 (A4d l) k=if k∈l then some true else none:=by
 induction l with
 |nil=>rfl
 |cons a l ih=>
  simp only[A4d,B6] at ih⊢
  rw[Y5,ih]
  by_cases h:a=k
  ·simp[h]
  ·simp[h,Ne.symm h]
theorem B5p(l:List Int)(k:Int)(h:k∉l):mset (A4d l) k true=A4d (l++[k]):=by
 rw[A3F _ _ _ (by rw[A7f,if_neg h])]
 simp[A4d]
theorem C1B(l:List Int)(k:Int):mdel (A4d l) k=A4d (l.erase k):=by
 induction l with
 |nil=>rfl
 |cons a l ih=>
  simp only[A4d,B6,mdel] at ih⊢
  by_cases h:a=k
  ·simp[h]
  ·rw[if_neg h,ih,List.erase_cons_tail (by simpa using h)]
   simp
def A1k(b:Nat)(s:r8):Asn:=exA fun m=>star (pr s.ok) (star (cells b #[.int .i64 s.most,.int .i64 s.taken,.map (some m)]) (mapA (fun n:Int=>.int .i64 n) (Kind.val (.one .bool)) m (A4d s.used)))
theorem A0Q{h:Heap}{b:Nat}{s:r8}{R:List Asn}:sat h (A1k b s::R)↔
  ∃m,s.ok∧sat h (cells b #[.int .i64 s.most,.int .i64 s.taken,.map (some m)]::mapA (fun n:Int=>.int .i64 n) (Kind.val (.one .bool)) m (A4d s.used)::R):=by
 unfold A1k
 rw[sat.bA]
 constructor
 ·rintro⟨m,hs⟩
  rw[sat.aI,sat.bC,sat.aI] at hs
  exact⟨m,hs⟩
 ·rintro⟨m,h1,hs⟩
  exact⟨m,by rw[sat.aI,sat.bC,sat.aI];exact⟨h1,hs⟩⟩
abbrev kI:=B8P .i64
abbrev at0(b:Nat):Value:=.pointer (some ⟨b,0,none⟩)
theorem C0T{h:Heap}{R:List Asn}(hs:sat h R)(most:Int){Q:Value→Heap→Prop}
  (hq:∀b h',sat h' (A1k b ⟨max 1 (min most 64),0,[]⟩::R)→Q (at0 b) h'):V2 prog 167 #[.int .i64 most] h Q:=by
 refine B6W most h Q ?_
 delta C2W az bn nw pu vi
 simp only[U0]
 refine A7e (ek:=fun n:Int=>Value.int .i64 n) (ev:=Kind.val (.one .bool)) hs fun m h1 aa=>?_
 refine V4 aa fun b h2 ae=>?_
 simp only[V0]
 refine hq b h2 (A0Q.2 ⟨m,⟨?_,?_,?_,?_,?_,?_,?_⟩,?_⟩)
 all_goals try(simp;done)
 all_goals try(simp;omega)
 have e:(if 1<(if 64<most then(64:Int) else most) then(if 64<most then 64 else most) else 1)=max 1 (min most 64):=by
  split<;>split<;>omega
 rw[e] at ae
 exact ae
theorem B3g{h:Heap}{R:List Asn}{b:Nat}{s:r8}(hs:sat h (A1k b s::R)){Q:Value→Heap→Prop}
  (hq:Q (.int .i64 (s.most-s.used.length)) h):V2 prog 209 #[at0 b] h Q:=by
 refine A9z _ h Q ?_
 obtain⟨m,ag,hs⟩:=A0Q.1 hs
 have c0:V9 h ⟨b,0,none⟩=some (.int .i64 s.most):=hs.cell 0
 have c2:V9 h ⟨b,2,none⟩=some (.map (some m)):=hs.cell 2
 delta A9V bn ie ki km nn pu wi
 simp[c0,c2]
 refine A85 hs.p1 ?_
 have:=ag.len;have:=ag.cO
 rw[V5 (by simp[A4d];omega) (by simp[A4d];omega)]
 simpa[A4d] using hq
theorem C1z{s:r8}(h:s.ok){k:Int}(h1:1≤k)(h2:k≤65535)(hn:k∉s.used)(hl:(s.used.length:Int)<s.most){t:Int}(t0:0≤t)(t1:t≤65535):r8.ok ⟨s.most,t,s.used++[k]⟩:=by
 refine⟨h.fM,h.cO,t0,t1,by simp;omega,?_,?_⟩
 ·rw[G0]
  refine⟨h.nodup,by simp,?_⟩
  rintro a ha b hb rfl
  simp at hb
  subst hb
  exact hn ha
 ·intro a ha
  simp at ha
  rcases ha with ha|rfl
  ·exact h.range a ha
  ·exact⟨h1,h2⟩
theorem C42{s:r8}(h:s.ok)(k:Int):r8.ok ⟨s.most,s.taken,s.used.erase k⟩:=by
 refine⟨h.fM,h.cO,h.cL,h.dN,?_,h.nodup.erase k,fun a ha=>h.range a (List.mem_of_mem_erase ha)⟩
 have:=List.length_erase_le (a:=k) (l:=s.used)
 have:=h.len
 simp only
 omega
def i6(s:r8)(k:Int):Int:=
 if k<1∨65535<k then 129 else if k∈s.used then 145 else if(s.used.length:Int)=s.most then 147 else 0
theorem C2s{h:Heap}{R:List Asn}{b:Nat}{s:r8}{k:Int}(hs:sat h (A1k b s::R)){Q:Value→Heap→Prop}
  (al:i6 s k≠0→Q (.int .u8 (i6 s k)) h)
  (ag:i6 s k=0→∀h',sat h' (A1k b ⟨s.most,s.taken,s.used++[k]⟩::R)→Q (.int .u8 0) h'):V2 prog 210 #[at0 b,.int .i64 k] h Q:=by
 refine A8C _ _ h Q ?_
 obtain⟨m,hi,af⟩:=A0Q.1 hs
 have c0:V9 h ⟨b,0,none⟩=some (.int .i64 s.most):=af.cell 0
 have c2:V9 h ⟨b,2,none⟩=some (.map (some m)):=af.cell 2
 delta A8D bn ci ie km nn pu vi
 simp[c0,c2]
 by_cases h1:k<1
 ·simp[h1];simpa[i6,h1] using al
 by_cases h2:65535<k
 ·simp[h1,h2];simpa[i6,h2] using al
 simp[h1,h2]
 refine u4 kI (kind:=.one .bool) (z:=false) rfl af.p1 ?_
 rw[A7f]
 by_cases h3:k∈s.used
 ·simp[h3]
  have:i6 s k=145:=by simp[i6,h1,h2,h3]
  rw[this] at al
  exact al (by omega)
 simp[h3]
 refine B3g hs ?_
 simp
 have hl:=hi.len
 by_cases h4:(s.used.length:Int)=s.most
 ·have:i6 s k=147:=by simp[i6,h1,h2,h3,h4]
  rw[this] at al
  simp[h4]
  exact al (by omega)
 have h5:¬(s.most-(s.used.length:Int)=0):=by omega
 simp[h5]
 simp[c2]
 refine A4z kI (A9b .i64) (ev:=Kind.val (.one .bool)) (x:=true) af.p1 fun h' ae=>?_
 refine ag (by simp[i6,h1,h2,h3,h4]) h' (A0Q.2 ⟨m,C1z hi (by omega) (by omega) h3 (by omega) hi.cL hi.dN,?_⟩)
 rw[B5p _ _ h3] at ae
 exact ae.p1
theorem B79{h:Heap}{R:List Asn}{b:Nat}{s:r8}{k:Int}(hs:sat h (A1k b s::R)){Q:Value→Heap→Prop}
  (hq:∀h',sat h' (A1k b ⟨s.most,s.taken,s.used.erase k⟩::R)→Q (.bool (decide (k∈s.used))) h'):V2 prog 158 #[at0 b,.int .i64 k] h Q:=by
 refine A9A _ _ h Q ?_
 obtain⟨m,hi,af⟩:=A0Q.1 hs
 have c0:V9 h ⟨b,0,none⟩=some (.int .i64 s.most):=af.cell 0
 have c2:V9 h ⟨b,2,none⟩=some (.map (some m)):=af.cell 2
 delta A9W bn ie km nn pu vi
 simp[c0,c2]
 refine u4 kI (kind:=.one .bool) (z:=false) rfl af.p1 ?_
 rw[A7f]
 by_cases h3:k∈s.used
 ·simp[h3]
  simp[c2]
  refine A5N kI (ev:=Kind.val (.one .bool)) af.p1 fun h' ae=>?_
  have:=hq h' (A0Q.2 ⟨m,C42 hi k,by rw[C1B] at ae;exact ae.p1⟩)
  simpa[h3] using this
 ·simp[h3]
  have he:s.used.erase k=s.used:=List.erase_of_not_mem h3
  have:=hq h (by rw[he];exact hs)
  simpa[h3] using this
theorem A3E{t:Int}(h0:0≤t):1≤nxt t∧nxt t≤65535:=by unfold nxt;omega
theorem Reach.range{used:List Int}{n:Nat}{t u:Int}(h:Reach used n t u)(h0:0≤t):1≤u∧u≤65535∧u∉used:=by
 induction h with
 |here hn=>exact⟨(A3E h0).1,(A3E h0).2,hn⟩
 |on _ _ ih=>exact ih (by have:=(A3E h0).1;omega)
theorem B8O{α:Type}[DecidableEq α]:∀(l1 l2:List α),l1.Nodup→(∀x∈l1,x∈l2)→l1.length≤l2.length
 |[],_,_,_=>by simp
 |x::xs,l2,au,hs=>by
  have h1:=F7.1 au
  have h2:=B8O xs (l2.erase x) h1.2 (fun y hy=>(List.mem_erase_of_ne (fun e=>h1.1 (by rw[←e];exact hy))).2 (hs y (C2 _ hy)))
  have h3:=List.length_erase_of_mem (hs x (B5 ..))
  have h4:=List.length_pos_of_mem (hs x (B5 ..))
  simp only[B7]
  omega
theorem B9M(used:List Int)(t:Int)(h0:0≤t)(h1:used.Nodup)(h2:used.length<65535):∃n u,Reach used n t u:=by
 have key:∀(j:Nat),j≤65535→∀t,0≤t→t≤65535→(∃n u,Reach used n t u)∨∀i,i<j→((t+i) % 65535+1)∈used:=by
  intro j
  induction j with
  |zero=>intro _ t _ _;exact .inr (fun i hi=>by omega)
  |succ j ih=>
   intro hj t oA pH
   by_cases hm:nxt t∈used
   ·have hr:=A3E oA
    rcases ih (by omega) (nxt t) (by omega) (by omega) with⟨n,u,hu⟩|cW
    ·exact .inl ⟨n+1,u,.on hm hu⟩
    ·refine .inr fun i hi=>?_
     cases i with
     |zero=>simpa[nxt] using hm
     |succ i=>
      have:=cW i (by omega)
      have e:((nxt t+(i:Int)) % 65535+1)=((t+((i+1:Nat):Int)) % 65535+1):=by unfold nxt;omega
      rw[e] at this
      exact this
   ·exact .inl ⟨0,nxt t,.here hm⟩
 have jE:∃t',0≤t'∧t'≤65535∧nxt t'=nxt t∧True:=⟨t % 65535,by omega,by omega,by unfold nxt;omega,trivial⟩
 obtain⟨t',a0,a1,a2,-⟩:=jE
 have move:∀n u,Reach used n t' u→Reach used n t u:=by
  intro n u hr
  cases hr with
  |here hn=>rw[a2] at hn⊢;exact .here hn
  |on hm hr=>rw[a2] at hm hr;exact .on hm hr
 rcases key 65535 (D6 _) t' a0 a1 with⟨n,u,hu⟩|cW
 ·exact⟨n,u,move n u hu⟩
 ·exfalso
  have bg:∀x∈((List.range 65535).map fun(i:Nat)=>((t'+(i:Int)) % 65535+1)),x∈used:=by
   intro x hx
   obtain⟨i,hi,rfl⟩:=E4.1 hx
   exact cW i (R1.1 hi)
  have au:((List.range 65535).map fun(i:Nat)=>((t'+(i:Int)) % 65535+1)).Nodup:=by
   refine P4.2 (List.Pairwise.imp_of_mem ?_ List.pairwise_lt_range)
   intro a b ha hb dp
   have:=R1.1 ha
   have:=R1.1 hb
   omega
  have:=B8O _ _ au bg
  simp at this
  omega
theorem Reach.det{used:List Int}{n n':Nat}{t u u':Int}(h:Reach used n t u)(h':Reach used n' t u'):u=u':=by
 induction h generalizing n' with
 |here hn=>
  cases h' with
  |here _=>rfl
  |on hm _=>exact absurd hm hn
 |on hm _ ih=>
  cases h' with
  |here hn=>exact absurd hm hn
  |on _ h2=>exact ih h2
theorem C4v{t:Int}(h0:0≤t):IntKind.wrap .i64 (Int.tmod t 65535+1)=nxt t:=by
 have e:Int.tmod t 65535=t % 65535:=P6 h0
 rw[e,V5 (by omega) (by omega)]
 rfl
theorem C4o{h:Heap}{R:List Asn}{b:Nat}{s:r8}(hs:sat h (A1k b s::R)){Q:Value→Heap→Prop}
  (aA:(s.used.length:Int)=s.most→Q (.tuple #[.int .i64 0,.int .u8 147]) h)
  (ag:(s.used.length:Int)≠s.most→∀n u,Reach s.used n s.taken u→∀h',sat h' (A1k b ⟨s.most,u,s.used++[u]⟩::R)→Q (.tuple #[.int .i64 u,.int .u8 0]) h'):
  V2 prog 169 #[at0 b] h Q:=by
 refine A9y _ h Q ?_
 obtain⟨m,hi,af⟩:=A0Q.1 hs
 delta A9U bn ci ie ki km nn pu sx vi wi
 simp
 refine B3g hs ?_
 simp
 have hl:=hi.len
 have qe:=hi.cO
 by_cases h4:(s.used.length:Int)=s.most
 ·simp[h4]
  exact aA h4
 have h5:¬(s.most-(s.used.length:Int)=0):=by omega
 simp[h5]
 obtain⟨n,u,hu⟩:=B9M s.used s.taken hi.cL hi.nodup (by omega)
 have wE:=hu.range hi.cL
 refine B8N (γ:=Nat×Int) (fun g _ h=>Reach s.used g.1 g.2 u∧0≤g.2∧g.2≤65535∧sat h (cells b #[.int .i64 s.most,.int .i64 g.2,.map (some m)]::mapA (fun n:Int=>.int .i64 n) (Kind.val (.one .bool)) m (A4d s.used)::R))
  (fun g=>g.1) (n,s.taken) ⟨hu,hi.cL,hi.dN,af⟩ ?_
 ·rintro⟨n,t⟩-h1 ⟨hr,t0,t1,aa⟩
  have c1:V9 h1 ⟨b,1,none⟩=some (.int .i64 t):=aa.cell 1
  simp[c1]
  rw[C4v t0]
  refine W5 aa (by simp) rfl fun h2 ae=>?_
  have d1:V9 h2 ⟨b,1,none⟩=some (.int .i64 (nxt t)):=ae.cell 1
  have d2:V9 h2 ⟨b,2,none⟩=some (.map (some m)):=ae.cell 2
  have hn:=A3E t0
  simp[d1,d2]
  refine u4 kI (kind:=.one .bool) (z:=false) rfl ae.p1 ?_
  rw[A7f]
  cases hr with
  |here jI=>
   simp[jI]
   simp[d2,d1]
   refine A4z kI (A9b .i64) (ev:=Kind.val (.one .bool)) (x:=true) ae.p1 fun h3 aj=>?_
   rw[B5p _ _ jI] at aj
   have e1:V9 h3 ⟨b,1,none⟩=some (.int .i64 (nxt t)):=aj.p1.cell 1
   simp[e1]
   refine ag h4 n _ hu h3 (A0Q.2 ⟨m,C1z hi (by omega) (by omega) jI (by omega) (by omega) (by omega),aj.p1⟩)
  |on kP dr=>
   simp[kP]
   exact⟨_,Nat.lt_succ_self _,_,dr,Int.le_trans (by omega) hn.1,hn.2,ae⟩
section
open Go.H Go.Proofs
abbrev MsT:=B3O×B3O×Int×Bool×B3O
abbrev Z4(x:MsT):C9w:=[.string x.1,.string x.2.1,.int .i64 x.2.2.1,.bool x.2.2.2.1,.string x.2.2.2.2]
abbrev FlT:=Int×MsT×Bool
abbrev A0I(x:FlT):C9w:=[.int .i64 x.1,.string x.2.1.1,.string x.2.1.2.1,.int .i64 x.2.1.2.2.1,.bool x.2.1.2.2.2.1,.string x.2.1.2.2.2.2,.bool x.2.2]
structure Z8 where
 aU:r8
 most:Int
 on:Bool
 aG:List FlT
 waiting:List MsT
def A0i(b:Nat)(o:Z8):Asn:=exA fun x:Nat×Slc×Slc=>
 star (cells b #[at0 x.1,.int .i64 o.most,.bool o.on,.slice x.2.1.a x.2.1.len x.2.1.cap,.slice x.2.2.a x.2.2.len x.2.2.cap])
  (star (A1k x.1 o.aU) (star (U4 A0I 7 x.2.1 o.aG) (U4 Z4 5 x.2.2 o.waiting)))
theorem A0h{h:Heap}{b:Nat}{o:Z8}{R:List Asn}:sat h (A0i b o::R)↔∃(pb:Nat) (fl wt:Slc),
  sat h (cells b #[at0 pb,.int .i64 o.most,.bool o.on,.slice fl.a fl.len fl.cap,.slice wt.a wt.len wt.cap]::A1k pb o.aU::U4 A0I 7 fl o.aG::U4 Z4 5 wt o.waiting::R):=by
 unfold A0i
 rw[sat.bA]
 constructor
 ·rintro⟨⟨pb,fl,wt⟩,hs⟩
  rw[sat.aI] at hs
  exact⟨pb,fl,wt,(sat.aI.1 (sat.aI.1 hs.p1).p1).re [3,2,0,1]⟩
 ·rintro⟨pb,fl,wt,hs⟩
  refine⟨(pb,fl,wt),?_⟩
  rw[sat.aI]
  exact(sat.aI.2 ((sat.aI.2 (hs.re [2,3,0,1])).re [2,0,1])).p1
theorem B9U{h:Heap}{R:List Asn}(hs:sat h R)(most:Int){Q:Value→Heap→Prop}
  (hq:∀b h',sat h' (A0i b ⟨⟨64,0,[]⟩,max 1 (min most 64),false,[],[]⟩::R)→Q (at0 b) h'):V2 prog 112 #[.int .i64 most] h Q:=by
 refine B1r most h Q ?_
 delta B3G az ci cp nw pu vi vz
 refine U5 (C0T hs 64 fun pb h1 aa=>⟨some ⟨pb,0,none⟩,rfl,?_⟩)
 have e:(if 1<(if 64<most then(64:Int) else most) then(if 64<most then 64 else most) else 1)=max 1 (min most 64):=by
  split<;>split<;>omega
 refine U5 (A3r most h1 _ ⟨_,rfl,?_⟩)
 rw[e]
 refine V4 aa fun b h2 ae=>?_
 refine hq b h2 (A0h.2 ⟨pb,⟨none,0,0⟩,⟨none,0,0⟩,?_⟩)
 exact(Z3 (Z3 ae)).p3.p3
theorem B9V{h:Heap}{R:List Asn}{b:Nat}{o:Z8}(hs:sat h (A0i b o::R)){Q:Value→Heap→Prop}
  (hq:∀h',sat h' (A0i b {o with on:=false}::R)→Q (.tuple #[]) h'):V2 prog 152 #[at0 b] h Q:=by
 refine A7b _ h Q ?_
 obtain⟨pb,fl,wt,hs⟩:=A0h.1 hs
 delta A6D bn ie nn pu sx
 simp
 refine W5 hs (by simp) rfl fun h1 aa=>?_
 exact hq h1 (A0h.2 ⟨pb,fl,wt,aa⟩)
abbrev Pk:Type:=Int×Bool×Bool×Int×Int×B3O×B3O×Int×Slc×Slc×B3O×Bool×Int×Bool×B3O×B3O×Int×Bool×Slc×Bool×Bool×B3O×B3O×Bool×Slc×Slc×Unit
abbrev C6V(p:Pk):C9v:=#[.int .i64 p.1,.bool p.2.1,.bool p.2.2.1,.int .i64 p.2.2.2.1,.int .i64 p.2.2.2.2.1,.string p.2.2.2.2.2.1,.string p.2.2.2.2.2.2.1,.int .u8 p.2.2.2.2.2.2.2.1,.slice p.2.2.2.2.2.2.2.2.1.a p.2.2.2.2.2.2.2.2.1.len p.2.2.2.2.2.2.2.2.1.cap,.slice p.2.2.2.2.2.2.2.2.2.1.a p.2.2.2.2.2.2.2.2.2.1.len p.2.2.2.2.2.2.2.2.2.1.cap,.string p.2.2.2.2.2.2.2.2.2.2.1,.bool p.2.2.2.2.2.2.2.2.2.2.2.1,.int .i64 p.2.2.2.2.2.2.2.2.2.2.2.2.1,.bool p.2.2.2.2.2.2.2.2.2.2.2.2.2.1,.string p.2.2.2.2.2.2.2.2.2.2.2.2.2.2.1,.string p.2.2.2.2.2.2.2.2.2.2.2.2.2.2.2.1,.int .i64 p.2.2.2.2.2.2.2.2.2.2.2.2.2.2.2.2.1,.bool p.2.2.2.2.2.2.2.2.2.2.2.2.2.2.2.2.2.1,.slice p.2.2.2.2.2.2.2.2.2.2.2.2.2.2.2.2.2.2.1.a p.2.2.2.2.2.2.2.2.2.2.2.2.2.2.2.2.2.2.1.len p.2.2.2.2.2.2.2.2.2.2.2.2.2.2.2.2.2.2.1.cap,.bool p.2.2.2.2.2.2.2.2.2.2.2.2.2.2.2.2.2.2.2.1,.bool p.2.2.2.2.2.2.2.2.2.2.2.2.2.2.2.2.2.2.2.2.1,.string p.2.2.2.2.2.2.2.2.2.2.2.2.2.2.2.2.2.2.2.2.2.1,.string p.2.2.2.2.2.2.2.2.2.2.2.2.2.2.2.2.2.2.2.2.2.2.1,.bool p.2.2.2.2.2.2.2.2.2.2.2.2.2.2.2.2.2.2.2.2.2.2.2.1,.slice p.2.2.2.2.2.2.2.2.2.2.2.2.2.2.2.2.2.2.2.2.2.2.2.2.1.a p.2.2.2.2.2.2.2.2.2.2.2.2.2.2.2.2.2.2.2.2.2.2.2.2.1.len p.2.2.2.2.2.2.2.2.2.2.2.2.2.2.2.2.2.2.2.2.2.2.2.2.1.cap,.slice p.2.2.2.2.2.2.2.2.2.2.2.2.2.2.2.2.2.2.2.2.2.2.2.2.2.1.a p.2.2.2.2.2.2.2.2.2.2.2.2.2.2.2.2.2.2.2.2.2.2.2.2.2.1.len p.2.2.2.2.2.2.2.2.2.2.2.2.2.2.2.2.2.2.2.2.2.2.2.2.2.1.cap]
abbrev C9p(p:Pk):Value:=.agg #[.int .i64 p.1,.bool p.2.1,.bool p.2.2.1,.int .i64 p.2.2.2.1,.int .i64 p.2.2.2.2.1,.string p.2.2.2.2.2.1,.string p.2.2.2.2.2.2.1,.int .u8 p.2.2.2.2.2.2.2.1,.slice p.2.2.2.2.2.2.2.2.1.a p.2.2.2.2.2.2.2.2.1.len p.2.2.2.2.2.2.2.2.1.cap,.slice p.2.2.2.2.2.2.2.2.2.1.a p.2.2.2.2.2.2.2.2.2.1.len p.2.2.2.2.2.2.2.2.2.1.cap,.string p.2.2.2.2.2.2.2.2.2.2.1,.bool p.2.2.2.2.2.2.2.2.2.2.2.1,.int .i64 p.2.2.2.2.2.2.2.2.2.2.2.2.1,.bool p.2.2.2.2.2.2.2.2.2.2.2.2.2.1,.string p.2.2.2.2.2.2.2.2.2.2.2.2.2.2.1,.string p.2.2.2.2.2.2.2.2.2.2.2.2.2.2.2.1,.int .i64 p.2.2.2.2.2.2.2.2.2.2.2.2.2.2.2.2.1,.bool p.2.2.2.2.2.2.2.2.2.2.2.2.2.2.2.2.2.1,.slice p.2.2.2.2.2.2.2.2.2.2.2.2.2.2.2.2.2.2.1.a p.2.2.2.2.2.2.2.2.2.2.2.2.2.2.2.2.2.2.1.len p.2.2.2.2.2.2.2.2.2.2.2.2.2.2.2.2.2.2.1.cap,.bool p.2.2.2.2.2.2.2.2.2.2.2.2.2.2.2.2.2.2.2.1,.bool p.2.2.2.2.2.2.2.2.2.2.2.2.2.2.2.2.2.2.2.2.1,.string p.2.2.2.2.2.2.2.2.2.2.2.2.2.2.2.2.2.2.2.2.2.1,.string p.2.2.2.2.2.2.2.2.2.2.2.2.2.2.2.2.2.2.2.2.2.2.1,.bool p.2.2.2.2.2.2.2.2.2.2.2.2.2.2.2.2.2.2.2.2.2.2.2.1,.slice p.2.2.2.2.2.2.2.2.2.2.2.2.2.2.2.2.2.2.2.2.2.2.2.2.1.a p.2.2.2.2.2.2.2.2.2.2.2.2.2.2.2.2.2.2.2.2.2.2.2.2.1.len p.2.2.2.2.2.2.2.2.2.2.2.2.2.2.2.2.2.2.2.2.2.2.2.2.1.cap,.slice p.2.2.2.2.2.2.2.2.2.2.2.2.2.2.2.2.2.2.2.2.2.2.2.2.2.1.a p.2.2.2.2.2.2.2.2.2.2.2.2.2.2.2.2.2.2.2.2.2.2.2.2.2.1.len p.2.2.2.2.2.2.2.2.2.2.2.2.2.2.2.2.2.2.2.2.2.2.2.2.2.1.cap]
abbrev C4p:Pk:=(0,false,false,0,0,ByteArray.mk #[],ByteArray.mk #[],0,⟨none,0,0⟩,⟨none,0,0⟩,ByteArray.mk #[],false,0,false,ByteArray.mk #[],ByteArray.mk #[],0,false,⟨none,0,0⟩,false,false,ByteArray.mk #[],ByteArray.mk #[],false,⟨none,0,0⟩,⟨none,0,0⟩,())
abbrev C8f(k id c:Int):Pk:=(k,false,false,0,id,ByteArray.mk #[],ByteArray.mk #[],c,⟨none,0,0⟩,⟨none,0,0⟩,ByteArray.mk #[],false,0,false,ByteArray.mk #[],ByteArray.mk #[],0,false,⟨none,0,0⟩,false,false,ByteArray.mk #[],ByteArray.mk #[],false,⟨none,0,0⟩,⟨none,0,0⟩,())
abbrev o8:=Int×Int×B3O×B3O
abbrev e0S:B3O:=ByteArray.mk #[]
abbrev C4A:B3O:=ByteArray.mk #[116,97,103]
structure PkO where
 kind:Int
 dup:Bool
 dG:Bool
 eP:Int
 id:Int
 cC:B3O
 cQ:B3O
 code:Int
 props:List o8
 bZ:List Int
 fF:Bool
def C05(t:B3O):List o8:=if t=e0S then[] else[(38,0,C4A,t)]
def A0s(m:MsT)(id:Int)(dup:Bool):PkO:=⟨3,dup,m.2.2.2.1,m.2.2.1,id,m.1,m.2.1,0,C05 m.2.2.2.2,[],false⟩
def Z7(k id c:Int):PkO:=⟨k,false,false,0,id,e0S,e0S,c,[],[],false⟩
open Classical in
noncomputable def A33(used:List Int)(t:Int):Int:=if h:∃(u:Int) (n:Nat),Reach used n t u then Classical.choose h else 0
theorem B5o{used:List Int}{n:Nat}{t u:Int}(h:Reach used n t u):A33 used t=u:=by
 unfold A33
 have hex:∃(u:Int) (n:Nat),Reach used n t u:=⟨u,n,h⟩
 rw[dif_pos hex]
 obtain⟨n',h'⟩:=P9 hex
 exact h'.det h
noncomputable def goF(o:Z8):List MsT→Z8×List PkO
 |[]=>({o with waiting:=[]},[])
 |m::w=>
  if 0<m.2.2.1∧o.most≤(o.aG.length:Int) then({o with waiting:=m::w},[])
  else if 0<m.2.2.1 then
   let id:=A33 o.aU.used o.aU.taken
   let r:=goF {o with aU:=⟨o.aU.most,id,o.aU.used++[id]⟩,aG:=o.aG++[(id,m,false)]} w
   (r.1,A0s m id false::r.2)
  else
   let r:=goF o w
   (r.1,A0s m 0 false::r.2)
noncomputable def Y7(o:Z8):Z8×List PkO:=if o.on=true then goF o o.waiting else(o,[])
noncomputable def Y1(o:Z8)(m:MsT):(Z8×List PkO)×Int:=
 if m.2.2.1<0∨2<m.2.2.1 then((o,[]),155)
 else if m.2.2.1=0∧o.on=false then((o,[]),0)
 else if 256≤o.waiting.length then((o,[]),151)
 else(Y7 {o with waiting:=o.waiting++[m]},0)
def A3a(o:Z8)(id:Int):Z8:={o with aU:=⟨o.aU.most,o.aU.taken,o.aU.used.erase id⟩,aG:=o.aG.filter fun f=>decide (f.1≠id)}
def B2o(o:Z8)(id:Int):Z8:={o with aG:=o.aG.map fun f=>if f.1=id then(f.1,f.2.1,true) else f}
noncomputable def A0S(o:Z8)(k id c:Int):(Z8×List PkO)×Int:=
 if o.on=false∨(k≠4∧k≠5∧k≠7) then((o,[]),130)
 else match o.aG.find? (fun f=>decide (f.1=id)) with
  |none=>((o,[]),146)
  |some f=>
   if k=4 then(if f.2.1.2.2.1≠1 then((o,[]),130) else(Y7 (A3a o id),0))
   else if k=5 then
    (if f.2.1.2.2.1≠2∨(128≤c∧f.2.2=true) then((o,[]),130)
    else if 128≤c then(Y7 (A3a o id),0)
    else(((Y7 (B2o o id)).1,Z7 6 id 0::(Y7 (B2o o id)).2),0))
   else(if f.2.2=false then((o,[]),130) else(Y7 (A3a o id),0))
def A1r(f:FlT):PkO:=if f.2.2=true then Z7 6 f.1 0 else A0s f.2.1 f.1 true
noncomputable def A0g(o:Z8)(most:Int):Z8×List PkO:=
 let r:=Y7 {o with on:=true,most:=max 1 (min most 64)}
 (r.1,o.aG.map A1r++r.2)
structure W9(o:Z8):Prop where
 pm:o.aU.most=64
 pk:o.aU.ok
 m1:1≤o.most
 m64:o.most≤64
 ids:o.aG.map (·.1)=o.aU.used
 wl:o.waiting.length≤256
 fq:∀f∈o.aG,1≤f.2.1.2.2.1∧f.2.1.2.2.1≤2∧(f.2.2=true→f.2.1.2.2.1=2)
 wq:∀m∈o.waiting,0≤m.2.2.1∧m.2.2.1≤2
theorem W9.fH{o:Z8}(h:W9 o):o.aG.length=o.aU.used.length:=by rw[←h.ids,B9]
theorem W9.f64{o:Z8}(h:W9 o):o.aG.length≤64:=by
 have:=h.pk.len
 rw[h.pm] at this
 rw[h.fH];omega
theorem W9.new:W9 ⟨⟨64,0,[]⟩,64,false,[],[]⟩ where
 pm:=rfl
 pk:=⟨by decide,by decide,by decide,by decide,by simp,by simp,by simp⟩
 m1:=by decide
 m64:=by decide
 ids:=rfl
 wl:=by simp
 fq:=by simp
 wq:=by simp
theorem W9.next{o:Z8}(h:W9 o)(hl:(o.aG.length:Int)<o.most):∃n,Reach o.aU.used n o.aU.taken (A33 o.aU.used o.aU.taken):=by
 have h1:=h.pk.len
 have h2:=h.pm
 obtain⟨n,u,hu⟩:=B9M o.aU.used o.aU.taken h.pk.cL h.pk.nodup (by omega)
 exact⟨n,by rw[B5o hu];exact hu⟩
theorem W9.take{o:Z8}(h:W9 o){m:MsT}{w:List MsT}(hw:w.length≤256)(nv:∀x∈w,0≤x.2.2.1∧x.2.2.1≤2)(hm:0<m.2.2.1∧m.2.2.1≤2)(hl:(o.aG.length:Int)<o.most):
  W9 {o with aU:=⟨o.aU.most,A33 o.aU.used o.aU.taken,o.aU.used++[A33 o.aU.used o.aU.taken]⟩,aG:=o.aG++[(A33 o.aU.used o.aU.taken,m,false)],waiting:=w}:=by
 obtain⟨n,hr⟩:=h.next hl
 have kK:=hr.range h.pk.cL
 have h2:=h.pm
 have h3:=h.fH
 have h4:=h.m64
 refine⟨h.pm,C1z h.pk kK.1 kK.2.1 kK.2.2 (by omega) (by omega) (by omega),h.m1,h.m64,?_,hw,?_,nv⟩
 ·simp only[B8,B6,I3,h.ids]
 ·intro f hf
  rcases C7.1 hf with hf|hf
  ·exact h.fq f hf
  ·have:=C0.1 hf
   subst this
   exact⟨by simp only;omega,by simp only;omega,fun e=>by cases e⟩
theorem C1O:∀(w:List MsT) {o:Z8},W9 o→w.length≤256→(∀x∈w,0≤x.2.2.1∧x.2.2.1≤2)→W9 (goF o w).1∧(goF o w).2.length≤w.length∧(goF o w).1.on=o.on∧(goF o w).1.most=o.most
 |[],o,h,_,_=>⟨⟨h.pm,h.pk,h.m1,h.m64,h.ids,by simp[goF],h.fq,by simp[goF]⟩,by simp[goF],rfl,rfl⟩
 |m::w,o,h,hl,hq=>by
  have gU:w.length≤256:=by simp only[B7] at hl;omega
  have ed:∀x∈w,0≤x.2.2.1∧x.2.2.1≤2:=fun x hx=>hq x (C2 _ hx)
  have hm:=hq m (B5 ..)
  unfold goF
  by_cases h1:0<m.2.2.1∧o.most≤(o.aG.length:Int)
  ·rw[if_pos h1]
   exact⟨⟨h.pm,h.pk,h.m1,h.m64,h.ids,hl,h.fq,hq⟩,by simp,rfl,rfl⟩
  ·rw[if_neg h1]
   by_cases h2:0<m.2.2.1
   ·rw[if_pos h2]
    have h3:(o.aG.length:Int)<o.most:=by omega
    have h4:=C1O w (h.take (m:=m) (w:=o.waiting) h.wl h.wq ⟨h2,hm.2⟩ h3) gU ed
    refine⟨h4.1,?_,h4.2.2.1,h4.2.2.2⟩
    have:=h4.2.1
    simp only[B7]
    exact Nat.succ_le_succ this
   ·rw[if_neg h2]
    have h4:=C1O w h gU ed
    refine⟨h4.1,?_,h4.2.2.1,h4.2.2.2⟩
    have:=h4.2.1
    simp only[B7]
    omega
theorem A8E{o:Z8}(h:W9 o):W9 (Y7 o).1∧(Y7 o).2.length≤256:=by
 unfold Y7
 split
 ·have:=C1O o.waiting h h.wl h.wq
  exact⟨this.1,C4 this.2.1 h.wl⟩
 ·exact⟨h,by simp⟩
theorem W9.wait{o:Z8}(h:W9 o){m:MsT}(hm:0≤m.2.2.1∧m.2.2.1≤2)(hl:¬256≤o.waiting.length):W9 {o with waiting:=o.waiting++[m]}:=
 ⟨h.pm,h.pk,h.m1,h.m64,h.ids,by simp;omega,h.fq,fun x hx=>by
  rcases C7.1 hx with hx|hx
  ·exact h.wq x hx
  ·rw[C0.1 hx];exact hm⟩
theorem A3Y{o:Z8}(h:W9 o)(m:MsT):W9 (Y1 o m).1.1∧(Y1 o m).1.2.length≤256:=by
 unfold Y1
 split
 ·exact⟨h,by simp⟩
 ·split
  ·exact⟨h,by simp⟩
  ·split
   ·exact⟨h,by simp⟩
   ·rename_i h1 h2 h3
    exact A8E (h.wait ⟨by omega,by omega⟩ h3)
theorem C35{l:List FlT}{u:List Int}(h:l.map (·.1)=u)(hn:u.Nodup)(id:Int):(l.filter fun f=>decide (f.1≠id)).map (·.1)=u.erase id:=by
 subst h
 rw[List.Nodup.erase_eq_filter hn,R6]
 congr 1
 refine K7 fun x _=>?_
 by_cases e:x.1=id<;>simp[e]
theorem W9.over{o:Z8}(h:W9 o)(id:Int):W9 (A3a o id):=
 ⟨h.pm,C42 h.pk id,h.m1,h.m64,C35 h.ids h.pk.nodup id,h.wl,fun f hf=>h.fq f (E7.1 hf).1,h.wq⟩
theorem W9.rel{o:Z8}(h:W9 o){id:Int}(hq:∀f∈o.aG,f.1=id→f.2.1.2.2.1=2):W9 (B2o o id):=by
 refine⟨h.pm,h.pk,h.m1,h.m64,?_,h.wl,fun f hf=>?_,h.wq⟩
 ·show(o.aG.map _).map _=o.aU.used
  rw[←h.ids,F0]
  refine H9 fun f _=>?_
  simp only[Function.comp_apply]
  split<;>rfl
 ·obtain⟨g,hg,rfl⟩:=E4.1 hf
  by_cases e:g.1=id
  ·rw[if_pos e]
   have:=h.fq g hg
   exact⟨this.1,this.2.1,fun _=>hq g hg e⟩
  ·rw[if_neg e]
   exact h.fq g hg
theorem W9.one{o:Z8}(h:W9 o){f g:FlT}(hf:f∈o.aG)(hg:g∈o.aG)(e:f.1=g.1):f=g:=by
 have hn:=h.pk.nodup
 rw[←h.ids] at hn
 obtain⟨i,hi⟩:=List.getElem?_of_mem hf
 obtain⟨j,hj⟩:=List.getElem?_of_mem hg
 obtain⟨h1,rfl⟩:=D8.1 hi
 obtain⟨h2,rfl⟩:=D8.1 hj
 have hp:=List.pairwise_iff_getElem.1 (P4.1 hn)
 rcases Nat.lt_trichotomy i j with h3|h3|h3
 ·exact absurd e (hp i j h1 h2 h3)
 ·subst h3;rfl
 ·exact absurd e.symm (hp j i h2 h1 h3)
theorem B4G{o:Z8}(h:W9 o)(k id c:Int):W9 (A0S o k id c).1.1∧(A0S o k id c).1.2.length≤257:=by
 have aN:W9 o∧([]:List PkO).length≤257:=⟨h,by simp⟩
 have over:W9 (Y7 (A3a o id)).1∧(Y7 (A3a o id)).2.length≤257:=⟨(A8E (h.over id)).1,C4 (A8E (h.over id)).2 (by decide)⟩
 unfold A0S
 split
 ·exact aN
 ·split
  ·exact aN
  ·rename_i f hf
   split
   ·split
    ·exact aN
    ·exact over
   ·split
    ·split
     ·exact aN
     ·split
      ·exact over
      ·rename_i h5 h6 h7
       have oK:=G9 hf
       have xm:f.1=id:=by simpa using L9 hf
       have hq:∀g∈o.aG,g.1=id→g.2.1.2.2.1=2:=fun g hg e=>by
        rw[h.one hg oK (e.trans xm.symm)]
        simp only[not_or,Classical.not_not] at h6
        exact h6.1
       have:=A8E (h.rel hq)
       exact⟨this.1,by simp only[B7];omega⟩
    ·split
     ·exact aN
     ·exact over
theorem B3b{o:Z8}(h:W9 o)(most:Int):W9 (A0g o most).1∧(A0g o most).2.length≤320:=by
 have h1:W9 {o with on:=true,most:=max 1 (min most 64)}:=⟨h.pm,h.pk,by simp only;omega,by simp only;omega,h.ids,h.wl,h.fq,h.wq⟩
 have h2:=A8E h1
 have h3:=h.f64
 unfold A0g
 refine⟨h2.1,?_⟩
 simp only[B4,B9]
 omega
theorem W9.off{o:Z8}(h:W9 o)(b:Bool):W9 {o with on:=b}:=⟨h.pm,h.pk,h.m1,h.m64,h.ids,h.wl,h.fq,h.wq⟩
variable {h:Heap} {R:List Asn}
abbrev W8(x:o8):C9w:=[.int .i64 x.1,.int .i64 x.2.1,.string x.2.2.1,.string x.2.2.2]
theorem C21(x:o8):(W8 x).length=4:=rfl
theorem C5z(x:o8):∀v∈W8 x,v.oneCell'=true:=by
 intro v hv;simp at hv;rcases hv with rfl|rfl|rfl|rfl<;>rfl
abbrev eKd(k:IntKind)(n:Int):C9w:=[.int k n]
theorem C23(k:IntKind)(n:Int):(eKd k n).length=1:=rfl
theorem C5B(k:IntKind)(n:Int):∀v∈eKd k n,v.oneCell'=true:=by intro v hv;rw[C0.1 hv];rfl
abbrev pkT(o:PkO)(c p:Slc):Pk:=(o.kind,o.dup,o.dG,o.eP,o.id,o.cC,o.cQ,o.code,c,p,ByteArray.mk #[],false,0,false,ByteArray.mk #[],ByteArray.mk #[],0,false,⟨none,0,0⟩,false,false,ByteArray.mk #[],ByteArray.mk #[],o.fF,⟨none,0,0⟩,⟨none,0,0⟩,())
abbrev W7(k:IntKind)(p:Pk):C9w:=[.int .i64 p.1,.bool p.2.1,.bool p.2.2.1,.int .i64 p.2.2.2.1,.int .i64 p.2.2.2.2.1,.string p.2.2.2.2.2.1,.string p.2.2.2.2.2.2.1,.int k p.2.2.2.2.2.2.2.1,.slice p.2.2.2.2.2.2.2.2.1.a p.2.2.2.2.2.2.2.2.1.len p.2.2.2.2.2.2.2.2.1.cap,.slice p.2.2.2.2.2.2.2.2.2.1.a p.2.2.2.2.2.2.2.2.2.1.len p.2.2.2.2.2.2.2.2.2.1.cap,.string p.2.2.2.2.2.2.2.2.2.2.1,.bool p.2.2.2.2.2.2.2.2.2.2.2.1,.int .i64 p.2.2.2.2.2.2.2.2.2.2.2.2.1,.bool p.2.2.2.2.2.2.2.2.2.2.2.2.2.1,.string p.2.2.2.2.2.2.2.2.2.2.2.2.2.2.1,.string p.2.2.2.2.2.2.2.2.2.2.2.2.2.2.2.1,.int .i64 p.2.2.2.2.2.2.2.2.2.2.2.2.2.2.2.2.1,.bool p.2.2.2.2.2.2.2.2.2.2.2.2.2.2.2.2.2.1,.slice p.2.2.2.2.2.2.2.2.2.2.2.2.2.2.2.2.2.2.1.a p.2.2.2.2.2.2.2.2.2.2.2.2.2.2.2.2.2.2.1.len p.2.2.2.2.2.2.2.2.2.2.2.2.2.2.2.2.2.2.1.cap,.bool p.2.2.2.2.2.2.2.2.2.2.2.2.2.2.2.2.2.2.2.1,.bool p.2.2.2.2.2.2.2.2.2.2.2.2.2.2.2.2.2.2.2.2.1,.string p.2.2.2.2.2.2.2.2.2.2.2.2.2.2.2.2.2.2.2.2.2.1,.string p.2.2.2.2.2.2.2.2.2.2.2.2.2.2.2.2.2.2.2.2.2.2.1,.bool p.2.2.2.2.2.2.2.2.2.2.2.2.2.2.2.2.2.2.2.2.2.2.2.1,.slice p.2.2.2.2.2.2.2.2.2.2.2.2.2.2.2.2.2.2.2.2.2.2.2.2.1.a p.2.2.2.2.2.2.2.2.2.2.2.2.2.2.2.2.2.2.2.2.2.2.2.2.1.len p.2.2.2.2.2.2.2.2.2.2.2.2.2.2.2.2.2.2.2.2.2.2.2.2.1.cap,.slice p.2.2.2.2.2.2.2.2.2.2.2.2.2.2.2.2.2.2.2.2.2.2.2.2.2.1.a p.2.2.2.2.2.2.2.2.2.2.2.2.2.2.2.2.2.2.2.2.2.2.2.2.2.1.len p.2.2.2.2.2.2.2.2.2.2.2.2.2.2.2.2.2.2.2.2.2.2.2.2.2.1.cap]
abbrev B76(k:IntKind):List Tag:=[.int .i64,.bool,.bool,.int .i64,.int .i64,.str,.str,.int k,.slc,.slc,.str,.bool,.int .i64,.bool,.str,.str,.int .i64,.bool,.slc,.bool,.bool,.str,.str,.bool,.slc,.slc]
abbrev A2p(k:IntKind)(p:Pk):Value:=.agg (W7 k p).toArray
theorem B5Z(k:IntKind)(p:Pk):(W7 k p).length=26:=rfl
theorem B22(k:IntKind)(p:Pk):∀v∈W7 k p,v.oneCell'=true:=by
 intro v hv
 have:(W7 k p).all (fun v=>v.oneCell')=true:=rfl
 exact I8.1 this v hv
def pkB(k:IntKind)(t:Slc×Slc×PkO):Asn:=star (U4 (eKd k) 1 t.1 t.2.2.bZ) (U4 W8 4 t.2.1 t.2.2.props)
theorem A4B{k:IntKind}{t:Slc×Slc×PkO}:sat h (pkB k t::R)↔sat h (U4 (eKd k) 1 t.1 t.2.2.bZ::U4 W8 4 t.2.1 t.2.2.props::R):=sat.aI
theorem A28{k:IntKind}{o:PkO}(hc:o.bZ=[])(hp:o.props=[])(hs:sat h R):sat h (pkB k (⟨none,0,0⟩,⟨none,0,0⟩,o)::R):=by
 refine A4B.2 ?_
 show sat h (U4 (eKd k) 1 ⟨none,0,0⟩ o.bZ::U4 W8 4 ⟨none,0,0⟩ o.props::R)
 rw[hc,hp]
 exact Z3 (Z3 hs)
abbrev pkF(t:Slc×Slc×PkO):Pk:=pkT t.2.2 t.1 t.2.1
def o6(k:IntKind)(s:Slc)(os:List PkO):Asn:=exA fun T:List (Slc×Slc×PkO)=>star (pr (T.map (·.2.2)=os)) (star (U4 (W7 k) 26 s (T.map pkF)) (a7 (pkB k) T))
theorem A7a{k:IntKind}{s:Slc}{os:List PkO}:sat h (o6 k s os::R)↔∃T:List (Slc×Slc×PkO),T.map (·.2.2)=os∧sat h (U4 (W7 k) 26 s (T.map pkF)::a7 (pkB k) T::R):=by
 unfold o6
 rw[sat.bA]
 simp only[sat.aI,sat.bC]
theorem A1M{k:IntKind}(hs:sat h R):sat h (o6 k ⟨none,0,0⟩ []::R):=A7a.2 ⟨[],rfl,Z3 (A2u.2 hs)⟩
theorem A5e{α:Type}{f:α→Asn}:∀{a b:List α} {R:List Asn},sat h (a7 f (a++b)::R)↔sat h (a7 f a::a7 f b::R)
 |[],b,R=>by
  rw[F2]
  exact⟨fun hs=>A2u.2 hs,fun hs=>A2u.1 hs⟩
 |x::a,b,R=>by
  rw[G4,k8]
  constructor
  ·intro hs
   exact k8.2 ((A5e.1 hs.p1).re [2,0,1])
  ·intro hs
   exact(A5e.2 ((k8.1 hs).re [1,2,0])).p1
theorem A3O{α:Type}{f:α→Asn}{x:α}:sat h (a7 f [x]::R)↔sat h (f x::R):=by
 rw[k8]
 exact⟨fun hs=>A2u.1 hs.p1,fun hs=>(A2u.2 hs).p1⟩
theorem A40{k:IntKind}{s:Slc}{os:List PkO}{t:Slc×Slc×PkO}(hs:sat h (o6 k s os::pkB k t::R)){elem T:TypeId}{bytes:Nat}{zero:C9v}(hz:zero.size=26)(gM:0<bytes)(hb:(os.length+1)*bytes≤140737488355328){Q:Slc→Heap→Prop}
  (hq:∀s' h',sat h' (o6 k s' (os++[t.2.2])::R)→Q s' h'):HM.new (.cells (W7 k (pkF t)).toArray T) h fun b h'=>HM.append elem 26 bytes zero s 1 (V6 26 ⟨some ⟨b,0,none⟩,1,1⟩) h' Q:=by
 obtain⟨L,rfl,aa⟩:=A7a.1 hs
 refine A00 (x:=pkF t) (B5Z k) (B22 k) hz aa (by decide) gM (by simpa using hb) fun s' h' ae=>?_
 refine hq s' h' (A7a.2 ⟨L++[t],by simp,?_⟩)
 rw[B8]
 exact(A5e.2 ((A3O.2 (ae.re [2,1,0])).p1)).p1
end
section
open Go.H Go.Proofs
variable {h:Heap} {R:List Asn}
theorem A7A(x:MsT):(Z4 x).length=5:=rfl
theorem B50(x:MsT):∀v∈Z4 x,v.oneCell'=true:=by
 intro v hv;simp at hv;rcases hv with rfl|rfl|rfl|rfl|rfl<;>rfl
theorem A2C(x:FlT):(A0I x).length=7:=rfl
theorem B1X(x:FlT):∀v∈A0I x,v.oneCell'=true:=by
 intro v hv;simp at hv;rcases hv with rfl|rfl|rfl|rfl|rfl|rfl|rfl<;>rfl
abbrev MsU:=B3O×B3O×Int×Bool×B3O×Unit
abbrev toU(m:MsT):MsU:=(m.1,m.2.1,m.2.2.1,m.2.2.2.1,m.2.2.2.2,())
abbrev vMs(m:MsT):Value:=.agg #[.string m.1,.string m.2.1,.int .i64 m.2.2.1,.bool m.2.2.2.1,.string m.2.2.2.2]
theorem C2S{a:Addr}{m:MsT}(ha:∀j v,(Z4 m)[j]? =some v→V9 h (a.add j)=some v){Q:MsU→Heap→Prop}(hq:Q (toU m) h):o4 [.str,.str,.int .i64,.bool,.str] a h Q:=
 A0j (ts:=[.str,.str,.int .i64,.bool,.str]) (toU m) (fun i v hv=>ha i v hv) hq
theorem B7A{m:MsT}{id:Int}{dup:Bool}(hs:sat h R){Q:Value→Heap→Prop}(hq:∀c p h',sat h' (pkB .u8 (c,p,A0s m id dup)::R)→Q (A2p .u8 (pkT (A0s m id dup) c p)) h'):
  V2 prog 118 #[vMs m,.int .i64 id,.bool dup] h Q:=by
 refine A4l (toU m) id dup h Q ?_
 delta A3b az bn es A0R ie jb ji jt nw pu sn sw ve vi vz w10 w11 w12 w13 w14 w15 w16 w17 w18 w19 w20 w21 w22 w23 w24 w25 w5 w6 w7 w8 w9
 refine V4 hs fun x1 h1 aa=>?_
 refine V4 aa fun x2 h2 ae=>?_
 refine⟨m.2.2.1,by rw[U2];exact ae.p1.cell 2,m.2.2.2.1,by rw[U2];exact ae.p1.cell 3,m.1,by rw[U2];exact ae.p1.cell 0,m.2.1,by rw[U2];exact ae.p1.cell 1,?_⟩
 refine V4 ae fun x7 h3 bo=>?_
 (try dsimp only);rw[U0]
 refine l0 bo rfl rfl fun h4 ak=>?_
 refine⟨m.2.2.2.2,by rw[U2];exact ak.p2.cell 4,?_⟩
 refine cut (fun z h'=>∃p:Slc,sat h' (cells x7 (W7 .u8 (pkT (A0s m id dup) ⟨none,0,0⟩ p)).toArray::cells x2 (W7 .u8 C4p).toArray::pkB .u8 (⟨none,0,0⟩,p,A0s m id dup)::R)) ?_ ?_
 ·intro K hK
  (try dsimp only);rw[U6]
  by_cases ht:m.2.2.2.2=ByteArray.mk #[]
  ·rw[if_neg (by simp[ht])]
   refine hK _ _ ⟨⟨none,0,0⟩,?_⟩
   have:=A28 (k:=.u8) (o:=A0s m id dup) rfl (by simp[A0s,C05,ht]) ak
   exact(this.re [1,2,0,3]).p3.drop
  ·rw[if_pos (by simp[ht])]
   refine⟨m.2.2.2.2,by rw[U2];exact ak.p2.cell 4,?_⟩
   refine V4 ak fun iu h5 ai=>?_
   (try dsimp only);rw[U0,U2]
   refine W5 ai.p1 (by simp) rfl fun h6 ay=>?_
   refine hK _ _ ⟨⟨some ⟨iu,0,none⟩,1,1⟩,?_⟩
   have hp:(A0s m id dup).props=[(38,0,C4A,m.2.2.2.2)]:=by simp[A0s,C05,ht]
   have h7:sat h6 (U4 W8 4 ⟨some ⟨iu,0,none⟩,1,1⟩ (A0s m id dup).props::cells x7 (W7 .u8 (pkT (A0s m id dup) ⟨none,0,0⟩ ⟨some ⟨iu,0,none⟩,1,1⟩)).toArray::cells x2 (W7 .u8 C4p).toArray::R):=by
    rw[hp]
    exact A1A (o:=0) (cs:=(W8 (38,0,C4A,m.2.2.2.2)).toArray) ⟨rfl,D6 _,rfl,by simp,by simp⟩ (ay.re [1,0,2,3]).p3.drop
   have h8:sat h6 (U4 (eKd .u8) 1 ⟨none,0,0⟩ (A0s m id dup).bZ::U4 W8 4 ⟨some ⟨iu,0,none⟩,1,1⟩ (A0s m id dup).props::cells x7 (W7 .u8 (pkT (A0s m id dup) ⟨none,0,0⟩ ⟨some ⟨iu,0,none⟩,1,1⟩)).toArray::cells x2 (W7 .u8 C4p).toArray::R):=Z3 h7
   exact((A4B (t:=(⟨none,0,0⟩,⟨some ⟨iu,0,none⟩,1,1⟩,A0s m id dup))).2 h8).re [1,2,0]
 rintro⟨⟩ h5 ⟨p,ai⟩
 refine Y4 (ts:=B76 .u8) (pkT (A0s m id dup) ⟨none,0,0⟩ p) ai rfl ?_
 (try dsimp only);rw[U0]
 refine l0 ai.p1 rfl rfl fun h6 ay=>?_
 refine Y4 (ts:=B76 .u8) (pkT (A0s m id dup) ⟨none,0,0⟩ p) ay rfl ?_
 exact hq _ _ h6 ay.drop.drop
theorem B1Q(o:Z8)(m:MsT)(w:List MsT):goF o (m::w)=if 0<m.2.2.1∧o.most≤(o.aG.length:Int) then({o with waiting:=m::w},[])
  else if 0<m.2.2.1 then((goF {o with aU:=⟨o.aU.most,A33 o.aU.used o.aU.taken,o.aU.used++[A33 o.aU.used o.aU.taken]⟩,aG:=o.aG++[(A33 o.aU.used o.aU.taken,m,false)]} w).1,A0s m (A33 o.aU.used o.aU.taken) false::(goF {o with aU:=⟨o.aU.most,A33 o.aU.used o.aU.taken,o.aU.used++[A33 o.aU.used o.aU.taken]⟩,aG:=o.aG++[(A33 o.aU.used o.aU.taken,m,false)]} w).2)
  else((goF o w).1,A0s m 0 false::(goF o w).2):=rfl
theorem A37(o:Z8)(l:List MsT):∀(w:List MsT),goF {o with waiting:=l} w=goF o w:=by
 intro w
 induction w generalizing o with
 |nil=>rfl
 |cons m w ih=>
  rw[B1Q,B1Q]
  split
  ·rfl
  ·split
   ·have:=ih {o with aU:=⟨o.aU.most,A33 o.aU.used o.aU.taken,o.aU.used++[A33 o.aU.used o.aU.taken]⟩,aG:=o.aG++[(A33 o.aU.used o.aU.taken,m,false)]}
    simp only[this]
   ·rw[ih o]
theorem B2X{b:Nat}{o:Z8}{ps:List PkO}{s:Slc}(hs:sat h (A0i b o::o6 .u8 s ps::R))(ag:W9 o)(gS:ps.length≤10000){Q:Value→Heap→Prop}
  (hq:∀h' S,sat h' (A0i b (Y7 o).1::o6 .u8 S (ps++(Y7 o).2)::R)→Q (.slice S.a S.len S.cap) h'):
  V2 prog 119 #[at0 b,.slice s.a s.len s.cap] h Q:=by
 refine A6B (some ⟨b,0,none⟩) s h Q ?_
 delta A5A az bn g7 ie ix ji kb kc ki kp nn nw pu rq sn sx vi vs
 (try dsimp only);rw[U0]
 refine A7i (γ:=Z8×List PkO) (fun g c h'=>W9 g.1∧g.2.length+g.1.waiting.length≤10300∧(Y7 g.1).1=(Y7 o).1∧g.2++(Y7 g.1).2=ps++(Y7 o).2∧sat h' (A0i b g.1::o6 .u8 c.1 g.2::R)) (fun g=>g.1.waiting.length) (o,ps)
  ⟨ag,by have:=ag.wl;simp only;omega,rfl,rfl,hs⟩ ?_
 clear hs gS ag
 rintro⟨o1,os⟩ ⟨out,⟨⟩⟩ h1 ⟨ag,gS,da,cM,dR⟩ K bp hd
 simp only at ag gS da cM dR
 obtain⟨pb,fl,wt,aa⟩:=A0h.1 dR
 have eG:wt.len=o1.waiting.length:=(aa.p3).aW
 have cn:fl.len=o1.aG.length:=(aa.p2).aW
 refine cut (fun z h'=>h'=h1∧z.1=(o1.on&&decide (0<o1.waiting.length))) ?_ ?_
 ·intro K2 bd
  refine⟨_,rfl,o1.on,by rw[U2];exact aa.cell 2,?_⟩
  (try dsimp only);rw[U6]
  cases aP:o1.on with
  |false=>rw[if_neg (by simp)];exact bd _ _ ⟨rfl,by simp[aP]⟩
  |true=>
   rw[if_pos rfl]
   refine⟨_,rfl,wt,by rw[U2];exact aa.cell 4,?_⟩
   refine bd _ _ ⟨rfl,?_⟩
   simp only[eG,aP,G2]
   exact F9.2 (by omega)
 rintro⟨z,⟨⟩⟩ h2 ⟨rfl,hz⟩
 simp only at hz
 subst hz
 (try dsimp only);rw[U6]
 by_cases nO:o1.on=true∧0<o1.waiting.length
 case neg=>
  rw[if_neg (by rw[E8,decide_eq_true_eq];exact nO)]
  have e:Y7 o1=(o1,[]):=by
   unfold Y7
   by_cases aP:o1.on=true
   ·rw[if_pos aP]
    have hw:o1.waiting=[]:=by
     cases hw:o1.waiting with
     |nil=>rfl
     |cons m w=>exact absurd ⟨aP,by rw[hw];simp⟩ nO
    rw[hw]
    show({o1 with waiting:=[]},[])=_
    rw[←hw]
   ·rw[if_neg aP]
  rw[e] at da cM
  rw[C1] at cM
  refine hd _ _ (hq h2 out ?_)
  rw[←da,←cM]
  exact dR
 obtain⟨aP,jR⟩:=nO
 rw[if_pos (by simp[aP,jR])]
 cases bw:o1.waiting with
 |nil=>rw[bw] at jR;simp at jR
 |cons m w=>
 have gZ:=ag.wl
 have tj:=ag.wq m (by rw[bw];exact B5 ..)
 have nv:∀x∈w,0≤x.2.2.1∧x.2.2.1≤2:=fun x hx=>ag.wq x (by rw[bw];exact C2 _ hx)
 have nO:Y7 o1=goF o1 (m::w):=by unfold Y7;rw[if_pos aP,bw]
 rw[nO,B1Q] at da cM
 rw[bw] at gS aa eG gZ
 have ij:=ag.f64
 have qe:=ag.m64
 refine⟨_,rfl,wt,by rw[U2];exact aa.cell 4,?_⟩
 (try dsimp only);rw[U0]
 refine X6 (i:=0) (aa.p3.aO A7A) (x:=m) rfl fun p hp=>?_
 (try dsimp only);rw[U0]
 refine C2S hp ?_
 refine V4 aa fun gR h3 aY=>?_
 (try dsimp only);rw[U0]
 refine l0 aY rfl rfl fun h4 gF=>?_
 have ae:sat h4 (cells gR (Z4 m).toArray::cells b #[at0 pb,.int .i64 o1.most,.bool o1.on,.slice fl.a fl.len fl.cap,.slice wt.a wt.len wt.cap]::A1k pb o1.aU::U4 A0I 7 fl o1.aG::U4 Z4 5 wt (m::w)::o6 .u8 out os::R):=gF
 clear gF aY aa
 refine cut (fun z h'=>h'=h4∧z.1=decide (0<m.2.2.1∧o1.most≤(o1.aG.length:Int))) ?_ ?_
 ·intro K2 bd
  refine⟨m.2.2.1,by rw[U2];exact ae.cell 2,?_⟩
  (try dsimp only);rw[U6]
  by_cases fP:0<m.2.2.1
  ·rw[if_pos (by simpa using fP)]
   refine⟨_,rfl,fl,by rw[U2];exact ae.p1.cell 3,_,rfl,o1.most,by rw[U2];exact ae.p1.cell 1,?_⟩
   refine bd _ _ ⟨rfl,?_⟩
   simp only[cn]
   rw[F9]
   simp[fP]
  ·rw[if_neg (by simpa using fP)]
   exact bd _ _ ⟨rfl,by simp[fP]⟩
 rintro⟨z,⟨⟩⟩ h5 ⟨rfl,hz⟩
 simp only at hz
 subst hz
 (try dsimp only);rw[U6]
 by_cases aA:0<m.2.2.1∧o1.most≤(o1.aG.length:Int)
 ·rw[if_pos (by simpa using aA)]
  rw[if_pos aA] at da cM
  rw[C1] at cM
  refine hd _ _ (hq h5 out ?_)
  rw[←da,←cM]
  have:sat h5 (A0i b {o1 with waiting:=m::w}::o6 .u8 out os::R):=A0h.2 ⟨pb,fl,wt,ae.drop⟩
  exact this
 rw[if_neg (by simpa using aA)]
 rw[if_neg aA] at da cM
 refine⟨_,rfl,wt,by rw[U2];exact ae.p1.cell 4,?_⟩
 (try dsimp only);rw[U0]
 refine B2k (mx:=none) (lo:=1) (hi:=(m::w).length) ae.p4 A7A (by simp) (D6 _) ⟨rfl,by simp⟩ (by rw[eG];rfl) fun wt' aj=>?_
 rw[F5] at aj
 have bo:sat h5 (U4 Z4 5 wt' w::cells gR (Z4 m).toArray::cells b #[at0 pb,.int .i64 o1.most,.bool o1.on,.slice fl.a fl.len fl.cap,.slice wt.a wt.len wt.cap]::A1k pb o1.aU::U4 A0I 7 fl o1.aG::o6 .u8 out os::R):=aj
 clear aj ae
 refine⟨_,rfl,?_⟩
 (try dsimp only);rw[U0,U2]
 refine W5 bo.p2 (by simp) rfl fun h6 bq=>?_
 have ak:sat h6 (cells b #[at0 pb,.int .i64 o1.most,.bool o1.on,.slice fl.a fl.len fl.cap,.slice wt'.a wt'.len wt'.cap]::U4 Z4 5 wt' w::cells gR (Z4 m).toArray::A1k pb o1.aU::U4 A0I 7 fl o1.aG::o6 .u8 out os::R):=bq
 clear bq bo
 refine⟨m.2.2.1,by rw[U2];exact ak.p2.cell 2,?_⟩
 refine cut (fun z h'=>∃(fl':Slc) (o2:Z8),o2.on=true∧o2.waiting=w∧W9 o2∧(goF o2 w).1=(Y7 o).1∧os++A0s m z.1 false::(goF o2 w).2=ps++(Y7 o).2∧
   sat h' (cells gR (Z4 m).toArray::cells b #[at0 pb,.int .i64 o2.most,.bool o2.on,.slice fl'.a fl'.len fl'.cap,.slice wt'.a wt'.len wt'.cap]::A1k pb o2.aU::U4 A0I 7 fl' o2.aG::U4 Z4 5 wt' w::o6 .u8 out os::R)) ?_ ?_
 ·intro K2 bd
  (try dsimp only);rw[U6]
  by_cases fP:0<m.2.2.1
  ·rw[if_pos (by simpa using fP)]
   rw[if_pos fP] at da cM
   dsimp only at da cM
   have jD:(o1.aG.length:Int)<o1.most:=by omega
   refine⟨_,rfl,some ⟨pb,0,none⟩,by rw[U2];exact ak.cell 0,?_⟩
   have tJ:=ag.fH
   have iK:=ag.pm
   refine u6 (C4o ak.p3 (fun hf=>absurd hf (by omega)) (fun _ n u hr h7 gg=>⟨(u,0,()),rfl,?_⟩))
   have hu:=B5o hr
   have aL:sat h7 (A1k pb ⟨o1.aU.most,u,o1.aU.used++[u]⟩::cells b #[at0 pb,.int .i64 o1.most,.bool o1.on,.slice fl.a fl.len fl.cap,.slice wt'.a wt'.len wt'.cap]::U4 Z4 5 wt' w::cells gR (Z4 m).toArray::U4 A0I 7 fl o1.aG::o6 .u8 out os::R):=gg
   clear gg
   refine⟨_,rfl,fl,by rw[U2];exact aL.p1.cell 3,?_⟩
   refine Y4 (ts:=[.str,.str,.int .i64,.bool,.str]) (toU m) aL.p3 rfl ?_
   refine V4 aL fun pg h8 bu=>?_
   refine⟨fl,by rw[U2];exact bu.p2.cell 3,rfl,?_⟩
   (try dsimp only);rw[U0]
   refine z8 (enc:=A0I) (ys:=[(u,m,false)]) A2C B1X rfl bu.p5 rfl ?_ (by decide) (by decide) (by omega) fun fl' h9 ff=>?_
   ·simp only[V6,M9,D5,H8,C1]
    exact bu.reads rfl
   refine⟨_,rfl,?_⟩
   (try dsimp only);rw[U0,U2]
   refine W5 ff.p3 (by simp) rfl fun fX gh=>?_
   have aV:=ag.take (m:=m) (w:=w) (by simp only[B7] at gZ;omega) nv ⟨fP,tj.2⟩ jD
   rw[hu] at da cM aV
   refine bd _ _ ⟨fl',{o1 with aU:=⟨o1.aU.most,u,o1.aU.used++[u]⟩,aG:=o1.aG++[(u,m,false)],waiting:=w},aP,rfl,aV,?_,?_,(gh.re [2,5,0,3,1,4,6]).drop⟩
   ·rw[←da]
    exact congrArg Prod.fst (A37 {o1 with aU:=⟨o1.aU.most,u,o1.aU.used++[u]⟩,aG:=o1.aG++[(u,m,false)]} w w)
   ·rw[←cM]
    have:=congrArg Prod.snd (A37 {o1 with aU:=⟨o1.aU.most,u,o1.aU.used++[u]⟩,aG:=o1.aG++[(u,m,false)]} w w)
    simp only at this⊢
    rw[this]
  ·rw[if_neg (by simpa using fP)]
   rw[if_neg fP] at da cM
   dsimp only at da cM
   refine bd _ _ ⟨fl,{o1 with waiting:=w},aP,rfl,⟨ag.pm,ag.pk,ag.m1,ag.m64,ag.ids,by simp only[B7] at gZ⊢;omega,ag.fq,nv⟩,?_,?_,ak.re [2,0,3,4,1]⟩
   ·rw[←da,A37]
   ·rw[←cM,A37]
 rintro⟨id,⟨⟩⟩ h7 ⟨fl',o2,ta,iZ,bU,xq,vj,ai⟩
 simp only at vj
 refine Y4 (ts:=[.str,.str,.int .i64,.bool,.str]) (toU m) ai rfl ?_
 refine U5 (B7A (m:=m) (id:=id) (dup:=false) ai fun c p h8 ay=>⟨pkT (A0s m id false) c p,rfl,?_⟩)
 refine A40 (t:=(c,p,A0s m id false)) (ay.re [6,0,1,2,3,4,5]) rfl (by decide) (by simp only[B7] at gS;omega) fun out' h9 aL=>?_
 have e2:Y7 o2=goF o2 w:=by unfold Y7;rw[if_pos ta,iZ]
 refine bp (o2,os++[A0s m id false]) _ _ (by simp only[bw,iZ,B7];omega) ⟨bU,?_,by rw[e2];exact xq,by rw[e2,D4];exact vj,?_⟩
 ·simp only[iZ,B4,B7,G8] at gS⊢
  omega
 ·refine A0h.2 ⟨pb,fl',wt',?_⟩
  rw[iZ]
  exact(aL.re [2,3,4,5,0,1]).re [0,1,2,3,4,5]|>fun hh=>(hh.re [5,0,1,2,3,4]).drop
end
instance:Enc Z4 5:=⟨A7A,B50,by decide⟩
instance:Enc A0I 7:=⟨A2C,B1X,by decide⟩
instance(k:IntKind):Enc (W7 k) 26:=⟨B5Z k,B22 k,by decide⟩
instance(k:IntKind):Enc (eKd k) 1:=⟨C23 k,C5B k,by decide⟩
instance:Enc W8 4:=⟨C21,C5z,by decide⟩
abbrev v8(x:B3O):C9w:=[.string x]
instance:Enc v8 1:=⟨fun _=>rfl,fun x v hv=>by rw[C0.1 hv];rfl,by decide⟩
end Go.Proofs.YtidlldnlphdhcaaGreatDoor
namespace Go.H
section
variable {A B C D E F:Asn} {L L1 L2 L3 L4 L5 L' R:List Asn} {h:Heap}
theorem Has.eW(hb:Has L B L1)(hc:Has L1 C L2)(hd:Has L2 D L3)(he:Has L3 E L4)(hf:Has L4 F L5):Sub L (B::C::D::E::F::L5):=fun m hs=>A0x (fun _ h=>h) (hc.eH hd he hf) (hb m hs)
theorem W.eU{α:Type}{m:HM α}{Q:α→Heap→Prop}(mk:∀h,sat h (B::C::D::E::F::L5)→sat h (A::L5))(hw:W (A::L5) m Q)(hb:Has L B L1:=by repeat first|with_reducible exact U9|apply V1)(hc:Has L1 C L2:=by repeat first|with_reducible exact U9|apply V1)(hd:Has L2 D L3:=by repeat first|with_reducible exact U9|apply V1)(he:Has L3 E L4:=by repeat first|with_reducible exact U9|apply V1)(hf:Has L4 F L5:=by repeat first|with_reducible exact U9|apply V1):W L m Q:=fun h hs=>hw h (mk h ((hb.eW hc hd he hf).s hs))
theorem At.cZ{q:Heap→Prop}(mk:∀h,sat h (B::C::L2)→sat h (A::L2))(hw:At (A::L2) q)(hb:Has L B L1:=by repeat first|with_reducible exact U9|apply V1)(hc:Has L1 C L2:=by repeat first|with_reducible exact U9|apply V1):At L q:=fun h hs=>hw h (mk h ((hb.then hc).s hs))
theorem At.eU{q:Heap→Prop}(mk:∀h,sat h (B::C::D::E::F::L5)→sat h (A::L5))(hw:At (A::L5) q)(hb:Has L B L1:=by repeat first|with_reducible exact U9|apply V1)(hc:Has L1 C L2:=by repeat first|with_reducible exact U9|apply V1)(hd:Has L2 D L3:=by repeat first|with_reducible exact U9|apply V1)(he:Has L3 E L4:=by repeat first|with_reducible exact U9|apply V1)(hf:Has L4 F L5:=by repeat first|with_reducible exact U9|apply V1):At L q:=fun h hs=>hw h (mk h ((hb.eW hc hd he hf).s hs))
variable {K V σ τ β:Type} {ek:K→Value} {ev:V→Value} {r it:Nat} {l done todo:List (K×V)} {Q':β→Heap→Prop}
theorem W.range{f:Nat→HM β}(hw:∀it,W (itA ek ev r l it [] l::L') (f it) Q')(hx:Has L (mapA ek ev r l) L':=by repeat first|with_reducible exact U9|apply V1):W L (HM.bind (A90 (some r)) f) Q':=fun h hs=>
 A8Y (hx.s hs) fun it h' af=>hw it h' af
theorem W.entry{kk kv:Kind}{p:K×V}{x:kk.ty}{y:kv.ty}{f:kk.ty×kv.ty→HM β}(hw:W L (f (x,y)) Q')(hx:Has L (itA ek ev r l it (done++[p]) todo) L':=by repeat first|with_reducible exact U9|apply V1)(hk:ek p.1=kk.val x:=by rfl)(hv:ev p.2=kv.val y:=by rfl):W L (HM.bind (A4y kk kv it) f) Q':=fun h hs=>
 A9d hk hv (hx.s hs) (hw h hs)
theorem C8W{γ:Type}{s:σ}{body:σ→HM (σ⊕τ)}{Q:τ→Heap→Prop}(I:γ→σ→Prop)(J:γ→σ→List Asn)(μ:γ→Nat)(g:γ)(h0:I g s)(hL:Sub L (J g s))
  (hr:∀g s,I g s→∀K:σ⊕τ→Heap→Prop,(∀g' s',μ g'<μ g→I g' s'→At (J g' s') (K (.inl s')))→(∀t L,At L (Q t)→At L (K (.inr t)))→W (J g s) (body s) K):
  W L (HM.loop body s) Q:=fun h hs=>by
 refine A7i (γ:=γ) (fun g s h=>I g s∧sat h (J g s)) μ g ⟨h0,hL.s hs⟩ ?_
 rintro g s h ⟨hI,hJ⟩ K h1 h2
 exact hr g s hI K (fun g' s' hm qO h' af=>h1 g' s' h' hm ⟨qO,af⟩) (fun t L hw h' af=>h2 t h' (hw h' af)) h hJ
theorem C5X{s:σ}{N:σ→HM (σ⊕τ)}{S:σ→Value×Value→HM (σ⊕τ)}{f:τ→HM β}(J:List (K×V)→σ→List Asn)(hL:Sub L (itA ek ev r l it [] l::J [] s))
  (hN:∀done s,done.Perm l→∀K':σ⊕τ→Heap→Prop,(∀t L,W L (f t) Q'→At L (K' (.inr t)))→W (mapA ek ev r l::J done s) (N s) K')
  (hS:∀done p rest s,(done++p::rest).Perm l→∀K':σ⊕τ→Heap→Prop,(∀s',At (itA ek ev r l it (done++[p]) rest::J (done++[p]) s') (K' (.inl s')))→
   (∀t L,W L (f t) Q'→At L (K' (.inr t)))→W (itA ek ev r l it (done++[p]) rest::J done s) (S s (ek p.1,ev p.2)) K'):
  W L (HM.bind (HM.loop (fun s=>HM.bind (A74 it) fun o=>A2H o (N s) (S s)) s) f) Q':=fun h hs=>by
 rw[U0]
 refine C5e J (hL.s hs) (fun done s h hp hs K' hd=>?_) (fun done p rest s h hp hs K' bp hd=>?_)
 ·exact hN done s hp K' (fun t L hw h' af=>hd t h' (hw h' af)) h hs
 ·exact hS done p rest s hp K' (fun s' h' af=>bp s' h' af) (fun t L hw h' af=>hd t h' (hw h' af)) h hs
theorem C6P{s:σ}{N:σ→HM (σ⊕τ)}{S:σ→Value×Value→HM (σ⊕τ)}{f:τ→HM β}(p:List (K×V)→σ→Prop)(J:List (K×V)→σ→List Asn)(hp:p [] s)(hL:Sub L (itA ek ev r l it [] l::J [] s))
  (hN:∀done s,done.Perm l→p done s→∀K':σ⊕τ→Heap→Prop,(∀t L,W L (f t) Q'→At L (K' (.inr t)))→W (mapA ek ev r l::J done s) (N s) K')
  (hS:∀done q rest s,(done++q::rest).Perm l→p done s→∀K':σ⊕τ→Heap→Prop,(∀s',p (done++[q]) s'→At (itA ek ev r l it (done++[q]) rest::J (done++[q]) s') (K' (.inl s')))→
   (∀t L,W L (f t) Q'→At L (K' (.inr t)))→W (itA ek ev r l it (done++[q]) rest::J done s) (S s (ek q.1,ev q.2)) K'):
  W L (HM.bind (HM.loop (fun s=>HM.bind (A74 it) fun o=>A2H o (N s) (S s)) s) f) Q':=by
 refine C5X (ek:=ek) (ev:=ev) (r:=r) (l:=l) (fun done s=>pr (p done s)::J done s) ?_ ?_ ?_
 ·exact fun m hs=>A0x (fun _ h=>h) (fun _ h=>B6S hp h) (hL m hs)
 ·intro done s hd K' hk h hs
  obtain⟨h1,h2⟩:=sat.bC.1 (hs.re [1,0])
  exact hN done s hd h1 K' hk h h2
 ·intro done q rest s hd K' bp hk h hs
  obtain⟨h1,h2⟩:=sat.bC.1 (hs.re [1,0])
  refine hS done q rest s hd h1 K' (fun s' di h' af=>?_) hk h h2
  have h3:sat h' (pr (p (done++[q]) s')::itA ek ev r l it (done++[q]) rest::J (done++[q]) s'):=sat.bC.2 ⟨di,af⟩
  exact bp s' h' (h3.re [1,0])
end
end Go.H
namespace Go.Proofs.YtidlldnlphdhcaaGreatDoor
open Go.H
open Go.Proofs.Tryz
open Go.H Go.Proofs
def A0d(f:Nat)(s:r8):Asn:=exA fun b:Nat=>star (cells f #[at0 b]) (A1k b s)
theorem A2R{h:Heap}{f:Nat}{s:r8}{R:List Asn}:sat h (A0d f s::R)↔∃b:Nat,sat h (cells f #[at0 b]::A1k b s::R):=by
 unfold A0d
 rw[sat.bA]
 constructor
 ·rintro⟨b,hs⟩;exact⟨b,sat.aI.1 hs⟩
 ·rintro⟨b,hs⟩;exact⟨b,sat.aI.2 hs⟩
theorem C0i{h:Heap}{R:List Asn}(hs:sat h R)(most:Int){Q:Value→Heap→Prop}
  (hq:∀b h',sat h' (A0d b ⟨max 1 (min most 64),0,[]⟩::R)→Q (at0 b) h'):V2 prog 113 #[.int .i64 most] h Q:=by
 refine B2U most h Q ?_
 delta B5H az cp nw pu vi
 simp only[U0,C57]
 refine C0T hs most fun b h1 aa=>?_
 simp only[C7f,U0]
 refine V4 aa fun f h2 ae=>?_
 exact hq f h2 (A2R.2 ⟨b,ae⟩)
section
open Go.H Go.Proofs
structure V7 where
 id:Int
 aC:B3O
 aN:Bool
 on:Bool
 out:Z8
 aZ:r8
def A3z(b:Nat)(s:V7):Asn:=exA fun x:Nat×Nat=>
 star (cells b #[.int .i64 s.id,.string s.aC,.bool s.aN,.bool s.on,at0 x.1,at0 x.2]) (star (A0i x.1 s.out) (A0d x.2 s.aZ))
theorem A1F{h:Heap}{b:Nat}{s:V7}{R:List Asn}:sat h (A3z b s::R)↔∃ob ib:Nat,
  sat h (cells b #[.int .i64 s.id,.string s.aC,.bool s.aN,.bool s.on,at0 ob,at0 ib]::A0i ob s.out::A0d ib s.aZ::R):=by
 unfold A3z
 rw[sat.bA]
 constructor
 ·rintro⟨⟨ob,ib⟩,hs⟩
  rw[sat.aI] at hs
  exact⟨ob,ib,(sat.aI.1 hs.p1).p2⟩
 ·rintro⟨ob,ib,hs⟩
  refine⟨(ob,ib),?_⟩
  rw[sat.aI]
  exact(sat.aI.2 (hs.re [1,2,0])).p1
def o5(p:Nat×V7):Int×C9u:=(p.2.id,some ⟨p.1,0,none⟩)
abbrev eKI:Int→Value:=fun n=>.int .i64 n
abbrev eVP:C9u→Value:=Kind.val (.one .ptr)
def A1E(b:Nat)(last:Int)(L:List (Nat×V7)):Asn:=exA fun m:Nat=>
 star (cells b #[.int .i64 last,.map (some m)]) (star (mapA eKI eVP m (L.map o5)) (a7 (fun p=>A3z p.1 p.2) L))
theorem p9{h:Heap}{b:Nat}{last:Int}{L:List (Nat×V7)}{R:List Asn}:sat h (A1E b last L::R)↔∃m:Nat,
  sat h (cells b #[.int .i64 last,.map (some m)]::mapA eKI eVP m (L.map o5)::a7 (fun p=>A3z p.1 p.2) L::R):=by
 unfold A1E
 rw[sat.bA]
 constructor
 ·rintro⟨m,hs⟩
  rw[sat.aI] at hs
  exact⟨m,(sat.aI.1 hs.p1).p2⟩
 ·rintro⟨m,hs⟩
  refine⟨m,?_⟩
  rw[sat.aI]
  exact(sat.aI.2 (hs.re [1,2,0])).p1
theorem B9z{h:Heap}{R:List Asn}(hs:sat h R){Q:Value→Heap→Prop}(hq:∀b h',sat h' (A1E b 0 []::R)→Q (at0 b) h'):V2 prog 27 #[] h Q:=by
 refine B0W h Q ?_
 delta B3o az bn nw pu vi
 refine A7e (ek:=eKI) (ev:=eVP) hs fun m h1 aa=>?_
 refine V4 aa fun b h2 ae=>?_
 exact hq b h2 (p9.2 ⟨m,(A2u.2 ae).b2⟩)
theorem B4R{h:Heap}{L:List (Nat×V7)}{R:List Asn}{p:Nat×V7}(hp:p∈L)(hs:sat h (a7 (fun p=>A3z p.1 p.2) L::R)):V9 h ⟨p.1,1,none⟩=some (.string p.2.aC):=by
 obtain⟨R',hs⟩:=A8R hp hs
 obtain⟨ob,ib,hs⟩:=A1F.1 hs
 exact hs.cell 1
theorem C2P{h:Heap}{R:List Asn}{b:Nat}{last:Int}{L:List (Nat×V7)}{c:B3O}(hs:sat h (A1E b last L::R)){Q:Value→Heap→Prop}
  (ax:(∀p∈L,p.2.aC≠c)→∀h',sat h' (A1E b last L::R)→Q (.pointer none) h')
  (cN:∀p∈L,p.2.aC=c→∀h',sat h' (A1E b last L::R)→Q (at0 p.1) h'):V2 prog 98 #[at0 b,.string c] h Q:=by
 refine A66 _ c h Q ?_
 obtain⟨m,hs⟩:=p9.1 hs
 have c1:V9 h ⟨b,1,none⟩=some (.map (some m)):=hs.cell 1
 delta A6n bn ie km kt nn pu
 simp[c1]
 refine A8Y hs.p1 fun it h1 aa=>?_
 refine l6 (γ:=List (Int×C9u)×List (Int×C9u))
  (fun g _ h'=>(g.1++g.2).Perm (L.map o5)∧(∀p∈L,o5 p∈g.1→p.2.aC≠c)∧
   sat h' (itA eKI eVP m (L.map o5) it g.1 g.2::cells b #[.int .i64 last,.map (some m)]::a7 (fun p=>A3z p.1 p.2) L::R)) (fun g=>g.2.length) ([],L.map o5) ⟨I9 _,by simp,aa⟩ ?_
 rintro⟨done,todo⟩ ⟨⟩ h2 ⟨hp,hd,ae⟩
 simp only at hp hd ae
 simp
 refine B1z ae (fun h0=>?_) (fun q t1 t2 ht h3 aj=>?_)
 ·subst h0
  simp
  refine ax (fun p pV=>hd p pV ?_) h2 (p9.2 ⟨m,(A89 ae).p1⟩)
  rw[C1] at hp
  exact hp.mem_iff.2 (B3 pV)
 ·subst ht
  simp
  have uI:q∈L.map o5:=hp.mem_iff.1 (by simp)
  obtain⟨p,pV,rfl⟩:=E4.1 uI
  refine A9d (kk:=.one .any) (kv:=.one .ptr) (ek:=eKI) (ev:=eVP) (p:=o5 p) (x:=Value.int .i64 p.2.id) (y:=some ⟨p.1,0,none⟩) rfl rfl aj ?_
  have cc:V9 h3 ⟨p.1,1,none⟩=some (.string p.2.aC):=B4R pV aj.p2
  simp[o5,cc]
  by_cases hc:p.2.aC=c
  ·simp[hc]
   exact cN p pV hc h3 (p9.2 ⟨m,(A89 aj).p1⟩)
  ·simp[hc]
   refine .mk (done++[o5 p],t1++t2) (by simp) ⟨?_,fun a b di hm=>?_,aj⟩
   ·refine List.Perm.trans ?_ hp
    simp only[D4]
    refine Q3 done ?_
    show(o5 p::(t1++t2)).Perm _
    exact P7.symm
   ·rcases C7.1 hm with hm|hm
    ·exact hd (a,b) di hm
    ·have he:=C0.1 hm
     have:a=p.1:=by
      have:=congrArg Prod.snd he
      simpa[o5] using this
     have c2:=B4R di aj.p2
     simp only at c2
     rw[this,cc] at c2
     have e2:p.2.aC=b.aC:=by simpa using c2
     exact fun e3=>hc (e2.trans e3)
def Z6(c:B3O):Prop:=p7 c=none∧c≠ByteArray.mk #[]∧c.size≤64
theorem C26{h:Heap}{R:List Asn}{b:Nat}{last:Int}{L:List (Nat×V7)}{k:Int}(hs:sat h (A1E b last L::R)){Q:Value→Heap→Prop}
  (ax:(∀p∈L,p.2.id≠k)→Q (.pointer none) h)(cN:∀p∈L,p.2.id=k→Q (at0 p.1) h):V2 prog 99 #[at0 b,.int .i64 k] h Q:=by
 refine A67 _ k h Q ?_
 obtain⟨m,hs⟩:=p9.1 hs
 have c1:V9 h ⟨b,1,none⟩=some (.map (some m)):=hs.cell 1
 delta A6o bn ie km nn pu vi
 simp[c1]
 refine u4 kI (kind:=.one .ptr) (z:=none) rfl hs.p1 ?_
 cases hg:W0 (L.map o5) k with
 |none=>
  simp
  refine ax fun p hp e=>?_
  have:=(A1i _ _).1 hg
  exact this (by rw[F0];exact E4.2 ⟨p,hp,e⟩)
 |some v=>
  obtain⟨p,hp,e⟩:=E4.1 (A42 hg)
  have e1:p.2.id=k:=congrArg Prod.fst e
  have e2:some ⟨p.1,0,none⟩=v:=congrArg Prod.snd e
  subst e2
  simpa using cN p hp e1
theorem C2v{h:Heap}{R:List Asn}{m:Nat}{l1 l2:List (Nat×V7)}{p:Nat×V7}(hs:sat h (mapA eKI eVP m ((l1++p::l2).map o5)::R)):p.2.id∉(l1.map o5).map (·.1):=by
 have hn:=hs.bN
 rw[B8,B6,B8,B6,G0] at hn
 intro hm
 exact hn.2.2 p.2.id hm p.2.id (B5 ..) rfl
theorem C58{h:Heap}{R:List Asn}{b:Nat}{last:Int}{L:List (Nat×V7)}{k:Int}(hs:sat h (A1E b last L::R)){Q:Value→Heap→Prop}
  (ax:(∀p∈L,p.2.id≠k)→Q (.bool false) h)(dF:∀p∈L,p.2.id=k→p.2.on=false→Q (.bool false) h)
  (er:∀l1 p l2,L=l1++p::l2→p.2.id=k→p.2.on=true→p.2.aN=true→∀h',sat h' (A1E b last (l1++(p.1,{p.2 with on:=false,out:={p.2.out with on:=false}})::l2)::R)→Q (.bool false) h')
  (tP:∀l1 p l2,L=l1++p::l2→p.2.id=k→p.2.on=true→p.2.aN=false→∀h',sat h' (A1E b last (l1++l2)::R)→Q (.bool true) h'):
  V2 prog 95 #[at0 b,.int .i64 k] h Q:=by
 refine A6r _ k h Q ?_
 delta A5v bn cp cx ie kb km kp nn pu sx vi
 simp only[U0,C57]
 refine C26 hs (fun hn=>?_) (fun p hp he=>?_)
 ·simp
  exact ax hn
 ·obtain⟨l1,l2,rfl⟩:=G7 hp
  obtain⟨m,hs⟩:=p9.1 hs
  have aa:=j2.1 (hs.re [2,0,1])
  obtain⟨ob,ib,ae⟩:=A1F.1 aa
  have c2:V9 h ⟨p.1,2,none⟩=some (.bool p.2.aN):=ae.cell 2
  have c3:V9 h ⟨p.1,3,none⟩=some (.bool p.2.on):=ae.cell 3
  by_cases aP:p.2.on=true
  ·rw[aP] at c3
   simp[U2,c3]
   refine W5 ae (by simp) rfl fun h1 aj=>?_
   have d4:V9 h1 ⟨p.1,4,none⟩=some (at0 ob):=by rw[aj.cell];rfl
   simp[d4]
   refine B9V aj.p1 fun h2 ak=>?_
   have e2:V9 h2 ⟨p.1,2,none⟩=some (.bool p.2.aN):=by rw[ak.p1.cell];rfl
   simp[e2]
   have fin:∀{h':Heap} {R':List Asn},sat h' (A0i ob {p.2.out with on:=false}::cells p.1 (#[.int .i64 p.2.id,.string p.2.aC,.bool p.2.aN,.bool p.2.on,at0 ob,at0 ib].setIfInBounds 3 (.bool false))::A0d ib p.2.aZ::a7 (fun p=>A3z p.1 p.2) (l1++l2)::R')→
     sat h' (a7 (fun p=>A3z p.1 p.2) (l1++(p.1,{p.2 with on:=false,out:={p.2.out with on:=false}})::l2)::R'):=fun af=>by
    refine j2.2 (A1F.2 ⟨ob,ib,?_⟩)
    exact af.re [1,0,2]
   by_cases hk:p.2.aN=true
   ·simp[hk,e2]
    refine er l1 p l2 rfl he aP hk h2 (p9.2 ⟨m,?_⟩)
    have e:(l1++(p.1,{p.2 with on:=false,out:={p.2.out with on:=false}})::l2).map o5=(l1++p::l2).map o5:=by simp[o5]
    rw[e]
    exact(fin ak).re [1,2,0]
   ·have gV:p.2.aN=false:=by simpa using hk
    have ai:=ak.re [4,5,0,1,2,3]
    have f1:V9 h2 ⟨b,1,none⟩=some (.map (some m)):=by rw[ai.cell];rfl
    simp[gV,f1]
    refine A5N kI (ev:=eVP) ai.p1 fun h3 ay=>?_
    have g2:V9 h3 ⟨p.1,2,none⟩=some (.bool p.2.aN):=by rw[(ay.re [3,0,1,2]).cell];rfl
    rw[gV] at g2
    simp[g2]
    refine tP l1 p l2 rfl he aP gV h3 (p9.2 ⟨m,?_⟩)
    have fQ:=C2v hs.p1
    have iA:mdel ((l1++p::l2).map o5) k=(l1++l2).map o5:=by
     rw[B8,B6,show o5 p=(k,(o5 p).2) from by rw[←he];rfl,B1C (by rw[←he];exact fQ),B8]
    rw[iA] at ay
    have aL:=ay.re [1,0,5,2,3,4]
    exact(aL.re [3,4,5,0,1,2]).drop.drop.drop
  ·have cH:p.2.on=false:=by simpa using aP
   rw[cH] at c3
   simp[U2,c3]
   exact dF p hp he cH
def A2s(id:Int)(c:B3O)(aN:Bool):V7:=⟨id,c,aN,true,⟨⟨64,0,[]⟩,64,false,[],[]⟩,⟨64,0,[]⟩⟩
theorem C2u{h h0:Heap}{R:List Asn}{b:Nat}{last:Int}{L:List (Nat×V7)}(hs:sat h (A1E b last L::old h0::R))(ht:U8 h0){c:B3O}(hsz:c.size≤9223372036854775807){clean aN:Bool}
  (tp:0≤last)(fc:last<4611686018427387904)(hid:∀p∈L,p.2.id≤last){Q:Value→Heap→Prop}
  (al:¬Z6 c→∀h',sat h' (A1E b last L::old h0::R)→Q (.tuple #[.int .i64 0,.bool false,.int .u8 133]) h')
  (aA:Z6 c→(∀p∈L,p.2.aC≠c)→32≤L.length→∀h',sat h' (A1E b last L::old h0::R)→Q (.tuple #[.int .i64 0,.bool false,.int .u8 151]) h')
  (aP:Z6 c→clean=false→∀l1 p l2,L=l1++p::l2→p.2.aC=c→∀h',sat h' (A1E b last (l1++(p.1,{p.2 with on:=true,aN:=aN})::l2)::old h0::R)→Q (.tuple #[.int .i64 p.2.id,.bool true,.int .u8 0]) h')
  (gH:Z6 c→∀L0,((∀p∈L,p.2.aC≠c)∧L.length<32∧L0=L)∨(clean=true∧∃l1 p l2,L=l1++p::l2∧p.2.aC=c∧L0=l1++l2)→
   ∀nb h',sat h' (A1E b (last+1) (L0++[(nb,A2s (last+1) c aN)])::old h0::R)→Q (.tuple #[.int .i64 (last+1),.bool false,.int .u8 0]) h'):
  V2 prog 69 #[at0 b,.string c,.bool clean,.bool aN] h Q:=by
 refine A5h _ c clean aN h Q ?_
 delta A4r az bn cp es ie ki km nn nw pu rq sx vi wi
 refine u6 (B6M hs.p1 ht c hsz fun h1 bx=>⟨(match p7 c with|some n=>((n:Int),true,())|none=>(0,false,())),by cases p7 c<;>rfl,?_⟩)
 have aa:=bx.p1
 clear bx hs
 have hx:(match p7 c with|some n=>((n:Int),true,())|none=>(0,false,()):Int×Bool×Unit).2.1=(p7 c).isSome:=by cases p7 c<;>rfl
 simp only[hx,U6,Option.isNone_some,H6,if_false]
 clear hx
 refine V3 (fun x h'=>h'=h1∧(x.1=true↔¬Z6 c)) ?_ ?_
 ·unfold Z6
  cases hf:p7 c with
  |some n=>simp
  |none=>
   by_cases g1:c=ByteArray.mk #[]
   ·simp[g1]
   ·by_cases g2:64<((c.size:Nat):Int)
    ·simp[g1,g2];omega
    ·simp[g1,g2];omega
 rintro⟨x,⟨⟩⟩ h2 ⟨rfl,hb⟩
 simp only at hb⊢
 by_cases hg:Z6 c
 case neg=>
  rw[U6,if_pos (hb.2 hg)]
  exact al hg h2 aa
 rw[U6,if_neg (fun hh=>(hb.1 hh) hg)]
 clear hb al
 refine V3 (fun x h'=>(x=none∧(∀p∈L,p.2.aC≠c)∧sat h' (A1E b last L::old h0::R))∨(∃p,p∈L∧x=some ⟨p.1,0,none⟩∧p.2.aC=c∧sat h' (A1E b last L::old h0::R))) ?_ ?_
 ·exact C2P aa (fun hn h' af=>⟨none,rfl,.inl ⟨rfl,hn,af⟩⟩) (fun p hp hc h' af=>⟨some ⟨p.1,0,none⟩,rfl,.inr ⟨p,hp,rfl,hc,af⟩⟩)
 intro x h3 hx
 refine V3 (fun y h'=>h'=h3∧y.1=(x.isSome&& !clean)) ?_ ?_
 ·cases x<;>simp
 rintro⟨y,⟨⟩⟩ h4 ⟨rfl,hy⟩
 simp only at hy⊢
 by_cases cH:y=true
 ·
  rw[U6,if_pos cH]
  rw[cH] at hy
  obtain⟨eE,ba⟩:x.isSome=true∧clean=false:=by
   cases x<;>cases clean<;>simp at hy⊢
  rcases hx with⟨rfl,-,-⟩|⟨p,hp,rfl,hc,ak⟩
  ·cases eE
  obtain⟨l1,l2,rfl⟩:=G7 hp
  obtain⟨m,ai⟩:=p9.1 ak
  have ay:=j2.1 (ai.re [2,0,1])
  obtain⟨ob,ib,aL⟩:=A1F.1 ay
  simp[U2]
  refine W5 aL (by simp) rfl fun h5 bu=>?_
  refine W5 bu (by simp) rfl fun h6 ff=>?_
  have c0:V9 h6 ⟨p.1,0,none⟩=some (.int .i64 p.2.id):=by rw[ff.cell];rfl
  simp[c0]
  refine aP hg ba l1 p l2 rfl hc h6 (p9.2 ⟨m,?_⟩)
  have e:(l1++(p.1,{p.2 with on:=true,aN:=aN})::l2).map o5=(l1++p::l2).map o5:=by simp[o5]
  rw[e]
  have fT:sat h6 (a7 (fun p=>A3z p.1 p.2) (l1++(p.1,{p.2 with on:=true,aN:=aN})::l2)::cells b #[.int .i64 last,.map (some m)]::mapA eKI eVP m ((l1++p::l2).map o5)::old h0::R):=
   j2.2 (A1F.2 ⟨ob,ib,ff⟩)
  exact fT.re [1,2,0]
 rw[U6,if_neg cH]
 obtain⟨P,xF,vC,xE⟩:∃P:Unit⊕(Int×Bool×Int×Unit)→Heap→Prop,
   (∀h',(∀p∈L,p.2.aC≠c)→32≤L.length→sat h' (A1E b last L::old h0::R)→P (Sum.inr (0,false,151,())) h')∧
   (∀L0 h',(((∀p∈L,p.2.aC≠c)∧L.length<32∧L0=L)∨(clean=true∧∃l1 p l2,L=l1++p::l2∧p.2.aC=c∧L0=l1++l2))→(∀p∈L0,p.2.id≤last)→sat h' (A1E b last L0::old h0::R)→P (Sum.inl ()) h')∧
   (∀z h',P z h'→(z=Sum.inr (0,false,151,())∧(∀p∈L,p.2.aC≠c)∧32≤L.length∧sat h' (A1E b last L::old h0::R))∨
    (z=Sum.inl ()∧∃L0,(((∀p∈L,p.2.aC≠c)∧L.length<32∧L0=L)∨(clean=true∧∃l1 p l2,L=l1++p::l2∧p.2.aC=c∧L0=l1++l2))∧(∀p∈L0,p.2.id≤last)∧sat h' (A1E b last L0::old h0::R))):=
  ⟨fun z h'=>(z=Sum.inr (0,false,151,())∧(∀p∈L,p.2.aC≠c)∧32≤L.length∧sat h' (A1E b last L::old h0::R))∨
    (z=Sum.inl ()∧∃L0,(((∀p∈L,p.2.aC≠c)∧L.length<32∧L0=L)∨(clean=true∧∃l1 p l2,L=l1++p::l2∧p.2.aC=c∧L0=l1++l2))∧(∀p∈L0,p.2.id≤last)∧sat h' (A1E b last L0::old h0::R)),
   fun h' a1 a2 a3=>.inl ⟨rfl,a1,a2,a3⟩,fun L0 h' a1 a2 a3=>.inr ⟨rfl,L0,a1,a2,a3⟩,fun z h' hz=>hz⟩
 refine V3 P ?_ ?_
 ·rcases hx with⟨rfl,ia,ak⟩|⟨p,hp,rfl,hc,ak⟩
  ·obtain⟨m,ai⟩:=p9.1 ak
   have c1:V9 h4 ⟨b,1,none⟩=some (.map (some m)):=ai.cell 1
   simp[c1]
   refine A85 ai.p1 ?_
   by_cases hlen:32≤L.length
   ·have:(32:Int)≤(((L.map o5).length:Nat):Int):=by simp;omega
    rw[if_pos this]
    exact xF h4 ia hlen ak
   ·have:¬(32:Int)≤(((L.map o5).length:Nat):Int):=by simp;omega
    rw[if_neg this]
    exact vC L h4 (.inl ⟨ia,by omega,rfl⟩) hid ak
  ·have ba:clean=true:=by
    cases clean with
    |true=>rfl
    |false=>simp at hy;exact absurd hy cH
   obtain⟨l1,l2,rfl⟩:=G7 hp
   obtain⟨m,ai⟩:=p9.1 ak
   have c1:V9 h4 ⟨b,1,none⟩=some (.map (some m)):=ai.cell 1
   have ay:=j2.1 (ai.re [2,0,1])
   obtain⟨ob,ib,aL⟩:=A1F.1 ay
   have c0:V9 h4 ⟨p.1,0,none⟩=some (.int .i64 p.2.id):=aL.cell 0
   have fQ:=C2v ai.p1
   have iA:mdel ((l1++p::l2).map o5) p.2.id=(l1++l2).map o5:=by
    rw[B8,B6,show o5 p=(p.2.id,(o5 p).2) from rfl,B1C fQ,B8]
   simp[c1,U2,c0]
   refine A5N kI (ev:=eVP) (ay.re [3,0,1,2]) fun h5 bu=>?_
   rw[iA] at bu
   refine vC (l1++l2) h5 (.inr ⟨ba,l1,p,l2,rfl,hc,rfl⟩) (fun p' di=>hid p' ?_) (p9.2 ⟨m,?_⟩)
   ·rcases C7.1 di with h|h
    ·exact K8 _ h
    ·exact G5 _ (C2 _ h)
   ·exact(bu.re [1,3,0,2]).drop
 intro z h5 hz
 rcases xE z h5 hz with⟨rfl,ia,hlen,ai⟩|⟨rfl,L0,xJ,tD,ai⟩
 ·exact aA hg ia hlen h5 ai
 simp only[D3]
 obtain⟨m,ay⟩:=p9.1 ai
 have w1:IntKind.wrap .i64 (last+1)=last+1:=V5 (by omega) (by omega)
 have c0:V9 h5 ⟨b,0,none⟩=some (.int .i64 last):=ay.cell 0
 simp[c0,w1]
 refine W5 ay (by simp) rfl fun h6 aL=>?_
 have gg:sat h6 (cells b #[.int .i64 (last+1),.map (some m)]::mapA eKI eVP m (L0.map o5)::a7 (fun p=>A3z p.1 p.2) L0::old h0::R):=aL
 clear aL
 have d0:V9 h6 ⟨b,0,none⟩=some (.int .i64 (last+1)):=gg.cell 0
 have d1:V9 h6 ⟨b,1,none⟩=some (.map (some m)):=gg.cell 1
 simp[d0,d1]
 refine B9U gg 64 fun ob h7 bu=>?_
 have e0:V9 h7 ⟨b,0,none⟩=some (.int .i64 (last+1)):=bu.p1.cell 0
 have e1:V9 h7 ⟨b,1,none⟩=some (.map (some m)):=bu.p1.cell 1
 simp[e0,e1]
 refine C0i bu 64 fun ib h8 ff=>?_
 have f0:V9 h8 ⟨b,0,none⟩=some (.int .i64 (last+1)):=ff.p2.cell 0
 have f1:V9 h8 ⟨b,1,none⟩=some (.map (some m)):=ff.p2.cell 1
 simp[f0,f1]
 refine V4 ff fun nb h9 gh=>?_
 have g0:V9 h9 ⟨b,0,none⟩=some (.int .i64 (last+1)):=gh.p3.cell 0
 have g1:V9 h9 ⟨b,1,none⟩=some (.map (some m)):=gh.p3.cell 1
 simp[g0,g1]
 refine A4z kI (A9b .i64) (ev:=eVP) (x:=some ⟨nb,0,none⟩) (gh.re [4,0,1,2,3]) fun fX eY=>?_
 have wU:W0 (L0.map o5) (last+1)=none:=by
  rw[A1i]
  intro hm
  rw[F0] at hm
  obtain⟨p,hp,he⟩:=E4.1 hm
  have:=tD p hp
  have jh:p.2.id=last+1:=he
  omega
 rw[A3F _ _ _ wU] at eY
 have k0:V9 fX ⟨b,0,none⟩=some (.int .i64 (last+1)):=by rw[(eY.re [4,0,1,2,3]).cell];rfl
 simp[k0]
 refine gH hg L0 xJ nb fX (p9.2 ⟨m,?_⟩)
 have sO:sat fX (A3z nb (A2s (last+1) c aN)::a7 (fun p=>A3z p.1 p.2) L0::cells b #[.int .i64 (last+1),.map (some m)]::mapA eKI eVP m (L0.map o5++[(last+1,some ⟨nb,0,none⟩)])::old h0::R):=
  A1F.2 ⟨ob,ib,eY.re [1,3,2,5,4,0]⟩
 have iS:sat fX (a7 (fun p=>A3z p.1 p.2) (L0++[(nb,A2s (last+1) c aN)])::cells b #[.int .i64 (last+1),.map (some m)]::mapA eKI eVP m (L0.map o5++[(last+1,some ⟨nb,0,none⟩)])::old h0::R):=by
  refine j2.2 ?_
  rw[C1]
  exact sO
 have e:(L0++[(nb,A2s (last+1) c aN)]).map o5=L0.map o5++[(last+1,some ⟨nb,0,none⟩)]:=by simp[o5,A2s]
 rw[e]
 exact iS.re [1,2,0]
variable {h:Heap} {R:List Asn}
abbrev B8n(s:V7)(ob ib:Nat):C9v:=#[.int .i64 s.id,.string s.aC,.bool s.aN,.bool s.on,at0 ob,at0 ib]
theorem B9s{b:Nat}{last:Int}{l1 l2:List (Nat×V7)}{p:Nat×V7}(hs:sat h (A1E b last (l1++p::l2)::R)):∃m ob ib,
  sat h (A0i ob p.2.out::A0d ib p.2.aZ::cells p.1 (B8n p.2 ob ib)::cells b #[.int .i64 last,.map (some m)]::mapA eKI eVP m ((l1++p::l2).map o5)::a7 (fun p=>A3z p.1 p.2) (l1++l2)::R):=by
 obtain⟨m,hs⟩:=p9.1 hs
 have aa:=j2.1 (hs.re [2,0,1])
 obtain⟨ob,ib,ae⟩:=A1F.1 aa
 exact⟨m,ob,ib,(ae.re [1,2,0,4,5,3])⟩
theorem B9r{b:Nat}{last:Int}{l1 l2:List (Nat×V7)}{p:Nat×V7}{o:Z8}{m ob ib:Nat}
  (hs:sat h (A0i ob o::A0d ib p.2.aZ::cells p.1 (B8n p.2 ob ib)::cells b #[.int .i64 last,.map (some m)]::mapA eKI eVP m ((l1++p::l2).map o5)::a7 (fun p=>A3z p.1 p.2) (l1++l2)::R)):
  sat h (A1E b last (l1++(p.1,{p.2 with out:=o})::l2)::R):=by
 refine p9.2 ⟨m,?_⟩
 have e:(l1++(p.1,{p.2 with out:=o})::l2).map o5=(l1++p::l2).map o5:=by simp[o5]
 rw[e]
 have h1:sat h (A3z p.1 {p.2 with out:=o}::a7 (fun p=>A3z p.1 p.2) (l1++l2)::cells b #[.int .i64 last,.map (some m)]::mapA eKI eVP m ((l1++p::l2).map o5)::R):=
  A1F.2 ⟨ob,ib,hs.re [2,0,1,5,3,4]⟩
 have h2:sat h (a7 (fun p=>A3z p.1 p.2) (l1++(p.1,{p.2 with out:=o})::l2)::cells b #[.int .i64 last,.map (some m)]::mapA eKI eVP m ((l1++p::l2).map o5)::R):=j2.2 h1
 exact h2.re [1,2,0]
theorem C27{b:Nat}{last:Int}{l1 l2:List (Nat×V7)}{p:Nat×V7}{k:Int}{m ob ib:Nat}{o:Z8}(hk:p.2.id=k)
  (hs:sat h (A0i ob o::A0d ib p.2.aZ::cells p.1 (B8n p.2 ob ib)::cells b #[.int .i64 last,.map (some m)]::mapA eKI eVP m ((l1++p::l2).map o5)::a7 (fun p=>A3z p.1 p.2) (l1++l2)::R))
  {Q:Value→Heap→Prop}(hq:Q (at0 p.1) h):V2 prog 99 #[at0 b,.int .i64 k] h Q:=by
 have au:=(hs.re [4,0,1,2,3]).bN
 rw[F0] at au
 refine C26 (B9r hs) (fun ax=>?_) (fun q ed uJ=>?_)
 ·exact absurd hk (ax (p.1,{p.2 with out:=o}) (G5 _ (B5 ..)))
 ·have:q.1=p.1:=by
   rw[B8,B6,G0] at au
   rcases C7.1 ed with hm|hm
   ·exact absurd (uJ.trans hk.symm) (au.2.2 _ (B3 hm) _ (B5 ..))
   ·rcases D7.1 hm with rfl|hm
    ·rfl
    ·have h3:=(F7.1 au.2.1).1
     have h4:(((·.1)∘o5) q:Int)=((·.1)∘o5) p:=uJ.trans hk.symm
     rw[←h4] at h3
     exact absurd (B3 hm) h3
  rw[this]
  exact hq
theorem C54{b:Nat}{last:Int}{l1 l2:List (Nat×V7)}{p:Nat×V7}{k:Int}{m ob ib:Nat}{o:Z8}(hk:p.2.id=k)
  (hs:sat h (A0i ob o::A0d ib p.2.aZ::cells p.1 (B8n p.2 ob ib)::cells b #[.int .i64 last,.map (some m)]::mapA eKI eVP m ((l1++p::l2).map o5)::a7 (fun p=>A3z p.1 p.2) (l1++l2)::R))
  {Q:Value→Heap→Prop}(hq:Q (at0 ob) h):V2 prog 56 #[at0 b,.int .i64 k] h Q:=by
 refine A6p _ k h Q ?_
 delta A5u cp ie kp nn pu vi
 refine U5 (C27 hk hs ⟨some ⟨p.1,0,none⟩,rfl,?_⟩)
 have c4:V9 h ⟨p.1,4,none⟩=some (at0 ob):=(hs.re [2,0,1]).cell 4
 (try dsimp only);rw[U6,if_pos (by rfl)]
 exact⟨_,rfl,some ⟨ob,0,none⟩,by rw[U2];exact c4,hq⟩
theorem C6W{b:Nat}{last:Int}{l1 l2:List (Nat×V7)}{p:Nat×V7}{k:Int}{m ob ib:Nat}{o:Z8}(hk:p.2.id=k)
  (hs:sat h (A0i ob o::A0d ib p.2.aZ::cells p.1 (B8n p.2 ob ib)::cells b #[.int .i64 last,.map (some m)]::mapA eKI eVP m ((l1++p::l2).map o5)::a7 (fun p=>A3z p.1 p.2) (l1++l2)::R))
  {Q:Value→Heap→Prop}(hq:Q (at0 ib) h):V2 prog 106 #[at0 b,.int .i64 k] h Q:=by
 refine A68 _ k h Q ?_
 delta A6q cp ie kp nn pu vi
 refine U5 (C27 hk hs ⟨some ⟨p.1,0,none⟩,rfl,?_⟩)
 have c5:V9 h ⟨p.1,5,none⟩=some (at0 ib):=(hs.re [2,0,1]).cell 5
 (try dsimp only);rw[U6,if_pos (by rfl)]
 exact⟨_,rfl,some ⟨ib,0,none⟩,by rw[U2];exact c5,hq⟩
end
end Go.Proofs.YtidlldnlphdhcaaGreatDoor
namespace Go.H
open Go.MapKept (Stamped)
section
variable {K:Type} [DecidableEq K]
theorem B7C{V:Type}:∀{l:List (K×V)} {k:K} {v:V},W0 l k=some v→mset l k v=l
 |[],k,v,h=>by simp at h
 |(a,b)::l,k,v,h=>by
  rw[Y5] at h
  by_cases e:a=k
  ·rw[if_pos e] at h
   cases h
   simp[mset,e]
  ·rw[if_neg e] at h
   simp only[mset,if_neg e,B7C h]
end
section
variable {K V:Type} {h:Heap} {R:List Asn} {ek:K→Value}
variable [DecidableEq K]
end
abbrev e2(k:Int×Int):Value:=.agg #[.int .i64 k.1,.int .i64 k.2]
end Go.H
namespace Go.Proofs.YtidlldnlphdhcaaGreatDoor
open Go.H
open Go.Proofs.Tryz
open Go.H Go.Proofs
abbrev Path:=List B3O
structure Nd where
 b:Nat
 qm:Nat
 nm:Nat
 q:List (Int×Int)
 nx:List (B3O×C9u)
abbrev Nds:=List (Path×Nd)
abbrev o0(n:Nd):C9u:=some ⟨n.b,0,none⟩
structure A0b(rb:Nat)(N:Nds):Prop where
 keys:(N.map (·.1)).Nodup
 root:∃nd,W0 N []=some nd∧nd.b=rb
 down:∀p nd x v,W0 N p=some nd→W0 nd.nx x=some v→∃nd',W0 N (p++[x])=some nd'∧v=o0 nd'
 up:∀p x nd',W0 N (p++[x])=some nd'→∃nd,W0 N p=some nd∧W0 nd.nx x=some (o0 nd')
 short:∀p nd,W0 N p=some nd→p.length≤32
section
variable {K V:Type} [DecidableEq K]
theorem A2N:∀{l:List (K×V)} {k:K} {v:V},(l.map (·.1)).Nodup→(k,v)∈l→W0 l k=some v
 |[],k,v,_,h=>by simp at h
 |(a,b)::l,k,v,hn,h=>by
  rw[Y5]
  rw[B6,F7] at hn
  rcases D7.1 h with e|h
  ·cases e
   rw[if_pos rfl]
  ·have:a≠k:=fun e=>hn.1 (by rw[e];exact E4.2 ⟨_,h,rfl⟩)
   rw[if_neg this]
   exact A2N hn.2 h
theorem B95:∀{l1 l2:List (K×V)} {k:K} {v v':V},k∉l1.map (·.1)→mset (l1++(k,v)::l2) k v'=l1++(k,v')::l2
 |[],l2,k,v,v',_=>by simp[mset]
 |(a,b)::l1,l2,k,v,v',h=>by
  simp only[B6,D7,not_or] at h
  simp only[G4,mset,if_neg (fun e:a=k=>h.1 e.symm),B95 h.2]
theorem A6I:∀{l:List (K×V)} {k:K} {v v':V},W0 l k=some v→(mset l k v').map (·.1)=l.map (·.1)
 |[],k,v,v',h=>by simp at h
 |(a,b)::l,k,v,v',h=>by
  rw[Y5] at h
  simp only[mset]
  by_cases e:a=k
  ·rw[if_pos e];simp[e]
  ·rw[if_neg e] at h
   rw[if_neg e,B6,A6I h,B6]
theorem A2O{l:List (K×V)}(hn:(l.map (·.1)).Nodup)(k k':K):W0 (mdel l k) k'=if k=k' then none else W0 l k':=by
 induction l with
 |nil=>simp[mdel]
 |cons p l ih=>
  obtain⟨a,b⟩:=p
  rw[B6,F7] at hn
  simp only[mdel]
  by_cases e:a=k
  ·rw[if_pos e]
   subst e
   by_cases e':a=k'
   ·subst e'
    rw[if_pos rfl]
    exact(A1i _ _).2 hn.1
   ·rw[if_neg e',Y5,if_neg e']
  ·rw[if_neg e,Y5,Y5,ih hn.2]
   by_cases e':k=k'
   ·subst e'
    rw[if_neg e,if_pos rfl,if_pos rfl]
   ·rw[if_neg e',if_neg e']
theorem C3T:∀{l:List (K×V)} {k:K},(l.map (·.1)).Nodup→((mdel l k).map (·.1)).Nodup:=by
 intro l k hn
 have:((mdel l k).map (·.1)).Sublist (l.map (·.1)):=by
  clear hn
  induction l with
  |nil=>simp[mdel]
  |cons p l ih=>
   obtain⟨a,b⟩:=p
   simp only[mdel]
   by_cases e:a=k
   ·rw[if_pos e];exact List.sublist_cons_self ..
   ·rw[if_neg e];exact ih.cons_cons _
 exact this.nodup hn
theorem B0p{l:List (K×V)}{k:K}{v:V}(h:W0 l k=some v):∃l1 l2,l=l1++(k,v)::l2∧k∉l1.map (·.1):=by
 induction l with
 |nil=>simp at h
 |cons p l ih=>
  obtain⟨a,b⟩:=p
  rw[Y5] at h
  by_cases e:a=k
  ·rw[if_pos e] at h
   cases h
   subst e
   exact⟨[],l,rfl,by simp⟩
  ·rw[if_neg e] at h
   obtain⟨l1,l2,rfl,h2⟩:=ih h
   exact⟨(a,b)::l1,l2,rfl,by simp only[B6,D7,not_or];exact⟨fun x=>e x.symm,h2⟩⟩
theorem A5D(l1 l2:List (K×V))(k:K):W0 (l1++l2) k=(W0 l1 k).or (W0 l2 k):=by
 induction l1 with
 |nil=>simp
 |cons p l ih=>
  obtain⟨a,b⟩:=p
  rw[G4,Y5,Y5,ih]
  by_cases e:a=k
  ·rw[if_pos e,if_pos e];rfl
  ·rw[if_neg e,if_neg e]
end
def ent(N:Nds)(p:Path)(id:Int):Option Int:=(W0 N p).bind fun nd=>W0 nd.q id
theorem A7L(p:Path)(x:B3O):p++[x]≠p:=fun h=>by
 have:=congrArg List.length h
 simp at this
theorem B17{p p':Path}{x x':B3O}(h:p++[x]=p'++[x']):p=p'∧x=x':=by
 have:=List.append_inj' h rfl
 exact⟨this.1,by simpa using this.2⟩
namespace A0b
open Go.H
variable {rb:Nat} {N:Nds}
theorem pre(h:A0b rb N):∀(r p:Path) nd,W0 N (p++r)=some nd→∃nd',W0 N p=some nd'
 |[],p,nd,hn=>by rw[C1] at hn;exact⟨nd,hn⟩
 |x::r,p,nd,hn=>by
  have e:p++x::r=(p++[x])++r:=by simp
  rw[e] at hn
  obtain⟨nd',h1⟩:=pre h r _ nd hn
  obtain⟨nd'',h2,_⟩:=h.up _ _ _ h1
  exact⟨nd'',h2⟩
theorem setq(h:A0b rb N){p:Path}{nd:Nd}(hp:W0 N p=some nd)(q':List (Int×Int)):A0b rb (mset N p {nd with q:=q'}) where
 keys:=by rw[A6I hp];exact h.keys
 root:=by
  obtain⟨r,h1,h2⟩:=h.root
  rw[j0]
  by_cases e:p=[]
  ·rw[if_pos e]
   subst e
   rw[hp] at h1
   cases h1
   exact⟨_,rfl,h2⟩
  ·rw[if_neg e];exact⟨r,h1,h2⟩
 down:=by
  intro p1 n1 x v h1 h2
  have key:∃n0,W0 N p1=some n0∧W0 n0.nx x=some v:=by
   rw[j0] at h1
   by_cases e:p=p1
   ·rw[if_pos e] at h1
    cases h1
    subst e
    exact⟨nd,hp,h2⟩
   ·rw[if_neg e] at h1;exact⟨n1,h1,h2⟩
  obtain⟨n0,h3,h4⟩:=key
  obtain⟨c,h5,h6⟩:=h.down _ _ _ _ h3 h4
  rw[j0]
  by_cases e:p=p1++[x]
  ·rw[if_pos e]
   rw[←e,hp] at h5
   cases h5
   exact⟨_,rfl,h6⟩
  ·rw[if_neg e];exact⟨c,h5,h6⟩
 up:=by
  intro p1 x c h1
  have key:∃c0,W0 N (p1++[x])=some c0∧o0 c=o0 c0:=by
   rw[j0] at h1
   by_cases e:p=p1++[x]
   ·rw[if_pos e] at h1
    cases h1
    rw[←e]
    exact⟨nd,hp,rfl⟩
   ·rw[if_neg e] at h1;exact⟨c,h1,rfl⟩
  obtain⟨c0,h2,h3⟩:=key
  obtain⟨n0,h4,h5⟩:=h.up _ _ _ h2
  rw[j0]
  by_cases e:p=p1
  ·rw[if_pos e]
   subst e
   rw[hp] at h4
   cases h4
   exact⟨_,rfl,by rw[h3];exact h5⟩
  ·rw[if_neg e];exact⟨n0,h4,by rw[h3];exact h5⟩
 short:=by
  intro p1 n1 h1
  rw[j0] at h1
  by_cases e:p=p1
  ·rw[←e];exact h.short _ _ hp
  ·rw[if_neg e] at h1;exact h.short _ _ h1
theorem grow(h:A0b rb N){p:Path}{nd c:Nd}{x:B3O}(hp:W0 N p=some nd)(hx:W0 nd.nx x=none)(hc:c.nx=[])(oC:p.length<32):
  W0 N (p++[x])=none∧A0b rb (mset N p {nd with nx:=mset nd.nx x (o0 c)}++[(p++[x],c)]):=by
 have ax:W0 N (p++[x])=none:=by
  cases e:W0 N (p++[x]) with
  |none=>rfl
  |some c'=>
   obtain⟨n0,h1,h2⟩:=h.up _ _ _ e
   rw[hp] at h1
   cases h1
   rw[hx] at h2
   cases h2
 have bt:∀p',W0 (mset N p {nd with nx:=mset nd.nx x (o0 c)}++[(p++[x],c)]) p'=if p=p' then some {nd with nx:=mset nd.nx x (o0 c)} else if p++[x]=p' then some c else W0 N p':=by
  intro p'
  rw[A5D,j0]
  by_cases e:p=p'
  ·rw[if_pos e,if_pos e];rfl
  ·rw[if_neg e,if_neg e,Y5]
   by_cases e':p++[x]=p'
   ·rw[if_pos e',if_pos e',←e',ax];rfl
   ·rw[if_neg e',if_neg e',B5s]
    cases W0 N p'<;>rfl
 refine⟨ax,?_,?_,?_,?_,?_⟩
 ·rw[B8,A6I hp,G0]
  refine⟨h.keys,by simp,fun a ha b hb=>?_⟩
  simp only[B6,I3,C0] at hb
  subst hb
  intro e
  subst e
  exact(A1i _ _).1 ax ha
 ·obtain⟨r,h1,h2⟩:=h.root
  rw[bt]
  by_cases e:p=[]
  ·rw[if_pos e]
   subst e
   rw[hp] at h1
   cases h1
   exact⟨_,rfl,h2⟩
  ·rw[if_neg e,if_neg (by simp)];exact⟨r,h1,h2⟩
 ·intro p1 n1 y v h1 h2
  rw[bt] at h1
  by_cases e:p=p1
  ·rw[if_pos e] at h1
   cases h1
   subst e
   simp only[j0] at h2
   by_cases e':x=y
   ·rw[if_pos e'] at h2
    cases h2
    subst e'
    rw[bt,if_neg (fun e=>A7L p x e.symm),if_pos rfl]
    exact⟨c,rfl,rfl⟩
   ·rw[if_neg e'] at h2
    obtain⟨c',h3,h4⟩:=h.down _ _ _ _ hp h2
    rw[bt,if_neg (fun e=>A7L p y e.symm),if_neg (fun e=>e' (B17 e).2)]
    exact⟨c',h3,h4⟩
  ·rw[if_neg e] at h1
   by_cases e2:p++[x]=p1
   ·rw[if_pos e2] at h1
    cases h1
    rw[hc] at h2
    simp at h2
   ·rw[if_neg e2] at h1
    obtain⟨c',h3,h4⟩:=h.down _ _ _ _ h1 h2
    rw[bt]
    by_cases e3:p=p1++[y]
    ·rw[if_pos e3]
     rw[←e3,hp] at h3
     cases h3
     exact⟨_,rfl,h4⟩
    ·rw[if_neg e3]
     by_cases e4:p++[x]=p1++[y]
     ·exact absurd (B17 e4).1 e
     ·rw[if_neg e4];exact⟨c',h3,h4⟩
 ·intro p1 y c1 h1
  rw[bt] at h1
  by_cases e:p=p1++[y]
  ·rw[if_pos e] at h1
   cases h1
   obtain⟨n0,h3,h4⟩:=h.up p1 y nd (by rw[←e];exact hp)
   rw[bt,if_neg (fun e'=>by rw[e'] at e;exact A7L _ _ e.symm)]
   by_cases e5:p++[x]=p1
   ·rw[←e5,ax] at h3
    cases h3
   ·rw[if_neg e5];exact⟨n0,h3,h4⟩
  ·rw[if_neg e] at h1
   by_cases e2:p++[x]=p1++[y]
   ·rw[if_pos e2] at h1
    cases h1
    obtain⟨rfl,rfl⟩:=B17 e2
    rw[bt,if_pos rfl]
    exact⟨_,rfl,by simp[j0]⟩
   ·rw[if_neg e2] at h1
    obtain⟨n0,h3,h4⟩:=h.up _ _ _ h1
    rw[bt]
    by_cases e5:p=p1
    ·rw[if_pos e5]
     subst e5
     rw[hp] at h3
     cases h3
     refine⟨_,rfl,?_⟩
     simp only[j0]
     rw[if_neg (fun e6=>e2 (by rw[e6]))]
     exact h4
    ·rw[if_neg e5]
     by_cases e6:p++[x]=p1
     ·rw[←e6,ax] at h3
      cases h3
     ·rw[if_neg e6];exact⟨n0,h3,h4⟩
 ·intro p1 n1 h1
  rw[bt] at h1
  by_cases e:p=p1
  ·rw[←e];exact h.short _ _ hp
  ·rw[if_neg e] at h1
   by_cases e2:p++[x]=p1
   ·rw[←e2,B4];simp;omega
   ·rw[if_neg e2] at h1;exact h.short _ _ h1
theorem cut(h:A0b rb N){p:Path}{nd c:Nd}{x:B3O}(hp:W0 N p=some nd)(hk:(nd.nx.map (·.1)).Nodup)(hx:W0 N (p++[x])=some c)(hc:c.nx=[]):
  A0b rb (mdel (mset N p {nd with nx:=mdel nd.nx x}) (p++[x])):=by
 have cJ:((mset N p {nd with nx:=mdel nd.nx x}).map (·.1)).Nodup:=by rw[A6I hp];exact h.keys
 have bt:∀p',W0 (mdel (mset N p {nd with nx:=mdel nd.nx x}) (p++[x])) p'=if p++[x]=p' then none else if p=p' then some {nd with nx:=mdel nd.nx x} else W0 N p':=by
  intro p'
  rw[A2O cJ,j0]
 refine⟨C3T cJ,?_,?_,?_,?_⟩
 ·obtain⟨r,h1,h2⟩:=h.root
  rw[bt,if_neg (by simp)]
  by_cases e:p=[]
  ·rw[if_pos e]
   subst e
   rw[hp] at h1
   cases h1
   exact⟨_,rfl,h2⟩
  ·rw[if_neg e];exact⟨r,h1,h2⟩
 ·intro p1 n1 y v h1 h2
  rw[bt] at h1
  by_cases e0:p++[x]=p1
  ·rw[if_pos e0] at h1;cases h1
  rw[if_neg e0] at h1
  by_cases e:p=p1
  ·rw[if_pos e] at h1
   cases h1
   subst e
   simp only[A2O hk] at h2
   by_cases e':x=y
   ·rw[if_pos e'] at h2;cases h2
   rw[if_neg e'] at h2
   obtain⟨c',h3,h4⟩:=h.down _ _ _ _ hp h2
   rw[bt,if_neg (fun e=>e' (B17 e).2),if_neg (fun e=>A7L p y e.symm)]
   exact⟨c',h3,h4⟩
  ·rw[if_neg e] at h1
   obtain⟨c',h3,h4⟩:=h.down _ _ _ _ h1 h2
   rw[bt,if_neg (fun e'=>e (B17 e').1)]
   by_cases e3:p=p1++[y]
   ·rw[if_pos e3]
    rw[←e3,hp] at h3
    cases h3
    exact⟨_,rfl,h4⟩
   ·rw[if_neg e3];exact⟨c',h3,h4⟩
 ·intro p1 y c1 h1
  rw[bt] at h1
  by_cases e0:p++[x]=p1++[y]
  ·rw[if_pos e0] at h1;cases h1
  rw[if_neg e0] at h1
  have key:∃c0,W0 N (p1++[y])=some c0∧o0 c1=o0 c0:=by
   by_cases e:p=p1++[y]
   ·rw[if_pos e] at h1
    cases h1
    rw[←e]
    exact⟨nd,hp,rfl⟩
   ·rw[if_neg e] at h1;exact⟨c1,h1,rfl⟩
  obtain⟨c0,h2,h3⟩:=key
  obtain⟨n0,h4,h5⟩:=h.up _ _ _ h2
  rw[bt]
  have bz:p++[x]≠p1:=by
   intro e
   rw[←e,hx] at h4
   cases h4
   rw[hc] at h5
   simp at h5
  rw[if_neg bz]
  by_cases e:p=p1
  ·rw[if_pos e]
   subst e
   rw[hp] at h4
   cases h4
   refine⟨_,rfl,?_⟩
   simp only[A2O hk]
   rw[if_neg (fun e6=>e0 (by rw[e6])),h3]
   exact h5
  ·rw[if_neg e];exact⟨n0,h4,by rw[h3];exact h5⟩
 ·intro p1 n1 h1
  rw[bt] at h1
  by_cases e:p++[x]=p1
  ·rw[if_pos e] at h1;cases h1
  ·rw[if_neg e] at h1
   by_cases e2:p=p1
   ·rw[←e2];exact h.short _ _ hp
   ·rw[if_neg e2] at h1;exact h.short _ _ h1
end A0b
end Go.Proofs.YtidlldnlphdhcaaGreatDoor
namespace Go.Proofs.YtidlldnlphdhcaaGreatDoor
open Go.H
open Go.Proofs.Tryz
section
open Go.H Go.Proofs
variable {h h0:Heap} {R:List Asn}
abbrev kI9:=B8P .i64
abbrev kS9:=A88
abbrev A05:Int→Value:=fun n=>.int .i64 n
abbrev A1u:Int→Value:=Kind.val (.one (.int .i64))
abbrev A9B:B3O→Value:=fun s=>.string s
abbrev B0x:C9u→Value:=Kind.val (.one .ptr)
abbrev at9(b:Nat):Value:=.pointer (some ⟨b,0,none⟩)
def ndA(x:Nd):Asn:=star (cells x.b #[.map (some x.qm),.map (some x.nm)]) (star (mapA A05 A1u x.qm x.q) (mapA A9B B0x x.nm x.nx))
def o7(N:Nds):Asn:=a7 (fun p:Path×Nd=>ndA p.2) N
theorem B1A{x:Nd}:sat h (ndA x::R)↔sat h (cells x.b #[.map (some x.qm),.map (some x.nm)]::mapA A05 A1u x.qm x.q::mapA A9B B0x x.nm x.nx::R):=by
 unfold ndA
 constructor
 ·intro hs
  exact(sat.aI.1 (sat.aI.1 hs).p1).p2
 ·intro hs
  exact sat.aI.2 (sat.aI.2 (hs.re [1,2,0])).p1
theorem A1T{N:Nds}{p:Path}{nd:Nd}(hp:W0 N p=some nd)(hs:sat h (o7 N::R)):∃l1 l2,N=l1++(p,nd)::l2∧p∉l1.map (·.1)∧
  sat h (cells nd.b #[.map (some nd.qm),.map (some nd.nm)]::mapA A05 A1u nd.qm nd.q::mapA A9B B0x nd.nm nd.nx::a7 (fun p:Path×Nd=>ndA p.2) (l1++l2)::R):=by
 obtain⟨l1,l2,rfl,hn⟩:=B0p hp
 exact⟨l1,l2,rfl,hn,B1A.1 (j2.1 hs)⟩
theorem A8y{l1 l2:Nds}{p:Path}{nd nd':Nd}(hn:p∉l1.map (·.1))
  (hs:sat h (cells nd'.b #[.map (some nd'.qm),.map (some nd'.nm)]::mapA A05 A1u nd'.qm nd'.q::mapA A9B B0x nd'.nm nd'.nx::a7 (fun p:Path×Nd=>ndA p.2) (l1++l2)::R)):
  sat h (o7 (mset (l1++(p,nd)::l2) p nd')::R):=by
 rw[B95 hn]
 exact j2.2 (B1A.2 hs)
theorem u9{N:Nds}{p:Path}{nd:Nd}(hp:W0 N p=some nd)(hs:sat h (o7 N::R)):V9 h ⟨nd.b,0,none⟩=some (.map (some nd.qm))∧V9 h ⟨nd.b,1,none⟩=some (.map (some nd.nm)):=by
 obtain⟨l1,l2,-,-,hs⟩:=A1T hp hs
 exact⟨hs.cell 0,hs.cell 1⟩
theorem A6F{N:Nds}{p:Path}{nd:Nd}{x:B3O}(hp:W0 N p=some nd)(hs:sat h (o7 N::R)){Q:C9u×Bool→Heap→Prop}(hq:Q ((W0 nd.nx x).getD none,(W0 nd.nx x).isSome) h):
  HM.lookup (Instr.sameNow .string) (.pointer none) (.one .ptr) (some nd.nm) (.string x) h Q:=by
 obtain⟨l1,l2,-,-,hs⟩:=A1T hp hs
 exact u4 kS9 (ek:=A9B) (kind:=.one .ptr) (z:=none) rfl hs.p2 hq
theorem C63{N:Nds}{p:Path}{nd:Nd}{x:Int}(hp:W0 N p=some nd)(hs:sat h (o7 N::R)){Q:Int×Bool→Heap→Prop}(hq:Q ((W0 nd.q x).getD 0,(W0 nd.q x).isSome) h):
  HM.lookup (Instr.sameNow (.int .i64)) (.int .i64 0) (.one (.int .i64)) (some nd.qm) (.int .i64 x) h Q:=by
 obtain⟨l1,l2,-,-,hs⟩:=A1T hp hs
 exact u4 kI9 (ek:=A05) (kind:=.one (.int .i64)) (z:=0) rfl hs.p1 hq
theorem A6E{N:Nds}{p:Path}{nd:Nd}(hp:W0 N p=some nd)(hs:sat h (o7 N::R)):(nd.q.map (·.1)).Nodup∧(nd.nx.map (·.1)).Nodup:=by
 obtain⟨l1,l2,-,-,hs⟩:=A1T hp hs
 exact⟨hs.p1.bN,hs.p2.bN⟩
theorem B92{N:Nds}{p:Path}{nd:Nd}{k v:Int}(hp:W0 N p=some nd)(hs:sat h (o7 N::R)){Q:Unit→Heap→Prop}(hq:∀h',sat h' (o7 (mset N p {nd with q:=mset nd.q k v})::R)→Q () h'):
  A4h (Instr.sameNow (.int .i64)) (some nd.qm) (.int .i64 k) (.int .i64 v) h Q:=by
 obtain⟨l1,l2,rfl,hn,hs⟩:=A1T hp hs
 refine A4z kI9 (ek:=A05) (A9b .i64) (ev:=A1u) (x:=v) hs.p1 fun h1 aa=>hq h1 ?_
 exact A8y (nd':={nd with q:=mset nd.q k v}) hn aa.p1
theorem C5a{N:Nds}{p:Path}{nd:Nd}{k:Int}(hp:W0 N p=some nd)(hs:sat h (o7 N::R)){Q:Unit→Heap→Prop}(hq:∀h',sat h' (o7 (mset N p {nd with q:=mdel nd.q k})::R)→Q () h'):
  A5S (Instr.sameNow (.int .i64)) (some nd.qm) (.int .i64 k) h Q:=by
 obtain⟨l1,l2,rfl,hn,hs⟩:=A1T hp hs
 refine A5N kI9 (ek:=A05) (ev:=A1u) hs.p1 fun h1 aa=>hq h1 ?_
 exact A8y (nd':={nd with q:=mdel nd.q k}) hn aa.p1
theorem C48{N:Nds}{p:Path}{nd:Nd}{k:B3O}{v:C9u}(hp:W0 N p=some nd)(hs:sat h (o7 N::R)){Q:Unit→Heap→Prop}(hq:∀h',sat h' (o7 (mset N p {nd with nx:=mset nd.nx k v})::R)→Q () h'):
  A4h (Instr.sameNow .string) (some nd.nm) (.string k) (.pointer v) h Q:=by
 obtain⟨l1,l2,rfl,hn,hs⟩:=A1T hp hs
 refine A4z kS9 (ek:=A9B) C6y (ev:=B0x) (x:=v) hs.p2 fun h1 aa=>hq h1 ?_
 exact A8y (nd':={nd with nx:=mset nd.nx k v}) hn (aa.re [1,2,0])
theorem C5b{N:Nds}{p:Path}{nd:Nd}{k:B3O}(hp:W0 N p=some nd)(hs:sat h (o7 N::R)){Q:Unit→Heap→Prop}(hq:∀h',sat h' (o7 (mset N p {nd with nx:=mdel nd.nx k})::R)→Q () h'):
  A5S (Instr.sameNow .string) (some nd.nm) (.string k) h Q:=by
 obtain⟨l1,l2,rfl,hn,hs⟩:=A1T hp hs
 refine A5N kS9 (ek:=A9B) (ev:=B0x) hs.p2 fun h1 aa=>hq h1 ?_
 exact A8y (nd':={nd with nx:=mdel nd.nx k}) hn (aa.re [1,2,0])
theorem B93{N:Nds}{p:Path}{nd:Nd}(hp:W0 N p=some nd)(hs:sat h (o7 N::R)){Q:Int→Heap→Prop}(hq:Q (nd.q.length:Int) h):A6U (some nd.qm) h Q:=by
 obtain⟨l1,l2,rfl,hn,hs⟩:=A1T hp hs
 exact A85 hs.p1 hq
theorem B94{N:Nds}{p:Path}{nd:Nd}(hp:W0 N p=some nd)(hs:sat h (o7 N::R)){Q:Int→Heap→Prop}(hq:Q (nd.nx.length:Int) h):A6U (some nd.nm) h Q:=by
 obtain⟨l1,l2,rfl,hn,hs⟩:=A1T hp hs
 exact A85 hs.p2 hq
theorem C49{N:Nds}{p:Path}{nd:Nd}(hp:W0 N p=some nd)(hs:sat h (o7 N::R)):sat h (o7 (mdel N p)::R):=by
 obtain⟨l1,l2,rfl,hn⟩:=B0p hp
 rw[B1C hn]
 exact(j2.1 hs).drop
theorem C2R{N:Nds}{p:Path}{nd:Nd}(hs:sat h (ndA nd::o7 N::R)):sat h (o7 (N++[(p,nd)])::R):=by
 refine j2.2 ?_
 rw[C1]
 exact hs
theorem B3k(hs:sat h R){Q:Value→Heap→Prop}(hq:∀b qm nm h',sat h' (ndA ⟨b,qm,nm,[],[]⟩::R)→Q (at9 b) h'):V2 prog 59 #[] h Q:=by
 refine B0M h Q ?_
 delta B3h az bn nw pu
 refine A7e (ek:=A05) (ev:=A1u) hs fun qm h1 aa=>?_
 refine A7e (ek:=A9B) (ev:=B0x) aa fun nm h2 ae=>?_
 refine V4 ae fun b h3 aj=>?_
 exact hq b qm nm h3 (B1A.2 (aj.re [0,2,1]))
abbrev trC(rb cm:Nat):C9v:=#[at9 rb,.map (some cm)]
theorem B2c(hs:sat h (old h0::R))(ht:TP h0){s:B3O}(hsz:s.size≤16777216){Q:Value→Heap→Prop}
  (hq:∀(sl:Slc) h',sat h' (U4 eS 1 sl (levels s)::old h0::R)→Q (.slice sl.a sl.len sl.cap) h'):
  V2 prog 36 #[.string s] h Q:=by
 refine A4Q s h Q ?_
 delta A60 cc pu
 refine U5 (fun w hw=>?_)
 subst hw
 obtain⟨m,hm⟩:=ht.maxl
 refine(Any.strings_Split C4F (by kernel_rfl) s (ByteArray.mk #[47]) m w (by omega) (hs.bX hm) (by decide)).mono ?_
 rintro e w' ⟨rfl,rfl⟩
 have hl:(levels s).length=Go.Lib.countB s A9H+1:=Go.Lib.splitB_all A9H (by decide) 0 _ s rfl
 have:=hq ⟨some ⟨w.heap.size,0,none⟩,(levels s).length,(levels s).length⟩ _ (B9T (hs.bJ (T:=A96.t 9)))
 rw[hl] at this
 exact⟨_,rfl,⟨rfl,rfl,rfl⟩,⟨some ⟨w.heap.size,0,none⟩,Go.Lib.countB s A9H+1,Go.Lib.countB s A9H+1⟩,rfl,this⟩
theorem B7b{xs:Path}{i:Nat}{x:B3O}(hx:xs[i]? =some x):xs.take (i+1)=xs.take i++[x]:=by
 rw[H7,hx]
 rfl
theorem find_spec{t rb cm:Nat}{N:Nds}(ht:TP h0)(hT:A0b rb N){f:B3O}(hsz:f.size≤16777216)(hs:sat h (cells t (trC rb cm)::o7 N::old h0::R)){Q:Value→Heap→Prop}
  (ax:W0 N (levels f)=none→∀h',sat h' (cells t (trC rb cm)::o7 N::old h0::R)→Q (.pointer none) h')
  (cN:∀nd,W0 N (levels f)=some nd→∀h',sat h' (cells t (trC rb cm)::o7 N::old h0::R)→Q (.pointer (o0 nd)) h'):
  V2 prog 164 #[at9 t,.string f] h Q:=by
 refine A8h (some ⟨t,0,none⟩) f h Q ?_
 delta A8i bn cc ie ix km kp lt nn pu wi
 refine⟨_,rfl,some ⟨rb,0,none⟩,by rw[U2];exact hs.cell 0,?_⟩
 refine U5 (B2c hs.p2 ht hsz fun sl h1 bx=>⟨sl,rfl,?_⟩)
 have aa:sat h1 (U4 eS 1 sl (levels f)::cells t (trC rb cm)::o7 N::old h0::R):=bx.re [0,2,3,1]
 clear bx hs
 have hlen:=aa.aW
 have tn:(levels f).length<1000000000:=by
  have:=A7j f
  have h2:=List.count_le_length (a:=(47:UInt8)) (l:=f.data.toList)
  have h3:f.data.toList.length=f.size:=by simp
  omega
 obtain⟨r,fr,cI⟩:=hT.root
 (try dsimp only);rw[U0]
 refine l6 (γ:=Nat) (hb:=fun s=>by
   repeat' with_reducible first
    |refine @A0n _ _ _ _ ?_ (fun _=>?_)
    |refine @A0V _ _ _ _ ?_ ?_
    |refine @A1U _ _ _ ?_
   all_goals infer_instance)
  (fun g x h'=>g≤(levels f).length∧x.2.1=(g:Int)∧(∃nd,W0 N ((levels f).take g)=some nd∧x.1=o0 nd)∧sat h' (U4 eS 1 sl (levels f)::cells t (trC rb cm)::o7 N::old h0::R)) (fun g=>(levels f).length-g) 0
  ⟨C9 _,rfl,⟨r,by simpa using fr,by rw[←cI]⟩,aa⟩ ?_
 clear aa fr cI r
 rintro i ⟨pt,ci,⟨⟩⟩ h2 ⟨hi,bR,⟨nd,au,lB⟩,ae⟩
 simp only at hi bR lB ae
 subst bR
 subst lB
 have next:IntKind.wrap .i64 ((i:Int)+1)=((i+1:Nat):Int):=by rw[V5 (by omega) (by omega)];rfl
 simp only[U6,decide_eq_true_eq]
 by_cases ah:i<(levels f).length
 ·rw[if_pos (by omega),U0]
  have hx:=B0 ah
  generalize(levels f)[i]=x at hx
  refine X6 (ae.aO A1C) hx fun a ha=>?_
  refine⟨x,ha 0 _ rfl,?_⟩
  refine⟨_,rfl,some nd.nm,by rw[U2];exact(u9 au ae.p2).2,?_⟩
  (try dsimp only);rw[U0]
  refine A6F au ae.p2 ?_
  (try dsimp only);rw[U6]
  have aV:=B7b hx
  cases hg:W0 nd.nx x with
  |none=>
   rw[if_pos (by rfl)]
   simp only[D3,E6,V0]
   refine ax ?_ h2 ae.drop
   cases hh:W0 N (levels f) with
   |none=>rfl
   |some nd'=>
    have e:levels f=(levels f).take (i+1)++(levels f).drop (i+1):=(J2 _ _).symm
    rw[e] at hh
    obtain⟨c,hc⟩:=hT.pre _ _ _ hh
    rw[aV] at hc
    obtain⟨n0,h3,h4⟩:=hT.up _ _ _ hc
    rw[au] at h3
    cases h3
    rw[hg] at h4
    cases h4
  |some v=>
   obtain⟨c,hc,rfl⟩:=hT.down _ _ _ _ au hg
   rw[if_neg (by simp)]
   simp only[D3,E6,V0]
   exact .mk (i+1) (by omega) ⟨by omega,next,⟨c,by rw[aV];exact hc,rfl⟩,ae⟩
 ·rw[if_neg (by omega)]
  have:i=(levels f).length:=by omega
  subst this
  rw[F5] at au
  simp only[D3,E6,V0]
  exact cN nd au h2 ae.drop
end
section
open Go.H Go.Proofs
variable {h h0:Heap} {R:List Asn}
def trM(t:Nat)(N:Nds)(C:List (Int×Int)):Asn:=exA fun x:Nat×Nat=>
 star (pr (A0b x.1 N)) (star (cells t (trC x.1 x.2)) (star (o7 N) (mapA A05 A1u x.2 C)))
theorem A2c{t:Nat}{N:Nds}{C:List (Int×Int)}:sat h (trM t N C::R)↔∃rb cm,A0b rb N∧sat h (cells t (trC rb cm)::o7 N::mapA A05 A1u cm C::R):=by
 unfold trM
 rw[sat.bA]
 constructor
 ·rintro⟨⟨rb,cm⟩,hs⟩
  rw[sat.aI,sat.bC] at hs
  exact⟨rb,cm,hs.1,(sat.aI.1 (sat.aI.1 hs.2).p1).re [2,0,1]⟩
 ·rintro⟨rb,cm,hT,hs⟩
  refine⟨(rb,cm),?_⟩
  rw[sat.aI,sat.bC]
  exact⟨hT,sat.aI.2 (sat.aI.2 (hs.re [1,2,0])).p1⟩
theorem C2Z{N:Nds}{p:Path}{nd:Nd}(hp:W0 N p=some nd)(k v:Int)(p':Path)(k':Int):
  ent (mset N p {nd with q:=mset nd.q k v}) p' k'=if p=p'∧k=k' then some v else ent N p' k':=by
 unfold ent
 rw[j0]
 by_cases e:p=p'
 ·subst e
  rw[if_pos rfl,hp]
  simp only[N5,j0,true_and]
 ·rw[if_neg e,if_neg (fun h=>e h.1)]
theorem C6G{N:Nds}{p:Path}{nd:Nd}(hp:W0 N p=some nd)(hn:(nd.q.map (·.1)).Nodup)(k:Int)(p':Path)(k':Int):
  ent (mset N p {nd with q:=mdel nd.q k}) p' k'=if p=p'∧k=k' then none else ent N p' k':=by
 unfold ent
 rw[j0]
 by_cases e:p=p'
 ·subst e
  rw[if_pos rfl,hp]
  simp only[N5,A2O hn,true_and]
 ·rw[if_neg e,if_neg (fun h=>e h.1)]
theorem C5w{N:Nds}{p:Path}{nd:Nd}(hp:W0 N p=some nd)(nx:List (B3O×C9u))(p':Path)(k':Int):ent (mset N p {nd with nx:=nx}) p' k'=ent N p' k':=by
 unfold ent
 rw[j0]
 by_cases e:p=p'
 ·subst e
  rw[if_pos rfl,hp]
  rfl
 ·rw[if_neg e]
theorem B9p(hs:sat h R){Q:Value→Heap→Prop}(hq:∀t nd h',nd.q=[]→nd.nx=[]→sat h' (trM t [([],nd)] []::R)→Q (at9 t) h'):V2 prog 28 #[] h Q:=by
 refine B4I h Q ?_
 delta B9o az bn cp nw pu
 refine U5 (B3k hs fun b qm nm h1 aa=>⟨some ⟨b,0,none⟩,rfl,?_⟩)
 refine A7e (ek:=A05) (ev:=A1u) aa fun cm h2 ae=>?_
 refine V4 ae fun t h3 aj=>?_
 refine hq t ⟨b,qm,nm,[],[]⟩ h3 rfl rfl (A2c.2 ⟨b,cm,⟨by simp,⟨_,rfl,rfl⟩,?_,?_,?_⟩,?_⟩)
 ·intro p nd x v h1 h2
  rw[Y5] at h1
  by_cases e:([]:Path)=p
  ·rw[if_pos e] at h1;cases h1;simp at h2
  ·rw[if_neg e] at h1;simp at h1
 ·intro p x nd' h1
  rw[Y5,if_neg (by simp)] at h1
  simp at h1
 ·intro p nd h1
  rw[Y5] at h1
  by_cases e:([]:Path)=p
  ·rw[←e];simp
  ·rw[if_neg e] at h1;simp at h1
 ·have h4:=C2R (N:=[]) (p:=[]) (A2u (f:=fun p:Path×Nd=>ndA p.2).2 aj.p2).p1
  exact h4.re [1,0,2]
abbrev C4w(id:Int)(f:B3O)(q:Int):Value:=.agg #[.int .i64 id,.string f,.int .i64 q]
theorem C6c{t:Nat}{N:Nds}{C:List (Int×Int)}(ht:TP h0){id q:Int}{f:B3O}(hsz:f.size≤9223372036854775807)(hs:sat h (trM t N C::old h0::R)){Q:Value→Heap→Prop}
  (al:X4 f=false→∀h',sat h' (trM t N C::old h0::R)→Q (.int .u8 143) h')
  (ft:X4 f=true→(q<0∨2<q)→∀h',sat h' (trM t N C::old h0::R)→Q (.int .u8 155) h')
  (eX:X4 f=true→0≤q→q≤2→∀q0,ent N (levels f) id=some q0→∀N' h',(∀p' k',ent N' p' k'=if levels f=p'∧id=k' then some q else ent N p' k')→sat h' (trM t N' C::old h0::R)→Q (.int .u8 0) h')
  (aA:X4 f=true→0≤q→q≤2→ent N (levels f) id=none→64≤(W0 C id).getD 0→∀h',sat h' (trM t N C::old h0::R)→Q (.int .u8 151) h')
  (iT:X4 f=true→0≤q→q≤2→ent N (levels f) id=none→(W0 C id).getD 0<64→∀N' h',(∀p' k',ent N' p' k'=if levels f=p'∧id=k' then some q else ent N p' k')→
   sat h' (trM t N' (mset C id (IntKind.wrap .i64 ((W0 C id).getD 0+1)))::old h0::R)→Q (.int .u8 0) h'):
  V2 prog 109 #[at9 t,C4w id f q] h Q:=by
 refine A9j (some ⟨t,0,none⟩) (id,f,q,()) h Q ?_
 delta A9G bn cc cp cu ie ix ji jt km kp lt nn nw pu rq vi wi
 refine V4 hs fun x1 h1 aa=>?_
 have hE:∀{h':Heap} {R':List Asn},sat h' (cells x1 #[.int .i64 id,.string f,.int .i64 q]::R')→V9 h' ⟨x1,0,none⟩=some (.int .i64 id)∧V9 h' ⟨x1,1,none⟩=some (.string f)∧V9 h' ⟨x1,2,none⟩=some (.int .i64 q):=fun af=>⟨af.cell 0,af.cell 1,af.cell 2⟩
 (try dsimp only);rw[U6,if_neg (by simp)]
 refine⟨f,by rw[U2];exact(hE aa).2.1,?_⟩
 refine U5 (A6W (aa.re [2,0,1]) ht hsz fun h2 ae=>⟨A9X f,rfl,?_⟩)
 have aj:sat h2 (cells x1 #[.int .i64 id,.string f,.int .i64 q]::trM t N C::old h0::R):=ae.re [1,2,0]
 clear aa hs ae
 (try dsimp only);rw[U6]
 unfold A9X
 by_cases hf:X4 f=true
 case neg=>
  rw[if_neg hf,if_pos (by decide)]
  exact al (by simpa using hf) h2 aj.drop
 rw[if_pos hf,if_neg (by decide)]
 clear al
 refine V3 (fun x h'=>h'=h2∧(x.1=true↔(q<0∨2<q))) ?_ ?_
 ·refine⟨q,by rw[U2];exact(hE aj).2.2,?_⟩
  (try dsimp only);rw[U6]
  by_cases g1:q<0
  ·rw[if_pos (by simpa using g1)]
   exact⟨rfl,by simp[g1]⟩
  ·rw[if_neg (by simpa using g1)]
   exact⟨q,by rw[U2];exact(hE aj).2.2,rfl,by simp[g1]⟩
 rintro⟨x,⟨⟩⟩ h3 ⟨rfl,hx⟩
 simp only at hx
 rw[U6]
 by_cases g:q<0∨2<q
 ·rw[if_pos (hx.2 g)]
  exact ft hf g h3 aj.drop
 rw[if_neg (fun e=>g (hx.1 e))]
 clear hx ft
 have iJ:0≤q:=by omega
 have fa:q≤2:=by omega
 clear g
 have oJ:f.size≤256:=A3y (A0u hf)
 refine⟨f,by rw[U2];exact(hE aj).2.1,?_⟩
 obtain⟨rb,cm,hT,bq⟩:=A2c.1 aj.p1
 have ak:sat h3 (cells t (trC rb cm)::o7 N::old h0::mapA A05 A1u cm C::cells x1 #[.int .i64 id,.string f,.int .i64 q]::R):=bq.re [0,1,4,2,3]
 clear bq aj
 refine V3 (fun x h'=>(x=(W0 N (levels f)).bind fun nd=>o0 nd)∧sat h' (cells t (trC rb cm)::o7 N::old h0::mapA A05 A1u cm C::cells x1 #[.int .i64 id,.string f,.int .i64 q]::R)) ?_ ?_
 ·exact find_spec ht hT (by omega) ak (fun hn h' af=>⟨none,rfl,by rw[hn];rfl,af⟩) (fun nd hn h' af=>⟨o0 nd,rfl,by rw[hn];rfl,af⟩)
 clear ak
 rintro x8 h4 ⟨pE,ak⟩
 refine V3 (fun z h'=>(z=.inl ()∧ent N (levels f) id=none∧sat h' (cells t (trC rb cm)::o7 N::old h0::mapA A05 A1u cm C::cells x1 #[.int .i64 id,.string f,.int .i64 q]::R))∨
  (z=.inr (0,())∧∃q0 N',ent N (levels f) id=some q0∧(∀p' k',ent N' p' k'=if levels f=p'∧id=k' then some q else ent N p' k')∧sat h' (trM t N' C::old h0::R))) ?_ ?_
 ·rw[U6]
  cases hg:W0 N (levels f) with
  |none=>
   rw[hg] at pE
   subst pE
   rw[if_neg (by simp)]
   exact .inl ⟨rfl,by unfold ent;rw[hg];rfl,ak⟩
  |some nd=>
   rw[hg] at pE
   subst pE
   rw[if_pos (by rfl)]
   refine⟨_,rfl,some nd.qm,by rw[U2];exact(u9 hg ak.p1).1,id,by rw[U2];exact(hE ak.p4).1,?_⟩
   (try dsimp only);rw[U0]
   refine C63 hg ak.p1 ?_
   (try dsimp only);rw[U6]
   cases hm:W0 nd.q id with
   |none=>
    rw[if_neg (by simp)]
    exact .inl ⟨rfl,by unfold ent;rw[hg];exact hm,ak⟩
   |some q0=>
    rw[if_pos (by rfl)]
    refine⟨_,rfl,some nd.qm,by rw[U2];exact(u9 hg ak.p1).1,id,by rw[U2];exact(hE ak.p4).1,q,by rw[U2];exact(hE ak.p4).2.2,?_⟩
    (try dsimp only);rw[U0]
    refine B92 hg ak.p1 fun h5 ai=>?_
    exact .inr ⟨rfl,q0,_,by unfold ent;rw[hg];exact hm,C2Z hg id q,A2c.2 ⟨rb,cm,hT.setq hg _,(ai.re [4,1,0,3,2]).drop⟩⟩
 clear ak pE
 clear x8
 rintro z h5 (⟨rfl,jH,ai⟩|⟨rfl,q0,N',sV,xH,ai⟩)
 case inr=>
  simp only[E6,V0]
  exact eX hf iJ fa q0 sV N' h5 xH ai
 simp only[D3]
 clear eX
 refine⟨_,rfl,some cm,by rw[U2];exact ai.cell 1,id,by rw[U2];exact(hE ai.p4).1,?_⟩
 (try dsimp only);rw[U0]
 refine u4 kI9 (ek:=A05) (kind:=.one (.int .i64)) (z:=0) rfl ai.p3 ?_
 (try dsimp only);rw[U6]
 by_cases cn:64≤(W0 C id).getD 0
 ·rw[if_pos (by simpa using cn)]
  exact aA hf iJ fa jH cn h5 (A2c.2 ⟨rb,cm,hT,(ai.re [4,0,1,3,2]).drop⟩)
 rw[if_neg (by simpa using cn)]
 clear aA
 refine⟨_,rfl,some ⟨rb,0,none⟩,by rw[U2];exact ai.cell 0,f,by rw[U2];exact(hE ai.p4).2.1,?_⟩
 refine U5 (A4g ai.p2 ht oJ fun sl h6 gE=>⟨sl,rfl,?_⟩)
 have ay:sat h6 (o7 N::U4 eS 1 sl (levels f)::cells t (trC rb cm)::mapA A05 A1u cm C::cells x1 #[.int .i64 id,.string f,.int .i64 q]::old h0::R):=gE.re [3,0,2,4,5,1]
 clear gE ai
 have hlen:=ay.p1.aW
 have tn:(levels f).length≤32:=(A0T.1 (A0u hf)).2.2.2
 obtain⟨r,fr,cI⟩:=hT.root
 refine V3 (fun x h'=>∃N1 nd,A0b rb N1∧(∀p k,ent N1 p k=ent N p k)∧W0 N1 (levels f)=some nd∧x.1=o0 nd∧
  sat h' (o7 N1::U4 eS 1 sl (levels f)::cells t (trC rb cm)::mapA A05 A1u cm C::cells x1 #[.int .i64 id,.string f,.int .i64 q]::old h0::R)) ?_ ?_
 ·refine l6 (γ:=Nat×Nds) (hb:=fun s=>by
    repeat' with_reducible first
     |refine @A0n _ _ _ _ ?_ (fun _=>?_)
     |refine @A0V _ _ _ _ ?_ ?_
     |refine @A1U _ _ _ ?_
    all_goals infer_instance)
   (fun g x h'=>g.1≤(levels f).length∧x.2.1=(g.1:Int)∧A0b rb g.2∧(∀p k,ent g.2 p k=ent N p k)∧(∃nd,W0 g.2 ((levels f).take g.1)=some nd∧x.1=o0 nd)∧
    sat h' (o7 g.2::U4 eS 1 sl (levels f)::cells t (trC rb cm)::mapA A05 A1u cm C::cells x1 #[.int .i64 id,.string f,.int .i64 q]::old h0::R)) (fun g=>(levels f).length-g.1) (0,N)
   ⟨C9 _,rfl,hT,fun _ _=>rfl,⟨r,by simpa using fr,by rw[←cI]⟩,ay⟩ ?_
  clear ay fr cI r jH iT hT
  rintro⟨i,N1⟩ ⟨pt,ci,⟨⟩⟩ h7 ⟨hi,bR,hT,il,⟨nd,au,lB⟩,aL⟩
  simp only at hi bR hT il au lB aL
  subst bR
  subst lB
  have next:IntKind.wrap .i64 ((i:Int)+1)=((i+1:Nat):Int):=by rw[V5 (by omega) (by omega)];rfl
  simp only[U6,decide_eq_true_eq]
  by_cases ah:i<(levels f).length
  ·rw[if_pos (by omega),U0]
   have hx:=B0 ah
   generalize(levels f)[i]=x at hx
   have aV:=B7b hx
   refine X6 (aL.p1.aO A1C) hx fun a ha=>?_
   refine⟨x,ha 0 _ rfl,?_⟩
   refine⟨_,rfl,some nd.nm,by rw[U2];exact(u9 au aL).2,?_⟩
   (try dsimp only);rw[U0]
   refine A6F au aL ?_
   refine V3 (fun _ h'=>∃N2 nd2 c,A0b rb N2∧(∀p k,ent N2 p k=ent N p k)∧W0 N2 ((levels f).take i)=some nd2∧nd2.b=nd.b∧W0 nd2.nx x=some (o0 c)∧W0 N2 ((levels f).take (i+1))=some c∧
    sat h' (o7 N2::U4 eS 1 sl (levels f)::cells t (trC rb cm)::mapA A05 A1u cm C::cells x1 #[.int .i64 id,.string f,.int .i64 q]::old h0::R)) ?_ ?_
   ·(try dsimp only);rw[U6]
    cases hg:W0 nd.nx x with
    |some v=>
     obtain⟨c,hc,rfl⟩:=hT.down _ _ _ _ au hg
     rw[if_neg (by simp)]
     exact⟨N1,nd,c,hT,il,au,rfl,hg,by rw[aV];exact hc,aL⟩
    |none=>
     rw[if_pos (by rfl)]
     refine⟨_,rfl,some nd.nm,by rw[U2];exact(u9 au aL).2,?_⟩
     refine U5 (B3k aL fun b qm nm h8 bu=>⟨some ⟨b,0,none⟩,rfl,?_⟩)
     refine⟨some nd.nm,by rw[U2];exact(u9 au bu.p1).2,rfl,?_⟩
     (try dsimp only);rw[U0]
     refine C48 au bu.p1 fun h9 ff=>?_
     obtain⟨ax,nX⟩:=hT.grow (c:=⟨b,qm,nm,[],[]⟩) au hg rfl (by rw[E1];omega)
     have e1:∀p k,ent (mset N1 ((levels f).take i) {nd with nx:=mset nd.nx x (o0 ⟨b,qm,nm,[],[]⟩)}++[((levels f).take i++[x],⟨b,qm,nm,[],[]⟩)]) p k=ent N p k:=by
      intro p k
      rw[←il p k,←C5w au (mset nd.nx x (o0 ⟨b,qm,nm,[],[]⟩)) p k]
      unfold ent
      rw[A5D,Y5,B5s]
      by_cases e:(levels f).take i++[x]=p
      ·rw[if_pos e,←e,j0,if_neg (fun e=>A7L _ _ e.symm),ax]
       rfl
      ·rw[if_neg e]
       cases W0 (mset N1 ((levels f).take i) {nd with nx:=mset nd.nx x (o0 ⟨b,qm,nm,[],[]⟩)}) p<;>rfl
     refine⟨_,{nd with nx:=mset nd.nx x (o0 ⟨b,qm,nm,[],[]⟩)},⟨b,qm,nm,[],[]⟩,nX,e1,?_,rfl,by simp[j0],?_,C2R ff.p1⟩
     ·rw[A5D,j0,if_pos rfl]
      rfl
     ·rw[aV,A5D,j0,if_neg (fun e=>A7L _ _ e.symm),ax,Y5,if_pos rfl]
      rfl
   clear aL hT il au
   rintro⟨⟩ h8 ⟨N2,nd2,c,nX,cM,pZ,dw,iY,hc,bu⟩
   have ep:o0 nd=o0 nd2:=by unfold o0;rw[dw]
   rw[ep]
   refine⟨_,rfl,some nd2.nm,by rw[U2];exact(u9 pZ bu).2,?_⟩
   (try dsimp only);rw[U0]
   refine A6F pZ bu ?_
   rw[iY]
   simp only[D3,E6,V0]
   exact .mk (i+1,N2) (by simp only[];omega) ⟨by simp only[];omega,next,nX,cM,⟨c,hc,rfl⟩,bu⟩
  ·rw[if_neg (by omega)]
   have:i=(levels f).length:=by omega
   subst this
   rw[F5] at au
   exact⟨N1,nd,hT,il,au,rfl,aL⟩
 clear ay fr cI r hT
 rintro⟨pt,ci,⟨⟩⟩ h7 ⟨N1,nd,hT,il,au,lB,aL⟩
 simp only at lB
 subst lB
 refine⟨_,rfl,some nd.qm,by rw[U2];exact(u9 au aL).1,id,by rw[U2];exact(hE aL.p4).1,q,by rw[U2];exact(hE aL.p4).2.2,?_⟩
 (try dsimp only);rw[U0]
 refine B92 au aL fun h8 bu=>?_
 refine⟨_,rfl,some cm,by rw[U2];exact bu.p2.cell 1,id,by rw[U2];exact(hE bu.p4).1,?_⟩
 (try dsimp only);rw[U0]
 refine u4 kI9 (ek:=A05) (kind:=.one (.int .i64)) (z:=0) rfl bu.p3 ?_
 (try dsimp only);rw[U0]
 refine A4z kI9 (ek:=A05) (A9b .i64) (ev:=A1u) (x:=IntKind.wrap .i64 ((W0 C id).getD 0+1)) bu.p3 fun h9 ff=>?_
 refine iT hf iJ fa jH (by omega) _ h9 (fun p' k'=>?_) (A2c.2 ⟨rb,cm,hT.setq au (mset nd.q id q),(ff.re [4,2,3,1,0,5]).drop.drop⟩)
 rw[C2Z au,il]
end
end Go.Proofs.YtidlldnlphdhcaaGreatDoor
namespace Go.H
section
variable {α:Type} {enc:α→C9w} {size:Nat} {h:Heap} {s:Slc} {x:α} {xs:List α}
theorem Z5.tail(hr:Z5 enc size h s (x::xs)):Z5 enc size h (j9 s 1 s.len s.cap size) xs:=by
 have h1:=hr.1
 have h2:=hr.2.1
 rw[B7] at h1
 refine⟨?_,?_,fun i y hy=>?_⟩
 ·simp only[j9];omega
 ·simp only[j9];omega
 ·obtain⟨a,ha,hc⟩:=hr.2.2 (i+1) y (by simpa using hy)
  have ah:=(D8.1 hy).1
  refine⟨a.add size,?_,fun j v hv=>?_⟩
  ·simp only[j9]
   rw[if_neg (by omega),ha,M9]
   rfl
  ·have:=hc j v hv
   rw[A8T] at this⊢
   rw[A8T]
   rw[show size+(i*size+j)=(i+1)*size+j by rw[J1];omega]
   exact this
theorem A98(hr:Z5 enc size h s (x::xs)){Q:Slc→Heap→Prop}(hq:Q (j9 s 1 s.len s.cap size) h):HM.slice s (some 1) none none size h Q:=by
 have h1:=hr.1
 have h2:=hr.2.1
 rw[B7] at h1
 exact⟨1,s.len,s.cap,rfl,⟨rfl,rfl⟩,⟨rfl,by omega⟩,hq⟩
end
end Go.H
namespace Go.Proofs.YtidlldnlphdhcaaGreatDoor
open Go.H
open Go.Proofs.Tryz
section
open Go.H Go.Proofs
variable {h h0:Heap} {R:List Asn}
theorem B7E{K V:Type}[DecidableEq K]:∀(l:List (K×V)) (k:K) (v:V),mdel (mset l k v) k=mdel l k
 |[],k,v=>by simp[mset,mdel]
 |(a,b)::l,k,v=>by
  simp only[mset]
  by_cases e:a=k
  ·rw[if_pos e];simp[mdel,e]
  ·rw[if_neg e];simp only[mdel,if_neg e];rw[B7E l k v]
theorem C2Q(p:Path)(x:B3O):¬(p++[x])<+:p:=fun h=>by
 have:=h.length_le
 simp at this
 omega
theorem C4X{p p':Path}{x:B3O}(h:¬p<+:p'):¬(p++[x])<+:p':=fun hh=>h ((List.prefix_append p [x]).trans hh)
theorem C1q{A:Asn}{rb:Nat}{id:Int}:∀(ls p:Path) {N:Nds} {nd:Nd} {s:Slc} {h:Heap} {R:List Asn} (hT:A0b rb N) (au:W0 N p=some nd) (aM:∀{h':Heap} {R':List Asn},sat h' (A::R')→Z5 eS 1 h' s ls)
  (hs:sat h (o7 N::A::R)) {Q:Value→Heap→Prop}
  (hq:∀N' nd' h',A0b rb N'→W0 N' p=some nd'→nd'.b=nd.b→(∀p',¬p<+:p'→W0 N' p'=W0 N p')→(∀p' k',ent N' p' k'=if p'=p++ls∧k'=id then none else ent N p' k')→
   sat h' (o7 N'::A::R)→Q (.bool (nd'.q.isEmpty&&nd'.nx.isEmpty)) h'),
  V2 prog 166 #[.pointer (o0 nd),.int .i64 id,.slice s.a s.len s.cap] h Q:=by
 intro ls
 induction ls with
 |nil=>
  intro p N nd s h R hT au aM hs Q hq
  refine A2I (o0 nd) id s h Q ?_
  delta A2U bn cb ie ix km lt nn pu vi vs
  have hl:s.len=0:=(aM hs.p1).1
  have hn:=A6E au hs
  refine V3 (fun _ h'=>sat h' (o7 (mset N p {nd with q:=mdel nd.q id})::A::R)) ?_ ?_
  ·rw[U6,if_pos (by simp[hl])]
   refine⟨_,rfl,some nd.qm,by rw[U2];exact(u9 au hs).1,?_⟩
   (try dsimp only);rw[U0]
   exact C5a au hs fun h1 aa=>aa
  rintro⟨⟩ h1 aa
  have dV:W0 (mset N p {nd with q:=mdel nd.q id}) p=some {nd with q:=mdel nd.q id}:=by rw[j0,if_pos rfl]
  have fin:Q (.bool ((mdel nd.q id).isEmpty&&nd.nx.isEmpty)) h1:=by
   refine hq _ _ h1 (hT.setq au _) dV rfl (fun p' di=>?_) (fun p' k'=>?_) aa
   ·rw[j0,if_neg (fun e=>di (by rw[e];exact List.prefix_refl _))]
   ·rw[C6G au hn.1,C1]
    by_cases e:p=p'∧id=k'
    ·rw[if_pos e,if_pos ⟨e.1.symm,e.2.symm⟩]
    ·rw[if_neg e,if_neg (fun e'=>e ⟨e'.1.symm,e'.2.symm⟩)]
  refine V3 (fun x h'=>h'=h1∧x.1=((mdel nd.q id).isEmpty&&nd.nx.isEmpty)) ?_ ?_
  ·refine⟨_,rfl,some nd.qm,by rw[U2];exact(u9 dV aa).1,?_⟩
   (try dsimp only);rw[U0]
   refine B93 dV aa ?_
   (try dsimp only);rw[U6]
   cases hm:mdel nd.q id with
   |cons a l=>rw[if_neg (by simp;omega)];exact⟨rfl,rfl⟩
   |nil=>
    rw[if_pos (by simp)]
    refine⟨_,rfl,some nd.nm,by rw[U2];exact(u9 dV aa).2,?_⟩
    (try dsimp only);rw[U0]
    refine B94 dV aa ?_
    refine⟨rfl,?_⟩
    simp only[]
    cases nd.nx<;>simp
    omega
  rintro⟨x,⟨⟩⟩ h2 ⟨rfl,hx⟩
  simp only at hx
  subst hx
  exact fin
 |cons x r ih=>
  intro p N nd s h R hT au aM hs Q hq
  refine A2I (o0 nd) id s h Q ?_
  delta A2U bn cb ie ix km lt nn pu vi vs
  have hl:s.len=r.length+1:=(aM hs.p1).1
  refine V3 (fun _ h'=>∃N' nd',A0b rb N'∧W0 N' p=some nd'∧nd'.b=nd.b∧nd'.qm=nd.qm∧nd'.nm=nd.nm∧(∀p',¬p<+:p'→W0 N' p'=W0 N p')∧(∀p' k',ent N' p' k'=if p'=p++x::r∧k'=id then none else ent N p' k')∧sat h' (o7 N'::A::R)) ?_ ?_
  ·rw[U6,if_neg (by simp[hl];omega)]
   refine⟨_,rfl,some nd.nm,by rw[U2];exact(u9 au hs).2,?_⟩
   (try dsimp only);rw[U0]
   have vL:=aM hs.p1
   refine X6 (i:=0) vL (x:=x) rfl fun a ha=>?_
   refine⟨x,ha 0 _ rfl,?_⟩
   (try dsimp only);rw[U0]
   refine A6F au hs ?_
   cases hg:W0 nd.nx x with
   |none=>
    have ax:∀k',ent N (p++x::r) k'=none:=by
     intro k'
     unfold ent
     cases hh:W0 N (p++x::r) with
     |none=>rfl
     |some nd'=>
      have e:p++x::r=(p++[x])++r:=by simp
      rw[e] at hh
      obtain⟨c,hc⟩:=hT.pre _ _ _ hh
      obtain⟨n0,h3,h4⟩:=hT.up _ _ _ hc
      rw[au] at h3
      cases h3
      rw[hg] at h4
      cases h4
    refine V3 (fun z h'=>h'=h∧z.1=false) ?_ ?_
    ·(try dsimp only);rw[U6,if_neg (by simp)]
     exact⟨rfl,rfl⟩
    rintro⟨z,⟨⟩⟩ h1 ⟨rfl,hz⟩
    simp only at hz
    subst hz
    (try dsimp only);rw[U0,U6,if_neg (by simp)]
    refine⟨N,nd,hT,au,rfl,rfl,rfl,fun _ _=>rfl,fun p' k'=>?_,hs⟩
    by_cases e:p'=p++x::r∧k'=id
    ·rw[if_pos e,e.1,ax]
    ·rw[if_neg e]
   |some v=>
    obtain⟨c,hc,rfl⟩:=hT.down _ _ _ _ au hg
    refine V3 (fun z h'=>∃N1 c1,A0b rb N1∧W0 N1 (p++[x])=some c1∧c1.b=c.b∧(∀p',¬(p++[x])<+:p'→W0 N1 p'=W0 N p')∧(∀p' k',ent N1 p' k'=if p'=(p++[x])++r∧k'=id then none else ent N p' k')∧
     z.1=(c1.q.isEmpty&&c1.nx.isEmpty)∧sat h' (o7 N1::A::R)) ?_ ?_
    ·(try dsimp only);rw[U6,if_pos (by rfl)]
     refine A98 vL ?_
     refine U5 (ih (p++[x]) hT hc (fun af=>(aM af).tail) hs fun N1 c1 h1 a1 a2 a3 a4 a5 aa=>⟨_,rfl,?_⟩)
     exact⟨N1,c1,a1,a2,a3,a4,a5,rfl,aa⟩
    rintro⟨z,⟨⟩⟩ h1 ⟨N1,c1,bF,fw,fT,tL,da,hz,aa⟩
    simp only at hz
    subst hz
    have dV:W0 N1 p=some nd:=by rw[tL p (C2Q p x)];exact au
    have wN:(p++[x])++r=p++x::r:=by simp
    rw[wN] at da
    (try dsimp only);rw[U0,U6]
    by_cases kU:(c1.q.isEmpty&&c1.nx.isEmpty)=true
    ·rw[if_pos kU]
     rw[E8,List.isEmpty_iff,List.isEmpty_iff] at kU
     have hk:=(A6E dV aa).2
     have yl:W0 nd.nx x=some (o0 c1):=by
      obtain⟨n0,h3,h4⟩:=bF.up _ _ _ fw
      rw[dV] at h3
      cases h3
      exact h4
     refine⟨_,rfl,some nd.nm,by rw[U2];exact(u9 dV aa).2,?_⟩
     (try dsimp only);rw[U0]
     refine X6 (i:=0) (aM aa.p1) (x:=x) rfl fun a ha=>?_
     refine⟨x,ha 0 _ rfl,?_⟩
     (try dsimp only);rw[U0]
     refine C5b dV aa fun h2 ae=>?_
     have eu:W0 (mset N1 p {nd with nx:=mdel nd.nx x}) (p++[x])=some c1:=by rw[j0,if_neg (fun e=>A7L p x e.symm)];exact fw
     have cJ:((mset N1 p {nd with nx:=mdel nd.nx x}).map (·.1)).Nodup:=by rw[A6I dV];exact bF.keys
     refine⟨_,{nd with nx:=mdel nd.nx x},bF.cut dV hk fw kU.2,?_,rfl,rfl,rfl,fun p' di=>?_,fun p' k'=>?_,C49 eu ae⟩
     ·rw[A2O cJ,if_neg (A7L p x),j0,if_pos rfl]
     ·rw[A2O cJ,if_neg (fun e=>di (by rw[←e];exact List.prefix_append _ _)),j0,if_neg (fun e=>di (by rw[e];exact List.prefix_refl _))]
      exact tL p' (C4X di)
     ·rw[←da]
      have:ent (mset N1 p {nd with nx:=mdel nd.nx x}) p' k'=ent N1 p' k':=C5w dV _ p' k'
      rw[←this]
      unfold ent
      rw[A2O cJ]
      by_cases e:p++[x]=p'
      ·subst e
       rw[if_pos rfl,eu]
       simp[kU.1]
      ·rw[if_neg e]
    ·rw[if_neg kU]
     exact⟨N1,nd,bF,dV,rfl,rfl,rfl,fun p' di=>tL p' (C4X di),da,aa⟩
  clear hs
  rintro⟨⟩ h1 ⟨N',nd',uc,gI,hb,uI,nH,hf,he,aa⟩
  have ep:o0 nd=o0 nd':=by unfold o0;rw[hb]
  refine V3 (fun x h'=>h'=h1∧x.1=(nd'.q.isEmpty&&nd'.nx.isEmpty)) ?_ ?_
  ·rw[ep]
   refine⟨_,rfl,some nd'.qm,by rw[U2];exact(u9 gI aa).1,?_⟩
   (try dsimp only);rw[U0]
   refine B93 gI aa ?_
   (try dsimp only);rw[U6]
   cases hm:nd'.q with
   |cons a l=>rw[if_neg (by simp;omega)];exact⟨rfl,rfl⟩
   |nil=>
    rw[if_pos (by simp)]
    refine⟨_,rfl,some nd'.nm,by rw[U2];exact(u9 gI aa).2,?_⟩
    (try dsimp only);rw[U0]
    refine B94 gI aa ?_
    refine⟨rfl,?_⟩
    simp only[]
    cases nd'.nx<;>simp
    omega
  rintro⟨x,⟨⟩⟩ h2 ⟨rfl,hx⟩
  simp only at hx
  subst hx
  exact hq N' nd' h2 uc gI hb hf he aa
theorem C0S{t:Nat}{N:Nds}{C:List (Int×Int)}(ht:TP h0){id:Int}{f:B3O}(hsz:f.size≤16777216)(hs:sat h (trM t N C::old h0::R)){Q:Value→Heap→Prop}
  (ax:ent N (levels f) id=none→∀h',sat h' (trM t N C::old h0::R)→Q (.bool false) h')
  (cN:∀q0,ent N (levels f) id=some q0→∀N' h',(∀p' k',ent N' p' k'=if p'=levels f∧k'=id then none else ent N p' k')→
   sat h' (trM t N' (if IntKind.wrap .i64 ((W0 C id).getD 0-1)=0 then mdel C id else mset C id (IntKind.wrap .i64 ((W0 C id).getD 0-1)))::old h0::R)→Q (.bool true) h'):
  V2 prog 111 #[at9 t,.int .i64 id,.string f] h Q:=by
 refine A6Y (some ⟨t,0,none⟩) id f h Q ?_
 delta A6e bn cb cc cp ie km kp nn pu rq vi vs wi
 rw[U6,if_neg (by simp)]
 obtain⟨rb,cm,hT,bx⟩:=A2c.1 hs
 have aa:sat h (cells t (trC rb cm)::o7 N::old h0::mapA A05 A1u cm C::R):=bx.re [0,1,3,2]
 clear bx hs
 have back:∀{h':Heap},sat h' (cells t (trC rb cm)::o7 N::old h0::mapA A05 A1u cm C::R)→sat h' (trM t N C::old h0::R):=fun af=>A2c.2 ⟨rb,cm,hT,af.re [0,1,3,2]⟩
 refine V3 (fun x h'=>(x=(W0 N (levels f)).bind fun nd=>o0 nd)∧sat h' (cells t (trC rb cm)::o7 N::old h0::mapA A05 A1u cm C::R)) ?_ ?_
 ·exact find_spec ht hT hsz aa (fun hn h' af=>⟨none,rfl,by rw[hn];rfl,af⟩) (fun nd hn h' af=>⟨o0 nd,rfl,by rw[hn];rfl,af⟩)
 clear aa
 rintro x1 h1 ⟨hx,aa⟩
 rw[U6]
 cases hg:W0 N (levels f) with
 |none=>
  rw[hg] at hx
  subst hx
  rw[if_pos (by rfl)]
  exact ax (by unfold ent;rw[hg];rfl) h1 (back aa)
 |some nd=>
  rw[hg] at hx
  subst hx
  rw[if_neg (by simp)]
  refine⟨_,rfl,some nd.qm,by rw[U2];exact(u9 hg aa.p1).1,?_⟩
  (try dsimp only);rw[U0]
  refine C63 hg aa.p1 ?_
  (try dsimp only);rw[U6]
  cases hm:W0 nd.q id with
  |none=>
   rw[if_pos (by simp)]
   exact ax (by unfold ent;rw[hg];exact hm) h1 (back aa)
  |some q0=>
   rw[if_neg (by simp)]
   have iJ:ent N (levels f) id=some q0:=by unfold ent;rw[hg];exact hm
   refine⟨_,rfl,some ⟨rb,0,none⟩,by rw[U2];exact aa.cell 0,?_⟩
   refine U5 (B2c aa.p2 ht hsz fun sl h2 aY=>⟨sl,rfl,?_⟩)
   have ae:sat h2 (cells t (trC rb cm)::o7 N::U4 eS 1 sl (levels f)::mapA A05 A1u cm C::old h0::R):=aY.re [2,3,0,4,1]
   clear aY aa
   refine⟨some ⟨rb,0,none⟩,by rw[U2];exact ae.cell 0,rfl,?_⟩
   obtain⟨r,fr,cI⟩:=hT.root
   have ep:(Value.pointer (some ⟨rb,0,none⟩))=.pointer (o0 r):=by unfold o0;rw[cI]
   rw[ep]
   refine U5 (C1q (A:=U4 eS 1 sl (levels f)) (levels f) [] hT fr (fun af=>af.aO A1C) (ae.re [1,2,0]) fun N' nd' h3 uc _ _ _ he bo=>⟨_,rfl,?_⟩)
   have aj:sat h3 (cells t (trC rb cm)::mapA A05 A1u cm C::o7 N'::old h0::R):=(bo.re [1,2,3,0,4]).drop
   clear bo ae
   refine⟨_,rfl,some cm,by rw[U2];exact aj.cell 1,?_⟩
   (try dsimp only);rw[U0]
   refine u4 kI9 (ek:=A05) (kind:=.one (.int .i64)) (z:=0) rfl aj.p1 ?_
   (try dsimp only);rw[U0]
   refine A4z kI9 (ek:=A05) (A9b .i64) (ev:=A1u) (x:=IntKind.wrap .i64 ((W0 C id).getD 0-1)) aj.p1 fun h4 ak=>?_
   refine⟨_,rfl,some cm,by rw[U2];exact ak.p1.cell 1,?_⟩
   (try dsimp only);rw[U0]
   refine u4 kI9 (ek:=A05) (kind:=.one (.int .i64)) (z:=0) rfl ak ?_
   rw[j0,if_pos rfl]
   generalize hw:IntKind.wrap .i64 ((W0 C id).getD 0-1)=w at ak cN
   refine V3 (fun _ h'=>sat h' (mapA A05 A1u cm (if w=0 then mdel C id else mset C id w)::cells t (trC rb cm)::o7 N'::old h0::R)) ?_ ?_
   ·(try dsimp only);rw[U6]
    by_cases jR:w=0
    ·rw[if_pos (by simpa using jR),if_pos jR]
     refine⟨_,rfl,some cm,by rw[U2];exact ak.p1.cell 1,?_⟩
     (try dsimp only);rw[U0]
     refine A5N kI9 (ek:=A05) (ev:=A1u) ak fun h5 ai=>?_
     rw[B7E] at ai
     exact ai
    ·rw[if_neg (by simpa using jR),if_neg jR]
     exact ak
   rintro⟨⟩ h5 ai
   refine cN q0 iJ N' h5 (fun p' k'=>?_) (A2c.2 ⟨rb,cm,uc,ai.re [1,2,0]⟩)
   rw[he,F2]
end
open Go.Proofs Go.Shelf
def B7J:Go.Shelf.Ren:=⟨fun n=>match n with|156=>228|165=>257|166=>258|169=>259|240=>269|241=>270|276=>273|277=>274|n=>n,fun n=>match n with|31=>43|9=>9|3=>3|4=>4|0=>0|20=>20|72=>384|76=>387|70=>382|37=>54|75=>386|127=>397|164=>399|5=>5|80=>389|n=>n,fun n=>n⟩
theorem C8C:Lays.n156 prog B7J where
 mixed:=by kernel_rfl
 f156:=func228.trans (congrArg some (by kernel_rfl))
 f165:=func257.trans (congrArg some (by kernel_rfl))
 f166:=func258.trans (congrArg some (by kernel_rfl))
 f169:=func259.trans (congrArg some (by kernel_rfl))
 f240:=func269.trans (congrArg some (by kernel_rfl))
 f241:=func270.trans (congrArg some (by kernel_rfl))
 f276:=func273.trans (congrArg some (by kernel_rfl))
 f277:=func274.trans (congrArg some (by kernel_rfl))
 t0:=underlying0
 a0:=isAgg0
 z0:=sizeOf0
 v0:=zeroValue0
 t3:=underlying3
 a3:=isAgg3
 z3:=sizeOf3
 v3:=zeroValue3
 t4:=underlying4
 a4:=isAgg4
 z4:=sizeOf4
 v4:=zeroValue4
 t9:=underlying9
 a9:=isAgg9
 z9:=sizeOf9
 v9:=zeroValue9
 t20:=underlying20
 a20:=isAgg20
 z20:=sizeOf20
 v20:=zeroValue20
 t31:=underlying43
 a31:=isAgg43
 z31:=sizeOf43
 v31:=zeroValue43
 t37:=underlying54
 a37:=isAgg54
 z37:=sizeOf54
 v37:=zeroValue54
 t70:=underlying382
 a70:=isAgg382
 z70:=sizeOf382
 v70:=zeroValue382
 t72:=underlying384
 a72:=isAgg384
 z72:=sizeOf384
 v72:=zeroValue384
 t75:=underlying386
 a75:=isAgg386
 z75:=sizeOf386
 v75:=zeroValue386
 t76:=underlying387
 a76:=isAgg387
 z76:=sizeOf387
 v76:=zeroValue387
 t127:=underlying397
 a127:=isAgg397
 z127:=sizeOf397
 v127:=zeroValue397
 t164:=underlying399
 a164:=isAgg399
 z164:=sizeOf399
 v164:=zeroValue399
theorem C8B:Builder.Extra prog B7J where
 sizeBuilder:=by kernel_rfl
 liesBuilder:=by kernel_rfl
 t5:=underlying5
 a5:=isAgg5
 z5:=sizeOf5
 v5:=zeroValue5
 infoByte:=by kernel_rfl
 cellsByte:=by kernel_rfl
 sizeByte:=by kernel_rfl
 neB5:=by decide
end Go.Proofs.YtidlldnlphdhcaaGreatDoor
namespace Go.H
section
variable {α:Type} {enc:α→C9w} {size:Nat} {h:Heap} {s:Slc} {x:α} {xs:List α}
theorem Z5.clip(hr:Z5 enc size h s xs):Z5 enc size h (j9 s 0 s.len s.len size) xs:=by
 have h1:=hr.1
 refine⟨by simp only[j9];omega,by simp only[j9];omega,fun i y hy=>?_⟩
 obtain⟨a,ha,hc⟩:=hr.2.2 i y hy
 refine⟨a,?_,hc⟩
 simp only[j9,ha]
 split
 ·rfl
 ·simp[add_zero]
end
end Go.H
namespace Go.Proofs.YtidlldnlphdhcaaGreatDoor
open Go.H
open Go.Proofs.Tryz
section
open Go.H Go.Proofs
variable {h h0:Heap} {R:List Asn}
def A5I(p:Path):B3O:=⟨(Lib.join (p.map (·.data.toList)) [47]).toArray⟩
theorem B5C(c:UInt8):∀(r x:List UInt8),Lib.join (lev c x r) [c]=x++r
 |[],x=>by simp[lev,Lib.join_one]
 |b::r,x=>by
  unfold lev
  by_cases e:b=c
  ·rw[if_pos e]
   have ih:=B5C c r []
   have bz:lev c [] r≠[]:=fun h=>by have:=B4A c r [];rw[h] at this;simp at this
   obtain⟨y,ys,hy⟩:=N7 bz
   rw[hy,Lib.join_cons] at ih⊢
   rw[←e] at ih⊢
   simp only[Lib.joinTail,B6,List.flatten_cons] at ih⊢
   simp only[F2] at ih
   rw[←ih]
   simp
  ·rw[if_neg e,B5C c r (x++[b])]
   simp
theorem A2Q(f:B3O):A5I (levels f)=f:=by
 unfold A5I
 rw[A2P,B5C,F2]
theorem C2o(hs:sat h R){s:Slc}{xs:Path}(hr:Z5 eS 1 h s xs)(bz:xs≠[])(hN:xs.length≤100000)(hlen:(A5I xs).size≤100000){Q:Value→Heap→Prop}(hq:∀h',sat h' R→Q (.string (A5I xs)) h'):
  V2 prog 186 #[.slice s.a s.len s.cap] h Q:=by
 refine B2e s h Q ?_
 delta B4J ct pu vs
 obtain⟨x,xr,rfl⟩:=N7 bz
 obtain⟨a,ha,xy⟩:=hr.2.2 0 x rfl
 have vN:=xy 0 _ rfl
 have eJ:=C2e vN
 obtain⟨b,o,sp⟩:=a
 have sM:sp=none:=by simpa[Addr.add] using eJ
 subst sM
 refine U5 ?_
 have cG:(Value.slice s.a s.len s.cap)=.slice (some ⟨b,o,none⟩) (x::xr).length s.cap:=by rw[ha,hr.1]
 rw[cG]
 refine B3X hs (fun w hw=>Any.strings_Join C8C C8B b o s.cap (x::xr) (ByteArray.mk #[47]) w (fun j y hy=>?_) ?_ (by omega) (by rw[←hr.1];exact hr.2.1) ?_) fun h' af=>⟨_,rfl,?_⟩
 ·obtain⟨a',iV,hc⟩:=hr.2.2 j y hy
  rw[ha] at iV
  cases iV
  have:=hc 0 _ rfl
  subst hw
  rw[Nat.mul_one,Addr.bL,Addr.bL,O4] at this
  exact this
 ·subst hw
  have h1:V9 w.heap ⟨b,o,none⟩=some (.string x):=by simpa[Addr.add] using vN
  unfold V9 at h1
  cases hx:w.heap[b]? with
  |none=>simp[hx] at h1
  |some ob=>exact(F6.1 hx).1
 ·have:(A5I (x::xr)).size=(Lib.join ((x::xr).map (·.data.toList)) [47]).length:=by simp[A5I,ByteArray.size]
  have e:(ByteArray.mk #[47]).data.toList=[47]:=rfl
  rw[e,←this]
  omega
 ·exact hq h' af
abbrev Ent:=Int×B3O×Int
abbrev Z9(x:Ent):C9w:=[.int .i64 x.1,.string x.2.1,.int .i64 x.2.2]
theorem A0J(x:Ent):(Z9 x).length=3:=rfl
theorem A3S(x:Ent):∀v∈Z9 x,v.oneCell'=true:=by
 intro v hv;simp at hv;rcases hv with rfl|rfl|rfl<;>rfl
def A0X(p:Path)(q:List (Int×Int)):List Ent:=q.map fun kv=>(kv.1,A5I p,kv.2)
def A4a(N:Nds)(p:Path):List Ent:=match W0 N p with|some nd=>A0X p nd.q|none=>[]
theorem B2g{A:Asn}{N:Nds}{p:Path}{nd:Nd}(au:W0 N p=some nd)(bz:nd.q≠[]→p≠[]∧(A5I p).size≤100000)(fb:p.length≤100000){s out:Slc}{es:List Ent}
  (aM:∀{h':Heap} {R':List Asn},sat h' (A::R')→Z5 eS 1 h' s p)(hs:sat h (o7 N::U4 Z9 3 out es::A::R))(hb:es.length+nd.q.length≤100000){Q:Value→Heap→Prop}
  (hq:∀out' l h',l.Perm (A0X p nd.q)→sat h' (o7 N::U4 Z9 3 out' (es++l)::A::R)→Q (.slice out'.a out'.len out'.cap) h'):
  V2 prog 129 #[.pointer (o0 nd),.slice s.a s.len s.cap,.slice out.a out.len out.cap] h Q:=by
 refine A6X (o0 nd) s out h Q ?_
 delta A6c az bn ct ie km nn nw pu ve vi vs
 refine⟨_,rfl,some nd.qm,by rw[U2];exact(u9 au hs).1,?_⟩
 obtain⟨l1,l2,rfl,hn,bx⟩:=A1T au hs
 have aa:sat h (mapA A05 A1u nd.qm nd.q::U4 Z9 3 out es::A::cells nd.b #[.map (some nd.qm),.map (some nd.nm)]::mapA A9B B0x nd.nm nd.nx::a7 (fun p:Path×Nd=>ndA p.2) (l1++l2)::R):=bx.re [1,4,5,0,2,3]
 clear bx hs
 (try dsimp only);rw[U0]
 refine A8Y aa fun it h1 ae=>?_
 refine l6 (γ:=List (Int×Int)×List (Int×Int)) (hb:=fun s=>by
   repeat' with_reducible first
    |refine @A0n _ _ _ _ ?_ (fun _=>?_)
    |refine @B96 _ _ _ _ _ ?_ (fun _=>?_)
    |refine @A0V _ _ _ _ ?_ ?_
    |refine @A1U _ _ _ ?_
   all_goals infer_instance)
  (fun g x h'=>(g.1++g.2).Perm nd.q∧sat h' (itA A05 A1u nd.qm nd.q it g.1 g.2::U4 Z9 3 x.1 (es++A0X p g.1)::A::cells nd.b #[.map (some nd.qm),.map (some nd.nm)]::mapA A9B B0x nd.nm nd.nx::a7 (fun p:Path×Nd=>ndA p.2) (l1++l2)::R))
  (fun g=>g.2.length) ([],nd.q) ⟨I9 _,by simpa[A0X] using ae⟩ ?_
 clear aa ae
 rintro⟨done,todo⟩ ⟨o1,⟨⟩⟩ h2 ⟨hp,ae⟩
 simp only at hp ae
 have iA:done.length+todo.length=nd.q.length:=by have:=hp.length_eq;simpa using this
 rw[U0]
 refine B1z ae (fun h0=>?_) (fun kv t1 t2 ht h3 aj=>?_)
 ·subst h0
  (try dsimp only);rw[B9X,U6,if_neg (by simp)]
  simp only[D3,E6,V0]
  rw[C1] at hp
  refine hq o1 (A0X p done) h2 (hp.map _) ?_
  have h4:=A89 ae
  have h5:=A8y (p:=p) (nd:=nd) (nd':=nd) hn (h4.re [3,0,4,5,1,2])
  rw[B7C au] at h5
  exact h5
 ·subst ht
  (try dsimp only);rw[B9W,U6,if_pos rfl]
  rw[U0]
  refine A9d (kk:=.one (.int .i64)) (kv:=.one (.int .i64)) (ek:=A05) (ev:=A1u) (p:=kv) (x:=kv.1) (y:=kv.2) rfl rfl aj ?_
  have iJ:nd.q≠[]:=fun e=>by rw[e] at hp;simp at hp
  obtain⟨th,tf⟩:=bz iJ
  refine U5 (C2o aj (aM aj.p2) th fb tf fun h4 ak=>⟨A5I p,rfl,?_⟩)
  refine V4 ak fun lq h5 ai=>?_
  (try dsimp only);rw[U0]
  refine z8 (enc:=Z9) (ys:=[(kv.1,A5I p,kv.2)]) A0J A3S rfl ai.p2 rfl ?_ (by decide) (by decide) ?_ fun o2 h6 ay=>?_
  ·simp only[V6,M9,D5,H8,C1]
   exact ai.reads rfl
  ·rw[B4,A0X,B9]
   simp only[B4,B7] at iA
   omega
  simp only[D3,E6,V0]
  refine .mk (done++[kv],t1++t2) (by simp) ⟨?_,?_⟩
  ·refine List.Perm.trans ?_ hp
   simp only[D4]
   refine Q3 done ?_
   show(kv::(t1++t2)).Perm _
   exact P7.symm
  ·have e:es++A0X p (done++[kv])=es++A0X p done++[(kv.1,A5I p,kv.2)]:=by simp[A0X]
   rw[e]
   exact(ay.re [1,2,0]).drop
end
section
open Go.H Go.Proofs
variable {h h0:Heap} {R:List Asn}
def A1W(N:Nds):Path→Path→Bool→List Ent
 |p,left,d=>match W0 N p with
  |none=>[]
  |some _=>(if d=true then[] else A4a N (p++[o3]))++match left with
   |[]=>A4a N p
   |x::r=>(if d=true then[] else A1W N (p++[r6]) r false)++A1W N (p++[x]) r false
 termination_by p left d=>left.length
theorem A35{N:Nds}{p left:Path}{d:Bool}(h:W0 N p=none):A1W N p left d=[]:=by
 unfold A1W;rw[h]
theorem A7g{N:Nds}{p:Path}{nd:Nd}{d:Bool}(h:W0 N p=some nd):A1W N p [] d=(if d=true then[] else A4a N (p++[o3]))++A4a N p:=by
 unfold A1W;rw[h]
theorem A5E{N:Nds}{p r:Path}{x:B3O}{nd:Nd}{d:Bool}(h:W0 N p=some nd):
  A1W N p (x::r) d=(if d=true then[] else A4a N (p++[o3]))++((if d=true then[] else A1W N (p++[r6]) r false)++A1W N (p++[x]) r false):=by
 rw[A1W,h]
theorem B90{rb:Nat}{N:Nds}(hT:A0b rb N){p:Path}{nd:Nd}(h:W0 N p=some nd)(x:B3O):(W0 nd.nx x).getD none=(W0 N (p++[x])).bind fun n=>o0 n:=by
 cases hg:W0 nd.nx x with
 |some v=>
  obtain⟨c,hc,rfl⟩:=hT.down _ _ _ _ h hg
  rw[hc]
  rfl
 |none=>
  cases hc:W0 N (p++[x]) with
  |none=>rfl
  |some c=>
   obtain⟨n0,h1,h2⟩:=hT.up _ _ _ hc
   rw[h] at h1
   cases h1
   rw[hg] at h2
   cases h2
theorem B8a{s:Slc}{Q:Value→Heap→Prop}(hle:s.len≤s.cap)(hq:Q (.slice (j9 s 0 s.len s.len 1).a (j9 s 0 s.len s.len 1).len (j9 s 0 s.len s.len 1).cap) h):
  V2 prog 128 #[.slice s.a s.len s.cap] h Q:=by
 refine B0U s h Q ?_
 delta B3n bn pu
 exact⟨0,s.len,s.len,⟨rfl,hle⟩,⟨rfl,D6 _⟩,rfl,hq⟩
theorem A5Q{A:Asn}{s:Slc}{p:Path}{x:B3O}(hr:Z5 eS 1 h s p)(hc:s.cap=s.len)(fb:p.length≤100000){b:Nat}{L:List Asn}(hs:sat h (cells b #[.string x]::L)){Q:Slc→Heap→Prop}
  (hq:∀s' h',sat h' (U4 eS 1 s' (p++[x])::cells b #[.string x]::L)→Q s' h'):
  HM.append 9 1 16 #[.string (ByteArray.mk #[])] s 1 (V6 1 (⟨some ⟨b,0,none⟩,1,1⟩)) h Q:=by
 refine C0P (ys:=[x]) A1C B4C rfl hs hr hc rfl ?_ (by decide) (by decide) (by decide) (by omega) hq
 simp only[V6,M9,D5,H8,C1]
 exact hs.reads rfl
def C2q(N:Nds):Prop:=∀p nd,W0 N p=some nd→nd.q≠[]→p≠[]∧(A5I p).size≤100000
theorem B5U{N:Nds}{p:Path}{nd:Nd}(h:W0 N p=some nd):A4a N p=A0X p nd.q:=by unfold A4a;rw[h]
theorem C1C{rb:Nat}{N:Nds}(hT:A0b rb N)(hG:C2q N):∀(n:Nat) (left p:Path) (_:left.length=n) {A:Asn} {s1 s2 out:Slc} {d:Bool} {es:List Ent} {h:Heap} {R:List Asn} (fb:p.length+left.length≤1000)
  (oV:∀{h':Heap} {R':List Asn},sat h' (A::R')→Z5 eS 1 h' s1 p) (lN:∀{h':Heap} {R':List Asn},sat h' (A::R')→Z5 eS 1 h' s2 left)
  (hs:sat h (o7 N::U4 Z9 3 out es::A::R)) (hb:es.length+(A1W N p left d).length≤100000) {Q:Value→Heap→Prop}
  (hq:∀out' l h',l.Perm (A1W N p left d)→sat h' (o7 N::U4 Z9 3 out' (es++l)::A::R)→Q (.slice out'.a out'.len out'.cap) h'),
  V2 prog 125 #[.pointer ((W0 N p).bind fun nd=>o0 nd),.slice s1.a s1.len s1.cap,.slice s2.a s2.len s2.cap,.bool d,.slice out.a out.len out.cap] h Q:=by
 intro n
 induction n using Nat.strongRecOn with
 |_ n ih=>
 intro left p jU A s1 s2 out d es h R fb oV lN hs hb Q hq
 refine A6d _ s1 s2 d out h Q ?_
 delta A5p az bn cc ie ix km lt nn nw pu rq ve vs
 rw[U6]
 cases hg:W0 N p with
 |none=>
  rw[if_pos (by rfl)]
  rw[A35 hg] at hq
  exact hq out [] h (I9 _) (by rw[C1];exact hs)
 |some nd=>
 rw[if_neg (by simp)]
 have fr:=oV hs.p2
 refine U5 (B8a fr.2.1 ⟨_,rfl,?_⟩)
 refine⟨_,rfl,some nd.nm,by rw[U2];exact(u9 hg hs).2,?_⟩
 (try dsimp only);rw[U0]
 refine A6F (x:=o3) hg hs ?_
 rw[B90 hT hg]
 refine V3 (fun z h'=>h'=h∧z.1=((W0 N (p++[o3])).isSome&& !d)) ?_ ?_
 ·(try dsimp only);rw[U6]
  cases W0 N (p++[o3]) with
  |none=>rw[if_neg (by simp)];exact⟨rfl,rfl⟩
  |some c=>rw[if_pos (by rfl)];exact⟨rfl,rfl⟩
 rintro⟨x5,⟨⟩⟩ h1 ⟨rfl,uw⟩
 simp only at uw
 subst uw
 have fT:es.length+(if d=true then[] else A4a N (p++[o3])).length≤100000:=by
  cases left with
  |nil=>rw[A7g hg,B4] at hb;omega
  |cons x r=>rw[A5E hg,B4] at hb;omega
 refine V3 (fun z h'=>∃l1,l1.Perm (if d=true then[] else A4a N (p++[o3]))∧sat h' (o7 N::U4 Z9 3 z.1 (es++l1)::A::R)) ?_ ?_
 ·(try dsimp only);rw[U6]
  cases hh:W0 N (p++[o3]) with
  |none=>
   rw[if_neg (by simp)]
   refine⟨[],?_,by rw[C1];exact hs⟩
   have:A4a N (p++[o3])=[]:=by unfold A4a;rw[hh]
   rw[this]
   split<;>exact I9 _
  |some c=>
   cases d with
   |true=>
    rw[if_neg (by simp)]
    exact⟨[],by simp,by rw[C1];exact hs⟩
   |false=>
    rw[if_pos (by rfl)]
    refine V4 hs fun x7 h2 ae=>?_
    (try dsimp only);rw[U0]
    refine A5Q (A:=A) (oV ae.p3).clip rfl (by omega) ae fun s8 h3 aj=>?_
    have bo:sat h3 (o7 N::U4 Z9 3 out es::star (U4 eS 1 s8 (p++[o3])) A::cells x7 #[.string o3]::R):=(sat.aI.2 (aj.re [0,4,1,2,3])).re [2,3,0,1]
    have e0:((some c:Option Nd).bind fun nd=>o0 nd)=o0 c:=rfl
    rw[B5U hh] at fT⊢
    refine U5 (B2g hh (fun ed=>hG _ _ hh ed) (by rw[B4];simp;omega) (fun af=>(sat.aI.1 af).aO A1C) bo (by simpa[A0X] using fT) fun o' l h4 hl ak=>⟨o',rfl,?_⟩)
    refine⟨l,by simpa using hl,?_⟩
    have h5:=sat.aI.1 (ak.re [2,0,1,3])
    exact(h5.re [0,4,2,3,1]).drop.drop
 clear hs fT
 rintro⟨o1,⟨⟩⟩ h2 ⟨l1,oE,aa⟩
 simp only at aa
 have fc:=oE.length_eq
 have fg:s2.len=left.length:=(lN aa.p2).1
 (try dsimp only);rw[U6]
 cases left with
 |nil=>
  rw[if_pos (by simp[fg])]
  rw[A7g hg] at hq hb
  rw[B5U hg] at hq hb
  rw[B4] at hb
  have dw:(es++l1).length+nd.q.length≤100000:=by
   rw[B4,fc]
   simp only[A0X,B9] at hb
   omega
  refine U5 (B2g (A:=A) hg (hG _ _ hg) (by omega) (fun af=>(oV af).clip) aa dw fun o' l h3 hl aj=>⟨o',rfl,?_⟩)
  exact hq o' (l1++l) h3 (oE.append hl) (by rw[←D4];exact aj)
 |cons x r=>
  rw[if_neg (by simp[fg];omega)]
  rw[A5E hg] at hq hb
  simp only[B4,B7] at hb fb jU
  have bp:∀(y:B3O) {h':Heap} {R':List Asn} {Q':C9u×Bool→Heap→Prop},sat h' (o7 N::R')→Q' ((W0 N (p++[y])).bind fun n=>o0 n,(W0 nd.nx y).isSome) h'→
    HM.lookup (Instr.sameNow .string) (.pointer none) (.one .ptr) (some nd.nm) (.string y) h' Q':=fun y h' R' Q' af ed=>A6F hg af (by rw[B90 hT hg];exact ed)
  have nH:∀{h':Heap} {R':List Asn},sat h' (o7 N::R')→V9 h' ⟨nd.b,1,none⟩=some (.map (some nd.nm)):=fun af=>(u9 hg af).2
  refine V3 (fun z h'=>∃l2,l2.Perm (if d=true then[] else A1W N (p++[r6]) r false)∧sat h' (o7 N::U4 Z9 3 z.1 (es++l1++l2)::A::R)) ?_ ?_
  ·(try dsimp only);rw[U6]
   cases d with
   |true=>
    rw[if_neg (by simp)]
    exact⟨[],by simp,by rw[C1];exact aa⟩
   |false=>
    rw[if_pos (by rfl)]
    refine⟨_,rfl,some nd.nm,by rw[U2];exact nH aa,?_⟩
    (try dsimp only);rw[U0]
    refine bp r6 aa ?_
    (try dsimp only);rw[U0]
    refine A98 (lN aa.p2) ?_
    refine V4 aa fun mm h3 aj=>?_
    (try dsimp only);rw[U0]
    refine bp r6 aj.p1 ?_
    refine⟨rfl,some nd.nm,by rw[U2];exact nH aj.p1,rfl,?_⟩
    (try dsimp only);rw[U0]
    refine A5Q (A:=A) (oV aj.p3).clip rfl (by omega) aj fun s8 h4 ak=>?_
    (try dsimp only);rw[U0]
    refine bp r6 ak.p2 ?_
    refine⟨rfl,some nd.nm,by rw[U2];exact nH ak.p2,rfl,?_⟩
    have bq:sat h4 (o7 N::U4 Z9 3 o1 (es++l1)::star (U4 eS 1 s8 (p++[r6])) A::cells mm #[.string r6]::R):=(sat.aI.2 (ak.re [0,4,1,2,3])).re [2,3,0,1]
    refine U5 (ih r.length (by omega) r (p++[r6]) rfl (by simp;omega) (fun af=>(sat.aI.1 af).aO A1C) (fun af=>(lN (sat.aI.1 af).p1).tail) bq (by rw[B4,fc];simp at hb⊢;omega) fun o' l h5 hl ai=>⟨o',rfl,?_⟩)
    refine⟨l,by simpa using hl,?_⟩
    have h6:=sat.aI.1 (ai.re [2,0,1,3])
    exact(h6.re [0,4,2,3,1]).drop.drop
  clear aa
  rintro⟨o2,⟨⟩⟩ h3 ⟨l2,rk,ae⟩
  simp only at ae
  have kQ:=rk.length_eq
  refine⟨_,rfl,some nd.nm,by rw[U2];exact nH ae,?_⟩
  (try dsimp only);rw[U0]
  obtain⟨a0,vA,-⟩:=(lN ae.p2).2.2 0 x rfl
  have dm:∀{h':Heap} {R':List Asn},sat h' (A::R')→V9 h' (a0.add ((0:Int).toNat*1))=some (.string x):=fun af=>by
   obtain⟨a1,e1,e2⟩:=(lN af).2.2 0 x rfl
   rw[vA] at e1
   cases e1
   exact e2 0 _ rfl
  have ig:∀{h':Heap} {Q':Addr→Heap→Prop},Q' (a0.add ((0:Int).toNat*1)) h'→A4q s2.a s2.len 0 1 h' Q':=fun ed=>⟨a0,vA,S5 _,by rw[fg];simp,ed⟩
  refine ig ?_
  refine⟨x,dm ae.p2,?_⟩
  (try dsimp only);rw[U0]
  refine bp x ae ?_
  (try dsimp only);rw[U0]
  refine ig ?_
  refine⟨x,dm ae.p2,?_⟩
  (try dsimp only);rw[U0]
  refine A98 (lN ae.p2) ?_
  refine V4 ae fun pg h4 aj=>?_
  (try dsimp only);rw[U0]
  refine bp x aj.p1 ?_
  refine⟨rfl,x,dm aj.p3,rfl,some nd.nm,by rw[U2];exact nH aj.p1,rfl,?_⟩
  (try dsimp only);rw[U0]
  refine A5Q (A:=A) (oV aj.p3).clip rfl (by omega) aj fun s8 h5 ak=>?_
  (try dsimp only);rw[U0]
  refine bp x ak.p2 ?_
  refine⟨rfl,x,dm ak.p4,rfl,some nd.nm,by rw[U2];exact nH ak.p2,rfl,?_⟩
  have bq:sat h5 (o7 N::U4 Z9 3 o2 (es++l1++l2)::star (U4 eS 1 s8 (p++[x])) A::cells pg #[.string x]::R):=(sat.aI.2 (ak.re [0,4,1,2,3])).re [2,3,0,1]
  refine U5 (ih r.length (by omega) r (p++[x]) rfl (by simp;omega) (fun af=>(sat.aI.1 af).aO A1C) (fun af=>(lN (sat.aI.1 af).p1).tail) bq (by rw[B4,B4,fc,kQ];omega) fun o' l h6 hl ai=>⟨o',rfl,?_⟩)
  refine hq o' (l1++(l2++l)) h6 (oE.append (rk.append hl)) ?_
  have h7:=sat.aI.1 (ai.re [2,0,1,3])
  have h8:sat h6 (o7 N::U4 Z9 3 o' (es++l1++l2++l)::A::R):=(h7.re [0,4,2,3,1]).drop.drop
  rw[D4,D4] at h8
  exact h8
end
end Go.Proofs.YtidlldnlphdhcaaGreatDoor
namespace Go.H
section
variable {α:Type} {f:α→Asn} {h:Heap}
theorem B6v{l l':List α}(hp:l.Perm l'):∀{R:List Asn},sat h (a7 f l::R)→sat h (a7 f l'::R):=by
 induction hp with
 |nil=>exact fun hs=>hs
 |cons x _ ih=>exact fun hs=>k8.2 (ih (k8.1 hs).p1).p1
 |swap x y l=>
  intro R hs
  have h1:=k8.1 hs
  have h2:=k8.1 h1.p1
  exact k8.2 ((k8.2 (h2.re [2,1,0])).p1)
 |trans _ _ sr sq=>exact fun hs=>sq (sr hs)
theorem B15:∀{a b:List α} {R:List Asn},sat h (a7 f (a++b)::R)↔sat h (a7 f a::a7 f b::R)
 |[],b,R=>A2u.symm
 |x::a,b,R=>by
  rw[G4,k8]
  constructor
  ·intro hs
   exact k8.2 ((B15.1 hs.p1).re [2,0,1])
  ·intro hs
   have h1:=k8.1 hs
   exact(B15.2 (h1.re [1,2,0])).p1
end
theorem A8I{α β:Type}{l:List α}{f g:α→List β}(h:∀a∈l,f a=g a):l.flatMap f=l.flatMap g:=by
 induction l with
 |nil=>rfl
 |cons a l ih=>rw[D5,D5,h a (B5 ..),ih fun b hb=>h b (C2 _ hb)]
def preB:List B3O→List B3O→Bool
 |[],_=>true
 |_::_,[]=>false
 |x::p,y::q=>decide (x=y)&&preB p q
theorem A30:∀{p q:List B3O},preB p q=true↔p<+:q
 |[],q=>by simp[preB]
 |x::p,[]=>by simp[preB]
 |x::p,y::q=>by
  rw[preB,E8,A30 (p:=p) (q:=q),List.cons_prefix_cons]
  simp
theorem B7z{α K:Type}[DecidableEq K](g:α→K):∀(L:List α) (ks:List K),ks.Nodup→(∀a∈L,g a∈ks)→L.Perm (ks.flatMap fun k=>L.filter fun a=>decide (g a=k))
 |[],ks,_,_=>by
  have:(ks.flatMap fun k=>([]:List α).filter fun a=>decide (g a=k))=[]:=by simp
  rw[this]
 |a::L,ks,hn,hg=>by
  have ih:=B7z g L ks hn (fun b hb=>hg b (C2 _ hb))
  refine(ih.cons a).trans ?_
  have key:∀ks:List K,ks.Nodup→g a∈ks→(a::ks.flatMap fun k=>L.filter fun a=>decide (g a=k)).Perm (ks.flatMap fun k=>(a::L).filter fun a=>decide (g a=k)):=by
   intro ks
   induction ks with
   |nil=>intro _ h;simp at h
   |cons k ks ih=>
    intro hn hm
    rw[F7] at hn
    rw[D5,D5]
    by_cases e:g a=k
    ·have h1:(a::L).filter (fun a=>decide (g a=k))=a::L.filter (fun a=>decide (g a=k)):=by rw[H5,if_pos (by simpa using e)]
     have h2:(ks.flatMap fun k=>(a::L).filter fun a=>decide (g a=k))=ks.flatMap fun k=>L.filter fun a=>decide (g a=k):=by
      refine A8I fun k' gV=>?_
      rw[H5,if_neg]
      intro e'
      have e2:g a=k':=by simpa using e'
      exact hn.1 (by rw[←e,e2];exact gV)
     rw[h1,h2]
     exact I9 _
    ·have h1:(a::L).filter (fun a=>decide (g a=k))=L.filter (fun a=>decide (g a=k)):=by rw[H5,if_neg (by simpa using e)]
     rw[h1]
     have kP:g a∈ks:=by
      rcases D7.1 hm with e'|h
      ·exact absurd e' e
      ·exact h
     refine List.Perm.trans ?_ ((ih hn.2 kP).append_left _)
     exact P7.symm
  exact key ks hn (hg a (B5 ..))
end Go.H
namespace Go.Proofs.YtidlldnlphdhcaaGreatDoor
open Go.H
open Go.Proofs.Tryz
open Go.H Go.Proofs
variable {h h0:Heap} {R:List Asn}
def below(N:Nds)(p:Path):Nds:=N.filter fun q=>preB p q.1
def A03(N:Nds):List Ent:=N.flatMap fun q=>A0X q.1 q.2.q
theorem B0E(N:Nds):below N []=N:=by
 unfold below
 rw[H0]
 intro q _
 rfl
theorem A8A{K V:Type}[DecidableEq K](c:K→Bool):∀(l:List (K×V)) (k:K),W0 (l.filter fun q=>c q.1) k=if c k=true then W0 l k else none
 |[],k=>by simp
 |(a,b)::l,k=>by
  rw[H5]
  by_cases e:c a=true
  ·rw[if_pos e,Y5,Y5,A8A c l k]
   by_cases e':a=k
   ·subst e';rw[if_pos rfl,if_pos rfl,if_pos e]
   ·rw[if_neg e',if_neg e']
  ·rw[if_neg e,Y5,A8A c l k]
   by_cases e':a=k
   ·subst e';rw[if_neg e,if_neg e]
   ·rw[if_neg e']
theorem C1A(N:Nds)(p p':Path):W0 (below N p) p'=if preB p p'=true then W0 N p' else none:=A8A (fun q=>preB p q) N p'
theorem B6x{rb:Nat}{N:Nds}(hT:A0b rb N){p:Path}{nd:Nd}{l1 l2:Nds}(he:below N p=l1++(p,nd)::l2)(x:B3O):(l1++l2).filter (fun q=>preB (p++[x]) q.1)=below N (p++[x]):=by
 have h1:(below N p).filter (fun q=>preB (p++[x]) q.1)=below N (p++[x]):=by
  unfold below
  rw[R4]
  refine K7 fun q _=>?_
  cases hq:preB (p++[x]) q.1 with
  |false=>simp
  |true=>
   have h2:(p++[x])<+:q.1:=A30.1 hq
   have h3:preB p q.1=true:=A30.2 ((List.prefix_append p [x]).trans h2)
   simp[h3]
 rw[←h1,he,E9,E9,H5,if_neg]
 intro hq
 exact C2Q p x (A30.1 hq)
theorem C0I{rb:Nat}{N:Nds}(hT:A0b rb N){p:Path}{nd:Nd}(hp:W0 N p=some nd)(hk:(nd.nx.map (·.1)).Nodup){l1 l2:Nds}(he:below N p=l1++(p,nd)::l2):
  (l1++l2).Perm (nd.nx.flatMap fun kv=>below N (p++[kv.1])):=by
 have au:((below N p).map (·.1)).Nodup:=by
  have:((below N p).map (·.1)).Sublist (N.map (·.1)):=(I1 ..).map _
  exact this.nodup hT.keys
 have an:∀q∈l1++l2,q∈N∧∃x r,q.1=p++x::r:=by
  intro q hq
  have hb:q∈below N p:=by
   rw[he]
   rcases C7.1 hq with h|h
   ·exact K8 _ h
   ·exact G5 _ (C2 _ h)
  obtain⟨h1,h2⟩:=E7.1 hb
  obtain⟨r,hr⟩:=A30.1 h2
  refine⟨h1,?_⟩
  cases r with
  |cons x r=>exact⟨x,r,hr.symm⟩
  |nil=>
   exfalso
   rw[C1] at hr
   rw[he,B8,B6,G0,F7] at au
   rcases C7.1 hq with h|h
   ·exact au.2.2 _ (B3 h) _ (B5 ..) hr.symm
   ·exact au.2.1.1 (E4.2 ⟨q,h,hr.symm⟩)
 have nF:=B7z (fun q:Path×Nd=>(q.1.drop p.length).head?) (l1++l2) ((nd.nx.map (·.1)).map some) (by
  refine List.Pairwise.map _ (fun a b dp e=>dp (Option.some.inj e)) hk) (fun q hq=>by
   obtain⟨hN,x,r,ra⟩:=an q hq
   have uS:=A2N hT.keys hN
   have e:q.1=(p++[x])++r:=by rw[ra];simp
   rw[e] at uS
   obtain⟨c,hc⟩:=hT.pre _ _ _ uS
   obtain⟨n0,h1,h2⟩:=hT.up _ _ _ hc
   rw[hp] at h1
   cases h1
   have h3:=A42 h2
   rw[ra]
   simp only[List.drop_left,List.head?_cons]
   exact B3 (E4.2 ⟨_,h3,rfl⟩))
 refine nF.trans ?_
 rw[F0,List.flatMap_map]
 have:(nd.nx.flatMap fun kv=>(l1++l2).filter fun q=>decide ((q.1.drop p.length).head?=some kv.1))=nd.nx.flatMap fun kv=>below N (p++[kv.1]):=by
  refine A8I fun kv _=>?_
  rw[←B6x hT he kv.1]
  refine K7 fun q hq=>?_
  obtain⟨hN,x,r,ra⟩:=an q hq
  rw[ra]
  simp only[List.drop_left,List.head?_cons,F3]
  by_cases e:x=kv.1
  ·have:preB (p++[kv.1]) (p++x::r)=true:=A30.2 ⟨r,by simp[e]⟩
   rw[this]
   simp[e]
  ·have:preB (p++[kv.1]) (p++x::r)=false:=by
    cases hb:preB (p++[kv.1]) (p++x::r) with
    |false=>rfl
    |true=>
     obtain⟨s,hs⟩:=A30.1 hb
     rw[D4] at hs
     have:=Q7 hs
     simp at this
     exact absurd this.1.symm e
   rw[this]
   simp[e]
 exact List.Perm.of_eq this
theorem C1X{N N':Nds}(h:N.Perm N'):(A03 N).Perm (A03 N'):=h.flatMap_right _
theorem C36(N N':Nds):A03 (N++N')=A03 N++A03 N':=I5 ..
theorem C1Y{K:Type}(l:List K)(f:K→Nds):A03 (l.flatMap f)=l.flatMap fun k=>A03 (f k):=by
 unfold A03
 rw[List.flatMap_assoc]
theorem C4i{N:Nds}{p:Path}{nd:Nd}{l1 l2:Nds}(he:below N p=l1++(p,nd)::l2)(x:B3O)(hx:(l1++l2).filter (fun q=>preB (p++[x]) q.1)=below N (p++[x])):(below N (p++[x])).length<(below N p).length:=by
 rw[←hx,he]
 have:=D1 (fun q:Path×Nd=>preB (p++[x]) q.1) (l1++l2)
 simp only[B4,B7] at this⊢
 omega
theorem C5Q{rb:Nat}{N:Nds}(hT:A0b rb N)(hG:C2q N){yv:Value}{J:List Ent→Asn}
  (hY:∀(l:List Ent) (e:Ent) {h:Heap} {R:List Asn} {Q:Unit→Heap→Prop},l.length≤100000→sat h (J l::R)→(∀h',sat h' (J (l++[e])::R)→Q () h')→C3b prog [] yv #[.agg #[.int .i64 e.1,.string e.2.1,.int .i64 e.2.2]] h Q):
  ∀(n:Nat) (p:Path) (nd:Nd) (_:(below N p).length=n) (_:W0 N p=some nd) {A:Asn} {s:Slc} {l:List Ent} {h:Heap} {R:List Asn}
  (_:∀{h':Heap} {R':List Asn},sat h' (A::R')→Z5 eS 1 h' s p) (_:sat h (o7 (below N p)::J l::A::R)) (_:l.length+(A03 (below N p)).length≤100000) {Q:Value→Heap→Prop}
  (_:∀l' h',l'.Perm (A03 (below N p))→sat h' (o7 (below N p)::J (l++l')::A::R)→Q (.tuple #[]) h'),
  V2 prog 82 #[.pointer (o0 nd),.slice s.a s.len s.cap,yv] h Q:=by
 intro n
 induction n using Nat.strongRecOn with
 |_ n ih=>
 intro p nd jU au A s l h R aM hs hb Q hq
 have fb:=hT.short p nd au
 refine A76 (o0 nd) s yv h Q ?_
 delta A7P az bn cc cx ie ix km nn nw pu sn ve vi vs vz wi
 have hr:=aM hs.p2
 have qd:W0 (below N p) p=some nd:=by rw[C1A,if_pos (A30.2 (List.prefix_refl _))];exact au
 refine U5 (B8a hr.2.1 ⟨_,rfl,?_⟩)
 obtain⟨l1,l2,he,oG⟩:=B0p qd
 have uU:(A0X p nd.q).length≤(A03 (below N p)).length:=by
  have:A03 (l1++(p,nd)::l2)=A03 l1++(A0X p nd.q++A03 l2):=by unfold A03;rw[I5,D5]
  rw[he,this,B4,B4]
  omega
 have wL:nd.q.length=(A0X p nd.q).length:=by simp[A0X]
 refine U5 (B2g (A:=star (J l) A) (es:=[]) qd (hG _ _ au) (by omega) (fun af=>(aM (sat.aI.1 af).p1).clip) (out:=⟨none,0,0⟩) ((sat.aI.2 (Z3 hs|>.re [2,3,0,1])).re [2,1,0]) (by simp only[G8];omega) fun o' es h1 oE bx=>⟨o',rfl,?_⟩)
 have aa:sat h1 (J l::o7 (below N p)::U4 Z9 3 o' es::A::R):=by
  have h2:=sat.aI.1 (bx.re [2,0,1])
  exact h2.re [0,2,3,1]
 clear bx hs
 have xn:es.length=nd.q.length:=by rw[oE.length_eq,wL]
 have fN:=aa.p2.aW
 have nF:(A03 (below N p)).Perm (es++nd.nx.flatMap fun kv=>A03 (below N (p++[kv.1]))):=by
  obtain⟨h1,h2⟩:=A6E qd aa.p1
  have e1:=C1X (C0I hT au h2 he)
  rw[C1Y] at e1
  have e2:A03 (below N p)=A03 l1++(A0X p nd.q++A03 l2):=by rw[he];unfold A03;rw[I5,D5]
  rw[e2]
  refine List.Perm.trans ?_ (oE.symm.append e1)
  rw[C36,←D4,←D4]
  exact List.perm_append_comm.append_right _
 have lC:=nF.length_eq
 rw[B4] at lC
 refine V3 (fun _ h'=>sat h' (J (l++es)::o7 (below N p)::A::R)) ?_ ?_
 ·refine l6 (γ:=Nat) (hb:=fun s=>by
    repeat' with_reducible first
     |refine @A0n _ _ _ _ ?_ (fun _=>?_)
     |refine @A0V _ _ _ _ ?_ ?_
     |refine @A1U _ _ _ ?_
    all_goals infer_instance)
   (fun g x h'=>g≤es.length∧x.1=(g:Int)∧sat h' (J (l++es.take g)::o7 (below N p)::U4 Z9 3 o' es::A::R)) (fun g=>es.length-g) 0
   ⟨C9 _,rfl,by simpa using aa⟩ ?_
  clear aa
  rintro i ⟨ci,⟨⟩⟩ h2 ⟨hi,bR,ae⟩
  simp only at hi bR ae
  subst bR
  have next:IntKind.wrap .i64 ((i:Int)+1)=((i+1:Nat):Int):=by rw[V5 (by omega) (by omega)];rfl
  simp only[U6,decide_eq_true_eq]
  by_cases ah:i<es.length
  ·rw[if_pos (by omega),U0]
   have hx:=B0 ah
   generalize es[i]=e at hx
   refine X6 (ae.p2.aO A0J) hx fun a ha=>?_
   refine A0j (ts:=[.int .i64,.str,.int .i64]) (e.1,e.2.1,e.2.2,()) (fun j v hv=>ha j v hv) ?_
   refine V4 ae fun x7 h3 aj=>?_
   (try dsimp only);rw[U0]
   refine l0 aj rfl rfl fun h4 ak=>?_
   refine Y4 (ts:=[.int .i64,.str,.int .i64]) (e.1,e.2.1,e.2.2,()) ak rfl ?_
   (try dsimp only);rw[U0]
   refine hY (l++es.take i) e (by simp only[B4,E1];omega) ak.p1 fun h5 ai=>?_
   simp only[D3,E6,V0]
   refine .mk (i+1) (by omega) ⟨by omega,next,?_⟩
   have e1:l++es.take (i+1)=l++es.take i++[e]:=by rw[H7,hx];simp
   rw[e1]
   exact(ai.re [1,0,2,3,4]).drop
  ·rw[if_neg (by omega)]
   have:i=es.length:=by omega
   subst this
   rw[F5] at ae
   exact(ae.re [2,0,1,3]).drop
 clear aa fN
 rintro⟨ci,⟨⟩⟩ h2 ae
 refine⟨_,rfl,some nd.nm,by rw[U2];exact(u9 qd ae.p1).2,?_⟩
 have pY:∀{h':Heap} {R':List Asn},sat h' (o7 (below N p)::R')↔sat h' (cells nd.b #[.map (some nd.qm),.map (some nd.nm)]::mapA A05 A1u nd.qm nd.q::mapA A9B B0x nd.nm nd.nx::a7 (fun p:Path×Nd=>ndA p.2) (l1++l2)::R'):=by
  intro h' R'
  rw[he]
  exact⟨fun af=>B1A.1 (j2.1 af),fun af=>j2.2 (B1A.2 af)⟩
 have hk:=(A6E qd ae.p1).2
 have aj:sat h2 (mapA A9B B0x nd.nm nd.nx::J (l++es)::A::cells nd.b #[.map (some nd.qm),.map (some nd.nm)]::mapA A05 A1u nd.qm nd.q::a7 (fun p:Path×Nd=>ndA p.2) (l1++l2)::R):=(pY.1 ae.p1).re [2,4,5,0,1,3]
 clear ae
 (try dsimp only);rw[U0]
 refine A8Y aj fun it h3 ak=>?_
 clear aj
 refine l6 (γ:=List (B3O×C9u)×List (B3O×C9u)×List Ent) (hb:=fun s=>by
   repeat' with_reducible first
    |refine @A0n _ _ _ _ ?_ (fun _=>?_)
    |refine @B96 _ _ _ _ _ ?_ (fun _=>?_)
    |refine @A0V _ _ _ _ ?_ ?_
    |refine @A1U _ _ _ ?_
   all_goals infer_instance)
  (fun g x h'=>(g.1++g.2.1).Perm nd.nx∧g.2.2.Perm (g.1.flatMap fun kv=>A03 (below N (p++[kv.1])))∧
   sat h' (itA A9B B0x nd.nm nd.nx it g.1 g.2.1::J (l++es++g.2.2)::A::cells nd.b #[.map (some nd.qm),.map (some nd.nm)]::mapA A05 A1u nd.qm nd.q::a7 (fun p:Path×Nd=>ndA p.2) (l1++l2)::R))
  (fun g=>g.2.1.length) ([],nd.nx,[]) ⟨I9 _,I9 _,by simpa using ak⟩ ?_
 clear ak
 rintro⟨done,todo,L'⟩ ⟨⟩ h4 ⟨hp,hL,ak⟩
 simp only at hp hL ak
 rw[U0]
 refine B1z ak (fun h0=>?_) (fun kv t1 t2 ht h5 ai=>?_)
 ·subst h0
  (try dsimp only);rw[B9X,U6,if_neg (by simp)]
  simp only[D3,E6,V0]
  rw[C1] at hp
  refine hq (es++L') h4 ?_ ?_
  ·refine List.Perm.trans ?_ nF.symm
   exact(hL.trans (hp.flatMap_right _)).append_left es
  ·rw[←D4]
   have h5:=A89 ak
   exact pY.2 (h5.re [3,4,0,5,1,2])
 ·subst ht
  (try dsimp only);rw[B9W,U6,if_pos rfl]
  rw[U0]
  refine A9d (kk:=.one .str) (kv:=.one .ptr) (ek:=A9B) (ev:=B0x) (p:=kv) (x:=kv.1) (y:=kv.2) rfl rfl ai ?_
  have ry:kv∈nd.nx:=hp.mem_iff.1 (by simp)
  obtain⟨c,hc,xv⟩:=hT.down _ _ _ _ au (A2N hk ry)
  refine V4 ai fun mf h6 ay=>?_
  (try dsimp only);rw[U0]
  refine A5Q (A:=A) (aM ay.p3).clip rfl (by omega) ay fun s8 h7 aL=>?_
  have cn:=B6x hT he kv.1
  have ah:=C4i he kv.1 cn
  have sK:L'.length+(A03 (below N (p++[kv.1]))).length≤(nd.nx.flatMap fun kv=>A03 (below N (p++[kv.1]))).length:=by
   have h8:=(hp.flatMap_right (fun kv=>A03 (below N (p++[kv.1])))).length_eq
   rw[I5,I5,D5,B4,B4,B4,←hL.length_eq] at h8
   omega
  have bu:sat h7 (o7 (below N (p++[kv.1]))::J (l++es++L')::star (U4 eS 1 s8 (p++[kv.1])) A::a7 (fun p:Path×Nd=>ndA p.2) ((l1++l2).filter fun q=> !(preB (p++[kv.1]) q.1))::itA A9B B0x nd.nm nd.nx it (done++[kv]) (t1++t2)::cells nd.b #[.map (some nd.qm),.map (some nd.nm)]::mapA A05 A1u nd.qm nd.q::cells mf #[.string kv.1]::R):=by
   have h9:=aL.re [7,0,1,2,3,4,5,6]
   have fX:=B15.1 (B6v (List.filter_append_perm (fun q:Path×Nd=>preB (p++[kv.1]) q.1) (l1++l2)).symm h9)
   rw[cn] at fX
   have qQ:=sat.aI.2 (fX.re [2,6,0,1,3,4,5,7,8])
   exact qQ.re [1,5,0,2,4,6,7,3]
  rw[xv]
  refine u6 (ih _ (by omega) (p++[kv.1]) c rfl hc (fun af=>(sat.aI.1 af).aO A1C) bu (by rw[B4,B4];omega) fun l' h8 gU ff=>⟨(),rfl,?_⟩)
  simp only[D3,E6,V0]
  refine .mk (done++[kv],t1++t2,L'++l') (by simp) ⟨?_,?_,?_⟩
  ·refine List.Perm.trans ?_ hp
   simp only[D4]
   refine Q3 done ?_
   show(kv::(t1++t2)).Perm _
   exact P7.symm
  ·show(L'++l').Perm ((done++[kv]).flatMap _)
   rw[I5,D5,H8,C1]
   exact hL.append gU
  ·show sat h8 (_::J (l++es++(L'++l'))::_)
   rw[←D4]
   have h9:=sat.aI.1 (ff.re [2,0,1])
   have fX:sat h8 (a7 (fun p:Path×Nd=>ndA p.2) (below N (p++[kv.1]))::a7 (fun p:Path×Nd=>ndA p.2) ((l1++l2).filter fun q=> !(preB (p++[kv.1]) q.1))::itA A9B B0x nd.nm nd.nx it (done++[kv]) (t1++t2)::J (l++es++L'++l')::A::cells nd.b #[.map (some nd.qm),.map (some nd.nm)]::mapA A05 A1u nd.qm nd.q::R):=
    (h9.re [0,8,2,4,5,3,1,6,7]).drop.drop
   rw[←cn] at fX
   have qQ:=B6v (List.filter_append_perm (fun q:Path×Nd=>preB (p++[kv.1]) q.1) (l1++l2)) (B15.2 fX)
   exact qQ.re [1,2,3,4,5,0]
end Go.Proofs.YtidlldnlphdhcaaGreatDoor
namespace Go.H
open Go.Sort
section
variable {K V:Type} [DecidableEq K]
theorem A1x:∀{l:List (K×V)} {k:K},(l.map (·.1)).Nodup→mdel l k=l.filter fun p=>decide (p.1≠k)
 |[],_,_=>rfl
 |(a,b)::l,k,h=>by
  simp only[B6,F7] at h
  by_cases hk:a=k
  ·subst hk
   rw[mdel,if_pos rfl,F8 (by simp)]
   symm
   rw[H0]
   intro p hp
   simp only[ne_eq,decide_not,Bool.not_eq_eq_eq_not,N3,decide_eq_false_iff_not]
   rintro e
   exact h.1 (e▸B3 hp)
  ·rw[mdel,if_neg hk,G6 (by simpa using hk),A1x h.2]
theorem B2K:∀{l:List (K×V)} {k:K} {x:V},(mset l k x).Perm ((k,x)::mdel l k)
 |[],_,_=>I9 _
 |(a,b)::l,k,x=>by
  by_cases hk:a=k
  ·rw[mset,if_pos hk,mdel,if_pos hk]
  ·rw[mset,if_neg hk,mdel,if_neg hk]
   exact((B2K (l:=l)).cons _).trans (List.Perm.swap _ _ _)
theorem B1B{l:List (K×V)}(hn:(l.map (·.1)).Nodup){k:K}{v:V}:W0 l k=some v↔(k,v)∈l:=by
 constructor
 ·exact A42
 ·intro h
  induction l with
  |nil=>exact absurd h (by simp)
  |cons p l ih=>
   obtain⟨a,b⟩:=p
   simp only[B6,F7] at hn
   rw[Y5]
   rcases D7.1 h with e|h
   ·cases e;rw[if_pos rfl]
   ·rw[if_neg (fun e=>hn.1 (by subst e;exact B3 (f:=(·.1)) h)),ih hn.2 h]
variable (lt:K→K→Prop) [DecidableRel lt] (key:V→K)
def A2o(m:V):List V→List V
 |[]=>[m]
 |x::r=>if lt (key m) (key x) then m::x::r else x::A2o m r
theorem A1J(m:V):∀l:List V,(A2o lt key m l).Perm (m::l)
 |[]=>I9 _
 |x::r=>by
  unfold A2o
  split
  ·exact I9 _
  ·exact((A1J m r).cons _).trans (List.Perm.swap _ _ _)
structure Ord:Prop where
 eN:∀a,¬lt a a
 trans:∀{a b c},lt a b→lt b c→lt a c
 tri:∀a b,a=b∨lt a b∨lt b a
variable {lt key}
theorem B5F(ho:Ord lt){m:V}:∀{l:List V},l.Pairwise (fun a b=>lt (key a) (key b))→(∀x∈l,key x≠key m)→(A2o lt key m l).Pairwise (fun a b=>lt (key a) (key b))
 |[],_,_=>by simp[A2o]
 |x::r,h,hm=>by
  unfold A2o
  rw[I4] at h
  split
  ·rename_i ah
   rw[I4,I4]
   refine⟨fun y hy=>?_,h⟩
   rcases D7.1 hy with rfl|hy
   ·exact ah
   ·exact ho.trans ah (h.1 y hy)
  ·rename_i ah
   rw[I4]
   refine⟨fun y hy=>?_,B5F ho h.2 fun z hz=>hm z (C2 _ hz)⟩
   rcases D7.1 ((A1J lt key m r).mem_iff.1 hy) with rfl|hy
   ·rcases ho.tri (key x) (key y) with e|e|e
    ·exact absurd e (hm x (B5 ..))
    ·exact e
    ·exact absurd e ah
   ·exact h.1 y hy
variable (lt key)
structure Rel(l:List (K×V))(L:List V):Prop where
 kk:∀p∈l,key p.2=p.1
 nd:(l.map (·.1)).Nodup
 dE:L.Pairwise fun a b=>lt (key a) (key b)
 perm:(l.map (·.2)).Perm L
variable {lt key} {l:List (K×V)} {L:List V}
theorem Rel.nil:Rel lt key ([]:List (K×V)) []:=⟨by simp,by simp,by simp,by simp⟩
theorem Rel.len(h:Rel lt key l L):l.length=L.length:=by
 have:=h.perm.length_eq
 simpa using this
theorem Rel.mem(h:Rel lt key l L){k:K}{v:V}:(k,v)∈l↔v∈L∧key v=k:=by
 constructor
 ·intro hm
  exact⟨h.perm.mem_iff.1 (B3 (f:=(·.2)) hm),h.kk _ hm⟩
 ·rintro⟨hv,rfl⟩
  obtain⟨p,hp,rfl⟩:=E4.1 (h.perm.mem_iff.2 hv)
  have:=h.kk p hp
  rw[this]
  exact hp
theorem Rel.get(ho:Ord lt)(h:Rel lt key l L)(k:K):W0 l k=L.find? fun v=>decide (key v=k):=by
 have fx:=h.dE
 have hs:∀v,W0 l k=some v↔v∈L∧key v=k:=fun v=>(B1B h.nd).trans h.mem
 clear h
 have inj:∀{L:List V},L.Pairwise (fun a b=>lt (key a) (key b))→∀a∈L,∀b∈L,key a=key b→a=b:=by
  intro L hL
  induction L with
  |nil=>intro a ha;exact absurd ha (by simp)
  |cons x r ih=>
   rw[I4] at hL
   intro a ha b hb e
   rcases D7.1 ha with e1|iV
   ·rcases D7.1 hb with e2|qI
    ·rw[e1,e2]
    ·have:=hL.1 b qI;rw[←e1,e] at this;exact absurd this (ho.eN _)
   ·rcases D7.1 hb with e2|qI
    ·have:=hL.1 a iV;rw[←e2,e] at this;exact absurd this (ho.eN _)
    ·exact ih hL.2 a iV b qI e
 cases hf:L.find? fun v=>decide (key v=k) with
 |none=>
  rw[E3] at hf
  cases hg:W0 l k with
  |none=>rfl
  |some v=>obtain⟨h1,h2⟩:=(hs v).1 hg;exact absurd h2 (by simpa using hf v h1)
 |some v=>
  rw[hs]
  exact⟨G9 hf,by simpa using L9 hf⟩
theorem Rel.del(h:Rel lt key l L)(k:K):Rel lt key (mdel l k) (L.filter fun v=>decide (key v≠k)):=by
 rw[A1x h.nd]
 refine⟨fun p hp=>h.kk p (E7.1 hp).1,((I1 (l:=l)).map _).nodup h.nd,h.dE.filter _,?_⟩
 have e:(l.filter fun p=>decide (p.1≠k)).map (·.2)=(l.map (·.2)).filter fun v=>decide (key v≠k):=by
  rw[R6]
  congr 1
  refine K7 fun p hp=>?_
  simp only[Function.comp_apply,h.kk p hp]
 rw[e]
 exact h.perm.filter _
theorem Rel.set(ho:Ord lt)(h:Rel lt key l L)(x:V):Rel lt key (mset l (key x) x) (A2o lt key x (L.filter fun v=>decide (key v≠key x))):=by
 have hd:=h.del (key x)
 have hp:=B2K (l:=l) (k:=key x) (x:=x)
 refine⟨fun p di=>?_,?_,?_,?_⟩
 ·rcases D7.1 (hp.mem_iff.1 di) with rfl|hm
  ·rfl
  ·exact hd.kk p hm
 ·rw[(hp.map (·.1)).nodup_iff,B6,F7]
  refine⟨fun hm=>?_,hd.nd⟩
  obtain⟨p,iK,e⟩:=E4.1 hm
  rw[A1x h.nd] at iK
  have:=(E7.1 iK).2
  simp only[ne_eq,decide_not,Bool.not_eq_eq_eq_not,N3,decide_eq_false_iff_not] at this
  exact this e
 ·exact B5F ho hd.dE fun y hy=>by simpa using(E7.1 hy).2
 ·exact((hp.map (·.2)).trans ((List.Perm.cons _ hd.perm))).trans (A1J lt key x _).symm
theorem Rel.keys(h:Rel lt key l L):(l.map (·.1)).Perm (L.map key):=by
 have e:l.map (·.1)=(l.map (·.2)).map key:=by
  rw[F0]
  refine H9 fun p hp=>?_
  exact(h.kk p hp).symm
 rw[e]
 exact h.perm.map _
theorem Rel.fR(ho:Ord lt)(h:Rel lt key l L){v:V}(hv:v∈L):W0 l (key v)=some v:=
 (B1B h.nd).2 (h.mem.2 ⟨hv,rfl⟩)
end
def ltS(a b:B3O):Prop:=a.data.toList<b.data.toList
instance:DecidableRel ltS:=fun a b=>by unfold ltS;infer_instance
theorem C1w:Ord ltS where
 eN a:=List.lt_irrefl _
 trans h1 h2:=List.lt_trans h1 h2
 tri a b:=by
  unfold ltS
  by_cases h1:a.data.toList<b.data.toList
  ·exact .inr (.inl h1)
  ·by_cases h2:b.data.toList<a.data.toList
   ·exact .inr (.inr h2)
   ·left
    have:=List.le_antisymm (List.not_lt.1 h2) (List.not_lt.1 h1)
    cases a;cases b
    simp at this
    rw[this]
theorem toList_data(s:B3O):s.toList=s.data.toList:=by
 simp[ByteArray.toList_eq]
theorem B99(a b:B3O):Op.bytesLess a.toList b.toList=decide (ltS a b):=by
 rw[Go.Proofs.bytesLess_eq,toList_data,toList_data]
 rfl
theorem C3r{l l':List B3O}(hp:l.Perm l')(h:l'.Pairwise ltS):A5t l=l':=by
 unfold A5t
 rw[mergeSort_of_perm (hp.map (·.data.toList))]
 rw[List.mergeSort_of_pairwise]
 ·rw[F0]
  exact T4 _
 ·rw[P4]
  refine h.imp fun dp=>?_
  simpa using List.le_of_lt dp
theorem Rel.sorted{V:Type}{key:V→B3O}{l:List (B3O×V)}{L:List V}(h:Rel ltS key l L):A5t (l.map (·.1))=L.map key:=
 C3r h.keys (by rw[P4];exact h.dE)
end Go.H
namespace Go.Proofs.YtidlldnlphdhcaaGreatDoor
open Go.H
open Go.Proofs.Tryz
open Go.H Go.Proofs
abbrev b8(e:Ent):Int×B3O:=(e.1,e.2.1)
def ltK(a b:Int×B3O):Prop:=a.1<b.1∨(a.1=b.1∧ltS a.2 b.2)
instance:DecidableRel ltK:=fun a b=>by unfold ltK;infer_instance
theorem A9s:Ord ltK where
 eN a h:=by
  rcases h with h|h
  ·omega
  ·exact C1w.eN _ h.2
 trans {a b c} h1 h2:=by
  rcases h1 with h1|h1<;>rcases h2 with h2|h2
  ·exact .inl (by omega)
  ·exact .inl (by omega)
  ·exact .inl (by omega)
  ·exact .inr ⟨h1.1.trans h2.1,C1w.trans h1.2 h2.2⟩
 tri a b:=by
  by_cases h1:a.1<b.1
  ·exact .inr (.inl (.inl h1))
  ·by_cases h2:b.1<a.1
   ·exact .inr (.inr (.inl h2))
   ·have e:a.1=b.1:=by omega
    rcases C1w.tri a.2 b.2 with h|h|h
    ·exact .inl (Prod.ext e h)
    ·exact .inr (.inl (.inr ⟨e,h⟩))
    ·exact .inr (.inr (.inr ⟨e.symm,h⟩))
abbrev Asc(L:List Ent):Prop:=L.Pairwise fun a b=>ltK (b8 a) (b8 b)
theorem Asc.key{L:List Ent}(h:Asc L){a b:Ent}(ha:a∈L)(hb:b∈L)(e:b8 a=b8 b):a=b:=by
 induction L with
 |nil=>simp at ha
 |cons x L ih=>
  rw[Asc,I4] at h
  rcases D7.1 ha with e1|h1
  ·rcases D7.1 hb with e2|h2
   ·rw[e1,e2]
   ·have:=h.1 b h2;rw[←e1,e] at this;exact absurd this (A9s.eN _)
  ·rcases D7.1 hb with e2|h2
   ·have:=h.1 a h1;rw[←e2,e] at this;exact absurd this (A9s.eN _)
   ·exact ih h.2 h1 h2
theorem Asc.nodup{L:List Ent}(h:Asc L):L.Nodup:=h.imp fun dp e=>by subst e;exact A9s.eN _ dp
theorem C0N:∀{ys zs:List Ent},ys.Perm zs→Asc zs→ys.Pairwise (fun a b=>¬ltK (b8 b) (b8 a))→ys=zs
 |[],zs,hp,_,_=>(List.nil_perm.1 hp).symm
 |y::ys,[],hp,_,_=>absurd hp.length_eq (by simp)
 |y::ys,z::zs,hp,hz,hy=>by
  have ow:=I4.1 hz
  have pB:=I4.1 hy
  have e:y=z:=by
   rcases D7.1 (hp.mem_iff.1 (B5 ..)) with e|h1
   ·exact e
   ·rcases D7.1 (hp.mem_iff.2 (B5 ..)) with e|h2
    ·exact e.symm
    ·exact absurd (ow.1 y h1) (pB.1 z h2)
  subst e
  rw[C0N (List.Perm.cons_inv hp) ow.2 pB.2]
structure A0Y(N:Nds)(L:List Ent):Prop where
 bQ:∀x∈L,X4 x.2.1=true
 dE:Asc L
 dH:∀p k q,ent N p k=some q↔∃f,levels f=p∧(k,f,q)∈L
theorem A7k{f f':B3O}(h:levels f=levels f'):f=f':=by rw[←A2Q f,h,A2Q]
theorem A0Y.get{N:Nds}{L:List Ent}(h:A0Y N L)(f:B3O)(k q:Int):ent N (levels f) k=some q↔(k,f,q)∈L:=by
 rw[h.dH]
 constructor
 ·rintro⟨f',e,hm⟩
  rw[A7k e] at hm
  exact hm
 ·exact fun hm=>⟨f,rfl,hm⟩
theorem A0Y.none{N:Nds}{L:List Ent}(h:A0Y N L)(f:B3O)(k:Int):ent N (levels f) k=none↔∀x∈L,b8 x≠(k,f):=by
 constructor
 ·intro hn x hx e
  have e1:x.1=k:=congrArg Prod.fst e
  have e2:x.2.1=f:=congrArg Prod.snd e
  have:(k,f,x.2.2)∈L:=by rw[←e1,←e2];exact hx
  rw[(h.get f k _).2 this] at hn
  cases hn
 ·intro hn
  cases he:ent N (levels f) k with
  |none=>rfl
  |some q=>exact absurd rfl (hn _ ((h.get f k q).1 he))
theorem A0Y.fO{N:Nds}{L:List Ent}(h:A0Y N L)(hk:∀p nd,W0 N p=some nd→(nd.q.map (·.1)).Nodup):C2q N:=by
 intro p nd hp hq
 obtain⟨kv,r,hr⟩:=N7 hq
 have h1:W0 nd.q kv.1=some kv.2:=A2N (hk p nd hp) (by rw[hr];exact B5 ..)
 have h2:ent N p kv.1=some kv.2:=by unfold ent;rw[hp];exact h1
 obtain⟨f,hf,hm⟩:=(h.dH _ _ _).1 h2
 have hg:=h.bQ _ hm
 subst hf
 refine⟨B2L f,?_⟩
 rw[A2Q]
 have:=A3y (A0u hg)
 simp only at this
 omega
def A02(L:List Ent)(k:Int):Nat:=(L.map (·.1)).count k
def A92(C:List (Int×Int))(L:List Ent):Prop:=∀k,W0 C k=if A02 L k=0 then none else some (A02 L k:Int)
theorem A92.getD{C:List (Int×Int)}{L:List Ent}(h:A92 C L)(k:Int):(W0 C k).getD 0=(A02 L k:Int):=by
 rw[h k]
 split
 ·rename_i e;rw[e];rfl
 ·rfl
theorem A64{L:List Ent}{i:Nat}{x e:Ent}(hi:L[i]? =some x)(he:b8 x=b8 e):(L.set i e).map b8=L.map b8:=by
 rw[List.map_set]
 have h1:(L.map b8)[i]? =some (b8 e):=by rw[K6,hi];simp[he]
 apply List.ext_getElem?
 intro j
 rw[List.getElem?_set]
 by_cases e':i=j
 ·subst e'
  rw[if_pos rfl,h1]
  have:=(D8.1 h1).1
  rw[if_pos (by simpa using this)]
 ·rw[if_neg e']
theorem C5H{L L':List Ent}(h:(L'.map b8)=L.map b8)(k:Int):A02 L' k=A02 L k:=by
 unfold A02
 have:∀M:List Ent,M.map (·.1)=(M.map b8).map (·.1):=fun M=>by rw[F0];rfl
 rw[this,this,h]
theorem C0O{L L':List Ent}(h:(L'.map b8)=L.map b8)(ha:Asc L):Asc L':=by
 have h1:(L.map b8).Pairwise ltK:=by rw[P4];exact ha
 rw[←h,P4] at h1
 exact h1
theorem A0Y.set{N N':Nds}{L:List Ent}(h:A0Y N L){i:Nat}{x:Ent}{k q:Int}{f:B3O}(hi:L[i]? =some x)(hx:b8 x=(k,f))(hf:X4 f=true)
  (hN:∀p' k',ent N' p' k'=if levels f=p'∧k=k' then some q else ent N p' k'):A0Y N' (L.set i (k,f,q)) where
 bQ:=by
  intro y hy
  rcases List.mem_or_eq_of_mem_set hy with hy|rfl
  ·exact h.bQ y hy
  ·exact hf
 dE:=C0O (A64 hi hx) h.dE
 dH:=by
  have ah:=(D8.1 hi).1
  have uv:=F1 hi
  have an:∀y:Ent,y∈L.set i (k,f,q)↔y=(k,f,q)∨(y∈L∧b8 y≠(k,f)):=by
   intro y
   constructor
   ·intro hy
    by_cases e:y=(k,f,q)
    ·exact .inl e
    ·right
     have fV:y∈L:=by
      rcases List.mem_or_eq_of_mem_set hy with h|h
      ·exact h
      ·exact absurd h e
     refine⟨fV,fun ek=>?_⟩
     have hm:(k,f,q)∈L.set i (k,f,q):=List.mem_set ah _
     have fx:=C0O (A64 (e:=(k,f,q)) hi hx) h.dE
     exact e (fx.key hy hm ek)
   ·rintro(rfl|⟨hy,hk⟩)
    ·exact List.mem_set ah _
    ·obtain⟨j,hj⟩:=List.mem_iff_getElem?.1 hy
     have bz:i≠j:=fun e=>by
      subst e
      rw[hi] at hj
      cases hj
      exact hk hx
     exact F1 (i:=j) (by rw[List.getElem?_set,if_neg bz];exact hj)
  intro p k' q'
  rw[hN]
  by_cases e:levels f=p∧k=k'
  ·rw[if_pos e]
   obtain⟨rfl,rfl⟩:=e
   constructor
   ·intro h1
    cases h1
    exact⟨f,rfl,(an _).2 (.inl rfl)⟩
   ·rintro⟨f',e1,hm⟩
    have:=A7k e1
    subst this
    rcases(an _).1 hm with h1|⟨_,h2⟩
    ·have:q'=q:=congrArg (fun x:Ent=>x.2.2) h1
     rw[this]
    ·exact absurd rfl h2
  ·rw[if_neg e,h.dH]
   constructor
   ·rintro⟨f',e1,hm⟩
    refine⟨f',e1,(an _).2 (.inr ⟨hm,fun ek=>e ⟨?_,(congrArg Prod.fst ek).symm⟩⟩)⟩
    have:f'=f:=congrArg Prod.snd ek
    rw[←e1,this]
   ·rintro⟨f',e1,hm⟩
    rcases(an _).1 hm with h1|⟨h2,_⟩
    ·exfalso
     have e2:k'=k:=congrArg (fun x:Ent=>x.1) h1
     have e3:f'=f:=congrArg (fun x:Ent=>x.2.1) h1
     exact e ⟨by rw[←e1,e3],e2.symm⟩
    ·exact⟨f',e1,h2⟩
theorem A0Y.ins{N N':Nds}{L:List Ent}(h:A0Y N L){k q:Int}{f:B3O}(ax:∀x∈L,b8 x≠(k,f))(hf:X4 f=true)
  (hN:∀p' k',ent N' p' k'=if levels f=p'∧k=k' then some q else ent N p' k'):A0Y N' (A2o ltK b8 (k,f,q) L) where
 bQ:=by
  intro y hy
  rcases D7.1 ((A1J ltK b8 _ L).mem_iff.1 hy) with rfl|hy
  ·exact hf
  ·exact h.bQ y hy
 dE:=B5F A9s h.dE ax
 dH:=by
  have an:∀y:Ent,y∈A2o ltK b8 (k,f,q) L↔y=(k,f,q)∨y∈L:=fun y=>by rw[(A1J ltK b8 _ L).mem_iff,D7]
  intro p k' q'
  rw[hN]
  by_cases e:levels f=p∧k=k'
  ·rw[if_pos e]
   obtain⟨rfl,rfl⟩:=e
   constructor
   ·intro h1
    cases h1
    exact⟨f,rfl,(an _).2 (.inl rfl)⟩
   ·rintro⟨f',e1,hm⟩
    have:=A7k e1
    subst this
    rcases(an _).1 hm with h1|h2
    ·have:q'=q:=congrArg (fun x:Ent=>x.2.2) h1
     rw[this]
    ·exact absurd rfl (ax _ h2)
  ·rw[if_neg e,h.dH]
   constructor
   ·rintro⟨f',e1,hm⟩
    exact⟨f',e1,(an _).2 (.inr hm)⟩
   ·rintro⟨f',e1,hm⟩
    rcases(an _).1 hm with h1|h2
    ·exfalso
     have e2:k'=k:=congrArg (fun x:Ent=>x.1) h1
     have e3:f'=f:=congrArg (fun x:Ent=>x.2.1) h1
     exact e ⟨by rw[←e1,e3],e2.symm⟩
    ·exact⟨f',e1,h2⟩
def A1H(L:List Ent)(k:Int)(f:B3O):List Ent:=L.filter fun x=>decide (b8 x≠(k,f))
theorem A0Y.del{N N':Nds}{L:List Ent}(h:A0Y N L){k:Int}{f:B3O}(hN:∀p' k',ent N' p' k'=if p'=levels f∧k'=k then Option.none else ent N p' k'):A0Y N' (A1H L k f) where
 bQ:=fun y hy=>h.bQ y (E7.1 hy).1
 dE:=h.dE.filter _
 dH:=by
  intro p k' q'
  rw[hN]
  by_cases e:p=levels f∧k'=k
  ·rw[if_pos e]
   obtain⟨rfl,rfl⟩:=e
   constructor
   ·intro h1;cases h1
   ·rintro⟨f',e1,hm⟩
    have:=A7k e1
    subst this
    have:=(E7.1 hm).2
    simp at this
  ·rw[if_neg e,h.dH]
   constructor
   ·rintro⟨f',e1,hm⟩
    refine⟨f',e1,E7.2 ⟨hm,?_⟩⟩
    rw[decide_eq_true_eq]
    intro ek
    have e2:k'=k:=congrArg Prod.fst ek
    have e3:f'=f:=congrArg Prod.snd ek
    exact e ⟨by rw[←e1,e3],e2⟩
   ·rintro⟨f',e1,hm⟩
    exact⟨f',e1,(E7.1 hm).1⟩
theorem C6I(L:List Ent)(e:Ent)(k:Int):A02 (A2o ltK b8 e L) k=A02 L k+if e.1=k then 1 else 0:=by
 unfold A02
 rw[((A1J ltK b8 e L).map (·.1)).count_eq,B6,List.count_cons]
 simp
theorem B9f{L:List Ent}(ha:Asc L){x:Ent}(hx:x∈L)(k:Int):A02 L k=A02 (A1H L x.1 x.2.1) k+if x.1=k then 1 else 0:=by
 obtain⟨l1,l2,rfl⟩:=G7 hx
 have h1:∀y∈l1++l2,b8 y≠b8 x:=by
  intro y hy e
  rw[Asc,I7,I4] at ha
  rcases C7.1 hy with h|h
  ·have:=ha.2.2 y h x (B5 ..);rw[e] at this;exact A9s.eN _ this
  ·have:=ha.2.1.1 y h;rw[e] at this;exact A9s.eN _ this
 have h2:A1H (l1++x::l2) x.1 x.2.1=l1++l2:=by
  unfold A1H
  rw[E9,H5,if_neg (by simp),←E9]
  exact H0.2 fun y hy=>by rw[decide_eq_true_eq];exact h1 y hy
 rw[h2]
 unfold A02
 rw[B8,B6,B8,List.count_append,List.count_append,List.count_cons]
 simp
 omega
theorem C38{L:List Ent}{k:Int}{f:B3O}(h:∀x∈L,b8 x≠(k,f)):A1H L k f=L:=
 H0.2 fun y hy=>by rw[decide_eq_true_eq];exact h y hy
theorem A92.ins{C:List (Int×Int)}{L:List Ent}(h:A92 C L)(e:Ent):A92 (mset C e.1 ((A02 L e.1:Int)+1)) (A2o ltK b8 e L):=by
 intro k
 rw[j0,C6I,h k]
 by_cases hk:e.1=k
 ·subst hk
  rw[if_pos rfl,if_pos rfl,if_neg (by omega)]
  simp
 ·rw[if_neg hk,if_neg hk,O4]
theorem A92.del{C:List (Int×Int)}{L:List Ent}(h:A92 C L)(ha:Asc L)(hn:(C.map (·.1)).Nodup){x:Ent}(hx:x∈L):
  A92 (if(A02 L x.1:Int)-1=0 then mdel C x.1 else mset C x.1 ((A02 L x.1:Int)-1)) (A1H L x.1 x.2.1):=by
 intro k
 have h1:=B9f ha hx k
 have h2:=B9f ha hx x.1
 rw[if_pos rfl] at h2
 by_cases hz:(A02 L x.1:Int)-1=0
 ·rw[if_pos hz,A2O hn]
  by_cases hk:x.1=k
  ·subst hk
   rw[if_pos rfl,if_pos (by omega)]
  ·rw[if_neg hk,h k]
   rw[if_neg hk] at h1
   rw[h1,O4]
 ·rw[if_neg hz,j0]
  by_cases hk:x.1=k
  ·subst hk
   rw[if_pos rfl,if_neg (by omega)]
   congr 1
   omega
  ·rw[if_neg hk,h k]
   rw[if_neg hk] at h1
   rw[h1,O4]
open Go.Proofs Go.Shelf Go.RowKit Go.Sort
def C4f:Go.Shelf.Ren:=⟨fun n=>match n with|106=>185|213=>227|265=>256|n=>n,fun n=>match n with|9=>9|3=>3|n=>n,fun n=>n⟩
theorem C8R:Lays.n106 prog C4f where
 mixed:=by kernel_rfl
 f106:=func185.trans (congrArg some (by kernel_rfl))
 f213:=func227.trans (congrArg some (by kernel_rfl))
 f265:=func256.trans (congrArg some (by kernel_rfl))
 t3:=underlying3
 a3:=isAgg3
 z3:=sizeOf3
 v3:=zeroValue3
 t9:=underlying9
 a9:=isAgg9
 z9:=sizeOf9
 v9:=zeroValue9
def C4g:Go.Shelf.Ren:=⟨fun n=>match n with|5=>184|7=>218|n=>n,fun n=>match n with|22=>3|3=>3|4=>4|n=>n,fun n=>n⟩
theorem C8S:SlLaysC2.n5 prog C4g where
 mixed:=by kernel_rfl
 f5:=⟨f184.name,by kernel_rfl,func184.trans (congrArg some (by kernel_rfl))⟩
 f7:=⟨Tryz.f218.name,by kernel_rfl,func218.trans (congrArg some (by kernel_rfl))⟩
 t3:=underlying3
 a3:=isAgg3
 z3:=sizeOf3
 v3:=zeroValue3
 t4:=underlying4
 a4:=isAgg4
 z4:=sizeOf4
 v4:=zeroValue4
 t22:=underlying3
 a22:=isAgg3
 z22:=sizeOf3
 v22:=zeroValue3
theorem C73(b:Nat)(x y:Int)(w:World)(h0:w.cell? ⟨b,0,none⟩=some (.int .i64 x))(h1:w.cell? ⟨b,1,none⟩=some (.int .i64 y)):
  Calls prog 183 #[.slice (some ⟨b,0,none⟩) 2 2] w fun e w'=>e=.returned (.int .i64 (if x=0 then y else x))∧w'=w:=by
 generalize hr:(if x=0 then y else x)=r
 go_enter func183,ntmps183
 go_wp2
 go_loop [5,8] (fun _ i=>(i=.int .i64 0)∨(i=.int .i64 1∧x=0)∨(i=.int .i64 2∧x=0∧y=0)) (fun _ i=>2-(intOf i).toNat)
 case atStart=>exact .inl rfl
 case round=>
  rcases hrel with rfl|⟨rfl,hx⟩|⟨rfl,hx,hy⟩
  ·by_cases hx:x=0
   ·subst hx
    go_wp2
    go_round
    case rel=>exact .inr (.inl ⟨by go_num,by first|trivial|rfl⟩)
    case measure=>simp[intOf]
   ·have dL:(x==0)=false:=by simpa using hx
    have lv:(x !=0)=true:=by simpa using hx
    go_wp2
    go_ret
    rw[if_neg hx] at hr
    subst hr
    exact⟨rfl,rfl⟩
  ·by_cases hy:y=0
   ·subst hy
    go_wp2
    go_round
    case rel=>exact .inr (.inr ⟨by go_num,hx,by first|trivial|rfl⟩)
    case measure=>simp[intOf]
   ·have pB:(y==0)=false:=by simpa using hy
    have fV:(y !=0)=true:=by simpa using hy
    go_wp2
    go_ret
    rw[if_pos hx] at hr
    subst hr
    exact⟨rfl,rfl⟩
  ·go_wp2
   go_ret
   rw[if_pos hx,hy] at hr
   subst hr
   exact⟨rfl,rfl⟩
theorem C8s(W:World)(c1 c2:Obj):((W.alloc c1).alloc c2).heap[W.heap.size]? =some c1:=by
 show((W.heap.push c1).push c2)[W.heap.size]? =some c1
 rw[M0,if_neg (by simp),M0,if_pos rfl]
theorem C8r(W:World)(c1 c2:Obj):((W.alloc c1).alloc c2).heap[W.heap.size+1]? =some c2:=by
 show((W.heap.push c1).push c2)[W.heap.size+1]? =some c2
 rw[M0,if_pos (by simp)]
theorem C8w(W:World)(c1:Obj):(W.alloc c1).heap[W.heap.size]? =some c1:=by
 show(W.heap.push c1)[W.heap.size]? =some c1
 rw[M0,if_pos rfl]
theorem A9h{w:World}{b:Nat}{cs:C9v}{t:TypeId}{f:Nat×Nat}(h:w.heap[b]? =some (.cells cs t f))(j:Nat):w.cell? ⟨b,j,none⟩=cs[j]? :=by
 unfold World.cell?
 simp only
 rw[h]
 rfl
def C4h(x y:Int×B3O×Int):Int:=if Lib.compareInt x.1 y.1=0 then Lib.compareBytes x.2.1.data.toList y.2.1.data.toList else Lib.compareInt x.1 y.1
theorem C7x(x y:Int×B3O×Int)(W:World):Calls prog 127 #[.agg #[.int .i64 x.1,.string x.2.1,.int .i64 x.2.2],.agg #[.int .i64 y.1,.string y.2.1,.int .i64 y.2.2]] W fun e w'=>e=.returned (.int .i64 (C4h x y))∧∃q os',w'=grow (W.drewN q) os':=by
 have hI:=fun W'=>AnyG.cmp_Compare_int C8S x.1 y.1 W'
 have hS:=fun W'=>Any.strings_Compare C8R x.2.1 y.2.1 W'
 change ∀W',Calls prog 184 _ _ _ at hI
 change ∀W',Calls prog 185 _ _ _ at hS
 unfold C4h
 generalize Lib.compareInt x.1 y.1=r1 at hI⊢
 generalize Lib.compareBytes x.2.1.data.toList y.2.1.data.toList=r2 at hS⊢
 have hO:=fun b w=>C73 b r1 r2 w
 generalize(if r1=0 then r2 else r1)=r at hO⊢
 obtain⟨x1,x2,x3⟩:=x
 obtain⟨y1,y2,y3⟩:=y
 go_enter func127,ntmps127
 go_wp2_with fail
 obtain⟨W1,oR⟩:∃W1,(W.alloc (.cells #[.int .i64 x1,.string x2,.int .i64 x3] 208)).alloc (.cells #[.int .i64 y1,.string y2,.int .i64 y3] 208)=W1:=⟨_,rfl⟩
 obtain⟨A,hA⟩:∃A,W.heap.size=A:=⟨_,rfl⟩
 obtain⟨B,hB⟩:∃B,W.heap.size+1=B:=⟨_,rfl⟩
 rw[oR,hB,hA]
 refine wp_region_still_tail 10 (by kernel_rfl) (by kernel_rfl) ?_
 obtain⟨W2,oQ⟩:∃W2,{W1 with drawn:=W1.drawn+1}=W2:=⟨_,rfl⟩
 rw[oQ]
 have d0:W2.cell? ⟨A,0,none⟩=some (.int .i64 x1):=by
  refine(A9h (w:=W2) (b:=A) (by rw[←oQ,←oR,←hA];exact C8s _ _ _) _).trans rfl
 have d1:W2.cell? ⟨A,1,none⟩=some (.string x2):=by
  refine(A9h (w:=W2) (b:=A) (by rw[←oQ,←oR,←hA];exact C8s _ _ _) _).trans rfl
 have e0:W2.cell? ⟨B,0,none⟩=some (.int .i64 y1):=by
  refine(A9h (w:=W2) (b:=B) (by rw[←oQ,←oR,←hB];exact C8r _ _ _) _).trans rfl
 have e1:W2.cell? ⟨B,1,none⟩=some (.string y2):=by
  refine(A9h (w:=W2) (b:=B) (by rw[←oQ,←oR,←hB];exact C8r _ _ _) _).trans rfl
 simp only[List.take_succ_cons,List.take_zero,List.drop_succ_cons,R9]
 repeat still_step
 still_call (hI _)
 repeat still_step
 still_call (hS _)
 refine wpStill_nil ?_
 go_wp2_with (go_at_call 183;refine(hO _ _ ((A9h (C8w _ _) 0).trans rfl) ((A9h (C8w _ _) 1).trans rfl)).mono ?_;rintro e w' ⟨rfl,rfl⟩)
 go_ret
 refine⟨rfl,1,#[.cells #[.int .i64 x1,.string x2,.int .i64 x3] 208]++#[.cells #[.int .i64 y1,.string y2,.int .i64 y3] 208]++#[.cells #[.int .i64 r1,.int .i64 r2] 3],?_⟩
 rw[←oQ,←oR]
 unfold grow World.drewN World.alloc
 simp only[World.mk.injEq,true_and,and_true]
 apply Array.ext'
 simp
end Go.Proofs.YtidlldnlphdhcaaGreatDoor
namespace Go.H
open Go.RowKit Go.Sort Go.Shelf Go.Proofs
section
variable {α:Type} [Inhabited α] {enc:α→C9w} {size:Nat} {h:Heap} {R:List Asn}
theorem C0p(ao:∀x,(enc x).length=size)(hsz:0<size)(d:Array α):flatK enc size d=(d.toList.flatMap enc).toArray:=by
 apply Array.ext_getElem?
 intro t
 have hlen:(d.toList.flatMap enc).length=d.size*size:=by rw[v7 ao];simp
 by_cases ht:t<d.size*size
 ·have hq:t / size<d.size:=by rw[Nat.div_lt_iff_lt_mul hsz];exact ht
  have hr:t % size<size:=Nat.mod_lt _ hsz
  have h1:=get_flatK enc size d t ht
  rw[getElem!_pos _ t (by simpa using ht)] at h1
  have hx:d.toList[t / size]? =some d[t / size]:=by simp[hq]
  have hv:(enc d[t / size])[t % size]? =some ((enc d[t / size])[t % size]!):=by
   rw[B0 (by rw[ao];exact hr),getElem!_pos _ _ (by rw[ao];exact hr)]
  have h2:=B5O ao d.toList _ _ hx _ _ hv
  rw[show t / size*size+t % size=t from by rw[Nat.mul_comm];exact Nat.div_add_mod t size] at h2
  rw[F4 (by simpa using ht),h1,List.getElem?_toArray,h2,getElem!_pos d _ hq]
 ·rw[R2 (by simp;omega),List.getElem?_toArray,List.getElem?_eq_none (by omega)]
theorem C4G(ao:∀x,(enc x).length=size)(hsz:0<size)(h1:∀x,∀v∈enc x,v.oneCell'=true){P:Program}{ρ:Ren}(L:SlLaysF0.n6 P ρ)(aE:∀w,(isAgg (ρ.t 24)).run P w=.ok true w)(zE:∀w,(Go.sizeOf (ρ.t 24)).run P w=.ok size w)
  (cf:α→α→Int)(hO:SWO (ltOf cf))(g:Nat)(eg:∀args w,(callFunc g args).run P w=.ok (.enter g args) w)
  (tS:∀x y W,Calls P g #[.agg (enc x).toArray,.agg (enc y).toArray] W fun e w'=>e=.returned (.int .i64 (cf x y))∧∃q os',w'=grow (W.drewN q) os')
  {s:Slc}{xs:List α}(hs:sat h (U4 enc size s xs::R))(hl:xs.length<4611686018427387904){Q:Value→Heap→Prop}
  (hq:∀(ys:List α) h',ys.Perm xs→ys.Pairwise (fun a b=>ltOf cf b a=false)→sat h' (U4 enc size s ys::R)→Q (.tuple #[]) h'):
  V2 P (ρ.f 6) #[.slice s.a s.len s.cap,.func (.func g) #[] #[]] h Q:=fun w hw=>by
 subst hw
 rcases A1B hs with⟨g1,g2,rfl,aa⟩|⟨b,o,cs,ho,aa⟩
 ·have dR:=hs.aW
  rw[G8] at dR
  rw[dR]
  refine(AnyF.slices_SortFunc_none L s.a s.cap _ w).mono ?_
  rintro e w' ⟨rfl,rfl⟩
  exact⟨_,rfl,⟨rfl,rfl,rfl⟩,hq [] w'.heap (I9 _) List.Pairwise.nil hs⟩
 ·have hlen:=ho.len
  have fC:=ho.dO
  have hle:=ho.le
  have hmul:s.len*size≤s.cap*size:=Q5 _ hle
  rw[J3] at fC
  have hF:flatK enc size xs.toArray=(xs.flatMap enc).toArray:=C0p ao hsz _
  have gD:(xs.flatMap enc).length=s.len*size:=by rw[v7 ao,hlen]
  have hH:HoldsK enc size w b (o*size) xs.toArray:=by
   unfold HoldsK Holds
   rw[hF]
   intro j hj
   have qh:j<s.len*size:=by simpa[gD] using hj
   refine⟨?_,aa.free _⟩
   have h2:w.cell? ⟨b,o*size+j,none⟩=cs[o*size+j]? :=aa.cell _
   have h3:((cs.toList.drop (o*size)).take (s.len*size))[j]? =cs[o*size+j]? :=by
    rw[L7,if_pos qh,N4]
    simp
   rw[h2,←h3,ho.front,getElem!_pos _ j hj]
   rw[B0 (by simpa using hj)]
   rfl
  have hblk:b<w.heap.size:=aa.fB
  rw[ho.a]
  have cG:(Value.slice (some ⟨b,o*size,none⟩) s.len s.cap)=.slice (some ⟨b,o*size,none⟩) xs.toArray.size s.cap:=by rw[hlen];rfl
  rw[cG]
  refine(AnyQ.slices_SortFunc L size aE zE enc ao h1 cf hO g #[] b (o*size) s.cap xs.toArray w eg (fun m os dk _ x y=>tS x y _) hH hblk (by simpa using hl)).mono ?_
  rintro e w' ⟨rfl,d',n,os,⟨gS,-,nF⟩,sL,rfl⟩
  have dB:d'.toList.Perm xs:=by
   rw[Array.extract_eq_self_of_le (by omega),Array.extract_eq_self_of_le (by omega)] at nF
   exact nF
  refine⟨_,rfl,⟨rfl,rfl,rfl⟩,hq d'.toList _ dB ?_ ?_⟩
  ·rw[List.pairwise_iff_getElem]
   intro i j hi hj nL
   have jY:i<d'.size:=by simpa using hi
   have qh:j<d'.size:=by simpa using hj
   have:=sL i j (C9 _) nL (by omega)
   rw[getElem!_pos d' i jY,getElem!_pos d' j qh] at this
   simpa using this
  ·have xL:flatK enc size d'=(d'.toList.flatMap enc).toArray:=C0p ao hsz _
   have jC:(d'.toList.flatMap enc).length=s.len*size:=by rw[v7 ao,hlen,dB.length_eq]
   obtain⟨T,hb⟩:=A2k.1 aa
   have bt:=hb.get
   have ae:sat (putRowK enc size (Sort.ahead w n) b (o*size) d').heap (blk b (.cells (putCells id (o*size) (flatK enc size d') cs) T (0,0))::R):=by
    refine hb.bG ?_ fun k hk=>?_
    ·show(w.heap.modify b _)[b]? =_
     rw[O3,if_pos rfl,bt]
     rfl
    ·show(w.heap.modify b _)[k]? =_
     rw[O3,if_neg (fun e=>hk e.symm)]
   have aj:sat (sortWorldK enc size w b (o*size) n d' os).heap (blk b (.cells (putCells id (o*size) (flatK enc size d') cs) T (0,0))::R):=by
    refine ae.grow fun k ob hk=>?_
    show((putRowK enc size (Sort.ahead w n) b (o*size) d').heap++os)[k]? =some ob
    rw[Array.getElem?_append_left (F6.1 hk).1]
    exact hk
   refine A1A (b:=b) (o:=o) ⟨ho.a,ho.le,by rw[hlen,dB.length_eq],?_,?_⟩ (A2k.2 ⟨T,aj⟩)
   ·rw[J3]
    simpa[putCells] using fC
   ·rw[xL]
    apply List.ext_getElem?
    intro j
    by_cases hj:j<s.len*size
    ·rw[L7,if_pos hj,N4,Array.getElem?_toList,putCells,Array.getElem?_mapIdx]
     have ah:o*size+j<cs.size:=by omega
     rw[F4 ah]
     simp only[R5]
     rw[if_pos ⟨by omega,by simp[jC];omega⟩,Nat.add_sub_cancel_left]
     rw[getElem!_pos _ j (by simpa[jC] using hj),B0 (by omega)]
     rfl
    ·rw[L7,if_neg hj,List.getElem?_eq_none (by omega)]
end
end Go.H
namespace Go.Proofs.YtidlldnlphdhcaaGreatDoor
open Go.H
open Go.Proofs.Tryz
open Go.H Go.Proofs Go.Shelf Go.Sort
def C1a:Go.Shelf.Ren:=⟨fun n=>match n with|6=>126|15=>123|14=>182|28=>180|29=>181|20=>219|21=>220|22=>221|23=>222|24=>223|25=>224|26=>225|27=>226|46=>253|47=>214|48=>215|49=>254|50=>255|57=>268|n=>n,fun n=>match n with|22=>205|24=>208|25=>267|3=>3|39=>263|0=>0|53=>315|55=>317|4=>4|46=>308|45=>307|50=>180|5=>5|9=>9|66=>343|70=>347|76=>378|77=>361|n=>n,fun n=>n⟩
theorem C7m:SlLaysF0.n6 prog C1a where
 mixed:=by kernel_rfl
 f6:=⟨f126.name,by kernel_rfl,func126.trans (congrArg some (by kernel_rfl))⟩
 f14:=⟨f182.name,by kernel_rfl,func182.trans (congrArg some (by kernel_rfl))⟩
 f15:=func123.trans (congrArg some (by kernel_rfl))
 f20:=⟨Tryz.f219.name,by kernel_rfl,func219.trans (congrArg some (by kernel_rfl))⟩
 f21:=⟨f220.name,by kernel_rfl,func220.trans (congrArg some (by kernel_rfl))⟩
 f22:=⟨Tryz.f221.name,by kernel_rfl,func221.trans (congrArg some (by kernel_rfl))⟩
 f23:=⟨f222.name,by kernel_rfl,func222.trans (congrArg some (by kernel_rfl))⟩
 f24:=⟨f223.name,by kernel_rfl,func223.trans (congrArg some (by kernel_rfl))⟩
 f25:=⟨Tryz.f224.name,by kernel_rfl,func224.trans (congrArg some (by kernel_rfl))⟩
 f26:=⟨Tryz.f225.name,by kernel_rfl,func225.trans (congrArg some (by kernel_rfl))⟩
 f27:=⟨f226.name,by kernel_rfl,func226.trans (congrArg some (by kernel_rfl))⟩
 f28:=func180.trans (congrArg some (by kernel_rfl))
 f29:=func181.trans (congrArg some (by kernel_rfl))
 f46:=⟨f253.name,by kernel_rfl,func253.trans (congrArg some (by kernel_rfl))⟩
 f47:=func214.trans (congrArg some (by kernel_rfl))
 f48:=func215.trans (congrArg some (by kernel_rfl))
 f49:=⟨f254.name,by kernel_rfl,func254.trans (congrArg some (by kernel_rfl))⟩
 f50:=⟨f255.name,by kernel_rfl,func255.trans (congrArg some (by kernel_rfl))⟩
 f57:=⟨Tryz.f268.name,by kernel_rfl,func268.trans (congrArg some (by kernel_rfl))⟩
 t0:=underlying0
 a0:=isAgg0
 z0:=sizeOf0
 v0:=zeroValue0
 t3:=underlying3
 a3:=isAgg3
 z3:=sizeOf3
 v3:=zeroValue3
 t4:=underlying4
 a4:=isAgg4
 z4:=sizeOf4
 v4:=zeroValue4
 t5:=underlying5
 a5:=isAgg5
 z5:=sizeOf5
 v5:=zeroValue5
 t9:=underlying9
 a9:=isAgg9
 z9:=sizeOf9
 v9:=zeroValue9
 t22:=underlying205
 a22:=isAgg205
 z22:=sizeOf205
 v22:=zeroValue205
 t25:=underlying267
 a25:=isAgg267
 z25:=sizeOf267
 v25:=zeroValue267
 t39:=underlying263
 a39:=isAgg263
 z39:=sizeOf263
 v39:=zeroValue263
 t45:=underlying307
 a45:=isAgg307
 z45:=sizeOf307
 v45:=zeroValue307
 t46:=underlying308
 a46:=isAgg308
 z46:=sizeOf308
 v46:=zeroValue308
 t50:=underlying180
 a50:=isAgg180
 z50:=sizeOf180
 v50:=zeroValue180
 t53:=underlying315
 a53:=isAgg315
 z53:=sizeOf315
 v53:=zeroValue315
 t55:=underlying317
 a55:=isAgg317
 z55:=sizeOf317
 v55:=zeroValue317
 t66:=underlying343
 a66:=isAgg343
 z66:=sizeOf343
 v66:=zeroValue343
 t70:=underlying347
 a70:=isAgg347
 z70:=sizeOf347
 v70:=zeroValue347
 t76:=underlying378
 a76:=isAgg378
 z76:=sizeOf378
 v76:=zeroValue378
 t77:=underlying361
 a77:=isAgg361
 z77:=sizeOf361
 v77:=zeroValue361
theorem C2d(a b:Int):(Lib.compareInt a b<0↔a<b)∧(Lib.compareInt a b=0↔a=b):=by
 unfold Lib.compareInt
 by_cases h1:a<b
 ·rw[if_pos h1];constructor<;>constructor<;>intro _<;>omega
 ·rw[if_neg h1]
  by_cases h2:b<a
  ·rw[if_pos h2];constructor<;>constructor<;>intro _<;>omega
  ·rw[if_neg h2];constructor<;>constructor<;>intro _<;>omega
theorem C24:∀(a b:List UInt8),Lib.compareBytes a b<0↔a<b
 |[],[]=>by simp[Lib.compareBytes]
 |[],b::l=>by simp[Lib.compareBytes]
 |a::l,[]=>by simp[Lib.compareBytes]
 |a::l,b::m=>by
  unfold Lib.compareBytes
  rw[List.cons_lt_cons_iff]
  by_cases h1:a<b
  ·simp[h1]
  ·rw[if_neg h1]
   by_cases h2:b<a
   ·rw[if_pos h2]
    have:a≠b:=fun e=>by subst e;exact h1 h2
    simp[h1,this]
   ·rw[if_neg h2]
    have e:a=b:=by
     apply UInt8.toNat_inj.1
     have h3:¬a.toNat<b.toNat:=fun h=>h1 (UInt8.lt_iff_toNat_lt.2 h)
     have h4:¬b.toNat<a.toNat:=fun h=>h2 (UInt8.lt_iff_toNat_lt.2 h)
     omega
    rw[C24 l m]
    simp[h1,e]
theorem B4z(x y:Ent):ltOf C4h x y=decide (ltK (b8 x) (b8 y)):=by
 unfold ltOf
 rw[F9]
 unfold C4h ltK
 have h1:=C2d x.1 y.1
 by_cases h0:Lib.compareInt x.1 y.1=0
 ·rw[if_pos h0,C24]
  have e:=h1.2.1 h0
  constructor
  ·intro h;exact .inr ⟨e,h⟩
  ·rintro(h|⟨_,h⟩)
   ·simp only at h;omega
   ·exact h
 ·rw[if_neg h0,h1.1]
  constructor
  ·intro h;exact .inl h
  ·rintro(h|⟨e,_⟩)
   ·exact h
   ·exact absurd (h1.2.2 e) h0
theorem C9j:SWO (ltOf C4h) where
 irrefl x:=by rw[B4z];simpa using A9s.eN _
 trans x y z h1 h2:=by
  rw[B4z,decide_eq_true_eq] at*
  exact A9s.trans h1 h2
 ntrans x y z h1 h2:=by
  rw[B4z,decide_eq_false_iff_not] at*
  intro h3
  rcases A9s.tri (b8 x) (b8 y) with e|e|e
  ·rw[e] at h3;exact h2 h3
  ·exact h1 e
  ·rcases A9s.tri (b8 y) (b8 z) with e'|e'|e'
   ·rw[e'] at e;exact A9s.eN _ (A9s.trans e h3)
   ·exact h2 e'
   ·exact A9s.eN _ (A9s.trans (A9s.trans e' e) h3)
instance:Inhabited Ent:=⟨(0,ByteArray.mk #[],0)⟩
theorem B6H{h:Heap}{R:List Asn}{s:Slc}{es:List Ent}(hs:sat h (U4 Z9 3 s es::R))(hl:es.length≤100000){Q:Value→Heap→Prop}
  (hq:∀(ys:List Ent) h',ys.Perm es→ys.Pairwise (fun a b=>¬ltK (b8 b) (b8 a))→sat h' (U4 Z9 3 s ys::R)→Q (.tuple #[]) h'):
  V2 prog 126 #[.slice s.a s.len s.cap,.func (.func 127) #[] #[]] h Q:=
 C4G A0J (by decide) A3S C7m isAgg208 sizeOf208 C4h C9j 127 (enters_of func127 (by kernel_rfl) rfl) (fun x y W=>C7x x y W) hs (by omega) fun ys h' hp wO af=>
  hq ys h' hp (wO.imp fun{a b} dp=>by rw[B4z,decide_eq_false_iff_not] at dp;exact dp) af
section
open Go.H Go.Proofs
variable {h h0:Heap} {R:List Asn}
def l4(t:Nat)(L:List Ent):Asn:=exA fun x:Nds×List (Int×Int)=>star (pr (A0Y x.1 L∧A92 x.2 L)) (trM t x.1 x.2)
theorem A0l{t:Nat}{L:List Ent}:sat h (l4 t L::R)↔∃N C,A0Y N L∧A92 C L∧sat h (trM t N C::R):=by
 unfold l4
 rw[sat.bA]
 constructor
 ·rintro⟨⟨N,C⟩,hs⟩
  rw[sat.aI,sat.bC] at hs
  exact⟨N,C,hs.1.1,hs.1.2,hs.2⟩
 ·rintro⟨N,C,h1,h2,hs⟩
  refine⟨(N,C),?_⟩
  rw[sat.aI,sat.bC]
  exact⟨⟨h1,h2⟩,hs⟩
theorem B6q(L:List Ent)(k:Int):A02 L k≤L.length:=by
 unfold A02
 have:=List.count_le_length (a:=k) (l:=L.map (·.1))
 simpa using this
theorem C3l(hs:sat h R){Q:Value→Heap→Prop}(hq:∀t h',sat h' (l4 t []::R)→Q (at9 t) h'):V2 prog 28 #[] h Q:=by
 refine B9p hs fun t nd h' h1 h2 af=>hq t h' (A0l.2 ⟨_,_,⟨by simp,List.Pairwise.nil,?_⟩,?_,af⟩)
 ·intro p k q
  constructor
  ·intro he
   exfalso
   unfold ent at he
   rw[Y5,B5s] at he
   by_cases e:([]:Path)=p
   ·rw[if_pos e] at he
    rw[N5,h1] at he
    simp at he
   ·rw[if_neg e] at he
    simp at he
  ·rintro⟨f,-,hm⟩
   simp at hm
 ·intro k
  simp[A02]
theorem C3n{t:Nat}{L:List Ent}(ht:TP h0){id q:Int}{f:B3O}(hsz:f.size≤9223372036854775807)(hl:L.length≤100000)(hs:sat h (l4 t L::old h0::R)){Q:Value→Heap→Prop}
  (al:X4 f=false→∀h',sat h' (l4 t L::old h0::R)→Q (.int .u8 143) h')
  (ft:X4 f=true→(q<0∨2<q)→∀h',sat h' (l4 t L::old h0::R)→Q (.int .u8 155) h')
  (eX:X4 f=true→0≤q→q≤2→∀i x,L[i]? =some x→b8 x=(id,f)→∀h',sat h' (l4 t (L.set i (id,f,q))::old h0::R)→Q (.int .u8 0) h')
  (aA:X4 f=true→0≤q→q≤2→(∀x∈L,b8 x≠(id,f))→64≤A02 L id→∀h',sat h' (l4 t L::old h0::R)→Q (.int .u8 151) h')
  (iT:X4 f=true→0≤q→q≤2→(∀x∈L,b8 x≠(id,f))→A02 L id<64→∀h',sat h' (l4 t (A2o ltK b8 (id,f,q) L)::old h0::R)→Q (.int .u8 0) h'):
  V2 prog 109 #[at9 t,C4w id f q] h Q:=by
 obtain⟨N,C,hA,hC,aa⟩:=A0l.1 hs
 have hg:=hC.getD id
 refine C6c ht hsz aa (fun h1 h' af=>al h1 h' (A0l.2 ⟨N,C,hA,hC,af⟩)) (fun h1 h2 h' af=>ft h1 h2 h' (A0l.2 ⟨N,C,hA,hC,af⟩)) (fun h1 h2 h3 q0 h4 N' h' h5 af=>?_)
  (fun h1 h2 h3 h4 h5 h' af=>aA h1 h2 h3 ((hA.none f id).1 h4) (by rw[hg] at h5;omega) h' (A0l.2 ⟨N,C,hA,hC,af⟩)) (fun h1 h2 h3 h4 h5 N' h' h6 af=>?_)
 ·have hm:=(hA.get f id q0).1 h4
  obtain⟨i,hi⟩:=List.mem_iff_getElem?.1 hm
  refine eX h1 h2 h3 i _ hi rfl h' (A0l.2 ⟨N',C,hA.set hi rfl h1 h5,fun k=>?_,af⟩)
  rw[C5H (A64 (e:=(id,f,q)) hi rfl)]
  exact hC k
 ·have ax:=(hA.none f id).1 h4
  rw[hg] at h5 af
  rw[V5 (by have:=B6q L id;omega) (by have:=B6q L id;omega)] at af
  exact iT h1 h2 h3 ax (by omega) h' (A0l.2 ⟨N',_,hA.ins ax h1 h6,hC.ins (id,f,q),af⟩)
theorem B8c{t:Nat}{N:Nds}{C:List (Int×Int)}(hs:sat h (trM t N C::R)):(C.map (·.1)).Nodup∧∀p nd,W0 N p=some nd→(nd.q.map (·.1)).Nodup∧(nd.nx.map (·.1)).Nodup:=by
 obtain⟨rb,cm,hT,aa⟩:=A2c.1 hs
 exact⟨aa.p2.bN,fun p nd hp=>A6E hp aa.p1⟩
theorem B0R{t:Nat}{L:List Ent}(ht:TP h0){id:Int}{f:B3O}(hsz:f.size≤16777216)(hl:L.length≤100000)(hs:sat h (l4 t L::old h0::R)){Q:Value→Heap→Prop}
  (hq:∀h',sat h' (l4 t (A1H L id f)::old h0::R)→Q (.bool (decide ((A1H L id f).length<L.length))) h'):
  V2 prog 111 #[at9 t,.int .i64 id,.string f] h Q:=by
 obtain⟨N,C,hA,hC,aa⟩:=A0l.1 hs
 have hg:=hC.getD id
 refine C0S ht hsz aa (fun hn h' af=>?_) (fun q0 iJ N' h' hN af=>?_)
 ·have ax:=(hA.none f id).1 hn
  have e:=C38 ax
  rw[e] at hq
  have:=hq h' (A0l.2 ⟨N,C,hA,hC,af⟩)
  simpa using this
 ·have hm:=(hA.get f id q0).1 iJ
  have ah:(A1H L id f).length<L.length:=by
   have:=B9f hA.dE hm id
   rw[if_pos rfl] at this
   refine Nat.lt_of_le_of_ne (D1 _ _) fun e=>?_
   have:=N6.1 e _ hm
   simp at this
  have xM:=hC.del hA.dE (B8c aa).1 hm
  rw[hg] at af
  rw[V5 (by have:=B6q L id;omega) (by have:=B6q L id;omega)] at af
  have:=hq h' (A0l.2 ⟨N',_,hA.del hN,xM,af⟩)
  rw[decide_eq_true ah] at this
  exact this
end
end Go.Proofs.YtidlldnlphdhcaaGreatDoor