/-
  Our texts, packed by program.
-/
import Derived.Test.YtidlldnlphdhcaaGreatDoorQBrokerPlays2
import Derived.Lib.DecodeN
import Derived.Lib.Split
import Derived.Lib.SplitLaws
import Derived.Lib.IndexBytes
import Derived.Shelf.Strings.Split
import Derived.Shelf.Strings.Count
import Derived.Shelf.SlIterI.Nil
import Derived.Shelf.SortM.Plain
import Derived.Shelf.SortM.SortNone
import Derived.Shelf.SlIter.Nil
import Derived.Test.YtidlldnlphdhcaaGreatDoorRows
import Derived.Test.YtidlldnlphdhcaaGreatDoorChecked
import Derived.Shelf.Vars
import Derived.ProofKit
import Derived.LaidMore
import Derived.LaidHandle
import Derived.Stop.Joined
import Derived.Lib.LaidU8T
import Derived.PinnedBridge
import Derived.Shelf.Strings.OnBuilder
import Derived.Sort.Walk0
import Derived.WalkKit
import Derived.StillTailTactics
import Derived.Deep.QuietTactic
import Derived.Shelf.SlicesG.Cmp
import Derived.Shelf.Small.Strs
import Derived.Sort.Row
import Derived.Sort.Grow
set_option linter.unusedSectionVars false
set_option linter.unusedSimpArgs false
set_option linter.unusedVariables false
set_option maxHeartbeats 16000000
set_option maxRecDepth 100000
set_option synthInstance.maxSize 100000
set_option synthInstance.maxHeartbeats 400000
namespace Go.Proofs.YtidlldnlphdhcaaGreatDoor
open Go.H
open Go.Proofs.Tryz
section
open Go.H Go.Proofs Go.Lib
def z7(n k b lo hi:Nat):Prop:=k<n∧lo≤b∧b≤hi
instance(n k b lo hi:Nat):Decidable (z7 n k b lo hi):=by unfold z7;infer_instance
def C3W(n b0 b1 b2 b3:Nat):Nat:=
 if 1≤b0∧b0≤127 then 1
 else if 194≤b0∧b0≤223∧z7 n 1 b1 128 191 then 2
 else if 224≤b0∧b0≤239∧z7 n 1 b1 128 191∧z7 n 2 b2 128 191 then(if(b0=224∧¬z7 n 1 b1 160 191)∨(b0=237∧¬z7 n 1 b1 128 159) then 0 else 3)
 else if 240≤b0∧b0≤244∧z7 n 1 b1 128 191∧z7 n 2 b2 128 191∧z7 n 3 b3 128 191 then(if(b0=240∧¬z7 n 1 b1 144 191)∨(b0=244∧¬z7 n 1 b1 128 143) then 0 else 4)
 else 0
def C0K(d:Nat×Nat):Nat:=if d.1=0∨(d.1=65533∧d.2<2) then 0 else d.2
theorem A9F:C0K (65533,1)=0:=by decide
theorem B9q{x k:Nat}(hx:x≠0)(hk:2≤k):C0K (x,k)=k:=by
 unfold C0K
 rw[if_neg]
 rintro(h|h)
 ·exact hx h
 ·have:=h.2
  simp only at this
  omega
theorem C4D(n b0 b1 b2 b3:Nat)(hn:1≤n)(h0:b0<256)(h1:b1<256)(h2:b2<256)(h3:b3<256):C0K (decodeN n b0 b1 b2 b3)=C3W n b0 b1 b2 b3:=by
 unfold decodeN C3W z7
 split
 ·unfold C0K
  by_cases g:b0=0
  ·subst g;rfl
  ·rw[if_neg (show ¬(b0=0∨(b0=65533∧1<2)) by omega),if_pos (by omega)]
 split
 ·split
  ·rw[B9q (by omega) (by omega),if_neg (by omega),if_pos (by omega)]
  ·rw[A9F,if_neg (by omega),if_neg (by omega),if_neg (by omega),if_neg (by omega)]
 split
 ·split
  ·rw[B9q (by omega) (by omega),if_neg (by omega),if_neg (by omega),if_pos (by omega),if_neg (by omega)]
  ·rw[A9F,if_neg (by omega),if_neg (by omega),if_pos (by omega),if_pos (by omega)]
 split
 ·split
  ·rw[B9q (by omega) (by omega),if_neg (by omega),if_neg (by omega),if_neg (by omega),if_pos (by omega),if_neg (by omega)]
  ·rw[A9F,if_neg (by omega),if_neg (by omega),if_neg (by omega)]
   split
   ·rw[if_pos (by omega)]
   ·rfl
 ·rw[A9F,if_neg (by omega),if_neg (by omega),if_neg (by omega),if_neg (by omega)]
theorem C1n(s:B4p)(pos:Nat)(h:pos<s.size):decodeGo (s.extract pos s.size)=Utf8.decode s pos:=by
 have hsz:(s.extract pos s.size).size=s.size-pos:=by simp
 have hg:∀k,((s.extract pos s.size).get! k).toNat=(s.get! (pos+k)).toNat:=fun k=>by
  show(((s.extract pos s.size).data)[k]!).toNat=((s.data)[pos+k]!).toNat
  rw[ByteArray.data_extract]
  by_cases hk:pos+k<s.size
  ·have h1:pos+k<s.data.size:=hk
   rw[getElem!_pos (s.data.extract pos s.size) k (by rw[Array.size_extract];omega),getElem!_pos s.data (pos+k) h1,Array.getElem_extract]
  ·have h1:¬pos+k<s.data.size:=hk
   rw[getElem!_neg (s.data.extract pos s.size) k (by rw[Array.size_extract];omega),getElem!_neg s.data (pos+k) h1]
 unfold decodeGo
 rw[if_neg (by rw[hsz];omega),decode_at,decode_at,hsz,Nat.sub_zero,hg,hg,hg,hg,O7,M9,M9,M9]
theorem B9r(s:B4p)(pos:Nat)(h:pos<s.size):
  A2q (s.extract pos s.size)=C3W (s.size-pos) (s.get! pos).toNat (s.get! (pos+1)).toNat (s.get! (pos+2)).toNat (s.get! (pos+3)).toNat:=by
 rw[←C4D _ _ _ _ _ (by omega) (T6 _) (T6 _) (T6 _) (T6 _),←decode_at,←C1n s pos h]
 rfl
theorem A3t{s:B4p}{k:Nat}(h:k<s.size):s[k]? =some (s.get! k):=by
 rw[getElem?_pos s k h]
 have h1:k<s.data.size:=h
 show some (s.data[k])=some (s.data[k]!)
 rw[getElem!_pos s.data k h1]
variable {h:Heap} {R:List Asn}
theorem B2U(b:UInt8):IntKind.wrap .i64 ((b.toNat:Int))=(b.toNat:Int):=by
 have:=T6 b
 exact W6 (by omega) (by omega)
theorem C15{s:B4p}(hsz:s.size≤9223372036854775807){pos k lo hi:Nat}(lr:pos<s.size)(hk:k≤3)(yH:lo≤255)(yJ:hi≤255){Q:Value→Heap→Prop}
  (hq:Q (.bool (decide (z7 (s.size-pos) k (s.get! (pos+k)).toNat lo hi))) h):V9 prog 265 #[.string s,.int .i64 ((pos+k:Nat):Int),.int .i64 lo,.int .i64 hi] h Q:=by
 refine B3l s _ lo hi h Q ?_
 delta B5R bn ie pu wi
 refine W0 (fun x h'=>h'=h∧x.1=decide (z7 (s.size-pos) k (s.get! (pos+k)).toNat lo hi)) ?_ ?_
 ·rw[V4]
  unfold z7
  by_cases h1:pos+k<s.size
  ·rw[if_pos (by simp only[decide_eq_true_eq];omega)]
   have hb:=A3t h1
   generalize s.get! (pos+k)=b at hb
   refine⟨b,by omega,by rw[O1];exact hb,?_⟩
   dsimp only
   rw[B2U,V4]
   by_cases h2:lo≤b.toNat
   ·rw[if_pos (by simp only[decide_eq_true_eq];omega)]
    refine⟨b,by omega,by rw[O1];exact hb,rfl,?_⟩
    dsimp only
    rw[B2U]
    have h3:k<s.size-pos:=by omega
    simp[h2,h3]
   ·rw[if_neg (by simp only[decide_eq_true_eq];omega)]
    exact⟨rfl,by simp[h2]⟩
  ·rw[if_neg (by simp only[decide_eq_true_eq];omega)]
   have h3:¬k<s.size-pos:=by omega
   exact⟨rfl,by simp[h3]⟩
 rintro⟨x,⟨⟩⟩ h1 ⟨rfl,hx⟩
 simp only at hx
 subst hx
 exact hq
theorem C5m{s:B4p}(hsz:s.size≤9223372036854775800){pos:Nat}(lr:pos<s.size){Q:Value→Heap→Prop}
  (hq:Q (.int .i64 (A2q (s.extract pos s.size))) h):V9 prog 248 #[.string s,.int .i64 pos] h Q:=by
 refine B3m s pos h Q ?_
 delta B5S bn cb ie pu vi wi
 rw[B9r s pos lr] at hq
 have hb:=A3t lr
 refine⟨s.get! pos,by omega,by rw[O1];exact hb,?_⟩
 dsimp only
 rw[B2U]
 have tl:∀(k lo hi:Nat) {Q':Value→Heap→Prop},k≤3→lo≤255→hi≤255→Q' (.bool (decide (z7 (s.size-pos) k (s.get! (pos+k)).toNat lo hi))) h→
   V9 prog 265 #[.string s,.int .i64 (IntKind.wrap .i64 ((pos:Int)+k)),.int .i64 lo,.int .i64 hi] h Q':=fun k lo hi Q' h1 h2 h3 ed=>by
  rw[W6 (by omega) (by omega),show(pos:Int)+k=((pos+k:Nat):Int) by omega]
  exact C15 (by omega) lr h1 h2 h3 ed
 have gI:=T6 (s.get! pos)
 unfold C3W at hq
 generalize(s.get! pos).toNat=b0 at hq gI
 refine W0 (fun x h'=>h'=h∧x.1=decide (1≤b0∧b0≤127)) ?_ ?_
 ·by_cases g1:1≤b0
  ·have:(1:Int)≤b0:=by omega
   simp[g1,this];omega
  ·have:¬(1:Int)≤b0:=by omega
   simp[g1,this]
 rintro⟨x,⟨⟩⟩ h1 ⟨rfl,hx⟩
 simp only at hx
 subst hx
 (try dsimp only);rw[V4]
 by_cases c1:1≤b0∧b0≤127
 ·rw[if_pos (by simpa using c1)]
  rw[if_pos c1] at hq
  exact hq
 rw[if_neg (by simpa using c1)]
 rw[if_neg c1] at hq
 refine V3 (tl 1 128 191 (by decide) (by decide) (by decide) ⟨_,rfl,?_⟩)
 refine V3 (tl 2 128 191 (by decide) (by decide) (by decide) ⟨_,rfl,?_⟩)
 refine V3 (tl 3 128 191 (by decide) (by decide) (by decide) ⟨_,rfl,?_⟩)
 dsimp only
 refine W0 (fun x h'=>h'=h1∧x.1=decide (194≤b0∧b0≤223∧z7 (s.size-pos) 1 (s.get! (pos+1)).toNat 128 191)) ?_ ?_
 ·by_cases g1:194≤b0
  ·have e1:(194:Int)≤b0:=by omega
   by_cases g2:b0≤223
   ·have e2:(b0:Int)≤223:=by omega
    simp[g1,g2,e1,e2]
   ·have e2:¬(b0:Int)≤223:=by omega
    simp[g1,g2,e1,e2]
  ·have e1:¬(194:Int)≤b0:=by omega
   simp[g1,e1]
 rintro⟨x,⟨⟩⟩ h2 ⟨rfl,hx⟩
 simp only at hx
 subst hx
 (try dsimp only);rw[V4]
 by_cases c2:194≤b0∧b0≤223∧z7 (s.size-pos) 1 (s.get! (pos+1)).toNat 128 191
 ·rw[if_pos (by simpa using c2)]
  rw[if_pos c2] at hq
  exact hq
 rw[if_neg (by simpa using c2)]
 rw[if_neg c2] at hq
 refine W0 (fun x h'=>h'=h2∧x.1=decide (224≤b0∧b0≤239∧z7 (s.size-pos) 1 (s.get! (pos+1)).toNat 128 191∧z7 (s.size-pos) 2 (s.get! (pos+2)).toNat 128 191)) ?_ ?_
 ·by_cases g1:224≤b0
  ·have e1:(224:Int)≤b0:=by omega
   by_cases g2:b0≤239
   ·have e2:(b0:Int)≤239:=by omega
    by_cases g3:z7 (s.size-pos) 1 (s.get! (pos+1)).toNat 128 191<;>simp[g1,g2,e1,e2,g3]
   ·have e2:¬(b0:Int)≤239:=by omega
    simp[g1,g2,e1,e2]
  ·have e1:¬(224:Int)≤b0:=by omega
   simp[g1,e1]
 rintro⟨x,⟨⟩⟩ h3 ⟨rfl,hx⟩
 simp only at hx
 subst hx
 (try dsimp only);rw[V4]
 by_cases c3:224≤b0∧b0≤239∧z7 (s.size-pos) 1 (s.get! (pos+1)).toNat 128 191∧z7 (s.size-pos) 2 (s.get! (pos+2)).toNat 128 191
 ·rw[if_pos (by simpa using c3)]
  rw[if_pos c3] at hq
  refine V3 (tl 1 160 191 (by decide) (by decide) (by decide) ⟨_,rfl,?_⟩)
  refine V3 (tl 1 128 159 (by decide) (by decide) (by decide) ⟨_,rfl,?_⟩)
  dsimp only
  refine W0 (fun x h'=>h'=h3∧x.1=decide ((b0=224∧¬z7 (s.size-pos) 1 (s.get! (pos+1)).toNat 160 191)∨(b0=237∧¬z7 (s.size-pos) 1 (s.get! (pos+1)).toNat 128 159))) ?_ ?_
  ·by_cases g1:b0=224
   ·subst g1
    by_cases g2:z7 (s.size-pos) 1 (s.get! (pos+1)).toNat 160 191<;>simp[g2]
   ·have e1:¬(b0:Int)=224:=by omega
    by_cases g3:b0=237
    ·subst g3
     simp
    ·have e3:¬(b0:Int)=237:=by omega
     simp[g1,g3,e1,e3]
  rintro⟨x,⟨⟩⟩ h4 ⟨rfl,hx⟩
  simp only at hx
  subst hx
  (try dsimp only);rw[V4]
  by_cases c4:(b0=224∧¬z7 (s.size-pos) 1 (s.get! (pos+1)).toNat 160 191)∨(b0=237∧¬z7 (s.size-pos) 1 (s.get! (pos+1)).toNat 128 159)
  ·rw[if_pos (by simp only[c4,decide_true])]
   rw[if_pos c4] at hq
   exact hq
  ·rw[if_neg (by simp only[c4,decide_false,H7,not_false_eq_true])]
   rw[if_neg c4] at hq
   exact hq
 rw[if_neg (by simpa using c3)]
 rw[if_neg c3] at hq
 refine W0 (fun x h'=>h'=h3∧x.1=decide (240≤b0∧b0≤244∧z7 (s.size-pos) 1 (s.get! (pos+1)).toNat 128 191∧z7 (s.size-pos) 2 (s.get! (pos+2)).toNat 128 191∧z7 (s.size-pos) 3 (s.get! (pos+3)).toNat 128 191)) ?_ ?_
 ·by_cases g1:240≤b0
  ·have e1:(240:Int)≤b0:=by omega
   by_cases g2:b0≤244
   ·have e2:(b0:Int)≤244:=by omega
    by_cases g3:z7 (s.size-pos) 1 (s.get! (pos+1)).toNat 128 191<;>by_cases g4:z7 (s.size-pos) 2 (s.get! (pos+2)).toNat 128 191<;>simp[g1,g2,e1,e2,g3,g4]
   ·have e2:¬(b0:Int)≤244:=by omega
    simp[g1,g2,e1,e2]
  ·have e1:¬(240:Int)≤b0:=by omega
   simp[g1,e1]
 rintro⟨x,⟨⟩⟩ h4 ⟨rfl,hx⟩
 simp only at hx
 subst hx
 (try dsimp only);rw[V4]
 by_cases c5:240≤b0∧b0≤244∧z7 (s.size-pos) 1 (s.get! (pos+1)).toNat 128 191∧z7 (s.size-pos) 2 (s.get! (pos+2)).toNat 128 191∧z7 (s.size-pos) 3 (s.get! (pos+3)).toNat 128 191
 ·rw[if_pos (by simpa using c5)]
  rw[if_pos c5] at hq
  refine V3 (tl 1 144 191 (by decide) (by decide) (by decide) ⟨_,rfl,?_⟩)
  refine V3 (tl 1 128 143 (by decide) (by decide) (by decide) ⟨_,rfl,?_⟩)
  dsimp only
  refine W0 (fun x h'=>h'=h4∧x.1=decide ((b0=240∧¬z7 (s.size-pos) 1 (s.get! (pos+1)).toNat 144 191)∨(b0=244∧¬z7 (s.size-pos) 1 (s.get! (pos+1)).toNat 128 143))) ?_ ?_
  ·by_cases g1:b0=240
   ·subst g1
    by_cases g2:z7 (s.size-pos) 1 (s.get! (pos+1)).toNat 144 191<;>simp[g2]
   ·have e1:¬(b0:Int)=240:=by omega
    by_cases g3:b0=244
    ·subst g3
     simp
    ·have e3:¬(b0:Int)=244:=by omega
     simp[g1,g3,e1,e3]
  rintro⟨x,⟨⟩⟩ h5 ⟨rfl,hx⟩
  simp only at hx
  subst hx
  (try dsimp only);rw[V4]
  by_cases c6:(b0=240∧¬z7 (s.size-pos) 1 (s.get! (pos+1)).toNat 144 191)∨(b0=244∧¬z7 (s.size-pos) 1 (s.get! (pos+1)).toNat 128 143)
  ·rw[if_pos (by simp only[c6,decide_true])]
   rw[if_pos c6] at hq
   exact hq
  ·rw[if_neg (by simp only[c6,decide_false,H7,not_false_eq_true])]
   rw[if_neg c6] at hq
   exact hq
 rw[if_neg (by simpa using c5)]
 rw[if_neg c5] at hq
 exact hq
theorem B4f(hs:sat h R)(s:B4p)(hsz:s.size≤9223372036854775800){Q:Value→Heap→Prop}(hq:Q (B9L (r9 s)) h):
  V9 prog 199 #[.string s] h Q:=by
 refine B1Y s h Q ?_
 delta B4d bn ci ie pu vi wi
 rw[U7]
 refine o7 (γ:=Nat×Nat) (fun g c h'=>c.1=(g.2:Int)∧g.2≤s.size∧s.size-g.2<g.1∧A6f s g.1 g.2=r9 s∧h'=h) (fun g=>g.1) (s.size+1,0) ⟨rfl,C9 _,by simp,rfl,rfl⟩ ?_
 rintro⟨f,at'⟩ ⟨c,⟨⟩⟩ h1 ⟨hc,hle,hf,hg,rfl⟩
 simp only at hc hle hf hg
 subst hc
 cases f with
 |zero=>omega
 |succ f=>
 simp only[A6f] at hg
 (try dsimp only);rw[V4]
 by_cases ah:at'<s.size
 ·rw[if_pos ah] at hg
  rw[if_pos (by simp only[decide_eq_true_eq];omega)]
  refine V3 (C5m hsz ah ⟨((A2q (s.extract at' s.size):Nat):Int),rfl,?_⟩)
  have hn:=B5Z (s.extract at' s.size)
  generalize A2q (s.extract at' s.size)=n at hg hn⊢
  have gQ:(s.extract at' s.size).size=s.size-at':=by simp
  rw[gQ] at hn
  (try dsimp only);rw[V4]
  by_cases h0:n=0
  ·rw[if_pos h0] at hg
   rw[←hg] at hq
   rw[if_pos (by simp[h0])]
   simp only[D5,E4,V8]
   exact hq
  ·rw[if_neg h0] at hg
   rw[if_neg (by simp[h0])]
   simp only[D5,E4,V8]
   exact .mk (f,at'+n) (by simp) ⟨by simp only[];rw[W6 (by omega) (by omega)];rfl,by simp only[];omega,by simp only[];omega,hg,rfl⟩
 ·rw[if_neg ah] at hg
  rw[←hg] at hq
  rw[if_neg (by simp only[decide_eq_true_eq];omega)]
  simp only[D5,E4,V8]
  exact hq
end
open Go.H Go.Proofs Go.Lib
theorem B4s(c:UInt8):∀(x r:List UInt8),c∉x→indexByte (x++c::r) c=x.length
 |[],r,_=>by simp[indexByte]
 |b::x,r,h=>by
  simp only[D3,not_or] at h
  have hb:(b==c)=false:=by simpa using fun e=>h.1 e.symm
  have ih:=B4s c x r h.2
  simp only[G7,indexByte,hb,ih]
  have:¬(((x.length:Nat):Int)== -1)=true:=by simp
  simp only[H7,if_false,if_neg this,B7]
  omega
theorem B2s(c:UInt8):∀(x:List UInt8),c∉x→indexByte x c= -1
 |[],_=>rfl
 |b::x,h=>by
  simp only[D3,not_or] at h
  have hb:(b==c)=false:=by simpa using fun e=>h.1 e.symm
  simp[indexByte,hb,B2s c x h.2]
theorem C74(c:UInt8)(x r:List UInt8)(h:c∉x):index (x++c::r) [c]=x.length:=by rw[index_one];exact B4s c x r h
theorem C59(c:UInt8)(x:List UInt8)(h:c∉x):index x [c]= -1:=by rw[index_one];exact B2s c x h
theorem C0i(c:UInt8)(x r:List UInt8)(k:Nat)(h:c∉x):splitK [c] 0 (k+1) (x++c::r)=x::splitK [c] 0 k r:=by
 have hi:=C74 c x r h
 have hn:¬(index (x++c::r) [c]== -1)=true:=by rw[hi];simp
 simp only[splitK,if_neg hn,hi]
 congr 1
 all_goals simp
theorem B80(c:UInt8)(x:List UInt8)(k:Nat)(h:c∉x):splitK [c] 0 k x=[x]:=by
 cases k with
 |zero=>rfl
 |succ k=>simp[splitK,C59 c x h]
theorem C1p(c:UInt8)(x r:List UInt8)(h:c∉x):count (x++c::r) [c]=1+count r [c]:=by
 rw[count_hit (by simp) (C74 c x r h)]
 simp
theorem B9Y(c:UInt8)(x:List UInt8)(h:c∉x):count x [c]=0:=count_miss (C59 c x h)
def lev(c:UInt8):List UInt8→List UInt8→List (List UInt8)
 |x,[]=>[x]
 |x,b::r=>if b=c then x::lev c [] r else lev c (x++[b]) r
theorem B3q(c:UInt8):∀(r x:List UInt8),c∉x→splitK [c] 0 (count (x++r) [c]) (x++r)=lev c x r
 |[],x,h=>by
  rw[C1,B9Y c x h,B80 c x _ h]
  rfl
 |b::r,x,h=>by
  by_cases hb:b=c
  ·subst hb
   rw[C1p b x r h,Nat.add_comm,C0i b x r _ h]
   have ih:=B3q b r [] (by simp)
   rw[F0] at ih
   rw[ih]
   simp[lev]
  ·have ih:=B3q c r (x++[b]) (by simp[h,Ne.symm hb])
   rw[D7] at ih
   simp only[lev,if_neg hb]
   exact ih
theorem B5b(c:UInt8):∀(r x:List UInt8),(lev c x r).length=r.count c+1
 |[],x=>rfl
 |b::r,x=>by
  by_cases hb:b=c
  ·subst hb
   simp only[lev,if_pos,B7,List.count_cons_self,B5b b r []]
  ·simp only[lev,if_neg hb,B5b c r (x++[b]),List.count_cons_of_ne hb]
theorem data_inj{x y:B4p}(h:x.data.toList=y.data.toList):x=y:=by
 cases x;cases y
 simp at h
 rw[h]
theorem A7R:∀{xs ys:List B4p},xs.map (·.data.toList)=ys.map (·.data.toList)→xs=ys
 |[],[],_=>rfl
 |[],_::_,h=>by simp at h
 |_::_,[],h=>by simp at h
 |x::xs,y::ys,h=>by
  simp only[B5,List.cons.injEq] at h
  rw[data_inj h.1,A7R h.2]
def B0n:B4p:=ByteArray.mk #[47]
def levels(s:B4p):List B4p:=splitB B0n 0 (countB s B0n) s
theorem A28(s:B4p):(levels s).map (·.data.toList)=lev 47 [] s.data.toList:=by
 unfold levels
 rw[splitB_data]
 exact B3q 47 s.data.toList [] (by simp)
theorem A7S(s:B4p):(levels s).length=s.data.toList.count 47+1:=by
 have:=congrArg List.length (A28 s)
 rw[C0,B5b] at this
 exact this
theorem B3p(s:B4p):levels s≠[]:=fun h=>by
 have:=A7S s
 rw[h] at this
 simp at this
theorem C2w(c:UInt8):∀(r x:List UInt8),∀y∈lev c x r,y.length≤x.length+r.length
 |[],x,y,h=>by rw[B9.1 h];simp
 |b::r,x,y,h=>by
  unfold lev at h
  split at h
  ·rcases D3.1 h with rfl|h
   ·simp
   ·have:=C2w c r [] y h
    simp at this⊢
    omega
  ·have:=C2w c r (x++[b]) y h
   simp at this⊢
   omega
theorem C4H{s x:B4p}(h:x∈levels s):x.size≤s.size:=by
 have h1:x.data.toList∈lev 47 [] s.data.toList:=by rw[←A28];exact B4 h
 have:=C2w 47 _ _ _ h1
 simp only[G1,M9,N6] at this
 exact this
def v8:B4p:=ByteArray.mk #[43]
def q8:B4p:=ByteArray.mk #[35]
def hasB(c:UInt8)(s:B4p):Bool:=decide (c∈s.data.toList)
theorem B8x(c:UInt8):∀l:List UInt8,0≤indexByte l c↔c∈l
 |[]=>by simp[indexByte]
 |b::l=>by
  by_cases hb:b=c
  ·subst hb
   simp[indexByte]
  ·have ih:=B8x c l
   have rk:(b==c)=false:=by simpa using hb
   have qM:=indexByte_ge l c
   simp only[indexByte,rk,H7,if_false,D3,Ne.symm hb,false_or]
   rw[←ih]
   by_cases h1:indexByte l c= -1
   ·simp[h1]
   ·have h2:¬(indexByte l c== -1)=true:=by simpa using h1
    rw[if_neg h2]
    omega
theorem C4N(c:UInt8)(s:B4p):decide (0≤indexByte s.data.toList c)=hasB c s:=by
 unfold hasB
 simp only[B8x]
def A1v(s:B4p):Bool:=(r9 s).isNone&&decide (s.size≠0)&&decide (s.size≤256)&&decide ((levels s).length≤32)
def a8(s:B4p):Bool:=A1v s&& !hasB 43 s&& !hasB 35 s
def A4o:List B4p→Bool
 |[]=>true
 |x::r=>(if hasB 35 x then(r.isEmpty&&decide (x.size≤1)) else(!hasB 43 x||decide (x.size≤1)))&&A4o r
def Y2(s:B4p):Bool:=A1v s&&A4o (levels s)
theorem A1a{s:B4p}:A1v s=true↔r9 s=none∧s.size≠0∧s.size≤256∧(levels s).length≤32:=by
 unfold A1v
 simp[Option.isNone_iff_eq_none,and_assoc]
theorem A2U{s:B4p}(h:A1v s=true):s.size≤256:=(A1a.1 h).2.2.1
theorem A4R{s:B4p}(h:a8 s=true):A1v s=true:=by
 unfold a8 at h
 simp only[E8] at h
 exact h.1.1
theorem A0o{s:B4p}(h:Y2 s=true):A1v s=true:=by
 unfold Y2 at h
 simp only[E8] at h
 exact h.1
theorem C3O{c:UInt8}{x:B4p}(h:hasB c x=true):x.size≤1↔x=ByteArray.mk #[c]:=by
 unfold hasB at h
 rw[decide_eq_true_eq] at h
 constructor
 ·intro h1
  refine data_inj ?_
  have hl:x.data.toList.length≤1:=by rw[N6];exact h1
  generalize x.data.toList=l at h hl
  match l,h,hl with
  |[b],h,_=>rw[B9.1 h]
  |_::_::_,_,hl=>simp at hl
 ·rintro rfl
  exact D9 1
theorem C6k(c:UInt8):hasB c (ByteArray.mk #[c])=true:=by simp[hasB]
def B3r(x:B4p)(last:Bool):Bool:=(hasB 43 x&&decide (x≠v8))||(hasB 35 x&&(decide (x≠q8)|| !last))
theorem A79(x:B4p)(r:List B4p):A4o (x::r)=(!B3r x r.isEmpty&&A4o r):=by
 unfold B3r
 rw[A4o]
 congr 1
 by_cases hX:hasB 35 x=true
 ·rw[if_pos hX,hX]
  by_cases hx:x=q8
  ·subst hx
   have:hasB 43 q8=false:=rfl
   rw[this]
   cases r.isEmpty<;>rfl
  ·have hs:¬x.size≤1:=fun h=>hx ((C3O hX).1 h)
   simp[hs,hx]
 ·rw[if_neg hX]
  simp only[Bool.not_eq_true] at hX
  rw[hX]
  by_cases ew:hasB 43 x=true
  ·rw[ew]
   by_cases hx:x=v8
   ·subst hx
    rfl
   ·have hs:¬x.size≤1:=fun h=>hx ((C3O ew).1 h)
    simp[hs,hx]
  ·simp only[Bool.not_eq_true] at ew
   rw[ew]
   rfl
def A2x:List B4p→List B4p→Bool
 |[],n=>n.isEmpty
 |f::fs,n=>if f=q8 then true else match n with
  |[]=>false
  |m::ns=>if f≠v8∧f≠m then false else A2x fs ns
theorem A4l(f:B4p)(fs n:List B4p):A2x (f::fs) n=if f=q8 then true else match n with
  |[]=>false
  |m::ns=>if f≠v8∧f≠m then false else A2x fs ns:=by cases n<;>rfl
def eqL:List B4p→List B4p→Bool
 |[],[]=>true
 |a::l,b::m=>(decide (a=v8)||decide (a=b))&&eqL l m
 |_,_=>false
def B3Q(f:List B4p):Bool:=decide (f[f.length-1]? =some q8)
def A7n(f:List B4p):List B4p:=if B3Q f=true then f.take (f.length-1) else f
def B9w(f n:List B4p):Bool:=
 if n.length<(A7n f).length∨(B3Q f=false∧(A7n f).length<n.length) then false else eqL (A7n f) (n.take (A7n f).length)
theorem B8P(x y:B4p)(r:List B4p):B3Q (x::y::r)=B3Q (y::r):=by
 unfold B3Q
 simp
theorem C40(x y:B4p)(r:List B4p):A7n (x::y::r)=x::A7n (y::r):=by
 unfold A7n
 rw[B8P]
 split
 ·simp
 ·rfl
theorem B57:∀(f n:List B4p),f≠[]→A4o f=true→A2x f n=B9w f n
 |[],_,h,_=>absurd rfl h
 |[x],n,_,hf=>by
  rw[A4l]
  unfold B9w
  by_cases hx:x=q8
  ·have ha:B3Q [x]=true:=by simp[B3Q,hx]
   have hc:A7n [x]=[]:=by simp[A7n,ha]
   rw[if_pos hx,ha,hc]
   simp[eqL]
  ·have ha:B3Q [x]=false:=by simp[B3Q,hx]
   have hc:A7n [x]=[x]:=by simp[A7n,ha]
   rw[if_neg hx,ha,hc]
   match n with
   |[]=>simp
   |[m]=>
    by_cases h1:x=v8
    ·simp[eqL,A2x,h1]
    ·by_cases h2:x=m<;>simp[eqL,A2x,h1,h2]
   |m::m'::ns=>
    by_cases h1:x=v8
    ·simp[A2x,h1]
    ·by_cases h2:x=m<;>simp[A2x,h1,h2]
 |x::y::r,n,_,hf=>by
  have xJ:A4o (y::r)=true:=by
   rw[A4o,E8] at hf
   exact hf.2
  have hx:x≠q8:=fun h=>by
   subst h
   rw[A79] at hf
   have:B3r q8 (y::r).isEmpty=true:=rfl
   rw[this] at hf
   simp at hf
  have ih:=fun ns=>B57 (y::r) ns (by simp) xJ
  rw[A4l,if_neg hx]
  unfold B9w at ih⊢
  rw[B8P,C40]
  match n with
  |[]=>simp
  |m::ns=>
   have ih:=ih ns
   simp only[B7,Nat.add_lt_add_iff_right,List.take_succ_cons]
   by_cases hc:x≠v8∧x≠m
   ·rw[if_pos hc]
    split
    ·rfl
    ·simp[eqL,hc.1,hc.2]
   ·rw[if_neg hc,ih]
    have hd:(decide (x=v8)||decide (x=m))=true:=by
     by_cases h1:x=v8
     ·simp[h1]
     ·by_cases h2:x=m
      ·simp[h2]
      ·exact absurd ⟨h1,h2⟩ hc
    split
    ·rfl
    ·simp only[eqL,hd,G5]
def A35(filter name:B4p):Bool:=decide (name.get! 0=36)&&(decide (filter.get! 0=43)||decide (filter.get! 0=35))
def Z8(filter name:B4p):Bool:=Y2 filter&&a8 name&& !A35 filter name&&A2x (levels filter) (levels name)
theorem B3E{s:B4p}(h:s.size≠0)(c:UInt8):s.extract 0 1=ByteArray.mk #[c]↔s.get! 0=c:=by
 obtain⟨⟨l⟩⟩:=s
 match l with
 |[]=>exact absurd rfl h
 |b::l=>
  have e1:(ByteArray.mk (List.toArray (b::l))).get! 0=b:=rfl
  rw[e1]
  constructor
  ·intro he
   have:=congrArg (fun x:B4p=>x.data.toList) he
   simp at this
   exact this
  ·rintro rfl
   refine data_inj ?_
   simp
open Go.Proofs Go.Shelf
def C21:Go.Shelf.Ren:=⟨fun n=>match n with|138=>61|195=>103|218=>104|143=>62|219=>105|217=>154|225=>155|224=>156|267=>157|266=>205|314=>206|n=>n,fun n=>match n with|9=>9|3=>3|4=>4|5=>5|0=>0|46=>263|146=>335|51=>315|n=>n,fun n=>match n with|1=>0|n=>n⟩
theorem C8X:Lays.n138 prog C21 where
 mixed:=by kernel_rfl
 f138:=func61.trans (congrArg some (by kernel_rfl))
 f143:=func62.trans (congrArg some (by kernel_rfl))
 f195:=func103.trans (congrArg some (by kernel_rfl))
 f217:=func154.trans (congrArg some (by kernel_rfl))
 f218:=func104.trans (congrArg some (by kernel_rfl))
 f219:=func105.trans (congrArg some (by kernel_rfl))
 f224:=func156.trans (congrArg some (by kernel_rfl))
 f225:=func155.trans (congrArg some (by kernel_rfl))
 f266:=func205.trans (congrArg some (by kernel_rfl))
 f267:=func157.trans (congrArg some (by kernel_rfl))
 f314:=func206.trans (congrArg some (by kernel_rfl))
 t0:=underlying0
 a0:=isAgg0
 z0:=sizeOf0
 v0:=zeroValue0
 t3:=underlying3
 a3:=isAgg3
 z3:=sizeOf3
 v3:=zeroValue3
 t4:=underlying4
 a4:=isAgg4
 z4:=sizeOf4
 v4:=zeroValue4
 t5:=underlying5
 a5:=isAgg5
 z5:=sizeOf5
 v5:=zeroValue5
 t9:=underlying9
 a9:=isAgg9
 z9:=sizeOf9
 v9:=zeroValue9
 t46:=underlying263
 a46:=isAgg263
 z46:=sizeOf263
 v46:=zeroValue263
 t51:=underlying315
 a51:=isAgg315
 z51:=sizeOf315
 v51:=zeroValue315
 t146:=underlying335
 a146:=isAgg335
 z146:=sizeOf335
 v146:=zeroValue335
 g1:=by kernel_rfl
def C41:Go.Shelf.Ren:=⟨fun n=>match n with|144=>31|143=>62|219=>105|217=>154|225=>155|224=>156|267=>157|266=>205|314=>206|n=>n,fun n=>match n with|9=>9|4=>4|3=>3|5=>5|46=>263|146=>335|51=>315|n=>n,fun n=>match n with|1=>0|n=>n⟩
theorem C9K:Lays.n144 prog C41 where
 mixed:=by kernel_rfl
 f143:=func62.trans (congrArg some (by kernel_rfl))
 f144:=func31.trans (congrArg some (by kernel_rfl))
 f217:=func154.trans (congrArg some (by kernel_rfl))
 f219:=func105.trans (congrArg some (by kernel_rfl))
 f224:=func156.trans (congrArg some (by kernel_rfl))
 f225:=func155.trans (congrArg some (by kernel_rfl))
 f266:=func205.trans (congrArg some (by kernel_rfl))
 f267:=func157.trans (congrArg some (by kernel_rfl))
 f314:=func206.trans (congrArg some (by kernel_rfl))
 t3:=underlying3
 a3:=isAgg3
 z3:=sizeOf3
 v3:=zeroValue3
 t4:=underlying4
 a4:=isAgg4
 z4:=sizeOf4
 v4:=zeroValue4
 t5:=underlying5
 a5:=isAgg5
 z5:=sizeOf5
 v5:=zeroValue5
 t9:=underlying9
 a9:=isAgg9
 z9:=sizeOf9
 v9:=zeroValue9
 t46:=underlying263
 a46:=isAgg263
 z46:=sizeOf263
 v46:=zeroValue263
 t51:=underlying315
 a51:=isAgg315
 z51:=sizeOf315
 v51:=zeroValue315
 t146:=underlying335
 a146:=isAgg335
 z146:=sizeOf335
 v146:=zeroValue335
 g1:=by kernel_rfl
def B0N:Go.Shelf.Ren:=⟨fun n=>match n with|146=>74|221=>120|268=>170|138=>61|143=>62|195=>103|197=>153|218=>104|219=>105|260=>204|217=>154|225=>155|224=>156|267=>157|266=>205|314=>206|n=>n,fun n=>match n with|9=>9|31=>43|3=>3|4=>4|0=>0|105=>289|21=>21|5=>5|46=>263|119=>373|139=>376|138=>375|146=>335|51=>315|n=>n,fun n=>match n with|1=>0|3=>1|4=>2|n=>n⟩
theorem C5y:Lays.n146 prog B0N where
 mixed:=by kernel_rfl
 f138:=func61.trans (congrArg some (by kernel_rfl))
 f143:=func62.trans (congrArg some (by kernel_rfl))
 f146:=func74.trans (congrArg some (by kernel_rfl))
 f195:=func103.trans (congrArg some (by kernel_rfl))
 f197:=func153.trans (congrArg some (by kernel_rfl))
 f217:=func154.trans (congrArg some (by kernel_rfl))
 f218:=func104.trans (congrArg some (by kernel_rfl))
 f219:=func105.trans (congrArg some (by kernel_rfl))
 f221:=func120.trans (congrArg some (by kernel_rfl))
 f224:=func156.trans (congrArg some (by kernel_rfl))
 f225:=func155.trans (congrArg some (by kernel_rfl))
 f260:=func204.trans (congrArg some (by kernel_rfl))
 f266:=func205.trans (congrArg some (by kernel_rfl))
 f267:=func157.trans (congrArg some (by kernel_rfl))
 f268:=func170.trans (congrArg some (by kernel_rfl))
 f314:=func206.trans (congrArg some (by kernel_rfl))
 t0:=underlying0
 a0:=isAgg0
 z0:=sizeOf0
 v0:=zeroValue0
 t3:=underlying3
 a3:=isAgg3
 z3:=sizeOf3
 v3:=zeroValue3
 t4:=underlying4
 a4:=isAgg4
 z4:=sizeOf4
 v4:=zeroValue4
 t5:=underlying5
 a5:=isAgg5
 z5:=sizeOf5
 v5:=zeroValue5
 t9:=underlying9
 a9:=isAgg9
 z9:=sizeOf9
 v9:=zeroValue9
 t21:=underlying21
 a21:=isAgg21
 z21:=sizeOf21
 v21:=zeroValue21
 t31:=underlying43
 a31:=isAgg43
 z31:=sizeOf43
 v31:=zeroValue43
 t46:=underlying263
 a46:=isAgg263
 z46:=sizeOf263
 v46:=zeroValue263
 t51:=underlying315
 a51:=isAgg315
 z51:=sizeOf315
 v51:=zeroValue315
 t105:=underlying289
 a105:=isAgg289
 z105:=sizeOf289
 v105:=zeroValue289
 t119:=underlying373
 a119:=isAgg373
 z119:=sizeOf373
 t138:=underlying375
 a138:=isAgg375
 z138:=sizeOf375
 v138:=zeroValue375
 t139:=underlying376
 a139:=isAgg376
 z139:=sizeOf376
 v139:=zeroValue376
 t146:=underlying335
 a146:=isAgg335
 z146:=sizeOf335
 v146:=zeroValue335
 g1:=by kernel_rfl
 g3:=by kernel_rfl
 g4:=by kernel_rfl
end Go.Proofs.YtidlldnlphdhcaaGreatDoor
namespace Go.H
section
open Go.RowKit Go.Maps Go.Sort Go.Shelf Go.Proofs
theorem B7b{w w':World}(hb:Below w.heap.size w w'):∀(k:Nat) o,w.heap[k]? =some o→w'.heap[k]? =some o:=fun k o ho=>by
 have hk:=(F9.1 ho).1
 rw[hb.block k hk];exact ho
theorem B69{B:Nat}{w w':World}(hb:Below B w w'):A0i w w':=⟨hb.os,hb.tape,hb.output⟩
theorem B5V{α:Type}{enc:α→D0r}{size base:Nat}{T:TypeId}{w':World}{v:Value}{n:Nat}{xs:List α}{h:Heap}{R:List Asn}
  (hr:w'.ownsRow base T size v n (xs.flatMap enc))(hn:n=xs.length)(hs:sat h R)(hg:∀(k:Nat) o,h[k]? =some o→w'.heap[k]? =some o)(hb:h.size≤base):
  ∃s:Slc,v=.slice s.a s.len s.cap∧sat w'.heap (V1 enc size s xs::R):=by
 obtain⟨h1,⟨rfl,h2⟩|⟨g,cap,cur,rfl,h3,h4,h5,h6,h7,h8⟩⟩:=hr
 ·have hx:xs=[]:=List.eq_nil_of_length_eq_zero (by omega)
  subst hx
  exact⟨⟨none,0,0⟩,rfl,Z2 (hs.grow hg)⟩
 ·exact⟨⟨some ⟨g,0,none⟩,n,cap⟩,rfl,A1N (o:=0) ⟨by simp,h5,hn,by simp only[M9];exact U1 h7.symm,by simpa using h8⟩ (hs.eJ hg (by omega) h4)⟩
abbrev eI(x:Int):D0r:=[.int .i64 x]
def Z0(l:List Int):List Int:=l.mergeSort fun x y=>decide (x≤y)
section
variable {P:Program} {ρk ρs ρt:Ren} {V:Type} {ev:V→Value} {h:Heap} {R:List Asn}
theorem B09(K:SlLaysZI.n7 P ρk)(m:Option Nat){Q:Value→Heap→Prop}(hq:Q (.func (.func (ρk.f 10)) #[] #[.pointer (some ⟨h.size,0,none⟩)]) (h.push (.cells #[.map m] (ρk.t 23)))):
  V9 P (ρk.f 7) #[.map m] h Q:=fun w hw=>by
 subst hw
 refine(callsIn_wide (n:=5)).1 ((AnyZI.keys_in K Fence.wide 5 trivial rfl m w).mono ?_)
 rintro e w' ⟨rfl,rfl⟩
 exact⟨_,rfl,⟨rfl,rfl,rfl⟩,hq⟩
theorem C8h(T:SlLaysM.n5 P ρt)(he:ρt.f 5=ρs.f 9)(m:Nat):AnyZI.SortsIn P ρs Fence.wide m:=by
 refine⟨fun blk off cap ss W hH hblk hsz=>?_,fun p cap W=>?_⟩
 ·rw[←he];exact callsIn_wide.2 (AnyM.slices_Sort_int T blk off cap ss W hH hblk hsz)
 ·rw[←he];exact callsIn_wide.2 (AnyM.slices_Sort_int_none T p cap W)
theorem C0B{H:Type}{w:World}{b:Nat}{l:List (Int×V)}{k:TypeId}(hk:P.underlying k=some (.int .i64))(hs:sat w.heap (mapA (fun n:Int=>.int .i64 n) ev b l::R))
  (hw:∀p∈l,(Lit.int .i64 p.1).wf=true)(hl:l.length≤maxLen):
  ∃D0:DataW H,w.ownsMap P k (fun _=>some (.nil,[])) b l.length D0∧Maps.size D0=l.length∧(intKeys D0).Perm (l.map (·.1)):=by
 obtain⟨es,c,⟨he,bF⟩,hs⟩:=A1n.1 hs
 have hsz:es.size=l.length:=by
  have:=congrArg List.length he
  simpa using this
 have cY:es.toList.map (·.key)=l.map (fun p=>Value.int .i64 p.1):=by
  have:=congrArg (List.map Prod.fst) he
  simpa[Q9] using this
 have kC:∀x∈es.toList,∃p∈l,x.key=.int .i64 p.1∧WideElems.rd (H:=H) P k (fun _=>some (.nil,[])) x=some (.int .i64 p.1,.nil):=by
  intro x hx
  have hm:x.key∈l.map (fun p=>Value.int .i64 p.1):=by rw[←cY];exact B4 hx
  obtain⟨p,hp,e⟩:=E3.1 hm
  exact⟨p,hp,e.symm,by simp[WideElems.rd,←e,keyOf,hk,mapKey,hw p hp]⟩
 have ll:es.toList.map (WideElems.rg (H:=H) P k (fun _=>some (.nil,[])))=l.map (fun p=>((Lit.int .i64 p.1,DataW.nil):Lit×DataW H)):=by
  have e1:es.toList.map (WideElems.rg (H:=H) P k (fun _=>some (.nil,[])))=(es.toList.map (·.key)).map (fun v=>(match v with|.int q n=>Lit.int q n|_=>.bool false,DataW.nil)):=by
   rw[F3]
   refine I2 fun x hx=>?_
   obtain⟨p,hp,h1,h2⟩:=kC x hx
   simp[WideElems.rg,h2,h1]
  rw[e1,cY,F3]
  rfl
 refine⟨_,⟨es,c,hs.get,⟨by omega,bF,fun x hx=>?_⟩,by omega,rfl⟩,?_,?_⟩
 ·obtain⟨p,_,_,h2⟩:=kC x hx
  exact⟨_,h2⟩
 ·rw[ll,Maps.size_eq,length_sorted,C0]
 ·rw[ll]
  show(List.map _ _).Perm _
  refine((WideShapes.sorted_perm _).map _).trans ?_
  rw[F3]
  exact J2 _
theorem A7B(K:SlLaysZI.n7 P ρk)(S:SlLaysZI.n6 P ρs)(T:SlLaysM.n5 P ρt)(he:ρt.f 5=ρs.f 9)(e9:∀args w,(callFunc (ρs.f 9) args).run P w=.ok (.enter (ρs.f 9) args) w)
  (eg:∀args w,(callFunc (ρk.f 10) args).run P w=.ok (.enter (ρk.f 10) args) w){b bm:Nat}{l:List (Int×V)}
  (hs:sat h (mapA (fun n:Int=>.int .i64 n) ev b l::R))(hw:∀p∈l,(Lit.int .i64 p.1).wf=true)(hl:l.length*8≤140737488355328)(hc:W8 h ⟨bm,0,none⟩=some (.map (some b))){Q:Value→Heap→Prop}
  (hq:∀(s:Slc) h',sat h' (V1 eI 1 s (Z0 (l.map (·.1)))::mapA (fun n:Int=>.int .i64 n) ev b l::R)→Q (.slice s.a s.len s.cap) h'):
  V9 P (ρs.f 6) #[.func (.func (ρk.f 10)) #[] #[.pointer (some ⟨bm,0,none⟩)]] h Q:=fun w jN=>by
 subst jN
 have K':SlLaysZI.n10 P ρk:={K with}
 have jd:l.length≤maxLen:=by unfold maxLen;omega
 obtain⟨D0,nU,hsz,dG⟩:=C0B (H:=Unit) K'.t26 hs hw jd
 have uw:bm<w.heap.size:=by
  unfold W8 at hc
  cases hx:w.heap[bm]? with
  |none=>simp[hx] at hc
  |some o=>exact(F9.1 hx).1
 have nQ:SeqGives Fence.wide 2 P (ρk.f 10) #[.pointer (some ⟨bm,0,none⟩)] encZ (fun ss=>ss.Perm (intKeys D0)) (Maps.size D0) w:=
  AnyZI.keys_gives K' Fence.wide _ trivial rfl (by omega) bm b l.length D0 w uw hc nU
 have cS:=AnyZI.sorted_in S Fence.wide 5 trivial trivial trivial trivial rfl (by omega) (C8h T he _) e9 (ρk.f 10) #[.pointer (some ⟨bm,0,none⟩)] trivial eg _ _ (by rw[hsz];exact jd) (by rw[hsz];exact hl) _ nQ
 refine((callsIn_wide).1 cS).mono ?_
 rintro e w' ⟨v,ss,rfl,hS,aM,dw,hb⟩
 have hp:ss.Perm (l.map (·.1)):=hS.trans dG
 have e1:(ss.mergeSort fun x y=>decide (x≤y))=Z0 (l.map (·.1)):=mergeSort_of_perm_i hp
 rw[e1] at aM
 have e2:(Z0 (l.map (·.1))).map encZ=(Z0 (l.map (·.1))).flatMap eI:=by
  induction Z0 (l.map (·.1)) with
  |nil=>rfl
  |cons a l ih=>rw[B5,ih];rfl
 rw[e2] at aM
 obtain⟨s,rfl,af⟩:=B5V aM (by simp[Z0,O9,hp.length_eq]) hs (B7b hb) (D9 _)
 exact⟨_,rfl,B69 hb,hq s _ af⟩
end
end
section
open Go.RowKit Go.Maps Go.Sort Go.Shelf Go.Proofs
abbrev eS(x:B4p):D0r:=[.string x]
def ofL(x:List UInt8):B4p:=⟨x.toArray⟩
def A5c(l:List B4p):List B4p:=((l.map (·.data.toList)).mergeSort fun x y=>decide (x≤y)).map ofL
section
variable {P:Program} {ρk ρs ρt:Ren} {V:Type} {ev:V→Value} {h:Heap} {R:List Asn}
theorem B6d(K:SlLaysZ.n7 P ρk)(m:Option Nat){Q:Value→Heap→Prop}(hq:Q (.func (.func (ρk.f 10)) #[] #[.pointer (some ⟨h.size,0,none⟩)]) (h.push (.cells #[.map m] (ρk.t 23)))):
  V9 P (ρk.f 7) #[.map m] h Q:=fun w hw=>by
 subst hw
 refine(callsIn_wide (n:=5)).1 ((AnyZ.keys_in K Fence.wide 5 trivial rfl m w).mono ?_)
 rintro e w' ⟨rfl,rfl⟩
 exact⟨_,rfl,⟨rfl,rfl,rfl⟩,hq⟩
theorem C8g(T:SlLaysM.n6 P ρt)(he:ρt.f 6=ρs.f 9)(m:Nat):AnyZ.SortsIn P ρs Fence.wide m:=by
 refine⟨fun blk off cap ss W hH hblk hsz=>?_,fun p cap W=>?_⟩
 ·rw[←he];exact callsIn_wide.2 (AnyM.slices_Sort_string T blk off cap ss W hH hblk hsz)
 ·rw[←he];exact callsIn_wide.2 (AnyM.slices_Sort_string_none T p cap W)
theorem B9o{H:Type}{w:World}{b:Nat}{l:List (B4p×V)}{k:TypeId}(hk:P.underlying k=some .string)(hs:sat w.heap (mapA (fun n:B4p=>.string n) ev b l::R))
  (hw:∀p∈l,p.1.size≤maxLen)(hl:l.length≤maxLen):
  ∃D0:DataW H,w.ownsMap P k (fun _=>some (.nil,[])) b l.length D0∧Maps.size D0=l.length∧(strKeys D0).Perm (l.map (·.1.data.toList)):=by
 obtain⟨es,c,⟨he,bF⟩,hs⟩:=A1n.1 hs
 have hsz:es.size=l.length:=by
  have:=congrArg List.length he
  simpa using this
 have cY:es.toList.map (·.key)=l.map (fun p=>Value.string p.1):=by
  have:=congrArg (List.map Prod.fst) he
  simpa[Q9] using this
 have kC:∀x∈es.toList,∃p∈l,x.key=.string p.1∧WideElems.rd (H:=H) P k (fun _=>some (.nil,[])) x=some (.string p.1.data.toList,.nil):=by
  intro x hx
  have hm:x.key∈l.map (fun p=>Value.string p.1):=by rw[←cY];exact B4 hx
  obtain⟨p,hp,e⟩:=E3.1 hm
  exact⟨p,hp,e.symm,by simp[WideElems.rd,←e,keyOf,hk,mapKey,hw p hp]⟩
 have ll:es.toList.map (WideElems.rg (H:=H) P k (fun _=>some (.nil,[])))=l.map (fun p=>((Lit.string p.1.data.toList,DataW.nil):Lit×DataW H)):=by
  have e1:es.toList.map (WideElems.rg (H:=H) P k (fun _=>some (.nil,[])))=(es.toList.map (·.key)).map (fun v=>(match v with|.string q=>Lit.string q.data.toList|_=>.bool false,DataW.nil)):=by
   rw[F3]
   refine I2 fun x hx=>?_
   obtain⟨p,hp,h1,h2⟩:=kC x hx
   simp[WideElems.rg,h2,h1]
  rw[e1,cY,F3]
  rfl
 refine⟨_,⟨es,c,hs.get,⟨by omega,bF,fun x hx=>?_⟩,by omega,rfl⟩,?_,?_⟩
 ·obtain⟨p,_,_,h2⟩:=kC x hx
  exact⟨_,h2⟩
 ·rw[ll,Maps.size_eq,length_sorted,C0]
 ·rw[ll]
  show(List.map _ _).Perm _
  refine((WideShapes.sorted_perm _).map _).trans ?_
  rw[F3]
  exact J2 _
theorem B1z(K:SlLaysZ.n7 P ρk)(S:SlLaysZ.n6 P ρs)(T:SlLaysM.n6 P ρt)(he:ρt.f 6=ρs.f 9)(e9:∀args w,(callFunc (ρs.f 9) args).run P w=.ok (.enter (ρs.f 9) args) w)
  (eg:∀args w,(callFunc (ρk.f 10) args).run P w=.ok (.enter (ρk.f 10) args) w){b bm:Nat}{l:List (B4p×V)}
  (hs:sat h (mapA (fun n:B4p=>.string n) ev b l::R))(hw:∀p∈l,p.1.size≤maxLen)(hl:l.length*16≤140737488355328)(hc:W8 h ⟨bm,0,none⟩=some (.map (some b))){Q:Value→Heap→Prop}
  (hq:∀(s:Slc) h',sat h' (V1 eS 1 s (A5c (l.map (·.1)))::mapA (fun n:B4p=>.string n) ev b l::R)→Q (.slice s.a s.len s.cap) h'):
  V9 P (ρs.f 6) #[.func (.func (ρk.f 10)) #[] #[.pointer (some ⟨bm,0,none⟩)]] h Q:=fun w jN=>by
 subst jN
 have K':SlLaysZ.n10 P ρk:={K with}
 have jd:l.length≤maxLen:=by unfold maxLen;omega
 obtain⟨D0,nU,hsz,dG⟩:=B9o (H:=Unit) K'.t26 hs hw jd
 have uw:bm<w.heap.size:=by
  unfold W8 at hc
  cases hx:w.heap[bm]? with
  |none=>simp[hx] at hc
  |some o=>exact(F9.1 hx).1
 have nQ:SeqGives Fence.wide 2 P (ρk.f 10) #[.pointer (some ⟨bm,0,none⟩)] encStr (fun ss=>ss.Perm (strKeys D0)) (Maps.size D0) w:=
  AnyZ.keys_gives K' Fence.wide _ trivial rfl (by omega) bm b l.length D0 w uw hc nU
 have cS:=AnyZ.sorted_in S Fence.wide 5 trivial trivial trivial trivial rfl (by omega) (C8g T he _) e9 (ρk.f 10) #[.pointer (some ⟨bm,0,none⟩)] trivial eg _ _ (by rw[hsz];exact jd) (by rw[hsz];exact hl) _ nQ
 refine((callsIn_wide).1 cS).mono ?_
 rintro e w' ⟨v,ss,rfl,hS,aM,dw,hb⟩
 have hp:ss.Perm (l.map (·.1.data.toList)):=hS.trans dG
 have e1:((ss.mergeSort fun x y=>decide (x≤y)).map ofL)=A5c (l.map (·.1)):=by
  unfold A5c
  rw[F3]
  exact congrArg (List.map ofL) (mergeSort_of_perm hp)
 have e2:(ss.mergeSort fun x y=>decide (x≤y)).map encStr=(A5c (l.map (·.1))).flatMap eS:=by
  rw[←e1]
  generalize(ss.mergeSort fun x y=>decide (x≤y))=t
  induction t with
  |nil=>rfl
  |cons a l ih=>rw[B5,ih];rfl
 rw[e2] at aM
 obtain⟨s,rfl,af⟩:=B5V aM (by rw[←e1];simp[O9]) hs (B7b hb) (D9 _)
 exact⟨_,rfl,B69 hb,hq s _ af⟩
end
end
end Go.H
namespace Go.Proofs.YtidlldnlphdhcaaGreatDoor
open Go.H
open Go.Proofs.Tryz
section
open Go.H Go.Proofs Go.Lib
structure TP(h0:Heap):Prop where
 u8:U8 h0
 maxl:∃m,W8 h0 ⟨0,0,none⟩=some (.int .i64 m)
theorem A0Y:∀x:B4p,(eS x).length=1:=fun _=>rfl
theorem A8c:∀x:B4p,∀v∈eS x,v.oneCell'=true:=fun x v hv=>by rw[B9.1 hv];rfl
variable {h h0:Heap} {R:List Asn}
theorem C0C{b:Nat}{xs:List B4p}(hs:sat h (cells b (xs.map Value.string).toArray::R)):sat h (V1 eS 1 ⟨some ⟨b,0,none⟩,xs.length,xs.length⟩ xs::R):=by
 refine A1N (o:=0) ⟨rfl,D9 _,rfl,by simp,?_⟩ hs
 simp only[R9,T4,Nat.mul_one,List.toList_toArray]
 rw[D1 (by simp)]
 induction xs with
 |nil=>rfl
 |cons x xs ih=>
  rw[B5,D8]
  have:∀xs:List B4p,xs.map Value.string=xs.flatMap eS:=fun xs=>by
   induction xs with
   |nil=>rfl
   |cons y ys ih=>rw[B5,D8,ih];rfl
  rw[this xs]
  rfl
theorem C3i{s:B4p}{Q:Value→Heap→Prop}(hq:Q (.int .i64 ((s.data.toList.count 47:Nat):Int)) h):
  V9 prog 61 #[.string s,.string (ByteArray.mk #[47])] h Q:=fun w hw=>by
 subst hw
 refine(Any.strings_Count_one C8X s 47 w).mono ?_
 rintro e w' ⟨rfl,rfl⟩
 exact⟨_,rfl,⟨rfl,rfl,rfl⟩,hq⟩
theorem z6{s:B4p}{c:UInt8}{Q:Value→Heap→Prop}(hq:Q (.bool (hasB c s)) h):
  V9 prog 31 #[.string s,.string (ByteArray.mk #[c])] h Q:=fun w hw=>by
 subst hw
 refine(Any.strings_Contains_one C9K s c w).mono ?_
 rintro e w' ⟨rfl,rfl⟩
 rw[C4N]
 exact⟨_,rfl,⟨rfl,rfl,rfl⟩,hq⟩
theorem A4x(hs:sat h (old h0::R))(ht:TP h0){s:B4p}(hsz:s.size≤256){Q:Value→Heap→Prop}
  (hq:∀(sl:Slc) h',sat h' (V1 eS 1 sl (levels s)::old h0::R)→Q (.slice sl.a sl.len sl.cap) h'):
  V9 prog 36 #[.string s] h Q:=by
 refine A49 s h Q ?_
 delta A7A cc pu
 refine V3 (fun w hw=>?_)
 subst hw
 obtain⟨m,hm⟩:=ht.maxl
 refine(Any.strings_Split C5y (by kernel_rfl) s (ByteArray.mk #[47]) m w (by omega) (hs.bY hm) (by decide)).mono ?_
 rintro e w' ⟨rfl,rfl⟩
 have hl:(levels s).length=countB s B0n+1:=splitB_all B0n (by decide) 0 _ s rfl
 have:=hq ⟨some ⟨w.heap.size,0,none⟩,(levels s).length,(levels s).length⟩ _ (C0C (hs.bI (T:=B0N.t 9)))
 rw[hl] at this
 exact⟨_,rfl,⟨rfl,rfl,rfl⟩,⟨some ⟨w.heap.size,0,none⟩,countB s B0n+1,countB s B0n+1⟩,rfl,this⟩
theorem B5p(hs:sat h (old h0::R))(ht:TP h0){s:B4p}(hsz:s.size≤9223372036854775807){Q:Value→Heap→Prop}
  (hq:∀h',sat h' (old h0::R)→Q (.bool (A1v s)) h'):V9 prog 30 #[.string s] h Q:=by
 refine B1u s h Q ?_
 delta B3U bn ci es ie pu
 refine u6 (B7n hs ht.u8 s (by omega) fun h1 aa=>⟨(match r9 s with|some n=>((n:Int),true,())|none=>(0,false,())),by cases r9 s<;>rfl,?_⟩)
 refine W0 (fun x h'=>h'=h1∧x.1=A1v s) ?_ ?_
 ·(try dsimp only);rw[V4]
  cases hf:r9 s with
  |some n=>
   rw[if_neg (by simp)]
   exact⟨rfl,by simp[A1v,hf]⟩
  |none=>
   rw[if_pos (by rfl),V4]
   have he:s=ByteArray.mk #[]↔s.size=0:=by
    constructor
    ·rintro rfl;rfl
    ·intro h0
     refine data_inj ?_
     have:s.data.toList.length=0:=by rw[N6];exact h0
     rw[L8.1 this]
   by_cases h0:s.size=0
   ·rw[if_neg (by simp[he.2 h0])]
    exact⟨rfl,by simp[A1v,h0]⟩
   rw[if_pos (by simpa using fun e=>h0 (he.1 e)),V4]
   by_cases h1:s.size≤256
   ·rw[if_pos (by simp only[decide_eq_true_eq];omega)]
    refine V3 (C3i ⟨_,rfl,?_⟩)
    refine⟨rfl,?_⟩
    have e:A1v s=decide ((levels s).length≤32):=by simp[A1v,hf,h0,h1]
    rw[e,A7S]
    simp only[F8]
    omega
   ·rw[if_neg (by simp only[decide_eq_true_eq];omega)]
    exact⟨rfl,by simp[A1v,h1]⟩
 rintro⟨x,⟨⟩⟩ h2 ⟨rfl,rfl⟩
 exact hq _ aa
def A2X(s:B4p):Int:=if a8 s=true then 0 else 144
def B0E(s:B4p):Int:=if Y2 s=true then 0 else 143
theorem A3A(hs:sat h (old h0::R))(ht:TP h0){s:B4p}(hsz:s.size≤9223372036854775807){Q:Value→Heap→Prop}
  (hq:∀h',sat h' (old h0::R)→Q (.int .u8 (A2X s)) h'):V9 prog 12 #[.string s] h Q:=by
 refine A8K s h Q ?_
 delta A8s bn cb ie pu
 refine W0 (fun x h'=>sat h' (old h0::R)∧x.1= !a8 s) ?_ ?_
 ·refine V3 (B5p hs ht hsz fun h1 aa=>⟨_,rfl,?_⟩)
  (try dsimp only);rw[V4]
  cases hz:A1v s with
  |false=>
   rw[if_pos (by rfl)]
   exact⟨aa,by simp[a8,hz]⟩
  |true=>
   rw[if_neg (by simp)]
   refine V3 (z6 (c:=43) ⟨_,rfl,?_⟩)
   (try dsimp only);rw[V4]
   cases ew:hasB 43 s with
   |true=>
    rw[if_pos rfl]
    exact⟨aa,by simp[a8,hz,ew]⟩
   |false=>
    rw[if_neg (by simp)]
    refine V3 (z6 (c:=35) ⟨_,rfl,?_⟩)
    exact⟨aa,by simp[a8,hz,ew]⟩
 rintro⟨x,⟨⟩⟩ h1 ⟨aa,hx⟩
 simp only at hx
 subst hx
 have:=hq _ aa
 unfold A2X at this
 (try dsimp only);rw[V4]
 cases hn:a8 s with
 |true=>rw[hn,if_pos rfl] at this;rw[if_neg (by simp)];exact this
 |false=>rw[hn,if_neg (by simp)] at this;rw[if_pos (by rfl)];exact this
theorem A7j{l:List B4p}{i:Nat}{x:B4p}(hx:l[i]? =some x):l.drop i=x::l.drop (i+1):=by
 obtain⟨hi,rfl⟩:=D4.1 hx
 exact E0 hi
theorem A7w(hs:sat h (old h0::R))(ht:TP h0){s:B4p}(hsz:s.size≤9223372036854775807){Q:Value→Heap→Prop}
  (hq:∀h',sat h' (old h0::R)→Q (.int .u8 (B0E s)) h'):V9 prog 35 #[.string s] h Q:=by
 refine A6R s h Q ?_
 delta A5V bn cb cc ie ix lt pu wi
 refine V3 (B5p hs ht hsz fun h1 aa=>⟨_,rfl,?_⟩)
 (try dsimp only);rw[V4]
 unfold B0E Y2 at hq
 cases hz:A1v s with
 |false=>
  rw[hz] at hq
  rw[if_pos (by rfl)]
  exact hq _ aa
 |true=>
 rw[hz,G5] at hq
 rw[if_neg (by simp)]
 have hle:=A2U hz
 refine V3 (A4x aa ht hle fun sl h2 ae=>⟨sl,rfl,?_⟩)
 have hlen:=ae.aW
 have aM:=ae.aN A0Y
 have hn:(levels s).length≤32:=(A1a.1 hz).2.2.2
 generalize levels s=l at hlen aM hn hq
 have ai:=ae.drop
 clear ae
 (try dsimp only);rw[U7]
 refine o7 (γ:=Nat) (fun g c h'=>h'=h2∧c.1=(((l.length-g:Nat)):Int)∧g≤l.length∧A4o l=A4o (l.drop (l.length-g))) (fun g=>g) l.length ⟨rfl,by simp,D9 _,by simp⟩ ?_
 rintro g ⟨c,⟨⟩⟩ h' ⟨rfl,hc,hg,hf⟩
 simp only at hc
 subst hc
 (try dsimp only);rw[V4]
 by_cases ah:l.length-g<l.length
 ·rw[if_pos (by simp only[decide_eq_true_eq,hlen];omega)]
  obtain⟨x,hx⟩:∃x,l[l.length-g]? =some x:=⟨_,B0 ah⟩
  have hd:=A7j hx
  rw[hd] at hf
  (try dsimp only);rw[U7]
  refine Y0 aM hx fun a ha=>?_
  refine⟨x,by have:=ha 0 (.string x) rfl;rwa[Go.H.add_zero] at this,?_⟩
  simp only[A4o] at hf
  have fw:(l.drop (l.length-g+1)).isEmpty=decide (l.length-g+1=l.length):=by
   by_cases he:l.length-g+1=l.length
   ·rw[he];simp
   ·have:l.drop (l.length-g+1)≠[]:=by simp;omega
    cases hh:l.drop (l.length-g+1) with
    |nil=>exact absurd hh this
    |cons=>simp[he]
  rw[fw] at hf
  have hw:IntKind.wrap .i64 ((sl.len:Int)-1)=(l.length:Int)-1:=by rw[hlen];exact W6 (by omega) (by omega)
  have jr:IntKind.wrap .i64 (((l.length-g:Nat):Int)+1)=((l.length-(g-1):Nat):Int):=by rw[W6 (by omega) (by omega)];omega
  have aA:l.length-g+1=l.length-(g-1):=by omega
  rw[aA] at hf
  rw[hw,jr]
  by_cases hX:hasB 35 x=true
  ·rw[if_pos hX] at hf
   by_cases iM:l.length-(g-1)=l.length
   ·by_cases h1:x.size≤1
    ·rw[decide_eq_true iM,decide_eq_true h1,G5,G5] at hf
     refine W0 (fun z aY=>aY=h'∧z=.inl ()) ?_ ?_
     ·refine W0 (fun z aY=>aY=h'∧z=.inl ()) ?_ ?_
      ·refine W0 (fun z aY=>aY=h'∧z=.inl ()) ?_ ?_
       ·refine V3 (z6 (c:=35) ⟨_,rfl,?_⟩)
        (try dsimp only);rw[V4,if_pos hX]
        exact⟨rfl,rfl⟩
       rintro z aY ⟨rfl,rfl⟩
       simp only[D5]
       (try dsimp only);rw[V4,if_neg (by simp only[decide_eq_true_eq];omega)]
       exact⟨rfl,rfl⟩
      rintro z aY ⟨rfl,rfl⟩
      simp only[D5]
      (try dsimp only);rw[V4,if_neg (by simp only[decide_eq_true_eq];omega)]
      exact⟨rfl,rfl⟩
     rintro z aY ⟨rfl,rfl⟩
     simp only[D5,E4,V8]
     exact .mk (g-1) (by omega) ⟨rfl,rfl,by omega,hf⟩
    ·rw[decide_eq_false h1,Bool.and_false,K8] at hf
     rw[hf,if_neg (by simp)] at hq
     refine W0 (fun z aY=>aY=h'∧z=.inr (.inr (.inr (143,())))) ?_ ?_
     ·refine W0 (fun z aY=>aY=h'∧z=.inl ()) ?_ ?_
      ·refine W0 (fun z aY=>aY=h'∧z=.inl ()) ?_ ?_
       ·refine V3 (z6 (c:=35) ⟨_,rfl,?_⟩)
        (try dsimp only);rw[V4,if_pos hX]
        exact⟨rfl,rfl⟩
       rintro z aY ⟨rfl,rfl⟩
       simp only[D5]
       (try dsimp only);rw[V4,if_neg (by simp only[decide_eq_true_eq];omega)]
       exact⟨rfl,rfl⟩
      rintro z aY ⟨rfl,rfl⟩
      simp only[D5]
      (try dsimp only);rw[V4,if_pos (by simp only[decide_eq_true_eq];omega)]
      exact⟨rfl,rfl⟩
     rintro z aY ⟨rfl,rfl⟩
     simp only[D5,E4,V8]
     exact hq _ ai
   ·rw[decide_eq_false iM,K8,K8] at hf
    rw[hf,if_neg (by simp)] at hq
    refine W0 (fun z aY=>aY=h'∧z=.inr (.inr (.inr (143,())))) ?_ ?_
    ·refine W0 (fun z aY=>aY=h'∧z=.inr (.inr (.inr (.inr (143,()))))) ?_ ?_
     ·refine W0 (fun z aY=>aY=h'∧z=.inl ()) ?_ ?_
      ·refine V3 (z6 (c:=35) ⟨_,rfl,?_⟩)
       (try dsimp only);rw[V4,if_pos hX]
       exact⟨rfl,rfl⟩
      rintro z aY ⟨rfl,rfl⟩
      simp only[D5]
      (try dsimp only);rw[V4,if_pos (by simp only[decide_eq_true_eq];omega)]
      exact⟨rfl,rfl⟩
     rintro z aY ⟨rfl,rfl⟩
     exact⟨rfl,rfl⟩
    rintro z aY ⟨rfl,rfl⟩
    simp only[D5,E4,V8]
    exact hq _ ai
  ·rw[if_neg hX] at hf
   by_cases ew:hasB 43 x=true
   ·by_cases h1:x.size≤1
    ·rw[ew,decide_eq_true h1,Bool.or_true,G5] at hf
     refine W0 (fun z aY=>aY=h'∧z=.inl ()) ?_ ?_
     ·refine W0 (fun z aY=>aY=h'∧z=.inl ()) ?_ ?_
      ·refine W0 (fun z aY=>aY=h'∧z=.inr (.inl ())) ?_ ?_
       ·refine V3 (z6 (c:=35) ⟨_,rfl,?_⟩)
        (try dsimp only);rw[V4,if_neg hX]
        refine V3 (z6 (c:=43) ⟨_,rfl,?_⟩)
        (try dsimp only);rw[V4,if_pos ew]
        exact⟨rfl,rfl⟩
       rintro z aY ⟨rfl,rfl⟩
       exact⟨rfl,rfl⟩
      rintro z aY ⟨rfl,rfl⟩
      simp only[D5]
      (try dsimp only);rw[V4,if_neg (by simp only[decide_eq_true_eq];omega)]
      exact⟨rfl,rfl⟩
     rintro z aY ⟨rfl,rfl⟩
     simp only[D5,E4,V8]
     exact .mk (g-1) (by omega) ⟨rfl,rfl,by omega,hf⟩
    ·rw[ew,decide_eq_false h1,Bool.or_false,N7,K8] at hf
     rw[hf,if_neg (by simp)] at hq
     refine W0 (fun z aY=>aY=h'∧z=.inr (.inr (.inr (143,())))) ?_ ?_
     ·refine W0 (fun z aY=>aY=h'∧z=.inl ()) ?_ ?_
      ·refine W0 (fun z aY=>aY=h'∧z=.inr (.inl ())) ?_ ?_
       ·refine V3 (z6 (c:=35) ⟨_,rfl,?_⟩)
        (try dsimp only);rw[V4,if_neg hX]
        refine V3 (z6 (c:=43) ⟨_,rfl,?_⟩)
        (try dsimp only);rw[V4,if_pos ew]
        exact⟨rfl,rfl⟩
       rintro z aY ⟨rfl,rfl⟩
       exact⟨rfl,rfl⟩
      rintro z aY ⟨rfl,rfl⟩
      simp only[D5]
      (try dsimp only);rw[V4,if_pos (by simp only[decide_eq_true_eq];omega)]
      exact⟨rfl,rfl⟩
     rintro z aY ⟨rfl,rfl⟩
     simp only[D5,E4,V8]
     exact hq _ ai
   ·simp only[Bool.not_eq_true] at ew
    rw[ew,T7,Bool.true_or,G5] at hf
    refine W0 (fun z aY=>aY=h'∧z=.inl ()) ?_ ?_
    ·refine W0 (fun z aY=>aY=h'∧z=.inr (.inl ())) ?_ ?_
     ·refine W0 (fun z aY=>aY=h'∧z=.inr (.inr (.inl ()))) ?_ ?_
      ·refine V3 (z6 (c:=35) ⟨_,rfl,?_⟩)
       (try dsimp only);rw[V4,if_neg hX]
       refine V3 (z6 (c:=43) ⟨_,rfl,?_⟩)
       (try dsimp only);rw[V4,if_neg (by rw[ew];simp)]
       exact⟨rfl,rfl⟩
      rintro z aY ⟨rfl,rfl⟩
      exact⟨rfl,rfl⟩
     rintro z aY ⟨rfl,rfl⟩
     exact⟨rfl,rfl⟩
    rintro z aY ⟨rfl,rfl⟩
    simp only[D5,E4,V8]
    exact .mk (g-1) (by omega) ⟨rfl,rfl,by omega,hf⟩
 ·rw[if_neg (by simp only[decide_eq_true_eq,hlen];omega)]
  simp only[D5,E4,V8]
  have:l.drop (l.length-g)=[]:=by simp;omega
  rw[this] at hf
  rw[hf] at hq
  exact hq _ ai
end
section
open Go.ChangeShapes Go.WideShapes Go.ChangeAt Go.RowKit Go.Proofs Go.Lib Go.H
def B6c:List (String×DataW Unit):=Rows.brokerNilRow.laid
theorem B8s:B6c=[("unicode/utf8.acceptRanges",Rows.laid_unicode_utf8_acceptRanges),("unicode/utf8.first",Rows.laid_unicode_utf8_first)]:=rfl
noncomputable def B3t(os:Os):World:=
 let w0:=World.doorLaid prog 400 os
 {w0 with heap:=w0.heap.modify 1 fun
   |.cells _ t frozen=>.cells ((List.range 256).map fun c=>Value.int .u8 (firstT c)).toArray t frozen
   |o=>o}
theorem C6c(os:Os)(args:D0q):laidMetH prog B6c ((B3t os).forCall (fun _ _=>0) ⟨#[],args,[]⟩).memory:=
 laidMetH_of_parts3 (fuel:=8) (laidMet_of_run' 8 (by kernel_rfl) (by kernel_rfl)) (by kernel_rfl) (by kernel_rfl)
theorem C5r:U8Extra prog B0K where
 n3:=by kernel_rfl
 n4:=by kernel_rfl
 y3:=by kernel_rfl
 y4:=by kernel_rfl
 c5:=by kernel_rfl
 c119:=by kernel_rfl
 c138:=by kernel_rfl
theorem C5b:(Rows.laid_unicode_utf8_acceptRanges:DataW Unit)=acceptData:=by kernel_rfl
theorem C6r:(Rows.laid_unicode_utf8_first:DataW Unit)=firstData:=Pinned.utf8First_eq
theorem C1S{W:World}(h:laidMetH prog B6c W):U8 W.heap:=by
 rw[MakeChecks.laidMetH_plain _ _ _ (by kernel_rfl)] at h
 have h4:=laidMet.reads h (n:= "unicode/utf8.acceptRanges") (d:=Rows.laid_unicode_utf8_acceptRanges) (by rw[B8s];exact B6 ..)
 have h3:=laidMet.reads h (n:= "unicode/utf8.first") (d:=Rows.laid_unicode_utf8_first) (by rw[B8s];exact C2 _ (B6 ..))
 rw[C5b] at h4
 rw[C6r] at h3
 have ht:=utf8Tabs_of_readsT (L:={u8 with}) C5r h3 h4
 exact⟨fun c hc=>ht.1 c hc,fun i hi=>ht.2 i hi⟩
theorem C1V{W:World}(h:laidMetH prog B6c W)(oQ:W.ShapedOpen prog):TP W.heap:=
 ⟨C1S h,cell_of_shapedOpen_int (t:=3) (zero:=#[.int .i64 0]) oQ (of_decide_eq_true (by kernel_rfl)) (by kernel_rfl) rfl (by kernel_rfl) (by kernel_rfl) underlying3⟩
def okB{H:Type}(t:TypeId)(d:DataW H):Prop:=Rows.uptoBulk d≤1048576
theorem B2M{H:Type}:∀{l:List (DataW H)} {d:DataW H},d∈l→Rows.uptoBulk d≤Rows.uptoBulkAll l
 |x::l,d,h=>by
  simp only[Rows.uptoBulkAll]
  rcases D3.1 h with rfl|h
  ·omega
  ·have:=B2M h
   omega
theorem C6K{H:Type}(d:DataW H):1≤Rows.uptoBulk d:=by
 cases d with
 |lit l=>cases l<;>simp[Rows.uptoBulk]
 |_=>simp[Rows.uptoBulk]
theorem C1t{H:Type}:∀(l:List (DataW H)),l.length≤Rows.uptoBulkAll l
 |[]=>C9 _
 |d::l=>by
  have:=C1t l
  have:=C6K d
  simp only[B7,Rows.uptoBulkAll]
  omega
theorem C7s{H:Type}:Go.R.OkLaw (H:=H) prog okB 1048576 (fun _=>1) where
 str h:=by simp only[okB,Rows.uptoBulk] at h;omega
 elem _ h hd:=by simp only[okB,Rows.uptoBulk] at h⊢;have:=B2M hd;omega
 eV {t e elems rest} _ h:=by simp only[okB,Rows.uptoBulk] at h;have:=C1t elems;omega
 field _ h _ hd:=by simp only[okB,Rows.uptoBulk] at h⊢;have:=B2M (E9 hd);omega
 arr _ h hd:=by simp only[okB,Rows.uptoBulk] at h⊢;have:=B2M hd;omega
section
variable {H:Type} {ec:TypeId×Value→H} {w:World} {base:Nat} {sp:Nat→Bool} {held:Bool} {ok:TypeId→DataW H→Prop} {top:Nat} {wt:TypeId→Nat}
end
end
end Go.Proofs.YtidlldnlphdhcaaGreatDoor
namespace Go.H
section
section
variable {α β γ σ τ:Type} {h:Heap} {s:σ}
theorem cut{m:HM α}{f:α→HM β}{Q:β→Heap→Prop}(P:α→Heap→Prop)(h1:∀K:α→Heap→Prop,(∀a h',P a h'→K a h')→m h K)(h2:∀a h',P a h'→f a h' Q):(HM.bind m f) h Q:=h1 _ h2
theorem B7u{p:Prop}{R:List Asn}{m:PH}(hp:p)(h:A00 R m):A00 (pr p::R) m:=by
 refine⟨fun _=>none,m,fun k=>.inl rfl,?_,hp,h⟩
 funext k;rfl
theorem A6x{body:σ→HM (σ⊕τ)}{Q:τ→Heap→Prop}(J:γ→σ→Heap→Prop)(μ:γ→Nat)(g:γ)(h0:J g s h)
  (hr:∀g s h,J g s h→∀K:σ⊕τ→Heap→Prop,(∀g' s' h',μ g'<μ g→J g' s' h'→K (.inl s') h')→(∀t h',Q t h'→K (.inr t) h')→body s h K):HM.loop body s h Q:=by
 classical
 have hex:∀(s:σ) (h:Heap),(∃g,J g s h)→∃n,∃g,J g s h∧μ g=n:=fun s h ⟨g,hg⟩=>⟨μ g,g,hg,rfl⟩
 have key:∀(n:Nat) (s:σ) (h:Heap),(∃g,J g s h∧μ g=n)→∃m,(∃g,J g s h∧μ g=m)∧∀g,J g s h→m≤μ g:=by
  intro n
  induction n using Nat.strongRecOn with
  |_ n ih=>
   intro s h hn
   by_cases hl:∃g,J g s h∧μ g<n
   ·obtain⟨g,hg,ah⟩:=hl
    exact ih _ ah s h ⟨g,hg,rfl⟩
   ·exact⟨n,hn,fun g hg=>by
     rcases U0 (μ g) n with h1|h1
     ·exact absurd ⟨g,hg,h1⟩ hl
     ·exact h1⟩
 refine⟨fun s h=>∃g,J g s h,fun s h=>if hh:∃m,(∃g,J g s h∧μ g=m)∧∀g,J g s h→m≤μ g then Classical.choose hh else 0,⟨g,h0⟩,?_⟩
 intro s h hi
 obtain⟨n,hn⟩:=hex s h hi
 have hm:=key n s h hn
 obtain⟨⟨g,hg,yK⟩,ja⟩:=Q3 hm
 refine hr g s h hg _ (fun g' s' h' ah hJ=>?_) (fun t h' hq=>hq)
 refine⟨⟨g',hJ⟩,?_⟩
 have lx:=key (μ g') s' h' ⟨g',hJ,rfl⟩
 have h2:=(Q3 lx).2 g' hJ
 simp only[dif_pos lx,dif_pos hm]
 omega
theorem B2j{c:σ→Bool}{B E:σ→HM (σ⊕τ)}{Q:τ→Heap→Prop}(n:Nat)(J:Nat→σ→Heap→Prop)(h0:J 0 s h)(hc:∀i s h,i≤n→J i s h→c s=decide (i<n))
  (hE:∀s h,J n s h→∀K:σ⊕τ→Heap→Prop,(∀t h',Q t h'→K (.inr t) h')→E s h K)
  (hB:∀i s h,i<n→J i s h→∀K:σ⊕τ→Heap→Prop,(∀s' h',J (i+1) s' h'→K (.inl s') h')→(∀t h',Q t h'→K (.inr t) h')→B s h K):
  HM.loop (fun s=>A1G (c s) (B s) (E s)) s h Q:=by
 refine A6x (fun i s h=>i≤n∧J i s h) (fun i=>n-i) 0 ⟨C9 _,h0⟩ ?_
 rintro i s h ⟨hi,hJ⟩ K h1 h2
 rw[V4,hc i s h hi hJ]
 by_cases ah:i<n
 ·rw[if_pos (by simpa using ah)]
  exact hB i s h ah hJ K (fun s' h' pq=>h1 (i+1) s' h' (by omega) ⟨ah,pq⟩) h2
 ·have:i=n:=by omega
  subst this
  rw[if_neg (by simp)]
  exact hE s h hJ K h2
variable {KT V:Type} {ek:KT→Value} {ev:V→Value} {m it:Nat} {l:List (KT×V)}
theorem C6a{N:σ→HM (σ⊕τ)}{S:σ→Value×Value→HM (σ⊕τ)}{Q:τ→Heap→Prop}(J:List (KT×V)→σ→List Asn)(h0:sat h (itA ek ev m l it [] l::J [] s))
  (hN:∀done s h,done.Perm l→sat h (mapA ek ev m l::J done s)→∀K:σ⊕τ→Heap→Prop,(∀t h',Q t h'→K (.inr t) h')→N s h K)
  (hS:∀done p rest s h,(done++p::rest).Perm l→sat h (itA ek ev m l it (done++[p]) rest::J done s)→∀K:σ⊕τ→Heap→Prop,
   (∀s' h',sat h' (itA ek ev m l it (done++[p]) rest::J (done++[p]) s')→K (.inl s') h')→(∀t h',Q t h'→K (.inr t) h')→S s (ek p.1,ev p.2) h K):
  HM.loop (fun s=>HM.bind (A8G it) fun o=>A2Q o (N s) (S s)) s h Q:=by
 refine A6x (γ:=List (KT×V)×List (KT×V)) (fun g s h=>(g.1++g.2).Perm l∧sat h (itA ek ev m l it g.1 g.2::J g.1 s)) (fun g=>g.2.length) ([],l) ⟨J2 _,h0⟩ ?_
 rintro⟨done,todo⟩ s h ⟨hp,hs⟩ K h1 h2
 simp only at hp hs
 rw[U7]
 refine B2f hs (fun ht=>?_) (fun p t1 t2 ht h' af=>?_)
 ·subst ht
  rw[C1] at hp
  exact hN done s h hp (A9M hs) K h2
 ·subst ht
  have dv:(done++p::(t1++t2)).Perm l:=by
   refine List.Perm.trans (Q5 done ?_) hp
   exact P9.symm
  refine hS done p (t1++t2) s h' dv af K (fun s' aY jT=>h1 (done++[p],t1++t2) s' aY (by simp) ⟨?_,jT⟩) h2
  simpa using dv
end
end
section
section
variable {α:Type} {enc:α→D0r} {size:Nat} {h h0:Heap} {s:Slc} {xs:List α} {R:List Asn}
theorem C09(ao:∀x,(enc x).length=size):∀(xs:List α) (i:Nat) (v:Value),(xs.flatMap enc)[i]? =some v→∃q x r,xs[q]? =some x∧(enc x)[r]? =some v∧i=q*size+r
 |[],i,v,h=>by simp at h
 |x::xs,i,v,h=>by
  rw[D8] at h
  rcases U0 i size with hi|hi
  ·rw[List.getElem?_append_left (by rw[ao];exact hi)] at h
   exact⟨0,x,i,rfl,h,by simp⟩
  ·rw[List.getElem?_append_right (by rw[ao];exact hi),ao] at h
   obtain⟨q,y,r,h1,h2,h3⟩:=C09 ao xs _ v h
   exact⟨q+1,y,r,by simpa using h1,h2,by rw[J7];omega⟩
theorem A7s(a:Addr)(m r:Nat):(a.add m).add r=a.add (m+r):=by
 unfold Addr.add
 by_cases h1:m=0<;>by_cases h2:r=0<;>simp[h1,h2,Nat.add_assoc]
theorem C4n(ao:∀x,(enc x).length=size)(hr:e8 enc size h s xs)(hsz:0<size):A5n h s.a (s.len*size) (xs.flatMap enc).toArray:=by
 unfold A5n
 cases ha:s.a with
 |none=>
  cases xs with
  |nil=>rfl
  |cons x xs=>
   obtain⟨a,h1,_⟩:=hr.2.2 0 x rfl
   rw[ha] at h1;cases h1
 |some a=>
  refine⟨by simp[y5 ao,hr.1],fun i v hi=>?_⟩
  obtain⟨q,x,r,h1,h2,rfl⟩:=C09 ao xs i v (by simpa using hi)
  obtain⟨a',h3,h4⟩:=hr.2.2 q x h1
  rw[ha] at h3;cases h3
  have:=h4 r v h2
  rwa[A7s] at this
theorem C1D(ao:∀x,(enc x).length=size)(cH:∀x,∀v∈enc x,v.oneCell'=true){elem:TypeId}{bytes n:Nat}{zero:D0q}(hz:zero.size=size){src:Heap→D0q→Prop}{ys:List α}{Q:Slc→Heap→Prop}
  (hs:sat h R)(hr:e8 enc size h s xs)(ou:s.cap=s.len)(hn:ys.length=n)(fo:src h (ys.flatMap enc).toArray)(hsz:0<size)(gI:0<bytes)(h0:0<n)(hb:(xs.length+n)*bytes≤140737488355328)
  (hq:∀s' h',sat h' (V1 enc size s' (xs++ys)::R)→Q s' h'):HM.append elem size bytes zero s n src h Q:=by
 have hl:=hr.1
 have jk:xs.length+n≤140737488355328:=C4 (Nat.le_mul_of_pos_right _ gI) hb
 constructor
 ·intro hc;omega
 ·intro hc
  refine⟨by omega,growslice_fits hc (by rw[hl];exact hb),(xs.flatMap enc).toArray,_,C4n ao hr hsz,fo,fun c gd _=>hq _ _ ?_⟩
  have ho:(xs.flatMap enc).toArray.size=s.len*size:=by simp[y5 ao,hl]
  refine A1N (o:=0) ⟨by simp,gd,by simp[hl,hn],U1 ?_,?_⟩ hs.bI
  ·simp only[M9,Array.size_append,ho,Builtin.zeroCells,Array.size_map,Array.size_range,hz,List.size_toArray,y5 ao,hn]
   rw[hl,←J8,←J8]
   congr 1
   omega
  ·simp only[Array.toList_append,I7,R9,T4]
   rw[P2 (by simp only[B3,y5 ao];rw[hl,J8,hn];exact D9 _)]
   rw[D1]
   simp only[B3,y5 ao]
   rw[hl,J8,hn]
   exact D9 _
end
end
section
section
variable {α:Type} {enc:α→D0r} {size:Nat} {h:Heap} {s:Slc} {xs:List α} {R:List Asn}
theorem C08(ao:∀x,(enc x).length=size){j:Nat}{v:Value}(hj:j<size):∀(xs:List α) (i:Nat) (x x':α),xs[i]? =some x→enc x'=(enc x).set j v→(xs.flatMap enc).set (i*size+j) v=(xs.set i x').flatMap enc
 |[],i,x,x',hx,_=>by simp at hx
 |y::xs,0,x,x',hx,he=>by
  simp only[P3,F6] at hx
  subst hx
  rw[List.set_cons_zero,D8,D8,he,R9,M9,List.set_append_left _ _ (by rw[ao];exact hj)]
 |y::xs,i+1,x,x',hx,he=>by
  rw[P4] at hx
  rw[List.set_cons_succ,D8,D8,List.set_append_right _ _ (by rw[ao,J7];omega),ao]
  rw[show(i+1)*size+j-size=i*size+j from by rw[J7];omega,C08 ao hj xs i x x' hx he]
theorem B9F(ao:∀x,(enc x).length=size)(hs:sat h (V1 enc size s xs::R)){i:Nat}{x:α}(hx:xs[i]? =some x){Q:Addr→Heap→Prop}
  (hq:∀p:Addr,(∀j v,(enc x)[j]? =some v→W8 h (p.add j)=some v)→
   (∀(j:Nat) (v:Value) (x':α) (Q':Unit→Heap→Prop),j<size→enc x'=(enc x).set j v→v.oneCell'=true→(∀h',sat h' (V1 enc size s (xs.set i x')::R)→Q' () h')→A7v (p.add j) v h Q')→Q p h):
  A4F s.a s.len (i:Int) size h Q:=by
 have cF:=(D4.1 hx).1
 rcases A0T hs with⟨-,-,rfl,-⟩|⟨b,o,cs,ho,aa⟩
 ·simp at hx
 have aM:=hs.aN ao
 obtain⟨a,ha,hc⟩:=aM.2.2 i x hx
 have xW:a=⟨b,o*size,none⟩:=by rw[ho.a] at ha;exact(R8 ha).symm
 subst xW
 refine⟨_,ho.a,Int.natCast_nonneg _,by rw[ho.len];omega,?_⟩
 rw[O1]
 refine hq _ hc fun j v x' Q' hj he hv ed=>?_
 rw[Addr.bL,Addr.bL]
 have ef:o*size+i*size+j<cs.size:=by
  refine Nat.lt_of_lt_of_le ?_ ho.dO
  have h1:(i+1)*size≤s.cap*size:=Q8 _ (by have:=ho.le;have:=ho.len;omega)
  rw[J7] at h1
  rw[J8]
  omega
 refine X3 aa ef hv fun h' af=>ed h' (A1N (b:=b) (o:=o) ⟨ho.a,ho.le,by rw[List.length_set];exact ho.len,by rw[Array.size_setIfInBounds];exact ho.dO,?_⟩ af)
 rw[P7,List.drop_set,if_neg (by omega),List.take_set,ho.front,show o*size+i*size+j-o*size=i*size+j by omega]
 exact C08 ao hj xs i x x' hx he
end
end
section
def At(L:List Asn)(q:Heap→Prop):Prop:=∀h,sat h L→q h
def W{α:Type}(L:List Asn)(m:HM α)(Q:α→Heap→Prop):Prop:=∀h,sat h L→m h Q
def FW(P:Program)(f:FuncId)(args:D0q)(L:List Asn)(Q:Value→Heap→Prop):Prop:=∀h,sat h L→V9 P f args h Q
def Has(L:List Asn)(A:Asn)(L':List Asn):Prop:=∀m,A00 L m→A00 (A::L') m
def Sub(L L':List Asn):Prop:=∀m,A00 L m→A00 L' m
class Enc {α:Type} (enc:α→D0r) (size:outParam Nat):Prop where
 len:∀x,(enc x).length=size
 cell:∀x,∀v∈enc x,v.oneCell'=true
 pos:0<size
section
variable {A B C D E F:Asn} {L L1 L2 L3 L4 L5 L6 L' R:List Asn} {h:Heap}
theorem nbq{α:Type}[BEq α][LawfulBEq α](a:α):(!(a==a))=false:=by simp
theorem nbd{p:Prop}[Decidable p](hp:p):(!(decide p))=false:=by simp[hp]
theorem V5:Has (A::L) A L:=fun _ hs=>hs
theorem V7(hx:Has L A L'):Has (B::L) A (B::L'):=fun _ hs=>A0k (A0M (fun _ h=>h) hx hs)
theorem Sub.rfl:Sub L L:=fun _ hs=>hs
theorem Sub.nil:Sub L []:=fun _ _=>trivial
theorem Sub.drop(hr:Sub L R):Sub (A::L) R:=fun m hs=>by
 obtain⟨a,b,hd,rfl,ha,hb⟩:=hs
 exact A3f.up R (a.join b) b (fun k o ho=>A7Z hd ho) (hr b hb)
theorem Sub.cons(hx:Has L A L1)(hr:Sub L1 R):Sub L (A::R):=fun m hs=>A0M (fun _ h=>h) hr (hx m hs)
theorem Has.s(hx:Has L A L')(hs:sat h L):sat h (A::L'):=let⟨m,h1,h2⟩:=hs;⟨m,h1,hx m h2⟩
theorem Sub.s(hx:Sub L L')(hs:sat h L):sat h L':=let⟨m,h1,h2⟩:=hs;⟨m,h1,hx m h2⟩
theorem Has.then(hx:Has L A L1)(hy:Has L1 B L2):Sub L (A::B::L2):=fun m hs=>A0M (fun _ h=>h) hy (hx m hs)
variable {α β:Type} {m:HM α} {Q:α→Heap→Prop} {q:Heap→Prop} {p:Prop}
theorem U3:type_of% @Sub.rfl:=@Sub.rfl
theorem U4:type_of% @Sub.nil:=@Sub.nil
theorem U5:type_of% @Sub.cons:=@Sub.cons
theorem U6:type_of% @Sub.drop:=@Sub.drop
theorem At.sub(hq:At L' q)(hs:Sub L L':=by repeat(first|with_reducible exact U3|with_reducible exact U4|refine U5 (by repeat first|with_reducible exact V5|apply V7) ?_|refine U6 ?_)):At L q:=fun h h1=>hq h (hs.s h1)
theorem W.sub(hq:W L' m Q)(hs:Sub L L':=by repeat(first|with_reducible exact U3|with_reducible exact U4|refine U5 (by repeat first|with_reducible exact V5|apply V7) ?_|refine U6 ?_)):W L m Q:=fun h h1=>hq h (hs.s h1)
theorem A1F{X:Type}{g:X→List Asn→List Asn}(hf:∀h R,sat h (A::R)→∃x,sat h (g x R))(hw:∀x,W (g x L') m Q)(hx:Has L A L':=by repeat first|with_reducible exact V5|apply V7):W L m Q:=fun h hs=>by
 obtain⟨x,h1⟩:=hf h L' (hx.s hs)
 exact hw x h h1
theorem A7t{X Y:Type}{g:X→Y→List Asn→List Asn}(hf:∀h R,sat h (A::R)→∃x y,sat h (g x y R))(hw:∀x y,W (g x y L') m Q)(hx:Has L A L':=by repeat first|with_reducible exact V5|apply V7):W L m Q:=fun h hs=>by
 obtain⟨x,y,h1⟩:=hf h L' (hx.s hs)
 exact hw x y h h1
theorem A5H{X Y Z:Type}{g:X→Y→Z→List Asn→List Asn}(hf:∀h R,sat h (A::R)→∃x y z,sat h (g x y z R))(hw:∀x y z,W (g x y z L') m Q)(hx:Has L A L':=by repeat first|with_reducible exact V5|apply V7):W L m Q:=fun h hs=>by
 obtain⟨x,y,z,h1⟩:=hf h L' (hx.s hs)
 exact hw x y z h h1
theorem C1I{X:Type}{r:X→Prop}{g:X→List Asn→List Asn}(hf:∀h R,sat h (A::R)→∃x,r x∧sat h (g x R))(hw:∀x,r x→W (g x L') m Q)(hx:Has L A L':=by repeat first|with_reducible exact V5|apply V7):W L m Q:=fun h hs=>by
 obtain⟨x,h0,h1⟩:=hf h L' (hx.s hs)
 exact hw x h0 h h1
theorem C3c(hf:∀h R,sat h (A::R)→sat h (B::C::R))(hw:W (B::C::L') m Q)(hx:Has L A L':=by repeat first|with_reducible exact V5|apply V7):W L m Q:=fun h hs=>hw h (hf h L' (hx.s hs))
theorem B93(hf:∀h R,sat h (A::R)→sat h (B::R))(hw:W (B::L') m Q)(hx:Has L A L':=by repeat first|with_reducible exact V5|apply V7):W L m Q:=fun h hs=>hw h (hf h L' (hx.s hs))
theorem Y7(hf:∀h R,sat h (A::R)→p)(hw:p→W L m Q)(hx:Has L A L':=by repeat first|with_reducible exact V5|apply V7):W L m Q:=fun h hs=>hw (hf h L' (hx.s hs)) h hs
theorem C77(mk:∀h,sat h (B::L1)→sat h (A::L1))(hw:W (A::L1) m Q)(hb:Has L B L1:=by repeat first|with_reducible exact V5|apply V7):W L m Q:=fun h hs=>hw h (mk h (hb.s hs))
theorem W.dB(mk:∀h,sat h (B::C::L2)→sat h (A::L2))(hw:W (A::L2) m Q)(hb:Has L B L1:=by repeat first|with_reducible exact V5|apply V7)(hc:Has L1 C L2:=by repeat first|with_reducible exact V5|apply V7):W L m Q:=fun h hs=>hw h (mk h ((hb.then hc).s hs))
theorem Has.cQ(hb:Has L B L1)(hc:Has L1 C L2)(hd:Has L2 D L3):Sub L (B::C::D::L3):=fun m hs=>A0M (fun _ h=>h) (hc.then hd) (hb m hs)
theorem Has.eL(hb:Has L B L1)(hc:Has L1 C L2)(hd:Has L2 D L3)(he:Has L3 E L4):Sub L (B::C::D::E::L4):=fun m hs=>A0M (fun _ h=>h) (hc.cQ hd he) (hb m hs)
theorem B0j(mk:∀h,sat h (B::C::D::L3)→sat h (A::L3))(hw:W (A::L3) m Q)(hb:Has L B L1:=by repeat first|with_reducible exact V5|apply V7)(hc:Has L1 C L2:=by repeat first|with_reducible exact V5|apply V7)(hd:Has L2 D L3:=by repeat first|with_reducible exact V5|apply V7):W L m Q:=fun h hs=>hw h (mk h ((hb.cQ hc hd).s hs))
theorem A8T(mk:∀h,sat h (B::C::D::E::L4)→sat h (A::L4))(hw:W (A::L4) m Q)(hb:Has L B L1:=by repeat first|with_reducible exact V5|apply V7)(hc:Has L1 C L2:=by repeat first|with_reducible exact V5|apply V7)(hd:Has L2 D L3:=by repeat first|with_reducible exact V5|apply V7)(he:Has L3 E L4:=by repeat first|with_reducible exact V5|apply V7):W L m Q:=fun h hs=>hw h (mk h ((hb.eL hc hd he).s hs))
variable {f:α→HM β} {Q':β→Heap→Prop} {b:Bool} {x y:HM β}
theorem U9{a:α}(hq:At L (Q a)):W L (X8 a) Q:=hq
theorem j1{a:α}(hw:W L (f a) Q'):W L (HM.bind (X8 a) f) Q':=hw
theorem X9{γ:Type}{m:HM γ}{g:γ→HM α}(hw:W L (HM.bind m fun x=>HM.bind (g x) f) Q'):W L (HM.bind (HM.bind m g) f) Q':=hw
theorem A0s(ht:b=true→W L x Q')(hf:b=false→W L y Q'):W L (A1G b x y) Q':=fun h hs=>by
 rw[V4];cases b
 ·exact hf (Eq.refl _) h hs
 ·exact ht (Eq.refl _) h hs
theorem Y5(hb:b=true)(hw:W L x Q'):W L (A1G b x y) Q':=by subst hb;exact hw
theorem X1(hb:b=false)(hw:W L y Q'):W L (A1G b x y) Q':=by subst hb;exact hw
theorem C87{u v:HM α}(ht:b=true→W L (HM.bind u f) Q')(hf:b=false→W L (HM.bind v f) Q'):W L (HM.bind (A1G b u v) f) Q':=fun h hs=>by
 rw[U7,V4];cases b
 ·exact hf (Eq.refl _) h hs
 ·exact ht (Eq.refl _) h hs
theorem A1s{u v:HM α}(hb:b=true)(hw:W L (HM.bind u f) Q'):W L (HM.bind (A1G b u v) f) Q':=by subst hb;exact hw
theorem o8{u v:HM α}(hb:b=false)(hw:W L (HM.bind v f) Q'):W L (HM.bind (A1G b u v) f) Q':=by subst hb;exact hw
theorem A1t(hw:W L x Q')(hp:p):W L (A3z p x) Q':=fun h hs=>⟨hp,hw h hs⟩
theorem W.inl{γ δ:Type}{u:γ→HM β}{v:δ→HM β}{a:γ}(hw:W L (u a) Q'):W L (Sum.elim u v (Sum.inl a)) Q':=hw
theorem W.inr{γ δ:Type}{u:γ→HM β}{v:δ→HM β}{a:δ}(hw:W L (v a) Q'):W L (Sum.elim u v (Sum.inr a)) Q':=hw
theorem A8o(h1:W L x Q')(h2:W L y Q'):W L (A0R x y) Q':=fun h hs=>⟨h1 h hs,h2 h hs⟩
theorem W9{a:Addr}{f:Addr→HM β}(hw:W L (f a) Q'):W L (HM.bind (A8H (some a)) f) Q':=fun h hs=>by rw[U7,C9W];exact hw h hs
theorem W.cut(P:α→List Asn)(h1:∀K:α→Heap→Prop,(∀a,At (P a) (K a))→W L m K)(h2:∀a,W (P a) (f a) Q'):W L (HM.bind m f) Q':=fun h hs=>h1 (fun a h'=>f a h' Q') (fun a h' af=>h2 a h' af) h hs
theorem B94(p:α→Prop)(P:α→List Asn)(h1:∀K:α→Heap→Prop,(∀a,p a→At (P a) (K a))→W L m K)(h2:∀a,p a→W (P a) (f a) Q'):W L (HM.bind m f) Q':=fun h hs=>h1 (fun a h'=>f a h' Q') (fun a hp h' af=>h2 a hp h' af) h hs
theorem A1j(p:α→Prop)(h1:∀K:α→Heap→Prop,(∀a,p a→At L (K a))→W L m K)(h2:∀a,p a→W L (f a) Q'):W L (HM.bind m f) Q':=B94 p (fun _=>L) h1 h2
theorem C7M{X:Type}(p:X→α→Prop)(P:X→α→List Asn)(h1:∀K:α→Heap→Prop,(∀x a,p x a→At (P x a) (K a))→W L m K)(h2:∀x a,p x a→W (P x a) (f a) Q'):W L (HM.bind m f) Q':=fun h hs=>h1 (fun a h'=>f a h' Q') (fun x a hp h' af=>h2 x a hp h' af) h hs
theorem Y8{f:Nat→HM β}{cs:D0q}{T:TypeId}(hw:∀b,W (cells b cs::L) (f b) Q'):W L (HM.bind (HM.new (.cells cs T)) f) Q':=fun h hs=>W5 hs fun b h' af=>hw b h' af
theorem C85{K V:Type}{ek:K→Value}{ev:V→Value}{f:Nat→HM β}(hw:∀b,W (mapA ek ev b []::L) (f b) Q'):W L (HM.bind (HM.new (.map #[] 0)) f) Q':=fun h hs=>A57 hs fun b h' af=>hw b h' af
theorem W.load{t:Tag}{b i:Nat}{cs:D0q}{v:t.ty}{f:t.ty→HM β}(hw:W L (f v) Q')(hx:Has L (cells b cs) L':=by repeat first|with_reducible exact V5|apply V7)(hv:(cs[i]?).bind t.get=some v:=by rfl):W L (HM.bind (r7 t (Addr.add ⟨b,0,none⟩ i)) f) Q':=fun h hs=>by
 refine⟨v,?_,hw h hs⟩
 rw[V0,(hx.s hs).cell i]
 cases hc:cs[i]? with
 |none=>rw[hc] at hv;cases hv
 |some u=>rw[hc] at hv;exact congrArg some (Tag.bU hv)
theorem B44{t:Tag}{b:Nat}{cs:D0q}{v:t.ty}{f:t.ty→HM β}(hw:W L (f v) Q')(hx:Has L (cells b cs) L':=by repeat first|with_reducible exact V5|apply V7)(hv:(cs[0]?).bind t.get=some v:=by rfl):W L (HM.bind (r7 t ⟨b,0,none⟩) f) Q':=by
 have:=W.load (i:=0) (f:=f) hw hx hv
 exact this
theorem j0{t:Tag}{a:Addr}{b i:Nat}{cs:D0q}{v:t.ty}{f:t.ty→HM β}(hw:W L (f v) Q')(ha:a=⟨b,i,none⟩:=by rfl)(hx:Has L (cells b cs) L':=by repeat first|with_reducible exact V5|apply V7)(hv:(cs[i]?).bind t.get=some v:=by rfl):W L (HM.bind (r7 t a) f) Q':=fun h hs=>by
 subst ha
 refine⟨v,?_,hw h hs⟩
 rw[(hx.s hs).cell i]
 cases hc:cs[i]? with
 |none=>rw[hc] at hv;cases hv
 |some u=>rw[hc] at hv;exact congrArg some (Tag.bU hv)
theorem u7{ts:List Tag}{b:Nat}{cs:D0q}{v:Tup ts}{f:Tup ts→HM β}(hw:W L (f v) Q')(hx:Has L (cells b cs) L':=by repeat first|with_reducible exact V5|apply V7)(hv:Tup.get ts cs.toList=some v:=by rfl):W L (HM.bind (o9 ts ⟨b,0,none⟩) f) Q':=fun h hs=>
 Z3 v (hx.s hs) (I8.1 (Tup.bH ts _ v hv)) (hw h hs)
theorem A8p{ts:List Tag}{b i:Nat}{cs:D0q}{v:Tup ts}{f:Tup ts→HM β}(hw:W L (f v) Q')(hx:Has L (Go.H.cells b cs) L':=by repeat first|with_reducible exact V5|apply V7)(hv:Tup.get ts ((cs.toList.drop i).take ts.length)=some v:=by rfl):W L (HM.bind (o9 ts (Addr.add ⟨b,0,none⟩ i)) f) Q':=fun h hs=>by
 refine⟨v,fun j u hu=>?_,hw h hs⟩
 rw[←Tup.bH ts _ v hv,J4] at hu
 split at hu
 ·rw[J5] at hu
  rw[V0,Addr.bL,(hx.s hs).cell]
  simpa using hu
 ·cases hu
theorem A4v{a:Addr}{b i:Nat}{cs cs':D0q}{v:Value}{f:Unit→HM β}(hw:W (Go.H.cells b cs'::L') (f ()) Q')(ha:a=⟨b,i,none⟩:=by rfl)(hx:Has L (Go.H.cells b cs) L':=by repeat first|with_reducible exact V5|apply V7)(hc:(if i<cs.size then cs.toList.set i v else[])=cs'.toList:=by rfl)(hn:0<cs'.size:=by exact Nat.zero_lt_succ _)(hv:v.oneCell'=true:=by rfl):W L (HM.bind (A7v a v) f) Q':=fun h hs=>by
 subst ha
 rw[U7]
 by_cases hi:i<cs.size
 ·rw[if_pos hi] at hc
  refine X3 (hx.s hs) hi hv fun h' af=>hw h' ?_
  have:cs'=cs.setIfInBounds i v:=by
   apply I8.1;rw[←hc,P7]
  rw[this];exact af
 ·rw[if_neg hi] at hc
  have:=congrArg List.length hc
  simp at this
  omega
theorem W.store{b i:Nat}{cs cs':D0q}{v:Value}{f:Unit→HM β}(hw:W (cells b cs'::L') (f ()) Q')(hx:Has L (cells b cs) L':=by repeat first|with_reducible exact V5|apply V7)(hc:(if i<cs.size then cs.toList.set i v else[])=cs'.toList:=by rfl)(hn:0<cs'.size:=by exact Nat.zero_lt_succ _)(hv:v.oneCell'=true:=by rfl):W L (HM.bind (A7v (Addr.add ⟨b,0,none⟩ i) v) f) Q':=fun h hs=>by
 rw[U7,V0]
 by_cases hi:i<cs.size
 ·rw[if_pos hi] at hc
  refine X3 (hx.s hs) hi hv fun h' af=>hw h' ?_
  have:cs'=cs.setIfInBounds i v:=by
   apply I8.1;rw[←hc,P7]
  rw[this];exact af
 ·rw[if_neg hi] at hc
  have:=congrArg List.length hc
  simp at this
  omega
theorem A0u{b:Nat}{cs:D0q}{vs:D0r}{f:Unit→HM β}(hw:W (cells b vs.toArray::L') (f ()) Q')(hx:Has L (cells b cs) L':=by repeat first|with_reducible exact V5|apply V7)(hl:vs.length=cs.size:=by rfl)(hv:vs.all (fun v=>v.oneCell')=true:=by rfl):W L (HM.bind (B0I ⟨b,0,none⟩ vs) f) Q':=fun h hs=>
 o4 (hx.s hs) hl hv fun h' af=>hw h' af
theorem W.cells{b:Nat}{cs:D0q}(cs':D0q)(hw:W (cells b cs'::L') m Q)(hx:Has L (Go.H.cells b cs) L':=by repeat first|with_reducible exact V5|apply V7)(hc:cs=cs':=by rfl):W L m Q:=by subst hc;exact W.sub hw (fun m hs=>hx m hs)
theorem j2{P:Program}{k:Kind}{fn:FuncId}{args:D0q}{f:k.ty→HM β}(hc:FW P fn args L (k.un fun x h'=>f x h' Q')):W L (HM.bind (A1C P k fn args) f) Q':=hc
theorem Z9{P:Program}{ks:List Kind}{fn:FuncId}{args:D0q}{f:s6 ks→HM β}(hc:FW P fn args L (s6.un ks fun x h'=>f x h' Q')):W L (HM.bind (u9 P ks fn args) f) Q':=hc
theorem At.un{k:Kind}{v:Value}{x:k.ty}{f:k.ty→HM β}(hw:W L (f x) Q')(hv:k.get v=some x:=by rfl):At L (k.un (fun x h'=>f x h' Q') v):=fun h hs=>⟨x,Kind.bU hv,hw h hs⟩
def unT(v:Value):D0r:=match v with|.tuple a=>a.toList|_=>[]
def isT(v:Value):Bool:=match v with|.tuple a=>true|_=>false
theorem At.bD{ks:List Kind}{v:Value}{x:s6 ks}{f:s6 ks→HM β}(hw:W L (f x) Q')(hv:s6.get ks (unT v)=some x:=by rfl)(ht:isT v=true:=by rfl):At L (s6.un ks (fun x h'=>f x h' Q') v):=fun h hs=>by
 refine⟨x,?_,hw h hs⟩
 cases v with
 |tuple a=>exact congrArg Value.tuple (I8.1 (s6.bH ks _ x hv))
 |_=>cases ht
section
variable {γ:Type} {enc:γ→D0r} {size:Nat} {s:Slc} {xs:List γ} {h0:Heap}
def El(s:Slc)(size i:Nat)(a:Addr):Prop:=∃x,s.a=some x∧a=x.add (i*size)
def ElO(h0:Heap)(l:D0r)(a:Addr):Prop:=∀j v,l[j]? =some v→W8 h0 (a.add j)=some v
theorem El.row(hr:e8 enc size h0 s xs){i:Nat}{x:γ}(hi:xs[i]? =some x){a:Addr}(ha:El s size i a):ElO h0 (enc x) a:=by
 obtain⟨y,h1,rfl⟩:=ha
 obtain⟨a,h2,h3⟩:=hr.2.2 i x hi
 rw[h1] at h2
 cases h2
 exact h3
theorem b9{i:Nat}{e:Int}{f:Addr→HM β}(hi:i<xs.length)(hw:∀a,El s size i a→W L (f a) Q')(hx:Has L (V1 enc size s xs) L':=by repeat first|with_reducible exact V5|apply V7)(he:e=(i:Int):=by rfl)[Enc enc size]:W L (HM.bind (A4F s.a s.len e size) f) Q':=fun h hs=>by
 have hr:=(hx.s hs).aN (Enc.len (enc:=enc))
 obtain⟨a,ha,hc⟩:=hr.2.2 i _ (B0 hi)
 refine⟨a,ha,by omega,by have:=hr.1;omega,?_⟩
 subst he
 exact hw _ ⟨a,ha,by rw[O1]⟩ h hs
theorem A8n{i:Nat}{e:Int}{f:Addr→HM β}(hr:e8 enc size h0 s xs)(hi:i<xs.length)(hw:∀a,El s size i a→W L (f a) Q')(he:e=(i:Int):=by rfl):W L (HM.bind (A4F s.a s.len e size) f) Q':=fun h hs=>by
 obtain⟨a,ha,hc⟩:=hr.2.2 i _ (B0 hi)
 refine⟨a,ha,by omega,by have:=hr.1;omega,?_⟩
 subst he
 exact hw _ ⟨a,ha,by rw[O1]⟩ h hs
theorem A3d{t:Tag}{i k:Nat}{a:Addr}{x:γ}{v:t.ty}{f:t.ty→HM β}(ha:El s size i a)(hi:xs[i]? =some x)(hw:W L (f v) Q')(hx:Has L (V1 enc size s xs) L':=by repeat first|with_reducible exact V5|apply V7)(hv:((enc x)[k]?).bind t.get=some v:=by rfl)[Enc enc size]:W L (HM.bind (r7 t (Addr.add a k)) f) Q':=fun h hs=>by
 have:=ha.row ((hx.s hs).aN (Enc.len (enc:=enc))) hi
 cases hc:(enc x)[k]? with
 |none=>rw[hc] at hv;cases hv
 |some u=>
  rw[hc] at hv
  exact⟨v,by rw[this k u hc];exact congrArg some (Tag.bU hv),hw h hs⟩
theorem A9y{t:Tag}{i:Nat}{a:Addr}{x:γ}{v:t.ty}{f:t.ty→HM β}(ha:El s size i a)(hi:xs[i]? =some x)(hw:W L (f v) Q')(hx:Has L (V1 enc size s xs) L':=by repeat first|with_reducible exact V5|apply V7)(hv:((enc x)[0]?).bind t.get=some v:=by rfl)[Enc enc size]:W L (HM.bind (r7 t a) f) Q':=by
 have:=A3d (k:=0) (f:=f) ha hi hw hx hv
 rwa[add_zero] at this
theorem B2S{ts:List Tag}{i:Nat}{a:Addr}{x:γ}{v:Tup ts}{f:Tup ts→HM β}(ha:El s size i a)(hi:xs[i]? =some x)(hw:W L (f v) Q')(hx:Has L (V1 enc size s xs) L':=by repeat first|with_reducible exact V5|apply V7)(hv:Tup.get ts (enc x)=some v:=by rfl)[Enc enc size]:W L (HM.bind (o9 ts a) f) Q':=fun h hs=>by
 have:=ha.row ((hx.s hs).aN (Enc.len (enc:=enc))) hi
 refine⟨v,fun j u hu=>?_,hw h hs⟩
 rw[←Tup.bH ts _ v hv] at hu
 exact this j u hu
theorem D0i{ts:List Tag}{i k:Nat}{a:Addr}{x:γ}{v:Tup ts}{f:Tup ts→HM β}(ha:El s size i a)(hi:xs[i]? =some x)(hw:W L (f v) Q')(hx:Has L (V1 enc size s xs) L':=by repeat first|with_reducible exact V5|apply V7)(hv:Tup.get ts (((enc x).drop k).take ts.length)=some v:=by rfl)[Enc enc size]:W L (HM.bind (o9 ts (Addr.add a k)) f) Q':=fun h hs=>by
 have:=ha.row ((hx.s hs).aN (Enc.len (enc:=enc))) hi
 refine⟨v,fun j u hu=>?_,hw h hs⟩
 rw[←Tup.bH ts _ v hv,J4] at hu
 split at hu
 ·rw[J5] at hu
  rw[A7s]
  exact this _ u hu
 ·cases hu
theorem C6X{t:Tag}{i k:Nat}{a:Addr}{x:γ}{v:t.ty}{f:t.ty→HM β}(hr:e8 enc size h0 s xs)(ha:El s size i a)(hi:xs[i]? =some x)(hw:W L (f v) Q')(hx:Has L (old h0) L':=by repeat first|with_reducible exact V5|apply V7)(hv:((enc x)[k]?).bind t.get=some v:=by rfl):W L (HM.bind (r7 t (Addr.add a k)) f) Q':=fun h hs=>by
 have:=ha.row hr hi
 cases hc:(enc x)[k]? with
 |none=>rw[hc] at hv;cases hv
 |some u=>
  rw[hc] at hv
  exact⟨v,by rw[(hx.s hs).bY (this k u hc)];exact congrArg some (Tag.bU hv),hw h hs⟩
theorem C7P{t:Tag}{i:Nat}{a:Addr}{x:γ}{v:t.ty}{f:t.ty→HM β}(hr:e8 enc size h0 s xs)(ha:El s size i a)(hi:xs[i]? =some x)(hw:W L (f v) Q')(hx:Has L (old h0) L':=by repeat first|with_reducible exact V5|apply V7)(hv:((enc x)[0]?).bind t.get=some v:=by rfl):W L (HM.bind (r7 t a) f) Q':=by
 have:=C6X (k:=0) (f:=f) hr ha hi hw hx hv
 rwa[add_zero] at this
theorem B45{ts:List Tag}{i:Nat}{a:Addr}{x:γ}{v:Tup ts}{f:Tup ts→HM β}(hr:e8 enc size h0 s xs)(ha:El s size i a)(hi:xs[i]? =some x)(hw:W L (f v) Q')(hx:Has L (old h0) L':=by repeat first|with_reducible exact V5|apply V7)(hv:Tup.get ts (enc x)=some v:=by rfl):W L (HM.bind (o9 ts a) f) Q':=fun h hs=>by
 have:=ha.row hr hi
 refine⟨v,fun j u hu=>?_,hw h hs⟩
 rw[←Tup.bH ts _ v hv] at hu
 exact(hx.s hs).bY (this j u hu)
theorem C1H{cs:D0q}{T elem:TypeId}{bytes:Nat}{zero:D0q}{f:Slc→HM β}(x:γ)(hw:∀s',W (V1 enc size s' (xs++[x])::L') (f s') Q')(hb:(xs.length+1)*bytes≤140737488355328)(hx:Has L (V1 enc size s xs) L':=by repeat first|with_reducible exact V5|apply V7)(hc:cs=(enc x).toArray:=by rfl)(hz:zero.size=size:=by rfl)(gI:0<bytes:=by decide)[Enc enc size]:
  W L (HM.bind (HM.new (.cells cs T)) fun b=>HM.bind (HM.append elem size bytes zero s 1 (W4 size ⟨some ⟨b,0,none⟩,1,1⟩)) f) Q':=fun h hs=>by
 subst hc
 exact A0H (T:=T) (elem:=elem) (x:=x) (Enc.len (enc:=enc)) (Enc.cell (enc:=enc)) hz (hx.s hs) (Enc.pos enc) gI hb fun s' h' af=>hw s' h' af
theorem B0k{b:Nat}{cs:D0q}{elem:TypeId}{bytes:Nat}{zero:D0q}{f:Slc→HM β}(x:γ)(hw:∀s',W (V1 enc size s' (xs++[x])::L2) (f s') Q')(hb:(xs.length+1)*bytes≤140737488355328)(hx:Has L (V1 enc size s xs) L':=by repeat first|with_reducible exact V5|apply V7)(hy:Has L' (Go.H.cells b cs) L2:=by repeat first|with_reducible exact V5|apply V7)(hc:cs=(enc x).toArray:=by rfl)(hz:zero.size=size:=by rfl)(gI:0<bytes:=by decide)[Enc enc size]:
  W L (HM.bind (HM.append elem size bytes zero s 1 (W4 size ⟨some ⟨b,0,none⟩,1,1⟩)) f) Q':=fun h hs=>by
 subst hc
 have h1:=(hx.then hy).s hs
 rw[U7]
 refine A0d (ys:=[x]) (Enc.len (enc:=enc)) (Enc.cell (enc:=enc)) hz h1 rfl ?_ (Enc.pos enc) gI hb fun s' h2 ae=>hw s' h2 (ae.p1.drop)
 simp only[W4,N5,D8,I1,C1]
 exact h1.p1.reads (by simp[Enc.len (enc:=enc)])
theorem X7:∀h R,sat h (V1 enc size s xs::R)→s.len=xs.length:=fun h R hs=>hs.aW
theorem A4u(enc:γ→D0r)(size:Nat)(hw:W (V1 enc size ⟨none,0,0⟩ ([]:List γ)::L) m Q):W L m Q:=fun h hs=>hw h (Z2 hs)
theorem B7O(enc:γ→D0r)(size:Nat)(xs:List γ)(hw:W (V1 enc size ⟨none,0,0⟩ xs::L) m Q)(he:xs=[]:=by rfl):W L m Q:=by subst he;exact A4u enc size hw
theorem C3Z{n:Nat}{e:Int}{f:Slc→HM β}(hr:e8 enc size h0 s xs)(hn:n≤xs.length)(hw:∀s',e8 enc size h0 s' (xs.take n)→W L (f s') Q')(he:e=(n:Int):=by rfl):W L (HM.bind (HM.slice s none (some e) none size) f) Q':=fun h hs=>by
 subst he
 exact B2Z hr hn fun s' dy=>hw s' dy h hs
theorem C9P{lo hi:Nat}{ol oh:Option Int}{f:Slc→HM β}(h1:lo≤hi)(h2:hi≤xs.length)(hw:∀s',W (V1 enc size s' ((xs.take hi).drop lo)::L') (f s') Q')(e1:A4i ol (lo=0) lo hi)(e2:∀c,hi≤c→s.len=xs.length→A4i oh (hi=s.len) hi c)(hx:Has L (V1 enc size s xs) L':=by repeat first|with_reducible exact V5|apply V7)[Enc enc size]:W L (HM.bind (HM.slice s ol oh none size) f) Q':=fun h hs=>by
 have aa:=hx.s hs
 have:=aa.aW
 have:=aa.eE
 exact B20 (mx:=none) aa (Enc.len (enc:=enc)) h1 h2 e1 (e2 _ (by omega) (by omega)) fun s' h'=>hw s' h h'
end
section
variable {K V:Type} [DecidableEq K] {ek:K→Value}
theorem W.lookup{kd:A2G}{kind:Kind}{z:kind.ty}{zero:Value}{r:Nat}{l:List (K×kind.ty)}{key:Value}{f:kind.ty×Bool→HM β}(hk:KeyLaw kd ek)(k:K)(hw:W L (f ((X0 l k).getD z,(X0 l k).isSome)) Q')(hx:Has L (mapA ek kind.val r l) L':=by repeat first|with_reducible exact V5|apply V7)(he:key=ek k:=by rfl)(hz:kind.get zero=some z:=by rfl):W L (HM.bind (HM.lookup kd zero kind (some r) key) f) Q':=fun h hs=>by
 subst he
 exact A0b hk (Kind.bU hz) (hx.s hs) (hw h hs)
theorem W.mset{kd:A2G}{ev:V→Value}{r:Nat}{l:List (K×V)}{key val:Value}{f:Unit→HM β}(hk:KeyLaw kd ek)(gW:∀a b,ek a=ek b→a=b)(k:K)(v:V)(hw:W (mapA ek ev r (Go.H.mset l k v)::L') (f ()) Q')(hx:Has L (mapA ek ev r l) L':=by repeat first|with_reducible exact V5|apply V7)(he:key=ek k:=by rfl)(hv:val=ev v:=by rfl):W L (HM.bind (A3J kd (some r) key val) f) Q':=fun h hs=>by
 subst he hv
 exact A33 hk gW (hx.s hs) fun h' af=>hw h' af
theorem W.mdel{kd:A2G}{ev:V→Value}{r:Nat}{l:List (K×V)}{key:Value}{f:Unit→HM β}(hk:KeyLaw kd ek)(k:K)(hw:W (mapA ek ev r (Go.H.mdel l k)::L') (f ()) Q')(hx:Has L (mapA ek ev r l) L':=by repeat first|with_reducible exact V5|apply V7)(he:key=ek k:=by rfl):W L (HM.bind (A6q kd (some r) key) f) Q':=fun h hs=>by
 subst he
 exact A6l hk (hx.s hs) fun h' af=>hw h' af
omit [DecidableEq K] in
theorem C86{ev:V→Value}{r:Nat}{l:List (K×V)}{f:Int→HM β}(hw:W L (f (l.length:Int)) Q')(hx:Has L (mapA ek ev r l) L':=by repeat first|with_reducible exact V5|apply V7):W L (HM.bind (A7u (some r)) f) Q':=fun h hs=>A9I (hx.s hs) (hw h hs)
end
theorem C1M{P:Program}{fn:FuncId}{args:D0q}{v:Value}{Q:Value→Heap→Prop}(hf:∀h0,sat h0 L→∀Q':Value→Heap→Prop,At [old h0] (Q' v)→FW P fn args [old h0] Q')(hq:At L (Q v)):FW P fn args L Q:=fun h hs=>
 hf h hs Q (fun h' af=>hq h' (hs.grow fun k o ho=>af.dM ho)) h (sat_old h)
section
variable {σ τ γ:Type} {s:σ} {body:σ→HM (σ⊕τ)} {f:τ→HM β}
theorem W.loop(I:γ→σ→Prop)(J:γ→σ→List Asn)(μ:γ→Nat)(g:γ)(h0:I g s)(hL:Sub L (J g s))
  (hr:∀g s,I g s→∀K:σ⊕τ→Heap→Prop,(∀g' s',μ g'<μ g→I g' s'→At (J g' s') (K (.inl s')))→(∀t L,W L (f t) Q'→At L (K (.inr t)))→W (J g s) (body s) K):
  W L (HM.bind (HM.loop body s) f) Q':=fun h hs=>by
 rw[U7]
 refine A6x (γ:=γ) (fun g s h=>I g s∧sat h (J g s)) μ g ⟨h0,hL.s hs⟩ ?_
 rintro g s h ⟨hI,hJ⟩ K h1 h2
 exact hr g s hI K (fun g' s' hm rB h' af=>h1 g' s' h' hm ⟨rB,af⟩) (fun t L hw h' af=>h2 t h' (hw h' af)) h hJ
theorem A9x{c:σ→Bool}{B E:σ→HM (σ⊕τ)}(n:Nat)(I:Nat→σ→Prop)(J:Nat→σ→List Asn)(h0:I 0 s)(hL:Sub L (J 0 s))(hc:∀i s,i≤n→I i s→c s=decide (i<n))
  (hE:∀s,I n s→∀K:σ⊕τ→Heap→Prop,(∀t L,W L (f t) Q'→At L (K (.inr t)))→W (J n s) (E s) K)
  (hB:∀i s,i<n→I i s→∀K:σ⊕τ→Heap→Prop,(∀s',I (i+1) s'→At (J (i+1) s') (K (.inl s')))→(∀t L,W L (f t) Q'→At L (K (.inr t)))→W (J i s) (B s) K):
  W L (HM.bind (HM.loop (fun s=>A1G (c s) (B s) (E s)) s) f) Q':=fun h hs=>by
 rw[U7]
 refine B2j n (fun i s h=>I i s∧sat h (J i s)) ⟨h0,hL.s hs⟩ (fun i s h hi hJ=>hc i s hi hJ.1) (fun s h hJ K hd=>?_) (fun i s h ah hJ K bh hd=>?_)
 ·exact hE s hJ.1 K (fun t L hw h' af=>hd t h' (hw h' af)) h hJ.2
 ·exact hB i s ah hJ.1 K (fun s' rB h' af=>bh s' h' ⟨rB,af⟩) (fun t L hw h' af=>hd t h' (hw h' af)) h hJ.2
end
end
end
end Go.H
namespace Go.Proofs.YtidlldnlphdhcaaGreatDoor
open Go.H
open Go.Proofs.Tryz
open Go.H Go.Proofs
structure y9 where
 most:Int
 taken:Int
 used:List Int
structure y9.ok(s:y9):Prop where
 fP:1≤s.most
 cP:s.most≤64
 cN:0≤s.taken
 dN:s.taken≤65535
 len:(s.used.length:Int)≤s.most
 nodup:s.used.Nodup
 range:∀k∈s.used,1≤k∧k≤65535
def nxt(t:Int):Int:=t % 65535+1
inductive Reach (used:List Int):Nat→Int→Int→Prop
 |here {t:Int}:nxt t∉used→Reach used 0 t (nxt t)
 |on {n:Nat} {t u:Int}:nxt t∈used→Reach used n (nxt t) u→Reach used (n+1) t u
def A4t(l:List Int):List (Int×Bool):=l.map fun k=>(k,true)
theorem A7P(l:List Int)(k:Int):X0 (A4t l) k=if k∈l then some true else none:=by
 induction l with
 |nil=>rfl
 |cons a l ih=>
  simp only[A4t,B5] at ih⊢
  rw[Z4,ih]
  by_cases h:a=k
  ·simp[h]
  ·simp[h,Ne.symm h]
theorem B51(l:List Int)(k:Int)(h:k∉l):mset (A4t l) k true=A4t (l++[k]):=by
 rw[A2Y _ _ _ (by rw[A7P,if_neg h])]
 simp[A4t]
theorem C2t(l:List Int)(k:Int):mdel (A4t l) k=A4t (l.erase k):=by
 induction l with
 |nil=>rfl
 |cons a l ih=>
  simp only[A4t,B5,mdel] at ih⊢
  by_cases h:a=k
  ·simp[h]
  ·rw[if_neg h,ih,List.erase_cons_tail (by simpa using h)]
   simp
def A1A(b:Nat)(s:y9):Asn:=exA fun m=>star (pr s.ok) (star (cells b #[.int .i64 s.most,.int .i64 s.taken,.map (some m)]) (mapA (fun n:Int=>.int .i64 n) (Kind.val (.one .bool)) m (A4t s.used)))
theorem A07{h:Heap}{b:Nat}{s:y9}{R:List Asn}:sat h (A1A b s::R)↔
  ∃m,s.ok∧sat h (cells b #[.int .i64 s.most,.int .i64 s.taken,.map (some m)]::mapA (fun n:Int=>.int .i64 n) (Kind.val (.one .bool)) m (A4t s.used)::R):=by
 unfold A1A
 rw[sat.aZ]
 constructor
 ·rintro⟨m,hs⟩
  rw[sat.aI,sat.bB,sat.aI] at hs
  exact⟨m,hs⟩
 ·rintro⟨m,h1,hs⟩
  exact⟨m,by rw[sat.aI,sat.bB,sat.aI];exact⟨h1,hs⟩⟩
abbrev kI:=B9B .i64
abbrev at0(b:Nat):Value:=.pointer (some ⟨b,0,none⟩)
theorem C1K{h:Heap}{R:List Asn}(hs:sat h R)(most:Int){Q:Value→Heap→Prop}
  (hq:∀b h',sat h' (A1A b ⟨max 1 (min most 64),0,[]⟩::R)→Q (at0 b) h'):V9 prog 167 #[.int .i64 most] h Q:=by
 refine B7D most h Q ?_
 delta C3M az bn nw pu vi
 simp only[U7]
 refine A57 (ek:=fun n:Int=>Value.int .i64 n) (ev:=Kind.val (.one .bool)) hs fun m h1 aa=>?_
 refine W5 aa fun b h2 ae=>?_
 simp only[V8]
 refine hq b h2 (A07.2 ⟨m,⟨?_,?_,?_,?_,?_,?_,?_⟩,?_⟩)
 all_goals try(simp;done)
 all_goals try(simp;omega)
 have e:(if 1<(if 64<most then(64:Int) else most) then(if 64<most then 64 else most) else 1)=max 1 (min most 64):=by
  split<;>split<;>omega
 rw[e] at ae
 exact ae
theorem B3S{h:Heap}{R:List Asn}{b:Nat}{s:y9}(hs:sat h (A1A b s::R)){Q:Value→Heap→Prop}
  (hq:Q (.int .i64 (s.most-s.used.length)) h):V9 prog 209 #[at0 b] h Q:=by
 refine B0f _ h Q ?_
 obtain⟨m,ag,hs⟩:=A07.1 hs
 have c0:W8 h ⟨b,0,none⟩=some (.int .i64 s.most):=hs.cell 0
 have c2:W8 h ⟨b,2,none⟩=some (.map (some m)):=hs.cell 2
 delta B0C bn ie ki km nn pu wi
 simp[c0,c2]
 refine A9I hs.p1 ?_
 have:=ag.len;have:=ag.cP
 rw[W6 (by simp[A4t];omega) (by simp[A4t];omega)]
 simpa[A4t] using hq
theorem C2q{s:y9}(h:s.ok){k:Int}(h1:1≤k)(h2:k≤65535)(hn:k∉s.used)(hl:(s.used.length:Int)<s.most){t:Int}(t0:0≤t)(t1:t≤65535):y9.ok ⟨s.most,t,s.used++[k]⟩:=by
 refine⟨h.fP,h.cP,t0,t1,by simp;omega,?_,?_⟩
 ·rw[G3]
  refine⟨h.nodup,by simp,?_⟩
  rintro a ha b hb rfl
  simp at hb
  subst hb
  exact hn ha
 ·intro a ha
  simp at ha
  rcases ha with ha|rfl
  ·exact h.range a ha
  ·exact⟨h1,h2⟩
theorem C5Y{s:y9}(h:s.ok)(k:Int):y9.ok ⟨s.most,s.taken,s.used.erase k⟩:=by
 refine⟨h.fP,h.cP,h.cN,h.dN,?_,h.nodup.erase k,fun a ha=>h.range a (List.mem_of_mem_erase ha)⟩
 have:=List.length_erase_le (a:=k) (l:=s.used)
 have:=h.len
 simp only
 omega
def j4(s:y9)(k:Int):Int:=
 if k<1∨65535<k then 129 else if k∈s.used then 145 else if(s.used.length:Int)=s.most then 147 else 0
theorem C3j{h:Heap}{R:List Asn}{b:Nat}{s:y9}{k:Int}(hs:sat h (A1A b s::R)){Q:Value→Heap→Prop}
  (al:j4 s k≠0→Q (.int .u8 (j4 s k)) h)
  (ag:j4 s k=0→∀h',sat h' (A1A b ⟨s.most,s.taken,s.used++[k]⟩::R)→Q (.int .u8 0) h'):V9 prog 210 #[at0 b,.int .i64 k] h Q:=by
 refine A9g _ _ h Q ?_
 obtain⟨m,hi,af⟩:=A07.1 hs
 have c0:W8 h ⟨b,0,none⟩=some (.int .i64 s.most):=af.cell 0
 have c2:W8 h ⟨b,2,none⟩=some (.map (some m)):=af.cell 2
 delta A9h bn ci ie km nn pu vi
 simp[c0,c2]
 by_cases h1:k<1
 ·simp[h1];simpa[j4,h1] using al
 by_cases h2:65535<k
 ·simp[h1,h2];simpa[j4,h2] using al
 simp[h1,h2]
 refine A0b kI (kind:=.one .bool) (z:=false) rfl af.p1 ?_
 rw[A7P]
 by_cases h3:k∈s.used
 ·simp[h3]
  have:j4 s k=145:=by simp[j4,h1,h2,h3]
  rw[this] at al
  exact al (by omega)
 simp[h3]
 refine B3S hs ?_
 simp
 have hl:=hi.len
 by_cases h4:(s.used.length:Int)=s.most
 ·have:j4 s k=147:=by simp[j4,h1,h2,h3,h4]
  rw[this] at al
  simp[h4]
  exact al (by omega)
 have h5:¬(s.most-(s.used.length:Int)=0):=by omega
 simp[h5]
 simp[c2]
 refine A33 kI (A9O .i64) (ev:=Kind.val (.one .bool)) (x:=true) af.p1 fun h' ae=>?_
 refine ag (by simp[j4,h1,h2,h3,h4]) h' (A07.2 ⟨m,C2q hi (by omega) (by omega) h3 (by omega) hi.cN hi.dN,?_⟩)
 rw[B51 _ _ h3] at ae
 exact ae.p1
theorem B8U{h:Heap}{R:List Asn}{b:Nat}{s:y9}{k:Int}(hs:sat h (A1A b s::R)){Q:Value→Heap→Prop}
  (hq:∀h',sat h' (A1A b ⟨s.most,s.taken,s.used.erase k⟩::R)→Q (.bool (decide (k∈s.used))) h'):V9 prog 158 #[at0 b,.int .i64 k] h Q:=by
 refine B0g _ _ h Q ?_
 obtain⟨m,hi,af⟩:=A07.1 hs
 have c0:W8 h ⟨b,0,none⟩=some (.int .i64 s.most):=af.cell 0
 have c2:W8 h ⟨b,2,none⟩=some (.map (some m)):=af.cell 2
 delta B0D bn ie km nn pu vi
 simp[c0,c2]
 refine A0b kI (kind:=.one .bool) (z:=false) rfl af.p1 ?_
 rw[A7P]
 by_cases h3:k∈s.used
 ·simp[h3]
  simp[c2]
  refine A6l kI (ev:=Kind.val (.one .bool)) af.p1 fun h' ae=>?_
  have:=hq h' (A07.2 ⟨m,C5Y hi k,by rw[C2t] at ae;exact ae.p1⟩)
  simpa[h3] using this
 ·simp[h3]
  have he:s.used.erase k=s.used:=List.erase_of_not_mem h3
  have:=hq h (by rw[he];exact hs)
  simpa[h3] using this
theorem A3R{t:Int}(h0:0≤t):1≤nxt t∧nxt t≤65535:=by unfold nxt;omega
theorem Reach.range{used:List Int}{n:Nat}{t u:Int}(h:Reach used n t u)(h0:0≤t):1≤u∧u≤65535∧u∉used:=by
 induction h with
 |here hn=>exact⟨(A3R h0).1,(A3R h0).2,hn⟩
 |on _ _ ih=>exact ih (by have:=(A3R h0).1;omega)
theorem B9A{α:Type}[DecidableEq α]:∀(l1 l2:List α),l1.Nodup→(∀x∈l1,x∈l2)→l1.length≤l2.length
 |[],_,_,_=>by simp
 |x::xs,l2,au,hs=>by
  have h1:=G0.1 au
  have h2:=B9A xs (l2.erase x) h1.2 (fun y hy=>(List.mem_erase_of_ne (fun e=>h1.1 (by rw[←e];exact hy))).2 (hs y (C2 _ hy)))
  have h3:=List.length_erase_of_mem (hs x (B6 ..))
  have h4:=List.length_pos_of_mem (hs x (B6 ..))
  simp only[B7]
  omega
theorem C0v(used:List Int)(t:Int)(h0:0≤t)(h1:used.Nodup)(h2:used.length<65535):∃n u,Reach used n t u:=by
 have key:∀(j:Nat),j≤65535→∀t,0≤t→t≤65535→(∃n u,Reach used n t u)∨∀i,i<j→((t+i) % 65535+1)∈used:=by
  intro j
  induction j with
  |zero=>intro _ t _ _;exact .inr (fun i hi=>by omega)
  |succ j ih=>
   intro hj t oO pY
   by_cases hm:nxt t∈used
   ·have hr:=A3R oO
    rcases ih (by omega) (nxt t) (by omega) (by omega) with⟨n,u,hu⟩|df
    ·exact .inl ⟨n+1,u,.on hm hu⟩
    ·refine .inr fun i hi=>?_
     cases i with
     |zero=>simpa[nxt] using hm
     |succ i=>
      have:=df i (by omega)
      have e:((nxt t+(i:Int)) % 65535+1)=((t+((i+1:Nat):Int)) % 65535+1):=by unfold nxt;omega
      rw[e] at this
      exact this
   ·exact .inl ⟨0,nxt t,.here hm⟩
 have jV:∃t',0≤t'∧t'≤65535∧nxt t'=nxt t∧True:=⟨t % 65535,by omega,by omega,by unfold nxt;omega,trivial⟩
 obtain⟨t',a0,a1,a2,-⟩:=jV
 have move:∀n u,Reach used n t' u→Reach used n t u:=by
  intro n u hr
  cases hr with
  |here hn=>rw[a2] at hn⊢;exact .here hn
  |on hm hr=>rw[a2] at hm hr;exact .on hm hr
 rcases key 65535 (D9 _) t' a0 a1 with⟨n,u,hu⟩|df
 ·exact⟨n,u,move n u hu⟩
 ·exfalso
  have bl:∀x∈((List.range 65535).map fun(i:Nat)=>((t'+(i:Int)) % 65535+1)),x∈used:=by
   intro x hx
   obtain⟨i,hi,rfl⟩:=E3.1 hx
   exact df i (R4.1 hi)
  have au:((List.range 65535).map fun(i:Nat)=>((t'+(i:Int)) % 65535+1)).Nodup:=by
   refine P6.2 (List.Pairwise.imp_of_mem ?_ List.pairwise_lt_range)
   intro a b ha hb dg
   have:=R4.1 ha
   have:=R4.1 hb
   omega
  have:=B9A _ _ au bl
  simp at this
  omega
theorem Reach.det{used:List Int}{n n':Nat}{t u u':Int}(h:Reach used n t u)(h':Reach used n' t u'):u=u':=by
 induction h generalizing n' with
 |here hn=>
  cases h' with
  |here _=>rfl
  |on hm _=>exact absurd hm hn
 |on hm _ ih=>
  cases h' with
  |here hn=>exact absurd hm hn
  |on _ h2=>exact ih h2
theorem C5o{t:Int}(h0:0≤t):IntKind.wrap .i64 (Int.tmod t 65535+1)=nxt t:=by
 have e:Int.tmod t 65535=t % 65535:=Int.tmod_eq_emod_of_nonneg h0
 rw[e,W6 (by omega) (by omega)]
 rfl
theorem C5f{h:Heap}{R:List Asn}{b:Nat}{s:y9}(hs:sat h (A1A b s::R)){Q:Value→Heap→Prop}
  (ax:(s.used.length:Int)=s.most→Q (.tuple #[.int .i64 0,.int .u8 147]) h)
  (ag:(s.used.length:Int)≠s.most→∀n u,Reach s.used n s.taken u→∀h',sat h' (A1A b ⟨s.most,u,s.used++[u]⟩::R)→Q (.tuple #[.int .i64 u,.int .u8 0]) h'):
  V9 prog 169 #[at0 b] h Q:=by
 refine B0e _ h Q ?_
 obtain⟨m,hi,af⟩:=A07.1 hs
 delta B0B bn ci ie ki km nn pu sx vi wi
 simp
 refine B3S hs ?_
 simp
 have hl:=hi.len
 have qB:=hi.cP
 by_cases h4:(s.used.length:Int)=s.most
 ·simp[h4]
  exact ax h4
 have h5:¬(s.most-(s.used.length:Int)=0):=by omega
 simp[h5]
 obtain⟨n,u,hu⟩:=C0v s.used s.taken hi.cN hi.nodup (by omega)
 have wZ:=hu.range hi.cN
 refine B9z (γ:=Nat×Int) (fun g _ h=>Reach s.used g.1 g.2 u∧0≤g.2∧g.2≤65535∧sat h (cells b #[.int .i64 s.most,.int .i64 g.2,.map (some m)]::mapA (fun n:Int=>.int .i64 n) (Kind.val (.one .bool)) m (A4t s.used)::R))
  (fun g=>g.1) (n,s.taken) ⟨hu,hi.cN,hi.dN,af⟩ ?_
 ·rintro⟨n,t⟩-h1 ⟨hr,t0,t1,aa⟩
  have c1:W8 h1 ⟨b,1,none⟩=some (.int .i64 t):=aa.cell 1
  simp[c1]
  rw[C5o t0]
  refine X3 aa (by simp) rfl fun h2 ae=>?_
  have d1:W8 h2 ⟨b,1,none⟩=some (.int .i64 (nxt t)):=ae.cell 1
  have d2:W8 h2 ⟨b,2,none⟩=some (.map (some m)):=ae.cell 2
  have hn:=A3R t0
  simp[d1,d2]
  refine A0b kI (kind:=.one .bool) (z:=false) rfl ae.p1 ?_
  rw[A7P]
  cases hr with
  |here jZ=>
   simp[jZ]
   simp[d2,d1]
   refine A33 kI (A9O .i64) (ev:=Kind.val (.one .bool)) (x:=true) ae.p1 fun h3 ai=>?_
   rw[B51 _ _ jZ] at ai
   have e1:W8 h3 ⟨b,1,none⟩=some (.int .i64 (nxt t)):=ai.p1.cell 1
   simp[e1]
   refine ag h4 n _ hu h3 (A07.2 ⟨m,C2q hi (by omega) (by omega) jZ (by omega) (by omega) (by omega),ai.p1⟩)
  |on lx dy=>
   simp[lx]
   exact⟨_,Nat.lt_succ_self _,_,dy,Int.le_trans (by omega) hn.1,hn.2,ae⟩
section
open Go.H Go.Proofs
abbrev MsT:=B4p×B4p×Int×Bool×B4p
abbrev Z5(x:MsT):D0r:=[.string x.1,.string x.2.1,.int .i64 x.2.2.1,.bool x.2.2.2.1,.string x.2.2.2.2]
abbrev FlT:=Int×MsT×Bool
abbrev u4(x:FlT):D0r:=[.int .i64 x.1,.string x.2.1.1,.string x.2.1.2.1,.int .i64 x.2.1.2.2.1,.bool x.2.1.2.2.2.1,.string x.2.1.2.2.2.2,.bool x.2.2]
structure b7 where
 aU:y9
 most:Int
 on:Bool
 aF:List FlT
 waiting:List MsT
def v7(b:Nat)(o:b7):Asn:=exA fun x:Nat×Slc×Slc=>
 star (cells b #[at0 x.1,.int .i64 o.most,.bool o.on,.slice x.2.1.a x.2.1.len x.2.1.cap,.slice x.2.2.a x.2.2.len x.2.2.cap])
  (star (A1A x.1 o.aU) (star (V1 u4 7 x.2.1 o.aF) (V1 Z5 5 x.2.2 o.waiting)))
theorem u3{h:Heap}{b:Nat}{o:b7}{R:List Asn}:sat h (v7 b o::R)↔∃(pb:Nat) (fl wt:Slc),
  sat h (cells b #[at0 pb,.int .i64 o.most,.bool o.on,.slice fl.a fl.len fl.cap,.slice wt.a wt.len wt.cap]::A1A pb o.aU::V1 u4 7 fl o.aF::V1 Z5 5 wt o.waiting::R):=by
 unfold v7
 rw[sat.aZ]
 constructor
 ·rintro⟨⟨pb,fl,wt⟩,hs⟩
  rw[sat.aI] at hs
  exact⟨pb,fl,wt,(sat.aI.1 (sat.aI.1 hs.p1).p1).re [3,2,0,1]⟩
 ·rintro⟨pb,fl,wt,hs⟩
  refine⟨(pb,fl,wt),?_⟩
  rw[sat.aI]
  exact(sat.aI.2 ((sat.aI.2 (hs.re [2,3,0,1])).re [2,0,1])).p1
theorem C0D{h:Heap}{R:List Asn}(hs:sat h R)(most:Int){Q:Value→Heap→Prop}
  (hq:∀b h',sat h' (v7 b ⟨⟨64,0,[]⟩,max 1 (min most 64),false,[],[]⟩::R)→Q (at0 b) h'):V9 prog 112 #[.int .i64 most] h Q:=by
 refine B19 most h Q ?_
 delta B4h az ci cp nw pu vi vz
 refine V3 (C1K hs 64 fun pb h1 aa=>⟨some ⟨pb,0,none⟩,rfl,?_⟩)
 have e:(if 1<(if 64<most then(64:Int) else most) then(if 64<most then 64 else most) else 1)=max 1 (min most 64):=by
  split<;>split<;>omega
 refine V3 (A3D most h1 _ ⟨_,rfl,?_⟩)
 rw[e]
 refine W5 aa fun b h2 ae=>?_
 refine hq b h2 (u3.2 ⟨pb,⟨none,0,0⟩,⟨none,0,0⟩,?_⟩)
 exact(Z2 (Z2 ae)).p3.p3
theorem C0E{h:Heap}{R:List Asn}{b:Nat}{o:b7}(hs:sat h (v7 b o::R)){Q:Value→Heap→Prop}
  (hq:∀h',sat h' (v7 b {o with on:=false}::R)→Q (.tuple #[]) h'):V9 prog 152 #[at0 b] h Q:=by
 refine A7M _ h Q ?_
 obtain⟨pb,fl,wt,hs⟩:=u3.1 hs
 delta A69 bn ie nn pu sx
 simp
 refine X3 hs (by simp) rfl fun h1 aa=>?_
 exact hq h1 (u3.2 ⟨pb,fl,wt,aa⟩)
abbrev Pk:Type:=Int×Bool×Bool×Int×Int×B4p×B4p×Int×Slc×Slc×B4p×Bool×Int×Bool×B4p×B4p×Int×Bool×Slc×Bool×Bool×B4p×B4p×Bool×Slc×Slc×Unit
abbrev C7S(p:Pk):D0q:=#[.int .i64 p.1,.bool p.2.1,.bool p.2.2.1,.int .i64 p.2.2.2.1,.int .i64 p.2.2.2.2.1,.string p.2.2.2.2.2.1,.string p.2.2.2.2.2.2.1,.int .u8 p.2.2.2.2.2.2.2.1,.slice p.2.2.2.2.2.2.2.2.1.a p.2.2.2.2.2.2.2.2.1.len p.2.2.2.2.2.2.2.2.1.cap,.slice p.2.2.2.2.2.2.2.2.2.1.a p.2.2.2.2.2.2.2.2.2.1.len p.2.2.2.2.2.2.2.2.2.1.cap,.string p.2.2.2.2.2.2.2.2.2.2.1,.bool p.2.2.2.2.2.2.2.2.2.2.2.1,.int .i64 p.2.2.2.2.2.2.2.2.2.2.2.2.1,.bool p.2.2.2.2.2.2.2.2.2.2.2.2.2.1,.string p.2.2.2.2.2.2.2.2.2.2.2.2.2.2.1,.string p.2.2.2.2.2.2.2.2.2.2.2.2.2.2.2.1,.int .i64 p.2.2.2.2.2.2.2.2.2.2.2.2.2.2.2.2.1,.bool p.2.2.2.2.2.2.2.2.2.2.2.2.2.2.2.2.2.1,.slice p.2.2.2.2.2.2.2.2.2.2.2.2.2.2.2.2.2.2.1.a p.2.2.2.2.2.2.2.2.2.2.2.2.2.2.2.2.2.2.1.len p.2.2.2.2.2.2.2.2.2.2.2.2.2.2.2.2.2.2.1.cap,.bool p.2.2.2.2.2.2.2.2.2.2.2.2.2.2.2.2.2.2.2.1,.bool p.2.2.2.2.2.2.2.2.2.2.2.2.2.2.2.2.2.2.2.2.1,.string p.2.2.2.2.2.2.2.2.2.2.2.2.2.2.2.2.2.2.2.2.2.1,.string p.2.2.2.2.2.2.2.2.2.2.2.2.2.2.2.2.2.2.2.2.2.2.1,.bool p.2.2.2.2.2.2.2.2.2.2.2.2.2.2.2.2.2.2.2.2.2.2.2.1,.slice p.2.2.2.2.2.2.2.2.2.2.2.2.2.2.2.2.2.2.2.2.2.2.2.2.1.a p.2.2.2.2.2.2.2.2.2.2.2.2.2.2.2.2.2.2.2.2.2.2.2.2.1.len p.2.2.2.2.2.2.2.2.2.2.2.2.2.2.2.2.2.2.2.2.2.2.2.2.1.cap,.slice p.2.2.2.2.2.2.2.2.2.2.2.2.2.2.2.2.2.2.2.2.2.2.2.2.2.1.a p.2.2.2.2.2.2.2.2.2.2.2.2.2.2.2.2.2.2.2.2.2.2.2.2.2.1.len p.2.2.2.2.2.2.2.2.2.2.2.2.2.2.2.2.2.2.2.2.2.2.2.2.2.1.cap]
abbrev D0k(p:Pk):Value:=.agg #[.int .i64 p.1,.bool p.2.1,.bool p.2.2.1,.int .i64 p.2.2.2.1,.int .i64 p.2.2.2.2.1,.string p.2.2.2.2.2.1,.string p.2.2.2.2.2.2.1,.int .u8 p.2.2.2.2.2.2.2.1,.slice p.2.2.2.2.2.2.2.2.1.a p.2.2.2.2.2.2.2.2.1.len p.2.2.2.2.2.2.2.2.1.cap,.slice p.2.2.2.2.2.2.2.2.2.1.a p.2.2.2.2.2.2.2.2.2.1.len p.2.2.2.2.2.2.2.2.2.1.cap,.string p.2.2.2.2.2.2.2.2.2.2.1,.bool p.2.2.2.2.2.2.2.2.2.2.2.1,.int .i64 p.2.2.2.2.2.2.2.2.2.2.2.2.1,.bool p.2.2.2.2.2.2.2.2.2.2.2.2.2.1,.string p.2.2.2.2.2.2.2.2.2.2.2.2.2.2.1,.string p.2.2.2.2.2.2.2.2.2.2.2.2.2.2.2.1,.int .i64 p.2.2.2.2.2.2.2.2.2.2.2.2.2.2.2.2.1,.bool p.2.2.2.2.2.2.2.2.2.2.2.2.2.2.2.2.2.1,.slice p.2.2.2.2.2.2.2.2.2.2.2.2.2.2.2.2.2.2.1.a p.2.2.2.2.2.2.2.2.2.2.2.2.2.2.2.2.2.2.1.len p.2.2.2.2.2.2.2.2.2.2.2.2.2.2.2.2.2.2.1.cap,.bool p.2.2.2.2.2.2.2.2.2.2.2.2.2.2.2.2.2.2.2.1,.bool p.2.2.2.2.2.2.2.2.2.2.2.2.2.2.2.2.2.2.2.2.1,.string p.2.2.2.2.2.2.2.2.2.2.2.2.2.2.2.2.2.2.2.2.2.1,.string p.2.2.2.2.2.2.2.2.2.2.2.2.2.2.2.2.2.2.2.2.2.2.1,.bool p.2.2.2.2.2.2.2.2.2.2.2.2.2.2.2.2.2.2.2.2.2.2.2.1,.slice p.2.2.2.2.2.2.2.2.2.2.2.2.2.2.2.2.2.2.2.2.2.2.2.2.1.a p.2.2.2.2.2.2.2.2.2.2.2.2.2.2.2.2.2.2.2.2.2.2.2.2.1.len p.2.2.2.2.2.2.2.2.2.2.2.2.2.2.2.2.2.2.2.2.2.2.2.2.1.cap,.slice p.2.2.2.2.2.2.2.2.2.2.2.2.2.2.2.2.2.2.2.2.2.2.2.2.2.1.a p.2.2.2.2.2.2.2.2.2.2.2.2.2.2.2.2.2.2.2.2.2.2.2.2.2.1.len p.2.2.2.2.2.2.2.2.2.2.2.2.2.2.2.2.2.2.2.2.2.2.2.2.2.1.cap]
abbrev C5g:Pk:=(0,false,false,0,0,ByteArray.mk #[],ByteArray.mk #[],0,⟨none,0,0⟩,⟨none,0,0⟩,ByteArray.mk #[],false,0,false,ByteArray.mk #[],ByteArray.mk #[],0,false,⟨none,0,0⟩,false,false,ByteArray.mk #[],ByteArray.mk #[],false,⟨none,0,0⟩,⟨none,0,0⟩,())
abbrev C89(k id c:Int):Pk:=(k,false,false,0,id,ByteArray.mk #[],ByteArray.mk #[],c,⟨none,0,0⟩,⟨none,0,0⟩,ByteArray.mk #[],false,0,false,ByteArray.mk #[],ByteArray.mk #[],0,false,⟨none,0,0⟩,false,false,ByteArray.mk #[],ByteArray.mk #[],false,⟨none,0,0⟩,⟨none,0,0⟩,())
abbrev r8:=Int×Int×B4p×B4p
abbrev e0S:B4p:=ByteArray.mk #[]
abbrev C5t:B4p:=ByteArray.mk #[116,97,103]
structure PkO where
 kind:Int
 dup:Bool
 dH:Bool
 eT:Int
 id:Int
 cD:B4p
 cU:B4p
 code:Int
 props:List r8
 cB:List Int
 fG:Bool
def C1X(t:B4p):List r8:=if t=e0S then[] else[(38,0,C5t,t)]
def A0G(m:MsT)(id:Int)(dup:Bool):PkO:=⟨3,dup,m.2.2.2.1,m.2.2.1,id,m.1,m.2.1,0,C1X m.2.2.2.2,[],false⟩
def l6(k id c:Int):PkO:=⟨k,false,false,0,id,e0S,e0S,c,[],[],false⟩
open Classical in
noncomputable def A4j(used:List Int)(t:Int):Int:=if h:∃(u:Int) (n:Nat),Reach used n t u then Classical.choose h else 0
theorem B50{used:List Int}{n:Nat}{t u:Int}(h:Reach used n t u):A4j used t=u:=by
 unfold A4j
 have hex:∃(u:Int) (n:Nat),Reach used n t u:=⟨u,n,h⟩
 rw[dif_pos hex]
 obtain⟨n',h'⟩:=Q3 hex
 exact h'.det h
noncomputable def goF(o:b7):List MsT→b7×List PkO
 |[]=>({o with waiting:=[]},[])
 |m::w=>
  if 0<m.2.2.1∧o.most≤(o.aF.length:Int) then({o with waiting:=m::w},[])
  else if 0<m.2.2.1 then
   let id:=A4j o.aU.used o.aU.taken
   let r:=goF {o with aU:=⟨o.aU.most,id,o.aU.used++[id]⟩,aF:=o.aF++[(id,m,false)]} w
   (r.1,A0G m id false::r.2)
  else
   let r:=goF o w
   (r.1,A0G m 0 false::r.2)
noncomputable def Z6(o:b7):b7×List PkO:=if o.on=true then goF o o.waiting else(o,[])
noncomputable def Z1(o:b7)(m:MsT):(b7×List PkO)×Int:=
 if m.2.2.1<0∨2<m.2.2.1 then((o,[]),155)
 else if m.2.2.1=0∧o.on=false then((o,[]),0)
 else if 256≤o.waiting.length then((o,[]),151)
 else(Z6 {o with waiting:=o.waiting++[m]},0)
def A3l(o:b7)(id:Int):b7:={o with aU:=⟨o.aU.most,o.aU.taken,o.aU.used.erase id⟩,aF:=o.aF.filter fun f=>decide (f.1≠id)}
def B24(o:b7)(id:Int):b7:={o with aF:=o.aF.map fun f=>if f.1=id then(f.1,f.2.1,true) else f}
noncomputable def A09(o:b7)(k id c:Int):(b7×List PkO)×Int:=
 if o.on=false∨(k≠4∧k≠5∧k≠7) then((o,[]),130)
 else match o.aF.find? (fun f=>decide (f.1=id)) with
  |none=>((o,[]),146)
  |some f=>
   if k=4 then(if f.2.1.2.2.1≠1 then((o,[]),130) else(Z6 (A3l o id),0))
   else if k=5 then
    (if f.2.1.2.2.1≠2∨(128≤c∧f.2.2=true) then((o,[]),130)
    else if 128≤c then(Z6 (A3l o id),0)
    else(((Z6 (B24 o id)).1,l6 6 id 0::(Z6 (B24 o id)).2),0))
   else(if f.2.2=false then((o,[]),130) else(Z6 (A3l o id),0))
def A1E(f:FlT):PkO:=if f.2.2=true then l6 6 f.1 0 else A0G f.2.1 f.1 true
noncomputable def A0z(o:b7)(most:Int):b7×List PkO:=
 let r:=Z6 {o with on:=true,most:=max 1 (min most 64)}
 (r.1,o.aF.map A1E++r.2)
structure X5(o:b7):Prop where
 pm:o.aU.most=64
 pk:o.aU.ok
 m1:1≤o.most
 m64:o.most≤64
 ids:o.aF.map (·.1)=o.aU.used
 wl:o.waiting.length≤256
 fq:∀f∈o.aF,1≤f.2.1.2.2.1∧f.2.1.2.2.1≤2∧(f.2.2=true→f.2.1.2.2.1=2)
 wq:∀m∈o.waiting,0≤m.2.2.1∧m.2.2.1≤2
theorem X5.fJ{o:b7}(h:X5 o):o.aF.length=o.aU.used.length:=by rw[←h.ids,C0]
theorem X5.f64{o:b7}(h:X5 o):o.aF.length≤64:=by
 have:=h.pk.len
 rw[h.pm] at this
 rw[h.fJ];omega
theorem X5.new:X5 ⟨⟨64,0,[]⟩,64,false,[],[]⟩ where
 pm:=rfl
 pk:=⟨by decide,by decide,by decide,by decide,by simp,by simp,by simp⟩
 m1:=by decide
 m64:=by decide
 ids:=rfl
 wl:=by simp
 fq:=by simp
 wq:=by simp
theorem X5.next{o:b7}(h:X5 o)(hl:(o.aF.length:Int)<o.most):∃n,Reach o.aU.used n o.aU.taken (A4j o.aU.used o.aU.taken):=by
 have h1:=h.pk.len
 have h2:=h.pm
 obtain⟨n,u,hu⟩:=C0v o.aU.used o.aU.taken h.pk.cN h.pk.nodup (by omega)
 exact⟨n,by rw[B50 hu];exact hu⟩
theorem X5.take{o:b7}(h:X5 o){m:MsT}{w:List MsT}(hw:w.length≤256)(nK:∀x∈w,0≤x.2.2.1∧x.2.2.1≤2)(hm:0<m.2.2.1∧m.2.2.1≤2)(hl:(o.aF.length:Int)<o.most):
  X5 {o with aU:=⟨o.aU.most,A4j o.aU.used o.aU.taken,o.aU.used++[A4j o.aU.used o.aU.taken]⟩,aF:=o.aF++[(A4j o.aU.used o.aU.taken,m,false)],waiting:=w}:=by
 obtain⟨n,hr⟩:=h.next hl
 have ll:=hr.range h.pk.cN
 have h2:=h.pm
 have h3:=h.fJ
 have h4:=h.m64
 refine⟨h.pm,C2q h.pk ll.1 ll.2.1 ll.2.2 (by omega) (by omega) (by omega),h.m1,h.m64,?_,hw,?_,nK⟩
 ·simp only[B8,B5,I3,h.ids]
 ·intro f hf
  rcases C7.1 hf with hf|hf
  ·exact h.fq f hf
  ·have:=B9.1 hf
   subst this
   exact⟨by simp only;omega,by simp only;omega,fun e=>by cases e⟩
theorem C2E:∀(w:List MsT) {o:b7},X5 o→w.length≤256→(∀x∈w,0≤x.2.2.1∧x.2.2.1≤2)→X5 (goF o w).1∧(goF o w).2.length≤w.length∧(goF o w).1.on=o.on∧(goF o w).1.most=o.most
 |[],o,h,_,_=>⟨⟨h.pm,h.pk,h.m1,h.m64,h.ids,by simp[goF],h.fq,by simp[goF]⟩,by simp[goF],rfl,rfl⟩
 |m::w,o,h,hl,hq=>by
  have gC:w.length≤256:=by simp only[B7] at hl;omega
  have ed:∀x∈w,0≤x.2.2.1∧x.2.2.1≤2:=fun x hx=>hq x (C2 _ hx)
  have hm:=hq m (B6 ..)
  unfold goF
  by_cases h1:0<m.2.2.1∧o.most≤(o.aF.length:Int)
  ·rw[if_pos h1]
   exact⟨⟨h.pm,h.pk,h.m1,h.m64,h.ids,hl,h.fq,hq⟩,by simp,rfl,rfl⟩
  ·rw[if_neg h1]
   by_cases h2:0<m.2.2.1
   ·rw[if_pos h2]
    have h3:(o.aF.length:Int)<o.most:=by omega
    have h4:=C2E w (h.take (m:=m) (w:=o.waiting) h.wl h.wq ⟨h2,hm.2⟩ h3) gC ed
    refine⟨h4.1,?_,h4.2.2.1,h4.2.2.2⟩
    have:=h4.2.1
    simp only[B7]
    exact Nat.succ_le_succ this
   ·rw[if_neg h2]
    have h4:=C2E w h gC ed
    refine⟨h4.1,?_,h4.2.2.1,h4.2.2.2⟩
    have:=h4.2.1
    simp only[B7]
    omega
theorem A9i{o:b7}(h:X5 o):X5 (Z6 o).1∧(Z6 o).2.length≤256:=by
 unfold Z6
 split
 ·have:=C2E o.waiting h h.wl h.wq
  exact⟨this.1,C4 this.2.1 h.wl⟩
 ·exact⟨h,by simp⟩
theorem X5.wait{o:b7}(h:X5 o){m:MsT}(hm:0≤m.2.2.1∧m.2.2.1≤2)(hl:¬256≤o.waiting.length):X5 {o with waiting:=o.waiting++[m]}:=
 ⟨h.pm,h.pk,h.m1,h.m64,h.ids,by simp;omega,h.fq,fun x hx=>by
  rcases C7.1 hx with hx|hx
  ·exact h.wq x hx
  ·rw[B9.1 hx];exact hm⟩
theorem A4c{o:b7}(h:X5 o)(m:MsT):X5 (Z1 o m).1.1∧(Z1 o m).1.2.length≤256:=by
 unfold Z1
 split
 ·exact⟨h,by simp⟩
 ·split
  ·exact⟨h,by simp⟩
  ·split
   ·exact⟨h,by simp⟩
   ·rename_i h1 h2 h3
    exact A9i (h.wait ⟨by omega,by omega⟩ h3)
theorem C4W{l:List FlT}{u:List Int}(h:l.map (·.1)=u)(hn:u.Nodup)(id:Int):(l.filter fun f=>decide (f.1≠id)).map (·.1)=u.erase id:=by
 subst h
 rw[List.Nodup.erase_eq_filter hn,S6]
 congr 1
 refine L9 fun x _=>?_
 by_cases e:x.1=id<;>simp[e]
theorem X5.over{o:b7}(h:X5 o)(id:Int):X5 (A3l o id):=
 ⟨h.pm,C5Y h.pk id,h.m1,h.m64,C4W h.ids h.pk.nodup id,h.wl,fun f hf=>h.fq f (E6.1 hf).1,h.wq⟩
theorem X5.rel{o:b7}(h:X5 o){id:Int}(hq:∀f∈o.aF,f.1=id→f.2.1.2.2.1=2):X5 (B24 o id):=by
 refine⟨h.pm,h.pk,h.m1,h.m64,?_,h.wl,fun f hf=>?_,h.wq⟩
 ·show(o.aF.map _).map _=o.aU.used
  rw[←h.ids,F3]
  refine I2 fun f _=>?_
  simp only[Function.comp_apply]
  split<;>rfl
 ·obtain⟨g,hg,rfl⟩:=E3.1 hf
  by_cases e:g.1=id
  ·rw[if_pos e]
   have:=h.fq g hg
   exact⟨this.1,this.2.1,fun _=>hq g hg e⟩
  ·rw[if_neg e]
   exact h.fq g hg
theorem X5.one{o:b7}(h:X5 o){f g:FlT}(hf:f∈o.aF)(hg:g∈o.aF)(e:f.1=g.1):f=g:=by
 have hn:=h.pk.nodup
 rw[←h.ids] at hn
 obtain⟨i,hi⟩:=List.getElem?_of_mem hf
 obtain⟨j,hj⟩:=List.getElem?_of_mem hg
 obtain⟨h1,rfl⟩:=D4.1 hi
 obtain⟨h2,rfl⟩:=D4.1 hj
 have hp:=List.pairwise_iff_getElem.1 (P6.1 hn)
 rcases Nat.lt_trichotomy i j with h3|h3|h3
 ·exact absurd e (hp i j h1 h2 h3)
 ·subst h3;rfl
 ·exact absurd e.symm (hp j i h2 h1 h3)
theorem B5g{o:b7}(h:X5 o)(k id c:Int):X5 (A09 o k id c).1.1∧(A09 o k id c).1.2.length≤257:=by
 have aO:X5 o∧([]:List PkO).length≤257:=⟨h,by simp⟩
 have over:X5 (Z6 (A3l o id)).1∧(Z6 (A3l o id)).2.length≤257:=⟨(A9i (h.over id)).1,C4 (A9i (h.over id)).2 (by decide)⟩
 unfold A09
 split
 ·exact aO
 ·split
  ·exact aO
  ·rename_i f hf
   split
   ·split
    ·exact aO
    ·exact over
   ·split
    ·split
     ·exact aO
     ·split
      ·exact over
      ·rename_i h5 h6 h7
       have oZ:=H2 hf
       have xL:f.1=id:=by simpa using N3 hf
       have hq:∀g∈o.aF,g.1=id→g.2.1.2.2.1=2:=fun g hg e=>by
        rw[h.one hg oZ (e.trans xL.symm)]
        simp only[not_or,Classical.not_not] at h6
        exact h6.1
       have:=A9i (h.rel hq)
       exact⟨this.1,by simp only[B7];omega⟩
    ·split
     ·exact aO
     ·exact over
theorem B3P{o:b7}(h:X5 o)(most:Int):X5 (A0z o most).1∧(A0z o most).2.length≤320:=by
 have h1:X5 {o with on:=true,most:=max 1 (min most 64)}:=⟨h.pm,h.pk,by simp only;omega,by simp only;omega,h.ids,h.wl,h.fq,h.wq⟩
 have h2:=A9i h1
 have h3:=h.f64
 unfold A0z
 refine⟨h2.1,?_⟩
 simp only[B3,C0]
 omega
theorem X5.off{o:b7}(h:X5 o)(b:Bool):X5 {o with on:=b}:=⟨h.pm,h.pk,h.m1,h.m64,h.ids,h.wl,h.fq,h.wq⟩
variable {h:Heap} {R:List Asn}
abbrev X6(x:r8):D0r:=[.int .i64 x.1,.int .i64 x.2.1,.string x.2.2.1,.string x.2.2.2]
theorem C3S(x:r8):(X6 x).length=4:=rfl
theorem C6z(x:r8):∀v∈X6 x,v.oneCell'=true:=by
 intro v hv;simp at hv;rcases hv with rfl|rfl|rfl|rfl<;>rfl
abbrev eKd(k:IntKind)(n:Int):D0r:=[.int k n]
theorem C3U(k:IntKind)(n:Int):(eKd k n).length=1:=rfl
theorem C6B(k:IntKind)(n:Int):∀v∈eKd k n,v.oneCell'=true:=by intro v hv;rw[B9.1 hv];rfl
abbrev pkT(o:PkO)(c p:Slc):Pk:=(o.kind,o.dup,o.dH,o.eT,o.id,o.cD,o.cU,o.code,c,p,ByteArray.mk #[],false,0,false,ByteArray.mk #[],ByteArray.mk #[],0,false,⟨none,0,0⟩,false,false,ByteArray.mk #[],ByteArray.mk #[],o.fG,⟨none,0,0⟩,⟨none,0,0⟩,())
abbrev X4(k:IntKind)(p:Pk):D0r:=[.int .i64 p.1,.bool p.2.1,.bool p.2.2.1,.int .i64 p.2.2.2.1,.int .i64 p.2.2.2.2.1,.string p.2.2.2.2.2.1,.string p.2.2.2.2.2.2.1,.int k p.2.2.2.2.2.2.2.1,.slice p.2.2.2.2.2.2.2.2.1.a p.2.2.2.2.2.2.2.2.1.len p.2.2.2.2.2.2.2.2.1.cap,.slice p.2.2.2.2.2.2.2.2.2.1.a p.2.2.2.2.2.2.2.2.2.1.len p.2.2.2.2.2.2.2.2.2.1.cap,.string p.2.2.2.2.2.2.2.2.2.2.1,.bool p.2.2.2.2.2.2.2.2.2.2.2.1,.int .i64 p.2.2.2.2.2.2.2.2.2.2.2.2.1,.bool p.2.2.2.2.2.2.2.2.2.2.2.2.2.1,.string p.2.2.2.2.2.2.2.2.2.2.2.2.2.2.1,.string p.2.2.2.2.2.2.2.2.2.2.2.2.2.2.2.1,.int .i64 p.2.2.2.2.2.2.2.2.2.2.2.2.2.2.2.2.1,.bool p.2.2.2.2.2.2.2.2.2.2.2.2.2.2.2.2.2.1,.slice p.2.2.2.2.2.2.2.2.2.2.2.2.2.2.2.2.2.2.1.a p.2.2.2.2.2.2.2.2.2.2.2.2.2.2.2.2.2.2.1.len p.2.2.2.2.2.2.2.2.2.2.2.2.2.2.2.2.2.2.1.cap,.bool p.2.2.2.2.2.2.2.2.2.2.2.2.2.2.2.2.2.2.2.1,.bool p.2.2.2.2.2.2.2.2.2.2.2.2.2.2.2.2.2.2.2.2.1,.string p.2.2.2.2.2.2.2.2.2.2.2.2.2.2.2.2.2.2.2.2.2.1,.string p.2.2.2.2.2.2.2.2.2.2.2.2.2.2.2.2.2.2.2.2.2.2.1,.bool p.2.2.2.2.2.2.2.2.2.2.2.2.2.2.2.2.2.2.2.2.2.2.2.1,.slice p.2.2.2.2.2.2.2.2.2.2.2.2.2.2.2.2.2.2.2.2.2.2.2.2.1.a p.2.2.2.2.2.2.2.2.2.2.2.2.2.2.2.2.2.2.2.2.2.2.2.2.1.len p.2.2.2.2.2.2.2.2.2.2.2.2.2.2.2.2.2.2.2.2.2.2.2.2.1.cap,.slice p.2.2.2.2.2.2.2.2.2.2.2.2.2.2.2.2.2.2.2.2.2.2.2.2.2.1.a p.2.2.2.2.2.2.2.2.2.2.2.2.2.2.2.2.2.2.2.2.2.2.2.2.2.1.len p.2.2.2.2.2.2.2.2.2.2.2.2.2.2.2.2.2.2.2.2.2.2.2.2.2.1.cap]
abbrev B8R(k:IntKind):List Tag:=[.int .i64,.bool,.bool,.int .i64,.int .i64,.str,.str,.int k,.slc,.slc,.str,.bool,.int .i64,.bool,.str,.str,.int .i64,.bool,.slc,.bool,.bool,.str,.str,.bool,.slc,.slc]
abbrev A2B(k:IntKind)(p:Pk):Value:=.agg (X4 k p).toArray
theorem B6D(k:IntKind)(p:Pk):(X4 k p).length=26:=rfl
theorem B3H(k:IntKind)(p:Pk):∀v∈X4 k p,v.oneCell'=true:=by
 intro v hv
 have:(X4 k p).all (fun v=>v.oneCell')=true:=rfl
 exact J1.1 this v hv
def pkB(k:IntKind)(t:Slc×Slc×PkO):Asn:=star (V1 (eKd k) 1 t.1 t.2.2.cB) (V1 X6 4 t.2.1 t.2.2.props)
theorem A4Q{k:IntKind}{t:Slc×Slc×PkO}:sat h (pkB k t::R)↔sat h (V1 (eKd k) 1 t.1 t.2.2.cB::V1 X6 4 t.2.1 t.2.2.props::R):=sat.aI
theorem A3j{k:IntKind}{o:PkO}(hc:o.cB=[])(hp:o.props=[])(hs:sat h R):sat h (pkB k (⟨none,0,0⟩,⟨none,0,0⟩,o)::R):=by
 refine A4Q.2 ?_
 show sat h (V1 (eKd k) 1 ⟨none,0,0⟩ o.cB::V1 X6 4 ⟨none,0,0⟩ o.props::R)
 rw[hc,hp]
 exact Z2 (Z2 hs)
abbrev pkF(t:Slc×Slc×PkO):Pk:=pkT t.2.2 t.1 t.2.1
def r6(k:IntKind)(s:Slc)(os:List PkO):Asn:=exA fun T:List (Slc×Slc×PkO)=>star (pr (T.map (·.2.2)=os)) (star (V1 (X4 k) 26 s (T.map pkF)) (b8 (pkB k) T))
theorem A7L{k:IntKind}{s:Slc}{os:List PkO}:sat h (r6 k s os::R)↔∃T:List (Slc×Slc×PkO),T.map (·.2.2)=os∧sat h (V1 (X4 k) 26 s (T.map pkF)::b8 (pkB k) T::R):=by
 unfold r6
 rw[sat.aZ]
 simp only[sat.aI,sat.bB]
theorem A1X{k:IntKind}(hs:sat h R):sat h (r6 k ⟨none,0,0⟩ []::R):=A7L.2 ⟨[],rfl,Z2 (A2F.2 hs)⟩
theorem A5G{α:Type}{f:α→Asn}:∀{a b:List α} {R:List Asn},sat h (b8 f (a++b)::R)↔sat h (b8 f a::b8 f b::R)
 |[],b,R=>by
  rw[F0]
  exact⟨fun hs=>A2F.2 hs,fun hs=>A2F.1 hs⟩
 |x::a,b,R=>by
  rw[G7,o3]
  constructor
  ·intro hs
   exact o3.2 ((A5G.1 hs.p1).re [2,0,1])
  ·intro hs
   exact(A5G.2 ((o3.1 hs).re [1,2,0])).p1
theorem A3Z{α:Type}{f:α→Asn}{x:α}:sat h (b8 f [x]::R)↔sat h (f x::R):=by
 rw[o3]
 exact⟨fun hs=>A2F.1 hs.p1,fun hs=>(A2F.2 hs).p1⟩
theorem A5o{k:IntKind}{s:Slc}{os:List PkO}{t:Slc×Slc×PkO}(hs:sat h (r6 k s os::pkB k t::R)){elem T:TypeId}{bytes:Nat}{zero:D0q}(hz:zero.size=26)(gI:0<bytes)(hb:(os.length+1)*bytes≤140737488355328){Q:Slc→Heap→Prop}
  (hq:∀s' h',sat h' (r6 k s' (os++[t.2.2])::R)→Q s' h'):HM.new (.cells (X4 k (pkF t)).toArray T) h fun b h'=>HM.append elem 26 bytes zero s 1 (W4 26 ⟨some ⟨b,0,none⟩,1,1⟩) h' Q:=by
 obtain⟨L,rfl,aa⟩:=A7L.1 hs
 refine A0H (x:=pkF t) (B6D k) (B3H k) hz aa (by decide) gI (by simpa using hb) fun s' h' ae=>?_
 refine hq s' h' (A7L.2 ⟨L++[t],by simp,?_⟩)
 rw[B8]
 exact(A5G.2 ((A3Z.2 (ae.re [2,1,0])).p1)).p1
end
section
open Go.H Go.Proofs
variable {h:Heap} {R:List Asn}
theorem A6i(x:MsT):(Z5 x).length=5:=rfl
theorem B2F(x:MsT):∀v∈Z5 x,v.oneCell'=true:=by
 intro v hv;simp at hv;rcases hv with rfl|rfl|rfl|rfl|rfl<;>rfl
theorem A2A(x:FlT):(u4 x).length=7:=rfl
theorem A9S(x:FlT):∀v∈u4 x,v.oneCell'=true:=by
 intro v hv;simp at hv;rcases hv with rfl|rfl|rfl|rfl|rfl|rfl|rfl<;>rfl
abbrev MsU:=B4p×B4p×Int×Bool×B4p×Unit
abbrev toU(m:MsT):MsU:=(m.1,m.2.1,m.2.2.1,m.2.2.2.1,m.2.2.2.2,())
abbrev vMs(m:MsT):Value:=.agg #[.string m.1,.string m.2.1,.int .i64 m.2.2.1,.bool m.2.2.2.1,.string m.2.2.2.2]
theorem C3H{a:Addr}{m:MsT}(ha:∀j v,(Z5 m)[j]? =some v→W8 h (a.add j)=some v){Q:MsU→Heap→Prop}(hq:Q (toU m) h):o9 [.str,.str,.int .i64,.bool,.str] a h Q:=
 A0A (ts:=[.str,.str,.int .i64,.bool,.str]) (toU m) (fun i v hv=>ha i v hv) hq
theorem B8k{m:MsT}{id:Int}{dup:Bool}(hs:sat h R){Q:Value→Heap→Prop}(hq:∀c p h',sat h' (pkB .u8 (c,p,A0G m id dup)::R)→Q (A2B .u8 (pkT (A0G m id dup) c p)) h'):
  V9 prog 118 #[vMs m,.int .i64 id,.bool dup] h Q:=by
 refine A4B (toU m) id dup h Q ?_
 delta A3n az bn es A1h ie jb ji jt nw pu sn sw ve vi vz w10 w11 w12 w13 w14 w15 w16 w17 w18 w19 w20 w21 w22 w23 w24 w25 w5 w6 w7 w8 w9
 refine W5 hs fun x1 h1 aa=>?_
 refine W5 aa fun x2 h2 ae=>?_
 refine⟨m.2.2.1,by rw[V0];exact ae.p1.cell 2,m.2.2.2.1,by rw[V0];exact ae.p1.cell 3,m.1,by rw[V0];exact ae.p1.cell 0,m.2.1,by rw[V0];exact ae.p1.cell 1,?_⟩
 refine W5 ae fun x7 h3 bt=>?_
 (try dsimp only);rw[U7]
 refine o4 bt rfl rfl fun h4 ak=>?_
 refine⟨m.2.2.2.2,by rw[V0];exact ak.p2.cell 4,?_⟩
 refine cut (fun z h'=>∃p:Slc,sat h' (cells x7 (X4 .u8 (pkT (A0G m id dup) ⟨none,0,0⟩ p)).toArray::cells x2 (X4 .u8 C5g).toArray::pkB .u8 (⟨none,0,0⟩,p,A0G m id dup)::R)) ?_ ?_
 ·intro K hK
  (try dsimp only);rw[V4]
  by_cases ht:m.2.2.2.2=ByteArray.mk #[]
  ·rw[if_neg (by simp[ht])]
   refine hK _ _ ⟨⟨none,0,0⟩,?_⟩
   have:=A3j (k:=.u8) (o:=A0G m id dup) rfl (by simp[A0G,C1X,ht]) ak
   exact(this.re [1,2,0,3]).p3.drop
  ·rw[if_pos (by simp[ht])]
   refine⟨m.2.2.2.2,by rw[V0];exact ak.p2.cell 4,?_⟩
   refine W5 ak fun iG h5 aj=>?_
   (try dsimp only);rw[U7,V0]
   refine X3 aj.p1 (by simp) rfl fun h6 aw=>?_
   refine hK _ _ ⟨⟨some ⟨iG,0,none⟩,1,1⟩,?_⟩
   have hp:(A0G m id dup).props=[(38,0,C5t,m.2.2.2.2)]:=by simp[A0G,C1X,ht]
   have h7:sat h6 (V1 X6 4 ⟨some ⟨iG,0,none⟩,1,1⟩ (A0G m id dup).props::cells x7 (X4 .u8 (pkT (A0G m id dup) ⟨none,0,0⟩ ⟨some ⟨iG,0,none⟩,1,1⟩)).toArray::cells x2 (X4 .u8 C5g).toArray::R):=by
    rw[hp]
    exact A1N (o:=0) (cs:=(X6 (38,0,C5t,m.2.2.2.2)).toArray) ⟨rfl,D9 _,rfl,by simp,by simp⟩ (aw.re [1,0,2,3]).p3.drop
   have h8:sat h6 (V1 (eKd .u8) 1 ⟨none,0,0⟩ (A0G m id dup).cB::V1 X6 4 ⟨some ⟨iG,0,none⟩,1,1⟩ (A0G m id dup).props::cells x7 (X4 .u8 (pkT (A0G m id dup) ⟨none,0,0⟩ ⟨some ⟨iG,0,none⟩,1,1⟩)).toArray::cells x2 (X4 .u8 C5g).toArray::R):=Z2 h7
   exact((A4Q (t:=(⟨none,0,0⟩,⟨some ⟨iG,0,none⟩,1,1⟩,A0G m id dup))).2 h8).re [1,2,0]
 rintro⟨⟩ h5 ⟨p,aj⟩
 refine Z3 (ts:=B8R .u8) (pkT (A0G m id dup) ⟨none,0,0⟩ p) aj rfl ?_
 (try dsimp only);rw[U7]
 refine o4 aj.p1 rfl rfl fun h6 aw=>?_
 refine Z3 (ts:=B8R .u8) (pkT (A0G m id dup) ⟨none,0,0⟩ p) aw rfl ?_
 exact hq _ _ h6 aw.drop.drop
theorem B2v(o:b7)(m:MsT)(w:List MsT):goF o (m::w)=if 0<m.2.2.1∧o.most≤(o.aF.length:Int) then({o with waiting:=m::w},[])
  else if 0<m.2.2.1 then((goF {o with aU:=⟨o.aU.most,A4j o.aU.used o.aU.taken,o.aU.used++[A4j o.aU.used o.aU.taken]⟩,aF:=o.aF++[(A4j o.aU.used o.aU.taken,m,false)]} w).1,A0G m (A4j o.aU.used o.aU.taken) false::(goF {o with aU:=⟨o.aU.most,A4j o.aU.used o.aU.taken,o.aU.used++[A4j o.aU.used o.aU.taken]⟩,aF:=o.aF++[(A4j o.aU.used o.aU.taken,m,false)]} w).2)
  else((goF o w).1,A0G m 0 false::(goF o w).2):=rfl
theorem A4n(o:b7)(l:List MsT):∀(w:List MsT),goF {o with waiting:=l} w=goF o w:=by
 intro w
 induction w generalizing o with
 |nil=>rfl
 |cons m w ih=>
  rw[B2v,B2v]
  split
  ·rfl
  ·split
   ·have:=ih {o with aU:=⟨o.aU.most,A4j o.aU.used o.aU.taken,o.aU.used++[A4j o.aU.used o.aU.taken]⟩,aF:=o.aF++[(A4j o.aU.used o.aU.taken,m,false)]}
    simp only[this]
   ·rw[ih o]
theorem B3C{b:Nat}{o:b7}{ps:List PkO}{s:Slc}(hs:sat h (v7 b o::r6 .u8 s ps::R))(ag:X5 o)(ic:ps.length≤10000){Q:Value→Heap→Prop}
  (hq:∀h' S,sat h' (v7 b (Z6 o).1::r6 .u8 S (ps++(Z6 o).2)::R)→Q (.slice S.a S.len S.cap) h'):
  V9 prog 119 #[at0 b,.slice s.a s.len s.cap] h Q:=by
 refine A67 (some ⟨b,0,none⟩) s h Q ?_
 delta A54 az bn g7 ie ix ji kb kc ki kp nn nw pu rq sn sx vi vs
 (try dsimp only);rw[U7]
 refine A6x (γ:=b7×List PkO) (fun g c h'=>X5 g.1∧g.2.length+g.1.waiting.length≤10300∧(Z6 g.1).1=(Z6 o).1∧g.2++(Z6 g.1).2=ps++(Z6 o).2∧sat h' (v7 b g.1::r6 .u8 c.1 g.2::R)) (fun g=>g.1.waiting.length) (o,ps)
  ⟨ag,by have:=ag.wl;simp only;omega,rfl,rfl,hs⟩ ?_
 clear hs ic ag
 rintro⟨o1,os⟩ ⟨out,⟨⟩⟩ h1 ⟨ag,ic,dm,da,dW⟩ K bh hd
 simp only at ag ic dm da dW
 obtain⟨pb,fl,wt,aa⟩:=u3.1 dW
 have eY:wt.len=o1.waiting.length:=(aa.p3).aW
 have bZ:fl.len=o1.aF.length:=(aa.p2).aW
 refine cut (fun z h'=>h'=h1∧z.1=(o1.on&&decide (0<o1.waiting.length))) ?_ ?_
 ·intro K2 aQ
  refine⟨_,rfl,o1.on,by rw[V0];exact aa.cell 2,?_⟩
  (try dsimp only);rw[V4]
  cases aV:o1.on with
  |false=>rw[if_neg (by simp)];exact aQ _ _ ⟨rfl,by simp[aV]⟩
  |true=>
   rw[if_pos rfl]
   refine⟨_,rfl,wt,by rw[V0];exact aa.cell 4,?_⟩
   refine aQ _ _ ⟨rfl,?_⟩
   simp only[eY,aV,G5]
   exact F8.2 (by omega)
 rintro⟨z,⟨⟩⟩ h2 ⟨rfl,hz⟩
 simp only at hz
 subst hz
 (try dsimp only);rw[V4]
 by_cases oe:o1.on=true∧0<o1.waiting.length
 case neg=>
  rw[if_neg (by rw[E8,decide_eq_true_eq];exact oe)]
  have e:Z6 o1=(o1,[]):=by
   unfold Z6
   by_cases aV:o1.on=true
   ·rw[if_pos aV]
    have hw:o1.waiting=[]:=by
     cases hw:o1.waiting with
     |nil=>rfl
     |cons m w=>exact absurd ⟨aV,by rw[hw];simp⟩ oe
    rw[hw]
    show({o1 with waiting:=[]},[])=_
    rw[←hw]
   ·rw[if_neg aV]
  rw[e] at dm da
  rw[C1] at da
  refine hd _ _ (hq h2 out ?_)
  rw[←dm,←da]
  exact dW
 obtain⟨aV,kA⟩:=oe
 rw[if_pos (by simp[aV,kA])]
 cases bw:o1.waiting with
 |nil=>rw[bw] at kA;simp at kA
 |cons m w=>
 have iq:=ag.wl
 have tM:=ag.wq m (by rw[bw];exact B6 ..)
 have nK:∀x∈w,0≤x.2.2.1∧x.2.2.1≤2:=fun x hx=>ag.wq x (by rw[bw];exact C2 _ hx)
 have oe:Z6 o1=goF o1 (m::w):=by unfold Z6;rw[if_pos aV,bw]
 rw[oe,B2v] at dm da
 rw[bw] at ic aa eY iq
 have gF:=ag.f64
 have qB:=ag.m64
 refine⟨_,rfl,wt,by rw[V0];exact aa.cell 4,?_⟩
 (try dsimp only);rw[U7]
 refine Y0 (i:=0) (aa.p3.aN A6i) (x:=m) rfl fun p hp=>?_
 (try dsimp only);rw[U7]
 refine C3H hp ?_
 refine W5 aa fun jq h3 ba=>?_
 (try dsimp only);rw[U7]
 refine o4 ba rfl rfl fun h4 gS=>?_
 have ae:sat h4 (cells jq (Z5 m).toArray::cells b #[at0 pb,.int .i64 o1.most,.bool o1.on,.slice fl.a fl.len fl.cap,.slice wt.a wt.len wt.cap]::A1A pb o1.aU::V1 u4 7 fl o1.aF::V1 Z5 5 wt (m::w)::r6 .u8 out os::R):=gS
 clear gS ba aa
 refine cut (fun z h'=>h'=h4∧z.1=decide (0<m.2.2.1∧o1.most≤(o1.aF.length:Int))) ?_ ?_
 ·intro K2 aQ
  refine⟨m.2.2.1,by rw[V0];exact ae.cell 2,?_⟩
  (try dsimp only);rw[V4]
  by_cases gA:0<m.2.2.1
  ·rw[if_pos (by simpa using gA)]
   refine⟨_,rfl,fl,by rw[V0];exact ae.p1.cell 3,_,rfl,o1.most,by rw[V0];exact ae.p1.cell 1,?_⟩
   refine aQ _ _ ⟨rfl,?_⟩
   simp only[bZ]
   rw[F8]
   simp[gA]
  ·rw[if_neg (by simpa using gA)]
   exact aQ _ _ ⟨rfl,by simp[gA]⟩
 rintro⟨z,⟨⟩⟩ h5 ⟨rfl,hz⟩
 simp only at hz
 subst hz
 (try dsimp only);rw[V4]
 by_cases ax:0<m.2.2.1∧o1.most≤(o1.aF.length:Int)
 ·rw[if_pos (by simpa using ax)]
  rw[if_pos ax] at dm da
  rw[C1] at da
  refine hd _ _ (hq h5 out ?_)
  rw[←dm,←da]
  have:sat h5 (v7 b {o1 with waiting:=m::w}::r6 .u8 out os::R):=u3.2 ⟨pb,fl,wt,ae.drop⟩
  exact this
 rw[if_neg (by simpa using ax)]
 rw[if_neg ax] at dm da
 refine⟨_,rfl,wt,by rw[V0];exact ae.p1.cell 4,?_⟩
 (try dsimp only);rw[U7]
 refine B20 (mx:=none) (lo:=1) (hi:=(m::w).length) ae.p4 A6i (by simp) (D9 _) ⟨rfl,by simp⟩ (by rw[eY];rfl) fun wt' ai=>?_
 rw[F5] at ai
 have bt:sat h5 (V1 Z5 5 wt' w::cells jq (Z5 m).toArray::cells b #[at0 pb,.int .i64 o1.most,.bool o1.on,.slice fl.a fl.len fl.cap,.slice wt.a wt.len wt.cap]::A1A pb o1.aU::V1 u4 7 fl o1.aF::r6 .u8 out os::R):=ai
 clear ai ae
 refine⟨_,rfl,?_⟩
 (try dsimp only);rw[U7,V0]
 refine X3 bt.p2 (by simp) rfl fun h6 bk=>?_
 have ak:sat h6 (cells b #[at0 pb,.int .i64 o1.most,.bool o1.on,.slice fl.a fl.len fl.cap,.slice wt'.a wt'.len wt'.cap]::V1 Z5 5 wt' w::cells jq (Z5 m).toArray::A1A pb o1.aU::V1 u4 7 fl o1.aF::r6 .u8 out os::R):=bk
 clear bk bt
 refine⟨m.2.2.1,by rw[V0];exact ak.p2.cell 2,?_⟩
 refine cut (fun z h'=>∃(fl':Slc) (o2:b7),o2.on=true∧o2.waiting=w∧X5 o2∧(goF o2 w).1=(Z6 o).1∧os++A0G m z.1 false::(goF o2 w).2=ps++(Z6 o).2∧
   sat h' (cells jq (Z5 m).toArray::cells b #[at0 pb,.int .i64 o2.most,.bool o2.on,.slice fl'.a fl'.len fl'.cap,.slice wt'.a wt'.len wt'.cap]::A1A pb o2.aU::V1 u4 7 fl' o2.aF::V1 Z5 5 wt' w::r6 .u8 out os::R)) ?_ ?_
 ·intro K2 aQ
  (try dsimp only);rw[V4]
  by_cases gA:0<m.2.2.1
  ·rw[if_pos (by simpa using gA)]
   rw[if_pos gA] at dm da
   dsimp only at dm da
   have jU:(o1.aF.length:Int)<o1.most:=by omega
   refine⟨_,rfl,some ⟨pb,0,none⟩,by rw[V0];exact ak.cell 0,?_⟩
   have ue:=ag.fJ
   have ir:=ag.pm
   refine u6 (C5f ak.p3 (fun hf=>absurd hf (by omega)) (fun _ n u hr h7 gu=>⟨(u,0,()),rfl,?_⟩))
   have hu:=B50 hr
   have aC:sat h7 (A1A pb ⟨o1.aU.most,u,o1.aU.used++[u]⟩::cells b #[at0 pb,.int .i64 o1.most,.bool o1.on,.slice fl.a fl.len fl.cap,.slice wt'.a wt'.len wt'.cap]::V1 Z5 5 wt' w::cells jq (Z5 m).toArray::V1 u4 7 fl o1.aF::r6 .u8 out os::R):=gu
   clear gu
   refine⟨_,rfl,fl,by rw[V0];exact aC.p1.cell 3,?_⟩
   refine Z3 (ts:=[.str,.str,.int .i64,.bool,.str]) (toU m) aC.p3 rfl ?_
   refine W5 aC fun pH h8 bq=>?_
   refine⟨fl,by rw[V0];exact bq.p2.cell 3,rfl,?_⟩
   (try dsimp only);rw[U7]
   refine A0d (enc:=u4) (ys:=[(u,m,false)]) A2A A9S rfl bq.p5 rfl ?_ (by decide) (by decide) (by omega) fun fl' h9 eA=>?_
   ·simp only[W4,N5,D8,I1,C1]
    exact bq.reads rfl
   refine⟨_,rfl,?_⟩
   (try dsimp only);rw[U7,V0]
   refine X3 eA.p3 (by simp) rfl fun gm gv=>?_
   have aR:=ag.take (m:=m) (w:=w) (by simp only[B7] at iq;omega) nK ⟨gA,tM.2⟩ jU
   rw[hu] at dm da aR
   refine aQ _ _ ⟨fl',{o1 with aU:=⟨o1.aU.most,u,o1.aU.used++[u]⟩,aF:=o1.aF++[(u,m,false)],waiting:=w},aV,rfl,aR,?_,?_,(gv.re [2,5,0,3,1,4,6]).drop⟩
   ·rw[←dm]
    exact congrArg Prod.fst (A4n {o1 with aU:=⟨o1.aU.most,u,o1.aU.used++[u]⟩,aF:=o1.aF++[(u,m,false)]} w w)
   ·rw[←da]
    have:=congrArg Prod.snd (A4n {o1 with aU:=⟨o1.aU.most,u,o1.aU.used++[u]⟩,aF:=o1.aF++[(u,m,false)]} w w)
    simp only at this⊢
    rw[this]
  ·rw[if_neg (by simpa using gA)]
   rw[if_neg gA] at dm da
   dsimp only at dm da
   refine aQ _ _ ⟨fl,{o1 with waiting:=w},aV,rfl,⟨ag.pm,ag.pk,ag.m1,ag.m64,ag.ids,by simp only[B7] at iq⊢;omega,ag.fq,nK⟩,?_,?_,ak.re [2,0,3,4,1]⟩
   ·rw[←dm,A4n]
   ·rw[←da,A4n]
 rintro⟨id,⟨⟩⟩ h7 ⟨fl',o2,tE,jr,ca,xO,vP,aj⟩
 simp only at vP
 refine Z3 (ts:=[.str,.str,.int .i64,.bool,.str]) (toU m) aj rfl ?_
 refine V3 (B8k (m:=m) (id:=id) (dup:=false) aj fun c p h8 aw=>⟨pkT (A0G m id false) c p,rfl,?_⟩)
 refine A5o (t:=(c,p,A0G m id false)) (aw.re [6,0,1,2,3,4,5]) rfl (by decide) (by simp only[B7] at ic;omega) fun out' h9 aC=>?_
 have e2:Z6 o2=goF o2 w:=by unfold Z6;rw[if_pos tE,jr]
 refine bh (o2,os++[A0G m id false]) _ _ (by simp only[bw,jr,B7];omega) ⟨ca,?_,by rw[e2];exact xO,by rw[e2,D7];exact vP,?_⟩
 ·simp only[jr,B3,B7,G1] at ic⊢
  omega
 ·refine u3.2 ⟨pb,fl',wt',?_⟩
  rw[jr]
  exact(aC.re [2,3,4,5,0,1]).re [0,1,2,3,4,5]|>fun hh=>(hh.re [5,0,1,2,3,4]).drop
end
instance:Enc Z5 5:=⟨A6i,B2F,by decide⟩
instance:Enc u4 7:=⟨A2A,A9S,by decide⟩
instance(k:IntKind):Enc (X4 k) 26:=⟨B6D k,B3H k,by decide⟩
instance(k:IntKind):Enc (eKd k) 1:=⟨C3U k,C6B k,by decide⟩
instance:Enc X6 4:=⟨C3S,C6z,by decide⟩
abbrev A0p(x:B4p):D0r:=[.string x]
instance:Enc A0p 1:=⟨fun _=>rfl,fun x v hv=>by rw[B9.1 hv];rfl,by decide⟩
end Go.Proofs.YtidlldnlphdhcaaGreatDoor
namespace Go.H
section
variable {A B C D E F:Asn} {L L1 L2 L3 L4 L5 L' R:List Asn} {h:Heap}
theorem Has.eX(hb:Has L B L1)(hc:Has L1 C L2)(hd:Has L2 D L3)(he:Has L3 E L4)(hf:Has L4 F L5):Sub L (B::C::D::E::F::L5):=fun m hs=>A0M (fun _ h=>h) (hc.eL hd he hf) (hb m hs)
theorem W.eC{α:Type}{m:HM α}{Q:α→Heap→Prop}(mk:∀h,sat h (B::C::D::E::F::L5)→sat h (A::L5))(hw:W (A::L5) m Q)(hb:Has L B L1:=by repeat first|with_reducible exact V5|apply V7)(hc:Has L1 C L2:=by repeat first|with_reducible exact V5|apply V7)(hd:Has L2 D L3:=by repeat first|with_reducible exact V5|apply V7)(he:Has L3 E L4:=by repeat first|with_reducible exact V5|apply V7)(hf:Has L4 F L5:=by repeat first|with_reducible exact V5|apply V7):W L m Q:=fun h hs=>hw h (mk h ((hb.eX hc hd he hf).s hs))
theorem At.dB{q:Heap→Prop}(mk:∀h,sat h (B::C::L2)→sat h (A::L2))(hw:At (A::L2) q)(hb:Has L B L1:=by repeat first|with_reducible exact V5|apply V7)(hc:Has L1 C L2:=by repeat first|with_reducible exact V5|apply V7):At L q:=fun h hs=>hw h (mk h ((hb.then hc).s hs))
theorem At.eC{q:Heap→Prop}(mk:∀h,sat h (B::C::D::E::F::L5)→sat h (A::L5))(hw:At (A::L5) q)(hb:Has L B L1:=by repeat first|with_reducible exact V5|apply V7)(hc:Has L1 C L2:=by repeat first|with_reducible exact V5|apply V7)(hd:Has L2 D L3:=by repeat first|with_reducible exact V5|apply V7)(he:Has L3 E L4:=by repeat first|with_reducible exact V5|apply V7)(hf:Has L4 F L5:=by repeat first|with_reducible exact V5|apply V7):At L q:=fun h hs=>hw h (mk h ((hb.eX hc hd he hf).s hs))
variable {K V σ τ β:Type} {ek:K→Value} {ev:V→Value} {r it:Nat} {l done todo:List (K×V)} {Q':β→Heap→Prop}
theorem W.range{f:Nat→HM β}(hw:∀it,W (itA ek ev r l it [] l::L') (f it) Q')(hx:Has L (mapA ek ev r l) L':=by repeat first|with_reducible exact V5|apply V7):W L (HM.bind (B0H (some r)) f) Q':=fun h hs=>
 A9C (hx.s hs) fun it h' af=>hw it h' af
theorem W.entry{kk kv:Kind}{p:K×V}{x:kk.ty}{y:kv.ty}{f:kk.ty×kv.ty→HM β}(hw:W L (f (x,y)) Q')(hx:Has L (itA ek ev r l it (done++[p]) todo) L':=by repeat first|with_reducible exact V5|apply V7)(hk:ek p.1=kk.val x:=by rfl)(hv:ev p.2=kv.val y:=by rfl):W L (HM.bind (A4O kk kv it) f) Q':=fun h hs=>
 A9Q hk hv (hx.s hs) (hw h hs)
theorem C9Q{γ:Type}{s:σ}{body:σ→HM (σ⊕τ)}{Q:τ→Heap→Prop}(I:γ→σ→Prop)(J:γ→σ→List Asn)(μ:γ→Nat)(g:γ)(h0:I g s)(hL:Sub L (J g s))
  (hr:∀g s,I g s→∀K:σ⊕τ→Heap→Prop,(∀g' s',μ g'<μ g→I g' s'→At (J g' s') (K (.inl s')))→(∀t L,At L (Q t)→At L (K (.inr t)))→W (J g s) (body s) K):
  W L (HM.loop body s) Q:=fun h hs=>by
 refine A6x (γ:=γ) (fun g s h=>I g s∧sat h (J g s)) μ g ⟨h0,hL.s hs⟩ ?_
 rintro g s h ⟨hI,hJ⟩ K h1 h2
 exact hr g s hI K (fun g' s' hm rB h' af=>h1 g' s' h' hm ⟨rB,af⟩) (fun t L hw h' af=>h2 t h' (hw h' af)) h hJ
theorem C6V{s:σ}{N:σ→HM (σ⊕τ)}{S:σ→Value×Value→HM (σ⊕τ)}{f:τ→HM β}(J:List (K×V)→σ→List Asn)(hL:Sub L (itA ek ev r l it [] l::J [] s))
  (hN:∀done s,done.Perm l→∀K':σ⊕τ→Heap→Prop,(∀t L,W L (f t) Q'→At L (K' (.inr t)))→W (mapA ek ev r l::J done s) (N s) K')
  (hS:∀done p rest s,(done++p::rest).Perm l→∀K':σ⊕τ→Heap→Prop,(∀s',At (itA ek ev r l it (done++[p]) rest::J (done++[p]) s') (K' (.inl s')))→
   (∀t L,W L (f t) Q'→At L (K' (.inr t)))→W (itA ek ev r l it (done++[p]) rest::J done s) (S s (ek p.1,ev p.2)) K'):
  W L (HM.bind (HM.loop (fun s=>HM.bind (A8G it) fun o=>A2Q o (N s) (S s)) s) f) Q':=fun h hs=>by
 rw[U7]
 refine C6a J (hL.s hs) (fun done s h hp hs K' hd=>?_) (fun done p rest s h hp hs K' bh hd=>?_)
 ·exact hN done s hp K' (fun t L hw h' af=>hd t h' (hw h' af)) h hs
 ·exact hS done p rest s hp K' (fun s' h' af=>bh s' h' af) (fun t L hw h' af=>hd t h' (hw h' af)) h hs
theorem C7L{s:σ}{N:σ→HM (σ⊕τ)}{S:σ→Value×Value→HM (σ⊕τ)}{f:τ→HM β}(p:List (K×V)→σ→Prop)(J:List (K×V)→σ→List Asn)(hp:p [] s)(hL:Sub L (itA ek ev r l it [] l::J [] s))
  (hN:∀done s,done.Perm l→p done s→∀K':σ⊕τ→Heap→Prop,(∀t L,W L (f t) Q'→At L (K' (.inr t)))→W (mapA ek ev r l::J done s) (N s) K')
  (hS:∀done q rest s,(done++q::rest).Perm l→p done s→∀K':σ⊕τ→Heap→Prop,(∀s',p (done++[q]) s'→At (itA ek ev r l it (done++[q]) rest::J (done++[q]) s') (K' (.inl s')))→
   (∀t L,W L (f t) Q'→At L (K' (.inr t)))→W (itA ek ev r l it (done++[q]) rest::J done s) (S s (ek q.1,ev q.2)) K'):
  W L (HM.bind (HM.loop (fun s=>HM.bind (A8G it) fun o=>A2Q o (N s) (S s)) s) f) Q':=by
 refine C6V (ek:=ek) (ev:=ev) (r:=r) (l:=l) (fun done s=>pr (p done s)::J done s) ?_ ?_ ?_
 ·exact fun m hs=>A0M (fun _ h=>h) (fun _ h=>B7u hp h) (hL m hs)
 ·intro done s hd K' hk h hs
  obtain⟨h1,h2⟩:=sat.bB.1 (hs.re [1,0])
  exact hN done s hd h1 K' hk h h2
 ·intro done q rest s hd K' bh hk h hs
  obtain⟨h1,h2⟩:=sat.bB.1 (hs.re [1,0])
  refine hS done q rest s hd h1 K' (fun s' dv h' af=>?_) hk h h2
  have h3:sat h' (pr (p (done++[q]) s')::itA ek ev r l it (done++[q]) rest::J (done++[q]) s'):=sat.bB.2 ⟨dv,af⟩
  exact bh s' h' (h3.re [1,0])
end
end Go.H
namespace Go.Proofs.YtidlldnlphdhcaaGreatDoor
open Go.H
open Go.Proofs.Tryz
open Go.H Go.Proofs
def A0w(f:Nat)(s:y9):Asn:=exA fun b:Nat=>star (cells f #[at0 b]) (A1A b s)
theorem A3a{h:Heap}{f:Nat}{s:y9}{R:List Asn}:sat h (A0w f s::R)↔∃b:Nat,sat h (cells f #[at0 b]::A1A b s::R):=by
 unfold A0w
 rw[sat.aZ]
 constructor
 ·rintro⟨b,hs⟩;exact⟨b,sat.aI.1 hs⟩
 ·rintro⟨b,hs⟩;exact⟨b,sat.aI.2 hs⟩
theorem C02{h:Heap}{R:List Asn}(hs:sat h R)(most:Int){Q:Value→Heap→Prop}
  (hq:∀b h',sat h' (A0w b ⟨max 1 (min most 64),0,[]⟩::R)→Q (at0 b) h'):V9 prog 113 #[.int .i64 most] h Q:=by
 refine B3z most h Q ?_
 delta B6l az cp nw pu vi
 simp only[U7,C64]
 refine C1K hs most fun b h1 aa=>?_
 simp only[C8c,U7]
 refine W5 aa fun f h2 ae=>?_
 exact hq f h2 (A3a.2 ⟨b,ae⟩)
section
open Go.H Go.Proofs
structure W7 where
 id:Int
 aD:B4p
 aO:Bool
 on:Bool
 out:b7
 bA:y9
def A3N(b:Nat)(s:W7):Asn:=exA fun x:Nat×Nat=>
 star (cells b #[.int .i64 s.id,.string s.aD,.bool s.aO,.bool s.on,at0 x.1,at0 x.2]) (star (v7 x.1 s.out) (A0w x.2 s.bA))
theorem A1Q{h:Heap}{b:Nat}{s:W7}{R:List Asn}:sat h (A3N b s::R)↔∃ob ib:Nat,
  sat h (cells b #[.int .i64 s.id,.string s.aD,.bool s.aO,.bool s.on,at0 ob,at0 ib]::v7 ob s.out::A0w ib s.bA::R):=by
 unfold A3N
 rw[sat.aZ]
 constructor
 ·rintro⟨⟨ob,ib⟩,hs⟩
  rw[sat.aI] at hs
  exact⟨ob,ib,(sat.aI.1 hs.p1).p2⟩
 ·rintro⟨ob,ib,hs⟩
  refine⟨(ob,ib),?_⟩
  rw[sat.aI]
  exact(sat.aI.2 (hs.re [1,2,0])).p1
def q9(p:Nat×W7):Int×D0p:=(p.2.id,some ⟨p.1,0,none⟩)
abbrev eKI:Int→Value:=fun n=>.int .i64 n
abbrev eVP:D0p→Value:=Kind.val (.one .ptr)
def A1P(b:Nat)(last:Int)(L:List (Nat×W7)):Asn:=exA fun m:Nat=>
 star (cells b #[.int .i64 last,.map (some m)]) (star (mapA eKI eVP m (L.map q9)) (b8 (fun p=>A3N p.1 p.2) L))
theorem s7{h:Heap}{b:Nat}{last:Int}{L:List (Nat×W7)}{R:List Asn}:sat h (A1P b last L::R)↔∃m:Nat,
  sat h (cells b #[.int .i64 last,.map (some m)]::mapA eKI eVP m (L.map q9)::b8 (fun p=>A3N p.1 p.2) L::R):=by
 unfold A1P
 rw[sat.aZ]
 constructor
 ·rintro⟨m,hs⟩
  rw[sat.aI] at hs
  exact⟨m,(sat.aI.1 hs.p1).p2⟩
 ·rintro⟨m,hs⟩
  refine⟨m,?_⟩
  rw[sat.aI]
  exact(sat.aI.2 (hs.re [1,2,0])).p1
theorem C0j{h:Heap}{R:List Asn}(hs:sat h R){Q:Value→Heap→Prop}(hq:∀b h',sat h' (A1P b 0 []::R)→Q (at0 b) h'):V9 prog 27 #[] h Q:=by
 refine B1D h Q ?_
 delta B3Z az bn nw pu vi
 refine A57 (ek:=eKI) (ev:=eVP) hs fun m h1 aa=>?_
 refine W5 aa fun b h2 ae=>?_
 exact hq b h2 (s7.2 ⟨m,(A2F.2 ae).b2⟩)
theorem B5q{h:Heap}{L:List (Nat×W7)}{R:List Asn}{p:Nat×W7}(hp:p∈L)(hs:sat h (b8 (fun p=>A3N p.1 p.2) L::R)):W8 h ⟨p.1,1,none⟩=some (.string p.2.aD):=by
 obtain⟨R',hs⟩:=A9v hp hs
 obtain⟨ob,ib,hs⟩:=A1Q.1 hs
 exact hs.cell 1
theorem C3E{h:Heap}{R:List Asn}{b:Nat}{last:Int}{L:List (Nat×W7)}{c:B4p}(hs:sat h (A1P b last L::R)){Q:Value→Heap→Prop}
  (ay:(∀p∈L,p.2.aD≠c)→∀h',sat h' (A1P b last L::R)→Q (.pointer none) h')
  (db:∀p∈L,p.2.aD=c→∀h',sat h' (A1P b last L::R)→Q (at0 p.1) h'):V9 prog 98 #[at0 b,.string c] h Q:=by
 refine A7H _ c h Q ?_
 obtain⟨m,hs⟩:=s7.1 hs
 have c1:W8 h ⟨b,1,none⟩=some (.map (some m)):=hs.cell 1
 delta A6V bn ie km kt nn pu
 simp[c1]
 refine A9C hs.p1 fun it h1 aa=>?_
 refine o7 (γ:=List (Int×D0p)×List (Int×D0p))
  (fun g _ h'=>(g.1++g.2).Perm (L.map q9)∧(∀p∈L,q9 p∈g.1→p.2.aD≠c)∧
   sat h' (itA eKI eVP m (L.map q9) it g.1 g.2::cells b #[.int .i64 last,.map (some m)]::b8 (fun p=>A3N p.1 p.2) L::R)) (fun g=>g.2.length) ([],L.map q9) ⟨J2 _,by simp,aa⟩ ?_
 rintro⟨done,todo⟩ ⟨⟩ h2 ⟨hp,hd,ae⟩
 simp only at hp hd ae
 simp
 refine B2f ae (fun h0=>?_) (fun q t1 t2 ht h3 ai=>?_)
 ·subst h0
  simp
  refine ay (fun p qp=>hd p qp ?_) h2 (s7.2 ⟨m,(A9M ae).p1⟩)
  rw[C1] at hp
  exact hp.mem_iff.2 (B4 qp)
 ·subst ht
  simp
  have vg:q∈L.map q9:=hp.mem_iff.1 (by simp)
  obtain⟨p,qp,rfl⟩:=E3.1 vg
  refine A9Q (kk:=.one .any) (kv:=.one .ptr) (ek:=eKI) (ev:=eVP) (p:=q9 p) (x:=Value.int .i64 p.2.id) (y:=some ⟨p.1,0,none⟩) rfl rfl ai ?_
  have cc:W8 h3 ⟨p.1,1,none⟩=some (.string p.2.aD):=B5q qp ai.p2
  simp[q9,cc]
  by_cases hc:p.2.aD=c
  ·simp[hc]
   exact db p qp hc h3 (s7.2 ⟨m,(A9M ai).p1⟩)
  ·simp[hc]
   refine .mk (done++[q9 p],t1++t2) (by simp) ⟨?_,fun a b dv hm=>?_,ai⟩
   ·refine List.Perm.trans ?_ hp
    simp only[D7]
    refine Q5 done ?_
    show(q9 p::(t1++t2)).Perm _
    exact P9.symm
   ·rcases C7.1 hm with hm|hm
    ·exact hd (a,b) dv hm
    ·have he:=B9.1 hm
     have:a=p.1:=by
      have:=congrArg Prod.snd he
      simpa[q9] using this
     have c2:=B5q dv ai.p2
     simp only at c2
     rw[this,cc] at c2
     have e2:p.2.aD=b.aD:=by simpa using c2
     exact fun e3=>hc (e2.trans e3)
def i7(c:B4p):Prop:=r9 c=none∧c≠ByteArray.mk #[]∧c.size≤64
theorem C3X{h:Heap}{R:List Asn}{b:Nat}{last:Int}{L:List (Nat×W7)}{k:Int}(hs:sat h (A1P b last L::R)){Q:Value→Heap→Prop}
  (ay:(∀p∈L,p.2.id≠k)→Q (.pointer none) h)(db:∀p∈L,p.2.id=k→Q (at0 p.1) h):V9 prog 99 #[at0 b,.int .i64 k] h Q:=by
 refine A7I _ k h Q ?_
 obtain⟨m,hs⟩:=s7.1 hs
 have c1:W8 h ⟨b,1,none⟩=some (.map (some m)):=hs.cell 1
 delta A6W bn ie km nn pu vi
 simp[c1]
 refine A0b kI (kind:=.one .ptr) (z:=none) rfl hs.p1 ?_
 cases hg:X0 (L.map q9) k with
 |none=>
  simp
  refine ay fun p hp e=>?_
  have:=(A1x _ _).1 hg
  exact this (by rw[F3];exact E3.2 ⟨p,hp,e⟩)
 |some v=>
  obtain⟨p,hp,e⟩:=E3.1 (A4k hg)
  have e1:p.2.id=k:=congrArg Prod.fst e
  have e2:some ⟨p.1,0,none⟩=v:=congrArg Prod.snd e
  subst e2
  simpa using db p hp e1
theorem C3m{h:Heap}{R:List Asn}{m:Nat}{l1 l2:List (Nat×W7)}{p:Nat×W7}(hs:sat h (mapA eKI eVP m ((l1++p::l2).map q9)::R)):p.2.id∉(l1.map q9).map (·.1):=by
 have hn:=hs.bK
 rw[B8,B5,B8,B5,G3] at hn
 intro hm
 exact hn.2.2 p.2.id hm p.2.id (B6 ..) rfl
theorem C65{h:Heap}{R:List Asn}{b:Nat}{last:Int}{L:List (Nat×W7)}{k:Int}(hs:sat h (A1P b last L::R)){Q:Value→Heap→Prop}
  (ay:(∀p∈L,p.2.id≠k)→Q (.bool false) h)(dL:∀p∈L,p.2.id=k→p.2.on=false→Q (.bool false) h)
  (eB:∀l1 p l2,L=l1++p::l2→p.2.id=k→p.2.on=true→p.2.aO=true→∀h',sat h' (A1P b last (l1++(p.1,{p.2 with on:=false,out:={p.2.out with on:=false}})::l2)::R)→Q (.bool false) h')
  (uk:∀l1 p l2,L=l1++p::l2→p.2.id=k→p.2.on=true→p.2.aO=false→∀h',sat h' (A1P b last (l1++l2)::R)→Q (.bool true) h'):
  V9 prog 95 #[at0 b,.int .i64 k] h Q:=by
 refine A6Z _ k h Q ?_
 delta A5Z bn cp cx ie kb km kp nn pu sx vi
 simp only[U7,C64]
 refine C3X hs (fun hn=>?_) (fun p hp he=>?_)
 ·simp
  exact ay hn
 ·obtain⟨l1,l2,rfl⟩:=H0 hp
  obtain⟨m,hs⟩:=s7.1 hs
  have aa:=k8.1 (hs.re [2,0,1])
  obtain⟨ob,ib,ae⟩:=A1Q.1 aa
  have c2:W8 h ⟨p.1,2,none⟩=some (.bool p.2.aO):=ae.cell 2
  have c3:W8 h ⟨p.1,3,none⟩=some (.bool p.2.on):=ae.cell 3
  by_cases aV:p.2.on=true
  ·rw[aV] at c3
   simp[V0,c3]
   refine X3 ae (by simp) rfl fun h1 ai=>?_
   have d4:W8 h1 ⟨p.1,4,none⟩=some (at0 ob):=by rw[ai.cell];rfl
   simp[d4]
   refine C0E ai.p1 fun h2 ak=>?_
   have e2:W8 h2 ⟨p.1,2,none⟩=some (.bool p.2.aO):=by rw[ak.p1.cell];rfl
   simp[e2]
   have fin:∀{h':Heap} {R':List Asn},sat h' (v7 ob {p.2.out with on:=false}::cells p.1 (#[.int .i64 p.2.id,.string p.2.aD,.bool p.2.aO,.bool p.2.on,at0 ob,at0 ib].setIfInBounds 3 (.bool false))::A0w ib p.2.bA::b8 (fun p=>A3N p.1 p.2) (l1++l2)::R')→
     sat h' (b8 (fun p=>A3N p.1 p.2) (l1++(p.1,{p.2 with on:=false,out:={p.2.out with on:=false}})::l2)::R'):=fun af=>by
    refine k8.2 (A1Q.2 ⟨ob,ib,?_⟩)
    exact af.re [1,0,2]
   by_cases hk:p.2.aO=true
   ·simp[hk,e2]
    refine eB l1 p l2 rfl he aV hk h2 (s7.2 ⟨m,?_⟩)
    have e:(l1++(p.1,{p.2 with on:=false,out:={p.2.out with on:=false}})::l2).map q9=(l1++p::l2).map q9:=by simp[q9]
    rw[e]
    exact(fin ak).re [1,2,0]
   ·have ij:p.2.aO=false:=by simpa using hk
    have aj:=ak.re [4,5,0,1,2,3]
    have f1:W8 h2 ⟨b,1,none⟩=some (.map (some m)):=by rw[aj.cell];rfl
    simp[ij,f1]
    refine A6l kI (ev:=eVP) aj.p1 fun h3 aw=>?_
    have g2:W8 h3 ⟨p.1,2,none⟩=some (.bool p.2.aO):=by rw[(aw.re [3,0,1,2]).cell];rfl
    rw[ij] at g2
    simp[g2]
    refine uk l1 p l2 rfl he aV ij h3 (s7.2 ⟨m,?_⟩)
    have ga:=C3m hs.p1
    have iO:mdel ((l1++p::l2).map q9) k=(l1++l2).map q9:=by
     rw[B8,B5,show q9 p=(k,(q9 p).2) from by rw[←he];rfl,B2i (by rw[←he];exact ga),B8]
    rw[iO] at aw
    have aC:=aw.re [1,0,5,2,3,4]
    exact(aC.re [3,4,5,0,1,2]).drop.drop.drop
  ·have cO:p.2.on=false:=by simpa using aV
   rw[cO] at c3
   simp[V0,c3]
   exact dL p hp he cO
def A2E(id:Int)(c:B4p)(aO:Bool):W7:=⟨id,c,aO,true,⟨⟨64,0,[]⟩,64,false,[],[]⟩,⟨64,0,[]⟩⟩
theorem C3l{h h0:Heap}{R:List Asn}{b:Nat}{last:Int}{L:List (Nat×W7)}(hs:sat h (A1P b last L::old h0::R))(ht:U8 h0){c:B4p}(hsz:c.size≤9223372036854775807){clean aO:Bool}
  (tR:0≤last)(fe:last<4611686018427387904)(hid:∀p∈L,p.2.id≤last){Q:Value→Heap→Prop}
  (al:¬i7 c→∀h',sat h' (A1P b last L::old h0::R)→Q (.tuple #[.int .i64 0,.bool false,.int .u8 133]) h')
  (ax:i7 c→(∀p∈L,p.2.aD≠c)→32≤L.length→∀h',sat h' (A1P b last L::old h0::R)→Q (.tuple #[.int .i64 0,.bool false,.int .u8 151]) h')
  (aV:i7 c→clean=false→∀l1 p l2,L=l1++p::l2→p.2.aD=c→∀h',sat h' (A1P b last (l1++(p.1,{p.2 with on:=true,aO:=aO})::l2)::old h0::R)→Q (.tuple #[.int .i64 p.2.id,.bool true,.int .u8 0]) h')
  (gU:i7 c→∀L0,((∀p∈L,p.2.aD≠c)∧L.length<32∧L0=L)∨(clean=true∧∃l1 p l2,L=l1++p::l2∧p.2.aD=c∧L0=l1++l2)→
   ∀nb h',sat h' (A1P b (last+1) (L0++[(nb,A2E (last+1) c aO)])::old h0::R)→Q (.tuple #[.int .i64 (last+1),.bool false,.int .u8 0]) h'):
  V9 prog 69 #[at0 b,.string c,.bool clean,.bool aO] h Q:=by
 refine A5L _ c clean aO h Q ?_
 delta A4H az bn cp es ie ki km nn nw pu rq sx vi wi
 refine u6 (B7n hs.p1 ht c hsz fun h1 bx=>⟨(match r9 c with|some n=>((n:Int),true,())|none=>(0,false,())),by cases r9 c<;>rfl,?_⟩)
 have aa:=bx.p1
 clear bx hs
 have hx:(match r9 c with|some n=>((n:Int),true,())|none=>(0,false,()):Int×Bool×Unit).2.1=(r9 c).isSome:=by cases r9 c<;>rfl
 simp only[hx,V4,Option.isNone_some,H7,if_false]
 clear hx
 refine W0 (fun x h'=>h'=h1∧(x.1=true↔¬i7 c)) ?_ ?_
 ·unfold i7
  cases hf:r9 c with
  |some n=>simp
  |none=>
   by_cases g1:c=ByteArray.mk #[]
   ·simp[g1]
   ·by_cases g2:64<((c.size:Nat):Int)
    ·simp[g1,g2];omega
    ·simp[g1,g2];omega
 rintro⟨x,⟨⟩⟩ h2 ⟨rfl,hb⟩
 simp only at hb⊢
 by_cases hg:i7 c
 case neg=>
  rw[V4,if_pos (hb.2 hg)]
  exact al hg h2 aa
 rw[V4,if_neg (fun hh=>(hb.1 hh) hg)]
 clear hb al
 refine W0 (fun x h'=>(x=none∧(∀p∈L,p.2.aD≠c)∧sat h' (A1P b last L::old h0::R))∨(∃p,p∈L∧x=some ⟨p.1,0,none⟩∧p.2.aD=c∧sat h' (A1P b last L::old h0::R))) ?_ ?_
 ·exact C3E aa (fun hn h' af=>⟨none,rfl,.inl ⟨rfl,hn,af⟩⟩) (fun p hp hc h' af=>⟨some ⟨p.1,0,none⟩,rfl,.inr ⟨p,hp,rfl,hc,af⟩⟩)
 intro x h3 hx
 refine W0 (fun y h'=>h'=h3∧y.1=(x.isSome&& !clean)) ?_ ?_
 ·cases x<;>simp
 rintro⟨y,⟨⟩⟩ h4 ⟨rfl,hy⟩
 simp only at hy⊢
 by_cases cO:y=true
 ·
  rw[V4,if_pos cO]
  rw[cO] at hy
  obtain⟨fU,bg⟩:x.isSome=true∧clean=false:=by
   cases x<;>cases clean<;>simp at hy⊢
  rcases hx with⟨rfl,-,-⟩|⟨p,hp,rfl,hc,ak⟩
  ·cases fU
  obtain⟨l1,l2,rfl⟩:=H0 hp
  obtain⟨m,aj⟩:=s7.1 ak
  have aw:=k8.1 (aj.re [2,0,1])
  obtain⟨ob,ib,aC⟩:=A1Q.1 aw
  simp[V0]
  refine X3 aC (by simp) rfl fun h5 bq=>?_
  refine X3 bq (by simp) rfl fun h6 eA=>?_
  have c0:W8 h6 ⟨p.1,0,none⟩=some (.int .i64 p.2.id):=by rw[eA.cell];rfl
  simp[c0]
  refine aV hg bg l1 p l2 rfl hc h6 (s7.2 ⟨m,?_⟩)
  have e:(l1++(p.1,{p.2 with on:=true,aO:=aO})::l2).map q9=(l1++p::l2).map q9:=by simp[q9]
  rw[e]
  have gg:sat h6 (b8 (fun p=>A3N p.1 p.2) (l1++(p.1,{p.2 with on:=true,aO:=aO})::l2)::cells b #[.int .i64 last,.map (some m)]::mapA eKI eVP m ((l1++p::l2).map q9)::old h0::R):=
   k8.2 (A1Q.2 ⟨ob,ib,eA⟩)
  exact gg.re [1,2,0]
 rw[V4,if_neg cO]
 obtain⟨P,yb,vX,ya⟩:∃P:Unit⊕(Int×Bool×Int×Unit)→Heap→Prop,
   (∀h',(∀p∈L,p.2.aD≠c)→32≤L.length→sat h' (A1P b last L::old h0::R)→P (Sum.inr (0,false,151,())) h')∧
   (∀L0 h',(((∀p∈L,p.2.aD≠c)∧L.length<32∧L0=L)∨(clean=true∧∃l1 p l2,L=l1++p::l2∧p.2.aD=c∧L0=l1++l2))→(∀p∈L0,p.2.id≤last)→sat h' (A1P b last L0::old h0::R)→P (Sum.inl ()) h')∧
   (∀z h',P z h'→(z=Sum.inr (0,false,151,())∧(∀p∈L,p.2.aD≠c)∧32≤L.length∧sat h' (A1P b last L::old h0::R))∨
    (z=Sum.inl ()∧∃L0,(((∀p∈L,p.2.aD≠c)∧L.length<32∧L0=L)∨(clean=true∧∃l1 p l2,L=l1++p::l2∧p.2.aD=c∧L0=l1++l2))∧(∀p∈L0,p.2.id≤last)∧sat h' (A1P b last L0::old h0::R))):=
  ⟨fun z h'=>(z=Sum.inr (0,false,151,())∧(∀p∈L,p.2.aD≠c)∧32≤L.length∧sat h' (A1P b last L::old h0::R))∨
    (z=Sum.inl ()∧∃L0,(((∀p∈L,p.2.aD≠c)∧L.length<32∧L0=L)∨(clean=true∧∃l1 p l2,L=l1++p::l2∧p.2.aD=c∧L0=l1++l2))∧(∀p∈L0,p.2.id≤last)∧sat h' (A1P b last L0::old h0::R)),
   fun h' a1 a2 a3=>.inl ⟨rfl,a1,a2,a3⟩,fun L0 h' a1 a2 a3=>.inr ⟨rfl,L0,a1,a2,a3⟩,fun z h' hz=>hz⟩
 refine W0 P ?_ ?_
 ·rcases hx with⟨rfl,iy,ak⟩|⟨p,hp,rfl,hc,ak⟩
  ·obtain⟨m,aj⟩:=s7.1 ak
   have c1:W8 h4 ⟨b,1,none⟩=some (.map (some m)):=aj.cell 1
   simp[c1]
   refine A9I aj.p1 ?_
   by_cases hlen:32≤L.length
   ·have:(32:Int)≤(((L.map q9).length:Nat):Int):=by simp;omega
    rw[if_pos this]
    exact yb h4 iy hlen ak
   ·have:¬(32:Int)≤(((L.map q9).length:Nat):Int):=by simp;omega
    rw[if_neg this]
    exact vX L h4 (.inl ⟨iy,by omega,rfl⟩) hid ak
  ·have bg:clean=true:=by
    cases clean with
    |true=>rfl
    |false=>simp at hy;exact absurd hy cO
   obtain⟨l1,l2,rfl⟩:=H0 hp
   obtain⟨m,aj⟩:=s7.1 ak
   have c1:W8 h4 ⟨b,1,none⟩=some (.map (some m)):=aj.cell 1
   have aw:=k8.1 (aj.re [2,0,1])
   obtain⟨ob,ib,aC⟩:=A1Q.1 aw
   have c0:W8 h4 ⟨p.1,0,none⟩=some (.int .i64 p.2.id):=aC.cell 0
   have ga:=C3m aj.p1
   have iO:mdel ((l1++p::l2).map q9) p.2.id=(l1++l2).map q9:=by
    rw[B8,B5,show q9 p=(p.2.id,(q9 p).2) from rfl,B2i ga,B8]
   simp[c1,V0,c0]
   refine A6l kI (ev:=eVP) (aw.re [3,0,1,2]) fun h5 bq=>?_
   rw[iO] at bq
   refine vX (l1++l2) h5 (.inr ⟨bg,l1,p,l2,rfl,hc,rfl⟩) (fun p' dv=>hid p' ?_) (s7.2 ⟨m,?_⟩)
   ·rcases C7.1 dv with h|h
    ·exact M0 _ h
    ·exact G8 _ (C2 _ h)
   ·exact(bq.re [1,3,0,2]).drop
 intro z h5 hz
 rcases ya z h5 hz with⟨rfl,iy,hlen,aj⟩|⟨rfl,L0,yf,tY,aj⟩
 ·exact ax hg iy hlen h5 aj
 simp only[D5]
 obtain⟨m,aw⟩:=s7.1 aj
 have w1:IntKind.wrap .i64 (last+1)=last+1:=W6 (by omega) (by omega)
 have c0:W8 h5 ⟨b,0,none⟩=some (.int .i64 last):=aw.cell 0
 simp[c0,w1]
 refine X3 aw (by simp) rfl fun h6 aC=>?_
 have gu:sat h6 (cells b #[.int .i64 (last+1),.map (some m)]::mapA eKI eVP m (L0.map q9)::b8 (fun p=>A3N p.1 p.2) L0::old h0::R):=aC
 clear aC
 have d0:W8 h6 ⟨b,0,none⟩=some (.int .i64 (last+1)):=gu.cell 0
 have d1:W8 h6 ⟨b,1,none⟩=some (.map (some m)):=gu.cell 1
 simp[d0,d1]
 refine C0D gu 64 fun ob h7 bq=>?_
 have e0:W8 h7 ⟨b,0,none⟩=some (.int .i64 (last+1)):=bq.p1.cell 0
 have e1:W8 h7 ⟨b,1,none⟩=some (.map (some m)):=bq.p1.cell 1
 simp[e0,e1]
 refine C02 bq 64 fun ib h8 eA=>?_
 have f0:W8 h8 ⟨b,0,none⟩=some (.int .i64 (last+1)):=eA.p2.cell 0
 have f1:W8 h8 ⟨b,1,none⟩=some (.map (some m)):=eA.p2.cell 1
 simp[f0,f1]
 refine W5 eA fun nb h9 gv=>?_
 have g0:W8 h9 ⟨b,0,none⟩=some (.int .i64 (last+1)):=gv.p3.cell 0
 have g1:W8 h9 ⟨b,1,none⟩=some (.map (some m)):=gv.p3.cell 1
 simp[g0,g1]
 refine A33 kI (A9O .i64) (ev:=eVP) (x:=some ⟨nb,0,none⟩) (gv.re [4,0,1,2,3]) fun gm fa=>?_
 have xt:X0 (L0.map q9) (last+1)=none:=by
  rw[A1x]
  intro hm
  rw[F3] at hm
  obtain⟨p,hp,he⟩:=E3.1 hm
  have:=tY p hp
  have jA:p.2.id=last+1:=he
  omega
 rw[A2Y _ _ _ xt] at fa
 have k0:W8 gm ⟨b,0,none⟩=some (.int .i64 (last+1)):=by rw[(fa.re [4,0,1,2,3]).cell];rfl
 simp[k0]
 refine gU hg L0 yf nb gm (s7.2 ⟨m,?_⟩)
 have tm:sat gm (A3N nb (A2E (last+1) c aO)::b8 (fun p=>A3N p.1 p.2) L0::cells b #[.int .i64 (last+1),.map (some m)]::mapA eKI eVP m (L0.map q9++[(last+1,some ⟨nb,0,none⟩)])::old h0::R):=
  A1Q.2 ⟨ob,ib,fa.re [1,3,2,5,4,0]⟩
 have jk:sat gm (b8 (fun p=>A3N p.1 p.2) (L0++[(nb,A2E (last+1) c aO)])::cells b #[.int .i64 (last+1),.map (some m)]::mapA eKI eVP m (L0.map q9++[(last+1,some ⟨nb,0,none⟩)])::old h0::R):=by
  refine k8.2 ?_
  rw[C1]
  exact tm
 have e:(L0++[(nb,A2E (last+1) c aO)]).map q9=L0.map q9++[(last+1,some ⟨nb,0,none⟩)]:=by simp[q9,A2E]
 rw[e]
 exact jk.re [1,2,0]
variable {h:Heap} {R:List Asn}
abbrev B86(s:W7)(ob ib:Nat):D0q:=#[.int .i64 s.id,.string s.aD,.bool s.aO,.bool s.on,at0 ob,at0 ib]
theorem C0c{b:Nat}{last:Int}{l1 l2:List (Nat×W7)}{p:Nat×W7}(hs:sat h (A1P b last (l1++p::l2)::R)):∃m ob ib,
  sat h (v7 ob p.2.out::A0w ib p.2.bA::cells p.1 (B86 p.2 ob ib)::cells b #[.int .i64 last,.map (some m)]::mapA eKI eVP m ((l1++p::l2).map q9)::b8 (fun p=>A3N p.1 p.2) (l1++l2)::R):=by
 obtain⟨m,hs⟩:=s7.1 hs
 have aa:=k8.1 (hs.re [2,0,1])
 obtain⟨ob,ib,ae⟩:=A1Q.1 aa
 exact⟨m,ob,ib,(ae.re [1,2,0,4,5,3])⟩
theorem C0b{b:Nat}{last:Int}{l1 l2:List (Nat×W7)}{p:Nat×W7}{o:b7}{m ob ib:Nat}
  (hs:sat h (v7 ob o::A0w ib p.2.bA::cells p.1 (B86 p.2 ob ib)::cells b #[.int .i64 last,.map (some m)]::mapA eKI eVP m ((l1++p::l2).map q9)::b8 (fun p=>A3N p.1 p.2) (l1++l2)::R)):
  sat h (A1P b last (l1++(p.1,{p.2 with out:=o})::l2)::R):=by
 refine s7.2 ⟨m,?_⟩
 have e:(l1++(p.1,{p.2 with out:=o})::l2).map q9=(l1++p::l2).map q9:=by simp[q9]
 rw[e]
 have h1:sat h (A3N p.1 {p.2 with out:=o}::b8 (fun p=>A3N p.1 p.2) (l1++l2)::cells b #[.int .i64 last,.map (some m)]::mapA eKI eVP m ((l1++p::l2).map q9)::R):=
  A1Q.2 ⟨ob,ib,hs.re [2,0,1,5,3,4]⟩
 have h2:sat h (b8 (fun p=>A3N p.1 p.2) (l1++(p.1,{p.2 with out:=o})::l2)::cells b #[.int .i64 last,.map (some m)]::mapA eKI eVP m ((l1++p::l2).map q9)::R):=k8.2 h1
 exact h2.re [1,2,0]
theorem C3Y{b:Nat}{last:Int}{l1 l2:List (Nat×W7)}{p:Nat×W7}{k:Int}{m ob ib:Nat}{o:b7}(hk:p.2.id=k)
  (hs:sat h (v7 ob o::A0w ib p.2.bA::cells p.1 (B86 p.2 ob ib)::cells b #[.int .i64 last,.map (some m)]::mapA eKI eVP m ((l1++p::l2).map q9)::b8 (fun p=>A3N p.1 p.2) (l1++l2)::R))
  {Q:Value→Heap→Prop}(hq:Q (at0 p.1) h):V9 prog 99 #[at0 b,.int .i64 k] h Q:=by
 have au:=(hs.re [4,0,1,2,3]).bK
 rw[F3] at au
 refine C3X (C0b hs) (fun ay=>?_) (fun q ed vh=>?_)
 ·exact absurd hk (ay (p.1,{p.2 with out:=o}) (G8 _ (B6 ..)))
 ·have:q.1=p.1:=by
   rw[B8,B5,G3] at au
   rcases C7.1 ed with hm|hm
   ·exact absurd (vh.trans hk.symm) (au.2.2 _ (B4 hm) _ (B6 ..))
   ·rcases D3.1 hm with rfl|hm
    ·rfl
    ·have h3:=(G0.1 au.2.1).1
     have h4:(((·.1)∘q9) q:Int)=((·.1)∘q9) p:=vh.trans hk.symm
     rw[←h4] at h3
     exact absurd (B4 hm) h3
  rw[this]
  exact hq
theorem C61{b:Nat}{last:Int}{l1 l2:List (Nat×W7)}{p:Nat×W7}{k:Int}{m ob ib:Nat}{o:b7}(hk:p.2.id=k)
  (hs:sat h (v7 ob o::A0w ib p.2.bA::cells p.1 (B86 p.2 ob ib)::cells b #[.int .i64 last,.map (some m)]::mapA eKI eVP m ((l1++p::l2).map q9)::b8 (fun p=>A3N p.1 p.2) (l1++l2)::R))
  {Q:Value→Heap→Prop}(hq:Q (at0 ob) h):V9 prog 56 #[at0 b,.int .i64 k] h Q:=by
 refine A6X _ k h Q ?_
 delta A5Y cp ie kp nn pu vi
 refine V3 (C3Y hk hs ⟨some ⟨p.1,0,none⟩,rfl,?_⟩)
 have c4:W8 h ⟨p.1,4,none⟩=some (at0 ob):=(hs.re [2,0,1]).cell 4
 (try dsimp only);rw[V4,if_pos (by rfl)]
 exact⟨_,rfl,some ⟨ob,0,none⟩,by rw[V0];exact c4,hq⟩
theorem C7T{b:Nat}{last:Int}{l1 l2:List (Nat×W7)}{p:Nat×W7}{k:Int}{m ob ib:Nat}{o:b7}(hk:p.2.id=k)
  (hs:sat h (v7 ob o::A0w ib p.2.bA::cells p.1 (B86 p.2 ob ib)::cells b #[.int .i64 last,.map (some m)]::mapA eKI eVP m ((l1++p::l2).map q9)::b8 (fun p=>A3N p.1 p.2) (l1++l2)::R))
  {Q:Value→Heap→Prop}(hq:Q (at0 ib) h):V9 prog 106 #[at0 b,.int .i64 k] h Q:=by
 refine A7J _ k h Q ?_
 delta A6Y cp ie kp nn pu vi
 refine V3 (C3Y hk hs ⟨some ⟨p.1,0,none⟩,rfl,?_⟩)
 have c5:W8 h ⟨p.1,5,none⟩=some (at0 ib):=(hs.re [2,0,1]).cell 5
 (try dsimp only);rw[V4,if_pos (by rfl)]
 exact⟨_,rfl,some ⟨ib,0,none⟩,by rw[V0];exact c5,hq⟩
end
end Go.Proofs.YtidlldnlphdhcaaGreatDoor
namespace Go.H
open Go.MapKept (Stamped)
section
variable {K:Type} [DecidableEq K]
theorem B8n{V:Type}:∀{l:List (K×V)} {k:K} {v:V},X0 l k=some v→mset l k v=l
 |[],k,v,h=>by simp at h
 |(a,b)::l,k,v,h=>by
  rw[Z4] at h
  by_cases e:a=k
  ·rw[if_pos e] at h
   cases h
   simp[mset,e]
  ·rw[if_neg e] at h
   simp only[mset,if_neg e,B8n h]
end
section
variable {K V:Type} {h:Heap} {R:List Asn} {ek:K→Value}
variable [DecidableEq K]
end
abbrev e2(k:Int×Int):Value:=.agg #[.int .i64 k.1,.int .i64 k.2]
end Go.H
namespace Go.Proofs.YtidlldnlphdhcaaGreatDoor
open Go.H
open Go.Proofs.Tryz
open Go.H Go.Proofs
abbrev Path:=List B4p
structure Nd where
 b:Nat
 qm:Nat
 nm:Nat
 q:List (Int×Int)
 nx:List (B4p×D0p)
abbrev Nds:=List (Path×Nd)
abbrev o5(n:Nd):D0p:=some ⟨n.b,0,none⟩
structure A0t(rb:Nat)(N:Nds):Prop where
 keys:(N.map (·.1)).Nodup
 root:∃nd,X0 N []=some nd∧nd.b=rb
 down:∀p nd x v,X0 N p=some nd→X0 nd.nx x=some v→∃nd',X0 N (p++[x])=some nd'∧v=o5 nd'
 up:∀p x nd',X0 N (p++[x])=some nd'→∃nd,X0 N p=some nd∧X0 nd.nx x=some (o5 nd')
 short:∀p nd,X0 N p=some nd→p.length≤32
section
variable {K V:Type} [DecidableEq K]
theorem A2Z:∀{l:List (K×V)} {k:K} {v:V},(l.map (·.1)).Nodup→(k,v)∈l→X0 l k=some v
 |[],k,v,_,h=>by simp at h
 |(a,b)::l,k,v,hn,h=>by
  rw[Z4]
  rw[B5,G0] at hn
  rcases D3.1 h with e|h
  ·cases e
   rw[if_pos rfl]
  ·have:a≠k:=fun e=>hn.1 (by rw[e];exact E3.2 ⟨_,h,rfl⟩)
   rw[if_neg this]
   exact A2Z hn.2 h
theorem C0O:∀{l1 l2:List (K×V)} {k:K} {v v':V},k∉l1.map (·.1)→mset (l1++(k,v)::l2) k v'=l1++(k,v')::l2
 |[],l2,k,v,v',_=>by simp[mset]
 |(a,b)::l1,l2,k,v,v',h=>by
  simp only[B5,D3,not_or] at h
  simp only[G7,mset,if_neg (fun e:a=k=>h.1 e.symm),C0O h.2]
theorem A44:∀{l:List (K×V)} {k:K} {v v':V},X0 l k=some v→(mset l k v').map (·.1)=l.map (·.1)
 |[],k,v,v',h=>by simp at h
 |(a,b)::l,k,v,v',h=>by
  rw[Z4] at h
  simp only[mset]
  by_cases e:a=k
  ·rw[if_pos e];simp[e]
  ·rw[if_neg e] at h
   rw[if_neg e,B5,A44 h,B5]
theorem A27{l:List (K×V)}(hn:(l.map (·.1)).Nodup)(k k':K):X0 (mdel l k) k'=if k=k' then none else X0 l k':=by
 induction l with
 |nil=>simp[mdel]
 |cons p l ih=>
  obtain⟨a,b⟩:=p
  rw[B5,G0] at hn
  simp only[mdel]
  by_cases e:a=k
  ·rw[if_pos e]
   subst e
   by_cases e':a=k'
   ·subst e'
    rw[if_pos rfl]
    exact(A1x _ _).2 hn.1
   ·rw[if_neg e',Z4,if_neg e']
  ·rw[if_neg e,Z4,Z4,ih hn.2]
   by_cases e':k=k'
   ·subst e'
    rw[if_neg e,if_pos rfl,if_pos rfl]
   ·rw[if_neg e',if_neg e']
theorem C4J:∀{l:List (K×V)} {k:K},(l.map (·.1)).Nodup→((mdel l k).map (·.1)).Nodup:=by
 intro l k hn
 have:((mdel l k).map (·.1)).Sublist (l.map (·.1)):=by
  clear hn
  induction l with
  |nil=>simp[mdel]
  |cons p l ih=>
   obtain⟨a,b⟩:=p
   simp only[mdel]
   by_cases e:a=k
   ·rw[if_pos e];exact List.sublist_cons_self ..
   ·rw[if_neg e];exact ih.cons_cons _
 exact this.nodup hn
theorem B07{l:List (K×V)}{k:K}{v:V}(h:X0 l k=some v):∃l1 l2,l=l1++(k,v)::l2∧k∉l1.map (·.1):=by
 induction l with
 |nil=>simp at h
 |cons p l ih=>
  obtain⟨a,b⟩:=p
  rw[Z4] at h
  by_cases e:a=k
  ·rw[if_pos e] at h
   cases h
   subst e
   exact⟨[],l,rfl,by simp⟩
  ·rw[if_neg e] at h
   obtain⟨l1,l2,rfl,h2⟩:=ih h
   exact⟨(a,b)::l1,l2,rfl,by simp only[B5,D3,not_or];exact⟨fun x=>e x.symm,h2⟩⟩
theorem A58(l1 l2:List (K×V))(k:K):X0 (l1++l2) k=(X0 l1 k).or (X0 l2 k):=by
 induction l1 with
 |nil=>simp
 |cons p l ih=>
  obtain⟨a,b⟩:=p
  rw[G7,Z4,Z4,ih]
  by_cases e:a=k
  ·rw[if_pos e,if_pos e];rfl
  ·rw[if_neg e,if_neg e]
end
def ent(N:Nds)(p:Path)(id:Int):Option Int:=(X0 N p).bind fun nd=>X0 nd.q id
theorem A8m(p:Path)(x:B4p):p++[x]≠p:=fun h=>by
 have:=congrArg List.length h
 simp at this
theorem B2P{p p':Path}{x x':B4p}(h:p++[x]=p'++[x']):p=p'∧x=x':=by
 have:=List.append_inj' h rfl
 exact⟨this.1,by simpa using this.2⟩
namespace A0t
open Go.H
variable {rb:Nat} {N:Nds}
theorem pre(h:A0t rb N):∀(r p:Path) nd,X0 N (p++r)=some nd→∃nd',X0 N p=some nd'
 |[],p,nd,hn=>by rw[C1] at hn;exact⟨nd,hn⟩
 |x::r,p,nd,hn=>by
  have e:p++x::r=(p++[x])++r:=by simp
  rw[e] at hn
  obtain⟨nd',h1⟩:=pre h r _ nd hn
  obtain⟨nd'',h2,_⟩:=h.up _ _ _ h1
  exact⟨nd'',h2⟩
theorem setq(h:A0t rb N){p:Path}{nd:Nd}(hp:X0 N p=some nd)(q':List (Int×Int)):A0t rb (mset N p {nd with q:=q'}) where
 keys:=by rw[A44 hp];exact h.keys
 root:=by
  obtain⟨r,h1,h2⟩:=h.root
  rw[j7]
  by_cases e:p=[]
  ·rw[if_pos e]
   subst e
   rw[hp] at h1
   cases h1
   exact⟨_,rfl,h2⟩
  ·rw[if_neg e];exact⟨r,h1,h2⟩
 down:=by
  intro p1 n1 x v h1 h2
  have key:∃n0,X0 N p1=some n0∧X0 n0.nx x=some v:=by
   rw[j7] at h1
   by_cases e:p=p1
   ·rw[if_pos e] at h1
    cases h1
    subst e
    exact⟨nd,hp,h2⟩
   ·rw[if_neg e] at h1;exact⟨n1,h1,h2⟩
  obtain⟨n0,h3,h4⟩:=key
  obtain⟨c,h5,h6⟩:=h.down _ _ _ _ h3 h4
  rw[j7]
  by_cases e:p=p1++[x]
  ·rw[if_pos e]
   rw[←e,hp] at h5
   cases h5
   exact⟨_,rfl,h6⟩
  ·rw[if_neg e];exact⟨c,h5,h6⟩
 up:=by
  intro p1 x c h1
  have key:∃c0,X0 N (p1++[x])=some c0∧o5 c=o5 c0:=by
   rw[j7] at h1
   by_cases e:p=p1++[x]
   ·rw[if_pos e] at h1
    cases h1
    rw[←e]
    exact⟨nd,hp,rfl⟩
   ·rw[if_neg e] at h1;exact⟨c,h1,rfl⟩
  obtain⟨c0,h2,h3⟩:=key
  obtain⟨n0,h4,h5⟩:=h.up _ _ _ h2
  rw[j7]
  by_cases e:p=p1
  ·rw[if_pos e]
   subst e
   rw[hp] at h4
   cases h4
   exact⟨_,rfl,by rw[h3];exact h5⟩
  ·rw[if_neg e];exact⟨n0,h4,by rw[h3];exact h5⟩
 short:=by
  intro p1 n1 h1
  rw[j7] at h1
  by_cases e:p=p1
  ·rw[←e];exact h.short _ _ hp
  ·rw[if_neg e] at h1;exact h.short _ _ h1
theorem grow(h:A0t rb N){p:Path}{nd c:Nd}{x:B4p}(hp:X0 N p=some nd)(hx:X0 nd.nx x=none)(hc:c.nx=[])(oQ:p.length<32):
  X0 N (p++[x])=none∧A0t rb (mset N p {nd with nx:=mset nd.nx x (o5 c)}++[(p++[x],c)]):=by
 have ay:X0 N (p++[x])=none:=by
  cases e:X0 N (p++[x]) with
  |none=>rfl
  |some c'=>
   obtain⟨n0,h1,h2⟩:=h.up _ _ _ e
   rw[hp] at h1
   cases h1
   rw[hx] at h2
   cases h2
 have bu:∀p',X0 (mset N p {nd with nx:=mset nd.nx x (o5 c)}++[(p++[x],c)]) p'=if p=p' then some {nd with nx:=mset nd.nx x (o5 c)} else if p++[x]=p' then some c else X0 N p':=by
  intro p'
  rw[A58,j7]
  by_cases e:p=p'
  ·rw[if_pos e,if_pos e];rfl
  ·rw[if_neg e,if_neg e,Z4]
   by_cases e':p++[x]=p'
   ·rw[if_pos e',if_pos e',←e',ay];rfl
   ·rw[if_neg e',if_neg e',B54]
    cases X0 N p'<;>rfl
 refine⟨ay,?_,?_,?_,?_,?_⟩
 ·rw[B8,A44 hp,G3]
  refine⟨h.keys,by simp,fun a ha b hb=>?_⟩
  simp only[B5,I3,B9] at hb
  subst hb
  intro e
  subst e
  exact(A1x _ _).1 ay ha
 ·obtain⟨r,h1,h2⟩:=h.root
  rw[bu]
  by_cases e:p=[]
  ·rw[if_pos e]
   subst e
   rw[hp] at h1
   cases h1
   exact⟨_,rfl,h2⟩
  ·rw[if_neg e,if_neg (by simp)];exact⟨r,h1,h2⟩
 ·intro p1 n1 y v h1 h2
  rw[bu] at h1
  by_cases e:p=p1
  ·rw[if_pos e] at h1
   cases h1
   subst e
   simp only[j7] at h2
   by_cases e':x=y
   ·rw[if_pos e'] at h2
    cases h2
    subst e'
    rw[bu,if_neg (fun e=>A8m p x e.symm),if_pos rfl]
    exact⟨c,rfl,rfl⟩
   ·rw[if_neg e'] at h2
    obtain⟨c',h3,h4⟩:=h.down _ _ _ _ hp h2
    rw[bu,if_neg (fun e=>A8m p y e.symm),if_neg (fun e=>e' (B2P e).2)]
    exact⟨c',h3,h4⟩
  ·rw[if_neg e] at h1
   by_cases e2:p++[x]=p1
   ·rw[if_pos e2] at h1
    cases h1
    rw[hc] at h2
    simp at h2
   ·rw[if_neg e2] at h1
    obtain⟨c',h3,h4⟩:=h.down _ _ _ _ h1 h2
    rw[bu]
    by_cases e3:p=p1++[y]
    ·rw[if_pos e3]
     rw[←e3,hp] at h3
     cases h3
     exact⟨_,rfl,h4⟩
    ·rw[if_neg e3]
     by_cases e4:p++[x]=p1++[y]
     ·exact absurd (B2P e4).1 e
     ·rw[if_neg e4];exact⟨c',h3,h4⟩
 ·intro p1 y c1 h1
  rw[bu] at h1
  by_cases e:p=p1++[y]
  ·rw[if_pos e] at h1
   cases h1
   obtain⟨n0,h3,h4⟩:=h.up p1 y nd (by rw[←e];exact hp)
   rw[bu,if_neg (fun e'=>by rw[e'] at e;exact A8m _ _ e.symm)]
   by_cases e5:p++[x]=p1
   ·rw[←e5,ay] at h3
    cases h3
   ·rw[if_neg e5];exact⟨n0,h3,h4⟩
  ·rw[if_neg e] at h1
   by_cases e2:p++[x]=p1++[y]
   ·rw[if_pos e2] at h1
    cases h1
    obtain⟨rfl,rfl⟩:=B2P e2
    rw[bu,if_pos rfl]
    exact⟨_,rfl,by simp[j7]⟩
   ·rw[if_neg e2] at h1
    obtain⟨n0,h3,h4⟩:=h.up _ _ _ h1
    rw[bu]
    by_cases e5:p=p1
    ·rw[if_pos e5]
     subst e5
     rw[hp] at h3
     cases h3
     refine⟨_,rfl,?_⟩
     simp only[j7]
     rw[if_neg (fun e6=>e2 (by rw[e6]))]
     exact h4
    ·rw[if_neg e5]
     by_cases e6:p++[x]=p1
     ·rw[←e6,ay] at h3
      cases h3
     ·rw[if_neg e6];exact⟨n0,h3,h4⟩
 ·intro p1 n1 h1
  rw[bu] at h1
  by_cases e:p=p1
  ·rw[←e];exact h.short _ _ hp
  ·rw[if_neg e] at h1
   by_cases e2:p++[x]=p1
   ·rw[←e2,B3];simp;omega
   ·rw[if_neg e2] at h1;exact h.short _ _ h1
theorem cut(h:A0t rb N){p:Path}{nd c:Nd}{x:B4p}(hp:X0 N p=some nd)(hk:(nd.nx.map (·.1)).Nodup)(hx:X0 N (p++[x])=some c)(hc:c.nx=[]):
  A0t rb (mdel (mset N p {nd with nx:=mdel nd.nx x}) (p++[x])):=by
 have cY:((mset N p {nd with nx:=mdel nd.nx x}).map (·.1)).Nodup:=by rw[A44 hp];exact h.keys
 have bu:∀p',X0 (mdel (mset N p {nd with nx:=mdel nd.nx x}) (p++[x])) p'=if p++[x]=p' then none else if p=p' then some {nd with nx:=mdel nd.nx x} else X0 N p':=by
  intro p'
  rw[A27 cY,j7]
 refine⟨C4J cY,?_,?_,?_,?_⟩
 ·obtain⟨r,h1,h2⟩:=h.root
  rw[bu,if_neg (by simp)]
  by_cases e:p=[]
  ·rw[if_pos e]
   subst e
   rw[hp] at h1
   cases h1
   exact⟨_,rfl,h2⟩
  ·rw[if_neg e];exact⟨r,h1,h2⟩
 ·intro p1 n1 y v h1 h2
  rw[bu] at h1
  by_cases e0:p++[x]=p1
  ·rw[if_pos e0] at h1;cases h1
  rw[if_neg e0] at h1
  by_cases e:p=p1
  ·rw[if_pos e] at h1
   cases h1
   subst e
   simp only[A27 hk] at h2
   by_cases e':x=y
   ·rw[if_pos e'] at h2;cases h2
   rw[if_neg e'] at h2
   obtain⟨c',h3,h4⟩:=h.down _ _ _ _ hp h2
   rw[bu,if_neg (fun e=>e' (B2P e).2),if_neg (fun e=>A8m p y e.symm)]
   exact⟨c',h3,h4⟩
  ·rw[if_neg e] at h1
   obtain⟨c',h3,h4⟩:=h.down _ _ _ _ h1 h2
   rw[bu,if_neg (fun e'=>e (B2P e').1)]
   by_cases e3:p=p1++[y]
   ·rw[if_pos e3]
    rw[←e3,hp] at h3
    cases h3
    exact⟨_,rfl,h4⟩
   ·rw[if_neg e3];exact⟨c',h3,h4⟩
 ·intro p1 y c1 h1
  rw[bu] at h1
  by_cases e0:p++[x]=p1++[y]
  ·rw[if_pos e0] at h1;cases h1
  rw[if_neg e0] at h1
  have key:∃c0,X0 N (p1++[y])=some c0∧o5 c1=o5 c0:=by
   by_cases e:p=p1++[y]
   ·rw[if_pos e] at h1
    cases h1
    rw[←e]
    exact⟨nd,hp,rfl⟩
   ·rw[if_neg e] at h1;exact⟨c1,h1,rfl⟩
  obtain⟨c0,h2,h3⟩:=key
  obtain⟨n0,h4,h5⟩:=h.up _ _ _ h2
  rw[bu]
  have bS:p++[x]≠p1:=by
   intro e
   rw[←e,hx] at h4
   cases h4
   rw[hc] at h5
   simp at h5
  rw[if_neg bS]
  by_cases e:p=p1
  ·rw[if_pos e]
   subst e
   rw[hp] at h4
   cases h4
   refine⟨_,rfl,?_⟩
   simp only[A27 hk]
   rw[if_neg (fun e6=>e0 (by rw[e6])),h3]
   exact h5
  ·rw[if_neg e];exact⟨n0,h4,by rw[h3];exact h5⟩
 ·intro p1 n1 h1
  rw[bu] at h1
  by_cases e:p++[x]=p1
  ·rw[if_pos e] at h1;cases h1
  ·rw[if_neg e] at h1
   by_cases e2:p=p1
   ·rw[←e2];exact h.short _ _ hp
   ·rw[if_neg e2] at h1;exact h.short _ _ h1
end A0t
end Go.Proofs.YtidlldnlphdhcaaGreatDoor
namespace Go.Proofs.YtidlldnlphdhcaaGreatDoor
open Go.H
open Go.Proofs.Tryz
section
open Go.H Go.Proofs
variable {h h0:Heap} {R:List Asn}
abbrev kI9:=B9B .i64
abbrev kS9:=A9L
abbrev A08:Int→Value:=fun n=>.int .i64 n
abbrev A1y:Int→Value:=Kind.val (.one (.int .i64))
abbrev A7m:B4p→Value:=fun s=>.string s
abbrev B1g:D0p→Value:=Kind.val (.one .ptr)
abbrev at9(b:Nat):Value:=.pointer (some ⟨b,0,none⟩)
def ndA(x:Nd):Asn:=star (cells x.b #[.map (some x.qm),.map (some x.nm)]) (star (mapA A08 A1y x.qm x.q) (mapA A7m B1g x.nm x.nx))
def p7(N:Nds):Asn:=b8 (fun p:Path×Nd=>ndA p.2) N
theorem B2g{x:Nd}:sat h (ndA x::R)↔sat h (cells x.b #[.map (some x.qm),.map (some x.nm)]::mapA A08 A1y x.qm x.q::mapA A7m B1g x.nm x.nx::R):=by
 unfold ndA
 constructor
 ·intro hs
  exact(sat.aI.1 (sat.aI.1 hs).p1).p2
 ·intro hs
  exact sat.aI.2 (sat.aI.2 (hs.re [1,2,0])).p1
theorem A2e{N:Nds}{p:Path}{nd:Nd}(hp:X0 N p=some nd)(hs:sat h (p7 N::R)):∃l1 l2,N=l1++(p,nd)::l2∧p∉l1.map (·.1)∧
  sat h (cells nd.b #[.map (some nd.qm),.map (some nd.nm)]::mapA A08 A1y nd.qm nd.q::mapA A7m B1g nd.nm nd.nx::b8 (fun p:Path×Nd=>ndA p.2) (l1++l2)::R):=by
 obtain⟨l1,l2,rfl,hn⟩:=B07 hp
 exact⟨l1,l2,rfl,hn,B2g.1 (k8.1 hs)⟩
theorem A9c{l1 l2:Nds}{p:Path}{nd nd':Nd}(hn:p∉l1.map (·.1))
  (hs:sat h (cells nd'.b #[.map (some nd'.qm),.map (some nd'.nm)]::mapA A08 A1y nd'.qm nd'.q::mapA A7m B1g nd'.nm nd'.nx::b8 (fun p:Path×Nd=>ndA p.2) (l1++l2)::R)):
  sat h (p7 (mset (l1++(p,nd)::l2) p nd')::R):=by
 rw[C0O hn]
 exact k8.2 (B2g.2 hs)
theorem A0f{N:Nds}{p:Path}{nd:Nd}(hp:X0 N p=some nd)(hs:sat h (p7 N::R)):W8 h ⟨nd.b,0,none⟩=some (.map (some nd.qm))∧W8 h ⟨nd.b,1,none⟩=some (.map (some nd.nm)):=by
 obtain⟨l1,l2,-,-,hs⟩:=A2e hp hs
 exact⟨hs.cell 0,hs.cell 1⟩
theorem A7d{N:Nds}{p:Path}{nd:Nd}{x:B4p}(hp:X0 N p=some nd)(hs:sat h (p7 N::R)){Q:D0p×Bool→Heap→Prop}(hq:Q ((X0 nd.nx x).getD none,(X0 nd.nx x).isSome) h):
  HM.lookup (Instr.sameNow .string) (.pointer none) (.one .ptr) (some nd.nm) (.string x) h Q:=by
 obtain⟨l1,l2,-,-,hs⟩:=A2e hp hs
 exact A0b kS9 (ek:=A7m) (kind:=.one .ptr) (z:=none) rfl hs.p2 hq
theorem C70{N:Nds}{p:Path}{nd:Nd}{x:Int}(hp:X0 N p=some nd)(hs:sat h (p7 N::R)){Q:Int×Bool→Heap→Prop}(hq:Q ((X0 nd.q x).getD 0,(X0 nd.q x).isSome) h):
  HM.lookup (Instr.sameNow (.int .i64)) (.int .i64 0) (.one (.int .i64)) (some nd.qm) (.int .i64 x) h Q:=by
 obtain⟨l1,l2,-,-,hs⟩:=A2e hp hs
 exact A0b kI9 (ek:=A08) (kind:=.one (.int .i64)) (z:=0) rfl hs.p1 hq
theorem A7c{N:Nds}{p:Path}{nd:Nd}(hp:X0 N p=some nd)(hs:sat h (p7 N::R)):(nd.q.map (·.1)).Nodup∧(nd.nx.map (·.1)).Nodup:=by
 obtain⟨l1,l2,-,-,hs⟩:=A2e hp hs
 exact⟨hs.p1.bK,hs.p2.bK⟩
theorem C0L{N:Nds}{p:Path}{nd:Nd}{k v:Int}(hp:X0 N p=some nd)(hs:sat h (p7 N::R)){Q:Unit→Heap→Prop}(hq:∀h',sat h' (p7 (mset N p {nd with q:=mset nd.q k v})::R)→Q () h'):
  A3J (Instr.sameNow (.int .i64)) (some nd.qm) (.int .i64 k) (.int .i64 v) h Q:=by
 obtain⟨l1,l2,rfl,hn,hs⟩:=A2e hp hs
 refine A33 kI9 (ek:=A08) (A9O .i64) (ev:=A1y) (x:=v) hs.p1 fun h1 aa=>hq h1 ?_
 exact A9c (nd':={nd with q:=mset nd.q k v}) hn aa.p1
theorem C56{N:Nds}{p:Path}{nd:Nd}{k:Int}(hp:X0 N p=some nd)(hs:sat h (p7 N::R)){Q:Unit→Heap→Prop}(hq:∀h',sat h' (p7 (mset N p {nd with q:=mdel nd.q k})::R)→Q () h'):
  A6q (Instr.sameNow (.int .i64)) (some nd.qm) (.int .i64 k) h Q:=by
 obtain⟨l1,l2,rfl,hn,hs⟩:=A2e hp hs
 refine A6l kI9 (ek:=A08) (ev:=A1y) hs.p1 fun h1 aa=>hq h1 ?_
 exact A9c (nd':={nd with q:=mdel nd.q k}) hn aa.p1
theorem C54{N:Nds}{p:Path}{nd:Nd}{k:B4p}{v:D0p}(hp:X0 N p=some nd)(hs:sat h (p7 N::R)){Q:Unit→Heap→Prop}(hq:∀h',sat h' (p7 (mset N p {nd with nx:=mset nd.nx k v})::R)→Q () h'):
  A3J (Instr.sameNow .string) (some nd.nm) (.string k) (.pointer v) h Q:=by
 obtain⟨l1,l2,rfl,hn,hs⟩:=A2e hp hs
 refine A33 kS9 (ek:=A7m) C3L (ev:=B1g) (x:=v) hs.p2 fun h1 aa=>hq h1 ?_
 exact A9c (nd':={nd with nx:=mset nd.nx k v}) hn (aa.re [1,2,0])
theorem C57{N:Nds}{p:Path}{nd:Nd}{k:B4p}(hp:X0 N p=some nd)(hs:sat h (p7 N::R)){Q:Unit→Heap→Prop}(hq:∀h',sat h' (p7 (mset N p {nd with nx:=mdel nd.nx k})::R)→Q () h'):
  A6q (Instr.sameNow .string) (some nd.nm) (.string k) h Q:=by
 obtain⟨l1,l2,rfl,hn,hs⟩:=A2e hp hs
 refine A6l kS9 (ek:=A7m) (ev:=B1g) hs.p2 fun h1 aa=>hq h1 ?_
 exact A9c (nd':={nd with nx:=mdel nd.nx k}) hn (aa.re [1,2,0])
theorem C0M{N:Nds}{p:Path}{nd:Nd}(hp:X0 N p=some nd)(hs:sat h (p7 N::R)){Q:Int→Heap→Prop}(hq:Q (nd.q.length:Int) h):A7u (some nd.qm) h Q:=by
 obtain⟨l1,l2,rfl,hn,hs⟩:=A2e hp hs
 exact A9I hs.p1 hq
theorem C0N{N:Nds}{p:Path}{nd:Nd}(hp:X0 N p=some nd)(hs:sat h (p7 N::R)){Q:Int→Heap→Prop}(hq:Q (nd.nx.length:Int) h):A7u (some nd.nm) h Q:=by
 obtain⟨l1,l2,rfl,hn,hs⟩:=A2e hp hs
 exact A9I hs.p2 hq
theorem C55{N:Nds}{p:Path}{nd:Nd}(hp:X0 N p=some nd)(hs:sat h (p7 N::R)):sat h (p7 (mdel N p)::R):=by
 obtain⟨l1,l2,rfl,hn⟩:=B07 hp
 rw[B2i hn]
 exact(k8.1 hs).drop
theorem C3G{N:Nds}{p:Path}{nd:Nd}(hs:sat h (ndA nd::p7 N::R)):sat h (p7 (N++[(p,nd)])::R):=by
 refine k8.2 ?_
 rw[C1]
 exact hs
theorem B3W(hs:sat h R){Q:Value→Heap→Prop}(hq:∀b qm nm h',sat h' (ndA ⟨b,qm,nm,[],[]⟩::R)→Q (at9 b) h'):V9 prog 59 #[] h Q:=by
 refine B1t h Q ?_
 delta B3T az bn nw pu
 refine A57 (ek:=A08) (ev:=A1y) hs fun qm h1 aa=>?_
 refine A57 (ek:=A7m) (ev:=B1g) aa fun nm h2 ae=>?_
 refine W5 ae fun b h3 ai=>?_
 exact hq b qm nm h3 (B2g.2 (ai.re [0,2,1]))
abbrev trC(rb cm:Nat):D0q:=#[at9 rb,.map (some cm)]
theorem B2T(hs:sat h (old h0::R))(ht:TP h0){s:B4p}(hsz:s.size≤16777216){Q:Value→Heap→Prop}
  (hq:∀(sl:Slc) h',sat h' (V1 eS 1 sl (levels s)::old h0::R)→Q (.slice sl.a sl.len sl.cap) h'):
  V9 prog 36 #[.string s] h Q:=by
 refine A49 s h Q ?_
 delta A7A cc pu
 refine V3 (fun w hw=>?_)
 subst hw
 obtain⟨m,hm⟩:=ht.maxl
 refine(Any.strings_Split C5y (by kernel_rfl) s (ByteArray.mk #[47]) m w (by omega) (hs.bY hm) (by decide)).mono ?_
 rintro e w' ⟨rfl,rfl⟩
 have hl:(levels s).length=Go.Lib.countB s B0n+1:=Go.Lib.splitB_all B0n (by decide) 0 _ s rfl
 have:=hq ⟨some ⟨w.heap.size,0,none⟩,(levels s).length,(levels s).length⟩ _ (C0C (hs.bI (T:=B0N.t 9)))
 rw[hl] at this
 exact⟨_,rfl,⟨rfl,rfl,rfl⟩,⟨some ⟨w.heap.size,0,none⟩,Go.Lib.countB s B0n+1,Go.Lib.countB s B0n+1⟩,rfl,this⟩
theorem B7T{xs:Path}{i:Nat}{x:B4p}(hx:xs[i]? =some x):xs.take (i+1)=xs.take i++[x]:=by
 rw[H5,hx]
 rfl
theorem find_spec{t rb cm:Nat}{N:Nds}(ht:TP h0)(hT:A0t rb N){f:B4p}(hsz:f.size≤16777216)(hs:sat h (cells t (trC rb cm)::p7 N::old h0::R)){Q:Value→Heap→Prop}
  (ay:X0 N (levels f)=none→∀h',sat h' (cells t (trC rb cm)::p7 N::old h0::R)→Q (.pointer none) h')
  (db:∀nd,X0 N (levels f)=some nd→∀h',sat h' (cells t (trC rb cm)::p7 N::old h0::R)→Q (.pointer (o5 nd)) h'):
  V9 prog 164 #[at9 t,.string f] h Q:=by
 refine A8U (some ⟨t,0,none⟩) f h Q ?_
 delta A8V bn cc ie ix km kp lt nn pu wi
 refine⟨_,rfl,some ⟨rb,0,none⟩,by rw[V0];exact hs.cell 0,?_⟩
 refine V3 (B2T hs.p2 ht hsz fun sl h1 bx=>⟨sl,rfl,?_⟩)
 have aa:sat h1 (V1 eS 1 sl (levels f)::cells t (trC rb cm)::p7 N::old h0::R):=bx.re [0,2,3,1]
 clear bx hs
 have hlen:=aa.aW
 have tQ:(levels f).length<1000000000:=by
  have:=A7S f
  have h2:=List.count_le_length (a:=(47:UInt8)) (l:=f.data.toList)
  have h3:f.data.toList.length=f.size:=by simp
  omega
 obtain⟨r,fb,cL⟩:=hT.root
 (try dsimp only);rw[U7]
 refine o7 (γ:=Nat) (hb:=fun s=>by
   repeat' with_reducible first
    |refine @A0C _ _ _ _ ?_ (fun _=>?_)
    |refine @A1b _ _ _ _ ?_ ?_
    |refine @A2f _ _ _ ?_
   all_goals infer_instance)
  (fun g x h'=>g≤(levels f).length∧x.2.1=(g:Int)∧(∃nd,X0 N ((levels f).take g)=some nd∧x.1=o5 nd)∧sat h' (V1 eS 1 sl (levels f)::cells t (trC rb cm)::p7 N::old h0::R)) (fun g=>(levels f).length-g) 0
  ⟨C9 _,rfl,⟨r,by simpa using fb,by rw[←cL]⟩,aa⟩ ?_
 clear aa fb cL r
 rintro i ⟨pt,ci,⟨⟩⟩ h2 ⟨hi,bN,⟨nd,au,mc⟩,ae⟩
 simp only at hi bN mc ae
 subst bN
 subst mc
 have next:IntKind.wrap .i64 ((i:Int)+1)=((i+1:Nat):Int):=by rw[W6 (by omega) (by omega)];rfl
 simp only[V4,decide_eq_true_eq]
 by_cases ah:i<(levels f).length
 ·rw[if_pos (by omega),U7]
  have hx:=B0 ah
  generalize(levels f)[i]=x at hx
  refine Y0 (ae.aN A0Y) hx fun a ha=>?_
  refine⟨x,ha 0 _ rfl,?_⟩
  refine⟨_,rfl,some nd.nm,by rw[V0];exact(A0f au ae.p2).2,?_⟩
  (try dsimp only);rw[U7]
  refine A7d au ae.p2 ?_
  (try dsimp only);rw[V4]
  have aR:=B7T hx
  cases hg:X0 nd.nx x with
  |none=>
   rw[if_pos (by rfl)]
   simp only[D5,E4,V8]
   refine ay ?_ h2 ae.drop
   cases hh:X0 N (levels f) with
   |none=>rfl
   |some nd'=>
    have e:levels f=(levels f).take (i+1)++(levels f).drop (i+1):=(J0 _ _).symm
    rw[e] at hh
    obtain⟨c,hc⟩:=hT.pre _ _ _ hh
    rw[aR] at hc
    obtain⟨n0,h3,h4⟩:=hT.up _ _ _ hc
    rw[au] at h3
    cases h3
    rw[hg] at h4
    cases h4
  |some v=>
   obtain⟨c,hc,rfl⟩:=hT.down _ _ _ _ au hg
   rw[if_neg (by simp)]
   simp only[D5,E4,V8]
   exact .mk (i+1) (by omega) ⟨by omega,next,⟨c,by rw[aR];exact hc,rfl⟩,ae⟩
 ·rw[if_neg (by omega)]
  have:i=(levels f).length:=by omega
  subst this
  rw[F5] at au
  simp only[D5,E4,V8]
  exact db nd au h2 ae.drop
end
section
open Go.H Go.Proofs
variable {h h0:Heap} {R:List Asn}
def trM(t:Nat)(N:Nds)(C:List (Int×Int)):Asn:=exA fun x:Nat×Nat=>
 star (pr (A0t x.1 N)) (star (cells t (trC x.1 x.2)) (star (p7 N) (mapA A08 A1y x.2 C)))
theorem A1M{t:Nat}{N:Nds}{C:List (Int×Int)}:sat h (trM t N C::R)↔∃rb cm,A0t rb N∧sat h (cells t (trC rb cm)::p7 N::mapA A08 A1y cm C::R):=by
 unfold trM
 rw[sat.aZ]
 constructor
 ·rintro⟨⟨rb,cm⟩,hs⟩
  rw[sat.aI,sat.bB] at hs
  exact⟨rb,cm,hs.1,(sat.aI.1 (sat.aI.1 hs.2).p1).re [2,0,1]⟩
 ·rintro⟨rb,cm,hT,hs⟩
  refine⟨(rb,cm),?_⟩
  rw[sat.aI,sat.bB]
  exact⟨hT,sat.aI.2 (sat.aI.2 (hs.re [1,2,0])).p1⟩
theorem C3Q{N:Nds}{p:Path}{nd:Nd}(hp:X0 N p=some nd)(k v:Int)(p':Path)(k':Int):
  ent (mset N p {nd with q:=mset nd.q k v}) p' k'=if p=p'∧k=k' then some v else ent N p' k':=by
 unfold ent
 rw[j7]
 by_cases e:p=p'
 ·subst e
  rw[if_pos rfl,hp]
  simp only[N8,j7,true_and]
 ·rw[if_neg e,if_neg (fun h=>e h.1)]
theorem C7C{N:Nds}{p:Path}{nd:Nd}(hp:X0 N p=some nd)(hn:(nd.q.map (·.1)).Nodup)(k:Int)(p':Path)(k':Int):
  ent (mset N p {nd with q:=mdel nd.q k}) p' k'=if p=p'∧k=k' then none else ent N p' k':=by
 unfold ent
 rw[j7]
 by_cases e:p=p'
 ·subst e
  rw[if_pos rfl,hp]
  simp only[N8,A27 hn,true_and]
 ·rw[if_neg e,if_neg (fun h=>e h.1)]
theorem C6v{N:Nds}{p:Path}{nd:Nd}(hp:X0 N p=some nd)(nx:List (B4p×D0p))(p':Path)(k':Int):ent (mset N p {nd with nx:=nx}) p' k'=ent N p' k':=by
 unfold ent
 rw[j7]
 by_cases e:p=p'
 ·subst e
  rw[if_pos rfl,hp]
  rfl
 ·rw[if_neg e]
theorem B98(hs:sat h R){Q:Value→Heap→Prop}(hq:∀t nd h',nd.q=[]→nd.nx=[]→sat h' (trM t [([],nd)] []::R)→Q (at9 t) h'):V9 prog 28 #[] h Q:=by
 refine B5i h Q ?_
 delta B97 az bn cp nw pu
 refine V3 (B3W hs fun b qm nm h1 aa=>⟨some ⟨b,0,none⟩,rfl,?_⟩)
 refine A57 (ek:=A08) (ev:=A1y) aa fun cm h2 ae=>?_
 refine W5 ae fun t h3 ai=>?_
 refine hq t ⟨b,qm,nm,[],[]⟩ h3 rfl rfl (A1M.2 ⟨b,cm,⟨by simp,⟨_,rfl,rfl⟩,?_,?_,?_⟩,?_⟩)
 ·intro p nd x v h1 h2
  rw[Z4] at h1
  by_cases e:([]:Path)=p
  ·rw[if_pos e] at h1;cases h1;simp at h2
  ·rw[if_neg e] at h1;simp at h1
 ·intro p x nd' h1
  rw[Z4,if_neg (by simp)] at h1
  simp at h1
 ·intro p nd h1
  rw[Z4] at h1
  by_cases e:([]:Path)=p
  ·rw[←e];simp
  ·rw[if_neg e] at h1;simp at h1
 ·have h4:=C3G (N:=[]) (p:=[]) (A2F (f:=fun p:Path×Nd=>ndA p.2).2 ai.p2).p1
  exact h4.re [1,0,2]
abbrev C5p(id:Int)(f:B4p)(q:Int):Value:=.agg #[.int .i64 id,.string f,.int .i64 q]
theorem C69{t:Nat}{N:Nds}{C:List (Int×Int)}(ht:TP h0){id q:Int}{f:B4p}(hsz:f.size≤9223372036854775807)(hs:sat h (trM t N C::old h0::R)){Q:Value→Heap→Prop}
  (al:Y2 f=false→∀h',sat h' (trM t N C::old h0::R)→Q (.int .u8 143) h')
  (fy:Y2 f=true→(q<0∨2<q)→∀h',sat h' (trM t N C::old h0::R)→Q (.int .u8 155) h')
  (eZ:Y2 f=true→0≤q→q≤2→∀q0,ent N (levels f) id=some q0→∀N' h',(∀p' k',ent N' p' k'=if levels f=p'∧id=k' then some q else ent N p' k')→sat h' (trM t N' C::old h0::R)→Q (.int .u8 0) h')
  (ax:Y2 f=true→0≤q→q≤2→ent N (levels f) id=none→64≤(X0 C id).getD 0→∀h',sat h' (trM t N C::old h0::R)→Q (.int .u8 151) h')
  (jl:Y2 f=true→0≤q→q≤2→ent N (levels f) id=none→(X0 C id).getD 0<64→∀N' h',(∀p' k',ent N' p' k'=if levels f=p'∧id=k' then some q else ent N p' k')→
   sat h' (trM t N' (mset C id (IntKind.wrap .i64 ((X0 C id).getD 0+1)))::old h0::R)→Q (.int .u8 0) h'):
  V9 prog 109 #[at9 t,C5p id f q] h Q:=by
 refine A9Z (some ⟨t,0,none⟩) (id,f,q,()) h Q ?_
 delta B0m bn cc cp cu ie ix ji jt km kp lt nn nw pu rq vi wi
 refine W5 hs fun x1 h1 aa=>?_
 have hE:∀{h':Heap} {R':List Asn},sat h' (cells x1 #[.int .i64 id,.string f,.int .i64 q]::R')→W8 h' ⟨x1,0,none⟩=some (.int .i64 id)∧W8 h' ⟨x1,1,none⟩=some (.string f)∧W8 h' ⟨x1,2,none⟩=some (.int .i64 q):=fun af=>⟨af.cell 0,af.cell 1,af.cell 2⟩
 (try dsimp only);rw[V4,if_neg (by simp)]
 refine⟨f,by rw[V0];exact(hE aa).2.1,?_⟩
 refine V3 (A7w (aa.re [2,0,1]) ht hsz fun h2 ae=>⟨B0E f,rfl,?_⟩)
 have ai:sat h2 (cells x1 #[.int .i64 id,.string f,.int .i64 q]::trM t N C::old h0::R):=ae.re [1,2,0]
 clear aa hs ae
 (try dsimp only);rw[V4]
 unfold B0E
 by_cases hf:Y2 f=true
 case neg=>
  rw[if_neg hf,if_pos (by decide)]
  exact al (by simpa using hf) h2 ai.drop
 rw[if_pos hf,if_neg (by decide)]
 clear al
 refine W0 (fun x h'=>h'=h2∧(x.1=true↔(q<0∨2<q))) ?_ ?_
 ·refine⟨q,by rw[V0];exact(hE ai).2.2,?_⟩
  (try dsimp only);rw[V4]
  by_cases g1:q<0
  ·rw[if_pos (by simpa using g1)]
   exact⟨rfl,by simp[g1]⟩
  ·rw[if_neg (by simpa using g1)]
   exact⟨q,by rw[V0];exact(hE ai).2.2,rfl,by simp[g1]⟩
 rintro⟨x,⟨⟩⟩ h3 ⟨rfl,hx⟩
 simp only at hx
 rw[V4]
 by_cases g:q<0∨2<q
 ·rw[if_pos (hx.2 g)]
  exact fy hf g h3 ai.drop
 rw[if_neg (fun e=>g (hx.1 e))]
 clear hx fy
 have i':0≤q:=by omega
 have fc:q≤2:=by omega
 clear g
 have oY:f.size≤256:=A2U (A0o hf)
 refine⟨f,by rw[V0];exact(hE ai).2.1,?_⟩
 obtain⟨rb,cm,hT,bk⟩:=A1M.1 ai.p1
 have ak:sat h3 (cells t (trC rb cm)::p7 N::old h0::mapA A08 A1y cm C::cells x1 #[.int .i64 id,.string f,.int .i64 q]::R):=bk.re [0,1,4,2,3]
 clear bk ai
 refine W0 (fun x h'=>(x=(X0 N (levels f)).bind fun nd=>o5 nd)∧sat h' (cells t (trC rb cm)::p7 N::old h0::mapA A08 A1y cm C::cells x1 #[.int .i64 id,.string f,.int .i64 q]::R)) ?_ ?_
 ·exact find_spec ht hT (by omega) ak (fun hn h' af=>⟨none,rfl,by rw[hn];rfl,af⟩) (fun nd hn h' af=>⟨o5 nd,rfl,by rw[hn];rfl,af⟩)
 clear ak
 rintro x8 h4 ⟨pV,ak⟩
 refine W0 (fun z h'=>(z=.inl ()∧ent N (levels f) id=none∧sat h' (cells t (trC rb cm)::p7 N::old h0::mapA A08 A1y cm C::cells x1 #[.int .i64 id,.string f,.int .i64 q]::R))∨
  (z=.inr (0,())∧∃q0 N',ent N (levels f) id=some q0∧(∀p' k',ent N' p' k'=if levels f=p'∧id=k' then some q else ent N p' k')∧sat h' (trM t N' C::old h0::R))) ?_ ?_
 ·rw[V4]
  cases hg:X0 N (levels f) with
  |none=>
   rw[hg] at pV
   subst pV
   rw[if_neg (by simp)]
   exact .inl ⟨rfl,by unfold ent;rw[hg];rfl,ak⟩
  |some nd=>
   rw[hg] at pV
   subst pV
   rw[if_pos (by rfl)]
   refine⟨_,rfl,some nd.qm,by rw[V0];exact(A0f hg ak.p1).1,id,by rw[V0];exact(hE ak.p4).1,?_⟩
   (try dsimp only);rw[U7]
   refine C70 hg ak.p1 ?_
   (try dsimp only);rw[V4]
   cases hm:X0 nd.q id with
   |none=>
    rw[if_neg (by simp)]
    exact .inl ⟨rfl,by unfold ent;rw[hg];exact hm,ak⟩
   |some q0=>
    rw[if_pos (by rfl)]
    refine⟨_,rfl,some nd.qm,by rw[V0];exact(A0f hg ak.p1).1,id,by rw[V0];exact(hE ak.p4).1,q,by rw[V0];exact(hE ak.p4).2.2,?_⟩
    (try dsimp only);rw[U7]
    refine C0L hg ak.p1 fun h5 aj=>?_
    exact .inr ⟨rfl,q0,_,by unfold ent;rw[hg];exact hm,C3Q hg id q,A1M.2 ⟨rb,cm,hT.setq hg _,(aj.re [4,1,0,3,2]).drop⟩⟩
 clear ak pV
 clear x8
 rintro z h5 (⟨rfl,jY,aj⟩|⟨rfl,q0,N',tw,yd,aj⟩)
 case inr=>
  simp only[E4,V8]
  exact eZ hf i' fc q0 tw N' h5 yd aj
 simp only[D5]
 clear eZ
 refine⟨_,rfl,some cm,by rw[V0];exact aj.cell 1,id,by rw[V0];exact(hE aj.p4).1,?_⟩
 (try dsimp only);rw[U7]
 refine A0b kI9 (ek:=A08) (kind:=.one (.int .i64)) (z:=0) rfl aj.p3 ?_
 (try dsimp only);rw[V4]
 by_cases bZ:64≤(X0 C id).getD 0
 ·rw[if_pos (by simpa using bZ)]
  exact ax hf i' fc jY bZ h5 (A1M.2 ⟨rb,cm,hT,(aj.re [4,0,1,3,2]).drop⟩)
 rw[if_neg (by simpa using bZ)]
 clear ax
 refine⟨_,rfl,some ⟨rb,0,none⟩,by rw[V0];exact aj.cell 0,f,by rw[V0];exact(hE aj.p4).2.1,?_⟩
 refine V3 (A4x aj.p2 ht oY fun sl h6 gR=>⟨sl,rfl,?_⟩)
 have aw:sat h6 (p7 N::V1 eS 1 sl (levels f)::cells t (trC rb cm)::mapA A08 A1y cm C::cells x1 #[.int .i64 id,.string f,.int .i64 q]::old h0::R):=gR.re [3,0,2,4,5,1]
 clear gR aj
 have hlen:=aw.p1.aW
 have tQ:(levels f).length≤32:=(A1a.1 (A0o hf)).2.2.2
 obtain⟨r,fb,cL⟩:=hT.root
 refine W0 (fun x h'=>∃N1 nd,A0t rb N1∧(∀p k,ent N1 p k=ent N p k)∧X0 N1 (levels f)=some nd∧x.1=o5 nd∧
  sat h' (p7 N1::V1 eS 1 sl (levels f)::cells t (trC rb cm)::mapA A08 A1y cm C::cells x1 #[.int .i64 id,.string f,.int .i64 q]::old h0::R)) ?_ ?_
 ·refine o7 (γ:=Nat×Nds) (hb:=fun s=>by
    repeat' with_reducible first
     |refine @A0C _ _ _ _ ?_ (fun _=>?_)
     |refine @A1b _ _ _ _ ?_ ?_
     |refine @A2f _ _ _ ?_
    all_goals infer_instance)
   (fun g x h'=>g.1≤(levels f).length∧x.2.1=(g.1:Int)∧A0t rb g.2∧(∀p k,ent g.2 p k=ent N p k)∧(∃nd,X0 g.2 ((levels f).take g.1)=some nd∧x.1=o5 nd)∧
    sat h' (p7 g.2::V1 eS 1 sl (levels f)::cells t (trC rb cm)::mapA A08 A1y cm C::cells x1 #[.int .i64 id,.string f,.int .i64 q]::old h0::R)) (fun g=>(levels f).length-g.1) (0,N)
   ⟨C9 _,rfl,hT,fun _ _=>rfl,⟨r,by simpa using fb,by rw[←cL]⟩,aw⟩ ?_
  clear aw fb cL r jY jl hT
  rintro⟨i,N1⟩ ⟨pt,ci,⟨⟩⟩ h7 ⟨hi,bN,hT,iC,⟨nd,au,mc⟩,aC⟩
  simp only at hi bN hT iC au mc aC
  subst bN
  subst mc
  have next:IntKind.wrap .i64 ((i:Int)+1)=((i+1:Nat):Int):=by rw[W6 (by omega) (by omega)];rfl
  simp only[V4,decide_eq_true_eq]
  by_cases ah:i<(levels f).length
  ·rw[if_pos (by omega),U7]
   have hx:=B0 ah
   generalize(levels f)[i]=x at hx
   have aR:=B7T hx
   refine Y0 (aC.p1.aN A0Y) hx fun a ha=>?_
   refine⟨x,ha 0 _ rfl,?_⟩
   refine⟨_,rfl,some nd.nm,by rw[V0];exact(A0f au aC).2,?_⟩
   (try dsimp only);rw[U7]
   refine A7d au aC ?_
   refine W0 (fun _ h'=>∃N2 nd2 c,A0t rb N2∧(∀p k,ent N2 p k=ent N p k)∧X0 N2 ((levels f).take i)=some nd2∧nd2.b=nd.b∧X0 nd2.nx x=some (o5 c)∧X0 N2 ((levels f).take (i+1))=some c∧
    sat h' (p7 N2::V1 eS 1 sl (levels f)::cells t (trC rb cm)::mapA A08 A1y cm C::cells x1 #[.int .i64 id,.string f,.int .i64 q]::old h0::R)) ?_ ?_
   ·(try dsimp only);rw[V4]
    cases hg:X0 nd.nx x with
    |some v=>
     obtain⟨c,hc,rfl⟩:=hT.down _ _ _ _ au hg
     rw[if_neg (by simp)]
     exact⟨N1,nd,c,hT,iC,au,rfl,hg,by rw[aR];exact hc,aC⟩
    |none=>
     rw[if_pos (by rfl)]
     refine⟨_,rfl,some nd.nm,by rw[V0];exact(A0f au aC).2,?_⟩
     refine V3 (B3W aC fun b qm nm h8 bq=>⟨some ⟨b,0,none⟩,rfl,?_⟩)
     refine⟨some nd.nm,by rw[V0];exact(A0f au bq.p1).2,rfl,?_⟩
     (try dsimp only);rw[U7]
     refine C54 au bq.p1 fun h9 eA=>?_
     obtain⟨ay,oz⟩:=hT.grow (c:=⟨b,qm,nm,[],[]⟩) au hg rfl (by rw[D6];omega)
     have e1:∀p k,ent (mset N1 ((levels f).take i) {nd with nx:=mset nd.nx x (o5 ⟨b,qm,nm,[],[]⟩)}++[((levels f).take i++[x],⟨b,qm,nm,[],[]⟩)]) p k=ent N p k:=by
      intro p k
      rw[←iC p k,←C6v au (mset nd.nx x (o5 ⟨b,qm,nm,[],[]⟩)) p k]
      unfold ent
      rw[A58,Z4,B54]
      by_cases e:(levels f).take i++[x]=p
      ·rw[if_pos e,←e,j7,if_neg (fun e=>A8m _ _ e.symm),ay]
       rfl
      ·rw[if_neg e]
       cases X0 (mset N1 ((levels f).take i) {nd with nx:=mset nd.nx x (o5 ⟨b,qm,nm,[],[]⟩)}) p<;>rfl
     refine⟨_,{nd with nx:=mset nd.nx x (o5 ⟨b,qm,nm,[],[]⟩)},⟨b,qm,nm,[],[]⟩,oz,e1,?_,rfl,by simp[j7],?_,C3G eA.p1⟩
     ·rw[A58,j7,if_pos rfl]
      rfl
     ·rw[aR,A58,j7,if_neg (fun e=>A8m _ _ e.symm),ay,Z4,if_pos rfl]
      rfl
   clear aC hT iC au
   rintro⟨⟩ h8 ⟨N2,nd2,c,oz,da,qw,dA,oM,hc,bq⟩
   have ep:o5 nd=o5 nd2:=by unfold o5;rw[dA]
   rw[ep]
   refine⟨_,rfl,some nd2.nm,by rw[V0];exact(A0f qw bq).2,?_⟩
   (try dsimp only);rw[U7]
   refine A7d qw bq ?_
   rw[oM]
   simp only[D5,E4,V8]
   exact .mk (i+1,N2) (by simp only[];omega) ⟨by simp only[];omega,next,oz,da,⟨c,hc,rfl⟩,bq⟩
  ·rw[if_neg (by omega)]
   have:i=(levels f).length:=by omega
   subst this
   rw[F5] at au
   exact⟨N1,nd,hT,iC,au,rfl,aC⟩
 clear aw fb cL r hT
 rintro⟨pt,ci,⟨⟩⟩ h7 ⟨N1,nd,hT,iC,au,mc,aC⟩
 simp only at mc
 subst mc
 refine⟨_,rfl,some nd.qm,by rw[V0];exact(A0f au aC).1,id,by rw[V0];exact(hE aC.p4).1,q,by rw[V0];exact(hE aC.p4).2.2,?_⟩
 (try dsimp only);rw[U7]
 refine C0L au aC fun h8 bq=>?_
 refine⟨_,rfl,some cm,by rw[V0];exact bq.p2.cell 1,id,by rw[V0];exact(hE bq.p4).1,?_⟩
 (try dsimp only);rw[U7]
 refine A0b kI9 (ek:=A08) (kind:=.one (.int .i64)) (z:=0) rfl bq.p3 ?_
 (try dsimp only);rw[U7]
 refine A33 kI9 (ek:=A08) (A9O .i64) (ev:=A1y) (x:=IntKind.wrap .i64 ((X0 C id).getD 0+1)) bq.p3 fun h9 eA=>?_
 refine jl hf i' fc jY (by omega) _ h9 (fun p' k'=>?_) (A1M.2 ⟨rb,cm,hT.setq au (mset nd.q id q),(eA.re [4,2,3,1,0,5]).drop.drop⟩)
 rw[C3Q au,iC]
end
end Go.Proofs.YtidlldnlphdhcaaGreatDoor
namespace Go.H
section
variable {α:Type} {enc:α→D0r} {size:Nat} {h:Heap} {s:Slc} {x:α} {xs:List α}
theorem e8.tail(hr:e8 enc size h s (x::xs)):e8 enc size h (o0 s 1 s.len s.cap size) xs:=by
 have h1:=hr.1
 have h2:=hr.2.1
 rw[B7] at h1
 refine⟨?_,?_,fun i y hy=>?_⟩
 ·simp only[o0];omega
 ·simp only[o0];omega
 ·obtain⟨a,ha,hc⟩:=hr.2.2 (i+1) y (by simpa using hy)
  have ah:=(D4.1 hy).1
  refine⟨a.add size,?_,fun j v hv=>?_⟩
  ·simp only[o0]
   rw[if_neg (by omega),ha,N5]
   rfl
  ·have:=hc j v hv
   rw[A7s] at this⊢
   rw[A7s]
   rw[show size+(i*size+j)=(i+1)*size+j by rw[J7];omega]
   exact this
theorem B0Q(hr:e8 enc size h s (x::xs)){Q:Slc→Heap→Prop}(hq:Q (o0 s 1 s.len s.cap size) h):HM.slice s (some 1) none none size h Q:=by
 have h1:=hr.1
 have h2:=hr.2.1
 rw[B7] at h1
 exact⟨1,s.len,s.cap,rfl,⟨rfl,rfl⟩,⟨rfl,by omega⟩,hq⟩
end
end Go.H
namespace Go.Proofs.YtidlldnlphdhcaaGreatDoor
open Go.H
open Go.Proofs.Tryz
section
open Go.H Go.Proofs
variable {h h0:Heap} {R:List Asn}
theorem B8p{K V:Type}[DecidableEq K]:∀(l:List (K×V)) (k:K) (v:V),mdel (mset l k v) k=mdel l k
 |[],k,v=>by simp[mset,mdel]
 |(a,b)::l,k,v=>by
  simp only[mset]
  by_cases e:a=k
  ·rw[if_pos e];simp[mdel,e]
  ·rw[if_neg e];simp only[mdel,if_neg e];rw[B8p l k v]
theorem C3F(p:Path)(x:B4p):¬(p++[x])<+:p:=fun h=>by
 have:=h.length_le
 simp at this
 omega
theorem C5S{p p':Path}{x:B4p}(h:¬p<+:p'):¬(p++[x])<+:p':=fun hh=>h ((List.prefix_append p [x]).trans hh)
theorem C2h{A:Asn}{rb:Nat}{id:Int}:∀(ls p:Path) {N:Nds} {nd:Nd} {s:Slc} {h:Heap} {R:List Asn} (hT:A0t rb N) (au:X0 N p=some nd) (aM:∀{h':Heap} {R':List Asn},sat h' (A::R')→e8 eS 1 h' s ls)
  (hs:sat h (p7 N::A::R)) {Q:Value→Heap→Prop}
  (hq:∀N' nd' h',A0t rb N'→X0 N' p=some nd'→nd'.b=nd.b→(∀p',¬p<+:p'→X0 N' p'=X0 N p')→(∀p' k',ent N' p' k'=if p'=p++ls∧k'=id then none else ent N p' k')→
   sat h' (p7 N'::A::R)→Q (.bool (nd'.q.isEmpty&&nd'.nx.isEmpty)) h'),
  V9 prog 166 #[.pointer (o5 nd),.int .i64 id,.slice s.a s.len s.cap] h Q:=by
 intro ls
 induction ls with
 |nil=>
  intro p N nd s h R hT au aM hs Q hq
  refine A2R (o5 nd) id s h Q ?_
  delta A3e bn cb ie ix km lt nn pu vi vs
  have hl:s.len=0:=(aM hs.p1).1
  have hn:=A7c au hs
  refine W0 (fun _ h'=>sat h' (p7 (mset N p {nd with q:=mdel nd.q id})::A::R)) ?_ ?_
  ·rw[V4,if_pos (by simp[hl])]
   refine⟨_,rfl,some nd.qm,by rw[V0];exact(A0f au hs).1,?_⟩
   (try dsimp only);rw[U7]
   exact C56 au hs fun h1 aa=>aa
  rintro⟨⟩ h1 aa
  have ee:X0 (mset N p {nd with q:=mdel nd.q id}) p=some {nd with q:=mdel nd.q id}:=by rw[j7,if_pos rfl]
  have fin:Q (.bool ((mdel nd.q id).isEmpty&&nd.nx.isEmpty)) h1:=by
   refine hq _ _ h1 (hT.setq au _) ee rfl (fun p' dv=>?_) (fun p' k'=>?_) aa
   ·rw[j7,if_neg (fun e=>dv (by rw[e];exact List.prefix_refl _))]
   ·rw[C7C au hn.1,C1]
    by_cases e:p=p'∧id=k'
    ·rw[if_pos e,if_pos ⟨e.1.symm,e.2.symm⟩]
    ·rw[if_neg e,if_neg (fun e'=>e ⟨e'.1.symm,e'.2.symm⟩)]
  refine W0 (fun x h'=>h'=h1∧x.1=((mdel nd.q id).isEmpty&&nd.nx.isEmpty)) ?_ ?_
  ·refine⟨_,rfl,some nd.qm,by rw[V0];exact(A0f ee aa).1,?_⟩
   (try dsimp only);rw[U7]
   refine C0M ee aa ?_
   (try dsimp only);rw[V4]
   cases hm:mdel nd.q id with
   |cons a l=>rw[if_neg (by simp;omega)];exact⟨rfl,rfl⟩
   |nil=>
    rw[if_pos (by simp)]
    refine⟨_,rfl,some nd.nm,by rw[V0];exact(A0f ee aa).2,?_⟩
    (try dsimp only);rw[U7]
    refine C0N ee aa ?_
    refine⟨rfl,?_⟩
    simp only[]
    cases nd.nx<;>simp
    omega
  rintro⟨x,⟨⟩⟩ h2 ⟨rfl,hx⟩
  simp only at hx
  subst hx
  exact fin
 |cons x r ih=>
  intro p N nd s h R hT au aM hs Q hq
  refine A2R (o5 nd) id s h Q ?_
  delta A3e bn cb ie ix km lt nn pu vi vs
  have hl:s.len=r.length+1:=(aM hs.p1).1
  refine W0 (fun _ h'=>∃N' nd',A0t rb N'∧X0 N' p=some nd'∧nd'.b=nd.b∧nd'.qm=nd.qm∧nd'.nm=nd.nm∧(∀p',¬p<+:p'→X0 N' p'=X0 N p')∧(∀p' k',ent N' p' k'=if p'=p++x::r∧k'=id then none else ent N p' k')∧sat h' (p7 N'::A::R)) ?_ ?_
  ·rw[V4,if_neg (by simp[hl];omega)]
   refine⟨_,rfl,some nd.nm,by rw[V0];exact(A0f au hs).2,?_⟩
   (try dsimp only);rw[U7]
   have wj:=aM hs.p1
   refine Y0 (i:=0) wj (x:=x) rfl fun a ha=>?_
   refine⟨x,ha 0 _ rfl,?_⟩
   (try dsimp only);rw[U7]
   refine A7d au hs ?_
   cases hg:X0 nd.nx x with
   |none=>
    have ay:∀k',ent N (p++x::r) k'=none:=by
     intro k'
     unfold ent
     cases hh:X0 N (p++x::r) with
     |none=>rfl
     |some nd'=>
      have e:p++x::r=(p++[x])++r:=by simp
      rw[e] at hh
      obtain⟨c,hc⟩:=hT.pre _ _ _ hh
      obtain⟨n0,h3,h4⟩:=hT.up _ _ _ hc
      rw[au] at h3
      cases h3
      rw[hg] at h4
      cases h4
    refine W0 (fun z h'=>h'=h∧z.1=false) ?_ ?_
    ·(try dsimp only);rw[V4,if_neg (by simp)]
     exact⟨rfl,rfl⟩
    rintro⟨z,⟨⟩⟩ h1 ⟨rfl,hz⟩
    simp only at hz
    subst hz
    (try dsimp only);rw[U7,V4,if_neg (by simp)]
    refine⟨N,nd,hT,au,rfl,rfl,rfl,fun _ _=>rfl,fun p' k'=>?_,hs⟩
    by_cases e:p'=p++x::r∧k'=id
    ·rw[if_pos e,e.1,ay]
    ·rw[if_neg e]
   |some v=>
    obtain⟨c,hc,rfl⟩:=hT.down _ _ _ _ au hg
    refine W0 (fun z h'=>∃N1 c1,A0t rb N1∧X0 N1 (p++[x])=some c1∧c1.b=c.b∧(∀p',¬(p++[x])<+:p'→X0 N1 p'=X0 N p')∧(∀p' k',ent N1 p' k'=if p'=(p++[x])++r∧k'=id then none else ent N p' k')∧
     z.1=(c1.q.isEmpty&&c1.nx.isEmpty)∧sat h' (p7 N1::A::R)) ?_ ?_
    ·(try dsimp only);rw[V4,if_pos (by rfl)]
     refine B0Q wj ?_
     refine V3 (ih (p++[x]) hT hc (fun af=>(aM af).tail) hs fun N1 c1 h1 a1 a2 a3 a4 a5 aa=>⟨_,rfl,?_⟩)
     exact⟨N1,c1,a1,a2,a3,a4,a5,rfl,aa⟩
    rintro⟨z,⟨⟩⟩ h1 ⟨N1,c1,bP,fK,gg,ug,dm,hz,aa⟩
    simp only at hz
    subst hz
    have ee:X0 N1 p=some nd:=by rw[ug p (C3F p x)];exact au
    have xi:(p++[x])++r=p++x::r:=by simp
    rw[xi] at dm
    (try dsimp only);rw[U7,V4]
    by_cases lD:(c1.q.isEmpty&&c1.nx.isEmpty)=true
    ·rw[if_pos lD]
     rw[E8,List.isEmpty_iff,List.isEmpty_iff] at lD
     have hk:=(A7c ee aa).2
     have yL:X0 nd.nx x=some (o5 c1):=by
      obtain⟨n0,h3,h4⟩:=bP.up _ _ _ fK
      rw[ee] at h3
      cases h3
      exact h4
     refine⟨_,rfl,some nd.nm,by rw[V0];exact(A0f ee aa).2,?_⟩
     (try dsimp only);rw[U7]
     refine Y0 (i:=0) (aM aa.p1) (x:=x) rfl fun a ha=>?_
     refine⟨x,ha 0 _ rfl,?_⟩
     (try dsimp only);rw[U7]
     refine C57 ee aa fun h2 ae=>?_
     have eD:X0 (mset N1 p {nd with nx:=mdel nd.nx x}) (p++[x])=some c1:=by rw[j7,if_neg (fun e=>A8m p x e.symm)];exact fK
     have cY:((mset N1 p {nd with nx:=mdel nd.nx x}).map (·.1)).Nodup:=by rw[A44 ee];exact bP.keys
     refine⟨_,{nd with nx:=mdel nd.nx x},bP.cut ee hk fK lD.2,?_,rfl,rfl,rfl,fun p' dv=>?_,fun p' k'=>?_,C55 eD ae⟩
     ·rw[A27 cY,if_neg (A8m p x),j7,if_pos rfl]
     ·rw[A27 cY,if_neg (fun e=>dv (by rw[←e];exact List.prefix_append _ _)),j7,if_neg (fun e=>dv (by rw[e];exact List.prefix_refl _))]
      exact ug p' (C5S dv)
     ·rw[←dm]
      have:ent (mset N1 p {nd with nx:=mdel nd.nx x}) p' k'=ent N1 p' k':=C6v ee _ p' k'
      rw[←this]
      unfold ent
      rw[A27 cY]
      by_cases e:p++[x]=p'
      ·subst e
       rw[if_pos rfl,eD]
       simp[lD.1]
      ·rw[if_neg e]
    ·rw[if_neg lD]
     exact⟨N1,nd,bP,ee,rfl,rfl,rfl,fun p' dv=>ug p' (C5S dv),dm,aa⟩
  clear hs
  rintro⟨⟩ h1 ⟨N',nd',uA,gV,hb,vg,nW,hf,he,aa⟩
  have ep:o5 nd=o5 nd':=by unfold o5;rw[hb]
  refine W0 (fun x h'=>h'=h1∧x.1=(nd'.q.isEmpty&&nd'.nx.isEmpty)) ?_ ?_
  ·rw[ep]
   refine⟨_,rfl,some nd'.qm,by rw[V0];exact(A0f gV aa).1,?_⟩
   (try dsimp only);rw[U7]
   refine C0M gV aa ?_
   (try dsimp only);rw[V4]
   cases hm:nd'.q with
   |cons a l=>rw[if_neg (by simp;omega)];exact⟨rfl,rfl⟩
   |nil=>
    rw[if_pos (by simp)]
    refine⟨_,rfl,some nd'.nm,by rw[V0];exact(A0f gV aa).2,?_⟩
    (try dsimp only);rw[U7]
    refine C0N gV aa ?_
    refine⟨rfl,?_⟩
    simp only[]
    cases nd'.nx<;>simp
    omega
  rintro⟨x,⟨⟩⟩ h2 ⟨rfl,hx⟩
  simp only at hx
  subst hx
  exact hq N' nd' h2 uA gV hb hf he aa
theorem C1J{t:Nat}{N:Nds}{C:List (Int×Int)}(ht:TP h0){id:Int}{f:B4p}(hsz:f.size≤16777216)(hs:sat h (trM t N C::old h0::R)){Q:Value→Heap→Prop}
  (ay:ent N (levels f) id=none→∀h',sat h' (trM t N C::old h0::R)→Q (.bool false) h')
  (db:∀q0,ent N (levels f) id=some q0→∀N' h',(∀p' k',ent N' p' k'=if p'=levels f∧k'=id then none else ent N p' k')→
   sat h' (trM t N' (if IntKind.wrap .i64 ((X0 C id).getD 0-1)=0 then mdel C id else mset C id (IntKind.wrap .i64 ((X0 C id).getD 0-1)))::old h0::R)→Q (.bool true) h'):
  V9 prog 111 #[at9 t,.int .i64 id,.string f] h Q:=by
 refine A7y (some ⟨t,0,none⟩) id f h Q ?_
 delta A6O bn cb cc cp ie km kp nn pu rq vi vs wi
 rw[V4,if_neg (by simp)]
 obtain⟨rb,cm,hT,bx⟩:=A1M.1 hs
 have aa:sat h (cells t (trC rb cm)::p7 N::old h0::mapA A08 A1y cm C::R):=bx.re [0,1,3,2]
 clear bx hs
 have back:∀{h':Heap},sat h' (cells t (trC rb cm)::p7 N::old h0::mapA A08 A1y cm C::R)→sat h' (trM t N C::old h0::R):=fun af=>A1M.2 ⟨rb,cm,hT,af.re [0,1,3,2]⟩
 refine W0 (fun x h'=>(x=(X0 N (levels f)).bind fun nd=>o5 nd)∧sat h' (cells t (trC rb cm)::p7 N::old h0::mapA A08 A1y cm C::R)) ?_ ?_
 ·exact find_spec ht hT hsz aa (fun hn h' af=>⟨none,rfl,by rw[hn];rfl,af⟩) (fun nd hn h' af=>⟨o5 nd,rfl,by rw[hn];rfl,af⟩)
 clear aa
 rintro x1 h1 ⟨hx,aa⟩
 rw[V4]
 cases hg:X0 N (levels f) with
 |none=>
  rw[hg] at hx
  subst hx
  rw[if_pos (by rfl)]
  exact ay (by unfold ent;rw[hg];rfl) h1 (back aa)
 |some nd=>
  rw[hg] at hx
  subst hx
  rw[if_neg (by simp)]
  refine⟨_,rfl,some nd.qm,by rw[V0];exact(A0f hg aa.p1).1,?_⟩
  (try dsimp only);rw[U7]
  refine C70 hg aa.p1 ?_
  (try dsimp only);rw[V4]
  cases hm:X0 nd.q id with
  |none=>
   rw[if_pos (by simp)]
   exact ay (by unfold ent;rw[hg];exact hm) h1 (back aa)
  |some q0=>
   rw[if_neg (by simp)]
   have i':ent N (levels f) id=some q0:=by unfold ent;rw[hg];exact hm
   refine⟨_,rfl,some ⟨rb,0,none⟩,by rw[V0];exact aa.cell 0,?_⟩
   refine V3 (B2T aa.p2 ht hsz fun sl h2 ba=>⟨sl,rfl,?_⟩)
   have ae:sat h2 (cells t (trC rb cm)::p7 N::V1 eS 1 sl (levels f)::mapA A08 A1y cm C::old h0::R):=ba.re [2,3,0,4,1]
   clear ba aa
   refine⟨some ⟨rb,0,none⟩,by rw[V0];exact ae.cell 0,rfl,?_⟩
   obtain⟨r,fb,cL⟩:=hT.root
   have ep:(Value.pointer (some ⟨rb,0,none⟩))=.pointer (o5 r):=by unfold o5;rw[cL]
   rw[ep]
   refine V3 (C2h (A:=V1 eS 1 sl (levels f)) (levels f) [] hT fb (fun af=>af.aN A0Y) (ae.re [1,2,0]) fun N' nd' h3 uA _ _ _ he bt=>⟨_,rfl,?_⟩)
   have ai:sat h3 (cells t (trC rb cm)::mapA A08 A1y cm C::p7 N'::old h0::R):=(bt.re [1,2,3,0,4]).drop
   clear bt ae
   refine⟨_,rfl,some cm,by rw[V0];exact ai.cell 1,?_⟩
   (try dsimp only);rw[U7]
   refine A0b kI9 (ek:=A08) (kind:=.one (.int .i64)) (z:=0) rfl ai.p1 ?_
   (try dsimp only);rw[U7]
   refine A33 kI9 (ek:=A08) (A9O .i64) (ev:=A1y) (x:=IntKind.wrap .i64 ((X0 C id).getD 0-1)) ai.p1 fun h4 ak=>?_
   refine⟨_,rfl,some cm,by rw[V0];exact ak.p1.cell 1,?_⟩
   (try dsimp only);rw[U7]
   refine A0b kI9 (ek:=A08) (kind:=.one (.int .i64)) (z:=0) rfl ak ?_
   rw[j7,if_pos rfl]
   generalize hw:IntKind.wrap .i64 ((X0 C id).getD 0-1)=w at ak db
   refine W0 (fun _ h'=>sat h' (mapA A08 A1y cm (if w=0 then mdel C id else mset C id w)::cells t (trC rb cm)::p7 N'::old h0::R)) ?_ ?_
   ·(try dsimp only);rw[V4]
    by_cases kA:w=0
    ·rw[if_pos (by simpa using kA),if_pos kA]
     refine⟨_,rfl,some cm,by rw[V0];exact ak.p1.cell 1,?_⟩
     (try dsimp only);rw[U7]
     refine A6l kI9 (ek:=A08) (ev:=A1y) ak fun h5 aj=>?_
     rw[B8p] at aj
     exact aj
    ·rw[if_neg (by simpa using kA),if_neg kA]
     exact ak
   rintro⟨⟩ h5 aj
   refine db q0 i' N' h5 (fun p' k'=>?_) (A1M.2 ⟨rb,cm,uA,aj.re [1,2,0]⟩)
   rw[he,F0]
end
open Go.Proofs Go.Shelf
def B8u:Go.Shelf.Ren:=⟨fun n=>match n with|156=>228|165=>257|166=>258|169=>259|240=>269|241=>270|276=>273|277=>274|n=>n,fun n=>match n with|31=>43|9=>9|3=>3|4=>4|0=>0|20=>20|72=>384|76=>387|70=>382|37=>54|75=>386|127=>397|164=>399|5=>5|80=>389|n=>n,fun n=>n⟩
theorem C9w:Lays.n156 prog B8u where
 mixed:=by kernel_rfl
 f156:=func228.trans (congrArg some (by kernel_rfl))
 f165:=func257.trans (congrArg some (by kernel_rfl))
 f166:=func258.trans (congrArg some (by kernel_rfl))
 f169:=func259.trans (congrArg some (by kernel_rfl))
 f240:=func269.trans (congrArg some (by kernel_rfl))
 f241:=func270.trans (congrArg some (by kernel_rfl))
 f276:=func273.trans (congrArg some (by kernel_rfl))
 f277:=func274.trans (congrArg some (by kernel_rfl))
 t0:=underlying0
 a0:=isAgg0
 z0:=sizeOf0
 v0:=zeroValue0
 t3:=underlying3
 a3:=isAgg3
 z3:=sizeOf3
 v3:=zeroValue3
 t4:=underlying4
 a4:=isAgg4
 z4:=sizeOf4
 v4:=zeroValue4
 t9:=underlying9
 a9:=isAgg9
 z9:=sizeOf9
 v9:=zeroValue9
 t20:=underlying20
 a20:=isAgg20
 z20:=sizeOf20
 v20:=zeroValue20
 t31:=underlying43
 a31:=isAgg43
 z31:=sizeOf43
 v31:=zeroValue43
 t37:=underlying54
 a37:=isAgg54
 z37:=sizeOf54
 v37:=zeroValue54
 t70:=underlying382
 a70:=isAgg382
 z70:=sizeOf382
 v70:=zeroValue382
 t72:=underlying384
 a72:=isAgg384
 z72:=sizeOf384
 v72:=zeroValue384
 t75:=underlying386
 a75:=isAgg386
 z75:=sizeOf386
 v75:=zeroValue386
 t76:=underlying387
 a76:=isAgg387
 z76:=sizeOf387
 v76:=zeroValue387
 t127:=underlying397
 a127:=isAgg397
 z127:=sizeOf397
 v127:=zeroValue397
 t164:=underlying399
 a164:=isAgg399
 z164:=sizeOf399
 v164:=zeroValue399
theorem C9v:Builder.Extra prog B8u where
 sizeBuilder:=by kernel_rfl
 liesBuilder:=by kernel_rfl
 t5:=underlying5
 a5:=isAgg5
 z5:=sizeOf5
 v5:=zeroValue5
 infoByte:=by kernel_rfl
 cellsByte:=by kernel_rfl
 sizeByte:=by kernel_rfl
 neB5:=by decide
end Go.Proofs.YtidlldnlphdhcaaGreatDoor
namespace Go.H
section
variable {α:Type} {enc:α→D0r} {size:Nat} {h:Heap} {s:Slc} {x:α} {xs:List α}
theorem e8.clip(hr:e8 enc size h s xs):e8 enc size h (o0 s 0 s.len s.len size) xs:=by
 have h1:=hr.1
 refine⟨by simp only[o0];omega,by simp only[o0];omega,fun i y hy=>?_⟩
 obtain⟨a,ha,hc⟩:=hr.2.2 i y hy
 refine⟨a,?_,hc⟩
 simp only[o0,ha]
 split
 ·rfl
 ·simp[add_zero]
end
end Go.H
namespace Go.Proofs.YtidlldnlphdhcaaGreatDoor
open Go.H
open Go.Proofs.Tryz
section
open Go.H Go.Proofs
variable {h h0:Heap} {R:List Asn}
def A6e(p:Path):B4p:=⟨(Lib.join (p.map (·.data.toList)) [47]).toArray⟩
theorem B6f(c:UInt8):∀(r x:List UInt8),Lib.join (lev c x r) [c]=x++r
 |[],x=>by simp[lev,Lib.join_one]
 |b::r,x=>by
  unfold lev
  by_cases e:b=c
  ·rw[if_pos e]
   have ih:=B6f c r []
   have bS:lev c [] r≠[]:=fun h=>by have:=B5b c r [];rw[h] at this;simp at this
   obtain⟨y,ys,hy⟩:=O0 bS
   rw[hy,Lib.join_cons] at ih⊢
   rw[←e] at ih⊢
   simp only[Lib.joinTail,B5,List.flatten_cons] at ih⊢
   simp only[F0] at ih
   rw[←ih]
   simp
  ·rw[if_neg e,B6f c r (x++[b])]
   simp
theorem A29(f:B4p):A6e (levels f)=f:=by
 unfold A6e
 rw[A28,B6f,F0]
theorem C3f(hs:sat h R){s:Slc}{xs:Path}(hr:e8 eS 1 h s xs)(bS:xs≠[])(hN:xs.length≤100000)(hlen:(A6e xs).size≤100000){Q:Value→Heap→Prop}(hq:∀h',sat h' R→Q (.string (A6e xs)) h'):
  V9 prog 186 #[.slice s.a s.len s.cap] h Q:=by
 refine B2V s h Q ?_
 delta B5j ct pu vs
 obtain⟨x,xr,rfl⟩:=O0 bS
 obtain⟨a,ha,xT⟩:=hr.2.2 0 x rfl
 have wk:=xT 0 _ rfl
 have ei:=C24 wk
 obtain⟨b,o,sp⟩:=a
 have ti:sp=none:=by simpa[Addr.add] using ei
 subst ti
 refine V3 ?_
 have cA:(Value.slice s.a s.len s.cap)=.slice (some ⟨b,o,none⟩) (x::xr).length s.cap:=by rw[ha,hr.1]
 rw[cA]
 refine B4z hs (fun w hw=>Any.strings_Join C9w C9v b o s.cap (x::xr) (ByteArray.mk #[47]) w (fun j y hy=>?_) ?_ (by omega) (by rw[←hr.1];exact hr.2.1) ?_) fun h' af=>⟨_,rfl,?_⟩
 ·obtain⟨a',jm,hc⟩:=hr.2.2 j y hy
  rw[ha] at jm
  cases jm
  have:=hc 0 _ rfl
  subst hw
  rw[Nat.mul_one,Addr.bL,Addr.bL,O7] at this
  exact this
 ·subst hw
  have h1:W8 w.heap ⟨b,o,none⟩=some (.string x):=by simpa[Addr.add] using wk
  unfold W8 at h1
  cases hx:w.heap[b]? with
  |none=>simp[hx] at h1
  |some ob=>exact(F9.1 hx).1
 ·have:(A6e (x::xr)).size=(Lib.join ((x::xr).map (·.data.toList)) [47]).length:=by simp[A6e,ByteArray.size]
  have e:(ByteArray.mk #[47]).data.toList=[47]:=rfl
  rw[e,←this]
  omega
 ·exact hq h' af
abbrev Ent:=Int×B4p×Int
abbrev b6(x:Ent):D0r:=[.int .i64 x.1,.string x.2.1,.int .i64 x.2.2]
theorem A0U(x:Ent):(b6 x).length=3:=rfl
theorem A34(x:Ent):∀v∈b6 x,v.oneCell'=true:=by
 intro v hv;simp at hv;rcases hv with rfl|rfl|rfl<;>rfl
def A1d(p:Path)(q:List (Int×Int)):List Ent:=q.map fun kv=>(kv.1,A6e p,kv.2)
def A4q(N:Nds)(p:Path):List Ent:=match X0 N p with|some nd=>A1d p nd.q|none=>[]
theorem B2X{A:Asn}{N:Nds}{p:Path}{nd:Nd}(au:X0 N p=some nd)(bS:nd.q≠[]→p≠[]∧(A6e p).size≤100000)(fz:p.length≤100000){s out:Slc}{es:List Ent}
  (aM:∀{h':Heap} {R':List Asn},sat h' (A::R')→e8 eS 1 h' s p)(hs:sat h (p7 N::V1 b6 3 out es::A::R))(hb:es.length+nd.q.length≤100000){Q:Value→Heap→Prop}
  (hq:∀out' l h',l.Perm (A1d p nd.q)→sat h' (p7 N::V1 b6 3 out' (es++l)::A::R)→Q (.slice out'.a out'.len out'.cap) h'):
  V9 prog 129 #[.pointer (o5 nd),.slice s.a s.len s.cap,.slice out.a out.len out.cap] h Q:=by
 refine A7x (o5 nd) s out h Q ?_
 delta A6M az bn ct ie km nn nw pu ve vi vs
 refine⟨_,rfl,some nd.qm,by rw[V0];exact(A0f au hs).1,?_⟩
 obtain⟨l1,l2,rfl,hn,bx⟩:=A2e au hs
 have aa:sat h (mapA A08 A1y nd.qm nd.q::V1 b6 3 out es::A::cells nd.b #[.map (some nd.qm),.map (some nd.nm)]::mapA A7m B1g nd.nm nd.nx::b8 (fun p:Path×Nd=>ndA p.2) (l1++l2)::R):=bx.re [1,4,5,0,2,3]
 clear bx hs
 (try dsimp only);rw[U7]
 refine A9C aa fun it h1 ae=>?_
 refine o7 (γ:=List (Int×Int)×List (Int×Int)) (hb:=fun s=>by
   repeat' with_reducible first
    |refine @A0C _ _ _ _ ?_ (fun _=>?_)
    |refine @C0P _ _ _ _ _ ?_ (fun _=>?_)
    |refine @A1b _ _ _ _ ?_ ?_
    |refine @A2f _ _ _ ?_
   all_goals infer_instance)
  (fun g x h'=>(g.1++g.2).Perm nd.q∧sat h' (itA A08 A1y nd.qm nd.q it g.1 g.2::V1 b6 3 x.1 (es++A1d p g.1)::A::cells nd.b #[.map (some nd.qm),.map (some nd.nm)]::mapA A7m B1g nd.nm nd.nx::b8 (fun p:Path×Nd=>ndA p.2) (l1++l2)::R))
  (fun g=>g.2.length) ([],nd.q) ⟨J2 _,by simpa[A1d] using ae⟩ ?_
 clear aa ae
 rintro⟨done,todo⟩ ⟨o1,⟨⟩⟩ h2 ⟨hp,ae⟩
 simp only at hp ae
 have iO:done.length+todo.length=nd.q.length:=by have:=hp.length_eq;simpa using this
 rw[U7]
 refine B2f ae (fun h0=>?_) (fun kv t1 t2 ht h3 ai=>?_)
 ·subst h0
  (try dsimp only);rw[C0G,V4,if_neg (by simp)]
  simp only[D5,E4,V8]
  rw[C1] at hp
  refine hq o1 (A1d p done) h2 (hp.map _) ?_
  have h4:=A9M ae
  have h5:=A9c (p:=p) (nd:=nd) (nd':=nd) hn (h4.re [3,0,4,5,1,2])
  rw[B8n au] at h5
  exact h5
 ·subst ht
  (try dsimp only);rw[C0F,V4,if_pos rfl]
  rw[U7]
  refine A9Q (kk:=.one (.int .i64)) (kv:=.one (.int .i64)) (ek:=A08) (ev:=A1y) (p:=kv) (x:=kv.1) (y:=kv.2) rfl rfl ai ?_
  have i':nd.q≠[]:=fun e=>by rw[e] at hp;simp at hp
  obtain⟨tL,tK⟩:=bS i'
  refine V3 (C3f ai (aM ai.p2) tL fz tK fun h4 ak=>⟨A6e p,rfl,?_⟩)
  refine W5 ak fun lR h5 aj=>?_
  (try dsimp only);rw[U7]
  refine A0d (enc:=b6) (ys:=[(kv.1,A6e p,kv.2)]) A0U A34 rfl aj.p2 rfl ?_ (by decide) (by decide) ?_ fun o2 h6 aw=>?_
  ·simp only[W4,N5,D8,I1,C1]
   exact aj.reads rfl
  ·rw[B3,A1d,C0]
   simp only[B3,B7] at iO
   omega
  simp only[D5,E4,V8]
  refine .mk (done++[kv],t1++t2) (by simp) ⟨?_,?_⟩
  ·refine List.Perm.trans ?_ hp
   simp only[D7]
   refine Q5 done ?_
   show(kv::(t1++t2)).Perm _
   exact P9.symm
  ·have e:es++A1d p (done++[kv])=es++A1d p done++[(kv.1,A6e p,kv.2)]:=by simp[A1d]
   rw[e]
   exact(aw.re [1,2,0]).drop
end
section
open Go.H Go.Proofs
variable {h h0:Heap} {R:List Asn}
def A2h(N:Nds):Path→Path→Bool→List Ent
 |p,left,d=>match X0 N p with
  |none=>[]
  |some _=>(if d=true then[] else A4q N (p++[q8]))++match left with
   |[]=>A4q N p
   |x::r=>(if d=true then[] else A2h N (p++[v8]) r false)++A2h N (p++[x]) r false
 termination_by p left d=>left.length
theorem A4m{N:Nds}{p left:Path}{d:Bool}(h:X0 N p=none):A2h N p left d=[]:=by
 unfold A2h;rw[h]
theorem A7Q{N:Nds}{p:Path}{nd:Nd}{d:Bool}(h:X0 N p=some nd):A2h N p [] d=(if d=true then[] else A4q N (p++[q8]))++A4q N p:=by
 unfold A2h;rw[h]
theorem A59{N:Nds}{p r:Path}{x:B4p}{nd:Nd}{d:Bool}(h:X0 N p=some nd):
  A2h N p (x::r) d=(if d=true then[] else A4q N (p++[q8]))++((if d=true then[] else A2h N (p++[v8]) r false)++A2h N (p++[x]) r false):=by
 rw[A2h,h]
theorem C0J{rb:Nat}{N:Nds}(hT:A0t rb N){p:Path}{nd:Nd}(h:X0 N p=some nd)(x:B4p):(X0 nd.nx x).getD none=(X0 N (p++[x])).bind fun n=>o5 n:=by
 cases hg:X0 nd.nx x with
 |some v=>
  obtain⟨c,hc,rfl⟩:=hT.down _ _ _ _ h hg
  rw[hc]
  rfl
 |none=>
  cases hc:X0 N (p++[x]) with
  |none=>rfl
  |some c=>
   obtain⟨n0,h1,h2⟩:=hT.up _ _ _ hc
   rw[h] at h1
   cases h1
   rw[hg] at h2
   cases h2
theorem B8V{s:Slc}{Q:Value→Heap→Prop}(hle:s.len≤s.cap)(hq:Q (.slice (o0 s 0 s.len s.len 1).a (o0 s 0 s.len s.len 1).len (o0 s 0 s.len s.len 1).cap) h):
  V9 prog 128 #[.slice s.a s.len s.cap] h Q:=by
 refine B1B s h Q ?_
 delta B3Y bn pu
 exact⟨0,s.len,s.len,⟨rfl,hle⟩,⟨rfl,D9 _⟩,rfl,hq⟩
theorem A6o{A:Asn}{s:Slc}{p:Path}{x:B4p}(hr:e8 eS 1 h s p)(hc:s.cap=s.len)(fz:p.length≤100000){b:Nat}{L:List Asn}(hs:sat h (cells b #[.string x]::L)){Q:Slc→Heap→Prop}
  (hq:∀s' h',sat h' (V1 eS 1 s' (p++[x])::cells b #[.string x]::L)→Q s' h'):
  HM.append 9 1 16 #[.string (ByteArray.mk #[])] s 1 (W4 1 (⟨some ⟨b,0,none⟩,1,1⟩)) h Q:=by
 refine C1D (ys:=[x]) A0Y A8c rfl hs hr hc rfl ?_ (by decide) (by decide) (by decide) (by omega) hq
 simp only[W4,N5,D8,I1,C1]
 exact hs.reads rfl
def C3h(N:Nds):Prop:=∀p nd,X0 N p=some nd→nd.q≠[]→p≠[]∧(A6e p).size≤100000
theorem B6y{N:Nds}{p:Path}{nd:Nd}(h:X0 N p=some nd):A4q N p=A1d p nd.q:=by unfold A4q;rw[h]
theorem C2u{rb:Nat}{N:Nds}(hT:A0t rb N)(hG:C3h N):∀(n:Nat) (left p:Path) (_:left.length=n) {A:Asn} {s1 s2 out:Slc} {d:Bool} {es:List Ent} {h:Heap} {R:List Asn} (fz:p.length+left.length≤1000)
  (pw:∀{h':Heap} {R':List Asn},sat h' (A::R')→e8 eS 1 h' s1 p) (mu:∀{h':Heap} {R':List Asn},sat h' (A::R')→e8 eS 1 h' s2 left)
  (hs:sat h (p7 N::V1 b6 3 out es::A::R)) (hb:es.length+(A2h N p left d).length≤100000) {Q:Value→Heap→Prop}
  (hq:∀out' l h',l.Perm (A2h N p left d)→sat h' (p7 N::V1 b6 3 out' (es++l)::A::R)→Q (.slice out'.a out'.len out'.cap) h'),
  V9 prog 125 #[.pointer ((X0 N p).bind fun nd=>o5 nd),.slice s1.a s1.len s1.cap,.slice s2.a s2.len s2.cap,.bool d,.slice out.a out.len out.cap] h Q:=by
 intro n
 induction n using Nat.strongRecOn with
 |_ n ih=>
 intro left p ke A s1 s2 out d es h R fz pw mu hs hb Q hq
 refine A6N _ s1 s2 d out h Q ?_
 delta A5T az bn cc ie ix km lt nn nw pu rq ve vs
 rw[V4]
 cases hg:X0 N p with
 |none=>
  rw[if_pos (by rfl)]
  rw[A4m hg] at hq
  exact hq out [] h (J2 _) (by rw[C1];exact hs)
 |some nd=>
 rw[if_neg (by simp)]
 have fb:=pw hs.p2
 refine V3 (B8V fb.2.1 ⟨_,rfl,?_⟩)
 refine⟨_,rfl,some nd.nm,by rw[V0];exact(A0f hg hs).2,?_⟩
 (try dsimp only);rw[U7]
 refine A7d (x:=q8) hg hs ?_
 rw[C0J hT hg]
 refine W0 (fun z h'=>h'=h∧z.1=((X0 N (p++[q8])).isSome&& !d)) ?_ ?_
 ·(try dsimp only);rw[V4]
  cases X0 N (p++[q8]) with
  |none=>rw[if_neg (by simp)];exact⟨rfl,rfl⟩
  |some c=>rw[if_pos (by rfl)];exact⟨rfl,rfl⟩
 rintro⟨x5,⟨⟩⟩ h1 ⟨rfl,uQ⟩
 simp only at uQ
 subst uQ
 have gg:es.length+(if d=true then[] else A4q N (p++[q8])).length≤100000:=by
  cases left with
  |nil=>rw[A7Q hg,B3] at hb;omega
  |cons x r=>rw[A59 hg,B3] at hb;omega
 refine W0 (fun z h'=>∃l1,l1.Perm (if d=true then[] else A4q N (p++[q8]))∧sat h' (p7 N::V1 b6 3 z.1 (es++l1)::A::R)) ?_ ?_
 ·(try dsimp only);rw[V4]
  cases hh:X0 N (p++[q8]) with
  |none=>
   rw[if_neg (by simp)]
   refine⟨[],?_,by rw[C1];exact hs⟩
   have:A4q N (p++[q8])=[]:=by unfold A4q;rw[hh]
   rw[this]
   split<;>exact J2 _
  |some c=>
   cases d with
   |true=>
    rw[if_neg (by simp)]
    exact⟨[],by simp,by rw[C1];exact hs⟩
   |false=>
    rw[if_pos (by rfl)]
    refine W5 hs fun x7 h2 ae=>?_
    (try dsimp only);rw[U7]
    refine A6o (A:=A) (pw ae.p3).clip rfl (by omega) ae fun s8 h3 ai=>?_
    have bt:sat h3 (p7 N::V1 b6 3 out es::star (V1 eS 1 s8 (p++[q8])) A::cells x7 #[.string q8]::R):=(sat.aI.2 (ai.re [0,4,1,2,3])).re [2,3,0,1]
    have e0:((some c:Option Nd).bind fun nd=>o5 nd)=o5 c:=rfl
    rw[B6y hh] at gg⊢
    refine V3 (B2X hh (fun ed=>hG _ _ hh ed) (by rw[B3];simp;omega) (fun af=>(sat.aI.1 af).aN A0Y) bt (by simpa[A1d] using gg) fun o' l h4 hl ak=>⟨o',rfl,?_⟩)
    refine⟨l,by simpa using hl,?_⟩
    have h5:=sat.aI.1 (ak.re [2,0,1,3])
    exact(h5.re [0,4,2,3,1]).drop.drop
 clear hs gg
 rintro⟨o1,⟨⟩⟩ h2 ⟨l1,oT,aa⟩
 simp only at aa
 have fe:=oT.length_eq
 have en:s2.len=left.length:=(mu aa.p2).1
 (try dsimp only);rw[V4]
 cases left with
 |nil=>
  rw[if_pos (by simp[en])]
  rw[A7Q hg] at hq hb
  rw[B6y hg] at hq hb
  rw[B3] at hb
  have dA:(es++l1).length+nd.q.length≤100000:=by
   rw[B3,fe]
   simp only[A1d,C0] at hb
   omega
  refine V3 (B2X (A:=A) hg (hG _ _ hg) (by omega) (fun af=>(pw af).clip) aa dA fun o' l h3 hl ai=>⟨o',rfl,?_⟩)
  exact hq o' (l1++l) h3 (oT.append hl) (by rw[←D7];exact ai)
 |cons x r=>
  rw[if_neg (by simp[en];omega)]
  rw[A59 hg] at hq hb
  simp only[B3,B7] at hb fz ke
  have bh:∀(y:B4p) {h':Heap} {R':List Asn} {Q':D0p×Bool→Heap→Prop},sat h' (p7 N::R')→Q' ((X0 N (p++[y])).bind fun n=>o5 n,(X0 nd.nx y).isSome) h'→
    HM.lookup (Instr.sameNow .string) (.pointer none) (.one .ptr) (some nd.nm) (.string y) h' Q':=fun y h' R' Q' af ed=>A7d hg af (by rw[C0J hT hg];exact ed)
  have nW:∀{h':Heap} {R':List Asn},sat h' (p7 N::R')→W8 h' ⟨nd.b,1,none⟩=some (.map (some nd.nm)):=fun af=>(A0f hg af).2
  refine W0 (fun z h'=>∃l2,l2.Perm (if d=true then[] else A2h N (p++[v8]) r false)∧sat h' (p7 N::V1 b6 3 z.1 (es++l1++l2)::A::R)) ?_ ?_
  ·(try dsimp only);rw[V4]
   cases d with
   |true=>
    rw[if_neg (by simp)]
    exact⟨[],by simp,by rw[C1];exact aa⟩
   |false=>
    rw[if_pos (by rfl)]
    refine⟨_,rfl,some nd.nm,by rw[V0];exact nW aa,?_⟩
    (try dsimp only);rw[U7]
    refine bh v8 aa ?_
    (try dsimp only);rw[U7]
    refine B0Q (mu aa.p2) ?_
    refine W5 aa fun mF h3 ai=>?_
    (try dsimp only);rw[U7]
    refine bh v8 ai.p1 ?_
    refine⟨rfl,some nd.nm,by rw[V0];exact nW ai.p1,rfl,?_⟩
    (try dsimp only);rw[U7]
    refine A6o (A:=A) (pw ai.p3).clip rfl (by omega) ai fun s8 h4 ak=>?_
    (try dsimp only);rw[U7]
    refine bh v8 ak.p2 ?_
    refine⟨rfl,some nd.nm,by rw[V0];exact nW ak.p2,rfl,?_⟩
    have bk:sat h4 (p7 N::V1 b6 3 o1 (es++l1)::star (V1 eS 1 s8 (p++[v8])) A::cells mF #[.string v8]::R):=(sat.aI.2 (ak.re [0,4,1,2,3])).re [2,3,0,1]
    refine V3 (ih r.length (by omega) r (p++[v8]) rfl (by simp;omega) (fun af=>(sat.aI.1 af).aN A0Y) (fun af=>(mu (sat.aI.1 af).p1).tail) bk (by rw[B3,fe];simp at hb⊢;omega) fun o' l h5 hl aj=>⟨o',rfl,?_⟩)
    refine⟨l,by simpa using hl,?_⟩
    have h6:=sat.aI.1 (aj.re [2,0,1,3])
    exact(h6.re [0,4,2,3,1]).drop.drop
  clear aa
  rintro⟨o2,⟨⟩⟩ h3 ⟨l2,rR,ae⟩
  simp only at ae
  have lz:=rR.length_eq
  refine⟨_,rfl,some nd.nm,by rw[V0];exact nW ae,?_⟩
  (try dsimp only);rw[U7]
  obtain⟨a0,vW,-⟩:=(mu ae.p2).2.2 0 x rfl
  have cH:∀{h':Heap} {R':List Asn},sat h' (A::R')→W8 h' (a0.add ((0:Int).toNat*1))=some (.string x):=fun af=>by
   obtain⟨a1,e1,e2⟩:=(mu af).2.2 0 x rfl
   rw[vW] at e1
   cases e1
   exact e2 0 _ rfl
  have iA:∀{h':Heap} {Q':Addr→Heap→Prop},Q' (a0.add ((0:Int).toNat*1)) h'→A4F s2.a s2.len 0 1 h' Q':=fun ed=>⟨a0,vW,S7 _,by rw[en];simp,ed⟩
  refine iA ?_
  refine⟨x,cH ae.p2,?_⟩
  (try dsimp only);rw[U7]
  refine bh x ae ?_
  (try dsimp only);rw[U7]
  refine iA ?_
  refine⟨x,cH ae.p2,?_⟩
  (try dsimp only);rw[U7]
  refine B0Q (mu ae.p2) ?_
  refine W5 ae fun pH h4 ai=>?_
  (try dsimp only);rw[U7]
  refine bh x ai.p1 ?_
  refine⟨rfl,x,cH ai.p3,rfl,some nd.nm,by rw[V0];exact nW ai.p1,rfl,?_⟩
  (try dsimp only);rw[U7]
  refine A6o (A:=A) (pw ai.p3).clip rfl (by omega) ai fun s8 h5 ak=>?_
  (try dsimp only);rw[U7]
  refine bh x ak.p2 ?_
  refine⟨rfl,x,cH ak.p4,rfl,some nd.nm,by rw[V0];exact nW ak.p2,rfl,?_⟩
  have bk:sat h5 (p7 N::V1 b6 3 o2 (es++l1++l2)::star (V1 eS 1 s8 (p++[x])) A::cells pH #[.string x]::R):=(sat.aI.2 (ak.re [0,4,1,2,3])).re [2,3,0,1]
  refine V3 (ih r.length (by omega) r (p++[x]) rfl (by simp;omega) (fun af=>(sat.aI.1 af).aN A0Y) (fun af=>(mu (sat.aI.1 af).p1).tail) bk (by rw[B3,B3,fe,lz];omega) fun o' l h6 hl aj=>⟨o',rfl,?_⟩)
  refine hq o' (l1++(l2++l)) h6 (oT.append (rR.append hl)) ?_
  have h7:=sat.aI.1 (aj.re [2,0,1,3])
  have h8:sat h6 (p7 N::V1 b6 3 o' (es++l1++l2++l)::A::R):=(h7.re [0,4,2,3,1]).drop.drop
  rw[D7,D7] at h8
  exact h8
end
end Go.Proofs.YtidlldnlphdhcaaGreatDoor
namespace Go.H
section
variable {α:Type} {f:α→Asn} {h:Heap}
theorem B68{l l':List α}(hp:l.Perm l'):∀{R:List Asn},sat h (b8 f l::R)→sat h (b8 f l'::R):=by
 induction hp with
 |nil=>exact fun hs=>hs
 |cons x _ ih=>exact fun hs=>o3.2 (ih (o3.1 hs).p1).p1
 |swap x y l=>
  intro R hs
  have h1:=o3.1 hs
  have h2:=o3.1 h1.p1
  exact o3.2 ((o3.2 (h2.re [2,1,0])).p1)
 |trans _ _ sQ sP=>exact fun hs=>sP (sQ hs)
theorem B2N:∀{a b:List α} {R:List Asn},sat h (b8 f (a++b)::R)↔sat h (b8 f a::b8 f b::R)
 |[],b,R=>A2F.symm
 |x::a,b,R=>by
  rw[G7,o3]
  constructor
  ·intro hs
   exact o3.2 ((B2N.1 hs.p1).re [2,0,1])
  ·intro hs
   have h1:=o3.1 hs
   exact(B2N.2 (h1.re [1,2,0])).p1
end
theorem A9n{α β:Type}{l:List α}{f g:α→List β}(h:∀a∈l,f a=g a):l.flatMap f=l.flatMap g:=by
 induction l with
 |nil=>rfl
 |cons a l ih=>rw[D8,D8,h a (B6 ..),ih fun b hb=>h b (C2 _ hb)]
def preB:List B4p→List B4p→Bool
 |[],_=>true
 |_::_,[]=>false
 |x::p,y::q=>decide (x=y)&&preB p q
theorem A4e:∀{p q:List B4p},preB p q=true↔p<+:q
 |[],q=>by simp[preB]
 |x::p,[]=>by simp[preB]
 |x::p,y::q=>by
  rw[preB,E8,A4e (p:=p) (q:=q),List.cons_prefix_cons]
  simp
theorem B8j{α K:Type}[DecidableEq K](g:α→K):∀(L:List α) (ks:List K),ks.Nodup→(∀a∈L,g a∈ks)→L.Perm (ks.flatMap fun k=>L.filter fun a=>decide (g a=k))
 |[],ks,_,_=>by
  have:(ks.flatMap fun k=>([]:List α).filter fun a=>decide (g a=k))=[]:=by simp
  rw[this]
 |a::L,ks,hn,hg=>by
  have ih:=B8j g L ks hn (fun b hb=>hg b (C2 _ hb))
  refine(ih.cons a).trans ?_
  have key:∀ks:List K,ks.Nodup→g a∈ks→(a::ks.flatMap fun k=>L.filter fun a=>decide (g a=k)).Perm (ks.flatMap fun k=>(a::L).filter fun a=>decide (g a=k)):=by
   intro ks
   induction ks with
   |nil=>intro _ h;simp at h
   |cons k ks ih=>
    intro hn hm
    rw[G0] at hn
    rw[D8,D8]
    by_cases e:g a=k
    ·have h1:(a::L).filter (fun a=>decide (g a=k))=a::L.filter (fun a=>decide (g a=k)):=by rw[I0,if_pos (by simpa using e)]
     have h2:(ks.flatMap fun k=>(a::L).filter fun a=>decide (g a=k))=ks.flatMap fun k=>L.filter fun a=>decide (g a=k):=by
      refine A9n fun k' ij=>?_
      rw[I0,if_neg]
      intro e'
      have e2:g a=k':=by simpa using e'
      exact hn.1 (by rw[←e,e2];exact ij)
     rw[h1,h2]
     exact J2 _
    ·have h1:(a::L).filter (fun a=>decide (g a=k))=L.filter (fun a=>decide (g a=k)):=by rw[I0,if_neg (by simpa using e)]
     rw[h1]
     have lx:g a∈ks:=by
      rcases D3.1 hm with e'|h
      ·exact absurd e' e
      ·exact h
     refine List.Perm.trans ?_ ((ih hn.2 lx).append_left _)
     exact P9.symm
  exact key ks hn (hg a (B6 ..))
end Go.H
namespace Go.Proofs.YtidlldnlphdhcaaGreatDoor
open Go.H
open Go.Proofs.Tryz
open Go.H Go.Proofs
variable {h h0:Heap} {R:List Asn}
def below(N:Nds)(p:Path):Nds:=N.filter fun q=>preB p q.1
def A1l(N:Nds):List Ent:=N.flatMap fun q=>A1d q.1 q.2.q
theorem A30(N:Nds):below N []=N:=by
 unfold below
 rw[H3]
 intro q _
 rfl
theorem A9e{K V:Type}[DecidableEq K](c:K→Bool):∀(l:List (K×V)) (k:K),X0 (l.filter fun q=>c q.1) k=if c k=true then X0 l k else none
 |[],k=>by simp
 |(a,b)::l,k=>by
  rw[I0]
  by_cases e:c a=true
  ·rw[if_pos e,Z4,Z4,A9e c l k]
   by_cases e':a=k
   ·subst e';rw[if_pos rfl,if_pos rfl,if_pos e]
   ·rw[if_neg e',if_neg e']
  ·rw[if_neg e,Z4,A9e c l k]
   by_cases e':a=k
   ·subst e';rw[if_neg e,if_neg e]
   ·rw[if_neg e']
theorem C2s(N:Nds)(p p':Path):X0 (below N p) p'=if preB p p'=true then X0 N p' else none:=A9e (fun q=>preB p q) N p'
theorem B7a{rb:Nat}{N:Nds}(hT:A0t rb N){p:Path}{nd:Nd}{l1 l2:Nds}(he:below N p=l1++(p,nd)::l2)(x:B4p):(l1++l2).filter (fun q=>preB (p++[x]) q.1)=below N (p++[x]):=by
 have h1:(below N p).filter (fun q=>preB (p++[x]) q.1)=below N (p++[x]):=by
  unfold below
  rw[R7]
  refine L9 fun q _=>?_
  cases hq:preB (p++[x]) q.1 with
  |false=>simp
  |true=>
   have h2:(p++[x])<+:q.1:=A4e.1 hq
   have h3:preB p q.1=true:=A4e.2 ((List.prefix_append p [x]).trans h2)
   simp[h3]
 rw[←h1,he,F4,F4,I0,if_neg]
 intro hq
 exact C3F p x (A4e.1 hq)
theorem C1u{rb:Nat}{N:Nds}(hT:A0t rb N){p:Path}{nd:Nd}(hp:X0 N p=some nd)(hk:(nd.nx.map (·.1)).Nodup){l1 l2:Nds}(he:below N p=l1++(p,nd)::l2):
  (l1++l2).Perm (nd.nx.flatMap fun kv=>below N (p++[kv.1])):=by
 have au:((below N p).map (·.1)).Nodup:=by
  have:((below N p).map (·.1)).Sublist (N.map (·.1)):=(I5 ..).map _
  exact this.nodup hT.keys
 have an:∀q∈l1++l2,q∈N∧∃x r,q.1=p++x::r:=by
  intro q hq
  have hb:q∈below N p:=by
   rw[he]
   rcases C7.1 hq with h|h
   ·exact M0 _ h
   ·exact G8 _ (C2 _ h)
  obtain⟨h1,h2⟩:=E6.1 hb
  obtain⟨r,hr⟩:=A4e.1 h2
  refine⟨h1,?_⟩
  cases r with
  |cons x r=>exact⟨x,r,hr.symm⟩
  |nil=>
   exfalso
   rw[C1] at hr
   rw[he,B8,B5,G3,G0] at au
   rcases C7.1 hq with h|h
   ·exact au.2.2 _ (B4 h) _ (B6 ..) hr.symm
   ·exact au.2.1.1 (E3.2 ⟨q,h,hr.symm⟩)
 have nT:=B8j (fun q:Path×Nd=>(q.1.drop p.length).head?) (l1++l2) ((nd.nx.map (·.1)).map some) (by
  refine List.Pairwise.map _ (fun a b dg e=>dg (R8 e)) hk) (fun q hq=>by
   obtain⟨hN,x,r,rO⟩:=an q hq
   have vB:=A2Z hT.keys hN
   have e:q.1=(p++[x])++r:=by rw[rO];simp
   rw[e] at vB
   obtain⟨c,hc⟩:=hT.pre _ _ _ vB
   obtain⟨n0,h1,h2⟩:=hT.up _ _ _ hc
   rw[hp] at h1
   cases h1
   have h3:=A4k h2
   rw[rO]
   simp only[List.drop_left,List.head?_cons]
   exact B4 (E3.2 ⟨_,h3,rfl⟩))
 refine nT.trans ?_
 rw[F3,List.flatMap_map]
 have:(nd.nx.flatMap fun kv=>(l1++l2).filter fun q=>decide ((q.1.drop p.length).head?=some kv.1))=nd.nx.flatMap fun kv=>below N (p++[kv.1]):=by
  refine A9n fun kv _=>?_
  rw[←B7a hT he kv.1]
  refine L9 fun q hq=>?_
  obtain⟨hN,x,r,rO⟩:=an q hq
  rw[rO]
  simp only[List.drop_left,List.head?_cons,F6]
  by_cases e:x=kv.1
  ·have:preB (p++[kv.1]) (p++x::r)=true:=A4e.2 ⟨r,by simp[e]⟩
   rw[this]
   simp[e]
  ·have:preB (p++[kv.1]) (p++x::r)=false:=by
    cases hb:preB (p++[kv.1]) (p++x::r) with
    |false=>rfl
    |true=>
     obtain⟨s,hs⟩:=A4e.1 hb
     rw[D7] at hs
     have:=R0 hs
     simp at this
     exact absurd this.1.symm e
   rw[this]
   simp[e]
 exact List.Perm.of_eq this
theorem C2N{N N':Nds}(h:N.Perm N'):(A1l N).Perm (A1l N'):=h.flatMap_right _
theorem C4X(N N':Nds):A1l (N++N')=A1l N++A1l N':=I7 ..
theorem C2O{K:Type}(l:List K)(f:K→Nds):A1l (l.flatMap f)=l.flatMap fun k=>A1l (f k):=by
 unfold A1l
 rw[List.flatMap_assoc]
theorem C48{N:Nds}{p:Path}{nd:Nd}{l1 l2:Nds}(he:below N p=l1++(p,nd)::l2)(x:B4p)(hx:(l1++l2).filter (fun q=>preB (p++[x]) q.1)=below N (p++[x])):(below N (p++[x])).length<(below N p).length:=by
 rw[←hx,he]
 have:=D2 (fun q:Path×Nd=>preB (p++[x]) q.1) (l1++l2)
 simp only[B3,B7] at this⊢
 omega
theorem C1F{rb:Nat}{N:Nds}(hT:A0t rb N)(hG:C3h N){yv:Value}{J:List Ent→Asn}
  (hY:∀(l:List Ent) (e:Ent) {h:Heap} {R:List Asn} {Q:Unit→Heap→Prop},l.length≤100000→sat h (J l::R)→(∀h',sat h' (J (l++[e])::R)→Q () h')→C32 prog [] yv #[.agg #[.int .i64 e.1,.string e.2.1,.int .i64 e.2.2]] h Q):
  ∀(n:Nat) (p:Path) (nd:Nd) (_:(below N p).length=n) (_:X0 N p=some nd) {A:Asn} {s:Slc} {l:List Ent} {h:Heap} {R:List Asn}
  (_:∀{h':Heap} {R':List Asn},sat h' (A::R')→e8 eS 1 h' s p) (_:sat h (p7 (below N p)::J l::A::R)) (_:l.length+(A1l (below N p)).length≤100000) {Q:Value→Heap→Prop}
  (_:∀l' h',l'.Perm (A1l (below N p))→sat h' (p7 (below N p)::J (l++l')::A::R)→Q (.tuple #[]) h'),
  V9 prog 82 #[.pointer (o5 nd),.slice s.a s.len s.cap,yv] h Q:=by
 intro n
 induction n using Nat.strongRecOn with
 |_ n ih=>
 intro p nd ke au A s l h R aM hs hb Q hq
 have fz:=hT.short p nd au
 refine A8I (o5 nd) s yv h Q ?_
 delta A8q az bn cc cx ie ix km nn nw pu sn ve vi vs vz wi
 have hr:=aM hs.p2
 have qA:X0 (below N p) p=some nd:=by rw[C2s,if_pos (A4e.2 (List.prefix_refl _))];exact au
 refine V3 (B8V hr.2.1 ⟨_,rfl,?_⟩)
 obtain⟨l1,l2,he,yE⟩:=B07 qA
 have vD:(A1d p nd.q).length≤(A1l (below N p)).length:=by
  have:A1l (l1++(p,nd)::l2)=A1l l1++(A1d p nd.q++A1l l2):=by unfold A1l;rw[I7,D8]
  rw[he,this,B3,B3]
  omega
 have xg:nd.q.length=(A1d p nd.q).length:=by simp[A1d]
 refine V3 (B2X (A:=star (J l) A) (es:=[]) qA (hG _ _ au) (by omega) (fun af=>(aM (sat.aI.1 af).p1).clip) (out:=⟨none,0,0⟩) ((sat.aI.2 (Z2 hs|>.re [2,3,0,1])).re [2,1,0]) (by simp only[G1];omega) fun o' es h1 oT bx=>⟨o',rfl,?_⟩)
 have aa:sat h1 (J l::p7 (below N p)::V1 b6 3 o' es::A::R):=by
  have h2:=sat.aI.1 (bx.re [2,0,1])
  exact h2.re [0,2,3,1]
 clear bx hs
 have xM:es.length=nd.q.length:=by rw[oT.length_eq,xg]
 have gl:=aa.p2.aW
 have nT:(A1l (below N p)).Perm (es++nd.nx.flatMap fun kv=>A1l (below N (p++[kv.1]))):=by
  obtain⟨h1,h2⟩:=A7c qA aa.p1
  have e1:=C2N (C1u hT au h2 he)
  rw[C2O] at e1
  have e2:A1l (below N p)=A1l l1++(A1d p nd.q++A1l l2):=by rw[he];unfold A1l;rw[I7,D8]
  rw[e2]
  refine List.Perm.trans ?_ (oT.symm.append e1)
  rw[C4X,←D7,←D7]
  exact List.perm_append_comm.append_right _
 have me:=nT.length_eq
 rw[B3] at me
 refine W0 (fun _ h'=>sat h' (J (l++es)::p7 (below N p)::A::R)) ?_ ?_
 ·refine o7 (γ:=Nat) (hb:=fun s=>by
    repeat' with_reducible first
     |refine @A0C _ _ _ _ ?_ (fun _=>?_)
     |refine @A1b _ _ _ _ ?_ ?_
     |refine @A2f _ _ _ ?_
    all_goals infer_instance)
   (fun g x h'=>g≤es.length∧x.1=(g:Int)∧sat h' (J (l++es.take g)::p7 (below N p)::V1 b6 3 o' es::A::R)) (fun g=>es.length-g) 0
   ⟨C9 _,rfl,by simpa using aa⟩ ?_
  clear aa
  rintro i ⟨ci,⟨⟩⟩ h2 ⟨hi,bN,ae⟩
  simp only at hi bN ae
  subst bN
  have next:IntKind.wrap .i64 ((i:Int)+1)=((i+1:Nat):Int):=by rw[W6 (by omega) (by omega)];rfl
  simp only[V4,decide_eq_true_eq]
  by_cases ah:i<es.length
  ·rw[if_pos (by omega),U7]
   have hx:=B0 ah
   generalize es[i]=e at hx
   refine Y0 (ae.p2.aN A0U) hx fun a ha=>?_
   refine A0A (ts:=[.int .i64,.str,.int .i64]) (e.1,e.2.1,e.2.2,()) (fun j v hv=>ha j v hv) ?_
   refine W5 ae fun x7 h3 ai=>?_
   (try dsimp only);rw[U7]
   refine o4 ai rfl rfl fun h4 ak=>?_
   refine Z3 (ts:=[.int .i64,.str,.int .i64]) (e.1,e.2.1,e.2.2,()) ak rfl ?_
   (try dsimp only);rw[U7]
   refine hY (l++es.take i) e (by simp only[B3,D6];omega) ak.p1 fun h5 aj=>?_
   simp only[D5,E4,V8]
   refine .mk (i+1) (by omega) ⟨by omega,next,?_⟩
   have e1:l++es.take (i+1)=l++es.take i++[e]:=by rw[H5,hx];simp
   rw[e1]
   exact(aj.re [1,0,2,3,4]).drop
  ·rw[if_neg (by omega)]
   have:i=es.length:=by omega
   subst this
   rw[F5] at ae
   exact(ae.re [2,0,1,3]).drop
 clear aa gl
 rintro⟨ci,⟨⟩⟩ h2 ae
 refine⟨_,rfl,some nd.nm,by rw[V0];exact(A0f qA ae.p1).2,?_⟩
 have qv:∀{h':Heap} {R':List Asn},sat h' (p7 (below N p)::R')↔sat h' (cells nd.b #[.map (some nd.qm),.map (some nd.nm)]::mapA A08 A1y nd.qm nd.q::mapA A7m B1g nd.nm nd.nx::b8 (fun p:Path×Nd=>ndA p.2) (l1++l2)::R'):=by
  intro h' R'
  rw[he]
  exact⟨fun af=>B2g.1 (k8.1 af),fun af=>k8.2 (B2g.2 af)⟩
 have hk:=(A7c qA ae.p1).2
 have ai:sat h2 (mapA A7m B1g nd.nm nd.nx::J (l++es)::A::cells nd.b #[.map (some nd.qm),.map (some nd.nm)]::mapA A08 A1y nd.qm nd.q::b8 (fun p:Path×Nd=>ndA p.2) (l1++l2)::R):=(qv.1 ae.p1).re [2,4,5,0,1,3]
 clear ae
 (try dsimp only);rw[U7]
 refine A9C ai fun it h3 ak=>?_
 clear ai
 refine o7 (γ:=List (B4p×D0p)×List (B4p×D0p)×List Ent) (hb:=fun s=>by
   repeat' with_reducible first
    |refine @A0C _ _ _ _ ?_ (fun _=>?_)
    |refine @C0P _ _ _ _ _ ?_ (fun _=>?_)
    |refine @A1b _ _ _ _ ?_ ?_
    |refine @A2f _ _ _ ?_
   all_goals infer_instance)
  (fun g x h'=>(g.1++g.2.1).Perm nd.nx∧g.2.2.Perm (g.1.flatMap fun kv=>A1l (below N (p++[kv.1])))∧
   sat h' (itA A7m B1g nd.nm nd.nx it g.1 g.2.1::J (l++es++g.2.2)::A::cells nd.b #[.map (some nd.qm),.map (some nd.nm)]::mapA A08 A1y nd.qm nd.q::b8 (fun p:Path×Nd=>ndA p.2) (l1++l2)::R))
  (fun g=>g.2.1.length) ([],nd.nx,[]) ⟨J2 _,J2 _,by simpa using ak⟩ ?_
 clear ak
 rintro⟨done,todo,L'⟩ ⟨⟩ h4 ⟨hp,hL,ak⟩
 simp only at hp hL ak
 rw[U7]
 refine B2f ak (fun h0=>?_) (fun kv t1 t2 ht h5 aj=>?_)
 ·subst h0
  (try dsimp only);rw[C0G,V4,if_neg (by simp)]
  simp only[D5,E4,V8]
  rw[C1] at hp
  refine hq (es++L') h4 ?_ ?_
  ·refine List.Perm.trans ?_ nT.symm
   exact(hL.trans (hp.flatMap_right _)).append_left es
  ·rw[←D7]
   have h5:=A9M ak
   exact qv.2 (h5.re [3,4,0,5,1,2])
 ·subst ht
  (try dsimp only);rw[C0F,V4,if_pos rfl]
  rw[U7]
  refine A9Q (kk:=.one .str) (kv:=.one .ptr) (ek:=A7m) (ev:=B1g) (p:=kv) (x:=kv.1) (y:=kv.2) rfl rfl aj ?_
  have rU:kv∈nd.nx:=hp.mem_iff.1 (by simp)
  obtain⟨c,hc,xR⟩:=hT.down _ _ _ _ au (A2Z hk rU)
  refine W5 aj fun mA h6 aw=>?_
  (try dsimp only);rw[U7]
  refine A6o (A:=A) (aM aw.p3).clip rfl (by omega) aw fun s8 h7 aC=>?_
  have bZ:=B7a hT he kv.1
  have ah:=C48 he kv.1 bZ
  have th:L'.length+(A1l (below N (p++[kv.1]))).length≤(nd.nx.flatMap fun kv=>A1l (below N (p++[kv.1]))).length:=by
   have h8:=(hp.flatMap_right (fun kv=>A1l (below N (p++[kv.1])))).length_eq
   rw[I7,I7,D8,B3,B3,B3,←hL.length_eq] at h8
   omega
  have bq:sat h7 (p7 (below N (p++[kv.1]))::J (l++es++L')::star (V1 eS 1 s8 (p++[kv.1])) A::b8 (fun p:Path×Nd=>ndA p.2) ((l1++l2).filter fun q=> !(preB (p++[kv.1]) q.1))::itA A7m B1g nd.nm nd.nx it (done++[kv]) (t1++t2)::cells nd.b #[.map (some nd.qm),.map (some nd.nm)]::mapA A08 A1y nd.qm nd.q::cells mA #[.string kv.1]::R):=by
   have h9:=aC.re [7,0,1,2,3,4,5,6]
   have gm:=B2N.1 (B68 (List.filter_append_perm (fun q:Path×Nd=>preB (p++[kv.1]) q.1) (l1++l2)).symm h9)
   rw[bZ] at gm
   have rD:=sat.aI.2 (gm.re [2,6,0,1,3,4,5,7,8])
   exact rD.re [1,5,0,2,4,6,7,3]
  rw[xR]
  refine u6 (ih _ (by omega) (p++[kv.1]) c rfl hc (fun af=>(sat.aI.1 af).aN A0Y) bq (by rw[B3,B3];omega) fun l' h8 gC eA=>⟨(),rfl,?_⟩)
  simp only[D5,E4,V8]
  refine .mk (done++[kv],t1++t2,L'++l') (by simp) ⟨?_,?_,?_⟩
  ·refine List.Perm.trans ?_ hp
   simp only[D7]
   refine Q5 done ?_
   show(kv::(t1++t2)).Perm _
   exact P9.symm
  ·show(L'++l').Perm ((done++[kv]).flatMap _)
   rw[I7,D8,I1,C1]
   exact hL.append gC
  ·show sat h8 (_::J (l++es++(L'++l'))::_)
   rw[←D7]
   have h9:=sat.aI.1 (eA.re [2,0,1])
   have gm:sat h8 (b8 (fun p:Path×Nd=>ndA p.2) (below N (p++[kv.1]))::b8 (fun p:Path×Nd=>ndA p.2) ((l1++l2).filter fun q=> !(preB (p++[kv.1]) q.1))::itA A7m B1g nd.nm nd.nx it (done++[kv]) (t1++t2)::J (l++es++L'++l')::A::cells nd.b #[.map (some nd.qm),.map (some nd.nm)]::mapA A08 A1y nd.qm nd.q::R):=
    (h9.re [0,8,2,4,5,3,1,6,7]).drop.drop
   rw[←bZ] at gm
   have rD:=B68 (List.filter_append_perm (fun q:Path×Nd=>preB (p++[kv.1]) q.1) (l1++l2)) (B2N.2 gm)
   exact rD.re [1,2,3,4,5,0]
end Go.Proofs.YtidlldnlphdhcaaGreatDoor
namespace Go.H
open Go.Sort
section
variable {K V:Type} [DecidableEq K]
theorem A1K:∀{l:List (K×V)} {k:K},(l.map (·.1)).Nodup→mdel l k=l.filter fun p=>decide (p.1≠k)
 |[],_,_=>rfl
 |(a,b)::l,k,h=>by
  simp only[B5,G0] at h
  by_cases hk:a=k
  ·subst hk
   rw[mdel,if_pos rfl,G2 (by simp)]
   symm
   rw[H3]
   intro p hp
   simp only[ne_eq,decide_not,Bool.not_eq_eq_eq_not,N7,decide_eq_false_iff_not]
   rintro e
   exact h.1 (e▸B4 hp)
  ·rw[mdel,if_neg hk,G9 (by simpa using hk),A1K h.2]
theorem B3o:∀{l:List (K×V)} {k:K} {x:V},(mset l k x).Perm ((k,x)::mdel l k)
 |[],_,_=>J2 _
 |(a,b)::l,k,x=>by
  by_cases hk:a=k
  ·rw[mset,if_pos hk,mdel,if_pos hk]
  ·rw[mset,if_neg hk,mdel,if_neg hk]
   exact((B3o (l:=l)).cons _).trans (List.Perm.swap _ _ _)
theorem B2h{l:List (K×V)}(hn:(l.map (·.1)).Nodup){k:K}{v:V}:X0 l k=some v↔(k,v)∈l:=by
 constructor
 ·exact A4k
 ·intro h
  induction l with
  |nil=>exact absurd h (by simp)
  |cons p l ih=>
   obtain⟨a,b⟩:=p
   simp only[B5,G0] at hn
   rw[Z4]
   rcases D3.1 h with e|h
   ·cases e;rw[if_pos rfl]
   ·rw[if_neg (fun e=>hn.1 (by subst e;exact B4 (f:=(·.1)) h)),ih hn.2 h]
variable (lt:K→K→Prop) [DecidableRel lt] (key:V→K)
def A2z(m:V):List V→List V
 |[]=>[m]
 |x::r=>if lt (key m) (key x) then m::x::r else x::A2z m r
theorem A1U(m:V):∀l:List V,(A2z lt key m l).Perm (m::l)
 |[]=>J2 _
 |x::r=>by
  unfold A2z
  split
  ·exact J2 _
  ·exact((A1U m r).cons _).trans (List.Perm.swap _ _ _)
structure Ord:Prop where
 eG:∀a,¬lt a a
 trans:∀{a b c},lt a b→lt b c→lt a c
 fT:∀a b,a=b∨lt a b∨lt b a
variable {lt key}
theorem B6i(ho:Ord lt){m:V}:∀{l:List V},l.Pairwise (fun a b=>lt (key a) (key b))→(∀x∈l,key x≠key m)→(A2z lt key m l).Pairwise (fun a b=>lt (key a) (key b))
 |[],_,_=>by simp[A2z]
 |x::r,h,hm=>by
  unfold A2z
  rw[H4] at h
  split
  ·rename_i ah
   rw[H4,H4]
   refine⟨fun y hy=>?_,h⟩
   rcases D3.1 hy with rfl|hy
   ·exact ah
   ·exact ho.trans ah (h.1 y hy)
  ·rename_i ah
   rw[H4]
   refine⟨fun y hy=>?_,B6i ho h.2 fun z hz=>hm z (C2 _ hz)⟩
   rcases D3.1 ((A1U lt key m r).mem_iff.1 hy) with rfl|hy
   ·rcases ho.fT (key x) (key y) with e|e|e
    ·exact absurd e (hm x (B6 ..))
    ·exact e
    ·exact absurd e ah
   ·exact h.1 y hy
variable (lt key)
structure Rel(l:List (K×V))(L:List V):Prop where
 kk:∀p∈l,key p.2=p.1
 nd:(l.map (·.1)).Nodup
 dE:L.Pairwise fun a b=>lt (key a) (key b)
 perm:(l.map (·.2)).Perm L
variable {lt key} {l:List (K×V)} {L:List V}
theorem Rel.nil:Rel lt key ([]:List (K×V)) []:=⟨by simp,by simp,by simp,by simp⟩
theorem Rel.len(h:Rel lt key l L):l.length=L.length:=by
 have:=h.perm.length_eq
 simpa using this
theorem Rel.mem(h:Rel lt key l L){k:K}{v:V}:(k,v)∈l↔v∈L∧key v=k:=by
 constructor
 ·intro hm
  exact⟨h.perm.mem_iff.1 (B4 (f:=(·.2)) hm),h.kk _ hm⟩
 ·rintro⟨hv,rfl⟩
  obtain⟨p,hp,rfl⟩:=E3.1 (h.perm.mem_iff.2 hv)
  have:=h.kk p hp
  rw[this]
  exact hp
theorem Rel.get(ho:Ord lt)(h:Rel lt key l L)(k:K):X0 l k=L.find? fun v=>decide (key v=k):=by
 have fL:=h.dE
 have hs:∀v,X0 l k=some v↔v∈L∧key v=k:=fun v=>(B2h h.nd).trans h.mem
 clear h
 have inj:∀{L:List V},L.Pairwise (fun a b=>lt (key a) (key b))→∀a∈L,∀b∈L,key a=key b→a=b:=by
  intro L hL
  induction L with
  |nil=>intro a ha;exact absurd ha (by simp)
  |cons x r ih=>
   rw[H4] at hL
   intro a ha b hb e
   rcases D3.1 ha with e1|jm
   ·rcases D3.1 hb with e2|rk
    ·rw[e1,e2]
    ·have:=hL.1 b rk;rw[←e1,e] at this;exact absurd this (ho.eG _)
   ·rcases D3.1 hb with e2|rk
    ·have:=hL.1 a jm;rw[←e2,e] at this;exact absurd this (ho.eG _)
    ·exact ih hL.2 a jm b rk e
 cases hf:L.find? fun v=>decide (key v=k) with
 |none=>
  rw[E7] at hf
  cases hg:X0 l k with
  |none=>rfl
  |some v=>obtain⟨h1,h2⟩:=(hs v).1 hg;exact absurd h2 (by simpa using hf v h1)
 |some v=>
  rw[hs]
  exact⟨H2 hf,by simpa using N3 hf⟩
theorem Rel.del(h:Rel lt key l L)(k:K):Rel lt key (mdel l k) (L.filter fun v=>decide (key v≠k)):=by
 rw[A1K h.nd]
 refine⟨fun p hp=>h.kk p (E6.1 hp).1,((I5 (l:=l)).map _).nodup h.nd,h.dE.filter _,?_⟩
 have e:(l.filter fun p=>decide (p.1≠k)).map (·.2)=(l.map (·.2)).filter fun v=>decide (key v≠k):=by
  rw[S6]
  congr 1
  refine L9 fun p hp=>?_
  simp only[Function.comp_apply,h.kk p hp]
 rw[e]
 exact h.perm.filter _
theorem Rel.set(ho:Ord lt)(h:Rel lt key l L)(x:V):Rel lt key (mset l (key x) x) (A2z lt key x (L.filter fun v=>decide (key v≠key x))):=by
 have hd:=h.del (key x)
 have hp:=B3o (l:=l) (k:=key x) (x:=x)
 refine⟨fun p dv=>?_,?_,?_,?_⟩
 ·rcases D3.1 (hp.mem_iff.1 dv) with rfl|hm
  ·rfl
  ·exact hd.kk p hm
 ·rw[(hp.map (·.1)).nodup_iff,B5,G0]
  refine⟨fun hm=>?_,hd.nd⟩
  obtain⟨p,ir,e⟩:=E3.1 hm
  rw[A1K h.nd] at ir
  have:=(E6.1 ir).2
  simp only[ne_eq,decide_not,Bool.not_eq_eq_eq_not,N7,decide_eq_false_iff_not] at this
  exact this e
 ·exact B6i ho hd.dE fun y hy=>by simpa using(E6.1 hy).2
 ·exact((hp.map (·.2)).trans ((List.Perm.cons _ hd.perm))).trans (A1U lt key x _).symm
theorem Rel.keys(h:Rel lt key l L):(l.map (·.1)).Perm (L.map key):=by
 have e:l.map (·.1)=(l.map (·.2)).map key:=by
  rw[F3]
  refine I2 fun p hp=>?_
  exact(h.kk p hp).symm
 rw[e]
 exact h.perm.map _
theorem Rel.fV(ho:Ord lt)(h:Rel lt key l L){v:V}(hv:v∈L):X0 l (key v)=some v:=
 (B2h h.nd).2 (h.mem.2 ⟨hv,rfl⟩)
end
def ltS(a b:B4p):Prop:=a.data.toList<b.data.toList
instance:DecidableRel ltS:=fun a b=>by unfold ltS;infer_instance
theorem B7A:Ord ltS where
 eG a:=List.lt_irrefl _
 trans h1 h2:=List.lt_trans h1 h2
 fT a b:=by
  unfold ltS
  by_cases h1:a.data.toList<b.data.toList
  ·exact .inr (.inl h1)
  ·by_cases h2:b.data.toList<a.data.toList
   ·exact .inr (.inr h2)
   ·left
    have:=List.le_antisymm (List.not_lt.1 h2) (List.not_lt.1 h1)
    cases a;cases b
    simp at this
    rw[this]
theorem toList_data(s:B4p):s.toList=s.data.toList:=by
 simp[ByteArray.toList_eq]
theorem B6a(a b:B4p):Op.bytesLess a.toList b.toList=decide (ltS a b):=by
 rw[Go.Proofs.bytesLess_eq,toList_data,toList_data]
 rfl
theorem B7W{l l':List B4p}(hp:l.Perm l')(h:l'.Pairwise ltS):A5c l=l':=by
 unfold A5c
 rw[mergeSort_of_perm (hp.map (·.data.toList))]
 rw[List.mergeSort_of_pairwise]
 ·rw[F3]
  exact U2 _
 ·rw[P6]
  refine h.imp fun dg=>?_
  simpa using List.le_of_lt dg
theorem Rel.sorted{V:Type}{key:V→B4p}{l:List (B4p×V)}{L:List V}(h:Rel ltS key l L):A5c (l.map (·.1))=L.map key:=
 B7W h.keys (by rw[P6];exact h.dE)
end Go.H
namespace Go.Proofs.YtidlldnlphdhcaaGreatDoor
open Go.H
open Go.Proofs.Tryz
open Go.H Go.Proofs
abbrev j3(e:Ent):Int×B4p:=(e.1,e.2.1)
def ltK(a b:Int×B4p):Prop:=a.1<b.1∨(a.1=b.1∧ltS a.2 b.2)
instance:DecidableRel ltK:=fun a b=>by unfold ltK;infer_instance
theorem A99:Ord ltK where
 eG a h:=by
  rcases h with h|h
  ·omega
  ·exact B7A.eG _ h.2
 trans {a b c} h1 h2:=by
  rcases h1 with h1|h1<;>rcases h2 with h2|h2
  ·exact .inl (by omega)
  ·exact .inl (by omega)
  ·exact .inl (by omega)
  ·exact .inr ⟨h1.1.trans h2.1,B7A.trans h1.2 h2.2⟩
 fT a b:=by
  by_cases h1:a.1<b.1
  ·exact .inr (.inl (.inl h1))
  ·by_cases h2:b.1<a.1
   ·exact .inr (.inr (.inl h2))
   ·have e:a.1=b.1:=by omega
    rcases B7A.fT a.2 b.2 with h|h|h
    ·exact .inl (Prod.ext e h)
    ·exact .inr (.inl (.inr ⟨e,h⟩))
    ·exact .inr (.inr (.inr ⟨e.symm,h⟩))
abbrev Asc(L:List Ent):Prop:=L.Pairwise fun a b=>ltK (j3 a) (j3 b)
theorem Asc.key{L:List Ent}(h:Asc L){a b:Ent}(ha:a∈L)(hb:b∈L)(e:j3 a=j3 b):a=b:=by
 induction L with
 |nil=>simp at ha
 |cons x L ih=>
  rw[Asc,H4] at h
  rcases D3.1 ha with e1|h1
  ·rcases D3.1 hb with e2|h2
   ·rw[e1,e2]
   ·have:=h.1 b h2;rw[←e1,e] at this;exact absurd this (A99.eG _)
  ·rcases D3.1 hb with e2|h2
   ·have:=h.1 a h1;rw[←e2,e] at this;exact absurd this (A99.eG _)
   ·exact ih h.2 h1 h2
theorem Asc.nodup{L:List Ent}(h:Asc L):L.Nodup:=h.imp fun dg e=>by subst e;exact A99.eG _ dg
theorem C1B:∀{ys zs:List Ent},ys.Perm zs→Asc zs→ys.Pairwise (fun a b=>¬ltK (j3 b) (j3 a))→ys=zs
 |[],zs,hp,_,_=>(List.nil_perm.1 hp).symm
 |y::ys,[],hp,_,_=>absurd hp.length_eq (by simp)
 |y::ys,z::zs,hp,hz,hy=>by
  have oK:=H4.1 hz
  have pS:=H4.1 hy
  have e:y=z:=by
   rcases D3.1 (hp.mem_iff.1 (B6 ..)) with e|h1
   ·exact e
   ·rcases D3.1 (hp.mem_iff.2 (B6 ..)) with e|h2
    ·exact e.symm
    ·exact absurd (oK.1 y h1) (pS.1 z h2)
  subst e
  rw[C1B (List.Perm.cons_inv hp) oK.2 pS.2]
structure A1e(N:Nds)(L:List Ent):Prop where
 bR:∀x∈L,Y2 x.2.1=true
 dE:Asc L
 dI:∀p k q,ent N p k=some q↔∃f,levels f=p∧(k,f,q)∈L
theorem A7T{f f':B4p}(h:levels f=levels f'):f=f':=by rw[←A29 f,h,A29]
theorem A1e.get{N:Nds}{L:List Ent}(h:A1e N L)(f:B4p)(k q:Int):ent N (levels f) k=some q↔(k,f,q)∈L:=by
 rw[h.dI]
 constructor
 ·rintro⟨f',e,hm⟩
  rw[A7T e] at hm
  exact hm
 ·exact fun hm=>⟨f,rfl,hm⟩
theorem A1e.none{N:Nds}{L:List Ent}(h:A1e N L)(f:B4p)(k:Int):ent N (levels f) k=none↔∀x∈L,j3 x≠(k,f):=by
 constructor
 ·intro hn x hx e
  have e1:x.1=k:=congrArg Prod.fst e
  have e2:x.2.1=f:=congrArg Prod.snd e
  have:(k,f,x.2.2)∈L:=by rw[←e1,←e2];exact hx
  rw[(h.get f k _).2 this] at hn
  cases hn
 ·intro hn
  cases he:ent N (levels f) k with
  |none=>rfl
  |some q=>exact absurd rfl (hn _ ((h.get f k q).1 he))
theorem A1e.fA{N:Nds}{L:List Ent}(h:A1e N L)(hk:∀p nd,X0 N p=some nd→(nd.q.map (·.1)).Nodup):C3h N:=by
 intro p nd hp hq
 obtain⟨kv,r,hr⟩:=O0 hq
 have h1:X0 nd.q kv.1=some kv.2:=A2Z (hk p nd hp) (by rw[hr];exact B6 ..)
 have h2:ent N p kv.1=some kv.2:=by unfold ent;rw[hp];exact h1
 obtain⟨f,hf,hm⟩:=(h.dI _ _ _).1 h2
 have hg:=h.bR _ hm
 subst hf
 refine⟨B3p f,?_⟩
 rw[A29]
 have:=A2U (A0o hg)
 simp only at this
 omega
def A1i(L:List Ent)(k:Int):Nat:=(L.map (·.1)).count k
def B0J(C:List (Int×Int))(L:List Ent):Prop:=∀k,X0 C k=if A1i L k=0 then none else some (A1i L k:Int)
theorem B0J.getD{C:List (Int×Int)}{L:List Ent}(h:B0J C L)(k:Int):(X0 C k).getD 0=(A1i L k:Int):=by
 rw[h k]
 split
 ·rename_i e;rw[e];rfl
 ·rfl
theorem A7E{L:List Ent}{i:Nat}{x e:Ent}(hi:L[i]? =some x)(he:j3 x=j3 e):(L.set i e).map j3=L.map j3:=by
 rw[List.map_set]
 have h1:(L.map j3)[i]? =some (j3 e):=by rw[I9,hi];simp[he]
 apply List.ext_getElem?
 intro j
 rw[List.getElem?_set]
 by_cases e':i=j
 ·subst e'
  rw[if_pos rfl,h1]
  have:=(D4.1 h1).1
  rw[if_pos (by simpa using this)]
 ·rw[if_neg e']
theorem C6H{L L':List Ent}(h:(L'.map j3)=L.map j3)(k:Int):A1i L' k=A1i L k:=by
 unfold A1i
 have:∀M:List Ent,M.map (·.1)=(M.map j3).map (·.1):=fun M=>by rw[F3];rfl
 rw[this,this,h]
theorem C1C{L L':List Ent}(h:(L'.map j3)=L.map j3)(ha:Asc L):Asc L':=by
 have h1:(L.map j3).Pairwise ltK:=by rw[P6];exact ha
 rw[←h,P6] at h1
 exact h1
theorem A1e.set{N N':Nds}{L:List Ent}(h:A1e N L){i:Nat}{x:Ent}{k q:Int}{f:B4p}(hi:L[i]? =some x)(hx:j3 x=(k,f))(hf:Y2 f=true)
  (hN:∀p' k',ent N' p' k'=if levels f=p'∧k=k' then some q else ent N p' k'):A1e N' (L.set i (k,f,q)) where
 bR:=by
  intro y hy
  rcases List.mem_or_eq_of_mem_set hy with hy|rfl
  ·exact h.bR y hy
  ·exact hf
 dE:=C1C (A7E hi hx) h.dE
 dI:=by
  have ah:=(D4.1 hi).1
  have uP:=E9 hi
  have an:∀y:Ent,y∈L.set i (k,f,q)↔y=(k,f,q)∨(y∈L∧j3 y≠(k,f)):=by
   intro y
   constructor
   ·intro hy
    by_cases e:y=(k,f,q)
    ·exact .inl e
    ·right
     have gj:y∈L:=by
      rcases List.mem_or_eq_of_mem_set hy with h|h
      ·exact h
      ·exact absurd h e
     refine⟨gj,fun ek=>?_⟩
     have hm:(k,f,q)∈L.set i (k,f,q):=List.mem_set ah _
     have fL:=C1C (A7E (e:=(k,f,q)) hi hx) h.dE
     exact e (fL.key hy hm ek)
   ·rintro(rfl|⟨hy,hk⟩)
    ·exact List.mem_set ah _
    ·obtain⟨j,hj⟩:=List.mem_iff_getElem?.1 hy
     have bS:i≠j:=fun e=>by
      subst e
      rw[hi] at hj
      cases hj
      exact hk hx
     exact E9 (i:=j) (by rw[List.getElem?_set,if_neg bS];exact hj)
  intro p k' q'
  rw[hN]
  by_cases e:levels f=p∧k=k'
  ·rw[if_pos e]
   obtain⟨rfl,rfl⟩:=e
   constructor
   ·intro h1
    cases h1
    exact⟨f,rfl,(an _).2 (.inl rfl)⟩
   ·rintro⟨f',e1,hm⟩
    have:=A7T e1
    subst this
    rcases(an _).1 hm with h1|⟨_,h2⟩
    ·have:q'=q:=congrArg (fun x:Ent=>x.2.2) h1
     rw[this]
    ·exact absurd rfl h2
  ·rw[if_neg e,h.dI]
   constructor
   ·rintro⟨f',e1,hm⟩
    refine⟨f',e1,(an _).2 (.inr ⟨hm,fun ek=>e ⟨?_,(congrArg Prod.fst ek).symm⟩⟩)⟩
    have:f'=f:=congrArg Prod.snd ek
    rw[←e1,this]
   ·rintro⟨f',e1,hm⟩
    rcases(an _).1 hm with h1|⟨h2,_⟩
    ·exfalso
     have e2:k'=k:=congrArg (fun x:Ent=>x.1) h1
     have e3:f'=f:=congrArg (fun x:Ent=>x.2.1) h1
     exact e ⟨by rw[←e1,e3],e2.symm⟩
    ·exact⟨f',e1,h2⟩
theorem A1e.ins{N N':Nds}{L:List Ent}(h:A1e N L){k q:Int}{f:B4p}(ay:∀x∈L,j3 x≠(k,f))(hf:Y2 f=true)
  (hN:∀p' k',ent N' p' k'=if levels f=p'∧k=k' then some q else ent N p' k'):A1e N' (A2z ltK j3 (k,f,q) L) where
 bR:=by
  intro y hy
  rcases D3.1 ((A1U ltK j3 _ L).mem_iff.1 hy) with rfl|hy
  ·exact hf
  ·exact h.bR y hy
 dE:=B6i A99 h.dE ay
 dI:=by
  have an:∀y:Ent,y∈A2z ltK j3 (k,f,q) L↔y=(k,f,q)∨y∈L:=fun y=>by rw[(A1U ltK j3 _ L).mem_iff,D3]
  intro p k' q'
  rw[hN]
  by_cases e:levels f=p∧k=k'
  ·rw[if_pos e]
   obtain⟨rfl,rfl⟩:=e
   constructor
   ·intro h1
    cases h1
    exact⟨f,rfl,(an _).2 (.inl rfl)⟩
   ·rintro⟨f',e1,hm⟩
    have:=A7T e1
    subst this
    rcases(an _).1 hm with h1|h2
    ·have:q'=q:=congrArg (fun x:Ent=>x.2.2) h1
     rw[this]
    ·exact absurd rfl (ay _ h2)
  ·rw[if_neg e,h.dI]
   constructor
   ·rintro⟨f',e1,hm⟩
    exact⟨f',e1,(an _).2 (.inr hm)⟩
   ·rintro⟨f',e1,hm⟩
    rcases(an _).1 hm with h1|h2
    ·exfalso
     have e2:k'=k:=congrArg (fun x:Ent=>x.1) h1
     have e3:f'=f:=congrArg (fun x:Ent=>x.2.1) h1
     exact e ⟨by rw[←e1,e3],e2.symm⟩
    ·exact⟨f',e1,h2⟩
def A1S(L:List Ent)(k:Int)(f:B4p):List Ent:=L.filter fun x=>decide (j3 x≠(k,f))
theorem A1e.del{N N':Nds}{L:List Ent}(h:A1e N L){k:Int}{f:B4p}(hN:∀p' k',ent N' p' k'=if p'=levels f∧k'=k then Option.none else ent N p' k'):A1e N' (A1S L k f) where
 bR:=fun y hy=>h.bR y (E6.1 hy).1
 dE:=h.dE.filter _
 dI:=by
  intro p k' q'
  rw[hN]
  by_cases e:p=levels f∧k'=k
  ·rw[if_pos e]
   obtain⟨rfl,rfl⟩:=e
   constructor
   ·intro h1;cases h1
   ·rintro⟨f',e1,hm⟩
    have:=A7T e1
    subst this
    have:=(E6.1 hm).2
    simp at this
  ·rw[if_neg e,h.dI]
   constructor
   ·rintro⟨f',e1,hm⟩
    refine⟨f',e1,E6.2 ⟨hm,?_⟩⟩
    rw[decide_eq_true_eq]
    intro ek
    have e2:k'=k:=congrArg Prod.fst ek
    have e3:f'=f:=congrArg Prod.snd ek
    exact e ⟨by rw[←e1,e3],e2⟩
   ·rintro⟨f',e1,hm⟩
    exact⟨f',e1,(E6.1 hm).1⟩
theorem C7E(L:List Ent)(e:Ent)(k:Int):A1i (A2z ltK j3 e L) k=A1i L k+if e.1=k then 1 else 0:=by
 unfold A1i
 rw[((A1U ltK j3 e L).map (·.1)).count_eq,B5,List.count_cons]
 simp
theorem B90{L:List Ent}(ha:Asc L){x:Ent}(hx:x∈L)(k:Int):A1i L k=A1i (A1S L x.1 x.2.1) k+if x.1=k then 1 else 0:=by
 obtain⟨l1,l2,rfl⟩:=H0 hx
 have h1:∀y∈l1++l2,j3 y≠j3 x:=by
  intro y hy e
  rw[Asc,I6,H4] at ha
  rcases C7.1 hy with h|h
  ·have:=ha.2.2 y h x (B6 ..);rw[e] at this;exact A99.eG _ this
  ·have:=ha.2.1.1 y h;rw[e] at this;exact A99.eG _ this
 have h2:A1S (l1++x::l2) x.1 x.2.1=l1++l2:=by
  unfold A1S
  rw[F4,I0,if_neg (by simp),←F4]
  exact H3.2 fun y hy=>by rw[decide_eq_true_eq];exact h1 y hy
 rw[h2]
 unfold A1i
 rw[B8,B5,B8,List.count_append,List.count_append,List.count_cons]
 simp
 omega
theorem C4Z{L:List Ent}{k:Int}{f:B4p}(h:∀x∈L,j3 x≠(k,f)):A1S L k f=L:=
 H3.2 fun y hy=>by rw[decide_eq_true_eq];exact h y hy
theorem B0J.ins{C:List (Int×Int)}{L:List Ent}(h:B0J C L)(e:Ent):B0J (mset C e.1 ((A1i L e.1:Int)+1)) (A2z ltK j3 e L):=by
 intro k
 rw[j7,C7E,h k]
 by_cases hk:e.1=k
 ·subst hk
  rw[if_pos rfl,if_pos rfl,if_neg (by omega)]
  simp
 ·rw[if_neg hk,if_neg hk,O7]
theorem B0J.del{C:List (Int×Int)}{L:List Ent}(h:B0J C L)(ha:Asc L)(hn:(C.map (·.1)).Nodup){x:Ent}(hx:x∈L):
  B0J (if(A1i L x.1:Int)-1=0 then mdel C x.1 else mset C x.1 ((A1i L x.1:Int)-1)) (A1S L x.1 x.2.1):=by
 intro k
 have h1:=B90 ha hx k
 have h2:=B90 ha hx x.1
 rw[if_pos rfl] at h2
 by_cases hz:(A1i L x.1:Int)-1=0
 ·rw[if_pos hz,A27 hn]
  by_cases hk:x.1=k
  ·subst hk
   rw[if_pos rfl,if_pos (by omega)]
  ·rw[if_neg hk,h k]
   rw[if_neg hk] at h1
   rw[h1,O7]
 ·rw[if_neg hz,j7]
  by_cases hk:x.1=k
  ·subst hk
   rw[if_pos rfl,if_neg (by omega)]
   congr 1
   omega
  ·rw[if_neg hk,h k]
   rw[if_neg hk] at h1
   rw[h1,O7]
open Go.Proofs Go.Shelf Go.RowKit Go.Sort
def C45:Go.Shelf.Ren:=⟨fun n=>match n with|106=>185|213=>227|265=>256|n=>n,fun n=>match n with|9=>9|3=>3|n=>n,fun n=>n⟩
theorem C9L:Lays.n106 prog C45 where
 mixed:=by kernel_rfl
 f106:=func185.trans (congrArg some (by kernel_rfl))
 f213:=func227.trans (congrArg some (by kernel_rfl))
 f265:=func256.trans (congrArg some (by kernel_rfl))
 t3:=underlying3
 a3:=isAgg3
 z3:=sizeOf3
 v3:=zeroValue3
 t9:=underlying9
 a9:=isAgg9
 z9:=sizeOf9
 v9:=zeroValue9
def C46:Go.Shelf.Ren:=⟨fun n=>match n with|5=>184|7=>218|n=>n,fun n=>match n with|22=>3|3=>3|4=>4|n=>n,fun n=>n⟩
theorem C9M:SlLaysC2.n5 prog C46 where
 mixed:=by kernel_rfl
 f5:=⟨f184.name,by kernel_rfl,func184.trans (congrArg some (by kernel_rfl))⟩
 f7:=⟨Tryz.f218.name,by kernel_rfl,func218.trans (congrArg some (by kernel_rfl))⟩
 t3:=underlying3
 a3:=isAgg3
 z3:=sizeOf3
 v3:=zeroValue3
 t4:=underlying4
 a4:=isAgg4
 z4:=sizeOf4
 v4:=zeroValue4
 t22:=underlying3
 a22:=isAgg3
 z22:=sizeOf3
 v22:=zeroValue3
theorem C8Y(b:Nat)(x y:Int)(w:World)(h0:w.cell? ⟨b,0,none⟩=some (.int .i64 x))(h1:w.cell? ⟨b,1,none⟩=some (.int .i64 y)):
  Calls prog 183 #[.slice (some ⟨b,0,none⟩) 2 2] w fun e w'=>e=.returned (.int .i64 (if x=0 then y else x))∧w'=w:=by
 generalize hr:(if x=0 then y else x)=r
 go_enter func183,ntmps183
 go_wp2
 go_loop [5,8] (fun _ i=>(i=.int .i64 0)∨(i=.int .i64 1∧x=0)∨(i=.int .i64 2∧x=0∧y=0)) (fun _ i=>2-(intOf i).toNat)
 case atStart=>exact .inl rfl
 case round=>
  rcases hrel with rfl|⟨rfl,hx⟩|⟨rfl,hx,hy⟩
  ·by_cases hx:x=0
   ·subst hx
    go_wp2
    go_round
    case rel=>exact .inr (.inl ⟨by go_num,by first|trivial|rfl⟩)
    case measure=>simp[intOf]
   ·have dS:(x==0)=false:=by simpa using hx
    have lW:(x !=0)=true:=by simpa using hx
    go_wp2
    go_ret
    rw[if_neg hx] at hr
    subst hr
    exact⟨rfl,rfl⟩
  ·by_cases hy:y=0
   ·subst hy
    go_wp2
    go_round
    case rel=>exact .inr (.inr ⟨by go_num,hx,by first|trivial|rfl⟩)
    case measure=>simp[intOf]
   ·have pS:(y==0)=false:=by simpa using hy
    have gj:(y !=0)=true:=by simpa using hy
    go_wp2
    go_ret
    rw[if_pos hx] at hr
    subst hr
    exact⟨rfl,rfl⟩
  ·go_wp2
   go_ret
   rw[if_pos hx,hy] at hr
   subst hr
   exact⟨rfl,rfl⟩
theorem C9n(W:World)(c1 c2:Obj):((W.alloc c1).alloc c2).heap[W.heap.size]? =some c1:=by
 show((W.heap.push c1).push c2)[W.heap.size]? =some c1
 rw[N4,if_neg (by simp),N4,if_pos rfl]
theorem C9m(W:World)(c1 c2:Obj):((W.alloc c1).alloc c2).heap[W.heap.size+1]? =some c2:=by
 show((W.heap.push c1).push c2)[W.heap.size+1]? =some c2
 rw[N4,if_pos (by simp)]
theorem C9q(W:World)(c1:Obj):(W.alloc c1).heap[W.heap.size]? =some c1:=by
 show(W.heap.push c1)[W.heap.size]? =some c1
 rw[N4,if_pos rfl]
theorem A9W{w:World}{b:Nat}{cs:D0q}{t:TypeId}{f:Nat×Nat}(h:w.heap[b]? =some (.cells cs t f))(j:Nat):w.cell? ⟨b,j,none⟩=cs[j]? :=by
 unfold World.cell?
 simp only
 rw[h]
 rfl
def C47(x y:Int×B4p×Int):Int:=if Lib.compareInt x.1 y.1=0 then Lib.compareBytes x.2.1.data.toList y.2.1.data.toList else Lib.compareInt x.1 y.1
theorem C8s(x y:Int×B4p×Int)(W:World):Calls prog 127 #[.agg #[.int .i64 x.1,.string x.2.1,.int .i64 x.2.2],.agg #[.int .i64 y.1,.string y.2.1,.int .i64 y.2.2]] W fun e w'=>e=.returned (.int .i64 (C47 x y))∧∃q os',w'=grow (W.drewN q) os':=by
 have hI:=fun W'=>AnyG.cmp_Compare_int C9M x.1 y.1 W'
 have hS:=fun W'=>Any.strings_Compare C9L x.2.1 y.2.1 W'
 change ∀W',Calls prog 184 _ _ _ at hI
 change ∀W',Calls prog 185 _ _ _ at hS
 unfold C47
 generalize Lib.compareInt x.1 y.1=r1 at hI⊢
 generalize Lib.compareBytes x.2.1.data.toList y.2.1.data.toList=r2 at hS⊢
 have hO:=fun b w=>C8Y b r1 r2 w
 generalize(if r1=0 then r2 else r1)=r at hO⊢
 obtain⟨x1,x2,x3⟩:=x
 obtain⟨y1,y2,y3⟩:=y
 go_enter func127,ntmps127
 go_wp2_with fail
 obtain⟨W1,pn⟩:∃W1,(W.alloc (.cells #[.int .i64 x1,.string x2,.int .i64 x3] 208)).alloc (.cells #[.int .i64 y1,.string y2,.int .i64 y3] 208)=W1:=⟨_,rfl⟩
 obtain⟨A,hA⟩:∃A,W.heap.size=A:=⟨_,rfl⟩
 obtain⟨B,hB⟩:∃B,W.heap.size+1=B:=⟨_,rfl⟩
 rw[pn,hB,hA]
 refine wp_region_still_tail 10 (by kernel_rfl) (by kernel_rfl) ?_
 obtain⟨W2,pj⟩:∃W2,{W1 with drawn:=W1.drawn+1}=W2:=⟨_,rfl⟩
 rw[pj]
 have d0:W2.cell? ⟨A,0,none⟩=some (.int .i64 x1):=by
  refine(A9W (w:=W2) (b:=A) (by rw[←pj,←pn,←hA];exact C9n _ _ _) _).trans rfl
 have d1:W2.cell? ⟨A,1,none⟩=some (.string x2):=by
  refine(A9W (w:=W2) (b:=A) (by rw[←pj,←pn,←hA];exact C9n _ _ _) _).trans rfl
 have e0:W2.cell? ⟨B,0,none⟩=some (.int .i64 y1):=by
  refine(A9W (w:=W2) (b:=B) (by rw[←pj,←pn,←hB];exact C9m _ _ _) _).trans rfl
 have e1:W2.cell? ⟨B,1,none⟩=some (.string y2):=by
  refine(A9W (w:=W2) (b:=B) (by rw[←pj,←pn,←hB];exact C9m _ _ _) _).trans rfl
 simp only[List.take_succ_cons,T5,List.drop_succ_cons,T4]
 repeat still_step
 still_call (hI _)
 repeat still_step
 still_call (hS _)
 refine wpStill_nil ?_
 go_wp2_with (go_at_call 183;refine(hO _ _ ((A9W (C9q _ _) 0).trans rfl) ((A9W (C9q _ _) 1).trans rfl)).mono ?_;rintro e w' ⟨rfl,rfl⟩)
 go_ret
 refine⟨rfl,1,#[.cells #[.int .i64 x1,.string x2,.int .i64 x3] 208]++#[.cells #[.int .i64 y1,.string y2,.int .i64 y3] 208]++#[.cells #[.int .i64 r1,.int .i64 r2] 3],?_⟩
 rw[←pj,←pn]
 unfold grow World.drewN World.alloc
 simp only[World.mk.injEq,true_and,and_true]
 apply Array.ext'
 simp
end Go.Proofs.YtidlldnlphdhcaaGreatDoor