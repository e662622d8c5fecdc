/-
  Our texts, packed by program.
-/
import Derived.Test.YtmpgankhnfpoaaaGreatDoorQNodeRefuses1
import Derived.Lib.DecodeN
import Derived.Lib.Split
import Derived.Lib.SplitLaws
import Derived.Lib.IndexBytes
import Derived.Shelf.Strings.Split
import Derived.Shelf.Strings.Count
import Derived.Shelf.SlIterI.Nil
import Derived.Shelf.SortM.Plain
import Derived.Shelf.SortM.SortNone
import Derived.Shelf.SlIter.Nil
import Derived.Shelf.Strings.OnBuilder
import Derived.WalkKit
import Derived.LaidEql
import Derived.Stop.Asserts
import Derived.RowKitTokens
set_option linter.unusedSimpArgs false
set_option linter.unusedVariables false
set_option maxHeartbeats 16000000
set_option maxRecDepth 100000
set_option synthInstance.maxSize 100000
set_option synthInstance.maxHeartbeats 400000
namespace Go.Proofs.YtmpgankhnfpoaaaGreatDoor
open Go.H
open Go.Proofs.Tryz
section
open Go.H Go.Proofs Go.Lib
def R7(n k b lo hi:Nat):Prop:=k<n∧lo≤b∧b≤hi
instance(n k b lo hi:Nat):Decidable (R7 n k b lo hi):=by unfold R7;infer_instance
def B6i(n b0 b1 b2 b3:Nat):Nat:=
 if 1≤b0∧b0≤127 then 1
 else if 194≤b0∧b0≤223∧R7 n 1 b1 128 191 then 2
 else if 224≤b0∧b0≤239∧R7 n 1 b1 128 191∧R7 n 2 b2 128 191 then(if(b0=224∧¬R7 n 1 b1 160 191)∨(b0=237∧¬R7 n 1 b1 128 159) then 0 else 3)
 else if 240≤b0∧b0≤244∧R7 n 1 b1 128 191∧R7 n 2 b2 128 191∧R7 n 3 b3 128 191 then(if(b0=240∧¬R7 n 1 b1 144 191)∨(b0=244∧¬R7 n 1 b1 128 143) then 0 else 4)
 else 0
def B3D(d:Nat×Nat):Nat:=if d.1=0∨(d.1=65533∧d.2<2) then 0 else d.2
theorem A3n:B3D (65533,1)=0:=by decide
theorem B12{x k:Nat}(hx:x≠0)(hk:2≤k):B3D (x,k)=k:=by
 unfold B3D
 rw[if_neg]
 rintro(h|h)
 ·exact hx h
 ·have:=h.2
  simp only at this
  omega
theorem B6X(n b0 b1 b2 b3:Nat)(hn:1≤n)(h0:b0<256)(h1:b1<256)(h2:b2<256)(h3:b3<256):B3D (decodeN n b0 b1 b2 b3)=B6i n b0 b1 b2 b3:=by
 unfold decodeN B6i R7
 split
 ·unfold B3D
  by_cases g:b0=0
  ·subst g;rfl
  ·rw[if_neg (show ¬(b0=0∨(b0=65533∧1<2)) by omega),if_pos (by omega)]
 split
 ·split
  ·rw[B12 (by omega) (by omega),if_neg (by omega),if_pos (by omega)]
  ·rw[A3n,if_neg (by omega),if_neg (by omega),if_neg (by omega),if_neg (by omega)]
 split
 ·split
  ·rw[B12 (by omega) (by omega),if_neg (by omega),if_neg (by omega),if_pos (by omega),if_neg (by omega)]
  ·rw[A3n,if_neg (by omega),if_neg (by omega),if_pos (by omega),if_pos (by omega)]
 split
 ·split
  ·rw[B12 (by omega) (by omega),if_neg (by omega),if_neg (by omega),if_neg (by omega),if_pos (by omega),if_neg (by omega)]
  ·rw[A3n,if_neg (by omega),if_neg (by omega),if_neg (by omega)]
   split
   ·rw[if_pos (by omega)]
   ·rfl
 ·rw[A3n,if_neg (by omega),if_neg (by omega),if_neg (by omega),if_neg (by omega)]
theorem B32(s:B1q)(pos:Nat)(h:pos<s.size):decodeGo (s.extract pos s.size)=Utf8.decode s pos:=by
 have ao:(s.extract pos s.size).size=s.size-pos:=by simp
 have hg:∀k,((s.extract pos s.size).get! k).toNat=(s.get! (pos+k)).toNat:=fun k=>by
  show(((s.extract pos s.size).data)[k]!).toNat=((s.data)[pos+k]!).toNat
  rw[ByteArray.data_extract]
  by_cases hk:pos+k<s.size
  ·have h1:pos+k<s.data.size:=hk
   rw[getElem!_pos (s.data.extract pos s.size) k (by rw[Array.size_extract];omega),getElem!_pos s.data (pos+k) h1,Array.getElem_extract]
  ·have h1:¬pos+k<s.data.size:=hk
   rw[getElem!_neg (s.data.extract pos s.size) k (by rw[Array.size_extract];omega),getElem!_neg s.data (pos+k) h1]
 unfold decodeGo
 rw[if_neg (by rw[ao];omega),decode_at,decode_at,ao,Nat.sub_zero,hg,hg,hg,hg,J8,F5,F5,F5]
theorem B13(s:B1q)(pos:Nat)(h:pos<s.size):
  m0 (s.extract pos s.size)=B6i (s.size-pos) (s.get! pos).toNat (s.get! (pos+1)).toNat (s.get! (pos+2)).toNat (s.get! (pos+3)).toNat:=by
 rw[←B6X _ _ _ _ _ (by omega) (K6 _) (K6 _) (K6 _) (K6 _),←decode_at,←B32 s pos h]
 rfl
theorem A5m{s:B1q}{k:Nat}(h:k<s.size):s[k]? =some (s.get! k):=by
 rw[getElem?_pos s k h]
 have h1:k<s.data.size:=h
 show some (s.data[k])=some (s.data[k]!)
 rw[getElem!_pos s.data k h1]
variable {h:Heap} {R:List Asn}
theorem A5Q(b:UInt8):IntKind.wrap .i64 ((b.toNat:Int))=(b.toNat:Int):=by
 have:=K6 b
 exact O8 (by omega) (by omega)
theorem B43{s:B1q}(ao:s.size≤9223372036854775807){pos k lo hi:Nat}(ga:pos<s.size)(hk:k≤3)(sD:lo≤255)(sI:hi≤255){Q:Value→Heap→Prop}
  (hq:Q (.bool (decide (R7 (s.size-pos) k (s.get! (pos+k)).toNat lo hi))) h):N9 prog 394 #[.string s,.int .i64 ((pos+k:Nat):Int),.int .i64 lo,.int .i64 hi] h Q:=by
 refine A51 s _ lo hi h Q ?_
 delta A8X bn ie pu wi
 refine N8 (fun x h'=>h'=h∧x.1=decide (R7 (s.size-pos) k (s.get! (pos+k)).toNat lo hi)) ?_ ?_
 ·rw[N6]
  unfold R7
  by_cases h1:pos+k<s.size
  ·rw[if_pos (by simp only[decide_eq_true_eq];omega)]
   have hb:=A5m h1
   generalize s.get! (pos+k)=b at hb
   refine⟨b,by omega,by rw[G8];exact hb,?_⟩
   dsimp only
   rw[A5Q,N6]
   by_cases h2:lo≤b.toNat
   ·rw[if_pos (by simp only[decide_eq_true_eq];omega)]
    refine⟨b,by omega,by rw[G8];exact hb,rfl,?_⟩
    dsimp only
    rw[A5Q]
    have h3:k<s.size-pos:=by omega
    simp[h2,h3]
   ·rw[if_neg (by simp only[decide_eq_true_eq];omega)]
    exact⟨rfl,by simp[h2]⟩
  ·rw[if_neg (by simp only[decide_eq_true_eq];omega)]
   have h3:¬k<s.size-pos:=by omega
   exact⟨rfl,by simp[h3]⟩
 rintro⟨x,⟨⟩⟩ h1 ⟨rfl,hx⟩
 simp only at hx
 subst hx
 exact hq
theorem B7z{s:B1q}(ao:s.size≤9223372036854775800){pos:Nat}(ga:pos<s.size){Q:Value→Heap→Prop}
  (hq:Q (.int .i64 (m0 (s.extract pos s.size))) h):N9 prog 326 #[.string s,.int .i64 pos] h Q:=by
 refine A52 s pos h Q ?_
 delta A8Y bn cb ie pu vi wi
 rw[B13 s pos ga] at hq
 have hb:=A5m ga
 refine⟨s.get! pos,by omega,by rw[G8];exact hb,?_⟩
 dsimp only
 rw[A5Q]
 have tl:∀(k lo hi:Nat) {Q':Value→Heap→Prop},k≤3→lo≤255→hi≤255→Q' (.bool (decide (R7 (s.size-pos) k (s.get! (pos+k)).toNat lo hi))) h→
   N9 prog 394 #[.string s,.int .i64 (IntKind.wrap .i64 ((pos:Int)+k)),.int .i64 lo,.int .i64 hi] h Q':=fun k lo hi Q' h1 h2 h3 fw=>by
  rw[O8 (by omega) (by omega),show(pos:Int)+k=((pos+k:Nat):Int) by omega]
  exact B43 (by omega) ga h1 h2 h3 fw
 have db:=K6 (s.get! pos)
 unfold B6i at hq
 generalize(s.get! pos).toNat=b0 at hq db
 refine N8 (fun x h'=>h'=h∧x.1=decide (1≤b0∧b0≤127)) ?_ ?_
 ·by_cases g1:1≤b0
  ·have:(1:Int)≤b0:=by omega
   simp[g1,this];omega
  ·have:¬(1:Int)≤b0:=by omega
   simp[g1,this]
 rintro⟨x,⟨⟩⟩ h1 ⟨rfl,hx⟩
 simp only at hx
 subst hx
 (try dsimp only);rw[N6]
 by_cases c1:1≤b0∧b0≤127
 ·rw[if_pos (by simpa using c1)]
  rw[if_pos c1] at hq
  exact hq
 rw[if_neg (by simpa using c1)]
 rw[if_neg c1] at hq
 refine N3 (tl 1 128 191 (by decide) (by decide) (by decide) ⟨_,rfl,?_⟩)
 refine N3 (tl 2 128 191 (by decide) (by decide) (by decide) ⟨_,rfl,?_⟩)
 refine N3 (tl 3 128 191 (by decide) (by decide) (by decide) ⟨_,rfl,?_⟩)
 dsimp only
 refine N8 (fun x h'=>h'=h1∧x.1=decide (194≤b0∧b0≤223∧R7 (s.size-pos) 1 (s.get! (pos+1)).toNat 128 191)) ?_ ?_
 ·by_cases g1:194≤b0
  ·have e1:(194:Int)≤b0:=by omega
   by_cases g2:b0≤223
   ·have e2:(b0:Int)≤223:=by omega
    simp[g1,g2,e1,e2]
   ·have e2:¬(b0:Int)≤223:=by omega
    simp[g1,g2,e1,e2]
  ·have e1:¬(194:Int)≤b0:=by omega
   simp[g1,e1]
 rintro⟨x,⟨⟩⟩ h2 ⟨rfl,hx⟩
 simp only at hx
 subst hx
 (try dsimp only);rw[N6]
 by_cases c2:194≤b0∧b0≤223∧R7 (s.size-pos) 1 (s.get! (pos+1)).toNat 128 191
 ·rw[if_pos (by simpa using c2)]
  rw[if_pos c2] at hq
  exact hq
 rw[if_neg (by simpa using c2)]
 rw[if_neg c2] at hq
 refine N8 (fun x h'=>h'=h2∧x.1=decide (224≤b0∧b0≤239∧R7 (s.size-pos) 1 (s.get! (pos+1)).toNat 128 191∧R7 (s.size-pos) 2 (s.get! (pos+2)).toNat 128 191)) ?_ ?_
 ·by_cases g1:224≤b0
  ·have e1:(224:Int)≤b0:=by omega
   by_cases g2:b0≤239
   ·have e2:(b0:Int)≤239:=by omega
    by_cases g3:R7 (s.size-pos) 1 (s.get! (pos+1)).toNat 128 191<;>simp[g1,g2,e1,e2,g3]
   ·have e2:¬(b0:Int)≤239:=by omega
    simp[g1,g2,e1,e2]
  ·have e1:¬(224:Int)≤b0:=by omega
   simp[g1,e1]
 rintro⟨x,⟨⟩⟩ h3 ⟨rfl,hx⟩
 simp only at hx
 subst hx
 (try dsimp only);rw[N6]
 by_cases c3:224≤b0∧b0≤239∧R7 (s.size-pos) 1 (s.get! (pos+1)).toNat 128 191∧R7 (s.size-pos) 2 (s.get! (pos+2)).toNat 128 191
 ·rw[if_pos (by simpa using c3)]
  rw[if_pos c3] at hq
  refine N3 (tl 1 160 191 (by decide) (by decide) (by decide) ⟨_,rfl,?_⟩)
  refine N3 (tl 1 128 159 (by decide) (by decide) (by decide) ⟨_,rfl,?_⟩)
  dsimp only
  refine N8 (fun x h'=>h'=h3∧x.1=decide ((b0=224∧¬R7 (s.size-pos) 1 (s.get! (pos+1)).toNat 160 191)∨(b0=237∧¬R7 (s.size-pos) 1 (s.get! (pos+1)).toNat 128 159))) ?_ ?_
  ·by_cases g1:b0=224
   ·subst g1
    by_cases g2:R7 (s.size-pos) 1 (s.get! (pos+1)).toNat 160 191<;>simp[g2]
   ·have e1:¬(b0:Int)=224:=by omega
    by_cases g3:b0=237
    ·subst g3
     simp
    ·have e3:¬(b0:Int)=237:=by omega
     simp[g1,g3,e1,e3]
  rintro⟨x,⟨⟩⟩ h4 ⟨rfl,hx⟩
  simp only at hx
  subst hx
  (try dsimp only);rw[N6]
  by_cases c4:(b0=224∧¬R7 (s.size-pos) 1 (s.get! (pos+1)).toNat 160 191)∨(b0=237∧¬R7 (s.size-pos) 1 (s.get! (pos+1)).toNat 128 159)
  ·rw[if_pos (by simp only[c4,decide_true])]
   rw[if_pos c4] at hq
   exact hq
  ·rw[if_neg (by simp only[c4,decide_false,F4,not_false_eq_true])]
   rw[if_neg c4] at hq
   exact hq
 rw[if_neg (by simpa using c3)]
 rw[if_neg c3] at hq
 refine N8 (fun x h'=>h'=h3∧x.1=decide (240≤b0∧b0≤244∧R7 (s.size-pos) 1 (s.get! (pos+1)).toNat 128 191∧R7 (s.size-pos) 2 (s.get! (pos+2)).toNat 128 191∧R7 (s.size-pos) 3 (s.get! (pos+3)).toNat 128 191)) ?_ ?_
 ·by_cases g1:240≤b0
  ·have e1:(240:Int)≤b0:=by omega
   by_cases g2:b0≤244
   ·have e2:(b0:Int)≤244:=by omega
    by_cases g3:R7 (s.size-pos) 1 (s.get! (pos+1)).toNat 128 191<;>by_cases g4:R7 (s.size-pos) 2 (s.get! (pos+2)).toNat 128 191<;>simp[g1,g2,e1,e2,g3,g4]
   ·have e2:¬(b0:Int)≤244:=by omega
    simp[g1,g2,e1,e2]
  ·have e1:¬(240:Int)≤b0:=by omega
   simp[g1,e1]
 rintro⟨x,⟨⟩⟩ h4 ⟨rfl,hx⟩
 simp only at hx
 subst hx
 (try dsimp only);rw[N6]
 by_cases c5:240≤b0∧b0≤244∧R7 (s.size-pos) 1 (s.get! (pos+1)).toNat 128 191∧R7 (s.size-pos) 2 (s.get! (pos+2)).toNat 128 191∧R7 (s.size-pos) 3 (s.get! (pos+3)).toNat 128 191
 ·rw[if_pos (by simpa using c5)]
  rw[if_pos c5] at hq
  refine N3 (tl 1 144 191 (by decide) (by decide) (by decide) ⟨_,rfl,?_⟩)
  refine N3 (tl 1 128 143 (by decide) (by decide) (by decide) ⟨_,rfl,?_⟩)
  dsimp only
  refine N8 (fun x h'=>h'=h4∧x.1=decide ((b0=240∧¬R7 (s.size-pos) 1 (s.get! (pos+1)).toNat 144 191)∨(b0=244∧¬R7 (s.size-pos) 1 (s.get! (pos+1)).toNat 128 143))) ?_ ?_
  ·by_cases g1:b0=240
   ·subst g1
    by_cases g2:R7 (s.size-pos) 1 (s.get! (pos+1)).toNat 144 191<;>simp[g2]
   ·have e1:¬(b0:Int)=240:=by omega
    by_cases g3:b0=244
    ·subst g3
     simp
    ·have e3:¬(b0:Int)=244:=by omega
     simp[g1,g3,e1,e3]
  rintro⟨x,⟨⟩⟩ h5 ⟨rfl,hx⟩
  simp only at hx
  subst hx
  (try dsimp only);rw[N6]
  by_cases c6:(b0=240∧¬R7 (s.size-pos) 1 (s.get! (pos+1)).toNat 144 191)∨(b0=244∧¬R7 (s.size-pos) 1 (s.get! (pos+1)).toNat 128 143)
  ·rw[if_pos (by simp only[c6,decide_true])]
   rw[if_pos c6] at hq
   exact hq
  ·rw[if_neg (by simp only[c6,decide_false,F4,not_false_eq_true])]
   rw[if_neg c6] at hq
   exact hq
 rw[if_neg (by simpa using c5)]
 rw[if_neg c5] at hq
 exact hq
theorem A6W(hs:sat h R)(s:B1q)(ao:s.size≤9223372036854775800){Q:Value→Heap→Prop}(hq:Q (B2n (W9 s)) h):
  N9 prog 241 #[.string s] h Q:=by
 refine A4X s h Q ?_
 delta A6U bn ci ie pu vi wi
 rw[N2]
 refine Y0 (γ:=Nat×Nat) (fun g c h'=>c.1=(g.2:Int)∧g.2≤s.size∧s.size-g.2<g.1∧A3y s g.1 g.2=W9 s∧h'=h) (fun g=>g.1) (s.size+1,0) ⟨rfl,E9 _,by simp,rfl,rfl⟩ ?_
 rintro⟨f,at'⟩ ⟨c,⟨⟩⟩ h1 ⟨hc,hle,hf,hg,rfl⟩
 simp only at hc hle hf hg
 subst hc
 cases f with
 |zero=>omega
 |succ f=>
 simp only[A3y] at hg
 (try dsimp only);rw[N6]
 by_cases af:at'<s.size
 ·rw[if_pos af] at hg
  rw[if_pos (by simp only[decide_eq_true_eq];omega)]
  refine N3 (B7z ao af ⟨((m0 (s.extract at' s.size):Nat):Int),rfl,?_⟩)
  have hn:=A9a (s.extract at' s.size)
  generalize m0 (s.extract at' s.size)=n at hg hn⊢
  have fo:(s.extract at' s.size).size=s.size-at':=by simp
  rw[fo] at hn
  (try dsimp only);rw[N6]
  by_cases h0:n=0
  ·rw[if_pos h0] at hg
   rw[←hg] at hq
   rw[if_pos (by simp[h0])]
   simp only[C0,C5,N1]
   exact hq
  ·rw[if_neg h0] at hg
   rw[if_neg (by simp[h0])]
   simp only[C0,C5,N1]
   exact .mk (f,at'+n) (by simp) ⟨by simp only[];rw[O8 (by omega) (by omega)];rfl,by simp only[];omega,by simp only[];omega,hg,rfl⟩
 ·rw[if_neg af] at hg
  rw[←hg] at hq
  rw[if_neg (by simp only[decide_eq_true_eq];omega)]
  simp only[C0,C5,N1]
  exact hq
end
open Go.H Go.Proofs Go.Lib
theorem A7c(c:UInt8):∀(x r:List UInt8),c∉x→indexByte (x++c::r) c=x.length
 |[],r,_=>by simp[indexByte]
 |b::x,r,h=>by
  simp only[B9,not_or] at h
  have hb:(b==c)=false:=by simpa using fun e=>h.1 e.symm
  have ih:=A7c c x r h.2
  simp only[G3,indexByte,hb,ih]
  have:¬(((x.length:Nat):Int)== -1)=true:=by simp
  simp only[F4,if_false,if_neg this,D8]
  omega
theorem A5j(c:UInt8):∀(x:List UInt8),c∉x→indexByte x c= -1
 |[],_=>rfl
 |b::x,h=>by
  simp only[B9,not_or] at h
  have hb:(b==c)=false:=by simpa using fun e=>h.1 e.symm
  simp[indexByte,hb,A5j c x h.2]
theorem C0A(c:UInt8)(x r:List UInt8)(h:c∉x):index (x++c::r) [c]=x.length:=by rw[index_one];exact A7c c x r h
theorem B8k(c:UInt8)(x:List UInt8)(h:c∉x):index x [c]= -1:=by rw[index_one];exact A5j c x h
theorem B28(c:UInt8)(x r:List UInt8)(k:Nat)(h:c∉x):splitK [c] 0 (k+1) (x++c::r)=x::splitK [c] 0 k r:=by
 have hi:=C0A c x r h
 have hn:¬(index (x++c::r) [c]== -1)=true:=by rw[hi];simp
 simp only[splitK,if_neg hn,hi]
 congr 1
 all_goals simp
theorem B1Q(c:UInt8)(x:List UInt8)(k:Nat)(h:c∉x):splitK [c] 0 k x=[x]:=by
 cases k with
 |zero=>rfl
 |succ k=>simp[splitK,B8k c x h]
theorem B34(c:UInt8)(x r:List UInt8)(h:c∉x):count (x++c::r) [c]=1+count r [c]:=by
 rw[count_hit (by simp) (C0A c x r h)]
 simp
theorem B2x(c:UInt8)(x:List UInt8)(h:c∉x):count x [c]=0:=count_miss (B8k c x h)
def lev(c:UInt8):List UInt8→List UInt8→List (List UInt8)
 |x,[]=>[x]
 |x,b::r=>if b=c then x::lev c [] r else lev c (x++[b]) r
theorem A3r(c:UInt8):∀(r x:List UInt8),c∉x→splitK [c] 0 (count (x++r) [c]) (x++r)=lev c x r
 |[],x,h=>by
  rw[I3,B2x c x h,B1Q c x _ h]
  rfl
 |b::r,x,h=>by
  by_cases hb:b=c
  ·subst hb
   rw[B34 b x r h,Nat.add_comm,B28 b x r _ h]
   have ih:=A3r b r [] (by simp)
   rw[G2] at ih
   rw[ih]
   simp[lev]
  ·have ih:=A3r c r (x++[b]) (by simp[h,Ne.symm hb])
   rw[F1] at ih
   simp only[lev,if_neg hb]
   exact ih
theorem B2a(c:UInt8):∀(r x:List UInt8),(lev c x r).length=r.count c+1
 |[],x=>rfl
 |b::r,x=>by
  by_cases hb:b=c
  ·subst hb
   simp only[lev,if_pos,D8,List.count_cons_self,B2a b r []]
  ·simp only[lev,if_neg hb,B2a c r (x++[b]),List.count_cons_of_ne hb]
theorem data_inj{x y:B1q}(h:x.data.toList=y.data.toList):x=y:=by
 cases x;cases y
 simp at h
 rw[h]
theorem A48:∀{xs ys:List B1q},xs.map (·.data.toList)=ys.map (·.data.toList)→xs=ys
 |[],[],_=>rfl
 |[],_::_,h=>by simp at h
 |_::_,[],h=>by simp at h
 |x::xs,y::ys,h=>by
  simp only[B6,J6] at h
  rw[data_inj h.1,A48 h.2]
def hasB(c:UInt8)(s:B1q):Bool:=decide (c∈s.data.toList)
theorem B1c(c:UInt8):∀l:List UInt8,0≤indexByte l c↔c∈l
 |[]=>by simp[indexByte]
 |b::l=>by
  by_cases hb:b=c
  ·subst hb
   simp[indexByte]
  ·have ih:=B1c c l
   have gO:(b==c)=false:=by simpa using hb
   have iS:=indexByte_ge l c
   simp only[indexByte,gO,F4,if_false,B9,Ne.symm hb,false_or]
   rw[←ih]
   by_cases h1:indexByte l c= -1
   ·simp[h1]
   ·have h2:¬(indexByte l c== -1)=true:=by simpa using h1
    rw[if_neg h2]
    omega
theorem B1d(c:UInt8)(s:B1q):decide (0≤indexByte s.data.toList c)=hasB c s:=by
 unfold hasB
 simp only[B1c]
open Go.H Go.Proofs Go.Lib
def B0C:B1q:=ByteArray.mk #[47]
def levels(s:B1q):List B1q:=splitB B0C 0 (countB s B0C) s
theorem A2z(s:B1q):(levels s).map (·.data.toList)=lev 47 [] s.data.toList:=by
 unfold levels
 rw[splitB_data]
 exact A3r 47 s.data.toList [] (by simp)
theorem B5d(s:B1q):(levels s).length=s.data.toList.count 47+1:=by
 have:=congrArg List.length (A2z s)
 rw[C9,B2a] at this
 exact this
theorem B5e(c:UInt8):∀(r x:List UInt8),∀y∈lev c x r,y.length≤x.length+r.length
 |[],x,y,h=>by rw[B4.1 h];simp
 |b::r,x,y,h=>by
  unfold lev at h
  split at h
  ·rcases B9.1 h with rfl|h
   ·simp
   ·have:=B5e c r [] y h
    simp at this⊢
    omega
  ·have:=B5e c r (x++[b]) y h
   simp at this⊢
   omega
theorem B6Z{s x:B1q}(h:x∈levels s):x.size≤s.size:=by
 have h1:x.data.toList∈lev 47 [] s.data.toList:=by rw[←A2z];exact D6 h
 have:=B5e 47 _ _ _ h1
 simp only[L9,F5,F2] at this
 exact this
def B3v:B1q:=ByteArray.mk #[43]
def A7d:B1q:=ByteArray.mk #[35]
def V7(s:B1q):Bool:=(W9 s).isNone&&decide (s.size≠0)&&decide (s.size≤256)&&decide ((levels s).length≤32)
def Y7(s:B1q):Bool:=V7 s&& !hasB 43 s&& !hasB 35 s
def A3W:List B1q→Bool
 |[]=>true
 |x::r=>(if hasB 35 x then(r.isEmpty&&decide (x.size≤1)) else(!hasB 43 x||decide (x.size≤1)))&&A3W r
def S6(s:B1q):Bool:=V7 s&&A3W (levels s)
theorem A4b{s:B1q}:V7 s=true↔W9 s=none∧s.size≠0∧s.size≤256∧(levels s).length≤32:=by
 unfold V7
 simp[Option.isNone_iff_eq_none,and_assoc]
theorem A3i{s:B1q}(h:V7 s=true):s.size≤256:=(A4b.1 h).2.2.1
theorem B15{s:B1q}(h:Y7 s=true):V7 s=true:=by
 unfold Y7 at h
 simp only[E8] at h
 exact h.1.1
theorem A9r{s:B1q}(h:S6 s=true):V7 s=true:=by
 unfold S6 at h
 simp only[E8] at h
 exact h.1
theorem B6a{c:UInt8}{x:B1q}(h:hasB c x=true):x.size≤1↔x=ByteArray.mk #[c]:=by
 unfold hasB at h
 rw[decide_eq_true_eq] at h
 constructor
 ·intro h1
  refine data_inj ?_
  have hl:x.data.toList.length≤1:=by rw[F2];exact h1
  generalize x.data.toList=l at h hl
  match l,h,hl with
  |[b],h,_=>rw[B4.1 h]
  |_::_::_,_,hl=>simp at hl
 ·rintro rfl
  exact B5 1
def B5f(x:B1q)(last:Bool):Bool:=(hasB 43 x&&decide (x≠B3v))||(hasB 35 x&&(decide (x≠A7d)|| !last))
theorem B5o(x:B1q)(r:List B1q):A3W (x::r)=(!B5f x r.isEmpty&&A3W r):=by
 unfold B5f
 rw[A3W]
 congr 1
 by_cases dV:hasB 35 x=true
 ·rw[if_pos dV,dV]
  by_cases hx:x=A7d
  ·subst hx
   have:hasB 43 A7d=false:=rfl
   rw[this]
   cases r.isEmpty<;>rfl
  ·have hs:¬x.size≤1:=fun h=>hx ((B6a dV).1 h)
   simp[hs,hx]
 ·rw[if_neg dV]
  simp only[Bool.not_eq_true] at dV
  rw[dV]
  by_cases eh:hasB 43 x=true
  ·rw[eh]
   by_cases hx:x=B3v
   ·subst hx
    rfl
   ·have hs:¬x.size≤1:=fun h=>hx ((B6a eh).1 h)
    simp[hs,hx]
  ·simp only[Bool.not_eq_true] at eh
   rw[eh]
   rfl
open Go.Proofs Go.Shelf
def B5u:Go.Shelf.Ren:=⟨fun n=>match n with|138=>328|195=>396|218=>397|143=>330|219=>399|217=>432|225=>433|224=>434|267=>435|266=>466|314=>467|n=>n,fun n=>match n with|9=>9|3=>3|4=>4|5=>5|0=>0|46=>180|146=>617|51=>495|n=>n,fun n=>match n with|1=>1|n=>n⟩
theorem B8Q:Lays.n138 prog B5u where
 mixed:=by kernel_rfl
 f138:=func328.trans (congrArg some (by kernel_rfl))
 f143:=func330.trans (congrArg some (by kernel_rfl))
 f195:=func396.trans (congrArg some (by kernel_rfl))
 f217:=func432.trans (congrArg some (by kernel_rfl))
 f218:=func397.trans (congrArg some (by kernel_rfl))
 f219:=func399.trans (congrArg some (by kernel_rfl))
 f224:=func434.trans (congrArg some (by kernel_rfl))
 f225:=func433.trans (congrArg some (by kernel_rfl))
 f266:=func466.trans (congrArg some (by kernel_rfl))
 f267:=func435.trans (congrArg some (by kernel_rfl))
 f314:=func467.trans (congrArg some (by kernel_rfl))
 t0:=underlying0
 a0:=isAgg0
 z0:=sizeOf0
 v0:=zeroValue0
 t3:=underlying3
 a3:=isAgg3
 z3:=sizeOf3
 v3:=zeroValue3
 t4:=underlying4
 a4:=isAgg4
 z4:=sizeOf4
 v4:=zeroValue4
 t5:=underlying5
 a5:=isAgg5
 z5:=sizeOf5
 v5:=zeroValue5
 t9:=underlying9
 a9:=isAgg9
 z9:=sizeOf9
 v9:=zeroValue9
 t46:=underlying180
 a46:=isAgg180
 z46:=sizeOf180
 v46:=zeroValue180
 t51:=underlying495
 a51:=isAgg495
 z51:=sizeOf495
 v51:=zeroValue495
 t146:=underlying617
 a146:=isAgg617
 z146:=sizeOf617
 v146:=zeroValue617
 g1:=by kernel_rfl
def B7i:Go.Shelf.Ren:=⟨fun n=>match n with|144=>245|143=>330|219=>399|217=>432|225=>433|224=>434|267=>435|266=>466|314=>467|n=>n,fun n=>match n with|9=>9|4=>4|3=>3|5=>5|46=>180|146=>617|51=>495|n=>n,fun n=>match n with|1=>1|n=>n⟩
theorem C0E:Lays.n144 prog B7i where
 mixed:=by kernel_rfl
 f143:=func330.trans (congrArg some (by kernel_rfl))
 f144:=func245.trans (congrArg some (by kernel_rfl))
 f217:=func432.trans (congrArg some (by kernel_rfl))
 f219:=func399.trans (congrArg some (by kernel_rfl))
 f224:=func434.trans (congrArg some (by kernel_rfl))
 f225:=func433.trans (congrArg some (by kernel_rfl))
 f266:=func466.trans (congrArg some (by kernel_rfl))
 f267:=func435.trans (congrArg some (by kernel_rfl))
 f314:=func467.trans (congrArg some (by kernel_rfl))
 t3:=underlying3
 a3:=isAgg3
 z3:=sizeOf3
 v3:=zeroValue3
 t4:=underlying4
 a4:=isAgg4
 z4:=sizeOf4
 v4:=zeroValue4
 t5:=underlying5
 a5:=isAgg5
 z5:=sizeOf5
 v5:=zeroValue5
 t9:=underlying9
 a9:=isAgg9
 z9:=sizeOf9
 v9:=zeroValue9
 t46:=underlying180
 a46:=isAgg180
 z46:=sizeOf180
 v46:=zeroValue180
 t51:=underlying495
 a51:=isAgg495
 z51:=sizeOf495
 v51:=zeroValue495
 t146:=underlying617
 a146:=isAgg617
 z146:=sizeOf617
 v146:=zeroValue617
 g1:=by kernel_rfl
def A1z:Go.Shelf.Ren:=⟨fun n=>match n with|146=>329|221=>398|268=>431|138=>328|143=>330|195=>396|197=>430|218=>397|219=>399|260=>465|217=>432|225=>433|224=>434|267=>435|266=>466|314=>467|n=>n,fun n=>match n with|9=>9|31=>26|3=>3|4=>4|0=>0|105=>588|21=>21|5=>5|46=>180|119=>635|139=>638|138=>637|146=>617|51=>495|n=>n,fun n=>match n with|1=>1|3=>5|4=>6|n=>n⟩
theorem B71:Lays.n146 prog A1z where
 mixed:=by kernel_rfl
 f138:=func328.trans (congrArg some (by kernel_rfl))
 f143:=func330.trans (congrArg some (by kernel_rfl))
 f146:=func329.trans (congrArg some (by kernel_rfl))
 f195:=func396.trans (congrArg some (by kernel_rfl))
 f197:=func430.trans (congrArg some (by kernel_rfl))
 f217:=func432.trans (congrArg some (by kernel_rfl))
 f218:=func397.trans (congrArg some (by kernel_rfl))
 f219:=func399.trans (congrArg some (by kernel_rfl))
 f221:=func398.trans (congrArg some (by kernel_rfl))
 f224:=func434.trans (congrArg some (by kernel_rfl))
 f225:=func433.trans (congrArg some (by kernel_rfl))
 f260:=func465.trans (congrArg some (by kernel_rfl))
 f266:=func466.trans (congrArg some (by kernel_rfl))
 f267:=func435.trans (congrArg some (by kernel_rfl))
 f268:=func431.trans (congrArg some (by kernel_rfl))
 f314:=func467.trans (congrArg some (by kernel_rfl))
 t0:=underlying0
 a0:=isAgg0
 z0:=sizeOf0
 v0:=zeroValue0
 t3:=underlying3
 a3:=isAgg3
 z3:=sizeOf3
 v3:=zeroValue3
 t4:=underlying4
 a4:=isAgg4
 z4:=sizeOf4
 v4:=zeroValue4
 t5:=underlying5
 a5:=isAgg5
 z5:=sizeOf5
 v5:=zeroValue5
 t9:=underlying9
 a9:=isAgg9
 z9:=sizeOf9
 v9:=zeroValue9
 t21:=underlying21
 a21:=isAgg21
 z21:=sizeOf21
 v21:=zeroValue21
 t31:=underlying26
 a31:=isAgg26
 z31:=sizeOf26
 v31:=zeroValue26
 t46:=underlying180
 a46:=isAgg180
 z46:=sizeOf180
 v46:=zeroValue180
 t51:=underlying495
 a51:=isAgg495
 z51:=sizeOf495
 v51:=zeroValue495
 t105:=underlying588
 a105:=isAgg588
 z105:=sizeOf588
 v105:=zeroValue588
 t119:=underlying635
 a119:=isAgg635
 z119:=sizeOf635
 t138:=underlying637
 a138:=isAgg637
 z138:=sizeOf637
 v138:=zeroValue637
 t139:=underlying638
 a139:=isAgg638
 z139:=sizeOf638
 v139:=zeroValue638
 t146:=underlying617
 a146:=isAgg617
 z146:=sizeOf617
 v146:=zeroValue617
 g1:=by kernel_rfl
 g3:=by kernel_rfl
 g4:=by kernel_rfl
end Go.Proofs.YtmpgankhnfpoaaaGreatDoor
namespace Go.H
open Go.RowKit Go.Maps Go.Sort Go.Shelf Go.Proofs
theorem A4v{w w':World}(hb:Below w.heap.size w w'):∀(k:Nat) o,w.heap[k]? =some o→w'.heap[k]? =some o:=fun k o ho=>by
 have hk:=(B3.1 ho).1
 rw[hb.block k hk];exact ho
theorem A1V{B:Nat}{w w':World}(hb:Below B w w'):Q7 w w':=⟨hb.os,hb.tape,hb.output⟩
theorem A4j{α:Type}{enc:α→C3E}{size base:Nat}{T:TypeId}{w':World}{v:Value}{n:Nat}{xs:List α}{h:Heap}{R:List Asn}
  (hr:w'.ownsRow base T size v n (xs.flatMap enc))(hn:n=xs.length)(hs:sat h R)(hg:∀(k:Nat) o,h[k]? =some o→w'.heap[k]? =some o)(hb:h.size≤base):
  ∃s:Slc,v=.slice s.a s.len s.cap∧sat w'.heap (N4 enc size s xs::R):=by
 obtain⟨h1,⟨rfl,h2⟩|⟨g,cap,cur,rfl,h3,h4,h5,h6,h7,h8⟩⟩:=hr
 ·have hx:xs=[]:=H9 (by omega)
  subst hx
  exact⟨⟨none,0,0⟩,rfl,A0z (hs.grow hg)⟩
 ·exact⟨⟨some ⟨g,0,none⟩,n,cap⟩,rfl,W8 (o:=0) ⟨by simp,h5,hn,by simp only[F5];exact Nat.le_of_eq h7.symm,by simpa using h8⟩ (hs.cP hg (by omega) h4)⟩
section
open Go.RowKit Go.Maps Go.Sort Go.Shelf Go.Proofs
abbrev eI(x:Int):C3E:=[.int .i64 x]
def A8K(l:List Int):List Int:=l.mergeSort fun x y=>decide (x≤y)
section
variable {P:Program} {ρk ρs ρt:Ren} {V:Type} {ev:V→Value} {h:Heap} {R:List Asn}
theorem C0Y(T:SlLaysM.n5 P ρt)(he:ρt.f 5=ρs.f 9)(m:Nat):AnyZI.SortsIn P ρs Fence.wide m:=by
 refine⟨fun blk off cap ss W hH iC ao=>?_,fun p cap W=>?_⟩
 ·rw[←he];exact callsIn_wide.2 (AnyM.slices_Sort_int T blk off cap ss W hH iC ao)
 ·rw[←he];exact callsIn_wide.2 (AnyM.slices_Sort_int_none T p cap W)
theorem B3y{H:Type}{w:World}{b:Nat}{l:List (Int×V)}{k:TypeId}(hk:P.underlying k=some (.int .i64))(hs:sat w.heap (mapA (fun n:Int=>.int .i64 n) ev b l::R))
  (hw:∀p∈l,(Lit.int .i64 p.1).wf=true)(hl:l.length≤maxLen):
  ∃D0:DataW H,w.ownsMap P k (fun _=>some (.nil,[])) b l.length D0∧Maps.size D0=l.length∧(intKeys D0).Perm (l.map (·.1)):=by
 obtain⟨es,c,⟨he,aM⟩,hs⟩:=T7.1 hs
 have ao:es.size=l.length:=by
  have:=congrArg List.length he
  simpa using this
 have dE:es.toList.map (·.key)=l.map (fun p=>Value.int .i64 p.1):=by
  have:=congrArg (List.map Prod.fst) he
  simpa[G5] using this
 have fM:∀x∈es.toList,∃p∈l,x.key=.int .i64 p.1∧WideElems.rd (H:=H) P k (fun _=>some (.nil,[])) x=some (.int .i64 p.1,.nil):=by
  intro x hx
  have hm:x.key∈l.map (fun p=>Value.int .i64 p.1):=by rw[←dE];exact D6 hx
  obtain⟨p,hp,e⟩:=H8.1 hm
  exact⟨p,hp,e.symm,by simp[WideElems.rd,←e,keyOf,hk,mapKey,hw p hp]⟩
 have hG:es.toList.map (WideElems.rg (H:=H) P k (fun _=>some (.nil,[])))=l.map (fun p=>((Lit.int .i64 p.1,DataW.nil):Lit×DataW H)):=by
  have e1:es.toList.map (WideElems.rg (H:=H) P k (fun _=>some (.nil,[])))=(es.toList.map (·.key)).map (fun v=>(match v with|.int q n=>Lit.int q n|_=>.bool false,DataW.nil)):=by
   rw[F6]
   refine K0 fun x hx=>?_
   obtain⟨p,hp,h1,h2⟩:=fM x hx
   simp[WideElems.rg,h2,h1]
  rw[e1,dE,F6]
  rfl
 refine⟨_,⟨es,c,hs.get,⟨by omega,aM,fun x hx=>?_⟩,by omega,rfl⟩,?_,?_⟩
 ·obtain⟨p,_,_,h2⟩:=fM x hx
  exact⟨_,h2⟩
 ·rw[hG,Maps.size_eq,length_sorted,C9]
 ·rw[hG]
  show(List.map _ _).Perm _
  refine((WideShapes.sorted_perm _).map _).trans ?_
  rw[F6]
  exact J0 _
theorem B1T(K:SlLaysZI.n7 P ρk)(S:SlLaysZI.n6 P ρs)(T:SlLaysM.n5 P ρt)(he:ρt.f 5=ρs.f 9)(e9:∀args w,(callFunc (ρs.f 9) args).run P w=.ok (.enter (ρs.f 9) args) w)
  (eg:∀args w,(callFunc (ρk.f 10) args).run P w=.ok (.enter (ρk.f 10) args) w){b bm:Nat}{l:List (Int×V)}
  (hs:sat h (mapA (fun n:Int=>.int .i64 n) ev b l::R))(hw:∀p∈l,(Lit.int .i64 p.1).wf=true)(hl:l.length*8≤140737488355328)(hc:O5 h ⟨bm,0,none⟩=some (.map (some b))){Q:Value→Heap→Prop}
  (hq:∀(s:Slc) h',sat h' (N4 eI 1 s (A8K (l.map (·.1)))::mapA (fun n:Int=>.int .i64 n) ev b l::R)→Q (.slice s.a s.len s.cap) h'):
  N9 P (ρs.f 6) #[.func (.func (ρk.f 10)) #[] #[.pointer (some ⟨bm,0,none⟩)]] h Q:=fun w dr=>by
 subst dr
 have K':SlLaysZI.n10 P ρk:={K with}
 have dy:l.length≤maxLen:=by unfold maxLen;omega
 obtain⟨D0,hZ,ao,fx⟩:=B3y (H:=Unit) K'.t26 hs hw dy
 have jZ:bm<w.heap.size:=by
  unfold O5 at hc
  cases hx:w.heap[bm]? with
  |none=>simp[hx] at hc
  |some o=>exact(B3.1 hx).1
 have dX:SeqGives Fence.wide 2 P (ρk.f 10) #[.pointer (some ⟨bm,0,none⟩)] encZ (fun ss=>ss.Perm (intKeys D0)) (Maps.size D0) w:=
  AnyZI.keys_gives K' Fence.wide _ trivial rfl (by omega) bm b l.length D0 w jZ hc hZ
 have cS:=AnyZI.sorted_in S Fence.wide 5 trivial trivial trivial trivial rfl (by omega) (C0Y T he _) e9 (ρk.f 10) #[.pointer (some ⟨bm,0,none⟩)] trivial eg _ _ (by rw[ao];exact dy) (by rw[ao];exact hl) _ dX
 refine((callsIn_wide).1 cS).mono ?_
 rintro e w' ⟨v,ss,rfl,hS,av,ia,hb⟩
 have hp:ss.Perm (l.map (·.1)):=hS.trans fx
 have e1:(ss.mergeSort fun x y=>decide (x≤y))=A8K (l.map (·.1)):=mergeSort_of_perm_i hp
 rw[e1] at av
 have e2:(A8K (l.map (·.1))).map encZ=(A8K (l.map (·.1))).flatMap eI:=by
  induction A8K (l.map (·.1)) with
  |nil=>rfl
  |cons a l ih=>rw[B6,ih];rfl
 rw[e2] at av
 obtain⟨s,rfl,ah⟩:=A4j av (by simp[A8K,List.length_mergeSort,hp.length_eq]) hs (A4v hb) (B5 _)
 exact⟨_,rfl,A1V hb,hq s _ ah⟩
end
end
section
open Go.RowKit Go.Maps Go.Sort Go.Shelf Go.Proofs
def ofL(x:List UInt8):B1q:=⟨x.toArray⟩
def A8H(l:List B1q):List B1q:=((l.map (·.data.toList)).mergeSort fun x y=>decide (x≤y)).map ofL
theorem B8h(x:B1q):ofL x.data.toList=x:=rfl
section
variable {P:Program} {ρk ρs ρt:Ren} {V:Type} {ev:V→Value} {h:Heap} {R:List Asn}
theorem C0X(T:SlLaysM.n6 P ρt)(he:ρt.f 6=ρs.f 9)(m:Nat):AnyZ.SortsIn P ρs Fence.wide m:=by
 refine⟨fun blk off cap ss W hH iC ao=>?_,fun p cap W=>?_⟩
 ·rw[←he];exact callsIn_wide.2 (AnyM.slices_Sort_string T blk off cap ss W hH iC ao)
 ·rw[←he];exact callsIn_wide.2 (AnyM.slices_Sort_string_none T p cap W)
theorem B1X{H:Type}{w:World}{b:Nat}{l:List (B1q×V)}{k:TypeId}(hk:P.underlying k=some .string)(hs:sat w.heap (mapA (fun n:B1q=>.string n) ev b l::R))
  (hw:∀p∈l,p.1.size≤maxLen)(hl:l.length≤maxLen):
  ∃D0:DataW H,w.ownsMap P k (fun _=>some (.nil,[])) b l.length D0∧Maps.size D0=l.length∧(strKeys D0).Perm (l.map (·.1.data.toList)):=by
 obtain⟨es,c,⟨he,aM⟩,hs⟩:=T7.1 hs
 have ao:es.size=l.length:=by
  have:=congrArg List.length he
  simpa using this
 have dE:es.toList.map (·.key)=l.map (fun p=>Value.string p.1):=by
  have:=congrArg (List.map Prod.fst) he
  simpa[G5] using this
 have fM:∀x∈es.toList,∃p∈l,x.key=.string p.1∧WideElems.rd (H:=H) P k (fun _=>some (.nil,[])) x=some (.string p.1.data.toList,.nil):=by
  intro x hx
  have hm:x.key∈l.map (fun p=>Value.string p.1):=by rw[←dE];exact D6 hx
  obtain⟨p,hp,e⟩:=H8.1 hm
  exact⟨p,hp,e.symm,by simp[WideElems.rd,←e,keyOf,hk,mapKey,hw p hp]⟩
 have hG:es.toList.map (WideElems.rg (H:=H) P k (fun _=>some (.nil,[])))=l.map (fun p=>((Lit.string p.1.data.toList,DataW.nil):Lit×DataW H)):=by
  have e1:es.toList.map (WideElems.rg (H:=H) P k (fun _=>some (.nil,[])))=(es.toList.map (·.key)).map (fun v=>(match v with|.string q=>Lit.string q.data.toList|_=>.bool false,DataW.nil)):=by
   rw[F6]
   refine K0 fun x hx=>?_
   obtain⟨p,hp,h1,h2⟩:=fM x hx
   simp[WideElems.rg,h2,h1]
  rw[e1,dE,F6]
  rfl
 refine⟨_,⟨es,c,hs.get,⟨by omega,aM,fun x hx=>?_⟩,by omega,rfl⟩,?_,?_⟩
 ·obtain⟨p,_,_,h2⟩:=fM x hx
  exact⟨_,h2⟩
 ·rw[hG,Maps.size_eq,length_sorted,C9]
 ·rw[hG]
  show(List.map _ _).Perm _
  refine((WideShapes.sorted_perm _).map _).trans ?_
  rw[F6]
  exact J0 _
theorem B1S(K:SlLaysZ.n7 P ρk)(S:SlLaysZ.n6 P ρs)(T:SlLaysM.n6 P ρt)(he:ρt.f 6=ρs.f 9)(e9:∀args w,(callFunc (ρs.f 9) args).run P w=.ok (.enter (ρs.f 9) args) w)
  (eg:∀args w,(callFunc (ρk.f 10) args).run P w=.ok (.enter (ρk.f 10) args) w){b bm:Nat}{l:List (B1q×V)}
  (hs:sat h (mapA (fun n:B1q=>.string n) ev b l::R))(hw:∀p∈l,p.1.size≤maxLen)(hl:l.length*16≤140737488355328)(hc:O5 h ⟨bm,0,none⟩=some (.map (some b))){Q:Value→Heap→Prop}
  (hq:∀(s:Slc) h',sat h' (N4 eS 1 s (A8H (l.map (·.1)))::mapA (fun n:B1q=>.string n) ev b l::R)→Q (.slice s.a s.len s.cap) h'):
  N9 P (ρs.f 6) #[.func (.func (ρk.f 10)) #[] #[.pointer (some ⟨bm,0,none⟩)]] h Q:=fun w dr=>by
 subst dr
 have K':SlLaysZ.n10 P ρk:={K with}
 have dy:l.length≤maxLen:=by unfold maxLen;omega
 obtain⟨D0,hZ,ao,fx⟩:=B1X (H:=Unit) K'.t26 hs hw dy
 have jZ:bm<w.heap.size:=by
  unfold O5 at hc
  cases hx:w.heap[bm]? with
  |none=>simp[hx] at hc
  |some o=>exact(B3.1 hx).1
 have dX:SeqGives Fence.wide 2 P (ρk.f 10) #[.pointer (some ⟨bm,0,none⟩)] encStr (fun ss=>ss.Perm (strKeys D0)) (Maps.size D0) w:=
  AnyZ.keys_gives K' Fence.wide _ trivial rfl (by omega) bm b l.length D0 w jZ hc hZ
 have cS:=AnyZ.sorted_in S Fence.wide 5 trivial trivial trivial trivial rfl (by omega) (C0X T he _) e9 (ρk.f 10) #[.pointer (some ⟨bm,0,none⟩)] trivial eg _ _ (by rw[ao];exact dy) (by rw[ao];exact hl) _ dX
 refine((callsIn_wide).1 cS).mono ?_
 rintro e w' ⟨v,ss,rfl,hS,av,ia,hb⟩
 have hp:ss.Perm (l.map (·.1.data.toList)):=hS.trans fx
 have e1:((ss.mergeSort fun x y=>decide (x≤y)).map ofL)=A8H (l.map (·.1)):=by
  unfold A8H
  rw[F6]
  exact congrArg (List.map ofL) (mergeSort_of_perm hp)
 have e2:(ss.mergeSort fun x y=>decide (x≤y)).map encStr=(A8H (l.map (·.1))).flatMap eS:=by
  rw[←e1]
  generalize(ss.mergeSort fun x y=>decide (x≤y))=t
  induction t with
  |nil=>rfl
  |cons a l ih=>rw[B6,ih];rfl
 rw[e2] at av
 obtain⟨s,rfl,ah⟩:=A4j av (by rw[←e1];simp[List.length_mergeSort]) hs (A4v hb) (B5 _)
 exact⟨_,rfl,A1V hb,hq s _ ah⟩
end
end
end Go.H
namespace Go.Proofs.YtmpgankhnfpoaaaGreatDoor
open Go.H
open Go.Proofs.Tryz
section
open Go.H Go.Proofs Go.Lib
structure TP(h0:Heap):Prop where
 u8:U8 h0
 maxl:∃m,O5 h0 ⟨1,0,none⟩=some (.int .i64 m)
theorem A2I:∀x:B1q,(eS x).length=1:=fun _=>rfl
theorem B6e:∀x:B1q,∀v∈eS x,v.oneCell'=true:=fun x v hv=>by rw[B4.1 hv];rfl
variable {h h0:Heap} {R:List Asn}
theorem B3B{b:Nat}{xs:List B1q}(hs:sat h (cells b (xs.map Value.string).toArray::R)):sat h (N4 eS 1 ⟨some ⟨b,0,none⟩,xs.length,xs.length⟩ xs::R):=by
 refine W8 (o:=0) ⟨rfl,B5 _,rfl,by simp,?_⟩ hs
 simp only[I1,K5,M0,List.toList_toArray]
 rw[D7 (by simp)]
 induction xs with
 |nil=>rfl
 |cons x xs ih=>
  rw[B6,D4]
  have:∀xs:List B1q,xs.map Value.string=xs.flatMap eS:=fun xs=>by
   induction xs with
   |nil=>rfl
   |cons y ys ih=>rw[B6,D4,ih];rfl
  rw[this xs]
  rfl
theorem B5I{s:B1q}{Q:Value→Heap→Prop}(hq:Q (.int .i64 ((s.data.toList.count 47:Nat):Int)) h):
  N9 prog 328 #[.string s,.string (ByteArray.mk #[47])] h Q:=fun w hw=>by
 subst hw
 refine(Any.strings_Count_one B8Q s 47 w).mono ?_
 rintro e w' ⟨rfl,rfl⟩
 exact⟨_,rfl,⟨rfl,rfl,rfl⟩,hq⟩
theorem R5{s:B1q}{c:UInt8}{Q:Value→Heap→Prop}(hq:Q (.bool (hasB c s)) h):
  N9 prog 245 #[.string s,.string (ByteArray.mk #[c])] h Q:=fun w hw=>by
 subst hw
 refine(Any.strings_Contains_one C0E s c w).mono ?_
 rintro e w' ⟨rfl,rfl⟩
 rw[B1d]
 exact⟨_,rfl,⟨rfl,rfl,rfl⟩,hq⟩
theorem B4i(hs:sat h (old h0::R))(ht:TP h0){s:B1q}(ao:s.size≤256){Q:Value→Heap→Prop}
  (hq:∀(sl:Slc) h',sat h' (N4 eS 1 sl (levels s)::old h0::R)→Q (.slice sl.a sl.len sl.cap) h'):
  N9 prog 244 #[.string s] h Q:=by
 refine A38 s h Q ?_
 delta A4I cc pu
 refine N3 (fun w hw=>?_)
 subst hw
 obtain⟨m,hm⟩:=ht.maxl
 refine(Any.strings_Split B71 (by kernel_rfl) s (ByteArray.mk #[47]) m w (by omega) (hs.aU hm) (by decide)).mono ?_
 rintro e w' ⟨rfl,rfl⟩
 have hl:(levels s).length=countB s B0C+1:=splitB_all B0C (by decide) 0 _ s rfl
 have:=hq ⟨some ⟨w.heap.size,0,none⟩,(levels s).length,(levels s).length⟩ _ (B3B (hs.aX (T:=A1z.t 9)))
 rw[hl] at this
 exact⟨_,rfl,⟨rfl,rfl,rfl⟩,⟨some ⟨w.heap.size,0,none⟩,countB s B0C+1,countB s B0C+1⟩,rfl,this⟩
theorem A8L(hs:sat h (old h0::R))(ht:TP h0){s:B1q}(ao:s.size≤9223372036854775807){Q:Value→Heap→Prop}
  (hq:∀h',sat h' (old h0::R)→Q (.bool (V7 s)) h'):N9 prog 243 #[.string s] h Q:=by
 refine A4H s h Q ?_
 delta A6F bn ci es ie pu
 refine Z1 (B5H hs ht.u8 s (by omega) fun h1 aa=>⟨(match W9 s with|some n=>((n:Int),true,())|none=>(0,false,())),by cases W9 s<;>rfl,?_⟩)
 refine N8 (fun x h'=>h'=h1∧x.1=V7 s) ?_ ?_
 ·(try dsimp only);rw[N6]
  cases hf:W9 s with
  |some n=>
   rw[if_neg (by simp)]
   exact⟨rfl,by simp[V7,hf]⟩
  |none=>
   rw[if_pos (by rfl),N6]
   have he:s=ByteArray.mk #[]↔s.size=0:=by
    constructor
    ·rintro rfl;rfl
    ·intro h0
     refine data_inj ?_
     have:s.data.toList.length=0:=by rw[F2];exact h0
     rw[List.length_eq_zero_iff.1 this]
   by_cases h0:s.size=0
   ·rw[if_neg (by simp[he.2 h0])]
    exact⟨rfl,by simp[V7,h0]⟩
   rw[if_pos (by simpa using fun e=>h0 (he.1 e)),N6]
   by_cases h1:s.size≤256
   ·rw[if_pos (by simp only[decide_eq_true_eq];omega)]
    refine N3 (B5I ⟨_,rfl,?_⟩)
    refine⟨rfl,?_⟩
    have e:V7 s=decide ((levels s).length≤32):=by simp[V7,hf,h0,h1]
    rw[e,B5d]
    simp only[I0]
    omega
   ·rw[if_neg (by simp only[decide_eq_true_eq];omega)]
    exact⟨rfl,by simp[V7,h1]⟩
 rintro⟨x,⟨⟩⟩ h2 ⟨rfl,rfl⟩
 exact hq _ aa
def B01(s:B1q):Int:=if Y7 s=true then 0 else 144
def A2E(s:B1q):Int:=if S6 s=true then 0 else 143
theorem A9W(hs:sat h (old h0::R))(ht:TP h0){s:B1q}(ao:s.size≤9223372036854775807){Q:Value→Heap→Prop}
  (hq:∀h',sat h' (old h0::R)→Q (.int .u8 (B01 s)) h'):N9 prog 215 #[.string s] h Q:=by
 refine A2h s h Q ?_
 delta A1Z bn cb ie pu
 refine N8 (fun x h'=>sat h' (old h0::R)∧x.1= !Y7 s) ?_ ?_
 ·refine N3 (A8L hs ht ao fun h1 aa=>⟨_,rfl,?_⟩)
  (try dsimp only);rw[N6]
  cases hz:V7 s with
  |false=>
   rw[if_pos (by rfl)]
   exact⟨aa,by simp[Y7,hz]⟩
  |true=>
   rw[if_neg (by simp)]
   refine N3 (R5 (c:=43) ⟨_,rfl,?_⟩)
   (try dsimp only);rw[N6]
   cases eh:hasB 43 s with
   |true=>
    rw[if_pos rfl]
    exact⟨aa,by simp[Y7,hz,eh]⟩
   |false=>
    rw[if_neg (by simp)]
    refine N3 (R5 (c:=35) ⟨_,rfl,?_⟩)
    exact⟨aa,by simp[Y7,hz,eh]⟩
 rintro⟨x,⟨⟩⟩ h1 ⟨aa,hx⟩
 simp only at hx
 subst hx
 have:=hq _ aa
 unfold B01 at this
 (try dsimp only);rw[N6]
 cases hn:Y7 s with
 |true=>rw[hn,if_pos rfl] at this;rw[if_neg (by simp)];exact this
 |false=>rw[hn,if_neg (by simp)] at this;rw[if_pos (by rfl)];exact this
theorem B3S{l:List B1q}{i:Nat}{x:B1q}(hx:l[i]? =some x):l.drop i=x::l.drop (i+1):=by
 obtain⟨hi,rfl⟩:=C4.1 hx
 exact List.drop_eq_getElem_cons hi
theorem A1r(hs:sat h (old h0::R))(ht:TP h0){s:B1q}(ao:s.size≤9223372036854775807){Q:Value→Heap→Prop}
  (hq:∀h',sat h' (old h0::R)→Q (.int .u8 (A2E s)) h'):N9 prog 177 #[.string s] h Q:=by
 refine A05 s h Q ?_
 delta A0J bn cb cc ie ix lt pu wi
 refine N3 (A8L hs ht ao fun h1 aa=>⟨_,rfl,?_⟩)
 (try dsimp only);rw[N6]
 unfold A2E S6 at hq
 cases hz:V7 s with
 |false=>
  rw[hz] at hq
  rw[if_pos (by rfl)]
  exact hq _ aa
 |true=>
 rw[hz,F0] at hq
 rw[if_neg (by simp)]
 have hle:=A3i hz
 refine N3 (B4i aa ht hle fun sl h2 ai=>⟨sl,rfl,?_⟩)
 have hlen:=ai.own_len
 have av:=ai.aI A2I
 have hn:(levels s).length≤32:=(A4b.1 hz).2.2.2
 generalize levels s=l at hlen av hn hq
 have aY:=ai.drop
 clear ai
 (try dsimp only);rw[N2]
 refine Y0 (γ:=Nat) (fun g c h'=>h'=h2∧c.1=(((l.length-g:Nat)):Int)∧g≤l.length∧A3W l=A3W (l.drop (l.length-g))) (fun g=>g) l.length ⟨rfl,by simp,B5 _,by simp⟩ ?_
 rintro g ⟨c,⟨⟩⟩ h' ⟨rfl,hc,hg,hf⟩
 simp only at hc
 subst hc
 (try dsimp only);rw[N6]
 by_cases af:l.length-g<l.length
 ·rw[if_pos (by simp only[decide_eq_true_eq,hlen];omega)]
  obtain⟨x,hx⟩:∃x,l[l.length-g]? =some x:=⟨_,B2 af⟩
  have hd:=B3S hx
  rw[hd] at hf
  (try dsimp only);rw[N2]
  refine A0U av hx fun a ha=>?_
  refine⟨x,by have:=ha 0 (.string x) rfl;rwa[Go.H.add_zero] at this,?_⟩
  simp only[A3W] at hf
  have cz:(l.drop (l.length-g+1)).isEmpty=decide (l.length-g+1=l.length):=by
   by_cases he:l.length-g+1=l.length
   ·rw[he];simp
   ·have:l.drop (l.length-g+1)≠[]:=by simp;omega
    cases hh:l.drop (l.length-g+1) with
    |nil=>exact absurd hh this
    |cons=>simp[he]
  rw[cz] at hf
  have hw:IntKind.wrap .i64 ((sl.len:Int)-1)=(l.length:Int)-1:=by rw[hlen];exact O8 (by omega) (by omega)
  have jh:IntKind.wrap .i64 (((l.length-g:Nat):Int)+1)=((l.length-(g-1):Nat):Int):=by rw[O8 (by omega) (by omega)];omega
  have dx:l.length-g+1=l.length-(g-1):=by omega
  rw[dx] at hf
  rw[hw,jh]
  by_cases dV:hasB 35 x=true
  ·rw[if_pos dV] at hf
   by_cases gL:l.length-(g-1)=l.length
   ·by_cases h1:x.size≤1
    ·rw[decide_eq_true gL,decide_eq_true h1,F0,F0] at hf
     refine N8 (fun z aw=>aw=h'∧z=.inl ()) ?_ ?_
     ·refine N8 (fun z aw=>aw=h'∧z=.inl ()) ?_ ?_
      ·refine N8 (fun z aw=>aw=h'∧z=.inl ()) ?_ ?_
       ·refine N3 (R5 (c:=35) ⟨_,rfl,?_⟩)
        (try dsimp only);rw[N6,if_pos dV]
        exact⟨rfl,rfl⟩
       rintro z aw ⟨rfl,rfl⟩
       simp only[C0]
       (try dsimp only);rw[N6,if_neg (by simp only[decide_eq_true_eq];omega)]
       exact⟨rfl,rfl⟩
      rintro z aw ⟨rfl,rfl⟩
      simp only[C0]
      (try dsimp only);rw[N6,if_neg (by simp only[decide_eq_true_eq];omega)]
      exact⟨rfl,rfl⟩
     rintro z aw ⟨rfl,rfl⟩
     simp only[C0,C5,N1]
     exact .mk (g-1) (by omega) ⟨rfl,rfl,by omega,hf⟩
    ·rw[decide_eq_false h1,Bool.and_false,F8] at hf
     rw[hf,if_neg (by simp)] at hq
     refine N8 (fun z aw=>aw=h'∧z=.inr (.inr (.inr (143,())))) ?_ ?_
     ·refine N8 (fun z aw=>aw=h'∧z=.inl ()) ?_ ?_
      ·refine N8 (fun z aw=>aw=h'∧z=.inl ()) ?_ ?_
       ·refine N3 (R5 (c:=35) ⟨_,rfl,?_⟩)
        (try dsimp only);rw[N6,if_pos dV]
        exact⟨rfl,rfl⟩
       rintro z aw ⟨rfl,rfl⟩
       simp only[C0]
       (try dsimp only);rw[N6,if_neg (by simp only[decide_eq_true_eq];omega)]
       exact⟨rfl,rfl⟩
      rintro z aw ⟨rfl,rfl⟩
      simp only[C0]
      (try dsimp only);rw[N6,if_pos (by simp only[decide_eq_true_eq];omega)]
      exact⟨rfl,rfl⟩
     rintro z aw ⟨rfl,rfl⟩
     simp only[C0,C5,N1]
     exact hq _ aY
   ·rw[decide_eq_false gL,F8,F8] at hf
    rw[hf,if_neg (by simp)] at hq
    refine N8 (fun z aw=>aw=h'∧z=.inr (.inr (.inr (143,())))) ?_ ?_
    ·refine N8 (fun z aw=>aw=h'∧z=.inr (.inr (.inr (.inr (143,()))))) ?_ ?_
     ·refine N8 (fun z aw=>aw=h'∧z=.inl ()) ?_ ?_
      ·refine N3 (R5 (c:=35) ⟨_,rfl,?_⟩)
       (try dsimp only);rw[N6,if_pos dV]
       exact⟨rfl,rfl⟩
      rintro z aw ⟨rfl,rfl⟩
      simp only[C0]
      (try dsimp only);rw[N6,if_pos (by simp only[decide_eq_true_eq];omega)]
      exact⟨rfl,rfl⟩
     rintro z aw ⟨rfl,rfl⟩
     exact⟨rfl,rfl⟩
    rintro z aw ⟨rfl,rfl⟩
    simp only[C0,C5,N1]
    exact hq _ aY
  ·rw[if_neg dV] at hf
   by_cases eh:hasB 43 x=true
   ·by_cases h1:x.size≤1
    ·rw[eh,decide_eq_true h1,Bool.or_true,F0] at hf
     refine N8 (fun z aw=>aw=h'∧z=.inl ()) ?_ ?_
     ·refine N8 (fun z aw=>aw=h'∧z=.inl ()) ?_ ?_
      ·refine N8 (fun z aw=>aw=h'∧z=.inr (.inl ())) ?_ ?_
       ·refine N3 (R5 (c:=35) ⟨_,rfl,?_⟩)
        (try dsimp only);rw[N6,if_neg dV]
        refine N3 (R5 (c:=43) ⟨_,rfl,?_⟩)
        (try dsimp only);rw[N6,if_pos eh]
        exact⟨rfl,rfl⟩
       rintro z aw ⟨rfl,rfl⟩
       exact⟨rfl,rfl⟩
      rintro z aw ⟨rfl,rfl⟩
      simp only[C0]
      (try dsimp only);rw[N6,if_neg (by simp only[decide_eq_true_eq];omega)]
      exact⟨rfl,rfl⟩
     rintro z aw ⟨rfl,rfl⟩
     simp only[C0,C5,N1]
     exact .mk (g-1) (by omega) ⟨rfl,rfl,by omega,hf⟩
    ·rw[eh,decide_eq_false h1,Bool.or_false,Bool.not_true,F8] at hf
     rw[hf,if_neg (by simp)] at hq
     refine N8 (fun z aw=>aw=h'∧z=.inr (.inr (.inr (143,())))) ?_ ?_
     ·refine N8 (fun z aw=>aw=h'∧z=.inl ()) ?_ ?_
      ·refine N8 (fun z aw=>aw=h'∧z=.inr (.inl ())) ?_ ?_
       ·refine N3 (R5 (c:=35) ⟨_,rfl,?_⟩)
        (try dsimp only);rw[N6,if_neg dV]
        refine N3 (R5 (c:=43) ⟨_,rfl,?_⟩)
        (try dsimp only);rw[N6,if_pos eh]
        exact⟨rfl,rfl⟩
       rintro z aw ⟨rfl,rfl⟩
       exact⟨rfl,rfl⟩
      rintro z aw ⟨rfl,rfl⟩
      simp only[C0]
      (try dsimp only);rw[N6,if_pos (by simp only[decide_eq_true_eq];omega)]
      exact⟨rfl,rfl⟩
     rintro z aw ⟨rfl,rfl⟩
     simp only[C0,C5,N1]
     exact hq _ aY
   ·simp only[Bool.not_eq_true] at eh
    rw[eh,H7,Bool.true_or,F0] at hf
    refine N8 (fun z aw=>aw=h'∧z=.inl ()) ?_ ?_
    ·refine N8 (fun z aw=>aw=h'∧z=.inr (.inl ())) ?_ ?_
     ·refine N8 (fun z aw=>aw=h'∧z=.inr (.inr (.inl ()))) ?_ ?_
      ·refine N3 (R5 (c:=35) ⟨_,rfl,?_⟩)
       (try dsimp only);rw[N6,if_neg dV]
       refine N3 (R5 (c:=43) ⟨_,rfl,?_⟩)
       (try dsimp only);rw[N6,if_neg (by rw[eh];simp)]
       exact⟨rfl,rfl⟩
      rintro z aw ⟨rfl,rfl⟩
      exact⟨rfl,rfl⟩
     rintro z aw ⟨rfl,rfl⟩
     exact⟨rfl,rfl⟩
    rintro z aw ⟨rfl,rfl⟩
    simp only[C0,C5,N1]
    exact .mk (g-1) (by omega) ⟨rfl,rfl,by omega,hf⟩
 ·rw[if_neg (by simp only[decide_eq_true_eq,hlen];omega)]
  simp only[C0,C5,N1]
  have:l.drop (l.length-g)=[]:=by simp;omega
  rw[this] at hf
  rw[hf] at hq
  exact hq _ aY
end
section
open Go.H Go.Proofs Go.Lib
variable {h h0:Heap} {R:List Asn}
theorem B6j(b c:UInt8):((b.toNat:Int)==(c.toNat:Int))=decide (b=c):=by
 by_cases h:b=c
 ·simp[h]
 ·rw[decide_eq_false h]
  simp only[beq_eq_false_iff_ne,ne_eq]
  intro e
  exact h (UInt8.toNat_inj.1 (by omega))
end
section
open Go.H Go.Proofs Go.Lib
variable {h h0:Heap} {R:List Asn}
theorem drop_byte{s:B1q}{i:Nat}(hi:i<s.size):s.data.toList.drop i=s.get! i::s.data.toList.drop (i+1):=by
 have h1:i<s.data.toList.length:=by rw[F2];exact hi
 rw[List.drop_eq_getElem_cons h1]
 congr 1
 have h2:i<s.data.size:=hi
 show s.data.toList[i]=s.data[i]!
 rw[getElem!_pos s.data i h2]
 simp
theorem A5k{s:B1q}(ao:s.size≤9223372036854775800){c:UInt8}{Q:Value→Heap→Prop}(hq:Q (.bool (hasB c s)) h):
  N9 prog 172 #[.string s,.int .u8 (c.toNat:Int)] h Q:=by
 refine A7r s _ h Q ?_
 delta B0J bn ie pu wi
 (try dsimp only);rw[N2]
 refine Y0 (γ:=Nat) (fun g k h'=>h'=h∧k.1=(((s.size-g:Nat)):Int)∧g≤s.size∧hasB c s=decide (c∈s.data.toList.drop (s.size-g))) (fun g=>g) s.size ⟨rfl,by simp,B5 _,by simp[hasB]⟩ ?_
 rintro g ⟨k,⟨⟩⟩ h' ⟨rfl,hc,hg,hf⟩
 simp only at hc
 subst hc
 (try dsimp only);rw[N6]
 by_cases hi:s.size-g<s.size
 ·rw[if_pos (by simp only[decide_eq_true_eq];omega)]
  rw[drop_byte hi] at hf
  refine⟨s.get! (s.size-g),by omega,by rw[G8];exact A5m hi,?_⟩
  (try dsimp only);rw[N6,B6j]
  by_cases hb:s.get! (s.size-g)=c
  ·rw[if_pos (by simpa using hb)]
   rw[hf,show decide (c∈s.get! (s.size-g)::s.data.toList.drop (s.size-g+1))=true by simp[hb]] at hq
   simp only[C0,C5,N1]
   exact hq
  ·rw[if_neg (by simpa using hb)]
   simp only[C0,C5,N1]
   refine .mk (g-1) (by omega) ⟨rfl,by simp only;rw[O8 (by omega) (by omega)];omega,by omega,?_⟩
   rw[hf,show s.size-(g-1)=s.size-g+1 by omega]
   simp[Ne.symm hb]
 ·rw[if_neg (by simp only[decide_eq_true_eq];omega)]
  have:s.data.toList.drop (s.size-g)=[]:=by
   rw[List.drop_eq_nil_iff,F2]
   show s.size≤_
   omega
  rw[hf,this] at hq
  simp only[C0,C5,N1]
  simpa using hq
theorem B3T{s:B1q}{i:Nat}(hi:i<s.size):(s.extract i (i+1)).data.toList=[s.get! i]:=by
 have h1:=drop_byte hi
 have h2:(s.extract i (i+1)).data.toList=(s.data.toList.drop i).take 1:=by
  simp[ByteArray.data_extract,Array.toList_extract,List.extract]
 rw[h2,h1]
 rfl
theorem A4Z(hs:sat h R){s:B1q}(ao:s.size≤256){Q:Value→Heap→Prop}
  (hq:∀(sl:Slc) h',sat h' (N4 eS 1 sl (levels s)::R)→Q (.slice sl.a sl.len sl.cap) h'):
  N9 prog 171 #[.string s] h Q:=by
 refine A4g s h Q ?_
 delta A4O az bn ie nw pu ve wi
 (try dsimp only);rw[N2]
 refine Y0 (γ:=Nat) (fun g k h'=>∃xs:List B1q,sat h' (N4 eS 1 k.1 xs::R)∧k.2.2.1=(((s.size-g:Nat)):Int)∧g≤s.size∧xs.length≤s.size-g∧k.2.1.size≤s.size-g∧
  xs.map (·.data.toList)++lev 47 k.2.1.data.toList (s.data.toList.drop (s.size-g))=(levels s).map (·.data.toList)) (fun g=>g) s.size
  ⟨[],A0z hs,by simp,B5 _,E9 _,E9 _,by simp[A2z]⟩ ?_
 rintro g ⟨sl,x,i,⟨⟩⟩ h1 ⟨xs,aa,hc,hg,fh,dc,hf⟩
 simp only at hc aa dc hf
 subst hc
 (try dsimp only);rw[N6]
 by_cases hi:s.size-g<s.size
 ·rw[if_pos (by simp only[decide_eq_true_eq];omega)]
  rw[drop_byte hi] at hf
  have dx:s.size-g+1=s.size-(g-1):=by omega
  rw[dx] at hf
  have hw:IntKind.wrap .i64 ((((s.size-g:Nat)):Int)+1)=((s.size-(g-1):Nat):Int):=by rw[O8 (by omega) (by omega)];omega
  refine N8 (fun k h'=>∃xs:List B1q,sat h' (N4 eS 1 k.1 xs::R)∧xs.length≤s.size-(g-1)∧k.2.1.size≤s.size-(g-1)∧
   xs.map (·.data.toList)++lev 47 k.2.1.data.toList (s.data.toList.drop (s.size-(g-1)))=(levels s).map (·.data.toList)) ?_ ?_
  ·refine⟨s.get! (s.size-g),by omega,by rw[G8];exact A5m hi,?_⟩
   (try dsimp only);rw[N6,show(47:Int)=((47:UInt8).toNat:Int) from rfl,B6j]
   by_cases hb:s.get! (s.size-g)=47
   ·rw[if_pos (by simpa using hb)]
    refine B2E (x:=x) A2I B6e rfl aa (by decide) (by decide) (by omega) fun s' h2 ai=>?_
    refine⟨xs++[x],ai,by simp;omega,E9 _,?_⟩
    simp only[lev,if_pos hb] at hf
    rw[←hf]
    simp
   ·rw[if_neg (by simpa using hb)]
    refine⟨s.size-g,s.size-g+1,⟨by rw[hw];omega,by omega⟩,⟨rfl,by omega⟩,?_⟩
    have he:=B3T hi
    have hz:(s.extract (s.size-g) (s.size-g+1)).size=1:=by
     rw[ByteArray.size_extract]
     omega
    refine⟨by rw[hz];omega,xs,aa,by omega,?_,?_⟩
    ·simp only[E1]
     omega
    ·simp only[lev,if_neg hb] at hf
     rw[←hf]
     simp only[ByteArray.data_append,I4,he]
  rintro⟨sl',x',⟨⟩⟩ h2 ⟨xs',ai,mH,mG,cf⟩
  simp only[C0,C5,N1]
  exact .mk (g-1) (by omega) ⟨xs',ai,by simp only[hw],by omega,mH,mG,cf⟩
 ·rw[if_neg (by simp only[decide_eq_true_eq];omega)]
  have:s.data.toList.drop (s.size-g)=[]:=by
   rw[List.drop_eq_nil_iff,F2]
   show s.size≤_
   omega
  rw[this] at hf
  simp only[lev] at hf
  simp only[C0,C5,N1]
  have he:xs++[x]=levels s:=A48 (by simpa using hf)
  refine B2E (x:=x) A2I B6e rfl aa (by decide) (by decide) (by omega) fun s' h2 ai=>?_
  rw[he] at ai
  exact hq s' h2 ai
theorem A6K(hs:sat h R){s:B1q}(ao:s.size≤9223372036854775800){Q:Value→Heap→Prop}
  (hq:∀h',sat h' R→Q (.bool (V7 s)) h'):N9 prog 170 #[.string s] h Q:=by
 refine A4N s h Q ?_
 delta A6N bn cc ie pu
 refine Z1 (A6W hs s ao ⟨(match W9 s with|some n=>((n:Int),true,())|none=>(0,false,())),by cases W9 s<;>rfl,?_⟩)
 refine N8 (fun x h'=>h'=h∧x.1= !((W9 s).isNone&&decide (s.size≠0)&&decide (s.size≤256))) ?_ ?_
 ·(try dsimp only);rw[N6]
  cases hf:W9 s with
  |some n=>
   rw[if_pos rfl]
   exact⟨rfl,rfl⟩
  |none=>
   rw[if_neg (by simp)]
   (try dsimp only);rw[N6]
   by_cases h0:s.size=0
   ·rw[if_pos (by simp[h0])]
    exact⟨rfl,by simp[h0]⟩
   ·rw[if_neg (by simpa using h0)]
    refine⟨rfl,?_⟩
    by_cases h1:s.size≤256
    ·simp[h0,h1];omega
    ·simp[h0,h1];omega
 rintro⟨x,⟨⟩⟩ h1 ⟨rfl,hx⟩
 simp only at hx
 subst hx
 unfold V7 at hq
 (try dsimp only);rw[N6]
 cases hz:((W9 s).isNone&&decide (s.size≠0)&&decide (s.size≤256)) with
 |false=>
  rw[hz] at hq
  rw[if_pos (by rfl)]
  exact hq _ hs
 |true=>
  rw[hz,F0] at hq
  rw[if_neg (by simp)]
  have hle:s.size≤256:=by
   simp only[E8,decide_eq_true_eq] at hz
   exact hz.2
  refine N3 (A4Z hs hle fun sl h2 ai=>⟨sl,rfl,?_⟩)
  have hl:=ai.own_len
  have:=hq _ ai.drop
  have e:decide ((sl.len:Int)≤32)=decide ((levels s).length≤32):=by rw[I0,hl];omega
  simp only[N1]
  rw[e]
  exact this
theorem A2c(hs:sat h R){s:B1q}(ao:s.size≤9223372036854775800){Q:Value→Heap→Prop}
  (hq:∀h',sat h' R→Q (.int .i64 (B01 s)) h'):N9 prog 173 #[.string s] h Q:=by
 refine A2i s h Q ?_
 delta A2b bn cb ie pu
 refine N3 (A6K hs ao fun h1 aa=>⟨_,rfl,?_⟩)
 refine N3 (A5k (c:=43) ao ⟨_,rfl,?_⟩)
 refine N3 (A5k (c:=35) ao ⟨_,rfl,?_⟩)
 refine N8 (fun x h'=>h'=h1∧x.1= !Y7 s) ?_ ?_
 ·unfold Y7
  (try dsimp only);rw[N6]
  cases V7 s with
  |false=>rw[if_pos (by rfl)];exact⟨rfl,rfl⟩
  |true=>
   rw[if_neg (by simp)]
   (try dsimp only);rw[N6]
   cases hasB 43 s with
   |true=>rw[if_pos rfl];exact⟨rfl,rfl⟩
   |false=>rw[if_neg (by simp)];exact⟨rfl,by simp⟩
 rintro⟨x,⟨⟩⟩ h2 ⟨rfl,hx⟩
 simp only at hx
 subst hx
 have:=hq _ aa
 unfold B01 at this
 (try dsimp only);rw[N6]
 cases hn:Y7 s with
 |true=>rw[hn,if_pos rfl] at this;rw[if_neg (by simp)];exact this
 |false=>rw[hn,if_neg (by simp)] at this;rw[if_pos (by rfl)];exact this
theorem A0M(hs:sat h R){s:B1q}(ao:s.size≤9223372036854775800){Q:Value→Heap→Prop}
  (hq:∀h',sat h' R→Q (.int .i64 (A2E s)) h'):N9 prog 88 #[.string s] h Q:=by
 refine A07 s h Q ?_
 delta A0K bn cb cc ie ix lt pu wi
 refine N3 (A6K hs ao fun h1 aa=>⟨_,rfl,?_⟩)
 unfold A2E S6 at hq
 (try dsimp only);rw[N6]
 cases hz:V7 s with
 |false=>
  rw[hz] at hq
  rw[if_pos (by rfl)]
  exact hq _ aa
 |true=>
 rw[hz,F0] at hq
 rw[if_neg (by simp)]
 have hle:=A3i hz
 refine N3 (A4Z aa hle fun sl h2 ai=>⟨sl,rfl,?_⟩)
 have hlen:=ai.own_len
 have av:=ai.aI A2I
 have hn:(levels s).length≤32:=(A4b.1 hz).2.2.2
 have dc:∀x∈levels s,x.size≤256:=fun x hx=>E3 (B6Z hx) hle
 generalize levels s=l at hlen av hn hq dc
 have aY:=ai.drop
 clear ai
 (try dsimp only);rw[N2]
 refine Y0 (γ:=Nat) (fun g c h'=>h'=h2∧c.1=(((l.length-g:Nat)):Int)∧g≤l.length∧A3W l=A3W (l.drop (l.length-g))) (fun g=>g) l.length ⟨rfl,by simp,B5 _,by simp⟩ ?_
 rintro g ⟨c,⟨⟩⟩ h' ⟨rfl,hc,hg,hf⟩
 simp only at hc
 subst hc
 (try dsimp only);rw[N6]
 by_cases af:l.length-g<l.length
 ·rw[if_pos (by simp only[decide_eq_true_eq,hlen];omega)]
  obtain⟨x,hx⟩:∃x,l[l.length-g]? =some x:=⟨_,B2 af⟩
  have sj:x.size≤256:=dc x (E5 hx)
  have ld:∀{Q:B1q→Heap→Prop},Q x h'→(HM.bind (r8 sl.a sl.len (((l.length-g:Nat)):Int) 1) fun a=>R9 .str a) h' Q:=by
   intro Q hQ
   (try dsimp only);rw[N2]
   refine A0U av hx fun a ha=>?_
   exact⟨x,by have:=ha 0 (.string x) rfl;rwa[Go.H.add_zero] at this,hQ⟩
  have kE:∀{β:Type} {k:B1q→HM β} {Q:β→Heap→Prop},k x h' Q→(HM.bind (r8 sl.a sl.len (((l.length-g:Nat)):Int) 1) fun a=>HM.bind (R9 .str a) k) h' Q:=fun hk=>ld (Q:=fun y aw=>_) hk
  rw[B3S hx,B5o] at hf
  have cz:(l.drop (l.length-g+1)).isEmpty=decide (l.length-g+1=l.length):=by
   by_cases he:l.length-g+1=l.length
   ·rw[he];simp
   ·have:l.drop (l.length-g+1)≠[]:=by simp;omega
    cases hh:l.drop (l.length-g+1) with
    |nil=>exact absurd hh this
    |cons=>simp[he]
  rw[cz] at hf
  have hw:IntKind.wrap .i64 ((sl.len:Int)-1)=(l.length:Int)-1:=by rw[hlen];exact O8 (by omega) (by omega)
  have jh:IntKind.wrap .i64 (((l.length-g:Nat):Int)+1)=((l.length-(g-1):Nat):Int):=by rw[O8 (by omega) (by omega)];omega
  have dx:l.length-g+1=l.length-(g-1):=by omega
  rw[dx] at hf
  rw[hw,jh]
  refine kE ?_
  refine N3 (A5k (c:=43) (by omega) ⟨_,rfl,?_⟩)
  refine kE ?_
  refine N3 (A5k (c:=35) (by omega) ⟨_,rfl,?_⟩)
  unfold B5f at hf
  refine N8 (fun z aw=>aw=h'∧z.1=(hasB 43 x&&decide (x≠B3v))) ?_ ?_
  ·(try dsimp only);rw[N6]
   cases hasB 43 x with
   |true=>
    rw[if_pos rfl]
    refine kE ⟨rfl,?_⟩
    by_cases hp:x=ByteArray.mk #[43]<;>simp[B3v,hp]
   |false=>rw[if_neg (by simp)];exact⟨rfl,rfl⟩
  rintro⟨z,⟨⟩⟩ aw ⟨rfl,eG⟩
  simp only at eG
  subst eG
  (try dsimp only);rw[N6]
  cases ha:(hasB 43 x&&decide (x≠B3v)) with
  |true=>
   rw[ha,Bool.true_or,Bool.not_true,F8] at hf
   rw[hf,if_neg (by simp)] at hq
   rw[if_pos rfl]
   simp only[C0,C5,N1]
   exact hq _ aY
  |false=>
  rw[ha,Bool.false_or] at hf
  rw[if_neg (by simp)]
  refine N8 (fun z h'=>h'=aw∧z.1=(hasB 35 x&&(decide (x≠A7d)|| !decide (l.length-(g-1)=l.length)))) ?_ ?_
  ·(try dsimp only);rw[N6]
   cases hasB 35 x with
   |true=>
    rw[if_pos rfl]
    refine kE ?_
    (try dsimp only);rw[N6]
    by_cases fX:x=A7d
    ·rw[if_neg (by simpa[A7d] using fX)]
     refine⟨rfl,?_⟩
     simp only[fX,ne_eq,not_true_eq_false,decide_false,Bool.false_or,F0]
     rw[←decide_not,I0]
     omega
    ·rw[if_pos (by simpa[A7d] using fX)]
     exact⟨rfl,by simp[fX]⟩
   |false=>rw[if_neg (by simp)];exact⟨rfl,rfl⟩
  rintro⟨z,⟨⟩⟩ h3 ⟨rfl,eG⟩
  simp only at eG
  subst eG
  (try dsimp only);rw[N6]
  cases hb:(hasB 35 x&&(decide (x≠A7d)|| !decide (l.length-(g-1)=l.length))) with
  |true=>
   rw[hb,Bool.not_true,F8] at hf
   rw[hf,if_neg (by simp)] at hq
   rw[if_pos rfl]
   simp only[C0,C5,N1]
   exact hq _ aY
  |false=>
   rw[hb,H7,F0] at hf
   rw[if_neg (by simp)]
   simp only[C0,C5,N1]
   exact .mk (g-1) (by omega) ⟨rfl,rfl,by omega,hf⟩
 ·rw[if_neg (by simp only[decide_eq_true_eq,hlen];omega)]
  simp only[C0,C5,N1]
  have:l.drop (l.length-g)=[]:=by simp;omega
  rw[this] at hf
  rw[hf] at hq
  exact hq _ aY
end
open Go.H Go.Proofs Go.Lib
def beT:Nat→Nat→List Int
 |0,_=>[]
 |w+1,n=>((n / 256 ^ w % 256:Nat):Int)::beT w n
theorem A8b:∀(w n:Nat),(beT w n).length=w
 |0,_=>rfl
 |w+1,n=>by rw[beT,D8,A8b w n]
theorem A3w(ns:List Int):(P1 ns).data.toList=ns.map fun n=>UInt8.ofNat n.toNat:=by
 unfold P1
 have:∀(ns:List Int) (r:B1q),(ns.foldl (fun r n=>r.push (UInt8.ofNat n.toNat)) r).data.toList=r.data.toList++ns.map fun n=>UInt8.ofNat n.toNat:=by
  intro ns
  induction ns with
  |nil=>intro r;simp
  |cons n ns ih=>intro r;rw[List.foldl_cons,ih];simp
 rw[this]
 rfl
theorem A6f(ns:List Int):(P1 ns).size=ns.length:=by
 have:=congrArg List.length (A3w ns)
 rw[F2,C9] at this
 exact this
theorem B3K(a b:List Int):P1 a++P1 b=P1 (a++b):=by
 refine data_inj ?_
 simp only[ByteArray.data_append,I4,A3w,C7]
def A98(w n:Nat):B1q:=P1 (beT w n)
theorem A0q(w n:Nat):(A98 w n).size=w:=by unfold A98;rw[A6f,A8b]
def B7h(s:B1q):B1q:=A98 2 s.size++s
end Go.Proofs.YtmpgankhnfpoaaaGreatDoor
namespace Go.H
section
variable {α:Type} {enc:α→C3E} {size:Nat} {h h0:Heap} {s:Slc} {xs:List α} {R:List Asn}
theorem B3P(aj:∀x,(enc x).length=size):∀(xs:List α) (i:Nat) (v:Value),(xs.flatMap enc)[i]? =some v→∃q x r,xs[q]? =some x∧(enc x)[r]? =some v∧i=q*size+r
 |[],i,v,h=>by simp at h
 |x::xs,i,v,h=>by
  rw[D4] at h
  rcases I7 i size with hi|hi
  ·rw[List.getElem?_append_left (by rw[aj];exact hi)] at h
   exact⟨0,x,i,rfl,h,by simp⟩
  ·rw[List.getElem?_append_right (by rw[aj];exact hi),aj] at h
   obtain⟨q,y,r,h1,h2,h3⟩:=B3P aj xs _ v h
   exact⟨q+1,y,r,by simpa using h1,h2,by rw[H3];omega⟩
theorem B81(a:Addr)(m r:Nat):(a.add m).add r=a.add (m+r):=by
 unfold Addr.add
 by_cases h1:m=0<;>by_cases h2:r=0<;>simp[h1,h2,Nat.add_assoc]
theorem A3j(aj:∀x,(enc x).length=size)(hr:P6 enc size h s xs)(ao:0<size):A0x h s.a (s.len*size) (xs.flatMap enc).toArray:=by
 unfold A0x
 cases ha:s.a with
 |none=>
  cases xs with
  |nil=>rfl
  |cons x xs=>
   obtain⟨a,h1,_⟩:=hr.2.2 0 x rfl
   rw[ha] at h1;cases h1
 |some a=>
  refine⟨by simp[U0 aj,hr.1],fun i v hi=>?_⟩
  obtain⟨q,x,r,h1,h2,rfl⟩:=B3P aj xs i v (by simpa using hi)
  obtain⟨a',h3,h4⟩:=hr.2.2 q x h1
  rw[ha] at h3;cases h3
  have:=h4 r v h2
  rwa[B81] at this
theorem A7j(aj:∀x,(enc x).length=size)(ew:∀x,∀v∈enc x,v.oneCell'=true){elem:TypeId}{bytes n:Nat}{zero:C3D}(hz:zero.size=size){src:Heap→C3D→Prop}{ys:List α}{Q:Slc→Heap→Prop}
  (hs:sat h R)(hr:P6 enc size h s xs)(dJ:s.cap=s.len)(hn:ys.length=n)(bW:src h (ys.flatMap enc).toArray)(ao:0<size)(db:0<bytes)(h0:0<n)(hb:(xs.length+n)*bytes≤140737488355328)
  (hq:∀s' h',sat h' (N4 enc size s' (xs++ys)::R)→Q s' h'):HM.append elem size bytes zero s n src h Q:=by
 have hl:=hr.1
 have nJ:xs.length+n≤140737488355328:=E3 (Nat.le_mul_of_pos_right _ db) hb
 constructor
 ·intro hc;omega
 ·intro hc
  refine⟨by omega,growslice_fits hc (by rw[hl];exact hb),(xs.flatMap enc).toArray,_,A3j aj hr ao,bW,fun c dg _=>hq _ _ ?_⟩
  have ho:(xs.flatMap enc).toArray.size=s.len*size:=by simp[U0 aj,hl]
  refine W8 (o:=0) ⟨by simp,dg,by simp[hl,hn],Nat.le_of_eq ?_,?_⟩ hs.aX
  ·simp only[F5,Array.size_append,ho,Builtin.zeroCells,Array.size_map,Array.size_range,hz,I2,U0 aj,hn]
   rw[hl,←G0,←G0]
   congr 1
   omega
  ·simp only[I4,J9,I1,K5]
   rw[List.take_append_of_le_length (by simp only[D9,U0 aj];rw[hl,G0,hn];exact B5 _)]
   rw[D7]
   simp only[D9,U0 aj]
   rw[hl,G0,hn]
   exact B5 _
end
end Go.H
namespace Go.Proofs.YtmpgankhnfpoaaaGreatDoor
open Go.H
open Go.Proofs.Tryz
section
open Go.H Go.Proofs Go.Lib
abbrev eU(n:Int):C3E:=[.int .u8 n]
theorem B2p:∀x:Int,(eU x).length=1:=fun _=>rfl
theorem C0b:∀x:Int,∀v∈eU x,v.oneCell'=true:=fun x v hv=>by rw[B4.1 hv];rfl
theorem B6d:∀xs:List Int,xs.flatMap eU=xs.map (Value.int .u8)
 |[]=>rfl
 |x::xs=>by rw[D4,B6d xs];rfl
variable {h h0:Heap} {R:List Asn}
def A0c(w:Nat):Prop:=w=1∨w=2∨w=4
theorem C0s{w:Nat}(hw:A0c w):IntKind.wrap .i64 (1*2 ^ (min (Int.toNat (IntKind.wrap .i64 (8*(w:Int)))) (IntKind.bits .i64)))=((256 ^ w:Nat):Int):=by
 rcases hw with rfl|rfl|rfl<;>decide
theorem C0r{w:Nat}(hw:A0c w):0≤IntKind.wrap .i64 (8*(w:Int)):=by
 rcases hw with rfl|rfl|rfl<;>decide
theorem B7X{w:Nat}(hw:A0c w):1≤w∧w≤4:=by
 rcases hw with rfl|rfl|rfl<;>decide
theorem C1b{w:Nat}(hw:A0c w):256 ^ w≤4294967296:=by
 rcases hw with rfl|rfl|rfl<;>decide
theorem wrap_u8(n:Nat):IntKind.wrap .u8 (n:Int)=((n % 256:Nat):Int):=by
 simp[IntKind.wrap,IntKind.bits,IntKind.signed]
theorem byte_at{n g:Nat}(hg:g≤3):IntKind.wrap .u8 (Int.fdiv (n:Int) (2 ^ (min (Int.toNat (IntKind.wrap .i64 (8*(g:Int)))) (IntKind.bits .i64))))=((n / 256 ^ g % 256:Nat):Int):=by
 rw[O8 (by omega) (by omega)]
 have e1:min (Int.toNat (8*(g:Int))) (IntKind.bits .i64)=8*g:=by
  show min _ 64=_
  omega
 rw[e1]
 have e2:((2:Int) ^ (8*g))=((256 ^ g:Nat):Int):=by
  rw[Int.natCast_pow,Int.pow_mul]
  rfl
 rw[e2,Int.fdiv_eq_ediv_of_nonneg _ (G1 _),←Int.natCast_ediv,wrap_u8]
theorem B0s{w:Nat}(hw:A0c w){Q:Value→Heap→Prop}(hq:Q (.bool true) h):N9 prog 120 #[.int .i64 w] h Q:=by
 refine A4E w h Q ?_
 delta A6C bn ie pu
 refine N8 (fun z h'=>h'=h∧z.1=true) ?_ ?_
 ·rcases hw with rfl|rfl|rfl
  ·(try dsimp only);rw[N6,if_pos (by rfl)];exact⟨rfl,rfl⟩
  ·(try dsimp only);rw[N6,if_neg (by decide)]
   (try dsimp only);rw[N6,if_pos (by rfl)];exact⟨rfl,rfl⟩
  ·(try dsimp only);rw[N6,if_neg (by decide)]
   (try dsimp only);rw[N6,if_neg (by decide)];exact⟨rfl,rfl⟩
 rintro⟨z,⟨⟩⟩ h1 ⟨rfl,hz⟩
 simp only at hz
 subst hz
 exact hq
theorem B0z{sl:Slc}{xs:List Int}(hs:sat h (N4 eU 1 sl xs::R)){Q:B1q→Heap→Prop}(hq:Q (P1 xs) h):y8 sl h Q:=by
 refine⟨xs,?_,hq⟩
 have:=A3j B2p (hs.aI B2p) (by decide)
 rw[M0,B6d] at this
 exact this
theorem A4x(hs:sat h R){w n:Nat}(hw:A0c w)(hn:n<256 ^ w){Q:Value→Heap→Prop}(hq:∀h',sat h' R→Q (.tuple #[.string (A98 w n),.int .u8 0]) h'):
  N9 prog 62 #[.int .i64 w,.int .i64 n] h Q:=by
 refine A0u w n h Q ?_
 delta A1t az bn cb ie nw pu vi wi
 have mJ:=B7X hw
 refine N3 (B0s hw ⟨true,rfl,?_⟩)
 (try dsimp only);rw[N6,if_neg (by simp)]
 refine N8 (fun z h'=>h'=h∧z.1=false) ?_ ?_
 ·(try dsimp only);rw[N6,if_neg (by simp)]
  refine⟨C0r hw,rfl,?_⟩
  rw[C0s hw]
  simp only[decide_eq_false_iff_not]
  omega
 rintro⟨z,⟨⟩⟩ h1 ⟨rfl,hz⟩
 simp only at hz
 subst hz
 (try dsimp only);rw[N6,if_neg (by simp)]
 (try dsimp only);rw[N2]
 refine Y0 (γ:=Nat) (fun g c h'=>c.2.1=(g:Int)-1∧g≤w∧∃xs:List Int,xs++beT g n=beT w n∧sat h' (N4 eU 1 c.1 xs::R)) (fun g=>g) w
  ⟨by simp only;exact O8 (by omega) (by omega),B5 _,[],rfl,A0z hs⟩ ?_
 rintro g ⟨out,c,⟨⟩⟩ h2 ⟨hc,hg,xs,hx,ai⟩
 simp only at hc ai
 subst hc
 (try dsimp only);rw[N6]
 cases g with
 |succ g=>
  rw[if_pos (by simp only[decide_eq_true_eq];omega)]
  have e:((g+1:Nat):Int)-1=(g:Int):=by omega
  rw[e]
  refine⟨by rw[O8 (by omega) (by omega)];omega,?_⟩
  rw[byte_at (by omega)]
  have fh:xs.length≤4:=by
   have:=congrArg List.length hx
   rw[D9,A8b,A8b] at this
   omega
  refine B2E (x:=((n / 256 ^ g % 256:Nat):Int)) B2p C0b rfl ai (by decide) (by decide) (by omega) fun s' h3 aY=>?_
  simp only[C0,C5,N1]
  exact .mk g (by omega) ⟨by simp only;rw[O8 (by omega) (by omega)],by omega,_,by rw[F1,←hx];rfl,aY⟩
 |zero=>
  rw[if_neg (by simp)]
  simp only[C0,C5,N1]
  rw[beT,I3] at hx
  subst hx
  (try dsimp only);rw[N2]
  refine B0z ai ?_
  exact hq _ ai.drop
theorem B03{w:Nat}(hw:A0c w){Q:Value→Heap→Prop}(hq:Q (.int .i64 ((256 ^ w:Nat):Int)) h):N9 prog 105 #[.int .i64 w] h Q:=by
 refine A53 w h Q ?_
 delta A8Z ie pu
 rcases hw with rfl|rfl|rfl
 ·(try dsimp only);rw[N6,if_pos (by rfl)];exact hq
 ·(try dsimp only);rw[N6,if_neg (by decide)]
  (try dsimp only);rw[N6,if_pos (by rfl)];exact hq
 ·(try dsimp only);rw[N6,if_neg (by decide)]
  (try dsimp only);rw[N6,if_neg (by decide)]
  (try dsimp only);rw[N6,if_pos (by rfl)];exact hq
theorem B3t(hs:sat h R){w n:Nat}(hw:A0c w)(hn:n<256 ^ w){Q:Value→Heap→Prop}(hq:∀h',sat h' R→Q (.tuple #[.string (A98 w n),.int .i64 0]) h'):
  N9 prog 40 #[.int .i64 w,.int .i64 n] h Q:=by
 refine A0L w n h Q ?_
 delta A2v az bn ci ie nw pu vi wi
 have mJ:=B7X hw
 have iQ:=C1b hw
 have di:0<256 ^ w:=Nat.pow_pos (by decide)
 refine N3 (B03 hw ⟨_,rfl,?_⟩)
 generalize hP:256 ^ w=P at hn iQ di
 (try dsimp only);rw[N6,if_neg (by simp;omega)]
 refine N8 (fun z h'=>h'=h∧z.1=false) ?_ ?_
 ·(try dsimp only);rw[N6,if_neg (by simp)]
  refine⟨rfl,?_⟩
  simp only[decide_eq_false_iff_not]
  omega
 rintro⟨z,⟨⟩⟩ h1 ⟨rfl,hz⟩
 simp only at hz
 subst hz
 (try dsimp only);rw[N6,if_neg (by simp)]
 (try dsimp only);rw[N2]
 refine Y0 (γ:=Nat) (fun g c h'=>g≤w∧c.1=A98 (w-g) n∧c.2.1=((n / 256 ^ (w-g):Nat):Int)∧c.2.2.1=((w-g:Nat):Int)∧sat h' R) (fun g=>g) w
  ⟨B5 _,by rw[L8];rfl,by simp,by simp,hs⟩ ?_
 rintro g ⟨t,m,c,⟨⟩⟩ h2 ⟨hg,ht,hm,hc,ai⟩
 simp only at ht hm hc
 subst ht hm hc
 (try dsimp only);rw[N6]
 by_cases hi:w-g<w
 ·rw[if_pos (by simp only[decide_eq_true_eq];omega)]
  refine⟨by decide,?_⟩
  have qR:n / 256 ^ (w-g)≤n:=Nat.div_le_self _ _
  have e1:IntKind.wrap .u8 (Int.tmod (((n / 256 ^ (w-g):Nat)):Int) 256)=((n / 256 ^ (w-g) % 256:Nat):Int):=by
   rw[Int.tmod_eq_emod_of_nonneg (G1 _),show(256:Int)=((256:Nat):Int) from rfl,←Int.natCast_emod,wrap_u8,Nat.mod_mod]
  have e2:IntKind.wrap .i64 (Int.tdiv (((n / 256 ^ (w-g):Nat)):Int) 256)=((n / 256 ^ (w-(g-1)):Nat):Int):=by
   rw[Int.tdiv_eq_ediv_of_nonneg (G1 _),show(256:Int)=((256:Nat):Int) from rfl,←Int.natCast_ediv]
   have h3:n / 256 ^ (w-g) / 256≤n / 256 ^ (w-g):=Nat.div_le_self _ _
   rw[O8 (by omega) (by omega),Nat.div_div_eq_div_mul,show 256 ^ (w-g)*256=256 ^ (w-(g-1)) from by rw[←Nat.pow_succ];congr 1;omega]
  rw[e1,e2]
  refine U5 ai fun b h3 aY=>?_
  have bT:=own_flat' (enc:=eU) (xs:=[((n / 256 ^ (w-g) % 256:Nat):Int)]) B2p rfl aY
  (try dsimp only);rw[N2]
  refine B0z bT ?_
  refine⟨?_,by decide,?_⟩
  ·rw[A6f,A0q]
   simp only[D8,L9]
   omega
  simp only[C0,C5,N1]
  refine .mk (g-1) (by omega) ⟨by omega,?_,rfl,by simp only;rw[O8 (by omega) (by omega)];omega,aY.drop⟩
  simp only
  unfold A98
  rw[B3K,show w-(g-1)=w-g+1 by omega]
  rfl
 ·rw[if_neg (by simp only[decide_eq_true_eq];omega)]
  simp only[C0,C5,N1]
  have ny:w-g=w:=by omega
  rw[ny]
  exact hq _ ai
where
 own_flat' {α:Type} {enc:α→C3E} {size:Nat} {h:Heap} {R:List Asn} (aj:∀x,(enc x).length=size) {b:Nat} {xs:List α} {cs:C3D} (he:cs=(xs.flatMap enc).toArray) (hs:sat h (cells b cs::R)):
  sat h (N4 enc size ⟨some ⟨b,0,none⟩,xs.length,xs.length⟩ xs::R):=by
  subst he
  refine W8 (o:=0) ⟨by simp,B5 _,rfl,by simp[U0 aj],?_⟩ hs
  simp only[I1,K5,List.toList_toArray]
  rw[D7 (by rw[U0 aj];exact B5 _)]
theorem B7y(hs:sat h R){s:B1q}(ao:s.size≤65535){Q:Value→Heap→Prop}(hq:∀h',sat h' R→Q (.tuple #[.string (B7h s),.int .u8 0]) h'):N9 prog 94 #[.string s] h Q:=by
 refine A4F s h Q ?_
 delta A6D bn ie pu vi
 (try dsimp only);rw[N6,if_neg (by simp only[decide_eq_true_eq];omega)]
 refine Z1 (A4x (w:=2) hs (.inr (.inl rfl)) (by simpa using Nat.lt_succ_of_le ao) fun h1 aa=>⟨(A98 2 s.size,0,()),rfl,?_⟩)
 refine⟨by rw[A0q];omega,?_⟩
 exact hq _ aa
end
section
open Go.H Go.Proofs Go.Lib
abbrev A7l:=B1q×Int×Int×B1q×B1q×Unit
abbrev vR(r:A7l):Value:=.agg #[.string r.1,.int .i64 r.2.1,.int .i64 r.2.2.1,.string r.2.2.2.1,.string r.2.2.2.2.1]
abbrev Z6:=Int×B1q×Int×Int×B1q×B1q×Unit
abbrev S0(l:Z6):C3E:=[.int .i64 l.1,.string l.2.1,.int .i64 l.2.2.1,.int .i64 l.2.2.2.1,.string l.2.2.2.2.1,.string l.2.2.2.2.2.1]
theorem B2q:∀x:Z6,(S0 x).length=6:=fun _=>rfl
theorem C0c:∀x:Z6,∀v∈S0 x,v.oneCell'=true:=fun x v hv=>by
 simp only[S0,B9,K3,or_false] at hv
 rcases hv with rfl|rfl|rfl|rfl|rfl|rfl<;>rfl
abbrev B7l:Nat:=9223372036854775800
def szR(r:A7l):Prop:=r.1.size≤B7l∧r.2.2.2.1.size≤B7l∧r.2.2.2.2.1.size≤B7l
def W7(s:B1q):Bool:=decide (s=ByteArray.mk #[])||Y7 s
def B2y(r:A7l):Int:=
 if S6 r.1=false then 143
 else if(W7 r.2.2.2.1&&W7 r.2.2.2.2.1)=false then 144
 else if r.2.1<0∨2<r.2.1 then 128
 else if r.2.2.1<0∨2<r.2.2.1 then 155
 else 0
variable {h h0:Heap} {R:List Asn}
theorem A6Y(hs:sat h (old h0::R))(ht:TP h0){s:B1q}(ao:s.size≤B7l){Q:Value→Heap→Prop}(hq:∀h',sat h' (old h0::R)→Q (.bool (W7 s)) h'):
  N9 prog 194 #[.string s] h Q:=by
 refine A4f s h Q ?_
 delta A4K bn cu es ie pu
 refine N8 (fun z h'=>sat h' (old h0::R)∧z.1=W7 s) ?_ ?_
 ·unfold W7
  (try dsimp only);rw[N6]
  by_cases h0:s=ByteArray.mk #[]
  ·rw[if_pos (by simpa using h0)];exact⟨hs,by simp[h0]⟩
  ·rw[if_neg (by simpa using h0)]
   refine N3 (A9W hs ht (E3 ao (by decide)) fun h1 aa=>⟨_,rfl,aa,?_⟩)
   unfold B01
   cases Y7 s<;>simp[h0]
 rintro⟨z,⟨⟩⟩ h1 ⟨aa,hz⟩
 simp only at hz
 subst hz
 exact hq _ aa
theorem A3h{x:Nat}{i:Nat}{cs:C3D}{n:Int}(hs:sat h (cells x cs::R))(hc:cs[i]? =some (.int .i64 n)){Q:Bool×Unit→Heap→Prop}(hq:Q (decide (n<0∨2<n),()) h):
  (HM.bind (α:=Int) (R9 (.int .i64) (Addr.add ⟨x,0,none⟩ i)) fun(x9:Int)=>
   X7 (decide (x9<(0:Int))) (
   O9 (true,())) (
   HM.bind (α:=Int) (R9 (.int .i64) (Addr.add ⟨x,0,none⟩ i)) fun(jd:Int)=>
   O9 (decide (2<(jd:Int)),()))) h Q:=by
 refine⟨n,by rw[O0,hs.cell];exact hc,?_⟩
 (try dsimp only);rw[N6]
 by_cases h1:n<0
 ·rw[if_pos (by simpa using h1)]
  simpa[h1] using hq
 ·rw[if_neg (by simpa using h1)]
  refine⟨n,by rw[O0,hs.cell];exact hc,?_⟩
  simpa[h1] using hq
theorem B5J(hs:sat h (old h0::R))(ht:TP h0){r:A7l}(hz:szR r){Q:Value→Heap→Prop}(hq:∀h',sat h' (old h0::R)→Q (.int .u8 (B2y r)) h'):
  N9 prog 117 #[vR r] h Q:=by
 refine A1A r h Q ?_
 delta A06 bn cb cu ie ji jt nw pu
 refine U5 hs fun x h1 aa=>?_
 refine⟨r.1,by rw[O0];exact aa.cell 0,?_⟩
 refine N3 (A1r aa.p1 ht (E3 hz.1 (by decide)) fun h2 fq=>⟨_,rfl,?_⟩)
 have ai:=fq.p1
 clear fq aa
 unfold B2y at hq
 (try dsimp only);rw[N6]
 cases hf:S6 r.1 with
 |false=>
  rw[if_pos hf] at hq
  rw[if_pos (by simp[A2E,hf])]
  exact hq _ ai.drop
 |true=>
 rw[if_neg (by simp[hf])] at hq
 rw[if_neg (by simp[A2E,hf])]
 refine N8 (fun z h'=>sat h' (cells x #[.string r.1,.int .i64 r.2.1,.int .i64 r.2.2.1,.string r.2.2.2.1,.string r.2.2.2.2.1]::old h0::R)∧z.1= !(W7 r.2.2.2.1&&W7 r.2.2.2.2.1)) ?_ ?_
 ·refine⟨r.2.2.2.1,by rw[O0];exact ai.cell 3,?_⟩
  refine N3 (A6Y ai.p1 ht hz.2.1 fun h3 aY=>⟨_,rfl,?_⟩)
  (try dsimp only);rw[N6]
  cases W7 r.2.2.2.1 with
  |false=>rw[if_pos (by rfl)];exact⟨aY.p1,rfl⟩
  |true=>
   rw[if_neg (by simp)]
   refine⟨r.2.2.2.2.1,by rw[O0];exact aY.p1.cell 4,?_⟩
   refine N3 (A6Y aY ht hz.2.2 fun h4 bT=>⟨_,rfl,?_⟩)
   exact⟨bT.p1,by simp⟩
 rintro⟨z,⟨⟩⟩ h3 ⟨aY,bp⟩
 simp only at bp
 subst bp
 (try dsimp only);rw[N6]
 cases hp:(W7 r.2.2.2.1&&W7 r.2.2.2.2.1) with
 |false=>
  rw[if_pos hp] at hq
  rw[if_pos (by rfl)]
  exact hq _ aY.drop
 |true=>
 rw[if_neg (by simp[hp])] at hq
 rw[if_neg (by simp)]
 refine N8 (fun z h'=>h'=h3∧z.1=decide (r.2.1<0∨2<r.2.1)) (A3h aY rfl ⟨rfl,rfl⟩) ?_
 rintro⟨z,⟨⟩⟩ h4 ⟨rfl,bp⟩
 simp only at bp
 subst bp
 (try dsimp only);rw[N6]
 by_cases hd:r.2.1<0∨2<r.2.1
 ·rw[if_pos hd] at hq
  rw[if_pos (by simpa using hd)]
  exact hq _ aY.drop
 rw[if_neg hd] at hq
 rw[if_neg (by simpa using hd)]
 refine N8 (fun z h'=>h'=h4∧z.1=decide (r.2.2.1<0∨2<r.2.2.1)) (A3h aY rfl ⟨rfl,rfl⟩) ?_
 rintro⟨z,⟨⟩⟩ h5 ⟨rfl,bp⟩
 simp only at bp
 subst bp
 (try dsimp only);rw[N6]
 by_cases dk:r.2.2.1<0∨2<r.2.2.1
 ·rw[if_pos dk] at hq
  rw[if_pos (by simpa using dk)]
  exact hq _ aY.drop
 ·rw[if_neg dk] at hq
  rw[if_neg (by simpa using dk)]
  exact hq _ aY.drop
theorem B3u(hs:sat h R){r:A7l}(hz:szR r){Q:Value→Heap→Prop}(hq:∀h',sat h' R→Q (.int .i64 (B2y r)) h'):
  N9 prog 89 #[vR r] h Q:=by
 refine A4M r h Q ?_
 delta A6M bn ci es ie ji jt nw pu
 refine U5 hs fun x h1 aa=>?_
 refine⟨r.1,by rw[O0];exact aa.cell 0,?_⟩
 refine N3 (A0M aa hz.1 fun h2 ai=>⟨_,rfl,?_⟩)
 refine⟨r.2.2.2.1,by rw[O0];exact ai.cell 3,?_⟩
 refine N3 (A2c ai hz.2.1 fun h3 aY=>⟨_,rfl,?_⟩)
 refine⟨r.2.2.2.2.1,by rw[O0];exact aY.cell 4,?_⟩
 refine N3 (A2c aY hz.2.2 fun h4 bT=>⟨_,rfl,?_⟩)
 clear aY ai aa
 unfold B2y at hq
 (try dsimp only);rw[N6]
 cases hf:S6 r.1 with
 |false=>
  rw[if_pos hf] at hq
  rw[if_pos (by simp[A2E,hf])]
  exact hq _ bT.drop
 |true=>
 rw[if_neg (by simp[hf])] at hq
 rw[if_neg (by simp[A2E,hf])]
 refine N8 (fun z h'=>h'=h4∧z.1= !(W7 r.2.2.2.1&&W7 r.2.2.2.2.1)) ?_ ?_
 ·refine⟨r.2.2.2.1,by rw[O0];exact bT.cell 3,?_⟩
  unfold W7 B01
  (try dsimp only);rw[N6]
  have last:∀{Q:Bool×Unit→Heap→Prop},Q (!(decide (r.2.2.2.2.1=ByteArray.mk #[])||Y7 r.2.2.2.2.1),()) h4→
    (HM.bind (α:=B1q) (R9 .str (Addr.add ⟨x,0,none⟩ 4)) fun(jd:B1q)=>
     X7 (!(decide (jd=(ByteArray.mk #[])))) (
     O9 (!((if Y7 r.2.2.2.2.1=true then(0:Int) else 144)==0),())) (
     O9 (false,()))) h4 Q:=by
   intro Q hQ
   refine⟨r.2.2.2.2.1,by rw[O0];exact bT.cell 4,?_⟩
   (try dsimp only);rw[N6]
   by_cases he:r.2.2.2.2.1=ByteArray.mk #[]
   ·rw[if_neg (by simpa using he)]
    simpa[he] using hQ
   ·rw[if_pos (by simpa using he)]
    cases hn:Y7 r.2.2.2.2.1<;>simpa[he,hn] using hQ
  by_cases he:r.2.2.2.1=ByteArray.mk #[]
  ·rw[if_neg (by simpa using he)]
   refine last ⟨rfl,?_⟩
   simp[he]
  ·rw[if_pos (by simpa using he)]
   (try dsimp only);rw[N6]
   cases hn:Y7 r.2.2.2.1 with
   |false=>
    rw[if_pos (by simp)]
    exact⟨rfl,by simp[he]⟩
   |true=>
    rw[if_neg (by simp)]
    refine last ⟨rfl,?_⟩
    simp[he]
 rintro⟨z,⟨⟩⟩ h3 ⟨rfl,bp⟩
 simp only at bp
 subst bp
 (try dsimp only);rw[N6]
 cases hp:(W7 r.2.2.2.1&&W7 r.2.2.2.2.1) with
 |false=>
  rw[if_pos hp] at hq
  rw[if_pos (by rfl)]
  exact hq _ bT.drop
 |true=>
 rw[if_neg (by simp[hp])] at hq
 rw[if_neg (by simp)]
 refine N8 (fun z h'=>h'=h3∧z.1=decide (r.2.1<0∨2<r.2.1)) (A3h bT rfl ⟨rfl,rfl⟩) ?_
 rintro⟨z,⟨⟩⟩ h4 ⟨rfl,bp⟩
 simp only at bp
 subst bp
 (try dsimp only);rw[N6]
 by_cases hd:r.2.1<0∨2<r.2.1
 ·rw[if_pos hd] at hq
  rw[if_pos (by simpa using hd)]
  exact hq _ bT.drop
 rw[if_neg hd] at hq
 rw[if_neg (by simpa using hd)]
 refine N8 (fun z h'=>h'=h4∧z.1=decide (r.2.2.1<0∨2<r.2.2.1)) (A3h bT rfl ⟨rfl,rfl⟩) ?_
 rintro⟨z,⟨⟩⟩ h5 ⟨rfl,bp⟩
 simp only at bp
 subst bp
 (try dsimp only);rw[N6]
 by_cases dk:r.2.2.1<0∨2<r.2.2.1
 ·rw[if_pos dk] at hq
  rw[if_pos (by simpa using dk)]
  exact hq _ bT.drop
 ·rw[if_neg dk] at hq
  rw[if_neg (by simpa using dk)]
  exact hq _ bT.drop
structure A6A where
 o:Int
 v:Int
 fs:List B1q
 ls:List Z6
def c8(o:Int)(l:Z6):Bool:=decide (0≤l.1∧l.1<8∧l.1≠o)&&decide (B2y l.2=0)
def A0Z(a:A6A):Bool:=decide (0≤a.o∧a.o<8∧1≤a.v∧a.v≤9007199254740992∧a.fs.length≤64∧a.ls.length≤16)
def A0D(a:A6A):Bool:=A0Z a&&(a.fs.all S6&&a.ls.all (c8 a.o))
structure szA(a:A6A):Prop where
 fs:∀f∈a.fs,f.size≤B7l
 ls:∀l∈a.ls,szR l.2
abbrev vA(a:A6A)(sf sl:Slc):Value:=.agg #[.int .i64 a.o,.int .i64 a.v,.slice sf.a sf.len sf.cap,.slice sl.a sl.len sl.cap]
abbrev cA(a:A6A)(sf sl:Slc):C3E:=[.int .i64 a.o,.int .i64 a.v,.slice sf.a sf.len sf.cap,.slice sl.a sl.len sl.cap]
theorem B0Y{n:Int}{Q:Value→Heap→Prop}(hq:Q (.bool (decide (0≤n∧n<8))) h):N9 prog 174 #[.int .i64 n] h Q:=by
 refine A5G n h Q ?_
 delta A7k bn ie pu
 refine N8 (fun z h'=>h'=h∧z.1=decide (0≤n∧n<8)) ?_ ?_
 ·(try dsimp only);rw[N6]
  by_cases h1:0≤n
  ·rw[if_pos (by simpa using h1)];exact⟨rfl,by simp[h1]⟩
  ·rw[if_neg (by simpa using h1)];exact⟨rfl,by simp[h1]⟩
 rintro⟨z,⟨⟩⟩ h1 ⟨rfl,hz⟩
 simp only at hz
 subst hz
 exact hq
theorem A79{α:Type}{l:List α}{i:Nat}{x:α}(hx:l[i]? =some x):l.drop i=x::l.drop (i+1):=by
 obtain⟨hi,rfl⟩:=C4.1 hx
 exact List.drop_eq_getElem_cons hi
theorem B7n{sf:Slc}{fs:List B1q}(hs:sat h (N4 eS 1 sf fs::old h0::R))(ht:TP h0)(hz:∀f∈fs,f.size≤B7l)(hl:fs.length≤1000){Q:Value→Heap→Prop}
  (hq:∀h',sat h' (N4 eS 1 sf fs::old h0::R)→Q (.bool (!fs.all S6)) h'):
  N9 prog 175 #[.slice sf.a sf.len sf.cap,.func (.func 176) #[] #[]] h Q:=by
 refine l5 sf _ h Q ?_
 delta Y5 ci pu vs
 refine N3 ?_
 refine v8 sf _ h _ ?_
 delta j0 bn ie ix lt pu wi
 have hlen:=hs.own_len
 (try dsimp only);rw[N2]
 refine Y0 (γ:=Nat) (fun g c h'=>c.1=(((fs.length-g:Nat)):Int)∧g≤fs.length∧fs.all S6=(fs.drop (fs.length-g)).all S6∧sat h' (N4 eS 1 sf fs::old h0::R)) (fun g=>g) fs.length
  ⟨by simp,B5 _,by simp,hs⟩ ?_
 rintro g ⟨c,⟨⟩⟩ h1 ⟨hc,hg,ak,aa⟩
 simp only at hc
 subst hc
 (try dsimp only);rw[N6]
 by_cases hi:fs.length-g<fs.length
 ·rw[if_pos (by simp only[decide_eq_true_eq,hlen];omega)]
  obtain⟨f,hf⟩:∃f,fs[fs.length-g]? =some f:=⟨_,B2 hi⟩
  have jN:=hz f (E5 hf)
  rw[A79 hf,List.all_cons] at ak
  (try dsimp only);rw[N2]
  refine A0U (aa.aI A2I) hf fun a ha=>?_
  refine⟨f,by have:=ha 0 (.string f) rfl;rwa[Go.H.add_zero] at this,?_⟩
  refine⟨176,#[],#[],rfl,call176,?_⟩
  refine A0n f h1 _ ?_
  delta p5 cu pu
  refine N3 (A1r aa.p1 ht (E3 jN (by decide)) fun h2 ai=>⟨_,rfl,?_⟩)
  refine⟨!(A2E f==0),rfl,?_⟩
  unfold A2E
  (try dsimp only);rw[N6]
  cases bz:S6 f with
  |false=>
   rw[bz,F8] at ak
   rw[if_pos (by rfl)]
   simp only[C0,C5,N1]
   refine⟨(((fs.length-g:Nat)):Int),rfl,?_⟩
   have:=hq h2 ai.p1
   rw[ak] at this
   (try dsimp only);rw[show decide ((0:Int)≤(((fs.length-g:Nat)):Int))=true by simp]
   exact this
  |true=>
   rw[bz,F0] at ak
   rw[if_neg (by simp)]
   simp only[C0,C5,N1]
   exact .mk (g-1) (by omega) ⟨by simp only;rw[O8 (by omega) (by omega)];omega,by omega,by rw[ak,show fs.length-g+1=fs.length-(g-1) by omega],ai.p1⟩
 ·rw[if_neg (by simp only[decide_eq_true_eq,hlen];omega)]
  simp only[C0,C5,N1]
  refine⟨-1,rfl,?_⟩
  rw[show fs.drop (fs.length-g)=[] by simp;omega] at ak
  have:=hq h1 aa
  rw[ak] at this
  exact this
theorem B5c{a:Addr}{l:Z6}(ha:∀j v,(S0 l)[j]? =some v→O5 h (a.add j)=some v){Q:Z6→Heap→Prop}(hq:Q l h):N5 [.int .i64,.str,.int .i64,.int .i64,.str,.str] a h Q:=
 B3G (ts:=[.int .i64,.str,.int .i64,.int .i64,.str,.str]) l (fun i v hv=>ha i v hv) hq
theorem B8r{a:Addr}{l:Z6}{x:Nat}{cs:C3D}(hs:sat h (cells x cs::R))(he:cs=(S0 l).toArray){Q:A7l→Heap→Prop}(hq:Q l.2 h):N5 [.str,.int .i64,.int .i64,.str,.str] (Addr.add ⟨x,0,none⟩ 1) h Q:=by
 subst he
 refine B3G (ts:=[.str,.int .i64,.int .i64,.str,.str]) l.2 (fun i v hv=>?_) hq
 rw[O0,Addr.aO,hs.cell]
 match i,hv with
 |0,hv=>exact hv
 |1,hv=>exact hv
 |2,hv=>exact hv
 |3,hv=>exact hv
 |4,hv=>exact hv
 |j+5,hv=>cases(show(none:Option Value)=some v from hv)
theorem B7m{x:Nat}{a:A6A}{sf sl:Slc}{ls:List Z6}(hs:sat h (cells x (cA a sf sl).toArray::N4 S0 6 sl ls::old h0::R))(ht:TP h0)(hz:∀l∈ls,szR l.2)(hl:ls.length≤1000){Q:Value→Heap→Prop}
  (hq:∀h',sat h' (cells x (cA a sf sl).toArray::N4 S0 6 sl ls::old h0::R)→Q (.bool (!ls.all (c8 a.o))) h'):
  N9 prog 178 #[.slice sl.a sl.len sl.cap,.func (.func 179) #[] #[.pointer (some ⟨x,0,none⟩)]] h Q:=by
 refine p7 sl _ h Q ?_
 delta a6 ci pu vs
 refine N3 ?_
 refine A0i sl _ h _ ?_
 delta o7 bn ie ix pu vi w5 wi
 have hlen:=hs.p1.own_len
 (try dsimp only);rw[N2]
 refine Y0 (γ:=Nat) (fun g c h'=>c.1=(((ls.length-g:Nat)):Int)∧g≤ls.length∧ls.all (c8 a.o)=(ls.drop (ls.length-g)).all (c8 a.o)∧sat h' (cells x (cA a sf sl).toArray::N4 S0 6 sl ls::old h0::R)) (fun g=>g) ls.length
  ⟨by simp,B5 _,by simp,hs⟩ ?_
 rintro g ⟨c,⟨⟩⟩ h1 ⟨hc,hg,ak,aa⟩
 simp only at hc
 subst hc
 (try dsimp only);rw[N6]
 by_cases hi:ls.length-g<ls.length
 ·rw[if_pos (by simp only[decide_eq_true_eq,hlen];omega)]
  obtain⟨l,eu⟩:∃l,ls[ls.length-g]? =some l:=⟨_,B2 hi⟩
  have ng:=hz l (E5 eu)
  rw[A79 eu,List.all_cons] at ak
  (try dsimp only);rw[N2]
  refine A0U (aa.p1.aI B2q) eu fun p hp=>?_
  (try dsimp only);rw[N2]
  refine B5c hp ?_
  refine⟨179,#[],#[.pointer (some ⟨x,0,none⟩)],rfl,call179,?_⟩
  refine A0m l ⟨x,0,none⟩ h1 _ ?_
  delta o9 ad bn cb cu g3 ie ji ki nw pu vi w5
  refine U5 aa fun y h2 fq=>?_
  have ai:sat h2 (cells y (S0 l).toArray::cells x (cA a sf sl).toArray::N4 S0 6 sl ls::old h0::R):=fq
  clear fq
  refine N8 (fun z h'=>z.1=(!c8 a.o l)∧sat h' (cells y (S0 l).toArray::cells x (cA a sf sl).toArray::N4 S0 6 sl ls::old h0::R)) ?_ ?_
  ·unfold c8
   refine⟨l.1,by rw[O0];exact ai.cell 0,?_⟩
   refine N3 (B0Y ⟨_,rfl,?_⟩)
   (try dsimp only);rw[N6]
   by_cases h1:0≤l.1∧l.1<8
   ·rw[if_neg (by simp[h1])]
    refine⟨l.1,by rw[O0];exact ai.cell 0,?_⟩
    refine⟨a.o,by rw[O0];exact ai.p1.cell 0,?_⟩
    (try dsimp only);rw[N6]
    by_cases h2:l.1=a.o
    ·rw[if_pos (by simpa using h2)]
     exact⟨by simp[h2],ai⟩
    ·rw[if_neg (by simpa using h2)]
     refine B8r (a:=⟨y,0,none⟩) ai rfl ?_
     refine N3 (B5J (ai.re [3,0,1,2]) ht ng fun h3 aY=>⟨_,rfl,?_,aY.re [1,2,3,0]⟩)
     simp only[h1,h2,ne_eq,not_false_eq_true,and_self,decide_true,F0]
     by_cases h3:B2y l.2=0<;>simp[h3]
   ·rw[if_pos (by simp;omega)]
    refine⟨?_,ai⟩
    have:¬(0≤l.1∧l.1<8∧l.1≠a.o):=fun e=>h1 ⟨e.1,e.2.1⟩
    simp[this]
  rintro⟨z,⟨⟩⟩ h3 ⟨bp,aY⟩
  simp only at bp
  subst bp
  refine⟨!c8 a.o l,rfl,?_⟩
  (try dsimp only);rw[N6]
  cases bz:c8 a.o l with
  |false=>
   rw[bz,F8] at ak
   rw[if_pos (by rfl)]
   simp only[C0,C5,N1]
   refine⟨(((ls.length-g:Nat)):Int),rfl,?_⟩
   have:=hq h3 aY.drop
   rw[ak] at this
   (try dsimp only);rw[show decide ((0:Int)≤(((ls.length-g:Nat)):Int))=true by simp]
   exact this
  |true=>
   rw[bz,F0] at ak
   rw[if_neg (by simp)]
   simp only[C0,C5,N1]
   exact .mk (g-1) (by omega) ⟨by simp only;rw[O8 (by omega) (by omega)];omega,by omega,by rw[ak,show ls.length-g+1=ls.length-(g-1) by omega],aY.drop⟩
 ·rw[if_neg (by simp only[decide_eq_true_eq,hlen];omega)]
  simp only[C0,C5,N1]
  refine⟨-1,rfl,?_⟩
  rw[show ls.drop (ls.length-g)=[] by simp;omega] at ak
  have:=hq h1 aa
  rw[ak] at this
  exact this
theorem B66{a:A6A}{sf sl:Slc}(hs:sat h (N4 eS 1 sf a.fs::N4 S0 6 sl a.ls::old h0::R))(ht:TP h0)(hz:szA a){Q:Value→Heap→Prop}
  (hq:∀h',sat h' (N4 eS 1 sf a.fs::N4 S0 6 sl a.ls::old h0::R)→Q (.bool (A0D a)) h'):N9 prog 90 #[vA a sf sl] h Q:=by
 refine A03 (a.o,a.v,sf,sl,()) h Q ?_
 delta A0H az bn cb ie jc ji nw pu vi vs
 have ij:=hs.own_len
 have cD:=hs.p1.own_len
 refine U5 hs fun x h1 cy=>?_
 have aa:sat h1 (cells x (cA a sf sl).toArray::N4 eS 1 sf a.fs::N4 S0 6 sl a.ls::old h0::R):=cy
 clear cy
 refine N8 (fun z h'=>h'=h1∧z.1= !A0Z a) ?_ ?_
 ·unfold A0Z
  refine⟨a.o,by rw[O0];exact aa.cell 0,?_⟩
  refine N3 (B0Y ⟨_,rfl,?_⟩)
  (try dsimp only);rw[N6]
  by_cases c1:0≤a.o∧a.o<8
  ·rw[if_neg (by simp[c1])]
   refine⟨a.v,by rw[O0];exact aa.cell 1,?_⟩
   (try dsimp only);rw[N6]
   by_cases c2:a.v<1
   ·rw[if_pos (by simpa using c2)]
    refine⟨rfl,?_⟩
    have:¬(0≤a.o∧a.o<8∧1≤a.v∧a.v≤9007199254740992∧a.fs.length≤64∧a.ls.length≤16):=fun e=>by omega
    simp only[this,decide_false,H7]
   ·rw[if_neg (by simpa using c2)]
    refine⟨a.v,by rw[O0];exact aa.cell 1,?_⟩
    (try dsimp only);rw[N6]
    by_cases c3:9007199254740992<a.v
    ·rw[if_pos (by simpa using c3)]
     refine⟨rfl,?_⟩
     have:¬(0≤a.o∧a.o<8∧1≤a.v∧a.v≤9007199254740992∧a.fs.length≤64∧a.ls.length≤16):=fun e=>by omega
     simp only[this,decide_false,H7]
    ·rw[if_neg (by simpa using c3)]
     refine⟨sf,by rw[O0];exact aa.cell 2,?_⟩
     (try dsimp only);rw[N6,ij]
     by_cases c4:64<a.fs.length
     ·rw[if_pos (by simp only[decide_eq_true_eq];omega)]
      refine⟨rfl,?_⟩
      have:¬(0≤a.o∧a.o<8∧1≤a.v∧a.v≤9007199254740992∧a.fs.length≤64∧a.ls.length≤16):=fun e=>by omega
      simp only[this,decide_false,H7]
     ·rw[if_neg (by simp only[decide_eq_true_eq];omega)]
      refine⟨sl,by rw[O0];exact aa.cell 3,rfl,?_⟩
      rw[cD,←decide_not,I0]
      omega
  ·rw[if_pos (by simp;omega)]
   refine⟨rfl,?_⟩
   have:¬(0≤a.o∧a.o<8∧1≤a.v∧a.v≤9007199254740992∧a.fs.length≤64∧a.ls.length≤16):=fun e=>c1 ⟨e.1,e.2.1⟩
   simp only[this,decide_false,H7]
 rintro⟨z,⟨⟩⟩ h2 ⟨rfl,bp⟩
 simp only at bp
 subst bp
 unfold A0D at hq
 (try dsimp only);rw[N6]
 cases hh:A0Z a with
 |false=>
  rw[hh] at hq
  rw[if_pos (by rfl)]
  exact hq _ aa.drop
 |true=>
 rw[hh,F0] at hq
 rw[if_neg (by simp)]
 have hb:a.fs.length≤64∧a.ls.length≤16:=by
  unfold A0Z at hh
  rw[decide_eq_true_eq] at hh
  exact⟨hh.2.2.2.2.1,hh.2.2.2.2.2⟩
 refine⟨sf,by rw[O0];exact aa.cell 2,?_⟩
 refine N3 (B7n (aa.re [1,3,0,2]) ht hz.fs (by omega) fun h3 mU=>⟨_,rfl,?_⟩)
 have aY:sat h3 (cells x (cA a sf sl).toArray::N4 S0 6 sl a.ls::old h0::N4 eS 1 sf a.fs::R):=mU.re [2,3,1,0]
 refine N8 (fun z h'=>z.1=(a.fs.all S6&&a.ls.all (c8 a.o))∧sat h' (cells x (cA a sf sl).toArray::N4 S0 6 sl a.ls::old h0::N4 eS 1 sf a.fs::R)) ?_ ?_
 ·(try dsimp only);rw[N6]
  cases a.fs.all S6 with
  |false=>rw[if_neg (by simp)];exact⟨rfl,aY⟩
  |true=>
   rw[if_pos (by rfl)]
   refine⟨sl,by rw[O0];exact aY.cell 3,?_⟩
   refine N3 (B7m aY ht hz.ls (by omega) fun h4 bT=>⟨_,rfl,?_,bT⟩)
   simp
 rintro⟨z,⟨⟩⟩ h4 ⟨bp,bT⟩
 simp only at bp
 subst bp
 exact hq _ ((bT.re [3,1,2,0]).re [3,0,1,2]).drop
end
end Go.Proofs.YtmpgankhnfpoaaaGreatDoor
namespace Go.H
structure B9q(s:Slc)(xs:List Int)(g:Nat)(cur:C3D):Prop where
 a:s.a=some ⟨g,0,none⟩
 le:s.len≤s.cap
 len:s.len=xs.length
 size:cur.size=s.cap
 front:cur.toList.take s.len=xs.map (Value.int .u8)
 cap:s.cap≤9223372036854775807
def A6s(T:TypeId)(s:Slc)(xs:List Int):Asn:=fun m=>
 (s=⟨none,0,0⟩∧xs=[])∨exA (fun x:Nat×C3D=>star (pr (B9q s xs x.1 x.2)) (blk x.1 (.cells x.2 T (0,0)))) m
section
variable {h:Heap} {R:List Asn} {T:TypeId} {s:Slc} {xs:List Int}
theorem r6(hs:sat h (A6s T s xs::R)):(s=⟨none,0,0⟩∧xs=[]∧sat h R)∨∃g cur,B9q s xs g cur∧sat h (blk g (.cells cur T (0,0))::R):=by
 obtain⟨m,h1,a,r,hd,rfl,ha,hr⟩:=hs
 rcases ha with⟨h2,h3⟩|h2
 ·exact .inl ⟨h2,h3,r,(A5g h1 hd).2,hr⟩
 ·right
  have ah:sat h (exA (fun x:Nat×C3D=>star (pr (B9q s xs x.1 x.2)) (blk x.1 (.cells x.2 T (0,0))))::R):=⟨_,h1,a,r,hd,rfl,h2,hr⟩
  rw[sat.bC] at ah
  obtain⟨⟨g,cur⟩,ah⟩:=ah
  rw[sat.aH,sat.aN] at ah
  exact⟨g,cur,ah.1,ah.2⟩
theorem B6k{g:Nat}{cur:C3D}(ho:B9q s xs g cur)(hs:sat h (blk g (.cells cur T (0,0))::R)):sat h (A6s T s xs::R):=by
 have ah:sat h (exA (fun x:Nat×C3D=>star (pr (B9q s xs x.1 x.2)) (blk x.1 (.cells x.2 T (0,0))))::R):=by
  rw[sat.bC]
  refine⟨(g,cur),?_⟩
  rw[sat.aH,sat.aN]
  exact⟨ho,hs⟩
 exact ah.imp fun m hm=>.inr hm
theorem A9M(hs:sat h R):sat h (A6s T ⟨none,0,0⟩ []::R):=by
 obtain⟨m,h1,hr⟩:=hs
 exact⟨m,h1,fun _=>none,m,fun k=>.inl rfl,by funext k;rfl,.inl ⟨rfl,rfl⟩,hr⟩
theorem A5D{g:Nat}{cur:C3D}(hs:sat h (blk g (.cells cur T (0,0))::R))(i:Nat)(v:Value):sat (U7 h ⟨g,i,none⟩ v) (blk g (.cells (cur.setIfInBounds i v) T (0,0))::R):=by
 have af:=hs.lt
 have hg:=hs.get
 refine hs.bU ?_ fun k hk=>?_
 ·unfold U7
  rw[G7,if_pos rfl,hg]
  rfl
 ·unfold U7
  rw[G7,if_neg (fun e=>hk e.symm)]
theorem A9N{g:Nat}:∀(vs:C3E) (cur:C3D) (o i:Nat) {h:Heap} {R:List Asn},sat h (blk g (.cells cur T (0,0))::R)→o+i+vs.length≤cur.size→
  ∃cs':C3D,cs'.size=cur.size∧cs'.toList=cur.toList.take (o+i)++vs++cur.toList.drop (o+i+vs.length)∧sat (S8 h ⟨g,o,none⟩ vs i) (blk g (.cells cs' T (0,0))::R)
 |[],cs,o,i,h,R,hs,hl=>⟨cs,rfl,by simp,hs⟩
 |v::vs,cs,o,i,h,R,hs,hl=>by
  simp only[D8] at hl
  have h1:=A5D hs (o+i) v
  obtain⟨cs',e1,e2,h2⟩:=A9N vs (cs.setIfInBounds (o+i) v) o (i+1) h1 (by simp;omega)
  refine⟨cs',by simpa using e1,?_,by simpa[S8,Addr.aO] using h2⟩
  rw[e2,H4]
  have hlen:o+i<cs.toList.length:=by simp;omega
  rw[show o+(i+1)=(o+i)+1 from by omega,E4 (by simpa using hlen)]
  rw[List.getElem_set_self,List.take_set_of_le (B5 _),List.drop_set_of_lt (by omega)]
  simp only[D8,F1,G3,G2]
  rw[show o+i+1+vs.length=o+i+(vs.length+1) from by omega]
def A2D(t:B1q):List Int:=t.data.toList.map fun b=>(b.toNat:Int)
theorem j8(t:B1q):(A2D t).length=t.size:=by
 unfold A2D
 rw[C9,F2]
 rfl
theorem A9Q{t:B1q}{Q:Slc→Heap→Prop}(hs:sat h (A6s T s xs::R))(hb:xs.length+t.size≤140737488355328)
  (hq:∀s' h',sat h' (A6s T s' (xs++A2D t)::R)→Q s' h'):HM.append T 1 1 #[.int .u8 0] s t.size (A5S t) h Q:=by
 have al:(t.data.map fun b=>Value.int .u8 b.toNat).toList=(A2D t).map (Value.int .u8):=by simp[A2D,G5]
 have qc:(t.data.map fun b=>Value.int .u8 b.toNat).toList.length=t.size:=by rw[al,C9,j8]
 constructor
 ·intro hc
  refine⟨_,rfl,?_⟩
  rcases r6 hs with⟨rfl,rfl,aa⟩|⟨g,cur,hf,aa⟩
  ·have h0:t.size=0:=by simpa using hc
   have fw:=hq ⟨none,0,0⟩ h
   have e:A2D t=[]:=H9 (by rw[j8];exact h0)
   rw[e] at fw
   simp only[h0]
   exact fw (A9M aa)
  ·rw[hf.a]
   simp only[Addr.aO,M0,F5]
   have hlen:s.len+0+(t.data.map fun b=>Value.int .u8 b.toNat).toList.length≤cur.size:=by rw[qc,hf.size];omega
   have dF:=aa.get
   refine⟨fun i v hi=>?_,?_⟩
   ·have af:i<t.size:=by
     have:=(B3.1 hi).1
     simpa using this
    have dT:s.len+i<cur.size:=by rw[hf.size];omega
    refine⟨?_,?_,?_⟩
    ·simp[O5,dF,D1 dT]
    ·simp[V5,dF]
    ·rw[Array.getElem?_map] at hi
     obtain⟨b,_,rfl⟩:=Option.map_eq_some_iff.1 hi
     rfl
   ·obtain⟨cs',e1,e2,h2⟩:=A9N (t.data.map fun b=>Value.int .u8 b.toNat).toList cur s.len 0 aa hlen
    refine hq _ _ (B6k (g:=g) (cur:=cs') ⟨rfl,hc,by simp[hf.len,j8],by rw[e1];exact hf.size,?_,hf.cap⟩ h2)
    rw[e2,al]
    simp only[J8,C9,j8]
    rw[hf.front,←C7]
    have qy:s.len+t.size=(xs++A2D t).length:=by rw[D9,j8,hf.len]
    rw[qy,List.take_left' (by rw[C9])]
 ·intro hc
  have hl:s.len=xs.length∧A0x h s.a (s.len*1) (xs.map (Value.int .u8)).toArray:=by
   rcases r6 hs with⟨rfl,rfl,aa⟩|⟨g,cur,hf,aa⟩
   ·exact⟨rfl,rfl⟩
   ·refine⟨hf.len,?_⟩
    rw[hf.a]
    refine⟨by simp[hf.len],fun i v hi=>?_⟩
    have dF:=aa.get
    have h1:(xs.map (Value.int .u8))[i]? =some v:=by simpa using hi
    rw[←hf.front,G9] at h1
    split at h1
    ·rw[Addr.aO]
     simp only[O5,dF]
     simpa using h1
    ·cases h1
  have hR:sat h R:=hs.drop
  refine⟨by omega,growslice_fits hc (by omega),_,_,hl.2,rfl,fun c dg eR=>hq _ _ ?_⟩
  refine B6k (g:=h.size) ⟨rfl,dg,by simp[hl.1,j8],?_,?_,eR⟩ hR.push
  ·simp only[Array.size_append,I2,C9,Array.size_map,Builtin.zeroCells,Array.size_range]
   have:t.data.size=t.size:=rfl
   simp
   omega
  ·simp only[I4,al,←C7]
   rw[List.take_append_of_le_length (by rw[C9,D9,j8];omega),D7 (by rw[C9,D9,j8];omega)]
theorem B7c{hB:Heap}{g:Nat}{o:Obj}(hs:sat h (blk g o::old hB::R)):hB.size≤g:=by
 obtain⟨m,h1,a,r,hd,rfl,ha,a2,r2,dk,rfl,gk,kL⟩:=hs
 rcases I7 g hB.size with af|iS
 ·exfalso
  have h2:=gk g hB[g] (D1 af)
  rcases hd g with h3|h3
  ·rw[show a g=some o from ha] at h3;cases h3
  ·rw[j6 h2] at h3;cases h3
 ·exact iS
end
end Go.H
namespace Go.Proofs.YtmpgankhnfpoaaaGreatDoor
open Go.H
open Go.Proofs.Tryz
open Go.H Go.Proofs Go.Lib
abbrev m8:=List UInt8
def A0k(w n:Nat):m8:=(A98 w n).data.toList
def A3K(s:B1q):m8:=(B7h s).data.toList
theorem b7(w n:Nat):(A0k w n).length=w:=by
 unfold A0k
 rw[F2]
 exact A0q w n
theorem C0d(s:B1q):A3K s=A0k 2 s.size++s.data.toList:=by
 unfold A3K B7h A0k
 simp only[ByteArray.data_append,I4]
def A56(l:Z6):m8:=A0k 1 l.1.toNat++A0k 1 l.2.2.1.toNat++A0k 1 l.2.2.2.1.toNat++A3K l.2.1++A3K l.2.2.2.2.1++A3K l.2.2.2.2.2.1
def A9n(a:A6A):m8:=A0k 1 a.o.toNat++A0k 4 (a.v.toNat / 4294967296)++A0k 4 (a.v.toNat % 4294967296)++A0k 1 a.fs.length
def C2n(a:A6A):m8:=A9n a++a.fs.flatMap A3K++A0k 1 a.ls.length++a.ls.flatMap A56
def ofB(l:m8):B1q:=⟨l.toArray⟩
theorem B1f{f:B1q}(h:S6 f=true):f.size≤256:=A3i (A9r h)
theorem B0V{s:B1q}(h:W7 s=true):s.size≤256:=by
 unfold W7 at h
 rw[Bool.or_eq_true] at h
 rcases h with h|h
 ·rw[decide_eq_true_eq] at h
  subst h
  exact E9 _
 ·exact A3i (B15 h)
structure B5G(r:A7l):Prop where
 p:r.1.size≤256
 l:r.2.2.2.1.size≤256
 rm:r.2.2.2.2.1.size≤256
 d:0≤r.2.1∧r.2.1≤2
 q:0≤r.2.2.1∧r.2.2.1≤2
theorem C1Q{r:A7l}(h:B2y r=0):B5G r:=by
 unfold B2y at h
 split at h
 ·exact absurd h (by decide)
 split at h
 ·exact absurd h (by decide)
 split at h
 ·exact absurd h (by decide)
 split at h
 ·exact absurd h (by decide)
 rename_i h1 h2 h3 h4
 have eA:(W7 r.2.2.2.1&&W7 r.2.2.2.2.1)=true:=by simpa using h2
 rw[E8] at eA
 exact⟨B1f (by simpa using h1),B0V eA.1,B0V eA.2,by omega,by omega⟩
structure C22(a:A6A):Prop where
 o:0≤a.o∧a.o<8
 v:1≤a.v∧a.v≤9007199254740992
 nf:a.fs.length≤64
 nl:a.ls.length≤16
 fs:∀f∈a.fs,f.size≤256
 ls:∀l∈a.ls,(0≤l.1∧l.1<8)∧B5G l.2
theorem B5n{a:A6A}(h:A0D a=true):C22 a:=by
 unfold A0D A0Z at h
 simp only[E8,decide_eq_true_eq,G6] at h
 obtain⟨⟨h1,h2,h3,h4,h5,h6⟩,h7,h8⟩:=h
 refine⟨⟨h1,h2⟩,⟨h3,h4⟩,h5,h6,fun f hf=>B1f (h7 f hf),fun l hl=>?_⟩
 have:=h8 l hl
 unfold c8 at this
 simp only[E8,decide_eq_true_eq] at this
 exact⟨⟨this.1.1,this.1.2.1⟩,C1Q this.2⟩
theorem A1n{s:B1q}(h:s.size≤256):(A3K s).length≤258:=by
 rw[C0d,D9,b7,F2]
 have:s.data.size=s.size:=rfl
 omega
theorem A77{α:Type}{f:α→m8}{n:Nat}:∀{l:List α},(∀x∈l,(f x).length≤n)→(l.flatMap f).length≤l.length*n
 |[],_=>by simp
 |x::l,h=>by
  rw[D4,D9,D8,H3]
  have h1:=h x (B7 ..)
  have h2:=A77 (l:=l) fun y hy=>h y (B8 _ hy)
  omega
theorem B8a{l:Z6}(h:B5G l.2):(A56 l).length≤777:=by
 unfold A56
 simp only[D9,b7]
 have h1:=A1n h.p
 have h2:=A1n h.l
 have h3:=A1n h.rm
 omega
section
open Go.Proofs Go.Shelf
def j7:Go.Shelf.Ren:=⟨fun n=>match n with|156=>335|165=>400|166=>92|169=>75|240=>180|241=>436|276=>247|277=>468|n=>n,fun n=>match n with|31=>26|9=>9|3=>3|4=>4|0=>0|20=>20|72=>206|76=>248|70=>204|37=>80|75=>46|127=>305|164=>306|5=>5|80=>212|n=>n,fun n=>n⟩
theorem A68:Lays.n156 prog j7 where
 mixed:=by kernel_rfl
 f156:=func335.trans (congrArg some (by kernel_rfl))
 f165:=func400.trans (congrArg some (by kernel_rfl))
 f166:=Tryz.func92.trans (congrArg some (by kernel_rfl))
 f169:=func75.trans (congrArg some (by kernel_rfl))
 f240:=func180.trans (congrArg some (by kernel_rfl))
 f241:=func436.trans (congrArg some (by kernel_rfl))
 f276:=func247.trans (congrArg some (by kernel_rfl))
 f277:=func468.trans (congrArg some (by kernel_rfl))
 t0:=underlying0
 a0:=isAgg0
 z0:=sizeOf0
 v0:=zeroValue0
 t3:=underlying3
 a3:=isAgg3
 z3:=sizeOf3
 v3:=zeroValue3
 t4:=underlying4
 a4:=isAgg4
 z4:=sizeOf4
 v4:=zeroValue4
 t9:=underlying9
 a9:=isAgg9
 z9:=sizeOf9
 v9:=zeroValue9
 t20:=underlying20
 a20:=isAgg20
 z20:=sizeOf20
 v20:=zeroValue20
 t31:=underlying26
 a31:=isAgg26
 z31:=sizeOf26
 v31:=zeroValue26
 t37:=underlying80
 a37:=isAgg80
 z37:=sizeOf80
 v37:=zeroValue80
 t70:=underlying204
 a70:=isAgg204
 z70:=sizeOf204
 v70:=zeroValue204
 t72:=underlying206
 a72:=isAgg206
 z72:=sizeOf206
 v72:=zeroValue206
 t75:=underlying46
 a75:=isAgg46
 z75:=sizeOf46
 v75:=zeroValue46
 t76:=underlying248
 a76:=isAgg248
 z76:=sizeOf248
 v76:=zeroValue248
 t127:=underlying305
 a127:=isAgg305
 z127:=sizeOf305
 v127:=zeroValue305
 t164:=underlying306
 a164:=isAgg306
 z164:=sizeOf306
 v164:=zeroValue306
theorem A67:Builder.Extra prog j7 where
 sizeBuilder:=by kernel_rfl
 liesBuilder:=by kernel_rfl
 t5:=underlying5
 a5:=isAgg5
 z5:=sizeOf5
 v5:=zeroValue5
 infoByte:=by kernel_rfl
 cellsByte:=by kernel_rfl
 sizeByte:=by kernel_rfl
 neB5:=by decide
open Go.H Go.Proofs Go.Lib
open Go.RowKit (Below)
abbrev A93(b:Nat):Value:=.pointer (some ⟨b,0,none⟩)
def A3L(b:Nat)(xs:List Int):Asn:=exA fun x:Value×Slc=>star (pr (x.1=.pointer none∨x.1=A93 b)) (star (blk b (.cells #[x.1,.slice x.2.a x.2.len x.2.cap] 206 (0,0))) (A6s 5 x.2 xs))
variable {h h0:Heap} {R:List Asn}
theorem A5E{b:Nat}{xs:List Int}:sat h (A3L b xs::R)↔∃(p:Value) (s:Slc),(p=.pointer none∨p=A93 b)∧sat h (blk b (.cells #[p,.slice s.a s.len s.cap] 206 (0,0))::A6s 5 s xs::R):=by
 unfold A3L
 rw[sat.bC]
 constructor
 ·rintro⟨⟨p,s⟩,hs⟩
  rw[sat.aH,sat.aN,sat.aH] at hs
  exact⟨p,s,hs⟩
 ·rintro⟨p,s,hs⟩
  refine⟨(p,s),?_⟩
  rw[sat.aH,sat.aN,sat.aH]
  exact hs
theorem A9K{b:Nat}{xs:List Int}(hs:sat h (A3L b xs::R)){Q:Value→Heap→Prop}
  (hq:∀(s:Slc) h',sat h' (blk b (.cells #[A93 b,.slice s.a s.len s.cap] 206 (0,0))::A6s 5 s xs::R)→Q (.tuple #[]) h'):N9 prog 180 #[A93 b] h Q:=fun w hw=>by
 subst hw
 obtain⟨p,s,hp,hs⟩:=A5E.1 hs
 have hg:=hs.get
 rcases hp with rfl|rfl
 ·refine(Any.Builder_copyCheck_fresh {A68 with} A67.toX72 b w (by simp[World.cell?,hg]) (by simp[World.shape?,hg];rfl) (by simp[World.frozen?,hg])).mono ?_
  rintro e w' ⟨rfl,rfl⟩
  exact⟨_,rfl,⟨rfl,rfl,rfl⟩,hq s _ (A5D hs 0 (A93 b))⟩
 ·refine(Any.Builder_copyCheck_used {A68 with} A67.toX72 b w (by simp[World.cell?,hg])).mono ?_
  rintro e w' ⟨rfl,rfl⟩
  exact⟨_,rfl,⟨rfl,rfl,rfl⟩,hq s _ hs⟩
theorem A9S{b:Nat}{xs:List Int}{t:B1q}(hs:sat h (A3L b xs::R))(hb:xs.length+t.size≤140737488355328){Q:Value→Heap→Prop}
  (hq:∀h',sat h' (A3L b (xs++A2D t)::R)→Q (.tuple #[.int .i64 ((t.size:Nat):Int),.nilIface]) h'):N9 prog 92 #[A93 b,.string t] h Q:=by
 refine k8 (some ⟨b,0,none⟩) t h Q ?_
 delta X8 bn cx kc nn pu sx vs
 refine Z1 (A9K hs fun s h1 aa=>⟨(),rfl,?_⟩)
 have hg:=aa.get
 refine⟨_,rfl,s,by rw[O0];simp[O5,hg],?_⟩
 (try dsimp only);rw[N2]
 refine A9Q aa.p1 hb fun s' h2 ai=>?_
 have fN:=ai.p1.get
 refine⟨_,rfl,?_⟩
 (try dsimp only);rw[N2,O0]
 refine⟨by simp[O5,fN],by simp[V5,fN],rfl,?_⟩
 exact hq _ (A5E.2 ⟨A93 b,s',.inr rfl,A5D ai.p1 1 (.slice s'.a s'.len s'.cap)⟩)
theorem B4h{b:Nat}{xs:List Int}{hB:Heap}(hs:sat h (A3L b xs::old hB::R))(nL:hB.size≤b)(hx:∀x∈xs,0≤x∧x<256){Q:Value→Heap→Prop}
  (hq:∀h',(∀(k:Nat) o,hB[k]? =some o→h'[k]? =some o)→Q (.string (P1 xs)) h'):N9 prog 75 #[A93 b] h Q:=fun w hw=>by
 subst hw
 obtain⟨p,s,hp,hs⟩:=A5E.1 hs
 have hg:=hs.get
 have eb:byteCells (xs.map fun x:Int=>UInt8.ofNat x.toNat)=xs.map (Value.int .u8):=by
  unfold byteCells
  rw[F6]
  refine K0 fun x pZ=>?_
  obtain⟨h1,h2⟩:=hx x pZ
  simp only[Function.comp_apply,UInt8.toNat_ofNat']
  congr 1
  omega
 have kg:BuilderAt 206 5 hB.size b p (byteCells (xs.map fun x:Int=>UInt8.ofNat x.toNat)) w:=by
  rw[eb]
  rcases r6 hs.p1 with⟨rfl,rfl,-⟩|⟨g,cur,hf,aa⟩
  ·exact⟨nL,_,hg,⟨rfl,.inl ⟨rfl,rfl⟩⟩,by simp[Value.ownBlock]⟩
  ·have ir:=aa.get
   have hle:hB.size≤g:=B7c (aa.re [0,2,1])
   refine⟨nL,_,hg,⟨by simp,.inr ⟨g,s.cap,cur,by rw[hf.a,hf.len];simp,hle,ir,by rw[C9,←hf.len];exact hf.le,hf.cap,by rw[hf.size,M0],?_⟩⟩,?_⟩
   ·rw[C9,M0,←hf.len]
    exact hf.front
   ·rw[hf.a]
    simp only[Value.ownBlock,ne_eq,C3]
    rintro rfl
    rw[hg] at ir
    cases ir
 have np:IsBuilder 206 5 hB.size b (byteCells (xs.map fun x:Int=>UInt8.ofNat x.toNat)) w:=by
  rcases hp with rfl|rfl
  ·exact .inl kg
  ·exact .inr kg
 have rJ:hB.size≤w.heap.size:=E3 nL (Nat.le_of_lt hs.lt)
 refine(Any.Builder_String_any (ρ:=j7) {A68 with} A67 hB.size b (xs.map fun x:Int=>UInt8.ofNat x.toNat) w np rJ).mono ?_
 rintro e w' ⟨rfl,ke⟩
 have e1:(⟨(xs.map fun x:Int=>UInt8.ofNat x.toNat).toArray⟩:B1q)=P1 xs:=data_inj (by rw[A3w])
 rw[e1]
 refine⟨_,rfl,A1V ke,hq _ fun k o hk=>?_⟩
 have af:=(B3.1 hk).1
 rw[ke.block k af]
 exact(hs.re [2,0,1]).bJ hk
end
section
open Go.H Go.Proofs Go.Lib
variable {h h0:Heap} {R:List Asn}
def iL(l:m8):List Int:=l.map fun b=>(b.toNat:Int)
theorem B8x(l:m8):(iL l).length=l.length:=C9 ..
theorem B8y(a b:m8):iL (a++b)=iL a++iL b:=C7 ..
theorem B8w(t:B1q):A2D t=iL t.data.toList:=rfl
theorem C2B(l:m8):P1 (iL l)=ofB l:=by
 refine data_inj ?_
 rw[A3w]
 unfold iL ofB
 rw[F6]
 have:((fun n:Int=>UInt8.ofNat n.toNat)∘fun b:UInt8=>(b.toNat:Int))=id:=by
  funext b
  simp
 rw[this,List.map_id]
theorem B96(l:m8):∀x∈iL l,0≤x∧x<256:=fun x hx=>by
 obtain⟨b,_,rfl⟩:=H8.1 hx
 have:=K6 b
 omega
theorem j5{b w n:Nat}{L:m8}(hs:sat h (A3L b (iL L)::R))(hw:A0c w)(hn:n<256 ^ w)(hL:L.length≤1000000){Q:Value→Heap→Prop}
  (hq:∀h',sat h' (A3L b (iL (L++A0k w n))::R)→Q (.tuple #[]) h'):N9 prog 91 #[.int .i64 w,.int .i64 n,A93 b] h Q:=by
 refine A3O w n ⟨b,0,none⟩ h Q ?_
 delta A31 bn pu vi
 refine Z1 (A4x hs hw hn fun h1 aa=>⟨(A98 w n,0,()),rfl,?_⟩)
 refine Z1 (A9S aa (by rw[B8x,A0q];have:=B7X hw;omega) fun h2 ai=>⟨(_,.nilIface,()),rfl,?_⟩)
 rw[B8w,←B8y] at ai
 exact hq _ ai
theorem A9I{b:Nat}{L:m8}{A:Asn}{st:Slc}{ts:List B1q}(hs:sat h (A3L b (iL L)::A::R))(hA:∀{h R},sat h (A::R)→P6 eS 1 h st ts)(hz:∀t∈ts,t.size≤256)(hl:ts.length≤64)(hL:L.length≤100000){Q:Value→Heap→Prop}
  (hq:∀h',sat h' (A3L b (iL (L++ts.flatMap A3K))::A::R)→Q (.tuple #[]) h'):N9 prog 93 #[.slice st.a st.len st.cap,A93 b] h Q:=by
 refine A3N st ⟨b,0,none⟩ h Q ?_
 delta A30 bn ie ix lt pu wi
 have hlen:=(hA hs.p1).1
 (try dsimp only);rw[N2]
 refine Y0 (γ:=Nat) (fun g c h'=>c.1=(((ts.length-g:Nat)):Int)∧g≤ts.length∧sat h' (A3L b (iL (L++(ts.take (ts.length-g)).flatMap A3K))::A::R)) (fun g=>g) ts.length
  ⟨by simp,B5 _,by simpa using hs⟩ ?_
 rintro g ⟨c,⟨⟩⟩ h1 ⟨hc,hg,aa⟩
 simp only at hc
 subst hc
 (try dsimp only);rw[N6]
 by_cases hi:ts.length-g<ts.length
 ·rw[if_pos (by simp only[decide_eq_true_eq,hlen];omega)]
  obtain⟨t,ht⟩:∃t,ts[ts.length-g]? =some t:=⟨_,B2 hi⟩
  have qh:=hz t (E5 ht)
  have jO:((ts.take (ts.length-g)).flatMap A3K).length≤(ts.take (ts.length-g)).length*258:=A77 fun x hx=>A1n (hz x (E6 hx))
  rw[E2] at jO
  have cN:(L++(ts.take (ts.length-g)).flatMap A3K).length≤1000000:=by
   rw[D9]
   have:min (ts.length-g) ts.length*258≤64*258:=F9 _ (by omega)
   omega
  (try dsimp only);rw[N2]
  refine A0U (hA aa.p1) ht fun p hp=>?_
  refine⟨t,by have:=hp 0 (.string t) rfl;rwa[Go.H.add_zero] at this,?_⟩
  refine Z1 (B7y aa (by omega) fun h2 ai=>⟨(B7h t,0,()),rfl,?_⟩)
  have qR:(B7h t).size≤258:=by
   have:=A1n qh
   unfold A3K at this
   rw[F2] at this
   exact this
  refine Z1 (A9S ai (by rw[B8x];show _+(B7h t).size≤_;omega) fun h3 aY=>⟨(_,.nilIface,()),rfl,?_⟩)
  rw[B8w,←B8y] at aY
  simp only[C0,C5,N1]
  refine .mk (g-1) (by omega) ⟨by simp only;rw[O8 (by omega) (by omega)];omega,by omega,?_⟩
  rw[show ts.length-(g-1)=ts.length-g+1 by omega,List.take_add_one,ht,J9]
  simp only[Option.toList_some,D4,List.flatMap_nil,I3,←F1]
  exact aY
 ·rw[if_neg (by simp only[decide_eq_true_eq,hlen];omega)]
  simp only[C0,C5,N1]
  rw[D7 (by omega)] at aa
  exact hq _ aa
theorem C0i(n:Nat)(hn:n<9223372036854775808):A0e .and .i64 (n:Int) 4294967295=((n % 4294967296:Nat):Int):=by
 show IntKind.wrap .i64 (((BitVec.ofInt 64 (n:Int)&&& BitVec.ofInt 64 4294967295).toNat:Nat):Int)=_
 rw[show(4294967295:Int)=((4294967295:Nat):Int) from rfl,BitVec.ofInt_natCast,BitVec.ofInt_natCast,BitVec.toNat_and,BitVec.toNat_ofNat,BitVec.toNat_ofNat,Nat.mod_eq_of_lt (by omega),Nat.mod_eq_of_lt (by omega)]
 rw[show(4294967295:Nat)=2 ^ 32-1 from rfl,Nat.and_two_pow_sub_one_eq_mod,show(2 ^ 32:Nat)=4294967296 from rfl]
 have:=Nat.mod_lt n (show 4294967296>0 by decide)
 exact O8 (by omega) (by omega)
theorem B8N(n:Nat):Int.fdiv (n:Int) (2 ^ (min (Int.toNat 32) (IntKind.bits .i64)))=((n / 4294967296:Nat):Int):=by
 have e:((2:Int) ^ (min (Int.toNat 32) (IntKind.bits .i64)))=((4294967296:Nat):Int):=by decide
 rw[e,Int.fdiv_eq_ediv_of_nonneg _ (G1 _),←Int.natCast_ediv]
theorem B8W{β:Type}{o:Obj}{f:Nat→HM β}{Q:β→Heap→Prop}(hq:f h.size (h.push o) Q):(HM.bind (HM.new o) f) h Q:=hq
theorem V2{β:Type}{P:Program}{f:FuncId}{first captured args:C3D}{g:Unit→HM β}{Q:β→Heap→Prop}(bz:Q0 P f)(hc:N9 P f (first++args++captured) h fun v h'=>v=.tuple #[]∧g () h' Q):
  (HM.bind (A1q P [] (.func (.func f) first captured) args) g) h Q:=
 ⟨f,first,captured,rfl,bz,N9.mono hc fun v h' hv=>⟨(),hv.1,hv.2⟩⟩
theorem B9c{a:A6A}{sf sl:Slc}(hs:sat h (N4 eS 1 sf a.fs::N4 S0 6 sl a.ls::old h0::R))(ht:TP h0)(hz:szA a){Q:Value→Heap→Prop}
  (hq:∀h',sat h' (N4 eS 1 sf a.fs::N4 S0 6 sl a.ls::old h0::R)→Q (if A0D a=true then .tuple #[.string (ofB (C2n a)),.int .u8 0] else .tuple #[.string (ByteArray.mk #[]),.int .u8 129]) h'):
  N9 prog 36 #[vA a sf sl] h Q:=by
 refine A6w (a.o,a.v,sf,sl,()) h Q ?_
 delta A9R ad az bn cb ct ie ix jc ji ki kt nw pu sn ve vi vs vz w5 wi
 refine U5 hs fun x h1 cy=>?_
 have aa:sat h1 (cells x (cA a sf sl).toArray::N4 eS 1 sf a.fs::N4 S0 6 sl a.ls::old h0::R):=cy
 clear cy
 refine A63 (ts:=[.int .i64,.int .i64,.slc,.slc]) (a.o,a.v,sf,sl,()) aa rfl ?_
 refine N3 (B66 (aa.re [1,2,3,0]) ht hz fun hB jv=>⟨_,rfl,?_⟩)
 have gY:sat hB (cells x (cA a sf sl).toArray::N4 eS 1 sf a.fs::N4 S0 6 sl a.ls::old h0::R):=jv.re [3,0,1,2]
 clear jv aa hs
 (try dsimp only);rw[N6]
 cases hg:A0D a with
 |false=>
  rw[if_pos (by rfl)]
  have:=hq _ gY.drop
  rw[hg] at this
  exact this
 |true=>
 rw[if_neg (by simp)]
 have G:=B5n hg
 obtain⟨O,hO⟩:=F7 G.o.1
 obtain⟨V,hV⟩:=F7 (show 0≤a.v by have:=G.v.1;omega)
 have sM:O<8:=by have:=G.o.2;omega
 have sL:V≤9007199254740992:=by have:=G.v.2;omega
 have rowF:∀{h:Heap} {R:List Asn},sat h (old hB::R)→P6 eS 1 h sf a.fs:=fun hh=>((gY.p1).aI A2I).old hh
 have rowK:∀{h:Heap} {R:List Asn},sat h (old hB::R)→P6 S0 6 h sl a.ls:=fun hh=>((gY.re [2,0,1]).aI B2q).old hh
 have cX:∀{h:Heap} {R:List Asn} {i:Nat} {v:Value},(cA a sf sl)[i]? =some v→sat h (old hB::R)→O5 h ⟨x,i,none⟩=some v:=fun hc hh=>hh.aU (by rw[gY.cell];simpa using hc)
 have qv:sf.len=a.fs.length:=gY.p1.own_len
 have eu:sl.len=a.ls.length:=(gY.re [2,0,1]).own_len
 have db:sat (hB.push (.cells #[.pointer none,.slice none 0 0] 206)) (A3L hB.size (iL [])::old hB::[]):=
  A5E.2 ⟨.pointer none,⟨none,0,0⟩,.inl rfl,((A9M (T:=5) (sat_old hB).push).p1)⟩
 refine B8W ?_
 (try dsimp only)
 generalize hB.push (.cells #[.pointer none,.slice none 0 0] 206)=h2 at db⊢
 generalize qZ:hB.size=b at db⊢
 refine⟨a.o,by rw[O0];exact cX rfl db.p1,?_⟩
 (try dsimp only);rw[hO]
 refine V2 call91 (j5 (w:=1) (n:=O) db (.inl rfl) (by omega) (by simp) fun h3 aY=>⟨rfl,?_⟩)
 refine⟨a.v,by rw[O0];exact cX rfl aY.p1,by decide,?_⟩
 (try dsimp only);rw[hV,B8N]
 refine V2 call91 (j5 (w:=4) (n:=V / 4294967296) aY (.inr (.inr rfl)) (by have:V / 4294967296≤V:=Nat.div_le_self _ _;omega) (by simp[b7]) fun h4 bT=>⟨rfl,?_⟩)
 refine⟨a.v,by rw[O0];exact cX rfl bT.p1,?_⟩
 (try dsimp only);rw[hV,C0i V (by omega)]
 refine V2 call91 (j5 (w:=4) (n:=V % 4294967296) bT (.inr (.inr rfl)) (by omega) (by simp[b7]) fun h5 gF=>⟨rfl,?_⟩)
 refine⟨sf,by rw[O0];exact cX rfl gF.p1,?_⟩
 (try dsimp only);rw[qv]
 refine V2 call91 (j5 (w:=1) (n:=a.fs.length) gF (.inl rfl) (by have:=G.nf;omega) (by simp[b7]) fun h6 fZ=>⟨rfl,?_⟩)
 have eH:[]++A0k 1 O++A0k 4 (V / 4294967296)++A0k 4 (V % 4294967296)++A0k 1 a.fs.length=A9n a:=by
  unfold A9n
  rw[hO,hV]
  rfl
 rw[eH] at fZ
 have rG:(A9n a).length=10:=by unfold A9n;simp[b7]
 clear gF bT aY db
 refine⟨sf,by rw[O0];exact cX rfl fZ.p1,?_⟩
 refine V2 call93 (A9I (A:=old hB) fZ rowF G.fs G.nf (by omega) fun h7 mT=>⟨rfl,?_⟩)
 have sN:(A9n a++a.fs.flatMap A3K).length≤17000:=by
  rw[D9,rG]
  have h1:(a.fs.flatMap A3K).length≤a.fs.length*258:=A77 fun f hf=>A1n (G.fs f hf)
  have:=G.nf
  omega
 refine⟨sl,by rw[O0];exact cX rfl mT.p1,?_⟩
 (try dsimp only);rw[eu]
 refine V2 call91 (j5 (w:=1) (n:=a.ls.length) mT (.inl rfl) (by have:=G.nl;omega) (by omega) fun h8 kJ=>⟨rfl,?_⟩)
 clear mT fZ
 generalize jB:A9n a++a.fs.flatMap A3K++A0k 1 a.ls.length=pre at kJ
 have oD:pre.length≤17001:=by rw[←jB,D9,b7];omega
 refine⟨sl,by rw[O0];exact cX rfl kJ.p1,?_⟩
 (try dsimp only);rw[N2]
 have sC:=G.nl
 refine Y0 (γ:=Nat) (hb:=fun s=>by
   repeat' with_reducible first
    |refine @A58 _ _ _ _ ?_ (fun _=>?_)
    |refine @A9b _ _ _ _ ?_ ?_
   all_goals infer_instance)
  (fun g c h'=>c.1=(((a.ls.length-g:Nat)):Int)∧g≤a.ls.length∧sat h' (A3L b (iL (pre++(a.ls.take (a.ls.length-g)).flatMap A56))::old hB::[])) (fun g=>g) a.ls.length
  ⟨by simp,B5 _,by simpa using kJ⟩ ?_
 clear kJ
 rintro g ⟨c,⟨⟩⟩ h9 ⟨hc,ir,bF⟩
 simp only at hc
 subst hc
 (try dsimp only);rw[N6]
 by_cases hi:a.ls.length-g<a.ls.length
 ·rw[if_pos (by simp only[decide_eq_true_eq,eu];omega)]
  obtain⟨l,hl⟩:∃l,a.ls[a.ls.length-g]? =some l:=⟨_,B2 hi⟩
  obtain⟨⟨oL,sE⟩,ig⟩:=G.ls l (E5 hl)
  have rv:(pre++(a.ls.take (a.ls.length-g)).flatMap A56).length≤40000:=by
   rw[D9]
   have h1:((a.ls.take (a.ls.length-g)).flatMap A56).length≤(a.ls.take (a.ls.length-g)).length*777:=A77 fun y hy=>B8a (G.ls y (E6 hy)).2
   rw[E2] at h1
   have:min (a.ls.length-g) a.ls.length*777≤16*777:=F9 _ (by omega)
   omega
  have jl:(a.ls.take (a.ls.length-(g-1))).flatMap A56=(a.ls.take (a.ls.length-g)).flatMap A56++A56 l:=by
   rw[show a.ls.length-(g-1)=a.ls.length-g+1 by omega,List.take_add_one,hl,J9]
   simp
  generalize ru:pre++(a.ls.take (a.ls.length-g)).flatMap A56=L0 at bF rv
  (try dsimp only);rw[N2]
  refine A0U (rowK bF.p1) hl fun p hp=>?_
  (try dsimp only);rw[N2]
  refine B5c hp ?_
  refine U5 bF fun y nU gH=>?_
  (try dsimp only);rw[N2]
  refine A2q gH rfl rfl fun nT gG=>?_
  have fu:sat nT (A3L b (iL L0)::cells y (S0 l).toArray::old hB::[]):=(show sat nT (cells y (S0 l).toArray::A3L b (iL L0)::old hB::[]) from gG).p1
  clear gG gH bF
  obtain⟨n1,oI⟩:=F7 oL
  obtain⟨n2,eW⟩:=F7 ig.d.1
  obtain⟨n3,oH⟩:=F7 ig.q.1
  have b1:n1<8:=by omega
  have b2:n2≤2:=by have:=ig.d.2;omega
  have b3:n3≤2:=by have:=ig.q.2;omega
  refine⟨l.1,by rw[O0];exact fu.p1.cell 0,?_⟩
  (try dsimp only);rw[oI]
  refine V2 call91 (j5 (w:=1) (n:=n1) fu (.inl rfl) (by omega) (by omega) fun rR ft=>⟨rfl,?_⟩)
  refine⟨l.2.2.1,by rw[O0,Addr.aO];exact ft.p1.cell 2,?_⟩
  (try dsimp only);rw[eW]
  refine V2 call91 (j5 (w:=1) (n:=n2) ft (.inl rfl) (by omega) (by simp[b7];omega) fun sU gZ=>⟨rfl,?_⟩)
  refine⟨l.2.2.2.1,by rw[O0,Addr.aO];exact gZ.p1.cell 3,?_⟩
  (try dsimp only);rw[oH]
  refine V2 call91 (j5 (w:=1) (n:=n3) gZ (.inl rfl) (by omega) (by simp[b7];omega) fun sT fr=>⟨rfl,?_⟩)
  refine⟨l.2.1,by rw[O0,Addr.aO];exact fr.p1.cell 1,?_⟩
  refine⟨l.2.2.2.2.1,by rw[O0,Addr.aO];exact fr.p1.cell 4,?_⟩
  refine⟨l.2.2.2.2.2.1,by rw[O0,Addr.aO];exact fr.p1.cell 5,?_⟩
  refine U5 fr fun z rQ jy=>?_
  have mW:sat rQ (A3L b (iL (L0++A0k 1 n1++A0k 1 n2++A0k 1 n3))::N4 eS 1 ⟨some ⟨z,0,none⟩,3,3⟩ [l.2.1,l.2.2.2.2.1,l.2.2.2.2.2.1]::cells y (S0 l).toArray::old hB::[]):=
   (B3B (xs:=[l.2.1,l.2.2.2.2.1,l.2.2.2.2.2.1]) jy).p1
  clear jy fr gZ ft fu
  refine V2 call93 (A9I (st:=⟨some ⟨z,0,none⟩,3,3⟩) mW (fun hh=>hh.aI A2I) (fun t oy=>?_) (by simp) (by simp[b7];omega) fun sS mV=>⟨rfl,?_⟩)
  ·simp only[B9,K3,or_false] at oy
   rcases oy with rfl|rfl|rfl
   ·exact ig.p
   ·exact ig.l
   ·exact ig.rm
  simp only[C0,C5,N1]
  refine .mk (g-1) (by omega) ⟨by simp only;rw[O8 (by omega) (by omega)];omega,by omega,?_⟩
  have e1:pre++(a.ls.take (a.ls.length-(g-1))).flatMap A56=L0++A0k 1 n1++A0k 1 n2++A0k 1 n3++[l.2.1,l.2.2.2.2.1,l.2.2.2.2.2.1].flatMap A3K:=by
   rw[jl,←F1,ru]
   unfold A56
   rw[oI,eW,oH]
   simp[F1]
  rw[e1]
  exact(mV.re [0,3,1,2]).re [2,3,0,1]|>.drop.drop
 ·rw[if_neg (by simp only[decide_eq_true_eq,eu];omega)]
  simp only[C0,C5,N1]
  rw[D7 (by omega)] at bF
  have e1:pre++a.ls.flatMap A56=C2n a:=by rw[←jB];rfl
  rw[e1] at bF
  refine N3 (B4h bF (Nat.le_of_eq qZ) (B96 _) fun nU qG=>⟨_,rfl,?_⟩)
  have:=hq nU (gY.grow qG).drop
  rw[hg,if_pos rfl] at this
  rw[C2B]
  exact this
end
section
open Go.H Go.Proofs Go.Lib
variable {h h0:Heap} {R:List Asn}
theorem B46{a:A6A}{sf sl:Slc}(hs:sat h (N4 eS 1 sf a.fs::N4 S0 6 sl a.ls::R))(hz:szA a){Q:Value→Heap→Prop}
  (hq:∀h',sat h' (N4 eS 1 sf a.fs::N4 S0 6 sl a.ls::R)→Q (.bool (A0D a)) h'):N9 prog 35 #[vA a sf sl] h Q:=by
 refine A5W (a.o,a.v,sf,sl,()) h Q ?_
 delta A8P ad bn ci g3 ie ix jc ji lt nw pu sn ve vi vs w5 wi
 have ij:=hs.own_len
 have cD:=hs.p1.own_len
 refine U5 hs fun x h1 cy=>?_
 have aa:sat h1 (cells x (cA a sf sl).toArray::N4 eS 1 sf a.fs::N4 S0 6 sl a.ls::R):=cy
 clear cy
 refine N8 (fun z h'=>h'=h1∧z.1= !A0Z a) ?_ ?_
 ·unfold A0Z
  have bad:¬(0≤a.o∧a.o<8∧1≤a.v∧a.v≤9007199254740992∧a.fs.length≤64∧a.ls.length≤16)→(h1=h1∧true= !decide (0≤a.o∧a.o<8∧1≤a.v∧a.v≤9007199254740992∧a.fs.length≤64∧a.ls.length≤16)):=fun e=>⟨rfl,by simp only[e,decide_false,H7]⟩
  refine⟨a.o,by rw[O0];exact aa.cell 0,?_⟩
  (try dsimp only);rw[N6]
  by_cases c0:a.o<0
  ·rw[if_pos (by simpa using c0)];exact bad fun e=>by omega
  rw[if_neg (by simpa using c0)]
  refine⟨a.o,by rw[O0];exact aa.cell 0,?_⟩
  (try dsimp only);rw[N6]
  by_cases c1:8≤a.o
  ·rw[if_pos (by simpa using c1)];exact bad fun e=>by omega
  rw[if_neg (by simpa using c1)]
  refine⟨a.v,by rw[O0];exact aa.cell 1,?_⟩
  (try dsimp only);rw[N6]
  by_cases c2:a.v<1
  ·rw[if_pos (by simpa using c2)];exact bad fun e=>by omega
  rw[if_neg (by simpa using c2)]
  refine⟨a.v,by rw[O0];exact aa.cell 1,?_⟩
  (try dsimp only);rw[N6]
  by_cases c3:9007199254740992<a.v
  ·rw[if_pos (by simpa using c3)];exact bad fun e=>by omega
  rw[if_neg (by simpa using c3)]
  refine⟨sf,by rw[O0];exact aa.cell 2,?_⟩
  (try dsimp only);rw[N6,ij]
  by_cases c4:64<a.fs.length
  ·rw[if_pos (by simp only[decide_eq_true_eq];omega)];exact bad fun e=>by omega
  rw[if_neg (by simp only[decide_eq_true_eq];omega)]
  refine⟨sl,by rw[O0];exact aa.cell 3,rfl,?_⟩
  rw[cD,←decide_not,I0]
  omega
 rintro⟨z,⟨⟩⟩ h2 ⟨rfl,bp⟩
 simp only at bp
 subst bp
 unfold A0D at hq
 (try dsimp only);rw[N6]
 cases hh:A0Z a with
 |false=>
  rw[hh] at hq
  rw[if_pos (by rfl)]
  exact hq _ aa.drop
 |true=>
 rw[hh,F0] at hq
 rw[if_neg (by simp)]
 have hb:a.fs.length≤64∧a.ls.length≤16:=by
  unfold A0Z at hh
  rw[decide_eq_true_eq] at hh
  exact⟨hh.2.2.2.2.1,hh.2.2.2.2.2⟩
 (try dsimp only);rw[N2]
 refine Y0 (γ:=Nat) (hb:=fun s=>by
   repeat' with_reducible first
    |refine @A58 _ _ _ _ ?_ (fun _=>?_)
    |refine @A9b _ _ _ _ ?_ ?_
   all_goals infer_instance)
  (fun g c h'=>c.1=(((a.fs.length-g:Nat)):Int)∧g≤a.fs.length∧a.fs.all S6=(a.fs.drop (a.fs.length-g)).all S6∧sat h' (cells x (cA a sf sl).toArray::N4 eS 1 sf a.fs::N4 S0 6 sl a.ls::R)) (fun g=>g) a.fs.length
  ⟨by simp,B5 _,by simp,aa⟩ ?_
 clear aa
 rintro g ⟨c,⟨⟩⟩ h3 ⟨hc,hg,ak,aa⟩
 simp only at hc
 subst hc
 refine⟨sf,by rw[O0];exact aa.cell 2,?_⟩
 (try dsimp only);rw[N6]
 by_cases hi:a.fs.length-g<a.fs.length
 ·rw[if_pos (by simp only[decide_eq_true_eq,ij];omega)]
  obtain⟨f,hf⟩:∃f,a.fs[a.fs.length-g]? =some f:=⟨_,B2 hi⟩
  have jN:=hz.fs f (E5 hf)
  rw[A79 hf,List.all_cons] at ak
  refine⟨sf,by rw[O0];exact aa.cell 2,?_⟩
  (try dsimp only);rw[N2]
  refine A0U (aa.p1.aI A2I) hf fun p hp=>?_
  refine⟨f,by have:=hp 0 (.string f) rfl;rwa[Go.H.add_zero] at this,?_⟩
  refine N3 (A0M aa jN fun h4 bT=>⟨_,rfl,?_⟩)
  unfold A2E
  (try dsimp only);rw[N6]
  cases bz:S6 f with
  |false=>
   rw[bz,F8] at ak
   rw[ak] at hq
   rw[if_pos (by rfl)]
   simp only[C0,C5,N1]
   exact hq _ bT.drop
  |true=>
   rw[bz,F0] at ak
   rw[if_neg (by simp)]
   simp only[C0,C5,N1]
   exact .mk (g-1) (by omega) ⟨by simp only;rw[O8 (by omega) (by omega)];omega,by omega,by rw[ak,show a.fs.length-g+1=a.fs.length-(g-1) by omega],bT⟩
 rw[if_neg (by simp only[decide_eq_true_eq,ij];omega)]
 simp only[C0,C5,N1]
 rw[show a.fs.drop (a.fs.length-g)=[] by simp;omega,List.all_nil] at ak
 rw[ak,F0] at hq
 clear ak hi hg
 (try dsimp only);rw[N2]
 refine Y0 (γ:=Nat) (hb:=fun s=>by
   repeat' with_reducible first
    |refine @A58 _ _ _ _ ?_ (fun _=>?_)
    |refine @A9b _ _ _ _ ?_ ?_
   all_goals infer_instance)
  (fun g c h'=>c.1=(((a.ls.length-g:Nat)):Int)∧g≤a.ls.length∧a.ls.all (c8 a.o)=(a.ls.drop (a.ls.length-g)).all (c8 a.o)∧sat h' (cells x (cA a sf sl).toArray::N4 eS 1 sf a.fs::N4 S0 6 sl a.ls::R)) (fun g=>g) a.ls.length
  ⟨by simp,B5 _,by simp,aa⟩ ?_
 clear aa
 rintro g ⟨c,⟨⟩⟩ h3 ⟨hc,hg,ak,aa⟩
 simp only at hc
 subst hc
 refine⟨sl,by rw[O0];exact aa.cell 3,?_⟩
 (try dsimp only);rw[N6]
 by_cases hi:a.ls.length-g<a.ls.length
 ·rw[if_pos (by simp only[decide_eq_true_eq,cD];omega)]
  obtain⟨l,eu⟩:∃l,a.ls[a.ls.length-g]? =some l:=⟨_,B2 hi⟩
  have ng:=hz.ls l (E5 eu)
  rw[A79 eu,List.all_cons] at ak
  refine⟨sl,by rw[O0];exact aa.cell 3,?_⟩
  (try dsimp only);rw[N2]
  refine A0U (sat.aI B2q (aa.re [2,0,1])) eu fun p hp=>?_
  (try dsimp only);rw[N2]
  refine B5c hp ?_
  refine U5 aa fun y h4 jx=>?_
  (try dsimp only);rw[N2]
  refine A2q jx rfl rfl fun h5 jw=>?_
  have gF:sat h5 (cells y (S0 l).toArray::cells x (cA a sf sl).toArray::N4 eS 1 sf a.fs::N4 S0 6 sl a.ls::R):=jw
  clear jw jx
  (try dsimp only);rw[N2]
  refine B8r (a:=⟨y,0,none⟩) gF rfl ?_
  refine N3 (B3u gF ng fun h6 fZ=>⟨_,rfl,?_⟩)
  refine N8 (fun z h'=>h'=h6∧z.1= !c8 a.o l) ?_ ?_
  ·unfold c8
   have c0:O5 h6 ⟨y,0,none⟩=some (.int .i64 l.1):=fZ.cell 0
   refine⟨l.1,by rw[O0];exact c0,?_⟩
   (try dsimp only);rw[N6]
   by_cases b0:l.1<0
   ·rw[if_pos (by simpa using b0)]
    have:¬(0≤l.1∧l.1<8∧l.1≠a.o):=fun e=>by omega
    exact⟨rfl,by simp only[this,decide_false,F8,H7]⟩
   rw[if_neg (by simpa using b0)]
   refine⟨l.1,by rw[O0];exact c0,?_⟩
   (try dsimp only);rw[N6]
   by_cases b1:8≤l.1
   ·rw[if_pos (by simpa using b1)]
    have:¬(0≤l.1∧l.1<8∧l.1≠a.o):=fun e=>by omega
    exact⟨rfl,by simp only[this,decide_false,F8,H7]⟩
   rw[if_neg (by simpa using b1)]
   refine⟨l.1,by rw[O0];exact c0,?_⟩
   refine⟨a.o,by rw[O0];exact fZ.p1.cell 0,?_⟩
   (try dsimp only);rw[N6]
   by_cases b2:l.1=a.o
   ·rw[if_pos (by simpa using b2)]
    have:¬(0≤l.1∧l.1<8∧l.1≠a.o):=fun e=>e.2.2 b2
    exact⟨rfl,by simp only[this,decide_false,F8,H7]⟩
   rw[if_neg (by simpa using b2)]
   have:(0≤l.1∧l.1<8∧l.1≠a.o):=⟨by omega,by omega,b2⟩
   refine⟨rfl,?_⟩
   simp only[this,ne_eq,not_false_eq_true,and_self,decide_true,F0]
   by_cases b3:B2y l.2=0<;>simp[b3]
  rintro⟨z,⟨⟩⟩ h7 ⟨rfl,bp⟩
  simp only at bp
  subst bp
  (try dsimp only);rw[N6]
  cases bz:c8 a.o l with
  |false=>
   rw[bz,F8] at ak
   rw[ak] at hq
   rw[if_pos (by rfl)]
   simp only[C0,C5,N1]
   exact hq _ fZ.drop.drop
  |true=>
   rw[bz,F0] at ak
   rw[if_neg (by simp)]
   simp only[C0,C5,N1]
   refine .mk (g-1) (by omega) ⟨by simp only;rw[O8 (by omega) (by omega)];omega,by omega,by rw[ak,show a.ls.length-g+1=a.ls.length-(g-1) by omega],fZ.drop⟩
 ·rw[if_neg (by simp only[decide_eq_true_eq,cD];omega)]
  simp only[C0,C5,N1]
  rw[show a.ls.drop (a.ls.length-g)=[] by simp;omega,List.all_nil] at ak
  rw[ak] at hq
  exact hq _ aa.drop
end
open Go.RowKit Go.Extern.Stop Go.Stop Go.Extern
theorem B2C(t:Addr)(w:World):(ReflectliteValue.unpack (.iface 214 (.pointer (some t)))).run prog w
  =.ok (.agg #[.pointer (some ⟨9,214,none⟩),.pointer (some ⟨w.heap.size,0,none⟩),.int .u64 150]) (w.alloc (.cells #[.pointer (some t)] 214)):=by kernel_rfl
theorem B7o(a:Addr)(w:World):(ReflectliteValue.methodAny (ReflectliteValue.valueError "reflectlite.Value.Type" 0) (fun t _ _ _=>ReflectliteType.toType t) #[.agg #[.pointer (some ⟨9,214,none⟩),.pointer (some a),.int .u64 150]]).run prog w
  =.ok (.iface 385 (.agg #[.pointer (some ⟨9,214,none⟩)])) w:=by kernel_rfl
theorem B0f(h:Value)(w:World):(Go.method 773 385 (.agg #[h]) "Kind").run prog w=.ok (515,h) w:=by kernel_rfl
theorem B7p(w:World):((ReflectliteType.abiMethod fun t=>(fun a:Nat=>Value.int IntKind.u8 (a:Int))<$>Rtype.kind t) #[.pointer (some ⟨9,214,none⟩)]).run prog w=.ok (.int .u8 22) w:=by kernel_rfl
theorem B7q(w:World):((ReflectliteType.abiMethod fun t=>(fun a:Nat=>Value.int IntKind.u8 (a:Int))<$>Rtype.kind t) #[.pointer (some ⟨9,159,none⟩)]).run prog w=.ok (.int .u8 22) w:=by kernel_rfl
theorem rlm(z:Sem Value)(f:TypeId→Addr→Nat→Nat→Sem Value)(v:Value):
  ReflectliteValue.method z f #[v]=(do match←ReflectliteValue.parts v with|none=>z|some (t,a,fl)=>f t a fl (fl % 32)):=rfl
theorem A9O(a:Addr)(w:World):(ReflectliteValue.parts (.agg #[.pointer (some ⟨9,214,none⟩),.pointer (some a),.int .u64 150])).run prog w=.ok (some (214,a,150)) w:=by kernel_rfl
theorem B5C(a p:Addr)(W:World)(ha:W.cell? a=some (.pointer (some p))):
  (ReflectliteValue.method (ReflectliteValue.valueError "reflectlite.Value.IsNil" 0) ReflectliteValue.isNil #[.agg #[.pointer (some ⟨9,214,none⟩),.pointer (some a),.int .u64 150]]).run prog W=.ok (.bool false) W:=by
 rw[rlm]
 simp only[Sem.run_bind,A9O,Result.andThen]
 simp[ReflectliteValue.isNil,loadVar,isAgg,underlying,underlying214,ha,Result.andThen]
theorem B0g(h:Value)(w:World):(Go.method 773 385 (.agg #[h]) "Elem").run prog w=.ok (531,.agg #[h]) w:=by kernel_rfl
theorem A3M(h:Value)(w:World):(Go.method 773 385 (.agg #[h]) "Implements").run prog w=.ok (532,.agg #[h]) w:=by kernel_rfl
theorem A2k(h:Value)(w:World):(Go.method 773 385 (.agg #[h]) "AssignableTo").run prog w=.ok (529,.agg #[h]) w:=by kernel_rfl
theorem B7r(w:World):(ReflectliteType.method ReflectliteType.elem #[.agg #[.pointer (some ⟨9,214,none⟩)]]).run prog w=.ok (.iface 385 (.agg #[.pointer (some ⟨9,159,none⟩)])) w:=by kernel_rfl
theorem A7O(w:World):(ReflectliteType.relation "Implements" ReflectliteType.implements_ #[.agg #[.pointer (some ⟨9,159,none⟩)],.iface 385 (.agg #[.pointer (some ⟨9,46,none⟩)])]).run prog w=.ok (.bool true) w:=by kernel_rfl
theorem B4b(v:Value)(w:World):(ReflectliteType.typeOf #[.iface 159 v]).run prog w=.ok (.iface 385 (.agg #[.pointer (some ⟨9,159,none⟩)])) w:=by kernel_rfl
theorem A7P(w:World):(ReflectliteType.relation "AssignableTo" ReflectliteType.assignableTo #[.agg #[.pointer (some ⟨9,159,none⟩)],.iface 385 (.agg #[.pointer (some ⟨9,159,none⟩)])]).run prog w=.ok (.bool true) w:=by kernel_rfl
theorem B2D(e:Addr)(w:World):(ReflectliteValue.unpack (.iface 159 (.pointer (some e)))).run prog w
  =.ok (.agg #[.pointer (some ⟨9,159,none⟩),.pointer (some ⟨w.heap.size,0,none⟩),.int .u64 150]) (w.alloc (.cells #[.pointer (some e)] 159)):=by kernel_rfl
theorem B4d(w:World):(Rtype.elem? 214).run prog w=.ok (some 159) w:=by kernel_rfl
theorem C0h(p:Addr)(w:World):(ReflectliteValue.mk 159 p ReflectliteValue.flagAddr).run prog w=.ok (.agg #[.pointer (some ⟨9,159,none⟩),.pointer (some p),.int .u64 406]) w:=by kernel_rfl
theorem B5D(a p:Addr)(W:World)(ha:W.cell? a=some (.pointer (some p))):
  (ReflectliteValue.method (ReflectliteValue.valueError "reflectlite.Value.Elem" 0) ReflectliteValue.elem #[.agg #[.pointer (some ⟨9,214,none⟩),.pointer (some a),.int .u64 150]]).run prog W
   =.ok (.agg #[.pointer (some ⟨9,159,none⟩),.pointer (some p),.int .u64 406]) W:=by
 rw[rlm]
 simp only[Sem.run_bind,A9O,Result.andThen]
 simp[ReflectliteValue.elem,loadVar,isAgg,underlying,underlying214,ha,Result.andThen,B4d,C0h]
theorem rls(v x:Value):ReflectliteValue.set #[v,x]=(do
  let(some (dst,a,fl),some (src,b,_)):=(←ReflectliteValue.parts v,←ReflectliteValue.parts x)
   |unsupported (.noEntry "extern/(internal/reflectlite.Value).Set.zeroValue")
  if fl / ReflectliteValue.flagAddr % 2==0 then unsupported (.noEntry "extern/(internal/reflectlite.Value).Set.unaddressable")
  let val←loadVar src b
  if←Rtype.directlyAssignable dst src then storeVar dst a val
  else if←Rtype.implements dst src then
   if(←Rtype.kind src)==20 then
    match val with
    |.nilIface=>unsupported (.noEntry "extern/reflectlite: a nil value of one interface type handed on as a value of another")
    |_=>storeVar dst a val
   else storeVar dst a (.iface src val)
  else panicString ("reflectlite.Set: value of type " ++(←Rtype.spelt src)++ " is not assignable to type " ++(←Rtype.spelt dst))
  pure (.tuple #[])):=rfl
theorem B4c(a:Addr)(w:World):(ReflectliteValue.parts (.agg #[.pointer (some ⟨9,159,none⟩),.pointer (some a),.int .u64 406])).run prog w=.ok (some (159,a,406)) w:=by kernel_rfl
theorem B5B(a:Addr)(w:World):(ReflectliteValue.parts (.agg #[.pointer (some ⟨9,159,none⟩),.pointer (some a),.int .u64 150])).run prog w=.ok (some (159,a,150)) w:=by kernel_rfl
theorem B4e(w:World):(Rtype.directlyAssignable 159 159).run prog w=.ok true w:=by kernel_rfl
theorem B8Y(ta b e:Addr)(old:Value)(W:World)(hb:W.cell? b=some (.pointer (some e)))(ht:W.cell? ta=some old)(hf:W.frozen? ta=false):
  (ReflectliteValue.set #[.agg #[.pointer (some ⟨9,159,none⟩),.pointer (some ta),.int .u64 406],.agg #[.pointer (some ⟨9,159,none⟩),.pointer (some b),.int .u64 150]]).run prog W
   =.ok (.tuple #[]) (W.setCell ta (.pointer (some e))):=by
 rw[rls]
 simp only[Sem.run_bind,B4c,B5B,Result.andThen]
 simp[ReflectliteValue.flagAddr,loadVar,isAgg,underlying,underlying159,hb,Result.andThen,B4e,storeVar,Value.cells,storeCells,Addr.add]
 rw[run_store prog W ta _ _ (by rfl)]
 simp[ht,hf]
theorem C1S(e t:Addr)(old:Value)(w:World)(hg:w.cell? ⟨0,0,none⟩=some (.iface 385 (.agg #[.pointer (some ⟨9,46,none⟩)])))(oA:w.cell? t=some old)(qN:w.frozen? t=false):
  Calls prog 76 #[.iface 159 (.pointer (some e)),.iface 214 (.pointer (some t))] w fun ev w'=>ev=.returned (.bool true)∧w'=((((w.alloc (.cells #[.pointer (some t)] 214)).alloc (.cells #[.pointer (some ⟨9,214,none⟩),.pointer (some ⟨w.heap.size,0,none⟩),.int .u64 150] 309)).alloc (.cells #[.pointer (some ⟨9,214,none⟩),.pointer (some ⟨w.heap.size,0,none⟩),.int .u64 150] 309)).alloc (.cells #[.pointer (some e)] 159)).setCell t (.pointer (some e)):=by
 have h6:= @run_callFunc_extern prog 155 _ (fun args=>ReflectliteValue.unpack (args.getD 0 (.tuple #[]))) func155 (by kernel_rfl) (by kernel_rfl) (by kernel_rfl) (by kernel_rfl)
 have h7:= @run_callFunc_extern prog 156 _ (ReflectliteValue.methodAny (ReflectliteValue.valueError "reflectlite.Value.Type" 0) (fun t _ _ _=>ReflectliteType.toType t)) func156 (by kernel_rfl) (by kernel_rfl) (by kernel_rfl) (by kernel_rfl)
 have h8:= @run_callFunc_extern prog 157 _ (ReflectliteValue.method (ReflectliteValue.valueError "reflectlite.Value.IsNil" 0) ReflectliteValue.isNil) func157 (by kernel_rfl) (by kernel_rfl) (by kernel_rfl) (by kernel_rfl)
 have sR:= @run_callFunc_extern prog 515 _ (ReflectliteType.abiMethod fun t=>do pure (.int .u8 (←Rtype.kind t))) func515 (by kernel_rfl) (by kernel_rfl) (by kernel_rfl) (by kernel_rfl)
 have sQ:= @run_callFunc_extern prog 531 _ (ReflectliteType.method ReflectliteType.elem) func531 (by kernel_rfl) (by kernel_rfl) (by kernel_rfl) (by kernel_rfl)
 have sP:= @run_callFunc_extern prog 532 _ (ReflectliteType.relation "Implements" ReflectliteType.implements_) func532 (by kernel_rfl) (by kernel_rfl) (by kernel_rfl) (by kernel_rfl)
 have nU:= @run_callFunc_extern prog 233 _ ReflectliteType.typeOf func233 (by kernel_rfl) (by kernel_rfl) (by kernel_rfl) (by kernel_rfl)
 have dV:= @run_callFunc_extern prog 529 _ (ReflectliteType.relation "AssignableTo" ReflectliteType.assignableTo) func529 (by kernel_rfl) (by kernel_rfl) (by kernel_rfl) (by kernel_rfl)
 have nT:= @run_callFunc_extern prog 234 _ (ReflectliteValue.method (ReflectliteValue.valueError "reflectlite.Value.Elem" 0) ReflectliteValue.elem) func234 (by kernel_rfl) (by kernel_rfl) (by kernel_rfl) (by kernel_rfl)
 have rR:= @run_callFunc_extern prog 235 _ ReflectliteValue.set func235 (by kernel_rfl) (by kernel_rfl) (by kernel_rfl) (by kernel_rfl)
 have tO:=B4b
 have mA:=A2k
 have a25:=A7P
 have v25:=B2D
 have f6:=B2C
 have f7:=B7o
 have mK:=B0f
 have mE:=B0g
 have mI:=A3M
 have sh:=B7p
 have si:=B7q
 have sY:=B7r
 have i25:=A7O
 have n8:=B5C ⟨w.heap.size,0,none⟩ t ((w.alloc (.cells #[.pointer (some t)] 214)).alloc (.cells #[.pointer (some ⟨9,214,none⟩),.pointer (some ⟨w.heap.size,0,none⟩),.int .u64 150] 309)) (by simp)
 have af:0<w.heap.size:=by
  rcases Nat.eq_zero_or_pos w.heap.size with h0|h
  ·simp[World.cell?,h0] at hg
  ·exact h
 have fN:((w.alloc (.cells #[.pointer (some t)] 214)).alloc (.cells #[.pointer (some ⟨9,214,none⟩),.pointer (some ⟨w.heap.size,0,none⟩),.int .u64 150] 309)).cell? ⟨0,0,none⟩=some (.iface 385 (.agg #[.pointer (some ⟨9,46,none⟩)])):=by
  rw[World.cell?_alloc_lt _ _ ⟨0,0,none⟩ (by simp),World.cell?_alloc_lt _ _ ⟨0,0,none⟩ af];exact hg
 have oz:t.block<w.heap.size:=by
  rcases I7 t.block w.heap.size with h|h
  ·exact h
  ·simp[World.cell?,K7 h] at oA
 have el:=B5D ⟨w.heap.size,0,none⟩ t (((w.alloc (.cells #[.pointer (some t)] 214)).alloc (.cells #[.pointer (some ⟨9,214,none⟩),.pointer (some ⟨w.heap.size,0,none⟩),.int .u64 150] 309)).alloc (.cells #[.pointer (some ⟨9,214,none⟩),.pointer (some ⟨w.heap.size,0,none⟩),.int .u64 150] 309)) (by rw[World.cell?_alloc_lt _ _ ⟨w.heap.size,0,none⟩ (by simp;omega)];simp)
 have st:=B8Y t ⟨w.heap.size+1+1+1,0,none⟩ e old ((((w.alloc (.cells #[.pointer (some t)] 214)).alloc (.cells #[.pointer (some ⟨9,214,none⟩),.pointer (some ⟨w.heap.size,0,none⟩),.int .u64 150] 309)).alloc (.cells #[.pointer (some ⟨9,214,none⟩),.pointer (some ⟨w.heap.size,0,none⟩),.int .u64 150] 309)).alloc (.cells #[.pointer (some e)] 159))
  (by rw[World.cell?_alloc_at _ _ _ _ (by simp)];rfl)
  (by rw[World.cell?_alloc_lt _ _ t (by simp;omega),World.cell?_alloc_lt _ _ t (by simp;omega),World.cell?_alloc_lt _ _ t (by simp;omega),World.cell?_alloc_lt _ _ t oz];exact oA)
  (by rw[World.frozen?_alloc_old _ _ t (by simp;omega),World.frozen?_alloc_old _ _ t (by simp;omega),World.frozen?_alloc_old _ _ t (by simp;omega),World.frozen?_alloc_old _ _ t (Nat.ne_of_lt oz)];exact qN)
 go_enter func76,ntmps76
 go_wp2
 refine wp_loop_rounds 1 ?_
 rw[rounds_succ]
 go_wp2
 go_ret
 exact⟨rfl,rfl⟩
end Go.Proofs.YtmpgankhnfpoaaaGreatDoor
namespace Go.H
section
section
variable {α β γ σ τ:Type} {h:Heap} {s:σ}
theorem C1f{body:σ→HM (σ⊕τ)}{Q:τ→Heap→Prop}(J:γ→σ→Heap→Prop)(μ:γ→Nat)(g:γ)(h0:J g s h)
  (hr:∀g s h,J g s h→∀K:σ⊕τ→Heap→Prop,(∀g' s' h',μ g'<μ g→J g' s' h'→K (.inl s') h')→(∀t h',Q t h'→K (.inr t) h')→body s h K):HM.loop body s h Q:=by
 classical
 have hex:∀(s:σ) (h:Heap),(∃g,J g s h)→∃n,∃g,J g s h∧μ g=n:=fun s h ⟨g,hg⟩=>⟨μ g,g,hg,rfl⟩
 have key:∀(n:Nat) (s:σ) (h:Heap),(∃g,J g s h∧μ g=n)→∃m,(∃g,J g s h∧μ g=m)∧∀g,J g s h→m≤μ g:=by
  intro n
  induction n using Nat.strongRecOn with
  |_ n ih=>
   intro s h hn
   by_cases hl:∃g,J g s h∧μ g<n
   ·obtain⟨g,hg,af⟩:=hl
    exact ih _ af s h ⟨g,hg,rfl⟩
   ·exact⟨n,hn,fun g hg=>by
     rcases I7 (μ g) n with h1|h1
     ·exact absurd ⟨g,hg,h1⟩ hl
     ·exact h1⟩
 refine⟨fun s h=>∃g,J g s h,fun s h=>if hh:∃m,(∃g,J g s h∧μ g=m)∧∀g,J g s h→m≤μ g then Classical.choose hh else 0,⟨g,h0⟩,?_⟩
 intro s h hi
 obtain⟨n,hn⟩:=hex s h hi
 have hm:=key n s h hn
 obtain⟨⟨g,hg,sJ⟩,jG⟩:=Classical.choose_spec hm
 refine hr g s h hg _ (fun g' s' h' af hJ=>?_) (fun t h' hq=>hq)
 refine⟨⟨g',hJ⟩,?_⟩
 have iR:=key (μ g') s' h' ⟨g',hJ,rfl⟩
 have h2:=(Classical.choose_spec iR).2 g' hJ
 simp only[dif_pos iR,dif_pos hm]
 omega
variable {KT V:Type} {ek:KT→Value} {ev:V→Value} {m it:Nat} {l:List (KT×V)}
end
end
section
section
variable {α:Type} {enc:α→C3E} {size:Nat} {h:Heap} {s:Slc} {xs:List α} {R:List Asn}
theorem B3O(aj:∀x,(enc x).length=size){j:Nat}{v:Value}(hj:j<size):∀(xs:List α) (i:Nat) (x x':α),xs[i]? =some x→enc x'=(enc x).set j v→(xs.flatMap enc).set (i*size+j) v=(xs.set i x').flatMap enc
 |[],i,x,x',hx,_=>by simp at hx
 |y::xs,0,x,x',hx,he=>by
  simp only[List.getElem?_cons_zero,C3] at hx
  subst hx
  rw[List.set_cons_zero,D4,D4,he,I1,F5,List.set_append_left _ _ (by rw[aj];exact hj)]
 |y::xs,i+1,x,x',hx,he=>by
  rw[List.getElem?_cons_succ] at hx
  rw[List.set_cons_succ,D4,D4,List.set_append_right _ _ (by rw[aj,H3];omega),aj]
  rw[show(i+1)*size+j-size=i*size+j from by rw[H3];omega,B3O aj hj xs i x x' hx he]
theorem B95(aj:∀x,(enc x).length=size)(hs:sat h (N4 enc size s xs::R)){i:Nat}{x:α}(hx:xs[i]? =some x){Q:Addr→Heap→Prop}
  (hq:∀p:Addr,(∀j v,(enc x)[j]? =some v→O5 h (p.add j)=some v)→
   (∀(j:Nat) (v:Value) (x':α) (Q':Unit→Heap→Prop),j<size→enc x'=(enc x).set j v→v.oneCell'=true→(∀h',sat h' (N4 enc size s (xs.set i x')::R)→Q' () h')→A3d (p.add j) v h Q')→Q p h):
  r8 s.a s.len (i:Int) size h Q:=by
 have dT:=(C4.1 hx).1
 rcases V1 hs with⟨-,-,rfl,-⟩|⟨b,o,cs,ho,aa⟩
 ·simp at hx
 have av:=hs.aI aj
 obtain⟨a,ha,hc⟩:=av.2.2 i x hx
 have ra:a=⟨b,o*size,none⟩:=by rw[ho.a] at ha;exact(L7 ha).symm
 subst ra
 refine⟨_,ho.a,G1 _,by rw[ho.len];omega,?_⟩
 rw[G8]
 refine hq _ hc fun j v x' Q' hj he hv fw=>?_
 rw[Addr.aO,Addr.aO]
 have fa:o*size+i*size+j<cs.size:=by
  refine K8 ?_ ho.bQ
  have h1:(i+1)*size≤s.cap*size:=F9 _ (by have:=ho.le;have:=ho.len;omega)
  rw[H3] at h1
  rw[G0]
  omega
 refine A1w aa fa hv fun h' ah=>fw h' (W8 (b:=b) (o:=o) ⟨ho.a,ho.le,by rw[List.length_set];exact ho.len,by rw[Array.size_setIfInBounds];exact ho.bQ,?_⟩ ah)
 rw[H4,List.drop_set,if_neg (by omega),List.take_set,ho.front,show o*size+i*size+j-o*size=i*size+j by omega]
 exact B3O aj hj xs i x x' hx he
end
end
section
def At(L:List Asn)(q:Heap→Prop):Prop:=∀h,sat h L→q h
def W{α:Type}(L:List Asn)(m:HM α)(Q:α→Heap→Prop):Prop:=∀h,sat h L→m h Q
def FW(P:Program)(f:FuncId)(args:C3D)(L:List Asn)(Q:Value→Heap→Prop):Prop:=∀h,sat h L→N9 P f args h Q
def Has(L:List Asn)(A:Asn)(L':List Asn):Prop:=∀m,v7 L m→v7 (A::L') m
def Sub(L L':List Asn):Prop:=∀m,v7 L m→v7 L' m
class Enc {α:Type} (enc:α→C3E) (size:outParam Nat):Prop where
 len:∀x,(enc x).length=size
 cell:∀x,∀v∈enc x,v.oneCell'=true
 pos:0<size
section
variable {A B C D E F:Asn} {L L1 L2 L3 L4 L5 L6 L' R:List Asn} {h:Heap}
theorem Q9:Has (A::L) A L:=fun _ hs=>hs
theorem Q8(hx:Has L A L'):Has (B::L) A (B::L'):=fun _ hs=>A1x (X4 (fun _ h=>h) hx hs)
theorem Sub.rfl:Sub L L:=fun _ hs=>hs
theorem Sub.nil:Sub L []:=fun _ _=>trivial
theorem Sub.drop(hr:Sub L R):Sub (A::L) R:=fun m hs=>by
 obtain⟨a,b,hd,rfl,ha,hb⟩:=hs
 exact A1y.up R (a.join b) b (fun k o ho=>A1G hd ho) (hr b hb)
theorem Sub.cons(hx:Has L A L1)(hr:Sub L1 R):Sub L (A::R):=fun m hs=>X4 (fun _ h=>h) hr (hx m hs)
theorem Has.s(hx:Has L A L')(hs:sat h L):sat h (A::L'):=let⟨m,h1,h2⟩:=hs;⟨m,h1,hx m h2⟩
theorem Sub.s(hx:Sub L L')(hs:sat h L):sat h L':=let⟨m,h1,h2⟩:=hs;⟨m,h1,hx m h2⟩
theorem Has.then(hx:Has L A L1)(hy:Has L1 B L2):Sub L (A::B::L2):=fun m hs=>X4 (fun _ h=>h) hy (hx m hs)
variable {α β:Type} {m:HM α} {Q:α→Heap→Prop} {q:Heap→Prop} {p:Prop}
theorem M4:type_of% @Sub.rfl:=@Sub.rfl
theorem M5:type_of% @Sub.nil:=@Sub.nil
theorem M6:type_of% @Sub.cons:=@Sub.cons
theorem M7:type_of% @Sub.drop:=@Sub.drop
theorem At.sub(hq:At L' q)(hs:Sub L L':=by repeat(first|with_reducible exact M4|with_reducible exact M5|refine M6 (by repeat first|with_reducible exact Q9|apply Q8) ?_|refine M7 ?_)):At L q:=fun h h1=>hq h (hs.s h1)
theorem W.sub(hq:W L' m Q)(hs:Sub L L':=by repeat(first|with_reducible exact M4|with_reducible exact M5|refine M6 (by repeat first|with_reducible exact Q9|apply Q8) ?_|refine M7 ?_)):W L m Q:=fun h h1=>hq h (hs.s h1)
theorem B89(hf:∀h R,sat h (A::R)→p)(hw:p→W L m Q)(hx:Has L A L':=by repeat first|with_reducible exact Q9|apply Q8):W L m Q:=fun h hs=>hw (hf h L' (hx.s hs)) h hs
theorem C2U(mk:∀h,sat h (B::L1)→sat h (A::L1))(hw:W (A::L1) m Q)(hb:Has L B L1:=by repeat first|with_reducible exact Q9|apply Q8):W L m Q:=fun h hs=>hw h (mk h (hb.s hs))
variable {f:α→HM β} {Q':β→Heap→Prop} {b:Bool} {x y:HM β}
theorem N0{a:α}(hq:At L (Q a)):W L (O9 a) Q:=hq
theorem Z9{a:α}(hw:W L (f a) Q'):W L (HM.bind (O9 a) f) Q':=hw
theorem X6{γ:Type}{m:HM γ}{g:γ→HM α}(hw:W L (HM.bind m fun x=>HM.bind (g x) f) Q'):W L (HM.bind (HM.bind m g) f) Q':=hw
theorem O2(ht:b=true→W L x Q')(hf:b=false→W L y Q'):W L (X7 b x y) Q':=fun h hs=>by
 rw[N6];cases b
 ·exact hf (Eq.refl _) h hs
 ·exact ht (Eq.refl _) h hs
theorem o4(hb:b=true)(hw:W L x Q'):W L (X7 b x y) Q':=by subst hb;exact hw
theorem A2l(hb:b=false)(hw:W L y Q'):W L (X7 b x y) Q':=by subst hb;exact hw
theorem A3a{u v:HM α}(ht:b=true→W L (HM.bind u f) Q')(hf:b=false→W L (HM.bind v f) Q'):W L (HM.bind (X7 b u v) f) Q':=fun h hs=>by
 rw[N2,N6];cases b
 ·exact hf (Eq.refl _) h hs
 ·exact ht (Eq.refl _) h hs
theorem A9T{u v:HM α}(hb:b=true)(hw:W L (HM.bind u f) Q'):W L (HM.bind (X7 b u v) f) Q':=by subst hb;exact hw
theorem W6(hw:W L x Q')(hp:p):W L (P7 p x) Q':=fun h hs=>⟨hp,hw h hs⟩
theorem B9a{u:HM α}(hw:W L (HM.bind u f) Q')(hp:p):W L (HM.bind (P7 p u) f) Q':=fun h hs=>⟨hp,hw h hs⟩
theorem W.inl{γ δ:Type}{u:γ→HM β}{v:δ→HM β}{a:γ}(hw:W L (u a) Q'):W L (Sum.elim u v (Sum.inl a)) Q':=hw
theorem W.inr{γ δ:Type}{u:γ→HM β}{v:δ→HM β}{a:δ}(hw:W L (v a) Q'):W L (Sum.elim u v (Sum.inr a)) Q':=hw
theorem A6z(h1:W L x Q')(h2:W L y Q'):W L (Y4 x y) Q':=fun h hs=>⟨h1 h hs,h2 h hs⟩
theorem C3x{a:Addr}{f:Addr→HM β}(hw:W L (f a) Q'):W L (HM.bind (B1t (some a)) f) Q':=fun h hs=>by rw[N2,C20];exact hw h hs
theorem C1W(p:α→Prop)(P:α→List Asn)(h1:∀K:α→Heap→Prop,(∀a,p a→At (P a) (K a))→W L m K)(h2:∀a,p a→W (P a) (f a) Q'):W L (HM.bind m f) Q':=fun h hs=>h1 (fun a h'=>f a h' Q') (fun a hp h' ah=>h2 a hp h' ah) h hs
theorem A5H(p:α→Prop)(h1:∀K:α→Heap→Prop,(∀a,p a→At L (K a))→W L m K)(h2:∀a,p a→W L (f a) Q'):W L (HM.bind m f) Q':=C1W p (fun _=>L) h1 h2
theorem B2G{X:Type}(p:X→α→Prop)(P:X→α→List Asn)(h1:∀K:α→Heap→Prop,(∀x a,p x a→At (P x a) (K a))→W L m K)(h2:∀x a,p x a→W (P x a) (f a) Q'):W L (HM.bind m f) Q':=fun h hs=>h1 (fun a h'=>f a h' Q') (fun x a hp h' ah=>h2 x a hp h' ah) h hs
theorem P2{f:Nat→HM β}{cs:C3D}{T:TypeId}(hw:∀b,W (cells b cs::L) (f b) Q'):W L (HM.bind (HM.new (.cells cs T)) f) Q':=fun h hs=>U5 hs fun b h' ah=>hw b h' ah
theorem W.load{t:Tag}{b i:Nat}{cs:C3D}{v:t.ty}{f:t.ty→HM β}(hw:W L (f v) Q')(hx:Has L (cells b cs) L':=by repeat first|with_reducible exact Q9|apply Q8)(hv:(cs[i]?).bind t.get=some v:=by rfl):W L (HM.bind (R9 t (Addr.add ⟨b,0,none⟩ i)) f) Q':=fun h hs=>by
 refine⟨v,?_,hw h hs⟩
 rw[O0,(hx.s hs).cell i]
 cases hc:cs[i]? with
 |none=>rw[hc] at hv;cases hv
 |some u=>rw[hc] at hv;exact congrArg some (Tag.aS hv)
theorem C2T{t:Tag}{b:Nat}{cs:C3D}{v:t.ty}{f:t.ty→HM β}(hw:W L (f v) Q')(hx:Has L (cells b cs) L':=by repeat first|with_reducible exact Q9|apply Q8)(hv:(cs[0]?).bind t.get=some v:=by rfl):W L (HM.bind (R9 t ⟨b,0,none⟩) f) Q':=by
 have:=W.load (i:=0) (f:=f) hw hx hv
 exact this
theorem A4w{t:Tag}{a:Addr}{b i:Nat}{cs:C3D}{v:t.ty}{f:t.ty→HM β}(hw:W L (f v) Q')(ha:a=⟨b,i,none⟩:=by rfl)(hx:Has L (cells b cs) L':=by repeat first|with_reducible exact Q9|apply Q8)(hv:(cs[i]?).bind t.get=some v:=by rfl):W L (HM.bind (R9 t a) f) Q':=fun h hs=>by
 subst ha
 refine⟨v,?_,hw h hs⟩
 rw[(hx.s hs).cell i]
 cases hc:cs[i]? with
 |none=>rw[hc] at hv;cases hv
 |some u=>rw[hc] at hv;exact congrArg some (Tag.aS hv)
theorem O1{ts:List Tag}{b:Nat}{cs:C3D}{v:Tup ts}{f:Tup ts→HM β}(hw:W L (f v) Q')(hx:Has L (cells b cs) L':=by repeat first|with_reducible exact Q9|apply Q8)(hv:Tup.get ts cs.toList=some v:=by rfl):W L (HM.bind (N5 ts ⟨b,0,none⟩) f) Q':=fun h hs=>
 A63 v (hx.s hs) (D3.1 (Tup.aP ts _ v hv)) (hw h hs)
theorem C3v{ts:List Tag}{b i:Nat}{cs:C3D}{v:Tup ts}{f:Tup ts→HM β}(hw:W L (f v) Q')(hx:Has L (Go.H.cells b cs) L':=by repeat first|with_reducible exact Q9|apply Q8)(hv:Tup.get ts ((cs.toList.drop i).take ts.length)=some v:=by rfl):W L (HM.bind (N5 ts (Addr.add ⟨b,0,none⟩ i)) f) Q':=fun h hs=>by
 refine⟨v,fun j u hu=>?_,hw h hs⟩
 rw[←Tup.aP ts _ v hv,G9] at hu
 split at hu
 ·rw[I9] at hu
  rw[O0,Addr.aO,(hx.s hs).cell]
  simpa using hu
 ·cases hu
theorem C2V{a:Addr}{b i:Nat}{cs cs':C3D}{v:Value}{f:Unit→HM β}(hw:W (Go.H.cells b cs'::L') (f ()) Q')(ha:a=⟨b,i,none⟩:=by rfl)(hx:Has L (Go.H.cells b cs) L':=by repeat first|with_reducible exact Q9|apply Q8)(hc:(if i<cs.size then cs.toList.set i v else[])=cs'.toList:=by rfl)(hn:0<cs'.size:=by exact Nat.zero_lt_succ _)(hv:v.oneCell'=true:=by rfl):W L (HM.bind (A3d a v) f) Q':=fun h hs=>by
 subst ha
 rw[N2]
 by_cases hi:i<cs.size
 ·rw[if_pos hi] at hc
  refine A1w (hx.s hs) hi hv fun h' ah=>hw h' ?_
  have:cs'=cs.setIfInBounds i v:=by
   apply D3.1;rw[←hc,H4]
  rw[this];exact ah
 ·rw[if_neg hi] at hc
  have:=congrArg List.length hc
  simp at this
  omega
theorem W.store{b i:Nat}{cs cs':C3D}{v:Value}{f:Unit→HM β}(hw:W (cells b cs'::L') (f ()) Q')(hx:Has L (cells b cs) L':=by repeat first|with_reducible exact Q9|apply Q8)(hc:(if i<cs.size then cs.toList.set i v else[])=cs'.toList:=by rfl)(hn:0<cs'.size:=by exact Nat.zero_lt_succ _)(hv:v.oneCell'=true:=by rfl):W L (HM.bind (A3d (Addr.add ⟨b,0,none⟩ i) v) f) Q':=fun h hs=>by
 rw[N2,O0]
 by_cases hi:i<cs.size
 ·rw[if_pos hi] at hc
  refine A1w (hx.s hs) hi hv fun h' ah=>hw h' ?_
  have:cs'=cs.setIfInBounds i v:=by
   apply D3.1;rw[←hc,H4]
  rw[this];exact ah
 ·rw[if_neg hi] at hc
  have:=congrArg List.length hc
  simp at this
  omega
theorem P4{b:Nat}{cs:C3D}{vs:C3E}{f:Unit→HM β}(hw:W (cells b vs.toArray::L') (f ()) Q')(hx:Has L (cells b cs) L':=by repeat first|with_reducible exact Q9|apply Q8)(hl:vs.length=cs.size:=by rfl)(hv:vs.all (fun v=>v.oneCell')=true:=by rfl):W L (HM.bind (A0f ⟨b,0,none⟩ vs) f) Q':=fun h hs=>
 A2q (hx.s hs) hl hv fun h' ah=>hw h' ah
theorem W.cells{b:Nat}{cs:C3D}(cs':C3D)(hw:W (cells b cs'::L') m Q)(hx:Has L (Go.H.cells b cs) L':=by repeat first|with_reducible exact Q9|apply Q8)(hc:cs=cs':=by rfl):W L m Q:=by subst hc;exact W.sub hw (fun m hs=>hx m hs)
def B23:C3E→Option (List Int)
 |[]=>some []
 |v::vs=>match Tag.get (.int .u8) v with
  |some n=>match B23 vs with
   |some ns=>some (n::ns)
   |none=>none
  |none=>none
theorem B22:∀(vs:C3E) (ns:List Int),B23 vs=some ns→vs=ns.map (Value.int .u8)
 |[],ns,hh=>by cases hh;rfl
 |v::vs,ns,hh=>by
  simp only[B23] at hh
  cases h1:Tag.get (.int .u8) v with
  |none=>rw[h1] at hh;cases hh
  |some n=>
   rw[h1] at hh
   simp only at hh
   cases h2:B23 vs with
   |none=>rw[h2] at hh;cases hh
   |some ms=>
    rw[h2] at hh
    cases hh
    rw[B6,←B22 vs ms h2,Tag.aS h1]
    rfl
theorem W.str{b n c:Nat}{cs:C3D}{f:B1q→HM β}{ns:List Int}(hw:W L (f (P1 ns)) Q')(hx:Has L (Go.H.cells b cs) L':=by repeat first|with_reducible exact Q9|apply Q8)(hc:B23 cs.toList=some ns:=by rfl)(hn:cs.size=n:=by rfl):W L (HM.bind (y8 ⟨some ⟨b,0,none⟩,n,c⟩) f) Q':=fun h hs=>⟨ns,by
  have:cs=(ns.map (Value.int .u8)).toArray:=D3.1 (B22 _ _ hc)
  rw[←this];exact(hx.s hs).reads hn,hw h hs⟩
theorem O6{P:Program}{k:Kind}{fn:FuncId}{args:C3D}{f:k.ty→HM β}(hc:FW P fn args L (k.un fun x h'=>f x h' Q')):W L (HM.bind (O3 P k fn args) f) Q':=hc
theorem k9{P:Program}{ks:List Kind}{fn:FuncId}{args:C3D}{f:R0 ks→HM β}(hc:FW P fn args L (R0.un ks fun x h'=>f x h' Q')):W L (HM.bind (Q4 P ks fn args) f) Q':=hc
theorem At.un{k:Kind}{v:Value}{x:k.ty}{f:k.ty→HM β}(hw:W L (f x) Q')(hv:k.get v=some x:=by rfl):At L (k.un (fun x h'=>f x h' Q') v):=fun h hs=>⟨x,Kind.aS hv,hw h hs⟩
def unT(v:Value):C3E:=match v with|.tuple a=>a.toList|_=>[]
def isT(v:Value):Bool:=match v with|.tuple a=>true|_=>false
theorem At.bI{ks:List Kind}{v:Value}{x:R0 ks}{f:R0 ks→HM β}(hw:W L (f x) Q')(hv:R0.get ks (unT v)=some x:=by rfl)(ht:isT v=true:=by rfl):At L (R0.un ks (fun x h'=>f x h' Q') v):=fun h hs=>by
 refine⟨x,?_,hw h hs⟩
 cases v with
 |tuple a=>exact congrArg Value.tuple (D3.1 (R0.aP ks _ x hv))
 |_=>cases ht
section
variable {γ:Type} {enc:γ→C3E} {size:Nat} {s:Slc} {xs:List γ} {h0:Heap}
def El(s:Slc)(size i:Nat)(a:Addr):Prop:=∃x,s.a=some x∧a=x.add (i*size)
def ElO(h0:Heap)(l:C3E)(a:Addr):Prop:=∀j v,l[j]? =some v→O5 h0 (a.add j)=some v
theorem El.row(hr:P6 enc size h0 s xs){i:Nat}{x:γ}(hi:xs[i]? =some x){a:Addr}(ha:El s size i a):ElO h0 (enc x) a:=by
 obtain⟨y,h1,rfl⟩:=ha
 obtain⟨a,h2,h3⟩:=hr.2.2 i x hi
 rw[h1] at h2
 cases h2
 exact h3
theorem B4g{i:Nat}{e:Int}{f:Addr→HM β}(hi:i<xs.length)(hw:∀a,El s size i a→W L (f a) Q')(hx:Has L (N4 enc size s xs) L':=by repeat first|with_reducible exact Q9|apply Q8)(he:e=(i:Int):=by rfl)[Enc enc size]:W L (HM.bind (r8 s.a s.len e size) f) Q':=fun h hs=>by
 have hr:=(hx.s hs).aI (Enc.len (enc:=enc))
 obtain⟨a,ha,hc⟩:=hr.2.2 i _ (B2 hi)
 refine⟨a,ha,by omega,by have:=hr.1;omega,?_⟩
 subst he
 exact hw _ ⟨a,ha,by rw[G8]⟩ h hs
theorem A3b{i:Nat}{e:Int}{f:Addr→HM β}(hr:P6 enc size h0 s xs)(hi:i<xs.length)(hw:∀a,El s size i a→W L (f a) Q')(he:e=(i:Int):=by rfl):W L (HM.bind (r8 s.a s.len e size) f) Q':=fun h hs=>by
 obtain⟨a,ha,hc⟩:=hr.2.2 i _ (B2 hi)
 refine⟨a,ha,by omega,by have:=hr.1;omega,?_⟩
 subst he
 exact hw _ ⟨a,ha,by rw[G8]⟩ h hs
theorem C0j{t:Tag}{i k:Nat}{a:Addr}{x:γ}{v:t.ty}{f:t.ty→HM β}(ha:El s size i a)(hi:xs[i]? =some x)(hw:W L (f v) Q')(hx:Has L (N4 enc size s xs) L':=by repeat first|with_reducible exact Q9|apply Q8)(hv:((enc x)[k]?).bind t.get=some v:=by rfl)[Enc enc size]:W L (HM.bind (R9 t (Addr.add a k)) f) Q':=fun h hs=>by
 have:=ha.row ((hx.s hs).aI (Enc.len (enc:=enc))) hi
 cases hc:(enc x)[k]? with
 |none=>rw[hc] at hv;cases hv
 |some u=>
  rw[hc] at hv
  exact⟨v,by rw[this k u hc];exact congrArg some (Tag.aS hv),hw h hs⟩
theorem C0l{t:Tag}{i:Nat}{a:Addr}{x:γ}{v:t.ty}{f:t.ty→HM β}(ha:El s size i a)(hi:xs[i]? =some x)(hw:W L (f v) Q')(hx:Has L (N4 enc size s xs) L':=by repeat first|with_reducible exact Q9|apply Q8)(hv:((enc x)[0]?).bind t.get=some v:=by rfl)[Enc enc size]:W L (HM.bind (R9 t a) f) Q':=by
 have:=C0j (k:=0) (f:=f) ha hi hw hx hv
 rwa[add_zero] at this
theorem C3w{ts:List Tag}{i:Nat}{a:Addr}{x:γ}{v:Tup ts}{f:Tup ts→HM β}(ha:El s size i a)(hi:xs[i]? =some x)(hw:W L (f v) Q')(hx:Has L (N4 enc size s xs) L':=by repeat first|with_reducible exact Q9|apply Q8)(hv:Tup.get ts (enc x)=some v:=by rfl)[Enc enc size]:W L (HM.bind (N5 ts a) f) Q':=fun h hs=>by
 have:=ha.row ((hx.s hs).aI (Enc.len (enc:=enc))) hi
 refine⟨v,fun j u hu=>?_,hw h hs⟩
 rw[←Tup.aP ts _ v hv] at hu
 exact this j u hu
theorem B7v{t:Tag}{i k:Nat}{a:Addr}{x:γ}{v:t.ty}{f:t.ty→HM β}(hr:P6 enc size h0 s xs)(ha:El s size i a)(hi:xs[i]? =some x)(hw:W L (f v) Q')(hx:Has L (old h0) L':=by repeat first|with_reducible exact Q9|apply Q8)(hv:((enc x)[k]?).bind t.get=some v:=by rfl):W L (HM.bind (R9 t (Addr.add a k)) f) Q':=fun h hs=>by
 have:=ha.row hr hi
 cases hc:(enc x)[k]? with
 |none=>rw[hc] at hv;cases hv
 |some u=>
  rw[hc] at hv
  exact⟨v,by rw[(hx.s hs).aU (this k u hc)];exact congrArg some (Tag.aS hv),hw h hs⟩
theorem B7w{t:Tag}{i:Nat}{a:Addr}{x:γ}{v:t.ty}{f:t.ty→HM β}(hr:P6 enc size h0 s xs)(ha:El s size i a)(hi:xs[i]? =some x)(hw:W L (f v) Q')(hx:Has L (old h0) L':=by repeat first|with_reducible exact Q9|apply Q8)(hv:((enc x)[0]?).bind t.get=some v:=by rfl):W L (HM.bind (R9 t a) f) Q':=by
 have:=B7v (k:=0) (f:=f) hr ha hi hw hx hv
 rwa[add_zero] at this
theorem B7x{ts:List Tag}{i:Nat}{a:Addr}{x:γ}{v:Tup ts}{f:Tup ts→HM β}(hr:P6 enc size h0 s xs)(ha:El s size i a)(hi:xs[i]? =some x)(hw:W L (f v) Q')(hx:Has L (old h0) L':=by repeat first|with_reducible exact Q9|apply Q8)(hv:Tup.get ts (enc x)=some v:=by rfl):W L (HM.bind (N5 ts a) f) Q':=fun h hs=>by
 have:=ha.row hr hi
 refine⟨v,fun j u hu=>?_,hw h hs⟩
 rw[←Tup.aP ts _ v hv] at hu
 exact(hx.s hs).aU (this j u hu)
theorem B2H{b:Nat}{cs:C3D}{elem:TypeId}{bytes:Nat}{zero:C3D}{f:Slc→HM β}(x:γ)(hw:∀s',W (N4 enc size s' (xs++[x])::L2) (f s') Q')(hb:(xs.length+1)*bytes≤140737488355328)(hx:Has L (N4 enc size s xs) L':=by repeat first|with_reducible exact Q9|apply Q8)(hy:Has L' (Go.H.cells b cs) L2:=by repeat first|with_reducible exact Q9|apply Q8)(hc:cs=(enc x).toArray:=by rfl)(hz:zero.size=size:=by rfl)(db:0<bytes:=by decide)[Enc enc size]:
  W L (HM.bind (HM.append elem size bytes zero s 1 (P8 size ⟨some ⟨b,0,none⟩,1,1⟩)) f) Q':=fun h hs=>by
 subst hc
 have h1:=(hx.then hy).s hs
 rw[N2]
 refine A1X (ys:=[x]) (Enc.len (enc:=enc)) (Enc.cell (enc:=enc)) hz h1 rfl ?_ (Enc.pos enc) db hb fun s' h2 ai=>hw s' h2 (ai.p1.drop)
 simp only[P8,Nat.one_mul,D4,List.flatMap_nil,I3]
 exact h1.p1.reads (by simp[Enc.len (enc:=enc)])
theorem B3A:∀h R,sat h (N4 enc size s xs::R)→s.len=xs.length:=fun h R hs=>hs.own_len
theorem C1V(enc:γ→C3E)(size:Nat)(hw:W (N4 enc size ⟨none,0,0⟩ ([]:List γ)::L) m Q):W L m Q:=fun h hs=>hw h (A0z hs)
theorem B0h(enc:γ→C3E)(size:Nat)(xs:List γ)(hw:W (N4 enc size ⟨none,0,0⟩ xs::L) m Q)(he:xs=[]:=by rfl):W L m Q:=by subst he;exact C1V enc size hw
theorem B6l{n:Nat}{e:Int}{f:Slc→HM β}(hr:P6 enc size h0 s xs)(hn:n≤xs.length)(hw:∀s',P6 enc size h0 s' (xs.take n)→W L (f s') Q')(he:e=(n:Int):=by rfl):W L (HM.bind (HM.slice s none (some e) none size) f) Q':=fun h hs=>by
 subst he
 exact B6N hr hn fun s' bf=>hw s' bf h hs
end
section
variable {K V:Type} [DecidableEq K] {ek:K→Value}
end
section
variable {σ τ γ:Type} {s:σ} {body:σ→HM (σ⊕τ)} {f:τ→HM β}
theorem W.loop(I:γ→σ→Prop)(J:γ→σ→List Asn)(μ:γ→Nat)(g:γ)(h0:I g s)(hL:Sub L (J g s))
  (hr:∀g s,I g s→∀K:σ⊕τ→Heap→Prop,(∀g' s',μ g'<μ g→I g' s'→At (J g' s') (K (.inl s')))→(∀t L,W L (f t) Q'→At L (K (.inr t)))→W (J g s) (body s) K):
  W L (HM.bind (HM.loop body s) f) Q':=fun h hs=>by
 rw[N2]
 refine C1f (γ:=γ) (fun g s h=>I g s∧sat h (J g s)) μ g ⟨h0,hL.s hs⟩ ?_
 rintro g s h ⟨hI,hJ⟩ K h1 h2
 exact hr g s hI K (fun g' s' hm rF h' ah=>h1 g' s' h' hm ⟨rF,ah⟩) (fun t L hw h' ah=>h2 t h' (hw h' ah)) h hJ
end
end
end
end Go.H
namespace Go.Proofs.YtmpgankhnfpoaaaGreatDoor
open Go.H
open Go.Proofs.Tryz
open Go.RowKit Go.H
section
variable {h0:Heap} {L L' L1 L2 L3:List Asn} {Q:Value→Heap→Prop}
def B0j(h0:Heap):Prop:=O5 h0 ⟨0,0,none⟩=some (.iface 385 (.agg #[.pointer (some ⟨9,46,none⟩)]))
theorem C3u{e:Addr}{x:Nat}(hE:B0j h0)(hq:At (cells x #[.pointer (some e)]::old h0::L1) (Q (.bool true)))(hx:Has L (cells x #[.pointer none]) L2:=by repeat first|with_reducible exact Q9|apply Q8)(hy:Has L2 (old h0) L1:=by repeat first|with_reducible exact Q9|apply Q8):
  FW prog 76 #[.iface 159 (.pointer (some e)),.iface 214 (.pointer (some ⟨x,0,none⟩))] L Q:=by
 intro h hs w hw
 subst hw
 have iP:=(hx.then hy).s hs
 obtain⟨T,aa⟩:=T9.1 iP
 have hg:w.cell? ⟨0,0,none⟩=some (.iface 385 (.agg #[.pointer (some ⟨9,46,none⟩)])):=iP.p1.aU hE
 have oR:=aa.get
 refine(C1S e ⟨x,0,none⟩ (.pointer none) w hg (by simp[World.cell?,oR]) (by simp[World.frozen?,oR])).mono ?_
 rintro ev w' ⟨rfl,rfl⟩
 refine⟨_,rfl,⟨rfl,rfl,rfl⟩,?_⟩
 refine hq _ ?_
 have h4:sat (((((w.heap.push (.cells #[.pointer (some ⟨x,0,none⟩)] 214)).push (.cells #[.pointer (some ⟨9,214,none⟩),.pointer (some ⟨w.heap.size,0,none⟩),.int .u64 150] 309)).push (.cells #[.pointer (some ⟨9,214,none⟩),.pointer (some ⟨w.heap.size,0,none⟩),.int .u64 150] 309)).push (.cells #[.pointer (some e)] 159))) (blk x (.cells #[.pointer none] T (0,0))::old h0::L1):=
  aa.push.drop.push.drop.push.drop.push.drop
 have:=A5D h4 0 (.pointer (some e))
 exact T9.2 ⟨T,this⟩
theorem B5p{c:Int}{s:B1q}(hq:∀b,At (cells b #[.int .u8 c,.string s,.nilIface]::L) (Q (.iface 159 (.pointer (some ⟨b,0,none⟩))))):FW prog 19 #[.int .u8 c,.string s] L Q:=by
 refine fun h hs=>A7E c s h Q ((?_:W L _ _) h hs)
 clear hs h
 delta B1g az nw pu
 refine P2 fun b=>?_
 exact N0 (hq b)
theorem B4p{b:Nat}{c:Int}{s:B1q}{v:Value}(hE:B0j h0)(hq:At (cells b #[.int .u8 c,.string s,v]::old h0::L1) (Q (.int .u8 c)))(hx:Has L (cells b #[.int .u8 c,.string s,v]) L2:=by repeat first|with_reducible exact Q9|apply Q8)(hy:Has L2 (old h0) L1:=by repeat first|with_reducible exact Q9|apply Q8):
  FW prog 30 #[.iface 159 (.pointer (some ⟨b,0,none⟩))] L Q:=by
 refine fun h hs=>A4q _ h Q ((?_:W (cells b #[.int .u8 c,.string s,v]::old h0::L1) _ _) h ((hx.then hy).s hs))
 clear hs h hx hy
 delta A5q az bn cb ie ku lp nn nw pu
 refine W6 ?_ rfl
 refine A2l rfl ?_
 refine P2 fun x1=>?_
 refine X6 (O6 (C3u (x:=x1) hE (At.un (x:=true) ?_)))
 refine A9T rfl ?_
 refine X6 (C2T (b:=x1) (v:=some ⟨b,0,none⟩) ?_)
 refine Z9 ?_
 refine o4 rfl ?_
 refine C2T (b:=x1) (v:=some ⟨b,0,none⟩) ?_
 refine C3x ?_
 refine W.load (b:=b) (v:=c) ?_
 exact N0 hq.sub
theorem B6c{b:Nat}{c:Int}{s t:B1q}{v:Value}(hE:B0j h0)(hq:∀b2,At (cells b2 #[.int .u8 c,.string t,.iface 159 (.pointer (some ⟨b,0,none⟩))]::cells b #[.int .u8 c,.string s,v]::old h0::L1) (Q (.iface 159 (.pointer (some ⟨b2,0,none⟩)))))(hx:Has L (cells b #[.int .u8 c,.string s,v]) L2:=by repeat first|with_reducible exact Q9|apply Q8)(hy:Has L2 (old h0) L1:=by repeat first|with_reducible exact Q9|apply Q8):
  FW prog 21 #[.string t,.iface 159 (.pointer (some ⟨b,0,none⟩))] L Q:=by
 refine fun h hs=>A6k t _ h Q ((?_:W (cells b #[.int .u8 c,.string s,v]::old h0::L1) _ _) h ((hx.then hy).s hs))
 clear hs h hx hy
 delta A9s az cu ie nw pu
 refine W6 ?_ rfl
 refine A2l rfl ?_
 refine O6 (B4p (b:=b) (c:=c) (s:=s) (v:=v) hE (At.un (x:=c) ?_))
 refine W6 ?_ rfl
 refine P2 fun x2=>?_
 exact N0 (hq x2)
theorem B8S{b:Nat}{c:Int}{s:B1q}{v:Value}(hc:0≤c∧c<256)(hE:B0j h0)(hq:At (cells b #[.int .u8 c,.string s,v]::old h0::L1) (Q (.int .i64 c)))(hx:Has L (cells b #[.int .u8 c,.string s,v]) L2:=by repeat first|with_reducible exact Q9|apply Q8)(hy:Has L2 (old h0) L1:=by repeat first|with_reducible exact Q9|apply Q8):
  FW prog 9 #[.iface 159 (.pointer (some ⟨b,0,none⟩))] L Q:=by
 refine fun h hs=>A6c _ h Q ((?_:W (cells b #[.int .u8 c,.string s,v]::old h0::L1) _ _) h ((hx.then hy).s hs))
 clear hs h hx hy
 delta A9f cu pu wi
 refine O6 (B4p (b:=b) (c:=c) (s:=s) (v:=v) hE (At.un (x:=c) ?_))
 refine N0 ?_
 simp only
 rw[O8 (by omega) (by omega)]
 exact hq
theorem B8G{s:B1q}(hE:B0j h0)(hq:∀b b2,At (cells b2 #[.int .u8 128,.string (ByteArray.mk #[106,111,117,114,110,97,108]),.iface 159 (.pointer (some ⟨b,0,none⟩))]::cells b #[.int .u8 128,.string s,.nilIface]::old h0::L1) (Q (.iface 159 (.pointer (some ⟨b2,0,none⟩)))))(hx:Has L (old h0) L1:=by repeat first|with_reducible exact Q9|apply Q8):
  FW prog 42 #[.string s,.int .u8 128] L Q:=by
 refine fun h hs=>A2A s 128 h Q ((?_:W (old h0::L1) _ _) h (hx.s hs))
 clear hs h hx
 delta A2B bn ie pu
 refine A2l rfl ?_
 refine O6 (B5p fun b=>At.un (x:=(Value.iface 159 (.pointer (some ⟨b,0,none⟩)))) ?_)
 refine O6 (B6c (b:=b) (c:=128) (s:=s) (v:=.nilIface) hE fun b2=>At.un (x:=(Value.iface 159 (.pointer (some ⟨b2,0,none⟩)))) ?_)
 exact N0 (hq b b2)
theorem B5g(hE:B0j h0)(hq:∀(b2:Nat) (s:B1q) (v:Value),At (cells b2 #[.int .u8 128,.string s,v]::old h0::L1) (Q (.tuple #[.pointer none,.string (ByteArray.mk #[]),.slice none 0 0,.iface 159 (.pointer (some ⟨b2,0,none⟩))])))(hx:Has L (old h0) L1:=by repeat first|with_reducible exact Q9|apply Q8):
  FW prog 20 #[.pointer none] L Q:=by
 refine fun h hs=>A4n none h Q ((?_:W (old h0::L1) _ _) h (hx.s hs))
 clear hs h hx
 delta A5f az bn ie jc ji jt nn nw pu rq sn sx ve vi vs vz wi
 refine o4 rfl ?_
 refine O6 (B8G hE fun b b2=>At.un (x:=(Value.iface 159 (.pointer (some ⟨b2,0,none⟩)))) ?_)
 exact N0 (hq b2 _ _).sub
end
end Go.Proofs.YtmpgankhnfpoaaaGreatDoor