/-
  Our texts, packed by program.
-/
import Derived.Test.YtmpgankhnfpoaaaGreatDoorQNodeRefuses8
set_option linter.unusedSimpArgs false
set_option linter.unusedVariables false
set_option maxHeartbeats 16000000
set_option maxRecDepth 100000
namespace Go.Proofs.YtmpgankhnfpoaaaGreatDoor
open Go.H
open Go.Proofs.Tryz
open Go.ChangeShapes Go.WideShapes Go.ChangeAt Go.RowKit Go.Proofs Go.Lib
theorem lm1(os:Os)(args:C3D):(DataW.laidRun prog (lw os args) 8 (A5e.map (·.1))).map (·.1)=some A5e:=by kernel_rfl
open Go.ChangeShapes Go.WideShapes Go.ChangeAt Go.RowKit Go.Proofs Go.Lib Go.H
def B47:Option (Nat×Nat)→List Nat→List MemPlace→Bool
 |_,_,[]=>true
 |cur,seen,p::r=>match p with
  |.map _=>false
  |.cell b o=>match cur with
   |none=>match X2 b seen with
    |true=>false
    |false=>B47 (some (b,o)) (b::seen) r
   |some (b0,o0)=>match Nat.beq b b0 with
    |true=>match Nat.blt o0 o with
     |true=>B47 (some (b,o)) seen r
     |false=>false
    |false=>match X2 b seen with
     |true=>false
     |false=>B47 (some (b,o)) (b::seen) r
theorem A9c{n:Nat}:∀{l:List Nat},X2 n l=false→n∉l
 |[],_,h=>by cases h
 |t::ts,hm,h=>by
  simp only[X2] at hm
  split at hm
  ·cases hm
  ·rename_i hb
   rcases B9.1 h with rfl|h
   ·rw[Nat.beq_refl] at hb;cases hb
   ·exact A9c hm h
def C0H(cur:Option (Nat×Nat))(seen:List Nat):MemPlace→Prop
 |.cell b o=>(∃o0,cur=some (b,o0)∧o0<o)∨b∉seen
 |.map _=>False
theorem B10:∀{l:List MemPlace} {cur:Option (Nat×Nat)} {seen:List Nat},(∀b o,cur=some (b,o)→b∈seen)→B47 cur seen l=true→l.Nodup∧∀p∈l,C0H cur seen p
 |[],_,_,_,_=>⟨List.nodup_nil,fun p hp=>by cases hp⟩
 |p::r,cur,seen,hc,h=>by
  have fresh:∀{b o:Nat},X2 b seen=false→B47 (some (b,o)) (b::seen) r=true→p=.cell b o→(p::r).Nodup∧∀q∈p::r,C0H cur seen q:=by
   intro b o hm hn hp
   obtain⟨h1,h2⟩:=B10 (l:=r) (fun b' o' e=>by cases e;exact B7 ..) hn
   subst hp
   refine⟨J4.2 ⟨fun fa=>?_,h1⟩,fun q hq=>?_⟩
   ·rcases h2 _ fa with⟨o0,e,af⟩|dZ
    ·cases e;omega
    ·exact dZ (B7 ..)
   ·rcases B9.1 hq with rfl|hq
    ·exact .inr (A9c hm)
    ·have hl:=h2 q hq
     cases q with
     |map _=>exact hl
     |cell b' o'=>
      rcases hl with⟨o0,e,af⟩|dZ
      ·cases e;exact .inr (A9c hm)
      ·exact .inr fun fa=>dZ (B8 _ fa)
  unfold B47 at h
  cases p with
  |map _=>cases h
  |cell b o=>
   simp only at h
   split at h
   ·split at h
    ·cases h
    ·rename_i hm;exact fresh hm h rfl
   ·rename_i b0 o0
    split at h
    ·rename_i hb
     have hb:=B0 hb
     subst hb
     split at h
     ·rename_i ho
      have ho:o0<o:=by simpa using ho
      obtain⟨h1,h2⟩:=B10 (l:=r) (cur:=some (b,o)) (seen:=seen) (fun b' o' e=>by cases e;exact hc _ _ rfl) h
      refine⟨J4.2 ⟨fun fa=>?_,h1⟩,fun q hq=>?_⟩
      ·rcases h2 _ fa with⟨o1,e,af⟩|dZ
       ·cases e;omega
       ·exact dZ (hc _ _ rfl)
      ·rcases B9.1 hq with rfl|hq
       ·exact .inl ⟨o0,rfl,ho⟩
       ·have hl:=h2 q hq
        cases q with
        |map _=>exact hl
        |cell b' o'=>
         rcases hl with⟨o1,e,af⟩|dZ
         ·cases e;exact .inl ⟨o0,rfl,by omega⟩
         ·exact .inr dZ
     ·cases h
    ·split at h
     ·cases h
     ·rename_i hm;exact fresh hm h rfl
theorem C3o(os:Os)(args:C3D):(DataW.laidRun prog (lw os args) 8 (A5e.map (·.1))).map (fun x=>B47 none [] x.2)=some true:=by kernel_rfl
theorem C3q(os:Os)(args:C3D):(DataW.laidRun prog (lw os args) 8 (A5e.map (·.1))).map (fun x=>decide x.2.Nodup)=some true:=by
 have h:=C3o os args
 generalize DataW.laidRun prog (lw os args) 8 (A5e.map (·.1))=r at h
 cases r with
 |none=>cases h
 |some x=>
  simp only[F3,C3] at h⊢
  exact decide_eq_true (B10 (fun b o e=>by cases e) h).1
end Go.Proofs.YtmpgankhnfpoaaaGreatDoor