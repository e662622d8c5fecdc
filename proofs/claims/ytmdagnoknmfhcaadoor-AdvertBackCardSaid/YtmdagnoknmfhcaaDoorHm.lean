/-
  Hm: what holds after more holds after less: the shallow forms are monotone; a loop's rule with a ghost.
-/
import Derived.Test.YtmdagnoknmfhcaaDoorHs
namespace Go.H
set_option linter.unusedSimpArgs false
set_option linter.unusedVariables false

class Mono {α : Type} (m : HM α) : Prop where
  mono : ∀ (h : Heap) (Q1 Q2 : α → Heap → Prop), (∀ a h', Q1 a h' → Q2 a h') → m h Q1 → m h Q2

section
variable {α β σ τ : Type}

instance mono_pure (a : α) : Mono (HM.pure a) := ⟨fun _ _ _ hq hm => hq _ _ hm⟩
instance mono_bind (m : HM α) (f : α → HM β) [Mono m] [hf : ∀ a, Mono (f a)] : Mono (HM.bind m f) :=
  ⟨fun h _ _ hq hm => Mono.mono (m := m) h _ _ (fun a h' hx => (hf a).mono h' _ _ hq hx) hm⟩
instance : Mono (HM.fail : HM α) := ⟨fun _ _ _ _ hm => hm⟩
instance mono_both (x y : HM α) [hx : Mono x] [hy : Mono y] : Mono (HM.both x y) := ⟨fun h Q Q' hq hm => ⟨hx.mono h Q Q' hq hm.1, hy.mono h Q Q' hq hm.2⟩⟩
instance mono_ite (b : Bool) (x y : HM α) [Mono x] [Mono y] : Mono (HM.ite b x y) := ⟨fun h _ _ hq hm => by
  cases b
  · exact Mono.mono (m := y) h _ _ hq hm
  · exact Mono.mono (m := x) h _ _ hq hm⟩
instance mono_req (p : Prop) (m : HM α) [Mono m] : Mono (HM.req p m) := ⟨fun h _ _ hq hm => ⟨hm.1, Mono.mono (m := m) h _ _ hq hm.2⟩⟩
instance mono_loop (body : σ → HM (σ ⊕ τ)) (s : σ) [hb : ∀ s, Mono (body s)] : Mono (HM.loop body s) := ⟨fun _ _ _ hq => by
  rintro ⟨I, μ, h0, hr⟩
  refine ⟨I, μ, h0, fun s h hi => (hb s).mono h _ _ ?_ (hr s h hi)⟩
  intro r h' hx
  cases r with
  | inl _ => exact hx
  | inr _ => exact hq _ _ hx⟩
instance mono_elim (f : α → HM τ) (g : β → HM τ) (x : α ⊕ β) [hf : ∀ a, Mono (f a)] [hg : ∀ b, Mono (g b)] : Mono (Sum.elim f g x : HM τ) := by
  cases x with
  | inl a => exact hf a
  | inr b => exact hg b
instance (t : Tag) (a : Addr) : Mono (α := no_index (Tag.ty t)) (HM.load1 t a) := ⟨fun _ _ _ hq ⟨x, h1, h2⟩ => ⟨x, h1, hq _ _ h2⟩⟩
instance (ts : List Tag) (a : Addr) : Mono (α := no_index (Tup ts)) (HM.loadN ts a) := ⟨fun _ _ _ hq ⟨x, h1, h2⟩ => ⟨x, h1, hq _ _ h2⟩⟩
instance (a : Addr) (v : Value) : Mono (HM.store1 a v) := ⟨fun _ _ _ hq ⟨x, h1, h2, h3⟩ => ⟨x, h1, h2, hq _ _ h3⟩⟩
instance (a : Addr) (vs : List Value) : Mono (HM.storeN a vs) := ⟨fun _ _ _ hq ⟨x, h1⟩ => ⟨x, hq _ _ h1⟩⟩
instance (o : Obj) : Mono (HM.new o) := ⟨fun _ _ _ hq hm => hq _ _ hm⟩
instance (p : Option Addr) : Mono (HM.nonnil p) := ⟨fun _ _ _ hq ⟨x, h1, h2⟩ => ⟨x, h1, hq _ _ h2⟩⟩
instance (a : Option Addr) (len : Nat) (i : Int) (size : Nat) : Mono (HM.idx a len i size) := ⟨fun _ _ _ hq ⟨x, h1, h2, h3, h4⟩ => ⟨x, h1, h2, h3, hq _ _ h4⟩⟩
instance (s : ByteArray) (i : Int) : Mono (HM.strIdx s i) := ⟨fun _ _ _ hq ⟨x, h1, h2, h3⟩ => ⟨x, h1, h2, hq _ _ h3⟩⟩
instance (P : Program) (k : Kind) (f : FuncId) (args : Array Value) : Mono (α := no_index (Kind.ty k)) (HM.call1 P k f args) := ⟨fun _ _ _ hq hm => HCalls.mono hm fun _ _ ⟨x, h1, h2⟩ => ⟨x, h1, hq _ _ h2⟩⟩
instance (P : Program) (ks : List Kind) (f : FuncId) (args : Array Value) : Mono (α := no_index (KTup ks)) (HM.callN P ks f args) := ⟨fun _ _ _ hq hm => HCalls.mono hm fun _ _ ⟨x, h1, h2⟩ => ⟨x, h1, hq _ _ h2⟩⟩
instance (P : Program) (k : Kind) (v : Value) (args : Array Value) : Mono (α := no_index (Kind.ty k)) (HM.callV1 P k v args) := ⟨fun _ _ _ hq ⟨f, first, captured, h1, h2, hm⟩ => ⟨f, first, captured, h1, h2, HCalls.mono hm fun _ _ ⟨x, h1, h2⟩ => ⟨x, h1, hq _ _ h2⟩⟩⟩
instance (P : Program) (ks : List Kind) (v : Value) (args : Array Value) : Mono (α := no_index (KTup ks)) (HM.callVN P ks v args) := ⟨fun _ _ _ hq ⟨f, first, captured, h1, h2, hm⟩ => ⟨f, first, captured, h1, h2, HCalls.mono hm fun _ _ ⟨x, h1, h2⟩ => ⟨x, h1, hq _ _ h2⟩⟩⟩
instance (s : Slc) (lo hi mx : Option Int) (size : Nat) : Mono (HM.slice s lo hi mx size) := ⟨fun _ _ _ hq ⟨l, hh, m, h1, h2, h3, h4⟩ => ⟨l, hh, m, h1, h2, h3, hq _ _ h4⟩⟩
instance (s : ByteArray) (lo hi : Option Int) : Mono (HM.substr s lo hi) := ⟨fun _ _ _ hq ⟨l, hh, h1, h2, h4⟩ => ⟨l, hh, h1, h2, hq _ _ h4⟩⟩
instance (elem : TypeId) (size bytes : Nat) (zero : Array Value) (s : Slc) (n : Nat) (src : Heap → Array Value → Prop) : Mono (HM.append elem size bytes zero s n src) := ⟨fun h Q1 Q2 hq hm => by
  refine ⟨fun hc => ?_, fun hc => ?_⟩
  · obtain ⟨vs, h1, h2⟩ := hm.1 hc
    refine ⟨vs, h1, ?_⟩
    cases hs : s.a with
    | none => rw [hs] at h2; exact hq _ _ h2
    | some a => rw [hs] at h2; exact ⟨h2.1, hq _ _ h2.2⟩
  · obtain ⟨h1, h2, old, vs, h3, h4, h5⟩ := hm.2 hc
    exact ⟨h1, h2, old, vs, h3, h4, fun c hc hc2 => hq _ _ (h5 c hc hc2)⟩⟩
instance (elem : TypeId) (bytes : Nat) (zero : Array Value) (n c : Int) : Mono (HM.makeSlice elem bytes zero n c) := ⟨fun _ _ _ hq ⟨h1, h2, h3, h4, h5⟩ => ⟨h1, h2, h3, h4, hq _ _ h5⟩⟩
instance (d : Slc) (n : Nat) (src : Nat → Heap → Array Value → Prop) : Mono (HM.copy d n src) := ⟨fun h Q1 Q2 hq ⟨vs, h1, h2⟩ => by
  refine ⟨vs, h1, ?_⟩
  cases hs : d.a with
  | none => rw [hs] at h2; exact hq _ _ h2
  | some a => rw [hs] at h2; exact ⟨h2.1, hq _ _ h2.2⟩⟩
instance (kd : SameK) (zero : Value) (k : Kind) (r : Option Nat) (key : Value) : Mono (α := no_index (Kind.ty k × Bool)) (HM.lookup kd zero k r key) := ⟨fun _ _ _ hq ⟨es, c, o, x, h1, h2, h3, h4⟩ => ⟨es, c, o, x, h1, h2, h3, hq _ _ h4⟩⟩
instance (kd : SameK) (r : Option Nat) (key val : Value) : Mono (HM.mapSet kd r key val) := ⟨fun h Q1 Q2 hq ⟨b, es, c, o, h1, h2, h3, h4⟩ => by
  refine ⟨b, es, c, o, h1, h2, h3, ?_⟩
  cases o with
  | none => exact hq _ _ h4
  | some o => exact ⟨h4.1, h4.2.1, hq _ _ h4.2.2⟩⟩
instance (kd : SameK) (r : Option Nat) (key : Value) : Mono (HM.mapDel kd r key) := ⟨fun h Q1 Q2 hq hm => by
  cases r with
  | none => exact hq _ _ hm
  | some b =>
    obtain ⟨es, c, o, h1, h2, h3⟩ := hm
    refine ⟨es, c, o, h1, h2, ?_⟩
    cases o with
    | none => exact hq _ _ h3
    | some o => exact hq _ _ h3⟩
instance (r : Option Nat) : Mono (HM.rangeM r) := ⟨fun h Q1 Q2 hq hm => by
  cases r with
  | none => exact hq _ _ hm
  | some r => obtain ⟨es, c, h1, h2⟩ := hm; exact ⟨es, c, h1, hq _ _ h2⟩⟩
instance (b : Nat) : Mono (HM.nextS b) := ⟨fun h Q1 Q2 hq ⟨s, p, h1, h2, h3⟩ => ⟨s, p, h1, fun hp => hq _ _ (h2 hp), fun hp => hq _ _ (h3 hp)⟩⟩
instance (b : Nat) : Mono (HM.nextM b) := ⟨fun h Q1 Q2 hq ⟨m, since, seen, last, h1, h2⟩ => ⟨m, since, seen, last, h1, by
  cases m with
  | none => exact hq _ _ h2
  | some m =>
    obtain ⟨es, c, h3, h4, h5, h6⟩ := h2
    exact ⟨es, c, h3, h4, fun hh => hq _ _ (h5 hh), fun e he hs => hq _ _ (h6 e he hs)⟩⟩⟩
instance (kk kv : Kind) (b : Nat) : Mono (α := no_index (Kind.ty kk × Kind.ty kv)) (HM.entryM kk kv b) := ⟨fun h Q1 Q2 hq ⟨m, since, seen, stepped, es, stamp, e, k, v, h1, h2, h3, h4, h5, h6, h7⟩ => ⟨m, since, seen, stepped, es, stamp, e, k, v, h1, h2, h3, h4, h5, h6, hq _ _ h7⟩⟩
instance (kd : SameK) (zero : Value) (k : Kind) (r : Option Nat) (key : Value) : Mono (α := no_index (Kind.ty k × Int)) (HM.mapEntry kd zero k r key) := ⟨fun h Q1 Q2 hq ⟨b, es, c, o, h1, h2, h3, h4⟩ => ⟨b, es, c, o, h1, h2, h3, by
  cases o with
  | none => obtain ⟨x, h5, h6⟩ := h4; exact ⟨x, h5, hq _ _ h6⟩
  | some p => obtain ⟨h7, h8, x, h5, h6⟩ := h4; exact ⟨h7, h8, x, h5, hq _ _ h6⟩⟩⟩
instance (r : Option Nat) (st : Int) (v : Value) : Mono (HM.entryStore r st v) := ⟨fun h Q1 Q2 hq ⟨b, es, c, i, h1, h2, h3, h4⟩ => ⟨b, es, c, i, h1, h2, h3, hq _ _ h4⟩⟩
instance mono_opt (o : Option α) (a : HM β) (f : α → HM β) [ha : Mono a] [hf : ∀ x, Mono (f x)] : Mono (HM.opt o a f) := ⟨fun h Q1 Q2 hq hm => by
  cases o with
  | none => exact ha.mono _ _ _ hq hm
  | some x => exact (hf x).mono _ _ _ hq hm⟩
instance (s : Slc) : Mono (HM.strOf s) := ⟨fun _ _ _ hq ⟨ns, h1, h2⟩ => ⟨ns, h1, hq _ _ h2⟩⟩
instance (r : Option Nat) : Mono (HM.mapLen r) := ⟨fun _ _ _ hq ⟨es, c, h1, h2⟩ => ⟨es, c, h1, hq _ _ h2⟩⟩

/-- a loop with a ghost that goes down -/
theorem loop_gh {γ : Type} {body : σ → HM (σ ⊕ τ)} {s : σ} {h : Heap} {Q : τ → Heap → Prop} [hb : ∀ s, Mono (body s)] (I : γ → σ → Heap → Prop) (μ : γ → Nat) (g : γ) (h0 : I g s h)
    (hr : ∀ g s h, I g s h → body s h fun r h' => match r with
      | .inl s' => ∃ g', μ g' < μ g ∧ I g' s' h'
      | .inr t => Q t h') : HM.loop body s h Q := by
  refine loop_ghost (fun n s h => ∃ g, μ g = n ∧ I g s h) (n := μ g) ⟨g, rfl, h0⟩ ?_ (fun s h _ _ hq hm => (hb s).mono h _ _ hq hm)
  rintro n s h ⟨g, rfl, hi⟩
  refine (hb s).mono h _ _ ?_ (hr g s h hi)
  intro r h' hx
  cases r with
  | inr t => exact hx
  | inl s' =>
    obtain ⟨g', h1, h2⟩ := hx
    exact ⟨_, h1, g', rfl, h2⟩

/-- the next round's ghost: 'Next.mk' -/
def Next {γ σ : Type} (I : γ → σ → Heap → Prop) (μ : γ → Nat) (g : γ) (s : σ) (h : Heap) : Prop := ∃ g', μ g' < μ g ∧ I g' s h
theorem Next.mk {γ σ : Type} {I : γ → σ → Heap → Prop} {μ : γ → Nat} {g : γ} {s : σ} {h : Heap} (g' : γ) (h1 : μ g' < μ g) (h2 : I g' s h) : Next I μ g s h := ⟨g', h1, h2⟩
/-- as 'loop_gh', the next round's ghost under a word that simp leaves alone -/
theorem loop_gx {γ : Type} {body : σ → HM (σ ⊕ τ)} {s : σ} {h : Heap} {Q : τ → Heap → Prop} [hb : ∀ s, Mono (body s)] (I : γ → σ → Heap → Prop) (μ : γ → Nat) (g : γ) (h0 : I g s h)
    (hr : ∀ g s h, I g s h → body s h fun r h' => match r with
      | .inl s' => Next I μ g s' h'
      | .inr t => Q t h') : HM.loop body s h Q := loop_gh I μ g h0 hr

end

/-- a cut: what holds behind the first part is all that is known ahead of the second -/
theorem bind_cut {α β : Type} {m : HM α} [hm : Mono m] {f : α → HM β} {h : Heap} {Q : β → Heap → Prop} (P : α → Heap → Prop) (h1 : m h P) (h2 : ∀ a h', P a h' → f a h' Q) : (m.bind f) h Q :=
  hm.mono h P _ h2 h1

end Go.H
