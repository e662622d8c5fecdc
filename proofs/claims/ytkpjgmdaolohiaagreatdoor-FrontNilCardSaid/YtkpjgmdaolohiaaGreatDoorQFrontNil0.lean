/-
  QFrontNil0: what the proof FrontNilProof reaches of our texts: HA.
-/
import Derived.Calls
import Derived.Orders
import Derived.Laws.Sem
import Derived.Laws.World
import Derived.Laws.Entries
import Derived.Laws.Strings
import Derived.Laws.StructEq
import Derived.Laws.BytesString
namespace Go.H
set_option linter.unusedSimpArgs false
set_option linter.unusedVariables false
abbrev Heap := Array Obj
def cellH (h : Heap) (a : Addr) : Option Value :=
  match h[a.block]? with
  | some (.cells c _ _) => if a.spot.isSome then none else c[a.off]?
  | _ => none
def frozenH (h : Heap) (a : Addr) : Bool :=
  match h[a.block]? with
  | some (.cells _ _ (lo, hi)) => lo ≤ a.off && a.off < hi
  | _ => false
def setCellH (h : Heap) (a : Addr) (v : Value) : Heap :=
  h.modify a.block fun
    | .cells c elem frozen => .cells (if a.spot.isSome then c else c.setIfInBounds a.off v) elem frozen
    | o => o
theorem cell_eq (w : World) (a : Addr) : w.cell? a = cellH w.heap a := rfl
theorem frozen_eq (w : World) (a : Addr) : w.frozen? a = frozenH w.heap a := rfl
theorem setCell_heap (w : World) (a : Addr) (v : Value) : (w.setCell a v).heap = setCellH w.heap a v := rfl
structure Same (w w' : World) : Prop where
  os : w'.os = w.os
  tape : w'.tape = w.tape
  output : w'.output = w.output
theorem Same.refl (w : World) : Same w w := ⟨rfl, rfl, rfl⟩
theorem Same.trans {a b c : World} (h : Same a b) (k : Same b c) : Same a c := ⟨k.os.trans h.os, k.tape.trans h.tape, k.output.trans h.output⟩
def HCalls (P : Program) (f : FuncId) (args : Array Value) (h : Heap) (Q : Value → Heap → Prop) : Prop :=
  ∀ w, w.heap = h → Calls P f args w fun e w' => ∃ v, e = .returned v ∧ Same w w' ∧ Q v w'.heap
theorem HCalls.mono {P : Program} {f : FuncId} {args : Array Value} {h : Heap} {Q Q' : Value → Heap → Prop}
    (hc : HCalls P f args h Q) (hq : ∀ v h', Q v h' → Q' v h') : HCalls P f args h Q' :=
  fun w hw => (hc w hw).mono fun _ _ ⟨v, he, hs, q⟩ => ⟨v, he, hs, hq _ _ q⟩
structure Slc where
  a : Option Addr
  len : Nat
  cap : Nat
  deriving Inhabited
inductive Tag where
  | int (k : IntKind) | bool | str | ptr | slc | map | any
abbrev Tag.ty : Tag → Type
  | .int _ => Int
  | .bool => Bool
  | .str => ByteArray
  | .ptr => Option Addr
  | .slc => Slc
  | .map => Option Nat
  | .any => Value
def Tag.val : (t : Tag) → t.ty → Value
  | .int k, n => .int k n
  | .bool, b => .bool b
  | .str, s => .string s
  | .ptr, p => .pointer p
  | .slc, s => .slice s.a s.len s.cap
  | .map, r => .map r
  | .any, v => v
def ikEq : IntKind → IntKind → Bool
  | .i8, .i8 => true
  | .i16, .i16 => true
  | .i32, .i32 => true
  | .i64, .i64 => true
  | .u8, .u8 => true
  | .u16, .u16 => true
  | .u32, .u32 => true
  | .u64, .u64 => true
  | _, _ => false
theorem ikEq_eq {a b : IntKind} (h : ikEq a b = true) : a = b := by
  cases a <;> cases b <;> first | rfl | cases h
def Tag.get : (t : Tag) → Value → Option t.ty
  | .int k, .int k' n => if ikEq k k' = true then some n else none
  | .bool, .bool b => some b
  | .str, .string s => some s
  | .ptr, .pointer p => some p
  | .slc, .slice a n c => some ⟨a, n, c⟩
  | .map, .map r => some r
  | .any, v => some v
  | _, _ => none
theorem Tag.get_val {t : Tag} {v : Value} {x : t.ty} (h : t.get v = some x) : v = t.val x := by
  cases t <;> cases v <;> simp [Tag.get] at h <;> (try (obtain ⟨h1, h2⟩ := h; have := ikEq_eq h1; subst this)) <;> simp_all [Tag.val]
  subst h; exact ⟨rfl, rfl, rfl⟩
def Tag.of : Value → Option Tag
  | .int k _ => some (.int k)
  | .bool _ => some .bool
  | .string _ => some .str
  | .pointer _ => some .ptr
  | .slice .. => some .slc
  | .map _ => some .map
  | .agg _ => none
  | .tuple _ => none
  | _ => some .any
abbrev HT {α : Type} (ty : α → Type) : List α → Type
  | [] => Unit
  | t :: ts => ty t × HT ty ts
def HT.vals {α : Type} {ty : α → Type} (val : (t : α) → ty t → Value) : (ts : List α) → HT ty ts → List Value
  | [], _ => []
  | t :: ts, x => val t x.1 :: HT.vals val ts x.2
def HT.get {α : Type} {ty : α → Type} (get : (t : α) → Value → Option (ty t)) : (ts : List α) → List Value → Option (HT ty ts)
  | [], [] => some ()
  | [], _ :: _ => none
  | _ :: _, [] => none
  | t :: ts, v :: vs => match get t v with
    | some x => match HT.get get ts vs with
      | some y => some (x, y)
      | none => none
    | none => none
theorem HT.get_vals {α : Type} {ty : α → Type} {val : (t : α) → ty t → Value} {get : (t : α) → Value → Option (ty t)} (hg : ∀ t v x, get t v = some x → v = val t x)
    (ts : List α) : ∀ (vs : List Value) (x : HT ty ts), HT.get get ts vs = some x → vs = HT.vals val ts x := by
  induction ts with
  | nil => intro vs x h; cases vs with
    | nil => rfl
    | cons v vs => cases h
  | cons t ts ih => intro vs x h; cases vs with
    | nil => cases h
    | cons v vs =>
      simp only [HT.get] at h
      cases h1 : get t v with
      | none => rw [h1] at h; cases h
      | some y =>
        rw [h1] at h
        simp only at h
        cases h2 : HT.get get ts vs with
        | none => rw [h2] at h; cases h
        | some z =>
          rw [h2] at h
          cases h
          show v :: vs = val t y :: HT.vals val ts z
          rw [← ih vs z h2, ← hg t v y h1]
abbrev Tup (ts : List Tag) : Type := HT Tag.ty ts
abbrev Tup.vals (ts : List Tag) (x : Tup ts) : List Value := HT.vals Tag.val ts x
abbrev Tup.get (ts : List Tag) (vs : List Value) : Option (Tup ts) := HT.get Tag.get ts vs
theorem Tup.get_vals (ts : List Tag) (vs : List Value) (x : Tup ts) (h : Tup.get ts vs = some x) : vs = Tup.vals ts x :=
  HT.get_vals (val := Tag.val) (get := Tag.get) (fun t _ _ h => Tag.get_val (t := t) h) ts vs x h
inductive Kind where
  | one (t : Tag)
  | agg (ts : List Tag)
abbrev Kind.ty : Kind → Type
  | .one t => t.ty
  | .agg ts => Tup ts
def Kind.val : (k : Kind) → k.ty → Value
  | .one t, x => t.val x
  | .agg ts, x => .agg (Tup.vals ts x).toArray
def Kind.get : (k : Kind) → Value → Option k.ty
  | .one t, v => t.get v
  | .agg ts, .agg cs => Tup.get ts cs.toList
  | .agg _, _ => none
theorem Kind.get_val {k : Kind} {v : Value} {x : k.ty} (h : k.get v = some x) : v = k.val x := by
  cases k with
  | one t => exact Tag.get_val h
  | agg ts =>
    cases v <;> simp only [Kind.get] at h <;> try cases h
    rename_i cs
    simp only [Kind.val]
    rw [← Tup.get_vals ts _ x h]
def tagsOf : List Value → Option (List Tag)
  | [] => some []
  | v :: vs => match Tag.of v with
    | some t => match tagsOf vs with
      | some ts => some (t :: ts)
      | none => none
    | none => none
def Kind.of : Value → Option Kind
  | .agg cs => match tagsOf cs.toList with
    | some ts => some (.agg ts)
    | none => none
  | v => match Tag.of v with
    | some t => some (.one t)
    | none => none
def kindOf (P : Program) (t : TypeId) : Option Kind :=
  match P.info? t with
  | some i => match i.zero with
    | some z => Kind.of z
    | none => none
  | none => none
abbrev KTup (ks : List Kind) : Type := HT Kind.ty ks
abbrev KTup.vals (ks : List Kind) (x : KTup ks) : List Value := HT.vals Kind.val ks x
abbrev KTup.get (ks : List Kind) (vs : List Value) : Option (KTup ks) := HT.get Kind.get ks vs
theorem KTup.get_vals (ks : List Kind) (vs : List Value) (x : KTup ks) (h : KTup.get ks vs = some x) : vs = KTup.vals ks x :=
  HT.get_vals (val := Kind.val) (get := Kind.get) (fun k _ _ h => Kind.get_val (k := k) h) ks vs x h
abbrev HM (α : Type) : Type := Heap → (α → Heap → Prop) → Prop
def HM.pure {α : Type} (a : α) : HM α := fun h Q => Q a h
def HM.bind {α β : Type} (m : HM α) (f : α → HM β) : HM β := fun h Q => m h fun a h' => f a h' Q
def HM.fail {α : Type} : HM α := fun _ _ => False
def HM.ite {α : Type} (b : Bool) (x y : HM α) : HM α := fun h Q => if b = true then x h Q else y h Q
def HM.req {α : Type} (p : Prop) (m : HM α) : HM α := fun h Q => p ∧ m h Q
def HM.both {α : Type} (x y : HM α) : HM α := fun h Q => x h Q ∧ y h Q
def HM.loop {σ τ : Type} (body : σ → HM (σ ⊕ τ)) (s : σ) : HM τ := fun h Q =>
  ∃ (I : σ → Heap → Prop) (μ : σ → Heap → Nat), I s h ∧ ∀ s h, I s h →
    body s h fun r h' => match r with
      | .inl s' => I s' h' ∧ μ s' h' < μ s h
      | .inr t => Q t h'
def HM.load1 (t : Tag) (a : Addr) : HM t.ty := fun h Q => ∃ x, cellH h a = some (t.val x) ∧ Q x h
def HM.loadN (ts : List Tag) (a : Addr) : HM (Tup ts) := fun h Q =>
  ∃ x, (∀ i v, (Tup.vals ts x)[i]? = some v → cellH h (a.add i) = some v) ∧ Q x h
def HM.store1 (a : Addr) (v : Value) : HM Unit := fun h Q =>
  (cellH h a).isSome = true ∧ frozenH h a = false ∧ v.oneCell' = true ∧ Q () (setCellH h a v)
def setCellsH (h : Heap) (a : Addr) : List Value → Nat → Heap
  | [], _ => h
  | v :: vs, i => setCellsH (setCellH h (a.add i) v) a vs (i + 1)
def HM.storeN (a : Addr) (vs : List Value) : HM Unit := fun h Q =>
  (∀ i v, vs[i]? = some v → (cellH h (a.add i)).isSome = true ∧ frozenH h (a.add i) = false ∧ v.oneCell' = true) ∧ Q () (setCellsH h a vs 0)
def HM.new (o : Obj) : HM Nat := fun h Q => Q h.size (h.push o)
def HM.nonnil (p : Option Addr) : HM Addr := fun h Q => ∃ a, p = some a ∧ Q a h
def HM.idx (a : Option Addr) (len : Nat) (i : Int) (size : Nat) : HM Addr := fun h Q =>
  ∃ x, a = some x ∧ 0 ≤ i ∧ i < (len : Int) ∧ Q (x.add (i.toNat * size)) h
def HM.strIdx (s : ByteArray) (i : Int) : HM Int := fun h Q =>
  ∃ b, 0 ≤ i ∧ s[i.toNat]? = some b ∧ Q (b.toNat : Int) h
def CallOK (P : Program) (f : FuncId) : Prop := ∀ args w, (callFunc f args).run P w = .ok (.enter f args) w
def HM.call1 (P : Program) (k : Kind) (f : FuncId) (args : Array Value) : HM k.ty := fun h Q =>
  HCalls P f args h fun v h' => ∃ x, v = k.val x ∧ Q x h'
def HM.callN (P : Program) (ks : List Kind) (f : FuncId) (args : Array Value) : HM (KTup ks) := fun h Q =>
  HCalls P f args h fun v h' => ∃ x, v = .tuple (KTup.vals ks x).toArray ∧ Q x h'
def HM.callV1 (P : Program) (k : Kind) (v : Value) (args : Array Value) : HM k.ty := fun h Q =>
  ∃ f first captured, v = .func (.func f) first captured ∧ CallOK P f ∧ HCalls P f (first ++ args ++ captured) h fun v h' => ∃ x, v = k.val x ∧ Q x h'
def HM.callVN (P : Program) (ks : List Kind) (v : Value) (args : Array Value) : HM (KTup ks) := fun h Q =>
  ∃ f first captured, v = .func (.func f) first captured ∧ CallOK P f ∧ HCalls P f (first ++ args ++ captured) h fun v h' => ∃ x, v = .tuple (KTup.vals ks x).toArray ∧ Q x h'
def sliceOf (s : Slc) (lo hi mx : Nat) (size : Nat) : Slc :=
  ⟨if mx = lo then s.a else s.a.map (·.add (lo * size)), hi - lo, mx - lo⟩
def optLe (x : Option Int) (none : Prop) (m bound : Nat) : Prop :=
  match x with
  | some x => x = (m : Int) ∧ m ≤ bound
  | .none => none
def HM.slice (s : Slc) (lo hi mx : Option Int) (size : Nat) : HM Slc := fun h Q =>
  ∃ l hh m : Nat, optLe mx (m = s.cap) m s.cap ∧ optLe hi (mx = none ∧ hh = s.len) hh m ∧ optLe lo (l = 0) l hh ∧ Q (sliceOf s l hh m size) h
def HM.substr (s : ByteArray) (lo hi : Option Int) : HM ByteArray := fun h Q =>
  ∃ l hh : Nat, optLe hi (hh = s.size) hh s.size ∧ optLe lo (l = 0) l hh ∧ Q (s.extract l hh) h
def readsH (h : Heap) (a : Option Addr) (n : Nat) (vs : Array Value) : Prop :=
  match a with
  | some x => vs.size = n ∧ ∀ (i : Nat) v, vs[i]? = some v → cellH h (x.add i) = some v
  | none => vs = #[]
def HM.clearS (zero : Array Value) (s : Slc) : HM Unit := fun h Q =>
  match s.a with
  | none => Q () h
  | some a => if s.len = 0 then Q () h else
    (∀ (i : Nat) v, (Builtin.zeroCells zero s.len).toList[i]? = some v → (cellH h (a.add i)).isSome = true ∧ frozenH h (a.add i) = false ∧ v.oneCell' = true) ∧
      Q () (setCellsH h a (Builtin.zeroCells zero s.len).toList 0)
def HM.clearM (r : Option Nat) : HM Unit := fun h Q =>
  match r with
  | none => Q () h
  | some b => ∃ (es : Array MapEntry) (clock : Nat), h[b]? = some (.map es clock) ∧ Q () (h.setIfInBounds b (.map #[] clock))
def HM.append (elem : TypeId) (size bytes : Nat) (zero : Array Value) (s : Slc) (n : Nat) (src : Heap → Array Value → Prop) : HM Slc := fun h Q =>
  (s.len + n ≤ s.cap → ∃ vs, src h vs ∧
    match s.a with
    | some a => (∀ i v, vs[i]? = some v → (cellH h ((a.add (s.len * size)).add i)).isSome = true ∧ frozenH h ((a.add (s.len * size)).add i) = false ∧ v.oneCell' = true) ∧
        Q ⟨s.a, s.len + n, s.cap⟩ (setCellsH h (a.add (s.len * size)) vs.toList 0)
    | none => Q ⟨none, s.len + n, s.cap⟩ h) ∧
  (s.cap < s.len + n → (s.len + n : Nat) ≤ 9223372036854775807 ∧ Builtin.nextslicecap (s.len + n) s.cap * bytes ≤ 2 ^ 48 ∧ ∃ old vs, readsH h s.a (s.len * size) old ∧ src h vs ∧
    ∀ c, s.len + n ≤ c → c ≤ 9223372036854775807 → Q ⟨some ⟨h.size, 0, none⟩, s.len + n, c⟩ (h.push (.cells (old ++ vs ++ Builtin.zeroCells zero (c - (s.len + n))) elem)))
def srcSlc (size : Nat) (x : Slc) (h : Heap) (vs : Array Value) : Prop := readsH h x.a (x.len * size) vs
def srcStr (s : ByteArray) (_ : Heap) (vs : Array Value) : Prop := vs = s.data.map fun b => .int .u8 b.toNat
def HM.makeSlice (elem : TypeId) (bytes : Nat) (zero : Array Value) (n c : Int) : HM Slc := fun h Q =>
  0 ≤ n ∧ n ≤ c ∧ c ≤ 9223372036854775807 ∧ (bytes : Int) * c ≤ 2 ^ 48 ∧
    Q ⟨some ⟨h.size, 0, none⟩, n.toNat, c.toNat⟩ (h.push (.cells (Builtin.zeroCells zero c.toNat) elem))
def HM.copy (d : Slc) (n : Nat) (src : Nat → Heap → Array Value → Prop) : HM Int := fun h Q =>
  ∃ vs, src (Nat.min n d.len) h vs ∧
    match d.a with
    | some a => (∀ i v, vs[i]? = some v → (cellH h (a.add i)).isSome = true ∧ frozenH h (a.add i) = false ∧ v.oneCell' = true) ∧ Q ((Nat.min n d.len : Nat) : Int) (setCellsH h a vs.toList 0)
    | none => Q ((Nat.min n d.len : Nat) : Int) h
def entriesH (h : Heap) (r : Option Nat) (es : List MapEntry) (clock : Nat) : Prop :=
  match r with
  | none => es = [] ∧ clock = 0
  | some r => h[r]? = some (.map es.toArray clock)
abbrev SameK := Value → Value → Option Bool
def placeAt (sm : SameK) (k : Value) : List MapEntry → Nat → Option (Option (Nat × Value))
  | [], _ => some none
  | e :: es, i => match sm k e.key with
    | some true => some (some (i, e.val))
    | some false => placeAt sm k es (i + 1)
    | none => none
def placeOf (sm : SameK) (k : Value) (es : List MapEntry) : Option (Option (Nat × Value)) := placeAt sm k es 0
theorem placeAt_now (kd : TypeDesc) (k : Value) : ∀ (es : List MapEntry) (i : Nat), placeAt (Instr.sameNow kd) k es i = Instr.findNow kd k es i
  | [], _ => rfl
  | e :: es, i => by
    simp only [placeAt, Instr.findNow]
    rw [placeAt_now kd k es (i + 1)]
    cases Instr.sameNow kd k e.key with
    | none => rfl
    | some b => cases b <;> rfl
def HM.lookup (kd : SameK) (zero : Value) (k : Kind) (r : Option Nat) (key : Value) : HM (k.ty × Bool) := fun h Q =>
  ∃ es clock o x, entriesH h r es clock ∧ placeOf kd key es = some o ∧
    (match o with | some (_, v) => v = k.val x | none => zero = k.val x) ∧ Q (x, o.isSome) h
def HM.mapSet (kd : SameK) (r : Option Nat) (key val : Value) : HM Unit := fun h Q =>
  ∃ b es clock o, r = some b ∧ h[b]? = some (.map es clock) ∧ placeOf kd key es.toList = some o ∧
    match o with
    | some (i, _) => ((es[i]?).map (·.key)).getD key = key ∧ Instr.sameBits 10000 key key = true ∧ Q () (h.setIfInBounds b (.map (es.modify i fun e => { e with key := key, val := val }) clock))
    | none => Q () (h.setIfInBounds b (.map (es.push { key := key, val := val, born := clock }) (clock + 1)))
def HM.mapEntry (kd : SameK) (zero : Value) (k : Kind) (r : Option Nat) (key : Value) : HM (k.ty × Int) := fun h Q =>
  ∃ b es clock o, r = some b ∧ h[b]? = some (.map es clock) ∧ placeOf kd key es.toList = some o ∧
    match o with
    | some (i, v) => ((es[i]?).map (·.key)).getD key = key ∧ Instr.sameBits 10000 key key = true ∧
        ∃ x, v = k.val x ∧ Q (x, (((es[i]?).map (·.born)).getD 0 : Nat)) (h.setIfInBounds b (.map (es.modify i fun e => { e with key := key }) clock))
    | none => ∃ x, zero = k.val x ∧ Q (x, (clock : Int)) (h.setIfInBounds b (.map (es.push { key := key, val := zero, born := clock }) (clock + 1)))
def HM.entryStore (r : Option Nat) (stamp : Int) (val : Value) : HM Unit := fun h Q =>
  ∃ b es clock i, r = some b ∧ h[b]? = some (.map es clock) ∧ es.findIdx? (fun e => (e.born : Int) == stamp) = some i ∧
    Q () (h.setIfInBounds b (.map (es.modify i fun e => { e with val := val }) clock))
def HM.mapDel (kd : SameK) (r : Option Nat) (key : Value) : HM Unit := fun h Q =>
  match r with
  | none => Q () h
  | some b => ∃ es clock o, h[b]? = some (.map es clock) ∧ placeOf kd key es.toList = some o ∧
    match o with
    | some (i, _) => Q () (h.setIfInBounds b (.map (es.eraseIdxIfInBounds i) clock))
    | none => Q () (h.setIfInBounds b (.map es clock))
def HM.rangeM (r : Option Nat) : HM Nat := fun h Q =>
  match r with
  | none => Q h.size (h.push (.mapIter none 0 #[] 0))
  | some m => ∃ es clock, h[m]? = some (.map es clock) ∧ Q h.size (h.push (.mapIter (some m) clock #[] clock))
def HM.nextM (b : Nat) : HM (Option (Value × Value)) := fun h Q =>
  ∃ m since seen last, h[b]? = some (.mapIter m since seen last) ∧
    match m with
    | none => Q none h
    | some m => ∃ es clock, h[m]? = some (.map es clock) ∧ (!seen.isEmpty && !es.isEmpty && es.all (fun e => e.born ≥ last)) = false ∧
        ((∀ e ∈ es, seen.contains e.born = false → since ≤ e.born) → Q none h) ∧
        ∀ e ∈ es, seen.contains e.born = false → Q (some (e.key, e.val)) (h.setIfInBounds b (.mapIter (some m) since (seen.push e.born) clock))
def HM.entryM (kk kv : Kind) (b : Nat) : HM (kk.ty × kv.ty) := fun h Q =>
  ∃ m since seen stepped es stamp e k v, h[b]? = some (.mapIter (some m) since seen stepped) ∧ seen.back? = some stamp ∧ h[m]? = some (.map es stepped) ∧
    es.find? (fun e => e.born == stamp) = some e ∧ e.key = kk.val k ∧ e.val = kv.val v ∧ Q (k, v) h
def HM.nextS (b : Nat) : HM (Option (Int × Int)) := fun h Q =>
  ∃ s pos, h[b]? = some (.stringIter s pos) ∧
    (pos < s.size → Q (some ((pos : Int), ((Utf8.decode s pos).1 : Int))) (h.setIfInBounds b (.stringIter s (pos + (Utf8.decode s pos).2)))) ∧
    (¬ pos < s.size → Q none h)
def HM.opt {α β : Type} (o : Option α) (a : HM β) (f : α → HM β) : HM β := fun h Q =>
  match o with
  | none => a h Q
  | some x => f x h Q
def bytesOfInts (ns : List Int) : ByteArray := ns.foldl (fun r n => r.push (UInt8.ofNat n.toNat)) ByteArray.empty
def HM.strOf (s : Slc) : HM ByteArray := fun h Q => ∃ ns : List Int, readsH h s.a s.len (ns.map (Value.int .u8)).toArray ∧ Q (bytesOfInts ns) h
def HM.mapLen (r : Option Nat) : HM Int := fun h Q => ∃ es clock, entriesH h r es clock ∧ Q (es.length : Int) h
end Go.H
namespace Go.H
set_option linter.unusedSimpArgs false
set_option linter.unusedVariables false
abbrev Env := List (Nat × Value)
def Env.get : Env → Nat → Option Value
  | [], _ => none
  | (t, v) :: e, n => match Nat.beq t n with
    | true => some v
    | false => Env.get e n
def memN : Nat → List Nat → Bool
  | _, [] => false
  | n, t :: ts => match Nat.beq t n with
    | true => true
    | false => memN n ts
def Env.forget (ts : List Nat) : Env → Env
  | [] => []
  | (t, v) :: e => match memN t ts with
    | true => Env.forget ts e
    | false => (t, v) :: Env.forget ts e
def Env.put (e : Env) (dst : Option Tmp) (v : Value) : Env :=
  match dst with
  | some d => (d, v) :: e
  | none => e
def Env.ev (e : Env) : Operand → Option Value
  | .tmp t => e.get t
  | .const v => some v
  | .global g => some (.pointer (some ⟨g, 0, none⟩))
  | .func f => some (.func (.func f) #[] #[])
def Env.evs (e : Env) : List Operand → Option (List Value)
  | [] => some []
  | x :: xs => match e.ev x with
    | some v => match Env.evs e xs with
      | some vs => some (v :: vs)
      | none => none
    | none => none
def bitOp (op : BinOp) (k : IntKind) (x y : Int) : Int :=
  let a := BitVec.ofInt k.bits x
  let b := BitVec.ofInt k.bits y
  match op with
  | .and => k.wrap (a &&& b).toNat
  | .or => k.wrap (a ||| b).toNat
  | .xor => k.wrap (a ^^^ b).toNat
  | _ => k.wrap (a &&& ~~~b).toNat
def isNilI : Value → Bool
  | .nilIface => true
  | _ => false
def isIface : Value → Bool
  | .nilIface => true
  | .iface _ _ => true
  | _ => false
def isNilF : Value → Bool
  | .nilFunc => true
  | _ => false
def isFunc : Value → Bool
  | .nilFunc => true
  | .func _ _ _ => true
  | _ => false
section
variable {ρ : Type}
def eqRes (neg : Bool) (r : Bool) : Bool :=
  match neg with
  | true => !r
  | false => r
def denInt (op : BinOp) (kx ky : IntKind) (a b : Int) (k : Value → HM ρ) : HM ρ :=
  match op with
  | .shl => HM.req (0 ≤ b) (k (.int kx (kx.wrap (a * 2 ^ (min b.toNat kx.bits)))))
  | .shr => HM.req (0 ≤ b) (k (.int kx (a.fdiv (2 ^ (min b.toNat kx.bits)))))
  | op => match ikEq kx ky with
    | false => HM.fail
    | true => match op with
      | .add => k (.int kx (kx.wrap (a + b)))
      | .sub => k (.int kx (kx.wrap (a - b)))
      | .mul => k (.int kx (kx.wrap (a * b)))
      | .quo => HM.req (b ≠ 0) (k (.int kx (kx.wrap (a.tdiv b))))
      | .rem => HM.req (b ≠ 0) (k (.int kx (a.tmod b)))
      | .and => k (.int kx (bitOp .and kx a b))
      | .or => k (.int kx (bitOp .or kx a b))
      | .xor => k (.int kx (bitOp .xor kx a b))
      | .andNot => k (.int kx (bitOp .andNot kx a b))
      | .lss => k (.bool (decide (a < b)))
      | .leq => k (.bool (decide (a ≤ b)))
      | .gtr => k (.bool (decide (b < a)))
      | .geq => k (.bool (decide (b ≤ a)))
      | _ => HM.fail
def denStr (op : BinOp) (a b : ByteArray) (k : Value → HM ρ) : HM ρ :=
  match op with
  | .add => HM.req (a.size + b.size ≤ 9223372036854775807) (k (.string (a ++ b)))
  | .lss => k (.bool (Op.bytesLess a.toList b.toList))
  | .leq => k (.bool (Op.bytesLess a.toList b.toList || a.toList == b.toList))
  | .gtr => k (.bool !(Op.bytesLess a.toList b.toList || a.toList == b.toList))
  | .geq => k (.bool !(Op.bytesLess a.toList b.toList))
  | _ => HM.fail
def isAggD : TypeDesc → Bool
  | .struct _ => true
  | .array _ _ => true
  | _ => false
def partAs (P : Program) (t : TypeId) (cs : List Value) (off : Nat) : Option Value :=
  match P.underlying t with
  | some d => match isAggD d with
    | true => some (.agg ((cs.drop off).take (P.cellsOf t)).toArray)
    | false => cs[off]?
  | none => none
def eqFs (P : Program) (rec : TypeId → Value → Value → Option Bool) (xs ys : List Value) : List Field → Option Bool
  | [] => some true
  | f :: fs => match decide (f.name = "_") with
    | true => none
    | false => match partAs P f.type xs f.offset with
      | none => none
      | some a => match partAs P f.type ys f.offset with
        | none => none
        | some b => match rec f.type a b with
          | none => none
          | some r => match eqFs P rec xs ys fs with
            | none => none
            | some r' => some (r && r')
def eqTy (P : Program) : Nat → TypeId → Value → Value → Option Bool
  | 0, _, _, _ => none
  | d + 1, t, x, y => match P.underlying t with
    | some (.int _) => match x, y with
      | .int k a, .int k' b => match ikEq k k' with
        | true => some (a == b)
        | false => none
      | _, _ => none
    | some .bool => match x, y with
      | .bool a, .bool b => some (a == b)
      | _, _ => none
    | some .string => match x, y with
      | .string a, .string b => some (decide (a = b))
      | _, _ => none
    | some (.struct fs) => match P.stoodInHeld t with
      | true => none
      | false => match x, y with
        | .agg xs, .agg ys => eqFs P (eqTy P d) xs.toList ys.toList fs.toList
        | _, _ => none
    | _ => none
def denEq (P : Program) (neg : Bool) (t : TypeId) (yo : Operand) (x y : Value) (k : Value → HM ρ) : HM ρ :=
  match P.underlying t with
  | some (.pointer _) => match yo with
    | .const (.pointer none) => match x with
      | .pointer p => k (.bool (eqRes neg p.isNone))
      | _ => HM.fail
    | _ => HM.fail
  | some (.slice _) => match yo with
    | .const (.slice none _ _) => match x with
      | .slice p _ _ => k (.bool (eqRes neg p.isNone))
      | _ => HM.fail
    | _ => HM.fail
  | some (.map _ _) => match yo with
    | .const (.map none) => match x with
      | .map p => k (.bool (eqRes neg p.isNone))
      | _ => HM.fail
    | _ => HM.fail
  | some (.interface _) => match yo with
    | .const .nilIface => HM.req (isIface x = true) (k (.bool (eqRes neg (isNilI x))))
    | _ => HM.fail
  | some (.func _ _ _) => match yo with
    | .const .nilFunc => HM.req (isFunc x = true) (k (.bool (eqRes neg (isNilF x))))
    | _ => HM.fail
  | some (.int _) => match x, y with
    | .int kx a, .int ky b => match ikEq kx ky with
      | true => k (.bool (eqRes neg (a == b)))
      | false => HM.fail
    | _, _ => HM.fail
  | some .bool => match x, y with
    | .bool a, .bool b => k (.bool (eqRes neg (a == b)))
    | _, _ => HM.fail
  | some .string => match x, y with
    | .string a, .string b => k (.bool (eqRes neg (decide (a = b))))
    | _, _ => HM.fail
  | some (.struct _) => match x with
    | .agg _ => match eqTy P 8 t x y with
      | some r => k (.bool (eqRes neg r))
      | none => HM.fail
    | _ => HM.fail
  | _ => HM.fail
def denBin (P : Program) (op : BinOp) (t : TypeId) (yo : Operand) (x y : Value) (k : Value → HM ρ) : HM ρ :=
  match op with
  | .eql => denEq P false t yo x y k
  | .neq => denEq P true t yo x y k
  | op => match x, y with
    | .int kx a, .int ky b => denInt op kx ky a b k
    | .string a, .string b => denStr op a b k
    | _, _ => HM.fail
def denUn (op : UnOp) (x : Value) (k : Value → HM ρ) : HM ρ :=
  match op, x with
  | .not, .bool b => k (.bool !b)
  | .neg, .int kd n => k (.int kd (kd.wrap (0 - n)))
  | .xor, .int kd n => k (.int kd (bitOp .xor kd (if kd.signed then -1 else kd.max) n))
  | _, _ => HM.fail
def denLoad (P : Program) (t : TypeId) (x : Value) (k : Value → HM ρ) : HM ρ :=
  match x with
  | .pointer (some a) => match P.underlying t with
    | some d => match isAggD d with
      | true => match kindOf P t with
        | some (.agg ts) => match Nat.beq ts.length (P.cellsOf t) with
          | true => (HM.loadN ts a).bind fun vs => k (.agg (Tup.vals ts vs).toArray)
          | false => HM.fail
        | _ => HM.fail
      | false => match kindOf P t with
        | some (.one tg) => (HM.load1 tg a).bind fun v => k (tg.val v)
        | _ => HM.fail
    | none => HM.fail
  | _ => HM.fail
def cellsAs (kd : Kind) (v : Value) : Option (List Value) :=
  match kd with
  | .one _ => some [v]
  | .agg ts => match v with
    | .agg cs => match Nat.beq cs.toList.length ts.length with
      | true => some cs.toList
      | false => none
    | _ => none
def Tag.isAny : Tag → Bool
  | .any => true
  | _ => false
def reqOne (kd : Kind) (v : Value) (m : HM ρ) : HM ρ :=
  match kd with
  | .one tg => match tg.isAny with
    | true => HM.req (v.oneCell' = true) m
    | false => match tg.get v with
      | some _ => m
      | none => HM.fail
  | .agg _ => m
def denStore (P : Program) (t : TypeId) (x v : Value) (k : Value → HM ρ) : HM ρ :=
  match x with
  | .pointer (some a) => match kindOf P t with
    | some kd => match cellsAs kd v with
      | some cs => match Nat.beq cs.length (P.cellsOf t) with
        | true => match kd with
          | .one _ => (HM.store1 a v).bind fun _ => k undef
          | .agg _ => (HM.storeN a cs).bind fun _ => k undef
        | false => HM.fail
      | none => HM.fail
    | none => HM.fail
  | _ => HM.fail
def denBox (P : Program) (t : TypeId) (v : Value) (k : Value → HM ρ) : HM ρ :=
  match kindOf P t with
  | some kd => match cellsAs kd v with
    | some cs => reqOne kd v ((HM.new (.cells cs.toArray t)).bind fun r => k (.pointer (some ⟨r, 0, none⟩)))
    | none => HM.fail
  | none => HM.fail
def denAlloc (P : Program) (t : TypeId) (k : Value → HM ρ) : HM ρ :=
  match P.info? t with
  | some i => match i.zero with
    | some z => (HM.new (.cells z.cells t)).bind fun r => k (.pointer (some ⟨r, 0, none⟩))
    | none => HM.fail
  | none => HM.fail
def overlay : List Value → Nat → List Value → List Value
  | cs, _, [] => cs
  | [], _, _ :: _ => []
  | _ :: cs, 0, v :: vs => v :: overlay cs 0 vs
  | c :: cs, n + 1, v :: vs => c :: overlay cs n (v :: vs)
def fillAs (place : Nat → Option (Nat × Kind)) : List Value → List (Nat × Value) → Option (List Value)
  | cs, [] => some cs
  | cs, (i, v) :: rest => match place i with
    | some (off, kd) => match cellsAs kd v with
      | some vs => match Nat.ble (off + vs.length) cs.length with
        | true => fillAs place (overlay cs off vs) rest
        | false => none
      | none => none
    | none => none
def reqParts (place : Nat → Option (Nat × Kind)) (ps : List (Nat × Value)) (m : HM ρ) : HM ρ :=
  match ps with
  | [] => m
  | (i, v) :: rest => match place i with
    | some (_, kd) => reqOne kd v (reqParts place rest m)
    | none => HM.fail
def evParts (e : Env) : List (Nat × Operand) → Option (List (Nat × Value))
  | [] => some []
  | (i, x) :: xs => match e.ev x with
    | some v => match evParts e xs with
      | some vs => some ((i, v) :: vs)
      | none => none
    | none => none
def fieldPlaces (P : Program) (fields : Array Field) (i : Nat) : Option (Nat × Kind) :=
  match fields.toList[i]? with
  | some f => match kindOf P f.type with
    | some kd => match kd with
      | .one tg => match Nat.beq (P.cellsOf f.type) 1 with
        | true => some (f.offset, .one tg)
        | false => none
      | .agg ts => match Nat.beq (P.cellsOf f.type) ts.length with
        | true => some (f.offset, .agg ts)
        | false => none
    | none => none
  | none => none
def elemPlaces (P : Program) (elem : TypeId) (i : Nat) : Option (Nat × Kind) :=
  match kindOf P elem with
  | some kd => match kd with
    | .one tg => match Nat.beq (P.cellsOf elem) 1 with
      | true => some (i, .one tg)
      | false => none
    | .agg ts => match Nat.beq (P.cellsOf elem) ts.length with
      | true => some (i * ts.length, .agg ts)
      | false => none
  | none => none
def allInfo (P : Program) : List Field → Bool
  | [] => true
  | f :: r => match P.info? f.type with
    | some _ => allInfo P r
    | none => false
def denBuild (P : Program) (t : TypeId) (ps : List (Nat × Value)) (k : Value → HM ρ) : HM ρ :=
  match P.underlying t with
  | some (.struct fields) => match allInfo P fields.toList with
    | true => match P.info? t with
      | some i => match i.zero with
        | some z => match fillAs (fieldPlaces P fields) z.cells.toList ps with
          | some cs => reqParts (fieldPlaces P fields) ps (k (.agg cs.toArray))
          | none => HM.fail
        | none => HM.fail
      | none => HM.fail
    | false => HM.fail
  | some (.array _ elem) => match P.info? t with
    | some i => match i.zero with
      | some z => match P.info? elem with
        | some _ => match fillAs (elemPlaces P elem) z.cells.toList ps with
          | some cs => reqParts (elemPlaces P elem) ps (k (.agg cs.toArray))
          | none => HM.fail
        | none => HM.fail
      | none => HM.fail
    | none => HM.fail
  | _ => HM.fail
def repl (z : List Value) : Nat → List Value
  | 0 => []
  | n + 1 => z ++ repl z n
def denBuildSlice (P : Program) (t : TypeId) (len : Nat) (ps : List (Nat × Value)) (k : Value → HM ρ) : HM ρ :=
  match P.underlying t with
  | some (.slice elem) => match P.info? elem with
    | some i => match i.zero with
      | some z => match Nat.beq z.cells.toList.length i.size with
        | true => match Nat.ble (len * i.size) 16777216 with
          | true => match Nat.ble 1 i.size with
            | true => match fillAs (elemPlaces P elem) (repl z.cells.toList len) ps with
              | some cs => reqParts (elemPlaces P elem) ps ((HM.new (.cells cs.toArray elem)).bind fun r => k (.slice (some ⟨r, 0, none⟩) len len))
              | none => HM.fail
            | false => HM.fail
          | false => HM.fail
        | false => HM.fail
      | none => HM.fail
    | none => HM.fail
  | _ => HM.fail
def denFieldAddr (P : Program) (s : TypeId) (x : Value) (f : Nat) (k : Value → HM ρ) : HM ρ :=
  match x with
  | .pointer (some a) => match P.underlying s with
    | some (.struct fields) => match fields.toList[f]? with
      | some fd => match Nat.ble 1 (P.cellsOf fd.type) with
        | true => k (.pointer (some (a.add fd.offset)))
        | false => HM.fail
      | none => HM.fail
    | _ => HM.fail
  | _ => HM.fail
def denField (P : Program) (t : TypeId) (x : Value) (f : Nat) (k : Value → HM ρ) : HM ρ :=
  match x with
  | .agg cs => match P.underlying t with
    | some (.struct fields) => match fields.toList[f]? with
      | some fd => match partAs P fd.type cs.toList fd.offset with
        | some v => k v
        | none => HM.fail
      | none => HM.fail
    | _ => HM.fail
  | _ => HM.fail
def denIndexAddr (P : Program) (t : TypeId) (x i : Value) (k : Value → HM ρ) : HM ρ :=
  match i with
  | .int _ n => match P.underlying t with
    | some (.slice elem) => match x with
      | .slice a len _ => match P.info? elem with
        | some inf => (HM.idx a len n inf.size).bind fun ad => k (.pointer (some ad))
        | none => HM.fail
      | _ => HM.fail
    | some (.array len elem) => match x with
      | .pointer (some a) => match P.info? elem with
        | some inf => (HM.idx (some a) len n inf.size).bind fun ad => k (.pointer (some ad))
        | none => HM.fail
      | _ => HM.fail
    | _ => HM.fail
  | _ => HM.fail
def denIndex (P : Program) (t : TypeId) (x i : Value) (k : Value → HM ρ) : HM ρ :=
  match i with
  | .int _ n => match P.underlying t with
    | some .string => match x with
      | .string s => (HM.strIdx s n).bind fun b => k (.int .u8 b)
      | _ => HM.fail
    | _ => HM.fail
  | _ => HM.fail
def optInt (e : Env) : Option Operand → Option (Option Int)
  | none => some none
  | some x => match e.ev x with
    | some (.int _ n) => some (some n)
    | _ => none
def denSlice (P : Program) (t : TypeId) (x : Value) (lo hi mx : Option Int) (k : Value → HM ρ) : HM ρ :=
  match P.underlying t with
  | some .string => match x with
    | .string s => match mx with
      | none => (HM.substr s lo hi).bind fun r => k (.string r)
      | some _ => HM.fail
    | _ => HM.fail
  | some (.slice elem) => match x with
    | .slice a n c => match P.info? elem with
      | some inf => (HM.slice ⟨a, n, c⟩ lo hi mx inf.size).bind fun s => k (.slice s.a s.len s.cap)
      | none => HM.fail
    | _ => HM.fail
  | _ => HM.fail
def plainKey : TypeDesc → Bool
  | .int _ => true
  | .string => true
  | .bool => true
  | _ => false
def keySame (P : Program) (kt : TypeId) (kd : TypeDesc) : SameK :=
  match kd with
  | .struct _ => eqTy P 8 kt
  | d => Instr.sameNow d
def keyReq (P : Program) (kt : TypeId) (kd : TypeDesc) (key : Value) (m : HM ρ) : HM ρ :=
  match plainKey kd with
  | true => m
  | false => match kd with
    | .struct _ => HM.req (eqTy P 8 kt key key = some true) m
    | _ => HM.fail
def denLookup (P : Program) (t : TypeId) (x key : Value) (ok : Bool) (k : Value → HM ρ) : HM ρ :=
  match P.underlying t with
  | some (.map kt et) => match P.underlying kt with
    | some kd => keyReq P kt kd key (match x with
      | .map r => match P.info? et with
        | some i => match i.zero with
          | some z => match Kind.of z with
            | some ek => (HM.lookup (keySame P kt kd) z ek r key).bind fun p => match ok with
              | true => k (.tuple #[ek.val p.1, .bool p.2])
              | false => k (ek.val p.1)
            | none => HM.fail
          | none => HM.fail
        | none => HM.fail
      | _ => HM.fail)
    | none => HM.fail
  | _ => HM.fail
def denMapSet (P : Program) (t : TypeId) (x key v : Value) (k : Value → HM ρ) : HM ρ :=
  match P.underlying t with
  | some (.map kt _) => match P.underlying kt with
    | some kd => keyReq P kt kd key (match x with
      | .map r => (HM.mapSet (keySame P kt kd) r key v).bind fun _ => k undef
      | _ => HM.fail)
    | none => HM.fail
  | _ => HM.fail
def denMapEntry (P : Program) (t : TypeId) (x key : Value) (k : Value → HM ρ) : HM ρ :=
  match P.underlying t with
  | some (.map kt et) => match P.underlying kt with
    | some kd => keyReq P kt kd key (match x with
      | .map r => match P.info? et with
        | some i => match i.zero with
          | some z => match Kind.of z with
            | some ek => (HM.mapEntry (keySame P kt kd) z ek r key).bind fun p => k (.tuple #[ek.val p.1, .int .i64 p.2])
            | none => HM.fail
          | none => HM.fail
        | none => HM.fail
      | _ => HM.fail)
    | none => HM.fail
  | _ => HM.fail
def denEntryStore (x stamp v : Value) (k : Value → HM ρ) : HM ρ :=
  match x with
  | .map r => match stamp with
    | .int _ n => (HM.entryStore r n v).bind fun _ => k undef
    | _ => HM.fail
  | _ => HM.fail
def denAppend (P : Program) (ts : List TypeId) (vs : List Value) (k : Value → HM ρ) : HM ρ :=
  match ts, vs with
  | [t, u], [s, x] => match P.underlying t with
    | some (.slice elem) => match s with
      | .slice a n c => match P.info? elem with
        | some i => match i.zero with
          | some z => match P.underlying u with
            | some (.slice _) => match x with
              | .slice b m d => (HM.append elem i.size i.bytes z.cells ⟨a, n, c⟩ m (srcSlc i.size ⟨b, m, d⟩)).bind fun s => k (.slice s.a s.len s.cap)
              | _ => HM.fail
            | some .string => match x with
              | .string b => (HM.append elem i.size i.bytes z.cells ⟨a, n, c⟩ b.size (srcStr b)).bind fun s => k (.slice s.a s.len s.cap)
              | _ => HM.fail
            | _ => HM.fail
          | none => HM.fail
        | none => HM.fail
      | _ => HM.fail
    | _ => HM.fail
  | _, _ => HM.fail
def denLen (P : Program) (ts : List TypeId) (vs : List Value) (k : Value → HM ρ) : HM ρ :=
  match ts, vs with
  | [t], [x] => match P.underlying t with
    | some .string => match x with
      | .string s => k (.int .i64 (s.size : Int))
      | _ => HM.fail
    | some (.slice _) => match x with
      | .slice _ n _ => k (.int .i64 (n : Int))
      | _ => HM.fail
    | some (.array n _) => k (.int .i64 (n : Int))
    | some (.map _ _) => match x with
      | .map r => (HM.mapLen r).bind fun n => k (.int .i64 n)
      | _ => HM.fail
    | _ => HM.fail
  | _, _ => HM.fail
def denMinMax (max : Bool) (vs : List Value) (k : Value → HM ρ) : HM ρ :=
  match vs with
  | [.int ka a, .int kb b] => match ikEq ka kb with
    | true => match max with
      | true => k (.int ka (if a < b then b else a))
      | false => k (.int ka (if b < a then b else a))
    | false => HM.fail
  | [.int ka a, .int kb b, .int kc c] => match ikEq ka kb && ikEq ka kc with
    | true => match max with
      | true => k (.int ka (if (if a < b then b else a) < c then c else (if a < b then b else a)))
      | false => k (.int ka (if c < (if b < a then b else a) then c else (if b < a then b else a)))
    | false => HM.fail
  | _ => HM.fail
def denDelete (P : Program) (ts : List TypeId) (vs : List Value) (k : Value → HM ρ) : HM ρ :=
  match ts, vs with
  | t :: _, [x, key] => match P.underlying t with
    | some (.map kt _) => match P.underlying kt with
      | some kd => keyReq P kt kd key (match x with
        | .map r => (HM.mapDel (keySame P kt kd) r key).bind fun _ => k (.tuple #[])
        | _ => HM.fail)
      | none => HM.fail
    | _ => HM.fail
  | _, _ => HM.fail
def denClear (P : Program) (ts : List TypeId) (vs : List Value) (k : Value → HM ρ) : HM ρ :=
  match ts, vs with
  | [t], [x] => match P.underlying t with
    | some (.slice elem) => match x with
      | .slice a n c => match P.info? elem with
        | some i => match i.zero with
          | some z => (HM.clearS z.cells ⟨a, n, c⟩).bind fun _ => k (.tuple #[])
          | none => HM.fail
        | none => HM.fail
      | _ => HM.fail
    | some (.map _ _) => match x with
      | .map r => (HM.clearM r).bind fun _ => k (.tuple #[])
      | _ => HM.fail
    | _ => HM.fail
  | _, _ => HM.fail
def denBuiltin (P : Program) (b : Builtin) (ts : List TypeId) (vs : List Value) (k : Value → HM ρ) : HM ρ :=
  match b with
  | .len => denLen P ts vs k
  | .append => denAppend P ts vs k
  | .min => denMinMax false vs k
  | .max => denMinMax true vs k
  | .delete => denDelete P ts vs k
  | .clear => denClear P ts vs k
  | _ => HM.fail
inductive Ret where
  | one (k : Kind)
  | many (ks : List Kind)
def kindsOf (P : Program) : List TypeId → Option (List Kind)
  | [] => some []
  | t :: ts => match kindOf P t with
    | some k => match kindsOf P ts with
      | some ks => some (k :: ks)
      | none => none
    | none => none
def retOf (P : Program) (t : TypeId) : Option Ret :=
  match P.underlying t with
  | some (.tuple es) => match kindsOf P es.toList with
    | some ks => some (.many ks)
    | none => none
  | some _ => match kindOf P t with
    | some k => some (.one k)
    | none => none
  | none => none
def denCall (P : Program) (C : List Nat) (t : TypeId) (f : Value) (vs : List Value) (k : Value → HM ρ) : HM ρ :=
  match f with
  | .func (.func f) first captured => match memN f C with
    | true => match retOf P t with
      | some (.one kd) => (HM.call1 P kd f (first.toList ++ (vs ++ captured.toList)).toArray).bind fun r => k (kd.val r)
      | some (.many ks) => (HM.callN P ks f (first.toList ++ (vs ++ captured.toList)).toArray).bind fun r => k (.tuple (KTup.vals ks r).toArray)
      | none => HM.fail
    | false => HM.fail
  | _ => HM.fail
def denCallV (P : Program) (t : TypeId) (f : Value) (vs : List Value) (k : Value → HM ρ) : HM ρ :=
  match retOf P t with
  | some (.one kd) => (HM.callV1 P kd f vs.toArray).bind fun r => k (kd.val r)
  | some (.many ks) => (HM.callVN P ks f vs.toArray).bind fun r => k (.tuple (KTup.vals ks r).toArray)
  | none => HM.fail
def denConvert (P : Program) (src dst : TypeId) (x : Value) (k : Value → HM ρ) : HM ρ :=
  match P.underlying src with
  | none => HM.fail
  | some _ => match P.underlying dst with
    | some (.int kd) => match x with
      | .int _ n => k (.int kd (kd.wrap n))
      | _ => HM.fail
    | some .string => match x with
      | .string s => k (.string s)
      | .slice a n c => match P.underlying src with
        | some (.slice e) => match P.underlying e with
          | some (.int .u8) => (HM.strOf ⟨a, n, c⟩).bind fun s => k (.string s)
          | _ => HM.fail
        | _ => HM.fail
      | _ => HM.fail
    | _ => HM.fail
def denRange (P : Program) (t : TypeId) (x : Value) (k : Value → HM ρ) : HM ρ :=
  match P.underlying t with
  | some .string => match x with
    | .string s => (HM.new (.stringIter s 0)).bind fun b => k (.pointer (some ⟨b, 0, none⟩))
    | _ => HM.fail
  | some (.map _ _) => match x with
    | .map r => (HM.rangeM r).bind fun b => k (.pointer (some ⟨b, 0, none⟩))
    | _ => HM.fail
  | _ => HM.fail
def denNext (str : Bool) (x : Value) (k : Value → HM ρ) : HM ρ :=
  match x with
  | .pointer (some a) => match Nat.beq a.off 0 with
    | false => HM.fail
    | true => match str with
      | true => (HM.nextS a.block).bind fun o => HM.opt o (k (.tuple #[.bool false])) fun p => k (.tuple #[.bool true, .int .i64 p.1, .int .i32 p.2])
      | false => (HM.nextM a.block).bind fun o => HM.opt o (k (.tuple #[.bool false])) fun p => k (.tuple #[.bool true, p.1, p.2])
  | _ => HM.fail
def denNilCheck (x : Value) (k : Value → HM ρ) : HM ρ :=
  match x with
  | .pointer p => (HM.nonnil p).bind fun a => k (.pointer (some a))
  | .func (.func f) first captured => k (.func (.func f) first captured)
  | _ => HM.fail
def denMakeSlice (P : Program) (t : TypeId) (n c : Value) (k : Value → HM ρ) : HM ρ :=
  match P.underlying t with
  | some (.slice elem) => match P.info? elem with
    | some i => match i.zero with
      | some z => match Nat.beq z.cells.toList.length i.size with
        | true => match n, c with
          | .int _ a, .int _ b => (HM.makeSlice elem i.bytes z.cells a b).bind fun s => k (.slice s.a s.len s.cap)
          | _, _ => HM.fail
        | false => HM.fail
      | none => HM.fail
    | none => HM.fail
  | _ => HM.fail
abbrev Dec := List (Nat × Bool)
def Dec.get : Dec → Nat → Option Bool
  | [], _ => none
  | (t, b) :: d, n => match Nat.beq t n with
    | true => some b
    | false => Dec.get d n
def denPick (e : Env) (d : Dec) (c a b : Operand) (k : Value → HM ρ) : HM ρ :=
  match c with
  | .tmp t => match d.get t with
    | some true => match e.ev a with
      | some v => k v
      | none => HM.fail
    | some false => match e.ev b with
      | some v => k v
      | none => HM.fail
    | none => match e.ev c, e.ev a, e.ev b with
      | some (.bool x), some (.bool y), some (.bool z) => k (.bool (if x = true then y else z))
      | _, _, _ => HM.fail
  | _ => HM.fail
def denOp (P : Program) (C : List Nat) (e : Env) (d : Dec) (o : Oper) (k : Value → HM ρ) : HM ρ :=
  match o.op with
  | .move x => match e.ev x with
    | some v => k v
    | none => HM.fail
  | .assign x => match e.ev x with
    | some v => k v
    | none => HM.fail
  | .pick c a b => denPick e d c a b k
  | .alloc t => denAlloc P t k
  | .box t x => match e.ev x with
    | some v => denBox P t v k
    | none => HM.fail
  | .build t ps => match evParts e ps.toList with
    | some vs => denBuild P t vs k
    | none => HM.fail
  | .buildSlice t n ps => match evParts e ps.toList with
    | some vs => denBuildSlice P t n vs k
    | none => HM.fail
  | .load t x => match e.ev x with
    | some v => denLoad P t v k
    | none => HM.fail
  | .store t x y => match e.ev x with
    | some v => match e.ev y with
      | some u => denStore P t v u k
      | none => HM.fail
    | none => HM.fail
  | .nilCheck x => match e.ev x with
    | some v => denNilCheck v k
    | none => HM.fail
  | .binOp op t x y _ => match e.ev x with
    | some v => match e.ev y with
      | some u => denBin P op t y v u k
      | none => HM.fail
    | none => HM.fail
  | .unOp op _ x => match e.ev x with
    | some v => denUn op v k
    | none => HM.fail
  | .convert s t x => match e.ev x with
    | some v => denConvert P s t v k
    | none => HM.fail
  | .makeInterface t x => match e.ev x with
    | some v => match P.underlying t with
      | some (.interface _) => HM.fail
      | some _ => k (.iface t v)
      | none => HM.fail
    | none => HM.fail
  | .makeFunc fn first captured => match e.evs first.toList with
    | some vs => match e.evs captured.toList with
      | some us => k (.func fn vs.toArray us.toArray)
      | none => HM.fail
    | none => HM.fail
  | .makeMap _ none => (HM.new (.map #[] 0)).bind fun r => k (.map (some r))
  | .makeSlice t n c => match e.ev n with
    | some v => match e.ev c with
      | some u => denMakeSlice P t v u k
      | none => HM.fail
    | none => HM.fail
  | .slice t x lo hi mx => match e.ev x with
    | some v => match optInt e lo with
      | some l => match optInt e hi with
        | some hh => match optInt e mx with
          | some m => denSlice P t v l hh m k
          | none => HM.fail
        | none => HM.fail
      | none => HM.fail
    | none => HM.fail
  | .fieldAddr t x f => match e.ev x with
    | some v => denFieldAddr P t v f k
    | none => HM.fail
  | .field t x f => match e.ev x with
    | some v => denField P t v f k
    | none => HM.fail
  | .indexAddr t x i => match e.ev x with
    | some v => match e.ev i with
      | some u => denIndexAddr P t v u k
      | none => HM.fail
    | none => HM.fail
  | .index t x i => match e.ev x with
    | some v => match e.ev i with
      | some u => denIndex P t v u k
      | none => HM.fail
    | none => HM.fail
  | .lookup t x i ok => match e.ev x with
    | some v => match e.ev i with
      | some u => denLookup P t v u ok k
      | none => HM.fail
    | none => HM.fail
  | .mapUpdate t x i y => match e.ev x with
    | some v => match e.ev i with
      | some u => match e.ev y with
        | some z => denMapSet P t v u z k
        | none => HM.fail
      | none => HM.fail
    | none => HM.fail
  | .insert t x i y => match e.ev x with
    | some v => match e.ev i with
      | some u => match e.ev y with
        | some z => denMapSet P t v u z k
        | none => HM.fail
      | none => HM.fail
    | none => HM.fail
  | .mapEntry t x i => match e.ev x with
    | some v => match e.ev i with
      | some u => denMapEntry P t v u k
      | none => HM.fail
    | none => HM.fail
  | .entryStore _ x i y => match e.ev x with
    | some v => match e.ev i with
      | some u => match e.ev y with
        | some z => denEntryStore v u z k
        | none => HM.fail
      | none => HM.fail
    | none => HM.fail
  | .range t x => match e.ev x with
    | some v => denRange P t v k
    | none => HM.fail
  | .next x str => match e.ev x with
    | some v => denNext str v k
    | none => HM.fail
  | .extract x i => match e.ev x with
    | some (.tuple vs) => match vs.toList[i]? with
      | some v => k v
      | none => HM.fail
    | _ => HM.fail
  | .call c => match e.evs c.args.toList with
    | some vs => match c.callee with
      | .builtin b => denBuiltin P b c.argTypes.toList vs k
      | .value (.func f) => denCall P C o.type (.func (.func f) #[] #[]) vs k
      | .value x => match e.ev x with
        | some v => denCallV P o.type v vs k
        | none => HM.fail
      | .invoke _ _ => HM.fail
    | none => HM.fail
  | _ => HM.fail
inductive Cls where
  | stat | read | eff
def clsOf (P : Program) (op : Op) : Cls :=
  match op with
  | .move _ => .stat
  | .assign _ => .stat
  | .pick _ _ _ => .stat
  | .nilCheck _ => .stat
  | .binOp _ _ _ _ _ => .stat
  | .unOp _ _ _ => .stat
  | .convert _ t _ => match P.underlying t with
    | some (.int _) => .stat
    | _ => .eff
  | .makeInterface _ _ => .stat
  | .makeFunc _ _ _ => .stat
  | .build _ _ => .stat
  | .fieldAddr _ _ _ => .stat
  | .field _ _ _ => .stat
  | .indexAddr _ _ _ => .stat
  | .index _ _ _ => .stat
  | .slice _ _ _ _ _ => .stat
  | .extract _ _ => .stat
  | .load _ _ => .read
  | .lookup _ _ _ _ => .read
  | .call c => match c.callee with
    | .builtin .len => .read
    | _ => .eff
  | _ => .eff
def guardSlot (ops : Array Oper) (j : Nat) : Option Nat :=
  match ops.toList[j]? with
  | some o => o.dst
  | none => none
abbrev Done := List (Nat × Value)
def again (P : Program) (C : List Nat) (ops : Array Oper) (b : Nat) (e : Env) (d : Dec) : Done → HM ρ → HM ρ
  | [], m => m
  | (i, v) :: r, m => match b.testBit i with
    | true => again P C ops b e d r m
    | false => match ops.toList[i]? with
      | some o => denOp P C e d o fun v' => HM.req (v' = v) (again P C ops b e d r m)
      | none => HM.fail
def hits (dst : Option Nat) (s : Nat) : Bool :=
  match dst with
  | some t => Nat.beq t s
  | none => false
def partKind (P : Program) (dst : Option Nat) (i : Nat) : List Oper → Kind
  | [] => .one .any
  | o :: r => match o.op with
    | .extract (.tmp t) j => match hits dst t with
      | true => match Nat.beq j i with
        | true => match kindOf P o.type with
          | some k => k
          | none => .one .any
        | false => partKind P dst i r
      | false => partKind P dst i r
    | _ => partKind P dst i r
def denEntry (ka kb : Kind) (x : Value) (k : Value → HM ρ) : HM ρ :=
  match x with
  | .pointer (some a) => match Nat.beq a.off 0 with
    | false => HM.fail
    | true => (HM.entryM ka kb a.block).bind fun p => k (.tuple #[ka.val p.1, kb.val p.2])
  | _ => HM.fail
def denOpE (P : Program) (C : List Nat) (ops : Array Oper) (e : Env) (d : Dec) (o : Oper) (k : Value → HM ρ) : HM ρ :=
  match o.op with
  | .entry x => match e.ev x with
    | some v => denEntry (partKind P o.dst 0 ops.toList) (partKind P o.dst 1 ops.toList) v k
    | none => HM.fail
  | _ => denOp P C e d o k
def denOne (P : Program) (C : List Nat) (ops : Array Oper) (draw : Bool) (j : Nat) (o : Oper) (e : Env) (d : Dec) (dn : Done) (k : Env → Done → HM ρ) : HM ρ :=
  denOpE P C ops e d o fun v => match draw with
    | false => k (e.put o.dst v) dn
    | true => match clsOf P o.op with
      | .stat => k (e.put o.dst v) dn
      | .read => k (e.put o.dst v) ((j, v) :: dn)
      | .eff => again P C ops ((Region.before ops).getD j 0) (e.put o.dst v) d dn (k (e.put o.dst v) dn)
def chkDst (n : Nat) (d : Dec) (dst : Option Nat) : Bool :=
  match dst with
  | some s => Nat.blt s n && (d.get s).isNone
  | none => true
def litOf (d : Dec) : Operand → Option Bool
  | .const (.bool b) => some b
  | .tmp t => d.get t
  | _ => none
def litOp (d : Dec) (op : Op) : Option Bool :=
  match op with
  | .move x => litOf d x
  | .assign x => litOf d x
  | .pick (.tmp t) a b => match d.get t with
    | some true => litOf d a
    | some false => litOf d b
    | none => none
  | _ => none
def decAfter (d : Dec) (o : Oper) : Dec :=
  match o.dst with
  | none => d
  | some s => match litOp d o.op with
    | some b => (s, b) :: d
    | none => d
def denStep (P : Program) (C : List Nat) (n : Nat) (ops : Array Oper) (draw : Bool) (j : Nat) (e : Env) (d : Dec) (dn : Done) (k : Env → Dec → Done → HM ρ) : HM ρ :=
  match ops.toList[j]? with
    | none => HM.fail
    | some o => match chkDst n d o.dst with
      | false => HM.fail
      | true => match o.guard with
        | none => denOne P C ops draw j o e d dn fun e' dn' => k e' (decAfter d o) dn'
        | some (g, want) => match guardSlot ops g with
          | none => HM.fail
          | some s => match d.get s with
            | some b => match b, want with
              | true, true => denOne P C ops draw j o e d dn fun e' dn' => k e' (decAfter d o) dn'
              | false, false => denOne P C ops draw j o e d dn fun e' dn' => k e' (decAfter d o) dn'
              | true, false => k (e.put o.dst undef) d dn
              | false, true => k (e.put o.dst undef) d dn
            | none => match hits o.dst s with
              | true => HM.fail
              | false => match e.get s with
              | some (.bool b) => match want with
                | true => HM.ite b (denOne P C ops draw j o e ((s, true) :: d) dn fun e' dn' => k e' (decAfter ((s, true) :: d) o) dn')
                    (k (e.put o.dst undef) ((s, false) :: d) dn)
                | false => HM.ite b (k (e.put o.dst undef) ((s, true) :: d) dn)
                    (denOne P C ops draw j o e ((s, false) :: d) dn fun e' dn' => k e' (decAfter ((s, false) :: d) o) dn')
              | some (.tuple _) => k (e.put o.dst undef) d dn
              | _ => HM.fail
inductive OTree where
  | done
  | q (j : Nat) (t : OTree)
  | br (js : List Nat) (f : Nat → OTree)
def OTree.ofList : List Nat → OTree
  | [] => .done
  | j :: r => .q j (ofList r)
def allH : List (HM ρ) → HM ρ
  | [] => HM.fail
  | [m] => m
  | m :: x :: r => HM.both m (allH (x :: r))
def denT (P : Program) (C : List Nat) (n : Nat) (ops : Array Oper) (draw : Bool) : OTree → Env → Dec → Done → (Env → HM ρ) → HM ρ
  | .done, e, _, _, k => k e
  | .q j t, e, d, dn, k => denStep P C n ops draw j e d dn fun e' d' dn' => denT P C n ops draw t e' d' dn' k
  | .br js f, e, d, dn, k => allH (js.map fun j => denStep P C n ops draw j e d dn fun e' d' dn' => denT P C n ops draw (f j) e' d' dn' k)
def clsNum (P : Program) (op : Op) : Nat :=
  match clsOf P op with
  | .stat => 0
  | .read => 1
  | .eff => 2
def firstReady (m : Nat) (acts : Bool) : List (Nat × Nat × Nat) → Option Nat
  | [] => none
  | (i, b, c) :: r => match m.testBit i with
    | true => firstReady m acts r
    | false => match Nat.beq (b &&& m) b with
      | false => firstReady m acts r
      | true => match acts with
        | true => some i
        | false => match Nat.blt c 2 with
          | true => some i
          | false => firstReady m acts r
def readyAll (m : Nat) : List (Nat × Nat × Nat) → List Nat
  | [] => []
  | (i, b, _) :: r => match m.testBit i with
    | true => readyAll m r
    | false => match Nat.beq (b &&& m) b with
      | false => readyAll m r
      | true => i :: readyAll m r
def treeGo (l : List (Nat × Nat × Nat)) : Nat → Nat → OTree
  | 0, _ => .done
  | f + 1, m => match firstReady m false l with
    | some i => .q i (treeGo l f (m ||| 2 ^ i))
    | none => match readyAll m l with
      | [] => .done
      | j :: js => .br (j :: js) fun i => treeGo l f (m ||| 2 ^ i)
def treeOf (P : Program) (ops : Array Oper) (draw : Bool) : OTree :=
  match draw with
  | true =>
    let b := Region.before ops
    treeGo (ops.toList.zipIdx.map fun (o, i) => (i, b.getD i 0, clsNum P o.op)) ops.size 0
  | false => .ofList (List.range ops.size)
def spares (ops : Array Oper) (x y : Oper) : Bool :=
  match y.dst with
  | some d => !((x.looksAt ops).contains d)
  | none => true
def pairOK (P : Program) (ops : Array Oper) (b : Array Nat) (i : Nat) (x : Oper) (j : Nat) (y : Oper) : Bool :=
  match (b.getD j 0).testBit i with
  | true => match clsOf P x.op with
    | .read => spares ops x y
    | _ => true
  | false => match clsOf P x.op with
    | .eff => false
    | _ => x.apart ops y
def dropN (j : Nat) : List Nat → List Nat
  | [] => []
  | i :: r => match Nat.beq i j with
    | true => dropN j r
    | false => i :: dropN j r
def isEffAt (P : Program) (ops : Array Oper) (j : Nat) : Bool :=
  match ops.toList[j]? with
  | some o => match clsOf P o.op with
    | .eff => true
    | _ => false
  | none => false
def goodT (P : Program) (ops : Array Oper) (b : Array Nat) : OTree → List Nat → Bool
  | .done, R => R.isEmpty
  | .q j t, R => (match ops.toList[j]? with
    | none => false
    | some x => memN j R && !(isEffAt P ops j) && spares ops x x && (dropN j R).all fun i => match ops.toList[i]? with
      | some y => pairOK P ops b j x i y
      | none => false) && goodT P ops b t (dropN j R)
  | .br js f, R => !js.isEmpty && (js.all fun j => memN j R && isEffAt P ops j && goodT P ops b (f j) (dropN j R)) && R.all fun i => memN i js || R.any fun x => (b.getD i 0).testBit x
def backOK (ops : Array Oper) : Bool :=
  ops.toList.zipIdx.all fun (o, j) => o.after.toList.all (fun e => !(Region.binds .any e) || Nat.blt e.on j) && !(match o.op with | .select .. => true | _ => false)
def orderOK (P : Program) (ops : Array Oper) (t : OTree) : Bool :=
  backOK ops && goodT P ops (Region.before ops) t (List.range ops.size)
def outsOf (P : Program) (live : List Nat) : List Oper → List (Nat × Kind)
  | [] => []
  | o :: rest => match o.guard with
    | some _ => outsOf P live rest
    | none => match o.dst with
      | none => outsOf P live rest
      | some s => match memN s live with
        | false => outsOf P live rest
        | true => match kindOf P o.type with
          | some k => (s, k) :: outsOf P live rest
          | none => outsOf P live rest
def guarded : List Oper → Bool
  | [] => false
  | o :: rest => match o.guard with
    | some _ => true
    | none => guarded rest
def dstsOf : List Oper → List Nat
  | [] => []
  | o :: rest => match o.dst with
    | some s => s :: dstsOf rest
    | none => dstsOf rest
def Env.gets (e : Env) : List (Nat × Kind) → Option (List Value)
  | [] => some []
  | (s, _) :: r => match e.get s with
    | some v => match Env.gets e r with
      | some vs => some (v :: vs)
      | none => none
    | none => none
def Env.tup (e : Env) (ss : List (Nat × Kind)) : Option (KTup (ss.map (·.2))) :=
  match e.gets ss with
  | some vs => KTup.get (ss.map (·.2)) vs
  | none => none
def zipVals : List (Nat × Kind) → List Value → Env
  | (s, _) :: r, v :: vs => (s, v) :: zipVals r vs
  | _, _ => []
def Env.join (e : Env) (ds : List Nat) (ss : List (Nat × Kind)) (x : KTup (ss.map (·.2))) : Env :=
  zipVals ss (KTup.vals (ss.map (·.2)) x) ++ e.forget ds
def pureO {α : Type} : Option α → HM α
  | some a => HM.pure a
  | none => HM.fail
def denRegion (P : Program) (C : List Nat) (n : Nat) (live : List Nat) (ops : Array Oper) (draw : Bool) (e : Env) (k : Env → HM ρ) : HM ρ :=
  match (match draw with | true => orderOK P ops (treeOf P ops true) | false => true) with
  | false => HM.fail
  | true => match guarded ops.toList with
    | false => denT P C n ops draw (treeOf P ops draw) e [] [] k
    | true => (denT P C n ops draw (treeOf P ops draw) e [] [] fun e' => pureO (e'.tup (outsOf P live ops.toList))).bind fun x => k (e.join (Go.H.dstsOf ops.toList) (outsOf P live ops.toList) x)
def dsts : Code → List Nat
  | .region _ ops _ => dstsOf ops.toList
  | .seq a b => dsts a ++ dsts b
  | .cond _ a b => dsts a ++ dsts b
  | .block _ a => dsts a
  | .loop a => dsts a
  | .scope a => dsts a
  | .rangeFunc _ _ a b => dsts a ++ dsts b
  | _ => []
def canNorm : Code → Bool
  | .skip => true
  | .region _ _ _ => true
  | .seq a b => canNorm a && canNorm b
  | .cond _ a b => canNorm a || canNorm b
  | .block id a => canNorm a || canExit id a
  | .loop _ => false
  | _ => false
where
  canExit (id : Nat) : Code → Bool
    | .seq a b => canExit id a || canExit id b
    | .cond _ a b => canExit id a || canExit id b
    | .block _ a => canExit id a
    | .loop a => canExit id a
    | .exit i => Nat.beq i id
    | _ => false
def canOut : Code → List Nat → Bool
  | .seq a b, ids => canOut a ids || canOut b ids
  | .cond _ a b, ids => canOut a ids || canOut b ids
  | .block id a, ids => canOut a (id :: ids)
  | .loop a, ids => canOut a ids
  | .exit i, ids => !(memN i ids)
  | .ret, _ => true
  | _, _ => false
structure KK (ρ : Type) where
  norm : Env → HM ρ
  ret : List Value → Option ρ
  exits : List (Nat × (Env → Option ρ))
def exitGet {β : Type} : List (Nat × β) → Nat → Option β
  | [], _ => none
  | (t, b) :: d, n => match Nat.beq t n with
    | true => some b
    | false => exitGet d n
def dropExit {β : Type} (n : Nat) : List (Nat × β) → List (Nat × β)
  | [] => []
  | (t, b) :: d => match Nat.beq t n with
    | true => dropExit n d
    | false => (t, b) :: dropExit n d
def mapExits {ρ' : Type} (f : ρ → ρ') : List (Nat × (Env → Option ρ)) → List (Nat × (Env → Option ρ'))
  | [] => []
  | (t, g) :: d => (t, fun e => match g e with | some r => some (f r) | none => none) :: mapExits f d
def mapRet {ρ' : Type} (f : ρ → ρ') (g : List Value → Option ρ) (vs : List Value) : Option ρ' :=
  match g vs with
  | some r => some (f r)
  | none => none
def carried (live : List Nat) (e : Env) : List Nat → List (Nat × Kind)
  | [] => []
  | s :: r => match memN s r with
    | true => carried live e r
    | false => match memN s live with
      | false => carried live e r
      | true => match e.get s with
        | none => carried live e r
        | some v => match Kind.of v with
          | some k => (s, k) :: carried live e r
          | none => carried live e r
def denRet (P : Program) (e : Env) : List ResultVar → (List Value → HM ρ) → HM ρ
  | [], k => k []
  | .tmp t :: rs, k => match e.get t with
    | some v => denRet P e rs fun vs => k (v :: vs)
    | none => HM.fail
  | .cell t ty :: rs, k => match e.get t with
    | some x => denLoad P ty x fun v => denRet P e rs fun vs => k (v :: vs)
    | none => HM.fail
def joinK (outs : Bool) (ss : List (Nat × Kind)) (inner : (ρ' : Type) → KK ρ' → HM ρ') (exit : Option Nat) (e : Env) (ds : List Nat) (k : KK ρ) : HM ρ :=
  match outs with
  | true => (inner (KTup (ss.map (·.2)) ⊕ ρ)
      { norm := fun e' => pureO (match e'.tup ss with | some x => some (.inl x) | none => none)
        ret := mapRet .inr k.ret
        exits := match exit with
          | some id => (id, fun e' => match e'.tup ss with | some x => some (.inl x) | none => none) :: mapExits .inr k.exits
          | none => mapExits .inr k.exits }).bind (Sum.elim (fun x => k.norm (e.join ds ss x)) HM.pure)
  | false => (inner (KTup (ss.map (·.2)))
      { norm := fun e' => pureO (e'.tup ss)
        ret := fun _ => none
        exits := match exit with
          | some id => [(id, fun e' => e'.tup ss)]
          | none => [] }).bind fun x => k.norm (e.join ds ss x)
def den (P : Program) (C : List Nat) (n : Nat) (live lc : List Nat) (rs : List ResultVar) : Code → (ρ : Type) → Env → KK ρ → HM ρ
  | .skip, _, e, k => k.norm e
  | .region _ ops draw, _, e, k => denRegion P C n live ops draw e k.norm
  | .seq a b, ρ, e, k => den P C n live lc rs a ρ e { k with norm := fun e' => den P C n live lc rs b ρ e' k }
  | .cond c a b, ρ, e, k => match e.ev c with
    | some (.bool t) => match canNorm a && canNorm b with
      | true => joinK (canOut a [] || canOut b []) (carried lc e (dsts a ++ dsts b))
          (fun ρ' k' => HM.ite t (den P C n live lc rs a ρ' e k') (den P C n live lc rs b ρ' e k')) none e (dsts a ++ dsts b) k
      | false => HM.ite t (den P C n live lc rs a ρ e k) (den P C n live lc rs b ρ e k)
    | _ => HM.fail
  | .block id a, ρ, e, k => match canNorm.canExit id a with
    | true => joinK (canOut a [id]) (carried lc e (dsts a)) (fun ρ' k' => den P C n live lc rs a ρ' e k') (some id) e (dsts a) k
    | false => den P C n live lc rs a ρ e { k with exits := dropExit id k.exits }
  | .loop a, ρ, e, k => match e.tup (carried lc e (dsts a)) with
    | none => HM.fail
    | some x => HM.loop (fun y => den P C n live lc rs a (KTup ((carried lc e (dsts a)).map (·.2)) ⊕ ρ) (e.join (dsts a) (carried lc e (dsts a)) y)
        { norm := fun e' => pureO (match e'.tup (carried lc e (dsts a)) with | some z => some (.inl z) | none => none)
          ret := mapRet .inr k.ret
          exits := mapExits .inr k.exits }) x
  | .exit id, _, e, k => match exitGet k.exits id with
    | some g => pureO (g e)
    | none => HM.fail
  | .ret, _, e, k => denRet P e rs fun vs => pureO (k.ret vs)
  | _, _, _, _ => HM.fail
def bodyOf (f : Func) : Code := f.body.getD .skip
def denFn (P : Program) (C : List Nat) (n : Nat) (live lc : List Nat) (rs : List ResultVar) (ks : List Kind) (c : Code) (args : List Value) : HM (KTup ks) :=
  den P C n live lc rs c (KTup ks) (args.zipIdx.map fun (v, i) => (i, v))
    { norm := fun e => denRet P e rs fun vs => pureO (KTup.get ks vs)
      ret := KTup.get ks
      exits := [] }
end
end Go.H
namespace Go.H
set_option linter.unusedSimpArgs false
set_option linter.unusedVariables false
structure AgreeD (DF : List Deferred) (n : Nat) (e : Env) (a : Act) : Prop where
  size : a.tmps.size = n
  defers : a.defers = DF
  get : ∀ t v, e.get t = some v → a.tmps[t]? = some v
abbrev Agree (n : Nat) (e : Env) (a : Act) : Prop := AgreeD [] n e a
def DecOK (d : Dec) (a : Act) : Prop := ∀ t b, d.get t = some b → a.tmps[t]? = some (.bool b)
theorem AgreeD.ev {DF : List Deferred} {n : Nat} {e : Env} {a : Act} (h : AgreeD DF n e a) {x : Operand} {v : Value} (hx : e.ev x = some v) : a.eval x = v := by
  cases x with
  | tmp t =>
    have := h.get t v hx
    simp only [Act.eval, Array.getD_eq_getD_getElem?, this, Option.getD_some]
  | const c => simpa [Env.ev, Act.eval] using hx
  | global g => simpa [Env.ev, Act.eval] using hx
  | func f => simpa [Env.ev, Act.eval] using hx
theorem AgreeD.evs {DF : List Deferred} {n : Nat} {e : Env} {a : Act} (h : AgreeD DF n e a) : ∀ {xs : List Operand} {vs : List Value}, e.evs xs = some vs → xs.map a.eval = vs
  | [], vs, hx => by simp only [Env.evs, Option.some.injEq] at hx; subst hx; rfl
  | x :: xs, vs, hx => by
    simp only [Env.evs] at hx
    split at hx
    · rename_i v hv
      split at hx
      · rename_i us hus
        cases hx
        simp [h.ev hv, AgreeD.evs h hus]
      · cases hx
    · cases hx
theorem AgreeD.evs_arr {DF : List Deferred} {n : Nat} {e : Env} {a : Act} (h : AgreeD DF n e a) {xs : Array Operand} {vs : List Value} (hx : e.evs xs.toList = some vs) : xs.map a.eval = vs.toArray := by
  have := h.evs hx
  apply Array.toList_inj.1
  simp [this]
theorem AgreeD.parts {DF : List Deferred} {n : Nat} {e : Env} {a : Act} (h : AgreeD DF n e a) : ∀ {xs : List (Nat × Operand)} {vs : List (Nat × Value)}, evParts e xs = some vs → xs.map (fun (i, x) => (i, a.eval x)) = vs
  | [], vs, hx => by simp only [evParts, Option.some.injEq] at hx; subst hx; rfl
  | (i, x) :: xs, vs, hx => by
    simp only [evParts] at hx
    split at hx
    · rename_i v hv
      split at hx
      · rename_i us hus
        cases hx
        simp only [List.map_cons, h.ev hv]
        rw [AgreeD.parts h hus]
      · cases hx
    · cases hx
def Res (P : Program) (w0 : World) (Φ : Value → Heap → Prop) : Result Next → Prop
  | .ok (.value v) w' => Same w0 w' ∧ Φ v w'.heap
  | .ok .skip w' => Same w0 w' ∧ Φ undef w'.heap
  | .ok (.enter f args) w' => Same w0 w' ∧ HCalls P f args w'.heap Φ
  | _ => False
def Does (P : Program) (s : Sem Next) (h : Heap) (Φ : Value → Heap → Prop) : Prop := ∀ w, w.heap = h → Res P w Φ (s.run P w)
def Stat (P : Program) (s : Sem Next) (v : Value) : Prop := ∀ w, s.run P w = .ok (.value v) w
def ReadsAt (P : Program) (s : Sem Next) (h : Heap) (v : Value) : Prop := ∀ w, w.heap = h → s.run P w = .ok (.value v) w
def OpLex (P : Program) (c : Cls) (s : Sem Next) (h : Heap) (Φ : Value → Heap → Prop) : Prop :=
  match c with
  | .stat => ∃ v, Stat P s v ∧ Φ v h
  | .read => ∃ v, ReadsAt P s h v ∧ Φ v h
  | .eff => Does P s h Φ
theorem Does.of_read {P : Program} {s : Sem Next} {h : Heap} {Φ : Value → Heap → Prop} {v : Value} (hs : ReadsAt P s h v) (hp : Φ v h) : Does P s h Φ := by
  intro w hw
  rw [hs w hw]
  exact ⟨Same.refl w, hw ▸ hp⟩
theorem run_v (P : Program) (s : Sem Value) (w : World) : (do pure (Next.value (← s)) : Sem Next).run P w = (s.run P w).andThen fun x w' => .ok (.value x) w' := by
  simp
theorem Stat.of {P : Program} {s : Sem Value} {v : Value} (h : ∀ w, s.run P w = .ok v w) : Stat P (do pure (Next.value (← s)) : Sem Next) v := by
  intro w; rw [run_v, h w]; rfl
theorem ReadsAt.of {P : Program} {s : Sem Value} {h : Heap} {v : Value} (hs : ∀ w, w.heap = h → s.run P w = .ok v w) : ReadsAt P (do pure (Next.value (← s)) : Sem Next) h v := by
  intro w hw; rw [run_v, hs w hw]; rfl
theorem Does.of_v {P : Program} {s : Sem Value} {h : Heap} {Φ : Value → Heap → Prop} (hs : ∀ w, w.heap = h → ∃ v w', s.run P w = .ok v w' ∧ Same w w' ∧ Φ v w'.heap) :
    Does P (do pure (Next.value (← s)) : Sem Next) h Φ := by
  intro w hw
  obtain ⟨v, w', hr, hm, hp⟩ := hs w hw
  rw [run_v, hr]; exact ⟨hm, hp⟩
theorem Does.of_u {P : Program} {s : Sem Unit} {h : Heap} {Φ : Value → Heap → Prop} (hs : ∀ w, w.heap = h → ∃ w', s.run P w = .ok () w' ∧ Same w w' ∧ Φ undef w'.heap) :
    Does P (do s; pure Next.skip : Sem Next) h Φ := by
  intro w hw
  obtain ⟨w', hr, hm, hp⟩ := hs w hw
  have : (do s; pure Next.skip : Sem Next).run P w = .ok .skip w' := by simp [hr]
  rw [this]; exact ⟨hm, hp⟩
theorem run_und {P : Program} {t : TypeId} {d : TypeDesc} (h : P.underlying t = some d) (w : World) : (underlying t).run P w = .ok d w := run_underlying h w
theorem run_info {P : Program} {t : TypeId} {i : TypeInfo} (h : P.info? t = some i) (w : World) : (typeInfo t).run P w = .ok i w := by
  simp [typeInfo, h]
theorem run_size {P : Program} {t : TypeId} {i : TypeInfo} (h : P.info? t = some i) (w : World) : (sizeOf t).run P w = .ok i.size w := by
  simp [sizeOf, run_info h]
theorem run_zero {P : Program} {t : TypeId} {i : TypeInfo} {z : Value} (h : P.info? t = some i) (hz : i.zero = some z) (w : World) : (zeroValue t).run P w = .ok z w := by
  simp [zeroValue, run_info h, hz]
theorem cellsOf_eq {P : Program} {t : TypeId} {i : TypeInfo} (h : P.info? t = some i) : P.cellsOf t = i.size := by
  simp [Program.cellsOf, h]
theorem kindOf_info {P : Program} {t : TypeId} {k : Kind} (h : kindOf P t = some k) : ∃ i z, P.info? t = some i ∧ i.zero = some z ∧ Kind.of z = some k := by
  unfold kindOf at h
  split at h
  · rename_i i hi
    split at h
    · rename_i z hz; exact ⟨i, z, hi, hz, h⟩
    · cases h
  · cases h
section
variable {ρ : Type} {P : Program} {k : Value → HM ρ} {h : Heap} {Q : ρ → Heap → Prop}
theorem denInt_sound {op : BinOp} {t : TypeId} {kx ky : IntKind} {a b : Int} (h1 : op ≠ .eql) (h2 : op ≠ .neq) (hd : denInt op kx ky a b k h Q) :
    ∃ v, (∀ w, (binOp op t (.int kx a) (.int ky b)).run P w = .ok v w) ∧ k v h Q := by
  unfold denInt at hd
  cases op <;> first | exact absurd rfl h1 | exact absurd rfl h2 | skip
  case shl =>
    obtain ⟨h0, hk⟩ := hd
    refine ⟨_, fun w => ?_, hk⟩
    simp [binOp, Op.shift, Int.not_lt.2 h0]
  case shr =>
    obtain ⟨h0, hk⟩ := hd
    refine ⟨_, fun w => ?_, hk⟩
    simp [binOp, Op.shift, Int.not_lt.2 h0]
  all_goals
    have hke : ikEq kx ky = true := by
      cases hke : ikEq kx ky with
      | false => simp only [hke] at hd; exact hd.elim
      | true => rfl
    simp only [hke] at hd
    obtain rfl := ikEq_eq hke
  case quo =>
    obtain ⟨h0, hk⟩ := hd
    exact ⟨_, fun w => by simp [binOp, Op.intDiv, h0], hk⟩
  case rem =>
    obtain ⟨h0, hk⟩ := hd
    exact ⟨_, fun w => by simp [binOp, Op.intDiv, h0], hk⟩
  all_goals exact ⟨_, fun w => by simp [binOp, Op.intArith, Op.intBits, Op.intCmp, bitOp], hd⟩
theorem denStr_sound {op : BinOp} {t : TypeId} {a b : ByteArray} (h1 : op ≠ .eql) (h2 : op ≠ .neq) (hd : denStr op a b k h Q) :
    ∃ v, (∀ w, (binOp op t (.string a) (.string b)).run P w = .ok v w) ∧ k v h Q := by
  unfold denStr at hd
  cases op <;> first | exact absurd rfl h1 | exact absurd rfl h2 | skip
  case add =>
    obtain ⟨h0, hk⟩ := hd
    refine ⟨_, fun w => ?_, hk⟩
    have : ¬ (((a.size + b.size : Nat) : Int) > 9223372036854775807) := by omega
    simp only [binOp, Op.stringOp, IntKind.max_i64, if_neg this, Sem.run_pure]
  all_goals first
    | exact hd.elim
    | exact ⟨_, fun w => by simp [binOp, Op.stringOp], hd⟩
theorem denUn_sound {op : UnOp} {x : Value} (hd : denUn op x k h Q) :
    ∃ v, (∀ w, (Op.unary op x).run P w = .ok v w) ∧ k v h Q := by
  unfold denUn at hd
  split at hd
  · exact ⟨_, fun w => by simp [Op.unary], hd⟩
  · exact ⟨_, fun w => by simp [Op.unary, Op.intArith], hd⟩
  · exact ⟨_, fun w => by simp [Op.unary, Op.intBits, bitOp], hd⟩
  · exact hd.elim
theorem str_eq (a b : ByteArray) : (a.toList == b.toList) = decide (a = b) := by
  have hinj : a.toList = b.toList ↔ a = b := by
    constructor
    · intro hh
      rw [ByteArray.toList_eq, ByteArray.toList_eq] at hh
      cases a; cases b
      simp_all
    · intro hh; rw [hh]
  by_cases hab : a = b
  · simp [hab]
  · have : ¬ a.toList = b.toList := fun hh => hab (hinj.1 hh)
    simp [hab, this]
theorem binOp_eq_gen {t : TypeId} {x y : Value} {r : Bool} (neg : Bool) (h1 : ∀ k n, x ≠ .int k n) (h2 : ∀ k n, x ≠ .float k n) (h3 : ∀ k n m, x ≠ .complex k n m) (h4 : ∀ s, x ≠ .string s)
    (hr : ∀ w, (Op.equal t x y).run P w = .ok r w) (w : World) : (binOp (if neg = true then .neq else .eql) t x y).run P w = .ok (.bool (eqRes neg r)) w := by
  cases neg <;> cases x <;> cases y <;> simp_all [binOp, eqRes]
theorem equalIn_ptr_nil (d : Nat) {t e : TypeId} (ht : P.underlying t = some (.pointer e)) (p : Option Addr) (w : World) : (Op.equalIn (d + 1) t (.pointer p) (.pointer none)).run P w = .ok p.isNone w := by
  cases p <;> simp only [Op.equalIn, Sem.run_bind, run_und ht, Result.andThen_ok] <;> rfl
theorem equalIn_slc_nil (d : Nat) {t e : TypeId} (ht : P.underlying t = some (.slice e)) (p : Option Addr) (a b c f : Nat) (w : World) : (Op.equalIn (d + 1) t (.slice p a b) (.slice none c f)).run P w = .ok p.isNone w := by
  cases p <;> simp only [Op.equalIn, Sem.run_bind, run_und ht, Result.andThen_ok] <;> rfl
theorem equalIn_map_nil (d : Nat) {t e f : TypeId} (ht : P.underlying t = some (.map e f)) (p : Option Nat) (w : World) : (Op.equalIn (d + 1) t (.map p) (.map none)).run P w = .ok p.isNone w := by
  cases p <;> simp only [Op.equalIn, Sem.run_bind, run_und ht, Result.andThen_ok] <;> rfl
theorem equalIn_iface_nil (d : Nat) {t : TypeId} {ms : Array (String × TypeId)} (ht : P.underlying t = some (.interface ms)) (x : Value) (hx : isIface x = true) (w : World) : (Op.equalIn (d + 1) t x .nilIface).run P w = .ok (isNilI x) w := by
  cases x <;> simp [isIface] at hx <;> simp only [Op.equalIn, Sem.run_bind, run_und ht, Result.andThen_ok, isNilI] <;> rfl
theorem equalIn_func_nil (d : Nat) {t : TypeId} {a b : Array TypeId} {c : Bool} (ht : P.underlying t = some (.func a b c)) (x : Value) (hx : isFunc x = true) (w : World) : (Op.equalIn (d + 1) t x .nilFunc).run P w = .ok (isNilF x) w := by
  cases x <;> simp [isFunc] at hx <;> simp only [Op.equalIn, Sem.run_bind, run_und ht, Result.andThen_ok, isNilF] <;> rfl
theorem equalIn_bool (d : Nat) {t : TypeId} (ht : P.underlying t = some .bool) (a b : Bool) (w : World) : (Op.equalIn (d + 1) t (.bool a) (.bool b)).run P w = .ok (a == b) w := by
  simp only [Op.equalIn, Sem.run_bind, run_und ht, Result.andThen_ok]; rfl
theorem equal_ptr_nil {t e : TypeId} (ht : P.underlying t = some (.pointer e)) (p : Option Addr) (w : World) : (Op.equal t (.pointer p) (.pointer none)).run P w = .ok p.isNone w := equalIn_ptr_nil 9999 ht p w
theorem equal_slc_nil {t e : TypeId} (ht : P.underlying t = some (.slice e)) (p : Option Addr) (a b c d : Nat) (w : World) : (Op.equal t (.slice p a b) (.slice none c d)).run P w = .ok p.isNone w := equalIn_slc_nil 9999 ht p a b c d w
theorem equal_map_nil {t e f : TypeId} (ht : P.underlying t = some (.map e f)) (p : Option Nat) (w : World) : (Op.equal t (.map p) (.map none)).run P w = .ok p.isNone w := equalIn_map_nil 9999 ht p w
theorem equal_iface_nil {t : TypeId} {ms : Array (String × TypeId)} (ht : P.underlying t = some (.interface ms)) (x : Value) (hx : isIface x = true) (w : World) : (Op.equal t x .nilIface).run P w = .ok (isNilI x) w := equalIn_iface_nil 9999 ht x hx w
theorem equal_func_nil {t : TypeId} {a b : Array TypeId} {c : Bool} (ht : P.underlying t = some (.func a b c)) (x : Value) (hx : isFunc x = true) (w : World) : (Op.equal t x .nilFunc).run P w = .ok (isNilF x) w := equalIn_func_nil 9999 ht x hx w
theorem equal_bool {t : TypeId} (ht : P.underlying t = some .bool) (a b : Bool) (w : World) : (Op.equal t (.bool a) (.bool b)).run P w = .ok (a == b) w := equalIn_bool 9999 ht a b w
theorem isAgg_run {t : TypeId} {d : TypeDesc} (h : P.underlying t = some d) (w : World) : (isAgg t).run P w = .ok (isAggD d) w := by
  simp only [isAgg, Sem.run_bind, run_und h, Result.andThen_ok]
  cases d <;> rfl
theorem info_of_und {t : TypeId} {d : TypeDesc} (h : P.underlying t = some d) : ∃ i, P.info? t = some i := by
  unfold Program.underlying at h
  split at h
  · exact ⟨_, by assumption⟩
  · exact ⟨_, by assumption⟩
  · cases h
theorem partAs_sound {t : TypeId} {cs : List Value} {off : Nat} {v : Value} (hp : partAs P t cs off = some v) (w : World) : (part t cs.toArray off).run P w = .ok v w := by
  unfold partAs at hp
  cases hu : P.underlying t with
  | none => simp only [hu] at hp; cases hp
  | some d =>
    obtain ⟨i, hi⟩ := info_of_und hu
    cases hagg : isAggD d with
    | true =>
      have hp' : some (Value.agg ((cs.drop off).take (P.cellsOf t)).toArray) = some v := by simpa only [hu, hagg] using hp
      cases hp'
      simp only [part, Sem.run_bind, isAgg_run hu, Result.andThen_ok, hagg, if_true, run_size hi, Sem.run_pure]
      congr 2
      rw [cellsOf_eq hi]
      apply Array.toList_inj.1
      simp [List.drop_take, Nat.add_sub_cancel_left]
    | false =>
      have hp' : cs[off]? = some v := by simpa only [hu, hagg] using hp
      simp only [part, Sem.run_bind, isAgg_run hu, Result.andThen_ok, hagg, Bool.false_eq_true, if_false]
      have : cs.toArray[off]? = some v := by simpa using hp'
      rw [this]; rfl
theorem eqFs_sound {rec : TypeId → Value → Value → Option Bool} {n : Nat}
    (hrec : ∀ t x y r, rec t x y = some r → ∀ w, (Op.equalIn n t x y).run P w = .ok r w) {xs ys : Array Value} :
    ∀ (fs : List Field) (r : Bool), eqFs P rec xs.toList ys.toList fs = some r → ∀ w, (Op.eqFields n xs ys fs).run P w = .ok r w
  | [], r, hr, w => by
    simp only [eqFs, Option.some.injEq] at hr
    subst hr
    rfl
  | f :: fs, r, hr, w => by
    simp only [eqFs] at hr
    cases hn : decide (f.name = "_") with
    | true => simp only [hn] at hr; cases hr
    | false =>
    simp only [hn] at hr
    cases ha : partAs P f.type xs.toList f.offset with
    | none => simp only [ha] at hr; cases hr
    | some a =>
    simp only [ha] at hr
    cases hb : partAs P f.type ys.toList f.offset with
    | none => simp only [hb] at hr; cases hr
    | some b =>
    simp only [hb] at hr
    cases h1 : rec f.type a b with
    | none => simp only [h1] at hr; cases hr
    | some r1 =>
    simp only [h1] at hr
    cases h2 : eqFs P rec xs.toList ys.toList fs with
    | none => simp only [h2] at hr; cases hr
    | some r2 =>
    simp only [h2, Option.some.injEq] at hr
    subst hr
    have hn' : f.name ≠ "_" := by simpa using hn
    have pa := partAs_sound ha w
    have pb := partAs_sound hb w
    simp only [Array.toArray_toList] at pa pb
    have ih := eqFs_sound hrec fs r2 h2 w
    simp only [Op.eqFields, hn', ne_eq, not_false_eq_true, if_true, Sem.run_bind, pa, pb, Result.andThen_ok, hrec _ _ _ _ h1 w]
    cases r1
    · simp
    · simpa using ih
theorem guardFs_sound {rec : TypeId → Value → Value → Option Bool} {n : Nat} {t : TypeId} {fields : Array Field} (ht : P.underlying t = some (.struct fields))
    (hrec : ∀ t x y r, rec t x y = some r → ∀ w, (Op.eqGuardIn n t x y).run P w = .ok false w) {xs ys : Array Value} {r : Bool} (hr : eqFs P rec xs.toList ys.toList fields.toList = some r) (w : World) :
    (Op.eqGuardIn (n + 1) t (.agg xs) (.agg ys)).run P w = .ok false w := by
  simp only [Op.eqGuardIn, Sem.run_bind, run_und ht, Result.andThen_ok]
  rw [← Array.forIn_toList]
  generalize fields.toList = fs at hr
  clear ht
  induction fs generalizing r with
  | nil => simp
  | cons f fs ih =>
    simp only [eqFs] at hr
    cases hn : decide (f.name = "_") with
    | true => simp only [hn] at hr; cases hr
    | false =>
    simp only [hn] at hr
    cases ha : partAs P f.type xs.toList f.offset with
    | none => simp only [ha] at hr; cases hr
    | some a =>
    simp only [ha] at hr
    cases hb : partAs P f.type ys.toList f.offset with
    | none => simp only [hb] at hr; cases hr
    | some b =>
    simp only [hb] at hr
    cases h1 : rec f.type a b with
    | none => simp only [h1] at hr; cases hr
    | some r1 =>
    simp only [h1] at hr
    cases h2 : eqFs P rec xs.toList ys.toList fs with
    | none => simp only [h2] at hr; cases hr
    | some r2 =>
    have hn' : f.name ≠ "_" := by simpa using hn
    have pa := partAs_sound ha w
    have pb := partAs_sound hb w
    simp only [Array.toArray_toList] at pa pb
    simp only [List.forIn_cons, hn', ne_eq, not_false_eq_true, if_true, Sem.run_bind, pa, pb, Result.andThen_ok, hrec _ _ _ _ h1 w, Bool.false_eq_true, if_false, Sem.run_pure]
    exact ih h2
theorem keyFs_sound {rec : TypeId → Value → Value → Option Bool} {n : Nat} {t : TypeId} {fields : Array Field} {e : Bool} (ht : P.underlying t = some (.struct fields))
    (hrec : ∀ t x y r, rec t x y = some r → ∀ w, (Instr.checkKey e n t x).run P w = .ok () w) {xs ys : Array Value} {r : Bool} (hr : eqFs P rec xs.toList ys.toList fields.toList = some r) (w : World) :
    (Instr.checkKey e (n + 1) t (.agg xs)).run P w = .ok () w := by
  simp only [Instr.checkKey, Sem.run_bind, run_und ht, Result.andThen_ok]
  rw [← Array.forIn_toList]
  generalize fields.toList = fs at hr
  clear ht
  induction fs generalizing r with
  | nil => simp
  | cons f fs ih =>
    simp only [eqFs] at hr
    cases hn : decide (f.name = "_") with
    | true => simp only [hn] at hr; cases hr
    | false =>
    simp only [hn] at hr
    cases ha : partAs P f.type xs.toList f.offset with
    | none => simp only [ha] at hr; cases hr
    | some a =>
    simp only [ha] at hr
    cases hb : partAs P f.type ys.toList f.offset with
    | none => simp only [hb] at hr; cases hr
    | some b =>
    simp only [hb] at hr
    cases h1 : rec f.type a b with
    | none => simp only [h1] at hr; cases hr
    | some r1 =>
    simp only [h1] at hr
    cases h2 : eqFs P rec xs.toList ys.toList fs with
    | none => simp only [h2] at hr; cases hr
    | some r2 =>
    have hn' : f.name ≠ "_" := by simpa using hn
    have pa := partAs_sound ha w
    simp only [Array.toArray_toList] at pa
    simp only [List.forIn_cons, hn', ne_eq, not_false_eq_true, if_true, Sem.run_bind, pa, Result.andThen_ok, hrec _ _ _ _ h1 w, Sem.run_pure]
    exact ih h2
theorem eqTy_sound : ∀ (d : Nat) {t : TypeId} {x y : Value} {r : Bool}, eqTy P d t x y = some r → ∀ (D : Nat) (w : World),
    (Op.equalIn (d + D) t x y).run P w = .ok r w ∧ (Op.eqGuardIn (d + D) t x y).run P w = .ok false w ∧ ∀ e, (Instr.checkKey e (d + D) t x).run P w = .ok () w
  | 0, _, _, _, _, hr, _, _ => by cases hr
  | d + 1, t, x, y, r, hr, D, w => by
    rw [show d + 1 + D = (d + D) + 1 from by omega]
    unfold eqTy at hr
    cases ht : P.underlying t with
    | none => simp only [ht] at hr; cases hr
    | some dd =>
    cases dd with
    | int kk =>
      simp only [ht] at hr
      cases x <;> try cases hr
      cases y <;> try cases hr
      rename_i k a k' b
      simp only at hr
      cases hke : ikEq k k' with
      | false => simp only [hke] at hr; cases hr
      | true =>
        simp only [hke, Option.some.injEq] at hr
        obtain rfl := ikEq_eq hke
        subst hr
        refine ⟨?_, ?_, fun e => ?_⟩
        · simp only [Op.equalIn, Sem.run_bind, run_und ht, Result.andThen_ok]; simp
        · simp only [Op.eqGuardIn, Sem.run_bind, run_und ht, Result.andThen_ok]; simp
        · simp only [Instr.checkKey, Sem.run_bind, run_und ht, Result.andThen_ok]; simp
    | bool =>
      simp only [ht] at hr
      cases x <;> try cases hr
      cases y <;> try cases hr
      refine ⟨?_, ?_, fun e => ?_⟩
      · simp only [Op.equalIn, Sem.run_bind, run_und ht, Result.andThen_ok]; simp
      · simp only [Op.eqGuardIn, Sem.run_bind, run_und ht, Result.andThen_ok]; simp
      · simp only [Instr.checkKey, Sem.run_bind, run_und ht, Result.andThen_ok]; simp
    | string =>
      simp only [ht] at hr
      cases x <;> try cases hr
      cases y <;> try cases hr
      rename_i a b
      refine ⟨?_, ?_, fun e => ?_⟩
      · simp only [Op.equalIn, Sem.run_bind, run_und ht, Result.andThen_ok]
        have e : (a == b) = decide (a = b) := (beq_toListBytes a b).trans (str_eq a b)
        simp [e]
      · simp only [Op.eqGuardIn, Sem.run_bind, run_und ht, Result.andThen_ok]; simp
      · simp only [Instr.checkKey, Sem.run_bind, run_und ht, Result.andThen_ok]; simp
    | struct fields =>
      simp only [ht] at hr
      cases hst : P.stoodInHeld t with
      | true => simp only [hst] at hr; cases hr
      | false =>
      simp only [hst] at hr
      cases x <;> try cases hr
      cases y <;> try cases hr
      rename_i xs ys
      simp only at hr
      have hf : P.fieldsOf t = fields := by simp [Program.fieldsOf, ht]
      refine ⟨?_, guardFs_sound ht (fun t x y r hr w => (eqTy_sound d hr D w).2.1) hr w, fun e => keyFs_sound ht (fun t x y r hr w => (eqTy_sound d hr D w).2.2 e) hr w⟩
      rw [run_equalIn_struct w (d + D) t xs ys (by rw [hf]; exact ht) hst, hf]
      exact eqFs_sound (fun t x y r hr w => (eqTy_sound d hr D w).1) _ r hr w
    | _ => simp only [ht] at hr; cases hr
def eqOp (neg : Bool) : BinOp := if neg = true then .neq else .eql
theorem denEq_sound {neg : Bool} {t : TypeId} {xo yo : Operand} {x y : Value} (hy : ∀ c, yo = .const c → y = c) (hd : denEq P neg t yo x y k h Q) :
    ∃ v, (∀ w, (do eqGuard (eqOp neg) t xo yo x y; binOp (eqOp neg) t x y : Sem Value).run P w = .ok v w) ∧ k v h Q := by
  cases ht : P.underlying t with
  | none => simp only [denEq, ht] at hd; exact hd.elim
  | some d =>
  cases d with
  | pointer e =>
    simp only [denEq, ht] at hd
    split at hd
    · split at hd
      · rename_i p
        obtain rfl := hy _ rfl
        refine ⟨_, fun w => ?_, hd⟩
        have hb := binOp_eq_gen (P := P) (y := .pointer none) neg (by simp) (by simp) (by simp) (by simp) (equal_ptr_nil ht p) w
        cases neg <;> simpa [eqOp, go_sem] using hb
      · exact hd.elim
    · exact hd.elim
  | slice e =>
    simp only [denEq, ht] at hd
    split at hd
    · split at hd
      · rename_i m n _ p a b
        obtain rfl := hy _ rfl
        refine ⟨_, fun w => ?_, hd⟩
        have hb := binOp_eq_gen (P := P) (y := .slice none m n) neg (by simp) (by simp) (by simp) (by simp) (equal_slc_nil ht p a b m n) w
        cases neg <;> simpa [eqOp, go_sem] using hb
      · exact hd.elim
    · exact hd.elim
  | map e f =>
    simp only [denEq, ht] at hd
    split at hd
    · split at hd
      · rename_i p
        obtain rfl := hy _ rfl
        refine ⟨_, fun w => ?_, hd⟩
        have hb := binOp_eq_gen (P := P) (y := .map none) neg (by simp) (by simp) (by simp) (by simp) (equal_map_nil ht p) w
        cases neg <;> simpa [eqOp, go_sem] using hb
      · exact hd.elim
    · exact hd.elim
  | interface ms =>
    simp only [denEq, ht] at hd
    split at hd
    · obtain ⟨hx, hk⟩ := hd
      obtain rfl := hy _ rfl
      refine ⟨_, fun w => ?_, hk⟩
      have hb := binOp_eq_gen (P := P) (y := .nilIface) neg (by intros; rintro rfl; simp [isIface] at hx) (by intros; rintro rfl; simp [isIface] at hx) (by intros; rintro rfl; simp [isIface] at hx) (by intros; rintro rfl; simp [isIface] at hx) (equal_iface_nil ht x hx) w
      have hg : eqGuard (eqOp neg) t xo (.const .nilIface) x .nilIface = pure () := by cases x <;> simp [isIface] at hx <;> simp [go_sem]
      rw [hg]
      cases neg <;> simpa [eqOp] using hb
    · exact hd.elim
  | func a b c =>
    simp only [denEq, ht] at hd
    split at hd
    · obtain ⟨hx, hk⟩ := hd
      obtain rfl := hy _ rfl
      refine ⟨_, fun w => ?_, hk⟩
      have hb := binOp_eq_gen (P := P) (y := .nilFunc) neg (by intros; rintro rfl; simp [isFunc] at hx) (by intros; rintro rfl; simp [isFunc] at hx) (by intros; rintro rfl; simp [isFunc] at hx) (by intros; rintro rfl; simp [isFunc] at hx) (equal_func_nil ht x hx) w
      have hg : eqGuard (eqOp neg) t xo (.const .nilFunc) x .nilFunc = pure () := by cases x <;> simp [isFunc] at hx <;> simp [go_sem]
      rw [hg]
      cases neg <;> simpa [eqOp] using hb
    · exact hd.elim
  | int ki =>
    simp only [denEq, ht] at hd
    cases x <;> try exact hd.elim
    cases y <;> try exact hd.elim
    rename_i kx a ky b
    simp only at hd
    cases hke : ikEq kx ky with
    | false => simp only [hke] at hd; exact hd.elim
    | true =>
      simp only [hke] at hd
      obtain rfl := ikEq_eq hke
      refine ⟨_, fun w => ?_, hd⟩
      cases neg <;> simp [eqOp, go_sem, eqRes, bne]
  | bool =>
    simp only [denEq, ht] at hd
    cases x <;> try exact hd.elim
    cases y <;> try exact hd.elim
    rename_i a b
    refine ⟨_, fun w => ?_, hd⟩
    have hb := binOp_eq_gen (P := P) (y := .bool b) neg (by simp) (by simp) (by simp) (by simp) (equal_bool ht a b) w
    cases neg <;> simpa [eqOp, go_sem] using hb
  | string =>
    simp only [denEq, ht] at hd
    cases x <;> try exact hd.elim
    cases y <;> try exact hd.elim
    rename_i a b
    refine ⟨_, fun w => ?_, hd⟩
    rw [← str_eq]
    cases neg <;> simp [eqOp, go_sem, eqRes, binOp, Op.stringOp]
  | struct fields =>
    simp only [denEq, ht] at hd
    cases x <;> try exact hd.elim
    rename_i xs
    simp only at hd
    cases hr : eqTy P 8 t (.agg xs) y with
    | none => simp only [hr] at hd; exact hd.elim
    | some r =>
      simp only [hr] at hd
      refine ⟨_, fun w => ?_, hd⟩
      have h1 := (eqTy_sound 8 hr 9992 w).1
      have h2 := (eqTy_sound 8 hr 9992 w).2.1
      have hg : (eqGuard (eqOp neg) t xo yo (.agg xs) y).run P w = .ok () w := by
        have hy' : ∃ ys, y = .agg ys := by
          unfold eqTy at hr
          simp only [ht] at hr
          cases hst : P.stoodInHeld t with
          | true => simp only [hst] at hr; cases hr
          | false =>
            simp only [hst] at hr
            cases y <;> try cases hr
            exact ⟨_, rfl⟩
        obtain ⟨ys, rfl⟩ := hy'
        have h2' : (Op.eqGuardIn Op.maxDepth t (.agg xs) (.agg ys)).run P w = .ok false w := h2
        cases neg
        all_goals
          simp only [eqGuard, eqOp, Bool.false_eq_true, if_false, if_true, Bool.not_true, Sem.run_bind, run_program, Result.andThen_ok]
          simp only [Sem.run_ite]
          split
          · rfl
          · simp only [Sem.run_bind, h2', Result.andThen_ok, Bool.false_eq_true, if_false]
            rfl
      have h1' : (Op.equal t (.agg xs) y).run P w = .ok r w := h1
      have hb := binOp_eq_gen (P := P) (t := t) (x := .agg xs) (y := y) (r := r) neg (by simp) (by simp) (by simp) (by simp)
      rw [Sem.run_bind, hg, Result.andThen_ok]
      exact hb (fun w => (eqTy_sound 8 hr 9992 w).1) w
  | _ => simp only [denEq, ht] at hd; exact hd.elim
theorem denBin_sound {op : BinOp} {t : TypeId} {xo yo : Operand} {x y : Value} (hy : ∀ c, yo = .const c → y = c) (hd : denBin P op t yo x y k h Q) :
    ∃ v, (∀ w, (do eqGuard op t xo yo x y; binOp op t x y : Sem Value).run P w = .ok v w) ∧ k v h Q := by
  unfold denBin at hd
  split at hd
  · exact denEq_sound (neg := false) hy hd
  · exact denEq_sound (neg := true) hy hd
  · rename_i h1 h2
    have hg : ∀ a b, eqGuard op t xo yo a b = pure () := by intro a b; cases op <;> first | rfl | exact absurd rfl h1 | exact absurd rfl h2
    rw [hg]
    split at hd
    · obtain ⟨v, hv, hk⟩ := denInt_sound (t := t) h1 h2 hd
      exact ⟨v, fun w => by simpa using hv w, hk⟩
    · obtain ⟨v, hv, hk⟩ := denStr_sound (t := t) h1 h2 hd
      exact ⟨v, fun w => by simpa using hv w, hk⟩
    · exact hd.elim
theorem add_zero (a : Addr) : a.add 0 = a := by simp [Addr.add]
theorem run_load1 {w : World} {a : Addr} {v : Value} (hc : cellH w.heap a = some v) : (load a).run P w = .ok v w := by
  rw [run_load, cell_eq, hc]
theorem run_loadCellsFrom (a : Addr) (w : World) : ∀ (vs : List Value) (i : Nat) (acc : Array Value), (∀ (j : Nat) v, vs[j]? = some v → cellH w.heap (a.add (i + j)) = some v) →
    (loadCellsFrom a i vs.length acc).run P w = .ok (acc ++ vs.toArray) w
  | [], _, acc, _ => by simp [loadCellsFrom]
  | v :: vs, i, acc, hc => by
    have h0 := hc 0 v rfl
    simp only [List.length_cons, loadCellsFrom, Sem.run_bind]
    rw [run_load1 (by simpa using h0)]
    simp only [Result.andThen_ok]
    rw [run_loadCellsFrom a w vs (i + 1) (acc.push v) (fun j u hj => by have := hc (j + 1) u (by simpa using hj); rwa [show i + 1 + j = i + (j + 1) from by omega])]
    congr 1
    apply Array.toList_inj.1
    simp
theorem run_loadCells {a : Addr} {w : World} {vs : List Value} {n : Nat} (hn : n = vs.length) (hc : ∀ (j : Nat) v, vs[j]? = some v → cellH w.heap (a.add j) = some v) :
    (loadCells a n).run P w = .ok vs.toArray w := by
  subst hn
  have := run_loadCellsFrom (P := P) a w vs 0 #[] (by simpa using hc)
  simpa [loadCells] using this
theorem denConvert_sound {s t : TypeId} {x : Value} (hd : denConvert P s t x k h Q) :
    ∃ v, (∀ w, (w.heap = h ∨ ∃ kd, P.underlying t = some (.int kd)) → (convert s t x).run P w = .ok v w) ∧ k v h Q := by
  cases hs : P.underlying s with
  | none => simp only [denConvert, hs] at hd; exact hd.elim
  | some ds =>
  cases ht : P.underlying t with
  | none => simp only [denConvert, hs, ht] at hd; exact hd.elim
  | some dt =>
  cases dt with
  | int kd =>
    simp only [denConvert, hs, ht] at hd
    cases x <;> try exact hd.elim
    exact ⟨_, fun w _ => by simp [convert, run_und hs, run_und ht, Conv.intToInt], hd⟩
  | string =>
    simp only [denConvert, hs, ht] at hd
    cases x <;> try exact hd.elim
    · exact ⟨_, fun w _ => by simp [convert, run_und hs, run_und ht], hd⟩
    · rename_i a n c
      simp only at hd
      cases ds with
      | slice e =>
        simp only at hd
        cases he : P.underlying e with
        | none => simp only [he] at hd; exact hd.elim
        | some de =>
        simp only [he] at hd
        cases de with
        | int kd =>
          cases kd with
          | u8 =>
            obtain ⟨ns, hr, hq⟩ := hd
            refine ⟨_, fun w hw => ?_, hq⟩
            have hw : w.heap = h := by
              rcases hw with hw | ⟨kd, hk⟩
              · exact hw
              · cases hk
            subst hw
            rw [run_convert_bytes_string w s t e a n c hs he ht]
            cases a with
            | none =>
              have hns : ns = [] := by simpa [readsH] using hr
              subst hns
              rfl
            | some a =>
              obtain ⟨h1, h2⟩ := hr
              refine run_bytesToString w a n c ns ?_
              exact run_loadCells (by simpa using h1.symm) (fun j v hv => h2 j v (by simpa using hv))
          | _ => exact hd.elim
        | _ => exact hd.elim
      | _ => exact hd.elim
  | _ => simp only [denConvert, hs, ht] at hd; exact hd.elim
end
end Go.H
namespace Go.H
set_option linter.unusedSimpArgs false
set_option linter.unusedVariables false
theorem isSome_setCellH (h : Heap) (a b : Addr) (v : Value) : (cellH (setCellH h a v) b).isSome = (cellH h b).isSome := by
  unfold cellH setCellH
  simp only [Array.getElem?_modify]
  by_cases hb : a.block = b.block
  · simp only [hb, if_true]
    cases hh : h[b.block]? with
    | none => simp
    | some x =>
      cases x <;> simp
      cases hs : b.spot <;> simp
      cases hs' : a.spot <;> simp
      rename_i c _ _
      by_cases hlt : b.off < c.size
      · simp [hlt]
      · simp [hlt]
  · simp [hb]
theorem frozenH_setCellH (h : Heap) (a b : Addr) (v : Value) : frozenH (setCellH h a v) b = frozenH h b := by
  unfold frozenH setCellH
  simp only [Array.getElem?_modify]
  by_cases hb : a.block = b.block
  · simp only [hb, if_true]
    cases hh : h[b.block]? with
    | none => simp
    | some x => cases x <;> simp
  · simp [hb]
section
variable {P : Program}
theorem run_storeCells (a : Addr) : ∀ (vs : List Value) (i : Nat) (w : World), (∀ (j : Nat) v, vs[j]? = some v → (cellH w.heap (a.add (i + j))).isSome = true ∧ frozenH w.heap (a.add (i + j)) = false ∧ v.oneCell' = true) →
    ∃ w', (storeCells a vs i).run P w = .ok () w' ∧ Same w w' ∧ w'.heap = setCellsH w.heap a vs i
  | [], i, w, _ => ⟨w, by simp [storeCells], Same.refl w, rfl⟩
  | v :: vs, i, w, hc => by
    obtain ⟨h1, h2, h3⟩ := hc 0 v rfl
    simp only [Nat.add_zero] at h1 h2
    obtain ⟨w', hr, hs, hh⟩ := run_storeCells a vs (i + 1) (w.setCell (a.add i) v) (fun j u hj => by
      obtain ⟨k1, k2, k3⟩ := hc (j + 1) u (by simpa using hj)
      rw [show i + 1 + j = i + (j + 1) from by omega, setCell_heap, isSome_setCellH, frozenH_setCellH]
      exact ⟨k1, k2, k3⟩)
    refine ⟨w', ?_, ⟨hs.os, hs.tape, hs.output⟩, hh⟩
    simp only [storeCells, Sem.run_bind]
    rw [run_store P w _ v _ h3, cell_eq]
    obtain ⟨u, hu⟩ := Option.isSome_iff_exists.1 h1
    rw [hu, frozen_eq, h2]
    simpa using hr
theorem run_loadVar_agg {t : TypeId} {d : TypeDesc} {w : World} {a : Addr} {vs : List Value} (hd : P.underlying t = some d) (hagg : isAggD d = true)
    (hn : P.cellsOf t = vs.length) (hc : ∀ (j : Nat) v, vs[j]? = some v → cellH w.heap (a.add j) = some v) : (loadVar t a).run P w = .ok (.agg vs.toArray) w := by
  obtain ⟨i, hi⟩ := info_of_und hd
  simp only [loadVar, Sem.run_bind, isAgg_run hd, Result.andThen_ok, hagg, if_true, run_size hi]
  rw [run_loadCells (by rw [← hn, cellsOf_eq hi]) hc]
  rfl
theorem run_loadVar_one {t : TypeId} {d : TypeDesc} {w : World} {a : Addr} {v : Value} (hd : P.underlying t = some d) (hagg : isAggD d = false)
    (hc : cellH w.heap a = some v) : (loadVar t a).run P w = .ok v w := by
  simp only [loadVar, Sem.run_bind, isAgg_run hd, Result.andThen_ok, hagg]
  exact run_load1 hc
variable {ρ : Type} {k : Value → HM ρ} {h : Heap} {Q : ρ → Heap → Prop}
theorem tup_len (ts : List Tag) (x : Tup ts) : (Tup.vals ts x).length = ts.length := by
  induction ts with
  | nil => rfl
  | cons t ts ih => simp [HT.vals, ih]
theorem denLoad_sound {t : TypeId} {x : Value} (hd : denLoad P t x k h Q) : ∃ v, (∀ w, w.heap = h → (Instr.loadAt t x).run P w = .ok v w) ∧ k v h Q := by
  unfold denLoad at hd
  cases x <;> try exact hd.elim
  rename_i p
  cases p with
  | none => exact hd.elim
  | some a =>
  have hl : ∀ w, (Instr.loadAt t (.pointer (some a))).run P w = (loadVar t a).run P w := fun w => by simp [Instr.loadAt, Instr.sureAddr]
  simp only [hl]
  simp only at hd
  cases hu : P.underlying t with
  | none => simp only [hu] at hd; exact hd.elim
  | some d =>
    simp only [hu] at hd
    cases hagg : isAggD d with
    | true =>
      simp only [hagg] at hd
      cases hk : kindOf P t with
      | none => simp only [hk] at hd; exact hd.elim
      | some kd =>
        cases kd with
        | one tg => simp only [hk] at hd; exact hd.elim
        | agg ts =>
          simp only [hk] at hd
          cases hb : Nat.beq ts.length (P.cellsOf t) with
          | false => simp only [hb] at hd; exact hd.elim
          | true =>
            simp only [hb] at hd
            obtain ⟨x, hx, hq⟩ := hd
            refine ⟨_, fun w hw => ?_, hq⟩
            subst hw
            exact run_loadVar_agg hu hagg (by rw [tup_len]; exact (Nat.eq_of_beq_eq_true hb).symm) hx
    | false =>
      simp only [hagg] at hd
      cases hk : kindOf P t with
      | none => simp only [hk] at hd; exact hd.elim
      | some kd =>
        cases kd with
        | agg ts => simp only [hk] at hd; exact hd.elim
        | one tg =>
          simp only [hk] at hd
          obtain ⟨x, hx, hq⟩ := hd
          exact ⟨_, fun w hw => by subst hw; exact run_loadVar_one hu hagg hx, hq⟩
theorem cellsAs_cells {kd : Kind} {v : Value} {cs : List Value} (h1 : cellsAs kd v = some cs) (hone : ∀ t, kd = .one t → v.oneCell' = true) : v.cells = cs.toArray := by
  cases kd with
  | one t =>
    simp only [cellsAs, Option.some.injEq] at h1
    subst h1
    have := hone t rfl
    cases v <;> first | rfl | simp [Value.oneCell'] at this
  | agg ts =>
    simp only [cellsAs] at h1
    cases v <;> simp only at h1 <;> try cases h1
    split at h1
    · cases h1; simp [Value.cells]
    · cases h1
theorem reqOne_sound {kd : Kind} {v : Value} {α : Type} {m : HM α} {R : α → Heap → Prop} (hd : reqOne kd v m h R) : (∀ t, kd = .one t → v.oneCell' = true) ∧ m h R := by
  cases kd with
  | agg ts => exact ⟨fun t ht => (by cases ht), hd⟩
  | one tg =>
    simp only [reqOne] at hd
    cases ha : tg.isAny with
    | true => simp only [ha] at hd; exact ⟨fun _ _ => hd.1, hd.2⟩
    | false =>
      simp only [ha] at hd
      cases hx : tg.get v with
      | none => simp only [hx] at hd; exact hd.elim
      | some x =>
        simp only [hx] at hd
        refine ⟨fun t ht => ?_, hd⟩
        have := Tag.get_val hx
        subst this
        cases tg <;> first | rfl | cases ha
theorem denStore_sound {t : TypeId} {x v : Value} (hd : denStore P t x v k h Q) : ∀ w, w.heap = h → ∃ w', (Instr.storeAt t x v).run P w = .ok () w' ∧ Same w w' ∧ k undef w'.heap Q := by
  unfold denStore at hd
  cases x <;> try exact hd.elim
  rename_i p
  cases p with
  | none => exact hd.elim
  | some a =>
  simp only at hd
  cases hk : kindOf P t with
  | none => simp only [hk] at hd; exact hd.elim
  | some kd =>
    simp only [hk] at hd
    obtain ⟨i, z, hi, hz, -⟩ := kindOf_info hk
    cases hc : cellsAs kd v with
    | none => simp only [hc] at hd; exact hd.elim
    | some cs =>
      simp only [hc] at hd
      cases hb : Nat.beq cs.length (P.cellsOf t) with
      | false => simp only [hb] at hd; exact hd.elim
      | true =>
        simp only [hb] at hd
        have hlen := Nat.eq_of_beq_eq_true hb
        intro w hw
        subst hw
        have hst : ∀ (vs : List Value), v.cells = vs.toArray → (Instr.storeAt t (.pointer (some a)) v).run P w = (storeCells a vs 0).run P w ∨ vs.length ≠ i.size := by
          intro vs hvs
          by_cases hl : vs.length = i.size
          · left
            simp [Instr.storeAt, Instr.sureAddr, storeVar, run_size hi, hvs, hl]
          · exact .inr hl
        cases kd with
        | one tg =>
          simp only at hd
          obtain ⟨h1, h2, h3, hq⟩ := hd
          have hv := cellsAs_cells hc (fun _ _ => h3)
          simp only [cellsAs, Option.some.injEq] at hc
          subst hc
          obtain ⟨w', hr, hs, hh⟩ := run_storeCells (P := P) a [v] 0 w (fun j u hj => by
            cases j with
            | zero => simp at hj; subst hj; rw [Nat.zero_add, add_zero]; exact ⟨h1, h2, h3⟩
            | succ j => simp at hj)
          refine ⟨w', ?_, hs, ?_⟩
          · rcases hst [v] hv with he | he
            · rw [he]; exact hr
            · rw [cellsOf_eq hi] at hlen; exact absurd hlen he
          · rw [hh]
            simpa [setCellsH, add_zero] using hq
        | agg ts =>
          simp only at hd
          obtain ⟨h1, hq⟩ := hd
          have hv := cellsAs_cells hc (fun _ ht => by cases ht)
          obtain ⟨w', hr, hs, hh⟩ := run_storeCells (P := P) a cs 0 w (fun j u hj => by rw [Nat.zero_add]; exact h1 j u hj)
          refine ⟨w', ?_, hs, by rw [hh]; exact hq⟩
          rcases hst cs hv with he | he
          · rw [he]; exact hr
          · rw [cellsOf_eq hi] at hlen; exact absurd hlen he
theorem run_newVar {t : TypeId} {v : Value} {cs : List Value} (hv : v.cells = cs.toArray) (w : World) :
    (newVar t v).run P w = .ok ⟨w.heap.size, 0, none⟩ { w with heap := w.heap.push (.cells cs.toArray t) } := by
  simp [newVar, newRow, hv]
theorem denBox_sound {t : TypeId} {v : Value} (hd : denBox P t v k h Q) : ∀ w, w.heap = h → ∃ u w', (Instr.box t v).run P w = .ok u w' ∧ Same w w' ∧ k u w'.heap Q := by
  unfold denBox at hd
  cases hk : kindOf P t with
  | none => simp only [hk] at hd; exact hd.elim
  | some kd =>
    simp only [hk] at hd
    cases hc : cellsAs kd v with
    | none => simp only [hc] at hd; exact hd.elim
    | some cs =>
      simp only [hc] at hd
      obtain ⟨ho, hq⟩ := reqOne_sound hd
      intro w hw
      subst hw
      exact ⟨_, w.alloc (.cells cs.toArray t), by simp [Instr.box, run_newVar (cellsAs_cells hc ho)], ⟨rfl, rfl, rfl⟩, hq⟩
theorem denAlloc_sound {t : TypeId} (hd : denAlloc P t k h Q) : ∀ w, w.heap = h → ∃ u w', (Instr.alloc t true (.tuple #[])).run P w = .ok u w' ∧ Same w w' ∧ k u w'.heap Q := by
  unfold denAlloc at hd
  cases hi : P.info? t with
  | none => simp only [hi] at hd; exact hd.elim
  | some i =>
    simp only [hi] at hd
    cases hz : i.zero with
    | none => simp only [hz] at hd; exact hd.elim
    | some z =>
      simp only [hz] at hd
      intro w hw
      subst hw
      exact ⟨_, w.alloc (.cells z.cells t), by simp [Instr.alloc, run_zero hi hz, newVar, newRow], ⟨rfl, rfl, rfl⟩, hd⟩
theorem denFieldAddr_sound {s : TypeId} {x : Value} {f : Nat} (hd : denFieldAddr P s x f k h Q) : ∃ v, (∀ w, (Instr.fieldAt s x f).run P w = .ok v w) ∧ k v h Q := by
  unfold denFieldAddr at hd
  cases x <;> try exact hd.elim
  rename_i p
  cases p with
  | none => exact hd.elim
  | some a =>
  simp only at hd
  cases hu : P.underlying s with
  | none => simp only [hu] at hd; exact hd.elim
  | some d =>
  cases d with
  | struct fields =>
    simp only [hu] at hd
    cases hf : fields.toList[f]? with
    | none => simp only [hf] at hd; exact hd.elim
    | some fd =>
      simp only [hf] at hd
      cases hb : Nat.ble 1 (P.cellsOf fd.type) with
      | false => simp only [hb] at hd; exact hd.elim
      | true =>
        simp only [hb] at hd
        refine ⟨_, fun w => ?_, hd⟩
        have hf' : fields[f]? = some fd := by simpa using hf
        have hsz : 1 ≤ P.cellsOf fd.type := Nat.le_of_ble_eq_true hb
        cases hi : P.info? fd.type with
        | none => simp [Program.cellsOf, hi] at hsz
        | some i =>
          rw [cellsOf_eq hi] at hsz
          have hne : i.size ≠ 0 := by omega
          simp [Instr.fieldAt, run_und hu, hf', Instr.sureAddr, fieldPlace, run_size hi, hne]
  | _ => simp only [hu] at hd; exact hd.elim
theorem denField_sound {t : TypeId} {x : Value} {f : Nat} (hd : denField P t x f k h Q) : ∃ v, (∀ w, (Instr.field t x f).run P w = .ok v w) ∧ k v h Q := by
  unfold denField at hd
  cases x <;> try exact hd.elim
  rename_i cs
  simp only at hd
  cases hu : P.underlying t with
  | none => simp only [hu] at hd; exact hd.elim
  | some d =>
  cases d with
  | struct fields =>
    simp only [hu] at hd
    cases hf : fields.toList[f]? with
    | none => simp only [hf] at hd; exact hd.elim
    | some fd =>
      simp only [hf] at hd
      cases hp : partAs P fd.type cs.toList fd.offset with
      | none => simp only [hp] at hd; exact hd.elim
      | some v =>
        simp only [hp] at hd
        refine ⟨_, fun w => ?_, hd⟩
        have hf' : fields[f]? = some fd := by simpa using hf
        have := partAs_sound hp w
        simp only [Instr.field, Sem.run_bind, run_und hu, Result.andThen_ok, hf', asAgg, Sem.run_pure]
        simpa using this
  | _ => simp only [hu] at hd; exact hd.elim
theorem denIndexAddr_sound {t : TypeId} {x i : Value} (hd : denIndexAddr P t x i k h Q) : ∃ v, (∀ w, (Instr.indexAt t x i).run P w = .ok v w) ∧ k v h Q := by
  unfold denIndexAddr at hd
  cases i <;> try exact hd.elim
  rename_i ki n
  simp only at hd
  cases hu : P.underlying t with
  | none => simp only [hu] at hd; exact hd.elim
  | some d =>
  cases d with
  | slice elem =>
    simp only [hu] at hd
    cases x <;> try exact hd.elim
    rename_i a len cap
    simp only at hd
    cases hi : P.info? elem with
    | none => simp only [hi] at hd; exact hd.elim
    | some inf =>
      simp only [hi] at hd
      obtain ⟨ad, rfl, h0, h1, hq⟩ := hd
      refine ⟨_, fun w => ?_, hq⟩
      simp [Instr.indexAt, asIntOf, run_und hu, h0, h1, run_size hi]
  | array len elem =>
    simp only [hu] at hd
    cases x <;> try exact hd.elim
    rename_i p
    cases p with
    | none => exact hd.elim
    | some a =>
    simp only at hd
    cases hi : P.info? elem with
    | none => simp only [hi] at hd; exact hd.elim
    | some inf =>
      simp only [hi] at hd
      obtain ⟨ad, hh, h0, h1, hq⟩ := hd
      cases hh
      refine ⟨_, fun w => ?_, hq⟩
      simp [Instr.indexAt, asIntOf, run_und hu, h0, h1, run_size hi, Instr.sureAddr]
  | _ => simp only [hu] at hd; exact hd.elim
theorem denIndex_sound {t : TypeId} {x i : Value} (hd : denIndex P t x i k h Q) : ∃ v, (∀ w, (Instr.index t x i).run P w = .ok v w) ∧ k v h Q := by
  unfold denIndex at hd
  cases i <;> try exact hd.elim
  rename_i ki n
  simp only at hd
  cases hu : P.underlying t with
  | none => simp only [hu] at hd; exact hd.elim
  | some d =>
  cases d with
  | string =>
    simp only [hu] at hd
    cases x <;> try exact hd.elim
    rename_i s
    simp only at hd
    obtain ⟨b, h0, hb, hq⟩ := hd
    refine ⟨_, fun w => ?_, hq⟩
    simp [Instr.index, asIntOf, run_und hu, h0, hb]
  | _ => simp only [hu] at hd; exact hd.elim
theorem denNilCheck_sound {o : Oper} {x : Operand} {ev : Operand → Value} (ho : o.op = .nilCheck x) (hd : denNilCheck (ev x) k h Q) : ∃ v, Stat P (execOp ev o) v ∧ k v h Q := by
  cases hp : ev x with
  | pointer p =>
    rw [hp] at hd
    obtain ⟨a, rfl, hq⟩ := hd
    exact ⟨_, fun w => by simp [execOp, ho, hp], hq⟩
  | func fn first captured =>
    rw [hp] at hd
    cases fn with
    | func f => exact ⟨_, fun w => by simp [execOp, ho, hp], hd⟩
    | _ => exact hd.elim
  | _ => rw [hp] at hd; exact hd.elim
end
end Go.H
namespace Go.H
set_option linter.unusedSimpArgs false
set_option linter.unusedVariables false
section
variable {P : Program} {ρ : Type} {k : Value → HM ρ} {h : Heap} {Q : ρ → Heap → Prop}
def IntOpt (v : Option Value) (r : Option Int) : Prop :=
  match r with
  | none => v = none
  | some n => ∃ kd, v = some (.int kd n)
theorem optInt_sound {DF : List Deferred} {n : Nat} {e : Env} {a : Act} (hA : AgreeD DF n e a) {x : Option Operand} {r : Option Int} (hx : optInt e x = some r) : IntOpt (x.map a.eval) r := by
  cases x with
  | none => simp only [optInt, Option.some.injEq] at hx; subst hx; rfl
  | some x =>
    simp only [optInt] at hx
    split at hx
    · rename_i kd m hv
      cases hx
      exact ⟨kd, by simp [hA.ev hv]⟩
    · cases hx
theorem run_sliceBound (kd : IntKind) (n : Int) (y : Nat) (code : BoundsCode) (m : Nat) (hm : n = (m : Int)) (hle : m ≤ y) (w : World) :
    (Instr.sliceBound (.int kd n) y code).run P w = .ok m w := by
  subst hm
  have h1 : (0 : Int) ≤ (m : Int) ∧ (m : Int) ≤ (y : Int) := by omega
  simp [Instr.sliceBound, asIntOf, h1]
theorem run_sliceBounds {b : Bool} {len cap : Nat} {lo hi mx : Option Value} {rl rh rm : Option Int} (hl : IntOpt lo rl) (hh : IntOpt hi rh) (hm : IntOpt mx rm) {l u m : Nat}
    (h1 : optLe rm (m = cap) m cap) (h2 : optLe rh (rm = none ∧ u = len) u m) (h3 : optLe rl (l = 0) l u) (w : World) : (Instr.sliceBounds b len cap lo hi mx).run P w = .ok (l, u, m) w := by
  unfold Instr.sliceBounds
  cases rm with
  | none =>
    simp only [IntOpt] at hm; subst hm
    simp only [optLe] at h1; subst h1
    cases rh with
    | none =>
      simp only [IntOpt] at hh; subst hh
      obtain ⟨-, rfl⟩ := h2
      cases rl with
      | none => simp only [IntOpt] at hl; subst hl; simp only [optLe] at h3; subst h3; rfl
      | some x => obtain ⟨kd, rfl⟩ := hl; simp [run_sliceBound _ _ _ _ _ h3.1 h3.2]
    | some y =>
      obtain ⟨kd, rfl⟩ := hh
      cases rl with
      | none => simp only [IntOpt] at hl; subst hl; simp only [optLe] at h3; subst h3; simp [run_sliceBound _ _ _ _ _ h2.1 h2.2]
      | some x => obtain ⟨kd, rfl⟩ := hl; simp [run_sliceBound _ _ _ _ _ h2.1 h2.2, run_sliceBound _ _ _ _ _ h3.1 h3.2]
  | some z =>
    obtain ⟨kz, rfl⟩ := hm
    cases rh with
    | none => exact absurd h2.1 (by simp)
    | some y =>
      obtain ⟨kd, rfl⟩ := hh
      cases rl with
      | none => simp only [IntOpt] at hl; subst hl; simp only [optLe] at h3; subst h3; simp [run_sliceBound _ _ _ _ _ h1.1 h1.2, run_sliceBound _ _ _ _ _ h2.1 h2.2]
      | some x => obtain ⟨kd, rfl⟩ := hl; simp [run_sliceBound _ _ _ _ _ h1.1 h1.2, run_sliceBound _ _ _ _ _ h2.1 h2.2, run_sliceBound _ _ _ _ _ h3.1 h3.2]
theorem denSlice_sound {t : TypeId} {x : Value} {lo hi mx : Option Value} {rl rh rm : Option Int} (hl : IntOpt lo rl) (hh : IntOpt hi rh) (hm : IntOpt mx rm)
    (hd : denSlice P t x rl rh rm k h Q) : ∃ v, (∀ w, (Instr.sliceAt t x lo hi mx).run P w = .ok v w) ∧ k v h Q := by
  unfold denSlice at hd
  cases hu : P.underlying t with
  | none => simp only [hu] at hd; exact hd.elim
  | some d =>
  cases d with
  | string =>
    simp only [hu] at hd
    cases x <;> try exact hd.elim
    rename_i s
    cases rm with
    | some _ => exact hd.elim
    | none =>
      obtain ⟨l, u, h1, h2, hq⟩ := hd
      refine ⟨_, fun w => ?_, hq⟩
      have hm' : mx = none := hm
      subst hm'
      have h1' : optLe rh ((none : Option Int) = none ∧ u = s.size) u s.size := by
        cases rh with
        | none => exact ⟨rfl, h1⟩
        | some y => exact h1
      have hb := run_sliceBounds (P := P) (b := false) (len := s.size) (cap := s.size) (m := s.size) hl hh (mx := none) (rm := none) rfl rfl h1' h2 w
      simp only [Instr.sliceAt, Sem.run_bind, run_und hu, Result.andThen_ok, Instr.slice, Option.isSome_none, Bool.false_eq_true, if_false, hb]
      rfl
  | slice elem =>
    simp only [hu] at hd
    cases x <;> try exact hd.elim
    rename_i a n c
    simp only at hd
    cases hi' : P.info? elem with
    | none => simp only [hi'] at hd; exact hd.elim
    | some inf =>
      simp only [hi'] at hd
      obtain ⟨l, u, m, h1, h2, h3, hq⟩ := hd
      refine ⟨_, fun w => ?_, hq⟩
      have hb := run_sliceBounds (P := P) (b := true) (len := n) (cap := c) hl hh hm h1 h2 h3 w
      simp only [Instr.sliceAt, Sem.run_bind, run_und hu, Result.andThen_ok, Instr.slice, hb, run_size hi']
      rfl
  | _ => simp only [hu] at hd; exact hd.elim
def Kind.width : Kind → Nat
  | .one _ => 1
  | .agg ts => ts.length
theorem overlay_nil (cs : List Value) (off : Nat) : overlay cs off [] = cs := by cases cs <;> rfl
theorem overlay_cons (v : Value) (vs : List Value) : ∀ (cs : List Value) (off : Nat), off < cs.length → overlay cs off (v :: vs) = overlay (cs.set off v) (off + 1) vs
  | [], off, h => by simp at h
  | c :: cs, 0, _ => by
    cases vs with
    | nil => simp [overlay, overlay_nil]
    | cons u us => simp [overlay]
  | c :: cs, off + 1, h => by
    have ih := overlay_cons v vs cs off (by simpa using h)
    cases vs with
    | nil => simp only [overlay, List.set_cons_succ, overlay_nil] at ih ⊢; rw [ih]
    | cons u us => simp only [overlay, List.set_cons_succ] at ih ⊢; rw [ih]
theorem fold_overlay (off : Nat) : ∀ (vs : List Value) (i : Nat) (cs : List Value), off + i + vs.length ≤ cs.length →
    (vs.zipIdx i).foldl (fun cs (x : Value × Nat) => cs.setIfInBounds (off + x.2) x.1) cs.toArray = (overlay cs (off + i) vs).toArray
  | [], i, cs, _ => by simp [overlay_nil]
  | v :: vs, i, cs, hle => by
    simp only [List.length_cons] at hle
    rw [overlay_cons v vs cs (off + i) (by omega)]
    have := fold_overlay off vs (i + 1) (cs.set (off + i) v) (by simp; omega)
    simp only [List.zipIdx_cons, List.foldl_cons]
    rw [show off + i + 1 = off + (i + 1) from by omega, ← this]
    congr 1
    simp
theorem cellsAs_len {kd : Kind} {v : Value} {cs : List Value} (h1 : cellsAs kd v = some cs) : cs.length = kd.width := by
  cases kd with
  | one t => simp only [cellsAs, Option.some.injEq] at h1; subst h1; rfl
  | agg ts =>
    simp only [cellsAs] at h1
    cases v <;> simp only at h1 <;> try cases h1
    split at h1
    · rename_i hb; cases h1; exact Nat.eq_of_beq_eq_true hb
    · cases h1
theorem reqParts_sound {place : Nat → Option (Nat × Kind)} {m : HM ρ} : ∀ (ps : List (Nat × Value)), reqParts place ps m h Q →
    (∀ i v off kd, (i, v) ∈ ps → place i = some (off, kd) → ∀ t, kd = .one t → v.oneCell' = true) ∧ m h Q
  | [], hd => by
    refine ⟨fun _ _ _ _ hm => ?_, hd⟩
    exact absurd hm (List.not_mem_nil)
  | (i, v) :: rest, hd => by
    simp only [reqParts] at hd
    cases hp : place i with
    | none => simp only [hp] at hd; exact hd.elim
    | some x =>
      obtain ⟨off, kd⟩ := x
      simp only [hp] at hd
      obtain ⟨h1, h2⟩ := reqOne_sound hd
      obtain ⟨h3, h4⟩ := reqParts_sound rest h2
      refine ⟨fun j u off' kd' hm hp' => ?_, h4⟩
      cases hm with
      | head => rw [hp] at hp'; cases hp'; exact h1
      | tail _ hm => exact h3 j u off' kd' hm hp'
theorem fill_sound {place' : Nat → Option (Nat × Nat)} {place : Nat → Option (Nat × Kind)} (hpl : ∀ i off kd, place i = some (off, kd) → place' i = some (off, kd.width)) :
    ∀ (ps : List (Nat × Value)) (cs out : List Value), fillAs place cs ps = some out →
      (∀ i v off kd, (i, v) ∈ ps → place i = some (off, kd) → ∀ t, kd = .one t → v.oneCell' = true) → Instr.fill place' cs.toArray ps = some out.toArray
  | [], cs, out, hf, _ => by simp only [fillAs, Option.some.injEq] at hf; subst hf; rfl
  | (i, v) :: rest, cs, out, hf, hone => by
    simp only [fillAs] at hf
    split at hf
    · rename_i off kd hp
      split at hf
      · rename_i vs hvs
        split at hf
        · rename_i hb
          have hle : off + vs.length ≤ cs.length := Nat.le_of_ble_eq_true hb
          have hcells := cellsAs_cells hvs (hone i v off kd (List.mem_cons_self ..) hp)
          have hlen := cellsAs_len hvs
          have ih := fill_sound hpl rest _ out hf (fun j u off' kd' hm => hone j u off' kd' (List.mem_cons_of_mem _ hm))
          simp only [Instr.fill, hpl i off kd hp, hcells]
          have hc1 : ¬ ((vs.toArray.size ≠ kd.width || off + vs.toArray.size > cs.toArray.size) = true) := by
            simp [hlen]; omega
          rw [if_neg hc1]
          rw [← ih]
          congr 1
          have := fold_overlay off vs 0 cs (by omega)
          rw [Nat.add_zero] at this
          rw [← this]
          simp [← Array.foldl_toList]
        · cases hf
      · cases hf
    · cases hf
theorem run_mapM {α β : Type} {f : α → Sem β} {g : α → β} {w : World} : ∀ (xs : List α), (∀ x ∈ xs, (f x).run P w = .ok (g x) w) → (xs.mapM f).run P w = .ok (xs.map g) w
  | [], _ => rfl
  | x :: xs, hf => by
    rw [List.mapM_cons]
    simp only [Sem.run_bind, hf x (List.mem_cons_self ..), Result.andThen_ok, run_mapM xs (fun y hy => hf y (List.mem_cons_of_mem _ hy)), Sem.run_pure, List.map_cons]
theorem allInfo_sound : ∀ (fs : List Field), allInfo P fs = true → ∀ f ∈ fs, ∃ i, P.info? f.type = some i
  | [], _, _, hf => by cases hf
  | g :: fs, hi, f, hf => by
    simp only [allInfo] at hi
    split at hi
    · rename_i i hgi
      cases hf with
      | head => exact ⟨i, hgi⟩
      | tail _ hf => exact allInfo_sound fs hi f hf
    · cases hi
theorem fieldPlaces_width {fields : Array Field} {i off : Nat} {kd : Kind} (hp : fieldPlaces P fields i = some (off, kd)) : ∃ f, fields.toList[i]? = some f ∧ f.offset = off ∧ P.cellsOf f.type = kd.width := by
  unfold fieldPlaces at hp
  split at hp
  · rename_i f hf
    refine ⟨f, hf, ?_⟩
    split at hp
    · split at hp
      · split at hp
        · rename_i hb; cases hp; exact ⟨rfl, Nat.eq_of_beq_eq_true hb⟩
        · cases hp
      · split at hp
        · rename_i hb; cases hp; exact ⟨rfl, Nat.eq_of_beq_eq_true hb⟩
        · cases hp
    · cases hp
  · cases hp
theorem elemPlaces_width {elem : TypeId} {i off : Nat} {kd : Kind} (hp : elemPlaces P elem i = some (off, kd)) : off = i * P.cellsOf elem ∧ P.cellsOf elem = kd.width := by
  unfold elemPlaces at hp
  split at hp
  · split at hp
    · split at hp
      · rename_i hb; cases hp; have := Nat.eq_of_beq_eq_true hb; rw [this]; exact ⟨by omega, rfl⟩
      · cases hp
    · split at hp
      · rename_i hb; cases hp; have := Nat.eq_of_beq_eq_true hb; rw [this]; exact ⟨rfl, rfl⟩
      · cases hp
  · cases hp
theorem denBuild_sound {t : TypeId} {ps : Array (Nat × Value)} (hd : denBuild P t ps.toList k h Q) : ∃ v, (∀ w, (Instr.build t ps).run P w = .ok v w) ∧ k v h Q := by
  unfold denBuild at hd
  cases hu : P.underlying t with
  | none => simp only [hu] at hd; exact hd.elim
  | some d =>
  cases d with
  | struct fields =>
    simp only [hu] at hd
    cases ha : allInfo P fields.toList with
    | false => simp only [ha] at hd; exact hd.elim
    | true =>
    simp only [ha] at hd
    cases hi : P.info? t with
    | none => simp only [hi] at hd; exact hd.elim
    | some i =>
    simp only [hi] at hd
    cases hz : i.zero with
    | none => simp only [hz] at hd; exact hd.elim
    | some z =>
    simp only [hz] at hd
    cases hf : fillAs (fieldPlaces P fields) z.cells.toList ps.toList with
    | none => simp only [hf] at hd; exact hd.elim
    | some cs =>
      simp only [hf] at hd
      obtain ⟨hone, hq⟩ := reqParts_sound _ hd
      refine ⟨_, fun w => ?_, hq⟩
      have hpl : ∀ w, (fields.mapM fun f => do pure (f.offset, ← sizeOf f.type) : Sem _).run P w = .ok (fields.map fun f => (f.offset, P.cellsOf f.type)) w := by
        intro w
        rw [Array.mapM_eq_mapM_toList]
        simp only [Sem.run_map]
        rw [run_mapM (g := fun f => (f.offset, P.cellsOf f.type)) fields.toList (fun f hf => by
          obtain ⟨i, hi⟩ := allInfo_sound _ ha f hf
          simp [run_size hi, cellsOf_eq hi])]
        simp only [Result.andThen_ok]
        congr 1
        apply Array.toList_inj.1
        simp
      have hfill := fill_sound (place' := fun i => (fields.map fun f => (f.offset, P.cellsOf f.type))[i]?) (fun i off kd hp => by
        obtain ⟨f, hf, h1, h2⟩ := fieldPlaces_width hp
        have hf' : fields[i]? = some f := by simpa using hf
        simp [hf', h1, h2]) ps.toList _ _ hf hone
      simp only [Instr.build, Sem.run_bind, run_zero hi hz, Result.andThen_ok, run_und hu, hpl]
      simp only [Array.toArray_toList] at hfill
      rw [hfill]
      rfl
  | array len elem =>
    simp only [hu] at hd
    cases hi : P.info? t with
    | none => simp only [hi] at hd; exact hd.elim
    | some i =>
    simp only [hi] at hd
    cases hz : i.zero with
    | none => simp only [hz] at hd; exact hd.elim
    | some z =>
    simp only [hz] at hd
    cases he : P.info? elem with
    | none => simp only [he] at hd; exact hd.elim
    | some ie =>
    simp only [he] at hd
    cases hf : fillAs (elemPlaces P elem) z.cells.toList ps.toList with
    | none => simp only [hf] at hd; exact hd.elim
    | some cs =>
      simp only [hf] at hd
      obtain ⟨hone, hq⟩ := reqParts_sound _ hd
      refine ⟨_, fun w => ?_, hq⟩
      have hfill := fill_sound (place' := fun i => some (i * ie.size, ie.size)) (fun i off kd hp => by
        obtain ⟨h1, h2⟩ := elemPlaces_width hp
        rw [cellsOf_eq he] at h1 h2
        simp [h1, h2]) ps.toList _ _ hf hone
      simp only [Instr.build, Sem.run_bind, run_zero hi hz, Result.andThen_ok, run_und hu, run_size he]
      simp only [Array.toArray_toList] at hfill
      rw [hfill]
      rfl
  | _ => simp only [hu] at hd; exact hd.elim
theorem repl_eq (z : List Value) (n : Nat) : repl z n = (List.range (n * z.length)).map (fun i => z[i % z.length]!) := by
  induction n with
  | zero => simp [repl]
  | succ n ih =>
    have hz : (List.range z.length).map (fun i => z[i % z.length]!) = z := by
      apply List.ext_getElem
      · simp
      · intro i h1 h2
        simp only [List.getElem_map, List.getElem_range]
        rw [Nat.mod_eq_of_lt h2, getElem!_pos z i h2]
    rw [repl, ih, Nat.succ_mul, Nat.add_comm, List.range_add, List.map_append, hz]
    congr 1
    simp [List.map_map, Function.comp_def]
theorem denBuildSlice_sound {t : TypeId} {n : Nat} {ps : Array (Nat × Value)} (hd : denBuildSlice P t n ps.toList k h Q) :
    ∀ w, w.heap = h → ∃ v w', (Instr.buildSlice t n ps).run P w = .ok v w' ∧ Same w w' ∧ k v w'.heap Q := by
  unfold denBuildSlice at hd
  cases hu : P.underlying t with
  | none => simp only [hu] at hd; exact hd.elim
  | some d =>
  cases d with
  | slice elem =>
    simp only [hu] at hd
    cases hi : P.info? elem with
    | none => simp only [hi] at hd; exact hd.elim
    | some i =>
    simp only [hi] at hd
    cases hz : i.zero with
    | none => simp only [hz] at hd; exact hd.elim
    | some z =>
    simp only [hz] at hd
    cases hb : Nat.beq z.cells.toList.length i.size with
    | false => simp only [hb] at hd; exact hd.elim
    | true =>
    simp only [hb] at hd
    cases hb2 : Nat.ble (n * i.size) 16777216 with
    | false => simp only [hb2] at hd; exact hd.elim
    | true =>
    simp only [hb2] at hd
    cases hb3 : Nat.ble 1 i.size with
    | false => simp only [hb3] at hd; exact hd.elim
    | true =>
    simp only [hb3] at hd
    cases hf : fillAs (elemPlaces P elem) (repl z.cells.toList n) ps.toList with
    | none => simp only [hf] at hd; exact hd.elim
    | some cs =>
      simp only [hf] at hd
      obtain ⟨hone, hq⟩ := reqParts_sound _ hd
      intro w hw
      subst hw
      refine ⟨_, w.alloc (.cells cs.toArray elem), ?_, ⟨rfl, rfl, rfl⟩, hq⟩
      have h1 := Nat.eq_of_beq_eq_true hb
      have h2 := Nat.le_of_ble_eq_true hb2
      have h3 := Nat.le_of_ble_eq_true hb3
      have hfill := fill_sound (place' := fun j => some (j * i.size, i.size)) (fun j off kd hp => by
        obtain ⟨g1, g2⟩ := elemPlaces_width hp
        rw [cellsOf_eq hi] at g1 g2
        simp [g1, g2]) ps.toList _ _ hf hone
      have hsz : z.cells.size = i.size := by simpa using h1
      have hrep : (repl z.cells.toList n).toArray = (Array.range (n * i.size)).map (fun j => z.cells[j % z.cells.size]!) := by
        apply Array.toList_inj.1
        rw [repl_eq]
        simp [hsz, Array.toList_range]
        intro a _
        rw [getElem!_def]
        cases z.cells[a % i.size]? <;> rfl
      rw [hrep] at hfill
      have hle : ¬ (n * i.size > 2 ^ 24) := by omega
      by_cases h0 : n * i.size = 0
      · have hr0 : (Array.range (n * i.size)).map (fun j => z.cells[j % z.cells.size]!) = #[] := by rw [h0]; simp
        rw [hr0] at hfill
        simp only [Instr.buildSlice, Sem.run_bind, run_und hu, Result.andThen_ok, run_size hi, if_neg hle, Sem.run_pure, Sem.run_ite, if_pos h0]
        simp only [h0]
        rw [show (Array.range 0).map (fun x => (#[] : Array Value)[x % (#[] : Array Value).size]!) = #[] from by simp, hfill]
        simp [newRow]
      · simp only [Instr.buildSlice, Sem.run_bind, run_und hu, Result.andThen_ok, run_size hi, if_neg hle, Sem.run_pure, Sem.run_ite, if_neg h0, run_zero hi hz]
        rw [hfill]
        simp [newRow]
  | _ => simp only [hu] at hd; exact hd.elim
end
end Go.H
namespace Go.H
set_option linter.unusedSimpArgs false
set_option linter.unusedVariables false
section
variable {P : Program} {ρ : Type} {k : Value → HM ρ} {h : Heap} {Q : ρ → Heap → Prop}
theorem run_firstCells_slc {a : Option Addr} {m n c size : Nat} {vs : Array Value} {w : World} (hr : readsH w.heap a (n * size) vs) :
    (Builtin.firstCells size n (.slice a m c)).run P w = .ok vs w := by
  cases a with
  | none => simp only [readsH] at hr; subst hr; rfl
  | some x =>
    obtain ⟨h1, h2⟩ := hr
    have := run_loadCells (P := P) (a := x) (w := w) (vs := vs.toList) (n := n * size) (by simp [h1]) (fun j v hj => h2 j v (by simpa using hj))
    simpa [Builtin.firstCells] using this
theorem run_firstCells_str {s : ByteArray} {size : Nat} {w : World} : (Builtin.firstCells size s.size (.string s)).run P w = .ok (s.data.map fun b => .int .u8 b.toNat) w := by
  simp [Builtin.firstCells, ByteArray.extract_zero_size]
theorem append_gen {t u elem : TypeId} {ty : TypeId} {i : TypeInfo} {z x : Value} {s : Slc} {n : Nat} {src : Heap → Array Value → Prop} {du : TypeDesc}
    (ht : P.underlying t = some (.slice elem)) (hu : P.underlying u = some du) (hdu : ∀ kd, du ≠ .int kd) (hi : P.info? elem = some i) (hz : i.zero = some z)
    (hlen : ∀ w, (Builtin.lenOf x).run P w = .ok n w)
    (hsrc : ∀ (w : World) (vs : Array Value), src w.heap vs → (Builtin.firstCells i.size n x).run P w = .ok vs w)
    {R : Slc → Heap → Prop} (hd : HM.append elem i.size i.bytes z.cells s n src h R) :
    ∀ w, w.heap = h → ∃ r w', (Builtin.append_ #[t, u] ty #[.slice s.a s.len s.cap, x]).run P w = .ok (.slice r.a r.len r.cap) w' ∧ Same w w' ∧ R r w'.heap := by
  intro w hw
  subst hw
  obtain ⟨h1, h2⟩ := hd
  have hzf : (match du with | .int _ => true | _ => false) = false := by cases du <;> first | rfl | exact absurd rfl (hdu _)
  by_cases hle : s.len + n ≤ s.cap
  · obtain ⟨vs, hvs, hm⟩ := h1 hle
    cases ha : s.a with
    | none =>
      simp only [ha] at hm
      refine ⟨_, w, ?_, Same.refl w, hm⟩
      simp [Builtin.append_, run_und ht, run_und hu, hzf, run_size hi, hlen, hle, hsrc w vs hvs]
    | some a =>
      simp only [ha] at hm
      obtain ⟨h3, hq⟩ := hm
      obtain ⟨w', hr, hs, hh⟩ := run_storeCells (P := P) (a.add (s.len * i.size)) vs.toList 0 w (fun j v hj => by rw [Nat.zero_add]; exact h3 j v (by simpa using hj))
      refine ⟨⟨some a, s.len + n, s.cap⟩, w', ?_, hs, by rw [hh]; exact hq⟩
      simp [Builtin.append_, run_und ht, run_und hu, hzf, run_size hi, hlen, hle, hsrc w vs hvs, hr]
  · obtain ⟨hmax, hcap, old, vs, hold, hvs, hq⟩ := h2 (by omega)
    have hc1 : ¬ (((s.len + n : Nat) : Int) > IntKind.i64.max ∧ (false = true ∨ i.bytes = 0)) := by rw [IntKind.max_i64]; omega
    have hc2 : ¬ (Builtin.nextslicecap (s.len + n) s.cap * i.bytes > 2 ^ 48) := by omega
    have hge : s.len + n ≤ Question.cut (.appendCap (s.len + n) s.cap elem) (w.tape w.drawn (.appendCap (s.len + n) s.cap elem)) := by simp [Question.cut]
    have hle2 : Question.cut (.appendCap (s.len + n) s.cap elem) (w.tape w.drawn (.appendCap (s.len + n) s.cap elem)) ≤ 9223372036854775807 := by
      simp only [Question.cut]
      have := Nat.mod_lt (w.tape w.drawn (.appendCap (s.len + n) s.cap elem)) (show 2 ^ 63 - (s.len + n) > 0 by omega)
      omega
    refine ⟨_, (w.drew).alloc (.cells (old ++ vs ++ Builtin.zeroCells z.cells (Question.cut (.appendCap (s.len + n) s.cap elem) (w.tape w.drawn (.appendCap (s.len + n) s.cap elem)) - (s.len + n))) elem), ?_, ⟨rfl, rfl, rfl⟩, hq _ hge hle2⟩
    have hold' : (Builtin.firstCells i.size s.len (.slice s.a s.len s.cap)).run P w.drew = .ok old w.drew := run_firstCells_slc (w := w.drew) hold
    have hvs' : (Builtin.firstCells i.size n x).run P w.drew = .ok vs w.drew := hsrc w.drew vs hvs
    have hc1' : ¬ (((s.len : Int) + (n : Int)) > 9223372036854775807 ∧ i.bytes = 0) := by omega
    simp [Builtin.append_, run_und ht, run_und hu, hzf, run_size hi, hlen, hle, run_info hi, hc1', hc2, Question.forced, hold', hvs', run_zero hi hz, newRow]
theorem denAppend_sound {ts : Array TypeId} {ty : TypeId} {vs : Array Value} (hd : denAppend P ts.toList vs.toList k h Q) :
    ∀ w, w.heap = h → ∃ r w', (Builtin.append_ ts ty vs).run P w = .ok r w' ∧ Same w w' ∧ k r w'.heap Q := by
  obtain ⟨ts⟩ := ts
  obtain ⟨vs⟩ := vs
  simp only at hd
  unfold denAppend at hd
  match ts, vs, hd with
  | [t, u], [s, x], hd =>
    simp only at hd
    cases ht : P.underlying t with
    | none => simp only [ht] at hd; exact hd.elim
    | some d =>
    cases d with
    | slice elem =>
      simp only [ht] at hd
      cases s <;> try exact hd.elim
      rename_i a n c
      simp only at hd
      cases hi : P.info? elem with
      | none => simp only [hi] at hd; exact hd.elim
      | some i =>
      simp only [hi] at hd
      cases hz : i.zero with
      | none => simp only [hz] at hd; exact hd.elim
      | some z =>
      simp only [hz] at hd
      cases hu : P.underlying u with
      | none => simp only [hu] at hd; exact hd.elim
      | some du =>
      cases du with
      | slice e2 =>
        simp only [hu] at hd
        cases x <;> try exact hd.elim
        rename_i b m dd
        simp only at hd
        intro w hw
        obtain ⟨r, w', hr, hs, hq⟩ := append_gen (ty := ty) (x := .slice b m dd) (s := ⟨a, n, c⟩) ht hu (by simp) hi hz (fun w => rfl) (fun w vs hvs => run_firstCells_slc hvs) hd w hw
        exact ⟨_, w', hr, hs, hq⟩
      | string =>
        simp only [hu] at hd
        cases x <;> try exact hd.elim
        rename_i b
        simp only at hd
        intro w hw
        obtain ⟨r, w', hr, hs, hq⟩ := append_gen (ty := ty) (x := .string b) (s := ⟨a, n, c⟩) ht hu (by simp) hi hz (fun w => rfl) (fun w vs hvs => by simp only [srcStr] at hvs; subst hvs; exact run_firstCells_str) hd w hw
        exact ⟨_, w', hr, hs, hq⟩
      | _ => simp only [hu] at hd; exact hd.elim
    | _ => simp only [ht] at hd; exact hd.elim
  | [], _, hd => exact hd.elim
  | [_], _, hd => exact hd.elim
  | [_, _], [], hd => exact hd.elim
  | [_, _], [_], hd => exact hd.elim
  | [_, _], _ :: _ :: _ :: _, hd => exact hd.elim
  | _ :: _ :: _ :: _, _, hd => exact hd.elim
theorem denLen_sound {ts : Array TypeId} {ty : TypeId} {vs : Array Value} (hd : denLen P ts.toList vs.toList k h Q) :
    ∃ v, (∀ w, w.heap = h → (Builtin.len_ ts ty vs).run P w = .ok v w) ∧ k v h Q := by
  obtain ⟨ts⟩ := ts
  obtain ⟨vs⟩ := vs
  simp only at hd
  unfold denLen at hd
  match ts, vs, hd with
  | [t], [x], hd =>
    simp only at hd
    cases ht : P.underlying t with
    | none => simp only [ht] at hd; exact hd.elim
    | some d =>
    cases d with
    | string =>
      simp only [ht] at hd
      cases x <;> try exact hd.elim
      exact ⟨_, fun w _ => by simp [Builtin.len_, run_und ht, goInt], hd⟩
    | slice e =>
      simp only [ht] at hd
      cases x <;> try exact hd.elim
      exact ⟨_, fun w _ => by simp [Builtin.len_, run_und ht, goInt], hd⟩
    | array n e =>
      simp only [ht] at hd
      exact ⟨_, fun w _ => by simp [Builtin.len_, run_und ht, goInt], hd⟩
    | map a b =>
      simp only [ht] at hd
      cases x <;> try exact hd.elim
      rename_i r
      obtain ⟨es, clock, he, hq⟩ := hd
      refine ⟨_, fun w hw => ?_, hq⟩
      subst hw
      cases r with
      | none => obtain ⟨rfl, -⟩ := he; simp [Builtin.len_, run_und ht, goInt]
      | some r =>
        have hg : (getObj r).run P w = .ok (.map es.toArray clock) w := by
          have he' : w.heap[r]? = some (.map es.toArray clock) := he
          simp [getObj, Sem.run, he']
        simp [Builtin.len_, run_und ht, goInt, hg]
    | _ => simp only [ht] at hd; exact hd.elim
  | [], _, hd => exact hd.elim
  | [_], [], hd => exact hd.elim
  | [_], _ :: _ :: _, hd => exact hd.elim
  | _ :: _ :: _, _, hd => exact hd.elim
theorem denMinMax_sound {mx : Bool} {ts : Array TypeId} {ty : TypeId} {vs : Array Value} (hd : denMinMax mx vs.toList k h Q) :
    ∃ v, (∀ w, (if mx = true then Builtin.max_ ts ty vs else Builtin.min_ ts ty vs).run P w = .ok v w) ∧ k v h Q := by
  obtain ⟨vs⟩ := vs
  simp only at hd
  unfold denMinMax at hd
  split at hd
  · rename_i ka a kb b
    cases hk : ikEq ka kb with
    | false => simp only [hk] at hd; exact hd.elim
    | true =>
      simp only [hk] at hd
      obtain rfl := ikEq_eq hk
      cases mx with
      | true => exact ⟨_, fun w => by simp [Builtin.max_, Builtin.max2], hd⟩
      | false => exact ⟨_, fun w => by simp [Builtin.min_, Builtin.min2], hd⟩
  · rename_i ka a kb b kc c
    cases hk : ikEq ka kb && ikEq ka kc with
    | false => simp only [hk] at hd; exact hd.elim
    | true =>
      simp only [hk] at hd
      rw [Bool.and_eq_true] at hk
      obtain rfl := ikEq_eq hk.1
      obtain rfl := ikEq_eq hk.2
      cases mx with
      | true => exact ⟨_, fun w => by simp [Builtin.max_, Builtin.max2], hd⟩
      | false => exact ⟨_, fun w => by simp [Builtin.min_, Builtin.min2], hd⟩
  · exact hd.elim
theorem denMakeSlice_sound {t : TypeId} {n c : Value} (hd : denMakeSlice P t n c k h Q) :
    ∀ w, w.heap = h → ∃ r w', (Instr.makeSlice t n c).run P w = .ok r w' ∧ Same w w' ∧ k r w'.heap Q := by
  unfold denMakeSlice at hd
  cases ht : P.underlying t with
  | none => simp only [ht] at hd; exact hd.elim
  | some d =>
  cases d with
  | slice elem =>
    simp only [ht] at hd
    cases hi : P.info? elem with
    | none => simp only [hi] at hd; exact hd.elim
    | some i =>
    simp only [hi] at hd
    cases hz : i.zero with
    | none => simp only [hz] at hd; exact hd.elim
    | some z =>
    simp only [hz] at hd
    cases hb : Nat.beq z.cells.toList.length i.size with
    | false => simp only [hb] at hd; exact hd.elim
    | true =>
    simp only [hb] at hd
    cases n <;> try exact hd.elim
    cases c <;> try exact hd.elim
    rename_i kn n kc c
    obtain ⟨h0, h1, h2, h3, hq⟩ := hd
    intro w hw
    subst hw
    have hsz : z.cells.size = i.size := by simpa using Nat.eq_of_beq_eq_true hb
    refine ⟨_, w.alloc (.cells (Builtin.zeroCells z.cells c.toNat) elem), ?_, ⟨rfl, rfl, rfl⟩, hq⟩
    have hwn : IntKind.i64.wrap n = n := by simp [IntKind.wrap, IntKind.bits, IntKind.signed]; omega
    have hwc : IntKind.i64.wrap c = c := by simp [IntKind.wrap, IntKind.bits, IntKind.signed]; omega
    have hc1 : ¬ (c < 0) := by omega
    have hc2 : ¬ (281474976710656 < (i.bytes : Int) * c) := by omega
    have hn0 : ¬ (n < 0) := by omega
    have hnc : ¬ (c < n) := by omega
    by_cases hz0 : c.toNat * i.size = 0
    · have : Builtin.zeroCells z.cells c.toNat = #[] := by simp [Builtin.zeroCells, hsz, hz0]
      simp [Instr.makeSlice, run_und ht, asInt, asIntOf, run_info hi, hwn, hwc, hc1, hc2, hn0, hnc, run_size hi, hz0, newRow, this, Array.range_zero']
    · simp only [Builtin.zeroCells, hsz]
      simp [Instr.makeSlice, run_und ht, asInt, asIntOf, run_info hi, hwn, hwc, hc1, hc2, hn0, hnc, run_size hi, hz0, newRow, run_zero hi hz, hsz]
  | _ => simp only [ht] at hd; exact hd.elim
def KeyOK (P : Program) (kt : TypeId) (kd : TypeDesc) (key : Value) : Prop := plainKey kd = true ∨ (∃ fs, kd = .struct fs) ∧ eqTy P 8 kt key key = some true
theorem keyReq_sound {kt : TypeId} {kd : TypeDesc} {key : Value} {m : HM ρ} (hd : keyReq P kt kd key m h Q) : KeyOK P kt kd key ∧ m h Q := by
  unfold keyReq at hd
  cases hp : plainKey kd with
  | true => simp only [hp] at hd; exact ⟨.inl hp, hd⟩
  | false =>
    simp only [hp] at hd
    cases kd <;> try exact hd.elim
    exact ⟨.inr ⟨⟨_, rfl⟩, hd.1⟩, hd.2⟩
theorem run_checkKeyN {kt : TypeId} {kd : TypeDesc} (hk : P.underlying kt = some kd) (hp : plainKey kd = true) (e : Bool) (n : Nat) (v : Value) (w : World) :
    (Instr.checkKey e (n + 1) kt v).run P w = .ok () w := by
  simp only [Instr.checkKey, Sem.run_bind, run_und hk, Result.andThen_ok]
  cases kd <;> first | (cases v <;> rfl) | cases hp
theorem run_checkKey {kt : TypeId} {kd : TypeDesc} {v : Value} (hk : P.underlying kt = some kd) (hp : KeyOK P kt kd v) (e : Bool) (w : World) :
    (Instr.checkKey e 10000 kt v).run P w = .ok () w := by
  rcases hp with hp | ⟨-, hp⟩
  · exact run_checkKeyN hk hp e 9999 v w
  · exact (eqTy_sound 8 hp 9992 w).2.2 e
theorem run_findAsking {kt : TypeId} {key : Value} {w : World} : ∀ (es : List MapEntry) (i : Nat) (o : Option (Nat × Value)), placeAt (eqTy P 8 kt) key es i = some o → (Instr.findAsking kt key es i).run P w = .ok o w
  | [], i, o, hf => by
    simp only [placeAt, Option.some.injEq] at hf
    subst hf
    rfl
  | e :: es, i, o, hf => by
    simp only [placeAt] at hf
    cases hs : eqTy P 8 kt key e.key with
    | none => simp only [hs] at hf; cases hf
    | some r =>
      have h1 : (Op.equal kt key e.key).run P w = .ok r w := (eqTy_sound 8 hs 9992 w).1
      simp only [Instr.findAsking, Sem.run_bind, h1, Result.andThen_ok]
      simp only [hs] at hf
      cases r with
      | true =>
        simp only [Option.some.injEq] at hf
        subst hf
        rfl
      | false =>
        simp only at hf
        simpa using run_findAsking es (i + 1) o hf
theorem run_findKey {kt : TypeId} {kd : TypeDesc} (hk : P.underlying kt = some kd) {key : Value} (hp : KeyOK P kt kd key) {es : List MapEntry} {o : Option (Nat × Value)} (hf : placeOf (keySame P kt kd) key es = some o) (w : World) :
    (Instr.findKey kt key es).run P w = .ok o w := by
  rcases hp with hp | ⟨⟨fs, rfl⟩, -⟩
  · have e : keySame P kt kd = Instr.sameNow kd := by cases kd <;> first | rfl | cases hp
    rw [e] at hf
    simp only [placeOf, placeAt_now] at hf
    simp [Instr.findKey, run_und hk, hf]
  · simp only [placeOf, keySame] at hf
    simp only [Instr.findKey, Sem.run_bind, run_und hk, Result.andThen_ok]
    cases es with
    | nil =>
      simp only [placeAt, Option.some.injEq] at hf
      subst hf
      rfl
    | cons e es =>
      have : Instr.findNow (.struct fs) key (e :: es) 0 = none := by simp [Instr.findNow, Instr.sameNow]
      rw [this]
      exact run_findAsking (e :: es) 0 o hf
theorem run_getObj {w : World} {r : Nat} {o : Obj} (ho : w.heap[r]? = some o) (hc : ∀ a b c, o ≠ .cells a b c) : (getObj r).run P w = .ok o w := by
  cases o <;> first | exact absurd rfl (hc _ _ _) | simp only [getObj, Sem.run, ho]
theorem run_setObj {w : World} {r : Nat} {o o' : Obj} (ho : w.heap[r]? = some o) (hc : ∀ a b c, o ≠ .cells a b c) : (setObj r o').run P w = .ok () { w with heap := w.heap.setIfInBounds r o' } := by
  cases o <;> first | exact absurd rfl (hc _ _ _) | simp only [setObj, Sem.run, ho]
theorem denLookup_sound {t : TypeId} {x key : Value} {ok : Bool} (hd : denLookup P t x key ok k h Q) :
    ∃ v, (∀ w, w.heap = h → (Instr.lookup t x key ok).run P w = .ok v w) ∧ k v h Q := by
  unfold denLookup at hd
  cases ht : P.underlying t with
  | none => simp only [ht] at hd; exact hd.elim
  | some d =>
  cases d with
  | map kt et =>
    simp only [ht] at hd
    cases hkt : P.underlying kt with
    | none => simp only [hkt] at hd; exact hd.elim
    | some kd =>
    simp only [hkt] at hd
    have hd0 := keyReq_sound hd
    clear hd
    obtain ⟨hp, hd⟩ := hd0
    cases x <;> try exact hd.elim
    rename_i r
    simp only at hd
    cases hi : P.info? et with
    | none => simp only [hi] at hd; exact hd.elim
    | some i =>
    simp only [hi] at hd
    cases hz : i.zero with
    | none => simp only [hz] at hd; exact hd.elim
    | some z =>
    simp only [hz] at hd
    cases hek : Kind.of z with
    | none => simp only [hek] at hd; exact hd.elim
    | some ek =>
    simp only [hek] at hd
    obtain ⟨es, clock, o, xx, he, hf, hv, hq⟩ := hd
    have hrun : ∀ w, w.heap = h → (Instr.lookup t (.map r) key ok).run P w = .ok (if ok = true then .tuple #[ek.val xx, .bool o.isSome] else ek.val xx) w := by
      intro w hw
      subst hw
      cases r with
      | none =>
        obtain ⟨rfl, -⟩ := he
        simp only [placeOf, placeAt, Option.some.injEq] at hf
        subst hf
        simp only at hv
        simp [Instr.lookup, run_und ht, run_checkKey hkt hp, run_findKey hkt hp (show placeOf (keySame P kt kd) key [] = some none from rfl), run_zero hi hz, hv]
      | some r =>
        have he' : w.heap[r]? = some (.map es.toArray clock) := he
        cases o with
        | none =>
          simp only at hv
          simp [Instr.lookup, run_und ht, run_getObj he' (by simp), run_checkKey hkt hp, run_findKey hkt hp hf, run_zero hi hz, hv]
        | some ov =>
          obtain ⟨j, vv⟩ := ov
          simp only at hv
          simp [Instr.lookup, run_und ht, run_getObj he' (by simp), run_checkKey hkt hp, run_findKey hkt hp hf, hv]
    cases ok with
    | true => exact ⟨_, hrun, hq⟩
    | false => exact ⟨_, hrun, hq⟩
  | _ => simp only [ht] at hd; exact hd.elim
theorem denMapSet_sound {t : TypeId} {x key v : Value} (hd : denMapSet P t x key v k h Q) :
    ∀ w, w.heap = h → ∃ w', (Instr.mapUpdate t x key v).run P w = .ok () w' ∧ Same w w' ∧ k undef w'.heap Q := by
  unfold denMapSet at hd
  cases ht : P.underlying t with
  | none => simp only [ht] at hd; exact hd.elim
  | some d =>
  cases d with
  | map kt et =>
    simp only [ht] at hd
    cases hkt : P.underlying kt with
    | none => simp only [hkt] at hd; exact hd.elim
    | some kd =>
    simp only [hkt] at hd
    have hd0 := keyReq_sound hd
    clear hd
    obtain ⟨hp, hd⟩ := hd0
    cases x <;> try exact hd.elim
    rename_i r
    obtain ⟨b, es, clock, o, rfl, he, hf, hq⟩ := hd
    intro w hw
    subst hw
    cases o with
    | none =>
      refine ⟨{ w with heap := w.heap.setIfInBounds b (.map (es.push { key := key, val := v, born := clock }) (clock + 1)) }, ?_, ⟨rfl, rfl, rfl⟩, hq⟩
      simp [Instr.mapUpdate, run_und ht, run_getObj he (by simp), run_checkKey hkt hp, run_findKey hkt hp hf, run_setObj he (by simp)]
    | some ov =>
      obtain ⟨j, vv⟩ := ov
      obtain ⟨hkey, hsb, hq⟩ := hq
      refine ⟨{ w with heap := w.heap.setIfInBounds b (.map (es.modify j fun e => { e with key := key, val := v }) clock) }, ?_, ⟨rfl, rfl, rfl⟩, hq⟩
      have hks : (Instr.keyThatStays (((es[j]?).map (·.key)).getD key) key).run P w = .ok key w := by
        rw [hkey]
        unfold Instr.keyThatStays
        rw [if_pos hsb]
        rfl
      simp [Instr.mapUpdate, run_und ht, run_getObj he (by simp), run_checkKey hkt hp, run_findKey hkt hp hf, run_setObj he (by simp), hks]
  | _ => simp only [ht] at hd; exact hd.elim
theorem denDelete_sound {ts : Array TypeId} {ty : TypeId} {vs : Array Value} (hd : denDelete P ts.toList vs.toList k h Q) :
    ∀ w, w.heap = h → ∃ r w', (Builtin.delete_ ts ty vs).run P w = .ok r w' ∧ Same w w' ∧ k r w'.heap Q := by
  obtain ⟨ts⟩ := ts
  obtain ⟨vs⟩ := vs
  simp only at hd
  unfold denDelete at hd
  match ts, vs, hd with
  | t :: tr, [x, key], hd =>
    simp only at hd
    cases ht : P.underlying t with
    | none => simp only [ht] at hd; exact hd.elim
    | some d =>
    cases d with
    | map kt et =>
      simp only [ht] at hd
      cases hkt : P.underlying kt with
      | none => simp only [hkt] at hd; exact hd.elim
      | some kd =>
      simp only [hkt] at hd
      have hd0 := keyReq_sound hd
      clear hd
      obtain ⟨hp, hd⟩ := hd0
      cases x <;> try exact hd.elim
      rename_i r
      intro w hw
      subst hw
      cases r with
      | none =>
        exact ⟨_, w, by simp [Builtin.delete_, run_und ht, run_checkKey hkt hp], Same.refl w, hd⟩
      | some b =>
        obtain ⟨es, clock, o, he, hf, hq⟩ := hd
        cases o with
        | none =>
          refine ⟨_, { w with heap := w.heap.setIfInBounds b (.map es clock) }, ?_, ⟨rfl, rfl, rfl⟩, hq⟩
          simp [Builtin.delete_, run_und ht, run_getObj he (by simp), run_checkKey hkt hp, run_findKey hkt hp hf, run_setObj he (by simp)]
        | some ov =>
          refine ⟨_, { w with heap := w.heap.setIfInBounds b (.map (es.eraseIdxIfInBounds ov.1) clock) }, ?_, ⟨rfl, rfl, rfl⟩, hq⟩
          simp [Builtin.delete_, run_und ht, run_getObj he (by simp), run_checkKey hkt hp, run_findKey hkt hp hf, run_setObj he (by simp)]
    | _ => simp only [ht] at hd; exact hd.elim
  | [], _, hd => exact hd.elim
  | _ :: _, [], hd => exact hd.elim
  | _ :: _, [_], hd => exact hd.elim
  | _ :: _, _ :: _ :: _ :: _, hd => exact hd.elim
theorem denRange_sound {t : TypeId} {x : Value} (hd : denRange P t x k h Q) :
    ∀ w, w.heap = h → ∃ v w', (Instr.range t x).run P w = .ok v w' ∧ Same w w' ∧ k v w'.heap Q := by
  unfold denRange at hd
  cases ht : P.underlying t with
  | none => simp only [ht] at hd; exact hd.elim
  | some d =>
  cases d with
  | string =>
    simp only [ht] at hd
    cases x <;> try exact hd.elim
    intro w hw
    subst hw
    rename_i s
    refine ⟨_, w.alloc (.stringIter s 0), ?_, ⟨rfl, rfl, rfl⟩, hd⟩
    simp [Instr.range, run_und ht]
  | map kt et =>
    simp only [ht] at hd
    cases x <;> try exact hd.elim
    rename_i r
    intro w hw
    subst hw
    cases r with
    | none =>
      refine ⟨_, w.alloc (.mapIter none 0 #[] 0), ?_, ⟨rfl, rfl, rfl⟩, hd⟩
      simp [Instr.range, run_und ht]
    | some m =>
      obtain ⟨es, clock, he, hq⟩ := hd
      refine ⟨_, w.alloc (.mapIter (some m) clock #[] clock), ?_, ⟨rfl, rfl, rfl⟩, hq⟩
      simp [Instr.range, run_und ht, run_getObj he (by simp)]
  | _ => simp only [ht] at hd; exact hd.elim
theorem run_choose_some (n : Nat) (hn : 0 < n) (w : World) : ∃ i w', (choose (.mapNext n)).run P w = .ok i w' ∧ i < n ∧ w'.heap = w.heap ∧ Same w w' := by
  rw [run_choose]
  by_cases hf : (Question.mapNext n).forced = true
  · exact ⟨0, w, by rw [if_pos hf], hn, rfl, Same.refl w⟩
  · exact ⟨w.tape w.drawn (.mapNext n) % n, { w with drawn := w.drawn + 1 }, by rw [if_neg hf]; rfl, Nat.mod_lt _ hn, rfl, ⟨rfl, rfl, rfl⟩⟩
theorem denNext_sound {t : TypeId} {str : Bool} {x : Value} (hd : denNext str x k h Q) :
    ∀ w, w.heap = h → ∃ v w', (Instr.next x str t).run P w = .ok v w' ∧ Same w w' ∧ k v w'.heap Q := by
  unfold denNext at hd
  cases x <;> try exact hd.elim
  rename_i a
  cases a with
  | none => exact hd.elim
  | some a =>
  obtain ⟨b, off, sp⟩ := a
  simp only at hd
  cases off with
  | succ n => exact hd.elim
  | zero =>
  simp only [show Nat.beq 0 0 = true from rfl] at hd
  intro w hw
  subst hw
  cases str with
  | true =>
    obtain ⟨s, pos, ho, h1, h2⟩ := hd
    by_cases hp : pos < s.size
    · refine ⟨_, { w with heap := w.heap.setIfInBounds b (.stringIter s (pos + (Utf8.decode s pos).2)) }, ?_, ⟨rfl, rfl, rfl⟩, h1 hp⟩
      simp [Instr.next, run_getObj ho (by simp), hp, run_setObj ho (by simp), goInt]
    · refine ⟨_, w, ?_, Same.refl w, h2 hp⟩
      simp [Instr.next, run_getObj ho (by simp), hp]
  | false =>
    simp only at hd
    obtain ⟨m, since, seen, last, ho, hd⟩ := hd
    cases m with
    | none =>
      refine ⟨_, w, ?_, Same.refl w, hd⟩
      simp [Instr.next, run_getObj ho (by simp)]
    | some m =>
      obtain ⟨es, clock, he, hc, h1, h2⟩ := hd
      have hcc : (!seen.isEmpty && !es.isEmpty && es.all (fun e => decide (e.born ≥ last))) = false := hc
      let left := es.filter fun e => !seen.contains e.born
      let cand := (if (left.filter (fun e => decide (e.born < since))).isEmpty then #[none] else #[]) ++ (left.filter (fun e => decide (e.born < since)) ++ left.filter (fun e => decide (e.born ≥ since))).map some
      have hcand : 0 < cand.size := by
        simp only [cand]
        by_cases hz : (left.filter (fun e => decide (e.born < since))).isEmpty = true
        · simp [hz]; omega
        · have : left.filter (fun e => decide (e.born < since)) ≠ #[] := by simpa using hz
          have := Array.size_pos_iff.2 this
          simp only [Array.size_append, Array.size_map]
          omega
      obtain ⟨i, w', hr, hi, hh, hs⟩ := run_choose_some (P := P) cand.size hcand w
      have hci : cand[i]? = some cand[i] := Array.getElem?_eq_getElem hi
      have run0 : (Instr.next (.pointer (some ⟨b, 0, sp⟩)) false t).run P w = (match cand[i]? with
          | some (some e) => do setObj b (.mapIter (some m) since (seen.push e.born) clock); pure (.tuple #[.bool true, e.key, e.val])
          | some none => pure (.tuple #[.bool false])
          | none => stuck "Next: no such candidate" : Sem Value).run P w' := by
        simp only [Instr.next, Sem.run_bind, run_getObj ho (by simp), Result.andThen_ok, run_getObj he (by simp), hcc, Bool.false_eq_true, if_false]
        show ((choose (.mapNext cand.size)).run P w).andThen _ = _
        rw [hr]
        rfl
      rw [hci] at run0
      cases hx : cand[i] with
      | none =>
        rw [hx] at run0
        refine ⟨_, w', run0.trans rfl, hs, ?_⟩
        rw [hh]
        refine h1 fun e hem hse => ?_
        have hmem : none ∈ cand := hx ▸ Array.getElem_mem hi
        simp only [cand, Array.mem_append, Array.mem_map, reduceCtorEq, and_false, exists_false, or_false] at hmem
        split at hmem
        · rename_i hz
          have hz' : left.filter (fun e => decide (e.born < since)) = #[] := by simpa using hz
          by_cases hlt : e.born < since
          · have : e ∈ left.filter (fun e => decide (e.born < since)) := by simp [left, hem, hlt]; simpa using hse
            rw [hz'] at this
            simp at this
          · omega
        · simp at hmem
      | some e =>
        rw [hx] at run0
        have hmem : some e ∈ cand := hx ▸ Array.getElem_mem hi
        have hel : e ∈ left := by
          simp only [cand, Array.mem_append, Array.mem_map, Option.some.injEq, exists_eq_right] at hmem
          rcases hmem with hmem | hmem
          · split at hmem <;> simp at hmem
          · rcases hmem with hmem | hmem <;> exact (Array.mem_filter.1 hmem).1
        have hel' := Array.mem_filter.1 hel
        have hq := h2 e hel'.1 (by simpa using hel'.2)
        have ho' : w'.heap[b]? = some (.mapIter (some m) since seen last) := by rw [hh]; exact ho
        refine ⟨.tuple #[.bool true, e.key, e.val], { w' with heap := w'.heap.setIfInBounds b (.mapIter (some m) since (seen.push e.born) clock) }, run0.trans ?_, ⟨hs.os, hs.tape, hs.output⟩, ?_⟩
        · simp only [Sem.run_bind, run_setObj ho' (by simp), Result.andThen_ok]
          rfl
        · simpa [hh, HM.opt] using hq
theorem denEntry_sound {ka kb : Kind} {x : Value} (hd : denEntry ka kb x k h Q) : ∃ v, (∀ w, w.heap = h → (Instr.entry x).run P w = .ok v w) ∧ k v h Q := by
  unfold denEntry at hd
  cases x <;> try exact hd.elim
  rename_i a
  cases a with
  | none => exact hd.elim
  | some a =>
  obtain ⟨b, off, sp⟩ := a
  simp only at hd
  cases off with
  | succ n => exact hd.elim
  | zero =>
  simp only [show Nat.beq 0 0 = true from rfl] at hd
  obtain ⟨m, since, seen, stepped, es, stamp, e, kx, vx, ho, hb, he, hf, e1, e2, hq⟩ := hd
  refine ⟨_, fun w hw => ?_, hq⟩
  subst hw
  have hne : (stepped != stepped) = false := by simp
  simp [Instr.entry, run_getObj ho (by simp), run_getObj he (by simp), hb, hf, e1, e2]
theorem denMapEntry_sound {t : TypeId} {x key : Value} (hd : denMapEntry P t x key k h Q) :
    ∀ w, w.heap = h → ∃ v w', (Instr.mapEntry t x key).run P w = .ok v w' ∧ Same w w' ∧ k v w'.heap Q := by
  unfold denMapEntry at hd
  cases ht : P.underlying t with
  | none => simp only [ht] at hd; exact hd.elim
  | some d =>
  cases d with
  | map kt et =>
    simp only [ht] at hd
    cases hkt : P.underlying kt with
    | none => simp only [hkt] at hd; exact hd.elim
    | some kd =>
    simp only [hkt] at hd
    have hd0 := keyReq_sound hd
    clear hd
    obtain ⟨hp, hd⟩ := hd0
    cases x <;> try exact hd.elim
    rename_i r
    simp only at hd
    cases hi : P.info? et with
    | none => simp only [hi] at hd; exact hd.elim
    | some i =>
    simp only [hi] at hd
    cases hz : i.zero with
    | none => simp only [hz] at hd; exact hd.elim
    | some z =>
    simp only [hz] at hd
    cases hek : Kind.of z with
    | none => simp only [hek] at hd; exact hd.elim
    | some ek =>
    simp only [hek] at hd
    obtain ⟨b, es, clock, o, rfl, he, hf, hq⟩ := hd
    intro w hw
    subst hw
    cases o with
    | none =>
      obtain ⟨x, hx, hq⟩ := hq
      refine ⟨.tuple #[ek.val x, .int .i64 clock], { w with heap := w.heap.setIfInBounds b (.map (es.push { key := key, val := z, born := clock }) (clock + 1)) }, ?_, ⟨rfl, rfl, rfl⟩, hq⟩
      simp [Instr.mapEntry, run_und ht, run_getObj he (by simp), run_checkKey hkt hp, run_findKey hkt hp hf, run_setObj he (by simp), run_zero hi hz, goInt, ← hx]
    | some ov =>
      obtain ⟨j, vv⟩ := ov
      obtain ⟨hkey, hsb, x, hx, hq⟩ := hq
      refine ⟨.tuple #[ek.val x, .int .i64 ((((es[j]?).map (·.born)).getD 0 : Nat) : Int)], { w with heap := w.heap.setIfInBounds b (.map (es.modify j fun e => { e with key := key }) clock) }, ?_, ⟨rfl, rfl, rfl⟩, hq⟩
      have hks : (Instr.keyThatStays (((es[j]?).map (·.key)).getD key) key).run P w = .ok key w := by
        rw [hkey]
        unfold Instr.keyThatStays
        rw [if_pos hsb]
        rfl
      simp [Instr.mapEntry, run_und ht, run_getObj he (by simp), run_checkKey hkt hp, run_findKey hkt hp hf, run_setObj he (by simp), hks, goInt, ← hx]
      cases es[j]? <;> simp
  | _ => simp only [ht] at hd; exact hd.elim
theorem denEntryStore_sound {t : TypeId} {x stamp v : Value} (hd : denEntryStore x stamp v k h Q) :
    ∀ w, w.heap = h → ∃ w', (Instr.entryStore t x stamp v).run P w = .ok () w' ∧ Same w w' ∧ k undef w'.heap Q := by
  unfold denEntryStore at hd
  cases x <;> try exact hd.elim
  simp only at hd
  cases stamp <;> try exact hd.elim
  rename_i r kd n
  obtain ⟨b, es, clock, i, rfl, he, hf, hq⟩ := hd
  intro w hw
  subst hw
  refine ⟨{ w with heap := w.heap.setIfInBounds b (.map (es.modify i fun e => { e with val := v }) clock) }, ?_, ⟨rfl, rfl, rfl⟩, hq⟩
  simp [Instr.entryStore, run_getObj he (by simp), asInt, asIntOf, hf, run_setObj he (by simp)]
end
end Go.H
namespace Go.H
set_option linter.unusedSimpArgs false
set_option linter.unusedVariables false
section
variable {P : Program} {ρ : Type} {k : Value → HM ρ} {h : Heap} {Q : ρ → Heap → Prop}
theorem memN_sound : ∀ {l : List Nat} {n : Nat}, memN n l = true → n ∈ l
  | [], _, h => by cases h
  | t :: ts, n, h => by
    simp only [memN] at h
    cases hb : Nat.beq t n with
    | true => rw [Nat.eq_of_beq_eq_true hb]; exact List.mem_cons_self ..
    | false => rw [hb] at h; exact List.mem_cons_of_mem _ (memN_sound h)
theorem run_call {c : Call} {ev : Operand → Value} {o : Oper} {f : FuncId} {first captured : Array Value} {x : Operand} (ho : o.op = .call c) (hc : c.callee = .value x)
    (hx : ev x = .func (.func f) first captured) (hf : CallOK P f) (w : World) : (execOp ev o).run P w = .ok (.enter f (first ++ c.args.map ev ++ captured)) w := by
  have := hf (first ++ c.args.map ev ++ captured) w
  rw [Array.append_assoc] at this ⊢
  simp [execOp, ho, resolve, hc, hx, Deferred.ofValue, invoke, this]
theorem run_builtin {c : Call} {ev : Operand → Value} {o : Oper} {b : Builtin} (ho : o.op = .call c) (hc : c.callee = .builtin b) (w : World) :
    (execOp ev o).run P w = (builtin b c.argTypes o.type (c.args.map fun | .const _ => true | _ => false) (c.args.map ev)).run P w := by
  simp only [execOp, ho, Sem.run_bind]
  simp only [resolve, hc, Sem.run_pure, Result.andThen_ok, invoke]
  rfl
theorem denCall_sound {C : List Nat} {c : Call} {ev : Operand → Value} {o : Oper} {f : FuncId} {vs : List Value} (hC : ∀ f, f ∈ C → CallOK P f) (ho : o.op = .call c) (hc : c.callee = .value (.func f))
    (hev : ev (.func f) = .func (.func f) #[] #[]) (hvs : c.args.map ev = vs.toArray) (hd : denCall P C o.type (.func (.func f) #[] #[]) vs k h Q) : Does P (execOp ev o) h fun v h' => k v h' Q := by
  intro w hw
  subst hw
  simp only [denCall] at hd
  cases hm : memN f C with
  | false => simp only [hm] at hd; exact hd.elim
  | true =>
  simp only [hm] at hd
  rw [run_call ho hc hev (hC f (memN_sound hm)) w, hvs]
  refine ⟨Same.refl w, ?_⟩
  have e1 : (#[] ++ vs.toArray ++ #[] : Array Value) = ((#[] : Array Value).toList ++ (vs ++ (#[] : Array Value).toList)).toArray := by simp
  rw [e1]
  cases hr : retOf P o.type with
  | none => simp only [hr] at hd; exact hd.elim
  | some r =>
    cases r with
    | one kd =>
      simp only [hr] at hd
      exact HCalls.mono (Q := fun v h' => ∃ x, v = kd.val x ∧ k (kd.val x) h' Q) hd fun v h' ⟨x, hx, hq⟩ => by subst hx; exact hq
    | many ks =>
      simp only [hr] at hd
      exact HCalls.mono (Q := fun v h' => ∃ x, v = .tuple (KTup.vals ks x).toArray ∧ k (.tuple (KTup.vals ks x).toArray) h' Q) hd fun v h' ⟨x, hx, hq⟩ => by subst hx; exact hq
theorem denCallV_sound {c : Call} {ev : Operand → Value} {o : Oper} {x : Operand} {vs : List Value} (ho : o.op = .call c) (hc : c.callee = .value x)
    (hvs : c.args.map ev = vs.toArray) (hd : denCallV P o.type (ev x) vs k h Q) : Does P (execOp ev o) h fun v h' => k v h' Q := by
  intro w hw
  subst hw
  unfold denCallV at hd
  cases hr : retOf P o.type with
  | none => simp only [hr] at hd; exact hd.elim
  | some r =>
    cases r with
    | one kd =>
      simp only [hr] at hd
      obtain ⟨f, first, captured, hx, hf, hd⟩ := hd
      rw [run_call ho hc hx hf w, hvs]
      exact ⟨Same.refl w, HCalls.mono hd fun v h' ⟨x, hx, hq⟩ => by subst hx; exact hq⟩
    | many ks =>
      simp only [hr] at hd
      obtain ⟨f, first, captured, hx, hf, hd⟩ := hd
      rw [run_call ho hc hx hf w, hvs]
      exact ⟨Same.refl w, HCalls.mono hd fun v h' ⟨x, hx, hq⟩ => by subst hx; exact hq⟩
theorem denPick_sound {DF : List Deferred} {n : Nat} {e : Env} {d : Dec} {a : Act} (hA : AgreeD DF n e a) (hD : DecOK d a) {o : Oper} {c x y : Operand} (ho : o.op = .pick c x y) (hd : denPick e d c x y k h Q) :
    ∃ v, Stat P (execOp a.eval o) v ∧ k v h Q := by
  unfold denPick at hd
  cases c with
  | tmp t =>
    simp only at hd
    have hrun : ∀ b w, a.eval (.tmp t) = .bool b → (execOp a.eval o).run P w = .ok (.value (if b = true then a.eval x else a.eval y)) w := by
      intro b w hb
      simp [execOp, ho, hb, asBool]
    cases hg : d.get t with
    | some b =>
      have hb : a.eval (.tmp t) = .bool b := by
        have := hD t b hg
        simp [Act.eval, this]
      cases b with
      | true =>
        simp only [hg] at hd
        cases hx : e.ev x with
        | none => simp only [hx] at hd; exact hd.elim
        | some v =>
          simp only [hx] at hd
          exact ⟨v, fun w => by rw [hrun true w hb, hA.ev hx]; rfl, hd⟩
      | false =>
        simp only [hg] at hd
        cases hx : e.ev y with
        | none => simp only [hx] at hd; exact hd.elim
        | some v =>
          simp only [hx] at hd
          exact ⟨v, fun w => by rw [hrun false w hb, hA.ev hx]; rfl, hd⟩
    | none =>
      simp only [hg] at hd
      cases hu : e.ev (.tmp t) with
      | none => simp only [hu] at hd; exact hd.elim
      | some u =>
      simp only [hu] at hd
      cases u <;> try exact hd.elim
      rename_i u
      cases hv : e.ev x with
      | none => simp only [hv] at hd; exact hd.elim
      | some v =>
      simp only [hv] at hd
      cases v <;> try exact hd.elim
      rename_i v
      cases hz : e.ev y with
      | none => simp only [hz] at hd; exact hd.elim
      | some z =>
      simp only [hz] at hd
      cases z <;> try exact hd.elim
      rename_i z
      exact ⟨_, fun w => by rw [hrun u w (hA.ev hu), hA.ev hv, hA.ev hz]; cases u <;> rfl, hd⟩
  | _ => exact hd.elim
theorem denClear_sound {ts : Array TypeId} {ty : TypeId} {vs : Array Value} (hd : denClear P ts.toList vs.toList k h Q) :
    ∀ w, w.heap = h → ∃ r w', (Builtin.clear_ ts ty vs).run P w = .ok r w' ∧ Same w w' ∧ k r w'.heap Q := by
  obtain ⟨ts⟩ := ts
  obtain ⟨vs⟩ := vs
  simp only at hd
  unfold denClear at hd
  match ts, vs, hd with
  | [t], [x], hd =>
    simp only at hd
    cases ht : P.underlying t with
    | none => simp only [ht] at hd; exact hd.elim
    | some d =>
    cases d with
    | slice elem =>
      simp only [ht] at hd
      cases x <;> try exact hd.elim
      rename_i a n c
      simp only at hd
      cases hi : P.info? elem with
      | none => simp only [hi] at hd; exact hd.elim
      | some i =>
      simp only [hi] at hd
      cases hz : i.zero with
      | none => simp only [hz] at hd; exact hd.elim
      | some z =>
      simp only [hz] at hd
      intro w hw
      subst hw
      cases a with
      | none =>
        exact ⟨_, w, by simp [Builtin.clear_, run_und ht], Same.refl w, hd⟩
      | some a =>
        have hd' : (if n = 0 then (fun (_ : Unit) (h : Heap) => k (.tuple #[]) h Q) () w.heap else _) := hd
        by_cases hn : n = 0
        · subst hn
          rw [if_pos rfl] at hd'
          exact ⟨_, w, by simp [Builtin.clear_, run_und ht], Same.refl w, hd'⟩
        · rw [if_neg hn] at hd'
          obtain ⟨h1, h2⟩ := hd'
          obtain ⟨w', hr, hs, hh⟩ := run_storeCells (P := P) a (Builtin.zeroCells z.cells n).toList 0 w (fun j v hj => by rw [Nat.zero_add]; exact h1 j v hj)
          refine ⟨.tuple #[], w', ?_, hs, by rw [hh]; exact h2⟩
          cases n with
          | zero => exact absurd rfl hn
          | succ n => simp [Builtin.clear_, run_und ht, run_zero hi hz, hr]
    | map kt et =>
      simp only [ht] at hd
      cases x <;> try exact hd.elim
      rename_i r
      intro w hw
      subst hw
      cases r with
      | none => exact ⟨_, w, by simp [Builtin.clear_, run_und ht], Same.refl w, hd⟩
      | some b =>
        obtain ⟨es, clock, he, hq⟩ := hd
        refine ⟨_, { w with heap := w.heap.setIfInBounds b (.map #[] clock) }, ?_, ⟨rfl, rfl, rfl⟩, hq⟩
        simp [Builtin.clear_, run_und ht, run_getObj he (by simp), run_setObj he (by simp)]
    | _ => simp only [ht] at hd; exact hd.elim
  | [], _, hd => exact hd.elim
  | [_], [], hd => exact hd.elim
  | _ :: _ :: _, [], hd => exact hd.elim
  | [_], _ :: _ :: _, hd => exact hd.elim
  | _ :: _ :: _, [_], hd => exact hd.elim
  | _ :: _ :: _, _ :: _ :: _, hd => exact hd.elim
theorem OpLex.eff {c : Cls} {s : Sem Next} {Φ : Value → Heap → Prop} (hc : c = .eff) (hd : Does P s h Φ) : OpLex P c s h Φ := by subst hc; exact hd
theorem OpLex.stat {c : Cls} {s : Sem Next} {Φ : Value → Heap → Prop} (hc : c = .stat) (hd : ∃ v, Stat P s v ∧ Φ v h) : OpLex P c s h Φ := by subst hc; exact hd
theorem OpLex.read {c : Cls} {s : Sem Next} {Φ : Value → Heap → Prop} (hc : c = .read) (hd : ∃ v, ReadsAt P s h v ∧ Φ v h) : OpLex P c s h Φ := by subst hc; exact hd
theorem denBuiltin_lex {n : Nat} {e : Env} {a : Act} {o : Oper} {c : Call} {b : Builtin} {vs : List Value} (ho : o.op = .call c) (hc : c.callee = .builtin b)
    (hvs : c.args.map a.eval = vs.toArray) (hd : denBuiltin P b c.argTypes.toList vs k h Q) : OpLex P (clsOf P o.op) (execOp a.eval o) h fun v h' => k v h' Q := by
  have hvs' : (c.args.map a.eval).toList = vs := by rw [hvs]
  rw [← hvs'] at hd
  unfold denBuiltin at hd
  cases b <;> try exact hd.elim
  case len =>
    refine OpLex.read (by simp [clsOf, ho, hc]) ?_
    obtain ⟨v, hv, hq⟩ := denLen_sound (ty := o.type) hd
    exact ⟨v, fun w hw => by rw [run_builtin ho hc]; simp [builtin, hv w hw], hq⟩
  all_goals refine OpLex.eff (by simp [clsOf, ho, hc]) ?_
  all_goals intro w hw
  case append =>
    obtain ⟨r, w', hr, hs, hq⟩ := denAppend_sound (ty := o.type) hd w hw
    rw [run_builtin ho hc]
    have : (builtin .append c.argTypes o.type (c.args.map fun | .const _ => true | _ => false) (c.args.map a.eval)).run P w = .ok (.value r) w' := by simp [builtin, hr]
    rw [this]; exact ⟨hs, hq⟩
  case delete =>
    obtain ⟨r, w', hr, hs, hq⟩ := denDelete_sound (ty := o.type) hd w hw
    rw [run_builtin ho hc]
    have : (builtin .delete c.argTypes o.type (c.args.map fun | .const _ => true | _ => false) (c.args.map a.eval)).run P w = .ok (.value r) w' := by simp [builtin, hr]
    rw [this]; exact ⟨hs, hq⟩
  case clear =>
    obtain ⟨r, w', hr, hs, hq⟩ := denClear_sound (ty := o.type) hd w hw
    rw [run_builtin ho hc]
    have : (builtin .clear c.argTypes o.type (c.args.map fun | .const _ => true | _ => false) (c.args.map a.eval)).run P w = .ok (.value r) w' := by simp [builtin, hr]
    rw [this]; exact ⟨hs, hq⟩
  case max =>
    obtain ⟨v, hv, hq⟩ := denMinMax_sound (P := P) (ts := c.argTypes) (ty := o.type) hd
    rw [run_builtin ho hc]
    have : (builtin .max c.argTypes o.type (c.args.map fun | .const _ => true | _ => false) (c.args.map a.eval)).run P w = .ok (.value v) w := by
      have := hv w; simp at this; simp [builtin, this]
    rw [this]; exact ⟨Same.refl w, by rw [hw]; exact hq⟩
  case min =>
    obtain ⟨v, hv, hq⟩ := denMinMax_sound (P := P) (ts := c.argTypes) (ty := o.type) hd
    rw [run_builtin ho hc]
    have : (builtin .min c.argTypes o.type (c.args.map fun | .const _ => true | _ => false) (c.args.map a.eval)).run P w = .ok (.value v) w := by
      have := hv w; simp at this; simp [builtin, this]
    rw [this]; exact ⟨Same.refl w, by rw [hw]; exact hq⟩
theorem denOp_lex {DF : List Deferred} {C : List Nat} (hC : ∀ f, f ∈ C → CallOK P f) {n : Nat} {e : Env} {d : Dec} {a : Act} (hA : AgreeD DF n e a) (hD : DecOK d a) {o : Oper} (hd : denOp P C e d o k h Q) :
    OpLex P (clsOf P o.op) (execOp a.eval o) h fun v h' => k v h' Q := by
  unfold denOp at hd
  cases ho : o.op <;> simp only [ho] at hd <;> try exact hd.elim
  case move x =>
    cases hx : e.ev x with
    | none => simp only [hx] at hd; exact hd.elim
    | some v =>
      simp only [hx] at hd
      exact OpLex.stat rfl ⟨v, fun w => by simp [execOp, ho, hA.ev hx], hd⟩
  case assign x =>
    cases hx : e.ev x with
    | none => simp only [hx] at hd; exact hd.elim
    | some v =>
      simp only [hx] at hd
      exact OpLex.stat rfl ⟨v, fun w => by simp [execOp, ho, hA.ev hx], hd⟩
  case pick c x y => exact OpLex.stat rfl (denPick_sound hA hD ho hd)
  case alloc t =>
    have := Does.of_v (Φ := fun v h' => k v h' Q) (denAlloc_sound hd)
    exact OpLex.eff rfl (by simpa [execOp, ho] using this)
  case box t x =>
    cases hx : e.ev x with
    | none => simp only [hx] at hd; exact hd.elim
    | some v =>
      simp only [hx] at hd
      have := Does.of_v (Φ := fun v h' => k v h' Q) (denBox_sound hd)
      exact OpLex.eff rfl (by simpa [execOp, ho, hA.ev hx] using this)
  case build t ps =>
    cases hx : evParts e ps.toList with
    | none => simp only [hx] at hd; exact hd.elim
    | some vs =>
      simp only [hx] at hd
      have hp := hA.parts hx
      have hp' : ps.map (fun (i, x) => (i, a.eval x)) = vs.toArray := by apply Array.toList_inj.1; simpa using hp
      obtain ⟨v, hv, hq⟩ := denBuild_sound (ps := vs.toArray) (by simpa using hd)
      refine OpLex.stat rfl ⟨v, ?_, hq⟩
      have := Stat.of hv
      simpa [execOp, ho, hp'] using this
  case buildSlice t m ps =>
    cases hx : evParts e ps.toList with
    | none => simp only [hx] at hd; exact hd.elim
    | some vs =>
      simp only [hx] at hd
      have hp := hA.parts hx
      have hp' : ps.map (fun (i, x) => (i, a.eval x)) = vs.toArray := by apply Array.toList_inj.1; simpa using hp
      have := Does.of_v (Φ := fun v h' => k v h' Q) (denBuildSlice_sound (ps := vs.toArray) (by simpa using hd))
      exact OpLex.eff rfl (by simpa [execOp, ho, hp'] using this)
  case load t x =>
    cases hx : e.ev x with
    | none => simp only [hx] at hd; exact hd.elim
    | some v =>
      simp only [hx] at hd
      obtain ⟨u, hu, hq⟩ := denLoad_sound hd
      refine OpLex.read rfl ⟨u, ?_, hq⟩
      have := ReadsAt.of hu
      simpa [execOp, ho, hA.ev hx] using this
  case store t x y =>
    cases hx : e.ev x with
    | none => simp only [hx] at hd; exact hd.elim
    | some v =>
    simp only [hx] at hd
    cases hy : e.ev y with
    | none => simp only [hy] at hd; exact hd.elim
    | some u =>
      simp only [hy] at hd
      have := Does.of_u (Φ := fun v h' => k v h' Q) (denStore_sound hd)
      exact OpLex.eff rfl (by simpa [execOp, ho, hA.ev hx, hA.ev hy] using this)
  case nilCheck x =>
    cases hx : e.ev x with
    | none => simp only [hx] at hd; exact hd.elim
    | some v =>
      simp only [hx] at hd
      rw [← hA.ev hx] at hd
      exact OpLex.stat rfl (denNilCheck_sound ho hd)
  case binOp op t x y t2 =>
    cases hx : e.ev x with
    | none => simp only [hx] at hd; exact hd.elim
    | some v =>
    simp only [hx] at hd
    cases hy : e.ev y with
    | none => simp only [hy] at hd; exact hd.elim
    | some u =>
      simp only [hy] at hd
      obtain ⟨r, hr, hq⟩ := denBin_sound (xo := x) (fun c hc => by subst hc; simp only [Env.ev, Option.some.injEq] at hy; exact hy.symm) hd
      refine OpLex.stat rfl ⟨r, ?_, hq⟩
      have := Stat.of hr
      simpa [execOp, ho, hA.ev hx, hA.ev hy] using this
  case unOp op t x =>
    cases hx : e.ev x with
    | none => simp only [hx] at hd; exact hd.elim
    | some v =>
      simp only [hx] at hd
      obtain ⟨r, hr, hq⟩ := denUn_sound (P := P) hd
      refine OpLex.stat rfl ⟨r, ?_, hq⟩
      have := Stat.of hr
      simpa [execOp, ho, hA.ev hx] using this
  case convert s t x =>
    cases hx : e.ev x with
    | none => simp only [hx] at hd; exact hd.elim
    | some v =>
      simp only [hx] at hd
      obtain ⟨r, hr, hq⟩ := denConvert_sound hd
      simp only [clsOf]
      split
      · rename_i kd hk
        refine ⟨r, ?_, hq⟩
        have := Stat.of (fun w => hr w (.inr ⟨kd, hk⟩))
        simpa [execOp, ho, hA.ev hx] using this
      · refine Does.of_read (v := r) ?_ hq
        have := ReadsAt.of (fun w hw => hr w (.inl hw))
        simpa [execOp, ho, hA.ev hx] using this
  case mapEntry t x y =>
    cases hx : e.ev x with
    | none => simp only [hx] at hd; exact hd.elim
    | some v =>
    simp only [hx] at hd
    cases hy : e.ev y with
    | none => simp only [hy] at hd; exact hd.elim
    | some u =>
      simp only [hy] at hd
      have := Does.of_v (Φ := fun v h' => k v h' Q) (denMapEntry_sound hd)
      exact OpLex.eff rfl (by simpa [execOp, ho, hA.ev hx, hA.ev hy] using this)
  case entryStore t x y z =>
    cases hx : e.ev x with
    | none => simp only [hx] at hd; exact hd.elim
    | some v =>
    simp only [hx] at hd
    cases hy : e.ev y with
    | none => simp only [hy] at hd; exact hd.elim
    | some u =>
    simp only [hy] at hd
    cases hz : e.ev z with
    | none => simp only [hz] at hd; exact hd.elim
    | some u' =>
      simp only [hz] at hd
      have := Does.of_u (P := P) (Φ := fun v h' => k v h' Q) (denEntryStore_sound (P := P) (t := t) hd)
      exact OpLex.eff rfl (by simpa [execOp, ho, hA.ev hx, hA.ev hy, hA.ev hz] using this)
  case range t x =>
    cases hx : e.ev x with
    | none => simp only [hx] at hd; exact hd.elim
    | some v =>
      simp only [hx] at hd
      have := Does.of_v (Φ := fun v h' => k v h' Q) (denRange_sound hd)
      exact OpLex.eff rfl (by simpa [execOp, ho, hA.ev hx] using this)
  case next x str =>
    cases hx : e.ev x with
    | none => simp only [hx] at hd; exact hd.elim
    | some v =>
      simp only [hx] at hd
      have := Does.of_v (P := P) (Φ := fun v h' => k v h' Q) (denNext_sound (P := P) (t := o.type) hd)
      exact OpLex.eff rfl (by simpa [execOp, ho, hA.ev hx] using this)
  case makeInterface t x =>
    cases hx : e.ev x with
    | none => simp only [hx] at hd; exact hd.elim
    | some v =>
      simp only [hx] at hd
      refine OpLex.stat rfl ?_
      cases ht : P.underlying t with
      | none => simp only [ht] at hd; exact hd.elim
      | some dd =>
        simp only [ht] at hd
        cases dd <;> first
          | exact hd.elim
          | exact ⟨_, fun w => by simp [execOp, ho, hA.ev hx, Instr.makeInterface, run_und ht], hd⟩
  case makeFunc fn first captured =>
    cases hx : e.evs first.toList with
    | none => simp only [hx] at hd; exact hd.elim
    | some vs =>
    simp only [hx] at hd
    cases hy : e.evs captured.toList with
    | none => simp only [hy] at hd; exact hd.elim
    | some us =>
      simp only [hy] at hd
      refine OpLex.stat rfl ⟨_, fun w => ?_, hd⟩
      simp [execOp, ho, hA.evs_arr hx, hA.evs_arr hy, Instr.makeFunc]
  case makeMap t r =>
    cases r with
    | some r => exact hd.elim
    | none =>
      refine OpLex.eff rfl ?_
      intro w hw
      subst hw
      have : (execOp a.eval o).run P w = .ok (.value (.map (some w.heap.size))) (w.alloc (.map #[] 0)) := by simp [execOp, ho, Instr.makeMap]
      rw [this]
      exact ⟨⟨rfl, rfl, rfl⟩, hd⟩
  case makeSlice t x y =>
    cases hx : e.ev x with
    | none => simp only [hx] at hd; exact hd.elim
    | some v =>
    simp only [hx] at hd
    cases hy : e.ev y with
    | none => simp only [hy] at hd; exact hd.elim
    | some u =>
      simp only [hy] at hd
      have := Does.of_v (Φ := fun v h' => k v h' Q) (denMakeSlice_sound hd)
      exact OpLex.eff rfl (by simpa [execOp, ho, hA.ev hx, hA.ev hy] using this)
  case slice t x lo hi mx =>
    cases hx : e.ev x with
    | none => simp only [hx] at hd; exact hd.elim
    | some v =>
    simp only [hx] at hd
    cases hl : optInt e lo with
    | none => simp only [hl] at hd; exact hd.elim
    | some l =>
    simp only [hl] at hd
    cases hh : optInt e hi with
    | none => simp only [hh] at hd; exact hd.elim
    | some u =>
    simp only [hh] at hd
    cases hm : optInt e mx with
    | none => simp only [hm] at hd; exact hd.elim
    | some m =>
      simp only [hm] at hd
      obtain ⟨r, hr, hq⟩ := denSlice_sound (optInt_sound hA hl) (optInt_sound hA hh) (optInt_sound hA hm) hd
      refine OpLex.stat rfl ⟨r, ?_, hq⟩
      have := Stat.of hr
      simpa [execOp, ho, hA.ev hx] using this
  case fieldAddr t x f =>
    cases hx : e.ev x with
    | none => simp only [hx] at hd; exact hd.elim
    | some v =>
      simp only [hx] at hd
      obtain ⟨r, hr, hq⟩ := denFieldAddr_sound hd
      refine OpLex.stat rfl ⟨r, ?_, hq⟩
      have := Stat.of hr
      simpa [execOp, ho, hA.ev hx] using this
  case field t x f =>
    cases hx : e.ev x with
    | none => simp only [hx] at hd; exact hd.elim
    | some v =>
      simp only [hx] at hd
      obtain ⟨r, hr, hq⟩ := denField_sound hd
      refine OpLex.stat rfl ⟨r, ?_, hq⟩
      have := Stat.of hr
      simpa [execOp, ho, hA.ev hx] using this
  case indexAddr t x y =>
    cases hx : e.ev x with
    | none => simp only [hx] at hd; exact hd.elim
    | some v =>
    simp only [hx] at hd
    cases hy : e.ev y with
    | none => simp only [hy] at hd; exact hd.elim
    | some u =>
      simp only [hy] at hd
      obtain ⟨r, hr, hq⟩ := denIndexAddr_sound hd
      refine OpLex.stat rfl ⟨r, ?_, hq⟩
      have := Stat.of hr
      simpa [execOp, ho, hA.ev hx, hA.ev hy] using this
  case index t x y =>
    cases hx : e.ev x with
    | none => simp only [hx] at hd; exact hd.elim
    | some v =>
    simp only [hx] at hd
    cases hy : e.ev y with
    | none => simp only [hy] at hd; exact hd.elim
    | some u =>
      simp only [hy] at hd
      obtain ⟨r, hr, hq⟩ := denIndex_sound hd
      refine OpLex.stat rfl ⟨r, ?_, hq⟩
      have := Stat.of hr
      simpa [execOp, ho, hA.ev hx, hA.ev hy] using this
  case lookup t x y ok =>
    cases hx : e.ev x with
    | none => simp only [hx] at hd; exact hd.elim
    | some v =>
    simp only [hx] at hd
    cases hy : e.ev y with
    | none => simp only [hy] at hd; exact hd.elim
    | some u =>
      simp only [hy] at hd
      obtain ⟨r, hr, hq⟩ := denLookup_sound hd
      refine OpLex.read rfl ⟨r, ?_, hq⟩
      have := ReadsAt.of hr
      simpa [execOp, ho, hA.ev hx, hA.ev hy] using this
  case mapUpdate t x y z =>
    cases hx : e.ev x with
    | none => simp only [hx] at hd; exact hd.elim
    | some v =>
    simp only [hx] at hd
    cases hy : e.ev y with
    | none => simp only [hy] at hd; exact hd.elim
    | some u =>
    simp only [hy] at hd
    cases hz : e.ev z with
    | none => simp only [hz] at hd; exact hd.elim
    | some u' =>
      simp only [hz] at hd
      have := Does.of_u (Φ := fun v h' => k v h' Q) (denMapSet_sound hd)
      exact OpLex.eff rfl (by simpa [execOp, ho, hA.ev hx, hA.ev hy, hA.ev hz] using this)
  case insert t x y z =>
    cases hx : e.ev x with
    | none => simp only [hx] at hd; exact hd.elim
    | some v =>
    simp only [hx] at hd
    cases hy : e.ev y with
    | none => simp only [hy] at hd; exact hd.elim
    | some u =>
    simp only [hy] at hd
    cases hz : e.ev z with
    | none => simp only [hz] at hd; exact hd.elim
    | some u' =>
      simp only [hz] at hd
      have := Does.of_u (Φ := fun v h' => k v h' Q) (denMapSet_sound hd)
      exact OpLex.eff rfl (by simpa [execOp, ho, hA.ev hx, hA.ev hy, hA.ev hz] using this)
  case extract x i =>
    cases hx : e.ev x with
    | none => simp only [hx] at hd; exact hd.elim
    | some v =>
      cases v <;> simp only [hx] at hd <;> try exact hd.elim
      rename_i vs
      cases hi : vs.toList[i]? with
      | none => simp only [hi] at hd; exact hd.elim
      | some u =>
        simp only [hi] at hd
        refine OpLex.stat rfl ⟨u, fun w => ?_, hd⟩
        have hi' : vs[i]? = some u := by simpa using hi
        simp [execOp, ho, hA.ev hx, Instr.extract, hi']
  case call c =>
    cases hx : e.evs c.args.toList with
    | none => simp only [hx] at hd; exact hd.elim
    | some vs =>
      simp only [hx] at hd
      have hvs := hA.evs_arr hx
      cases hc : c.callee with
      | builtin b =>
        simp only [hc] at hd
        have := denBuiltin_lex (n := n) (e := e) ho hc hvs hd
        rwa [ho] at this
      | invoke x m => simp only [hc] at hd; exact hd.elim
      | value x =>
        refine OpLex.eff (by simp [clsOf, hc]) ?_
        cases x with
        | func f =>
          simp only [hc] at hd
          exact denCall_sound hC ho hc rfl hvs hd
        | tmp t =>
          simp only [hc] at hd
          cases hv : e.ev (.tmp t) with
          | none => simp only [hv] at hd; exact hd.elim
          | some v =>
            simp only [hv] at hd
            rw [← hA.ev hv] at hd
            exact denCallV_sound ho hc hvs hd
        | const v =>
          simp only [hc] at hd
          exact denCallV_sound (x := .const v) ho hc hvs hd
        | global g =>
          simp only [hc] at hd
          exact denCallV_sound (x := .global g) ho hc hvs hd
theorem denOpE_lex {DF : List Deferred} {C : List Nat} (hC : ∀ f, f ∈ C → CallOK P f) {n : Nat} {e : Env} {d : Dec} {a : Act} (hA : AgreeD DF n e a) (hD : DecOK d a) {ops : Array Oper} {o : Oper} (hd : denOpE P C ops e d o k h Q) :
    OpLex P (clsOf P o.op) (execOp a.eval o) h fun v h' => k v h' Q := by
  have key : (∃ x, o.op = .entry x) ∨ denOpE P C ops e d o k = denOp P C e d o k := by
    unfold denOpE
    cases o.op <;> first | exact .inr rfl | exact .inl ⟨_, rfl⟩
  rcases key with ⟨x, ho⟩ | key
  · unfold denOpE at hd
    simp only [ho] at hd
    cases hx : e.ev x with
    | none => simp only [hx] at hd; exact hd.elim
    | some v =>
      simp only [hx] at hd
      obtain ⟨r, hr, hq⟩ := denEntry_sound (P := P) hd
      refine OpLex.eff (by rw [ho]; rfl) (Does.of_read (v := r) ?_ hq)
      have := ReadsAt.of hr
      simpa [execOp, ho, hA.ev hx] using this
  · rw [key] at hd
    exact denOp_lex hC hA hD hd
end
end Go.H
namespace Go.H
set_option linter.unusedSimpArgs false
set_option linter.unusedVariables false
section
variable {P : Program} {ops : Array Oper} {b : Array Nat} {Φ : Act → Heap → Prop}
theorem Does.mono {s : Sem Next} {h : Heap} {Ψ Ψ' : Value → Heap → Prop} (hd : Does P s h Ψ) (hp : ∀ v h', Ψ v h' → Ψ' v h') : Does P s h Ψ' := by
  intro w hw
  have := hd w hw
  revert this
  cases s.run P w with
  | halt x w' => exact id
  | ok n w' =>
    cases n <;> first
      | exact fun hh => ⟨hh.1, hp _ _ hh.2⟩
      | exact fun hh => ⟨hh.1, HCalls.mono hh.2 hp⟩
      | exact id
def want (ops : Array Oper) (o : Oper) (a : Act) : Bool := Region.wanted o (yielded ops a.tmps)
def AgainAt (P : Program) (ops : Array Oper) (i : Nat) (v : Value) (a : Act) (h : Heap) : Prop := ∃ o, ops[i]? = some o ∧ ReadsAt P (execOp a.eval o) h v
def StepR (P : Program) (ops : Array Oper) (b : Array Nat) (draw : Bool) (K : Done → Act → Heap → Prop) (j : Nat) (dn : Done) (a : Act) (h : Heap) : Prop :=
  match ops[j]? with
    | none => False
    | some o => if want ops o a = true then
        match clsOf P o.op with
        | .stat => ∃ v, Stat P (execOp a.eval o) v ∧ K dn (a.put o.dst v) h
        | .read => ∃ v, ReadsAt P (execOp a.eval o) h v ∧ K ((j, v) :: dn) (a.put o.dst v) h
        | .eff => Does P (execOp a.eval o) h fun v h' => (draw = true → ∀ i v', (i, v') ∈ dn → (b.getD j 0).testBit i = false → AgainAt P ops i v' (a.put o.dst v) h') ∧ K dn (a.put o.dst v) h'
      else K dn (a.put o.dst undef) h
def Anti (K : Done → Act → Heap → Prop) : Prop := ∀ (dn dn' : Done) (a : Act) (h : Heap), (∀ p, p ∈ dn' → p ∈ dn) → K dn a h → K dn' a h
theorem StepR.imp {K K' : Done → Act → Heap → Prop} {draw : Bool} {j : Nat} {dn : Done} {a : Act} {h : Heap} (hi : ∀ dn a h, K dn a h → K' dn a h) (hl : StepR P ops b draw K j dn a h) : StepR P ops b draw K' j dn a h := by
  unfold StepR at hl ⊢
  cases ho : ops[j]? with
  | none => simp only [ho] at hl
  | some o =>
    simp only [ho] at hl ⊢
    by_cases hw : want ops o a = true
    · rw [if_pos hw] at hl ⊢
      cases hc : clsOf P o.op with
      | stat =>
        simp only [hc] at hl ⊢
        obtain ⟨v, hv, hr⟩ := hl
        exact ⟨v, hv, hi _ _ _ hr⟩
      | read =>
        simp only [hc] at hl ⊢
        obtain ⟨v, hv, hr⟩ := hl
        exact ⟨v, hv, hi _ _ _ hr⟩
      | eff =>
        simp only [hc] at hl ⊢
        exact hl.mono fun v h' ⟨h1, h2⟩ => ⟨h1, hi _ _ _ h2⟩
    · rw [if_neg hw] at hl ⊢
      exact hi _ _ _ hl
theorem StepR.anti {K : Done → Act → Heap → Prop} {draw : Bool} {j : Nat} (hK : Anti K) : Anti (StepR P ops b draw K j) := by
  intro dn dn' a h hs hl
  unfold StepR at hl ⊢
  cases ho : ops[j]? with
  | none => simp only [ho] at hl
  | some o =>
    simp only [ho] at hl ⊢
    by_cases hw : want ops o a = true
    · rw [if_pos hw] at hl ⊢
      cases hc : clsOf P o.op with
      | stat =>
        simp only [hc] at hl ⊢
        obtain ⟨v, hv, hr⟩ := hl
        exact ⟨v, hv, hK _ _ _ _ hs hr⟩
      | read =>
        simp only [hc] at hl ⊢
        obtain ⟨v, hv, hr⟩ := hl
        refine ⟨v, hv, hK _ _ _ _ (fun p hp => ?_) hr⟩
        cases hp with
        | head => exact List.mem_cons_self ..
        | tail _ hp => exact List.mem_cons_of_mem _ (hs p hp)
      | eff =>
        simp only [hc] at hl ⊢
        exact hl.mono fun v h' ⟨h1, h2⟩ => ⟨fun hd i v' hi => h1 hd i v' (hs _ hi), hK _ _ _ _ hs h2⟩
    · rw [if_neg hw] at hl ⊢
      exact hK _ _ _ _ hs hl
def LexT (P : Program) (ops : Array Oper) (b : Array Nat) (draw : Bool) (Φ : Act → Heap → Prop) : OTree → Done → Act → Heap → Prop
  | .done, _, a, h => Φ a h
  | .q j t, dn, a, h => StepR P ops b draw (LexT P ops b draw Φ t) j dn a h
  | .br js f, dn, a, h => ∀ j, j ∈ js → StepR P ops b draw (LexT P ops b draw Φ (f j)) j dn a h
theorem LexT.anti {draw : Bool} : ∀ (t : OTree), Anti (LexT P ops b draw Φ t)
  | .done => fun _ _ _ _ _ hl => hl
  | .q j t => StepR.anti (LexT.anti t)
  | .br js f => fun dn dn' a h hs hl j hj => StepR.anti (LexT.anti (f j)) dn dn' a h hs (hl j hj)
theorem LexT.imp {Φ' : Act → Heap → Prop} {draw : Bool} (hi : ∀ a h, Φ a h → Φ' a h) : ∀ (t : OTree) (dn : Done) (a : Act) (h : Heap), LexT P ops b draw Φ t dn a h → LexT P ops b draw Φ' t dn a h
  | .done, _, _, _, hl => hi _ _ hl
  | .q j t, dn, a, h, hl => StepR.imp (LexT.imp hi t) hl
  | .br js f, dn, a, h, hl => fun j hj => StepR.imp (LexT.imp hi (f j)) (hl j hj)
def YX (P : Program) (ops : Array Oper) (o : Oper) (a : Act) (h : Heap) (v : Value) : Prop :=
  (want ops o a = true ∧ ReadsAt P (execOp a.eval o) h v ∧ (clsOf P o.op = .stat → Stat P (execOp a.eval o) v)) ∨ (want ops o a = false ∧ v = undef)
def isRead : Cls → Bool
  | .read => true
  | _ => false
def ext (P : Program) (ops : Array Oper) (j : Nat) (o : Oper) (a : Act) (v : Value) (dn : Done) : Done :=
  match want ops o a && isRead (clsOf P o.op) with
  | true => (j, v) :: dn
  | false => dn
theorem mem_ext {j : Nat} {o : Oper} {a : Act} {v : Value} {dn : Done} {p : Nat × Value} : p ∈ ext P ops j o a v dn ↔ p ∈ dn ∨ ((want ops o a && isRead (clsOf P o.op)) = true ∧ p = (j, v)) := by
  unfold ext
  cases hh : want ops o a && isRead (clsOf P o.op) with
  | true =>
    simp only [List.mem_cons]
    constructor
    · rintro (h | h)
      · exact .inr ⟨trivial, h⟩
      · exact .inl h
    · rintro (h | ⟨-, h⟩)
      · exact .inr h
      · exact .inl h
  | false => simp
theorem StepR.quiet {K : Done → Act → Heap → Prop} {draw : Bool} {j : Nat} {o : Oper} (ho : ops[j]? = some o) (hc : clsOf P o.op ≠ .eff) {dn : Done} {a : Act} {h : Heap} :
    StepR P ops b draw K j dn a h ↔ ∃ v, YX P ops o a h v ∧ K (ext P ops j o a v dn) (a.put o.dst v) h := by
  conv => lhs; unfold StepR
  simp only [ho]
  by_cases hw : want ops o a = true
  · rw [if_pos hw]
    cases hcl : clsOf P o.op with
    | stat =>
      simp only [YX, ext, hcl, isRead, hw, Bool.and_false]
      constructor
      · rintro ⟨v, hv, hr⟩
        exact ⟨v, .inl ⟨trivial, fun w _ => hv w, fun _ => hv⟩, hr⟩
      · rintro ⟨v, hv | hv, hr⟩
        · exact ⟨v, hv.2.2 trivial, hr⟩
        · exact absurd hv.1 (by simp)
    | read =>
      simp only [YX, ext, hcl, isRead, hw, Bool.and_true]
      constructor
      · rintro ⟨v, hv, hr⟩
        exact ⟨v, .inl ⟨trivial, hv, fun hh => by cases hh⟩, hr⟩
      · rintro ⟨v, hv | hv, hr⟩
        · exact ⟨v, hv.2.1, hr⟩
        · exact absurd hv.1 (by simp)
    | eff => exact absurd hcl hc
  · rw [if_neg hw]
    have hw' : want ops o a = false := by simpa using hw
    simp only [YX, ext, hw', Bool.false_and]
    constructor
    · intro hr
      exact ⟨undef, .inr ⟨trivial, rfl⟩, hr⟩
    · rintro ⟨v, hv | hv, hr⟩
      · exact absurd hv.1 (by simp)
      · obtain ⟨-, rfl⟩ := hv; exact hr
theorem want_put {o : Oper} {a : Act} {dst : Option Tmp} {v : Value} (h : ∀ d, dst = some d → d ∉ o.looksAt ops) : want ops o (a.put dst v) = want ops o a := wanted_put o a dst v h
theorem YX.congr {o : Oper} {a a' : Act} {h : Heap} {v : Value} (he : execOp a'.eval o = execOp a.eval o) (hw : want ops o a' = want ops o a) (hy : YX P ops o a h v) : YX P ops o a' h v := by
  unfold YX at *
  rw [he, hw]
  exact hy
theorem StepR.swap {K : Done → Act → Heap → Prop} (hK : Anti K) {draw : Bool} {i j : Nat} {x y : Oper} (hdraw : draw = true) (hx : ops[i]? = some x) (hy : ops[j]? = some y) (hap : x.apart ops y = true) (hsel : ∀ cs b, x.op ≠ .select cs b) (hsel' : ∀ cs b, y.op ≠ .select cs b)
    (hcx : clsOf P x.op ≠ .eff) (hb : (b.getD j 0).testBit i = false) (hself : ∀ d, x.dst = some d → d ∉ x.looksAt ops) {dn : Done} {a : Act} {h : Heap}
    (hdn : ∀ p, p ∈ dn → ∀ o, ops[p.1]? = some o → (∀ cs b, o.op ≠ .select cs b) ∧ ∀ d, x.dst = some d → d ∉ o.looksAt ops)
    (hl : StepR P ops b draw (StepR P ops b draw K j) i dn a h) : StepR P ops b draw (StepR P ops b draw K i) j dn a h := by
  obtain ⟨h1, h2, h3⟩ := Oper.apart_spec hap
  obtain ⟨v, hv, hl⟩ := (StepR.quiet hx hcx).1 hl
  have ey : execOp (a.put x.dst v).eval y = execOp a.eval y := execOp_put y hsel' a x.dst v h1
  have wy : want ops y (a.put x.dst v) = want ops y a := want_put h1
  have kx : ∀ u, execOp (a.put y.dst u).eval x = execOp a.eval x := fun u => execOp_put x hsel a y.dst u h3
  have wx : ∀ u, want ops x (a.put y.dst u) = want ops x a := fun u => want_put h3
  have hcomm : ∀ u, (a.put x.dst v).put y.dst u = (a.put y.dst u).put x.dst v := fun u => Act.put_comm a v u h2
  by_cases hcy : clsOf P y.op = .eff
  · unfold StepR at hl ⊢
    simp only [hy] at hl ⊢
    rw [wy] at hl
    by_cases hw : want ops y a = true
    · rw [if_pos hw] at hl ⊢
      simp only [hcy] at hl ⊢
      rw [ey] at hl
      refine hl.mono fun u h' ⟨hag, hrest⟩ => ⟨fun hd p v' hp hbp => ?_, ?_⟩
      · have hp' : (p, v') ∈ ext P ops i x a v dn := by
          unfold ext; split
          · exact List.mem_cons_of_mem _ hp
          · exact hp
        obtain ⟨o, ho, hr⟩ := hag hd p v' hp' hbp
        obtain ⟨hso, hno⟩ := hdn _ hp o ho
        rw [hcomm u] at hr
        rw [execOp_put o hso (a.put y.dst u) x.dst v hno] at hr
        exact ⟨o, ho, hr⟩
      · refine (StepR.quiet hx hcx).2 ⟨v, ?_, ?_⟩
        · rcases hv with ⟨hw1, hr1, hs1⟩ | ⟨hw1, hv1⟩
          · refine .inl ⟨by rw [wx]; exact hw1, ?_, fun hs => by rw [kx]; exact hs1 hs⟩
            cases hcl : clsOf P x.op with
            | stat => rw [kx]; exact fun w _ => hs1 hcl w
            | eff => exact absurd hcl hcx
            | read =>
              have hp' : (i, v) ∈ ext P ops i x a v dn := by
                unfold ext; rw [hw1, hcl]; exact List.mem_cons_self ..
              obtain ⟨o, ho, hr⟩ := hag hdraw i v hp' hb
              rw [hx] at ho
              cases ho
              rw [hcomm u, execOp_put x hsel (a.put y.dst u) x.dst v hself] at hr
              exact hr
          · exact .inr ⟨by rw [wx]; exact hw1, hv1⟩
        · rw [← hcomm u]
          have : ext P ops i x (a.put y.dst u) v dn = ext P ops i x a v dn := by unfold ext; rw [wx]
          rw [this]
          exact hrest
    · rw [if_neg hw] at hl ⊢
      refine (StepR.quiet hx hcx).2 ⟨v, hv.congr (kx _) (wx _), ?_⟩
      rw [← hcomm]
      have : ext P ops i x (a.put y.dst undef) v dn = ext P ops i x a v dn := by unfold ext; rw [wx]
      rw [this]
      exact hl
  · obtain ⟨u, hu, hl⟩ := (StepR.quiet hy hcy).1 hl
    refine (StepR.quiet hy hcy).2 ⟨u, hu.congr ey.symm wy.symm, (StepR.quiet hx hcx).2 ⟨v, hv.congr (kx _) (wx _), ?_⟩⟩
    rw [← hcomm u]
    refine hK _ _ _ _ (fun p hp => ?_) hl
    have e1 : ext P ops i x (a.put y.dst u) v (ext P ops j y a u dn) = ext P ops i x a v (ext P ops j y a u dn) := by unfold ext; rw [wx]
    have e2 : ext P ops j y (a.put x.dst v) u (ext P ops i x a v dn) = ext P ops j y a u (ext P ops i x a v dn) := by unfold ext; rw [wy]
    rw [e1] at hp
    rw [e2]
    rw [mem_ext, mem_ext] at hp ⊢
    rcases hp with (hp | hp) | hp
    · exact .inl (.inl hp)
    · exact .inr hp
    · exact .inl (.inr hp)
def PairOK (P : Program) (ops : Array Oper) (b : Array Nat) (i j : Nat) : Prop :=
  ∃ x y, ops[i]? = some x ∧ ops[j]? = some y ∧ i ≠ j ∧ ((b.getD j 0).testBit i = true ∧ (clsOf P x.op = .read → ∀ d, y.dst = some d → d ∉ x.looksAt ops) ∨
    (b.getD j 0).testBit i = false ∧ clsOf P x.op ≠ .eff ∧ x.apart ops y = true)
theorem spares_spec {x y : Oper} (h : spares ops x y = true) : ∀ d, y.dst = some d → d ∉ x.looksAt ops := by
  intro d hd hm
  simp only [spares, hd] at h
  simp [hm] at h
theorem memN_spec : ∀ {l : List Nat} {n : Nat}, memN n l = true → n ∈ l
  | t :: l, n, h => by
    simp only [memN] at h
    cases hb : Nat.beq t n with
    | true => rw [Nat.eq_of_beq_eq_true hb]; exact List.mem_cons_self ..
    | false => simp only [hb] at h; exact List.mem_cons_of_mem _ (memN_spec h)
theorem mem_dropN {j : Nat} : ∀ {l : List Nat} {i : Nat}, i ∈ dropN j l ↔ i ∈ l ∧ i ≠ j
  | [], i => by simp [dropN]
  | x :: l, i => by
    simp only [dropN]
    cases hb : Nat.beq x j with
    | true =>
      have hx := Nat.eq_of_beq_eq_true hb
      subst hx
      simp only [mem_dropN (l := l), List.mem_cons]
      constructor
      · rintro ⟨h1, h2⟩; exact ⟨.inr h1, h2⟩
      · rintro ⟨h1 | h1, h2⟩
        · exact absurd h1 h2
        · exact ⟨h1, h2⟩
    | false =>
      have hx : x ≠ j := Nat.ne_of_beq_eq_false hb
      simp only [List.mem_cons, mem_dropN (l := l)]
      constructor
      · rintro (h1 | ⟨h1, h2⟩)
        · subst h1; exact ⟨.inl rfl, hx⟩
        · exact ⟨.inr h1, h2⟩
      · rintro ⟨h1 | h1, h2⟩
        · exact .inl h1
        · exact .inr ⟨h1, h2⟩
theorem dropN_nodup {j : Nat} : ∀ {l : List Nat}, l.Nodup → (dropN j l).Nodup
  | [], h => h
  | x :: l, h => by
    rw [List.nodup_cons] at h
    simp only [dropN]
    cases hb : Nat.beq x j with
    | true => exact dropN_nodup h.2
    | false => rw [List.nodup_cons]; exact ⟨fun hm => h.1 (mem_dropN.1 hm).1, dropN_nodup h.2⟩
theorem dropN_none {j : Nat} : ∀ {l : List Nat}, j ∉ l → dropN j l = l
  | [], _ => rfl
  | x :: l, h => by
    simp only [List.mem_cons, not_or] at h
    simp only [dropN]
    cases hb : Nat.beq x j with
    | true => exact absurd (Nat.eq_of_beq_eq_true hb).symm h.1
    | false => rw [dropN_none h.2]
theorem dropN_length {j : Nat} : ∀ {l : List Nat}, l.Nodup → j ∈ l → (dropN j l).length + 1 = l.length
  | x :: l, h, hm => by
    rw [List.nodup_cons] at h
    simp only [dropN]
    cases hb : Nat.beq x j with
    | true =>
      have hx := Nat.eq_of_beq_eq_true hb
      subst hx
      rw [dropN_none h.1]
      rfl
    | false =>
      have hx : x ≠ j := Nat.ne_of_beq_eq_false hb
      rcases List.mem_cons.1 hm with e | hm
      · exact absurd e.symm hx
      · simp only [List.length_cons, dropN_length h.2 hm]
def GoodT (P : Program) (ops : Array Oper) (b : Array Nat) : OTree → List Nat → Prop
  | .done, R => R = []
  | .q j t, R => (∃ x, ops[j]? = some x ∧ clsOf P x.op ≠ .eff ∧ ∀ d, x.dst = some d → d ∉ x.looksAt ops) ∧ j ∈ R ∧ (∀ i ∈ dropN j R, PairOK P ops b j i) ∧ GoodT P ops b t (dropN j R)
  | .br js f, R => js ≠ [] ∧ (∀ j ∈ js, j ∈ R ∧ (∃ x, ops[j]? = some x ∧ clsOf P x.op = .eff) ∧ GoodT P ops b (f j) (dropN j R)) ∧ ∀ i ∈ R, i ∈ js ∨ ∃ x ∈ R, (b.getD i 0).testBit x = true
theorem isEffAt_spec {j : Nat} {x : Oper} (hx : ops[j]? = some x) : isEffAt P ops j = true ↔ clsOf P x.op = .eff := by
  have hx' : ops.toList[j]? = some x := by simpa using hx
  unfold isEffAt
  simp only [hx']
  cases clsOf P x.op <;> simp
theorem goodT_spec : ∀ (t : OTree) (R : List Nat), goodT P ops b t R = true → GoodT P ops b t R
  | .done, R, h => by simpa [goodT, GoodT] using h
  | .q j t, R, h => by
    simp only [goodT, Bool.and_eq_true] at h
    obtain ⟨h1, h2⟩ := h
    cases hx : ops.toList[j]? with
    | none => simp only [hx] at h1; cases h1
    | some x =>
      have hx' : ops[j]? = some x := by simpa using hx
      simp only [hx, Bool.and_eq_true] at h1
      obtain ⟨⟨⟨h3, h4⟩, h5⟩, h6⟩ := h1
      refine ⟨⟨x, hx', fun hc => ?_, spares_spec h5⟩, memN_spec h3, fun i hi => ?_, goodT_spec t _ h2⟩
      · rw [(isEffAt_spec hx').2 hc] at h4; cases h4
      · have h7 := List.all_eq_true.1 h6 i hi
        cases hy : ops.toList[i]? with
        | none => simp only [hy] at h7; cases h7
        | some y =>
          simp only [hy] at h7
          refine ⟨x, y, hx', by simpa using hy, fun he => (mem_dropN.1 hi).2 he.symm, ?_⟩
          unfold pairOK at h7
          cases hb : (b.getD i 0).testBit j with
          | true =>
            simp only [hb] at h7
            refine .inl ⟨rfl, fun hr => ?_⟩
            simp only [hr] at h7
            exact spares_spec h7
          | false =>
            simp only [hb] at h7
            refine .inr ⟨rfl, ?_, ?_⟩
            · intro hr; simp only [hr] at h7; cases h7
            · cases hc : clsOf P x.op <;> simp only [hc] at h7 <;> first | exact h7 | cases h7
  | .br js f, R, h => by
    simp only [goodT, Bool.and_eq_true, List.all_eq_true] at h
    refine ⟨fun e => ?_, fun j hj => ?_, fun i hi => ?_⟩
    · have := h.1.1; rw [e] at this; cases this
    · obtain ⟨⟨h1, h2⟩, h3⟩ := h.1.2 j hj
      refine ⟨memN_spec h1, ?_, goodT_spec (f j) _ h3⟩
      cases hx : ops.toList[j]? with
      | none => simp [isEffAt, hx] at h2
      | some x => exact ⟨x, by simpa using hx, (isEffAt_spec (by simpa using hx)).1 h2⟩
    · have := h.2 i hi
      rw [Bool.or_eq_true] at this
      rcases this with h1 | h1
      · exact .inl (memN_spec h1)
      · obtain ⟨x, hx, hb⟩ := List.any_eq_true.1 h1
        exact .inr ⟨x, hx, hb⟩
def DoneOK (ops : Array Oper) (dn : Done) (l : List Nat) : Prop :=
  ∀ p, p ∈ dn → ∀ o, ops[p.1]? = some o → ∀ k, k ∈ l → ∀ x, ops[k]? = some x → ∀ d, x.dst = some d → d ∉ o.looksAt ops
theorem LexT.pull (hs : Region.noSelect ops = true) {i : Nat} : ∀ (t : OTree) (R : List Nat), GoodT P ops b t R → i ∈ R → (∀ x ∈ R, (b.getD i 0).testBit x = false) →
    ∃ t' o, GoodT P ops b t' (dropN i R) ∧ ops[i]? = some o ∧ (clsOf P o.op = .read → ∀ k ∈ dropN i R, ∀ z, ops[k]? = some z → ∀ d, z.dst = some d → d ∉ o.looksAt ops) ∧
      ∀ (dn : Done) (a : Act) (h : Heap), DoneOK ops dn R → LexT P ops b true Φ t dn a h → StepR P ops b true (LexT P ops b true Φ t') i dn a h
  | .done, R, hg, hi, _ => by rw [show R = [] from hg] at hi; cases hi
  | .br js f, R, hg, hi, hm => by
    rcases hg.2.2 i hi with h1 | ⟨x, hx, hb⟩
    · obtain ⟨-, ⟨o, ho, hc⟩, hgi⟩ := hg.2.1 i h1
      exact ⟨f i, o, hgi, ho, (fun hr => by rw [hc] at hr; cases hr), fun dn a h _ hl => hl i h1⟩
    · rw [hm x hx] at hb; cases hb
  | .q j t, R, hg, hi, hm => by
    obtain ⟨⟨x, hx, hcx, hself⟩, hjR, hpairs, hgt⟩ := hg
    by_cases hij : i = j
    · subst hij
      refine ⟨t, x, hgt, hx, fun hr k hk z hz d hd => ?_, fun dn a h _ hl => hl⟩
      obtain ⟨x1, z1, hx1, hz1, -, hor⟩ := hpairs k hk
      rw [hx] at hx1; cases hx1
      rw [hz] at hz1; cases hz1
      rcases hor with ⟨-, hsp⟩ | ⟨-, -, hap⟩
      · exact hsp hr d hd
      · exact (Oper.apart_spec hap).2.2 d hd
    · have hi' : i ∈ dropN j R := mem_dropN.2 ⟨hi, hij⟩
      obtain ⟨t', o, hgt', ho, hread, hstep⟩ := LexT.pull hs t (dropN j R) hgt hi' (fun y hy => hm y (mem_dropN.1 hy).1)
      have hcomm : ∀ R : List Nat, dropN i (dropN j R) = dropN j (dropN i R) := by
        intro R
        induction R with
        | nil => rfl
        | cons y R ih =>
          simp only [dropN]
          cases h1 : Nat.beq y j <;> cases h2 : Nat.beq y i <;> simp only [dropN, h1, h2, ih]
      obtain ⟨x1, o1, hx1, ho1, hne, hor⟩ := hpairs i hi'
      rw [hx] at hx1; cases hx1
      rw [ho] at ho1; cases ho1
      have hap : x.apart ops o = true := by
        rcases hor with ⟨hb, -⟩ | ⟨-, -, hap⟩
        · rw [hm j hjR] at hb; cases hb
        · exact hap
      refine ⟨.q j t', o, ⟨⟨x, hx, hcx, hself⟩, mem_dropN.2 ⟨hjR, fun e => hij e.symm⟩, fun k hk => hpairs k ?_, ?_⟩, ho, fun hr k hk z hz d hd => ?_, fun dn a h hdn hl => ?_⟩
      · rw [← hcomm] at hk; exact (mem_dropN.1 hk).1
      · rw [← hcomm]; exact hgt'
      · by_cases hkj : k = j
        · subst hkj
          rw [hx] at hz; cases hz
          exact (Oper.apart_spec hap).1 d hd
        · exact hread hr k (by rw [hcomm]; exact mem_dropN.2 ⟨hk, hkj⟩) z hz d hd
      · refine StepR.swap (LexT.anti t') rfl hx ho hap (fun cs bb => Region.noSelect_spec hs j x cs bb hx) (fun cs bb => Region.noSelect_spec hs i o cs bb ho) hcx (hm j hjR) hself (fun p hp o' ho' => ⟨fun cs bb => Region.noSelect_spec hs p.1 o' cs bb ho', fun d hd => hdn p hp o' ho' j hjR x hx d hd⟩) ?_
        obtain ⟨v, hv, hq⟩ := (StepR.quiet hx hcx).1 hl
        refine (StepR.quiet hx hcx).2 ⟨v, hv, hstep _ _ _ ?_ hq⟩
        intro p hpm o' ho' k hk z hz d hd
        rcases mem_ext.1 hpm with hpm | ⟨hrd, rfl⟩
        · exact hdn p hpm o' ho' k (mem_dropN.1 hk).1 z hz d hd
        · rw [hx] at ho'; cases ho'
          have hrd' : clsOf P x.op = .read := by
            simp only [Bool.and_eq_true] at hrd
            cases hc : clsOf P x.op <;> simp [hc, isRead] at hrd ⊢
          obtain ⟨x1, z1, hx1, hz1, -, hor⟩ := hpairs k hk
          rw [hx] at hx1; cases hx1
          rw [hz] at hz1; cases hz1
          rcases hor with ⟨-, hsp⟩ | ⟨-, -, hap'⟩
          · exact hsp hrd' d hd
          · exact (Oper.apart_spec hap').2.2 d hd
theorem wpOp_of_step {Qx : Exit → Act → World → Prop} {K : Done → Act → Heap → Prop} {draw : Bool} {i : Nat} {dn : Done} {a : Act} {w : World} (hl : StepR P ops b draw K i dn a w.heap) :
    wpOp P ops Qx i (fun a' w' => Same w w' ∧ ∃ dn', (∀ p, p ∈ dn' → p ∈ dn ∨ ∃ o, ops[i]? = some o ∧ clsOf P o.op = .read ∧ p.1 = i) ∧ K dn' a' w'.heap) a w := by
  unfold StepR at hl
  cases ho : ops[i]? with
  | none => simp only [ho] at hl
  | some o =>
    simp only [ho] at hl
    unfold wpOp
    simp only [ho]
    by_cases hw : want ops o a = true
    · have hw' : Region.wanted o (yielded ops a.tmps) = true := hw
      rw [if_pos hw] at hl
      rw [if_pos hw']
      left
      unfold Oper.wp
      cases hc : clsOf P o.op with
      | stat =>
        simp only [hc] at hl
        obtain ⟨v, hv, hr⟩ := hl
        rw [hv w]
        exact ⟨Same.refl w, dn, fun p hp => .inl hp, hr⟩
      | read =>
        simp only [hc] at hl
        obtain ⟨v, hv, hr⟩ := hl
        rw [hv w rfl]
        refine ⟨Same.refl w, _, fun p hp => ?_, hr⟩
        cases hp with
        | head => exact .inr ⟨o, rfl, hc, rfl⟩
        | tail _ hp => exact .inl hp
      | eff =>
        simp only [hc] at hl
        have := hl w rfl
        revert this
        cases (execOp a.eval o).run P w with
        | halt x w' => exact fun hh => hh.elim
        | ok n w' =>
          cases n <;> first
            | exact fun hh => hh.elim
            | exact fun hh => ⟨hh.1, dn, fun p hp => .inl hp, hh.2.2⟩
            | skip
          rename_i f args
          intro hh
          refine Calls.mono (hh.2 w' rfl) ?_
          rintro e w'' ⟨v, rfl, hsame, h1, h2⟩
          exact ⟨hh.1.trans hsame, dn, fun p hp => .inl hp, h2⟩
    · have hw' : ¬ Region.wanted o (yielded ops a.tmps) = true := hw
      rw [if_neg hw] at hl
      rw [if_neg hw']
      exact ⟨Same.refl w, dn, fun p hp => .inl hp, hl⟩
theorem wpOps_of_lex {Qx : Exit → Act → World → Prop} {draw : Bool} {w0 : World} (hQ : ∀ a w', Same w0 w' → Φ a w'.heap → Qx .normal a w') : ∀ (l : List Nat) (dn : Done) (a : Act) (w : World), Same w0 w →
    LexT P ops b draw Φ (.ofList l) dn a w.heap → wpOps P ops Qx l a w
  | [], _, a, w, hs, hl => hQ a w hs hl
  | i :: t, dn, a, w, hs, hl => by
    rw [wpOps_cons]
    exact wpOp_mono (fun a' w' ⟨h1, dn', _, h2⟩ => wpOps_of_lex hQ t dn' a' w' (hs.trans h1) h2) (wpOp_of_step (K := LexT P ops b draw Φ (.ofList t)) hl)
theorem fold_bits (acc : Array Nat) : ∀ (l : List Edge) (s x : Nat), (l.foldl (fun s e => if Region.binds .any e then s ||| 2 ^ e.on ||| acc.getD e.on 0 else s) s).testBit x = true →
    s.testBit x = true ∨ ∃ e ∈ l, Region.binds .any e = true ∧ (e.on = x ∨ (acc.getD e.on 0).testBit x = true)
  | [], s, x, h => .inl h
  | e :: l, s, x, h => by
    simp only [List.foldl_cons] at h
    rcases fold_bits acc l _ x h with h | ⟨e', he', hb, hor⟩
    · by_cases hb : Region.binds .any e = true
      · rw [if_pos hb] at h
        simp only [Nat.testBit_or, Bool.or_eq_true, Nat.testBit_two_pow] at h
        rcases h with (h | h) | h
        · exact .inl h
        · exact .inr ⟨e, List.mem_cons_self .., hb, .inl (by simpa using h)⟩
        · exact .inr ⟨e, List.mem_cons_self .., hb, .inr h⟩
      · rw [if_neg hb] at h
        exact .inl h
    · exact .inr ⟨e', List.mem_cons_of_mem _ he', hb, hor⟩
def BSpec (ops : Array Oper) (acc : Array Nat) : Prop := ∀ (j x : Nat), (acc.getD j 0).testBit x = true → ∃ o : Oper, ops[j]? = some o ∧ ∃ e ∈ o.after, Region.binds .any e = true ∧ (e.on = x ∨ (acc.getD e.on 0).testBit x = true)
theorem before_spec (ops : Array Oper) : BSpec ops (Region.before ops) := by
  unfold Region.before
  have := Array.foldl_induction (as := ops) (motive := fun k acc => acc.size = k ∧ BSpec ops acc) (init := (#[] : Array Nat))
    (f := fun acc o => acc.push (o.after.foldl (fun s e => if Region.binds .any e then s ||| 2 ^ e.on ||| acc.getD e.on 0 else s) 0)) ?_ ?_
  · exact this.2
  · exact ⟨rfl, fun j x h => by simp at h⟩
  · rintro k acc ⟨hsz, hB⟩
    refine ⟨by simp [hsz], fun j x h => ?_⟩
    have lift : ∀ (v : Nat) m, (acc.getD m 0).testBit x = true → ((acc.push v).getD m 0).testBit x = true := by
      intro v m hm
      have hlt : m < acc.size := by
        rcases Nat.lt_or_ge m acc.size with hh | hh
        · exact hh
        · simp [Array.getElem?_eq_none hh] at hm
      have : (acc.push v)[m]? = acc[m]? := by rw [Array.getElem?_push, if_neg (by omega)]
      simp only [Array.getD_eq_getD_getElem?, this] at hm ⊢
      exact hm
    rcases Nat.lt_trichotomy j acc.size with hj | hj | hj
    · have hold : (acc.getD j 0).testBit x = true := by
        simp only [Array.getD_eq_getD_getElem?] at h ⊢
        rwa [Array.getElem?_push, if_neg (by omega)] at h
      obtain ⟨o, ho, e, he, hb, hor⟩ := hB j x hold
      exact ⟨o, ho, e, he, hb, hor.imp id (lift _ _)⟩
    · subst hj
      have hk : ops[acc.size]? = some ops[k] := by rw [hsz]; exact Array.getElem?_eq_getElem k.2
      refine ⟨_, hk, ?_⟩
      simp only [Array.getD_eq_getD_getElem?, Array.getElem?_push, if_true, Option.getD_some] at h
      rw [← Array.foldl_toList] at h
      rcases fold_bits acc _ 0 x (by simpa only [Array.getD_eq_getD_getElem?] using h) with h0 | ⟨e, he, hb, hor⟩
      · simp at h0
      · exact ⟨e, by simpa using he, hb, hor.imp id (lift _ _)⟩
    · simp only [Array.getD_eq_getD_getElem?] at h
      rw [Array.getElem?_eq_none (by simp; omega)] at h
      simp at h
theorem backOK_spec (h : backOK ops = true) : (∀ (j : Nat) (o : Oper), ops[j]? = some o → ∀ e ∈ o.after, Region.binds .any e = true → e.on < j) ∧ Region.noSelect ops = true := by
  unfold backOK at h
  rw [List.all_eq_true] at h
  have key : ∀ (j : Nat) (o : Oper), ops[j]? = some o → (o.after.toList.all (fun e => !(Region.binds .any e) || Nat.blt e.on j) && !(match o.op with | .select .. => true | _ => false)) = true := by
    intro j o ho
    refine h (o, j) ?_
    rw [List.mem_zipIdx_iff_getElem?]
    simpa using ho
  refine ⟨fun j o ho e he hb => ?_, ?_⟩
  · have := key j o ho
    simp only [Bool.and_eq_true, List.all_eq_true] at this
    have h1 := this.1 e (by simpa using he)
    rw [hb] at h1
    exact Nat.blt_eq.mp (by simpa using h1)
  · unfold Region.noSelect
    rw [Array.all_eq_true_iff_forall_mem]
    intro o ho
    obtain ⟨j, hj, rfl⟩ := Array.mem_iff_getElem.1 ho
    have := key j ops[j] (Array.getElem?_eq_getElem hj)
    simp only [Bool.and_eq_true] at this
    have h2 := this.2
    cases hop : ops[j].op <;> simp [hop] at h2 ⊢
theorem wpAny_of_tree {Qx : Exit → Act → World → Prop} {w0 : World} (hQ : ∀ a w', Same w0 w' → Φ a w'.heap → Qx .normal a w') (hB : BSpec ops b)
    (hback : ∀ (j : Nat) (o : Oper), ops[j]? = some o → ∀ e ∈ o.after, Region.binds .any e = true → e.on < j) (hns : Region.noSelect ops = true) :
    ∀ (n : Nat) (t : OTree) (l : List Nat) (listed : Array Bool) (dn : Done) (a : Act) (w : World), l.length = n → Same w0 w → l.Nodup → GoodT P ops b t l → DoneOK ops dn l →
      listed.size = ops.size → (∀ i, i ∈ l ↔ listed[i]? = some false) → (∀ m, listed[m]? = some true → ∀ x, (b.getD m 0).testBit x = true → listed[x]? = some true) →
      LexT P ops b true Φ t dn a w.heap → wpAny P .any ops Qx n listed a w := by
  intro n
  induction n with
  | zero =>
    intro t l listed dn a w hn hs hnd hgood hdn hsz hmem hcl hl
    have : l = [] := List.length_eq_zero_iff.1 hn
    subst this
    have hfin : Φ a w.heap := by
      cases t with
      | done => exact hl
      | q j t => exact absurd hgood.2.1 (by simp)
      | br js f =>
        cases js with
        | nil => exact absurd rfl hgood.1
        | cons j js => exact absurd (hgood.2.1 j (List.mem_cons_self ..)).1 (by simp)
    refine ⟨?_, hQ a w hs hfin⟩
    rw [List.eq_nil_iff_forall_not_mem]
    intro i hi
    obtain ⟨h0, o, ho, _⟩ := mem_ready.1 hi
    have hlt : i < listed.size := by rw [hsz]; exact (Array.getElem?_eq_some_iff.1 ho).1
    have : listed[i]? = some false := by
      rw [Array.getElem?_eq_getElem hlt]
      simp only [Array.getD_eq_getD_getElem?, Array.getElem?_eq_getElem hlt, Option.getD_some] at h0
      rw [h0]
    exact absurd ((hmem i).2 this) (by simp)
  | succ n ih =>
    intro t l listed dn a w hn hs hnd hgood hdn hsz hmem hcl hl
    have rdy : ∀ i, i ∈ Region.ready .any ops listed → i ∈ l ∧ ∀ x, x ∈ l → (b.getD i 0).testBit x = false := by
      intro i hi
      obtain ⟨h0, o, ho, hall⟩ := mem_ready.1 hi
      have hlt : i < listed.size := by rw [hsz]; exact (Array.getElem?_eq_some_iff.1 ho).1
      have hf : listed[i]? = some false := by
        rw [Array.getElem?_eq_getElem hlt]
        simp only [Array.getD_eq_getD_getElem?, Array.getElem?_eq_getElem hlt, Option.getD_some] at h0
        rw [h0]
      refine ⟨(hmem i).2 hf, fun x hx => ?_⟩
      cases hb : (b.getD i 0).testBit x with
      | false => rfl
      | true =>
        exfalso
        obtain ⟨o', ho', e, he, hbd, hor⟩ := hB i x hb
        rw [ho] at ho'; cases ho'
        have hon := hall e he hbd
        have hon' : listed[e.on]? = some true := by
          simp only [Array.getD_eq_getD_getElem?] at hon
          cases hh : listed[e.on]? with
          | none => rw [hh] at hon; cases hon
          | some z => rw [hh] at hon; simp at hon; rw [hon]
        have hxt : listed[x]? = some true := by
          rcases hor with rfl | hor
          · exact hon'
          · exact hcl e.on hon' x hor
        rw [(hmem x).1 hx] at hxt
        cases hxt
    refine ⟨fun hnil => ?_, fun i hi => ?_⟩
    ·
      exfalso
      have hne : l ≠ [] := by intro h0; rw [h0] at hn; simp at hn
      obtain ⟨m, hm, hmin⟩ : ∃ m, m ∈ l ∧ ∀ x, x ∈ l → m ≤ x := by
        have hsome : ∃ m, m ∈ l := by cases l with
          | nil => exact absurd rfl hne
          | cons m t => exact ⟨m, List.mem_cons_self ..⟩
        obtain ⟨m, hm⟩ := hsome
        exact ⟨l.min hne, List.min_mem hne, fun x hx => List.min_le_of_mem hx⟩
      have hf := (hmem m).1 hm
      have hlt : m < listed.size := (Array.getElem?_eq_some_iff.1 hf).1
      have hmo : m < ops.size := by rw [← hsz]; exact hlt
      have : m ∈ Region.ready .any ops listed := by
        rw [mem_ready]
        refine ⟨by simp [Array.getD_eq_getD_getElem?, hf], ops[m], Array.getElem?_eq_getElem hmo, fun e he hbd => ?_⟩
        have hlt' := hback m ops[m] (Array.getElem?_eq_getElem hmo) e he hbd
        have hel : e.on < listed.size := by omega
        cases hh : listed[e.on]? with
        | none => rw [Array.getElem?_eq_getElem hel] at hh; cases hh
        | some z =>
          cases z with
          | true => simp [Array.getD_eq_getD_getElem?, hh]
          | false => have := hmin _ ((hmem e.on).2 hh); omega
      rw [hnil] at this
      cases this
    · obtain ⟨hil, hnb⟩ := rdy i hi
      have hf := (hmem i).1 hil
      have hlt : i < listed.size := (Array.getElem?_eq_some_iff.1 hf).1
      obtain ⟨t', oi, hg', hoi, hrdi, hstep⟩ := LexT.pull (Φ := Φ) hns t l hgood hil hnb
      refine wpOp_mono ?_ (wpOp_of_step (hstep dn a w.heap hdn hl))
      rintro a' w' ⟨hsame, dn', hdn', hl'⟩
      have hlen := dropN_length hnd hil
      refine ih t' (dropN i l) (listed.setIfInBounds i true) dn' a' w' (by omega) (hs.trans hsame) (dropN_nodup hnd) hg' ?_ (by simp [hsz]) ?_ ?_ hl'
      · intro p hp o ho k hk z hz d hd
        rcases hdn' p hp with hp | ⟨o', ho', hrd, hpi⟩
        · exact hdn p hp o ho k (mem_dropN.1 hk).1 z hz d hd
        · rw [hpi] at ho
          rw [ho] at ho'; cases ho'
          rw [ho] at hoi; cases hoi
          exact hrdi hrd k hk z hz d hd
      · intro k
        rw [Array.getElem?_setIfInBounds, mem_dropN]
        by_cases hki : i = k
        · subst hki
          simp only [if_true, hlt]
          constructor
          · rintro ⟨-, h0⟩; exact absurd rfl h0
          · intro hh; cases hh
        · rw [if_neg hki, ← hmem k]
          exact ⟨fun h1 => h1.1, fun h1 => ⟨h1, fun e => hki e.symm⟩⟩
      · intro m hm x hx
        rw [Array.getElem?_setIfInBounds] at hm ⊢
        by_cases hix : i = x
        · subst hix; simp [hlt]
        · rw [if_neg hix]
          by_cases him : i = m
          · subst him
            obtain ⟨h0, o, ho, hall⟩ := mem_ready.1 hi
            obtain ⟨o', ho', e, he, hbd, hor⟩ := hB i x hx
            rw [ho] at ho'; cases ho'
            have hon := hall e he hbd
            have hon' : listed[e.on]? = some true := by
              simp only [Array.getD_eq_getD_getElem?] at hon
              cases hh : listed[e.on]? with
              | none => rw [hh] at hon; cases hon
              | some z => rw [hh] at hon; simp at hon; rw [hon]
            rcases hor with rfl | hor
            · exact hon'
            · exact hcl e.on hon' x hor
          · rw [if_neg him] at hm
            exact hcl m hm x hx
end
end Go.H
namespace Go.H
set_option linter.unusedSimpArgs false
set_option linter.unusedVariables false
def Ext (D : List Nat) (e e' : Env) : Prop := ∀ t, t ∉ D → e'.get t = e.get t
theorem Ext.refl (D : List Nat) (e : Env) : Ext D e e := fun _ _ => rfl
theorem Ext.trans {D : List Nat} {a b c : Env} (h : Ext D a b) (k : Ext D b c) : Ext D a c := fun t ht => (k t ht).trans (h t ht)
theorem Ext.mono {D D' : List Nat} {a b : Env} (h : Ext D a b) (hs : ∀ t, t ∈ D → t ∈ D') : Ext D' a b := fun t ht => h t (fun hh => ht (hs t hh))
theorem get_put (e : Env) (s : Nat) (v : Value) (t : Nat) : Env.get (e.put (some s) v) t = if s = t then some v else e.get t := by
  simp only [Env.put, Env.get]
  by_cases h : s = t
  · subst h; simp
  · rw [if_neg h]
    cases hb : Nat.beq s t with
    | true => exact absurd (Nat.eq_of_beq_eq_true hb) h
    | false => rfl
theorem memN_iff : ∀ {l : List Nat} {n : Nat}, memN n l = true ↔ n ∈ l
  | [], n => by simp [memN]
  | t :: ts, n => by
    simp only [memN, List.mem_cons]
    cases hb : Nat.beq t n with
    | true => simp [Nat.eq_of_beq_eq_true hb]
    | false =>
      have hne : n ≠ t := by intro h; subst h; simp at hb
      simp [hne, memN_iff]
theorem get_forget (ts : List Nat) : ∀ (e : Env) (t : Nat), (e.forget ts).get t = if t ∈ ts then none else e.get t
  | [], t => by simp [Env.forget, Env.get]
  | (s, v) :: e, t => by
    have ih := get_forget ts e t
    simp only [Env.forget]
    cases hm : memN s ts with
    | true =>
      simp only [Env.get]
      rw [ih]
      have hs := memN_iff.1 hm
      by_cases ht : t ∈ ts
      · rw [if_pos ht, if_pos ht]
      · rw [if_neg ht, if_neg ht]
        cases hb : Nat.beq s t with
        | true => rw [Nat.eq_of_beq_eq_true hb] at hs; exact absurd hs ht
        | false => rfl
    | false =>
      simp only [Env.get]
      have hs : s ∉ ts := fun hh => by rw [memN_iff.2 hh] at hm; cases hm
      cases hb : Nat.beq s t with
      | true => have := Nat.eq_of_beq_eq_true hb; subst this; rw [if_neg hs]
      | false => exact ih
theorem AgreeD.put {DF : List Deferred} {n : Nat} {e : Env} {a : Act} (h : AgreeD DF n e a) {dst : Option Nat} (hd : ∀ s, dst = some s → s < n) (v : Value) : AgreeD DF n (e.put dst v) (a.put dst v) := by
  cases dst with
  | none => exact h
  | some s =>
    refine ⟨by simp [Act.put, h.size], h.defers, fun t u ht => ?_⟩
    rw [get_put] at ht
    simp only [Act.put, Array.getElem?_setIfInBounds]
    by_cases hst : s = t
    · subst hst
      rw [if_pos rfl] at ht
      cases ht
      simp [h.size, hd s rfl]
    · rw [if_neg hst] at ht ⊢
      exact h.get t u ht
theorem DecOK.put {d : Dec} {a : Act} (h : DecOK d a) {dst : Option Nat} (hd : ∀ s, dst = some s → d.get s = none) (v : Value) : DecOK d (a.put dst v) := by
  cases dst with
  | none => exact h
  | some s =>
    intro t b ht
    simp only [Act.put, Array.getElem?_setIfInBounds]
    by_cases hst : s = t
    · subst hst; rw [hd s rfl] at ht; cases ht
    · rw [if_neg hst]; exact h t b ht
theorem DecOK.cons {d : Dec} {a : Act} (h : DecOK d a) {s : Nat} {b : Bool} (hs : a.tmps[s]? = some (.bool b)) : DecOK ((s, b) :: d) a := by
  intro t c ht
  simp only [Dec.get] at ht
  cases hb : Nat.beq s t with
  | true => rw [hb] at ht; cases ht; rw [← Nat.eq_of_beq_eq_true hb]; exact hs
  | false => rw [hb] at ht; exact h t c ht
theorem Dec.get_cons {d : Dec} {s t : Nat} {b : Bool} (h : d.get t = none) (hne : s ≠ t) : Dec.get ((s, b) :: d) t = none := by
  simp only [Dec.get]
  cases hb : Nat.beq s t with
  | true => exact absurd (Nat.eq_of_beq_eq_true hb) hne
  | false => exact h
theorem gets_sound {e : Env} : ∀ {ss : List (Nat × Kind)} {vs : List Value}, e.gets ss = some vs → vs.length = ss.length ∧ ∀ t v, Env.get (zipVals ss vs) t = some v → e.get t = some v
  | [], vs, h => by simp only [Env.gets, Option.some.injEq] at h; subst h; exact ⟨rfl, fun t v hh => by simp [zipVals, Env.get] at hh⟩
  | (s, kd) :: r, vs, h => by
    simp only [Env.gets] at h
    cases hs : e.get s with
    | none => simp only [hs] at h; cases h
    | some u =>
      simp only [hs] at h
      cases hr : e.gets r with
      | none => simp only [hr] at h; cases h
      | some us =>
        simp only [hr] at h
        cases h
        obtain ⟨h1, h2⟩ := gets_sound hr
        refine ⟨by simp [h1], fun t v hh => ?_⟩
        simp only [zipVals, Env.get] at hh
        cases hb : Nat.beq s t with
        | true => rw [hb] at hh; cases hh; rw [← Nat.eq_of_beq_eq_true hb]; exact hs
        | false => rw [hb] at hh; exact h2 t v hh
theorem get_append (a b : Env) (t : Nat) : Env.get (a ++ b) t = match Env.get a t with | some v => some v | none => Env.get b t := by
  induction a with
  | nil => rfl
  | cons x a ih =>
    obtain ⟨s, v⟩ := x
    simp only [List.cons_append, Env.get]
    cases hb : Nat.beq s t with
    | true => rfl
    | false => exact ih
theorem zipVals_slot : ∀ (ss : List (Nat × Kind)) (vs : List Value) (t : Nat), t ∉ ss.map (·.1) → Env.get (zipVals ss vs) t = none
  | [], vs, t, _ => rfl
  | _ :: _, [], t, _ => by simp [zipVals, Env.get]
  | (s, kd) :: r, v :: vs, t, h => by
    simp only [List.map_cons, List.mem_cons, not_or] at h
    simp only [zipVals, Env.get]
    cases hb : Nat.beq s t with
    | true => exact absurd (Nat.eq_of_beq_eq_true hb).symm h.1
    | false => exact zipVals_slot r vs t h.2
theorem join_ext {e : Env} {ds : List Nat} {ss : List (Nat × Kind)} (hss : ∀ p ∈ ss, p.1 ∈ ds) (x : KTup (ss.map (·.2))) : Ext ds e (e.join ds ss x) := by
  intro t ht
  unfold Env.join
  rw [get_append, zipVals_slot, get_forget, if_neg ht]
  intro hm
  obtain ⟨p, hp, rfl⟩ := List.mem_map.1 hm
  exact ht (hss p hp)
theorem tup_sound {e : Env} {ss : List (Nat × Kind)} {x : KTup (ss.map (·.2))} (h : e.tup ss = some x) : ∀ t v, Env.get (zipVals ss (KTup.vals (ss.map (·.2)) x)) t = some v → e.get t = some v := by
  unfold Env.tup at h
  cases hg : e.gets ss with
  | none => simp only [hg] at h; cases h
  | some vs =>
    simp only [hg] at h
    have := KTup.get_vals _ _ _ h
    rw [← this]
    exact (gets_sound hg).2
theorem AgreeD.join {DF : List Deferred} {n : Nat} {e e' : Env} {a : Act} (h : AgreeD DF n e' a) {ds : List Nat} (hx : Ext ds e e') {ss : List (Nat × Kind)} {x : KTup (ss.map (·.2))} (ht : e'.tup ss = some x) : AgreeD DF n (e.join ds ss x) a := by
  refine ⟨h.size, h.defers, fun t v hg => ?_⟩
  unfold Env.join at hg
  rw [get_append] at hg
  cases hz : Env.get (zipVals ss (KTup.vals (ss.map (·.2)) x)) t with
  | some u => rw [hz] at hg; cases hg; exact h.get t v (tup_sound ht t v hz)
  | none =>
    rw [hz] at hg
    simp only at hg
    rw [get_forget] at hg
    by_cases hm : t ∈ ds
    · rw [if_pos hm] at hg; cases hg
    · rw [if_neg hm] at hg
      exact h.get t v (by rw [hx t hm]; exact hg)
section
variable {P : Program} {C : List Nat} {n : Nat} {ops : Array Oper} {draw : Bool} {ρ : Type} {Q : ρ → Heap → Prop}
def DnOK (P : Program) (ops : Array Oper) (draw : Bool) (dn : Done) : Prop := draw = true → ∀ p, p ∈ dn → ∃ o, ops[p.1]? = some o ∧ clsOf P o.op = .read
theorem again_sound {DF : List Deferred} (hC : ∀ f, f ∈ C → CallOK P f) {bj : Nat} {e : Env} {d : Dec} {a : Act} {h : Heap} (hA : AgreeD DF n e a) (hD : DecOK d a) {m : HM ρ} : ∀ (dn : Done), (∀ p, p ∈ dn → ∃ o, ops[p.1]? = some o ∧ clsOf P o.op = .read) →
    again P C ops bj e d dn m h Q → (∀ i v, (i, v) ∈ dn → bj.testBit i = false → AgainAt P ops i v a h) ∧ m h Q
  | [], _, hd => ⟨fun _ _ hm => (by cases hm), hd⟩
  | (i, v) :: r, hdn, hd => by
    simp only [again] at hd
    cases hb : bj.testBit i with
    | true =>
      simp only [hb] at hd
      obtain ⟨h1, h2⟩ := again_sound hC hA hD r (fun p hp => hdn p (List.mem_cons_of_mem _ hp)) hd
      refine ⟨fun j u hm hbj => ?_, h2⟩
      cases hm with
      | head => rw [hb] at hbj; cases hbj
      | tail _ hm => exact h1 j u hm hbj
    | false =>
      simp only [hb] at hd
      obtain ⟨o, ho, hcl⟩ := hdn (i, v) (List.mem_cons_self ..)
      have ho' : ops.toList[i]? = some o := by simpa using ho
      simp only [ho'] at hd
      have := denOp_lex hC hA hD hd
      rw [hcl] at this
      obtain ⟨v', hv', hveq, hrest⟩ := this
      subst hveq
      obtain ⟨h1, h2⟩ := again_sound hC hA hD r (fun p hp => hdn p (List.mem_cons_of_mem _ hp)) hrest
      refine ⟨fun j u hm hbj => ?_, h2⟩
      cases hm with
      | head => exact ⟨o, ho, hv'⟩
      | tail _ hm => exact h1 j u hm hbj
theorem denOne_lex {DF : List Deferred} (hC : ∀ f, f ∈ C → CallOK P f) {j : Nat} {o : Oper} {e : Env} {d : Dec} {dn dn' : Done} {kk : Env → Done → HM ρ} {a : Act} {h : Heap} {K : Done → Act → Heap → Prop}
    (ho : ops[j]? = some o) (hA : AgreeD DF n e a) (hD : DecOK d a) (hdst : ∀ s, o.dst = some s → s < n) (hdd : ∀ s, o.dst = some s → d.get s = none) (hdn : DnOK P ops draw dn) (hsub : draw = true → ∀ p, p ∈ dn' → p ∈ dn)
    (hw : want ops o a = true)
    (ih : ∀ v h' dn2 dn2', (clsOf P o.op = .stat → Stat P (execOp a.eval o) v) → kk (e.put o.dst v) dn2 h' Q → DnOK P ops draw dn2 → (draw = true → ∀ p, p ∈ dn2' → p ∈ dn2) → K dn2' (a.put o.dst v) h')
    (hd : denOne P C ops draw j o e d dn kk h Q) : StepR P ops (Region.before ops) draw K j dn' a h := by
  have hl := denOpE_lex hC hA hD hd
  unfold StepR
  simp only [ho]
  rw [if_pos hw]
  cases hc : clsOf P o.op with
  | stat =>
    rw [hc] at hl
    simp only
    obtain ⟨v, hv, hq⟩ := hl
    refine ⟨v, hv, ?_⟩
    cases hdr : draw with
    | false => subst hdr; simp only at hq; exact ih v h dn dn' (fun _ => hv) hq hdn hsub
    | true => subst hdr; simp only [hc] at hq; exact ih v h dn dn' (fun _ => hv) hq hdn hsub
  | read =>
    rw [hc] at hl
    simp only
    obtain ⟨v, hv, hq⟩ := hl
    refine ⟨v, hv, ?_⟩
    cases hdr : draw with
    | false => subst hdr; simp only at hq; exact ih v h dn _ (fun hh => by rw [hc] at hh; cases hh) hq hdn (fun hh => by cases hh)
    | true =>
      subst hdr; simp only [hc] at hq
      refine ih v h _ _ (fun hh => by rw [hc] at hh; cases hh) hq (fun _ p hp => ?_) (fun _ p hp => ?_)
      · cases hp with
        | head => exact ⟨o, ho, hc⟩
        | tail _ hp => exact hdn rfl p hp
      · cases hp with
        | head => exact List.mem_cons_self ..
        | tail _ hp => exact List.mem_cons_of_mem _ (hsub rfl p hp)
  | eff =>
    rw [hc] at hl
    simp only
    refine Does.mono hl fun v h' hq => ?_
    cases hdr : draw with
    | false => subst hdr; simp only at hq; exact ⟨fun hh => (by cases hh), ih v h' dn dn' (fun hh => by rw [hc] at hh; cases hh) hq hdn hsub⟩
    | true =>
      subst hdr; simp only [hc] at hq
      obtain ⟨h1, h2⟩ := again_sound hC (hA.put hdst v) (hD.put hdd v) dn (hdn rfl) hq
      exact ⟨fun _ i v' hi hb => h1 i v' (hsub rfl _ hi) hb, ih v h' dn dn' (fun hh => by rw [hc] at hh; cases hh) h2 hdn hsub⟩
theorem StepR.pass {K : Done → Act → Heap → Prop} {b : Array Nat} {j : Nat} {o : Oper} {dn : Done} {a : Act} {h : Heap} (ho : ops[j]? = some o) (hw : want ops o a = false)
    (hl : K dn (a.put o.dst undef) h) : StepR P ops b draw K j dn a h := by
  unfold StepR
  simp only [ho, hw]
  simpa using hl
theorem litOf_sound {d : Dec} {a : Act} (hD : DecOK d a) {x : Operand} {b : Bool} (h : litOf d x = some b) : a.eval x = .bool b := by
  cases x with
  | tmp t =>
    have := hD t b h
    simp [Act.eval, this]
  | const c => cases c <;> simp [litOf] at h; subst h; rfl
  | global g => cases h
  | func f => cases h
theorem litOp_sound {d : Dec} {a : Act} (hD : DecOK d a) {o : Oper} {b : Bool} (h : litOp d o.op = some b) : clsOf P o.op = .stat ∧ ∀ w, (execOp a.eval o).run P w = .ok (.value (.bool b)) w := by
  unfold litOp at h
  split at h
  · rename_i x ho
    exact ⟨by rw [ho]; rfl, fun w => by simp [execOp, ho, litOf_sound hD h]⟩
  · rename_i x ho
    exact ⟨by rw [ho]; rfl, fun w => by simp [execOp, ho, litOf_sound hD h]⟩
  · rename_i t x y ho
    refine ⟨by rw [ho]; rfl, fun w => ?_⟩
    split at h
    · rename_i hg
      have ht := hD t true hg
      have hx := litOf_sound hD h
      have he : a.eval (.tmp t) = .bool true := by simp [Act.eval, ht]
      simp [execOp, ho, he, asBool, hx]
    · rename_i hg
      have ht := hD t false hg
      have hx := litOf_sound hD h
      have he : a.eval (.tmp t) = .bool false := by simp [Act.eval, ht]
      simp [execOp, ho, he, asBool, hx]
    · cases h
  · cases h
theorem decAfter_ok {d : Dec} {a : Act} (hD : DecOK d a) {o : Oper} (hdd : ∀ s, o.dst = some s → d.get s = none) (hlt : ∀ s, o.dst = some s → s < a.tmps.size) {v : Value} (hst : clsOf P o.op = .stat → Stat P (execOp a.eval o) v) :
    DecOK (decAfter d o) (a.put o.dst v) := by
  have hp := hD.put hdd v
  unfold decAfter
  cases hs : o.dst with
  | none => rw [hs] at hp; exact hp
  | some s =>
    rw [hs] at hp
    simp only
    cases hl : litOp d o.op with
    | none => exact hp
    | some b =>
      obtain ⟨hc, hr⟩ := litOp_sound (P := P) hD hl
      have h1 := hst hc default
      rw [hr default] at h1
      cases h1
      exact hp.cons (by simp [Act.put, hlt s hs])
theorem want_none {o : Oper} {a : Act} (h : o.guard = none) : want ops o a = true := by simp [want, Region.wanted, h]
theorem want_some {o : Oper} {a : Act} {g : Nat} {wnt b : Bool} {s : Nat} (h : o.guard = some (g, wnt)) (hs : guardSlot ops g = some s) (hb : a.tmps[s]? = some (.bool b)) : want ops o a = (b == wnt) := by
  unfold guardSlot at hs
  cases hg : ops.toList[g]? with
  | none => simp only [hg] at hs; cases hs
  | some og =>
    simp only [hg] at hs
    have hg' : ops[g]? = some og := by simpa using hg
    simp only [want, Region.wanted, h, yielded, hg', Option.bind_some, hs, hb]
    cases b <;> cases wnt <;> rfl
theorem want_undef {o : Oper} {a : Act} {g : Nat} {wnt : Bool} {s : Nat} {vs : Array Value} (h : o.guard = some (g, wnt)) (hs : guardSlot ops g = some s) (hb : a.tmps[s]? = some (.tuple vs)) : want ops o a = false := by
  unfold guardSlot at hs
  cases hg : ops.toList[g]? with
  | none => simp only [hg] at hs; cases hs
  | some og =>
    simp only [hg] at hs
    have hg' : ops[g]? = some og := by simpa using hg
    simp only [want, Region.wanted, h, yielded, hg', Option.bind_some, hs, hb]
    cases wnt <;> rfl
theorem denStep_lex {DF : List Deferred} (hC : ∀ f, f ∈ C → CallOK P f) {k : Env → Dec → Done → HM ρ} {K : Done → Act → Heap → Prop} (D : List Nat) (hD0 : ∀ o s, o ∈ ops → o.dst = some s → s ∈ D) (e0 : Env)
    (ih : ∀ (e : Env) (d : Dec) (dn dn' : Done) (a : Act) (h : Heap), k e d dn h Q → Ext D e0 e → AgreeD DF n e a → DecOK d a → DnOK P ops draw dn → (draw = true → ∀ p, p ∈ dn' → p ∈ dn) → K dn' a h)
    (j : Nat) (e : Env) (d : Dec) (dn dn' : Done) (a : Act) (h : Heap) (hd : denStep P C n ops draw j e d dn k h Q) (hx : Ext D e0 e) (hA : AgreeD DF n e a) (hDc : DecOK d a) (hdn : DnOK P ops draw dn) (hsub : draw = true → ∀ p, p ∈ dn' → p ∈ dn) :
    StepR P ops (Region.before ops) draw K j dn' a h := by
    simp only [denStep] at hd
    cases ho : ops.toList[j]? with
    | none => simp only [ho] at hd; exact hd.elim
    | some o =>
      simp only [ho] at hd
      have ho' : ops[j]? = some o := by simpa using ho
      have hmem : o ∈ ops := Array.mem_of_getElem? ho'
      cases hchk : chkDst n d o.dst with
      | false => simp only [hchk] at hd; exact hd.elim
      | true =>
      simp only [hchk] at hd
      have hdst : ∀ s, o.dst = some s → s < n := by
        intro s hs
        rw [hs] at hchk
        have hchk' : (Nat.blt s n && (d.get s).isNone) = true := hchk
        rw [Bool.and_eq_true] at hchk'
        exact Nat.blt_eq.mp hchk'.1
      have hdd : ∀ s, o.dst = some s → d.get s = none := by
        intro s hs
        rw [hs] at hchk
        have hchk' : (Nat.blt s n && (d.get s).isNone) = true := hchk
        rw [Bool.and_eq_true] at hchk'
        exact Option.isNone_iff_eq_none.1 hchk'.2
      have hxp : ∀ v, Ext D e0 (e.put o.dst v) := by
        intro v
        refine hx.trans fun t ht => ?_
        cases hs : o.dst with
        | none => rfl
        | some s =>
          rw [get_put, if_neg]
          intro hst; subst hst; exact ht (hD0 o s hmem hs)
      have hxf : Ext D e0 (e.forget o.dst.toList) := by
        refine hx.trans fun t ht => ?_
        rw [get_forget, if_neg]
        intro hm
        cases hs : o.dst with
        | none => rw [hs] at hm; exact absurd hm List.not_mem_nil
        | some s => rw [hs] at hm; have := List.mem_singleton.1 hm; subst this; exact ht (hD0 o t hmem hs)
      have run : ∀ (d2 : Dec), DecOK d2 a → (∀ s, o.dst = some s → d2.get s = none) → want ops o a = true → (denOne P C ops draw j o e d2 dn fun e' dn' => k e' (decAfter d2 o) dn') h Q →
          StepR P ops (Region.before ops) draw K j dn' a h := by
        intro d2 hd2 hdd2 hw hh
        exact denOne_lex hC ho' hA hd2 hdst hdd2 hdn hsub hw (fun v h' dn2 dn2' hst hh hdn2 hsub2 => ih _ (decAfter d2 o) dn2 dn2' _ h' hh (hxp v) (hA.put hdst v) (decAfter_ok (P := P) hd2 hdd2 (fun s hs => by rw [hA.size]; exact hdst s hs) hst) hdn2 hsub2) hh
      have skip : ∀ (d2 : Dec), DecOK d2 a → (∀ s, o.dst = some s → d2.get s = none) → want ops o a = false → k (e.put o.dst undef) d2 dn h Q →
          StepR P ops (Region.before ops) draw K j dn' a h := by
        intro d2 hd2 hdd2 hw hh
        have := ih _ d2 dn dn' _ h hh (hxp undef) (hA.put hdst undef) (hd2.put hdd2 undef) hdn hsub
        exact StepR.pass ho' hw this
      cases hg : o.guard with
      | none =>
        simp only [hg] at hd
        exact run d hDc hdd (want_none hg) hd
      | some gw =>
        obtain ⟨g, wnt⟩ := gw
        simp only [hg] at hd
        cases hs : guardSlot ops g with
        | none => simp only [hs] at hd; exact hd.elim
        | some s =>
          simp only [hs] at hd
          cases hdg : d.get s with
          | some b =>
            simp only [hdg] at hd
            have hw := want_some (ops := ops) (a := a) hg hs (hDc s b hdg)
            cases b <;> cases wnt <;> simp only at hd
            · exact run d hDc hdd (by rw [hw]; rfl) hd
            · exact skip d hDc hdd (by rw [hw]; rfl) hd
            · exact skip d hDc hdd (by rw [hw]; rfl) hd
            · exact run d hDc hdd (by rw [hw]; rfl) hd
          | none =>
            simp only [hdg] at hd
            cases hh : hits o.dst s with
            | true => simp only [hh] at hd; exact hd.elim
            | false =>
            simp only [hh] at hd
            have hne : ∀ t, o.dst = some t → s ≠ t := by
              intro t ht hst
              subst hst
              rw [ht] at hh
              simp [hits] at hh
            cases hes : e.get s with
            | none => simp only [hes] at hd; exact hd.elim
            | some u =>
              have hts := hA.get s _ hes
              cases u <;> simp only [hes] at hd <;> first | exact hd.elim | exact skip d hDc hdd (want_undef (ops := ops) (a := a) hg hs hts) hd | skip
              rename_i bb
              have hw := want_some (ops := ops) (a := a) hg hs hts
              have hdd' : ∀ b', ∀ t, o.dst = some t → Dec.get ((s, b') :: d) t = none := fun b' t ht => Dec.get_cons (hdd t ht) (hne t ht)
              cases wnt <;> simp only at hd <;> cases bb
              · exact run _ (hDc.cons hts) (hdd' _) (by rw [hw]; rfl) hd
              · exact skip _ (hDc.cons hts) (hdd' _) (by rw [hw]; rfl) hd
              · exact skip _ (hDc.cons hts) (hdd' _) (by rw [hw]; rfl) hd
              · exact run _ (hDc.cons hts) (hdd' _) (by rw [hw]; rfl) hd
theorem allH_mem {h : Heap} : ∀ {l : List (HM ρ)}, allH l h Q → ∀ m ∈ l, m h Q
  | [m], hd, x, hx => by rw [List.mem_singleton.1 hx]; exact hd
  | m :: y :: r, hd, x, hx => by
    have hd' : m h Q ∧ allH (y :: r) h Q := hd
    rcases List.mem_cons.1 hx with rfl | hx
    · exact hd'.1
    · exact allH_mem hd'.2 x hx
theorem denT_lex {DF : List Deferred} (hC : ∀ f, f ∈ C → CallOK P f) {k : Env → HM ρ} (D : List Nat) (hD0 : ∀ o s, o ∈ ops → o.dst = some s → s ∈ D) (e0 : Env) : ∀ (t : OTree) (e : Env) (d : Dec) (dn dn' : Done) (a : Act) (h : Heap),
    denT P C n ops draw t e d dn k h Q → Ext D e0 e → AgreeD DF n e a → DecOK d a → DnOK P ops draw dn → (draw = true → ∀ p, p ∈ dn' → p ∈ dn) →
    LexT P ops (Region.before ops) draw (fun a' h' => ∃ e', AgreeD DF n e' a' ∧ Ext D e0 e' ∧ k e' h' Q) t dn' a h
  | .done, e, d, dn, dn', a, h, hd, hx, hA, _, _, _ => ⟨e, hA, hx, hd⟩
  | .q j t, e, d, dn, dn', a, h, hd, hx, hA, hDc, hdn, hsub => denStep_lex hC D hD0 e0 (denT_lex hC D hD0 e0 t) j e d dn dn' a h hd hx hA hDc hdn hsub
  | .br js f, e, d, dn, dn', a, h, hd, hx, hA, hDc, hdn, hsub => fun j hj =>
    denStep_lex hC D hD0 e0 (denT_lex hC D hD0 e0 (f j)) j e d dn dn' a h (allH_mem hd _ (List.mem_map_of_mem hj)) hx hA hDc hdn hsub
end
end Go.H
namespace Go.H
set_option linter.unusedSimpArgs false
set_option linter.unusedVariables false
def HW (P : Program) (c : Code) (a : Act) (h : Heap) (Ψ : Exit → Act → Heap → Prop) : Prop := ∀ w, w.heap = h → c.wp P (fun x a' w' => Same w w' ∧ Ψ x a' w'.heap) a w
section
variable {P : Program} {C : List Nat} {n : Nat} {live lc : List Nat} {rs : List ResultVar}
theorem region_of_lex (hm : P.follows .mixedOrders = true) {ops : Array Oper} {draw : Bool} {id : Nat} {a : Act} {h : Heap} {Ψ : Exit → Act → Heap → Prop} (hok : draw = true → orderOK P ops (treeOf P ops true) = true)
    (hl : LexT P ops (Region.before ops) draw (fun a' h' => Ψ .normal a' h') (treeOf P ops draw) [] a h) : HW P (.region id ops draw) a h Ψ := by
  intro w hw
  subst hw
  cases draw with
  | false =>
    exact wp_region (wpOps_of_lex (w0 := w) (fun a' w' hs hp => ⟨hs, hp⟩) (List.range ops.size) [] a w (Same.refl w) hl)
  | true =>
    have ho := hok rfl
    simp only [orderOK, Bool.and_eq_true] at ho
    obtain ⟨hb, hp⟩ := ho
    obtain ⟨hback, hns⟩ := backOK_spec hb
    have hgood := goodT_spec _ _ hp
    refine wp_region_any hm ?_
    have hmem : ∀ i, i ∈ List.range ops.size ↔ (Array.replicate ops.size false)[i]? = some false := by
      intro i
      rw [List.mem_range]
      constructor
      · intro hi; simp [hi]
      · intro hi
        rcases Nat.lt_or_ge i ops.size with hh | hh
        · exact hh
        · simp [hh] at hi
    exact wpAny_of_tree (w0 := w) (fun a' w' hs hp => ⟨hs, hp⟩) (before_spec ops) hback hns ops.size (treeOf P ops true) (List.range ops.size) (Array.replicate ops.size false) [] a { w with drawn := w.drawn + 1 } (by simp) ⟨rfl, rfl, rfl⟩ List.nodup_range hgood
      (fun p hp => by cases hp) (by simp) hmem (fun m hm => by
        rw [Array.getElem?_replicate] at hm
        split at hm <;> cases hm) hl
theorem outsOf_sub : ∀ (l : List Oper) (p : Nat × Kind), p ∈ outsOf P live l → p.1 ∈ dstsOf l
  | [], p, h => by cases h
  | o :: l, p, h => by
    have ih := outsOf_sub l p
    have step : p ∈ outsOf P live l → p.1 ∈ dstsOf (o :: l) := fun hh => by
      simp only [dstsOf]
      cases o.dst with
      | none => exact ih hh
      | some s => exact List.mem_cons_of_mem _ (ih hh)
    simp only [outsOf] at h
    cases hg : o.guard with
    | some g => simp only [hg] at h; exact step h
    | none =>
      simp only [hg] at h
      cases hs : o.dst with
      | none => simp only [hs] at h; exact step h
      | some s =>
        simp only [hs] at h
        cases hm : memN s live with
        | false => simp only [hm] at h; exact step h
        | true =>
          simp only [hm] at h
          cases hk : kindOf P o.type with
          | none => simp only [hk] at h; exact step h
          | some k =>
            simp only [hk] at h
            cases h with
            | head => simp only [dstsOf, hs]; exact List.mem_cons_self ..
            | tail _ hh => exact step hh
theorem dstsOf_mem : ∀ (l : List Oper) (o : Oper) (s : Nat), o ∈ l → o.dst = some s → s ∈ dstsOf l
  | [], _, _, h, _ => by cases h
  | x :: l, o, s, h, hs => by
    simp only [dstsOf]
    cases h with
    | head => rw [hs]; exact List.mem_cons_self ..
    | tail _ h =>
      have := dstsOf_mem l o s h hs
      cases x.dst with
      | none => exact this
      | some t => exact List.mem_cons_of_mem _ this
theorem denRegion_sound (hm : P.follows .mixedOrders = true) (hC : ∀ f, f ∈ C → CallOK P f) {ρ : Type} {Q : ρ → Heap → Prop} {ops : Array Oper} {draw : Bool} {id : Nat} {e : Env} {k : Env → HM ρ} {a : Act} {h : Heap} {Ψ : Exit → Act → Heap → Prop}
    (hd : denRegion P C n live ops draw e k h Q) (hA : Agree n e a) (hk : ∀ e' a' h', Ext (Go.H.dstsOf ops.toList) e e' → Agree n e' a' → k e' h' Q → Ψ .normal a' h') : HW P (.region id ops draw) a h Ψ := by
  unfold denRegion at hd
  have hdsts : ∀ (o : Oper) (s : Nat), o ∈ ops → o.dst = some s → s ∈ dstsOf ops.toList := fun o s ho hs => dstsOf_mem _ o s (by simpa using ho) hs
  have go : ∀ (hh : (draw = true → orderOK P ops (treeOf P ops true) = true) ∧ ((match guarded ops.toList with
    | false => denT P C n ops draw (treeOf P ops draw) e [] [] k
    | true => (denT P C n ops draw (treeOf P ops draw) e [] [] fun e' => pureO (e'.tup (outsOf P live ops.toList))).bind fun x => k (e.join (Go.H.dstsOf ops.toList) (outsOf P live ops.toList) x)) h Q)), HW P (.region id ops draw) a h Ψ := by
    rintro ⟨hok, hd⟩
    refine region_of_lex hm hok ?_
    cases hg : guarded ops.toList with
    | false =>
      simp only [hg] at hd
      refine LexT.imp ?_ _ _ _ _ (denT_lex hC (Go.H.dstsOf ops.toList) hdsts e _ e [] [] [] a h hd (Ext.refl _ _) hA (fun t b ht => by cases ht) (fun _ p hp => by cases hp) (fun _ p hp => hp))
      rintro a' h' ⟨e', hA', hx, hq⟩
      exact hk e' a' h' hx hA' hq
    | true =>
      simp only [hg] at hd
      refine LexT.imp ?_ _ _ _ _ (denT_lex hC (Go.H.dstsOf ops.toList) hdsts e _ e [] [] [] a h hd (Ext.refl _ _) hA (fun t b ht => by cases ht) (fun _ p hp => by cases hp) (fun _ p hp => hp))
      rintro a' h' ⟨e', hA', hx, hq⟩
      cases ht : e'.tup (outsOf P live ops.toList) with
      | none => rw [ht] at hq; exact hq.elim
      | some x =>
        rw [ht] at hq
        exact hk _ a' h' (join_ext (fun p hp => outsOf_sub _ p hp) x) (hA'.join hx ht) hq
  cases draw with
  | false => exact go ⟨fun hh => (by cases hh), hd⟩
  | true =>
    cases ho : orderOK P ops (treeOf P ops true) with
    | false => simp only [ho] at hd; exact hd.elim
    | true => simp only [ho] at hd; exact go ⟨fun _ => ho, hd⟩
def resOf (a : Act) : ResultVar → Sem Value
  | .tmp t => pure (a.tmps.getD t undef)
  | .cell x t => do loadVar t (← asAddr (a.tmps.getD x undef))
def ResOK (P : Program) (rs : List ResultVar) (a : Act) (h : Heap) (vs : List Value) : Prop := ∀ w, w.heap = h → (rs.mapM (resOf a)).run P w = .ok vs w
theorem denRet_sound {DF : List Deferred} {ρ : Type} {Q : ρ → Heap → Prop} {e : Env} {a : Act} {h : Heap} (hA : AgreeD DF n e a) : ∀ (rs : List ResultVar) (kk : List Value → HM ρ), denRet P e rs kk h Q → ∃ vs, ResOK P rs a h vs ∧ kk vs h Q
  | [], kk, hd => ⟨[], fun w _ => rfl, hd⟩
  | .tmp t :: rs, kk, hd => by
    simp only [denRet] at hd
    cases ht : e.get t with
    | none => simp only [ht] at hd; exact hd.elim
    | some v =>
      simp only [ht] at hd
      obtain ⟨vs, hvs, hq⟩ := denRet_sound hA rs _ hd
      refine ⟨v :: vs, fun w hw => ?_, hq⟩
      have hget := hA.get t v ht
      rw [List.mapM_cons]
      simp [resOf, hget, hvs w hw]
  | .cell x ty :: rs, kk, hd => by
    simp only [denRet] at hd
    cases ht : e.get x with
    | none => simp only [ht] at hd; exact hd.elim
    | some u =>
      simp only [ht] at hd
      obtain ⟨v, hv, hd⟩ := denLoad_sound hd
      obtain ⟨vs, hvs, hq⟩ := denRet_sound hA rs _ hd
      refine ⟨v :: vs, fun w hw => ?_, hq⟩
      have hget := hA.get x u ht
      rw [List.mapM_cons]
      have hl := hv w hw
      have : (resOf a (.cell x ty)).run P w = .ok v w := by
        cases u with
        | pointer p =>
          cases p with
          | some ad => simpa [resOf, hget, asAddr, Instr.loadAt, Instr.sureAddr] using hl
          | none => simp [Instr.loadAt, Instr.sureAddr] at hl
        | _ => simp [Instr.loadAt, Instr.sureAddr] at hl
      simp [this, hvs w hw]
structure KOK (P : Program) (n : Nat) (rs : List ResultVar) (D : List Nat) (e : Env) {ρ : Type} (k : KK ρ) (Q : ρ → Heap → Prop) (Ψ : Exit → Act → Heap → Prop) : Prop where
  norm : ∀ e' a' h', Ext D e e' → Agree n e' a' → k.norm e' h' Q → Ψ .normal a' h'
  ret : ∀ a' h' vs r, a'.defers = [] → ResOK P rs a' h' vs → k.ret vs = some r → Q r h' → Ψ .ret a' h'
  exits : ∀ id g e' a' h' r, exitGet k.exits id = some g → Ext D e e' → Agree n e' a' → g e' = some r → Q r h' → Ψ (.exit id) a' h'
theorem KOK.at {D D' : List Nat} {e e1 : Env} {ρ : Type} {k : KK ρ} {Q : ρ → Heap → Prop} {Ψ : Exit → Act → Heap → Prop} (hk : KOK P n rs D e k Q Ψ) (hs : ∀ t, t ∈ D' → t ∈ D) (hx : Ext D e e1) : KOK P n rs D' e1 k Q Ψ :=
  ⟨fun e' a' h' hx' hA hq => hk.norm e' a' h' (hx.trans (hx'.mono hs)) hA hq, hk.ret, fun id g e' a' h' r hg hx' hA he hq => hk.exits id g e' a' h' r hg (hx.trans (hx'.mono hs)) hA he hq⟩
theorem pureO_sound {ρ : Type} {Q : ρ → Heap → Prop} {h : Heap} {o : Option ρ} (hd : pureO o h Q) : ∃ r, o = some r ∧ Q r h := by
  cases o with
  | none => exact hd.elim
  | some r => exact ⟨r, rfl, hd⟩
theorem exitGet_map {ρ ρ' : Type} {f : ρ → ρ'} : ∀ (l : List (Nat × (Env → Option ρ))) (id : Nat) (g : Env → Option ρ'), exitGet (mapExits f l) id = some g →
    ∃ g0, exitGet l id = some g0 ∧ ∀ e r, g e = some r → ∃ r0, g0 e = some r0 ∧ r = f r0
  | [], id, g, h => by cases h
  | (t, g1) :: d, id, g, h => by
    simp only [mapExits, exitGet] at h ⊢
    cases hb : Nat.beq t id with
    | true =>
      simp only [hb] at h ⊢
      cases h
      refine ⟨g1, rfl, fun e r hr => ?_⟩
      cases hg : g1 e with
      | none => simp only [hg] at hr; cases hr
      | some r0 => simp only [hg] at hr; cases hr; exact ⟨r0, rfl, rfl⟩
    | false =>
      simp only [hb] at h ⊢
      exact exitGet_map d id g h
theorem exitGet_drop {β : Type} (x : Nat) : ∀ (l : List (Nat × β)) (id : Nat) (g : β), exitGet (dropExit x l) id = some g → id ≠ x ∧ exitGet l id = some g
  | [], _, _, h => by cases h
  | (t, b) :: d, id, g, h => by
    simp only [dropExit] at h
    cases hb : Nat.beq t x with
    | true =>
      simp only [hb] at h
      obtain ⟨h1, h2⟩ := exitGet_drop x d id g h
      refine ⟨h1, ?_⟩
      simp only [exitGet]
      cases hc : Nat.beq t id with
      | true => have := Nat.eq_of_beq_eq_true hb; have := Nat.eq_of_beq_eq_true hc; omega
      | false => exact h2
    | false =>
      simp only [hb, exitGet] at h ⊢
      cases hc : Nat.beq t id with
      | true =>
        simp only [hc] at h ⊢
        refine ⟨?_, h⟩
        have := Nat.eq_of_beq_eq_true hc
        intro he
        subst he; subst this
        simp at hb
      | false =>
        simp only [hc] at h ⊢
        exact exitGet_drop x d id g h
theorem carried_sub (e : Env) : ∀ (l : List Nat) (p : Nat × Kind), p ∈ carried lc e l → p.1 ∈ l
  | [], p, h => by cases h
  | s :: r, p, h => by
    have ih := carried_sub e r p
    simp only [carried] at h
    cases hm : memN s r with
    | true => simp only [hm] at h; exact List.mem_cons_of_mem _ (ih h)
    | false =>
      simp only [hm] at h
      cases hl : memN s lc with
      | false => simp only [hl] at h; exact List.mem_cons_of_mem _ (ih h)
      | true =>
        simp only [hl] at h
        cases hv : e.get s with
        | none => simp only [hv] at h; exact List.mem_cons_of_mem _ (ih h)
        | some v =>
          simp only [hv] at h
          cases hk : Kind.of v with
          | none => simp only [hk] at h; exact List.mem_cons_of_mem _ (ih h)
          | some k =>
            simp only [hk] at h
            cases h with
            | head => exact List.mem_cons_self ..
            | tail _ hh => exact List.mem_cons_of_mem _ (ih hh)
def inBlk (ex : Option Nat) (Ψ : Exit → Act → Heap → Prop) : Exit → Act → Heap → Prop
  | .exit id, a, h => if ex = some id then Ψ .normal a h else Ψ (.exit id) a h
  | x, a, h => Ψ x a h
theorem joinK_sound {ρ : Type} {Q : ρ → Heap → Prop} {outs : Bool} {ss : List (Nat × Kind)} {inner : (ρ' : Type) → KK ρ' → HM ρ'} {ex : Option Nat} {e : Env} {ds : List Nat} {k : KK ρ} {h : Heap} {Ψ : Exit → Act → Heap → Prop}
    (hss : ∀ p ∈ ss, p.1 ∈ ds) (hk : KOK P n rs ds e k Q Ψ) (hd : joinK outs ss inner ex e ds k h Q) {R : Prop}
    (hin : ∀ (ρ' : Type) (k' : KK ρ') (Q' : ρ' → Heap → Prop), inner ρ' k' h Q' → KOK P n rs ds e k' Q' (inBlk ex Ψ) → R) : R := by
  unfold joinK at hd
  cases outs with
  | true =>
    simp only at hd
    refine hin _ _ _ hd ?_
    have hnorm : ∀ e' a' h', Ext ds e e' → Agree n e' a' → ∀ r, (match e'.tup ss with | some x => some (Sum.inl (β := ρ) x) | none => none) = some r →
        Sum.elim (fun x => k.norm (e.join ds ss x)) HM.pure r h' Q → Ψ .normal a' h' := by
      intro e' a' h' hx hA r hr hq
      cases ht : e'.tup ss with
      | none => rw [ht] at hr; cases hr
      | some x =>
        rw [ht] at hr; cases hr
        exact hk.norm _ a' h' (join_ext hss x) (hA.join hx ht) hq
    refine ⟨fun e' a' h' hx hA hq => ?_, fun a' h' vs r hdf hres hr hq => ?_, fun id g e' a' h' r hg hx hA hr hq => ?_⟩
    · obtain ⟨r, hr, hq⟩ := pureO_sound hq
      exact hnorm e' a' h' hx hA r hr hq
    · simp only [mapRet] at hr
      cases hkr : k.ret vs with
      | none => simp only [hkr] at hr; cases hr
      | some r0 => simp only [hkr] at hr; cases hr; exact hk.ret a' h' vs r0 hdf hres hkr hq
    · have old : ∀ g0, exitGet (mapExits (Sum.inr (α := KTup (ss.map (·.2)))) k.exits) id = some g0 → g0 e' = some r → Ψ (.exit id) a' h' := by
        intro g0 hg0 hr0
        obtain ⟨g1, h1, h2⟩ := exitGet_map _ _ _ hg0
        obtain ⟨r0, h3, h4⟩ := h2 e' r hr0
        subst h4
        exact hk.exits id g1 e' a' h' r0 h1 hx hA h3 hq
      cases ex with
      | none => simp only [inBlk]; rw [if_neg (by simp)]; exact old g hg hr
      | some x =>
        simp only [exitGet] at hg
        simp only [inBlk]
        cases hb : Nat.beq x id with
        | true =>
          simp only [hb] at hg
          cases hg
          have := Nat.eq_of_beq_eq_true hb
          subst this
          rw [if_pos rfl]
          exact hnorm e' a' h' hx hA r hr hq
        | false =>
          simp only [hb] at hg
          rw [if_neg (by intro hh; cases hh; simp at hb)]
          exact old g hg hr
  | false =>
    simp only at hd
    refine hin _ _ _ hd ?_
    have hnorm : ∀ e' a' h', Ext ds e e' → Agree n e' a' → ∀ r, e'.tup ss = some r → k.norm (e.join ds ss r) h' Q → Ψ .normal a' h' :=
      fun e' a' h' hx hA r ht hq => hk.norm _ a' h' (join_ext hss r) (hA.join hx ht) hq
    refine ⟨fun e' a' h' hx hA hq => ?_, fun a' h' vs r hdf hres hr hq => (by cases hr), fun id g e' a' h' r hg hx hA hr hq => ?_⟩
    · obtain ⟨r, hr, hq⟩ := pureO_sound hq
      exact hnorm e' a' h' hx hA r hr hq
    · cases ex with
      | none => cases hg
      | some x =>
        simp only [exitGet] at hg
        simp only [inBlk]
        cases hb : Nat.beq x id with
        | true =>
          simp only [hb] at hg
          cases hg
          have := Nat.eq_of_beq_eq_true hb
          subst this
          rw [if_pos rfl]
          exact hnorm e' a' h' hx hA r hr hq
        | false => simp only [hb] at hg; cases hg
theorem wp_loop_rel {c : Code} {Q : Exit → Act → World → Prop} {σ : Type} (J : σ → Act → World → Prop) (μ : σ → World → Nat) (round : ∀ s a w, J s a w → c.wp P (Exit.then (fun a' w' => ∃ s', J s' a' w' ∧ μ s' w' < μ s w) Q) a w)
    {s : σ} {a : Act} {w : World} (h0 : J s a w) : (Code.loop c).wp P Q a w := by
  intro b k cs
  have key : ∀ m s a w, μ s w = m → J s a w → ∃ e a' w', Q e a' w' ∧ Arrives P (lone (b.at a (.code c :: .inLoop c :: k)) cs w) b k cs e a' w' := by
    intro m
    induction m using Nat.strongRecOn with
    | _ m ih =>
      intro s a w hm hJ
      obtain ⟨e, a1, w1, hq, harr⟩ := round s a w hJ b (.inLoop c :: k) cs
      cases e with
      | normal =>
        obtain ⟨s', hJ', hlt⟩ := hq
        obtain ⟨e2, a2, w2, hq2, harr2⟩ := ih (μ s' w1) (hm ▸ hlt) s' a1 w1 rfl hJ'
        exact ⟨e2, a2, w2, hq2, .of_steps (Steps.trans harr (.one step_inLoop)) harr2⟩
      | exit id => exact ⟨_, a1, w1, hq, .pass (x := .inLoop c) rfl (fun _ _ => .inl (by simp)) harr⟩
      | goto l => exact ⟨_, a1, w1, hq, .pass (x := .inLoop c) rfl (fun _ _ => .inl (by simp)) harr⟩
      | ret => exact ⟨_, a1, w1, hq, .pass (x := .inLoop c) rfl (fun _ _ => .inl (by simp)) harr⟩
      | panic ch => exact ⟨_, a1, w1, hq, .pass (x := .inLoop c) rfl (fun _ _ => .inl (by simp)) harr⟩
      | outgrown => exact ⟨_, a1, w1, hq, .pass (x := .inLoop c) rfl (fun _ _ => .inl (by simp)) harr⟩
  obtain ⟨e, a', w', hq, harr⟩ := key _ s a w rfl h0
  exact ⟨e, a', w', hq, .of_steps (.one step_loop) harr⟩
theorem den_sound (hm : P.follows .mixedOrders = true) (hC : ∀ f, f ∈ C → CallOK P f) : ∀ (c : Code) (ρ : Type) (e : Env) (k : KK ρ) (h : Heap) (Q : ρ → Heap → Prop) (a : Act) (Ψ : Exit → Act → Heap → Prop),
    den P C n live lc rs c ρ e k h Q → Agree n e a → KOK P n rs (dsts c) e k Q Ψ → HW P c a h Ψ := by
  intro c
  induction c with
  | skip =>
    intro ρ e k h Q a Ψ hd hA hk w hw
    subst hw
    exact wp_skip ⟨Same.refl w, hk.norm e a _ (Ext.refl _ _) hA hd⟩
  | region id ops draw =>
    intro ρ e k h Q a Ψ hd hA hk
    exact denRegion_sound hm hC hd hA hk.norm
  | seq x y ihx ihy =>
    intro ρ e k h Q a Ψ hd hA hk
    have h1 := ihx ρ e { k with norm := fun e' => den P C n live lc rs y ρ e' k } h Q a (fun ex a' h' => match ex with | .normal => HW P y a' h' Ψ | ex => Ψ ex a' h') hd hA
      ⟨fun e' a' h' hx hA' hq => ihy ρ e' k h' Q a' Ψ hq hA' (hk.at (fun t ht => List.mem_append_right _ ht) (hx.mono fun t ht => List.mem_append_left _ ht)),
       fun a' h' vs r hdf hres hr hq => hk.ret a' h' vs r hdf hres hr hq,
       fun id g e' a' h' r hg hx hA' hr hq => hk.exits id g e' a' h' r hg (hx.mono fun t ht => List.mem_append_left _ ht) hA' hr hq⟩
    intro w hw
    refine wp_seq (wp_mono (h1 w hw) ?_)
    rintro ex a' w' ⟨hs, hq⟩
    cases ex with
    | normal => exact wp_mono (hq w' rfl) fun ex2 a2 w2 ⟨hs2, hq2⟩ => ⟨hs.trans hs2, hq2⟩
    | exit id => exact ⟨hs, hq⟩
    | goto l => exact ⟨hs, hq⟩
    | ret => exact ⟨hs, hq⟩
    | panic ch => exact ⟨hs, hq⟩
    | outgrown => exact ⟨hs, hq⟩
  | cond c x y ihx ihy =>
    intro ρ e k h Q a Ψ hd hA hk
    simp only [den] at hd
    cases hc : e.ev c with
    | none => simp only [hc] at hd; exact hd.elim
    | some v =>
      cases v <;> simp only [hc] at hd <;> try exact hd.elim
      rename_i t
      have hev := hA.ev hc
      have inner : ∀ (ρ' : Type) (k' : KK ρ') (Q' : ρ' → Heap → Prop), HM.ite t (den P C n live lc rs x ρ' e k') (den P C n live lc rs y ρ' e k') h Q' → KOK P n rs (dsts x ++ dsts y) e k' Q' Ψ → HW P (.cond c x y) a h Ψ := by
        intro ρ' k' Q' hd hk w hw
        refine wp_cond hev ?_
        simp only [HM.ite] at hd
        cases t with
        | true =>
          rw [if_pos rfl] at hd ⊢
          exact ihx ρ' e k' h Q' a Ψ hd hA (hk.at (fun t ht => List.mem_append_left _ ht) (Ext.refl _ _)) w hw
        | false =>
          rw [if_neg (by simp)] at hd ⊢
          exact ihy ρ' e k' h Q' a Ψ hd hA (hk.at (fun t ht => List.mem_append_right _ ht) (Ext.refl _ _)) w hw
      cases hn : canNorm x && canNorm y with
      | false => simp only [hn] at hd; exact inner ρ k Q hd hk
      | true =>
        simp only [hn] at hd
        have e0 : inBlk none Ψ = Ψ := by
          funext ex a' h'
          cases ex <;> simp [inBlk]
        exact joinK_sound (fun p hp => carried_sub e _ p hp) hk hd (fun ρ' k' Q' hi hk' => inner ρ' k' Q' hi (by rw [e0] at hk'; exact hk'))
  | block id x ih =>
    intro ρ e k h Q a Ψ hd hA hk
    have fin : HW P x a h (inBlk (some id) Ψ) → HW P (.block id x) a h Ψ := by
      intro hx w hw
      refine wp_block (wp_mono (hx w hw) ?_)
      rintro ex a' w' ⟨hs, hq⟩
      cases ex with
      | exit id' =>
        simp only [inBlk] at hq
        simp only [Exit.inBlock]
        by_cases hid : id' = id
        · subst hid; rw [if_pos rfl] at hq ⊢; exact ⟨hs, hq⟩
        · rw [if_neg (by intro hh; cases hh; exact hid rfl)] at hq
          rw [if_neg hid]
          exact ⟨hs, hq⟩
      | normal => exact ⟨hs, hq⟩
      | goto l => exact ⟨hs, hq⟩
      | ret => exact ⟨hs, hq⟩
      | panic ch => exact ⟨hs, hq⟩
      | outgrown => exact ⟨hs, hq⟩
    simp only [den] at hd
    cases hx : canNorm.canExit id x with
    | true =>
      simp only [hx] at hd
      exact joinK_sound (fun p hp => carried_sub e _ p hp) hk hd (fun ρ' k' Q' hi hk' => fin (ih ρ' e k' h Q' a _ hi hA hk'))
    | false =>
      simp only [hx] at hd
      refine fin (ih ρ e _ h Q a _ hd hA ⟨hk.norm, hk.ret, fun id' g e' a' h' r hg hx hA' hr hq => ?_⟩)
      obtain ⟨h1, h2⟩ := exitGet_drop id _ _ _ hg
      simp only [inBlk]
      rw [if_neg (by intro hh; cases hh; exact h1 rfl)]
      exact hk.exits id' g e' a' h' r h2 hx hA' hr hq
  | loop x ih =>
    intro ρ e k h Q a Ψ hd hA hk
    simp only [den] at hd
    cases ht : e.tup (carried lc e (dsts x)) with
    | none => simp only [ht] at hd; exact hd.elim
    | some s0 =>
      simp only [ht] at hd
      obtain ⟨I, μ, hI, hround⟩ := hd
      have hss : ∀ p ∈ carried lc e (dsts x), p.1 ∈ dsts x := fun p hp => carried_sub e _ p hp
      intro w0 hw0
      refine wp_loop_rel (J := fun y a w => Same w0 w ∧ Agree n (e.join (dsts x) (carried lc e (dsts x)) y) a ∧ I y w.heap) (μ := fun y w => μ y w.heap) ?_ (s := s0) ⟨Same.refl _, hA.join (Ext.refl _ _) ht, by rw [hw0]; exact hI⟩
      rintro y a1 w1 ⟨hs1, hA1, hI1⟩
      have hb := hround y w1.heap hI1
      have := ih _ _ _ w1.heap _ a1 (fun ex a' h' => match ex with
        | .normal => ∃ s', Agree n (e.join (dsts x) (carried lc e (dsts x)) s') a' ∧ I s' h' ∧ μ s' h' < μ y w1.heap
        | ex => Ψ ex a' h') hb hA1 ⟨fun e' a' h' hx hA' hq => ?_, fun a' h' vs r hdf hres hr hq => ?_, fun id g e' a' h' r hg hx hA' hr hq => ?_⟩
      · refine wp_mono (this w1 rfl) ?_
        rintro ex a' w' ⟨hs, hq⟩
        cases ex with
        | normal =>
          obtain ⟨s', h1, h2, h3⟩ := hq
          exact ⟨s', ⟨hs1.trans hs, h1, h2⟩, h3⟩
        | exit id => exact ⟨hs1.trans hs, hq⟩
        | goto l => exact ⟨hs1.trans hs, hq⟩
        | ret => exact ⟨hs1.trans hs, hq⟩
        | panic ch => exact ⟨hs1.trans hs, hq⟩
        | outgrown => exact ⟨hs1.trans hs, hq⟩
      · obtain ⟨r, hr, hq⟩ := pureO_sound hq
        cases ht' : e'.tup (carried lc e (dsts x)) with
        | none => rw [ht'] at hr; cases hr
        | some z =>
          rw [ht'] at hr; cases hr
          exact ⟨z, hA'.join ((join_ext hss y).trans hx) ht', hq.1, hq.2⟩
      · simp only [mapRet] at hr
        cases hkr : k.ret vs with
        | none => simp only [hkr] at hr; cases hr
        | some r0 => simp only [hkr] at hr; cases hr; exact hk.ret a' h' vs r0 hdf hres hkr hq
      · obtain ⟨g1, h1, h2⟩ := exitGet_map _ _ _ hg
        obtain ⟨r0, h3, h4⟩ := h2 e' r hr
        subst h4
        exact hk.exits id g1 e' a' h' r0 h1 ((join_ext hss y).trans hx) hA' h3 hq
  | exit id =>
    intro ρ e k h Q a Ψ hd hA hk w hw
    subst hw
    simp only [den] at hd
    cases hg : exitGet k.exits id with
    | none => simp only [hg] at hd; exact hd.elim
    | some g =>
      simp only [hg] at hd
      obtain ⟨r, hr, hq⟩ := pureO_sound hd
      exact wp_exit ⟨Same.refl w, hk.exits id g e a _ r hg (Ext.refl _ _) hA hr hq⟩
  | ret =>
    intro ρ e k h Q a Ψ hd hA hk w hw
    subst hw
    simp only [den] at hd
    obtain ⟨vs, hvs, hq⟩ := denRet_sound hA rs _ hd
    obtain ⟨r, hr, hq⟩ := pureO_sound hq
    exact wp_ret ⟨Same.refl w, hk.ret a _ vs r hA.defers hvs hr hq⟩
  | _ => intro ρ e k h Q a Ψ hd hA hk; exact hd.elim
def packV : List Value → Value
  | [v] => v
  | vs => .tuple vs.toArray
def packed (ks : List Kind) (x : KTup ks) : Value := packV (KTup.vals ks x)
theorem results_run {fn : Func} {a : Act} {w : World} {vs : List Value} (h : ResOK P fn.results.toList a w.heap vs) : (results fn a.tmps).run P w = .ok (packV vs) w := by
  have hm : (fn.results.mapM (resOf a)).run P w = .ok vs.toArray w := by
    rw [Array.mapM_eq_mapM_toList]
    simp only [Sem.run_map]
    rw [h w rfl]
    rfl
  have e1 : results fn a.tmps = (do let vs ← fn.results.mapM (resOf a); pure (if h : vs.size = 1 then vs[0] else .tuple vs)) := by
    unfold results
    congr 1
  rw [e1]
  simp only [Sem.run_bind, hm, Result.andThen_ok, Sem.run_pure]
  congr 1
  match vs with
  | [] => rfl
  | [v] => rfl
  | u :: v :: r => rfl
theorem get_args : ∀ (args : List Value) (i t : Nat) (v : Value), Env.get ((args.zipIdx i).map fun (v, i) => (i, v)) t = some v → i ≤ t ∧ args[t - i]? = some v
  | [], _, _, _, h => by cases h
  | x :: args, i, t, v, h => by
    simp only [List.zipIdx_cons, List.map_cons, Env.get] at h
    cases hb : Nat.beq i t with
    | true =>
      rw [hb] at h
      have := Nat.eq_of_beq_eq_true hb
      subst this
      cases h
      simp
    | false =>
      rw [hb] at h
      obtain ⟨h1, h2⟩ := get_args args (i + 1) t v h
      refine ⟨by omega, ?_⟩
      rw [show t - i = (t - (i + 1)) + 1 from by omega]
      simpa using h2
theorem calls_of_den {f : FuncId} {fn : Func} {ks : List Kind} {args : List Value} {h : Heap} {Q : Value → Heap → Prop} (hf : P.funcs[f]? = some fn) (hb : fn.body.isSome = true) (hn : fn.ntmps = n) (hlen : Nat.ble args.length n = true)
    (hC : ∀ f, f ∈ C → CallOK P f) (hm : P.follows .mixedOrders = true) (hd : denFn P C n live lc fn.results.toList ks (bodyOf fn) args h fun x h' => Q (packed ks x) h') : HCalls P f args.toArray h Q := by
  obtain ⟨c, hc⟩ := Option.isSome_iff_exists.1 hb
  have hbody : bodyOf fn = c := by simp [bodyOf, hc]
  rw [hbody] at hd
  intro w hw
  subst hw
  refine calls_of_wp hf hc ?_
  have hle := Nat.le_of_ble_eq_true hlen
  have hA : Agree n (args.zipIdx.map fun (v, i) => (i, v)) { tmps := args.toArray ++ Array.replicate (fn.ntmps - args.toArray.size) undef, defers := [] } := by
    refine ⟨by simp [hn]; omega, rfl, fun t v ht => ?_⟩
    obtain ⟨-, h2⟩ := get_args args 0 t v ht
    simp only [Nat.sub_zero] at h2
    have hlt : t < args.length := by
      rcases Nat.lt_or_ge t args.length with hh | hh
      · exact hh
      · rw [List.getElem?_eq_none hh] at h2; cases h2
    simp [Array.getElem?_append, hlt, h2]
    rw [List.getElem?_eq_getElem hlt] at h2
    exact Option.some.inj h2
  have hfin : ∀ (a' : Act) (h' : Heap) (vs : List Value) (r : KTup ks), a'.defers = [] → ResOK P fn.results.toList a' h' vs → KTup.get ks vs = some r → Q (packed ks r) h' →
      a'.defers = [] ∧ ∃ v, (∀ w', w'.heap = h' → (results fn a'.tmps).run P w' = .ok v w') ∧ Q v h' := by
    intro a' h' vs r hdf hres hr hq
    refine ⟨hdf, packV vs, fun w' hw' => by subst hw'; exact results_run hres, ?_⟩
    have := KTup.get_vals _ _ _ hr
    rw [this]; exact hq
  have hsound := den_sound (live := live) (lc := lc) (rs := fn.results.toList) hm hC c (KTup ks) _ _ w.heap _ _
    (fun ex a' h' => match ex with
      | .normal => a'.defers = [] ∧ ∃ v, (∀ w', w'.heap = h' → (results fn a'.tmps).run P w' = .ok v w') ∧ Q v h'
      | .ret => a'.defers = [] ∧ ∃ v, (∀ w', w'.heap = h' → (results fn a'.tmps).run P w' = .ok v w') ∧ Q v h'
      | _ => False) hd hA
    ⟨fun e' a' h' hx hA' hq => by
      obtain ⟨vs, hvs, hq⟩ := denRet_sound hA' _ _ hq
      obtain ⟨r, hr, hq⟩ := pureO_sound hq
      exact hfin a' h' vs r hA'.defers hvs hr hq,
     fun a' h' vs r hdf hres hr hq => hfin a' h' vs r hdf hres hr hq,
     fun id g e' a' h' r hg => by cases hg⟩
  refine wp_mono (hsound w rfl) ?_
  rintro ex a' w' ⟨hs, hq⟩
  cases ex with
  | normal =>
    obtain ⟨hdf, v, hv, hq⟩ := hq
    exact ⟨hdf, v, hv w' rfl, v, rfl, hs, hq⟩
  | ret =>
    obtain ⟨hdf, v, hv, hq⟩ := hq
    exact ⟨hdf, v, hv w' rfl, v, rfl, hs, hq⟩
  | exit id => exact hq.elim
  | goto l => exact hq.elim
  | panic ch => exact hq.elim
  | outgrown => exact hq.elim
end
end Go.H
