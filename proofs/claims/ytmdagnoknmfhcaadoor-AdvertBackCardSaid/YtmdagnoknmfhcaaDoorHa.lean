/-
  Ha: a layer over the walk: heaps without the rest of the world, specifications as predicate transformers, and 'den': what a function's code means in them.
-/
import Derived.Calls
import Derived.Orders
import Derived.Laws.Sem
import Derived.Laws.World
namespace Go.H
set_option linter.unusedSimpArgs false
set_option linter.unusedVariables false

abbrev Heap := Array Obj

def cellH (h : Heap) (a : Addr) : Option Value :=
  match h[a.block]? with
  | some (.cells c _ _) => if a.spot.isSome then none else c[a.off]?
  | _ => none

def frozenH (h : Heap) (a : Addr) : Bool :=
  match h[a.block]? with
  | some (.cells _ _ (lo, hi)) => lo ≤ a.off && a.off < hi
  | _ => false

def setCellH (h : Heap) (a : Addr) (v : Value) : Heap :=
  h.modify a.block fun
    | .cells c elem frozen => .cells (if a.spot.isSome then c else c.setIfInBounds a.off v) elem frozen
    | o => o

theorem cell_eq (w : World) (a : Addr) : w.cell? a = cellH w.heap a := rfl
theorem frozen_eq (w : World) (a : Addr) : w.frozen? a = frozenH w.heap a := rfl
theorem setCell_heap (w : World) (a : Addr) (v : Value) : (w.setCell a v).heap = setCellH w.heap a v := rfl

/-- All but the heap and the count of draws is as it was. -/
structure Same (w w' : World) : Prop where
  os : w'.os = w.os
  tape : w'.tape = w.tape
  output : w'.output = w.output

theorem Same.refl (w : World) : Same w w := ⟨rfl, rfl, rfl⟩
theorem Same.trans {a b c : World} (h : Same a b) (k : Same b c) : Same a c := ⟨k.os.trans h.os, k.tape.trans h.tape, k.output.trans h.output⟩

/-- A call from the heap h comes back with a value and a heap of which Q holds. -/
def HCalls (P : Program) (f : FuncId) (args : Array Value) (h : Heap) (Q : Value → Heap → Prop) : Prop :=
  ∀ w, w.heap = h → Calls P f args w fun e w' => ∃ v, e = .returned v ∧ Same w w' ∧ Q v w'.heap

theorem HCalls.mono {P : Program} {f : FuncId} {args : Array Value} {h : Heap} {Q Q' : Value → Heap → Prop}
    (hc : HCalls P f args h Q) (hq : ∀ v h', Q v h' → Q' v h') : HCalls P f args h Q' :=
  fun w hw => (hc w hw).mono fun _ _ ⟨v, he, hs, q⟩ => ⟨v, he, hs, hq _ _ q⟩

/-! ### values by their kinds -/

structure Slc where
  a : Option Addr
  len : Nat
  cap : Nat
  deriving Inhabited

inductive Tag where
  | int (k : IntKind) | bool | str | ptr | slc | map | any

abbrev Tag.ty : Tag → Type
  | .int _ => Int
  | .bool => Bool
  | .str => ByteArray
  | .ptr => Option Addr
  | .slc => Slc
  | .map => Option Nat
  | .any => Value

def Tag.val : (t : Tag) → t.ty → Value
  | .int k, n => .int k n
  | .bool, b => .bool b
  | .str, s => .string s
  | .ptr, p => .pointer p
  | .slc, s => .slice s.a s.len s.cap
  | .map, r => .map r
  | .any, v => v

def ikEq : IntKind → IntKind → Bool
  | .i8, .i8 => true
  | .i16, .i16 => true
  | .i32, .i32 => true
  | .i64, .i64 => true
  | .u8, .u8 => true
  | .u16, .u16 => true
  | .u32, .u32 => true
  | .u64, .u64 => true
  | _, _ => false

theorem ikEq_eq {a b : IntKind} (h : ikEq a b = true) : a = b := by
  cases a <;> cases b <;> first | rfl | cases h

def Tag.get : (t : Tag) → Value → Option t.ty
  | .int k, .int k' n => if ikEq k k' = true then some n else none
  | .bool, .bool b => some b
  | .str, .string s => some s
  | .ptr, .pointer p => some p
  | .slc, .slice a n c => some ⟨a, n, c⟩
  | .map, .map r => some r
  | .any, v => some v
  | _, _ => none

theorem Tag.get_val {t : Tag} {v : Value} {x : t.ty} (h : t.get v = some x) : v = t.val x := by
  cases t <;> cases v <;> simp [Tag.get] at h <;> (try (obtain ⟨h1, h2⟩ := h; have := ikEq_eq h1; subst this)) <;> simp_all [Tag.val]
  subst h; exact ⟨rfl, rfl, rfl⟩

/-- The tag of a value of one cell. -/
def Tag.of : Value → Option Tag
  | .int k _ => some (.int k)
  | .bool _ => some .bool
  | .string _ => some .str
  | .pointer _ => some .ptr
  | .slice .. => some .slc
  | .map _ => some .map
  | .agg _ => none
  | .tuple _ => none
  | _ => some .any

/-- Values of several kinds, one behind the other. -/
abbrev HT {α : Type} (ty : α → Type) : List α → Type
  | [] => Unit
  | t :: ts => ty t × HT ty ts

def HT.vals {α : Type} {ty : α → Type} (val : (t : α) → ty t → Value) : (ts : List α) → HT ty ts → List Value
  | [], _ => []
  | t :: ts, x => val t x.1 :: HT.vals val ts x.2

def HT.get {α : Type} {ty : α → Type} (get : (t : α) → Value → Option (ty t)) : (ts : List α) → List Value → Option (HT ty ts)
  | [], [] => some ()
  | [], _ :: _ => none
  | _ :: _, [] => none
  | t :: ts, v :: vs => match get t v with
    | some x => match HT.get get ts vs with
      | some y => some (x, y)
      | none => none
    | none => none

theorem HT.get_vals {α : Type} {ty : α → Type} {val : (t : α) → ty t → Value} {get : (t : α) → Value → Option (ty t)} (hg : ∀ t v x, get t v = some x → v = val t x)
    (ts : List α) : ∀ (vs : List Value) (x : HT ty ts), HT.get get ts vs = some x → vs = HT.vals val ts x := by
  induction ts with
  | nil => intro vs x h; cases vs with
    | nil => rfl
    | cons v vs => cases h
  | cons t ts ih => intro vs x h; cases vs with
    | nil => cases h
    | cons v vs =>
      simp only [HT.get] at h
      cases h1 : get t v with
      | none => rw [h1] at h; cases h
      | some y =>
        rw [h1] at h
        simp only at h
        cases h2 : HT.get get ts vs with
        | none => rw [h2] at h; cases h
        | some z =>
          rw [h2] at h
          cases h
          show v :: vs = val t y :: HT.vals val ts z
          rw [← ih vs z h2, ← hg t v y h1]

abbrev Tup (ts : List Tag) : Type := HT Tag.ty ts
abbrev Tup.vals (ts : List Tag) (x : Tup ts) : List Value := HT.vals Tag.val ts x
abbrev Tup.get (ts : List Tag) (vs : List Value) : Option (Tup ts) := HT.get Tag.get ts vs
theorem Tup.get_vals (ts : List Tag) (vs : List Value) (x : Tup ts) (h : Tup.get ts vs = some x) : vs = Tup.vals ts x :=
  HT.get_vals (val := Tag.val) (get := Tag.get) (fun t _ _ h => Tag.get_val (t := t) h) ts vs x h

inductive Kind where
  | one (t : Tag)
  | agg (ts : List Tag)

abbrev Kind.ty : Kind → Type
  | .one t => t.ty
  | .agg ts => Tup ts

def Kind.val : (k : Kind) → k.ty → Value
  | .one t, x => t.val x
  | .agg ts, x => .agg (Tup.vals ts x).toArray

def Kind.get : (k : Kind) → Value → Option k.ty
  | .one t, v => t.get v
  | .agg ts, .agg cs => Tup.get ts cs.toList
  | .agg _, _ => none

theorem Kind.get_val {k : Kind} {v : Value} {x : k.ty} (h : k.get v = some x) : v = k.val x := by
  cases k with
  | one t => exact Tag.get_val h
  | agg ts =>
    cases v <;> simp only [Kind.get] at h <;> try cases h
    rename_i cs
    simp only [Kind.val]
    rw [← Tup.get_vals ts _ x h]

def tagsOf : List Value → Option (List Tag)
  | [] => some []
  | v :: vs => match Tag.of v with
    | some t => match tagsOf vs with
      | some ts => some (t :: ts)
      | none => none
    | none => none

def Kind.of : Value → Option Kind
  | .agg cs => match tagsOf cs.toList with
    | some ts => some (.agg ts)
    | none => none
  | v => match Tag.of v with
    | some t => some (.one t)
    | none => none

/-- The kind of a type's values: read off its zero value. -/
def kindOf (P : Program) (t : TypeId) : Option Kind :=
  match P.info? t with
  | some i => match i.zero with
    | some z => Kind.of z
    | none => none
  | none => none

abbrev KTup (ks : List Kind) : Type := HT Kind.ty ks
abbrev KTup.vals (ks : List Kind) (x : KTup ks) : List Value := HT.vals Kind.val ks x
abbrev KTup.get (ks : List Kind) (vs : List Value) : Option (KTup ks) := HT.get Kind.get ks vs
theorem KTup.get_vals (ks : List Kind) (vs : List Value) (x : KTup ks) (h : KTup.get ks vs = some x) : vs = KTup.vals ks x :=
  HT.get_vals (val := Kind.val) (get := Kind.get) (fun k _ _ h => Kind.get_val (k := k) h) ks vs x h

/-! ### the specification monad -/

abbrev HM (α : Type) : Type := Heap → (α → Heap → Prop) → Prop

def HM.pure {α : Type} (a : α) : HM α := fun h Q => Q a h
def HM.bind {α β : Type} (m : HM α) (f : α → HM β) : HM β := fun h Q => m h fun a h' => f a h' Q
def HM.fail {α : Type} : HM α := fun _ _ => False
def HM.ite {α : Type} (b : Bool) (x y : HM α) : HM α := fun h Q => if b = true then x h Q else y h Q
def HM.req {α : Type} (p : Prop) (m : HM α) : HM α := fun h Q => p ∧ m h Q
/-- whichever of two ways is gone -/
def HM.both {α : Type} (x y : HM α) : HM α := fun h Q => x h Q ∧ y h Q
def HM.loop {σ τ : Type} (body : σ → HM (σ ⊕ τ)) (s : σ) : HM τ := fun h Q =>
  ∃ (I : σ → Heap → Prop) (μ : σ → Heap → Nat), I s h ∧ ∀ s h, I s h →
    body s h fun r h' => match r with
      | .inl s' => I s' h' ∧ μ s' h' < μ s h
      | .inr t => Q t h'

/-! #### memory -/

def HM.load1 (t : Tag) (a : Addr) : HM t.ty := fun h Q => ∃ x, cellH h a = some (t.val x) ∧ Q x h
/-- so many cells in a row, from number i on -/
def HM.loadN (ts : List Tag) (a : Addr) : HM (Tup ts) := fun h Q =>
  ∃ x, (∀ i v, (Tup.vals ts x)[i]? = some v → cellH h (a.add i) = some v) ∧ Q x h
def HM.store1 (a : Addr) (v : Value) : HM Unit := fun h Q =>
  (cellH h a).isSome = true ∧ frozenH h a = false ∧ v.oneCell' = true ∧ Q () (setCellH h a v)
def setCellsH (h : Heap) (a : Addr) : List Value → Nat → Heap
  | [], _ => h
  | v :: vs, i => setCellsH (setCellH h (a.add i) v) a vs (i + 1)
def HM.storeN (a : Addr) (vs : List Value) : HM Unit := fun h Q =>
  (∀ i v, vs[i]? = some v → (cellH h (a.add i)).isSome = true ∧ frozenH h (a.add i) = false ∧ v.oneCell' = true) ∧ Q () (setCellsH h a vs 0)
def HM.new (o : Obj) : HM Nat := fun h Q => Q h.size (h.push o)
def HM.nonnil (p : Option Addr) : HM Addr := fun h Q => ∃ a, p = some a ∧ Q a h
/-- the address of a slice's element -/
def HM.idx (a : Option Addr) (len : Nat) (i : Int) (size : Nat) : HM Addr := fun h Q =>
  ∃ x, a = some x ∧ 0 ≤ i ∧ i < (len : Int) ∧ Q (x.add (i.toNat * size)) h
def HM.strIdx (s : ByteArray) (i : Int) : HM Int := fun h Q =>
  ∃ b, 0 ≤ i ∧ s[i.toNat]? = some b ∧ Q (b.toNat : Int) h

/-! #### calls -/

def CallOK (P : Program) (f : FuncId) : Prop := ∀ args w, (callFunc f args).run P w = .ok (.enter f args) w

def HM.call1 (P : Program) (k : Kind) (f : FuncId) (args : Array Value) : HM k.ty := fun h Q =>
  HCalls P f args h fun v h' => ∃ x, v = k.val x ∧ Q x h'
def HM.callN (P : Program) (ks : List Kind) (f : FuncId) (args : Array Value) : HM (KTup ks) := fun h Q =>
  HCalls P f args h fun v h' => ∃ x, v = .tuple (KTup.vals ks x).toArray ∧ Q x h'
/-- a function value is called -/
def HM.callV1 (P : Program) (k : Kind) (v : Value) (args : Array Value) : HM k.ty := fun h Q =>
  ∃ f first captured, v = .func (.func f) first captured ∧ CallOK P f ∧ HCalls P f (first ++ args ++ captured) h fun v h' => ∃ x, v = k.val x ∧ Q x h'
def HM.callVN (P : Program) (ks : List Kind) (v : Value) (args : Array Value) : HM (KTup ks) := fun h Q =>
  ∃ f first captured, v = .func (.func f) first captured ∧ CallOK P f ∧ HCalls P f (first ++ args ++ captured) h fun v h' => ∃ x, v = .tuple (KTup.vals ks x).toArray ∧ Q x h'

/-! #### slices -/

def sliceOf (s : Slc) (lo hi mx : Nat) (size : Nat) : Slc :=
  ⟨if mx = lo then s.a else s.a.map (·.add (lo * size)), hi - lo, mx - lo⟩

/-- a bound of a slice expression that is given, or not -/
def optLe (x : Option Int) (none : Prop) (m bound : Nat) : Prop :=
  match x with
  | some x => x = (m : Int) ∧ m ≤ bound
  | .none => none

/-- 's[lo:hi:mx]' -/
def HM.slice (s : Slc) (lo hi mx : Option Int) (size : Nat) : HM Slc := fun h Q =>
  ∃ l hh m : Nat, optLe mx (m = s.cap) m s.cap ∧ optLe hi (mx = none ∧ hh = s.len) hh m ∧ optLe lo (l = 0) l hh ∧ Q (sliceOf s l hh m size) h
def HM.substr (s : ByteArray) (lo hi : Option Int) : HM ByteArray := fun h Q =>
  ∃ l hh : Nat, optLe hi (hh = s.size) hh s.size ∧ optLe lo (l = 0) l hh ∧ Q (s.extract l hh) h

/-- the cells of a slice's first n elements -/
def readsH (h : Heap) (a : Option Addr) (n : Nat) (vs : Array Value) : Prop :=
  match a with
  | some x => vs.size = n ∧ ∀ (i : Nat) v, vs[i]? = some v → cellH h (x.add i) = some v
  | none => vs = #[]

/-- append: 'n' elements of 'size' cells each, out of 'src'; 'bytes': an element's bytes; 'zero': its zero's cells. -/
def HM.append (elem : TypeId) (size bytes : Nat) (zero : Array Value) (s : Slc) (n : Nat) (src : Heap → Array Value → Prop) : HM Slc := fun h Q =>
  (s.len + n ≤ s.cap → ∃ vs, src h vs ∧
    match s.a with
    | some a => (∀ i v, vs[i]? = some v → (cellH h ((a.add (s.len * size)).add i)).isSome = true ∧ frozenH h ((a.add (s.len * size)).add i) = false ∧ v.oneCell' = true) ∧
        Q ⟨s.a, s.len + n, s.cap⟩ (setCellsH h (a.add (s.len * size)) vs.toList 0)
    | none => Q ⟨none, s.len + n, s.cap⟩ h) ∧
  (s.cap < s.len + n → (s.len + n : Nat) ≤ 9223372036854775807 ∧ Builtin.nextslicecap (s.len + n) s.cap * bytes ≤ 2 ^ 48 ∧ ∃ old vs, readsH h s.a (s.len * size) old ∧ src h vs ∧
    ∀ c, s.len + n ≤ c → c ≤ 9223372036854775807 → Q ⟨some ⟨h.size, 0, none⟩, s.len + n, c⟩ (h.push (.cells (old ++ vs ++ Builtin.zeroCells zero (c - (s.len + n))) elem)))

def srcSlc (size : Nat) (x : Slc) (h : Heap) (vs : Array Value) : Prop := readsH h x.a (x.len * size) vs
def srcStr (s : ByteArray) (_ : Heap) (vs : Array Value) : Prop := vs = s.data.map fun b => .int .u8 b.toNat

/-- make([]T, n, c) -/
def HM.makeSlice (elem : TypeId) (bytes : Nat) (zero : Array Value) (n c : Int) : HM Slc := fun h Q =>
  0 ≤ n ∧ n ≤ c ∧ c ≤ 9223372036854775807 ∧ (bytes : Int) * c ≤ 2 ^ 48 ∧
    Q ⟨some ⟨h.size, 0, none⟩, n.toNat, c.toNat⟩ (h.push (.cells (Builtin.zeroCells zero c.toNat) elem))

/-- copy: so many were copied -/
def HM.copy (d : Slc) (n : Nat) (src : Nat → Heap → Array Value → Prop) : HM Int := fun h Q =>
  ∃ vs, src (Nat.min n d.len) h vs ∧
    match d.a with
    | some a => (∀ i v, vs[i]? = some v → (cellH h (a.add i)).isSome = true ∧ frozenH h (a.add i) = false ∧ v.oneCell' = true) ∧ Q ((Nat.min n d.len : Nat) : Int) (setCellsH h a vs.toList 0)
    | none => Q ((Nat.min n d.len : Nat) : Int) h

/-! #### maps: the entries of a map, by a key that is an integer, a bool or a string -/

def entriesH (h : Heap) (r : Option Nat) (es : List MapEntry) (clock : Nat) : Prop :=
  match r with
  | none => es = [] ∧ clock = 0
  | some r => h[r]? = some (.map es.toArray clock)

/-- how keys are held against each other -/
abbrev SameK := Value → Value → Option Bool

/-- the place of a key among the entries: none where it isn't, no answer where keys aren't held against each other by their bits -/
def placeAt (sm : SameK) (k : Value) : List MapEntry → Nat → Option (Option (Nat × Value))
  | [], _ => some none
  | e :: es, i => match sm k e.key with
    | some true => some (some (i, e.val))
    | some false => placeAt sm k es (i + 1)
    | none => none
def placeOf (sm : SameK) (k : Value) (es : List MapEntry) : Option (Option (Nat × Value)) := placeAt sm k es 0

theorem placeAt_now (kd : TypeDesc) (k : Value) : ∀ (es : List MapEntry) (i : Nat), placeAt (Instr.sameNow kd) k es i = Instr.findNow kd k es i
  | [], _ => rfl
  | e :: es, i => by
    simp only [placeAt, Instr.findNow]
    rw [placeAt_now kd k es (i + 1)]
    cases Instr.sameNow kd k e.key with
    | none => rfl
    | some b => cases b <;> rfl

def HM.lookup (kd : SameK) (zero : Value) (k : Kind) (r : Option Nat) (key : Value) : HM (k.ty × Bool) := fun h Q =>
  ∃ es clock o x, entriesH h r es clock ∧ placeOf kd key es = some o ∧
    (match o with | some (_, v) => v = k.val x | none => zero = k.val x) ∧ Q (x, o.isSome) h

def HM.mapSet (kd : SameK) (r : Option Nat) (key val : Value) : HM Unit := fun h Q =>
  ∃ b es clock o, r = some b ∧ h[b]? = some (.map es clock) ∧ placeOf kd key es.toList = some o ∧
    match o with
    | some (i, _) => ((es[i]?).map (·.key)).getD key = key ∧ Instr.sameBits 10000 key key = true ∧ Q () (h.setIfInBounds b (.map (es.modify i fun e => { e with key := key, val := val }) clock))
    | none => Q () (h.setIfInBounds b (.map (es.push { key := key, val := val, born := clock }) (clock + 1)))

/-- a key's entry, to be set: its value, and its stamp -/
def HM.mapEntry (kd : SameK) (zero : Value) (k : Kind) (r : Option Nat) (key : Value) : HM (k.ty × Int) := fun h Q =>
  ∃ b es clock o, r = some b ∧ h[b]? = some (.map es clock) ∧ placeOf kd key es.toList = some o ∧
    match o with
    | some (i, v) => ((es[i]?).map (·.key)).getD key = key ∧ Instr.sameBits 10000 key key = true ∧
        ∃ x, v = k.val x ∧ Q (x, (((es[i]?).map (·.born)).getD 0 : Nat)) (h.setIfInBounds b (.map (es.modify i fun e => { e with key := key }) clock))
    | none => ∃ x, zero = k.val x ∧ Q (x, (clock : Int)) (h.setIfInBounds b (.map (es.push { key := key, val := zero, born := clock }) (clock + 1)))

def HM.entryStore (r : Option Nat) (stamp : Int) (val : Value) : HM Unit := fun h Q =>
  ∃ b es clock i, r = some b ∧ h[b]? = some (.map es clock) ∧ es.findIdx? (fun e => (e.born : Int) == stamp) = some i ∧
    Q () (h.setIfInBounds b (.map (es.modify i fun e => { e with val := val }) clock))

def HM.mapDel (kd : SameK) (r : Option Nat) (key : Value) : HM Unit := fun h Q =>
  match r with
  | none => Q () h
  | some b => ∃ es clock o, h[b]? = some (.map es clock) ∧ placeOf kd key es.toList = some o ∧
    match o with
    | some (i, _) => Q () (h.setIfInBounds b (.map (es.eraseIdxIfInBounds i) clock))
    | none => Q () (h.setIfInBounds b (.map es clock))

/-! #### ranges -/

/-- a walk over a map's entries begins -/
def HM.rangeM (r : Option Nat) : HM Nat := fun h Q =>
  match r with
  | none => Q h.size (h.push (.mapIter none 0 #[] 0))
  | some m => ∃ es clock, h[m]? = some (.map es clock) ∧ Q h.size (h.push (.mapIter (some m) clock #[] clock))

/-- its next entry: one of those that weren't met, any of them; it may be over where all that is left is new -/
def HM.nextM (b : Nat) : HM (Option (Value × Value)) := fun h Q =>
  ∃ m since seen last, h[b]? = some (.mapIter m since seen last) ∧
    match m with
    | none => Q none h
    | some m => ∃ es clock, h[m]? = some (.map es clock) ∧ (!seen.isEmpty && !es.isEmpty && es.all (fun e => e.born ≥ last)) = false ∧
        ((∀ e ∈ es, seen.contains e.born = false → since ≤ e.born) → Q none h) ∧
        ∀ e ∈ es, seen.contains e.born = false → Q (some (e.key, e.val)) (h.setIfInBounds b (.mapIter (some m) since (seen.push e.born) clock))

/-- the entry that was met -/
def HM.entryM (kk kv : Kind) (b : Nat) : HM (kk.ty × kv.ty) := fun h Q =>
  ∃ m since seen stepped es stamp e k v, h[b]? = some (.mapIter (some m) since seen stepped) ∧ seen.back? = some stamp ∧ h[m]? = some (.map es stepped) ∧
    es.find? (fun e => e.born == stamp) = some e ∧ e.key = kk.val k ∧ e.val = kv.val v ∧ Q (k, v) h

/-- the next character of a text: where, and which -/
def HM.nextS (b : Nat) : HM (Option (Int × Int)) := fun h Q =>
  ∃ s pos, h[b]? = some (.stringIter s pos) ∧
    (pos < s.size → Q (some ((pos : Int), ((Utf8.decode s pos).1 : Int))) (h.setIfInBounds b (.stringIter s (pos + (Utf8.decode s pos).2)))) ∧
    (¬ pos < s.size → Q none h)

def HM.opt {α β : Type} (o : Option α) (a : HM β) (f : α → HM β) : HM β := fun h Q =>
  match o with
  | none => a h Q
  | some x => f x h Q

/-! #### texts out of bytes -/

def bytesOfInts (ns : List Int) : ByteArray := ns.foldl (fun r n => r.push (UInt8.ofNat n.toNat)) ByteArray.empty
/-- 'string(b)' -/
def HM.strOf (s : Slc) : HM ByteArray := fun h Q => ∃ ns : List Int, readsH h s.a s.len (ns.map (Value.int .u8)).toArray ∧ Q (bytesOfInts ns) h

def HM.mapLen (r : Option Nat) : HM Int := fun h Q => ∃ es clock, entriesH h r es clock ∧ Q (es.length : Int) h

end Go.H
