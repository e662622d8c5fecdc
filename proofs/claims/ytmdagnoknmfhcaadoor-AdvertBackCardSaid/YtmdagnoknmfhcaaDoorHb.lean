/-
  Hb: 'den': what operations, regions and code mean over heaps.
-/
import Derived.Test.YtmdagnoknmfhcaaDoorHa
namespace Go.H
set_option linter.unusedSimpArgs false
set_option linter.unusedVariables false

abbrev Env := List (Nat × Value)

def Env.get : Env → Nat → Option Value
  | [], _ => none
  | (t, v) :: e, n => match Nat.beq t n with
    | true => some v
    | false => Env.get e n

def memN : Nat → List Nat → Bool
  | _, [] => false
  | n, t :: ts => match Nat.beq t n with
    | true => true
    | false => memN n ts

def Env.forget (ts : List Nat) : Env → Env
  | [] => []
  | (t, v) :: e => match memN t ts with
    | true => Env.forget ts e
    | false => (t, v) :: Env.forget ts e

def Env.put (e : Env) (dst : Option Tmp) (v : Value) : Env :=
  match dst with
  | some d => (d, v) :: e
  | none => e

def Env.ev (e : Env) : Operand → Option Value
  | .tmp t => e.get t
  | .const v => some v
  | .global g => some (.pointer (some ⟨g, 0, none⟩))
  | .func f => some (.func (.func f) #[] #[])

def Env.evs (e : Env) : List Operand → Option (List Value)
  | [] => some []
  | x :: xs => match e.ev x with
    | some v => match Env.evs e xs with
      | some vs => some (v :: vs)
      | none => none
    | none => none

def bitOp (op : BinOp) (k : IntKind) (x y : Int) : Int :=
  let a := BitVec.ofInt k.bits x
  let b := BitVec.ofInt k.bits y
  match op with
  | .and => k.wrap (a &&& b).toNat
  | .or => k.wrap (a ||| b).toNat
  | .xor => k.wrap (a ^^^ b).toNat
  | _ => k.wrap (a &&& ~~~b).toNat

def isNilI : Value → Bool
  | .nilIface => true
  | _ => false
def isIface : Value → Bool
  | .nilIface => true
  | .iface _ _ => true
  | _ => false
def isNilF : Value → Bool
  | .nilFunc => true
  | _ => false
def isFunc : Value → Bool
  | .nilFunc => true
  | .func _ _ _ => true
  | _ => false

section
variable {ρ : Type}

def eqRes (neg : Bool) (r : Bool) : Bool :=
  match neg with
  | true => !r
  | false => r

def denInt (op : BinOp) (kx ky : IntKind) (a b : Int) (k : Value → HM ρ) : HM ρ :=
  match op with
  | .shl => HM.req (0 ≤ b) (k (.int kx (kx.wrap (a * 2 ^ (min b.toNat kx.bits)))))
  | .shr => HM.req (0 ≤ b) (k (.int kx (a.fdiv (2 ^ (min b.toNat kx.bits)))))
  | op => match ikEq kx ky with
    | false => HM.fail
    | true => match op with
      | .add => k (.int kx (kx.wrap (a + b)))
      | .sub => k (.int kx (kx.wrap (a - b)))
      | .mul => k (.int kx (kx.wrap (a * b)))
      | .quo => HM.req (b ≠ 0) (k (.int kx (kx.wrap (a.tdiv b))))
      | .rem => HM.req (b ≠ 0) (k (.int kx (a.tmod b)))
      | .and => k (.int kx (bitOp .and kx a b))
      | .or => k (.int kx (bitOp .or kx a b))
      | .xor => k (.int kx (bitOp .xor kx a b))
      | .andNot => k (.int kx (bitOp .andNot kx a b))
      | .lss => k (.bool (decide (a < b)))
      | .leq => k (.bool (decide (a ≤ b)))
      | .gtr => k (.bool (decide (b < a)))
      | .geq => k (.bool (decide (b ≤ a)))
      | _ => HM.fail

def denStr (op : BinOp) (a b : ByteArray) (k : Value → HM ρ) : HM ρ :=
  match op with
  | .add => HM.req (a.size + b.size ≤ 9223372036854775807) (k (.string (a ++ b)))
  | .lss => k (.bool (Op.bytesLess a.toList b.toList))
  | .leq => k (.bool (Op.bytesLess a.toList b.toList || a.toList == b.toList))
  | .gtr => k (.bool !(Op.bytesLess a.toList b.toList || a.toList == b.toList))
  | .geq => k (.bool !(Op.bytesLess a.toList b.toList))
  | _ => HM.fail

def isAggD : TypeDesc → Bool
  | .struct _ => true
  | .array _ _ => true
  | _ => false

/-- a part of a struct's or an array's value -/
def partAs (P : Program) (t : TypeId) (cs : List Value) (off : Nat) : Option Value :=
  match P.underlying t with
  | some d => match isAggD d with
    | true => some (.agg ((cs.drop off).take (P.cellsOf t)).toArray)
    | false => cs[off]?
  | none => none

/-- '==' of the fields of two structs -/
def eqFs (P : Program) (rec : TypeId → Value → Value → Option Bool) (xs ys : List Value) : List Field → Option Bool
  | [] => some true
  | f :: fs => match decide (f.name = "_") with
    | true => none
    | false => match partAs P f.type xs f.offset with
      | none => none
      | some a => match partAs P f.type ys f.offset with
        | none => none
        | some b => match rec f.type a b with
          | none => none
          | some r => match eqFs P rec xs ys fs with
            | none => none
            | some r' => some (r && r')

/-- '==' of values of numbers, bools, texts, and structs of such -/
def eqTy (P : Program) : Nat → TypeId → Value → Value → Option Bool
  | 0, _, _, _ => none
  | d + 1, t, x, y => match P.underlying t with
    | some (.int _) => match x, y with
      | .int k a, .int k' b => match ikEq k k' with
        | true => some (a == b)
        | false => none
      | _, _ => none
    | some .bool => match x, y with
      | .bool a, .bool b => some (a == b)
      | _, _ => none
    | some .string => match x, y with
      | .string a, .string b => some (decide (a = b))
      | _, _ => none
    | some (.struct fs) => match P.stoodInHeld t with
      | true => none
      | false => match x, y with
        | .agg xs, .agg ys => eqFs P (eqTy P d) xs.toList ys.toList fs.toList
        | _, _ => none
    | _ => none

/-- '==' and '!=' -/
def denEq (P : Program) (neg : Bool) (t : TypeId) (yo : Operand) (x y : Value) (k : Value → HM ρ) : HM ρ :=
  match P.underlying t with
  | some (.pointer _) => match yo with
    | .const (.pointer none) => match x with
      | .pointer p => k (.bool (eqRes neg p.isNone))
      | _ => HM.fail
    | _ => HM.fail
  | some (.slice _) => match yo with
    | .const (.slice none _ _) => match x with
      | .slice p _ _ => k (.bool (eqRes neg p.isNone))
      | _ => HM.fail
    | _ => HM.fail
  | some (.map _ _) => match yo with
    | .const (.map none) => match x with
      | .map p => k (.bool (eqRes neg p.isNone))
      | _ => HM.fail
    | _ => HM.fail
  | some (.interface _) => match yo with
    | .const .nilIface => HM.req (isIface x = true) (k (.bool (eqRes neg (isNilI x))))
    | _ => HM.fail
  | some (.func _ _ _) => match yo with
    | .const .nilFunc => HM.req (isFunc x = true) (k (.bool (eqRes neg (isNilF x))))
    | _ => HM.fail
  | some (.int _) => match x, y with
    | .int kx a, .int ky b => match ikEq kx ky with
      | true => k (.bool (eqRes neg (a == b)))
      | false => HM.fail
    | _, _ => HM.fail
  | some .bool => match x, y with
    | .bool a, .bool b => k (.bool (eqRes neg (a == b)))
    | _, _ => HM.fail
  | some .string => match x, y with
    | .string a, .string b => k (.bool (eqRes neg (decide (a = b))))
    | _, _ => HM.fail
  | some (.struct _) => match x with
    | .agg _ => match eqTy P 8 t x y with
      | some r => k (.bool (eqRes neg r))
      | none => HM.fail
    | _ => HM.fail
  | _ => HM.fail

def denBin (P : Program) (op : BinOp) (t : TypeId) (yo : Operand) (x y : Value) (k : Value → HM ρ) : HM ρ :=
  match op with
  | .eql => denEq P false t yo x y k
  | .neq => denEq P true t yo x y k
  | op => match x, y with
    | .int kx a, .int ky b => denInt op kx ky a b k
    | .string a, .string b => denStr op a b k
    | _, _ => HM.fail

def denUn (op : UnOp) (x : Value) (k : Value → HM ρ) : HM ρ :=
  match op, x with
  | .not, .bool b => k (.bool !b)
  | .neg, .int kd n => k (.int kd (kd.wrap (0 - n)))
  | .xor, .int kd n => k (.int kd (bitOp .xor kd (if kd.signed then -1 else kd.max) n))
  | _, _ => HM.fail

def denLoad (P : Program) (t : TypeId) (x : Value) (k : Value → HM ρ) : HM ρ :=
  match x with
  | .pointer (some a) => match P.underlying t with
    | some d => match isAggD d with
      | true => match kindOf P t with
        | some (.agg ts) => match Nat.beq ts.length (P.cellsOf t) with
          | true => (HM.loadN ts a).bind fun vs => k (.agg (Tup.vals ts vs).toArray)
          | false => HM.fail
        | _ => HM.fail
      | false => match kindOf P t with
        | some (.one tg) => (HM.load1 tg a).bind fun v => k (tg.val v)
        | _ => HM.fail
    | none => HM.fail
  | _ => HM.fail

/-- the cells of a value of this kind -/
def cellsAs (kd : Kind) (v : Value) : Option (List Value) :=
  match kd with
  | .one _ => some [v]
  | .agg ts => match v with
    | .agg cs => match Nat.beq cs.toList.length ts.length with
      | true => some cs.toList
      | false => none
    | _ => none

def Tag.isAny : Tag → Bool
  | .any => true
  | _ => false

/-- a value of one cell: to be shown only where its constructor isn't known -/
def reqOne (kd : Kind) (v : Value) (m : HM ρ) : HM ρ :=
  match kd with
  | .one tg => match tg.isAny with
    | true => HM.req (v.oneCell' = true) m
    | false => match tg.get v with
      | some _ => m
      | none => HM.fail
  | .agg _ => m

def denStore (P : Program) (t : TypeId) (x v : Value) (k : Value → HM ρ) : HM ρ :=
  match x with
  | .pointer (some a) => match kindOf P t with
    | some kd => match cellsAs kd v with
      | some cs => match Nat.beq cs.length (P.cellsOf t) with
        | true => match kd with
          | .one _ => (HM.store1 a v).bind fun _ => k undef
          | .agg _ => (HM.storeN a cs).bind fun _ => k undef
        | false => HM.fail
      | none => HM.fail
    | none => HM.fail
  | _ => HM.fail

def denBox (P : Program) (t : TypeId) (v : Value) (k : Value → HM ρ) : HM ρ :=
  match kindOf P t with
  | some kd => match cellsAs kd v with
    | some cs => reqOne kd v ((HM.new (.cells cs.toArray t)).bind fun r => k (.pointer (some ⟨r, 0, none⟩)))
    | none => HM.fail
  | none => HM.fail

def denAlloc (P : Program) (t : TypeId) (k : Value → HM ρ) : HM ρ :=
  match P.info? t with
  | some i => match i.zero with
    | some z => (HM.new (.cells z.cells t)).bind fun r => k (.pointer (some ⟨r, 0, none⟩))
    | none => HM.fail
  | none => HM.fail

/-- cells laid over others from a place on -/
def overlay : List Value → Nat → List Value → List Value
  | cs, _, [] => cs
  | [], _, _ :: _ => []
  | _ :: cs, 0, v :: vs => v :: overlay cs 0 vs
  | c :: cs, n + 1, v :: vs => c :: overlay cs n (v :: vs)

/-- parts laid over a zero value: 'place': where part number i lies, and its kind -/
def fillAs (place : Nat → Option (Nat × Kind)) : List Value → List (Nat × Value) → Option (List Value)
  | cs, [] => some cs
  | cs, (i, v) :: rest => match place i with
    | some (off, kd) => match cellsAs kd v with
      | some vs => match Nat.ble (off + vs.length) cs.length with
        | true => fillAs place (overlay cs off vs) rest
        | false => none
      | none => none
    | none => none

def reqParts (place : Nat → Option (Nat × Kind)) (ps : List (Nat × Value)) (m : HM ρ) : HM ρ :=
  match ps with
  | [] => m
  | (i, v) :: rest => match place i with
    | some (_, kd) => reqOne kd v (reqParts place rest m)
    | none => HM.fail

def evParts (e : Env) : List (Nat × Operand) → Option (List (Nat × Value))
  | [] => some []
  | (i, x) :: xs => match e.ev x with
    | some v => match evParts e xs with
      | some vs => some ((i, v) :: vs)
      | none => none
    | none => none

def fieldPlaces (P : Program) (fields : Array Field) (i : Nat) : Option (Nat × Kind) :=
  match fields.toList[i]? with
  | some f => match kindOf P f.type with
    | some kd => match kd with
      | .one tg => match Nat.beq (P.cellsOf f.type) 1 with
        | true => some (f.offset, .one tg)
        | false => none
      | .agg ts => match Nat.beq (P.cellsOf f.type) ts.length with
        | true => some (f.offset, .agg ts)
        | false => none
    | none => none
  | none => none

def elemPlaces (P : Program) (elem : TypeId) (i : Nat) : Option (Nat × Kind) :=
  match kindOf P elem with
  | some kd => match kd with
    | .one tg => match Nat.beq (P.cellsOf elem) 1 with
      | true => some (i, .one tg)
      | false => none
    | .agg ts => match Nat.beq (P.cellsOf elem) ts.length with
      | true => some (i * ts.length, .agg ts)
      | false => none
  | none => none

def allInfo (P : Program) : List Field → Bool
  | [] => true
  | f :: r => match P.info? f.type with
    | some _ => allInfo P r
    | none => false

def denBuild (P : Program) (t : TypeId) (ps : List (Nat × Value)) (k : Value → HM ρ) : HM ρ :=
  match P.underlying t with
  | some (.struct fields) => match allInfo P fields.toList with
    | true => match P.info? t with
      | some i => match i.zero with
        | some z => match fillAs (fieldPlaces P fields) z.cells.toList ps with
          | some cs => reqParts (fieldPlaces P fields) ps (k (.agg cs.toArray))
          | none => HM.fail
        | none => HM.fail
      | none => HM.fail
    | false => HM.fail
  | some (.array _ elem) => match P.info? t with
    | some i => match i.zero with
      | some z => match P.info? elem with
        | some _ => match fillAs (elemPlaces P elem) z.cells.toList ps with
          | some cs => reqParts (elemPlaces P elem) ps (k (.agg cs.toArray))
          | none => HM.fail
        | none => HM.fail
      | none => HM.fail
    | none => HM.fail
  | _ => HM.fail

def repl (z : List Value) : Nat → List Value
  | 0 => []
  | n + 1 => z ++ repl z n

def denBuildSlice (P : Program) (t : TypeId) (len : Nat) (ps : List (Nat × Value)) (k : Value → HM ρ) : HM ρ :=
  match P.underlying t with
  | some (.slice elem) => match P.info? elem with
    | some i => match i.zero with
      | some z => match Nat.beq z.cells.toList.length i.size with
        | true => match Nat.ble (len * i.size) 16777216 with
          | true => match Nat.ble 1 i.size with
            | true => match fillAs (elemPlaces P elem) (repl z.cells.toList len) ps with
              | some cs => reqParts (elemPlaces P elem) ps ((HM.new (.cells cs.toArray elem)).bind fun r => k (.slice (some ⟨r, 0, none⟩) len len))
              | none => HM.fail
            | false => HM.fail
          | false => HM.fail
        | false => HM.fail
      | none => HM.fail
    | none => HM.fail
  | _ => HM.fail

def denFieldAddr (P : Program) (s : TypeId) (x : Value) (f : Nat) (k : Value → HM ρ) : HM ρ :=
  match x with
  | .pointer (some a) => match P.underlying s with
    | some (.struct fields) => match fields.toList[f]? with
      | some fd => match Nat.ble 1 (P.cellsOf fd.type) with
        | true => k (.pointer (some (a.add fd.offset)))
        | false => HM.fail
      | none => HM.fail
    | _ => HM.fail
  | _ => HM.fail

def denField (P : Program) (t : TypeId) (x : Value) (f : Nat) (k : Value → HM ρ) : HM ρ :=
  match x with
  | .agg cs => match P.underlying t with
    | some (.struct fields) => match fields.toList[f]? with
      | some fd => match partAs P fd.type cs.toList fd.offset with
        | some v => k v
        | none => HM.fail
      | none => HM.fail
    | _ => HM.fail
  | _ => HM.fail

def denIndexAddr (P : Program) (t : TypeId) (x i : Value) (k : Value → HM ρ) : HM ρ :=
  match i with
  | .int _ n => match P.underlying t with
    | some (.slice elem) => match x with
      | .slice a len _ => match P.info? elem with
        | some inf => (HM.idx a len n inf.size).bind fun ad => k (.pointer (some ad))
        | none => HM.fail
      | _ => HM.fail
    | some (.array len elem) => match x with
      | .pointer (some a) => match P.info? elem with
        | some inf => (HM.idx (some a) len n inf.size).bind fun ad => k (.pointer (some ad))
        | none => HM.fail
      | _ => HM.fail
    | _ => HM.fail
  | _ => HM.fail

def denIndex (P : Program) (t : TypeId) (x i : Value) (k : Value → HM ρ) : HM ρ :=
  match i with
  | .int _ n => match P.underlying t with
    | some .string => match x with
      | .string s => (HM.strIdx s n).bind fun b => k (.int .u8 b)
      | _ => HM.fail
    | _ => HM.fail
  | _ => HM.fail

def optInt (e : Env) : Option Operand → Option (Option Int)
  | none => some none
  | some x => match e.ev x with
    | some (.int _ n) => some (some n)
    | _ => none

def denSlice (P : Program) (t : TypeId) (x : Value) (lo hi mx : Option Int) (k : Value → HM ρ) : HM ρ :=
  match P.underlying t with
  | some .string => match x with
    | .string s => match mx with
      | none => (HM.substr s lo hi).bind fun r => k (.string r)
      | some _ => HM.fail
    | _ => HM.fail
  | some (.slice elem) => match x with
    | .slice a n c => match P.info? elem with
      | some inf => (HM.slice ⟨a, n, c⟩ lo hi mx inf.size).bind fun s => k (.slice s.a s.len s.cap)
      | none => HM.fail
    | _ => HM.fail
  | _ => HM.fail

def plainKey : TypeDesc → Bool
  | .int _ => true
  | .string => true
  | .bool => true
  | _ => false

def keySame (P : Program) (kt : TypeId) (kd : TypeDesc) : SameK :=
  match kd with
  | .struct _ => eqTy P 8 kt
  | d => Instr.sameNow d

def keyReq (P : Program) (kt : TypeId) (kd : TypeDesc) (key : Value) (m : HM ρ) : HM ρ :=
  match plainKey kd with
  | true => m
  | false => match kd with
    | .struct _ => HM.req (eqTy P 8 kt key key = some true) m
    | _ => HM.fail

def denLookup (P : Program) (t : TypeId) (x key : Value) (ok : Bool) (k : Value → HM ρ) : HM ρ :=
  match P.underlying t with
  | some (.map kt et) => match P.underlying kt with
    | some kd => keyReq P kt kd key (match x with
      | .map r => match P.info? et with
        | some i => match i.zero with
          | some z => match Kind.of z with
            | some ek => (HM.lookup (keySame P kt kd) z ek r key).bind fun p => match ok with
              | true => k (.tuple #[ek.val p.1, .bool p.2])
              | false => k (ek.val p.1)
            | none => HM.fail
          | none => HM.fail
        | none => HM.fail
      | _ => HM.fail)
    | none => HM.fail
  | _ => HM.fail

def denMapSet (P : Program) (t : TypeId) (x key v : Value) (k : Value → HM ρ) : HM ρ :=
  match P.underlying t with
  | some (.map kt _) => match P.underlying kt with
    | some kd => keyReq P kt kd key (match x with
      | .map r => (HM.mapSet (keySame P kt kd) r key v).bind fun _ => k undef
      | _ => HM.fail)
    | none => HM.fail
  | _ => HM.fail

def denMapEntry (P : Program) (t : TypeId) (x key : Value) (k : Value → HM ρ) : HM ρ :=
  match P.underlying t with
  | some (.map kt et) => match P.underlying kt with
    | some kd => keyReq P kt kd key (match x with
      | .map r => match P.info? et with
        | some i => match i.zero with
          | some z => match Kind.of z with
            | some ek => (HM.mapEntry (keySame P kt kd) z ek r key).bind fun p => k (.tuple #[ek.val p.1, .int .i64 p.2])
            | none => HM.fail
          | none => HM.fail
        | none => HM.fail
      | _ => HM.fail)
    | none => HM.fail
  | _ => HM.fail

def denEntryStore (x stamp v : Value) (k : Value → HM ρ) : HM ρ :=
  match x with
  | .map r => match stamp with
    | .int _ n => (HM.entryStore r n v).bind fun _ => k undef
    | _ => HM.fail
  | _ => HM.fail

def denAppend (P : Program) (ts : List TypeId) (vs : List Value) (k : Value → HM ρ) : HM ρ :=
  match ts, vs with
  | [t, u], [s, x] => match P.underlying t with
    | some (.slice elem) => match s with
      | .slice a n c => match P.info? elem with
        | some i => match i.zero with
          | some z => match P.underlying u with
            | some (.slice _) => match x with
              | .slice b m d => (HM.append elem i.size i.bytes z.cells ⟨a, n, c⟩ m (srcSlc i.size ⟨b, m, d⟩)).bind fun s => k (.slice s.a s.len s.cap)
              | _ => HM.fail
            | some .string => match x with
              | .string b => (HM.append elem i.size i.bytes z.cells ⟨a, n, c⟩ b.size (srcStr b)).bind fun s => k (.slice s.a s.len s.cap)
              | _ => HM.fail
            | _ => HM.fail
          | none => HM.fail
        | none => HM.fail
      | _ => HM.fail
    | _ => HM.fail
  | _, _ => HM.fail

def denLen (P : Program) (ts : List TypeId) (vs : List Value) (k : Value → HM ρ) : HM ρ :=
  match ts, vs with
  | [t], [x] => match P.underlying t with
    | some .string => match x with
      | .string s => k (.int .i64 (s.size : Int))
      | _ => HM.fail
    | some (.slice _) => match x with
      | .slice _ n _ => k (.int .i64 (n : Int))
      | _ => HM.fail
    | some (.array n _) => k (.int .i64 (n : Int))
    | some (.map _ _) => match x with
      | .map r => (HM.mapLen r).bind fun n => k (.int .i64 n)
      | _ => HM.fail
    | _ => HM.fail
  | _, _ => HM.fail

def denMinMax (max : Bool) (vs : List Value) (k : Value → HM ρ) : HM ρ :=
  match vs with
  | [.int ka a, .int kb b] => match ikEq ka kb with
    | true => match max with
      | true => k (.int ka (if a < b then b else a))
      | false => k (.int ka (if b < a then b else a))
    | false => HM.fail
  | [.int ka a, .int kb b, .int kc c] => match ikEq ka kb && ikEq ka kc with
    | true => match max with
      | true => k (.int ka (if (if a < b then b else a) < c then c else (if a < b then b else a)))
      | false => k (.int ka (if c < (if b < a then b else a) then c else (if b < a then b else a)))
    | false => HM.fail
  | _ => HM.fail

def denDelete (P : Program) (ts : List TypeId) (vs : List Value) (k : Value → HM ρ) : HM ρ :=
  match ts, vs with
  | t :: _, [x, key] => match P.underlying t with
    | some (.map kt _) => match P.underlying kt with
      | some kd => keyReq P kt kd key (match x with
        | .map r => (HM.mapDel (keySame P kt kd) r key).bind fun _ => k (.tuple #[])
        | _ => HM.fail)
      | none => HM.fail
    | _ => HM.fail
  | _, _ => HM.fail

def denBuiltin (P : Program) (b : Builtin) (ts : List TypeId) (vs : List Value) (k : Value → HM ρ) : HM ρ :=
  match b with
  | .len => denLen P ts vs k
  | .append => denAppend P ts vs k
  | .min => denMinMax false vs k
  | .max => denMinMax true vs k
  | .delete => denDelete P ts vs k
  | _ => HM.fail

/-- the kinds of a call's results, by the type of what it gives -/
inductive Ret where
  | one (k : Kind)
  | many (ks : List Kind)

def kindsOf (P : Program) : List TypeId → Option (List Kind)
  | [] => some []
  | t :: ts => match kindOf P t with
    | some k => match kindsOf P ts with
      | some ks => some (k :: ks)
      | none => none
    | none => none

def retOf (P : Program) (t : TypeId) : Option Ret :=
  match P.underlying t with
  | some (.tuple es) => match kindsOf P es.toList with
    | some ks => some (.many ks)
    | none => none
  | some _ => match kindOf P t with
    | some k => some (.one k)
    | none => none
  | none => none

def denCall (P : Program) (C : List Nat) (t : TypeId) (f : Value) (vs : List Value) (k : Value → HM ρ) : HM ρ :=
  match f with
  | .func (.func f) first captured => match memN f C with
    | true => match retOf P t with
      | some (.one kd) => (HM.call1 P kd f (first.toList ++ (vs ++ captured.toList)).toArray).bind fun r => k (kd.val r)
      | some (.many ks) => (HM.callN P ks f (first.toList ++ (vs ++ captured.toList)).toArray).bind fun r => k (.tuple (KTup.vals ks r).toArray)
      | none => HM.fail
    | false => HM.fail
  | _ => HM.fail

def denCallV (P : Program) (t : TypeId) (f : Value) (vs : List Value) (k : Value → HM ρ) : HM ρ :=
  match retOf P t with
  | some (.one kd) => (HM.callV1 P kd f vs.toArray).bind fun r => k (kd.val r)
  | some (.many ks) => (HM.callVN P ks f vs.toArray).bind fun r => k (.tuple (KTup.vals ks r).toArray)
  | none => HM.fail

def denConvert (P : Program) (src dst : TypeId) (x : Value) (k : Value → HM ρ) : HM ρ :=
  match P.underlying src with
  | none => HM.fail
  | some _ => match P.underlying dst with
    | some (.int kd) => match x with
      | .int _ n => k (.int kd (kd.wrap n))
      | _ => HM.fail
    | some .string => match x with
      | .string s => k (.string s)
      | .slice a n c => match P.underlying src with
        | some (.slice e) => match P.underlying e with
          | some (.int .u8) => (HM.strOf ⟨a, n, c⟩).bind fun s => k (.string s)
          | _ => HM.fail
        | _ => HM.fail
      | _ => HM.fail
    | _ => HM.fail

/-- a walk over a map or a text begins -/
def denRange (P : Program) (t : TypeId) (x : Value) (k : Value → HM ρ) : HM ρ :=
  match P.underlying t with
  | some .string => match x with
    | .string s => (HM.new (.stringIter s 0)).bind fun b => k (.pointer (some ⟨b, 0, none⟩))
    | _ => HM.fail
  | some (.map _ _) => match x with
    | .map r => (HM.rangeM r).bind fun b => k (.pointer (some ⟨b, 0, none⟩))
    | _ => HM.fail
  | _ => HM.fail

def denNext (str : Bool) (x : Value) (k : Value → HM ρ) : HM ρ :=
  match x with
  | .pointer (some a) => match Nat.beq a.off 0 with
    | false => HM.fail
    | true => match str with
      | true => (HM.nextS a.block).bind fun o => HM.opt o (k (.tuple #[.bool false])) fun p => k (.tuple #[.bool true, .int .i64 p.1, .int .i32 p.2])
      | false => (HM.nextM a.block).bind fun o => HM.opt o (k (.tuple #[.bool false])) fun p => k (.tuple #[.bool true, p.1, p.2])
  | _ => HM.fail

def denNilCheck (x : Value) (k : Value → HM ρ) : HM ρ :=
  match x with
  | .pointer p => (HM.nonnil p).bind fun a => k (.pointer (some a))
  | .func (.func f) first captured => k (.func (.func f) first captured)
  | _ => HM.fail

def denMakeSlice (P : Program) (t : TypeId) (n c : Value) (k : Value → HM ρ) : HM ρ :=
  match P.underlying t with
  | some (.slice elem) => match P.info? elem with
    | some i => match i.zero with
      | some z => match Nat.beq z.cells.toList.length i.size with
        | true => match n, c with
          | .int _ a, .int _ b => (HM.makeSlice elem i.bytes z.cells a b).bind fun s => k (.slice s.a s.len s.cap)
          | _, _ => HM.fail
        | false => HM.fail
      | none => HM.fail
    | none => HM.fail
  | _ => HM.fail

/-- what is known of a slot that a guard reads -/
abbrev Dec := List (Nat × Bool)
def Dec.get : Dec → Nat → Option Bool
  | [], _ => none
  | (t, b) :: d, n => match Nat.beq t n with
    | true => some b
    | false => Dec.get d n

def denPick (e : Env) (d : Dec) (c a b : Operand) (k : Value → HM ρ) : HM ρ :=
  match c with
  | .tmp t => match d.get t with
    | some true => match e.ev a with
      | some v => k v
      | none => HM.fail
    | some false => match e.ev b with
      | some v => k v
      | none => HM.fail
    | none => match e.ev c, e.ev a, e.ev b with
      | some (.bool x), some (.bool y), some (.bool z) => k (.bool (if x = true then y else z))
      | _, _, _ => HM.fail
  | _ => HM.fail

/-- ONE OPERATION. 'C': the functions that may be called; 'd': guards that are decided. -/
def denOp (P : Program) (C : List Nat) (e : Env) (d : Dec) (o : Oper) (k : Value → HM ρ) : HM ρ :=
  match o.op with
  | .move x => match e.ev x with
    | some v => k v
    | none => HM.fail
  | .assign x => match e.ev x with
    | some v => k v
    | none => HM.fail
  | .pick c a b => denPick e d c a b k
  | .alloc t => denAlloc P t k
  | .box t x => match e.ev x with
    | some v => denBox P t v k
    | none => HM.fail
  | .build t ps => match evParts e ps.toList with
    | some vs => denBuild P t vs k
    | none => HM.fail
  | .buildSlice t n ps => match evParts e ps.toList with
    | some vs => denBuildSlice P t n vs k
    | none => HM.fail
  | .load t x => match e.ev x with
    | some v => denLoad P t v k
    | none => HM.fail
  | .store t x y => match e.ev x with
    | some v => match e.ev y with
      | some u => denStore P t v u k
      | none => HM.fail
    | none => HM.fail
  | .nilCheck x => match e.ev x with
    | some v => denNilCheck v k
    | none => HM.fail
  | .binOp op t x y _ => match e.ev x with
    | some v => match e.ev y with
      | some u => denBin P op t y v u k
      | none => HM.fail
    | none => HM.fail
  | .unOp op _ x => match e.ev x with
    | some v => denUn op v k
    | none => HM.fail
  | .convert s t x => match e.ev x with
    | some v => denConvert P s t v k
    | none => HM.fail
  | .makeInterface t x => match e.ev x with
    | some v => match P.underlying t with
      | some (.interface _) => HM.fail
      | some _ => k (.iface t v)
      | none => HM.fail
    | none => HM.fail
  | .makeFunc fn first captured => match e.evs first.toList with
    | some vs => match e.evs captured.toList with
      | some us => k (.func fn vs.toArray us.toArray)
      | none => HM.fail
    | none => HM.fail
  | .makeMap _ none => (HM.new (.map #[] 0)).bind fun r => k (.map (some r))
  | .makeSlice t n c => match e.ev n with
    | some v => match e.ev c with
      | some u => denMakeSlice P t v u k
      | none => HM.fail
    | none => HM.fail
  | .slice t x lo hi mx => match e.ev x with
    | some v => match optInt e lo with
      | some l => match optInt e hi with
        | some hh => match optInt e mx with
          | some m => denSlice P t v l hh m k
          | none => HM.fail
        | none => HM.fail
      | none => HM.fail
    | none => HM.fail
  | .fieldAddr t x f => match e.ev x with
    | some v => denFieldAddr P t v f k
    | none => HM.fail
  | .field t x f => match e.ev x with
    | some v => denField P t v f k
    | none => HM.fail
  | .indexAddr t x i => match e.ev x with
    | some v => match e.ev i with
      | some u => denIndexAddr P t v u k
      | none => HM.fail
    | none => HM.fail
  | .index t x i => match e.ev x with
    | some v => match e.ev i with
      | some u => denIndex P t v u k
      | none => HM.fail
    | none => HM.fail
  | .lookup t x i ok => match e.ev x with
    | some v => match e.ev i with
      | some u => denLookup P t v u ok k
      | none => HM.fail
    | none => HM.fail
  | .mapUpdate t x i y => match e.ev x with
    | some v => match e.ev i with
      | some u => match e.ev y with
        | some z => denMapSet P t v u z k
        | none => HM.fail
      | none => HM.fail
    | none => HM.fail
  | .insert t x i y => match e.ev x with
    | some v => match e.ev i with
      | some u => match e.ev y with
        | some z => denMapSet P t v u z k
        | none => HM.fail
      | none => HM.fail
    | none => HM.fail
  | .mapEntry t x i => match e.ev x with
    | some v => match e.ev i with
      | some u => denMapEntry P t v u k
      | none => HM.fail
    | none => HM.fail
  | .entryStore _ x i y => match e.ev x with
    | some v => match e.ev i with
      | some u => match e.ev y with
        | some z => denEntryStore v u z k
        | none => HM.fail
      | none => HM.fail
    | none => HM.fail
  | .range t x => match e.ev x with
    | some v => denRange P t v k
    | none => HM.fail
  | .next x str => match e.ev x with
    | some v => denNext str v k
    | none => HM.fail
  | .extract x i => match e.ev x with
    | some (.tuple vs) => match vs.toList[i]? with
      | some v => k v
      | none => HM.fail
    | _ => HM.fail
  | .call c => match e.evs c.args.toList with
    | some vs => match c.callee with
      | .builtin b => denBuiltin P b c.argTypes.toList vs k
      | .value (.func f) => denCall P C o.type (.func (.func f) #[] #[]) vs k
      | .value x => match e.ev x with
        | some v => denCallV P o.type v vs k
        | none => HM.fail
      | .invoke _ _ => HM.fail
    | none => HM.fail
  | _ => HM.fail

/-! ### regions -/

/-- what an operation looks at: nothing but its operands; memory; or it acts -/
inductive Cls where
  | stat | read | eff

def clsOf (P : Program) (op : Op) : Cls :=
  match op with
  | .move _ => .stat
  | .assign _ => .stat
  | .pick _ _ _ => .stat
  | .nilCheck _ => .stat
  | .binOp _ _ _ _ _ => .stat
  | .unOp _ _ _ => .stat
  | .convert _ t _ => match P.underlying t with
    | some (.int _) => .stat
    | _ => .eff
  | .makeInterface _ _ => .stat
  | .makeFunc _ _ _ => .stat
  | .build _ _ => .stat
  | .fieldAddr _ _ _ => .stat
  | .field _ _ _ => .stat
  | .indexAddr _ _ _ => .stat
  | .index _ _ _ => .stat
  | .slice _ _ _ _ _ => .stat
  | .extract _ _ => .stat
  | .load _ _ => .read
  | .lookup _ _ _ _ => .read
  | .call c => match c.callee with
    | .builtin .len => .read
    | _ => .eff
  | _ => .eff

def guardSlot (ops : Array Oper) (j : Nat) : Option Nat :=
  match ops.toList[j]? with
  | some o => o.dst
  | none => none

/-- what was read, and may be read again behind what the region does -/
abbrev Done := List (Nat × Value)

/-- behind operation number 'j', which acts: what was read, and might as well be read only now, reads as it did -/
def again (P : Program) (C : List Nat) (ops : Array Oper) (b : Nat) (e : Env) (d : Dec) : Done → HM ρ → HM ρ
  | [], m => m
  | (i, v) :: r, m => match b.testBit i with
    | true => again P C ops b e d r m
    | false => match ops.toList[i]? with
      | some o => denOp P C e d o fun v' => HM.req (v' = v) (again P C ops b e d r m)
      | none => HM.fail

def hits (dst : Option Nat) (s : Nat) : Bool :=
  match dst with
  | some t => Nat.beq t s
  | none => false

/-- what part number 'i' of an operation's result is taken for -/
def partKind (P : Program) (dst : Option Nat) (i : Nat) : List Oper → Kind
  | [] => .one .any
  | o :: r => match o.op with
    | .extract (.tmp t) j => match hits dst t with
      | true => match Nat.beq j i with
        | true => match kindOf P o.type with
          | some k => k
          | none => .one .any
        | false => partKind P dst i r
      | false => partKind P dst i r
    | _ => partKind P dst i r

def denEntry (ka kb : Kind) (x : Value) (k : Value → HM ρ) : HM ρ :=
  match x with
  | .pointer (some a) => match Nat.beq a.off 0 with
    | false => HM.fail
    | true => (HM.entryM ka kb a.block).bind fun p => k (.tuple #[ka.val p.1, kb.val p.2])
  | _ => HM.fail

def denOpE (P : Program) (C : List Nat) (ops : Array Oper) (e : Env) (d : Dec) (o : Oper) (k : Value → HM ρ) : HM ρ :=
  match o.op with
  | .entry x => match e.ev x with
    | some v => denEntry (partKind P o.dst 0 ops.toList) (partKind P o.dst 1 ops.toList) v k
    | none => HM.fail
  | _ => denOp P C e d o k

/-- one operation, and what is asked behind it -/
def denOne (P : Program) (C : List Nat) (ops : Array Oper) (draw : Bool) (j : Nat) (o : Oper) (e : Env) (d : Dec) (dn : Done) (k : Env → Done → HM ρ) : HM ρ :=
  denOpE P C ops e d o fun v => match draw with
    | false => k (e.put o.dst v) dn
    | true => match clsOf P o.op with
      | .stat => k (e.put o.dst v) dn
      | .read => k (e.put o.dst v) ((j, v) :: dn)
      | .eff => again P C ops ((Region.before ops).getD j 0) (e.put o.dst v) d dn (k (e.put o.dst v) dn)

def chkDst (n : Nat) (d : Dec) (dst : Option Nat) : Bool :=
  match dst with
  | some s => Nat.blt s n && (d.get s).isNone
  | none => true

/-- a bool that stands written out, or is decided -/
def litOf (d : Dec) : Operand → Option Bool
  | .const (.bool b) => some b
  | .tmp t => d.get t
  | _ => none

def litOp (d : Dec) (op : Op) : Option Bool :=
  match op with
  | .move x => litOf d x
  | .assign x => litOf d x
  | .pick (.tmp t) a b => match d.get t with
    | some true => litOf d a
    | some false => litOf d b
    | none => none
  | _ => none

/-- what is decided behind an operation -/
def decAfter (d : Dec) (o : Oper) : Dec :=
  match o.dst with
  | none => d
  | some s => match litOp d o.op with
    | some b => (s, b) :: d
    | none => d

/-- AN OPERATION OF A REGION, and what is done behind it. -/
def denStep (P : Program) (C : List Nat) (n : Nat) (ops : Array Oper) (draw : Bool) (j : Nat) (e : Env) (d : Dec) (dn : Done) (k : Env → Dec → Done → HM ρ) : HM ρ :=
  match ops.toList[j]? with
    | none => HM.fail
    | some o => match chkDst n d o.dst with
      | false => HM.fail
      | true => match o.guard with
        | none => denOne P C ops draw j o e d dn fun e' dn' => k e' (decAfter d o) dn'
        | some (g, want) => match guardSlot ops g with
          | none => HM.fail
          | some s => match d.get s with
            | some b => match b, want with
              | true, true => denOne P C ops draw j o e d dn fun e' dn' => k e' (decAfter d o) dn'
              | false, false => denOne P C ops draw j o e d dn fun e' dn' => k e' (decAfter d o) dn'
              | true, false => k (e.put o.dst undef) d dn
              | false, true => k (e.put o.dst undef) d dn
            | none => match hits o.dst s with
              | true => HM.fail
              | false => match e.get s with
              | some (.bool b) => match want with
                | true => HM.ite b (denOne P C ops draw j o e ((s, true) :: d) dn fun e' dn' => k e' (decAfter ((s, true) :: d) o) dn')
                    (k (e.put o.dst undef) ((s, false) :: d) dn)
                | false => HM.ite b (k (e.put o.dst undef) ((s, true) :: d) dn)
                    (denOne P C ops draw j o e ((s, false) :: d) dn fun e' dn' => k e' (decAfter ((s, false) :: d) o) dn')
              | some (.tuple _) => k (e.put o.dst undef) d dn
              | _ => HM.fail

/-- ORDERS: one operation, or whichever of some -/
inductive OTree where
  | done
  | q (j : Nat) (t : OTree)
  | br (js : List Nat) (f : Nat → OTree)

def OTree.ofList : List Nat → OTree
  | [] => .done
  | j :: r => .q j (ofList r)

def allH : List (HM ρ) → HM ρ
  | [] => HM.fail
  | [m] => m
  | m :: x :: r => HM.both m (allH (x :: r))

/-- THE OPERATIONS OF A REGION in these orders. -/
def denT (P : Program) (C : List Nat) (n : Nat) (ops : Array Oper) (draw : Bool) : OTree → Env → Dec → Done → (Env → HM ρ) → HM ρ
  | .done, e, _, _, k => k e
  | .q j t, e, d, dn, k => denStep P C n ops draw j e d dn fun e' d' dn' => denT P C n ops draw t e' d' dn' k
  | .br js f, e, d, dn, k => allH (js.map fun j => denStep P C n ops draw j e d dn fun e' d' dn' => denT P C n ops draw (f j) e' d' dn' k)

def clsNum (P : Program) (op : Op) : Nat :=
  match clsOf P op with
  | .stat => 0
  | .read => 1
  | .eff => 2

/-- an order in which what only looks comes as early as it may -/
def firstReady (m : Nat) (acts : Bool) : List (Nat × Nat × Nat) → Option Nat
  | [] => none
  | (i, b, c) :: r => match m.testBit i with
    | true => firstReady m acts r
    | false => match Nat.beq (b &&& m) b with
      | false => firstReady m acts r
      | true => match acts with
        | true => some i
        | false => match Nat.blt c 2 with
          | true => some i
          | false => firstReady m acts r

def readyAll (m : Nat) : List (Nat × Nat × Nat) → List Nat
  | [] => []
  | (i, b, _) :: r => match m.testBit i with
    | true => readyAll m r
    | false => match Nat.beq (b &&& m) b with
      | false => readyAll m r
      | true => i :: readyAll m r

def treeGo (l : List (Nat × Nat × Nat)) : Nat → Nat → OTree
  | 0, _ => .done
  | f + 1, m => match firstReady m false l with
    | some i => .q i (treeGo l f (m ||| 2 ^ i))
    | none => match readyAll m l with
      | [] => .done
      | j :: js => .br (j :: js) fun i => treeGo l f (m ||| 2 ^ i)

def treeOf (P : Program) (ops : Array Oper) (draw : Bool) : OTree :=
  match draw with
  | true =>
    let b := Region.before ops
    treeGo (ops.toList.zipIdx.map fun (o, i) => (i, b.getD i 0, clsNum P o.op)) ops.size 0
  | false => .ofList (List.range ops.size)

/-- 'y' writes nothing that 'x' looks at -/
def spares (ops : Array Oper) (x y : Oper) : Bool :=
  match y.dst with
  | some d => !((x.looksAt ops).contains d)
  | none => true

/-- of a pair in that order: the second waits for the first, or they may change places -/
def pairOK (P : Program) (ops : Array Oper) (b : Array Nat) (i : Nat) (x : Oper) (j : Nat) (y : Oper) : Bool :=
  match (b.getD j 0).testBit i with
  | true => match clsOf P x.op with
    | .read => spares ops x y
    | _ => true
  | false => match clsOf P x.op with
    | .eff => false
    | _ => x.apart ops y

def dropN (j : Nat) : List Nat → List Nat
  | [] => []
  | i :: r => match Nat.beq i j with
    | true => dropN j r
    | false => i :: dropN j r

def isEffAt (P : Program) (ops : Array Oper) (j : Nat) : Bool :=
  match ops.toList[j]? with
  | some o => match clsOf P o.op with
    | .eff => true
    | _ => false
  | none => false

/-- do the orders stand for all? 'R': what is left -/
def goodT (P : Program) (ops : Array Oper) (b : Array Nat) : OTree → List Nat → Bool
  | .done, R => R.isEmpty
  | .q j t, R => (match ops.toList[j]? with
    | none => false
    | some x => memN j R && !(isEffAt P ops j) && spares ops x x && (dropN j R).all fun i => match ops.toList[i]? with
      | some y => pairOK P ops b j x i y
      | none => false) && goodT P ops b t (dropN j R)
  | .br js f, R => !js.isEmpty && (js.all fun j => memN j R && isEffAt P ops j && goodT P ops b (f j) (dropN j R)) && R.all fun i => memN i js || R.any fun x => (b.getD i 0).testBit x

/-- every operation waits only for such as stand ahead of it, and none is a select -/
def backOK (ops : Array Oper) : Bool :=
  ops.toList.zipIdx.all fun (o, j) => o.after.toList.all (fun e => !(Region.binds .any e) || Nat.blt e.on j) && !(match o.op with | .select .. => true | _ => false)

def orderOK (P : Program) (ops : Array Oper) (t : OTree) : Bool :=
  backOK ops && goodT P ops (Region.before ops) t (List.range ops.size)

/-- which slots does a region write, outside every guard, and of what kind -/
def outsOf (P : Program) (live : List Nat) : List Oper → List (Nat × Kind)
  | [] => []
  | o :: rest => match o.guard with
    | some _ => outsOf P live rest
    | none => match o.dst with
      | none => outsOf P live rest
      | some s => match memN s live with
        | false => outsOf P live rest
        | true => match kindOf P o.type with
          | some k => (s, k) :: outsOf P live rest
          | none => outsOf P live rest

def guarded : List Oper → Bool
  | [] => false
  | o :: rest => match o.guard with
    | some _ => true
    | none => guarded rest

def dstsOf : List Oper → List Nat
  | [] => []
  | o :: rest => match o.dst with
    | some s => s :: dstsOf rest
    | none => dstsOf rest

/-- the values of these slots -/
def Env.gets (e : Env) : List (Nat × Kind) → Option (List Value)
  | [] => some []
  | (s, _) :: r => match e.get s with
    | some v => match Env.gets e r with
      | some vs => some (v :: vs)
      | none => none
    | none => none

def Env.tup (e : Env) (ss : List (Nat × Kind)) : Option (KTup (ss.map (·.2))) :=
  match e.gets ss with
  | some vs => KTup.get (ss.map (·.2)) vs
  | none => none

def zipVals : List (Nat × Kind) → List Value → Env
  | (s, _) :: r, v :: vs => (s, v) :: zipVals r vs
  | _, _ => []

/-- what is known where ways meet again -/
def Env.join (e : Env) (ds : List Nat) (ss : List (Nat × Kind)) (x : KTup (ss.map (·.2))) : Env :=
  zipVals ss (KTup.vals (ss.map (·.2)) x) ++ e.forget ds

def pureO {α : Type} : Option α → HM α
  | some a => HM.pure a
  | none => HM.fail

def denRegion (P : Program) (C : List Nat) (n : Nat) (live : List Nat) (ops : Array Oper) (draw : Bool) (e : Env) (k : Env → HM ρ) : HM ρ :=
  match (match draw with | true => orderOK P ops (treeOf P ops true) | false => true) with
  | false => HM.fail
  | true => match guarded ops.toList with
    | false => denT P C n ops draw (treeOf P ops draw) e [] [] k
    | true => (denT P C n ops draw (treeOf P ops draw) e [] [] fun e' => pureO (e'.tup (outsOf P live ops.toList))).bind fun x => k (e.join (dstsOf ops.toList) (outsOf P live ops.toList) x)

/-! ### code -/

def dsts : Code → List Nat
  | .region _ ops _ => dstsOf ops.toList
  | .seq a b => dsts a ++ dsts b
  | .cond _ a b => dsts a ++ dsts b
  | .block _ a => dsts a
  | .loop a => dsts a
  | .scope a => dsts a
  | .rangeFunc _ _ a b => dsts a ++ dsts b
  | _ => []

/-- may it come to its end? -/
def canNorm : Code → Bool
  | .skip => true
  | .region _ _ _ => true
  | .seq a b => canNorm a && canNorm b
  | .cond _ a b => canNorm a || canNorm b
  | .block id a => canNorm a || canExit id a
  | .loop _ => false
  | _ => false
where
  canExit (id : Nat) : Code → Bool
    | .seq a b => canExit id a || canExit id b
    | .cond _ a b => canExit id a || canExit id b
    | .block _ a => canExit id a
    | .loop a => canExit id a
    | .exit i => Nat.beq i id
    | _ => false

/-- may it leave for somewhere else than its end, or the blocks 'ids'? -/
def canOut : Code → List Nat → Bool
  | .seq a b, ids => canOut a ids || canOut b ids
  | .cond _ a b, ids => canOut a ids || canOut b ids
  | .block id a, ids => canOut a (id :: ids)
  | .loop a, ids => canOut a ids
  | .exit i, ids => !(memN i ids)
  | .ret, _ => true
  | _, _ => false

structure KK (ρ : Type) where
  norm : Env → HM ρ
  ret : List Value → Option ρ
  exits : List (Nat × (Env → Option ρ))

def exitGet {β : Type} : List (Nat × β) → Nat → Option β
  | [], _ => none
  | (t, b) :: d, n => match Nat.beq t n with
    | true => some b
    | false => exitGet d n

def dropExit {β : Type} (n : Nat) : List (Nat × β) → List (Nat × β)
  | [] => []
  | (t, b) :: d => match Nat.beq t n with
    | true => dropExit n d
    | false => (t, b) :: dropExit n d

def mapExits {ρ' : Type} (f : ρ → ρ') : List (Nat × (Env → Option ρ)) → List (Nat × (Env → Option ρ'))
  | [] => []
  | (t, g) :: d => (t, fun e => match g e with | some r => some (f r) | none => none) :: mapExits f d

def mapRet {ρ' : Type} (f : ρ → ρ') (g : List Value → Option ρ) (vs : List Value) : Option ρ' :=
  match g vs with
  | some r => some (f r)
  | none => none

/-- the slots that are carried on: written inside, known ahead, looked at elsewhere -/
def carried (live : List Nat) (e : Env) : List Nat → List (Nat × Kind)
  | [] => []
  | s :: r => match memN s r with
    | true => carried live e r
    | false => match memN s live with
      | false => carried live e r
      | true => match e.get s with
        | none => carried live e r
        | some v => match Kind.of v with
          | some k => (s, k) :: carried live e r
          | none => carried live e r

def denRet (P : Program) (e : Env) : List ResultVar → (List Value → HM ρ) → HM ρ
  | [], k => k []
  | .tmp t :: rs, k => match e.get t with
    | some v => denRet P e rs fun vs => k (v :: vs)
    | none => HM.fail
  | .cell t ty :: rs, k => match e.get t with
    | some x => denLoad P ty x fun v => denRet P e rs fun vs => k (v :: vs)
    | none => HM.fail

def joinK (outs : Bool) (ss : List (Nat × Kind)) (inner : (ρ' : Type) → KK ρ' → HM ρ') (exit : Option Nat) (e : Env) (ds : List Nat) (k : KK ρ) : HM ρ :=
  match outs with
  | true => (inner (KTup (ss.map (·.2)) ⊕ ρ)
      { norm := fun e' => pureO (match e'.tup ss with | some x => some (.inl x) | none => none)
        ret := mapRet .inr k.ret
        exits := match exit with
          | some id => (id, fun e' => match e'.tup ss with | some x => some (.inl x) | none => none) :: mapExits .inr k.exits
          | none => mapExits .inr k.exits }).bind (Sum.elim (fun x => k.norm (e.join ds ss x)) HM.pure)
  | false => (inner (KTup (ss.map (·.2)))
      { norm := fun e' => pureO (e'.tup ss)
        ret := fun _ => none
        exits := match exit with
          | some id => [(id, fun e' => e'.tup ss)]
          | none => [] }).bind fun x => k.norm (e.join ds ss x)

/-- CODE. 'rs': the function's results. -/
def den (P : Program) (C : List Nat) (n : Nat) (live lc : List Nat) (rs : List ResultVar) : Code → (ρ : Type) → Env → KK ρ → HM ρ
  | .skip, _, e, k => k.norm e
  | .region _ ops draw, _, e, k => denRegion P C n live ops draw e k.norm
  | .seq a b, ρ, e, k => den P C n live lc rs a ρ e { k with norm := fun e' => den P C n live lc rs b ρ e' k }
  | .cond c a b, ρ, e, k => match e.ev c with
    | some (.bool t) => match canNorm a && canNorm b with
      | true => joinK (canOut a [] || canOut b []) (carried lc e (dsts a ++ dsts b))
          (fun ρ' k' => HM.ite t (den P C n live lc rs a ρ' e k') (den P C n live lc rs b ρ' e k')) none e (dsts a ++ dsts b) k
      | false => HM.ite t (den P C n live lc rs a ρ e k) (den P C n live lc rs b ρ e k)
    | _ => HM.fail
  | .block id a, ρ, e, k => match canNorm.canExit id a with
    | true => joinK (canOut a [id]) (carried lc e (dsts a)) (fun ρ' k' => den P C n live lc rs a ρ' e k') (some id) e (dsts a) k
    | false => den P C n live lc rs a ρ e { k with exits := dropExit id k.exits }
  | .loop a, ρ, e, k => match e.tup (carried lc e (dsts a)) with
    | none => HM.fail
    | some x => HM.loop (fun y => den P C n live lc rs a (KTup ((carried lc e (dsts a)).map (·.2)) ⊕ ρ) (e.join (dsts a) (carried lc e (dsts a)) y)
        { norm := fun e' => pureO (match e'.tup (carried lc e (dsts a)) with | some z => some (.inl z) | none => none)
          ret := mapRet .inr k.ret
          exits := mapExits .inr k.exits }) x
  | .exit id, _, e, k => match exitGet k.exits id with
    | some g => pureO (g e)
    | none => HM.fail
  | .ret, _, e, k => denRet P e rs fun vs => pureO (k.ret vs)
  | _, _, _, _ => HM.fail

def bodyOf (f : Func) : Code := f.body.getD .skip

/-- A FUNCTION's BODY, at these arguments' values. -/
def denFn (P : Program) (C : List Nat) (n : Nat) (live lc : List Nat) (rs : List ResultVar) (ks : List Kind) (c : Code) (args : List Value) : HM (KTup ks) :=
  den P C n live lc rs c (KTup ks) (args.zipIdx.map fun (v, i) => (i, v))
    { norm := fun e => denRet P e rs fun vs => pureO (KTup.get ks vs)
      ret := KTup.get ks
      exits := [] }

end
end Go.H
