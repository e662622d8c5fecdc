/-
  QFrontNil2: what the proof FrontNilProof reaches of our texts: Xe, Xf, Xg, Xh, Xi, Xj, Xr, Xk, Xl, Xq, Xy, Kjoin, Kwrt, Kwrs, Xz, Hk, Kint, Xsi, Xpa, Xgt, Kses, Wk, D20, L20n.
-/
import Derived.Test.YtkpjgmdaolohiaaGreatDoorQFrontNil1
import Derived.LoopN
import Derived.Scope
import Derived.Defers
import Derived.Test.YtkpjgmdaolohiaaGreatDoorProg
import Derived.KernelRfl
import Derived.Shelf.Strings.OnBuilder
import Derived.Shelf.Strings.Builder1
import Derived.Shelf.SlIterI.Nil
import Derived.Shelf.SortM.Plain
import Derived.Shelf.SortM.SortNone
import Derived.Tactics
import Derived.Tactics2
import Derived.Recover
import Derived.Laws.Pointers
import Derived.WalkSmall
import Derived.Test.YtkpjgmdaolohiaaGreatDoorRows
import Derived.Test.YtkpjgmdaolohiaaGreatDoorChecked
import Derived.ProofKit
import Derived.LaidMore
import Derived.LaidHandle
import Derived.OpenShut
import Derived.Stop.Joined
import Derived.Lib.LaidU8T
namespace Go.X
open Go.H
set_option linter.unusedSimpArgs false
set_option linter.unusedVariables false
section
variable {ρ τ : Type} {L : List Asn} {Q : ρ → Heap → Prop} {k : Value → HM ρ} {P : Program} {β : As} {T2 : TypeId → Bool}
theorem cloE_set {K : Type} [DecidableEq K] {n : Nat} {v : XV} (hv : clo n v = true) : ∀ {es : List (K × XV)} {a : K}, cloE n es = true → cloE n (mset es a v) = true
  | [], a, _ => by simp only [mset, cloE, hv]
  | (b, w) :: es, a, h => by
    simp only [cloE] at h
    split at h
    · rename_i hw
      simp only [mset]
      split
      · simp only [cloE, hv]; exact h
      · simp only [cloE, hw]; exact cloE_set hv h
    · cases h
theorem cloE_del {K : Type} [DecidableEq K] {n : Nat} : ∀ {es : List (K × XV)} {a : K}, cloE n es = true → cloE n (mdel es a) = true
  | [], a, _ => rfl
  | (b, w) :: es, a, h => by
    simp only [cloE] at h
    split at h
    · rename_i hw
      simp only [mdel]
      split
      · exact h
      · simp only [cloE, hw]; exact cloE_del h
    · cases h
def xUpd (P : Program) (T2 : TypeId → Bool) (kt : TypeId) (s : XSt) (x key : XV) (v : Option XV) : Option XSt :=
  match x with
  | .map j => match pick j s with
    | some (.mapI es, r) => match P.underlying kt with
      | some (.int .i64) => match key with
        | .int .i64 a => some (back j (.mapI (match v with | some v => mset es a v | none => mdel es a)) r)
        | _ => none
      | _ => none
    | some (.mapS es, r) => match P.underlying kt with
      | some .string => match key with
        | .str a => some (back j (.mapS (match v with | some v => mset es a v | none => mdel es a)) r)
        | _ => none
      | _ => none
    | some (.mapT es, r) => match T2 kt with
      | true => match key with
        | .agg [.int .i64 a, .int .i64 b] => some (back j (.mapT (match v with | some v => mset es (a, b) v | none => mdel es (a, b))) r)
        | _ => none
      | false => none
    | _ => none
  | _ => none
theorem xUpd_ok (hT : T2OK P T2) {n : Nat} {kt : TypeId} {kd : TypeDesc} {s s' : XSt} {x key : XV} {v : Option XV} {h : Heap} {Q : Unit → Heap → Prop} (hkd : P.underlying kt = some kd) (hx : xUpd P T2 kt s x key v = some s') (hcl : CloS n s) (hc : ∀ u, v = some u → clo n u = true) (hs : sat h (asn β s ++ L))
    (hq : CloS n s' → ∀ h', sat h' (asn β s' ++ L) → Q () h') :
    ∃ r, val β x = .map r ∧ (match v with | some u => HM.mapSet (keySame P kt kd) r (val β key) (val β u) | none => HM.mapDel (keySame P kt kd) r (val β key)) h Q ∧ (∀ {ρ : Type} {m : HM ρ} {h' : Heap} {Q' : ρ → Heap → Prop}, m h' Q' → keyReq P kt kd (val β key) m h' Q') := by
  unfold xUpd at hx
  split at hx
  · rename_i j
    split at hx
    · rename_i es r hp
      have hcr := (hcl _ _ (pick_mem hp).1).2
      split at hx
      · rename_i hu
        rw [hkd] at hu
        cases hu
        split at hx
        · rename_i a
          cases hx
          have hs1 : sat h (mapA (fun n : Int => Value.int .i64 n) (val β) (β.b j) es :: (asn β r ++ L)) := (has_pick (β := β) (L := L) hp).s hs
          cases v with
          | some u => exact ⟨_, rfl, set_map (key_int .i64) (fun a b h => by cases h; rfl) hs1 fun h' hs' => hq (hcl.put hp (cloE_set (hc u rfl) hcr)) h' ((sub_back (β := β) (L := L) hp _).s hs'), fun hm => hm⟩
          | none => exact ⟨_, rfl, del_map (key_int .i64) hs1 fun h' hs' => hq (hcl.put hp (cloE_del hcr)) h' ((sub_back (β := β) (L := L) hp _).s hs'), fun hm => hm⟩
        · cases hx
      · cases hx
    · rename_i es r hp
      have hcr := (hcl _ _ (pick_mem hp).1).2
      split at hx
      · rename_i hu
        rw [hkd] at hu
        cases hu
        split at hx
        · rename_i a
          cases hx
          have hs1 : sat h (mapA (fun s : ByteArray => Value.string s) (val β) (β.b j) es :: (asn β r ++ L)) := (has_pick (β := β) (L := L) hp).s hs
          cases v with
          | some u => exact ⟨_, rfl, set_map key_str (fun a b h => by cases h; rfl) hs1 fun h' hs' => hq (hcl.put hp (cloE_set (hc u rfl) hcr)) h' ((sub_back (β := β) (L := L) hp _).s hs'), fun hm => hm⟩
          | none => exact ⟨_, rfl, del_map key_str hs1 fun h' hs' => hq (hcl.put hp (cloE_del hcr)) h' ((sub_back (β := β) (L := L) hp _).s hs'), fun hm => hm⟩
        · cases hx
      · cases hx
    · rename_i es r hp
      have hcr := (hcl _ _ (pick_mem hp).1).2
      split at hx
      · rename_i hu
        obtain ⟨⟨fs, hf⟩, hlaw⟩ := hT.law kt hu
        rw [hkd] at hf
        cases hf
        split at hx
        · rename_i a b
          cases hx
          have hs1 : sat h (mapA e2 (val β) (β.b j) es :: (asn β r ++ L)) := (has_pick (β := β) (L := L) hp).s hs
          have hreq : ∀ {ρ : Type} {m : HM ρ} {h' : Heap} {Q' : ρ → Heap → Prop}, m h' Q' → keyReq P kt (.struct fs) (val β (.agg [.int .i64 a, .int .i64 b])) m h' Q' := fun hm => ⟨(hlaw.same (a, b) (a, b)).trans (by simp), hm⟩
          cases v with
          | some u => exact ⟨_, rfl, set_map (k := (a, b)) hlaw inj_e2 hs1 fun h' hs' => hq (hcl.put hp (cloE_set (hc u rfl) hcr)) h' ((sub_back (β := β) (L := L) hp _).s hs'), hreq⟩
          | none => exact ⟨_, rfl, del_map (k := (a, b)) hlaw hs1 fun h' hs' => hq (hcl.put hp (cloE_del hcr)) h' ((sub_back (β := β) (L := L) hp _).s hs'), hreq⟩
        · cases hx
      · cases hx
    · cases hx
  · cases hx
def xMapSet (P : Program) (T2 : TypeId → Bool) (t : TypeId) (n : Nat) (s : XSt) (x key v : XV) : Option XSt :=
  match P.underlying t with
  | some (.map kt _) => match P.underlying kt with
    | some _ => match clo n v with
      | true => xUpd P T2 kt s x key (some v)
      | false => none
    | none => none
  | _ => none
theorem xMapSet_ok (hT : T2OK P T2) {t : TypeId} {n : Nat} {s s' : XSt} {x key v : XV} (h : xMapSet P T2 t n s x key v = some s') (hcl : CloS n s) (hk : CloS n s' → W (asn β s' ++ L) (k undef) Q) : W (asn β s ++ L) (denMapSet P t (val β x) (val β key) (val β v) k) Q := by
  intro hp hs
  unfold xMapSet at h
  split at h
  · rename_i kt et ht
    split at h
    · rename_i kd hkd
      split at h
      · rename_i hc
        obtain ⟨r, e1, e2, e3⟩ := xUpd_ok (L := L) (Q := fun _ h' => k undef h' Q) hT hkd h hcl (fun u hu => by cases hu; exact hc) hs (fun hc' h' hs' => hk hc' h' hs')
        rw [e1]
        simp only [denMapSet, ht, hkd]
        exact e3 e2
      · cases h
    · cases h
  · cases h
def xDelete (P : Program) (T2 : TypeId → Bool) (ts : List TypeId) (s : XSt) (vs : List XV) : Option XSt :=
  match ts, vs with
  | t :: _, [x, key] => match P.underlying t with
    | some (.map kt _) => match P.underlying kt with
      | some _ => xUpd P T2 kt s x key none
      | none => none
    | _ => none
  | _, _ => none
theorem xDelete_ok (hT : T2OK P T2) {ts : List TypeId} {n : Nat} {s s' : XSt} {vs : List XV} (h : xDelete P T2 ts s vs = some s') (hcl : CloS n s) (hk : CloS n s' → W (asn β s' ++ L) (k (.tuple #[])) Q) : W (asn β s ++ L) (denDelete P ts (vals β vs) k) Q := by
  intro hp hs
  unfold xDelete at h
  split at h
  · rename_i t ts x key
    split at h
    · rename_i kt et ht
      split at h
      · rename_i kd hkd
        obtain ⟨r, e1, e2, e3⟩ := xUpd_ok (L := L) (Q := fun _ h' => k (.tuple #[]) h' Q) hT hkd h hcl (fun u hu => by cases hu) hs (fun hc' h' hs' => hk hc' h' hs')
        simp only [vals]
        rw [e1]
        simp only [denDelete, ht, hkd]
        exact e3 e2
      · cases h
    · cases h
  · cases h
end
end Go.X
namespace Go.X
open Go.H
set_option linter.unusedSimpArgs false
set_option linter.unusedVariables false
abbrev XEnv := Tri XV
abbrev xget (e : XEnv) (t : Nat) : Option XV := e.get t
def EAg (β : As) (e : XEnv) (e0 : Env) : Prop := ∀ t v, e.get t = some v → e0.get t = some (val β v)
def xev (e : XEnv) : Operand → Option XV
  | .tmp t => xget e t
  | .const v => ofV 4 v
  | .global g => some (.gptr g 0)
  | .func f => some (.func f [] [])
theorem xev_ok {β : As} {e : XEnv} {e0 : Env} (hE : EAg β e e0) {x : Operand} {v : XV} (h : xev e x = some v) : e0.ev x = some (val β v) := by
  cases x with
  | tmp t => exact hE t v h
  | const c => simp only [Env.ev]; rw [(ofV_ok (β := β) 4 c v h).1]
  | global g => cases h; rfl
  | func f => cases h; rfl
def xevs (e : XEnv) : List Operand → Option (List XV)
  | [] => some []
  | x :: xs => match xev e x with
    | some v => match xevs e xs with
      | some vs => some (v :: vs)
      | none => none
    | none => none
theorem xevs_ok {β : As} {e : XEnv} {e0 : Env} (hE : EAg β e e0) : ∀ {xs : List Operand} {vs : List XV}, xevs e xs = some vs → e0.evs xs = some (vals β vs)
  | [], vs, h => by cases h; rfl
  | x :: xs, vs, h => by
    simp only [xevs] at h
    split at h
    · rename_i v hv
      split at h
      · rename_i us hus
        cases h
        simp only [Env.evs, xev_ok hE hv, xevs_ok hE hus, vals]
      · cases h
    · cases h
def xparts (e : XEnv) : List (Nat × Operand) → Option (List (Nat × XV))
  | [] => some []
  | (i, x) :: xs => match xev e x with
    | some v => match xparts e xs with
      | some vs => some ((i, v) :: vs)
      | none => none
    | none => none
theorem xparts_ok {β : As} {e : XEnv} {e0 : Env} (hE : EAg β e e0) : ∀ {xs : List (Nat × Operand)} {vs : List (Nat × XV)}, xparts e xs = some vs → evParts e0 xs = some (pvals β vs)
  | [], vs, h => by cases h; rfl
  | (i, x) :: xs, vs, h => by
    simp only [xparts] at h
    split at h
    · rename_i v hv
      split at h
      · rename_i us hus
        cases h
        simp only [evParts, xev_ok hE hv, xparts_ok hE hus, pvals, List.map_cons]
      · cases h
    · cases h
def xoptInt (e : XEnv) : Option Operand → Option (Option Int)
  | none => some none
  | some x => match xev e x with
    | some (.int _ n) => some (some n)
    | _ => none
theorem xoptInt_ok {β : As} {e : XEnv} {e0 : Env} (hE : EAg β e e0) {x : Option Operand} {r : Option Int} (h : xoptInt e x = some r) : optInt e0 x = some r := by
  cases x with
  | none => cases h; rfl
  | some x =>
    simp only [xoptInt] at h
    split at h
    · rename_i kd n hv
      cases h
      simp only [optInt, xev_ok hE hv, val]
    · cases h
section
variable {ρ τ : Type} {L : List Asn} {Q : ρ → Heap → Prop} {k : Value → HM ρ} {P : Program} {β : As}
def xBytes : List (List XV) → Option (List Int)
  | [] => some []
  | [.int .u8 n] :: r => match xBytes r with
    | some l => some (n :: l)
    | none => none
  | _ => none
theorem xBytes_ok : ∀ {rows : List (List XV)} {ns : List Int}, xBytes rows = some ns → (rows.map (vals β)).flatten = ns.map (Value.int .u8)
  | [], _, h => by cases h; rfl
  | row :: r, ns, h => by
    unfold xBytes at h
    split at h
    · rename_i heq
      cases heq
    · rename_i n r' heq
      cases heq
      split at h
      · rename_i l hl
        cases h
        simp only [List.map_cons, List.flatten_cons, xBytes_ok hl, vals, val]
        rfl
      · cases h
    · cases h
def xConvert (P : Program) (src dst : TypeId) (s : XSt) (x : XV) : Option XV :=
  match P.underlying src with
  | none => none
  | some us => match P.underlying dst with
    | some (.int kd) => match x with
      | .int _ n => some (.int kd (kd.wrap n))
      | _ => none
    | some .string => match x with
      | .str b => some (.str b)
      | .nslc => match us with
        | .slice e => match P.underlying e with
          | some (.int .u8) => some (.str (bytesOfInts []))
          | _ => none
        | _ => none
      | .slc j => match us with
        | .slice e => match P.underlying e with
          | some (.int .u8) => match look j s with
            | some (.own size es) => match Nat.beq size 1 with
              | true => match xBytes es with
                | some ns => some (.str (bytesOfInts ns))
                | none => none
              | false => none
            | _ => none
          | _ => none
        | _ => none
      | _ => none
    | _ => none
theorem xConvert_ok {src dst : TypeId} {s : XSt} {x v : XV} (h : xConvert P src dst s x = some v) (hk : W (asn β s ++ L) (k (val β v)) Q) : W (asn β s ++ L) (denConvert P src dst (val β x) k) Q := by
  intro hp hs
  unfold xConvert at h
  unfold denConvert
  split at h
  · cases h
  · rename_i us hus
    rw [hus]
    split at h
    · rename_i kd hd
      rw [hd]
      split at h
      · cases h; exact hk hp hs
      · cases h
    · rename_i hd
      rw [hd]
      split at h
      · cases h; exact hk hp hs
      · split at h
        · rename_i e
          split at h
          · rename_i he
            cases h
            simp only [val, he]
            exact ⟨[], rfl, hk hp hs⟩
          · cases h
        · cases h
      · rename_i j
        split at h
        · rename_i e
          split at h
          · rename_i he
            split at h
            · rename_i size es hl
              split at h
              · rename_i hb
                split at h
                · rename_i ns hns
                  cases h
                  have := Nat.eq_of_beq_eq_true hb
                  subst this
                  obtain ⟨R, hs1⟩ := look_sat (L := L) hl hs
                  obtain ⟨xs, ⟨hx, -⟩, hs2⟩ := ownX_iff.1 (show sat hp (ownX β j 1 es :: R) from hs1)
                  have hr := row_reads (fun x => x.2.1) (hs2.own_row (fun x => x.2.1)) Nat.one_pos
                  rw [flat_of hx, xBytes_ok hns, Nat.mul_one] at hr
                  simp only [val, he]
                  exact ⟨ns, hr, hk hp hs⟩
                · cases h
              · cases h
            · cases h
          · cases h
        · cases h
      · cases h
    · cases h
end
end Go.X
namespace Go.X
open Go.H
set_option linter.unusedSimpArgs false
set_option linter.unusedVariables false
abbrev XR := XV × Nat × XSt
def same (n : Nat) (s : XSt) : Option XV → Option XR
  | some v => some (v, n, s)
  | none => none
def unit (n : Nat) : Option XSt → Option XR
  | some s => some (.tup [], n, s)
  | none => none
def next (n : Nat) : Option (XV × XSt) → Option XR
  | some (v, s) => some (v, n + 1, s)
  | none => none
theorem same_eq {n n' : Nat} {s s' : XSt} {o : Option XV} {v : XV} (h : same n s o = some (v, n', s')) : o = some v ∧ n' = n ∧ s' = s := by
  cases o with
  | none => cases h
  | some u => cases h; exact ⟨rfl, rfl, rfl⟩
theorem unit_eq {n n' : Nat} {s' : XSt} {o : Option XSt} {v : XV} (h : unit n o = some (v, n', s')) : o = some s' ∧ n' = n ∧ v = .tup [] := by
  cases o with
  | none => cases h
  | some u => cases h; exact ⟨rfl, rfl, rfl⟩
theorem next_eq {n n' : Nat} {s' : XSt} {o : Option (XV × XSt)} {v : XV} (h : next n o = some (v, n', s')) : o = some (v, s') ∧ n' = n + 1 := by
  cases o with
  | none => cases h
  | some u => obtain ⟨a, b⟩ := u; cases h; exact ⟨rfl, rfl⟩
section
variable {ρ : Type} {L : List Asn} {Q : ρ → Heap → Prop} {k : Value → HM ρ} {P : Program} {β : As} {T2 : TypeId → Bool} {C : List Nat}
def xOp0 (P : Program) (T2 : TypeId → Bool) (e : XEnv) (n : Nat) (s : XSt) (o : Oper) : Option XR :=
  match o.op with
  | .move x => same n s (xev e x)
  | .assign x => same n s (xev e x)
  | .alloc t => next n (xAlloc P t n s)
  | .box t x => match xev e x with
    | some v => next n (xBox P t v n s)
    | none => none
  | .build t ps => match xparts e ps.toList with
    | some vs => same n s (xBuild P t vs)
    | none => none
  | .load t x => match xev e x with
    | some v => same n s (xLoad P t s v)
    | none => none
  | .store t x y => match xev e x with
    | some v => match xev e y with
      | some u => unit n (xStoreE P t n s v u)
      | none => none
    | none => none
  | .nilCheck x => match xev e x with
    | some v => same n s (xNilCheck s v)
    | none => none
  | .binOp op t x y _ => match xev e x with
    | some v => match xev e y with
      | some u => same n s (xBin P op t y v u)
      | none => none
    | none => none
  | .unOp op _ x => match xev e x with
    | some v => same n s (xUn op v)
    | none => none
  | .convert a t x => match xev e x with
    | some v => same n s (xConvert P a t s v)
    | none => none
  | .slice t x lo hi mx => match xev e x with
    | some v => match xoptInt e lo with
      | some l => match xoptInt e hi with
        | some hh => match xoptInt e mx with
          | some m => xSlice P t n s v l hh m
          | none => none
        | none => none
      | none => none
    | none => none
  | .fieldAddr t x f => match xev e x with
    | some v => same n s (xFieldAddr P t s v f)
    | none => none
  | .field t x f => match xev e x with
    | some v => same n s (xField P t v f)
    | none => none
  | .indexAddr t x i => match xev e x with
    | some v => match xev e i with
      | some u => same n s (xIndexAddr P t s v u)
      | none => none
    | none => none
  | .index t x i => match xev e x with
    | some v => match xev e i with
      | some u => same n s (xIndex P t v u)
      | none => none
    | none => none
  | .lookup t x i ok => match xev e x with
    | some v => match xev e i with
      | some u => same n s (xLookup P T2 t s v u ok)
      | none => none
    | none => none
  | .mapUpdate t x i y => match xev e x with
    | some v => match xev e i with
      | some u => match xev e y with
        | some z => unit n (xMapSet P T2 t n s v u z)
        | none => none
      | none => none
    | none => none
  | _ => none
theorem xOp0_ok (hT : T2OK P T2) {e : XEnv} {e0 : Env} (hE : EAg β e e0) {d : Dec} {n n' : Nat} {s s' : XSt} {o : Oper} {v : XV} (h : xOp0 P T2 e n s o = some (v, n', s')) (hcl : CloS n s)
    (hk : ∀ γ, Agr n β γ → n ≤ n' → CloS n' s' → W (asn γ s' ++ L) (k (val γ v)) Q) : W (asn β s ++ L) (denOp P C e0 d o k) Q := by
  have hs : n' = n → s' = s → W (asn β s ++ L) (k (val β v)) Q := fun e1 e2 => by subst e1 e2; exact hk β Agr.rfl (Nat.le_refl _) hcl
  unfold xOp0 at h
  unfold denOp
  split at h
  · rename_i x ho; rw [ho]; obtain ⟨h1, h2, h3⟩ := same_eq h; simp only [xev_ok hE h1]; exact hs h2 h3
  · rename_i x ho; rw [ho]; obtain ⟨h1, h2, h3⟩ := same_eq h; simp only [xev_ok hE h1]; exact hs h2 h3
  · rename_i t ho; rw [ho]; obtain ⟨h1, rfl⟩ := next_eq h; exact xAlloc_ok h1 hcl fun γ hγ hc => hk γ hγ (Nat.le_succ _) hc
  · rename_i t x ho; rw [ho]
    split at h
    · rename_i u hu; obtain ⟨h1, rfl⟩ := next_eq h; simp only [xev_ok hE hu]; exact xBox_ok h1 hcl fun γ hγ hc => hk γ hγ (Nat.le_succ _) hc
    · cases h
  · rename_i t ps ho; rw [ho]
    split at h
    · rename_i vs hvs; obtain ⟨h1, h2, h3⟩ := same_eq h; simp only [xparts_ok hE hvs]; exact xBuild_ok h1 (hs h2 h3)
    · cases h
  · rename_i t x ho; rw [ho]
    split at h
    · rename_i u hu; obtain ⟨h1, h2, h3⟩ := same_eq h; simp only [xev_ok hE hu]; exact xLoad_ok h1 (hs h2 h3)
    · cases h
  · rename_i t x y ho; rw [ho]
    split at h
    · rename_i u hu
      split at h
      · rename_i w hw; obtain ⟨h1, rfl, rfl⟩ := unit_eq h; simp only [xev_ok hE hu, xev_ok hE hw]; exact xStoreE_ok h1 hcl fun hc => hk β Agr.rfl (Nat.le_refl _) hc
      · cases h
    · cases h
  · rename_i x ho; rw [ho]
    split at h
    · rename_i u hu; obtain ⟨h1, h2, h3⟩ := same_eq h; simp only [xev_ok hE hu]; exact xNilCheck_ok h1 (hs h2 h3)
    · cases h
  · rename_i op t x y q ho; rw [ho]
    split at h
    · rename_i u hu
      split at h
      · rename_i w hw; obtain ⟨h1, h2, h3⟩ := same_eq h; simp only [xev_ok hE hu, xev_ok hE hw]; exact xBin_ok h1 (hs h2 h3)
      · cases h
    · cases h
  · rename_i op t x ho; rw [ho]
    split at h
    · rename_i u hu; obtain ⟨h1, h2, h3⟩ := same_eq h; simp only [xev_ok hE hu]; exact xUn_ok h1 (hs h2 h3)
    · cases h
  · rename_i a t x ho; rw [ho]
    split at h
    · rename_i u hu; obtain ⟨h1, h2, h3⟩ := same_eq h; simp only [xev_ok hE hu]; exact xConvert_ok h1 (hs h2 h3)
    · cases h
  · rename_i t x lo hi mx ho; rw [ho]
    split at h
    · rename_i u hu
      split at h
      · rename_i l hl
        split at h
        · rename_i hh hhh
          split at h
          · rename_i m hm
            simp only [xev_ok hE hu, xoptInt_ok hE hl, xoptInt_ok hE hhh, xoptInt_ok hE hm]
            exact xSlice_ok h hcl hk
          · cases h
        · cases h
      · cases h
    · cases h
  · rename_i t x f ho; rw [ho]
    split at h
    · rename_i u hu; obtain ⟨h1, h2, h3⟩ := same_eq h; simp only [xev_ok hE hu]; exact xFieldAddr_ok h1 (hs h2 h3)
    · cases h
  · rename_i t x f ho; rw [ho]
    split at h
    · rename_i u hu; obtain ⟨h1, h2, h3⟩ := same_eq h; simp only [xev_ok hE hu]; exact xField_ok h1 (hs h2 h3)
    · cases h
  · rename_i t x i ho; rw [ho]
    split at h
    · rename_i u hu
      split at h
      · rename_i w hw; obtain ⟨h1, h2, h3⟩ := same_eq h; simp only [xev_ok hE hu, xev_ok hE hw]; exact xIndexAddr_ok h1 (hs h2 h3)
      · cases h
    · cases h
  · rename_i t x i ho; rw [ho]
    split at h
    · rename_i u hu
      split at h
      · rename_i w hw; obtain ⟨h1, h2, h3⟩ := same_eq h; simp only [xev_ok hE hu, xev_ok hE hw]; exact xIndex_ok h1 (hs h2 h3)
      · cases h
    · cases h
  · rename_i t x i ok ho; rw [ho]
    split at h
    · rename_i u hu
      split at h
      · rename_i w hw; obtain ⟨h1, h2, h3⟩ := same_eq h; simp only [xev_ok hE hu, xev_ok hE hw]; exact xLookup_ok hT h1 (hs h2 h3)
      · cases h
    · cases h
  · rename_i t x i y ho; rw [ho]
    split at h
    · rename_i u hu
      split at h
      · rename_i w hw
        split at h
        · rename_i z hz; obtain ⟨h1, rfl, rfl⟩ := unit_eq h; simp only [xev_ok hE hu, xev_ok hE hw, xev_ok hE hz]; exact xMapSet_ok hT h1 hcl fun hc => hk β Agr.rfl (Nat.le_refl _) hc
        · cases h
      · cases h
    · cases h
  · cases h
end
end Go.X
namespace Go.X
open Go.H
set_option linter.unusedSimpArgs false
set_option linter.unusedVariables false
section
variable {ρ : Type} {L : List Asn} {Q : ρ → Heap → Prop} {k : Value → HM ρ} {P : Program} {β : As} {T2 : TypeId → Bool} {C : List Nat}
theorem vals_get {l : List XV} {i : Nat} {v : XV} (h : l[i]? = some v) : (vals β l)[i]? = some (val β v) := by
  rw [vals_map, List.getElem?_map, h]; rfl
def xBuiltin (P : Program) (T2 : TypeId → Bool) (b : Builtin) (ts : List TypeId) (n : Nat) (s : XSt) (vs : List XV) : Option XR :=
  match b with
  | .len => same n s (xLen P ts s vs)
  | .append => next n (xAppend P ts n s vs)
  | .min => same n s (xMinMax false vs)
  | .max => same n s (xMinMax true vs)
  | .delete => unit n (xDelete P T2 ts s vs)
  | _ => none
theorem xBuiltin_ok (hT : T2OK P T2) {b : Builtin} {ts : List TypeId} {n n' : Nat} {s s' : XSt} {vs : List XV} {v : XV} (h : xBuiltin P T2 b ts n s vs = some (v, n', s')) (hcl : CloS n s)
    (hk : ∀ γ, Agr n β γ → n ≤ n' → CloS n' s' → W (asn γ s' ++ L) (k (val γ v)) Q) : W (asn β s ++ L) (denBuiltin P b ts (vals β vs) k) Q := by
  have hs : n' = n → s' = s → W (asn β s ++ L) (k (val β v)) Q := fun e1 e2 => by subst e1 e2; exact hk β Agr.rfl (Nat.le_refl _) hcl
  unfold xBuiltin at h
  split at h
  · obtain ⟨h1, h2, h3⟩ := same_eq h; exact xLen_ok h1 (hs h2 h3)
  · obtain ⟨h1, rfl⟩ := next_eq h; exact xAppend_ok h1 hcl fun γ hγ hc => hk γ hγ (Nat.le_succ _) hc
  · obtain ⟨h1, h2, h3⟩ := same_eq h; exact xMinMax_ok h1 (hs h2 h3)
  · obtain ⟨h1, h2, h3⟩ := same_eq h; exact xMinMax_ok h1 (hs h2 h3)
  · obtain ⟨h1, rfl, rfl⟩ := unit_eq h; exact xDelete_ok hT h1 hcl fun hc => hk β Agr.rfl (Nat.le_refl _) hc
  · cases h
def CallS (P : Program) (call : Nat → List XV → Nat → XSt → Option XR) : Prop :=
  ∀ f args n s v n' s', call f args n s = some (v, n', s') → CloS n s → ∀ (β : As) (L : List Asn) (Q : Value → Heap → Prop),
    (∀ γ, Agr n β γ → n ≤ n' → CloS n' s' → At (asn γ s' ++ L) (Q (val γ v))) → FW P f (vals β args).toArray (asn β s ++ L) Q
def xkinds : List Kind → List XV → Bool
  | [], [] => true
  | t :: ts, x :: xs => match xkind t x with
    | true => xkinds ts xs
    | false => false
  | _, _ => false
theorem xkinds_ok {β : As} : ∀ {ts : List Kind} {xs : List XV}, xkinds ts xs = true → ∃ y, KTup.vals ts y = vals β xs
  | [], [], _ => ⟨(), rfl⟩
  | [], _ :: _, h => by cases h
  | _ :: _, [], h => by cases h
  | t :: ts, x :: xs, h => by
    simp only [xkinds] at h
    split at h
    · rename_i ht
      obtain ⟨y, hy⟩ := xkind_ok (β := β) ht
      obtain ⟨ys, hys⟩ := xkinds_ok (β := β) h
      refine ⟨(y, ys), ?_⟩
      show t.val y :: KTup.vals ts ys = val β x :: vals β xs
      rw [hys, hy]
    · cases h
def xfits (P : Program) (t : TypeId) (v : XV) : Bool :=
  match retOf P t with
  | some (.one kd) => xkind kd v
  | some (.many ks) => match v with
    | .tup vs => xkinds ks vs
    | _ => false
  | none => false
theorem xCall_ok {call : Nat → List XV → Nat → XSt → Option XR} (hC : CallS P call) {t : TypeId} {f n n' : Nat} {s s' : XSt} {first cap vs : List XV} {v : XV} (hf : memN f C = true) (h : call f (first ++ (vs ++ cap)) n s = some (v, n', s')) (hfit : xfits P t v = true) (hcl : CloS n s)
    (hk : ∀ γ, Agr n β γ → n ≤ n' → CloS n' s' → W (asn γ s' ++ L) (k (val γ v)) Q) : W (asn β s ++ L) (denCall P C t (val β (.func f first cap)) (vals β vs) k) Q := by
  intro hp hs
  have hcall := fun Q' => hC f _ n s v n' s' h hcl β L Q'
  have ea : (vals β (first ++ (vs ++ cap))).toArray = ((vals β first).toArray.toList ++ (vals β vs ++ (vals β cap).toArray.toList)).toArray := by
    simp only [vals_map, List.map_append]
  simp only [val, denCall, hf]
  unfold xfits at hfit
  split at hfit
  · rename_i kd hr
    rw [hr]
    have := hcall (fun v' h' => ∃ x, v' = kd.val x ∧ k (kd.val x) h' Q) (fun γ hγ hle hc h' hs' => by
      obtain ⟨y, hy⟩ := xkind_ok (β := γ) hfit
      refine ⟨y, hy, ?_⟩
      have := hk γ hγ hle hc h' hs'
      rwa [hy] at this) hp hs
    rw [ea] at this
    exact this
  · rename_i ks hr
    rw [hr]
    split at hfit
    · rename_i us
      have := hcall (fun v' h' => ∃ x, v' = .tuple (KTup.vals ks x).toArray ∧ k (.tuple (KTup.vals ks x).toArray) h' Q) (fun γ hγ hle hc h' hs' => by
        obtain ⟨y, hy⟩ := xkinds_ok (β := γ) hfit
        refine ⟨y, by simp only [val]; rw [hy], ?_⟩
        have := hk γ hγ hle hc h' hs'
        simp only [val] at this
        rw [← hy] at this
        exact this) hp hs
      rw [ea] at this
      exact this
    · cases hfit
  · cases hfit
end
end Go.X
namespace Go.X
open Go.H
set_option linter.unusedSimpArgs false
set_option linter.unusedVariables false
section
variable {ρ : Type} {L : List Asn} {Q : ρ → Heap → Prop} {k : Value → HM ρ} {P : Program} {β : As} {T2 : TypeId → Bool} {C : List Nat}
def keyNo (P : Program) (t : TypeId) : Nat :=
  match P.underlying t with
  | some (.map kt _) => match P.underlying kt with
    | some .string => 1
    | some (.struct _) => 2
    | _ => 0
  | _ => 0
def fitR (P : Program) (t : TypeId) : Option XR → Option XR
  | some (v, n, s) => match xfits P t v with
    | true => some (v, n, s)
    | false => none
  | none => none
theorem fitR_eq {t : TypeId} {o : Option XR} {r : XR} (h : fitR P t o = some r) : o = some r ∧ xfits P t r.1 = true := by
  cases o with
  | none => cases h
  | some u =>
    obtain ⟨v, n, s⟩ := u
    simp only [fitR] at h
    split at h
    · rename_i hf; cases h; exact ⟨rfl, hf⟩
    · cases h
def xOp (P : Program) (T2 : TypeId → Bool) (C : List Nat) (call : Nat → List XV → Nat → XSt → Option XR) (e : XEnv) (n : Nat) (s : XSt) (o : Oper) : Option XR :=
  match o.op with
  | .extract x i => match xev e x with
    | some (.tup vs) => same n s (vs[i]?)
    | _ => none
  | .makeInterface t x => match xev e x with
    | some v => match P.underlying t with
      | some (.interface _) => none
      | some _ => some (.iface t v, n, s)
      | none => none
    | none => none
  | .makeFunc (.func f) first cap => match xevs e first.toList with
    | some vs => match xevs e cap.toList with
      | some us => some (.func f vs us, n, s)
      | none => none
    | none => none
  | .makeMap t none => some ((xMap n s (keyNo P t)).1, n + 1, (xMap n s (keyNo P t)).2)
  | .call c => match xevs e c.args.toList with
    | some vs => match c.callee with
      | .builtin b => xBuiltin P T2 b c.argTypes.toList n s vs
      | .value (.func f) => match memN f C with
        | true => fitR P o.type (call f vs n s)
        | false => none
      | _ => none
    | none => none
  | _ => xOp0 P T2 e n s o
theorem xOp_ok (hT : T2OK P T2) {call : Nat → List XV → Nat → XSt → Option XR} (hC : CallS P call) {e : XEnv} {e0 : Env} (hE : EAg β e e0) {d : Dec} {n n' : Nat} {s s' : XSt} {o : Oper} {v : XV} (h : xOp P T2 C call e n s o = some (v, n', s')) (hcl : CloS n s)
    (hk : ∀ γ, Agr n β γ → n ≤ n' → CloS n' s' → W (asn γ s' ++ L) (k (val γ v)) Q) : W (asn β s ++ L) (denOp P C e0 d o k) Q := by
  have hs : n' = n → s' = s → W (asn β s ++ L) (k (val β v)) Q := fun e1 e2 => by subst e1 e2; exact hk β Agr.rfl (Nat.le_refl _) hcl
  unfold xOp at h
  split at h
  · rename_i x i ho
    split at h
    · rename_i vs hvs
      obtain ⟨h1, h2, h3⟩ := same_eq h
      unfold denOp
      rw [ho]
      simp only [xev_ok hE hvs, val, vals_get (β := β) h1]
      exact hs h2 h3
    · cases h
  · rename_i t x ho
    split at h
    · rename_i u hu
      split at h
      · cases h
      · rename_i dd hne hd
        cases h
        unfold denOp
        rw [ho]
        simp only [xev_ok hE hu]
        rw [hd]
        have := hs rfl rfl
        simp only [val] at this
        cases dd <;> first | exact this | exact absurd rfl (hne _)
      · cases h
    · cases h
  · rename_i f first cap ho
    split at h
    · rename_i vs hvs
      split at h
      · rename_i us hus
        cases h
        unfold denOp
        rw [ho]
        simp only [xevs_ok hE hvs, xevs_ok hE hus]
        exact hs rfl rfl
      · cases h
    · cases h
  · rename_i t ho
    cases h
    unfold denOp
    rw [ho]
    exact xMap_ok hcl fun γ hγ hc => hk γ hγ (Nat.le_succ _) hc
  · rename_i c ho
    split at h
    · rename_i vs hvs
      split at h
      · rename_i b hb
        unfold denOp
        rw [ho]
        simp only [xevs_ok hE hvs, hb]
        exact xBuiltin_ok hT h hcl hk
      · rename_i f hf
        split at h
        · rename_i hm
          obtain ⟨h1, h2⟩ := fitR_eq h
          unfold denOp
          rw [ho]
          simp only [xevs_ok hE hvs, hf]
          exact xCall_ok (first := []) (cap := []) hC hm (by simpa using h1) h2 hcl hk
        · cases h
      · cases h
    · cases h
  · exact xOp0_ok hT hE h hcl hk
end
end Go.X
namespace Go.X
open Go.H
set_option linter.unusedSimpArgs false
set_option linter.unusedVariables false
mutual
def ren (σ : Nat → Nat) : XV → XV
  | .ptr k o => .ptr (σ k) o
  | .eptr k o => .eptr (σ k) o
  | .slc k => .slc (σ k)
  | .map k => .map (σ k)
  | .agg cs => .agg (rens σ cs)
  | .tup cs => .tup (rens σ cs)
  | .func f a b => .func f (rens σ a) (rens σ b)
  | .iface t v => .iface t (ren σ v)
  | .int k n => .int k n
  | .bool b => .bool b
  | .str s => .str s
  | .nptr => .nptr
  | .gptr g o => .gptr g o
  | .nslc => .nslc
  | .nmap => .nmap
  | .nfunc => .nfunc
  | .niface => .niface
def rens (σ : Nat → Nat) : List XV → List XV
  | [] => []
  | v :: vs => ren σ v :: rens σ vs
end
def As.ren (β : As) (σ : Nat → Nat) : As := ⟨fun k => β.b (σ k), fun k => β.s (σ k)⟩
mutual
theorem val_ren {β : As} {σ : Nat → Nat} : ∀ v, val β (ren σ v) = val (β.ren σ) v
  | .ptr k o => rfl
  | .eptr k o => rfl
  | .slc k => rfl
  | .map k => rfl
  | .agg cs => by simp only [ren, val]; rw [vals_ren cs]
  | .tup cs => by simp only [ren, val]; rw [vals_ren cs]
  | .func f a b => by simp only [ren, val]; rw [vals_ren a, vals_ren b]
  | .iface t v => by simp only [ren, val]; rw [val_ren v]
  | .int k n => rfl
  | .bool b => rfl
  | .str s => rfl
  | .nptr => rfl
  | .gptr g o => rfl
  | .nslc => rfl
  | .nmap => rfl
  | .nfunc => rfl
  | .niface => rfl
theorem vals_ren {β : As} {σ : Nat → Nat} : ∀ l, vals β (rens σ l) = vals (β.ren σ) l
  | [] => rfl
  | v :: vs => by simp only [rens, vals]; rw [val_ren v, vals_ren vs]
end
def renE {K : Type} (σ : Nat → Nat) : List (K × XV) → List (K × XV)
  | [] => []
  | (k, v) :: r => (k, ren σ v) :: renE σ r
def renR (σ : Nat → Nat) : List (List XV) → List (List XV)
  | [] => []
  | l :: r => rens σ l :: renR σ r
def renF (σ : Nat → Nat) : XF → XF
  | .cells T cs => .cells T (rens σ cs)
  | .mapI es => .mapI (renE σ es)
  | .mapS es => .mapS (renE σ es)
  | .mapT es => .mapT (renE σ es)
  | .own size es => .own size (renR σ es)
  | .txt s p => .txt s p
  | .buf T bs => .buf T bs
  | .walkI it l d t => .walkI (σ it) (renE σ l) (renE σ d) (renE σ t)
  | .walkS it l d t => .walkS (σ it) (renE σ l) (renE σ d) (renE σ t)
  | .itOf m => .itOf (σ m)
  | .itNil => .itNil
theorem renE_ok {K : Type} {β : As} {σ : Nat → Nat} : ∀ {es : List (K × XV)}, (renE σ es).map (fun p => (p.1, val β p.2)) = es.map (fun p => (p.1, val (β.ren σ) p.2))
  | [] => rfl
  | (k, v) :: r => by simp only [renE, List.map_cons]; rw [val_ren v, renE_ok]
theorem renR_ok {β : As} {σ : Nat → Nat} : ∀ {es : List (List XV)}, (renR σ es).map (vals β) = es.map (vals (β.ren σ))
  | [] => rfl
  | l :: r => by simp only [renR, List.map_cons]; rw [vals_ren l, renR_ok]
theorem mapA_eq {K : Type} {ek : K → Value} {b : Nat} {f g : XV → Value} {es fs : List (K × XV)} (h : es.map (fun p => (p.1, f p.2)) = fs.map (fun p => (p.1, g p.2))) : mapA ek f b es = mapA ek g b fs := by
  have e : ∀ l, Ents ek f es l = Ents ek g fs l := fun l => by
    unfold Ents
    have h2 := congrArg (List.map fun p : K × Value => (ek p.1, p.2)) h
    simp only [List.map_map, Function.comp_def] at h2
    rw [h2]
  unfold mapA
  simp only [e]
theorem itA_eq {K : Type} {ek : K → Value} {b it : Nat} {f g : XV → Value} {l d t l' d' t' : List (K × XV)} (h1 : l.map (fun p => (p.1, f p.2)) = l'.map (fun p => (p.1, g p.2))) (h2 : d.map (fun p => (p.1, f p.2)) = d'.map (fun p => (p.1, g p.2))) (h3 : t.map (fun p => (p.1, f p.2)) = t'.map (fun p => (p.1, g p.2))) :
    itA ek f b l it d t = itA ek g b l' it d' t' := by
  have key : ∀ {l l' : List (K × XV)}, l.map (fun p => (p.1, f p.2)) = l'.map (fun p => (p.1, g p.2)) → l.map (fun p => (ek p.1, f p.2)) = l'.map (fun p => (ek p.1, g p.2)) := fun {l l'} h => by
    have h2 := congrArg (List.map fun p : K × Value => (ek p.1, p.2)) h
    simpa only [List.map_map, Function.comp_def] using h2
  have e : ∀ es c s des tes, ItF ek f l d t es c s des tes = ItF ek g l' d' t' es c s des tes := fun es c s des tes => by
    refine propext ⟨fun h => ⟨?_, h.stamped, h.perm, h.seen, ?_, ?_⟩, fun h => ⟨?_, h.stamped, h.perm, h.seen, ?_, ?_⟩⟩
    · have := h.ents; unfold Ents at this ⊢; rw [← key h1]; exact this
    · have := h.done; unfold PairE at this ⊢; rw [← key h2]; exact this
    · have := h.todo; unfold PairE at this ⊢; rw [← key h3]; exact this
    · have := h.ents; unfold Ents at this ⊢; rw [key h1]; exact this
    · have := h.done; unfold PairE at this ⊢; rw [key h2]; exact this
    · have := h.todo; unfold PairE at this ⊢; rw [key h3]; exact this
  unfold itA
  simp only [e]
theorem fact_ren {β : As} {σ : Nat → Nat} (k : Nat) : ∀ f, fact β (σ k, renF σ f) = fact (β.ren σ) (k, f)
  | .cells T cs => by simp only [renF, fact]; rw [vals_ren]; rfl
  | .mapI es => by simp only [renF, fact]; rw [mapA_eq renE_ok]; rfl
  | .mapS es => by simp only [renF, fact]; rw [mapA_eq renE_ok]; rfl
  | .mapT es => by simp only [renF, fact]; rw [mapA_eq renE_ok]; rfl
  | .own size es => by simp only [renF, fact, ownX]; rw [renR_ok]; rfl
  | .txt s p => rfl
  | .buf T bs => rfl
  | .walkI it l d t => by simp only [renF, fact]; rw [itA_eq renE_ok renE_ok renE_ok]; rfl
  | .walkS it l d t => by simp only [renF, fact]; rw [itA_eq renE_ok renE_ok renE_ok]; rfl
  | .itOf m => rfl
  | .itNil => rfl
def xeqE {K : Type} (eq : K → K → Bool) : List (K × XV) → List (K × XV) → Bool
  | [], [] => true
  | (k, v) :: r, (k', v') :: r' => match eq k k' with
    | true => match xeq v v' with
      | true => xeqE eq r r'
      | false => false
    | false => false
  | _, _ => false
theorem xeqE_eq {K : Type} {eq : K → K → Bool} (heq : ∀ a b, eq a b = true → a = b) : ∀ {a b : List (K × XV)}, xeqE eq a b = true → a = b
  | [], [], _ => rfl
  | [], _ :: _, h => by cases h
  | _ :: _, [], h => by cases h
  | (k, v) :: r, (k', v') :: r', h => by
    simp only [xeqE] at h
    split at h
    · rename_i h1
      split at h
      · rename_i h2; rw [heq _ _ h1, xeq_eq _ _ h2, xeqE_eq heq h]
      · cases h
    · cases h
def xeqR : List (List XV) → List (List XV) → Bool
  | [], [] => true
  | a :: r, b :: r' => match xeqs a b with
    | true => xeqR r r'
    | false => false
  | _, _ => false
theorem xeqR_eq : ∀ {a b : List (List XV)}, xeqR a b = true → a = b
  | [], [], _ => rfl
  | [], _ :: _, h => by cases h
  | _ :: _, [], h => by cases h
  | a :: r, b :: r', h => by
    simp only [xeqR] at h
    split at h
    · rename_i h1; rw [xeqs_eq _ _ h1, xeqR_eq h]
    · cases h
def xeqF : XF → XF → Bool
  | .cells n a, .cells m b => match Nat.beq n m with
    | true => xeqs a b
    | false => false
  | .mapI a, .mapI b => xeqE (fun x y => decide (x = y)) a b
  | .mapS a, .mapS b => xeqE (fun x y => decide (x = y)) a b
  | .mapT a, .mapT b => xeqE (fun x y => decide (x = y)) a b
  | .own n a, .own m b => match Nat.beq n m with
    | true => xeqR a b
    | false => false
  | .txt s p, .txt t q => match decide (s = t) with
    | true => Nat.beq p q
    | false => false
  | .buf n a, .buf m b => match Nat.beq n m with
    | true => decide (a = b)
    | false => false
  | .walkI n a b c, .walkI m a' b' c' => match Nat.beq n m with
    | true => match xeqE (fun x y => decide (x = y)) a a' with
      | true => match xeqE (fun x y => decide (x = y)) b b' with
        | true => xeqE (fun x y => decide (x = y)) c c'
        | false => false
      | false => false
    | false => false
  | .walkS n a b c, .walkS m a' b' c' => match Nat.beq n m with
    | true => match xeqE (fun x y => decide (x = y)) a a' with
      | true => match xeqE (fun x y => decide (x = y)) b b' with
        | true => xeqE (fun x y => decide (x = y)) c c'
        | false => false
      | false => false
    | false => false
  | .itOf n, .itOf m => Nat.beq n m
  | .itNil, .itNil => true
  | _, _ => false
theorem xeqF_eq {a b : XF} (h : xeqF a b = true) : a = b := by
  have hd : ∀ {K : Type} [DecidableEq K] (x y : K), (decide (x = y)) = true → x = y := fun x y h => of_decide_eq_true h
  cases a <;> cases b <;> simp only [xeqF] at h <;> try (cases h; done)
  · split at h
    · rename_i h1; rw [Nat.eq_of_beq_eq_true h1, xeqs_eq _ _ h]
    · cases h
  · rw [xeqE_eq hd h]
  · rw [xeqE_eq hd h]
  · rw [xeqE_eq hd h]
  · split at h
    · rename_i h1; rw [Nat.eq_of_beq_eq_true h1, xeqR_eq h]
    · cases h
  · split at h
    · rename_i h1; rw [of_decide_eq_true h1, Nat.eq_of_beq_eq_true h]
    · cases h
  · split at h
    · rename_i h1; rw [Nat.eq_of_beq_eq_true h1, of_decide_eq_true h]
    · cases h
  · split at h
    · rename_i h1
      split at h
      · rename_i h2
        split at h
        · rename_i h3; rw [Nat.eq_of_beq_eq_true h1, xeqE_eq hd h2, xeqE_eq hd h3, xeqE_eq hd h]
        · cases h
      · cases h
    · cases h
  · split at h
    · rename_i h1
      split at h
      · rename_i h2
        split at h
        · rename_i h3; rw [Nat.eq_of_beq_eq_true h1, xeqE_eq hd h2, xeqE_eq hd h3, xeqE_eq hd h]
        · cases h
      · cases h
    · cases h
  · rw [Nat.eq_of_beq_eq_true h]
  · rfl
section
variable {α : Type}
def Tri.filt (p : Nat → α → Bool) : Tri α → (Nat → Nat) → Tri α
  | .lf, _ => .lf
  | .nd o l r, κ => .nd (match o with
    | some x => match p (κ 0) x with
      | true => some x
      | false => none
    | none => none) (l.filt p (fun j => κ (2 * j + 1))) (r.filt p (fun j => κ (2 * j + 2)))
theorem get_filt {p : Nat → α → Bool} : ∀ {t : Tri α} {κ : Nat → Nat} {i : Nat} {x : α}, (t.filt p κ).get i = some x → t.get i = some x ∧ p (κ i) x = true
  | .lf, κ, i, x, h => by cases h
  | .nd o l r, κ, i, x, h => by
    rcases nat3 i with rfl | ⟨j, rfl⟩ | ⟨j, rfl⟩
    · simp only [Tri.filt, Tri.get] at h ⊢
      cases o with
      | none => cases h
      | some y =>
        simp only at h
        split at h
        · rename_i hp; cases h; exact ⟨rfl, hp⟩
        · cases h
    · simp only [Tri.filt, get_left] at h ⊢
      exact get_filt h
    · simp only [Tri.filt, get_right] at h ⊢
      exact get_filt h
def Tri.every (p : Nat → α → Bool) : Tri α → (Nat → Nat) → Bool
  | .lf, _ => true
  | .nd o l r, κ => match (match o with
    | some x => p (κ 0) x
    | none => true) with
    | true => match l.every p (fun j => κ (2 * j + 1)) with
      | true => r.every p (fun j => κ (2 * j + 2))
      | false => false
    | false => false
theorem get_every {p : Nat → α → Bool} : ∀ {t : Tri α} {κ : Nat → Nat}, t.every p κ = true → ∀ {i : Nat} {x : α}, t.get i = some x → p (κ i) x = true
  | .lf, κ, h, i, x, hx => by cases hx
  | .nd o l r, κ, h, i, x, hx => by
    simp only [Tri.every] at h
    split at h
    · rename_i h1
      split at h
      · rename_i h2
        rcases nat3 i with rfl | ⟨j, rfl⟩ | ⟨j, rfl⟩
        · have : o = some x := hx
          subst this
          exact h1
        · rw [get_left] at hx; exact get_every h2 hx
        · rw [get_right] at hx; exact get_every h hx
      · cases h
    · cases h
theorem all_nodup : ∀ (t : Tri α) (κ : Nat → Nat), (∀ i j, κ i = κ j → i = j) → ((t.all κ).map (·.1)).Nodup
  | .lf, κ, _ => List.nodup_nil
  | .nd o l r, κ, hk => by
    have hl := all_nodup l (fun j => κ (2 * j + 1)) (fun i j h => by have := hk _ _ h; omega)
    have hr := all_nodup r (fun j => κ (2 * j + 2)) (fun i j h => by have := hk _ _ h; omega)
    have ml : ∀ a ∈ (l.all (fun j => κ (2 * j + 1))).map (·.1), ∃ i, a = κ (2 * i + 1) := fun a ha => by
      obtain ⟨⟨b, f⟩, hb, rfl⟩ := List.mem_map.1 ha
      obtain ⟨i, h1, -⟩ := all_get _ _ _ _ hb
      exact ⟨i, h1⟩
    have mr : ∀ a ∈ (r.all (fun j => κ (2 * j + 2))).map (·.1), ∃ i, a = κ (2 * i + 2) := fun a ha => by
      obtain ⟨⟨b, f⟩, hb, rfl⟩ := List.mem_map.1 ha
      obtain ⟨i, h1, -⟩ := all_get _ _ _ _ hb
      exact ⟨i, h1⟩
    simp only [Tri.all, List.map_append, List.nodup_append]
    refine ⟨?_, ⟨hl, hr, ?_⟩, ?_⟩
    · cases o <;> simp
    · intro a ha b hb e
      obtain ⟨i, rfl⟩ := ml a ha
      obtain ⟨j, rfl⟩ := mr b hb
      have := hk _ _ e
      omega
    · intro a ha b hb e
      have ha' : a = κ 0 := by cases o <;> simp_all
      subst ha'
      rcases List.mem_append.1 hb with hb | hb
      · obtain ⟨j, rfl⟩ := ml b hb
        have := hk _ _ e
        omega
      · obtain ⟨j, rfl⟩ := mr b hb
        have := hk _ _ e
        omega
end
theorem sub_facts {γ : As} : ∀ (K : List (Nat × XF)) (s : XSt) (L : List Asn), (K.map (·.1)).Nodup → (∀ k f, (k, f) ∈ K → s.get k = some f) → Sub (asn γ s ++ L) (K.map (fact γ) ++ L)
  | [], s, L, _, _ => by
    have : ∀ (A B : List Asn), Sub (A ++ B) B := fun A => by
      induction A with
      | nil => exact fun B => Sub.rfl
      | cons a A ih => exact fun B => Sub.drop (ih B)
    exact this _ L
  | (k, f) :: K, s, L, hn, hg => by
    have h1 := hg k f (List.mem_cons_self ..)
    obtain ⟨r, hr⟩ := look_pick h1
    obtain ⟨-, rfl⟩ := pick_look hr
    refine Sub.cons (has_pick hr) (sub_facts K _ L (List.nodup_cons.1 hn).2 fun j g hj => ?_)
    have hne : j ≠ k := fun e => by
      subst e
      exact (List.nodup_cons.1 hn).1 (List.mem_map_of_mem (f := (·.1)) hj)
    rw [get_upd s k j none h1, if_neg hne]
    exact hg j g (List.mem_cons_of_mem _ hj)
theorem sub_ren {γ : As} {σ : Nat → Nat} {s s' : XSt} {L : List Asn} (hinj : ∀ i j, σ i = σ j → i = j) (h : ∀ k f, s'.get k = some f → s.get (σ k) = some (renF σ f)) : Sub (asn γ s ++ L) (asn (γ.ren σ) s' ++ L) := by
  have e : asn (γ.ren σ) s' = ((s'.all id).map fun p => (σ p.1, renF σ p.2)).map (fact γ) := by
    unfold asn
    rw [List.map_map]
    refine List.map_congr_left fun ⟨k, f⟩ _ => ?_
    exact (fact_ren k f).symm
  rw [e]
  refine sub_facts _ s L ?_ fun k f hm => ?_
  · rw [List.map_map]
    have h1 := all_nodup s' id (fun i j h => h)
    have : (s'.all id).map ((fun p : Nat × XF => p.1) ∘ fun p => (σ p.1, renF σ p.2)) = ((s'.all id).map (·.1)).map σ := by rw [List.map_map]; rfl
    rw [this]
    exact (List.pairwise_map.2 (h1.imp fun hne e => hne (hinj _ _ e)))
  · obtain ⟨⟨j, g⟩, hj, e⟩ := List.mem_map.1 hm
    cases e
    obtain ⟨i, h1, h2⟩ := all_get _ _ _ _ hj
    cases h1
    exact h _ g h2
theorem ren_id {σ : Nat → Nat} (h : ∀ k, σ k = k) (γ : As) : γ.ren σ = γ := by
  cases γ; simp only [As.ren, h]
end Go.X
namespace Go.X
open Go.H
set_option linter.unusedSimpArgs false
set_option linter.unusedVariables false
section
variable {ρ : Type} {L : List Asn} {Q : ρ → Heap → Prop} {k : Value → HM ρ} {P : Program} {β : As} {T2 : TypeId → Bool} {C : List Nat}
def xPick (e : XEnv) (d : Dec) (c a b : Operand) : Option XV :=
  match c with
  | .tmp t => match d.get t with
    | some true => xev e a
    | some false => xev e b
    | none => match e.get t with
      | some (.bool x) => match xev e a with
        | some (.bool y) => match xev e b with
          | some (.bool z) => some (.bool (match x with | true => y | false => z))
          | _ => none
        | _ => none
      | _ => none
  | _ => none
theorem xPick_ok {e : XEnv} {e0 : Env} (hE : EAg β e e0) {d : Dec} {c a b : Operand} {v : XV} (h : xPick e d c a b = some v) (hk : W L (k (val β v)) Q) : W L (denPick e0 d c a b k) Q := by
  unfold xPick at h
  split at h
  · rename_i t
    simp only [denPick]
    split at h
    · rename_i hd; simp only [hd, xev_ok hE h]; exact hk
    · rename_i hd; simp only [hd, xev_ok hE h]; exact hk
    · rename_i hd
      simp only [hd]
      split at h
      · rename_i x hx
        split at h
        · rename_i y hy
          split at h
          · rename_i z hz
            cases h
            have e1 : e0.ev (.tmp t) = some (.bool x) := hE t _ hx
            simp only [e1, xev_ok hE hy, xev_ok hE hz, val]
            cases x <;> exact hk
          · cases h
        · cases h
      · cases h
  · cases h
def xrepl (z : List XV) : Nat → List XV
  | 0 => []
  | n + 1 => z ++ xrepl z n
theorem vals_append (β : As) (a b : List XV) : vals β (a ++ b) = vals β a ++ vals β b := by simp only [vals_map, List.map_append]
theorem xrepl_ok (z : List XV) : ∀ n, vals β (xrepl z n) = repl (vals β z) n
  | 0 => rfl
  | n + 1 => by simp only [xrepl, repl, vals_append]; rw [xrepl_ok z n]
def xrows (size : Nat) : Nat → List XV → List (List XV)
  | 0, _ => []
  | m + 1, cs => cs.take size :: xrows size m (cs.drop size)
theorem xrows_ok {size : Nat} : ∀ (m : Nat) (cs : List XV), m * size ≤ cs.length → (xrows size m cs).length = m ∧ (∀ l ∈ xrows size m cs, l.length = size ∧ ∀ x ∈ l, x ∈ cs) ∧ (xrows size m cs).flatten = cs.take (m * size)
  | 0, cs, h => ⟨rfl, fun l hl => (by cases hl), by simp [xrows]⟩
  | m + 1, cs, h => by
    rw [Nat.succ_mul] at h
    obtain ⟨h1, h2, h3⟩ := xrows_ok (size := size) m (cs.drop size) (by rw [List.length_drop]; omega)
    simp only [xrows]
    refine ⟨by simp [h1], fun l hl => ?_, ?_⟩
    · rcases List.mem_cons.1 hl with rfl | hl
      · exact ⟨by rw [List.length_take]; omega, fun x hx => List.mem_of_mem_take hx⟩
      · exact ⟨(h2 l hl).1, fun x hx => List.mem_of_mem_drop ((h2 l hl).2 x hx)⟩
    · rw [List.flatten_cons, h3, Nat.succ_mul, Nat.add_comm (m * size) size, List.take_add]
theorem flat_vals (rows : List (List XV)) : (rows.map (vals β)).flatten = vals β rows.flatten := by
  induction rows with
  | nil => rfl
  | cons l r ih => simp only [List.map_cons, List.flatten_cons, vals_append, ih]
theorem own_of_cells {b size m c : Nat} {cs : List XV} {R : List Asn} {h : Heap} (hs : sat h (cells b (vals β cs).toArray :: R)) (h0 : 0 < size) (hm : m ≤ c) (hc : c * size ≤ cs.length) (h1 : xones cs = true) :
    ∃ xs : List (VS size), xs.map (·.1) = (xrows size m cs).map (vals β) ∧ sat h (ownS (vsV (size := size)) size ⟨some ⟨b, 0, none⟩, m, c⟩ xs :: R) := by
  have hmc : m * size ≤ cs.length := Nat.le_trans (Nat.mul_le_mul_right _ hm) hc
  obtain ⟨r1, r2, r3⟩ := xrows_ok m cs hmc
  obtain ⟨xs, hx⟩ := rows_of (β := β) (size := size) (es := xrows size m cs) fun l hl => by
    refine ⟨(r2 l hl).1, fun v hv => xones_ok (β := β) h1 v ?_⟩
    rw [vals_map] at hv ⊢
    obtain ⟨x, hx, rfl⟩ := List.mem_map.1 hv
    exact List.mem_map_of_mem ((r2 l hl).2 x hx)
  refine ⟨xs, hx, ownS_mk (b := b) (o := 0) (cs := (vals β cs).toArray) ⟨by simp, hm, ?_, ?_, ?_⟩ hs⟩
  · have := congrArg List.length hx; simp only [List.length_map, r1] at this; exact this.symm
  · simp only [Nat.zero_add, List.size_toArray, vals_len]; exact hc
  · simp only [Nat.zero_mul, List.drop_zero]
    rw [flat_of hx, flat_vals, r3, vals_map, vals_map, List.map_take]
theorem cloR_xrows {n size m : Nat} {cs : List XV} (h : clos n cs = true) (hm : m * size ≤ cs.length) : cloR n (xrows size m cs) = true := by
  rw [cloR_iff]
  intro l hl
  rw [clos_iff] at h ⊢
  exact fun x hx => h x (((xrows_ok m cs hm).2.1 l hl).2 x hx)
def xBuildSlice (P : Program) (t : TypeId) (len : Nat) (ps : List (Nat × XV)) (n : Nat) (s : XSt) : Option (XV × XSt) :=
  match P.underlying t with
  | some (.slice elem) => match P.info? elem with
    | some i => match i.zero with
      | some z => match Nat.beq z.cells.toList.length i.size with
        | true => match Nat.ble (len * i.size) 16777216 with
          | true => match Nat.ble 1 i.size with
            | true => match mapO (ofV 4) z.cells.toList with
              | some zs => match xfill (elemPlaces P elem) (xrepl zs len) ps with
                | some cs => match xreq (elemPlaces P elem) ps with
                  | true => match Nat.beq cs.length (len * i.size) with
                    | true => match xones cs with
                      | true => match clos n cs with
                        | true => some (.slc n, add n (.own i.size (xrows i.size len cs)) s)
                        | false => none
                      | false => none
                    | false => none
                  | false => none
                | none => none
              | none => none
            | false => none
          | false => none
        | false => none
      | none => none
    | none => none
  | _ => none
theorem own_named {n size m c b : Nat} {s : XSt} {cs : List XV} {h : Heap} (hcl : CloS n s) (hs : sat h (cells b (vals β cs).toArray :: (asn β s ++ L))) (h0 : 0 < size) (hm : m ≤ c) (hc : c * size ≤ cs.length) (h1 : xones cs = true) (hcc : clos n cs = true) :
    sat h (asn (β.newS n ⟨some ⟨b, 0, none⟩, m, c⟩) (add n (.own size (xrows size m cs)) s) ++ L) ∧ CloS (n + 1) (add n (.own size (xrows size m cs)) s) := by
  obtain ⟨xs, hx, hs1⟩ := own_of_cells hs h0 hm hc h1
  have hr : cloR n (xrows size m cs) = true := cloR_xrows hcc (Nat.le_trans (Nat.mul_le_mul_right _ hm) hc)
  exact ⟨sat_named hcl hx hr h0 hs1, hcl.new (g := .own size _) (cloR_mono (Nat.le_succ _) hr)⟩
theorem xBuildSlice_ok {t : TypeId} {len n : Nat} {ps : List (Nat × XV)} {s s' : XSt} {v : XV} (h : xBuildSlice P t len ps n s = some (v, s')) (hcl : CloS n s)
    (hk : ∀ γ, Agr n β γ → CloS (n + 1) s' → W (asn γ s' ++ L) (k (val γ v)) Q) : W (asn β s ++ L) (denBuildSlice P t len (pvals β ps) k) Q := by
  unfold xBuildSlice at h
  unfold denBuildSlice
  split at h
  · rename_i elem ht
    rw [ht]
    split at h
    · rename_i i hi
      split at h
      · rename_i z hz
        split at h
        · rename_i hb1
          split at h
          · rename_i hb2
            split at h
            · rename_i hb3
              split at h
              · rename_i zs hzs
                split at h
                · rename_i cs hcs
                  split at h
                  · rename_i hq
                    split at h
                    · rename_i hlen
                      split at h
                      · rename_i h1
                        split at h
                        · rename_i hcc
                          cases h
                          have e1 := (mapO_ok (β := β) (fun v x => ofV_ok 4 v x) hzs).1
                          have e2 := xfill_ok (β := β) _ _ _ hcs
                          rw [xrepl_ok, e1] at e2
                          simp only [hi, hz, hb1, hb2, hb3, e2]
                          refine xreq_ok ps hq ?_
                          refine W.newc fun b h' hs' => ?_
                          obtain ⟨g1, g2⟩ := own_named (m := len) (c := len) hcl hs' (Nat.le_of_ble_eq_true hb3) (Nat.le_refl _) (Nat.le_of_eq (Nat.eq_of_beq_eq_true hlen).symm) h1 hcc
                          have := hk _ agr_newS g2 h' g1
                          simp only [val, As.newS, if_true] at this
                          exact this
                        · cases h
                      · cases h
                    · cases h
                  · cases h
                · cases h
              · cases h
            · cases h
          · cases h
        · cases h
      · cases h
    · cases h
  · cases h
def xMakeSlice (P : Program) (t : TypeId) (x y : XV) (n : Nat) (s : XSt) : Option (XV × XSt) :=
  match P.underlying t with
  | some (.slice elem) => match P.info? elem with
    | some i => match i.zero with
      | some z => match Nat.beq z.cells.toList.length i.size with
        | true => match x, y with
          | .int _ (.ofNat a), .int _ (.ofNat b) => match Nat.ble a b with
            | true => match Nat.ble b 9223372036854775807 with
              | true => match Nat.ble (i.bytes * b) 281474976710656 with
                | true => match Nat.ble 1 i.size with
                  | true => match mapO (ofV 4) z.cells.toList with
                    | some zs => match xones (xrepl zs b) with
                      | true => match Nat.beq (xrepl zs b).length (b * i.size) with
                        | true => match clos n (xrepl zs b) with
                          | true => some (.slc n, add n (.own i.size (xrows i.size a (xrepl zs b))) s)
                          | false => none
                        | false => none
                      | false => none
                    | none => none
                  | false => none
                | false => none
              | false => none
            | false => none
          | _, _ => none
        | false => none
      | none => none
    | none => none
  | _ => none
theorem xMakeSlice_ok {t : TypeId} {n : Nat} {x y : XV} {s s' : XSt} {v : XV} (h : xMakeSlice P t x y n s = some (v, s')) (hcl : CloS n s)
    (hk : ∀ γ, Agr n β γ → CloS (n + 1) s' → W (asn γ s' ++ L) (k (val γ v)) Q) : W (asn β s ++ L) (denMakeSlice P t (val β x) (val β y) k) Q := by
  unfold xMakeSlice at h
  unfold denMakeSlice
  split at h
  · rename_i elem ht
    rw [ht]
    split at h
    · rename_i i hi
      split at h
      · rename_i z hz
        split at h
        · rename_i hb1
          split at h
          · rename_i ka a kb b
            split at h
            · rename_i hab
              split at h
              · rename_i hb2
                split at h
                · rename_i hb4
                  split at h
                  · rename_i hb3
                    split at h
                    · rename_i zs hzs
                      split at h
                      · rename_i h1
                        split at h
                        · rename_i hlen
                          split at h
                          · rename_i hcc
                            cases h
                            have e1 := (mapO_ok (β := β) (fun v x => ofV_ok 4 v x) hzs).1
                            simp only [hi, hz, hb1, val]
                            intro hp hs
                            have hab' := Nat.le_of_ble_eq_true hab
                            have hb2' := Nat.le_of_ble_eq_true hb2
                            have hb4' := Nat.le_of_ble_eq_true hb4
                            refine ⟨Int.natCast_nonneg _, Int.ofNat_le.2 hab', ?_, ?_, ?_⟩
                            · show ((b : Nat) : Int) ≤ 9223372036854775807; omega
                            · have : ((i.bytes : Int) * ((b : Nat) : Int)) = ((i.bytes * b : Nat) : Int) := (Int.natCast_mul _ _).symm
                              show (i.bytes : Int) * ((b : Nat) : Int) ≤ 2 ^ 48
                              rw [this]
                              have : (2 : Int) ^ 48 = ((281474976710656 : Nat) : Int) := rfl
                              rw [this]
                              exact Int.ofNat_le.2 hb4'
                            · have ez : Builtin.zeroCells z.cells b = (vals β (xrepl zs b)).toArray := by
                                apply Array.toList_inj.1
                                rw [xrepl_ok, e1, repl_eq]
                                simp [Builtin.zeroCells, getElem!_def, Array.getElem!_eq_getD]
                              have hs' : sat (hp.push (.cells (Builtin.zeroCells z.cells b) elem)) (cells hp.size (vals β (xrepl zs b)).toArray :: (asn β s ++ L)) := by
                                rw [ez]; exact hs.push_cells
                              obtain ⟨g1, g2⟩ := own_named (m := a) (c := b) hcl hs' (Nat.le_of_ble_eq_true hb3) hab' (Nat.le_of_eq (Nat.eq_of_beq_eq_true hlen).symm) h1 hcc
                              have := hk _ agr_newS g2 _ g1
                              simp only [val, As.newS, if_true] at this
                              exact this
                          · cases h
                        · cases h
                      · cases h
                    · cases h
                  · cases h
                · cases h
              · cases h
            · cases h
          · cases h
        · cases h
      · cases h
    · cases h
  · cases h
theorem slice_own3 {α : Type} {enc : α → List Value} {size : Nat} {s : Slc} {xs : List α} {R : List Asn} {h : Heap} {lo hi m : Nat} {mx : Int} {Q : Slc → Heap → Prop} {ol oh : Option Int} (hs : sat h (ownS enc size s xs :: R)) (henc : ∀ x, (enc x).length = size)
    (h1 : lo ≤ hi) (h2 : hi ≤ xs.length) (h3 : hi ≤ m) (h4 : m ≤ xs.length) (em : mx = (m : Int)) (e1 : optLe ol (lo = 0) lo hi) (e2 : optLe oh False hi m)
    (hq : ∀ s', sat h (ownS enc size s' ((xs.take hi).drop lo) :: R) → Q s' h) : HM.slice s ol oh (some mx) size h Q := by
  have hl := hs.own_len
  have hc := hs.own_le
  refine ⟨lo, hi, m, ⟨em, by omega⟩, ?_, e1, hq _ ?_⟩
  · cases oh with
    | none => exact e2.elim
    | some x => exact e2
  rcases ownS_cases hs with ⟨g1, g2, rfl, hs1⟩ | ⟨b, o, cs, ho, hs1⟩
  · have : hi = 0 := by simpa using h2
    subst this
    have : lo = 0 := by omega
    subst this
    have : m = 0 := by simpa using h4
    subst this
    simp only [sliceOf, if_true, List.take_nil, List.drop_nil, Nat.sub_self]
    exact ownS_none hs1
  · by_cases hm : m = lo
    · have e0 : hi = lo := by omega
      simp only [sliceOf, hm, if_true, Nat.sub_self]
      rw [List.drop_of_length_le (by simp; omega), show hi - lo = 0 from by omega]
      exact ownS_none hs.drop
    · refine ownS_mk (b := b) (o := o + lo) (cs := cs) ⟨?_, ?_, ?_, ?_, ?_⟩ hs1
      · simp only [sliceOf, if_neg hm, ho.a, Option.map_some, Addr.add_at, Nat.add_mul]
      · simp only [sliceOf]; omega
      · simp only [sliceOf, List.length_drop, List.length_take]; omega
      · simp only [sliceOf]
        refine Nat.le_trans (Nat.mul_le_mul_right _ ?_) ho.csize
        omega
      · simp only [sliceOf]
        have hf := ho.front
        have e3 : ((xs.take hi).drop lo).flatMap enc = ((xs.flatMap enc).take (hi * size)).drop (lo * size) := by
          have key : ∀ (l : List α) (n : Nat), (l.flatMap enc).take (n * size) = (l.take n).flatMap enc ∧ (l.flatMap enc).drop (n * size) = (l.drop n).flatMap enc := by
            intro l
            induction l with
            | nil => intro n; simp
            | cons x l ih =>
              intro n
              cases n with
              | zero => simp
              | succ n =>
                have hx := henc x
                rw [List.flatMap_cons, Nat.succ_mul, List.take_succ_cons, List.drop_succ_cons, List.flatMap_cons]
                refine ⟨?_, ?_⟩
                · rw [List.take_append, hx, List.take_of_length_le (by omega), show n * size + size - size = n * size from by omega, (ih n).1]
                · rw [List.drop_append, hx, List.drop_of_length_le (by omega), show n * size + size - size = n * size from by omega, (ih n).2, List.nil_append]
          rw [(key xs hi).1, (key (xs.take hi) lo).2]
        rw [e3, ← hf]
        rw [List.take_take, Nat.min_eq_left (Nat.mul_le_mul_right _ (by omega : hi ≤ s.len)), List.drop_take, List.drop_drop, Nat.add_mul, ← Nat.sub_mul]
def xSlice3 (P : Program) (t : TypeId) (n : Nat) (s : XSt) (x : XV) (lo hi mx : Option Int) : Option (XV × XSt) :=
  match P.underlying t with
  | some (.slice elem) => match P.info? elem with
    | some inf => match mx with
      | some (.ofNat m) => match xTake inf.size s x with
        | some (es, r) => match hi with
          | some (.ofNat hh) => match xBnd lo 0 with
            | some l => match Nat.ble l hh with
              | true => match Nat.ble hh m with
                | true => match Nat.ble m es.length with
                  | true => match Nat.ble 1 inf.size with
                    | true => some (.slc n, add n (.own inf.size ((es.take hh).drop l)) r)
                    | false => none
                  | false => none
                | false => none
              | false => none
            | none => none
          | _ => none
        | none => none
      | _ => none
    | none => none
  | _ => none
theorem xSlice3_ok {t : TypeId} {n : Nat} {s s' : XSt} {x v : XV} {lo hi mx : Option Int} (h : xSlice3 P t n s x lo hi mx = some (v, s')) (hcl : CloS n s)
    (hk : ∀ γ, Agr n β γ → CloS (n + 1) s' → W (asn γ s' ++ L) (k (val γ v)) Q) : W (asn β s ++ L) (denSlice P t (val β x) lo hi mx k) Q := by
  unfold xSlice3 at h
  split at h
  · rename_i elem ht
    split at h
    · rename_i inf hi'
      split at h
      · rename_i m
        split at h
        · rename_i es r htk
          split at h
          · rename_i hh
            split at h
            · rename_i l h2
              split at h
              · rename_i h3
                split at h
                · rename_i h4
                  split at h
                  · rename_i h6
                    split at h
                    · rename_i h5
                      cases h
                      intro hp hs
                      have h3' := Nat.le_of_ble_eq_true h3
                      have h4' := Nat.le_of_ble_eq_true h4
                      have h5' := Nat.le_of_ble_eq_true h5
                      have h6' := Nat.le_of_ble_eq_true h6
                      obtain ⟨c1, c2, sl, xs, e1, e2, hs1⟩ := xTake_ok (L := L) htk hcl h5' hs
                      have hxl : xs.length = es.length := by have := congrArg List.length e2; simpa using this
                      rw [e1]
                      simp only [denSlice, ht, hi']
                      refine slice_own3 (m := m) hs1 (fun x => x.2.1) h3' (by omega) h4' (by omega) rfl (xBnd_ok h2 h3' id) ⟨rfl, h4'⟩ fun s9 hs9 => ?_
                      have hc9 : cloR n ((es.take hh).drop l) = true := by
                        rw [cloR_iff] at c2 ⊢
                        exact fun y hy => c2 y (List.mem_of_mem_take (List.mem_of_mem_drop hy))
                      have hs10 := sat_named (L := L) c1 (xs := (xs.take hh).drop l) (es := (es.take hh).drop l) (by rw [List.map_drop, List.map_take, e2, List.map_drop, List.map_take]) hc9 h5' hs9
                      have := hk (β.newS n s9) agr_newS (c1.new (g := .own inf.size ((es.take hh).drop l)) (cloR_mono (Nat.le_succ _) hc9)) hp hs10
                      simp only [val, As.newS, if_true] at this
                      exact this
                    · cases h
                  · cases h
                · cases h
              · cases h
            · cases h
          · cases h
        · cases h
      · cases h
    · cases h
  · cases h
def xRangeS (P : Program) (t : TypeId) (x : XV) (n : Nat) (s : XSt) : Option (XV × XSt) :=
  match P.underlying t with
  | some .string => match x with
    | .str b => some (.ptr n 0, add n (.txt b 0) s)
    | _ => none
  | _ => none
theorem xRangeS_ok {t : TypeId} {n : Nat} {x v : XV} {s s' : XSt} (h : xRangeS P t x n s = some (v, s')) (hcl : CloS n s)
    (hk : ∀ γ, Agr n β γ → CloS (n + 1) s' → W (asn γ s' ++ L) (k (val γ v)) Q) : W (asn β s ++ L) (denRange P t (val β x) k) Q := by
  unfold xRangeS at h
  split at h
  · rename_i ht
    split at h
    · rename_i b
      cases h
      intro hp hs
      simp only [val, denRange, ht]
      refine new_blk hs fun r h' hs' => ?_
      have ha : Agr n β (β.newB n r) := agr_newB
      have hb : (β.newB n r).b n = r := by simp [As.newB]
      have := hk _ ha (hcl.new rfl) h' ((sub_add (β := β.newB n r) (L := L) hcl (.txt b 0)).s (by
        rw [← asn_agr ha hcl]
        simp only [fact, hb]
        exact hs'))
      simp only [val, hb] at this
      exact this
    · cases h
  · cases h
def xNextS (s : XSt) (x : XV) : Option (XV × XSt) :=
  match x with
  | .ptr j o => match Nat.beq o 0 with
    | true => match pick j s with
      | some (.txt b pos, r) => match Nat.blt pos b.size with
        | true => some (.tup [.bool true, .int .i64 (pos : Int), .int .i32 ((Utf8.decode b pos).1 : Int)], back j (.txt b (pos + (Utf8.decode b pos).2)) r)
        | false => some (.tup [.bool false], s)
      | _ => none
    | false => none
  | _ => none
theorem xNextS_ok {n : Nat} {s s' : XSt} {x v : XV} (h : xNextS s x = some (v, s')) (hcl : CloS n s) (hk : CloS n s' → W (asn β s' ++ L) (k (val β v)) Q) : W (asn β s ++ L) (denNext true (val β x) k) Q := by
  unfold xNextS at h
  split at h
  · rename_i j o
    split at h
    · rename_i ho
      have ho := Nat.eq_of_beq_eq_true ho
      subst ho
      split at h
      · rename_i b pos r hp
        intro hp0 hs
        have hs1 : sat hp0 (blk (β.b j) (.stringIter b pos) :: (asn β r ++ L)) := (has_pick (L := L) hp).s hs
        have hb : ∀ x y : Nat, Nat.blt x y = true ↔ x < y := fun x y => by simp
        simp only [val, denNext, atOff, show Nat.beq 0 0 = true from rfl] at hk ⊢
        refine ⟨b, pos, hs1.get, fun hlt => ?_, fun hlt => ?_⟩
        · rw [(hb _ _).2 hlt] at h
          cases h
          refine hk (hcl.put hp rfl) _ ((sub_back (β := β) (L := L) hp _).s ?_)
          exact hs1.turn (by simp [hs1.lt]) (fun k hk => by rw [Array.getElem?_setIfInBounds, if_neg (fun e => hk e.symm)])
        · have : Nat.blt pos b.size = false := by
            cases hh : Nat.blt pos b.size with
            | false => rfl
            | true => exact absurd ((hb _ _).1 hh) hlt
          rw [this] at h
          cases h
          exact hk hcl hp0 hs
      · cases h
    · cases h
  · cases h
def xClear (P : Program) (ts : List TypeId) (s : XSt) (vs : List XV) : Option XSt :=
  match ts, vs with
  | [t], [x] => match P.underlying t with
    | some (.map _ _) => match x with
      | .nmap => some s
      | .map j => match pick j s with
        | some (.mapI _, r) => some (back j (.mapI []) r)
        | some (.mapS _, r) => some (back j (.mapS []) r)
        | some (.mapT _, r) => some (back j (.mapT []) r)
        | _ => none
      | _ => none
    | _ => none
  | _, _ => none
theorem clear_map {K V : Type} {ek : K → Value} {ev : V → Value} {r : Nat} {l : List (K × V)} {R : List Asn} {h : Heap} {Q : Unit → Heap → Prop} (hs : sat h (mapA ek ev r l :: R)) (hq : ∀ h', sat h' (mapA ek ev r [] :: R) → Q () h') : HM.clearM (some r) h Q := by
  obtain ⟨es, c, ⟨he, hst⟩, hs⟩ := mapA_iff.1 hs
  refine ⟨es, c, hs.get, hq _ (mapA_iff.2 ⟨#[], c, ⟨rfl, Go.MapKept.stamped_empty c⟩, ?_⟩)⟩
  exact hs.turn (by simp [hs.lt]) (fun k hk => by rw [Array.getElem?_setIfInBounds, if_neg (fun e => hk e.symm)])
theorem xClear_ok {ts : List TypeId} {n : Nat} {s s' : XSt} {vs : List XV} (h : xClear P ts s vs = some s') (hcl : CloS n s) (hk : CloS n s' → W (asn β s' ++ L) (k (.tuple #[])) Q) : W (asn β s ++ L) (denClear P ts (vals β vs) k) Q := by
  intro hp0 hs
  unfold xClear at h
  split at h
  · rename_i t x
    simp only [vals]
    split at h
    · rename_i a b ht
      split at h
      · cases h
        simp only [val, denClear, ht]
        exact hk hcl hp0 hs
      · rename_i j
        simp only [val, denClear, ht]
        split at h
        · rename_i es r hp
          cases h
          exact clear_map (l := es) ((has_pick (β := β) (L := L) hp).s hs) fun h' hs' => hk (hcl.put hp rfl) h' ((sub_back (β := β) (L := L) hp _).s hs')
        · rename_i es r hp
          cases h
          exact clear_map (l := es) ((has_pick (β := β) (L := L) hp).s hs) fun h' hs' => hk (hcl.put hp rfl) h' ((sub_back (β := β) (L := L) hp _).s hs')
        · rename_i es r hp
          cases h
          exact clear_map (l := es) ((has_pick (β := β) (L := L) hp).s hs) fun h' hs' => hk (hcl.put hp rfl) h' ((sub_back (β := β) (L := L) hp _).s hs')
        · cases h
      · cases h
    · cases h
  · cases h
def unw (x : XV) (s : XSt) : XSt :=
  match x with
  | .map j => match pick j s with
    | some (.walkI _ es _ _, r) => back j (.mapI es) r
    | some (.walkS _ es _ _, r) => back j (.mapS es) r
    | _ => s
  | _ => s
theorem unw_ok {x : XV} {s : XSt} {n : Nat} {h : Heap} : (CloS n s → CloS n (unw x s)) ∧ (sat h (asn β s ++ L) → sat h (asn β (unw x s) ++ L)) := by
  unfold unw
  split
  · split
    · rename_i j it es d t r hp
      exact ⟨fun hc => hc.put hp (walk_clo (hc _ _ (pick_mem hp).1).2).2.1, fun hs => (sub_back (β := β) (L := L) hp _).s (itA_map ((has_pick (β := β) (L := L) hp).s hs))⟩
    · rename_i j it es d t r hp
      exact ⟨fun hc => hc.put hp (walk_clo (hc _ _ (pick_mem hp).1).2).2.1, fun hs => (sub_back (β := β) (L := L) hp _).s (itA_map ((has_pick (β := β) (L := L) hp).s hs))⟩
    · exact ⟨id, id⟩
  · exact ⟨id, id⟩
def xRangeM (P : Program) (t : TypeId) (x : XV) (n : Nat) (s : XSt) : Option (XV × XSt) :=
  match P.underlying t with
  | some (.map _ _) => match x with
    | .nmap => some (.ptr n 0, add n .itNil s)
    | .map j => match pick j s with
      | some (.mapI es, r) => some (.ptr n 0, add n (.itOf j) (back j (.walkI n es [] es) r))
      | some (.mapS es, r) => some (.ptr n 0, add n (.itOf j) (back j (.walkS n es [] es) r))
      | _ => none
    | _ => none
  | _ => none
theorem range_named {K : Type} {ek : K → Value} {n j : Nat} {s r : XSt} {es : List (K × XV)} {f g : XF} {F : Nat → HM ρ} (hp : pick j s = some (f, r)) (hcl : CloS n s) (hf : ∀ γ, fact γ (j, f) = mapA ek (val γ) (γ.b j) es) (hg : ∀ γ, fact γ (j, g) = itA ek (val γ) (γ.b j) es (γ.b n) [] es) (hcg : cloF (n + 1) g = true) (hce : cloE n es = true)
    (hk : ∀ γ, Agr n β γ → CloS (n + 1) (add n (.itOf j) (back j g r)) → W (asn γ (add n (.itOf j) (back j g r)) ++ L) (F (γ.b n)) Q) : W (asn β s ++ L) (HM.bind (HM.rangeM (some (β.b j))) F) Q := by
  intro h hs
  have hs1 := (has_pick (β := β) (L := L) hp).s hs
  rw [hf] at hs1
  refine range_map hs1 fun it h' hs' => ?_
  have ha : Agr n β (β.newB n it) := agr_newB
  have hb : (β.newB n it).b n = it := by simp [As.newB]
  have hj : j < n := (hcl _ _ (pick_mem hp).1).1
  have hcr : CloS n r := hcl.rest hp
  have e : asn β r = asn (β.newB n it) r := asn_agr ha hcr
  have hcb : CloS (n + 1) (add n (.itOf j) (back j g r)) := by
    obtain ⟨h1, rfl⟩ := pick_look hp
    intro k f' hf'
    unfold add at hf'
    rw [ins_get (n + 1) _ n k _ (Nat.lt_succ_self _)] at hf'
    split at hf'
    · rename_i e1; subst e1; cases hf'; exact ⟨Nat.lt_succ_self _, by simp only [cloF, Nat.blt_eq]; omega⟩
    · unfold back at hf'
      rw [upd_upd, get_upd s j k (some g) h1] at hf'
      split at hf'
      · cases hf'; rename_i e2; subst e2; exact ⟨by omega, hcg⟩
      · exact ⟨Nat.lt_succ_of_lt (hcl k f' hf').1, cloF_mono (Nat.le_succ _) (hcl k f' hf').2⟩
  have h0 : (back j g r).get n = none := by
    obtain ⟨h1, rfl⟩ := pick_look hp
    unfold back
    rw [upd_upd, get_upd s j n (some g) h1, if_neg (by omega)]
    cases hg : s.get n with
    | none => rfl
    | some f => exact absurd (hcl n f hg).1 (Nat.lt_irrefl _)
  have := hk _ ha hcb h' (by
    have e1 : sat h' (fact (β.newB n it) (j, g) :: (asn (β.newB n it) r ++ L)) := by
      rw [hg, hb, ← e, show (β.newB n it).b j = β.b j from (ha.b j hj).symm]
      have e3 : itA ek (val (β.newB n it)) (β.b j) es it [] es = itA ek (val β) (β.b j) es it [] es := by
        exact (itA_agr (cloE_agr ha hce) rfl (cloE_agr ha hce)).symm
      rw [e3]
      exact hs'
    have e2 := (sub_back (β := β.newB n it) (L := L) hp g).s e1
    have e4 : sat h' (fact (β.newB n it) (n, .itOf j) :: (asn (β.newB n it) (back j g r) ++ L)) := sat.pr_iff.2 ⟨trivial, e2⟩
    exact (Sub.perm (((ins_all (n + 1) (back j g r) id n (.itOf j) (Nat.lt_succ_self _) h0).map (fact (β.newB n it))).symm.append_right L)).s e4)
  rwa [hb] at this
theorem xRangeM_ok {t : TypeId} {n : Nat} {x v : XV} {s s' : XSt} (h : xRangeM P t x n s = some (v, s')) (hcl : CloS n s)
    (hk : ∀ γ, Agr n β γ → CloS (n + 1) s' → W (asn γ s' ++ L) (k (val γ v)) Q) : W (asn β s ++ L) (denRange P t (val β x) k) Q := by
  unfold xRangeM at h
  split at h
  · rename_i kt et ht
    split at h
    · cases h
      intro hp hs
      simp only [val, denRange, ht]
      show (HM.bind (HM.rangeM none) fun b => k (.pointer (some ⟨b, 0, none⟩))) hp Q
      have hs' : sat (hp.push (.mapIter none 0 #[] 0)) (blk hp.size (.mapIter none 0 #[] 0) :: (asn β s ++ L)) := hs.push
      have ha : Agr n β (β.newB n hp.size) := agr_newB
      have hb : (β.newB n hp.size).b n = hp.size := by simp [As.newB]
      have := hk _ ha (hcl.new rfl) _ ((sub_add (β := β.newB n hp.size) (L := L) hcl .itNil).s (by
        rw [← asn_agr ha hcl]
        simp only [fact, hb]
        exact hs'))
      simp only [val, hb] at this
      exact this
    · rename_i j
      split at h
      · rename_i es r hp
        cases h
        simp only [val, denRange, ht]
        have hce : cloE n es = true := (hcl _ _ (pick_mem hp).1).2
        have hw : cloF (n + 1) (.walkI n es [] es) = true := walk_clo' (d := []) (Nat.lt_succ_self n) (cloE_mono (Nat.le_succ n) hce) rfl (cloE_mono (Nat.le_succ n) hce)
        exact range_named (F := fun b => k (.pointer (some ⟨b, 0, none⟩))) hp hcl (fun _ => rfl) (fun _ => rfl) hw hce fun γ hγ hc => hk γ hγ hc
      · rename_i es r hp
        cases h
        simp only [val, denRange, ht]
        have hce : cloE n es = true := (hcl _ _ (pick_mem hp).1).2
        have hw : cloF (n + 1) (.walkS n es [] es) = true := walk_clo' (d := []) (Nat.lt_succ_self n) (cloE_mono (Nat.le_succ n) hce) rfl (cloE_mono (Nat.le_succ n) hce)
        exact range_named (F := fun b => k (.pointer (some ⟨b, 0, none⟩))) hp hcl (fun _ => rfl) (fun _ => rfl) hw hce fun γ hγ hc => hk γ hγ hc
      · cases h
    · cases h
  · cases h
def picks {α : Type} : List α → List α → List (α × List α)
  | _, [] => []
  | a, x :: r => (x, a ++ r) :: picks (a ++ [x]) r
theorem picks_ok {α : Type} : ∀ {b a : List α} {t1 t2 : List α} {p : α}, b = t1 ++ p :: t2 → (p, a ++ t1 ++ t2) ∈ picks a b
  | [], a, t1, t2, p, h => by simp at h
  | x :: r, a, [], t2, p, h => by
    simp only [List.nil_append, List.cons.injEq] at h
    obtain ⟨rfl, rfl⟩ := h
    simp [picks]
  | x :: r, a, y :: t1, t2, p, h => by
    simp only [List.cons_append, List.cons.injEq] at h
    obtain ⟨rfl, rfl⟩ := h
    simp only [picks]
    refine List.mem_cons_of_mem _ ?_
    have := picks_ok (b := t1 ++ p :: t2) (a := a ++ [x]) (t1 := t1) (t2 := t2) (p := p) rfl
    simpa using this
theorem picks_cloE {K : Type} {n : Nat} : ∀ {b a : List (K × XV)} {p : K × XV} {r : List (K × XV)}, (p, r) ∈ picks a b → cloE n a = true → cloE n b = true → clo n p.2 = true ∧ cloE n r = true := by
  have app : ∀ (a b : List (K × XV)), cloE n (a ++ b) = true ↔ cloE n a = true ∧ cloE n b = true := fun a => by
    induction a with
    | nil => intro b; simp [cloE]
    | cons x a ih =>
      obtain ⟨k, v⟩ := x
      intro b
      simp only [List.cons_append, cloE]
      cases hv : clo n v with
      | true => exact ih b
      | false => simp
  intro b
  induction b with
  | nil => intro a p r h; simp [picks] at h
  | cons x b ih =>
    intro a p r h ha hb
    have hx : clo n x.2 = true ∧ cloE n b = true := by
      obtain ⟨k, v⟩ := x
      simp only [cloE] at hb
      split at hb
      · rename_i hv; exact ⟨hv, hb⟩
      · cases hb
    simp only [picks] at h
    rcases List.mem_cons.1 h with e | h
    · cases e
      exact ⟨hx.1, (app _ _).2 ⟨ha, hx.2⟩⟩
    · refine ih h ((app _ _).2 ⟨ha, ?_⟩) hx.2
      obtain ⟨k, v⟩ := x
      simp only [cloE]
      rw [hx.1]
theorem cloE_snoc {K : Type} {n : Nat} {a : List (K × XV)} {p : K × XV} (ha : cloE n a = true) (hp : clo n p.2 = true) : cloE n (a ++ [p]) = true := by
  induction a with
  | nil => obtain ⟨k, v⟩ := p; simp only [List.nil_append, cloE]; rw [hp]
  | cons x a ih =>
    obtain ⟨k, v⟩ := x
    simp only [cloE] at ha
    split at ha
    · rename_i hv; simp only [List.cons_append, cloE]; rw [hv]; exact ih ha
    · cases ha
def xNextM (s : XSt) (x : XV) : Option (List (XV × XSt)) :=
  match x with
  | .ptr it o => match Nat.beq o 0 with
    | true => match look it s with
      | some .itNil => some [(.tup [.bool false], s)]
      | some (.itOf j) => match pick j s with
        | some (.walkI it' es d t, r) => match Nat.beq it' it with
          | true => match t with
            | [] => some [(.tup [.bool false], s)]
            | p :: t' => some ((picks [] (p :: t')).map fun q => (.tup [.bool true, .int .i64 q.1.1, q.1.2], back j (.walkI it es (d ++ [q.1]) q.2) r))
          | false => none
        | some (.walkS it' es d t, r) => match Nat.beq it' it with
          | true => match t with
            | [] => some [(.tup [.bool false], s)]
            | p :: t' => some ((picks [] (p :: t')).map fun q => (.tup [.bool true, .str q.1.1, q.1.2], back j (.walkS it es (d ++ [q.1]) q.2) r))
          | false => none
        | _ => none
      | _ => none
    | false => none
  | _ => none
theorem xNextM_ok {n : Nat} {s : XSt} {x : XV} {outs : List (XV × XSt)} (h : xNextM s x = some outs) (hcl : CloS n s) (hk : ∀ o ∈ outs, CloS n o.2 → W (asn β o.2 ++ L) (k (val β o.1)) Q) : W (asn β s ++ L) (denNext false (val β x) k) Q := by
  intro hp0 hs
  unfold xNextM at h
  split at h
  · rename_i it o
    split at h
    · rename_i ho
      have ho := Nat.eq_of_beq_eq_true ho
      subst ho
      simp only [val, denNext, atOff, show Nat.beq 0 0 = true from rfl]
      have opt : ∀ o : Option (Value × Value), (match o with | none => k (.tuple #[.bool false]) | some p => k (.tuple #[.bool true, p.1, p.2])) = HM.opt o (k (.tuple #[.bool false])) fun p => k (.tuple #[.bool true, p.1, p.2]) := fun o => by
        cases o <;> rfl
      split at h
      · rename_i hl
        cases h
        obtain ⟨R, hs1⟩ := look_sat (L := L) hl hs
        have := hk _ (List.mem_singleton.2 rfl) hcl hp0 hs
        exact ⟨none, 0, #[], 0, sat.get hs1, this⟩
      · rename_i j hl
        split at h
        · rename_i it' es d t r hp
          split at h
          · rename_i hb
            have hb := Nat.eq_of_beq_eq_true hb
            subst hb
            obtain ⟨c1, c2, c3, c4⟩ := walk_clo (hcl _ _ (pick_mem hp).1).2
            have hs1 : sat hp0 (itA (fun n : Int => Value.int .i64 n) (val β) (β.b j) es (β.b it') d t :: (asn β r ++ L)) := (has_pick (L := L) hp).s hs
            cases t with
            | nil =>
              cases h
              refine next_map hs1 (fun _ => hk _ (List.mem_singleton.2 rfl) hcl hp0 hs) fun p t1 t2 e => ?_
              simp at e
            | cons p t' =>
              cases h
              refine next_map hs1 (fun e => by cases e) fun q t1 t2 e h' hs' => ?_
              have hm := picks_ok (a := []) e
              obtain ⟨g1, g2⟩ := picks_cloE hm rfl c4
              exact hk _ (List.mem_map_of_mem hm) (hcl.put hp (walk_clo' c1 c2 (cloE_snoc c3 g1) g2)) h' ((sub_back (β := β) (L := L) hp _).s hs')
          · cases h
        · rename_i it' es d t r hp
          split at h
          · rename_i hb
            have hb := Nat.eq_of_beq_eq_true hb
            subst hb
            obtain ⟨c1, c2, c3, c4⟩ := walk_clo (hcl _ _ (pick_mem hp).1).2
            have hs1 : sat hp0 (itA (fun s : ByteArray => Value.string s) (val β) (β.b j) es (β.b it') d t :: (asn β r ++ L)) := (has_pick (L := L) hp).s hs
            cases t with
            | nil =>
              cases h
              refine next_map hs1 (fun _ => hk _ (List.mem_singleton.2 rfl) hcl hp0 hs) fun p t1 t2 e => ?_
              simp at e
            | cons p t' =>
              cases h
              refine next_map hs1 (fun e => by cases e) fun q t1 t2 e h' hs' => ?_
              have hm := picks_ok (a := []) e
              obtain ⟨g1, g2⟩ := picks_cloE hm rfl c4
              exact hk _ (List.mem_map_of_mem hm) (hcl.put hp (walk_clo' c1 c2 (cloE_snoc c3 g1) g2)) h' ((sub_back (β := β) (L := L) hp _).s hs')
          · cases h
        · cases h
      · cases h
    · cases h
  · cases h
def lastE {α : Type} : List α → Option (List α × α)
  | [] => none
  | x :: r => match lastE r with
    | some (a, y) => some (x :: a, y)
    | none => some ([], x)
theorem lastE_ok {α : Type} : ∀ {l a : List α} {y : α}, lastE l = some (a, y) → l = a ++ [y]
  | [], a, y, h => by cases h
  | x :: r, a, y, h => by
    simp only [lastE] at h
    split at h
    · rename_i b z hb
      cases h
      rw [lastE_ok hb]; rfl
    · rename_i hb
      cases h
      cases r with
      | nil => rfl
      | cons z r =>
        simp only [lastE] at hb
        split at hb <;> cases hb
def xEntry (ka kb : Kind) (s : XSt) (x : XV) : Option XV :=
  match x with
  | .ptr it o => match Nat.beq o 0 with
    | true => match look it s with
      | some (.itOf j) => match look j s with
        | some (.walkI it' _ d _) => match Nat.beq it' it with
          | true => match lastE d with
            | some (_, p) => match xkind ka (.int .i64 p.1) with
              | true => match xkind kb p.2 with
                | true => some (.tup [.int .i64 p.1, p.2])
                | false => none
              | false => none
            | none => none
          | false => none
        | some (.walkS it' _ d _) => match Nat.beq it' it with
          | true => match lastE d with
            | some (_, p) => match xkind ka (.str p.1) with
              | true => match xkind kb p.2 with
                | true => some (.tup [.str p.1, p.2])
                | false => none
              | false => none
            | none => none
          | false => none
        | _ => none
      | _ => none
    | false => none
  | _ => none
theorem xEntry_ok {ka kb : Kind} {s : XSt} {x v : XV} (h : xEntry ka kb s x = some v) (hk : W (asn β s ++ L) (k (val β v)) Q) : W (asn β s ++ L) (denEntry ka kb (val β x) k) Q := by
  intro hp0 hs
  unfold xEntry at h
  split at h
  · rename_i it o
    split at h
    · rename_i ho
      have ho := Nat.eq_of_beq_eq_true ho
      subst ho
      simp only [val, denEntry, atOff, show Nat.beq 0 0 = true from rfl]
      split at h
      · rename_i j hl
        split at h
        · rename_i it' es d t hl2
          split at h
          · rename_i hb
            have hb := Nat.eq_of_beq_eq_true hb
            subst hb
            split at h
            · rename_i d' p hd
              split at h
              · rename_i h1
                split at h
                · rename_i h2
                  cases h
                  obtain ⟨y1, e1⟩ := xkind_ok (β := β) h1
                  obtain ⟨y2, e2⟩ := xkind_ok (β := β) h2
                  obtain ⟨R, hs1⟩ := look_sat (L := L) hl2 hs
                  have hs2 : sat hp0 (itA (fun n : Int => Value.int .i64 n) (val β) (β.b j) es (β.b it') d t :: R) := hs1
                  rw [lastE_ok hd] at hs2
                  have := hk hp0 hs
                  simp only [val, vals] at this
                  refine entry_map (p := p) (x := y1) (y := y2) e1 e2 hs2 ?_
                  show k (.tuple #[ka.val y1, kb.val y2]) hp0 Q
                  rw [← e1, ← e2]
                  exact this
                · cases h
              · cases h
            · cases h
          · cases h
        · rename_i it' es d t hl2
          split at h
          · rename_i hb
            have hb := Nat.eq_of_beq_eq_true hb
            subst hb
            split at h
            · rename_i d' p hd
              split at h
              · rename_i h1
                split at h
                · rename_i h2
                  cases h
                  obtain ⟨y1, e1⟩ := xkind_ok (β := β) h1
                  obtain ⟨y2, e2⟩ := xkind_ok (β := β) h2
                  obtain ⟨R, hs1⟩ := look_sat (L := L) hl2 hs
                  have hs2 : sat hp0 (itA (fun s : ByteArray => Value.string s) (val β) (β.b j) es (β.b it') d t :: R) := hs1
                  rw [lastE_ok hd] at hs2
                  have := hk hp0 hs
                  simp only [val, vals] at this
                  refine entry_map (p := p) (x := y1) (y := y2) e1 e2 hs2 ?_
                  show k (.tuple #[ka.val y1, kb.val y2]) hp0 Q
                  rw [← e1, ← e2]
                  exact this
                · cases h
              · cases h
            · cases h
          · cases h
        · cases h
      · cases h
    · cases h
  · cases h
theorem xCallV_ok {call : Nat → List XV → Nat → XSt → Option XR} (hC : CallS P call) (hCO : ∀ f, f ∈ C → CallOK P f) {t : TypeId} {f n n' : Nat} {s s' : XSt} {first cap vs : List XV} {v : XV} (hf : memN f C = true) (h : call f (first ++ (vs ++ cap)) n s = some (v, n', s')) (hfit : xfits P t v = true) (hcl : CloS n s)
    (hk : ∀ γ, Agr n β γ → n ≤ n' → CloS n' s' → W (asn γ s' ++ L) (k (val γ v)) Q) : W (asn β s ++ L) (denCallV P t (val β (.func f first cap)) (vals β vs) k) Q := by
  intro hp hs
  have hcall := fun Q' => hC f _ n s v n' s' h hcl β L Q'
  have ea : (vals β (first ++ (vs ++ cap))).toArray = (vals β first).toArray ++ (vals β vs).toArray ++ (vals β cap).toArray := by
    simp only [vals_map, List.map_append, List.append_toArray, List.append_assoc]
  have hok := hCO f (memN_sound hf)
  simp only [denCallV]
  unfold xfits at hfit
  split at hfit
  · rename_i kd hr
    rw [hr]
    have := hcall (fun v' h' => ∃ x, v' = kd.val x ∧ k (kd.val x) h' Q) (fun γ hγ hle hc h' hs' => by
      obtain ⟨y, hy⟩ := xkind_ok (β := γ) hfit
      refine ⟨y, hy, ?_⟩
      have := hk γ hγ hle hc h' hs'
      rwa [hy] at this) hp hs
    rw [ea] at this
    exact ⟨f, _, _, rfl, hok, this⟩
  · rename_i ks hr
    rw [hr]
    split at hfit
    · rename_i us
      have := hcall (fun v' h' => ∃ x, v' = .tuple (KTup.vals ks x).toArray ∧ k (.tuple (KTup.vals ks x).toArray) h' Q) (fun γ hγ hle hc h' hs' => by
        obtain ⟨y, hy⟩ := xkinds_ok (β := γ) hfit
        refine ⟨y, by simp only [val]; rw [hy], ?_⟩
        have := hk γ hγ hle hc h' hs'
        simp only [val] at this
        rw [← hy] at this
        exact this) hp hs
      rw [ea] at this
      exact ⟨f, _, _, rfl, hok, this⟩
    · cases hfit
  · cases hfit
def takeBuf (T : Nat) (sl : XV) (s : XSt) : Option (List Int × XSt) :=
  match sl with
  | .nslc => some ([], s)
  | .slc j => match pick j s with
    | some (.buf t bs, r) => match Nat.beq t T with
      | true => some (bs, r)
      | false => none
    | _ => none
  | _ => none
theorem takeBuf_ok {T n : Nat} {x : XV} {s r : XSt} {bs : List Int} {h : Heap} (hx : takeBuf T x s = some (bs, r)) (hcl : CloS n s) (hs : sat h (asn β s ++ L)) : CloS n r ∧ ∃ sl : Slc, val β x = .slice sl.a sl.len sl.cap ∧ sat h (bufA T sl bs :: (asn β r ++ L)) := by
  unfold takeBuf at hx
  split at hx
  · cases hx
    exact ⟨hcl, ⟨none, 0, 0⟩, rfl, bufA_nil hs⟩
  · rename_i j
    split at hx
    · rename_i t bs' r' hp
      split at hx
      · rename_i hb
        cases hx
        have := Nat.eq_of_beq_eq_true hb
        subst this
        exact ⟨hcl.rest hp, β.s j, rfl, (has_pick (β := β) (L := L) hp).s hs⟩
      · cases hx
    · cases hx
  · cases hx
theorem buf_named {T n : Nat} {r : XSt} {sl : Slc} {bs : List Int} {h : Heap} (hcl : CloS n r) (hs : sat h (bufA T sl bs :: (asn β r ++ L))) : sat h (asn (β.newS n sl) (add n (.buf T bs) r) ++ L) := by
  have ha : Agr n β (β.newS n sl) := agr_newS
  refine (sub_add (β := β.newS n sl) (L := L) hcl _).s ?_
  rw [← asn_agr ha hcl]
  simp only [fact, As.newS, if_true]
  exact hs
def xAppendB (P : Program) (ts : List TypeId) (n : Nat) (s : XSt) (vs : List XV) : Option (XV × XSt) :=
  match ts, vs with
  | [t, u], [x, .str b] => match P.underlying t with
    | some (.slice elem) => match P.underlying u with
      | some .string => match P.info? elem with
        | some i => match i.zero with
          | some z => match z.cells.toList with
            | [.int .u8 (.ofNat 0)] => match Nat.beq i.size 1 with
              | true => match Nat.beq i.bytes 1 with
                | true => match takeBuf elem x s with
                  | some (bs, r) => match Nat.ble (bs.length + b.size) 140737488355328 with
                    | true => some (.slc n, add n (.buf elem (bs ++ intsS b)) r)
                    | false => none
                  | none => none
                | false => none
              | false => none
            | _ => none
          | none => none
        | none => none
      | _ => none
    | _ => none
  | _, _ => none
theorem xAppendB_ok {ts : List TypeId} {n : Nat} {s s' : XSt} {vs : List XV} {v : XV} (h : xAppendB P ts n s vs = some (v, s')) (hcl : CloS n s)
    (hk : ∀ γ, Agr n β γ → CloS (n + 1) s' → W (asn γ s' ++ L) (k (val γ v)) Q) : W (asn β s ++ L) (denAppend P ts (vals β vs) k) Q := by
  unfold xAppendB at h
  split at h
  · rename_i t u x b
    split at h
    · rename_i elem ht
      split at h
      · rename_i hu
        split at h
        · rename_i i hi
          split at h
          · rename_i z hz
            split at h
            · rename_i hzc
              split at h
              · rename_i h1
                split at h
                · rename_i h2
                  split at h
                  · rename_i bs r htk
                    split at h
                    · rename_i h3
                      cases h
                      intro hp hs
                      obtain ⟨c1, sl, e1, hs1⟩ := takeBuf_ok (L := L) htk hcl hs
                      have hzz : z.cells = #[.int .u8 0] := Array.toList_inj.1 hzc
                      simp only [vals]
                      rw [e1]
                      simp only [val, denAppend, ht, hi, hz, hu, Nat.eq_of_beq_eq_true h1, Nat.eq_of_beq_eq_true h2, hzz]
                      refine append_buf hs1 (Nat.le_of_ble_eq_true h3) fun s9 h9 hs9 => ?_
                      have := hk (β.newS n s9) agr_newS (c1.new (g := .buf elem (bs ++ intsS b)) rfl) h9 (buf_named c1 hs9)
                      simp only [val, As.newS, if_true] at this
                      exact this
                    · cases h
                  · cases h
                · cases h
              · cases h
            · cases h
          · cases h
        · cases h
      · cases h
    · cases h
  · cases h
def xOpx (P : Program) (T2 : TypeId → Bool) (C : List Nat) (call : Nat → List XV → Nat → XSt → Option XR) (e : XEnv) (d : Dec) (n : Nat) (s : XSt) (o : Oper) : Option XR :=
  match o.op with
  | .pick c a b => same n s (xPick e d c a b)
  | .buildSlice t len ps => match xparts e ps.toList with
    | some vs => next n (xBuildSlice P t len vs n s)
    | none => none
  | .makeSlice t a b => match xev e a with
    | some v => match xev e b with
      | some u => next n (xMakeSlice P t v u n s)
      | none => none
    | none => none
  | .slice t x lo hi (some mx) => match xev e x with
    | some v => match xoptInt e lo with
      | some l => match xoptInt e hi with
        | some hh => match xoptInt e (some mx) with
          | some m => next n (xSlice3 P t n s v l hh m)
          | none => none
        | none => none
      | none => none
    | none => none
  | .insert t x i y => match xev e x with
    | some v => match xev e i with
      | some u => match xev e y with
        | some z => unit n (xMapSet P T2 t n (unw v s) v u z)
        | none => none
      | none => none
    | none => none
  | .mapUpdate t x i y => match xev e x with
    | some v => match xev e i with
      | some u => match xev e y with
        | some z => unit n (xMapSet P T2 t n (unw v s) v u z)
        | none => none
      | none => none
    | none => none
  | .range t x => match xev e x with
    | some v => match xRangeS P t v n s with
      | some r => next n (some r)
      | none => next n (xRangeM P t v n (unw v s))
    | none => none
  | .next x true => match xev e x with
    | some v => match xNextS s v with
      | some (u, s') => some (u, n, s')
      | none => none
    | none => none
  | .call c => match c.callee with
    | .builtin .clear => match xevs e c.args.toList with
      | some vs => match vs with
        | v :: r => unit n (xClear P c.argTypes.toList (unw v s) (v :: r))
        | [] => none
      | none => none
    | .builtin .append => match xevs e c.args.toList with
      | some vs => match xAppendB P c.argTypes.toList n s vs with
        | some r => next n (some r)
        | none => xOp P T2 C call e n s o
      | none => none
    | .builtin .delete => match xevs e c.args.toList with
      | some vs => match vs with
        | v :: r => unit n (xDelete P T2 c.argTypes.toList (unw v s) (v :: r))
        | [] => none
      | none => none
    | .value (.tmp t) => match xevs e c.args.toList with
      | some vs => match e.get t with
        | some (.func f first cap) => match memN f C with
          | true => fitR P o.type (call f (first ++ (vs ++ cap)) n s)
          | false => none
        | _ => none
      | none => none
    | _ => xOp P T2 C call e n s o
  | _ => xOp P T2 C call e n s o
theorem xOpx_ok (hT : T2OK P T2) {call : Nat → List XV → Nat → XSt → Option XR} (hC : CallS P call) (hCO : ∀ f, f ∈ C → CallOK P f) {e : XEnv} {e0 : Env} (hE : EAg β e e0) {d : Dec} {n n' : Nat} {s s' : XSt} {o : Oper} {v : XV} (h : xOpx P T2 C call e d n s o = some (v, n', s')) (hcl : CloS n s)
    (hk : ∀ γ, Agr n β γ → n ≤ n' → CloS n' s' → W (asn γ s' ++ L) (k (val γ v)) Q) : W (asn β s ++ L) (denOp P C e0 d o k) Q := by
  have hs : n' = n → s' = s → W (asn β s ++ L) (k (val β v)) Q := fun e1 e2 => by subst e1 e2; exact hk β Agr.rfl (Nat.le_refl _) hcl
  unfold xOpx at h
  split at h
  · rename_i c a b ho
    obtain ⟨h1, h2, h3⟩ := same_eq h
    unfold denOp; rw [ho]
    exact xPick_ok hE h1 (hs h2 h3)
  · rename_i t len ps ho
    split at h
    · rename_i vs hvs
      obtain ⟨h1, rfl⟩ := next_eq h
      unfold denOp; rw [ho]
      simp only [xparts_ok hE hvs]
      exact xBuildSlice_ok h1 hcl fun γ hγ hc => hk γ hγ (Nat.le_succ _) hc
    · cases h
  · rename_i t a b ho
    split at h
    · rename_i u hu
      split at h
      · rename_i w hw
        obtain ⟨h1, rfl⟩ := next_eq h
        unfold denOp; rw [ho]
        simp only [xev_ok hE hu, xev_ok hE hw]
        exact xMakeSlice_ok h1 hcl fun γ hγ hc => hk γ hγ (Nat.le_succ _) hc
      · cases h
    · cases h
  · rename_i t x lo hi mx ho
    split at h
    · rename_i u hu
      split at h
      · rename_i l hl
        split at h
        · rename_i hh hhh
          split at h
          · rename_i m hm
            obtain ⟨h1, rfl⟩ := next_eq h
            unfold denOp; rw [ho]
            simp only [xev_ok hE hu, xoptInt_ok hE hl, xoptInt_ok hE hhh, xoptInt_ok hE hm]
            exact xSlice3_ok h1 hcl fun γ hγ hc => hk γ hγ (Nat.le_succ _) hc
          · cases h
        · cases h
      · cases h
    · cases h
  · rename_i t x i y ho
    split at h
    · rename_i u hu
      split at h
      · rename_i w hw
        split at h
        · rename_i z hz
          obtain ⟨h1, rfl, rfl⟩ := unit_eq h
          unfold denOp; rw [ho]
          simp only [xev_ok hE hu, xev_ok hE hw, xev_ok hE hz]
          exact fun hp hs => xMapSet_ok hT h1 (unw_ok (β := β) (L := L) (h := hp).1 hcl) (fun hc => hk β Agr.rfl (Nat.le_refl _) hc) hp ((unw_ok (n := 0)).2 hs)
        · cases h
      · cases h
    · cases h
  · rename_i t x i y ho
    split at h
    · rename_i u hu
      split at h
      · rename_i w hw
        split at h
        · rename_i z hz
          obtain ⟨h1, rfl, rfl⟩ := unit_eq h
          unfold denOp; rw [ho]
          simp only [xev_ok hE hu, xev_ok hE hw, xev_ok hE hz]
          exact fun hp hs => xMapSet_ok hT h1 (unw_ok (β := β) (L := L) (h := hp).1 hcl) (fun hc => hk β Agr.rfl (Nat.le_refl _) hc) hp ((unw_ok (n := 0)).2 hs)
        · cases h
      · cases h
    · cases h
  · rename_i t x ho
    split at h
    · rename_i u hu
      split at h
      · rename_i r hr
        obtain ⟨h1, rfl⟩ := next_eq h
        cases h1
        unfold denOp; rw [ho]
        simp only [xev_ok hE hu]
        exact xRangeS_ok hr hcl fun γ hγ hc => hk γ hγ (Nat.le_succ _) hc
      · obtain ⟨h1, rfl⟩ := next_eq h
        unfold denOp; rw [ho]
        simp only [xev_ok hE hu]
        exact fun hp hs => xRangeM_ok h1 (unw_ok (β := β) (L := L) (h := hp).1 hcl) (fun γ hγ hc => hk γ hγ (Nat.le_succ _) hc) hp ((unw_ok (n := 0)).2 hs)
    · cases h
  · rename_i x ho
    split at h
    · rename_i u hu
      split at h
      · rename_i w s1 hw
        cases h
        unfold denOp; rw [ho]
        simp only [xev_ok hE hu]
        exact xNextS_ok hw hcl fun hc => hk β Agr.rfl (Nat.le_refl _) hc
      · cases h
    · cases h
  · rename_i c ho
    split at h
    · rename_i hb
      split at h
      · rename_i vs hvs
        split at h
        · rename_i u r
          obtain ⟨h1, rfl, rfl⟩ := unit_eq h
          unfold denOp; rw [ho]
          simp only [xevs_ok hE hvs, hb]
          exact fun hp hs => xClear_ok h1 (unw_ok (β := β) (L := L) (h := hp).1 hcl) (fun hc => hk β Agr.rfl (Nat.le_refl _) hc) hp ((unw_ok (n := 0)).2 hs)
        · cases h
      · cases h
    · rename_i hb
      split at h
      · rename_i vs hvs
        split at h
        · rename_i r hr
          obtain ⟨h1, rfl⟩ := next_eq h
          cases h1
          unfold denOp; rw [ho]
          simp only [xevs_ok hE hvs, hb]
          exact xAppendB_ok hr hcl fun γ hγ hc => hk γ hγ (Nat.le_succ _) hc
        · exact xOp_ok hT hC hE h hcl hk
      · cases h
    · rename_i hb
      split at h
      · rename_i vs hvs
        split at h
        · rename_i u r
          obtain ⟨h1, rfl, rfl⟩ := unit_eq h
          unfold denOp; rw [ho]
          simp only [xevs_ok hE hvs, hb]
          exact fun hp hs => xDelete_ok hT h1 (unw_ok (β := β) (L := L) (h := hp).1 hcl) (fun hc => hk β Agr.rfl (Nat.le_refl _) hc) hp ((unw_ok (n := 0)).2 hs)
        · cases h
      · cases h
    · rename_i t hb
      split at h
      · rename_i vs hvs
        split at h
        · rename_i f first cap hf
          split at h
          · rename_i hm
            obtain ⟨h1, h2⟩ := fitR_eq h
            unfold denOp; rw [ho]
            have e1 : e0.ev (.tmp t) = some (val β (.func f first cap)) := hE t _ hf
            simp only [xevs_ok hE hvs, hb, e1]
            exact xCallV_ok hC hCO hm h1 h2 hcl hk
          · cases h
        · cases h
      · cases h
    · exact xOp_ok hT hC hE h hcl hk
  · exact xOp_ok hT hC hE h hcl hk
end
end Go.X
namespace Go.X
open Go.H
set_option linter.unusedSimpArgs false
set_option linter.unusedVariables false
structure Inv (β : As) (e : XEnv) (n : Nat) (s : XSt) (e0 : Env) : Prop where
  ag : EAg β e e0
  ce : ∀ t v, e.get t = some v → clo n v = true
  cs : CloS n s
def xSet (e : XEnv) (dst : Option Nat) (v : XV) : XEnv :=
  match dst with
  | some t => add t v e
  | none => e
theorem xSet_get {e : XEnv} {dst : Option Nat} {v u : XV} {t : Nat} (h : (xSet e dst v).get t = some u) : (dst = some t ∧ u = v) ∨ (dst ≠ some t ∧ e.get t = some u) := by
  cases dst with
  | none => exact .inr ⟨nofun, h⟩
  | some s =>
    simp only [xSet, add] at h
    rw [ins_get (s + 1) e s t v (Nat.lt_succ_self _)] at h
    split at h
    · rename_i e1; subst e1; cases h; exact .inl ⟨rfl, rfl⟩
    · rename_i e1; exact .inr ⟨fun hh => e1 (by cases hh; rfl), h⟩
theorem EAg.set {β : As} {e : XEnv} {e0 : Env} (h : EAg β e e0) (dst : Option Nat) (v : XV) : EAg β (xSet e dst v) (e0.put dst (val β v)) := by
  intro t u hu
  rcases xSet_get hu with ⟨rfl, rfl⟩ | ⟨hd, hu2⟩
  · rw [get_put, if_pos rfl]
  · cases dst with
    | none => exact h t u hu2
    | some s => rw [get_put, if_neg (fun e => hd (by rw [e]))]; exact h t u hu2
theorem EAg.agr {n : Nat} {β γ : As} {e : XEnv} {e0 : Env} (h : EAg β e e0) (ce : ∀ t v, e.get t = some v → clo n v = true) (ha : Agr n β γ) : EAg γ e e0 := fun t v hv => by
  rw [h t v hv, val_agr ha v (ce t v hv)]
theorem cloE_set' {n m : Nat} {e : XEnv} (h : ∀ t v, e.get t = some v → clo n v = true) (hm : n ≤ m) {dst : Option Nat} {v : XV} (hv : clo m v = true) : ∀ t u, (xSet e dst v).get t = some u → clo m u = true := fun t u hu => by
  rcases xSet_get hu with ⟨-, rfl⟩ | ⟨-, hu⟩
  · exact hv
  · exact clo_mono hm u (h t u hu)
def rot (n a b k : Nat) : Nat :=
  match Nat.blt k n with
  | true => k
  | false => match Nat.blt k (n + a) with
    | true => k + b
    | false => match Nat.blt k (n + a + b) with
      | true => k - a
      | false => k
theorem rot_eq (n a b k : Nat) : rot n a b k = if k < n then k else if k < n + a then k + b else if k < n + a + b then k - a else k := by
  unfold rot
  have hb : ∀ x y : Nat, Nat.blt x y = decide (x < y) := fun x y => by
    cases h : Nat.blt x y with
    | true => exact (decide_eq_true (by simpa using h)).symm
    | false => exact (decide_eq_false (fun hh => by rw [show Nat.blt x y = true by simpa using hh] at h; cases h)).symm
  simp only [hb]
  by_cases h1 : k < n <;> by_cases h2 : k < n + a <;> by_cases h3 : k < n + a + b <;> simp [h1, h2, h3]
theorem rot_inj {n a b : Nat} : ∀ i j, rot n a b i = rot n a b j → i = j := by
  intro i j h
  simp only [rot_eq] at h
  repeat' split at h
  all_goals omega
theorem rot_lt {n a b k : Nat} (h : k < n) : rot n a b k = k := by rw [rot_eq, if_pos h]
def cloK (n : Nat) (k : Nat) (f : XF) : Bool :=
  match Nat.blt k n with
  | true => cloF n f
  | false => false
def keepE (σ : Nat → Nat) (e2 : XEnv) (t : Nat) (v : XV) : Bool :=
  match e2.get t with
  | some v2 => xeq (ren σ v) v2
  | none => false
def keepS (σ : Nat → Nat) (s2 : XSt) (k : Nat) (f : XF) : Bool :=
  match s2.get (σ k) with
  | some f2 => xeqF (renF σ f) f2
  | none => false
def chkO (n : Nat) (e : XEnv) (s : XSt) : Bool :=
  match e.every (fun _ v => clo n v) id with
  | true => s.every (cloK n) id
  | false => false
theorem chkO_ok {n : Nat} {e : XEnv} {s : XSt} (h : chkO n e s = true) : (∀ t v, e.get t = some v → clo n v = true) ∧ CloS n s := by
  unfold chkO at h
  split at h
  · rename_i h1
    refine ⟨fun t v hv => get_every h1 hv, fun k f hf => ?_⟩
    have := get_every h hf
    unfold cloK at this
    split at this
    · rename_i hb; exact ⟨by simpa using hb, this⟩
    · cases this
  · cases h
def meetE (σ : Nat → Nat) (e e2 : XEnv) : XEnv := e.filt (keepE σ e2) id
def meetS (σ : Nat → Nat) (s s2 : XSt) : XSt := s.filt (keepS σ s2) id
theorem meet_left {σ : Nat → Nat} {γ : As} {e e2 : XEnv} {s s2 : XSt} {e0 : Env} {L : List Asn} (h : EAg γ e e0) : EAg γ (meetE σ e e2) e0 ∧ Sub (asn γ s ++ L) (asn γ (meetS σ s s2) ++ L) := by
  refine ⟨fun t v hv => h t v (get_filt hv).1, ?_⟩
  have h1 := sub_ren (γ := γ) (σ := id) (s := s) (s' := meetS σ s s2) (L := L) (fun i j h => h) fun k f hf => ?_
  · have : γ.ren id = γ := ren_id (fun _ => rfl) γ
    rw [this] at h1
    exact h1
  · have : ∀ f : XF, renF id f = f := by
      have hv : ∀ v : XV, ren id v = v := fun v => by
        refine XV.rec (motive_1 := fun v => ren id v = v) (motive_2 := fun l => rens id l = l) ?_ ?_ ?_ ?_ ?_ ?_ ?_ ?_ ?_ ?_ ?_ ?_ ?_ ?_ ?_ ?_ ?_ ?_ ?_ v
        all_goals (intros; simp only [ren, rens, id] at *; try simp only [*])
      have hl : ∀ l : List XV, rens id l = l := fun l => by
        induction l with
        | nil => rfl
        | cons a l ih => simp only [rens]; rw [hv a, ih]
      have he : ∀ {K : Type} (l : List (K × XV)), renE id l = l := fun l => by
        induction l with
        | nil => rfl
        | cons a l ih => obtain ⟨a, b⟩ := a; simp only [renE]; rw [hv b, ih]
      have hr : ∀ l : List (List XV), renR id l = l := fun l => by
        induction l with
        | nil => rfl
        | cons a l ih => simp only [renR]; rw [hl a, ih]
      intro f
      cases f <;> simp only [renF, hl, he, hr, id]
    rw [this]
    exact (get_filt hf).1
theorem meet_right {σ : Nat → Nat} {γ : As} {e e2 : XEnv} {s s2 : XSt} {e0 : Env} {L : List Asn} (hinj : ∀ i j, σ i = σ j → i = j) (h : EAg γ e2 e0) : EAg (γ.ren σ) (meetE σ e e2) e0 ∧ Sub (asn γ s2 ++ L) (asn (γ.ren σ) (meetS σ s s2) ++ L) := by
  refine ⟨fun t v hv => ?_, sub_ren hinj fun k f hf => ?_⟩
  · have := (get_filt hv).2
    unfold keepE at this
    split at this
    · rename_i v2 h2
      rw [← val_ren, xeq_eq _ _ this]
      exact h t v2 h2
    · cases this
  · have := (get_filt hf).2
    unfold keepS at this
    split at this
    · rename_i f2 h2
      rw [xeqF_eq this]
      exact h2
    · cases this
def bindL {α τ : Type} (f : α → Option (List τ)) : List α → Option (List τ)
  | [] => some []
  | x :: xs => match f x with
    | some a => match bindL f xs with
      | some b => some (a ++ b)
      | none => none
    | none => none
theorem bindL_ok {α τ : Type} {f : α → Option (List τ)} : ∀ {l : List α} {r : List τ}, bindL f l = some r → ∀ x ∈ l, ∃ a, f x = some a ∧ ∀ y ∈ a, y ∈ r
  | [], r, _, x, hx => by cases hx
  | z :: l, r, h, x, hx => by
    simp only [bindL] at h
    split at h
    · rename_i a ha
      split at h
      · rename_i b hb
        cases h
        rcases List.mem_cons.1 hx with rfl | hx
        · exact ⟨a, ha, fun y hy => List.mem_append_left _ hy⟩
        · obtain ⟨c, h1, h2⟩ := bindL_ok hb x hx
          exact ⟨c, h1, fun y hy => List.mem_append_right _ (h2 y hy)⟩
      · cases h
    · cases h
section
variable {ρ : Type} {L : List Asn} {Q : ρ → Heap → Prop} {P : Program} {β : As} {T2 : TypeId → Bool} {C : List Nat} {call : Nat → List XV → Nat → XSt → Option XR}
def xOpL (P : Program) (T2 : TypeId → Bool) (C : List Nat) (call : Nat → List XV → Nat → XSt → Option XR) (ops : Array Oper) (e : XEnv) (d : Dec) (n : Nat) (s : XSt) (o : Oper) : Option (List XR) :=
  match o.op with
  | .next x false => match xev e x with
    | some v => match xNextM s v with
      | some l => some (l.map fun q => (q.1, n, q.2))
      | none => none
    | none => none
  | .entry x => match xev e x with
    | some v => match xEntry (partKind P o.dst 0 ops.toList) (partKind P o.dst 1 ops.toList) s v with
      | some u => some [(u, n, s)]
      | none => none
    | none => none
  | _ => match xOpx P T2 C call e d n s o with
    | some r => some [r]
    | none => none
theorem xOpL_ok (hT : T2OK P T2) (hC : CallS P call) (hCO : ∀ f, f ∈ C → CallOK P f) {ops : Array Oper} {e : XEnv} {e0 : Env} (hE : EAg β e e0) {d : Dec} {n : Nat} {s : XSt} {o : Oper} {rs : List XR} {k : Value → HM ρ} (h : xOpL P T2 C call ops e d n s o = some rs) (hcl : CloS n s)
    (hk : ∀ r ∈ rs, ∀ γ, Agr n β γ → n ≤ r.2.1 → CloS r.2.1 r.2.2 → W (asn γ r.2.2 ++ L) (k (val γ r.1)) Q) : W (asn β s ++ L) (denOpE P C ops e0 d o k) Q := by
  unfold xOpL at h
  split at h
  · rename_i x ho
    split at h
    · rename_i v hv
      split at h
      · rename_i l hl
        cases h
        unfold denOpE denOp
        rw [ho]
        simp only [xev_ok hE hv]
        exact xNextM_ok hl hcl fun q hq hc => hk _ (List.mem_map_of_mem hq) β Agr.rfl (Nat.le_refl _) hc
      · cases h
    · cases h
  · rename_i x ho
    split at h
    · rename_i v hv
      split at h
      · rename_i u hu
        cases h
        unfold denOpE
        rw [ho]
        simp only [xev_ok hE hv]
        exact xEntry_ok hu (hk _ (List.mem_singleton.2 rfl) β Agr.rfl (Nat.le_refl _) hcl)
      · cases h
    · cases h
  split at h
  · rename_i r hr
    obtain ⟨v, n', s'⟩ := r
    cases h
    have hne : ∀ x, o.op ≠ .entry x := fun x hx => by
      simp only [xOpx, hx, xOp, xOp0] at hr
      cases hr
    unfold denOpE
    split
    · rename_i x hx; exact absurd hx (hne x)
    · exact xOpx_ok hT hC hCO hE hr hcl fun γ ha hn hc => hk (v, n', s') (List.mem_singleton.2 rfl) γ ha hn hc
  · cases h
structure XT where
  e : XEnv
  d : Dec
  dn : List (Nat × XV)
  n : Nat
  s : XSt
def dnOf (β : As) (dn : List (Nat × XV)) : Done := dn.map fun p => (p.1, val β p.2)
structure XInv (β : As) (x : XT) (e0 : Env) (dn0 : Done) : Prop extends Inv β x.e x.n x.s e0 where
  dn : dn0 = dnOf β x.dn
  cd : ∀ p ∈ x.dn, clo x.n p.2 = true
theorem dnOf_agr {n : Nat} {β γ : As} (h : Agr n β γ) : ∀ {dn : List (Nat × XV)}, (∀ p ∈ dn, clo n p.2 = true) → dnOf β dn = dnOf γ dn
  | [], _ => rfl
  | p :: r, hc => by
    simp only [dnOf, List.map_cons]
    rw [val_agr h p.2 (hc p (List.mem_cons_self ..))]
    congr 1
    exact dnOf_agr h fun q hq => hc q (List.mem_cons_of_mem _ hq)
def xAgain (P : Program) (T2 : TypeId → Bool) (C : List Nat) (call : Nat → List XV → Nat → XSt → Option XR) (ops : Array Oper) (b : Nat) (e : XEnv) (n : Nat) (s : XSt) : List (Nat × XV) → Option (Nat × XSt)
  | [] => some (n, s)
  | (i, v) :: r => match b.testBit i with
    | true => xAgain P T2 C call ops b e n s r
    | false => match ops.toList[i]? with
      | some o => match xOp P T2 C call e n s o with
        | some (v', n', s') => match xeq v' v with
          | true => xAgain P T2 C call ops b e n' s' r
          | false => none
        | none => none
      | none => none
theorem xAgain_ok (hT : T2OK P T2) (hC : CallS P call) {ops : Array Oper} {b : Nat} {d : Dec} {m : HM ρ} {e : XEnv} {e0 : Env} : ∀ {dn : List (Nat × XV)} {β : As} {n n' : Nat} {s s' : XSt}, xAgain P T2 C call ops b e n s dn = some (n', s') → EAg β e e0 → (∀ t v, e.get t = some v → clo n v = true) → CloS n s → (∀ p ∈ dn, clo n p.2 = true) →
    (∀ γ, Agr n β γ → n ≤ n' → CloS n' s' → W (asn γ s' ++ L) m Q) → W (asn β s ++ L) (again P C ops b e0 d (dnOf β dn) m) Q
  | [], β, n, n', s, s', h, hE, hce, hcl, hcd, hk => by cases h; exact hk β Agr.rfl (Nat.le_refl _) hcl
  | (i, v) :: r, β, n, n', s, s', h, hE, hce, hcl, hcd, hk => by
    have hcd' : ∀ p ∈ r, clo n p.2 = true := fun p hp => hcd p (List.mem_cons_of_mem _ hp)
    simp only [xAgain] at h
    simp only [dnOf, List.map_cons, again]
    split at h
    · rename_i hb
      simp only [hb]
      exact xAgain_ok hT hC h hE hce hcl hcd' hk
    · rename_i hb
      simp only [hb]
      split at h
      · rename_i o ho
        simp only [ho]
        split at h
        · rename_i v' n1 s1 hop
          split at h
          · rename_i hv
            have := xeq_eq _ _ hv
            subst this
            refine xOp_ok hT hC hE hop hcl fun γ ha hn hc => ?_
            have hvv : clo n v' = true := hcd (i, v') (List.mem_cons_self ..)
            refine W.req ?_ (val_agr ha v' hvv).symm
            have e1 : List.map (fun p => (p.1, val β p.2)) r = dnOf γ r := dnOf_agr ha hcd'
            rw [e1]
            exact xAgain_ok hT hC h (hE.agr hce ha) (fun t u hu => clo_mono hn u (hce t u hu)) hc (fun p hp => clo_mono hn _ (hcd' p hp)) fun δ hb' hn' hc' => hk δ (ha.trans hb' hn) (Nat.le_trans hn hn') hc'
          · cases h
        · cases h
      · cases h
def xOneR (P : Program) (T2 : TypeId → Bool) (C : List Nat) (call : Nat → List XV → Nat → XSt → Option XR) (ops : Array Oper) (draw : Bool) (j : Nat) (o : Oper) (x : XT) (r : XR) : Option (List XT) :=
  match r with
  | (v, n', s') => match clo n' v with
    | true => match draw with
      | false => some [⟨xSet x.e o.dst v, decAfter x.d o, x.dn, n', s'⟩]
      | true => match clsOf P o.op with
        | .stat => some [⟨xSet x.e o.dst v, decAfter x.d o, x.dn, n', s'⟩]
        | .read => some [⟨xSet x.e o.dst v, decAfter x.d o, (j, v) :: x.dn, n', s'⟩]
        | .eff => match xAgain P T2 C call ops ((Region.before ops).getD j 0) (xSet x.e o.dst v) n' s' x.dn with
          | some (n2, s2) => some [⟨xSet x.e o.dst v, decAfter x.d o, x.dn, n2, s2⟩]
          | none => none
    | false => none
def xOne (P : Program) (T2 : TypeId → Bool) (C : List Nat) (call : Nat → List XV → Nat → XSt → Option XR) (ops : Array Oper) (draw : Bool) (j : Nat) (o : Oper) (x : XT) : Option (List XT) :=
  match xOpL P T2 C call ops x.e x.d x.n x.s o with
  | some rs => bindL (xOneR P T2 C call ops draw j o x) rs
  | none => none
theorem xOne_ok (hT : T2OK P T2) (hC : CallS P call) (hCO : ∀ f, f ∈ C → CallOK P f) {ops : Array Oper} {draw : Bool} {j : Nat} {o : Oper} {x : XT} {outs : List XT} {e0 : Env} {dn0 : Done} {kk : Env → Done → HM ρ} (h : xOne P T2 C call ops draw j o x = some outs) (hI : XInv β x e0 dn0)
    (hk : ∀ y ∈ outs, ∀ γ e1 dn1, Agr x.n β γ → x.n ≤ y.n → XInv γ y e1 dn1 → y.d = decAfter x.d o → W (asn γ y.s ++ L) (kk e1 dn1) Q) : W (asn β x.s ++ L) (denOne P C ops draw j o e0 x.d dn0 kk) Q := by
  unfold xOne at h
  split at h
  · rename_i rs hrs
    unfold denOne
    refine xOpL_ok hT hC hCO hI.ag hrs hI.cs fun r hr γ ha hn hc => ?_
    obtain ⟨asZ, h1, h2⟩ := bindL_ok h r hr
    obtain ⟨v, n', s'⟩ := r
    simp only [xOneR] at h1
    have hdn : dn0 = dnOf γ x.dn := by rw [hI.dn, dnOf_agr ha hI.cd]
    have hE : EAg γ x.e e0 := hI.ag.agr hI.ce ha
    simp only at hn hc
    split at h1
    · rename_i hv
      have hce := cloE_set' (dst := o.dst) hI.ce hn hv
      have hcd : ∀ p ∈ x.dn, clo n' p.2 = true := fun p hp => clo_mono hn _ (hI.cd p hp)
      cases draw with
      | false =>
        cases h1
        exact hk _ (h2 _ (List.mem_singleton.2 rfl)) γ _ _ ha hn ⟨⟨hE.set o.dst v, hce, hc⟩, hdn, hcd⟩ rfl
      | true =>
        simp only at h1 ⊢
        split at h1
        · rename_i hcl
          cases h1
          simp only [hcl]
          exact hk _ (h2 _ (List.mem_singleton.2 rfl)) γ _ _ ha hn ⟨⟨hE.set o.dst v, hce, hc⟩, hdn, hcd⟩ rfl
        · rename_i hcl
          cases h1
          simp only [hcl]
          refine hk _ (h2 _ (List.mem_singleton.2 rfl)) γ _ _ ha hn ⟨⟨hE.set o.dst v, hce, hc⟩, by rw [hdn]; rfl, fun p hp => ?_⟩ rfl
          rcases List.mem_cons.1 hp with rfl | hp
          · exact hv
          · exact hcd p hp
        · rename_i hcl
          simp only [hcl]
          split at h1
          · rename_i n2 s2 hag
            cases h1
            rw [hdn]
            refine xAgain_ok hT hC hag (hE.set o.dst v) hce hc hcd fun δ hb hn2 hc2 => ?_
            refine hk _ (h2 _ (List.mem_singleton.2 rfl)) δ _ _ (ha.trans hb hn) (Nat.le_trans hn hn2) ⟨⟨(hE.set o.dst v).agr hce hb, fun t u hu => clo_mono hn2 u (hce t u hu), hc2⟩, dnOf_agr hb hcd, fun p hp => clo_mono hn2 _ (hcd p hp)⟩ rfl
          · cases h1
    · cases h1
  · cases h
def xSkip (o : Oper) (d : Dec) (x : XT) : Option (List XT) := some [⟨xSet x.e o.dst (.tup []), d, x.dn, x.n, x.s⟩]
def xStep (P : Program) (T2 : TypeId → Bool) (C : List Nat) (call : Nat → List XV → Nat → XSt → Option XR) (nt : Nat) (ops : Array Oper) (draw : Bool) (j : Nat) (x : XT) : Option (List XT) :=
  match ops.toList[j]? with
  | none => none
  | some o => match chkDst nt x.d o.dst with
    | false => none
    | true => match o.guard with
      | none => xOne P T2 C call ops draw j o x
      | some (g, want) => match guardSlot ops g with
        | none => none
        | some s => match x.d.get s with
          | some b => match b, want with
            | true, true => xOne P T2 C call ops draw j o x
            | false, false => xOne P T2 C call ops draw j o x
            | true, false => xSkip o x.d x
            | false, true => xSkip o x.d x
          | none => match hits o.dst s with
            | true => none
            | false => match x.e.get s with
              | some (.bool b) => match b, want with
                | true, true => xOne P T2 C call ops draw j o { x with d := (s, true) :: x.d }
                | false, false => xOne P T2 C call ops draw j o { x with d := (s, false) :: x.d }
                | true, false => xSkip o ((s, true) :: x.d) x
                | false, true => xSkip o ((s, false) :: x.d) x
              | some (.tup []) => xSkip o x.d x
              | _ => none
theorem xStep_ok (hT : T2OK P T2) (hC : CallS P call) (hCO : ∀ f, f ∈ C → CallOK P f) {nt : Nat} {ops : Array Oper} {draw : Bool} {j : Nat} {x : XT} {outs : List XT} {e0 : Env} {dn0 : Done} {kk : Env → Dec → Done → HM ρ} (h : xStep P T2 C call nt ops draw j x = some outs) (hI : XInv β x e0 dn0)
    (hk : ∀ y ∈ outs, ∀ γ e1 dn1, Agr x.n β γ → x.n ≤ y.n → XInv γ y e1 dn1 → W (asn γ y.s ++ L) (kk e1 y.d dn1) Q) : W (asn β x.s ++ L) (denStep P C nt ops draw j e0 x.d dn0 kk) Q := by
  have one : ∀ (o : Oper) (d : Dec), xOne P T2 C call ops draw j o { x with d := d } = some outs → W (asn β x.s ++ L) (denOne P C ops draw j o e0 d dn0 fun e' dn' => kk e' (decAfter d o) dn') Q := fun o d ho =>
    xOne_ok (x := { x with d := d }) hT hC hCO ho ⟨⟨hI.ag, hI.ce, hI.cs⟩, hI.dn, hI.cd⟩ fun y hy γ e1 dn1 ha hn hi hd => by
      have := hk y hy γ e1 dn1 ha hn hi
      rw [hd] at this
      exact this
  have skip : ∀ (o : Oper) (d : Dec), xSkip o d x = some outs → W (asn β x.s ++ L) (kk (e0.put o.dst undef) d dn0) Q := fun o d ho => by
    cases ho
    refine hk _ (List.mem_singleton.2 rfl) β _ _ Agr.rfl (Nat.le_refl _) ⟨⟨?_, cloE_set' hI.ce (Nat.le_refl _) rfl, hI.cs⟩, hI.dn, hI.cd⟩
    exact hI.ag.set o.dst (.tup [])
  unfold xStep at h
  unfold denStep
  split at h
  · cases h
  · rename_i o ho
    rw [ho]
    split at h
    · cases h
    · rename_i hd
      simp only [hd]
      split at h
      · rename_i hg
        simp only [hg]
        exact one o x.d h
      · rename_i g want hg
        simp only [hg]
        split at h
        · cases h
        · rename_i s hs
          simp only [hs]
          split at h
          · rename_i b hb
            simp only [hb]
            cases b <;> cases want <;> simp only at h ⊢
            · exact one o x.d h
            · exact skip o x.d h
            · exact skip o x.d h
            · exact one o x.d h
          · rename_i hb
            simp only [hb]
            split at h
            · cases h
            · rename_i hh
              simp only [hh]
              split at h
              · rename_i b he
                simp only [hI.ag s _ he, val]
                cases b <;> cases want <;> simp only at h ⊢
                · exact W.ff rfl (one o _ h)
                · exact W.ff rfl (skip o _ h)
                · exact W.tt rfl (skip o _ h)
                · exact W.tt rfl (one o _ h)
              · rename_i he
                simp only [hI.ag s _ he, val]
                exact skip o x.d h
              · cases h
def xPair (x : XT) (i j : Option (List XT)) (oi oj : Option (List XT)) : Option (List XT) :=
  match oi, oj with
  | some [a], some [b] => match i, j with
    | some [p], some [q] =>
      match chkO (Nat.max a.n b.n) (meetE (rot x.n (p.n - x.n) (q.n - x.n)) a.e b.e) (meetS (rot x.n (p.n - x.n) (q.n - x.n)) a.s b.s) with
      | true => some [⟨meetE (rot x.n (p.n - x.n) (q.n - x.n)) a.e b.e, [], [], Nat.max a.n b.n, meetS (rot x.n (p.n - x.n) (q.n - x.n)) a.s b.s⟩]
      | false => none
    | _, _ => none
  | some l, some r => some (l ++ r)
  | _, _ => none
def thenL (f : XT → Option (List XT)) : Option (List XT) → Option (List XT)
  | some l => bindL f l
  | none => none
def xT (P : Program) (T2 : TypeId → Bool) (C : List Nat) (call : Nat → List XV → Nat → XSt → Option XR) (nt : Nat) (ops : Array Oper) (draw : Bool) : OTree → XT → Option (List XT)
  | .done, x => some [x]
  | .q j t, x => thenL (xT P T2 C call nt ops draw t) (xStep P T2 C call nt ops draw j x)
  | .br js f, x => match js with
    | [] => none
    | [j] => thenL (xT P T2 C call nt ops draw (f j)) (xStep P T2 C call nt ops draw j x)
    | [i, j] => xPair x (xStep P T2 C call nt ops draw i x) (xStep P T2 C call nt ops draw j x) (thenL (xT P T2 C call nt ops draw (f i)) (xStep P T2 C call nt ops draw i x)) (thenL (xT P T2 C call nt ops draw (f j)) (xStep P T2 C call nt ops draw j x))
    | i :: j :: k :: r => bindL (fun j => thenL (xT P T2 C call nt ops draw (f j)) (xStep P T2 C call nt ops draw j x)) (i :: j :: k :: r)
def Ends (L : List Asn) (Q : ρ → Heap → Prop) (k : Env → HM ρ) (β : As) (n : Nat) (y : XT) : Prop :=
  ∀ γ e1, Agr n β γ → n ≤ y.n → Inv γ y.e y.n y.s e1 → W (asn γ y.s ++ L) (k e1) Q
theorem xPair_ok {x : XT} {i j oi oj : Option (List XT)} {outs : List XT} {k : Env → HM ρ} (h : xPair x i j oi oj = some outs) (hk : ∀ y ∈ outs, Ends L Q k β x.n y) :
    (∃ l, oi = some l ∧ ∀ y ∈ l, Ends L Q k β x.n y) ∧ (∃ l, oj = some l ∧ ∀ y ∈ l, Ends L Q k β x.n y) := by
  unfold xPair at h
  split at h
  · rename_i a b
    split at h
    · rename_i p q
      split at h
      · rename_i hc
        cases h
        obtain ⟨c1, c2⟩ := chkO_ok hc
        have hm := hk _ (List.mem_singleton.2 rfl)
        refine ⟨⟨_, rfl, fun y hy γ e1 ha hn hi => ?_⟩, ⟨_, rfl, fun y hy γ e1 ha hn hi => ?_⟩⟩
        · rw [List.mem_singleton.1 hy] at *
          obtain ⟨h1, h2⟩ := meet_left (σ := rot x.n (p.n - x.n) (q.n - x.n)) (e2 := b.e) (s := a.s) (s2 := b.s) (L := L) hi.ag
          exact W.sub (hm γ e1 ha (Nat.le_trans hn (Nat.le_max_left _ _)) ⟨h1, c1, c2⟩) h2
        · rw [List.mem_singleton.1 hy] at *
          obtain ⟨h1, h2⟩ := meet_right (σ := rot x.n (p.n - x.n) (q.n - x.n)) (e := a.e) (s := a.s) (s2 := b.s) (L := L) rot_inj hi.ag
          refine W.sub (hm _ e1 ⟨fun k hk' => ?_, fun k hk' => ?_⟩ (Nat.le_trans hn (Nat.le_max_right _ _)) ⟨h1, c1, c2⟩) h2
          · rw [ha.b k hk']; simp only [As.ren, rot_lt hk']
          · rw [ha.s k hk']; simp only [As.ren, rot_lt hk']
      · cases h
    · cases h
  · rename_i l r _
    cases h
    exact ⟨⟨l, rfl, fun y hy => hk y (List.mem_append_left _ hy)⟩, ⟨r, rfl, fun y hy => hk y (List.mem_append_right _ hy)⟩⟩
  · cases h
theorem W_allH : ∀ {l : List (HM ρ)} {L : List Asn}, l ≠ [] → (∀ m ∈ l, W L m Q) → W L (allH l) Q
  | [], _, h, _ => absurd rfl h
  | [m], _, _, h => h m (List.mem_singleton.2 rfl)
  | m :: x :: r, _, _, h => W.both (h m (List.mem_cons_self ..)) (W_allH (by simp) fun y hy => h y (List.mem_cons_of_mem _ hy))
theorem thenL_ok {f : XT → Option (List XT)} {o : Option (List XT)} {outs : List XT} (h : thenL f o = some outs) : ∃ l, o = some l ∧ bindL f l = some outs := by
  cases o with
  | none => cases h
  | some l => exact ⟨l, rfl, h⟩
theorem xT_ok (hT : T2OK P T2) (hC : CallS P call) (hCO : ∀ f, f ∈ C → CallOK P f) {nt : Nat} {ops : Array Oper} {draw : Bool} {k : Env → HM ρ} : ∀ (t : OTree) {x : XT} {outs : List XT} {β : As} {e0 : Env} {dn0 : Done}, xT P T2 C call nt ops draw t x = some outs → XInv β x e0 dn0 →
    (∀ y ∈ outs, Ends L Q k β x.n y) → W (asn β x.s ++ L) (denT P C nt ops draw t e0 x.d dn0 k) Q
  | .done, x, outs, β, e0, dn0, h, hI, hk => by
    cases h
    exact hk x (List.mem_singleton.2 rfl) β e0 Agr.rfl (Nat.le_refl _) hI.toInv
  | .q j t, x, outs, β, e0, dn0, h, hI, hk => by
    obtain ⟨l, h1, h2⟩ := thenL_ok h
    simp only [denT]
    refine xStep_ok hT hC hCO h1 hI fun y hy γ e1 dn1 ha hn hi => ?_
    obtain ⟨a, h3, h4⟩ := bindL_ok h2 y hy
    exact xT_ok hT hC hCO t h3 hi fun z hz δ e2 hb hn2 hi2 => hk z (h4 z hz) δ e2 (ha.trans hb hn) (Nat.le_trans hn hn2) hi2
  | .br js f, x, outs, β, e0, dn0, h, hI, hk => by
    have go : ∀ (j : Nat) (outs : List XT), thenL (xT P T2 C call nt ops draw (f j)) (xStep P T2 C call nt ops draw j x) = some outs → (∀ y ∈ outs, Ends L Q k β x.n y) →
        W (asn β x.s ++ L) (denStep P C nt ops draw j e0 x.d dn0 fun e' d' dn' => denT P C nt ops draw (f j) e' d' dn' k) Q := by
      intro j outs h hk
      obtain ⟨l, h1, h2⟩ := thenL_ok h
      refine xStep_ok hT hC hCO h1 hI fun y hy γ e1 dn1 ha hn hi => ?_
      obtain ⟨a, h3, h4⟩ := bindL_ok h2 y hy
      exact xT_ok hT hC hCO (f j) h3 hi fun z hz δ e2 hb hn2 hi2 => hk z (h4 z hz) δ e2 (ha.trans hb hn) (Nat.le_trans hn hn2) hi2
    simp only [denT]
    unfold xT at h
    split at h
    · cases h
    · rename_i j
      exact go j outs h hk
    · rename_i i j
      obtain ⟨⟨l, h1, h2⟩, ⟨r, h3, h4⟩⟩ := xPair_ok h hk
      exact W.both (go i l h1 h2) (go j r h3 h4)
    · rename_i i j m r
      refine W_allH (by simp) fun y hy => ?_
      obtain ⟨z, hz, rfl⟩ := List.mem_map.1 hy
      obtain ⟨a, h1, h2⟩ := bindL_ok h z hz
      exact go z a h1 fun y hy => hk y (h2 y hy)
end
end Go.X
namespace Go.X
open Go.H
set_option linter.unusedSimpArgs false
set_option linter.unusedVariables false
inductive XEx where
  | norm | ret | exit (id : Nat)
def XEx.eq : XEx → XEx → Bool
  | .norm, .norm => true
  | .ret, .ret => true
  | .exit i, .exit j => Nat.beq i j
  | _, _ => false
theorem XEx.eq_ok {a b : XEx} (h : XEx.eq a b = true) : a = b := by
  cases a <;> cases b <;> simp only [XEx.eq] at h <;> first | (cases h; done) | rfl | (rw [Nat.eq_of_beq_eq_true h])
def XEx.toExit : XEx → Exit
  | .norm => .normal
  | .ret => .ret
  | .exit i => .exit i
structure XO where
  x : XEx
  e : XEnv
  n : Nat
  s : XSt
section
variable {DF : List Deferred} {L : List Asn} {P : Program} {T2 : TypeId → Bool} {C : List Nat} {call : Nat → List XV → Nat → XSt → Option XR} {nt : Nat}
def Goes (DF : List Deferred) (L : List Asn) (nt : Nat) (Ψ : Exit → Act → Heap → Prop) (β : As) (n : Nat) (o : XO) : Prop :=
  ∀ γ a' h' e1, Agr n β γ → n ≤ o.n → AgreeD DF nt e1 a' → Inv γ o.e o.n o.s e1 → sat h' (asn γ o.s ++ L) → Ψ o.x.toExit a' h'
def meetO (a b : XO) : Option XO :=
  match XEx.eq a.x b.x with
  | true => match chkO (Nat.max a.n b.n) (meetE id a.e b.e) (meetS id a.s b.s) with
    | true => some ⟨a.x, meetE id a.e b.e, Nat.max a.n b.n, meetS id a.s b.s⟩
    | false => none
  | false => none
theorem meetO_ok {a b m : XO} {Ψ : Exit → Act → Heap → Prop} {β : As} {n : Nat} (h : meetO a b = some m) (hm : Goes DF L nt Ψ β n m) : Goes DF L nt Ψ β n a ∧ Goes DF L nt Ψ β n b := by
  unfold meetO at h
  split at h
  · rename_i hx
    split at h
    · rename_i hc
      cases h
      obtain ⟨c1, c2⟩ := chkO_ok hc
      have hx := XEx.eq_ok hx
      refine ⟨fun γ a' h' e1 ha hn hA hi hs => ?_, fun γ a' h' e1 ha hn hA hi hs => ?_⟩
      · obtain ⟨h1, h2⟩ := meet_left (σ := id) (e2 := b.e) (s := a.s) (s2 := b.s) (L := L) hi.ag
        exact hm γ a' h' e1 ha (Nat.le_trans hn (Nat.le_max_left _ _)) hA ⟨h1, c1, c2⟩ (h2.s hs)
      · obtain ⟨h1, h2⟩ := meet_right (σ := id) (e := a.e) (s := a.s) (s2 := b.s) (L := L) (fun i j h => h) hi.ag
        have e : γ.ren id = γ := ren_id (fun _ => rfl) γ
        rw [e] at h1 h2
        have := hm γ a' h' e1 ha (Nat.le_trans hn (Nat.le_max_right _ _)) hA ⟨h1, c1, c2⟩ (h2.s hs)
        rw [← hx]
        exact this
    · cases h
  · cases h
def meetL : List XO → List XO
  | [] => []
  | [a] => [a]
  | a :: b :: r => match meetL (b :: r) with
    | [] => [a]
    | m :: r' => match meetO a m with
      | some c => c :: r'
      | none => a :: m :: r'
theorem meetL_ne : ∀ (b : XO) (r : List XO), meetL (b :: r) ≠ []
  | b, [] => by simp [meetL]
  | b, c :: r => by
    simp only [meetL]
    split
    · simp
    · split <;> simp
theorem meetL_ok {Ψ : Exit → Act → Heap → Prop} {β : As} {n : Nat} : ∀ (l : List XO), (∀ o ∈ meetL l, Goes DF L nt Ψ β n o) → ∀ o ∈ l, Goes DF L nt Ψ β n o
  | [], _, o, ho => by cases ho
  | [a], h, o, ho => h o ho
  | a :: b :: r, h, o, ho => by
    simp only [meetL] at h
    have key : Goes DF L nt Ψ β n a ∧ ∀ o ∈ meetL (b :: r), Goes DF L nt Ψ β n o := by
      split at h
      · rename_i he; exact absurd he (meetL_ne b r)
      · rename_i m r' he
        split at h
        · rename_i c hc
          obtain ⟨h1, h2⟩ := meetO_ok hc (h c (List.mem_cons_self ..))
          refine ⟨h1, fun o ho => ?_⟩
          rw [he] at ho
          rcases List.mem_cons.1 ho with rfl | ho
          · exact h2
          · exact h o (List.mem_cons_of_mem _ ho)
        · refine ⟨h a (List.mem_cons_self ..), fun o ho => ?_⟩
          rw [he] at ho
          exact h o (List.mem_cons_of_mem _ ho)
    rcases List.mem_cons.1 ho with rfl | ho
    · exact key.1
    · exact meetL_ok (b :: r) key.2 o ho
def toOs : List XT → List XO
  | [] => []
  | y :: r => ⟨.norm, y.e, y.n, y.s⟩ :: toOs r
theorem toOs_mem : ∀ {l : List XT} {y : XT}, y ∈ l → ⟨.norm, y.e, y.n, y.s⟩ ∈ toOs l
  | x :: l, y, h => by
    rcases List.mem_cons.1 h with rfl | h
    · exact List.mem_cons_self ..
    · exact List.mem_cons_of_mem _ (toOs_mem h)
def xRegion (P : Program) (T2 : TypeId → Bool) (C : List Nat) (call : Nat → List XV → Nat → XSt → Option XR) (nt : Nat) (ops : Array Oper) (draw : Bool) (e : XEnv) (n : Nat) (s : XSt) : Option (List XO) :=
  match (match draw with
    | true => orderOK P ops (treeOf P ops true)
    | false => true) with
  | true => match xT P T2 C call nt ops draw (treeOf P ops draw) ⟨e, [], [], n, s⟩ with
    | some l => some (toOs l)
    | none => none
  | false => none
def xLoop (body : XEnv → Nat → XSt → Option (List XO)) : Nat → XEnv → Nat → XSt → Option (List XO)
  | 0, _, _, _ => none
  | f + 1, e, n, s => match body e n s with
    | some l => bindL (fun o => match o.x with
      | .norm => xLoop body f o.e o.n o.s
      | _ => some [o]) l
    | none => none
def outOf (id : Nat) (o : XO) : XO :=
  match o.x with
  | .exit i => match Nat.beq i id with
    | true => ⟨.norm, o.e, o.n, o.s⟩
    | false => o
  | _ => o
def xCode (P : Program) (T2 : TypeId → Bool) (C : List Nat) (call : Nat → List XV → Nat → XSt → Option XR) (nt lf : Nat) : Code → XEnv → Nat → XSt → Option (List XO)
  | .skip, e, n, s => some [⟨.norm, e, n, s⟩]
  | .label _, e, n, s => some [⟨.norm, e, n, s⟩]
  | .region _ ops draw, e, n, s => xRegion P T2 C call nt ops draw e n s
  | .seq a b, e, n, s => match xCode P T2 C call nt lf a e n s with
    | some l => bindL (fun o => match o.x with
      | .norm => xCode P T2 C call nt lf b o.e o.n o.s
      | _ => some [o]) l
    | none => none
  | .cond c a b, e, n, s => match xev e c with
    | some (.bool true) => xCode P T2 C call nt lf a e n s
    | some (.bool false) => xCode P T2 C call nt lf b e n s
    | _ => none
  | .block id a, e, n, s => match xCode P T2 C call nt lf a e n s with
    | some l => some (l.map (outOf id))
    | none => none
  | .loop a, e, n, s => match xLoop (xCode P T2 C call nt lf a) lf e n s with
    | some l => some (meetL l)
    | none => none
  | .scope a, e, n, s => xCode P T2 C call nt lf a e n s
  | .exit id, e, n, s => some [⟨.exit id, e, n, s⟩]
  | .ret, e, n, s => some [⟨.ret, e, n, s⟩]
  | _, _, _, _ => none
theorem Goes.trans {Ψ : Exit → Act → Heap → Prop} {β γ : As} {n m : Nat} {o : XO} (h : Goes DF L nt Ψ β n o) (ha : Agr n β γ) (hn : n ≤ m) : Goes DF L nt Ψ γ m o :=
  fun δ a' h' e1 hb hm hA hi hs => h δ a' h' e1 (ha.trans hb hn) (Nat.le_trans hn hm) hA hi hs
def CodeS (DF : List Deferred) (P : Program) (nt : Nat) (f : XEnv → Nat → XSt → Option (List XO)) (c : Code) : Prop :=
  ∀ (e : XEnv) (n : Nat) (s : XSt) (outs : List XO) (L : List Asn) (β : As) (a : Act) (h : Heap) (e0 : Env) (Ψ : Exit → Act → Heap → Prop), f e n s = some outs → AgreeD DF nt e0 a → Inv β e n s e0 → sat h (asn β s ++ L) → (∀ o ∈ outs, Goes DF L nt Ψ β n o) → HW P c a h Ψ
theorem xLoop_ok {body : XEnv → Nat → XSt → Option (List XO)} {c : Code} (hb : CodeS DF P nt body c) : ∀ f, ∀ (e : XEnv) (n : Nat) (s : XSt) (outs : List XO) (L : List Asn) (β : As) (a : Act) (h : Heap) (e0 : Env) (Ψ : Exit → Act → Heap → Prop), xLoop body f e n s = some outs → AgreeD DF nt e0 a → Inv β e n s e0 → sat h (asn β s ++ L) → (∀ o ∈ outs, Goes DF L nt Ψ β n o) →
    ∀ w0 w, w.heap = h → Same w0 w → Code.rounds P c (fun x a' w' => Same w0 w' ∧ Ψ x a' w'.heap) f a w
  | 0, e, n, s, outs, L, β, a, h, e0, Ψ, hx, hA, hI, hs, hk, w0, w, hw, hsm => by cases hx
  | f + 1, e, n, s, outs, L, β, a, h, e0, Ψ, hx, hA, hI, hs, hk, w0, w, hw, hsm => by
    simp only [xLoop] at hx
    split at hx
    · rename_i l hl
      rw [rounds_succ]
      have := hb e n s l L β a h e0 (fun ex a' h' => match ex with
        | .normal => ∀ w0 w, w.heap = h' → Same w0 w → Code.rounds P c (fun x a' w' => Same w0 w' ∧ Ψ x a' w'.heap) f a' w
        | ex => Ψ ex a' h') hl hA hI hs ?_
      · refine wp_mono (this w hw) ?_
        rintro ex a' w' ⟨hs', hq⟩
        cases ex with
        | normal => exact hq w0 w' rfl (hsm.trans hs')
        | exit id => exact ⟨hsm.trans hs', hq⟩
        | goto l => exact ⟨hsm.trans hs', hq⟩
        | ret => exact ⟨hsm.trans hs', hq⟩
        | panic ch => exact ⟨hsm.trans hs', hq⟩
        | outgrown => exact ⟨hsm.trans hs', hq⟩
      · intro o ho γ a' h' e1 ha hn hA' hi hs'
        obtain ⟨asZ, h1, h2⟩ := bindL_ok hx o ho
        cases hox : o.x with
        | norm =>
          simp only [hox] at h1
          simp only [XEx.toExit]
          exact xLoop_ok hb f o.e o.n o.s asZ L γ a' h' e1 Ψ h1 hA' hi hs' fun q hq => (hk q (h2 q hq)).trans ha hn
        | ret =>
          simp only [hox] at h1
          cases h1
          simp only [XEx.toExit]
          have := hk o (h2 o (List.mem_singleton.2 rfl)) γ a' h' e1 ha hn hA' hi hs'
          rw [hox] at this
          exact this
        | exit i =>
          simp only [hox] at h1
          cases h1
          simp only [XEx.toExit]
          have := hk o (h2 o (List.mem_singleton.2 rfl)) γ a' h' e1 ha hn hA' hi hs'
          rw [hox] at this
          exact this
    · cases hx
theorem xCode_ok (hT : T2OK P T2) (hC : CallS P call) (hm : P.follows .mixedOrders = true) (hCO : ∀ f, f ∈ C → CallOK P f) {lf : Nat} : ∀ c, CodeS DF P nt (xCode P T2 C call nt lf c) c := by
  intro c
  induction c with
  | skip =>
    intro e n s outs L β a h e0 Ψ hx hA hI hs hk w hw
    cases hx
    subst hw
    exact wp_skip ⟨Same.refl w, hk _ (List.mem_singleton.2 rfl) β a _ e0 Agr.rfl (Nat.le_refl _) hA hI hs⟩
  | label l =>
    intro e n s outs L β a h e0 Ψ hx hA hI hs hk w hw
    cases hx
    subst hw
    exact wp_label ⟨Same.refl w, hk _ (List.mem_singleton.2 rfl) β a _ e0 Agr.rfl (Nat.le_refl _) hA hI hs⟩
  | exit id =>
    intro e n s outs L β a h e0 Ψ hx hA hI hs hk w hw
    cases hx
    subst hw
    exact wp_exit ⟨Same.refl w, hk _ (List.mem_singleton.2 rfl) β a _ e0 Agr.rfl (Nat.le_refl _) hA hI hs⟩
  | ret =>
    intro e n s outs L β a h e0 Ψ hx hA hI hs hk w hw
    cases hx
    subst hw
    exact wp_ret ⟨Same.refl w, hk _ (List.mem_singleton.2 rfl) β a _ e0 Agr.rfl (Nat.le_refl _) hA hI hs⟩
  | region id ops draw =>
    intro e n s outs L β a h e0 Ψ hx hA hI hs hk
    simp only [xCode, xRegion] at hx
    split at hx
    · rename_i hok
      split at hx
      · rename_i l hl
        cases hx
        have hd := xT_ok (P := P) (L := L) (ρ := Unit) (Q := fun _ _ => True) (k := fun e' h' _ => ∃ o ∈ toOs l, ∃ γ, Agr n β γ ∧ n ≤ o.n ∧ Inv γ o.e o.n o.s e' ∧ sat h' (asn γ o.s ++ L) ∧ o.x = .norm) hT hC hCO (treeOf P ops draw) (dn0 := []) (e0 := e0) (β := β) hl ⟨hI, rfl, fun p hp => by cases hp⟩
          (fun y hy γ e1 ha hn hi h' hs' => ⟨_, toOs_mem hy, γ, ha, hn, hi, hs', rfl⟩) h hs
        refine region_of_lex hm (fun hdr => by subst hdr; exact hok) ?_
        refine LexT.imp ?_ _ _ _ _ (denT_lex hCO (Go.H.dstsOf ops.toList) (fun o s ho hs => dstsOf_mem _ o s (by simpa using ho) hs) e0 _ e0 [] [] [] a h hd (Ext.refl _ _) hA (fun t b ht => by cases ht) (fun _ p hp => by cases hp) (fun _ p hp => hp))
        rintro a' h' ⟨e', hA', -, o, ho, γ, ha, hn, hi, hs', hox⟩
        have := hk o ho γ a' h' e' ha hn hA' hi hs'
        rw [hox] at this
        exact this
      · cases hx
    · cases hx
  | seq x y ihx ihy =>
    intro e n s outs L β a h e0 Ψ hx hA hI hs hk
    simp only [xCode] at hx
    split at hx
    · rename_i l hl
      have h1 := ihx e n s l L β a h e0 (fun ex a' h' => match ex with | .normal => HW P y a' h' Ψ | ex => Ψ ex a' h') hl hA hI hs ?_
      · intro w hw
        refine wp_seq (wp_mono (h1 w hw) ?_)
        rintro ex a' w' ⟨hs, hq⟩
        cases ex with
        | normal => exact wp_mono (hq w' rfl) fun ex2 a2 w2 ⟨hs2, hq2⟩ => ⟨hs.trans hs2, hq2⟩
        | exit id => exact ⟨hs, hq⟩
        | goto l => exact ⟨hs, hq⟩
        | ret => exact ⟨hs, hq⟩
        | panic ch => exact ⟨hs, hq⟩
        | outgrown => exact ⟨hs, hq⟩
      · intro o ho γ a' h' e1 ha hn hA' hi hs'
        obtain ⟨asZ, h1, h2⟩ := bindL_ok hx o ho
        cases hox : o.x with
        | norm =>
          simp only [hox] at h1
          simp only [XEx.toExit]
          exact ihy o.e o.n o.s asZ L γ a' h' e1 Ψ h1 hA' hi hs' fun q hq => (hk q (h2 q hq)).trans ha hn
        | ret =>
          simp only [hox] at h1
          cases h1
          simp only [XEx.toExit]
          have := hk o (h2 o (List.mem_singleton.2 rfl)) γ a' h' e1 ha hn hA' hi hs'
          rw [hox] at this
          exact this
        | exit i =>
          simp only [hox] at h1
          cases h1
          simp only [XEx.toExit]
          have := hk o (h2 o (List.mem_singleton.2 rfl)) γ a' h' e1 ha hn hA' hi hs'
          rw [hox] at this
          exact this
    · cases hx
  | cond c x y ihx ihy =>
    intro e n s outs L β a h e0 Ψ hx hA hI hs hk w hw
    simp only [xCode] at hx
    split at hx
    · rename_i hc
      refine wp_cond (t := true) (hA.ev (xev_ok hI.ag hc)) ?_
      rw [if_pos rfl]
      exact ihx e n s outs L β a h e0 Ψ hx hA hI hs hk w hw
    · rename_i hc
      refine wp_cond (t := false) (hA.ev (xev_ok hI.ag hc)) ?_
      rw [if_neg (by simp)]
      exact ihy e n s outs L β a h e0 Ψ hx hA hI hs hk w hw
    · cases hx
  | block id x ih =>
    intro e n s outs L β a h e0 Ψ hx hA hI hs hk
    simp only [xCode] at hx
    split at hx
    · rename_i l hl
      cases hx
      have h1 := ih e n s l L β a h e0 (inBlk (some id) Ψ) hl hA hI hs ?_
      · intro w hw
        refine wp_block (wp_mono (h1 w hw) ?_)
        rintro ex a' w' ⟨hs, hq⟩
        cases ex with
        | exit id' =>
          simp only [inBlk] at hq
          simp only [Exit.inBlock]
          by_cases hid : id' = id
          · subst hid; rw [if_pos rfl] at hq ⊢; exact ⟨hs, hq⟩
          · rw [if_neg (by intro hh; cases hh; exact hid rfl)] at hq
            rw [if_neg hid]
            exact ⟨hs, hq⟩
        | normal => exact ⟨hs, hq⟩
        | goto l => exact ⟨hs, hq⟩
        | ret => exact ⟨hs, hq⟩
        | panic ch => exact ⟨hs, hq⟩
        | outgrown => exact ⟨hs, hq⟩
      · intro o ho γ a' h' e1 ha hn hA' hi hs'
        have hg := hk _ (List.mem_map_of_mem ho)
        cases hox : o.x with
        | norm =>
          have := hg γ a' h' e1
          simp only [outOf, hox] at this
          exact this ha hn hA' hi hs'
        | ret =>
          have := hg γ a' h' e1
          simp only [outOf, hox] at this
          exact this ha hn hA' hi hs'
        | exit i =>
          have := hg γ a' h' e1
          simp only [outOf, hox] at this
          simp only [XEx.toExit, inBlk]
          by_cases hid : some id = some i
          · cases hid
            rw [if_pos rfl]
            have hb : Nat.beq id id = true := Nat.beq_refl id
            simp only [hb] at this
            exact this ha hn hA' hi hs'
          · rw [if_neg hid]
            have hb : Nat.beq i id = false := by
              cases hb : Nat.beq i id with
              | false => rfl
              | true => exact absurd (by rw [Nat.eq_of_beq_eq_true hb]) hid
            simp only [hb, hox] at this
            exact this ha hn hA' hi hs'
    · cases hx
  | loop x ih =>
    intro e n s outs L β a h e0 Ψ hx hA hI hs hk w hw
    simp only [xCode] at hx
    split at hx
    · rename_i l hl
      cases hx
      exact wp_loop_rounds lf (xLoop_ok ih lf e n s l L β a h e0 Ψ hl hA hI hs (meetL_ok l hk) w w hw (Same.refl _))
    · cases hx
  | scope x ih =>
    intro e n s outs L β a h e0 Ψ hx hA hI hs hk w hw
    refine wp_scope_straight (wp_mono (ih e n s outs L β a h e0 (fun ex a' h' => match ex with | .goto _ => False | ex => Ψ ex a' h') hx hA hI hs (fun o ho γ a' h' e1 ha hn hA' hi hs' => ?_) w hw) ?_)
    · have := hk o ho γ a' h' e1 ha hn hA' hi hs'
      cases hox : o.x <;> rw [hox] at this <;> exact this
    · rintro ex a' w' ⟨hs, hq⟩
      cases ex with
      | goto l => exact hq.elim
      | exit id => exact ⟨hs, hq⟩
      | normal => exact ⟨hs, hq⟩
      | ret => exact ⟨hs, hq⟩
      | panic ch => exact ⟨hs, hq⟩
      | outgrown => exact ⟨hs, hq⟩
  | _ => intro e n s outs L β a h e0 Ψ hx; cases hx
end
end Go.X
namespace Go.X
open Go.H
set_option linter.unusedSimpArgs false
set_option linter.unusedVariables false
section
variable {P : Program} {T2 : TypeId → Bool} {C : List Nat}
def xRes (P : Program) (e : XEnv) (s : XSt) : List ResultVar → Option (List XV)
  | [] => some []
  | .tmp t :: rs => match e.get t with
    | some v => match xRes P e s rs with
      | some vs => some (v :: vs)
      | none => none
    | none => none
  | .cell t ty :: rs => match e.get t with
    | some x => match xLoad P ty s x with
      | some v => match xRes P e s rs with
        | some vs => some (v :: vs)
        | none => none
      | none => none
    | none => none
theorem xRes_ok {ρ : Type} {L : List Asn} {Q : ρ → Heap → Prop} {β : As} {e : XEnv} {s : XSt} {e0 : Env} (hE : EAg β e e0) : ∀ {rs : List ResultVar} {vs : List XV} {kk : List Value → HM ρ}, xRes P e s rs = some vs → W (asn β s ++ L) (kk (vals β vs)) Q → W (asn β s ++ L) (denRet P e0 rs kk) Q
  | [], vs, kk, h, hk => by cases h; exact hk
  | .tmp t :: rs, vs, kk, h, hk => by
    simp only [xRes] at h
    split at h
    · rename_i v hv
      split at h
      · rename_i us hus
        cases h
        simp only [denRet, hE t v hv]
        exact xRes_ok hE hus hk
      · cases h
    · cases h
  | .cell t ty :: rs, vs, kk, h, hk => by
    simp only [xRes] at h
    split at h
    · rename_i x hx
      split at h
      · rename_i v hv
        split at h
        · rename_i us hus
          cases h
          simp only [denRet, hE t x hx]
          exact xLoad_ok hv (xRes_ok hE hus hk)
        · cases h
      · cases h
    · cases h
def packX : List XV → XV
  | [v] => v
  | vs => .tup vs
theorem packX_ok (β : As) : ∀ vs, val β (packX vs) = packV (vals β vs)
  | [] => rfl
  | [v] => rfl
  | a :: b :: r => rfl
def xEnd (P : Program) (rs : List ResultVar) (o : XO) : Option XR :=
  match o.x with
  | .exit _ => none
  | _ => match xRes P o.e o.s rs with
    | some vs => match clos o.n vs with
      | true => some (packX vs, o.n, o.s)
      | false => none
    | none => none
def meetR (a b : XR) : Option XR :=
  match a, b with
  | (v, n, s), (u, m, t) => match xeq v u with
    | true => match (meetS id s t).every (cloK (Nat.max n m)) id with
      | true => some (v, Nat.max n m, meetS id s t)
      | false => none
    | false => none
def xEnds (P : Program) (rs : List ResultVar) : List XO → Option XR
  | [] => none
  | [o] => xEnd P rs o
  | o :: p :: r => match xEnd P rs o with
    | some a => match xEnds P rs (p :: r) with
      | some b => meetR a b
      | none => none
    | none => none
def GoesR (L : List Asn) (Q : Value → Heap → Prop) (β : As) (n : Nat) (r : XR) : Prop :=
  ∀ γ, Agr n β γ → n ≤ r.2.1 → CloS r.2.1 r.2.2 → At (asn γ r.2.2 ++ L) (Q (val γ r.1))
theorem meetR_ok {L : List Asn} {Q : Value → Heap → Prop} {β : As} {n : Nat} {a b m : XR} (h : meetR a b = some m) (hm : GoesR L Q β n m) : GoesR L Q β n a ∧ GoesR L Q β n b := by
  obtain ⟨v, n1, s⟩ := a
  obtain ⟨u, n2, t⟩ := b
  unfold meetR at h
  simp only at h
  split at h
  · rename_i hx
    split at h
    · rename_i hc
      cases h
      have hx := xeq_eq _ _ hx
      subst hx
      have hcs : CloS (Nat.max n1 n2) (meetS id s t) := fun k f hf => by
        have := get_every hc hf
        unfold cloK at this
        split at this
        · rename_i hb; exact ⟨by simpa using hb, this⟩
        · cases this
      refine ⟨fun γ ha hn hc' => ?_, fun γ ha hn hc' => ?_⟩
      · obtain ⟨-, h2⟩ := meet_left (σ := id) (γ := γ) (e := Tri.lf) (e2 := Tri.lf) (e0 := []) (s := s) (s2 := t) (L := L) (fun t v hv => by cases hv)
        exact At.sub (hm γ ha (Nat.le_trans hn (Nat.le_max_left _ _)) hcs) h2
      · obtain ⟨-, h2⟩ := meet_right (σ := id) (γ := γ) (e := Tri.lf) (e2 := Tri.lf) (e0 := []) (s := s) (s2 := t) (L := L) (fun i j h => h) (fun t v hv => by cases hv)
        have e : γ.ren id = γ := ren_id (fun _ => rfl) γ
        rw [e] at h2
        exact At.sub (hm γ ha (Nat.le_trans hn (Nat.le_max_right _ _)) hcs) h2
    · cases h
  · cases h
theorem xEnds_ok {L : List Asn} {Q : Value → Heap → Prop} {β : As} {n : Nat} {rs : List ResultVar} : ∀ {l : List XO} {r : XR}, xEnds P rs l = some r → GoesR L Q β n r → ∀ o ∈ l, ∃ a, xEnd P rs o = some a ∧ GoesR L Q β n a
  | [], r, h, hr, o, ho => by cases ho
  | [p], r, h, hr, o, ho => by rw [List.mem_singleton.1 ho]; exact ⟨r, h, hr⟩
  | p :: q :: l, r, h, hr, o, ho => by
    simp only [xEnds] at h
    split at h
    · rename_i a ha
      split at h
      · rename_i b hb
        obtain ⟨h1, h2⟩ := meetR_ok h hr
        rcases List.mem_cons.1 ho with rfl | ho
        · exact ⟨a, ha, h1⟩
        · exact xEnds_ok hb h2 o ho
      · cases h
    · cases h
def argE : List XV → Nat → XEnv → XEnv
  | [], _, e => e
  | v :: r, i, e => argE r (i + 1) (add i v e)
theorem argE_get : ∀ {l : List XV} {i : Nat} {e : XEnv} {t : Nat} {v : XV}, (argE l i e).get t = some v → (∃ j, t = i + j ∧ l[j]? = some v) ∨ e.get t = some v
  | [], i, e, t, v, h => .inr h
  | u :: r, i, e, t, v, h => by
    simp only [argE] at h
    rcases argE_get h with ⟨j, rfl, hj⟩ | h2
    · exact .inl ⟨j + 1, by omega, by simpa using hj⟩
    · clear h
      simp only [add] at h2
      rw [ins_get (i + 1) e i t u (Nat.lt_succ_self _)] at h2
      split at h2
      · rename_i ht; subst ht; cases h2; exact .inl ⟨0, rfl, rfl⟩
      · exact .inr h2
theorem zipIdx_get : ∀ (l : List Value) (i j : Nat) (v : Value), l[j]? = some v → Env.get ((l.zipIdx i).map fun (v, i) => (i, v)) (i + j) = some v
  | [], i, j, v, h => by simp at h
  | u :: l, i, 0, v, h => by
    simp only [List.zipIdx_cons, List.map_cons, Env.get]
    rw [show Nat.beq i (i + 0) = true from Nat.beq_refl i]
    simpa using h
  | u :: l, i, j + 1, v, h => by
    simp only [List.zipIdx_cons, List.map_cons, Env.get]
    have : Nat.beq i (i + (j + 1)) = false := by
      cases hb : Nat.beq i (i + (j + 1)) with
      | false => rfl
      | true => have := Nat.eq_of_beq_eq_true hb; omega
    rw [this]
    have := zipIdx_get l (i + 1) j v (by simpa using h)
    rwa [show i + 1 + j = i + (j + 1) from by omega] at this
theorem calls_of_HW {f : FuncId} {fn : Func} {c : Code} {args : List Value} {h : Heap} {Q : Value → Heap → Prop} (hf : P.funcs[f]? = some fn) (hc : fn.body = some c)
    (hd : HW P c { tmps := args.toArray ++ Array.replicate (fn.ntmps - args.toArray.size) undef, defers := [] } h (fun ex a' h' => match ex with
      | .normal => a'.defers = [] ∧ ∃ v, (∀ w', w'.heap = h' → (results fn a'.tmps).run P w' = .ok v w') ∧ Q v h'
      | .ret => a'.defers = [] ∧ ∃ v, (∀ w', w'.heap = h' → (results fn a'.tmps).run P w' = .ok v w') ∧ Q v h'
      | _ => False)) : HCalls P f args.toArray h Q := by
  intro w hw
  subst hw
  refine calls_of_wp hf hc ?_
  refine wp_mono (hd w rfl) ?_
  rintro ex a' w' ⟨hs, hq⟩
  cases ex with
  | normal =>
    obtain ⟨hdf, v, hv, hq⟩ := hq
    exact ⟨hdf, v, hv w' rfl, v, rfl, hs, hq⟩
  | ret =>
    obtain ⟨hdf, v, hv, hq⟩ := hq
    exact ⟨hdf, v, hv w' rfl, v, rfl, hs, hq⟩
  | exit id => exact hq.elim
  | goto l => exact hq.elim
  | panic ch => exact hq.elim
  | outgrown => exact hq.elim
def xBody (P : Program) (T2 : TypeId → Bool) (C : List Nat) (call : Nat → List XV → Nat → XSt → Option XR) (lf : Nat) (f : Nat) (args : List XV) (n : Nat) (s : XSt) : Option XR :=
  match P.funcs.toList[f]? with
  | some fn => match fn.body with
    | some c => match Nat.ble args.length fn.ntmps with
      | true => match xCode P T2 C call fn.ntmps lf c (argE args 0 .lf) n s with
        | some l => xEnds P fn.results.toList l
        | none => none
      | false => none
    | none => none
  | none => none
abbrev Hook := Nat → Option (List XV → Nat → XSt → Option XR)
def HookS (P : Program) (hook : Hook) : Prop :=
  ∀ f g, hook f = some g → ∀ args n s v n' s', g args n s = some (v, n', s') → CloS n s → clos n args = true → ∀ (β : As) (L : List Asn) (Q : Value → Heap → Prop), GoesR L Q β n (v, n', s') → FW P f (vals β args).toArray (asn β s ++ L) Q
theorem xBody_ok (hT : T2OK P T2) {call : Nat → List XV → Nat → XSt → Option XR} (hC : CallS P call) (hm : P.follows .mixedOrders = true) (hCO : ∀ f, f ∈ C → CallOK P f) {lf f n : Nat} {args : List XV} {s : XSt} {r : XR} (h : xBody P T2 C call lf f args n s = some r) (hcl : CloS n s) (hca : clos n args = true)
    (β : As) (L : List Asn) (Q : Value → Heap → Prop) (hk : GoesR L Q β n r) : FW P f (vals β args).toArray (asn β s ++ L) Q := by
  unfold xBody at h
  split at h
  · rename_i fn hf
    split at h
    · rename_i c hc
      split at h
      · rename_i hlen
        split at h
        · rename_i l hl
          intro h0 hs
          have hf' : P.funcs[f]? = some fn := by simpa using hf
          refine calls_of_HW hf' hc ?_
          have hle := Nat.le_of_ble_eq_true hlen
          have hlv : (vals β args).length = args.length := vals_len β args
          have hA : Agree fn.ntmps ((vals β args).zipIdx.map fun (v, i) => (i, v)) { tmps := (vals β args).toArray ++ Array.replicate (fn.ntmps - (vals β args).toArray.size) undef, defers := [] } := by
            refine ⟨by simp [hlv]; omega, rfl, fun t v ht => ?_⟩
            obtain ⟨-, h2⟩ := get_args (vals β args) 0 t v ht
            simp only [Nat.sub_zero] at h2
            have hlt : t < (vals β args).length := by
              rcases Nat.lt_or_ge t (vals β args).length with hh | hh
              · exact hh
              · rw [List.getElem?_eq_none hh] at h2; cases h2
            simp [Array.getElem?_append, hlt, h2]
            rw [List.getElem?_eq_getElem hlt] at h2
            exact Option.some.inj h2
          refine xCode_ok hT hC hm hCO c _ n s l L β _ h0 _ _ hl hA ⟨fun t v hv => ?_, fun t v hv => ?_, hcl⟩ hs fun o ho γ a' h' e1 ha hn hA' hi hs' => ?_
          · rcases argE_get hv with ⟨j, rfl, hj⟩ | hv
            · exact zipIdx_get _ 0 j _ (vals_get hj)
            · cases hv
          · rcases argE_get hv with ⟨j, rfl, hj⟩ | hv
            · exact clos_iff.1 hca v (List.mem_of_getElem? hj)
            · cases hv
          · obtain ⟨a, h1, h2⟩ := xEnds_ok h hk o ho
            unfold xEnd at h1
            have fin : ∀ vs, xRes P o.e o.s fn.results.toList = some vs → clos o.n vs = true → (packX vs, o.n, o.s) = a → a'.defers = [] ∧ ∃ v, (∀ w', w'.heap = h' → (results fn a'.tmps).run P w' = .ok v w') ∧ Q v h' := by
              intro vs hvs hcv e
              subst e
              have hd := xRes_ok (P := P) (L := L) (ρ := Unit) (Q := fun _ _ => True) (kk := fun us h2 _ => us = vals γ vs ∧ sat h2 (asn γ o.s ++ L)) hi.ag hvs (fun h2 hs2 => ⟨rfl, hs2⟩) h' hs'
              obtain ⟨us, hres, rfl, -⟩ := denRet_sound hA' _ _ hd
              refine ⟨hA'.defers, packV (vals γ vs), fun w' hw' => by subst hw'; exact results_run hres, ?_⟩
              have := h2 γ ha hn hi.cs h' hs'
              simp only [packX_ok] at this
              exact this
            cases hox : o.x with
            | exit i => simp only [hox] at h1; cases h1
            | norm =>
              simp only [hox] at h1
              simp only [XEx.toExit]
              split at h1
              · rename_i vs hvs
                split at h1
                · rename_i hcv; cases h1; exact fin vs hvs hcv rfl
                · cases h1
              · cases h1
            | ret =>
              simp only [hox] at h1
              simp only [XEx.toExit]
              split at h1
              · rename_i vs hvs
                split at h1
                · rename_i hcv; cases h1; exact fin vs hvs hcv rfl
                · cases h1
              · cases h1
        · cases h
      · cases h
    · cases h
  · cases h
end
end Go.X
namespace Go.X
open Go.H
set_option linter.unusedSimpArgs false
set_option linter.unusedVariables false
section
variable {P : Program} {T2 : TypeId → Bool} {C : List Nat}
def defParts (c : Code) : Option (Array Oper × Array Oper × Code) :=
  match c with
  | .seq (.region _ o1 false) (.seq (.region _ o2 false) rest) => some (o1, o2, rest)
  | _ => none
def defOps (l : List Oper) : Option (Nat × List Operand × Nat) :=
  match l with
  | [a, b] => match a.guard, b.guard, a.dst, b.dst with
    | none, none, some t, none => match a.op, b.op with
      | .makeFunc (.func g) first cap, .defer c => match first.toList, c.callee, c.args.toList with
        | [], .value (.tmp t'), [] => match Nat.beq t t' with
          | true => some (g, cap.toList, t)
          | false => none
        | _, _, _ => none
      | _, _ => none
    | _, _, _, _ => none
  | _ => none
def offD (g : Nat) (caps : Array Value) : Deferred := { target := .fn (.func g) caps, args := #[] }
theorem HW_defer {id : Nat} {ops : Array Oper} {g t : Nat} {cap : List Operand} {a : Act} {h : Heap} {Ψ : Exit → Act → Heap → Prop} (hd : defOps ops.toList = some (g, cap, t)) (ht : t < a.tmps.size)
    (hk : Ψ .normal { (a.put (some t) (.func (.func g) #[] (cap.map a.eval).toArray)) with defers := offD g (cap.map a.eval).toArray :: a.defers } h) : HW P (.region id ops false) a h Ψ := by
  intro w hw
  subst hw
  unfold defOps at hd
  split at hd
  · rename_i x y hops
    split at hd
    · rename_i t0 hg1 hg2 hd1 hd2
      split at hd
      · rename_i g' first cap' c ho1 ho2
        split at hd
        · rename_i t' hf hc ha
          split at hd
          · rename_i hb
            cases hd
            have hb := Nat.eq_of_beq_eq_true hb
            subst hb
            have e0 : ops = #[x, y] := Array.toList_inj.1 hops
            subst e0
            have hf' : first = #[] := Array.toList_inj.1 hf
            have ha' : c.args = #[] := Array.toList_inj.1 ha
            subst hf'
            refine wp_region ?_
            have e1 : (List.range (#[x, y] : Array Oper).size) = [0, 1] := rfl
            rw [e1]
            simp only [wpOps, show (#[x, y] : Array Oper)[0]? = some x from rfl, show (#[x, y] : Array Oper)[1]? = some y from rfl]
            rw [if_pos (by simp [Region.wanted, hg1])]
            refine .inl ?_
            unfold Oper.wp
            have r1 : (execOp a.eval x).run P w = .ok (.value (.func (.func g) #[] (cap'.map a.eval))) w := by
              simp [execOp, ho1, Instr.makeFunc]
            rw [r1, Oper.upon_value, hd1]
            rw [if_pos (by simp [Region.wanted, hg2])]
            refine .inl ?_
            have hev : (a.put (some t) (.func (.func g) #[] (cap'.map a.eval))).eval (.tmp t) = .func (.func g) #[] (cap'.map a.eval) := by
              simp [Act.eval, Act.put, ht]
            have r2 : (execOp (a.put (some t) (.func (.func g) #[] (cap'.map a.eval))).eval y).run P w = .ok (.defer (offD g (cap'.map a.eval))) w := by
              simp [execOp, ho2, resolve, hc, hev, ha', offD, Deferred.ofValue]
            rw [r2, Oper.upon_defer, hd2]
            refine ⟨Same.refl w, ?_⟩
            have e2 : (cap'.toList.map a.eval).toArray = cap'.map a.eval := Array.toList_inj.1 (by rw [Array.toList_map])
            rw [e2] at hk
            exact hk
          · cases hd
        · cases hd
      · cases hd
    · cases hd
  · cases hd
def IdleS (P : Program) (idle : Nat → Bool) : Prop :=
  ∀ g, idle g = true → CallOK P g ∧ ∀ (caps : Array Value) (w : World), caps.size = 2 → CallsD P g caps .returning w fun e u' w' => (∃ v, e = .returned v) ∧ u' = .returning ∧ w' = w
def xDefer (P : Program) (T2 : TypeId → Bool) (C : List Nat) (call : Nat → List XV → Nat → XSt → Option XR) (idle : Nat → Bool) (lf : Nat) (f : Nat) (args : List XV) (n : Nat) (s : XSt) : Option XR :=
  match P.funcs.toList[f]? with
  | some fn => match fn.body with
    | some c => match defParts c with
      | some (o1, o2, rest) => match Nat.ble args.length fn.ntmps with
        | true => match xCode P T2 C call fn.ntmps lf (.region 0 o1 false) (argE args 0 .lf) n s with
          | some [o] => match o.x with
            | .norm => match defOps o2.toList with
              | some (g, cap, t) => match idle g with
                | true => match Nat.blt t fn.ntmps with
                  | true => match xevs o.e cap with
                    | some us => match clos o.n us with
                      | true => match Nat.beq us.length 2 with
                        | true => match xCode P T2 C call fn.ntmps lf rest (xSet o.e (some t) (.func g [] us)) o.n o.s with
                          | some l => xEnds P fn.results.toList l
                          | none => none
                        | false => none
                      | false => none
                    | none => none
                  | false => none
                | false => none
              | none => none
            | _ => none
          | _ => none
        | false => none
      | none => none
    | none => none
  | none => none
theorem leaves_idle {idle : Nat → Bool} (hid : IdleS P idle) {g : Nat} (hg : idle g = true) {fn : Func} {tmps : Array Value} {R : Ending → World → Prop} {caps : Array Value} (hcp : caps.size = 2) {w : World} {v : Value} (hr : (results fn tmps).run P w = .ok v w) (hR : R (.returned v) w) :
    Leaves P fn tmps R [offD g caps] .returning w := by
  obtain ⟨h1, h2⟩ := hid g hg
  refine leaves_cons (f := g) (args := #[] ++ caps) (by simp) (h1 _ w) ((h2 _ w (by simpa using hcp)).mono ?_)
  rintro e u' w' ⟨⟨v', rfl⟩, rfl, rfl⟩
  exact ⟨v, hr, hR⟩
theorem calls_of_HWD {idle : Nat → Bool} (hid : IdleS P idle) {g : Nat} (hg : idle g = true) {f : FuncId} {fn : Func} {c : Code} {args : List Value} {h : Heap} {Q : Value → Heap → Prop} (hf : P.funcs[f]? = some fn) (hc : fn.body = some c)
    (hd : HW P c { tmps := args.toArray ++ Array.replicate (fn.ntmps - args.toArray.size) undef, defers := [] } h (fun ex a' h' => match ex with
      | .normal => (∃ caps, caps.size = 2 ∧ a'.defers = [offD g caps]) ∧ ∃ v, (∀ w', w'.heap = h' → (results fn a'.tmps).run P w' = .ok v w') ∧ Q v h'
      | .ret => (∃ caps, caps.size = 2 ∧ a'.defers = [offD g caps]) ∧ ∃ v, (∀ w', w'.heap = h' → (results fn a'.tmps).run P w' = .ok v w') ∧ Q v h'
      | _ => False)) : HCalls P f args.toArray h Q := by
  intro w hw
  subst hw
  refine calls_of_wp_defers hf hc ?_
  refine wp_mono (hd w rfl) ?_
  rintro ex a' w' ⟨hs, hq⟩
  cases ex with
  | normal =>
    obtain ⟨⟨caps, hcp, hdf⟩, v, hv, hq⟩ := hq
    simp only [bodyPostD, hdf]
    exact leaves_idle hid hg hcp (hv w' rfl) ⟨v, rfl, hs, hq⟩
  | ret =>
    obtain ⟨⟨caps, hcp, hdf⟩, v, hv, hq⟩ := hq
    simp only [bodyPostD, hdf]
    exact leaves_idle hid hg hcp (hv w' rfl) ⟨v, rfl, hs, hq⟩
  | exit id => exact hq.elim
  | goto l => exact hq.elim
  | panic ch => exact hq.elim
  | outgrown => exact hq.elim
theorem HW_seq {x y : Code} {a : Act} {h : Heap} {Ψ : Exit → Act → Heap → Prop} (h1 : HW P x a h (fun ex a' h' => match ex with | .normal => HW P y a' h' Ψ | ex => Ψ ex a' h')) : HW P (.seq x y) a h Ψ := by
  intro w hw
  refine wp_seq (wp_mono (h1 w hw) ?_)
  rintro ex a' w' ⟨hs, hq⟩
  cases ex with
  | normal => exact wp_mono (hq w' rfl) fun ex2 a2 w2 ⟨hs2, hq2⟩ => ⟨hs.trans hs2, hq2⟩
  | exit id => exact ⟨hs, hq⟩
  | goto l => exact ⟨hs, hq⟩
  | ret => exact ⟨hs, hq⟩
  | panic ch => exact ⟨hs, hq⟩
  | outgrown => exact ⟨hs, hq⟩
theorem xDefer_ok (hT : T2OK P T2) {call : Nat → List XV → Nat → XSt → Option XR} (hC : CallS P call) (hm : P.follows .mixedOrders = true) (hCO : ∀ f, f ∈ C → CallOK P f) {idle : Nat → Bool} (hid : IdleS P idle) {lf f n : Nat} {args : List XV} {s : XSt} {r : XR} (h : xDefer P T2 C call idle lf f args n s = some r) (hcl : CloS n s) (hca : clos n args = true)
    (β : As) (L : List Asn) (Q : Value → Heap → Prop) (hk : GoesR L Q β n r) : FW P f (vals β args).toArray (asn β s ++ L) Q := by
  unfold xDefer at h
  split at h
  · rename_i fn hf
    split at h
    · rename_i c hc
      split at h
      · rename_i o1 o2 rest hp
        split at h
        · rename_i hlen
          split at h
          · rename_i o hl1
            split at h
            · rename_i hox
              split at h
              · rename_i g cap t hdo
                split at h
                · rename_i hg
                  split at h
                  · rename_i htb
                    split at h
                    · rename_i us hus
                      split at h
                      · rename_i huc
                        split at h
                        case h_2 => cases h
                        rename_i hul
                        have hul := Nat.eq_of_beq_eq_true hul
                        split at h
                        · rename_i l hl
                          intro h0 hs
                          obtain ⟨i1, i2, rfl⟩ : ∃ i1 i2, c = .seq (.region i1 o1 false) (.seq (.region i2 o2 false) rest) := by
                            unfold defParts at hp
                            split at hp
                            · cases hp; exact ⟨_, _, rfl⟩
                            · cases hp
                          have hf' : P.funcs[f]? = some fn := by simpa using hf
                          refine calls_of_HWD hid hg hf' hc ?_
                          have hle := Nat.le_of_ble_eq_true hlen
                          have hlv : (vals β args).length = args.length := vals_len β args
                          have hA : Agree fn.ntmps ((vals β args).zipIdx.map fun (v, i) => (i, v)) { tmps := (vals β args).toArray ++ Array.replicate (fn.ntmps - (vals β args).toArray.size) undef, defers := [] } := by
                            refine ⟨by simp [hlv]; omega, rfl, fun t v ht => ?_⟩
                            obtain ⟨-, h2⟩ := get_args (vals β args) 0 t v ht
                            simp only [Nat.sub_zero] at h2
                            have hlt : t < (vals β args).length := by
                              rcases Nat.lt_or_ge t (vals β args).length with hh | hh
                              · exact hh
                              · rw [List.getElem?_eq_none hh] at h2; cases h2
                            simp [Array.getElem?_append, hlt, h2]
                            rw [List.getElem?_eq_getElem hlt] at h2
                            exact Option.some.inj h2
                          refine HW_seq ?_
                          refine xCode_ok (lf := lf) hT hC hm hCO (.region i1 o1 false) _ n s [o] L β _ h0 _ _ hl1 hA ⟨fun t v hv => ?_, fun t v hv => ?_, hcl⟩ hs fun o' ho γ a' h' e1 ha hn hA' hi hs' => ?_
                          · rcases argE_get hv with ⟨j, rfl, hj⟩ | hv
                            · exact zipIdx_get _ 0 j _ (vals_get hj)
                            · cases hv
                          · rcases argE_get hv with ⟨j, rfl, hj⟩ | hv
                            · exact clos_iff.1 hca v (List.mem_of_getElem? hj)
                            · cases hv
                          · rw [List.mem_singleton.1 ho] at *
                            rw [hox]
                            simp only [XEx.toExit]
                            refine HW_seq ?_
                            have htn : t < fn.ntmps := by simpa using htb
                            have hev := xevs_ok hi.ag hus
                            have hev2 : cap.map a'.eval = vals γ us := hA'.evs hev
                            refine HW_defer hdo (by rw [hA'.size]; exact htn) ?_
                            rw [hev2]
                            have hfv : Value.func (.func g) #[] (vals γ us).toArray = val γ (.func g [] us) := rfl
                            rw [hfv]
                            have hA2 : AgreeD [offD g (vals γ us).toArray] fn.ntmps (e1.put (some t) (val γ (.func g [] us))) { (a'.put (some t) (val γ (.func g [] us))) with defers := offD g (vals γ us).toArray :: a'.defers } := by
                              have h3 := hA'.put (dst := some t) (fun s hs => by cases hs; exact htn) (val γ (.func g [] us))
                              refine ⟨h3.size, ?_, h3.get⟩
                              show _ :: a'.defers = _
                              rw [hA'.defers]
                            refine xCode_ok hT hC hm hCO rest _ o.n o.s l L γ _ h' _ _ hl hA2 ⟨hi.ag.set (some t) _, cloE_set' hi.ce (Nat.le_refl _) (by simp only [clo, clos]; exact huc), hi.cs⟩ hs' fun o2' ho2 δ a2 h2 e2 hb hn2 hA3 hi2 hs2 => ?_
                            obtain ⟨a3, h1, h22⟩ := xEnds_ok h hk o2' ho2
                            unfold xEnd at h1
                            have fin : ∀ vs, xRes P o2'.e o2'.s fn.results.toList = some vs → clos o2'.n vs = true → (packX vs, o2'.n, o2'.s) = a3 → (∃ caps, caps.size = 2 ∧ a2.defers = [offD g caps]) ∧ ∃ v, (∀ w', w'.heap = h2 → (results fn a2.tmps).run P w' = .ok v w') ∧ Q v h2 := by
                              intro vs hvs hcv e
                              subst e
                              have hd := xRes_ok (P := P) (L := L) (ρ := Unit) (Q := fun _ _ => True) (kk := fun us h2 _ => us = vals δ vs ∧ sat h2 (asn δ o2'.s ++ L)) hi2.ag hvs (fun h2 hs2 => ⟨rfl, hs2⟩) h2 hs2
                              obtain ⟨us', hres, rfl, -⟩ := denRet_sound hA3 _ _ hd
                              refine ⟨⟨_, by simp [vals_len, hul], hA3.defers⟩, packV (vals δ vs), fun w' hw' => by subst hw'; exact results_run hres, ?_⟩
                              have := h22 δ (ha.trans hb hn) (Nat.le_trans hn hn2) hi2.cs h2 hs2
                              simp only [packX_ok] at this
                              exact this
                            cases hox2 : o2'.x with
                            | exit i => simp only [hox2] at h1; cases h1
                            | norm =>
                              simp only [hox2] at h1
                              simp only [XEx.toExit]
                              split at h1
                              · rename_i vs hvs
                                split at h1
                                · rename_i hcv; cases h1; exact fin vs hvs hcv rfl
                                · cases h1
                              · cases h1
                            | ret =>
                              simp only [hox2] at h1
                              simp only [XEx.toExit]
                              split at h1
                              · rename_i vs hvs
                                split at h1
                                · rename_i hcv; cases h1; exact fin vs hvs hcv rfl
                                · cases h1
                              · cases h1
                        · cases h
                      · cases h
                    · cases h
                  · cases h
                · cases h
              · cases h
            · cases h
          · cases h
        · cases h
      · cases h
    · cases h
  · cases h
structure XCfg where
  hook : Hook
  offs : Nat → Bool
  idle : Nat → Bool
def told (o : Option (List XV → Nat → XSt → Option XR)) (args : List XV) (n : Nat) (s : XSt) : Option XR :=
  match o with
  | some g => g args n s
  | none => none
def xCall (P : Program) (T2 : TypeId → Bool) (C : List Nat) (G : XCfg) (lf : Nat) : Nat → Nat → List XV → Nat → XSt → Option XR
  | 0, _, _, _, _ => none
  | k + 1, f, args, n, s => match clos n args with
    | true => match told (G.hook f) args n s with
      | some r => some r
      | none => match G.offs f with
        | false => xBody P T2 C (xCall P T2 C G lf k) lf f args n s
        | true => xDefer P T2 C (xCall P T2 C G lf k) G.idle lf f args n s
    | false => none
theorem xCall_all (hT : T2OK P T2) (hm : P.follows .mixedOrders = true) (hCO : ∀ f, f ∈ C → CallOK P f) {G : XCfg} (hH : HookS P G.hook) (hid : IdleS P G.idle) {lf : Nat} : ∀ k, CallS P (xCall P T2 C G lf k)
  | 0 => fun f args n s v n' s' h => by cases h
  | k + 1 => fun f args n s v n' s' h hcl β L Q hq => by
    simp only [xCall] at h
    split at h
    · rename_i hca
      split at h
      · rename_i r hr
        cases h
        unfold told at hr
        split at hr
        · rename_i g hg
          exact hH f g hg args n s v n' s' hr hcl hca β L Q hq
        · cases hr
      · split at h
        · exact xBody_ok hT (xCall_all hT hm hCO hH hid k) hm hCO h hcl hca β L Q hq
        · exact xDefer_ok hT (xCall_all hT hm hCO hH hid k) hm hCO hid h hcl hca β L Q hq
    · cases h
end
end Go.X
namespace Go.Proofs.YtkpjgmdaolohiaaGreatDoor
set_option linter.unusedSimpArgs false
set_option linter.unusedVariables false
open Go.Proofs Go.Shelf
def joinL_ren : Go.Shelf.Ren := ⟨fun n => match n with | 156 => 228 | 165 => 247 | 166 => 157 | 169 => 35 | 240 => 197 | 241 => 254 | 276 => 227 | 277 => 256 | n => n, fun n => match n with | 31 => 55 | 9 => 9 | 3 => 3 | 4 => 4 | 0 => 0 | 20 => 20 | 72 => 101 | 76 => 253 | 70 => 98 | 37 => 99 | 75 => 252 | 127 => 150 | 164 => 312 | 5 => 5 | 80 => 111 | n => n, fun n => n⟩
theorem joinL : Lays.n156 Tryz.prog joinL_ren where
  mixed := by kernel_rfl
  f156 := Tryz.func228.trans (congrArg some (by kernel_rfl))
  f165 := Tryz.func247.trans (congrArg some (by kernel_rfl))
  f166 := Tryz.func157.trans (congrArg some (by kernel_rfl))
  f169 := Tryz.func35.trans (congrArg some (by kernel_rfl))
  f240 := Tryz.func197.trans (congrArg some (by kernel_rfl))
  f241 := Tryz.func254.trans (congrArg some (by kernel_rfl))
  f276 := Tryz.func227.trans (congrArg some (by kernel_rfl))
  f277 := Tryz.func256.trans (congrArg some (by kernel_rfl))
  t0 := Tryz.underlying0
  a0 := Tryz.isAgg0
  z0 := Tryz.sizeOf0
  v0 := Tryz.zeroValue0
  t3 := Tryz.underlying3
  a3 := Tryz.isAgg3
  z3 := Tryz.sizeOf3
  v3 := Tryz.zeroValue3
  t4 := Tryz.underlying4
  a4 := Tryz.isAgg4
  z4 := Tryz.sizeOf4
  v4 := Tryz.zeroValue4
  t9 := Tryz.underlying9
  a9 := Tryz.isAgg9
  z9 := Tryz.sizeOf9
  v9 := Tryz.zeroValue9
  t20 := Tryz.underlying20
  a20 := Tryz.isAgg20
  z20 := Tryz.sizeOf20
  v20 := Tryz.zeroValue20
  t31 := Tryz.underlying55
  a31 := Tryz.isAgg55
  z31 := Tryz.sizeOf55
  v31 := Tryz.zeroValue55
  t37 := Tryz.underlying99
  a37 := Tryz.isAgg99
  z37 := Tryz.sizeOf99
  v37 := Tryz.zeroValue99
  t70 := Tryz.underlying98
  a70 := Tryz.isAgg98
  z70 := Tryz.sizeOf98
  v70 := Tryz.zeroValue98
  t72 := Tryz.underlying101
  a72 := Tryz.isAgg101
  z72 := Tryz.sizeOf101
  v72 := Tryz.zeroValue101
  t75 := Tryz.underlying252
  a75 := Tryz.isAgg252
  z75 := Tryz.sizeOf252
  v75 := Tryz.zeroValue252
  t76 := Tryz.underlying253
  a76 := Tryz.isAgg253
  z76 := Tryz.sizeOf253
  v76 := Tryz.zeroValue253
  t127 := Tryz.underlying150
  a127 := Tryz.isAgg150
  z127 := Tryz.sizeOf150
  v127 := Tryz.zeroValue150
  t164 := Tryz.underlying312
  a164 := Tryz.isAgg312
  z164 := Tryz.sizeOf312
  v164 := Tryz.zeroValue312
theorem joinX : Builder.Extra Tryz.prog joinL_ren where
  sizeBuilder := by kernel_rfl
  liesBuilder := by kernel_rfl
  t5 := Tryz.underlying5
  a5 := Tryz.isAgg5
  z5 := Tryz.sizeOf5
  v5 := Tryz.zeroValue5
  infoByte := by kernel_rfl
  cellsByte := by kernel_rfl
  sizeByte := by kernel_rfl
  neB5 := by decide
end Go.Proofs.YtkpjgmdaolohiaaGreatDoor
namespace Go.Proofs.YtkpjgmdaolohiaaGreatDoor
open Go.Shelf Go.RowKit Go.Proofs
set_option linter.unusedVariables false
set_option linter.unusedSimpArgs false
section
variable {P : Program} {ρ : Ren}
set_option maxHeartbeats 1000000 in
set_option maxRecDepth 100000 in
theorem check_part (L : Lays.n240 P ρ) (X : Builder.X72 P ρ) {b n : Nat} {E : TypeId} {w : World} (h0 : w.cell? ⟨b, 0, none⟩ = some (.pointer none)) (hsh : w.shape? b = some (E, n)) (hn : 0 < n) (hl : liesAt P P.depth E (n / P.cellsOf E) 0 (ρ.t 72) 1 = true) (hfz : w.frozen? ⟨b, 0, none⟩ = false) :
    Calls P (ρ.f 240) #[.pointer (some ⟨b, 0, none⟩)] w fun e w' => e = .returned (.tuple #[]) ∧ w' = w.setCell ⟨b, 0, none⟩ (.pointer (some ⟨b, 0, none⟩)) := by
  obtain ⟨j, hj, hjs⟩ := Option.map_eq_some_iff.1 X.sizeBuilder
  have mixed := L.mixed
  have v72 := L.v72; have u72 := run_underlying L.t72; have z72 := L.z72; have a72 := L.a72; have t72 := L.t72
  have v70 := L.v70; have u70 := run_underlying L.t70; have z70 := L.z70; have a70 := L.a70; have t70 := L.t70
  have v9 := L.v9; have u9 := run_underlying L.t9; have z9 := L.z9; have a9 := L.a9; have t9 := L.t9
  have v4 := L.v4; have u4 := run_underlying L.t4; have z4 := L.z4; have a4 := L.a4; have t4 := L.t4
  have v164 := L.v164; have u164 := run_underlying L.t164; have z164 := L.z164; have a164 := L.a164; have t164 := L.t164
  go_enter L.f240, Body.n240_ntmps ρ
  go_wp2
  rw [Lib.run_to_unsafe w ⟨b, 0, none⟩ L.t70 L.t164 hj (by rw [hjs]; decide) hsh hn]
  simp only [Result.andThen]
  rw [Oper.upon_value]
  go_wp2
  rw [run_callFunc_extern L.f276 (by kernel_rfl) (by kernel_rfl) (by kernel_rfl) (e := Extern.AbiNoEscape.same) (by kernel_rfl), Lib.run_noEscape]
  simp only [Result.andThen]
  rw [Oper.upon_value]
  go_wp2
  rw [Lib.run_from_unsafe w ⟨b, 0, none⟩ L.t164 L.t70 hj hsh hl]
  simp only [Result.andThen]
  rw [Oper.upon_value]
  go_wp2
  go_end0
  exact ⟨rfl, rfl⟩
end
end Go.Proofs.YtkpjgmdaolohiaaGreatDoor
namespace Go.Proofs.YtkpjgmdaolohiaaGreatDoor
open Go.Shelf Go.RowKit Go.Proofs
set_option linter.unusedVariables false
set_option linter.unusedSimpArgs false
section
variable {P : Program} {ρ : Ren}
def ButOne (g : Nat) (w w' : World) : Prop := w'.os = w.os ∧ w'.tape = w.tape ∧ w'.output = w.output ∧ ∀ k, k ≠ g → w'.heap[k]? = w.heap[k]?
theorem butOne_freeze (w : World) (a : Addr) (n : Nat) : ButOne a.block w (w.drew.freeze a n) := by
  unfold World.freeze
  split
  · exact ⟨rfl, rfl, rfl, fun _ _ => rfl⟩
  · refine ⟨rfl, rfl, rfl, fun k hk => ?_⟩
    simp only [Array.getElem?_modify]
    rw [if_neg (fun e => hk e.symm)]
    rfl
set_option maxHeartbeats 2000000 in
set_option maxRecDepth 100000 in
theorem text_keep (L : Lays.n169 P ρ) (X : Builder.Extra P ρ) {b g cap : Nat} {cur : Array Value} {l : List UInt8} {w : World} (h0 : l ≠ []) (hc : w.cell? ⟨b, 1, none⟩ = some (.slice (some ⟨g, 0, none⟩) l.length cap))
    (hg : w.heap[g]? = some (.cells cur (ρ.t 5) (0, 0))) (hnc : l.length ≤ cap) (hcm : cap ≤ 9223372036854775807) (hcs : cur.size = cap) (hb : ∀ j (x : UInt8), l[j]? = some x → w.cell? ((⟨g, 0, none⟩ : Addr).add j) = some (.int .u8 x.toNat)) :
    Calls P (ρ.f 169) #[.pointer (some ⟨b, 0, none⟩)] w fun e w' => e = .returned (.string ⟨l.toArray⟩) ∧ ButOne g w w' := by
  have hl0 : l.length ≠ 0 := by simpa using h0
  have c1 : w.drew.cell? ⟨b, 1, none⟩ = some (.slice (some ⟨g, 0, none⟩) l.length cap) := hc
  have hSD : (Builtin.unsafeSliceData_ #[(ρ.t 37)] (ρ.t 127) #[.slice (some ⟨g, 0, none⟩) l.length cap]).run P w.drew = .ok (.pointer (some ⟨g, 0, none⟩)) w.drew :=
    Lib.run_unsafeSliceData_row _ _ _ _ _ _ (by omega)
  have hUS : (Builtin.unsafeString_ #[(ρ.t 127), (ρ.t 3)] (ρ.t 9) #[.pointer (some ⟨g, 0, none⟩), .int .i64 l.length]).run P w.drew = .ok (.string ⟨l.toArray⟩) (w.drew.freeze ⟨g, 0, none⟩ l.length) := by
    have hg' : w.drew.heap[g]? = some (.cells cur (ρ.t 5) (0, 0)) := hg
    exact Lib.run_unsafeString_row w.drew (ρ.t 127) (ρ.t 3) (ρ.t 9) (ρ.t 5) L.t127 X.cellsByte g cur.size (by simp [World.shape?, hg']) l h0 (by omega) (by omega) hb
  have mixed := L.mixed
  have v72 := L.v72; have u72 := run_underlying L.t72; have z72 := L.z72; have a72 := L.a72; have t72 := L.t72
  have v70 := L.v70; have u70 := run_underlying L.t70; have z70 := L.z70; have a70 := L.a70; have t70 := L.t70
  have v37 := L.v37; have u37 := run_underlying L.t37; have z37 := L.z37; have a37 := L.a37; have t37 := L.t37
  have v127 := L.v127; have u127 := run_underlying L.t127; have z127 := L.z127; have a127 := L.a127; have t127 := L.t127
  have v3 := L.v3; have u3 := run_underlying L.t3; have z3 := L.z3; have a3 := L.a3; have t3 := L.t3
  have v9 := L.v9; have u9 := run_underlying L.t9; have z9 := L.z9; have a9 := L.a9; have t9 := L.t9
  have v5 := X.v5; have u5 := run_underlying X.t5; have z5 := X.z5; have a5 := X.a5; have t5 := X.t5
  go_enter L.f169, Body.n169_ntmps ρ
  go_wp2
  go_region_o
  all_goals (go_wp2; go_ret; exact ⟨rfl, butOne_freeze w ⟨g, 0, none⟩ _⟩)
set_option maxHeartbeats 2000000 in
set_option maxRecDepth 100000 in
theorem text_none (L : Lays.n169 P ρ) (X : Builder.Extra P ρ) {b : Nat} {w : World} (hc : w.cell? ⟨b, 1, none⟩ = some (.slice none 0 0)) :
    Calls P (ρ.f 169) #[.pointer (some ⟨b, 0, none⟩)] w fun e w' => e = .returned (.string .empty) ∧ w' = w.drew := by
  have c1 : w.drew.cell? ⟨b, 1, none⟩ = some (.slice none 0 0) := hc
  have hSD : (Builtin.unsafeSliceData_ #[(ρ.t 37)] (ρ.t 127) #[.slice none 0 0]).run P w.drew = .ok (.pointer none) w.drew :=
    Lib.run_unsafeSliceData_nil _ _ _ _ _
  have hUS : (Builtin.unsafeString_ #[(ρ.t 127), (ρ.t 3)] (ρ.t 9) #[.pointer none, .int .i64 0]).run P w.drew = .ok (.string .empty) w.drew :=
    Lib.run_unsafeString_none _ _ _ _ _
  have mixed := L.mixed
  have v72 := L.v72; have u72 := run_underlying L.t72; have z72 := L.z72; have a72 := L.a72; have t72 := L.t72
  have v70 := L.v70; have u70 := run_underlying L.t70; have z70 := L.z70; have a70 := L.a70; have t70 := L.t70
  have v37 := L.v37; have u37 := run_underlying L.t37; have z37 := L.z37; have a37 := L.a37; have t37 := L.t37
  have v127 := L.v127; have u127 := run_underlying L.t127; have z127 := L.z127; have a127 := L.a127; have t127 := L.t127
  have v3 := L.v3; have u3 := run_underlying L.t3; have z3 := L.z3; have a3 := L.a3; have t3 := L.t3
  have v9 := L.v9; have u9 := run_underlying L.t9; have z9 := L.z9; have a9 := L.a9; have t9 := L.t9
  have v5 := X.v5; have u5 := run_underlying X.t5; have z5 := X.z5; have a5 := X.a5; have t5 := X.t5
  go_enter L.f169, Body.n169_ntmps ρ
  go_wp2
  go_region_o
  all_goals (go_wp2; go_ret; exact ⟨rfl, rfl⟩)
end
end Go.Proofs.YtkpjgmdaolohiaaGreatDoor
namespace Go.Proofs.YtkpjgmdaolohiaaGreatDoor
open Go.H Go.X Go.Proofs Go.Shelf Go.RowKit
set_option linter.unusedSimpArgs false
set_option linter.unusedVariables false
theorem sat_but {g : Nat} {o : Obj} {h h' : Heap} {R : List Asn} (hs : sat h (blk g o :: R)) (hk : ∀ k, k ≠ g → h'[k]? = h[k]?) : sat h' R := by
  obtain ⟨m, h1, a, r, hd, rfl, ha, hr⟩ := hs
  have hrg : r g = none := by
    rcases hd g with h2 | h2
    · rw [ha] at h2; cases h2
    · exact h2
  refine ⟨r, fun k x hx => ?_, hr⟩
  rw [hk k (fun e => by subst e; rw [hrg] at hx; cases hx)]
  exact (join_sub h1 hd).2 k x hx
def ckAd (k : Nat) : XV → Bool
  | .nptr => true
  | .ptr j o => match Nat.beq j k with
    | true => Nat.beq o 0
    | false => false
  | _ => false
noncomputable def hkCheck (args : List XV) (n : Nat) (s : XSt) : Option XR :=
  match args with
  | [.ptr k 0] => match pick k s with
    | some (.cells T (p :: rest), r) => match ckAd k p with
      | true => match liesAt Tryz.prog (Program.depth Tryz.prog) T ((rest.length + 1) / Program.cellsOf Tryz.prog T) 0 (joinL_ren.t 72) 1 with
        | true => some (.tup [], n, back k (.cells T (.ptr k 0 :: rest)) r)
        | false => none
      | false => none
    | _ => none
  | _ => none
theorem hkCheck_ok {args : List XV} {n n' : Nat} {s s' : XSt} {v : XV} (h : hkCheck args n s = some (v, n', s')) (hcl : CloS n s) (hca : clos n args = true) (β : As) (L : List Asn) (Q : Value → Heap → Prop) (hq : GoesR L Q β n (v, n', s')) :
    FW Tryz.prog 197 (vals β args).toArray (asn β s ++ L) Q := by
  unfold hkCheck at h
  split at h
  · rename_i k
    split at h
    · rename_i T p rest r hp
      split at h
      · rename_i hck
        split at h
        · rename_i hl
          cases h
          intro h0 hs w hw
          subst hw
          have hkn : k < n := (hcl _ _ (pick_mem hp).1).1
          have hcr := (hcl _ _ (pick_mem hp).1).2
          have hcl' : CloS n (back k (.cells T (.ptr k 0 :: rest)) r) := hcl.put hp (by
            simp only [cloF, clos] at hcr ⊢
            split at hcr
            · simp only [clo, show Nat.blt k n = true by simpa using hkn]; exact hcr
            · cases hcr)
          have hs1 : sat w.heap (blk (β.b k) (.cells (vals β (p :: rest)).toArray T (0, 0)) :: (asn β r ++ L)) := (has_pick (β := β) (L := L) hp).s hs
          have hg := hs1.get
          have fin : ∀ h', sat h' (blk (β.b k) (.cells (vals β (.ptr k 0 :: rest)).toArray T (0, 0)) :: (asn β r ++ L)) → Q (.tuple #[]) h' := fun h' hs' =>
            hq β Agr.rfl (Nat.le_refl _) hcl' h' ((sub_back (β := β) (L := L) hp _).s hs')
          cases p <;> simp only [ckAd] at hck <;> try (cases hck; done)
          · refine (check_part { joinL with } joinX.toX72 (b := β.b k) (n := rest.length + 1) (E := T) (w := w) (by simp [World.cell?, hg, vals, val]) (by simp [World.shape?, hg, vals, vals_len]) (by omega) hl (by simp [World.frozen?, hg])).mono ?_
            rintro e w' ⟨rfl, rfl⟩
            refine ⟨_, rfl, ⟨rfl, rfl, rfl⟩, fin _ ?_⟩
            have := blk_set hs1 0 (val β (.ptr k 0))
            simp only [vals, List.setIfInBounds_toArray, List.set_cons_zero] at this
            exact this
          · rename_i j o
            split at hck
            · rename_i hj
              have hj := Nat.eq_of_beq_eq_true hj
              have ho := Nat.eq_of_beq_eq_true hck
              subst hj ho
              refine (Any.Builder_copyCheck_used { joinL with } joinX.toX72 (β.b j) w (by simp [World.cell?, hg, vals, val, atOff])).mono ?_
              rintro e w' ⟨rfl, rfl⟩
              exact ⟨_, rfl, ⟨rfl, rfl, rfl⟩, fin _ hs1⟩
            · cases hck
        · cases h
      · cases h
    · cases h
  · cases h
def byteOK : List Int → Bool
  | [] => true
  | x :: r => match decide (0 ≤ x) with
    | true => match decide (x < 256) with
      | true => byteOK r
      | false => false
    | false => false
theorem byteOK_ok : ∀ {l : List Int}, byteOK l = true → ∀ x ∈ l, 0 ≤ x ∧ x < 256
  | [], _, x, hx => by cases hx
  | y :: l, h, x, hx => by
    simp only [byteOK] at h
    split at h
    · rename_i h1
      split at h
      · rename_i h2
        rcases List.mem_cons.1 hx with rfl | hx
        · exact ⟨of_decide_eq_true h1, of_decide_eq_true h2⟩
        · exact byteOK_ok h x hx
      · cases h
    · cases h
theorem bytes_eq (ns : List Int) : bytesOfInts ns = ⟨(ns.map fun n : Int => UInt8.ofNat n.toNat).toArray⟩ := by
  have inj : ∀ {x y : ByteArray}, x.data.toList = y.data.toList → x = y := fun {x y} h => by
    cases x; cases y
    simp at h
    rw [h]
  have : ∀ (ns : List Int) (r : ByteArray), (ns.foldl (fun r n => r.push (UInt8.ofNat n.toNat)) r).data.toList = r.data.toList ++ ns.map fun n => UInt8.ofNat n.toNat := by
    intro ns
    induction ns with
    | nil => intro r; simp
    | cons n ns ih => intro r; rw [List.foldl_cons, ih]; simp
  refine inj ?_
  unfold bytesOfInts
  rw [this]
  rfl
def hkString (args : List XV) (n : Nat) (s : XSt) : Option XR :=
  match args with
  | [.ptr k 0] => match Go.X.look k s with
    | some (.cells _ (_ :: .nslc :: _)) => some (.str (bytesOfInts []), n, s)
    | some (.cells _ (_ :: .slc j :: _)) => match pick j s with
      | some (.buf t (b :: br), r) => match Nat.beq t (joinL_ren.t 5) with
        | true => match byteOK (b :: br) with
          | true => match Nat.beq j k with
            | true => none
            | false => some (.str (bytesOfInts (b :: br)), n, r)
          | false => none
        | false => none
      | _ => none
    | _ => none
  | _ => none
theorem hkString_ok {args : List XV} {n n' : Nat} {s s' : XSt} {v : XV} (h : hkString args n s = some (v, n', s')) (hcl : CloS n s) (hca : clos n args = true) (β : As) (L : List Asn) (Q : Value → Heap → Prop) (hq : GoesR L Q β n (v, n', s')) :
    FW Tryz.prog 35 (vals β args).toArray (asn β s ++ L) Q := by
  unfold hkString at h
  split at h
  · rename_i k
    split at h
    · rename_i T p rest hl
      cases h
      intro h0 hs w hw
      subst hw
      obtain ⟨R, hs1⟩ := look_sat (L := L) hl hs
      have hg := sat.get (show sat w.heap (blk (β.b k) (.cells (vals β (p :: .nslc :: rest)).toArray T (0, 0)) :: R) from hs1)
      refine (text_none (ρ := joinL_ren) { joinL with } joinX (b := β.b k) (w := w) (by simp [World.cell?, hg, vals, val])).mono ?_
      rintro e w' ⟨rfl, rfl⟩
      exact ⟨_, rfl, ⟨rfl, rfl, rfl⟩, hq β Agr.rfl (Nat.le_refl _) hcl _ hs⟩
    · rename_i T p j rest hl
      split at h
      · rename_i t b br r hp
        split at h
        · rename_i ht
          split at h
          · rename_i hb
            split at h
            · cases h
            · rename_i hjk
              cases h
              intro h0 hs w hw
              subst hw
              have ht := Nat.eq_of_beq_eq_true ht
              subst ht
              have hx := byteOK_ok hb
              have hs1 : sat w.heap (bufA (joinL_ren.t 5) (β.s j) (b :: br) :: (asn β s' ++ L)) := (has_pick (β := β) (L := L) hp).s hs
              obtain ⟨R, hs0⟩ := look_sat (L := L) hl hs
              have hg := sat.get (show sat w.heap (blk (β.b k) (.cells (vals β (p :: .slc j :: rest)).toArray T (0, 0)) :: R) from hs0)
              rcases bufA_cases hs1 with ⟨e1, e2, -⟩ | ⟨g, cur, hf, hs2⟩
              · cases e2
              have hgg := hs2.get
              have hll : ((b :: br).map fun x : Int => UInt8.ofNat x.toNat).length = (β.s j).len := by rw [List.length_map, hf.len]
              refine (text_keep (ρ := joinL_ren) { joinL with } joinX (b := β.b k) (g := g) (cap := (β.s j).cap) (cur := cur) (l := (b :: br).map fun x : Int => UInt8.ofNat x.toNat) (w := w) (by simp) ?_ hgg (by rw [hll]; exact hf.le) hf.cap hf.size ?_).mono ?_
              · rw [hll, ← hf.a]
                simp [World.cell?, hg, vals, val]
              · intro i x hi
                have hfr := hf.front
                have hxj : ((b :: br).map (Value.int .u8))[i]? = some (.int .u8 x.toNat) := by
                  rw [List.getElem?_map] at hi ⊢
                  cases hxs : (b :: br)[i]? with
                  | none => rw [hxs] at hi; cases hi
                  | some y =>
                    rw [hxs] at hi
                    simp only [Option.map_some, Option.some.injEq] at hi ⊢
                    subst hi
                    obtain ⟨h1, h2⟩ := hx y (List.mem_of_getElem? hxs)
                    simp only [UInt8.toNat_ofNat']
                    congr 1
                    omega
                rw [← hfr, List.getElem?_take] at hxj
                split at hxj
                · simp only [World.cell?, Addr.add_at, Nat.zero_add, hgg]
                  simpa using hxj
                · cases hxj
              · rintro e w' ⟨rfl, h1, h2, h3, h4⟩
                have e1 : (⟨((b :: br).map fun x : Int => UInt8.ofNat x.toNat).toArray⟩ : ByteArray) = bytesOfInts (b :: br) := (bytes_eq _).symm
                rw [e1]
                exact ⟨_, rfl, ⟨h1, h2, h3⟩, hq β Agr.rfl (Nat.le_refl _) (hcl.rest hp) _ (sat_but hs2 h4)⟩
          · cases h
        · cases h
      · cases h
    · cases h
  · cases h
end Go.Proofs.YtkpjgmdaolohiaaGreatDoor
namespace Go.H
set_option linter.unusedSimpArgs false
set_option linter.unusedVariables false
open Go.RowKit Go.Maps Go.Sort Go.Shelf Go.Proofs
theorem below_grow {w w' : World} (hb : Below w.heap.size w w') : ∀ (k : Nat) o, w.heap[k]? = some o → w'.heap[k]? = some o := fun k o ho => by
  have hk := (Array.getElem?_eq_some_iff.1 ho).1
  rw [hb.block k hk]; exact ho
theorem below_same {B : Nat} {w w' : World} (hb : Below B w w') : Same w w' := ⟨hb.os, hb.tape, hb.output⟩
theorem own_of_row {α : Type} {enc : α → List Value} {size base : Nat} {T : TypeId} {w' : World} {v : Value} {n : Nat} {xs : List α} {h : Heap} {R : List Asn}
    (hr : w'.ownsRow base T size v n (xs.flatMap enc)) (hn : n = xs.length) (hs : sat h R) (hg : ∀ (k : Nat) o, h[k]? = some o → w'.heap[k]? = some o) (hb : h.size ≤ base) :
    ∃ s : Slc, v = .slice s.a s.len s.cap ∧ sat w'.heap (ownS enc size s xs :: R) := by
  obtain ⟨h1, ⟨rfl, h2⟩ | ⟨g, cap, cur, rfl, h3, h4, h5, h6, h7, h8⟩⟩ := hr
  · have hx : xs = [] := List.eq_nil_of_length_eq_zero (by omega)
    subst hx
    exact ⟨⟨none, 0, 0⟩, rfl, ownS_nil (hs.grow hg)⟩
  · exact ⟨⟨some ⟨g, 0, none⟩, n, cap⟩, rfl, ownS_mk (o := 0) ⟨by simp, h5, hn, by simp only [Nat.zero_add]; exact Nat.le_of_eq h7.symm, by simpa using h8⟩ (hs.came_cells hg (by omega) h4)⟩
abbrev eI (x : Int) : List Value := [.int .i64 x]
def sortI (l : List Int) : List Int := l.mergeSort fun x y => decide (x ≤ y)
section
variable {P : Program} {ρk ρs ρt : Ren} {V : Type} {ev : V → Value} {h : Heap} {R : List Asn}
theorem sortsI (T : SlLaysM.n5 P ρt) (he : ρt.f 5 = ρs.f 9) (m : Nat) : AnyZI.SortsIn P ρs Fence.wide m := by
  refine ⟨fun blk off cap ss W hH hblk hsz => ?_, fun p cap W => ?_⟩
  · rw [← he]; exact callsIn_wide.2 (AnyM.slices_Sort_int T blk off cap ss W hH hblk hsz)
  · rw [← he]; exact callsIn_wide.2 (AnyM.slices_Sort_int_none T p cap W)
theorem owns_of_map {H : Type} {w : World} {b : Nat} {l : List (Int × V)} {k : TypeId} (hk : P.underlying k = some (.int .i64)) (hs : sat w.heap (mapA (fun n : Int => .int .i64 n) ev b l :: R))
    (hw : ∀ p ∈ l, (Lit.int .i64 p.1).wf = true) (hl : l.length ≤ maxLen) :
    ∃ D0 : DataW H, w.ownsMap P k (fun _ => some (.nil, [])) b l.length D0 ∧ Maps.size D0 = l.length ∧ (intKeys D0).Perm (l.map (·.1)) := by
  obtain ⟨es, c, ⟨he, hst⟩, hs⟩ := mapA_iff.1 hs
  have hsz : es.size = l.length := by
    have := congrArg List.length he
    simpa using this
  have hkeys : es.toList.map (·.key) = l.map (fun p => Value.int .i64 p.1) := by
    have := congrArg (List.map Prod.fst) he
    simpa [Function.comp_def] using this
  have hrd : ∀ x ∈ es.toList, ∃ p ∈ l, x.key = .int .i64 p.1 ∧ WideElems.rd (H := H) P k (fun _ => some (.nil, [])) x = some (.int .i64 p.1, .nil) := by
    intro x hx
    have hm : x.key ∈ l.map (fun p => Value.int .i64 p.1) := by rw [← hkeys]; exact List.mem_map_of_mem hx
    obtain ⟨p, hp, e⟩ := List.mem_map.1 hm
    exact ⟨p, hp, e.symm, by simp [WideElems.rd, ← e, keyOf, hk, mapKey, hw p hp]⟩
  have hrg : es.toList.map (WideElems.rg (H := H) P k (fun _ => some (.nil, []))) = l.map (fun p => ((Lit.int .i64 p.1, DataW.nil) : Lit × DataW H)) := by
    have e1 : es.toList.map (WideElems.rg (H := H) P k (fun _ => some (.nil, []))) = (es.toList.map (·.key)).map (fun v => (match v with | .int q n => Lit.int q n | _ => .bool false, DataW.nil)) := by
      rw [List.map_map]
      refine List.map_congr_left fun x hx => ?_
      obtain ⟨p, hp, h1, h2⟩ := hrd x hx
      simp [WideElems.rg, h2, h1]
    rw [e1, hkeys, List.map_map]
    rfl
  refine ⟨_, ⟨es, c, hs.get, ⟨by omega, hst, fun x hx => ?_⟩, by omega, rfl⟩, ?_, ?_⟩
  · obtain ⟨p, _, _, h2⟩ := hrd x hx
    exact ⟨_, h2⟩
  · rw [hrg, Maps.size_eq, length_sorted, List.length_map]
  · rw [hrg]
    show (List.map _ _).Perm _
    refine ((WideShapes.sorted_perm _).map _).trans ?_
    rw [List.map_map]
    exact List.Perm.refl _
theorem sortedI_call (K : SlLaysZI.n7 P ρk) (S : SlLaysZI.n6 P ρs) (T : SlLaysM.n5 P ρt) (he : ρt.f 5 = ρs.f 9) (e9 : ∀ args w, (callFunc (ρs.f 9) args).run P w = .ok (.enter (ρs.f 9) args) w)
    (eg : ∀ args w, (callFunc (ρk.f 10) args).run P w = .ok (.enter (ρk.f 10) args) w) {b bm : Nat} {l : List (Int × V)}
    (hs : sat h (mapA (fun n : Int => .int .i64 n) ev b l :: R)) (hw : ∀ p ∈ l, (Lit.int .i64 p.1).wf = true) (hl : l.length * 8 ≤ 140737488355328) (hc : cellH h ⟨bm, 0, none⟩ = some (.map (some b))) {Q : Value → Heap → Prop}
    (hq : ∀ (s : Slc) h', sat h' (ownS eI 1 s (sortI (l.map (·.1))) :: mapA (fun n : Int => .int .i64 n) ev b l :: R) → Q (.slice s.a s.len s.cap) h') :
    HCalls P (ρs.f 6) #[.func (.func (ρk.f 10)) #[] #[.pointer (some ⟨bm, 0, none⟩)]] h Q := fun w hw' => by
  subst hw'
  have K' : SlLaysZI.n10 P ρk := { K with }
  have hmax : l.length ≤ maxLen := by unfold maxLen; omega
  obtain ⟨D0, hown, hsz, hperm⟩ := owns_of_map (H := Unit) K'.t26 hs hw hmax
  have hbm : bm < w.heap.size := by
    unfold cellH at hc
    cases hx : w.heap[bm]? with
    | none => simp [hx] at hc
    | some o => exact (Array.getElem?_eq_some_iff.1 hx).1
  have hseq : SeqGives Fence.wide 2 P (ρk.f 10) #[.pointer (some ⟨bm, 0, none⟩)] encZ (fun ss => ss.Perm (intKeys D0)) (Maps.size D0) w :=
    AnyZI.keys_gives K' Fence.wide _ trivial rfl (by omega) bm b l.length D0 w hbm hc hown
  have cS := AnyZI.sorted_in S Fence.wide 5 trivial trivial trivial trivial rfl (by omega) (sortsI T he _) e9 (ρk.f 10) #[.pointer (some ⟨bm, 0, none⟩)] trivial eg _ _ (by rw [hsz]; exact hmax) (by rw [hsz]; exact hl) _ hseq
  refine ((callsIn_wide).1 cS).mono ?_
  rintro e w' ⟨v, ss, rfl, hS, hrow, hnil, hb⟩
  have hp : ss.Perm (l.map (·.1)) := hS.trans hperm
  have e1 : (ss.mergeSort fun x y => decide (x ≤ y)) = sortI (l.map (·.1)) := mergeSort_of_perm_i hp
  rw [e1] at hrow
  have e2 : (sortI (l.map (·.1))).map encZ = (sortI (l.map (·.1))).flatMap eI := by
    induction sortI (l.map (·.1)) with
    | nil => rfl
    | cons a l ih => rw [List.map_cons, ih]; rfl
  rw [e2] at hrow
  obtain ⟨s, rfl, hs'⟩ := own_of_row hrow (by simp [sortI, List.length_mergeSort, hp.length_eq]) hs (below_grow hb) (Nat.le_refl _)
  exact ⟨_, rfl, below_same hb, hq s _ hs'⟩
end
end Go.H
namespace Go.Proofs.YtkpjgmdaolohiaaGreatDoor
set_option linter.unusedSimpArgs false
set_option linter.unusedVariables false
open Go.H Go.Proofs Go.Shelf
def sortedI_ren : Go.Shelf.Ren := ⟨fun n => match n with | 6 => 61 | 8 => 108 | 9 => 109 | 11 => 152 | 13 => 154 | 12 => 153 | 23 => 195 | 24 => 196 | 14 => 186 | 15 => 187 | 16 => 188 | 17 => 189 | 18 => 190 | 19 => 191 | 20 => 192 | 21 => 193 | 22 => 194 | 25 => 222 | 26 => 223 | 27 => 224 | 28 => 225 | 29 => 226 | 30 => 210 | 31 => 246 | n => n, fun n => match n with | 26 => 3 | 28 => 147 | 24 => 94 | 0 => 0 | 3 => 3 | 37 => 107 | 48 => 292 | 50 => 294 | 4 => 4 | 40 => 285 | 39 => 284 | 45 => 179 | 5 => 5 | 9 => 9 | 51 => 306 | 55 => 310 | 57 => 330 | 58 => 331 | 33 => 144 | n => n, fun n => n⟩
theorem sortedI : SlLaysZI.n6 Tryz.prog sortedI_ren where
  mixed := by kernel_rfl
  f6 := ⟨Tryz.f61.name, by kernel_rfl, Tryz.func61.trans (congrArg some (by kernel_rfl))⟩
  f8 := ⟨Tryz.f108.name, by kernel_rfl, Tryz.func108.trans (congrArg some (by kernel_rfl))⟩
  f11 := ⟨Tryz.f152.name, by kernel_rfl, Tryz.func152.trans (congrArg some (by kernel_rfl))⟩
  t0 := Tryz.underlying0
  a0 := Tryz.isAgg0
  z0 := Tryz.sizeOf0
  v0 := Tryz.zeroValue0
  t24 := Tryz.underlying94
  a24 := Tryz.isAgg94
  z24 := Tryz.sizeOf94
  v24 := Tryz.zeroValue94
  t26 := Tryz.underlying3
  a26 := Tryz.isAgg3
  z26 := Tryz.sizeOf3
  v26 := Tryz.zeroValue3
  t28 := Tryz.underlying147
  a28 := Tryz.isAgg147
  z28 := Tryz.sizeOf147
  v28 := Tryz.zeroValue147
  i26 := by kernel_rfl
def sortMI_ren : Go.Shelf.Ren := ⟨fun n => match n with | 5 => 109 | 8 => 154 | 7 => 153 | 19 => 195 | 20 => 196 | 10 => 186 | 11 => 187 | 12 => 188 | 13 => 189 | 14 => 190 | 15 => 191 | 16 => 192 | 17 => 193 | 18 => 194 | 30 => 222 | 31 => 223 | 32 => 224 | 33 => 225 | 34 => 226 | 35 => 210 | 40 => 246 | n => n, fun n => match n with | 23 => 94 | 25 => 3 | 3 => 3 | 32 => 107 | 22 => 94 | 0 => 0 | 44 => 292 | 46 => 294 | 4 => 4 | 36 => 285 | 35 => 284 | 41 => 179 | 5 => 5 | 9 => 9 | 53 => 306 | 57 => 310 | 63 => 330 | 64 => 331 | n => n, fun n => n⟩
theorem sortMI : SlLaysM.n5 Tryz.prog sortMI_ren where
  mixed := by kernel_rfl
  f5 := ⟨Tryz.f109.name, by kernel_rfl, Tryz.func109.trans (congrArg some (by kernel_rfl))⟩
  f7 := ⟨Tryz.f153.name, by kernel_rfl, Tryz.func153.trans (congrArg some (by kernel_rfl))⟩
  f8 := Tryz.func154.trans (congrArg some (by kernel_rfl))
  f10 := ⟨Tryz.f186.name, by kernel_rfl, Tryz.func186.trans (congrArg some (by kernel_rfl))⟩
  f11 := ⟨Tryz.f187.name, by kernel_rfl, Tryz.func187.trans (congrArg some (by kernel_rfl))⟩
  f12 := ⟨Tryz.f188.name, by kernel_rfl, Tryz.func188.trans (congrArg some (by kernel_rfl))⟩
  f13 := ⟨Tryz.f189.name, by kernel_rfl, Tryz.func189.trans (congrArg some (by kernel_rfl))⟩
  f14 := ⟨Tryz.f190.name, by kernel_rfl, Tryz.func190.trans (congrArg some (by kernel_rfl))⟩
  f15 := ⟨Tryz.f191.name, by kernel_rfl, Tryz.func191.trans (congrArg some (by kernel_rfl))⟩
  f16 := ⟨Tryz.f192.name, by kernel_rfl, Tryz.func192.trans (congrArg some (by kernel_rfl))⟩
  f17 := ⟨Tryz.f193.name, by kernel_rfl, Tryz.func193.trans (congrArg some (by kernel_rfl))⟩
  f18 := ⟨Tryz.f194.name, by kernel_rfl, Tryz.func194.trans (congrArg some (by kernel_rfl))⟩
  f19 := Tryz.func195.trans (congrArg some (by kernel_rfl))
  f20 := Tryz.func196.trans (congrArg some (by kernel_rfl))
  f30 := ⟨Tryz.f222.name, by kernel_rfl, Tryz.func222.trans (congrArg some (by kernel_rfl))⟩
  f31 := Tryz.func223.trans (congrArg some (by kernel_rfl))
  f32 := Tryz.func224.trans (congrArg some (by kernel_rfl))
  f33 := ⟨Tryz.f225.name, by kernel_rfl, Tryz.func225.trans (congrArg some (by kernel_rfl))⟩
  f34 := ⟨Tryz.f226.name, by kernel_rfl, Tryz.func226.trans (congrArg some (by kernel_rfl))⟩
  f35 := ⟨Tryz.f210.name, by kernel_rfl, Tryz.func210.trans (congrArg some (by kernel_rfl))⟩
  f40 := ⟨Tryz.f246.name, by kernel_rfl, Tryz.func246.trans (congrArg some (by kernel_rfl))⟩
  t0 := Tryz.underlying0
  a0 := Tryz.isAgg0
  z0 := Tryz.sizeOf0
  v0 := Tryz.zeroValue0
  t3 := Tryz.underlying3
  a3 := Tryz.isAgg3
  z3 := Tryz.sizeOf3
  v3 := Tryz.zeroValue3
  t4 := Tryz.underlying4
  a4 := Tryz.isAgg4
  z4 := Tryz.sizeOf4
  v4 := Tryz.zeroValue4
  t5 := Tryz.underlying5
  a5 := Tryz.isAgg5
  z5 := Tryz.sizeOf5
  v5 := Tryz.zeroValue5
  t9 := Tryz.underlying9
  a9 := Tryz.isAgg9
  z9 := Tryz.sizeOf9
  v9 := Tryz.zeroValue9
  t22 := Tryz.underlying94
  a22 := Tryz.isAgg94
  z22 := Tryz.sizeOf94
  v22 := Tryz.zeroValue94
  t23 := Tryz.underlying94
  a23 := Tryz.isAgg94
  z23 := Tryz.sizeOf94
  v23 := Tryz.zeroValue94
  t25 := Tryz.underlying3
  a25 := Tryz.isAgg3
  z25 := Tryz.sizeOf3
  v25 := Tryz.zeroValue3
  t32 := Tryz.underlying107
  a32 := Tryz.isAgg107
  z32 := Tryz.sizeOf107
  v32 := Tryz.zeroValue107
  t35 := Tryz.underlying284
  a35 := Tryz.isAgg284
  z35 := Tryz.sizeOf284
  v35 := Tryz.zeroValue284
  t36 := Tryz.underlying285
  a36 := Tryz.isAgg285
  z36 := Tryz.sizeOf285
  v36 := Tryz.zeroValue285
  t41 := Tryz.underlying179
  a41 := Tryz.isAgg179
  z41 := Tryz.sizeOf179
  v41 := Tryz.zeroValue179
  t44 := Tryz.underlying292
  a44 := Tryz.isAgg292
  z44 := Tryz.sizeOf292
  v44 := Tryz.zeroValue292
  t46 := Tryz.underlying294
  a46 := Tryz.isAgg294
  z46 := Tryz.sizeOf294
  v46 := Tryz.zeroValue294
  t53 := Tryz.underlying306
  a53 := Tryz.isAgg306
  z53 := Tryz.sizeOf306
  v53 := Tryz.zeroValue306
  t57 := Tryz.underlying310
  a57 := Tryz.isAgg310
  z57 := Tryz.sizeOf310
  v57 := Tryz.zeroValue310
  t63 := Tryz.underlying330
  a63 := Tryz.isAgg330
  z63 := Tryz.sizeOf330
  v63 := Tryz.zeroValue330
  t64 := Tryz.underlying331
  a64 := Tryz.isAgg331
  z64 := Tryz.sizeOf331
  v64 := Tryz.zeroValue331
end Go.Proofs.YtkpjgmdaolohiaaGreatDoor
namespace Go.Proofs.YtkpjgmdaolohiaaGreatDoor
open Go.H Go.X Go.Proofs Go.Shelf Go.RowKit
set_option linter.unusedSimpArgs false
set_option linter.unusedVariables false
def ascI : List Int → Bool
  | [] => true
  | x :: r => match r with
    | [] => true
    | y :: _ => match decide (x < y) with
      | true => ascI r
      | false => false
def wfI : List Int → Bool
  | [] => true
  | x :: r => match decide (-9223372036854775808 ≤ x) with
    | true => match decide (x ≤ 9223372036854775807) with
      | true => wfI r
      | false => false
    | false => false
def keyL {K : Type} : List (K × XV) → List K
  | [] => []
  | (k, _) :: r => k :: keyL r
theorem keyL_eq {K : Type} : ∀ l : List (K × XV), keyL l = l.map (·.1)
  | [] => rfl
  | (k, v) :: r => by simp only [keyL, List.map_cons, keyL_eq r]
def rowI : List Int → List (List XV)
  | [] => []
  | k :: r => [.int .i64 k] :: rowI r
theorem wfI_ok : ∀ {l : List Int}, wfI l = true → ∀ x ∈ l, -9223372036854775808 ≤ x ∧ x ≤ 9223372036854775807
  | [], _, x, hx => by cases hx
  | y :: l, h, x, hx => by
    simp only [wfI] at h
    split at h
    · rename_i h1
      split at h
      · rename_i h2
        rcases List.mem_cons.1 hx with rfl | hx
        · exact ⟨of_decide_eq_true h1, of_decide_eq_true h2⟩
        · exact wfI_ok h x hx
      · cases h
    · cases h
theorem ascI_ok : ∀ {l : List Int}, ascI l = true → l.Pairwise (· < ·)
  | [], _ => List.Pairwise.nil
  | [x], _ => List.pairwise_singleton _ _
  | x :: y :: r, h => by
    rw [ascI] at h
    split at h
    · rename_i h1
      have h1 := of_decide_eq_true h1
      have ih := ascI_ok h
      refine List.pairwise_cons.2 ⟨fun z hz => ?_, ih⟩
      rcases List.mem_cons.1 hz with rfl | hz
      · exact h1
      · have := (List.pairwise_cons.1 ih).1 z hz
        omega
    · cases h
theorem sortI_asc {l : List Int} (h : ascI l = true) : sortI l = l :=
  List.mergeSort_of_pairwise ((ascI_ok h).imp fun {a b} hab => by simpa using (show a ≤ b by omega))
theorem rowI_vals (β : As) : ∀ l : List Int, (rowI l).map (vals β) = l.map eI
  | [] => rfl
  | k :: r => by simp only [rowI, List.map_cons, rowI_vals β r]; rfl
theorem rowI_clo (n : Nat) : ∀ l : List Int, cloR n (rowI l) = true
  | [] => rfl
  | k :: r => by simp only [rowI, cloR, clos, clo]; exact rowI_clo n r
theorem own_as {α α' : Type} {enc : α → List Value} {enc' : α' → List Value} {size : Nat} {s : Slc} {xs : List α} {ys : List α'} {h : Heap} {R : List Asn} (hs : sat h (ownS enc size s xs :: R)) (hl : xs.length = ys.length) (hf : xs.flatMap enc = ys.flatMap enc') : sat h (ownS enc' size s ys :: R) := by
  rcases ownS_cases hs with ⟨h1, h2, rfl, hs1⟩ | ⟨b, o, cs, ho, hs1⟩
  · have : ys = [] := List.eq_nil_of_length_eq_zero (by simpa using hl.symm)
    subst this
    obtain ⟨a, l, c⟩ := s
    simp only at h1 h2
    subst h1 h2
    exact ownS_none hs1
  · exact ownS_mk ⟨ho.a, ho.le, by rw [ho.len, hl], ho.csize, by rw [ho.front, hf]⟩ hs1
def hkSorted (gs : List Nat) (args : List XV) (n : Nat) (s : XSt) : Option XR :=
  match args with
  | [.func g [] [.ptr x 0]] => match memN g gs with
    | true => match Go.X.look x s with
      | some (.cells _ [.map m]) => match pick m (unw (.map m) s) with
        | some (.mapI es, r) => match ascI (keyL es) with
          | true => match wfI (keyL es) with
            | true => match Nat.ble es.length 1000000 with
              | true => some (.slc n, n + 1, add n (.own 1 (rowI (keyL es))) (unw (.map m) s))
              | false => none
            | false => none
          | false => none
        | _ => none
      | _ => none
    | false => none
  | _ => none
def KeysLaid (g : Nat) : Prop := ∃ ρk, SlLaysZI.n7 Tryz.prog ρk ∧ ρk.f 10 = g ∧ CallOK Tryz.prog g
theorem hkSorted_ok {gs : List Nat} (hgs : ∀ g, memN g gs = true → KeysLaid g) {args : List XV} {n n' : Nat} {s s' : XSt} {v : XV} (h : hkSorted gs args n s = some (v, n', s')) (hcl : CloS n s) (hca : clos n args = true) (β : As) (L : List Asn) (Q : Value → Heap → Prop) (hq : GoesR L Q β n (v, n', s')) :
    FW Tryz.prog 61 (vals β args).toArray (asn β s ++ L) Q := by
  unfold hkSorted at h
  split at h
  · rename_i g x
    split at h
    · rename_i hg
      split at h
      · rename_i T m hl
        split at h
        · rename_i es r hp
          split at h
          · rename_i ha
            split at h
            · rename_i hw
              split at h
              · rename_i hle
                cases h
                intro h0 hs
                obtain ⟨ρk, K, rfl, hok⟩ := hgs g hg
                obtain ⟨R, hs1⟩ := look_sat (L := L) hl hs
                have hc : cellH h0 ⟨β.b x, 0, none⟩ = some (.map (some (β.b m))) := by
                  have := sat.cell (cells_iff.2 ⟨T, show sat h0 (blk (β.b x) (.cells (vals β [.map m]).toArray T (0, 0)) :: R) from hs1⟩) 0
                  simpa [vals, val] using this
                have hcl' : CloS n (unw (.map m) s) := (unw_ok (β := β) (L := L) (h := h0)).1 hcl
                have hs' : sat h0 (asn β (unw (.map m) s) ++ L) := (unw_ok (n := n)).2 hs
                have hs2 : sat h0 (mapA (fun n : Int => Value.int .i64 n) (val β) (β.b m) es :: (asn β r ++ L)) := (has_pick (β := β) (L := L) hp).s hs'
                have hle' := Nat.le_of_ble_eq_true hle
                refine sortedI_call (ρk := ρk) (ρs := sortedI_ren) (ρt := sortMI_ren) K sortedI sortMI rfl (enters_of Tryz.func109 (by kernel_rfl) rfl) hok hs2 (fun p hp' => ?_) (by omega) hc fun s9 h9 hs9 => ?_
                · have := wfI_ok hw p.1 (by rw [keyL_eq]; exact List.mem_map_of_mem hp')
                  simp [Lit.wf, IntKind.min, IntKind.max, IntKind.bits, IntKind.signed]
                  omega
                · rw [← keyL_eq, sortI_asc ha] at hs9
                  have hs10 : sat h9 (ownS eI 1 s9 (keyL es) :: (asn β (unw (.map m) s) ++ L)) := by
                    have h1 : sat h9 (stars [ownS eI 1 s9 (keyL es)] :: (mapA (fun n : Int => Value.int .i64 n) (val β) (β.b m) es :: (asn β r ++ L))) := (sat.stars_iff (L := [ownS eI 1 s9 (keyL es)])).2 hs9
                    refine hs9.tail ?_
                    exact Sub.perm (((perm_pick hp β).append_right L).symm)
                  obtain ⟨xs, hx⟩ := rows_of (β := β) (size := 1) (es := rowI (keyL es)) (by
                    intro l hl
                    have : ∀ l0 : List Int, ∀ l ∈ rowI l0, l.length = 1 ∧ ∀ v ∈ vals β l, v.oneCell' = true := by
                      intro l0
                      induction l0 with
                      | nil => intro l hl; cases hl
                      | cons c l0 ih =>
                        intro l hl
                        simp only [rowI] at hl
                        rcases List.mem_cons.1 hl with rfl | hl
                        · exact ⟨rfl, fun v hv => by simp only [vals, List.mem_singleton] at hv; subst hv; rfl⟩
                        · exact ih l hl
                    exact this _ l hl)
                  have hfl : (keyL es).flatMap eI = xs.flatMap (vsV (size := 1)) := by
                    rw [flat_of hx, rowI_vals]; rfl
                  have hlen : (keyL es).length = xs.length := by
                    have h1 := congrArg List.length hx
                    rw [rowI_vals] at h1
                    simpa using h1.symm
                  have hs11 := own_as (enc' := vsV (size := 1)) hs10 hlen hfl
                  have hs12 := sat_named (L := L) hcl' hx (rowI_clo n _) Nat.one_pos hs11
                  have := hq (β.newS n s9) agr_newS (Nat.le_succ _) (hcl'.new (g := .own 1 (rowI (keyL es))) (rowI_clo _ _)) h9 hs12
                  simp only [val, As.newS, if_true] at this
                  exact this
              · cases h
            · cases h
          · cases h
        · cases h
      · cases h
    · cases h
  · cases h
end Go.Proofs.YtkpjgmdaolohiaaGreatDoor
namespace Go.X
open Go.H
set_option linter.unusedSimpArgs false
set_option linter.unusedVariables false
section
variable {P : Program} {T2 : TypeId → Bool} {C : List Nat}
def onQ (P : Program) (ops : Array Oper) (Q : Exit → Act → World → Prop) (r : List Nat) : Exit → Act → World → Prop
  | .normal, a, w => wpOps P ops Q r a w
  | ex, a, w => Q ex a w
theorem upon_onQ {o : Oper} {a : Act} {K : Act → World → Prop} {ops : Array Oper} {Q : Exit → Act → World → Prop} {r : List Nat} {x : Result Next} (h : o.upon P a K (onQ P ops Q r) x) : o.upon P a K Q x := by
  cases x with
  | ok n w => cases n <;> first | exact h | (simp only [Oper.upon] at h ⊢; exact h)
  | halt e w => cases e <;> first | exact h | (simp only [Oper.upon] at h ⊢; exact h)
theorem wpOps_app {ops : Array Oper} {Q : Exit → Act → World → Prop} {r : List Nat} : ∀ (l : List Nat) (a : Act) (w : World), wpOps P ops (onQ P ops Q r) l a w → wpOps P ops Q (l ++ r) a w
  | [], a, w, h => h
  | i :: l, a, w, h => by
    have ih := wpOps_app (ops := ops) (Q := Q) (r := r) l
    simp only [List.cons_append, wpOps] at h ⊢
    split at h
    · exact ih a w h
    · rename_i o ho
      split at h
      · rename_i hw
        rw [if_pos hw]
        rcases h with h | h
        · left
          exact Oper.wp_mono ih (upon_onQ h)
        · exact .inr h
      · rename_i hw
        rw [if_neg hw]
        exact ih _ w h
theorem panics_of_HW {f : FuncId} {fn : Func} {c : Code} {args : List Value} {h : Heap} {Q : List PanicEntry → Heap → Prop} (hf : P.funcs[f]? = some fn) (hc : fn.body = some c)
    (hd : HW P c { tmps := args.toArray ++ Array.replicate (fn.ntmps - args.toArray.size) undef, defers := [] } h (fun ex a' h' => match ex with
      | .panic ch => a'.defers = [] ∧ Q ch h'
      | _ => False)) : ∀ w, w.heap = h → Calls P f args.toArray w fun e w' => ∃ ch, e = .panicked ch ∧ Same w w' ∧ Q ch w'.heap := by
  intro w hw
  refine calls_of_wp hf hc ?_
  refine wp_mono (hd w hw) ?_
  rintro ex a' w' ⟨hs, hq⟩
  cases ex with
  | panic ch =>
    obtain ⟨hdf, hq⟩ := hq
    exact ⟨hdf, ch, rfl, hs, hq⟩
  | normal => exact hq.elim
  | ret => exact hq.elim
  | exit id => exact hq.elim
  | goto l => exact hq.elim
  | outgrown => exact hq.elim
theorem HW_call_panics {DF : List Deferred} {call : Nat → List XV → Nat → XSt → Option XR} (hT : T2OK P T2) (hC : CallS P call) (hCO : ∀ f, f ∈ C → CallOK P f) {nt : Nat} {ops : Array Oper} {e : XEnv} {n : Nat} {s : XSt} {y : XT} {l r : List Nat} {j id : Nat} {o : Oper} {c : Call} {f : Nat} {us : List XV} {β : As} {L : List Asn} {a : Act} {h : Heap} {e0 : Env} {Ψ : Exit → Act → Heap → Prop} {Qp : As → List PanicEntry → Heap → Prop}
    (hl : List.range ops.size = l ++ j :: r) (hx : xT P T2 C call nt ops false (OTree.ofList l) ⟨e, [], [], n, s⟩ = some [y]) (hj : ops[j]? = some o) (hg : o.guard = none) (ho : o.op = .call c) (hc : c.callee = .value (.func f)) (hargs : xevs y.e c.args.toList = some us) (hok : CallOK P f)
    (hA : AgreeD DF nt e0 a) (hI : Inv β e n s e0) (hs : sat h (asn β s ++ L))
    (hp : ∀ γ h', Agr n β γ → CloS y.n y.s → sat h' (asn γ y.s ++ L) → ∀ w, w.heap = h' → Calls P f (vals γ us).toArray w fun e w' => ∃ ch, e = .panicked ch ∧ Same w w' ∧ Qp γ ch w'.heap)
    (hk : ∀ γ ch a' h', Agr n β γ → a'.defers = DF → a'.tmps.size = nt → CloS y.n y.s → (∀ t v, y.e.get t = some v → a'.tmps[t]? = some (val γ v)) → Qp γ ch h' → Ψ (.panic ch) a' h') : HW P (.region id ops false) a h Ψ := by
  intro w hw
  subst hw
  refine wp_region ?_
  rw [hl]
  refine wpOps_app l a w ?_
  have hd := xT_ok (P := P) (L := L) (ρ := Unit) (Q := fun _ _ => True) (k := fun e' h' _ => ∃ γ, Agr n β γ ∧ Inv γ y.e y.n y.s e' ∧ sat h' (asn γ y.s ++ L)) hT hC hCO (OTree.ofList l) (dn0 := []) (e0 := e0) (β := β) hx ⟨hI, rfl, fun p hp => by cases hp⟩
    (fun z hz γ e1 ha hn hi h' hs' => by rw [List.mem_singleton.1 hz] at *; exact ⟨γ, ha, hi, hs'⟩) w.heap hs
  have hlex := denT_lex hCO (Go.H.dstsOf ops.toList) (fun o s ho hs => dstsOf_mem _ o s (by simpa using ho) hs) e0 _ e0 [] [] [] a w.heap hd (Ext.refl _ _) hA (fun t b ht => by cases ht) (fun _ p hp => by cases hp) (fun _ p hp => hp)
  refine wpOps_of_lex (w0 := w) ?_ l [] a w (Same.refl w) hlex
  rintro a' w' hsm ⟨e', hA', -, γ, ha, hi, hs'⟩
  show wpOps P ops _ (j :: r) a' w'
  simp only [wpOps, hj]
  rw [if_pos (by simp [Region.wanted, hg])]
  left
  unfold Oper.wp
  have hev : (c.args.map a'.eval) = (vals γ us).toArray := hA'.evs_arr (xevs_ok hi.ag hargs)
  have hr : (execOp a'.eval o).run P w' = .ok (.enter f (vals γ us).toArray) w' := by
    have h1 := run_call (P := P) (ev := a'.eval) (first := #[]) (captured := #[]) ho hc (f := f) (by simp [Act.eval]) hok w'
    rw [h1]
    simp only [Array.empty_append, Array.append_empty, hev]
  rw [hr, Oper.upon_enter]
  refine (hp γ w'.heap ha hi.cs hs' w' rfl).mono ?_
  rintro e w'' ⟨ch, rfl, hsm2, hq⟩
  exact ⟨hsm.trans hsm2, hk γ ch a' w''.heap ha hA'.defers hA'.size hi.cs (fun t v hv => hA'.get t _ (hi.ag t v hv)) hq⟩
theorem coNil : ∀ f, f ∈ ([] : List Nat) → CallOK P f := fun f hf => by cases hf
theorem coCons {a : Nat} {l : List Nat} (h : CallOK P a) (hl : ∀ f, f ∈ l → CallOK P f) : ∀ f, f ∈ a :: l → CallOK P f := fun f hf => by
  rcases List.mem_cons.1 hf with rfl | hf
  · exact h
  · exact hl f hf
def cL : Code → Code
  | .seq a _ => a
  | _ => .skip
def cR : Code → Code
  | .seq _ b => b
  | _ => .skip
def cOps : Code → Array Oper
  | .region _ o _ => o
  | _ => #[]
def cId : Code → Nat
  | .region i _ _ => i
  | _ => 0
def getO (r : Option (List XO)) : XO :=
  match r with
  | some [o] => o
  | _ => ⟨.norm, .lf, 0, .lf⟩
def isO (r : Option (List XO)) : Bool :=
  match r with
  | some [o] => match o.x with
    | .norm => true
    | _ => false
  | _ => false
theorem isO_ok {r : Option (List XO)} (h : isO r = true) : r = some [getO r] ∧ (getO r).x = .norm := by
  unfold isO at h
  split at h
  · rename_i o
    split at h
    · rename_i ho; exact ⟨rfl, ho⟩
    · cases h
  · cases h
def getT (r : Option (List XT)) : XT :=
  match r with
  | some [o] => o
  | _ => ⟨.lf, [], [], 0, .lf⟩
def isT1 (r : Option (List XT)) : Bool :=
  match r with
  | some [_] => true
  | _ => false
theorem isT1_ok {r : Option (List XT)} (h : isT1 r = true) : r = some [getT r] := by
  unfold isT1 at h
  split at h
  · rfl
  · cases h
theorem T2no : T2OK P fun _ => false := ⟨fun kt h => by cases h⟩
theorem callNo : CallS P fun _ _ _ _ => none := fun f args n s v n' s' h => by cases h
theorem HW_run {DF : List Deferred} {call : Nat → List XV → Nat → XSt → Option XR} (hT : T2OK P T2) (hC : CallS P call) (hm : P.follows .mixedOrders = true) (hCO : ∀ f, f ∈ C → CallOK P f) {nt lf : Nat} {x y : Code} {e : XEnv} {n : Nat} {s : XSt} {β : As} {L : List Asn} {a : Act} {h : Heap} {e0 : Env} {Ψ : Exit → Act → Heap → Prop} {r : Option (List XO)}
    (hr : xCode P T2 C call nt lf x e n s = r) (ho : isO r = true) (hA : AgreeD DF nt e0 a) (hI : Inv β e n s e0) (hs : sat h (asn β s ++ L))
    (hk : ∀ γ a' h' e1, Agr n β γ → AgreeD DF nt e1 a' → Inv γ (getO r).e (getO r).n (getO r).s e1 → sat h' (asn γ (getO r).s ++ L) → HW P y a' h' Ψ) : HW P (.seq x y) a h Ψ := by
  obtain ⟨h1, h2⟩ := isO_ok ho
  rw [h1] at hr
  refine HW_seq (xCode_ok hT hC hm hCO x e n s _ L β a h e0 _ hr hA hI hs fun o hoo γ a' h' e1 ha hn hA' hi hs' => ?_)
  rw [List.mem_singleton.1 hoo] at *
  rw [h2]
  exact hk γ a' h' e1 ha hA' hi hs'
theorem actArgs (fn : Func) (β : As) (args : List XV) (hlen : Nat.ble args.length fn.ntmps = true) : Agree fn.ntmps ((vals β args).zipIdx.map fun (v, i) => (i, v)) { tmps := (vals β args).toArray ++ Array.replicate (fn.ntmps - (vals β args).toArray.size) undef, defers := [] } := by
  have hle := Nat.le_of_ble_eq_true hlen
  have hlv : (vals β args).length = args.length := vals_len β args
  refine ⟨by simp [hlv]; omega, rfl, fun t v ht => ?_⟩
  obtain ⟨-, h2⟩ := get_args (vals β args) 0 t v ht
  simp only [Nat.sub_zero] at h2
  have hlt : t < (vals β args).length := by
    rcases Nat.lt_or_ge t (vals β args).length with hh | hh
    · exact hh
    · rw [List.getElem?_eq_none hh] at h2; cases h2
  simp [Array.getElem?_append, hlt, h2]
  rw [List.getElem?_eq_getElem hlt] at h2
  exact Option.some.inj h2
theorem invArgs {β : As} {args : List XV} {n : Nat} {s : XSt} (hcl : CloS n s) (hca : clos n args = true) : Inv β (argE args 0 .lf) n s ((vals β args).zipIdx.map fun (v, i) => (i, v)) := by
  refine ⟨fun t v hv => ?_, fun t v hv => ?_, hcl⟩
  · rcases argE_get hv with ⟨j, rfl, hj⟩ | hv
    · exact zipIdx_get _ 0 j _ (vals_get hj)
    · cases hv
  · rcases argE_get hv with ⟨j, rfl, hj⟩ | hv
    · exact clos_iff.1 hca v (List.mem_of_getElem? hj)
    · cases hv
end
end Go.X
namespace Go.Proofs.YtkpjgmdaolohiaaGreatDoor
open Go.H Go.X Go.Proofs
set_option linter.unusedSimpArgs false
set_option linter.unusedVariables false
theorem assert_nil (w : World) : (Instr.typeAssert .nilIface 20 115 true).run Tryz.prog w = .ok (.tuple #[.int .u8 0, .bool false]) w := by
  have v115 := Tryz.zeroValue115
  have u115 := run_underlying Tryz.underlying115
  simp [Instr.typeAssert, v115, u115]
theorem assert_is (n : Int) (w : World) : (Instr.typeAssert (.iface 115 (.int .u8 n)) 20 115 true).run Tryz.prog w = .ok (.tuple #[.int .u8 n, .bool true]) w := by
  have u115 := run_underlying Tryz.underlying115
  simp [Instr.typeAssert, u115]
set_option maxHeartbeats 4000000 in
set_option maxRecDepth 100000 in
theorem get1_idle (p q : Value) (w : World) : CallsD Tryz.prog 39 #[p, q] .returning w fun e u' w' => e = .returned (.tuple #[]) ∧ u' = .returning ∧ w' = w := by
  refine callsD_of_wpS Tryz.func39 rfl fun c₀ cs hu => ?_
  apply wpS_seq
  apply wpS_region
  simp [wpOpsS, go_sem, recoverD, hu, Exit.thenS, assert_nil]
  apply wpS_seq
  apply wpS_region
  simp [wpOpsS, go_sem, Exit.thenS]
  refine wpS_cond (t := false) (by simp [Act.eval, Array.replicate]) ?_
  simp only [Bool.false_eq_true, if_false]
  refine wpS_of_wp (wp_skip ?_)
  cases c₀
  simp_all [bodyPostS, results]
abbrev pkZ : Array Value := #[.int .i64 0, .bool false, .bool false, .int .i64 0, .int .i64 0, .string ⟨#[]⟩, .string ⟨#[]⟩, .int .u8 0, .slice none 0 0, .slice none 0 0, .string ⟨#[]⟩, .bool false, .int .i64 0, .bool false, .string ⟨#[]⟩, .string ⟨#[]⟩, .int .i64 0, .bool false, .slice none 0 0, .bool false, .bool false, .string ⟨#[]⟩, .string ⟨#[]⟩, .bool false, .slice none 0 0, .slice none 0 0]
abbrev pkX : List XV := [.int .i64 0, .bool false, .bool false, .int .i64 0, .int .i64 0, .str ⟨#[]⟩, .str ⟨#[]⟩, .int .u8 0, .nslc, .nslc, .str ⟨#[]⟩, .bool false, .int .i64 0, .bool false, .str ⟨#[]⟩, .str ⟨#[]⟩, .int .i64 0, .bool false, .nslc, .bool false, .bool false, .str ⟨#[]⟩, .str ⟨#[]⟩, .bool false, .nslc, .nslc]
abbrev chain (n : Int) : List PanicEntry := [{ v := .iface 115 (.int .u8 n), recovered := false }]
theorem build_none (w : World) : (Instr.build 57 #[]).run Tryz.prog w = .ok (.agg pkZ) w := by
  have e : ∀ k : Value → HM Unit, denBuild Tryz.prog 57 [] k = k (.agg pkZ) := fun k => by kernel_rfl
  obtain ⟨v, h1, h2⟩ := denBuild_sound (P := Tryz.prog) (t := 57) (ps := #[]) (ρ := Unit) (k := fun v => HM.req (v = .agg pkZ) (HM.pure ())) (h := #[]) (Q := fun _ _ => True) (by
    rw [show (#[] : Array (Nat × Value)).toList = [] from rfl, e]
    exact ⟨rfl, trivial⟩)
  rw [h1 w, h2.1]
section
variable {P : Program} {ops : Array Oper} {Q : Exit → Act → List Frame → World → Prop} {i : Nat} {rest : List Nat} {a : Act} {cs : List Frame} {w w' : World} {o : Oper}
theorem wpS_value {v : Value} (ho : ops[i]? = some o) (hg : o.guard = none) (hr : (execOp a.eval o).run P w = .ok (.value v) w') (hk : wpOpsS P ops Q rest (a.put o.dst v) cs w') : wpOpsS P ops Q (i :: rest) a cs w := by
  simp only [wpOpsS, ho]
  rw [if_pos (by simp [Region.wanted, hg]), hr]
  exact hk
theorem wpS_skip (ho : ops[i]? = some o) (hg : o.guard = none) (hr : (execOp a.eval o).run P w = .ok .skip w') (hk : wpOpsS P ops Q rest (a.put o.dst undef) cs w') : wpOpsS P ops Q (i :: rest) a cs w := by
  simp only [wpOpsS, ho]
  rw [if_pos (by simp [Region.wanted, hg]), hr]
  exact hk
theorem catch_region {o0 o1 o2 o3 : Oper} {tP tC : Nat} {z : Array Value} {p q : Value} {n : Int} {w1 w2 : World}
    (e0 : ops[0]? = some o0) (g0 : o0.guard = none) (x0 : o0.op = .build tP #[]) (d0 : o0.dst = some 10)
    (e1 : ops[1]? = some o1) (g1 : o1.guard = none) (x1 : o1.op = .move (.tmp 2)) (d1 : o1.dst = some 11)
    (e2 : ops[2]? = some o2) (g2 : o2.guard = none) (x2 : o2.op = .store tP (.tmp 0) (.tmp 10)) (d2 : o2.dst = none)
    (e3 : ops[3]? = some o3) (g3 : o3.guard = none) (x3 : o3.op = .store tC (.tmp 1) (.tmp 11)) (d3 : o3.dst = none)
    (hsz : a.tmps.size = 12) (t0 : a.tmps[0]? = some p) (t1 : a.tmps[1]? = some q) (t2 : a.tmps[2]? = some (.int .u8 n))
    (hb : ∀ w, (Instr.build tP #[]).run P w = .ok (.agg z) w) (h1 : (Instr.storeAt tP p (.agg z)).run P w = .ok () w1) (h2 : (Instr.storeAt tC q (.int .u8 n)).run P w1 = .ok () w2)
    (hk : ∀ a', a'.defers = a.defers → Q .normal a' cs w2) : wpOpsS P ops Q [0, 1, 2, 3] a cs w := by
  have v0 : a.eval (.tmp 2) = .int .u8 n := by simp [Act.eval, t2]
  refine wpS_value (v := .agg z) (w' := w) e0 g0 (by rw [execOp, x0]; simp only [Sem.run_bind]; simp [hb]) ?_
  have s1 : ∀ t, t ≠ 10 → (a.put o0.dst (.agg z)).tmps[t]? = a.tmps[t]? := fun t ht => by
    rw [d0]; simp only [Act.put]; rw [Array.getElem?_setIfInBounds, if_neg (fun e => ht e.symm)]
  refine wpS_value (v := .int .u8 n) (w' := w) e1 g1 (by rw [execOp, x1]; simp only [Act.eval]; rw [Array.getD_eq_getD_getElem?, s1 2 (by decide), t2]; rfl) ?_
  have s2 : ∀ t, t ≠ 10 → t ≠ 11 → ((a.put o0.dst (.agg z)).put o1.dst (.int .u8 n)).tmps[t]? = a.tmps[t]? := fun t ht ht' => by
    rw [d1]; simp only [Act.put]; rw [Array.getElem?_setIfInBounds, if_neg (fun e => ht' e.symm)]; exact s1 t ht
  have z1 : (a.put o0.dst (.agg z)).tmps.size = 12 := by rw [d0]; simp [Act.put, hsz]
  have s10 : ((a.put o0.dst (.agg z)).put o1.dst (.int .u8 n)).tmps[10]? = some (.agg z) := by
    rw [d1]; simp only [Act.put]; rw [Array.getElem?_setIfInBounds, if_neg (by decide)]
    show (a.put o0.dst (.agg z)).tmps[10]? = _
    rw [d0]; simp [Act.put, hsz]
  have s11 : ((a.put o0.dst (.agg z)).put o1.dst (.int .u8 n)).tmps[11]? = some (.int .u8 n) := by
    rw [d1]; simp only [Act.put]; rw [Array.getElem?_setIfInBounds, if_pos rfl, if_pos (by have := z1; simp only [Act.put] at this; omega)]
  generalize hA : (a.put o0.dst (.agg z)).put o1.dst (.int .u8 n) = a2 at s2 s10 s11
  have hdf : a2.defers = a.defers := by rw [← hA, d0, d1]; rfl
  have ev : ∀ t v, a2.tmps[t]? = some v → a2.eval (.tmp t) = v := fun t v h => by
    simp only [Act.eval]; rw [Array.getD_eq_getD_getElem?, h]; rfl
  refine wpS_skip (w' := w1) e2 g2 (by rw [execOp, x2]; simp only [Sem.run_bind]; rw [ev 0 p (by rw [s2 0 (by decide) (by decide), t0]), ev 10 _ s10, h1]; rfl) ?_
  rw [d2]
  refine wpS_skip (w' := w2) e3 g3 (by rw [execOp, x3]; simp only [Sem.run_bind]; show Result.andThen ((Instr.storeAt tC (a2.eval (.tmp 1)) (a2.eval (.tmp 11))).run P w1) _ = _; rw [ev 1 q (by rw [s2 1 (by decide) (by decide), t1]), ev 11 _ s11, h2]; rfl) ?_
  rw [d3]
  exact hk _ hdf
end
set_option maxHeartbeats 4000000 in
set_option maxRecDepth 100000 in
theorem get1_catch (p q : Value) (n : Int) {w w1 w2 : World} (h1 : (Instr.storeAt 57 p (.agg pkZ)).run Tryz.prog w = .ok () w1) (h2 : (Instr.storeAt 46 q (.int .u8 n)).run Tryz.prog w1 = .ok () w2) :
    CallsD Tryz.prog 39 #[p, q] (.panicking (chain n)) w fun e u' w' => e = .returned (.tuple #[]) ∧ u' = .panicking [{ v := .iface 115 (.int .u8 n), recovered := true }] ∧ w' = w2 := by
  refine callsD_of_wpS Tryz.func39 rfl fun c₀ cs hu => ?_
  apply wpS_seq
  apply wpS_region
  simp [wpOpsS, go_sem, recoverD, hu, Exit.thenS, assert_is]
  apply wpS_seq
  apply wpS_region
  simp [wpOpsS, go_sem, Exit.thenS]
  refine wpS_cond (t := true) (by simp [Act.eval, Array.replicate]) ?_
  simp only [if_true]
  apply wpS_region
  show wpOpsS Tryz.prog _ _ [0, 1, 2, 3] _ _ _
  refine catch_region (p := p) (q := q) (n := n) (z := pkZ) (tP := 57) (tC := 46) (w1 := w1) (w2 := w2) rfl rfl rfl rfl rfl rfl rfl rfl rfl rfl rfl rfl rfl rfl rfl rfl (by simp) (by simp) (by simp) (by simp) build_none h1 h2 fun a' ha' => ?_
  exact ⟨ha', _, rfl, .tuple #[], by simp [results], rfl, rfl, rfl⟩
theorem mixed0 : Tryz.prog.follows .mixedOrders = true := by kernel_rfl
set_option maxRecDepth 100000 in
theorem must_panics (w : World) : Calls Tryz.prog 41 #[.bool false] w fun e w' => e = .panicked (chain 129) ∧ w' = w := by
  have u115 := run_underlying Tryz.underlying115
  have hmi : ∀ (x : Value) (w : World), (Instr.makeInterface 115 x).run Tryz.prog w = .ok (.iface 115 x) w := fun x w => by simp [Instr.makeInterface, u115]
  have hpa : ∀ (v : Value) (w : World), (Instr.panic (.iface 115 v)).run Tryz.prog w = .halt (.panic (.iface 115 v)) w := fun v w => rfl
  go_enter Tryz.func41, Tryz.ntmps41
  go_wp2
  exact ⟨rfl, rfl, rfl, rfl⟩
abbrev β0 : As := ⟨fun _ => 0, fun _ => ⟨none, 0, 0⟩⟩
abbrev noT : TypeId → Bool := fun _ => false
abbrev noC : Nat → List XV → Nat → XSt → Option XR := fun _ _ _ _ => none
noncomputable def hB : Code := bodyOf Tryz.f40
noncomputable def hr0 : Option (List XO) := xCode Tryz.prog noT [] noC (Func.ntmps Tryz.f40) 0 (cL hB) (argE [.int .i64 0] 0 .lf) 0 .lf
noncomputable def hr1 : Option (List XO) := xCode Tryz.prog noT [] noC (Func.ntmps Tryz.f40) 0 (cL (cR hB)) (getO hr0).e (getO hr0).n (getO hr0).s
noncomputable def hR : Array Oper := cOps (cL (cR (cR hB)))
noncomputable def hY : Option (List XT) := xT Tryz.prog noT [] noC (Func.ntmps Tryz.f40) hR false (OTree.ofList [0, 1, 2]) ⟨(getO hr1).e, [], [], (getO hr1).n, (getO hr1).s⟩
theorem hB_eq : hB = .seq (cL hB) (.seq (cL (cR hB)) (.seq (.region (cId (cL (cR (cR hB)))) hR false) (cR (cR (cR hB))))) := by kernel_rfl
theorem hr0_ok : isO hr0 = true := by kernel_rfl
theorem hr1_ok : isO hr1 = true := by kernel_rfl
theorem hY_ok : isT1 hY = true := by kernel_rfl
def callAt (o : Oper) : Option (Nat × List Operand) :=
  match o.guard with
  | none => match o.op with
    | .call c => match c.callee with
      | .value (.func f) => some (f, c.args.toList)
      | _ => none
    | _ => none
  | _ => none
theorem callAt_ok {o : Oper} {f : Nat} {l : List Operand} (h : callAt o = some (f, l)) : o.guard = none ∧ ∃ c, o.op = .call c ∧ c.callee = .value (.func f) ∧ c.args.toList = l := by
  unfold callAt at h
  split at h
  · rename_i hg
    split at h
    · rename_i c hc
      split at h
      · rename_i g hf; cases h; exact ⟨hg, c, hc, hf, rfl⟩
      · cases h
    · cases h
  · cases h
theorem head_00 {L : List Asn} {h : Heap} (hs : sat h L) : ∀ w, w.heap = h → Calls Tryz.prog 40 #[.int .i64 0] w fun e w' => ∃ ch, e = .panicked ch ∧ Same w w' ∧ (ch = chain 129 ∧ sat w'.heap L) := by
  refine panics_of_HW (args := vals β0 [.int .i64 0]) (c := hB) (Q := fun ch h' => ch = chain 129 ∧ sat h' L) Tryz.func40 rfl ?_
  rw [hB_eq]
  have hcl : CloS 0 (Tri.lf : XSt) := fun k f hk => by cases hk
  refine HW_run (r := hr0) T2no callNo mixed0 coNil rfl hr0_ok (actArgs _ β0 [.int .i64 0] (by kernel_rfl)) (invArgs hcl rfl) (show sat h (asn β0 .lf ++ L) from hs) fun γ a1 h1 e1 ha hA hI hs1 => ?_
  refine HW_run (r := hr1) T2no callNo mixed0 coNil rfl hr1_ok hA hI hs1 fun γ2 a2 h2 e2 ha2 hA2 hI2 hs2 => ?_
  refine HW_seq ?_
  obtain ⟨hg, c, ho, hc, hargs⟩ := callAt_ok (o := hR.getD 3 default) (f := 41) (l := [.tmp 9]) (by kernel_rfl)
  refine HW_call_panics (us := [.bool false]) (l := [0, 1, 2]) (r := []) (j := 3) (o := hR.getD 3 default) (Qp := fun γ ch h' => ch = chain 129 ∧ sat h' L) T2no callNo coNil (by kernel_rfl) (isT1_ok hY_ok) (by kernel_rfl) hg ho hc (by rw [hargs]; kernel_rfl) Tryz.call41 hA2 hI2 hs2 (fun γ3 h3 _ _ hs3 w hw => ?_) (fun γ3 ch a' h' _ hdf _ _ _ hq => ⟨hdf, hq⟩)
  refine (must_panics w).mono ?_
  rintro e w' ⟨rfl, rfl⟩
  refine ⟨_, rfl, Same.refl _, rfl, ?_⟩
  rw [hw]
  exact Sub.s (by
    have : ∀ (A B : List Asn), Go.H.Sub (A ++ B) B := fun A => by
      induction A with
      | nil => exact fun B => Go.H.Sub.rfl
      | cons a A ih => exact fun B => Go.H.Sub.drop (ih B)
    exact this _ L) hs3
theorem sub_right (L : List Asn) : ∀ (A : List Asn), Go.H.Sub (A ++ L) L := fun A => by
  induction A with
  | nil => exact Go.H.Sub.rfl
  | cons a A ih => exact Go.H.Sub.drop ih
noncomputable def gB : Code := bodyOf Tryz.f21
noncomputable abbrev gN : Nat := Func.ntmps Tryz.f21
noncomputable def gr0 : Option (List XO) := xCode Tryz.prog noT [] noC gN 0 (cL gB) (argE [.str ⟨#[0, 0]⟩] 0 .lf) 0 .lf
noncomputable def gD : Array Oper := cOps (cL (cR gB))
noncomputable def gr2 : Option (List XO) := xCode Tryz.prog noT [] noC gN 0 (cL (cR (cR gB))) (xSet (getO gr0).e (some 7) (.func 39 [] [.ptr 0 0, .ptr 1 0])) (getO gr0).n (getO gr0).s
noncomputable def gR : Array Oper := cOps (cL (cR (cR (cR gB))))
noncomputable def gY : Option (List XT) := xT Tryz.prog noT [] noC gN gR false (OTree.ofList [0, 1, 2]) ⟨(getO gr2).e, [], [], (getO gr2).n, (getO gr2).s⟩
theorem gB_eq : gB = .seq (cL gB) (.seq (.region (cId (cL (cR gB))) gD false) (.seq (cL (cR (cR gB))) (.seq (.region (cId (cL (cR (cR (cR gB))))) gR false) (cR (cR (cR (cR gB))))))) := by kernel_rfl
theorem gr0_ok : isO gr0 = true := by kernel_rfl
theorem gr2_ok : isO gr2 = true := by kernel_rfl
theorem gY_ok : isT1 gY = true := by kernel_rfl
theorem gD_ok : defOps gD.toList = some (39, [.tmp 2, .tmp 3], 7) := by kernel_rfl
def getS (o : Option XSt) : XSt :=
  match o with
  | some s => s
  | none => .lf
def isS (o : Option XSt) : Bool :=
  match o with
  | some _ => true
  | none => false
theorem isS_ok {o : Option XSt} (h : isS o = true) : o = some (getS o) := by
  cases o with
  | none => cases h
  | some s => rfl
noncomputable def gs1 : Option XSt := xStore Tryz.prog 57 (getT gY).n (getT gY).s (.ptr 0 0) (.agg pkX)
noncomputable def gs2 : Option XSt := xStore Tryz.prog 46 (getT gY).n (getS gs1) (.ptr 1 0) (.int .u8 129)
theorem gs1_ok : isS gs1 = true := by kernel_rfl
theorem gs2_ok : isS gs2 = true := by kernel_rfl
set_option maxHeartbeats 4000000 in
set_option maxRecDepth 100000 in
theorem get_00 {L : List Asn} {h : Heap} (hs : sat h L) {Q : Value → Heap → Prop} (hq : ∀ h', sat h' L → Q (.tuple #[.agg pkZ, .int .u8 129]) h') : HCalls Tryz.prog 21 #[.string ⟨#[0, 0]⟩] h Q := by
  intro w hw
  subst hw
  refine calls_of_wp_defers (c := gB) Tryz.func21 rfl ?_
  have hd : HW Tryz.prog gB { tmps := (vals β0 [.str ⟨#[0, 0]⟩]).toArray ++ Array.replicate (gN - (vals β0 [.str ⟨#[0, 0]⟩]).toArray.size) undef, defers := [] } w.heap (fun ex a' h' => match ex with
      | .panic ch => ch = chain 129 ∧ ∃ γ, a'.defers = [offD 39 (vals γ [.ptr 0 0, .ptr 1 0]).toArray] ∧ a'.tmps.size = gN ∧ a'.tmps[2]? = some (val γ (.ptr 0 0)) ∧ a'.tmps[3]? = some (val γ (.ptr 1 0)) ∧ CloS (getT gY).n (getT gY).s ∧ sat h' (asn γ (getT gY).s ++ L)
      | _ => False) := by
    rw [gB_eq]
    have hcl : CloS 0 (Tri.lf : XSt) := fun k f hk => by cases hk
    refine HW_run (r := gr0) T2no callNo mixed0 coNil rfl gr0_ok (actArgs _ β0 [.str ⟨#[0, 0]⟩] (by kernel_rfl)) (invArgs hcl rfl) (show sat w.heap (asn β0 .lf ++ L) from hs) fun γ a1 h1 e1 ha hA hI hs1 => ?_
    refine HW_seq ?_
    have hev : xevs (getO gr0).e [.tmp 2, .tmp 3] = some [.ptr 0 0, .ptr 1 0] := by kernel_rfl
    refine HW_defer gD_ok (by rw [hA.size]; exact of_decide_eq_true (by kernel_rfl)) ?_
    have hev2 : ([.tmp 2, .tmp 3] : List Operand).map a1.eval = vals γ [.ptr 0 0, .ptr 1 0] := hA.evs (xevs_ok hI.ag hev)
    rw [hev2]
    have h7 : ∀ s : Nat, some 7 = some s → s < gN := fun s hs => by cases hs; exact of_decide_eq_true (by kernel_rfl)
    have hA2 : AgreeD [offD 39 (vals γ [.ptr 0 0, .ptr 1 0]).toArray] gN (e1.put (some 7) (val γ (.func 39 [] [.ptr 0 0, .ptr 1 0]))) { (a1.put (some 7) (val γ (.func 39 [] [.ptr 0 0, .ptr 1 0]))) with defers := offD 39 (vals γ [.ptr 0 0, .ptr 1 0]).toArray :: a1.defers } := by
      have h3 := hA.put (dst := some 7) h7 (val γ (.func 39 [] [.ptr 0 0, .ptr 1 0]))
      refine ⟨h3.size, ?_, h3.get⟩
      show _ :: a1.defers = _
      rw [hA.defers]
    refine HW_run (r := gr2) T2no callNo mixed0 coNil rfl gr2_ok hA2 ⟨hI.ag.set (some 7) _, cloE_set' hI.ce (Nat.le_refl _) (by kernel_rfl), hI.cs⟩ hs1 fun γ2 a2 h2 e2 ha2 hA3 hI2 hs2 => ?_
    refine HW_seq ?_
    obtain ⟨hg, c, ho, hc, hargs⟩ := callAt_ok (o := gR.getD 3 default) (f := 40) (l := [.tmp 13]) (by kernel_rfl)
    have e0 : (vals γ [.ptr 0 0, .ptr 1 0] : List Value) = vals γ2 [.ptr 0 0, .ptr 1 0] := vals_agr ha2 _ (by kernel_rfl)
    rw [e0] at hA3
    refine HW_call_panics (us := [.int .i64 0]) (l := [0, 1, 2]) (r := [4]) (j := 3) (o := gR.getD 3 default) (Qp := fun γ ch h' => ch = chain 129 ∧ sat h' (asn γ (getT gY).s ++ L)) T2no callNo coNil (by kernel_rfl) (isT1_ok gY_ok) (by kernel_rfl) hg ho hc (by rw [hargs]; kernel_rfl) Tryz.call40 hA3 hI2 hs2 (fun γ3 h3 _ _ hs3 w3 hw => head_00 hs3 w3 hw) (fun γ3 ch a' h' ha3 hdf hsz hcy hget hq => ⟨hq.1, γ3, ?_, hsz, hget 2 _ (by kernel_rfl), hget 3 _ (by kernel_rfl), hcy, hq.2⟩)
    rw [hdf]
    have e1 : (vals γ2 [.ptr 0 0, .ptr 1 0] : List Value) = vals γ3 [.ptr 0 0, .ptr 1 0] := vals_agr ha3 _ (by kernel_rfl)
    rw [e1]
  refine wp_mono (hd w rfl) ?_
  rintro ex a' w' ⟨hsm, hq'⟩
  cases ex with
  | normal => exact hq'.elim
  | ret => exact hq'.elim
  | exit id => exact hq'.elim
  | goto l => exact hq'.elim
  | outgrown => exact hq'.elim
  | panic ch =>
    obtain ⟨rfl, γ, hdf, hsz, t2, t3, hcy, hs1⟩ := hq'
    simp only [bodyPostD, hdf]
    have z1 := xStore_ok (ρ := Unit) (β := γ) (L := L) (Q := fun _ h' => CloS (getT gY).n (getS gs1) ∧ sat h' (asn γ (getS gs1) ++ L)) (k := fun _ => HM.pure ()) (isS_ok gs1_ok) hcy (fun hc h' hs' => ⟨hc, hs'⟩) w'.heap hs1
    obtain ⟨w1, r1, sm1, hc1, hs2⟩ := denStore_sound z1 w' rfl
    have z2 := xStore_ok (ρ := Unit) (β := γ) (L := L) (Q := fun _ h' => CloS (getT gY).n (getS gs2) ∧ sat h' (asn γ (getS gs2) ++ L)) (k := fun _ => HM.pure ()) (isS_ok gs2_ok) hc1 (fun hc h' hs' => ⟨hc, hs'⟩) w1.heap hs2
    obtain ⟨w2, r2, sm2, hc2, hs3⟩ := denStore_sound z2 w1 rfl
    refine leaves_cons (f := 39) (args := #[] ++ (vals γ [.ptr 0 0, .ptr 1 0]).toArray) (by simp) (Tryz.call39 _ w') ?_
    refine (get1_catch (val γ (.ptr 0 0)) (val γ (.ptr 1 0)) 129 (w := w') (w1 := w1) (w2 := w2) r1 r2).mono ?_
    rintro e u' w'' ⟨rfl, rfl, rfl⟩
    have hA4 : AgreeD a'.defers gN [(2, val γ (.ptr 0 0)), (3, val γ (.ptr 1 0))] a' := ⟨hsz, rfl, fun t v ht => by
      simp only [Env.get] at ht
      split at ht
      · rename_i hb; rw [← Nat.eq_of_beq_eq_true hb]; cases ht; exact t2
      · split at ht
        · rename_i hb; rw [← Nat.eq_of_beq_eq_true hb]; cases ht; exact t3
        · cases ht⟩
    have hE : EAg γ (add 2 (.ptr 0 0) (add 3 (.ptr 1 0) .lf)) [(2, val γ (.ptr 0 0)), (3, val γ (.ptr 1 0))] := fun t v hv => by
      unfold add at hv
      rw [ins_get 3 _ 2 t _ (by decide)] at hv
      split at hv
      · rename_i ht; subst ht; cases hv; rfl
      · rw [ins_get 4 _ 3 t _ (by decide)] at hv
        split at hv
        · rename_i ht; subst ht; cases hv; rfl
        · cases hv
    have hres := xRes_ok (P := Tryz.prog) (L := L) (ρ := Unit) (Q := fun _ _ => True) (rs := (Func.results Tryz.f21).toList) (vs := [.agg pkX, .int .u8 129]) (kk := fun us h2 _ => us = vals γ [.agg pkX, .int .u8 129]) hE (by kernel_rfl) (fun h2 hs2 => rfl) w''.heap hs3
    obtain ⟨us, hres, rfl⟩ := denRet_sound hA4 _ _ hres
    refine ⟨_, results_run hres, _, rfl, hsm.trans (sm1.trans sm2), ?_⟩
    exact hq _ ((sub_right L _).s hs3)
end Go.Proofs.YtkpjgmdaolohiaaGreatDoor
namespace Go.Proofs.YtkpjgmdaolohiaaGreatDoor
set_option linter.unusedSimpArgs false
set_option linter.unusedVariables false
open Go.H Go.Proofs Go.Shelf
def keysS_ren : Go.Shelf.Ren := ⟨fun n => match n with | 7 => 99 | 10 => 148 | n => n, fun n => match n with | 23 => 176 | 26 => 3 | 3 => 174 | 28 => 147 | 0 => 0 | 27 => 146 | 33 => 144 | 4 => 4 | n => n, fun n => n⟩
theorem keysS : SlLaysZI.n7 Tryz.prog keysS_ren where
  mixed := by kernel_rfl
  f7 := ⟨Tryz.f99.name, by kernel_rfl, Tryz.func99.trans (congrArg some (by kernel_rfl))⟩
  f10 := ⟨Tryz.f148.name, by kernel_rfl, Tryz.func148.trans (congrArg some (by kernel_rfl))⟩
  t0 := Tryz.underlying0
  a0 := Tryz.isAgg0
  z0 := Tryz.sizeOf0
  v0 := Tryz.zeroValue0
  t4 := Tryz.underlying4
  a4 := Tryz.isAgg4
  z4 := Tryz.sizeOf4
  v4 := Tryz.zeroValue4
  t23 := Tryz.underlying176
  a23 := Tryz.isAgg176
  z23 := Tryz.sizeOf176
  v23 := Tryz.zeroValue176
  t26 := Tryz.underlying3
  a26 := Tryz.isAgg3
  z26 := Tryz.sizeOf3
  v26 := Tryz.zeroValue3
  t27 := Tryz.underlying146
  a27 := Tryz.isAgg146
  z27 := Tryz.sizeOf146
  v27 := Tryz.zeroValue146
  t28 := Tryz.underlying147
  a28 := Tryz.isAgg147
  z28 := Tryz.sizeOf147
  v28 := Tryz.zeroValue147
  t33 := Tryz.underlying144
  a33 := Tryz.isAgg144
  z33 := Tryz.sizeOf144
  v33 := Tryz.zeroValue144
end Go.Proofs.YtkpjgmdaolohiaaGreatDoor
namespace Go.Proofs.YtkpjgmdaolohiaaGreatDoor
open Go.H Go.X Go.Proofs Go.Shelf Go.RowKit
set_option linter.unusedSimpArgs false
set_option linter.unusedVariables false
abbrev wkC : List Nat := [70, 41, 182, 144, 33, 29, 157, 114, 71, 32, 94, 64, 38, 35, 34, 127, 100, 93, 30, 27, 145, 79, 4, 31, 20, 18, 16, 12, 116, 11, 104, 96, 95, 92, 81, 65, 54, 51, 50, 49, 21, 169, 156, 155, 130, 115, 111, 103, 99, 85, 80, 78, 73, 72, 7, 68, 63, 61, 59, 58, 57, 56, 55, 53, 47, 42, 40, 36, 25, 23, 202, 196, 17, 165, 163, 162, 154, 149, 14, 13, 128, 124, 121, 112, 107, 106, 102, 10, 197]
theorem wkC_ok : ∀ f, f ∈ wkC → CallOK Tryz.prog f := (coCons Tryz.call70 (coCons Tryz.call41 (coCons Tryz.call182 (coCons Tryz.call144 (coCons Tryz.call33 (coCons Tryz.call29 (coCons Tryz.call157 (coCons Tryz.call114 (coCons Tryz.call71 (coCons Tryz.call32 (coCons Tryz.call94 (coCons Tryz.call64 (coCons Tryz.call38 (coCons Tryz.call35 (coCons Tryz.call34 (coCons Tryz.call127 (coCons Tryz.call100 (coCons Tryz.call93 (coCons Tryz.call30 (coCons Tryz.call27 (coCons Tryz.call145 (coCons Tryz.call79 (coCons Tryz.call4 (coCons Tryz.call31 (coCons Tryz.call20 (coCons Tryz.call18 (coCons Tryz.call16 (coCons Tryz.call12 (coCons Tryz.call116 (coCons Tryz.call11 (coCons Tryz.call104 (coCons Tryz.call96 (coCons Tryz.call95 (coCons Tryz.call92 (coCons Tryz.call81 (coCons Tryz.call65 (coCons Tryz.call54 (coCons Tryz.call51 (coCons Tryz.call50 (coCons Tryz.call49 (coCons Tryz.call21 (coCons Tryz.call169 (coCons Tryz.call156 (coCons Tryz.call155 (coCons Tryz.call130 (coCons Tryz.call115 (coCons Tryz.call111 (coCons Tryz.call103 (coCons Tryz.call99 (coCons Tryz.call85 (coCons Tryz.call80 (coCons Tryz.call78 (coCons Tryz.call73 (coCons Tryz.call72 (coCons Tryz.call7 (coCons Tryz.call68 (coCons Tryz.call63 (coCons Tryz.call61 (coCons Tryz.call59 (coCons Tryz.call58 (coCons Tryz.call57 (coCons Tryz.call56 (coCons Tryz.call55 (coCons Tryz.call53 (coCons Tryz.call47 (coCons Tryz.call42 (coCons Tryz.call40 (coCons Tryz.call36 (coCons Tryz.call25 (coCons Tryz.call23 (coCons Tryz.call202 (coCons Tryz.call196 (coCons Tryz.call17 (coCons Tryz.call165 (coCons Tryz.call163 (coCons Tryz.call162 (coCons Tryz.call154 (coCons Tryz.call149 (coCons Tryz.call14 (coCons Tryz.call13 (coCons Tryz.call128 (coCons Tryz.call124 (coCons Tryz.call121 (coCons Tryz.call112 (coCons Tryz.call107 (coCons Tryz.call106 (coCons Tryz.call102 (coCons Tryz.call10 (coCons Tryz.call197 coNil)))))))))))))))))))))))))))))))))))))))))))))))))))))))))))))))))))))))))))))))))))))))))
def hkGet (args : List XV) (n : Nat) (s : XSt) : Option XR :=
  match args with
  | [.str b] => match decide (b = ⟨#[0, 0]⟩) with
    | true => some (.tup [.agg pkX, .int .u8 129], n, s)
    | false => none
  | _ => none
theorem hkGet_ok {args : List XV} {n n' : Nat} {s s' : XSt} {v : XV} (h : hkGet args n s = some (v, n', s')) (hcl : CloS n s) (hca : clos n args = true) (β : As) (L : List Asn) (Q : Value → Heap → Prop) (hq : GoesR L Q β n (v, n', s')) :
    FW Tryz.prog 21 (vals β args).toArray (asn β s ++ L) Q := by
  unfold hkGet at h
  split at h
  · rename_i b
    split at h
    · rename_i hb
      cases h
      rw [of_decide_eq_true hb]
      exact fun h hs => get_00 hs fun h' hs' => hq β Agr.rfl (Nat.le_refl _) hcl h' hs'
    · cases h
  · cases h
noncomputable def wkHook : Hook := fun f => match f with
  | 197 => some hkCheck
  | 35 => some hkString
  | 61 => some (hkSorted [148])
  | 21 => some hkGet
  | _ => none
theorem wkKeys : ∀ g, memN g [148] = true → KeysLaid g := fun g hg => by
  have := memN_sound hg
  rw [List.mem_singleton.1 this]
  exact ⟨keysS_ren, keysS, rfl, enters_of Tryz.func148 (by kernel_rfl) rfl⟩
theorem wkHook_ok : HookS Tryz.prog wkHook := by
  intro f g hg args n s v n' s' h hcl hca β L Q hq
  unfold wkHook at hg
  split at hg
  · cases hg; exact hkCheck_ok h hcl hca β L Q hq
  · cases hg; exact hkString_ok h hcl hca β L Q hq
  · cases hg; exact hkSorted_ok wkKeys h hcl hca β L Q hq
  · cases hg; exact hkGet_ok h hcl hca β L Q hq
  · cases hg
noncomputable def wkCfg : XCfg := ⟨wkHook, fun f => Nat.beq f 21, fun f => Nat.beq f 39⟩
theorem wkIdle : IdleS Tryz.prog wkCfg.idle := by
  intro g hg
  have hg := Nat.eq_of_beq_eq_true hg
  subst hg
  refine ⟨Tryz.call39, fun caps w hc => ?_⟩
  obtain ⟨l⟩ := caps
  match l, hc with
  | [p, q], _ => exact (get1_idle p q w).mono fun e u' w' ⟨h1, h2, h3⟩ => ⟨⟨_, h1⟩, h2, h3⟩
def isTrue (r : Option XR) : Bool :=
  match r with
  | some (.bool b, _, _) => b
  | _ => false
theorem isTrue_ok {r : Option XR} (h : isTrue r = true) : ∃ n s, r = some (.bool true, n, s) := by
  unfold isTrue at h
  split at h
  · subst h; exact ⟨_, _, rfl⟩
  · cases h
theorem wk_run : isTrue (xCall Tryz.prog noT wkC wkCfg 1000 1000 7 [] 0 .lf) = true := by kernel_rfl
theorem wakes_w {L : List Asn} {Q : Value → Heap → Prop} (hq : At L (Q (.bool true))) : FW Tryz.prog 7 #[] L Q := by
  obtain ⟨n, s, hr⟩ := isTrue_ok wk_run
  exact (xCall_all T2no mixed0 wkC_ok (G := wkCfg) wkHook_ok wkIdle (lf := 1000) 1000) _ [] 0 .lf _ _ _ hr (fun k f hk => by cases hk) β0 L Q fun γ _ _ _ => At.sub hq (sub_right L _)
end Go.Proofs.YtkpjgmdaolohiaaGreatDoor
namespace Go.Proofs.YtkpjgmdaolohiaaGreatDoor
open Go.ChangeShapes Go.WideShapes Go.ChangeAt Go.RowKit Go.Proofs Go.Lib Go.H
set_option linter.unusedSimpArgs false
set_option linter.unusedVariables false
set_option maxRecDepth 100000
def laid17 : List (String × DataW Unit) := Rows.frontNilRow.laid
noncomputable def laidWorld (os : Os) : World :=
  let w0 := World.doorLaid Tryz.prog 400 os
  { w0 with heap := w0.heap.modify 1 fun
      | .cells _ t frozen => .cells ((List.range 256).map fun c => Value.int .u8 (firstT c)).toArray t frozen
      | o => o }
theorem laid_met (os : Os) (args : Array Value) : laidMetH Tryz.prog laid17 ((laidWorld os).forCall (fun _ _ => 0) ⟨#[], args, []⟩).memory :=
  laidMetH_of_parts3 (fuel := 8) (laidMet_of_run' 8 (by kernel_rfl) (by kernel_rfl)) (by kernel_rfl) (by kernel_rfl)
abbrev NoHyp (_ : Heap) : Prop := True
theorem nohyp_of_laid {W : World} (h : laidMetH Tryz.prog laid17 W) (hsh : W.ShapedOpen Tryz.prog) : NoHyp W.heap := trivial
section
variable {H : Type} {ec : TypeId × Value → H} {w : World} {base : Nat} {sp : Nat → Bool} {held : Bool} {ok : TypeId → DataW H → Prop} {top : Nat} {wt : TypeId → Nat}
abbrev PropertyR20 : Type := Int × Int × ByteArray × ByteArray
theorem rd_Property20 (hk : Go.R.OkLaw Tryz.prog ok top wt) : Go.R.RdG ec Tryz.prog w base sp held ok 356 (fun x : PropertyR20 => [.int .i64 x.1, .int .i64 x.2.1, .string x.2.2.1, .string x.2.2.2]) (fun _ => True) :=
  Go.R.rg_map (fun x : PropertyR20 => x) (Go.R.rg_struct hk Tryz.underlying356 (n := 4) (by kernel_rfl) (Go.R.rf_cons (c := 1) (by kernel_rfl) (by rfl) (Go.R.rg_int Tryz.underlying3)
    (Go.R.rf_cons (c := 1) (by kernel_rfl) (by rfl) (Go.R.rg_int Tryz.underlying3)
    (Go.R.rf_cons (c := 1) (by kernel_rfl) (by rfl) (Go.R.rg_str hk Tryz.underlying9)
    (Go.R.rf_one (c := 1) (by kernel_rfl) (by rfl) (by decide) (Go.R.rg_str hk Tryz.underlying9)))))) (fun _ => rfl) (fun _ _ => trivial)
abbrev SubR20 : Type := ByteArray × Int × Bool × Bool × Int
theorem rd_Sub20 (hk : Go.R.OkLaw Tryz.prog ok top wt) : Go.R.RdG ec Tryz.prog w base sp held ok 357 (fun x : SubR20 => [.string x.1, .int .i64 x.2.1, .bool x.2.2.1, .bool x.2.2.2.1, .int .i64 x.2.2.2.2]) (fun _ => True) :=
  Go.R.rg_map (fun x : SubR20 => x) (Go.R.rg_struct hk Tryz.underlying357 (n := 5) (by kernel_rfl) (Go.R.rf_cons (c := 1) (by kernel_rfl) (by rfl) (Go.R.rg_str hk Tryz.underlying9)
    (Go.R.rf_cons (c := 1) (by kernel_rfl) (by rfl) (Go.R.rg_int Tryz.underlying3)
    (Go.R.rf_cons (c := 1) (by kernel_rfl) (by rfl) (Go.R.rg_bool Tryz.underlying4)
    (Go.R.rf_cons (c := 1) (by kernel_rfl) (by rfl) (Go.R.rg_bool Tryz.underlying4)
    (Go.R.rf_one (c := 1) (by kernel_rfl) (by rfl) (by decide) (Go.R.rg_int Tryz.underlying3))))))) (fun _ => rfl) (fun _ _ => trivial)
abbrev MessageR20 : Type := ByteArray × ByteArray × Int × Bool × ByteArray
theorem rd_Message20 (hk : Go.R.OkLaw Tryz.prog ok top wt) : Go.R.RdG ec Tryz.prog w base sp held ok 24 (fun x : MessageR20 => [.string x.1, .string x.2.1, .int .i64 x.2.2.1, .bool x.2.2.2.1, .string x.2.2.2.2]) (fun _ => True) :=
  Go.R.rg_map (fun x : MessageR20 => x) (Go.R.rg_struct hk Tryz.underlying24 (n := 5) (by kernel_rfl) (Go.R.rf_cons (c := 1) (by kernel_rfl) (by rfl) (Go.R.rg_str hk Tryz.underlying9)
    (Go.R.rf_cons (c := 1) (by kernel_rfl) (by rfl) (Go.R.rg_str hk Tryz.underlying9)
    (Go.R.rf_cons (c := 1) (by kernel_rfl) (by rfl) (Go.R.rg_int Tryz.underlying3)
    (Go.R.rf_cons (c := 1) (by kernel_rfl) (by rfl) (Go.R.rg_bool Tryz.underlying4)
    (Go.R.rf_one (c := 1) (by kernel_rfl) (by rfl) (by decide) (Go.R.rg_str hk Tryz.underlying9))))))) (fun _ => rfl) (fun _ _ => trivial)
abbrev WillR20 : Type := ByteArray × ByteArray × Int × Bool × (Slc × List PropertyR20)
theorem rd_Will20 (hk : Go.R.OkLaw Tryz.prog ok top wt) : Go.R.RdG ec Tryz.prog w base sp held ok 352 (fun x : WillR20 => [.string x.1, .string x.2.1, .int .i64 x.2.2.1, .bool x.2.2.2.1, .slice x.2.2.2.2.1.a x.2.2.2.2.1.len x.2.2.2.2.1.cap]) (fun _ => True) :=
  Go.R.rg_map (fun x : WillR20 => x) (Go.R.rg_struct hk Tryz.underlying352 (n := 5) (by kernel_rfl) (Go.R.rf_cons (c := 1) (by kernel_rfl) (by rfl) (Go.R.rg_str hk Tryz.underlying9)
    (Go.R.rf_cons (c := 1) (by kernel_rfl) (by rfl) (Go.R.rg_str hk Tryz.underlying9)
    (Go.R.rf_cons (c := 1) (by kernel_rfl) (by rfl) (Go.R.rg_int Tryz.underlying3)
    (Go.R.rf_cons (c := 1) (by kernel_rfl) (by rfl) (Go.R.rg_bool Tryz.underlying4)
    (Go.R.rf_one (c := 1) (by kernel_rfl) (by rfl) (by decide) (Go.R.rg_slice hk (size := 4) Tryz.underlying350 (by kernel_rfl) rfl (rd_Property20 hk)))))))) (fun _ => rfl) (fun _ _ => trivial)
abbrev PacketR20 : Type := Int × Bool × Bool × Int × Int × ByteArray × ByteArray × Int × (Slc × List Int) × (Slc × List PropertyR20) × ByteArray × Bool × Int × Bool × WillR20 × Bool × Bool × ByteArray × ByteArray × Bool × (Slc × List SubR20) × (Slc × List ByteArray)
theorem rd_Packet20 (hk : Go.R.OkLaw Tryz.prog ok top wt) : Go.R.RdG ec Tryz.prog w base sp held ok 355 (fun x : PacketR20 => [.int .i64 x.1, .bool x.2.1, .bool x.2.2.1, .int .i64 x.2.2.2.1, .int .i64 x.2.2.2.2.1, .string x.2.2.2.2.2.1, .string x.2.2.2.2.2.2.1, .int .u8 x.2.2.2.2.2.2.2.1, .slice x.2.2.2.2.2.2.2.2.1.1.a x.2.2.2.2.2.2.2.2.1.1.len x.2.2.2.2.2.2.2.2.1.1.cap, .slice x.2.2.2.2.2.2.2.2.2.1.1.a x.2.2.2.2.2.2.2.2.2.1.1.len x.2.2.2.2.2.2.2.2.2.1.1.cap, .string x.2.2.2.2.2.2.2.2.2.2.1, .bool x.2.2.2.2.2.2.2.2.2.2.2.1, .int .i64 x.2.2.2.2.2.2.2.2.2.2.2.2.1, .bool x.2.2.2.2.2.2.2.2.2.2.2.2.2.1, .string x.2.2.2.2.2.2.2.2.2.2.2.2.2.2.1.1, .string x.2.2.2.2.2.2.2.2.2.2.2.2.2.2.1.2.1, .int .i64 x.2.2.2.2.2.2.2.2.2.2.2.2.2.2.1.2.2.1, .bool x.2.2.2.2.2.2.2.2.2.2.2.2.2.2.1.2.2.2.1, .slice x.2.2.2.2.2.2.2.2.2.2.2.2.2.2.1.2.2.2.2.1.a x.2.2.2.2.2.2.2.2.2.2.2.2.2.2.1.2.2.2.2.1.len x.2.2.2.2.2.2.2.2.2.2.2.2.2.2.1.2.2.2.2.1.cap, .bool x.2.2.2.2.2.2.2.2.2.2.2.2.2.2.2.1, .bool x.2.2.2.2.2.2.2.2.2.2.2.2.2.2.2.2.1, .string x.2.2.2.2.2.2.2.2.2.2.2.2.2.2.2.2.2.1, .string x.2.2.2.2.2.2.2.2.2.2.2.2.2.2.2.2.2.2.1, .bool x.2.2.2.2.2.2.2.2.2.2.2.2.2.2.2.2.2.2.2.1, .slice x.2.2.2.2.2.2.2.2.2.2.2.2.2.2.2.2.2.2.2.2.1.1.a x.2.2.2.2.2.2.2.2.2.2.2.2.2.2.2.2.2.2.2.2.1.1.len x.2.2.2.2.2.2.2.2.2.2.2.2.2.2.2.2.2.2.2.2.1.1.cap, .slice x.2.2.2.2.2.2.2.2.2.2.2.2.2.2.2.2.2.2.2.2.2.1.a x.2.2.2.2.2.2.2.2.2.2.2.2.2.2.2.2.2.2.2.2.2.1.len x.2.2.2.2.2.2.2.2.2.2.2.2.2.2.2.2.2.2.2.2.2.1.cap]) (fun _ => True) :=
  Go.R.rg_map (fun x : PacketR20 => x) (Go.R.rg_struct hk Tryz.underlying355 (n := 26) (by kernel_rfl) (Go.R.rf_cons (c := 1) (by kernel_rfl) (by rfl) (Go.R.rg_int Tryz.underlying3)
    (Go.R.rf_cons (c := 1) (by kernel_rfl) (by rfl) (Go.R.rg_bool Tryz.underlying4)
    (Go.R.rf_cons (c := 1) (by kernel_rfl) (by rfl) (Go.R.rg_bool Tryz.underlying4)
    (Go.R.rf_cons (c := 1) (by kernel_rfl) (by rfl) (Go.R.rg_int Tryz.underlying3)
    (Go.R.rf_cons (c := 1) (by kernel_rfl) (by rfl) (Go.R.rg_int Tryz.underlying3)
    (Go.R.rf_cons (c := 1) (by kernel_rfl) (by rfl) (Go.R.rg_str hk Tryz.underlying9)
    (Go.R.rf_cons (c := 1) (by kernel_rfl) (by rfl) (Go.R.rg_str hk Tryz.underlying9)
    (Go.R.rf_cons (c := 1) (by kernel_rfl) (by rfl) (Go.R.rg_int Tryz.underlying5)
    (Go.R.rf_cons (c := 1) (by kernel_rfl) (by rfl) (Go.R.rg_slice hk (size := 1) Tryz.underlying99 (by kernel_rfl) rfl (Go.R.rg_int Tryz.underlying5))
    (Go.R.rf_cons (c := 1) (by kernel_rfl) (by rfl) (Go.R.rg_slice hk (size := 4) Tryz.underlying350 (by kernel_rfl) rfl (rd_Property20 hk))
    (Go.R.rf_cons (c := 1) (by kernel_rfl) (by rfl) (Go.R.rg_str hk Tryz.underlying9)
    (Go.R.rf_cons (c := 1) (by kernel_rfl) (by rfl) (Go.R.rg_bool Tryz.underlying4)
    (Go.R.rf_cons (c := 1) (by kernel_rfl) (by rfl) (Go.R.rg_int Tryz.underlying3)
    (Go.R.rf_cons (c := 1) (by kernel_rfl) (by rfl) (Go.R.rg_bool Tryz.underlying4)
    (Go.R.rf_cons (c := 5) (by kernel_rfl) (by rfl) (rd_Will20 hk)
    (Go.R.rf_cons (c := 1) (by kernel_rfl) (by rfl) (Go.R.rg_bool Tryz.underlying4)
    (Go.R.rf_cons (c := 1) (by kernel_rfl) (by rfl) (Go.R.rg_bool Tryz.underlying4)
    (Go.R.rf_cons (c := 1) (by kernel_rfl) (by rfl) (Go.R.rg_str hk Tryz.underlying9)
    (Go.R.rf_cons (c := 1) (by kernel_rfl) (by rfl) (Go.R.rg_str hk Tryz.underlying9)
    (Go.R.rf_cons (c := 1) (by kernel_rfl) (by rfl) (Go.R.rg_bool Tryz.underlying4)
    (Go.R.rf_cons (c := 1) (by kernel_rfl) (by rfl) (Go.R.rg_slice hk (size := 5) Tryz.underlying353 (by kernel_rfl) rfl (rd_Sub20 hk))
    (Go.R.rf_one (c := 1) (by kernel_rfl) (by rfl) (by decide) (Go.R.rg_slice hk (size := 1) Tryz.underlying55 (by kernel_rfl) rfl (Go.R.rg_str hk Tryz.underlying9))))))))))))))))))))))))) (fun _ => rfl) (fun _ _ => trivial)
abbrev EventR20 : Type := Int × Int × (Slc × List PacketR20) × ByteArray × Bool × MessageR20
abbrev EvT20 : Type := Int × Int × Slc × ByteArray × Bool × ByteArray × ByteArray × Int × Bool × ByteArray × Unit
def toEvent20 (x : EventR20) : EvT20 := (x.1, x.2.1, x.2.2.1.1, x.2.2.2.1, x.2.2.2.2.1, x.2.2.2.2.2.1, x.2.2.2.2.2.2.1, x.2.2.2.2.2.2.2.1, x.2.2.2.2.2.2.2.2.1, x.2.2.2.2.2.2.2.2.2, ())
theorem rd_Event20 (hk : Go.R.OkLaw Tryz.prog ok top wt) : Go.R.RdG ec Tryz.prog w base sp held ok 26 (fun x : EvT20 => [.int .i64 x.1, .int .i64 x.2.1, .slice x.2.2.1.a x.2.2.1.len x.2.2.1.cap, .string x.2.2.2.1, .bool x.2.2.2.2.1, .string x.2.2.2.2.2.1, .string x.2.2.2.2.2.2.1, .int .i64 x.2.2.2.2.2.2.2.1, .bool x.2.2.2.2.2.2.2.2.1, .string x.2.2.2.2.2.2.2.2.2.1]) (fun _ => True) :=
  Go.R.rg_map toEvent20 (Go.R.rg_struct hk Tryz.underlying26 (n := 10) (by kernel_rfl) (Go.R.rf_cons (c := 1) (by kernel_rfl) (by rfl) (Go.R.rg_int Tryz.underlying3)
    (Go.R.rf_cons (c := 1) (by kernel_rfl) (by rfl) (Go.R.rg_int Tryz.underlying3)
    (Go.R.rf_cons (c := 1) (by kernel_rfl) (by rfl) (Go.R.rg_slice hk (size := 26) Tryz.underlying22 (by kernel_rfl) rfl (rd_Packet20 hk))
    (Go.R.rf_cons (c := 1) (by kernel_rfl) (by rfl) (Go.R.rg_str hk Tryz.underlying9)
    (Go.R.rf_cons (c := 1) (by kernel_rfl) (by rfl) (Go.R.rg_bool Tryz.underlying4)
    (Go.R.rf_one (c := 5) (by kernel_rfl) (by rfl) (by decide) (rd_Message20 hk)))))))) (fun _ => rfl) (fun _ _ => trivial)
end
end Go.Proofs.YtkpjgmdaolohiaaGreatDoor
namespace Go.Proofs.YtkpjgmdaolohiaaGreatDoor
open Go.H Go.Proofs
set_option linter.unusedSimpArgs false
set_option linter.unusedVariables false
set_option maxRecDepth 100000
variable {h h0 : Heap} {L L' L1 L2 R : List Asn} {Q : Value → Heap → Prop}
abbrev nilS20 : Slc := ⟨none, 0, 0⟩
theorem fFeedNil_w {c : Int} {r : ByteArray} {full : Bool} (hq : At L (Q (.agg #[.slice none 0 0, .slice none 0 0]))) : FW Tryz.prog 4 #[.pointer none, .int .i64 c, .string r, .bool full] L Q := by
  refine fun h hs => front_Front_Feed_calls none c r full h Q ((?_ : W L _ _) h hs)
  clear hs h
  unfold front_Front_Feed
  refine W.newc fun x1 => ?_
  refine W.newc fun x2 => ?_
  refine W.tt rfl ?_
  refine W.loadN (b := x2) (v := (nilS20, nilS20, ())) ?_
  refine W.storeN (b := x1) ?_
  refine W.loadN (b := x1) (v := (nilS20, nilS20, ())) ?_
  exact W.pure hq.sub
theorem fLostNil_w {c : Int} {full : Bool} (hq : At L (Q (.agg #[.slice none 0 0, .slice none 0 0]))) : FW Tryz.prog 5 #[.pointer none, .int .i64 c, .bool full] L Q := by
  refine fun h hs => front_Front_Lost_calls none c full h Q ((?_ : W L _ _) h hs)
  clear hs h
  unfold front_Front_Lost
  refine W.newc fun x1 => ?_
  refine W.newc fun x2 => ?_
  refine W.tt rfl ?_
  refine W.loadN (b := x2) (v := (nilS20, nilS20, ())) ?_
  refine W.storeN (b := x1) ?_
  refine W.loadN (b := x1) (v := (nilS20, nilS20, ())) ?_
  exact W.pure hq.sub
theorem fDeliverNil_w {m : ByteArray × ByteArray × Int × Bool × ByteArray × Unit} (hq : At L (Q (.slice none 0 0))) : FW Tryz.prog 8 #[.pointer none, .agg #[.string m.1, .string m.2.1, .int .i64 m.2.2.1, .bool m.2.2.2.1, .string m.2.2.2.2.1]] L Q := by
  refine fun h hs => front_Front_Deliver_calls none m h Q ((?_ : W L _ _) h hs)
  clear hs h
  unfold front_Front_Deliver
  refine W.newc fun x1 => ?_
  exact W.tt rfl (W.pure hq.sub)
theorem fBrokerNil_w (hq : At L (Q (.pointer none))) : FW Tryz.prog 9 #[.pointer none] L Q := by
  refine fun h hs => front_Front_Broker_calls none h Q ((?_ : W L _ _) h hs)
  unfold front_Front_Broker
  exact W.tt rfl (W.pure hq)
theorem fRestartNil_w (hq : At L (Q (.tuple #[]))) : FW Tryz.prog 6 #[.pointer none] L Q := by
  refine fun h hs => front_Front_Restart_calls none h Q ((?_ : W L _ _) h hs)
  clear hs h
  unfold front_Front_Restart
  refine W.bf rfl ?_
  refine W.bpure ?_
  exact W.pure hq
set_option maxHeartbeats 16000000 in
theorem FrontNil_w {x : EvT20}
    (hq : ∀ h' R, sat h' (old h0 :: R) → Q (.bool true) h') : FW Tryz.prog 3 #[.agg #[.int .i64 x.1, .int .i64 x.2.1, .slice x.2.2.1.a x.2.2.1.len x.2.2.1.cap, .string x.2.2.2.1, .bool x.2.2.2.2.1, .string x.2.2.2.2.2.1, .string x.2.2.2.2.2.2.1, .int .i64 x.2.2.2.2.2.2.2.1, .bool x.2.2.2.2.2.2.2.2.1, .string x.2.2.2.2.2.2.2.2.2.1]] [old h0] Q := by
  have fin : ∀ {L L'}, Has L (old h0) L' → At L (Q (.bool true)) := fun hx h hs => hq h _ (hx.s hs)
  obtain ⟨what, conn, sl, raw, full, mt, mp, mq, mr, mg, ⟨⟩⟩ := x
  dsimp only
  refine fun h hs => law20_FrontNil_calls (what, conn, sl, raw, full, mt, mp, mq, mr, mg, ()) h Q ((?_ : W [old h0] _ _) h hs)
  clear hs h
  unfold law20_FrontNil
  refine W.newc fun x1 => ?_
  refine W.cells (b := x1) (#[.int .i64 what, .int .i64 conn, .slice sl.a sl.len sl.cap, .string raw, .bool full, .string mt, .string mp, .int .i64 mq, .bool mr, .string mg]) ?_
  have m1 : Int × Int := (0, 0)
  repeat' (first
    | with_reducible refine W.both ?_ ?_
    | refine W.call1 (fFeedNil_w (At.un (x := (nilS20, nilS20, ())) ?_))
    | refine W.call1 (fLostNil_w (At.un (x := (nilS20, nilS20, ())) ?_))
    | refine W.callN (fRestartNil_w (At.unN ?_))
    | refine W.bbind (W.call1 (wakes_w (At.un (x := true) ?_)))
    | refine W.call1 (wakes_w (At.un (x := true) ?_))
    | refine W.call1 (fDeliverNil_w (m := (mt, mp, mq, mr, mg, ())) (At.un (x := nilS20) ?_))
    | refine W.call1 (fBrokerNil_w (At.un (x := none) ?_))
    | refine W.bpure ?_
    | refine W.bbind ?_
    | refine W.newc fun _ => ?_
    | refine W.req ?_ rfl
    | refine W.load (b := x1) (v := full) ?_
    | refine W.load (b := x1) (v := conn) ?_
    | refine W.loadx (b := x1) (v := raw) ?_
    | refine W.loadNo (b := x1) (i := 5) (v := (mt, mp, mq, mr, mg, ())) ?_
    | refine W.load (v := nilS20) ?_
    | refine W.storeN ?_
    | refine W.bt rfl ?_
    | refine W.tt rfl ?_
    | exact W.pure (fin has0)
    | exact W.pure (fin (hasS has0)))
  all_goals exact W.pure (fin (by repeat (first | with_reducible exact Go.H.has0 | apply Go.H.hasS)))
end Go.Proofs.YtkpjgmdaolohiaaGreatDoor
