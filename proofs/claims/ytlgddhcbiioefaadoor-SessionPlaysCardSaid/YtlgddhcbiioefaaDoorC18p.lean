/-
  C18p: both tables of sessions over the same plain lists.
-/
import Derived.Test.YtlgddhcbiioefaaDoorCrg
namespace Go.Proofs.YtlgddhcbiioefaaDoor
open Go.H Go.Proofs
set_option linter.unusedSimpArgs false
set_option linter.unusedVariables false
set_option synthInstance.maxSize 100000
set_option synthInstance.maxHeartbeats 400000

/-! ### plain lists of sessions -/

def absS (s : SesS) : RS := ⟨s.id, s.client, s.keep, s.on, s.out.waiting⟩
def infoR (x : RS) : InT := (x.id, x.client, x.keep, x.on)

structure OKA (last : Int) (A : List RS) : Prop where
  rising : (A.map (·.id)).Pairwise (· < ·)
  ids : ∀ x ∈ A, 1 ≤ x.id ∧ x.id ≤ last
  clients : (A.map (·.client)).Nodup
  len : A.length ≤ 32
  wait : ∀ x ∈ A, x.waiting.length ≤ 256

def updR (k : Int) (f : RS → RS) (A : List RS) : List RS := A.map fun y => if y.id = k then f y else y
def delR (k : Int) (A : List RS) : List RS := A.filter fun y => decide (y.id ≠ k)

theorem rise_mid {a1 a2 : List RS} {x : RS} (hr : ((a1 ++ x :: a2).map (·.id)).Pairwise (· < ·)) : (∀ y ∈ a1, y.id ≠ x.id) ∧ (∀ y ∈ a2, y.id ≠ x.id) := by
  rw [List.map_append, List.map_cons, List.pairwise_append] at hr
  refine ⟨fun y hy e => ?_, fun y hy e => ?_⟩
  · have := hr.2.2 y.id (List.mem_map_of_mem hy) x.id (List.mem_cons_self ..)
    omega
  · have := (List.pairwise_cons.1 hr.2.1).1 y.id (List.mem_map_of_mem hy)
    omega
theorem upd_none {k : Int} {f : RS → RS} {A : List RS} (h : ∀ y ∈ A, y.id ≠ k) : updR k f A = A := by
  unfold updR
  conv => rhs; rw [← List.map_id A]
  exact List.map_congr_left fun y hy => if_neg (h y hy)
theorem upd_mid {k : Int} {f : RS → RS} {a1 a2 : List RS} {x : RS} (hr : ((a1 ++ x :: a2).map (·.id)).Pairwise (· < ·)) (hk : x.id = k) : updR k f (a1 ++ x :: a2) = a1 ++ f x :: a2 := by
  obtain ⟨h1, h2⟩ := rise_mid hr
  have e1 := upd_none (k := k) (f := f) (A := a1) (fun y hy => by rw [← hk]; exact h1 y hy)
  have e2 := upd_none (k := k) (f := f) (A := a2) (fun y hy => by rw [← hk]; exact h2 y hy)
  unfold updR at e1 e2 ⊢
  rw [List.map_append, List.map_cons, e1, e2, if_pos hk]
theorem del_none {k : Int} {A : List RS} (h : ∀ y ∈ A, y.id ≠ k) : delR k A = A := List.filter_eq_self.2 fun y hy => by simpa using h y hy
theorem del_mid {k : Int} {a1 a2 : List RS} {x : RS} (hr : ((a1 ++ x :: a2).map (·.id)).Pairwise (· < ·)) (hk : x.id = k) : delR k (a1 ++ x :: a2) = a1 ++ a2 := by
  obtain ⟨h1, h2⟩ := rise_mid hr
  have e1 := del_none (k := k) (A := a1) (fun y hy => by rw [← hk]; exact h1 y hy)
  have e2 := del_none (k := k) (A := a2) (fun y hy => by rw [← hk]; exact h2 y hy)
  unfold delR at e1 e2 ⊢
  rw [List.filter_append, List.filter_cons_of_neg (by simp [hk]), e1, e2]

theorem upd_ids {k : Int} {f : RS → RS} (hf : ∀ x, (f x).id = x.id) (A : List RS) : (updR k f A).map (·.id) = A.map (·.id) := by
  unfold updR
  rw [List.map_map]
  refine List.map_congr_left fun y _ => ?_
  simp only [Function.comp]
  split
  · exact hf y
  · rfl
theorem upd_clients {k : Int} {f : RS → RS} (hf : ∀ x, (f x).client = x.client) (A : List RS) : (updR k f A).map (·.client) = A.map (·.client) := by
  unfold updR
  rw [List.map_map]
  refine List.map_congr_left fun y _ => ?_
  simp only [Function.comp]
  split
  · exact hf y
  · rfl
theorem OKA.upd {last k : Int} {f : RS → RS} {A : List RS} (h : OKA last A) (h1 : ∀ x, (f x).id = x.id) (h2 : ∀ x, (f x).client = x.client) (h3 : ∀ x : RS, x.waiting.length ≤ 256 → (f x).waiting.length ≤ 256) : OKA last (updR k f A) where
  rising := by rw [upd_ids h1]; exact h.rising
  ids := fun x hx => by
    obtain ⟨y, hy, rfl⟩ := List.mem_map.1 hx
    split
    · rw [h1]; exact h.ids y hy
    · exact h.ids y hy
  clients := by rw [upd_clients h2]; exact h.clients
  len := by unfold updR; rw [List.length_map]; exact h.len
  wait := fun x hx => by
    obtain ⟨y, hy, rfl⟩ := List.mem_map.1 hx
    split
    · exact h3 y (h.wait y hy)
    · exact h.wait y hy
theorem OKA.del {last k : Int} {A : List RS} (h : OKA last A) : OKA last (delR k A) where
  rising := h.rising.sublist (List.Sublist.map _ List.filter_sublist)
  ids := fun x hx => h.ids x (List.mem_filter.1 hx).1
  clients := h.clients.sublist (List.Sublist.map _ List.filter_sublist)
  len := Nat.le_trans (List.length_filter_le _ _) h.len
  wait := fun x hx => h.wait x (List.mem_filter.1 hx).1
theorem OKA.add {last : Int} {A : List RS} (h : OKA last A) (h0 : 0 ≤ last) {x : RS} (hi : x.id = last + 1) (hw : x.waiting = []) (hc : ∀ y ∈ A, y.client ≠ x.client) (hl : A.length < 32) : OKA (last + 1) (A ++ [x]) where
  rising := by
    rw [List.map_append, List.map_cons, List.map_nil, List.pairwise_append]
    refine ⟨h.rising, by simp, fun a ha b hb => ?_⟩
    obtain ⟨y, hy, rfl⟩ := List.mem_map.1 ha
    rw [List.mem_singleton.1 hb, hi]
    have := h.ids y hy
    omega
  ids := fun y hy => by
    rcases List.mem_append.1 hy with hy | hy
    · have := h.ids y hy; omega
    · rw [List.mem_singleton.1 hy, hi]; omega
  clients := by
    rw [List.map_append, List.map_cons, List.map_nil, List.nodup_append]
    refine ⟨h.clients, by simp, fun a ha b hb => ?_⟩
    obtain ⟨y, hy, rfl⟩ := List.mem_map.1 ha
    rw [List.mem_singleton.1 hb]
    exact hc y hy
  len := by simp; omega
  wait := fun y hy => by
    rcases List.mem_append.1 hy with hy | hy
    · exact h.wait y hy
    · rw [List.mem_singleton.1 hy, hw]; simp

/-- what the two tables answer, and have -/
inductive EndR (A : List RS) (k : Int) : Bool → List RS → Prop
  | no : (∀ x ∈ A, x.id ≠ k) → EndR A k false A
  | off (x : RS) : x ∈ A → x.id = k → x.on = false → EndR A k false A
  | keep (x : RS) : x ∈ A → x.id = k → x.on = true → x.keep = true → EndR A k false (updR k (fun y => { y with on := false }) A)
  | del (x : RS) : x ∈ A → x.id = k → x.on = true → x.keep = false → EndR A k true (delR k A)

theorem id_uniq {A : List RS} (hr : (A.map (·.id)).Pairwise (· < ·)) {x y : RS} (hx : x ∈ A) (hy : y ∈ A) (e : x.id = y.id) : x = y := by
  obtain ⟨a1, a2, rfl⟩ := List.append_of_mem hx
  obtain ⟨h1, h2⟩ := rise_mid hr
  rcases List.mem_append.1 hy with h | h
  · exact absurd e.symm (h1 y h)
  · rcases List.mem_cons.1 h with h | h
    · exact h.symm
    · exact absurd e.symm (h2 y h)

theorem EndR.uniq {A : List RS} {k : Int} (hr : (A.map (·.id)).Pairwise (· < ·)) {a b : Bool} {X Y : List RS} (h1 : EndR A k a X) (h2 : EndR A k b Y) : a = b ∧ X = Y := by
  cases h1 with
  | no n1 => cases h2 with
    | no => exact ⟨rfl, rfl⟩
    | off x hx e => exact absurd e (n1 x hx)
    | keep x hx e => exact absurd e (n1 x hx)
    | del x hx e => exact absurd e (n1 x hx)
  | off x hx e o => cases h2 with
    | no n1 => exact absurd e (n1 x hx)
    | off => exact ⟨rfl, rfl⟩
    | keep y hy e' o' => have := id_uniq hr hx hy (e.trans e'.symm); subst this; rw [o] at o'; cases o'
    | del y hy e' o' => have := id_uniq hr hx hy (e.trans e'.symm); subst this; rw [o] at o'; cases o'
  | keep x hx e o kp => cases h2 with
    | no n1 => exact absurd e (n1 x hx)
    | off y hy e' o' => have := id_uniq hr hx hy (e.trans e'.symm); subst this; rw [o] at o'; cases o'
    | keep => exact ⟨rfl, rfl⟩
    | del y hy e' o' kp' => have := id_uniq hr hx hy (e.trans e'.symm); subst this; rw [kp] at kp'; cases kp'
  | del x hx e o kp => cases h2 with
    | no n1 => exact absurd e (n1 x hx)
    | off y hy e' o' => have := id_uniq hr hx hy (e.trans e'.symm); subst this; rw [o] at o'; cases o'
    | keep y hy e' o' kp' => have := id_uniq hr hx hy (e.trans e'.symm); subst this; rw [kp] at kp'; cases kp'
    | del => exact ⟨rfl, rfl⟩

theorem EndR.ok {last : Int} {A : List RS} {k : Int} {a : Bool} {X : List RS} (h : EndR A k a X) (ho : OKA last A) : OKA last X := by
  cases h with
  | no => exact ho
  | off => exact ho
  | keep => exact ho.upd (fun _ => rfl) (fun _ => rfl) (fun _ h => h)
  | del => exact ho.del

inductive BeginR (last : Int) (A : List RS) (c : ByteArray) (clean keep : Bool) : Int → Bool → Int → Int → List RS → Prop
  | bad : ¬ goodName c → BeginR last A c clean keep 0 false 133 last A
  | full : goodName c → (∀ x ∈ A, x.client ≠ c) → 32 ≤ A.length → BeginR last A c clean keep 0 false 151 last A
  | on (x : RS) : goodName c → clean = false → x ∈ A → x.client = c → BeginR last A c clean keep x.id true 0 last (updR x.id (fun y => { y with on := true, keep := keep }) A)
  | new : goodName c → (∀ x ∈ A, x.client ≠ c) → A.length < 32 → BeginR last A c clean keep (last + 1) false 0 (last + 1) (A ++ [⟨last + 1, c, keep, true, []⟩])
  | again (x : RS) : goodName c → clean = true → x ∈ A → x.client = c → BeginR last A c clean keep (last + 1) false 0 (last + 1) (delR x.id A ++ [⟨last + 1, c, keep, true, []⟩])

theorem client_uniq {A : List RS} (hr : (A.map (·.client)).Nodup) {x y : RS} (hx : x ∈ A) (hy : y ∈ A) (e : x.client = y.client) : x = y := by
  obtain ⟨a1, a2, rfl⟩ := List.append_of_mem hx
  rw [List.map_append, List.map_cons, List.nodup_append] at hr
  rcases List.mem_append.1 hy with h | h
  · exact absurd e.symm (hr.2.2 _ (List.mem_map_of_mem h) _ (List.mem_cons_self ..))
  · rcases List.mem_cons.1 h with h | h
    · exact h.symm
    · have := (List.nodup_cons.1 hr.2.1).1
      rw [e] at this
      exact absurd (List.mem_map_of_mem h) this

theorem BeginR.uniq {last : Int} {A : List RS} {c : ByteArray} {clean keep : Bool} (hr : (A.map (·.client)).Nodup) {a1 a2 : Int} {b1 b2 : Bool} {c1 c2 d1 d2 : Int} {X Y : List RS}
    (h1 : BeginR last A c clean keep a1 b1 c1 d1 X) (h2 : BeginR last A c clean keep a2 b2 c2 d2 Y) : a1 = a2 ∧ b1 = b2 ∧ c1 = c2 ∧ d1 = d2 ∧ X = Y := by
  cases h1 with
  | bad g => cases h2 <;> first | exact ⟨rfl, rfl, rfl, rfl, rfl⟩ | (exfalso; apply g; assumption)
  | full g n l => cases h2 with
    | bad g' => exact absurd g g'
    | full => exact ⟨rfl, rfl, rfl, rfl, rfl⟩
    | on x _ _ hx e => exact absurd e (n x hx)
    | new _ _ l' => omega
    | again x _ _ hx e => exact absurd e (n x hx)
  | on x g cl hx e => cases h2 with
    | bad g' => exact absurd g g'
    | full _ n => exact absurd e (n x hx)
    | on y _ _ hy e' => have := client_uniq hr hx hy (e.trans e'.symm); subst this; exact ⟨rfl, rfl, rfl, rfl, rfl⟩
    | new _ n => exact absurd e (n x hx)
    | again y _ cl' => rw [cl] at cl'; cases cl'
  | new g n l => cases h2 with
    | bad g' => exact absurd g g'
    | full _ _ l' => omega
    | on x _ _ hx e => exact absurd e (n x hx)
    | new => exact ⟨rfl, rfl, rfl, rfl, rfl⟩
    | again x _ _ hx e => exact absurd e (n x hx)
  | again x g cl hx e => cases h2 with
    | bad g' => exact absurd g g'
    | full _ n => exact absurd e (n x hx)
    | on y _ cl' => rw [cl] at cl'; cases cl'
    | new _ n => exact absurd e (n x hx)
    | again y _ _ hy e' => have := client_uniq hr hx hy (e.trans e'.symm); subst this; exact ⟨rfl, rfl, rfl, rfl, rfl⟩

theorem BeginR.ok {last : Int} {A : List RS} {c : ByteArray} {clean keep : Bool} {a : Int} {b : Bool} {cc d : Int} {X : List RS} (h : BeginR last A c clean keep a b cc d X) (ho : OKA last A) (h0 : 0 ≤ last) : OKA d X ∧ 0 ≤ d ∧ d ≤ last + 1 := by
  cases h with
  | bad => exact ⟨ho, h0, by omega⟩
  | full => exact ⟨ho, h0, by omega⟩
  | on => exact ⟨ho.upd (fun _ => rfl) (fun _ => rfl) (fun _ h => h), h0, by omega⟩
  | new g n l => exact ⟨ho.add h0 rfl rfl n l, by omega, by omega⟩
  | again x g cl hx e =>
    refine ⟨ho.del.add h0 rfl rfl (fun y hy => ?_) ?_, by omega, by omega⟩
    · obtain ⟨hy1, hy2⟩ := List.mem_filter.1 hy
      intro e'
      have := client_uniq ho.clients hx hy1 (e.trans e'.symm)
      subst this
      simp at hy2
    · obtain ⟨a1, a2, rfl⟩ := List.append_of_mem hx
      rw [del_mid ho.rising rfl]
      have := ho.len
      simp at this ⊢
      omega

/-! ### the program's table -/

def ptab (b : Nat) (last : Int) (A : List RS) : Asn := exA fun L : List (Nat × SesS) =>
  star (pr (L.map (fun p => absS p.2) = A ∧ ∀ p ∈ L, p.2.out.on = false ∧ p.2.inn.used = [])) (tabA b last L)

section
variable {h : Heap} {R : List Asn}
theorem ptab_iff {b : Nat} {last : Int} {A : List RS} : sat h (ptab b last A :: R) ↔ ∃ L : List (Nat × SesS), (L.map (fun p => absS p.2) = A ∧ ∀ p ∈ L, p.2.out.on = false ∧ p.2.inn.used = []) ∧ sat h (tabA b last L :: R) := by
  unfold ptab
  rw [sat.ex_iff]
  constructor
  · rintro ⟨L, hs⟩
    rw [sat.star_iff, sat.pr_iff] at hs
    exact ⟨L, hs⟩
  · rintro ⟨L, hs⟩
    exact ⟨L, by rw [sat.star_iff, sat.pr_iff]; exact hs⟩

theorem abs_mem {L : List (Nat × SesS)} {p : Nat × SesS} (hp : p ∈ L) : absS p.2 ∈ L.map (fun p => absS p.2) := List.mem_map_of_mem (f := fun p : Nat × SesS => absS p.2) hp
theorem abs_ids (L : List (Nat × SesS)) : (L.map fun p => absS p.2).map (·.id) = L.map (·.2.id) := by rw [List.map_map]; rfl
theorem abs_mid {l1 l2 : List (Nat × SesS)} {p : Nat × SesS} : (l1 ++ p :: l2).map (fun p => absS p.2) = l1.map (fun p => absS p.2) ++ absS p.2 :: l2.map (fun p => absS p.2) := by simp

theorem pEnd {b : Nat} {last : Int} {A : List RS} {k : Int} (hs : sat h (ptab b last A :: R)) (ho : OKA last A) {Q : Value → Heap → Prop}
    (hq : ∀ a X h', EndR A k a X → sat h' (ptab b last X :: R) → Q (.bool a) h') : HCalls Tryd.prog 17 #[at0 b, .int .i64 k] h Q := by
  obtain ⟨L, ⟨rfl, hoff⟩, hsL⟩ := ptab_iff.1 hs
  refine End_spec hsL (fun hn => hq _ _ h (.no ?_) (ptab_iff.2 ⟨L, ⟨rfl, hoff⟩, hsL⟩)) (fun p hp e o => hq _ _ h (.off (absS p.2) (abs_mem hp) e o) (ptab_iff.2 ⟨L, ⟨rfl, hoff⟩, hsL⟩))
    (fun l1 p l2 hL e o kp h' hs' => ?_) (fun l1 p l2 hL e o kp h' hs' => ?_)
  · intro x hx
    obtain ⟨p, hp, rfl⟩ := List.mem_map.1 hx
    exact hn p hp
  · subst hL
    refine hq _ _ h' (.keep (absS p.2) (abs_mem (List.mem_append_right _ (List.mem_cons_self ..))) e o kp) (ptab_iff.2 ⟨_, ⟨?_, fun q hq' => ?_⟩, hs'⟩)
    · have hr := ho.rising
      rw [abs_mid] at hr ⊢
      rw [abs_mid, upd_mid hr e]
      rfl
    · rcases List.mem_append.1 hq' with hm | hm
      · exact hoff q (List.mem_append_left _ hm)
      · rcases List.mem_cons.1 hm with rfl | hm
        · exact ⟨rfl, (hoff p (List.mem_append_right _ (List.mem_cons_self ..))).2⟩
        · exact hoff q (List.mem_append_right _ (List.mem_cons_of_mem _ hm))
  · subst hL
    refine hq _ _ h' (.del (absS p.2) (abs_mem (List.mem_append_right _ (List.mem_cons_self ..))) e o kp) (ptab_iff.2 ⟨_, ⟨?_, fun q hq' => ?_⟩, hs'⟩)
    · have hr := ho.rising
      rw [abs_mid] at hr
      rw [abs_mid, del_mid hr e, List.map_append]
    · rcases List.mem_append.1 hq' with hm | hm
      · exact hoff q (List.mem_append_left _ hm)
      · exact hoff q (List.mem_append_right _ (List.mem_cons_of_mem _ hm))

theorem pBegin {h0 : Heap} {b : Nat} {last : Int} {A : List RS} (hs : sat h (ptab b last A :: old h0 :: R)) (ht : U8 h0) (ho : OKA last A) {c : ByteArray} (hsz : c.size ≤ 9223372036854775807) {clean keep : Bool}
    (hl0 : 0 ≤ last) (hl1 : last < 4611686018427387904) {Q : Value → Heap → Prop}
    (hq : ∀ i q cc d X h', BeginR last A c clean keep i q cc d X → sat h' (ptab b d X :: old h0 :: R) → Q (.tuple #[.int .i64 i, .bool q, .int .u8 cc]) h') :
    HCalls Tryd.prog 13 #[at0 b, .string c, .bool clean, .bool keep] h Q := by
  obtain ⟨L, ⟨rfl, hoff⟩, hsL⟩ := ptab_iff.1 hs
  have hcl : (∀ p ∈ L, p.2.client ≠ c) → ∀ x ∈ L.map (fun p => absS p.2), x.client ≠ c := fun hn x hx => by
    obtain ⟨p, hp, rfl⟩ := List.mem_map.1 hx
    exact hn p hp
  refine Begin_spec hsL ht hsz hl0 hl1 (fun p hp => (ho.ids (absS p.2) (abs_mem hp)).2) (fun g h' hs' => hq _ _ _ _ _ h' (.bad g) (ptab_iff.2 ⟨L, ⟨rfl, hoff⟩, hs'⟩))
    (fun g n l h' hs' => hq _ _ _ _ _ h' (.full g (hcl n) (by simpa using l)) (ptab_iff.2 ⟨L, ⟨rfl, hoff⟩, hs'⟩))
    (fun g cl l1 p l2 hL e h' hs' => ?_) (fun g L0 hL0 nb h' hs' => ?_)
  · subst hL
    refine hq _ _ _ _ _ h' (.on (absS p.2) g cl (abs_mem (List.mem_append_right _ (List.mem_cons_self ..))) e) (ptab_iff.2 ⟨_, ⟨?_, fun q hq' => ?_⟩, hs'⟩)
    · have hr := ho.rising
      rw [abs_mid] at hr ⊢
      rw [abs_mid, upd_mid hr rfl]
      rfl
    · rcases List.mem_append.1 hq' with hm | hm
      · exact hoff q (List.mem_append_left _ hm)
      · rcases List.mem_cons.1 hm with rfl | hm
        · exact hoff p (List.mem_append_right _ (List.mem_cons_self ..))
        · exact hoff q (List.mem_append_right _ (List.mem_cons_of_mem _ hm))
  · have hno : ∀ q ∈ L0, q ∈ L := by
      rcases hL0 with ⟨-, -, rfl⟩ | ⟨-, l1, p, l2, rfl, -, rfl⟩
      · exact fun q hq => hq
      · intro q hq
        rcases List.mem_append.1 hq with hm | hm
        · exact List.mem_append_left _ hm
        · exact List.mem_append_right _ (List.mem_cons_of_mem _ hm)
    have hoff' : ∀ q ∈ L0 ++ [(nb, newS (last + 1) c keep)], q.2.out.on = false ∧ q.2.inn.used = [] := fun q hq => by
      rcases List.mem_append.1 hq with hm | hm
      · exact hoff q (hno q hm)
      · rw [List.mem_singleton.1 hm]; exact ⟨rfl, rfl⟩
    rcases hL0 with ⟨n, l, rfl⟩ | ⟨cl, l1, p, l2, rfl, e, rfl⟩
    · refine hq _ _ _ _ _ h' (.new g (hcl n) (by simpa using l)) (ptab_iff.2 ⟨_, ⟨?_, hoff'⟩, hs'⟩)
      rw [List.map_append]
      rfl
    · refine hq _ _ _ _ _ h' (.again (absS p.2) g cl (abs_mem (List.mem_append_right _ (List.mem_cons_self ..))) e) (ptab_iff.2 ⟨_, ⟨?_, hoff'⟩, hs'⟩)
      have hr := ho.rising
      rw [abs_mid] at hr
      rw [abs_mid (l1 := l1) (p := p) (l2 := l2), del_mid hr rfl, List.map_append, List.map_append]
      rfl

theorem pNew (hs : sat h R) {Q : Value → Heap → Prop} (hq : ∀ b h', sat h' (ptab b 0 [] :: R) → Q (at0 b) h') : HCalls Tryd.prog 12 #[] h Q :=
  sesNew_spec hs fun b h' hs' => hq b h' (ptab_iff.2 ⟨[], ⟨rfl, by simp⟩, hs'⟩)

theorem pList {b : Nat} {last : Int} {A : List RS} (hs : sat h (ptab b last A :: R)) (ho : OKA last A) (hl1 : last < 4611686018427387904) {Q : Value → Heap → Prop}
    (hq : ∀ (sl : Slc) h', sat h' (ownS encN 4 sl (A.map infoR) :: ptab b last A :: R) → Q (.slice sl.a sl.len sl.cap) h') :
    HCalls Tryd.prog 20 #[at0 b] h Q := by
  obtain ⟨L, ⟨rfl, hoff⟩, hsL⟩ := ptab_iff.1 hs
  have hr := ho.rising
  rw [abs_ids] at hr
  refine List_spec hsL hl1 (fun p hp => ?_) (by have := ho.len; simpa using this) fun sl xs h' h1 h2 hs' => ?_
  · have := ho.ids (absS p.2) (abs_mem hp)
    have e : (absS p.2).id = p.2.id := rfl
    omega
  · have := list_is hr h1 h2
    subst this
    refine hq sl h' ?_
    have e : (L.map fun p => infoOf p.2) = (L.map fun p => absS p.2).map infoR := by rw [List.map_map]; rfl
    rw [← e]
    exact (ptab_iff.2 ⟨L, ⟨rfl, hoff⟩, hs'.p1⟩).p1

theorem find_none {p : RS → Bool} {A : List RS} (h : ∀ x ∈ A, p x = false) : A.find? p = none := List.find?_eq_none.2 fun x hx => by simp [h x hx]

theorem pFind {b : Nat} {last : Int} {A : List RS} (hs : sat h (ptab b last A :: R)) (ho : OKA last A) {c : ByteArray} {Q : Value → Heap → Prop}
    (hno : (∀ x ∈ A, x.client ≠ c) → ∀ h', sat h' (ptab b last A :: R) → Q (infoV none) h') (hyes : ∀ x ∈ A, x.client = c → ∀ h', sat h' (ptab b last A :: R) → Q (infoV (some (infoR x))) h') :
    HCalls Tryd.prog 21 #[at0 b, .string c] h Q := by
  obtain ⟨L, ⟨rfl, hoff⟩, hsL⟩ := ptab_iff.1 hs
  refine Find_spec hsL (fun hn h' hs' => hno (fun x hx => ?_) h' (ptab_iff.2 ⟨L, ⟨rfl, hoff⟩, hs'⟩)) (fun p hp e h' hs' => hyes (absS p.2) (abs_mem hp) e h' (ptab_iff.2 ⟨L, ⟨rfl, hoff⟩, hs'⟩))
  obtain ⟨p, hp, rfl⟩ := List.mem_map.1 hx
  exact hn p hp
theorem pGet {b : Nat} {last : Int} {A : List RS} (hs : sat h (ptab b last A :: R)) (ho : OKA last A) {k : Int} {Q : Value → Heap → Prop}
    (hno : (∀ x ∈ A, x.id ≠ k) → ∀ h', sat h' (ptab b last A :: R) → Q (infoV none) h') (hyes : ∀ x ∈ A, x.id = k → ∀ h', sat h' (ptab b last A :: R) → Q (infoV (some (infoR x))) h') :
    HCalls Tryd.prog 22 #[at0 b, .int .i64 k] h Q := by
  obtain ⟨L, ⟨rfl, hoff⟩, hsL⟩ := ptab_iff.1 hs
  refine Get_spec hsL (fun hn h' hs' => hno (fun x hx => ?_) h' (ptab_iff.2 ⟨L, ⟨rfl, hoff⟩, hs'⟩)) (fun p hp e h' hs' => hyes (absS p.2) (abs_mem hp) e h' (ptab_iff.2 ⟨L, ⟨rfl, hoff⟩, hs'⟩))
  obtain ⟨p, hp, rfl⟩ := List.mem_map.1 hx
  exact hn p hp

/-! ### the document's table -/

def rtab (b : Nat) (last : Int) (A : List RS) : Asn := exA fun M : List (Nat × RS) => star (pr (M.map (·.2) = A)) (rtabA b last M)

theorem rtab_iff {b : Nat} {last : Int} {A : List RS} : sat h (rtab b last A :: R) ↔ ∃ M : List (Nat × RS), M.map (·.2) = A ∧ sat h (rtabA b last M :: R) := by
  unfold rtab
  rw [sat.ex_iff]
  constructor
  · rintro ⟨M, hs⟩
    rw [sat.star_iff, sat.pr_iff] at hs
    exact ⟨M, hs⟩
  · rintro ⟨M, hs⟩
    exact ⟨M, by rw [sat.star_iff, sat.pr_iff]; exact hs⟩

theorem snd_mem {M : List (Nat × RS)} {p : Nat × RS} (hp : p ∈ M) : p.2 ∈ M.map (·.2) := List.mem_map_of_mem hp
theorem snd_mid {m1 m2 : List (Nat × RS)} {p : Nat × RS} : (m1 ++ p :: m2).map (·.2) = m1.map (·.2) ++ p.2 :: m2.map (·.2) := by simp
theorem snd_filter (k : Int) (M : List (Nat × RS)) : (M.filter fun p => decide (p.2.id ≠ k)).map (·.2) = delR k (M.map (·.2)) := by
  unfold delR
  rw [List.filter_map]
  rfl

theorem rEnd {b : Nat} {last : Int} {A : List RS} {k : Int} (hs : sat h (rtab b last A :: R)) (ho : OKA last A) {Q : Value → Heap → Prop}
    (hq : ∀ a X h', EndR A k a X → sat h' (rtab b last X :: R) → Q (.bool a) h') : HCalls Tryd.prog 24 #[at0 b, .int .i64 k] h Q := by
  obtain ⟨M, rfl, hsM⟩ := rtab_iff.1 hs
  have hl := ho.len
  rw [List.length_map] at hl
  refine rEnd_spec hsM (by omega) (fun hn => hq _ _ h (.no ?_) hs) (fun m1 p m2 hM e o => hq _ _ h (.off p.2 (snd_mem (by rw [hM]; simp)) e o) hs)
    (fun m1 p m2 hM e o kp h' hs' => ?_) (fun m1 p m2 hM e o kp h' hs' => ?_)
  · intro x hx
    obtain ⟨p, hp, rfl⟩ := List.mem_map.1 hx
    exact hn p hp
  · subst hM
    refine hq _ _ h' (.keep p.2 (snd_mem (by simp)) e o kp) (rtab_iff.2 ⟨_, ?_, hs'⟩)
    have hr := ho.rising
    rw [snd_mid] at hr ⊢
    rw [snd_mid, upd_mid hr e]
  · subst hM
    refine hq _ _ h' (.del p.2 (snd_mem (by simp)) e o kp) (rtab_iff.2 ⟨_, ?_, hs'⟩)
    have hr := ho.rising
    rw [snd_mid] at hr
    rw [snd_filter, snd_mid, snd_mid, del_mid hr e]
    refine del_mid (x := { p.2 with on := false }) ?_ e
    simpa using hr

theorem rBegin {b : Nat} {last : Int} {A : List RS} (hs : sat h (rtab b last A :: R)) (ho : OKA last A) {c : ByteArray} (hsz : c.size ≤ 9223372036854775800) {clean keep : Bool}
    (hl0 : 0 ≤ last) (hl1 : last < 4611686018427387904) {Q : Value → Heap → Prop}
    (hq : ∀ i q cc d X h', BeginR last A c clean keep i q cc d X → sat h' (rtab b d X :: R) → Q (.tuple #[.int .i64 i, .bool q, .int .i64 cc]) h') :
    HCalls Tryd.prog 28 #[at0 b, .string c, .bool clean, .bool keep] h Q := by
  obtain ⟨M, rfl, hsM⟩ := rtab_iff.1 hs
  have hl := ho.len
  rw [List.length_map] at hl
  have hcl : (∀ p ∈ M, p.2.client ≠ c) → ∀ x ∈ M.map (·.2), x.client ≠ c := fun hn x hx => by
    obtain ⟨p, hp, rfl⟩ := List.mem_map.1 hx
    exact hn p hp
  refine rBegin_spec hsM (by omega) hsz hl0 hl1 (fun g => hq _ _ _ _ _ h (.bad g) hs) (fun g n l => hq _ _ _ _ _ h (.full g (hcl n) (by rw [List.length_map]; exact l)) hs)
    (fun g cl m1 p m2 hM e h' hs' => ?_) (fun g M0 hM0 nb h' hs' => ?_)
  · subst hM
    refine hq _ _ _ _ _ h' (.on p.2 g cl (snd_mem (by simp)) e) (rtab_iff.2 ⟨_, ?_, hs'⟩)
    have hr := ho.rising
    rw [snd_mid] at hr ⊢
    rw [snd_mid, upd_mid hr rfl]
  · rcases hM0 with ⟨n, l, rfl⟩ | ⟨cl, m1, p, m2, rfl, e, rfl⟩
    · refine hq _ _ _ _ _ h' (.new g (hcl n) (by rw [List.length_map]; exact l)) (rtab_iff.2 ⟨_, ?_, hs'⟩)
      rw [List.map_append]
      rfl
    · refine hq _ _ _ _ _ h' (.again p.2 g cl (snd_mem (by simp)) e) (rtab_iff.2 ⟨_, ?_, hs'⟩)
      rw [List.map_append, snd_filter]
      rfl

theorem rFind {b : Nat} {last : Int} {A : List RS} (hs : sat h (rtab b last A :: R)) (ho : OKA last A) {c : ByteArray} {Q : Value → Heap → Prop}
    (hno : (∀ x ∈ A, x.client ≠ c) → Q (.pointer none) h)
    (hyes : ∀ x ∈ A, x.client = c → ∀ n ob ib, (∀ i, cellH h ⟨n, i, none⟩ = (rsC x ob ib)[i]?) → Q (at0 n) h) :
    HCalls Tryd.prog 30 #[at0 b, .string c] h Q := by
  obtain ⟨M, rfl, hsM⟩ := rtab_iff.1 hs
  have hl := ho.len
  rw [List.length_map] at hl
  refine rFind_spec hsM (by omega) (fun hn => hno fun x hx => ?_) (fun m1 p m2 hM e => ?_)
  · obtain ⟨p, hp, rfl⟩ := List.mem_map.1 hx
    exact hn p hp
  · subst hM
    obtain ⟨s, ob, pb, ib, qb, w, h1⟩ := rtab_open hsM
    exact hyes p.2 (snd_mem (by simp)) e p.1 ob ib (fun i => h1.cell i)
theorem rGet {b : Nat} {last : Int} {A : List RS} (hs : sat h (rtab b last A :: R)) (ho : OKA last A) {k : Int} {Q : Value → Heap → Prop}
    (hno : (∀ x ∈ A, x.id ≠ k) → Q (.pointer none) h)
    (hyes : ∀ x ∈ A, x.id = k → ∀ n ob ib, (∀ i, cellH h ⟨n, i, none⟩ = (rsC x ob ib)[i]?) → Q (at0 n) h) :
    HCalls Tryd.prog 25 #[at0 b, .int .i64 k] h Q := by
  obtain ⟨M, rfl, hsM⟩ := rtab_iff.1 hs
  have hl := ho.len
  rw [List.length_map] at hl
  refine rGet_spec hsM (by omega) (fun hn => hno fun x hx => ?_) (fun m1 p m2 hM e => ?_)
  · obtain ⟨p, hp, rfl⟩ := List.mem_map.1 hx
    exact hn p hp
  · subst hM
    obtain ⟨s, ob, pb, ib, qb, w, h1⟩ := rtab_open hsM
    exact hyes p.2 (snd_mem (by simp)) e p.1 ob ib (fun i => h1.cell i)

end

end Go.Proofs.YtlgddhcbiioefaaDoor
