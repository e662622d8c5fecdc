/-
  QBrokerRetains5: what the proof BrokerRetainsProof reaches of our texts: Cbk9, Lbks, Cbka, Lasc, Lwk, Cbkb, D19, Cbkd, Lrt, L19r, BrokerRetainsWalk, BrokerRetainsFacts.
-/
import Derived.Test.YtidlldnlphdhcaaGreatDoorQBrokerRetains4
import Derived.Laws.RangeString
import Derived.Test.YtidlldnlphdhcaaGreatDoorRows
import Derived.Test.YtidlldnlphdhcaaGreatDoorCards
import Derived.Test.YtidlldnlphdhcaaGreatDoorTie
import Derived.WalkKit
import Derived.ProofKit
import Derived.OpenShut
import Derived.ShutString
import Derived.ChangeOld
import Derived.Below
import Derived.Carry
import Derived.LaidMore
import Derived.LaidHandle
import Derived.Stop.Joined
import Derived.SevenTiedAt
namespace Go.Proofs.YtidlldnlphdhcaaGreatDoor
open Go.H Go.Proofs
set_option linter.unusedSimpArgs false
set_option linter.unusedVariables false
set_option maxRecDepth 100000
variable {h h0 : Heap} {L L' L1 L2 L3 R : List Asn} {Q : Value → Heap → Prop}
theorem W.both2 {γ β : Type} {x y : HM β} {Q' : β → Heap → Prop} {P : γ → List Asn} {REST : γ → HM β} (h1 : (∀ g, W (P g) (REST g) Q') → W L x Q') (h2 : (∀ g, W (P g) (REST g) Q') → W L y Q') (ht : ∀ g, W (P g) (REST g) Q') : W L (HM.both x y) Q' := W.both (h1 ht) (h2 ht)
theorem kick_find {B : BrkS} (h : BrkH B) {z : ConnS} {i : Int} (hz : z ∈ B.conns) (hi : z.ses = i) : B.conns.find? (fun x => decide (x.ses = i)) = some z := by
  cases hg : B.conns.find? (fun x => decide (x.ses = i)) with
  | none => exact absurd hi (by simpa using List.find?_eq_none.1 hg z hz)
  | some x =>
    have h1 := h.one i
    have m1 : x ∈ B.conns.filter (fun y => decide (y.ses = i)) := List.mem_filter.2 ⟨List.mem_of_find?_eq_some hg, by simpa using List.find?_some hg⟩
    have m2 : z ∈ B.conns.filter (fun y => decide (y.ses = i)) := List.mem_filter.2 ⟨hz, by simpa using hi⟩
    generalize B.conns.filter (fun y => decide (y.ses = i)) = k at h1 m1 m2
    match k, h1 with
    | [], _ => cases m1
    | [w], _ => rw [List.mem_singleton.1 m1, List.mem_singleton.1 m2]
theorem beginT_eq {B : BrkS} {c : ByteArray} {clean keep : Bool} (hg : goodName c) (h32 : ofS c B.ses = none → B.ses.length < 32) :
    beginT B.last B.ses c clean keep = ((0, (beginB c clean keep B).1.1, (beginB c clean keep B).1.2), (beginB c clean keep B).2.last, (beginB c clean keep B).2.ses) ∧ (beginB c clean keep B).2.subs = B.subs ∧ (beginB c clean keep B).2.kept = B.kept ∧ (beginB c clean keep B).2.conns = B.conns := by
  unfold beginT beginB
  rw [if_neg (fun e => e hg)]
  cases ho : ofS c B.ses with
  | none => rw [ho] at h32; simp [Nat.not_le.2 (h32 rfl)]
  | some s => cases clean <;> simp
theorem keepP_eq (l : List PropT) : decide (0 < ((findP 17 l).getD (0, 0, e0S, e0S)).2.1) = keepP l := by
  unfold keepP
  cases findP 17 l <;> rfl
abbrev pProps (p : Pk) : Slc := p.2.2.2.2.2.2.2.2.2.1
theorem connect_w {t b n : Nat} {full : Bool} {T : TurnS} {c : Int} {p : Pk} {pl : List PropT} {sl : List SubT} {fl : List ByteArray} (ht : TP h0) (hok : BrkOK T.b n) (hn : n ≤ 1000000) (hnc : getC c T.b.conns = none) (hci : -9223372036854775808 ≤ c ∧ c ≤ 9223372036854775807) (hb : T.outs.length ≤ 10000000) (hp : T.pubs.length ≤ 100000000)
    (hcl : (p.2.2.2.2.2.2.2.2.2.2.1).size ≤ 9223372036854775807) (hwt : (p.2.2.2.2.2.2.2.2.2.2.2.2.2.2.1).size ≤ 9223372036854775807) (hpl : pl.length ≤ 1000)
    (hq : At (turnA t b full (connectB full c (pkI p pl sl fl) T) :: old h0 :: L3) (Q (.tuple #[]))) (hx : Has L (turnA t b full T) L1 := by repeat (first | with_reducible exact Go.H.has0 | apply Go.H.hasS)) (hy : Has L1 (old h0) L2 := by repeat (first | with_reducible exact Go.H.has0 | apply Go.H.hasS)) (hz : Has L2 (ownS encPr 4 (pProps p) pl) L3 := by repeat (first | with_reducible exact Go.H.has0 | apply Go.H.hasS)) :
    FW Tryz.prog 33 #[at0 t, .int .i64 c, vPkK .u8 p] L Q := by
  refine fun h hs => broker_turn_connect_calls (some ⟨t, 0, none⟩) c p h Q ((?_ : W (turnA t b full T :: old h0 :: ownS encPr 4 (pProps p) pl :: L3) _ _) h ((hx.then3 hy hz).s hs))
  clear hs h hx hy hz
  unfold broker_turn_connect
  refine W.newc fun x1 => ?_
  refine W.nonnil ?_
  refine W.opn3 (fun h R => turn_open) fun so sp q => ?_
  refine W.fact (fun h R hs => conn_nd (m := q.cm) (l := T.b.conns) hs) fun hcn => ?_
  refine W.load (v := some ⟨b, 0, none⟩) ?_
  refine W.nonnil ?_
  refine W.load (v := some ⟨q.tb, 0, none⟩) ?_
  refine W.load (v := p.2.2.2.2.2.2.2.2.2.2.1) ?_
  apply W.both2 (γ := Nat) (P := fun x8 => turnA t b full T :: cells x8 (lS9 (infoT ((ofS (p.2.2.2.2.2.2.2.2.2.2.1) T.b.ses).map infoOf)).1).toArray :: cells x1 (aS3 p) :: old h0 :: ownS encPr 4 (pProps p) pl :: L3)
  case h1 =>
    intro tail
    refine W.callN (sFind_w (b := q.tb) (A := T.b.ses) (c := p.2.2.2.2.2.2.2.2.2.2.1) hok.cnd (At.unN (x := infoT ((ofS (p.2.2.2.2.2.2.2.2.2.2.1) T.b.ses).map infoOf)) ?_))
    refine W.newc fun x8 => ?_
    refine W.load (v := p.2.2.2.2.2.2.2.2.2.2.1) ?_
    refine W.req ?_ rfl
    refine W.load (v := some ⟨q.tb, 0, none⟩) ?_
    refine W.req ?_ rfl
    refine W.load (v := some ⟨b, 0, none⟩) ?_
    refine W.req ?_ rfl
    refine W.storeN ?_
    refine W.turn T so sp q ?_
    exact (tail x8).sub
  case h2 =>
    intro tail
    refine W.newc fun x8 => ?_
    refine W.load (v := p.2.2.2.2.2.2.2.2.2.2.1) ?_
    refine W.req ?_ rfl
    refine W.load (v := some ⟨q.tb, 0, none⟩) ?_
    refine W.req ?_ rfl
    refine W.load (v := some ⟨b, 0, none⟩) ?_
    refine W.req ?_ rfl
    refine W.callN (sFind_w (b := q.tb) (A := T.b.ses) (c := p.2.2.2.2.2.2.2.2.2.2.1) hok.cnd (At.unN (x := infoT ((ofS (p.2.2.2.2.2.2.2.2.2.2.1) T.b.ses).map infoOf)) ?_))
    refine W.storeN ?_
    refine W.turn T so sp q ?_
    exact (tail x8).sub
  case ht =>
    intro x8
    refine W.call1 (sNew_w (fun b2 => At.un (x := some ⟨b2, 0, none⟩) ?_))
    refine W.load (v := p.2.2.2.2.2.2.2.2.2.2.1) ?_
    refine W.callN (sBegin_w (b := b2) (last := 0) (A := []) (c := p.2.2.2.2.2.2.2.2.2.2.1) (clean := false) (keep := false) ht.u8 hcl (Int.le_refl _) (by decide) (by simp) (by simp) (At.unN (x := ((beginT 0 [] (p.2.2.2.2.2.2.2.2.2.2.1) false false).1.2.1, (beginT 0 [] (p.2.2.2.2.2.2.2.2.2.2.1) false false).1.2.2, (beginT 0 [] (p.2.2.2.2.2.2.2.2.2.2.1) false false).1.1, ())) ?_))
    have hbg : (beginT 0 [] (p.2.2.2.2.2.2.2.2.2.2.1) false false).1.1 = if goodName (p.2.2.2.2.2.2.2.2.2.2.1) then 0 else 133 := by
      unfold beginT
      by_cases hg : goodName (p.2.2.2.2.2.2.2.2.2.2.1)
      · simp [hg, ofS]
      · simp [hg]
    generalize (beginT 0 [] (p.2.2.2.2.2.2.2.2.2.2.1) false false).1.1 = code0 at hbg ⊢
    refine W.cutk (fun r => r.1 = (p.2.2.2.2.2.2.2.2.2.2.2.2.2.1 && !nameOK (p.2.2.2.2.2.2.2.2.2.2.2.2.2.2.1))) (fun K hK => ?_) (fun r hr => ?_)
    · refine W.load (v := p.2.2.2.2.2.2.2.2.2.2.2.2.2.1) ?_
      refine W.ite (fun h3 => ?_) (fun h3 => ?_)
      · refine W.loadx (b := x1) (i := 14) (v := p.2.2.2.2.2.2.2.2.2.2.2.2.2.2.1) ?_
        refine W.call1 (checkName_w ht hwt (At.un ?_))
        refine W.pure (At.sub (hK _ ?_))
        simp only [h3, Bool.true_and]
        unfold nameC
        cases nameOK (p.2.2.2.2.2.2.2.2.2.2.2.2.2.2.1) <;> rfl
      · refine W.pure (hK _ ?_)
        simp [h3]
    obtain ⟨r, _⟩ := r
    simp only at hr
    subst hr
    refine W.cutk (fun r => r.1 = barB (pkI p pl sl fl) T.b) (fun K hK => ?_) (fun r hr => ?_)
    · refine W.ite (fun h1 => W.pure (hK _ ?_)) (fun h1 => ?_)
      · unfold barB
        rw [if_pos (by simpa using h1)]
      have hK1 := fun a e => hK a e
      unfold barB at hK1
      rw [if_neg (by simpa using h1)] at hK1
      refine W.nonnil ?_
      refine W.opn3 (fun h R => turn_open) fun so2 sp2 q2 => ?_
      refine W.load (v := some ⟨b, 0, none⟩) ?_
      refine W.nonnil ?_
      refine W.load (v := some q2.cm) ?_
      refine W.mlen (r := q2.cm) (l := T.b.conns.map connE) ?_
      refine W.bite (fun h2 => ?_) (fun h2 => ?_)
      · rw [if_pos (by simp only [List.length_map, decide_eq_true_eq] at h2; omega)] at hK1
        refine W.bpure (W.pure ?_)
        refine At.turn T so2 sp2 q2 ?_
        exact (hK1 (151, ()) rfl).sub
      · rw [if_neg (by simp only [List.length_map, decide_eq_false_iff_not] at h2; omega)] at hK1
        refine W.bbind ?_
        refine W.bite (fun h4 => ?_) (fun h4 => ?_)
        · have hg : ¬ goodName (p.2.2.2.2.2.2.2.2.2.2.1) := fun hg => by rw [hbg, if_pos hg] at h4; exact absurd h4 (by decide)
          rw [if_pos hg] at hK1
          refine W.bpure (W.bpure (W.pure ?_))
          refine At.turn T so2 sp2 q2 ?_
          exact (hK1 (code0, ()) (by rw [hbg, if_neg hg])).sub
        · have hg : goodName (p.2.2.2.2.2.2.2.2.2.2.1) := Classical.byContradiction fun hg => by rw [hbg, if_neg hg] at h4; exact absurd h4 (by decide)
          rw [if_neg (fun e => e hg)] at hK1
          refine W.bbind ?_
          cases ho : ofS (p.2.2.2.2.2.2.2.2.2.2.1) T.b.ses with
          | some s =>
            rw [if_neg (by simp [ho])] at hK1
            refine W.bf rfl (W.bpure ?_)
            refine W.bf rfl ?_
            refine W.bpure (W.bpure (W.bpure (W.pure ?_)))
            refine At.turn T so2 sp2 q2 ?_
            rw [ho] at hK1
            exact (hK1 (0, ()) rfl).sub
          | none =>
            refine W.bt rfl ?_
            refine W.bbind (W.nonnil ?_)
            refine W.bbind (W.load (v := some ⟨b, 0, none⟩) ?_)
            refine W.bbind (W.nonnil ?_)
            refine W.bbind (W.load (v := some ⟨q2.tb, 0, none⟩) ?_)
            refine W.bbind (W.call1 (sList_w (b := q2.tb) (A := T.b.ses) (by have := hok.lastn; omega) (fun s hs => ⟨by have := (hok.rng s hs).1; omega, (hok.rng s hs).2⟩) hok.n32 hok.asc (fun S => At.un (x := S) ?_)))
            refine W.fact (own_len' (enc := encN) (size := 4) (s := S) (xs := T.b.ses.map infoOf)) fun hl => ?_
            rw [List.length_map] at hl
            refine W.bpure ?_
            rw [ho] at hK1
            by_cases h32 : 32 ≤ T.b.ses.length
            · rw [if_pos ⟨rfl, h32⟩] at hK1
              refine W.bt (by rw [hl]; exact decide_eq_true (by omega)) ?_
              refine W.bpure (W.bpure (W.bpure (W.pure ?_)))
              refine At.turn T so2 sp2 q2 ?_
              exact (hK1 (151, ()) rfl).sub
            · rw [if_neg (fun e => h32 e.2)] at hK1
              refine W.bf (by rw [hl]; exact decide_eq_false (by omega)) ?_
              refine W.bpure (W.bpure (W.bpure (W.pure ?_)))
              refine At.turn T so2 sp2 q2 ?_
              exact (hK1 (0, ()) rfl).sub
    obtain ⟨code, _⟩ := r
    simp only at hr
    unfold connectB at hq
    by_cases hcode : code = 0
    · refine W.ff (by simp [hcode]) ?_
      rw [if_neg (by rw [← hr]; simpa using hcode)] at hq
      obtain ⟨T1, hT1⟩ : ∃ T1, T1 = kickT full (p.2.2.2.2.2.2.2.2.2.2.1) T := ⟨_, rfl⟩
      refine W.cutk (fun r => r.1 = match ofS (p.2.2.2.2.2.2.2.2.2.2.1) T.b.ses with | some s => s.on | none => false) (fun K hK => ?_) (fun r hr2 => ?_)
      · cases ho : ofS (p.2.2.2.2.2.2.2.2.2.2.1) T.b.ses with
        | none => rw [ho] at hK; exact W.ff rfl (W.pure (hK _ rfl))
        | some s => rw [ho] at hK; exact W.tt rfl (W.load (v := s.on) (W.pure (hK _ rfl)))
      obtain ⟨r, _⟩ := r
      simp only at hr2
      refine W.cut (fun _ => turnA t b full T1 :: cells x8 (lS9 (infoT ((ofS (p.2.2.2.2.2.2.2.2.2.2.1) T.b.ses).map infoOf)).1).toArray :: cells x1 (aS3 p) :: old h0 :: ownS encPr 4 (pProps p) pl :: L3) (fun K hK => ?_) (fun _ => ?_)
      · clear hq
        unfold kickT at hT1
        cases ho : ofS (p.2.2.2.2.2.2.2.2.2.2.1) T.b.ses with
        | none =>
          rw [ho] at hT1 hr2 hK
          simp only at hT1 hr2
          subst hT1 hr2
          exact W.ff rfl (W.pure (hK ()).sub)
        | some s =>
          rw [ho] at hT1 hr2 hK
          simp only at hT1 hr2
          subst hr2
          by_cases hon : s.on = true
          · refine W.tt hon ?_
            refine W.nonnil ?_
            refine W.opn3 (fun h R => turn_open) fun so3 sp3 q3 => ?_
            refine W.load (v := some ⟨b, 0, none⟩) ?_
            refine W.nonnil ?_
            refine W.load (v := some q3.cm) ?_
            refine W.range fun it => ?_
            refine W.mapwp (ek := eKI) (ev := eVC) (r := q3.cm) (l := T.b.conns.map connE) (fun done _ => done.filter (fun x => decide (x.2.1 = s.id)) = [])
              (fun done _ => [cells t #[at0 b, .bool full, .slice so3.a so3.len so3.cap, .slice sp3.a sp3.len sp3.cap], outsA .u8 so3 T.outs, ownS encM 5 sp3 T.pubs, cells b (brkC q3), tabB q3.tb T.b.last T.b.ses, trieA q3.sb T.b.subs, keptA q3.kb T.b.kept,
                cells x8 (lS9 (infoT ((some s).map infoOf)).1).toArray, cells x1 (aS3 p), old h0, ownS encPr 4 (pProps p) pl] ++ L3) rfl ?_ (fun done s' hd hpd K' hk => ?_) (fun done y rest s' hd hpd K' hnx hk => ?_)
            · show Sub _ (itA eKI eVC q3.cm (T.b.conns.map connE) it [] (T.b.conns.map connE) :: cells t #[at0 b, .bool full, .slice so3.a so3.len so3.cap, .slice sp3.a sp3.len sp3.cap] :: outsA .u8 so3 T.outs :: ownS encM 5 sp3 T.pubs :: cells b (brkC q3) :: tabB q3.tb T.b.last T.b.ses :: trieA q3.sb T.b.subs :: keptA q3.kb T.b.kept :: cells x8 (lS9 (infoT ((some s).map infoOf)).1).toArray :: cells x1 (aS3 p) :: old h0 :: ownS encPr 4 (pProps p) pl :: L3)
              repeat (first | with_reducible exact Go.H.Sub.rfl | with_reducible exact Go.H.Sub.nil | refine Go.H.Sub.cons (by repeat (first | with_reducible exact Go.H.has0 | apply Go.H.hasS)) ?_ | refine Go.H.Sub.drop ?_)
            · have hno : T.b.conns.find? (fun x => decide (x.ses = s.id)) = none := List.find?_eq_none.2 fun x hx => by
                have hm : connE x ∈ done := hd.mem_iff.2 (List.mem_map_of_mem hx)
                have := List.filter_eq_nil_iff.1 hpd _ hm
                simpa using this
              have e : T1 = T := by rw [hT1]; unfold kickB; rw [hno]
              subst e
              refine W.ff rfl (W.pure (hk () _ (W.pure ?_)))
              show At (mapA eKI eVC q3.cm (T1.b.conns.map connE) :: cells t #[at0 b, .bool full, .slice so3.a so3.len so3.cap, .slice sp3.a sp3.len sp3.cap] :: outsA .u8 so3 T1.outs :: ownS encM 5 sp3 T1.pubs :: cells b (brkC q3) :: tabB q3.tb T1.b.last T1.b.ses :: trieA q3.sb T1.b.subs :: keptA q3.kb T1.b.kept :: _ :: cells x1 (aS3 p) :: old h0 :: ownS encPr 4 (pProps p) pl :: L3) _
              refine At.turn T1 so3 sp3 q3 ?_
              exact (hK ()).sub
            · show W (itA eKI eVC q3.cm (T.b.conns.map connE) it (done ++ [y]) rest :: cells t #[at0 b, .bool full, .slice so3.a so3.len so3.cap, .slice sp3.a sp3.len sp3.cap] :: outsA .u8 so3 T.outs :: ownS encM 5 sp3 T.pubs :: cells b (brkC q3) :: tabB q3.tb T.b.last T.b.ses :: trieA q3.sb T.b.subs :: keptA q3.kb T.b.kept :: cells x8 (lS9 (infoT ((some s).map infoOf)).1).toArray :: cells x1 (aS3 p) :: old h0 :: ownS encPr 4 (pProps p) pl :: L3) _ _
              refine W.tt rfl ?_
              refine W.entry (x := y.1) (y := y.2) ?_
              refine W.newc fun x53 => ?_
              refine W.storeN ?_
              refine W.load (b := x53) (v := y.2.1) ?_
              refine W.load (b := x8) (v := s.id) ?_
              by_cases hy : y.2.1 = s.id
              · refine W.tt (by simpa using hy) ?_
                have hym : y ∈ T.b.conns.map connE := hd.mem_iff.1 (List.mem_append_right _ (List.mem_cons_self ..))
                obtain ⟨z, hz, rfl⟩ := List.mem_map.1 hym
                have e : T1 = refuseB full z.c 142 T := by rw [hT1]; unfold kickB; rw [kick_find hok.toBrkH hz hy]
                subst e
                refine W.cv1 (A := itA eKI eVC q3.cm (T.b.conns.map connE) it (done ++ [connE z]) rest) (B := mapA eKI eVC q3.cm (T.b.conns.map connE)) (fun h R hs => itA_map hs) ?_
                refine W.turn T so3 sp3 q3 ?_
                refine W.callN (refuse_w (T := T) (c := z.c) (code := 142) ht hok.toBrkH (by omega) (by omega) (At.unN ?_))
                exact W.pure (hk () _ (W.pure (hK ()).sub))
              · refine W.ff (by simpa using hy) ?_
                have hn2 := hnx () (by rw [List.filter_append, hpd, List.filter_cons_of_neg (by simpa using hy)]; rfl)
                refine W.pure (At.sub hn2 ?_)
                show Sub _ (itA eKI eVC q3.cm (T.b.conns.map connE) it (done ++ [y]) rest :: cells t #[at0 b, .bool full, .slice so3.a so3.len so3.cap, .slice sp3.a sp3.len sp3.cap] :: outsA .u8 so3 T.outs :: ownS encM 5 sp3 T.pubs :: cells b (brkC q3) :: tabB q3.tb T.b.last T.b.ses :: trieA q3.sb T.b.subs :: keptA q3.kb T.b.kept :: cells x8 (lS9 (infoT ((some s).map infoOf)).1).toArray :: cells x1 (aS3 p) :: old h0 :: ownS encPr 4 (pProps p) pl :: L3)
                repeat (first | with_reducible exact Go.H.Sub.rfl | with_reducible exact Go.H.Sub.nil | refine Go.H.Sub.cons (by repeat (first | with_reducible exact Go.H.has0 | apply Go.H.hasS)) ?_ | refine Go.H.Sub.drop ?_)
          · have e : T1 = T := by
              rw [hT1]; unfold kickB
              rw [List.find?_eq_none.2 fun x hx => ?_]
              intro hxs
              have hxs : x.ses = s.id := by simpa using hxs
              exact hon (hok.onl x hx s (ofS_some ho).1 hxs.symm)
            subst e
            exact W.ff (by simpa using hon) (W.pure (hK ()).sub)
      have hbar : goodName (p.2.2.2.2.2.2.2.2.2.2.1) ∧ (ofS (p.2.2.2.2.2.2.2.2.2.2.1) T.b.ses = none → T.b.ses.length < 32) := by
        rw [hcode] at hr
        unfold barB at hr
        simp only at hr
        split at hr
        · cases hr
        · split at hr
          · cases hr
          · split at hr
            · cases hr
            · rename_i hg
              split at hr
              · cases hr
              · rename_i h32
                refine ⟨Classical.byContradiction hg, fun ho => ?_⟩
                exact Nat.lt_of_not_le fun h => h32 ⟨ho, h⟩
      obtain ⟨hk1, hk2, hk3, hk4, hk5, hk6⟩ := kickT_ok (full := full) (c := p.2.2.2.2.2.2.2.2.2.2.1) hok hcn hbar.2
      rw [← hT1] at hk1 hk2 hk3 hk4 hk5 hk6
      refine W.load (v := pProps p) ?_
      refine W.callN (find_w (S := pProps p) (pl := pl) (id := 17) hpl (At.unN (x := (prU ((findP 17 pl).getD (0, 0, e0S, e0S)), (findP 17 pl).isSome, ())) ?_))
      refine W.newc fun x59 => ?_
      refine W.storeN ?_
      refine W.nonnil ?_
      refine W.opn3 (fun h R => turn_open) fun so4 sp4 q4 => ?_
      refine W.load (v := some ⟨b, 0, none⟩) ?_
      refine W.nonnil ?_
      refine W.load (v := some ⟨q4.tb, 0, none⟩) ?_
      refine W.load (v := p.2.2.2.2.2.2.2.2.2.2.1) ?_
      refine W.load (v := p.2.2.2.2.2.2.2.2.2.2.2.1) ?_
      refine W.load (v := ((findP 17 pl).getD (0, 0, e0S, e0S)).2.1) ?_
      rw [keepP_eq]
      obtain ⟨hbe, hbs, hbk, hbc⟩ := beginT_eq (B := T1.b) (clean := p.2.2.2.2.2.2.2.2.2.2.2.1) (keep := keepP pl) hbar.1 hk5
      refine W.callN (sBegin_w (b := q4.tb) (last := T1.b.last) (A := T1.b.ses) (c := p.2.2.2.2.2.2.2.2.2.2.1) (clean := p.2.2.2.2.2.2.2.2.2.2.2.1) (keep := keepP pl) ht.u8 hcl hk1.last0 (by have := hk1.lastn; omega) (fun s hs => (hk1.rng s hs).2) hk1.cnd (At.unN (x := ((beginT T1.b.last T1.b.ses (p.2.2.2.2.2.2.2.2.2.2.1) (p.2.2.2.2.2.2.2.2.2.2.2.1) (keepP pl)).1.2.1, (beginT T1.b.last T1.b.ses (p.2.2.2.2.2.2.2.2.2.2.1) (p.2.2.2.2.2.2.2.2.2.2.2.1) (keepP pl)).1.2.2, (beginT T1.b.last T1.b.ses (p.2.2.2.2.2.2.2.2.2.2.1) (p.2.2.2.2.2.2.2.2.2.2.2.1) (keepP pl)).1.1, ())) ?_))
      have hnc1 : getC c T1.b.conns = none := List.find?_eq_none.2 fun y hy => by
        have := List.find?_eq_none.1 hnc y (hk4 y hy).1
        exact this
      obtain ⟨hjok, s5, hs5, hid5⟩ := begin_ok (B := T1.b) (o := ofS (p.2.2.2.2.2.2.2.2.2.2.1) T.b.ses) (client := p.2.2.2.2.2.2.2.2.2.2.1) (clean := p.2.2.2.2.2.2.2.2.2.2.2.1) (keep := keepP pl) (x := ⟨c, (beginB (p.2.2.2.2.2.2.2.2.2.2.1) (p.2.2.2.2.2.2.2.2.2.2.2.1) (keepP pl) T1.b).1.1, p.2.2.2.2.2.2.2.2.2.2.2.2.2.1, (p.2.2.2.2.2.2.2.2.2.2.2.2.2.2.1, p.2.2.2.2.2.2.2.2.2.2.2.2.2.2.2.1, p.2.2.2.2.2.2.2.2.2.2.2.2.2.2.2.2.1, p.2.2.2.2.2.2.2.2.2.2.2.2.2.2.2.2.2.1, e0S)⟩) hk1 hk6 (fun y hy s hs => (hk4 y hy).2 s hs) hk5 rfl ⟨hwt, hci⟩
      rw [joinB'_eq] at hq
      dsimp only at hq
      rw [← hT1, hbs, hbk, hbc] at hq
      clear hT1 hr hcode hr2 hk4 hk5 hk6 hbar hbs hbk hbc hnc
      generalize beginB (p.2.2.2.2.2.2.2.2.2.2.1) (p.2.2.2.2.2.2.2.2.2.2.2.1) (keepP pl) T1.b = r at hq hbe hjok hs5 hid5 ⊢
      rw [hbe]
      clear hbe
      dsimp only
      refine W.cutk (fun a => a.1 = match ofS (p.2.2.2.2.2.2.2.2.2.2.1) T.b.ses with | some s => decide (s.id ≠ r.1.1) | none => false) (fun K hK => ?_) (fun a ha => ?_)
      · cases ho : ofS (p.2.2.2.2.2.2.2.2.2.2.1) T.b.ses with
        | none => rw [ho] at hK; exact W.ff rfl (W.pure (hK _ rfl))
        | some s =>
          rw [ho] at hK
          refine W.tt rfl (W.load (v := s.id) (W.pure (hK _ ?_)))
          by_cases e : s.id = r.1.1
          · simp [e]
          · have e2 : r.1.1 ≠ s.id := fun e' => e e'.symm
            simp [e, e2]
      obtain ⟨a, _⟩ := a
      simp only at ha
      refine W.cut (fun _ => turnA t b full (tB ⟨r.2.last, r.2.ses, dropO (ofS (p.2.2.2.2.2.2.2.2.2.2.1) T.b.ses) r.1.1 T1.b.subs, T1.b.kept, T1.b.conns⟩ T1) :: cells x1 (aS3 p) :: old h0 :: ownS encPr 4 (pProps p) pl :: L3) (fun K hK => ?_) (fun _ => ?_)
      · clear hq hjok
        cases ho : ofS (p.2.2.2.2.2.2.2.2.2.2.1) T.b.ses with
        | none =>
          rw [ho] at ha hK
          have e2 : dropO none r.1.1 T1.b.subs = T1.b.subs := rfl
          rw [e2] at hK
          refine W.ff ha (W.pure ?_)
          refine At.turn (tB ⟨r.2.last, r.2.ses, T1.b.subs, T1.b.kept, T1.b.conns⟩ T1) so4 sp4 q4 ?_
          exact (hK ()).sub
        | some s =>
          rw [ho] at ha hK
          by_cases e : s.id = r.1.1
          · have e2 : dropO (some s) r.1.1 T1.b.subs = T1.b.subs := by unfold dropO; simp [e]
            rw [e2] at hK
            refine W.ff (by rw [ha]; simp [e]) (W.pure ?_)
            refine At.turn (tB ⟨r.2.last, r.2.ses, T1.b.subs, T1.b.kept, T1.b.conns⟩ T1) so4 sp4 q4 ?_
            exact (hK ()).sub
          · have e2 : dropO (some s) r.1.1 T1.b.subs = dropL s.id T1.b.subs := by unfold dropO; simp [e]
            rw [e2] at hK
            refine W.tt (by rw [ha]; simp [e]) ?_
            refine W.nonnil ?_
            refine W.load (v := some ⟨b, 0, none⟩) ?_
            refine W.nonnil ?_
            refine W.load ?_
            refine W.load (v := s.id) ?_
            refine W.call1 (trDrop_w (t := q4.sb) (E := T1.b.subs) (id := s.id) ht hk1.subs (At.un (W.pure ?_)))
            refine At.turn (tB ⟨r.2.last, r.2.ses, dropL s.id T1.b.subs, T1.b.kept, T1.b.conns⟩ T1) so4 sp4 q4 ?_
            exact (hK ()).sub
      clear ha
      generalize dropO (ofS (p.2.2.2.2.2.2.2.2.2.2.1) T.b.ses) r.1.1 T1.b.subs = E5 at hq hjok ⊢
      refine W.nonnil ?_
      refine W.opn3 (fun h R => turn_open) fun so5 sp5 q5 => ?_
      refine W.load (v := some ⟨b, 0, none⟩) ?_
      refine W.nonnil ?_
      refine W.load (v := some q5.cm) ?_
      refine W.load (v := p.2.2.2.2.2.2.2.2.2.2.2.2.2.1) ?_
      refine W.loadx (b := x1) (i := 14) (v := p.2.2.2.2.2.2.2.2.2.2.2.2.2.2.1) ?_
      refine W.loadx (b := x1) (i := 15) (v := p.2.2.2.2.2.2.2.2.2.2.2.2.2.2.2.1) ?_
      refine W.loadx (b := x1) (i := 16) (v := p.2.2.2.2.2.2.2.2.2.2.2.2.2.2.2.2.1) ?_
      refine W.loadx (b := x1) (i := 17) (v := p.2.2.2.2.2.2.2.2.2.2.2.2.2.2.2.2.2.1) ?_
      refine W.mset (ek := eKI) (ev := eVC) (l := T1.b.conns.map connE) kKI (fun a b h => by cases h; rfl) c (connT ⟨c, r.1.1, p.2.2.2.2.2.2.2.2.2.2.2.2.2.1, (p.2.2.2.2.2.2.2.2.2.2.2.2.2.2.1, p.2.2.2.2.2.2.2.2.2.2.2.2.2.2.2.1, p.2.2.2.2.2.2.2.2.2.2.2.2.2.2.2.2.1, p.2.2.2.2.2.2.2.2.2.2.2.2.2.2.2.2.2.1, e0S)⟩) ?_
      rw [mset_none _ _ _ (by rw [mget_conn, hnc1]; rfl), show T1.b.conns.map connE ++ [(c, connT (⟨c, r.1.1, p.2.2.2.2.2.2.2.2.2.2.2.2.2.1, (p.2.2.2.2.2.2.2.2.2.2.2.2.2.2.1, p.2.2.2.2.2.2.2.2.2.2.2.2.2.2.2.1, p.2.2.2.2.2.2.2.2.2.2.2.2.2.2.2.2.1, p.2.2.2.2.2.2.2.2.2.2.2.2.2.2.2.2.2.1, e0S)⟩ : ConnS))] = (T1.b.conns ++ [(⟨c, r.1.1, p.2.2.2.2.2.2.2.2.2.2.2.2.2.1, (p.2.2.2.2.2.2.2.2.2.2.2.2.2.2.1, p.2.2.2.2.2.2.2.2.2.2.2.2.2.2.2.1, p.2.2.2.2.2.2.2.2.2.2.2.2.2.2.2.2.1, p.2.2.2.2.2.2.2.2.2.2.2.2.2.2.2.2.2.1, e0S)⟩ : ConnS)]).map connE from by rw [List.map_append]; rfl]
      generalize T1.b.conns ++ [(⟨c, r.1.1, p.2.2.2.2.2.2.2.2.2.2.2.2.2.1, (p.2.2.2.2.2.2.2.2.2.2.2.2.2.2.1, p.2.2.2.2.2.2.2.2.2.2.2.2.2.2.2.1, p.2.2.2.2.2.2.2.2.2.2.2.2.2.2.2.2.1, p.2.2.2.2.2.2.2.2.2.2.2.2.2.2.2.2.2.1, e0S)⟩ : ConnS)] = C5 at hq hjok ⊢
      refine W.turn (tB ⟨r.2.last, r.2.ses, E5, T1.b.kept, C5⟩ T1) so5 sp5 q5 ?_
      refine W.pk0 (k := .u8) (ackSe r.1.2) rfl rfl ?_
      refine W.callN (send_w (T := tB ⟨r.2.last, r.2.ses, E5, T1.b.kept, C5⟩ T1) (c := c) (o := ackSe r.1.2) (ci := ⟨none, 0, 0⟩) (pi := ⟨none, 0, 0⟩) (by show T1.outs.length ≤ _; omega) (At.unN ?_))
      have hT4 : sendB ⟨c, ackSe r.1.2, false⟩ (tB ⟨r.2.last, r.2.ses, E5, T1.b.kept, C5⟩ T1) = (⟨⟨r.2.last, r.2.ses, E5, T1.b.kept, C5⟩, T1.outs ++ [⟨c, ackSe r.1.2, false⟩], T1.pubs⟩ : TurnS) := rfl
      rw [hT4] at hq
      show W (turnA t b full ⟨⟨r.2.last, r.2.ses, E5, T1.b.kept, C5⟩, T1.outs ++ [⟨c, ackSe r.1.2, false⟩], T1.pubs⟩ :: _) _ _
      have hO : (T1.outs ++ [(⟨c, ackSe r.1.2, false⟩ : OutO)]).length ≤ 13300002 := by rw [List.length_append]; simp only [List.length_cons, List.length_nil]; omega
      generalize T1.outs ++ [(⟨c, ackSe r.1.2, false⟩ : OutO)] = O5 at hq hO ⊢
      clear hT4
      unfold outOp at hq
      simp only [getS_of hjok.nd hs5 hid5] at hq
      refine W.load (v := pProps p) ?_
      refine W.callN (find_w (S := pProps p) (pl := pl) (id := 33) hpl (At.unN (x := (prU ((findP 33 pl).getD (0, 0, e0S, e0S)), (findP 33 pl).isSome, ())) ?_))
      refine W.newc fun x82 => ?_
      refine W.storeN ?_
      refine W.cutx (X := PropT) (fun z _ => z.2.1 = mostP pl) (fun z _ => turnA t b full ⟨⟨r.2.last, r.2.ses, E5, T1.b.kept, C5⟩, O5, T1.pubs⟩ :: cells x82 (encPr z).toArray :: old h0 :: L3) (fun K hK => ?_) (fun z _ hz => ?_)
      · unfold mostP at hK
        clear hq
        cases hf : findP 33 pl with
        | none =>
          rw [hf] at hK
          refine W.tt rfl ?_
          refine W.store (cs' := (encPr (0, 64, e0S, e0S)).toArray) ?_
          exact W.pure (hK (0, 64, e0S, e0S) _ rfl).sub
        | some z =>
          rw [hf] at hK
          refine W.ff rfl ?_
          refine W.cells (b := x82) (encPr z).toArray ?_
          exact W.pure (hK z _ rfl).sub
      obtain ⟨z1, z2, z3, z4⟩ := z
      simp only at hz
      subst hz
      refine W.nonnil ?_
      refine W.opn3 (fun h R => turn_open) fun so6 sp6 q6 => ?_
      refine W.load (v := some ⟨b, 0, none⟩) ?_
      refine W.nonnil ?_
      refine W.load (v := some ⟨q6.tb, 0, none⟩) ?_
      refine W.load (v := mostP pl) ?_
      refine W.opn2 (fun h R => tabH_open hs5 h R) fun ob ib => ?_
      refine W.call1 (Out_w2 hid5 (At.un ?_))
      refine W.load (v := mostP pl) ?_
      refine W.req ?_ rfl
      have hfo := beginF_ok (hjok.flow s5 hs5) (mostP pl)
      refine W.call1 (obegin_w (b := ob) (o := s5.out) (most := mostP pl) (hjok.flow s5 hs5) (fun S2 => At.un (x := S2) ?_))
      refine W.cls3 (A := tabB q6.tb r.2.last (setS r.1.1 (setOut (beginF s5.out (mostP pl)).1) r.2.ses)) (fun h hs => tabH_out hjok.nd hs5 hid5 h hs) ?_
      refine W.turn (tSes (setS r.1.1 (setOut (beginF s5.out (mostP pl)).1) r.2.ses) ⟨⟨r.2.last, r.2.ses, E5, T1.b.kept, C5⟩, O5, T1.pubs⟩) so6 sp6 q6 ?_
      refine W.callN (sendAll_w (T := tSes (setS r.1.1 (setOut (beginF s5.out (mostP pl)).1) r.2.ses) ⟨⟨r.2.last, r.2.ses, E5, T1.b.kept, C5⟩, O5, T1.pubs⟩) (id := r.1.1) (ps := (beginF s5.out (mostP pl)).2) (hjok.one r.1.1) (by have := hfo.2; show O5.length + _ ≤ _; omega) (At.unN ?_))
      exact W.pure hq.sub
    · refine W.tt (by simp [hcode]) ?_
      rw [if_pos (by rw [← hr]; exact hcode), ← hr] at hq
      refine W.pk0 (k := .u8) (ackO 2 0 code) rfl rfl ?_
      refine W.callN (close_w (T := T) (c := c) (o := ackO 2 0 code) (ci := ⟨none, 0, 0⟩) (pi := ⟨none, 0, 0⟩) (by omega) (At.unN ?_))
      exact W.pure hq.sub
end Go.Proofs.YtidlldnlphdhcaaGreatDoor
namespace Go.Proofs.YtidlldnlphdhcaaGreatDoor
open Go.H Go.Proofs
set_option linter.unusedSimpArgs false
set_option linter.unusedVariables false
structure Step (T T' : TurnS) (n m : Nat) : Prop where
  ok : BrkOK T'.b n
  outs : T'.outs.length ≤ T.outs.length + m
  pubs : T'.pubs.length ≤ T.pubs.length + m
theorem Step.trans {T T' T'' : TurnS} {n n' m m' : Nat} (h : Step T T' n m) (h' : Step T' T'' n' m') : Step T T'' n' (m + m') := ⟨h'.ok, by have := h.outs; have := h'.outs; omega, by have := h.pubs; have := h'.pubs; omega⟩
theorem Step.mono {T T' : TurnS} {n m m' : Nat} (h : Step T T' n m) (hm : m ≤ m') : Step T T' n m' := ⟨h.ok, by have := h.outs; omega, by have := h.pubs; omega⟩
theorem Step.refl {T : TurnS} {n : Nat} (h : BrkOK T.b n) : Step T T n 0 := ⟨h, Nat.le_refl _, Nat.le_refl _⟩
theorem Beside.step {T T' : TurnS} {n m : Nat} (h : BrkOK T.b n) (hb : Beside T T' m) (hk : T'.b.ses.map keyS = T.b.ses.map keyS) : Step T T' n m := ⟨h.sub hb.ok hb.last (by rw [hk]; exact List.Sublist.refl _) (by rw [hb.subs]; exact List.Sublist.refl _), hb.outs, hb.pubs⟩
theorem BrkOK.mono {B : BrkS} {n n' : Nat} (h : BrkOK B n) (hn : n ≤ n') : BrkOK B n' := { h with lastn := by have := h.lastn; omega }
theorem step_end {full : Bool} {c : Int} {w : Bool} {T : TurnS} {n : Nat} (h : BrkOK T.b n) : Step T (endB full c w T) n 3200000 :=
  let r := endB_ok (full := full) (c := c) (w := w) h.toBrkH
  ⟨h.sub r.1 r.2.2.2.2 endB_key endB_subs, r.2.1, r.2.2.1⟩
theorem step_refuse {full : Bool} {c code : Int} {T : TurnS} {n : Nat} (h : BrkOK T.b n) : Step T (refuseB full c code T) n 3200001 :=
  let r := refuseB_ok (full := full) (c := c) (code := code) h.toBrkH
  ⟨h.sub r.1 r.2.2.2.2 (endB_key (T := sendB ⟨c, ackO 14 0 code, true⟩ T)) (endB_subs (T := sendB ⟨c, ackO 14 0 code, true⟩ T)), r.2.1, r.2.2.1⟩
theorem step_send {o : OutO} {T : TurnS} {n : Nat} (h : BrkOK T.b n) : Step T (sendB o T) n 1 := ⟨h, by show (T.outs ++ [o]).length ≤ _; rw [List.length_append]; exact Nat.le_refl _, Nat.le_add_right _ _⟩
theorem step_sendAll {id : Int} {ps : List PkO} {T : TurnS} {n m : Nat} (h : BrkOK T.b n) (hm : ps.length ≤ m) : Step T (sendAllB id ps T) n m := ⟨h, by show (T.outs ++ toSes T.b.conns id ps).length ≤ _; rw [List.length_append]; have := toSes_len ps (h.one id); omega, Nat.le_add_right _ _⟩
theorem step_publish {m : MsT} {T : TurnS} {n : Nat} (h : BrkOK T.b n) : Step T (publishB m T) n 3200000 := (publishB_ok (m := m) h.toBrkH).step h handB_key
theorem step_inn {k : Int} {i : PoolS} {T : TurnS} {n : Nat} (h : BrkOK T.b n) : Step T (tSes (setS k (setInn i) T.b.ses) T) n 0 :=
  ⟨h.sub h.toBrkH.setI rfl (by
    show ((setS k (setInn i) T.b.ses).map keyS).Sublist _
    rw [setS_key (f := setInn i) fun _ => rfl]; exact List.Sublist.refl _) (List.Sublist.refl _), Nat.le_refl _, Nat.le_refl _⟩
theorem step_out {id : Int} {f : OutS → OutS × List PkO} {T : TurnS} {n : Nat} (h : BrkOK T.b n) (hf : ∀ o, FlowOK o → FlowOK (f o).1 ∧ (f o).2.length ≤ 320) : Step T (outOp id f T) n 320 := (outOp_ok (id := id) h.toBrkH hf).step h outOp_key
theorem step_take {full : Bool} {x : ConnS} {p : PkI} {T : TurnS} {n : Nat} (h : BrkOK T.b n) : Step T (takeB full x p T) n 3200002 := by
  unfold takeB
  split
  · exact (step_refuse h).mono (by omega)
  · split
    · exact (Step.refl h).mono (by omega)
    · rename_i s hs
      simp only
      generalize takeR s.inn p.kind p.qos p.id (if full = true then 151 else 0) = r
      have h1 := step_inn (k := x.ses) (i := ⟨s.inn.most, s.inn.taken, r.2.2.2⟩) h
      split
      · exact Step.mono (m' := 3200002) (h1.trans (step_refuse h1.ok)) (by omega)
      · have hal : (ackL r.2.1 p.id).length ≤ 1 := by unfold ackL; split <;> simp
        have h2 := h1.trans (step_sendAll (id := x.ses) (ps := ackL r.2.1 p.id) h1.ok hal)
        split
        · exact Step.mono (m' := 3200002) (h2.trans (step_publish h2.ok)) (by omega)
        · exact Step.mono (m' := 3200002) h2 (by omega)
theorem step_answer {full : Bool} {x : ConnS} {p : PkI} {T : TurnS} {n : Nat} (h : BrkOK T.b n) : Step T (answerB full x p T) n 3200002 := by
  unfold answerB
  split
  · exact (Step.refl h).mono (by omega)
  · split
    · exact (step_refuse h).mono (by omega)
    · exact (step_out h fun o ho => ⟨(ansF_ok ho _ _ _).1, by have := (ansF_ok ho p.kind p.id p.code).2; omega⟩).mono (by omega)
theorem addE_cnt {E : List Ent} {id q : Int} {f : ByteArray} (h : ∀ i, cntL E i ≤ 64) (i : Int) : cntL (addE E id f q).2 i ≤ 64 := by
  unfold addE
  split
  · exact h i
  · split
    · exact h i
    · split
      · rename_i j hj
        have hj' := List.findIdx?_eq_some_iff_getElem.1 hj
        obtain ⟨hlt, hp, _⟩ := hj'
        have hk : keyE E[j] = (id, f) := by simpa using hp
        have hk1 : E[j].1 = id := congrArg Prod.fst hk
        have e : (E.set j (id, f, q)).map (·.1) = E.map (·.1) := by
          rw [List.map_set]
          refine List.ext_getElem? fun k => ?_
          rw [List.getElem?_set]
          split
          · rename_i hjk
            subst hjk
            rw [if_pos (by simpa using hlt), List.getElem?_map, List.getElem?_eq_getElem hlt, Option.map_some, hk1]
          · rfl
        unfold cntL
        simp only [e]
        exact h i
      · split
        · exact h i
        · rename_i hlt
          have hp := ((insS_perm ltK keyE (id, f, q) E).map (·.1)).count_eq i
          unfold cntL at h hlt ⊢
          rw [hp, List.map_cons, List.count_cons]
          by_cases e : id = i
          · subst e
            simp only [beq_self_eq_true, if_true]
            omega
          · rw [if_neg (by simpa using e)]
            exact h i
theorem addAll_cnt {id : Int} : ∀ (l : List SubT) {E : List Ent}, (∀ i, cntL E i ≤ 64) → ∀ i, cntL (addAll id l E).1 i ≤ 64
  | [], _, h => h
  | s :: l, E, h => addAll_cnt (id := id) l (fun i => addE_cnt h i)
theorem delAll_sub {id : Int} : ∀ (l : List ByteArray) {E : List Ent}, (delAll id l E).1.Sublist E
  | [], _ => List.Sublist.refl _
  | f :: l, E => (delAll_sub (id := id) l (E := delL E id f)).trans List.filter_sublist
theorem step_subscribe {x : ConnS} {p : PkI} {T : TurnS} {n : Nat} (h : BrkOK T.b n) (hx : x ∈ T.b.conns) (hk : T.b.kept.length ≤ 64) (hl : p.subs.length ≤ 100) : Step T (subscribeB x p T) n 3000000 := by
  have h2k := h.s2k
  have hal := addAll_len (id := x.ses) p.subs (E := T.b.subs)
  have hH : BrkH (bSubs (addAll x.ses p.subs T.b.subs).1 T.b) := h.toBrkH.addS (by have := hal.1; omega) fun e he => by
    rcases hal.2.1 e he with h1 | h1
    · exact .inl h1
    · obtain ⟨s, hs, hi⟩ := h.cl x hx
      exact .inr ⟨s, hs, hi.trans h1.symm⟩
  have h1 : BrkOK (bSubs (addAll x.ses p.subs T.b.subs).1 T.b) n := { hH with last0 := h.last0, lastn := h.lastn, rng := h.rng, asc := h.asc, cnd := h.cnd, n32 := h.n32, cnt := addAll_cnt p.subs h.cnt }
  have h3 : Step T (tSubs (addAll x.ses p.subs T.b.subs).1 T) n 0 := ⟨h1, Nat.le_refl _, Nat.le_refl _⟩
  have h4 := h3.trans (step_send (o := ⟨x.c, ackCs 9 p.id (addAll x.ses p.subs T.b.subs).2, false⟩) h3.ok)
  have h5 := foldSub_ok (id := x.ses) (added x.ses p.subs T.b.subs) (T := sendB ⟨x.c, ackCs 9 p.id (addAll x.ses p.subs T.b.subs).2, false⟩ (tSubs (addAll x.ses p.subs T.b.subs).1 T)) hk hH
  have h6 := h5.step h4.ok (fold_key (g := keptSub x.ses) (fun T s => keptSub_key T s) _)
  refine (h4.trans h6).mono ?_
  have := hal.2.2.2
  omega
theorem step_unsubscribe {x : ConnS} {p : PkI} {T : TurnS} {n : Nat} (h : BrkOK T.b n) : Step T (unsubscribeB x p T) n 1 := by
  have hs := delAll_sub (id := x.ses) p.filters (E := T.b.subs)
  have hH : BrkH (bSubs (delAll x.ses p.filters T.b.subs).1 T.b) := h.toBrkH.addS (Nat.le_trans hs.length_le h.subs) fun e he => .inl (hs.subset he)
  have h3 : Step T (tSubs (delAll x.ses p.filters T.b.subs).1 T) n 0 := ⟨h.sub hH rfl (List.Sublist.refl _) hs, Nat.le_refl _, Nat.le_refl _⟩
  exact (h3.trans (step_send h3.ok)).mono (by omega)
theorem step_one {full : Bool} {x : ConnS} {p : PkI} {T : TurnS} {n : Nat} (h : BrkOK T.b n) (hx : x ∈ T.b.conns) (hk : T.b.kept.length ≤ 64) (hl : p.subs.length ≤ 100) : Step T (oneB full x p T) n 3300000 := by
  unfold oneB
  split
  · exact (step_take h).mono (by omega)
  · split
    · exact (step_answer h).mono (by omega)
    · split
      · exact (step_subscribe h hx hk hl).mono (by omega)
      · split
        · exact (step_unsubscribe h).mono (by omega)
        · split
          · exact (step_send h).mono (by omega)
          · split
            · exact (step_end h).mono (by omega)
            · exact (step_refuse h).mono (by omega)
theorem beginB_same {client : ByteArray} {clean keep : Bool} {B : BrkS} : (beginB client clean keep B).2.subs = B.subs ∧ (beginB client clean keep B).2.kept = B.kept ∧ (beginB client clean keep B).2.conns = B.conns := by
  unfold beginB
  split
  · split <;> exact ⟨rfl, rfl, rfl⟩
  · exact ⟨rfl, rfl, rfl⟩
theorem barB_zero {p : PkI} {B : BrkS} (h : barB p B = 0) : goodName p.client ∧ (ofS p.client B.ses = none → B.ses.length < 32) := by
  unfold barB at h
  split at h
  · cases h
  · split at h
    · cases h
    · split at h
      · cases h
      · rename_i hg
        split at h
        · cases h
        · rename_i h32
          exact ⟨Classical.byContradiction hg, fun ho => Nat.lt_of_not_le fun h => h32 ⟨ho, h⟩⟩
theorem step_connect {full : Bool} {c : Int} {p : PkI} {T : TurnS} {n : Nat} (h : BrkOK T.b n) (hcn : (T.b.conns.map (·.c)).Nodup) (hw : p.will.1.size ≤ 9223372036854775807) (hci : -9223372036854775808 ≤ c ∧ c ≤ 9223372036854775807) : Step T (connectB full c p T) (n + 1) 3300000 := by
  unfold connectB
  by_cases hb : barB p T.b = 0
  · rw [if_neg (by simpa using hb), joinB'_eq]
    have hbar := barB_zero hb
    obtain ⟨hk1, hk2, hk3, hk4, hk5, hk6⟩ := kickT_ok (full := full) (c := p.client) h hcn hbar.2
    generalize kickT full p.client T = T1 at *
    obtain ⟨hbs, hbk, hbc⟩ := beginB_same (B := T1.b) (client := p.client) (clean := p.clean) (keep := keepP p.props)
    obtain ⟨hjok, _⟩ := begin_ok (B := T1.b) (o := ofS p.client T.b.ses) (client := p.client) (clean := p.clean) (keep := keepP p.props) (x := ⟨c, (beginB p.client p.clean (keepP p.props) T1.b).1.1, p.hasWill, (p.will.1, p.will.2.1, p.will.2.2.1, p.will.2.2.2.1, e0S)⟩) hk1 hk6 (fun y hy s hs => (hk4 y hy).2 s hs) hk5 rfl ⟨hw, hci⟩
    rw [hbs, hbk, hbc]
    have h1 : Step T (tB ⟨(beginB p.client p.clean (keepP p.props) T1.b).2.last, (beginB p.client p.clean (keepP p.props) T1.b).2.ses, dropO (ofS p.client T.b.ses) (beginB p.client p.clean (keepP p.props) T1.b).1.1 T1.b.subs, T1.b.kept, T1.b.conns ++ [⟨c, (beginB p.client p.clean (keepP p.props) T1.b).1.1, p.hasWill, (p.will.1, p.will.2.1, p.will.2.2.1, p.will.2.2.2.1, e0S)⟩]⟩ T1) (n + 1) 3200001 := ⟨hjok, hk2, hk3⟩
    have h2 := h1.trans (step_send (o := ⟨c, ackSe (beginB p.client p.clean (keepP p.props) T1.b).1.2, false⟩) h1.ok)
    exact (h2.trans (step_out h2.ok fun o ho => beginF_ok ho _)).mono (by omega)
  · rw [if_pos (by simpa using hb)]
    exact (step_send (h.mono (Nat.le_succ n))).mono (by omega)
theorem packetB_ok {full : Bool} {c : Int} {p : PkI} {B : BrkS} {n : Nat} (h : BrkOK B n) (hcn : (B.conns.map (·.c)).Nodup) (hk : B.kept.length ≤ 64) (hl : p.subs.length ≤ 100) (hw : p.will.1.size ≤ 9223372036854775807) (hci : -9223372036854775808 ≤ c ∧ c ≤ 9223372036854775807) :
    BrkOK (packetB full c p B).b (n + 1) ∧ (packetB full c p B).outs.length ≤ 3300000 ∧ (packetB full c p B).pubs.length ≤ 3300000 := by
  have key : ∀ {T' : TurnS}, Step ⟨B, [], []⟩ T' (n + 1) 3300000 → BrkOK T'.b (n + 1) ∧ T'.outs.length ≤ 3300000 ∧ T'.pubs.length ≤ 3300000 := fun {T'} hs => ⟨hs.ok, by have := hs.outs; simpa using this, by have := hs.pubs; simpa using this⟩
  unfold packetB
  split
  · rename_i x hx
    have := step_one (full := full) (x := x) (p := p) (T := ⟨B, [], []⟩) h (getC_some hx).1 hk hl
    exact key ⟨this.ok.mono (Nat.le_succ n), this.outs, this.pubs⟩
  · split
    · exact key (step_connect (T := ⟨B, [], []⟩) h hcn hw hci)
    · exact ⟨h.mono (Nat.le_succ n), by simp, by simp⟩
theorem BrkOK.new : BrkOK ⟨0, [], [], [], []⟩ 0 where
  subs := by simp
  flow := by simp
  live := by simp
  one := by simp
  nd := by simp
  cl := by simp
  onl := by simp
  wl := by simp
  last0 := by simp
  lastn := by simp
  rng := by simp
  asc := by simp
  cnd := by simp
  n32 := by simp
  cnt := by simp [cntL]
end Go.Proofs.YtidlldnlphdhcaaGreatDoor
namespace Go.Proofs.YtidlldnlphdhcaaGreatDoor
open Go.H Go.Proofs
set_option linter.unusedSimpArgs false
set_option linter.unusedVariables false
set_option maxRecDepth 100000
variable {h h0 : Heap} {L L' L1 L2 L3 L4 L5 R : List Asn} {Q : Value → Heap → Prop}
structure PkOK (p : Pk) (pl : List PropT) (sl : List SubT) (fl : List ByteArray) : Prop where
  topic : p.2.2.2.2.2.1.size ≤ 9223372036854775807
  client : (p.2.2.2.2.2.2.2.2.2.2.1).size ≤ 9223372036854775807
  will : (p.2.2.2.2.2.2.2.2.2.2.2.2.2.2.1).size ≤ 9223372036854775807
  props : pl.length ≤ 100
  subs : sl.length ≤ 100
  sub : ∀ s ∈ sl, s.1.size ≤ 9223372036854775807
  fils : fl.length ≤ 100
  fil : ∀ f ∈ fl, f.size ≤ 16777216
theorem packet_w {t b n : Nat} {full : Bool} {T : TurnS} {x : ConnS} {p : Pk} {pl : List PropT} {sl : List SubT} {fl : List ByteArray} (ht : TP h0) (hok : BrkOK T.b n) (hc : getC x.c T.b.conns = some x) (hb : T.outs.length ≤ 10000000) (hp : T.pubs.length ≤ 100000000) (hpk : PkOK p pl sl fl)
    (hq : At (turnA t b full (oneB full x (pkI p pl sl fl) T) :: old h0 :: L4) (Q (.tuple #[]))) (hx : Has L (turnA t b full T) L1 := by repeat (first | with_reducible exact Go.H.has0 | apply Go.H.hasS)) (hy : Has L1 (old h0) L2 := by repeat (first | with_reducible exact Go.H.has0 | apply Go.H.hasS)) (hz : Has L2 (ownS encSb 5 (pSubs p) sl) L3 := by repeat (first | with_reducible exact Go.H.has0 | apply Go.H.hasS)) (hw : Has L3 (ownS encS1 1 (pFil p) fl) L4 := by repeat (first | with_reducible exact Go.H.has0 | apply Go.H.hasS)) :
    FW Tryz.prog 32 #[at0 t, .int .i64 x.c, vPkK .u8 p] L Q := by
  refine fun h hs => broker_turn_packet_calls (some ⟨t, 0, none⟩) x.c p h Q ((?_ : W (turnA t b full T :: old h0 :: ownS encSb 5 (pSubs p) sl :: ownS encS1 1 (pFil p) fl :: L4) _ _) h ((hx.then4 hy hz hw).s hs))
  clear hs h hx hy hz hw
  have h2k := hok.s2k
  obtain ⟨T9, hT9⟩ : ∃ T9, T9 = oneB full x (pkI p pl sl fl) T := ⟨_, rfl⟩
  rw [← hT9] at hq
  unfold oneB at hT9
  dsimp only at hT9
  unfold broker_turn_packet
  refine W.newc fun x1 => ?_
  refine W.fact (own_len' (enc := encSb) (size := 5) (s := pSubs p) (xs := sl)) fun hsl => ?_
  refine W.fact (own_len' (enc := encS1) (size := 1) (s := pFil p) (xs := fl)) fun hfl => ?_
  refine W.cutk (fun r => r.1 = decide (1 ≤ p.2.2.2.2.1 ∧ p.2.2.2.2.1 ≤ 65535)) (fun K hK => ?_) (fun r hnum => ?_)
  · refine W.load (v := p.2.2.2.2.1) ?_
    refine W.ite (fun h1 => ?_) (fun h1 => ?_)
    · refine W.load (v := p.2.2.2.2.1) ?_
      refine W.pure (hK _ ?_)
      simp only [decide_eq_true_eq] at h1
      simp [h1]
    · refine W.pure (hK _ ?_)
      simp only [decide_eq_false_iff_not] at h1
      simp [h1]
  refine W.cutk (fun r => r.1 = decide (p.1 = 3 ∨ p.1 = 6)) (fun K hK => ?_) (fun r1 hr1 => ?_)
  · refine W.load (v := p.1) ?_
    refine W.ite (fun g0 => W.pure (hK _ ?_)) (fun g0 => ?_)
    · simp only [beq_iff_eq] at g0; simp [g0]
    refine W.load (v := p.1) ?_
    refine W.pure (hK _ ?_)
    simp only [beq_eq_false_iff_ne, ne_eq] at g0
    by_cases e : p.1 = 6
    · simp [e]
    · simp [e, g0]
  refine W.cut (fun _ => turnA t b full T9 :: old h0 :: L4) (fun K0 hK0 => ?_) (fun _ => W.pure hq.sub)
  by_cases hk : p.1 = 3 ∨ p.1 = 6
  · rw [if_pos hk] at hT9
    subst hT9
    refine W.tt (by rw [hr1]; exact decide_eq_true hk) ?_
    refine W.loadN (v := p) ?_
    refine W.callN (take_w (T := T) (x := x) (p := p) (pl := pl) (sl := sl) (fl := fl) ht hok.toBrkH hc (by omega) (by omega) hpk.topic (At.unN ?_))
    exact W.pure (hK0 ()).sub
  rw [if_neg hk] at hT9
  refine W.ff (by rw [hr1]; exact decide_eq_false hk) ?_
  clear hr1 hk
  refine W.cutk (fun r => r.1 = decide (p.1 = 4 ∨ p.1 = 5 ∨ p.1 = 7)) (fun K hK => ?_) (fun r2 hr2 => ?_)
  · refine W.load (v := p.1) ?_
    refine W.ite (fun g0 => W.pure (hK _ ?_)) (fun g0 => ?_)
    · simp only [beq_iff_eq] at g0; simp [g0]
    refine W.load (v := p.1) ?_
    refine W.ite (fun g1 => W.pure (hK _ ?_)) (fun g1 => ?_)
    · simp only [beq_iff_eq] at g1; simp [g1]
    refine W.load (v := p.1) ?_
    refine W.pure (hK _ ?_)
    simp only [beq_eq_false_iff_ne, ne_eq] at g0; simp only [beq_eq_false_iff_ne, ne_eq] at g1
    by_cases e : p.1 = 7
    · simp [e]
    · simp [e, g0, g1]
  refine W.cut (fun _ => turnA t b full T9 :: old h0 :: L4) (fun K1 hK1 => ?_) (fun _ => W.pure (hK0 ()).sub)
  by_cases hk : p.1 = 4 ∨ p.1 = 5 ∨ p.1 = 7
  · rw [if_pos hk] at hT9
    subst hT9
    refine W.tt (by rw [hr2]; exact decide_eq_true hk) ?_
    refine W.loadN (v := p) ?_
    refine W.callN (answer_w (T := T) (x := x) (p := p) (pl := pl) (sl := sl) (fl := fl) ht hok.toBrkH hc (by omega) (by omega) (At.unN ?_))
    exact W.pure (hK1 ()).sub
  rw [if_neg hk] at hT9
  refine W.ff (by rw [hr2]; exact decide_eq_false hk) ?_
  clear hr2 hk
  refine W.cutk (fun r => r.1 = decide (p.1 = 8 ∧ 1 ≤ p.2.2.2.2.1 ∧ p.2.2.2.2.1 ≤ 65535 ∧ sl ≠ [])) (fun K hK => ?_) (fun r3 hr3 => ?_)
  · refine W.load (v := p.1) ?_
    refine W.ite (fun g0 => ?_) (fun g0 => W.pure (hK _ ?_))
    · simp only [beq_iff_eq] at g0
      refine W.ite (fun g1 => ?_) (fun g1 => W.pure (hK _ ?_))
      · rw [hnum] at g1
        refine W.load (v := pSubs p) ?_
        refine W.pure (hK _ ?_)
        have g1 := of_decide_eq_true g1
        cases sl with
        | nil => simp [hsl]
        | cons a l => simp [hsl, g0, g1]
      · rw [hnum] at g1
        have g1 := of_decide_eq_false g1
        exact (decide_eq_false fun e => g1 ⟨e.2.1, e.2.2.1⟩).symm
    · simp only [beq_eq_false_iff_ne, ne_eq] at g0
      exact (decide_eq_false fun e => g0 e.1).symm
  refine W.cut (fun _ => turnA t b full T9 :: old h0 :: L4) (fun K2 hK2 => ?_) (fun _ => W.pure (hK1 ()).sub)
  by_cases hk : p.1 = 8 ∧ 1 ≤ p.2.2.2.2.1 ∧ p.2.2.2.2.1 ≤ 65535 ∧ sl ≠ []
  · rw [if_pos hk] at hT9
    subst hT9
    refine W.tt (by rw [hr3]; exact decide_eq_true hk) ?_
    refine W.loadN (v := p) ?_
    refine W.callN (subscribe_w (T := T) (x := x) (p := p) (pl := pl) (sl := sl) (fl := fl) ht hok.toBrkH hc hb (by have := hpk.subs; omega) hpk.subs hpk.sub (At.unN ?_))
    exact W.pure (hK2 ()).sub
  rw [if_neg hk] at hT9
  refine W.ff (by rw [hr3]; exact decide_eq_false hk) ?_
  clear hr3 hk
  refine W.cutk (fun r => r.1 = decide (p.1 = 10 ∧ 1 ≤ p.2.2.2.2.1 ∧ p.2.2.2.2.1 ≤ 65535 ∧ fl ≠ [])) (fun K hK => ?_) (fun r4 hr4 => ?_)
  · refine W.load (v := p.1) ?_
    refine W.ite (fun g0 => ?_) (fun g0 => W.pure (hK _ ?_))
    · simp only [beq_iff_eq] at g0
      refine W.ite (fun g1 => ?_) (fun g1 => W.pure (hK _ ?_))
      · rw [hnum] at g1
        refine W.load (v := pFil p) ?_
        refine W.pure (hK _ ?_)
        have g1 := of_decide_eq_true g1
        cases fl with
        | nil => simp [hfl]
        | cons a l => simp [hfl, g0, g1]
      · rw [hnum] at g1
        have g1 := of_decide_eq_false g1
        exact (decide_eq_false fun e => g1 ⟨e.2.1, e.2.2.1⟩).symm
    · simp only [beq_eq_false_iff_ne, ne_eq] at g0
      exact (decide_eq_false fun e => g0 e.1).symm
  refine W.cut (fun _ => turnA t b full T9 :: old h0 :: L4) (fun K3 hK3 => ?_) (fun _ => W.pure (hK2 ()).sub)
  by_cases hk : p.1 = 10 ∧ 1 ≤ p.2.2.2.2.1 ∧ p.2.2.2.2.1 ≤ 65535 ∧ fl ≠ []
  · rw [if_pos hk] at hT9
    subst hT9
    refine W.tt (by rw [hr4]; exact decide_eq_true hk) ?_
    refine W.loadN (v := p) ?_
    refine W.callN (unsubscribe_w (T := T) (x := x) (p := p) (pl := pl) (sl := sl) (fl := fl) ht hok.toBrkH hc hb hpk.fils hpk.fil (At.unN ?_))
    exact W.pure (hK3 ()).sub
  rw [if_neg hk] at hT9
  refine W.ff (by rw [hr4]; exact decide_eq_false hk) ?_
  clear hr4 hk
  refine W.load (v := p.1) ?_
  refine W.cut (fun _ => turnA t b full T9 :: old h0 :: L4) (fun K4 hK4 => ?_) (fun _ => W.pure (hK3 ()).sub)
  by_cases hk : p.1 = 12
  · rw [if_pos hk] at hT9
    subst hT9
    refine W.tt (by simpa using hk) ?_
    refine W.pk0 (k := .u8) (ackO 13 0 0) rfl rfl ?_
    refine W.callN (send_w (T := T) (c := x.c) (o := ackO 13 0 0) (ci := ⟨none, 0, 0⟩) (pi := ⟨none, 0, 0⟩) (by omega) (At.unN ?_))
    exact W.pure (hK4 ()).sub
  rw [if_neg hk] at hT9
  refine W.ff (by simpa using hk) ?_
  clear hk
  refine W.load (v := p.1) ?_
  refine W.cut (fun _ => turnA t b full T9 :: old h0 :: L4) (fun K5 hK5 => ?_) (fun _ => W.pure (hK4 ()).sub)
  by_cases hk : p.1 = 14
  · rw [if_pos hk] at hT9
    subst hT9
    refine W.tt (by simpa using hk) ?_
    refine W.load (v := p.2.2.2.2.2.2.2.1) ?_
    have e : (p.2.2.2.2.2.2.2.1 == 4) = decide (p.2.2.2.2.2.2.2.1 = 4) := rfl
    refine W.callN (end_w (T := T) (c := x.c) (will := p.2.2.2.2.2.2.2.1 == 4) ht hok.toBrkH (by omega) (by omega) (At.unN ?_))
    rw [e]
    exact W.pure (hK5 ()).sub
  rw [if_neg hk] at hT9
  subst hT9
  refine W.ff (by simpa using hk) ?_
  refine W.callN (refuse_w (T := T) (c := x.c) (code := 130) ht hok.toBrkH (by omega) (by omega) (At.unN ?_))
  exact W.pure (hK5 ()).sub
theorem W.turn0 {α : Type} {m : HM α} {Q' : α → Heap → Prop} {t b : Nat} {full : Bool} {B : BrkS} (hw : W (turnA t b full ⟨B, [], []⟩ :: L2) m Q') (hx : Has L (cells t #[at0 b, .bool full, .slice none 0 0, .slice none 0 0]) L1 := by repeat (first | with_reducible exact Go.H.has0 | apply Go.H.hasS)) (hy : Has L1 (brkA b B) L2 := by repeat (first | with_reducible exact Go.H.has0 | apply Go.H.hasS)) : W L m Q' := fun h hs =>
  hw h (turnA_iff.2 (thA_iff.2 ⟨⟨none, 0, 0⟩, ⟨none, 0, 0⟩, ((outs_nil (ownS_nil (enc := encM) (size := 5) ((hx.then hy).s hs))).re [2, 0, 1, 3])⟩))
theorem bNew_w (hq : ∀ b, At (brkA b ⟨0, [], [], [], []⟩ :: L) (Q (at0 b))) : FW Tryz.prog 9 #[] L Q := by
  refine fun h hs => broker_New_calls h Q ((?_ : W L _ _) h hs)
  clear hs h
  unfold broker_New
  refine W.call1 (sNew_w (fun b1 => At.un (x := some ⟨b1, 0, none⟩) ?_))
  refine W.call1 (trNew_w (fun b2 => At.un ?_))
  refine W.call1 (kNew_w (fun b3 => At.un ?_))
  refine W.newm (ek := eKI) (ev := eVC) fun b4 => ?_
  refine W.newc fun b5 => ?_
  refine W.cls5 (A := brkA b5 ⟨0, [], [], [], []⟩) (B := cells b5 (brkC ⟨b1, b2, b3, b4⟩)) (C := tabB b1 0 []) (D := trieA b2 []) (E := keptA b3 []) (F := mapA eKI eVC b4 []) (fun h hs => brkA_iff.2 ⟨⟨b1, b2, b3, b4⟩, hs⟩) ?_
  exact W.pure (hq b5).sub
theorem bPacket_w {b n : Nat} {full : Bool} {B : BrkS} {c : Int} {p : Pk} {pl : List PropT} {sl : List SubT} {fl : List ByteArray} (ht : TP h0) (hok : BrkOK B n) (hn : n ≤ 1000000) (hpk : PkOK p pl sl fl) (hci : -9223372036854775808 ≤ c ∧ c ≤ 9223372036854775807)
    (hq : ∀ so sp : Slc, At (outsA .u8 so (packetB full c (pkI p pl sl fl) B).outs :: ownS encM 5 sp (packetB full c (pkI p pl sl fl) B).pubs :: brkA b (packetB full c (pkI p pl sl fl) B).b :: old h0 :: L5) (Q (.agg #[.slice so.a so.len so.cap, .slice sp.a sp.len sp.cap])))
    (hx : Has L (brkA b B) L1 := by repeat (first | with_reducible exact Go.H.has0 | apply Go.H.hasS)) (hy : Has L1 (old h0) L2 := by repeat (first | with_reducible exact Go.H.has0 | apply Go.H.hasS)) (hz : Has L2 (ownS encSb 5 (pSubs p) sl) L3 := by repeat (first | with_reducible exact Go.H.has0 | apply Go.H.hasS)) (hw : Has L3 (ownS encS1 1 (pFil p) fl) L4 := by repeat (first | with_reducible exact Go.H.has0 | apply Go.H.hasS)) (hv : Has L4 (ownS encPr 4 (pProps p) pl) L5 := by repeat (first | with_reducible exact Go.H.has0 | apply Go.H.hasS)) :
    FW Tryz.prog 13 #[at0 b, .int .i64 c, vPkK .u8 p, .bool full] L Q := by
  refine fun h hs => broker_Broker_Packet_calls (some ⟨b, 0, none⟩) c p full h Q ((?_ : W (brkA b B :: old h0 :: ownS encSb 5 (pSubs p) sl :: ownS encS1 1 (pFil p) fl :: ownS encPr 4 (pProps p) pl :: L5) _ _) h ((hx.then5 hy hz hw hv).s hs))
  clear hs h hx hy hz hw hv
  obtain ⟨T9, hT9⟩ : ∃ T9, T9 = packetB full c (pkI p pl sl fl) B := ⟨_, rfl⟩
  rw [← hT9] at hq
  unfold packetB at hT9
  dsimp only at hT9
  unfold broker_Broker_Packet
  refine W.newc fun x1 => ?_
  refine W.newc fun x2 => ?_
  refine W.ff rfl ?_
  refine W.newc fun x4 => ?_
  refine W.nonnil ?_
  refine W.opn (fun h R => brkA_iff.1) fun q => ?_
  refine W.fact (fun h R hs => conn_nd (m := q.cm) (l := B.conns) hs) fun hcn => ?_
  refine W.load (v := some q.cm) ?_
  refine W.lookup (kind := .agg tC) kKI c ?_
  rw [mget_conn]
  refine W.newc fun x8 => ?_
  refine W.storeN ?_
  refine W.cls5 (A := brkA b B) (B := cells b (brkC q)) (C := tabB q.tb B.last B.ses) (D := trieA q.sb B.subs) (E := keptA q.kb B.kept) (F := mapA eKI eVC q.cm (B.conns.map connE)) (fun h hs => brkA_iff.2 ⟨q, hs⟩) ?_
  refine W.turn0 (t := x4) (b := b) (full := full) (B := B) ?_
  refine W.cut (fun _ => turnA x4 b full T9 :: cells x2 #[.slice none 0 0, .slice none 0 0] :: old h0 :: L5) (fun K hK => ?_) (fun _ => ?_)
  · clear hq
    cases hg : getC c B.conns with
    | some x =>
      rw [hg] at hT9
      simp only at hT9
      subst hT9
      have hxc := (getC_some hg).2
      subst hxc
      refine W.tt rfl ?_
      refine W.loadN (v := p) ?_
      refine W.callN (packet_w (T := ⟨B, [], []⟩) (x := x) (p := p) (pl := pl) (sl := sl) (fl := fl) ht hok hg (by simp) (by simp) hpk (At.unN ?_))
      exact W.pure (hK ()).sub
    | none =>
      rw [hg] at hT9
      simp only at hT9
      refine W.ff rfl ?_
      refine W.load (v := p.1) ?_
      refine W.cut (fun _ => turnA x4 b full T9 :: cells x2 #[.slice none 0 0, .slice none 0 0] :: old h0 :: L5) (fun K2 hK2 => ?_) (fun _ => W.pure (hK ()).sub)
      by_cases hk : p.1 = 1
      · rw [if_pos hk] at hT9
        subst hT9
        refine W.tt (by simpa using hk) ?_
        refine W.loadN (v := p) ?_
        refine W.callN (connect_w (T := ⟨B, [], []⟩) (c := c) (p := p) (pl := pl) (sl := sl) (fl := fl) ht hok hn hg hci (by simp) (by simp) hpk.client hpk.will (by have := hpk.props; omega) (At.unN ?_))
        exact W.pure (hK2 ()).sub
      · rw [if_neg hk] at hT9
        subst hT9
        refine W.ff (by simpa using hk) ?_
        refine W.pk0 (k := .u8) (ackO 14 0 130) rfl rfl ?_
        refine W.callN (close_w (T := ⟨B, [], []⟩) (c := c) (o := ackO 14 0 130) (ci := ⟨none, 0, 0⟩) (pi := ⟨none, 0, 0⟩) (by simp) (At.unN ?_))
        show W (turnA x4 b full ⟨B, [⟨c, ackO 14 0 130, true⟩], []⟩ :: _) _ _
        exact W.pure (hK2 ()).sub
  clear hT9
  refine W.cv2 (A := turnA x4 b full T9) (fun h R hs => turnA_iff.1 hs) ?_
  refine W.nonnil ?_
  refine W.opn2 (fun h R => thA_iff.1) fun so sp => ?_
  refine W.loadNo (v := (so, sp, ())) ?_
  refine W.storeN ?_
  refine W.loadN (v := (so, sp, ())) ?_
  exact W.pure (hq so sp).sub
end Go.Proofs.YtidlldnlphdhcaaGreatDoor
namespace Go.Proofs.YtidlldnlphdhcaaGreatDoor
open Go.H Go.Proofs Go.Lib
set_option linter.unusedSimpArgs false
set_option linter.unusedVariables false
theorem next_asc {t : ByteArray} (h0 : 0 < t.size) (h1 : (t[0]'h0).toNat < 128) (h2 : (t[0]'h0).toNat ≠ 0) : nextLen t = 1 := by
  have hd : Lib.decodeGo t = ((t[0]'h0).toNat, 1) := by
    unfold Lib.decodeGo
    rw [if_neg (by omega)]
    exact decode_ascii t 0 h0 h1
  unfold nextLen
  rw [hd]
  rw [if_neg]
  rintro (e | ⟨e, -⟩)
  · exact h2 e
  · simp only at e; omega
theorem fault_asc {s : ByteArray} (hs : ∀ (i : Nat) (h : i < s.size), (s[i]'h).toNat < 128 ∧ (s[i]'h).toNat ≠ 0) : faultOf s = none := by
  have key : ∀ (f a : Nat), faultGo s f a = none := by
    intro f
    induction f with
    | zero => intro a; rfl
    | succ f ih =>
      intro a
      unfold faultGo
      by_cases ha : a < s.size
      · rw [if_pos ha]
        have hsz : 0 < (s.extract a s.size).size := by rw [ByteArray.size_extract]; omega
        have hg : (s.extract a s.size)[0]'hsz = s[a]'ha := by
          rw [ByteArray.getElem_extract]; congr 1
        have := next_asc hsz (by rw [hg]; exact (hs a ha).1) (by rw [hg]; exact (hs a ha).2)
        rw [this, if_neg (by decide)]
        exact ih _
      · rw [if_neg ha]
  exact key _ _
def ascB (s : ByteArray) : Bool := s.data.toList.all fun c => decide (c.toNat < 128) && decide (c.toNat ≠ 0)
theorem fault_of_asc {s : ByteArray} (h : ascB s = true) : faultOf s = none := fault_asc fun i hi => by
  unfold ascB at h
  have := List.all_eq_true.1 h (s[i]'hi) (by
    have : s[i]'hi = s.data.toList[i]'(by simpa using hi) := by simp [ByteArray.getElem_eq_getElem_data]
    rw [this]; exact List.getElem_mem _)
  simpa using this
theorem levels_eq (s : ByteArray) : levels s = (lev 47 [] s.data.toList).map fun l => ByteArray.mk l.toArray := by
  refine map_data_inj ?_
  rw [levels_data, List.map_map]
  symm
  refine (List.map_congr_left fun x _ => ?_).trans (List.map_id _)
  simp
def sizedA (s : ByteArray) : Bool := ascB s && decide (s.data.toList.length ≠ 0) && decide (s.data.toList.length ≤ 256) && decide ((lev 47 [] s.data.toList).length ≤ 32)
theorem sized_asc {s : ByteArray} (h : sizedA s = true) : sizedT s = true := by
  unfold sizedA at h
  simp only [Bool.and_eq_true, decide_eq_true_eq] at h
  obtain ⟨⟨⟨h1, h2⟩, h3⟩, h4⟩ := h
  refine sizedT_iff.2 ⟨fault_of_asc h1, by simpa using h2, by simpa using h3, ?_⟩
  rw [levels_eq, List.length_map]; exact h4
theorem name_asc {s : ByteArray} (h : sizedA s = true) (h1 : hasB 43 s = false) (h2 : hasB 35 s = false) : nameOK s = true := by
  unfold nameOK; rw [sized_asc h, h1, h2]; rfl
theorem filter_asc {s : ByteArray} (h : sizedA s = true) (h1 : filtG ((lev 47 [] s.data.toList).map fun l => ByteArray.mk l.toArray) = true) : filterOK s = true := by
  unfold filterOK; rw [sized_asc h, levels_eq, h1]; rfl
theorem match_asc {f n : ByteArray} (hf : filterOK f = true) (hn : nameOK n = true) (hd : dollarB f n = false) (hm : matchL ((lev 47 [] f.data.toList).map fun l => ByteArray.mk l.toArray) ((lev 47 [] n.data.toList).map fun l => ByteArray.mk l.toArray) = true) : matchB f n = true := by
  unfold matchB; rw [hf, hn, hd, levels_eq, levels_eq, hm]; rfl
theorem good_asc {s : ByteArray} (h : ascB s = true) (h1 : s ≠ ByteArray.mk #[]) (h2 : s.size ≤ 64) : goodName s := ⟨fault_of_asc h, h1, h2⟩
end Go.Proofs.YtidlldnlphdhcaaGreatDoor
namespace Go.Proofs.YtidlldnlphdhcaaGreatDoor
open Go.H Go.Proofs
set_option linter.unusedSimpArgs false
set_option linter.unusedVariables false
abbrev w0 : MsT := (e0S, e0S, 0, false, e0S)
abbrev joinP (client : ByteArray) : PkI := { kind := 1, retain := false, qos := 0, id := 0, topic := e0S, payload := e0S, code := 0, props := [(17, 100, e0S, e0S)], client := client, clean := false, hasWill := false, will := w0, subs := [], filters := [] }
abbrev subP (id : Int) (sl : List SubT) : PkI := { kind := 8, retain := false, qos := 0, id := id, topic := e0S, payload := e0S, code := 0, props := [], client := e0S, clean := false, hasWill := false, will := w0, subs := sl, filters := [] }
abbrev pubP (m : MsT) (id : Int) : PkI := { kind := 3, retain := m.2.2.2.1, qos := m.2.2.1, id := id, topic := m.1, payload := m.2.1, code := 0, props := [], client := e0S, clean := false, hasWill := false, will := w0, subs := [], filters := [] }
def freshS (id : Int) (c : ByteArray) : SesS := ⟨id, c, true, true, ⟨⟨64, 0, []⟩, 64, true, [], []⟩, ⟨64, 0, []⟩⟩
def joined (c : Int) (client : ByteArray) (B : BrkS) : BrkS := ⟨B.last + 1, B.ses ++ [freshS (B.last + 1) client], B.subs, B.kept, B.conns ++ [⟨c, B.last + 1, false, w0⟩]⟩
theorem begin_fresh : beginF ⟨⟨64, 0, []⟩, 64, false, [], []⟩ 64 = (⟨⟨64, 0, []⟩, 64, true, [], []⟩, []) := by
  unfold beginF goOnF
  simp [goF]
  decide
theorem toSes_nil {l : List ConnS} {id : Int} : toSes l id [] = [] := by
  unfold toSes
  simp
theorem setS_last {A : List SesS} {s : SesS} {f : SesS → SesS} (hn : ∀ x ∈ A, x.id ≠ s.id) : setS s.id f (A ++ [s]) = A ++ [f s] := by
  unfold setS
  rw [List.map_append, List.map_cons, List.map_nil, if_pos rfl]
  congr 1
  have : A.map (fun x => if x.id = s.id then f x else x) = A.map id := List.map_congr_left fun x hx => if_neg (hn x hx)
  rw [this, List.map_id]
theorem getS_last {A : List SesS} {s : SesS} (hn : ∀ x ∈ A, x.id ≠ s.id) : getS s.id (A ++ [s]) = some s := by
  unfold getS
  rw [List.find?_append, List.find?_eq_none.2 (fun x hx => by simpa using hn x hx)]
  simp
theorem join_eq {full : Bool} {B : BrkS} {n : Nat} {c : Int} {client : ByteArray} (h : BrkOK B n) (hc : getC c B.conns = none) (ho : ofS client B.ses = none) (hl : B.conns.length < 64) (hg : goodName client) (h32 : B.ses.length < 32) :
    packetB full c (joinP client) B = ⟨joined c client B, [⟨c, ackSe false, false⟩], []⟩ := by
  have hb : barB (joinP client) B = 0 := by
    unfold barB
    rw [if_neg (by simp), if_neg (by omega), if_neg (fun e => e hg), if_neg (by omega)]
  have hno : ∀ x ∈ B.ses, x.id ≠ (newS (B.last + 1) client true).id := fun x hx => by
    have := (h.rng x hx).2
    show x.id ≠ B.last + 1
    omega
  have hr : beginB client false true B = ((B.last + 1, false), { B with last := B.last + 1, ses := B.ses ++ [newS (B.last + 1) client true] }) := by
    unfold beginB; rw [ho]
  have hk : kickT full client ⟨B, [], []⟩ = ⟨B, [], []⟩ := by unfold kickT; rw [ho]
  have hkp : keepP [(17, 100, e0S, e0S)] = true := by unfold keepP findP; rfl
  have hmp : mostP [(17, 100, e0S, e0S)] = 64 := by unfold mostP findP; rfl
  unfold packetB
  rw [hc]
  simp only [if_true]
  unfold connectB
  rw [if_neg (by simpa using hb), joinB'_eq]
  simp only [hk, hkp, hmp, hr, ho]
  unfold outOp
  have hgs : getS (B.last + 1) (B.ses ++ [newS (B.last + 1) client true]) = some (newS (B.last + 1) client true) := getS_last hno
  simp only [hgs]
  have hbg : beginF (newS (B.last + 1) client true).out 64 = (⟨⟨64, 0, []⟩, 64, true, [], []⟩, []) := begin_fresh
  rw [hbg]
  have hss : setS (B.last + 1) (setOut ⟨⟨64, 0, []⟩, 64, true, [], []⟩) (B.ses ++ [newS (B.last + 1) client true]) = B.ses ++ [freshS (B.last + 1) client] := setS_last hno
  simp only [hss, dropO]
  show TurnS.mk _ (_ ++ toSes _ _ []) _ = _
  rw [toSes_nil, List.append_nil]
  rfl
abbrev tAP : ByteArray := ByteArray.mk #[97, 47, 43]
abbrev tH : ByteArray := ByteArray.mk #[35]
abbrev tAB : ByteArray := ByteArray.mk #[97, 47, 98]
abbrev tC1 : ByteArray := ByteArray.mk #[99]
abbrev tD1 : ByteArray := ByteArray.mk #[100]
abbrev tX1 : ByteArray := ByteArray.mk #[120]
theorem ok_ap : filterOK tAP = true := filter_asc (by decide) (by decide)
theorem ok_h : filterOK tH = true := filter_asc (by decide) (by decide)
theorem ok_ab : nameOK tAB = true := name_asc (by decide) (by decide) (by decide)
theorem ma_ap : matchB tAP tAB = true := match_asc ok_ap ok_ab (by decide) (by decide)
theorem ma_h : matchB tH tAB = true := match_asc ok_h ok_ab (by decide) (by decide)
theorem gdw_c : goodName tC1 := good_asc (by decide) (by decide) (by decide)
theorem gdw_d : goodName tD1 := good_asc (by decide) (by decide) (by decide)
abbrev slW : List SubT := [(tAP, 1, false, false, 0), (tH, 0, false, false, 0)]
def B1w : BrkS := joined 1 tC1 ⟨0, [], [], [], []⟩
def E1w : List Ent := [(1, tH, 0), (1, tAP, 1)]
def B2w : BrkS := bSubs E1w B1w
def B3w : BrkS := joined 2 tD1 B2w
theorem add1 : addE [] 1 tAP 1 = (0, [(1, tAP, 1)]) := by
  unfold addE
  rw [if_neg (by rw [ok_ap]; decide), if_neg (by decide)]
  rfl
theorem add2 : addE [(1, tAP, 1)] 1 tH 0 = (0, E1w) := by
  unfold addE
  rw [if_neg (by rw [ok_h]; decide), if_neg (by decide)]
  have e : List.findIdx? (fun x => decide (keyE x = (1, tH))) [((1 : Int), tAP, (1 : Int))] = none := by decide
  rw [e]
  simp only
  rw [if_neg (by decide)]
  have e2 : insS ltK keyE ((1 : Int), tH, (0 : Int)) [((1 : Int), tAP, (1 : Int))] = E1w := by
    unfold insS
    rw [if_pos (by decide)]
    rfl
  rw [e2]
theorem addW : addAll 1 slW [] = (E1w, [1, 0]) := by
  unfold addAll
  simp only [add1]
  unfold addAll
  simp only [add2]
  unfold addAll
  rfl
theorem addedW : added 1 slW [] = slW := by
  unfold added
  simp only [add1]
  unfold added
  simp only [add2]
  unfold added
  rfl
theorem ok_new : BrkOK ⟨0, [], [], [], []⟩ 0 := BrkOK.new
theorem w1 : packetB false 1 (joinP tC1) ⟨0, [], [], [], []⟩ = ⟨B1w, [⟨1, ackSe false, false⟩], []⟩ := join_eq ok_new rfl rfl (by decide) gdw_c (by decide)
theorem w2 : packetB false 1 (subP 1 slW) B1w = ⟨B2w, [⟨1, ackCs 9 1 [1, 0], false⟩], []⟩ := by
  unfold packetB
  have hg : getC 1 B1w.conns = some ⟨1, 1, false, w0⟩ := rfl
  rw [hg]
  simp only
  unfold oneB
  rw [if_neg (by decide), if_neg (by decide), if_pos (by decide)]
  unfold subscribeB
  have hs : B1w.subs = [] := rfl
  have hk : B1w.kept = [] := rfl
  simp only [hs, addW, addedW]
  unfold keptSub
  simp only [List.foldl_cons, List.foldl_nil]
  rw [if_neg (by decide)]
  simp only [hk, hitR, List.filter_nil, List.foldl_nil]
  rw [if_neg (by decide)]
  rfl
theorem ok_w1 : BrkOK B1w 1 := by
  have := (packetB_ok (full := false) (c := 1) (p := joinP tC1) ok_new (by simp) (by simp) (by decide) (by decide) (by decide)).1
  rw [w1] at this; exact this
theorem ok_w2 : BrkOK B2w 2 := by
  have := (packetB_ok (full := false) (c := 1) (p := subP 1 slW) ok_w1 (by decide) (by decide) (by decide) (by decide) (by decide)).1
  rw [w2] at this; exact this
theorem w3 : packetB false 2 (joinP tD1) B2w = ⟨B3w, [⟨2, ackSe false, false⟩], []⟩ := join_eq ok_w2 rfl (by decide) (by decide) gdw_d (by decide)
theorem ok_w3 : BrkOK B3w 3 := by
  have := (packetB_ok (full := false) (c := 2) (p := joinP tD1) ok_w2 (by decide) (by decide) (by decide) (by decide) (by decide)).1
  rw [w3] at this; exact this
abbrev mW : MsT := (tAB, tX1, 2, false, e0S)
theorem send_new (m : MsT) (hm : m.2.2.1 = 1) : ∃ o i, sendF ⟨⟨64, 0, []⟩, 64, true, [], []⟩ m = ((o, [pubO m i false]), 0) := by
  unfold sendF
  rw [if_neg (by omega), if_neg (by omega), if_neg (by simp)]
  unfold goOnF
  rw [if_pos rfl]
  simp only [List.nil_append]
  unfold goF
  rw [if_neg (by simp), if_pos (by omega)]
  simp only [goF]
  exact ⟨_, _, rfl⟩
theorem w4 : ∃ B p i, packetB false 2 (pubP mW 9) B3w = ⟨B, [⟨2, ackO 5 9 0, false⟩, ⟨1, pubO p i false, false⟩], [mW]⟩ ∧ p.2.2.1 = 1 := by
  unfold packetB
  have hg : getC 2 B3w.conns = some ⟨2, 2, false, w0⟩ := rfl
  rw [hg]
  simp only
  unfold oneB
  rw [if_pos (by decide)]
  unfold takeB
  have hg2 : getS 2 B3w.ses = some (freshS 2 tD1) := rfl
  rw [if_neg (by rw [ok_ab]; decide), hg2]
  have ht : takeR (freshS 2 tD1).inn 3 2 9 0 = (true, some (5, 0), 0, [9]) := by decide
  simp only [ht, if_neg (show ¬ (false = true) by decide)]
  rw [if_neg (by simp), if_pos (by simp)]
  unfold publishB handB keepB
  rw [if_neg (by decide)]
  have hsb : B3w.subs = E1w := rfl
  have hf : E1w.filter (fun x => matchB x.2.1 tAB) = E1w := List.filter_eq_self.2 fun x hx => by
    rcases List.mem_cons.1 hx with rfl | hx
    · exact ma_h
    · rw [List.mem_singleton.1 hx]; exact ma_ap
  simp only [hsb, hf]
  have hid : idsL none E1w = [1] := by decide
  rw [hid]
  simp only [List.foldl_cons, List.foldl_nil]
  have hqs : min (2 : Int) (qosL E1w 1) = 1 := by decide
  unfold handOne
  simp only [hqs]
  unfold outOp
  obtain ⟨o, i, hsd⟩ := send_new (tAB, tX1, 1, false, e0S) rfl
  have hg3 : getS 1 (setS 2 (setInn ⟨(freshS 2 tD1).inn.most, (freshS 2 tD1).inn.taken, [9]⟩) B3w.ses) = some (freshS 1 tC1) := rfl
  simp only [hg3]
  have hso : (freshS 1 tC1).out = ⟨⟨64, 0, []⟩, 64, true, [], []⟩ := rfl
  rw [hso, hsd]
  exact ⟨_, (tAB, tX1, 1, false, e0S), i, rfl, rfl⟩
end Go.Proofs.YtidlldnlphdhcaaGreatDoor
namespace Go.Proofs.YtidlldnlphdhcaaGreatDoor
open Go.H Go.Proofs
set_option linter.unusedSimpArgs false
set_option linter.unusedVariables false
set_option maxRecDepth 100000
variable {h h0 : Heap} {L L' L1 L2 L3 L4 L5 R : List Asn} {Q : Value → Heap → Prop}
theorem W.loadee {β γ : Type} {t : Tag} {enc : γ → List Value} {size : Nat} {s : Slc} {xs : List γ} {Q' : β → Heap → Prop} {i j k : Nat} {a : Addr} {x : γ} {v : t.ty} {f : t.ty → HM β} (ha : El s size i a) (hi : xs[i]? = some x) (hw : W L (f v) Q') (hx : Has L (ownS enc size s xs) L' := by repeat (first | with_reducible exact Go.H.has0 | apply Go.H.hasS)) (hv : ((enc x)[j + k]?).bind t.get = some v := by rfl) [Enc enc size] : W L (HM.bind (HM.load1 t (Addr.add (Addr.add a j) k)) f) Q' := by
  rw [add_add']
  exact W.loade ha hi hw hx hv
theorem W.row1 {α γ : Type} {enc : γ → List Value} {size : Nat} {m : HM α} {Q' : α → Heap → Prop} {x : Nat} {cs : Array Value} (u : γ) (hw : W (ownS enc size ⟨some ⟨x, 0, none⟩, 1, 1⟩ [u] :: L') m Q') (hx : Has L (cells x cs) L' := by repeat (first | with_reducible exact Go.H.has0 | apply Go.H.hasS)) (hc : cs = (enc u).toArray := by rfl) [Enc enc size] : W L m Q' := fun h hs => by
  subst hc
  refine hw h (ownS_mk (b := x) (o := 0) (cs := (enc u).toArray) ⟨by simp, Nat.le_refl _, rfl, by simp [Enc.len (enc := enc)], by
    simp [Enc.len (enc := enc)]
    exact List.take_of_length_le (Nat.le_of_eq (Enc.len u))⟩ (hx.s hs))
abbrev nilS : Slc := ⟨none, 0, 0⟩
abbrev joinK (x : Nat) (client : ByteArray) : Pk := (1, false, false, 0, 0, e0S, e0S, 0, nilS, ⟨some ⟨x, 0, none⟩, 1, 1⟩, client, false, 0, false, e0S, e0S, 0, false, nilS, false, false, e0S, e0S, false, nilS, nilS, ())
abbrev subK (S : Slc) (id : Int) : Pk := (8, false, false, 0, id, e0S, e0S, 0, nilS, nilS, e0S, false, 0, false, e0S, e0S, 0, false, nilS, false, false, e0S, e0S, false, S, nilS, ())
abbrev pubK (m : MsT) (id : Int) : Pk := (3, false, m.2.2.2.1, m.2.2.1, id, m.1, m.2.1, 0, nilS, nilS, e0S, false, 0, false, e0S, e0S, 0, false, nilS, false, false, e0S, e0S, false, nilS, nilS, ())
theorem e0_size : e0S.size ≤ 9223372036854775807 := by decide
theorem joinK_ok {x : Nat} {client : ByteArray} (h : client.size ≤ 9223372036854775807) : PkOK (joinK x client) [(17, 100, e0S, e0S)] [] [] := ⟨e0_size, h, e0_size, by decide, by decide, by simp, by decide, by simp⟩
theorem subK_ok {S : Slc} {id : Int} {sl : List SubT} (h : sl.length ≤ 100) (h2 : ∀ s ∈ sl, s.1.size ≤ 9223372036854775807) : PkOK (subK S id) [] sl [] := ⟨e0_size, e0_size, e0_size, by decide, h, h2, by decide, by simp⟩
theorem pubK_ok {m : MsT} {id : Int} (h : m.1.size ≤ 9223372036854775807) : PkOK (pubK m id) [] [] [] := ⟨h, e0_size, e0_size, by decide, by decide, by simp, by decide, by simp⟩
theorem join_w {b n : Nat} {B B1 B2 : BrkS} {c : Int} {client : ByteArray} {sl : List SubT} {S : Slc} {o1 o2 : OutO} {r1 r2 : List OutO} {ps : List MsT} (ht : TP h0) (hok : BrkOK B n) (hn : n ≤ 999999) (hnd : (B.conns.map (·.c)).Nodup) (hkl : B.kept.length ≤ 64) (hci : -9223372036854775808 ≤ c ∧ c ≤ 9223372036854775807) (hcl : client.size ≤ 9223372036854775807)
    (hsl : sl.length ≤ 100) (hss : ∀ s ∈ sl, s.1.size ≤ 9223372036854775807)
    (h1 : packetB false c (joinP client) B = ⟨B1, o1 :: r1, []⟩) (hk1 : o1.pk.kind = 2) (hc1 : o1.pk.code = 0)
    (h2 : (sl = [] ∧ B2 = B1) ∨ (sl ≠ [] ∧ packetB false c (subP 1 sl) B1 = ⟨B2, o2 :: r2, ps⟩ ∧ o2.pk.kind = 9 ∧ o2.pk.codes.length = sl.length))
    (hq : At (brkA b B2 :: old h0 :: L3) (Q (.bool true))) (hx : Has L (brkA b B) L1 := by repeat (first | with_reducible exact Go.H.has0 | apply Go.H.hasS)) (hy : Has L1 (old h0) L2 := by repeat (first | with_reducible exact Go.H.has0 | apply Go.H.hasS)) (hz : Has L2 (ownS encSb 5 S sl) L3 := by repeat (first | with_reducible exact Go.H.has0 | apply Go.H.hasS)) :
    FW Tryz.prog 11 #[at0 b, .int .i64 c, .string client, .slice S.a S.len S.cap] L Q := by
  refine fun h hs => law19_join_calls (some ⟨b, 0, none⟩) c client S h Q ((?_ : W (brkA b B :: old h0 :: ownS encSb 5 S sl :: L3) _ _) h ((hx.then3 hy hz).s hs))
  clear hs h hx hy hz
  have hok1 : BrkOK B1 (n + 1) := by
    have := (packetB_ok (full := false) (c := c) (p := joinP client) hok hnd hkl (by simp) e0_size hci).1
    rw [h1] at this; exact this
  unfold law19_join
  refine W.newc fun x1 => ?_
  refine W.row1 (enc := encPr) ((17, 100, e0S, e0S) : PropT) ?_
  refine W.nils encSb 5 ?_
  refine W.nils encS1 1 ?_
  refine W.call1 (bPacket_w (p := joinK x1 client) (pl := [(17, 100, e0S, e0S)]) (sl := []) (fl := []) (full := false) ht hok (by omega) (joinK_ok hcl) hci (fun so sp => At.un (x := (so, sp, ())) ?_))
  rw [show packetB false c (pkI (joinK x1 client) [(17, 100, e0S, e0S)] [] []) B = ⟨B1, o1 :: r1, []⟩ from h1]
  dsimp only
  refine W.newc fun x3 => ?_
  refine W.storeN ?_
  refine W.fact (own_len' (enc := encM) (size := 5) (s := sp) (xs := ([] : List MsT))) fun hpl => ?_
  refine W.opnp (fun h R => outs_iff.1) fun T hT => ?_
  obtain ⟨⟨c1, p1, o⟩, T, rfl⟩ : ∃ a T', T = a :: T' := by cases T with | nil => cases hT | cons a T => exact ⟨a, T, rfl⟩
  have hTo : o = o1 := (List.cons.inj hT).1
  clear hT
  subst hTo
  refine W.fact (own_len' (enc := encOu .u8) (size := 28) (s := so) (xs := ((c1, p1, o) :: T).map ouF)) fun hol => ?_
  refine W.cutk (fun r => r.1 = false) (fun K hK => ?_) (fun r hr => ?_)
  · refine W.load (v := so) ?_
    refine W.ff (by rw [hol]; exact decide_eq_false (by simp only [List.map_cons, List.length_cons]; omega)) ?_
    refine W.load (v := so) ?_
    refine W.idx (enc := encOu .u8) (xs := ((c1, p1, o) :: T).map ouF) (i := 0) (by simp) (fun a ha => ?_)
    refine W.loadee (x := ouF (c1, p1, o)) (v := o.pk.kind) ha rfl ?_
    refine W.ff (by rw [hk1]; rfl) ?_
    refine W.load (v := so) ?_
    refine W.idx (enc := encOu .u8) (xs := ((c1, p1, o) :: T).map ouF) (i := 0) (by simp) (fun a2 ha2 => ?_)
    refine W.loadee (x := ouF (c1, p1, o)) (v := o.pk.code) ha2 rfl ?_
    refine W.ff (by rw [hc1]; rfl) ?_
    refine W.loadx (b := x3) (i := 1) (v := sp) ?_
    refine W.pure (hK _ ?_)
    rw [hpl]; rfl
  refine W.ff hr ?_
  refine W.fact (own_len' (enc := encSb) (size := 5) (s := S) (xs := sl)) fun hsn => ?_
  rcases h2 with ⟨rfl, rfl⟩ | ⟨hne, h2, hk2, hc2⟩
  · refine W.tt (by rw [hsn]; rfl) ?_
    exact W.pure hq.sub
  · refine W.ff (by rw [hsn]; exact decide_eq_false (fun e => hne (List.length_eq_zero_iff.1 (by omega)))) ?_
    refine W.nils encPr 4 ?_
    refine W.nils encS1 1 ?_
    refine W.call1 (bPacket_w (B := B1) (p := subK S 1) (pl := []) (sl := sl) (fl := []) (full := false) ht hok1 (by omega) (subK_ok hsl hss) hci (fun so2 sp2 => At.un (x := (so2, sp2, ())) ?_))
    rw [show packetB false c (pkI (subK S 1) [] sl []) B1 = ⟨B2, o2 :: r2, ps⟩ from h2]
    dsimp only
    refine W.newc fun x14 => ?_
    refine W.storeN ?_
    refine W.opnp (fun h R hs => (outs_iff (k := .u8) (s := so2) (os := o2 :: r2)).1 hs) fun T2 hT2 => ?_
    obtain ⟨⟨c2, p2, o'⟩, T2, rfl⟩ : ∃ a T', T2 = a :: T' := by cases T2 with | nil => cases hT2 | cons a T => exact ⟨a, T, rfl⟩
    have hTo2 : o' = o2 := (List.cons.inj hT2).1
    clear hT2
    subst hTo2
    refine W.fact (own_len' (enc := encOu .u8) (size := 28) (s := so2) (xs := ((c2, p2, o') :: T2).map ouF)) fun hol2 => ?_
    refine W.fact (A := bigA (ouB .u8) ((c2, p2, o') :: T2)) (p := c2.len = o'.pk.codes.length) (fun h R hs => ?_) fun hcl2 => ?_
    · have h5 : sat h (bigA (ouB .u8) [(c2, p2, o')] :: bigA (ouB .u8) T2 :: R) := bigA_cat.1 hs
      have h6 := pkB_iff.1 (bigA_sing.1 h5)
      exact h6.own_len
    refine W.cutk (fun r => r.1 = true) (fun K hK => ?_) (fun r hr2 => ?_)
    · refine W.load (v := so2) ?_
      refine W.tt (by rw [hol2]; exact decide_eq_true (by simp only [List.map_cons, List.length_cons]; omega)) ?_
      refine W.load (v := so2) ?_
      refine W.idx (enc := encOu .u8) (xs := ((c2, p2, o') :: T2).map ouF) (i := 0) (by simp) (fun a ha => ?_)
      refine W.loadee (x := ouF (c2, p2, o')) (v := o'.pk.kind) ha rfl ?_
      refine W.tt (by rw [hk2]; rfl) ?_
      refine W.load (v := so2) ?_
      refine W.idx (enc := encOu .u8) (xs := ((c2, p2, o') :: T2).map ouF) (i := 0) (by simp) (fun a2 ha2 => ?_)
      refine W.loadee (x := ouF (c2, p2, o')) (v := c2) ha2 rfl ?_
      refine W.pure (hK _ ?_)
      rw [hcl2, hc2, hsn]; simp
    refine W.pure ?_
    show At _ (Q (.bool r.1))
    rw [hr2]
    exact hq.sub
end Go.Proofs.YtidlldnlphdhcaaGreatDoor
namespace Go.Proofs.YtidlldnlphdhcaaGreatDoor
open Go.ChangeShapes Go.WideShapes Go.ChangeAt Go.RowKit Go.Proofs Go.Lib Go.H
set_option linter.unusedSimpArgs false
set_option linter.unusedVariables false
set_option maxRecDepth 100000
section
variable {H : Type} {ec : TypeId × Value → H} {w : World} {base : Nat} {sp : Nat → Bool} {held : Bool} {ok : TypeId → DataW H → Prop} {top : Nat} {wt : TypeId → Nat}
theorem rd_Msg19 (hk : Go.R.OkLaw Tryz.prog ok top wt) : Go.R.RdG ec Tryz.prog w base sp held ok 29 encM (fun x : MsT => x.1.size ≤ top ∧ x.2.1.size ≤ top ∧ (Lit.int .i64 x.2.2.1).wf = true ∧ True ∧ x.2.2.2.2.size ≤ top) :=
  Go.R.rg_map (fun x : MsT => x) (Go.R.rg_struct hk Tryz.underlying29 (n := 5) (by kernel_rfl) (Go.R.rf_cons (c := 1) (by kernel_rfl) (by rfl) (Go.R.rg_str hk Tryz.underlying9)
    (Go.R.rf_cons (c := 1) (by kernel_rfl) (by rfl) (Go.R.rg_str hk Tryz.underlying9)
    (Go.R.rf_cons (c := 1) (by kernel_rfl) (by rfl) (Go.R.rg_int Tryz.underlying3)
    (Go.R.rf_cons (c := 1) (by kernel_rfl) (by rfl) (Go.R.rg_bool Tryz.underlying4)
    (Go.R.rf_one (c := 1) (by kernel_rfl) (by rfl) (by decide) (Go.R.rg_str hk Tryz.underlying9))))))) (fun _ => rfl) (fun _ h => h)
theorem rd_Msgs19 (hk : Go.R.OkLaw Tryz.prog ok top wt) : Go.R.RdG ec Tryz.prog w base sp held ok 22 (fun x : Slc × List MsT => [.slice x.1.a x.1.len x.1.cap]) (Go.R.GoodG encM 5 (wt 29) top w.heap (fun x : MsT => x.1.size ≤ top ∧ x.2.1.size ≤ top ∧ (Lit.int .i64 x.2.2.1).wf = true ∧ True ∧ x.2.2.2.2.size ≤ top)) :=
  Go.R.rg_slice hk Tryz.underlying22 (by kernel_rfl) rfl (rd_Msg19 hk)
end
end Go.Proofs.YtidlldnlphdhcaaGreatDoor
namespace Go.Proofs.YtidlldnlphdhcaaGreatDoor
open Go.H Go.Proofs
set_option linter.unusedSimpArgs false
set_option linter.unusedVariables false
set_option maxRecDepth 100000
variable {h h0 : Heap} {L L' L1 L2 L3 L4 L5 R : List Asn} {Q : Value → Heap → Prop}
theorem W.rown {α γ : Type} {enc : γ → List Value} {size n : Nat} {m : HM α} {Q' : α → Heap → Prop} {x : Nat} {cs : Array Value} (us : List γ) (hw : W (ownS enc size ⟨some ⟨x, 0, none⟩, n, n⟩ us :: L') m Q') (hx : Has L (cells x cs) L' := by repeat (first | with_reducible exact Go.H.has0 | apply Go.H.hasS)) (hc : cs = (us.flatMap enc).toArray := by rfl) (hn : us.length = n := by rfl) [Enc enc size] : W L m Q' := fun h hs => by
  subst hc hn
  have hl := flat_len (Enc.len (enc := enc)) us
  refine hw h (ownS_mk (b := x) (o := 0) (cs := (us.flatMap enc).toArray) ⟨by simp, Nat.le_refl _, rfl, by simp [hl], by
    simp only [Nat.zero_mul, List.drop_zero]
    exact List.take_of_length_le (Nat.le_of_eq hl)⟩ (hx.s hs))
theorem map_two {α β : Type} {f : α → β} {T : List α} {x y : β} (h : T.map f = [x, y]) : ∃ a b, T = [a, b] ∧ f a = x ∧ f b = y := by
  rcases T with _ | ⟨a, _ | ⟨b, _ | ⟨c, T⟩⟩⟩ <;> simp at h
  exact ⟨a, b, rfl, h⟩
theorem z0 : 0 ≤ 999999 := by decide
theorem z2 : 2 ≤ 999999 := by decide
theorem nd0 : (([] : List ConnS).map (·.c)).Nodup := by simp
theorem kl0 : ([] : List MsgT).length ≤ 64 := by decide
theorem ci1 : -9223372036854775808 ≤ (1 : Int) ∧ (1 : Int) ≤ 9223372036854775807 := by decide
theorem ci2 : -9223372036854775808 ≤ (2 : Int) ∧ (2 : Int) ≤ 9223372036854775807 := by decide
theorem sz1 : tC1.size ≤ 9223372036854775807 := by decide
theorem sl2 : slW.length ≤ 100 := by decide
theorem ss2 : ∀ s ∈ slW, s.1.size ≤ 9223372036854775807 := by decide
theorem sl0 : ([] : List SubT).length ≤ 100 := by decide
theorem ss0 : ∀ s ∈ ([] : List SubT), s.1.size ≤ 9223372036854775807 := by simp
theorem nd2 : (B2w.conns.map (·.c)).Nodup := by decide
theorem kl2 : B2w.kept.length ≤ 64 := by decide
theorem wr2 : (slW = [] ∧ B2w = B1w) ∨ (slW ≠ [] ∧ packetB false 1 (subP 1 slW) B1w = ⟨B2w, (⟨1, ackCs 9 1 [1, 0], false⟩ : OutO) :: [], []⟩ ∧ (⟨1, ackCs 9 1 [1, 0], false⟩ : OutO).pk.kind = 9 ∧ (⟨1, ackCs 9 1 [1, 0], false⟩ : OutO).pk.codes.length = slW.length) := .inr ⟨by simp, w2, rfl, rfl⟩
theorem pkW : PkOK (pubK mW 9) [] [] [] := pubK_ok (by decide)
theorem wakes_w (ht : TP h0) (hq : At (old h0 :: L1) (Q (.bool true))) (hx : Has L (old h0) L1 := by repeat (first | with_reducible exact Go.H.has0 | apply Go.H.hasS)) : FW Tryz.prog 10 #[] L Q := by
  refine fun h hs => law19_wakes_calls h Q ((?_ : W (old h0 :: L1) _ _) h (hx.s hs))
  clear hs h hx
  unfold law19_wakes
  refine W.call1 (bNew_w (fun b => At.un (x := some ⟨b, 0, none⟩) ?_))
  refine W.cutp (fun r => r.1 = false) (fun _ => brkA b B3w :: old h0 :: L1) (fun K hK => ?_) (fun r hr => ?_)
  · refine W.newc fun x2 => ?_
    refine W.rown (enc := encSb) (x := x2) (n := 2) slW ?_
    refine W.call1 (join_w (b := b) (n := 0) (B := ⟨0, [], [], [], []⟩) (B1 := B1w) (B2 := B2w) (c := 1) (client := tC1) (sl := slW) (S := ⟨some ⟨x2, 0, none⟩, 2, 2⟩) (o1 := ⟨1, ackSe false, false⟩) (r1 := []) (o2 := ⟨1, ackCs 9 1 [1, 0], false⟩) (r2 := []) (ps := []) ht ok_new z0 nd0 kl0 ci1 sz1 sl2 ss2 w1 rfl rfl wr2 (At.un (x := true) ?_))
    refine W.ff rfl ?_
    refine W.nils encSb 5 ?_
    refine W.call1 (join_w (b := b) (n := 2) (B := B2w) (B1 := B3w) (B2 := B3w) (c := 2) (client := tD1) (sl := []) (S := nilS) (o1 := ⟨2, ackSe false, false⟩) (r1 := []) (o2 := ⟨2, ackSe false, false⟩) (r2 := []) (ps := []) ht ok_w2 z2 nd2 kl2 ci2 sz1 sl0 ss0 w3 rfl rfl (.inl ⟨rfl, rfl⟩) (At.un (x := true) ?_))
    exact W.pure (hK (false, ()) rfl).sub
  refine W.ff hr ?_
  obtain ⟨B, p, i, hw4, hpq⟩ := w4
  refine W.nils encSb 5 ?_
  refine W.nils encS1 1 ?_
  refine W.nils encPr 4 ?_
  refine W.call1 (bPacket_w (b := b) (B := B3w) (c := 2) (p := pubK mW 9) (pl := []) (sl := []) (fl := []) (full := false) ht ok_w3 (by decide) pkW ci2 (fun so sp => At.un (x := (so, sp, ())) ?_))
  rw [show packetB false 2 (pkI (pubK mW 9) [] [] []) B3w = _ from hw4]
  dsimp only
  refine W.newc fun x7 => ?_
  refine W.storeN ?_
  refine W.fact (own_len' (enc := encM) (size := 5) (s := sp) (xs := [mW])) fun hpl => ?_
  refine W.opnp (fun h R hs => (outs_iff (k := .u8) (s := so)).1 hs) fun T hT => ?_
  obtain ⟨u, v, rfl, hu, hv⟩ := map_two hT
  clear hT
  refine W.fact (own_len' (enc := encOu .u8) (size := 28) (s := so) (xs := List.map ouF [u, v])) fun hol => ?_
  refine W.cutk (fun r => r.1 = true) (fun K hK => ?_) (fun r hr2 => ?_)
  · refine W.load (v := so) ?_
    refine W.tt (by rw [hol]; rfl) ?_
    refine W.load (v := so) ?_
    refine W.idx (enc := encOu .u8) (xs := List.map ouF [u, v]) (i := 0) (by simp) (fun a ha => ?_)
    refine W.loade (k := 0) (x := ouF u) (v := u.2.2.conn) ha rfl ?_
    refine W.tt (by rw [hu]; rfl) ?_
    refine W.load (v := so) ?_
    refine W.idx (enc := encOu .u8) (xs := List.map ouF [u, v]) (i := 0) (by simp) (fun a ha => ?_)
    refine W.loadee (x := ouF u) (v := u.2.2.pk.kind) ha rfl ?_
    refine W.tt (by rw [hu]; rfl) ?_
    refine W.load (v := so) ?_
    refine W.idx (enc := encOu .u8) (xs := List.map ouF [u, v]) (i := 1) (by simp) (fun a ha => ?_)
    refine W.loade (k := 0) (x := ouF v) (v := v.2.2.conn) ha rfl ?_
    refine W.tt (by rw [hv]; rfl) ?_
    refine W.load (v := so) ?_
    refine W.idx (enc := encOu .u8) (xs := List.map ouF [u, v]) (i := 1) (by simp) (fun a ha => ?_)
    refine W.loadee (x := ouF v) (v := v.2.2.pk.qos) ha rfl ?_
    refine W.tt (by rw [hv]; show (p.2.2.1 == 1) = true; rw [hpq]; rfl) ?_
    refine W.loadx (b := x7) (i := 1) (v := sp) ?_
    refine W.pure (hK _ ?_)
    rw [hpl]; rfl
  refine W.pure ?_
  show At _ (Q (.bool r.1))
  rw [hr2]
  exact hq.sub
end Go.Proofs.YtidlldnlphdhcaaGreatDoor
namespace Go.Proofs.YtidlldnlphdhcaaGreatDoor
open Go.H Go.Proofs
set_option linter.unusedSimpArgs false
set_option linter.unusedVariables false
abbrev tR1 : ByteArray := ByteArray.mk #[112]
abbrev tR2 : ByteArray := ByteArray.mk #[115]
theorem gdw_p : goodName tR1 := good_asc (by decide) (by decide) (by decide)
theorem gdw_s : goodName tR2 := good_asc (by decide) (by decide) (by decide)
def twoC : List ConnS := [⟨1, 1, false, w0⟩, ⟨2, 2, false, w0⟩]
def CK (K : List MsgT) : BrkS := ⟨2, [freshS 1 tR1, freshS 2 tR2], [], K, [⟨1, 1, false, w0⟩, ⟨2, 2, false, w0⟩]⟩
def C1 : BrkS := joined 1 tR1 ⟨0, [], [], [], []⟩
theorem r1 : packetB false 1 (joinP tR1) ⟨0, [], [], [], []⟩ = ⟨C1, [⟨1, ackSe false, false⟩], []⟩ := join_eq BrkOK.new rfl rfl (by decide) gdw_p (by decide)
theorem ok_C1 : BrkOK C1 1 := by
  have := (packetB_ok (full := false) (c := 1) (p := joinP tR1) BrkOK.new (by simp) (by simp) (by decide) (by decide) (by decide)).1
  rw [r1] at this; exact this
theorem r2 : packetB false 2 (joinP tR2) C1 = ⟨CK [], [⟨2, ackSe false, false⟩], []⟩ := join_eq ok_C1 rfl (by decide) (by decide) gdw_s (by decide)
theorem ok_C2 : BrkOK (CK []) 2 := by
  have := (packetB_ok (full := false) (c := 2) (p := joinP tR2) ok_C1 (by decide) (by decide) (by decide) (by decide) (by decide)).1
  rw [r2] at this; exact this
theorem ok_CK (K : List MsgT) : BrkOK (CK K) 2 := { ok_C2 with subs := ok_C2.subs }
theorem pub_eq {K : List MsgT} {t y : ByteArray} {q : Int} (hn : nameOK t = true) (hq : q = 0 ∨ q = 1) : ∃ os, packetB false 1 (pubP (t, y, q, true, e0S) 5) (CK K) = ⟨CK (setR 64 K (t, y, q, ())).2, os, [(t, y, q, true, e0S)]⟩ := by
  unfold packetB
  have hg : getC 1 (CK K).conns = some ⟨1, 1, false, w0⟩ := rfl
  rw [hg]
  simp only
  unfold oneB
  rw [if_pos (.inl rfl)]
  unfold takeB
  rw [if_neg (by simp [hn])]
  have hg2 : getS 1 (CK K).ses = some (freshS 1 tR1) := rfl
  rw [hg2]
  have hss : setS 1 (setInn ⟨(freshS 1 tR1).inn.most, (freshS 1 tR1).inn.taken, []⟩) (CK K).ses = (CK K).ses := rfl
  have hsb : (CK K).subs = [] := rfl
  have hkp : (CK K).kept = K := rfl
  rcases hq with rfl | rfl
  · have ht : takeR (freshS 1 tR1).inn 3 0 5 0 = (true, none, 0, []) := by decide
    simp only [ht, hss, if_neg (show ¬ (false = true) by decide)]
    rw [if_neg (by simp), if_pos (by simp)]
    unfold publishB handB keepB
    rw [if_pos rfl]
    simp only [hsb, hkp, List.filter_nil, idsL, List.foldl_nil]
    exact ⟨_, rfl⟩
  · have ht : takeR (freshS 1 tR1).inn 3 1 5 0 = (true, some (4, 0), 0, []) := by decide
    simp only [ht, hss, if_neg (show ¬ (false = true) by decide)]
    rw [if_neg (by simp), if_pos (by simp)]
    unfold publishB handB keepB
    rw [if_pos rfl]
    simp only [hsb, hkp, List.filter_nil, idsL, List.foldl_nil]
    exact ⟨_, rfl⟩
abbrev LM := ByteArray × Tup [Tag.str, .str, .int .i64, .bool, .str]
abbrev lmM (e : LM) : MsgT := (e.2.1, e.2.2.1, e.2.2.2.1, ())
structure Last (K : List MsgT) (M : List LM) (n : Nat) : Prop where
  perm : (M.map lmM).Perm K
  key : ∀ e ∈ M, e.1 = e.2.1
  nd : (M.map (·.1)).Nodup
  q : ∀ m ∈ K, 0 ≤ m.2.2.1 ∧ m.2.2.1 ≤ 1
  sz : ∀ m ∈ K, m.1.size ≤ 9223372036854775807
  len : K.length ≤ n
theorem Last.nil : Last [] [] 0 := ⟨List.Perm.refl _, by simp, by simp, by simp, by simp, Nat.le_refl _⟩
theorem Last.del {K : List MsgT} {M : List LM} {n : Nat} (h : Last K M n) (t : ByteArray) : Last (restR K t) (mdel M t) n := by
  rw [mdel_filter h.nd]
  refine ⟨?_, fun e he => h.key e (List.mem_filter.1 he).1, h.nd.sublist (List.filter_sublist.map _), fun m hm => h.q m (List.mem_filter.1 hm).1, fun m hm => h.sz m (List.mem_filter.1 hm).1, Nat.le_trans (List.length_filter_le _ _) h.len⟩
  unfold restR
  have h1 := h.perm.filter fun m => decide (m.1 ≠ t)
  rw [List.filter_map] at h1
  have e : M.filter ((fun m : MsgT => decide (m.1 ≠ t)) ∘ lmM) = M.filter fun e => decide (e.1 ≠ t) := List.filter_congr fun e he => by
    simp only [Function.comp]
    rw [h.key e he]
  rw [e] at h1
  exact h1
theorem Last.step {K : List MsgT} {M : List LM} {n : Nat} {t y g : ByteArray} {q : Int} {r : Bool} (h : Last K M n) (hn : nameOK t = true) (hq : q = 0 ∨ q = 1) (h64 : n < 64) (hs : t.size ≤ 9223372036854775807) :
    Last (setR 64 K (t, y, q, ())).2 (if y = e0S then mdel M t else mset (mdel M t) t (t, y, q, r, g, ())) (n + 1) := by
  have hd := h.del t
  have hl := h.len
  unfold setR
  rw [if_neg (by simp [hn]), if_neg (by show ¬ (q < 0 ∨ 2 < q); omega)]
  by_cases hy : y = e0S
  · subst hy
    have e1 : ((t, e0S, q, ()) : MsgT).2.1.size = 0 := rfl
    rw [if_pos e1]
    simp only [if_true]
    exact { hd with len := Nat.le_succ_of_le hd.len }
  · have hys : ¬ y.size = 0 := fun e => hy (ByteArray.ext (Array.eq_empty_of_size_eq_zero e))
    rw [if_neg (show ¬ ((t, y, q, ()) : MsgT).2.1.size = 0 from hys), if_neg hy, if_neg (by have := hd.len; omega)]
    have hmn : mget (mdel M t) t = none := by
      rw [mdel_filter h.nd]
      refine (mget_none_iff _ _).2 fun hm => ?_
      obtain ⟨e, he, h2⟩ := List.mem_map.1 hm
      have := (List.mem_filter.1 he).2
      simp only [decide_eq_true_eq] at this
      exact this h2
    rw [mset_none _ _ _ hmn]
    have hp := insS_perm ltS (·.1) ((t, y, q, ()) : MsgT) (restR K t)
    have hnt : t ∉ (mdel M t).map (·.1) := (mget_none_iff _ _).1 hmn
    refine ⟨?_, fun e he => ?_, ?_, fun m hm => ?_, fun m hm => ?_, ?_⟩
    · rw [List.map_append]
      exact (List.perm_append_comm.trans (List.Perm.cons _ hd.perm)).trans hp.symm
    · rcases List.mem_append.1 he with he | he
      · exact hd.key e he
      · rw [List.mem_singleton.1 he]
    · rw [List.map_append, List.nodup_append]
      exact ⟨hd.nd, by simp, fun a ha b hb => by rw [List.map_cons, List.map_nil, List.mem_singleton] at hb; rw [hb]; intro e; have e' : a = t := e; rw [e'] at ha; exact hnt ha⟩
    · rcases List.mem_cons.1 (hp.mem_iff.1 hm) with rfl | hm
      · show 0 ≤ q ∧ q ≤ 1; omega
      · exact hd.q m hm
    · rcases List.mem_cons.1 (hp.mem_iff.1 hm) with rfl | hm
      · exact hs
      · exact hd.sz m hm
    · rw [hp.length_eq, List.length_cons]; exact Nat.succ_le_succ hd.len
theorem goF_one {o : OutS} {m : MsT} (hl : (o.flights.length : Int) < o.most) : ∃ o' i, goF o [m] = (o', [pubO m i false]) ∧ o'.on = o.on ∧ o'.most = o.most ∧ o'.waiting = [] ∧ o'.flights.length ≤ o.flights.length + 1 := by
  unfold goF
  rw [if_neg (by omega)]
  by_cases hq : 0 < m.2.2.1
  · rw [if_pos hq]
    simp only [goF]
    exact ⟨_, _, rfl, rfl, rfl, rfl, by simp⟩
  · rw [if_neg hq]
    simp only [goF]
    exact ⟨_, _, rfl, rfl, rfl, rfl, by simp⟩
structure Idle (o : OutS) (k : Nat) : Prop where
  ok : FlowOK o
  on : o.on = true
  most : o.most = 64
  wait : o.waiting = []
  len : o.flights.length ≤ k
theorem send_one {o : OutS} {k : Nat} {m : MsT} (h : Idle o k) (hk : k < 64) (hm : 0 ≤ m.2.2.1 ∧ m.2.2.1 ≤ 2) : ∃ o' i, (sendF o m).1 = (o', [pubO m i false]) ∧ Idle o' (k + 1) := by
  have hok := (sendF_ok h.ok m).1
  have h1 := h.on
  have h2 := h.most
  have h3 := h.wait
  have h4 := h.len
  have key : sendF o m = (goF { o with waiting := [m] } [m], 0) := by
    unfold sendF
    rw [if_neg (by omega), if_neg (by rw [h1]; simp), if_neg (by rw [h3]; simp), h3]
    unfold goOnF
    rw [if_pos h1]
    rfl
  obtain ⟨o', i, e, g1, g2, g3, g4⟩ := goF_one (o := { o with waiting := [m] }) (m := m) (by simp only; rw [h2]; omega)
  rw [key] at hok ⊢
  simp only at hok ⊢
  rw [e] at hok ⊢
  exact ⟨o', i, rfl, ⟨hok, g1.trans h1, g2.trans h2, g3, by simp only at g4; omega⟩⟩
abbrev outF (o : OutO) : Int × ByteArray × ByteArray × Bool × Int := (o.conn, o.pk.topic, o.pk.payload, o.pk.retain, o.pk.qos)
abbrev hitF (qos : Int) (m : MsgT) : Int × ByteArray × ByteArray × Bool × Int := (2, m.1, m.2.1, true, min m.2.2.1 qos)
def freshO (o : OutS) : SesS := ⟨2, tR2, true, true, o, ⟨64, 0, []⟩⟩
theorem fold_kept {s : SubT} : ∀ (M : List MsgT) {T : TurnS} {o : OutS} {k : Nat}, T.b.conns = twoC → T.b.ses = [freshS 1 tR1, freshO o] → Idle o k → k + M.length ≤ 64 → (∀ m ∈ M, 0 ≤ m.2.2.1 ∧ m.2.2.1 ≤ 1) → 0 ≤ s.2.1 →
    ∃ O : List OutO, (M.foldl (keptOne 2 s) T).outs = T.outs ++ O ∧ O.map outF = M.map (hitF s.2.1)
  | [], T, _, _, _, _, _, _, _, _ => ⟨[], (List.append_nil _).symm, rfl⟩
  | m :: M, T, o, k, hc, hs, hi, hk, hq, hs0 => by
    rw [List.length_cons] at hk
    have hm := hq m (List.mem_cons_self ..)
    obtain ⟨o', i, e, hi'⟩ := send_one (m := (m.1, m.2.1, min m.2.2.1 s.2.1, true, e0S)) hi (by omega) (by simp only; omega)
    have e1 : keptOne 2 s T m = ⟨⟨T.b.last, [freshS 1 tR1, freshO o'], T.b.subs, T.b.kept, T.b.conns⟩, T.outs ++ [⟨2, pubO (m.1, m.2.1, min m.2.2.1 s.2.1, true, e0S) i false, false⟩], T.pubs⟩ := by
      unfold keptOne outOp
      have hg : getS 2 T.b.ses = some (freshO o) := by rw [hs]; rfl
      have e0 : (freshO o).out = o := rfl
      simp only [hg, e0, e, hc]
      have hss : setS 2 (setOut o') T.b.ses = [freshS 1 tR1, freshO o'] := by rw [hs]; rfl
      rw [hss]
      have hts : ∀ p, toSes T.b.conns 2 [p] = [⟨2, p, false⟩] := fun p => by rw [hc]; rfl
      show TurnS.mk ⟨T.b.last, [freshS 1 tR1, freshO o'], T.b.subs, T.b.kept, T.b.conns⟩ (T.outs ++ toSes T.b.conns 2 [_]) T.pubs = _
      rw [hts, hc]
    rw [List.foldl_cons, e1]
    obtain ⟨O, h1, h2⟩ := fold_kept M (T := ⟨⟨T.b.last, [freshS 1 tR1, freshO o'], T.b.subs, T.b.kept, T.b.conns⟩, T.outs ++ [⟨2, pubO (m.1, m.2.1, min m.2.2.1 s.2.1, true, e0S) i false, false⟩], T.pubs⟩) (s := s) hc rfl hi' (by omega) (fun x hx => hq x (List.mem_cons_of_mem _ hx)) hs0
    refine ⟨⟨2, pubO (m.1, m.2.1, min m.2.2.1 s.2.1, true, e0S) i false, false⟩ :: O, ?_, ?_⟩
    · rw [h1]; simp
    · rw [List.map_cons, List.map_cons, h2]; rfl
theorem idle_new : Idle (freshS 2 tR2).out 0 := ⟨FlowOK.new.off true, rfl, rfl, rfl, Nat.le_refl _⟩
theorem hit_bad {K : List MsgT} {f : ByteArray} (h : filterOK f = false) : hitR K f = [] := List.filter_eq_nil_iff.2 fun m _ => by
  unfold matchB; rw [h]; simp
theorem sub_eq {K : List MsgT} {f : ByteArray} {qos : Int} (hq : 0 ≤ qos ∧ qos ≤ 2) (hK : ∀ m ∈ K, 0 ≤ m.2.2.1 ∧ m.2.2.1 ≤ 1) (hl : K.length ≤ 64) :
    ∃ a O, (packetB false 2 (subP 7 [(f, qos, false, false, 0)]) (CK K)).outs = a :: O ∧ a.pk.kind = 9 ∧ O.map outF = (hitR K f).map (hitF qos) := by
  unfold packetB
  have hg : getC 2 (CK K).conns = some ⟨2, 2, false, w0⟩ := rfl
  rw [hg]
  simp only
  unfold oneB
  rw [if_neg (by simp), if_neg (by simp), if_pos (by simp)]
  unfold subscribeB
  have hsb : (CK K).subs = [] := rfl
  simp only [hsb]
  cases hf : filterOK f with
  | false =>
    have ha : addE [] 2 f qos = (143, []) := by unfold addE; rw [if_pos hf]
    unfold added
    simp only [ha, if_neg (show ¬ ((143 : Int) = 0) by decide), List.nil_append]
    unfold added
    simp only [List.foldl_nil]
    rw [hit_bad hf]
    exact ⟨_, [], rfl, rfl, rfl⟩
  | true =>
    have ha : addE [] 2 f qos = (0, [(2, f, qos)]) := by
      unfold addE
      rw [if_neg (by simp [hf]), if_neg (by omega)]
      rfl
    unfold added
    simp only [ha, if_true]
    unfold added
    simp only [List.append_nil, List.foldl_cons, List.foldl_nil]
    unfold keptSub
    rw [if_neg (by simp)]
    obtain ⟨O, h1, h2⟩ := fold_kept (s := (f, qos, false, false, 0)) (hitR K f) (T := sendB ⟨2, ackCs 9 7 (addAll 2 [(f, qos, false, false, 0)] []).2, false⟩ (tSubs (addAll 2 [(f, qos, false, false, 0)] []).1 ⟨CK K, [], []⟩)) (o := (freshS 2 tR2).out) (k := 0) rfl rfl idle_new (by have := List.length_filter_le (fun m => matchB f m.1) K; unfold hitR; omega) (fun m hm => hK m (List.mem_filter.1 hm).1) hq.1
    refine ⟨⟨2, ackCs 9 7 (addAll 2 [(f, qos, false, false, 0)] []).2, false⟩, O, ?_, rfl, h2⟩
    exact h1
end Go.Proofs.YtidlldnlphdhcaaGreatDoor
namespace Go.Proofs.YtidlldnlphdhcaaGreatDoor
open Go.H Go.Proofs
set_option linter.unusedSimpArgs false
set_option linter.unusedVariables false
set_option maxRecDepth 100000
variable {h h0 : Heap} {L L' L1 L2 R : List Asn} {Q : Value → Heap → Prop}
theorem match_w {f n : ByteArray} (ht : TP h0) (hf : f.size ≤ 9223372036854775807) (hn : n.size ≤ 9223372036854775807) (hq : At (old h0 :: L1) (Q (.bool (matchB f n)))) (hx : Has L (old h0) L1 := by repeat (first | with_reducible exact Go.H.has0 | apply Go.H.hasS)) : FW Tryz.prog 14 #[.string f, .string n] L Q := fun h hs =>
  Match_spec (hx.s hs) ht hf hn fun h' hs' => hq h' hs'
theorem W.slom {γ β : Type} {enc : γ → List Value} {size n : Nat} {N : Int} {s s2 : Slc} {xs : List γ} {f : Slc → HM β} {Q' : β → Heap → Prop} (hr : RowAt enc size h0 s xs) (hN : N = (n : Int)) (hw : ∀ s', RowAt enc size h0 s' (xs.take n) → W L (f s') Q') (hs : s2 = s := by rfl) :
    W L (HM.bind (HM.slice s none (some (if N < (((s2.len : Nat) : Int) : Int) then N else ((s2.len : Nat) : Int))) none size) f) Q' := by
  subst hs hN
  have hl := hr.1
  by_cases h80 : n < xs.length
  · rw [if_pos (by omega)]
    exact W.slo (n := n) hr (by omega) hw
  · rw [if_neg (by omega)]
    have e : xs.take n = xs.take xs.length := by rw [List.take_of_length_le (by omega), List.take_length]
    refine W.slo (n := xs.length) hr (Nat.le_refl _) (fun s' hr' => hw s' (by rw [e]; exact hr')) (by rw [hl])
theorem Last.mono {K : List MsgT} {M : List LM} {n m : Nat} (h : Last K M n) (hm : n ≤ m) : Last K M m := { h with len := Nat.le_trans h.len hm }
abbrev kLM : Kind := .agg [.str, .str, .int .i64, .bool, .str]
theorem tm2 (q : Int) : Int.tmod (if 0 < q then q else 0) 2 = 0 ∨ Int.tmod (if 0 < q then q else 0) 2 = 1 := by
  have h0 : 0 ≤ (if 0 < q then q else 0) := by split <;> omega
  rw [Int.tmod_eq_emod_of_nonneg h0]
  omega
theorem tm3 (q : Int) : 0 ≤ Int.tmod (if 0 < q then q else 0) 3 ∧ Int.tmod (if 0 < q then q else 0) 3 ≤ 2 := by
  have h0 : 0 ≤ (if 0 < q then q else 0) := by split <;> omega
  rw [Int.tmod_eq_emod_of_nonneg h0]
  omega
theorem szp : tR1.size ≤ 9223372036854775807 := by decide
theorem szs : tR2.size ≤ 9223372036854775807 := by decide
theorem ndC1 : (C1.conns.map (·.c)).Nodup := by decide
theorem klC1 : C1.kept.length ≤ 64 := by decide
theorem z1 : 1 ≤ 999999 := by decide
set_option maxHeartbeats 4000000 in
theorem BrokerRetains_w (ht : TP h0) {s1 : Slc} {ms : List MsT} {flt : ByteArray} {qos : Int} (hr : RowAt encM 5 h0 s1 ms) (hms : ∀ m ∈ ms, m.1.size ≤ 9223372036854775807) (hf : flt.size ≤ 9223372036854775807)
    (hq : ∀ h' R, sat h' (old h0 :: R) → Q (.bool true) h') : FW Tryz.prog 3 #[.slice s1.a s1.len s1.cap, .string flt, .int .i64 qos] [old h0] Q := by
  have fin : ∀ {L L'}, Has L (old h0) L' → At L (Q (.bool true)) := fun hx h hs => hq h _ (hx.s hs)
  refine fun h hs => law19_BrokerRetains_calls s1 flt qos h Q ((?_ : W [old h0] _ _) h hs)
  clear hs h
  unfold law19_BrokerRetains
  refine W.call1 (bNew_w (fun b => At.un (x := some ⟨b, 0, none⟩) ?_))
  refine W.cutp (fun r => r.1 = false) (fun _ => brkA b (CK []) :: [old h0]) (fun K hK => ?_) (fun r hr0 => ?_)
  · refine W.call1 (wakes_w ht (At.un (x := true) ?_))
    refine W.ff rfl ?_
    refine W.nils encSb 5 ?_
    refine W.call1 (join_w (b := b) (n := 0) (B := ⟨0, [], [], [], []⟩) (B1 := C1) (B2 := C1) (c := 1) (client := tR1) (sl := []) (S := nilS) (o1 := ⟨1, ackSe false, false⟩) (r1 := []) (o2 := ⟨1, ackSe false, false⟩) (r2 := []) (ps := []) ht ok_new z0 nd0 kl0 ci1 szp sl0 ss0 r1 rfl rfl (.inl ⟨rfl, rfl⟩) (At.un (x := true) ?_))
    refine W.ff rfl ?_
    refine W.nils encSb 5 ?_
    refine W.call1 (join_w (b := b) (n := 1) (B := C1) (B1 := CK []) (B2 := CK []) (c := 2) (client := tR2) (sl := []) (S := nilS) (o1 := ⟨2, ackSe false, false⟩) (r1 := []) (o2 := ⟨2, ackSe false, false⟩) (r2 := []) (ps := []) ht ok_C1 z1 ndC1 klC1 ci2 szs sl0 ss0 r2 rfl rfl (.inl ⟨rfl, rfl⟩) (At.un (x := true) ?_))
    exact W.pure (hK (false, ()) rfl).sub
  refine W.ff hr0 ?_
  clear hr0
  refine W.newm (ek := eKS9) (ev := kLM.val) fun x6 => ?_
  refine W.slom (n := 30) hr rfl (fun s' hr' => ?_)
  have h30 : (ms.take 30).length ≤ 30 := List.length_take_le _ _
  have hms' : ∀ m ∈ ms.take 30, m.1.size ≤ 9223372036854775807 := fun m hm => hms m (List.mem_of_mem_take hm)
  clear hms hr
  generalize ms.take 30 = xs at hr' h30 hms'
  refine W.loop (γ := Nat × List MsgT × List LM) (fun g s => s.1 = (g.1 : Int) ∧ g.1 ≤ xs.length ∧ Last g.2.1 g.2.2 g.1) (fun g s => brkA b (CK g.2.1) :: mapA eKS9 kLM.val x6 g.2.2 :: [old h0]) (fun g => xs.length - g.1) (0, [], []) ⟨rfl, Nat.zero_le _, Last.nil⟩ ?_ ?_
  · show Sub _ (brkA b (CK []) :: mapA eKS9 kLM.val x6 ([] : List LM) :: [old h0])
    repeat (first | with_reducible exact Go.H.Sub.rfl | with_reducible exact Go.H.Sub.nil | refine Go.H.Sub.cons (by repeat (first | with_reducible exact Go.H.has0 | apply Go.H.hasS)) ?_ | refine Go.H.Sub.drop ?_)
  rintro ⟨i, K0, M0⟩ s ⟨hi, hil, hlast⟩ KK k1 k2
  simp only at hi hil hlast
  by_cases hlt : i < xs.length
  · refine W.tt (by rw [hi, hr'.1]; exact decide_eq_true (by omega)) ?_
    have hgi : xs[i]? = some xs[i] := List.getElem?_eq_getElem hlt
    have hsz := hms' xs[i] (List.getElem_mem hlt)
    generalize xs[i] = u at hgi hsz
    obtain ⟨ut, uy, uq, ur, ug⟩ := u
    simp only at hsz
    refine W.cutx (X := List MsgT × List LM) (fun g _ => Last g.1 g.2 (i + 1)) (fun g _ => brkA b (CK g.1) :: mapA eKS9 kLM.val x6 g.2 :: [old h0]) (fun K hK => ?_) (fun g _ hg => ?_)
    · clear k1 k2
      refine W.idxo hr' hlt (fun a ha => ?_) (he := hi)
      refine W.loadoN (v := (ut, uy, uq, ur, ug, ())) hr' ha hgi ?_
      refine W.newc fun x13 => ?_
      refine W.storeN ?_
      refine W.load (b := x13) (v := uq) ?_
      refine W.req ?_ (by decide)
      obtain ⟨qq, hqq⟩ : ∃ qq, qq = Int.tmod (if 0 < uq then uq else 0) 2 := ⟨_, rfl⟩
      rw [← hqq]
      have hq2 := tm2 uq
      rw [← hqq] at hq2
      clear hqq
      refine W.store (b := x13) (cs' := #[.string ut, .string uy, .int .i64 qq, .bool ur, .string ug]) ?_
      refine W.load (b := x13) (v := ut) ?_
      refine W.call1 (checkName_w ht hsz (At.un ?_))
      unfold nameC
      cases hn : nameOK ut with
      | false =>
        refine W.tt rfl ?_
        exact W.pure (hK (K0, M0) _ (hlast.mono (Nat.le_succ i))).sub
      | true =>
        refine W.ff rfl ?_
        have hst := hlast.step (r := ur) (g := ug) (y := uy) hn hq2 (by omega) hsz
        obtain ⟨os, hpe⟩ := pub_eq (K := K0) (y := uy) hn hq2
        refine W.load (b := x13) (v := ut) ?_
        refine W.load (b := x13) (v := uy) ?_
        refine W.load (b := x13) (v := qq) ?_
        refine W.nils encSb 5 ?_
        refine W.nils encS1 1 ?_
        refine W.nils encPr 4 ?_
        refine W.call1 (bPacket_w (b := b) (n := 2) (B := CK K0) (c := 1) (p := pubK (ut, uy, qq, true, e0S) 5) (pl := []) (sl := []) (fl := []) (full := false) ht (ok_CK K0) (by decide) (pubK_ok hsz) ci1 (fun so sp => At.un (x := (so, sp, ())) ?_))
        rw [show packetB false 1 (pkI (pubK (ut, uy, qq, true, e0S) 5) [] [] []) (CK K0) = _ from hpe]
        dsimp only
        refine W.load (b := x13) (v := ut) ?_
        refine W.mdel key_str ut ?_
        refine W.load (b := x13) (v := uy) ?_
        refine W.cut (fun _ => brkA b (CK (setR 64 K0 (ut, uy, qq, ())).2) :: mapA eKS9 kLM.val x6 (if uy = e0S then mdel M0 ut else mset (mdel M0 ut) ut (ut, uy, qq, ur, ug, ())) :: [old h0]) (fun K2 hK2 => ?_) (fun _ => ?_)
        · by_cases hy : uy = e0S
          · rw [if_pos hy] at hK2
            refine W.ff (by subst hy; rfl) ?_
            exact W.pure (hK2 ()).sub
          · rw [if_neg hy] at hK2
            refine W.tt (by simp only [decide_eq_false hy, Bool.not_false]) ?_
            refine W.load (b := x13) (v := ut) ?_
            refine W.loadN (b := x13) (v := (ut, uy, qq, ur, ug, ())) ?_
            refine W.mset (ek := eKS9) (ev := kLM.val) key_str inj_eKS ut (ut, uy, qq, ur, ug, ()) ?_
            exact W.pure (hK2 ()).sub
        · generalize (if uy = e0S then mdel M0 ut else mset (mdel M0 ut) ut (ut, uy, qq, ur, ug, ())) = M2 at hst ⊢
          generalize (setR 64 K0 (ut, uy, qq, ())).2 = K2 at hst ⊢
          exact W.pure (hK (K2, M2) _ hst).sub
    · have hn := k1 (i + 1, g.1, g.2) (IntKind.wrap .i64 (s.1 + 1), ()) (by simp only; omega) ⟨by simp only [hi]; rw [wrap_id (by omega) (by omega)]; rfl, hlt, hg⟩
      exact W.pure hn.sub
  refine W.ff (by rw [hi, hr'.1]; exact decide_eq_false (by omega)) (W.pure (k2 _ _ ?_))
  clear k1 k2 hr' hms'
  have hK30 : K0.length ≤ 30 := by have := hlast.len; omega
  refine W.req ?_ (by decide)
  have hq3 := tm3 qos
  generalize Int.tmod (if 0 < qos then qos else 0) 3 = qq at hq3 ⊢
  refine W.newc fun x26 => ?_
  refine W.row1 (enc := encSb) ((flt, qq, false, false, 0) : SubT) ?_
  refine W.nils encS1 1 ?_
  refine W.nils encPr 4 ?_
  obtain ⟨a0, O, hO, hak, hOm⟩ := sub_eq (f := flt) hq3 hlast.q (by omega)
  refine W.call1 (bPacket_w (b := b) (n := 2) (B := CK K0) (c := 2) (p := subK ⟨some ⟨x26, 0, none⟩, 1, 1⟩ 7) (pl := []) (sl := [(flt, qq, false, false, 0)]) (fl := []) (full := false) ht (ok_CK K0) (by decide) (subK_ok (by simp) (by simpa using hf)) ci2 (fun so sp => At.un (x := (so, sp, ())) ?_))
  rw [show packetB false 2 (pkI (subK ⟨some ⟨x26, 0, none⟩, 1, 1⟩ 7) [] [(flt, qq, false, false, 0)] []) (CK K0) = packetB false 2 (subP 7 [(flt, qq, false, false, 0)]) (CK K0) from rfl, hO]
  refine W.newc fun x28 => ?_
  refine W.storeN ?_
  refine W.opnp (fun h R hs => (outs_iff (k := .u8) (s := so) (os := a0 :: O)).1 hs) fun T hT => ?_
  obtain ⟨z0, T, rfl⟩ : ∃ a T', T = a :: T' := by cases T with | nil => cases hT | cons a T => exact ⟨a, T, rfl⟩
  obtain ⟨hz0, hTO⟩ := List.cons.inj hT
  have hTh : T.map (fun z => outF z.2.2) = (hitR K0 flt).map (hitF qq) := by rw [← hOm, ← hTO, List.map_map]; rfl
  clear hT hO hOm
  refine W.sub (L' := ownS (encOu .u8) 28 so ((z0 :: T).map ouF) :: cells x28 #[.slice so.a so.len so.cap, .slice sp.a sp.len sp.cap] :: mapA eKS9 kLM.val x6 M0 :: [old h0]) ?_
  refine W.fact (own_len' (enc := encOu .u8) (size := 28) (s := so) (xs := (z0 :: T).map ouF)) fun hol => ?_
  have hTl : T.length = (hitR K0 flt).length := by have := congrArg List.length hTh; simpa using this
  have hkM : ∀ e ∈ M0, lmM e ∈ K0 := fun e he => hlast.perm.subset (List.mem_map_of_mem he)
  have hkey : ∀ e ∈ M0, e.1.size ≤ 9223372036854775807 := fun e he => by rw [hlast.key e he]; exact hlast.sz _ (hkM e he)
  have hcount : (M0.filter fun e => matchB flt e.1).length = (hitR K0 flt).length := by
    have h1 := hlast.perm.filter fun m => matchB flt m.1
    rw [List.filter_map] at h1
    have h2 := h1.length_eq
    rw [List.length_map] at h2
    have e : M0.filter ((fun m : MsgT => matchB flt m.1) ∘ lmM) = M0.filter fun e => matchB flt e.1 := List.filter_congr fun e he => by
      simp only [Function.comp]
      rw [hlast.key e he]
    rw [e] at h2
    exact h2
  refine W.range fun it => ?_
  have hMl : M0.length ≤ 30 := by have := hlast.perm.length_eq; rw [List.length_map] at this; omega
  refine W.mapwp (ek := eKS9) (ev := kLM.val) (r := x6) (l := M0) (fun done s => s.1 = ((done.filter fun e => matchB flt e.1).length : Int)) (fun _ _ => ownS (encOu .u8) 28 so ((z0 :: T).map ouF) :: cells x28 #[.slice so.a so.len so.cap, .slice sp.a sp.len sp.cap] :: [old h0]) rfl ?_ (fun done s hd hp K' hk => ?_) (fun done q rest s hd hp K' hnx hk => ?_)
  · show Sub _ (itA eKS9 kLM.val x6 M0 it [] M0 :: ownS (encOu .u8) 28 so ((z0 :: T).map ouF) :: cells x28 #[.slice so.a so.len so.cap, .slice sp.a sp.len sp.cap] :: [old h0])
    repeat (first | with_reducible exact Go.H.Sub.rfl | with_reducible exact Go.H.Sub.nil | refine Go.H.Sub.cons (by repeat (first | with_reducible exact Go.H.has0 | apply Go.H.hasS)) ?_ | refine Go.H.Sub.drop ?_)
  · refine W.ff rfl (W.pure (hk _ _ ?_))
    clear hk
    have hn : s.1 = ((hitR K0 flt).length : Int) := by rw [hp, ← hcount]; exact congrArg _ (hd.filter _).length_eq
    have hz0' : z0.2.2 = a0 := hz0
    refine W.cutk (fun r => r.1 = false) (fun K hK => ?_) (fun r hr1 => ?_)
    · refine W.load (b := x28) (v := so) ?_
      have hlen : ((so.len : Nat) : Int) = IntKind.wrap .i64 (1 + s.1) := by
        have hhl : (hitR K0 flt).length ≤ K0.length := List.length_filter_le _ _
        rw [hn, wrap_id (by omega) (by omega), hol]
        simp only [List.map_cons, List.length_cons, List.length_map]
        omega
      refine W.ff (by rw [hlen]; simp) ?_
      refine W.load (b := x28) (v := so) ?_
      refine W.idx (enc := encOu .u8) (xs := (z0 :: T).map ouF) (i := 0) (by simp) (fun a ha => ?_)
      refine W.loadee (x := ouF z0) (v := z0.2.2.pk.kind) ha rfl ?_
      refine W.pure (hK _ ?_)
      rw [hz0', hak]; rfl
    refine W.ff hr1 ?_
    refine W.load (b := x28) (v := so) ?_
    refine W.sls (enc := encOu .u8) (xs := (z0 :: T).map ouF) (lo := 1) (hi := ((z0 :: T).map ouF).length) (by simp) (Nat.le_refl _) (fun s2 => ?_) ⟨rfl, by simp⟩ (fun c _ e => e.symm)
    rw [List.take_length, List.map_cons, List.drop_one, List.tail_cons]
    refine W.fact (own_len' (enc := encOu .u8) (size := 28) (s := s2) (xs := T.map ouF)) fun h2l => ?_
    rw [List.length_map] at h2l
    refine W.loop (γ := Nat) (fun g s => s.1 = (g : Int) ∧ g ≤ T.length) (fun g s => ownS (encOu .u8) 28 s2 (T.map ouF) :: mapA eKS9 kLM.val x6 M0 :: [old h0]) (fun g => T.length - g) 0 ⟨rfl, Nat.zero_le _⟩ ?_ ?_
    · repeat (first | with_reducible exact Go.H.Sub.rfl | with_reducible exact Go.H.Sub.nil | refine Go.H.Sub.cons (by repeat (first | with_reducible exact Go.H.has0 | apply Go.H.hasS)) ?_ | refine Go.H.Sub.drop ?_)
    rintro j s3 ⟨hj, hjl⟩ KK n1 n2
    have hTb : T.length ≤ 30 := by have : (hitR K0 flt).length ≤ K0.length := List.length_filter_le _ _; omega
    by_cases hlt2 : j < T.length
    · refine W.tt (by rw [hj, h2l]; exact decide_eq_true (by omega)) ?_
      have hgj : (T.map ouF)[j]? = some (ouF T[j]) := by rw [List.getElem?_map, List.getElem?_eq_getElem hlt2]; rfl
      have hm : ∃ m ∈ hitR K0 flt, outF T[j].2.2 = hitF qq m := by
        have h1 := congrArg (fun l => l[j]?) hTh
        simp only [List.getElem?_map, List.getElem?_eq_getElem hlt2, Option.map_some] at h1
        cases hg : (hitR K0 flt)[j]? with
        | none => rw [hg] at h1; cases h1
        | some m => rw [hg] at h1; exact ⟨m, List.mem_of_getElem? hg, Option.some.inj h1⟩
      generalize T[j] = z at hgj hm
      obtain ⟨m, hmm, hzm⟩ := hm
      obtain ⟨e, he, hem⟩ := List.mem_map.1 (hlast.perm.mem_iff.2 (List.mem_filter.1 hmm).1)
      have hek : e.1 = m.1 := (hlast.key e he).trans (congrArg (·.1) hem)
      have hget : mget M0 m.1 = some e.2 := by rw [← hek]; exact (mget_mem_iff hlast.nd).2 he
      obtain ⟨e0, e1, e2, e3, e4, e5, ⟨⟩⟩ := e
      subst hem
      simp only at hget hzm
      clear hek he hmm
      obtain ⟨X, hX⟩ : ∃ X, X = ouF z := ⟨_, rfl⟩
      rw [← hX] at hgj
      have f1 : 2 = X.1 := by rw [hX]; exact (congrArg (·.1) hzm).symm
      have f2 : e1 = X.2.1.2.2.2.2.2.1 := by rw [hX]; exact (congrArg (·.2.1) hzm).symm
      have f3 : e2 = X.2.1.2.2.2.2.2.2.1 := by rw [hX]; exact (congrArg (·.2.2.1) hzm).symm
      have f4 : true = X.2.1.2.2.1 := by rw [hX]; exact (congrArg (·.2.2.2.1) hzm).symm
      have f5 : min e3 qq = X.2.1.2.2.2.1 := by rw [hX]; exact (congrArg (·.2.2.2.2) hzm).symm
      clear hX hzm
      obtain ⟨xc, ⟨k0, k1, k2, k3, k4, k5, k6, k7, k8, k9, k10, k11, k12, k13, k14, k15, k16, k17, k18, k19, k20, k21, k22, k23, k24, k25, ⟨⟩⟩, xcl⟩ := X
      simp only at f1 f2 f3 f4 f5
      subst f1 f2 f3 f4 f5
      refine W.idx (enc := encOu .u8) (xs := T.map ouF) (i := j) (by simpa using hlt2) (fun a ha => ?_) (he := hj)
      refine W.loadeN (x := ((2, (k0, k1, true, (min e3 qq), k4, e1, e2, k7, k8, k9, k10, k11, k12, k13, k14, k15, k16, k17, k18, k19, k20, k21, k22, k23, k24, k25, ()), xcl) : OuT)) (v := (2, k0, k1, true, (min e3 qq), k4, e1, e2, k7, k8, k9, k10, k11, k12, k13, k14, k15, k16, k17, k18, k19, k20, k21, k22, k23, k24, k25, xcl, ())) ha hgj ?_
      refine W.newc fun x51 => ?_
      refine W.storeN (b := x51) ?_
      refine W.cells (b := x51) (#[.int .i64 2, .int .i64 k0, .bool k1, .bool true, .int .i64 (min e3 qq), .int .i64 k4, .string e1, .string e2, .int .u8 k7, .slice k8.a k8.len k8.cap, .slice k9.a k9.len k9.cap, .string k10, .bool k11, .int .i64 k12, .bool k13, .string k14, .string k15, .int .i64 k16, .bool k17, .slice k18.a k18.len k18.cap, .bool k19, .bool k20, .string k21, .string k22, .bool k23, .slice k24.a k24.len k24.cap, .slice k25.a k25.len k25.cap, .bool xcl]) ?_
      refine W.loadx (b := x51) (i := 6) (v := e1) ?_
      refine W.lookup (kind := kLM) key_str e1 ?_
      rw [hget]
      refine W.newc fun x54 => ?_
      refine W.storeN (b := x54) ?_
      refine W.cells (b := x54) (#[.string e1, .string e2, .int .i64 e3, .bool e4, .string e5]) ?_
      refine W.cutk (fun r => r.1 = false) (fun K hK => ?_) (fun r hr4 => ?_)
      · refine W.ff rfl ?_
        refine W.load (b := x51) (v := (2 : Int)) ?_
        refine W.ff rfl ?_
        refine W.loadx (b := x51) (i := 3) (v := true) ?_
        refine W.ff rfl ?_
        refine W.loadx (b := x51) (i := 7) (v := e2) ?_
        refine W.load (b := x54) (v := e2) ?_
        refine W.ff (by simp) ?_
        refine W.loadx (b := x51) (i := 4) (v := min e3 qq) ?_
        refine W.load (b := x54) (v := e3) ?_
        refine W.pure (hK _ ?_)
        have hmn : (if qq < e3 then qq else e3) = min e3 qq := by split <;> omega
        rw [hmn]; simp
      refine W.ff hr4 (W.pure ?_)
      have hn3 := n1 (j + 1) (IntKind.wrap .i64 (s3.1 + 1), ()) (by omega) ⟨by simp only [hj]; rw [wrap_id (by omega) (by omega)]; rfl, hlt2⟩
      exact hn3.sub
    · refine W.ff (by rw [hj, h2l]; exact decide_eq_false (by omega)) (W.pure (n2 _ _ (W.inl (W.pure ?_))))
      exact fin (by repeat (first | with_reducible exact Go.H.has0 | apply Go.H.hasS))
  · have hqm : q ∈ M0 := hd.mem_iff.1 (List.mem_append_right _ (List.mem_cons_self ..))
    refine W.tt rfl ?_
    refine W.entry (x := q.1) (y := kLM.val q.2) ?_
    refine W.call1 (match_w ht hf (hkey q hqm) (At.un ?_))
    have hdl : (done.filter fun e => matchB flt e.1).length ≤ 30 := by
      have h1 := hd.length_eq
      rw [List.length_append] at h1
      have := List.length_filter_le (fun e => matchB flt e.1) done
      omega
    refine W.cutk (fun r => r.1 = (((done ++ [q]).filter fun e => matchB flt e.1).length : Int)) (fun K hK => ?_) (fun r hr2 => ?_)
    · rw [List.filter_append, List.length_append] at hK
      cases hmt : matchB flt q.1 with
      | true =>
        have hfq : ([q].filter fun e => matchB flt e.1) = [q] := by simp [hmt]
        rw [hfq] at hK
        refine W.tt rfl (W.pure (hK _ ?_))
        rw [hp, wrap_id (by omega) (by omega)]
        simp
      | false =>
        have hfq : ([q].filter fun e => matchB flt e.1) = [] := by simp [hmt]
        rw [hfq] at hK
        refine W.ff rfl (W.pure (hK _ ?_))
        rw [hp]
        simp
    · exact W.pure (hnx (r.1, ()) hr2).sub
end Go.Proofs.YtidlldnlphdhcaaGreatDoor
namespace Go.Proofs.YtidlldnlphdhcaaGreatDoor.brokerRetains
open Go.ChangeShapes Go.WideShapes Go.ChangeAt Go.RowKit
open Go.ChangeMaps (open_string shut_string)
set_option linter.unusedVariables false
set_option linter.unusedSimpArgs false
theorem own : ownKnob Tryz.prog.godebug = none := by kernel_rfl
theorem laidOut : laidOutB Tryz.prog = true := by kernel_rfl
theorem walk (w : World) (ht : TP w.heap) (x0 : Go.H.Slc × List MsT) (g0 : (Go.R.GoodG encM 5 (Tryz.prog.bytesOf 29) reachBytes w.heap (fun x : MsT => x.1.size ≤ reachBytes ∧ x.2.1.size ≤ reachBytes ∧ (Lit.int .i64 x.2.2.1).wf = true ∧ True ∧ x.2.2.2.2.size ≤ reachBytes)) x0) (x1 : ByteArray) (g1 : x1.size ≤ reachBytes) (x2 : Int) (g2 : (Lit.int .i64 x2).wf = true) :
    Calls Tryz.prog 3 #[.slice x0.1.a x0.1.len x0.1.cap, .string x1, .int .i64 x2] w fun e w' => e = .returned (.bool true) ∧ Below w.heap.size w w' := by
  exact Go.H.walk_of (BrokerRetains_w ht g0.row (fun m hm => Nat.le_trans (g0.good m hm).1 (by decide)) (Nat.le_trans g1 (by decide)) (fun h' R hs => ⟨rfl, R, hs⟩) w.heap (Go.H.sat_old w.heap))
set_option maxRecDepth 100000 in
theorem lifted (os : Os) (started : os.Started) (H : Type) (enc : TypeId × Value → H) :
    ReturnsInHanded {} Tryz.checked os 3 .any (fun w args => (Rows.brokerRetainsSpec.pre enc Tryz.prog Tryz.f3 [] false w args ∧ laidMetH Tryz.prog laid17 w) ∧ sizedMet enc Tryz.prog Tryz.f3 (OpenSpec.ofChange Rows.brokerRetainsSpec) false w args)
      (Rows.brokerRetainsSpec.post enc Tryz.prog Tryz.f3 false true false false) := by
  refine returnsInHanded_shapedR (C := Tryz.checked) (X := fun w _ => laidMetH Tryz.prog laid17 w) (fun _ _ _ hh h => h.of_heap hh) own started (by kernel_rfl) Tryz.func3
    (ChangeSpec.witness_shaped (enc := enc) (C := Tryz.checked) (os := os) (X := fun w _ => laidMetH Tryz.prog laid17 w) false (laidWorld os) #[.slice none 0 0, .string ⟨#[]⟩, .int .i64 0] 8 rfl (World.shaped_of_RefB (by kernel_rfl) (by kernel_rfl)) (by kernel_rfl) (by kernel_rfl) (by kernel_rfl) (laid_met os _)) ?_
  intro W base args ds gs before hval0 hW _ hwt hL hsh _
  have hval : ∀ (j : Nat) t v, Tryz.f3.params[j]? = some t → args[j]? = some v → Value.okWide Tryz.prog W .any base t v := hval0
  have hW' := hW
  obtain ⟨p, q, hA0, hV, rfl, hfz, hnd⟩ := hW
  have hA : DataW.TrodAll enc Tryz.prog W 0 (fun _ => true) true Tryz.f3.params.toList args.toList ds p := hA0
  rw [Tryz.params3] at hA hval
  obtain ⟨v0, vs0, d0, ds0, p0, q0, hargs, rfl, rfl, h0, r0⟩ := trodAll_cons hA
  obtain ⟨v1, vs1, d1, ds1, p1, q1, rfl, rfl, rfl, h1, r1⟩ := trodAll_cons r0
  obtain ⟨v2, vs2, d2, ds2, p2, q2, rfl, rfl, rfl, h2, r2⟩ := trodAll_cons r1
  obtain ⟨rfl, rfl, rfl⟩ := trodAll_nil r2
  obtain rfl : args = #[v0, v1, v2] := by cases args; simp_all
  obtain ⟨rfl, rfl⟩ := trodVars_none hV
  have w0 : Go.R.okW Tryz.prog 22 d0 := fun n hn => by simpa using List.all_eq_true.1 hwt n (DataW.weights_mem_each (j := 0) (by kernel_rfl) rfl n hn)
  have w1 : Go.R.okW Tryz.prog 9 d1 := fun n hn => by simpa using List.all_eq_true.1 hwt n (DataW.weights_mem_each (j := 1) (by kernel_rfl) rfl n hn)
  obtain ⟨a0, len0, cap0, rfl⟩ := okWide_slice Tryz.underlying22 (hval 0 22 v0 rfl rfl)
  have k0 := h0
  have lt0 : ∀ x ∈ p0, x.block < W.heap.size := by obtain ⟨m, hm⟩ := k0; exact DataW.trod_lt m _ _ _ hm
  obtain ⟨x0, e0, g0⟩ : ∃ x : Go.H.Slc × List MsT, (Value.slice a0 len0 cap0 = .slice x.1.a x.1.len x.1.cap) ∧ (Go.R.GoodG encM 5 (Tryz.prog.bytesOf 29) reachBytes W.heap (fun x : MsT => x.1.size ≤ reachBytes ∧ x.2.1.size ≤ reachBytes ∧ (Lit.int .i64 x.2.2.1).wf = true ∧ True ∧ x.2.2.2.2.size ≤ reachBytes)) x := by
    obtain ⟨fuel, hf⟩ := h0
    obtain ⟨x, hx, hg⟩ := rd_Msgs19 (Go.R.okW_law Tryz.prog) fuel _ _ hf w0
    exact ⟨x, by simpa [Value.cells] using hx, hg⟩
  cases e0
  obtain ⟨x1, rfl, rfl, rfl, gg1⟩ := open_string Tryz.underlying9 (hval 1 9 v1 rfl rfl) h1
  have g1 : x1.size ≤ reachBytes := by have := (Go.R.okW_law Tryz.prog).str w1; rwa [Array.length_toList] at this
  obtain ⟨x2, rfl, rfl, rfl, g2⟩ := open_int Tryz.underlying3 (hval 2 3 v2 rfl rfl) h2
  clear hA0 hval0
  refine (walk W (tp_of_laid hL hsh) x0 g0 x1 g1 x2 g2).mono fun e W' ⟨he, bel⟩ => ?_
  subst he
  exact ⟨_, rfl, _, _, _, [], _, [], hW', trodAll_mk1 (shut_bool Tryz.underlying4 _), (trodAll_cons_mk (Below.trod laidOut (by kernel_rfl) (of_decide_eq_true (by kernel_rfl)) k0 bel lt0) (trodAll_cons_mk (shut_string Tryz.underlying9 gg1) (trodAll_cons_mk (shut_int Tryz.underlying3 g2) trodAll_mk0))), rfl, bel.frame _, fun h => by cases h⟩
end Go.Proofs.YtidlldnlphdhcaaGreatDoor.brokerRetains
namespace Go.Proofs.YtidlldnlphdhcaaGreatDoor.brokerRetains
open Go.ChangeShapes Go.WideShapes Go.ChangeAt Go.RowKit
open Go.ChangeMaps (open_string shut_string)
set_option linter.unusedVariables false
set_option linter.unusedSimpArgs false
theorem fact0 : (Rows.brokerRetainsRow.wf (OpenSpec.ofChange Rows.brokerRetainsSpec)) = true := by kernel_rfl
theorem fact1 : (laidOutB Tryz.pinned.checked.prog) = true := by kernel_rfl
theorem fact2 : (mapsRowed Tryz.pinned.checked.prog) = true := by kernel_rfl
theorem fact3 : (Tryz.f3.params.all (Tryz.pinned.checked.prog.readableRec ·)) = true := by kernel_rfl
theorem fact4 : (namedTie Tryz.pinned.checked.prog Rows.brokerRetainsRow.named Rows.brokerRetainsSpec.vars) = true := by kernel_rfl
theorem fact5 : ((Rows.brokerRetainsRow.stops == [])) = true := by kernel_rfl
theorem fact6 : ((Tryz.pinned.checked.prog.stops == [])) = true := by kernel_rfl
theorem fact7 : ((Rows.brokerRetainsRow.knobs == [])) = true := by kernel_rfl
theorem fact8 : ((Tryz.pinned.checked.prog.stopKnobs == [])) = true := by kernel_rfl
theorem fact9 : ((Rows.brokerRetainsRow.inPlace == Tryz.pinned.checked.prog.inPlace 3)) = true := by kernel_rfl
theorem fact10 : ((Rows.brokerRetainsRow.unfollowed == Tryz.pinned.checked.prog.unfollowed 3)) = true := by kernel_rfl
theorem fact11 : ((Rows.brokerRetainsRow.recurses == Tryz.pinned.checked.prog.recurses 3)) = true := by kernel_rfl
theorem fact12 : ((Rows.brokerRetainsRow.named == Tryz.pinned.checked.prog.varsNamed 3)) = true := by kernel_rfl
theorem fact13 : ((Rows.brokerRetainsRow.maps == (Tryz.f3.params.toList ++ Rows.brokerRetainsSpec.plain.varTypes Tryz.pinned.checked.prog).any (Tryz.pinned.checked.prog.mapsRec ·))) = true := by kernel_rfl
theorem fact14 : ((Rows.brokerRetainsRow.ifaces == (Tryz.f3.params.toList ++ Rows.brokerRetainsSpec.plain.varTypes Tryz.pinned.checked.prog).any (Tryz.pinned.checked.prog.ifacesRec ·))) = true := by kernel_rfl
theorem fact15 : ((Rows.brokerRetainsRow.mapsOut == Tryz.pinned.checked.prog.mapsAmong Tryz.f3.resultTypes.toList)) = true := by kernel_rfl
theorem fact16 : ((Rows.brokerRetainsRow.loops == (Tryz.f3.params.toList ++ Rows.brokerRetainsSpec.plain.varTypes Tryz.pinned.checked.prog).any (Tryz.pinned.checked.prog.loopsFrom ·))) = true := by kernel_rfl
theorem fact17 : ((Rows.brokerRetainsRow.wideKeys == (Tryz.f3.params.toList ++ Rows.brokerRetainsSpec.plain.varTypes Tryz.pinned.checked.prog ++ Tryz.f3.resultTypes.toList).any (Tryz.pinned.checked.prog.wideKeysFrom ·))) = true := by kernel_rfl
theorem fact18 : (Rows.brokerRetainsSpec.vars.all (Tryz.pinned.checked.prog.varReadable ·)) = true := by kernel_rfl
theorem fact19 : (Tryz.f3.resultTypes.all (fun t => Tryz.pinned.checked.prog.readableRec t && decide (t < Tryz.pinned.checked.prog.types.size))) = true := by kernel_rfl
theorem fact20 : ((Rows.brokerRetainsRow.ifacesOut == Tryz.f3.resultTypes.toList.any (Tryz.pinned.checked.prog.ifacesRec ·))) = true := by kernel_rfl
theorem fact21 : ((Rows.brokerRetainsRow.loopsOut == Tryz.f3.resultTypes.toList.any (Tryz.pinned.checked.prog.loopsFrom ·))) = true := by kernel_rfl
theorem fact22 : ((Rows.brokerRetainsRow.plainKeys == Tryz.pinned.checked.prog.plainKeys)) = true := by kernel_rfl
theorem fact23 : (Rows.brokerRetainsRow.shortTexts.isNone) = true := by kernel_rfl
theorem fact24 : (Tryz.pinned.checked.prog.stopsHeard) = true := by kernel_rfl
theorem fact25 : (Tryz.pinned.checked.prog.mayEnter) = true := by kernel_rfl
theorem fact26 : ((Rows.brokerRetainsRow.lifted == Tryz.pinned.checked.prog.liftsFinal)) = true := by kernel_rfl
theorem fact27 : ((Tryz.pinned.checked.prog.make == some Rows.brokerRetainsRow.make)) = true := by kernel_rfl
theorem fact28 : ((Rows.brokerRetainsRow.kinds == (if Rows.brokerRetainsRow.domain.isEmpty then [] else Tryz.f3.params.toList.map fun t => match Tryz.pinned.checked.prog.underlying t with | some (.int k) => some k | _ => none))) = true := by kernel_rfl
theorem fact29 : ((Rows.brokerRetainsRow.pinned == Rows.brokerRetainsRow.pinnedBy)) = true := by kernel_rfl
theorem fact30 : ((Rows.brokerRetainsRow.veiled == (Tryz.f3.params.toList ++ Rows.brokerRetainsSpec.plain.varTypes Tryz.pinned.checked.prog ++ Tryz.f3.resultTypes.toList).any (Tryz.pinned.checked.prog.veiledRec ·))) = true := by kernel_rfl
theorem fact31 : (Rows.brokerRetainsRow.veiledFits Tryz.pinned.checked.prog Tryz.f3.params.toList (Tryz.f3.params.toList ++ Rows.brokerRetainsSpec.plain.varTypes Tryz.pinned.checked.prog ++ Tryz.f3.resultTypes.toList)) = true := by kernel_rfl
theorem andt {a b : Bool} (ha : a = true) (hb : b = true) : (a && b) = true := by rw [ha, hb]; rfl
set_option maxRecDepth 100000 in
theorem facts : joinedFacts Tryz.pinned.checked.prog 3 Tryz.f3 Rows.brokerRetainsSpec Rows.brokerRetainsRow = true := by
  unfold joinedFacts
  exact (andt (andt (andt (andt (andt (andt (andt (andt (andt (andt (andt (andt (andt (andt (andt (andt (andt (andt (andt (andt (andt (andt (andt (andt (andt (andt (andt (andt (andt (andt (andt fact0 fact1) fact2) fact3) fact4) fact5) fact6) fact7) fact8) fact9) fact10) fact11) fact12) fact13) fact14) fact15) fact16) fact17) fact18) fact19) fact20) fact21) fact22) fact23) fact24) fact25) fact26) fact27) fact28) fact29) fact30) fact31)
end Go.Proofs.YtidlldnlphdhcaaGreatDoor.brokerRetains
