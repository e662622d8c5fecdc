/-
  QBrokerNil5: what the proof BrokerNilProof reaches of our texts: Cbk9, Lbks, Cbka, Lasc, Lwk, Cbkb, Cbkc, D19, Cbkd, L19n, BrokerNilWalk, BrokerNilFacts.
-/
import Derived.Test.YtidlldnlphdhcaaGreatDoorQBrokerNil4
import Derived.Laws.RangeString
import Derived.Test.YtidlldnlphdhcaaGreatDoorRows
import Derived.Test.YtidlldnlphdhcaaGreatDoorCards
import Derived.Test.YtidlldnlphdhcaaGreatDoorTie
import Derived.WalkKit
import Derived.ProofKit
import Derived.OpenShut
import Derived.ShutString
import Derived.ChangeOld
import Derived.Below
import Derived.Carry
import Derived.LaidMore
import Derived.LaidHandle
import Derived.Stop.Joined
import Derived.SevenTiedAt
namespace Go.Proofs.YtidlldnlphdhcaaGreatDoor
open Go.H Go.Proofs
set_option linter.unusedSimpArgs false
set_option linter.unusedVariables false
set_option maxRecDepth 100000
variable {h h0 : Heap} {L L' L1 L2 L3 R : List Asn} {Q : Value → Heap → Prop}
theorem W.both2 {γ β : Type} {x y : HM β} {Q' : β → Heap → Prop} {P : γ → List Asn} {REST : γ → HM β} (h1 : (∀ g, W (P g) (REST g) Q') → W L x Q') (h2 : (∀ g, W (P g) (REST g) Q') → W L y Q') (ht : ∀ g, W (P g) (REST g) Q') : W L (HM.both x y) Q' := W.both (h1 ht) (h2 ht)
theorem kick_find {B : BrkS} (h : BrkH B) {z : ConnS} {i : Int} (hz : z ∈ B.conns) (hi : z.ses = i) : B.conns.find? (fun x => decide (x.ses = i)) = some z := by
  cases hg : B.conns.find? (fun x => decide (x.ses = i)) with
  | none => exact absurd hi (by simpa using List.find?_eq_none.1 hg z hz)
  | some x =>
    have h1 := h.one i
    have m1 : x ∈ B.conns.filter (fun y => decide (y.ses = i)) := List.mem_filter.2 ⟨List.mem_of_find?_eq_some hg, by simpa using List.find?_some hg⟩
    have m2 : z ∈ B.conns.filter (fun y => decide (y.ses = i)) := List.mem_filter.2 ⟨hz, by simpa using hi⟩
    generalize B.conns.filter (fun y => decide (y.ses = i)) = k at h1 m1 m2
    match k, h1 with
    | [], _ => cases m1
    | [w], _ => rw [List.mem_singleton.1 m1, List.mem_singleton.1 m2]
theorem beginT_eq {B : BrkS} {c : ByteArray} {clean keep : Bool} (hg : goodName c) (h32 : ofS c B.ses = none → B.ses.length < 32) :
    beginT B.last B.ses c clean keep = ((0, (beginB c clean keep B).1.1, (beginB c clean keep B).1.2), (beginB c clean keep B).2.last, (beginB c clean keep B).2.ses) ∧ (beginB c clean keep B).2.subs = B.subs ∧ (beginB c clean keep B).2.kept = B.kept ∧ (beginB c clean keep B).2.conns = B.conns := by
  unfold beginT beginB
  rw [if_neg (fun e => e hg)]
  cases ho : ofS c B.ses with
  | none => rw [ho] at h32; simp [Nat.not_le.2 (h32 rfl)]
  | some s => cases clean <;> simp
theorem keepP_eq (l : List PropT) : decide (0 < ((findP 17 l).getD (0, 0, e0S, e0S)).2.1) = keepP l := by
  unfold keepP
  cases findP 17 l <;> rfl
abbrev pProps (p : Pk) : Slc := p.2.2.2.2.2.2.2.2.2.1
theorem connect_w {t b n : Nat} {full : Bool} {T : TurnS} {c : Int} {p : Pk} {pl : List PropT} {sl : List SubT} {fl : List ByteArray} (ht : TP h0) (hok : BrkOK T.b n) (hn : n ≤ 1000000) (hnc : getC c T.b.conns = none) (hci : -9223372036854775808 ≤ c ∧ c ≤ 9223372036854775807) (hb : T.outs.length ≤ 10000000) (hp : T.pubs.length ≤ 100000000)
    (hcl : (p.2.2.2.2.2.2.2.2.2.2.1).size ≤ 9223372036854775807) (hwt : (p.2.2.2.2.2.2.2.2.2.2.2.2.2.2.1).size ≤ 9223372036854775807) (hpl : pl.length ≤ 1000)
    (hq : At (turnA t b full (connectB full c (pkI p pl sl fl) T) :: old h0 :: L3) (Q (.tuple #[]))) (hx : Has L (turnA t b full T) L1 := by repeat (first | with_reducible exact Go.H.has0 | apply Go.H.hasS)) (hy : Has L1 (old h0) L2 := by repeat (first | with_reducible exact Go.H.has0 | apply Go.H.hasS)) (hz : Has L2 (ownS encPr 4 (pProps p) pl) L3 := by repeat (first | with_reducible exact Go.H.has0 | apply Go.H.hasS)) :
    FW Tryz.prog 33 #[at0 t, .int .i64 c, vPkK .u8 p] L Q := by
  refine fun h hs => q_e7 (some ⟨t, 0, none⟩) c p h Q ((?_ : W (turnA t b full T :: old h0 :: ownS encPr 4 (pProps p) pl :: L3) _ _) h ((hx.then3 hy hz).s hs))
  clear hs h hx hy hz
  unfold q_bz
  refine W.newc fun x1 => ?_
  refine W.nonnil ?_
  refine W.opn3 (fun h R => q_ak) fun so sp q => ?_
  refine W.fact (fun h R hs => conn_nd (m := q.cm) (l := T.b.conns) hs) fun hcn => ?_
  refine W.load (v := some ⟨b, 0, none⟩) ?_
  refine W.nonnil ?_
  refine W.load (v := some ⟨q.tb, 0, none⟩) ?_
  refine W.load (v := p.2.2.2.2.2.2.2.2.2.2.1) ?_
  apply W.both2 (γ := Nat) (P := fun x8 => turnA t b full T :: cells x8 (lS9 (infoT ((ofS (p.2.2.2.2.2.2.2.2.2.2.1) T.b.ses).map infoOf)).1).toArray :: cells x1 (aS3 p) :: old h0 :: ownS encPr 4 (pProps p) pl :: L3)
  case h1 =>
    intro tail
    refine W.callN (sFind_w (b := q.tb) (A := T.b.ses) (c := p.2.2.2.2.2.2.2.2.2.2.1) hok.cnd (At.unN (x := infoT ((ofS (p.2.2.2.2.2.2.2.2.2.2.1) T.b.ses).map infoOf)) ?_))
    refine W.newc fun x8 => ?_
    refine W.load (v := p.2.2.2.2.2.2.2.2.2.2.1) ?_
    refine W.req ?_ rfl
    refine W.load (v := some ⟨q.tb, 0, none⟩) ?_
    refine W.req ?_ rfl
    refine W.load (v := some ⟨b, 0, none⟩) ?_
    refine W.req ?_ rfl
    refine W.storeN ?_
    refine W.turn T so sp q ?_
    exact (tail x8).sub
  case h2 =>
    intro tail
    refine W.newc fun x8 => ?_
    refine W.load (v := p.2.2.2.2.2.2.2.2.2.2.1) ?_
    refine W.req ?_ rfl
    refine W.load (v := some ⟨q.tb, 0, none⟩) ?_
    refine W.req ?_ rfl
    refine W.load (v := some ⟨b, 0, none⟩) ?_
    refine W.req ?_ rfl
    refine W.callN (sFind_w (b := q.tb) (A := T.b.ses) (c := p.2.2.2.2.2.2.2.2.2.2.1) hok.cnd (At.unN (x := infoT ((ofS (p.2.2.2.2.2.2.2.2.2.2.1) T.b.ses).map infoOf)) ?_))
    refine W.storeN ?_
    refine W.turn T so sp q ?_
    exact (tail x8).sub
  case ht =>
    intro x8
    refine W.call1 (sNew_w (fun b2 => At.un (x := some ⟨b2, 0, none⟩) ?_))
    refine W.load (v := p.2.2.2.2.2.2.2.2.2.2.1) ?_
    refine W.callN (sBegin_w (b := b2) (last := 0) (A := []) (c := p.2.2.2.2.2.2.2.2.2.2.1) (clean := false) (keep := false) ht.u8 hcl (Int.le_refl _) (by decide) (by simp) (by simp) (At.unN (x := ((beginT 0 [] (p.2.2.2.2.2.2.2.2.2.2.1) false false).1.2.1, (beginT 0 [] (p.2.2.2.2.2.2.2.2.2.2.1) false false).1.2.2, (beginT 0 [] (p.2.2.2.2.2.2.2.2.2.2.1) false false).1.1, ())) ?_))
    have hbg : (beginT 0 [] (p.2.2.2.2.2.2.2.2.2.2.1) false false).1.1 = if goodName (p.2.2.2.2.2.2.2.2.2.2.1) then 0 else 133 := by
      unfold beginT
      by_cases hg : goodName (p.2.2.2.2.2.2.2.2.2.2.1)
      · simp [hg, ofS]
      · simp [hg]
    generalize (beginT 0 [] (p.2.2.2.2.2.2.2.2.2.2.1) false false).1.1 = code0 at hbg ⊢
    refine W.cutk (fun r => r.1 = (p.2.2.2.2.2.2.2.2.2.2.2.2.2.1 && !nameOK (p.2.2.2.2.2.2.2.2.2.2.2.2.2.2.1))) (fun K hK => ?_) (fun r hr => ?_)
    · refine W.load (v := p.2.2.2.2.2.2.2.2.2.2.2.2.2.1) ?_
      refine W.ite (fun h3 => ?_) (fun h3 => ?_)
      · refine W.loadx (b := x1) (i := 14) (v := p.2.2.2.2.2.2.2.2.2.2.2.2.2.2.1) ?_
        refine W.call1 (checkName_w ht hwt (At.un ?_))
        refine W.pure (At.sub (hK _ ?_))
        simp only [h3, Bool.true_and]
        unfold nameC
        cases nameOK (p.2.2.2.2.2.2.2.2.2.2.2.2.2.2.1) <;> rfl
      · refine W.pure (hK _ ?_)
        simp [h3]
    obtain ⟨r, _⟩ := r
    simp only at hr
    subst hr
    refine W.cutk (fun r => r.1 = barB (pkI p pl sl fl) T.b) (fun K hK => ?_) (fun r hr => ?_)
    · refine W.ite (fun h1 => W.pure (hK _ ?_)) (fun h1 => ?_)
      · unfold barB
        rw [if_pos (by simpa using h1)]
      have hK1 := fun a e => hK a e
      unfold barB at hK1
      rw [if_neg (by simpa using h1)] at hK1
      refine W.nonnil ?_
      refine W.opn3 (fun h R => q_ak) fun so2 sp2 q2 => ?_
      refine W.load (v := some ⟨b, 0, none⟩) ?_
      refine W.nonnil ?_
      refine W.load (v := some q2.cm) ?_
      refine W.mlen (r := q2.cm) (l := T.b.conns.map connE) ?_
      refine W.bite (fun h2 => ?_) (fun h2 => ?_)
      · rw [if_pos (by simp only [List.length_map, decide_eq_true_eq] at h2; omega)] at hK1
        refine W.bpure (W.pure ?_)
        refine At.turn T so2 sp2 q2 ?_
        exact (hK1 (151, ()) rfl).sub
      · rw [if_neg (by simp only [List.length_map, decide_eq_false_iff_not] at h2; omega)] at hK1
        refine W.bbind ?_
        refine W.bite (fun h4 => ?_) (fun h4 => ?_)
        · have hg : ¬ goodName (p.2.2.2.2.2.2.2.2.2.2.1) := fun hg => by rw [hbg, if_pos hg] at h4; exact absurd h4 (by decide)
          rw [if_pos hg] at hK1
          refine W.bpure (W.bpure (W.pure ?_))
          refine At.turn T so2 sp2 q2 ?_
          exact (hK1 (code0, ()) (by rw [hbg, if_neg hg])).sub
        · have hg : goodName (p.2.2.2.2.2.2.2.2.2.2.1) := Classical.byContradiction fun hg => by rw [hbg, if_neg hg] at h4; exact absurd h4 (by decide)
          rw [if_neg (fun e => e hg)] at hK1
          refine W.bbind ?_
          cases ho : ofS (p.2.2.2.2.2.2.2.2.2.2.1) T.b.ses with
          | some s =>
            rw [if_neg (by simp [ho])] at hK1
            refine W.bf rfl (W.bpure ?_)
            refine W.bf rfl ?_
            refine W.bpure (W.bpure (W.bpure (W.pure ?_)))
            refine At.turn T so2 sp2 q2 ?_
            rw [ho] at hK1
            exact (hK1 (0, ()) rfl).sub
          | none =>
            refine W.bt rfl ?_
            refine W.bbind (W.nonnil ?_)
            refine W.bbind (W.load (v := some ⟨b, 0, none⟩) ?_)
            refine W.bbind (W.nonnil ?_)
            refine W.bbind (W.load (v := some ⟨q2.tb, 0, none⟩) ?_)
            refine W.bbind (W.call1 (sList_w (b := q2.tb) (A := T.b.ses) (by have := hok.lastn; omega) (fun s hs => ⟨by have := (hok.rng s hs).1; omega, (hok.rng s hs).2⟩) hok.n32 hok.asc (fun S => At.un (x := S) ?_)))
            refine W.fact (own_len' (enc := encN) (size := 4) (s := S) (xs := T.b.ses.map infoOf)) fun hl => ?_
            rw [List.length_map] at hl
            refine W.bpure ?_
            rw [ho] at hK1
            by_cases h32 : 32 ≤ T.b.ses.length
            · rw [if_pos ⟨rfl, h32⟩] at hK1
              refine W.bt (by rw [hl]; exact decide_eq_true (by omega)) ?_
              refine W.bpure (W.bpure (W.bpure (W.pure ?_)))
              refine At.turn T so2 sp2 q2 ?_
              exact (hK1 (151, ()) rfl).sub
            · rw [if_neg (fun e => h32 e.2)] at hK1
              refine W.bf (by rw [hl]; exact decide_eq_false (by omega)) ?_
              refine W.bpure (W.bpure (W.bpure (W.pure ?_)))
              refine At.turn T so2 sp2 q2 ?_
              exact (hK1 (0, ()) rfl).sub
    obtain ⟨code, _⟩ := r
    simp only at hr
    unfold connectB at hq
    by_cases hcode : code = 0
    · refine W.ff (by simp [hcode]) ?_
      rw [if_neg (by rw [← hr]; simpa using hcode)] at hq
      obtain ⟨T1, hT1⟩ : ∃ T1, T1 = kickT full (p.2.2.2.2.2.2.2.2.2.2.1) T := ⟨_, rfl⟩
      refine W.cutk (fun r => r.1 = match ofS (p.2.2.2.2.2.2.2.2.2.2.1) T.b.ses with | some s => s.on | none => false) (fun K hK => ?_) (fun r hr2 => ?_)
      · cases ho : ofS (p.2.2.2.2.2.2.2.2.2.2.1) T.b.ses with
        | none => rw [ho] at hK; exact W.ff rfl (W.pure (hK _ rfl))
        | some s => rw [ho] at hK; exact W.tt rfl (W.load (v := s.on) (W.pure (hK _ rfl)))
      obtain ⟨r, _⟩ := r
      simp only at hr2
      refine W.cut (fun _ => turnA t b full T1 :: cells x8 (lS9 (infoT ((ofS (p.2.2.2.2.2.2.2.2.2.2.1) T.b.ses).map infoOf)).1).toArray :: cells x1 (aS3 p) :: old h0 :: ownS encPr 4 (pProps p) pl :: L3) (fun K hK => ?_) (fun _ => ?_)
      · clear hq
        unfold kickT at hT1
        cases ho : ofS (p.2.2.2.2.2.2.2.2.2.2.1) T.b.ses with
        | none =>
          rw [ho] at hT1 hr2 hK
          simp only at hT1 hr2
          subst hT1 hr2
          exact W.ff rfl (W.pure (hK ()).sub)
        | some s =>
          rw [ho] at hT1 hr2 hK
          simp only at hT1 hr2
          subst hr2
          by_cases hon : s.on = true
          · refine W.tt hon ?_
            refine W.nonnil ?_
            refine W.opn3 (fun h R => q_ak) fun so3 sp3 q3 => ?_
            refine W.load (v := some ⟨b, 0, none⟩) ?_
            refine W.nonnil ?_
            refine W.load (v := some q3.cm) ?_
            refine W.range fun it => ?_
            refine W.mapwp (ek := eKI) (ev := eVC) (r := q3.cm) (l := T.b.conns.map connE) (fun done _ => done.filter (fun x => decide (x.2.1 = s.id)) = [])
              (fun done _ => [cells t #[at0 b, .bool full, .slice so3.a so3.len so3.cap, .slice sp3.a sp3.len sp3.cap], outsA .u8 so3 T.outs, ownS encM 5 sp3 T.pubs, cells b (brkC q3), tabB q3.tb T.b.last T.b.ses, trieA q3.sb T.b.subs, keptA q3.kb T.b.kept,
                cells x8 (lS9 (infoT ((some s).map infoOf)).1).toArray, cells x1 (aS3 p), old h0, ownS encPr 4 (pProps p) pl] ++ L3) rfl ?_ (fun done s' hd hpd K' hk => ?_) (fun done y rest s' hd hpd K' hnx hk => ?_)
            · show Sub _ (itA eKI eVC q3.cm (T.b.conns.map connE) it [] (T.b.conns.map connE) :: cells t #[at0 b, .bool full, .slice so3.a so3.len so3.cap, .slice sp3.a sp3.len sp3.cap] :: outsA .u8 so3 T.outs :: ownS encM 5 sp3 T.pubs :: cells b (brkC q3) :: tabB q3.tb T.b.last T.b.ses :: trieA q3.sb T.b.subs :: keptA q3.kb T.b.kept :: cells x8 (lS9 (infoT ((some s).map infoOf)).1).toArray :: cells x1 (aS3 p) :: old h0 :: ownS encPr 4 (pProps p) pl :: L3)
              repeat (first | with_reducible exact Go.H.Sub.rfl | with_reducible exact Go.H.Sub.nil | refine Go.H.Sub.cons (by repeat (first | with_reducible exact Go.H.has0 | apply Go.H.hasS)) ?_ | refine Go.H.Sub.drop ?_)
            · have hno : T.b.conns.find? (fun x => decide (x.ses = s.id)) = none := List.find?_eq_none.2 fun x hx => by
                have hm : connE x ∈ done := hd.mem_iff.2 (List.mem_map_of_mem hx)
                have := List.filter_eq_nil_iff.1 hpd _ hm
                simpa using this
              have e : T1 = T := by rw [hT1]; unfold kickB; rw [hno]
              subst e
              refine W.ff rfl (W.pure (hk () _ (W.pure ?_)))
              show At (mapA eKI eVC q3.cm (T1.b.conns.map connE) :: cells t #[at0 b, .bool full, .slice so3.a so3.len so3.cap, .slice sp3.a sp3.len sp3.cap] :: outsA .u8 so3 T1.outs :: ownS encM 5 sp3 T1.pubs :: cells b (brkC q3) :: tabB q3.tb T1.b.last T1.b.ses :: trieA q3.sb T1.b.subs :: keptA q3.kb T1.b.kept :: _ :: cells x1 (aS3 p) :: old h0 :: ownS encPr 4 (pProps p) pl :: L3) _
              refine At.turn T1 so3 sp3 q3 ?_
              exact (hK ()).sub
            · show W (itA eKI eVC q3.cm (T.b.conns.map connE) it (done ++ [y]) rest :: cells t #[at0 b, .bool full, .slice so3.a so3.len so3.cap, .slice sp3.a sp3.len sp3.cap] :: outsA .u8 so3 T.outs :: ownS encM 5 sp3 T.pubs :: cells b (brkC q3) :: tabB q3.tb T.b.last T.b.ses :: trieA q3.sb T.b.subs :: keptA q3.kb T.b.kept :: cells x8 (lS9 (infoT ((some s).map infoOf)).1).toArray :: cells x1 (aS3 p) :: old h0 :: ownS encPr 4 (pProps p) pl :: L3) _ _
              refine W.tt rfl ?_
              refine W.entry (x := y.1) (y := y.2) ?_
              refine W.newc fun x53 => ?_
              refine W.storeN ?_
              refine W.load (b := x53) (v := y.2.1) ?_
              refine W.load (b := x8) (v := s.id) ?_
              by_cases hy : y.2.1 = s.id
              · refine W.tt (by simpa using hy) ?_
                have hym : y ∈ T.b.conns.map connE := hd.mem_iff.1 (List.mem_append_right _ (List.mem_cons_self ..))
                obtain ⟨z, hz, rfl⟩ := List.mem_map.1 hym
                have e : T1 = refuseB full z.c 142 T := by rw [hT1]; unfold kickB; rw [kick_find hok.toBrkH hz hy]
                subst e
                refine W.cv1 (A := itA eKI eVC q3.cm (T.b.conns.map connE) it (done ++ [connE z]) rest) (B := mapA eKI eVC q3.cm (T.b.conns.map connE)) (fun h R hs => itA_map hs) ?_
                refine W.turn T so3 sp3 q3 ?_
                refine W.callN (refuse_w (T := T) (c := z.c) (code := 142) ht hok.toBrkH (by omega) (by omega) (At.unN ?_))
                exact W.pure (hk () _ (W.pure (hK ()).sub))
              · refine W.ff (by simpa using hy) ?_
                have hn2 := hnx () (by rw [List.filter_append, hpd, List.filter_cons_of_neg (by simpa using hy)]; rfl)
                refine W.pure (At.sub hn2 ?_)
                show Sub _ (itA eKI eVC q3.cm (T.b.conns.map connE) it (done ++ [y]) rest :: cells t #[at0 b, .bool full, .slice so3.a so3.len so3.cap, .slice sp3.a sp3.len sp3.cap] :: outsA .u8 so3 T.outs :: ownS encM 5 sp3 T.pubs :: cells b (brkC q3) :: tabB q3.tb T.b.last T.b.ses :: trieA q3.sb T.b.subs :: keptA q3.kb T.b.kept :: cells x8 (lS9 (infoT ((some s).map infoOf)).1).toArray :: cells x1 (aS3 p) :: old h0 :: ownS encPr 4 (pProps p) pl :: L3)
                repeat (first | with_reducible exact Go.H.Sub.rfl | with_reducible exact Go.H.Sub.nil | refine Go.H.Sub.cons (by repeat (first | with_reducible exact Go.H.has0 | apply Go.H.hasS)) ?_ | refine Go.H.Sub.drop ?_)
          · have e : T1 = T := by
              rw [hT1]; unfold kickB
              rw [List.find?_eq_none.2 fun x hx => ?_]
              intro hxs
              have hxs : x.ses = s.id := by simpa using hxs
              exact hon (hok.onl x hx s (ofS_some ho).1 hxs.symm)
            subst e
            exact W.ff (by simpa using hon) (W.pure (hK ()).sub)
      have hbar : goodName (p.2.2.2.2.2.2.2.2.2.2.1) ∧ (ofS (p.2.2.2.2.2.2.2.2.2.2.1) T.b.ses = none → T.b.ses.length < 32) := by
        rw [hcode] at hr
        unfold barB at hr
        simp only at hr
        split at hr
        · cases hr
        · split at hr
          · cases hr
          · split at hr
            · cases hr
            · rename_i hg
              split at hr
              · cases hr
              · rename_i h32
                refine ⟨Classical.byContradiction hg, fun ho => ?_⟩
                exact Nat.lt_of_not_le fun h => h32 ⟨ho, h⟩
      obtain ⟨hk1, hk2, hk3, hk4, hk5, hk6⟩ := kickT_ok (full := full) (c := p.2.2.2.2.2.2.2.2.2.2.1) hok hcn hbar.2
      rw [← hT1] at hk1 hk2 hk3 hk4 hk5 hk6
      refine W.load (v := pProps p) ?_
      refine W.callN (find_w (S := pProps p) (pl := pl) (id := 17) hpl (At.unN (x := (prU ((findP 17 pl).getD (0, 0, e0S, e0S)), (findP 17 pl).isSome, ())) ?_))
      refine W.newc fun x59 => ?_
      refine W.storeN ?_
      refine W.nonnil ?_
      refine W.opn3 (fun h R => q_ak) fun so4 sp4 q4 => ?_
      refine W.load (v := some ⟨b, 0, none⟩) ?_
      refine W.nonnil ?_
      refine W.load (v := some ⟨q4.tb, 0, none⟩) ?_
      refine W.load (v := p.2.2.2.2.2.2.2.2.2.2.1) ?_
      refine W.load (v := p.2.2.2.2.2.2.2.2.2.2.2.1) ?_
      refine W.load (v := ((findP 17 pl).getD (0, 0, e0S, e0S)).2.1) ?_
      rw [keepP_eq]
      obtain ⟨hbe, hbs, hbk, hbc⟩ := beginT_eq (B := T1.b) (clean := p.2.2.2.2.2.2.2.2.2.2.2.1) (keep := keepP pl) hbar.1 hk5
      refine W.callN (sBegin_w (b := q4.tb) (last := T1.b.last) (A := T1.b.ses) (c := p.2.2.2.2.2.2.2.2.2.2.1) (clean := p.2.2.2.2.2.2.2.2.2.2.2.1) (keep := keepP pl) ht.u8 hcl hk1.last0 (by have := hk1.lastn; omega) (fun s hs => (hk1.rng s hs).2) hk1.cnd (At.unN (x := ((beginT T1.b.last T1.b.ses (p.2.2.2.2.2.2.2.2.2.2.1) (p.2.2.2.2.2.2.2.2.2.2.2.1) (keepP pl)).1.2.1, (beginT T1.b.last T1.b.ses (p.2.2.2.2.2.2.2.2.2.2.1) (p.2.2.2.2.2.2.2.2.2.2.2.1) (keepP pl)).1.2.2, (beginT T1.b.last T1.b.ses (p.2.2.2.2.2.2.2.2.2.2.1) (p.2.2.2.2.2.2.2.2.2.2.2.1) (keepP pl)).1.1, ())) ?_))
      have hnc1 : getC c T1.b.conns = none := List.find?_eq_none.2 fun y hy => by
        have := List.find?_eq_none.1 hnc y (hk4 y hy).1
        exact this
      obtain ⟨hjok, s5, hs5, hid5⟩ := begin_ok (B := T1.b) (o := ofS (p.2.2.2.2.2.2.2.2.2.2.1) T.b.ses) (client := p.2.2.2.2.2.2.2.2.2.2.1) (clean := p.2.2.2.2.2.2.2.2.2.2.2.1) (keep := keepP pl) (x := ⟨c, (beginB (p.2.2.2.2.2.2.2.2.2.2.1) (p.2.2.2.2.2.2.2.2.2.2.2.1) (keepP pl) T1.b).1.1, p.2.2.2.2.2.2.2.2.2.2.2.2.2.1, (p.2.2.2.2.2.2.2.2.2.2.2.2.2.2.1, p.2.2.2.2.2.2.2.2.2.2.2.2.2.2.2.1, p.2.2.2.2.2.2.2.2.2.2.2.2.2.2.2.2.1, p.2.2.2.2.2.2.2.2.2.2.2.2.2.2.2.2.2.1, e0S)⟩) hk1 hk6 (fun y hy s hs => (hk4 y hy).2 s hs) hk5 rfl ⟨hwt, hci⟩
      rw [joinB'_eq] at hq
      dsimp only at hq
      rw [← hT1, hbs, hbk, hbc] at hq
      clear hT1 hr hcode hr2 hk4 hk5 hk6 hbar hbs hbk hbc hnc
      generalize beginB (p.2.2.2.2.2.2.2.2.2.2.1) (p.2.2.2.2.2.2.2.2.2.2.2.1) (keepP pl) T1.b = r at hq hbe hjok hs5 hid5 ⊢
      rw [hbe]
      clear hbe
      dsimp only
      refine W.cutk (fun a => a.1 = match ofS (p.2.2.2.2.2.2.2.2.2.2.1) T.b.ses with | some s => decide (s.id ≠ r.1.1) | none => false) (fun K hK => ?_) (fun a ha => ?_)
      · cases ho : ofS (p.2.2.2.2.2.2.2.2.2.2.1) T.b.ses with
        | none => rw [ho] at hK; exact W.ff rfl (W.pure (hK _ rfl))
        | some s =>
          rw [ho] at hK
          refine W.tt rfl (W.load (v := s.id) (W.pure (hK _ ?_)))
          by_cases e : s.id = r.1.1
          · simp [e]
          · have e2 : r.1.1 ≠ s.id := fun e' => e e'.symm
            simp [e, e2]
      obtain ⟨a, _⟩ := a
      simp only at ha
      refine W.cut (fun _ => turnA t b full (tB ⟨r.2.last, r.2.ses, dropO (ofS (p.2.2.2.2.2.2.2.2.2.2.1) T.b.ses) r.1.1 T1.b.subs, T1.b.kept, T1.b.conns⟩ T1) :: cells x1 (aS3 p) :: old h0 :: ownS encPr 4 (pProps p) pl :: L3) (fun K hK => ?_) (fun _ => ?_)
      · clear hq hjok
        cases ho : ofS (p.2.2.2.2.2.2.2.2.2.2.1) T.b.ses with
        | none =>
          rw [ho] at ha hK
          have e2 : dropO none r.1.1 T1.b.subs = T1.b.subs := rfl
          rw [e2] at hK
          refine W.ff ha (W.pure ?_)
          refine At.turn (tB ⟨r.2.last, r.2.ses, T1.b.subs, T1.b.kept, T1.b.conns⟩ T1) so4 sp4 q4 ?_
          exact (hK ()).sub
        | some s =>
          rw [ho] at ha hK
          by_cases e : s.id = r.1.1
          · have e2 : dropO (some s) r.1.1 T1.b.subs = T1.b.subs := by unfold dropO; simp [e]
            rw [e2] at hK
            refine W.ff (by rw [ha]; simp [e]) (W.pure ?_)
            refine At.turn (tB ⟨r.2.last, r.2.ses, T1.b.subs, T1.b.kept, T1.b.conns⟩ T1) so4 sp4 q4 ?_
            exact (hK ()).sub
          · have e2 : dropO (some s) r.1.1 T1.b.subs = dropL s.id T1.b.subs := by unfold dropO; simp [e]
            rw [e2] at hK
            refine W.tt (by rw [ha]; simp [e]) ?_
            refine W.nonnil ?_
            refine W.load (v := some ⟨b, 0, none⟩) ?_
            refine W.nonnil ?_
            refine W.load ?_
            refine W.load (v := s.id) ?_
            refine W.call1 (trDrop_w (t := q4.sb) (E := T1.b.subs) (id := s.id) ht hk1.subs (At.un (W.pure ?_)))
            refine At.turn (tB ⟨r.2.last, r.2.ses, dropL s.id T1.b.subs, T1.b.kept, T1.b.conns⟩ T1) so4 sp4 q4 ?_
            exact (hK ()).sub
      clear ha
      generalize dropO (ofS (p.2.2.2.2.2.2.2.2.2.2.1) T.b.ses) r.1.1 T1.b.subs = E5 at hq hjok ⊢
      refine W.nonnil ?_
      refine W.opn3 (fun h R => q_ak) fun so5 sp5 q5 => ?_
      refine W.load (v := some ⟨b, 0, none⟩) ?_
      refine W.nonnil ?_
      refine W.load (v := some q5.cm) ?_
      refine W.load (v := p.2.2.2.2.2.2.2.2.2.2.2.2.2.1) ?_
      refine W.loadx (b := x1) (i := 14) (v := p.2.2.2.2.2.2.2.2.2.2.2.2.2.2.1) ?_
      refine W.loadx (b := x1) (i := 15) (v := p.2.2.2.2.2.2.2.2.2.2.2.2.2.2.2.1) ?_
      refine W.loadx (b := x1) (i := 16) (v := p.2.2.2.2.2.2.2.2.2.2.2.2.2.2.2.2.1) ?_
      refine W.loadx (b := x1) (i := 17) (v := p.2.2.2.2.2.2.2.2.2.2.2.2.2.2.2.2.2.1) ?_
      refine W.mset (ek := eKI) (ev := eVC) (l := T1.b.conns.map connE) kKI (fun a b h => by cases h; rfl) c (connT ⟨c, r.1.1, p.2.2.2.2.2.2.2.2.2.2.2.2.2.1, (p.2.2.2.2.2.2.2.2.2.2.2.2.2.2.1, p.2.2.2.2.2.2.2.2.2.2.2.2.2.2.2.1, p.2.2.2.2.2.2.2.2.2.2.2.2.2.2.2.2.1, p.2.2.2.2.2.2.2.2.2.2.2.2.2.2.2.2.2.1, e0S)⟩) ?_
      rw [q_d0 _ _ _ (by rw [q_d2, hnc1]; rfl), show T1.b.conns.map connE ++ [(c, connT (⟨c, r.1.1, p.2.2.2.2.2.2.2.2.2.2.2.2.2.1, (p.2.2.2.2.2.2.2.2.2.2.2.2.2.2.1, p.2.2.2.2.2.2.2.2.2.2.2.2.2.2.2.1, p.2.2.2.2.2.2.2.2.2.2.2.2.2.2.2.2.1, p.2.2.2.2.2.2.2.2.2.2.2.2.2.2.2.2.2.1, e0S)⟩ : ConnS))] = (T1.b.conns ++ [(⟨c, r.1.1, p.2.2.2.2.2.2.2.2.2.2.2.2.2.1, (p.2.2.2.2.2.2.2.2.2.2.2.2.2.2.1, p.2.2.2.2.2.2.2.2.2.2.2.2.2.2.2.1, p.2.2.2.2.2.2.2.2.2.2.2.2.2.2.2.2.1, p.2.2.2.2.2.2.2.2.2.2.2.2.2.2.2.2.2.1, e0S)⟩ : ConnS)]).map connE from by rw [List.map_append]; rfl]
      generalize T1.b.conns ++ [(⟨c, r.1.1, p.2.2.2.2.2.2.2.2.2.2.2.2.2.1, (p.2.2.2.2.2.2.2.2.2.2.2.2.2.2.1, p.2.2.2.2.2.2.2.2.2.2.2.2.2.2.2.1, p.2.2.2.2.2.2.2.2.2.2.2.2.2.2.2.2.1, p.2.2.2.2.2.2.2.2.2.2.2.2.2.2.2.2.2.1, e0S)⟩ : ConnS)] = C5 at hq hjok ⊢
      refine W.turn (tB ⟨r.2.last, r.2.ses, E5, T1.b.kept, C5⟩ T1) so5 sp5 q5 ?_
      refine W.pk0 (k := .u8) (ackSe r.1.2) rfl rfl ?_
      refine W.callN (send_w (T := tB ⟨r.2.last, r.2.ses, E5, T1.b.kept, C5⟩ T1) (c := c) (o := ackSe r.1.2) (ci := ⟨none, 0, 0⟩) (pi := ⟨none, 0, 0⟩) (by show T1.outs.length ≤ _; omega) (At.unN ?_))
      have hT4 : sendB ⟨c, ackSe r.1.2, false⟩ (tB ⟨r.2.last, r.2.ses, E5, T1.b.kept, C5⟩ T1) = (⟨⟨r.2.last, r.2.ses, E5, T1.b.kept, C5⟩, T1.outs ++ [⟨c, ackSe r.1.2, false⟩], T1.pubs⟩ : TurnS) := rfl
      rw [hT4] at hq
      show W (turnA t b full ⟨⟨r.2.last, r.2.ses, E5, T1.b.kept, C5⟩, T1.outs ++ [⟨c, ackSe r.1.2, false⟩], T1.pubs⟩ :: _) _ _
      have hO : (T1.outs ++ [(⟨c, ackSe r.1.2, false⟩ : OutO)]).length ≤ 13300002 := by rw [List.length_append]; simp only [List.length_cons, List.length_nil]; omega
      generalize T1.outs ++ [(⟨c, ackSe r.1.2, false⟩ : OutO)] = O5 at hq hO ⊢
      clear hT4
      unfold outOp at hq
      simp only [getS_of hjok.nd hs5 hid5] at hq
      refine W.load (v := pProps p) ?_
      refine W.callN (find_w (S := pProps p) (pl := pl) (id := 33) hpl (At.unN (x := (prU ((findP 33 pl).getD (0, 0, e0S, e0S)), (findP 33 pl).isSome, ())) ?_))
      refine W.newc fun x82 => ?_
      refine W.storeN ?_
      refine W.cutx (X := PropT) (fun z _ => z.2.1 = mostP pl) (fun z _ => turnA t b full ⟨⟨r.2.last, r.2.ses, E5, T1.b.kept, C5⟩, O5, T1.pubs⟩ :: cells x82 (encPr z).toArray :: old h0 :: L3) (fun K hK => ?_) (fun z _ hz => ?_)
      · unfold mostP at hK
        clear hq
        cases hf : findP 33 pl with
        | none =>
          rw [hf] at hK
          refine W.tt rfl ?_
          refine W.store (cs' := (encPr (0, 64, e0S, e0S)).toArray) ?_
          exact W.pure (hK (0, 64, e0S, e0S) _ rfl).sub
        | some z =>
          rw [hf] at hK
          refine W.ff rfl ?_
          refine W.cells (b := x82) (encPr z).toArray ?_
          exact W.pure (hK z _ rfl).sub
      obtain ⟨z1, z2, z3, z4⟩ := z
      simp only at hz
      subst hz
      refine W.nonnil ?_
      refine W.opn3 (fun h R => q_ak) fun so6 sp6 q6 => ?_
      refine W.load (v := some ⟨b, 0, none⟩) ?_
      refine W.nonnil ?_
      refine W.load (v := some ⟨q6.tb, 0, none⟩) ?_
      refine W.load (v := mostP pl) ?_
      refine W.opn2 (fun h R => q_hh hs5 h R) fun ob ib => ?_
      refine W.call1 (Out_w2 hid5 (At.un ?_))
      refine W.load (v := mostP pl) ?_
      refine W.req ?_ rfl
      have hfo := beginF_ok (hjok.flow s5 hs5) (mostP pl)
      refine W.call1 (obegin_w (b := ob) (o := s5.out) (most := mostP pl) (hjok.flow s5 hs5) (fun S2 => At.un (x := S2) ?_))
      refine W.cls3 (A := tabB q6.tb r.2.last (setS r.1.1 (setOut (beginF s5.out (mostP pl)).1) r.2.ses)) (fun h hs => q_ia hjok.nd hs5 hid5 h hs) ?_
      refine W.turn (tSes (setS r.1.1 (setOut (beginF s5.out (mostP pl)).1) r.2.ses) ⟨⟨r.2.last, r.2.ses, E5, T1.b.kept, C5⟩, O5, T1.pubs⟩) so6 sp6 q6 ?_
      refine W.callN (q_dy (T := tSes (setS r.1.1 (setOut (beginF s5.out (mostP pl)).1) r.2.ses) ⟨⟨r.2.last, r.2.ses, E5, T1.b.kept, C5⟩, O5, T1.pubs⟩) (id := r.1.1) (ps := (beginF s5.out (mostP pl)).2) (hjok.one r.1.1) (by have := hfo.2; show O5.length + _ ≤ _; omega) (At.unN ?_))
      exact W.pure hq.sub
    · refine W.tt (by simp [hcode]) ?_
      rw [if_pos (by rw [← hr]; exact hcode), ← hr] at hq
      refine W.pk0 (k := .u8) (ackO 2 0 code) rfl rfl ?_
      refine W.callN (close_w (T := T) (c := c) (o := ackO 2 0 code) (ci := ⟨none, 0, 0⟩) (pi := ⟨none, 0, 0⟩) (by omega) (At.unN ?_))
      exact W.pure hq.sub
end Go.Proofs.YtidlldnlphdhcaaGreatDoor
namespace Go.Proofs.YtidlldnlphdhcaaGreatDoor
open Go.H Go.Proofs
set_option linter.unusedSimpArgs false
set_option linter.unusedVariables false
structure Step (T T' : TurnS) (n m : Nat) : Prop where
  ok : BrkOK T'.b n
  outs : T'.outs.length ≤ T.outs.length + m
  pubs : T'.pubs.length ≤ T.pubs.length + m
theorem Step.trans {T T' T'' : TurnS} {n n' m m' : Nat} (h : Step T T' n m) (h' : Step T' T'' n' m') : Step T T'' n' (m + m') := ⟨h'.ok, by have := h.outs; have := h'.outs; omega, by have := h.pubs; have := h'.pubs; omega⟩
theorem Step.mono {T T' : TurnS} {n m m' : Nat} (h : Step T T' n m) (hm : m ≤ m') : Step T T' n m' := ⟨h.ok, by have := h.outs; omega, by have := h.pubs; omega⟩
theorem Step.refl {T : TurnS} {n : Nat} (h : BrkOK T.b n) : Step T T n 0 := ⟨h, Nat.le_refl _, Nat.le_refl _⟩
theorem Beside.step {T T' : TurnS} {n m : Nat} (h : BrkOK T.b n) (hb : Beside T T' m) (hk : T'.b.ses.map keyS = T.b.ses.map keyS) : Step T T' n m := ⟨h.sub hb.ok hb.last (by rw [hk]; exact List.Sublist.refl _) (by rw [hb.subs]; exact List.Sublist.refl _), hb.outs, hb.pubs⟩
theorem BrkOK.mono {B : BrkS} {n n' : Nat} (h : BrkOK B n) (hn : n ≤ n') : BrkOK B n' := { h with lastn := by have := h.lastn; omega }
theorem step_end {full : Bool} {c : Int} {w : Bool} {T : TurnS} {n : Nat} (h : BrkOK T.b n) : Step T (endB full c w T) n 3200000 :=
  let r := endB_ok (full := full) (c := c) (w := w) h.toBrkH
  ⟨h.sub r.1 r.2.2.2.2 endB_key endB_subs, r.2.1, r.2.2.1⟩
theorem q_ft {full : Bool} {c code : Int} {T : TurnS} {n : Nat} (h : BrkOK T.b n) : Step T (refuseB full c code T) n 3200001 :=
  let r := refuseB_ok (full := full) (c := c) (code := code) h.toBrkH
  ⟨h.sub r.1 r.2.2.2.2 (endB_key (T := sendB ⟨c, ackO 14 0 code, true⟩ T)) (endB_subs (T := sendB ⟨c, ackO 14 0 code, true⟩ T)), r.2.1, r.2.2.1⟩
theorem q_hi {o : OutO} {T : TurnS} {n : Nat} (h : BrkOK T.b n) : Step T (sendB o T) n 1 := ⟨h, by show (T.outs ++ [o]).length ≤ _; rw [List.length_append]; exact Nat.le_refl _, Nat.le_add_right _ _⟩
theorem step_sendAll {id : Int} {ps : List PkO} {T : TurnS} {n m : Nat} (h : BrkOK T.b n) (hm : ps.length ≤ m) : Step T (sendAllB id ps T) n m := ⟨h, by show (T.outs ++ toSes T.b.conns id ps).length ≤ _; rw [List.length_append]; have := toSes_len ps (h.one id); omega, Nat.le_add_right _ _⟩
theorem step_publish {m : MsT} {T : TurnS} {n : Nat} (h : BrkOK T.b n) : Step T (publishB m T) n 3200000 := (publishB_ok (m := m) h.toBrkH).step h handB_key
theorem step_inn {k : Int} {i : PoolS} {T : TurnS} {n : Nat} (h : BrkOK T.b n) : Step T (tSes (setS k (setInn i) T.b.ses) T) n 0 :=
  ⟨h.sub h.toBrkH.setI rfl (by
    show ((setS k (setInn i) T.b.ses).map keyS).Sublist _
    rw [setS_key (f := setInn i) fun _ => rfl]; exact List.Sublist.refl _) (List.Sublist.refl _), Nat.le_refl _, Nat.le_refl _⟩
theorem step_out {id : Int} {f : OutS → OutS × List PkO} {T : TurnS} {n : Nat} (h : BrkOK T.b n) (hf : ∀ o, FlowOK o → FlowOK (f o).1 ∧ (f o).2.length ≤ 320) : Step T (outOp id f T) n 320 := (outOp_ok (id := id) h.toBrkH hf).step h outOp_key
theorem step_take {full : Bool} {x : ConnS} {p : PkI} {T : TurnS} {n : Nat} (h : BrkOK T.b n) : Step T (takeB full x p T) n 3200002 := by
  unfold takeB
  split
  · exact (q_ft h).mono (by omega)
  · split
    · exact (Step.refl h).mono (by omega)
    · rename_i s hs
      simp only
      generalize takeR s.inn p.kind p.qos p.id (if full = true then 151 else 0) = r
      have h1 := step_inn (k := x.ses) (i := ⟨s.inn.most, s.inn.taken, r.2.2.2⟩) h
      split
      · exact Step.mono (m' := 3200002) (h1.trans (q_ft h1.ok)) (by omega)
      · have hal : (ackL r.2.1 p.id).length ≤ 1 := by unfold ackL; split <;> simp
        have h2 := h1.trans (step_sendAll (id := x.ses) (ps := ackL r.2.1 p.id) h1.ok hal)
        split
        · exact Step.mono (m' := 3200002) (h2.trans (step_publish h2.ok)) (by omega)
        · exact Step.mono (m' := 3200002) h2 (by omega)
theorem step_answer {full : Bool} {x : ConnS} {p : PkI} {T : TurnS} {n : Nat} (h : BrkOK T.b n) : Step T (answerB full x p T) n 3200002 := by
  unfold answerB
  split
  · exact (Step.refl h).mono (by omega)
  · split
    · exact (q_ft h).mono (by omega)
    · exact (step_out h fun o ho => ⟨(ansF_ok ho _ _ _).1, by have := (ansF_ok ho p.kind p.id p.code).2; omega⟩).mono (by omega)
theorem addE_cnt {E : List Ent} {id q : Int} {f : ByteArray} (h : ∀ i, cntL E i ≤ 64) (i : Int) : cntL (addE E id f q).2 i ≤ 64 := by
  unfold addE
  split
  · exact h i
  · split
    · exact h i
    · split
      · rename_i j hj
        have hj' := List.findIdx?_eq_some_iff_getElem.1 hj
        obtain ⟨hlt, hp, _⟩ := hj'
        have hk : keyE E[j] = (id, f) := by simpa using hp
        have hk1 : E[j].1 = id := congrArg Prod.fst hk
        have e : (E.set j (id, f, q)).map (·.1) = E.map (·.1) := by
          rw [List.map_set]
          refine List.ext_getElem? fun k => ?_
          rw [List.getElem?_set]
          split
          · rename_i hjk
            subst hjk
            rw [if_pos (by simpa using hlt), List.getElem?_map, List.getElem?_eq_getElem hlt, Option.map_some, hk1]
          · rfl
        unfold cntL
        simp only [e]
        exact h i
      · split
        · exact h i
        · rename_i hlt
          have hp := ((q_c4 ltK keyE (id, f, q) E).map (·.1)).count_eq i
          unfold cntL at h hlt ⊢
          rw [hp, List.map_cons, List.count_cons]
          by_cases e : id = i
          · subst e
            simp only [beq_self_eq_true, if_true]
            omega
          · rw [if_neg (by simpa using e)]
            exact h i
theorem addAll_cnt {id : Int} : ∀ (l : List SubT) {E : List Ent}, (∀ i, cntL E i ≤ 64) → ∀ i, cntL (addAll id l E).1 i ≤ 64
  | [], _, h => h
  | s :: l, E, h => addAll_cnt (id := id) l (fun i => addE_cnt h i)
theorem delAll_sub {id : Int} : ∀ (l : List ByteArray) {E : List Ent}, (delAll id l E).1.Sublist E
  | [], _ => List.Sublist.refl _
  | f :: l, E => (delAll_sub (id := id) l (E := delL E id f)).trans List.filter_sublist
theorem step_subscribe {x : ConnS} {p : PkI} {T : TurnS} {n : Nat} (h : BrkOK T.b n) (hx : x ∈ T.b.conns) (hk : T.b.kept.length ≤ 64) (hl : p.subs.length ≤ 100) : Step T (subscribeB x p T) n 3000000 := by
  have h2k := h.s2k
  have hal := addAll_len (id := x.ses) p.subs (E := T.b.subs)
  have hH : BrkH (bSubs (addAll x.ses p.subs T.b.subs).1 T.b) := h.toBrkH.addS (by have := hal.1; omega) fun e he => by
    rcases hal.2.1 e he with h1 | h1
    · exact .inl h1
    · obtain ⟨s, hs, hi⟩ := h.cl x hx
      exact .inr ⟨s, hs, hi.trans h1.symm⟩
  have h1 : BrkOK (bSubs (addAll x.ses p.subs T.b.subs).1 T.b) n := { hH with last0 := h.last0, lastn := h.lastn, rng := h.rng, asc := h.asc, cnd := h.cnd, n32 := h.n32, cnt := addAll_cnt p.subs h.cnt }
  have h3 : Step T (tSubs (addAll x.ses p.subs T.b.subs).1 T) n 0 := ⟨h1, Nat.le_refl _, Nat.le_refl _⟩
  have h4 := h3.trans (q_hi (o := ⟨x.c, ackCs 9 p.id (addAll x.ses p.subs T.b.subs).2, false⟩) h3.ok)
  have h5 := foldSub_ok (id := x.ses) (added x.ses p.subs T.b.subs) (T := sendB ⟨x.c, ackCs 9 p.id (addAll x.ses p.subs T.b.subs).2, false⟩ (tSubs (addAll x.ses p.subs T.b.subs).1 T)) hk hH
  have h6 := h5.step h4.ok (fold_key (g := keptSub x.ses) (fun T s => keptSub_key T s) _)
  refine (h4.trans h6).mono ?_
  have := hal.2.2.2
  omega
theorem step_unsubscribe {x : ConnS} {p : PkI} {T : TurnS} {n : Nat} (h : BrkOK T.b n) : Step T (unsubscribeB x p T) n 1 := by
  have hs := delAll_sub (id := x.ses) p.filters (E := T.b.subs)
  have hH : BrkH (bSubs (delAll x.ses p.filters T.b.subs).1 T.b) := h.toBrkH.addS (Nat.le_trans hs.length_le h.subs) fun e he => .inl (hs.subset he)
  have h3 : Step T (tSubs (delAll x.ses p.filters T.b.subs).1 T) n 0 := ⟨h.sub hH rfl (List.Sublist.refl _) hs, Nat.le_refl _, Nat.le_refl _⟩
  exact (h3.trans (q_hi h3.ok)).mono (by omega)
theorem step_one {full : Bool} {x : ConnS} {p : PkI} {T : TurnS} {n : Nat} (h : BrkOK T.b n) (hx : x ∈ T.b.conns) (hk : T.b.kept.length ≤ 64) (hl : p.subs.length ≤ 100) : Step T (oneB full x p T) n 3300000 := by
  unfold oneB
  split
  · exact (step_take h).mono (by omega)
  · split
    · exact (step_answer h).mono (by omega)
    · split
      · exact (step_subscribe h hx hk hl).mono (by omega)
      · split
        · exact (step_unsubscribe h).mono (by omega)
        · split
          · exact (q_hi h).mono (by omega)
          · split
            · exact (step_end h).mono (by omega)
            · exact (q_ft h).mono (by omega)
theorem beginB_same {client : ByteArray} {clean keep : Bool} {B : BrkS} : (beginB client clean keep B).2.subs = B.subs ∧ (beginB client clean keep B).2.kept = B.kept ∧ (beginB client clean keep B).2.conns = B.conns := by
  unfold beginB
  split
  · split <;> exact ⟨rfl, rfl, rfl⟩
  · exact ⟨rfl, rfl, rfl⟩
theorem barB_zero {p : PkI} {B : BrkS} (h : barB p B = 0) : goodName p.client ∧ (ofS p.client B.ses = none → B.ses.length < 32) := by
  unfold barB at h
  split at h
  · cases h
  · split at h
    · cases h
    · split at h
      · cases h
      · rename_i hg
        split at h
        · cases h
        · rename_i h32
          exact ⟨Classical.byContradiction hg, fun ho => Nat.lt_of_not_le fun h => h32 ⟨ho, h⟩⟩
theorem step_connect {full : Bool} {c : Int} {p : PkI} {T : TurnS} {n : Nat} (h : BrkOK T.b n) (hcn : (T.b.conns.map (·.c)).Nodup) (hw : p.will.1.size ≤ 9223372036854775807) (hci : -9223372036854775808 ≤ c ∧ c ≤ 9223372036854775807) : Step T (connectB full c p T) (n + 1) 3300000 := by
  unfold connectB
  by_cases hb : barB p T.b = 0
  · rw [if_neg (by simpa using hb), joinB'_eq]
    have hbar := barB_zero hb
    obtain ⟨hk1, hk2, hk3, hk4, hk5, hk6⟩ := kickT_ok (full := full) (c := p.client) h hcn hbar.2
    generalize kickT full p.client T = T1 at *
    obtain ⟨hbs, hbk, hbc⟩ := beginB_same (B := T1.b) (client := p.client) (clean := p.clean) (keep := keepP p.props)
    obtain ⟨hjok, _⟩ := begin_ok (B := T1.b) (o := ofS p.client T.b.ses) (client := p.client) (clean := p.clean) (keep := keepP p.props) (x := ⟨c, (beginB p.client p.clean (keepP p.props) T1.b).1.1, p.hasWill, (p.will.1, p.will.2.1, p.will.2.2.1, p.will.2.2.2.1, e0S)⟩) hk1 hk6 (fun y hy s hs => (hk4 y hy).2 s hs) hk5 rfl ⟨hw, hci⟩
    rw [hbs, hbk, hbc]
    have h1 : Step T (tB ⟨(beginB p.client p.clean (keepP p.props) T1.b).2.last, (beginB p.client p.clean (keepP p.props) T1.b).2.ses, dropO (ofS p.client T.b.ses) (beginB p.client p.clean (keepP p.props) T1.b).1.1 T1.b.subs, T1.b.kept, T1.b.conns ++ [⟨c, (beginB p.client p.clean (keepP p.props) T1.b).1.1, p.hasWill, (p.will.1, p.will.2.1, p.will.2.2.1, p.will.2.2.2.1, e0S)⟩]⟩ T1) (n + 1) 3200001 := ⟨hjok, hk2, hk3⟩
    have h2 := h1.trans (q_hi (o := ⟨c, ackSe (beginB p.client p.clean (keepP p.props) T1.b).1.2, false⟩) h1.ok)
    exact (h2.trans (step_out h2.ok fun o ho => beginF_ok ho _)).mono (by omega)
  · rw [if_pos (by simpa using hb)]
    exact (q_hi (h.mono (Nat.le_succ n))).mono (by omega)
theorem q_id {full : Bool} {c : Int} {p : PkI} {B : BrkS} {n : Nat} (h : BrkOK B n) (hcn : (B.conns.map (·.c)).Nodup) (hk : B.kept.length ≤ 64) (hl : p.subs.length ≤ 100) (hw : p.will.1.size ≤ 9223372036854775807) (hci : -9223372036854775808 ≤ c ∧ c ≤ 9223372036854775807) :
    BrkOK (packetB full c p B).b (n + 1) ∧ (packetB full c p B).outs.length ≤ 3300000 ∧ (packetB full c p B).pubs.length ≤ 3300000 := by
  have key : ∀ {T' : TurnS}, Step ⟨B, [], []⟩ T' (n + 1) 3300000 → BrkOK T'.b (n + 1) ∧ T'.outs.length ≤ 3300000 ∧ T'.pubs.length ≤ 3300000 := fun {T'} hs => ⟨hs.ok, by have := hs.outs; simpa using this, by have := hs.pubs; simpa using this⟩
  unfold packetB
  split
  · rename_i x hx
    have := step_one (full := full) (x := x) (p := p) (T := ⟨B, [], []⟩) h (q_d8 hx).1 hk hl
    exact key ⟨this.ok.mono (Nat.le_succ n), this.outs, this.pubs⟩
  · split
    · exact key (step_connect (T := ⟨B, [], []⟩) h hcn hw hci)
    · exact ⟨h.mono (Nat.le_succ n), by simp, by simp⟩
theorem BrkOK.new : BrkOK ⟨0, [], [], [], []⟩ 0 where
  subs := by simp
  flow := by simp
  live := by simp
  one := by simp
  nd := by simp
  cl := by simp
  onl := by simp
  wl := by simp
  last0 := by simp
  lastn := by simp
  rng := by simp
  asc := by simp
  cnd := by simp
  n32 := by simp
  cnt := by simp [cntL]
end Go.Proofs.YtidlldnlphdhcaaGreatDoor
namespace Go.Proofs.YtidlldnlphdhcaaGreatDoor
open Go.H Go.Proofs
set_option linter.unusedSimpArgs false
set_option linter.unusedVariables false
set_option maxRecDepth 100000
variable {h h0 : Heap} {L L' L1 L2 L3 L4 L5 R : List Asn} {Q : Value → Heap → Prop}
structure PkOK (p : Pk) (pl : List PropT) (sl : List SubT) (fl : List ByteArray) : Prop where
  topic : p.2.2.2.2.2.1.size ≤ 9223372036854775807
  client : (p.2.2.2.2.2.2.2.2.2.2.1).size ≤ 9223372036854775807
  will : (p.2.2.2.2.2.2.2.2.2.2.2.2.2.2.1).size ≤ 9223372036854775807
  props : pl.length ≤ 100
  subs : sl.length ≤ 100
  sub : ∀ s ∈ sl, s.1.size ≤ 9223372036854775807
  fils : fl.length ≤ 100
  fil : ∀ f ∈ fl, f.size ≤ 16777216
theorem packet_w {t b n : Nat} {full : Bool} {T : TurnS} {x : ConnS} {p : Pk} {pl : List PropT} {sl : List SubT} {fl : List ByteArray} (ht : TP h0) (hok : BrkOK T.b n) (hc : getC x.c T.b.conns = some x) (hb : T.outs.length ≤ 10000000) (hp : T.pubs.length ≤ 100000000) (hpk : PkOK p pl sl fl)
    (hq : At (turnA t b full (oneB full x (pkI p pl sl fl) T) :: old h0 :: L4) (Q (.tuple #[]))) (hx : Has L (turnA t b full T) L1 := by repeat (first | with_reducible exact Go.H.has0 | apply Go.H.hasS)) (hy : Has L1 (old h0) L2 := by repeat (first | with_reducible exact Go.H.has0 | apply Go.H.hasS)) (hz : Has L2 (ownS encSb 5 (pSubs p) sl) L3 := by repeat (first | with_reducible exact Go.H.has0 | apply Go.H.hasS)) (hw : Has L3 (ownS encS1 1 (pFil p) fl) L4 := by repeat (first | with_reducible exact Go.H.has0 | apply Go.H.hasS)) :
    FW Tryz.prog 32 #[at0 t, .int .i64 x.c, vPkK .u8 p] L Q := by
  refine fun h hs => q_fj (some ⟨t, 0, none⟩) x.c p h Q ((?_ : W (turnA t b full T :: old h0 :: ownS encSb 5 (pSubs p) sl :: ownS encS1 1 (pFil p) fl :: L4) _ _) h ((hx.then4 hy hz hw).s hs))
  clear hs h hx hy hz hw
  have h2k := hok.s2k
  obtain ⟨T9, hT9⟩ : ∃ T9, T9 = oneB full x (pkI p pl sl fl) T := ⟨_, rfl⟩
  rw [← hT9] at hq
  unfold oneB at hT9
  dsimp only at hT9
  unfold q_ce
  refine W.newc fun x1 => ?_
  refine W.fact (own_len' (enc := encSb) (size := 5) (s := pSubs p) (xs := sl)) fun hsl => ?_
  refine W.fact (own_len' (enc := encS1) (size := 1) (s := pFil p) (xs := fl)) fun hfl => ?_
  refine W.cutk (fun r => r.1 = decide (1 ≤ p.2.2.2.2.1 ∧ p.2.2.2.2.1 ≤ 65535)) (fun K hK => ?_) (fun r hnum => ?_)
  · refine W.load (v := p.2.2.2.2.1) ?_
    refine W.ite (fun h1 => ?_) (fun h1 => ?_)
    · refine W.load (v := p.2.2.2.2.1) ?_
      refine W.pure (hK _ ?_)
      simp only [decide_eq_true_eq] at h1
      simp [h1]
    · refine W.pure (hK _ ?_)
      simp only [decide_eq_false_iff_not] at h1
      simp [h1]
  refine W.cutk (fun r => r.1 = decide (p.1 = 3 ∨ p.1 = 6)) (fun K hK => ?_) (fun r1 hr1 => ?_)
  · refine W.load (v := p.1) ?_
    refine W.ite (fun g0 => W.pure (hK _ ?_)) (fun g0 => ?_)
    · simp only [beq_iff_eq] at g0; simp [g0]
    refine W.load (v := p.1) ?_
    refine W.pure (hK _ ?_)
    simp only [beq_eq_false_iff_ne, ne_eq] at g0
    by_cases e : p.1 = 6
    · simp [e]
    · simp [e, g0]
  refine W.cut (fun _ => turnA t b full T9 :: old h0 :: L4) (fun K0 hK0 => ?_) (fun _ => W.pure hq.sub)
  by_cases hk : p.1 = 3 ∨ p.1 = 6
  · rw [if_pos hk] at hT9
    subst hT9
    refine W.tt (by rw [hr1]; exact decide_eq_true hk) ?_
    refine W.loadN (v := p) ?_
    refine W.callN (take_w (T := T) (x := x) (p := p) (pl := pl) (sl := sl) (fl := fl) ht hok.toBrkH hc (by omega) (by omega) hpk.topic (At.unN ?_))
    exact W.pure (hK0 ()).sub
  rw [if_neg hk] at hT9
  refine W.ff (by rw [hr1]; exact decide_eq_false hk) ?_
  clear hr1 hk
  refine W.cutk (fun r => r.1 = decide (p.1 = 4 ∨ p.1 = 5 ∨ p.1 = 7)) (fun K hK => ?_) (fun r2 hr2 => ?_)
  · refine W.load (v := p.1) ?_
    refine W.ite (fun g0 => W.pure (hK _ ?_)) (fun g0 => ?_)
    · simp only [beq_iff_eq] at g0; simp [g0]
    refine W.load (v := p.1) ?_
    refine W.ite (fun g1 => W.pure (hK _ ?_)) (fun g1 => ?_)
    · simp only [beq_iff_eq] at g1; simp [g1]
    refine W.load (v := p.1) ?_
    refine W.pure (hK _ ?_)
    simp only [beq_eq_false_iff_ne, ne_eq] at g0; simp only [beq_eq_false_iff_ne, ne_eq] at g1
    by_cases e : p.1 = 7
    · simp [e]
    · simp [e, g0, g1]
  refine W.cut (fun _ => turnA t b full T9 :: old h0 :: L4) (fun K1 hK1 => ?_) (fun _ => W.pure (hK0 ()).sub)
  by_cases hk : p.1 = 4 ∨ p.1 = 5 ∨ p.1 = 7
  · rw [if_pos hk] at hT9
    subst hT9
    refine W.tt (by rw [hr2]; exact decide_eq_true hk) ?_
    refine W.loadN (v := p) ?_
    refine W.callN (answer_w (T := T) (x := x) (p := p) (pl := pl) (sl := sl) (fl := fl) ht hok.toBrkH hc (by omega) (by omega) (At.unN ?_))
    exact W.pure (hK1 ()).sub
  rw [if_neg hk] at hT9
  refine W.ff (by rw [hr2]; exact decide_eq_false hk) ?_
  clear hr2 hk
  refine W.cutk (fun r => r.1 = decide (p.1 = 8 ∧ 1 ≤ p.2.2.2.2.1 ∧ p.2.2.2.2.1 ≤ 65535 ∧ sl ≠ [])) (fun K hK => ?_) (fun r3 hr3 => ?_)
  · refine W.load (v := p.1) ?_
    refine W.ite (fun g0 => ?_) (fun g0 => W.pure (hK _ ?_))
    · simp only [beq_iff_eq] at g0
      refine W.ite (fun g1 => ?_) (fun g1 => W.pure (hK _ ?_))
      · rw [hnum] at g1
        refine W.load (v := pSubs p) ?_
        refine W.pure (hK _ ?_)
        have g1 := of_decide_eq_true g1
        cases sl with
        | nil => simp [hsl]
        | cons a l => simp [hsl, g0, g1]
      · rw [hnum] at g1
        have g1 := of_decide_eq_false g1
        exact (decide_eq_false fun e => g1 ⟨e.2.1, e.2.2.1⟩).symm
    · simp only [beq_eq_false_iff_ne, ne_eq] at g0
      exact (decide_eq_false fun e => g0 e.1).symm
  refine W.cut (fun _ => turnA t b full T9 :: old h0 :: L4) (fun K2 hK2 => ?_) (fun _ => W.pure (hK1 ()).sub)
  by_cases hk : p.1 = 8 ∧ 1 ≤ p.2.2.2.2.1 ∧ p.2.2.2.2.1 ≤ 65535 ∧ sl ≠ []
  · rw [if_pos hk] at hT9
    subst hT9
    refine W.tt (by rw [hr3]; exact decide_eq_true hk) ?_
    refine W.loadN (v := p) ?_
    refine W.callN (subscribe_w (T := T) (x := x) (p := p) (pl := pl) (sl := sl) (fl := fl) ht hok.toBrkH hc hb (by have := hpk.subs; omega) hpk.subs hpk.sub (At.unN ?_))
    exact W.pure (hK2 ()).sub
  rw [if_neg hk] at hT9
  refine W.ff (by rw [hr3]; exact decide_eq_false hk) ?_
  clear hr3 hk
  refine W.cutk (fun r => r.1 = decide (p.1 = 10 ∧ 1 ≤ p.2.2.2.2.1 ∧ p.2.2.2.2.1 ≤ 65535 ∧ fl ≠ [])) (fun K hK => ?_) (fun r4 hr4 => ?_)
  · refine W.load (v := p.1) ?_
    refine W.ite (fun g0 => ?_) (fun g0 => W.pure (hK _ ?_))
    · simp only [beq_iff_eq] at g0
      refine W.ite (fun g1 => ?_) (fun g1 => W.pure (hK _ ?_))
      · rw [hnum] at g1
        refine W.load (v := pFil p) ?_
        refine W.pure (hK _ ?_)
        have g1 := of_decide_eq_true g1
        cases fl with
        | nil => simp [hfl]
        | cons a l => simp [hfl, g0, g1]
      · rw [hnum] at g1
        have g1 := of_decide_eq_false g1
        exact (decide_eq_false fun e => g1 ⟨e.2.1, e.2.2.1⟩).symm
    · simp only [beq_eq_false_iff_ne, ne_eq] at g0
      exact (decide_eq_false fun e => g0 e.1).symm
  refine W.cut (fun _ => turnA t b full T9 :: old h0 :: L4) (fun K3 hK3 => ?_) (fun _ => W.pure (hK2 ()).sub)
  by_cases hk : p.1 = 10 ∧ 1 ≤ p.2.2.2.2.1 ∧ p.2.2.2.2.1 ≤ 65535 ∧ fl ≠ []
  · rw [if_pos hk] at hT9
    subst hT9
    refine W.tt (by rw [hr4]; exact decide_eq_true hk) ?_
    refine W.loadN (v := p) ?_
    refine W.callN (unsubscribe_w (T := T) (x := x) (p := p) (pl := pl) (sl := sl) (fl := fl) ht hok.toBrkH hc hb hpk.fils hpk.fil (At.unN ?_))
    exact W.pure (hK3 ()).sub
  rw [if_neg hk] at hT9
  refine W.ff (by rw [hr4]; exact decide_eq_false hk) ?_
  clear hr4 hk
  refine W.load (v := p.1) ?_
  refine W.cut (fun _ => turnA t b full T9 :: old h0 :: L4) (fun K4 hK4 => ?_) (fun _ => W.pure (hK3 ()).sub)
  by_cases hk : p.1 = 12
  · rw [if_pos hk] at hT9
    subst hT9
    refine W.tt (by simpa using hk) ?_
    refine W.pk0 (k := .u8) (ackO 13 0 0) rfl rfl ?_
    refine W.callN (send_w (T := T) (c := x.c) (o := ackO 13 0 0) (ci := ⟨none, 0, 0⟩) (pi := ⟨none, 0, 0⟩) (by omega) (At.unN ?_))
    exact W.pure (hK4 ()).sub
  rw [if_neg hk] at hT9
  refine W.ff (by simpa using hk) ?_
  clear hk
  refine W.load (v := p.1) ?_
  refine W.cut (fun _ => turnA t b full T9 :: old h0 :: L4) (fun K5 hK5 => ?_) (fun _ => W.pure (hK4 ()).sub)
  by_cases hk : p.1 = 14
  · rw [if_pos hk] at hT9
    subst hT9
    refine W.tt (by simpa using hk) ?_
    refine W.load (v := p.2.2.2.2.2.2.2.1) ?_
    have e : (p.2.2.2.2.2.2.2.1 == 4) = decide (p.2.2.2.2.2.2.2.1 = 4) := rfl
    refine W.callN (end_w (T := T) (c := x.c) (will := p.2.2.2.2.2.2.2.1 == 4) ht hok.toBrkH (by omega) (by omega) (At.unN ?_))
    rw [e]
    exact W.pure (hK5 ()).sub
  rw [if_neg hk] at hT9
  subst hT9
  refine W.ff (by simpa using hk) ?_
  refine W.callN (refuse_w (T := T) (c := x.c) (code := 130) ht hok.toBrkH (by omega) (by omega) (At.unN ?_))
  exact W.pure (hK5 ()).sub
theorem W.turn0 {α : Type} {m : HM α} {Q' : α → Heap → Prop} {t b : Nat} {full : Bool} {B : BrkS} (hw : W (turnA t b full ⟨B, [], []⟩ :: L2) m Q') (hx : Has L (cells t #[at0 b, .bool full, .slice none 0 0, .slice none 0 0]) L1 := by repeat (first | with_reducible exact Go.H.has0 | apply Go.H.hasS)) (hy : Has L1 (brkA b B) L2 := by repeat (first | with_reducible exact Go.H.has0 | apply Go.H.hasS)) : W L m Q' := fun h hs =>
  hw h (q_bs.2 (q_ez.2 ⟨⟨none, 0, 0⟩, ⟨none, 0, 0⟩, ((outs_nil (q_a3 (enc := encM) (size := 5) ((hx.then hy).s hs))).re [2, 0, 1, 3])⟩))
theorem bNew_w (hq : ∀ b, At (brkA b ⟨0, [], [], [], []⟩ :: L) (Q (at0 b))) : FW Tryz.prog 9 #[] L Q := by
  refine fun h hs => broker_New_calls h Q ((?_ : W L _ _) h hs)
  clear hs h
  unfold broker_New
  refine W.call1 (sNew_w (fun b1 => At.un (x := some ⟨b1, 0, none⟩) ?_))
  refine W.call1 (trNew_w (fun b2 => At.un ?_))
  refine W.call1 (kNew_w (fun b3 => At.un ?_))
  refine W.newm (ek := eKI) (ev := eVC) fun b4 => ?_
  refine W.newc fun b5 => ?_
  refine W.cls5 (A := brkA b5 ⟨0, [], [], [], []⟩) (B := cells b5 (brkC ⟨b1, b2, b3, b4⟩)) (C := tabB b1 0 []) (D := trieA b2 []) (E := keptA b3 []) (F := mapA eKI eVC b4 []) (fun h hs => q_gm.2 ⟨⟨b1, b2, b3, b4⟩, hs⟩) ?_
  exact W.pure (hq b5).sub
theorem bPacket_w {b n : Nat} {full : Bool} {B : BrkS} {c : Int} {p : Pk} {pl : List PropT} {sl : List SubT} {fl : List ByteArray} (ht : TP h0) (hok : BrkOK B n) (hn : n ≤ 1000000) (hpk : PkOK p pl sl fl) (hci : -9223372036854775808 ≤ c ∧ c ≤ 9223372036854775807)
    (hq : ∀ so sp : Slc, At (outsA .u8 so (packetB full c (pkI p pl sl fl) B).outs :: ownS encM 5 sp (packetB full c (pkI p pl sl fl) B).pubs :: brkA b (packetB full c (pkI p pl sl fl) B).b :: old h0 :: L5) (Q (.agg #[.slice so.a so.len so.cap, .slice sp.a sp.len sp.cap])))
    (hx : Has L (brkA b B) L1 := by repeat (first | with_reducible exact Go.H.has0 | apply Go.H.hasS)) (hy : Has L1 (old h0) L2 := by repeat (first | with_reducible exact Go.H.has0 | apply Go.H.hasS)) (hz : Has L2 (ownS encSb 5 (pSubs p) sl) L3 := by repeat (first | with_reducible exact Go.H.has0 | apply Go.H.hasS)) (hw : Has L3 (ownS encS1 1 (pFil p) fl) L4 := by repeat (first | with_reducible exact Go.H.has0 | apply Go.H.hasS)) (hv : Has L4 (ownS encPr 4 (pProps p) pl) L5 := by repeat (first | with_reducible exact Go.H.has0 | apply Go.H.hasS)) :
    FW Tryz.prog 13 #[at0 b, .int .i64 c, vPkK .u8 p, .bool full] L Q := by
  refine fun h hs => q_br (some ⟨b, 0, none⟩) c p full h Q ((?_ : W (brkA b B :: old h0 :: ownS encSb 5 (pSubs p) sl :: ownS encS1 1 (pFil p) fl :: ownS encPr 4 (pProps p) pl :: L5) _ _) h ((hx.then5 hy hz hw hv).s hs))
  clear hs h hx hy hz hw hv
  obtain ⟨T9, hT9⟩ : ∃ T9, T9 = packetB full c (pkI p pl sl fl) B := ⟨_, rfl⟩
  rw [← hT9] at hq
  unfold packetB at hT9
  dsimp only at hT9
  unfold q_a4
  refine W.newc fun x1 => ?_
  refine W.newc fun x2 => ?_
  refine W.ff rfl ?_
  refine W.newc fun x4 => ?_
  refine W.nonnil ?_
  refine W.opn (fun h R => q_gm.1) fun q => ?_
  refine W.fact (fun h R hs => conn_nd (m := q.cm) (l := B.conns) hs) fun hcn => ?_
  refine W.load (v := some q.cm) ?_
  refine W.lookup (kind := .agg tC) kKI c ?_
  rw [q_d2]
  refine W.newc fun x8 => ?_
  refine W.storeN ?_
  refine W.cls5 (A := brkA b B) (B := cells b (brkC q)) (C := tabB q.tb B.last B.ses) (D := trieA q.sb B.subs) (E := keptA q.kb B.kept) (F := mapA eKI eVC q.cm (B.conns.map connE)) (fun h hs => q_gm.2 ⟨q, hs⟩) ?_
  refine W.turn0 (t := x4) (b := b) (full := full) (B := B) ?_
  refine W.cut (fun _ => turnA x4 b full T9 :: cells x2 #[.slice none 0 0, .slice none 0 0] :: old h0 :: L5) (fun K hK => ?_) (fun _ => ?_)
  · clear hq
    cases hg : getC c B.conns with
    | some x =>
      rw [hg] at hT9
      simp only at hT9
      subst hT9
      have hxc := (q_d8 hg).2
      subst hxc
      refine W.tt rfl ?_
      refine W.loadN (v := p) ?_
      refine W.callN (packet_w (T := ⟨B, [], []⟩) (x := x) (p := p) (pl := pl) (sl := sl) (fl := fl) ht hok hg (by simp) (by simp) hpk (At.unN ?_))
      exact W.pure (hK ()).sub
    | none =>
      rw [hg] at hT9
      simp only at hT9
      refine W.ff rfl ?_
      refine W.load (v := p.1) ?_
      refine W.cut (fun _ => turnA x4 b full T9 :: cells x2 #[.slice none 0 0, .slice none 0 0] :: old h0 :: L5) (fun K2 hK2 => ?_) (fun _ => W.pure (hK ()).sub)
      by_cases hk : p.1 = 1
      · rw [if_pos hk] at hT9
        subst hT9
        refine W.tt (by simpa using hk) ?_
        refine W.loadN (v := p) ?_
        refine W.callN (connect_w (T := ⟨B, [], []⟩) (c := c) (p := p) (pl := pl) (sl := sl) (fl := fl) ht hok hn hg hci (by simp) (by simp) hpk.client hpk.will (by have := hpk.props; omega) (At.unN ?_))
        exact W.pure (hK2 ()).sub
      · rw [if_neg hk] at hT9
        subst hT9
        refine W.ff (by simpa using hk) ?_
        refine W.pk0 (k := .u8) (ackO 14 0 130) rfl rfl ?_
        refine W.callN (close_w (T := ⟨B, [], []⟩) (c := c) (o := ackO 14 0 130) (ci := ⟨none, 0, 0⟩) (pi := ⟨none, 0, 0⟩) (by simp) (At.unN ?_))
        show W (turnA x4 b full ⟨B, [⟨c, ackO 14 0 130, true⟩], []⟩ :: _) _ _
        exact W.pure (hK2 ()).sub
  clear hT9
  refine W.cv2 (A := turnA x4 b full T9) (fun h R hs => q_bs.1 hs) ?_
  refine W.nonnil ?_
  refine W.opn2 (fun h R => q_ez.1) fun so sp => ?_
  refine W.loadNo (v := (so, sp, ())) ?_
  refine W.storeN ?_
  refine W.loadN (v := (so, sp, ())) ?_
  exact W.pure (hq so sp).sub
end Go.Proofs.YtidlldnlphdhcaaGreatDoor
namespace Go.Proofs.YtidlldnlphdhcaaGreatDoor
open Go.H Go.Proofs Go.Lib
set_option linter.unusedSimpArgs false
set_option linter.unusedVariables false
theorem next_asc {t : ByteArray} (h0 : 0 < t.size) (h1 : (t[0]'h0).toNat < 128) (h2 : (t[0]'h0).toNat ≠ 0) : nextLen t = 1 := by
  have hd : Lib.decodeGo t = ((t[0]'h0).toNat, 1) := by
    unfold Lib.decodeGo
    rw [if_neg (by omega)]
    exact decode_ascii t 0 h0 h1
  unfold nextLen
  rw [hd]
  rw [if_neg]
  rintro (e | ⟨e, -⟩)
  · exact h2 e
  · simp only at e; omega
theorem fault_asc {s : ByteArray} (hs : ∀ (i : Nat) (h : i < s.size), (s[i]'h).toNat < 128 ∧ (s[i]'h).toNat ≠ 0) : faultOf s = none := by
  have key : ∀ (f a : Nat), faultGo s f a = none := by
    intro f
    induction f with
    | zero => intro a; rfl
    | succ f ih =>
      intro a
      unfold faultGo
      by_cases ha : a < s.size
      · rw [if_pos ha]
        have hsz : 0 < (s.extract a s.size).size := by rw [ByteArray.size_extract]; omega
        have hg : (s.extract a s.size)[0]'hsz = s[a]'ha := by
          rw [ByteArray.getElem_extract]; congr 1
        have := next_asc hsz (by rw [hg]; exact (hs a ha).1) (by rw [hg]; exact (hs a ha).2)
        rw [this, if_neg (by decide)]
        exact ih _
      · rw [if_neg ha]
  exact key _ _
def ascB (s : ByteArray) : Bool := s.data.toList.all fun c => decide (c.toNat < 128) && decide (c.toNat ≠ 0)
theorem fault_of_asc {s : ByteArray} (h : ascB s = true) : faultOf s = none := fault_asc fun i hi => by
  unfold ascB at h
  have := List.all_eq_true.1 h (s[i]'hi) (by
    have : s[i]'hi = s.data.toList[i]'(by simpa using hi) := by simp [ByteArray.getElem_eq_getElem_data]
    rw [this]; exact List.getElem_mem _)
  simpa using this
theorem levels_eq (s : ByteArray) : levels s = (lev 47 [] s.data.toList).map fun l => ByteArray.mk l.toArray := by
  refine map_data_inj ?_
  rw [q_f9, List.map_map]
  symm
  refine (List.map_congr_left fun x _ => ?_).trans (List.map_id _)
  simp
def sizedA (s : ByteArray) : Bool := ascB s && decide (s.data.toList.length ≠ 0) && decide (s.data.toList.length ≤ 256) && decide ((lev 47 [] s.data.toList).length ≤ 32)
theorem sized_asc {s : ByteArray} (h : sizedA s = true) : sizedT s = true := by
  unfold sizedA at h
  simp only [Bool.and_eq_true, decide_eq_true_eq] at h
  obtain ⟨⟨⟨h1, h2⟩, h3⟩, h4⟩ := h
  refine q_b1.2 ⟨fault_of_asc h1, by simpa using h2, by simpa using h3, ?_⟩
  rw [levels_eq, List.length_map]; exact h4
theorem name_asc {s : ByteArray} (h : sizedA s = true) (h1 : hasB 43 s = false) (h2 : hasB 35 s = false) : nameOK s = true := by
  unfold nameOK; rw [sized_asc h, h1, h2]; rfl
theorem filter_asc {s : ByteArray} (h : sizedA s = true) (h1 : filtG ((lev 47 [] s.data.toList).map fun l => ByteArray.mk l.toArray) = true) : filterOK s = true := by
  unfold filterOK; rw [sized_asc h, levels_eq, h1]; rfl
theorem match_asc {f n : ByteArray} (hf : filterOK f = true) (hn : nameOK n = true) (hd : dollarB f n = false) (hm : matchL ((lev 47 [] f.data.toList).map fun l => ByteArray.mk l.toArray) ((lev 47 [] n.data.toList).map fun l => ByteArray.mk l.toArray) = true) : matchB f n = true := by
  unfold matchB; rw [hf, hn, hd, levels_eq, levels_eq, hm]; rfl
theorem good_asc {s : ByteArray} (h : ascB s = true) (h1 : s ≠ ByteArray.mk #[]) (h2 : s.size ≤ 64) : goodName s := ⟨fault_of_asc h, h1, h2⟩
end Go.Proofs.YtidlldnlphdhcaaGreatDoor
namespace Go.Proofs.YtidlldnlphdhcaaGreatDoor
open Go.H Go.Proofs
set_option linter.unusedSimpArgs false
set_option linter.unusedVariables false
abbrev w0 : MsT := (e0S, e0S, 0, false, e0S)
abbrev joinP (client : ByteArray) : PkI := { kind := 1, retain := false, qos := 0, id := 0, topic := e0S, payload := e0S, code := 0, props := [(17, 100, e0S, e0S)], client := client, clean := false, hasWill := false, will := w0, subs := [], filters := [] }
abbrev subP (id : Int) (sl : List SubT) : PkI := { kind := 8, retain := false, qos := 0, id := id, topic := e0S, payload := e0S, code := 0, props := [], client := e0S, clean := false, hasWill := false, will := w0, subs := sl, filters := [] }
abbrev pubP (m : MsT) (id : Int) : PkI := { kind := 3, retain := m.2.2.2.1, qos := m.2.2.1, id := id, topic := m.1, payload := m.2.1, code := 0, props := [], client := e0S, clean := false, hasWill := false, will := w0, subs := [], filters := [] }
def freshS (id : Int) (c : ByteArray) : SesS := ⟨id, c, true, true, ⟨⟨64, 0, []⟩, 64, true, [], []⟩, ⟨64, 0, []⟩⟩
def joined (c : Int) (client : ByteArray) (B : BrkS) : BrkS := ⟨B.last + 1, B.ses ++ [freshS (B.last + 1) client], B.subs, B.kept, B.conns ++ [⟨c, B.last + 1, false, w0⟩]⟩
theorem begin_fresh : beginF ⟨⟨64, 0, []⟩, 64, false, [], []⟩ 64 = (⟨⟨64, 0, []⟩, 64, true, [], []⟩, []) := by
  unfold beginF goOnF
  simp [goF]
  decide
theorem toSes_nil {l : List ConnS} {id : Int} : toSes l id [] = [] := by
  unfold toSes
  simp
theorem setS_last {A : List SesS} {s : SesS} {f : SesS → SesS} (hn : ∀ x ∈ A, x.id ≠ s.id) : setS s.id f (A ++ [s]) = A ++ [f s] := by
  unfold setS
  rw [List.map_append, List.map_cons, List.map_nil, if_pos rfl]
  congr 1
  have : A.map (fun x => if x.id = s.id then f x else x) = A.map id := List.map_congr_left fun x hx => if_neg (hn x hx)
  rw [this, List.map_id]
theorem getS_last {A : List SesS} {s : SesS} (hn : ∀ x ∈ A, x.id ≠ s.id) : getS s.id (A ++ [s]) = some s := by
  unfold getS
  rw [List.find?_append, List.find?_eq_none.2 (fun x hx => by simpa using hn x hx)]
  simp
theorem join_eq {full : Bool} {B : BrkS} {n : Nat} {c : Int} {client : ByteArray} (h : BrkOK B n) (hc : getC c B.conns = none) (ho : ofS client B.ses = none) (hl : B.conns.length < 64) (hg : goodName client) (h32 : B.ses.length < 32) :
    packetB full c (joinP client) B = ⟨joined c client B, [⟨c, ackSe false, false⟩], []⟩ := by
  have hb : barB (joinP client) B = 0 := by
    unfold barB
    rw [if_neg (by simp), if_neg (by omega), if_neg (fun e => e hg), if_neg (by omega)]
  have hno : ∀ x ∈ B.ses, x.id ≠ (newS (B.last + 1) client true).id := fun x hx => by
    have := (h.rng x hx).2
    show x.id ≠ B.last + 1
    omega
  have hr : beginB client false true B = ((B.last + 1, false), { B with last := B.last + 1, ses := B.ses ++ [newS (B.last + 1) client true] }) := by
    unfold beginB; rw [ho]
  have hk : kickT full client ⟨B, [], []⟩ = ⟨B, [], []⟩ := by unfold kickT; rw [ho]
  have hkp : keepP [(17, 100, e0S, e0S)] = true := by unfold keepP findP; rfl
  have hmp : mostP [(17, 100, e0S, e0S)] = 64 := by unfold mostP findP; rfl
  unfold packetB
  rw [hc]
  simp only [if_true]
  unfold connectB
  rw [if_neg (by simpa using hb), joinB'_eq]
  simp only [hk, hkp, hmp, hr, ho]
  unfold outOp
  have hgs : getS (B.last + 1) (B.ses ++ [newS (B.last + 1) client true]) = some (newS (B.last + 1) client true) := getS_last hno
  simp only [hgs]
  have hbg : beginF (newS (B.last + 1) client true).out 64 = (⟨⟨64, 0, []⟩, 64, true, [], []⟩, []) := begin_fresh
  rw [hbg]
  have hss : setS (B.last + 1) (setOut ⟨⟨64, 0, []⟩, 64, true, [], []⟩) (B.ses ++ [newS (B.last + 1) client true]) = B.ses ++ [freshS (B.last + 1) client] := setS_last hno
  simp only [hss, dropO]
  show TurnS.mk _ (_ ++ toSes _ _ []) _ = _
  rw [toSes_nil, List.append_nil]
  rfl
abbrev tAP : ByteArray := ByteArray.mk #[97, 47, 43]
abbrev tH : ByteArray := ByteArray.mk #[35]
abbrev tAB : ByteArray := ByteArray.mk #[97, 47, 98]
abbrev tC1 : ByteArray := ByteArray.mk #[99]
abbrev tD1 : ByteArray := ByteArray.mk #[100]
abbrev tX1 : ByteArray := ByteArray.mk #[120]
theorem ok_ap : filterOK tAP = true := filter_asc (by decide) (by decide)
theorem ok_h : filterOK tH = true := filter_asc (by decide) (by decide)
theorem ok_ab : nameOK tAB = true := name_asc (by decide) (by decide) (by decide)
theorem ma_ap : matchB tAP tAB = true := match_asc ok_ap ok_ab (by decide) (by decide)
theorem ma_h : matchB tH tAB = true := match_asc ok_h ok_ab (by decide) (by decide)
theorem gdw_c : goodName tC1 := good_asc (by decide) (by decide) (by decide)
theorem gdw_d : goodName tD1 := good_asc (by decide) (by decide) (by decide)
abbrev slW : List SubT := [(tAP, 1, false, false, 0), (tH, 0, false, false, 0)]
def B1w : BrkS := joined 1 tC1 ⟨0, [], [], [], []⟩
def E1w : List Ent := [(1, tH, 0), (1, tAP, 1)]
def B2w : BrkS := bSubs E1w B1w
def B3w : BrkS := joined 2 tD1 B2w
theorem add1 : addE [] 1 tAP 1 = (0, [(1, tAP, 1)]) := by
  unfold addE
  rw [if_neg (by rw [ok_ap]; decide), if_neg (by decide)]
  rfl
theorem add2 : addE [(1, tAP, 1)] 1 tH 0 = (0, E1w) := by
  unfold addE
  rw [if_neg (by rw [ok_h]; decide), if_neg (by decide)]
  have e : List.findIdx? (fun x => decide (keyE x = (1, tH))) [((1 : Int), tAP, (1 : Int))] = none := by decide
  rw [e]
  simp only
  rw [if_neg (by decide)]
  have e2 : insS ltK keyE ((1 : Int), tH, (0 : Int)) [((1 : Int), tAP, (1 : Int))] = E1w := by
    unfold insS
    rw [if_pos (by decide)]
    rfl
  rw [e2]
theorem addW : addAll 1 slW [] = (E1w, [1, 0]) := by
  unfold addAll
  simp only [add1]
  unfold addAll
  simp only [add2]
  unfold addAll
  rfl
theorem addedW : added 1 slW [] = slW := by
  unfold added
  simp only [add1]
  unfold added
  simp only [add2]
  unfold added
  rfl
theorem ok_new : BrkOK ⟨0, [], [], [], []⟩ 0 := BrkOK.new
theorem w1 : packetB false 1 (joinP tC1) ⟨0, [], [], [], []⟩ = ⟨B1w, [⟨1, ackSe false, false⟩], []⟩ := join_eq ok_new rfl rfl (by decide) gdw_c (by decide)
theorem w2 : packetB false 1 (subP 1 slW) B1w = ⟨B2w, [⟨1, ackCs 9 1 [1, 0], false⟩], []⟩ := by
  unfold packetB
  have hg : getC 1 B1w.conns = some ⟨1, 1, false, w0⟩ := rfl
  rw [hg]
  simp only
  unfold oneB
  rw [if_neg (by decide), if_neg (by decide), if_pos (by decide)]
  unfold subscribeB
  have hs : B1w.subs = [] := rfl
  have hk : B1w.kept = [] := rfl
  simp only [hs, addW, addedW]
  unfold keptSub
  simp only [List.foldl_cons, List.foldl_nil]
  rw [if_neg (by decide)]
  simp only [hk, hitR, List.filter_nil, List.foldl_nil]
  rw [if_neg (by decide)]
  rfl
theorem ok_w1 : BrkOK B1w 1 := by
  have := (q_id (full := false) (c := 1) (p := joinP tC1) ok_new (by simp) (by simp) (by decide) (by decide) (by decide)).1
  rw [w1] at this; exact this
theorem ok_w2 : BrkOK B2w 2 := by
  have := (q_id (full := false) (c := 1) (p := subP 1 slW) ok_w1 (by decide) (by decide) (by decide) (by decide) (by decide)).1
  rw [w2] at this; exact this
theorem w3 : packetB false 2 (joinP tD1) B2w = ⟨B3w, [⟨2, ackSe false, false⟩], []⟩ := join_eq ok_w2 rfl (by decide) (by decide) gdw_d (by decide)
theorem ok_w3 : BrkOK B3w 3 := by
  have := (q_id (full := false) (c := 2) (p := joinP tD1) ok_w2 (by decide) (by decide) (by decide) (by decide) (by decide)).1
  rw [w3] at this; exact this
abbrev mW : MsT := (tAB, tX1, 2, false, e0S)
theorem send_new (m : MsT) (hm : m.2.2.1 = 1) : ∃ o i, sendF ⟨⟨64, 0, []⟩, 64, true, [], []⟩ m = ((o, [pubO m i false]), 0) := by
  unfold sendF
  rw [if_neg (by omega), if_neg (by omega), if_neg (by simp)]
  unfold goOnF
  rw [if_pos rfl]
  simp only [List.nil_append]
  unfold goF
  rw [if_neg (by simp), if_pos (by omega)]
  simp only [goF]
  exact ⟨_, _, rfl⟩
theorem w4 : ∃ B p i, packetB false 2 (pubP mW 9) B3w = ⟨B, [⟨2, ackO 5 9 0, false⟩, ⟨1, pubO p i false, false⟩], [mW]⟩ ∧ p.2.2.1 = 1 := by
  unfold packetB
  have hg : getC 2 B3w.conns = some ⟨2, 2, false, w0⟩ := rfl
  rw [hg]
  simp only
  unfold oneB
  rw [if_pos (by decide)]
  unfold takeB
  have hg2 : getS 2 B3w.ses = some (freshS 2 tD1) := rfl
  rw [if_neg (by rw [ok_ab]; decide), hg2]
  have ht : takeR (freshS 2 tD1).inn 3 2 9 0 = (true, some (5, 0), 0, [9]) := by decide
  simp only [ht, if_neg (show ¬ (false = true) by decide)]
  rw [if_neg (by simp), if_pos (by simp)]
  unfold publishB handB keepB
  rw [if_neg (by decide)]
  have hsb : B3w.subs = E1w := rfl
  have hf : E1w.filter (fun x => matchB x.2.1 tAB) = E1w := List.filter_eq_self.2 fun x hx => by
    rcases List.mem_cons.1 hx with rfl | hx
    · exact ma_h
    · rw [List.mem_singleton.1 hx]; exact ma_ap
  simp only [hsb, hf]
  have hid : idsL none E1w = [1] := by decide
  rw [hid]
  simp only [List.foldl_cons, List.foldl_nil]
  have hqs : min (2 : Int) (qosL E1w 1) = 1 := by decide
  unfold handOne
  simp only [hqs]
  unfold outOp
  obtain ⟨o, i, hsd⟩ := send_new (tAB, tX1, 1, false, e0S) rfl
  have hg3 : getS 1 (setS 2 (setInn ⟨(freshS 2 tD1).inn.most, (freshS 2 tD1).inn.taken, [9]⟩) B3w.ses) = some (freshS 1 tC1) := rfl
  simp only [hg3]
  have hso : (freshS 1 tC1).out = ⟨⟨64, 0, []⟩, 64, true, [], []⟩ := rfl
  rw [hso, hsd]
  exact ⟨_, (tAB, tX1, 1, false, e0S), i, rfl, rfl⟩
end Go.Proofs.YtidlldnlphdhcaaGreatDoor
namespace Go.Proofs.YtidlldnlphdhcaaGreatDoor
open Go.H Go.Proofs
set_option linter.unusedSimpArgs false
set_option linter.unusedVariables false
set_option maxRecDepth 100000
variable {h h0 : Heap} {L L' L1 L2 L3 L4 L5 R : List Asn} {Q : Value → Heap → Prop}
theorem W.loadee {β γ : Type} {t : Tag} {enc : γ → List Value} {size : Nat} {s : Slc} {xs : List γ} {Q' : β → Heap → Prop} {i j k : Nat} {a : Addr} {x : γ} {v : t.ty} {f : t.ty → HM β} (ha : El s size i a) (hi : xs[i]? = some x) (hw : W L (f v) Q') (hx : Has L (ownS enc size s xs) L' := by repeat (first | with_reducible exact Go.H.has0 | apply Go.H.hasS)) (hv : ((enc x)[j + k]?).bind t.get = some v := by rfl) [Enc enc size] : W L (HM.bind (HM.load1 t (Addr.add (Addr.add a j) k)) f) Q' := by
  rw [add_add']
  exact W.loade ha hi hw hx hv
theorem W.row1 {α γ : Type} {enc : γ → List Value} {size : Nat} {m : HM α} {Q' : α → Heap → Prop} {x : Nat} {cs : Array Value} (u : γ) (hw : W (ownS enc size ⟨some ⟨x, 0, none⟩, 1, 1⟩ [u] :: L') m Q') (hx : Has L (cells x cs) L' := by repeat (first | with_reducible exact Go.H.has0 | apply Go.H.hasS)) (hc : cs = (enc u).toArray := by rfl) [Enc enc size] : W L m Q' := fun h hs => by
  subst hc
  refine hw h (q_cq (b := x) (o := 0) (cs := (enc u).toArray) ⟨by simp, Nat.le_refl _, rfl, by simp [Enc.len (enc := enc)], by
    simp [Enc.len (enc := enc)]
    exact List.take_of_length_le (Nat.le_of_eq (Enc.len u))⟩ (hx.s hs))
abbrev nilS : Slc := ⟨none, 0, 0⟩
abbrev joinK (x : Nat) (client : ByteArray) : Pk := (1, false, false, 0, 0, e0S, e0S, 0, nilS, ⟨some ⟨x, 0, none⟩, 1, 1⟩, client, false, 0, false, e0S, e0S, 0, false, nilS, false, false, e0S, e0S, false, nilS, nilS, ())
abbrev subK (S : Slc) (id : Int) : Pk := (8, false, false, 0, id, e0S, e0S, 0, nilS, nilS, e0S, false, 0, false, e0S, e0S, 0, false, nilS, false, false, e0S, e0S, false, S, nilS, ())
abbrev pubK (m : MsT) (id : Int) : Pk := (3, false, m.2.2.2.1, m.2.2.1, id, m.1, m.2.1, 0, nilS, nilS, e0S, false, 0, false, e0S, e0S, 0, false, nilS, false, false, e0S, e0S, false, nilS, nilS, ())
theorem q_h5 : e0S.size ≤ 9223372036854775807 := by decide
theorem joinK_ok {x : Nat} {client : ByteArray} (h : client.size ≤ 9223372036854775807) : PkOK (joinK x client) [(17, 100, e0S, e0S)] [] [] := ⟨q_h5, h, q_h5, by decide, by decide, by simp, by decide, by simp⟩
theorem subK_ok {S : Slc} {id : Int} {sl : List SubT} (h : sl.length ≤ 100) (h2 : ∀ s ∈ sl, s.1.size ≤ 9223372036854775807) : PkOK (subK S id) [] sl [] := ⟨q_h5, q_h5, q_h5, by decide, h, h2, by decide, by simp⟩
theorem pubK_ok {m : MsT} {id : Int} (h : m.1.size ≤ 9223372036854775807) : PkOK (pubK m id) [] [] [] := ⟨h, q_h5, q_h5, by decide, by decide, by simp, by decide, by simp⟩
theorem join_w {b n : Nat} {B B1 B2 : BrkS} {c : Int} {client : ByteArray} {sl : List SubT} {S : Slc} {o1 o2 : OutO} {r1 r2 : List OutO} {ps : List MsT} (ht : TP h0) (hok : BrkOK B n) (hn : n ≤ 999999) (hnd : (B.conns.map (·.c)).Nodup) (hkl : B.kept.length ≤ 64) (hci : -9223372036854775808 ≤ c ∧ c ≤ 9223372036854775807) (hcl : client.size ≤ 9223372036854775807)
    (hsl : sl.length ≤ 100) (hss : ∀ s ∈ sl, s.1.size ≤ 9223372036854775807)
    (h1 : packetB false c (joinP client) B = ⟨B1, o1 :: r1, []⟩) (hk1 : o1.pk.kind = 2) (hc1 : o1.pk.code = 0)
    (h2 : (sl = [] ∧ B2 = B1) ∨ (sl ≠ [] ∧ packetB false c (subP 1 sl) B1 = ⟨B2, o2 :: r2, ps⟩ ∧ o2.pk.kind = 9 ∧ o2.pk.codes.length = sl.length))
    (hq : At (brkA b B2 :: old h0 :: L3) (Q (.bool true))) (hx : Has L (brkA b B) L1 := by repeat (first | with_reducible exact Go.H.has0 | apply Go.H.hasS)) (hy : Has L1 (old h0) L2 := by repeat (first | with_reducible exact Go.H.has0 | apply Go.H.hasS)) (hz : Has L2 (ownS encSb 5 S sl) L3 := by repeat (first | with_reducible exact Go.H.has0 | apply Go.H.hasS)) :
    FW Tryz.prog 11 #[at0 b, .int .i64 c, .string client, .slice S.a S.len S.cap] L Q := by
  refine fun h hs => law19_join_calls (some ⟨b, 0, none⟩) c client S h Q ((?_ : W (brkA b B :: old h0 :: ownS encSb 5 S sl :: L3) _ _) h ((hx.then3 hy hz).s hs))
  clear hs h hx hy hz
  have hok1 : BrkOK B1 (n + 1) := by
    have := (q_id (full := false) (c := c) (p := joinP client) hok hnd hkl (by simp) q_h5 hci).1
    rw [h1] at this; exact this
  unfold law19_join
  refine W.newc fun x1 => ?_
  refine W.row1 (enc := encPr) ((17, 100, e0S, e0S) : PropT) ?_
  refine W.nils encSb 5 ?_
  refine W.nils encS1 1 ?_
  refine W.call1 (bPacket_w (p := joinK x1 client) (pl := [(17, 100, e0S, e0S)]) (sl := []) (fl := []) (full := false) ht hok (by omega) (joinK_ok hcl) hci (fun so sp => At.un (x := (so, sp, ())) ?_))
  rw [show packetB false c (pkI (joinK x1 client) [(17, 100, e0S, e0S)] [] []) B = ⟨B1, o1 :: r1, []⟩ from h1]
  dsimp only
  refine W.newc fun x3 => ?_
  refine W.storeN ?_
  refine W.fact (own_len' (enc := encM) (size := 5) (s := sp) (xs := ([] : List MsT))) fun hpl => ?_
  refine W.opnp (fun h R => q_ie.1) fun T hT => ?_
  obtain ⟨⟨c1, p1, o⟩, T, rfl⟩ : ∃ a T', T = a :: T' := by cases T with | nil => cases hT | cons a T => exact ⟨a, T, rfl⟩
  have hTo : o = o1 := (List.cons.inj hT).1
  clear hT
  subst hTo
  refine W.fact (own_len' (enc := encOu .u8) (size := 28) (s := so) (xs := ((c1, p1, o) :: T).map ouF)) fun hol => ?_
  refine W.cutk (fun r => r.1 = false) (fun K hK => ?_) (fun r hr => ?_)
  · refine W.load (v := so) ?_
    refine W.ff (by rw [hol]; exact decide_eq_false (by simp only [List.map_cons, List.length_cons]; omega)) ?_
    refine W.load (v := so) ?_
    refine W.idx (enc := encOu .u8) (xs := ((c1, p1, o) :: T).map ouF) (i := 0) (by simp) (fun a ha => ?_)
    refine W.loadee (x := ouF (c1, p1, o)) (v := o.pk.kind) ha rfl ?_
    refine W.ff (by rw [hk1]; rfl) ?_
    refine W.load (v := so) ?_
    refine W.idx (enc := encOu .u8) (xs := ((c1, p1, o) :: T).map ouF) (i := 0) (by simp) (fun a2 ha2 => ?_)
    refine W.loadee (x := ouF (c1, p1, o)) (v := o.pk.code) ha2 rfl ?_
    refine W.ff (by rw [hc1]; rfl) ?_
    refine W.loadx (b := x3) (i := 1) (v := sp) ?_
    refine W.pure (hK _ ?_)
    rw [hpl]; rfl
  refine W.ff hr ?_
  refine W.fact (own_len' (enc := encSb) (size := 5) (s := S) (xs := sl)) fun hsn => ?_
  rcases h2 with ⟨rfl, rfl⟩ | ⟨hne, h2, hk2, hc2⟩
  · refine W.tt (by rw [hsn]; rfl) ?_
    exact W.pure hq.sub
  · refine W.ff (by rw [hsn]; exact decide_eq_false (fun e => hne (List.length_eq_zero_iff.1 (by omega)))) ?_
    refine W.nils encPr 4 ?_
    refine W.nils encS1 1 ?_
    refine W.call1 (bPacket_w (B := B1) (p := subK S 1) (pl := []) (sl := sl) (fl := []) (full := false) ht hok1 (by omega) (subK_ok hsl hss) hci (fun so2 sp2 => At.un (x := (so2, sp2, ())) ?_))
    rw [show packetB false c (pkI (subK S 1) [] sl []) B1 = ⟨B2, o2 :: r2, ps⟩ from h2]
    dsimp only
    refine W.newc fun x14 => ?_
    refine W.storeN ?_
    refine W.opnp (fun h R hs => (q_ie (k := .u8) (s := so2) (os := o2 :: r2)).1 hs) fun T2 hT2 => ?_
    obtain ⟨⟨c2, p2, o'⟩, T2, rfl⟩ : ∃ a T', T2 = a :: T' := by cases T2 with | nil => cases hT2 | cons a T => exact ⟨a, T, rfl⟩
    have hTo2 : o' = o2 := (List.cons.inj hT2).1
    clear hT2
    subst hTo2
    refine W.fact (own_len' (enc := encOu .u8) (size := 28) (s := so2) (xs := ((c2, p2, o') :: T2).map ouF)) fun hol2 => ?_
    refine W.fact (A := bigA (ouB .u8) ((c2, p2, o') :: T2)) (p := c2.len = o'.pk.codes.length) (fun h R hs => ?_) fun hcl2 => ?_
    · have h5 : sat h (bigA (ouB .u8) [(c2, p2, o')] :: bigA (ouB .u8) T2 :: R) := bigA_cat.1 hs
      have h6 := pkB_iff.1 (bigA_sing.1 h5)
      exact h6.own_len
    refine W.cutk (fun r => r.1 = true) (fun K hK => ?_) (fun r hr2 => ?_)
    · refine W.load (v := so2) ?_
      refine W.tt (by rw [hol2]; exact decide_eq_true (by simp only [List.map_cons, List.length_cons]; omega)) ?_
      refine W.load (v := so2) ?_
      refine W.idx (enc := encOu .u8) (xs := ((c2, p2, o') :: T2).map ouF) (i := 0) (by simp) (fun a ha => ?_)
      refine W.loadee (x := ouF (c2, p2, o')) (v := o'.pk.kind) ha rfl ?_
      refine W.tt (by rw [hk2]; rfl) ?_
      refine W.load (v := so2) ?_
      refine W.idx (enc := encOu .u8) (xs := ((c2, p2, o') :: T2).map ouF) (i := 0) (by simp) (fun a2 ha2 => ?_)
      refine W.loadee (x := ouF (c2, p2, o')) (v := c2) ha2 rfl ?_
      refine W.pure (hK _ ?_)
      rw [hcl2, hc2, hsn]; simp
    refine W.pure ?_
    show At _ (Q (.bool r.1))
    rw [hr2]
    exact hq.sub
end Go.Proofs.YtidlldnlphdhcaaGreatDoor
namespace Go.Proofs.YtidlldnlphdhcaaGreatDoor
open Go.H Go.Proofs
set_option linter.unusedSimpArgs false
set_option linter.unusedVariables false
set_option maxRecDepth 100000
variable {h h0 : Heap} {L L' L1 L2 L3 L4 L5 R : List Asn} {Q : Value → Heap → Prop}
theorem W.storeNo {β : Type} {b o : Nat} {cs cs' : Array Value} {vs : List Value} {f : Unit → HM β} {Q' : β → Heap → Prop} (hw : W (cells b cs' :: L') (f ()) Q') (hx : Has L (cells b cs) L' := by repeat (first | with_reducible exact Go.H.has0 | apply Go.H.hasS)) (hc : cs.toList.take o ++ vs ++ cs.toList.drop (o + vs.length) = cs'.toList := by rfl) (hl : (o + vs.length).ble cs.size = true := by rfl) (hv : vs.all (fun v => v.oneCell') = true := by rfl) :
    W L (HM.bind (HM.storeN (Addr.add ⟨b, 0, none⟩ o) vs) f) Q' := fun h hs => by
  have hs1 := hx.s hs
  have hl' : o + vs.length ≤ cs.size := Nat.le_of_ble_eq_true hl
  rw [q_aa]
  refine ⟨q_c5 (o := o) hs1 hl' (List.all_eq_true.1 hv), ?_⟩
  obtain ⟨c2, e1, e2, h2⟩ := sat.setCells vs cs o 0 hs1 (by omega)
  simp only [Nat.add_zero] at e2
  have e3 : c2 = cs' := Array.toList_inj.1 (e2.trans hc)
  subst e3
  exact hw _ h2
theorem W.slo80 {γ β : Type} {enc : γ → List Value} {size : Nat} {s s2 : Slc} {xs : List γ} {f : Slc → HM β} {Q' : β → Heap → Prop} (hr : RowAt enc size h0 s xs) (hw : ∀ s', RowAt enc size h0 s' (xs.take 80) → W L (f s') Q') (hs : s2 = s := by rfl) :
    W L (HM.bind (HM.slice s none (some (if 80 < (((s2.len : Nat) : Int) : Int) then 80 else ((s2.len : Nat) : Int))) none size) f) Q' := by
  subst hs
  have hl := hr.1
  by_cases h80 : 80 < xs.length
  · rw [if_pos (by omega)]
    exact W.slo (n := 80) hr (by omega) hw
  · rw [if_neg (by omega)]
    have e : xs.take 80 = xs.take xs.length := by rw [List.take_of_length_le (by omega), List.take_length]
    refine W.slo (n := xs.length) hr (Nat.le_refl _) (fun s' hr' => hw s' (by rw [e]; exact hr')) (by rw [hl])
theorem props_w {S : Slc} {pl : List PropT} (hr : RowAt encPr 4 h0 S pl) (hq : ∀ S1 S2 : Slc, At (ownS encPr 4 S1 (pl.take 80) :: ownS encPr 4 S2 (pl.take 80) :: old h0 :: L1) (Q (.tuple #[.slice S1.a S1.len S1.cap, .slice S2.a S2.len S2.cap])))
    (hx : Has L (old h0) L1 := by repeat (first | with_reducible exact Go.H.has0 | apply Go.H.hasS)) : FW Tryz.prog 39 #[.slice S.a S.len S.cap] L Q := by
  refine fun h hs => law19_props_calls S h Q ((?_ : W (old h0 :: L1) _ _) h (hx.s hs))
  clear hs h hx
  unfold law19_props
  refine W.slo80 hr (fun s' hr' => ?_)
  have h80 : (pl.take 80).length ≤ 80 := List.length_take_le _ _
  generalize pl.take 80 = xs at hr' hq h80
  refine W.nil0 encPr 4 (xs.take 0) ?_
  refine W.nil0 encPr 4 (xs.take 0) ?_
  refine W.loop (γ := Nat) (fun g s => s.2.2.1 = (g : Int) ∧ g ≤ xs.length) (fun g s => ownS encPr 4 s.1 (xs.take g) :: ownS encPr 4 s.2.1 (xs.take g) :: old h0 :: L1) (fun g => xs.length - g) 0 ⟨rfl, Nat.zero_le _⟩ Sub.rfl ?_
  rintro i s ⟨hi, hil⟩ K k1 k2
  by_cases hlt : i < xs.length
  · refine W.tt (by rw [hi, hr'.1]; exact decide_eq_true (by omega)) ?_
    have hgi : xs[i]? = some xs[i] := List.getElem?_eq_getElem hlt
    have htk : xs.take (i + 1) = xs.take i ++ [xs[i]] := List.take_succ_eq_append_getElem hlt
    generalize xs[i] = u at hgi htk
    have hb : ((xs.take i).length + 1) * 48 ≤ 140737488355328 := by rw [List.length_take]; omega
    have hn : ∀ S1 S2 : Slc, At (ownS encPr 4 S1 (xs.take i ++ [u]) :: ownS encPr 4 S2 (xs.take i ++ [u]) :: old h0 :: L1) (K (.inl (S1, S2, IntKind.wrap .i64 (s.2.2.1 + 1), ()))) := fun S1 S2 => by
      have := k1 (i + 1) (S1, S2, IntKind.wrap .i64 (s.2.2.1 + 1), ()) (by omega) ⟨by simp only [hi]; rw [q_al (by omega) (by omega)]; rfl, hlt⟩
      simp only at this
      rw [htk] at this
      exact this
    refine W.idxo hr' hlt (fun a ha => ?_) (he := hi)
    refine W.loadoN (v := prU u) hr' ha hgi ?_
    refine W.newc fun x6 => ?_
    refine W.storeN ?_
    refine W.loadN (v := prU u) ?_
    refine W.loadN (v := prU u) ?_
    repeat' (first | refine W.newc fun _ => ?_ | refine W.loadN (v := prU u) ?_ | refine W.req ?_ rfl | with_reducible refine W.both ?_ ?_ | refine W.app1b (enc := encPr) u (fun _ => ?_) hb)
    all_goals exact W.pure (hn _ _).sub
  · refine W.ff (by rw [hi, hr'.1]; exact decide_eq_false (by omega)) (W.pure (k2 _ _ ?_))
    have hie : i = xs.length := by omega
    subst hie
    rw [List.take_length]
    exact W.pure (hq _ _).sub
structure PkIn (h0 : Heap) (p : Pk) (pl wl : List PropT) (cl : List Int) (sl : List SubT) (fl : List ByteArray) : Prop where
  props : RowAt encPr 4 h0 (p.2.2.2.2.2.2.2.2.2.1) pl
  wprops : RowAt encPr 4 h0 (p.2.2.2.2.2.2.2.2.2.2.2.2.2.2.2.2.2.2.1) wl
  codes : RowAt (eKd .u8) 1 h0 (p.2.2.2.2.2.2.2.2.1) cl
  subs : RowAt encSb 5 h0 (p.2.2.2.2.2.2.2.2.2.2.2.2.2.2.2.2.2.2.2.2.2.2.2.2.1) sl
  fils : RowAt encS1 1 h0 (p.2.2.2.2.2.2.2.2.2.2.2.2.2.2.2.2.2.2.2.2.2.2.2.2.2.1) fl
abbrev pkR (p : Pk) (c : Int) (s8 s9 s18 s24 s25 : Slc) : Pk := (p.1, p.2.1, p.2.2.1, p.2.2.2.1, p.2.2.2.2.1, p.2.2.2.2.2.1, p.2.2.2.2.2.2.1, c, s8, s9, p.2.2.2.2.2.2.2.2.2.2.1, p.2.2.2.2.2.2.2.2.2.2.2.1, p.2.2.2.2.2.2.2.2.2.2.2.2.1, p.2.2.2.2.2.2.2.2.2.2.2.2.2.1, p.2.2.2.2.2.2.2.2.2.2.2.2.2.2.1, p.2.2.2.2.2.2.2.2.2.2.2.2.2.2.2.1, p.2.2.2.2.2.2.2.2.2.2.2.2.2.2.2.2.1, p.2.2.2.2.2.2.2.2.2.2.2.2.2.2.2.2.2.1, s18, p.2.2.2.2.2.2.2.2.2.2.2.2.2.2.2.2.2.2.2.1, p.2.2.2.2.2.2.2.2.2.2.2.2.2.2.2.2.2.2.2.2.1, p.2.2.2.2.2.2.2.2.2.2.2.2.2.2.2.2.2.2.2.2.2.1, p.2.2.2.2.2.2.2.2.2.2.2.2.2.2.2.2.2.2.2.2.2.2.1, p.2.2.2.2.2.2.2.2.2.2.2.2.2.2.2.2.2.2.2.2.2.2.2.1, s24, s25, ())
set_option maxHeartbeats 4000000 in
theorem packets_w {p : Pk} {pl wl : List PropT} {cl : List Int} {sl : List SubT} {fl : List ByteArray} {cc : Int} (hr : PkIn h0 p pl wl cl sl fl) (hcc : cc = IntKind.wrap .i64 (p.2.2.2.2.2.2.2.1))
    (hq : ∀ c1 c2 p1 p2 w1 w2 s1 s2 f1 f2 : Slc, At (ownS encPr 4 p1 (pl.take 80) :: ownS encSb 5 s1 (sl.take 80) :: ownS encS1 1 f1 (fl.take 80) :: ownS encPr 4 p2 (pl.take 80) :: ownS encSb 5 s2 (sl.take 80) :: ownS encS1 1 f2 (fl.take 80) :: old h0 :: L1) (Q (.tuple #[vPkK .u8 (pkR p (p.2.2.2.2.2.2.2.1) c1 p1 w1 s1 f1), vPkK .i64 (pkR p cc c2 p2 w2 s2 f2)])))
    (hx : Has L (old h0) L1 := by repeat (first | with_reducible exact Go.H.has0 | apply Go.H.hasS)) : FW Tryz.prog 16 #[vPkK .u8 p] L Q := by
  refine fun h hs => law19_packets_calls p h Q ((?_ : W (old h0 :: L1) _ _) h (hx.s hs))
  clear hs h hx
  obtain ⟨hr9, hr18, hr8, hr24, hr25⟩ := hr
  obtain ⟨vk, vd, vr, vq, vi, vt, vp, vc, s8, s9, vcl, vcn, vke, vhw, vwt, vwp, vwq, vwr, s18, vhu, vhp, vu, vpw, vse, s24, s25, ⟨⟩⟩ := p
  dsimp only at hr9 hr18 hr8 hr24 hr25 hcc hq
  unfold q_g
  refine W.newc fun x1 => ?_
  refine W.cells (b := x1) #[.int .i64 vk, .bool vd, .bool vr, .int .i64 vq, .int .i64 vi, .string vt, .string vp, .int .u8 vc, .slice s8.a s8.len s8.cap, .slice s9.a s9.len s9.cap, .string vcl, .bool vcn, .int .i64 vke, .bool vhw, .string vwt, .string vwp, .int .i64 vwq, .bool vwr, .slice s18.a s18.len s18.cap, .bool vhu, .bool vhp, .string vu, .string vpw, .bool vse, .slice s24.a s24.len s24.cap, .slice s25.a s25.len s25.cap] ?_
  refine W.newc fun x2 => ?_
  refine W.newc fun x3 => ?_
  refine W.load (b := x1) (v := vk) ?_
  refine W.load (b := x1) (v := vd) ?_
  refine W.load (b := x1) (v := vr) ?_
  refine W.load (b := x1) (v := vq) ?_
  refine W.load (b := x1) (v := vi) ?_
  refine W.load (b := x1) (v := vt) ?_
  refine W.load (b := x1) (v := vp) ?_
  refine W.load (b := x1) (v := vc) ?_
  refine W.load (b := x1) (v := vcl) ?_
  refine W.load (b := x1) (v := vcn) ?_
  refine W.load (b := x1) (v := vke) ?_
  refine W.load (b := x1) (v := vhw) ?_
  refine W.load (b := x1) (v := vhu) ?_
  refine W.load (b := x1) (v := vhp) ?_
  refine W.load (b := x1) (v := vu) ?_
  refine W.load (b := x1) (v := vpw) ?_
  refine W.load (b := x1) (v := vse) ?_
  refine W.newc fun x21 => ?_
  refine W.storeN (b := x21) ?_
  refine W.cells (b := x21) (#[.int .i64 vk, .bool vd, .bool vr, .int .i64 vq, .int .i64 vi, .string vt, .string vp, .int .u8 vc, .slice none 0 0, .slice none 0 0, .string vcl, .bool vcn, .int .i64 vke, .bool vhw, .string e0S, .string e0S, .int .i64 0, .bool false, .slice none 0 0, .bool vhu, .bool vhp, .string vu, .string vpw, .bool vse, .slice none 0 0, .slice none 0 0]) ?_
  refine W.load (b := x1) (v := vk) ?_
  refine W.load (b := x1) (v := vd) ?_
  refine W.load (b := x1) (v := vr) ?_
  refine W.load (b := x1) (v := vq) ?_
  refine W.load (b := x1) (v := vi) ?_
  refine W.load (b := x1) (v := vt) ?_
  refine W.load (b := x1) (v := vp) ?_
  refine W.load (b := x1) (v := vc) ?_
  refine W.load (b := x1) (v := vcl) ?_
  refine W.load (b := x1) (v := vcn) ?_
  refine W.load (b := x1) (v := vke) ?_
  refine W.load (b := x1) (v := vhw) ?_
  refine W.load (b := x1) (v := vhu) ?_
  refine W.load (b := x1) (v := vhp) ?_
  refine W.load (b := x1) (v := vu) ?_
  refine W.load (b := x1) (v := vpw) ?_
  refine W.load (b := x1) (v := vse) ?_
  refine W.newc fun x39 => ?_
  refine W.storeN (b := x39) ?_
  rw [← hcc]
  refine W.cells (b := x39) (#[.int .i64 vk, .bool vd, .bool vr, .int .i64 vq, .int .i64 vi, .string vt, .string vp, .int .i64 cc, .slice none 0 0, .slice none 0 0, .string vcl, .bool vcn, .int .i64 vke, .bool vhw, .string e0S, .string e0S, .int .i64 0, .bool false, .slice none 0 0, .bool vhu, .bool vhp, .string vu, .string vpw, .bool vse, .slice none 0 0, .slice none 0 0]) ?_
  refine W.load (b := x1) (v := s9) ?_
  refine W.callN (props_w hr9 (fun p1 p2 => At.unN (x := (p1, p2, ())) ?_))
  refine W.store (b := x21) (cs' := #[.int .i64 vk, .bool vd, .bool vr, .int .i64 vq, .int .i64 vi, .string vt, .string vp, .int .u8 vc, .slice none 0 0, .slice p1.a p1.len p1.cap, .string vcl, .bool vcn, .int .i64 vke, .bool vhw, .string e0S, .string e0S, .int .i64 0, .bool false, .slice none 0 0, .bool vhu, .bool vhp, .string vu, .string vpw, .bool vse, .slice none 0 0, .slice none 0 0]) ?_
  refine W.store (b := x39) (cs' := #[.int .i64 vk, .bool vd, .bool vr, .int .i64 vq, .int .i64 vi, .string vt, .string vp, .int .i64 cc, .slice none 0 0, .slice p2.a p2.len p2.cap, .string vcl, .bool vcn, .int .i64 vke, .bool vhw, .string e0S, .string e0S, .int .i64 0, .bool false, .slice none 0 0, .bool vhu, .bool vhp, .string vu, .string vpw, .bool vse, .slice none 0 0, .slice none 0 0]) ?_
  refine W.loadx (b := x1) (i := 14) (v := vwt) ?_
  refine W.loadx (b := x1) (i := 15) (v := vwp) ?_
  refine W.loadx (b := x1) (i := 16) (v := vwq) ?_
  refine W.loadx (b := x1) (i := 17) (v := vwr) ?_
  refine W.storeNo (b := x21) (cs' := #[.int .i64 vk, .bool vd, .bool vr, .int .i64 vq, .int .i64 vi, .string vt, .string vp, .int .u8 vc, .slice none 0 0, .slice p1.a p1.len p1.cap, .string vcl, .bool vcn, .int .i64 vke, .bool vhw, .string vwt, .string vwp, .int .i64 vwq, .bool vwr, .slice none 0 0, .bool vhu, .bool vhp, .string vu, .string vpw, .bool vse, .slice none 0 0, .slice none 0 0]) ?_
  refine W.loadx (b := x1) (i := 14) (v := vwt) ?_
  refine W.loadx (b := x1) (i := 15) (v := vwp) ?_
  refine W.loadx (b := x1) (i := 16) (v := vwq) ?_
  refine W.loadx (b := x1) (i := 17) (v := vwr) ?_
  refine W.storeNo (b := x39) (cs' := #[.int .i64 vk, .bool vd, .bool vr, .int .i64 vq, .int .i64 vi, .string vt, .string vp, .int .i64 cc, .slice none 0 0, .slice p2.a p2.len p2.cap, .string vcl, .bool vcn, .int .i64 vke, .bool vhw, .string vwt, .string vwp, .int .i64 vwq, .bool vwr, .slice none 0 0, .bool vhu, .bool vhp, .string vu, .string vpw, .bool vse, .slice none 0 0, .slice none 0 0]) ?_
  refine W.loadx (b := x1) (i := 18) (v := s18) ?_
  refine W.callN (props_w hr18 (fun w1 w2 => At.unN (x := (w1, w2, ())) ?_))
  refine W.storex (b := x21) (i := 18) (cs' := #[.int .i64 vk, .bool vd, .bool vr, .int .i64 vq, .int .i64 vi, .string vt, .string vp, .int .u8 vc, .slice none 0 0, .slice p1.a p1.len p1.cap, .string vcl, .bool vcn, .int .i64 vke, .bool vhw, .string vwt, .string vwp, .int .i64 vwq, .bool vwr, .slice w1.a w1.len w1.cap, .bool vhu, .bool vhp, .string vu, .string vpw, .bool vse, .slice none 0 0, .slice none 0 0]) ?_
  refine W.storex (b := x39) (i := 18) (cs' := #[.int .i64 vk, .bool vd, .bool vr, .int .i64 vq, .int .i64 vi, .string vt, .string vp, .int .i64 cc, .slice none 0 0, .slice p2.a p2.len p2.cap, .string vcl, .bool vcn, .int .i64 vke, .bool vhw, .string vwt, .string vwp, .int .i64 vwq, .bool vwr, .slice w2.a w2.len w2.cap, .bool vhu, .bool vhp, .string vu, .string vpw, .bool vse, .slice none 0 0, .slice none 0 0]) ?_
  refine W.load (b := x1) (v := s8) ?_
  refine W.load (b := x1) (v := s8) ?_
  refine W.slo80 hr8 (fun s' hr' => ?_)
  have h80 : (cl.take 80).length ≤ 80 := List.length_take_le _ _
  generalize hxs : cl.take 80 = xs at hr' h80
  clear hxs
  refine W.nil0 (eKd .u8) 1 (xs.take 0) ?_
  refine W.nil0 (eKd .i64) 1 ((xs.take 0).map (IntKind.wrap .i64)) ?_
  refine W.loop (γ := Nat × Slc × Slc) (fun g s => s.1 = (g.1 : Int) ∧ g.1 ≤ xs.length) (fun g s => cells x21 #[.int .i64 vk, .bool vd, .bool vr, .int .i64 vq, .int .i64 vi, .string vt, .string vp, .int .u8 vc, .slice g.2.1.a g.2.1.len g.2.1.cap, .slice p1.a p1.len p1.cap, .string vcl, .bool vcn, .int .i64 vke, .bool vhw, .string vwt, .string vwp, .int .i64 vwq, .bool vwr, .slice w1.a w1.len w1.cap, .bool vhu, .bool vhp, .string vu, .string vpw, .bool vse, .slice none 0 0, .slice none 0 0] :: cells x39 #[.int .i64 vk, .bool vd, .bool vr, .int .i64 vq, .int .i64 vi, .string vt, .string vp, .int .i64 cc, .slice g.2.2.a g.2.2.len g.2.2.cap, .slice p2.a p2.len p2.cap, .string vcl, .bool vcn, .int .i64 vke, .bool vhw, .string vwt, .string vwp, .int .i64 vwq, .bool vwr, .slice w2.a w2.len w2.cap, .bool vhu, .bool vhp, .string vu, .string vpw, .bool vse, .slice none 0 0, .slice none 0 0] :: ownS (eKd .u8) 1 g.2.1 (xs.take g.1) :: ownS (eKd .i64) 1 g.2.2 ((xs.take g.1).map (IntKind.wrap .i64)) :: cells x1 (#[.int .i64 vk, .bool vd, .bool vr, .int .i64 vq, .int .i64 vi, .string vt, .string vp, .int .u8 vc, .slice s8.a s8.len s8.cap, .slice s9.a s9.len s9.cap, .string vcl, .bool vcn, .int .i64 vke, .bool vhw, .string vwt, .string vwp, .int .i64 vwq, .bool vwr, .slice s18.a s18.len s18.cap, .bool vhu, .bool vhp, .string vu, .string vpw, .bool vse, .slice s24.a s24.len s24.cap, .slice s25.a s25.len s25.cap]) :: cells x2 zS3 :: cells x3 zS2 :: ownS encPr 4 p1 (pl.take 80) :: ownS encPr 4 p2 (pl.take 80) :: old h0 :: L1)
    (fun g => xs.length - g.1) (0, nilS, nilS) ⟨rfl, Nat.zero_le _⟩ ?_ ?_
  · show Sub _ (cells x21 #[.int .i64 vk, .bool vd, .bool vr, .int .i64 vq, .int .i64 vi, .string vt, .string vp, .int .u8 vc, .slice none 0 0, .slice p1.a p1.len p1.cap, .string vcl, .bool vcn, .int .i64 vke, .bool vhw, .string vwt, .string vwp, .int .i64 vwq, .bool vwr, .slice w1.a w1.len w1.cap, .bool vhu, .bool vhp, .string vu, .string vpw, .bool vse, .slice none 0 0, .slice none 0 0] :: cells x39 #[.int .i64 vk, .bool vd, .bool vr, .int .i64 vq, .int .i64 vi, .string vt, .string vp, .int .i64 cc, .slice none 0 0, .slice p2.a p2.len p2.cap, .string vcl, .bool vcn, .int .i64 vke, .bool vhw, .string vwt, .string vwp, .int .i64 vwq, .bool vwr, .slice w2.a w2.len w2.cap, .bool vhu, .bool vhp, .string vu, .string vpw, .bool vse, .slice none 0 0, .slice none 0 0] :: ownS (eKd .u8) 1 nilS (xs.take 0) :: ownS (eKd .i64) 1 nilS ((xs.take 0).map (IntKind.wrap .i64)) :: cells x1 (#[.int .i64 vk, .bool vd, .bool vr, .int .i64 vq, .int .i64 vi, .string vt, .string vp, .int .u8 vc, .slice s8.a s8.len s8.cap, .slice s9.a s9.len s9.cap, .string vcl, .bool vcn, .int .i64 vke, .bool vhw, .string vwt, .string vwp, .int .i64 vwq, .bool vwr, .slice s18.a s18.len s18.cap, .bool vhu, .bool vhp, .string vu, .string vpw, .bool vse, .slice s24.a s24.len s24.cap, .slice s25.a s25.len s25.cap]) :: cells x2 zS3 :: cells x3 zS2 :: ownS encPr 4 p1 (pl.take 80) :: ownS encPr 4 p2 (pl.take 80) :: old h0 :: L1)
    repeat (first | with_reducible exact Go.H.Sub.rfl | with_reducible exact Go.H.Sub.nil | refine Go.H.Sub.cons (by repeat (first | with_reducible exact Go.H.has0 | apply Go.H.hasS)) ?_ | refine Go.H.Sub.drop ?_)
  rintro ⟨i, c1, c2⟩ s ⟨hi, hil⟩ K k1 k2
  simp only at hi hil
  by_cases hlt : i < xs.length
  · refine W.tt (by rw [hi, hr'.1]; exact decide_eq_true (by omega)) ?_
    have hgi : xs[i]? = some xs[i] := List.getElem?_eq_getElem hlt
    have htk : xs.take (i + 1) = xs.take i ++ [xs[i]] := List.take_succ_eq_append_getElem hlt
    generalize xs[i] = u at hgi htk
    have hb1 : ((xs.take i).length + 1) * 1 ≤ 140737488355328 := by simp only [List.length_map, List.length_take]; omega
    have hb2 : (((xs.take i).map (IntKind.wrap .i64)).length + 1) * 8 ≤ 140737488355328 := by simp only [List.length_map, List.length_take]; omega
    have hn : ∀ T1 T2 : Slc, At (cells x21 #[.int .i64 vk, .bool vd, .bool vr, .int .i64 vq, .int .i64 vi, .string vt, .string vp, .int .u8 vc, .slice T1.a T1.len T1.cap, .slice p1.a p1.len p1.cap, .string vcl, .bool vcn, .int .i64 vke, .bool vhw, .string vwt, .string vwp, .int .i64 vwq, .bool vwr, .slice w1.a w1.len w1.cap, .bool vhu, .bool vhp, .string vu, .string vpw, .bool vse, .slice none 0 0, .slice none 0 0] :: cells x39 #[.int .i64 vk, .bool vd, .bool vr, .int .i64 vq, .int .i64 vi, .string vt, .string vp, .int .i64 cc, .slice T2.a T2.len T2.cap, .slice p2.a p2.len p2.cap, .string vcl, .bool vcn, .int .i64 vke, .bool vhw, .string vwt, .string vwp, .int .i64 vwq, .bool vwr, .slice w2.a w2.len w2.cap, .bool vhu, .bool vhp, .string vu, .string vpw, .bool vse, .slice none 0 0, .slice none 0 0] :: ownS (eKd .u8) 1 T1 (xs.take i ++ [u]) :: ownS (eKd .i64) 1 T2 ((xs.take i).map (IntKind.wrap .i64) ++ [IntKind.wrap .i64 u]) :: cells x1 (#[.int .i64 vk, .bool vd, .bool vr, .int .i64 vq, .int .i64 vi, .string vt, .string vp, .int .u8 vc, .slice s8.a s8.len s8.cap, .slice s9.a s9.len s9.cap, .string vcl, .bool vcn, .int .i64 vke, .bool vhw, .string vwt, .string vwp, .int .i64 vwq, .bool vwr, .slice s18.a s18.len s18.cap, .bool vhu, .bool vhp, .string vu, .string vpw, .bool vse, .slice s24.a s24.len s24.cap, .slice s25.a s25.len s25.cap]) :: cells x2 zS3 :: cells x3 zS2 :: ownS encPr 4 p1 (pl.take 80) :: ownS encPr 4 p2 (pl.take 80) :: old h0 :: L1) (K (.inl (IntKind.wrap .i64 (s.1 + 1), ()))) := fun T1 T2 => by
      have := k1 (i + 1, T1, T2) (IntKind.wrap .i64 (s.1 + 1), ()) (by simp only; omega) ⟨by simp only [hi]; rw [q_al (by omega) (by omega)]; rfl, hlt⟩
      simp only [htk, List.map_append, List.map_cons, List.map_nil] at this
      exact this
    clear k1 k2
    refine W.idxo hr' hlt (fun a ha => ?_) (he := hi)
    refine W.loado0 (x := u) (v := u) hr' ha hgi ?_
    refine W.load (b := x21) (v := c1) ?_
    refine W.load (b := x39) (v := c2) ?_
    repeat' (first | with_reducible refine W.both ?_ ?_ | refine W.app1b (s := c1) (enc := eKd .u8) (u) (fun T1 => ?_) hb1 | refine W.app1b (s := c2) (enc := eKd .i64) (IntKind.wrap .i64 u) (fun T2 => ?_) hb2 | refine W.req ?_ rfl | refine W.load (b := x39) (v := c2) ?_ | refine W.load (b := x21) (v := c1) ?_ | refine W.newc fun _ => ?_)
    all_goals
      refine W.store (b := x21) (cs' := #[.int .i64 vk, .bool vd, .bool vr, .int .i64 vq, .int .i64 vi, .string vt, .string vp, .int .u8 vc, .slice T1.a T1.len T1.cap, .slice p1.a p1.len p1.cap, .string vcl, .bool vcn, .int .i64 vke, .bool vhw, .string vwt, .string vwp, .int .i64 vwq, .bool vwr, .slice w1.a w1.len w1.cap, .bool vhu, .bool vhp, .string vu, .string vpw, .bool vse, .slice none 0 0, .slice none 0 0]) ?_
      refine W.store (b := x39) (cs' := #[.int .i64 vk, .bool vd, .bool vr, .int .i64 vq, .int .i64 vi, .string vt, .string vp, .int .i64 cc, .slice T2.a T2.len T2.cap, .slice p2.a p2.len p2.cap, .string vcl, .bool vcn, .int .i64 vke, .bool vhw, .string vwt, .string vwp, .int .i64 vwq, .bool vwr, .slice w2.a w2.len w2.cap, .bool vhu, .bool vhp, .string vu, .string vpw, .bool vse, .slice none 0 0, .slice none 0 0]) ?_
      exact W.pure (hn T1 T2).sub
  refine W.ff (by rw [hi, hr'.1]; exact decide_eq_false (by omega)) (W.pure (k2 _ _ ?_))
  have hie : i = xs.length := by omega
  subst hie
  clear k1 k2 h80
  clear hr' hlt hil hi
  dsimp only
  refine W.load (b := x1) (v := s24) ?_
  refine W.load (b := x1) (v := s24) ?_
  refine W.slo80 hr24 (fun s' hr' => ?_)
  have h80 : (sl.take 80).length ≤ 80 := List.length_take_le _ _
  generalize hxs : sl.take 80 = xs at hr' hq h80
  clear hxs
  refine W.nil0 (encSb) 5 (xs.take 0) ?_
  refine W.nil0 (encSb) 5 (xs.take 0) ?_
  refine W.loop (γ := Nat × Slc × Slc) (fun g s => s.1 = (g.1 : Int) ∧ g.1 ≤ xs.length) (fun g s => cells x21 #[.int .i64 vk, .bool vd, .bool vr, .int .i64 vq, .int .i64 vi, .string vt, .string vp, .int .u8 vc, .slice c1.a c1.len c1.cap, .slice p1.a p1.len p1.cap, .string vcl, .bool vcn, .int .i64 vke, .bool vhw, .string vwt, .string vwp, .int .i64 vwq, .bool vwr, .slice w1.a w1.len w1.cap, .bool vhu, .bool vhp, .string vu, .string vpw, .bool vse, .slice g.2.1.a g.2.1.len g.2.1.cap, .slice none 0 0] :: cells x39 #[.int .i64 vk, .bool vd, .bool vr, .int .i64 vq, .int .i64 vi, .string vt, .string vp, .int .i64 cc, .slice c2.a c2.len c2.cap, .slice p2.a p2.len p2.cap, .string vcl, .bool vcn, .int .i64 vke, .bool vhw, .string vwt, .string vwp, .int .i64 vwq, .bool vwr, .slice w2.a w2.len w2.cap, .bool vhu, .bool vhp, .string vu, .string vpw, .bool vse, .slice g.2.2.a g.2.2.len g.2.2.cap, .slice none 0 0] :: ownS (encSb) 5 g.2.1 (xs.take g.1) :: ownS (encSb) 5 g.2.2 (xs.take g.1) :: cells x1 (#[.int .i64 vk, .bool vd, .bool vr, .int .i64 vq, .int .i64 vi, .string vt, .string vp, .int .u8 vc, .slice s8.a s8.len s8.cap, .slice s9.a s9.len s9.cap, .string vcl, .bool vcn, .int .i64 vke, .bool vhw, .string vwt, .string vwp, .int .i64 vwq, .bool vwr, .slice s18.a s18.len s18.cap, .bool vhu, .bool vhp, .string vu, .string vpw, .bool vse, .slice s24.a s24.len s24.cap, .slice s25.a s25.len s25.cap]) :: cells x2 zS3 :: cells x3 zS2 :: ownS encPr 4 p1 (pl.take 80) :: ownS encPr 4 p2 (pl.take 80) :: old h0 :: L1)
    (fun g => xs.length - g.1) (0, nilS, nilS) ⟨rfl, Nat.zero_le _⟩ ?_ ?_
  · show Sub _ (cells x21 #[.int .i64 vk, .bool vd, .bool vr, .int .i64 vq, .int .i64 vi, .string vt, .string vp, .int .u8 vc, .slice c1.a c1.len c1.cap, .slice p1.a p1.len p1.cap, .string vcl, .bool vcn, .int .i64 vke, .bool vhw, .string vwt, .string vwp, .int .i64 vwq, .bool vwr, .slice w1.a w1.len w1.cap, .bool vhu, .bool vhp, .string vu, .string vpw, .bool vse, .slice none 0 0, .slice none 0 0] :: cells x39 #[.int .i64 vk, .bool vd, .bool vr, .int .i64 vq, .int .i64 vi, .string vt, .string vp, .int .i64 cc, .slice c2.a c2.len c2.cap, .slice p2.a p2.len p2.cap, .string vcl, .bool vcn, .int .i64 vke, .bool vhw, .string vwt, .string vwp, .int .i64 vwq, .bool vwr, .slice w2.a w2.len w2.cap, .bool vhu, .bool vhp, .string vu, .string vpw, .bool vse, .slice none 0 0, .slice none 0 0] :: ownS (encSb) 5 nilS (xs.take 0) :: ownS (encSb) 5 nilS (xs.take 0) :: cells x1 (#[.int .i64 vk, .bool vd, .bool vr, .int .i64 vq, .int .i64 vi, .string vt, .string vp, .int .u8 vc, .slice s8.a s8.len s8.cap, .slice s9.a s9.len s9.cap, .string vcl, .bool vcn, .int .i64 vke, .bool vhw, .string vwt, .string vwp, .int .i64 vwq, .bool vwr, .slice s18.a s18.len s18.cap, .bool vhu, .bool vhp, .string vu, .string vpw, .bool vse, .slice s24.a s24.len s24.cap, .slice s25.a s25.len s25.cap]) :: cells x2 zS3 :: cells x3 zS2 :: ownS encPr 4 p1 (pl.take 80) :: ownS encPr 4 p2 (pl.take 80) :: old h0 :: L1)
    repeat (first | with_reducible exact Go.H.Sub.rfl | with_reducible exact Go.H.Sub.nil | refine Go.H.Sub.cons (by repeat (first | with_reducible exact Go.H.has0 | apply Go.H.hasS)) ?_ | refine Go.H.Sub.drop ?_)
  rintro ⟨i, s1, s2⟩ s ⟨hi, hil⟩ K k1 k2
  simp only at hi hil
  by_cases hlt : i < xs.length
  · refine W.tt (by rw [hi, hr'.1]; exact decide_eq_true (by omega)) ?_
    have hgi : xs[i]? = some xs[i] := List.getElem?_eq_getElem hlt
    have htk : xs.take (i + 1) = xs.take i ++ [xs[i]] := List.take_succ_eq_append_getElem hlt
    generalize xs[i] = u at hgi htk
    have hb1 : ((xs.take i).length + 1) * 40 ≤ 140737488355328 := by simp only [List.length_map, List.length_take]; omega
    have hb2 : ((xs.take i).length + 1) * 40 ≤ 140737488355328 := by simp only [List.length_map, List.length_take]; omega
    have hn : ∀ T1 T2 : Slc, At (cells x21 #[.int .i64 vk, .bool vd, .bool vr, .int .i64 vq, .int .i64 vi, .string vt, .string vp, .int .u8 vc, .slice c1.a c1.len c1.cap, .slice p1.a p1.len p1.cap, .string vcl, .bool vcn, .int .i64 vke, .bool vhw, .string vwt, .string vwp, .int .i64 vwq, .bool vwr, .slice w1.a w1.len w1.cap, .bool vhu, .bool vhp, .string vu, .string vpw, .bool vse, .slice T1.a T1.len T1.cap, .slice none 0 0] :: cells x39 #[.int .i64 vk, .bool vd, .bool vr, .int .i64 vq, .int .i64 vi, .string vt, .string vp, .int .i64 cc, .slice c2.a c2.len c2.cap, .slice p2.a p2.len p2.cap, .string vcl, .bool vcn, .int .i64 vke, .bool vhw, .string vwt, .string vwp, .int .i64 vwq, .bool vwr, .slice w2.a w2.len w2.cap, .bool vhu, .bool vhp, .string vu, .string vpw, .bool vse, .slice T2.a T2.len T2.cap, .slice none 0 0] :: ownS (encSb) 5 T1 (xs.take i ++ [u]) :: ownS (encSb) 5 T2 (xs.take i ++ [u]) :: cells x1 (#[.int .i64 vk, .bool vd, .bool vr, .int .i64 vq, .int .i64 vi, .string vt, .string vp, .int .u8 vc, .slice s8.a s8.len s8.cap, .slice s9.a s9.len s9.cap, .string vcl, .bool vcn, .int .i64 vke, .bool vhw, .string vwt, .string vwp, .int .i64 vwq, .bool vwr, .slice s18.a s18.len s18.cap, .bool vhu, .bool vhp, .string vu, .string vpw, .bool vse, .slice s24.a s24.len s24.cap, .slice s25.a s25.len s25.cap]) :: cells x2 zS3 :: cells x3 zS2 :: ownS encPr 4 p1 (pl.take 80) :: ownS encPr 4 p2 (pl.take 80) :: old h0 :: L1) (K (.inl (IntKind.wrap .i64 (s.1 + 1), ()))) := fun T1 T2 => by
      have := k1 (i + 1, T1, T2) (IntKind.wrap .i64 (s.1 + 1), ()) (by simp only; omega) ⟨by simp only [hi]; rw [q_al (by omega) (by omega)]; rfl, hlt⟩
      simp only [htk, List.map_append, List.map_cons, List.map_nil] at this
      exact this
    clear k1 k2 hq
    refine W.idxo hr' hlt (fun a ha => ?_) (he := hi)
    refine W.loadoN (x := u) (v := sbU u) hr' ha hgi ?_
    refine W.newc fun x92 => ?_
    refine W.storeN (b := x92) ?_
    refine W.load (b := x21) (v := s1) ?_
    refine W.loadN (b := x92) (v := sbU u) ?_
    refine W.load (b := x39) (v := s2) ?_
    refine W.loadN (b := x92) (v := sbU u) ?_
    repeat' (first | with_reducible refine W.both ?_ ?_ | refine W.app1b (s := s1) (enc := encSb) (u) (fun T1 => ?_) hb1 | refine W.app1b (s := s2) (enc := encSb) (u) (fun T2 => ?_) hb2 | refine W.req ?_ rfl | refine W.load (b := x39) (v := s2) ?_ | refine W.load (b := x21) (v := s1) ?_ | refine W.loadN (b := x92) (v := sbU u) ?_ | refine W.newc fun _ => ?_)
    all_goals
      refine W.store (b := x21) (cs' := #[.int .i64 vk, .bool vd, .bool vr, .int .i64 vq, .int .i64 vi, .string vt, .string vp, .int .u8 vc, .slice c1.a c1.len c1.cap, .slice p1.a p1.len p1.cap, .string vcl, .bool vcn, .int .i64 vke, .bool vhw, .string vwt, .string vwp, .int .i64 vwq, .bool vwr, .slice w1.a w1.len w1.cap, .bool vhu, .bool vhp, .string vu, .string vpw, .bool vse, .slice T1.a T1.len T1.cap, .slice none 0 0]) ?_
      refine W.store (b := x39) (cs' := #[.int .i64 vk, .bool vd, .bool vr, .int .i64 vq, .int .i64 vi, .string vt, .string vp, .int .i64 cc, .slice c2.a c2.len c2.cap, .slice p2.a p2.len p2.cap, .string vcl, .bool vcn, .int .i64 vke, .bool vhw, .string vwt, .string vwp, .int .i64 vwq, .bool vwr, .slice w2.a w2.len w2.cap, .bool vhu, .bool vhp, .string vu, .string vpw, .bool vse, .slice T2.a T2.len T2.cap, .slice none 0 0]) ?_
      exact W.pure (hn T1 T2).sub
  refine W.ff (by rw [hi, hr'.1]; exact decide_eq_false (by omega)) (W.pure (k2 _ _ ?_))
  have hie : i = xs.length := by omega
  subst hie
  clear k1 k2 h80
  rw [List.take_length]
  dsimp only
  generalize xs = sl80 at *
  refine W.load (b := x1) (v := s25) ?_
  refine W.load (b := x1) (v := s25) ?_
  refine W.slo80 hr25 (fun s' hr' => ?_)
  have h80 : (fl.take 80).length ≤ 80 := List.length_take_le _ _
  generalize hxs : fl.take 80 = xs at hr' hq h80
  clear hxs
  refine W.nil0 (encS1) 1 (xs.take 0) ?_
  refine W.nil0 (encS1) 1 (xs.take 0) ?_
  refine W.loop (γ := Nat × Slc × Slc) (fun g s => s.1 = (g.1 : Int) ∧ g.1 ≤ xs.length) (fun g s => cells x21 #[.int .i64 vk, .bool vd, .bool vr, .int .i64 vq, .int .i64 vi, .string vt, .string vp, .int .u8 vc, .slice c1.a c1.len c1.cap, .slice p1.a p1.len p1.cap, .string vcl, .bool vcn, .int .i64 vke, .bool vhw, .string vwt, .string vwp, .int .i64 vwq, .bool vwr, .slice w1.a w1.len w1.cap, .bool vhu, .bool vhp, .string vu, .string vpw, .bool vse, .slice s1.a s1.len s1.cap, .slice g.2.1.a g.2.1.len g.2.1.cap] :: cells x39 #[.int .i64 vk, .bool vd, .bool vr, .int .i64 vq, .int .i64 vi, .string vt, .string vp, .int .i64 cc, .slice c2.a c2.len c2.cap, .slice p2.a p2.len p2.cap, .string vcl, .bool vcn, .int .i64 vke, .bool vhw, .string vwt, .string vwp, .int .i64 vwq, .bool vwr, .slice w2.a w2.len w2.cap, .bool vhu, .bool vhp, .string vu, .string vpw, .bool vse, .slice s2.a s2.len s2.cap, .slice g.2.2.a g.2.2.len g.2.2.cap] :: ownS (encS1) 1 g.2.1 (xs.take g.1) :: ownS (encS1) 1 g.2.2 (xs.take g.1) :: cells x1 (#[.int .i64 vk, .bool vd, .bool vr, .int .i64 vq, .int .i64 vi, .string vt, .string vp, .int .u8 vc, .slice s8.a s8.len s8.cap, .slice s9.a s9.len s9.cap, .string vcl, .bool vcn, .int .i64 vke, .bool vhw, .string vwt, .string vwp, .int .i64 vwq, .bool vwr, .slice s18.a s18.len s18.cap, .bool vhu, .bool vhp, .string vu, .string vpw, .bool vse, .slice s24.a s24.len s24.cap, .slice s25.a s25.len s25.cap]) :: cells x2 zS3 :: cells x3 zS2 :: ownS encPr 4 p1 (pl.take 80) :: ownS encPr 4 p2 (pl.take 80) :: ownS encSb 5 s1 sl80 :: ownS encSb 5 s2 sl80 :: old h0 :: L1)
    (fun g => xs.length - g.1) (0, nilS, nilS) ⟨rfl, Nat.zero_le _⟩ ?_ ?_
  · show Sub _ (cells x21 #[.int .i64 vk, .bool vd, .bool vr, .int .i64 vq, .int .i64 vi, .string vt, .string vp, .int .u8 vc, .slice c1.a c1.len c1.cap, .slice p1.a p1.len p1.cap, .string vcl, .bool vcn, .int .i64 vke, .bool vhw, .string vwt, .string vwp, .int .i64 vwq, .bool vwr, .slice w1.a w1.len w1.cap, .bool vhu, .bool vhp, .string vu, .string vpw, .bool vse, .slice s1.a s1.len s1.cap, .slice none 0 0] :: cells x39 #[.int .i64 vk, .bool vd, .bool vr, .int .i64 vq, .int .i64 vi, .string vt, .string vp, .int .i64 cc, .slice c2.a c2.len c2.cap, .slice p2.a p2.len p2.cap, .string vcl, .bool vcn, .int .i64 vke, .bool vhw, .string vwt, .string vwp, .int .i64 vwq, .bool vwr, .slice w2.a w2.len w2.cap, .bool vhu, .bool vhp, .string vu, .string vpw, .bool vse, .slice s2.a s2.len s2.cap, .slice none 0 0] :: ownS (encS1) 1 nilS (xs.take 0) :: ownS (encS1) 1 nilS (xs.take 0) :: cells x1 (#[.int .i64 vk, .bool vd, .bool vr, .int .i64 vq, .int .i64 vi, .string vt, .string vp, .int .u8 vc, .slice s8.a s8.len s8.cap, .slice s9.a s9.len s9.cap, .string vcl, .bool vcn, .int .i64 vke, .bool vhw, .string vwt, .string vwp, .int .i64 vwq, .bool vwr, .slice s18.a s18.len s18.cap, .bool vhu, .bool vhp, .string vu, .string vpw, .bool vse, .slice s24.a s24.len s24.cap, .slice s25.a s25.len s25.cap]) :: cells x2 zS3 :: cells x3 zS2 :: ownS encPr 4 p1 (pl.take 80) :: ownS encPr 4 p2 (pl.take 80) :: ownS encSb 5 s1 sl80 :: ownS encSb 5 s2 sl80 :: old h0 :: L1)
    repeat (first | with_reducible exact Go.H.Sub.rfl | with_reducible exact Go.H.Sub.nil | refine Go.H.Sub.cons (by repeat (first | with_reducible exact Go.H.has0 | apply Go.H.hasS)) ?_ | refine Go.H.Sub.drop ?_)
  rintro ⟨i, f1, f2⟩ s ⟨hi, hil⟩ K k1 k2
  simp only at hi hil
  by_cases hlt : i < xs.length
  · refine W.tt (by rw [hi, hr'.1]; exact decide_eq_true (by omega)) ?_
    have hgi : xs[i]? = some xs[i] := List.getElem?_eq_getElem hlt
    have htk : xs.take (i + 1) = xs.take i ++ [xs[i]] := List.take_succ_eq_append_getElem hlt
    generalize xs[i] = u at hgi htk
    have hb1 : ((xs.take i).length + 1) * 16 ≤ 140737488355328 := by simp only [List.length_map, List.length_take]; omega
    have hb2 : ((xs.take i).length + 1) * 16 ≤ 140737488355328 := by simp only [List.length_map, List.length_take]; omega
    have hn : ∀ T1 T2 : Slc, At (cells x21 #[.int .i64 vk, .bool vd, .bool vr, .int .i64 vq, .int .i64 vi, .string vt, .string vp, .int .u8 vc, .slice c1.a c1.len c1.cap, .slice p1.a p1.len p1.cap, .string vcl, .bool vcn, .int .i64 vke, .bool vhw, .string vwt, .string vwp, .int .i64 vwq, .bool vwr, .slice w1.a w1.len w1.cap, .bool vhu, .bool vhp, .string vu, .string vpw, .bool vse, .slice s1.a s1.len s1.cap, .slice T1.a T1.len T1.cap] :: cells x39 #[.int .i64 vk, .bool vd, .bool vr, .int .i64 vq, .int .i64 vi, .string vt, .string vp, .int .i64 cc, .slice c2.a c2.len c2.cap, .slice p2.a p2.len p2.cap, .string vcl, .bool vcn, .int .i64 vke, .bool vhw, .string vwt, .string vwp, .int .i64 vwq, .bool vwr, .slice w2.a w2.len w2.cap, .bool vhu, .bool vhp, .string vu, .string vpw, .bool vse, .slice s2.a s2.len s2.cap, .slice T2.a T2.len T2.cap] :: ownS (encS1) 1 T1 (xs.take i ++ [u]) :: ownS (encS1) 1 T2 (xs.take i ++ [u]) :: cells x1 (#[.int .i64 vk, .bool vd, .bool vr, .int .i64 vq, .int .i64 vi, .string vt, .string vp, .int .u8 vc, .slice s8.a s8.len s8.cap, .slice s9.a s9.len s9.cap, .string vcl, .bool vcn, .int .i64 vke, .bool vhw, .string vwt, .string vwp, .int .i64 vwq, .bool vwr, .slice s18.a s18.len s18.cap, .bool vhu, .bool vhp, .string vu, .string vpw, .bool vse, .slice s24.a s24.len s24.cap, .slice s25.a s25.len s25.cap]) :: cells x2 zS3 :: cells x3 zS2 :: ownS encPr 4 p1 (pl.take 80) :: ownS encPr 4 p2 (pl.take 80) :: ownS encSb 5 s1 sl80 :: ownS encSb 5 s2 sl80 :: old h0 :: L1) (K (.inl (IntKind.wrap .i64 (s.1 + 1), ()))) := fun T1 T2 => by
      have := k1 (i + 1, T1, T2) (IntKind.wrap .i64 (s.1 + 1), ()) (by simp only; omega) ⟨by simp only [hi]; rw [q_al (by omega) (by omega)]; rfl, hlt⟩
      simp only [htk, List.map_append, List.map_cons, List.map_nil] at this
      exact this
    clear k1 k2 hq
    refine W.idxo hr' hlt (fun a ha => ?_) (he := hi)
    refine W.loado0 (x := u) (v := u) hr' ha hgi ?_
    refine W.load (b := x21) (v := f1) ?_
    refine W.load (b := x39) (v := f2) ?_
    repeat' (first | with_reducible refine W.both ?_ ?_ | refine W.app1b (s := f1) (enc := encS1) (u) (fun T1 => ?_) hb1 | refine W.app1b (s := f2) (enc := encS1) (u) (fun T2 => ?_) hb2 | refine W.req ?_ rfl | refine W.load (b := x39) (v := f2) ?_ | refine W.load (b := x21) (v := f1) ?_ | refine W.newc fun _ => ?_)
    all_goals
      refine W.store (b := x21) (cs' := #[.int .i64 vk, .bool vd, .bool vr, .int .i64 vq, .int .i64 vi, .string vt, .string vp, .int .u8 vc, .slice c1.a c1.len c1.cap, .slice p1.a p1.len p1.cap, .string vcl, .bool vcn, .int .i64 vke, .bool vhw, .string vwt, .string vwp, .int .i64 vwq, .bool vwr, .slice w1.a w1.len w1.cap, .bool vhu, .bool vhp, .string vu, .string vpw, .bool vse, .slice s1.a s1.len s1.cap, .slice T1.a T1.len T1.cap]) ?_
      refine W.store (b := x39) (cs' := #[.int .i64 vk, .bool vd, .bool vr, .int .i64 vq, .int .i64 vi, .string vt, .string vp, .int .i64 cc, .slice c2.a c2.len c2.cap, .slice p2.a p2.len p2.cap, .string vcl, .bool vcn, .int .i64 vke, .bool vhw, .string vwt, .string vwp, .int .i64 vwq, .bool vwr, .slice w2.a w2.len w2.cap, .bool vhu, .bool vhp, .string vu, .string vpw, .bool vse, .slice s2.a s2.len s2.cap, .slice T2.a T2.len T2.cap]) ?_
      exact W.pure (hn T1 T2).sub
  refine W.ff (by rw [hi, hr'.1]; exact decide_eq_false (by omega)) (W.pure (k2 _ _ ?_))
  have hie : i = xs.length := by omega
  subst hie
  clear k1 k2 h80
  rw [List.take_length]
  dsimp only
  refine W.loadN (b := x21) (v := (vk, vd, vr, vq, vi, vt, vp, vc, c1, p1, vcl, vcn, vke, vhw, vwt, vwp, vwq, vwr, w1, vhu, vhp, vu, vpw, vse, s1, f1, ())) ?_
  refine W.loadN (b := x39) (v := (vk, vd, vr, vq, vi, vt, vp, cc, c2, p2, vcl, vcn, vke, vhw, vwt, vwp, vwq, vwr, w2, vhu, vhp, vu, vpw, vse, s2, f2, ())) ?_
  refine W.storeN (b := x2) ?_
  refine W.loadN (b := x39) (v := (vk, vd, vr, vq, vi, vt, vp, cc, c2, p2, vcl, vcn, vke, vhw, vwt, vwp, vwq, vwr, w2, vhu, vhp, vu, vpw, vse, s2, f2, ())) ?_
  refine W.req ?_ rfl
  refine W.storeN (b := x3) ?_
  refine W.loadN (b := x2) (v := (vk, vd, vr, vq, vi, vt, vp, vc, c1, p1, vcl, vcn, vke, vhw, vwt, vwp, vwq, vwr, w1, vhu, vhp, vu, vpw, vse, s1, f1, ())) ?_
  refine W.loadN (b := x3) (v := (vk, vd, vr, vq, vi, vt, vp, cc, c2, p2, vcl, vcn, vke, vhw, vwt, vwp, vwq, vwr, w2, vhu, vhp, vu, vpw, vse, s2, f2, ())) ?_
  exact W.pure (hq c1 c2 p1 p2 w1 w2 s1 s2 f1 f2).sub
theorem bPacketNil_w {c : Int} {p : Pk} {full : Bool} (hq : At L (Q (.agg #[.slice none 0 0, .slice none 0 0]))) : FW Tryz.prog 13 #[.pointer none, .int .i64 c, vPkK .u8 p, .bool full] L Q := by
  refine fun h hs => q_br none c p full h Q ((?_ : W L _ _) h hs)
  clear hs h
  unfold q_a4
  refine W.newc fun x1 => ?_
  refine W.newc fun x2 => ?_
  refine W.tt rfl ?_
  refine W.storeN ?_
  refine W.loadN (v := (nilS, nilS, ())) ?_
  exact W.pure hq.sub
theorem bLostNil_w {c : Int} {full : Bool} (hq : At L (Q (.agg #[.slice none 0 0, .slice none 0 0]))) : FW Tryz.prog 24 #[.pointer none, .int .i64 c, .bool full] L Q := by
  refine fun h hs => q_fm none c full h Q ((?_ : W L _ _) h hs)
  clear hs h
  unfold q_cg
  refine W.newc fun x2 => ?_
  refine W.tt rfl ?_
  refine W.storeN ?_
  refine W.loadN (v := (nilS, nilS, ())) ?_
  exact W.pure hq.sub
theorem bDeliverNil_w {m : MsT} (hq : At L (Q (.slice none 0 0))) : FW Tryz.prog 19 #[.pointer none, vMs m] L Q := by
  refine fun h hs => q_ef none (toU m) h Q ((?_ : W L _ _) h hs)
  clear hs h
  unfold q_bm
  refine W.newc fun x1 => ?_
  exact W.tt rfl (W.pure hq.sub)
theorem bFiltersNil_w (hq : At L (Q (.slice none 0 0))) : FW Tryz.prog 20 #[.pointer none] L Q := by
  refine fun h hs => q_ee none h Q ((?_ : W L _ _) h hs)
  unfold q_bl
  exact W.tt rfl (W.pure hq)
theorem bSessionsNil_w (hq : At L (Q (.slice none 0 0))) : FW Tryz.prog 18 #[.pointer none] L Q := by
  refine fun h hs => q_dp none h Q ((?_ : W L _ _) h hs)
  unfold q_bf
  exact W.tt rfl (W.pure hq)
theorem bConnsNil_w (hq : At L (Q (.slice none 0 0))) : FW Tryz.prog 17 #[.pointer none] L Q := by
  refine fun h hs => q_fa none h Q ((?_ : W L _ _) h hs)
  unfold q_b0
  exact W.tt rfl (W.pure hq)
theorem bFlowNil_w {c : ByteArray} (hq : At L (Q (.tuple #[.slice none 0 0, .slice none 0 0]))) : FW Tryz.prog 26 #[.pointer none, .string c] L Q := by
  refine fun h hs => q_fn none c h Q ((?_ : W L _ _) h hs)
  unfold q_ch
  exact W.tt rfl (W.pure hq)
theorem bRestartNil_w (hq : At L (Q (.tuple #[]))) : FW Tryz.prog 25 #[.pointer none] L Q := by
  refine fun h hs => q_ed none h Q ((?_ : W L _ _) h hs)
  clear hs h
  unfold q_bk
  refine W.newc fun x1 => ?_
  refine W.call1 (bConnsNil_w (At.un (x := nilS) ?_))
  refine W.loop (γ := Unit) (fun _ s => s.1 = 0) (fun _ _ => L) (fun _ => 0) () rfl ?_ ?_
  · repeat (first | with_reducible exact Go.H.Sub.rfl | with_reducible exact Go.H.Sub.nil | refine Go.H.Sub.cons (by repeat (first | with_reducible exact Go.H.has0 | apply Go.H.hasS)) ?_ | refine Go.H.Sub.drop ?_)
  rintro _ s hi K k1 k2
  refine W.ff (by rw [hi]; rfl) (W.pure (k2 _ _ ?_))
  exact W.pure hq
end Go.Proofs.YtidlldnlphdhcaaGreatDoor
namespace Go.Proofs.YtidlldnlphdhcaaGreatDoor
open Go.ChangeShapes Go.WideShapes Go.ChangeAt Go.RowKit Go.Proofs Go.Lib Go.H
set_option linter.unusedSimpArgs false
set_option linter.unusedVariables false
set_option maxRecDepth 100000
structure PkQ where
  pk : Pk
  cl : List Int
  pl : List PropT
  wl : List PropT
  sl : List SubT
  fl : List ByteArray
structure PkG (top : Nat) (h : Heap) (x : PkQ) : Prop where
  rows : PkIn h x.pk x.pl x.wl x.cl x.sl x.fl
  topic : x.pk.2.2.2.2.2.1.size ≤ top
  client : (x.pk.2.2.2.2.2.2.2.2.2.2.1).size ≤ top
  will : (x.pk.2.2.2.2.2.2.2.2.2.2.2.2.2.2.1).size ≤ top
  subs : ∀ s ∈ x.sl, s.1.size ≤ top
  fils : ∀ f ∈ x.fl, f.size ≤ top
  code : (Lit.int .u8 x.pk.2.2.2.2.2.2.2.1).wf = true
structure EvQ where
  what : Int
  conn : Int
  p : PkQ
  full : Bool
  m : MsT
structure EvG (top : Nat) (h : Heap) (x : EvQ) : Prop where
  p : PkG top h x.p
  conn : (Lit.int .i64 x.conn).wf = true
  what : (Lit.int .i64 x.what).wf = true
  topic : x.m.1.size ≤ top
abbrev encEv (x : EvQ) : List Value := [.int .i64 x.what, .int .i64 x.conn] ++ encPkK .u8 x.p.pk ++ [.bool x.full, .string x.m.1, .string x.m.2.1, .int .i64 x.m.2.2.1, .bool x.m.2.2.2.1, .string x.m.2.2.2.2]
section
variable {H : Type} {ec : TypeId × Value → H} {w : World} {base : Nat} {sp : Nat → Bool} {held : Bool} {ok : TypeId → DataW H → Prop} {top : Nat} {wt : TypeId → Nat}
theorem rd_Prop19 (hk : Go.R.OkLaw Tryz.prog ok top wt) : Go.R.RdG ec Tryz.prog w base sp held ok 193 encPr (fun x : PropT => (Lit.int .i64 x.1).wf = true ∧ (Lit.int .i64 x.2.1).wf = true ∧ x.2.2.1.size ≤ top ∧ x.2.2.2.size ≤ top) :=
  Go.R.rg_map (fun x : PropT => x) (Go.R.rg_struct hk Tryz.underlying193 (n := 4) (by kernel_rfl) (Go.R.rf_cons (c := 1) (by kernel_rfl) (by rfl) (Go.R.rg_int Tryz.underlying3)
    (Go.R.rf_cons (c := 1) (by kernel_rfl) (by rfl) (Go.R.rg_int Tryz.underlying3)
    (Go.R.rf_cons (c := 1) (by kernel_rfl) (by rfl) (Go.R.rg_str hk Tryz.underlying9)
    (Go.R.rf_one (c := 1) (by kernel_rfl) (by rfl) (by decide) (Go.R.rg_str hk Tryz.underlying9)))))) (fun _ => rfl) (fun _ h => h)
theorem rd_Sub19 (hk : Go.R.OkLaw Tryz.prog ok top wt) : Go.R.RdG ec Tryz.prog w base sp held ok 119 encSb (fun x : SubT => x.1.size ≤ top ∧ (Lit.int .i64 x.2.1).wf = true ∧ True ∧ True ∧ (Lit.int .i64 x.2.2.2.2).wf = true) :=
  Go.R.rg_map (fun x : SubT => x) (Go.R.rg_struct hk Tryz.underlying119 (n := 5) (by kernel_rfl) (Go.R.rf_cons (c := 1) (by kernel_rfl) (by rfl) (Go.R.rg_str hk Tryz.underlying9)
    (Go.R.rf_cons (c := 1) (by kernel_rfl) (by rfl) (Go.R.rg_int Tryz.underlying3)
    (Go.R.rf_cons (c := 1) (by kernel_rfl) (by rfl) (Go.R.rg_bool Tryz.underlying4)
    (Go.R.rf_cons (c := 1) (by kernel_rfl) (by rfl) (Go.R.rg_bool Tryz.underlying4)
    (Go.R.rf_one (c := 1) (by kernel_rfl) (by rfl) (by decide) (Go.R.rg_int Tryz.underlying3))))))) (fun _ => rfl) (fun _ h => h)
theorem rd_Msg19 (hk : Go.R.OkLaw Tryz.prog ok top wt) : Go.R.RdG ec Tryz.prog w base sp held ok 29 encM (fun x : MsT => x.1.size ≤ top ∧ x.2.1.size ≤ top ∧ (Lit.int .i64 x.2.2.1).wf = true ∧ True ∧ x.2.2.2.2.size ≤ top) :=
  Go.R.rg_map (fun x : MsT => x) (Go.R.rg_struct hk Tryz.underlying29 (n := 5) (by kernel_rfl) (Go.R.rf_cons (c := 1) (by kernel_rfl) (by rfl) (Go.R.rg_str hk Tryz.underlying9)
    (Go.R.rf_cons (c := 1) (by kernel_rfl) (by rfl) (Go.R.rg_str hk Tryz.underlying9)
    (Go.R.rf_cons (c := 1) (by kernel_rfl) (by rfl) (Go.R.rg_int Tryz.underlying3)
    (Go.R.rf_cons (c := 1) (by kernel_rfl) (by rfl) (Go.R.rg_bool Tryz.underlying4)
    (Go.R.rf_one (c := 1) (by kernel_rfl) (by rfl) (by decide) (Go.R.rg_str hk Tryz.underlying9))))))) (fun _ => rfl) (fun _ h => h)
abbrev WillR := ByteArray × ByteArray × Int × Bool × (Slc × List PropT)
theorem rd_Will19 (hk : Go.R.OkLaw Tryz.prog ok top wt) : Go.R.RdG ec Tryz.prog w base sp held ok 57 (fun x : WillR => [.string x.1, .string x.2.1, .int .i64 x.2.2.1, .bool x.2.2.2.1, .slice x.2.2.2.2.1.a x.2.2.2.2.1.len x.2.2.2.2.1.cap]) (fun x => x.1.size ≤ top ∧ RowAt encPr 4 w.heap x.2.2.2.2.1 x.2.2.2.2.2) :=
  Go.R.rg_map (fun x : WillR => x) (Go.R.rg_struct hk Tryz.underlying57 (n := 5) (by kernel_rfl) (Go.R.rf_cons (c := 1) (by kernel_rfl) (by rfl) (Go.R.rg_str hk Tryz.underlying9)
    (Go.R.rf_cons (c := 1) (by kernel_rfl) (by rfl) (Go.R.rg_str hk Tryz.underlying9)
    (Go.R.rf_cons (c := 1) (by kernel_rfl) (by rfl) (Go.R.rg_int Tryz.underlying3)
    (Go.R.rf_cons (c := 1) (by kernel_rfl) (by rfl) (Go.R.rg_bool Tryz.underlying4)
    (Go.R.rf_one (c := 1) (by kernel_rfl) (by rfl) (by decide) (Go.R.rg_slice hk Tryz.underlying55 (by kernel_rfl) rfl (rd_Prop19 hk)))))))) (fun _ => rfl) (fun _ h => ⟨h.1, h.2.2.2.2.row⟩)
abbrev PkR19 := Int × Bool × Bool × Int × Int × ByteArray × ByteArray × Int × (Slc × List Int) × (Slc × List PropT) × ByteArray × Bool × Int × Bool × WillR × Bool × Bool × ByteArray × ByteArray × Bool × (Slc × List SubT) × (Slc × List ByteArray)
def toPkQ : PkR19 → PkQ | (vk, vd, vr, vq, vi, vt, vp, vc, (s8, cl), (s9, pl), vcl, vcn, vke, vhw, (vwt, vwp, vwq, vwr, s18, wl), vhu, vhp, vu, vpw, vse, (s24, sl), (s25, fl)) => ⟨(vk, vd, vr, vq, vi, vt, vp, vc, s8, s9, vcl, vcn, vke, vhw, vwt, vwp, vwq, vwr, s18, vhu, vhp, vu, vpw, vse, s24, s25, ()), cl, pl, wl, sl, fl⟩
theorem rd_Packet19 (hk : Go.R.OkLaw Tryz.prog ok top wt) : Go.R.RdG ec Tryz.prog w base sp held ok 60 (fun x : PkQ => encPkK .u8 x.pk) (PkG top w.heap) :=
  Go.R.rg_map toPkQ (Go.R.rg_struct hk Tryz.underlying60 (n := 26) (by kernel_rfl) (Go.R.rf_cons (c := 1) (by kernel_rfl) (by rfl) (Go.R.rg_int Tryz.underlying3)
    (Go.R.rf_cons (c := 1) (by kernel_rfl) (by rfl) (Go.R.rg_bool Tryz.underlying4)
    (Go.R.rf_cons (c := 1) (by kernel_rfl) (by rfl) (Go.R.rg_bool Tryz.underlying4)
    (Go.R.rf_cons (c := 1) (by kernel_rfl) (by rfl) (Go.R.rg_int Tryz.underlying3)
    (Go.R.rf_cons (c := 1) (by kernel_rfl) (by rfl) (Go.R.rg_int Tryz.underlying3)
    (Go.R.rf_cons (c := 1) (by kernel_rfl) (by rfl) (Go.R.rg_str hk Tryz.underlying9)
    (Go.R.rf_cons (c := 1) (by kernel_rfl) (by rfl) (Go.R.rg_str hk Tryz.underlying9)
    (Go.R.rf_cons (c := 1) (by kernel_rfl) (by rfl) (Go.R.rg_int Tryz.underlying5)
    (Go.R.rf_cons (c := 1) (by kernel_rfl) (by rfl) (Go.R.rg_slice hk Tryz.underlying54 (by kernel_rfl) rfl (Go.R.rg_int Tryz.underlying5))
    (Go.R.rf_cons (c := 1) (by kernel_rfl) (by rfl) (Go.R.rg_slice hk Tryz.underlying55 (by kernel_rfl) rfl (rd_Prop19 hk))
    (Go.R.rf_cons (c := 1) (by kernel_rfl) (by rfl) (Go.R.rg_str hk Tryz.underlying9)
    (Go.R.rf_cons (c := 1) (by kernel_rfl) (by rfl) (Go.R.rg_bool Tryz.underlying4)
    (Go.R.rf_cons (c := 1) (by kernel_rfl) (by rfl) (Go.R.rg_int Tryz.underlying3)
    (Go.R.rf_cons (c := 1) (by kernel_rfl) (by rfl) (Go.R.rg_bool Tryz.underlying4)
    (Go.R.rf_cons (c := 5) (by kernel_rfl) (by rfl) (rd_Will19 hk)
    (Go.R.rf_cons (c := 1) (by kernel_rfl) (by rfl) (Go.R.rg_bool Tryz.underlying4)
    (Go.R.rf_cons (c := 1) (by kernel_rfl) (by rfl) (Go.R.rg_bool Tryz.underlying4)
    (Go.R.rf_cons (c := 1) (by kernel_rfl) (by rfl) (Go.R.rg_str hk Tryz.underlying9)
    (Go.R.rf_cons (c := 1) (by kernel_rfl) (by rfl) (Go.R.rg_str hk Tryz.underlying9)
    (Go.R.rf_cons (c := 1) (by kernel_rfl) (by rfl) (Go.R.rg_bool Tryz.underlying4)
    (Go.R.rf_cons (c := 1) (by kernel_rfl) (by rfl) (Go.R.rg_slice hk Tryz.underlying58 (by kernel_rfl) rfl (rd_Sub19 hk))
    (Go.R.rf_one (c := 1) (by kernel_rfl) (by rfl) (by decide) (Go.R.rg_slice hk Tryz.underlying43 (by kernel_rfl) rfl (Go.R.rg_str hk Tryz.underlying9)))))))))))))))))))))))))
    (fun (vk, vd, vr, vq, vi, vt, vp, vc, (s8, cl), (s9, pl), vcl, vcn, vke, vhw, (vwt, vwp, vwq, vwr, s18, wl), vhu, vhp, vu, vpw, vse, (s24, sl), (s25, fl)) => rfl) (fun (vk, vd, vr, vq, vi, vt, vp, vc, (s8, cl), (s9, pl), vcl, vcn, vke, vhw, (vwt, vwp, vwq, vwr, s18, wl), vhu, vhp, vu, vpw, vse, (s24, sl), (s25, fl)) ⟨_, _, _, _, _, g5, _, g7, g8, g9, g10, _, _, _, g14, _, _, _, _, _, g20, g21⟩ => ⟨⟨g9.row, g14.2, g8.row, g20.row, g21.row⟩, g5, g10, g14.1, fun s hs => (g20.good s hs).1, fun f hf => g21.good f hf, g7⟩)
def toEvQ : Int × Int × PkQ × Bool × MsT → EvQ | (a, b, c, d, e) => ⟨a, b, c, d, e⟩
theorem rd_Event19 (hk : Go.R.OkLaw Tryz.prog ok top wt) : Go.R.RdG ec Tryz.prog w base sp held ok 62 encEv (EvG top w.heap) :=
  Go.R.rg_map toEvQ (Go.R.rg_struct hk Tryz.underlying62 (n := 34) (by kernel_rfl) (Go.R.rf_cons (c := 1) (by kernel_rfl) (by rfl) (Go.R.rg_int Tryz.underlying3)
    (Go.R.rf_cons (c := 1) (by kernel_rfl) (by rfl) (Go.R.rg_int Tryz.underlying3)
    (Go.R.rf_cons (c := 26) (by kernel_rfl) (by rfl) (rd_Packet19 hk)
    (Go.R.rf_cons (c := 1) (by kernel_rfl) (by rfl) (Go.R.rg_bool Tryz.underlying4)
    (Go.R.rf_one (c := 5) (by kernel_rfl) (by rfl) (by decide) (rd_Msg19 hk)))))))
    (fun (a, b, c, d, e) => rfl) (fun (a, b, c, d, e) ⟨g0, g1, g2, _, g4⟩ => ⟨g2, g1, g0, g4.1⟩)
end
end Go.Proofs.YtidlldnlphdhcaaGreatDoor
namespace Go.Proofs.YtidlldnlphdhcaaGreatDoor
open Go.H Go.Proofs
set_option linter.unusedSimpArgs false
set_option linter.unusedVariables false
set_option maxRecDepth 100000
variable {h h0 : Heap} {L L' L1 L2 L3 L4 L5 R : List Asn} {Q : Value → Heap → Prop}
theorem W.rown {α γ : Type} {enc : γ → List Value} {size n : Nat} {m : HM α} {Q' : α → Heap → Prop} {x : Nat} {cs : Array Value} (us : List γ) (hw : W (ownS enc size ⟨some ⟨x, 0, none⟩, n, n⟩ us :: L') m Q') (hx : Has L (cells x cs) L' := by repeat (first | with_reducible exact Go.H.has0 | apply Go.H.hasS)) (hc : cs = (us.flatMap enc).toArray := by rfl) (hn : us.length = n := by rfl) [Enc enc size] : W L m Q' := fun h hs => by
  subst hc hn
  have hl := q_at (Enc.len (enc := enc)) us
  refine hw h (q_cq (b := x) (o := 0) (cs := (us.flatMap enc).toArray) ⟨by simp, Nat.le_refl _, rfl, by simp [hl], by
    simp only [Nat.zero_mul, List.drop_zero]
    exact List.take_of_length_le (Nat.le_of_eq hl)⟩ (hx.s hs))
theorem map_two {α β : Type} {f : α → β} {T : List α} {x y : β} (h : T.map f = [x, y]) : ∃ a b, T = [a, b] ∧ f a = x ∧ f b = y := by
  rcases T with _ | ⟨a, _ | ⟨b, _ | ⟨c, T⟩⟩⟩ <;> simp at h
  exact ⟨a, b, rfl, h⟩
theorem z0 : 0 ≤ 999999 := by decide
theorem z2 : 2 ≤ 999999 := by decide
theorem nd0 : (([] : List ConnS).map (·.c)).Nodup := by simp
theorem kl0 : ([] : List MsgT).length ≤ 64 := by decide
theorem ci1 : -9223372036854775808 ≤ (1 : Int) ∧ (1 : Int) ≤ 9223372036854775807 := by decide
theorem ci2 : -9223372036854775808 ≤ (2 : Int) ∧ (2 : Int) ≤ 9223372036854775807 := by decide
theorem sz1 : tC1.size ≤ 9223372036854775807 := by decide
theorem sl2 : slW.length ≤ 100 := by decide
theorem ss2 : ∀ s ∈ slW, s.1.size ≤ 9223372036854775807 := by decide
theorem sl0 : ([] : List SubT).length ≤ 100 := by decide
theorem ss0 : ∀ s ∈ ([] : List SubT), s.1.size ≤ 9223372036854775807 := by simp
theorem nd2 : (B2w.conns.map (·.c)).Nodup := by decide
theorem kl2 : B2w.kept.length ≤ 64 := by decide
theorem wr2 : (slW = [] ∧ B2w = B1w) ∨ (slW ≠ [] ∧ packetB false 1 (subP 1 slW) B1w = ⟨B2w, (⟨1, ackCs 9 1 [1, 0], false⟩ : OutO) :: [], []⟩ ∧ (⟨1, ackCs 9 1 [1, 0], false⟩ : OutO).pk.kind = 9 ∧ (⟨1, ackCs 9 1 [1, 0], false⟩ : OutO).pk.codes.length = slW.length) := .inr ⟨by simp, w2, rfl, rfl⟩
theorem pkW : PkOK (pubK mW 9) [] [] [] := pubK_ok (by decide)
theorem wakes_w (ht : TP h0) (hq : At (old h0 :: L1) (Q (.bool true))) (hx : Has L (old h0) L1 := by repeat (first | with_reducible exact Go.H.has0 | apply Go.H.hasS)) : FW Tryz.prog 10 #[] L Q := by
  refine fun h hs => law19_wakes_calls h Q ((?_ : W (old h0 :: L1) _ _) h (hx.s hs))
  clear hs h hx
  unfold law19_wakes
  refine W.call1 (bNew_w (fun b => At.un (x := some ⟨b, 0, none⟩) ?_))
  refine W.cutp (fun r => r.1 = false) (fun _ => brkA b B3w :: old h0 :: L1) (fun K hK => ?_) (fun r hr => ?_)
  · refine W.newc fun x2 => ?_
    refine W.rown (enc := encSb) (x := x2) (n := 2) slW ?_
    refine W.call1 (join_w (b := b) (n := 0) (B := ⟨0, [], [], [], []⟩) (B1 := B1w) (B2 := B2w) (c := 1) (client := tC1) (sl := slW) (S := ⟨some ⟨x2, 0, none⟩, 2, 2⟩) (o1 := ⟨1, ackSe false, false⟩) (r1 := []) (o2 := ⟨1, ackCs 9 1 [1, 0], false⟩) (r2 := []) (ps := []) ht ok_new z0 nd0 kl0 ci1 sz1 sl2 ss2 w1 rfl rfl wr2 (At.un (x := true) ?_))
    refine W.ff rfl ?_
    refine W.nils encSb 5 ?_
    refine W.call1 (join_w (b := b) (n := 2) (B := B2w) (B1 := B3w) (B2 := B3w) (c := 2) (client := tD1) (sl := []) (S := nilS) (o1 := ⟨2, ackSe false, false⟩) (r1 := []) (o2 := ⟨2, ackSe false, false⟩) (r2 := []) (ps := []) ht ok_w2 z2 nd2 kl2 ci2 sz1 sl0 ss0 w3 rfl rfl (.inl ⟨rfl, rfl⟩) (At.un (x := true) ?_))
    exact W.pure (hK (false, ()) rfl).sub
  refine W.ff hr ?_
  obtain ⟨B, p, i, hw4, hpq⟩ := w4
  refine W.nils encSb 5 ?_
  refine W.nils encS1 1 ?_
  refine W.nils encPr 4 ?_
  refine W.call1 (bPacket_w (b := b) (B := B3w) (c := 2) (p := pubK mW 9) (pl := []) (sl := []) (fl := []) (full := false) ht ok_w3 (by decide) pkW ci2 (fun so sp => At.un (x := (so, sp, ())) ?_))
  rw [show packetB false 2 (pkI (pubK mW 9) [] [] []) B3w = _ from hw4]
  dsimp only
  refine W.newc fun x7 => ?_
  refine W.storeN ?_
  refine W.fact (own_len' (enc := encM) (size := 5) (s := sp) (xs := [mW])) fun hpl => ?_
  refine W.opnp (fun h R hs => (q_ie (k := .u8) (s := so)).1 hs) fun T hT => ?_
  obtain ⟨u, v, rfl, hu, hv⟩ := map_two hT
  clear hT
  refine W.fact (own_len' (enc := encOu .u8) (size := 28) (s := so) (xs := List.map ouF [u, v])) fun hol => ?_
  refine W.cutk (fun r => r.1 = true) (fun K hK => ?_) (fun r hr2 => ?_)
  · refine W.load (v := so) ?_
    refine W.tt (by rw [hol]; rfl) ?_
    refine W.load (v := so) ?_
    refine W.idx (enc := encOu .u8) (xs := List.map ouF [u, v]) (i := 0) (by simp) (fun a ha => ?_)
    refine W.loade (k := 0) (x := ouF u) (v := u.2.2.conn) ha rfl ?_
    refine W.tt (by rw [hu]; rfl) ?_
    refine W.load (v := so) ?_
    refine W.idx (enc := encOu .u8) (xs := List.map ouF [u, v]) (i := 0) (by simp) (fun a ha => ?_)
    refine W.loadee (x := ouF u) (v := u.2.2.pk.kind) ha rfl ?_
    refine W.tt (by rw [hu]; rfl) ?_
    refine W.load (v := so) ?_
    refine W.idx (enc := encOu .u8) (xs := List.map ouF [u, v]) (i := 1) (by simp) (fun a ha => ?_)
    refine W.loade (k := 0) (x := ouF v) (v := v.2.2.conn) ha rfl ?_
    refine W.tt (by rw [hv]; rfl) ?_
    refine W.load (v := so) ?_
    refine W.idx (enc := encOu .u8) (xs := List.map ouF [u, v]) (i := 1) (by simp) (fun a ha => ?_)
    refine W.loadee (x := ouF v) (v := v.2.2.pk.qos) ha rfl ?_
    refine W.tt (by rw [hv]; show (p.2.2.1 == 1) = true; rw [hpq]; rfl) ?_
    refine W.loadx (b := x7) (i := 1) (v := sp) ?_
    refine W.pure (hK _ ?_)
    rw [hpl]; rfl
  refine W.pure ?_
  show At _ (Q (.bool r.1))
  rw [hr2]
  exact hq.sub
end Go.Proofs.YtidlldnlphdhcaaGreatDoor
namespace Go.Proofs.YtidlldnlphdhcaaGreatDoor
open Go.H Go.Proofs
set_option linter.unusedSimpArgs false
set_option linter.unusedVariables false
set_option maxRecDepth 100000
variable {h h0 : Heap} {L L' L1 L2 R : List Asn} {Q : Value → Heap → Prop}
set_option maxHeartbeats 16000000 in
theorem BrokerNil_w (ht : TP h0) {x : EvQ} (hr : PkIn h0 x.p.pk x.p.pl x.p.wl x.p.cl x.p.sl x.p.fl)
    (hq : ∀ h' R, sat h' (old h0 :: R) → Q (.bool true) h') : FW Tryz.prog 8 #[.agg (encEv x).toArray] [old h0] Q := by
  have fin : ∀ {L L'}, Has L (old h0) L' → At L (Q (.bool true)) := fun hx h hs => hq h _ (hx.s hs)
  obtain ⟨what, conn, ⟨⟨vk, vd, vr, vq, vi, vt, vp, vc, s8, s9, vcl, vcn, vke, vhw, vwt, vwp, vwq, vwr, s18, vhu, vhp, vu, vpw, vse, s24, s25, ⟨⟩⟩, cl, pl, wl, sl, fl⟩, full, ⟨mt, mp, mq, mr, mg⟩⟩ := x
  dsimp only at hr
  refine fun h hs => q_hz (what, conn, vk, vd, vr, vq, vi, vt, vp, vc, s8, s9, vcl, vcn, vke, vhw, vwt, vwp, vwq, vwr, s18, vhu, vhp, vu, vpw, vse, s24, s25, full, mt, mp, mq, mr, mg, ()) h Q ((?_ : W [old h0] _ _) h hs)
  clear hs h
  unfold q_d4
  refine W.newc fun x1 => ?_
  refine W.cells (b := x1) (#[.int .i64 what, .int .i64 conn, .int .i64 vk, .bool vd, .bool vr, .int .i64 vq, .int .i64 vi, .string vt, .string vp, .int .u8 vc, .slice s8.a s8.len s8.cap, .slice s9.a s9.len s9.cap, .string vcl, .bool vcn, .int .i64 vke, .bool vhw, .string vwt, .string vwp, .int .i64 vwq, .bool vwr, .slice s18.a s18.len s18.cap, .bool vhu, .bool vhp, .string vu, .string vpw, .bool vse, .slice s24.a s24.len s24.cap, .slice s25.a s25.len s25.cap, .bool full, .string mt, .string mp, .int .i64 mq, .bool mr, .string mg]) ?_
  refine W.loadNo (b := x1) (i := 2) (v := (vk, vd, vr, vq, vi, vt, vp, vc, s8, s9, vcl, vcn, vke, vhw, vwt, vwp, vwq, vwr, s18, vhu, vhp, vu, vpw, vse, s24, s25, ())) ?_
  obtain ⟨cc, hcc⟩ : ∃ cc, cc = IntKind.wrap .i64 vc := ⟨_, rfl⟩
  refine W.callN (packets_w hr hcc (fun c1 c2 p1 p2 w1 w2 q1 q2 f1 f2 => At.unN (x := ((vk, vd, vr, vq, vi, vt, vp, vc, c1, p1, vcl, vcn, vke, vhw, vwt, vwp, vwq, vwr, w1, vhu, vhp, vu, vpw, vse, q1, f1, ()), (vk, vd, vr, vq, vi, vt, vp, cc, c2, p2, vcl, vcn, vke, vhw, vwt, vwp, vwq, vwr, w2, vhu, vhp, vu, vpw, vse, q2, f2, ()), ())) ?_))
  refine W.newc fun x4 => ?_
  refine W.newc fun x5 => ?_
  refine W.storeN (b := x4) ?_
  refine W.storeN (b := x5) ?_
  refine W.cells (b := x4) (#[.int .i64 vk, .bool vd, .bool vr, .int .i64 vq, .int .i64 vi, .string vt, .string vp, .int .u8 vc, .slice c1.a c1.len c1.cap, .slice p1.a p1.len p1.cap, .string vcl, .bool vcn, .int .i64 vke, .bool vhw, .string vwt, .string vwp, .int .i64 vwq, .bool vwr, .slice w1.a w1.len w1.cap, .bool vhu, .bool vhp, .string vu, .string vpw, .bool vse, .slice q1.a q1.len q1.cap, .slice f1.a f1.len f1.cap]) ?_
  refine W.load (b := x1) (v := conn) ?_
  refine W.loadN (b := x4) (v := (vk, vd, vr, vq, vi, vt, vp, vc, c1, p1, vcl, vcn, vke, vhw, vwt, vwp, vwq, vwr, w1, vhu, vhp, vu, vpw, vse, q1, f1, ())) ?_
  refine W.load (b := x1) (v := full) ?_
  refine W.load (b := x1) (v := conn) ?_
  refine W.load (b := x1) (v := full) ?_
  refine W.sub (L' := cells x1 (#[.int .i64 what, .int .i64 conn, .int .i64 vk, .bool vd, .bool vr, .int .i64 vq, .int .i64 vi, .string vt, .string vp, .int .u8 vc, .slice s8.a s8.len s8.cap, .slice s9.a s9.len s9.cap, .string vcl, .bool vcn, .int .i64 vke, .bool vhw, .string vwt, .string vwp, .int .i64 vwq, .bool vwr, .slice s18.a s18.len s18.cap, .bool vhu, .bool vhp, .string vu, .string vpw, .bool vse, .slice s24.a s24.len s24.cap, .slice s25.a s25.len s25.cap, .bool full, .string mt, .string mp, .int .i64 mq, .bool mr, .string mg]) :: cells x4 (#[.int .i64 vk, .bool vd, .bool vr, .int .i64 vq, .int .i64 vi, .string vt, .string vp, .int .u8 vc, .slice c1.a c1.len c1.cap, .slice p1.a p1.len p1.cap, .string vcl, .bool vcn, .int .i64 vke, .bool vhw, .string vwt, .string vwp, .int .i64 vwq, .bool vwr, .slice w1.a w1.len w1.cap, .bool vhu, .bool vhp, .string vu, .string vpw, .bool vse, .slice q1.a q1.len q1.cap, .slice f1.a f1.len f1.cap]) :: [old h0]) ?_
  clear hr hcc
  have m1 : Int × Int := (0, 0)
  repeat' (first
    | with_reducible refine W.both ?_ ?_
    | refine W.call1 (bPacketNil_w (At.un (x := (nilS, nilS, ())) ?_))
    | refine W.call1 (bLostNil_w (At.un (x := (nilS, nilS, ())) ?_))
    | refine W.callN (bRestartNil_w (At.unN ?_))
    | refine W.callN (bFlowNil_w (At.unN (x := (nilS, nilS, ())) ?_))
    | refine W.bbind (W.call1 (wakes_w ht (At.un (x := true) ?_)))
    | refine W.call1 (wakes_w ht (At.un (x := true) ?_))
    | refine W.bbind (W.call1 (bDeliverNil_w (m := (mt, mp, mq, mr, mg)) (At.un (x := nilS) ?_)))
    | refine W.call1 (bDeliverNil_w (m := (mt, mp, mq, mr, mg)) (At.un (x := nilS) ?_))
    | refine W.call1 (bFiltersNil_w (At.un (x := nilS) ?_))
    | refine W.call1 (bSessionsNil_w (At.un (x := nilS) ?_))
    | refine W.call1 (bConnsNil_w (At.un (x := nilS) ?_))
    | refine W.bpure ?_
    | refine W.bbind ?_
    | refine W.newc fun _ => ?_
    | refine W.req ?_ rfl
    | refine W.load (b := x1) (v := full) ?_
    | refine W.load (b := x1) (v := conn) ?_
    | refine W.loadN (b := x4) (v := (vk, vd, vr, vq, vi, vt, vp, vc, c1, p1, vcl, vcn, vke, vhw, vwt, vwp, vwq, vwr, w1, vhu, vhp, vu, vpw, vse, q1, f1, ())) ?_
    | refine W.loadx (b := x1) (v := vcl) ?_
    | refine W.loadNo (b := x1) (i := 29) (v := (mt, mp, mq, mr, mg, ())) ?_
    | refine W.load (v := nilS) ?_
    | refine W.storeN ?_
    | refine W.bt rfl ?_
    | refine W.tt rfl ?_
    | exact W.pure (fin has0)
    | exact W.pure (fin (hasS has0)))
  all_goals exact W.pure (fin (by repeat (first | with_reducible exact Go.H.has0 | apply Go.H.hasS)))
end Go.Proofs.YtidlldnlphdhcaaGreatDoor
namespace Go.Proofs.YtidlldnlphdhcaaGreatDoor.brokerNil
open Go.ChangeShapes Go.WideShapes Go.ChangeAt Go.RowKit
open Go.ChangeMaps (open_string shut_string)
set_option linter.unusedVariables false
set_option linter.unusedSimpArgs false
theorem own : ownKnob Tryz.prog.godebug = none := by kernel_rfl
theorem laidOut : laidOutB Tryz.prog = true := by kernel_rfl
theorem walk (w : World) (ht : TP w.heap) (x0 : EvQ) (g0 : (EvG reachBytes w.heap) x0) :
    Calls Tryz.prog 8 #[.agg #[.int .i64 x0.what, .int .i64 x0.conn, .int .i64 x0.p.pk.1, .bool x0.p.pk.2.1, .bool x0.p.pk.2.2.1, .int .i64 x0.p.pk.2.2.2.1, .int .i64 x0.p.pk.2.2.2.2.1, .string x0.p.pk.2.2.2.2.2.1, .string x0.p.pk.2.2.2.2.2.2.1, .int .u8 x0.p.pk.2.2.2.2.2.2.2.1, .slice x0.p.pk.2.2.2.2.2.2.2.2.1.a x0.p.pk.2.2.2.2.2.2.2.2.1.len x0.p.pk.2.2.2.2.2.2.2.2.1.cap, .slice x0.p.pk.2.2.2.2.2.2.2.2.2.1.a x0.p.pk.2.2.2.2.2.2.2.2.2.1.len x0.p.pk.2.2.2.2.2.2.2.2.2.1.cap, .string x0.p.pk.2.2.2.2.2.2.2.2.2.2.1, .bool x0.p.pk.2.2.2.2.2.2.2.2.2.2.2.1, .int .i64 x0.p.pk.2.2.2.2.2.2.2.2.2.2.2.2.1, .bool x0.p.pk.2.2.2.2.2.2.2.2.2.2.2.2.2.1, .string x0.p.pk.2.2.2.2.2.2.2.2.2.2.2.2.2.2.1, .string x0.p.pk.2.2.2.2.2.2.2.2.2.2.2.2.2.2.2.1, .int .i64 x0.p.pk.2.2.2.2.2.2.2.2.2.2.2.2.2.2.2.2.1, .bool x0.p.pk.2.2.2.2.2.2.2.2.2.2.2.2.2.2.2.2.2.1, .slice x0.p.pk.2.2.2.2.2.2.2.2.2.2.2.2.2.2.2.2.2.2.1.a x0.p.pk.2.2.2.2.2.2.2.2.2.2.2.2.2.2.2.2.2.2.1.len x0.p.pk.2.2.2.2.2.2.2.2.2.2.2.2.2.2.2.2.2.2.1.cap, .bool x0.p.pk.2.2.2.2.2.2.2.2.2.2.2.2.2.2.2.2.2.2.2.1, .bool x0.p.pk.2.2.2.2.2.2.2.2.2.2.2.2.2.2.2.2.2.2.2.2.1, .string x0.p.pk.2.2.2.2.2.2.2.2.2.2.2.2.2.2.2.2.2.2.2.2.2.1, .string x0.p.pk.2.2.2.2.2.2.2.2.2.2.2.2.2.2.2.2.2.2.2.2.2.2.1, .bool x0.p.pk.2.2.2.2.2.2.2.2.2.2.2.2.2.2.2.2.2.2.2.2.2.2.2.1, .slice x0.p.pk.2.2.2.2.2.2.2.2.2.2.2.2.2.2.2.2.2.2.2.2.2.2.2.2.1.a x0.p.pk.2.2.2.2.2.2.2.2.2.2.2.2.2.2.2.2.2.2.2.2.2.2.2.2.1.len x0.p.pk.2.2.2.2.2.2.2.2.2.2.2.2.2.2.2.2.2.2.2.2.2.2.2.2.1.cap, .slice x0.p.pk.2.2.2.2.2.2.2.2.2.2.2.2.2.2.2.2.2.2.2.2.2.2.2.2.2.1.a x0.p.pk.2.2.2.2.2.2.2.2.2.2.2.2.2.2.2.2.2.2.2.2.2.2.2.2.2.1.len x0.p.pk.2.2.2.2.2.2.2.2.2.2.2.2.2.2.2.2.2.2.2.2.2.2.2.2.2.1.cap, .bool x0.full, .string x0.m.1, .string x0.m.2.1, .int .i64 x0.m.2.2.1, .bool x0.m.2.2.2.1, .string x0.m.2.2.2.2]] w fun e w' => e = .returned (.bool true) ∧ Below w.heap.size w w' := by
  exact Go.H.walk_of (BrokerNil_w ht (x := x0) g0.p.rows (fun h' R hs => ⟨rfl, R, hs⟩) w.heap (Go.H.sat_old w.heap))
set_option maxRecDepth 100000 in
theorem lifted (os : Os) (started : os.Started) (H : Type) (enc : TypeId × Value → H) :
    ReturnsInHanded {} Tryz.checked os 8 .any (fun w args => (Rows.brokerNilSpec.pre enc Tryz.prog Tryz.f8 [] false w args ∧ laidMetH Tryz.prog laid17 w) ∧ sizedMet enc Tryz.prog Tryz.f8 (OpenSpec.ofChange Rows.brokerNilSpec) false w args)
      (Rows.brokerNilSpec.post enc Tryz.prog Tryz.f8 false true false false) := by
  refine q_fz (C := Tryz.checked) (X := fun w _ => laidMetH Tryz.prog laid17 w) (fun _ _ _ hh h => h.of_heap hh) own started (by kernel_rfl) Tryz.func8
    (ChangeSpec.witness_shaped (enc := enc) (C := Tryz.checked) (os := os) (X := fun w _ => laidMetH Tryz.prog laid17 w) false (laidWorld os) #[.agg #[.int .i64 0, .int .i64 0, .int .i64 0, .bool false, .bool false, .int .i64 0, .int .i64 0, .string (ByteArray.mk #[]), .string (ByteArray.mk #[]), .int .u8 0, .slice none 0 0, .slice none 0 0, .string (ByteArray.mk #[]), .bool false, .int .i64 0, .bool false, .string (ByteArray.mk #[]), .string (ByteArray.mk #[]), .int .i64 0, .bool false, .slice none 0 0, .bool false, .bool false, .string (ByteArray.mk #[]), .string (ByteArray.mk #[]), .bool false, .slice none 0 0, .slice none 0 0, .bool false, .string (ByteArray.mk #[]), .string (ByteArray.mk #[]), .int .i64 0, .bool false, .string (ByteArray.mk #[])]] 8 rfl (World.shaped_of_RefB (by kernel_rfl) (by kernel_rfl)) (by kernel_rfl) (by kernel_rfl) (by kernel_rfl) (laid_met os _)) ?_
  intro W base args ds gs before hval0 hW _ hwt hL hsh _
  have hval : ∀ (j : Nat) t v, Tryz.f8.params[j]? = some t → args[j]? = some v → Value.okWide Tryz.prog W .any base t v := hval0
  have hW' := hW
  obtain ⟨p, q, hA0, hV, rfl, hfz, hnd⟩ := hW
  have hA : DataW.TrodAll enc Tryz.prog W 0 (fun _ => true) true Tryz.f8.params.toList args.toList ds p := hA0
  rw [Tryz.params8] at hA hval
  obtain ⟨v0, vs0, d0, ds0, p0, q0, hargs, rfl, rfl, h0, r0⟩ := trodAll_cons hA
  obtain ⟨rfl, rfl, rfl⟩ := trodAll_nil r0
  obtain rfl : args = #[v0] := by cases args; simp_all
  obtain ⟨rfl, rfl⟩ := trodVars_none hV
  have w0 : Go.R.okW Tryz.prog 62 d0 := fun n hn => by simpa using List.all_eq_true.1 hwt n (DataW.weights_mem_each (j := 0) (by kernel_rfl) rfl n hn)
  obtain ⟨cs0, rfl⟩ := Go.R.okWide_agg Tryz.underlying62 (hval 0 62 v0 rfl rfl)
  have k0 := h0
  have lt0 : ∀ x ∈ p0, x.block < W.heap.size := by obtain ⟨m, hm⟩ := k0; exact DataW.trod_lt m _ _ _ hm
  obtain ⟨x0, e0, g0⟩ : ∃ x : EvQ, (Value.agg cs0 = .agg #[.int .i64 x.what, .int .i64 x.conn, .int .i64 x.p.pk.1, .bool x.p.pk.2.1, .bool x.p.pk.2.2.1, .int .i64 x.p.pk.2.2.2.1, .int .i64 x.p.pk.2.2.2.2.1, .string x.p.pk.2.2.2.2.2.1, .string x.p.pk.2.2.2.2.2.2.1, .int .u8 x.p.pk.2.2.2.2.2.2.2.1, .slice x.p.pk.2.2.2.2.2.2.2.2.1.a x.p.pk.2.2.2.2.2.2.2.2.1.len x.p.pk.2.2.2.2.2.2.2.2.1.cap, .slice x.p.pk.2.2.2.2.2.2.2.2.2.1.a x.p.pk.2.2.2.2.2.2.2.2.2.1.len x.p.pk.2.2.2.2.2.2.2.2.2.1.cap, .string x.p.pk.2.2.2.2.2.2.2.2.2.2.1, .bool x.p.pk.2.2.2.2.2.2.2.2.2.2.2.1, .int .i64 x.p.pk.2.2.2.2.2.2.2.2.2.2.2.2.1, .bool x.p.pk.2.2.2.2.2.2.2.2.2.2.2.2.2.1, .string x.p.pk.2.2.2.2.2.2.2.2.2.2.2.2.2.2.1, .string x.p.pk.2.2.2.2.2.2.2.2.2.2.2.2.2.2.2.1, .int .i64 x.p.pk.2.2.2.2.2.2.2.2.2.2.2.2.2.2.2.2.1, .bool x.p.pk.2.2.2.2.2.2.2.2.2.2.2.2.2.2.2.2.2.1, .slice x.p.pk.2.2.2.2.2.2.2.2.2.2.2.2.2.2.2.2.2.2.1.a x.p.pk.2.2.2.2.2.2.2.2.2.2.2.2.2.2.2.2.2.2.1.len x.p.pk.2.2.2.2.2.2.2.2.2.2.2.2.2.2.2.2.2.2.1.cap, .bool x.p.pk.2.2.2.2.2.2.2.2.2.2.2.2.2.2.2.2.2.2.2.1, .bool x.p.pk.2.2.2.2.2.2.2.2.2.2.2.2.2.2.2.2.2.2.2.2.1, .string x.p.pk.2.2.2.2.2.2.2.2.2.2.2.2.2.2.2.2.2.2.2.2.2.1, .string x.p.pk.2.2.2.2.2.2.2.2.2.2.2.2.2.2.2.2.2.2.2.2.2.2.1, .bool x.p.pk.2.2.2.2.2.2.2.2.2.2.2.2.2.2.2.2.2.2.2.2.2.2.2.1, .slice x.p.pk.2.2.2.2.2.2.2.2.2.2.2.2.2.2.2.2.2.2.2.2.2.2.2.2.1.a x.p.pk.2.2.2.2.2.2.2.2.2.2.2.2.2.2.2.2.2.2.2.2.2.2.2.2.1.len x.p.pk.2.2.2.2.2.2.2.2.2.2.2.2.2.2.2.2.2.2.2.2.2.2.2.2.1.cap, .slice x.p.pk.2.2.2.2.2.2.2.2.2.2.2.2.2.2.2.2.2.2.2.2.2.2.2.2.2.1.a x.p.pk.2.2.2.2.2.2.2.2.2.2.2.2.2.2.2.2.2.2.2.2.2.2.2.2.2.1.len x.p.pk.2.2.2.2.2.2.2.2.2.2.2.2.2.2.2.2.2.2.2.2.2.2.2.2.2.1.cap, .bool x.full, .string x.m.1, .string x.m.2.1, .int .i64 x.m.2.2.1, .bool x.m.2.2.2.1, .string x.m.2.2.2.2]) ∧ (EvG reachBytes W.heap) x := by
    obtain ⟨fuel, hf⟩ := h0
    obtain ⟨x, hx, hg⟩ := rd_Event19 (Go.R.okW_law Tryz.prog) fuel _ _ hf w0
    exact ⟨x, congrArg Value.agg (Array.toList_inj.1 hx), hg⟩
  cases e0
  clear hA0 hval0
  refine (walk W (tp_of_laid hL hsh) x0 g0).mono fun e W' ⟨he, bel⟩ => ?_
  subst he
  exact ⟨_, rfl, _, _, _, [], _, [], hW', trodAll_mk1 (shut_bool Tryz.underlying4 _), (trodAll_cons_mk (Below.trod laidOut (by kernel_rfl) (of_decide_eq_true (by kernel_rfl)) k0 bel lt0) trodAll_mk0), rfl, bel.frame _, fun h => by cases h⟩
end Go.Proofs.YtidlldnlphdhcaaGreatDoor.brokerNil
namespace Go.Proofs.YtidlldnlphdhcaaGreatDoor.brokerNil
open Go.ChangeShapes Go.WideShapes Go.ChangeAt Go.RowKit
open Go.ChangeMaps (open_string shut_string)
set_option linter.unusedVariables false
set_option linter.unusedSimpArgs false
theorem fact0 : (Rows.brokerNilRow.wf (OpenSpec.ofChange Rows.brokerNilSpec)) = true := by kernel_rfl
theorem fact1 : (laidOutB Tryz.pinned.checked.prog) = true := by kernel_rfl
theorem fact2 : (mapsRowed Tryz.pinned.checked.prog) = true := by kernel_rfl
theorem fact3 : (Tryz.f8.params.all (Tryz.pinned.checked.prog.readableRec ·)) = true := by kernel_rfl
theorem fact4 : (namedTie Tryz.pinned.checked.prog Rows.brokerNilRow.named Rows.brokerNilSpec.vars) = true := by kernel_rfl
theorem fact5 : ((Rows.brokerNilRow.stops == [])) = true := by kernel_rfl
theorem fact6 : ((Tryz.pinned.checked.prog.stops == [])) = true := by kernel_rfl
theorem fact7 : ((Rows.brokerNilRow.knobs == [])) = true := by kernel_rfl
theorem fact8 : ((Tryz.pinned.checked.prog.stopKnobs == [])) = true := by kernel_rfl
theorem fact9 : ((Rows.brokerNilRow.inPlace == Tryz.pinned.checked.prog.inPlace 8)) = true := by kernel_rfl
theorem fact10 : ((Rows.brokerNilRow.unfollowed == Tryz.pinned.checked.prog.unfollowed 8)) = true := by kernel_rfl
theorem fact11 : ((Rows.brokerNilRow.recurses == Tryz.pinned.checked.prog.recurses 8)) = true := by kernel_rfl
theorem fact12 : ((Rows.brokerNilRow.named == Tryz.pinned.checked.prog.varsNamed 8)) = true := by kernel_rfl
theorem fact13 : ((Rows.brokerNilRow.maps == (Tryz.f8.params.toList ++ Rows.brokerNilSpec.plain.varTypes Tryz.pinned.checked.prog).any (Tryz.pinned.checked.prog.mapsRec ·))) = true := by kernel_rfl
theorem fact14 : ((Rows.brokerNilRow.ifaces == (Tryz.f8.params.toList ++ Rows.brokerNilSpec.plain.varTypes Tryz.pinned.checked.prog).any (Tryz.pinned.checked.prog.ifacesRec ·))) = true := by kernel_rfl
theorem fact15 : ((Rows.brokerNilRow.mapsOut == Tryz.pinned.checked.prog.mapsAmong Tryz.f8.resultTypes.toList)) = true := by kernel_rfl
theorem fact16 : ((Rows.brokerNilRow.loops == (Tryz.f8.params.toList ++ Rows.brokerNilSpec.plain.varTypes Tryz.pinned.checked.prog).any (Tryz.pinned.checked.prog.loopsFrom ·))) = true := by kernel_rfl
theorem fact17 : ((Rows.brokerNilRow.wideKeys == (Tryz.f8.params.toList ++ Rows.brokerNilSpec.plain.varTypes Tryz.pinned.checked.prog ++ Tryz.f8.resultTypes.toList).any (Tryz.pinned.checked.prog.wideKeysFrom ·))) = true := by kernel_rfl
theorem fact18 : (Rows.brokerNilSpec.vars.all (Tryz.pinned.checked.prog.varReadable ·)) = true := by kernel_rfl
theorem fact19 : (Tryz.f8.resultTypes.all (fun t => Tryz.pinned.checked.prog.readableRec t && decide (t < Tryz.pinned.checked.prog.types.size))) = true := by kernel_rfl
theorem fact20 : ((Rows.brokerNilRow.ifacesOut == Tryz.f8.resultTypes.toList.any (Tryz.pinned.checked.prog.ifacesRec ·))) = true := by kernel_rfl
theorem fact21 : ((Rows.brokerNilRow.loopsOut == Tryz.f8.resultTypes.toList.any (Tryz.pinned.checked.prog.loopsFrom ·))) = true := by kernel_rfl
theorem fact22 : ((Rows.brokerNilRow.plainKeys == Tryz.pinned.checked.prog.plainKeys)) = true := by kernel_rfl
theorem fact23 : (Rows.brokerNilRow.shortTexts.isNone) = true := by kernel_rfl
theorem fact24 : (Tryz.pinned.checked.prog.stopsHeard) = true := by kernel_rfl
theorem fact25 : (Tryz.pinned.checked.prog.mayEnter) = true := by kernel_rfl
theorem fact26 : ((Rows.brokerNilRow.lifted == Tryz.pinned.checked.prog.liftsFinal)) = true := by kernel_rfl
theorem fact27 : ((Tryz.pinned.checked.prog.make == some Rows.brokerNilRow.make)) = true := by kernel_rfl
theorem fact28 : ((Rows.brokerNilRow.kinds == (if Rows.brokerNilRow.domain.isEmpty then [] else Tryz.f8.params.toList.map fun t => match Tryz.pinned.checked.prog.underlying t with | some (.int k) => some k | _ => none))) = true := by kernel_rfl
theorem fact29 : ((Rows.brokerNilRow.pinned == Rows.brokerNilRow.pinnedBy)) = true := by kernel_rfl
theorem fact30 : ((Rows.brokerNilRow.veiled == (Tryz.f8.params.toList ++ Rows.brokerNilSpec.plain.varTypes Tryz.pinned.checked.prog ++ Tryz.f8.resultTypes.toList).any (Tryz.pinned.checked.prog.veiledRec ·))) = true := by kernel_rfl
theorem fact31 : (Rows.brokerNilRow.veiledFits Tryz.pinned.checked.prog Tryz.f8.params.toList (Tryz.f8.params.toList ++ Rows.brokerNilSpec.plain.varTypes Tryz.pinned.checked.prog ++ Tryz.f8.resultTypes.toList)) = true := by kernel_rfl
theorem andt {a b : Bool} (ha : a = true) (hb : b = true) : (a && b) = true := by rw [ha, hb]; rfl
set_option maxRecDepth 100000 in
theorem facts : joinedFacts Tryz.pinned.checked.prog 8 Tryz.f8 Rows.brokerNilSpec Rows.brokerNilRow = true := by
  unfold joinedFacts
  exact (andt (andt (andt (andt (andt (andt (andt (andt (andt (andt (andt (andt (andt (andt (andt (andt (andt (andt (andt (andt (andt (andt (andt (andt (andt (andt (andt (andt (andt (andt (andt fact0 fact1) fact2) fact3) fact4) fact5) fact6) fact7) fact8) fact9) fact10) fact11) fact12) fact13) fact14) fact15) fact16) fact17) fact18) fact19) fact20) fact21) fact22) fact23) fact24) fact25) fact26) fact27) fact28) fact29) fact30) fact31)
end Go.Proofs.YtidlldnlphdhcaaGreatDoor.brokerNil
