/- Lemmas behind GdInP, part 6: they hold as they stand, without a condition beyond their own. -/
import Derived.Test.YthhpelmjnmlgjaaGreatDoorIn5
set_option linter.unusedVariables false
set_option linter.unusedSimpArgs false
namespace Go.Proofs.Gd
open Go Go.Awp
/-- engine.get, for an ID that need not be right. -/
theorem V60r (c : Cell) (id : Int) (h : cR c = true) (hr : -9223372036854775808 ≤ id ∧ id < 9223372036854775808) : Ev (fun k => F60 k c id) (getS c id) := by
  have hl := ((cR_iff c).1 h).1
  by_cases h0 : 1 ≤ id ∧ id ≤ 1099511627776
  · exact V60 c id h (by omega) h0.1 h0.2
  obtain ⟨g1, g2⟩ := cR_ids h
  have e : getS c id = zSh := getL_none id c.mShards fun s hs => by
    obtain ⟨i, hi, rfl⟩ := List.mem_iff_getElem.1 hs
    have := g1 i hi
    rw [rd_nat _ _ hi] at this; omega
  rw [e]
  refine EvP.ev (EvP.bind (EvP.bind (EvP.bind ((bin_tot (f := F155_156_l1 c.mShards id) (p := fun k x => F156 k x id) (by omega) (fun _ _ _ => rfl) fun x _ => Tot.some).mono fun t9 ht => ?_))))
  obtain ⟨n, rfl⟩ := Int.eq_ofNat_of_zero_le ht.1
  refine EvP.guard ?_ ?_
  · rw [Bool.or_eq_true, Bool.not_eq_true', ltI_false, inR_iff]; omega
  · show EvP (fun k => (bif ltI (n : Int) (c.mShards.length : Int) then F156 k (rd c.mShards (n : Int)) id else some default).bind _) _
    rw [ltI_nat]
    by_cases hlt : n < c.mShards.length
    · rw [decide_eq_true hlt]
      refine EvP.bind (EvP.some (EvP.some (EvP.some ?_)))
      have := g1 n hlt
      have hne : eqI (IntKind.wrap .i64 ((rd c.mShards (n : Int)).mID - id)) 0 = false := by
        rw [eqI_false, IntKind.wrap_i64]; omega
      show EvP (fun k => bif (true && eqI (IntKind.wrap .i64 ((rd c.mShards (n : Int)).mID - id)) 0) then _ else _) _
      rw [hne]
      exact EvP.some rfl
    · rw [decide_eq_false hlt]
      exact EvP.bind (EvP.some (EvP.some (EvP.some (EvP.some rfl))))
def instP (c : Cell) (s : Shard) (m : Int) : Cell × Bool :=
  bif !(cR c && oneB m) then (c, false) else bif !eqI (getS c s.mID).mID 0 then (c, eqI (getS c s.mID).mPhase 3 && eqI (getS c s.mID).mMove m) else
    bif ((((leI m c.mDropped) || (eqI (c.mShards.length : Int) 8)) || (!shR s)) || (!(eqI s.mPhase 2 && eqI s.mMove m))) || (!upR s s.mTop) then (c, false) else ({ putC c { s with mPhase := 3 } with mTop := laterS c.mTop s.mTop }, true)
theorem V28 (c : Cell) (s : Shard) (m : Int) (h : SmC c) (hs : SmS s) (hr : -9223372036854775808 ≤ s.mID ∧ s.mID < 9223372036854775808) : Ev (fun k => F28 k c s m) (instP c s m) := by
  refine Ev.bind (V25 c h) (Ev.bind (optv fun _ => T57_1 _) ?_)
  unfold instP
  cases hc : cR c with
  | false => exact Ev.of fun _ => rfl
  | true =>
    cases ho : oneB m with
    | false => exact Ev.of fun _ => rfl
    | true =>
      refine Ev.bind (V60r c _ hc hr) (Ev.bif (fun _ => Ev.of fun _ => rfl) fun h0 => ?_)
      refine Ev.bind (optv fun _ => V20 s hs) ?_
      generalize leI m c.mDropped = a
      generalize eqI (c.mShards.length : Int) 8 = b
      cases a with
      | true => exact Ev.of fun _ => rfl
      | false =>
        cases b with
        | true => exact Ev.of fun _ => rfl
        | false =>
          cases hsr : shR s with
          | false => exact Ev.of fun _ => rfl
          | true =>
            refine Ev.bind (optv fun _ => (Ev.of fun _ => rfl : Ev (fun k => F94 k s m) (eqI s.mPhase 2 && eqI s.mMove m))) ?_
            cases eqI s.mPhase 2 && eqI s.mMove m with
            | false => exact Ev.of fun _ => rfl
            | true =>
              refine Ev.bind (optv fun _ => V90 s _ hs (ixR_ne (shR_ix hsr))) ?_
              cases upR s s.mTop with
              | false => exact Ev.of fun _ => rfl
              | true =>
                have hid := shR_id hsr
                exact Ev.bind (V95 c { s with mPhase := 3 } hc h.shards hid.1 hid.2) (Ev.bind (T37 _ _) (Ev.of fun _ => rfl))
theorem V29 (c : Cell) (s : Shard) (m : Int) (h : SmC2 c) (hs : SmS2 s) : Ev (fun k => F29 k c s m) (instP c s m) := by
  refine Ev.bind (V22 c h) (Ev.bind (optv fun _ => T66 _) ?_)
  unfold instP
  cases hc : cR c with
  | false => exact Ev.of fun _ => rfl
  | true =>
    cases ho : oneB m with
    | false => exact Ev.of fun _ => rfl
    | true =>
      refine Ev.bind (V24 c _ h.shards) ?_
      have hl := ((cR_iff c).1 hc).1
      have e8 : ltI 7 (c.mShards.length : Int) = eqI (c.mShards.length : Int) 8 := by
        rw [Bool.eq_iff_iff, ltI_iff, eqI_iff]; omega
      rw [e8]
      cases h0 : eqI (getS c s.mID).mID 0 with
      | false =>
        have hid := getS_id hc s.mID (eqI_false.1 h0)
        have e0 : ltI 0 (getS c s.mID).mID = true := by rw [ltI_iff]; omega
        rw [e0]
        simp only [cond_true]
        refine Ev.bind (Ev.of fun _ => rfl : Ev (fun k => F96 k (getS c s.mID) 3 m) ((ltI 0 (getS c s.mID).mID && eqI (getS c s.mID).mPhase 3) && eqI (getS c s.mID).mMove m)) ?_
        rw [e0]
        exact Ev.of fun _ => rfl
      | true =>
        have e0 : ltI 0 (getS c s.mID).mID = false := by rw [eqI_iff] at h0; rw [h0]; rfl
        rw [e0]
        refine Ev.bind (optv fun _ => V21 s hs) ?_
        generalize leI m c.mDropped = a
        generalize eqI (c.mShards.length : Int) 8 = b
        cases a with
        | true => exact Ev.of fun _ => rfl
        | false =>
          cases b with
          | true => exact Ev.of fun _ => rfl
          | false =>
            cases hsr : shR s with
            | false => exact Ev.of fun _ => rfl
            | true =>
              have hid := shR_id hsr
              have e1 : ltI 0 s.mID = true := by rw [ltI_iff]; omega
              refine Ev.bind (optv fun _ => (Ev.of fun _ => rfl : Ev (fun k => F96 k s 2 m) ((ltI 0 s.mID && eqI s.mPhase 2) && eqI s.mMove m))) ?_
              rw [e1, Bool.true_and]
              cases eqI s.mPhase 2 && eqI s.mMove m with
              | false => exact Ev.of fun _ => rfl
              | true =>
                refine Ev.bind (optv fun _ => V89 s _ hs.toSmS (shR_ix hsr)) ?_
                cases upR s s.mTop with
                | false => exact Ev.of fun _ => rfl
                | true => exact Ev.bind (V79 c { s with mPhase := 3 } hc h.shards) (Ev.bind (V97 _ _) (Ev.of fun _ => rfl))
theorem instP_right {c : Cell} (hc : cR c = true) (s : Shard) (m : Int) : cR (instP c s m).1 = true := by
  unfold instP
  rw [hc]
  have hl := ((cR_iff c).1 hc).1
  cases oneB m with
  | false => exact hc
  | true =>
    simp only [Bool.true_and, Bool.not_true, cond_false]
    cases eqI (getS c s.mID).mID 0 with
    | false => exact hc
    | true =>
      simp only [Bool.not_true, cond_false]
      cases h : ((((leI m c.mDropped) || (eqI (c.mShards.length : Int) 8)) || (!shR s)) || (!(eqI s.mPhase 2 && eqI s.mMove m))) || (!upR s s.mTop) with
      | true => exact hc
      | false =>
        simp only [Bool.or_eq_false_iff, Bool.not_eq_false', eqI_false] at h
        obtain ⟨⟨⟨⟨_, h1⟩, h2⟩, _⟩, h3⟩ := h
        have g := (shR_iff s).1 h2
        have hr : shR { s with mPhase := 3 } = true := shR_head h2 rfl rfl rfl rfl (by
          have := shH_iff.1 g.1
          rw [shH_iff]; simp only; omega) g.2.2.2.2.1
        have hc' := cR_later hc g.2.2.2.2.1
        exact cR_put hc' hr (up_head (up_mono h3 (laterS_ge _ _).2) rfl) (.inr (by show c.mShards.length ≤ 7; omega))
theorem installs (c : Cell) (s : Shard) (m : Int) (hr : -9223372036854775808 ≤ s.mID ∧ s.mID < 9223372036854775808) : EvP (fun k => F5 k c s m) (· = true) := by
  have aw : Ev (fun k => F15 k) true := Ev.from 40 awake
  refine EvP.bind ((V14 c).mono fun b hb => EvP.bind ((EvP.opt (P := fun b => b = true → SmS2 s) (fun _ => V27 s) fun _ => fun h => by cases h).mono fun b2 hb2 => EvP.cond (fun _ => EvP.bind (aw.evP.mono fun x hx => EvP.some hx)) fun hc => ?_))
  rw [Bool.or_eq_false_iff, Bool.not_eq_false', Bool.not_eq_false'] at hc
  have h2 := hb hc.1
  have s2 := hb2 hc.2
  have h := h2.sm
  have e1 := V28 c s m h s2.toSmS hr
  have e2 := V29 c s m h2 s2
  have hsm : SmC (instP c s m).1 := by
    cases hc : cR c with
    | true => exact (cR_sm (instP_right hc s m)).sm
    | false => unfold instP; rw [hc]; exact h
  generalize instP c s m = P at e1 e2 hsm
  obtain ⟨q, b⟩ := P
  refine EvP.of (r := true) (Ev.bind e1 (Ev.bind e2 (Ev.bind (E18 _ hsm) ?_))) rfl
  cases b <;> exact Ev.bind aw (Ev.of fun _ => rfl)
end Go.Proofs.Gd
