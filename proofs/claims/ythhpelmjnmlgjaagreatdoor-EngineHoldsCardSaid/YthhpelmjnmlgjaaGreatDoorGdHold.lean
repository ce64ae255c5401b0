/- A shard held for a snapshot, and freed, on both sides. No program in sight. -/
import Derived.Test.YthhpelmjnmlgjaaGreatDoorGdPut
set_option linter.unusedVariables false
set_option linter.unusedSimpArgs false
namespace Go.Proofs.Gd
open Go Go.Awp

theorem getS_id {c : Cell} (h : cR c = true) (id : Int) (h0 : (getS c id).mID ≠ 0) : 1 ≤ (getS c id).mID ∧ (getS c id).mID ≤ 1099511627776 := by
  rcases getL_mem id c.mShards with h1 | h1
  · obtain ⟨i, hi, hx⟩ := List.mem_iff_getElem.1 h1
    have := (cR_ids h).1 i hi
    rw [rd_nat _ _ hi, hx] at this
    exact this
  · exact absurd (by unfold getS; rw [h1]; rfl) h0
def holdB (c : Cell) (s : Shard) (id ep l : Int) : Bool := cR c && oneB id && oneB ep && oneB l && !eqI s.mID 0 && eqI s.mEpoch ep && eqI s.mPhase 1 && !leI l s.mSeen && (eqI s.mHold 0 || eqI s.mHold l)
def holdP (c : Cell) (id ep l : Int) : Cell × Bool := bif holdB c (getS c id) id ep l then (putC c { getS c id with mHold := l }, true) else (c, false)
theorem V30 (c : Cell) (id ep l : Int) (h : SmC c) : Ev (fun k => F30 k c id ep l) (holdP c id ep l) := by
  refine Ev.bind (V23 c id h) ?_
  unfold holdP holdB
  cases hr : cR c && oneB id with
  | false =>
    simp only [cond_false, Bool.false_and]
    exact Ev.of fun _ => rfl
  | true =>
    have hc : cR c = true := by rw [Bool.and_eq_true] at hr; exact hr.1
    simp only [cond_true, Bool.true_and]
    have h95 : (getS c id).mID ≠ 0 → Ev (fun k => (F95 k c { getS c id with mHold := l }).bind fun t60 => some (t60, true)) (putC c { getS c id with mHold := l }, true) := fun h0 =>
      Ev.bind (V95 c _ hc h.shards (getS_id hc id h0).1 (getS_id hc id h0).2) (Ev.of fun _ => rfl)
    refine Ev.bind (optv fun _ => T57_2 _ _) ?_
    generalize getS c id = s at h95 ⊢
    cases e1 : eqI s.mID 0 with
    | true => exact Ev.of fun _ => by simp only [Bool.not_true, Bool.not_false, Bool.true_or, Bool.and_false, Bool.false_and, cond_true, cond_false]
    | false =>
      have h95 := h95 (eqI_false.1 e1)
      simp only [Bool.not_false, Bool.not_true, cond_true, Bool.true_and]
      refine Ev.cond (fun hc => Ev.of fun _ => ?_) fun hc => Ev.congr' h95 ?_
      · congr 1
        have : (oneB ep && oneB l && eqI s.mEpoch ep && eqI s.mPhase 1 && !leI l s.mSeen && (eqI s.mHold 0 || eqI s.mHold l)) = false := by
          revert hc
          generalize oneB ep = x1; generalize oneB l = x2; generalize eqI s.mEpoch ep = x3; generalize eqI s.mPhase 1 = x4; generalize leI l s.mSeen = x5; generalize eqI s.mHold 0 = x6; generalize eqI s.mHold l = x7
          clear h95 e1 hr; revert x1 x2 x3 x4 x5 x6 x7; decide
        simp only [Bool.and_true]
        rw [this]; rfl
      · have : (oneB ep && oneB l && eqI s.mEpoch ep && eqI s.mPhase 1 && !leI l s.mSeen && (eqI s.mHold 0 || eqI s.mHold l)) = true := by
          revert hc
          generalize oneB ep = x1; generalize oneB l = x2; generalize eqI s.mEpoch ep = x3; generalize eqI s.mPhase 1 = x4; generalize leI l s.mSeen = x5; generalize eqI s.mHold 0 = x6; generalize eqI s.mHold l = x7
          clear h95 e1 hr; revert x1 x2 x3 x4 x5 x6 x7; decide
        simp only [Bool.and_true]
        rw [this]; rfl
theorem V31 (c : Cell) (id ep l : Int) (h : SmC2 c) : Ev (fun k => F31 k c id ep l) (holdP c id ep l) := by
  have hs := h.shards
  refine Ev.bind (V24 c id hs) (Ev.bind (V22 c h) (Ev.bind (optv fun _ => T66 _) (Ev.bind (optv fun _ => T66 _) (Ev.bind (optv fun _ => T66 _) ?_))))
  unfold holdP holdB
  have h79 : cR c = true → Ev (fun k => (F79 k c { getS c id with mHold := l } false).bind fun t69 => some (t69, true)) (putC c { getS c id with mHold := l }, true) := fun hc => Ev.bind (V79 c _ hc hs) (Ev.of fun _ => rfl)
  generalize getS c id = s at h79 ⊢
  cases hc : cR c with
  | false => exact Ev.of fun _ => by simp only [Bool.not_true, Bool.not_false, Bool.true_or, Bool.and_false, Bool.false_and, cond_true, cond_false]
  | true =>
    have h79 := h79 hc
    generalize oneB id = x0; generalize oneB ep = x1; generalize oneB l = x2; generalize eqI s.mEpoch ep = x3; generalize eqI s.mPhase 1 = x4; generalize leI l s.mSeen = x5; generalize eqI s.mHold 0 = x6; generalize eqI s.mHold l = x7; generalize eqI s.mID 0 = x8
    refine Ev.cond (fun hc => Ev.of fun _ => ?_) fun hc => Ev.cond (fun hc2 => Ev.of fun _ => ?_) fun hc2 => Ev.congr' h79 ?_
    · have : (true && x0 && x1 && x2 && !x8 && x3 && x4 && !x5 && (x6 || x7)) = false := by clear h79; revert hc; revert x0 x1 x2 x3 x4 x5 x6 x7 x8; decide
      rw [this]; rfl
    · have : (true && x0 && x1 && x2 && !x8 && x3 && x4 && !x5 && (x6 || x7)) = false := by clear h79 hc; revert hc2; revert x0 x1 x2 x3 x4 x5 x6 x7 x8; decide
      rw [this]; rfl
    · have : (true && x0 && x1 && x2 && !x8 && x3 && x4 && !x5 && (x6 || x7)) = true := by clear h79; revert hc2; revert hc; revert x0 x1 x2 x3 x4 x5 x6 x7 x8; decide
      rw [this]; rfl
theorem V97 (s t : Stamp) : Ev (fun k => F97 k s t) (laterS s t) := by
  refine Ev.bind (bef_eq s t) ?_
  unfold laterS
  cases ltI (cmpS s t) 0 <;> exact Ev.of fun _ => rfl
def freeS (s : Shard) (l : Int) : Shard := { s with mHold := bif eqI s.mHold l then 0 else s.mHold, mSeen := l }
def freeP (c : Cell) (id l : Int) (t : Stamp) : Cell × Bool :=
  bif cR c && oneB id && oneB l && stR t && !eqI (getS c id).mID 0 then (bif leI l (getS c id).mSeen then (c, true) else ({ putC c (freeS (getS c id) l) with mTop := laterS c.mTop t }, true)) else (c, false)
theorem V32 (c : Cell) (id l : Int) (t : Stamp) (h : SmC c) : Ev (fun k => F32 k c id l t) (freeP c id l t) := by
  refine Ev.bind (V23 c id h) ?_
  unfold freeP
  have h57 : Ev (fun k => F57 k 1 [l]) (oneB l) := by
    have := T57 1 [l] (by simp)
    simp only [List.any_cons, List.any_nil, oneB_eq, Bool.or_false, Bool.not_not] at this
    exact this
  cases hr : cR c && oneB id with
  | false =>
    simp only [cond_false, Bool.false_and]
    exact Ev.of fun _ => rfl
  | true =>
    have hc : cR c = true := by rw [Bool.and_eq_true] at hr; exact hr.1
    simp only [cond_true, Bool.true_and]
    refine Ev.bind (optv fun _ => h57) (Ev.bind (optv fun _ => T36 _) ?_)
    cases e1 : eqI (getS c id).mID 0 with
    | true => exact Ev.of fun _ => by simp only [Bool.not_true, Bool.not_false, Bool.true_or, Bool.and_false, Bool.false_and, cond_true, cond_false]
    | false =>
      have hid := getS_id hc id (eqI_false.1 e1)
      generalize getS c id = s at hid ⊢
      cases oneB l with
      | false => exact Ev.of fun _ => by simp only [Bool.not_true, Bool.not_false, Bool.true_or, Bool.or_true, Bool.and_false, Bool.false_and, cond_true, cond_false]
      | true =>
        cases stR t with
        | false => exact Ev.of fun _ => by simp only [Bool.not_true, Bool.not_false, Bool.true_or, Bool.or_true, Bool.and_false, Bool.false_and, Bool.true_and, Bool.or_false, cond_true, cond_false]
        | true =>
          simp only [Bool.not_true, Bool.not_false, Bool.or_false, Bool.and_true, Bool.true_and, cond_true, cond_false]
          cases leI l s.mSeen with
          | true => exact Ev.of fun _ => rfl
          | false =>
            simp only [cond_false]
            refine Ev.bind (x := bif eqI s.mHold l then 0 else s.mHold) ?_ ?_
            · cases eqI s.mHold l <;> exact Ev.of fun _ => rfl
            · exact Ev.bind (V95 c (freeS s l) hc h.shards hid.1 hid.2) (Ev.bind (T37 _ _) (Ev.of fun _ => rfl))
theorem V33 (c : Cell) (id l : Int) (t : Stamp) (h : SmC2 c) : Ev (fun k => F33 k c id l t) (freeP c id l t) := by
  have hs := h.shards
  refine Ev.bind (V24 c id hs) (Ev.bind (V22 c h) (Ev.bind (optv fun _ => T66 _) (Ev.bind (optv fun _ => T66 _) (Ev.bind (optv fun _ => T68 _) ?_))))
  unfold freeP
  generalize getS c id = s
  cases hc : cR c with
  | false => exact Ev.of fun _ => by simp only [Bool.not_true, Bool.not_false, Bool.true_or, Bool.and_false, Bool.false_and, cond_true, cond_false]
  | true =>
    generalize oneB id = x0; generalize oneB l = x1; generalize stR t = x2; generalize eqI s.mID 0 = x3
    refine Ev.cond (fun hc => Ev.of fun _ => ?_) fun hcc => ?_
    · have : (true && x0 && x1 && x2 && !x3) = false := by revert hc; revert x0 x1 x2 x3; decide
      rw [this]; rfl
    · have : (true && x0 && x1 && x2 && !x3) = true := by revert hcc; revert x0 x1 x2 x3; decide
      rw [this, cond_true]
      cases leI l s.mSeen with
      | true => exact Ev.of fun _ => rfl
      | false =>
        simp only [cond_false]
        refine Ev.bind (x := bif eqI s.mHold l then 0 else s.mHold) ?_ ?_
        · cases eqI s.mHold l <;> exact Ev.of fun _ => rfl
        · exact Ev.bind (V79 c (freeS s l) hc hs) (Ev.bind (V97 _ _) (Ev.of fun _ => rfl))
end Go.Proofs.Gd
