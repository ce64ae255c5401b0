/- Lemmas behind GdDsP, part 7: they hold as they stand, without a condition beyond their own. -/
import Derived.Test.YthhpelmjnmlgjaaGreatDoorDs6
set_option linter.unusedVariables false
set_option linter.unusedSimpArgs false
namespace Go.Proofs.Gd
open Go Go.Awp
def fault (e : Int) : Answer := ⟨e, ⟨0, 0, 0⟩, false, ⟨#[]⟩, [], ⟨#[]⟩, false⟩
def latA (c : Cell) (s : Shard) (x : ByteArray) : Answer := ⟨0, (readE s.mEntries x c.mTop).1.mAt, (readE s.mEntries x c.mTop).2 && !(readE s.mEntries x c.mTop).1.mGone, (readE s.mEntries x c.mTop).1.mValue, [], ⟨#[]⟩, false⟩
theorem V64 (c : Cell) (s : Shard) (x : ByteArray) (h : ixR s.mEntries = true) : Ev (fun k => F64 k c s x) (latA c s x) := Ev.bind (V118 _ x _ h) (Ev.of fun _ => rfl)
/-- The fault, the entries, the answer's fault and its text. -/
def stepP (c : Cell) (s : Shard) (r : Request) (now : Stamp) : Int × List Entry × Nat × ByteArray :=
  bif (eqI r.mKind 3) && ((!((latA c s r.mKey).mFound == r.mHad)) || ((latA c s r.mKey).mFound && (!strEq (latA c s r.mKey).mValue r.mOld))) then (0, s.mEntries, 15, (latA c s r.mKey).mValue) else
    bif !eqI r.mKind 2 then ((putE s.mEntries r.mKey ⟨now, false, r.mValue⟩).2, (putE s.mEntries r.mKey ⟨now, false, r.mValue⟩).1, 0, ⟨#[]⟩) else
      bif (latA c s r.mKey).mFound then ((putE s.mEntries r.mKey ⟨now, true, ⟨#[]⟩⟩).2, (putE s.mEntries r.mKey ⟨now, true, ⟨#[]⟩⟩).1, 0, ⟨#[]⟩) else (0, s.mEntries, 0, ⟨#[]⟩)
def ansP (c : Cell) (s : Shard) (r : Request) (now : Stamp) : Answer := ⟨((stepP c s r now).2.2.1 : Nat), now, (latA c s r.mKey).mFound, (stepP c s r now).2.2.2, [], ⟨#[]⟩, false⟩
def dnP (c : Cell) (s : Shard) (r : Request) (now : Stamp) : List Done × Int := putD s.mDone ⟨r.mClient, r.mReq, ansP c s r now⟩
def wrS (c : Cell) (s : Shard) (r : Request) (now : Stamp) : Shard := { s with mEntries := (stepP c s r now).2.1, mDone := (dnP c s r now).1 }
def writeP (c : Cell) (s : Shard) (r : Request) (now : Stamp) : Cell × Answer :=
  bif eqI (judge s.mDone r.mClient r.mReq) 2 then (c, (rowL s.mDone r.mClient).1.mAnswer) else bif eqI (judge s.mDone r.mClient r.mReq) 3 then (c, fault 10) else bif leI (cmpS now c.mTop) 0 then (c, fault 1) else
    bif !eqI (stepP c s r now).1 0 then (c, fault (stepP c s r now).1) else bif !eqI (dnP c s r now).2 0 then (c, fault (dnP c s r now).2) else ({ putC c (wrS c s r now) with mTop := now }, ansP c s r now)
theorem V63 (c : Cell) (s : Shard) (r : Request) (now : Stamp) (hc : cR c = true) (hs : shR s = true) : Ev (fun k => F63 k c s r now) (writeP c s r now) := by
  have hl := ((cR_iff c).1 hc).1
  have hsm := (shR_sm hs).toSmS
  have g := (shR_iff s).1 hs
  have hx := g.2.2.1
  have hd := g.2.2.2.2.2.1
  have hid := shR_id hs
  have he := hsm.entries
  have hch : ∀ e ∈ s.mEntries, e.mChain.length ≤ 1000 := fun e h => by have := hsm.chains e h; omega
  have hdl := hsm.done
  unfold writeP
  refine Ev.bind (V125 _ _ _ (by omega)) (Ev.bif (fun _ => Ev.bind (V126 _ _ hd) (Ev.of fun _ => rfl)) fun _ => Ev.bif (fun _ => Ev.bind (Ev.of fun _ => rfl) (Ev.of fun _ => rfl)) fun _ => Ev.bind (T42 _ _) (Ev.bif (fun _ => Ev.bind (Ev.of fun _ => rfl) (Ev.of fun _ => rfl)) fun _ => Ev.bind (V64 c s _ hx) (Ev.bind (x := stepP c s r now) ?_ ?_)))
  · unfold stepP
    exact Ev.bif (fun _ => Ev.of fun _ => rfl) fun _ => Ev.bif (fun _ => Ev.bind (V127 _ _ _ (by omega) hch) (Ev.of fun _ => rfl)) fun _ => Ev.bif (fun _ => Ev.bind (V127 _ _ _ (by omega) hch) (Ev.of fun _ => rfl)) fun _ => Ev.of fun _ => rfl
  · show Ev (fun k => bif (!eqI (stepP c s r now).1 0) then ((F59 k (stepP c s r now).1).bind fun t116 => some (c, t116)) else ((F128 k s.mDone (⟨r.mClient, r.mReq, ansP c s r now⟩ : Done)).bind fun (t126a, t126b) => bif (!eqI t126b 0) then ((F59 k t126b).bind fun t134 => some (c, t134)) else ((F95 k c ({s with mEntries := (stepP c s r now).2.1, mDone := t126a})).bind fun t137 => some ({t137 with mTop := now}, ansP c s r now)))) _
    refine Ev.bif (fun _ => Ev.bind (Ev.of fun _ => rfl) (Ev.of fun _ => rfl)) fun _ => Ev.bind (V128 _ _ (by omega)) (Ev.bif (fun _ => Ev.bind (Ev.of fun _ => rfl) (Ev.of fun _ => rfl)) fun _ => ?_)
    exact Ev.bind (V95 c (wrS c s r now) hc (by omega) hid.1 hid.2) (Ev.of fun _ => rfl)
def onP (s : Shard) (r : Request) : Bool := (!strEq s.mSpan.mHi ⟨#[]⟩) && ((strEq r.mHi ⟨#[]⟩) || (ltI (cmpK s.mSpan.mHi r.mHi) 0))
def hiP (s : Shard) (r : Request) : ByteArray := bif onP s r then s.mSpan.mHi else r.mHi
def pastP (c : Cell) (s : Shard) (r : Request) (w : Int) : Cell × Answer :=
  bif ltI (cmpS r.mAt s.mMark) 0 then (c, fault 13) else bif ltI w (r.mAt.mWall - 1000) then (c, fault 12) else
    bif eqI r.mKind 5 then ({ c with mTop := laterS c.mTop r.mAt }, ⟨0, r.mAt, (readE s.mEntries r.mKey r.mAt).2 && !(readE s.mEntries r.mKey r.mAt).1.mGone, (readE s.mEntries r.mKey r.mAt).1.mValue, [], ⟨#[]⟩, false⟩) else
      bif onP s r && !(pageP s.mEntries r.mKey (hiP s r) r.mAt r.mLimit.toNat).2.2 then ({ c with mTop := laterS c.mTop r.mAt }, ⟨0, r.mAt, false, ⟨#[]⟩, (pageP s.mEntries r.mKey (hiP s r) r.mAt r.mLimit.toNat).1, hiP s r, true⟩) else
        ({ c with mTop := laterS c.mTop r.mAt }, ⟨0, r.mAt, false, ⟨#[]⟩, (pageP s.mEntries r.mKey (hiP s r) r.mAt r.mLimit.toNat).1, (pageP s.mEntries r.mKey (hiP s r) r.mAt r.mLimit.toNat).2.1, (pageP s.mEntries r.mKey (hiP s r) r.mAt r.mLimit.toNat).2.2⟩)
theorem stR_iff {s : Stamp} : stR s = true ↔ 0 ≤ s.mWall ∧ s.mWall ≤ 1099511627776 ∧ 0 ≤ s.mTick ∧ s.mTick ≤ 1048576 ∧ 0 ≤ s.mNode ∧ s.mNode ≤ 255 := by
  unfold stR
  simp only [Bool.and_eq_true, leI_iff]
theorem V65 (c : Cell) (s : Shard) (r : Request) (w : Int) (hx : ixR s.mEntries = true) (ht : stR r.mAt = true) (hn : 0 ≤ r.mLimit) : Ev (fun k => F65 k c s r w) (pastP c s r w) := by
  have h1 := stR_iff.1 ht
  obtain ⟨n, hn⟩ := Int.eq_ofNat_of_zero_le hn
  unfold pastP
  refine Ev.bind (T42 _ _) (Ev.bif (fun _ => Ev.bind (Ev.of fun _ => rfl) (Ev.of fun _ => rfl)) fun _ => ?_)
  rw [i64z (by omega)]
  refine Ev.bif (fun _ => Ev.bind (Ev.of fun _ => rfl) (Ev.of fun _ => rfl)) fun _ => Ev.bind (T37 _ _) (Ev.bif (fun _ => Ev.bind (V118 _ _ _ hx) (Ev.of fun _ => rfl)) fun _ => ?_)
  refine Ev.bind (optv fun _ => V124 _ _) (Ev.bind (x := hiP s r) ?_ ?_)
  · unfold hiP onP
    cases strEq s.mSpan.mHi ⟨#[]⟩ with
    | true => exact Ev.of fun _ => rfl
    | false =>
      cases strEq r.mHi ⟨#[]⟩ with
      | true => exact Ev.of fun _ => rfl
      | false => exact Ev.bif (fun _ => Ev.of fun _ => rfl) fun _ => Ev.of fun _ => rfl
  · have e : ((!strEq s.mSpan.mHi ⟨#[]⟩) && ((strEq r.mHi ⟨#[]⟩) || (ltI (bif ((!strEq s.mSpan.mHi ⟨#[]⟩) && (!(strEq r.mHi ⟨#[]⟩))) then cmpK s.mSpan.mHi r.mHi else default) 0))) = onP s r := by
      unfold onP
      cases strEq s.mSpan.mHi ⟨#[]⟩ with
      | true => rfl
      | false => cases strEq r.mHi ⟨#[]⟩ <;> rfl
    rw [e, hn]
    exact Ev.bind (V129 _ _ _ _ n hx) (Ev.bif (fun _ => Ev.of fun _ => rfl) fun _ => Ev.of fun _ => rfl)
def wrB (r : Request) : Bool := ((eqI r.mKind 1) || (eqI r.mKind 2)) || (eqI r.mKind 3)
def hasS (s : Shard) (x : ByteArray) : Bool := ((strEq x ⟨#[]⟩) && (strEq s.mSpan.mLo ⟨#[]⟩)) || hasR s.mSpan x
def doP (c : Cell) (id ep : Int) (r : Request) (now : Stamp) (w : Int) : Cell × Answer :=
  bif !(cR c && (oneB id && oneB ep) && noB w && stR now && rqR r) then (c, fault 1) else
    bif ((eqI (getS c id).mID 0) || (!eqI (getS c id).mEpoch ep)) || (!hasS (getS c id) r.mKey) then (c, fault 10) else
      bif (!eqI (getS c id).mPhase 1) || (wrB r && (!eqI (getS c id).mHold 0)) then (c, fault 11) else
        bif wrB r then writeP c (getS c id) r now else bif eqI r.mKind 4 then (c, latA c (getS c id) r.mKey) else pastP c (getS c id) r w
theorem rqR_iff {r : Request} (h : rqR r = true) : 1 ≤ r.mKind ∧ r.mKind ≤ 6 ∧ 0 ≤ r.mLimit ∧ r.mLimit ≤ 8 ∧ stR r.mAt = true ∧ oneB r.mClient = true ∧ oneB r.mReq = true ∧ (r.mKind ≠ 6 → keyR r.mKey = true) ∧ (strEq r.mKey ⟨#[]⟩ = true ∨ keyR r.mKey = true) ∧ (r.mValue.size ≤ 16) ∧ (strEq r.mHi ⟨#[]⟩ = true ∨ keyR r.mHi = true) := by
  unfold rqR at h
  simp only [Bool.and_eq_true, Bool.not_eq_true', ltI_false, Bool.or_eq_true] at h
  obtain ⟨⟨⟨⟨⟨⟨⟨⟨⟨⟨h1, h2⟩, h3⟩, h4⟩, h5⟩, h6⟩, h7⟩, h8⟩, h9⟩, h10⟩, h11⟩ := h
  refine ⟨h3, h4, h7, h8, h9, h1, h2, fun h6' => ?_, ?_, by omega, h10⟩
  · rw [eqI_false.2 h6'] at h11; exact h11
  · cases hk : eqI r.mKind 6 with
    | true =>
      rw [hk, cond_true, Bool.and_eq_true, Bool.or_eq_true] at h11
      exact h11.1
    | false => rw [hk, cond_false] at h11; exact .inr h11
theorem V16 (c : Cell) (id ep : Int) (r : Request) (now : Stamp) (w : Int) (h : SmC c) : Ev (fun k => F16 k c id ep r now w) (doP c id ep r now w) := by
  have hw : Ev (fun k => F57 k 0 [w]) (noB w) := by
    have := V57_0 [w] (by simp)
    simpa using this
  have hwr : Ev (fun k => F62 k r) (wrB r) := Ev.of fun _ => rfl
  refine Ev.bind (V25 c h) (Ev.bind (optv fun _ => T57_2 _ _) (Ev.bind (optv fun _ => hw) (Ev.bind (optv fun _ => T36 _) (Ev.bind (optv fun _ => T58 _) ?_))))
  unfold doP
  cases hc : cR c with
  | false => exact Ev.bind (Ev.of fun _ => rfl) (Ev.of fun _ => rfl)
  | true =>
    cases ho : oneB id && oneB ep with
    | false => exact Ev.bind (Ev.of fun _ => rfl) (Ev.of fun _ => rfl)
    | true =>
      cases noB w with
      | false => exact Ev.bind (Ev.of fun _ => rfl) (Ev.of fun _ => rfl)
      | true =>
        cases stR now with
        | false => exact Ev.bind (Ev.of fun _ => rfl) (Ev.of fun _ => rfl)
        | true =>
          cases hq : rqR r with
          | false => exact Ev.bind (Ev.of fun _ => rfl) (Ev.of fun _ => rfl)
          | true =>
            rw [Bool.and_eq_true, oneB_iff, oneB_iff] at ho
            obtain ⟨q1, q2, q3, q4, q5, q6, q7, q8, q9, q10, q11⟩ := rqR_iff hq
            refine Ev.bind (V60 c id hc h.shards ho.1.1 ho.1.2) (Ev.bind (optv fun _ => V61 _ _) ?_)
            have e : (((strEq r.mKey ⟨#[]⟩) && (strEq (getS c id).mSpan.mLo ⟨#[]⟩)) || (bif !((strEq r.mKey ⟨#[]⟩) && (strEq (getS c id).mSpan.mLo ⟨#[]⟩)) then hasR (getS c id).mSpan r.mKey else default)) = hasS (getS c id) r.mKey := by
              unfold hasS
              cases (strEq r.mKey ⟨#[]⟩) && (strEq (getS c id).mSpan.mLo ⟨#[]⟩) <;> rfl
            rw [e]
            refine Ev.bif (fun _ => Ev.bind (Ev.of fun _ => rfl) (Ev.of fun _ => rfl)) fun h10 => ?_
            simp only [Bool.or_eq_false_iff] at h10
            have hg := getS_right hc (eqI_false.1 h10.1.1)
            refine Ev.bind (optv fun _ => hwr) ?_
            have e2 : ((!eqI (getS c id).mPhase 1) || ((bif (!(!eqI (getS c id).mPhase 1)) then wrB r else default) && (!eqI (getS c id).mHold 0))) = ((!eqI (getS c id).mPhase 1) || (wrB r && (!eqI (getS c id).mHold 0))) := by
              cases eqI (getS c id).mPhase 1 <;> rfl
            rw [e2]
            refine Ev.bif (fun _ => Ev.bind (Ev.of fun _ => rfl) (Ev.of fun _ => rfl)) fun _ => Ev.bind hwr (Ev.bif (fun _ => Ev.bind (V63 c _ r now hc hg.1) (Ev.of fun _ => rfl)) fun _ => Ev.bif (fun _ => Ev.bind (V64 c _ _ (shR_ix hg.1)) (Ev.of fun _ => rfl)) fun _ => Ev.bind (V65 c _ r w (shR_ix hg.1) q5 q3) (Ev.of fun _ => rfl))
theorem stepP_right {c : Cell} {s : Shard} {r : Request} {now : Stamp} (hs : shR s = true) (h : (stepP c s r now).1 = 0) : ixR (stepP c s r now).2.1 = true := by
  have hx := shR_ix hs
  unfold stepP at h ⊢
  revert h
  cases (eqI r.mKind 3) && ((!((latA c s r.mKey).mFound == r.mHad)) || ((latA c s r.mKey).mFound && (!strEq (latA c s r.mKey).mValue r.mOld))) with
  | true => exact fun _ => hx
  | false =>
    cases eqI r.mKind 2 with
    | false => exact fun h => putE_right h
    | true =>
      cases (latA c s r.mKey).mFound with
      | true => exact fun h => putE_right h
      | false => exact fun _ => hx
/-- Each entry of what comes out is one that was, or the key's own with one version more. -/
theorem stepP_mem {c : Cell} {s : Shard} {r : Request} {now : Stamp} (hs : shR s = true) (h : (stepP c s r now).1 = 0) : ∀ e ∈ (stepP c s r now).2.1, e ∈ s.mEntries ∨ (∃ v : Version, v.mAt = now ∧ e = ⟨r.mKey, ofL s.mEntries r.mKey ++ [v]⟩) := by
  have put : ∀ v : Version, v.mAt = now → (putE s.mEntries r.mKey v).2 = 0 → ∀ e ∈ (putE s.mEntries r.mKey v).1, e ∈ s.mEntries ∨ (∃ v : Version, v.mAt = now ∧ e = ⟨r.mKey, ofL s.mEntries r.mKey ++ [v]⟩) := fun v hv h e he => by
    rw [(putE_ok h).2.2.2.2.2.2] at he
    rcases insE_mem he with rfl | he
    · exact .inr ⟨v, hv, rfl⟩
    · exact .inl he
  unfold stepP at h ⊢
  revert h
  cases (eqI r.mKind 3) && ((!((latA c s r.mKey).mFound == r.mHad)) || ((latA c s r.mKey).mFound && (!strEq (latA c s r.mKey).mValue r.mOld))) with
  | true => exact fun _ e he => .inl he
  | false =>
    cases eqI r.mKind 2 with
    | false => exact fun h => put _ rfl h
    | true =>
      cases (latA c s r.mKey).mFound with
      | true => exact fun h => put _ rfl h
      | false => exact fun _ e he => .inl he
theorem wrS_right {c : Cell} {s : Shard} {r : Request} {now : Stamp} (hs : shR s = true) (hu : upR s c.mTop = true) (hk : hasR s.mSpan r.mKey = true) (hb : befS c.mTop now) (h1 : (stepP c s r now).1 = 0) (h2 : (dnP c s r now).2 = 0) : shR (wrS c s r now) = true ∧ upR (wrS c s r now) now = true := by
  have g := (shR_iff s).1 hs
  constructor
  · rw [shR_iff]
    refine ⟨g.1, g.2.1, stepP_right hs h1, g.2.2.2.1, g.2.2.2.2.1, putD_right h2, fun e he => ?_⟩
    rcases stepP_mem hs h1 e he with he | ⟨v, _, rfl⟩
    · exact g.2.2.2.2.2.2 e he
    · exact hk
  · rw [upR_iff] at *
    intro e he
    rcases stepP_mem hs h1 e he with he | ⟨v, hv, rfl⟩
    · have := hu e he
      intro h3
      exact this (befS_trans hb h3)
    · rw [lastV_add, hv]; exact befS_irr _
theorem writeP_right {c : Cell} (hc : cR c = true) {id : Int} (h0 : (getS c id).mID ≠ 0) {r : Request} {now : Stamp} (hn : stR now = true) (hk : hasR (getS c id).mSpan r.mKey = true) : cR (writeP c (getS c id) r now).1 = true := by
  obtain ⟨g1, g2⟩ := getS_right hc h0
  unfold writeP
  cases eqI (judge (getS c id).mDone r.mClient r.mReq) 2 with
  | true => exact hc
  | false =>
    cases eqI (judge (getS c id).mDone r.mClient r.mReq) 3 with
    | true => exact hc
    | false =>
      cases hb : leI (cmpS now c.mTop) 0 with
      | true => exact hc
      | false =>
        have hb : befS c.mTop now := by
          apply Classical.byContradiction
          intro h
          rw [← leB, hb] at h; cases h
        cases h1 : eqI (stepP c (getS c id) r now).1 0 with
        | false => exact hc
        | true =>
          cases h2 : eqI (dnP c (getS c id) r now).2 0 with
          | false => exact hc
          | true =>
            obtain ⟨r1, r2⟩ := wrS_right g1 g2 hk hb (eqI_iff.1 h1) (eqI_iff.1 h2)
            have hc' := cR_top hc hn (fun h => befS_irr _ (befS_trans hb h))
            exact cR_put hc' r1 r2 (.inl ⟨_, (getS_in hc h0).1, rfl⟩)
theorem pastP_right {c : Cell} (hc : cR c = true) (s : Shard) {r : Request} (ht : stR r.mAt = true) (w : Int) : cR (pastP c s r w).1 = true := by
  have := cR_later hc ht
  unfold pastP
  cases ltI (cmpS r.mAt s.mMark) 0 with
  | true => exact hc
  | false =>
    cases ltI w (r.mAt.mWall - 1000) with
    | true => exact hc
    | false =>
      cases eqI r.mKind 5 with
      | true => exact this
      | false => cases onP s r && !(pageP s.mEntries r.mKey (hiP s r) r.mAt r.mLimit.toNat).2.2 <;> exact this
theorem strEq_key {x : ByteArray} (h : keyR x = true) : strEq x ⟨#[]⟩ = false := by
  rw [strEq_nil, decide_eq_false_iff_not]
  have := (keyR_size h).1; omega
theorem doP_right {c : Cell} (hc : cR c = true) (id ep : Int) (r : Request) (now : Stamp) (w : Int) : cR (doP c id ep r now w).1 = true := by
  unfold doP
  cases h1 : cR c && (oneB id && oneB ep) && noB w && stR now && rqR r with
  | false => exact hc
  | true =>
    simp only [Bool.and_eq_true] at h1
    obtain ⟨q1, q2, q3, q4, q5, q6, q7, q8, q9, q10, q11⟩ := rqR_iff h1.2
    simp only [Bool.not_true, cond_false]
    cases h2 : ((eqI (getS c id).mID 0) || (!eqI (getS c id).mEpoch ep)) || (!hasS (getS c id) r.mKey) with
    | true => exact hc
    | false =>
      simp only [Bool.or_eq_false_iff, eqI_false, Bool.not_eq_false'] at h2
      rw [cond_false]
      cases (!eqI (getS c id).mPhase 1) || (wrB r && (!eqI (getS c id).mHold 0)) with
      | true => exact hc
      | false =>
        rw [cond_false]
        cases hw : wrB r with
        | true =>
          have hkey : keyR r.mKey = true := q8 fun h6 => by
            unfold wrB at hw
            simp only [Bool.or_eq_true, eqI_iff] at hw
            omega
          have hk : hasR (getS c id).mSpan r.mKey = true := by
            have := h2.2
            unfold hasS at this
            rw [strEq_key hkey, Bool.false_and, Bool.false_or] at this
            exact this
          exact writeP_right hc h2.1.1 h1.1.2 hk
        | false =>
          rw [cond_false]
          cases eqI r.mKind 4 with
          | true => exact hc
          | false => exact pastP_right hc _ q5 w
end Go.Proofs.Gd
set_option linter.unusedVariables false
set_option linter.unusedSimpArgs false
namespace Go.Proofs.Gd
open Go Go.Awp
theorem getS_sm2 {c : Cell} (h : SmC2 c) (id : Int) : SmS2 (getS c id) := by
  rcases getL_mem id c.mShards with h1 | h1
  · exact h.each _ h1
  · unfold getS; rw [h1]
    exact { entries := by simp [zSh], chains := fun e he => by simp [zSh] at he, done := by simp [zSh], items := fun e he => by simp [zSh] at he, keys := fun e he => by simp [zSh] at he, lo := (by show (0 : Nat) ≤ 100; omega), hi := (by show (0 : Nat) ≤ 100; omega) }
theorem getS_posD {c : Cell} (hc : cR c = true) {id : Int} (h0 : (getS c id).mID ≠ 0) : ltI 0 (getS c id).mHold = !eqI (getS c id).mHold 0 := by
  have := shH_iff.1 ((shR_iff _).1 (getS_right hc h0).1).1
  rw [Bool.eq_iff_iff, ltI_iff, Bool.not_eq_true', eqI_false]; omega
theorem hi_size {s : Shard} {r : Request} (hs : s.mSpan.mHi.size ≤ 100) (hr : r.mHi.size ≤ 100) : (hiP s r).size ≤ 100 := by
  unfold hiP
  cases onP s r <;> assumption
theorem key_small {x : ByteArray} (h : strEq x ⟨#[]⟩ = true ∨ keyR x = true) : x.size ≤ 16 := by
  rcases h with h | h
  · rw [strEq_nil, decide_eq_true_eq] at h; omega
  · exact (keyR_size h).2
theorem V73 (c : Cell) (s : Shard) (r : Request) (w : Int) (hx : ixR s.mEntries = true) (hq : rqR r = true) (hhi : s.mSpan.mHi.size ≤ 100) (hw : noB w = true) : Ev (fun k => F73 k c s r w) (pastP c s r w) := by
  obtain ⟨q1, q2, q3, q4, q5, q6, q7, q8, q9, q10, q11⟩ := rqR_iff hq
  have h1 := stR_iff.1 q5
  have h2 := noB_iff.1 hw
  have hl := ((ixR_iff _).1 hx).1
  have k1 := key_small q9
  have k2 := key_small q11
  obtain ⟨n, hn⟩ := Int.eq_ofNat_of_zero_le q3
  unfold pastP
  refine Ev.bind (bef_eq _ _) (Ev.bif (fun _ => Ev.bind (Ev.of fun _ => rfl) (Ev.of fun _ => rfl)) fun _ => ?_)
  rw [i64z (by omega), show ltI (w + 1000) r.mAt.mWall = ltI w (r.mAt.mWall - 1000) by rw [Bool.eq_iff_iff, ltI_iff, ltI_iff]; omega]
  refine Ev.bif (fun _ => Ev.bind (Ev.of fun _ => rfl) (Ev.of fun _ => rfl)) fun _ => Ev.bind (V97 _ _) (Ev.bif (fun _ => Ev.bind (V72 _ _ (by omega)) (Ev.bind (V132 _ _ (ofL_chR hx _)) (Ev.of fun _ => rfl))) fun _ => ?_)
  rw [ltI_pos _ s.mSpan.mHi rfl, eqI_nil]
  refine Ev.bind (x := hiP s r) (Ev.bind (optv fun _ => V119 _ _ (by omega) (by omega)) ?_) ?_
  · unfold hiP onP
    cases strEq s.mSpan.mHi ⟨#[]⟩ with
    | true => exact Ev.of fun _ => rfl
    | false =>
      cases strEq r.mHi ⟨#[]⟩ with
      | true => exact Ev.of fun _ => rfl
      | false => exact Ev.bif (fun _ => Ev.of fun _ => rfl) fun _ => Ev.of fun _ => rfl
  · have hh := hi_size (r := r) hhi (by omega)
    rw [hn]
    refine Ev.bind (V133 _ _ _ _ n hx (by omega) (by omega)) ?_
    have e : ((!(pageP s.mEntries r.mKey (hiP s r) r.mAt n).2.2) && (!strEq (hiP s r) r.mHi)) = (onP s r && !(pageP s.mEntries r.mKey (hiP s r) r.mAt n).2.2) := by
      rw [Bool.and_comm]
      congr 1
      unfold hiP
      cases ho : onP s r with
      | false => rw [cond_false, strEq_self]; rfl
      | true =>
        rw [cond_true]
        unfold onP at ho
        simp only [Bool.and_eq_true, Bool.not_eq_true', Bool.or_eq_true, ltI_iff] at ho
        rw [Bool.not_eq_true', strEq_false]
        intro e
        rcases ho.2 with h | h
        · rw [e, h] at ho; cases ho.1
        · rw [e, cmpK_self] at h; omega
    show Ev (fun k => bif ((!(pageP s.mEntries r.mKey (hiP s r) r.mAt n).2.2) && (!strEq (hiP s r) r.mHi)) then _ else _) _
    rw [e]
    exact Ev.bif (fun _ => Ev.of fun _ => rfl) fun _ => Ev.of fun _ => rfl
theorem judge_eq {l : List Done} {c q : Int} (h : dnR l = true) (h1 : oneB c = true) (h2 : oneB q = true) : eqI (judge l c q) 2 = eqI q (reqL l c) ∧ eqI (judge l c q) 3 = ltI q (reqL l c) := by
  unfold judge reqL
  rw [h, h1, h2]
  have hq := oneB_iff.1 h2
  cases hf : (rowL l c).2 with
  | false =>
    have e1 : eqI q 0 = false := by rw [eqI_false]; omega
    have e2 : ltI q 0 = false := by rw [ltI_false]; omega
    simp only [cond_false, e1, e2]
    exact ⟨rfl, rfl⟩
  | true =>
    simp only [cond_true, Bool.true_and, Bool.not_true, cond_false, Bool.false_or]
    generalize (rowL l c).1.mReq = n
    by_cases g1 : n < q
    · rw [ltI_iff.2 g1, eqI_false.2 (by omega : q ≠ n), ltI_false.2 (by omega : n ≤ q)]; exact ⟨rfl, rfl⟩
    · rw [ltI_false.2 (by omega : q ≤ n)]
      by_cases g2 : q = n
      · rw [eqI_iff.2 g2, ltI_false.2 (by omega : n ≤ q)]; exact ⟨rfl, rfl⟩
      · rw [eqI_false.2 g2, ltI_iff.2 (by omega : q < n)]; exact ⟨rfl, rfl⟩
theorem V17 (c : Cell) (id ep : Int) (r : Request) (now : Stamp) (w : Int) (h : SmC2 c) : Ev (fun k => F17 k c id ep r now w) (doP c id ep r now w) := by
  have hlen := h.shards
  refine Ev.bind (V22 c h) (Ev.bind (optv fun _ => T66 _) (Ev.bind (optv fun _ => T66 _) (Ev.bind (optv fun _ => V67 _) (Ev.bind (optv fun _ => T68 _) (Ev.bind (optv fun _ => T69 _) ?_)))))
  unfold doP
  cases hc : cR c with
  | false => exact Ev.bind (Ev.of fun _ => rfl) (Ev.of fun _ => rfl)
  | true =>
    cases oneB id with
    | false => exact Ev.bind (Ev.of fun _ => rfl) (Ev.of fun _ => rfl)
    | true =>
      cases oneB ep with
      | false => exact Ev.bind (Ev.of fun _ => rfl) (Ev.of fun _ => rfl)
      | true =>
        cases hw : noB w with
        | false => exact Ev.bind (Ev.of fun _ => rfl) (Ev.of fun _ => rfl)
        | true =>
          cases stR now with
          | false => exact Ev.bind (Ev.of fun _ => rfl) (Ev.of fun _ => rfl)
          | true =>
            cases hq : rqR r with
            | false => exact Ev.bind (Ev.of fun _ => rfl) (Ev.of fun _ => rfl)
            | true =>
              obtain ⟨q1, q2, q3, q4, q5, q6, q7, q8, q9, q10, q11⟩ := rqR_iff hq
              have hs2 := getS_sm2 h id
              have slo := hs2.lo
              have shi := hs2.hi
              have k1 := key_small q9
              refine Ev.bind (V24 c id hlen) (Ev.bind (optv fun _ => V55 _ _ _ (by omega) (by omega) (by omega)) ?_)
              rw [ltI_pos _ r.mKey rfl, eqI_nil, ltI_pos _ (getS c id).mSpan.mLo rfl]
              cases h0 : eqI (getS c id).mID 0 with
              | true => exact Ev.bind (Ev.of fun _ => rfl) (Ev.of fun _ => rfl)
              | false =>
                have hg := (getS_right hc (eqI_false.1 h0)).1
                have hold := getS_posD hc (eqI_false.1 h0)
                have g := (shR_iff _).1 hg
                rw [hold]
                generalize getS c id = s at *
                have e : (((false || (!eqI s.mEpoch ep)) || ((!strEq r.mKey ⟨#[]⟩) && (!(bif ((!(false || (!eqI s.mEpoch ep))) && (!strEq r.mKey ⟨#[]⟩)) then (leI (cmpK s.mSpan.mLo r.mKey) 0 && (strEq s.mSpan.mHi ⟨#[]⟩ || ltI (cmpK r.mKey s.mSpan.mHi) 0)) else default)))) || ((strEq r.mKey ⟨#[]⟩) && (!strEq s.mSpan.mLo ⟨#[]⟩))) = ((false || (!eqI s.mEpoch ep)) || (!hasS s r.mKey)) := by
                  unfold hasS hasR
                  rw [g.2.1]
                  cases hk : strEq r.mKey ⟨#[]⟩ with
                  | true =>
                    have hkr : keyR r.mKey = false := by
                      cases hkr : keyR r.mKey with
                      | false => rfl
                      | true => rw [strEq_key hkr] at hk; cases hk
                    rw [hkr]
                    cases eqI s.mEpoch ep <;> cases strEq s.mSpan.mLo ⟨#[]⟩ <;> rfl
                  | false =>
                    have hkr : keyR r.mKey = true := by
                      rcases q9 with h | h
                      · rw [hk] at h; cases h
                      · exact h
                    rw [hkr]
                    generalize leI (cmpK s.mSpan.mLo r.mKey) 0 = a; generalize (strEq s.mSpan.mHi ⟨#[]⟩ || ltI (cmpK r.mKey s.mSpan.mHi) 0) = b
                    cases eqI s.mEpoch ep <;> cases a <;> cases b <;> rfl
                show Ev (fun k => bif (((false || (!eqI s.mEpoch ep)) || ((!strEq r.mKey ⟨#[]⟩) && (!(bif ((!(false || (!eqI s.mEpoch ep))) && (!strEq r.mKey ⟨#[]⟩)) then (leI (cmpK s.mSpan.mLo r.mKey) 0 && (strEq s.mSpan.mHi ⟨#[]⟩ || ltI (cmpK r.mKey s.mSpan.mHi) 0)) else default)))) || ((strEq r.mKey ⟨#[]⟩) && (!strEq s.mSpan.mLo ⟨#[]⟩))) then _ else _) _
                rw [e]
                have ew : ltI r.mKind 4 = wrB r := by
                  unfold wrB
                  rw [Bool.eq_iff_iff]
                  simp only [ltI_iff, Bool.or_eq_true, eqI_iff]
                  omega
                rw [ew]
                refine Ev.bif (fun _ => Ev.bind (Ev.of fun _ => rfl) (Ev.of fun _ => rfl)) fun _ => Ev.bif (fun _ => Ev.bind (Ev.of fun _ => rfl) (Ev.of fun _ => rfl)) fun _ => ?_
                have hx := g.2.2.1
                have hxl := ((ixR_iff _).1 hx).1
                have hdn := g.2.2.2.2.2.1
                have hdl := ((dnR_iff _).1 hdn).1
                have hch : ∀ e ∈ s.mEntries, e.mChain.length ≤ 1000 := fun e h => by have := ixR_chains hx e h; omega
                have hks : ∀ e ∈ s.mEntries, e.mKey.size ≤ 1000 := fun e h => by have := hs2.keys e h; omega
                refine Ev.bind (V72 _ _ (by omega)) (Ev.bind (V71 _ _ (ofL_chR hx _)) ?_)
                show Ev (fun k => bif (eqI r.mKind 4) then (some (c, latA c s r.mKey)) else (bif (ltI 4 r.mKind) then ((F73 k c s r w).bind fun (t148a, t148b) => some (t148a, t148b)) else ((F74 k s.mDone r.mClient).bind fun t155 => bif (eqI r.mReq t155) then ((F75 k s.mDone r.mClient).bind fun (t165a, t165b) => some (c, t165a.mAnswer)) else (bif (ltI r.mReq t155) then ((F70 k 10).bind fun t176 => some (c, t176)) else ((F76 k c.mTop now).bind fun t180 => bif (!t180) then ((F70 k 1).bind fun t183 => some (c, t183)) else ((bif ((eqI r.mKind 3) && ((!((latA c s r.mKey).mFound == r.mHad)) || ((latA c s r.mKey).mFound && (!strEq (latA c s r.mKey).mValue r.mOld)))) then (some ((0 : Int), s.mEntries, (15 : Nat), (latA c s r.mKey).mValue)) else (bif (!eqI r.mKind 2) then ((F77 k s.mEntries r.mKey (⟨now, false, r.mValue⟩ : Version)).bind fun (t222a, t222b) => some (t222b, t222a, 0, (⟨#[]⟩ : ByteArray))) else (bif (latA c s r.mKey).mFound then ((F77 k s.mEntries r.mKey (⟨now, true, (⟨#[]⟩ : ByteArray)⟩ : Version)).bind fun (t234a, t234b) => some (t234b, t234a, 0, (⟨#[]⟩ : ByteArray))) else (some (0, s.mEntries, 0, (⟨#[]⟩ : ByteArray)))))).bind fun (t22, t14c5, t21c0, t21c5) => bif (!eqI t22 0) then ((F70 k t22).bind fun t242 => some (c, t242)) else ((F78 k s.mDone (⟨r.mClient, r.mReq, (⟨(t21c0 : Nat), now, (latA c s r.mKey).mFound, t21c5, ([] : List Item), (⟨#[]⟩ : ByteArray), false⟩ : Answer)⟩ : Done)).bind fun (t252a, t252b) => bif (!eqI t252b 0) then ((F70 k t252b).bind fun t260 => some (c, t260)) else ((F79 k c ({s with mEntries := t14c5, mDone := t252a}) false).bind fun t263 => some ({t263 with mTop := now}, (⟨(t21c0 : Nat), now, (latA c s r.mKey).mFound, t21c5, ([] : List Item), (⟨#[]⟩ : ByteArray), false⟩ : Answer)))))))))) _
                cases h4 : eqI r.mKind 4 with
                | true =>
                  have : wrB r = false := by
                    rw [← ew, ltI_false]
                    rw [eqI_iff] at h4; omega
                  rw [this]
                  exact Ev.of fun _ => rfl
                | false =>
                  rw [eqI_false] at h4
                  cases h5 : ltI 4 r.mKind with
                  | true =>
                    have : wrB r = false := by
                      rw [← ew, ltI_false]
                      rw [ltI_iff] at h5; omega
                    rw [this]
                    exact Ev.bind (V73 c s r w hx hq (by omega) hw) (Ev.of fun _ => rfl)
                  | false =>
                    have : wrB r = true := by
                      rw [← ew, ltI_iff]
                      rw [ltI_false] at h5; omega
                    rw [this]
                    obtain ⟨j1, j2⟩ := judge_eq hdn q6 q7
                    simp only [cond_false, cond_true]
                    unfold writeP
                    rw [j1, j2]
                    have et : (!ltI (cmpS c.mTop now) 0) = leI (cmpS now c.mTop) 0 := by
                      rw [Bool.eq_iff_iff, Bool.not_eq_true', leB, Bool.eq_false_iff, Ne, ltB]
                    rw [← et]
                    refine Ev.bind (V74 _ _ (by omega)) (Ev.bif (fun _ => Ev.bind (V75 _ _ (by omega)) (Ev.of fun _ => rfl)) fun _ => Ev.bif (fun _ => Ev.bind (Ev.of fun _ => rfl) (Ev.of fun _ => rfl)) fun _ => Ev.bind (bef_eq _ _) (Ev.bif (fun _ => Ev.bind (Ev.of fun _ => rfl) (Ev.of fun _ => rfl)) fun _ => Ev.bind (x := stepP c s r now) ?_ ?_))
                    · unfold stepP
                      exact Ev.bif (fun _ => Ev.of fun _ => rfl) fun _ => Ev.bif (fun _ => Ev.bind (V77 _ _ _ (by omega) hch hks) (Ev.of fun _ => rfl)) fun _ => Ev.bif (fun _ => Ev.bind (V77 _ _ _ (by omega) hch hks) (Ev.of fun _ => rfl)) fun _ => Ev.of fun _ => rfl
                    · show Ev (fun k => bif (!eqI (stepP c s r now).1 0) then ((F70 k (stepP c s r now).1).bind fun t116 => some (c, t116)) else ((F78 k s.mDone (⟨r.mClient, r.mReq, ansP c s r now⟩ : Done)).bind fun (t126a, t126b) => bif (!eqI t126b 0) then ((F70 k t126b).bind fun t134 => some (c, t134)) else ((F79 k c ({s with mEntries := (stepP c s r now).2.1, mDone := t126a}) false).bind fun t137 => some ({t137 with mTop := now}, ansP c s r now)))) _
                      refine Ev.bif (fun _ => Ev.bind (Ev.of fun _ => rfl) (Ev.of fun _ => rfl)) fun _ => Ev.bind (V78 _ _ (by omega)) (Ev.bif (fun _ => Ev.bind (Ev.of fun _ => rfl) (Ev.of fun _ => rfl)) fun _ => ?_)
                      exact Ev.bind (V79 c (wrS c s r now) hc hlen) (Ev.of fun _ => rfl)
theorem pageP_len (l : List Entry) (lo hi : ByteArray) (t : Stamp) (n : Nat) : (pageP l lo hi t n).1.length ≤ l.length := by
  have := aliveE_le l lo hi t
  unfold pageP
  split
  · exact this
  · show ((aliveE l lo hi t).take n).length ≤ l.length
    rw [List.length_take]; omega
theorem doP_items {c : Cell} (id ep : Int) (r : Request) (now : Stamp) (w : Int) : (doP c id ep r now w).2.mItems.length ≤ 1000 := by
  have h0 : ∀ e, (fault e).mItems.length ≤ 1000 := fun e => by simp [fault]
  unfold doP
  cases h1 : cR c && (oneB id && oneB ep) && noB w && stR now && rqR r with
  | false => exact h0 1
  | true =>
    simp only [Bool.and_eq_true] at h1
    have hc := h1.1.1.1.1
    simp only [Bool.not_true, cond_false]
    cases h2 : ((eqI (getS c id).mID 0) || (!eqI (getS c id).mEpoch ep)) || (!hasS (getS c id) r.mKey) with
    | true => exact h0 10
    | false =>
      simp only [Bool.or_eq_false_iff, eqI_false, Bool.not_eq_false'] at h2
      have g := (shR_iff _).1 (getS_right hc h2.1.1).1
      rw [cond_false]
      cases (!eqI (getS c id).mPhase 1) || (wrB r && (!eqI (getS c id).mHold 0)) with
      | true => exact h0 11
      | false =>
        rw [cond_false]
        cases wrB r with
        | true =>
          rw [cond_true]
          unfold writeP
          cases eqI (judge (getS c id).mDone r.mClient r.mReq) 2 with
          | true =>
            show ((rowL (getS c id).mDone r.mClient).1.mAnswer).mItems.length ≤ 1000
            cases hf : (rowL (getS c id).mDone r.mClient).2 with
            | false => rw [(rowL_no _ _ hf).1]; simp [zD]
            | true => rw [aR_items (((dnR_iff _).1 g.2.2.2.2.2.1).2.1 _ (rowL_mem _ _ hf).1).2.2]; simp
          | false =>
            cases eqI (judge (getS c id).mDone r.mClient r.mReq) 3 with
            | true => exact h0 10
            | false =>
              cases leI (cmpS now c.mTop) 0 with
              | true => exact h0 1
              | false =>
                cases eqI (stepP c (getS c id) r now).1 0 with
                | false => exact h0 _
                | true =>
                  cases eqI (dnP c (getS c id) r now).2 0 with
                  | false => exact h0 _
                  | true => simp [ansP]
        | false =>
          rw [cond_false]
          cases eqI r.mKind 4 with
          | true => simp [latA]
          | false =>
            rw [cond_false]
            have hp := pageP_len (getS c id).mEntries r.mKey (hiP (getS c id) r) r.mAt r.mLimit.toNat
            have hl := ((ixR_iff _).1 g.2.2.1).1
            unfold pastP
            cases ltI (cmpS r.mAt (getS c id).mMark) 0 with
            | true => exact h0 13
            | false =>
              cases ltI w (r.mAt.mWall - 1000) with
              | true => exact h0 12
              | false =>
                cases eqI r.mKind 5 with
                | true => simp
                | false =>
                  cases onP (getS c id) r && !(pageP (getS c id).mEntries r.mKey (hiP (getS c id) r) r.mAt r.mLimit.toNat).2.2 with
                  | true => show (pageP (getS c id).mEntries r.mKey (hiP (getS c id) r) r.mAt r.mLimit.toNat).1.length ≤ 1000; omega
                  | false => show (pageP (getS c id).mEntries r.mKey (hiP (getS c id) r) r.mAt r.mLimit.toNat).1.length ≤ 1000; omega
theorem does (c : Cell) (id ep : Int) (r : Request) (now : Stamp) (w : Int) : EvP (fun k => F3 k c id ep r now w) (· = true) := by
  have aw : Ev (fun k => F15 k) true := Ev.from 40 awake
  refine EvP.bind ((V14 c).mono fun b hb => EvP.cond (fun _ => EvP.bind (aw.evP.mono fun x hx => EvP.some hx)) fun hc => ?_)
  have h2 := hb (by simpa using hc)
  have h := h2.sm
  have e1 := V16 c id ep r now w h
  have e2 := V17 c id ep r now w h2
  have hi := doP_items (c := c) id ep r now w
  have hsm : SmC (doP c id ep r now w).1 := by
    cases hc : cR c with
    | true => exact (cR_sm (doP_right hc id ep r now w)).sm
    | false => unfold doP; rw [hc]; exact h
  generalize doP c id ep r now w = P at e1 e2 hsm hi
  obtain ⟨q, b⟩ := P
  refine EvP.of (r := true) (Ev.bind e1 (Ev.bind e2 (Ev.bind (E18 _ hsm) (Ev.bind (E19 _ hi) (Ev.bind aw (Ev.of fun _ => rfl)))))) rfl
end Go.Proofs.Gd
