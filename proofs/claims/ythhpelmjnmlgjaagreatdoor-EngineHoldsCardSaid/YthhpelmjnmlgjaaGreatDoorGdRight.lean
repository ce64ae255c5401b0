/- What is right, on both sides: spans, chains, entries, tables. No program in sight. -/
import Derived.Test.YthhpelmjnmlgjaaGreatDoorGdCmp
set_option linter.unusedVariables false
set_option linter.unusedSimpArgs false
namespace Go.Proofs.Gd
open Go Go.Awp

def noB (n : Int) : Bool := leI 0 n && leI n 1099511627776
theorem V67 (x : Int) : Ev (fun k => F67 k x) (noB x) := by
  refine Ev.bind (optv fun _ => T66 x) (Ev.of fun _ => ?_)
  congr 1
  unfold noB oneB
  rw [Bool.eq_iff_iff]
  cases h : eqI x 0 with
  | true => rw [eqI_iff] at h; subst h; simp [leI]
  | false => rw [eqI_false] at h; simp [leI_iff]; omega

/-! ### Spans -/
def spR (s : Span) : Bool := (strEq s.mLo ⟨#[]⟩ || keyR s.mLo) && (strEq s.mHi ⟨#[]⟩ || (keyR s.mHi && ltI (cmpK s.mLo s.mHi) 0))
theorem V80 (s : Span) : Ev (fun k => F80 k s) (spR s) := by
  refine Ev.bind (optv fun _ => T122 _) ?_
  unfold spR
  generalize strEq s.mLo ⟨#[]⟩ = a; generalize keyR s.mLo = b
  refine Ev.cond (fun hc => Ev.of fun _ => ?_) fun hc => Ev.bind (optv fun _ => T122 _) (Ev.bind (optv fun _ => V124 _ _) (Ev.of fun _ => ?_))
  · congr 1
    generalize (strEq s.mHi ⟨#[]⟩ || (keyR s.mHi && ltI (cmpK s.mLo s.mHi) 0)) = c
    revert a b c; decide
  · congr 1
    cases strEq s.mHi ⟨#[]⟩ <;> cases keyR s.mHi <;> revert hc <;> revert a b <;> simp only [Bool.not_true, Bool.not_false, Bool.true_and, Bool.false_and, Bool.true_or, Bool.false_or, cond_true, cond_false, Bool.and_true, Bool.and_false] <;> first | decide | (generalize ltI (cmpK s.mLo s.mHi) 0 = c; revert c; decide)
theorem eqI_m1 (a b : ByteArray) : eqI (cmpK a b) (-1) = ltI (cmpK a b) 0 := by
  rw [Bool.eq_iff_iff, eqI_iff, ltI_iff]
  rcases cmpL_range (runes a) (runes b) with h | h | h <;> (unfold cmpK; omega)
theorem V85 (s : Span) (h1 : s.mLo.size ≤ 1000) (h2 : s.mHi.size ≤ 1000) : Ev (fun k => F85 k s) (spR s) := by
  unfold F85
  rw [ltI_pos _ s.mLo rfl, eqI_nil]
  refine Ev.bind (optv fun _ => T130 _) ?_
  unfold spR
  generalize strEq s.mLo ⟨#[]⟩ = a; generalize keyR s.mLo = b
  refine Ev.cond (fun hc => Ev.of fun _ => ?_) fun hc => Ev.cond (fun hh => Ev.of fun _ => ?_) fun hh => Ev.bind (T130 _) (Ev.bind (optv fun _ => V119 _ _ (by omega) (by omega)) (Ev.of fun _ => ?_))
  · congr 1
    generalize (strEq s.mHi ⟨#[]⟩ || (keyR s.mHi && ltI (cmpK s.mLo s.mHi) 0)) = c
    revert a b c; decide
  · congr 1
    rw [hh]
    generalize (keyR s.mHi && ltI (cmpK s.mLo s.mHi) 0) = c
    revert hc; revert a b c; decide
  · congr 1
    rw [hh]
    cases keyR s.mHi
    · simp only [Bool.false_and, Bool.false_or, Bool.and_false]
    · simp only [cond_true, eqI_m1]
      generalize ltI (cmpK s.mLo s.mHi) 0 = c
      revert hc; revert a b c; decide

def hasR (s : Span) (x : ByteArray) : Bool := spR s && keyR x && leI (cmpK s.mLo x) 0 && (strEq s.mHi ⟨#[]⟩ || ltI (cmpK x s.mHi) 0)
theorem V61 (s : Span) (x : ByteArray) : Ev (fun k => F61 k s x) (hasR s x) := by
  refine Ev.bind (V80 _) (Ev.bind (optv fun _ => T122 _) (Ev.bind (optv fun _ => V124 _ _) (Ev.bind (optv fun _ => V124 _ _) (Ev.of fun _ => ?_))))
  congr 1
  unfold hasR
  cases spR s <;> cases keyR x <;> simp only [Bool.true_and, Bool.false_and, cond_true, cond_false, Bool.and_true, Bool.and_false]
  cases leI (cmpK s.mLo x) 0 <;> cases strEq s.mHi ⟨#[]⟩ <;> simp
theorem cmpK_flip (a b : ByteArray) : leI 0 (cmpK a b) = leI (cmpK b a) 0 := by
  unfold cmpK
  rw [cmpL_anti (runes a) (runes b), Bool.eq_iff_iff, leI_iff, leI_iff]; omega
theorem V55 (x lo hi : ByteArray) (h0 : x.size ≤ 1000) (h1 : lo.size ≤ 1000) (h2 : hi.size ≤ 1000) : Ev (fun k => F55 k x lo hi) (leI (cmpK lo x) 0 && (strEq hi ⟨#[]⟩ || ltI (cmpK x hi) 0)) := by
  unfold F55
  rw [eqI_nil]
  refine Ev.bind (V119 _ _ (by omega) (by omega)) ?_
  rw [cmpK_flip]
  refine Ev.bind (optv fun _ => V119 _ _ (by omega) (by omega)) (Ev.of fun _ => ?_)
  congr 1
  cases leI (cmpK lo x) 0 <;> cases strEq hi ⟨#[]⟩ <;> simp
theorem V88 (s : Span) (x : ByteArray) (h0 : x.size ≤ 1000) (h1 : s.mLo.size ≤ 1000) (h2 : s.mHi.size ≤ 1000) : Ev (fun k => F88 k s x) (hasR s x) := by
  refine Ev.bind (V85 _ h1 h2) (Ev.bind (optv fun _ => T130 _) (Ev.bind (optv fun _ => V55 _ _ _ h0 h1 h2) (Ev.of fun _ => ?_)))
  congr 1
  unfold hasR
  cases spR s <;> cases keyR x <;> simp [Bool.and_assoc]

/-! ### Chains -/
def vR (v : Version) : Bool := stR v.mAt && leI (v.mValue.size : Int) 16 && (!v.mGone || strEq v.mValue ⟨#[]⟩)
theorem V166 (v : Version) : Ev (fun k => F166 k v) (vR v) := Ev.bind (T36 _) (Ev.of fun _ => rfl)
theorem V134 (v : Version) : Ev (fun k => F134 k v) (vR v) := by
  unfold F134 vR
  rw [ltI_pos _ v.mValue rfl]
  refine Ev.cond (fun hc => Ev.of fun _ => ?_) fun hc => Ev.bind (T68 _) (Ev.of fun _ => ?_)
  · rw [Bool.and_eq_true, Bool.not_eq_true'] at hc
    rw [hc.1, hc.2]; simp
  · have : ltI (v.mValue.size : Int) 17 = leI (v.mValue.size : Int) 16 := by rw [Bool.eq_iff_iff, ltI_iff, leI_iff]; omega
    rw [this]
    congr 1
    generalize stR v.mAt = a; generalize leI (v.mValue.size : Int) 16 = b; revert hc; generalize v.mGone = c; generalize strEq v.mValue ⟨#[]⟩ = d
    revert a b c d; decide
def chQ (l : List Version) (i : Nat) : Bool := vR (rd l (i : Int)) && (decide (i = 0) || ltI (cmpS (rd l ((i : Int) - 1)).mAt (rd l (i : Int)).mAt) 0)
def chR (l : List Version) : Bool := leI (l.length : Int) 64 && allFrom (chQ l) l.length 0
theorem V136 (l : List Version) (hl : l.length ≤ 1000) : Ev (fun k => F136 k l) (chR l) := by
  refine Ev.bind (all_ev (q := chQ l) (n := l.length) (r := false) ?_ fun i hi v hv => ?_) ?_
  · refine Ev.from 1 fun k => ?_
    show F136_l1 l (k + 1) _ = _
    rw [F136_l1, ltI_nat, decide_eq_false (Nat.lt_irrefl _)]; rfl
  · refine Ev.succ (fun k => by rw [F136_l1]) ?_
    rw [ltI_nat, decide_eq_true hi, inR_mk hi, i64z (n := (i : Int) - 1) (by omega), i64z (n := (i : Int) + 1) (by omega)]
    refine Ev.bind (V166 _) (Ev.guard ?_ (Ev.bind (optv fun _ => T42 _ _) ?_))
    · rw [Bool.or_eq_true, Bool.not_eq_true', Bool.and_eq_false_iff, ltI_false, inR_iff]
      omega
    · have h0 : ltI 0 (i : Int) = !decide (i = 0) := by rw [Bool.eq_iff_iff, ltI_iff]; simp; omega
      unfold chQ
      rw [h0]
      cases h1 : vR (rd l (i : Int)) <;> cases h2 : decide (i = 0) <;> simp only [Bool.not_true, Bool.not_false, Bool.true_and, Bool.false_and, Bool.true_or, Bool.false_or, cond_true, cond_false, Bool.and_true, Bool.and_false, Bool.or_true, Bool.or_false, if_true]
      · exact Ev.of fun _ => rfl
      · exact Ev.of fun _ => rfl
      · have h3 : leI 0 (cmpS (rd l ((i : Int) - 1)).mAt (rd l (i : Int)).mAt) = !ltI (cmpS (rd l ((i : Int) - 1)).mAt (rd l (i : Int)).mAt) 0 := leI_lt _
        rw [h3]
        cases ltI (cmpS (rd l ((i : Int) - 1)).mAt (rd l (i : Int)).mAt) 0
        · exact Ev.of fun _ => rfl
        · exact hv
      · exact hv
  · unfold chR
    cases allFrom (chQ l) l.length 0
    · exact Ev.of fun _ => by simp [LR.go]
    · exact Ev.of fun _ => by simp [LR.go]

theorem i0 (i : Nat) : ltI 0 (i : Int) = !decide (i = 0) := by rw [Bool.eq_iff_iff, ltI_iff]; simp; omega
theorem bef_eq (s t : Stamp) : Ev (fun k => F76 k s t) (ltI (cmpS s t) 0) := by
  refine Ev.of fun _ => ?_
  have key : ltI (cmpS s t) 0 = true ↔ befS s t := by rw [ltI_iff]; exact cmpS_lt s t
  unfold F76
  by_cases h1 : s.mWall = t.mWall
  · rw [eqI_iff.2 h1]
    by_cases h2 : s.mTick = t.mTick
    · rw [eqI_iff.2 h2]
      show some (ltI _ _) = _
      congr 1
      rw [Bool.eq_iff_iff, key, ltI_iff]; unfold befS; omega
    · rw [eqI_false.2 h2]
      show some (ltI _ _) = _
      congr 1
      rw [Bool.eq_iff_iff, key, ltI_iff]; unfold befS; omega
  · rw [eqI_false.2 h1]
    show some (ltI _ _) = _
    congr 1
    rw [Bool.eq_iff_iff, key, ltI_iff]; unfold befS; omega
/-- The last word of a loop that stops at the first that fails, behind a test of the length. -/
theorem V131 (l : List Version) (hl : l.length ≤ 1000) : Ev (fun k => F131 k l) (chR l) := by
  refine Ev.cond (fun hc => Ev.of fun _ => ?_) fun hc => ?_
  · rw [ltI_iff] at hc
    unfold chR
    rw [leI_false.2 hc]; rfl
  rw [ltI_false] at hc
  refine Ev.bind (all_ev (q := chQ l) (n := l.length) (r := false) ?_ fun i hi v hv => ?_) ?_
  · refine Ev.from 1 fun k => ?_
    show F131_l1 l (k + 1) _ = _
    rw [F131_l1, ltI_nat, decide_eq_false (Nat.lt_irrefl _)]; rfl
  · refine Ev.succ (fun k => by rw [F131_l1]) ?_
    rw [ltI_nat, decide_eq_true hi, inR_mk hi, i64z (n := (i : Int) - 1) (by omega), i64z (n := (i : Int) + 1) (by omega), i0]
    unfold chQ
    refine Ev.bind (V134 _) ?_
    cases h1 : vR (rd l (i : Int))
    · exact Ev.of fun _ => rfl
    · simp only [Bool.not_true, cond_false, Bool.true_and]
      refine Ev.guard ?_ (Ev.guard (by simp) (Ev.bind (optv fun _ => bef_eq _ _) ?_))
      · rw [Bool.or_eq_true, Bool.not_eq_true', inR_iff]
        by_cases h0 : i = 0
        · exact .inl (by simp [h0])
        · right; omega
      · cases decide (i = 0) <;> simp only [Bool.not_true, Bool.not_false, Bool.true_and, Bool.false_and, cond_true, cond_false, Bool.true_or, Bool.false_or, if_true]
        · cases ltI (cmpS (rd l ((i : Int) - 1)).mAt (rd l (i : Int)).mAt) 0
          · exact Ev.of fun _ => rfl
          · exact hv
        · exact hv
  · unfold chR
    rw [leI_iff.2 hc]
    cases allFrom (chQ l) l.length 0 <;> exact Ev.of fun _ => rfl

/-! ### Entries -/
def ixQ (l : List Entry) (i : Nat) : Bool := (keyR (rd l (i : Int)).mKey && chR (rd l (i : Int)).mChain && !eqI ((rd l (i : Int)).mChain.length : Int) 0) && (decide (i = 0) || ltI (cmpK (rd l ((i : Int) - 1)).mKey (rd l (i : Int)).mKey) 0)
def ixR (l : List Entry) : Bool := leI (l.length : Int) 64 && allFrom (ixQ l) l.length 0
theorem rd_mem {α : Type} [Inhabited α] {l : List α} {i : Nat} (h : i < l.length) : rd l (i : Int) ∈ l := by rw [rd_nat _ _ h]; exact List.getElem_mem h
theorem V81 (l : List Entry) (hl : l.length ≤ 1000) (hc : ∀ e ∈ l, e.mChain.length ≤ 1000) : Ev (fun k => F81 k l) (ixR l) := by
  refine Ev.bind (all_ev (q := ixQ l) (n := l.length) (r := false) ?_ fun i hi v hv => ?_) ?_
  · refine Ev.from 1 fun k => ?_
    show F81_l1 l (k + 1) _ = _
    rw [F81_l1, ltI_nat, decide_eq_false (Nat.lt_irrefl _)]; rfl
  · refine Ev.succ (fun k => by rw [F81_l1]) ?_
    rw [ltI_nat, decide_eq_true hi, inR_mk hi, i64z (n := (i : Int) - 1) (by omega), i64z (n := (i : Int) + 1) (by omega), i0]
    refine Ev.bind (T122 _) (Ev.bind (optv fun _ => V136 _ (hc _ (rd_mem hi))) (Ev.guard ?_ (Ev.bind (optv fun _ => V124 _ _) ?_)))
    · rw [Bool.or_eq_true, Bool.not_eq_true', Bool.and_eq_false_iff, inR_iff]
      by_cases h0 : i = 0
      · exact .inl (.inr (by simp [h0]))
      · right; omega
    · unfold ixQ
      have h3 : leI 0 (cmpK (rd l ((i : Int) - 1)).mKey (rd l (i : Int)).mKey) = !ltI (cmpK (rd l ((i : Int) - 1)).mKey (rd l (i : Int)).mKey) 0 := leI_lt _
      cases keyR (rd l (i : Int)).mKey <;> simp only [Bool.not_true, Bool.not_false, Bool.true_and, Bool.false_and, Bool.true_or, Bool.false_or, cond_true, cond_false, Bool.and_true, Bool.and_false, Bool.or_true, Bool.or_false]
      · exact Ev.of fun _ => rfl
      cases chR (rd l (i : Int)).mChain <;> simp only [Bool.not_true, Bool.not_false, Bool.true_and, Bool.false_and, Bool.true_or, Bool.false_or, cond_true, cond_false, Bool.and_true, Bool.and_false, Bool.or_true, Bool.or_false]
      · exact Ev.of fun _ => rfl
      cases eqI ((rd l (i : Int)).mChain.length : Int) 0 <;> simp only [Bool.not_true, Bool.not_false, Bool.true_and, Bool.false_and, Bool.true_or, Bool.false_or, cond_true, cond_false, Bool.and_true, Bool.and_false, Bool.or_true, Bool.or_false]
      · cases decide (i = 0) <;> simp only [Bool.not_true, Bool.not_false, Bool.true_and, Bool.false_and, cond_true, cond_false, Bool.true_or, Bool.false_or, if_true]
        · rw [h3]
          cases ltI (cmpK (rd l ((i : Int) - 1)).mKey (rd l (i : Int)).mKey) 0
          · exact Ev.of fun _ => rfl
          · exact hv
        · exact hv
      · exact Ev.of fun _ => rfl
  · unfold ixR
    cases allFrom (ixQ l) l.length 0
    · exact Ev.of fun _ => by simp [LR.go]
    · exact Ev.of fun _ => by simp [LR.go]
theorem V86 (l : List Entry) (hl : l.length ≤ 1000) (hc : ∀ e ∈ l, e.mChain.length ≤ 1000) (hk : ∀ e ∈ l, e.mKey.size ≤ 1000) : Ev (fun k => F86 k l) (ixR l) := by
  refine Ev.cond (fun hc => Ev.of fun _ => ?_) fun hcc => ?_
  · rw [ltI_iff] at hc
    unfold ixR
    rw [leI_false.2 hc]; rfl
  rw [ltI_false] at hcc
  refine Ev.bind (all_ev (q := ixQ l) (n := l.length) (r := false) ?_ fun i hi v hv => ?_) ?_
  · refine Ev.from 1 fun k => ?_
    show F86_l1 l (k + 1) _ = _
    rw [F86_l1, ltI_nat, decide_eq_false (Nat.lt_irrefl _)]; rfl
  · refine Ev.succ (fun k => by rw [F86_l1]) ?_
    rw [ltI_nat, decide_eq_true hi, inR_mk hi, i64z (n := (i : Int) - 1) (by omega), i64z (n := (i : Int) + 1) (by omega), i0]
    simp only [Bool.or_true, cond_true]
    unfold ixQ
    refine Ev.bind (T130 _) (Ev.bind (optv fun _ => V131 _ (hc _ (rd_mem hi))) ?_)
    cases keyR (rd l (i : Int)).mKey <;> simp only [Bool.not_true, Bool.not_false, Bool.true_and, Bool.false_and, Bool.true_or, Bool.false_or, cond_true, cond_false, Bool.and_true, Bool.and_false, Bool.or_true, Bool.or_false]
    · exact Ev.of fun _ => rfl
    cases eqI ((rd l (i : Int)).mChain.length : Int) 0 <;> simp only [Bool.not_true, Bool.not_false, Bool.true_and, Bool.false_and, Bool.true_or, Bool.false_or, cond_true, cond_false, Bool.and_true, Bool.and_false, Bool.or_true, Bool.or_false]
    · cases chR (rd l (i : Int)).mChain <;> simp only [Bool.not_true, Bool.not_false, Bool.true_and, Bool.false_and, Bool.true_or, Bool.false_or, cond_true, cond_false, Bool.and_true, Bool.and_false, Bool.or_true, Bool.or_false]
      · exact Ev.of fun _ => rfl
      · refine Ev.guard ?_ ?_
        · rw [Bool.or_eq_true, Bool.not_eq_true', inR_iff]
          by_cases h0 : i = 0
          · exact .inl (by simp [h0])
          · right; omega
        · by_cases h0 : i = 0
          · rw [decide_eq_true h0]
            exact hv
          · rw [decide_eq_false h0]
            have hm : rd l ((i : Int) - 1) ∈ l := by
              have := rd_mem (l := l) (i := i - 1) (by omega)
              rwa [show ((i - 1 : Nat) : Int) = (i : Int) - 1 by omega] at this
            refine Ev.bind (V119 _ _ (by have := hk _ hm; omega) (by have := hk _ (rd_mem hi); omega)) ?_
            simp only [eqI_m1, Bool.not_false, Bool.true_and, Bool.false_or]
            cases ltI (cmpK (rd l ((i : Int) - 1)).mKey (rd l (i : Int)).mKey) 0
            · exact Ev.of fun _ => rfl
            · exact hv
    · exact Ev.of fun _ => rfl
  · unfold ixR
    rw [leI_iff.2 hcc]
    cases allFrom (ixQ l) l.length 0 <;> exact Ev.of fun _ => rfl

/-! ### Tables -/
def aR (a : Answer) : Bool := leI 0 a.mErr && leI a.mErr 16 && stR a.mAt && leI (a.mValue.size : Int) 16 && eqI (a.mItems.length : Int) 0 && strEq a.mNext ⟨#[]⟩ && !a.mMore
theorem V138 (a : Answer) : Ev (fun k => F138 k a) (aR a) := by
  refine Ev.bind (optv fun _ => T36 _) (Ev.of fun _ => ?_)
  congr 1
  unfold aR
  cases leI 0 a.mErr <;> cases leI a.mErr 16 <;> simp
theorem V141 (a : Answer) : Ev (fun k => F141 k a) (aR a) := by
  unfold F141
  rw [ltI_pos _ a.mNext rfl]
  have h1 : ltI 0 (a.mItems.length : Int) = !eqI (a.mItems.length : Int) 0 := by rw [Bool.eq_iff_iff, ltI_iff, Bool.not_eq_true', eqI_false]; omega
  have h2 : ltI a.mErr 0 = !leI 0 a.mErr := by rw [leI_lt, Bool.not_not]
  have h3 : ltI 16 a.mErr = !leI a.mErr 16 := by rw [Bool.eq_iff_iff, ltI_iff, Bool.not_eq_true', leI_false]
  have h4 : ltI 16 (a.mValue.size : Int) = !leI (a.mValue.size : Int) 16 := by rw [Bool.eq_iff_iff, ltI_iff, Bool.not_eq_true', leI_false]
  rw [h1, h2, h3, h4]
  unfold aR
  refine Ev.cond (fun hc => Ev.of fun _ => ?_) fun hc => Ev.bind (T68 _) (Ev.of fun _ => ?_)
  · congr 1
    revert hc
    generalize leI 0 a.mErr = x1; generalize leI a.mErr 16 = x2; generalize stR a.mAt = x3; generalize leI (a.mValue.size : Int) 16 = x4; generalize eqI (a.mItems.length : Int) 0 = x5; generalize strEq a.mNext ⟨#[]⟩ = x6; generalize a.mMore = x7
    revert x1 x2 x3 x4 x5 x6 x7; decide
  · congr 1
    revert hc
    generalize leI 0 a.mErr = x1; generalize leI a.mErr 16 = x2; generalize stR a.mAt = x3; generalize leI (a.mValue.size : Int) 16 = x4; generalize eqI (a.mItems.length : Int) 0 = x5; generalize strEq a.mNext ⟨#[]⟩ = x6; generalize a.mMore = x7
    revert x1 x2 x3 x4 x5 x6 x7; decide
def dnQ (l : List Done) (i : Nat) : Bool := oneB (rd l (i : Int)).mClient && oneB (rd l (i : Int)).mReq && aR (rd l (i : Int)).mAnswer && (decide (i = 0) || ltI (rd l ((i : Int) - 1)).mClient (rd l (i : Int)).mClient)
def dnR (l : List Done) : Bool := leI (l.length : Int) 8 && allFrom (dnQ l) l.length 0
/-- The client ahead of place i. -/
def pcI (l : List Done) (i : Int) : Int := bif leI i 0 then 0 else (rd l (i - 1)).mClient
theorem V82 (l : List Done) (hl : l.length ≤ 1000) : Ev (fun k => F82 k l) (dnR l) := by
  have start : ∀ k, F82_l1 l k (0, 0) = F82_l1 l k (pcI l 0, 0) := fun _ => rfl
  refine Ev.bind ((all_ev (f := fun k i => F82_l1 l k (pcI l i, i)) (q := dnQ l) (n := l.length) (r := false) ?_ fun i hi v hv => ?_).congr start) ?_
  · refine Ev.from 1 fun k => ?_
    show F82_l1 l (k + 1) (pcI l _, _) = _
    rw [F82_l1, ltI_nat, decide_eq_false (Nat.lt_irrefl _)]; rfl
  · refine Ev.succ (fun k => by rw [F82_l1]) ?_
    have hp : pcI l ((i + 1 : Nat) : Int) = (rd l (i : Int)).mClient := by
      unfold pcI
      rw [leI_false.2 (by omega), show ((i + 1 : Nat) : Int) - 1 = (i : Int) by omega]; rfl
    simp only [hp] at hv
    rw [ltI_nat, decide_eq_true hi, inR_mk hi, i64z (n := (i : Int) + 1) (by omega)]
    have hq : dnQ l i = (!leI (rd l (i : Int)).mClient (pcI l (i : Int)) && oneB (rd l (i : Int)).mClient && oneB (rd l (i : Int)).mReq && aR (rd l (i : Int)).mAnswer) := by
      unfold dnQ pcI
      by_cases h0 : i = 0
      · subst h0
        show _ = (!leI _ 0 && _ && _ && _)
        cases hone : oneB (rd l ((0 : Nat) : Int)).mClient
        · simp
        · have : leI (rd l ((0 : Nat) : Int)).mClient 0 = false := by
            unfold oneB at hone
            rw [Bool.and_eq_true, leI_iff, leI_iff] at hone
            rw [leI_false]; omega
          rw [this]; simp
      · rw [decide_eq_false h0, (leI_false.2 (by omega) : leI (i : Int) 0 = false)]
        have : (!leI (rd l (i : Int)).mClient (rd l ((i : Int) - 1)).mClient) = ltI (rd l ((i : Int) - 1)).mClient (rd l (i : Int)).mClient := by
          rw [Bool.eq_iff_iff, Bool.not_eq_true', leI_false, ltI_iff]
        simp only [cond_false, Bool.false_or, this]
        generalize ltI (rd l ((i : Int) - 1)).mClient (rd l (i : Int)).mClient = a; generalize oneB (rd l (i : Int)).mClient = b; generalize oneB (rd l (i : Int)).mReq = c; generalize aR (rd l (i : Int)).mAnswer = d
        revert a b c d; decide
    rw [hq]
    refine Ev.bind (optv fun _ => (Ev.of fun _ => rfl : Ev (fun k => F137 k (rd l (i : Int)).mClient) (oneB (rd l (i : Int)).mClient))) (Ev.bind (optv fun _ => (Ev.of fun _ => rfl : Ev (fun k => F137 k (rd l (i : Int)).mReq) (oneB (rd l (i : Int)).mReq))) (Ev.bind (optv fun _ => V138 _) ?_))
    cases leI (rd l (i : Int)).mClient (pcI l (i : Int)) <;> simp only [Bool.not_true, Bool.not_false, Bool.true_and, Bool.false_and, Bool.true_or, Bool.false_or, cond_true, cond_false, Bool.and_true, Bool.and_false, Bool.or_true, Bool.or_false]
    · cases oneB (rd l (i : Int)).mClient <;> simp only [Bool.not_true, Bool.not_false, Bool.true_and, Bool.false_and, Bool.true_or, Bool.false_or, cond_true, cond_false, Bool.and_true, Bool.and_false, Bool.or_true, Bool.or_false]
      · exact Ev.of fun _ => rfl
      cases oneB (rd l (i : Int)).mReq <;> simp only [Bool.not_true, Bool.not_false, Bool.true_and, Bool.false_and, Bool.true_or, Bool.false_or, cond_true, cond_false, Bool.and_true, Bool.and_false, Bool.or_true, Bool.or_false]
      · exact Ev.of fun _ => rfl
      cases aR (rd l (i : Int)).mAnswer
      · exact Ev.of fun _ => rfl
      · exact hv
    · exact Ev.of fun _ => rfl
  · unfold dnR
    cases allFrom (dnQ l) l.length 0
    · exact Ev.of fun _ => by simp [LR.go]
    · exact Ev.of fun _ => by simp [LR.go]
theorem V87 (l : List Done) (hl : l.length ≤ 1000) : Ev (fun k => F87 k l) (dnR l) := by
  refine Ev.cond (fun hc => Ev.of fun _ => ?_) fun hcc => ?_
  · rw [ltI_iff] at hc
    unfold dnR
    rw [leI_false.2 hc]; rfl
  rw [ltI_false] at hcc
  refine Ev.bind (all_ev (q := dnQ l) (n := l.length) (r := false) ?_ fun i hi v hv => ?_) ?_
  · refine Ev.from 1 fun k => ?_
    show F87_l1 l (k + 1) _ = _
    rw [F87_l1, ltI_nat, decide_eq_false (Nat.lt_irrefl _)]; rfl
  · refine Ev.succ (fun k => by rw [F87_l1]) ?_
    rw [ltI_nat, decide_eq_true hi, inR_mk hi, i64z (n := (i : Int) - 1) (by omega), i64z (n := (i : Int) + 1) (by omega), i0]
    simp only [Bool.or_true, cond_true]
    unfold dnQ
    refine Ev.bind (Ev.of fun _ => rfl : Ev (fun k => F140 k (rd l (i : Int)).mClient) (oneB (rd l (i : Int)).mClient)) (Ev.bind (optv fun _ => (Ev.of fun _ => rfl : Ev (fun k => F140 k (rd l (i : Int)).mReq) (oneB (rd l (i : Int)).mReq))) (Ev.bind (optv fun _ => V141 _) ?_))
    cases oneB (rd l (i : Int)).mClient <;> simp only [Bool.not_true, Bool.not_false, Bool.true_and, Bool.false_and, Bool.true_or, Bool.false_or, cond_true, cond_false, Bool.and_true, Bool.and_false, Bool.or_true, Bool.or_false]
    · exact Ev.of fun _ => rfl
    cases oneB (rd l (i : Int)).mReq <;> simp only [Bool.not_true, Bool.not_false, Bool.true_and, Bool.false_and, Bool.true_or, Bool.false_or, cond_true, cond_false, Bool.and_true, Bool.and_false, Bool.or_true, Bool.or_false]
    · exact Ev.of fun _ => rfl
    cases aR (rd l (i : Int)).mAnswer <;> simp only [Bool.not_true, Bool.not_false, Bool.true_and, Bool.false_and, Bool.true_or, Bool.false_or, cond_true, cond_false, Bool.and_true, Bool.and_false, Bool.or_true, Bool.or_false]
    · exact Ev.of fun _ => rfl
    refine Ev.guard ?_ ?_
    · rw [Bool.or_eq_true, Bool.not_eq_true', inR_iff]
      by_cases h0 : i = 0
      · exact .inl (by simp [h0])
      · right; omega
    · cases decide (i = 0) <;> simp only [Bool.not_true, Bool.not_false, Bool.true_and, Bool.false_and, cond_true, cond_false, Bool.true_or, Bool.false_or, if_true]
      · have : leI (rd l (i : Int)).mClient (rd l ((i : Int) - 1)).mClient = !ltI (rd l ((i : Int) - 1)).mClient (rd l (i : Int)).mClient := by
          rw [Bool.eq_iff_iff, Bool.not_eq_true', ltI_false, leI_iff]
        rw [this]
        cases ltI (rd l ((i : Int) - 1)).mClient (rd l (i : Int)).mClient
        · exact Ev.of fun _ => rfl
        · exact hv
      · exact hv
  · unfold dnR
    rw [leI_iff.2 hcc]
    cases allFrom (dnQ l) l.length 0 <;> exact Ev.of fun _ => rfl
end Go.Proofs.Gd
