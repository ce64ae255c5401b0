/- Lemmas behind GdMvP, part 6: they hold as they stand, without a condition beyond their own. -/
import Derived.Test.YthhpelmjnmlgjaaGreatDoorMv5
set_option linter.unusedVariables false
set_option linter.unusedSimpArgs false
namespace Go.Proofs.Gd
open Go Go.Awp
def noB (n : Int) : Bool := leI 0 n && leI n 1099511627776
theorem V67 (x : Int) : Ev (fun k => F67 k x) (noB x) := by
  refine Ev.bind (optv fun _ => T66 x) (Ev.of fun _ => ?_)
  congr 1
  unfold noB oneB
  rw [Bool.eq_iff_iff]
  cases h : eqI x 0 with
  | true => rw [eqI_iff] at h; subst h; simp [leI]
  | false => rw [eqI_false] at h; simp [leI_iff]; omega
def spR (s : Span) : Bool := (strEq s.mLo ⟨#[]⟩ || keyR s.mLo) && (strEq s.mHi ⟨#[]⟩ || (keyR s.mHi && ltI (cmpK s.mLo s.mHi) 0))
theorem V80 (s : Span) : Ev (fun k => F80 k s) (spR s) := by
  refine Ev.bind (optv fun _ => T122 _) ?_
  unfold spR
  generalize strEq s.mLo ⟨#[]⟩ = a; generalize keyR s.mLo = b
  refine Ev.cond (fun hc => Ev.of fun _ => ?_) fun hc => Ev.bind (optv fun _ => T122 _) (Ev.bind (optv fun _ => V124 _ _) (Ev.of fun _ => ?_))
  · congr 1
    generalize (strEq s.mHi ⟨#[]⟩ || (keyR s.mHi && ltI (cmpK s.mLo s.mHi) 0)) = c
    revert a b c; decide
  · congr 1
    cases strEq s.mHi ⟨#[]⟩ <;> cases keyR s.mHi <;> revert hc <;> revert a b <;> simp only [Bool.not_true, Bool.not_false, Bool.true_and, Bool.false_and, Bool.true_or, Bool.false_or, cond_true, cond_false, Bool.and_true, Bool.and_false] <;> first | decide | (generalize ltI (cmpK s.mLo s.mHi) 0 = c; revert c; decide)
theorem eqI_m1 (a b : ByteArray) : eqI (cmpK a b) (-1) = ltI (cmpK a b) 0 := by
  rw [Bool.eq_iff_iff, eqI_iff, ltI_iff]
  rcases cmpL_range (runes a) (runes b) with h | h | h <;> (unfold cmpK; omega)
theorem V85 (s : Span) (h1 : s.mLo.size ≤ 1000) (h2 : s.mHi.size ≤ 1000) : Ev (fun k => F85 k s) (spR s) := by
  unfold F85
  rw [ltI_pos _ s.mLo rfl, eqI_nil]
  refine Ev.bind (optv fun _ => T130 _) ?_
  unfold spR
  generalize strEq s.mLo ⟨#[]⟩ = a; generalize keyR s.mLo = b
  refine Ev.cond (fun hc => Ev.of fun _ => ?_) fun hc => Ev.cond (fun hh => Ev.of fun _ => ?_) fun hh => Ev.bind (T130 _) (Ev.bind (optv fun _ => V119 _ _ (by omega) (by omega)) (Ev.of fun _ => ?_))
  · congr 1
    generalize (strEq s.mHi ⟨#[]⟩ || (keyR s.mHi && ltI (cmpK s.mLo s.mHi) 0)) = c
    revert a b c; decide
  · congr 1
    rw [hh]
    generalize (keyR s.mHi && ltI (cmpK s.mLo s.mHi) 0) = c
    revert hc; revert a b c; decide
  · congr 1
    rw [hh]
    cases keyR s.mHi
    · simp only [Bool.false_and, Bool.false_or, Bool.and_false]
    · simp only [cond_true, eqI_m1]
      generalize ltI (cmpK s.mLo s.mHi) 0 = c
      revert hc; revert a b c; decide
def hasR (s : Span) (x : ByteArray) : Bool := spR s && keyR x && leI (cmpK s.mLo x) 0 && (strEq s.mHi ⟨#[]⟩ || ltI (cmpK x s.mHi) 0)
theorem V61 (s : Span) (x : ByteArray) : Ev (fun k => F61 k s x) (hasR s x) := by
  refine Ev.bind (V80 _) (Ev.bind (optv fun _ => T122 _) (Ev.bind (optv fun _ => V124 _ _) (Ev.bind (optv fun _ => V124 _ _) (Ev.of fun _ => ?_))))
  congr 1
  unfold hasR
  cases spR s <;> cases keyR x <;> simp only [Bool.true_and, Bool.false_and, cond_true, cond_false, Bool.and_true, Bool.and_false]
  cases leI (cmpK s.mLo x) 0 <;> cases strEq s.mHi ⟨#[]⟩ <;> simp
theorem cmpK_flip (a b : ByteArray) : leI 0 (cmpK a b) = leI (cmpK b a) 0 := by
  unfold cmpK
  rw [cmpL_anti (runes a) (runes b), Bool.eq_iff_iff, leI_iff, leI_iff]; omega
theorem V55 (x lo hi : ByteArray) (h0 : x.size ≤ 1000) (h1 : lo.size ≤ 1000) (h2 : hi.size ≤ 1000) : Ev (fun k => F55 k x lo hi) (leI (cmpK lo x) 0 && (strEq hi ⟨#[]⟩ || ltI (cmpK x hi) 0)) := by
  unfold F55
  rw [eqI_nil]
  refine Ev.bind (V119 _ _ (by omega) (by omega)) ?_
  rw [cmpK_flip]
  refine Ev.bind (optv fun _ => V119 _ _ (by omega) (by omega)) (Ev.of fun _ => ?_)
  congr 1
  cases leI (cmpK lo x) 0 <;> cases strEq hi ⟨#[]⟩ <;> simp
theorem V88 (s : Span) (x : ByteArray) (h0 : x.size ≤ 1000) (h1 : s.mLo.size ≤ 1000) (h2 : s.mHi.size ≤ 1000) : Ev (fun k => F88 k s x) (hasR s x) := by
  refine Ev.bind (V85 _ h1 h2) (Ev.bind (optv fun _ => T130 _) (Ev.bind (optv fun _ => V55 _ _ _ h0 h1 h2) (Ev.of fun _ => ?_)))
  congr 1
  unfold hasR
  cases spR s <;> cases keyR x <;> simp [Bool.and_assoc]
def vR (v : Version) : Bool := stR v.mAt && leI (v.mValue.size : Int) 16 && (!v.mGone || strEq v.mValue ⟨#[]⟩)
theorem V166 (v : Version) : Ev (fun k => F166 k v) (vR v) := Ev.bind (T36 _) (Ev.of fun _ => rfl)
theorem V134 (v : Version) : Ev (fun k => F134 k v) (vR v) := by
  unfold F134 vR
  rw [ltI_pos _ v.mValue rfl]
  refine Ev.cond (fun hc => Ev.of fun _ => ?_) fun hc => Ev.bind (T68 _) (Ev.of fun _ => ?_)
  · rw [Bool.and_eq_true, Bool.not_eq_true'] at hc
    rw [hc.1, hc.2]; simp
  · have : ltI (v.mValue.size : Int) 17 = leI (v.mValue.size : Int) 16 := by rw [Bool.eq_iff_iff, ltI_iff, leI_iff]; omega
    rw [this]
    congr 1
    generalize stR v.mAt = a; generalize leI (v.mValue.size : Int) 16 = b; revert hc; generalize v.mGone = c; generalize strEq v.mValue ⟨#[]⟩ = d
    revert a b c d; decide
def chQ (l : List Version) (i : Nat) : Bool := vR (rd l (i : Int)) && (decide (i = 0) || ltI (cmpS (rd l ((i : Int) - 1)).mAt (rd l (i : Int)).mAt) 0)
def chR (l : List Version) : Bool := leI (l.length : Int) 64 && allFrom (chQ l) l.length 0
theorem V136 (l : List Version) (hl : l.length ≤ 1000) : Ev (fun k => F136 k l) (chR l) := by
  refine Ev.bind (all_ev (q := chQ l) (n := l.length) (r := false) ?_ fun i hi v hv => ?_) ?_
  · refine Ev.from 1 fun k => ?_
    show F136_l1 l (k + 1) _ = _
    rw [F136_l1, ltI_nat, decide_eq_false (Nat.lt_irrefl _)]; rfl
  · refine Ev.succ (fun k => by rw [F136_l1]) ?_
    rw [ltI_nat, decide_eq_true hi, inR_mk hi, i64z (n := (i : Int) - 1) (by omega), i64z (n := (i : Int) + 1) (by omega)]
    refine Ev.bind (V166 _) (Ev.guard ?_ (Ev.bind (optv fun _ => T42 _ _) ?_))
    · rw [Bool.or_eq_true, Bool.not_eq_true', Bool.and_eq_false_iff, ltI_false, inR_iff]
      omega
    · have h0 : ltI 0 (i : Int) = !decide (i = 0) := by rw [Bool.eq_iff_iff, ltI_iff]; simp; omega
      unfold chQ
      rw [h0]
      cases h1 : vR (rd l (i : Int)) <;> cases h2 : decide (i = 0) <;> simp only [Bool.not_true, Bool.not_false, Bool.true_and, Bool.false_and, Bool.true_or, Bool.false_or, cond_true, cond_false, Bool.and_true, Bool.and_false, Bool.or_true, Bool.or_false, if_true]
      · exact Ev.of fun _ => rfl
      · exact Ev.of fun _ => rfl
      · have h3 : leI 0 (cmpS (rd l ((i : Int) - 1)).mAt (rd l (i : Int)).mAt) = !ltI (cmpS (rd l ((i : Int) - 1)).mAt (rd l (i : Int)).mAt) 0 := leI_lt _
        rw [h3]
        cases ltI (cmpS (rd l ((i : Int) - 1)).mAt (rd l (i : Int)).mAt) 0
        · exact Ev.of fun _ => rfl
        · exact hv
      · exact hv
  · unfold chR
    cases allFrom (chQ l) l.length 0
    · exact Ev.of fun _ => by simp [LR.go]
    · exact Ev.of fun _ => by simp [LR.go]
theorem i0 (i : Nat) : ltI 0 (i : Int) = !decide (i = 0) := by rw [Bool.eq_iff_iff, ltI_iff]; simp; omega
theorem bef_eq (s t : Stamp) : Ev (fun k => F76 k s t) (ltI (cmpS s t) 0) := by
  refine Ev.of fun _ => ?_
  have key : ltI (cmpS s t) 0 = true ↔ befS s t := by rw [ltI_iff]; exact cmpS_lt s t
  unfold F76
  by_cases h1 : s.mWall = t.mWall
  · rw [eqI_iff.2 h1]
    by_cases h2 : s.mTick = t.mTick
    · rw [eqI_iff.2 h2]
      show some (ltI _ _) = _
      congr 1
      rw [Bool.eq_iff_iff, key, ltI_iff]; unfold befS; omega
    · rw [eqI_false.2 h2]
      show some (ltI _ _) = _
      congr 1
      rw [Bool.eq_iff_iff, key, ltI_iff]; unfold befS; omega
  · rw [eqI_false.2 h1]
    show some (ltI _ _) = _
    congr 1
    rw [Bool.eq_iff_iff, key, ltI_iff]; unfold befS; omega
/-- The last word of a loop that stops at the first that fails, behind a test of the length. -/
theorem V131 (l : List Version) (hl : l.length ≤ 1000) : Ev (fun k => F131 k l) (chR l) := by
  refine Ev.cond (fun hc => Ev.of fun _ => ?_) fun hc => ?_
  · rw [ltI_iff] at hc
    unfold chR
    rw [leI_false.2 hc]; rfl
  rw [ltI_false] at hc
  refine Ev.bind (all_ev (q := chQ l) (n := l.length) (r := false) ?_ fun i hi v hv => ?_) ?_
  · refine Ev.from 1 fun k => ?_
    show F131_l1 l (k + 1) _ = _
    rw [F131_l1, ltI_nat, decide_eq_false (Nat.lt_irrefl _)]; rfl
  · refine Ev.succ (fun k => by rw [F131_l1]) ?_
    rw [ltI_nat, decide_eq_true hi, inR_mk hi, i64z (n := (i : Int) - 1) (by omega), i64z (n := (i : Int) + 1) (by omega), i0]
    unfold chQ
    refine Ev.bind (V134 _) ?_
    cases h1 : vR (rd l (i : Int))
    · exact Ev.of fun _ => rfl
    · simp only [Bool.not_true, cond_false, Bool.true_and]
      refine Ev.guard ?_ (Ev.guard (by simp) (Ev.bind (optv fun _ => bef_eq _ _) ?_))
      · rw [Bool.or_eq_true, Bool.not_eq_true', inR_iff]
        by_cases h0 : i = 0
        · exact .inl (by simp [h0])
        · right; omega
      · cases decide (i = 0) <;> simp only [Bool.not_true, Bool.not_false, Bool.true_and, Bool.false_and, cond_true, cond_false, Bool.true_or, Bool.false_or, if_true]
        · cases ltI (cmpS (rd l ((i : Int) - 1)).mAt (rd l (i : Int)).mAt) 0
          · exact Ev.of fun _ => rfl
          · exact hv
        · exact hv
  · unfold chR
    rw [leI_iff.2 hc]
    cases allFrom (chQ l) l.length 0 <;> exact Ev.of fun _ => rfl
def ixQ (l : List Entry) (i : Nat) : Bool := (keyR (rd l (i : Int)).mKey && chR (rd l (i : Int)).mChain && !eqI ((rd l (i : Int)).mChain.length : Int) 0) && (decide (i = 0) || ltI (cmpK (rd l ((i : Int) - 1)).mKey (rd l (i : Int)).mKey) 0)
def ixR (l : List Entry) : Bool := leI (l.length : Int) 64 && allFrom (ixQ l) l.length 0
theorem rd_mem {α : Type} [Inhabited α] {l : List α} {i : Nat} (h : i < l.length) : rd l (i : Int) ∈ l := by rw [rd_nat _ _ h]; exact List.getElem_mem h
theorem V81 (l : List Entry) (hl : l.length ≤ 1000) (hc : ∀ e ∈ l, e.mChain.length ≤ 1000) : Ev (fun k => F81 k l) (ixR l) := by
  refine Ev.bind (all_ev (q := ixQ l) (n := l.length) (r := false) ?_ fun i hi v hv => ?_) ?_
  · refine Ev.from 1 fun k => ?_
    show F81_l1 l (k + 1) _ = _
    rw [F81_l1, ltI_nat, decide_eq_false (Nat.lt_irrefl _)]; rfl
  · refine Ev.succ (fun k => by rw [F81_l1]) ?_
    rw [ltI_nat, decide_eq_true hi, inR_mk hi, i64z (n := (i : Int) - 1) (by omega), i64z (n := (i : Int) + 1) (by omega), i0]
    refine Ev.bind (T122 _) (Ev.bind (optv fun _ => V136 _ (hc _ (rd_mem hi))) (Ev.guard ?_ (Ev.bind (optv fun _ => V124 _ _) ?_)))
    · rw [Bool.or_eq_true, Bool.not_eq_true', Bool.and_eq_false_iff, inR_iff]
      by_cases h0 : i = 0
      · exact .inl (.inr (by simp [h0]))
      · right; omega
    · unfold ixQ
      have h3 : leI 0 (cmpK (rd l ((i : Int) - 1)).mKey (rd l (i : Int)).mKey) = !ltI (cmpK (rd l ((i : Int) - 1)).mKey (rd l (i : Int)).mKey) 0 := leI_lt _
      cases keyR (rd l (i : Int)).mKey <;> simp only [Bool.not_true, Bool.not_false, Bool.true_and, Bool.false_and, Bool.true_or, Bool.false_or, cond_true, cond_false, Bool.and_true, Bool.and_false, Bool.or_true, Bool.or_false]
      · exact Ev.of fun _ => rfl
      cases chR (rd l (i : Int)).mChain <;> simp only [Bool.not_true, Bool.not_false, Bool.true_and, Bool.false_and, Bool.true_or, Bool.false_or, cond_true, cond_false, Bool.and_true, Bool.and_false, Bool.or_true, Bool.or_false]
      · exact Ev.of fun _ => rfl
      cases eqI ((rd l (i : Int)).mChain.length : Int) 0 <;> simp only [Bool.not_true, Bool.not_false, Bool.true_and, Bool.false_and, Bool.true_or, Bool.false_or, cond_true, cond_false, Bool.and_true, Bool.and_false, Bool.or_true, Bool.or_false]
      · cases decide (i = 0) <;> simp only [Bool.not_true, Bool.not_false, Bool.true_and, Bool.false_and, cond_true, cond_false, Bool.true_or, Bool.false_or, if_true]
        · rw [h3]
          cases ltI (cmpK (rd l ((i : Int) - 1)).mKey (rd l (i : Int)).mKey) 0
          · exact Ev.of fun _ => rfl
          · exact hv
        · exact hv
      · exact Ev.of fun _ => rfl
  · unfold ixR
    cases allFrom (ixQ l) l.length 0
    · exact Ev.of fun _ => by simp [LR.go]
    · exact Ev.of fun _ => by simp [LR.go]
theorem V86 (l : List Entry) (hl : l.length ≤ 1000) (hc : ∀ e ∈ l, e.mChain.length ≤ 1000) (hk : ∀ e ∈ l, e.mKey.size ≤ 1000) : Ev (fun k => F86 k l) (ixR l) := by
  refine Ev.cond (fun hc => Ev.of fun _ => ?_) fun hcc => ?_
  · rw [ltI_iff] at hc
    unfold ixR
    rw [leI_false.2 hc]; rfl
  rw [ltI_false] at hcc
  refine Ev.bind (all_ev (q := ixQ l) (n := l.length) (r := false) ?_ fun i hi v hv => ?_) ?_
  · refine Ev.from 1 fun k => ?_
    show F86_l1 l (k + 1) _ = _
    rw [F86_l1, ltI_nat, decide_eq_false (Nat.lt_irrefl _)]; rfl
  · refine Ev.succ (fun k => by rw [F86_l1]) ?_
    rw [ltI_nat, decide_eq_true hi, inR_mk hi, i64z (n := (i : Int) - 1) (by omega), i64z (n := (i : Int) + 1) (by omega), i0]
    simp only [Bool.or_true, cond_true]
    unfold ixQ
    refine Ev.bind (T130 _) (Ev.bind (optv fun _ => V131 _ (hc _ (rd_mem hi))) ?_)
    cases keyR (rd l (i : Int)).mKey <;> simp only [Bool.not_true, Bool.not_false, Bool.true_and, Bool.false_and, Bool.true_or, Bool.false_or, cond_true, cond_false, Bool.and_true, Bool.and_false, Bool.or_true, Bool.or_false]
    · exact Ev.of fun _ => rfl
    cases eqI ((rd l (i : Int)).mChain.length : Int) 0 <;> simp only [Bool.not_true, Bool.not_false, Bool.true_and, Bool.false_and, Bool.true_or, Bool.false_or, cond_true, cond_false, Bool.and_true, Bool.and_false, Bool.or_true, Bool.or_false]
    · cases chR (rd l (i : Int)).mChain <;> simp only [Bool.not_true, Bool.not_false, Bool.true_and, Bool.false_and, Bool.true_or, Bool.false_or, cond_true, cond_false, Bool.and_true, Bool.and_false, Bool.or_true, Bool.or_false]
      · exact Ev.of fun _ => rfl
      · refine Ev.guard ?_ ?_
        · rw [Bool.or_eq_true, Bool.not_eq_true', inR_iff]
          by_cases h0 : i = 0
          · exact .inl (by simp [h0])
          · right; omega
        · by_cases h0 : i = 0
          · rw [decide_eq_true h0]
            exact hv
          · rw [decide_eq_false h0]
            have hm : rd l ((i : Int) - 1) ∈ l := by
              have := rd_mem (l := l) (i := i - 1) (by omega)
              rwa [show ((i - 1 : Nat) : Int) = (i : Int) - 1 by omega] at this
            refine Ev.bind (V119 _ _ (by have := hk _ hm; omega) (by have := hk _ (rd_mem hi); omega)) ?_
            simp only [eqI_m1, Bool.not_false, Bool.true_and, Bool.false_or]
            cases ltI (cmpK (rd l ((i : Int) - 1)).mKey (rd l (i : Int)).mKey) 0
            · exact Ev.of fun _ => rfl
            · exact hv
    · exact Ev.of fun _ => rfl
  · unfold ixR
    rw [leI_iff.2 hcc]
    cases allFrom (ixQ l) l.length 0 <;> exact Ev.of fun _ => rfl
def aR (a : Answer) : Bool := leI 0 a.mErr && leI a.mErr 16 && stR a.mAt && leI (a.mValue.size : Int) 16 && eqI (a.mItems.length : Int) 0 && strEq a.mNext ⟨#[]⟩ && !a.mMore
theorem V138 (a : Answer) : Ev (fun k => F138 k a) (aR a) := by
  refine Ev.bind (optv fun _ => T36 _) (Ev.of fun _ => ?_)
  congr 1
  unfold aR
  cases leI 0 a.mErr <;> cases leI a.mErr 16 <;> simp
theorem V141 (a : Answer) : Ev (fun k => F141 k a) (aR a) := by
  unfold F141
  rw [ltI_pos _ a.mNext rfl]
  have h1 : ltI 0 (a.mItems.length : Int) = !eqI (a.mItems.length : Int) 0 := by rw [Bool.eq_iff_iff, ltI_iff, Bool.not_eq_true', eqI_false]; omega
  have h2 : ltI a.mErr 0 = !leI 0 a.mErr := by rw [leI_lt, Bool.not_not]
  have h3 : ltI 16 a.mErr = !leI a.mErr 16 := by rw [Bool.eq_iff_iff, ltI_iff, Bool.not_eq_true', leI_false]
  have h4 : ltI 16 (a.mValue.size : Int) = !leI (a.mValue.size : Int) 16 := by rw [Bool.eq_iff_iff, ltI_iff, Bool.not_eq_true', leI_false]
  rw [h1, h2, h3, h4]
  unfold aR
  refine Ev.cond (fun hc => Ev.of fun _ => ?_) fun hc => Ev.bind (T68 _) (Ev.of fun _ => ?_)
  · congr 1
    revert hc
    generalize leI 0 a.mErr = x1; generalize leI a.mErr 16 = x2; generalize stR a.mAt = x3; generalize leI (a.mValue.size : Int) 16 = x4; generalize eqI (a.mItems.length : Int) 0 = x5; generalize strEq a.mNext ⟨#[]⟩ = x6; generalize a.mMore = x7
    revert x1 x2 x3 x4 x5 x6 x7; decide
  · congr 1
    revert hc
    generalize leI 0 a.mErr = x1; generalize leI a.mErr 16 = x2; generalize stR a.mAt = x3; generalize leI (a.mValue.size : Int) 16 = x4; generalize eqI (a.mItems.length : Int) 0 = x5; generalize strEq a.mNext ⟨#[]⟩ = x6; generalize a.mMore = x7
    revert x1 x2 x3 x4 x5 x6 x7; decide
def dnQ (l : List Done) (i : Nat) : Bool := oneB (rd l (i : Int)).mClient && oneB (rd l (i : Int)).mReq && aR (rd l (i : Int)).mAnswer && (decide (i = 0) || ltI (rd l ((i : Int) - 1)).mClient (rd l (i : Int)).mClient)
def dnR (l : List Done) : Bool := leI (l.length : Int) 8 && allFrom (dnQ l) l.length 0
/-- The client ahead of place i. -/
def pcI (l : List Done) (i : Int) : Int := bif leI i 0 then 0 else (rd l (i - 1)).mClient
theorem V82 (l : List Done) (hl : l.length ≤ 1000) : Ev (fun k => F82 k l) (dnR l) := by
  have start : ∀ k, F82_l1 l k (0, 0) = F82_l1 l k (pcI l 0, 0) := fun _ => rfl
  refine Ev.bind ((all_ev (f := fun k i => F82_l1 l k (pcI l i, i)) (q := dnQ l) (n := l.length) (r := false) ?_ fun i hi v hv => ?_).congr start) ?_
  · refine Ev.from 1 fun k => ?_
    show F82_l1 l (k + 1) (pcI l _, _) = _
    rw [F82_l1, ltI_nat, decide_eq_false (Nat.lt_irrefl _)]; rfl
  · refine Ev.succ (fun k => by rw [F82_l1]) ?_
    have hp : pcI l ((i + 1 : Nat) : Int) = (rd l (i : Int)).mClient := by
      unfold pcI
      rw [leI_false.2 (by omega), show ((i + 1 : Nat) : Int) - 1 = (i : Int) by omega]; rfl
    simp only [hp] at hv
    rw [ltI_nat, decide_eq_true hi, inR_mk hi, i64z (n := (i : Int) + 1) (by omega)]
    have hq : dnQ l i = (!leI (rd l (i : Int)).mClient (pcI l (i : Int)) && oneB (rd l (i : Int)).mClient && oneB (rd l (i : Int)).mReq && aR (rd l (i : Int)).mAnswer) := by
      unfold dnQ pcI
      by_cases h0 : i = 0
      · subst h0
        show _ = (!leI _ 0 && _ && _ && _)
        cases hone : oneB (rd l ((0 : Nat) : Int)).mClient
        · simp
        · have : leI (rd l ((0 : Nat) : Int)).mClient 0 = false := by
            unfold oneB at hone
            rw [Bool.and_eq_true, leI_iff, leI_iff] at hone
            rw [leI_false]; omega
          rw [this]; simp
      · rw [decide_eq_false h0, (leI_false.2 (by omega) : leI (i : Int) 0 = false)]
        have : (!leI (rd l (i : Int)).mClient (rd l ((i : Int) - 1)).mClient) = ltI (rd l ((i : Int) - 1)).mClient (rd l (i : Int)).mClient := by
          rw [Bool.eq_iff_iff, Bool.not_eq_true', leI_false, ltI_iff]
        simp only [cond_false, Bool.false_or, this]
        generalize ltI (rd l ((i : Int) - 1)).mClient (rd l (i : Int)).mClient = a; generalize oneB (rd l (i : Int)).mClient = b; generalize oneB (rd l (i : Int)).mReq = c; generalize aR (rd l (i : Int)).mAnswer = d
        revert a b c d; decide
    rw [hq]
    refine Ev.bind (optv fun _ => (Ev.of fun _ => rfl : Ev (fun k => F137 k (rd l (i : Int)).mClient) (oneB (rd l (i : Int)).mClient))) (Ev.bind (optv fun _ => (Ev.of fun _ => rfl : Ev (fun k => F137 k (rd l (i : Int)).mReq) (oneB (rd l (i : Int)).mReq))) (Ev.bind (optv fun _ => V138 _) ?_))
    cases leI (rd l (i : Int)).mClient (pcI l (i : Int)) <;> simp only [Bool.not_true, Bool.not_false, Bool.true_and, Bool.false_and, Bool.true_or, Bool.false_or, cond_true, cond_false, Bool.and_true, Bool.and_false, Bool.or_true, Bool.or_false]
    · cases oneB (rd l (i : Int)).mClient <;> simp only [Bool.not_true, Bool.not_false, Bool.true_and, Bool.false_and, Bool.true_or, Bool.false_or, cond_true, cond_false, Bool.and_true, Bool.and_false, Bool.or_true, Bool.or_false]
      · exact Ev.of fun _ => rfl
      cases oneB (rd l (i : Int)).mReq <;> simp only [Bool.not_true, Bool.not_false, Bool.true_and, Bool.false_and, Bool.true_or, Bool.false_or, cond_true, cond_false, Bool.and_true, Bool.and_false, Bool.or_true, Bool.or_false]
      · exact Ev.of fun _ => rfl
      cases aR (rd l (i : Int)).mAnswer
      · exact Ev.of fun _ => rfl
      · exact hv
    · exact Ev.of fun _ => rfl
  · unfold dnR
    cases allFrom (dnQ l) l.length 0
    · exact Ev.of fun _ => by simp [LR.go]
    · exact Ev.of fun _ => by simp [LR.go]
theorem V87 (l : List Done) (hl : l.length ≤ 1000) : Ev (fun k => F87 k l) (dnR l) := by
  refine Ev.cond (fun hc => Ev.of fun _ => ?_) fun hcc => ?_
  · rw [ltI_iff] at hc
    unfold dnR
    rw [leI_false.2 hc]; rfl
  rw [ltI_false] at hcc
  refine Ev.bind (all_ev (q := dnQ l) (n := l.length) (r := false) ?_ fun i hi v hv => ?_) ?_
  · refine Ev.from 1 fun k => ?_
    show F87_l1 l (k + 1) _ = _
    rw [F87_l1, ltI_nat, decide_eq_false (Nat.lt_irrefl _)]; rfl
  · refine Ev.succ (fun k => by rw [F87_l1]) ?_
    rw [ltI_nat, decide_eq_true hi, inR_mk hi, i64z (n := (i : Int) - 1) (by omega), i64z (n := (i : Int) + 1) (by omega), i0]
    simp only [Bool.or_true, cond_true]
    unfold dnQ
    refine Ev.bind (Ev.of fun _ => rfl : Ev (fun k => F140 k (rd l (i : Int)).mClient) (oneB (rd l (i : Int)).mClient)) (Ev.bind (optv fun _ => (Ev.of fun _ => rfl : Ev (fun k => F140 k (rd l (i : Int)).mReq) (oneB (rd l (i : Int)).mReq))) (Ev.bind (optv fun _ => V141 _) ?_))
    cases oneB (rd l (i : Int)).mClient <;> simp only [Bool.not_true, Bool.not_false, Bool.true_and, Bool.false_and, Bool.true_or, Bool.false_or, cond_true, cond_false, Bool.and_true, Bool.and_false, Bool.or_true, Bool.or_false]
    · exact Ev.of fun _ => rfl
    cases oneB (rd l (i : Int)).mReq <;> simp only [Bool.not_true, Bool.not_false, Bool.true_and, Bool.false_and, Bool.true_or, Bool.false_or, cond_true, cond_false, Bool.and_true, Bool.and_false, Bool.or_true, Bool.or_false]
    · exact Ev.of fun _ => rfl
    cases aR (rd l (i : Int)).mAnswer <;> simp only [Bool.not_true, Bool.not_false, Bool.true_and, Bool.false_and, Bool.true_or, Bool.false_or, cond_true, cond_false, Bool.and_true, Bool.and_false, Bool.or_true, Bool.or_false]
    · exact Ev.of fun _ => rfl
    refine Ev.guard ?_ ?_
    · rw [Bool.or_eq_true, Bool.not_eq_true', inR_iff]
      by_cases h0 : i = 0
      · exact .inl (by simp [h0])
      · right; omega
    · cases decide (i = 0) <;> simp only [Bool.not_true, Bool.not_false, Bool.true_and, Bool.false_and, cond_true, cond_false, Bool.true_or, Bool.false_or, if_true]
      · have : leI (rd l (i : Int)).mClient (rd l ((i : Int) - 1)).mClient = !ltI (rd l ((i : Int) - 1)).mClient (rd l (i : Int)).mClient := by
          rw [Bool.eq_iff_iff, Bool.not_eq_true', ltI_false, leI_iff]
        rw [this]
        cases ltI (rd l ((i : Int) - 1)).mClient (rd l (i : Int)).mClient
        · exact Ev.of fun _ => rfl
        · exact hv
      · exact hv
  · unfold dnR
    rw [leI_iff.2 hcc]
    cases allFrom (dnQ l) l.length 0 <;> exact Ev.of fun _ => rfl
end Go.Proofs.Gd
set_option linter.unusedVariables false
set_option linter.unusedSimpArgs false
namespace Go.Proofs.Gd
open Go Go.Awp
theorem Ev.congr' {α : Type} {f : Nat → Option α} {r r' : α} (h : Ev f r) (e : r = r') : Ev f r' := e ▸ h
structure SmS2 (s : Shard) : Prop extends SmS s where
  keys : ∀ e ∈ s.mEntries, e.mKey.size ≤ 100
  lo : s.mSpan.mLo.size ≤ 100
  hi : s.mSpan.mHi.size ≤ 100
structure SmC2 (c : Cell) : Prop where
  shards : c.mShards.length ≤ 12
  each : ∀ s ∈ c.mShards, SmS2 s
theorem SmC2.sm {c : Cell} (h : SmC2 c) : SmC c := ⟨h.shards, fun s hs => (h.each s hs).toSmS⟩
theorem V91 (l : List Entry) : EvP (fun k => F91 k l) (fun b => b = true → l.length ≤ 80 ∧ ∀ e ∈ l, e.mChain.length ≤ 80 ∧ e.mKey.size ≤ 100) := by
  refine EvP.cond (fun _ => EvP.some fun h => by cases h) fun hc => ?_
  rw [ltI_false] at hc
  refine EvP.go ((downTo (M := fun i => EvP (fun k => F91_l1 l k (i : Int)) fun t => t = .ret false ∨ (t = .out () ∧ ∀ j (hj : j < l.length), i ≤ j → l[j].mChain.length ≤ 80 ∧ l[j].mKey.size ≤ 100)) l.length ?_ fun i hi ih => ?_).mono fun t ht => ?_)
  · refine EvP.succ (fun k => by rw [F91_l1]) ?_
    rw [ltI_nat, decide_eq_false (Nat.lt_irrefl _)]
    exact EvP.some (.inr ⟨rfl, fun j hj h => by omega⟩)
  · refine EvP.succ (fun k => by rw [F91_l1]) ?_
    rw [ltI_nat, decide_eq_true hi, inR_mk hi, rd_nat _ _ hi, Bool.or_true]
    simp only [cond_true]
    refine EvP.cond (fun _ => EvP.some (.inl rfl)) fun hcc => ?_
    rw [Bool.or_eq_false_iff, ltI_false, ltI_false] at hcc
    rw [i64z (by omega)]
    refine ih.mono fun t ht => ht.imp id fun ⟨h1, h2⟩ => ⟨h1, fun j hj hij => ?_⟩
    by_cases e : j = i
    · subst e; omega
    · exact h2 j hj (by omega)
  · rcases ht with rfl | ⟨rfl, h⟩
    · exact fun h => by cases h
    · refine EvP.some fun _ => ⟨by omega, fun e he => ?_⟩
      obtain ⟨j, hj, rfl⟩ := List.mem_iff_getElem.1 he
      exact h j hj (by omega)
theorem V27 (s : Shard) : EvP (fun k => F27 k s) (fun b => b = true → SmS2 s) := by
  refine EvP.bind ((V91 _).mono fun t5 h5 => EvP.bind ((EvP.opt (P := fun b => b = true → s.mDone.length ≤ 40 ∧ ∀ e ∈ s.mDone, e.mAnswer.mItems.length ≤ 100) (fun _ => T92 _) fun _ => fun h => by cases h).mono fun t9 h9 => EvP.some fun h => ?_))
  simp only [Bool.and_eq_true, ltI_iff] at h
  exact { entries := (h5 h.1.1.1).1, chains := fun e he => ((h5 h.1.1.1).2 e he).1, done := (h9 h.1.1.2).1, items := (h9 h.1.1.2).2, keys := fun e he => ((h5 h.1.1.1).2 e he).2, lo := by omega, hi := by omega }
theorem V14 (c : Cell) : EvP (fun k => F14 k c) (fun b => b = true → SmC2 c) := by
  refine EvP.cond (fun _ => EvP.some fun h => by cases h) fun hc => ?_
  rw [ltI_false] at hc
  refine EvP.go ((downTo (M := fun i => EvP (fun k => F14_l1 c k (i : Int)) fun t => t = .ret false ∨ (t = .out () ∧ ∀ j (hj : j < c.mShards.length), i ≤ j → SmS2 c.mShards[j])) c.mShards.length ?_ fun i hi ih => ?_).mono fun t ht => ?_)
  · refine EvP.succ (fun k => by rw [F14_l1]) ?_
    rw [ltI_nat, decide_eq_false (Nat.lt_irrefl _)]
    exact EvP.some (.inr ⟨rfl, fun j hj h => by omega⟩)
  · refine EvP.succ (fun k => by rw [F14_l1]) ?_
    rw [ltI_nat, decide_eq_true hi, inR_mk hi, rd_nat _ _ hi]
    refine EvP.bind ((V27 _).mono fun b hb => EvP.cond (fun _ => EvP.some (.inl rfl)) fun hcc => ?_)
    rw [i64z (by omega)]
    refine ih.mono fun t ht => ht.imp id fun ⟨h1, h2⟩ => ⟨h1, fun j hj hij => ?_⟩
    by_cases e : j = i
    · subst e; exact hb (by simpa using hcc)
    · exact h2 j hj (by omega)
  · rcases ht with rfl | ⟨rfl, h⟩
    · exact fun h => by cases h
    · refine EvP.some fun _ => ⟨by omega, fun e he => ?_⟩
      obtain ⟨j, hj, rfl⟩ := List.mem_iff_getElem.1 he
      exact h j hj (by omega)
def shR (s : Shard) : Bool := oneB s.mID && oneB s.mEpoch && noB s.mHold && noB s.mSeen && noB s.mMove && noB s.mClosed && !ltI s.mPhase 1 && !ltI 3 s.mPhase && spR s.mSpan && ixR s.mEntries && stR s.mMark && stR s.mTop && dnR s.mDone && s.mEntries.all (fun e => hasR s.mSpan e.mKey)
theorem noB_eq (x : Int) : (ltI x 0 || ltI 1099511627776 x) = !noB x := by
  rw [Bool.eq_iff_iff]
  simp only [noB, Bool.or_eq_true, Bool.not_eq_true', Bool.and_eq_false_iff, ltI_iff, leI_false]
theorem V57_0 (l : List Int) (hl : l.length ≤ 1000) : Ev (fun k => F57 k 0 l) (l.all noB) := by
  have := T57 0 l hl
  simp only [noB_eq] at this
  rwa [List.not_any_eq_all_not, show (fun x => !!noB x) = noB by funext x; simp] at this
theorem V83_84 (l : List Entry) (s : Shard) (hl : l.length ≤ 1000) : Ev (fun k => F83_84 k l s) (l.any fun e => !hasR s.mSpan e.mKey) :=
  any_ev (idx_ev (f := F139_84_l1 l s) (q := fun e => !hasR s.mSpan e.mKey) (p := fun k x => F84 k x s) (by omega) (fun _ => rfl) (fun _ _ => rfl) fun x _ => Ev.bind (V61 _ _) (Ev.of fun _ => rfl))
theorem V20 (s : Shard) (h : SmS s) : Ev (fun k => F20 k s) (shR s) := by
  have he := h.entries
  have hd := h.done
  refine Ev.bind (T57_2 _ _) (Ev.bind (optv fun _ => V57_0 _ (by simp)) ?_)
  unfold shR
  simp only [List.all_cons, List.all_nil, Bool.and_true]
  generalize ha : (oneB s.mID && oneB s.mEpoch) = a
  generalize hb : (noB s.mHold && (noB s.mSeen && (noB s.mMove && noB s.mClosed))) = b
  have hab : (a && noB s.mHold && noB s.mSeen && noB s.mMove && noB s.mClosed) = (a && b) := by rw [← hb]; simp only [Bool.and_assoc]
  rw [hab]
  generalize ltI s.mPhase 1 = c; generalize ltI 3 s.mPhase = d
  refine Ev.cond (fun hc => Ev.of fun _ => ?_) fun hc => ?_
  · congr 1
    have : (a && b && !c && !d) = false := by clear ha hb hab; revert hc; revert a b c d; decide
    rw [this]; rfl
  have h4 : (a && b && !c && !d) = true := by revert hc; clear ha hb hab; revert a b c d; decide
  rw [h4]
  refine Ev.bind (V80 _) (Ev.bind (optv fun _ => V81 _ (by omega) fun e he => by have := h.chains e he; omega) (Ev.bind (optv fun _ => T36 _) (Ev.bind (optv fun _ => T36 _) (Ev.bind (optv fun _ => V82 _ (by omega)) ?_))))
  have hx : s.mEntries.all (fun e => hasR s.mSpan e.mKey) = !(s.mEntries.any fun e => !hasR s.mSpan e.mKey) := by rw [List.not_any_eq_all_not]; simp
  have h5 := V83_84 s.mEntries s (by omega)
  rw [hx]
  generalize (s.mEntries.any fun e => !hasR s.mSpan e.mKey) = z at h5 ⊢
  generalize spR s.mSpan = e1; generalize ixR s.mEntries = e2; generalize stR s.mMark = e3; generalize stR s.mTop = e4; generalize dnR s.mDone = e5
  refine Ev.cond (fun hc => Ev.of fun _ => ?_) fun hc => Ev.bind h5 (Ev.of fun _ => ?_)
  · congr 1
    clear h5
    revert hc; revert e1 e2 e3 e4 e5 z; decide
  · congr 1
    clear h5
    revert hc; revert e1 e2 e3 e4 e5 z; decide
theorem V21 (s : Shard) (h : SmS2 s) : Ev (fun k => F21 k s) (shR s) := by
  have he := h.entries
  have hd := h.done
  have hlo := h.lo
  have hhi := h.hi
  refine Ev.bind (T66 _) (Ev.bind (optv fun _ => T66 _) (Ev.bind (optv fun _ => V67 _) (Ev.bind (optv fun _ => V67 _) (Ev.bind (optv fun _ => V67 _) (Ev.bind (optv fun _ => V67 _) ?_)))))
  have hp : ((!eqI s.mPhase 1 && !eqI s.mPhase 2) && !eqI s.mPhase 3) = (ltI s.mPhase 1 || ltI 3 s.mPhase) := by
    rw [Bool.eq_iff_iff]
    simp only [Bool.and_eq_true, Bool.or_eq_true, Bool.not_eq_true', eqI_false, ltI_iff]; omega
  simp only [hp]
  unfold shR
  generalize oneB s.mID = a1; generalize oneB s.mEpoch = a2; generalize noB s.mHold = a3; generalize noB s.mSeen = a4; generalize noB s.mMove = a5; generalize noB s.mClosed = a6
  refine Ev.cond (fun hc => Ev.of fun _ => ?_) fun hc => ?_
  · congr 1
    have : (a1 && a2 && a3 && a4 && a5 && a6) = false := by revert hc; revert a1 a2 a3 a4 a5 a6; decide
    rw [this]; rfl
  have h4 : (a1 && a2 && a3 && a4 && a5 && a6) = true := by revert hc; revert a1 a2 a3 a4 a5 a6; decide
  rw [h4]
  refine Ev.bind (optv fun _ => V85 _ (by omega) (by omega)) (Ev.bind (optv fun _ => V86 _ (by omega) (fun e he => by have := h.chains e he; omega) fun e he => by have := h.keys e he; omega) (Ev.bind (optv fun _ => T68 _) (Ev.bind (optv fun _ => T68 _) (Ev.bind (optv fun _ => V87 _ (by omega)) ?_))))
  have h5 : Ev (fun k => (F21_l1 s k 0).bind fun t => t.go fun _ => some true) (s.mEntries.all (fun e => hasR s.mSpan e.mKey)) := by
    refine Ev.bind (all_ev (q := fun i => hasR s.mSpan (rd s.mEntries (i : Int)).mKey) (n := s.mEntries.length) (r := false) ?_ fun i hi v hv => ?_) ?_
    · refine Ev.from 1 fun k => ?_
      show F21_l1 s (k + 1) _ = _
      rw [F21_l1, ltI_nat, decide_eq_false (Nat.lt_irrefl _)]; rfl
    · refine Ev.succ (fun k => by rw [F21_l1]) ?_
      rw [ltI_nat, decide_eq_true hi, inR_mk hi, i64z (by omega)]
      refine Ev.bind (V88 _ _ (by have := h.keys _ (rd_mem hi); omega) (by omega) (by omega)) ?_
      cases hasR s.mSpan (rd s.mEntries (i : Int)).mKey
      · exact Ev.of fun _ => rfl
      · exact hv
    · have : s.mEntries.all (fun e => hasR s.mSpan e.mKey) = allFrom (fun i => hasR s.mSpan (rd s.mEntries (i : Int)).mKey) s.mEntries.length 0 := by
        rw [Bool.eq_iff_iff, List.all_eq_true, allFrom_iff]
        constructor
        · intro hh j _ hj; exact hh _ (rd_mem (by omega))
        · intro hh e he
          obtain ⟨j, hj, rfl⟩ := List.mem_iff_getElem.1 he
          have := hh j (by omega) (by omega)
          rwa [rd_nat _ _ hj] at this
      rw [this]
      cases allFrom (fun i => hasR s.mSpan (rd s.mEntries (i : Int)).mKey) s.mEntries.length 0 <;> exact Ev.of fun _ => rfl
  generalize s.mEntries.all (fun e => hasR s.mSpan e.mKey) = z at h5 ⊢
  generalize ltI s.mPhase 1 = c; generalize ltI 3 s.mPhase = d
  generalize spR s.mSpan = e1; generalize ixR s.mEntries = e2; generalize stR s.mMark = e3; generalize stR s.mTop = e4; generalize dnR s.mDone = e5
  refine Ev.cond (fun hc => Ev.of fun _ => ?_) fun hc => Ev.congr' h5 ?_
  · congr 1
    clear h5 hp h4
    revert hc; revert c d e1 e2 e3 e4 e5 z; decide
  · clear h5 hp h4
    revert hc; revert c d e1 e2 e3 e4 e5 z; decide
theorem cmpS_le (s t : Stamp) : cmpS s t ≤ 0 ↔ ¬ befS t s := by
  unfold cmpS or3 befS
  rw [cmpI_lt, cmpI_lt, cmpI_lt]
  repeat' split
  all_goals (simp [eqI]; try omega)
def lastV (l : List Version) : Version := rd l ((l.length : Int) - 1)
def upR (s : Shard) (t : Stamp) : Bool := s.mEntries.all fun e => leI (cmpS (lastV e.mChain).mAt t) 0
theorem V90 (s : Shard) (t : Stamp) (h : SmS s) (hn : ∀ e ∈ s.mEntries, e.mChain ≠ []) : Ev (fun k => F90 k s t) (upR s t) := by
  have he := h.entries
  have h1 : Ev (fun k => F83_142 k s.mEntries t) (s.mEntries.any fun e => ltI 0 (cmpS (lastV e.mChain).mAt t)) :=
    any_ev (idx_ev (f := F139_142_l1 s.mEntries t) (q := fun e => ltI 0 (cmpS (lastV e.mChain).mAt t)) (p := fun k x => F142 k x t) (by omega) (fun _ => rfl) (fun _ _ => rfl) fun x hx => by
      have h1 := h.chains x hx
      have h2 : 0 < x.mChain.length := List.length_pos_iff.2 (hn x hx)
      unfold F142
      rw [i64z (by omega)]
      exact Ev.guard (by rw [inR_iff]; omega) (Ev.bind (T42 _ _) (Ev.of fun _ => rfl)))
  refine Ev.bind h1 (Ev.of fun _ => ?_)
  congr 1
  unfold upR
  rw [List.not_any_eq_all_not]
  congr 1
  funext e
  rw [Bool.eq_iff_iff, Bool.not_eq_true', ltI_false, leI_iff]
/-- In a right chain the last is the latest. -/
theorem chain_last (l : List Version) (h : chR l = true) (j : Nat) (hj : j < l.length) : ¬ befS (lastV l).mAt (rd l (j : Int)).mAt := by
  unfold chR at h
  rw [Bool.and_eq_true, allFrom_iff] at h
  have hs : ∀ i, 0 < i → i < l.length → befS (rd l ((i : Int) - 1)).mAt (rd l (i : Int)).mAt := fun i h0 hi => by
    have := h.2 i (by omega) (by omega)
    unfold chQ at this
    rw [Bool.and_eq_true, decide_eq_false (by omega), Bool.false_or, ltI_iff, cmpS_lt] at this
    exact this.2
  have key : ∀ n, j + n < l.length → ¬ befS (rd l ((j + n : Nat) : Int)).mAt (rd l (j : Int)).mAt := fun n => by
    induction n with
    | zero => intro _ hb; unfold befS at hb; simp only [Nat.add_zero] at hb; omega
    | succ n ih =>
      intro hn hb
      have h1 := hs (j + (n + 1)) (by omega) hn
      rw [show ((j + (n + 1) : Nat) : Int) - 1 = ((j + n : Nat) : Int) by omega] at h1
      refine ih (by omega) ?_
      unfold befS at h1 hb ⊢
      omega
  have := key (l.length - 1 - j) (by omega)
  unfold lastV
  rwa [show ((j + (l.length - 1 - j) : Nat) : Int) = (l.length : Int) - 1 by omega] at this
theorem up_chain (l : List Version) (t : Stamp) (h : chR l = true) (hn : l ≠ []) : (∀ j, j < l.length → ¬ befS t (rd l (j : Int)).mAt) ↔ leI (cmpS (lastV l).mAt t) 0 = true := by
  have hl : 0 < l.length := List.length_pos_iff.2 hn
  rw [leI_iff, cmpS_le]
  constructor
  · intro hh
    have := hh (l.length - 1) (by omega)
    unfold lastV
    rwa [show ((l.length - 1 : Nat) : Int) = (l.length : Int) - 1 by omega] at this
  · intro hh j hj hb
    have := chain_last l h j hj
    unfold befS at *
    omega
theorem V89 (s : Shard) (t : Stamp) (h : SmS s) (hr : ixR s.mEntries = true) : Ev (fun k => F89 k s t) (upR s t) := by
  have he := h.entries
  have hq : ∀ i, i < s.mEntries.length → chR (rd s.mEntries (i : Int)).mChain = true ∧ (rd s.mEntries (i : Int)).mChain ≠ [] := fun i hi => by
    unfold ixR at hr
    rw [Bool.and_eq_true, allFrom_iff] at hr
    have := hr.2 i (by omega) (by omega)
    unfold ixQ at this
    simp only [Bool.and_eq_true, Bool.not_eq_true', eqI_false] at this
    refine ⟨this.1.1.2, fun hh => ?_⟩
    rw [hh] at this
    simp at this
  have inner : ∀ i, i < s.mEntries.length → Ev (fun k => F89_l2 s t (i : Int) k 0) (if leI (cmpS (lastV (rd s.mEntries (i : Int)).mChain).mAt t) 0 = true then .out () else .ret false) := fun i hi => by
    have hc : (rd s.mEntries (i : Int)).mChain.length ≤ 80 := h.chains _ (rd_mem hi)
    have hiff := up_chain _ t (hq i hi).1 (hq i hi).2
    have h1 := all_ev (f := fun k j => F89_l2 s t (i : Int) k j) (q := fun j => !ltI (cmpS t (rd (rd s.mEntries (i : Int)).mChain (j : Int)).mAt) 0) (n := (rd s.mEntries (i : Int)).mChain.length) (r := false) (by
      refine Ev.from 1 fun k => ?_
      show F89_l2 s t (i : Int) (k + 1) _ = _
      rw [F89_l2, inR_mk hi, ltI_nat, decide_eq_false (Nat.lt_irrefl _)]; rfl) fun j hj v hv => by
        refine Ev.succ (fun k => by rw [F89_l2]) ?_
        rw [ltI_nat, decide_eq_true hj, inR_mk hi, inR_mk hj, i64z (by omega)]
        refine Ev.bind (bef_eq _ _) ?_
        cases ltI (cmpS t (rd (rd s.mEntries (i : Int)).mChain (j : Int)).mAt) 0
        · exact hv
        · exact Ev.of fun _ => rfl
    have e : allFrom (fun j => !ltI (cmpS t (rd (rd s.mEntries (i : Int)).mChain (j : Int)).mAt) 0) (rd s.mEntries (i : Int)).mChain.length 0 = leI (cmpS (lastV (rd s.mEntries (i : Int)).mChain).mAt t) 0 := by
      rw [Bool.eq_iff_iff, allFrom_iff, ← hiff]
      constructor
      · intro hh j hj hb
        have := hh j (by omega) (by omega)
        rw [Bool.not_eq_true', ltI_false] at this
        have := (cmpS_lt t _).2 hb
        omega
      · intro hh j _ hj
        rw [Bool.not_eq_true', ltI_false]
        have := hh j (by omega)
        rw [← cmpS_lt] at this
        omega
    rwa [e] at h1
  refine Ev.bind (all_ev (q := fun i => leI (cmpS (lastV (rd s.mEntries (i : Int)).mChain).mAt t) 0) (n := s.mEntries.length) (r := false) ?_ fun i hi v hv => ?_) ?_
  · refine Ev.from 1 fun k => ?_
    show F89_l1 s t (k + 1) _ = _
    rw [F89_l1, ltI_nat, decide_eq_false (Nat.lt_irrefl _)]; rfl
  · refine Ev.succ (fun k => by rw [F89_l1]) ?_
    rw [ltI_nat, decide_eq_true hi, i64z (by omega)]
    refine Ev.bind (inner i hi) ?_
    cases leI (cmpS (lastV (rd s.mEntries (i : Int)).mChain).mAt t) 0
    · exact Ev.of fun _ => rfl
    · exact hv
  · have : upR s t = allFrom (fun i => leI (cmpS (lastV (rd s.mEntries (i : Int)).mChain).mAt t) 0) s.mEntries.length 0 := by
      unfold upR
      rw [Bool.eq_iff_iff, List.all_eq_true, allFrom_iff]
      constructor
      · intro hh j _ hj; exact hh _ (rd_mem (by omega))
      · intro hh e he
        obtain ⟨j, hj, rfl⟩ := List.mem_iff_getElem.1 he
        have := hh j (by omega) (by omega)
        rwa [rd_nat _ _ hj] at this
    rw [this]
    cases allFrom (fun i => leI (cmpS (lastV (rd s.mEntries (i : Int)).mChain).mAt t) 0) s.mEntries.length 0 <;> exact Ev.of fun _ => rfl
end Go.Proofs.Gd
set_option linter.unusedVariables false
set_option linter.unusedSimpArgs false
namespace Go.Proofs.Gd
open Go Go.Awp
def cQ (c : Cell) (i : Nat) : Bool := shR (rd c.mShards (i : Int)) && upR (rd c.mShards (i : Int)) c.mTop && (decide (i = 0) || ltI (rd c.mShards ((i : Int) - 1)).mID (rd c.mShards (i : Int)).mID)
def cR (c : Cell) : Bool := leI (c.mShards.length : Int) 8 && stR c.mTop && noB c.mDropped && allFrom (cQ c) c.mShards.length 0
def pcS (l : List Shard) (i : Int) : Int := bif leI i 0 then 0 else (rd l (i - 1)).mID
theorem shR_ix {s : Shard} (h : shR s = true) : ixR s.mEntries = true := by
  unfold shR at h
  simp only [Bool.and_eq_true] at h
  exact h.1.1.1.1.2
theorem shR_id {s : Shard} (h : shR s = true) : 1 ≤ s.mID ∧ s.mID ≤ 1099511627776 := by
  unfold shR oneB at h
  simp only [Bool.and_eq_true, leI_iff] at h
  exact h.1.1.1.1.1.1.1.1.1.1.1.1.1
theorem ixR_ne {l : List Entry} (h : ixR l = true) : ∀ e ∈ l, e.mChain ≠ [] := fun e he hn => by
  obtain ⟨j, hj, rfl⟩ := List.mem_iff_getElem.1 he
  unfold ixR at h
  rw [Bool.and_eq_true, allFrom_iff] at h
  have := h.2 j (by omega) (by omega)
  unfold ixQ at this
  rw [rd_nat _ _ hj, hn] at this
  simp [eqI] at this
theorem V25 (c : Cell) (h : SmC c) : Ev (fun k => F25 k c) (cR c) := by
  have hs := h.shards
  have start : ∀ k, F25_l1 c k (0, 0) = F25_l1 c k (pcS c.mShards 0, 0) := fun _ => rfl
  refine Ev.bind ((all_ev (f := fun k i => F25_l1 c k (pcS c.mShards i, i)) (q := cQ c) (n := c.mShards.length) (r := false) ?_ fun i hi v hv => ?_).congr start) ?_
  · refine Ev.from 1 fun k => ?_
    show F25_l1 c (k + 1) (pcS c.mShards _, _) = _
    rw [F25_l1, ltI_nat, decide_eq_false (Nat.lt_irrefl _)]; rfl
  · refine Ev.succ (fun k => by rw [F25_l1]) ?_
    have hp : pcS c.mShards ((i + 1 : Nat) : Int) = (rd c.mShards (i : Int)).mID := by
      unfold pcS
      rw [leI_false.2 (by omega), show ((i + 1 : Nat) : Int) - 1 = (i : Int) by omega]; rfl
    simp only [hp] at hv
    rw [ltI_nat, decide_eq_true hi, inR_mk hi, i64z (n := (i : Int) + 1) (by omega)]
    have hi' := h.each _ (rd_mem hi)
    generalize hsx : rd c.mShards (i : Int) = s at *
    have hq : cQ c i = (!leI s.mID (pcS c.mShards (i : Int)) && shR s && upR s c.mTop) := by
      unfold cQ pcS
      rw [hsx]
      by_cases h0 : i = 0
      · subst h0
        show _ = (!leI s.mID 0 && _ && _)
        cases hone : shR s
        · simp
        · have : leI s.mID 0 = false := by rw [leI_false]; have := (shR_id hone).1; omega
          rw [this]; simp
      · rw [decide_eq_false h0, (leI_false.2 (by omega) : leI (i : Int) 0 = false)]
        have : (!leI s.mID (rd c.mShards ((i : Int) - 1)).mID) = ltI (rd c.mShards ((i : Int) - 1)).mID s.mID := by
          rw [Bool.eq_iff_iff, Bool.not_eq_true', leI_false, ltI_iff]
        simp only [cond_false, Bool.false_or, this]
        generalize ltI (rd c.mShards ((i : Int) - 1)).mID s.mID = a; generalize shR s = b; generalize upR s c.mTop = d
        revert a b d; decide
    rw [hq]
    refine Ev.bind (optv fun _ => V20 _ hi') ?_
    cases leI s.mID (pcS c.mShards (i : Int)) <;> simp only [Bool.not_true, Bool.not_false, Bool.true_and, Bool.false_and, Bool.true_or, Bool.false_or, cond_true, cond_false, Bool.and_true, Bool.and_false, Bool.or_true, Bool.or_false]
    · cases hsr : shR s <;> simp only [Bool.not_true, Bool.not_false, Bool.true_and, Bool.false_and, Bool.true_or, Bool.false_or, cond_true, cond_false, Bool.and_true, Bool.and_false, Bool.or_true, Bool.or_false]
      · exact Ev.of fun _ => rfl
      · refine Ev.bind (V90 _ _ hi' (ixR_ne (shR_ix hsr))) ?_
        cases upR s c.mTop
        · exact Ev.of fun _ => rfl
        · exact hv
    · exact Ev.of fun _ => rfl
  · unfold cR
    cases hall : allFrom (cQ c) c.mShards.length 0
    · exact Ev.of fun _ => by simp [LR.go]
    · show Ev (fun k => (bif (leI (c.mShards.length : Int) 8) then F36 k c.mTop else some default).bind fun t39 => (bif ((leI (c.mShards.length : Int) 8) && t39) then F57 k 0 [c.mDropped] else some default).bind fun t45 => some (((leI (c.mShards.length : Int) 8) && t39) && t45)) _
      refine Ev.bind (optv fun _ => T36 _) (Ev.bind (optv fun _ => V57_0 _ (by simp)) (Ev.of fun _ => ?_))
      congr 1
      simp only [List.all_cons, List.all_nil, Bool.and_true]
      cases leI (c.mShards.length : Int) 8 <;> cases stR c.mTop <;> simp
theorem V22 (c : Cell) (h : SmC2 c) : Ev (fun k => F22 k c) (cR c) := by
  have hs := h.shards
  have hl : ltI 8 (c.mShards.length : Int) = !leI (c.mShards.length : Int) 8 := by rw [Bool.eq_iff_iff, Bool.not_eq_true', ltI_iff, leI_false]
  unfold F22
  rw [hl]
  refine Ev.bind (optv fun _ => T68 _) (Ev.bind (optv fun _ => V67 _) ?_)
  unfold cR
  have loop : Ev (fun k => (F22_l1 c k 0).bind fun t => t.go fun _ => some true) (allFrom (cQ c) c.mShards.length 0) := by
    refine Ev.bind (all_ev (q := cQ c) (n := c.mShards.length) (r := false) ?_ fun i hi v hv => ?_) ?_
    · refine Ev.from 1 fun k => ?_
      show F22_l1 c (k + 1) _ = _
      rw [F22_l1, ltI_nat, decide_eq_false (Nat.lt_irrefl _)]; rfl
    · refine Ev.succ (fun k => by rw [F22_l1]) ?_
      rw [ltI_nat, decide_eq_true hi, inR_mk hi, i64z (n := (i : Int) - 1) (by omega), i64z (n := (i : Int) + 1) (by omega), i0]
      simp only [Bool.or_true, cond_true]
      unfold cQ
      have hi' := h.each _ (rd_mem hi)
      refine Ev.bind (V21 _ hi') ?_
      cases hsr : shR (rd c.mShards (i : Int)) <;> simp only [Bool.not_true, Bool.not_false, Bool.true_and, Bool.false_and, Bool.true_or, Bool.false_or, cond_true, cond_false, Bool.and_true, Bool.and_false, Bool.or_true, Bool.or_false]
      · exact Ev.of fun _ => rfl
      · refine Ev.bind (V89 _ _ hi'.toSmS (shR_ix hsr)) ?_
        cases upR (rd c.mShards (i : Int)) c.mTop <;> simp only [Bool.not_true, Bool.not_false, Bool.true_and, Bool.false_and, Bool.true_or, Bool.false_or, cond_true, cond_false, Bool.and_true, Bool.and_false, Bool.or_true, Bool.or_false]
        · exact Ev.of fun _ => rfl
        · refine Ev.guard ?_ ?_
          · rw [Bool.or_eq_true, inR_iff, Bool.not_not, decide_eq_true_eq]
            by_cases h0 : i = 0
            · exact .inl h0
            · right; omega
          · cases decide (i = 0) <;> simp only [Bool.not_true, Bool.not_false, Bool.true_and, Bool.false_and, cond_true, cond_false, Bool.true_or, Bool.false_or, if_true]
            · have : leI (rd c.mShards (i : Int)).mID (rd c.mShards ((i : Int) - 1)).mID = !ltI (rd c.mShards ((i : Int) - 1)).mID (rd c.mShards (i : Int)).mID := by
                rw [Bool.eq_iff_iff, Bool.not_eq_true', ltI_false, leI_iff]
              rw [this]
              cases ltI (rd c.mShards ((i : Int) - 1)).mID (rd c.mShards (i : Int)).mID
              · exact Ev.of fun _ => rfl
              · exact hv
            · exact hv
    · cases allFrom (cQ c) c.mShards.length 0 <;> exact Ev.of fun _ => rfl
  generalize allFrom (cQ c) c.mShards.length 0 = z at loop ⊢
  generalize leI (c.mShards.length : Int) 8 = a; generalize stR c.mTop = b; generalize noB c.mDropped = d
  refine Ev.cond (fun hc => Ev.of fun _ => ?_) fun hc => Ev.congr' loop ?_
  · congr 1
    clear loop
    revert hc; revert a b d z; decide
  · clear loop
    revert hc; revert a b d z; decide
def zSh : Shard := ⟨0, 0, (⟨(⟨#[]⟩ : ByteArray), (⟨#[]⟩ : ByteArray)⟩ : Span), 0, ([] : List Entry), (⟨0, 0, 0⟩ : Stamp), (⟨0, 0, 0⟩ : Stamp), ([] : List Done), 0, 0, 0, 0⟩
def getL : List Shard → Int → Shard
  | [], _ => zSh
  | s :: l, id => bif eqI s.mID id then s else getL l id
def getS (c : Cell) (id : Int) : Shard := getL c.mShards id
theorem V24 (c : Cell) (id : Int) (h : c.mShards.length ≤ 12) : Ev (fun k => F24 k c id) (getS c id) := by
  have : ∀ m i, i + m = c.mShards.length → Ev (fun k => (F24_l1 c id k (i : Int)).bind fun t => t.go fun _ => some zSh) (getL (c.mShards.drop i) id) := fun m => by
    induction m with
    | zero =>
      intro i hi
      refine Ev.from 1 fun k => ?_
      show Option.bind (F24_l1 c id (k + 1) _) _ = _
      rw [F24_l1, ltI_nat, decide_eq_false (by omega), List.drop_of_length_le (by omega)]; rfl
    | succ m ih =>
      intro i hi
      have hlt : i < c.mShards.length := by omega
      rw [List.drop_eq_getElem_cons hlt, getL]
      refine Ev.succ (g := fun k => (bif eqI (c.mShards[i]).mID id then some (LR.ret c.mShards[i]) else F24_l1 c id k ((i + 1 : Nat) : Int)).bind fun t => t.go fun _ => some zSh) (fun k => ?_) ?_
      · rw [F24_l1, ltI_nat, decide_eq_true hlt, inR_mk hlt, i64z (by omega), rd_nat _ _ hlt]; rfl
      · cases eqI (c.mShards[i]).mID id
        · exact ih (i + 1) (by omega)
        · exact Ev.of fun _ => rfl
  have := this c.mShards.length 0 (by omega)
  rw [List.drop_zero] at this
  exact this
theorem getL_none (id : Int) : ∀ l : List Shard, (∀ s ∈ l, s.mID ≠ id) → getL l id = zSh
  | [], _ => rfl
  | s :: l, h => by rw [getL, eqI_false.2 (h s (by simp))]; exact getL_none id l fun t ht => h t (by simp [ht])
theorem getL_at (id : Int) : ∀ (l : List Shard) (n : Nat) (hn : n < l.length), l[n].mID = id → (∀ i (hi : i < n), (l[i]'(by omega)).mID ≠ id) → getL l id = l[n]
  | s :: l, 0, hn, h, _ => by rw [getL, (eqI_iff.2 h : eqI s.mID id = true)]; rfl
  | s :: l, n + 1, hn, h, hh => by
    rw [getL, (eqI_false.2 (hh 0 (by omega)) : eqI s.mID id = false)]
    exact getL_at id l n (by simpa using hn) h fun i hi => hh (i + 1) (by omega)
/-- In a right cell the shards stand by their IDs. -/
theorem cR_ids {c : Cell} (h : cR c = true) : (∀ i, i < c.mShards.length → 1 ≤ (rd c.mShards (i : Int)).mID ∧ (rd c.mShards (i : Int)).mID ≤ 1099511627776) ∧ ∀ i j, i < j → j < c.mShards.length → (rd c.mShards (i : Int)).mID < (rd c.mShards (j : Int)).mID := by
  unfold cR at h
  rw [Bool.and_eq_true, allFrom_iff] at h
  have hq : ∀ i, i < c.mShards.length → cQ c i = true := fun i hi => h.2 i (by omega) (by omega)
  refine ⟨fun i hi => ?_, ?_⟩
  · have := hq i hi
    unfold cQ at this
    rw [Bool.and_eq_true, Bool.and_eq_true] at this
    exact shR_id this.1.1
  · intro i j hij
    induction j with
    | zero => omega
    | succ j ih =>
      intro hj
      have := hq (j + 1) hj
      unfold cQ at this
      rw [Bool.and_eq_true, decide_eq_false (by omega), Bool.false_or, ltI_iff, show ((j + 1 : Nat) : Int) - 1 = (j : Int) by omega] at this
      by_cases e : i = j
      · subst e; exact this.2
      · exact Int.lt_trans (ih (by omega) (by omega)) this.2
/-- Where a shard stands, or is to stand. -/
theorem V123 (c : Cell) (id : Int) (h : cR c = true) (hl : c.mShards.length ≤ 12) (h1 : 1 ≤ id) (h2 : id ≤ 1099511627776) : EvP (fun k => F123 k c id) (fun r => ∃ n : Nat, r.1 = (n : Int) ∧ n ≤ c.mShards.length ∧ (∀ i, i < n → (rd c.mShards (i : Int)).mID < id) ∧ (∀ i, n ≤ i → i < c.mShards.length → id ≤ (rd c.mShards (i : Int)).mID) ∧ r.2 = (decide (n < c.mShards.length) && eqI (rd c.mShards (n : Int)).mID id)) := by
  obtain ⟨g1, g2⟩ := cR_ids h
  have hw : ∀ i, i < c.mShards.length → IntKind.wrap .i64 ((rd c.mShards (i : Int)).mID - id) = (rd c.mShards (i : Int)).mID - id := fun i hi => i64z (by have := g1 i hi; omega)
  have hb := bin_ev (l := c.mShards) (f := F155_156_l1 c.mShards id) (p := fun k x => F156 k x id) (q := fun x => IntKind.wrap .i64 (x.mID - id)) (by omega) (fun _ _ _ => rfl) (fun x _ => Ev.of fun _ => rfl) (fun i j hij hj hh => by
    have hh : IntKind.wrap .i64 ((rd c.mShards (j : Int)).mID - id) < 0 := hh
    show IntKind.wrap .i64 ((rd c.mShards (i : Int)).mID - id) < 0
    rw [hw j hj] at hh
    rw [hw i (by omega)]
    have := g2 i j hij hj
    omega)
  refine EvP.bind (EvP.bind (hb.mono fun r hr => ?_))
  obtain ⟨n, rfl, hn, q1, q2⟩ := hr
  refine EvP.guard ?_ ?_
  · rw [Bool.or_eq_true, Bool.not_eq_true', ltI_false, inR_iff]; omega
  · rw [ltI_nat]
    have base : (∀ i, i < n → (rd c.mShards (i : Int)).mID < id) ∧ (∀ i, n ≤ i → i < c.mShards.length → id ≤ (rd c.mShards (i : Int)).mID) := ⟨fun i hi => by
        have := q1 i hi
        rw [hw i (by omega)] at this; omega, fun i hi hi2 => by
        have := q2 i hi hi2
        rw [hw i hi2] at this; omega⟩
    by_cases hlt : n < c.mShards.length
    · rw [decide_eq_true hlt]
      refine EvP.bind (EvP.some (EvP.some (EvP.some ⟨n, rfl, hn, base.1, base.2, ?_⟩)))
      rw [decide_eq_true hlt]
      simp only [Bool.true_and]
      rw [hw n hlt, Bool.eq_iff_iff, eqI_iff, eqI_iff]; omega
    · rw [decide_eq_false hlt]
      exact EvP.bind (EvP.some (EvP.some (EvP.some ⟨n, rfl, hn, base.1, base.2, by rw [decide_eq_false hlt]; rfl⟩)))
theorem V60 (c : Cell) (id : Int) (h : cR c = true) (hl : c.mShards.length ≤ 12) (h1 : 1 ≤ id) (h2 : id ≤ 1099511627776) : Ev (fun k => F60 k c id) (getS c id) := by
  refine EvP.ev (EvP.bind ((V123 c id h hl h1 h2).mono fun r hr => ?_))
  obtain ⟨r1, r2⟩ := r
  obtain ⟨n, e, hn, q1, q2, q3⟩ := hr
  simp only at e q3
  subst e
  have hrd : ∀ i (hi : i < c.mShards.length), rd c.mShards (i : Int) = c.mShards[i] := fun i hi => rd_nat _ _ hi
  show EvP (fun k => bif r2 then _ else _) _
  cases hb : r2 with
  | true =>
    rw [hb] at q3
    have q3 := q3.symm
    rw [Bool.and_eq_true, decide_eq_true_eq, eqI_iff] at q3
    refine EvP.guard (inR_mk q3.1) (EvP.some ?_)
    unfold getS
    rw [getL_at id c.mShards n q3.1 (by rw [← hrd n q3.1]; exact q3.2) fun i hi => by
      have := q1 i hi
      rw [hrd i (by omega)] at this
      omega]
    exact hrd n q3.1
  | false =>
    rw [hb] at q3
    refine EvP.some ?_
    unfold getS
    rw [getL_none id c.mShards fun s hs => ?_]
    · rfl
    obtain ⟨i, hi, rfl⟩ := List.mem_iff_getElem.1 hs
    rw [← hrd i hi]
    intro he
    have q3 := q3.symm
    rw [Bool.and_eq_false_iff, decide_eq_false_iff_not, eqI_false] at q3
    by_cases h3 : i < n
    · have := q1 i h3; omega
    · have h4 := q2 n (Nat.le_refl _) (by omega)
      by_cases h5 : i = n
      · subst h5
        rcases q3 with q3 | q3
        · exact q3 hi
        · exact q3 he
      · have := (cR_ids h).2 n i (by omega) hi
        omega
/-- Find. -/
theorem V23 (c : Cell) (id : Int) (h : SmC c) : Ev (fun k => F23 k c id) (bif cR c && oneB id then (getS c id, !eqI (getS c id).mID 0) else (zSh, false)) := by
  refine Ev.bind (V25 c h) ?_
  have h57 : Ev (fun k => F57 k 1 [id]) (oneB id) := by
    have := T57 1 [id] (by simp)
    simp only [List.any_cons, List.any_nil, oneB_eq, Bool.or_false, Bool.not_not] at this
    exact this
  refine Ev.bind (optv fun _ => h57) ?_
  cases hr : cR c with
  | false => exact Ev.of fun _ => rfl
  | true =>
    cases ho : oneB id with
    | false => exact Ev.of fun _ => rfl
    | true =>
      unfold oneB at ho
      rw [Bool.and_eq_true, leI_iff, leI_iff] at ho
      exact Ev.bind (V60 c id hr h.shards ho.1 ho.2) (Ev.of fun _ => rfl)
theorem getL_mem (id : Int) : ∀ l : List Shard, getL l id ∈ l ∨ getL l id = zSh
  | [] => .inr rfl
  | s :: l => by
    rw [getL]
    cases eqI s.mID id with
    | true => exact .inl (by simp)
    | false =>
      rcases getL_mem id l with h | h
      · exact .inl (by simp [h])
      · exact .inr h
end Go.Proofs.Gd
set_option linter.unusedVariables false
set_option linter.unusedSimpArgs false
namespace Go.Proofs.Gd
open Go Go.Awp
def putL : List Shard → Shard → List Shard
  | [], s => [s]
  | x :: l, s => bif ltI x.mID s.mID then x :: putL l s else bif eqI x.mID s.mID then s :: l else s :: x :: l
def dropL (l : List Shard) (id : Int) : List Shard := l.filter fun x => !eqI x.mID id
def putC (c : Cell) (s : Shard) : Cell := { c with mShards := putL c.mShards s }
def dropC (c : Cell) (id : Int) : Cell := { c with mShards := dropL c.mShards id }
theorem putL_set (s : Shard) : ∀ (l : List Shard) (n : Nat) (hn : n < l.length), (∀ i (hi : i < n), (l[i]'(by omega)).mID < s.mID) → l[n].mID = s.mID → putL l s = l.set n s
  | x :: l, 0, _, _, h => by
    have h : x.mID = s.mID := h
    rw [putL, ltI_false.2 (by omega), eqI_iff.2 h]; rfl
  | x :: l, n + 1, hn, hh, h => by
    have h0 : x.mID < s.mID := hh 0 (by omega)
    rw [putL, ltI_iff.2 h0, putL_set s l n (by simpa using hn) (fun i hi => hh (i + 1) (by omega)) h]; rfl
theorem putL_ins (s : Shard) : ∀ (l : List Shard) (n : Nat) (hn : n ≤ l.length), (∀ i (hi : i < n), (l[i]'(by omega)).mID < s.mID) → (∀ h : n < l.length, s.mID < l[n].mID) → putL l s = l.take n ++ [s] ++ l.drop n
  | [], 0, _, _, _ => rfl
  | [], n + 1, hn, _, _ => by simp at hn
  | x :: l, 0, _, _, h => by
    have h : s.mID < x.mID := h (by simp)
    rw [putL, ltI_false.2 (by omega), eqI_false.2 (by omega)]; rfl
  | x :: l, n + 1, hn, hh, h => by
    have h0 : x.mID < s.mID := hh 0 (by omega)
    rw [putL, ltI_iff.2 h0, putL_ins s l n (by simpa using hn) (fun i hi => hh (i + 1) (by omega)) fun h2 => h (by simpa using h2)]; rfl
/-- engine.with. -/
theorem V95 (c : Cell) (s : Shard) (h : cR c = true) (hl : c.mShards.length ≤ 12) (h1 : 1 ≤ s.mID) (h2 : s.mID ≤ 1099511627776) : Ev (fun k => F95 k c s) (putC c s) := by
  refine EvP.ev (EvP.bind ((V123 c s.mID h hl h1 h2).mono fun r hr => ?_))
  obtain ⟨r1, r2⟩ := r
  obtain ⟨n, e, hn, q1, q2, q3⟩ := hr
  simp only at e q3
  subst e
  have hrd : ∀ i (hi : i < c.mShards.length), rd c.mShards (i : Int) = c.mShards[i] := fun i hi => rd_nat _ _ hi
  have hcl : Ev (fun k => F98o k c.mShards) c.mShards := Ev.of fun k => by
    unfold F98o
    rw [appOK_mk (by simp; omega) (by simp; omega)]; rfl
  refine EvP.bind (hcl.evP.mono fun t ht => ?_)
  subst ht
  show EvP (fun k => bif r2 then _ else _) _
  cases hb : r2 with
  | true =>
    rw [hb] at q3
    have q3 := q3.symm
    rw [Bool.and_eq_true, decide_eq_true_eq, eqI_iff] at q3
    refine EvP.guard (inR_mk q3.1) (EvP.some ?_)
    unfold putC
    rw [putL_set s c.mShards n q3.1 (fun i hi => by rw [← hrd i (by omega)]; exact q1 i hi) (by rw [← hrd n q3.1]; exact q3.2), Int.toNat_natCast]
  | false =>
    rw [hb] at q3
    have q3 := q3.symm
    rw [Bool.and_eq_false_iff, decide_eq_false_iff_not, eqI_false] at q3
    refine EvP.guard ?_ (EvP.some ?_)
    · exact decide_eq_true ⟨by omega, by omega, by omega, by omega⟩
    · unfold putC
      rw [putL_ins s c.mShards n hn (fun i hi => by rw [← hrd i (by omega)]; exact q1 i hi) (fun h3 => by
        have := q2 n (Nat.le_refl _) h3
        rw [hrd n h3] at this q3
        rcases q3 with q3 | q3
        · exact absurd h3 q3
        · omega), Int.toNat_natCast]
/-- What the document's Put makes of what is left. -/
def restP (s : Shard) : Bool → List Shard → List Shard
  | _, [] => []
  | true, x :: l => (bif !eqI x.mID s.mID then [x] else []) ++ restP s true l
  | false, x :: l => bif leI s.mID x.mID then s :: ((bif !eqI x.mID s.mID then [x] else []) ++ restP s true l) else x :: restP s false l
def didP (s : Shard) : Bool → List Shard → Bool
  | b, [] => b
  | b, x :: l => didP s (b || leI s.mID x.mID) l
theorem V79_l1 (c : Cell) (s : Shard) (hl : c.mShards.length ≤ 12) : ∀ (m i : Nat) (t : List Shard) (b : Bool), i + m = c.mShards.length → t.length ≤ 2 * i → Ev (fun k => F79_l1 c s k (t, b, (i : Int))) (t ++ restP s b (c.mShards.drop i), didP s b (c.mShards.drop i))
  | 0, i, t, b, hi, _ => by
    refine Ev.from 1 fun k => ?_
    show F79_l1 c s (k + 1) _ = _
    rw [F79_l1, ltI_nat, decide_eq_false (by omega), List.drop_of_length_le (by omega)]
    cases b <;> simp [restP, didP]
  | m + 1, i, t, b, hi, ht => by
    have hlt : i < c.mShards.length := by omega
    have ap : ∀ (l : List Shard) (x : Shard), l.length ≤ 100 → appOK 184 l.length [x].length = true := fun l x h => appOK_mk (by rw [List.length_singleton]; omega) (by rw [List.length_singleton]; omega)
    refine Ev.succ (fun k => by rw [F79_l1]) ?_
    rw [ltI_nat, decide_eq_true hlt, inR_mk hlt, i64z (by omega), rd_nat _ _ hlt, List.drop_eq_getElem_cons hlt]
    simp only [Bool.or_true, cond_true]
    generalize hx : c.mShards[i] = x
    cases b with
    | true =>
      simp only [Bool.not_true, Bool.false_and, cond_false]
      refine Ev.bind (Ev.of fun _ => rfl) ?_
      show Ev (fun k => bif !eqI x.mID s.mID then (bif appOK 184 t.length [x].length then F79_l1 c s k (t ++ [x], true, ((i : Int) + 1)) else none) else F79_l1 c s k (t, true, ((i : Int) + 1))) _
      rw [ap t x (by omega), restP, didP, Bool.true_or]
      cases eqI x.mID s.mID with
      | true => exact V79_l1 c s hl m (i + 1) t true (by omega) (by omega)
      | false =>
        have := V79_l1 c s hl m (i + 1) (t ++ [x]) true (by omega) (by rw [List.length_append, List.length_singleton]; omega)
        rw [List.append_assoc] at this
        exact this
    | false =>
      simp only [Bool.not_false, Bool.true_and]
      rw [restP, didP, Bool.false_or]
      cases hle : leI s.mID x.mID with
      | true =>
        simp only [cond_true]
        rw [ap t s (by omega)]
        refine Ev.bind (Ev.of fun _ => rfl) ?_
        show Ev (fun k => bif !eqI x.mID s.mID then (bif appOK 184 (t ++ [s]).length [x].length then F79_l1 c s k ((t ++ [s]) ++ [x], true, ((i : Int) + 1)) else none) else F79_l1 c s k (t ++ [s], true, ((i : Int) + 1))) _
        rw [ap (t ++ [s]) x (by rw [List.length_append, List.length_singleton]; omega)]
        cases eqI x.mID s.mID with
        | true =>
          have := V79_l1 c s hl m (i + 1) (t ++ [s]) true (by omega) (by rw [List.length_append, List.length_singleton]; omega)
          rw [List.append_assoc] at this
          exact this
        | false =>
          have := V79_l1 c s hl m (i + 1) ((t ++ [s]) ++ [x]) true (by omega) (by rw [List.length_append, List.length_append, List.length_singleton, List.length_singleton]; omega)
          have e : ((t ++ [s]) ++ [x]) ++ restP s true (List.drop (i + 1) c.mShards) = t ++ s :: ([x] ++ restP s true (List.drop (i + 1) c.mShards)) := by simp
          rw [e] at this
          exact this
      | false =>
        simp only [cond_false]
        refine Ev.bind (Ev.of fun _ => rfl) ?_
        show Ev (fun k => bif !eqI x.mID s.mID then (bif appOK 184 t.length [x].length then F79_l1 c s k (t ++ [x], false, ((i : Int) + 1)) else none) else F79_l1 c s k (t, false, ((i : Int) + 1))) _
        have hne : eqI x.mID s.mID = false := by rw [leI_false] at hle; rw [eqI_false]; omega
        rw [ap t x (by omega), hne]
        have := V79_l1 c s hl m (i + 1) (t ++ [x]) false (by omega) (by rw [List.length_append, List.length_singleton]; omega)
        rw [List.append_assoc] at this
        exact this
theorem restP_true (s : Shard) : ∀ l, restP s true l = dropL l s.mID
  | [] => rfl
  | x :: l => by
    rw [restP, restP_true s l]
    show _ ++ List.filter (fun x => !eqI x.mID s.mID) l = List.filter (fun x => !eqI x.mID s.mID) (x :: l)
    rw [List.filter_cons]
    cases eqI x.mID s.mID <;> rfl
theorem didP_true (s : Shard) : ∀ l, didP s true l = true
  | [] => rfl
  | x :: l => by rw [didP, Bool.true_or]; exact didP_true s l
def SortedL (l : List Shard) : Prop := ∀ i j (hj : j < l.length) (hi : i < j), (l[i]'(by omega)).mID < l[j].mID
theorem SortedL.tail {x : Shard} {l : List Shard} (h : SortedL (x :: l)) : SortedL l := fun i j hj hi => h (i + 1) (j + 1) (by simpa using hj) (by omega)
theorem SortedL.head {x : Shard} {l : List Shard} (h : SortedL (x :: l)) : ∀ y ∈ l, x.mID < y.mID := fun y hy => by
  obtain ⟨j, hj, rfl⟩ := List.mem_iff_getElem.1 hy
  exact h 0 (j + 1) (by simpa using hj) (by omega)
theorem dropL_id (id : Int) : ∀ l : List Shard, (∀ y ∈ l, id < y.mID) → dropL l id = l := fun l h => by
  unfold dropL
  rw [List.filter_eq_self]
  intro y hy
  rw [Bool.not_eq_true', eqI_false]
  have := h y hy; omega
theorem put_rest (s : Shard) : ∀ l, SortedL l → (bif didP s false l then restP s false l else restP s false l ++ [s]) = putL l s
  | [], _ => rfl
  | x :: l, h => by
    rw [didP, restP, putL, Bool.false_or]
    cases hle : leI s.mID x.mID with
    | true =>
      rw [leI_iff] at hle
      rw [didP_true, restP_true, dropL_id s.mID l fun y hy => by have := h.head y hy; omega, ltI_false.2 hle]
      cases eqI x.mID s.mID <;> rfl
    | false =>
      rw [leI_false] at hle
      rw [ltI_iff.2 hle, ← put_rest s l h.tail]
      cases didP s false l <;> rfl
theorem cR_sorted {c : Cell} (h : cR c = true) : SortedL c.mShards := fun i j hj hi => by
  have := (cR_ids h).2 i j hi hj
  rwa [rd_nat _ _ hj, rd_nat _ _ (by omega : i < c.mShards.length)] at this
/-- The document's Put. -/
theorem V79 (c : Cell) (s : Shard) (h : cR c = true) (hl : c.mShards.length ≤ 12) : Ev (fun k => F79 k c s false) (putC c s) := by
  have h1 := V79_l1 c s hl c.mShards.length 0 [] false (by omega) (by simp)
  rw [List.drop_zero, List.nil_append] at h1
  refine Ev.bind h1 ?_
  have h2 := put_rest s c.mShards (cR_sorted h)
  unfold putC
  rw [← h2]
  have hlen : (restP s false c.mShards).length ≤ 30 := by
    have : ∀ (b : Bool) (l : List Shard), (restP s b l).length ≤ l.length + 1 + (bif b then 0 else 1) := fun b l => by
      induction l generalizing b with
      | nil => cases b <;> simp [restP]
      | cons x l ih =>
        have i1 := ih true
        have i2 := ih false
        simp only [cond_true, cond_false] at i1 i2
        cases b
        · rw [restP]
          cases leI s.mID x.mID
          · simp only [cond_false, List.length_cons]; omega
          · cases eqI x.mID s.mID <;> simp <;> omega
        · rw [restP]
          cases eqI x.mID s.mID <;> simp <;> omega
    have := this false c.mShards
    simp only [cond_false] at this
    omega
  show Ev (fun k => bif !didP s false c.mShards then (bif appOK 184 (restP s false c.mShards).length [s].length then some { c with mShards := restP s false c.mShards ++ [s] } else none) else some { c with mShards := restP s false c.mShards }) _
  rw [appOK_mk (by rw [List.length_singleton]; omega) (by rw [List.length_singleton]; omega)]
  cases didP s false c.mShards <;> exact Ev.of fun _ => rfl
theorem V79g (c : Cell) (s : Shard) (hl : c.mShards.length ≤ 12) : Ev (fun k => F79 k c s true) (dropC c s.mID) := by
  have h1 := V79_l1 c s hl c.mShards.length 0 [] true (by omega) (by simp)
  rw [List.drop_zero, List.nil_append, didP_true, restP_true] at h1
  exact Ev.bind h1 (Ev.of fun _ => rfl)
theorem getS_id {c : Cell} (h : cR c = true) (id : Int) (h0 : (getS c id).mID ≠ 0) : 1 ≤ (getS c id).mID ∧ (getS c id).mID ≤ 1099511627776 := by
  rcases getL_mem id c.mShards with h1 | h1
  · obtain ⟨i, hi, hx⟩ := List.mem_iff_getElem.1 h1
    have := (cR_ids h).1 i hi
    rw [rd_nat _ _ hi, hx] at this
    exact this
  · exact absurd (by unfold getS; rw [h1]; rfl) h0
end Go.Proofs.Gd
set_option linter.unusedVariables false
set_option linter.unusedSimpArgs false
namespace Go.Proofs.Gd
open Go Go.Awp
theorem E18 (c : Cell) (h : SmC c) : Ev (fun k => F18 k c c) true := by
  have hs := h.shards
  refine Ev.cond (fun hc => by rw [eqI_self, eqI_self, qStamp_self] at hc; cases hc) fun _ => loop_out (n := c.mShards.length) ?_ (fun i hi ih => ?_) (Ev.of fun _ => rfl)
  · refine Ev.from 1 fun k => ?_
    show F18_l1 c c (k + 1) _ = _
    rw [F18_l1, ltI_nat, decide_eq_false (Nat.lt_irrefl _)]; rfl
  · refine Ev.succ (fun k => by rw [F18_l1]) ?_
    rw [ltI_nat, decide_eq_true hi, inR_mk hi, i64z (by omega), rd_nat _ _ hi]
    exact Ev.bind (E26 _ (h.each _ (List.getElem_mem hi))) ih
end Go.Proofs.Gd
set_option linter.unusedVariables false
set_option linter.unusedSimpArgs false
namespace Go.Proofs.Gd
open Go Go.Awp
theorem befS_trans {a b c : Stamp} (h : befS a b) (h' : befS b c) : befS a c := by unfold befS at *; omega
theorem ltB (s t : Stamp) : ltI (cmpS s t) 0 = true ↔ befS s t := by rw [ltI_iff]; exact cmpS_lt s t
theorem chR_iff (l : List Version) : chR l = true ↔ l.length ≤ 64 ∧ (∀ v ∈ l, vR v = true) ∧ l.Pairwise (fun a b => befS a.mAt b.mAt) := by
  have h := allFrom_pair (P := vR) (Q := fun a b => ltI (cmpS a.mAt b.mAt) 0) (fun a b c h1 h2 => by
    rw [ltB] at *; exact befS_trans h1 h2) l
  simp only [ltB] at h
  rw [← h]
  unfold chR
  rw [Bool.and_eq_true, leI_iff, show ((l.length : Int) ≤ 64) = (l.length ≤ 64) by apply propext; omega]
  rfl
theorem cmpK_trans {a b c : ByteArray} (h : cmpK a b < 0) (h' : cmpK b c < 0) : cmpK a c < 0 := cmpL_trans _ _ _ h (by unfold cmpK at h'; omega)
theorem ixR_iff (l : List Entry) : ixR l = true ↔ l.length ≤ 64 ∧ (∀ e ∈ l, keyR e.mKey = true ∧ chR e.mChain = true ∧ e.mChain ≠ []) ∧ l.Pairwise (fun a b => cmpK a.mKey b.mKey < 0) := by
  have h := allFrom_pair (P := fun e : Entry => keyR e.mKey && chR e.mChain && !eqI (e.mChain.length : Int) 0) (Q := fun a b => ltI (cmpK a.mKey b.mKey) 0) (fun a b c h1 h2 => by
    rw [ltI_iff] at *; exact cmpK_trans h1 h2) l
  simp only [ltI_iff] at h
  have e : ∀ e : Entry, ((keyR e.mKey && chR e.mChain && !eqI (e.mChain.length : Int) 0) = true) = (keyR e.mKey = true ∧ chR e.mChain = true ∧ e.mChain ≠ []) := fun e => by
    apply propext
    rw [Bool.and_eq_true, Bool.and_eq_true, Bool.not_eq_true', eqI_false, and_assoc]
    have : ((e.mChain.length : Int) ≠ 0) ↔ e.mChain ≠ [] := by
      rw [← List.length_pos_iff]; omega
    rw [this]
  simp only [e] at h
  rw [← h]
  unfold ixR
  rw [Bool.and_eq_true, leI_iff, show ((l.length : Int) ≤ 64) = (l.length ≤ 64) by apply propext; omega]
  rfl
theorem dnR_iff (l : List Done) : dnR l = true ↔ l.length ≤ 8 ∧ (∀ d ∈ l, oneB d.mClient = true ∧ oneB d.mReq = true ∧ aR d.mAnswer = true) ∧ l.Pairwise (fun a b => a.mClient < b.mClient) := by
  have h := allFrom_pair (P := fun d : Done => oneB d.mClient && oneB d.mReq && aR d.mAnswer) (Q := fun a b => ltI a.mClient b.mClient) (fun a b c h1 h2 => by
    rw [ltI_iff] at *; omega) l
  simp only [ltI_iff, Bool.and_eq_true, and_assoc] at h
  rw [← h]
  unfold dnR
  rw [Bool.and_eq_true, leI_iff, show ((l.length : Int) ≤ 8) = (l.length ≤ 8) by apply propext; omega]
  have : dnQ l = fun i : Nat => (oneB (rd l (i : Int)).mClient && oneB (rd l (i : Int)).mReq && aR (rd l (i : Int)).mAnswer) && (decide (i = 0) || ltI (rd l ((i : Int) - 1)).mClient (rd l (i : Int)).mClient) := rfl
  rw [this]
theorem cR_iff (c : Cell) : cR c = true ↔ c.mShards.length ≤ 8 ∧ stR c.mTop = true ∧ noB c.mDropped = true ∧ (∀ s ∈ c.mShards, shR s = true ∧ upR s c.mTop = true) ∧ c.mShards.Pairwise (fun a b => a.mID < b.mID) := by
  have h := allFrom_pair (P := fun s : Shard => shR s && upR s c.mTop) (Q := fun a b => ltI a.mID b.mID) (fun a b c h1 h2 => by
    rw [ltI_iff] at *; omega) c.mShards
  simp only [ltI_iff, Bool.and_eq_true] at h
  rw [← h]
  unfold cR
  rw [Bool.and_eq_true, Bool.and_eq_true, Bool.and_eq_true, leI_iff, and_assoc, and_assoc, show ((c.mShards.length : Int) ≤ 8) = (c.mShards.length ≤ 8) by apply propext; omega]
  have : cQ c = fun i : Nat => (shR (rd c.mShards (i : Int)) && upR (rd c.mShards (i : Int)) c.mTop) && (decide (i = 0) || ltI (rd c.mShards ((i : Int) - 1)).mID (rd c.mShards (i : Int)).mID) := rfl
  rw [this]
/-- What is asked of a shard alone. -/
def shH (s : Shard) : Bool := oneB s.mID && oneB s.mEpoch && noB s.mHold && noB s.mSeen && noB s.mMove && noB s.mClosed && !ltI s.mPhase 1 && !ltI 3 s.mPhase
theorem shR_iff (s : Shard) : shR s = true ↔ shH s = true ∧ spR s.mSpan = true ∧ ixR s.mEntries = true ∧ stR s.mMark = true ∧ stR s.mTop = true ∧ dnR s.mDone = true ∧ ∀ e ∈ s.mEntries, hasR s.mSpan e.mKey = true := by
  unfold shR
  rw [← List.all_eq_true, Bool.and_eq_true, Bool.and_eq_true, Bool.and_eq_true, Bool.and_eq_true, Bool.and_eq_true, Bool.and_eq_true]
  simp only [and_assoc]
  rfl
theorem aR_items {a : Answer} (h : aR a = true) : a.mItems = [] := by
  unfold aR at h
  simp only [Bool.and_eq_true, eqI_iff] at h
  exact List.length_eq_zero_iff.1 (by omega)
theorem keyR_size {x : ByteArray} (h : keyR x = true) : 1 ≤ x.size ∧ x.size ≤ 16 := by
  unfold keyR at h
  rw [Bool.and_eq_true, decide_eq_true_eq] at h
  exact h.2
theorem shR_sm {s : Shard} (h : shR s = true) : SmS2 s := by
  rw [shR_iff] at h
  obtain ⟨_, h1, h2, _, _, h3, _⟩ := h
  rw [ixR_iff] at h2
  rw [dnR_iff] at h3
  have sp : s.mSpan.mLo.size ≤ 16 ∧ s.mSpan.mHi.size ≤ 16 := by
    unfold spR at h1
    rw [Bool.and_eq_true, Bool.or_eq_true, Bool.or_eq_true, Bool.and_eq_true, strEq_nil, strEq_nil, decide_eq_true_eq, decide_eq_true_eq] at h1
    constructor
    · rcases h1.1 with h | h
      · omega
      · exact (keyR_size h).2
    · rcases h1.2 with h | h
      · omega
      · exact (keyR_size h.1).2
  exact { entries := by omega
          chains := fun e he => by have := ((chR_iff _).1 (h2.2.1 e he).2.1).1; omega
          done := by omega
          items := fun d hd => by rw [aR_items (h3.2.1 d hd).2.2]; simp
          keys := fun e he => by have := (keyR_size (h2.2.1 e he).1).2; omega
          lo := by omega
          hi := by omega }
theorem cR_sm {c : Cell} (h : cR c = true) : SmC2 c := by
  rw [cR_iff] at h
  exact ⟨by omega, fun s hs => shR_sm (h.2.2.2.1 s hs).1⟩
end Go.Proofs.Gd
set_option linter.unusedVariables false
set_option linter.unusedSimpArgs false
namespace Go.Proofs.Gd
open Go Go.Awp
abbrev SortI (l : List Shard) : Prop := l.Pairwise (fun a b => a.mID < b.mID)
theorem putL_mem' {s : Shard} : ∀ {l : List Shard}, SortI l → ∀ y, y ∈ putL l s ↔ y = s ∨ (y ∈ l ∧ y.mID ≠ s.mID)
  | [], _, y => by simp [putL]
  | x :: l, h, y => by
    have h := List.pairwise_cons.1 h
    have ih := putL_mem' (s := s) h.2 y
    rw [putL]
    cases h1 : ltI x.mID s.mID with
    | true =>
      rw [ltI_iff] at h1
      rw [cond_true, List.mem_cons, ih, List.mem_cons]
      constructor
      · rintro (rfl | rfl | h2)
        · exact .inr ⟨.inl rfl, by omega⟩
        · exact .inl rfl
        · exact .inr ⟨.inr h2.1, h2.2⟩
      · rintro (rfl | ⟨rfl | h2, h3⟩)
        · exact .inr (.inl rfl)
        · exact .inl rfl
        · exact .inr (.inr ⟨h2, h3⟩)
    | false =>
      rw [ltI_false] at h1
      rw [cond_false]
      cases h2 : eqI x.mID s.mID with
      | true =>
        rw [eqI_iff] at h2
        rw [cond_true, List.mem_cons, List.mem_cons]
        constructor
        · rintro (rfl | h3)
          · exact .inl rfl
          · have := h.1 y h3; exact .inr ⟨.inr h3, by omega⟩
        · rintro (rfl | ⟨rfl | h3, h4⟩)
          · exact .inl rfl
          · exact absurd h2 h4
          · exact .inr h3
      | false =>
        rw [eqI_false] at h2
        rw [cond_false, List.mem_cons, List.mem_cons]
        constructor
        · rintro (rfl | rfl | h3)
          · exact .inl rfl
          · exact .inr ⟨.inl rfl, h2⟩
          · have := h.1 y h3; exact .inr ⟨.inr h3, by omega⟩
        · rintro (rfl | ⟨rfl | h3, h4⟩)
          · exact .inl rfl
          · exact .inr (.inl rfl)
          · exact .inr (.inr h3)
theorem putL_sort {s : Shard} : ∀ {l : List Shard}, SortI l → SortI (putL l s)
  | [], _ => by simp [putL]
  | x :: l, h => by
    have h0 := h
    have h := List.pairwise_cons.1 h
    have ih := putL_sort (s := s) h.2
    rw [putL]
    cases h1 : ltI x.mID s.mID with
    | true =>
      rw [ltI_iff] at h1
      rw [cond_true]; unfold SortI; rw [List.pairwise_cons]
      refine ⟨fun y hy => ?_, ih⟩
      rcases (putL_mem' h.2 y).1 hy with rfl | h2
      · exact h1
      · exact h.1 y h2.1
    | false =>
      rw [ltI_false] at h1
      rw [cond_false]
      cases h2 : eqI x.mID s.mID with
      | true =>
        rw [eqI_iff] at h2
        rw [cond_true]; unfold SortI; rw [List.pairwise_cons]
        exact ⟨fun y hy => by have := h.1 y hy; omega, h.2⟩
      | false =>
        rw [eqI_false] at h2
        rw [cond_false]; unfold SortI; rw [List.pairwise_cons]
        refine ⟨fun y hy => ?_, h0⟩
        rw [List.mem_cons] at hy
        rcases hy with rfl | hy
        · omega
        · have := h.1 y hy; omega
theorem putL_le (s : Shard) : ∀ l, (putL l s).length ≤ l.length + 1
  | [] => by simp [putL]
  | x :: l => by
    have := putL_le s l
    rw [putL]
    cases ltI x.mID s.mID <;> cases eqI x.mID s.mID <;> simp <;> omega
theorem putL_len_in {s : Shard} : ∀ {l : List Shard}, SortI l → (∃ x ∈ l, x.mID = s.mID) → (putL l s).length = l.length
  | [], _, h => by obtain ⟨x, h1, _⟩ := h; cases h1
  | x :: l, h, ⟨y, hy, e⟩ => by
    have h := List.pairwise_cons.1 h
    rw [List.mem_cons] at hy
    rw [putL]
    rcases hy with rfl | hy
    · rw [ltI_false.2 (by omega), eqI_iff.2 e]; rfl
    · have := h.1 y hy
      rw [ltI_iff.2 (by omega), cond_true, List.length_cons, putL_len_in h.2 ⟨y, hy, e⟩]; rfl
theorem getL_spec {l : List Shard} {id : Int} (h : ∀ s ∈ l, 1 ≤ s.mID) : ((getL l id).mID ≠ 0 → getL l id ∈ l ∧ (getL l id).mID = id) ∧ ((getL l id).mID = 0 → ∀ s ∈ l, s.mID ≠ id) := by
  induction l with
  | nil => exact ⟨fun h => absurd rfl h, fun _ s hs => by cases hs⟩
  | cons x l ih =>
    have ih := ih fun s hs => h s (by simp [hs])
    rw [getL]
    cases h1 : eqI x.mID id with
    | true =>
      rw [eqI_iff] at h1
      refine ⟨fun _ => ⟨by simp, h1⟩, fun h2 => ?_⟩
      have := h x (by simp)
      have h2 : x.mID = 0 := h2
      omega
    | false =>
      rw [eqI_false] at h1
      refine ⟨fun h2 => ⟨by simp [(ih.1 h2).1], (ih.1 h2).2⟩, fun h2 s hs => ?_⟩
      rw [List.mem_cons] at hs
      rcases hs with rfl | hs
      · exact h1
      · exact ih.2 h2 s hs
theorem shR_id1 {c : Cell} (h : cR c = true) : ∀ s ∈ c.mShards, 1 ≤ s.mID := fun s hs => (shR_id (((cR_iff c).1 h).2.2.2.1 s hs).1).1
theorem getS_in {c : Cell} (h : cR c = true) {id : Int} (h0 : (getS c id).mID ≠ 0) : getS c id ∈ c.mShards ∧ (getS c id).mID = id := (getL_spec (shR_id1 h)).1 h0
theorem getS_right {c : Cell} (h : cR c = true) {id : Int} (h0 : (getS c id).mID ≠ 0) : shR (getS c id) = true ∧ upR (getS c id) c.mTop = true := ((cR_iff c).1 h).2.2.2.1 _ (getS_in h h0).1
theorem cR_put {c : Cell} (h : cR c = true) {s : Shard} (hs : shR s = true) (hu : upR s c.mTop = true) (hl : (∃ x ∈ c.mShards, x.mID = s.mID) ∨ c.mShards.length ≤ 7) : cR (putC c s) = true := by
  have h0 := h
  rw [cR_iff] at *
  have hlen := putL_le s c.mShards
  refine ⟨?_, h.2.1, h.2.2.1, fun y hy => ?_, putL_sort h.2.2.2.2⟩
  · show (putL c.mShards s).length ≤ 8
    rcases hl with hl | hl
    · rw [putL_len_in h.2.2.2.2 hl]; exact h.1
    · omega
  · rcases (putL_mem' h.2.2.2.2 y).1 hy with rfl | h3
    · exact ⟨hs, hu⟩
    · exact h.2.2.2.1 y h3.1
theorem cR_drop {c : Cell} (h : cR c = true) (id : Int) : cR (dropC c id) = true := by
  rw [cR_iff] at *
  refine ⟨Nat.le_trans (List.length_filter_le _ _) h.1, h.2.1, h.2.2.1, fun y hy => h.2.2.2.1 y (List.mem_filter.1 hy).1, List.Pairwise.filter _ h.2.2.2.2⟩
theorem cR_dropped {c : Cell} (h : cR c = true) {n : Int} (hn : noB n = true) : cR { c with mDropped := n } = true := by
  rw [cR_iff] at *
  exact ⟨h.1, h.2.1, hn, h.2.2.2.1, h.2.2.2.2⟩
end Go.Proofs.Gd
set_option linter.unusedVariables false
set_option linter.unusedSimpArgs false
namespace Go.Proofs.Gd
open Go Go.Awp
theorem _root_.Go.Awp.Ev.bif {α : Type} {c : Bool} {a b : Nat → Option α} {x y : α} (h1 : c = true → Ev a x) (h2 : c = false → Ev b y) : Ev (fun k => bif c then a k else b k) (bif c then x else y) := by
  cases c with
  | true => exact h1 rfl
  | false => exact h2 rfl
theorem T57_1 (a : Int) : Ev (fun k => F57 k 1 [a]) (oneB a) := by
  have := T57 1 [a] (by simp)
  simp only [List.any_cons, List.any_nil, oneB_eq, Bool.or_false, Bool.not_not] at this
  exact this
theorem oneB_iff {n : Int} : oneB n = true ↔ 1 ≤ n ∧ n ≤ 1099511627776 := by unfold oneB; rw [Bool.and_eq_true, leI_iff, leI_iff]
theorem noB_iff {n : Int} : noB n = true ↔ 0 ≤ n ∧ n ≤ 1099511627776 := by unfold noB; rw [Bool.and_eq_true, leI_iff, leI_iff]
theorem shH_iff {s : Shard} : shH s = true ↔ (1 ≤ s.mID ∧ s.mID ≤ 1099511627776) ∧ (1 ≤ s.mEpoch ∧ s.mEpoch ≤ 1099511627776) ∧ (0 ≤ s.mHold ∧ s.mHold ≤ 1099511627776) ∧ (0 ≤ s.mSeen ∧ s.mSeen ≤ 1099511627776) ∧ (0 ≤ s.mMove ∧ s.mMove ≤ 1099511627776) ∧ (0 ≤ s.mClosed ∧ s.mClosed ≤ 1099511627776) ∧ 1 ≤ s.mPhase ∧ s.mPhase ≤ 3 := by
  unfold shH
  simp only [Bool.and_eq_true, oneB_iff, noB_iff, Bool.not_eq_true', ltI_false, and_assoc]
/-- A shard that differs in its head alone is right where its head is. -/
theorem shR_head {s u : Shard} (h : shR s = true) (e1 : u.mSpan = s.mSpan) (e2 : u.mEntries = s.mEntries) (e3 : u.mMark = s.mMark) (e4 : u.mDone = s.mDone) (h1 : shH u = true) (h2 : stR u.mTop = true) : shR u = true := by
  rw [shR_iff] at *
  rw [e1, e2, e3, e4]
  exact ⟨h1, h.2.1, h.2.2.1, h.2.2.2.1, h2, h.2.2.2.2.2.1, h.2.2.2.2.2.2⟩
theorem up_head {s u : Shard} {t : Stamp} (h : upR s t = true) (e2 : u.mEntries = s.mEntries) : upR u t = true := by
  unfold upR at *; rw [e2]; exact h
theorem V23then {β : Type} {c : Cell} (h : SmC c) (id : Int) {g : Nat → Shard × Bool → Option β} {good bad : β} (hb : ∀ s, Ev (fun k => g k (s, false)) bad) (hg : cR c = true → oneB id = true → (getS c id).mID ≠ 0 → Ev (fun k => g k (getS c id, true)) good) :
    Ev (fun k => (F23 k c id).bind (g k)) (bif cR c && oneB id && !eqI (getS c id).mID 0 then good else bad) := by
  refine Ev.bind (V23 c id h) ?_
  cases h1 : cR c with
  | false => exact hb _
  | true =>
    cases h2 : oneB id with
    | false => exact hb _
    | true =>
      show Ev (fun k => g k (getS c id, !eqI (getS c id).mID 0)) _
      cases h3 : eqI (getS c id).mID 0 with
      | true => exact hb _
      | false => exact hg h1 h2 (eqI_false.1 h3)
/-- Taking out a shard that stands at a place. -/
theorem drop_at (id : Int) : ∀ (l : List Shard) (n : Nat) (hn : n < l.length), l[n].mID = id → (∀ i (hi : i < l.length), i ≠ n → l[i].mID ≠ id) → dropL l id = l.take n ++ l.drop (n + 1)
  | x :: l, 0, _, h, hh => by
    have h : x.mID = id := h
    unfold dropL
    rw [List.filter_cons, eqI_iff.2 h]
    simp only [Bool.not_true, Bool.false_eq_true, if_false, List.take_zero, List.nil_append, List.drop_succ_cons, List.drop_zero]
    rw [List.filter_eq_self]
    intro y hy
    obtain ⟨j, hj, rfl⟩ := List.mem_iff_getElem.1 hy
    rw [Bool.not_eq_true', eqI_false]
    exact hh (j + 1) (by simpa using hj) (by omega)
  | x :: l, n + 1, hn, h, hh => by
    have h0 : x.mID ≠ id := hh 0 (by simp) (by omega)
    unfold dropL
    rw [List.filter_cons, eqI_false.2 h0]
    simp only [Bool.not_false, if_true, List.take_succ_cons, List.cons_append, List.drop_succ_cons]
    congr 1
    exact drop_at id l n (by simpa using hn) h fun i hi hne => hh (i + 1) (by simpa using hi) (by omega)
/-- engine.without. -/
theorem V105 (c : Cell) (id : Int) (h : cR c = true) (h1 : 1 ≤ id) (h2 : id ≤ 1099511627776) : Ev (fun k => F105 k c id) (dropC c id) := by
  have hl := ((cR_iff c).1 h).1
  obtain ⟨g1, g2⟩ := cR_ids h
  refine EvP.ev (EvP.bind ((V123 c id h (by omega) h1 h2).mono fun r hr => ?_))
  obtain ⟨r1, r2⟩ := r
  obtain ⟨n, e, hn, q1, q2, q3⟩ := hr
  simp only at e q3
  subst e
  have hrd : ∀ i (hi : i < c.mShards.length), rd c.mShards (i : Int) = c.mShards[i] := fun i hi => rd_nat _ _ hi
  show EvP (fun k => bif r2 then _ else _) _
  cases hb : r2 with
  | true =>
    rw [hb] at q3
    have q3 := q3.symm
    rw [Bool.and_eq_true, decide_eq_true_eq, eqI_iff] at q3
    rw [hrd n q3.1] at q3
    refine EvP.bind ((Ev.of fun k => by unfold F98o; rw [appOK_mk (by simp; omega) (by simp; omega)]; rfl : Ev (fun k => F98o k c.mShards) c.mShards).evP.mono fun t ht => ?_)
    subst ht
    refine EvP.guard ?_ (EvP.guard (decide_eq_true (i64z (by omega))) (EvP.some ?_))
    · exact decide_eq_true ⟨by omega, by omega⟩
    · unfold dropC
      rw [Int.toNat_natCast, drop_at id c.mShards n q3.1 q3.2 fun i hi hne => ?_]
      by_cases hlt : i < n
      · have := q1 i hlt; rw [hrd i hi] at this; omega
      · have := g2 n i (by omega) hi
        rw [hrd n q3.1, hrd i hi] at this; omega
  | false =>
    rw [hb] at q3
    refine EvP.some ?_
    have : dropL c.mShards id = c.mShards := by
      unfold dropL
      rw [List.filter_eq_self]
      intro y hy
      obtain ⟨j, hj, rfl⟩ := List.mem_iff_getElem.1 hy
      rw [Bool.not_eq_true', eqI_false]
      intro e
      have q3 := q3.symm
      rw [Bool.and_eq_false_iff, decide_eq_false_iff_not, eqI_false] at q3
      by_cases h3 : j < n
      · have := q1 j h3; rw [hrd j hj] at this; omega
      · have hlt : n < c.mShards.length := by omega
        rw [hrd n hlt] at q3
        by_cases h4 : j = n
        · subst h4; rcases q3 with q3 | q3
          · exact q3 hlt
          · exact q3 e
        · have h5 := q2 n (Nat.le_refl _) hlt
          have h6 := g2 n j (by omega) hj
          rw [hrd n hlt] at h5
          rw [hrd n hlt, hrd j hj] at h6
          omega
    unfold dropC
    rw [this]
def freezeS (s : Shard) (m : Int) (t : Stamp) : Shard := { s with mPhase := 2, mTop := t, mMove := m }
def freezeP (c : Cell) (id ep m : Int) : Cell × Bool :=
  bif cR c && oneB id && !eqI (getS c id).mID 0 then (bif !(oneB ep && oneB m) then (c, false) else bif eqI (getS c id).mPhase 2 && eqI (getS c id).mMove m then (c, true) else
    bif (((!eqI (getS c id).mEpoch ep) || (!eqI (getS c id).mPhase 1)) || (!eqI (getS c id).mHold 0)) || (leI m (getS c id).mClosed) then (c, false) else (putC c (freezeS (getS c id) m c.mTop), true)) else (c, false)
theorem V39 (c : Cell) (id ep m : Int) (h : SmC c) : Ev (fun k => F39 k c id ep m) (freezeP c id ep m) := by
  refine V23then h id (fun s => Ev.of fun _ => rfl) fun hc hid h0 => Ev.bind (optv fun _ => T57_2 _ _) ?_
  have hg := getS_id hc id h0
  refine Ev.bif (fun _ => Ev.of fun _ => rfl) fun _ => Ev.bind (Ev.of fun _ => rfl) (Ev.bif (fun _ => Ev.of fun _ => rfl) fun _ => Ev.bif (fun _ => Ev.of fun _ => rfl) fun _ => ?_)
  exact Ev.bind (V95 c (freezeS (getS c id) m c.mTop) hc h.shards hg.1 hg.2) (Ev.of fun _ => rfl)
def thawS (s : Shard) (m : Int) : Shard := { s with mPhase := bif eqI s.mPhase 2 && eqI s.mMove m then 1 else s.mPhase, mClosed := m }
def thawP (c : Cell) (id m : Int) : Cell × Bool :=
  bif cR c && oneB id && !eqI (getS c id).mID 0 then (bif !oneB m then (c, false) else bif (leI m (getS c id).mClosed) || ((eqI (getS c id).mPhase 2) && (!eqI (getS c id).mMove m)) then (c, true) else (putC c (thawS (getS c id) m), true)) else (c, false)
theorem V46 (c : Cell) (id m : Int) (h : SmC c) : Ev (fun k => F46 k c id m) (thawP c id m) := by
  refine V23then h id (fun s => Ev.of fun _ => rfl) fun hc hid h0 => Ev.bind (optv fun _ => T57_1 _) ?_
  have hg := getS_id hc id h0
  refine Ev.bif (fun _ => Ev.of fun _ => rfl) fun _ => Ev.bif (fun _ => Ev.of fun _ => rfl) fun _ => Ev.bind (Ev.of fun _ => rfl) ?_
  have := V95 c (thawS (getS c id) m) hc h.shards hg.1 hg.2
  unfold thawS at this ⊢
  refine Ev.cond (fun hb => ?_) fun hb => ?_
  · rw [show (eqI (getS c id).mPhase 2 && eqI (getS c id).mMove m) = true from hb] at this ⊢
    exact Ev.bind this (Ev.of fun _ => rfl)
  · rw [show (eqI (getS c id).mPhase 2 && eqI (getS c id).mMove m) = false from hb] at this ⊢
    exact Ev.bind this (Ev.of fun _ => rfl)
def retireP (c : Cell) (id m : Int) : Cell × Bool :=
  bif !(cR c && (oneB id && oneB m)) then (c, false) else bif eqI (getS c id).mID 0 then (c, true) else bif !(eqI (getS c id).mPhase 2 && eqI (getS c id).mMove m) then (c, false) else (dropC c id, true)
theorem V44 (c : Cell) (id m : Int) (h : SmC c) : Ev (fun k => F44 k c id m) (retireP c id m) := by
  refine Ev.bind (V25 c h) (Ev.bind (optv fun _ => T57_2 _ _) ?_)
  unfold retireP
  cases hc : cR c with
  | false => exact Ev.of fun _ => rfl
  | true =>
    cases ho : oneB id && oneB m with
    | false => exact Ev.of fun _ => rfl
    | true =>
      rw [Bool.and_eq_true, oneB_iff, oneB_iff] at ho
      refine Ev.bind (V60 c id hc h.shards ho.1.1 ho.1.2) (Ev.bif (fun _ => Ev.of fun _ => rfl) fun _ => Ev.bind (Ev.of fun _ => rfl) (Ev.bif (fun _ => Ev.of fun _ => rfl) fun _ => ?_))
      exact Ev.bind (V105 c id hc ho.1.1 ho.1.2) (Ev.of fun _ => rfl)
def serveS (s : Shard) (m ep : Int) : Shard := { s with mEpoch := ep, mPhase := 1, mClosed := m }
def serveP (c : Cell) (id m ep : Int) : Cell × Bool :=
  bif cR c && oneB id && !eqI (getS c id).mID 0 then (bif !(oneB m && oneB ep) then (c, false) else bif (eqI (getS c id).mPhase 1 && eqI (getS c id).mEpoch ep) && eqI (getS c id).mClosed m then (c, true) else
    bif (!(eqI (getS c id).mPhase 3 && eqI (getS c id).mMove m)) || leI ep (getS c id).mEpoch then (c, false) else (putC { c with mDropped := maxI c.mDropped m } (serveS (getS c id) m ep), true)) else (c, false)
theorem noB_max {a b : Int} (h : noB a = true) (h' : oneB b = true) : noB (maxI a b) = true := by
  rw [noB_iff] at *
  rw [oneB_iff] at h'
  unfold maxI
  split <;> omega
theorem V43 (c : Cell) (id m ep : Int) (h : SmC c) : Ev (fun k => F43 k c id m ep) (serveP c id m ep) := by
  refine V23then h id (fun s => Ev.of fun _ => rfl) fun hc hid h0 => Ev.bind (optv fun _ => T57_2 _ _) ?_
  have hg := getS_id hc id h0
  refine Ev.bif (fun _ => Ev.of fun _ => rfl) fun ho => Ev.bif (fun _ => Ev.of fun _ => rfl) fun _ => Ev.bind (Ev.of fun _ => rfl) (Ev.bif (fun _ => Ev.of fun _ => rfl) fun _ => ?_)
  have ho : (!(oneB m && oneB ep)) = false := ho
  rw [Bool.not_eq_false', Bool.and_eq_true] at ho
  have hm := cR_dropped hc (noB_max ((cR_iff c).1 hc).2.2.1 ho.1)
  exact Ev.bind (V95 { c with mDropped := maxI c.mDropped m } (serveS (getS c id) m ep) hm h.shards hg.1 hg.2) (Ev.of fun _ => rfl)
def dropP (c : Cell) (id m : Int) : Cell × Bool :=
  bif !(cR c && (oneB id && oneB m)) then (c, false) else bif eqI (getS c id).mPhase 3 && eqI (getS c id).mMove m then ({ dropC c id with mDropped := maxI c.mDropped m }, true) else ({ c with mDropped := maxI c.mDropped m }, true)
theorem V47 (c : Cell) (id m : Int) (h : SmC c) : Ev (fun k => F47 k c id m) (dropP c id m) := by
  refine Ev.bind (V25 c h) (Ev.bind (optv fun _ => T57_2 _ _) ?_)
  unfold dropP
  cases hc : cR c with
  | false => exact Ev.of fun _ => rfl
  | true =>
    cases ho : oneB id && oneB m with
    | false => exact Ev.of fun _ => rfl
    | true =>
      rw [Bool.and_eq_true, oneB_iff, oneB_iff] at ho
      refine Ev.bind (V60 c id hc h.shards ho.1.1 ho.1.2) (Ev.bind (Ev.of fun _ => rfl) (Ev.bif (fun _ => ?_) fun _ => Ev.of fun _ => rfl))
      exact Ev.bind (V105 c id hc ho.1.1 ho.1.2) (Ev.of fun _ => rfl)
theorem freezeP_right {c : Cell} (hc : cR c = true) (id ep m : Int) : cR (freezeP c id ep m).1 = true := by
  unfold freezeP
  cases h0 : cR c && oneB id && !eqI (getS c id).mID 0 with
  | false => exact hc
  | true =>
    simp only [Bool.and_eq_true, Bool.not_eq_true', eqI_false] at h0
    obtain ⟨g1, g2⟩ := getS_right hc h0.2
    rw [cond_true]
    cases h1 : oneB ep && oneB m with
    | false => exact hc
    | true =>
      rw [Bool.not_true, cond_false]
      cases eqI (getS c id).mPhase 2 && eqI (getS c id).mMove m with
      | true => exact hc
      | false =>
        rw [cond_false]
        cases (((!eqI (getS c id).mEpoch ep) || (!eqI (getS c id).mPhase 1)) || (!eqI (getS c id).mHold 0)) || (leI m (getS c id).mClosed) with
        | true => exact hc
        | false =>
          rw [Bool.and_eq_true, oneB_iff, oneB_iff] at h1
          refine cR_put hc (shR_head g1 rfl rfl rfl rfl ?_ ((cR_iff c).1 hc).2.1) (up_head g2 rfl) (.inl ⟨_, (getS_in hc h0.2).1, rfl⟩)
          have := shH_iff.1 ((shR_iff _).1 g1).1
          rw [shH_iff]
          simp only [freezeS]
          omega
theorem thawP_right {c : Cell} (hc : cR c = true) (id m : Int) : cR (thawP c id m).1 = true := by
  unfold thawP
  cases h0 : cR c && oneB id && !eqI (getS c id).mID 0 with
  | false => exact hc
  | true =>
    simp only [Bool.and_eq_true, Bool.not_eq_true', eqI_false] at h0
    obtain ⟨g1, g2⟩ := getS_right hc h0.2
    rw [cond_true]
    cases h1 : oneB m with
    | false => exact hc
    | true =>
      rw [Bool.not_true, cond_false]
      cases (leI m (getS c id).mClosed) || ((eqI (getS c id).mPhase 2) && (!eqI (getS c id).mMove m)) with
      | true => exact hc
      | false =>
        rw [oneB_iff] at h1
        refine cR_put hc (shR_head g1 rfl rfl rfl rfl ?_ ((shR_iff _).1 g1).2.2.2.2.1) (up_head g2 rfl) (.inl ⟨_, (getS_in hc h0.2).1, rfl⟩)
        have := shH_iff.1 ((shR_iff _).1 g1).1
        rw [shH_iff]
        simp only [thawS]
        cases eqI (getS c id).mPhase 2 && eqI (getS c id).mMove m
        · rw [cond_false]; omega
        · rw [cond_true]; omega
theorem retireP_right {c : Cell} (hc : cR c = true) (id m : Int) : cR (retireP c id m).1 = true := by
  unfold retireP
  cases cR c && (oneB id && oneB m) with
  | false => exact hc
  | true =>
    rw [Bool.not_true, cond_false]
    cases eqI (getS c id).mID 0 with
    | true => exact hc
    | false =>
      rw [cond_false]
      cases eqI (getS c id).mPhase 2 && eqI (getS c id).mMove m with
      | true => exact cR_drop hc id
      | false => exact hc
theorem serveP_right {c : Cell} (hc : cR c = true) (id m ep : Int) : cR (serveP c id m ep).1 = true := by
  unfold serveP
  cases h0 : cR c && oneB id && !eqI (getS c id).mID 0 with
  | false => exact hc
  | true =>
    simp only [Bool.and_eq_true, Bool.not_eq_true', eqI_false] at h0
    obtain ⟨g1, g2⟩ := getS_right hc h0.2
    rw [cond_true]
    cases h1 : oneB m && oneB ep with
    | false => exact hc
    | true =>
      rw [Bool.not_true, cond_false]
      cases (eqI (getS c id).mPhase 1 && eqI (getS c id).mEpoch ep) && eqI (getS c id).mClosed m with
      | true => exact hc
      | false =>
        rw [cond_false]
        cases (!(eqI (getS c id).mPhase 3 && eqI (getS c id).mMove m)) || leI ep (getS c id).mEpoch with
        | true => exact hc
        | false =>
          rw [Bool.and_eq_true] at h1
          have hm := cR_dropped hc (noB_max ((cR_iff c).1 hc).2.2.1 h1.1)
          rw [oneB_iff, oneB_iff] at h1
          refine cR_put hm (shR_head g1 rfl rfl rfl rfl ?_ ((shR_iff _).1 g1).2.2.2.2.1) (up_head g2 rfl) (.inl ⟨_, (getS_in hc h0.2).1, rfl⟩)
          have := shH_iff.1 ((shR_iff _).1 g1).1
          rw [shH_iff]
          simp only [serveS]
          omega
theorem dropP_right {c : Cell} (hc : cR c = true) (id m : Int) : cR (dropP c id m).1 = true := by
  unfold dropP
  cases h : cR c && (oneB id && oneB m) with
  | false => exact hc
  | true =>
    simp only [Bool.and_eq_true] at h
    have hm := noB_max ((cR_iff c).1 hc).2.2.1 h.2.2
    rw [Bool.not_true, cond_false]
    cases eqI (getS c id).mPhase 3 && eqI (getS c id).mMove m with
    | true => exact cR_dropped (cR_drop hc id) hm
    | false => exact cR_dropped hc hm
end Go.Proofs.Gd
set_option linter.unusedVariables false
set_option linter.unusedSimpArgs false
namespace Go.Proofs.Gd
open Go Go.Awp
theorem getS_pos {c : Cell} (hc : cR c = true) {id : Int} (h0 : (getS c id).mID ≠ 0) : ltI 0 (getS c id).mID = true ∧ ltI 0 (getS c id).mHold = !eqI (getS c id).mHold 0 := by
  have := shH_iff.1 ((shR_iff _).1 (getS_right hc h0).1).1
  refine ⟨by rw [ltI_iff]; omega, ?_⟩
  rw [Bool.eq_iff_iff, ltI_iff, Bool.not_eq_true', eqI_false]; omega
theorem V96 (s : Shard) (p m : Int) : Ev (fun k => F96 k s p m) ((ltI 0 s.mID && eqI s.mPhase p) && eqI s.mMove m) := Ev.of fun _ => rfl
theorem l00 : eqI 0 0 = true := rfl
theorem l10 : eqI 1 0 = false := rfl
theorem l20 : eqI 2 0 = false := rfl
theorem l30 : eqI 3 0 = false := rfl
theorem l40 : eqI 4 0 = false := rfl
theorem l11 : eqI 1 1 = true := rfl
theorem l21 : eqI 2 1 = false := rfl
theorem l31 : eqI 3 1 = false := rfl
theorem l41 : eqI 4 1 = false := rfl
theorem l22 : eqI 2 2 = true := rfl
theorem l32 : eqI 3 2 = false := rfl
theorem l42 : eqI 4 2 = false := rfl
theorem l13 : eqI 1 3 = false := rfl
theorem l23 : eqI 2 3 = false := rfl
theorem l33 : eqI 3 3 = true := rfl
theorem l43 : eqI 4 3 = false := rfl
theorem V45_0 (c : Cell) (id ep m : Int) (h : SmC2 c) : Ev (fun k => F45 k c 0 id ep m) (freezeP c id ep m) := by
  refine Ev.bind (V22 c h) (Ev.bind (optv fun _ => T66 _) (Ev.bind (optv fun _ => T66 _) (Ev.bind (optv fun _ => T66 _) ?_)))
  unfold freezeP
  cases hc : cR c
  · exact Ev.of fun _ => rfl
  cases ho : oneB id
  · exact Ev.of fun _ => rfl
  cases hm : oneB m
  · cases eqI (getS c id).mID 0 <;> cases oneB ep <;> exact Ev.of fun _ => rfl
  cases he : oneB ep
  · cases eqI (getS c id).mID 0 <;> exact Ev.of fun _ => rfl
  refine Ev.bind (V24 c id h.shards) ?_
  simp only [l00, cond_true]
  refine Ev.bind (V96 _ _ _) ?_
  cases h0 : eqI (getS c id).mID 0 with
  | true =>
    have : ltI 0 (getS c id).mID = false := by rw [eqI_iff] at h0; rw [h0]; rfl
    rw [this]
    exact Ev.of fun _ => rfl
  | false =>
    obtain ⟨g1, g2⟩ := getS_pos hc (eqI_false.1 h0)
    rw [g1, g2]
    simp only [Bool.true_and, Bool.false_or, Bool.not_false, cond_true, Bool.not_true, cond_false]
    refine Ev.bif (fun _ => Ev.of fun _ => rfl) fun _ => Ev.bif (fun _ => Ev.of fun _ => rfl) fun _ => Ev.bind (V79 c (freezeS (getS c id) m c.mTop) hc h.shards) (Ev.of fun _ => rfl)
theorem V45_1 (c : Cell) (id ep m : Int) (h : SmC2 c) : Ev (fun k => F45 k c 1 id ep m) (thawP c id m) := by
  refine Ev.bind (V22 c h) (Ev.bind (optv fun _ => T66 _) (Ev.bind (optv fun _ => T66 _) (Ev.bind (optv fun _ => T66 _) ?_)))
  unfold thawP
  simp only [l10, l13, Bool.or_false, Bool.false_and, Bool.and_false]
  cases hc : cR c
  · exact Ev.of fun _ => rfl
  cases ho : oneB id
  · exact Ev.of fun _ => rfl
  cases hm : oneB m
  · cases eqI (getS c id).mID 0 <;> exact Ev.of fun _ => rfl
  refine Ev.bind (V24 c id h.shards) ?_
  simp only [l11, cond_true, cond_false]
  cases h0 : eqI (getS c id).mID 0 with
  | true => exact Ev.of fun _ => rfl
  | false =>
    obtain ⟨g1, g2⟩ := getS_pos hc (eqI_false.1 h0)
    simp only [Bool.true_and, Bool.false_or, Bool.not_false, cond_true, Bool.not_true, cond_false]
    refine Ev.bif (fun _ => Ev.of fun _ => rfl) fun _ => Ev.bind (V96 _ _ _) ?_
    rw [g1, Bool.true_and]
    unfold thawS
    refine Ev.cond (fun hb => ?_) fun hb => ?_ <;> rw [hb] <;> exact Ev.bind (V79 c _ hc h.shards) (Ev.of fun _ => rfl)
theorem V45_2 (c : Cell) (id ep m : Int) (h : SmC2 c) : Ev (fun k => F45 k c 2 id ep m) (retireP c id m) := by
  refine Ev.bind (V22 c h) (Ev.bind (optv fun _ => T66 _) (Ev.bind (optv fun _ => T66 _) (Ev.bind (optv fun _ => T66 _) ?_)))
  unfold retireP
  simp only [l20, l23, Bool.or_false, Bool.false_and, Bool.and_false]
  cases hc : cR c
  · exact Ev.of fun _ => rfl
  cases ho : oneB id
  · exact Ev.of fun _ => rfl
  cases hm : oneB m
  · exact Ev.of fun _ => rfl
  refine Ev.bind (V24 c id h.shards) ?_
  simp only [l21, l22, cond_true, cond_false]
  cases h0 : eqI (getS c id).mID 0 with
  | true => exact Ev.of fun _ => rfl
  | false =>
    obtain ⟨g1, g2⟩ := getS_pos hc (eqI_false.1 h0)
    simp only [cond_false, Bool.and_true, Bool.not_true]
    refine Ev.bind (V96 _ _ _) ?_
    rw [g1, Bool.true_and]
    refine Ev.bif (fun _ => Ev.of fun _ => rfl) fun _ => ?_
    have := V79g c (getS c id) h.shards
    rw [(getS_in hc (eqI_false.1 h0)).2] at this
    exact Ev.bind this (Ev.of fun _ => rfl)
theorem max_if {a b : Int} : (bif ltI a b then b else a) = maxI a b := by
  unfold maxI ltI
  by_cases h : a < b <;> simp [h]
theorem putC_dropped (c : Cell) (s : Shard) (n : Int) : putC { c with mDropped := n } s = { putC c s with mDropped := n } := rfl
theorem V45_3 (c : Cell) (id ep m : Int) (h : SmC2 c) : Ev (fun k => F45 k c 3 id ep m) (serveP c id m ep) := by
  refine Ev.bind (V22 c h) (Ev.bind (optv fun _ => T66 _) (Ev.bind (optv fun _ => T66 _) (Ev.bind (optv fun _ => T66 _) ?_)))
  unfold serveP
  simp only [l30, l33, Bool.false_or]
  cases hc : cR c
  · exact Ev.of fun _ => rfl
  cases ho : oneB id
  · exact Ev.of fun _ => rfl
  cases hm : oneB m
  · cases eqI (getS c id).mID 0 <;> exact Ev.of fun _ => rfl
  cases he : oneB ep
  · cases eqI (getS c id).mID 0 <;> exact Ev.of fun _ => rfl
  refine Ev.bind (V24 c id h.shards) ?_
  simp only [l31, l32, cond_true, cond_false]
  cases h0 : eqI (getS c id).mID 0 with
  | true =>
    have : ltI 0 (getS c id).mID = false := by rw [eqI_iff] at h0; rw [h0]; rfl
    rw [this]
    simp only [Bool.false_and, cond_false]
    refine Ev.bind (V96 _ _ _) ?_
    rw [this]
    exact Ev.of fun _ => rfl
  | false =>
    obtain ⟨g1, g2⟩ := getS_pos hc (eqI_false.1 h0)
    rw [g1]
    simp only [Bool.true_and, Bool.false_or, Bool.not_false, cond_true, Bool.not_true, cond_false, Bool.and_true]
    refine Ev.bif (fun _ => Ev.of fun _ => rfl) fun _ => Ev.bind (V96 _ _ _) ?_
    rw [g1, Bool.true_and]
    refine Ev.bif (fun _ => Ev.of fun _ => rfl) fun _ => Ev.bind (V79 c (serveS (getS c id) m ep) hc h.shards) ?_
    rw [putC_dropped, ← max_if]
    show Ev (fun k => bif ltI c.mDropped m then _ else _) _
    refine Ev.cond (fun hb => ?_) fun hb => ?_ <;> rw [hb] <;> exact Ev.of fun _ => rfl
theorem V45_4 (c : Cell) (id ep m : Int) (h : SmC2 c) : Ev (fun k => F45 k c 4 id ep m) (dropP c id m) := by
  refine Ev.bind (V22 c h) (Ev.bind (optv fun _ => T66 _) (Ev.bind (optv fun _ => T66 _) (Ev.bind (optv fun _ => T66 _) ?_)))
  unfold dropP
  simp only [l40, l43, Bool.or_false, Bool.false_and, Bool.and_false]
  cases hc : cR c
  · exact Ev.of fun _ => rfl
  cases ho : oneB id
  · exact Ev.of fun _ => rfl
  cases hm : oneB m
  · exact Ev.of fun _ => rfl
  refine Ev.bind (V24 c id h.shards) ?_
  simp only [l41, l42, cond_true, cond_false, Bool.not_true, Bool.and_true]
  rw [← max_if]
  refine Ev.bind (x := bif eqI (getS c id).mPhase 3 && eqI (getS c id).mMove m then ((dropC c id).mShards, c.mTop.mWall, c.mTop.mTick, c.mTop.mNode, c.mDropped) else (c.mShards, c.mTop.mWall, c.mTop.mTick, c.mTop.mNode, c.mDropped)) (Ev.bind (V96 _ _ _) ?_) ?_
  · cases h0 : eqI (getS c id).mID 0 with
    | true =>
      have e0 : ltI 0 (getS c id).mID = false := by rw [eqI_iff] at h0; rw [h0]; rfl
      have e1 : eqI (getS c id).mPhase 3 = false := by
        rcases getL_mem id c.mShards with h1 | h1
        · exact absurd (eqI_iff.1 h0) (by have := shR_id1 hc _ h1; unfold getS; omega)
        · unfold getS; rw [h1]; rfl
      rw [e0, e1]
      exact Ev.of fun _ => rfl
    | false =>
      obtain ⟨g1, g2⟩ := getS_pos hc (eqI_false.1 h0)
      rw [g1, Bool.true_and]
      refine Ev.bif (fun _ => ?_) fun _ => Ev.of fun _ => rfl
      have := V79g c (getS c id) h.shards
      rw [(getS_in hc (eqI_false.1 h0)).2] at this
      exact Ev.bind this (Ev.of fun _ => rfl)
  · cases eqI (getS c id).mPhase 3 && eqI (getS c id).mMove m
    · show Ev (fun k => bif ltI c.mDropped m then _ else _) _
      cases ltI c.mDropped m <;> exact Ev.of fun _ => rfl
    · show Ev (fun k => bif ltI c.mDropped m then _ else _) _
      cases ltI c.mDropped m <;> exact Ev.of fun _ => rfl
theorem sm_of {c d : Cell} (h : SmC c) (h1 : cR c = true → cR d = true) (h2 : cR c = false → d = c) : SmC d := by
  cases hc : cR c with
  | true => exact (cR_sm (h1 hc)).sm
  | false => rw [h2 hc]; exact h
theorem moves (c : Cell) (id ep m : Int) : EvP (fun k => F9 k c id ep m) (· = true) := by
  have aw : Ev (fun k => F15 k) true := Ev.from 40 awake
  refine EvP.bind ((V14 c).mono fun b hb => EvP.cond (fun _ => EvP.bind (aw.evP.mono fun x hx => EvP.some hx)) fun hc => ?_)
  have h2 := hb (by simpa using hc)
  have h := h2.sm
  have m0 : SmC (freezeP c id ep m).1 := sm_of h (fun hc => freezeP_right hc id ep m) fun hc => by unfold freezeP; rw [hc]; rfl
  have m1 : SmC (thawP c id m).1 := sm_of h (fun hc => thawP_right hc id m) fun hc => by unfold thawP; rw [hc]; rfl
  have m2 : SmC (retireP c id m).1 := sm_of h (fun hc => retireP_right hc id m) fun hc => by unfold retireP; rw [hc]; rfl
  have m3 : SmC (serveP c id m ep).1 := sm_of h (fun hc => serveP_right hc id m ep) fun hc => by unfold serveP; rw [hc]; rfl
  have m4 : SmC (dropP c id m).1 := sm_of h (fun hc => dropP_right hc id m) fun hc => by unfold dropP; rw [hc]; rfl
  have f0 : Ev (fun k => F39 k c id ep m) (freezeP c id ep m) := V39 c id ep m h
  have f1 := V46 c id m h
  have f2 := V44 c id m h
  have f3 := V43 c id m ep h
  have f4 := V47 c id m h
  have d0 := V45_0 c id ep m h2
  have d1 := V45_1 c id ep m h2
  have d2 := V45_2 c id ep m h2
  have d3 := V45_3 c id ep m h2
  have d4 := V45_4 c id ep m h2
  generalize freezeP c id ep m = P at m0 f0 d0
  obtain ⟨q0, b0⟩ := P
  generalize thawP c id m = P at m1 f1 d1
  obtain ⟨q1, b1⟩ := P
  generalize retireP c id m = P at m2 f2 d2
  obtain ⟨q2, b2⟩ := P
  generalize serveP c id m ep = P at m3 f3 d3
  obtain ⟨q3, b3⟩ := P
  generalize dropP c id m = P at m4 f4 d4
  obtain ⟨q4, b4⟩ := P
  have s5 : Ev (fun k => F9_l1 c id ep m k 5) (.out ()) := Ev.from 1 fun k => rfl
  have s4 : Ev (fun k => F9_l1 c id ep m k 4) (.out ()) := by
    refine Ev.succ (fun k => by rw [F9_l1]) ?_
    refine Ev.bind d4 (Ev.bind f0 (Ev.bind (Ev.bind f4 (Ev.of fun _ => rfl)) ?_))
    refine Ev.bind (E18 _ m4) ?_
    cases b4 <;> exact s5
  have s3 : Ev (fun k => F9_l1 c id ep m k 3) (.out ()) := by
    refine Ev.succ (fun k => by rw [F9_l1]) ?_
    refine Ev.bind d3 (Ev.bind f0 (Ev.bind (Ev.bind f3 (Ev.of fun _ => rfl)) ?_))
    refine Ev.bind (E18 _ m3) ?_
    cases b3 <;> exact s4
  have s2 : Ev (fun k => F9_l1 c id ep m k 2) (.out ()) := by
    refine Ev.succ (fun k => by rw [F9_l1]) ?_
    refine Ev.bind d2 (Ev.bind f0 (Ev.bind (Ev.bind f2 (Ev.of fun _ => rfl)) ?_))
    refine Ev.bind (E18 _ m2) ?_
    cases b2 <;> exact s3
  have s1 : Ev (fun k => F9_l1 c id ep m k 1) (.out ()) := by
    refine Ev.succ (fun k => by rw [F9_l1]) ?_
    refine Ev.bind d1 (Ev.bind f0 (Ev.bind (Ev.bind f1 (Ev.of fun _ => rfl)) ?_))
    refine Ev.bind (E18 _ m1) ?_
    cases b1 <;> exact s2
  have s0 : Ev (fun k => F9_l1 c id ep m k 0) (.out ()) := by
    refine Ev.succ (fun k => by rw [F9_l1]) ?_
    refine Ev.bind d0 (Ev.bind f0 (Ev.bind (Ev.of fun _ => rfl) ?_))
    refine Ev.bind (E18 _ m0) ?_
    cases b0 <;> exact s1
  exact EvP.of (r := true) (Ev.bind s0 (Ev.bind aw (Ev.of fun _ => rfl))) rfl
end Go.Proofs.Gd
