/- Shards and cells that are right, on both sides; what is found. No program in sight. -/
import Derived.Test.YthhpelmjnmlgjaaGreatDoorGdRight
set_option linter.unusedVariables false
set_option linter.unusedSimpArgs false
namespace Go.Proofs.Gd
open Go Go.Awp

theorem Ev.congr' {α : Type} {f : Nat → Option α} {r r' : α} (h : Ev f r) (e : r = r') : Ev f r' := e ▸ h
structure SmS2 (s : Shard) : Prop extends SmS s where
  keys : ∀ e ∈ s.mEntries, e.mKey.size ≤ 100
  lo : s.mSpan.mLo.size ≤ 100
  hi : s.mSpan.mHi.size ≤ 100
structure SmC2 (c : Cell) : Prop where
  shards : c.mShards.length ≤ 12
  each : ∀ s ∈ c.mShards, SmS2 s
theorem SmC2.sm {c : Cell} (h : SmC2 c) : SmC c := ⟨h.shards, fun s hs => (h.each s hs).toSmS⟩
theorem V91 (l : List Entry) : EvP (fun k => F91 k l) (fun b => b = true → l.length ≤ 80 ∧ ∀ e ∈ l, e.mChain.length ≤ 80 ∧ e.mKey.size ≤ 100) := by
  refine EvP.cond (fun _ => EvP.some fun h => by cases h) fun hc => ?_
  rw [ltI_false] at hc
  refine EvP.go ((downTo (M := fun i => EvP (fun k => F91_l1 l k (i : Int)) fun t => t = .ret false ∨ (t = .out () ∧ ∀ j (hj : j < l.length), i ≤ j → l[j].mChain.length ≤ 80 ∧ l[j].mKey.size ≤ 100)) l.length ?_ fun i hi ih => ?_).mono fun t ht => ?_)
  · refine EvP.succ (fun k => by rw [F91_l1]) ?_
    rw [ltI_nat, decide_eq_false (Nat.lt_irrefl _)]
    exact EvP.some (.inr ⟨rfl, fun j hj h => by omega⟩)
  · refine EvP.succ (fun k => by rw [F91_l1]) ?_
    rw [ltI_nat, decide_eq_true hi, inR_mk hi, rd_nat _ _ hi, Bool.or_true]
    simp only [cond_true]
    refine EvP.cond (fun _ => EvP.some (.inl rfl)) fun hcc => ?_
    rw [Bool.or_eq_false_iff, ltI_false, ltI_false] at hcc
    rw [i64z (by omega)]
    refine ih.mono fun t ht => ht.imp id fun ⟨h1, h2⟩ => ⟨h1, fun j hj hij => ?_⟩
    by_cases e : j = i
    · subst e; omega
    · exact h2 j hj (by omega)
  · rcases ht with rfl | ⟨rfl, h⟩
    · exact fun h => by cases h
    · refine EvP.some fun _ => ⟨by omega, fun e he => ?_⟩
      obtain ⟨j, hj, rfl⟩ := List.mem_iff_getElem.1 he
      exact h j hj (by omega)
theorem V27 (s : Shard) : EvP (fun k => F27 k s) (fun b => b = true → SmS2 s) := by
  refine EvP.bind ((V91 _).mono fun t5 h5 => EvP.bind ((EvP.opt (P := fun b => b = true → s.mDone.length ≤ 40 ∧ ∀ e ∈ s.mDone, e.mAnswer.mItems.length ≤ 100) (fun _ => T92 _) fun _ => fun h => by cases h).mono fun t9 h9 => EvP.some fun h => ?_))
  simp only [Bool.and_eq_true, ltI_iff] at h
  exact { entries := (h5 h.1.1.1).1, chains := fun e he => ((h5 h.1.1.1).2 e he).1, done := (h9 h.1.1.2).1, items := (h9 h.1.1.2).2, keys := fun e he => ((h5 h.1.1.1).2 e he).2, lo := by omega, hi := by omega }
theorem V14 (c : Cell) : EvP (fun k => F14 k c) (fun b => b = true → SmC2 c) := by
  refine EvP.cond (fun _ => EvP.some fun h => by cases h) fun hc => ?_
  rw [ltI_false] at hc
  refine EvP.go ((downTo (M := fun i => EvP (fun k => F14_l1 c k (i : Int)) fun t => t = .ret false ∨ (t = .out () ∧ ∀ j (hj : j < c.mShards.length), i ≤ j → SmS2 c.mShards[j])) c.mShards.length ?_ fun i hi ih => ?_).mono fun t ht => ?_)
  · refine EvP.succ (fun k => by rw [F14_l1]) ?_
    rw [ltI_nat, decide_eq_false (Nat.lt_irrefl _)]
    exact EvP.some (.inr ⟨rfl, fun j hj h => by omega⟩)
  · refine EvP.succ (fun k => by rw [F14_l1]) ?_
    rw [ltI_nat, decide_eq_true hi, inR_mk hi, rd_nat _ _ hi]
    refine EvP.bind ((V27 _).mono fun b hb => EvP.cond (fun _ => EvP.some (.inl rfl)) fun hcc => ?_)
    rw [i64z (by omega)]
    refine ih.mono fun t ht => ht.imp id fun ⟨h1, h2⟩ => ⟨h1, fun j hj hij => ?_⟩
    by_cases e : j = i
    · subst e; exact hb (by simpa using hcc)
    · exact h2 j hj (by omega)
  · rcases ht with rfl | ⟨rfl, h⟩
    · exact fun h => by cases h
    · refine EvP.some fun _ => ⟨by omega, fun e he => ?_⟩
      obtain ⟨j, hj, rfl⟩ := List.mem_iff_getElem.1 he
      exact h j hj (by omega)

/-! ### Shards -/
def shR (s : Shard) : Bool := oneB s.mID && oneB s.mEpoch && noB s.mHold && noB s.mSeen && noB s.mMove && noB s.mClosed && !ltI s.mPhase 1 && !ltI 3 s.mPhase && spR s.mSpan && ixR s.mEntries && stR s.mMark && stR s.mTop && dnR s.mDone && s.mEntries.all (fun e => hasR s.mSpan e.mKey)
theorem noB_eq (x : Int) : (ltI x 0 || ltI 1099511627776 x) = !noB x := by
  rw [Bool.eq_iff_iff]
  simp only [noB, Bool.or_eq_true, Bool.not_eq_true', Bool.and_eq_false_iff, ltI_iff, leI_false]
theorem V57_0 (l : List Int) (hl : l.length ≤ 1000) : Ev (fun k => F57 k 0 l) (l.all noB) := by
  have := T57 0 l hl
  simp only [noB_eq] at this
  rwa [List.not_any_eq_all_not, show (fun x => !!noB x) = noB by funext x; simp] at this
theorem V83_84 (l : List Entry) (s : Shard) (hl : l.length ≤ 1000) : Ev (fun k => F83_84 k l s) (l.any fun e => !hasR s.mSpan e.mKey) :=
  any_ev (idx_ev (f := F139_84_l1 l s) (q := fun e => !hasR s.mSpan e.mKey) (p := fun k x => F84 k x s) (by omega) (fun _ => rfl) (fun _ _ => rfl) fun x _ => Ev.bind (V61 _ _) (Ev.of fun _ => rfl))
theorem V20 (s : Shard) (h : SmS s) : Ev (fun k => F20 k s) (shR s) := by
  have he := h.entries
  have hd := h.done
  refine Ev.bind (T57_2 _ _) (Ev.bind (optv fun _ => V57_0 _ (by simp)) ?_)
  unfold shR
  simp only [List.all_cons, List.all_nil, Bool.and_true]
  generalize ha : (oneB s.mID && oneB s.mEpoch) = a
  generalize hb : (noB s.mHold && (noB s.mSeen && (noB s.mMove && noB s.mClosed))) = b
  have hab : (a && noB s.mHold && noB s.mSeen && noB s.mMove && noB s.mClosed) = (a && b) := by rw [← hb]; simp only [Bool.and_assoc]
  rw [hab]
  generalize ltI s.mPhase 1 = c; generalize ltI 3 s.mPhase = d
  refine Ev.cond (fun hc => Ev.of fun _ => ?_) fun hc => ?_
  · congr 1
    have : (a && b && !c && !d) = false := by clear ha hb hab; revert hc; revert a b c d; decide
    rw [this]; rfl
  have h4 : (a && b && !c && !d) = true := by revert hc; clear ha hb hab; revert a b c d; decide
  rw [h4]
  refine Ev.bind (V80 _) (Ev.bind (optv fun _ => V81 _ (by omega) fun e he => by have := h.chains e he; omega) (Ev.bind (optv fun _ => T36 _) (Ev.bind (optv fun _ => T36 _) (Ev.bind (optv fun _ => V82 _ (by omega)) ?_))))
  have hx : s.mEntries.all (fun e => hasR s.mSpan e.mKey) = !(s.mEntries.any fun e => !hasR s.mSpan e.mKey) := by rw [List.not_any_eq_all_not]; simp
  have h5 := V83_84 s.mEntries s (by omega)
  rw [hx]
  generalize (s.mEntries.any fun e => !hasR s.mSpan e.mKey) = z at h5 ⊢
  generalize spR s.mSpan = e1; generalize ixR s.mEntries = e2; generalize stR s.mMark = e3; generalize stR s.mTop = e4; generalize dnR s.mDone = e5
  refine Ev.cond (fun hc => Ev.of fun _ => ?_) fun hc => Ev.bind h5 (Ev.of fun _ => ?_)
  · congr 1
    clear h5
    revert hc; revert e1 e2 e3 e4 e5 z; decide
  · congr 1
    clear h5
    revert hc; revert e1 e2 e3 e4 e5 z; decide
theorem V21 (s : Shard) (h : SmS2 s) : Ev (fun k => F21 k s) (shR s) := by
  have he := h.entries
  have hd := h.done
  have hlo := h.lo
  have hhi := h.hi
  refine Ev.bind (T66 _) (Ev.bind (optv fun _ => T66 _) (Ev.bind (optv fun _ => V67 _) (Ev.bind (optv fun _ => V67 _) (Ev.bind (optv fun _ => V67 _) (Ev.bind (optv fun _ => V67 _) ?_)))))
  have hp : ((!eqI s.mPhase 1 && !eqI s.mPhase 2) && !eqI s.mPhase 3) = (ltI s.mPhase 1 || ltI 3 s.mPhase) := by
    rw [Bool.eq_iff_iff]
    simp only [Bool.and_eq_true, Bool.or_eq_true, Bool.not_eq_true', eqI_false, ltI_iff]; omega
  simp only [hp]
  unfold shR
  generalize oneB s.mID = a1; generalize oneB s.mEpoch = a2; generalize noB s.mHold = a3; generalize noB s.mSeen = a4; generalize noB s.mMove = a5; generalize noB s.mClosed = a6
  refine Ev.cond (fun hc => Ev.of fun _ => ?_) fun hc => ?_
  · congr 1
    have : (a1 && a2 && a3 && a4 && a5 && a6) = false := by revert hc; revert a1 a2 a3 a4 a5 a6; decide
    rw [this]; rfl
  have h4 : (a1 && a2 && a3 && a4 && a5 && a6) = true := by revert hc; revert a1 a2 a3 a4 a5 a6; decide
  rw [h4]
  refine Ev.bind (optv fun _ => V85 _ (by omega) (by omega)) (Ev.bind (optv fun _ => V86 _ (by omega) (fun e he => by have := h.chains e he; omega) fun e he => by have := h.keys e he; omega) (Ev.bind (optv fun _ => T68 _) (Ev.bind (optv fun _ => T68 _) (Ev.bind (optv fun _ => V87 _ (by omega)) ?_))))
  have h5 : Ev (fun k => (F21_l1 s k 0).bind fun t => t.go fun _ => some true) (s.mEntries.all (fun e => hasR s.mSpan e.mKey)) := by
    refine Ev.bind (all_ev (q := fun i => hasR s.mSpan (rd s.mEntries (i : Int)).mKey) (n := s.mEntries.length) (r := false) ?_ fun i hi v hv => ?_) ?_
    · refine Ev.from 1 fun k => ?_
      show F21_l1 s (k + 1) _ = _
      rw [F21_l1, ltI_nat, decide_eq_false (Nat.lt_irrefl _)]; rfl
    · refine Ev.succ (fun k => by rw [F21_l1]) ?_
      rw [ltI_nat, decide_eq_true hi, inR_mk hi, i64z (by omega)]
      refine Ev.bind (V88 _ _ (by have := h.keys _ (rd_mem hi); omega) (by omega) (by omega)) ?_
      cases hasR s.mSpan (rd s.mEntries (i : Int)).mKey
      · exact Ev.of fun _ => rfl
      · exact hv
    · have : s.mEntries.all (fun e => hasR s.mSpan e.mKey) = allFrom (fun i => hasR s.mSpan (rd s.mEntries (i : Int)).mKey) s.mEntries.length 0 := by
        rw [Bool.eq_iff_iff, List.all_eq_true, allFrom_iff]
        constructor
        · intro hh j _ hj; exact hh _ (rd_mem (by omega))
        · intro hh e he
          obtain ⟨j, hj, rfl⟩ := List.mem_iff_getElem.1 he
          have := hh j (by omega) (by omega)
          rwa [rd_nat _ _ hj] at this
      rw [this]
      cases allFrom (fun i => hasR s.mSpan (rd s.mEntries (i : Int)).mKey) s.mEntries.length 0 <;> exact Ev.of fun _ => rfl
  generalize s.mEntries.all (fun e => hasR s.mSpan e.mKey) = z at h5 ⊢
  generalize ltI s.mPhase 1 = c; generalize ltI 3 s.mPhase = d
  generalize spR s.mSpan = e1; generalize ixR s.mEntries = e2; generalize stR s.mMark = e3; generalize stR s.mTop = e4; generalize dnR s.mDone = e5
  refine Ev.cond (fun hc => Ev.of fun _ => ?_) fun hc => Ev.congr' h5 ?_
  · congr 1
    clear h5 hp h4
    revert hc; revert c d e1 e2 e3 e4 e5 z; decide
  · clear h5 hp h4
    revert hc; revert c d e1 e2 e3 e4 e5 z; decide

/-! ### No version later than a moment -/
theorem cmpS_le (s t : Stamp) : cmpS s t ≤ 0 ↔ ¬ befS t s := by
  unfold cmpS or3 befS
  rw [cmpI_lt, cmpI_lt, cmpI_lt]
  repeat' split
  all_goals (simp [eqI]; try omega)
def lastV (l : List Version) : Version := rd l ((l.length : Int) - 1)
def upR (s : Shard) (t : Stamp) : Bool := s.mEntries.all fun e => leI (cmpS (lastV e.mChain).mAt t) 0
theorem V90 (s : Shard) (t : Stamp) (h : SmS s) (hn : ∀ e ∈ s.mEntries, e.mChain ≠ []) : Ev (fun k => F90 k s t) (upR s t) := by
  have he := h.entries
  have h1 : Ev (fun k => F83_142 k s.mEntries t) (s.mEntries.any fun e => ltI 0 (cmpS (lastV e.mChain).mAt t)) :=
    any_ev (idx_ev (f := F139_142_l1 s.mEntries t) (q := fun e => ltI 0 (cmpS (lastV e.mChain).mAt t)) (p := fun k x => F142 k x t) (by omega) (fun _ => rfl) (fun _ _ => rfl) fun x hx => by
      have h1 := h.chains x hx
      have h2 : 0 < x.mChain.length := List.length_pos_iff.2 (hn x hx)
      unfold F142
      rw [i64z (by omega)]
      exact Ev.guard (by rw [inR_iff]; omega) (Ev.bind (T42 _ _) (Ev.of fun _ => rfl)))
  refine Ev.bind h1 (Ev.of fun _ => ?_)
  congr 1
  unfold upR
  rw [List.not_any_eq_all_not]
  congr 1
  funext e
  rw [Bool.eq_iff_iff, Bool.not_eq_true', ltI_false, leI_iff]
/-- In a right chain the last is the latest. -/
theorem chain_last (l : List Version) (h : chR l = true) (j : Nat) (hj : j < l.length) : ¬ befS (lastV l).mAt (rd l (j : Int)).mAt := by
  unfold chR at h
  rw [Bool.and_eq_true, allFrom_iff] at h
  have hs : ∀ i, 0 < i → i < l.length → befS (rd l ((i : Int) - 1)).mAt (rd l (i : Int)).mAt := fun i h0 hi => by
    have := h.2 i (by omega) (by omega)
    unfold chQ at this
    rw [Bool.and_eq_true, decide_eq_false (by omega), Bool.false_or, ltI_iff, cmpS_lt] at this
    exact this.2
  have key : ∀ n, j + n < l.length → ¬ befS (rd l ((j + n : Nat) : Int)).mAt (rd l (j : Int)).mAt := fun n => by
    induction n with
    | zero => intro _ hb; unfold befS at hb; simp only [Nat.add_zero] at hb; omega
    | succ n ih =>
      intro hn hb
      have h1 := hs (j + (n + 1)) (by omega) hn
      rw [show ((j + (n + 1) : Nat) : Int) - 1 = ((j + n : Nat) : Int) by omega] at h1
      refine ih (by omega) ?_
      unfold befS at h1 hb ⊢
      omega
  have := key (l.length - 1 - j) (by omega)
  unfold lastV
  rwa [show ((j + (l.length - 1 - j) : Nat) : Int) = (l.length : Int) - 1 by omega] at this
theorem up_chain (l : List Version) (t : Stamp) (h : chR l = true) (hn : l ≠ []) : (∀ j, j < l.length → ¬ befS t (rd l (j : Int)).mAt) ↔ leI (cmpS (lastV l).mAt t) 0 = true := by
  have hl : 0 < l.length := List.length_pos_iff.2 hn
  rw [leI_iff, cmpS_le]
  constructor
  · intro hh
    have := hh (l.length - 1) (by omega)
    unfold lastV
    rwa [show ((l.length - 1 : Nat) : Int) = (l.length : Int) - 1 by omega] at this
  · intro hh j hj hb
    have := chain_last l h j hj
    unfold befS at *
    omega
theorem V89 (s : Shard) (t : Stamp) (h : SmS s) (hr : ixR s.mEntries = true) : Ev (fun k => F89 k s t) (upR s t) := by
  have he := h.entries
  have hq : ∀ i, i < s.mEntries.length → chR (rd s.mEntries (i : Int)).mChain = true ∧ (rd s.mEntries (i : Int)).mChain ≠ [] := fun i hi => by
    unfold ixR at hr
    rw [Bool.and_eq_true, allFrom_iff] at hr
    have := hr.2 i (by omega) (by omega)
    unfold ixQ at this
    simp only [Bool.and_eq_true, Bool.not_eq_true', eqI_false] at this
    refine ⟨this.1.1.2, fun hh => ?_⟩
    rw [hh] at this
    simp at this
  have inner : ∀ i, i < s.mEntries.length → Ev (fun k => F89_l2 s t (i : Int) k 0) (if leI (cmpS (lastV (rd s.mEntries (i : Int)).mChain).mAt t) 0 = true then .out () else .ret false) := fun i hi => by
    have hc : (rd s.mEntries (i : Int)).mChain.length ≤ 80 := h.chains _ (rd_mem hi)
    have hiff := up_chain _ t (hq i hi).1 (hq i hi).2
    have h1 := all_ev (f := fun k j => F89_l2 s t (i : Int) k j) (q := fun j => !ltI (cmpS t (rd (rd s.mEntries (i : Int)).mChain (j : Int)).mAt) 0) (n := (rd s.mEntries (i : Int)).mChain.length) (r := false) (by
      refine Ev.from 1 fun k => ?_
      show F89_l2 s t (i : Int) (k + 1) _ = _
      rw [F89_l2, inR_mk hi, ltI_nat, decide_eq_false (Nat.lt_irrefl _)]; rfl) fun j hj v hv => by
        refine Ev.succ (fun k => by rw [F89_l2]) ?_
        rw [ltI_nat, decide_eq_true hj, inR_mk hi, inR_mk hj, i64z (by omega)]
        refine Ev.bind (bef_eq _ _) ?_
        cases ltI (cmpS t (rd (rd s.mEntries (i : Int)).mChain (j : Int)).mAt) 0
        · exact hv
        · exact Ev.of fun _ => rfl
    have e : allFrom (fun j => !ltI (cmpS t (rd (rd s.mEntries (i : Int)).mChain (j : Int)).mAt) 0) (rd s.mEntries (i : Int)).mChain.length 0 = leI (cmpS (lastV (rd s.mEntries (i : Int)).mChain).mAt t) 0 := by
      rw [Bool.eq_iff_iff, allFrom_iff, ← hiff]
      constructor
      · intro hh j hj hb
        have := hh j (by omega) (by omega)
        rw [Bool.not_eq_true', ltI_false] at this
        have := (cmpS_lt t _).2 hb
        omega
      · intro hh j _ hj
        rw [Bool.not_eq_true', ltI_false]
        have := hh j (by omega)
        rw [← cmpS_lt] at this
        omega
    rwa [e] at h1
  refine Ev.bind (all_ev (q := fun i => leI (cmpS (lastV (rd s.mEntries (i : Int)).mChain).mAt t) 0) (n := s.mEntries.length) (r := false) ?_ fun i hi v hv => ?_) ?_
  · refine Ev.from 1 fun k => ?_
    show F89_l1 s t (k + 1) _ = _
    rw [F89_l1, ltI_nat, decide_eq_false (Nat.lt_irrefl _)]; rfl
  · refine Ev.succ (fun k => by rw [F89_l1]) ?_
    rw [ltI_nat, decide_eq_true hi, i64z (by omega)]
    refine Ev.bind (inner i hi) ?_
    cases leI (cmpS (lastV (rd s.mEntries (i : Int)).mChain).mAt t) 0
    · exact Ev.of fun _ => rfl
    · exact hv
  · have : upR s t = allFrom (fun i => leI (cmpS (lastV (rd s.mEntries (i : Int)).mChain).mAt t) 0) s.mEntries.length 0 := by
      unfold upR
      rw [Bool.eq_iff_iff, List.all_eq_true, allFrom_iff]
      constructor
      · intro hh j _ hj; exact hh _ (rd_mem (by omega))
      · intro hh e he
        obtain ⟨j, hj, rfl⟩ := List.mem_iff_getElem.1 he
        have := hh j (by omega) (by omega)
        rwa [rd_nat _ _ hj] at this
    rw [this]
    cases allFrom (fun i => leI (cmpS (lastV (rd s.mEntries (i : Int)).mChain).mAt t) 0) s.mEntries.length 0 <;> exact Ev.of fun _ => rfl
end Go.Proofs.Gd
