/- Lemmas behind GdAgP, part 7: they hold as they stand, without a condition beyond their own. -/
import Derived.Test.YthhpelmjnmlgjaaGreatDoorAg6
set_option linter.unusedVariables false
set_option linter.unusedSimpArgs false
namespace Go.Proofs.Gd
open Go Go.Awp
def zSpan : Span := ⟨⟨#[]⟩, ⟨#[]⟩⟩
def cutS (p : Span) (x : ByteArray) : Span × Span × Int :=
  bif !(spR p && keyR x) then (zSpan, zSpan, 1) else bif (strEq x p.mLo) || (!hasR p x) then (zSpan, zSpan, 9) else ({ p with mHi := x }, { p with mLo := x }, 0)
theorem V106 (p : Span) (x : ByteArray) : Ev (fun k => F106 k p x) (cutS p x) := by
  refine Ev.bind (V80 p) (Ev.bind (optv fun _ => T122 x) ?_)
  unfold cutS
  cases spR p with
  | false => exact Ev.of fun _ => rfl
  | true =>
    cases keyR x with
    | false => exact Ev.of fun _ => rfl
    | true =>
      refine Ev.bind (optv fun _ => V61 p x) ?_
      cases strEq x p.mLo with
      | true => exact Ev.of fun _ => rfl
      | false =>
        cases hasR p x with
        | false => exact Ev.of fun _ => rfl
        | true => exact Ev.of fun _ => rfl
theorem spR_iff (p : Span) : spR p = true ↔ (p.mLo = ⟨#[]⟩ ∨ keyR p.mLo = true) ∧ (p.mHi = ⟨#[]⟩ ∨ (keyR p.mHi = true ∧ cmpK p.mLo p.mHi < 0)) := by
  unfold spR
  rw [Bool.and_eq_true, Bool.or_eq_true, Bool.or_eq_true, Bool.and_eq_true, strEq_true, strEq_true, ltI_iff]
theorem hasR_iff (p : Span) (x : ByteArray) : hasR p x = true ↔ spR p = true ∧ keyR x = true ∧ cmpK p.mLo x ≤ 0 ∧ (p.mHi = ⟨#[]⟩ ∨ cmpK x p.mHi < 0) := by
  unfold hasR
  rw [Bool.and_eq_true, Bool.and_eq_true, Bool.and_eq_true, Bool.or_eq_true, strEq_true, leI_iff, ltI_iff, and_assoc, and_assoc]
theorem cmpK_nil (x : ByteArray) (h : 0 < x.size) : cmpK ⟨#[]⟩ x = -1 := by
  unfold cmpK
  rw [runes_nil ⟨#[]⟩ rfl, runes_cons x h, cmpL]
/-- Ahead of a right key, and another: it is less. -/
theorem lo_lt {lo x : ByteArray} (h : lo = ⟨#[]⟩ ∨ keyR lo = true) (hx : keyR x = true) : cmpK lo x < 0 ↔ cmpK lo x ≤ 0 ∧ x ≠ lo := by
  constructor
  · intro h1
    exact ⟨by omega, fun e => by rw [e, cmpK_self] at h1; omega⟩
  · rintro ⟨h1, h2⟩
    rcases h with rfl | h
    · rw [cmpK_nil x (keyR_size hx).1]; omega
    · by_cases e : cmpK lo x = 0
      · exact absurd (key_inj h hx e).symm h2
      · omega
theorem cutS_ok {p : Span} {x : ByteArray} (h : (cutS p x).2.2 = 0) : spR p = true ∧ keyR x = true ∧ cmpK p.mLo x < 0 ∧ (p.mHi = ⟨#[]⟩ ∨ cmpK x p.mHi < 0) ∧ (cutS p x).1 = { p with mHi := x } ∧ (cutS p x).2.1 = { p with mLo := x } := by
  unfold cutS at h ⊢
  cases h1 : spR p && keyR x with
  | false => rw [h1] at h; cases h
  | true =>
    rw [h1] at h
    rw [Bool.and_eq_true] at h1
    simp only [Bool.not_true, cond_false] at h ⊢
    cases h2 : (strEq x p.mLo) || (!hasR p x) with
    | true => rw [h2] at h; cases h
    | false =>
      rw [Bool.or_eq_false_iff, strEq_false, Bool.not_eq_false', hasR_iff] at h2
      exact ⟨h1.1, h1.2, (lo_lt ((spR_iff p).1 h1.1).1 h1.2).2 ⟨h2.2.2.2.1, h2.1⟩, h2.2.2.2.2, rfl, rfl⟩
theorem cutS_right {p : Span} {x : ByteArray} (h : (cutS p x).2.2 = 0) : spR (cutS p x).1 = true ∧ spR (cutS p x).2.1 = true := by
  obtain ⟨h1, h2, h3, h4, h5, h6⟩ := cutS_ok h
  rw [h5, h6, spR_iff, spR_iff]
  obtain ⟨g1, g2⟩ := (spR_iff p).1 h1
  refine ⟨⟨g1, .inr ⟨h2, h3⟩⟩, ⟨.inr h2, ?_⟩⟩
  rcases g2 with g2 | g2
  · exact .inl g2
  · rcases h4 with h4 | h4
    · exact .inl h4
    · exact .inr ⟨g2.1, h4⟩
def cutN (l : List Entry) (x : ByteArray) : Nat := aheadN (fun e => ltI (cmpK e.mKey x) 0) l
theorem cutN_pos {l : List Entry} {x : ByteArray} {n : Nat} (h : PosK l x n) : cutN l x = n :=
  ahead_at _ l n h.le (fun i hi h' => ltI_iff.2 (h.lt i hi h')) fun h' => ltI_false.2 (h.ge n (Nat.le_refl _) h')
theorem V108 (l : List Entry) (x : ByteArray) (h : ixR l = true) : Ev (fun k => F108 k l x) (l.take (cutN l x), l.drop (cutN l x)) := by
  obtain ⟨hl, hm, _⟩ := (ixR_iff l).1 h
  have hc := ixR_chains h
  refine Ev.bind (V81 l (by omega) fun e he => by have := hc e he; omega) ?_
  rw [h]
  refine EvP.ev (EvP.bind ((V148 l x h).mono fun r hr => ?_))
  obtain ⟨r1, r2⟩ := r
  obtain ⟨n, e, hp, q⟩ := hr
  simp only at e q
  subst e
  have hle := hp.le
  rw [cutN_pos hp]
  refine Ev.evP (Ev.guard (cutOK_mk (by omega) (by omega) (by omega)) (Ev.bind (x := l.take n) ?_ (Ev.guard (cutOK_mk (by omega) (by omega) (by omega)) (Ev.bind (x := l.drop n) ?_ (Ev.of fun _ => rfl)))))
  · rw [Int.toNat_natCast]
    exact V149 _ (by simp; omega) fun e he => by have := hc e (List.mem_of_mem_take he); omega
  · rw [Int.toNat_natCast]
    exact V149 _ (by simp; omega) fun e he => by have := hc e (List.mem_of_mem_drop he); omega
theorem posK_cut {l : List Entry} (h : ixR l = true) (x : ByteArray) : PosK l x (cutN l x) := by
  obtain ⟨_, _, hs⟩ := (ixR_iff l).1 h
  refine ⟨ahead_le _ _, fun i hi h' => ltI_iff.1 (ahead_lt _ l i h' hi), fun i hi h' => ?_⟩
  have hn : cutN l x < l.length := by omega
  have h1 : ltI (cmpK (l[cutN l x]'hn).mKey x) 0 = false := ahead_ge (fun e : Entry => ltI (cmpK e.mKey x) 0) l hn
  rw [ltI_false] at h1
  by_cases e : i = cutN l x
  · subst e; exact h1
  · rw [List.pairwise_iff_getElem] at hs
    have h2 := hs (cutN l x) i hn h' (by omega)
    apply Classical.byContradiction
    intro h3
    have := cmpK_trans h2 (by omega : cmpK l[i].mKey x < 0)
    omega
theorem ixR_sub {l m : List Entry} (h : ixR l = true) (hs : m.Sublist l) : ixR m = true := by
  rw [ixR_iff] at *
  exact ⟨Nat.le_trans hs.length_le h.1, fun v hv => h.2.1 v (hs.subset hv), h.2.2.sublist hs⟩
theorem cut_lo {l : List Entry} (h : ixR l = true) (x : ByteArray) : ∀ e ∈ l.take (cutN l x), e ∈ l ∧ cmpK e.mKey x < 0 := fun e he => by
  obtain ⟨j, hj, rfl⟩ := List.mem_iff_getElem.1 he
  rw [List.length_take] at hj
  rw [List.getElem_take]
  exact ⟨List.getElem_mem _, (posK_cut h x).lt j (by omega) (by omega)⟩
theorem cut_hi {l : List Entry} (h : ixR l = true) (x : ByteArray) : ∀ e ∈ l.drop (cutN l x), e ∈ l ∧ 0 ≤ cmpK e.mKey x := fun e he => by
  obtain ⟨j, hj, rfl⟩ := List.mem_iff_getElem.1 he
  rw [List.length_drop] at hj
  rw [List.getElem_drop]
  exact ⟨List.getElem_mem _, (posK_cut h x).ge _ (by omega) (by omega)⟩
def joinS (p q : Span) : Span × Int :=
  bif !(spR p && spR q) then (zSpan, 1) else bif (strEq p.mHi ⟨#[]⟩) || (!strEq p.mHi q.mLo) then (zSpan, 9) else ({ p with mHi := q.mHi }, 0)
theorem V112 (p q : Span) : Ev (fun k => F112 k p q) (joinS p q) := by
  refine Ev.bind (V80 p) (Ev.bind (optv fun _ => V80 q) ?_)
  unfold joinS
  cases spR p with
  | false => exact Ev.of fun _ => rfl
  | true =>
    cases spR q with
    | false => exact Ev.of fun _ => rfl
    | true => exact Ev.bif (c := (strEq p.mHi ⟨#[]⟩) || (!strEq p.mHi q.mLo)) (fun _ => Ev.of fun _ => rfl) fun _ => Ev.of fun _ => rfl
theorem joinS_ok {p q : Span} (h : (joinS p q).2 = 0) : spR p = true ∧ spR q = true ∧ p.mHi ≠ ⟨#[]⟩ ∧ p.mHi = q.mLo ∧ (joinS p q).1 = { p with mHi := q.mHi } := by
  unfold joinS at h ⊢
  cases h1 : spR p && spR q with
  | false => rw [h1] at h; cases h
  | true =>
    rw [h1] at h
    rw [Bool.and_eq_true] at h1
    simp only [Bool.not_true, cond_false] at h ⊢
    cases h2 : (strEq p.mHi ⟨#[]⟩) || (!strEq p.mHi q.mLo) with
    | true => rw [h2] at h; cases h
    | false =>
      rw [Bool.or_eq_false_iff, strEq_false, Bool.not_eq_false', strEq_true] at h2
      exact ⟨h1.1, h1.2, h2.1, h2.2, rfl⟩
theorem joinS_right {p q : Span} (h : (joinS p q).2 = 0) : spR (joinS p q).1 = true := by
  obtain ⟨h1, h2, h3, h4, h5⟩ := joinS_ok h
  obtain ⟨g1, g2⟩ := (spR_iff p).1 h1
  obtain ⟨g3, g4⟩ := (spR_iff q).1 h2
  rw [h5, spR_iff]
  refine ⟨g1, ?_⟩
  rcases g4 with g4 | g4
  · exact .inl g4
  · rcases g2 with g2 | g2
    · exact absurd g2 h3
    · exact .inr ⟨g4.1, cmpK_trans (b := p.mHi) g2.2 (by rw [h4]; exact g4.2)⟩
/-- What one of two spans has, the two of them have. -/
theorem joinS_has {p q : Span} (h : (joinS p q).2 = 0) {x : ByteArray} (hx : hasR p x = true ∨ hasR q x = true) : hasR (joinS p q).1 x = true := by
  have hr := joinS_right h
  obtain ⟨h1, h2, h3, h4, h5⟩ := joinS_ok h
  obtain ⟨g1, g2⟩ := (spR_iff p).1 h1
  obtain ⟨g3, g4⟩ := (spR_iff q).1 h2
  have g2 : keyR p.mHi = true ∧ cmpK p.mLo p.mHi < 0 := by
    rcases g2 with g2 | g2
    · exact absurd g2 h3
    · exact g2
  rw [hasR_iff]
  refine ⟨hr, ?_⟩
  rw [h5]
  rcases hx with hx | hx
  · rw [hasR_iff] at hx
    obtain ⟨_, x1, x2, x3⟩ := hx
    refine ⟨x1, x2, ?_⟩
    rcases g4 with g4 | g4
    · exact .inl g4
    · rcases x3 with x3 | x3
      · exact absurd x3 h3
      · exact .inr (cmpK_trans (b := p.mHi) x3 (by rw [h4]; exact g4.2))
  · rw [hasR_iff] at hx
    obtain ⟨_, x1, x2, x3⟩ := hx
    refine ⟨x1, ?_, x3⟩
    have := cmpK_trans2 (a := p.mLo) (b := p.mHi) (c := x) g2.2 (by rw [h4]; exact x2)
    show cmpK p.mLo x ≤ 0
    omega
def joinE (l m : List Entry) : List Entry × Int :=
  bif !(ixR l && ixR m) then ([], 1) else bif ((ltI 0 (l.length : Int)) && (ltI 0 (m.length : Int))) && leI 0 (cmpK (rd l ((l.length : Int) - 1)).mKey (rd m 0).mKey) then ([], 9) else bif ltI 64 ((l.length : Int) + (m.length : Int)) then ([], 6) else (l ++ m, 0)
theorem V113 (l m : List Entry) (hl : l.length ≤ 1000) (hc : ∀ e ∈ l, e.mChain.length ≤ 1000) (hm : m.length ≤ 1000) (hd : ∀ e ∈ m, e.mChain.length ≤ 1000) : Ev (fun k => F113 k l m) (joinE l m) := by
  refine Ev.bind (V81 l hl hc) (Ev.bind (optv fun _ => V81 m hm hd) ?_)
  unfold joinE
  cases ixR l with
  | false => exact Ev.of fun _ => rfl
  | true =>
    cases ixR m with
    | false => exact Ev.of fun _ => rfl
    | true =>
      rw [i64z (by omega)]
      simp only [Bool.not_true, Bool.not_false, cond_true, cond_false, Bool.or_false, Bool.and_true]
      refine Ev.guard ?_ (Ev.guard ?_ (Ev.bind (optv fun _ => V124 _ _) ?_))
      · rw [Bool.or_eq_true, Bool.not_eq_true', Bool.and_eq_false_iff, ltI_false, ltI_false, inR_iff]; omega
      · rw [Bool.or_eq_true, Bool.not_eq_true', Bool.and_eq_false_iff, ltI_false, ltI_false, inR_iff]; omega
      · have e : (((ltI 0 (l.length : Int)) && (ltI 0 (m.length : Int))) && leI 0 (bif ((ltI 0 (l.length : Int)) && (ltI 0 (m.length : Int))) then cmpK (rd l ((l.length : Int) - 1)).mKey (rd m 0).mKey else default)) = (((ltI 0 (l.length : Int)) && (ltI 0 (m.length : Int))) && leI 0 (cmpK (rd l ((l.length : Int) - 1)).mKey (rd m 0).mKey)) := by
          cases ((ltI 0 (l.length : Int)) && (ltI 0 (m.length : Int))) <;> rfl
        rw [e]
        refine Ev.bif (fun _ => Ev.of fun _ => rfl) fun _ => ?_
        unfold bnd
        rw [i64z (by omega)]
        exact Ev.bif (fun _ => Ev.of fun _ => rfl) fun _ => Ev.bind (V149o l hl hc) (Ev.bind (V149 m hm hd) (Ev.guard (appOK_mk (by omega) (by omega)) (Ev.of fun _ => rfl)))
theorem joinE_ok {l m : List Entry} (h : (joinE l m).2 = 0) : ixR l = true ∧ ixR m = true ∧ (∀ a ∈ l, ∀ b ∈ m, cmpK a.mKey b.mKey < 0) ∧ l.length + m.length ≤ 64 ∧ (joinE l m).1 = l ++ m := by
  unfold joinE at h ⊢
  cases h1 : ixR l && ixR m with
  | false => rw [h1] at h; cases h
  | true =>
    rw [h1] at h
    rw [Bool.and_eq_true] at h1
    simp only [Bool.not_true, cond_false] at h ⊢
    cases h2 : ((ltI 0 (l.length : Int)) && (ltI 0 (m.length : Int))) && leI 0 (cmpK (rd l ((l.length : Int) - 1)).mKey (rd m 0).mKey) with
    | true => rw [h2] at h; cases h
    | false =>
      rw [h2] at h
      simp only [cond_false] at h ⊢
      cases h3 : ltI 64 ((l.length : Int) + (m.length : Int)) with
      | true => rw [h3] at h; cases h
      | false =>
        rw [ltI_false] at h3
        refine ⟨h1.1, h1.2, fun a ha b hb => ?_, by omega, rfl⟩
        obtain ⟨i, hi, rfl⟩ := List.mem_iff_getElem.1 ha
        obtain ⟨j, hj, rfl⟩ := List.mem_iff_getElem.1 hb
        have e1 : ltI 0 (l.length : Int) = true := by rw [ltI_iff]; omega
        have e2 : ltI 0 (m.length : Int) = true := by rw [ltI_iff]; omega
        rw [e1, e2, Bool.true_and, Bool.true_and, leI_false, show (l.length : Int) - 1 = ((l.length - 1 : Nat) : Int) by omega, rd_nat _ _ (by omega), show (0 : Int) = ((0 : Nat) : Int) from rfl, rd_nat _ _ (by omega)] at h2
        have hs := ((ixR_iff l).1 h1.1).2.2
        have hs' := ((ixR_iff m).1 h1.2).2.2
        rw [List.pairwise_iff_getElem] at hs hs'
        have a1 : cmpK l[i].mKey (m[0]'(by omega)).mKey < 0 := by
          by_cases e : i = l.length - 1
          · subst e; exact h2
          · exact cmpK_trans (hs i (l.length - 1) hi (by omega) (by omega)) h2
        by_cases e : j = 0
        · subst e; exact a1
        · exact cmpK_trans a1 (hs' 0 j (by omega) hj (by omega))
theorem joinE_right {l m : List Entry} (h : (joinE l m).2 = 0) : ixR (joinE l m).1 = true := by
  obtain ⟨h1, h2, h3, h4, h5⟩ := joinE_ok h
  rw [h5]
  rw [ixR_iff] at *
  refine ⟨by simp; omega, fun e he => ?_, ?_⟩
  · rw [List.mem_append] at he
    rcases he with he | he
    · exact h1.2.1 e he
    · exact h2.2.1 e he
  · rw [List.pairwise_append]
    exact ⟨h1.2.2, h2.2.2, h3⟩
def zipD : List Done → List Done → List Done
  | [], b => b
  | a, [] => a
  | x :: a, y :: b => if x.mClient < y.mClient then x :: zipD a (y :: b) else if y.mClient < x.mClient then y :: zipD (x :: a) b else if y.mReq ≤ x.mReq then x :: zipD a b else y :: zipD a b
termination_by a b => a.length + b.length
theorem zipD_nil (b : List Done) : zipD [] b = b := by rw [zipD]
theorem zipD_nil' (a : List Done) : zipD a [] = a := by cases a <;> simp [zipD]
theorem zipD_cons (x y : Done) (a b : List Done) : zipD (x :: a) (y :: b) = if x.mClient < y.mClient then x :: zipD a (y :: b) else if y.mClient < x.mClient then y :: zipD (x :: a) b else if y.mReq ≤ x.mReq then x :: zipD a b else y :: zipD a b := by rw [zipD]
theorem V114_l1 : ∀ (n : Nat) (a b t : List Done), a.length + b.length ≤ n → (t.length + a.length + b.length) ≤ 1000 → Ev (fun k => F114_l1 k (a, b, t)) (t ++ zipD a b)
  | n, [], [], t, _, _ => by
    refine Ev.from 1 fun k => ?_
    show F114_l1 (k + 1) _ = _
    rw [F114_l1, zipD_nil]
    simp [ltI]
  | 0, x :: a, b, t, h, _ => by simp at h
  | 0, [], y :: b, t, h, _ => by simp at h
  | n + 1, x :: a, [], t, h, ht => by
    have ih := V114_l1 n a [] (t ++ [x]) (by simp at h ⊢; omega) (by simp at ht ⊢; omega)
    rw [zipD_nil', List.append_assoc] at ih
    rw [zipD_nil']
    simp only [List.length_cons, List.length_nil] at h ht
    refine Ev.succ (fun k => by rw [F114_l1]) ?_
    have e1 : ltI 0 ((x :: a).length : Int) = true := by rw [ltI_iff, List.length_cons]; omega
    have e2 : inR 0 (x :: a).length = true := by rw [inR_iff, List.length_cons]; omega
    have e3 : eqI (([] : List Done).length : Int) 0 = true := rfl
    have ca : cutOK 1 ((x :: a).length : Int) (x :: a).length = true := cutOK_mk (by omega) (by simp only [List.length_cons]; omega) (by omega)
    have ap : appOK 120 t.length [rd (x :: a) 0].length = true := appOK_mk (by simp; omega) (by simp; omega)
    rw [e1, e2, e3, ca, ap]
    simp only [Bool.true_or, Bool.true_and, Bool.not_false, Bool.not_true, Bool.false_and, Bool.or_true, cond_true, Bool.false_or]
    exact ih
  | n + 1, [], y :: b, t, h, ht => by
    have ih := V114_l1 n [] b (t ++ [y]) (by simp at h ⊢; omega) (by simp at ht ⊢; omega)
    rw [zipD_nil, List.append_assoc] at ih
    rw [zipD_nil]
    simp only [List.length_cons, List.length_nil] at h ht
    refine Ev.succ (fun k => by rw [F114_l1]) ?_
    have e1 : ltI 0 ((y :: b).length : Int) = true := by rw [ltI_iff, List.length_cons]; omega
    have e2 : inR 0 (y :: b).length = true := by rw [inR_iff, List.length_cons]; omega
    have e3 : eqI ((y :: b).length : Int) 0 = false := by rw [eqI_false, List.length_cons]; omega
    have e4 : eqI (([] : List Done).length : Int) 0 = true := rfl
    have e5 : ltI 0 (([] : List Done).length : Int) = false := rfl
    have cb : cutOK 1 ((y :: b).length : Int) (y :: b).length = true := cutOK_mk (by omega) (by simp only [List.length_cons]; omega) (by omega)
    have ap : appOK 120 t.length [rd (y :: b) 0].length = true := appOK_mk (by simp; omega) (by simp; omega)
    rw [e1, e2, e3, e4, e5, cb, ap]
    simp only [Bool.true_or, Bool.true_and, Bool.and_true, Bool.and_false, Bool.not_false, Bool.not_true, Bool.false_and, Bool.or_true, cond_true, cond_false, Bool.false_or]
    exact ih
  | n + 1, x :: a, y :: b, t, h, ht => by
    simp only [List.length_cons] at h ht
    have i1 := V114_l1 n a (y :: b) (t ++ [x]) (by simp; omega) (by simp; omega)
    have i2 := V114_l1 n (x :: a) b (t ++ [y]) (by simp; omega) (by simp; omega)
    have i3 := V114_l1 n a b (t ++ [x]) (by omega) (by simp; omega)
    have i4 := V114_l1 n a b (t ++ [y]) (by omega) (by simp; omega)
    rw [List.append_assoc] at i1 i2 i3 i4
    rw [zipD_cons]
    refine Ev.succ (fun k => by rw [F114_l1]) ?_
    have e1 : ltI 0 ((x :: a).length : Int) = true := by rw [ltI_iff, List.length_cons]; omega
    have e2 : inR 0 (x :: a).length = true := by rw [inR_iff, List.length_cons]; omega
    have e3 : eqI ((x :: a).length : Int) 0 = false := by rw [eqI_false, List.length_cons]; omega
    have f1 : ltI 0 ((y :: b).length : Int) = true := by rw [ltI_iff, List.length_cons]; omega
    have f2 : inR 0 (y :: b).length = true := by rw [inR_iff, List.length_cons]; omega
    have f3 : eqI ((y :: b).length : Int) 0 = false := by rw [eqI_false, List.length_cons]; omega
    have r1 : rd (x :: a) 0 = x := rfl
    have r2 : rd (y :: b) 0 = y := rfl
    have ca : cutOK 1 ((x :: a).length : Int) (x :: a).length = true := cutOK_mk (by omega) (by simp only [List.length_cons]; omega) (by omega)
    have cb : cutOK 1 ((y :: b).length : Int) (y :: b).length = true := cutOK_mk (by omega) (by simp only [List.length_cons]; omega) (by omega)
    have ap : ∀ z : Done, appOK 120 t.length [z].length = true := fun z => appOK_mk (by simp; omega) (by simp; omega)
    rw [e1, e2, e3, f1, f2, f3, r1, r2, ca, cb, ap, ap]
    simp only [Bool.true_or, Bool.true_and, Bool.not_false, Bool.or_true, cond_true, Bool.false_or]
    by_cases c1 : x.mClient < y.mClient
    · rw [if_pos c1, ltI_iff.2 c1]; exact i1
    · rw [if_neg c1, ltI_false.2 (by omega)]
      by_cases c2 : y.mClient < x.mClient
      · rw [if_pos c2, ltI_iff.2 c2]; exact i2
      · rw [if_neg c2, ltI_false.2 (by omega)]
        by_cases c3 : y.mReq ≤ x.mReq
        · rw [if_pos c3, leI_iff.2 c3]; exact i3
        · rw [if_neg c3, leI_false.2 (by omega)]; exact i4
def mergeD (a b : List Done) : List Done × Int := bif !(dnR a && dnR b) then ([], 1) else bif ltI 8 ((zipD a b).length : Int) then ([], 6) else (zipD a b, 0)
theorem V114 (a b : List Done) (ha : a.length ≤ 400) (hb : b.length ≤ 400) : Ev (fun k => F114 k a b) (mergeD a b) := by
  refine Ev.bind (V82 a (by omega)) (Ev.bind (optv fun _ => V82 b (by omega)) ?_)
  unfold mergeD
  cases dnR a with
  | false => exact Ev.of fun _ => rfl
  | true =>
    cases dnR b with
    | false => exact Ev.of fun _ => rfl
    | true => exact Ev.bind (V114_l1 _ a b [] (Nat.le_refl _) (by simp; omega)) (Ev.bif (fun _ => Ev.of fun _ => rfl) fun _ => Ev.of fun _ => rfl)
/-- Whose rows the merged table has. -/
theorem zipD_mem : ∀ (n : Nat) (a b : List Done), a.length + b.length ≤ n → SortD a → SortD b → ∀ z, z ∈ zipD a b ↔ (z ∈ a ∧ ∀ y ∈ b, y.mClient = z.mClient → y.mReq ≤ z.mReq) ∨ (z ∈ b ∧ ∀ x ∈ a, x.mClient = z.mClient → x.mReq < z.mReq)
  | n, [], b, _, _, _, z => by rw [zipD_nil]; simp
  | n, x :: a, [], _, _, _, z => by rw [zipD_nil']; simp
  | 0, x :: a, y :: b, h, _, _, z => by simp at h
  | n + 1, x :: a, y :: b, h, ha, hb, z => by
    have ha' := List.pairwise_cons.1 ha
    have hb' := List.pairwise_cons.1 hb
    simp only [List.length_cons] at h
    rw [zipD_cons]
    have noA : ∀ w ∈ y :: b, x.mClient < y.mClient → x.mClient < w.mClient := fun w hw hlt => by
      rw [List.mem_cons] at hw
      rcases hw with rfl | hw
      · exact hlt
      · have := hb'.1 w hw; omega
    have noB' : ∀ w ∈ x :: a, y.mClient < x.mClient → y.mClient < w.mClient := fun w hw hlt => by
      rw [List.mem_cons] at hw
      rcases hw with rfl | hw
      · exact hlt
      · have := ha'.1 w hw; omega
    by_cases c1 : x.mClient < y.mClient
    · rw [if_pos c1, List.mem_cons, zipD_mem n a (y :: b) (by simp; omega) ha'.2 hb]
      constructor
      · rintro (rfl | ⟨h1, h2⟩ | ⟨h1, h2⟩)
        · exact .inl ⟨by simp, fun w hw he => by have := noA w hw c1; omega⟩
        · exact .inl ⟨by simp [h1], h2⟩
        · refine .inr ⟨h1, fun w hw he => ?_⟩
          rw [List.mem_cons] at hw
          rcases hw with rfl | hw
          · have := noA z h1 c1; omega
          · exact h2 w hw he
      · rintro (⟨h1, h2⟩ | ⟨h1, h2⟩)
        · rw [List.mem_cons] at h1
          rcases h1 with rfl | h1
          · exact .inl rfl
          · exact .inr (.inl ⟨h1, h2⟩)
        · exact .inr (.inr ⟨h1, fun w hw he => h2 w (by simp [hw]) he⟩)
    · rw [if_neg c1]
      by_cases c2 : y.mClient < x.mClient
      · rw [if_pos c2, List.mem_cons, zipD_mem n (x :: a) b (by simp; omega) ha hb'.2]
        constructor
        · rintro (rfl | ⟨h1, h2⟩ | ⟨h1, h2⟩)
          · exact .inr ⟨by simp, fun w hw he => by have := noB' w hw c2; omega⟩
          · refine .inl ⟨h1, fun w hw he => ?_⟩
            rw [List.mem_cons] at hw
            rcases hw with rfl | hw
            · have := noB' z h1 c2; omega
            · exact h2 w hw he
          · exact .inr ⟨by simp [h1], h2⟩
        · rintro (⟨h1, h2⟩ | ⟨h1, h2⟩)
          · exact .inr (.inl ⟨h1, fun w hw he => h2 w (by simp [hw]) he⟩)
          · rw [List.mem_cons] at h1
            rcases h1 with rfl | h1
            · exact .inl rfl
            · exact .inr (.inr ⟨h1, h2⟩)
      · rw [if_neg c2]
        have ec : x.mClient = y.mClient := by omega
        have ih := zipD_mem n a b (by omega) ha'.2 hb'.2 z
        by_cases c3 : y.mReq ≤ x.mReq
        · rw [if_pos c3, List.mem_cons, ih]
          constructor
          · rintro (rfl | ⟨h1, h2⟩ | ⟨h1, h2⟩)
            · refine .inl ⟨by simp, fun w hw he => ?_⟩
              rw [List.mem_cons] at hw
              rcases hw with rfl | hw
              · exact c3
              · have := hb'.1 w hw; omega
            · refine .inl ⟨by simp [h1], fun w hw he => ?_⟩
              rw [List.mem_cons] at hw
              rcases hw with rfl | hw
              · have := ha'.1 z h1; omega
              · exact h2 w hw he
            · refine .inr ⟨by simp [h1], fun w hw he => ?_⟩
              rw [List.mem_cons] at hw
              rcases hw with rfl | hw
              · have := hb'.1 z h1; omega
              · exact h2 w hw he
          · rintro (⟨h1, h2⟩ | ⟨h1, h2⟩)
            · rw [List.mem_cons] at h1
              rcases h1 with rfl | h1
              · exact .inl rfl
              · exact .inr (.inl ⟨h1, fun w hw he => h2 w (by simp [hw]) he⟩)
            · rw [List.mem_cons] at h1
              rcases h1 with rfl | h1
              · have := h2 x (by simp) ec; omega
              · exact .inr (.inr ⟨h1, fun w hw he => h2 w (by simp [hw]) he⟩)
        · rw [if_neg c3, List.mem_cons, ih]
          constructor
          · rintro (rfl | ⟨h1, h2⟩ | ⟨h1, h2⟩)
            · refine .inr ⟨by simp, fun w hw he => ?_⟩
              rw [List.mem_cons] at hw
              rcases hw with rfl | hw
              · omega
              · have := ha'.1 w hw; omega
            · refine .inl ⟨by simp [h1], fun w hw he => ?_⟩
              rw [List.mem_cons] at hw
              rcases hw with rfl | hw
              · have := ha'.1 z h1; omega
              · exact h2 w hw he
            · refine .inr ⟨by simp [h1], fun w hw he => ?_⟩
              rw [List.mem_cons] at hw
              rcases hw with rfl | hw
              · have := hb'.1 z h1; omega
              · exact h2 w hw he
          · rintro (⟨h1, h2⟩ | ⟨h1, h2⟩)
            · rw [List.mem_cons] at h1
              rcases h1 with rfl | h1
              · have := h2 y (by simp) ec.symm; omega
              · exact .inr (.inl ⟨h1, fun w hw he => h2 w (by simp [hw]) he⟩)
            · rw [List.mem_cons] at h1
              rcases h1 with rfl | h1
              · exact .inl rfl
              · exact .inr (.inr ⟨h1, fun w hw he => h2 w (by simp [hw]) he⟩)
theorem zipD_sort : ∀ (n : Nat) (a b : List Done), a.length + b.length ≤ n → SortD a → SortD b → SortD (zipD a b)
  | n, [], b, _, _, hb => by rw [zipD_nil]; exact hb
  | n, x :: a, [], _, ha, _ => by rw [zipD_nil']; exact ha
  | 0, x :: a, y :: b, h, _, _ => by simp at h
  | n + 1, x :: a, y :: b, h, ha, hb => by
    have ha' := List.pairwise_cons.1 ha
    have hb' := List.pairwise_cons.1 hb
    simp only [List.length_cons] at h
    rw [zipD_cons]
    have hm : ∀ {a b : List Done}, SortD a → SortD b → ∀ z ∈ zipD a b, z ∈ a ∨ z ∈ b := fun ha hb z hz => by
      rcases (zipD_mem _ _ _ (Nat.le_refl _) ha hb z).1 hz with h | h
      · exact .inl h.1
      · exact .inr h.1
    by_cases c1 : x.mClient < y.mClient
    · rw [if_pos c1]
      refine List.pairwise_cons.2 ⟨fun z hz => ?_, zipD_sort n a (y :: b) (by simp; omega) ha'.2 hb⟩
      rcases hm ha'.2 hb z hz with h | h
      · exact ha'.1 z h
      · rw [List.mem_cons] at h
        rcases h with rfl | h
        · exact c1
        · have := hb'.1 z h; omega
    · rw [if_neg c1]
      by_cases c2 : y.mClient < x.mClient
      · rw [if_pos c2]
        refine List.pairwise_cons.2 ⟨fun z hz => ?_, zipD_sort n (x :: a) b (by simp; omega) ha hb'.2⟩
        rcases hm ha hb'.2 z hz with h | h
        · rw [List.mem_cons] at h
          rcases h with rfl | h
          · exact c2
          · have := ha'.1 z h; omega
        · exact hb'.1 z h
      · rw [if_neg c2]
        have ih := zipD_sort n a b (by omega) ha'.2 hb'.2
        split
        · refine List.pairwise_cons.2 ⟨fun z hz => ?_, ih⟩
          rcases hm ha'.2 hb'.2 z hz with h | h
          · exact ha'.1 z h
          · have := hb'.1 z h; omega
        · refine List.pairwise_cons.2 ⟨fun z hz => ?_, ih⟩
          rcases hm ha'.2 hb'.2 z hz with h | h
          · have := ha'.1 z h; omega
          · exact hb'.1 z h
theorem mergeD_ok {a b : List Done} (h : (mergeD a b).2 = 0) : dnR a = true ∧ dnR b = true ∧ (mergeD a b).1 = zipD a b ∧ (zipD a b).length ≤ 8 := by
  unfold mergeD at h ⊢
  cases h1 : dnR a && dnR b with
  | false => rw [h1] at h; cases h
  | true =>
    rw [h1] at h
    rw [Bool.and_eq_true] at h1
    simp only [Bool.not_true, cond_false] at h ⊢
    cases h2 : ltI 8 ((zipD a b).length : Int) with
    | true => rw [h2] at h; cases h
    | false => rw [ltI_false] at h2; exact ⟨h1.1, h1.2, rfl, by omega⟩
theorem mergeD_right {a b : List Done} (h : (mergeD a b).2 = 0) : dnR (mergeD a b).1 = true := by
  obtain ⟨h1, h2, h3, h4⟩ := mergeD_ok h
  rw [h3]
  rw [dnR_iff] at *
  refine ⟨h4, fun z hz => ?_, zipD_sort _ a b (Nat.le_refl _) h1.2.2 h2.2.2⟩
  rcases (zipD_mem _ a b (Nat.le_refl _) h1.2.2 h2.2.2 z).1 hz with h | h
  · exact h1.2.1 z h.1
  · exact h2.2.1 z h.1
end Go.Proofs.Gd
set_option linter.unusedVariables false
set_option linter.unusedSimpArgs false
namespace Go.Proofs.Gd
open Go Go.Awp
def openB (s : Shard) (ep : Int) : Bool := (((!eqI s.mID 0) && (eqI s.mEpoch ep)) && (eqI s.mPhase 1)) && (eqI s.mHold 0)
def loS (a : Shard) (x : ByteArray) (nx : Int) : Shard := { a with mEpoch := nx, mSpan := (cutS a.mSpan x).1, mEntries := a.mEntries.take (cutN a.mEntries x) }
def hiS (a : Shard) (x : ByteArray) (o nx : Int) : Shard := { a with mID := o, mEpoch := nx, mSpan := (cutS a.mSpan x).2.1, mEntries := a.mEntries.drop (cutN a.mEntries x) }
def splitP (c : Cell) (id ep : Int) (x : ByteArray) (o nx : Int) : Cell × Bool :=
  bif !(cR c && (oneB id && oneB ep && oneB o && oneB nx)) then (c, false) else
    bif ((((!eqI (getS c id).mID 0) && (eqI (getS c id).mEpoch nx)) && (strEq (getS c id).mSpan.mHi x)) && (!eqI (getS c o).mID 0)) && (eqI (getS c o).mEpoch nx) then (c, true) else
      bif (((((!openB (getS c id) ep) || (leI nx ep)) || (leI nx (getS c id).mClosed)) || (!eqI (getS c o).mID 0)) || (eqI (c.mShards.length : Int) 8)) || (!eqI (cutS (getS c id).mSpan x).2.2 0) then (c, false) else
        (putC (putC c (loS (getS c id) x nx)) (hiS (getS c id) x o nx), true)
theorem openB_iff {s : Shard} {ep : Int} : openB s ep = true ↔ s.mID ≠ 0 ∧ s.mEpoch = ep ∧ s.mPhase = 1 ∧ s.mHold = 0 := by
  unfold openB
  simp only [Bool.and_eq_true, Bool.not_eq_true', eqI_false, eqI_iff, and_assoc]
theorem loS_right {a : Shard} {x : ByteArray} {nx : Int} {t : Stamp} (h : shR a = true) (hu : upR a t = true) (hn : oneB nx = true) (hc : (cutS a.mSpan x).2.2 = 0) : shR (loS a x nx) = true ∧ upR (loS a x nx) t = true := by
  obtain ⟨h1, h2, h3, h4, h5, h6, h7⟩ := (shR_iff a).1 h
  obtain ⟨k1, k2, k3, k4, k5, k6⟩ := cutS_ok hc
  have hr := (cutS_right hc).1
  constructor
  · rw [shR_iff]
    refine ⟨?_, hr, ixR_sub h3 (List.take_sublist _ _), h4, h5, h6, fun e he => ?_⟩
    · rw [oneB_iff] at hn
      have := shH_iff.1 h1
      rw [shH_iff]; simp only [loS]; omega
    · obtain ⟨e1, e2⟩ := cut_lo h3 x e he
      obtain ⟨_, g2, g3, _⟩ := (hasR_iff _ _).1 (h7 e e1)
      rw [hasR_iff]
      show spR (cutS a.mSpan x).1 = true ∧ keyR e.mKey = true ∧ cmpK (cutS a.mSpan x).1.mLo e.mKey ≤ 0 ∧ ((cutS a.mSpan x).1.mHi = ⟨#[]⟩ ∨ cmpK e.mKey (cutS a.mSpan x).1.mHi < 0)
      refine ⟨hr, g2, ?_, .inr ?_⟩
      · rw [k5]; exact g3
      · rw [k5]; exact e2
  · rw [upR_iff] at *
    exact fun e he => hu e (cut_lo h3 x e he).1
theorem hiS_right {a : Shard} {x : ByteArray} {o nx : Int} {t : Stamp} (h : shR a = true) (hu : upR a t = true) (ho : oneB o = true) (hn : oneB nx = true) (hc : (cutS a.mSpan x).2.2 = 0) : shR (hiS a x o nx) = true ∧ upR (hiS a x o nx) t = true := by
  obtain ⟨h1, h2, h3, h4, h5, h6, h7⟩ := (shR_iff a).1 h
  obtain ⟨k1, k2, k3, k4, k5, k6⟩ := cutS_ok hc
  have hr := (cutS_right hc).2
  constructor
  · rw [shR_iff]
    refine ⟨?_, hr, ixR_sub h3 (List.drop_sublist _ _), h4, h5, h6, fun e he => ?_⟩
    · rw [oneB_iff] at hn ho
      have := shH_iff.1 h1
      rw [shH_iff]; simp only [hiS]; omega
    · obtain ⟨e1, e2⟩ := cut_hi h3 x e he
      obtain ⟨_, g2, _, g4⟩ := (hasR_iff _ _).1 (h7 e e1)
      have ha := cmpK_anti e.mKey x
      rw [hasR_iff]
      show spR (cutS a.mSpan x).2.1 = true ∧ keyR e.mKey = true ∧ cmpK (cutS a.mSpan x).2.1.mLo e.mKey ≤ 0 ∧ ((cutS a.mSpan x).2.1.mHi = ⟨#[]⟩ ∨ cmpK e.mKey (cutS a.mSpan x).2.1.mHi < 0)
      refine ⟨hr, g2, ?_, ?_⟩
      · rw [k6]; show cmpK x e.mKey ≤ 0; omega
      · rw [k6]; exact g4
  · rw [upR_iff] at *
    exact fun e he => hu e (cut_hi h3 x e he).1
theorem split_right {c : Cell} (hc : cR c = true) {id o nx : Int} {x : ByteArray} (h0 : (getS c id).mID ≠ 0) (ho : oneB o = true) (hn : oneB nx = true) (hb : (getS c o).mID = 0) (h8 : c.mShards.length ≠ 8) (hk : (cutS (getS c id).mSpan x).2.2 = 0) :
    cR (putC c (loS (getS c id) x nx)) = true ∧ cR (putC (putC c (loS (getS c id) x nx)) (hiS (getS c id) x o nx)) = true := by
  obtain ⟨g1, g2⟩ := getS_right hc h0
  have hin := getS_in hc h0
  obtain ⟨l1, l2⟩ := loS_right g1 g2 hn hk
  obtain ⟨r1, r2⟩ := hiS_right (o := o) g1 g2 ho hn hk
  have q1 := cR_put hc l1 l2 (.inl ⟨_, hin.1, rfl⟩)
  have hl := ((cR_iff c).1 hc)
  refine ⟨q1, cR_put q1 r1 r2 (.inr ?_)⟩
  show (putL c.mShards (loS (getS c id) x nx)).length ≤ 7
  rw [putL_len_in (s := loS (getS c id) x nx) hl.2.2.2.2 ⟨_, hin.1, rfl⟩]
  omega
theorem V48 (c : Cell) (id ep : Int) (x : ByteArray) (o nx : Int) (h : SmC c) : Ev (fun k => F48 k c id ep x o nx) (splitP c id ep x o nx) := by
  refine Ev.bind (V25 c h) (Ev.bind (optv fun _ => T57_4 _ _ _ _) ?_)
  unfold splitP
  cases hc : cR c with
  | false => exact Ev.of fun _ => rfl
  | true =>
    cases hb : (oneB id && oneB ep && oneB o && oneB nx) with
    | false => exact Ev.of fun _ => rfl
    | true =>
      simp only [Bool.and_eq_true] at hb
      have b1 := oneB_iff.1 hb.1.1.1
      have b2 := oneB_iff.1 hb.1.2
      refine Ev.bind (V60 c id hc h.shards b1.1 b1.2) (Ev.bind (V60 c o hc h.shards b2.1 b2.2) (Ev.bif (fun _ => Ev.of fun _ => rfl) fun _ => Ev.bind (V106 _ _) (Ev.bind (Ev.of fun _ => rfl) (Ev.bif (fun _ => Ev.of fun _ => rfl) fun hcc => ?_))))
      have hcc : ((((((!openB (getS c id) ep) || (leI nx ep)) || (leI nx (getS c id).mClosed)) || (!eqI (getS c o).mID 0)) || (eqI (c.mShards.length : Int) 8)) || (!eqI (cutS (getS c id).mSpan x).2.2 0)) = false := hcc
      simp only [Bool.or_eq_false_iff, Bool.not_eq_false', eqI_iff, eqI_false] at hcc
      obtain ⟨⟨⟨⟨⟨h1, h2⟩, h3⟩, h4⟩, h5⟩, h6⟩ := hcc
      have h0 := (openB_iff.1 h1).1
      obtain ⟨q1, q2⟩ := split_right hc h0 hb.1.2 hb.2 h4 (by omega) h6
      have hid := getS_id hc id h0
      refine Ev.bind (V108 _ _ (shR_ix (getS_right hc h0).1)) (Ev.bind (V95 c (loS (getS c id) x nx) hc h.shards hid.1 hid.2) (Ev.bind (V95 (putC c (loS (getS c id) x nx)) (hiS (getS c id) x o nx) q1 (by have := ((cR_iff _).1 q1).1; omega) b2.1 b2.2) (Ev.of fun _ => rfl)))
theorem splitP_right {c : Cell} (hc : cR c = true) (id ep : Int) (x : ByteArray) (o nx : Int) : cR (splitP c id ep x o nx).1 = true := by
  unfold splitP
  cases hb : cR c && (oneB id && oneB ep && oneB o && oneB nx) with
  | false => exact hc
  | true =>
    simp only [Bool.and_eq_true] at hb
    simp only [Bool.not_true, cond_false]
    cases ((((!eqI (getS c id).mID 0) && (eqI (getS c id).mEpoch nx)) && (strEq (getS c id).mSpan.mHi x)) && (!eqI (getS c o).mID 0)) && (eqI (getS c o).mEpoch nx) with
    | true => exact hc
    | false =>
      rw [cond_false]
      cases hcc : (((((!openB (getS c id) ep) || (leI nx ep)) || (leI nx (getS c id).mClosed)) || (!eqI (getS c o).mID 0)) || (eqI (c.mShards.length : Int) 8)) || (!eqI (cutS (getS c id).mSpan x).2.2 0) with
      | true => exact hc
      | false =>
        simp only [Bool.or_eq_false_iff, Bool.not_eq_false', eqI_iff, eqI_false] at hcc
        obtain ⟨⟨⟨⟨⟨h1, h2⟩, h3⟩, h4⟩, h5⟩, h6⟩ := hcc
        exact (split_right hc (openB_iff.1 h1).1 hb.2.1.2 hb.2.2 h4 (by omega) h6).2
def mrgS (a b : Shard) (nx : Int) : Shard :=
  ⟨a.mID, nx, (joinS a.mSpan b.mSpan).1, a.mPhase, prE (joinE a.mEntries b.mEntries).1 (laterS a.mMark b.mMark), laterS a.mMark b.mMark, a.mTop, (mergeD a.mDone b.mDone).1, a.mHold, maxI a.mSeen b.mSeen, 0, maxI a.mClosed b.mClosed⟩
def mergeP (c : Cell) (id o ep nx : Int) : Cell × Bool :=
  bif !(cR c && (oneB id && oneB o && oneB ep && oneB nx)) then (c, false) else
    bif ((!eqI (getS c id).mID 0) && (eqI (getS c id).mEpoch nx)) && (eqI (getS c o).mID 0) then (c, true) else
      bif ((((!openB (getS c id) ep) || (!openB (getS c o) (getS c o).mEpoch)) || (leI nx (getS c id).mEpoch)) || (leI nx (getS c o).mEpoch)) || (leI nx (getS c id).mClosed) then (c, false) else
        bif ((!eqI (joinS (getS c id).mSpan (getS c o).mSpan).2 0) || (!eqI (joinE (getS c id).mEntries (getS c o).mEntries).2 0)) || (!eqI (mergeD (getS c id).mDone (getS c o).mDone).2 0) then (c, false) else
          (dropC (putC c (mrgS (getS c id) (getS c o) nx)) o, true)
theorem maxI_iff (a b : Int) : (maxI a b = a ∧ b ≤ a) ∨ (maxI a b = b ∧ a < b) := by
  unfold maxI
  split
  · exact .inr ⟨rfl, by assumption⟩
  · exact .inl ⟨rfl, by omega⟩
theorem mrgS_right {a b : Shard} {nx : Int} {t : Stamp} (ha : shR a = true) (hb : shR b = true) (ua : upR a t = true) (ub : upR b t = true) (hn : oneB nx = true) (j1 : (joinS a.mSpan b.mSpan).2 = 0) (j2 : (joinE a.mEntries b.mEntries).2 = 0) (j3 : (mergeD a.mDone b.mDone).2 = 0) :
    shR (mrgS a b nx) = true ∧ upR (mrgS a b nx) t = true := by
  obtain ⟨a1, a2, a3, a4, a5, a6, a7⟩ := (shR_iff a).1 ha
  obtain ⟨b1, b2, b3, b4, b5, b6, b7⟩ := (shR_iff b).1 hb
  have hj := (joinE_ok j2).2.2.2.2
  constructor
  · rw [shR_iff]
    refine ⟨?_, joinS_right j1, prE_right (joinE_right j2) _, stR_later a4 b4, a5, mergeD_right j3, fun e he => ?_⟩
    · rw [oneB_iff] at hn
      have h1 := shH_iff.1 a1
      have h2 := shH_iff.1 b1
      rw [shH_iff]; simp only [mrgS]
      have m1 := maxI_iff a.mSeen b.mSeen
      have m2 := maxI_iff a.mClosed b.mClosed
      omega
    · obtain ⟨d, g1, _, rfl⟩ := prE_mem.1 he
      rw [hj, List.mem_append] at g1
      refine joinS_has j1 ?_
      rcases g1 with g1 | g1
      · exact .inl (a7 d g1)
      · exact .inr (b7 d g1)
  · rw [upR_iff] at *
    refine prE_up fun e he => ?_
    rw [hj, List.mem_append] at he
    rcases he with he | he
    · exact ua e he
    · exact ub e he
theorem merge_right {c : Cell} (hc : cR c = true) {id o nx : Int} (h0 : (getS c id).mID ≠ 0) (h1 : (getS c o).mID ≠ 0) (hn : oneB nx = true) (j1 : (joinS (getS c id).mSpan (getS c o).mSpan).2 = 0) (j2 : (joinE (getS c id).mEntries (getS c o).mEntries).2 = 0) (j3 : (mergeD (getS c id).mDone (getS c o).mDone).2 = 0) :
    cR (putC c (mrgS (getS c id) (getS c o) nx)) = true := by
  obtain ⟨g1, g2⟩ := getS_right hc h0
  obtain ⟨g3, g4⟩ := getS_right hc h1
  obtain ⟨r1, r2⟩ := mrgS_right g1 g3 g2 g4 hn j1 j2 j3
  exact cR_put hc r1 r2 (.inl ⟨_, (getS_in hc h0).1, rfl⟩)
theorem V50 (c : Cell) (id o ep nx : Int) (h : SmC c) : Ev (fun k => F50 k c id o ep nx) (mergeP c id o ep nx) := by
  refine Ev.bind (V25 c h) (Ev.bind (optv fun _ => T57_4 _ _ _ _) ?_)
  unfold mergeP
  cases hc : cR c with
  | false => exact Ev.of fun _ => rfl
  | true =>
    cases hb : (oneB id && oneB o && oneB ep && oneB nx) with
    | false => exact Ev.of fun _ => rfl
    | true =>
      simp only [Bool.and_eq_true] at hb
      have b1 := oneB_iff.1 hb.1.1.1
      have b2 := oneB_iff.1 hb.1.1.2
      have sa := getS_sm h id
      have sb := getS_sm h o
      have a1 := sa.entries
      have a2 := sb.entries
      have a3 := sa.done
      have a4 := sb.done
      refine Ev.bind (V60 c id hc h.shards b1.1 b1.2) (Ev.bind (V60 c o hc h.shards b2.1 b2.2) (Ev.bif (fun _ => Ev.of fun _ => rfl) fun _ => Ev.bind (x := openB (getS c id) ep) (Ev.of fun _ => rfl) (Ev.bind (optv (v := openB (getS c o) (getS c o).mEpoch) fun _ => Ev.of fun _ => rfl) ?_)))
      have e : (((((!openB (getS c id) ep) || (!(bif !(!openB (getS c id) ep) then openB (getS c o) (getS c o).mEpoch else default))) || (leI nx (getS c id).mEpoch)) || (leI nx (getS c o).mEpoch)) || (leI nx (getS c id).mClosed)) = (((((!openB (getS c id) ep) || (!openB (getS c o) (getS c o).mEpoch)) || (leI nx (getS c id).mEpoch)) || (leI nx (getS c o).mEpoch)) || (leI nx (getS c id).mClosed)) := by
        cases openB (getS c id) ep <;> rfl
      rw [e]
      refine Ev.bif (fun _ => Ev.of fun _ => rfl) fun hcc => ?_
      simp only [Bool.or_eq_false_iff, Bool.not_eq_false'] at hcc
      have h0 := (openB_iff.1 hcc.1.1.1.1).1
      have h1 := (openB_iff.1 hcc.1.1.1.2).1
      refine Ev.bind (V112 _ _) (Ev.bind (V113 _ _ (by omega) (fun e he => by have := sa.chains e he; omega) (by omega) fun e he => by have := sb.chains e he; omega) (Ev.bind (V114 _ _ (by omega) (by omega)) (Ev.bif (fun _ => Ev.of fun _ => rfl) fun hj => ?_)))
      have hj : (((!eqI (joinS (getS c id).mSpan (getS c o).mSpan).2 0) || (!eqI (joinE (getS c id).mEntries (getS c o).mEntries).2 0)) || (!eqI (mergeD (getS c id).mDone (getS c o).mDone).2 0)) = false := hj
      simp only [Bool.or_eq_false_iff, Bool.not_eq_false', eqI_iff] at hj
      obtain ⟨⟨j1, j2⟩, j3⟩ := hj
      have hm := merge_right hc h0 h1 hb.2 j1 j2 j3
      have hid := getS_id hc id h0
      exact Ev.bind (T37 _ _) (Ev.bind (V99 _ _ (joinE_right j2)) (Ev.bind (V95 c (mrgS (getS c id) (getS c o) nx) hc h.shards hid.1 hid.2) (Ev.bind (V105 _ o hm b2.1 b2.2) (Ev.of fun _ => rfl))))
theorem mergeP_right {c : Cell} (hc : cR c = true) (id o ep nx : Int) : cR (mergeP c id o ep nx).1 = true := by
  unfold mergeP
  cases hb : cR c && (oneB id && oneB o && oneB ep && oneB nx) with
  | false => exact hc
  | true =>
    simp only [Bool.and_eq_true] at hb
    simp only [Bool.not_true, cond_false]
    cases ((!eqI (getS c id).mID 0) && (eqI (getS c id).mEpoch nx)) && (eqI (getS c o).mID 0) with
    | true => exact hc
    | false =>
      rw [cond_false]
      cases hcc : ((((!openB (getS c id) ep) || (!openB (getS c o) (getS c o).mEpoch)) || (leI nx (getS c id).mEpoch)) || (leI nx (getS c o).mEpoch)) || (leI nx (getS c id).mClosed) with
      | true => exact hc
      | false =>
        simp only [Bool.or_eq_false_iff, Bool.not_eq_false'] at hcc
        rw [cond_false]
        cases hj : ((!eqI (joinS (getS c id).mSpan (getS c o).mSpan).2 0) || (!eqI (joinE (getS c id).mEntries (getS c o).mEntries).2 0)) || (!eqI (mergeD (getS c id).mDone (getS c o).mDone).2 0) with
        | true => exact hc
        | false =>
          simp only [Bool.or_eq_false_iff, Bool.not_eq_false', eqI_iff] at hj
          obtain ⟨⟨j1, j2⟩, j3⟩ := hj
          exact cR_drop (merge_right hc (openB_iff.1 hcc.1.1.1.1).1 (openB_iff.1 hcc.1.1.1.2).1 hb.2.2 j1 j2 j3) o
end Go.Proofs.Gd
set_option linter.unusedVariables false
set_option linter.unusedSimpArgs false
namespace Go.Proofs.Gd
open Go Go.Awp
theorem holdP_right {c : Cell} (hc : cR c = true) (id ep l : Int) : cR (holdP c id ep l).1 = true := by
  unfold holdP
  cases hb : holdB c (getS c id) id ep l with
  | false => exact hc
  | true =>
    unfold holdB at hb
    simp only [Bool.and_eq_true, Bool.not_eq_true', eqI_false] at hb
    obtain ⟨⟨⟨⟨⟨⟨⟨⟨h1, h2⟩, h3⟩, h4⟩, h5⟩, h6⟩, h7⟩, h8⟩, h9⟩ := hb
    obtain ⟨g1, g2⟩ := getS_right hc h5
    refine cR_put hc (shR_head g1 rfl rfl rfl rfl ?_ ((shR_iff _).1 g1).2.2.2.2.1) (up_head g2 rfl) (.inl ⟨_, (getS_in hc h5).1, rfl⟩)
    have := shH_iff.1 ((shR_iff _).1 g1).1
    rw [oneB_iff] at h4
    rw [shH_iff]; simp only; omega
theorem freeP_right {c : Cell} (hc : cR c = true) (id l : Int) (t : Stamp) : cR (freeP c id l t).1 = true := by
  unfold freeP
  cases hb : cR c && oneB id && oneB l && stR t && !eqI (getS c id).mID 0 with
  | false => exact hc
  | true =>
    simp only [Bool.and_eq_true, Bool.not_eq_true', eqI_false] at hb
    obtain ⟨⟨⟨⟨h1, h2⟩, h3⟩, h4⟩, h5⟩ := hb
    rw [cond_true]
    cases leI l (getS c id).mSeen with
    | true => exact hc
    | false =>
      obtain ⟨g1, g2⟩ := getS_right hc h5
      have := cR_put (s := freeS (getS c id) l) hc (shR_head g1 rfl rfl rfl rfl (by
        have := shH_iff.1 ((shR_iff _).1 g1).1
        rw [oneB_iff] at h3
        rw [shH_iff]; simp only [freeS]
        cases eqI (getS c id).mHold l
        · rw [cond_false]; omega
        · rw [cond_true]; omega) ((shR_iff _).1 g1).2.2.2.2.1) (up_head g2 rfl) (.inl ⟨_, (getS_in hc h5).1, rfl⟩)
      exact cR_later this h4
theorem raiseP_right {c : Cell} (hc : cR c = true) (t : Stamp) : cR (raiseP c t) = true := by
  unfold raiseP
  cases h : cR c && stR t with
  | false => exact hc
  | true => rw [Bool.and_eq_true] at h; exact cR_later hc h.2
theorem pruneP_right {c : Cell} (hc : cR c = true) (t : Stamp) : cR (pruneP c t) = true := by
  unfold pruneP
  cases h : cR c && stR t with
  | false => exact hc
  | true => rw [Bool.and_eq_true] at h; exact pruneC_right hc h.2
def actN (a : Act) : Int := Int.tmod (IntKind.wrap .u64 a.mKind) 15
def actP (c : Cell) (a : Act) : Cell :=
  bif eqI (actN a) 4 then (holdP c a.mID a.mEpoch a.mN).1 else bif eqI (actN a) 5 then (freeP c a.mID a.mN a.mAt).1 else bif eqI (actN a) 6 then (freezeP c a.mID a.mEpoch a.mN).1 else
    bif eqI (actN a) 7 then (thawP c a.mID a.mN).1 else bif eqI (actN a) 8 then (retireP c a.mID a.mN).1 else bif eqI (actN a) 9 then (serveP c a.mID a.mN a.mEpoch).1 else
      bif eqI (actN a) 10 then (dropP c a.mID a.mN).1 else bif eqI (actN a) 11 then (splitP c a.mID a.mEpoch a.mKey a.mOther a.mN).1 else bif eqI (actN a) 12 then (mergeP c a.mID a.mOther a.mEpoch a.mN).1 else
        bif eqI (actN a) 13 then raiseP c a.mAt else bif eqI (actN a) 14 then pruneP c a.mAt else (doP c a.mID a.mEpoch a.mReq a.mAt 10).1
theorem V53 (c : Cell) (a : Act) (h : SmC c) : Ev (fun k => F53 k c a) (actP c a) := by
  unfold actP
  exact Ev.bif (fun _ => Ev.bind (V30 c _ _ _ h) (Ev.of fun _ => rfl)) fun _ => Ev.bif (fun _ => Ev.bind (V32 c _ _ _ h) (Ev.of fun _ => rfl)) fun _ => Ev.bif (fun _ => Ev.bind (V39 c _ _ _ h) (Ev.of fun _ => rfl)) fun _ =>
    Ev.bif (fun _ => Ev.bind (V46 c _ _ h) (Ev.of fun _ => rfl)) fun _ => Ev.bif (fun _ => Ev.bind (V44 c _ _ h) (Ev.of fun _ => rfl)) fun _ => Ev.bif (fun _ => Ev.bind (V43 c _ _ _ h) (Ev.of fun _ => rfl)) fun _ =>
      Ev.bif (fun _ => Ev.bind (V47 c _ _ h) (Ev.of fun _ => rfl)) fun _ => Ev.bif (fun _ => Ev.bind (V48 c _ _ _ _ _ h) (Ev.of fun _ => rfl)) fun _ => Ev.bif (fun _ => Ev.bind (V50 c _ _ _ _ h) (Ev.of fun _ => rfl)) fun _ =>
        Ev.bif (fun _ => Ev.bind (V34 c _ h) (Ev.of fun _ => rfl)) fun _ => Ev.bif (fun _ => Ev.bind (V35 c _ h) (Ev.of fun _ => rfl)) fun _ => Ev.bind (V16 c _ _ _ _ _ h) (Ev.of fun _ => rfl)
theorem actP_right {c : Cell} (hc : cR c = true) (a : Act) : cR (actP c a) = true := by
  unfold actP
  cases eqI (actN a) 4 with
  | true => exact holdP_right hc _ _ _
  | false => cases eqI (actN a) 5 with
    | true => exact freeP_right hc _ _ _
    | false => cases eqI (actN a) 6 with
      | true => exact freezeP_right hc _ _ _
      | false => cases eqI (actN a) 7 with
        | true => exact thawP_right hc _ _
        | false => cases eqI (actN a) 8 with
          | true => exact retireP_right hc _ _
          | false => cases eqI (actN a) 9 with
            | true => exact serveP_right hc _ _ _
            | false => cases eqI (actN a) 10 with
              | true => exact dropP_right hc _ _
              | false => cases eqI (actN a) 11 with
                | true => exact splitP_right hc _ _ _ _ _
                | false => cases eqI (actN a) 12 with
                  | true => exact mergeP_right hc _ _ _ _
                  | false => cases eqI (actN a) 13 with
                    | true => exact raiseP_right hc _
                    | false => cases eqI (actN a) 14 with
                      | true => exact pruneP_right hc _
                      | false => exact doP_right hc _ _ _ _ _
theorem V52 (c : Cell) (l : List Act) : EvP (fun k => F52 k c l) (fun b => b = true → SmC c) := by
  refine EvP.go ((downTo (M := fun i => EvP (fun k => F52_l1 l k (i : Int)) fun t => t = .ret false ∨ t = .out ()) (min l.length 40) ?_ fun i hi ih => ?_).mono fun t ht => ?_)
  · refine EvP.succ (fun k => by rw [F52_l1]) ?_
    have : (ltI ((min l.length 40 : Nat) : Int) (l.length : Int) && ltI ((min l.length 40 : Nat) : Int) 40) = false := by
      rw [Bool.and_eq_false_iff, ltI_false, ltI_false]; omega
    rw [this]
    exact EvP.some (.inr rfl)
  · refine EvP.succ (fun k => by rw [F52_l1]) ?_
    have : (ltI (i : Int) (l.length : Int) && ltI (i : Int) 40) = true := by
      rw [Bool.and_eq_true, ltI_iff, ltI_iff]; omega
    rw [this, inR_mk (by omega), i64z (by omega)]
    simp only [cond_true]
    exact EvP.cond (fun _ => EvP.some (.inl rfl)) fun _ => ih
  · rcases ht with rfl | rfl
    · exact fun h => by cases h
    · exact EvP.bind ((T14 c).mono fun b hb => EvP.some hb)
end Go.Proofs.Gd
set_option linter.unusedVariables false
set_option linter.unusedSimpArgs false
namespace Go.Proofs.Gd
open Go Go.Awp
/-- A client's row says that this was done, or something later. -/
def RowOk (cl q : Int) (a : Answer) (l : List Done) : Prop := ∃ d ∈ l, d.mClient = cl ∧ ((d.mReq = q ∧ d.mAnswer = a) ∨ q < d.mReq)
def RC (cl q : Int) (a : Answer) (c : Cell) : Prop := ∀ s ∈ c.mShards, RowOk cl q a s.mDone
section
variable {cl q : Int} {a : Answer} {c : Cell}
theorem RC_put (hc : cR c = true) (h : RC cl q a c) {s : Shard} (hs : RowOk cl q a s.mDone) : RC cl q a (putC c s) := fun y hy => by
  rcases (putL_mem' ((cR_iff c).1 hc).2.2.2.2 y).1 hy with rfl | h2
  · exact hs
  · exact h y h2.1
theorem RC_drop (h : RC cl q a c) (id : Int) : RC cl q a (dropC c id) := fun y hy => h y (List.mem_filter.1 hy).1
theorem RC_getS (hc : cR c = true) (h : RC cl q a c) {id : Int} (h0 : (getS c id).mID ≠ 0) : RowOk cl q a (getS c id).mDone := h _ (getS_in hc h0).1
theorem R_hold (hc : cR c = true) (h : RC cl q a c) (id ep l : Int) : RC cl q a (holdP c id ep l).1 := by
  unfold holdP
  cases hb : holdB c (getS c id) id ep l with
  | false => exact h
  | true =>
    unfold holdB at hb
    simp only [Bool.and_eq_true, Bool.not_eq_true', eqI_false] at hb
    exact RC_put hc h (RC_getS hc h hb.1.1.1.1.2)
theorem R_free (hc : cR c = true) (h : RC cl q a c) (id l : Int) (u : Stamp) : RC cl q a (freeP c id l u).1 := by
  unfold freeP
  cases hb : cR c && oneB id && oneB l && stR u && !eqI (getS c id).mID 0 with
  | false => exact h
  | true =>
    simp only [Bool.and_eq_true, Bool.not_eq_true', eqI_false] at hb
    rw [cond_true]
    cases leI l (getS c id).mSeen with
    | true => exact h
    | false => exact RC_put (s := freeS (getS c id) l) hc h (RC_getS hc h hb.2)
theorem R_freeze (hc : cR c = true) (h : RC cl q a c) (id ep m : Int) : RC cl q a (freezeP c id ep m).1 := by
  unfold freezeP
  cases h0 : cR c && oneB id && !eqI (getS c id).mID 0 with
  | false => exact h
  | true =>
    simp only [Bool.and_eq_true, Bool.not_eq_true', eqI_false] at h0
    rw [cond_true]
    cases !(oneB ep && oneB m) with
    | true => exact h
    | false =>
      rw [cond_false]
      cases eqI (getS c id).mPhase 2 && eqI (getS c id).mMove m with
      | true => exact h
      | false =>
        rw [cond_false]
        cases (((!eqI (getS c id).mEpoch ep) || (!eqI (getS c id).mPhase 1)) || (!eqI (getS c id).mHold 0)) || (leI m (getS c id).mClosed) with
        | true => exact h
        | false => exact RC_put (s := freezeS (getS c id) m c.mTop) hc h (RC_getS hc h h0.2)
theorem R_thaw (hc : cR c = true) (h : RC cl q a c) (id m : Int) : RC cl q a (thawP c id m).1 := by
  unfold thawP
  cases h0 : cR c && oneB id && !eqI (getS c id).mID 0 with
  | false => exact h
  | true =>
    simp only [Bool.and_eq_true, Bool.not_eq_true', eqI_false] at h0
    rw [cond_true]
    cases !oneB m with
    | true => exact h
    | false =>
      rw [cond_false]
      cases (leI m (getS c id).mClosed) || ((eqI (getS c id).mPhase 2) && (!eqI (getS c id).mMove m)) with
      | true => exact h
      | false => exact RC_put (s := thawS (getS c id) m) hc h (RC_getS hc h h0.2)
theorem R_retire (h : RC cl q a c) (id m : Int) : RC cl q a (retireP c id m).1 := by
  unfold retireP
  cases !(cR c && (oneB id && oneB m)) with
  | true => exact h
  | false =>
    rw [cond_false]
    cases eqI (getS c id).mID 0 with
    | true => exact h
    | false =>
      rw [cond_false]
      cases !(eqI (getS c id).mPhase 2 && eqI (getS c id).mMove m) with
      | true => exact h
      | false => exact RC_drop h id
theorem R_serve (hc : cR c = true) (h : RC cl q a c) (id m ep : Int) : RC cl q a (serveP c id m ep).1 := by
  unfold serveP
  cases h0 : cR c && oneB id && !eqI (getS c id).mID 0 with
  | false => exact h
  | true =>
    simp only [Bool.and_eq_true, Bool.not_eq_true', eqI_false] at h0
    rw [cond_true]
    cases !(oneB m && oneB ep) with
    | true => exact h
    | false =>
      rw [cond_false]
      cases (eqI (getS c id).mPhase 1 && eqI (getS c id).mEpoch ep) && eqI (getS c id).mClosed m with
      | true => exact h
      | false =>
        rw [cond_false]
        cases (!(eqI (getS c id).mPhase 3 && eqI (getS c id).mMove m)) || leI ep (getS c id).mEpoch with
        | true => exact h
        | false => exact RC_put (c := c) (s := serveS (getS c id) m ep) hc h (RC_getS hc h h0.2)
theorem R_dropP (h : RC cl q a c) (id m : Int) : RC cl q a (dropP c id m).1 := by
  unfold dropP
  cases !(cR c && (oneB id && oneB m)) with
  | true => exact h
  | false =>
    rw [cond_false]
    cases eqI (getS c id).mPhase 3 && eqI (getS c id).mMove m with
    | true => exact RC_drop h id
    | false => exact h
theorem R_split (hc : cR c = true) (h : RC cl q a c) (id ep : Int) (k : ByteArray) (o nx : Int) : RC cl q a (splitP c id ep k o nx).1 := by
  unfold splitP
  cases hb : cR c && (oneB id && oneB ep && oneB o && oneB nx) with
  | false => exact h
  | true =>
    simp only [Bool.and_eq_true] at hb
    simp only [Bool.not_true, cond_false]
    cases ((((!eqI (getS c id).mID 0) && (eqI (getS c id).mEpoch nx)) && (strEq (getS c id).mSpan.mHi k)) && (!eqI (getS c o).mID 0)) && (eqI (getS c o).mEpoch nx) with
    | true => exact h
    | false =>
      rw [cond_false]
      cases hcc : (((((!openB (getS c id) ep) || (leI nx ep)) || (leI nx (getS c id).mClosed)) || (!eqI (getS c o).mID 0)) || (eqI (c.mShards.length : Int) 8)) || (!eqI (cutS (getS c id).mSpan k).2.2 0) with
      | true => exact h
      | false =>
        simp only [Bool.or_eq_false_iff, Bool.not_eq_false', eqI_iff, eqI_false] at hcc
        obtain ⟨⟨⟨⟨⟨h1, h2⟩, h3⟩, h4⟩, h5⟩, h6⟩ := hcc
        have h0 := (openB_iff.1 h1).1
        obtain ⟨q1, _⟩ := split_right hc h0 hb.2.1.2 hb.2.2 h4 (by omega) h6
        have hr := RC_getS hc h h0
        exact RC_put (s := hiS (getS c id) k o nx) q1 (RC_put (s := loS (getS c id) k nx) hc h hr) hr
theorem Row_zip {l m : List Done} (hl : SortD l) (hm : SortD m) (h : RowOk cl q a l) : RowOk cl q a (zipD l m) := by
  obtain ⟨d, hd, hc, hq⟩ := h
  by_cases hx : ∀ y ∈ m, y.mClient = d.mClient → y.mReq ≤ d.mReq
  · exact ⟨d, (zipD_mem _ l m (Nat.le_refl _) hl hm d).2 (.inl ⟨hd, hx⟩), hc, hq⟩
  · obtain ⟨y, hy⟩ := Classical.not_forall.1 hx
    obtain ⟨hy1, hy2⟩ := Classical.not_imp.1 hy
    obtain ⟨hy2, hy3⟩ := Classical.not_imp.1 hy2
    refine ⟨y, (zipD_mem _ l m (Nat.le_refl _) hl hm y).2 (.inr ⟨hy1, fun x hx he => ?_⟩), by omega, .inr ?_⟩
    · have e1 := rowL_in hl hx
      have e2 := rowL_in hl hd
      rw [he, hy2, e2] at e1
      injection e1 with e
      rw [← e]; omega
    · rcases hq with hq | hq
      · omega
      · omega
theorem R_merge (hc : cR c = true) (h : RC cl q a c) (id o ep nx : Int) : RC cl q a (mergeP c id o ep nx).1 := by
  unfold mergeP
  cases hb : cR c && (oneB id && oneB o && oneB ep && oneB nx) with
  | false => exact h
  | true =>
    simp only [Bool.not_true, cond_false]
    cases ((!eqI (getS c id).mID 0) && (eqI (getS c id).mEpoch nx)) && (eqI (getS c o).mID 0) with
    | true => exact h
    | false =>
      rw [cond_false]
      cases hcc : ((((!openB (getS c id) ep) || (!openB (getS c o) (getS c o).mEpoch)) || (leI nx (getS c id).mEpoch)) || (leI nx (getS c o).mEpoch)) || (leI nx (getS c id).mClosed) with
      | true => exact h
      | false =>
        simp only [Bool.or_eq_false_iff, Bool.not_eq_false'] at hcc
        rw [cond_false]
        cases hj : ((!eqI (joinS (getS c id).mSpan (getS c o).mSpan).2 0) || (!eqI (joinE (getS c id).mEntries (getS c o).mEntries).2 0)) || (!eqI (mergeD (getS c id).mDone (getS c o).mDone).2 0) with
        | true => exact h
        | false =>
          simp only [Bool.or_eq_false_iff, Bool.not_eq_false', eqI_iff] at hj
          obtain ⟨⟨j1, j2⟩, j3⟩ := hj
          have o1 := openB_iff.1 hcc.1.1.1.1
          obtain ⟨m1, m2, m3, m4⟩ := mergeD_ok j3
          refine RC_drop (RC_put (s := mrgS (getS c id) (getS c o) nx) hc h ?_) o
          show RowOk cl q a (mergeD (getS c id).mDone (getS c o).mDone).1
          rw [m3]
          exact Row_zip ((dnR_iff _).1 m1).2.2 ((dnR_iff _).1 m2).2.2 (RC_getS hc h o1.1)
theorem R_raise (h : RC cl q a c) (u : Stamp) : RC cl q a (raiseP c u) := by
  unfold raiseP
  cases cR c && stR u <;> exact h
theorem R_prune (h : RC cl q a c) (u : Stamp) : RC cl q a (pruneP c u) := by
  unfold pruneP
  cases cR c && stR u with
  | false => exact h
  | true =>
    intro y hy
    obtain ⟨s, hs, rfl⟩ := List.mem_map.1 hy
    exact h s hs
theorem Row_ins {l : List Done} {d : Done} (h : RowOk cl q a l) (hp : (putD l d).2 = 0) : RowOk cl q a (putD l d).1 := by
  obtain ⟨h1, h2, h3, h4, h5⟩ := putD_ok hp
  have hs := ((dnR_iff l).1 h1).2.2
  obtain ⟨e, he, hc, hq⟩ := h
  rw [h5]
  by_cases hx : e.mClient = d.mClient
  · have := rowL_in hs he
    rw [hx] at this
    have h3 := h3 (by rw [this])
    rw [this] at h3
    have h3 : e.mReq < d.mReq := h3
    refine ⟨d, (insD_mem hs d).2 (.inl rfl), by omega, .inr ?_⟩
    rcases hq with hq | hq <;> omega
  · exact ⟨e, (insD_mem hs e).2 (.inr ⟨he, hx⟩), hc, hq⟩
theorem R_do (hc : cR c = true) (h : RC cl q a c) (id ep : Int) (r : Request) (now : Stamp) (v : Int) : RC cl q a (doP c id ep r now v).1 := by
  unfold doP
  cases !(cR c && (oneB id && oneB ep) && noB v && stR now && rqR r) with
  | true => exact h
  | false =>
    rw [cond_false]
    cases h2 : ((eqI (getS c id).mID 0) || (!eqI (getS c id).mEpoch ep)) || (!hasS (getS c id) r.mKey) with
    | true => exact h
    | false =>
      simp only [Bool.or_eq_false_iff, eqI_false, Bool.not_eq_false'] at h2
      rw [cond_false]
      cases (!eqI (getS c id).mPhase 1) || (wrB r && (!eqI (getS c id).mHold 0)) with
      | true => exact h
      | false =>
        rw [cond_false]
        cases wrB r with
        | true =>
          rw [cond_true]
          unfold writeP
          cases eqI (judge (getS c id).mDone r.mClient r.mReq) 2 with
          | true => exact h
          | false =>
            cases eqI (judge (getS c id).mDone r.mClient r.mReq) 3 with
            | true => exact h
            | false =>
              cases leI (cmpS now c.mTop) 0 with
              | true => exact h
              | false =>
                cases eqI (stepP c (getS c id) r now).1 0 with
                | false => exact h
                | true =>
                  cases h4 : eqI (dnP c (getS c id) r now).2 0 with
                  | false => exact h
                  | true => exact RC_put (s := wrS c (getS c id) r now) hc h (Row_ins (RC_getS hc h h2.1.1) (eqI_iff.1 h4))
        | false =>
          rw [cond_false]
          cases eqI r.mKind 4 with
          | true => exact h
          | false =>
            rw [cond_false]
            unfold pastP
            cases ltI (cmpS r.mAt (getS c id).mMark) 0 with
            | true => exact h
            | false =>
              cases ltI v (r.mAt.mWall - 1000) with
              | true => exact h
              | false =>
                cases eqI r.mKind 5 with
                | true => exact h
                | false => cases onP (getS c id) r && !(pageP (getS c id).mEntries r.mKey (hiP (getS c id) r) r.mAt r.mLimit.toNat).2.2 <;> exact h
theorem R_act (hc : cR c = true) (h : RC cl q a c) (x : Act) : RC cl q a (actP c x) := by
  unfold actP
  cases eqI (actN x) 4 with
  | true => exact R_hold hc h _ _ _
  | false => cases eqI (actN x) 5 with
    | true => exact R_free hc h _ _ _
    | false => cases eqI (actN x) 6 with
      | true => exact R_freeze hc h _ _ _
      | false => cases eqI (actN x) 7 with
        | true => exact R_thaw hc h _ _
        | false => cases eqI (actN x) 8 with
          | true => exact R_retire h _ _
          | false => cases eqI (actN x) 9 with
            | true => exact R_serve hc h _ _ _
            | false => cases eqI (actN x) 10 with
              | true => exact R_dropP h _ _
              | false => cases eqI (actN x) 11 with
                | true => exact R_split hc h _ _ _ _ _
                | false => cases eqI (actN x) 12 with
                  | true => exact R_merge hc h _ _ _ _
                  | false => cases eqI (actN x) 13 with
                    | true => exact R_raise h _
                    | false => cases eqI (actN x) 14 with
                      | true => exact R_prune h _
                      | false => exact R_do hc h _ _ _ _ _
end
theorem putE_err (l : List Entry) (x : ByteArray) (v : Version) : (putE l x v).2 = 0 ∨ (putE l x v).2 = 1 ∨ (putE l x v).2 = 9 ∨ (putE l x v).2 = 6 := by
  unfold putE
  cases !(ixR l && keyR x && vR v) with
  | true => exact .inr (.inl rfl)
  | false => cases (ltI 0 ((ofL l x).length : Int)) && (leI 0 (cmpS (lastV (ofL l x)).mAt v.mAt)) with
    | true => exact .inr (.inr (.inl rfl))
    | false => cases (eqI ((ofL l x).length : Int) 64) || ((eqI ((ofL l x).length : Int) 0) && (eqI (l.length : Int) 64)) with
      | true => exact .inr (.inr (.inr rfl))
      | false => exact .inl rfl
theorem putD_err (l : List Done) (d : Done) : (putD l d).2 = 0 ∨ (putD l d).2 = 1 ∨ (putD l d).2 = 9 ∨ (putD l d).2 = 6 := by
  unfold putD
  cases !(dnR l && dnR [d]) with
  | true => exact .inr (.inl rfl)
  | false => cases (rowL l d.mClient).2 && leI d.mReq (rowL l d.mClient).1.mReq with
    | true => exact .inr (.inr (.inl rfl))
    | false => cases (!(rowL l d.mClient).2) && eqI (l.length : Int) 8 with
      | true => exact .inr (.inr (.inr rfl))
      | false => exact .inl rfl
theorem step_err (c : Cell) (s : Shard) (r : Request) (now : Stamp) : (stepP c s r now).1 = 0 ∨ (stepP c s r now).1 = 1 ∨ (stepP c s r now).1 = 9 ∨ (stepP c s r now).1 = 6 := by
  unfold stepP
  cases (eqI r.mKind 3) && ((!((latA c s r.mKey).mFound == r.mHad)) || ((latA c s r.mKey).mFound && (!strEq (latA c s r.mKey).mValue r.mOld))) with
  | true => exact .inl rfl
  | false => cases eqI r.mKind 2 with
    | false => exact putE_err _ _ _
    | true => cases (latA c s r.mKey).mFound with
      | true => exact putE_err _ _ _
      | false => exact .inl rfl
theorem first_asked {c : Cell} {id ep : Int} {r : Request} {now : Stamp} {w : Int} (h1 : c.mShards.length = 1) (hk : r.mKind ≤ 3) (ha : (doP c id ep r now w).2.mErr = 0 ∨ (doP c id ep r now w).2.mErr = 15) :
    cR c = true ∧ rqR r = true ∧ wrB r = true ∧ RC r.mClient r.mReq (doP c id ep r now w).2 (doP c id ep r now w).1 ∧ (doP c id ep r now w).2.mItems = [] := by
  unfold doP at ha ⊢
  cases g1 : cR c && (oneB id && oneB ep) && noB w && stR now && rqR r with
  | false => rw [g1] at ha; have ha : (1 : Int) = 0 ∨ (1 : Int) = 15 := ha; omega
  | true =>
    rw [g1] at ha
    simp only [Bool.and_eq_true] at g1
    have hc := g1.1.1.1.1
    have hq := g1.2
    have q := rqR_iff hq
    have hw : wrB r = true := by
      unfold wrB
      simp only [Bool.or_eq_true, eqI_iff]; omega
    simp only [Bool.not_true, cond_false] at ha ⊢
    cases h2 : ((eqI (getS c id).mID 0) || (!eqI (getS c id).mEpoch ep)) || (!hasS (getS c id) r.mKey) with
    | true => rw [h2] at ha; have ha : (10 : Int) = 0 ∨ (10 : Int) = 15 := ha; omega
    | false =>
      rw [h2] at ha
      simp only [Bool.or_eq_false_iff, eqI_false, Bool.not_eq_false'] at h2
      have h0 := h2.1.1
      have hin := getS_in hc h0
      have hg := (shR_iff _).1 (getS_right hc h0).1
      have hdn := hg.2.2.2.2.2.1
      have hds := ((dnR_iff _).1 hdn).2.2
      have only : ∀ y ∈ c.mShards, y = getS c id := fun y hy => by
        obtain ⟨s, hs⟩ : ∃ s, c.mShards = [s] := List.length_eq_one_iff.1 h1
        rw [hs, List.mem_singleton] at hy
        have := hin.1
        rw [hs, List.mem_singleton] at this
        rw [this, hy]
      simp only [cond_false] at ha ⊢
      cases h3 : (!eqI (getS c id).mPhase 1) || (wrB r && (!eqI (getS c id).mHold 0)) with
      | true => rw [h3] at ha; have ha : (11 : Int) = 0 ∨ (11 : Int) = 15 := ha; omega
      | false =>
        rw [h3, hw] at ha
        rw [hw]
        simp only [cond_false, cond_true] at ha ⊢
        refine ⟨hc, hq, trivial, ?_⟩
        unfold writeP at ha ⊢
        generalize getS c id = s at *
        cases j2 : eqI (judge s.mDone r.mClient r.mReq) 2 with
        | true =>
          simp only [cond_true]
          rw [eqI_iff] at j2
          unfold judge at j2
          rw [hdn, q.2.2.2.2.2.1, q.2.2.2.2.2.2.1] at j2
          cases hf : (rowL s.mDone r.mClient).2 with
          | false => rw [hf] at j2; exact absurd (show (1 : Int) = 2 from j2) (by decide)
          | true =>
            rw [hf] at j2
            cases h5 : ltI (rowL s.mDone r.mClient).1.mReq r.mReq with
            | true => rw [h5] at j2; exact absurd (show (1 : Int) = 2 from j2) (by decide)
            | false =>
              rw [h5] at j2
              cases h6 : eqI r.mReq (rowL s.mDone r.mClient).1.mReq with
              | false => rw [h6] at j2; exact absurd (show (3 : Int) = 2 from j2) (by decide)
              | true =>
                have hm := rowL_mem _ _ hf
                refine ⟨fun y hy => ?_, aR_items (((dnR_iff _).1 hdn).2.1 _ hm.1).2.2⟩
                rw [only y hy]
                exact ⟨_, hm.1, hm.2, .inl ⟨(eqI_iff.1 h6).symm, rfl⟩⟩
        | false =>
          rw [j2] at ha
          simp only [cond_false] at ha ⊢
          cases j3 : eqI (judge s.mDone r.mClient r.mReq) 3 with
          | true => rw [j3] at ha; have ha : (10 : Int) = 0 ∨ (10 : Int) = 15 := ha; omega
          | false =>
            rw [j3] at ha
            simp only [cond_false] at ha ⊢
            cases hb : leI (cmpS now c.mTop) 0 with
            | true => rw [hb] at ha; have ha : (1 : Int) = 0 ∨ (1 : Int) = 15 := ha; omega
            | false =>
              rw [hb] at ha
              simp only [cond_false] at ha ⊢
              cases h5 : eqI (stepP c s r now).1 0 with
              | false =>
                rw [h5] at ha
                rw [eqI_false] at h5
                have := step_err c s r now
                have ha : (stepP c s r now).1 = 0 ∨ (stepP c s r now).1 = 15 := ha
                omega
              | true =>
                rw [h5] at ha
                simp only [Bool.not_true, cond_false] at ha ⊢
                cases h6 : eqI (dnP c s r now).2 0 with
                | false =>
                  rw [h6] at ha
                  rw [eqI_false] at h6
                  have : (dnP c s r now).2 = 0 ∨ (dnP c s r now).2 = 1 ∨ (dnP c s r now).2 = 9 ∨ (dnP c s r now).2 = 6 := putD_err _ _
                  have ha : (dnP c s r now).2 = 0 ∨ (dnP c s r now).2 = 15 := ha
                  omega
                | true =>
                  simp only [Bool.not_true, cond_false]
                  refine ⟨fun y hy => ?_, rfl⟩
                  rcases (putL_mem' (s := wrS c s r now) ((cR_iff c).1 hc).2.2.2.2 y).1 hy with rfl | hy
                  · obtain ⟨_, _, _, _, p5⟩ := putD_ok (eqI_iff.1 h6)
                    show RowOk r.mClient r.mReq (ansP c s r now) (dnP c s r now).1
                    unfold dnP
                    rw [p5]
                    exact ⟨_, (insD_mem hds _).2 (.inl rfl), rfl, .inl ⟨rfl, rfl⟩⟩
                  · exact absurd (by rw [only y hy.1]; rfl) hy.2
/-- The same is asked again. -/
theorem asked_again {c : Cell} (hc : cR c = true) {s : Shard} (hs : s ∈ c.mShards) {r : Request} {a : Answer} {u : Stamp} (hq : rqR r = true) (hw : wrB r = true) (hu : stR u = true) (hk : hasR s.mSpan r.mKey = true) (hr : RowOk r.mClient r.mReq a s.mDone) :
    (doP c s.mID s.mEpoch r u 0).1 = c ∧ ((doP c s.mID s.mEpoch r u 0).2 = a ∨ (doP c s.mID s.mEpoch r u 0).2 = fault 10 ∨ (doP c s.mID s.mEpoch r u 0).2 = fault 11) := by
  have hR := ((cR_iff c).1 hc).2.2.2
  have g := (shR_iff s).1 (hR.1 s hs).1
  have hh := shH_iff.1 g.1
  have hget : getS c s.mID = s := by
    obtain ⟨j, hj, rfl⟩ := List.mem_iff_getElem.1 hs
    have hp := hR.2
    rw [List.pairwise_iff_getElem] at hp
    exact getL_at _ c.mShards j hj rfl fun i hi => by have := hp i j (by omega) hj hi; omega
  have q := rqR_iff hq
  have hdn := g.2.2.2.2.2.1
  have hds := ((dnR_iff _).1 hdn).2.2
  unfold doP
  rw [hget]
  have e1 : (cR c && (oneB s.mID && oneB s.mEpoch) && noB 0 && stR u && rqR r) = true := by
    rw [hc, hu, hq, oneB_iff.2 hh.1, oneB_iff.2 hh.2.1]; rfl
  have e2 : (((eqI s.mID 0) || (!eqI s.mEpoch s.mEpoch)) || (!hasS s r.mKey)) = false := by
    unfold hasS
    rw [hk, eqI_false.2 (by omega), eqI_iff.2 rfl]; simp
  rw [e1, e2, hw]
  simp only [Bool.not_true, cond_false, cond_true]
  cases (!eqI s.mPhase 1) || (true && (!eqI s.mHold 0)) with
  | true => exact ⟨rfl, .inr (.inr rfl)⟩
  | false =>
    rw [cond_false]
    obtain ⟨d, hd, hdc, hdq⟩ := hr
    have hrow : rowL s.mDone r.mClient = (d, true) := by rw [← hdc]; exact rowL_in hds hd
    have hj : judge s.mDone r.mClient r.mReq = bif eqI r.mReq d.mReq then 2 else 3 := by
      unfold judge
      rw [hdn, q.2.2.2.2.2.1, q.2.2.2.2.2.2.1, hrow]
      have : ltI d.mReq r.mReq = false := by rw [ltI_false]; omega
      show (bif (false || ltI d.mReq r.mReq) then 1 else _) = _
      rw [this]; rfl
    unfold writeP
    rw [hj]
    rcases hdq with ⟨h1, h2⟩ | h1
    · rw [eqI_iff.2 h1.symm, hrow]
      exact ⟨rfl, .inl h2⟩
    · rw [eqI_false.2 (by omega : r.mReq ≠ d.mReq)]
      exact ⟨rfl, .inr (.inl rfl)⟩
theorem V13_l1 (l : List Act) (cl q : Int) (a : Answer) : ∀ m i c, i + m = min l.length 30 → cR c = true → RC cl q a c → EvP (fun k => F13_l1 l k ((i : Int), c.mShards, c.mTop.mWall, c.mTop.mTick, c.mTop.mNode, c.mDropped)) (fun r => ∃ d, cR d = true ∧ RC cl q a d ∧ r = (d.mShards, d.mTop.mWall, d.mTop.mTick, d.mTop.mNode, d.mDropped))
  | 0, i, c, hi, hc, hq => by
    refine EvP.succ (fun k => by rw [F13_l1]) ?_
    have : (ltI (i : Int) (l.length : Int) && ltI (i : Int) 30) = false := by
      rw [Bool.and_eq_false_iff, ltI_false, ltI_false]; omega
    rw [this]
    exact EvP.some ⟨c, hc, hq, rfl⟩
  | m + 1, i, c, hi, hc, hq => by
    refine EvP.succ (fun k => by rw [F13_l1]) ?_
    have : (ltI (i : Int) (l.length : Int) && ltI (i : Int) 30) = true := by
      rw [Bool.and_eq_true, ltI_iff, ltI_iff]; omega
    rw [this, inR_mk (by omega), i64z (by omega)]
    have hr := actP_right hc (rd l (i : Int))
    have hq2 := R_act hc hq (rd l (i : Int))
    have hv := V53 c (rd l (i : Int)) (cR_sm hc).sm
    generalize actP c (rd l (i : Int)) = d at hr hq2 hv
    refine EvP.bind (hv.evP.mono fun e he => ?_)
    subst he
    exact V13_l1 l cl q a m (i + 1) _ (by omega) hr hq2
theorem V13_l2 {r : Request} {u : Stamp} {a : Answer} {c : Cell} (hc : cR c = true) (hr : RC r.mClient r.mReq a c) (hq : rqR r = true) (hw : wrB r = true) (hu : stR u = true) (ha : a.mErr = 0 ∨ a.mErr = 15) (hai : a.mItems = []) :
    Ev (fun k => F13_l2 r u c.mShards c.mTop.mWall c.mTop.mTick c.mTop.mNode c.mDropped a k 0) (.out ()) := by
  have hsm := (cR_sm hc).sm
  have hl := ((cR_iff c).1 hc).1
  have q := rqR_iff hq
  have hkey : keyR r.mKey = true := q.2.2.2.2.2.2.2.1 fun h6 => by
    unfold wrB at hw
    simp only [Bool.or_eq_true, eqI_iff] at hw
    omega
  have hks := (keyR_size hkey).2
  refine downTo (M := fun i => Ev (fun k => F13_l2 r u c.mShards c.mTop.mWall c.mTop.mTick c.mTop.mNode c.mDropped a k (i : Int)) (.out ())) c.mShards.length ?_ fun i hi ih => ?_
  · refine Ev.from 1 fun k => ?_
    show F13_l2 r u _ _ _ _ _ a (k + 1) _ = _
    rw [F13_l2, ltI_nat, decide_eq_false (Nat.lt_irrefl _)]; rfl
  · refine Ev.succ (fun k => by rw [F13_l2]) ?_
    have hmem := List.getElem_mem hi
    have hg := ((cR_iff c).1 hc).2.2.2.1 _ hmem
    have g := (shR_iff _).1 hg.1
    have h2 := shR_sm hg.1
    have hlo := h2.lo
    have hhi := h2.hi
    rw [ltI_nat, decide_eq_true hi, inR_mk hi, i64z (by omega), rd_nat _ _ hi]
    refine Ev.bind (V55 _ _ _ (by omega) (by omega) (by omega)) (Ev.cond (fun _ => ih) fun hin => ?_)
    rw [Bool.not_eq_false'] at hin
    have hk : hasR (c.mShards[i]).mSpan r.mKey = true := by
      unfold hasR
      rw [g.2.1, hkey, Bool.and_assoc, hin]; rfl
    obtain ⟨e1, e2⟩ := asked_again hc hmem hq hw hu hk (hr _ hmem)
    have hv := V16 c (c.mShards[i]).mID (c.mShards[i]).mEpoch r u 0 hsm
    generalize doP c (c.mShards[i]).mID (c.mShards[i]).mEpoch r u 0 = P at hv e1 e2
    obtain ⟨d, b⟩ := P
    simp only at e1 e2
    subst e1
    refine Ev.bind hv (Ev.bind (E18 d hsm) ?_)
    rcases e2 with rfl | rfl | rfl
    · refine Ev.bind (x := true) ?_ ?_
      · show Ev (fun k => bif (eqI b.mErr b.mErr) then F19 k b b else some default) true
        rw [eqI_self]
        exact E19 b (by rw [hai]; simp)
      · show Ev (fun k => bif ((false || ((eqI b.mErr b.mErr) && false)) || (((!eqI b.mErr b.mErr) && (!eqI b.mErr 10)) && (!eqI b.mErr 11))) then _ else _) _
        rw [eqI_self]
        exact ih
    · have e : eqI 10 a.mErr = false := by rw [eqI_false]; omega
      refine Ev.bind (x := default) ?_ ?_
      · show Ev (fun k => bif (eqI 10 a.mErr) then F19 k (fault 10) a else some default) default
        rw [e]; exact Ev.of fun _ => rfl
      · show Ev (fun k => bif ((false || ((eqI 10 a.mErr) && _)) || (((!eqI 10 a.mErr) && (!eqI 10 10)) && (!eqI 10 11))) then _ else _) _
        rw [e]
        exact ih
    · have e : eqI 11 a.mErr = false := by rw [eqI_false]; omega
      refine Ev.bind (x := default) ?_ ?_
      · show Ev (fun k => bif (eqI 11 a.mErr) then F19 k (fault 11) a else some default) default
        rw [e]; exact Ev.of fun _ => rfl
      · show Ev (fun k => bif ((false || ((eqI 11 a.mErr) && _)) || (((!eqI 11 a.mErr) && (!eqI 11 10)) && (!eqI 11 11))) then _ else _) _
        rw [e]
        exact ih
theorem again (c : Cell) (id ep : Int) (r : Request) (now : Stamp) (l : List Act) (u : Stamp) : EvP (fun k => F13 k c id ep r now l u) (· = true) := by
  have aw : Ev (fun k => F15 k) true := Ev.from 40 awake
  refine EvP.bind ((V52 c l).mono fun b hb => ?_)
  refine EvP.bind ((optv fun _ => T36 u).evP.mono fun b2 h2 => EvP.cond (fun _ => EvP.bind (aw.evP.mono fun x hx => EvP.some hx)) fun hcc => ?_)
  simp only [Bool.or_eq_false_iff, Bool.not_eq_false', ltI_false, eqI_iff] at hcc
  obtain ⟨⟨⟨c1, c2⟩, c3⟩, c4⟩ := hcc
  have hsm := hb c1
  have hu : stR u = true := by
    rw [h2] at c4
    revert c4
    cases (!(((!b) || (ltI 3 r.mKind)) || (!eqI (c.mShards.length : Int) 1))) with
    | true => exact fun h => h
    | false => exact fun h => by cases h
  have hv := V16 c id ep r now 0 hsm
  have hfa := fun ha => first_asked (c := c) (id := id) (ep := ep) (r := r) (now := now) (w := 0) (by omega) c2 ha
  have hdr := fun f1 => doP_right (c := c) f1 id ep r now 0
  generalize doP c id ep r now 0 = P at hv hfa hdr
  obtain ⟨d, a⟩ := P
  refine EvP.bind (hv.evP.mono fun P hP => ?_)
  subst hP
  refine EvP.cond (fun _ => EvP.bind (aw.evP.mono fun x hx => EvP.some hx)) fun he => ?_
  have ha : a.mErr = 0 ∨ a.mErr = 15 := by
    rw [Bool.and_eq_false_iff, Bool.not_eq_false', Bool.not_eq_false', eqI_iff, eqI_iff] at he; exact he
  obtain ⟨f1, f2, f3, f4, f5⟩ := hfa ha
  have hr := hdr f1
  refine EvP.bind ((V13_l1 l r.mClient r.mReq a _ 0 d (Nat.zero_add _) hr f4).mono fun R hR => ?_)
  obtain ⟨e, g1, g2, rfl⟩ := hR
  exact EvP.of (r := true) (Ev.bind (V13_l2 g1 g2 f2 f3 hu ha f5) (Ev.bind aw (Ev.of fun _ => rfl))) rfl
end Go.Proofs.Gd
