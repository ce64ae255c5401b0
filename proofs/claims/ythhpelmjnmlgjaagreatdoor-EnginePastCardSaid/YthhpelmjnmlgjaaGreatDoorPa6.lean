/- Lemmas behind GdPaP, part 6: they hold as they stand, without a condition beyond their own. -/
import Derived.Test.YthhpelmjnmlgjaaGreatDoorPa5
set_option linter.unusedVariables false
set_option linter.unusedSimpArgs false
namespace Go.Proofs.Gd
open Go Go.Awp
abbrev SortI (l : List Shard) : Prop := l.Pairwise (fun a b => a.mID < b.mID)
theorem putL_mem' {s : Shard} : ∀ {l : List Shard}, SortI l → ∀ y, y ∈ putL l s ↔ y = s ∨ (y ∈ l ∧ y.mID ≠ s.mID)
  | [], _, y => by simp [putL]
  | x :: l, h, y => by
    have h := List.pairwise_cons.1 h
    have ih := putL_mem' (s := s) h.2 y
    rw [putL]
    cases h1 : ltI x.mID s.mID with
    | true =>
      rw [ltI_iff] at h1
      rw [cond_true, List.mem_cons, ih, List.mem_cons]
      constructor
      · rintro (rfl | rfl | h2)
        · exact .inr ⟨.inl rfl, by omega⟩
        · exact .inl rfl
        · exact .inr ⟨.inr h2.1, h2.2⟩
      · rintro (rfl | ⟨rfl | h2, h3⟩)
        · exact .inr (.inl rfl)
        · exact .inl rfl
        · exact .inr (.inr ⟨h2, h3⟩)
    | false =>
      rw [ltI_false] at h1
      rw [cond_false]
      cases h2 : eqI x.mID s.mID with
      | true =>
        rw [eqI_iff] at h2
        rw [cond_true, List.mem_cons, List.mem_cons]
        constructor
        · rintro (rfl | h3)
          · exact .inl rfl
          · have := h.1 y h3; exact .inr ⟨.inr h3, by omega⟩
        · rintro (rfl | ⟨rfl | h3, h4⟩)
          · exact .inl rfl
          · exact absurd h2 h4
          · exact .inr h3
      | false =>
        rw [eqI_false] at h2
        rw [cond_false, List.mem_cons, List.mem_cons]
        constructor
        · rintro (rfl | rfl | h3)
          · exact .inl rfl
          · exact .inr ⟨.inl rfl, h2⟩
          · have := h.1 y h3; exact .inr ⟨.inr h3, by omega⟩
        · rintro (rfl | ⟨rfl | h3, h4⟩)
          · exact .inl rfl
          · exact .inr (.inl rfl)
          · exact .inr (.inr h3)
theorem putL_sort {s : Shard} : ∀ {l : List Shard}, SortI l → SortI (putL l s)
  | [], _ => by simp [putL]
  | x :: l, h => by
    have h0 := h
    have h := List.pairwise_cons.1 h
    have ih := putL_sort (s := s) h.2
    rw [putL]
    cases h1 : ltI x.mID s.mID with
    | true =>
      rw [ltI_iff] at h1
      rw [cond_true]; unfold SortI; rw [List.pairwise_cons]
      refine ⟨fun y hy => ?_, ih⟩
      rcases (putL_mem' h.2 y).1 hy with rfl | h2
      · exact h1
      · exact h.1 y h2.1
    | false =>
      rw [ltI_false] at h1
      rw [cond_false]
      cases h2 : eqI x.mID s.mID with
      | true =>
        rw [eqI_iff] at h2
        rw [cond_true]; unfold SortI; rw [List.pairwise_cons]
        exact ⟨fun y hy => by have := h.1 y hy; omega, h.2⟩
      | false =>
        rw [eqI_false] at h2
        rw [cond_false]; unfold SortI; rw [List.pairwise_cons]
        refine ⟨fun y hy => ?_, h0⟩
        rw [List.mem_cons] at hy
        rcases hy with rfl | hy
        · omega
        · have := h.1 y hy; omega
theorem putL_le (s : Shard) : ∀ l, (putL l s).length ≤ l.length + 1
  | [] => by simp [putL]
  | x :: l => by
    have := putL_le s l
    rw [putL]
    cases ltI x.mID s.mID <;> cases eqI x.mID s.mID <;> simp <;> omega
theorem putL_len_in {s : Shard} : ∀ {l : List Shard}, SortI l → (∃ x ∈ l, x.mID = s.mID) → (putL l s).length = l.length
  | [], _, h => by obtain ⟨x, h1, _⟩ := h; cases h1
  | x :: l, h, ⟨y, hy, e⟩ => by
    have h := List.pairwise_cons.1 h
    rw [List.mem_cons] at hy
    rw [putL]
    rcases hy with rfl | hy
    · rw [ltI_false.2 (by omega), eqI_iff.2 e]; rfl
    · have := h.1 y hy
      rw [ltI_iff.2 (by omega), cond_true, List.length_cons, putL_len_in h.2 ⟨y, hy, e⟩]; rfl
theorem getL_spec {l : List Shard} {id : Int} (h : ∀ s ∈ l, 1 ≤ s.mID) : ((getL l id).mID ≠ 0 → getL l id ∈ l ∧ (getL l id).mID = id) ∧ ((getL l id).mID = 0 → ∀ s ∈ l, s.mID ≠ id) := by
  induction l with
  | nil => exact ⟨fun h => absurd rfl h, fun _ s hs => by cases hs⟩
  | cons x l ih =>
    have ih := ih fun s hs => h s (by simp [hs])
    rw [getL]
    cases h1 : eqI x.mID id with
    | true =>
      rw [eqI_iff] at h1
      refine ⟨fun _ => ⟨by simp, h1⟩, fun h2 => ?_⟩
      have := h x (by simp)
      have h2 : x.mID = 0 := h2
      omega
    | false =>
      rw [eqI_false] at h1
      refine ⟨fun h2 => ⟨by simp [(ih.1 h2).1], (ih.1 h2).2⟩, fun h2 s hs => ?_⟩
      rw [List.mem_cons] at hs
      rcases hs with rfl | hs
      · exact h1
      · exact ih.2 h2 s hs
theorem shR_id1 {c : Cell} (h : cR c = true) : ∀ s ∈ c.mShards, 1 ≤ s.mID := fun s hs => (shR_id (((cR_iff c).1 h).2.2.2.1 s hs).1).1
theorem getS_in {c : Cell} (h : cR c = true) {id : Int} (h0 : (getS c id).mID ≠ 0) : getS c id ∈ c.mShards ∧ (getS c id).mID = id := (getL_spec (shR_id1 h)).1 h0
theorem getS_right {c : Cell} (h : cR c = true) {id : Int} (h0 : (getS c id).mID ≠ 0) : shR (getS c id) = true ∧ upR (getS c id) c.mTop = true := ((cR_iff c).1 h).2.2.2.1 _ (getS_in h h0).1
theorem upR_iff (s : Shard) (t : Stamp) : upR s t = true ↔ ∀ e ∈ s.mEntries, ¬ befS t (lastV e.mChain).mAt := by
  unfold upR
  rw [List.all_eq_true]
  simp only [leB]
/-- No version is later than the last. -/
theorem lastV_ge {l : List Version} (h : chR l = true) : ∀ v ∈ l, ¬ befS (lastV l).mAt v.mAt := fun v hv => by
  obtain ⟨j, hj, rfl⟩ := List.mem_iff_getElem.1 hv
  have := chain_last l h j hj
  rwa [rd_nat _ _ hj] at this
theorem up_mono {s : Shard} {t u : Stamp} (h : upR s t = true) (hu : ¬ befS u t) : upR s u = true := by
  rw [upR_iff] at *
  intro e he h2
  have := h e he
  unfold befS at *; omega
theorem stR_later {s t : Stamp} (h : stR s = true) (h' : stR t = true) : stR (laterS s t) = true := by
  rcases laterS_or s t with e | e <;> rw [e] <;> assumption
theorem cR_top {c : Cell} (h : cR c = true) {t : Stamp} (ht : stR t = true) (hn : ¬ befS t c.mTop) : cR { c with mTop := t } = true := by
  rw [cR_iff] at *
  exact ⟨h.1, ht, h.2.2.1, fun s hs => ⟨(h.2.2.2.1 s hs).1, up_mono (h.2.2.2.1 s hs).2 hn⟩, h.2.2.2.2⟩
theorem cR_later {c : Cell} (h : cR c = true) {t : Stamp} (ht : stR t = true) : cR { c with mTop := laterS c.mTop t } = true :=
  cR_top h (stR_later ((cR_iff c).1 h).2.1 ht) (laterS_ge _ _).1
theorem cR_put {c : Cell} (h : cR c = true) {s : Shard} (hs : shR s = true) (hu : upR s c.mTop = true) (hl : (∃ x ∈ c.mShards, x.mID = s.mID) ∨ c.mShards.length ≤ 7) : cR (putC c s) = true := by
  have h0 := h
  rw [cR_iff] at *
  have hlen := putL_le s c.mShards
  refine ⟨?_, h.2.1, h.2.2.1, fun y hy => ?_, putL_sort h.2.2.2.2⟩
  · show (putL c.mShards s).length ≤ 8
    rcases hl with hl | hl
    · rw [putL_len_in h.2.2.2.2 hl]; exact h.1
    · omega
  · rcases (putL_mem' h.2.2.2.2 y).1 hy with rfl | h3
    · exact ⟨hs, hu⟩
    · exact h.2.2.2.1 y h3.1
theorem cR_drop {c : Cell} (h : cR c = true) (id : Int) : cR (dropC c id) = true := by
  rw [cR_iff] at *
  refine ⟨Nat.le_trans (List.length_filter_le _ _) h.1, h.2.1, h.2.2.1, fun y hy => h.2.2.2.1 y (List.mem_filter.1 hy).1, List.Pairwise.filter _ h.2.2.2.2⟩
theorem cR_dropped {c : Cell} (h : cR c = true) {n : Int} (hn : noB n = true) : cR { c with mDropped := n } = true := by
  rw [cR_iff] at *
  exact ⟨h.1, h.2.1, hn, h.2.2.2.1, h.2.2.2.2⟩
theorem chR_sub {l m : List Version} (h : chR l = true) (hs : m.Sublist l) : chR m = true := by
  rw [chR_iff] at *
  exact ⟨Nat.le_trans hs.length_le h.1, fun v hv => h.2.1 v (hs.subset hv), h.2.2.sublist hs⟩
theorem prV_sub (l : List Version) (t : Stamp) : (prV l t).Sublist l := by
  unfold prV
  split <;> exact List.drop_sublist _ _
theorem prE_mem {l : List Entry} {t : Stamp} {e : Entry} : e ∈ prE l t ↔ ∃ d ∈ l, 0 < (prV d.mChain t).length ∧ e = { d with mChain := prV d.mChain t } := by
  unfold prE
  rw [List.mem_filterMap]
  constructor
  · rintro ⟨d, h1, h2⟩
    by_cases hc : 0 < (prV d.mChain t).length
    · rw [if_pos hc] at h2; exact ⟨d, h1, hc, (Option.some.inj h2).symm⟩
    · rw [if_neg hc] at h2; cases h2
  · rintro ⟨d, h1, h2, rfl⟩
    exact ⟨d, h1, by rw [if_pos h2]⟩
theorem prE_right {l : List Entry} (h : ixR l = true) (t : Stamp) : ixR (prE l t) = true := by
  rw [ixR_iff] at *
  refine ⟨Nat.le_trans (List.length_filterMap_le _ _) h.1, fun e he => ?_, ?_⟩
  · obtain ⟨d, h1, h2, rfl⟩ := prE_mem.1 he
    obtain ⟨g1, g2, g3⟩ := h.2.1 d h1
    exact ⟨g1, chR_sub g2 (prV_sub _ _), List.length_pos_iff.1 h2⟩
  · unfold prE
    rw [List.pairwise_filterMap]
    refine h.2.2.imp fun {a b} hab x hx y hy => ?_
    split at hx <;> split at hy <;> simp_all
    rw [← hx, ← hy]; exact hab
def prS (t : Stamp) (s : Shard) : Shard := { s with mEntries := prE s.mEntries t, mMark := laterS s.mMark t }
theorem prV_last {l : List Version} {t : Stamp} (h : 0 < (prV l t).length) : lastV (prV l t) = lastV l := by
  unfold prV at *
  have key : ∀ n, n < l.length → lastV (l.drop n) = lastV l := fun n hn => by
    unfold lastV
    rw [List.length_drop, show ((l.length - n : Nat) : Int) - 1 = ((l.length - n - 1 : Nat) : Int) by omega, rd_nat _ _ (by simp; omega), show (l.length : Int) - 1 = ((l.length - 1 : Nat) : Int) by omega, rd_nat _ _ (by omega), List.getElem_drop]
    congr 1; omega
  split at h
  · rw [List.length_drop] at h; rw [if_pos (by assumption)]; exact key _ (by omega)
  · rw [List.length_drop] at h; rw [if_neg (by assumption)]; exact key _ (by omega)
theorem prS_right {s : Shard} (h : shR s = true) {t : Stamp} (ht : stR t = true) : shR (prS t s) = true := by
  rw [shR_iff] at *
  obtain ⟨h1, h2, h3, h4, h5, h6, h7⟩ := h
  refine ⟨h1, h2, prE_right h3 t, stR_later h4 ht, h5, h6, fun e he => ?_⟩
  obtain ⟨d, g1, _, rfl⟩ := prE_mem.1 he
  exact h7 d g1
theorem prE_up {l : List Entry} {t u : Stamp} (h : ∀ e ∈ l, ¬ befS u (lastV e.mChain).mAt) : ∀ e ∈ prE l t, ¬ befS u (lastV e.mChain).mAt := fun e he => by
  obtain ⟨d, g1, g2, rfl⟩ := prE_mem.1 he
  show ¬ befS u (lastV (prV d.mChain t)).mAt
  rw [prV_last g2]; exact h d g1
theorem prS_up {s : Shard} {t u : Stamp} (h : upR s u = true) : upR (prS t s) u = true := by
  rw [upR_iff] at *
  exact prE_up h
def pruneC (c : Cell) (t : Stamp) : Cell := { c with mShards := c.mShards.map (prS t) }
theorem pruneC_right {c : Cell} (h : cR c = true) {t : Stamp} (ht : stR t = true) : cR (pruneC c t) = true := by
  rw [cR_iff] at *
  refine ⟨?_, h.2.1, h.2.2.1, fun s hs => ?_, ?_⟩
  · show (c.mShards.map (prS t)).length ≤ 8
    rw [List.length_map]; exact h.1
  · obtain ⟨d, h1, rfl⟩ := List.mem_map.1 hs
    exact ⟨prS_right (h.2.2.2.1 d h1).1 ht, prS_up (h.2.2.2.1 d h1).2⟩
  · show (c.mShards.map (prS t)).Pairwise _
    rw [List.pairwise_map]; exact h.2.2.2.2
end Go.Proofs.Gd
set_option linter.unusedVariables false
set_option linter.unusedSimpArgs false
namespace Go.Proofs.Gd
open Go Go.Awp
def raiseP (c : Cell) (t : Stamp) : Cell := bif cR c && stR t then { c with mTop := laterS c.mTop t } else c
theorem V34 (c : Cell) (t : Stamp) (h : SmC c) : Ev (fun k => F34 k c t) (raiseP c t) := by
  refine Ev.bind (V25 c h) (Ev.bind (optv fun _ => T36 _) ?_)
  unfold raiseP
  cases cR c <;> cases stR t <;> first | exact Ev.of fun _ => rfl | exact Ev.bind (T37 _ _) (Ev.of fun _ => rfl)
def pruneP (c : Cell) (t : Stamp) : Cell := bif cR c && stR t then pruneC c t else c
theorem rd_mid {α : Type} [Inhabited α] (A B : List α) (x : α) : rd (A ++ x :: B) (A.length : Int) = x := by
  rw [rd_nat _ _ (by simp)]; simp
theorem set_mid {α : Type} (A B : List α) (x y : α) : (A ++ x :: B).set A.length y = A ++ y :: B := by
  rw [List.set_append_right _ _ (Nat.le_refl _)]; simp
theorem V35_l1 (l : List Shard) (t : Stamp) (hl : l.length ≤ 1000) (hx : ∀ s ∈ l, ixR s.mEntries = true) : ∀ m i, i + m = l.length → Ev (fun k => F35_l1 t l k ((l.take i).map (prS t) ++ l.drop i, (i : Int))) (l.map (prS t)) := by
  intro m
  induction m with
  | zero =>
    intro i hi
    refine Ev.from 1 fun k => ?_
    show F35_l1 t l (k + 1) (_, _) = _
    rw [F35_l1, ltI_nat, decide_eq_false (by omega), List.drop_of_length_le (by omega), List.take_of_length_le (by omega)]
    simp
  | succ m ih =>
    intro i hi
    have hlt : i < l.length := by omega
    have ih := ih (i + 1) (by omega)
    refine Ev.succ (fun k => by rw [F35_l1]) ?_
    rw [ltI_nat, decide_eq_true hlt, i64z (by omega), List.drop_eq_getElem_cons hlt, Int.toNat_natCast]
    have hA : ((l.take i).map (prS t)).length = i := by simp; omega
    have e1 : (List.take (i + 1) l).map (prS t) ++ List.drop (i + 1) l = (l.take i).map (prS t) ++ prS t l[i] :: List.drop (i + 1) l := by
      rw [List.take_succ_eq_append_getElem hlt, List.map_append, List.append_assoc]; rfl
    rw [e1] at ih
    generalize (l.take i).map (prS t) = A at *
    generalize List.drop (i + 1) l = B at *
    have hr : ∀ y, rd (A ++ y :: B) (i : Int) = y := fun y => by rw [← hA]; exact rd_mid A B y
    have hs : ∀ x y, (A ++ x :: B).set i y = A ++ y :: B := fun x y => by rw [← hA]; exact set_mid A B x y
    have hi : ∀ y, inR (i : Int) (A ++ y :: B).length = true := fun y => inR_mk (by simp; omega)
    rw [hi, hr]
    refine Ev.bind (V99 _ t (hx _ (List.getElem_mem hlt))) (Ev.bind (T37 _ _) ?_)
    rw [hs, hi, hr, hs]
    exact ih
theorem V98o (l : List Shard) (h : l.length ≤ 1000) : Ev (fun k => F98o k l) l := Ev.of fun k => by
  unfold F98o
  rw [appOK_mk (by simp; omega) (by simp; omega)]; rfl
theorem cR_ix {c : Cell} (h : cR c = true) : ∀ s ∈ c.mShards, ixR s.mEntries = true := fun s hs => shR_ix (((cR_iff c).1 h).2.2.2.1 s hs).1
theorem V35 (c : Cell) (t : Stamp) (h : SmC c) : Ev (fun k => F35 k c t) (pruneP c t) := by
  have hs := h.shards
  refine Ev.bind (V25 c h) (Ev.bind (optv fun _ => T36 _) ?_)
  unfold pruneP
  cases hc : cR c with
  | false => exact Ev.of fun _ => rfl
  | true =>
    cases stR t with
    | false => exact Ev.of fun _ => rfl
    | true =>
      refine Ev.bind (V98o _ (by omega)) (Ev.bind ?_ (Ev.of fun _ => rfl))
      have := V35_l1 c.mShards t (by omega) (cR_ix hc) c.mShards.length 0 (by omega)
      simpa using this
end Go.Proofs.Gd
set_option linter.unusedVariables false
set_option linter.unusedSimpArgs false
namespace Go.Proofs.Gd
open Go Go.Awp
theorem _root_.Go.Awp.Ev.bif {α : Type} {c : Bool} {a b : Nat → Option α} {x y : α} (h1 : c = true → Ev a x) (h2 : c = false → Ev b y) : Ev (fun k => bif c then a k else b k) (bif c then x else y) := by
  cases c with
  | true => exact h1 rfl
  | false => exact h2 rfl
theorem T57_1 (a : Int) : Ev (fun k => F57 k 1 [a]) (oneB a) := by
  have := T57 1 [a] (by simp)
  simp only [List.any_cons, List.any_nil, oneB_eq, Bool.or_false, Bool.not_not] at this
  exact this
theorem T57_4 (a b c d : Int) : Ev (fun k => F57 k 1 [a, b, c, d]) (oneB a && oneB b && oneB c && oneB d) := by
  have := T57 1 [a, b, c, d] (by simp)
  simp only [List.any_cons, List.any_nil, oneB_eq] at this
  cases h1 : oneB a <;> cases h2 : oneB b <;> cases h3 : oneB c <;> cases h4 : oneB d <;> simpa [h1, h2, h3, h4] using this
theorem oneB_iff {n : Int} : oneB n = true ↔ 1 ≤ n ∧ n ≤ 1099511627776 := by unfold oneB; rw [Bool.and_eq_true, leI_iff, leI_iff]
theorem noB_iff {n : Int} : noB n = true ↔ 0 ≤ n ∧ n ≤ 1099511627776 := by unfold noB; rw [Bool.and_eq_true, leI_iff, leI_iff]
theorem shH_iff {s : Shard} : shH s = true ↔ (1 ≤ s.mID ∧ s.mID ≤ 1099511627776) ∧ (1 ≤ s.mEpoch ∧ s.mEpoch ≤ 1099511627776) ∧ (0 ≤ s.mHold ∧ s.mHold ≤ 1099511627776) ∧ (0 ≤ s.mSeen ∧ s.mSeen ≤ 1099511627776) ∧ (0 ≤ s.mMove ∧ s.mMove ≤ 1099511627776) ∧ (0 ≤ s.mClosed ∧ s.mClosed ≤ 1099511627776) ∧ 1 ≤ s.mPhase ∧ s.mPhase ≤ 3 := by
  unfold shH
  simp only [Bool.and_eq_true, oneB_iff, noB_iff, Bool.not_eq_true', ltI_false, and_assoc]
/-- A shard that differs in its head alone is right where its head is. -/
theorem shR_head {s u : Shard} (h : shR s = true) (e1 : u.mSpan = s.mSpan) (e2 : u.mEntries = s.mEntries) (e3 : u.mMark = s.mMark) (e4 : u.mDone = s.mDone) (h1 : shH u = true) (h2 : stR u.mTop = true) : shR u = true := by
  rw [shR_iff] at *
  rw [e1, e2, e3, e4]
  exact ⟨h1, h.2.1, h.2.2.1, h.2.2.2.1, h2, h.2.2.2.2.2.1, h.2.2.2.2.2.2⟩
theorem up_head {s u : Shard} {t : Stamp} (h : upR s t = true) (e2 : u.mEntries = s.mEntries) : upR u t = true := by
  unfold upR at *; rw [e2]; exact h
theorem V23then {β : Type} {c : Cell} (h : SmC c) (id : Int) {g : Nat → Shard × Bool → Option β} {good bad : β} (hb : ∀ s, Ev (fun k => g k (s, false)) bad) (hg : cR c = true → oneB id = true → (getS c id).mID ≠ 0 → Ev (fun k => g k (getS c id, true)) good) :
    Ev (fun k => (F23 k c id).bind (g k)) (bif cR c && oneB id && !eqI (getS c id).mID 0 then good else bad) := by
  refine Ev.bind (V23 c id h) ?_
  cases h1 : cR c with
  | false => exact hb _
  | true =>
    cases h2 : oneB id with
    | false => exact hb _
    | true =>
      show Ev (fun k => g k (getS c id, !eqI (getS c id).mID 0)) _
      cases h3 : eqI (getS c id).mID 0 with
      | true => exact hb _
      | false => exact hg h1 h2 (eqI_false.1 h3)
/-- Taking out a shard that stands at a place. -/
theorem drop_at (id : Int) : ∀ (l : List Shard) (n : Nat) (hn : n < l.length), l[n].mID = id → (∀ i (hi : i < l.length), i ≠ n → l[i].mID ≠ id) → dropL l id = l.take n ++ l.drop (n + 1)
  | x :: l, 0, _, h, hh => by
    have h : x.mID = id := h
    unfold dropL
    rw [List.filter_cons, eqI_iff.2 h]
    simp only [Bool.not_true, Bool.false_eq_true, if_false, List.take_zero, List.nil_append, List.drop_succ_cons, List.drop_zero]
    rw [List.filter_eq_self]
    intro y hy
    obtain ⟨j, hj, rfl⟩ := List.mem_iff_getElem.1 hy
    rw [Bool.not_eq_true', eqI_false]
    exact hh (j + 1) (by simpa using hj) (by omega)
  | x :: l, n + 1, hn, h, hh => by
    have h0 : x.mID ≠ id := hh 0 (by simp) (by omega)
    unfold dropL
    rw [List.filter_cons, eqI_false.2 h0]
    simp only [Bool.not_false, if_true, List.take_succ_cons, List.cons_append, List.drop_succ_cons]
    congr 1
    exact drop_at id l n (by simpa using hn) h fun i hi hne => hh (i + 1) (by simpa using hi) (by omega)
/-- engine.without. -/
theorem V105 (c : Cell) (id : Int) (h : cR c = true) (h1 : 1 ≤ id) (h2 : id ≤ 1099511627776) : Ev (fun k => F105 k c id) (dropC c id) := by
  have hl := ((cR_iff c).1 h).1
  obtain ⟨g1, g2⟩ := cR_ids h
  refine EvP.ev (EvP.bind ((V123 c id h (by omega) h1 h2).mono fun r hr => ?_))
  obtain ⟨r1, r2⟩ := r
  obtain ⟨n, e, hn, q1, q2, q3⟩ := hr
  simp only at e q3
  subst e
  have hrd : ∀ i (hi : i < c.mShards.length), rd c.mShards (i : Int) = c.mShards[i] := fun i hi => rd_nat _ _ hi
  show EvP (fun k => bif r2 then _ else _) _
  cases hb : r2 with
  | true =>
    rw [hb] at q3
    have q3 := q3.symm
    rw [Bool.and_eq_true, decide_eq_true_eq, eqI_iff] at q3
    rw [hrd n q3.1] at q3
    refine EvP.bind ((Ev.of fun k => by unfold F98o; rw [appOK_mk (by simp; omega) (by simp; omega)]; rfl : Ev (fun k => F98o k c.mShards) c.mShards).evP.mono fun t ht => ?_)
    subst ht
    refine EvP.guard ?_ (EvP.guard (decide_eq_true (i64z (by omega))) (EvP.some ?_))
    · exact decide_eq_true ⟨by omega, by omega⟩
    · unfold dropC
      rw [Int.toNat_natCast, drop_at id c.mShards n q3.1 q3.2 fun i hi hne => ?_]
      by_cases hlt : i < n
      · have := q1 i hlt; rw [hrd i hi] at this; omega
      · have := g2 n i (by omega) hi
        rw [hrd n q3.1, hrd i hi] at this; omega
  | false =>
    rw [hb] at q3
    refine EvP.some ?_
    have : dropL c.mShards id = c.mShards := by
      unfold dropL
      rw [List.filter_eq_self]
      intro y hy
      obtain ⟨j, hj, rfl⟩ := List.mem_iff_getElem.1 hy
      rw [Bool.not_eq_true', eqI_false]
      intro e
      have q3 := q3.symm
      rw [Bool.and_eq_false_iff, decide_eq_false_iff_not, eqI_false] at q3
      by_cases h3 : j < n
      · have := q1 j h3; rw [hrd j hj] at this; omega
      · have hlt : n < c.mShards.length := by omega
        rw [hrd n hlt] at q3
        by_cases h4 : j = n
        · subst h4; rcases q3 with q3 | q3
          · exact q3 hlt
          · exact q3 e
        · have h5 := q2 n (Nat.le_refl _) hlt
          have h6 := g2 n j (by omega) hj
          rw [hrd n hlt] at h5
          rw [hrd n hlt, hrd j hj] at h6
          omega
    unfold dropC
    rw [this]
def freezeS (s : Shard) (m : Int) (t : Stamp) : Shard := { s with mPhase := 2, mTop := t, mMove := m }
def freezeP (c : Cell) (id ep m : Int) : Cell × Bool :=
  bif cR c && oneB id && !eqI (getS c id).mID 0 then (bif !(oneB ep && oneB m) then (c, false) else bif eqI (getS c id).mPhase 2 && eqI (getS c id).mMove m then (c, true) else
    bif (((!eqI (getS c id).mEpoch ep) || (!eqI (getS c id).mPhase 1)) || (!eqI (getS c id).mHold 0)) || (leI m (getS c id).mClosed) then (c, false) else (putC c (freezeS (getS c id) m c.mTop), true)) else (c, false)
theorem V39 (c : Cell) (id ep m : Int) (h : SmC c) : Ev (fun k => F39 k c id ep m) (freezeP c id ep m) := by
  refine V23then h id (fun s => Ev.of fun _ => rfl) fun hc hid h0 => Ev.bind (optv fun _ => T57_2 _ _) ?_
  have hg := getS_id hc id h0
  refine Ev.bif (fun _ => Ev.of fun _ => rfl) fun _ => Ev.bind (Ev.of fun _ => rfl) (Ev.bif (fun _ => Ev.of fun _ => rfl) fun _ => Ev.bif (fun _ => Ev.of fun _ => rfl) fun _ => ?_)
  exact Ev.bind (V95 c (freezeS (getS c id) m c.mTop) hc h.shards hg.1 hg.2) (Ev.of fun _ => rfl)
def thawS (s : Shard) (m : Int) : Shard := { s with mPhase := bif eqI s.mPhase 2 && eqI s.mMove m then 1 else s.mPhase, mClosed := m }
def thawP (c : Cell) (id m : Int) : Cell × Bool :=
  bif cR c && oneB id && !eqI (getS c id).mID 0 then (bif !oneB m then (c, false) else bif (leI m (getS c id).mClosed) || ((eqI (getS c id).mPhase 2) && (!eqI (getS c id).mMove m)) then (c, true) else (putC c (thawS (getS c id) m), true)) else (c, false)
theorem V46 (c : Cell) (id m : Int) (h : SmC c) : Ev (fun k => F46 k c id m) (thawP c id m) := by
  refine V23then h id (fun s => Ev.of fun _ => rfl) fun hc hid h0 => Ev.bind (optv fun _ => T57_1 _) ?_
  have hg := getS_id hc id h0
  refine Ev.bif (fun _ => Ev.of fun _ => rfl) fun _ => Ev.bif (fun _ => Ev.of fun _ => rfl) fun _ => Ev.bind (Ev.of fun _ => rfl) ?_
  have := V95 c (thawS (getS c id) m) hc h.shards hg.1 hg.2
  unfold thawS at this ⊢
  refine Ev.cond (fun hb => ?_) fun hb => ?_
  · rw [show (eqI (getS c id).mPhase 2 && eqI (getS c id).mMove m) = true from hb] at this ⊢
    exact Ev.bind this (Ev.of fun _ => rfl)
  · rw [show (eqI (getS c id).mPhase 2 && eqI (getS c id).mMove m) = false from hb] at this ⊢
    exact Ev.bind this (Ev.of fun _ => rfl)
def retireP (c : Cell) (id m : Int) : Cell × Bool :=
  bif !(cR c && (oneB id && oneB m)) then (c, false) else bif eqI (getS c id).mID 0 then (c, true) else bif !(eqI (getS c id).mPhase 2 && eqI (getS c id).mMove m) then (c, false) else (dropC c id, true)
theorem V44 (c : Cell) (id m : Int) (h : SmC c) : Ev (fun k => F44 k c id m) (retireP c id m) := by
  refine Ev.bind (V25 c h) (Ev.bind (optv fun _ => T57_2 _ _) ?_)
  unfold retireP
  cases hc : cR c with
  | false => exact Ev.of fun _ => rfl
  | true =>
    cases ho : oneB id && oneB m with
    | false => exact Ev.of fun _ => rfl
    | true =>
      rw [Bool.and_eq_true, oneB_iff, oneB_iff] at ho
      refine Ev.bind (V60 c id hc h.shards ho.1.1 ho.1.2) (Ev.bif (fun _ => Ev.of fun _ => rfl) fun _ => Ev.bind (Ev.of fun _ => rfl) (Ev.bif (fun _ => Ev.of fun _ => rfl) fun _ => ?_))
      exact Ev.bind (V105 c id hc ho.1.1 ho.1.2) (Ev.of fun _ => rfl)
def serveS (s : Shard) (m ep : Int) : Shard := { s with mEpoch := ep, mPhase := 1, mClosed := m }
def serveP (c : Cell) (id m ep : Int) : Cell × Bool :=
  bif cR c && oneB id && !eqI (getS c id).mID 0 then (bif !(oneB m && oneB ep) then (c, false) else bif (eqI (getS c id).mPhase 1 && eqI (getS c id).mEpoch ep) && eqI (getS c id).mClosed m then (c, true) else
    bif (!(eqI (getS c id).mPhase 3 && eqI (getS c id).mMove m)) || leI ep (getS c id).mEpoch then (c, false) else (putC { c with mDropped := maxI c.mDropped m } (serveS (getS c id) m ep), true)) else (c, false)
theorem noB_max {a b : Int} (h : noB a = true) (h' : oneB b = true) : noB (maxI a b) = true := by
  rw [noB_iff] at *
  rw [oneB_iff] at h'
  unfold maxI
  split <;> omega
theorem V43 (c : Cell) (id m ep : Int) (h : SmC c) : Ev (fun k => F43 k c id m ep) (serveP c id m ep) := by
  refine V23then h id (fun s => Ev.of fun _ => rfl) fun hc hid h0 => Ev.bind (optv fun _ => T57_2 _ _) ?_
  have hg := getS_id hc id h0
  refine Ev.bif (fun _ => Ev.of fun _ => rfl) fun ho => Ev.bif (fun _ => Ev.of fun _ => rfl) fun _ => Ev.bind (Ev.of fun _ => rfl) (Ev.bif (fun _ => Ev.of fun _ => rfl) fun _ => ?_)
  have ho : (!(oneB m && oneB ep)) = false := ho
  rw [Bool.not_eq_false', Bool.and_eq_true] at ho
  have hm := cR_dropped hc (noB_max ((cR_iff c).1 hc).2.2.1 ho.1)
  exact Ev.bind (V95 { c with mDropped := maxI c.mDropped m } (serveS (getS c id) m ep) hm h.shards hg.1 hg.2) (Ev.of fun _ => rfl)
def dropP (c : Cell) (id m : Int) : Cell × Bool :=
  bif !(cR c && (oneB id && oneB m)) then (c, false) else bif eqI (getS c id).mPhase 3 && eqI (getS c id).mMove m then ({ dropC c id with mDropped := maxI c.mDropped m }, true) else ({ c with mDropped := maxI c.mDropped m }, true)
theorem V47 (c : Cell) (id m : Int) (h : SmC c) : Ev (fun k => F47 k c id m) (dropP c id m) := by
  refine Ev.bind (V25 c h) (Ev.bind (optv fun _ => T57_2 _ _) ?_)
  unfold dropP
  cases hc : cR c with
  | false => exact Ev.of fun _ => rfl
  | true =>
    cases ho : oneB id && oneB m with
    | false => exact Ev.of fun _ => rfl
    | true =>
      rw [Bool.and_eq_true, oneB_iff, oneB_iff] at ho
      refine Ev.bind (V60 c id hc h.shards ho.1.1 ho.1.2) (Ev.bind (Ev.of fun _ => rfl) (Ev.bif (fun _ => ?_) fun _ => Ev.of fun _ => rfl))
      exact Ev.bind (V105 c id hc ho.1.1 ho.1.2) (Ev.of fun _ => rfl)
theorem freezeP_right {c : Cell} (hc : cR c = true) (id ep m : Int) : cR (freezeP c id ep m).1 = true := by
  unfold freezeP
  cases h0 : cR c && oneB id && !eqI (getS c id).mID 0 with
  | false => exact hc
  | true =>
    simp only [Bool.and_eq_true, Bool.not_eq_true', eqI_false] at h0
    obtain ⟨g1, g2⟩ := getS_right hc h0.2
    rw [cond_true]
    cases h1 : oneB ep && oneB m with
    | false => exact hc
    | true =>
      rw [Bool.not_true, cond_false]
      cases eqI (getS c id).mPhase 2 && eqI (getS c id).mMove m with
      | true => exact hc
      | false =>
        rw [cond_false]
        cases (((!eqI (getS c id).mEpoch ep) || (!eqI (getS c id).mPhase 1)) || (!eqI (getS c id).mHold 0)) || (leI m (getS c id).mClosed) with
        | true => exact hc
        | false =>
          rw [Bool.and_eq_true, oneB_iff, oneB_iff] at h1
          refine cR_put hc (shR_head g1 rfl rfl rfl rfl ?_ ((cR_iff c).1 hc).2.1) (up_head g2 rfl) (.inl ⟨_, (getS_in hc h0.2).1, rfl⟩)
          have := shH_iff.1 ((shR_iff _).1 g1).1
          rw [shH_iff]
          simp only [freezeS]
          omega
theorem thawP_right {c : Cell} (hc : cR c = true) (id m : Int) : cR (thawP c id m).1 = true := by
  unfold thawP
  cases h0 : cR c && oneB id && !eqI (getS c id).mID 0 with
  | false => exact hc
  | true =>
    simp only [Bool.and_eq_true, Bool.not_eq_true', eqI_false] at h0
    obtain ⟨g1, g2⟩ := getS_right hc h0.2
    rw [cond_true]
    cases h1 : oneB m with
    | false => exact hc
    | true =>
      rw [Bool.not_true, cond_false]
      cases (leI m (getS c id).mClosed) || ((eqI (getS c id).mPhase 2) && (!eqI (getS c id).mMove m)) with
      | true => exact hc
      | false =>
        rw [oneB_iff] at h1
        refine cR_put hc (shR_head g1 rfl rfl rfl rfl ?_ ((shR_iff _).1 g1).2.2.2.2.1) (up_head g2 rfl) (.inl ⟨_, (getS_in hc h0.2).1, rfl⟩)
        have := shH_iff.1 ((shR_iff _).1 g1).1
        rw [shH_iff]
        simp only [thawS]
        cases eqI (getS c id).mPhase 2 && eqI (getS c id).mMove m
        · rw [cond_false]; omega
        · rw [cond_true]; omega
theorem retireP_right {c : Cell} (hc : cR c = true) (id m : Int) : cR (retireP c id m).1 = true := by
  unfold retireP
  cases cR c && (oneB id && oneB m) with
  | false => exact hc
  | true =>
    rw [Bool.not_true, cond_false]
    cases eqI (getS c id).mID 0 with
    | true => exact hc
    | false =>
      rw [cond_false]
      cases eqI (getS c id).mPhase 2 && eqI (getS c id).mMove m with
      | true => exact cR_drop hc id
      | false => exact hc
theorem serveP_right {c : Cell} (hc : cR c = true) (id m ep : Int) : cR (serveP c id m ep).1 = true := by
  unfold serveP
  cases h0 : cR c && oneB id && !eqI (getS c id).mID 0 with
  | false => exact hc
  | true =>
    simp only [Bool.and_eq_true, Bool.not_eq_true', eqI_false] at h0
    obtain ⟨g1, g2⟩ := getS_right hc h0.2
    rw [cond_true]
    cases h1 : oneB m && oneB ep with
    | false => exact hc
    | true =>
      rw [Bool.not_true, cond_false]
      cases (eqI (getS c id).mPhase 1 && eqI (getS c id).mEpoch ep) && eqI (getS c id).mClosed m with
      | true => exact hc
      | false =>
        rw [cond_false]
        cases (!(eqI (getS c id).mPhase 3 && eqI (getS c id).mMove m)) || leI ep (getS c id).mEpoch with
        | true => exact hc
        | false =>
          rw [Bool.and_eq_true] at h1
          have hm := cR_dropped hc (noB_max ((cR_iff c).1 hc).2.2.1 h1.1)
          rw [oneB_iff, oneB_iff] at h1
          refine cR_put hm (shR_head g1 rfl rfl rfl rfl ?_ ((shR_iff _).1 g1).2.2.2.2.1) (up_head g2 rfl) (.inl ⟨_, (getS_in hc h0.2).1, rfl⟩)
          have := shH_iff.1 ((shR_iff _).1 g1).1
          rw [shH_iff]
          simp only [serveS]
          omega
theorem dropP_right {c : Cell} (hc : cR c = true) (id m : Int) : cR (dropP c id m).1 = true := by
  unfold dropP
  cases h : cR c && (oneB id && oneB m) with
  | false => exact hc
  | true =>
    simp only [Bool.and_eq_true] at h
    have hm := noB_max ((cR_iff c).1 hc).2.2.1 h.2.2
    rw [Bool.not_true, cond_false]
    cases eqI (getS c id).mPhase 3 && eqI (getS c id).mMove m with
    | true => exact cR_dropped (cR_drop hc id) hm
    | false => exact cR_dropped hc hm
end Go.Proofs.Gd
set_option linter.unusedVariables false
set_option linter.unusedSimpArgs false
namespace Go.Proofs.Gd
open Go Go.Awp
def insE : List Entry → Entry → List Entry
  | [], e => [e]
  | y :: l, e => bif ltI (cmpK y.mKey e.mKey) 0 then y :: insE l e else bif strEq y.mKey e.mKey then e :: l else e :: y :: l
theorem insE_set (e : Entry) : ∀ (l : List Entry) (n : Nat) (hn : n < l.length), (∀ i (hi : i < n), cmpK (l[i]'(by omega)).mKey e.mKey < 0) → l[n].mKey = e.mKey → insE l e = l.set n e
  | y :: l, 0, _, _, h => by
    have h : y.mKey = e.mKey := h
    rw [insE, ltI_false.2 (by rw [h, cmpK_self]; omega), strEq_true.2 h]; rfl
  | y :: l, n + 1, hn, hh, h => by
    have h0 : cmpK y.mKey e.mKey < 0 := hh 0 (by omega)
    rw [insE, ltI_iff.2 h0, insE_set e l n (by simpa using hn) (fun i hi => hh (i + 1) (by omega)) h]; rfl
theorem insE_ins (e : Entry) : ∀ (l : List Entry) (n : Nat) (hn : n ≤ l.length), (∀ i (hi : i < n), cmpK (l[i]'(by omega)).mKey e.mKey < 0) → (∀ h : n < l.length, 0 < cmpK l[n].mKey e.mKey) → insE l e = l.take n ++ [e] ++ l.drop n
  | [], 0, _, _, _ => rfl
  | [], n + 1, hn, _, _ => by simp at hn
  | y :: l, 0, _, _, h => by
    have h : 0 < cmpK y.mKey e.mKey := h (by simp)
    rw [insE, ltI_false.2 (by omega), strEq_false.2 (fun e' => by rw [e', cmpK_self] at h; omega)]; rfl
  | y :: l, n + 1, hn, hh, h => by
    have h0 : cmpK y.mKey e.mKey < 0 := hh 0 (by omega)
    rw [insE, ltI_iff.2 h0, insE_ins e l n (by simpa using hn) (fun i hi => hh (i + 1) (by omega)) fun h2 => h (by simpa using h2)]; rfl
def addV (l : List Version) (v : Version) : List Version × Int :=
  bif !vR v then ([], 1) else bif (ltI 0 (l.length : Int)) && (leI 0 (cmpS (lastV l).mAt v.mAt)) then ([], 9) else bif eqI (l.length : Int) 64 then ([], 6) else (l ++ [v], 0)
theorem V158 (l : List Version) (v : Version) (h : chR l = true) : Ev (fun k => F158 k l v) (addV l v) := by
  obtain ⟨hl, _, _⟩ := (chR_iff l).1 h
  refine Ev.bind (V136 l (by omega)) (Ev.bind (optv fun _ => V166 v) ?_)
  rw [h]
  unfold addV
  cases hv : vR v with
  | false => exact Ev.of fun _ => rfl
  | true =>
    show Ev (fun k => bif (!(ltI 0 (l.length : Int)) || inR (IntKind.wrap .i64 ((l.length : Int) - 1)) l.length) then _ else none) _
    rw [i64z (by omega)]
    refine Ev.guard ?_ (Ev.bind (optv fun _ => T42 _ _) ?_)
    · rw [Bool.or_eq_true, Bool.not_eq_true', ltI_false, inR_iff]; omega
    · have e : (bif ltI 0 (l.length : Int) && leI 0 (bif ltI 0 (l.length : Int) then cmpS (rd l ((l.length : Int) - 1)).mAt v.mAt else default) then (([] : List Version), (9 : Int)) else bif eqI (l.length : Int) 64 then ([], 6) else (l ++ [v], 0)) = (bif (ltI 0 (l.length : Int)) && (leI 0 (cmpS (lastV l).mAt v.mAt)) then ([], 9) else bif eqI (l.length : Int) 64 then ([], 6) else (l ++ [v], 0)) := by
        unfold lastV
        cases ltI 0 (l.length : Int) <;> rfl
      show Ev _ (bif (ltI 0 (l.length : Int)) && (leI 0 (cmpS (lastV l).mAt v.mAt)) then ([], 9) else bif eqI (l.length : Int) 64 then ([], 6) else (l ++ [v], 0))
      rw [← e]
      refine Ev.bif (fun _ => Ev.of fun _ => rfl) fun _ => Ev.bif (fun _ => Ev.of fun _ => rfl) fun _ => ?_
      refine Ev.bind (x := l) (Ev.of fun k => by unfold F170o; rw [appOK_mk (by simp; omega) (by simp; omega)]; rfl) ?_
      exact Ev.guard (appOK_mk (by simp; omega) (by simp; omega)) (Ev.of fun _ => rfl)
theorem V149_l1 (l : List Entry) (hl : l.length ≤ 1000) (hc : ∀ e ∈ l, e.mChain.length ≤ 1000) : ∀ m i, i + m = l.length → Ev (fun k => F149_l1 l k (l, (i : Int))) l
  | 0, i, hi => by
    refine Ev.from 1 fun k => ?_
    show F149_l1 l (k + 1) _ = _
    rw [F149_l1, ltI_nat, decide_eq_false (by omega)]; rfl
  | m + 1, i, hi => by
    have hlt : i < l.length := by omega
    refine Ev.succ (fun k => by rw [F149_l1]) ?_
    rw [ltI_nat, decide_eq_true hlt, inR_mk hlt, i64z (by omega), rd_nat _ _ hlt, Int.toNat_natCast]
    refine Ev.bind (V170 _ (hc _ (List.getElem_mem hlt))) ?_
    have : l.set i { l[i] with mChain := l[i].mChain } = l := List.set_getElem_self hlt
    show Ev (fun k => F149_l1 l k (l.set i { l[i] with mChain := l[i].mChain }, (i : Int) + 1)) _
    rw [this]
    exact V149_l1 l hl hc m (i + 1) (by omega)
theorem V149 (l : List Entry) (hl : l.length ≤ 1000) (hc : ∀ e ∈ l, e.mChain.length ≤ 1000) : Ev (fun k => F149 k l) l := by
  refine Ev.bind (x := l) (Ev.of fun k => by unfold F173o; rw [appOK_mk (by simp; omega) (by simp; omega)]; rfl) ?_
  exact Ev.bind (V149_l1 l hl hc l.length 0 (by omega)) (Ev.of fun _ => rfl)
theorem V149o_l1 (l : List Entry) (hl : l.length ≤ 1000) (hc : ∀ e ∈ l, e.mChain.length ≤ 1000) : ∀ m i, i + m = l.length → Ev (fun k => F149o_l1 l k (l, (i : Int))) l
  | 0, i, hi => by
    refine Ev.from 1 fun k => ?_
    show F149o_l1 l (k + 1) _ = _
    rw [F149o_l1, ltI_nat, decide_eq_false (by omega)]; rfl
  | m + 1, i, hi => by
    have hlt : i < l.length := by omega
    refine Ev.succ (fun k => by rw [F149o_l1]) ?_
    rw [ltI_nat, decide_eq_true hlt, inR_mk hlt, i64z (by omega), rd_nat _ _ hlt, Int.toNat_natCast]
    refine Ev.bind (V170 _ (hc _ (List.getElem_mem hlt))) ?_
    have : l.set i { l[i] with mChain := l[i].mChain } = l := List.set_getElem_self hlt
    show Ev (fun k => F149o_l1 l k (l.set i { l[i] with mChain := l[i].mChain }, (i : Int) + 1)) _
    rw [this]
    exact V149o_l1 l hl hc m (i + 1) (by omega)
theorem V149o (l : List Entry) (hl : l.length ≤ 1000) (hc : ∀ e ∈ l, e.mChain.length ≤ 1000) : Ev (fun k => F149o k l) l := by
  refine Ev.bind (x := l) (Ev.of fun k => by unfold F173o; rw [appOK_mk (by simp; omega) (by simp; omega)]; rfl) ?_
  exact Ev.bind (V149o_l1 l hl hc l.length 0 (by omega)) (Ev.of fun _ => rfl)
def putE (l : List Entry) (x : ByteArray) (v : Version) : List Entry × Int :=
  bif !(ixR l && keyR x && vR v) then ([], 1) else bif (ltI 0 ((ofL l x).length : Int)) && (leI 0 (cmpS (lastV (ofL l x)).mAt v.mAt)) then ([], 9) else
    bif (eqI ((ofL l x).length : Int) 64) || ((eqI ((ofL l x).length : Int) 0) && (eqI (l.length : Int) 64)) then ([], 6) else (insE l ⟨x, ofL l x ++ [v]⟩, 0)
theorem ixR_chains {l : List Entry} (h : ixR l = true) : ∀ e ∈ l, e.mChain.length ≤ 64 := fun e he => ((chR_iff _).1 (((ixR_iff l).1 h).2.1 e he).2.1).1
/-- index.Put. -/
theorem V127 (l : List Entry) (x : ByteArray) (v : Version) (hl : l.length ≤ 1000) (hc : ∀ e ∈ l, e.mChain.length ≤ 1000) : Ev (fun k => F127 k l x v) (putE l x v) := by
  refine Ev.bind (V81 l hl hc) (Ev.bind (optv fun _ => T122 _) ?_)
  unfold putE
  cases h : ixR l with
  | false => exact Ev.of fun _ => rfl
  | true =>
    cases hx : keyR x with
    | false => exact Ev.of fun _ => rfl
    | true =>
      obtain ⟨h64, hm, hs⟩ := (ixR_iff l).1 h
      rw [List.pairwise_iff_getElem] at hs
      refine EvP.ev (EvP.bind ((V148 l x h).mono fun r hr => ?_))
      obtain ⟨r1, r2⟩ := r
      obtain ⟨n, e, hp, q⟩ := hr
      simp only at e q
      subst e
      have ho := ofL_pos h hp
      have hfound : r2 = true → ∃ hn : n < l.length, l[n].mKey = x ∧ ofL l x = l[n].mChain := fun h2 => by
        rw [h2] at q
        have q := q.symm
        rw [Bool.and_eq_true, decide_eq_true_eq, eqI_iff] at q
        have hn := q.1
        rw [rd_nat _ _ hn] at q
        have e := key_inj (hm _ (List.getElem_mem hn)).1 hx q.2
        rw [dif_pos hn, if_pos e] at ho
        exact ⟨hn, e, ho⟩
      have hmiss : r2 = false → ofL l x = [] ∧ ∀ h : n < l.length, 0 < cmpK l[n].mKey x := fun h2 => by
        rw [h2] at q
        have q := q.symm
        rw [Bool.and_eq_false_iff, decide_eq_false_iff_not, eqI_false] at q
        by_cases hn : n < l.length
        · rw [rd_nat _ _ hn] at q
          have hne : cmpK l[n].mKey x ≠ 0 := by
            rcases q with q | q
            · exact absurd hn q
            · exact q
          have := hp.ge n (Nat.le_refl _) hn
          rw [dif_pos hn, if_neg (fun e => hne (by rw [e, cmpK_self]))] at ho
          exact ⟨ho, fun _ => by omega⟩
        · rw [dif_neg hn] at ho
          exact ⟨ho, fun h => absurd h hn⟩
      have hch : Ev (fun k => bif r2 then (bif inR (n : Int) l.length then (some (rd l (n : Int)).mChain) else none) else (some [])) (ofL l x) := by
        cases hr : r2 with
        | true =>
          obtain ⟨hn, _, e⟩ := hfound hr
          exact Ev.guard (inR_mk hn) (Ev.of fun _ => by rw [rd_nat _ _ hn, e])
        | false => exact Ev.of fun _ => by rw [(hmiss hr).1]; rfl
      refine Ev.evP (Ev.bind hch (Ev.bind (V158 _ v (ofL_chR h x)) ?_))
      unfold addV
      cases hv : vR v with
      | false => exact Ev.of fun _ => rfl
      | true =>
        simp only [Bool.not_true, cond_false, Bool.and_true, Bool.true_and]
        cases h9 : (ltI 0 ((ofL l x).length : Int)) && (leI 0 (cmpS (lastV (ofL l x)).mAt v.mAt)) with
        | true => exact Ev.of fun _ => rfl
        | false =>
          cases h64' : eqI ((ofL l x).length : Int) 64 with
          | true => exact Ev.of fun _ => rfl
          | false =>
            simp only [cond_false, Bool.false_or]
            show Ev (fun k => bif (!r2) && (eqI (l.length : Int) 64) then (some (([] : List Entry), 6)) else _) _
            have hnil : eqI ((ofL l x).length : Int) 0 = !r2 := by
              cases hr : r2 with
              | true =>
                obtain ⟨hn, _, e⟩ := hfound hr
                rw [e]
                have := List.length_pos_iff.2 (hm _ (List.getElem_mem hn)).2.2
                rw [Bool.not_true, eqI_false]; omega
              | false => rw [(hmiss hr).1]; rfl
            rw [hnil]
            refine Ev.bif (fun _ => Ev.of fun _ => rfl) fun _ => ?_
            refine Ev.bind (V149o l hl hc) ?_
            cases hr : r2 with
            | true =>
              obtain ⟨hn, e, e2⟩ := hfound hr
              refine Ev.guard (inR_mk hn) (Ev.of fun _ => ?_)
              rw [Int.toNat_natCast, rd_nat _ _ hn, insE_set _ l n hn (fun i hi => hp.lt i hi (by omega)) e]
              show some (l.set n (⟨l[n].mKey, ofL l x ++ [v]⟩ : Entry), (0 : Int)) = some (l.set n ⟨x, ofL l x ++ [v]⟩, 0)
              rw [e]
            | false =>
              obtain ⟨e, e2⟩ := hmiss hr
              have hle := hp.le
              refine Ev.guard (decide_eq_true ⟨by omega, by omega, by omega, by omega⟩) (Ev.guard ?_ (Ev.of fun _ => ?_))
              · rw [Int.toNat_natCast]
                exact inR_mk (by simp; omega)
              · rw [Int.toNat_natCast, insE_ins ⟨x, ofL l x ++ [v]⟩ l n hle (fun i hi => hp.lt i hi (by omega)) e2]
                have hA : (l.take n).length = n := by simp; omega
                generalize l.take n = A at hA
                generalize l.drop n = B
                have e3 : A ++ [(⟨x, []⟩ : Entry)] ++ B = A ++ (⟨x, []⟩ : Entry) :: B := by simp
                rw [e3, ← hA]
                have r1 : rd (A ++ (⟨x, []⟩ : Entry) :: B) (A.length : Int) = ⟨x, []⟩ := by
                  rw [rd_nat _ _ (by simp)]; simp
                rw [r1, List.set_append_right _ _ (Nat.le_refl _)]
                simp
end Go.Proofs.Gd
set_option linter.unusedVariables false
set_option linter.unusedSimpArgs false
namespace Go.Proofs.Gd
open Go Go.Awp
def zD : Done := ⟨0, 0, ⟨0, ⟨0, 0, 0⟩, false, ⟨#[]⟩, [], ⟨#[]⟩, false⟩⟩
def rowL : List Done → Int → Done × Bool
  | [], _ => (zD, false)
  | d :: l, c => bif eqI d.mClient c then (d, true) else rowL l c
abbrev SortD (l : List Done) : Prop := l.Pairwise (fun a b => a.mClient < b.mClient)
theorem rowL_none : ∀ (l : List Done) (c : Int), (∀ d ∈ l, d.mClient ≠ c) → rowL l c = (zD, false)
  | [], _, _ => rfl
  | d :: l, c, h => by rw [rowL, eqI_false.2 (h d (by simp))]; exact rowL_none l c fun y hy => h y (by simp [hy])
theorem rowL_at (c : Int) : ∀ (l : List Done) (n : Nat) (hn : n < l.length), l[n].mClient = c → (∀ i (hi : i < n), (l[i]'(by omega)).mClient ≠ c) → rowL l c = (l[n], true)
  | d :: l, 0, hn, h, _ => by rw [rowL, (eqI_iff.2 h : eqI d.mClient c = true)]; rfl
  | d :: l, n + 1, hn, h, hh => by
    rw [rowL, (eqI_false.2 (hh 0 (by omega)) : eqI d.mClient c = false)]
    exact rowL_at c l n (by simpa using hn) h fun i hi => hh (i + 1) (by omega)
theorem rowL_mem : ∀ (l : List Done) (c : Int), (rowL l c).2 = true → (rowL l c).1 ∈ l ∧ (rowL l c).1.mClient = c
  | [], _, h => by cases h
  | d :: l, c, h => by
    rw [rowL] at h ⊢
    cases h1 : eqI d.mClient c with
    | true => exact ⟨by simp, eqI_iff.1 h1⟩
    | false =>
      rw [h1] at h
      have := rowL_mem l c h
      exact ⟨by simp [this.1], this.2⟩
theorem rowL_no : ∀ (l : List Done) (c : Int), (rowL l c).2 = false → (rowL l c).1 = zD ∧ ∀ d ∈ l, d.mClient ≠ c
  | [], _, _ => ⟨rfl, fun d hd => by cases hd⟩
  | d :: l, c, h => by
    rw [rowL] at h ⊢
    cases h1 : eqI d.mClient c with
    | true => rw [h1] at h; cases h
    | false =>
      rw [h1] at h
      have := rowL_no l c h
      refine ⟨this.1, fun y hy => ?_⟩
      rw [List.mem_cons] at hy
      rcases hy with rfl | hy
      · exact eqI_false.1 h1
      · exact this.2 y hy
/-- Where a client stands, or is to stand. -/
structure PosD (l : List Done) (c : Int) (n : Nat) : Prop where
  le : n ≤ l.length
  lt : ∀ i (hi : i < n) (h : i < l.length), l[i].mClient < c
  ge : ∀ (h : n < l.length), c ≤ l[n].mClient
theorem findI_pos (c : Int) : ∀ (l : List Done) (i : Nat), ∃ n, PosD l c n ∧ findI (fun d => leI c d.mClient) l i = if n < l.length then ((i + n : Nat) : Int) else -1
  | [], i => ⟨0, ⟨by simp, fun i hi h => by simp at h, fun h => by simp at h⟩, by simp [findI]⟩
  | d :: l, i => by
    rw [findI]
    cases h : leI c d.mClient with
    | true => exact ⟨0, ⟨by simp, fun i hi h => by omega, fun _ => leI_iff.1 h⟩, by simp⟩
    | false =>
      obtain ⟨n, hp, he⟩ := findI_pos c l (i + 1)
      refine ⟨n + 1, ⟨by have := hp.le; simp; omega, fun j hj h' => ?_, fun h' => ?_⟩, ?_⟩
      · cases j with
        | zero => exact leI_false.1 h
        | succ j => exact hp.lt j (by omega) (by simpa using h')
      · exact hp.ge (by simpa using h')
      · simp only [Bool.false_eq_true, if_false]
        rw [he]
        by_cases hn : n < l.length
        · rw [if_pos hn, if_pos (by simpa using hn)]
          congr 1; omega
        · rw [if_neg hn, if_neg (by simpa using hn)]
theorem V157 (l : List Done) (c : Int) (hl : l.length ≤ 1000) (hs : SortD l) : EvP (fun k => F157 k l c) (fun r => ∃ n : Nat, r.1 = (n : Int) ∧ PosD l c n ∧ r.2 = (rowL l c).2 ∧ (r.2 = true → ∃ hn : n < l.length, l[n].mClient = c ∧ rowL l c = (l[n], true))) := by
  have hp' := hs
  unfold SortD at hs
  rw [List.pairwise_iff_getElem] at hs
  obtain ⟨n, hp, he⟩ := findI_pos c l 0
  have h1 : Ev (fun k => F175_176 k l c) (findI (fun d => leI c d.mClient) l 0) := idx_ev (f := F175_176_l1 l c) (q := fun d => leI c d.mClient) (p := fun k x => F176 k x c) (by omega) (fun _ => rfl) (fun _ _ => rfl) fun x _ => Ev.of fun _ => rfl
  rw [he] at h1
  refine EvP.bind (h1.evP.mono fun t ht => ?_)
  subst ht
  have hno : ∀ j (hj : j < l.length), n < j → l[j].mClient ≠ c := fun j hj hnj => by
    have h2 := hs n j (by omega) hj hnj
    have h3 := hp.ge (by omega)
    omega
  by_cases hn : n < l.length
  · rw [if_pos hn, Nat.zero_add]
    have e1 : ltI (n : Int) 0 = false := by rw [ltI_false]; omega
    rw [e1]
    refine EvP.guard (inR_mk hn) (EvP.some ⟨n, rfl, hp, ?_, fun h => ?_⟩)
    · rw [rd_nat _ _ hn]
      by_cases e : l[n].mClient = c
      · rw [eqI_iff.2 e, rowL_at c l n hn e fun i hi => by have := hp.lt i hi (by omega); omega]
      · rw [eqI_false.2 e, rowL_none]
        intro d hd
        obtain ⟨j, hj, rfl⟩ := List.mem_iff_getElem.1 hd
        by_cases h1 : j < n
        · have := hp.lt j h1 hj; omega
        · by_cases h2 : j = n
          · subst h2; exact e
          · exact hno j hj (by omega)
    · rw [rd_nat _ _ hn] at h
      have e : l[n].mClient = c := eqI_iff.1 h
      exact ⟨hn, e, rowL_at c l n hn e fun i hi => by have := hp.lt i hi (by omega); omega⟩
  · rw [if_neg hn]
    refine EvP.some ⟨l.length, rfl, ⟨Nat.le_refl _, fun i hi h => hp.lt i (by omega) h, fun h => absurd h (Nat.lt_irrefl _)⟩, ?_, fun h => by cases h⟩
    rw [rowL_none]
    intro d hd
    obtain ⟨j, hj, rfl⟩ := List.mem_iff_getElem.1 hd
    have := hp.lt j (by omega) hj; omega
theorem V126 (l : List Done) (c : Int) (h : dnR l = true) : Ev (fun k => F126 k l c) (rowL l c) := by
  obtain ⟨hl, _, hs⟩ := (dnR_iff l).1 h
  refine Ev.bind (V82 l (by omega)) ?_
  rw [h]
  refine EvP.ev (EvP.bind ((V157 l c (by omega) hs).mono fun r hr => ?_))
  obtain ⟨r1, r2⟩ := r
  obtain ⟨n, e, hp, q, hf⟩ := hr
  simp only at e q hf
  subst e
  show EvP (fun k => bif !r2 then _ else _) _
  cases hr : r2 with
  | false =>
    rw [hr] at q
    refine EvP.some ?_
    have := (rowL_no l c q.symm).1
    show (zD, false) = rowL l c
    rw [← this, q]
  | true =>
    obtain ⟨hn, _, e⟩ := hf hr
    refine EvP.guard (inR_mk hn) (EvP.some ?_)
    rw [rd_nat _ _ hn, e]
/-- 1: new; 2: the same; 3: old. -/
def judge (l : List Done) (c q : Int) : Int := bif !(dnR l && oneB c && oneB q) then 0 else bif (!(rowL l c).2) || ltI (rowL l c).1.mReq q then 1 else bif eqI q (rowL l c).1.mReq then 2 else 3
theorem V125 (l : List Done) (c q : Int) (hl : l.length ≤ 1000) : Ev (fun k => F125 k l c q) (judge l c q) := by
  refine Ev.bind (V82 l hl) (Ev.bind (optv fun _ => (Ev.of fun _ => rfl : Ev (fun k => F137 k c) (oneB c))) (Ev.bind (optv fun _ => (Ev.of fun _ => rfl : Ev (fun k => F137 k q) (oneB q))) ?_))
  unfold judge
  cases h : dnR l with
  | false => exact Ev.of fun _ => rfl
  | true =>
    cases oneB c with
    | false => exact Ev.of fun _ => rfl
    | true =>
      cases oneB q with
      | false => exact Ev.of fun _ => rfl
      | true =>
        refine Ev.bind (V126 l c h) ?_
        exact Ev.bif (fun _ => Ev.of fun _ => rfl) fun _ => Ev.bif (fun _ => Ev.of fun _ => rfl) fun _ => Ev.of fun _ => rfl
def insD : List Done → Done → List Done
  | [], d => [d]
  | y :: l, d => bif ltI y.mClient d.mClient then y :: insD l d else bif eqI y.mClient d.mClient then d :: l else d :: y :: l
theorem insD_set (e : Done) : ∀ (l : List Done) (n : Nat) (hn : n < l.length), (∀ i (hi : i < n), (l[i]'(by omega)).mClient < e.mClient) → l[n].mClient = e.mClient → insD l e = l.set n e
  | y :: l, 0, _, _, h => by
    have h : y.mClient = e.mClient := h
    rw [insD, ltI_false.2 (by omega), eqI_iff.2 h]; rfl
  | y :: l, n + 1, hn, hh, h => by
    have h0 : y.mClient < e.mClient := hh 0 (by omega)
    rw [insD, ltI_iff.2 h0, insD_set e l n (by simpa using hn) (fun i hi => hh (i + 1) (by omega)) h]; rfl
theorem insD_ins (e : Done) : ∀ (l : List Done) (n : Nat) (hn : n ≤ l.length), (∀ i (hi : i < n), (l[i]'(by omega)).mClient < e.mClient) → (∀ h : n < l.length, e.mClient < l[n].mClient) → insD l e = l.take n ++ [e] ++ l.drop n
  | [], 0, _, _, _ => rfl
  | [], n + 1, hn, _, _ => by simp at hn
  | y :: l, 0, _, _, h => by
    have h : e.mClient < y.mClient := h (by simp)
    rw [insD, ltI_false.2 (by omega), eqI_false.2 (by omega)]; rfl
  | y :: l, n + 1, hn, hh, h => by
    have h0 : y.mClient < e.mClient := hh 0 (by omega)
    rw [insD, ltI_iff.2 h0, insD_ins e l n (by simpa using hn) (fun i hi => hh (i + 1) (by omega)) fun h2 => h (by simpa using h2)]; rfl
theorem insD_mem {e : Done} : ∀ {l : List Done}, SortD l → ∀ y, y ∈ insD l e ↔ y = e ∨ (y ∈ l ∧ y.mClient ≠ e.mClient)
  | [], _, y => by simp [insD]
  | x :: l, h, y => by
    have h := List.pairwise_cons.1 h
    have ih := insD_mem (e := e) h.2 y
    rw [insD]
    cases h1 : ltI x.mClient e.mClient with
    | true =>
      rw [ltI_iff] at h1
      rw [cond_true, List.mem_cons, ih, List.mem_cons]
      constructor
      · rintro (rfl | rfl | h2)
        · exact .inr ⟨.inl rfl, by omega⟩
        · exact .inl rfl
        · exact .inr ⟨.inr h2.1, h2.2⟩
      · rintro (rfl | ⟨rfl | h2, h3⟩)
        · exact .inr (.inl rfl)
        · exact .inl rfl
        · exact .inr (.inr ⟨h2, h3⟩)
    | false =>
      rw [ltI_false] at h1
      rw [cond_false]
      cases h2 : eqI x.mClient e.mClient with
      | true =>
        rw [eqI_iff] at h2
        rw [cond_true, List.mem_cons, List.mem_cons]
        constructor
        · rintro (rfl | h3)
          · exact .inl rfl
          · have := h.1 y h3; exact .inr ⟨.inr h3, by omega⟩
        · rintro (rfl | ⟨rfl | h3, h4⟩)
          · exact .inl rfl
          · exact absurd h2 h4
          · exact .inr h3
      | false =>
        rw [eqI_false] at h2
        rw [cond_false, List.mem_cons, List.mem_cons]
        constructor
        · rintro (rfl | rfl | h3)
          · exact .inl rfl
          · exact .inr ⟨.inl rfl, h2⟩
          · have := h.1 y h3; exact .inr ⟨.inr h3, by omega⟩
        · rintro (rfl | ⟨rfl | h3, h4⟩)
          · exact .inl rfl
          · exact .inr (.inl rfl)
          · exact .inr (.inr h3)
theorem insD_sort {e : Done} : ∀ {l : List Done}, SortD l → SortD (insD l e)
  | [], _ => by simp [insD]
  | x :: l, h => by
    have h0 := h
    have h := List.pairwise_cons.1 h
    have ih := insD_sort (e := e) h.2
    rw [insD]
    cases h1 : ltI x.mClient e.mClient with
    | true =>
      rw [ltI_iff] at h1
      rw [cond_true]; unfold SortD; rw [List.pairwise_cons]
      refine ⟨fun y hy => ?_, ih⟩
      rcases (insD_mem h.2 y).1 hy with rfl | h2
      · exact h1
      · exact h.1 y h2.1
    | false =>
      rw [ltI_false] at h1
      rw [cond_false]
      cases h2 : eqI x.mClient e.mClient with
      | true =>
        rw [eqI_iff] at h2
        rw [cond_true]; unfold SortD; rw [List.pairwise_cons]
        exact ⟨fun y hy => by have := h.1 y hy; omega, h.2⟩
      | false =>
        rw [eqI_false] at h2
        rw [cond_false]; unfold SortD; rw [List.pairwise_cons]
        refine ⟨fun y hy => ?_, h0⟩
        rw [List.mem_cons] at hy
        rcases hy with rfl | hy
        · omega
        · have := h.1 y hy; omega
theorem insD_len_in {e : Done} : ∀ {l : List Done}, SortD l → (∃ x ∈ l, x.mClient = e.mClient) → (insD l e).length = l.length
  | [], _, h => by obtain ⟨x, h1, _⟩ := h; cases h1
  | x :: l, h, ⟨y, hy, e'⟩ => by
    have h := List.pairwise_cons.1 h
    rw [List.mem_cons] at hy
    rw [insD]
    rcases hy with rfl | hy
    · rw [ltI_false.2 (by omega), eqI_iff.2 e']; rfl
    · have := h.1 y hy
      rw [ltI_iff.2 (by omega), cond_true, List.length_cons, insD_len_in h.2 ⟨y, hy, e'⟩]; rfl
theorem insD_le (e : Done) : ∀ l, (insD l e).length ≤ l.length + 1
  | [] => by simp [insD]
  | y :: l => by
    have := insD_le e l
    rw [insD]
    cases ltI y.mClient e.mClient <;> cases eqI y.mClient e.mClient <;> simp <;> omega
def putD (l : List Done) (d : Done) : List Done × Int :=
  bif !(dnR l && dnR [d]) then ([], 1) else bif (rowL l d.mClient).2 && leI d.mReq (rowL l d.mClient).1.mReq then ([], 9) else bif (!(rowL l d.mClient).2) && eqI (l.length : Int) 8 then ([], 6) else (insD l d, 0)
/-- dedup.Put. -/
theorem V128 (l : List Done) (d : Done) (hl : l.length ≤ 1000) : Ev (fun k => F128 k l d) (putD l d) := by
  refine Ev.bind (V82 l hl) (Ev.bind (optv fun _ => V82 [d] (by simp)) ?_)
  unfold putD
  cases h : dnR l with
  | false => exact Ev.of fun _ => rfl
  | true =>
    cases dnR [d] with
    | false => exact Ev.of fun _ => rfl
    | true =>
      obtain ⟨h8, _, hs⟩ := (dnR_iff l).1 h
      refine EvP.ev (EvP.bind ((V157 l d.mClient hl hs).mono fun r hr => ?_))
      obtain ⟨r1, r2⟩ := r
      obtain ⟨n, e, hp, q, hf⟩ := hr
      simp only at e q hf
      subst e
      show EvP (fun k => bif (!r2 || inR (n : Int) l.length) then (bif (r2 && (leI d.mReq (rd l (n : Int)).mReq)) then (some (([] : List Done), (9 : Int))) else (bif ((!r2) && (eqI (l.length : Int) 8)) then (some (([] : List Done), 6)) else ((F160o k l).bind fun t46 => bif r2 then (bif inR (n : Int) t46.length then (some ((t46.set (n : Int).toNat d), 0)) else none) else (bif insOK 120 (n : Int) t46.length then (some ((List.take (n : Int).toNat t46 ++ [d] ++ List.drop (n : Int).toNat t46), 0)) else none)))) else none) _
      have hle := hp.le
      have hcl : Ev (fun k => F160o k l) l := Ev.of fun k => by unfold F160o; rw [appOK_mk (by simp; omega) (by simp; omega)]; rfl
      cases hr : r2 with
      | false =>
        rw [hr] at q
        rw [← q]
        have hno := (rowL_no l _ q.symm).2
        refine Ev.evP (Ev.guard rfl (Ev.bif (fun h => by cases h) fun _ => Ev.bif (fun _ => Ev.of fun _ => rfl) fun _ => Ev.bind hcl (Ev.guard (decide_eq_true ⟨by omega, by omega, by omega, by omega⟩) (Ev.of fun _ => ?_))))
        rw [Int.toNat_natCast, insD_ins d l n hle (fun i hi => hp.lt i hi (by omega)) fun hn => ?_]
        have := hp.ge hn
        have := hno _ (List.getElem_mem hn)
        omega
      | true =>
        rw [hr] at q
        rw [← q]
        obtain ⟨hn, e1, e2⟩ := hf hr
        have e3 : (rowL l d.mClient).1 = l[n] := by rw [e2]
        rw [e3, rd_nat _ _ hn]
        refine Ev.evP (Ev.guard (by rw [inR_mk hn]; rfl) (Ev.bif (fun _ => Ev.of fun _ => rfl) fun _ => Ev.bif (fun h => by cases h) fun _ => Ev.bind hcl (Ev.guard (inR_mk hn) (Ev.of fun _ => ?_))))
        rw [Int.toNat_natCast, insD_set d l n hn (fun i hi => hp.lt i hi (by omega)) e1]
end Go.Proofs.Gd
set_option linter.unusedVariables false
set_option linter.unusedSimpArgs false
namespace Go.Proofs.Gd
open Go Go.Awp
def inK (x lo hi : ByteArray) : Bool := leI (cmpK lo x) 0 && (strEq hi ⟨#[]⟩ || ltI (cmpK x hi) 0)
def itemE (e : Entry) (t : Stamp) : Item := ⟨e.mKey, (valV e.mChain t).1⟩
def aliveE (l : List Entry) (lo hi : ByteArray) (t : Stamp) : List Item := l.filterMap fun e => if ((valV e.mChain t).2 && inK e.mKey lo hi) = true then some (itemE e t) else none
def aliveH (l : List Entry) (hi : ByteArray) (t : Stamp) : List Item := l.filterMap fun e => if ((valV e.mChain t).2 && (strEq hi ⟨#[]⟩ || ltI (cmpK e.mKey hi) 0)) = true then some (itemE e t) else none
def pageP (l : List Entry) (lo hi : ByteArray) (t : Stamp) (n : Nat) : List Item × ByteArray × Bool :=
  if (aliveE l lo hi t).length ≤ n then (aliveE l lo hi t, ⟨#[]⟩, false) else ((aliveE l lo hi t).take n, (rd (aliveE l lo hi t) (n : Int)).mKey, true)
def resP (l : List Item) (n : Nat) : LR (List Item × ByteArray × Bool) (List Item) := if l.length ≤ n then .out l else .ret (l.take n, (rd l (n : Int)).mKey, true)
theorem V129_l1 (l : List Entry) (hi : ByteArray) (t : Stamp) (n : Nat) (p : Nat) (h : ixR l = true) : ∀ q i (items : List Item), i + q = (l.drop p).length → items.length ≤ n → items.length ≤ i →
    Ev (fun k => F129_l1 l hi t (n : Int) (p : Int) k (items, (i : Int))) (resP (items ++ aliveH ((l.drop p).drop i) hi t) n) := by
  obtain ⟨hl, hm, hs⟩ := (ixR_iff l).1 h
  have hs' : (l.drop p).Pairwise (fun a b => cmpK a.mKey b.mKey < 0) := hs.sublist (List.drop_sublist _ _)
  have hm' : ∀ e ∈ l.drop p, chR e.mChain = true := fun e he => (hm e (List.mem_of_mem_drop he)).2.1
  have hl' : (l.drop p).length ≤ 64 := by rw [List.length_drop]; omega
  intro q
  induction q with
  | zero =>
    intro i items hi' hn ha
    refine Ev.from 1 fun k => ?_
    show F129_l1 l hi t _ _ (k + 1) (items, _) = _
    rw [F129_l1, Int.toNat_natCast, ltI_nat, decide_eq_false (by omega), List.drop_of_length_le (i := i) (by omega)]
    show some (LR.out items) = _
    unfold resP aliveH
    rw [List.filterMap_nil, List.append_nil, if_pos hn]
  | succ q ih =>
    intro i items hi' hn ha
    have hlt : i < (l.drop p).length := by omega
    refine Ev.succ (fun k => by rw [F129_l1]) ?_
    rw [Int.toNat_natCast, ltI_nat, decide_eq_true hlt, inR_mk hlt, i64z (by omega), rd_nat _ _ hlt]
    refine Ev.bind (optv fun _ => V124 _ _) ?_
    have hd : (l.drop p).drop i = (l.drop p)[i] :: (l.drop p).drop (i + 1) := List.drop_eq_getElem_cons hlt
    have he := hm' _ (List.getElem_mem hlt)
    have ih := fun items => ih (i + 1) items (by omega)
    rw [hd]
    have hge : ∀ e ∈ (l.drop p).drop (i + 1), cmpK (l.drop p)[i].mKey e.mKey < 0 := fun e he => by
      obtain ⟨j, hj, rfl⟩ := List.mem_iff_getElem.1 he
      have hj2 : i + 1 + j < (l.drop p).length := by
        have := hj
        simp only [List.length_drop] at this ⊢
        omega
      rw [List.pairwise_iff_getElem] at hs'
      have := hs' _ _ hlt hj2 (by omega)
      rwa [← List.getElem_drop (xs := l.drop p) (i := i + 1) (h := hj)] at this
    generalize (l.drop p)[i] = e at he hge
    generalize (l.drop p).drop (i + 1) = R at ih hge
    have eb : ((!strEq hi ⟨#[]⟩) && leI 0 (bif !strEq hi ⟨#[]⟩ then cmpK e.mKey hi else default)) = !(strEq hi ⟨#[]⟩ || ltI (cmpK e.mKey hi) 0) := by
      cases strEq hi ⟨#[]⟩ with
      | true => rfl
      | false => simp only [Bool.not_false, cond_true, Bool.true_and, Bool.false_or]; exact leI_lt _
    show Ev (fun k => bif ((!strEq hi ⟨#[]⟩) && leI 0 (bif !strEq hi ⟨#[]⟩ then cmpK e.mKey hi else default)) then some (LR.out items) else _) _
    rw [eb]
    cases hc : (strEq hi ⟨#[]⟩ || ltI (cmpK e.mKey hi) 0) with
    | false =>
      have hnil : aliveH (e :: R) hi t = [] := by
        unfold aliveH
        rw [List.filterMap_eq_nil_iff]
        rw [Bool.or_eq_false_iff, ltI_false] at hc
        intro y hy
        have hy2 : (strEq hi ⟨#[]⟩ || ltI (cmpK y.mKey hi) 0) = false := by
          rw [Bool.or_eq_false_iff, ltI_false]
          refine ⟨hc.1, ?_⟩
          rw [List.mem_cons] at hy
          rcases hy with rfl | hy
          · exact hc.2
          · apply Classical.byContradiction
            intro h3
            have := cmpK_trans (hge y hy) (by omega : cmpK y.mKey hi < 0)
            omega
        rw [hy2, Bool.and_false]; rfl
      rw [hnil]
      refine Ev.of fun _ => ?_
      unfold resP
      rw [List.append_nil, if_pos hn]; rfl
    | true =>
      simp only [Bool.not_true, cond_false]
      refine Ev.bind (V162 _ t he) ?_
      show Ev (fun k => bif !(valV e.mChain t).2 then F129_l1 l hi t (n : Int) (p : Int) k (items, (i : Int) + 1) else (bif leI (n : Int) (items.length : Int) then some (LR.ret (items, e.mKey, true)) else (bif appOK 32 items.length [itemE e t].length then F129_l1 l hi t (n : Int) (p : Int) k (items ++ [itemE e t], (i : Int) + 1) else none))) _
      have ecs : aliveH (e :: R) hi t = (bif (valV e.mChain t).2 then [itemE e t] else []) ++ aliveH R hi t := by
        unfold aliveH
        rw [List.filterMap_cons, hc, Bool.and_true]
        cases (valV e.mChain t).2 <;> simp
      rw [ecs]
      cases hv : (valV e.mChain t).2 with
      | false =>
        have := ih items (by omega) (by omega)
        simpa using this
      | true =>
        simp only [Bool.not_true, cond_false, cond_true]
        rw [leI_nat]
        by_cases hfull : n ≤ items.length
        · rw [decide_eq_true hfull]
          refine Ev.of fun _ => ?_
          have hen : n = items.length := by omega
          subst hen
          unfold resP
          rw [if_neg (by simp)]
          have e1 : (items ++ ([itemE e t] ++ aliveH R hi t)).take items.length = items := by simp
          have e2 : rd (items ++ ([itemE e t] ++ aliveH R hi t)) (items.length : Int) = itemE e t := by
            rw [rd_nat _ _ (by simp)]; simp
          rw [e1, e2]
          rfl
        · rw [decide_eq_false hfull]
          have := ih (items ++ [itemE e t]) (by simp; omega) (by simp; omega)
          rw [List.append_assoc] at this
          exact Ev.guard (appOK_mk (by simp; omega) (by simp; omega)) this
theorem fm_congr {α β : Type} {f g : α → Option β} : ∀ {l : List α}, (∀ x ∈ l, f x = g x) → l.filterMap f = l.filterMap g
  | [], _ => rfl
  | x :: l, h => by rw [List.filterMap_cons, List.filterMap_cons, h x (by simp), fm_congr fun y hy => h y (by simp [hy])]
theorem alive_drop {l : List Entry} {lo : ByteArray} {p : Nat} (hp : PosK l lo p) (h : ixR l = true) (hi : ByteArray) (t : Stamp) : aliveE l lo hi t = aliveH (l.drop p) hi t := by
  obtain ⟨_, _, hs⟩ := (ixR_iff l).1 h
  unfold aliveE aliveH
  have e1 : l = l.take p ++ l.drop p := (List.take_append_drop p l).symm
  have e2 : (l.take p).filterMap (fun e => if ((valV e.mChain t).2 && inK e.mKey lo hi) = true then some (itemE e t) else none) = [] := by
    rw [List.filterMap_eq_nil_iff]
    intro y hy
    obtain ⟨j, hj, rfl⟩ := List.mem_iff_getElem.1 hy
    rw [List.getElem_take]
    have hj' : j < p := by rw [List.length_take] at hj; omega
    have := hp.lt j hj' (by rw [List.length_take] at hj; omega)
    have ha := cmpK_anti (l[j]'(by rw [List.length_take] at hj; omega)).mKey lo
    unfold inK
    rw [leI_false.2 (by omega), Bool.false_and, Bool.and_false]; rfl
  have e3 : (l.drop p).filterMap (fun e => if ((valV e.mChain t).2 && inK e.mKey lo hi) = true then some (itemE e t) else none) = (l.drop p).filterMap (fun e => if ((valV e.mChain t).2 && (strEq hi ⟨#[]⟩ || ltI (cmpK e.mKey hi) 0)) = true then some (itemE e t) else none) := by
    refine fm_congr fun y hy => ?_
    obtain ⟨j, hj, rfl⟩ := List.mem_iff_getElem.1 hy
    rw [List.getElem_drop]
    rw [List.length_drop] at hj
    have := hp.ge (p + j) (by omega) (by omega)
    have ha := cmpK_anti (l[p + j]'(by omega)).mKey lo
    unfold inK
    rw [leI_iff.2 (by omega), Bool.true_and]
  rw [← e3]
  conv => lhs; rw [e1]
  rw [List.filterMap_append, e2, List.nil_append]
/-- index.Page. -/
theorem V129 (l : List Entry) (lo hi : ByteArray) (t : Stamp) (n : Nat) (h : ixR l = true) : Ev (fun k => F129 k l lo hi t (n : Int)) (pageP l lo hi t n) := by
  obtain ⟨hl, hm, _⟩ := (ixR_iff l).1 h
  refine Ev.bind (V81 l (by omega) fun e he => by have := ((chR_iff _).1 (hm e he).2.1).1; omega) ?_
  rw [h]
  refine EvP.ev (EvP.bind ((V148 l lo h).mono fun r hr => ?_))
  obtain ⟨r1, r2⟩ := r
  obtain ⟨p, e, hp, q⟩ := hr
  simp only at e q
  subst e
  have hle := hp.le
  have h1 := V129_l1 l hi t n p h (l.drop p).length 0 [] (by omega) (by simp) (by simp)
  rw [List.drop_zero, List.nil_append, ← alive_drop hp h] at h1
  refine Ev.evP (Ev.bind (x := resP (aliveE l lo hi t) n) (Ev.guard (cutOK_mk (by omega) (by omega) (by omega)) h1) ?_)
  unfold resP pageP
  by_cases hc : (aliveE l lo hi t).length ≤ n
  · rw [if_pos hc, if_pos hc]; exact Ev.of fun _ => rfl
  · rw [if_neg hc, if_neg hc]; exact Ev.of fun _ => rfl
end Go.Proofs.Gd
set_option linter.unusedVariables false
set_option linter.unusedSimpArgs false
namespace Go.Proofs.Gd
open Go Go.Awp
theorem insE_mem {e : Entry} : ∀ {l : List Entry} {y : Entry}, y ∈ insE l e → y = e ∨ y ∈ l
  | [], y, h => by simp [insE] at h; exact .inl h
  | x :: l, y, h => by
    rw [insE] at h
    cases h1 : ltI (cmpK x.mKey e.mKey) 0 with
    | true =>
      rw [h1, cond_true, List.mem_cons] at h
      rcases h with rfl | h
      · exact .inr (by simp)
      · rcases insE_mem h with h | h
        · exact .inl h
        · exact .inr (by simp [h])
    | false =>
      rw [h1, cond_false] at h
      cases h2 : strEq x.mKey e.mKey with
      | true =>
        rw [h2, cond_true, List.mem_cons] at h
        rcases h with rfl | h
        · exact .inl rfl
        · exact .inr (by simp [h])
      | false =>
        rw [h2, cond_false, List.mem_cons] at h
        rcases h with rfl | h
        · exact .inl rfl
        · exact .inr h
theorem insE_sort {e : Entry} (he : keyR e.mKey = true) : ∀ {l : List Entry}, (∀ y ∈ l, keyR y.mKey = true) → l.Pairwise (fun a b => cmpK a.mKey b.mKey < 0) → (insE l e).Pairwise (fun a b => cmpK a.mKey b.mKey < 0)
  | [], _, _ => by simp [insE]
  | x :: l, hk, h => by
    have h0 := h
    rw [List.pairwise_cons] at h
    rw [insE]
    cases h1 : ltI (cmpK x.mKey e.mKey) 0 with
    | true =>
      rw [ltI_iff] at h1
      rw [cond_true, List.pairwise_cons]
      refine ⟨fun y hy => ?_, insE_sort he (fun y hy => hk y (by simp [hy])) h.2⟩
      rcases insE_mem hy with rfl | h2
      · exact h1
      · exact h.1 y h2
    | false =>
      rw [ltI_false] at h1
      rw [cond_false]
      cases h2 : strEq x.mKey e.mKey with
      | true =>
        rw [strEq_true] at h2
        rw [cond_true, List.pairwise_cons]
        exact ⟨fun y hy => by rw [← h2]; exact h.1 y hy, h.2⟩
      | false =>
        rw [strEq_false] at h2
        rw [cond_false, List.pairwise_cons]
        have hne : cmpK x.mKey e.mKey ≠ 0 := fun h3 => h2 (key_inj (hk x (by simp)) he h3)
        have ha := cmpK_anti x.mKey e.mKey
        refine ⟨fun y hy => ?_, h0⟩
        rw [List.mem_cons] at hy
        rcases hy with rfl | hy
        · omega
        · exact cmpK_trans (by omega) (h.1 y hy)
theorem insE_le (e : Entry) : ∀ l : List Entry, (insE l e).length ≤ l.length + 1
  | [] => by simp [insE]
  | y :: l => by
    have := insE_le e l
    rw [insE]
    cases ltI (cmpK y.mKey e.mKey) 0 <;> cases strEq y.mKey e.mKey <;> simp <;> omega
theorem insE_len_in {e : Entry} : ∀ {l : List Entry}, l.Pairwise (fun a b => cmpK a.mKey b.mKey < 0) → (∃ x ∈ l, x.mKey = e.mKey) → (insE l e).length = l.length
  | [], _, h => by obtain ⟨x, h1, _⟩ := h; cases h1
  | x :: l, h, ⟨y, hy, e'⟩ => by
    rw [List.pairwise_cons] at h
    rw [List.mem_cons] at hy
    rw [insE]
    rcases hy with rfl | hy
    · rw [e', cmpK_self, strEq_true.2 rfl]; rfl
    · have := h.1 y hy
      rw [e'] at this
      rw [ltI_iff.2 this, cond_true, List.length_cons, insE_len_in h.2 ⟨y, hy, e'⟩]; rfl
/-- The chain of a key behind a put. -/
theorem ofL_ins {e : Entry} : ∀ {l : List Entry} (x : ByteArray), ofL (insE l e) x = bif strEq e.mKey x then e.mChain else ofL l x
  | [], x => rfl
  | y :: l, x => by
    rw [insE]
    cases h1 : ltI (cmpK y.mKey e.mKey) 0 with
    | true =>
      rw [cond_true, ofL, ofL_ins x, ofL]
      rw [ltI_iff] at h1
      cases h2 : strEq y.mKey x with
      | false => rfl
      | true =>
        cases h3 : strEq e.mKey x with
        | false => rfl
        | true =>
          rw [strEq_true] at h2 h3
          rw [h2, h3, cmpK_self] at h1; omega
    | false =>
      rw [cond_false]
      cases h2 : strEq y.mKey e.mKey with
      | true =>
        rw [strEq_true] at h2
        rw [cond_true, ofL, ofL, h2]
        cases strEq e.mKey x <;> rfl
      | false => rw [cond_false, ofL]
theorem chR_add {l : List Version} {v : Version} (h : chR l = true) (hv : vR v = true) (hl : l.length < 64) (hb : l = [] ∨ befS (lastV l).mAt v.mAt) : chR (l ++ [v]) = true := by
  have hlast := fun w hw => lastV_ge h w hw
  rw [chR_iff] at *
  refine ⟨by simp; omega, fun w hw => ?_, ?_⟩
  · rw [List.mem_append, List.mem_singleton] at hw
    rcases hw with hw | rfl
    · exact h.2.1 w hw
    · exact hv
  · rw [List.pairwise_append]
    refine ⟨h.2.2, by simp, fun a ha b hb' => ?_⟩
    rw [List.mem_singleton] at hb'
    subst hb'
    rcases hb with hb | hb
    · rw [hb] at ha; cases ha
    · exact befS_le (hlast a ha) hb
theorem lastV_add (l : List Version) (v : Version) : lastV (l ++ [v]) = v := by
  unfold lastV
  rw [List.length_append, List.length_singleton, show ((l.length + 1 : Nat) : Int) - 1 = (l.length : Int) by omega, rd_nat _ _ (by simp)]
  simp
/-- What a put that goes well has asked. -/
theorem putE_ok {l : List Entry} {x : ByteArray} {v : Version} (h : (putE l x v).2 = 0) : ixR l = true ∧ keyR x = true ∧ vR v = true ∧ (ofL l x = [] ∨ befS (lastV (ofL l x)).mAt v.mAt) ∧ (ofL l x).length < 64 ∧ (ofL l x = [] → l.length < 64) ∧ (putE l x v).1 = insE l ⟨x, ofL l x ++ [v]⟩ := by
  unfold putE at h ⊢
  cases h1 : ixR l && keyR x && vR v with
  | false => rw [h1] at h; cases h
  | true =>
    rw [h1] at h
    simp only [Bool.and_eq_true] at h1
    simp only [Bool.not_true, cond_false] at h ⊢
    cases h2 : (ltI 0 ((ofL l x).length : Int)) && (leI 0 (cmpS (lastV (ofL l x)).mAt v.mAt)) with
    | true => rw [h2] at h; cases h
    | false =>
      rw [h2] at h
      cases h3 : (eqI ((ofL l x).length : Int) 64) || ((eqI ((ofL l x).length : Int) 0) && (eqI (l.length : Int) 64)) with
      | true => rw [h3] at h; cases h
      | false =>
        have hc := ((chR_iff _).1 (ofL_chR h1.1.1 x)).1
        have hl := ((ixR_iff _).1 h1.1.1).1
        rw [Bool.and_eq_false_iff, ltI_false, leI_false, cmpS_lt] at h2
        rw [Bool.or_eq_false_iff, Bool.and_eq_false_iff, eqI_false, eqI_false, eqI_false] at h3
        refine ⟨h1.1.1, h1.1.2, h1.2, ?_, by omega, fun hn => ?_, rfl⟩
        · rcases h2 with h2 | h2
          · exact .inl (List.length_eq_zero_iff.1 (by omega))
          · exact .inr h2
        · have : (ofL l x).length = 0 := by rw [hn]; rfl
          omega
theorem putE_right {l : List Entry} {x : ByteArray} {v : Version} (h : (putE l x v).2 = 0) : ixR (putE l x v).1 = true := by
  obtain ⟨h1, h2, h3, h4, h5, h6, h7⟩ := putE_ok h
  rw [h7]
  have hch := chR_add (ofL_chR h1 x) h3 h5 h4
  rw [ixR_iff] at *
  refine ⟨?_, fun y hy => ?_, insE_sort h2 (fun y hy => (h1.2.1 y hy).1) h1.2.2⟩
  · rcases ofL_mem l x with hn | ⟨y, hy, hyk, _⟩
    · have := insE_le ⟨x, ofL l x ++ [v]⟩ l
      have := h6 hn
      omega
    · rw [insE_len_in h1.2.2 ⟨y, hy, hyk⟩]; exact h1.1
  · rcases insE_mem hy with rfl | hy
    · exact ⟨h2, hch, by simp⟩
    · exact h1.2.1 y hy
/-- What a put into a table that goes well has asked. -/
theorem putD_ok {l : List Done} {d : Done} (h : (putD l d).2 = 0) : dnR l = true ∧ dnR [d] = true ∧ ((rowL l d.mClient).2 = true → (rowL l d.mClient).1.mReq < d.mReq) ∧ ((rowL l d.mClient).2 = false → l.length < 8) ∧ (putD l d).1 = insD l d := by
  unfold putD at h ⊢
  cases h1 : dnR l && dnR [d] with
  | false => rw [h1] at h; cases h
  | true =>
    rw [h1] at h
    simp only [Bool.and_eq_true] at h1
    simp only [Bool.not_true, cond_false] at h ⊢
    cases h2 : (rowL l d.mClient).2 && leI d.mReq (rowL l d.mClient).1.mReq with
    | true => rw [h2] at h; cases h
    | false =>
      rw [h2] at h
      cases h3 : (!(rowL l d.mClient).2) && eqI (l.length : Int) 8 with
      | true => rw [h3] at h; cases h
      | false =>
        have hl := ((dnR_iff _).1 h1.1).1
        refine ⟨h1.1, h1.2, fun hf => ?_, fun hf => ?_, rfl⟩
        · rw [hf, Bool.true_and, leI_false] at h2; exact h2
        · rw [hf, Bool.not_false, Bool.true_and, eqI_false] at h3; omega
theorem putD_right {l : List Done} {d : Done} (h : (putD l d).2 = 0) : dnR (putD l d).1 = true := by
  obtain ⟨h1, h2, h3, h4, h5⟩ := putD_ok h
  rw [h5]
  have hd := ((dnR_iff _).1 h2).2.1 d (by simp)
  rw [dnR_iff] at h1 ⊢
  refine ⟨?_, fun y hy => ?_, insD_sort h1.2.2⟩
  · cases hf : (rowL l d.mClient).2 with
    | true =>
      have hm := rowL_mem l _ hf
      rw [insD_len_in h1.2.2 ⟨_, hm.1, hm.2⟩]; exact h1.1
    | false =>
      have := insD_le d l
      have := h4 hf
      omega
  · rcases (insD_mem h1.2.2 y).1 hy with rfl | hy
    · exact hd
    · exact h1.2.1 y hy.1
end Go.Proofs.Gd
set_option linter.unusedVariables false
set_option linter.unusedSimpArgs false
namespace Go.Proofs.Gd
open Go Go.Awp
def fault (e : Int) : Answer := ⟨e, ⟨0, 0, 0⟩, false, ⟨#[]⟩, [], ⟨#[]⟩, false⟩
def latA (c : Cell) (s : Shard) (x : ByteArray) : Answer := ⟨0, (readE s.mEntries x c.mTop).1.mAt, (readE s.mEntries x c.mTop).2 && !(readE s.mEntries x c.mTop).1.mGone, (readE s.mEntries x c.mTop).1.mValue, [], ⟨#[]⟩, false⟩
theorem V64 (c : Cell) (s : Shard) (x : ByteArray) (h : ixR s.mEntries = true) : Ev (fun k => F64 k c s x) (latA c s x) := Ev.bind (V118 _ x _ h) (Ev.of fun _ => rfl)
/-- The fault, the entries, the answer's fault and its text. -/
def stepP (c : Cell) (s : Shard) (r : Request) (now : Stamp) : Int × List Entry × Nat × ByteArray :=
  bif (eqI r.mKind 3) && ((!((latA c s r.mKey).mFound == r.mHad)) || ((latA c s r.mKey).mFound && (!strEq (latA c s r.mKey).mValue r.mOld))) then (0, s.mEntries, 15, (latA c s r.mKey).mValue) else
    bif !eqI r.mKind 2 then ((putE s.mEntries r.mKey ⟨now, false, r.mValue⟩).2, (putE s.mEntries r.mKey ⟨now, false, r.mValue⟩).1, 0, ⟨#[]⟩) else
      bif (latA c s r.mKey).mFound then ((putE s.mEntries r.mKey ⟨now, true, ⟨#[]⟩⟩).2, (putE s.mEntries r.mKey ⟨now, true, ⟨#[]⟩⟩).1, 0, ⟨#[]⟩) else (0, s.mEntries, 0, ⟨#[]⟩)
def ansP (c : Cell) (s : Shard) (r : Request) (now : Stamp) : Answer := ⟨((stepP c s r now).2.2.1 : Nat), now, (latA c s r.mKey).mFound, (stepP c s r now).2.2.2, [], ⟨#[]⟩, false⟩
def dnP (c : Cell) (s : Shard) (r : Request) (now : Stamp) : List Done × Int := putD s.mDone ⟨r.mClient, r.mReq, ansP c s r now⟩
def wrS (c : Cell) (s : Shard) (r : Request) (now : Stamp) : Shard := { s with mEntries := (stepP c s r now).2.1, mDone := (dnP c s r now).1 }
def writeP (c : Cell) (s : Shard) (r : Request) (now : Stamp) : Cell × Answer :=
  bif eqI (judge s.mDone r.mClient r.mReq) 2 then (c, (rowL s.mDone r.mClient).1.mAnswer) else bif eqI (judge s.mDone r.mClient r.mReq) 3 then (c, fault 10) else bif leI (cmpS now c.mTop) 0 then (c, fault 1) else
    bif !eqI (stepP c s r now).1 0 then (c, fault (stepP c s r now).1) else bif !eqI (dnP c s r now).2 0 then (c, fault (dnP c s r now).2) else ({ putC c (wrS c s r now) with mTop := now }, ansP c s r now)
theorem V63 (c : Cell) (s : Shard) (r : Request) (now : Stamp) (hc : cR c = true) (hs : shR s = true) : Ev (fun k => F63 k c s r now) (writeP c s r now) := by
  have hl := ((cR_iff c).1 hc).1
  have hsm := (shR_sm hs).toSmS
  have g := (shR_iff s).1 hs
  have hx := g.2.2.1
  have hd := g.2.2.2.2.2.1
  have hid := shR_id hs
  have he := hsm.entries
  have hch : ∀ e ∈ s.mEntries, e.mChain.length ≤ 1000 := fun e h => by have := hsm.chains e h; omega
  have hdl := hsm.done
  unfold writeP
  refine Ev.bind (V125 _ _ _ (by omega)) (Ev.bif (fun _ => Ev.bind (V126 _ _ hd) (Ev.of fun _ => rfl)) fun _ => Ev.bif (fun _ => Ev.bind (Ev.of fun _ => rfl) (Ev.of fun _ => rfl)) fun _ => Ev.bind (T42 _ _) (Ev.bif (fun _ => Ev.bind (Ev.of fun _ => rfl) (Ev.of fun _ => rfl)) fun _ => Ev.bind (V64 c s _ hx) (Ev.bind (x := stepP c s r now) ?_ ?_)))
  · unfold stepP
    exact Ev.bif (fun _ => Ev.of fun _ => rfl) fun _ => Ev.bif (fun _ => Ev.bind (V127 _ _ _ (by omega) hch) (Ev.of fun _ => rfl)) fun _ => Ev.bif (fun _ => Ev.bind (V127 _ _ _ (by omega) hch) (Ev.of fun _ => rfl)) fun _ => Ev.of fun _ => rfl
  · show Ev (fun k => bif (!eqI (stepP c s r now).1 0) then ((F59 k (stepP c s r now).1).bind fun t116 => some (c, t116)) else ((F128 k s.mDone (⟨r.mClient, r.mReq, ansP c s r now⟩ : Done)).bind fun (t126a, t126b) => bif (!eqI t126b 0) then ((F59 k t126b).bind fun t134 => some (c, t134)) else ((F95 k c ({s with mEntries := (stepP c s r now).2.1, mDone := t126a})).bind fun t137 => some ({t137 with mTop := now}, ansP c s r now)))) _
    refine Ev.bif (fun _ => Ev.bind (Ev.of fun _ => rfl) (Ev.of fun _ => rfl)) fun _ => Ev.bind (V128 _ _ (by omega)) (Ev.bif (fun _ => Ev.bind (Ev.of fun _ => rfl) (Ev.of fun _ => rfl)) fun _ => ?_)
    exact Ev.bind (V95 c (wrS c s r now) hc (by omega) hid.1 hid.2) (Ev.of fun _ => rfl)
def onP (s : Shard) (r : Request) : Bool := (!strEq s.mSpan.mHi ⟨#[]⟩) && ((strEq r.mHi ⟨#[]⟩) || (ltI (cmpK s.mSpan.mHi r.mHi) 0))
def hiP (s : Shard) (r : Request) : ByteArray := bif onP s r then s.mSpan.mHi else r.mHi
def pastP (c : Cell) (s : Shard) (r : Request) (w : Int) : Cell × Answer :=
  bif ltI (cmpS r.mAt s.mMark) 0 then (c, fault 13) else bif ltI w (r.mAt.mWall - 1000) then (c, fault 12) else
    bif eqI r.mKind 5 then ({ c with mTop := laterS c.mTop r.mAt }, ⟨0, r.mAt, (readE s.mEntries r.mKey r.mAt).2 && !(readE s.mEntries r.mKey r.mAt).1.mGone, (readE s.mEntries r.mKey r.mAt).1.mValue, [], ⟨#[]⟩, false⟩) else
      bif onP s r && !(pageP s.mEntries r.mKey (hiP s r) r.mAt r.mLimit.toNat).2.2 then ({ c with mTop := laterS c.mTop r.mAt }, ⟨0, r.mAt, false, ⟨#[]⟩, (pageP s.mEntries r.mKey (hiP s r) r.mAt r.mLimit.toNat).1, hiP s r, true⟩) else
        ({ c with mTop := laterS c.mTop r.mAt }, ⟨0, r.mAt, false, ⟨#[]⟩, (pageP s.mEntries r.mKey (hiP s r) r.mAt r.mLimit.toNat).1, (pageP s.mEntries r.mKey (hiP s r) r.mAt r.mLimit.toNat).2.1, (pageP s.mEntries r.mKey (hiP s r) r.mAt r.mLimit.toNat).2.2⟩)
theorem stR_iff {s : Stamp} : stR s = true ↔ 0 ≤ s.mWall ∧ s.mWall ≤ 1099511627776 ∧ 0 ≤ s.mTick ∧ s.mTick ≤ 1048576 ∧ 0 ≤ s.mNode ∧ s.mNode ≤ 255 := by
  unfold stR
  simp only [Bool.and_eq_true, leI_iff]
theorem V65 (c : Cell) (s : Shard) (r : Request) (w : Int) (hx : ixR s.mEntries = true) (ht : stR r.mAt = true) (hn : 0 ≤ r.mLimit) : Ev (fun k => F65 k c s r w) (pastP c s r w) := by
  have h1 := stR_iff.1 ht
  obtain ⟨n, hn⟩ := Int.eq_ofNat_of_zero_le hn
  unfold pastP
  refine Ev.bind (T42 _ _) (Ev.bif (fun _ => Ev.bind (Ev.of fun _ => rfl) (Ev.of fun _ => rfl)) fun _ => ?_)
  rw [i64z (by omega)]
  refine Ev.bif (fun _ => Ev.bind (Ev.of fun _ => rfl) (Ev.of fun _ => rfl)) fun _ => Ev.bind (T37 _ _) (Ev.bif (fun _ => Ev.bind (V118 _ _ _ hx) (Ev.of fun _ => rfl)) fun _ => ?_)
  refine Ev.bind (optv fun _ => V124 _ _) (Ev.bind (x := hiP s r) ?_ ?_)
  · unfold hiP onP
    cases strEq s.mSpan.mHi ⟨#[]⟩ with
    | true => exact Ev.of fun _ => rfl
    | false =>
      cases strEq r.mHi ⟨#[]⟩ with
      | true => exact Ev.of fun _ => rfl
      | false => exact Ev.bif (fun _ => Ev.of fun _ => rfl) fun _ => Ev.of fun _ => rfl
  · have e : ((!strEq s.mSpan.mHi ⟨#[]⟩) && ((strEq r.mHi ⟨#[]⟩) || (ltI (bif ((!strEq s.mSpan.mHi ⟨#[]⟩) && (!(strEq r.mHi ⟨#[]⟩))) then cmpK s.mSpan.mHi r.mHi else default) 0))) = onP s r := by
      unfold onP
      cases strEq s.mSpan.mHi ⟨#[]⟩ with
      | true => rfl
      | false => cases strEq r.mHi ⟨#[]⟩ <;> rfl
    rw [e, hn]
    exact Ev.bind (V129 _ _ _ _ n hx) (Ev.bif (fun _ => Ev.of fun _ => rfl) fun _ => Ev.of fun _ => rfl)
def wrB (r : Request) : Bool := ((eqI r.mKind 1) || (eqI r.mKind 2)) || (eqI r.mKind 3)
def hasS (s : Shard) (x : ByteArray) : Bool := ((strEq x ⟨#[]⟩) && (strEq s.mSpan.mLo ⟨#[]⟩)) || hasR s.mSpan x
def doP (c : Cell) (id ep : Int) (r : Request) (now : Stamp) (w : Int) : Cell × Answer :=
  bif !(cR c && (oneB id && oneB ep) && noB w && stR now && rqR r) then (c, fault 1) else
    bif ((eqI (getS c id).mID 0) || (!eqI (getS c id).mEpoch ep)) || (!hasS (getS c id) r.mKey) then (c, fault 10) else
      bif (!eqI (getS c id).mPhase 1) || (wrB r && (!eqI (getS c id).mHold 0)) then (c, fault 11) else
        bif wrB r then writeP c (getS c id) r now else bif eqI r.mKind 4 then (c, latA c (getS c id) r.mKey) else pastP c (getS c id) r w
theorem rqR_iff {r : Request} (h : rqR r = true) : 1 ≤ r.mKind ∧ r.mKind ≤ 6 ∧ 0 ≤ r.mLimit ∧ r.mLimit ≤ 8 ∧ stR r.mAt = true ∧ oneB r.mClient = true ∧ oneB r.mReq = true ∧ (r.mKind ≠ 6 → keyR r.mKey = true) ∧ (strEq r.mKey ⟨#[]⟩ = true ∨ keyR r.mKey = true) ∧ (r.mValue.size ≤ 16) ∧ (strEq r.mHi ⟨#[]⟩ = true ∨ keyR r.mHi = true) := by
  unfold rqR at h
  simp only [Bool.and_eq_true, Bool.not_eq_true', ltI_false, Bool.or_eq_true] at h
  obtain ⟨⟨⟨⟨⟨⟨⟨⟨⟨⟨h1, h2⟩, h3⟩, h4⟩, h5⟩, h6⟩, h7⟩, h8⟩, h9⟩, h10⟩, h11⟩ := h
  refine ⟨h3, h4, h7, h8, h9, h1, h2, fun h6' => ?_, ?_, by omega, h10⟩
  · rw [eqI_false.2 h6'] at h11; exact h11
  · cases hk : eqI r.mKind 6 with
    | true =>
      rw [hk, cond_true, Bool.and_eq_true, Bool.or_eq_true] at h11
      exact h11.1
    | false => rw [hk, cond_false] at h11; exact .inr h11
theorem V16 (c : Cell) (id ep : Int) (r : Request) (now : Stamp) (w : Int) (h : SmC c) : Ev (fun k => F16 k c id ep r now w) (doP c id ep r now w) := by
  have hw : Ev (fun k => F57 k 0 [w]) (noB w) := by
    have := V57_0 [w] (by simp)
    simpa using this
  have hwr : Ev (fun k => F62 k r) (wrB r) := Ev.of fun _ => rfl
  refine Ev.bind (V25 c h) (Ev.bind (optv fun _ => T57_2 _ _) (Ev.bind (optv fun _ => hw) (Ev.bind (optv fun _ => T36 _) (Ev.bind (optv fun _ => T58 _) ?_))))
  unfold doP
  cases hc : cR c with
  | false => exact Ev.bind (Ev.of fun _ => rfl) (Ev.of fun _ => rfl)
  | true =>
    cases ho : oneB id && oneB ep with
    | false => exact Ev.bind (Ev.of fun _ => rfl) (Ev.of fun _ => rfl)
    | true =>
      cases noB w with
      | false => exact Ev.bind (Ev.of fun _ => rfl) (Ev.of fun _ => rfl)
      | true =>
        cases stR now with
        | false => exact Ev.bind (Ev.of fun _ => rfl) (Ev.of fun _ => rfl)
        | true =>
          cases hq : rqR r with
          | false => exact Ev.bind (Ev.of fun _ => rfl) (Ev.of fun _ => rfl)
          | true =>
            rw [Bool.and_eq_true, oneB_iff, oneB_iff] at ho
            obtain ⟨q1, q2, q3, q4, q5, q6, q7, q8, q9, q10, q11⟩ := rqR_iff hq
            refine Ev.bind (V60 c id hc h.shards ho.1.1 ho.1.2) (Ev.bind (optv fun _ => V61 _ _) ?_)
            have e : (((strEq r.mKey ⟨#[]⟩) && (strEq (getS c id).mSpan.mLo ⟨#[]⟩)) || (bif !((strEq r.mKey ⟨#[]⟩) && (strEq (getS c id).mSpan.mLo ⟨#[]⟩)) then hasR (getS c id).mSpan r.mKey else default)) = hasS (getS c id) r.mKey := by
              unfold hasS
              cases (strEq r.mKey ⟨#[]⟩) && (strEq (getS c id).mSpan.mLo ⟨#[]⟩) <;> rfl
            rw [e]
            refine Ev.bif (fun _ => Ev.bind (Ev.of fun _ => rfl) (Ev.of fun _ => rfl)) fun h10 => ?_
            simp only [Bool.or_eq_false_iff] at h10
            have hg := getS_right hc (eqI_false.1 h10.1.1)
            refine Ev.bind (optv fun _ => hwr) ?_
            have e2 : ((!eqI (getS c id).mPhase 1) || ((bif (!(!eqI (getS c id).mPhase 1)) then wrB r else default) && (!eqI (getS c id).mHold 0))) = ((!eqI (getS c id).mPhase 1) || (wrB r && (!eqI (getS c id).mHold 0))) := by
              cases eqI (getS c id).mPhase 1 <;> rfl
            rw [e2]
            refine Ev.bif (fun _ => Ev.bind (Ev.of fun _ => rfl) (Ev.of fun _ => rfl)) fun _ => Ev.bind hwr (Ev.bif (fun _ => Ev.bind (V63 c _ r now hc hg.1) (Ev.of fun _ => rfl)) fun _ => Ev.bif (fun _ => Ev.bind (V64 c _ _ (shR_ix hg.1)) (Ev.of fun _ => rfl)) fun _ => Ev.bind (V65 c _ r w (shR_ix hg.1) q5 q3) (Ev.of fun _ => rfl))
theorem stepP_right {c : Cell} {s : Shard} {r : Request} {now : Stamp} (hs : shR s = true) (h : (stepP c s r now).1 = 0) : ixR (stepP c s r now).2.1 = true := by
  have hx := shR_ix hs
  unfold stepP at h ⊢
  revert h
  cases (eqI r.mKind 3) && ((!((latA c s r.mKey).mFound == r.mHad)) || ((latA c s r.mKey).mFound && (!strEq (latA c s r.mKey).mValue r.mOld))) with
  | true => exact fun _ => hx
  | false =>
    cases eqI r.mKind 2 with
    | false => exact fun h => putE_right h
    | true =>
      cases (latA c s r.mKey).mFound with
      | true => exact fun h => putE_right h
      | false => exact fun _ => hx
/-- Each entry of what comes out is one that was, or the key's own with one version more. -/
theorem stepP_mem {c : Cell} {s : Shard} {r : Request} {now : Stamp} (hs : shR s = true) (h : (stepP c s r now).1 = 0) : ∀ e ∈ (stepP c s r now).2.1, e ∈ s.mEntries ∨ (∃ v : Version, v.mAt = now ∧ e = ⟨r.mKey, ofL s.mEntries r.mKey ++ [v]⟩) := by
  have put : ∀ v : Version, v.mAt = now → (putE s.mEntries r.mKey v).2 = 0 → ∀ e ∈ (putE s.mEntries r.mKey v).1, e ∈ s.mEntries ∨ (∃ v : Version, v.mAt = now ∧ e = ⟨r.mKey, ofL s.mEntries r.mKey ++ [v]⟩) := fun v hv h e he => by
    rw [(putE_ok h).2.2.2.2.2.2] at he
    rcases insE_mem he with rfl | he
    · exact .inr ⟨v, hv, rfl⟩
    · exact .inl he
  unfold stepP at h ⊢
  revert h
  cases (eqI r.mKind 3) && ((!((latA c s r.mKey).mFound == r.mHad)) || ((latA c s r.mKey).mFound && (!strEq (latA c s r.mKey).mValue r.mOld))) with
  | true => exact fun _ e he => .inl he
  | false =>
    cases eqI r.mKind 2 with
    | false => exact fun h => put _ rfl h
    | true =>
      cases (latA c s r.mKey).mFound with
      | true => exact fun h => put _ rfl h
      | false => exact fun _ e he => .inl he
theorem wrS_right {c : Cell} {s : Shard} {r : Request} {now : Stamp} (hs : shR s = true) (hu : upR s c.mTop = true) (hk : hasR s.mSpan r.mKey = true) (hb : befS c.mTop now) (h1 : (stepP c s r now).1 = 0) (h2 : (dnP c s r now).2 = 0) : shR (wrS c s r now) = true ∧ upR (wrS c s r now) now = true := by
  have g := (shR_iff s).1 hs
  constructor
  · rw [shR_iff]
    refine ⟨g.1, g.2.1, stepP_right hs h1, g.2.2.2.1, g.2.2.2.2.1, putD_right h2, fun e he => ?_⟩
    rcases stepP_mem hs h1 e he with he | ⟨v, _, rfl⟩
    · exact g.2.2.2.2.2.2 e he
    · exact hk
  · rw [upR_iff] at *
    intro e he
    rcases stepP_mem hs h1 e he with he | ⟨v, hv, rfl⟩
    · have := hu e he
      intro h3
      exact this (befS_trans hb h3)
    · rw [lastV_add, hv]; exact befS_irr _
theorem writeP_right {c : Cell} (hc : cR c = true) {id : Int} (h0 : (getS c id).mID ≠ 0) {r : Request} {now : Stamp} (hn : stR now = true) (hk : hasR (getS c id).mSpan r.mKey = true) : cR (writeP c (getS c id) r now).1 = true := by
  obtain ⟨g1, g2⟩ := getS_right hc h0
  unfold writeP
  cases eqI (judge (getS c id).mDone r.mClient r.mReq) 2 with
  | true => exact hc
  | false =>
    cases eqI (judge (getS c id).mDone r.mClient r.mReq) 3 with
    | true => exact hc
    | false =>
      cases hb : leI (cmpS now c.mTop) 0 with
      | true => exact hc
      | false =>
        have hb : befS c.mTop now := by
          apply Classical.byContradiction
          intro h
          rw [← leB, hb] at h; cases h
        cases h1 : eqI (stepP c (getS c id) r now).1 0 with
        | false => exact hc
        | true =>
          cases h2 : eqI (dnP c (getS c id) r now).2 0 with
          | false => exact hc
          | true =>
            obtain ⟨r1, r2⟩ := wrS_right g1 g2 hk hb (eqI_iff.1 h1) (eqI_iff.1 h2)
            have hc' := cR_top hc hn (fun h => befS_irr _ (befS_trans hb h))
            exact cR_put hc' r1 r2 (.inl ⟨_, (getS_in hc h0).1, rfl⟩)
theorem pastP_right {c : Cell} (hc : cR c = true) (s : Shard) {r : Request} (ht : stR r.mAt = true) (w : Int) : cR (pastP c s r w).1 = true := by
  have := cR_later hc ht
  unfold pastP
  cases ltI (cmpS r.mAt s.mMark) 0 with
  | true => exact hc
  | false =>
    cases ltI w (r.mAt.mWall - 1000) with
    | true => exact hc
    | false =>
      cases eqI r.mKind 5 with
      | true => exact this
      | false => cases onP s r && !(pageP s.mEntries r.mKey (hiP s r) r.mAt r.mLimit.toNat).2.2 <;> exact this
theorem strEq_key {x : ByteArray} (h : keyR x = true) : strEq x ⟨#[]⟩ = false := by
  rw [strEq_nil, decide_eq_false_iff_not]
  have := (keyR_size h).1; omega
theorem doP_right {c : Cell} (hc : cR c = true) (id ep : Int) (r : Request) (now : Stamp) (w : Int) : cR (doP c id ep r now w).1 = true := by
  unfold doP
  cases h1 : cR c && (oneB id && oneB ep) && noB w && stR now && rqR r with
  | false => exact hc
  | true =>
    simp only [Bool.and_eq_true] at h1
    obtain ⟨q1, q2, q3, q4, q5, q6, q7, q8, q9, q10, q11⟩ := rqR_iff h1.2
    simp only [Bool.not_true, cond_false]
    cases h2 : ((eqI (getS c id).mID 0) || (!eqI (getS c id).mEpoch ep)) || (!hasS (getS c id) r.mKey) with
    | true => exact hc
    | false =>
      simp only [Bool.or_eq_false_iff, eqI_false, Bool.not_eq_false'] at h2
      rw [cond_false]
      cases (!eqI (getS c id).mPhase 1) || (wrB r && (!eqI (getS c id).mHold 0)) with
      | true => exact hc
      | false =>
        rw [cond_false]
        cases hw : wrB r with
        | true =>
          have hkey : keyR r.mKey = true := q8 fun h6 => by
            unfold wrB at hw
            simp only [Bool.or_eq_true, eqI_iff] at hw
            omega
          have hk : hasR (getS c id).mSpan r.mKey = true := by
            have := h2.2
            unfold hasS at this
            rw [strEq_key hkey, Bool.false_and, Bool.false_or] at this
            exact this
          exact writeP_right hc h2.1.1 h1.1.2 hk
        | false =>
          rw [cond_false]
          cases eqI r.mKind 4 with
          | true => exact hc
          | false => exact pastP_right hc _ q5 w
end Go.Proofs.Gd
set_option linter.unusedVariables false
set_option linter.unusedSimpArgs false
namespace Go.Proofs.Gd
open Go Go.Awp
def zSpan : Span := ⟨⟨#[]⟩, ⟨#[]⟩⟩
def cutS (p : Span) (x : ByteArray) : Span × Span × Int :=
  bif !(spR p && keyR x) then (zSpan, zSpan, 1) else bif (strEq x p.mLo) || (!hasR p x) then (zSpan, zSpan, 9) else ({ p with mHi := x }, { p with mLo := x }, 0)
theorem V106 (p : Span) (x : ByteArray) : Ev (fun k => F106 k p x) (cutS p x) := by
  refine Ev.bind (V80 p) (Ev.bind (optv fun _ => T122 x) ?_)
  unfold cutS
  cases spR p with
  | false => exact Ev.of fun _ => rfl
  | true =>
    cases keyR x with
    | false => exact Ev.of fun _ => rfl
    | true =>
      refine Ev.bind (optv fun _ => V61 p x) ?_
      cases strEq x p.mLo with
      | true => exact Ev.of fun _ => rfl
      | false =>
        cases hasR p x with
        | false => exact Ev.of fun _ => rfl
        | true => exact Ev.of fun _ => rfl
theorem spR_iff (p : Span) : spR p = true ↔ (p.mLo = ⟨#[]⟩ ∨ keyR p.mLo = true) ∧ (p.mHi = ⟨#[]⟩ ∨ (keyR p.mHi = true ∧ cmpK p.mLo p.mHi < 0)) := by
  unfold spR
  rw [Bool.and_eq_true, Bool.or_eq_true, Bool.or_eq_true, Bool.and_eq_true, strEq_true, strEq_true, ltI_iff]
theorem hasR_iff (p : Span) (x : ByteArray) : hasR p x = true ↔ spR p = true ∧ keyR x = true ∧ cmpK p.mLo x ≤ 0 ∧ (p.mHi = ⟨#[]⟩ ∨ cmpK x p.mHi < 0) := by
  unfold hasR
  rw [Bool.and_eq_true, Bool.and_eq_true, Bool.and_eq_true, Bool.or_eq_true, strEq_true, leI_iff, ltI_iff, and_assoc, and_assoc]
theorem cmpK_nil (x : ByteArray) (h : 0 < x.size) : cmpK ⟨#[]⟩ x = -1 := by
  unfold cmpK
  rw [runes_nil ⟨#[]⟩ rfl, runes_cons x h, cmpL]
/-- Ahead of a right key, and another: it is less. -/
theorem lo_lt {lo x : ByteArray} (h : lo = ⟨#[]⟩ ∨ keyR lo = true) (hx : keyR x = true) : cmpK lo x < 0 ↔ cmpK lo x ≤ 0 ∧ x ≠ lo := by
  constructor
  · intro h1
    exact ⟨by omega, fun e => by rw [e, cmpK_self] at h1; omega⟩
  · rintro ⟨h1, h2⟩
    rcases h with rfl | h
    · rw [cmpK_nil x (keyR_size hx).1]; omega
    · by_cases e : cmpK lo x = 0
      · exact absurd (key_inj h hx e).symm h2
      · omega
theorem cutS_ok {p : Span} {x : ByteArray} (h : (cutS p x).2.2 = 0) : spR p = true ∧ keyR x = true ∧ cmpK p.mLo x < 0 ∧ (p.mHi = ⟨#[]⟩ ∨ cmpK x p.mHi < 0) ∧ (cutS p x).1 = { p with mHi := x } ∧ (cutS p x).2.1 = { p with mLo := x } := by
  unfold cutS at h ⊢
  cases h1 : spR p && keyR x with
  | false => rw [h1] at h; cases h
  | true =>
    rw [h1] at h
    rw [Bool.and_eq_true] at h1
    simp only [Bool.not_true, cond_false] at h ⊢
    cases h2 : (strEq x p.mLo) || (!hasR p x) with
    | true => rw [h2] at h; cases h
    | false =>
      rw [Bool.or_eq_false_iff, strEq_false, Bool.not_eq_false', hasR_iff] at h2
      exact ⟨h1.1, h1.2, (lo_lt ((spR_iff p).1 h1.1).1 h1.2).2 ⟨h2.2.2.2.1, h2.1⟩, h2.2.2.2.2, rfl, rfl⟩
theorem cutS_right {p : Span} {x : ByteArray} (h : (cutS p x).2.2 = 0) : spR (cutS p x).1 = true ∧ spR (cutS p x).2.1 = true := by
  obtain ⟨h1, h2, h3, h4, h5, h6⟩ := cutS_ok h
  rw [h5, h6, spR_iff, spR_iff]
  obtain ⟨g1, g2⟩ := (spR_iff p).1 h1
  refine ⟨⟨g1, .inr ⟨h2, h3⟩⟩, ⟨.inr h2, ?_⟩⟩
  rcases g2 with g2 | g2
  · exact .inl g2
  · rcases h4 with h4 | h4
    · exact .inl h4
    · exact .inr ⟨g2.1, h4⟩
def cutN (l : List Entry) (x : ByteArray) : Nat := aheadN (fun e => ltI (cmpK e.mKey x) 0) l
theorem cutN_pos {l : List Entry} {x : ByteArray} {n : Nat} (h : PosK l x n) : cutN l x = n :=
  ahead_at _ l n h.le (fun i hi h' => ltI_iff.2 (h.lt i hi h')) fun h' => ltI_false.2 (h.ge n (Nat.le_refl _) h')
theorem V108 (l : List Entry) (x : ByteArray) (h : ixR l = true) : Ev (fun k => F108 k l x) (l.take (cutN l x), l.drop (cutN l x)) := by
  obtain ⟨hl, hm, _⟩ := (ixR_iff l).1 h
  have hc := ixR_chains h
  refine Ev.bind (V81 l (by omega) fun e he => by have := hc e he; omega) ?_
  rw [h]
  refine EvP.ev (EvP.bind ((V148 l x h).mono fun r hr => ?_))
  obtain ⟨r1, r2⟩ := r
  obtain ⟨n, e, hp, q⟩ := hr
  simp only at e q
  subst e
  have hle := hp.le
  rw [cutN_pos hp]
  refine Ev.evP (Ev.guard (cutOK_mk (by omega) (by omega) (by omega)) (Ev.bind (x := l.take n) ?_ (Ev.guard (cutOK_mk (by omega) (by omega) (by omega)) (Ev.bind (x := l.drop n) ?_ (Ev.of fun _ => rfl)))))
  · rw [Int.toNat_natCast]
    exact V149 _ (by simp; omega) fun e he => by have := hc e (List.mem_of_mem_take he); omega
  · rw [Int.toNat_natCast]
    exact V149 _ (by simp; omega) fun e he => by have := hc e (List.mem_of_mem_drop he); omega
theorem posK_cut {l : List Entry} (h : ixR l = true) (x : ByteArray) : PosK l x (cutN l x) := by
  obtain ⟨_, _, hs⟩ := (ixR_iff l).1 h
  refine ⟨ahead_le _ _, fun i hi h' => ltI_iff.1 (ahead_lt _ l i h' hi), fun i hi h' => ?_⟩
  have hn : cutN l x < l.length := by omega
  have h1 : ltI (cmpK (l[cutN l x]'hn).mKey x) 0 = false := ahead_ge (fun e : Entry => ltI (cmpK e.mKey x) 0) l hn
  rw [ltI_false] at h1
  by_cases e : i = cutN l x
  · subst e; exact h1
  · rw [List.pairwise_iff_getElem] at hs
    have h2 := hs (cutN l x) i hn h' (by omega)
    apply Classical.byContradiction
    intro h3
    have := cmpK_trans h2 (by omega : cmpK l[i].mKey x < 0)
    omega
theorem ixR_sub {l m : List Entry} (h : ixR l = true) (hs : m.Sublist l) : ixR m = true := by
  rw [ixR_iff] at *
  exact ⟨Nat.le_trans hs.length_le h.1, fun v hv => h.2.1 v (hs.subset hv), h.2.2.sublist hs⟩
theorem cut_lo {l : List Entry} (h : ixR l = true) (x : ByteArray) : ∀ e ∈ l.take (cutN l x), e ∈ l ∧ cmpK e.mKey x < 0 := fun e he => by
  obtain ⟨j, hj, rfl⟩ := List.mem_iff_getElem.1 he
  rw [List.length_take] at hj
  rw [List.getElem_take]
  exact ⟨List.getElem_mem _, (posK_cut h x).lt j (by omega) (by omega)⟩
theorem cut_hi {l : List Entry} (h : ixR l = true) (x : ByteArray) : ∀ e ∈ l.drop (cutN l x), e ∈ l ∧ 0 ≤ cmpK e.mKey x := fun e he => by
  obtain ⟨j, hj, rfl⟩ := List.mem_iff_getElem.1 he
  rw [List.length_drop] at hj
  rw [List.getElem_drop]
  exact ⟨List.getElem_mem _, (posK_cut h x).ge _ (by omega) (by omega)⟩
def joinS (p q : Span) : Span × Int :=
  bif !(spR p && spR q) then (zSpan, 1) else bif (strEq p.mHi ⟨#[]⟩) || (!strEq p.mHi q.mLo) then (zSpan, 9) else ({ p with mHi := q.mHi }, 0)
theorem V112 (p q : Span) : Ev (fun k => F112 k p q) (joinS p q) := by
  refine Ev.bind (V80 p) (Ev.bind (optv fun _ => V80 q) ?_)
  unfold joinS
  cases spR p with
  | false => exact Ev.of fun _ => rfl
  | true =>
    cases spR q with
    | false => exact Ev.of fun _ => rfl
    | true => exact Ev.bif (c := (strEq p.mHi ⟨#[]⟩) || (!strEq p.mHi q.mLo)) (fun _ => Ev.of fun _ => rfl) fun _ => Ev.of fun _ => rfl
theorem joinS_ok {p q : Span} (h : (joinS p q).2 = 0) : spR p = true ∧ spR q = true ∧ p.mHi ≠ ⟨#[]⟩ ∧ p.mHi = q.mLo ∧ (joinS p q).1 = { p with mHi := q.mHi } := by
  unfold joinS at h ⊢
  cases h1 : spR p && spR q with
  | false => rw [h1] at h; cases h
  | true =>
    rw [h1] at h
    rw [Bool.and_eq_true] at h1
    simp only [Bool.not_true, cond_false] at h ⊢
    cases h2 : (strEq p.mHi ⟨#[]⟩) || (!strEq p.mHi q.mLo) with
    | true => rw [h2] at h; cases h
    | false =>
      rw [Bool.or_eq_false_iff, strEq_false, Bool.not_eq_false', strEq_true] at h2
      exact ⟨h1.1, h1.2, h2.1, h2.2, rfl⟩
theorem joinS_right {p q : Span} (h : (joinS p q).2 = 0) : spR (joinS p q).1 = true := by
  obtain ⟨h1, h2, h3, h4, h5⟩ := joinS_ok h
  obtain ⟨g1, g2⟩ := (spR_iff p).1 h1
  obtain ⟨g3, g4⟩ := (spR_iff q).1 h2
  rw [h5, spR_iff]
  refine ⟨g1, ?_⟩
  rcases g4 with g4 | g4
  · exact .inl g4
  · rcases g2 with g2 | g2
    · exact absurd g2 h3
    · exact .inr ⟨g4.1, cmpK_trans (b := p.mHi) g2.2 (by rw [h4]; exact g4.2)⟩
/-- What one of two spans has, the two of them have. -/
theorem joinS_has {p q : Span} (h : (joinS p q).2 = 0) {x : ByteArray} (hx : hasR p x = true ∨ hasR q x = true) : hasR (joinS p q).1 x = true := by
  have hr := joinS_right h
  obtain ⟨h1, h2, h3, h4, h5⟩ := joinS_ok h
  obtain ⟨g1, g2⟩ := (spR_iff p).1 h1
  obtain ⟨g3, g4⟩ := (spR_iff q).1 h2
  have g2 : keyR p.mHi = true ∧ cmpK p.mLo p.mHi < 0 := by
    rcases g2 with g2 | g2
    · exact absurd g2 h3
    · exact g2
  rw [hasR_iff]
  refine ⟨hr, ?_⟩
  rw [h5]
  rcases hx with hx | hx
  · rw [hasR_iff] at hx
    obtain ⟨_, x1, x2, x3⟩ := hx
    refine ⟨x1, x2, ?_⟩
    rcases g4 with g4 | g4
    · exact .inl g4
    · rcases x3 with x3 | x3
      · exact absurd x3 h3
      · exact .inr (cmpK_trans (b := p.mHi) x3 (by rw [h4]; exact g4.2))
  · rw [hasR_iff] at hx
    obtain ⟨_, x1, x2, x3⟩ := hx
    refine ⟨x1, ?_, x3⟩
    have := cmpK_trans2 (a := p.mLo) (b := p.mHi) (c := x) g2.2 (by rw [h4]; exact x2)
    show cmpK p.mLo x ≤ 0
    omega
def joinE (l m : List Entry) : List Entry × Int :=
  bif !(ixR l && ixR m) then ([], 1) else bif ((ltI 0 (l.length : Int)) && (ltI 0 (m.length : Int))) && leI 0 (cmpK (rd l ((l.length : Int) - 1)).mKey (rd m 0).mKey) then ([], 9) else bif ltI 64 ((l.length : Int) + (m.length : Int)) then ([], 6) else (l ++ m, 0)
theorem V113 (l m : List Entry) (hl : l.length ≤ 1000) (hc : ∀ e ∈ l, e.mChain.length ≤ 1000) (hm : m.length ≤ 1000) (hd : ∀ e ∈ m, e.mChain.length ≤ 1000) : Ev (fun k => F113 k l m) (joinE l m) := by
  refine Ev.bind (V81 l hl hc) (Ev.bind (optv fun _ => V81 m hm hd) ?_)
  unfold joinE
  cases ixR l with
  | false => exact Ev.of fun _ => rfl
  | true =>
    cases ixR m with
    | false => exact Ev.of fun _ => rfl
    | true =>
      rw [i64z (by omega)]
      simp only [Bool.not_true, Bool.not_false, cond_true, cond_false, Bool.or_false, Bool.and_true]
      refine Ev.guard ?_ (Ev.guard ?_ (Ev.bind (optv fun _ => V124 _ _) ?_))
      · rw [Bool.or_eq_true, Bool.not_eq_true', Bool.and_eq_false_iff, ltI_false, ltI_false, inR_iff]; omega
      · rw [Bool.or_eq_true, Bool.not_eq_true', Bool.and_eq_false_iff, ltI_false, ltI_false, inR_iff]; omega
      · have e : (((ltI 0 (l.length : Int)) && (ltI 0 (m.length : Int))) && leI 0 (bif ((ltI 0 (l.length : Int)) && (ltI 0 (m.length : Int))) then cmpK (rd l ((l.length : Int) - 1)).mKey (rd m 0).mKey else default)) = (((ltI 0 (l.length : Int)) && (ltI 0 (m.length : Int))) && leI 0 (cmpK (rd l ((l.length : Int) - 1)).mKey (rd m 0).mKey)) := by
          cases ((ltI 0 (l.length : Int)) && (ltI 0 (m.length : Int))) <;> rfl
        rw [e]
        refine Ev.bif (fun _ => Ev.of fun _ => rfl) fun _ => ?_
        unfold bnd
        rw [i64z (by omega)]
        exact Ev.bif (fun _ => Ev.of fun _ => rfl) fun _ => Ev.bind (V149o l hl hc) (Ev.bind (V149 m hm hd) (Ev.guard (appOK_mk (by omega) (by omega)) (Ev.of fun _ => rfl)))
theorem joinE_ok {l m : List Entry} (h : (joinE l m).2 = 0) : ixR l = true ∧ ixR m = true ∧ (∀ a ∈ l, ∀ b ∈ m, cmpK a.mKey b.mKey < 0) ∧ l.length + m.length ≤ 64 ∧ (joinE l m).1 = l ++ m := by
  unfold joinE at h ⊢
  cases h1 : ixR l && ixR m with
  | false => rw [h1] at h; cases h
  | true =>
    rw [h1] at h
    rw [Bool.and_eq_true] at h1
    simp only [Bool.not_true, cond_false] at h ⊢
    cases h2 : ((ltI 0 (l.length : Int)) && (ltI 0 (m.length : Int))) && leI 0 (cmpK (rd l ((l.length : Int) - 1)).mKey (rd m 0).mKey) with
    | true => rw [h2] at h; cases h
    | false =>
      rw [h2] at h
      simp only [cond_false] at h ⊢
      cases h3 : ltI 64 ((l.length : Int) + (m.length : Int)) with
      | true => rw [h3] at h; cases h
      | false =>
        rw [ltI_false] at h3
        refine ⟨h1.1, h1.2, fun a ha b hb => ?_, by omega, rfl⟩
        obtain ⟨i, hi, rfl⟩ := List.mem_iff_getElem.1 ha
        obtain ⟨j, hj, rfl⟩ := List.mem_iff_getElem.1 hb
        have e1 : ltI 0 (l.length : Int) = true := by rw [ltI_iff]; omega
        have e2 : ltI 0 (m.length : Int) = true := by rw [ltI_iff]; omega
        rw [e1, e2, Bool.true_and, Bool.true_and, leI_false, show (l.length : Int) - 1 = ((l.length - 1 : Nat) : Int) by omega, rd_nat _ _ (by omega), show (0 : Int) = ((0 : Nat) : Int) from rfl, rd_nat _ _ (by omega)] at h2
        have hs := ((ixR_iff l).1 h1.1).2.2
        have hs' := ((ixR_iff m).1 h1.2).2.2
        rw [List.pairwise_iff_getElem] at hs hs'
        have a1 : cmpK l[i].mKey (m[0]'(by omega)).mKey < 0 := by
          by_cases e : i = l.length - 1
          · subst e; exact h2
          · exact cmpK_trans (hs i (l.length - 1) hi (by omega) (by omega)) h2
        by_cases e : j = 0
        · subst e; exact a1
        · exact cmpK_trans a1 (hs' 0 j (by omega) hj (by omega))
theorem joinE_right {l m : List Entry} (h : (joinE l m).2 = 0) : ixR (joinE l m).1 = true := by
  obtain ⟨h1, h2, h3, h4, h5⟩ := joinE_ok h
  rw [h5]
  rw [ixR_iff] at *
  refine ⟨by simp; omega, fun e he => ?_, ?_⟩
  · rw [List.mem_append] at he
    rcases he with he | he
    · exact h1.2.1 e he
    · exact h2.2.1 e he
  · rw [List.pairwise_append]
    exact ⟨h1.2.2, h2.2.2, h3⟩
def zipD : List Done → List Done → List Done
  | [], b => b
  | a, [] => a
  | x :: a, y :: b => if x.mClient < y.mClient then x :: zipD a (y :: b) else if y.mClient < x.mClient then y :: zipD (x :: a) b else if y.mReq ≤ x.mReq then x :: zipD a b else y :: zipD a b
termination_by a b => a.length + b.length
theorem zipD_nil (b : List Done) : zipD [] b = b := by rw [zipD]
theorem zipD_nil' (a : List Done) : zipD a [] = a := by cases a <;> simp [zipD]
theorem zipD_cons (x y : Done) (a b : List Done) : zipD (x :: a) (y :: b) = if x.mClient < y.mClient then x :: zipD a (y :: b) else if y.mClient < x.mClient then y :: zipD (x :: a) b else if y.mReq ≤ x.mReq then x :: zipD a b else y :: zipD a b := by rw [zipD]
theorem V114_l1 : ∀ (n : Nat) (a b t : List Done), a.length + b.length ≤ n → (t.length + a.length + b.length) ≤ 1000 → Ev (fun k => F114_l1 k (a, b, t)) (t ++ zipD a b)
  | n, [], [], t, _, _ => by
    refine Ev.from 1 fun k => ?_
    show F114_l1 (k + 1) _ = _
    rw [F114_l1, zipD_nil]
    simp [ltI]
  | 0, x :: a, b, t, h, _ => by simp at h
  | 0, [], y :: b, t, h, _ => by simp at h
  | n + 1, x :: a, [], t, h, ht => by
    have ih := V114_l1 n a [] (t ++ [x]) (by simp at h ⊢; omega) (by simp at ht ⊢; omega)
    rw [zipD_nil', List.append_assoc] at ih
    rw [zipD_nil']
    simp only [List.length_cons, List.length_nil] at h ht
    refine Ev.succ (fun k => by rw [F114_l1]) ?_
    have e1 : ltI 0 ((x :: a).length : Int) = true := by rw [ltI_iff, List.length_cons]; omega
    have e2 : inR 0 (x :: a).length = true := by rw [inR_iff, List.length_cons]; omega
    have e3 : eqI (([] : List Done).length : Int) 0 = true := rfl
    have ca : cutOK 1 ((x :: a).length : Int) (x :: a).length = true := cutOK_mk (by omega) (by simp only [List.length_cons]; omega) (by omega)
    have ap : appOK 120 t.length [rd (x :: a) 0].length = true := appOK_mk (by simp; omega) (by simp; omega)
    rw [e1, e2, e3, ca, ap]
    simp only [Bool.true_or, Bool.true_and, Bool.not_false, Bool.not_true, Bool.false_and, Bool.or_true, cond_true, Bool.false_or]
    exact ih
  | n + 1, [], y :: b, t, h, ht => by
    have ih := V114_l1 n [] b (t ++ [y]) (by simp at h ⊢; omega) (by simp at ht ⊢; omega)
    rw [zipD_nil, List.append_assoc] at ih
    rw [zipD_nil]
    simp only [List.length_cons, List.length_nil] at h ht
    refine Ev.succ (fun k => by rw [F114_l1]) ?_
    have e1 : ltI 0 ((y :: b).length : Int) = true := by rw [ltI_iff, List.length_cons]; omega
    have e2 : inR 0 (y :: b).length = true := by rw [inR_iff, List.length_cons]; omega
    have e3 : eqI ((y :: b).length : Int) 0 = false := by rw [eqI_false, List.length_cons]; omega
    have e4 : eqI (([] : List Done).length : Int) 0 = true := rfl
    have e5 : ltI 0 (([] : List Done).length : Int) = false := rfl
    have cb : cutOK 1 ((y :: b).length : Int) (y :: b).length = true := cutOK_mk (by omega) (by simp only [List.length_cons]; omega) (by omega)
    have ap : appOK 120 t.length [rd (y :: b) 0].length = true := appOK_mk (by simp; omega) (by simp; omega)
    rw [e1, e2, e3, e4, e5, cb, ap]
    simp only [Bool.true_or, Bool.true_and, Bool.and_true, Bool.and_false, Bool.not_false, Bool.not_true, Bool.false_and, Bool.or_true, cond_true, cond_false, Bool.false_or]
    exact ih
  | n + 1, x :: a, y :: b, t, h, ht => by
    simp only [List.length_cons] at h ht
    have i1 := V114_l1 n a (y :: b) (t ++ [x]) (by simp; omega) (by simp; omega)
    have i2 := V114_l1 n (x :: a) b (t ++ [y]) (by simp; omega) (by simp; omega)
    have i3 := V114_l1 n a b (t ++ [x]) (by omega) (by simp; omega)
    have i4 := V114_l1 n a b (t ++ [y]) (by omega) (by simp; omega)
    rw [List.append_assoc] at i1 i2 i3 i4
    rw [zipD_cons]
    refine Ev.succ (fun k => by rw [F114_l1]) ?_
    have e1 : ltI 0 ((x :: a).length : Int) = true := by rw [ltI_iff, List.length_cons]; omega
    have e2 : inR 0 (x :: a).length = true := by rw [inR_iff, List.length_cons]; omega
    have e3 : eqI ((x :: a).length : Int) 0 = false := by rw [eqI_false, List.length_cons]; omega
    have f1 : ltI 0 ((y :: b).length : Int) = true := by rw [ltI_iff, List.length_cons]; omega
    have f2 : inR 0 (y :: b).length = true := by rw [inR_iff, List.length_cons]; omega
    have f3 : eqI ((y :: b).length : Int) 0 = false := by rw [eqI_false, List.length_cons]; omega
    have r1 : rd (x :: a) 0 = x := rfl
    have r2 : rd (y :: b) 0 = y := rfl
    have ca : cutOK 1 ((x :: a).length : Int) (x :: a).length = true := cutOK_mk (by omega) (by simp only [List.length_cons]; omega) (by omega)
    have cb : cutOK 1 ((y :: b).length : Int) (y :: b).length = true := cutOK_mk (by omega) (by simp only [List.length_cons]; omega) (by omega)
    have ap : ∀ z : Done, appOK 120 t.length [z].length = true := fun z => appOK_mk (by simp; omega) (by simp; omega)
    rw [e1, e2, e3, f1, f2, f3, r1, r2, ca, cb, ap, ap]
    simp only [Bool.true_or, Bool.true_and, Bool.not_false, Bool.or_true, cond_true, Bool.false_or]
    by_cases c1 : x.mClient < y.mClient
    · rw [if_pos c1, ltI_iff.2 c1]; exact i1
    · rw [if_neg c1, ltI_false.2 (by omega)]
      by_cases c2 : y.mClient < x.mClient
      · rw [if_pos c2, ltI_iff.2 c2]; exact i2
      · rw [if_neg c2, ltI_false.2 (by omega)]
        by_cases c3 : y.mReq ≤ x.mReq
        · rw [if_pos c3, leI_iff.2 c3]; exact i3
        · rw [if_neg c3, leI_false.2 (by omega)]; exact i4
def mergeD (a b : List Done) : List Done × Int := bif !(dnR a && dnR b) then ([], 1) else bif ltI 8 ((zipD a b).length : Int) then ([], 6) else (zipD a b, 0)
theorem V114 (a b : List Done) (ha : a.length ≤ 400) (hb : b.length ≤ 400) : Ev (fun k => F114 k a b) (mergeD a b) := by
  refine Ev.bind (V82 a (by omega)) (Ev.bind (optv fun _ => V82 b (by omega)) ?_)
  unfold mergeD
  cases dnR a with
  | false => exact Ev.of fun _ => rfl
  | true =>
    cases dnR b with
    | false => exact Ev.of fun _ => rfl
    | true => exact Ev.bind (V114_l1 _ a b [] (Nat.le_refl _) (by simp; omega)) (Ev.bif (fun _ => Ev.of fun _ => rfl) fun _ => Ev.of fun _ => rfl)
/-- Whose rows the merged table has. -/
theorem zipD_mem : ∀ (n : Nat) (a b : List Done), a.length + b.length ≤ n → SortD a → SortD b → ∀ z, z ∈ zipD a b ↔ (z ∈ a ∧ ∀ y ∈ b, y.mClient = z.mClient → y.mReq ≤ z.mReq) ∨ (z ∈ b ∧ ∀ x ∈ a, x.mClient = z.mClient → x.mReq < z.mReq)
  | n, [], b, _, _, _, z => by rw [zipD_nil]; simp
  | n, x :: a, [], _, _, _, z => by rw [zipD_nil']; simp
  | 0, x :: a, y :: b, h, _, _, z => by simp at h
  | n + 1, x :: a, y :: b, h, ha, hb, z => by
    have ha' := List.pairwise_cons.1 ha
    have hb' := List.pairwise_cons.1 hb
    simp only [List.length_cons] at h
    rw [zipD_cons]
    have noA : ∀ w ∈ y :: b, x.mClient < y.mClient → x.mClient < w.mClient := fun w hw hlt => by
      rw [List.mem_cons] at hw
      rcases hw with rfl | hw
      · exact hlt
      · have := hb'.1 w hw; omega
    have noB' : ∀ w ∈ x :: a, y.mClient < x.mClient → y.mClient < w.mClient := fun w hw hlt => by
      rw [List.mem_cons] at hw
      rcases hw with rfl | hw
      · exact hlt
      · have := ha'.1 w hw; omega
    by_cases c1 : x.mClient < y.mClient
    · rw [if_pos c1, List.mem_cons, zipD_mem n a (y :: b) (by simp; omega) ha'.2 hb]
      constructor
      · rintro (rfl | ⟨h1, h2⟩ | ⟨h1, h2⟩)
        · exact .inl ⟨by simp, fun w hw he => by have := noA w hw c1; omega⟩
        · exact .inl ⟨by simp [h1], h2⟩
        · refine .inr ⟨h1, fun w hw he => ?_⟩
          rw [List.mem_cons] at hw
          rcases hw with rfl | hw
          · have := noA z h1 c1; omega
          · exact h2 w hw he
      · rintro (⟨h1, h2⟩ | ⟨h1, h2⟩)
        · rw [List.mem_cons] at h1
          rcases h1 with rfl | h1
          · exact .inl rfl
          · exact .inr (.inl ⟨h1, h2⟩)
        · exact .inr (.inr ⟨h1, fun w hw he => h2 w (by simp [hw]) he⟩)
    · rw [if_neg c1]
      by_cases c2 : y.mClient < x.mClient
      · rw [if_pos c2, List.mem_cons, zipD_mem n (x :: a) b (by simp; omega) ha hb'.2]
        constructor
        · rintro (rfl | ⟨h1, h2⟩ | ⟨h1, h2⟩)
          · exact .inr ⟨by simp, fun w hw he => by have := noB' w hw c2; omega⟩
          · refine .inl ⟨h1, fun w hw he => ?_⟩
            rw [List.mem_cons] at hw
            rcases hw with rfl | hw
            · have := noB' z h1 c2; omega
            · exact h2 w hw he
          · exact .inr ⟨by simp [h1], h2⟩
        · rintro (⟨h1, h2⟩ | ⟨h1, h2⟩)
          · exact .inr (.inl ⟨h1, fun w hw he => h2 w (by simp [hw]) he⟩)
          · rw [List.mem_cons] at h1
            rcases h1 with rfl | h1
            · exact .inl rfl
            · exact .inr (.inr ⟨h1, h2⟩)
      · rw [if_neg c2]
        have ec : x.mClient = y.mClient := by omega
        have ih := zipD_mem n a b (by omega) ha'.2 hb'.2 z
        by_cases c3 : y.mReq ≤ x.mReq
        · rw [if_pos c3, List.mem_cons, ih]
          constructor
          · rintro (rfl | ⟨h1, h2⟩ | ⟨h1, h2⟩)
            · refine .inl ⟨by simp, fun w hw he => ?_⟩
              rw [List.mem_cons] at hw
              rcases hw with rfl | hw
              · exact c3
              · have := hb'.1 w hw; omega
            · refine .inl ⟨by simp [h1], fun w hw he => ?_⟩
              rw [List.mem_cons] at hw
              rcases hw with rfl | hw
              · have := ha'.1 z h1; omega
              · exact h2 w hw he
            · refine .inr ⟨by simp [h1], fun w hw he => ?_⟩
              rw [List.mem_cons] at hw
              rcases hw with rfl | hw
              · have := hb'.1 z h1; omega
              · exact h2 w hw he
          · rintro (⟨h1, h2⟩ | ⟨h1, h2⟩)
            · rw [List.mem_cons] at h1
              rcases h1 with rfl | h1
              · exact .inl rfl
              · exact .inr (.inl ⟨h1, fun w hw he => h2 w (by simp [hw]) he⟩)
            · rw [List.mem_cons] at h1
              rcases h1 with rfl | h1
              · have := h2 x (by simp) ec; omega
              · exact .inr (.inr ⟨h1, fun w hw he => h2 w (by simp [hw]) he⟩)
        · rw [if_neg c3, List.mem_cons, ih]
          constructor
          · rintro (rfl | ⟨h1, h2⟩ | ⟨h1, h2⟩)
            · refine .inr ⟨by simp, fun w hw he => ?_⟩
              rw [List.mem_cons] at hw
              rcases hw with rfl | hw
              · omega
              · have := ha'.1 w hw; omega
            · refine .inl ⟨by simp [h1], fun w hw he => ?_⟩
              rw [List.mem_cons] at hw
              rcases hw with rfl | hw
              · have := ha'.1 z h1; omega
              · exact h2 w hw he
            · refine .inr ⟨by simp [h1], fun w hw he => ?_⟩
              rw [List.mem_cons] at hw
              rcases hw with rfl | hw
              · have := hb'.1 z h1; omega
              · exact h2 w hw he
          · rintro (⟨h1, h2⟩ | ⟨h1, h2⟩)
            · rw [List.mem_cons] at h1
              rcases h1 with rfl | h1
              · have := h2 y (by simp) ec.symm; omega
              · exact .inr (.inl ⟨h1, fun w hw he => h2 w (by simp [hw]) he⟩)
            · rw [List.mem_cons] at h1
              rcases h1 with rfl | h1
              · exact .inl rfl
              · exact .inr (.inr ⟨h1, fun w hw he => h2 w (by simp [hw]) he⟩)
theorem zipD_sort : ∀ (n : Nat) (a b : List Done), a.length + b.length ≤ n → SortD a → SortD b → SortD (zipD a b)
  | n, [], b, _, _, hb => by rw [zipD_nil]; exact hb
  | n, x :: a, [], _, ha, _ => by rw [zipD_nil']; exact ha
  | 0, x :: a, y :: b, h, _, _ => by simp at h
  | n + 1, x :: a, y :: b, h, ha, hb => by
    have ha' := List.pairwise_cons.1 ha
    have hb' := List.pairwise_cons.1 hb
    simp only [List.length_cons] at h
    rw [zipD_cons]
    have hm : ∀ {a b : List Done}, SortD a → SortD b → ∀ z ∈ zipD a b, z ∈ a ∨ z ∈ b := fun ha hb z hz => by
      rcases (zipD_mem _ _ _ (Nat.le_refl _) ha hb z).1 hz with h | h
      · exact .inl h.1
      · exact .inr h.1
    by_cases c1 : x.mClient < y.mClient
    · rw [if_pos c1]
      refine List.pairwise_cons.2 ⟨fun z hz => ?_, zipD_sort n a (y :: b) (by simp; omega) ha'.2 hb⟩
      rcases hm ha'.2 hb z hz with h | h
      · exact ha'.1 z h
      · rw [List.mem_cons] at h
        rcases h with rfl | h
        · exact c1
        · have := hb'.1 z h; omega
    · rw [if_neg c1]
      by_cases c2 : y.mClient < x.mClient
      · rw [if_pos c2]
        refine List.pairwise_cons.2 ⟨fun z hz => ?_, zipD_sort n (x :: a) b (by simp; omega) ha hb'.2⟩
        rcases hm ha hb'.2 z hz with h | h
        · rw [List.mem_cons] at h
          rcases h with rfl | h
          · exact c2
          · have := ha'.1 z h; omega
        · exact hb'.1 z h
      · rw [if_neg c2]
        have ih := zipD_sort n a b (by omega) ha'.2 hb'.2
        split
        · refine List.pairwise_cons.2 ⟨fun z hz => ?_, ih⟩
          rcases hm ha'.2 hb'.2 z hz with h | h
          · exact ha'.1 z h
          · have := hb'.1 z h; omega
        · refine List.pairwise_cons.2 ⟨fun z hz => ?_, ih⟩
          rcases hm ha'.2 hb'.2 z hz with h | h
          · have := ha'.1 z h; omega
          · exact hb'.1 z h
theorem mergeD_ok {a b : List Done} (h : (mergeD a b).2 = 0) : dnR a = true ∧ dnR b = true ∧ (mergeD a b).1 = zipD a b ∧ (zipD a b).length ≤ 8 := by
  unfold mergeD at h ⊢
  cases h1 : dnR a && dnR b with
  | false => rw [h1] at h; cases h
  | true =>
    rw [h1] at h
    rw [Bool.and_eq_true] at h1
    simp only [Bool.not_true, cond_false] at h ⊢
    cases h2 : ltI 8 ((zipD a b).length : Int) with
    | true => rw [h2] at h; cases h
    | false => rw [ltI_false] at h2; exact ⟨h1.1, h1.2, rfl, by omega⟩
theorem mergeD_right {a b : List Done} (h : (mergeD a b).2 = 0) : dnR (mergeD a b).1 = true := by
  obtain ⟨h1, h2, h3, h4⟩ := mergeD_ok h
  rw [h3]
  rw [dnR_iff] at *
  refine ⟨h4, fun z hz => ?_, zipD_sort _ a b (Nat.le_refl _) h1.2.2 h2.2.2⟩
  rcases (zipD_mem _ a b (Nat.le_refl _) h1.2.2 h2.2.2 z).1 hz with h | h
  · exact h1.2.1 z h.1
  · exact h2.2.1 z h.1
end Go.Proofs.Gd
set_option linter.unusedVariables false
set_option linter.unusedSimpArgs false
namespace Go.Proofs.Gd
open Go Go.Awp
def openB (s : Shard) (ep : Int) : Bool := (((!eqI s.mID 0) && (eqI s.mEpoch ep)) && (eqI s.mPhase 1)) && (eqI s.mHold 0)
def loS (a : Shard) (x : ByteArray) (nx : Int) : Shard := { a with mEpoch := nx, mSpan := (cutS a.mSpan x).1, mEntries := a.mEntries.take (cutN a.mEntries x) }
def hiS (a : Shard) (x : ByteArray) (o nx : Int) : Shard := { a with mID := o, mEpoch := nx, mSpan := (cutS a.mSpan x).2.1, mEntries := a.mEntries.drop (cutN a.mEntries x) }
def splitP (c : Cell) (id ep : Int) (x : ByteArray) (o nx : Int) : Cell × Bool :=
  bif !(cR c && (oneB id && oneB ep && oneB o && oneB nx)) then (c, false) else
    bif ((((!eqI (getS c id).mID 0) && (eqI (getS c id).mEpoch nx)) && (strEq (getS c id).mSpan.mHi x)) && (!eqI (getS c o).mID 0)) && (eqI (getS c o).mEpoch nx) then (c, true) else
      bif (((((!openB (getS c id) ep) || (leI nx ep)) || (leI nx (getS c id).mClosed)) || (!eqI (getS c o).mID 0)) || (eqI (c.mShards.length : Int) 8)) || (!eqI (cutS (getS c id).mSpan x).2.2 0) then (c, false) else
        (putC (putC c (loS (getS c id) x nx)) (hiS (getS c id) x o nx), true)
theorem openB_iff {s : Shard} {ep : Int} : openB s ep = true ↔ s.mID ≠ 0 ∧ s.mEpoch = ep ∧ s.mPhase = 1 ∧ s.mHold = 0 := by
  unfold openB
  simp only [Bool.and_eq_true, Bool.not_eq_true', eqI_false, eqI_iff, and_assoc]
theorem loS_right {a : Shard} {x : ByteArray} {nx : Int} {t : Stamp} (h : shR a = true) (hu : upR a t = true) (hn : oneB nx = true) (hc : (cutS a.mSpan x).2.2 = 0) : shR (loS a x nx) = true ∧ upR (loS a x nx) t = true := by
  obtain ⟨h1, h2, h3, h4, h5, h6, h7⟩ := (shR_iff a).1 h
  obtain ⟨k1, k2, k3, k4, k5, k6⟩ := cutS_ok hc
  have hr := (cutS_right hc).1
  constructor
  · rw [shR_iff]
    refine ⟨?_, hr, ixR_sub h3 (List.take_sublist _ _), h4, h5, h6, fun e he => ?_⟩
    · rw [oneB_iff] at hn
      have := shH_iff.1 h1
      rw [shH_iff]; simp only [loS]; omega
    · obtain ⟨e1, e2⟩ := cut_lo h3 x e he
      obtain ⟨_, g2, g3, _⟩ := (hasR_iff _ _).1 (h7 e e1)
      rw [hasR_iff]
      show spR (cutS a.mSpan x).1 = true ∧ keyR e.mKey = true ∧ cmpK (cutS a.mSpan x).1.mLo e.mKey ≤ 0 ∧ ((cutS a.mSpan x).1.mHi = ⟨#[]⟩ ∨ cmpK e.mKey (cutS a.mSpan x).1.mHi < 0)
      refine ⟨hr, g2, ?_, .inr ?_⟩
      · rw [k5]; exact g3
      · rw [k5]; exact e2
  · rw [upR_iff] at *
    exact fun e he => hu e (cut_lo h3 x e he).1
theorem hiS_right {a : Shard} {x : ByteArray} {o nx : Int} {t : Stamp} (h : shR a = true) (hu : upR a t = true) (ho : oneB o = true) (hn : oneB nx = true) (hc : (cutS a.mSpan x).2.2 = 0) : shR (hiS a x o nx) = true ∧ upR (hiS a x o nx) t = true := by
  obtain ⟨h1, h2, h3, h4, h5, h6, h7⟩ := (shR_iff a).1 h
  obtain ⟨k1, k2, k3, k4, k5, k6⟩ := cutS_ok hc
  have hr := (cutS_right hc).2
  constructor
  · rw [shR_iff]
    refine ⟨?_, hr, ixR_sub h3 (List.drop_sublist _ _), h4, h5, h6, fun e he => ?_⟩
    · rw [oneB_iff] at hn ho
      have := shH_iff.1 h1
      rw [shH_iff]; simp only [hiS]; omega
    · obtain ⟨e1, e2⟩ := cut_hi h3 x e he
      obtain ⟨_, g2, _, g4⟩ := (hasR_iff _ _).1 (h7 e e1)
      have ha := cmpK_anti e.mKey x
      rw [hasR_iff]
      show spR (cutS a.mSpan x).2.1 = true ∧ keyR e.mKey = true ∧ cmpK (cutS a.mSpan x).2.1.mLo e.mKey ≤ 0 ∧ ((cutS a.mSpan x).2.1.mHi = ⟨#[]⟩ ∨ cmpK e.mKey (cutS a.mSpan x).2.1.mHi < 0)
      refine ⟨hr, g2, ?_, ?_⟩
      · rw [k6]; show cmpK x e.mKey ≤ 0; omega
      · rw [k6]; exact g4
  · rw [upR_iff] at *
    exact fun e he => hu e (cut_hi h3 x e he).1
theorem split_right {c : Cell} (hc : cR c = true) {id o nx : Int} {x : ByteArray} (h0 : (getS c id).mID ≠ 0) (ho : oneB o = true) (hn : oneB nx = true) (hb : (getS c o).mID = 0) (h8 : c.mShards.length ≠ 8) (hk : (cutS (getS c id).mSpan x).2.2 = 0) :
    cR (putC c (loS (getS c id) x nx)) = true ∧ cR (putC (putC c (loS (getS c id) x nx)) (hiS (getS c id) x o nx)) = true := by
  obtain ⟨g1, g2⟩ := getS_right hc h0
  have hin := getS_in hc h0
  obtain ⟨l1, l2⟩ := loS_right g1 g2 hn hk
  obtain ⟨r1, r2⟩ := hiS_right (o := o) g1 g2 ho hn hk
  have q1 := cR_put hc l1 l2 (.inl ⟨_, hin.1, rfl⟩)
  have hl := ((cR_iff c).1 hc)
  refine ⟨q1, cR_put q1 r1 r2 (.inr ?_)⟩
  show (putL c.mShards (loS (getS c id) x nx)).length ≤ 7
  rw [putL_len_in (s := loS (getS c id) x nx) hl.2.2.2.2 ⟨_, hin.1, rfl⟩]
  omega
theorem V48 (c : Cell) (id ep : Int) (x : ByteArray) (o nx : Int) (h : SmC c) : Ev (fun k => F48 k c id ep x o nx) (splitP c id ep x o nx) := by
  refine Ev.bind (V25 c h) (Ev.bind (optv fun _ => T57_4 _ _ _ _) ?_)
  unfold splitP
  cases hc : cR c with
  | false => exact Ev.of fun _ => rfl
  | true =>
    cases hb : (oneB id && oneB ep && oneB o && oneB nx) with
    | false => exact Ev.of fun _ => rfl
    | true =>
      simp only [Bool.and_eq_true] at hb
      have b1 := oneB_iff.1 hb.1.1.1
      have b2 := oneB_iff.1 hb.1.2
      refine Ev.bind (V60 c id hc h.shards b1.1 b1.2) (Ev.bind (V60 c o hc h.shards b2.1 b2.2) (Ev.bif (fun _ => Ev.of fun _ => rfl) fun _ => Ev.bind (V106 _ _) (Ev.bind (Ev.of fun _ => rfl) (Ev.bif (fun _ => Ev.of fun _ => rfl) fun hcc => ?_))))
      have hcc : ((((((!openB (getS c id) ep) || (leI nx ep)) || (leI nx (getS c id).mClosed)) || (!eqI (getS c o).mID 0)) || (eqI (c.mShards.length : Int) 8)) || (!eqI (cutS (getS c id).mSpan x).2.2 0)) = false := hcc
      simp only [Bool.or_eq_false_iff, Bool.not_eq_false', eqI_iff, eqI_false] at hcc
      obtain ⟨⟨⟨⟨⟨h1, h2⟩, h3⟩, h4⟩, h5⟩, h6⟩ := hcc
      have h0 := (openB_iff.1 h1).1
      obtain ⟨q1, q2⟩ := split_right hc h0 hb.1.2 hb.2 h4 (by omega) h6
      have hid := getS_id hc id h0
      refine Ev.bind (V108 _ _ (shR_ix (getS_right hc h0).1)) (Ev.bind (V95 c (loS (getS c id) x nx) hc h.shards hid.1 hid.2) (Ev.bind (V95 (putC c (loS (getS c id) x nx)) (hiS (getS c id) x o nx) q1 (by have := ((cR_iff _).1 q1).1; omega) b2.1 b2.2) (Ev.of fun _ => rfl)))
theorem splitP_right {c : Cell} (hc : cR c = true) (id ep : Int) (x : ByteArray) (o nx : Int) : cR (splitP c id ep x o nx).1 = true := by
  unfold splitP
  cases hb : cR c && (oneB id && oneB ep && oneB o && oneB nx) with
  | false => exact hc
  | true =>
    simp only [Bool.and_eq_true] at hb
    simp only [Bool.not_true, cond_false]
    cases ((((!eqI (getS c id).mID 0) && (eqI (getS c id).mEpoch nx)) && (strEq (getS c id).mSpan.mHi x)) && (!eqI (getS c o).mID 0)) && (eqI (getS c o).mEpoch nx) with
    | true => exact hc
    | false =>
      rw [cond_false]
      cases hcc : (((((!openB (getS c id) ep) || (leI nx ep)) || (leI nx (getS c id).mClosed)) || (!eqI (getS c o).mID 0)) || (eqI (c.mShards.length : Int) 8)) || (!eqI (cutS (getS c id).mSpan x).2.2 0) with
      | true => exact hc
      | false =>
        simp only [Bool.or_eq_false_iff, Bool.not_eq_false', eqI_iff, eqI_false] at hcc
        obtain ⟨⟨⟨⟨⟨h1, h2⟩, h3⟩, h4⟩, h5⟩, h6⟩ := hcc
        exact (split_right hc (openB_iff.1 h1).1 hb.2.1.2 hb.2.2 h4 (by omega) h6).2
def mrgS (a b : Shard) (nx : Int) : Shard :=
  ⟨a.mID, nx, (joinS a.mSpan b.mSpan).1, a.mPhase, prE (joinE a.mEntries b.mEntries).1 (laterS a.mMark b.mMark), laterS a.mMark b.mMark, a.mTop, (mergeD a.mDone b.mDone).1, a.mHold, maxI a.mSeen b.mSeen, 0, maxI a.mClosed b.mClosed⟩
def mergeP (c : Cell) (id o ep nx : Int) : Cell × Bool :=
  bif !(cR c && (oneB id && oneB o && oneB ep && oneB nx)) then (c, false) else
    bif ((!eqI (getS c id).mID 0) && (eqI (getS c id).mEpoch nx)) && (eqI (getS c o).mID 0) then (c, true) else
      bif ((((!openB (getS c id) ep) || (!openB (getS c o) (getS c o).mEpoch)) || (leI nx (getS c id).mEpoch)) || (leI nx (getS c o).mEpoch)) || (leI nx (getS c id).mClosed) then (c, false) else
        bif ((!eqI (joinS (getS c id).mSpan (getS c o).mSpan).2 0) || (!eqI (joinE (getS c id).mEntries (getS c o).mEntries).2 0)) || (!eqI (mergeD (getS c id).mDone (getS c o).mDone).2 0) then (c, false) else
          (dropC (putC c (mrgS (getS c id) (getS c o) nx)) o, true)
theorem maxI_iff (a b : Int) : (maxI a b = a ∧ b ≤ a) ∨ (maxI a b = b ∧ a < b) := by
  unfold maxI
  split
  · exact .inr ⟨rfl, by assumption⟩
  · exact .inl ⟨rfl, by omega⟩
theorem mrgS_right {a b : Shard} {nx : Int} {t : Stamp} (ha : shR a = true) (hb : shR b = true) (ua : upR a t = true) (ub : upR b t = true) (hn : oneB nx = true) (j1 : (joinS a.mSpan b.mSpan).2 = 0) (j2 : (joinE a.mEntries b.mEntries).2 = 0) (j3 : (mergeD a.mDone b.mDone).2 = 0) :
    shR (mrgS a b nx) = true ∧ upR (mrgS a b nx) t = true := by
  obtain ⟨a1, a2, a3, a4, a5, a6, a7⟩ := (shR_iff a).1 ha
  obtain ⟨b1, b2, b3, b4, b5, b6, b7⟩ := (shR_iff b).1 hb
  have hj := (joinE_ok j2).2.2.2.2
  constructor
  · rw [shR_iff]
    refine ⟨?_, joinS_right j1, prE_right (joinE_right j2) _, stR_later a4 b4, a5, mergeD_right j3, fun e he => ?_⟩
    · rw [oneB_iff] at hn
      have h1 := shH_iff.1 a1
      have h2 := shH_iff.1 b1
      rw [shH_iff]; simp only [mrgS]
      have m1 := maxI_iff a.mSeen b.mSeen
      have m2 := maxI_iff a.mClosed b.mClosed
      omega
    · obtain ⟨d, g1, _, rfl⟩ := prE_mem.1 he
      rw [hj, List.mem_append] at g1
      refine joinS_has j1 ?_
      rcases g1 with g1 | g1
      · exact .inl (a7 d g1)
      · exact .inr (b7 d g1)
  · rw [upR_iff] at *
    refine prE_up fun e he => ?_
    rw [hj, List.mem_append] at he
    rcases he with he | he
    · exact ua e he
    · exact ub e he
theorem merge_right {c : Cell} (hc : cR c = true) {id o nx : Int} (h0 : (getS c id).mID ≠ 0) (h1 : (getS c o).mID ≠ 0) (hn : oneB nx = true) (j1 : (joinS (getS c id).mSpan (getS c o).mSpan).2 = 0) (j2 : (joinE (getS c id).mEntries (getS c o).mEntries).2 = 0) (j3 : (mergeD (getS c id).mDone (getS c o).mDone).2 = 0) :
    cR (putC c (mrgS (getS c id) (getS c o) nx)) = true := by
  obtain ⟨g1, g2⟩ := getS_right hc h0
  obtain ⟨g3, g4⟩ := getS_right hc h1
  obtain ⟨r1, r2⟩ := mrgS_right g1 g3 g2 g4 hn j1 j2 j3
  exact cR_put hc r1 r2 (.inl ⟨_, (getS_in hc h0).1, rfl⟩)
theorem V50 (c : Cell) (id o ep nx : Int) (h : SmC c) : Ev (fun k => F50 k c id o ep nx) (mergeP c id o ep nx) := by
  refine Ev.bind (V25 c h) (Ev.bind (optv fun _ => T57_4 _ _ _ _) ?_)
  unfold mergeP
  cases hc : cR c with
  | false => exact Ev.of fun _ => rfl
  | true =>
    cases hb : (oneB id && oneB o && oneB ep && oneB nx) with
    | false => exact Ev.of fun _ => rfl
    | true =>
      simp only [Bool.and_eq_true] at hb
      have b1 := oneB_iff.1 hb.1.1.1
      have b2 := oneB_iff.1 hb.1.1.2
      have sa := getS_sm h id
      have sb := getS_sm h o
      have a1 := sa.entries
      have a2 := sb.entries
      have a3 := sa.done
      have a4 := sb.done
      refine Ev.bind (V60 c id hc h.shards b1.1 b1.2) (Ev.bind (V60 c o hc h.shards b2.1 b2.2) (Ev.bif (fun _ => Ev.of fun _ => rfl) fun _ => Ev.bind (x := openB (getS c id) ep) (Ev.of fun _ => rfl) (Ev.bind (optv (v := openB (getS c o) (getS c o).mEpoch) fun _ => Ev.of fun _ => rfl) ?_)))
      have e : (((((!openB (getS c id) ep) || (!(bif !(!openB (getS c id) ep) then openB (getS c o) (getS c o).mEpoch else default))) || (leI nx (getS c id).mEpoch)) || (leI nx (getS c o).mEpoch)) || (leI nx (getS c id).mClosed)) = (((((!openB (getS c id) ep) || (!openB (getS c o) (getS c o).mEpoch)) || (leI nx (getS c id).mEpoch)) || (leI nx (getS c o).mEpoch)) || (leI nx (getS c id).mClosed)) := by
        cases openB (getS c id) ep <;> rfl
      rw [e]
      refine Ev.bif (fun _ => Ev.of fun _ => rfl) fun hcc => ?_
      simp only [Bool.or_eq_false_iff, Bool.not_eq_false'] at hcc
      have h0 := (openB_iff.1 hcc.1.1.1.1).1
      have h1 := (openB_iff.1 hcc.1.1.1.2).1
      refine Ev.bind (V112 _ _) (Ev.bind (V113 _ _ (by omega) (fun e he => by have := sa.chains e he; omega) (by omega) fun e he => by have := sb.chains e he; omega) (Ev.bind (V114 _ _ (by omega) (by omega)) (Ev.bif (fun _ => Ev.of fun _ => rfl) fun hj => ?_)))
      have hj : (((!eqI (joinS (getS c id).mSpan (getS c o).mSpan).2 0) || (!eqI (joinE (getS c id).mEntries (getS c o).mEntries).2 0)) || (!eqI (mergeD (getS c id).mDone (getS c o).mDone).2 0)) = false := hj
      simp only [Bool.or_eq_false_iff, Bool.not_eq_false', eqI_iff] at hj
      obtain ⟨⟨j1, j2⟩, j3⟩ := hj
      have hm := merge_right hc h0 h1 hb.2 j1 j2 j3
      have hid := getS_id hc id h0
      exact Ev.bind (T37 _ _) (Ev.bind (V99 _ _ (joinE_right j2)) (Ev.bind (V95 c (mrgS (getS c id) (getS c o) nx) hc h.shards hid.1 hid.2) (Ev.bind (V105 _ o hm b2.1 b2.2) (Ev.of fun _ => rfl))))
theorem mergeP_right {c : Cell} (hc : cR c = true) (id o ep nx : Int) : cR (mergeP c id o ep nx).1 = true := by
  unfold mergeP
  cases hb : cR c && (oneB id && oneB o && oneB ep && oneB nx) with
  | false => exact hc
  | true =>
    simp only [Bool.and_eq_true] at hb
    simp only [Bool.not_true, cond_false]
    cases ((!eqI (getS c id).mID 0) && (eqI (getS c id).mEpoch nx)) && (eqI (getS c o).mID 0) with
    | true => exact hc
    | false =>
      rw [cond_false]
      cases hcc : ((((!openB (getS c id) ep) || (!openB (getS c o) (getS c o).mEpoch)) || (leI nx (getS c id).mEpoch)) || (leI nx (getS c o).mEpoch)) || (leI nx (getS c id).mClosed) with
      | true => exact hc
      | false =>
        simp only [Bool.or_eq_false_iff, Bool.not_eq_false'] at hcc
        rw [cond_false]
        cases hj : ((!eqI (joinS (getS c id).mSpan (getS c o).mSpan).2 0) || (!eqI (joinE (getS c id).mEntries (getS c o).mEntries).2 0)) || (!eqI (mergeD (getS c id).mDone (getS c o).mDone).2 0) with
        | true => exact hc
        | false =>
          simp only [Bool.or_eq_false_iff, Bool.not_eq_false', eqI_iff] at hj
          obtain ⟨⟨j1, j2⟩, j3⟩ := hj
          exact cR_drop (merge_right hc (openB_iff.1 hcc.1.1.1.1).1 (openB_iff.1 hcc.1.1.1.2).1 hb.2.2 j1 j2 j3) o
end Go.Proofs.Gd
set_option linter.unusedVariables false
set_option linter.unusedSimpArgs false
namespace Go.Proofs.Gd
open Go Go.Awp
theorem holdP_right {c : Cell} (hc : cR c = true) (id ep l : Int) : cR (holdP c id ep l).1 = true := by
  unfold holdP
  cases hb : holdB c (getS c id) id ep l with
  | false => exact hc
  | true =>
    unfold holdB at hb
    simp only [Bool.and_eq_true, Bool.not_eq_true', eqI_false] at hb
    obtain ⟨⟨⟨⟨⟨⟨⟨⟨h1, h2⟩, h3⟩, h4⟩, h5⟩, h6⟩, h7⟩, h8⟩, h9⟩ := hb
    obtain ⟨g1, g2⟩ := getS_right hc h5
    refine cR_put hc (shR_head g1 rfl rfl rfl rfl ?_ ((shR_iff _).1 g1).2.2.2.2.1) (up_head g2 rfl) (.inl ⟨_, (getS_in hc h5).1, rfl⟩)
    have := shH_iff.1 ((shR_iff _).1 g1).1
    rw [oneB_iff] at h4
    rw [shH_iff]; simp only; omega
theorem freeP_right {c : Cell} (hc : cR c = true) (id l : Int) (t : Stamp) : cR (freeP c id l t).1 = true := by
  unfold freeP
  cases hb : cR c && oneB id && oneB l && stR t && !eqI (getS c id).mID 0 with
  | false => exact hc
  | true =>
    simp only [Bool.and_eq_true, Bool.not_eq_true', eqI_false] at hb
    obtain ⟨⟨⟨⟨h1, h2⟩, h3⟩, h4⟩, h5⟩ := hb
    rw [cond_true]
    cases leI l (getS c id).mSeen with
    | true => exact hc
    | false =>
      obtain ⟨g1, g2⟩ := getS_right hc h5
      have := cR_put (s := freeS (getS c id) l) hc (shR_head g1 rfl rfl rfl rfl (by
        have := shH_iff.1 ((shR_iff _).1 g1).1
        rw [oneB_iff] at h3
        rw [shH_iff]; simp only [freeS]
        cases eqI (getS c id).mHold l
        · rw [cond_false]; omega
        · rw [cond_true]; omega) ((shR_iff _).1 g1).2.2.2.2.1) (up_head g2 rfl) (.inl ⟨_, (getS_in hc h5).1, rfl⟩)
      exact cR_later this h4
theorem raiseP_right {c : Cell} (hc : cR c = true) (t : Stamp) : cR (raiseP c t) = true := by
  unfold raiseP
  cases h : cR c && stR t with
  | false => exact hc
  | true => rw [Bool.and_eq_true] at h; exact cR_later hc h.2
theorem pruneP_right {c : Cell} (hc : cR c = true) (t : Stamp) : cR (pruneP c t) = true := by
  unfold pruneP
  cases h : cR c && stR t with
  | false => exact hc
  | true => rw [Bool.and_eq_true] at h; exact pruneC_right hc h.2
def actN (a : Act) : Int := Int.tmod (IntKind.wrap .u64 a.mKind) 15
def actP (c : Cell) (a : Act) : Cell :=
  bif eqI (actN a) 4 then (holdP c a.mID a.mEpoch a.mN).1 else bif eqI (actN a) 5 then (freeP c a.mID a.mN a.mAt).1 else bif eqI (actN a) 6 then (freezeP c a.mID a.mEpoch a.mN).1 else
    bif eqI (actN a) 7 then (thawP c a.mID a.mN).1 else bif eqI (actN a) 8 then (retireP c a.mID a.mN).1 else bif eqI (actN a) 9 then (serveP c a.mID a.mN a.mEpoch).1 else
      bif eqI (actN a) 10 then (dropP c a.mID a.mN).1 else bif eqI (actN a) 11 then (splitP c a.mID a.mEpoch a.mKey a.mOther a.mN).1 else bif eqI (actN a) 12 then (mergeP c a.mID a.mOther a.mEpoch a.mN).1 else
        bif eqI (actN a) 13 then raiseP c a.mAt else bif eqI (actN a) 14 then pruneP c a.mAt else (doP c a.mID a.mEpoch a.mReq a.mAt 10).1
theorem V53 (c : Cell) (a : Act) (h : SmC c) : Ev (fun k => F53 k c a) (actP c a) := by
  unfold actP
  exact Ev.bif (fun _ => Ev.bind (V30 c _ _ _ h) (Ev.of fun _ => rfl)) fun _ => Ev.bif (fun _ => Ev.bind (V32 c _ _ _ h) (Ev.of fun _ => rfl)) fun _ => Ev.bif (fun _ => Ev.bind (V39 c _ _ _ h) (Ev.of fun _ => rfl)) fun _ =>
    Ev.bif (fun _ => Ev.bind (V46 c _ _ h) (Ev.of fun _ => rfl)) fun _ => Ev.bif (fun _ => Ev.bind (V44 c _ _ h) (Ev.of fun _ => rfl)) fun _ => Ev.bif (fun _ => Ev.bind (V43 c _ _ _ h) (Ev.of fun _ => rfl)) fun _ =>
      Ev.bif (fun _ => Ev.bind (V47 c _ _ h) (Ev.of fun _ => rfl)) fun _ => Ev.bif (fun _ => Ev.bind (V48 c _ _ _ _ _ h) (Ev.of fun _ => rfl)) fun _ => Ev.bif (fun _ => Ev.bind (V50 c _ _ _ _ h) (Ev.of fun _ => rfl)) fun _ =>
        Ev.bif (fun _ => Ev.bind (V34 c _ h) (Ev.of fun _ => rfl)) fun _ => Ev.bif (fun _ => Ev.bind (V35 c _ h) (Ev.of fun _ => rfl)) fun _ => Ev.bind (V16 c _ _ _ _ _ h) (Ev.of fun _ => rfl)
theorem actP_right {c : Cell} (hc : cR c = true) (a : Act) : cR (actP c a) = true := by
  unfold actP
  cases eqI (actN a) 4 with
  | true => exact holdP_right hc _ _ _
  | false => cases eqI (actN a) 5 with
    | true => exact freeP_right hc _ _ _
    | false => cases eqI (actN a) 6 with
      | true => exact freezeP_right hc _ _ _
      | false => cases eqI (actN a) 7 with
        | true => exact thawP_right hc _ _
        | false => cases eqI (actN a) 8 with
          | true => exact retireP_right hc _ _
          | false => cases eqI (actN a) 9 with
            | true => exact serveP_right hc _ _ _
            | false => cases eqI (actN a) 10 with
              | true => exact dropP_right hc _ _
              | false => cases eqI (actN a) 11 with
                | true => exact splitP_right hc _ _ _ _ _
                | false => cases eqI (actN a) 12 with
                  | true => exact mergeP_right hc _ _ _ _
                  | false => cases eqI (actN a) 13 with
                    | true => exact raiseP_right hc _
                    | false => cases eqI (actN a) 14 with
                      | true => exact pruneP_right hc _
                      | false => exact doP_right hc _ _ _ _ _
theorem bif_top {b : Bool} {x y : Cell × Bool} {t : Stamp} (h1 : ¬ befS x.1.mTop t) (h2 : ¬ befS y.1.mTop t) : ¬ befS (bif b then x else y).1.mTop t := by cases b <;> assumption
theorem holdP_top (c : Cell) (id ep l : Int) : ¬ befS (holdP c id ep l).1.mTop c.mTop := bif_top (befS_irr _) (befS_irr _)
theorem freeP_top (c : Cell) (id l : Int) (t : Stamp) : ¬ befS (freeP c id l t).1.mTop c.mTop := bif_top (bif_top (befS_irr _) (laterS_ge _ _).1) (befS_irr _)
theorem freezeP_top (c : Cell) (id ep m : Int) : ¬ befS (freezeP c id ep m).1.mTop c.mTop := bif_top (bif_top (befS_irr _) (bif_top (befS_irr _) (bif_top (befS_irr _) (befS_irr _)))) (befS_irr _)
theorem thawP_top (c : Cell) (id m : Int) : ¬ befS (thawP c id m).1.mTop c.mTop := bif_top (bif_top (befS_irr _) (bif_top (befS_irr _) (befS_irr _))) (befS_irr _)
theorem retireP_top (c : Cell) (id m : Int) : ¬ befS (retireP c id m).1.mTop c.mTop := bif_top (befS_irr _) (bif_top (befS_irr _) (bif_top (befS_irr _) (befS_irr _)))
theorem serveP_top (c : Cell) (id m ep : Int) : ¬ befS (serveP c id m ep).1.mTop c.mTop := bif_top (bif_top (befS_irr _) (bif_top (befS_irr _) (bif_top (befS_irr _) (befS_irr _)))) (befS_irr _)
theorem dropP_top (c : Cell) (id m : Int) : ¬ befS (dropP c id m).1.mTop c.mTop := bif_top (befS_irr _) (bif_top (befS_irr _) (befS_irr _))
theorem splitP_top (c : Cell) (id ep : Int) (x : ByteArray) (o nx : Int) : ¬ befS (splitP c id ep x o nx).1.mTop c.mTop := bif_top (befS_irr _) (bif_top (befS_irr _) (bif_top (befS_irr _) (befS_irr _)))
theorem mergeP_top (c : Cell) (id o ep nx : Int) : ¬ befS (mergeP c id o ep nx).1.mTop c.mTop := bif_top (befS_irr _) (bif_top (befS_irr _) (bif_top (befS_irr _) (bif_top (befS_irr _) (befS_irr _))))
theorem raiseP_top (c : Cell) (t : Stamp) : ¬ befS (raiseP c t).mTop c.mTop := by
  unfold raiseP
  cases cR c && stR t with
  | false => exact befS_irr _
  | true => exact (laterS_ge _ _).1
theorem pruneP_top (c : Cell) (t : Stamp) : ¬ befS (pruneP c t).mTop c.mTop := by
  unfold pruneP
  cases cR c && stR t <;> exact befS_irr _
theorem bif_topA {b : Bool} {x y : Cell × Answer} {t : Stamp} (h1 : b = true → ¬ befS x.1.mTop t) (h2 : b = false → ¬ befS y.1.mTop t) : ¬ befS (bif b then x else y).1.mTop t := by
  cases b with
  | true => exact h1 rfl
  | false => exact h2 rfl
theorem writeP_top (c : Cell) (s : Shard) (r : Request) (now : Stamp) : ¬ befS (writeP c s r now).1.mTop c.mTop := by
  refine bif_topA (fun _ => befS_irr _) fun _ => bif_topA (fun _ => befS_irr _) fun _ => bif_topA (fun _ => befS_irr _) fun h => bif_topA (fun _ => befS_irr _) fun _ => bif_topA (fun _ => befS_irr _) fun _ => ?_
  show ¬ befS now c.mTop
  intro h2
  have : leI (cmpS now c.mTop) 0 = true := by rw [leB]; exact fun h3 => befS_irr _ (befS_trans h2 h3)
  rw [h] at this; cases this
theorem pastP_top (c : Cell) (s : Shard) (r : Request) (w : Int) : ¬ befS (pastP c s r w).1.mTop c.mTop :=
  bif_topA (fun _ => befS_irr _) fun _ => bif_topA (fun _ => befS_irr _) fun _ => bif_topA (fun _ => (laterS_ge _ _).1) fun _ => bif_topA (fun _ => (laterS_ge _ _).1) fun _ => (laterS_ge _ _).1
theorem doP_top (c : Cell) (id ep : Int) (r : Request) (now : Stamp) (w : Int) : ¬ befS (doP c id ep r now w).1.mTop c.mTop :=
  bif_topA (fun _ => befS_irr _) fun _ => bif_topA (fun _ => befS_irr _) fun _ => bif_topA (fun _ => befS_irr _) fun _ => bif_topA (fun _ => writeP_top _ _ _ _) fun _ => bif_topA (fun _ => befS_irr _) fun _ => pastP_top _ _ _ _
theorem actP_top (c : Cell) (a : Act) : ¬ befS (actP c a).mTop c.mTop := by
  unfold actP
  cases eqI (actN a) 4 with
  | true => exact holdP_top _ _ _ _
  | false => cases eqI (actN a) 5 with
    | true => exact freeP_top _ _ _ _
    | false => cases eqI (actN a) 6 with
      | true => exact freezeP_top _ _ _ _
      | false => cases eqI (actN a) 7 with
        | true => exact thawP_top _ _ _
        | false => cases eqI (actN a) 8 with
          | true => exact retireP_top _ _ _
          | false => cases eqI (actN a) 9 with
            | true => exact serveP_top _ _ _ _
            | false => cases eqI (actN a) 10 with
              | true => exact dropP_top _ _ _
              | false => cases eqI (actN a) 11 with
                | true => exact splitP_top _ _ _ _ _ _
                | false => cases eqI (actN a) 12 with
                  | true => exact mergeP_top _ _ _ _ _
                  | false => cases eqI (actN a) 13 with
                    | true => exact raiseP_top _ _
                    | false => cases eqI (actN a) 14 with
                      | true => exact pruneP_top _ _
                      | false => exact doP_top _ _ _ _ _ _
theorem V52 (c : Cell) (l : List Act) : EvP (fun k => F52 k c l) (fun b => b = true → SmC c) := by
  refine EvP.go ((downTo (M := fun i => EvP (fun k => F52_l1 l k (i : Int)) fun t => t = .ret false ∨ t = .out ()) (min l.length 40) ?_ fun i hi ih => ?_).mono fun t ht => ?_)
  · refine EvP.succ (fun k => by rw [F52_l1]) ?_
    have : (ltI ((min l.length 40 : Nat) : Int) (l.length : Int) && ltI ((min l.length 40 : Nat) : Int) 40) = false := by
      rw [Bool.and_eq_false_iff, ltI_false, ltI_false]; omega
    rw [this]
    exact EvP.some (.inr rfl)
  · refine EvP.succ (fun k => by rw [F52_l1]) ?_
    have : (ltI (i : Int) (l.length : Int) && ltI (i : Int) 40) = true := by
      rw [Bool.and_eq_true, ltI_iff, ltI_iff]; omega
    rw [this, inR_mk (by omega), i64z (by omega)]
    simp only [cond_true]
    exact EvP.cond (fun _ => EvP.some (.inl rfl)) fun _ => ih
  · rcases ht with rfl | rfl
    · exact fun h => by cases h
    · exact EvP.bind ((T14 c).mono fun b hb => EvP.some hb)
end Go.Proofs.Gd
set_option linter.unusedVariables false
set_option linter.unusedSimpArgs false
namespace Go.Proofs.Gd
open Go Go.Awp
theorem upN_add {l : List Version} {v : Version} {t : Stamp} (h : befS t v.mAt) : upN (l ++ [v]) t = upN l t := by
  refine upN_at (by have := upN_le l t; simp; omega) (fun i hi h' => ?_) fun h' => ?_
  · have hl : i < l.length := by have := upN_le l t; omega
    rw [List.getElem_append_left hl]
    exact upN_lt hl hi
  · by_cases hl : upN l t < l.length
    · rw [List.getElem_append_left hl]
      have := ahead_ge (fun v : Version => leI (cmpS v.mAt t) 0) l hl
      rw [Bool.eq_false_iff, Ne, leB, Classical.not_not] at this
      exact this
    · have e : upN l t = l.length := by have := upN_le l t; omega
      simp only [e]
      rw [List.getElem_append_right (Nat.le_refl _)]
      simpa using h
theorem atV_add {l : List Version} {v : Version} {t : Stamp} (h : befS t v.mAt) : atV (l ++ [v]) t = atV l t := by
  have hu := upN_le l t
  unfold atV
  rw [upN_add h]
  by_cases h0 : upN l t = 0
  · rw [if_pos h0, if_pos h0]
  · rw [if_neg h0, if_neg h0, show (upN l t : Int) - 1 = ((upN l t - 1 : Nat) : Int) by omega, rd_nat _ _ (by simp; omega), rd_nat _ _ (by omega), List.getElem_append_left]
theorem upN_drop {l : List Version} {t : Stamp} (h : l.Pairwise (fun a b => befS a.mAt b.mAt)) {j : Nat} (hj : j ≤ upN l t) : upN (l.drop j) t = upN l t - j := by
  have hu := upN_le l t
  refine upN_at (by simp; omega) (fun i hi h' => ?_) fun h' => ?_
  · rw [List.getElem_drop]
    exact upN_lt (by rw [List.length_drop] at h'; omega) (by omega)
  · rw [List.getElem_drop]
    exact upN_ge h (by rw [List.length_drop] at h'; omega) (by omega)
theorem upN_mono {l : List Version} {m t : Stamp} (h : l.Pairwise (fun a b => befS a.mAt b.mAt)) (hm : ¬ befS t m) : upN l m ≤ upN l t := by
  apply Classical.byContradiction
  intro hn
  have hu := upN_le l m
  have h1 := upN_lt (l := l) (t := m) (i := upN l t) (by omega) (by omega)
  have h2 := upN_ge h (t := t) (i := upN l t) (by omega) (Nat.le_refl _)
  exact h1 (befS_le (a := m) (by exact hm) h2)
/-- What is pruned at a moment has, from then on, what it had. -/
theorem valV_prV {l : List Version} {m t : Stamp} (h : chR l = true) (hm : ¬ befS t m) : valV (prV l m) t = valV l t := by
  obtain ⟨_, hv, hp⟩ := (chR_iff l).1 h
  have hmono := upN_mono hp hm
  have hu := upN_le l t
  have key : ∀ j, j ≤ upN l t → j < upN l t → atV (l.drop j) t = atV l t := fun j hj hlt => by
    unfold atV
    rw [upN_drop hp hj, if_neg (by omega), if_neg (by omega), show ((upN l t - j : Nat) : Int) - 1 = ((upN l t - j - 1 : Nat) : Int) by omega, rd_nat _ _ (by simp; omega), show (upN l t : Int) - 1 = ((upN l t - 1 : Nat) : Int) by omega, rd_nat _ _ (by omega), List.getElem_drop]
    congr 2; omega
  unfold prV
  by_cases hc : 0 < upN l m ∧ (rd l ((upN l m : Int) - 1)).mGone = false
  · rw [if_pos hc]
    unfold valV
    rw [key _ (by omega) (by omega)]
  · rw [if_neg hc]
    by_cases hlt : upN l m < upN l t
    · unfold valV
      rw [key _ (by omega) hlt]
    · have e : upN l t = upN l m := by omega
      have e1 : atV (l.drop (upN l m)) t = (zV, false) := by
        unfold atV
        rw [upN_drop hp (by omega), if_pos (by omega)]
      unfold valV
      rw [e1]
      by_cases h0 : upN l m = 0
      · have : atV l t = (zV, false) := by unfold atV; rw [if_pos (by omega)]
        rw [this]
      · have hg : (rd l ((upN l m : Int) - 1)).mGone = true := by
          cases hg : (rd l ((upN l m : Int) - 1)).mGone with
          | true => rfl
          | false => exact absurd ⟨by omega, hg⟩ hc
        have : atV l t = (rd l ((upN l m : Int) - 1), true) := by unfold atV; rw [if_neg (by omega), e]
        rw [this]
        have hmem : rd l ((upN l m : Int) - 1) ∈ l := by
          rw [show (upN l m : Int) - 1 = ((upN l m - 1 : Nat) : Int) by omega]
          exact rd_mem (by omega)
        have := vR_gone (hv _ hmem) hg
        show (zV.mValue, false && !zV.mGone) = ((rd l ((upN l m : Int) - 1)).mValue, true && !(rd l ((upN l m : Int) - 1)).mGone)
        rw [this, hg]; rfl
def valE (l : List Entry) (x : ByteArray) (t : Stamp) : ByteArray × Bool := valV (ofL l x) t
theorem ofL_left {a b : List Entry} {x : ByteArray} (h : ∀ e ∈ b, e.mKey ≠ x) : ofL (a ++ b) x = ofL a x := by
  induction a with
  | nil => exact ofL_none b x h
  | cons e a ih =>
    rw [List.cons_append, ofL, ofL, ih]
theorem ofL_right {a b : List Entry} {x : ByteArray} (h : ∀ e ∈ a, e.mKey ≠ x) : ofL (a ++ b) x = ofL b x := by
  induction a with
  | nil => rfl
  | cons e a ih =>
    rw [List.cons_append, ofL, strEq_false.2 (h e (by simp)), ih fun y hy => h y (by simp [hy])]; rfl
theorem ofL_prE {l : List Entry} (h : l.Pairwise (fun a b => cmpK a.mKey b.mKey < 0)) (x : ByteArray) (m : Stamp) : ofL (prE l m) x = prV (ofL l x) m := by
  induction l with
  | nil => rfl
  | cons e l ih =>
    rw [List.pairwise_cons] at h
    have hn : prV [] m = [] := rfl
    unfold prE
    rw [List.filterMap_cons]
    by_cases hc : 0 < (prV e.mChain m).length
    · rw [if_pos hc]
      show ofL ({ e with mChain := prV e.mChain m } :: prE l m) x = _
      rw [ofL, ofL, ih h.2]
      show (bif strEq e.mKey x then prV e.mChain m else prV (ofL l x) m) = _
      cases strEq e.mKey x <;> rfl
    · rw [if_neg hc]
      show ofL (prE l m) x = _
      rw [ih h.2, ofL]
      cases hk : strEq e.mKey x with
      | false => rfl
      | true =>
        rw [strEq_true] at hk
        have : ofL l x = [] := ofL_none l x fun y hy e2 => by
          have := h.1 y hy
          rw [hk, e2, cmpK_self] at this; omega
        rw [this, hn]
        show [] = prV e.mChain m
        exact (List.length_eq_zero_iff.1 (by omega)).symm
theorem valE_prE {l : List Entry} (h : ixR l = true) (x : ByteArray) {m t : Stamp} (hm : ¬ befS t m) : valE (prE l m) x t = valE l x t := by
  unfold valE
  rw [ofL_prE ((ixR_iff l).1 h).2.2]
  exact valV_prV (ofL_chR h x) hm
theorem valE_put {l : List Entry} {k : ByteArray} {v : Version} {t : Stamp} (h : (putE l k v).2 = 0) (ht : befS t v.mAt) (x : ByteArray) : valE (putE l k v).1 x t = valE l x t := by
  rw [(putE_ok h).2.2.2.2.2.2]
  unfold valE
  rw [ofL_ins]
  cases hk : strEq k x with
  | false => rfl
  | true =>
    rw [strEq_true] at hk
    subst hk
    show valV (ofL l k ++ [v]) t = _
    unfold valV
    rw [atV_add ht]
def tellB (s : Shard) (x : ByteArray) (t : Stamp) : Bool := !((eqI s.mPhase 3) || (ltI (cmpS t s.mMark) 0)) && inK' x s.mSpan
where inK' (x : ByteArray) (p : Span) : Bool := leI (cmpK p.mLo x) 0 && (strEq p.mHi ⟨#[]⟩ || ltI (cmpK x p.mHi) 0)
theorem tellB_iff {s : Shard} {x : ByteArray} {t : Stamp} : tellB s x t = true ↔ s.mPhase ≠ 3 ∧ ¬ befS t s.mMark ∧ cmpK s.mSpan.mLo x ≤ 0 ∧ (s.mSpan.mHi = ⟨#[]⟩ ∨ cmpK x s.mSpan.mHi < 0) := by
  unfold tellB tellB.inK'
  have e : (ltI (cmpS t s.mMark) 0 = false) ↔ ¬ befS t s.mMark := by rw [← ltB]; simp
  rw [Bool.and_eq_true, Bool.not_eq_true', Bool.or_eq_false_iff, eqI_false, e, Bool.and_eq_true, leI_iff, Bool.or_eq_true, strEq_true, ltI_iff, and_assoc]
def told : List Shard → ByteArray → Stamp → ByteArray × Bool × Bool
  | [], _, _ => (⟨#[]⟩, false, false)
  | s :: l, x, t => bif tellB s x t then ((valE s.mEntries x t).1, (valE s.mEntries x t).2, true) else told l x t
def toldR : List Shard → ByteArray → Stamp → LR (ByteArray × Bool × Bool) Unit
  | [], _, _ => .out ()
  | s :: l, x, t => bif tellB s x t then .ret ((valE s.mEntries x t).1, (valE s.mEntries x t).2, true) else toldR l x t
theorem toldR_go (l : List Shard) (x : ByteArray) (t : Stamp) : (toldR l x t).go (fun _ => some ((⟨#[]⟩ : ByteArray), false, false)) = some (told l x t) := by
  induction l with
  | nil => rfl
  | cons s l ih =>
    rw [toldR, told]
    cases tellB s x t with
    | true => rfl
    | false => exact ih
theorem V54 (c : Cell) (x : ByteArray) (t : Stamp) (hc : cR c = true) (hx : x.size ≤ 100) : Ev (fun k => F54 k c x t) (told c.mShards x t) := by
  have hl := ((cR_iff c).1 hc).1
  have : ∀ m i, i + m = c.mShards.length → Ev (fun k => F54_l1 c x t k (i : Int)) (toldR (c.mShards.drop i) x t) := fun m => by
    induction m with
    | zero =>
      intro i hi
      refine Ev.from 1 fun k => ?_
      show F54_l1 c x t (k + 1) _ = _
      rw [F54_l1, ltI_nat, decide_eq_false (by omega), List.drop_of_length_le (by omega)]; rfl
    | succ m ih =>
      intro i hi
      have hlt : i < c.mShards.length := by omega
      have hv := ih (i + 1) (by omega)
      have hg := ((cR_iff c).1 hc).2.2.2.1 _ (List.getElem_mem hlt)
      have h2 := shR_sm hg.1
      have hlo := h2.lo
      have hhi := h2.hi
      have hix := shR_ix hg.1
      rw [List.drop_eq_getElem_cons hlt, toldR]
      generalize toldR (c.mShards.drop (i + 1)) x t = v at hv
      refine Ev.succ (fun k => by rw [F54_l1]) ?_
      rw [ltI_nat, decide_eq_true hlt, inR_mk hlt, i64z (by omega), rd_nat _ _ hlt]
      generalize c.mShards[i] = s at *
      refine Ev.bind (optv fun _ => T42 _ _) (Ev.bind (optv fun _ => V55 _ _ _ (by omega) (by omega) (by omega)) ?_)
      unfold tellB tellB.inK'
      cases eqI s.mPhase 3 with
      | true => exact hv
      | false =>
        show Ev (fun k => bif ((false || (ltI (cmpS t s.mMark) 0)) || (!(bif !(false || (ltI (cmpS t s.mMark) 0)) then (leI (cmpK s.mSpan.mLo x) 0 && (strEq s.mSpan.mHi ⟨#[]⟩ || ltI (cmpK x s.mSpan.mHi) 0)) else default))) then _ else _) _
        cases ltI (cmpS t s.mMark) 0 with
        | true => exact hv
        | false =>
          show Ev (fun k => bif (!(leI (cmpK s.mSpan.mLo x) 0 && (strEq s.mSpan.mHi ⟨#[]⟩ || ltI (cmpK x s.mSpan.mHi) 0))) then _ else _) (bif (leI (cmpK s.mSpan.mLo x) 0 && (strEq s.mSpan.mHi ⟨#[]⟩ || ltI (cmpK x s.mSpan.mHi) 0)) then _ else _)
          cases (leI (cmpK s.mSpan.mLo x) 0 && (strEq s.mSpan.mHi ⟨#[]⟩ || ltI (cmpK x s.mSpan.mHi) 0)) with
          | false => exact hv
          | true => exact Ev.bind (V118 _ _ _ hix) (Ev.of fun _ => rfl)
  have := this c.mShards.length 0 (by omega)
  rw [List.drop_zero] at this
  refine Ev.bind this (Ev.of fun _ => toldR_go _ _ _)
/-- What a shard tells is what was told. -/
def Qs (x : ByteArray) (t : Stamp) (w : ByteArray × Bool × Bool) (s : Shard) : Prop := tellB s x t = true → w.2.2 = true ∧ valE s.mEntries x t = (w.1, w.2.1)
theorem Qs_head {x : ByteArray} {t : Stamp} {w : ByteArray × Bool × Bool} {s u : Shard} (h : Qs x t w s) (e1 : u.mSpan = s.mSpan) (e2 : u.mEntries = s.mEntries) (e3 : u.mMark = s.mMark) (e4 : s.mPhase = 3 → u.mPhase = 3) : Qs x t w u := fun hu => by
  rw [tellB_iff, e1, e3] at hu
  rw [e2]
  exact h (tellB_iff.2 ⟨fun e => hu.1 (e4 e), hu.2⟩)
def QC (x : ByteArray) (t : Stamp) (w : ByteArray × Bool × Bool) (c : Cell) : Prop := ∀ s ∈ c.mShards, Qs x t w s
theorem QC_put {x : ByteArray} {t : Stamp} {w : ByteArray × Bool × Bool} {c : Cell} (hc : cR c = true) (h : QC x t w c) {s : Shard} (hs : Qs x t w s) : QC x t w (putC c s) := fun y hy => by
  rcases (putL_mem' ((cR_iff c).1 hc).2.2.2.2 y).1 hy with rfl | h2
  · exact hs
  · exact h y h2.1
theorem QC_drop {x : ByteArray} {t : Stamp} {w : ByteArray × Bool × Bool} {c : Cell} (h : QC x t w c) (id : Int) : QC x t w (dropC c id) := fun y hy => h y (List.mem_filter.1 hy).1
theorem told_Q {x : ByteArray} {t : Stamp} {w : ByteArray × Bool × Bool} : ∀ {l : List Shard}, (∀ s ∈ l, Qs x t w s) → (told l x t).2.2 = true → w.2.2 = true ∧ told l x t = w
  | [], _, h => by cases h
  | s :: l, hq, h => by
    rw [told] at h ⊢
    cases ht : tellB s x t with
    | true =>
      obtain ⟨h1, h2⟩ := hq s (by simp) ht
      refine ⟨h1, ?_⟩
      rw [cond_true, h2]
      obtain ⟨a, b, d⟩ := w
      simp only at h1
      rw [h1]
    | false =>
      rw [ht] at h
      exact told_Q (fun y hy => hq y (by simp [hy])) h
section
variable {x : ByteArray} {t : Stamp} {w : ByteArray × Bool × Bool} {c : Cell}
theorem Q_hold (hc : cR c = true) (h : QC x t w c) (id ep l : Int) : QC x t w (holdP c id ep l).1 := by
  unfold holdP
  cases hb : holdB c (getS c id) id ep l with
  | false => exact h
  | true =>
    unfold holdB at hb
    simp only [Bool.and_eq_true, Bool.not_eq_true', eqI_false] at hb
    exact QC_put hc h (Qs_head (h _ (getS_in hc hb.1.1.1.1.2).1) rfl rfl rfl fun e => e)
theorem Q_free (hc : cR c = true) (h : QC x t w c) (id l : Int) (u : Stamp) : QC x t w (freeP c id l u).1 := by
  unfold freeP
  cases hb : cR c && oneB id && oneB l && stR u && !eqI (getS c id).mID 0 with
  | false => exact h
  | true =>
    simp only [Bool.and_eq_true, Bool.not_eq_true', eqI_false] at hb
    rw [cond_true]
    cases leI l (getS c id).mSeen with
    | true => exact h
    | false => exact QC_put (s := freeS (getS c id) l) hc h (Qs_head (h _ (getS_in hc hb.2).1) rfl rfl rfl fun e => e)
theorem Q_freeze (hc : cR c = true) (h : QC x t w c) (id ep m : Int) : QC x t w (freezeP c id ep m).1 := by
  unfold freezeP
  cases h0 : cR c && oneB id && !eqI (getS c id).mID 0 with
  | false => exact h
  | true =>
    simp only [Bool.and_eq_true, Bool.not_eq_true', eqI_false] at h0
    rw [cond_true]
    cases oneB ep && oneB m with
    | false => exact h
    | true =>
      rw [Bool.not_true, cond_false]
      cases eqI (getS c id).mPhase 2 && eqI (getS c id).mMove m with
      | true => exact h
      | false =>
        rw [cond_false]
        cases hp : (((!eqI (getS c id).mEpoch ep) || (!eqI (getS c id).mPhase 1)) || (!eqI (getS c id).mHold 0)) || (leI m (getS c id).mClosed) with
        | true => exact h
        | false =>
          simp only [Bool.or_eq_false_iff, Bool.not_eq_false', eqI_iff] at hp
          exact QC_put (s := freezeS (getS c id) m c.mTop) hc h (Qs_head (h _ (getS_in hc h0.2).1) rfl rfl rfl fun e => by rw [hp.1.1.2] at e; omega)
theorem Q_thaw (hc : cR c = true) (h : QC x t w c) (id m : Int) : QC x t w (thawP c id m).1 := by
  unfold thawP
  cases h0 : cR c && oneB id && !eqI (getS c id).mID 0 with
  | false => exact h
  | true =>
    simp only [Bool.and_eq_true, Bool.not_eq_true', eqI_false] at h0
    rw [cond_true]
    cases oneB m with
    | false => exact h
    | true =>
      rw [Bool.not_true, cond_false]
      cases (leI m (getS c id).mClosed) || ((eqI (getS c id).mPhase 2) && (!eqI (getS c id).mMove m)) with
      | true => exact h
      | false =>
        refine QC_put (s := thawS (getS c id) m) hc h (Qs_head (h _ (getS_in hc h0.2).1) rfl rfl rfl fun e => ?_)
        show (bif eqI (getS c id).mPhase 2 && eqI (getS c id).mMove m then 1 else (getS c id).mPhase) = 3
        rw [e]; rfl
theorem Q_split (hc : cR c = true) (h : QC x t w c) (id ep : Int) (k : ByteArray) (o nx : Int) : QC x t w (splitP c id ep k o nx).1 := by
  unfold splitP
  cases hb : cR c && (oneB id && oneB ep && oneB o && oneB nx) with
  | false => exact h
  | true =>
    simp only [Bool.and_eq_true] at hb
    simp only [Bool.not_true, cond_false]
    cases ((((!eqI (getS c id).mID 0) && (eqI (getS c id).mEpoch nx)) && (strEq (getS c id).mSpan.mHi k)) && (!eqI (getS c o).mID 0)) && (eqI (getS c o).mEpoch nx) with
    | true => exact h
    | false =>
      rw [cond_false]
      cases hcc : (((((!openB (getS c id) ep) || (leI nx ep)) || (leI nx (getS c id).mClosed)) || (!eqI (getS c o).mID 0)) || (eqI (c.mShards.length : Int) 8)) || (!eqI (cutS (getS c id).mSpan k).2.2 0) with
      | true => exact h
      | false =>
        simp only [Bool.or_eq_false_iff, Bool.not_eq_false', eqI_iff, eqI_false] at hcc
        obtain ⟨⟨⟨⟨⟨h1, h2⟩, h3⟩, h4⟩, h5⟩, h6⟩ := hcc
        have h0 := (openB_iff.1 h1).1
        obtain ⟨q1, _⟩ := split_right hc h0 hb.2.1.2 hb.2.2 h4 (by omega) h6
        have hq := h _ (getS_in hc h0).1
        obtain ⟨g1, _⟩ := getS_right hc h0
        have hix := shR_ix g1
        obtain ⟨k1, k2, k3, k4, k5, k6⟩ := cutS_ok h6
        have eT : (getS c id).mEntries = (getS c id).mEntries.take (cutN (getS c id).mEntries k) ++ (getS c id).mEntries.drop (cutN (getS c id).mEntries k) := (List.take_append_drop _ _).symm
        refine QC_put q1 (QC_put hc h fun hu => ?_) fun hu => ?_
        · rw [tellB_iff] at hu
          obtain ⟨u1, u2, u3, u4⟩ := hu
          have u3 : cmpK (cutS (getS c id).mSpan k).1.mLo x ≤ 0 := u3
          have u4 : (cutS (getS c id).mSpan k).1.mHi = ⟨#[]⟩ ∨ cmpK x (cutS (getS c id).mSpan k).1.mHi < 0 := u4
          rw [k5] at u3 u4
          have hxk : cmpK x k < 0 := by
            rcases u4 with u4 | u4
            · have := (keyR_size k2).1
              have e : k = ⟨#[]⟩ := u4
              rw [e] at this; exact absurd this (by decide)
            · exact u4
          have ht := hq (tellB_iff.2 ⟨u1, u2, u3, by
            rcases k4 with k4 | k4
            · exact .inl k4
            · exact .inr (cmpK_trans hxk k4)⟩)
          refine ⟨ht.1, ?_⟩
          rw [← ht.2]
          unfold valE
          congr 1
          conv => rhs; rw [eT]
          exact (ofL_left fun e he e2 => by
            have := (cut_hi hix k e he).2
            rw [e2] at this; omega).symm
        · rw [tellB_iff] at hu
          obtain ⟨u1, u2, u3, u4⟩ := hu
          have u3 : cmpK (cutS (getS c id).mSpan k).2.1.mLo x ≤ 0 := u3
          have u4 : (cutS (getS c id).mSpan k).2.1.mHi = ⟨#[]⟩ ∨ cmpK x (cutS (getS c id).mSpan k).2.1.mHi < 0 := u4
          rw [k6] at u3 u4
          have hkx : cmpK k x ≤ 0 := u3
          have ha := cmpK_anti k x
          have hlo := cmpK_trans2 k3 hkx
          have ht := hq (tellB_iff.2 ⟨u1, u2, by omega, u4⟩)
          refine ⟨ht.1, ?_⟩
          rw [← ht.2]
          unfold valE
          congr 1
          conv => rhs; rw [eT]
          exact (ofL_right fun e he e2 => by
            have := (cut_lo hix k e he).2
            rw [e2] at this; omega).symm
theorem Q_merge (hc : cR c = true) (h : QC x t w c) (id o ep nx : Int) : QC x t w (mergeP c id o ep nx).1 := by
  unfold mergeP
  cases hb : cR c && (oneB id && oneB o && oneB ep && oneB nx) with
  | false => exact h
  | true =>
    simp only [Bool.not_true, cond_false]
    cases ((!eqI (getS c id).mID 0) && (eqI (getS c id).mEpoch nx)) && (eqI (getS c o).mID 0) with
    | true => exact h
    | false =>
      rw [cond_false]
      cases hcc : ((((!openB (getS c id) ep) || (!openB (getS c o) (getS c o).mEpoch)) || (leI nx (getS c id).mEpoch)) || (leI nx (getS c o).mEpoch)) || (leI nx (getS c id).mClosed) with
      | true => exact h
      | false =>
        simp only [Bool.or_eq_false_iff, Bool.not_eq_false'] at hcc
        rw [cond_false]
        cases hj : ((!eqI (joinS (getS c id).mSpan (getS c o).mSpan).2 0) || (!eqI (joinE (getS c id).mEntries (getS c o).mEntries).2 0)) || (!eqI (mergeD (getS c id).mDone (getS c o).mDone).2 0) with
        | true => exact h
        | false =>
          simp only [Bool.or_eq_false_iff, Bool.not_eq_false', eqI_iff] at hj
          obtain ⟨⟨j1, j2⟩, j3⟩ := hj
          have o1 := openB_iff.1 hcc.1.1.1.1
          have o2 := openB_iff.1 hcc.1.1.1.2
          have qa := h _ (getS_in hc o1.1).1
          have qb := h _ (getS_in hc o2.1).1
          have ra := (getS_right hc o1.1).1
          have rb := (getS_right hc o2.1).1
          generalize getS c id = a at *
          generalize getS c o = b at *
          refine QC_drop (QC_put hc h fun hu => ?_) o
          rw [tellB_iff] at hu
          obtain ⟨u1, u2, u3, u4⟩ := hu
          obtain ⟨s1, s2, s3, s4, s5⟩ := joinS_ok j1
          have u2 : ¬ befS t (laterS a.mMark b.mMark) := u2
          have u3 : cmpK (joinS a.mSpan b.mSpan).1.mLo x ≤ 0 := u3
          have u4 : (joinS a.mSpan b.mSpan).1.mHi = ⟨#[]⟩ ∨ cmpK x (joinS a.mSpan b.mSpan).1.mHi < 0 := u4
          rw [s5] at u3 u4
          obtain ⟨l1, l2⟩ := laterS_ge a.mMark b.mMark
          have ma : ¬ befS t a.mMark := nbef_trans l1 u2
          have mb : ¬ befS t b.mMark := nbef_trans l2 u2
          have ga := (shR_iff a).1 ra
          have gb := (shR_iff b).1 rb
          have hj := (joinE_ok j2).2.2.2.2
          have hjr := joinE_right j2
          show w.2.2 = true ∧ valE (prE (joinE a.mEntries b.mEntries).1 (laterS a.mMark b.mMark)) x t = (w.1, w.2.1)
          rw [valE_prE hjr x u2, hj]
          by_cases hx : cmpK x a.mSpan.mHi < 0
          · have ht := qa (tellB_iff.2 ⟨by rw [o1.2.2.1]; omega, ma, u3, .inr hx⟩)
            refine ⟨ht.1, ?_⟩
            rw [← ht.2]
            unfold valE
            congr 1
            refine ofL_left fun e he e2 => ?_
            have := ((hasR_iff _ _).1 (gb.2.2.2.2.2.2 e he)).2.2.1
            rw [← s4, e2] at this
            have ha := cmpK_anti x a.mSpan.mHi
            omega
          · have ha := cmpK_anti x a.mSpan.mHi
            have ht := qb (tellB_iff.2 ⟨by rw [o2.2.2.1]; omega, mb, by rw [← s4]; omega, u4⟩)
            refine ⟨ht.1, ?_⟩
            rw [← ht.2]
            unfold valE
            congr 1
            refine ofL_right fun e he e2 => ?_
            have := ((hasR_iff _ _).1 (ga.2.2.2.2.2.2 e he)).2.2.2
            rcases this with this | this
            · exact s3 this
            · rw [e2] at this; omega
theorem Q_raise (h : QC x t w c) (u : Stamp) : QC x t w (raiseP c u) := by
  unfold raiseP
  cases cR c && stR u <;> exact h
theorem Q_prune (h : QC x t w c) (u : Stamp) : QC x t w (pruneP c u) := by
  unfold pruneP
  cases hb : cR c && stR u with
  | false => exact h
  | true =>
    rw [Bool.and_eq_true] at hb
    intro y hy
    obtain ⟨s, hs, rfl⟩ := List.mem_map.1 hy
    intro hu
    rw [tellB_iff] at hu
    obtain ⟨u1, u2, u3⟩ := hu
    have u2 : ¬ befS t (laterS s.mMark u) := u2
    obtain ⟨l1, l2⟩ := laterS_ge s.mMark u
    have ht := h s hs (tellB_iff.2 ⟨u1, nbef_trans l1 u2, u3⟩)
    refine ⟨ht.1, ?_⟩
    rw [← ht.2]
    exact valE_prE (cR_ix hb.1 s hs) x (nbef_trans l2 u2)
theorem Q_step {s : Shard} {r : Request} {now : Stamp} (h : (stepP c s r now).1 = 0) (ht : befS t now) : valE (stepP c s r now).2.1 x t = valE s.mEntries x t := by
  unfold stepP at h ⊢
  revert h
  cases (eqI r.mKind 3) && ((!((latA c s r.mKey).mFound == r.mHad)) || ((latA c s r.mKey).mFound && (!strEq (latA c s r.mKey).mValue r.mOld))) with
  | true => exact fun _ => rfl
  | false =>
    cases eqI r.mKind 2 with
    | false => exact fun h => valE_put h ht x
    | true =>
      cases (latA c s r.mKey).mFound with
      | true => exact fun h => valE_put h ht x
      | false => exact fun _ => rfl
theorem Q_do (hc : cR c = true) (h : QC x t w c) (ht : ¬ befS c.mTop t) (id ep : Int) (r : Request) (now : Stamp) (v : Int) : QC x t w (doP c id ep r now v).1 := by
  unfold doP
  cases cR c && (oneB id && oneB ep) && noB v && stR now && rqR r with
  | false => exact h
  | true =>
    simp only [Bool.not_true, cond_false]
    cases h2 : ((eqI (getS c id).mID 0) || (!eqI (getS c id).mEpoch ep)) || (!hasS (getS c id) r.mKey) with
    | true => exact h
    | false =>
      simp only [Bool.or_eq_false_iff, eqI_false, Bool.not_eq_false'] at h2
      have h0 := h2.1.1
      rw [cond_false]
      cases (!eqI (getS c id).mPhase 1) || (wrB r && (!eqI (getS c id).mHold 0)) with
      | true => exact h
      | false =>
        rw [cond_false]
        cases wrB r with
        | true =>
          rw [cond_true]
          unfold writeP
          cases eqI (judge (getS c id).mDone r.mClient r.mReq) 2 with
          | true => exact h
          | false =>
            cases eqI (judge (getS c id).mDone r.mClient r.mReq) 3 with
            | true => exact h
            | false =>
              cases hb : leI (cmpS now c.mTop) 0 with
              | true => exact h
              | false =>
                have hb : befS c.mTop now := by
                  apply Classical.byContradiction
                  intro h
                  rw [← leB, hb] at h; cases h
                cases h3 : eqI (stepP c (getS c id) r now).1 0 with
                | false => exact h
                | true =>
                  cases eqI (dnP c (getS c id) r now).2 0 with
                  | false => exact h
                  | true =>
                    have hq := h _ (getS_in hc h0).1
                    refine QC_put (s := wrS c (getS c id) r now) hc h fun hu => ?_
                    have := hq (by rw [tellB_iff] at hu ⊢; exact hu)
                    refine ⟨this.1, ?_⟩
                    rw [← this.2]
                    exact Q_step (eqI_iff.1 h3) (befS_le ht hb)
        | false =>
          rw [cond_false]
          cases eqI r.mKind 4 with
          | true => exact h
          | false =>
            rw [cond_false]
            unfold pastP
            cases ltI (cmpS r.mAt (getS c id).mMark) 0 with
            | true => exact h
            | false =>
              cases ltI v (r.mAt.mWall - 1000) with
              | true => exact h
              | false =>
                cases eqI r.mKind 5 with
                | true => exact h
                | false => cases onP (getS c id) r && !(pageP (getS c id).mEntries r.mKey (hiP (getS c id) r) r.mAt r.mLimit.toNat).2.2 <;> exact h
theorem Q_act (hc : cR c = true) (h : QC x t w c) (ht : ¬ befS c.mTop t) (a : Act) (ha : ((eqI (actN a) 8 || eqI (actN a) 9) || eqI (actN a) 10) = false) : QC x t w (actP c a) := by
  simp only [Bool.or_eq_false_iff] at ha
  unfold actP
  rw [ha.1.1, ha.1.2, ha.2]
  cases eqI (actN a) 4 with
  | true => exact Q_hold hc h _ _ _
  | false => cases eqI (actN a) 5 with
    | true => exact Q_free hc h _ _ _
    | false => cases eqI (actN a) 6 with
      | true => exact Q_freeze hc h _ _ _
      | false => cases eqI (actN a) 7 with
        | true => exact Q_thaw hc h _ _
        | false => cases eqI (actN a) 11 with
          | true => exact Q_split hc h _ _ _ _ _
          | false => cases eqI (actN a) 12 with
            | true => exact Q_merge hc h _ _ _ _
            | false => cases eqI (actN a) 13 with
              | true => exact Q_raise h _
              | false => cases eqI (actN a) 14 with
                | true => exact Q_prune h _
                | false => exact Q_do hc h ht _ _ _ _ _
end
theorem V12_l1 (x : ByteArray) (t : Stamp) (l : List Act) (w : ByteArray × Bool × Bool) (hx : x.size ≤ 100) : ∀ m i c, i + m = min l.length 40 → cR c = true → QC x t w c → ¬ befS c.mTop t → Ev (fun k => F12_l1 x t l w.1 w.2.1 w.2.2 k ((i : Int), c.mShards, c.mTop.mWall, c.mTop.mTick, c.mTop.mNode, c.mDropped)) (.out ())
  | 0, i, c, hi, hc, hq, ht => by
    refine Ev.from 1 fun k => ?_
    show F12_l1 x t l w.1 w.2.1 w.2.2 (k + 1) (_, _) = _
    rw [F12_l1]
    have : (ltI (i : Int) (l.length : Int) && ltI (i : Int) 40) = false := by
      rw [Bool.and_eq_false_iff, ltI_false, ltI_false]; omega
    rw [this]; rfl
  | m + 1, i, c, hi, hc, hq, ht => by
    refine Ev.succ (fun k => by rw [F12_l1]) ?_
    have : (ltI (i : Int) (l.length : Int) && ltI (i : Int) 40) = true := by
      rw [Bool.and_eq_true, ltI_iff, ltI_iff]; omega
    rw [this, inR_mk (by omega), i64z (by omega)]
    simp only [cond_true]
    refine Ev.cond (fun _ => V12_l1 x t l w hx m (i + 1) c (by omega) hc hq ht) fun ha => ?_
    have hr := actP_right hc (rd l (i : Int))
    have hq2 := Q_act hc hq ht (rd l (i : Int)) ha
    have ht2 := nbef_trans ht (actP_top c (rd l (i : Int)))
    have hv := V53 c (rd l (i : Int)) (cR_sm hc).sm
    generalize actP c (rd l (i : Int)) = d at hr ht2 hq2 hv
    refine Ev.bind hv (Ev.bind (V54 d x t hr hx) ?_)
    show Ev (fun k => bif ((told d.mShards x t).2.2 && (((!w.2.2) || (!strEq (told d.mShards x t).1 w.1)) || (!((told d.mShards x t).2.1 == w.2.1)))) then _ else _) _
    refine Ev.cond (fun hc => ?_) fun _ => V12_l1 x t l w hx m (i + 1) d (by omega) hr hq2 ht2
    rw [Bool.and_eq_true] at hc
    obtain ⟨g1, g2⟩ := told_Q hq2 hc.1
    rw [g2, g1, strEq_self, beq_self_eq_true] at hc
    simp at hc
theorem past (c : Cell) (x : ByteArray) (t : Stamp) (l : List Act) : EvP (fun k => F12 k c x t l) (· = true) := by
  have aw : Ev (fun k => F15 k) true := Ev.from 40 awake
  refine EvP.bind ((V52 c l).mono fun b hb => ?_)
  cases b with
  | false => exact EvP.bind (EvP.some (EvP.guard rfl (EvP.bind (EvP.some (EvP.bind (aw.evP.mono fun x hx => EvP.some hx))))))
  | true =>
    refine EvP.bind ((V25 c (hb rfl)).evP.mono fun b2 h2 => ?_)
    subst h2
    cases hc : cR c with
    | false => exact EvP.guard rfl (EvP.bind (EvP.some (EvP.bind (aw.evP.mono fun x hx => EvP.some hx))))
    | true =>
      show EvP (fun k => bif (!(!((false || false) || (!eqI (c.mShards.length : Int) 1))) || inR 0 c.mShards.length) then ((bif (!((((false || false) || (!eqI (c.mShards.length : Int) 1)) || (!(qSpan (rd c.mShards 0).mSpan (⟨⟨#[]⟩, ⟨#[]⟩⟩ : Span)))) || (ltI 100 (x.size : Int)))) then F42 k t c.mTop else some default).bind fun t50 => bif (((((false || false) || (!eqI (c.mShards.length : Int) 1)) || (!(qSpan (rd c.mShards 0).mSpan (⟨⟨#[]⟩, ⟨#[]⟩⟩ : Span)))) || (ltI 100 (x.size : Int))) || (ltI 0 t50)) then ((F15 k).bind fun t53 => some t53) else ((F54 k c x t).bind fun (t58a, t58b, t58c) => (F12_l1 x t l t58a t58b t58c k (0, c.mShards, c.mTop.mWall, c.mTop.mTick, c.mTop.mNode, c.mDropped)).bind fun t => t.go fun _ => (F15 k).bind fun t118 => some t118)) else none) _
      refine EvP.guard ?_ ?_
      · rw [Bool.or_eq_true, Bool.not_not, inR_iff]
        cases h1 : eqI (c.mShards.length : Int) 1 with
        | false => exact .inl rfl
        | true => rw [eqI_iff] at h1; right; omega
      · generalize hA : ((((false || false) || (!eqI (c.mShards.length : Int) 1)) || (!(qSpan (rd c.mShards 0).mSpan (⟨⟨#[]⟩, ⟨#[]⟩⟩ : Span)))) || (ltI 100 (x.size : Int))) = A
        refine EvP.of (r := true) (Ev.bind (optv fun _ => T42 t c.mTop) (Ev.cond (fun _ => Ev.bind aw (Ev.of fun _ => rfl)) fun hcc => ?_)) rfl
        rw [Bool.or_eq_false_iff] at hcc
        obtain ⟨hA0, ht⟩ := hcc
        subst hA0
        rw [Bool.not_false, cond_true] at ht
        simp only [Bool.or_eq_false_iff, ltI_false] at hA
        have hx : x.size ≤ 100 := by omega
        have ht' : ¬ befS c.mTop t := by rw [← ltB', ht]; simp
        have hv := V54 c x t hc hx
        have hone : c.mShards.length = 1 := by
          have := hA.1.1.2
          rw [Bool.not_eq_false', eqI_iff] at this; omega
        have hq : QC x t (told c.mShards x t) c := by
          obtain ⟨s, hs⟩ : ∃ s, c.mShards = [s] := List.length_eq_one_iff.1 hone
          intro y hy hu
          rw [hs] at hy ⊢
          rw [List.mem_singleton] at hy
          subst hy
          rw [told, hu]
          exact ⟨rfl, rfl⟩
        have hl := V12_l1 x t l (told c.mShards x t) hx _ 0 c (Nat.zero_add _) hc hq ht'
        generalize told c.mShards x t = w at hv hl
        obtain ⟨w1, w2, w3⟩ := w
        exact Ev.bind hv (Ev.bind hl (Ev.bind aw (Ev.of fun _ => rfl)))
end Go.Proofs.Gd
