/- Cells that are right, on both sides; the shard that is found. No program in sight. -/
import Derived.Test.YthhpelmjnmlgjaaGreatDoorGdShard
set_option linter.unusedVariables false
set_option linter.unusedSimpArgs false
namespace Go.Proofs.Gd
open Go Go.Awp

def cQ (c : Cell) (i : Nat) : Bool := shR (rd c.mShards (i : Int)) && upR (rd c.mShards (i : Int)) c.mTop && (decide (i = 0) || ltI (rd c.mShards ((i : Int) - 1)).mID (rd c.mShards (i : Int)).mID)
def cR (c : Cell) : Bool := leI (c.mShards.length : Int) 8 && stR c.mTop && noB c.mDropped && allFrom (cQ c) c.mShards.length 0
def pcS (l : List Shard) (i : Int) : Int := bif leI i 0 then 0 else (rd l (i - 1)).mID
theorem shR_ix {s : Shard} (h : shR s = true) : ixR s.mEntries = true := by
  unfold shR at h
  simp only [Bool.and_eq_true] at h
  exact h.1.1.1.1.2
theorem shR_id {s : Shard} (h : shR s = true) : 1 ≤ s.mID ∧ s.mID ≤ 1099511627776 := by
  unfold shR oneB at h
  simp only [Bool.and_eq_true, leI_iff] at h
  exact h.1.1.1.1.1.1.1.1.1.1.1.1.1
theorem ixR_ne {l : List Entry} (h : ixR l = true) : ∀ e ∈ l, e.mChain ≠ [] := fun e he hn => by
  obtain ⟨j, hj, rfl⟩ := List.mem_iff_getElem.1 he
  unfold ixR at h
  rw [Bool.and_eq_true, allFrom_iff] at h
  have := h.2 j (by omega) (by omega)
  unfold ixQ at this
  rw [rd_nat _ _ hj, hn] at this
  simp [eqI] at this
theorem V25 (c : Cell) (h : SmC c) : Ev (fun k => F25 k c) (cR c) := by
  have hs := h.shards
  have start : ∀ k, F25_l1 c k (0, 0) = F25_l1 c k (pcS c.mShards 0, 0) := fun _ => rfl
  refine Ev.bind ((all_ev (f := fun k i => F25_l1 c k (pcS c.mShards i, i)) (q := cQ c) (n := c.mShards.length) (r := false) ?_ fun i hi v hv => ?_).congr start) ?_
  · refine Ev.from 1 fun k => ?_
    show F25_l1 c (k + 1) (pcS c.mShards _, _) = _
    rw [F25_l1, ltI_nat, decide_eq_false (Nat.lt_irrefl _)]; rfl
  · refine Ev.succ (fun k => by rw [F25_l1]) ?_
    have hp : pcS c.mShards ((i + 1 : Nat) : Int) = (rd c.mShards (i : Int)).mID := by
      unfold pcS
      rw [leI_false.2 (by omega), show ((i + 1 : Nat) : Int) - 1 = (i : Int) by omega]; rfl
    simp only [hp] at hv
    rw [ltI_nat, decide_eq_true hi, inR_mk hi, i64z (n := (i : Int) + 1) (by omega)]
    have hi' := h.each _ (rd_mem hi)
    generalize hsx : rd c.mShards (i : Int) = s at *
    have hq : cQ c i = (!leI s.mID (pcS c.mShards (i : Int)) && shR s && upR s c.mTop) := by
      unfold cQ pcS
      rw [hsx]
      by_cases h0 : i = 0
      · subst h0
        show _ = (!leI s.mID 0 && _ && _)
        cases hone : shR s
        · simp
        · have : leI s.mID 0 = false := by rw [leI_false]; have := (shR_id hone).1; omega
          rw [this]; simp
      · rw [decide_eq_false h0, (leI_false.2 (by omega) : leI (i : Int) 0 = false)]
        have : (!leI s.mID (rd c.mShards ((i : Int) - 1)).mID) = ltI (rd c.mShards ((i : Int) - 1)).mID s.mID := by
          rw [Bool.eq_iff_iff, Bool.not_eq_true', leI_false, ltI_iff]
        simp only [cond_false, Bool.false_or, this]
        generalize ltI (rd c.mShards ((i : Int) - 1)).mID s.mID = a; generalize shR s = b; generalize upR s c.mTop = d
        revert a b d; decide
    rw [hq]
    refine Ev.bind (optv fun _ => V20 _ hi') ?_
    cases leI s.mID (pcS c.mShards (i : Int)) <;> simp only [Bool.not_true, Bool.not_false, Bool.true_and, Bool.false_and, Bool.true_or, Bool.false_or, cond_true, cond_false, Bool.and_true, Bool.and_false, Bool.or_true, Bool.or_false]
    · cases hsr : shR s <;> simp only [Bool.not_true, Bool.not_false, Bool.true_and, Bool.false_and, Bool.true_or, Bool.false_or, cond_true, cond_false, Bool.and_true, Bool.and_false, Bool.or_true, Bool.or_false]
      · exact Ev.of fun _ => rfl
      · refine Ev.bind (V90 _ _ hi' (ixR_ne (shR_ix hsr))) ?_
        cases upR s c.mTop
        · exact Ev.of fun _ => rfl
        · exact hv
    · exact Ev.of fun _ => rfl
  · unfold cR
    cases hall : allFrom (cQ c) c.mShards.length 0
    · exact Ev.of fun _ => by simp [LR.go]
    · show Ev (fun k => (bif (leI (c.mShards.length : Int) 8) then F36 k c.mTop else some default).bind fun t39 => (bif ((leI (c.mShards.length : Int) 8) && t39) then F57 k 0 [c.mDropped] else some default).bind fun t45 => some (((leI (c.mShards.length : Int) 8) && t39) && t45)) _
      refine Ev.bind (optv fun _ => T36 _) (Ev.bind (optv fun _ => V57_0 _ (by simp)) (Ev.of fun _ => ?_))
      congr 1
      simp only [List.all_cons, List.all_nil, Bool.and_true]
      cases leI (c.mShards.length : Int) 8 <;> cases stR c.mTop <;> simp
theorem V22 (c : Cell) (h : SmC2 c) : Ev (fun k => F22 k c) (cR c) := by
  have hs := h.shards
  have hl : ltI 8 (c.mShards.length : Int) = !leI (c.mShards.length : Int) 8 := by rw [Bool.eq_iff_iff, Bool.not_eq_true', ltI_iff, leI_false]
  unfold F22
  rw [hl]
  refine Ev.bind (optv fun _ => T68 _) (Ev.bind (optv fun _ => V67 _) ?_)
  unfold cR
  have loop : Ev (fun k => (F22_l1 c k 0).bind fun t => t.go fun _ => some true) (allFrom (cQ c) c.mShards.length 0) := by
    refine Ev.bind (all_ev (q := cQ c) (n := c.mShards.length) (r := false) ?_ fun i hi v hv => ?_) ?_
    · refine Ev.from 1 fun k => ?_
      show F22_l1 c (k + 1) _ = _
      rw [F22_l1, ltI_nat, decide_eq_false (Nat.lt_irrefl _)]; rfl
    · refine Ev.succ (fun k => by rw [F22_l1]) ?_
      rw [ltI_nat, decide_eq_true hi, inR_mk hi, i64z (n := (i : Int) - 1) (by omega), i64z (n := (i : Int) + 1) (by omega), i0]
      simp only [Bool.or_true, cond_true]
      unfold cQ
      have hi' := h.each _ (rd_mem hi)
      refine Ev.bind (V21 _ hi') ?_
      cases hsr : shR (rd c.mShards (i : Int)) <;> simp only [Bool.not_true, Bool.not_false, Bool.true_and, Bool.false_and, Bool.true_or, Bool.false_or, cond_true, cond_false, Bool.and_true, Bool.and_false, Bool.or_true, Bool.or_false]
      · exact Ev.of fun _ => rfl
      · refine Ev.bind (V89 _ _ hi'.toSmS (shR_ix hsr)) ?_
        cases upR (rd c.mShards (i : Int)) c.mTop <;> simp only [Bool.not_true, Bool.not_false, Bool.true_and, Bool.false_and, Bool.true_or, Bool.false_or, cond_true, cond_false, Bool.and_true, Bool.and_false, Bool.or_true, Bool.or_false]
        · exact Ev.of fun _ => rfl
        · refine Ev.guard ?_ ?_
          · rw [Bool.or_eq_true, inR_iff, Bool.not_not, decide_eq_true_eq]
            by_cases h0 : i = 0
            · exact .inl h0
            · right; omega
          · cases decide (i = 0) <;> simp only [Bool.not_true, Bool.not_false, Bool.true_and, Bool.false_and, cond_true, cond_false, Bool.true_or, Bool.false_or, if_true]
            · have : leI (rd c.mShards (i : Int)).mID (rd c.mShards ((i : Int) - 1)).mID = !ltI (rd c.mShards ((i : Int) - 1)).mID (rd c.mShards (i : Int)).mID := by
                rw [Bool.eq_iff_iff, Bool.not_eq_true', ltI_false, leI_iff]
              rw [this]
              cases ltI (rd c.mShards ((i : Int) - 1)).mID (rd c.mShards (i : Int)).mID
              · exact Ev.of fun _ => rfl
              · exact hv
            · exact hv
    · cases allFrom (cQ c) c.mShards.length 0 <;> exact Ev.of fun _ => rfl
  generalize allFrom (cQ c) c.mShards.length 0 = z at loop ⊢
  generalize leI (c.mShards.length : Int) 8 = a; generalize stR c.mTop = b; generalize noB c.mDropped = d
  refine Ev.cond (fun hc => Ev.of fun _ => ?_) fun hc => Ev.congr' loop ?_
  · congr 1
    clear loop
    revert hc; revert a b d z; decide
  · clear loop
    revert hc; revert a b d z; decide

/-! ### What is found -/
def zSh : Shard := ⟨0, 0, (⟨(⟨#[]⟩ : ByteArray), (⟨#[]⟩ : ByteArray)⟩ : Span), 0, ([] : List Entry), (⟨0, 0, 0⟩ : Stamp), (⟨0, 0, 0⟩ : Stamp), ([] : List Done), 0, 0, 0, 0⟩
def getL : List Shard → Int → Shard
  | [], _ => zSh
  | s :: l, id => bif eqI s.mID id then s else getL l id
def getS (c : Cell) (id : Int) : Shard := getL c.mShards id
theorem V24 (c : Cell) (id : Int) (h : c.mShards.length ≤ 12) : Ev (fun k => F24 k c id) (getS c id) := by
  have : ∀ m i, i + m = c.mShards.length → Ev (fun k => (F24_l1 c id k (i : Int)).bind fun t => t.go fun _ => some zSh) (getL (c.mShards.drop i) id) := fun m => by
    induction m with
    | zero =>
      intro i hi
      refine Ev.from 1 fun k => ?_
      show Option.bind (F24_l1 c id (k + 1) _) _ = _
      rw [F24_l1, ltI_nat, decide_eq_false (by omega), List.drop_of_length_le (by omega)]; rfl
    | succ m ih =>
      intro i hi
      have hlt : i < c.mShards.length := by omega
      rw [List.drop_eq_getElem_cons hlt, getL]
      refine Ev.succ (g := fun k => (bif eqI (c.mShards[i]).mID id then some (LR.ret c.mShards[i]) else F24_l1 c id k ((i + 1 : Nat) : Int)).bind fun t => t.go fun _ => some zSh) (fun k => ?_) ?_
      · rw [F24_l1, ltI_nat, decide_eq_true hlt, inR_mk hlt, i64z (by omega), rd_nat _ _ hlt]; rfl
      · cases eqI (c.mShards[i]).mID id
        · exact ih (i + 1) (by omega)
        · exact Ev.of fun _ => rfl
  have := this c.mShards.length 0 (by omega)
  rw [List.drop_zero] at this
  exact this

theorem getL_none (id : Int) : ∀ l : List Shard, (∀ s ∈ l, s.mID ≠ id) → getL l id = zSh
  | [], _ => rfl
  | s :: l, h => by rw [getL, eqI_false.2 (h s (by simp))]; exact getL_none id l fun t ht => h t (by simp [ht])
theorem getL_at (id : Int) : ∀ (l : List Shard) (n : Nat) (hn : n < l.length), l[n].mID = id → (∀ i (hi : i < n), (l[i]'(by omega)).mID ≠ id) → getL l id = l[n]
  | s :: l, 0, hn, h, _ => by rw [getL, (eqI_iff.2 h : eqI s.mID id = true)]; rfl
  | s :: l, n + 1, hn, h, hh => by
    rw [getL, (eqI_false.2 (hh 0 (by omega)) : eqI s.mID id = false)]
    exact getL_at id l n (by simpa using hn) h fun i hi => hh (i + 1) (by omega)
/-- In a right cell the shards stand by their IDs. -/
theorem cR_ids {c : Cell} (h : cR c = true) : (∀ i, i < c.mShards.length → 1 ≤ (rd c.mShards (i : Int)).mID ∧ (rd c.mShards (i : Int)).mID ≤ 1099511627776) ∧ ∀ i j, i < j → j < c.mShards.length → (rd c.mShards (i : Int)).mID < (rd c.mShards (j : Int)).mID := by
  unfold cR at h
  rw [Bool.and_eq_true, allFrom_iff] at h
  have hq : ∀ i, i < c.mShards.length → cQ c i = true := fun i hi => h.2 i (by omega) (by omega)
  refine ⟨fun i hi => ?_, ?_⟩
  · have := hq i hi
    unfold cQ at this
    rw [Bool.and_eq_true, Bool.and_eq_true] at this
    exact shR_id this.1.1
  · intro i j hij
    induction j with
    | zero => omega
    | succ j ih =>
      intro hj
      have := hq (j + 1) hj
      unfold cQ at this
      rw [Bool.and_eq_true, decide_eq_false (by omega), Bool.false_or, ltI_iff, show ((j + 1 : Nat) : Int) - 1 = (j : Int) by omega] at this
      by_cases e : i = j
      · subst e; exact this.2
      · exact Int.lt_trans (ih (by omega) (by omega)) this.2
/-- Where a shard stands, or is to stand. -/
theorem V123 (c : Cell) (id : Int) (h : cR c = true) (hl : c.mShards.length ≤ 12) (h1 : 1 ≤ id) (h2 : id ≤ 1099511627776) : EvP (fun k => F123 k c id) (fun r => ∃ n : Nat, r.1 = (n : Int) ∧ n ≤ c.mShards.length ∧ (∀ i, i < n → (rd c.mShards (i : Int)).mID < id) ∧ (∀ i, n ≤ i → i < c.mShards.length → id ≤ (rd c.mShards (i : Int)).mID) ∧ r.2 = (decide (n < c.mShards.length) && eqI (rd c.mShards (n : Int)).mID id)) := by
  obtain ⟨g1, g2⟩ := cR_ids h
  have hw : ∀ i, i < c.mShards.length → IntKind.wrap .i64 ((rd c.mShards (i : Int)).mID - id) = (rd c.mShards (i : Int)).mID - id := fun i hi => i64z (by have := g1 i hi; omega)
  have hb := bin_ev (l := c.mShards) (f := F155_156_l1 c.mShards id) (p := fun k x => F156 k x id) (q := fun x => IntKind.wrap .i64 (x.mID - id)) (by omega) (fun _ _ _ => rfl) (fun x _ => Ev.of fun _ => rfl) (fun i j hij hj hh => by
    have hh : IntKind.wrap .i64 ((rd c.mShards (j : Int)).mID - id) < 0 := hh
    show IntKind.wrap .i64 ((rd c.mShards (i : Int)).mID - id) < 0
    rw [hw j hj] at hh
    rw [hw i (by omega)]
    have := g2 i j hij hj
    omega)
  refine EvP.bind (EvP.bind (hb.mono fun r hr => ?_))
  obtain ⟨n, rfl, hn, q1, q2⟩ := hr
  refine EvP.guard ?_ ?_
  · rw [Bool.or_eq_true, Bool.not_eq_true', ltI_false, inR_iff]; omega
  · rw [ltI_nat]
    have base : (∀ i, i < n → (rd c.mShards (i : Int)).mID < id) ∧ (∀ i, n ≤ i → i < c.mShards.length → id ≤ (rd c.mShards (i : Int)).mID) := ⟨fun i hi => by
        have := q1 i hi
        rw [hw i (by omega)] at this; omega, fun i hi hi2 => by
        have := q2 i hi hi2
        rw [hw i hi2] at this; omega⟩
    by_cases hlt : n < c.mShards.length
    · rw [decide_eq_true hlt]
      refine EvP.bind (EvP.some (EvP.some (EvP.some ⟨n, rfl, hn, base.1, base.2, ?_⟩)))
      rw [decide_eq_true hlt]
      simp only [Bool.true_and]
      rw [hw n hlt, Bool.eq_iff_iff, eqI_iff, eqI_iff]; omega
    · rw [decide_eq_false hlt]
      exact EvP.bind (EvP.some (EvP.some (EvP.some ⟨n, rfl, hn, base.1, base.2, by rw [decide_eq_false hlt]; rfl⟩)))
theorem V60 (c : Cell) (id : Int) (h : cR c = true) (hl : c.mShards.length ≤ 12) (h1 : 1 ≤ id) (h2 : id ≤ 1099511627776) : Ev (fun k => F60 k c id) (getS c id) := by
  refine EvP.ev (EvP.bind ((V123 c id h hl h1 h2).mono fun r hr => ?_))
  obtain ⟨r1, r2⟩ := r
  obtain ⟨n, e, hn, q1, q2, q3⟩ := hr
  simp only at e q3
  subst e
  have hrd : ∀ i (hi : i < c.mShards.length), rd c.mShards (i : Int) = c.mShards[i] := fun i hi => rd_nat _ _ hi
  show EvP (fun k => bif r2 then _ else _) _
  cases hb : r2 with
  | true =>
    rw [hb] at q3
    have q3 := q3.symm
    rw [Bool.and_eq_true, decide_eq_true_eq, eqI_iff] at q3
    refine EvP.guard (inR_mk q3.1) (EvP.some ?_)
    unfold getS
    rw [getL_at id c.mShards n q3.1 (by rw [← hrd n q3.1]; exact q3.2) fun i hi => by
      have := q1 i hi
      rw [hrd i (by omega)] at this
      omega]
    exact hrd n q3.1
  | false =>
    rw [hb] at q3
    refine EvP.some ?_
    unfold getS
    rw [getL_none id c.mShards fun s hs => ?_]
    · rfl
    obtain ⟨i, hi, rfl⟩ := List.mem_iff_getElem.1 hs
    rw [← hrd i hi]
    intro he
    have q3 := q3.symm
    rw [Bool.and_eq_false_iff, decide_eq_false_iff_not, eqI_false] at q3
    by_cases h3 : i < n
    · have := q1 i h3; omega
    · have h4 := q2 n (Nat.le_refl _) (by omega)
      by_cases h5 : i = n
      · subst h5
        rcases q3 with q3 | q3
        · exact q3 hi
        · exact q3 he
      · have := (cR_ids h).2 n i (by omega) hi
        omega
/-- Find. -/
theorem V23 (c : Cell) (id : Int) (h : SmC c) : Ev (fun k => F23 k c id) (bif cR c && oneB id then (getS c id, !eqI (getS c id).mID 0) else (zSh, false)) := by
  refine Ev.bind (V25 c h) ?_
  have h57 : Ev (fun k => F57 k 1 [id]) (oneB id) := by
    have := T57 1 [id] (by simp)
    simp only [List.any_cons, List.any_nil, oneB_eq, Bool.or_false, Bool.not_not] at this
    exact this
  refine Ev.bind (optv fun _ => h57) ?_
  cases hr : cR c with
  | false => exact Ev.of fun _ => rfl
  | true =>
    cases ho : oneB id with
    | false => exact Ev.of fun _ => rfl
    | true =>
      unfold oneB at ho
      rw [Bool.and_eq_true, leI_iff, leI_iff] at ho
      exact Ev.bind (V60 c id hr h.shards ho.1 ho.2) (Ev.of fun _ => rfl)
theorem zSh_sm : SmS zSh := ⟨by simp [zSh], fun e he => by simp [zSh] at he, by simp [zSh], fun e he => by simp [zSh] at he⟩
theorem getL_mem (id : Int) : ∀ l : List Shard, getL l id ∈ l ∨ getL l id = zSh
  | [] => .inr rfl
  | s :: l => by
    rw [getL]
    cases eqI s.mID id with
    | true => exact .inl (by simp)
    | false =>
      rcases getL_mem id l with h | h
      · exact .inl (by simp [h])
      · exact .inr h
theorem getS_sm {c : Cell} (h : SmC c) (id : Int) : SmS (getS c id) := by
  rcases getL_mem id c.mShards with h1 | h1
  · exact h.each _ h1
  · unfold getS; rw [h1]; exact zSh_sm

end Go.Proofs.Gd
