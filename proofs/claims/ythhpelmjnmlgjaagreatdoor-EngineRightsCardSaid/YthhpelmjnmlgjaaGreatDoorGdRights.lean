/- Whether any cell is right, and each of its shards, and what is found, is told alike. No program in sight. -/
import Derived.Test.YthhpelmjnmlgjaaGreatDoorGdCell
set_option linter.unusedVariables false
set_option linter.unusedSimpArgs false
namespace Go.Proofs.Gd
open Go Go.Awp

theorem zSh_sm : SmS zSh := ⟨by simp [zSh], fun e he => by simp [zSh] at he, by simp [zSh], fun e he => by simp [zSh] at he⟩
theorem getL_mem (id : Int) : ∀ l : List Shard, getL l id ∈ l ∨ getL l id = zSh
  | [] => .inr rfl
  | s :: l => by
    rw [getL]
    cases eqI s.mID id with
    | true => exact .inl (by simp)
    | false =>
      rcases getL_mem id l with h | h
      · exact .inl (by simp [h])
      · exact .inr h
theorem getS_sm {c : Cell} (h : SmC c) (id : Int) : SmS (getS c id) := by
  rcases getL_mem id c.mShards with h1 | h1
  · exact h.each _ h1
  · unfold getS; rw [h1]; exact zSh_sm

theorem rights (c : Cell) (id : Int) : EvP (fun k => F4 k c id) (· = true) := by
  have aw : Ev (fun k => F15 k) true := Ev.from 40 awake
  refine EvP.bind ((V14 c).mono fun b hb => EvP.cond (fun _ => EvP.bind (aw.evP.mono fun x hx => EvP.some hx)) fun hc => ?_)
  have h2 := hb (by simpa using hc)
  have h := h2.sm
  have hs := h.shards
  have loop : Ev (fun k => F4_l1 c k 0) (.out ()) := by
    refine downTo (M := fun i => Ev (fun k => F4_l1 c k (i : Int)) (.out ())) c.mShards.length ?_ fun i hi ih => ?_
    · refine Ev.from 1 fun k => ?_
      show F4_l1 c (k + 1) _ = _
      rw [F4_l1, ltI_nat, decide_eq_false (Nat.lt_irrefl _)]; rfl
    · refine Ev.succ (fun k => by rw [F4_l1]) ?_
      rw [ltI_nat, decide_eq_true hi, inR_mk hi, i64z (by omega)]
      refine Ev.bind (V20 _ (h.each _ (rd_mem hi))) (Ev.bind (V21 _ (h2.each _ (rd_mem hi))) ?_)
      cases shR (rd c.mShards (i : Int)) <;> exact ih
  refine EvP.of (r := true) (Ev.bind loop ?_) rfl
  show Ev (fun k => (F22 k c).bind _) _
  refine Ev.bind (V22 c h2) (Ev.bind (V23 c id h) ?_)
  cases hg : cR c && oneB id with
  | true =>
    rw [Bool.and_eq_true] at hg
    obtain ⟨hg, ho⟩ := hg
    rw [hg]
    have ho' := ho
    unfold oneB at ho'
    rw [Bool.and_eq_true, leI_iff, leI_iff] at ho'
    refine Ev.bind (V24 c id hs) ?_
    rw [ltI_false.2 ho'.1, ltI_false.2 ho'.2]
    have hid : ltI 0 (getS c id).mID = !eqI (getS c id).mID 0 := by
      rcases getL_mem id c.mShards with h1 | h1
      · obtain ⟨i, hi, hx⟩ := List.mem_iff_getElem.1 h1
        have := (cR_ids hg).1 i hi
        rw [rd_nat _ _ hi, hx] at this
        have e : getS c id = getL c.mShards id := rfl
        rw [e, Bool.eq_iff_iff, ltI_iff, Bool.not_eq_true', eqI_false]; omega
      · unfold getS; rw [h1]; rfl
    refine Ev.bind (Ev.of fun _ => rfl) ?_
    refine Ev.bind (V25 c h) ?_
    rw [hg]
    show Ev (fun k => (bif ((true == true) && ((!eqI (getS c id).mID 0) == (ltI 0 (getS c id).mID))) then F26 k (getS c id) (getS c id) else some default).bind fun t64 => (bif (((true == true) && ((!eqI (getS c id).mID 0) == (ltI 0 (getS c id).mID))) && t64) then F15 k else some default).bind fun t67 => some ((((true == true) && ((!eqI (getS c id).mID 0) == (ltI 0 (getS c id).mID))) && t64) && t67)) true
    rw [hid]
    simp only [beq_self_eq_true, Bool.true_and, cond_true]
    exact Ev.bind (E26 _ (getS_sm h id)) (Ev.bind aw (Ev.of fun _ => rfl))
  | false =>
    refine Ev.bind (V24 c id hs) ?_
    have hw : ((!cR c || ltI id 1) || ltI 1099511627776 id) = true := by
      rw [Bool.or_assoc, oneB_eq]
      revert hg; generalize cR c = a; generalize oneB id = b; revert a b; decide
    rw [hw]
    refine Ev.bind (Ev.of fun _ => rfl) ?_
    refine Ev.bind (V25 c h) ?_
    show Ev (fun k => (bif ((cR c == cR c) && (false == false)) then F26 k zSh zSh else some default).bind fun t64 => (bif (((cR c == cR c) && (false == false)) && t64) then F15 k else some default).bind fun t67 => some ((((cR c == cR c) && (false == false)) && t64) && t67)) true
    simp only [beq_self_eq_true, Bool.true_and, cond_true]
    exact Ev.bind (E26 _ zSh_sm) (Ev.bind aw (Ev.of fun _ => rfl))
end Go.Proofs.Gd
