/- A shard is held for a snapshot, and freed, as the document says. No program in sight. -/
import Derived.Test.YthhpelmjnmlgjaaGreatDoorGdHold
import Derived.Test.YthhpelmjnmlgjaaGreatDoorGdSame
set_option linter.unusedVariables false
set_option linter.unusedSimpArgs false
namespace Go.Proofs.Gd
open Go Go.Awp

theorem putL_len (s : Shard) : ∀ l, (putL l s).length ≤ l.length + 1
  | [] => by simp [putL]
  | x :: l => by
    have := putL_len s l
    rw [putL]
    cases ltI x.mID s.mID <;> cases eqI x.mID s.mID <;> simp <;> omega
theorem putL_mem (s : Shard) : ∀ l, ∀ y ∈ putL l s, y = s ∨ y ∈ l
  | [], y, hy => by simp [putL] at hy; exact .inl hy
  | x :: l, y, hy => by
    rw [putL] at hy
    cases h1 : ltI x.mID s.mID with
    | true =>
      rw [h1, cond_true, List.mem_cons] at hy
      rcases hy with rfl | hy
      · exact .inr (by simp)
      · rcases putL_mem s l y hy with h | h
        · exact .inl h
        · exact .inr (by simp [h])
    | false =>
      rw [h1, cond_false] at hy
      cases h2 : eqI x.mID s.mID with
      | true =>
        rw [h2, cond_true, List.mem_cons] at hy
        rcases hy with rfl | hy
        · exact .inl rfl
        · exact .inr (by simp [hy])
      | false =>
        rw [h2, cond_false, List.mem_cons] at hy
        rcases hy with rfl | hy
        · exact .inl rfl
        · exact .inr hy
theorem cR_len {c : Cell} (h : cR c = true) : c.mShards.length ≤ 8 := by
  unfold cR at h
  simp only [Bool.and_eq_true, leI_iff] at h
  omega
theorem putC_sm {c : Cell} (h : SmC c) (hc : cR c = true) {s : Shard} (hs : SmS s) : SmC (putC c s) := by
  have := cR_len hc
  have h2 := putL_len s c.mShards
  refine ⟨?_, fun y hy => ?_⟩
  · show (putL c.mShards s).length ≤ 12
    omega
  · rcases putL_mem s c.mShards y hy with rfl | h3
    · exact hs
    · exact h.each y h3
theorem holdP_sm {c : Cell} (h : SmC c) (id ep l : Int) : SmC (holdP c id ep l).1 := by
  unfold holdP
  cases hb : holdB c (getS c id) id ep l with
  | false => exact h
  | true =>
    have hc : cR c = true := by unfold holdB at hb; simp only [Bool.and_eq_true] at hb; exact hb.1.1.1.1.1.1.1.1
    have hs := getS_sm h id
    exact putC_sm h hc ⟨hs.entries, hs.chains, hs.done, hs.items⟩
theorem freeP_sm {c : Cell} (h : SmC c) (id l : Int) (t : Stamp) : SmC (freeP c id l t).1 := by
  unfold freeP
  cases hb : cR c && oneB id && oneB l && stR t && !eqI (getS c id).mID 0 with
  | false => exact h
  | true =>
    have hc : cR c = true := by simp only [Bool.and_eq_true] at hb; exact hb.1.1.1.1
    have hs := getS_sm h id
    rw [cond_true]
    cases leI l (getS c id).mSeen with
    | true => exact h
    | false =>
      have := putC_sm h hc (s := freeS (getS c id) l) ⟨hs.entries, hs.chains, hs.done, hs.items⟩
      exact ⟨this.shards, this.each⟩

theorem holds (c : Cell) (id ep l : Int) (t : Stamp) : EvP (fun k => F6 k c id ep l t) (· = true) := by
  have aw : Ev (fun k => F15 k) true := Ev.from 40 awake
  refine EvP.bind ((V14 c).mono fun b hb => EvP.cond (fun _ => EvP.bind (aw.evP.mono fun x hx => EvP.some hx)) fun hc => ?_)
  have h2 := hb (by simpa using hc)
  have h := h2.sm
  refine EvP.of (r := true) (Ev.bind (V30 c id ep l h) (Ev.bind (V31 c id ep l h2) (Ev.bind (V32 c id l t h) (Ev.bind (V33 c id l t h2) ?_)))) rfl
  refine Ev.bind (E18 _ (holdP_sm h id ep l)) ?_
  simp only [beq_self_eq_true, Bool.true_and, cond_true]
  refine Ev.bind (E18 _ (freeP_sm h id l t)) ?_
  simp only [Bool.true_and, cond_true]
  exact Ev.bind aw (Ev.of fun _ => rfl)
end Go.Proofs.Gd
