/- Lemmas behind GdMkP, part 6: they hold as they stand, without a condition beyond their own. -/
import Derived.Test.YthhpelmjnmlgjaaGreatDoorMk5
set_option linter.unusedVariables false
set_option linter.unusedSimpArgs false
namespace Go.Proofs.Gd
open Go Go.Awp
theorem upR_iff (s : Shard) (t : Stamp) : upR s t = true ↔ ∀ e ∈ s.mEntries, ¬ befS t (lastV e.mChain).mAt := by
  unfold upR
  rw [List.all_eq_true]
  simp only [leB]
theorem stR_later {s t : Stamp} (h : stR s = true) (h' : stR t = true) : stR (laterS s t) = true := by
  rcases laterS_or s t with e | e <;> rw [e] <;> assumption
theorem chR_sub {l m : List Version} (h : chR l = true) (hs : m.Sublist l) : chR m = true := by
  rw [chR_iff] at *
  exact ⟨Nat.le_trans hs.length_le h.1, fun v hv => h.2.1 v (hs.subset hv), h.2.2.sublist hs⟩
theorem prV_sub (l : List Version) (t : Stamp) : (prV l t).Sublist l := by
  unfold prV
  split <;> exact List.drop_sublist _ _
theorem prE_mem {l : List Entry} {t : Stamp} {e : Entry} : e ∈ prE l t ↔ ∃ d ∈ l, 0 < (prV d.mChain t).length ∧ e = { d with mChain := prV d.mChain t } := by
  unfold prE
  rw [List.mem_filterMap]
  constructor
  · rintro ⟨d, h1, h2⟩
    by_cases hc : 0 < (prV d.mChain t).length
    · rw [if_pos hc] at h2; exact ⟨d, h1, hc, (Option.some.inj h2).symm⟩
    · rw [if_neg hc] at h2; cases h2
  · rintro ⟨d, h1, h2, rfl⟩
    exact ⟨d, h1, by rw [if_pos h2]⟩
theorem prE_right {l : List Entry} (h : ixR l = true) (t : Stamp) : ixR (prE l t) = true := by
  rw [ixR_iff] at *
  refine ⟨Nat.le_trans (List.length_filterMap_le _ _) h.1, fun e he => ?_, ?_⟩
  · obtain ⟨d, h1, h2, rfl⟩ := prE_mem.1 he
    obtain ⟨g1, g2, g3⟩ := h.2.1 d h1
    exact ⟨g1, chR_sub g2 (prV_sub _ _), List.length_pos_iff.1 h2⟩
  · unfold prE
    rw [List.pairwise_filterMap]
    refine h.2.2.imp fun {a b} hab x hx y hy => ?_
    split at hx <;> split at hy <;> simp_all
    rw [← hx, ← hy]; exact hab
def prS (t : Stamp) (s : Shard) : Shard := { s with mEntries := prE s.mEntries t, mMark := laterS s.mMark t }
theorem prV_last {l : List Version} {t : Stamp} (h : 0 < (prV l t).length) : lastV (prV l t) = lastV l := by
  unfold prV at *
  have key : ∀ n, n < l.length → lastV (l.drop n) = lastV l := fun n hn => by
    unfold lastV
    rw [List.length_drop, show ((l.length - n : Nat) : Int) - 1 = ((l.length - n - 1 : Nat) : Int) by omega, rd_nat _ _ (by simp; omega), show (l.length : Int) - 1 = ((l.length - 1 : Nat) : Int) by omega, rd_nat _ _ (by omega), List.getElem_drop]
    congr 1; omega
  split at h
  · rw [List.length_drop] at h; rw [if_pos (by assumption)]; exact key _ (by omega)
  · rw [List.length_drop] at h; rw [if_neg (by assumption)]; exact key _ (by omega)
theorem prS_right {s : Shard} (h : shR s = true) {t : Stamp} (ht : stR t = true) : shR (prS t s) = true := by
  rw [shR_iff] at *
  obtain ⟨h1, h2, h3, h4, h5, h6, h7⟩ := h
  refine ⟨h1, h2, prE_right h3 t, stR_later h4 ht, h5, h6, fun e he => ?_⟩
  obtain ⟨d, g1, _, rfl⟩ := prE_mem.1 he
  exact h7 d g1
theorem prE_up {l : List Entry} {t u : Stamp} (h : ∀ e ∈ l, ¬ befS u (lastV e.mChain).mAt) : ∀ e ∈ prE l t, ¬ befS u (lastV e.mChain).mAt := fun e he => by
  obtain ⟨d, g1, g2, rfl⟩ := prE_mem.1 he
  show ¬ befS u (lastV (prV d.mChain t)).mAt
  rw [prV_last g2]; exact h d g1
theorem prS_up {s : Shard} {t u : Stamp} (h : upR s u = true) : upR (prS t s) u = true := by
  rw [upR_iff] at *
  exact prE_up h
def pruneC (c : Cell) (t : Stamp) : Cell := { c with mShards := c.mShards.map (prS t) }
theorem pruneC_right {c : Cell} (h : cR c = true) {t : Stamp} (ht : stR t = true) : cR (pruneC c t) = true := by
  rw [cR_iff] at *
  refine ⟨?_, h.2.1, h.2.2.1, fun s hs => ?_, ?_⟩
  · show (c.mShards.map (prS t)).length ≤ 8
    rw [List.length_map]; exact h.1
  · obtain ⟨d, h1, rfl⟩ := List.mem_map.1 hs
    exact ⟨prS_right (h.2.2.2.1 d h1).1 ht, prS_up (h.2.2.2.1 d h1).2⟩
  · show (c.mShards.map (prS t)).Pairwise _
    rw [List.pairwise_map]; exact h.2.2.2.2
end Go.Proofs.Gd
set_option linter.unusedVariables false
set_option linter.unusedSimpArgs false
namespace Go.Proofs.Gd
open Go Go.Awp
def raiseP (c : Cell) (t : Stamp) : Cell := bif cR c && stR t then { c with mTop := laterS c.mTop t } else c
theorem V34 (c : Cell) (t : Stamp) (h : SmC c) : Ev (fun k => F34 k c t) (raiseP c t) := by
  refine Ev.bind (V25 c h) (Ev.bind (optv fun _ => T36 _) ?_)
  unfold raiseP
  cases cR c <;> cases stR t <;> first | exact Ev.of fun _ => rfl | exact Ev.bind (T37 _ _) (Ev.of fun _ => rfl)
def pruneP (c : Cell) (t : Stamp) : Cell := bif cR c && stR t then pruneC c t else c
theorem rd_mid {α : Type} [Inhabited α] (A B : List α) (x : α) : rd (A ++ x :: B) (A.length : Int) = x := by
  rw [rd_nat _ _ (by simp)]; simp
theorem set_mid {α : Type} (A B : List α) (x y : α) : (A ++ x :: B).set A.length y = A ++ y :: B := by
  rw [List.set_append_right _ _ (Nat.le_refl _)]; simp
theorem V35_l1 (l : List Shard) (t : Stamp) (hl : l.length ≤ 1000) (hx : ∀ s ∈ l, ixR s.mEntries = true) : ∀ m i, i + m = l.length → Ev (fun k => F35_l1 t l k ((l.take i).map (prS t) ++ l.drop i, (i : Int))) (l.map (prS t)) := by
  intro m
  induction m with
  | zero =>
    intro i hi
    refine Ev.from 1 fun k => ?_
    show F35_l1 t l (k + 1) (_, _) = _
    rw [F35_l1, ltI_nat, decide_eq_false (by omega), List.drop_of_length_le (by omega), List.take_of_length_le (by omega)]
    simp
  | succ m ih =>
    intro i hi
    have hlt : i < l.length := by omega
    have ih := ih (i + 1) (by omega)
    refine Ev.succ (fun k => by rw [F35_l1]) ?_
    rw [ltI_nat, decide_eq_true hlt, i64z (by omega), List.drop_eq_getElem_cons hlt, Int.toNat_natCast]
    have hA : ((l.take i).map (prS t)).length = i := by simp; omega
    have e1 : (List.take (i + 1) l).map (prS t) ++ List.drop (i + 1) l = (l.take i).map (prS t) ++ prS t l[i] :: List.drop (i + 1) l := by
      rw [List.take_succ_eq_append_getElem hlt, List.map_append, List.append_assoc]; rfl
    rw [e1] at ih
    generalize (l.take i).map (prS t) = A at *
    generalize List.drop (i + 1) l = B at *
    have hr : ∀ y, rd (A ++ y :: B) (i : Int) = y := fun y => by rw [← hA]; exact rd_mid A B y
    have hs : ∀ x y, (A ++ x :: B).set i y = A ++ y :: B := fun x y => by rw [← hA]; exact set_mid A B x y
    have hi : ∀ y, inR (i : Int) (A ++ y :: B).length = true := fun y => inR_mk (by simp; omega)
    rw [hi, hr]
    refine Ev.bind (V99 _ t (hx _ (List.getElem_mem hlt))) (Ev.bind (T37 _ _) ?_)
    rw [hs, hi, hr, hs]
    exact ih
theorem V98o (l : List Shard) (h : l.length ≤ 1000) : Ev (fun k => F98o k l) l := Ev.of fun k => by
  unfold F98o
  rw [appOK_mk (by simp; omega) (by simp; omega)]; rfl
theorem cR_ix {c : Cell} (h : cR c = true) : ∀ s ∈ c.mShards, ixR s.mEntries = true := fun s hs => shR_ix (((cR_iff c).1 h).2.2.2.1 s hs).1
theorem V35 (c : Cell) (t : Stamp) (h : SmC c) : Ev (fun k => F35 k c t) (pruneP c t) := by
  have hs := h.shards
  refine Ev.bind (V25 c h) (Ev.bind (optv fun _ => T36 _) ?_)
  unfold pruneP
  cases hc : cR c with
  | false => exact Ev.of fun _ => rfl
  | true =>
    cases stR t with
    | false => exact Ev.of fun _ => rfl
    | true =>
      refine Ev.bind (V98o _ (by omega)) (Ev.bind ?_ (Ev.of fun _ => rfl))
      have := V35_l1 c.mShards t (by omega) (cR_ix hc) c.mShards.length 0 (by omega)
      simpa using this
theorem V38 (c : Cell) (t : Stamp) (hc : cR c = true) : Ev (fun k => F38 k c t) (pruneC c t) := by
  have hl := ((cR_iff c).1 hc).1
  have hx := cR_ix hc
  refine Ev.bind (x := c.mShards.filterMap fun s => some (prS t s)) (fm_ev _ (fun acc => ?_) (fun i hi acc r ha hr => ?_)) (Ev.of fun _ => ?_)
  · refine Ev.from 1 fun k => ?_
    show F38_l1 c t (k + 1) (acc, _) = _
    rw [F38_l1, ltI_nat, decide_eq_false (Nat.lt_irrefl _)]; rfl
  · refine Ev.succ (fun k => by rw [F38_l1]) ?_
    rw [ltI_nat, decide_eq_true hi, inR_mk hi, i64z (by omega), rd_nat _ _ hi]
    refine Ev.bind (V101 _ t (hx _ (List.getElem_mem hi))) (Ev.bind (V97 _ _) ?_)
    exact Ev.guard (appOK_mk (by simp; omega) (by simp; omega)) hr
  · unfold pruneC
    simp
theorem marks (c : Cell) (t : Stamp) : EvP (fun k => F7 k c t) (· = true) := by
  have aw : Ev (fun k => F15 k) true := Ev.from 40 awake
  refine EvP.bind ((V14 c).mono fun b hb => EvP.cond (fun _ => EvP.bind (aw.evP.mono fun x hx => EvP.some hx)) fun hc => ?_)
  have h2 := hb (by simpa using hc)
  have h := h2.sm
  refine EvP.of (r := true) (Ev.bind (V34 c t h) (Ev.bind (V35 c t h) (Ev.bind (V22 c h2) (Ev.bind (optv fun _ => T36 _) ?_)))) rfl
  unfold raiseP pruneP
  cases hr : cR c with
  | false => exact Ev.bind (E18 c h) (Ev.bind (E18 c h) (Ev.bind aw (Ev.of fun _ => rfl)))
  | true =>
    cases ht : stR t with
    | false => exact Ev.bind (E18 c h) (Ev.bind (E18 c h) (Ev.bind aw (Ev.of fun _ => rfl)))
    | true =>
      refine Ev.bind (T37 _ _) (Ev.bind (E18 _ ⟨h.shards, h.each⟩) (Ev.bind (V38 c t hr) (Ev.bind (E18 _ (cR_sm (pruneC_right hr ht)).sm) (Ev.bind aw (Ev.of fun _ => rfl)))))
end Go.Proofs.Gd
