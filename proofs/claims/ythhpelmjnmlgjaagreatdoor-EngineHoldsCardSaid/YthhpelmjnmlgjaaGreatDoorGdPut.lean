/- A shard put into a cell, or taken out, on both sides. No program in sight. -/
import Derived.Test.YthhpelmjnmlgjaaGreatDoorGdCell
set_option linter.unusedVariables false
set_option linter.unusedSimpArgs false
namespace Go.Proofs.Gd
open Go Go.Awp

def putL : List Shard → Shard → List Shard
  | [], s => [s]
  | x :: l, s => bif ltI x.mID s.mID then x :: putL l s else bif eqI x.mID s.mID then s :: l else s :: x :: l
def dropL (l : List Shard) (id : Int) : List Shard := l.filter fun x => !eqI x.mID id
def putC (c : Cell) (s : Shard) : Cell := { c with mShards := putL c.mShards s }
def dropC (c : Cell) (id : Int) : Cell := { c with mShards := dropL c.mShards id }

theorem putL_set (s : Shard) : ∀ (l : List Shard) (n : Nat) (hn : n < l.length), (∀ i (hi : i < n), (l[i]'(by omega)).mID < s.mID) → l[n].mID = s.mID → putL l s = l.set n s
  | x :: l, 0, _, _, h => by
    have h : x.mID = s.mID := h
    rw [putL, ltI_false.2 (by omega), eqI_iff.2 h]; rfl
  | x :: l, n + 1, hn, hh, h => by
    have h0 : x.mID < s.mID := hh 0 (by omega)
    rw [putL, ltI_iff.2 h0, putL_set s l n (by simpa using hn) (fun i hi => hh (i + 1) (by omega)) h]; rfl
theorem putL_ins (s : Shard) : ∀ (l : List Shard) (n : Nat) (hn : n ≤ l.length), (∀ i (hi : i < n), (l[i]'(by omega)).mID < s.mID) → (∀ h : n < l.length, s.mID < l[n].mID) → putL l s = l.take n ++ [s] ++ l.drop n
  | [], 0, _, _, _ => rfl
  | [], n + 1, hn, _, _ => by simp at hn
  | x :: l, 0, _, _, h => by
    have h : s.mID < x.mID := h (by simp)
    rw [putL, ltI_false.2 (by omega), eqI_false.2 (by omega)]; rfl
  | x :: l, n + 1, hn, hh, h => by
    have h0 : x.mID < s.mID := hh 0 (by omega)
    rw [putL, ltI_iff.2 h0, putL_ins s l n (by simpa using hn) (fun i hi => hh (i + 1) (by omega)) fun h2 => h (by simpa using h2)]; rfl

/-- engine.with. -/
theorem V95 (c : Cell) (s : Shard) (h : cR c = true) (hl : c.mShards.length ≤ 12) (h1 : 1 ≤ s.mID) (h2 : s.mID ≤ 1099511627776) : Ev (fun k => F95 k c s) (putC c s) := by
  refine EvP.ev (EvP.bind ((V123 c s.mID h hl h1 h2).mono fun r hr => ?_))
  obtain ⟨r1, r2⟩ := r
  obtain ⟨n, e, hn, q1, q2, q3⟩ := hr
  simp only at e q3
  subst e
  have hrd : ∀ i (hi : i < c.mShards.length), rd c.mShards (i : Int) = c.mShards[i] := fun i hi => rd_nat _ _ hi
  have hcl : Ev (fun k => F98o k c.mShards) c.mShards := Ev.of fun k => by
    unfold F98o
    rw [appOK_mk (by simp; omega) (by simp; omega)]; rfl
  refine EvP.bind (hcl.evP.mono fun t ht => ?_)
  subst ht
  show EvP (fun k => bif r2 then _ else _) _
  cases hb : r2 with
  | true =>
    rw [hb] at q3
    have q3 := q3.symm
    rw [Bool.and_eq_true, decide_eq_true_eq, eqI_iff] at q3
    refine EvP.guard (inR_mk q3.1) (EvP.some ?_)
    unfold putC
    rw [putL_set s c.mShards n q3.1 (fun i hi => by rw [← hrd i (by omega)]; exact q1 i hi) (by rw [← hrd n q3.1]; exact q3.2), Int.toNat_natCast]
  | false =>
    rw [hb] at q3
    have q3 := q3.symm
    rw [Bool.and_eq_false_iff, decide_eq_false_iff_not, eqI_false] at q3
    refine EvP.guard ?_ (EvP.some ?_)
    · exact decide_eq_true ⟨by omega, by omega, by omega, by omega⟩
    · unfold putC
      rw [putL_ins s c.mShards n hn (fun i hi => by rw [← hrd i (by omega)]; exact q1 i hi) (fun h3 => by
        have := q2 n (Nat.le_refl _) h3
        rw [hrd n h3] at this q3
        rcases q3 with q3 | q3
        · exact absurd h3 q3
        · omega), Int.toNat_natCast]

/-- What the document's Put makes of what is left. -/
def restP (s : Shard) : Bool → List Shard → List Shard
  | _, [] => []
  | true, x :: l => (bif !eqI x.mID s.mID then [x] else []) ++ restP s true l
  | false, x :: l => bif leI s.mID x.mID then s :: ((bif !eqI x.mID s.mID then [x] else []) ++ restP s true l) else x :: restP s false l
def didP (s : Shard) : Bool → List Shard → Bool
  | b, [] => b
  | b, x :: l => didP s (b || leI s.mID x.mID) l
theorem V79_l1 (c : Cell) (s : Shard) (hl : c.mShards.length ≤ 12) : ∀ (m i : Nat) (t : List Shard) (b : Bool), i + m = c.mShards.length → t.length ≤ 2 * i → Ev (fun k => F79_l1 c s k (t, b, (i : Int))) (t ++ restP s b (c.mShards.drop i), didP s b (c.mShards.drop i))
  | 0, i, t, b, hi, _ => by
    refine Ev.from 1 fun k => ?_
    show F79_l1 c s (k + 1) _ = _
    rw [F79_l1, ltI_nat, decide_eq_false (by omega), List.drop_of_length_le (by omega)]
    cases b <;> simp [restP, didP]
  | m + 1, i, t, b, hi, ht => by
    have hlt : i < c.mShards.length := by omega
    have ap : ∀ (l : List Shard) (x : Shard), l.length ≤ 100 → appOK 184 l.length [x].length = true := fun l x h => appOK_mk (by rw [List.length_singleton]; omega) (by rw [List.length_singleton]; omega)
    refine Ev.succ (fun k => by rw [F79_l1]) ?_
    rw [ltI_nat, decide_eq_true hlt, inR_mk hlt, i64z (by omega), rd_nat _ _ hlt, List.drop_eq_getElem_cons hlt]
    simp only [Bool.or_true, cond_true]
    generalize hx : c.mShards[i] = x
    cases b with
    | true =>
      simp only [Bool.not_true, Bool.false_and, cond_false]
      refine Ev.bind (Ev.of fun _ => rfl) ?_
      show Ev (fun k => bif !eqI x.mID s.mID then (bif appOK 184 t.length [x].length then F79_l1 c s k (t ++ [x], true, ((i : Int) + 1)) else none) else F79_l1 c s k (t, true, ((i : Int) + 1))) _
      rw [ap t x (by omega), restP, didP, Bool.true_or]
      cases eqI x.mID s.mID with
      | true => exact V79_l1 c s hl m (i + 1) t true (by omega) (by omega)
      | false =>
        have := V79_l1 c s hl m (i + 1) (t ++ [x]) true (by omega) (by rw [List.length_append, List.length_singleton]; omega)
        rw [List.append_assoc] at this
        exact this
    | false =>
      simp only [Bool.not_false, Bool.true_and]
      rw [restP, didP, Bool.false_or]
      cases hle : leI s.mID x.mID with
      | true =>
        simp only [cond_true]
        rw [ap t s (by omega)]
        refine Ev.bind (Ev.of fun _ => rfl) ?_
        show Ev (fun k => bif !eqI x.mID s.mID then (bif appOK 184 (t ++ [s]).length [x].length then F79_l1 c s k ((t ++ [s]) ++ [x], true, ((i : Int) + 1)) else none) else F79_l1 c s k (t ++ [s], true, ((i : Int) + 1))) _
        rw [ap (t ++ [s]) x (by rw [List.length_append, List.length_singleton]; omega)]
        cases eqI x.mID s.mID with
        | true =>
          have := V79_l1 c s hl m (i + 1) (t ++ [s]) true (by omega) (by rw [List.length_append, List.length_singleton]; omega)
          rw [List.append_assoc] at this
          exact this
        | false =>
          have := V79_l1 c s hl m (i + 1) ((t ++ [s]) ++ [x]) true (by omega) (by rw [List.length_append, List.length_append, List.length_singleton, List.length_singleton]; omega)
          have e : ((t ++ [s]) ++ [x]) ++ restP s true (List.drop (i + 1) c.mShards) = t ++ s :: ([x] ++ restP s true (List.drop (i + 1) c.mShards)) := by simp
          rw [e] at this
          exact this
      | false =>
        simp only [cond_false]
        refine Ev.bind (Ev.of fun _ => rfl) ?_
        show Ev (fun k => bif !eqI x.mID s.mID then (bif appOK 184 t.length [x].length then F79_l1 c s k (t ++ [x], false, ((i : Int) + 1)) else none) else F79_l1 c s k (t, false, ((i : Int) + 1))) _
        have hne : eqI x.mID s.mID = false := by rw [leI_false] at hle; rw [eqI_false]; omega
        rw [ap t x (by omega), hne]
        have := V79_l1 c s hl m (i + 1) (t ++ [x]) false (by omega) (by rw [List.length_append, List.length_singleton]; omega)
        rw [List.append_assoc] at this
        exact this
theorem restP_true (s : Shard) : ∀ l, restP s true l = dropL l s.mID
  | [] => rfl
  | x :: l => by
    rw [restP, restP_true s l]
    show _ ++ List.filter (fun x => !eqI x.mID s.mID) l = List.filter (fun x => !eqI x.mID s.mID) (x :: l)
    rw [List.filter_cons]
    cases eqI x.mID s.mID <;> rfl
theorem didP_true (s : Shard) : ∀ l, didP s true l = true
  | [] => rfl
  | x :: l => by rw [didP, Bool.true_or]; exact didP_true s l
def SortedL (l : List Shard) : Prop := ∀ i j (hj : j < l.length) (hi : i < j), (l[i]'(by omega)).mID < l[j].mID
theorem SortedL.tail {x : Shard} {l : List Shard} (h : SortedL (x :: l)) : SortedL l := fun i j hj hi => h (i + 1) (j + 1) (by simpa using hj) (by omega)
theorem SortedL.head {x : Shard} {l : List Shard} (h : SortedL (x :: l)) : ∀ y ∈ l, x.mID < y.mID := fun y hy => by
  obtain ⟨j, hj, rfl⟩ := List.mem_iff_getElem.1 hy
  exact h 0 (j + 1) (by simpa using hj) (by omega)
theorem dropL_id (id : Int) : ∀ l : List Shard, (∀ y ∈ l, id < y.mID) → dropL l id = l := fun l h => by
  unfold dropL
  rw [List.filter_eq_self]
  intro y hy
  rw [Bool.not_eq_true', eqI_false]
  have := h y hy; omega
theorem put_rest (s : Shard) : ∀ l, SortedL l → (bif didP s false l then restP s false l else restP s false l ++ [s]) = putL l s
  | [], _ => rfl
  | x :: l, h => by
    rw [didP, restP, putL, Bool.false_or]
    cases hle : leI s.mID x.mID with
    | true =>
      rw [leI_iff] at hle
      rw [didP_true, restP_true, dropL_id s.mID l fun y hy => by have := h.head y hy; omega, ltI_false.2 hle]
      cases eqI x.mID s.mID <;> rfl
    | false =>
      rw [leI_false] at hle
      rw [ltI_iff.2 hle, ← put_rest s l h.tail]
      cases didP s false l <;> rfl
theorem cR_sorted {c : Cell} (h : cR c = true) : SortedL c.mShards := fun i j hj hi => by
  have := (cR_ids h).2 i j hi hj
  rwa [rd_nat _ _ hj, rd_nat _ _ (by omega : i < c.mShards.length)] at this
/-- The document's Put. -/
theorem V79 (c : Cell) (s : Shard) (h : cR c = true) (hl : c.mShards.length ≤ 12) : Ev (fun k => F79 k c s false) (putC c s) := by
  have h1 := V79_l1 c s hl c.mShards.length 0 [] false (by omega) (by simp)
  rw [List.drop_zero, List.nil_append] at h1
  refine Ev.bind h1 ?_
  have h2 := put_rest s c.mShards (cR_sorted h)
  unfold putC
  rw [← h2]
  have hlen : (restP s false c.mShards).length ≤ 30 := by
    have : ∀ (b : Bool) (l : List Shard), (restP s b l).length ≤ l.length + 1 + (bif b then 0 else 1) := fun b l => by
      induction l generalizing b with
      | nil => cases b <;> simp [restP]
      | cons x l ih =>
        have i1 := ih true
        have i2 := ih false
        simp only [cond_true, cond_false] at i1 i2
        cases b
        · rw [restP]
          cases leI s.mID x.mID
          · simp only [cond_false, List.length_cons]; omega
          · cases eqI x.mID s.mID <;> simp <;> omega
        · rw [restP]
          cases eqI x.mID s.mID <;> simp <;> omega
    have := this false c.mShards
    simp only [cond_false] at this
    omega
  show Ev (fun k => bif !didP s false c.mShards then (bif appOK 184 (restP s false c.mShards).length [s].length then some { c with mShards := restP s false c.mShards ++ [s] } else none) else some { c with mShards := restP s false c.mShards }) _
  rw [appOK_mk (by rw [List.length_singleton]; omega) (by rw [List.length_singleton]; omega)]
  cases didP s false c.mShards <;> exact Ev.of fun _ => rfl
theorem V79g (c : Cell) (s : Shard) (hl : c.mShards.length ≤ 12) : Ev (fun k => F79 k c s true) (dropC c s.mID) := by
  have h1 := V79_l1 c s hl c.mShards.length 0 [] true (by omega) (by simp)
  rw [List.drop_zero, List.nil_append, didP_true, restP_true] at h1
  exact Ev.bind h1 (Ev.of fun _ => rfl)
end Go.Proofs.Gd
