/- Loops over lists: that they end, and where; searches by halves. No program in sight. -/
import Derived.Test.YthhpelmjnmlgjaaGreatDoorAwpUtfEv
set_option linter.unusedSimpArgs false
set_option linter.unusedVariables false
namespace Go.Awp

theorem downTo {M : Nat → Prop} (n : Nat) (hend : M n) (hstep : ∀ i, i < n → M (i + 1) → M i) : M 0 := by
  have : ∀ m i, i + m = n → M i := fun m => by
    induction m with
    | zero => intro i hi; rw [show i = n by omega]; exact hend
    | succ m ih => exact fun i hi => hstep i (by omega) (ih (i + 1) (by omega))
  exact this n 0 (by omega)

theorem Tot.opt {α : Type} [Inhabited α] {c : Bool} {a : Nat → Option α} (h : c = true → Tot a) : Tot (fun k => bif c then a k else some default) := EvP.opt h fun _ => trivial
theorem Tot.some {α : Type} {x : α} : Tot (fun _ => Option.some x) := EvP.some trivial
theorem Tot.then {α β : Type} {f : Nat → Option α} {g : Nat → α → Option β} {P : β → Prop} (h : Tot f) (hg : ∀ x, EvP (fun k => g k x) P) : EvP (fun k => (f k).bind (g k)) P := EvP.bind (h.mono fun x _ => hg x)
theorem LRt {R V : Type} {f : Nat → Option (LR R V)} {g : Nat → V → Option R} (h : Tot f) (hg : ∀ v, Tot fun k => g k v) : Tot (fun k => (f k).bind fun t => t.go (g k)) :=
  EvP.go (h.mono fun t _ => by cases t with | ret r => trivial | out v => exact hg v)

/-- slices.IndexFunc ends, within the list. -/
theorem idx_tot {α : Type} [Inhabited α] {p : Nat → α → Option Bool} {l : List α} {f : Nat → Int → Option (LR Int Unit)} (hl : l.length < 9223372036854775808) (h0 : ∀ i, f 0 i = none)
    (h1 : ∀ k i, f (k + 1) i = bif ltI i (l.length : Int) then (bif inR i l.length then ((p k (rd l i)).bind fun c => bif c then (some (.ret i)) else (f k (IntKind.wrap .i64 (i + 1)))) else none) else (some (.out ())))
    (hp : ∀ x ∈ l, Tot (fun k => p k x)) : EvP (fun k => (f k 0).bind fun t => t.go fun _ => some (-1)) (fun i => -1 ≤ i ∧ i < (l.length : Int)) := by
  refine EvP.go (downTo (M := fun i => EvP (fun k => f k (i : Int)) _) l.length ?_ fun i hi ih => ?_)
  · refine EvP.succ (fun k => h1 k _) ?_
    rw [ltI_nat, decide_eq_false (Nat.lt_irrefl _)]
    exact EvP.some (EvP.some ⟨by omega, by omega⟩)
  · refine EvP.succ (fun k => h1 k _) ?_
    rw [ltI_nat, decide_eq_true hi, inR_mk hi, rd_nat _ _ hi, i64z (by omega)]
    refine EvP.bind ((hp l[i] (by simp)).mono fun c _ => ?_)
    exact EvP.cond (fun _ => EvP.some (show -1 ≤ (i : Int) ∧ (i : Int) < l.length by omega)) fun _ => ih

theorem half_mid (a b n : Nat) (h : a < b) (hb : b ≤ n) (hn : n < 4611686018427387904) : IntKind.wrap .i64 (shrI .u64 (IntKind.wrap .u64 (IntKind.wrap .i64 ((a : Int) + (b : Int)))) 1) = (((a + b) / 2 : Nat) : Int) := by
  rw [i64z (n := (a : Int) + (b : Int)) (by omega), IntWalk.u64_in _ (by omega)]
  have e : shrI .u64 ((a : Int) + (b : Int)) 1 = (((a + b) / 2 : Nat) : Int) := by
    show Int.fdiv ((a : Int) + (b : Int)) (2 ^ 1) = _
    rw [Int.fdiv_eq_ediv_of_nonneg _ (by omega)]
    omega
  rw [e, i64z (by omega)]

/-- slices.BinarySearchFunc's loop ends, within the list. -/
theorem bin_tot {α : Type} [Inhabited α] {p : Nat → α → Option Int} {l : List α} {f : Nat → (Int × Int) → Option Int} (hl : l.length < 4611686018427387904)
    (h1 : ∀ k a b, f (k + 1) (a, b) = bif ltI a b then (bnd (shrI .u64 (IntKind.wrap .u64 (IntKind.wrap .i64 (a + b))) 1) fun t => bif inR (IntKind.wrap .i64 t) l.length then ((p k (rd l (IntKind.wrap .i64 t))).bind fun c => bif ltI c 0 then f k (IntKind.wrap .i64 (IntKind.wrap .i64 t + 1), b) else f k (a, IntKind.wrap .i64 t)) else none) else some a)
    (hp : ∀ x ∈ l, Tot (fun k => p k x)) : EvP (fun k => f k (0, (l.length : Int))) (fun i => 0 ≤ i ∧ i ≤ (l.length : Int)) := by
  have go : ∀ (m a b : Nat), b - a ≤ m → a ≤ b → b ≤ l.length → EvP (fun k => f k ((a : Int), (b : Int))) (fun i => 0 ≤ i ∧ i ≤ (l.length : Int)) := fun m => by
    induction m with
    | zero =>
      intro a b h0 h2 h3
      refine EvP.succ (fun k => h1 k _ _) ?_
      rw [ltI_nat, decide_eq_false (by omega)]
      exact EvP.some ⟨by omega, by omega⟩
    | succ m ih =>
      intro a b h0 h2 h3
      refine EvP.succ (fun k => h1 k _ _) ?_
      rw [ltI_nat]
      refine EvP.cond (fun hc => EvP.bnd ?_) fun hc => EvP.some ⟨by omega, by omega⟩
      have hab := of_decide_eq_true hc
      rw [half_mid a b l.length hab h3 hl]
      have hi : (a + b) / 2 < l.length := by omega
      rw [inR_mk hi, rd_nat _ _ hi, i64z (by omega)]
      refine EvP.bind ((hp _ (by simp)).mono fun c _ => EvP.cond (fun _ => ?_) fun _ => ?_)
      · exact ih ((a + b) / 2 + 1) b (by omega) (by omega) h3
      · exact ih a ((a + b) / 2) (by omega) (by omega) (by omega)
  exact go l.length 0 l.length (by omega) (by omega) (Nat.le_refl _)

/-- It answers the first that is not less. -/
theorem bin_ev {α : Type} [Inhabited α] {p : Nat → α → Option Int} {q : α → Int} {l : List α} {f : Nat → (Int × Int) → Option Int} (hl : l.length < 4611686018427387904)
    (h1 : ∀ k a b, f (k + 1) (a, b) = bif ltI a b then (bnd (shrI .u64 (IntKind.wrap .u64 (IntKind.wrap .i64 (a + b))) 1) fun t => bif inR (IntKind.wrap .i64 t) l.length then ((p k (rd l (IntKind.wrap .i64 t))).bind fun c => bif ltI c 0 then f k (IntKind.wrap .i64 (IntKind.wrap .i64 t + 1), b) else f k (a, IntKind.wrap .i64 t)) else none) else some a)
    (hp : ∀ x ∈ l, Ev (fun k => p k x) (q x)) (hs : ∀ i j, i < j → j < l.length → q (rd l (j : Int)) < 0 → q (rd l (i : Int)) < 0) :
    EvP (fun k => f k (0, (l.length : Int))) (fun r => ∃ n : Nat, r = (n : Int) ∧ n ≤ l.length ∧ (∀ i, i < n → q (rd l (i : Int)) < 0) ∧ ∀ i, n ≤ i → i < l.length → ¬ q (rd l (i : Int)) < 0) := by
  have go : ∀ (m a b : Nat), b - a ≤ m → a ≤ b → b ≤ l.length → (∀ i, i < a → q (rd l (i : Int)) < 0) → (∀ i, b ≤ i → i < l.length → ¬ q (rd l (i : Int)) < 0) →
      EvP (fun k => f k ((a : Int), (b : Int))) (fun r => ∃ n : Nat, r = (n : Int) ∧ n ≤ l.length ∧ (∀ i, i < n → q (rd l (i : Int)) < 0) ∧ ∀ i, n ≤ i → i < l.length → ¬ q (rd l (i : Int)) < 0) := fun m => by
    induction m with
    | zero =>
      intro a b h0 h2 h3 h4 h5
      refine EvP.succ (fun k => h1 k _ _) ?_
      rw [ltI_nat, decide_eq_false (by omega)]
      exact EvP.some ⟨a, rfl, by omega, h4, fun i hi => h5 i (by omega)⟩
    | succ m ih =>
      intro a b h0 h2 h3 h4 h5
      refine EvP.succ (fun k => h1 k _ _) ?_
      rw [ltI_nat]
      refine EvP.cond (fun hc => EvP.bnd ?_) fun hc => EvP.some ⟨a, rfl, by omega, h4, fun i hi => h5 i (by have := of_decide_eq_false hc; omega)⟩
      have hab := of_decide_eq_true hc
      rw [half_mid a b l.length hab h3 hl]
      have hi : (a + b) / 2 < l.length := by omega
      rw [inR_mk hi, i64z (by omega)]
      refine EvP.bind ((hp _ (by rw [rd_nat _ _ hi]; simp)).evP.mono fun c hc2 => ?_)
      subst hc2
      refine EvP.cond (fun hlt => ?_) fun hlt => ?_
      · rw [ltI_iff] at hlt
        exact ih ((a + b) / 2 + 1) b (by omega) (by omega) h3 (fun i hi2 => by
          by_cases e : i = (a + b) / 2
          · subst e; exact hlt
          · exact hs i _ (by omega) hi hlt) h5
      · rw [ltI_false] at hlt
        exact ih a ((a + b) / 2) (by omega) (by omega) (by omega) h4 fun i hi2 hi3 hh => by
          by_cases e : i = (a + b) / 2
          · subst e; omega
          · have := hs _ i (by omega : (a + b) / 2 < i) hi3 hh
            omega
  exact go l.length 0 l.length (by omega) (by omega) (Nat.le_refl _) (fun i hi => by omega) fun i hi hi2 => by omega

/-- A loop that stops at the first that fails. -/
def allFrom (q : Nat → Bool) : Nat → Nat → Bool
  | 0, _ => true
  | m + 1, i => q i && allFrom q m (i + 1)
theorem allFrom_iff (q : Nat → Bool) : ∀ m i, allFrom q m i = true ↔ ∀ j, i ≤ j → j < i + m → q j = true
  | 0, i => by simp [allFrom]; omega
  | m + 1, i => by
    rw [allFrom, Bool.and_eq_true, allFrom_iff q m (i + 1)]
    constructor
    · rintro ⟨h1, h2⟩ j hj hlt
      by_cases e : j = i
      · subst e; exact h1
      · exact h2 j (by omega) (by omega)
    · intro h; exact ⟨h i (by omega) (by omega), fun j hj hlt => h j (by omega) (by omega)⟩
theorem all_ev {R : Type} {f : Nat → Int → Option (LR R Unit)} {n : Nat} {q : Nat → Bool} {r : R} (hend : Ev (fun k => f k (n : Int)) (.out ()))
    (hstep : ∀ i, i < n → ∀ v, Ev (fun k => f k ((i + 1 : Nat) : Int)) v → Ev (fun k => f k (i : Int)) (if q i = true then v else .ret r)) : Ev (fun k => f k 0) (if allFrom q n 0 = true then .out () else .ret r) := by
  have : ∀ m i, i + m = n → Ev (fun k => f k (i : Int)) (if allFrom q m i = true then .out () else .ret r) := fun m => by
    induction m with
    | zero => intro i hi; rw [show i = n by omega]; exact hend
    | succ m ih =>
      intro i hi
      have := hstep i (by omega) _ (ih (i + 1) (by omega))
      rw [allFrom]
      cases hq : q i with
      | true => rw [hq] at this; simpa using this
      | false => rw [hq] at this; simpa using this
  exact this n 0 (by omega)
end Go.Awp
