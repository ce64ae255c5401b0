/- From some round on: what plain functions of this make answer; searches through lists. No program in sight. -/
import Derived.Test.YthhpelmjnmlgjaaGreatDoorAwpNum
set_option linter.unusedSimpArgs false
set_option linter.unusedVariables false
namespace Go.Awp

/-- From some round on it answers one thing, of which P holds. -/
def EvP {α : Type} (f : Nat → Option α) (P : α → Prop) : Prop := ∃ r, Ev f r ∧ P r

section
variable {α β : Type}
theorem EvP.of {f : Nat → Option α} {r : α} {P : α → Prop} (h : Ev f r) (hp : P r) : EvP f P := ⟨r, h, hp⟩
theorem Ev.evP {f : Nat → Option α} {r : α} (h : Ev f r) : EvP f (· = r) := ⟨r, h, rfl⟩
theorem EvP.ev {f : Nat → Option α} {r : α} (h : EvP f (· = r)) : Ev f r := by obtain ⟨x, h1, rfl⟩ := h; exact h1
theorem EvP.mono {f : Nat → Option α} {P Q : α → Prop} (h : EvP f P) (hq : ∀ r, P r → Q r) : EvP f Q := by
  obtain ⟨r, h1, h2⟩ := h; exact ⟨r, h1, hq r h2⟩
theorem EvP.some {r : α} {P : α → Prop} (h : P r) : EvP (fun _ => Option.some r) P := ⟨r, Ev.of fun _ => rfl, h⟩
theorem EvP.bind {f : Nat → Option α} {g : Nat → α → Option β} {P : β → Prop} (h : EvP f fun x => EvP (fun k => g k x) P) : EvP (fun k => (f k).bind (g k)) P := by
  obtain ⟨x, h1, y, h2, h3⟩ := h
  exact ⟨y, h1.bind h2, h3⟩
theorem EvP.cond {c : Bool} {a b : Nat → Option α} {P : α → Prop} (h1 : c = true → EvP a P) (h2 : c = false → EvP b P) : EvP (fun k => bif c then a k else b k) P := by
  cases c with
  | true => exact h1 rfl
  | false => exact h2 rfl
theorem EvP.guard {c : Bool} {a : Nat → Option α} {P : α → Prop} (hc : c = true) (h : EvP a P) : EvP (fun k => bif c then a k else none) P := by subst hc; exact h
theorem EvP.bnd {x : β} {g : Nat → β → Option α} {P : α → Prop} (h : EvP (fun k => g k x) P) : EvP (fun k => Awp.bnd x (g k)) P := h
theorem EvP.succ {f g : Nat → Option α} {P : α → Prop} (h : ∀ k, f (k + 1) = g k) (hg : EvP g P) : EvP f P := by
  obtain ⟨r, h1, h2⟩ := hg
  exact ⟨r, h1.succ h, h2⟩
theorem EvP.congr {f g : Nat → Option α} {P : α → Prop} (h : ∀ k, f k = g k) (hg : EvP g P) : EvP f P := by
  obtain ⟨r, h1, h2⟩ := hg
  exact ⟨r, h1.congr h, h2⟩
/-- A call that is made under a condition alone. -/
theorem EvP.opt {c : Bool} {a : Nat → Option α} [Inhabited α] {P : α → Prop} (h1 : c = true → EvP a P) (h2 : c = false → P default) : EvP (fun k => bif c then a k else Option.some default) P :=
  EvP.cond h1 fun h => EvP.some (h2 h)
theorem EvP.go {R V : Type} {f : Nat → Option (LR R V)} {g : Nat → V → Option R} {P : R → Prop} (h : EvP f fun t => match t with
    | .ret r => P r
    | .out v => EvP (fun k => g k v) P) : EvP (fun k => (f k).bind fun t => t.go (g k)) P := by
  refine EvP.bind (h.mono fun t ht => ?_)
  cases t with
  | ret r => exact EvP.some ht
  | out v => exact ht
theorem Ev.cond {c : Bool} {a b : Nat → Option α} {r : α} (h1 : c = true → Ev a r) (h2 : c = false → Ev b r) : Ev (fun k => bif c then a k else b k) r := by
  cases c with
  | true => exact h1 rfl
  | false => exact h2 rfl
theorem Ev.guard {c : Bool} {a : Nat → Option α} {r : α} (hc : c = true) (h : Ev a r) : Ev (fun k => bif c then a k else none) r := by subst hc; exact h
theorem Ev.opt {c : Bool} {a : Nat → Option α} [Inhabited α] {r : α} (h1 : c = true → Ev a r) (h2 : c = false → default = r) : Ev (fun k => bif c then a k else Option.some default) r :=
  Ev.cond h1 fun h => Ev.of fun _ => by rw [h2 h]
theorem Ev.uniq {f : Nat → Option α} {r r' : α} (h : Ev f r) (h' : Ev f r') : r = r' := by
  obtain ⟨n, h⟩ := h
  obtain ⟨m, h'⟩ := h'
  have := h (max n m) (by omega)
  rw [h' (max n m) (by omega)] at this
  exact (Option.some.inj this).symm
end

/-! ### Numbers in range -/
theorem i64z {n : Int} (h : -9223372036854775808 ≤ n ∧ n < 9223372036854775808) : IntKind.wrap .i64 n = n := IntWalk.i64_in _ (by omega)
theorem ltI_iff {a b : Int} : ltI a b = true ↔ a < b := by simp [ltI]
theorem leI_iff {a b : Int} : leI a b = true ↔ a ≤ b := by simp [leI]
theorem eqI_iff {a b : Int} : eqI a b = true ↔ a = b := by simp [eqI]
theorem ltI_false {a b : Int} : ltI a b = false ↔ b ≤ a := by simp [ltI]
theorem leI_false {a b : Int} : leI a b = false ↔ b < a := by simp [leI]
theorem eqI_false {a b : Int} : eqI a b = false ↔ a ≠ b := by simp [eqI]
theorem inR_iff {i : Int} {n : Nat} : inR i n = true ↔ 0 ≤ i ∧ i < n := by simp [inR]
theorem inR_mk {i n : Nat} (h : i < n) : inR (i : Int) n = true := by rw [inR_nat]; exact decide_eq_true h
theorem cutOK_mk {l h n : Int} (h1 : 0 ≤ l) (h2 : l ≤ h) (h3 : h ≤ n) : cutOK l h n = true := by simp [cutOK, h1, h2, h3]
theorem appOK_mk {b n m : Nat} (h1 : (n + m) * b ≤ 140737488355328) (h2 : n + m ≤ 9223372036854775807) : appOK b n m = true := by simp [appOK]; omega
theorem rd_nat {α : Type} [Inhabited α] (l : List α) (i : Nat) (h : i < l.length) : rd l (i : Int) = l[i] := by simp [rd, h]
theorem strEq_true {a b : ByteArray} : strEq a b = true ↔ a = b := by rw [strEq_iff]; simp
theorem strEq_false {a b : ByteArray} : strEq a b = false ↔ a ≠ b := by rw [strEq_iff]; simp
theorem strEq_nil (a : ByteArray) : strEq a ⟨#[]⟩ = decide (a.size = 0) := by
  rw [strEq_iff]
  congr 1
  apply propext
  constructor
  · intro h; subst h; rfl
  · intro h; apply ByteArray.ext; exact Array.eq_empty_of_size_eq_zero h

/-! ### Searches -/
def idxL {α : Type} [Inhabited α] (p : Nat → α → Option Bool) (l : List α) : Nat → Int → Option (LR Int Unit)
  | 0, _ => none
  | k + 1, i => bif ltI i (l.length : Int) then (bif inR i l.length then ((p k (rd l i)).bind fun c => bif c then (some (.ret i)) else (idxL p l k (IntKind.wrap .i64 (i + 1)))) else none) else (some (.out ()))

def findI {α : Type} (q : α → Bool) : List α → Nat → Int
  | [], _ => -1
  | x :: r, i => if q x then i else findI q r (i + 1)

theorem findI_any {α : Type} (q : α → Bool) : ∀ (l : List α) (i : Nat), leI 0 (findI q l i) = l.any q
  | [], _ => rfl
  | x :: r, i => by
    rw [findI, List.any_cons]
    cases h : q x with
    | true => simp [leI_iff]
    | false => simpa using findI_any q r (i + 1)

theorem idxL_ev {α : Type} [Inhabited α] {p : Nat → α → Option Bool} {q : α → Bool} {l : List α} (hl : l.length < 9223372036854775808) : ∀ (n i : Nat), i + n = l.length → (∀ x ∈ l, Ev (fun k => p k x) (q x)) →
    Ev (fun k => (idxL p l k (i : Int)).bind fun t => t.go fun _ => some (-1)) (findI q (l.drop i) i)
  | 0, i, hi, hp => by
    refine Ev.from 1 fun k => ?_
    have : i = l.length := by omega
    rw [idxL, this, ltI_nat]
    simp [findI, LR.go]
  | n + 1, i, hi, hp => by
    have hlt : i < l.length := by omega
    rw [List.drop_eq_getElem_cons hlt, findI]
    refine Ev.succ (g := fun k => ((p k l[i]).bind fun c => bif c then (some (.ret (i : Int))) else (idxL p l k ((i + 1 : Nat) : Int))).bind fun t => t.go fun _ => some (-1)) (fun k => ?_) ?_
    · rw [idxL, ltI_nat, decide_eq_true hlt, inR_mk hlt, rd_nat _ _ hlt, i64z (by omega)]; rfl
    · obtain ⟨m, hm⟩ := hp l[i] (by simp)
      have ih := idxL_ev hl n (i + 1) (by omega) hp
      cases hq : q l[i] with
      | true =>
        refine ⟨m, fun k hk => ?_⟩
        have := hm k hk
        simp only at this
        show Option.bind ((p k l[i]).bind _) _ = _
        rw [this, hq]; rfl
      | false =>
        obtain ⟨m', hm'⟩ := ih
        refine ⟨max m m', fun k hk => ?_⟩
        have := hm k (by omega)
        simp only at this
        show Option.bind ((p k l[i]).bind _) _ = _
        rw [this, hq]
        exact hm' k (by omega)

theorem idxL_eq {α : Type} [Inhabited α] {p : Nat → α → Option Bool} {l : List α} {f : Nat → Int → Option (LR Int Unit)} (h0 : ∀ i, f 0 i = none)
    (h1 : ∀ k i, f (k + 1) i = bif ltI i (l.length : Int) then (bif inR i l.length then ((p k (rd l i)).bind fun c => bif c then (some (.ret i)) else (f k (IntKind.wrap .i64 (i + 1)))) else none) else (some (.out ()))) :
    ∀ k i, f k i = idxL p l k i
  | 0, i => h0 i
  | k + 1, i => by rw [h1, idxL]; simp only [idxL_eq h0 h1 k]

/-- slices.IndexFunc, ContainsFunc as they are printed. -/
theorem idx_ev {α : Type} [Inhabited α] {p : Nat → α → Option Bool} {q : α → Bool} {l : List α} {f : Nat → Int → Option (LR Int Unit)} (hl : l.length < 9223372036854775808) (h0 : ∀ i, f 0 i = none)
    (h1 : ∀ k i, f (k + 1) i = bif ltI i (l.length : Int) then (bif inR i l.length then ((p k (rd l i)).bind fun c => bif c then (some (.ret i)) else (f k (IntKind.wrap .i64 (i + 1)))) else none) else (some (.out ())))
    (hp : ∀ x ∈ l, Ev (fun k => p k x) (q x)) : Ev (fun k => (f k 0).bind fun t => t.go fun _ => some (-1)) (findI q l 0) := by
  have := idxL_ev hl l.length 0 (by omega) hp
  rw [List.drop_zero] at this
  exact this.congr fun k => by rw [idxL_eq h0 h1]; rfl
theorem any_ev {α : Type} {f : Nat → Option Int} {q : α → Bool} {l : List α} (h : Ev f (findI q l 0)) : Ev (fun k => (f k).bind fun t => some (leI 0 t)) (l.any q) := by
  rw [← findI_any q l 0]
  exact h.bind (Ev.of fun _ => rfl)
end Go.Awp
