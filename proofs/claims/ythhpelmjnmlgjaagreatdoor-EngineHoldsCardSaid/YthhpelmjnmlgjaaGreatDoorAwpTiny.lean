/- Short words for the commonest steps. No program in sight. -/
import Derived.Test.YthhpelmjnmlgjaaGreatDoorAwpMore2
set_option linter.unusedSimpArgs false
set_option linter.unusedVariables false
namespace Go.Awp

section
variable {P : Program} {ops : Array Oper} {G : Call0} {o : Oper} {m : St} {r : List Oper} {K : St → Prop} {acc : LL} {KL : LL → St → Prop}

def hdB (o : Oper) (d nt : Nat) : Bool := o.guard.isNone && (o.dst == some d && Nat.ble (d + 1) nt)
theorem hd_of {d nt : Nat} (h : hdB o d nt = true) : GOn ops o m ∧ o.dst = some d ∧ d < nt := by
  simp only [hdB, Bool.and_eq_true, Option.isNone_iff_eq_none, beq_iff_eq] at h
  exact ⟨by unfold GOn; rw [h.1]; trivial, h.2.1, Nat.le_of_ble_eq_true h.2.2⟩
def gdS (ops : Array Oper) (o : Oper) (d nt : Nat) (b : Bool) : Option Nat := match o.guard with
  | some (j, b') => bif (b' == b) && (o.dst == some d && Nat.ble (d + 1) nt) then (ops[j]?).bind (·.dst) else none
  | none => none
theorem gd_of {d nt t : Nat} {b : Bool} (h : gdS ops o d nt b = some t) : ∃ j, o.guard = some (j, b) ∧ (ops[j]?).bind (·.dst) = some t ∧ o.dst = some d ∧ d < nt := by
  unfold gdS at h
  cases hg : o.guard with
  | none => rw [hg] at h; cases h
  | some q =>
    obtain ⟨j, b'⟩ := q
    rw [hg] at h
    simp only at h
    cases hc : (b' == b) && (o.dst == some d && Nat.ble (d + 1) nt) with
    | false => rw [hc] at h; cases h
    | true =>
      rw [hc] at h
      simp only [Bool.and_eq_true, beq_iff_eq] at hc
      exact ⟨j, by rw [hc.1], h, hc.2.1, Nat.le_of_ble_eq_true hc.2.2⟩
def mvS (o : Oper) (d nt : Nat) : Option Operand := bif hdB o d nt then (match o.op with | .move x => some x | .assign x => some x | _ => none) else none
theorem mv_of {d nt : Nat} {x : Operand} (h : mvS o d nt = some x) : hdB o d nt = true ∧ (o.op = .move x ∨ o.op = .assign x) := by
  unfold mvS at h
  cases hc : hdB o d nt with
  | false => rw [hc] at h; cases h
  | true =>
    rw [hc] at h
    refine ⟨rfl, ?_⟩
    cases ho : o.op <;> rw [ho] at h <;> simp at h
    · subst h; exact .inl rfl
    · subst h; exact .inr rfl

theorem sT (d : Nat) (X : V) {rd : List Loc} (hh : hdB o d G.nt = true) (f : GOn ops o m → o.dst = some d → d < G.nt → Valid P ops G o m ⟨rd, [(.t d, X)]⟩) (h : SQ P ops G r K (updL m [(.t d, X)])) : SQ P ops G (o :: r) K m :=
  sq_cons ⟨rd, [(.t d, X)]⟩ (f (hd_of hh).1 (hd_of (ops := ops) (m := m) hh).2.1 (hd_of (ops := ops) (m := m) hh).2.2) h
theorem rT (d : Nat) (X : V) {rd : List Loc} (hh : hdB o d G.nt = true) (f : GOn ops o m → o.dst = some d → d < G.nt → Valid P ops G o m ⟨rd, [(.t d, X)]⟩) (h : RG P ops G r (acc ++ [(rd, [.t d])]) KL (updL m [(.t d, X)])) : RG P ops G (o :: r) acc KL m :=
  rg_cons ⟨rd, [(.t d, X)]⟩ (f (hd_of hh).1 (hd_of (ops := ops) (m := m) hh).2.1 (hd_of (ops := ops) (m := m) hh).2.2) h
theorem sM (d : Nat) (X : V) {x : Operand} (hh : mvS o d G.nt = some x) (hx : evO m x = X) (h : SQ P ops G r K (updL m [(.t d, X)])) : SQ P ops G (o :: r) K m :=
  sT d X (mv_of hh).1 (fun a b c => v_move (mv_of hh).2 a b c hx) h
theorem rM (d : Nat) (X : V) {x : Operand} (hh : mvS o d G.nt = some x) (hx : evO m x = X) (h : RG P ops G r (acc ++ [(gloc ops o ++ lo x, [.t d])]) KL (updL m [(.t d, X)])) : RG P ops G (o :: r) acc KL m :=
  rT d X (mv_of hh).1 (fun a b c => v_move (mv_of hh).2 a b c hx) h

theorem vF {d t : Nat} {X : V} {c : Bool} {rd : List Loc} (hg : gdS ops o d G.nt false = some t) (ht : m (.t t) = bV c) (f : c = false → GOn ops o m → o.dst = some d → d < G.nt → Valid P ops G o m ⟨rd, [(.t d, X)]⟩) : Valid P ops G o m ⟨.t t :: rd, [(.t d, mg (!c) X)]⟩ := by
  obtain ⟨j, h1, h2, h3, h4⟩ := gd_of hg
  exact v_cF h1 h2 h3 h4 ht fun e => f e (by unfold GOn; rw [h1]; exact ⟨t, h2, by rw [ht, e]⟩) h3 h4
theorem vT {d t : Nat} {X : V} {c : Bool} {rd : List Loc} (hg : gdS ops o d G.nt true = some t) (ht : m (.t t) = bV c) (f : c = true → GOn ops o m → o.dst = some d → d < G.nt → Valid P ops G o m ⟨rd, [(.t d, X)]⟩) : Valid P ops G o m ⟨.t t :: rd, [(.t d, mg c X)]⟩ := by
  obtain ⟨j, h1, h2, h3, h4⟩ := gd_of hg
  exact v_cT h1 h2 h3 h4 ht fun e => f e (by unfold GOn; rw [h1]; exact ⟨t, h2, by rw [ht, e]⟩) h3 h4
theorem wF {d t : Nat} {X : V} {g c : Bool} {rd : List Loc} (hg : gdS ops o d G.nt false = some t) (ht : m (.t t) = mg g (bV c)) (f : g = true → c = false → GOn ops o m → o.dst = some d → d < G.nt → Valid P ops G o m ⟨rd, [(.t d, X)]⟩) : Valid P ops G o m ⟨.t t :: rd, [(.t d, mg (g && !c) X)]⟩ := by
  obtain ⟨j, h1, h2, h3, h4⟩ := gd_of hg
  exact v_mF h1 h2 h3 h4 ht fun e e2 => f e e2 (by unfold GOn; rw [h1]; exact ⟨t, h2, by rw [ht]; exact bm e e2⟩) h3 h4
theorem wT {d t : Nat} {X : V} {g c : Bool} {rd : List Loc} (hg : gdS ops o d G.nt true = some t) (ht : m (.t t) = mg g (bV c)) (f : g = true → c = true → GOn ops o m → o.dst = some d → d < G.nt → Valid P ops G o m ⟨rd, [(.t d, X)]⟩) : Valid P ops G o m ⟨.t t :: rd, [(.t d, mg (g && c) X)]⟩ := by
  obtain ⟨j, h1, h2, h3, h4⟩ := gd_of hg
  exact v_mT h1 h2 h3 h4 ht fun e e2 => f e e2 (by unfold GOn; rw [h1]; exact ⟨t, h2, by rw [ht]; exact bm e e2⟩) h3 h4

theorem sF (d : Nat) (X : V) {t : Nat} {c : Bool} {rd : List Loc} (hg : gdS ops o d G.nt false = some t) (ht : m (.t t) = bV c) (f : c = false → GOn ops o m → o.dst = some d → d < G.nt → Valid P ops G o m ⟨rd, [(.t d, X)]⟩) (h : SQ P ops G r K (updL m [(.t d, mg (!c) X)])) : SQ P ops G (o :: r) K m := sq_cons ⟨_, [(.t d, mg (!c) X)]⟩ (vF hg ht f) h
theorem rF (d : Nat) (X : V) {t : Nat} {c : Bool} {rd : List Loc} (hg : gdS ops o d G.nt false = some t) (ht : m (.t t) = bV c) (f : c = false → GOn ops o m → o.dst = some d → d < G.nt → Valid P ops G o m ⟨rd, [(.t d, X)]⟩) (h : RG P ops G r (acc ++ [(.t t :: rd, [.t d])]) KL (updL m [(.t d, mg (!c) X)])) : RG P ops G (o :: r) acc KL m := rg_cons ⟨_, [(.t d, mg (!c) X)]⟩ (vF hg ht f) h
theorem sG (d : Nat) (X : V) {t : Nat} {c : Bool} {rd : List Loc} (hg : gdS ops o d G.nt true = some t) (ht : m (.t t) = bV c) (f : c = true → GOn ops o m → o.dst = some d → d < G.nt → Valid P ops G o m ⟨rd, [(.t d, X)]⟩) (h : SQ P ops G r K (updL m [(.t d, mg c X)])) : SQ P ops G (o :: r) K m := sq_cons ⟨_, [(.t d, mg c X)]⟩ (vT hg ht f) h
theorem rG (d : Nat) (X : V) {t : Nat} {c : Bool} {rd : List Loc} (hg : gdS ops o d G.nt true = some t) (ht : m (.t t) = bV c) (f : c = true → GOn ops o m → o.dst = some d → d < G.nt → Valid P ops G o m ⟨rd, [(.t d, X)]⟩) (h : RG P ops G r (acc ++ [(.t t :: rd, [.t d])]) KL (updL m [(.t d, mg c X)])) : RG P ops G (o :: r) acc KL m := rg_cons ⟨_, [(.t d, mg c X)]⟩ (vT hg ht f) h
theorem sH (d : Nat) (X : V) {t : Nat} {g c : Bool} {rd : List Loc} (hg : gdS ops o d G.nt false = some t) (ht : m (.t t) = mg g (bV c)) (f : g = true → c = false → GOn ops o m → o.dst = some d → d < G.nt → Valid P ops G o m ⟨rd, [(.t d, X)]⟩) (h : SQ P ops G r K (updL m [(.t d, mg (g && !c) X)])) : SQ P ops G (o :: r) K m := sq_cons ⟨_, [(.t d, mg (g && !c) X)]⟩ (wF hg ht f) h
theorem rH (d : Nat) (X : V) {t : Nat} {g c : Bool} {rd : List Loc} (hg : gdS ops o d G.nt false = some t) (ht : m (.t t) = mg g (bV c)) (f : g = true → c = false → GOn ops o m → o.dst = some d → d < G.nt → Valid P ops G o m ⟨rd, [(.t d, X)]⟩) (h : RG P ops G r (acc ++ [(.t t :: rd, [.t d])]) KL (updL m [(.t d, mg (g && !c) X)])) : RG P ops G (o :: r) acc KL m := rg_cons ⟨_, [(.t d, mg (g && !c) X)]⟩ (wF hg ht f) h
theorem sI (d : Nat) (X : V) {t : Nat} {g c : Bool} {rd : List Loc} (hg : gdS ops o d G.nt true = some t) (ht : m (.t t) = mg g (bV c)) (f : g = true → c = true → GOn ops o m → o.dst = some d → d < G.nt → Valid P ops G o m ⟨rd, [(.t d, X)]⟩) (h : SQ P ops G r K (updL m [(.t d, mg (g && c) X)])) : SQ P ops G (o :: r) K m := sq_cons ⟨_, [(.t d, mg (g && c) X)]⟩ (wT hg ht f) h
theorem rI (d : Nat) (X : V) {t : Nat} {g c : Bool} {rd : List Loc} (hg : gdS ops o d G.nt true = some t) (ht : m (.t t) = mg g (bV c)) (f : g = true → c = true → GOn ops o m → o.dst = some d → d < G.nt → Valid P ops G o m ⟨rd, [(.t d, X)]⟩) (h : RG P ops G r (acc ++ [(.t t :: rd, [.t d])]) KL (updL m [(.t d, mg (g && c) X)])) : RG P ops G (o :: r) acc KL m := rg_cons ⟨_, [(.t d, mg (g && c) X)]⟩ (wT hg ht f) h

theorem sr {id : Nat} {ops : Array Oper} {y : Code} {Q : Exit → St → Prop} (h : SQ P ops G ops.toList (thenQ (HT P G y Q) Q .normal) m) : HT P G (.seq (.region id ops false) y) Q m := ht_seq (ht_region h)

/-- Facts of a program, shortly. -/
def EnT (P : Program) (g : FuncId) : Prop := ∀ args w, (callFunc g args).run P w = .ok (.enter g args) w
def FoT (P : Program) (S f a0 : Nat) : Prop := ∀ w a, (Instr.fieldAt S (.pointer (some a)) f).run P w = .ok (.pointer (some (a.add a0))) w
end
end Go.Awp
