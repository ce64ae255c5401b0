/- Steps that only tell a thing otherwise: a block made still, a row told as data, a pointer told as data, what is forgotten. No program in sight. -/
import Derived.Test.YthhpelmjnmlgjaaGreatDoorAwpSpec
set_option linter.unusedSimpArgs false
set_option linter.unusedVariables false
namespace Go.Awp
open Go.RowKit

section
variable {P : Program} {ops : Array Oper} {G : Call0} {o : Oper} {m : St}

theorem sq_wk {r : List Oper} {K : St → Prop} {m m' : St} (hw : Wk G m m') (h : SQ P ops G (o :: r) K m') : SQ P ops G (o :: r) K m := fun a w hr => h a w (hw a w hr)

theorem wk_of {m' : St} (h : ∀ φ a w, RR G φ m a w → ∃ φ', RR G φ' m' a w) : Wk G m m' := fun a w ⟨φ, hr⟩ => h φ a w hr

/-- The same value, told otherwise. -/
theorem RR.retell {φ : Phi} {a : Act} {w : World} (h : RR G φ m a w) (l : Loc) (x : V) (hl : ∀ i, l ≠ .b i) (hx : ∀ v, RepV φ (okOf G φ m w) w v (m l) → RepV φ (okOf G φ m w) w v x) : RR G φ (upd m l x) a w := by
  have hb : ∀ i, upd m l x (.b i) = m (.b i) := fun i => upd_ne _ _ (Ne.symm (hl i))
  have hok : okOf G φ (upd m l x) w = okOf G φ m w := by funext b; simp [okOf, hb]
  have hone : ∀ l' v, RepV φ (okOf G φ m w) w v (m l') → RepV φ (okOf G φ m w) w v (upd m l x l') := fun l' v hv => by
    by_cases e : l' = l
    · subst e; rw [upd_self]; exact hx v hv
    · rw [upd_ne _ _ e]; exact hv
  refine ⟨h.below, h.nodef, h.size, fun t => by rw [hok]; exact hone _ _ (h.slots t), h.lt, fun i j b c c' hi hj hli hij => by rw [hb] at hli ⊢; exact h.inj i j b c c' hi hj hli hij, fun i => ?_⟩
  have hi := h.blk i
  unfold BlkOK at hi ⊢
  rw [hb, hok]
  cases hm : m (.b i) <;> rw [hm] at hi <;> first | exact hi.elim | exact hi | skip
  obtain ⟨b, c, arr, e, h1, h2, h3, h4⟩ := hi
  exact ⟨b, c, arr, e, h1, h2, h3, fun j v hj => hone _ _ (h4 j v hj)⟩

theorem wk_retell (l : Loc) (x : V) (hl : ∀ i, l ≠ .b i) (hx : ∀ φ a w, RR G φ m a w → ∀ v, RepV φ (okOf G φ m w) w v (m l) → RepV φ (okOf G φ m w) w v x) : Wk G m (upd m l x) :=
  wk_of fun φ a w h => ⟨φ, h.retell l x hl (hx φ a w h)⟩

theorem weaker_refl (x : V) : V.weaker x x := .inl rfl

/-- A box, or a row, is written no more. -/
theorem wk_still_box (id n : Nat) (hb : m (.b id) = .box false n) : Wk G m (upd m (.b id) (.box true n)) :=
  wk_of fun φ a w h => ⟨φ, h.weaken (fun t => by rw [upd_b_t]; exact weaker_refl _) (fun i j => by rw [upd_b_c]; exact weaker_refl _) (fun i => by
    by_cases e : i = id
    · subst e; rw [upd_self, hb]; exact .inr (.inl ⟨n, rfl, rfl⟩)
    · rw [upd_b_b _ _ e]; exact .inl rfl)⟩

theorem wk_still_row (id k : Nat) (e : TypeId) (es : List (List D)) (hb : m (.b id) = .row false e k es) : Wk G m (upd m (.b id) (.row true e k es)) :=
  wk_of fun φ a w h => ⟨φ, h.weaken (fun t => by rw [upd_b_t]; exact weaker_refl _) (fun i j => by rw [upd_b_c]; exact weaker_refl _) (fun i => by
    by_cases e' : i = id
    · subst e'; rw [upd_self, hb]; exact .inr (.inr (.inl ⟨e, k, es, rfl, rfl⟩))
    · rw [upd_b_b _ _ e']; exact .inl rfl)⟩

/-- A still row, as data. -/
theorem rep_still_row {φ : Phi} {a : Act} {w : World} (h : RR G φ m a w) {id k n : Nat} {e : TypeId} {es : List (List D)} (hb : m (.b id) = .row true e k es) (hn : n = es.length) {v : Value} (hv : RepV φ (okOf G φ m w) w v (.own id k n)) : RepD (okOf G φ m w) w v (.sl k es) := by
  subst hn
  rcases row_at h hb with ⟨g1, g2⟩ | ⟨b, cap, arr, g1, g2, g3, g4, g5, g6⟩
  · rcases own_inv hv with ⟨h1, h2, _⟩ | ⟨b', c, h1, h2, _⟩
    · rw [h2, g2]; exact .nil k
    · rw [g1] at h1; cases h1
  · rcases own_inv hv with ⟨h1, h2, _⟩ | ⟨b', c, h1, h2, _⟩
    · rw [g1] at h1; cases h1
    · rw [g1] at h1
      simp only [Option.some.injEq, Prod.mk.injEq] at h1
      obtain ⟨rfl, rfl⟩ := h1
      rw [h2]
      have hok : okOf G φ m w b := by
        refine ⟨.inr (h.lt id b cap g1).1, (h.lt id b cap g1).2, fun i c hi => ?_⟩
        cases hl : (m (.b i)).live with
        | false => rfl
        | true =>
          by_cases e : i = id
          · subst e; rw [hb] at hl; cases hl
          · have := h.inj i id b c cap hi g1 hl e
            rw [hb] at this; cases this
      refine .sl b 0 cap k es (fun i j => arr.getD (i * k + j) undef) g4 g5 hok (fun i e hi => (g6 i e hi).1) (fun i e j c hi hj => ?_) (fun i e j c hi hj => ?_)
      · obtain ⟨v, h1, _⟩ := (g6 i e hi).2 j c hj
        rw [Nat.zero_add, cell_of g2, h1, Array.getD_eq_getD_getElem?, h1]; rfl
      · obtain ⟨v, h1, h2⟩ := (g6 i e hi).2 j c hj
        rw [Array.getD_eq_getD_getElem?, h1]; exact h2

theorem wk_row (l : Loc) (hl : ∀ i, l ≠ .b i) (id k n : Nat) (e : TypeId) (es : List (List D)) (hm : m l = .own id k n) (hb : m (.b id) = .row true e k es) (hn : n = es.length) : Wk G m (upd m l (.d (.sl k es))) :=
  wk_retell l _ hl fun φ a w h v hv => .d (rep_still_row h hb hn (by rw [← hm]; exact hv))

/-- A pointer into a still box, as data. -/
theorem rep_still_box {φ : Phi} {a : Act} {w : World} (h : RR G φ m a w) {id off n : Nat} {xs : List D} (hb : m (.b id) = .box true n) (hle : off + xs.length ≤ n) (hc : ∀ (j : Nat) (x : D), xs[j]? = some x → m (.c id (off + j)) = .d x) {v : Value} (hv : RepV φ (okOf G φ m w) w v (.ptr id off)) : RepD (okOf G φ m w) w v (.dp xs) := by
  cases hv with
  | ptr _ _ b c hφ =>
    obtain ⟨b', c', arr, e, h3, h4, h5, h6⟩ := box_at h hb
    rw [hφ] at h3
    simp only [Option.some.injEq, Prod.mk.injEq] at h3
    obtain ⟨rfl, rfl⟩ := h3
    have hok : okOf G φ m w b := by
      refine ⟨.inr (h.lt id b c hφ).1, (h.lt id b c hφ).2, fun i c' hi => ?_⟩
      cases hl : (m (.b i)).live with
      | false => rfl
      | true =>
        by_cases e : i = id
        · subst e; rw [hb] at hl; cases hl
        · have := h.inj i id b c' c hi hφ hl e
          rw [hb] at this; cases this
    have hget : ∀ j x, xs[j]? = some x → arr[off + j]? = some (arr.getD (off + j) undef) ∧ RepD (okOf G φ m w) w (arr.getD (off + j) undef) x := fun j x hj => by
      have hlt : off + j < arr.size := by have := (List.getElem?_eq_some_iff.1 hj).1; omega
      have e1 : arr[off + j]? = some (arr.getD (off + j) undef) := by rw [Array.getD_eq_getD_getElem?, Array.getElem?_eq_getElem hlt]; rfl
      refine ⟨e1, ?_⟩
      have := h6 _ _ e1
      rw [hc j x hj] at this
      generalize arr.getD (off + j) undef = u at this ⊢
      cases this with | d h => exact h
    refine .dp b off xs (fun j => arr.getD (off + j) undef) hok (fun j x hj => ?_) (fun j x hj => (hget j x hj).2)
    rw [cell_of h4]; exact (hget j x hj).1

theorem wk_ptr (l : Loc) (hl : ∀ i, l ≠ .b i) (id off n : Nat) (xs : List D) (hm : m l = .ptr id off) (hb : m (.b id) = .box true n) (hle : off + xs.length ≤ n) (hc : cellsM m id off xs.length = xs.map .d) : Wk G m (upd m l (.d (.dp xs))) :=
  wk_retell l _ hl fun φ a w h v hv => .d (rep_still_box h hb hle (fun j x hj => by
    have hlt := (List.getElem?_eq_some_iff.1 hj).1
    have := cellsM_get m id xs.length off j hlt
    rw [hc, List.getElem?_map, hj] at this
    simpa using this.symm) (by rw [← hm]; exact hv))

/-- A function whose captured variables are data. -/
theorem wk_fn (t : Nat) (g : FuncId) (xs : List D) (hm : m (.t t) = .fn g (xs.map .d)) : Wk G m (upd m (.t t) (.d (.fn g xs))) :=
  wk_retell _ _ (by simp) fun φ a w h v hv => by
    rw [hm] at hv
    cases hv with
    | fn _ vs _ hl hc =>
      refine .d (.fn g vs xs (by simpa using hl) fun i v x hv hx => ?_)
      have := hc i v (.d x) hv (by rw [List.getElem?_map, hx]; rfl)
      cases this with | d h => exact h

/-- A function that captured one still variable. -/
theorem wk_fn1 (t : Nat) (g : FuncId) (id off n : Nat) (xs : List D) (hm : m (.t t) = .fn g [.ptr id off]) (hb : m (.b id) = .box true n) (hle : off + xs.length ≤ n) (hc : cellsM m id off xs.length = xs.map .d) : Wk G m (upd m (.t t) (.d (.fn g [.dp xs]))) :=
  wk_retell _ _ (by simp) fun φ a w h v hv => by
    rw [hm] at hv
    cases hv with
    | fn _ vs _ hl hcs =>
      refine .d (.fn g vs _ (by simpa using hl) fun i v x hv hx => ?_)
      match i with
      | 0 =>
        simp only [List.getElem?_cons_zero, Option.some.injEq] at hx
        subst hx
        refine rep_still_box h hb hle (fun j x hj => ?_) (hcs 0 v _ hv rfl)
        have hlt := (List.getElem?_eq_some_iff.1 hj).1
        have := cellsM_get m id xs.length off j hlt
        rw [hc, List.getElem?_map, hj] at this
        simpa using this.symm
      | i + 1 => simp at hx

theorem wk_nil (l : Loc) (hl : ∀ i, l ≠ .b i) (k : Nat) (hm : m l = .d (.s (.slice none 0 0))) : Wk G m (upd m l (.d (.sl k []))) :=
  wk_retell l _ hl fun φ a w h v hv => by
    rw [hm] at hv
    cases hv with | d hv => cases hv; exact .d (.nil k)

/-- A nil slice, as an empty row of the call's own. -/
theorem wk_nilrow (l : Loc) (hl : ∀ i, l ≠ .b i) (id : Nat) (e : TypeId) (k : Nat) (hm : m l = .d (.s (.slice none 0 0))) (hid : m (.b id) = .nob) : Wk G m (upd (upd m (.b id) (.row false e k [])) l (.own id k 0)) := by
  refine wk_of fun φ a w hr2 => ?_
  have hφid : φ id = none := by have := hr2.blk id; unfold BlkOK at this; rw [hid] at this; exact this
  have hφx : ∀ i x, φ i = some x → updPhi φ id none i = some x := fun i x hi => by
    rw [updPhi_ne _ _ (fun e => by subst e; rw [hφid] at hi; cases hi)]; exact hi
  have hlv : ∀ i, i ≠ id → upd m (.b id) (.row false e k []) (.b i) = m (.b i) := fun i hi => upd_b_b _ _ hi
  have hok : ∀ b, okOf G φ m w b → okOf G (updPhi φ id none) (upd m (.b id) (.row false e k [])) w b ∧ w.heap[b]? = w.heap[b]? := fun b ⟨h1, h2, h3⟩ => ⟨⟨h1, h2, fun i c hi => by
    by_cases ei : i = id
    · subst ei; rw [updPhi_self] at hi; cases hi
    · rw [updPhi_ne _ _ ei] at hi; rw [hlv i ei]; exact h3 i c hi⟩, rfl⟩
  have : RR G (updPhi φ id none) (upd m (.b id) (.row false e k [])) a w := by
    refine ⟨hr2.below, hr2.nodef, hr2.size, fun t => by rw [upd_b_t]; exact (hr2.slots t).mono hφx hok, fun i b c hi => ?_, fun i j b c c' hi hj hl hij => ?_, fun i => ?_⟩
    · by_cases ei : i = id
      · subst ei; rw [updPhi_self] at hi; cases hi
      · rw [updPhi_ne _ _ ei] at hi; exact hr2.lt i b c hi
    · by_cases ei : i = id
      · subst ei; rw [updPhi_self] at hi; cases hi
      · by_cases ej : j = id
        · subst ej; rw [updPhi_self] at hj; cases hj
        · rw [updPhi_ne _ _ ei] at hi; rw [updPhi_ne _ _ ej] at hj
          rw [hlv i ei] at hl; rw [hlv j ej]; exact hr2.inj i j b c c' hi hj hl hij
    · by_cases ei : i = id
      · subst ei; unfold BlkOK; rw [upd_self]; exact .inl ⟨updPhi_self _ _ _, rfl⟩
      · exact blk_keep (updPhi_ne _ _ ei) hφx hok (hlv i ei) (fun j => upd_b_c _ _ _ _ _) (fun b c hi => rfl) (hr2.blk i)
  refine ⟨_, this.retell l _ hl fun v hv => ?_⟩
  rw [upd_ne _ _ (hl id), hm] at hv
  cases hv with | d hv => cases hv; exact .nil id k (updPhi_self _ _ _)

/-! ### What a list tells -/
def tell : List (Loc × V) → St
  | [] => bot
  | p :: r => upd (tell r) p.1 p.2

def namesB (L : List (Loc × V)) (i : Nat) : Bool := L.any fun p => p.1 == .b i

theorem tell_cases (L : List (Loc × V)) (x : Loc) : (∃ p ∈ L, p.1 = x ∧ tell L x = p.2) ∨ ((∀ p ∈ L, p.1 ≠ x) ∧ tell L x = bot x) := by
  induction L with
  | nil => exact .inr ⟨by simp, rfl⟩
  | cons p r ih =>
    by_cases e : x = p.1
    · exact .inl ⟨p, by simp, e.symm, by rw [tell, e, upd_self]⟩
    · have ht : tell (p :: r) x = tell r x := by rw [tell, upd_ne _ _ e]
      rcases ih with ⟨q, h1, h2, h3⟩ | ⟨h1, h2⟩
      · exact .inl ⟨q, by simp [h1], h2, by rw [ht]; exact h3⟩
      · exact .inr ⟨fun q hq => by
          rcases List.mem_cons.1 hq with h | h
          · subst h; exact Ne.symm e
          · exact h1 q h, by rw [ht]; exact h2⟩

def isB : Loc → Bool
  | .b _ => true
  | _ => false

theorem wk_tell (L : List (Loc × V)) (h1 : ∀ p ∈ L, m p.1 = p.2) (h2 : ∀ p ∈ L, isB p.1 = true ∨ Named (fun i => namesB L i = true) p.2) : Wk G m (tell L) := by
  refine wk_of fun φ a w h => ⟨_, h.forget (fun i => namesB L i = true) (fun t => ?_) (fun i j _ => ?_) (fun i hi => ?_) (fun i hi => ?_)⟩
  · rcases tell_cases L (.t t) with ⟨p, hp, he, ht⟩ | ⟨_, ht⟩
    · rw [ht]
      refine ⟨.inl (by rw [← he]; exact (h1 p hp).symm), ?_⟩
      rcases h2 p hp with h | h
      · rw [he] at h; cases h
      · exact h
    · rw [ht]; exact ⟨.inr rfl, .top⟩
  · rcases tell_cases L (.c i j) with ⟨p, hp, he, ht⟩ | ⟨_, ht⟩
    · rw [ht]
      refine ⟨.inl (by rw [← he]; exact (h1 p hp).symm), ?_⟩
      rcases h2 p hp with h | h
      · rw [he] at h; cases h
      · exact h
    · rw [ht]; exact ⟨.inr rfl, .top⟩
  · rcases tell_cases L (.b i) with ⟨p, hp, he, ht⟩ | ⟨hn, ht⟩
    · rw [ht, ← he]; exact (h1 p hp).symm
    · unfold namesB at hi
      obtain ⟨p, hp, hq⟩ := List.any_eq_true.1 hi
      exact absurd (by simpa using hq) (hn p hp)
  · rcases tell_cases L (.b i) with ⟨p, hp, he, ht⟩ | ⟨hn, ht⟩
    · exfalso
      exact hi (List.any_eq_true.2 ⟨p, hp, by rw [he]; simp⟩)
    · rw [ht]; rfl
end
end Go.Awp
