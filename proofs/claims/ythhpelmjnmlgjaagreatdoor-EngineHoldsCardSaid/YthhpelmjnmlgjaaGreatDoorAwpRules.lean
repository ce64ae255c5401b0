/- The rules of the walk over values: operations' effects, regions in the text's order and in any order, code, loops. No program in sight. -/
import Derived.Test.YthhpelmjnmlgjaaGreatDoorAwpCore
set_option linter.unusedSimpArgs false
set_option linter.unusedVariables false
namespace Go.Awp
open Go.RowKit

structure Eff where
  rd : List Loc
  wr : List (Loc × V)

section
variable {P : Program} {ops : Array Oper} {G : Call0}

def opGo (P : Program) (ops : Array Oper) (Q : Exit → Act → World → Prop) (o : Oper) (K : Act → World → Prop) (a : Act) (w : World) : Prop :=
  if Region.wanted o (yielded ops a.tmps) = true then o.wp P a w K Q ∨ (o.asks P a w ∧ LetsOut Q) else K (a.put o.dst undef) w

theorem wpOp_some {Q : Exit → Act → World → Prop} {i : Nat} {o : Oper} (h : ops[i]? = some o) (K : Act → World → Prop) (a : Act) (w : World) : wpOp P ops Q i K a w = opGo P ops Q o K a w := by
  simp [wpOp, h, opGo]

/-- The operation, carried out or passed over, turns the state so. -/
def Step (P : Program) (ops : Array Oper) (G : Call0) (o : Oper) (m : St) (wr : List (Loc × V)) : Prop :=
  ∀ a w, R G m a w → ∀ (K : Act → World → Prop) (Q : Exit → Act → World → Prop), (∀ a' w', R G (updL m wr) a' w' → K a' w') → opGo P ops Q o K a w

/-- .. in every state that has the same at the places that are read. -/
def Valid (P : Program) (ops : Array Oper) (G : Call0) (o : Oper) (m : St) (e : Eff) : Prop := ∀ m' : St, (∀ l ∈ e.rd, m' l = m l) → Step P ops G o m' e.wr

def HT (P : Program) (G : Call0) (c : Code) (Q : Exit → St → Prop) (m : St) : Prop :=
  ∀ a w, R G m a w → c.wp P (fun e a' w' => ∃ m', R G m' a' w' ∧ Q e m') a w

def thenQ (K : St → Prop) (Q : Exit → St → Prop) : Exit → St → Prop
  | .normal, m => K m
  | e, m => Q e m

def blockQ (id : Nat) (Q : Exit → St → Prop) : Exit → St → Prop
  | .exit i, m => if i = id then Q .normal m else Q (.exit i) m
  | e, m => Q e m

theorem ht_mono {c : Code} {Q Q' : Exit → St → Prop} {m : St} (h : HT P G c Q m) (hq : ∀ e m, Q e m → Q' e m) : HT P G c Q' m :=
  fun a w hr => wp_mono (h a w hr) fun e a' w' ⟨m', h1, h2⟩ => ⟨m', h1, hq _ _ h2⟩

theorem ht_seq {x y : Code} {Q : Exit → St → Prop} {m : St} (h : HT P G x (thenQ (HT P G y Q) Q) m) : HT P G (.seq x y) Q m := by
  intro a w hr
  refine wp_seq (wp_mono (h a w hr) ?_)
  rintro e a' w' ⟨m', h1, h2⟩
  cases e <;> first | exact h2 a' w' h1 | exact ⟨m', h1, h2⟩

theorem ht_skip {Q : Exit → St → Prop} {m : St} (h : Q .normal m) : HT P G .skip Q m := fun a w hr => wp_skip ⟨m, hr, h⟩
theorem ht_ret {Q : Exit → St → Prop} {m : St} (h : Q .ret m) : HT P G .ret Q m := fun a w hr => wp_ret ⟨m, hr, h⟩
theorem ht_exit {id : Nat} {Q : Exit → St → Prop} {m : St} (h : Q (.exit id) m) : HT P G (.exit id) Q m := fun a w hr => wp_exit ⟨m, hr, h⟩

theorem ht_block {id : Nat} {c : Code} {Q : Exit → St → Prop} {m : St} (h : HT P G c (blockQ id Q) m) : HT P G (.block id c) Q m := by
  intro a w hr
  refine wp_block (wp_mono (h a w hr) ?_)
  rintro e a' w' ⟨m', h1, h2⟩
  cases e with
  | exit i =>
    simp only [blockQ] at h2
    simp only [Exit.inBlock]
    by_cases hi : i = id
    · rw [if_pos hi] at h2 ⊢; exact ⟨m', h1, h2⟩
    · rw [if_neg hi] at h2 ⊢; exact ⟨m', h1, h2⟩
  | _ => exact ⟨m', h1, h2⟩

/-- What an operand is. -/
def evO (m : St) : Operand → V
  | .tmp t => m (.t t)
  | .const v => .d (.s v)
  | .global g => .d (.s (.pointer (some ⟨g, 0, none⟩)))
  | .func f => .fn f []

def lo : Operand → List Loc
  | .tmp t => [.t t]
  | _ => []

theorem evO_congr {m m' : St} {x : Operand} (h : ∀ l ∈ lo x, m' l = m l) : evO m' x = evO m x := by
  cases x with
  | tmp t => exact h _ (by simp [lo])
  | _ => rfl

theorem RR.ev {φ : Phi} {m : St} {a : Act} {w : World} (h : RR G φ m a w) (x : Operand) : RepV φ (okOf G φ m w) w (a.eval x) (evO m x) := by
  cases x with
  | tmp t => exact h.slots t
  | const v => exact .d (.s v)
  | global g => exact .d (.s _)
  | func f => exact .fn f #[] [] rfl (fun i v c h => by simp at h)

theorem ht_cond {c : Operand} {x y : Code} {Q : Exit → St → Prop} {m : St} {b : Bool} (hc : evO m c = .d (.s (.bool b))) (ht : b = true → HT P G x Q m) (hf : b = false → HT P G y Q m) : HT P G (.cond c x y) Q m := by
  intro a w hr
  obtain ⟨φ, h⟩ := hr
  have he := h.ev c
  rw [hc] at he
  have hb : a.eval c = .bool b := by
    generalize a.eval c = v at he ⊢
    cases he with | d hd => cases hd; rfl
  exact wp_cond_split hb (fun e => ht e a w ⟨φ, h⟩) (fun e => hf e a w ⟨φ, h⟩)

/-! ### Regions in the text's order -/
def SQ (P : Program) (ops : Array Oper) (G : Call0) : List Oper → (St → Prop) → St → Prop
  | [], K, m => K m
  | o :: r, K, m => ∀ a w, R G m a w → ∀ (Kc : Act → World → Prop) (Qc : Exit → Act → World → Prop), (∀ m' a' w', R G m' a' w' → SQ P ops G r K m' → Kc a' w') → opGo P ops Qc o Kc a w

theorem sq_nil {K : St → Prop} {m : St} (h : K m) : SQ P ops G [] K m := h

theorem sq_cons {o : Oper} {r : List Oper} {K : St → Prop} {m : St} (e : Eff) (hv : Valid P ops G o m e) (h : SQ P ops G r K (updL m e.wr)) : SQ P ops G (o :: r) K m :=
  fun a w hr Kc Qc hk => hv m (fun _ _ => rfl) a w hr Kc Qc (fun a' w' hr' => hk _ a' w' hr' h)

theorem wpOps_sq {Q : Exit → St → Prop} : ∀ (r : List Oper) (k : Nat), (∀ j, r[j]? = ops[k + j]?) → ∀ (m : St) (a : Act) (w : World), R G m a w → SQ P ops G r (Q .normal) m →
    wpOps P ops (fun e a' w' => ∃ m', R G m' a' w' ∧ Q e m') (List.range' k r.length) a w
  | [], _, _, m, a, w, hr, h => ⟨m, hr, h⟩
  | o :: r, k, hk, m, a, w, hr, h => by
    have h0 : ops[k]? = some o := by have := hk 0; simpa using this.symm
    rw [List.length_cons, List.range'_succ, wpOps_cons, wpOp_some h0]
    refine h a w hr _ _ (fun m' a' w' hr' h' => ?_)
    exact wpOps_sq r (k + 1) (fun j => by have := hk (j + 1); simpa [Nat.add_assoc, Nat.add_comm 1] using this) m' a' w' hr' h'

theorem ht_region {id : Nat} {Q : Exit → St → Prop} {m : St} (h : SQ P ops G ops.toList (Q .normal) m) : HT P G (.region id ops false) Q m := by
  intro a w hr
  refine wp_region ?_
  have := wpOps_sq (P := P) (ops := ops) (G := G) (Q := Q) ops.toList 0 (fun j => by simp) m a w hr h
  rwa [Array.length_toList, ← List.range_eq_range'] at this

/-! ### Regions in any order -/
theorem updL_notin {l : Loc} : ∀ {wr : List (Loc × V)} {m : St}, l ∉ wr.map (·.1) → updL m wr l = m l
  | [], _, _ => rfl
  | p :: r, m, h => by
    simp only [List.map_cons, List.mem_cons, not_or] at h
    rw [updL, updL_notin h.2, upd_ne _ _ h.1]

theorem updL_congr {l : Loc} : ∀ {wr : List (Loc × V)} {m m' : St}, m l = m' l → updL m wr l = updL m' wr l
  | [], _, _, h => h
  | p :: r, m, m', h => by
    rw [updL, updL]
    refine updL_congr ?_
    by_cases e : l = p.1
    · subst e; rw [upd_self, upd_self]
    · rw [upd_ne _ _ e, upd_ne _ _ e]; exact h

theorem updL_in {l : Loc} : ∀ {wr : List (Loc × V)} {m m' : St}, l ∈ wr.map (·.1) → updL m wr l = updL m' wr l
  | [], _, _, h => by simp at h
  | p :: r, m, m', h => by
    rw [updL, updL]
    by_cases e : l = p.1
    · exact updL_congr (by subst e; rw [upd_self, upd_self])
    · refine updL_in ?_
      simp only [List.map_cons, List.mem_cons] at h
      exact h.resolve_left e

def ml : List (List (Loc × V)) → Nat → (Nat → Bool) → St → St
  | [], _, _, m => m
  | wr :: r, i, L, m => ml r (i + 1) L (if L i then updL m wr else m)

theorem ml_agree {l : Loc} {L L' : Nat → Bool} : ∀ (es : List (List (Loc × V))) (i : Nat) (m m' : St), (∀ j wr, es[j]? = some wr → l ∈ wr.map (·.1) → L (i + j) = L' (i + j)) → m l = m' l → ml es i L m l = ml es i L' m' l
  | [], _, _, _, _, h => h
  | wr :: r, i, m, m', hd, h => by
    rw [ml, ml]
    refine ml_agree r (i + 1) _ _ (fun j wr' hj hl => by have := hd (j + 1) wr' (by simpa using hj) hl; rwa [show i + (j + 1) = i + 1 + j by omega] at this) ?_
    by_cases hl : l ∈ wr.map (·.1)
    · have e := hd 0 wr rfl hl
      simp only [Nat.add_zero] at e
      rw [e]
      split
      · exact updL_in hl
      · exact h
    · have e1 : (if L i then updL m wr else m) l = m l := by split <;> first | exact updL_notin hl | rfl
      have e2 : (if L' i then updL m' wr else m') l = m' l := by split <;> first | exact updL_notin hl | rfl
      rw [e1, e2]; exact h

theorem ml_none {l : Loc} {L : Nat → Bool} : ∀ (es : List (List (Loc × V))) (i : Nat) (m : St), (∀ j wr, es[j]? = some wr → l ∈ wr.map (·.1) → L (i + j) = false) → ml es i L m l = m l
  | [], _, _, _ => rfl
  | wr :: r, i, m, hd => by
    rw [ml, ml_none r (i + 1) _ (fun j wr' hj hl => by have := hd (j + 1) wr' (by simpa using hj) hl; rwa [show i + (j + 1) = i + 1 + j by omega] at this)]
    by_cases hl : l ∈ wr.map (·.1)
    · have e := hd 0 wr rfl hl
      simp only [Nat.add_zero] at e
      rw [e]; rfl
    · split <;> first | exact updL_notin hl | rfl

def on1 (L : Nat → Bool) (i : Nat) : Nat → Bool := fun j => if j = i then true else L j

theorem ml_take {l : Loc} {L : Nat → Bool} : ∀ (es : List (List (Loc × V))) (s k : Nat) (wr : List (Loc × V)) (m : St), es[k]? = some wr → L (s + k) = false →
    (∀ j wr', k < j → es[j]? = some wr' → l ∈ wr'.map (·.1) → l ∈ wr.map (·.1) → L (s + j) = false) → ml es s (on1 L (s + k)) m l = updL (ml es s L m) wr l
  | [], _, _, _, _, h, _, _ => by simp at h
  | w0 :: r, s, 0, wr, m, h, h0, hd => by
    simp only [List.getElem?_cons_zero, Option.some.injEq] at h
    subst h
    simp only [Nat.add_zero] at h0 ⊢
    rw [ml, ml, h0]
    have e1 : on1 L s s = true := by simp [on1]
    rw [e1]
    simp only [if_true, Bool.false_eq_true, if_false]
    have hL : ∀ j, on1 L s (s + 1 + j) = L (s + 1 + j) := fun j => by simp [on1]; omega
    by_cases hl : l ∈ w0.map (·.1)
    · rw [ml_none r (s + 1) (updL m w0) (fun j wr' hj hl' => by rw [hL]; have := hd (j + 1) wr' (by omega) (by simpa using hj) hl' hl; rwa [show s + (j + 1) = s + 1 + j by omega] at this)]
      exact updL_in hl
    · rw [updL_notin hl]
      exact ml_agree r (s + 1) _ _ (fun j _ _ _ => hL j) (updL_notin hl)
  | w0 :: r, s, k + 1, wr, m, h, h0, hd => by
    rw [ml, ml]
    have e1 : on1 L (s + (k + 1)) s = L s := by simp [on1]
    rw [e1]
    have := ml_take (l := l) (L := L) r (s + 1) k wr (if L s then updL m w0 else m) (by simpa using h) (by rwa [show s + 1 + k = s + (k + 1) by omega])
      (fun j wr' hk hj hl hl' => by have := hd (j + 1) wr' (by omega) (by simpa using hj) hl hl'; rwa [show s + 1 + j = s + (j + 1) by omega])
    rwa [show s + 1 + k = s + (k + 1) by omega] at this

abbrev LL := List (List Loc × List Loc)

def RG (P : Program) (ops : Array Oper) (G : Call0) : List Oper → LL → (LL → St → Prop) → St → Prop
  | [], acc, K, m => K acc m
  | o :: r, acc, K, m => ∃ e, Valid P ops G o m e ∧ RG P ops G r (acc ++ [(e.rd, e.wr.map (·.1))]) K (updL m e.wr)

theorem rg_nil {acc : LL} {K : LL → St → Prop} {m : St} (h : K acc m) : RG P ops G [] acc K m := h
theorem rg_cons {o : Oper} {r : List Oper} {acc : LL} {K : LL → St → Prop} {m : St} (e : Eff) (hv : Valid P ops G o m e) (h : RG P ops G r (acc ++ [(e.rd, e.wr.map (·.1))]) K (updL m e.wr)) : RG P ops G (o :: r) acc K m := ⟨e, hv, h⟩

def needs (o : Oper) : List Nat := (o.after.toList.filter (fun e => Region.binds .any e)).map (·.on)
/-- For each operation: what must have come up ahead of it, as bits. -/
def mask (acc : List Nat) : List Nat → Nat
  | [] => 0
  | j :: r => ((1 <<< j) ||| (acc[j]?.getD 0)) ||| mask acc r
def befs : List Oper → List Nat → List Nat
  | [], acc => acc
  | o :: r, acc => befs r (acc ++ [mask acc (needs o)])

theorem mask_bit (acc : List Nat) (x : Nat) : ∀ (l : List Nat), (mask acc l).testBit x = true → x ∈ l ∨ ∃ j ∈ l, (acc[j]?.getD 0).testBit x = true
  | [], h => by simp [mask] at h
  | j :: r, h => by
    rw [mask, Nat.testBit_or, Nat.testBit_or, Bool.or_eq_true, Bool.or_eq_true] at h
    rcases h with (h | h) | h
    · rw [Nat.testBit_shiftLeft, Bool.and_eq_true] at h
      have h1 : j ≤ x := by simpa using h.1
      have h2 : (1 : Nat).testBit (x - j) = true := h.2
      have : x - j = 0 := by
        rcases Nat.eq_zero_or_pos (x - j) with e | e
        · exact e
        · obtain ⟨n, hn⟩ : ∃ n, x - j = n + 1 := ⟨x - j - 1, by omega⟩
          rw [hn, Nat.testBit_succ] at h2
          simp at h2
      have e : x = j := by omega
      subst e; exact .inl (by simp)
    · exact .inr ⟨j, by simp, h⟩
    · rcases mask_bit acc x r h with h | ⟨k, h1, h2⟩
      · exact .inl (by simp [h])
      · exact .inr ⟨k, by simp [h1], h2⟩

def apartB (xs ys : List Loc) : Bool := xs.all fun l => ys.all fun y => !Loc.same l y
def pairB (B : List Nat) (acc : LL) (i j : Nat) : Bool :=
  (B[j]?.getD 0).testBit i || match acc[i]?, acc[j]? with
    | some p, some q => apartB p.2 q.1 && apartB q.2 p.1 && apartB p.2 q.2
    | _, _ => true
def chk (l : List Oper) (acc : LL) : Bool :=
  ((List.range l.length).all fun j => ((l[j]?.map needs).getD []).all (· < j)) &&
  ((List.range l.length).all fun j => (List.range j).all fun i => pairB (befs l []) acc i j)

def DC (l : List Oper) (L : Nat → Bool) : Prop := ∀ j o, l[j]? = some o → L j = true → ∀ x ∈ needs o, L x = true

theorem befs_ok (L : Nat → Bool) : ∀ (l : List Oper) (acc : List Nat), (∀ j o, l[j]? = some o → L (acc.length + j) = true → ∀ x ∈ needs o, L x = true) →
    (∀ (j : Nat) bs, acc[j]? = some bs → L j = true → ∀ x, bs.testBit x = true → L x = true) → ∀ (j : Nat) bs, (befs l acc)[j]? = some bs → L j = true → ∀ x, bs.testBit x = true → L x = true
  | [], _, _, h => h
  | o :: r, acc, hl, h => by
    rw [befs]
    refine befs_ok L r _ (fun j o' hj hL => hl (j + 1) o' (by simpa using hj) (by simp only [List.length_append, List.length_singleton] at hL; rwa [show acc.length + (j + 1) = acc.length + 1 + j by omega])) ?_
    intro j bs hj hL x hx
    by_cases hlt : j < acc.length
    · rw [List.getElem?_append_left hlt] at hj; exact h j bs hj hL x hx
    · rw [List.getElem?_append_right (by omega)] at hj
      have e : j - acc.length = 0 := by
        rcases Nat.eq_zero_or_pos (j - acc.length) with h0 | h0
        · exact h0
        · rw [List.getElem?_eq_none (by simp; omega)] at hj; cases hj
      rw [e] at hj
      simp only [List.getElem?_cons_zero, Option.some.injEq] at hj
      subst hj
      have hn := hl 0 o rfl (by rwa [show acc.length + 0 = j by omega])
      rcases mask_bit acc x _ hx with hx | ⟨y, hy, hx⟩
      · exact hn x hx
      · cases hq : acc[y]? with
        | none => rw [hq] at hx; simp at hx
        | some b => rw [hq] at hx; exact h y b hq (hn y hy) x hx

theorem befs_lt : ∀ (l : List Oper) (acc : List Nat), (∀ (j : Nat) o, l[j]? = some o → ∀ x ∈ needs o, x < acc.length + j) →
    (∀ (j : Nat) bs, acc[j]? = some bs → ∀ x, bs.testBit x = true → x < j) → ∀ (j : Nat) bs, (befs l acc)[j]? = some bs → ∀ x, bs.testBit x = true → x < j
  | [], _, _, h => h
  | o :: r, acc, hl, h => by
    rw [befs]
    refine befs_lt r _ (fun j o' hj x hx => by have := hl (j + 1) o' (by simpa using hj) x hx; simp only [List.length_append, List.length_singleton]; omega) ?_
    intro j bs hj x hx
    by_cases hlt : j < acc.length
    · rw [List.getElem?_append_left hlt] at hj; exact h j bs hj x hx
    · rw [List.getElem?_append_right (by omega)] at hj
      have e : j - acc.length = 0 := by
        rcases Nat.eq_zero_or_pos (j - acc.length) with h0 | h0
        · exact h0
        · rw [List.getElem?_eq_none (by simp; omega)] at hj; cases hj
      rw [e] at hj
      simp only [List.getElem?_cons_zero, Option.some.injEq] at hj
      subst hj
      have hn := hl 0 o rfl
      rcases mask_bit acc x _ hx with hx | ⟨y, hy, hx⟩
      · have := hn x hx; omega
      · cases hq : acc[y]? with
        | none => rw [hq] at hx; simp at hx
        | some b => rw [hq] at hx; have := h y b hq x hx; have := hn y hy; omega

theorem apartB_spec {xs ys : List Loc} (h : apartB xs ys = true) {l : Loc} (h1 : l ∈ xs) (h2 : l ∈ ys) : False := by
  have := List.all_eq_true.1 (List.all_eq_true.1 h l h1) l h2
  rw [(Loc.same_iff l l).2 rfl] at this
  simp at this

end

section
variable {P : Program} {ops : Array Oper} {G : Call0}

/-- What a walk in the text's order lays down. -/
structure Laid (P : Program) (ops : Array Oper) (G : Call0) (m0 : St) (es : List Eff) : Prop where
  len : es.length = ops.size
  valid : ∀ (j : Nat) (o : Oper) (e : Eff), ops[j]? = some o → es[j]? = some e → Valid P ops G o (ml (es.map (·.wr)) 0 (fun i => decide (i < j)) m0) e

theorem ml_append (L : Nat → Bool) : ∀ (a b : List (List (Loc × V))) (i : Nat) (m : St), ml (a ++ b) i L m = ml b (i + a.length) L (ml a i L m)
  | [], b, i, m => by simp [ml]
  | x :: a, b, i, m => by
    rw [List.cons_append, ml, ml, ml_append L a b, List.length_cons, show i + (a.length + 1) = i + 1 + a.length by omega]

theorem ml_off (L : Nat → Bool) : ∀ (b : List (List (Loc × V))) (i : Nat) (m : St), (∀ j, i ≤ j → L j = false) → ml b i L m = m
  | [], _, _, _ => rfl
  | x :: b, i, m, h => by rw [ml, h i (Nat.le_refl _)]; exact ml_off L b (i + 1) m (fun j hj => h j (by omega))

theorem ml_ext {L L' : Nat → Bool} : ∀ (b : List (List (Loc × V))) (i : Nat) (m : St), (∀ j, i ≤ j → j < i + b.length → L j = L' j) → ml b i L m = ml b i L' m
  | [], _, _, _ => rfl
  | x :: b, i, m, h => by
    rw [ml, ml, h i (Nat.le_refl _) (by simp)]
    exact ml_ext b (i + 1) _ (fun j hj hlt => h j (by omega) (by simp; omega))

theorem ml_upto (pre post : List (List (Loc × V))) (m : St) : ml (pre ++ post) 0 (fun i => decide (i < pre.length)) m = ml pre 0 (fun _ => true) m := by
  rw [ml_append, ml_off _ _ _ _ (fun j hj => by simp; omega)]
  exact ml_ext _ _ _ (fun j _ hj => by simp; omega)

theorem rg_laid {K : LL → St → Prop} {m0 : St} : ∀ (r : List Oper) (pre : List Eff) (m : St), (∀ j, r[j]? = ops[pre.length + j]?) → m = ml (pre.map (·.wr)) 0 (fun _ => true) m0 →
    (∀ (j : Nat) (o : Oper) (e : Eff), ops[j]? = some o → pre[j]? = some e → Valid P ops G o (ml ((pre.take j).map (·.wr)) 0 (fun _ => true) m0) e) →
    RG P ops G r (pre.map fun e => (e.rd, e.wr.map (·.1))) K m →
    ∃ es : List Eff, es.length = pre.length + r.length ∧ (∀ (j : Nat) (o : Oper) (e : Eff), ops[j]? = some o → es[j]? = some e → Valid P ops G o (ml ((es.take j).map (·.wr)) 0 (fun _ => true) m0) e) ∧
      K (es.map fun e => (e.rd, e.wr.map (·.1))) (ml (es.map (·.wr)) 0 (fun _ => true) m0)
  | [], pre, m, _, hm, hv, h => ⟨pre, by simp, hv, by subst hm; exact h⟩
  | o :: r, pre, m, hr, hm, hv, h => by
    obtain ⟨e, he, h⟩ := h
    have h0 : ops[pre.length]? = some o := by have := hr 0; simpa using this.symm
    have hm' : updL m e.wr = ml ((pre ++ [e]).map (·.wr)) 0 (fun _ => true) m0 := by
      rw [List.map_append, ml_append, ← hm]; simp [ml]
    obtain ⟨es, h1, h2, h3⟩ := rg_laid r (pre ++ [e]) (updL m e.wr) (fun j => by have := hr (j + 1); simpa [Nat.add_assoc, Nat.add_comm 1] using this) hm'
      (fun j o' e' hj hj' => by
        by_cases hlt : j < pre.length
        · rw [List.getElem?_append_left hlt] at hj'
          rw [List.take_append_of_le_length (by omega)]
          exact hv j o' e' hj hj'
        · rw [List.getElem?_append_right (by omega)] at hj'
          have e0 : j - pre.length = 0 := by
            rcases Nat.eq_zero_or_pos (j - pre.length) with h0 | h0
            · exact h0
            · rw [List.getElem?_eq_none (by simp; omega)] at hj'; cases hj'
          rw [e0] at hj'
          simp only [List.getElem?_cons_zero, Option.some.injEq] at hj'
          subst hj'
          have ej : j = pre.length := by omega
          subst ej
          rw [h0] at hj
          cases hj
          rw [List.take_left, ← hm]
          exact he)
      (by rw [List.map_append]; exact h)
    exact ⟨es, by rw [h1]; simp; omega, h2, h3⟩

theorem count_set : ∀ (l : List Bool) (i : Nat), l[i]? = some false → (l.set i true).count false + 1 = l.count false
  | [], _, h => by simp at h
  | b :: l, 0, h => by
    simp only [List.getElem?_cons_zero, Option.some.injEq] at h
    subst h
    simp
  | b :: l, i + 1, h => by
    have := count_set l i (by simpa using h)
    rw [List.set_cons_succ, List.count_cons, List.count_cons]
    omega

theorem chk_needs {l : List Oper} {acc : LL} (h : chk l acc = true) {j : Nat} {o : Oper} (ho : l[j]? = some o) {x : Nat} (hx : x ∈ needs o) : x < j := by
  unfold chk at h
  rw [Bool.and_eq_true] at h
  have hj : j < l.length := (List.getElem?_eq_some_iff.1 ho).1
  have := List.all_eq_true.1 h.1 j (List.mem_range.2 hj)
  rw [ho] at this
  simpa using List.all_eq_true.1 this x hx

theorem chk_pair {l : List Oper} {acc : LL} (h : chk l acc = true) {i j : Nat} (hij : i < j) (hj : j < l.length) : pairB (befs l []) acc i j = true := by
  unfold chk at h
  rw [Bool.and_eq_true] at h
  exact List.all_eq_true.1 (List.all_eq_true.1 h.2 j (List.mem_range.2 hj)) i (List.mem_range.2 hij)

/-- Whatever order is picked. -/
theorem any_order {Q : Exit → St → Prop} {m0 : St} {es : List Eff} (hlen : es.length = ops.size)
    (hv : ∀ (j : Nat) (o : Oper) (e : Eff), ops[j]? = some o → es[j]? = some e → Valid P ops G o (ml ((es.take j).map (·.wr)) 0 (fun _ => true) m0) e)
    (hc : chk ops.toList (es.map fun e => (e.rd, e.wr.map (·.1))) = true) (hq : Q .normal (ml (es.map (·.wr)) 0 (fun _ => true) m0)) :
    ∀ (fuel : Nat) (listed : Array Bool), listed.size = ops.size → listed.toList.count false = fuel → DC ops.toList (fun i => listed.getD i false) → ∀ (a : Act) (w : World),
      R G (ml (es.map (·.wr)) 0 (fun i => listed.getD i false) m0) a w → wpAny P .any ops (fun e a' w' => ∃ m', R G m' a' w' ∧ Q e m') fuel listed a w := by
  have hfull : ∀ (listed : Array Bool), listed.size = ops.size → (∀ i, i < ops.size → listed.getD i false = true) → ml (es.map (·.wr)) 0 (fun i => listed.getD i false) m0 = ml (es.map (·.wr)) 0 (fun _ => true) m0 := fun listed hs h =>
    ml_ext _ _ _ (fun j _ hj => h j (by simp only [List.length_map, Nat.zero_add] at hj; omega))
  have hready : ∀ (listed : Array Bool), listed.size = ops.size → Region.ready .any ops listed = [] → ∀ i, i < ops.size → listed.getD i false = true := by
    intro listed hs hr i
    induction i using Nat.strongRecOn with
    | _ i ih =>
      intro hi
      cases hli : listed.getD i false with
      | true => rfl
      | false =>
        exfalso
        have ho : ops[i]? = some ops[i] := by simp
        have hm : i ∈ Region.ready .any ops listed := by
          rw [mem_ready]
          refine ⟨?_, _, ho, fun e he hb => ?_⟩
          · rw [Array.getD_eq_getD_getElem?, Array.getElem?_eq_getElem (by omega)] at hli ⊢; simpa using hli
          · have hx : e.on ∈ needs ops[i] := by
              unfold needs
              exact List.mem_map.2 ⟨e, List.mem_filter.2 ⟨by simpa using he, hb⟩, rfl⟩
            have hlt := chk_needs hc (j := i) (o := ops[i]) (by rw [Array.getElem?_toList]; exact ho) hx
            exact ih e.on hlt (by omega)
        rw [hr] at hm; cases hm
  intro fuel
  induction fuel with
  | zero =>
    intro listed hs hcnt hdc a w hR
    have hall : ∀ i, i < ops.size → listed.getD i false = true := by
      intro i hi
      have hm : false ∉ listed.toList := by rw [← List.count_eq_zero]; exact hcnt
      rw [Array.getD_eq_getD_getElem?, Array.getElem?_eq_getElem (by omega)]
      cases hb : listed[i] with
      | true => rfl
      | false => exact absurd (by rw [← hb]; simp) hm
    refine ⟨?_, _, by rw [← hfull listed hs hall]; exact hR, hq⟩
    cases hr : Region.ready .any ops listed with
    | nil => rfl
    | cons i r =>
      have hm : i ∈ Region.ready .any ops listed := by rw [hr]; simp
      rw [mem_ready] at hm
      obtain ⟨h1, o, ho, _⟩ := hm
      have hi : i < ops.size := (Array.getElem?_eq_some_iff.1 ho).1
      have := hall i hi
      rw [Array.getD_eq_getD_getElem?, Array.getElem?_eq_getElem (by omega)] at this h1
      simp at this h1
      rw [this] at h1; cases h1
  | succ fuel ih =>
    intro listed hs hcnt hdc a w hR
    refine ⟨fun hr => ⟨_, by rw [← hfull listed hs (hready listed hs hr)]; exact hR, hq⟩, fun i hi => ?_⟩
    rw [mem_ready] at hi
    obtain ⟨hli, o, ho, hn⟩ := hi
    have hlt : i < ops.size := (Array.getElem?_eq_some_iff.1 ho).1
    have hli' : listed.getD i false = false := by
      rw [Array.getD_eq_getD_getElem?, Array.getElem?_eq_getElem (by omega)] at hli ⊢; simpa using hli
    have hoL : ops.toList[i]? = some o := by simpa using ho
    have hneeds : ∀ x ∈ needs o, listed.getD x false = true := by
      intro x hx
      unfold needs at hx
      obtain ⟨e, he, rfl⟩ := List.mem_map.1 hx
      obtain ⟨he, hb⟩ := List.mem_filter.1 he
      exact hn e (by simpa using he) hb
    obtain ⟨e, he⟩ : ∃ e, es[i]? = some e := ⟨es[i]'(by omega), by simp⟩
    rw [wpOp_some ho]
    have hbef : ∀ (j : Nat), j < ops.size → listed.getD j false = true → ∀ x, ((befs ops.toList [])[j]?.getD 0).testBit x = true → listed.getD x false = true := by
      intro j hj hLj x hx
      cases hb : (befs ops.toList [])[j]? with
      | none => rw [hb] at hx; simp at hx
      | some bs =>
        rw [hb] at hx
        exact befs_ok (fun i => listed.getD i false) ops.toList [] (fun j o hj hL => hdc j o hj (by simpa using hL)) (fun j bs h => by simp at h) j bs hb hLj x hx
    have hbefi : ∀ x, ((befs ops.toList [])[i]?.getD 0).testBit x = true → listed.getD x false = true := by
      intro x hx
      cases hb : (befs ops.toList [])[i]? with
      | none => rw [hb] at hx; simp at hx
      | some bs =>
        rw [hb] at hx
        have := befs_ok (on1 (fun i => listed.getD i false) i) ops.toList [] (fun j o' hj hL y hy => by
            simp only [List.length_nil, Nat.zero_add] at hL
            unfold on1 at hL ⊢
            by_cases hji : j = i
            · subst hji
              rw [hoL] at hj; cases hj
              have := hneeds y hy
              split <;> simp_all
            · rw [if_neg hji] at hL
              have := hdc j o' hj hL y hy
              split <;> simp_all) (fun j bs h => by simp at h) i bs hb (by simp [on1]) x hx
        unfold on1 at this
        by_cases hxi : x = i
        · subst hxi
          -- an operation isn't ahead of itself
          exfalso
          have hself : ∀ (j : Nat) bs, (befs ops.toList [])[j]? = some bs → ∀ y, bs.testBit y = true → y < j := by
            have := befs_lt ops.toList [] (fun j o' hj y hy => by simpa using chk_needs hc hj hy) (fun j bs h => by simp at h)
            exact this
          exact absurd (hself _ bs hb _ hx) (Nat.lt_irrefl _)
        · rw [if_neg hxi] at this; exact this
    -- comparable with i, or apart from it
    have hcmp : ∀ (j : Nat) (e' : Eff), j ≠ i → es[j]? = some e' → (∃ l, l ∈ e'.wr.map (·.1) ∧ (l ∈ e.rd ∨ l ∈ e.wr.map (·.1))) → (j < i ∧ listed.getD j false = true) ∨ (i < j ∧ listed.getD j false = false) := by
      intro j e' hji he' ⟨l, hl, hl'⟩
      have hj : j < ops.size := by have := (List.getElem?_eq_some_iff.1 he').1; omega
      rcases Nat.lt_or_gt_of_ne hji with h | h
      · have := chk_pair hc h (by simpa using hlt)
        unfold pairB at this
        rw [Bool.or_eq_true] at this
        rcases this with hb | hb
        · exact .inl ⟨h, hbefi j (by simpa using hb)⟩
        · rw [List.getElem?_map, List.getElem?_map, he, he'] at hb
          simp only [Option.map_some, Bool.and_eq_true] at hb
          rcases hl' with hl' | hl'
          · exact (apartB_spec hb.1.1 hl hl').elim
          · exact (apartB_spec hb.2 hl hl').elim
      · have := chk_pair hc h (by simpa using hj)
        unfold pairB at this
        rw [Bool.or_eq_true] at this
        rcases this with hb | hb
        · refine .inr ⟨h, ?_⟩
          cases hLj : listed.getD j false with
          | false => rfl
          | true =>
            have := hbef j hj hLj i (by simpa using hb)
            rw [hli'] at this; cases this
        · rw [List.getElem?_map, List.getElem?_map, he, he'] at hb
          simp only [Option.map_some, Bool.and_eq_true] at hb
          rcases hl' with hl' | hl'
          · exact (apartB_spec hb.1.2 hl hl').elim
          · exact (apartB_spec hb.2 hl' hl).elim
    have hvalid := hv i o e ho he
    rw [List.map_take] at hvalid
    have hagree : ∀ l ∈ e.rd, ml (es.map (·.wr)) 0 (fun i => listed.getD i false) m0 l = ml ((es.map (·.wr)).take i) 0 (fun _ => true) m0 l := by
      intro l hl
      have e1 : ml ((es.map (·.wr)).take i) 0 (fun _ => true) m0 = ml (es.map (·.wr)) 0 (fun j => decide (j < i)) m0 := by
        have := ml_upto ((es.map (·.wr)).take i) ((es.map (·.wr)).drop i) m0
        rw [List.take_append_drop, List.length_take, List.length_map, Nat.min_eq_left (by omega)] at this
        exact this.symm
      rw [e1]
      refine ml_agree _ _ _ _ (fun j wr hj hlw => ?_) rfl
      rw [List.getElem?_map, Option.map_eq_some_iff] at hj
      obtain ⟨e', he', rfl⟩ := hj
      simp only [Nat.zero_add]
      by_cases hji : j = i
      · subst hji; rw [hli']; simp
      · rcases hcmp j e' hji he' ⟨l, hlw, .inl hl⟩ with ⟨h1, h2⟩ | ⟨h1, h2⟩
        · rw [h2]; simp [h1]
        · rw [h2]; simp; omega
    refine hvalid _ hagree a w hR _ _ (fun a' w' hR' => ?_)
    refine ih (listed.setIfInBounds i true) (by simp [hs]) ?_ ?_ a' w' ?_
    · have := count_set listed.toList i (by rw [Array.getElem?_toList, Array.getElem?_eq_getElem (by omega)]; rw [Array.getD_eq_getD_getElem?, Array.getElem?_eq_getElem (by omega)] at hli'; simpa using hli')
      rw [Array.toList_setIfInBounds]
      omega
    · intro j o' hj hL x hx
      by_cases hji : j = i
      · subst hji
        rw [hoL] at hj; cases hj
        exact getD_set_true (hneeds x hx)
      · have hL' : (listed.setIfInBounds i true).getD j false = true := hL
        rw [getD_set_ne _ (Ne.symm hji)] at hL'
        exact getD_set_true (hdc j o' hj hL' x hx)
    · have : ml (es.map (·.wr)) 0 (fun j => (listed.setIfInBounds i true).getD j false) m0 = updL (ml (es.map (·.wr)) 0 (fun i => listed.getD i false) m0) e.wr := by
        funext l
        have hon : (fun j => (listed.setIfInBounds i true).getD j false) = on1 (fun i => listed.getD i false) (0 + i) := by
          funext j
          unfold on1
          rw [Nat.zero_add]
          by_cases hji : j = i
          · subst hji
            rw [if_pos rfl, Array.getD_eq_getD_getElem?, Array.getElem?_setIfInBounds_self_of_lt (by omega)]; rfl
          · rw [if_neg hji, getD_set_ne _ (Ne.symm hji)]
        rw [hon]
        refine ml_take _ 0 i e.wr m0 (by rw [List.getElem?_map, he]; rfl) (by simpa using hli') (fun j wr hij hj hl hl' => ?_)
        rw [List.getElem?_map, Option.map_eq_some_iff] at hj
        obtain ⟨e', he', rfl⟩ := hj
        simp only [Nat.zero_add]
        rcases hcmp j e' (by omega) he' ⟨l, hl, .inr hl'⟩ with ⟨h1, h2⟩ | ⟨h1, h2⟩
        · omega
        · exact h2
      rw [this]; exact hR'

theorem ht_region_draw {id : Nat} {Q : Exit → St → Prop} {m : St} (hm : P.follows .mixedOrders = true)
    (h : RG P ops G ops.toList [] (fun acc m' => chk ops.toList acc = true ∧ Q .normal m') m) : HT P G (.region id ops true) Q m := by
  intro a w hr
  obtain ⟨es, h1, h2, h3, h4⟩ := rg_laid (m0 := m) ops.toList [] m (fun j => by simp) rfl (fun j o e _ h => by simp at h) h
  refine wp_region_any hm ?_
  have hlen : es.length = ops.size := by simpa using h1
  obtain ⟨φ, hr⟩ := hr
  refine any_order hlen h2 h3 h4 ops.size (Array.replicate ops.size false) (by simp) (by simp) (fun j o _ h => by simp [Array.getD_eq_getD_getElem?, Array.getElem?_replicate] at h; split at h <;> simp at h) a _ ?_
  have : ml (es.map (·.wr)) 0 (fun i => (Array.replicate ops.size false).getD i false) m = m := by
    refine ml_off _ _ _ _ (fun j _ => ?_)
    simp [Array.getD_eq_getD_getElem?, Array.getElem?_replicate]
    split <;> rfl
  rw [this]
  exact ⟨φ, hr.grow (below_drawn _)⟩
end

end Go.Awp
