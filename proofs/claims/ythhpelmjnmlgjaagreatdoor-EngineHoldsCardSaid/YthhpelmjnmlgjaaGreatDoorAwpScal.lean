/- What the operations on plain values answer; operations under a guard that is not known. No program in sight. -/
import Derived.Test.YthhpelmjnmlgjaaGreatDoorAwpRen
set_option linter.unusedSimpArgs false
set_option linter.unusedVariables false
namespace Go.Awp
open Go.RowKit

abbrev nV (k : IntKind) (n : Int) : V := .d (.s (.int k n))
abbrev iV (n : Int) : V := .d (.s (.int .i64 n))
abbrev bV (b : Bool) : V := .d (.s (.bool b))
abbrev sV (s : ByteArray) : V := .d (.s (.string s))
abbrev uV : V := .d (.s (.tuple #[]))
/-- There if the guard let it. -/
abbrev mg (c : Bool) (X : V) : V := bif c then X else uV

def andI (k : IntKind) (a b : Int) : Int := k.wrap (BitVec.ofInt k.bits a &&& BitVec.ofInt k.bits b).toNat
def orI (k : IntKind) (a b : Int) : Int := k.wrap (BitVec.ofInt k.bits a ||| BitVec.ofInt k.bits b).toNat
def xorI (k : IntKind) (a b : Int) : Int := k.wrap (BitVec.ofInt k.bits a ^^^ BitVec.ofInt k.bits b).toNat
def notI (k : IntKind) (a : Int) : Int := xorI k (if k.signed then -1 else k.max) a
def ltI (a b : Int) : Bool := decide (a < b)
def leI (a b : Int) : Bool := decide (a ≤ b)
def eqI (a b : Int) : Bool := a == b
def strLt (a b : ByteArray) : Bool := Op.bytesLess a.toList b.toList
def bnd {α β : Type} (x : α) (f : α → β) : β := f x

theorem bndp {α β : Type} {x : α} {f : α → β} {r : β} (h : bnd x f = r) : ∃ y, x = y ∧ f y = r := ⟨x, rfl, h⟩

section
variable {P : Program} {ops : Array Oper} {G : Call0} {o : Oper} {m : St} {T : TypeId} {x y : Operand} {k : IntKind} {a b : Int}

abbrev BR (P : Program) (op : BinOp) (T : TypeId) (x y : Operand) (u v r : Value) : Prop := ∀ w, (do eqGuard op T x y u v; binOp op T u v : Sem Value).run P w = .ok r w

theorem b_add {r : Int} (hr : k.wrap (a + b) = r) : BR P .add T x y (.int k a) (.int k b) (.int k r) := fun w => by subst hr; simp [eqGuard, binOp, Op.intArith]
theorem b_sub {r : Int} (hr : k.wrap (a - b) = r) : BR P .sub T x y (.int k a) (.int k b) (.int k r) := fun w => by subst hr; simp [eqGuard, binOp, Op.intArith]
theorem b_mul {r : Int} (hr : k.wrap (a * b) = r) : BR P .mul T x y (.int k a) (.int k b) (.int k r) := fun w => by subst hr; simp [eqGuard, binOp, Op.intArith]
theorem b_quo {r : Int} (hb : eqI b 0 = false) (hr : k.wrap (a.tdiv b) = r) : BR P .quo T x y (.int k a) (.int k b) (.int k r) := fun w => by
  subst hr; have : b ≠ 0 := by simpa [eqI] using hb
  simp [eqGuard, binOp, Op.intDiv, this]
theorem b_rem {r : Int} (hb : eqI b 0 = false) (hr : a.tmod b = r) : BR P .rem T x y (.int k a) (.int k b) (.int k r) := fun w => by
  subst hr; have : b ≠ 0 := by simpa [eqI] using hb
  simp [eqGuard, binOp, Op.intDiv, this]
theorem b_and {r : Int} (hr : andI k a b = r) : BR P .and T x y (.int k a) (.int k b) (.int k r) := fun w => by subst hr; simp [eqGuard, binOp, Op.intBits, andI]
theorem b_or {r : Int} (hr : orI k a b = r) : BR P .or T x y (.int k a) (.int k b) (.int k r) := fun w => by subst hr; simp [eqGuard, binOp, Op.intBits, orI]
theorem b_xor {r : Int} (hr : xorI k a b = r) : BR P .xor T x y (.int k a) (.int k b) (.int k r) := fun w => by subst hr; simp [eqGuard, binOp, Op.intBits, xorI]
theorem b_shl {k' : IntKind} {r : Int} (hb : leI 0 b = true) (hr : shlI k a b = r) : BR P .shl T x y (.int k a) (.int k' b) (.int k r) := fun w => by
  subst hr; have : ¬ b < 0 := by have := of_decide_eq_true hb; omega
  simp [eqGuard, binOp, Op.shift, this, shlI]
theorem b_shr {k' : IntKind} {r : Int} (hb : leI 0 b = true) (hr : shrI k a b = r) : BR P .shr T x y (.int k a) (.int k' b) (.int k r) := fun w => by
  subst hr; have : ¬ b < 0 := by have := of_decide_eq_true hb; omega
  simp [eqGuard, binOp, Op.shift, this, shrI]
theorem b_eql {r : Bool} (hr : eqI a b = r) : BR P .eql T x y (.int k a) (.int k b) (.bool r) := fun w => by subst hr; simp [eqGuard, binOp, Op.intCmp, eqI]
theorem b_neq {r : Bool} (hr : (!eqI a b) = r) : BR P .neq T x y (.int k a) (.int k b) (.bool r) := fun w => by subst hr; simp [eqGuard, binOp, Op.intCmp, eqI]; rfl
theorem b_lss {r : Bool} (hr : ltI a b = r) : BR P .lss T x y (.int k a) (.int k b) (.bool r) := fun w => by subst hr; simp [eqGuard, binOp, Op.intCmp, ltI]
theorem b_leq {r : Bool} (hr : leI a b = r) : BR P .leq T x y (.int k a) (.int k b) (.bool r) := fun w => by subst hr; simp [eqGuard, binOp, Op.intCmp, leI]
theorem b_gtr {r : Bool} (hr : ltI b a = r) : BR P .gtr T x y (.int k a) (.int k b) (.bool r) := fun w => by subst hr; simp [eqGuard, binOp, Op.intCmp, ltI]
theorem b_geq {r : Bool} (hr : leI b a = r) : BR P .geq T x y (.int k a) (.int k b) (.bool r) := fun w => by subst hr; simp [eqGuard, binOp, Op.intCmp, leI]

theorem b_cat {s t r : ByteArray} (h : catOK s t = true) (hr : s ++ t = r) : BR P .add T x y (.string s) (.string t) (.string r) := fun w => by subst hr; exact r_cat h w
theorem b_eqS {s t : ByteArray} {r : Bool} (hr : strEq s t = r) : BR P .eql T x y (.string s) (.string t) (.bool r) := fun w => by subst hr; simp [eqGuard, binOp, Op.stringOp, strEq]
theorem b_neS {s t : ByteArray} {r : Bool} (hr : (!strEq s t) = r) : BR P .neq T x y (.string s) (.string t) (.bool r) := fun w => by subst hr; simp [eqGuard, binOp, Op.stringOp, strEq]
theorem b_ltS {s t : ByteArray} {r : Bool} (hr : strLt s t = r) : BR P .lss T x y (.string s) (.string t) (.bool r) := fun w => by subst hr; simp [eqGuard, binOp, Op.stringOp, strLt]
theorem b_leS {s t : ByteArray} {r : Bool} (hr : (strLt s t || strEq s t) = r) : BR P .leq T x y (.string s) (.string t) (.bool r) := fun w => by subst hr; simp [eqGuard, binOp, Op.stringOp, strLt, strEq]
theorem b_gtS {s t : ByteArray} {r : Bool} (hr : (!(strLt s t || strEq s t)) = r) : BR P .gtr T x y (.string s) (.string t) (.bool r) := fun w => by subst hr; simp [eqGuard, binOp, Op.stringOp, strLt, strEq]
theorem b_geS {s t : ByteArray} {r : Bool} (hr : (!strLt s t) = r) : BR P .geq T x y (.string s) (.string t) (.bool r) := fun w => by subst hr; simp [eqGuard, binOp, Op.stringOp, strLt]
theorem run_eqB {s t : Bool} (hT : P.underlying T = some .bool) (d : Nat) (w : World) : (Op.equalIn (d + 1) T (.bool s) (.bool t)).run P w = .ok (s == t) w := by
  have h1 := run_underlying hT w
  unfold Op.equalIn
  rw [Sem.run_bind, h1]
  rfl
theorem b_eqB {s t r : Bool} (hT : P.underlying T = some .bool) (hr : (s == t) = r) : BR P .eql T x y (.bool s) (.bool t) (.bool r) := fun w => by
  subst hr
  have h1 := run_eqB (s := s) (t := t) hT 9999 w
  show ((do pure (.bool (← Op.equalIn (9999 + 1) T (.bool s) (.bool t))) : Sem Value).run P w) = _
  rw [Sem.run_bind, h1]; rfl
theorem b_neB {s t r : Bool} (hT : P.underlying T = some .bool) (hr : (!(s == t)) = r) : BR P .neq T x y (.bool s) (.bool t) (.bool r) := fun w => by
  subst hr
  have h1 := run_eqB (s := s) (t := t) hT 9999 w
  show ((do pure (.bool (!(← Op.equalIn (9999 + 1) T (.bool s) (.bool t)))) : Sem Value).run P w) = _
  rw [Sem.run_bind, h1]; rfl

theorem u_not {s r : Bool} (hr : (!s) = r) : ∀ w, (Op.unary .not (.bool s)).run P w = .ok (.bool r) w := fun w => by subst hr; simp [Op.unary]
theorem u_neg {r : Int} (hr : k.wrap (0 - a) = r) : ∀ w, (Op.unary .neg (.int k a)).run P w = .ok (.int k r) w := fun w => by subst hr; simp [Op.unary, Op.intArith]
theorem u_xor {r : Int} (hr : notI k a = r) : ∀ w, (Op.unary .xor (.int k a)).run P w = .ok (.int k r) w := fun w => by subst hr; simp [Op.unary, Op.intBits, notI, xorI]

theorem c_int {k' : IntKind} {S T : TypeId} {d : TypeDesc} {r : Int} (hS : P.underlying S = some d) (hT : P.underlying T = some (.int k')) (hr : k'.wrap a = r) : ∀ w, (convert S T (.int k a)).run P w = .ok (.int k' r) w := fun w => by
  subst hr
  have h1 := run_underlying hS w
  have h2 := run_underlying hT w
  simp [convert, h1, h2, Result.andThen, Conv.intToInt]

theorem i_str {s : ByteArray} {r : Int} (hT : P.underlying T = some .string) (h : inR a s.size = true) (hr : bt s a = r) : ∀ w, (Instr.index T (.string s) (.int k a)).run P w = .ok (.int .u8 r) w := fun w => by subst hr; exact r_idx hT h w

/-! ### Under a guard -/
theorem Valid.more {rd rd' : List Loc} {wr : List (Loc × V)} (h : Valid P ops G o m ⟨rd, wr⟩) (hs : ∀ l ∈ rd, l ∈ rd') : Valid P ops G o m ⟨rd', wr⟩ := fun m' hm => h m' fun l hl => hm l (hs l hl)

theorem v_pass {j t d : Nat} {b : Bool} {X : V} (hgd : o.guard = some (j, b)) (hj : (ops[j]?).bind (·.dst) = some t) (ht : m (.t t) = X) (hX : X = bV (!b) ∨ X = uV) (hdst : o.dst = some d) (hd : d < G.nt) :
    Valid P ops G o m ⟨[.t t], [(.t d, uV)]⟩ := by
  intro m' hm a w hr K Q hK
  obtain ⟨φ, hr⟩ := hr
  have hmt : m' (.t t) = X := by rw [hm _ (by simp)]; exact ht
  have hy : Region.wanted o (yielded ops a.tmps) = false := by
    unfold Region.wanted
    rw [hgd]
    rcases hX with e | e
    · have h1 := hr.bool (m := m') (t := t) (b := !b) (by rw [hmt, e])
      cases b <;> simp_all [yielded]
    · have h1 := hr.slots t
      rw [hmt, e] at h1
      generalize hv : a.tmps.getD t undef = v at h1
      cases h1 with
      | d hd =>
        cases hd
        rw [Array.getD_eq_getD_getElem?] at hv
        cases hq : a.tmps[t]? with
        | none => simp [yielded, hj, hq]
        | some u => rw [hq] at hv; simp at hv; subst hv; simp [yielded, hj, hq]
  unfold opGo
  rw [if_neg (by rw [hy]; simp)]
  refine hK _ _ ⟨φ, ?_⟩
  rw [hdst]
  exact hr.put d hd (.d (.s _))

theorem v_cT {j t d : Nat} {c : Bool} {X : V} {rd : List Loc} (hgd : o.guard = some (j, true)) (hj : (ops[j]?).bind (·.dst) = some t) (hdst : o.dst = some d) (hd : d < G.nt) (ht : m (.t t) = bV c) (h1 : c = true → Valid P ops G o m ⟨rd, [(.t d, X)]⟩) :
    Valid P ops G o m ⟨.t t :: rd, [(.t d, mg c X)]⟩ := by
  cases c with
  | true => exact (h1 rfl).more fun l hl => by simp [hl]
  | false => exact (v_pass hgd hj ht (.inl rfl) hdst hd).more fun l hl => by simp at hl; simp [hl]

theorem v_cF {j t d : Nat} {c : Bool} {X : V} {rd : List Loc} (hgd : o.guard = some (j, false)) (hj : (ops[j]?).bind (·.dst) = some t) (hdst : o.dst = some d) (hd : d < G.nt) (ht : m (.t t) = bV c) (h1 : c = false → Valid P ops G o m ⟨rd, [(.t d, X)]⟩) :
    Valid P ops G o m ⟨.t t :: rd, [(.t d, mg (!c) X)]⟩ := by
  cases c with
  | false => exact (h1 rfl).more fun l hl => by simp [hl]
  | true => exact (v_pass hgd hj ht (.inl rfl) hdst hd).more fun l hl => by simp at hl; simp [hl]

theorem v_mT {j t d : Nat} {g c : Bool} {X : V} {rd : List Loc} (hgd : o.guard = some (j, true)) (hj : (ops[j]?).bind (·.dst) = some t) (hdst : o.dst = some d) (hd : d < G.nt) (ht : m (.t t) = mg g (bV c)) (h1 : g = true → c = true → Valid P ops G o m ⟨rd, [(.t d, X)]⟩) :
    Valid P ops G o m ⟨.t t :: rd, [(.t d, mg (g && c) X)]⟩ := by
  cases g with
  | true =>
    cases c with
    | true => exact (h1 rfl rfl).more fun l hl => by simp [hl]
    | false => exact (v_pass hgd hj ht (.inl rfl) hdst hd).more fun l hl => by simp at hl; simp [hl]
  | false => exact (v_pass hgd hj ht (.inr rfl) hdst hd).more fun l hl => by simp at hl; simp [hl]

theorem v_mF {j t d : Nat} {g c : Bool} {X : V} {rd : List Loc} (hgd : o.guard = some (j, false)) (hj : (ops[j]?).bind (·.dst) = some t) (hdst : o.dst = some d) (hd : d < G.nt) (ht : m (.t t) = mg g (bV c)) (h1 : g = true → c = false → Valid P ops G o m ⟨rd, [(.t d, X)]⟩) :
    Valid P ops G o m ⟨.t t :: rd, [(.t d, mg (g && !c) X)]⟩ := by
  cases g with
  | true =>
    cases c with
    | false => exact (h1 rfl rfl).more fun l hl => by simp [hl]
    | true => exact (v_pass hgd hj ht (.inl rfl) hdst hd).more fun l hl => by simp at hl; simp [hl]
  | false => exact (v_pass hgd hj ht (.inr rfl) hdst hd).more fun l hl => by simp at hl; simp [hl]

theorem gv {c : Bool} {X : V} (e : c = true) : mg c X = X := by rw [e]; rfl
theorem bm {g c b : Bool} (e : g = true) (e2 : c = b) : mg g (bV c) = bV b := by rw [e, e2]; rfl
theorem aT {a b : Bool} (h : a = true) (h2 : b = true) : (a && b) = true := by rw [h, h2]; rfl
theorem nF {a : Bool} (h : a = false) : (!a) = true := by rw [h]; rfl
theorem nT {a : Bool} (h : a = true) : (!a) = false := by rw [h]; rfl
theorem orT {a b : Bool} (h : (!a || b) = true) (e : a = true) : b = true := by rw [e] at h; exact h

theorem v_pickB {d : Nat} {c x y : Operand} {b vx vy r : Bool} (hop : o.op = .pick c x y) (hg : GOn ops o m) (hdst : o.dst = some d) (hd : d < G.nt) (hc : evO m c = bV b) (hx : b = true → evO m x = bV vx) (hy : b = false → evO m y = bV vy) (hr : (bif b then vx else vy) = r) :
    Valid P ops G o m ⟨gloc ops o ++ (lo c ++ (lo x ++ lo y)), [(.t d, bV r)]⟩ := by
  subst hr
  cases b with
  | true => exact (v_pick (b := true) hop hg hdst hd hc (hx rfl)).more fun l hl => by simp at hl ⊢; rcases hl with h | h | h <;> simp [h]
  | false => exact (v_pick (b := false) hop hg hdst hd hc (hy rfl)).more fun l hl => by simp at hl ⊢; rcases hl with h | h | h <;> simp [h]

/-! ### Joining, looping -/
theorem ht_join {X : Type} {c y : Code} {Q : Exit → St → Prop} {m : St} (hd : X → St) (f : X → Prop) (hJ : ∀ v, f v → HT P G y Q (hd v)) (hx : ∀ K : St → Prop, (∀ v m', f v → Wk G m' (hd v) → K m') → HT P G c (thenQ K Q) m) : HT P G (.seq c y) Q m :=
  ht_seq (hx _ fun v m' hv hw => fun a w hr => hJ v hv a w (hw a w hr))

theorem ht_rounds {X α : Type} {c : Code} {Q : Exit → St → Prop} (hd : X → St) (l : Nat → X → Option α) (res : α) (hz : ∀ x, l 0 x = none)
    (step : ∀ k x, l (k + 1) x = some res → ∀ K : St → Prop, (∀ x' m', l k x' = some res → Wk G m' (hd x') → K m') → HT P G c (thenQ K Q) (hd x)) (k : Nat) (x : X) (m : St) (h : l k x = some res) (hw : Wk G m (hd x)) : HT P G (.loop c) Q m := by
  refine ht_loop (X := { p : Nat × X // l p.1 p.2 = some res }) (fun p => hd p.1.2) (fun p => p.1.1) ⟨(k, x), h⟩ hw ?_
  rintro ⟨⟨k, x⟩, hx⟩
  cases k with
  | zero => rw [hz] at hx; cases hx
  | succ k => exact step k x hx _ fun x' m' h' hw' => ⟨⟨(k, x'), h'⟩, hw', Nat.lt_succ_self k⟩

def LR.go {R V : Type} (t : LR R V) (f : V → Option R) : Option R := match t with
  | .ret r => some r
  | .out v => f v
def LR.go' {R R' V : Type} (t : LR R V) (g : R → R') (f : V → Option R') : Option R' := match t with
  | .ret r => some (g r)
  | .out v => f v
end
end Go.Awp
