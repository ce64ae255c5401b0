/- Steps over typed lists; loops by rounds; small words for printed walks. No program in sight. -/
import Derived.Test.YthhpelmjnmlgjaaGreatDoorAwpTell
set_option linter.unusedSimpArgs false
set_option linter.unusedVariables false
namespace Go.Awp
open Go.RowKit

theorem ble (a b : Nat) (h : Nat.ble a b = true) : a ≤ b := Nat.le_of_ble_eq_true h
theorem be {c b : Bool} (e : c = b) : V.d (.s (.bool c)) = V.d (.s (.bool b)) := by rw [e]

/-- How a loop ends: the function hands back, or what follows goes on. -/
inductive LR (R V : Type) where
  | ret (r : R)
  | out (v : V)

theorem cpos {α : Type} {c : Bool} {a b r : α} (e : c = true) (h : (bif c then a else b) = r) : a = r := by rw [e] at h; exact h
theorem cneg {α : Type} {c : Bool} {a b r : α} (e : c = false) (h : (bif c then a else b) = r) : b = r := by rw [e] at h; exact h
theorem gpos {α : Type} {c : Bool} {a : Option α} {r : α} (h : (bif c then a else none) = some r) : c = true ∧ a = some r := by
  cases c with
  | true => exact ⟨rfl, h⟩
  | false => cases h
theorem bpos {α β : Type} {a : Option α} {f : α → Option β} {r : β} (h : a.bind f = some r) : ∃ x, a = some x ∧ f x = some r := Option.bind_eq_some_iff.1 h

def w64 (n : Int) : Int := IntKind.i64.wrap n
def inR (i : Int) (n : Nat) : Bool := decide (0 ≤ i ∧ i < (n : Int))
def rd {α : Type} [Inhabited α] (l : List α) (i : Int) : α := l.getD i.toNat default
def bt (s : ByteArray) (i : Int) : Int := ((s[i.toNat]?).getD 0).toNat
def strEq (a b : ByteArray) : Bool := a.toList == b.toList
def catOK (a b : ByteArray) : Bool := decide (a.size + b.size ≤ 9223372036854775807)
def appOK (bytes n m : Nat) : Bool := decide ((n + m) * bytes ≤ 140737488355328 ∧ n + m ≤ 9223372036854775807)
def cutOK (l h n : Int) : Bool := decide (0 ≤ l ∧ l ≤ h ∧ h ≤ n)
def shrI (k : IntKind) (x y : Int) : Int := x.fdiv (2 ^ min y.toNat k.bits)
def shlI (k : IntKind) (x y : Int) : Int := k.wrap (x * 2 ^ min y.toNat k.bits)

theorem inR_spec {i : Int} {n : Nat} (h : inR i n = true) : 0 ≤ i ∧ i < (n : Int) := of_decide_eq_true h

theorem rd_at {α β : Type} [Inhabited α] {l : List α} {i : Int} (f : α → β) (h : inR i l.length = true) : (l.map f)[i.toNat]? = some (f (rd l i)) := by
  obtain ⟨h0, h1⟩ := inR_spec h
  have hlt : i.toNat < l.length := by omega
  rw [List.getElem?_map, List.getElem?_eq_getElem hlt, Option.map_some, rd, List.getD_eq_getElem?_getD, List.getElem?_eq_getElem hlt]; rfl

def eI (k : IntKind) (n : Int) : List D := [.s (.int k n)]
def eB (b : Bool) : List D := [.s (.bool b)]
def eS (s : ByteArray) : List D := [.s (.string s)]

section
variable {P : Program} {ops : Array Oper} {G : Call0} {o : Oper} {m : St}

/-! ### Plain values -/
theorem r_cat {x y : ByteArray} {T : TypeId} {a b : Operand} (h : catOK x y = true) : ∀ w, (do eqGuard .add T a b (.string x) (.string y); binOp .add T (.string x) (.string y) : Sem Value).run P w = .ok (.string (x ++ y)) w := fun w => by
  have h1 : ¬ (((x.size + y.size : Nat) : Int) > IntKind.i64.max) := by
    have := of_decide_eq_true h
    simp only [IntKind.max, IntKind.signed, IntKind.bits]
    simp
    omega
  simp only [eqGuard, binOp, Op.stringOp, if_neg h1]
  rfl

theorem r_idx {s : ByteArray} {T : TypeId} {k : IntKind} {i : Int} (hT : P.underlying T = some .string) (h : inR i s.size = true) : ∀ w, (Instr.index T (.string s) (.int k i)).run P w = .ok (.int .u8 (bt s i)) w := fun w => by
  obtain ⟨h0, h1⟩ := inR_spec h
  have hlt : i.toNat < s.size := by omega
  simp only [Instr.index, asIntOf, Sem.run_bind, Sem.run_pure, Result.andThen_ok, run_underlying hT, if_pos h0]
  simp [bt, hlt, getElem?_pos s i.toNat hlt]

/-! ### Lists -/
theorem w_len {α : Type} {d k : Nat} {T e : TypeId} {x : Operand} {c : Call} (l : List α) (f : α → List D) (hop : o.op = .call c) (hc : c = { callee := .builtin .len, args := #[x], argTypes := #[T] }) (hg : GOn ops o m) (hdst : o.dst = some d) (hd : d < G.nt)
    (hT : SliceT P T e k) (hx : evO m x = .d (.sl k (l.map f))) : Valid P ops G o m ⟨gloc ops o ++ lo x, [(.t d, .d (.s (.int .i64 l.length)))]⟩ := by
  have := v_len_sl hop hc hg hdst hd hT.und hx
  rwa [List.length_map] at this

theorem w_idx {α : Type} [Inhabited α] {d T e k : Nat} {x y : Operand} {i : Int} {ik : IntKind} (l : List α) (f : α → List D) (hop : o.op = .indexAddr T x y) (hg : GOn ops o m) (hdst : o.dst = some d) (hd : d < G.nt) (hT : SliceT P T e k)
    (hx : evO m x = .d (.sl k (l.map f))) (hy : evO m y = .d (.s (.int ik i))) (h : inR i l.length = true) : Valid P ops G o m ⟨gloc ops o ++ (lo x ++ lo y), [(.t d, .d (.dp (f (rd l i))))]⟩ :=
  v_index_sl hop hg hdst hd hT hx hy (inR_spec h).1 (rd_at f h)

theorem w_idx_own {α : Type} {d T e k id : Nat} {x y : Operand} {i : Int} {ik : IntKind} (l : List α) (hop : o.op = .indexAddr T x y) (hg : GOn ops o m) (hdst : o.dst = some d) (hd : d < G.nt) (hT : SliceT P T e k)
    (hx : evO m x = .own id k l.length) (hy : evO m y = .d (.s (.int ik i))) (h : inR i l.length = true) : Valid P ops G o m ⟨gloc ops o ++ (lo x ++ lo y), [(.t d, .elp id k i.toNat 0)]⟩ :=
  v_index_own hop hg hdst hd hT hx hy (inR_spec h).1 (inR_spec h).2

theorem w_st_elp {α : Type} [Inhabited α] {T id k off : Nat} {i : Int} {e : TypeId} {x y : Operand} {Y : V} (l : List α) (f : α → List D) (ys : List D) (x' : α) (hop : o.op = .store T x y) (hg : GOn ops o m) (hdst : o.dst = none) (hsz : ∀ w, (sizeOf T).run P w = .ok ys.length w)
    (hx : evO m x = .elp id k i.toNat off) (hb : m (.b id) = .row false e k (l.map f)) (hi : inR i l.length = true) (hy : evO m y = Y) (hcs : Y.cellsV = ys.map .d) (h1 : ∀ c ∈ Y.cellsV, c.one = true) (hk : off + ys.length ≤ k)
    (hx' : (f (rd l i)).take off ++ ys ++ (f (rd l i)).drop (off + ys.length) = f x') : Valid P ops G o m ⟨gloc ops o ++ (lo x ++ (lo y ++ [.b id])), [(.b id, .row false e k ((l.set i.toNat x').map f))]⟩ := by
  have := v_store_elp (G := G) hop hg hdst hsz hx hb (rd_at f hi) hy hcs h1 hk
  rwa [hx', ← List.map_set] at this

theorem w_cut {α : Type} {d T e k : Nat} {x : Operand} {xl xh : Option Operand} (l : List α) (f : α → List D) (a b : Int) (hop : o.op = .slice T x xl xh none) (hg : GOn ops o m) (hdst : o.dst = some d) (hd : d < G.nt) (hT : SliceT P T e k)
    (hx : evO m x = .d (.sl k (l.map f))) (hl : (xl = none ∧ a = 0) ∨ ∃ y ik, xl = some y ∧ evO m y = .d (.s (.int ik a))) (hh : (xh = none ∧ b = l.length) ∨ ∃ y ik, xh = some y ∧ evO m y = .d (.s (.int ik b))) (h : cutOK a b l.length = true) :
    Valid P ops G o m ⟨gloc ops o ++ (lo x ++ (lo? xl ++ lo? xh)), [(.t d, .d (.sl k (((l.take b.toNat).drop a.toNat).map f)))]⟩ := by
  obtain ⟨h0, h1, h2⟩ := of_decide_eq_true h
  have := v_cut_sl (l := a.toNat) (h := b.toNat) hop hg hdst hd hT hx
    (by rcases hl with ⟨e1, e2⟩ | ⟨y, ik, e1, e2⟩
        · subst e1; subst e2; rfl
        · subst e1; exact ⟨ik, by rw [e2, Int.toNat_of_nonneg h0]⟩)
    (by rcases hh with ⟨e1, e2⟩ | ⟨y, ik, e1, e2⟩
        · subst e1; subst e2; simp [BdIs]
        · subst e1; exact ⟨ik, by rw [e2, Int.toNat_of_nonneg (by omega)]⟩) (by omega) (by simp; omega)
  rwa [← List.map_take, ← List.map_drop] at this

theorem w_cut_str {d T : Nat} {x : Operand} {xl xh : Option Operand} (s : ByteArray) (a b : Int) (hop : o.op = .slice T x xl xh none) (hg : GOn ops o m) (hdst : o.dst = some d) (hd : d < G.nt) (hT : P.underlying T = some .string)
    (hx : evO m x = .d (.s (.string s))) (hl : (xl = none ∧ a = 0) ∨ ∃ y ik, xl = some y ∧ evO m y = .d (.s (.int ik a))) (hh : (xh = none ∧ b = s.size) ∨ ∃ y ik, xh = some y ∧ evO m y = .d (.s (.int ik b))) (h : cutOK a b s.size = true) :
    Valid P ops G o m ⟨gloc ops o ++ (lo x ++ (lo? xl ++ lo? xh)), [(.t d, .d (.s (.string (s.extract a.toNat b.toNat))))]⟩ := by
  obtain ⟨h0, h1, h2⟩ := of_decide_eq_true h
  exact v_cut_str (l := a.toNat) (h := b.toNat) hop hg hdst hd hT hx
    (by rcases hl with ⟨e1, e2⟩ | ⟨y, ik, e1, e2⟩
        · subst e1; subst e2; rfl
        · subst e1; exact ⟨ik, by rw [e2, Int.toNat_of_nonneg h0]⟩)
    (by rcases hh with ⟨e1, e2⟩ | ⟨y, ik, e1, e2⟩
        · subst e1; subst e2; simp [BdIs]
        · subst e1; exact ⟨ik, by rw [e2, Int.toNat_of_nonneg (by omega)]⟩) (by omega) (by omega)

/-- What an element's cells are, whatever the element. -/
structure EncT {α : Type} (f : α → List D) (k : Nat) : Prop where
  len : ∀ x, (f x).length = k
  one : ∀ x, ∀ d ∈ f x, d.one = true

theorem EncT.lens {α : Type} {f : α → List D} {k : Nat} (h : EncT f k) (l : List α) : ∀ e ∈ l.map f, e.length = k := fun e he => by
  obtain ⟨x, _, rfl⟩ := List.mem_map.1 he; exact h.len x
theorem EncT.ones {α : Type} {f : α → List D} {k : Nat} (h : EncT f k) (l : List α) : ∀ e ∈ l.map f, ∀ d ∈ e, d.one = true := fun e he => by
  obtain ⟨x, _, rfl⟩ := List.mem_map.1 he; exact h.one x
theorem encI (k : IntKind) : EncT (eI k) 1 := ⟨fun _ => rfl, fun x d hd => by simp [eI] at hd; subst hd; rfl⟩
theorem encB : EncT eB 1 := ⟨fun _ => rfl, fun x d hd => by simp [eB] at hd; subst hd; rfl⟩
theorem encS : EncT eS 1 := ⟨fun _ => rfl, fun x d hd => by simp [eS] at hd; subst hd; rfl⟩

/-- What is appended, typed. -/
inductive SrcL {α : Type} (m : St) (k : Nat) (f : α → List D) (l : List α) : V → List Loc → Prop
  | d : SrcL m k f l (.d (.sl k (l.map f))) []
  | own (id : Nat) (fz : Bool) (e : TypeId) (h : m (.b id) = .row fz e k (l.map f)) : SrcL m k f l (.own id k l.length) [.b id]

theorem w_app {α : Type} {d T e k bytes id : Nat} {x y : Operand} {Y : V} {ls : List Loc} {c : Call} (id' : Nat) (l l2 : List α) (f : α → List D) (hop : o.op = .call c) (hc : c = { callee := .builtin .append, args := #[x, y], argTypes := #[T, T] }) (hg : GOn ops o m) (hdst : o.dst = some d) (hd : d < G.nt)
    (hT : SliceT P T e k) (hE : ElemT P e k bytes) (hf : EncT f k) (hx : evO m x = .own id k l.length) (hb : m (.b id) = .row false e k (l.map f)) (hy : evO m y = Y) (hs : SrcL m k f l2 Y ls) (hid : m (.b id') = .nob) (hok : appOK bytes l.length l2.length = true) :
    Valid P ops G o m ⟨gloc ops o ++ (lo x ++ (lo y ++ (.b id :: .b id' :: ls))), [(.b id, .spent), (.b id', .row false e k ((l ++ l2).map f)), (.t d, .own id' k (l ++ l2).length)]⟩ := by
  obtain ⟨h1, h2⟩ := of_decide_eq_true hok
  have hs' : Src m k (l2.map f) Y ls := by
    cases hs with
    | d => exact .d
    | own id fz e h => exact .own id _ fz e h (by simp)
  have := v_append (id' := id') hop hc hg hdst hd hT.und hE (by simpa using hx) hb hy hs' hid (hf.lens l) (hf.lens l2) (hf.ones l2) (by simpa using h1) (by simpa [maxCap] using h2)
  simpa [List.map_append] using this

theorem w_call {d : Nat} {c : Call} {fo : Operand} {xs : Array Operand} {g : FuncId} {caps ds l : List D} {X : V} (hs : Spec P G.A g (ds ++ caps) (.ds l)) (hop : o.op = .call c) (hc : c.callee = .value fo) (hxs : c.args = xs) (hen : ∀ args w, (callFunc g args).run P w = .ok (.enter g args) w)
    (hg : GOn ops o m) (hdst : o.dst = some d) (hd : d < G.nt) (hf : FnIs m fo g caps) (hx : xs.toList.map (evO m) = ds.map .d) (hX : retV l = X) :
    Valid P ops G o m ⟨gloc ops o ++ (lo fo ++ xs.toList.flatMap lo), [(.t d, X)]⟩ := by
  subst hX; exact v_call hop hc hxs hen hg hdst hd hf hx hs

/-! ### Loops -/
theorem ht_fuel {X R W : Type} {c : Code} {Q : Exit → St → Prop} (hd : X → St) (l : Nat → X → Option (LR R W)) (res : LR R W) (hz : ∀ x, l 0 x = none)
    (step : ∀ k x, l (k + 1) x = some res → ∀ K : St → Prop, (∀ x' m', l k x' = some res → Wk G m' (hd x') → K m') → HT P G c (thenQ K Q) (hd x)) (k : Nat) (x : X) (m : St) (h : l k x = some res) (hw : Wk G m (hd x)) : HT P G (.loop c) Q m := by
  refine ht_loop (X := { p : Nat × X // l p.1 p.2 = some res }) (fun p => hd p.1.2) (fun p => p.1.1) ⟨(k, x), h⟩ hw ?_
  rintro ⟨⟨k, x⟩, hx⟩
  cases k with
  | zero => rw [hz] at hx; cases hx
  | succ k => exact step k x hx _ fun x' m' h' hw' => ⟨⟨(k, x'), h'⟩, hw', Nat.lt_succ_self k⟩

theorem bq_hit {id : Nat} {Q : Exit → St → Prop} (h : Q .normal m) : blockQ id Q (.exit id) m := by simp [blockQ, h]
theorem bq_pass {id i : Nat} {Q : Exit → St → Prop} (hne : i ≠ id) (h : Q (.exit i) m) : blockQ id Q (.exit i) m := by simp [blockQ, hne, h]

theorem ret1 {fn : Func} {rv : ResultVar} {x : D} (hf : fn.results = #[rv]) (h : RC P m rv x) : RetM P G fn m (.ds [x]) :=
  ret_ds (by rw [hf]; rfl) fun i rv' x' h1 h2 => by
    rw [hf] at h1
    match i with
    | 0 => simp at h1 h2; subst h1; subst h2; exact h
    | i + 1 => simp at h2
theorem ret2 {fn : Func} {r1 r2 : ResultVar} {x1 x2 : D} (hf : fn.results = #[r1, r2]) (h1 : RC P m r1 x1) (h2 : RC P m r2 x2) : RetM P G fn m (.ds [x1, x2]) :=
  ret_ds (by rw [hf]; rfl) fun i rv' x' g1 g2 => by
    rw [hf] at g1
    match i with
    | 0 => simp at g1 g2; subst g1; subst g2; exact h1
    | 1 => simp at g1 g2; subst g1; subst g2; exact h2
    | i + 2 => simp at g2
theorem ret3 {fn : Func} {r1 r2 r3 : ResultVar} {x1 x2 x3 : D} (hf : fn.results = #[r1, r2, r3]) (h1 : RC P m r1 x1) (h2 : RC P m r2 x2) (h3 : RC P m r3 x3) : RetM P G fn m (.ds [x1, x2, x3]) :=
  ret_ds (by rw [hf]; rfl) fun i rv' x' g1 g2 => by
    rw [hf] at g1
    match i with
    | 0 => simp at g1 g2; subst g1; subst g2; exact h1
    | 1 => simp at g1 g2; subst g1; subst g2; exact h2
    | 2 => simp at g1 g2; subst g1; subst g2; exact h3
    | i + 3 => simp at g2
end
end Go.Awp
