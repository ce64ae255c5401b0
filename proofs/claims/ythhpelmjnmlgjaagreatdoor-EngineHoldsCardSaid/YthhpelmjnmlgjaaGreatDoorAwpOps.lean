/- Operations: what each does to an abstract state. Contracts of functions. No program in sight. -/
import Derived.Test.YthhpelmjnmlgjaaGreatDoorAwpState
import Derived.Maps.AppendAt
import Derived.Laws.Entries
import Derived.Laws.Cells
import Derived.Laws.Tables
import Derived.Laws.Rows
set_option linter.unusedSimpArgs false
set_option linter.unusedVariables false
namespace Go.Awp
open Go.RowKit

section
variable {P : Program} {ops : Array Oper} {G : Call0} {o : Oper} {m : St}

def gloc (ops : Array Oper) (o : Oper) : List Loc :=
  match o.guard with
  | none => []
  | some (j, _) => match (ops[j]?).bind (·.dst) with
    | some t => [.t t]
    | none => []

def GOn (ops : Array Oper) (o : Oper) (m : St) : Prop :=
  match o.guard with
  | none => True
  | some (j, b) => ∃ t, (ops[j]?).bind (·.dst) = some t ∧ m (.t t) = .d (.s (.bool b))

theorem GOn.congr {m' : St} (hg : GOn ops o m) (h : ∀ l ∈ gloc ops o, m' l = m l) : GOn ops o m' := by
  unfold GOn gloc at *
  split <;> simp_all only []
  obtain ⟨t, h1, h2⟩ := hg
  rw [h1] at h
  exact ⟨t, h1, by rw [h _ (by simp)]; exact h2⟩

theorem RR.bool {φ : Phi} {a : Act} {w : World} (h : RR G φ m a w) {t : Nat} {b : Bool} (ht : m (.t t) = .d (.s (.bool b))) : a.tmps[t]? = some (.bool b) := by
  have := h.slots t
  rw [ht] at this
  generalize hv : a.tmps.getD t undef = v at this
  cases this with
  | d hd =>
    cases hd
    rw [Array.getD_eq_getD_getElem?] at hv
    cases hq : a.tmps[t]? with
    | none => rw [hq] at hv; simp [undef] at hv
    | some u => rw [hq] at hv; simp at hv; rw [hv]

theorem RR.wanted {φ : Phi} {a : Act} {w : World} (h : RR G φ m a w) (hg : GOn ops o m) : Region.wanted o (yielded ops a.tmps) = true := by
  unfold GOn at hg
  unfold Region.wanted
  split at hg <;> rename_i hgd <;> rw [hgd]
  obtain ⟨t, h1, h2⟩ := hg
  simp [yielded, h1, h.bool h2]

theorem valid_of {e : Eff} (hg : GOn ops o m) (hgl : ∀ l ∈ gloc ops o, l ∈ e.rd)
    (h : ∀ m' : St, (∀ l ∈ e.rd, m' l = m l) → ∀ φ a w, RR G φ m' a w → ∃ v w', (execOp a.eval o).run P w = .ok (.value v) w' ∧ R G (updL m' e.wr) (a.put o.dst v) w') : Valid P ops G o m e := by
  intro m' hm a w hr K Q hK
  obtain ⟨φ, hr⟩ := hr
  obtain ⟨v, w', h1, h2⟩ := h m' hm φ a w hr
  unfold opGo
  rw [if_pos (hr.wanted (hg.congr fun l hl => hm l (hgl l hl)))]
  left
  unfold Oper.wp
  rw [h1]
  exact hK _ _ h2

theorem valid_skip {e : Eff} (hg : GOn ops o m) (hgl : ∀ l ∈ gloc ops o, l ∈ e.rd)
    (h : ∀ m' : St, (∀ l ∈ e.rd, m' l = m l) → ∀ φ a w, RR G φ m' a w → ∃ w', (execOp a.eval o).run P w = .ok .skip w' ∧ R G (updL m' e.wr) (a.put o.dst undef) w') : Valid P ops G o m e := by
  intro m' hm a w hr K Q hK
  obtain ⟨φ, hr⟩ := hr
  obtain ⟨w', h1, h2⟩ := h m' hm φ a w hr
  unfold opGo
  rw [if_pos (hr.wanted (hg.congr fun l hl => hm l (hgl l hl)))]
  left
  unfold Oper.wp
  rw [h1]
  exact hK _ _ h2

/-- An operation that is passed over. -/
theorem v_off {j t d : Nat} {b b' : Bool} (hgd : o.guard = some (j, b)) (hj : (ops[j]?).bind (·.dst) = some t) (ht : m (.t t) = .d (.s (.bool b'))) (hne : (b' == b) = false) (hdst : o.dst = some d) (hd : d < G.nt) :
    Valid P ops G o m ⟨[.t t], [(.t d, .top)]⟩ := by
  intro m' hm a w hr K Q hK
  obtain ⟨φ, hr⟩ := hr
  have hy : Region.wanted o (yielded ops a.tmps) = false := by
    have h1 := hr.bool (m := m') (t := t) (b := b') (by rw [hm _ (by simp)]; exact ht)
    unfold Region.wanted
    rw [hgd]
    cases b <;> cases b' <;> simp_all [yielded]
  unfold opGo
  rw [if_neg (by rw [hy]; simp)]
  refine hK _ _ ⟨φ, ?_⟩
  rw [hdst]
  exact hr.put d hd (.top _)

theorem v_off0 {j t : Nat} {b b' : Bool} (hgd : o.guard = some (j, b)) (hj : (ops[j]?).bind (·.dst) = some t) (ht : m (.t t) = .d (.s (.bool b'))) (hne : (b' == b) = false) (hdst : o.dst = none) :
    Valid P ops G o m ⟨[.t t], []⟩ := by
  intro m' hm a w hr K Q hK
  obtain ⟨φ, hr⟩ := hr
  have hy : Region.wanted o (yielded ops a.tmps) = false := by
    have h1 := hr.bool (m := m') (t := t) (b := b') (by rw [hm _ (by simp)]; exact ht)
    unfold Region.wanted
    rw [hgd]
    cases b <;> cases b' <;> simp_all [yielded]
  unfold opGo
  rw [if_neg (by rw [hy]; simp)]
  refine hK _ _ ⟨φ, ?_⟩
  rw [hdst]
  exact hr

/-- An operation that leaves the world alone. -/
theorem valid_pure {d : Nat} {X : V} {rd : List Loc} (hg : GOn ops o m) (hdst : o.dst = some d) (hd : d < G.nt)
    (h : ∀ m' : St, (∀ l ∈ rd, m' l = m l) → ∀ φ a w, RR G φ m' a w → ∃ v, (execOp a.eval o).run P w = .ok (.value v) w ∧ RepV φ (okOf G φ m' w) w v X) : Valid P ops G o m ⟨gloc ops o ++ rd, [(.t d, X)]⟩ :=
  valid_of hg (fun l hl => by simp [hl]) fun m' hm φ a w hr => by
    obtain ⟨v, h1, h2⟩ := h m' (fun l hl => hm l (by simp [hl])) φ a w hr
    exact ⟨v, w, h1, φ, by rw [hdst]; exact hr.put d hd h2⟩

theorem RR.ev' {φ : Phi} {m' : St} {a : Act} {w : World} (h : RR G φ m' a w) {x : Operand} {X : V} (hm : ∀ l ∈ lo x, m' l = m l) (hx : evO m x = X) : RepV φ (okOf G φ m' w) w (a.eval x) X := by
  have := h.ev x
  rw [evO_congr hm, hx] at this
  exact this

/-! ### Moves -/
theorem v_move {d : Nat} {x : Operand} {X : V} (hop : o.op = .move x ∨ o.op = .assign x) (hg : GOn ops o m) (hdst : o.dst = some d) (hd : d < G.nt) (hx : evO m x = X) : Valid P ops G o m ⟨gloc ops o ++ lo x, [(.t d, X)]⟩ :=
  valid_pure hg hdst hd fun m' hm φ a w hr => ⟨a.eval x, by rcases hop with h | h <;> simp [execOp, h], hr.ev' hm hx⟩

theorem v_pick {d : Nat} {c x y : Operand} {b : Bool} {X : V} (hop : o.op = .pick c x y) (hg : GOn ops o m) (hdst : o.dst = some d) (hd : d < G.nt) (hc : evO m c = .d (.s (.bool b))) (hx : evO m (if b then x else y) = X) :
    Valid P ops G o m ⟨gloc ops o ++ (lo c ++ lo (if b then x else y)), [(.t d, X)]⟩ :=
  valid_pure hg hdst hd fun m' hm φ a w hr => by
    have h1 := hr.ev' (x := c) (fun l hl => hm l (by simp [hl])) hc
    have h2 := hr.ev' (x := if b then x else y) (fun l hl => hm l (by simp [hl])) hx
    refine ⟨a.eval (if b then x else y), ?_, h2⟩
    generalize hv : a.eval c = v at h1
    cases h1 with
    | d h1 =>
      cases h1
      simp only [execOp, hop, hv]
      cases b <;> simp [asBool]

/-! ### Operations on plain values -/
/-- What a value is, if it is told to the last bit. -/
def D.conc : D → Option Value
  | .s v => some v
  | _ => none

theorem RR.s {φ : Phi} {m' : St} {a : Act} {w : World} (h : RR G φ m' a w) {x : Operand} {v : Value} (hm : ∀ l ∈ lo x, m' l = m l) (hx : evO m x = .d (.s v)) : a.eval x = v := by
  have h1 := h.ev' hm hx
  generalize a.eval x = u at h1 ⊢
  cases h1 with | d h1 => cases h1; rfl

theorem v_bin {d : Nat} {op : BinOp} {T T' : TypeId} {x y : Operand} {u v r : Value} (hop : o.op = .binOp op T x y T') (hg : GOn ops o m) (hdst : o.dst = some d) (hd : d < G.nt)
    (hx : evO m x = .d (.s u)) (hy : evO m y = .d (.s v)) (hr : ∀ w, (do eqGuard op T x y u v; binOp op T u v : Sem Value).run P w = .ok r w) : Valid P ops G o m ⟨gloc ops o ++ (lo x ++ lo y), [(.t d, .d (.s r))]⟩ :=
  valid_pure hg hdst hd fun m' hm φ a w h => by
    have h1 := h.s (x := x) (fun l hl => hm l (by simp [hl])) hx
    have h2 := h.s (x := y) (fun l hl => hm l (by simp [hl])) hy
    refine ⟨r, ?_, .d (.s r)⟩
    have := hr w
    simp only [execOp, hop, h1, h2]
    rw [Sem.run_bind, this]; rfl

theorem v_un {d : Nat} {op : UnOp} {T : TypeId} {x : Operand} {u r : Value} (hop : o.op = .unOp op T x) (hg : GOn ops o m) (hdst : o.dst = some d) (hd : d < G.nt)
    (hx : evO m x = .d (.s u)) (hr : ∀ w, (Op.unary op u).run P w = .ok r w) : Valid P ops G o m ⟨gloc ops o ++ lo x, [(.t d, .d (.s r))]⟩ :=
  valid_pure hg hdst hd fun m' hm φ a w h => by
    have h1 := h.s (x := x) (fun l hl => hm l (by simp [hl])) hx
    refine ⟨r, ?_, .d (.s r)⟩
    simp only [execOp, hop, h1]
    rw [Sem.run_bind, hr w]; rfl

theorem v_conv {d : Nat} {S T : TypeId} {x : Operand} {u r : Value} (hop : o.op = .convert S T x) (hg : GOn ops o m) (hdst : o.dst = some d) (hd : d < G.nt)
    (hx : evO m x = .d (.s u)) (hr : ∀ w, (convert S T u).run P w = .ok r w) : Valid P ops G o m ⟨gloc ops o ++ lo x, [(.t d, .d (.s r))]⟩ :=
  valid_pure hg hdst hd fun m' hm φ a w h => by
    have h1 := h.s (x := x) (fun l hl => hm l (by simp [hl])) hx
    refine ⟨r, ?_, .d (.s r)⟩
    simp only [execOp, hop, h1]
    rw [Sem.run_bind, hr w]; rfl

theorem v_index {d : Nat} {T : TypeId} {x y : Operand} {u v r : Value} (hop : o.op = .index T x y) (hg : GOn ops o m) (hdst : o.dst = some d) (hd : d < G.nt)
    (hx : evO m x = .d (.s u)) (hy : evO m y = .d (.s v)) (hr : ∀ w, (Instr.index T u v).run P w = .ok r w) : Valid P ops G o m ⟨gloc ops o ++ (lo x ++ lo y), [(.t d, .d (.s r))]⟩ :=
  valid_pure hg hdst hd fun m' hm φ a w h => by
    have h1 := h.s (x := x) (fun l hl => hm l (by simp [hl])) hx
    have h2 := h.s (x := y) (fun l hl => hm l (by simp [hl])) hy
    refine ⟨r, ?_, .d (.s r)⟩
    simp only [execOp, hop, h1, h2]
    rw [Sem.run_bind, hr w]; rfl

/-- A builtin over two plain values (max, min), or one (the length of a string). -/
theorem v_bi2 {d : Nat} {b : Builtin} {ts : Array TypeId} {x y : Operand} {u v r : Value} {c : Call} (hop : o.op = .call c) (hc : c = { callee := .builtin b, args := #[x, y], argTypes := ts }) (hg : GOn ops o m) (hdst : o.dst = some d) (hd : d < G.nt)
    (hx : evO m x = .d (.s u)) (hy : evO m y = .d (.s v)) (hr : ∀ (cs : Array Bool) w, (builtin b ts o.type cs #[u, v]).run P w = .ok (.value r) w) : Valid P ops G o m ⟨gloc ops o ++ (lo x ++ lo y), [(.t d, .d (.s r))]⟩ :=
  valid_pure hg hdst hd fun m' hm φ a w h => by
    have h1 := h.s (x := x) (fun l hl => hm l (by simp [hl])) hx
    have h2 := h.s (x := y) (fun l hl => hm l (by simp [hl])) hy
    refine ⟨r, ?_, .d (.s r)⟩
    subst hc
    simp only [execOp, hop, resolve, invoke, Sem.run_bind, Sem.run_pure, Result.andThen_ok, List.map_toArray, List.map_cons, List.map_nil, h1, h2]
    exact hr _ w

/-- The length of a string, of data, of a row. -/
theorem v_len_str {d : Nat} {T : TypeId} {x : Operand} {s : ByteArray} {c : Call} (hop : o.op = .call c) (hc : c = { callee := .builtin .len, args := #[x], argTypes := #[T] }) (hg : GOn ops o m) (hdst : o.dst = some d) (hd : d < G.nt)
    (hT : P.underlying T = some .string) (hx : evO m x = .d (.s (.string s))) : Valid P ops G o m ⟨gloc ops o ++ lo x, [(.t d, .d (.s (.int .i64 s.size)))]⟩ :=
  valid_pure hg hdst hd fun m' hm φ a w h => by
    have h1 := h.s (x := x) (fun l hl => hm l (by simp [hl])) hx
    refine ⟨_, ?_, .d (.s _)⟩
    subst hc
    simp [execOp, hop, resolve, invoke, builtin, Builtin.len_, run_underlying hT, h1, goInt]

theorem v_len_sl {d k : Nat} {T e : TypeId} {x : Operand} {es : List (List D)} {c : Call} (hop : o.op = .call c) (hc : c = { callee := .builtin .len, args := #[x], argTypes := #[T] }) (hg : GOn ops o m) (hdst : o.dst = some d) (hd : d < G.nt)
    (hT : P.underlying T = some (.slice e)) (hx : evO m x = .d (.sl k es)) : Valid P ops G o m ⟨gloc ops o ++ lo x, [(.t d, .d (.s (.int .i64 es.length)))]⟩ :=
  valid_pure hg hdst hd fun m' hm φ a w h => by
    have h1 := h.ev' (x := x) hm hx
    refine ⟨_, ?_, .d (.s _)⟩
    subst hc
    generalize hv : a.eval x = v at h1
    cases h1 with
    | d h1 =>
      cases h1 with
      | nil => simp [execOp, hop, resolve, invoke, builtin, Builtin.len_, run_underlying hT, hv, goInt]
      | emp => simp [execOp, hop, resolve, invoke, builtin, Builtin.len_, run_underlying hT, hv, goInt]
      | sl => simp [execOp, hop, resolve, invoke, builtin, Builtin.len_, run_underlying hT, hv, goInt]

theorem v_len_nil {d : Nat} {T e : TypeId} {x : Operand} {c : Call} (hop : o.op = .call c) (hc : c = { callee := .builtin .len, args := #[x], argTypes := #[T] }) (hg : GOn ops o m) (hdst : o.dst = some d) (hd : d < G.nt)
    (hT : P.underlying T = some (.slice e)) (hx : evO m x = .d (.s (.slice none 0 0))) : Valid P ops G o m ⟨gloc ops o ++ lo x, [(.t d, .d (.s (.int .i64 0)))]⟩ :=
  valid_pure hg hdst hd fun m' hm φ a w h => by
    have h1 := h.s (x := x) hm hx
    refine ⟨_, ?_, .d (.s _)⟩
    subst hc
    simp [execOp, hop, resolve, invoke, builtin, Builtin.len_, run_underlying hT, h1, goInt]

theorem v_len_own {d id k n : Nat} {T e : TypeId} {x : Operand} {c : Call} (hop : o.op = .call c) (hc : c = { callee := .builtin .len, args := #[x], argTypes := #[T] }) (hg : GOn ops o m) (hdst : o.dst = some d) (hd : d < G.nt)
    (hT : P.underlying T = some (.slice e)) (hx : evO m x = .own id k n) : Valid P ops G o m ⟨gloc ops o ++ lo x, [(.t d, .d (.s (.int .i64 n)))]⟩ :=
  valid_pure hg hdst hd fun m' hm φ a w h => by
    have h1 := h.ev' (x := x) hm hx
    refine ⟨_, ?_, .d (.s _)⟩
    subst hc
    generalize hv : a.eval x = v at h1
    cases h1 <;> simp [execOp, hop, resolve, invoke, builtin, Builtin.len_, run_underlying hT, hv, goInt]

theorem v_extract {d i : Nat} {x : Operand} {vs : List V} {X : V} (hop : o.op = .extract x i) (hg : GOn ops o m) (hdst : o.dst = some d) (hd : d < G.nt)
    (hx : evO m x = .tup vs) (hi : vs[i]? = some X) : Valid P ops G o m ⟨gloc ops o ++ lo x, [(.t d, X)]⟩ :=
  valid_pure hg hdst hd fun m' hm φ a w h => by
    have h1 := h.ev' (x := x) hm hx
    generalize hv : a.eval x = v at h1
    cases h1 with
    | tup us _ hl hc =>
      have hlt : i < us.size := by rw [hl]; exact (List.getElem?_eq_some_iff.1 hi).1
      refine ⟨us[i], ?_, hc i us[i] X (by simp) hi⟩
      simp [execOp, hop, hv, Instr.extract, hlt]

theorem v_func {d : Nat} {g : FuncId} {xs : Array Operand} {vs : List V} (hop : o.op = .makeFunc (.func g) #[] xs) (hg : GOn ops o m) (hdst : o.dst = some d) (hd : d < G.nt)
    (hx : xs.toList.map (evO m) = vs) : Valid P ops G o m ⟨gloc ops o ++ xs.toList.flatMap lo, [(.t d, .fn g vs)]⟩ :=
  valid_pure hg hdst hd fun m' hm φ a w h => by
    refine ⟨.func (.func g) #[] (xs.map a.eval), by simp [execOp, hop, Instr.makeFunc], ?_⟩
    refine .fn g _ _ (by rw [← hx]; simp) fun i v c hv hc => ?_
    rw [← hx, List.getElem?_map, Option.map_eq_some_iff] at hc
    rw [Array.getElem?_map, Option.map_eq_some_iff] at hv
    obtain ⟨x, h1, rfl⟩ := hv
    obtain ⟨y, h2, rfl⟩ := hc
    have : x = y := by rw [← Array.getElem?_toList, h2] at h1; cases h1; rfl
    subst this
    exact h.ev' (fun l hl => hm l (List.mem_flatMap.2 ⟨x, List.mem_of_getElem? h2, hl⟩)) rfl
end
end Go.Awp
