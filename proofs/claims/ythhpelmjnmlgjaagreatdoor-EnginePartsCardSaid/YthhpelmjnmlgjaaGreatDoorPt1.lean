/- Lemmas behind GdPtP, part 1: they hold as they stand, without a condition beyond their own. -/
import Derived.Orders
import Derived.Below
import Derived.Maps.AppendAt
import Derived.Laws.Entries
import Derived.Laws.Cells
import Derived.Laws.Tables
import Derived.Laws.Rows
import Derived.Laws.CopyRow
import Derived.Laws.CopyOwn
import Derived.Laws.MakeOwn
import Derived.Laws.Slices
import Derived.ChangeSame
import Derived.WalkKit
import Derived.ProofKit
import Derived.OpenShut
import Derived.JoinedCond
import Derived.IntWalk
import Derived.Laws.Strings
import Derived.Laws.BytesArg
import Derived.Laws.RangeString
import Derived.Laws.StructEq
import Derived.Laws.Cover3
set_option linter.unusedSimpArgs false
set_option linter.unusedVariables false
namespace Go.Awp
open Go.RowKit
/-- Data that nobody will turn any more: a plain value; a record (its cells); a slice (k cells an element); a pointer to cells; a function with what it captured. -/
inductive D where
  | s (v : Value)
  | agg (cs : List D)
  | sl (k : Nat) (es : List (List D))
  | dp (cs : List D)
  | fn (g : FuncId) (caps : List D)
/-- What a temporary holds, and what a block of the call's own is. -/
inductive V where
  | d (x : D)
  | agg (cs : List V)
  | own (id k n : Nat)
  | ptr (id off : Nat)
  | elp (id k i off : Nat)
  | tup (vs : List V)
  | fn (g : FuncId) (caps : List V)
  | top
  | nob
  | box (fz : Bool) (n : Nat)
  | row (fz : Bool) (e : TypeId) (k : Nat) (es : List (List D))
  | spent
  | iter (s : ByteArray) (pos : Nat)
inductive Loc where
  | t (n : Nat)
  | c (i o : Nat)
  | b (i : Nat)
  deriving DecidableEq
abbrev St := Loc → V
def Loc.same : Loc → Loc → Bool
  | .t x, .t y => Nat.beq x y
  | .c x i, .c y j => Nat.beq x y && Nat.beq i j
  | .b x, .b y => Nat.beq x y
  | _, _ => false
theorem Loc.same_iff (x y : Loc) : Loc.same x y = true ↔ x = y := by
  cases x <;> cases y <;> simp [Loc.same]
def upd (m : St) (l : Loc) (v : V) : St := fun x => bif Loc.same x l then v else m x
def updL (m : St) : List (Loc × V) → St
  | [] => m
  | p :: r => updL (upd m p.1 p.2) r
def V.live : V → Bool
  | .box false _ => true
  | .row false _ _ _ => true
  | .iter _ _ => true
  | _ => false
def maxCap : Nat := 9223372036854775807
inductive RepD (ok : Nat → Prop) (w : World) : Value → D → Prop
  | s (v : Value) : RepD ok w v (.s v)
  | agg (vs : Array Value) (cs : List D) (h : vs.size = cs.length) (hc : ∀ (i : Nat) (v : Value) (c : D), vs[i]? = some v → cs[i]? = some c → RepD ok w v c) : RepD ok w (.agg vs) (.agg cs)
  | nil (k : Nat) : RepD ok w (.slice none 0 0) (.sl k [])
  | emp (a : Addr) (cap k : Nat) (hmax : cap ≤ maxCap) : RepD ok w (.slice (some a) 0 cap) (.sl k [])
  | sl (b off cap k : Nat) (es : List (List D)) (vs : Nat → Nat → Value) (hcap : es.length ≤ cap) (hmax : cap ≤ maxCap) (hb : ok b) (hk : ∀ (i : Nat) (e : List D), es[i]? = some e → e.length = k)
      (hv : ∀ (i : Nat) (e : List D) (j : Nat) (c : D), es[i]? = some e → e[j]? = some c → w.cell? ⟨b, off + i * k + j, none⟩ = some (vs i j)) (hc : ∀ (i : Nat) (e : List D) (j : Nat) (c : D), es[i]? = some e → e[j]? = some c → RepD ok w (vs i j) c) :
      RepD ok w (.slice (some ⟨b, off, none⟩) es.length cap) (.sl k es)
  | dp (b off : Nat) (cs : List D) (vs : Nat → Value) (hb : ok b) (hv : ∀ (j : Nat) (c : D), cs[j]? = some c → w.cell? ⟨b, off + j, none⟩ = some (vs j)) (hc : ∀ (j : Nat) (c : D), cs[j]? = some c → RepD ok w (vs j) c) :
      RepD ok w (.pointer (some ⟨b, off, none⟩)) (.dp cs)
  | fn (g : FuncId) (vs : Array Value) (cs : List D) (h : vs.size = cs.length) (hc : ∀ (i : Nat) (v : Value) (c : D), vs[i]? = some v → cs[i]? = some c → RepD ok w v c) : RepD ok w (.func (.func g) #[] vs) (.fn g cs)
theorem RepD.mono {ok ok' : Nat → Prop} {w w' : World} (h : ∀ b, ok b → ok' b ∧ w'.heap[b]? = w.heap[b]?) {v : Value} {x : D} (hr : RepD ok w v x) : RepD ok' w' v x := by
  induction hr with
  | s v => exact .s v
  | agg vs cs hl _ ih => exact .agg vs cs hl ih
  | nil k => exact .nil k
  | emp a cap k hmax => exact .emp a cap k hmax
  | sl b off cap k es vs hcap hmax hb hk hv _ ih =>
    exact .sl b off cap k es vs hcap hmax (h b hb).1 hk (fun i e j c hi hj => (World.cell?_of_block (w := w) (h b hb).2).trans (hv i e j c hi hj)) ih
  | dp b off cs vs hb hv _ ih => exact .dp b off cs vs (h b hb).1 (fun j c hj => (World.cell?_of_block (w := w) (h b hb).2).trans (hv j c hj)) ih
  | fn g vs cs hl _ ih => exact .fn g vs cs hl ih
/-- Where a block of the call's own lies, and its capacity; 'some none': a nil row. -/
abbrev Phi := Nat → Option (Option (Nat × Nat))
inductive RepV (φ : Phi) (ok : Nat → Prop) (w : World) : Value → V → Prop
  | d {v : Value} {x : D} (h : RepD ok w v x) : RepV φ ok w v (.d x)
  | top (v : Value) : RepV φ ok w v .top
  | agg (vs : Array Value) (cs : List V) (h : vs.size = cs.length) (hc : ∀ (i : Nat) (v : Value) (c : V), vs[i]? = some v → cs[i]? = some c → RepV φ ok w v c) : RepV φ ok w (.agg vs) (.agg cs)
  | nil (id k : Nat) (h : φ id = some none) : RepV φ ok w (.slice none 0 0) (.own id k 0)
  | own (id k n b cap : Nat) (h : φ id = some (some (b, cap))) (hn : n ≤ cap) :
      RepV φ ok w (.slice (some ⟨b, 0, none⟩) n cap) (.own id k n)
  | ptr (id off b cap : Nat) (h : φ id = some (some (b, cap))) : RepV φ ok w (.pointer (some ⟨b, off, none⟩)) (.ptr id off)
  | elp (id k i off b cap : Nat) (h : φ id = some (some (b, cap))) : RepV φ ok w (.pointer (some ⟨b, i * k + off, none⟩)) (.elp id k i off)
  | tup (vs : Array Value) (cs : List V) (h : vs.size = cs.length) (hc : ∀ (i : Nat) (v : Value) (c : V), vs[i]? = some v → cs[i]? = some c → RepV φ ok w v c) : RepV φ ok w (.tuple vs) (.tup cs)
  | fn (g : FuncId) (vs : Array Value) (cs : List V) (h : vs.size = cs.length) (hc : ∀ (i : Nat) (v : Value) (c : V), vs[i]? = some v → cs[i]? = some c → RepV φ ok w v c) : RepV φ ok w (.func (.func g) #[] vs) (.fn g cs)
theorem RepV.mono {φ φ' : Phi} {ok ok' : Nat → Prop} {w w' : World} (hφ : ∀ i x, φ i = some x → φ' i = some x) (h : ∀ b, ok b → ok' b ∧ w'.heap[b]? = w.heap[b]?) {v : Value} {x : V} (hr : RepV φ ok w v x) : RepV φ' ok' w' v x := by
  induction hr with
  | d hd => exact .d (hd.mono h)
  | top v => exact .top v
  | agg vs cs hl _ ih => exact .agg vs cs hl ih
  | nil id k hi => exact .nil id k (hφ _ _ hi)
  | own id k n b cap hi hn => exact .own id k n b cap (hφ _ _ hi) hn
  | ptr id off b cap hi => exact .ptr id off b cap (hφ _ _ hi)
  | elp id k i off b cap hi => exact .elp id k i off b cap (hφ _ _ hi)
  | tup vs cs hl _ ih => exact .tup vs cs hl ih
  | fn g vs cs hl _ ih => exact .fn g vs cs hl ih
/-- What is known of the world from the start on. -/
structure Amb where
  p : World → Prop
  keep : ∀ w w', p w → Below w.heap.size w w' → p w'
/-- What a call is over: the world that it began in, the blocks of old that it may lean on, how many temporaries it has. -/
structure Call0 where
  w0 : World
  ok0 : Nat → Prop
  nt : Nat
  lt0 : ∀ b, ok0 b → b < w0.heap.size
  A : Amb
  hA : A.p w0
def okOf (G : Call0) (φ : Phi) (m : St) (w : World) (b : Nat) : Prop :=
  (G.ok0 b ∨ G.w0.heap.size ≤ b) ∧ b < w.heap.size ∧ ∀ i c, φ i = some (some (b, c)) → (m (.b i)).live = false
def BoxOK (φ : Phi) (ok : Nat → Prop) (w : World) (m : St) (i n : Nat) : Prop :=
  ∃ b c arr e, φ i = some (some (b, c)) ∧ w.heap[b]? = some (.cells arr e (0, 0)) ∧ arr.size = n ∧ ∀ (j : Nat) (v : Value), arr[j]? = some v → RepV φ ok w v (m (.c i j))
def RowIn (ok : Nat → Prop) (w : World) (arr : Array Value) (k : Nat) (es : List (List D)) : Prop :=
  ∀ (x : Nat) (ds : List D), es[x]? = some ds → ds.length = k ∧ ∀ (j : Nat) (d : D), ds[j]? = some d → ∃ v, arr[x * k + j]? = some v ∧ RepD ok w v d
def RowOK (φ : Phi) (ok : Nat → Prop) (w : World) (i : Nat) (e : TypeId) (k : Nat) (es : List (List D)) : Prop :=
  (φ i = some none ∧ es = []) ∨ ∃ b cap arr, φ i = some (some (b, cap)) ∧ w.heap[b]? = some (.cells arr e (0, 0)) ∧ arr.size = cap * k ∧ es.length ≤ cap ∧ cap ≤ maxCap ∧ RowIn ok w arr k es
def BlkOK (φ : Phi) (ok : Nat → Prop) (w : World) (m : St) (i : Nat) : Prop :=
  match m (.b i) with
  | .nob => φ i = none
  | .box _ n => BoxOK φ ok w m i n
  | .row _ e k es => RowOK φ ok w i e k es
  | .spent => True
  | .iter s pos => ∃ b c, φ i = some (some (b, c)) ∧ w.heap[b]? = some (.stringIter s pos)
  | _ => False
structure RR (G : Call0) (φ : Phi) (m : St) (a : Act) (w : World) : Prop where
  below : Below G.w0.heap.size G.w0 w
  nodef : a.defers = []
  size : a.tmps.size = G.nt
  slots : ∀ t, RepV φ (okOf G φ m w) w (a.tmps.getD t undef) (m (.t t))
  lt : ∀ i b c, φ i = some (some (b, c)) → G.w0.heap.size ≤ b ∧ b < w.heap.size
  inj : ∀ i j b c c', φ i = some (some (b, c)) → φ j = some (some (b, c')) → (m (.b i)).live = true → i ≠ j → m (.b j) = .spent
  blk : ∀ i, BlkOK φ (okOf G φ m w) w m i
def R (G : Call0) (m : St) (a : Act) (w : World) : Prop := ∃ φ, RR G φ m a w
theorem upd_self (m : St) (l : Loc) (v : V) : upd m l v l = v := by simp [upd, (Loc.same_iff l l).2 rfl]
theorem upd_ne (m : St) {l l' : Loc} (v : V) (h : l' ≠ l) : upd m l v l' = m l' := by
  have : Loc.same l' l = false := by
    cases hq : Loc.same l' l with
    | false => rfl
    | true => exact absurd ((Loc.same_iff _ _).1 hq) h
  simp [upd, this]
/-- The world turns in a way that leaves all that is told alone: new blocks, draws. -/
theorem RR.grow {G : Call0} {φ : Phi} {m : St} {a : Act} {w w' : World} (h : RR G φ m a w) (hb : Below w.heap.size w w') : RR G φ m a w' := by
  have hok : ∀ b, okOf G φ m w b → okOf G φ m w' b ∧ w'.heap[b]? = w.heap[b]? := fun b ⟨h1, h2, h3⟩ => ⟨⟨h1, Nat.lt_of_lt_of_le h2 hb.size, h3⟩, hb.block b h2⟩
  have hv : ∀ {v x}, RepV φ (okOf G φ m w) w v x → RepV φ (okOf G φ m w') w' v x := fun hr => hr.mono (fun _ _ h => h) hok
  refine ⟨h.below.trans (hb.mono h.below.size), h.nodef, h.size, fun t => hv (h.slots t), fun i b c hi => ⟨(h.lt i b c hi).1, Nat.lt_of_lt_of_le (h.lt i b c hi).2 hb.size⟩, h.inj, fun i => ?_⟩
  have hi := h.blk i
  unfold BlkOK at hi ⊢
  cases hm : m (.b i) <;> rw [hm] at hi <;> first | exact hi.elim | exact hi | skip
  · obtain ⟨b, c, arr, e, h1, h2, h3, h4⟩ := hi
    exact ⟨b, c, arr, e, h1, by rw [hb.block b (h.lt i b c h1).2]; exact h2, h3, fun j v hj => hv (h4 j v hj)⟩
  · rcases hi with hi | ⟨b, cap, arr, h1, h2, h3, h4, h5, h6⟩
    · exact .inl hi
    · refine .inr ⟨b, cap, arr, h1, by rw [hb.block b (h.lt i b cap h1).2]; exact h2, h3, h4, h5, fun x ds hx => ⟨(h6 x ds hx).1, fun j d hj => ?_⟩⟩
      obtain ⟨v, hv1, hv2⟩ := (h6 x ds hx).2 j d hj
      exact ⟨v, hv1, hv2.mono hok⟩
  · obtain ⟨b, c, h1, h2⟩ := hi
    exact ⟨b, c, h1, by rw [hb.block b (h.lt i b c h1).2]; exact h2⟩
theorem below_drawn {w : World} (n : Nat) : Below w.heap.size w { w with drawn := n } := ⟨rfl, rfl, rfl, Nat.le_refl _, fun _ _ => rfl⟩
/-- A temporary takes a value. -/
theorem RR.put {G : Call0} {φ : Phi} {m : St} {a : Act} {w : World} (h : RR G φ m a w) (d : Nat) {v : Value} {x : V} (hd : d < G.nt) (hx : RepV φ (okOf G φ m w) w v x) : RR G φ (upd m (.t d) x) (a.put (some d) v) w := by
  have hb : ∀ i, upd m (.t d) x (.b i) = m (.b i) := fun i => upd_ne _ _ (by simp)
  have hc : ∀ i j, upd m (.t d) x (.c i j) = m (.c i j) := fun i j => upd_ne _ _ (by simp)
  have hok : okOf G φ (upd m (.t d) x) w = okOf G φ m w := by funext b; simp [okOf, hb]
  refine ⟨h.below, h.nodef, by simp [Act.put, h.size], fun t => ?_, h.lt, fun i j b c c' h1 h2 h3 h4 => by rw [hb] at h3 ⊢; exact h.inj i j b c c' h1 h2 h3 h4, fun i => ?_⟩
  · rw [hok]
    by_cases e : t = d
    · subst e
      rw [upd_self]
      have : (a.put (some t) v).tmps.getD t undef = v := by simp [Act.put, Array.getD_eq_getD_getElem?, Array.getElem?_setIfInBounds, h.size, hd]
      rw [this]; exact hx
    · rw [upd_ne _ _ (by simpa using e)]
      have : (a.put (some d) v).tmps.getD t undef = a.tmps.getD t undef := by
        simp [Act.put, Array.getD_eq_getD_getElem?, Array.getElem?_setIfInBounds, Ne.symm e]
      rw [this]; exact h.slots t
  · have := h.blk i
    unfold BlkOK BoxOK at this ⊢
    simp only [hb, hc, hok]
    exact this
end Go.Awp
set_option linter.unusedSimpArgs false
set_option linter.unusedVariables false
namespace Go.Awp
open Go.RowKit
structure Eff where
  rd : List Loc
  wr : List (Loc × V)
section
variable {P : Program} {ops : Array Oper} {G : Call0}
def opGo (P : Program) (ops : Array Oper) (Q : Exit → Act → World → Prop) (o : Oper) (K : Act → World → Prop) (a : Act) (w : World) : Prop :=
  if Region.wanted o (yielded ops a.tmps) = true then o.wp P a w K Q ∨ (o.asks P a w ∧ LetsOut Q) else K (a.put o.dst undef) w
theorem wpOp_some {Q : Exit → Act → World → Prop} {i : Nat} {o : Oper} (h : ops[i]? = some o) (K : Act → World → Prop) (a : Act) (w : World) : wpOp P ops Q i K a w = opGo P ops Q o K a w := by
  simp [wpOp, h, opGo]
/-- The operation, carried out or passed over, turns the state so. -/
def Step (P : Program) (ops : Array Oper) (G : Call0) (o : Oper) (m : St) (wr : List (Loc × V)) : Prop :=
  ∀ a w, R G m a w → ∀ (K : Act → World → Prop) (Q : Exit → Act → World → Prop), (∀ a' w', R G (updL m wr) a' w' → K a' w') → opGo P ops Q o K a w
/-- .. in every state that has the same at the places that are read. -/
def Valid (P : Program) (ops : Array Oper) (G : Call0) (o : Oper) (m : St) (e : Eff) : Prop := ∀ m' : St, (∀ l ∈ e.rd, m' l = m l) → Step P ops G o m' e.wr
def HT (P : Program) (G : Call0) (c : Code) (Q : Exit → St → Prop) (m : St) : Prop :=
  ∀ a w, R G m a w → c.wp P (fun e a' w' => ∃ m', R G m' a' w' ∧ Q e m') a w
def thenQ (K : St → Prop) (Q : Exit → St → Prop) : Exit → St → Prop
  | .normal, m => K m
  | e, m => Q e m
def blockQ (id : Nat) (Q : Exit → St → Prop) : Exit → St → Prop
  | .exit i, m => if i = id then Q .normal m else Q (.exit i) m
  | e, m => Q e m
theorem ht_seq {x y : Code} {Q : Exit → St → Prop} {m : St} (h : HT P G x (thenQ (HT P G y Q) Q) m) : HT P G (.seq x y) Q m := by
  intro a w hr
  refine wp_seq (wp_mono (h a w hr) ?_)
  rintro e a' w' ⟨m', h1, h2⟩
  cases e <;> first | exact h2 a' w' h1 | exact ⟨m', h1, h2⟩
theorem ht_skip {Q : Exit → St → Prop} {m : St} (h : Q .normal m) : HT P G .skip Q m := fun a w hr => wp_skip ⟨m, hr, h⟩
theorem ht_ret {Q : Exit → St → Prop} {m : St} (h : Q .ret m) : HT P G .ret Q m := fun a w hr => wp_ret ⟨m, hr, h⟩
theorem ht_exit {id : Nat} {Q : Exit → St → Prop} {m : St} (h : Q (.exit id) m) : HT P G (.exit id) Q m := fun a w hr => wp_exit ⟨m, hr, h⟩
theorem ht_block {id : Nat} {c : Code} {Q : Exit → St → Prop} {m : St} (h : HT P G c (blockQ id Q) m) : HT P G (.block id c) Q m := by
  intro a w hr
  refine wp_block (wp_mono (h a w hr) ?_)
  rintro e a' w' ⟨m', h1, h2⟩
  cases e with
  | exit i =>
    simp only [blockQ] at h2
    simp only [Exit.inBlock]
    by_cases hi : i = id
    · rw [if_pos hi] at h2 ⊢; exact ⟨m', h1, h2⟩
    · rw [if_neg hi] at h2 ⊢; exact ⟨m', h1, h2⟩
  | _ => exact ⟨m', h1, h2⟩
/-- What an operand is. -/
def evO (m : St) : Operand → V
  | .tmp t => m (.t t)
  | .const v => .d (.s v)
  | .global g => .d (.s (.pointer (some ⟨g, 0, none⟩)))
  | .func f => .fn f []
def lo : Operand → List Loc
  | .tmp t => [.t t]
  | _ => []
theorem evO_congr {m m' : St} {x : Operand} (h : ∀ l ∈ lo x, m' l = m l) : evO m' x = evO m x := by
  cases x with
  | tmp t => exact h _ (by simp [lo])
  | _ => rfl
theorem RR.ev {φ : Phi} {m : St} {a : Act} {w : World} (h : RR G φ m a w) (x : Operand) : RepV φ (okOf G φ m w) w (a.eval x) (evO m x) := by
  cases x with
  | tmp t => exact h.slots t
  | const v => exact .d (.s v)
  | global g => exact .d (.s _)
  | func f => exact .fn f #[] [] rfl (fun i v c h => by simp at h)
theorem ht_cond {c : Operand} {x y : Code} {Q : Exit → St → Prop} {m : St} {b : Bool} (hc : evO m c = .d (.s (.bool b))) (ht : b = true → HT P G x Q m) (hf : b = false → HT P G y Q m) : HT P G (.cond c x y) Q m := by
  intro a w hr
  obtain ⟨φ, h⟩ := hr
  have he := h.ev c
  rw [hc] at he
  have hb : a.eval c = .bool b := by
    generalize a.eval c = v at he ⊢
    cases he with | d hd => cases hd; rfl
  exact wp_cond_split hb (fun e => ht e a w ⟨φ, h⟩) (fun e => hf e a w ⟨φ, h⟩)
def SQ (P : Program) (ops : Array Oper) (G : Call0) : List Oper → (St → Prop) → St → Prop
  | [], K, m => K m
  | o :: r, K, m => ∀ a w, R G m a w → ∀ (Kc : Act → World → Prop) (Qc : Exit → Act → World → Prop), (∀ m' a' w', R G m' a' w' → SQ P ops G r K m' → Kc a' w') → opGo P ops Qc o Kc a w
theorem sq_nil {K : St → Prop} {m : St} (h : K m) : SQ P ops G [] K m := h
theorem sq_cons {o : Oper} {r : List Oper} {K : St → Prop} {m : St} (e : Eff) (hv : Valid P ops G o m e) (h : SQ P ops G r K (updL m e.wr)) : SQ P ops G (o :: r) K m :=
  fun a w hr Kc Qc hk => hv m (fun _ _ => rfl) a w hr Kc Qc (fun a' w' hr' => hk _ a' w' hr' h)
theorem wpOps_sq {Q : Exit → St → Prop} : ∀ (r : List Oper) (k : Nat), (∀ j, r[j]? = ops[k + j]?) → ∀ (m : St) (a : Act) (w : World), R G m a w → SQ P ops G r (Q .normal) m →
    wpOps P ops (fun e a' w' => ∃ m', R G m' a' w' ∧ Q e m') (List.range' k r.length) a w
  | [], _, _, m, a, w, hr, h => ⟨m, hr, h⟩
  | o :: r, k, hk, m, a, w, hr, h => by
    have h0 : ops[k]? = some o := by have := hk 0; simpa using this.symm
    rw [List.length_cons, List.range'_succ, wpOps_cons, wpOp_some h0]
    refine h a w hr _ _ (fun m' a' w' hr' h' => ?_)
    exact wpOps_sq r (k + 1) (fun j => by have := hk (j + 1); simpa [Nat.add_assoc, Nat.add_comm 1] using this) m' a' w' hr' h'
theorem ht_region {id : Nat} {Q : Exit → St → Prop} {m : St} (h : SQ P ops G ops.toList (Q .normal) m) : HT P G (.region id ops false) Q m := by
  intro a w hr
  refine wp_region ?_
  have := wpOps_sq (P := P) (ops := ops) (G := G) (Q := Q) ops.toList 0 (fun j => by simp) m a w hr h
  rwa [Array.length_toList, ← List.range_eq_range'] at this
theorem updL_notin {l : Loc} : ∀ {wr : List (Loc × V)} {m : St}, l ∉ wr.map (·.1) → updL m wr l = m l
  | [], _, _ => rfl
  | p :: r, m, h => by
    simp only [List.map_cons, List.mem_cons, not_or] at h
    rw [updL, updL_notin h.2, upd_ne _ _ h.1]
theorem updL_congr {l : Loc} : ∀ {wr : List (Loc × V)} {m m' : St}, m l = m' l → updL m wr l = updL m' wr l
  | [], _, _, h => h
  | p :: r, m, m', h => by
    rw [updL, updL]
    refine updL_congr ?_
    by_cases e : l = p.1
    · subst e; rw [upd_self, upd_self]
    · rw [upd_ne _ _ e, upd_ne _ _ e]; exact h
theorem updL_in {l : Loc} : ∀ {wr : List (Loc × V)} {m m' : St}, l ∈ wr.map (·.1) → updL m wr l = updL m' wr l
  | [], _, _, h => by simp at h
  | p :: r, m, m', h => by
    rw [updL, updL]
    by_cases e : l = p.1
    · exact updL_congr (by subst e; rw [upd_self, upd_self])
    · refine updL_in ?_
      simp only [List.map_cons, List.mem_cons] at h
      exact h.resolve_left e
def ml : List (List (Loc × V)) → Nat → (Nat → Bool) → St → St
  | [], _, _, m => m
  | wr :: r, i, L, m => ml r (i + 1) L (if L i then updL m wr else m)
theorem ml_agree {l : Loc} {L L' : Nat → Bool} : ∀ (es : List (List (Loc × V))) (i : Nat) (m m' : St), (∀ j wr, es[j]? = some wr → l ∈ wr.map (·.1) → L (i + j) = L' (i + j)) → m l = m' l → ml es i L m l = ml es i L' m' l
  | [], _, _, _, _, h => h
  | wr :: r, i, m, m', hd, h => by
    rw [ml, ml]
    refine ml_agree r (i + 1) _ _ (fun j wr' hj hl => by have := hd (j + 1) wr' (by simpa using hj) hl; rwa [show i + (j + 1) = i + 1 + j by omega] at this) ?_
    by_cases hl : l ∈ wr.map (·.1)
    · have e := hd 0 wr rfl hl
      simp only [Nat.add_zero] at e
      rw [e]
      split
      · exact updL_in hl
      · exact h
    · have e1 : (if L i then updL m wr else m) l = m l := by split <;> first | exact updL_notin hl | rfl
      have e2 : (if L' i then updL m' wr else m') l = m' l := by split <;> first | exact updL_notin hl | rfl
      rw [e1, e2]; exact h
theorem ml_none {l : Loc} {L : Nat → Bool} : ∀ (es : List (List (Loc × V))) (i : Nat) (m : St), (∀ j wr, es[j]? = some wr → l ∈ wr.map (·.1) → L (i + j) = false) → ml es i L m l = m l
  | [], _, _, _ => rfl
  | wr :: r, i, m, hd => by
    rw [ml, ml_none r (i + 1) _ (fun j wr' hj hl => by have := hd (j + 1) wr' (by simpa using hj) hl; rwa [show i + (j + 1) = i + 1 + j by omega] at this)]
    by_cases hl : l ∈ wr.map (·.1)
    · have e := hd 0 wr rfl hl
      simp only [Nat.add_zero] at e
      rw [e]; rfl
    · split <;> first | exact updL_notin hl | rfl
def on1 (L : Nat → Bool) (i : Nat) : Nat → Bool := fun j => if j = i then true else L j
theorem ml_take {l : Loc} {L : Nat → Bool} : ∀ (es : List (List (Loc × V))) (s k : Nat) (wr : List (Loc × V)) (m : St), es[k]? = some wr → L (s + k) = false →
    (∀ j wr', k < j → es[j]? = some wr' → l ∈ wr'.map (·.1) → l ∈ wr.map (·.1) → L (s + j) = false) → ml es s (on1 L (s + k)) m l = updL (ml es s L m) wr l
  | [], _, _, _, _, h, _, _ => by simp at h
  | w0 :: r, s, 0, wr, m, h, h0, hd => by
    simp only [List.getElem?_cons_zero, Option.some.injEq] at h
    subst h
    simp only [Nat.add_zero] at h0 ⊢
    rw [ml, ml, h0]
    have e1 : on1 L s s = true := by simp [on1]
    rw [e1]
    simp only [if_true, Bool.false_eq_true, if_false]
    have hL : ∀ j, on1 L s (s + 1 + j) = L (s + 1 + j) := fun j => by simp [on1]; omega
    by_cases hl : l ∈ w0.map (·.1)
    · rw [ml_none r (s + 1) (updL m w0) (fun j wr' hj hl' => by rw [hL]; have := hd (j + 1) wr' (by omega) (by simpa using hj) hl' hl; rwa [show s + (j + 1) = s + 1 + j by omega] at this)]
      exact updL_in hl
    · rw [updL_notin hl]
      exact ml_agree r (s + 1) _ _ (fun j _ _ _ => hL j) (updL_notin hl)
  | w0 :: r, s, k + 1, wr, m, h, h0, hd => by
    rw [ml, ml]
    have e1 : on1 L (s + (k + 1)) s = L s := by simp [on1]
    rw [e1]
    have := ml_take (l := l) (L := L) r (s + 1) k wr (if L s then updL m w0 else m) (by simpa using h) (by rwa [show s + 1 + k = s + (k + 1) by omega])
      (fun j wr' hk hj hl hl' => by have := hd (j + 1) wr' (by omega) (by simpa using hj) hl hl'; rwa [show s + 1 + j = s + (j + 1) by omega])
    rwa [show s + 1 + k = s + (k + 1) by omega] at this
abbrev LL := List (List Loc × List Loc)
def RG (P : Program) (ops : Array Oper) (G : Call0) : List Oper → LL → (LL → St → Prop) → St → Prop
  | [], acc, K, m => K acc m
  | o :: r, acc, K, m => ∃ e, Valid P ops G o m e ∧ RG P ops G r (acc ++ [(e.rd, e.wr.map (·.1))]) K (updL m e.wr)
theorem rg_nil {acc : LL} {K : LL → St → Prop} {m : St} (h : K acc m) : RG P ops G [] acc K m := h
theorem rg_cons {o : Oper} {r : List Oper} {acc : LL} {K : LL → St → Prop} {m : St} (e : Eff) (hv : Valid P ops G o m e) (h : RG P ops G r (acc ++ [(e.rd, e.wr.map (·.1))]) K (updL m e.wr)) : RG P ops G (o :: r) acc K m := ⟨e, hv, h⟩
def needs (o : Oper) : List Nat := (o.after.toList.filter (fun e => Region.binds .any e)).map (·.on)
/-- For each operation: what must have come up ahead of it, as bits. -/
def mask (acc : List Nat) : List Nat → Nat
  | [] => 0
  | j :: r => ((1 <<< j) ||| (acc[j]?.getD 0)) ||| mask acc r
def befs : List Oper → List Nat → List Nat
  | [], acc => acc
  | o :: r, acc => befs r (acc ++ [mask acc (needs o)])
theorem mask_bit (acc : List Nat) (x : Nat) : ∀ (l : List Nat), (mask acc l).testBit x = true → x ∈ l ∨ ∃ j ∈ l, (acc[j]?.getD 0).testBit x = true
  | [], h => by simp [mask] at h
  | j :: r, h => by
    rw [mask, Nat.testBit_or, Nat.testBit_or, Bool.or_eq_true, Bool.or_eq_true] at h
    rcases h with (h | h) | h
    · rw [Nat.testBit_shiftLeft, Bool.and_eq_true] at h
      have h1 : j ≤ x := by simpa using h.1
      have h2 : (1 : Nat).testBit (x - j) = true := h.2
      have : x - j = 0 := by
        rcases Nat.eq_zero_or_pos (x - j) with e | e
        · exact e
        · obtain ⟨n, hn⟩ : ∃ n, x - j = n + 1 := ⟨x - j - 1, by omega⟩
          rw [hn, Nat.testBit_succ] at h2
          simp at h2
      have e : x = j := by omega
      subst e; exact .inl (by simp)
    · exact .inr ⟨j, by simp, h⟩
    · rcases mask_bit acc x r h with h | ⟨k, h1, h2⟩
      · exact .inl (by simp [h])
      · exact .inr ⟨k, by simp [h1], h2⟩
def apartB (xs ys : List Loc) : Bool := xs.all fun l => ys.all fun y => !Loc.same l y
def pairB (B : List Nat) (acc : LL) (i j : Nat) : Bool :=
  (B[j]?.getD 0).testBit i || match acc[i]?, acc[j]? with
    | some p, some q => apartB p.2 q.1 && apartB q.2 p.1 && apartB p.2 q.2
    | _, _ => true
def chk (l : List Oper) (acc : LL) : Bool :=
  ((List.range l.length).all fun j => ((l[j]?.map needs).getD []).all (· < j)) &&
  ((List.range l.length).all fun j => (List.range j).all fun i => pairB (befs l []) acc i j)
def DC (l : List Oper) (L : Nat → Bool) : Prop := ∀ j o, l[j]? = some o → L j = true → ∀ x ∈ needs o, L x = true
theorem befs_ok (L : Nat → Bool) : ∀ (l : List Oper) (acc : List Nat), (∀ j o, l[j]? = some o → L (acc.length + j) = true → ∀ x ∈ needs o, L x = true) →
    (∀ (j : Nat) bs, acc[j]? = some bs → L j = true → ∀ x, bs.testBit x = true → L x = true) → ∀ (j : Nat) bs, (befs l acc)[j]? = some bs → L j = true → ∀ x, bs.testBit x = true → L x = true
  | [], _, _, h => h
  | o :: r, acc, hl, h => by
    rw [befs]
    refine befs_ok L r _ (fun j o' hj hL => hl (j + 1) o' (by simpa using hj) (by simp only [List.length_append, List.length_singleton] at hL; rwa [show acc.length + (j + 1) = acc.length + 1 + j by omega])) ?_
    intro j bs hj hL x hx
    by_cases hlt : j < acc.length
    · rw [List.getElem?_append_left hlt] at hj; exact h j bs hj hL x hx
    · rw [List.getElem?_append_right (by omega)] at hj
      have e : j - acc.length = 0 := by
        rcases Nat.eq_zero_or_pos (j - acc.length) with h0 | h0
        · exact h0
        · rw [List.getElem?_eq_none (by simp; omega)] at hj; cases hj
      rw [e] at hj
      simp only [List.getElem?_cons_zero, Option.some.injEq] at hj
      subst hj
      have hn := hl 0 o rfl (by rwa [show acc.length + 0 = j by omega])
      rcases mask_bit acc x _ hx with hx | ⟨y, hy, hx⟩
      · exact hn x hx
      · cases hq : acc[y]? with
        | none => rw [hq] at hx; simp at hx
        | some b => rw [hq] at hx; exact h y b hq (hn y hy) x hx
theorem befs_lt : ∀ (l : List Oper) (acc : List Nat), (∀ (j : Nat) o, l[j]? = some o → ∀ x ∈ needs o, x < acc.length + j) →
    (∀ (j : Nat) bs, acc[j]? = some bs → ∀ x, bs.testBit x = true → x < j) → ∀ (j : Nat) bs, (befs l acc)[j]? = some bs → ∀ x, bs.testBit x = true → x < j
  | [], _, _, h => h
  | o :: r, acc, hl, h => by
    rw [befs]
    refine befs_lt r _ (fun j o' hj x hx => by have := hl (j + 1) o' (by simpa using hj) x hx; simp only [List.length_append, List.length_singleton]; omega) ?_
    intro j bs hj x hx
    by_cases hlt : j < acc.length
    · rw [List.getElem?_append_left hlt] at hj; exact h j bs hj x hx
    · rw [List.getElem?_append_right (by omega)] at hj
      have e : j - acc.length = 0 := by
        rcases Nat.eq_zero_or_pos (j - acc.length) with h0 | h0
        · exact h0
        · rw [List.getElem?_eq_none (by simp; omega)] at hj; cases hj
      rw [e] at hj
      simp only [List.getElem?_cons_zero, Option.some.injEq] at hj
      subst hj
      have hn := hl 0 o rfl
      rcases mask_bit acc x _ hx with hx | ⟨y, hy, hx⟩
      · have := hn x hx; omega
      · cases hq : acc[y]? with
        | none => rw [hq] at hx; simp at hx
        | some b => rw [hq] at hx; have := h y b hq x hx; have := hn y hy; omega
theorem apartB_spec {xs ys : List Loc} (h : apartB xs ys = true) {l : Loc} (h1 : l ∈ xs) (h2 : l ∈ ys) : False := by
  have := List.all_eq_true.1 (List.all_eq_true.1 h l h1) l h2
  rw [(Loc.same_iff l l).2 rfl] at this
  simp at this
end
section
variable {P : Program} {ops : Array Oper} {G : Call0}
theorem ml_append (L : Nat → Bool) : ∀ (a b : List (List (Loc × V))) (i : Nat) (m : St), ml (a ++ b) i L m = ml b (i + a.length) L (ml a i L m)
  | [], b, i, m => by simp [ml]
  | x :: a, b, i, m => by
    rw [List.cons_append, ml, ml, ml_append L a b, List.length_cons, show i + (a.length + 1) = i + 1 + a.length by omega]
theorem ml_off (L : Nat → Bool) : ∀ (b : List (List (Loc × V))) (i : Nat) (m : St), (∀ j, i ≤ j → L j = false) → ml b i L m = m
  | [], _, _, _ => rfl
  | x :: b, i, m, h => by rw [ml, h i (Nat.le_refl _)]; exact ml_off L b (i + 1) m (fun j hj => h j (by omega))
theorem ml_ext {L L' : Nat → Bool} : ∀ (b : List (List (Loc × V))) (i : Nat) (m : St), (∀ j, i ≤ j → j < i + b.length → L j = L' j) → ml b i L m = ml b i L' m
  | [], _, _, _ => rfl
  | x :: b, i, m, h => by
    rw [ml, ml, h i (Nat.le_refl _) (by simp)]
    exact ml_ext b (i + 1) _ (fun j hj hlt => h j (by omega) (by simp; omega))
theorem ml_upto (pre post : List (List (Loc × V))) (m : St) : ml (pre ++ post) 0 (fun i => decide (i < pre.length)) m = ml pre 0 (fun _ => true) m := by
  rw [ml_append, ml_off _ _ _ _ (fun j hj => by simp; omega)]
  exact ml_ext _ _ _ (fun j _ hj => by simp; omega)
theorem rg_laid {K : LL → St → Prop} {m0 : St} : ∀ (r : List Oper) (pre : List Eff) (m : St), (∀ j, r[j]? = ops[pre.length + j]?) → m = ml (pre.map (·.wr)) 0 (fun _ => true) m0 →
    (∀ (j : Nat) (o : Oper) (e : Eff), ops[j]? = some o → pre[j]? = some e → Valid P ops G o (ml ((pre.take j).map (·.wr)) 0 (fun _ => true) m0) e) →
    RG P ops G r (pre.map fun e => (e.rd, e.wr.map (·.1))) K m →
    ∃ es : List Eff, es.length = pre.length + r.length ∧ (∀ (j : Nat) (o : Oper) (e : Eff), ops[j]? = some o → es[j]? = some e → Valid P ops G o (ml ((es.take j).map (·.wr)) 0 (fun _ => true) m0) e) ∧
      K (es.map fun e => (e.rd, e.wr.map (·.1))) (ml (es.map (·.wr)) 0 (fun _ => true) m0)
  | [], pre, m, _, hm, hv, h => ⟨pre, by simp, hv, by subst hm; exact h⟩
  | o :: r, pre, m, hr, hm, hv, h => by
    obtain ⟨e, he, h⟩ := h
    have h0 : ops[pre.length]? = some o := by have := hr 0; simpa using this.symm
    have hm' : updL m e.wr = ml ((pre ++ [e]).map (·.wr)) 0 (fun _ => true) m0 := by
      rw [List.map_append, ml_append, ← hm]; simp [ml]
    obtain ⟨es, h1, h2, h3⟩ := rg_laid r (pre ++ [e]) (updL m e.wr) (fun j => by have := hr (j + 1); simpa [Nat.add_assoc, Nat.add_comm 1] using this) hm'
      (fun j o' e' hj hj' => by
        by_cases hlt : j < pre.length
        · rw [List.getElem?_append_left hlt] at hj'
          rw [List.take_append_of_le_length (by omega)]
          exact hv j o' e' hj hj'
        · rw [List.getElem?_append_right (by omega)] at hj'
          have e0 : j - pre.length = 0 := by
            rcases Nat.eq_zero_or_pos (j - pre.length) with h0 | h0
            · exact h0
            · rw [List.getElem?_eq_none (by simp; omega)] at hj'; cases hj'
          rw [e0] at hj'
          simp only [List.getElem?_cons_zero, Option.some.injEq] at hj'
          subst hj'
          have ej : j = pre.length := by omega
          subst ej
          rw [h0] at hj
          cases hj
          rw [List.take_left, ← hm]
          exact he)
      (by rw [List.map_append]; exact h)
    exact ⟨es, by rw [h1]; simp; omega, h2, h3⟩
theorem count_set : ∀ (l : List Bool) (i : Nat), l[i]? = some false → (l.set i true).count false + 1 = l.count false
  | [], _, h => by simp at h
  | b :: l, 0, h => by
    simp only [List.getElem?_cons_zero, Option.some.injEq] at h
    subst h
    simp
  | b :: l, i + 1, h => by
    have := count_set l i (by simpa using h)
    rw [List.set_cons_succ, List.count_cons, List.count_cons]
    omega
theorem chk_needs {l : List Oper} {acc : LL} (h : chk l acc = true) {j : Nat} {o : Oper} (ho : l[j]? = some o) {x : Nat} (hx : x ∈ needs o) : x < j := by
  unfold chk at h
  rw [Bool.and_eq_true] at h
  have hj : j < l.length := (List.getElem?_eq_some_iff.1 ho).1
  have := List.all_eq_true.1 h.1 j (List.mem_range.2 hj)
  rw [ho] at this
  simpa using List.all_eq_true.1 this x hx
theorem chk_pair {l : List Oper} {acc : LL} (h : chk l acc = true) {i j : Nat} (hij : i < j) (hj : j < l.length) : pairB (befs l []) acc i j = true := by
  unfold chk at h
  rw [Bool.and_eq_true] at h
  exact List.all_eq_true.1 (List.all_eq_true.1 h.2 j (List.mem_range.2 hj)) i (List.mem_range.2 hij)
/-- Whatever order is picked. -/
theorem any_order {Q : Exit → St → Prop} {m0 : St} {es : List Eff} (hlen : es.length = ops.size)
    (hv : ∀ (j : Nat) (o : Oper) (e : Eff), ops[j]? = some o → es[j]? = some e → Valid P ops G o (ml ((es.take j).map (·.wr)) 0 (fun _ => true) m0) e)
    (hc : chk ops.toList (es.map fun e => (e.rd, e.wr.map (·.1))) = true) (hq : Q .normal (ml (es.map (·.wr)) 0 (fun _ => true) m0)) :
    ∀ (fuel : Nat) (listed : Array Bool), listed.size = ops.size → listed.toList.count false = fuel → DC ops.toList (fun i => listed.getD i false) → ∀ (a : Act) (w : World),
      R G (ml (es.map (·.wr)) 0 (fun i => listed.getD i false) m0) a w → wpAny P .any ops (fun e a' w' => ∃ m', R G m' a' w' ∧ Q e m') fuel listed a w := by
  have hfull : ∀ (listed : Array Bool), listed.size = ops.size → (∀ i, i < ops.size → listed.getD i false = true) → ml (es.map (·.wr)) 0 (fun i => listed.getD i false) m0 = ml (es.map (·.wr)) 0 (fun _ => true) m0 := fun listed hs h =>
    ml_ext _ _ _ (fun j _ hj => h j (by simp only [List.length_map, Nat.zero_add] at hj; omega))
  have hready : ∀ (listed : Array Bool), listed.size = ops.size → Region.ready .any ops listed = [] → ∀ i, i < ops.size → listed.getD i false = true := by
    intro listed hs hr i
    induction i using Nat.strongRecOn with
    | _ i ih =>
      intro hi
      cases hli : listed.getD i false with
      | true => rfl
      | false =>
        exfalso
        have ho : ops[i]? = some ops[i] := by simp
        have hm : i ∈ Region.ready .any ops listed := by
          rw [mem_ready]
          refine ⟨?_, _, ho, fun e he hb => ?_⟩
          · rw [Array.getD_eq_getD_getElem?, Array.getElem?_eq_getElem (by omega)] at hli ⊢; simpa using hli
          · have hx : e.on ∈ needs ops[i] := by
              unfold needs
              exact List.mem_map.2 ⟨e, List.mem_filter.2 ⟨by simpa using he, hb⟩, rfl⟩
            have hlt := chk_needs hc (j := i) (o := ops[i]) (by rw [Array.getElem?_toList]; exact ho) hx
            exact ih e.on hlt (by omega)
        rw [hr] at hm; cases hm
  intro fuel
  induction fuel with
  | zero =>
    intro listed hs hcnt hdc a w hR
    have hall : ∀ i, i < ops.size → listed.getD i false = true := by
      intro i hi
      have hm : false ∉ listed.toList := by rw [← List.count_eq_zero]; exact hcnt
      rw [Array.getD_eq_getD_getElem?, Array.getElem?_eq_getElem (by omega)]
      cases hb : listed[i] with
      | true => rfl
      | false => exact absurd (by rw [← hb]; simp) hm
    refine ⟨?_, _, by rw [← hfull listed hs hall]; exact hR, hq⟩
    cases hr : Region.ready .any ops listed with
    | nil => rfl
    | cons i r =>
      have hm : i ∈ Region.ready .any ops listed := by rw [hr]; simp
      rw [mem_ready] at hm
      obtain ⟨h1, o, ho, _⟩ := hm
      have hi : i < ops.size := (Array.getElem?_eq_some_iff.1 ho).1
      have := hall i hi
      rw [Array.getD_eq_getD_getElem?, Array.getElem?_eq_getElem (by omega)] at this h1
      simp at this h1
      rw [this] at h1; cases h1
  | succ fuel ih =>
    intro listed hs hcnt hdc a w hR
    refine ⟨fun hr => ⟨_, by rw [← hfull listed hs (hready listed hs hr)]; exact hR, hq⟩, fun i hi => ?_⟩
    rw [mem_ready] at hi
    obtain ⟨hli, o, ho, hn⟩ := hi
    have hlt : i < ops.size := (Array.getElem?_eq_some_iff.1 ho).1
    have hli' : listed.getD i false = false := by
      rw [Array.getD_eq_getD_getElem?, Array.getElem?_eq_getElem (by omega)] at hli ⊢; simpa using hli
    have hoL : ops.toList[i]? = some o := by simpa using ho
    have hneeds : ∀ x ∈ needs o, listed.getD x false = true := by
      intro x hx
      unfold needs at hx
      obtain ⟨e, he, rfl⟩ := List.mem_map.1 hx
      obtain ⟨he, hb⟩ := List.mem_filter.1 he
      exact hn e (by simpa using he) hb
    obtain ⟨e, he⟩ : ∃ e, es[i]? = some e := ⟨es[i]'(by omega), by simp⟩
    rw [wpOp_some ho]
    have hbef : ∀ (j : Nat), j < ops.size → listed.getD j false = true → ∀ x, ((befs ops.toList [])[j]?.getD 0).testBit x = true → listed.getD x false = true := by
      intro j hj hLj x hx
      cases hb : (befs ops.toList [])[j]? with
      | none => rw [hb] at hx; simp at hx
      | some bs =>
        rw [hb] at hx
        exact befs_ok (fun i => listed.getD i false) ops.toList [] (fun j o hj hL => hdc j o hj (by simpa using hL)) (fun j bs h => by simp at h) j bs hb hLj x hx
    have hbefi : ∀ x, ((befs ops.toList [])[i]?.getD 0).testBit x = true → listed.getD x false = true := by
      intro x hx
      cases hb : (befs ops.toList [])[i]? with
      | none => rw [hb] at hx; simp at hx
      | some bs =>
        rw [hb] at hx
        have := befs_ok (on1 (fun i => listed.getD i false) i) ops.toList [] (fun j o' hj hL y hy => by
            simp only [List.length_nil, Nat.zero_add] at hL
            unfold on1 at hL ⊢
            by_cases hji : j = i
            · subst hji
              rw [hoL] at hj; cases hj
              have := hneeds y hy
              split <;> simp_all
            · rw [if_neg hji] at hL
              have := hdc j o' hj hL y hy
              split <;> simp_all) (fun j bs h => by simp at h) i bs hb (by simp [on1]) x hx
        unfold on1 at this
        by_cases hxi : x = i
        · subst hxi
          -- an operation isn't ahead of itself
          exfalso
          have hself : ∀ (j : Nat) bs, (befs ops.toList [])[j]? = some bs → ∀ y, bs.testBit y = true → y < j := by
            have := befs_lt ops.toList [] (fun j o' hj y hy => by simpa using chk_needs hc hj hy) (fun j bs h => by simp at h)
            exact this
          exact absurd (hself _ bs hb _ hx) (Nat.lt_irrefl _)
        · rw [if_neg hxi] at this; exact this
    -- comparable with i, or apart from it
    have hcmp : ∀ (j : Nat) (e' : Eff), j ≠ i → es[j]? = some e' → (∃ l, l ∈ e'.wr.map (·.1) ∧ (l ∈ e.rd ∨ l ∈ e.wr.map (·.1))) → (j < i ∧ listed.getD j false = true) ∨ (i < j ∧ listed.getD j false = false) := by
      intro j e' hji he' ⟨l, hl, hl'⟩
      have hj : j < ops.size := by have := (List.getElem?_eq_some_iff.1 he').1; omega
      rcases Nat.lt_or_gt_of_ne hji with h | h
      · have := chk_pair hc h (by simpa using hlt)
        unfold pairB at this
        rw [Bool.or_eq_true] at this
        rcases this with hb | hb
        · exact .inl ⟨h, hbefi j (by simpa using hb)⟩
        · rw [List.getElem?_map, List.getElem?_map, he, he'] at hb
          simp only [Option.map_some, Bool.and_eq_true] at hb
          rcases hl' with hl' | hl'
          · exact (apartB_spec hb.1.1 hl hl').elim
          · exact (apartB_spec hb.2 hl hl').elim
      · have := chk_pair hc h (by simpa using hj)
        unfold pairB at this
        rw [Bool.or_eq_true] at this
        rcases this with hb | hb
        · refine .inr ⟨h, ?_⟩
          cases hLj : listed.getD j false with
          | false => rfl
          | true =>
            have := hbef j hj hLj i (by simpa using hb)
            rw [hli'] at this; cases this
        · rw [List.getElem?_map, List.getElem?_map, he, he'] at hb
          simp only [Option.map_some, Bool.and_eq_true] at hb
          rcases hl' with hl' | hl'
          · exact (apartB_spec hb.1.2 hl hl').elim
          · exact (apartB_spec hb.2 hl' hl).elim
    have hvalid := hv i o e ho he
    rw [List.map_take] at hvalid
    have hagree : ∀ l ∈ e.rd, ml (es.map (·.wr)) 0 (fun i => listed.getD i false) m0 l = ml ((es.map (·.wr)).take i) 0 (fun _ => true) m0 l := by
      intro l hl
      have e1 : ml ((es.map (·.wr)).take i) 0 (fun _ => true) m0 = ml (es.map (·.wr)) 0 (fun j => decide (j < i)) m0 := by
        have := ml_upto ((es.map (·.wr)).take i) ((es.map (·.wr)).drop i) m0
        rw [List.take_append_drop, List.length_take, List.length_map, Nat.min_eq_left (by omega)] at this
        exact this.symm
      rw [e1]
      refine ml_agree _ _ _ _ (fun j wr hj hlw => ?_) rfl
      rw [List.getElem?_map, Option.map_eq_some_iff] at hj
      obtain ⟨e', he', rfl⟩ := hj
      simp only [Nat.zero_add]
      by_cases hji : j = i
      · subst hji; rw [hli']; simp
      · rcases hcmp j e' hji he' ⟨l, hlw, .inl hl⟩ with ⟨h1, h2⟩ | ⟨h1, h2⟩
        · rw [h2]; simp [h1]
        · rw [h2]; simp; omega
    refine hvalid _ hagree a w hR _ _ (fun a' w' hR' => ?_)
    refine ih (listed.setIfInBounds i true) (by simp [hs]) ?_ ?_ a' w' ?_
    · have := count_set listed.toList i (by rw [Array.getElem?_toList, Array.getElem?_eq_getElem (by omega)]; rw [Array.getD_eq_getD_getElem?, Array.getElem?_eq_getElem (by omega)] at hli'; simpa using hli')
      rw [Array.toList_setIfInBounds]
      omega
    · intro j o' hj hL x hx
      by_cases hji : j = i
      · subst hji
        rw [hoL] at hj; cases hj
        exact getD_set_true (hneeds x hx)
      · have hL' : (listed.setIfInBounds i true).getD j false = true := hL
        rw [getD_set_ne _ (Ne.symm hji)] at hL'
        exact getD_set_true (hdc j o' hj hL' x hx)
    · have : ml (es.map (·.wr)) 0 (fun j => (listed.setIfInBounds i true).getD j false) m0 = updL (ml (es.map (·.wr)) 0 (fun i => listed.getD i false) m0) e.wr := by
        funext l
        have hon : (fun j => (listed.setIfInBounds i true).getD j false) = on1 (fun i => listed.getD i false) (0 + i) := by
          funext j
          unfold on1
          rw [Nat.zero_add]
          by_cases hji : j = i
          · subst hji
            rw [if_pos rfl, Array.getD_eq_getD_getElem?, Array.getElem?_setIfInBounds_self_of_lt (by omega)]; rfl
          · rw [if_neg hji, getD_set_ne _ (Ne.symm hji)]
        rw [hon]
        refine ml_take _ 0 i e.wr m0 (by rw [List.getElem?_map, he]; rfl) (by simpa using hli') (fun j wr hij hj hl hl' => ?_)
        rw [List.getElem?_map, Option.map_eq_some_iff] at hj
        obtain ⟨e', he', rfl⟩ := hj
        simp only [Nat.zero_add]
        rcases hcmp j e' (by omega) he' ⟨l, hl, .inr hl'⟩ with ⟨h1, h2⟩ | ⟨h1, h2⟩
        · omega
        · exact h2
      rw [this]; exact hR'
theorem ht_region_draw {id : Nat} {Q : Exit → St → Prop} {m : St} (hm : P.follows .mixedOrders = true)
    (h : RG P ops G ops.toList [] (fun acc m' => chk ops.toList acc = true ∧ Q .normal m') m) : HT P G (.region id ops true) Q m := by
  intro a w hr
  obtain ⟨es, h1, h2, h3, h4⟩ := rg_laid (m0 := m) ops.toList [] m (fun j => by simp) rfl (fun j o e _ h => by simp at h) h
  refine wp_region_any hm ?_
  have hlen : es.length = ops.size := by simpa using h1
  obtain ⟨φ, hr⟩ := hr
  refine any_order hlen h2 h3 h4 ops.size (Array.replicate ops.size false) (by simp) (by simp) (fun j o _ h => by simp [Array.getD_eq_getD_getElem?, Array.getElem?_replicate] at h; split at h <;> simp at h) a _ ?_
  have : ml (es.map (·.wr)) 0 (fun i => (Array.replicate ops.size false).getD i false) m = m := by
    refine ml_off _ _ _ _ (fun j _ => ?_)
    simp [Array.getD_eq_getD_getElem?, Array.getElem?_replicate]
    split <;> rfl
  rw [this]
  exact ⟨φ, hr.grow (below_drawn _)⟩
end
end Go.Awp
set_option linter.unusedSimpArgs false
set_option linter.unusedVariables false
namespace Go.Awp
open Go.RowKit
section
variable {P : Program} {ops : Array Oper} {G : Call0}
/-- The cells of a box, one behind the other, from cell o on. -/
def cellsW (id : Nat) : Nat → List V → List (Loc × V)
  | _, [] => []
  | o, c :: r => (.c id o, c) :: cellsW id (o + 1) r
theorem cellsW_other {l : Loc} (id : Nat) : ∀ (cs : List V) (o : Nat) (m : St), (∀ j, o ≤ j → j < o + cs.length → l ≠ .c id j) → updL m (cellsW id o cs) l = m l
  | [], _, _, _ => rfl
  | c :: r, o, m, h => by
    rw [cellsW, updL, cellsW_other id r (o + 1) _ (fun j h1 h2 => h j (by omega) (by simp; omega)), upd_ne _ _ (h o (Nat.le_refl _) (by simp))]
theorem cellsW_at (id : Nat) : ∀ (cs : List V) (o : Nat) (m : St) (j : Nat) (c : V), cs[j]? = some c → updL m (cellsW id o cs) (.c id (o + j)) = c
  | [], _, _, _, _, h => by simp at h
  | c0 :: r, o, m, 0, c, h => by
    simp only [List.getElem?_cons_zero, Option.some.injEq] at h
    subst h
    rw [cellsW, updL, cellsW_other id r (o + 1) _ (fun j h1 h2 e => by cases e; omega)]
    exact upd_self _ _ _
  | c0 :: r, o, m, j + 1, c, h => by
    rw [cellsW, updL, show o + (j + 1) = o + 1 + j by omega]
    exact cellsW_at id r (o + 1) _ j c (by simpa using h)
def updPhi (φ : Phi) (id : Nat) (x : Option (Nat × Nat)) : Phi := fun i => if i = id then some x else φ i
theorem updPhi_self (φ : Phi) (id : Nat) (x : Option (Nat × Nat)) : updPhi φ id x id = some x := by simp [updPhi]
theorem updPhi_ne (φ : Phi) {id i : Nat} (x : Option (Nat × Nat)) (h : i ≠ id) : updPhi φ id x i = φ i := by simp [updPhi, h]
theorem heap_alloc_lt {w : World} {o : Obj} {b : Nat} (h : b < w.heap.size) : (w.alloc o).heap[b]? = w.heap[b]? := Below.heap_alloc w o b h
theorem heap_alloc_at (w : World) (o : Obj) : (w.alloc o).heap[w.heap.size]? = some o := by
  show (w.heap.push o)[w.heap.size]? = _
  simp
theorem size_alloc' (w : World) (o : Obj) : (w.alloc o).heap.size = w.heap.size + 1 := by
  show (w.heap.push o).size = _
  simp
theorem below_alloc1 (w : World) (o : Obj) : Below w.heap.size w (w.alloc o) := (Below.refl _ _).alloc (Nat.le_refl _) o
/-- What is known of the other blocks of the call's own goes on, where they and what they lean on is as it was. -/
theorem blk_keep {φ φ' : Phi} {m m' : St} {w w' : World} {ok ok' : Nat → Prop} {i : Nat} (hφ : φ' i = φ i) (hφx : ∀ i x, φ i = some x → φ' i = some x) (hok : ∀ b, ok b → ok' b ∧ w'.heap[b]? = w.heap[b]?)
    (hb : m' (.b i) = m (.b i)) (hc : ∀ j, m' (.c i j) = m (.c i j)) (hheap : ∀ b c, φ i = some (some (b, c)) → w'.heap[b]? = w.heap[b]?) (h : BlkOK φ ok w m i) : BlkOK φ' ok' w' m' i := by
  unfold BlkOK at h ⊢
  rw [hb]
  cases hm : m (.b i) <;> rw [hm] at h <;> first | exact h.elim | (rw [hφ]; exact h) | exact h | skip
  · obtain ⟨b, c, arr, e, h1, h2, h3, h4⟩ := h
    exact ⟨b, c, arr, e, hφx _ _ h1, by rw [hheap b c h1]; exact h2, h3, fun j v hj => by rw [hc]; exact (h4 j v hj).mono hφx hok⟩
  · rcases h with ⟨h1, h2⟩ | ⟨b, cap, arr, h1, h2, h3, h4, h5, h6⟩
    · exact .inl ⟨by rw [hφ]; exact h1, h2⟩
    · refine .inr ⟨b, cap, arr, hφx _ _ h1, by rw [hheap b cap h1]; exact h2, h3, h4, h5, fun x ds hx => ⟨(h6 x ds hx).1, fun j d hj => ?_⟩⟩
      obtain ⟨v, hv1, hv2⟩ := (h6 x ds hx).2 j d hj
      exact ⟨v, hv1, hv2.mono hok⟩
  · obtain ⟨b, c, h1, h2⟩ := h
    exact ⟨b, c, hφx _ _ h1, by rw [hheap b c h1]; exact h2⟩
/-- A new block of the call's own: a box or a row, told by 'wr'. -/
theorem RR.newBlk {φ : Phi} {m m' : St} {a : Act} {w : World} (h : RR G φ m a w) (id cap : Nat) (hid : m (.b id) = .nob) (ob : Obj)
    (ht : ∀ t, m' (.t t) = m (.t t)) (hb : ∀ i, i ≠ id → m' (.b i) = m (.b i)) (hc : ∀ i j, i ≠ id → m' (.c i j) = m (.c i j))
    (hnew : ∀ ok', (∀ b, okOf G φ m w b → ok' b ∧ (w.alloc ob).heap[b]? = w.heap[b]?) → BlkOK (updPhi φ id (some (w.heap.size, cap))) ok' (w.alloc ob) m' id) :
    RR G (updPhi φ id (some (w.heap.size, cap))) m' a (w.alloc ob) := by
  have hφid : φ id = none := by have := h.blk id; unfold BlkOK at this; rw [hid] at this; exact this
  have hφx : ∀ i x, φ i = some x → updPhi φ id (some (w.heap.size, cap)) i = some x := fun i x hi => by
    rw [updPhi_ne _ _ (fun e => by subst e; rw [hφid] at hi; cases hi)]; exact hi
  have hok : ∀ b, okOf G φ m w b → okOf G (updPhi φ id (some (w.heap.size, cap))) m' (w.alloc ob) b ∧ (w.alloc ob).heap[b]? = w.heap[b]? := by
    rintro b ⟨h1, h2, h3⟩
    refine ⟨⟨h1, by rw [size_alloc']; omega, fun i c hi => ?_⟩, heap_alloc_lt h2⟩
    by_cases ei : i = id
    · subst ei
      rw [updPhi_self] at hi
      simp only [Option.some.injEq, Prod.mk.injEq] at hi
      omega
    · rw [updPhi_ne _ _ ei] at hi
      rw [hb i ei]; exact h3 i c hi
  refine ⟨h.below.trans ((below_alloc1 w _).mono h.below.size), h.nodef, h.size, fun t => by rw [ht]; exact (h.slots t).mono hφx hok, fun i b c hi => ?_, fun i j b c c' hi hj hl hij => ?_, fun i => ?_⟩
  · by_cases ei : i = id
    · subst ei
      rw [updPhi_self] at hi
      simp only [Option.some.injEq, Prod.mk.injEq] at hi
      obtain ⟨rfl, _⟩ := hi
      exact ⟨h.below.size, by rw [size_alloc']; omega⟩
    · rw [updPhi_ne _ _ ei] at hi
      have := h.lt i b c hi
      exact ⟨this.1, by rw [size_alloc']; omega⟩
  · by_cases ei : i = id
    · subst ei
      rw [updPhi_self] at hi
      simp only [Option.some.injEq, Prod.mk.injEq] at hi
      obtain ⟨rfl, _⟩ := hi
      rw [updPhi_ne _ _ (Ne.symm hij)] at hj
      have := (h.lt j _ _ hj).2
      omega
    · rw [updPhi_ne _ _ ei] at hi
      by_cases ej : j = id
      · subst ej
        rw [updPhi_self] at hj
        simp only [Option.some.injEq, Prod.mk.injEq] at hj
        have := (h.lt i b c hi).2
        omega
      · rw [updPhi_ne _ _ ej] at hj
        rw [hb i ei] at hl
        rw [hb j ej]; exact h.inj i j b c c' hi hj hl hij
  · by_cases ei : i = id
    · subst ei
      exact hnew _ hok
    · exact blk_keep (updPhi_ne _ _ ei) hφx hok (hb i ei) (fun j => hc i j ei) (fun b c hi => heap_alloc_lt (h.lt i b c hi).2) (h.blk i)
/-- The world turns in one block of the call's own alone, which is live: what is told of all else stands. -/
theorem RR.turn {φ : Phi} {m m' : St} {a : Act} {w w' : World} (h : RR G φ m a w) (id b c : Nat) (hφ : φ id = some (some (b, c))) (hl : (m (.b id)).live = true)
    (ht : ∀ t, m' (.t t) = m (.t t)) (hb : ∀ i, i ≠ id → m' (.b i) = m (.b i)) (hc : ∀ i j, i ≠ id → m' (.c i j) = m (.c i j))
    (hbel : Below G.w0.heap.size G.w0 w') (hsz : w'.heap.size = w.heap.size) (hne : ∀ b', b' ≠ b → w'.heap[b']? = w.heap[b']?)
    (hnew : ∀ ok', (∀ b, okOf G φ m w b → ok' b ∧ w'.heap[b]? = w.heap[b]?) → BlkOK φ ok' w' m' id) : RR G φ m' a w' := by
  have hok : ∀ b', okOf G φ m w b' → okOf G φ m' w' b' ∧ w'.heap[b']? = w.heap[b']? := by
    rintro b' ⟨h1, h2, h3⟩
    have hbb : b' ≠ b := fun e => by subst e; rw [h3 id c hφ] at hl; cases hl
    refine ⟨⟨h1, by rw [hsz]; exact h2, fun i c' hi => ?_⟩, hne b' hbb⟩
    by_cases ei : i = id
    · subst ei
      rw [hφ] at hi
      simp only [Option.some.injEq, Prod.mk.injEq] at hi
      exact absurd hi.1.symm hbb
    · rw [hb i ei]; exact h3 i c' hi
  refine ⟨hbel, h.nodef, h.size, fun t => by rw [ht]; exact (h.slots t).mono (fun _ _ h => h) hok, fun i b c hi => ⟨(h.lt i b c hi).1, by rw [hsz]; exact (h.lt i b c hi).2⟩, fun i j b' c1 c2 hi hj hli hij => ?_, fun i => ?_⟩
  · by_cases ej : j = id
    · subst ej
      have hli' : (m (.b i)).live = true := by rw [← hb i hij]; exact hli
      have := h.inj i j b' c1 c2 hi hj hli' hij
      rw [this] at hl; cases hl
    · rw [hb j ej]
      by_cases ei : i = id
      · subst ei
        exact h.inj i j b' c1 c2 hi hj hl hij
      · rw [hb i ei] at hli
        exact h.inj i j b' c1 c2 hi hj hli hij
  · by_cases ei : i = id
    · subst ei; exact hnew _ hok
    · by_cases hsp : m (.b i) = .spent
      · have : m' (.b i) = .spent := by rw [hb i ei]; exact hsp
        unfold BlkOK; rw [this]; trivial
      · refine blk_keep rfl (fun _ _ h => h) hok (hb i ei) (fun j => hc i j ei) (fun b' c' hi => ?_) (h.blk i)
        refine hne b' (fun e => ?_)
        subst e
        exact hsp (h.inj id i b' c c' hφ hi hl (Ne.symm ei))
/-- Something is forgotten, or made still: the temporaries and the cells tell the same or nothing, the blocks are the same, or still, or spent. -/
def V.weaker (x y : V) : Prop := y = x ∨ y = .top
def blkWeaker (x y : V) : Prop := y = x ∨ (∃ n, x = .box false n ∧ y = .box true n) ∨ (∃ e k es, x = .row false e k es ∧ y = .row true e k es) ∨ (y = .spent ∧ x ≠ .nob)
theorem RR.weaken {φ : Phi} {m m' : St} {a : Act} {w : World} (h : RR G φ m a w) (ht : ∀ t, V.weaker (m (.t t)) (m' (.t t))) (hc : ∀ i j, V.weaker (m (.c i j)) (m' (.c i j))) (hb : ∀ i, blkWeaker (m (.b i)) (m' (.b i))) : RR G φ m' a w := by
  have hlive : ∀ i, (m (.b i)).live = false → (m' (.b i)).live = false := fun i hi => by
    rcases hb i with e | ⟨n, e1, e2⟩ | ⟨e, k, es, e1, e2⟩ | ⟨e, _⟩
    · rw [e]; exact hi
    · rw [e2]; rfl
    · rw [e2]; rfl
    · rw [e]; rfl
  have hok : ∀ b, okOf G φ m w b → okOf G φ m' w b ∧ w.heap[b]? = w.heap[b]? := fun b ⟨h1, h2, h3⟩ => ⟨⟨h1, h2, fun i c hi => hlive i (h3 i c hi)⟩, rfl⟩
  have hv : ∀ {v : Value} {x y : V}, RepV φ (okOf G φ m w) w v x → V.weaker x y → RepV φ (okOf G φ m' w) w v y := fun {v x y} hr hw => by
    rcases hw with e | e
    · rw [e]; exact hr.mono (fun _ _ h => h) hok
    · rw [e]; exact .top v
  refine ⟨h.below, h.nodef, h.size, fun t => hv (h.slots t) (ht t), h.lt, fun i j b c c' hi hj hl hij => ?_, fun i => ?_⟩
  · have hli : (m (.b i)).live = true := by
      cases hq : (m (.b i)).live with
      | true => rfl
      | false => rw [hlive i hq] at hl; cases hl
    have := h.inj i j b c c' hi hj hli hij
    rcases hb j with e | ⟨n, e1, e2⟩ | ⟨e, k, es, e1, e2⟩ | ⟨e, _⟩
    · rw [e]; exact this
    · rw [this] at e1; cases e1
    · rw [this] at e1; cases e1
    · exact e
  · have hi := h.blk i
    unfold BlkOK at hi ⊢
    rcases hb i with e | ⟨n, e1, e2⟩ | ⟨e, k, es, e1, e2⟩ | ⟨e, _⟩
    · rw [e]
      cases hm : m (.b i) <;> rw [hm] at hi <;> first | exact hi.elim | exact hi | skip
      · obtain ⟨b, c, arr, e', h1, h2, h3, h4⟩ := hi
        exact ⟨b, c, arr, e', h1, h2, h3, fun j v hj => hv (h4 j v hj) (hc i j)⟩
      · rcases hi with hi | ⟨b, cap, arr, h1, h2, h3, h4, h5, h6⟩
        · exact .inl hi
        · refine .inr ⟨b, cap, arr, h1, h2, h3, h4, h5, fun x ds hx => ⟨(h6 x ds hx).1, fun j d hj => ?_⟩⟩
          obtain ⟨v, hv1, hv2⟩ := (h6 x ds hx).2 j d hj
          exact ⟨v, hv1, hv2.mono hok⟩
    · rw [e1] at hi
      rw [e2]
      obtain ⟨b, c, arr, e', h1, h2, h3, h4⟩ := hi
      exact ⟨b, c, arr, e', h1, h2, h3, fun j v hj => hv (h4 j v hj) (hc i j)⟩
    · rw [e1] at hi
      rw [e2]
      rcases hi with hi | ⟨b, cap, arr, h1, h2, h3, h4, h5, h6⟩
      · exact .inl hi
      · refine .inr ⟨b, cap, arr, h1, h2, h3, h4, h5, fun x ds hx => ⟨(h6 x ds hx).1, fun j d hj => ?_⟩⟩
        obtain ⟨v, hv1, hv2⟩ := (h6 x ds hx).2 j d hj
        exact ⟨v, hv1, hv2.mono hok⟩
    · rw [e]; trivial
/-- One state tells no more than another. -/
def Wk (G : Call0) (m m' : St) : Prop := ∀ a w, R G m a w → R G m' a w
theorem Wk.refl (m : St) : Wk G m m := fun _ _ h => h
theorem Wk.trans {m m' m'' : St} (h : Wk G m m') (k : Wk G m' m'') : Wk G m m'' := fun a w hr => k a w (h a w hr)
theorem ht_weak {c : Code} {Q : Exit → St → Prop} {m m' : St} (hw : Wk G m m') (h : HT P G c Q m') : HT P G c Q m := fun a w hr => h a w (hw a w hr)
/-- A state that tells the listed places alone. -/
def bot : St
  | .b _ => .nob
  | _ => .top
theorem ht_loop {X : Type} {c : Code} {Q : Exit → St → Prop} {m : St} (hd : X → St) (μ : X → Nat) (x0 : X) (h0 : Wk G m (hd x0))
    (hr : ∀ x, HT P G c (thenQ (fun m2 => ∃ x', Wk G m2 (hd x') ∧ μ x' < μ x) Q) (hd x)) : HT P G (.loop c) Q m := by
  intro a w hR
  have hleast : ∀ (p : Nat → Prop), (∃ n, p n) → ∃ n, p n ∧ ∀ k, p k → n ≤ k := by
    intro p ⟨n, hn⟩
    induction n using Nat.strongRecOn with
    | _ n ih =>
      by_cases hk : ∃ k, p k ∧ k < n
      · obtain ⟨k, hk1, hk2⟩ := hk; exact ih k hk2 hk1
      · exact ⟨n, hn, fun k hpk => Nat.le_of_not_lt fun hlt => hk ⟨k, hpk, hlt⟩⟩
  refine wp_loop (fun a w => ∃ x, R G (hd x) a w) (fun a w => by
    classical
    exact if h : ∃ n, ∃ x, R G (hd x) a w ∧ μ x = n then (hleast _ h).choose else 0) ⟨x0, h0 a w hR⟩ ?_
  intro a1 w1 hI
  classical
  have hI' : ∃ n, ∃ x, R G (hd x) a1 w1 ∧ μ x = n := by obtain ⟨x, hx⟩ := hI; exact ⟨_, x, hx, rfl⟩
  obtain ⟨⟨x, hx, hxμ⟩, hmin⟩ := (hleast _ hI').choose_spec
  refine wp_mono (hr x a1 w1 hx) ?_
  rintro e a' w' ⟨m', h1, h2⟩
  cases e with
  | normal =>
    obtain ⟨x', hw, hlt⟩ := h2
    have hx' := hw a' w' h1
    refine ⟨⟨x', hx'⟩, ?_⟩
    have hJ : ∃ n, ∃ x, R G (hd x) a' w' ∧ μ x = n := ⟨_, x', hx', rfl⟩
    have h3 := (hleast _ hJ).choose_spec.2 (μ x') ⟨x', hx', rfl⟩
    rw [dif_pos hJ, dif_pos hI']
    omega
  | _ => exact ⟨m', h1, h2⟩
end
end Go.Awp
set_option linter.unusedSimpArgs false
set_option linter.unusedVariables false
namespace Go.Awp
open Go.RowKit
section
variable {P : Program} {ops : Array Oper} {G : Call0} {o : Oper} {m : St}
def gloc (ops : Array Oper) (o : Oper) : List Loc :=
  match o.guard with
  | none => []
  | some (j, _) => match (ops[j]?).bind (·.dst) with
    | some t => [.t t]
    | none => []
def GOn (ops : Array Oper) (o : Oper) (m : St) : Prop :=
  match o.guard with
  | none => True
  | some (j, b) => ∃ t, (ops[j]?).bind (·.dst) = some t ∧ m (.t t) = .d (.s (.bool b))
theorem GOn.congr {m' : St} (hg : GOn ops o m) (h : ∀ l ∈ gloc ops o, m' l = m l) : GOn ops o m' := by
  unfold GOn gloc at *
  split <;> simp_all only []
  obtain ⟨t, h1, h2⟩ := hg
  rw [h1] at h
  exact ⟨t, h1, by rw [h _ (by simp)]; exact h2⟩
theorem RR.bool {φ : Phi} {a : Act} {w : World} (h : RR G φ m a w) {t : Nat} {b : Bool} (ht : m (.t t) = .d (.s (.bool b))) : a.tmps[t]? = some (.bool b) := by
  have := h.slots t
  rw [ht] at this
  generalize hv : a.tmps.getD t undef = v at this
  cases this with
  | d hd =>
    cases hd
    rw [Array.getD_eq_getD_getElem?] at hv
    cases hq : a.tmps[t]? with
    | none => rw [hq] at hv; simp [undef] at hv
    | some u => rw [hq] at hv; simp at hv; rw [hv]
theorem RR.wanted {φ : Phi} {a : Act} {w : World} (h : RR G φ m a w) (hg : GOn ops o m) : Region.wanted o (yielded ops a.tmps) = true := by
  unfold GOn at hg
  unfold Region.wanted
  split at hg <;> rename_i hgd <;> rw [hgd]
  obtain ⟨t, h1, h2⟩ := hg
  simp [yielded, h1, h.bool h2]
theorem valid_of {e : Eff} (hg : GOn ops o m) (hgl : ∀ l ∈ gloc ops o, l ∈ e.rd)
    (h : ∀ m' : St, (∀ l ∈ e.rd, m' l = m l) → ∀ φ a w, RR G φ m' a w → ∃ v w', (execOp a.eval o).run P w = .ok (.value v) w' ∧ R G (updL m' e.wr) (a.put o.dst v) w') : Valid P ops G o m e := by
  intro m' hm a w hr K Q hK
  obtain ⟨φ, hr⟩ := hr
  obtain ⟨v, w', h1, h2⟩ := h m' hm φ a w hr
  unfold opGo
  rw [if_pos (hr.wanted (hg.congr fun l hl => hm l (hgl l hl)))]
  left
  unfold Oper.wp
  rw [h1]
  exact hK _ _ h2
theorem valid_skip {e : Eff} (hg : GOn ops o m) (hgl : ∀ l ∈ gloc ops o, l ∈ e.rd)
    (h : ∀ m' : St, (∀ l ∈ e.rd, m' l = m l) → ∀ φ a w, RR G φ m' a w → ∃ w', (execOp a.eval o).run P w = .ok .skip w' ∧ R G (updL m' e.wr) (a.put o.dst undef) w') : Valid P ops G o m e := by
  intro m' hm a w hr K Q hK
  obtain ⟨φ, hr⟩ := hr
  obtain ⟨w', h1, h2⟩ := h m' hm φ a w hr
  unfold opGo
  rw [if_pos (hr.wanted (hg.congr fun l hl => hm l (hgl l hl)))]
  left
  unfold Oper.wp
  rw [h1]
  exact hK _ _ h2
/-- An operation that leaves the world alone. -/
theorem valid_pure {d : Nat} {X : V} {rd : List Loc} (hg : GOn ops o m) (hdst : o.dst = some d) (hd : d < G.nt)
    (h : ∀ m' : St, (∀ l ∈ rd, m' l = m l) → ∀ φ a w, RR G φ m' a w → ∃ v, (execOp a.eval o).run P w = .ok (.value v) w ∧ RepV φ (okOf G φ m' w) w v X) : Valid P ops G o m ⟨gloc ops o ++ rd, [(.t d, X)]⟩ :=
  valid_of hg (fun l hl => by simp [hl]) fun m' hm φ a w hr => by
    obtain ⟨v, h1, h2⟩ := h m' (fun l hl => hm l (by simp [hl])) φ a w hr
    exact ⟨v, w, h1, φ, by rw [hdst]; exact hr.put d hd h2⟩
theorem RR.ev' {φ : Phi} {m' : St} {a : Act} {w : World} (h : RR G φ m' a w) {x : Operand} {X : V} (hm : ∀ l ∈ lo x, m' l = m l) (hx : evO m x = X) : RepV φ (okOf G φ m' w) w (a.eval x) X := by
  have := h.ev x
  rw [evO_congr hm, hx] at this
  exact this
theorem v_move {d : Nat} {x : Operand} {X : V} (hop : o.op = .move x ∨ o.op = .assign x) (hg : GOn ops o m) (hdst : o.dst = some d) (hd : d < G.nt) (hx : evO m x = X) : Valid P ops G o m ⟨gloc ops o ++ lo x, [(.t d, X)]⟩ :=
  valid_pure hg hdst hd fun m' hm φ a w hr => ⟨a.eval x, by rcases hop with h | h <;> simp [execOp, h], hr.ev' hm hx⟩
theorem v_pick {d : Nat} {c x y : Operand} {b : Bool} {X : V} (hop : o.op = .pick c x y) (hg : GOn ops o m) (hdst : o.dst = some d) (hd : d < G.nt) (hc : evO m c = .d (.s (.bool b))) (hx : evO m (if b then x else y) = X) :
    Valid P ops G o m ⟨gloc ops o ++ (lo c ++ lo (if b then x else y)), [(.t d, X)]⟩ :=
  valid_pure hg hdst hd fun m' hm φ a w hr => by
    have h1 := hr.ev' (x := c) (fun l hl => hm l (by simp [hl])) hc
    have h2 := hr.ev' (x := if b then x else y) (fun l hl => hm l (by simp [hl])) hx
    refine ⟨a.eval (if b then x else y), ?_, h2⟩
    generalize hv : a.eval c = v at h1
    cases h1 with
    | d h1 =>
      cases h1
      simp only [execOp, hop, hv]
      cases b <;> simp [asBool]
theorem RR.s {φ : Phi} {m' : St} {a : Act} {w : World} (h : RR G φ m' a w) {x : Operand} {v : Value} (hm : ∀ l ∈ lo x, m' l = m l) (hx : evO m x = .d (.s v)) : a.eval x = v := by
  have h1 := h.ev' hm hx
  generalize a.eval x = u at h1 ⊢
  cases h1 with | d h1 => cases h1; rfl
theorem v_bin {d : Nat} {op : BinOp} {T T' : TypeId} {x y : Operand} {u v r : Value} (hop : o.op = .binOp op T x y T') (hg : GOn ops o m) (hdst : o.dst = some d) (hd : d < G.nt)
    (hx : evO m x = .d (.s u)) (hy : evO m y = .d (.s v)) (hr : ∀ w, (do eqGuard op T x y u v; binOp op T u v : Sem Value).run P w = .ok r w) : Valid P ops G o m ⟨gloc ops o ++ (lo x ++ lo y), [(.t d, .d (.s r))]⟩ :=
  valid_pure hg hdst hd fun m' hm φ a w h => by
    have h1 := h.s (x := x) (fun l hl => hm l (by simp [hl])) hx
    have h2 := h.s (x := y) (fun l hl => hm l (by simp [hl])) hy
    refine ⟨r, ?_, .d (.s r)⟩
    have := hr w
    simp only [execOp, hop, h1, h2]
    rw [Sem.run_bind, this]; rfl
theorem v_un {d : Nat} {op : UnOp} {T : TypeId} {x : Operand} {u r : Value} (hop : o.op = .unOp op T x) (hg : GOn ops o m) (hdst : o.dst = some d) (hd : d < G.nt)
    (hx : evO m x = .d (.s u)) (hr : ∀ w, (Op.unary op u).run P w = .ok r w) : Valid P ops G o m ⟨gloc ops o ++ lo x, [(.t d, .d (.s r))]⟩ :=
  valid_pure hg hdst hd fun m' hm φ a w h => by
    have h1 := h.s (x := x) (fun l hl => hm l (by simp [hl])) hx
    refine ⟨r, ?_, .d (.s r)⟩
    simp only [execOp, hop, h1]
    rw [Sem.run_bind, hr w]; rfl
theorem v_conv {d : Nat} {S T : TypeId} {x : Operand} {u r : Value} (hop : o.op = .convert S T x) (hg : GOn ops o m) (hdst : o.dst = some d) (hd : d < G.nt)
    (hx : evO m x = .d (.s u)) (hr : ∀ w, (convert S T u).run P w = .ok r w) : Valid P ops G o m ⟨gloc ops o ++ lo x, [(.t d, .d (.s r))]⟩ :=
  valid_pure hg hdst hd fun m' hm φ a w h => by
    have h1 := h.s (x := x) (fun l hl => hm l (by simp [hl])) hx
    refine ⟨r, ?_, .d (.s r)⟩
    simp only [execOp, hop, h1]
    rw [Sem.run_bind, hr w]; rfl
theorem v_index {d : Nat} {T : TypeId} {x y : Operand} {u v r : Value} (hop : o.op = .index T x y) (hg : GOn ops o m) (hdst : o.dst = some d) (hd : d < G.nt)
    (hx : evO m x = .d (.s u)) (hy : evO m y = .d (.s v)) (hr : ∀ w, (Instr.index T u v).run P w = .ok r w) : Valid P ops G o m ⟨gloc ops o ++ (lo x ++ lo y), [(.t d, .d (.s r))]⟩ :=
  valid_pure hg hdst hd fun m' hm φ a w h => by
    have h1 := h.s (x := x) (fun l hl => hm l (by simp [hl])) hx
    have h2 := h.s (x := y) (fun l hl => hm l (by simp [hl])) hy
    refine ⟨r, ?_, .d (.s r)⟩
    simp only [execOp, hop, h1, h2]
    rw [Sem.run_bind, hr w]; rfl
/-- A builtin over two plain values (max, min), or one (the length of a string). -/
theorem v_bi2 {d : Nat} {b : Builtin} {ts : Array TypeId} {x y : Operand} {u v r : Value} {c : Call} (hop : o.op = .call c) (hc : c = { callee := .builtin b, args := #[x, y], argTypes := ts }) (hg : GOn ops o m) (hdst : o.dst = some d) (hd : d < G.nt)
    (hx : evO m x = .d (.s u)) (hy : evO m y = .d (.s v)) (hr : ∀ (cs : Array Bool) w, (builtin b ts o.type cs #[u, v]).run P w = .ok (.value r) w) : Valid P ops G o m ⟨gloc ops o ++ (lo x ++ lo y), [(.t d, .d (.s r))]⟩ :=
  valid_pure hg hdst hd fun m' hm φ a w h => by
    have h1 := h.s (x := x) (fun l hl => hm l (by simp [hl])) hx
    have h2 := h.s (x := y) (fun l hl => hm l (by simp [hl])) hy
    refine ⟨r, ?_, .d (.s r)⟩
    subst hc
    simp only [execOp, hop, resolve, invoke, Sem.run_bind, Sem.run_pure, Result.andThen_ok, List.map_toArray, List.map_cons, List.map_nil, h1, h2]
    exact hr _ w
/-- The length of a string, of data, of a row. -/
theorem v_len_str {d : Nat} {T : TypeId} {x : Operand} {s : ByteArray} {c : Call} (hop : o.op = .call c) (hc : c = { callee := .builtin .len, args := #[x], argTypes := #[T] }) (hg : GOn ops o m) (hdst : o.dst = some d) (hd : d < G.nt)
    (hT : P.underlying T = some .string) (hx : evO m x = .d (.s (.string s))) : Valid P ops G o m ⟨gloc ops o ++ lo x, [(.t d, .d (.s (.int .i64 s.size)))]⟩ :=
  valid_pure hg hdst hd fun m' hm φ a w h => by
    have h1 := h.s (x := x) (fun l hl => hm l (by simp [hl])) hx
    refine ⟨_, ?_, .d (.s _)⟩
    subst hc
    simp [execOp, hop, resolve, invoke, builtin, Builtin.len_, run_underlying hT, h1, goInt]
theorem v_len_sl {d k : Nat} {T e : TypeId} {x : Operand} {es : List (List D)} {c : Call} (hop : o.op = .call c) (hc : c = { callee := .builtin .len, args := #[x], argTypes := #[T] }) (hg : GOn ops o m) (hdst : o.dst = some d) (hd : d < G.nt)
    (hT : P.underlying T = some (.slice e)) (hx : evO m x = .d (.sl k es)) : Valid P ops G o m ⟨gloc ops o ++ lo x, [(.t d, .d (.s (.int .i64 es.length)))]⟩ :=
  valid_pure hg hdst hd fun m' hm φ a w h => by
    have h1 := h.ev' (x := x) hm hx
    refine ⟨_, ?_, .d (.s _)⟩
    subst hc
    generalize hv : a.eval x = v at h1
    cases h1 with
    | d h1 =>
      cases h1 with
      | nil => simp [execOp, hop, resolve, invoke, builtin, Builtin.len_, run_underlying hT, hv, goInt]
      | emp => simp [execOp, hop, resolve, invoke, builtin, Builtin.len_, run_underlying hT, hv, goInt]
      | sl => simp [execOp, hop, resolve, invoke, builtin, Builtin.len_, run_underlying hT, hv, goInt]
theorem v_len_own {d id k n : Nat} {T e : TypeId} {x : Operand} {c : Call} (hop : o.op = .call c) (hc : c = { callee := .builtin .len, args := #[x], argTypes := #[T] }) (hg : GOn ops o m) (hdst : o.dst = some d) (hd : d < G.nt)
    (hT : P.underlying T = some (.slice e)) (hx : evO m x = .own id k n) : Valid P ops G o m ⟨gloc ops o ++ lo x, [(.t d, .d (.s (.int .i64 n)))]⟩ :=
  valid_pure hg hdst hd fun m' hm φ a w h => by
    have h1 := h.ev' (x := x) hm hx
    refine ⟨_, ?_, .d (.s _)⟩
    subst hc
    generalize hv : a.eval x = v at h1
    cases h1 <;> simp [execOp, hop, resolve, invoke, builtin, Builtin.len_, run_underlying hT, hv, goInt]
theorem v_extract {d i : Nat} {x : Operand} {vs : List V} {X : V} (hop : o.op = .extract x i) (hg : GOn ops o m) (hdst : o.dst = some d) (hd : d < G.nt)
    (hx : evO m x = .tup vs) (hi : vs[i]? = some X) : Valid P ops G o m ⟨gloc ops o ++ lo x, [(.t d, X)]⟩ :=
  valid_pure hg hdst hd fun m' hm φ a w h => by
    have h1 := h.ev' (x := x) hm hx
    generalize hv : a.eval x = v at h1
    cases h1 with
    | tup us _ hl hc =>
      have hlt : i < us.size := by rw [hl]; exact (List.getElem?_eq_some_iff.1 hi).1
      refine ⟨us[i], ?_, hc i us[i] X (by simp) hi⟩
      simp [execOp, hop, hv, Instr.extract, hlt]
end
end Go.Awp
set_option linter.unusedSimpArgs false
set_option linter.unusedVariables false
namespace Go.Awp
open Go.RowKit
section
variable {P : Program} {ops : Array Oper} {G : Call0} {o : Oper} {m : St}
def allD : List V → Option (List D)
  | [] => some []
  | .d x :: r => match allD r with
    | some l => some (x :: l)
    | none => none
  | _ :: _ => none
theorem allD_some : ∀ {cs : List V} {ds : List D}, allD cs = some ds → cs = ds.map .d
  | [], ds, h => by simp [allD] at h; subst h; rfl
  | c :: r, ds, h => by
    cases c <;> simp only [allD] at h <;> try cases h
    cases hq : allD r with
    | none => rw [hq] at h; simp at h
    | some l =>
      rw [hq] at h
      simp only [Option.some.injEq] at h
      subst h
      rw [allD_some hq]; rfl
def mkV (cs : List V) : V :=
  match allD cs with
  | some ds => .d (.agg ds)
  | none => .agg cs
theorem rep_mkV {φ : Phi} {ok : Nat → Prop} {w : World} {vs : Array Value} {cs : List V} (hl : vs.size = cs.length) (hc : ∀ (i : Nat) (v : Value) (c : V), vs[i]? = some v → cs[i]? = some c → RepV φ ok w v c) : RepV φ ok w (.agg vs) (mkV cs) := by
  unfold mkV
  split
  · rename_i ds hd
    have := allD_some hd
    subst this
    refine .d (.agg vs ds (by simpa using hl) fun i v c hv hd => ?_)
    have := hc i v (.d c) hv (by rw [List.getElem?_map, hd]; rfl)
    cases this with | d h => exact h
  · exact .agg vs cs hl hc
def V.cellsV : V → List V
  | .agg cs => cs
  | .d (.agg ds) => ds.map .d
  | .d (.s (.agg vs)) => vs.toList.map fun v => .d (.s v)
  | v => [v]
def V.one : V → Bool
  | .d (.s v) => v.oneCell'
  | .d (.agg _) => false
  | .d _ => true
  | .own _ _ _ | .ptr _ _ | .elp _ _ _ _ | .fn _ _ => true
  | _ => false
theorem rep_one {φ : Phi} {ok : Nat → Prop} {w : World} {v : Value} {x : V} (h : RepV φ ok w v x) (h1 : x.one = true) : v.oneCell' = true := by
  cases h with
  | d h => cases h <;> simp_all [V.one, Value.oneCell']
  | _ => simp_all [V.one, Value.oneCell']
theorem rep_cells {φ : Phi} {ok : Nat → Prop} {w : World} {v : Value} {x : V} (h : RepV φ ok w v x) (h1 : ∀ c ∈ x.cellsV, c.one = true) :
    v.cells.size = x.cellsV.length ∧ (∀ (i : Nat) (u : Value) (c : V), v.cells[i]? = some u → x.cellsV[i]? = some c → RepV φ ok w u c) ∧ ∀ u ∈ v.cells.toList, u.oneCell' = true := by
  have key : v.cells.size = x.cellsV.length ∧ (∀ (i : Nat) (u : Value) (c : V), v.cells[i]? = some u → x.cellsV[i]? = some c → RepV φ ok w u c) := by
    have single : ∀ {v : Value} {x : V}, RepV φ ok w v x → v.cells = #[v] → x.cellsV = [x] → v.cells.size = x.cellsV.length ∧ (∀ (i : Nat) (u : Value) (c : V), v.cells[i]? = some u → x.cellsV[i]? = some c → RepV φ ok w u c) := fun {v x} h e1 e2 => by
      rw [e1, e2]
      refine ⟨rfl, fun i u c hu hc => ?_⟩
      cases i with
      | zero => simp at hu hc; subst hu; subst hc; exact h
      | succ i => simp at hc
    cases h with
    | d h =>
      cases h with
      | s v =>
        cases v with
        | agg vs =>
          refine ⟨by simp [Value.cells, V.cellsV], fun i u c hu hc => ?_⟩
          simp only [Value.cells] at hu
          simp only [V.cellsV, List.getElem?_map, Array.getElem?_toList, hu, Option.map_some, Option.some.injEq] at hc
          subst hc
          exact .d (.s u)
        | _ => exact single (.d (.s _)) rfl rfl
      | agg vs cs hl hc =>
        refine ⟨by simp [Value.cells, V.cellsV, hl], fun i u c hu hc' => ?_⟩
        simp only [V.cellsV, List.getElem?_map, Option.map_eq_some_iff] at hc'
        obtain ⟨y, hy, rfl⟩ := hc'
        exact .d (hc i u y hu hy)
      | nil k => exact single (.d (.nil k)) rfl rfl
      | emp a cap k hmax => exact single (.d (.emp a cap k hmax)) rfl rfl
      | sl b off cap k es vs g1 g2 g3 g4 g5 g6 => exact single (.d (.sl b off cap k es vs g1 g2 g3 g4 g5 g6)) rfl rfl
      | dp b off cs vs g1 g2 g3 => exact single (.d (.dp b off cs vs g1 g2 g3)) rfl rfl
      | fn g vs cs g1 g2 => exact single (.d (.fn g vs cs g1 g2)) rfl rfl
    | top v => exact absurd (h1 .top (by simp [V.cellsV])) (by simp [V.one])
    | agg vs cs hl hc => exact ⟨hl, hc⟩
    | nil id k h => exact single (.nil id k h) rfl rfl
    | own id k n b cap h hn => exact single (.own id k n b cap h hn) rfl rfl
    | ptr id off b cap h => exact single (.ptr id off b cap h) rfl rfl
    | elp id k i off b cap h => exact single (.elp id k i off b cap h) rfl rfl
    | tup vs cs hl hc => exact absurd (h1 (.tup cs) (by simp [V.cellsV])) (by simp [V.one])
    | fn g vs cs hl hc => exact single (.fn g vs cs hl hc) rfl rfl
  refine ⟨key.1, key.2, fun u hu => ?_⟩
  obtain ⟨i, hi⟩ := List.getElem?_of_mem hu
  rw [Array.getElem?_toList] at hi
  have hlt : i < x.cellsV.length := by rw [← key.1]; exact (Array.getElem?_eq_some_iff.1 hi).1
  exact rep_one (key.2 i u x.cellsV[i] hi (by simp)) (h1 _ (by simp))
/-- The cells of a box from 'off' on. -/
def cellsM (m : St) (id : Nat) : Nat → Nat → List V
  | _, 0 => []
  | off, k + 1 => m (.c id off) :: cellsM m id (off + 1) k
def cellsL (id : Nat) : Nat → Nat → List Loc
  | _, 0 => []
  | off, k + 1 => .c id off :: cellsL id (off + 1) k
theorem cellsM_length (m : St) (id : Nat) : ∀ (k off : Nat), (cellsM m id off k).length = k
  | 0, _ => rfl
  | k + 1, off => by simp [cellsM, cellsM_length m id k]
theorem cellsM_get (m : St) (id : Nat) : ∀ (k off j : Nat), j < k → (cellsM m id off k)[j]? = some (m (.c id (off + j)))
  | 0, _, _, h => by omega
  | k + 1, off, 0, h => by simp [cellsM]
  | k + 1, off, j + 1, h => by
    rw [cellsM, List.getElem?_cons_succ, cellsM_get m id k (off + 1) j (by omega), show off + 1 + j = off + (j + 1) by omega]
theorem cellsL_mem (id : Nat) : ∀ (k off j : Nat), j < k → Loc.c id (off + j) ∈ cellsL id off k
  | 0, _, _, h => by omega
  | k + 1, off, 0, h => by simp [cellsL]
  | k + 1, off, j + 1, h => by
    rw [cellsL, show off + (j + 1) = off + 1 + j by omega]
    exact List.mem_cons_of_mem _ (cellsL_mem id k (off + 1) j (by omega))
structure AggT (P : Program) (T k : Nat) : Prop where
  agg : ∀ w, (isAgg T).run P w = .ok true w
  size : ∀ w, (sizeOf T).run P w = .ok k w
structure OneT (P : Program) (T : Nat) : Prop where
  agg : ∀ w, (isAgg T).run P w = .ok false w
  size : ∀ w, (sizeOf T).run P w = .ok 1 w
structure SliceT (P : Program) (T e k : Nat) : Prop where
  und : P.underlying T = some (.slice e)
  size : ∀ w, (sizeOf e).run P w = .ok k w
theorem cell_of {w : World} {b i : Nat} {arr : Array Value} {e : TypeId} {fr : Nat × Nat} (h : w.heap[b]? = some (.cells arr e fr)) : w.cell? ⟨b, i, none⟩ = arr[i]? := by simp [World.cell?, h]
theorem box_at {φ : Phi} {a : Act} {w : World} {id n : Nat} {fz : Bool} (h : RR G φ m a w) (hb : m (.b id) = .box fz n) : BoxOK φ (okOf G φ m w) w m id n := by
  have := h.blk id
  unfold BlkOK at this
  rw [hb] at this
  exact this
theorem row_at {φ : Phi} {a : Act} {w : World} {id k : Nat} {fz : Bool} {e : TypeId} {es : List (List D)} (h : RR G φ m a w) (hb : m (.b id) = .row fz e k es) : RowOK φ (okOf G φ m w) w id e k es := by
  have := h.blk id
  unfold BlkOK at this
  rw [hb] at this
  exact this
theorem RR.ptr {φ : Phi} {m' : St} {a : Act} {w : World} (h : RR G φ m' a w) {x : Operand} {id off : Nat} (hm : ∀ l ∈ lo x, m' l = m l) (hx : evO m x = .ptr id off) : ∃ b c, φ id = some (some (b, c)) ∧ a.eval x = .pointer (some ⟨b, off, none⟩) := by
  have h1 := h.ev' hm hx
  generalize a.eval x = u at h1 ⊢
  cases h1 with | ptr _ _ b c h => exact ⟨b, c, h, rfl⟩
theorem v_load_box {d T k id off n : Nat} {fz : Bool} {x : Operand} (hop : o.op = .load T x) (hg : GOn ops o m) (hdst : o.dst = some d) (hd : d < G.nt) (hT : AggT P T k)
    (hx : evO m x = .ptr id off) (hb : m (.b id) = .box fz n) (hk : off + k ≤ n) : Valid P ops G o m ⟨gloc ops o ++ (lo x ++ .b id :: cellsL id off k), [(.t d, mkV (cellsM m id off k))]⟩ :=
  valid_pure hg hdst hd fun m' hm φ a w h => by
    obtain ⟨b, c, h1, h2⟩ := h.ptr (x := x) (fun l hl => hm l (by simp [hl])) hx
    obtain ⟨b', c', arr, e, h3, h4, h5, h6⟩ := box_at h (id := id) (fz := fz) (n := n) (by rw [hm _ (by simp)]; exact hb)
    rw [h1] at h3
    simp only [Option.some.injEq, Prod.mk.injEq] at h3
    obtain ⟨rfl, rfl⟩ := h3
    have hld := run_loadCells (P := P) w ⟨b, off, none⟩ k (fun j => arr.getD (off + j) undef) (fun j hj => by
      rw [Addr.add_lit, cell_of h4, Array.getD_eq_getD_getElem?, Array.getElem?_eq_getElem (by omega)]; rfl)
    refine ⟨.agg ((List.range k).map fun j => arr.getD (off + j) undef).toArray, ?_, rep_mkV (by simp [cellsM_length]) fun i v cc hv hc => ?_⟩
    · simp [execOp, hop, h2, Instr.loadAt, Instr.sureAddr, loadVar, hT.agg, hT.size, hld, Result.andThen]
    · have hi : i < k := by rw [← cellsM_length m id k off]; exact (List.getElem?_eq_some_iff.1 hc).1
      rw [cellsM_get m id k off i hi] at hc
      simp only [Option.some.injEq] at hc
      have hcc : m' (.c id (off + i)) = m (.c id (off + i)) := hm _ (by simp [cellsL_mem id k off i hi])
      rw [← hc, ← hcc]
      refine h6 (off + i) v ?_
      simp [hi] at hv
      rw [← hv, Array.getElem?_eq_getElem (by omega)]
      simp [Array.getD_eq_getD_getElem?, show off + i < arr.size by omega]
theorem v_load_box1 {d T id off n : Nat} {fz : Bool} {x : Operand} {X : V} (hop : o.op = .load T x) (hg : GOn ops o m) (hdst : o.dst = some d) (hd : d < G.nt) (hT : OneT P T)
    (hx : evO m x = .ptr id off) (hb : m (.b id) = .box fz n) (hk : off < n) (hX : m (.c id off) = X) : Valid P ops G o m ⟨gloc ops o ++ (lo x ++ [.b id, .c id off]), [(.t d, X)]⟩ :=
  valid_pure hg hdst hd fun m' hm φ a w h => by
    obtain ⟨b, c, h1, h2⟩ := h.ptr (x := x) (fun l hl => hm l (by simp [hl])) hx
    obtain ⟨b', c', arr, e, h3, h4, h5, h6⟩ := box_at h (id := id) (fz := fz) (n := n) (by rw [hm _ (by simp)]; exact hb)
    rw [h1] at h3
    simp only [Option.some.injEq, Prod.mk.injEq] at h3
    obtain ⟨rfl, rfl⟩ := h3
    have hlt : off < arr.size := by omega
    refine ⟨arr[off], ?_, ?_⟩
    · simp [execOp, hop, h2, Instr.loadAt, Instr.sureAddr, loadVar, hT.agg, cell_of h4, hlt]
    · rw [← hX, ← hm (.c id off) (by simp)]
      exact h6 off _ (by simp [hlt])
theorem RR.dp {φ : Phi} {m' : St} {a : Act} {w : World} (h : RR G φ m' a w) {x : Operand} {cs : List D} (hm : ∀ l ∈ lo x, m' l = m l) (hx : evO m x = .d (.dp cs)) :
    ∃ (b off : Nat) (vs : Nat → Value), okOf G φ m' w b ∧ a.eval x = .pointer (some ⟨b, off, none⟩) ∧ (∀ (j : Nat) (c : D), cs[j]? = some c → w.cell? ⟨b, off + j, none⟩ = some (vs j)) ∧ ∀ (j : Nat) (c : D), cs[j]? = some c → RepD (okOf G φ m' w) w (vs j) c := by
  have h1 := h.ev' hm hx
  generalize a.eval x = u at h1 ⊢
  cases h1 with | d h1 => cases h1 with | dp b off _ vs hb hv hc => exact ⟨b, off, vs, hb, rfl, hv, hc⟩
theorem v_load_dp {d T k : Nat} {x : Operand} {cs : List D} (hop : o.op = .load T x) (hg : GOn ops o m) (hdst : o.dst = some d) (hd : d < G.nt) (hT : AggT P T k)
    (hx : evO m x = .d (.dp cs)) (hk : k ≤ cs.length) : Valid P ops G o m ⟨gloc ops o ++ lo x, [(.t d, .d (.agg (cs.take k)))]⟩ :=
  valid_pure hg hdst hd fun m' hm φ a w h => by
    obtain ⟨b, off, vs, hb, h2, hv, hc⟩ := h.dp (x := x) hm hx
    have hld := run_loadCells (P := P) w ⟨b, off, none⟩ k (fun j => vs j) (fun j hj => by
      rw [Addr.add_lit]; exact hv j cs[j] (by simp))
    refine ⟨.agg ((List.range k).map vs).toArray, ?_, .d (.agg _ _ (by simp; omega) fun i v c hv' hc' => ?_)⟩
    · simp [execOp, hop, h2, Instr.loadAt, Instr.sureAddr, loadVar, hT.agg, hT.size, hld, Result.andThen]
    · have hi : i < k := by
        have := (Array.getElem?_eq_some_iff.1 hv').1; simpa using this
      simp [hi] at hv'
      rw [List.getElem?_take_of_lt hi] at hc'
      rw [← hv']; exact hc i c hc'
theorem v_load_dp1 {d T : Nat} {x : Operand} {cs : List D} {X : D} (hop : o.op = .load T x) (hg : GOn ops o m) (hdst : o.dst = some d) (hd : d < G.nt) (hT : OneT P T)
    (hx : evO m x = .d (.dp cs)) (hX : cs[0]? = some X) : Valid P ops G o m ⟨gloc ops o ++ lo x, [(.t d, .d X)]⟩ :=
  valid_pure hg hdst hd fun m' hm φ a w h => by
    obtain ⟨b, off, vs, hb, h2, hv, hc⟩ := h.dp (x := x) hm hx
    refine ⟨vs 0, ?_, .d (hc 0 X hX)⟩
    have := hv 0 X hX
    simp only [Nat.add_zero] at this
    simp [execOp, hop, h2, Instr.loadAt, Instr.sureAddr, loadVar, hT.agg, this]
theorem RR.elp {φ : Phi} {m' : St} {a : Act} {w : World} (h : RR G φ m' a w) {x : Operand} {id k i off : Nat} (hm : ∀ l ∈ lo x, m' l = m l) (hx : evO m x = .elp id k i off) : ∃ b c, φ id = some (some (b, c)) ∧ a.eval x = .pointer (some ⟨b, i * k + off, none⟩) := by
  have h1 := h.ev' hm hx
  generalize a.eval x = u at h1 ⊢
  cases h1 with | elp _ _ _ _ b c h => exact ⟨b, c, h, rfl⟩
theorem v_load_elp1 {d T id k i off : Nat} {fz : Bool} {e : TypeId} {es : List (List D)} {ds : List D} {X : D} {x : Operand} (hop : o.op = .load T x) (hg : GOn ops o m) (hdst : o.dst = some d) (hd : d < G.nt) (hT : OneT P T)
    (hx : evO m x = .elp id k i off) (hb : m (.b id) = .row fz e k es) (hi : es[i]? = some ds) (hX : ds[off]? = some X) : Valid P ops G o m ⟨gloc ops o ++ (lo x ++ [.b id]), [(.t d, .d X)]⟩ :=
  valid_pure hg hdst hd fun m' hm φ a w h => by
    obtain ⟨b, c, h1, h2⟩ := h.elp (x := x) (fun l hl => hm l (by simp [hl])) hx
    rcases row_at h (id := id) (fz := fz) (e := e) (k := k) (es := es) (by rw [hm _ (by simp)]; exact hb) with ⟨h3, _⟩ | ⟨b', cap, arr, h3, h4, h5, h6, h7, h8⟩
    · rw [h1] at h3; cases h3
    · rw [h1] at h3
      simp only [Option.some.injEq, Prod.mk.injEq] at h3
      obtain ⟨rfl, rfl⟩ := h3
      obtain ⟨v, hv1, hv2⟩ := (h8 i ds hi).2 off X hX
      refine ⟨v, ?_, .d hv2⟩
      simp [execOp, hop, h2, Instr.loadAt, Instr.sureAddr, loadVar, hT.agg, cell_of h4, hv1]
theorem v_field_box {d S f id off a0 : Nat} {x : Operand} (hop : o.op = .fieldAddr S x f) (hg : GOn ops o m) (hdst : o.dst = some d) (hd : d < G.nt)
    (hf : ∀ w a, (Instr.fieldAt S (.pointer (some a)) f).run P w = .ok (.pointer (some (a.add a0))) w) (hx : evO m x = .ptr id off) : Valid P ops G o m ⟨gloc ops o ++ lo x, [(.t d, .ptr id (off + a0))]⟩ :=
  valid_pure hg hdst hd fun m' hm φ a w h => by
    obtain ⟨b, c, h1, h2⟩ := h.ptr (x := x) hm hx
    refine ⟨_, ?_, .ptr id (off + a0) b c h1⟩
    simp [execOp, hop, h2, hf, Addr.add_lit]
theorem v_field_elp {d S f id k i off a0 : Nat} {x : Operand} (hop : o.op = .fieldAddr S x f) (hg : GOn ops o m) (hdst : o.dst = some d) (hd : d < G.nt)
    (hf : ∀ w a, (Instr.fieldAt S (.pointer (some a)) f).run P w = .ok (.pointer (some (a.add a0))) w) (hx : evO m x = .elp id k i off) : Valid P ops G o m ⟨gloc ops o ++ lo x, [(.t d, .elp id k i (off + a0))]⟩ :=
  valid_pure hg hdst hd fun m' hm φ a w h => by
    obtain ⟨b, c, h1, h2⟩ := h.elp (x := x) hm hx
    refine ⟨_, ?_, .elp id k i (off + a0) b c h1⟩
    simp [execOp, hop, h2, hf, Addr.add_lit, Nat.add_assoc]
theorem v_field_dp {d S f a0 : Nat} {cs : List D} {x : Operand} (hop : o.op = .fieldAddr S x f) (hg : GOn ops o m) (hdst : o.dst = some d) (hd : d < G.nt)
    (hf : ∀ w a, (Instr.fieldAt S (.pointer (some a)) f).run P w = .ok (.pointer (some (a.add a0))) w) (hx : evO m x = .d (.dp cs)) : Valid P ops G o m ⟨gloc ops o ++ lo x, [(.t d, .d (.dp (cs.drop a0)))]⟩ :=
  valid_pure hg hdst hd fun m' hm φ a w h => by
    obtain ⟨b, off, vs, hb, h2, hv, hc⟩ := h.dp (x := x) hm hx
    refine ⟨.pointer (some ⟨b, off + a0, none⟩), ?_, .d (.dp b (off + a0) _ (fun j => vs (a0 + j)) hb (fun j c hj => ?_) fun j c hj => ?_)⟩
    · simp [execOp, hop, h2, hf, Addr.add_lit]
    · rw [List.getElem?_drop] at hj
      rw [Nat.add_assoc]; exact hv _ _ hj
    · rw [List.getElem?_drop] at hj
      exact hc _ _ hj
theorem elem_of {P : Program} {T e : TypeId} (h : P.underlying T = some (.slice e)) : P.underlying T = some (.slice (P.elem T)) ∧ P.elem T = e := by
  have : P.elem T = e := by simp [Program.elem, h]
  exact ⟨by rw [this]; exact h, this⟩
theorem v_index_sl {d T e k : Nat} {x y : Operand} {es : List (List D)} {ds : List D} {i : Int} {ik : IntKind} (hop : o.op = .indexAddr T x y) (hg : GOn ops o m) (hdst : o.dst = some d) (hd : d < G.nt) (hT : SliceT P T e k)
    (hx : evO m x = .d (.sl k es)) (hy : evO m y = .d (.s (.int ik i))) (h0 : 0 ≤ i) (hi : es[i.toNat]? = some ds) : Valid P ops G o m ⟨gloc ops o ++ (lo x ++ lo y), [(.t d, .d (.dp ds))]⟩ :=
  valid_pure hg hdst hd fun m' hm φ a w h => by
    have h1 := h.ev' (x := x) (fun l hl => hm l (by simp [hl])) hx
    have h2 := h.s (x := y) (fun l hl => hm l (by simp [hl])) hy
    have hlt : i.toNat < es.length := (List.getElem?_eq_some_iff.1 hi).1
    generalize hv : a.eval x = v at h1
    cases h1 with
    | d h1 =>
      cases h1 with
      | nil => simp at hlt
      | emp => simp at hlt
      | sl b off cap _ _ vs hcap hmax hb hk hvs hc =>
        refine ⟨.pointer (some ⟨b, off + i.toNat * k, none⟩), ?_, .d (.dp b _ _ (fun j => vs i.toNat j) hb (fun j c hj => hvs _ _ _ _ hi hj) fun j c hj => hc _ _ _ _ hi hj)⟩
        have := run_indexAt_slice (P := P) w T ⟨b, off, none⟩ es.length cap ik i (elem_of hT.und).1
        rw [if_pos ⟨h0, by omega⟩, (elem_of hT.und).2, hT.size] at this
        simp only [execOp, hop, hv, h2, Sem.run_bind, this, Result.andThen_ok, Sem.run_pure, Addr.add_lit]
theorem v_index_own {d T e k id n : Nat} {x y : Operand} {i : Int} {ik : IntKind} (hop : o.op = .indexAddr T x y) (hg : GOn ops o m) (hdst : o.dst = some d) (hd : d < G.nt) (hT : SliceT P T e k)
    (hx : evO m x = .own id k n) (hy : evO m y = .d (.s (.int ik i))) (h0 : 0 ≤ i) (hi : i < n) : Valid P ops G o m ⟨gloc ops o ++ (lo x ++ lo y), [(.t d, .elp id k i.toNat 0)]⟩ :=
  valid_pure hg hdst hd fun m' hm φ a w h => by
    have h1 := h.ev' (x := x) (fun l hl => hm l (by simp [hl])) hx
    have h2 := h.s (x := y) (fun l hl => hm l (by simp [hl])) hy
    generalize hv : a.eval x = v at h1
    cases h1 with
    | nil => omega
    | own _ _ _ b cap hφ hn =>
      refine ⟨.pointer (some ⟨b, i.toNat * k + 0, none⟩), ?_, .elp id k i.toNat 0 b cap hφ⟩
      have := run_indexAt_slice (P := P) w T ⟨b, 0, none⟩ n cap ik i (elem_of hT.und).1
      rw [if_pos ⟨h0, hi⟩, (elem_of hT.und).2, hT.size] at this
      simp only [execOp, hop, hv, h2, Sem.run_bind, this, Result.andThen_ok, Sem.run_pure, Addr.add_lit, Nat.zero_add, Nat.add_zero]
end
end Go.Awp
set_option linter.unusedSimpArgs false
set_option linter.unusedVariables false
namespace Go.Awp
open Go.RowKit
section
variable {P : Program} {ops : Array Oper} {G : Call0} {o : Oper} {m : St}
theorem updL_append (m : St) : ∀ (a b : List (Loc × V)), updL m (a ++ b) = updL (updL m a) b
  | [], _ => rfl
  | p :: a, b => by rw [List.cons_append, updL, updL, updL_append _ a b]
theorem upd_b_t (m : St) (id t : Nat) (x : V) : upd m (.b id) x (.t t) = m (.t t) := upd_ne _ _ (by simp)
theorem upd_b_c (m : St) (id i j : Nat) (x : V) : upd m (.b id) x (.c i j) = m (.c i j) := upd_ne _ _ (by simp)
theorem upd_b_b (m : St) {id i : Nat} (x : V) (h : i ≠ id) : upd m (.b id) x (.b i) = m (.b i) := upd_ne _ _ (by simpa using h)
theorem cellsW_t (id o t : Nat) (cs : List V) (m : St) : updL m (cellsW id o cs) (.t t) = m (.t t) := cellsW_other id cs o m (fun j _ _ => by simp)
theorem cellsW_b (id o i : Nat) (cs : List V) (m : St) : updL m (cellsW id o cs) (.b i) = m (.b i) := cellsW_other id cs o m (fun j _ _ => by simp)
theorem cellsW_c (id o i j : Nat) (cs : List V) (m : St) (h : i ≠ id) : updL m (cellsW id o cs) (.c i j) = m (.c i j) := cellsW_other id cs o m (fun k _ _ => by simp; intro e; exact absurd e h)
/-- A new variable that holds the cells cs. -/
theorem RR.newBox {φ : Phi} {a : Act} {w : World} (h : RR G φ m a w) (id : Nat) (hid : m (.b id) = .nob) (arr : Array Value) (e : TypeId) (cs : List V) (hl : arr.size = cs.length)
    (hc : ∀ (i : Nat) (v : Value) (c : V), arr[i]? = some v → cs[i]? = some c → RepV φ (okOf G φ m w) w v c) :
    RR G (updPhi φ id (some (w.heap.size, 0))) (updL (upd m (.b id) (.box false cs.length)) (cellsW id 0 cs)) a (w.alloc (.cells arr e)) := by
  have hφid : φ id = none := by have := h.blk id; unfold BlkOK at this; rw [hid] at this; exact this
  refine h.newBlk id 0 hid (.cells arr e) (fun t => by rw [cellsW_t, upd_b_t]) (fun i hi => by rw [cellsW_b, upd_b_b _ _ hi]) (fun i j hi => by rw [cellsW_c _ _ _ _ _ _ hi, upd_b_c]) ?_
  intro ok' hok
  unfold BlkOK
  rw [cellsW_b, upd_self]
  refine ⟨w.heap.size, 0, arr, e, updPhi_self _ _ _, heap_alloc_at _ _, hl, fun j v hj => ?_⟩
  have hlt : j < cs.length := by rw [← hl]; exact (Array.getElem?_eq_some_iff.1 hj).1
  have := cellsW_at id cs 0 (upd m (.b id) (.box false cs.length)) j cs[j] (by simp)
  rw [Nat.zero_add] at this
  rw [this]
  exact (hc j v cs[j] hj (by simp)).mono (fun i x hi => by rw [updPhi_ne _ _ (fun e => by subst e; rw [hφid] at hi; cases hi)]; exact hi) hok
theorem v_box {d T id : Nat} {x : Operand} {X : V} {cs : List V} (hop : o.op = .box T x) (hg : GOn ops o m) (hdst : o.dst = some d) (hd : d < G.nt)
    (hx : evO m x = X) (hcs : X.cellsV = cs) (h1 : ∀ c ∈ cs, c.one = true) (hid : m (.b id) = .nob) :
    Valid P ops G o m ⟨gloc ops o ++ (lo x ++ [.b id]), (.b id, .box false cs.length) :: (cellsW id 0 cs ++ [(.t d, .ptr id 0)])⟩ :=
  valid_of hg (fun l hl => by simp [hl]) fun m' hm φ a w hr => by
    have hx' := hr.ev' (x := x) (fun l hl => hm l (by simp [hl])) hx
    subst hcs
    obtain ⟨h2, h3, _⟩ := rep_cells hx' h1
    refine ⟨.pointer (some ⟨w.heap.size, 0, none⟩), w.alloc (.cells (a.eval x).cells T), ?_, updPhi φ id (some (w.heap.size, 0)), ?_⟩
    · simp [execOp, hop, Instr.box, newVar, newRow]
    · have := hr.newBox id (by rw [hm _ (by simp)]; exact hid) (a.eval x).cells T X.cellsV h2 h3
      rw [hdst]
      show RR G _ (updL (upd m' (.b id) _) (cellsW id 0 X.cellsV ++ [(.t d, .ptr id 0)])) _ _
      rw [updL_append]
      exact this.put d hd (.ptr id 0 w.heap.size 0 (updPhi_self _ _ _))
/-- Zero values, as a variable of a type begins: a slice is told as a constant, or as data. -/
def zeroFits (v : Value) (c : V) : Bool :=
  match v, c with
  | .slice none 0 0, .d (.sl _ []) => true
  | _, _ => false
theorem v_alloc {d T id : Nat} {z : Value} {cs : List V} (hop : o.op = .alloc T) (hg : GOn ops o m) (hdst : o.dst = some d) (hd : d < G.nt)
    (hz : ∀ w, (zeroValue T).run P w = .ok z w) (hcs : z.cells.size = cs.length) (hfit : ∀ (i : Nat) (v : Value) (c : V), z.cells[i]? = some v → cs[i]? = some c → c = .d (.s v) ∨ zeroFits v c = true) (hid : m (.b id) = .nob) :
    Valid P ops G o m ⟨gloc ops o ++ [.b id], (.b id, .box false cs.length) :: (cellsW id 0 cs ++ [(.t d, .ptr id 0)])⟩ :=
  valid_of hg (fun l hl => by simp [hl]) fun m' hm φ a w hr => by
    refine ⟨.pointer (some ⟨w.heap.size, 0, none⟩), w.alloc (.cells z.cells T), ?_, updPhi φ id (some (w.heap.size, 0)), ?_⟩
    · simp [execOp, hop, Instr.alloc, hz, newVar, newRow]
    · have := hr.newBox id (by rw [hm _ (by simp)]; exact hid) z.cells T cs hcs (fun i v c hv hc => by
        rcases hfit i v c hv hc with e | e
        · rw [e]; exact .d (.s v)
        · unfold zeroFits at e
          split at e
          · exact .d (.nil _)
          · cases e)
      rw [hdst]
      show RR G _ (updL (upd m' (.b id) _) (cellsW id 0 cs ++ [(.t d, .ptr id 0)])) _ _
      rw [updL_append]
      exact this.put d hd (.ptr id 0 w.heap.size 0 (updPhi_self _ _ _))
theorem splice_get (cur : Array Value) (vs : List Value) (o j : Nat) (h : o + vs.length ≤ cur.size) :
    (cur.toList.take o ++ vs ++ cur.toList.drop (o + vs.length)).toArray[j]? = if j < o then cur[j]? else if j < o + vs.length then vs[j - o]? else cur[j]? := by
  have hto : (cur.toList.take o).length = o := by simp; omega
  rw [List.getElem?_toArray]
  by_cases h1 : j < o
  · rw [if_pos h1, List.append_assoc, List.getElem?_append_left (by omega), List.getElem?_take_of_lt h1, Array.getElem?_toList]
  · rw [if_neg h1]
    by_cases h2 : j < o + vs.length
    · rw [if_pos h2, List.getElem?_append_left (by simp; omega), List.getElem?_append_right (by omega), hto]
    · rw [if_neg h2, List.getElem?_append_right (by simp; omega), List.getElem?_drop, Array.getElem?_toList]
      congr 1
      simp; omega
theorem splice_size (cur : Array Value) (vs : List Value) (o : Nat) (h : o + vs.length ≤ cur.size) : (cur.toList.take o ++ vs ++ cur.toList.drop (o + vs.length)).toArray.size = cur.size := by
  rw [List.size_toArray, List.length_append, List.length_append, List.length_take, List.length_drop, Array.length_toList]; omega
theorem run_storeVar_at {T b off : Nat} {v : Value} {w : World} {cur : Array Value} {e : TypeId} (hsz : (sizeOf T).run P w = .ok v.cells.size w) (hb : w.heap[b]? = some (.cells cur e (0, 0))) (hfit : off + v.cells.size ≤ cur.size)
    (h1 : ∀ u ∈ v.cells.toList, u.oneCell' = true) : (storeVar T ⟨b, off, none⟩ v).run P w = .ok () (w.setRow b (cur.toList.take off ++ v.cells.toList ++ cur.toList.drop (off + v.cells.toList.length)).toArray) := by
  have := run_storeCells_at P b off e v.cells.toList 0 cur w hb (by simpa using hfit) h1
  simp only [Nat.add_zero] at this
  simp [storeVar, hsz, this]
theorem v_store_box {T id off n : Nat} {x y : Operand} {Y : V} {cs : List V} (hop : o.op = .store T x y) (hg : GOn ops o m) (hdst : o.dst = none) (hsz : ∀ w, (sizeOf T).run P w = .ok cs.length w)
    (hx : evO m x = .ptr id off) (hb : m (.b id) = .box false n) (hy : evO m y = Y) (hcs : Y.cellsV = cs) (h1 : ∀ c ∈ cs, c.one = true) (hk : off + cs.length ≤ n) :
    Valid P ops G o m ⟨gloc ops o ++ (lo x ++ (lo y ++ [.b id])), cellsW id off cs⟩ :=
  valid_skip hg (fun l hl => by simp [hl]) fun m' hm φ a w hr => by
    subst hcs
    obtain ⟨b, c, hφ, h2⟩ := hr.ptr (x := x) (fun l hl => hm l (by simp [hl])) hx
    have hy' := hr.ev' (x := y) (fun l hl => hm l (by simp [hl])) hy
    obtain ⟨h4, h5, h6⟩ := rep_cells hy' h1
    have hb' : m' (.b id) = .box false n := by rw [hm _ (by simp)]; exact hb
    obtain ⟨b', c', arr, e, g1, g2, g3, g4⟩ := box_at hr hb'
    rw [hφ] at g1
    simp only [Option.some.injEq, Prod.mk.injEq] at g1
    obtain ⟨rfl, rfl⟩ := g1
    have hrun := run_storeVar_at (P := P) (T := T) (off := off) (v := a.eval y) (w := w) (by rw [h4]; exact hsz w) g2 (by omega) h6
    refine ⟨w.setRow b (arr.toList.take off ++ (a.eval y).cells.toList ++ arr.toList.drop (off + (a.eval y).cells.toList.length)).toArray, ?_, φ, ?_⟩
    · simp only [execOp, hop, h2, Instr.storeAt, Instr.sureAddr, Sem.run_bind, Sem.run_pure, Result.andThen_ok, hrun]
    · rw [hdst]
      show RR G φ (updL m' (cellsW id off Y.cellsV)) a _
      have hlt := hr.lt id b c hφ
      refine hr.turn id b c hφ (by rw [hb']; rfl) (fun t => cellsW_t _ _ _ _ _) (fun i hi => cellsW_b _ _ _ _ _) (fun i j hi => cellsW_c _ _ _ _ _ _ hi)
        (below_setRow hr.below hlt.1 _) (setRow_size _ _ _) (fun b' hb' => setRow_other _ _ _ _ hb') ?_
      intro ok' hok
      unfold BlkOK
      rw [cellsW_b, hb']
      have hlen : (a.eval y).cells.toList.length = Y.cellsV.length := by simpa using h4
      refine ⟨b, c, _, e, hφ, setRow_heap _ _ _ _ _ _ g2, by rw [splice_size _ _ _ (by omega)]; exact g3, fun j v hj => ?_⟩
      rw [splice_get _ _ _ _ (by omega)] at hj
      by_cases j1 : j < off
      · rw [if_pos j1] at hj
        rw [cellsW_other id Y.cellsV off m' (fun k h1 h2 e => by cases e; omega)]
        exact (g4 j v hj).mono (fun _ _ h => h) hok
      · rw [if_neg j1] at hj
        by_cases j2 : j < off + (a.eval y).cells.toList.length
        · rw [if_pos j2, Array.getElem?_toList] at hj
          have := cellsW_at id Y.cellsV off m' (j - off) Y.cellsV[j - off] (by simp)
          rw [show off + (j - off) = j by omega] at this
          rw [this]
          exact (h5 (j - off) v _ hj (by simp)).mono (fun _ _ h => h) hok
        · rw [if_neg j2] at hj
          rw [cellsW_other id Y.cellsV off m' (fun k h1 h2 e => by cases e; omega)]
          exact (g4 j v hj).mono (fun _ _ h => h) hok
theorem v_store_elp {T id k i off : Nat} {e : TypeId} {es : List (List D)} {ds ys : List D} {x y : Operand} {Y : V} (hop : o.op = .store T x y) (hg : GOn ops o m) (hdst : o.dst = none) (hsz : ∀ w, (sizeOf T).run P w = .ok ys.length w)
    (hx : evO m x = .elp id k i off) (hb : m (.b id) = .row false e k es) (hi : es[i]? = some ds) (hy : evO m y = Y) (hcs : Y.cellsV = ys.map .d) (h1 : ∀ c ∈ Y.cellsV, c.one = true) (hk : off + ys.length ≤ k) :
    Valid P ops G o m ⟨gloc ops o ++ (lo x ++ (lo y ++ [.b id])), [(.b id, .row false e k (es.set i (ds.take off ++ ys ++ ds.drop (off + ys.length))))]⟩ :=
  valid_skip hg (fun l hl => by simp [hl]) fun m' hm φ a w hr => by
    obtain ⟨b, c, hφ, h2⟩ := hr.elp (x := x) (fun l hl => hm l (by simp [hl])) hx
    have hy' := hr.ev' (x := y) (fun l hl => hm l (by simp [hl])) hy
    obtain ⟨h4, h5, h6⟩ := rep_cells hy' h1
    have hb' : m' (.b id) = .row false e k es := by rw [hm _ (by simp)]; exact hb
    have hylen : (a.eval y).cells.toList.length = ys.length := by have := h4; rw [hcs] at this; simpa using this
    rcases row_at hr hb' with ⟨h3, _⟩ | ⟨b', cap, arr, g1, g2, g3, g4, g5, g6⟩
    · rw [hφ] at h3; cases h3
    · rw [hφ] at g1
      simp only [Option.some.injEq, Prod.mk.injEq] at g1
      obtain ⟨rfl, rfl⟩ := g1
      have hilt : i < es.length := (List.getElem?_eq_some_iff.1 hi).1
      have hfit : i * k + off + (a.eval y).cells.toList.length ≤ arr.size := by
        have h7 : i * k + k ≤ c * k := by rw [← Nat.succ_mul]; exact Nat.mul_le_mul_right k (by omega)
        rw [g3]; omega
      obtain ⟨hdl, hds⟩ := g6 i ds hi
      have hrun := run_storeVar_at (P := P) (T := T) (off := i * k + off) (v := a.eval y) (w := w) (by
        have : (a.eval y).cells.size = ys.length := by simpa using hylen
        rw [this]; exact hsz w) g2 (by simpa using hfit) h6
      refine ⟨w.setRow b (arr.toList.take (i * k + off) ++ (a.eval y).cells.toList ++ arr.toList.drop (i * k + off + (a.eval y).cells.toList.length)).toArray, ?_, φ, ?_⟩
      · simp only [execOp, hop, h2, Instr.storeAt, Instr.sureAddr, Sem.run_bind, Sem.run_pure, Result.andThen_ok, hrun]
      · rw [hdst]
        show RR G φ (upd m' (.b id) _) a _
        have hlt := hr.lt id b c hφ
        refine hr.turn id b c hφ (by rw [hb']; rfl) (fun t => upd_b_t _ _ _ _) (fun j hj => upd_b_b _ _ hj) (fun j l hj => upd_b_c _ _ _ _ _)
          (below_setRow hr.below hlt.1 _) (setRow_size _ _ _) (fun b' hb' => setRow_other _ _ _ _ hb') ?_
        intro ok' hok
        unfold BlkOK
        rw [upd_self]
        refine .inr ⟨b, c, _, hφ, setRow_heap _ _ _ _ _ _ g2, by rw [splice_size _ _ _ hfit]; exact g3, by simpa using g4, g5, fun x0 ds' hx' => ?_⟩
        by_cases ex : x0 = i
        · subst ex
          rw [List.getElem?_set_self hilt] at hx'
          simp only [Option.some.injEq] at hx'
          subst hx'
          refine ⟨by simp; omega, fun j d hj => ?_⟩
          have hjk : j < k := by have := (List.getElem?_eq_some_iff.1 hj).1; simp at this; omega
          rw [splice_get _ _ _ _ hfit]
          by_cases j1 : j < off
          · rw [if_pos (by omega)]
            rw [List.append_assoc, List.getElem?_append_left (by simp; omega), List.getElem?_take_of_lt j1] at hj
            obtain ⟨v, hv1, hv2⟩ := hds j d hj
            exact ⟨v, hv1, hv2.mono hok⟩
          · rw [if_neg (by omega)]
            by_cases j2 : j < off + ys.length
            · rw [if_pos (by omega)]
              rw [List.getElem?_append_left (by simp; omega), List.getElem?_append_right (by simp; omega)] at hj
              have hto : (ds.take off).length = off := by simp; omega
              rw [hto] at hj
              have hlt2 : j - off < (a.eval y).cells.size := by have : (a.eval y).cells.size = ys.length := by simpa using hylen
                                                                omega
              refine ⟨(a.eval y).cells[j - off], ?_, ?_⟩
              · rw [show x0 * k + j - (x0 * k + off) = j - off by omega, Array.getElem?_toList]; exact Array.getElem?_eq_getElem hlt2
              · have := h5 (j - off) (a.eval y).cells[j - off] (.d d) (Array.getElem?_eq_getElem hlt2) (by rw [hcs, List.getElem?_map, hj]; rfl)
                generalize (a.eval y).cells[j - off] = u at this ⊢
                cases this with | d h => exact h.mono hok
            · rw [if_neg (by omega)]
              have hto : (ds.take off ++ ys).length = off + ys.length := by simp; omega
              rw [List.getElem?_append_right (by omega), List.getElem?_drop, hto, show off + ys.length + (j - (off + ys.length)) = j by omega] at hj
              obtain ⟨v, hv1, hv2⟩ := hds j d hj
              exact ⟨v, hv1, hv2.mono hok⟩
        · rw [List.getElem?_set_ne (Ne.symm ex)] at hx'
          obtain ⟨l1, l2⟩ := g6 x0 ds' hx'
          refine ⟨l1, fun j d hj => ?_⟩
          obtain ⟨v, hv1, hv2⟩ := l2 j d hj
          refine ⟨v, ?_, hv2.mono hok⟩
          have hjk : j < k := by have := (List.getElem?_eq_some_iff.1 hj).1; omega
          rw [splice_get _ _ _ _ hfit]
          rcases Nat.lt_or_gt_of_ne ex with hlt' | hgt
          · have h8 : x0 * k + k ≤ i * k := by rw [← Nat.succ_mul]; exact Nat.mul_le_mul_right k hlt'
            rw [if_pos (by omega)]; exact hv1
          · have h8 : i * k + k ≤ x0 * k := by rw [← Nat.succ_mul]; exact Nat.mul_le_mul_right k hgt
            rw [if_neg (by omega), if_neg (by omega)]; exact hv1
end
end Go.Awp
set_option linter.unusedSimpArgs false
set_option linter.unusedVariables false
namespace Go.Awp
open Go.RowKit
section
variable {P : Program} {ops : Array Oper} {G : Call0} {o : Oper} {m : St}
def putAt (cells : List V) (off : Nat) (cs : List V) : List V := cells.take off ++ cs ++ cells.drop (off + cs.length)
def fillV (place : Nat → Option (Nat × Nat)) : List V → List (Nat × V) → Option (List V)
  | cells, [] => some cells
  | cells, (i, x) :: r => match place i with
    | none => none
    | some (off, size) => if x.cellsV.length = size ∧ off + size ≤ cells.length then fillV place (putAt cells off x.cellsV) r else none
def RepL (φ : Phi) (ok : Nat → Prop) (w : World) (arr : Array Value) (cs : List V) : Prop :=
  arr.size = cs.length ∧ ∀ (i : Nat) (v : Value) (c : V), arr[i]? = some v → cs[i]? = some c → RepV φ ok w v c
theorem foldl_set (off : Nat) : ∀ (vs : List Value) (k : Nat) (cells : Array Value),
    ((vs.zipIdx k).foldl (fun cs p => cs.setIfInBounds (off + p.2) p.1) cells).size = cells.size ∧
    ∀ j, off + k + vs.length ≤ cells.size → ((vs.zipIdx k).foldl (fun cs p => cs.setIfInBounds (off + p.2) p.1) cells)[j]? = if j < off + k then cells[j]? else if j < off + k + vs.length then vs[j - (off + k)]? else cells[j]?
  | [], k, cells => ⟨rfl, fun j _ => by
      by_cases h1 : j < off + k
      · simp [h1]
      · rw [if_neg h1, if_neg (by simp; omega)]; rfl⟩
  | v :: vs, k, cells => by
    rw [List.zipIdx_cons, List.foldl_cons]
    obtain ⟨h1, h2⟩ := foldl_set off vs (k + 1) (cells.setIfInBounds (off + k) v)
    refine ⟨by rw [h1]; simp, fun j hfit => ?_⟩
    simp only [List.length_cons] at hfit ⊢
    rw [h2 j (by simp; omega)]
    by_cases e1 : j < off + k
    · rw [if_pos (by omega), if_pos e1, Array.getElem?_setIfInBounds_ne (by omega)]
    · rw [if_neg e1]
      by_cases e2 : j = off + k
      · subst e2
        rw [if_pos (by omega), if_pos (by omega), Array.getElem?_setIfInBounds_self_of_lt (by omega)]
        simp
      · rw [if_neg (by omega)]
        by_cases e3 : j < off + k + (vs.length + 1)
        · rw [if_pos (by omega), if_pos e3, show j - (off + k) = j - (off + (k + 1)) + 1 by omega, List.getElem?_cons_succ]
        · rw [if_neg (by omega), if_neg e3, Array.getElem?_setIfInBounds_ne (by omega)]
theorem foldl_arr (off : Nat) (vs cells : Array Value) : vs.zipIdx.foldl (fun cs (p : Value × Nat) => cs.setIfInBounds (off + p.2) p.1) cells = (vs.toList.zipIdx 0).foldl (fun cs p => cs.setIfInBounds (off + p.2) p.1) cells := by
  rw [← Array.foldl_toList, Array.toList_zipIdx]
theorem fill_rep {φ : Phi} {ok : Nat → Prop} {w : World} {place : Nat → Option (Nat × Nat)} : ∀ (xs : List (Nat × V)) (vs : List (Nat × Value)) (cs cs' : List V) (arr : Array Value), RepL φ ok w arr cs →
    vs.map (·.1) = xs.map (·.1) → (∀ (i : Nat) (p : Nat × Value) (q : Nat × V), vs[i]? = some p → xs[i]? = some q → RepV φ ok w p.2 q.2) → (∀ q ∈ xs, ∀ c ∈ q.2.cellsV, c.one = true) → fillV place cs xs = some cs' →
    ∃ arr', Instr.fill place arr vs = some arr' ∧ RepL φ ok w arr' cs'
  | [], [], cs, cs', arr, h, _, _, _, hf => by
    simp only [fillV, Option.some.injEq] at hf
    subst hf
    exact ⟨arr, rfl, h⟩
  | [], _ :: _, _, _, _, _, h, _, _, _ => by simp at h
  | _ :: _, [], _, _, _, _, h, _, _, _ => by simp at h
  | (i, x) :: xs, (i', v) :: vs, cs, cs', arr, h, hn, hr, h1, hf => by
    simp only [List.map_cons, List.cons.injEq] at hn
    obtain ⟨rfl, hn⟩ := hn
    have hx := hr 0 (i', v) (i', x) rfl rfl
    obtain ⟨g1, g2, g3⟩ := rep_cells hx (h1 _ (by simp))
    simp only [fillV] at hf
    cases hp : place i' with
    | none => rw [hp] at hf; cases hf
    | some p =>
      obtain ⟨off, size⟩ := p
      rw [hp] at hf
      simp only [] at hf
      by_cases hc : x.cellsV.length = size ∧ off + size ≤ cs.length
      · rw [if_pos hc] at hf
        have hvs : v.cells.size = size := by rw [g1]; exact hc.1
        have hnot : ¬ (v.cells.size ≠ size ∨ off + v.cells.size > arr.size) := by rw [h.1]; omega
        have hfold := foldl_set off v.cells.toList 0 arr
        rw [← foldl_arr] at hfold
        obtain ⟨f1, f2⟩ := hfold
        have hlen : v.cells.toList.length = size := by simpa using hvs
        refine (fill_rep xs vs (putAt cs off x.cellsV) cs' _ ⟨by rw [f1, h.1, putAt]; simp; omega, fun j u c hu hc' => ?_⟩ hn (fun j p q hp hq => hr (j + 1) p q (by simpa using hp) (by simpa using hq)) (fun q hq => h1 q (by simp [hq])) hf).imp fun arr' ha => ⟨?_, ha.2⟩
        · rw [f2 j (by rw [h.1]; omega)] at hu
          rw [putAt] at hc'
          have hto : (cs.take off).length = off := by simp; omega
          by_cases e1 : j < off
          · rw [if_pos (by omega)] at hu
            rw [List.append_assoc, List.getElem?_append_left (by omega), List.getElem?_take_of_lt e1] at hc'
            exact h.2 j u c hu hc'
          · rw [if_neg (by omega)] at hu
            by_cases e2 : j < off + size
            · rw [if_pos (by omega), Nat.add_zero, Array.getElem?_toList] at hu
              rw [List.getElem?_append_left (by simp; omega), List.getElem?_append_right (by omega), hto] at hc'
              exact g2 _ u c hu hc'
            · rw [if_neg (by omega)] at hu
              rw [List.getElem?_append_right (by simp; omega), List.getElem?_drop] at hc'
              have : off + x.cellsV.length + (j - (cs.take off ++ x.cellsV).length) = j := by rw [List.length_append, hto]; omega
              rw [this] at hc'
              exact h.2 j u c hu hc'
        · rw [← ha.1]
          simp only [Instr.fill, hp]
          rw [if_neg (by simpa using hnot)]
      · rw [if_neg hc] at hf; cases hf
theorem parts_rep {φ : Phi} {a : Act} {w : World} {parts : Array (Nat × Operand)} {xs : List (Nat × V)} (h : RR G φ m a w) (hx : parts.toList.map (fun p => (p.1, evO m p.2)) = xs) :
    (parts.map fun (i, x) => (i, a.eval x)).toList.map (·.1) = xs.map (·.1) ∧ ∀ (i : Nat) (p : Nat × Value) (q : Nat × V), (parts.map fun (i, x) => (i, a.eval x)).toList[i]? = some p → xs[i]? = some q → RepV φ (okOf G φ m w) w p.2 q.2 := by
  subst hx
  refine ⟨by simp, fun i p q hp hq => ?_⟩
  rw [Array.toList_map, List.getElem?_map, Option.map_eq_some_iff] at hp
  rw [List.getElem?_map, Option.map_eq_some_iff] at hq
  obtain ⟨y, hy, rfl⟩ := hp
  obtain ⟨z, hz, rfl⟩ := hq
  rw [hy] at hz
  cases hz
  exact h.ev y.2
/-- How a record of type T is put together. -/
structure BuildT (P : Program) (T : Nat) (z : Value) (pl : Array (Nat × Nat)) : Prop where
  run : ∀ w (parts : Array (Nat × Value)) cells, Instr.fill (pl[·]?) z.cells parts.toList = some cells → (Instr.build T parts).run P w = .ok (.agg cells) w
theorem BuildT.mk' {T : Nat} {z : Value} {pl : Array (Nat × Nat)} {fs : Array Field} (hz : ∀ w, (zeroValue T).run P w = .ok z w) (hu : P.underlying T = some (.struct fs))
    (hp : ∀ w, ((fs.mapM fun f => do pure (f.offset, ← sizeOf f.type)) : Sem (Array (Nat × Nat))).run P w = .ok pl w) : BuildT P T z pl :=
  ⟨fun w parts cells h => by simp only [Instr.build, Sem.run_bind, hz w, Result.andThen_ok, run_underlying hu, hp w, h, Sem.run_pure]⟩
theorem evO_map_congr {m m' : St} : ∀ (l : List (Nat × Operand)), (∀ p ∈ l, ∀ x ∈ lo p.2, m' x = m x) → l.map (fun p => (p.1, evO m' p.2)) = l.map fun p => (p.1, evO m p.2)
  | [], _ => rfl
  | p :: l, h => by
    rw [List.map_cons, List.map_cons, evO_congr (h p (by simp)), evO_map_congr l (fun q hq => h q (by simp [hq]))]
theorem v_build {d T : Nat} {parts : Array (Nat × Operand)} {z : Value} {pl : Array (Nat × Nat)} {zs cs : List V} {xs : List (Nat × V)} (hop : o.op = .build T parts) (hg : GOn ops o m) (hdst : o.dst = some d) (hd : d < G.nt) (hT : BuildT P T z pl)
    (hzs : z.cells.size = zs.length) (hfit : ∀ (i : Nat) (v : Value) (c : V), z.cells[i]? = some v → zs[i]? = some c → c = .d (.s v) ∨ zeroFits v c = true)
    (hx : parts.toList.map (fun p => (p.1, evO m p.2)) = xs) (h1 : ∀ q ∈ xs, ∀ c ∈ q.2.cellsV, c.one = true) (hf : fillV (pl[·]?) zs xs = some cs) :
    Valid P ops G o m ⟨gloc ops o ++ parts.toList.flatMap (fun p => lo p.2), [(.t d, mkV cs)]⟩ :=
  valid_pure hg hdst hd fun m' hm φ a w h => by
    have hx' : parts.toList.map (fun p => (p.1, evO m' p.2)) = xs := by
      rw [← hx]; exact evO_map_congr _ fun p hp x hx => hm x (List.mem_flatMap.2 ⟨p, hp, hx⟩)
    obtain ⟨g1, g2⟩ := parts_rep h hx'
    have hz0 : RepL φ (okOf G φ m' w) w z.cells zs := ⟨hzs, fun i v c hv hc => by
      rcases hfit i v c hv hc with e | e
      · rw [e]; exact .d (.s v)
      · unfold zeroFits at e
        split at e
        · exact .d (.nil _)
        · cases e⟩
    obtain ⟨arr, k1, k2⟩ := fill_rep xs _ zs cs z.cells hz0 g1 g2 h1 hf
    refine ⟨.agg arr, ?_, rep_mkV k2.1 k2.2⟩
    simp only [execOp, hop, Sem.run_bind, hT.run w _ arr k1, Result.andThen_ok, Sem.run_pure]
theorem flatten_get {α : Type} (k : Nat) : ∀ (es : List (List α)) (x j : Nat), (∀ e ∈ es, e.length = k) → j < k → es.flatten[x * k + j]? = (es[x]?).bind fun e => e[j]?
  | [], x, j, _, _ => by simp
  | e :: es, 0, j, h, hj => by
    have := h e (by simp)
    simp [List.getElem?_append_left (show j < e.length by omega)]
  | e :: es, x + 1, j, h, hj => by
    have he := h e (by simp)
    rw [List.flatten_cons, List.getElem?_append_right (by rw [he, Nat.succ_mul]; omega), he, show (x + 1) * k + j - k = x * k + j by rw [Nat.succ_mul]; omega, flatten_get k es x j (fun e' h' => h e' (by simp [h'])) hj]
    simp
theorem rowIn_of {ok : Nat → Prop} {φ : Phi} {w : World} {arr : Array Value} {k : Nat} {es : List (List D)} (hk : ∀ e ∈ es, e.length = k) (h : RepL φ ok w arr (es.flatten.map .d)) : RowIn ok w arr k es := by
  intro x ds hx
  have hl := hk ds (List.mem_of_getElem? hx)
  refine ⟨hl, fun j d hj => ?_⟩
  have hjk : j < k := by rw [← hl]; exact (List.getElem?_eq_some_iff.1 hj).1
  have hf := flatten_get k es x j hk hjk
  rw [hx, Option.bind_some, hj] at hf
  have hlt : x * k + j < arr.size := by
    rw [h.1, List.length_map]; exact (List.getElem?_eq_some_iff.1 hf).1
  refine ⟨arr[x * k + j], by simp [hlt], ?_⟩
  have := h.2 (x * k + j) arr[x * k + j] (.d d) (by simp [hlt]) (by rw [List.getElem?_map, hf]; rfl)
  generalize arr[x * k + j] = u at this ⊢
  cases this with | d h => exact h
theorem length_flatten_k {α : Type} (k : Nat) : ∀ (es : List (List α)), (∀ e ∈ es, e.length = k) → es.flatten.length = es.length * k
  | [], _ => by simp
  | e :: es, h => by rw [List.flatten_cons, List.length_append, h e (by simp), length_flatten_k k es (fun e' h' => h e' (by simp [h'])), List.length_cons, Nat.succ_mul]; omega
/-- A new row of the call's own. -/
theorem RR.newRow {φ : Phi} {a : Act} {w : World} (h : RR G φ m a w) (id cap k : Nat) (hid : m (.b id) = .nob) (arr : Array Value) (e : TypeId) (es : List (List D)) (hsz : arr.size = cap * k) (hle : es.length ≤ cap) (hmax : cap ≤ maxCap)
    (hrow : RowIn (okOf G φ m w) w arr k es) : RR G (updPhi φ id (some (w.heap.size, cap))) (upd m (.b id) (.row false e k es)) a (w.alloc (.cells arr e)) := by
  refine h.newBlk id cap hid (.cells arr e) (fun t => upd_b_t _ _ _ _) (fun i hi => upd_b_b _ _ hi) (fun i j hi => upd_b_c _ _ _ _ _) ?_
  intro ok' hok
  unfold BlkOK
  rw [upd_self]
  refine .inr ⟨w.heap.size, cap, arr, updPhi_self _ _ _, heap_alloc_at _ _, hsz, hle, hmax, fun x ds hx => ⟨(hrow x ds hx).1, fun j d hj => ?_⟩⟩
  obtain ⟨v, h1, h2⟩ := (hrow x ds hx).2 j d hj
  exact ⟨v, h1, h2.mono hok⟩
theorem v_buildSlice {d T e k n id : Nat} {parts : Array (Nat × Operand)} {z : Value} {xs : List (Nat × V)} {es : List (List D)} (hop : o.op = .buildSlice T n parts) (hg : GOn ops o m) (hdst : o.dst = some d) (hd : d < G.nt) (hT : SliceT P T e k)
    (hz : ∀ w, (zeroValue e).run P w = .ok z w) (hsm : n * k ≤ 2 ^ 24) (hx : parts.toList.map (fun p => (p.1, evO m p.2)) = xs) (h1 : ∀ q ∈ xs, ∀ c ∈ q.2.cellsV, c.one = true)
    (hk : ∀ e ∈ es, e.length = k) (hn : es.length = n) (hf : fillV (fun i => some (i * k, k)) (List.replicate (n * k) .top) xs = some (es.flatten.map .d)) (hid : m (.b id) = .nob) (hmax : n ≤ maxCap) :
    Valid P ops G o m ⟨gloc ops o ++ (parts.toList.flatMap (fun p => lo p.2) ++ [.b id]), [(.b id, .row false e k es), (.t d, .own id k n)]⟩ :=
  valid_of hg (fun l hl => by simp [hl]) fun m' hm φ a w hr => by
    have hx' : parts.toList.map (fun p => (p.1, evO m' p.2)) = xs := by
      rw [← hx]; exact evO_map_congr _ fun p hp x hx => hm x (by simp only [List.mem_append, List.mem_flatMap]; exact .inr (.inl ⟨p, hp, hx⟩))
    obtain ⟨g1, g2⟩ := parts_rep hr hx'
    have fin : ∀ (z0 : Array Value), z0.size = n * k → ∃ arr, Instr.fill (fun i => some (i * k, k)) z0 (parts.map fun (i, x) => (i, a.eval x)).toList = some arr ∧ RepL φ (okOf G φ m' w) w arr (es.flatten.map .d) := fun z0 hz0 =>
      fill_rep xs _ _ _ z0 ⟨by simpa using hz0, fun i v c hv hc => by
        have hlt : i < n * k := by have := (List.getElem?_eq_some_iff.1 hc).1; simpa using this
        rw [List.getElem?_replicate, if_pos hlt] at hc
        simp only [Option.some.injEq] at hc
        subst hc
        exact .top v⟩ g1 g2 h1 hf
    have hrun : ∃ arr, (Instr.buildSlice T n (parts.map fun (i, x) => (i, a.eval x))).run P w = .ok (.slice (some ⟨w.heap.size, 0, none⟩) n n) (w.alloc (.cells arr e)) ∧ RepL φ (okOf G φ m' w) w arr (es.flatten.map .d) := by
      have hns : ¬ n * k > 2 ^ 24 := by omega
      by_cases h0 : n * k = 0
      · obtain ⟨arr, f1, f2⟩ := fin ((Array.range (n * k)).map fun i => (#[] : Array Value)[i % (#[] : Array Value).size]!) (by simp)
        refine ⟨arr, ?_, f2⟩
        simp only [Instr.buildSlice, Sem.run_bind, run_underlying hT.und, hT.size, Result.andThen_ok, if_neg hns, if_pos h0, Sem.run_pure, f1]
        simp [newRow]
      · obtain ⟨arr, f1, f2⟩ := fin ((Array.range (n * k)).map fun i => z.cells[i % z.cells.size]!) (by simp)
        refine ⟨arr, ?_, f2⟩
        simp only [Instr.buildSlice, Sem.run_bind, run_underlying hT.und, hT.size, Result.andThen_ok, if_neg hns, if_neg h0, Sem.run_pure, hz w, f1]
        simp [newRow]
    obtain ⟨arr, r1, r2⟩ := hrun
    refine ⟨.slice (some ⟨w.heap.size, 0, none⟩) n n, w.alloc (.cells arr e), by simp only [execOp, hop, Sem.run_bind, r1, Result.andThen_ok, Sem.run_pure], updPhi φ id (some (w.heap.size, n)), ?_⟩
    rw [hdst]
    have hsz : arr.size = n * k := by rw [r2.1, List.length_map, length_flatten_k k es hk, hn]
    have := hr.newRow id n k (by rw [hm _ (by simp)]; exact hid) arr e es hsz (by omega) hmax (rowIn_of hk r2)
    exact this.put d hd (.own id k n w.heap.size n (updPhi_self _ _ _) (Nat.le_refl _))
def BdIs (m : St) (x : Option Operand) (dflt l : Nat) : Prop :=
  match x with
  | none => l = dflt
  | some x => ∃ ik, evO m x = .d (.s (.int ik l))
def lo? : Option Operand → List Loc
  | none => []
  | some x => lo x
theorem bound_run {φ : Phi} {m' : St} {a : Act} {w : World} {x : Option Operand} {dflt l : Nat} (h : RR G φ m' a w) (hm : ∀ l ∈ lo? x, m' l = m l) (hb : BdIs m x dflt l) :
    (x = none ∧ l = dflt) ∨ ∃ y ik, x = some y ∧ a.eval y = .int ik l := by
  cases x with
  | none => exact .inl ⟨rfl, hb⟩
  | some y =>
    obtain ⟨ik, hy⟩ := hb
    exact .inr ⟨y, ik, rfl, h.s hm hy⟩
theorem v_cut_sl {d T e k l h : Nat} {x : Operand} {xl xh : Option Operand} {es : List (List D)} (hop : o.op = .slice T x xl xh none) (hg : GOn ops o m) (hdst : o.dst = some d) (hd : d < G.nt) (hT : SliceT P T e k)
    (hx : evO m x = .d (.sl k es)) (hl : BdIs m xl 0 l) (hh : BdIs m xh es.length h) (hlh : l ≤ h) (hlen : h ≤ es.length) :
    Valid P ops G o m ⟨gloc ops o ++ (lo x ++ (lo? xl ++ lo? xh)), [(.t d, .d (.sl k ((es.take h).drop l)))]⟩ :=
  valid_pure hg hdst hd fun m' hm φ a w hr => by
    have h1 := hr.ev' (x := x) (fun l hl => hm l (by simp [hl])) hx
    have h2 := bound_run hr (x := xl) (fun l hl => hm l (by simp [hl])) hl
    have h3 := bound_run hr (x := xh) (fun l hl => hm l (by simp [hl])) hh
    have key : ∀ (len cap : Nat) (ad : Option Addr), len = es.length → len ≤ cap → (Instr.sliceAt T (.slice ad len cap) (xl.map a.eval) (xh.map a.eval) none).run P w = .ok (.slice (if cap = l then ad else ad.map (·.add (l * k))) (h - l) (cap - l)) w := fun len cap ad hle hc => by
      subst hle
      have hsl : ∀ ik, (Instr.sliceBound (.int ik (l : Int)) h .sliceB).run P w = .ok l w := fun ik => by
        have := run_sliceBound (P := P) w ik l h .sliceB (by omega) (by omega); simpa using this
      have hsh : ∀ ik, (Instr.sliceBound (.int ik (h : Int)) cap .sliceAcap).run P w = .ok h w := fun ik => by
        have := run_sliceBound (P := P) w ik h cap .sliceAcap (by omega) (by omega); simpa using this
      rcases h2 with ⟨e1, e2⟩ | ⟨yl, il, e1, e2⟩ <;> rcases h3 with ⟨e3, e4⟩ | ⟨yh, ih, e3, e4⟩ <;> subst e1 <;> subst e3
      · subst e2; subst e4
        simp [Instr.sliceAt, Instr.slice, Instr.sliceBounds, run_underlying hT.und, hT.size, Result.andThen]
      · subst e2
        simp [Instr.sliceAt, Instr.slice, Instr.sliceBounds, run_underlying hT.und, hT.size, e4, hsh, Result.andThen]
      · subst e4
        simp [Instr.sliceAt, Instr.slice, Instr.sliceBounds, run_underlying hT.und, hT.size, e2, hsl, Result.andThen]
      · simp [Instr.sliceAt, Instr.slice, Instr.sliceBounds, run_underlying hT.und, hT.size, e2, e4, hsl, hsh, Result.andThen]
    generalize hv : a.eval x = v at h1
    have hlen' : ((es.take h).drop l).length = h - l := by simp; omega
    cases h1 with
    | d h1 =>
      cases h1 with
      | nil =>
        simp only [List.length_nil, Nat.le_zero] at hlen
        subst hlen
        have : l = 0 := by omega
        subst this
        refine ⟨.slice (if 0 = 0 then none else none) (0 - 0) (0 - 0), by simp only [execOp, hop, hv, Sem.run_bind, Option.map_none, key 0 0 none rfl (Nat.le_refl _), Result.andThen_ok, Sem.run_pure], ?_⟩
        simp
        exact .d (.nil k)
      | emp a0 cap0 _ hmax =>
        simp only [List.length_nil, Nat.le_zero] at hlen
        subst hlen
        have : l = 0 := by omega
        subst this
        refine ⟨.slice (if cap0 = 0 then some a0 else (some a0).map (·.add (0 * k))) (0 - 0) (cap0 - 0), by simp only [execOp, hop, hv, Sem.run_bind, Option.map_none, key 0 cap0 (some a0) rfl (Nat.zero_le _), Result.andThen_ok, Sem.run_pure], ?_⟩
        by_cases hc0 : cap0 = 0
        · rw [if_pos hc0]; exact .d (.emp _ _ k (by omega))
        · rw [if_neg hc0]; exact .d (.emp _ _ k (by omega))
      | sl b off cap _ _ vs hcap hmax hb hk hvs hc =>
        refine ⟨.slice (if cap = l then some ⟨b, off, none⟩ else (some (⟨b, off, none⟩ : Addr)).map (·.add (l * k))) (h - l) (cap - l), by simp only [execOp, hop, hv, Sem.run_bind, Option.map_none, key es.length cap (some ⟨b, off, none⟩) rfl hcap, Result.andThen_ok, Sem.run_pure], .d ?_⟩
        rw [← hlen']
        have hget : ∀ i, ((es.take h).drop l)[i]? = if l + i < h then es[l + i]? else none := fun i => by
          rw [List.getElem?_drop, List.getElem?_take]
        have hk' : ∀ (i : Nat) (e : List D), ((es.take h).drop l)[i]? = some e → e.length = k := fun i e hi => by
          rw [hget] at hi
          split at hi
          · exact hk _ _ hi
          · cases hi
        by_cases hcl : cap = l
        · rw [if_pos hcl]
          have hnil : (es.take h).drop l = [] := List.eq_nil_of_length_eq_zero (by omega)
          rw [hnil]
          exact .sl b off (cap - l) k [] (fun _ _ => undef) (by simp) (by omega) hb (fun i e h => by simp at h) (fun i e j c h => by simp at h) (fun i e j c h => by simp at h)
        · rw [if_neg hcl, Option.map_some, Addr.add_lit]
          refine .sl b (off + l * k) (cap - l) k _ (fun i j => vs (l + i) j) (by omega) (by omega) hb hk' (fun i e j c hi hj => ?_) (fun i e j c hi hj => ?_)
          · rw [hget] at hi
            split at hi
            · have := hvs _ _ _ _ hi hj
              rw [show off + l * k + i * k + j = off + (l + i) * k + j by rw [Nat.add_mul]; omega]; exact this
            · cases hi
          · rw [hget] at hi
            split at hi
            · exact hc _ _ _ _ hi hj
            · cases hi
theorem v_cut_str {d T l h : Nat} {x : Operand} {xl xh : Option Operand} {s : ByteArray} (hop : o.op = .slice T x xl xh none) (hg : GOn ops o m) (hdst : o.dst = some d) (hd : d < G.nt) (hT : P.underlying T = some .string)
    (hx : evO m x = .d (.s (.string s))) (hl : BdIs m xl 0 l) (hh : BdIs m xh s.size h) (hlh : l ≤ h) (hlen : h ≤ s.size) :
    Valid P ops G o m ⟨gloc ops o ++ (lo x ++ (lo? xl ++ lo? xh)), [(.t d, .d (.s (.string (s.extract l h))))]⟩ :=
  valid_pure hg hdst hd fun m' hm φ a w hr => by
    have h1 := hr.s (x := x) (fun l hl => hm l (by simp [hl])) hx
    have h2 := bound_run hr (x := xl) (fun l hl => hm l (by simp [hl])) hl
    have h3 := bound_run hr (x := xh) (fun l hl => hm l (by simp [hl])) hh
    refine ⟨_, ?_, .d (.s _)⟩
    have hsl : ∀ ik, (Instr.sliceBound (.int ik (l : Int)) h .sliceB).run P w = .ok l w := fun ik => by
      have := run_sliceBound (P := P) w ik l h .sliceB (by omega) (by omega); simpa using this
    have hsh : ∀ ik, (Instr.sliceBound (.int ik (h : Int)) s.size .sliceAlen).run P w = .ok h w := fun ik => by
      have := run_sliceBound (P := P) w ik h s.size .sliceAlen (by omega) (by omega); simpa using this
    rcases h2 with ⟨e1, e2⟩ | ⟨yl, il, e1, e2⟩ <;> rcases h3 with ⟨e3, e4⟩ | ⟨yh, ih, e3, e4⟩ <;> subst e1 <;> subst e3
    · subst e2; subst e4
      simp [execOp, hop, h1, Instr.sliceAt, Instr.slice, Instr.sliceBounds, run_underlying hT, Result.andThen]
    · subst e2
      simp [execOp, hop, h1, Instr.sliceAt, Instr.slice, Instr.sliceBounds, run_underlying hT, e4, hsh, Result.andThen]
    · subst e4
      simp [execOp, hop, h1, Instr.sliceAt, Instr.slice, Instr.sliceBounds, run_underlying hT, e2, hsl, Result.andThen]
    · simp [execOp, hop, h1, Instr.sliceAt, Instr.slice, Instr.sliceBounds, run_underlying hT, e2, e4, hsl, hsh, Result.andThen]
end
end Go.Awp
set_option linter.unusedSimpArgs false
set_option linter.unusedVariables false
namespace Go.Awp
open Go.RowKit
section
variable {P : Program} {ops : Array Oper} {G : Call0} {o : Oper} {m : St}
def D.one : D → Bool
  | .s v => v.oneCell'
  | .agg _ => false
  | _ => true
theorem repD_one {ok : Nat → Prop} {w : World} {v : Value} {x : D} (h : RepD ok w v x) (h1 : x.one = true) : v.oneCell' = true := by
  cases h <;> simp_all [D.one, Value.oneCell']
theorem own_inv {φ : Phi} {ok : Nat → Prop} {w : World} {v : Value} {id k n : Nat} (h : RepV φ ok w v (.own id k n)) :
    (φ id = some none ∧ v = .slice none 0 0 ∧ n = 0) ∨ ∃ b cap, φ id = some (some (b, cap)) ∧ v = .slice (some ⟨b, 0, none⟩) n cap ∧ n ≤ cap := by
  cases h with
  | nil _ _ h => exact .inl ⟨h, rfl, rfl⟩
  | own _ _ _ b cap h hn => exact .inr ⟨b, cap, h, rfl, hn⟩
/-- What is appended: data, or a row of the call's own. -/
inductive Src (m : St) (k : Nat) (es : List (List D)) : V → List Loc → Prop
  | d : Src m k es (.d (.sl k es)) []
  | own (id n : Nat) (fz : Bool) (e : TypeId) (h : m (.b id) = .row fz e k es) (hn : n = es.length) : Src m k es (.own id k n) [.b id]
theorem src_of {φ : Phi} {a : Act} {w : World} {k : Nat} {es : List (List D)} {v : Value} {X : V} {ls : List Loc} (h : RR G φ m a w) (hs : Src m k es X ls) (hk : ∀ e ∈ es, e.length = k) (hv : RepV φ (okOf G φ m w) w v X) (h1 : ∀ e ∈ es, ∀ d ∈ e, d.one = true) :
    (v = .slice none 0 0 ∧ es = []) ∨ ∃ ad c, ∃ news : List Value, v = .slice (some ad) es.length c ∧ news.length = es.length * k ∧ (∀ (j : Nat) u, news[j]? = some u → w.cell? (ad.add j) = some u) ∧ (∀ u ∈ news, u.oneCell' = true) ∧
      ∀ (x j : Nat) (ds : List D) (d : D), es[x]? = some ds → ds[j]? = some d → ∃ u, news[x * k + j]? = some u ∧ RepD (okOf G φ m w) w u d := by
  have mk : ∀ (ad : Addr) (f : Nat → Nat → Value), (∀ (x j : Nat) (ds : List D) (d : D), es[x]? = some ds → ds[j]? = some d → w.cell? (ad.add (x * k + j)) = some (f x j) ∧ RepD (okOf G φ m w) w (f x j) d) →
      ∃ news : List Value, news.length = es.length * k ∧ (∀ (j : Nat) u, news[j]? = some u → w.cell? (ad.add j) = some u) ∧ (∀ u ∈ news, u.oneCell' = true) ∧ ∀ (x j : Nat) (ds : List D) (d : D), es[x]? = some ds → ds[j]? = some d → ∃ u, news[x * k + j]? = some u ∧ RepD (okOf G φ m w) w u d := by
    intro ad f hf
    have hg : ∀ i, i < es.length * k → ∃ ds d, es[i / k]? = some ds ∧ ds[i % k]? = some d ∧ i / k * k + i % k = i := fun i hi => by
      have hk0 : 0 < k := by rcases Nat.eq_zero_or_pos k with h | h <;> first | exact h | (subst h; simp at hi)
      have hdiv : i / k < es.length := (Nat.div_lt_iff_lt_mul hk0).2 hi
      have hl := hk es[i / k] (by simp)
      exact ⟨es[i / k], es[i / k][i % k]'(by rw [hl]; exact Nat.mod_lt _ hk0), by simp, by simp, by rw [Nat.mul_comm]; exact Nat.div_add_mod i k⟩
    refine ⟨(List.range (es.length * k)).map fun i => f (i / k) (i % k), by simp, fun j u hu => ?_, fun u hu => ?_, fun x j ds d hx hj => ?_⟩
    · rw [List.getElem?_map, Option.map_eq_some_iff] at hu
      obtain ⟨i, hi, rfl⟩ := hu
      have hij : i = j := by
        have := List.getElem?_eq_some_iff.1 hi
        obtain ⟨h1, h2⟩ := this
        simpa using h2.symm
      subst hij
      have hlt : i < es.length * k := by have := (List.getElem?_eq_some_iff.1 hi).1; simpa using this
      obtain ⟨ds, d, h1, h2, h3⟩ := hg i hlt
      have := (hf _ _ _ _ h1 h2).1
      rwa [h3] at this
    · rw [List.mem_map] at hu
      obtain ⟨i, hi, rfl⟩ := hu
      rw [List.mem_range] at hi
      obtain ⟨ds, d, g1, g2, g3⟩ := hg i hi
      exact repD_one (hf _ _ _ _ g1 g2).2 (h1 ds (List.mem_of_getElem? g1) d (List.mem_of_getElem? g2))
    · have hjk : j < k := by rw [← hk ds (List.mem_of_getElem? hx)]; exact (List.getElem?_eq_some_iff.1 hj).1
      have hxl : x < es.length := (List.getElem?_eq_some_iff.1 hx).1
      have hlt : x * k + j < es.length * k := by
        have : x * k + k ≤ es.length * k := by rw [← Nat.succ_mul]; exact Nat.mul_le_mul_right k hxl
        omega
      refine ⟨f x j, ?_, (hf _ _ _ _ hx hj).2⟩
      have e1 : (x * k + j) / k = x := by rw [Nat.mul_comm, Nat.mul_add_div (by omega), Nat.div_eq_of_lt hjk]; rfl
      have e2 : (x * k + j) % k = j := by rw [Nat.mul_comm, Nat.mul_add_mod]; exact Nat.mod_eq_of_lt hjk
      rw [List.getElem?_map, List.getElem?_range hlt, Option.map_some, e1, e2]
  cases hs with
  | d =>
    cases hv with
    | d hv =>
      cases hv with
      | nil => exact .inl ⟨rfl, rfl⟩
      | emp a cap _ hmax => exact .inr ⟨a, cap, [], rfl, by simp, fun j u h => by simp at h, fun u h => by simp at h, fun x j ds d hx => by simp at hx⟩
      | sl b off cap _ _ vs hcap hmax hb hk' hvs hc =>
        obtain ⟨news, n1, n2, n3, n4⟩ := mk ⟨b, off, none⟩ vs (fun x j ds d hx hj => ⟨by rw [Addr.add_lit, ← Nat.add_assoc]; exact hvs _ _ _ _ hx hj, hc _ _ _ _ hx hj⟩)
        exact .inr ⟨_, _, news, rfl, n1, n2, n3, n4⟩
  | own id n fz e hb hn =>
    subst hn
    rcases row_at h hb with ⟨g1, g2⟩ | ⟨b, cap, arr, g1, g2, g3, g4, g5, g6⟩
    · rcases own_inv hv with ⟨hφ, rfl, _⟩ | ⟨b, c, hφ, rfl, hle⟩
      · exact .inl ⟨rfl, g2⟩
      · rw [g1] at hφ; cases hφ
    · rcases own_inv hv with ⟨hφ, rfl, _⟩ | ⟨b', c, hφ, rfl, hle⟩
      · rw [g1] at hφ; cases hφ
      · rw [g1] at hφ
        simp only [Option.some.injEq, Prod.mk.injEq] at hφ
        obtain ⟨rfl, rfl⟩ := hφ
        obtain ⟨news, n1, n2, n3, n4⟩ := mk ⟨b, 0, none⟩ (fun x j => arr.getD (x * k + j) undef) (fun x j ds d hx hj => by
          obtain ⟨v, hv1, hv2⟩ := (g6 x ds hx).2 j d hj
          rw [Addr.add_lit, Nat.zero_add, cell_of g2, hv1, Array.getD_eq_getD_getElem?, hv1]
          exact ⟨rfl, hv2⟩)
        exact .inr ⟨_, _, news, rfl, n1, n2, n3, n4⟩
structure ElemT (P : Program) (e k bytes : Nat) : Prop where
  info : ∃ i z, P.info? e = some i ∧ i.zero = some z ∧ i.size = k ∧ i.bytes = bytes ∧ z.cells.size = k
  pos : 0 < k
theorem ElemT.mk' {e k bytes : Nat} {z : Value} (h : (P.info? e).map (fun i => (i.zero, i.size, i.bytes)) = some (some z, k, bytes)) (hz : z.cells.size = k) (hk : 0 < k) : ElemT P e k bytes := by
  refine ⟨?_, hk⟩
  cases hi : P.info? e with
  | none => rw [hi] at h; simp at h
  | some i =>
    rw [hi] at h
    simp only [Option.map_some, Option.some.injEq, Prod.mk.injEq] at h
    exact ⟨i, z, rfl, h.1, h.2.1, h.2.2, hz⟩
/-- A row of the call's own has become another, where it lies or elsewhere. -/
theorem RR.appended {φ : Phi} {a : Act} {w w' : World} {id id' k : Nat} {e : TypeId} {es es' : List (List D)} {v' : Value} (h : RR G φ m a w) (hb : m (.b id) = .row false e k es) (hid : m (.b id') = .nob) {v : Value} (hv : RepV φ (okOf G φ m w) w v (.own id k es.length))
    (hgrow : w.grownBy w' v.ownBlock) (hat : v'.ownBlock = v.ownBlock ∨ ∃ g, v'.ownBlock = some g ∧ w.heap.size ≤ g)
    (hnew : (v' = .slice none 0 0 ∧ es' = []) ∨ ∃ g cap arr, v' = .slice (some ⟨g, 0, none⟩) es'.length cap ∧ w'.heap[g]? = some (.cells arr e (0, 0)) ∧ arr.size = cap * k ∧ es'.length ≤ cap ∧ cap ≤ maxCap ∧ RowIn (okOf G φ m w) w arr k es') :
    ∃ φ', RR G φ' (upd (upd m (.b id) .spent) (.b id') (.row false e k es')) a w' ∧ (∀ i x, φ i = some x → φ' i = some x) ∧
      RepV φ' (okOf G φ' (upd (upd m (.b id) .spent) (.b id') (.row false e k es')) w') w' v' (.own id' k es'.length) := by
  have hne : id' ≠ id := fun e => by subst e; rw [hb] at hid; cases hid
  have hφid' : φ id' = none := by have := h.blk id'; unfold BlkOK at this; rw [hid] at this; exact this
  -- where the new row lies
  obtain ⟨pl, hpl⟩ : ∃ pl : Option (Nat × Nat), (v' = .slice none 0 0 ∧ es' = [] ∧ pl = none) ∨ ∃ g cap arr, pl = some (g, cap) ∧ v' = .slice (some ⟨g, 0, none⟩) es'.length cap ∧ w'.heap[g]? = some (.cells arr e (0, 0)) ∧ arr.size = cap * k ∧ es'.length ≤ cap ∧ cap ≤ maxCap ∧ RowIn (okOf G φ m w) w arr k es' := by
    rcases hnew with ⟨h1, h2⟩ | ⟨g, cap, arr, h1, h2⟩
    · exact ⟨none, .inl ⟨h1, h2, rfl⟩⟩
    · exact ⟨some (g, cap), .inr ⟨g, cap, arr, rfl, h1, h2⟩⟩
  have hold : ∀ g cap, pl = some (g, cap) → (∃ c, φ id = some (some (g, c))) ∨ w.heap.size ≤ g := fun g cap hp => by
    rcases hpl with ⟨_, _, h3⟩ | ⟨g', cap', arr, h3, h4, _⟩
    · rw [h3] at hp; cases hp
    · rw [hp] at h3
      simp only [Option.some.injEq, Prod.mk.injEq] at h3
      obtain ⟨rfl, rfl⟩ := h3
      rw [h4] at hat
      simp only [Value.ownBlock] at hat
      rcases hat with hat | hat
      · rcases own_inv hv with ⟨hφ, rfl, _⟩ | ⟨b, c, hφ, rfl, hle⟩
        · simp [Value.ownBlock] at hat
        · simp only [Value.ownBlock, Option.some.injEq] at hat
          exact .inl ⟨c, by rw [hat]; exact hφ⟩
      · obtain ⟨g2, e1, e2⟩ := hat
        simp only [Option.some.injEq] at e1
        exact .inr (by omega)
  have hblk : ∀ b, b < w.heap.size → (∀ c, φ id ≠ some (some (b, c))) → w'.heap[b]? = w.heap[b]? := fun b hb hn => by
    refine hgrow.block b hb (fun e => ?_)
    rcases own_inv hv with ⟨hφ, rfl, _⟩ | ⟨b', c, hφ, rfl, hle⟩
    · simp [Value.ownBlock] at e
    · simp only [Value.ownBlock, Option.some.injEq] at e
      subst e
      exact hn c hφ
  have hlive : (m (.b id)).live = true := by rw [hb]; rfl
  have mb : ∀ i, i ≠ id → i ≠ id' → upd (upd m (.b id) .spent) (.b id') (.row false e k es') (.b i) = m (.b i) := fun i h1 h2 => by rw [upd_b_b _ _ h2, upd_b_b _ _ h1]
  have mid : upd (upd m (.b id) .spent) (.b id') (.row false e k es') (.b id) = .spent := by rw [upd_b_b _ _ (Ne.symm hne), upd_self]
  have mid' : upd (upd m (.b id) .spent) (.b id') (.row false e k es') (.b id') = .row false e k es' := upd_self _ _ _
  have hφx : ∀ i x, φ i = some x → updPhi φ id' pl i = some x := fun i x hi => by
    rw [updPhi_ne _ _ (fun e => by subst e; rw [hφid'] at hi; cases hi)]; exact hi
  have hok : ∀ b, okOf G φ m w b → okOf G (updPhi φ id' pl) (upd (upd m (.b id) .spent) (.b id') (.row false e k es')) w' b ∧ w'.heap[b]? = w.heap[b]? := by
    rintro b ⟨h1, h2, h3⟩
    have hnid : ∀ c, φ id ≠ some (some (b, c)) := fun c hc => by rw [h3 id c hc] at hlive; cases hlive
    refine ⟨⟨h1, Nat.lt_of_lt_of_le h2 hgrow.size, fun i c hi => ?_⟩, hblk b h2 hnid⟩
    by_cases e1 : i = id'
    · subst e1
      rw [updPhi_self] at hi
      simp only [Option.some.injEq] at hi
      rcases hold b c hi with ⟨c', hc'⟩ | hc'
      · exact absurd hc' (hnid c')
      · omega
    · rw [updPhi_ne _ _ e1] at hi
      by_cases e2 : i = id
      · subst e2; exact absurd hi (hnid c)
      · rw [mb i e2 e1]; exact h3 i c hi
  have hbel : Below G.w0.heap.size G.w0 w' := by
    refine h.below.trans ⟨hgrow.os, hgrow.tape, hgrow.output, hgrow.size, fun b hb' => hblk b (Nat.lt_of_lt_of_le hb' h.below.size) fun c hc => ?_⟩
    have := (h.lt id b c hc).1
    omega
  refine ⟨updPhi φ id' pl, ⟨hbel, h.nodef, h.size, fun t => ?_, fun i b c hi => ?_, fun i j b c c' hi hj hl hij => ?_, fun i => ?_⟩, hφx, ?_⟩
  · rw [upd_b_t, upd_b_t]; exact (h.slots t).mono hφx hok
  · by_cases e1 : i = id'
    · subst e1
      rw [updPhi_self] at hi
      simp only [Option.some.injEq] at hi
      have hlt : b < w'.heap.size := by
        rcases hpl with ⟨_, _, h3⟩ | ⟨g', cap', arr, h3, h4, h5, _⟩
        · rw [h3] at hi; cases hi
        · rw [h3] at hi
          simp only [Option.some.injEq, Prod.mk.injEq] at hi
          obtain ⟨rfl, rfl⟩ := hi
          exact (Array.getElem?_eq_some_iff.1 h5).1
      rcases hold b c hi with ⟨c', hc'⟩ | hc'
      · exact ⟨(h.lt id b c' hc').1, hlt⟩
      · exact ⟨Nat.le_trans h.below.size hc', hlt⟩
    · rw [updPhi_ne _ _ e1] at hi
      have := h.lt i b c hi
      exact ⟨this.1, Nat.lt_of_lt_of_le this.2 hgrow.size⟩
  · by_cases e1 : i = id'
    · subst e1
      rw [updPhi_self] at hi
      simp only [Option.some.injEq] at hi
      rw [updPhi_ne _ _ (Ne.symm hij)] at hj
      rcases hold b c hi with ⟨c2, hc2⟩ | hc2
      · by_cases e2 : j = id
        · subst e2; exact mid
        · rw [mb j e2 (Ne.symm hij)]
          exact h.inj id j b c2 c' hc2 hj hlive (Ne.symm e2)
      · have := (h.lt j b c' hj).2; omega
    · rw [updPhi_ne _ _ e1] at hi
      by_cases ei : i = id
      · subst ei; rw [mid] at hl; cases hl
      · rw [mb i ei e1] at hl
        by_cases e2 : j = id'
        · subst e2
          rw [updPhi_self] at hj
          simp only [Option.some.injEq] at hj
          rcases hold b c' hj with ⟨c2, hc2⟩ | hc2
          · have := h.inj id i b c2 c hc2 hi hlive (Ne.symm ei)
            rw [this] at hl; cases hl
          · have := (h.lt i b c hi).2; omega
        · rw [updPhi_ne _ _ e2] at hj
          by_cases e3 : j = id
          · subst e3; exact mid
          · rw [mb j e3 e2]; exact h.inj i j b c c' hi hj hl hij
  · by_cases e1 : i = id'
    · subst e1
      unfold BlkOK
      rw [mid']
      rcases hpl with ⟨h1, h2, h3⟩ | ⟨g, cap, arr, h3, h4, h5, h6, h7, h8, h9⟩
      · exact .inl ⟨by rw [updPhi_self, h3], h2⟩
      · refine .inr ⟨g, cap, arr, by rw [updPhi_self, h3], h5, h6, h7, h8, fun x ds hx => ⟨(h9 x ds hx).1, fun j d hj => ?_⟩⟩
        obtain ⟨u, hu1, hu2⟩ := (h9 x ds hx).2 j d hj
        exact ⟨u, hu1, hu2.mono hok⟩
    · by_cases e2 : i = id
      · subst e2
        unfold BlkOK
        rw [mid]; trivial
      · by_cases hsp : m (.b i) = .spent
        · unfold BlkOK; rw [mb i e2 e1, hsp]; trivial
        · refine blk_keep (updPhi_ne _ _ e1) hφx hok (mb i e2 e1) (fun j => by rw [upd_b_c, upd_b_c]) (fun b c hi => hblk b (h.lt i b c hi).2 fun c2 hc2 => ?_) (h.blk i)
          exact hsp (h.inj id i b c2 c hc2 hi hlive (Ne.symm e2))
  · rcases hpl with ⟨h1, h2, h3⟩ | ⟨g, cap, arr, h3, h4, h5, h6, h7, h8, h9⟩
    · rw [h1, h2]; exact .nil id' k (by rw [updPhi_self, h3])
    · rw [h4]; exact .own id' k _ g cap (by rw [updPhi_self, h3]) h7
theorem v_append {d T e k bytes id id' : Nat} {x y : Operand} {es es2 : List (List D)} {Y : V} {ls : List Loc} {c : Call} (hop : o.op = .call c) (hc : c = { callee := .builtin .append, args := #[x, y], argTypes := #[T, T] }) (hg : GOn ops o m) (hdst : o.dst = some d) (hd : d < G.nt)
    (hT : P.underlying T = some (.slice e)) (hE : ElemT P e k bytes) (hx : evO m x = .own id k es.length) (hb : m (.b id) = .row false e k es) (hy : evO m y = Y) (hs : Src m k es2 Y ls) (hid : m (.b id') = .nob)
    (hk1 : ∀ e ∈ es, e.length = k) (hk2 : ∀ e ∈ es2, e.length = k) (h1 : ∀ e ∈ es2, ∀ d ∈ e, d.one = true) (hbytes : (es.length + es2.length) * bytes ≤ 140737488355328) (hmax : es.length + es2.length ≤ maxCap) :
    Valid P ops G o m ⟨gloc ops o ++ (lo x ++ (lo y ++ (.b id :: .b id' :: ls))), [(.b id, .spent), (.b id', .row false e k (es ++ es2)), (.t d, .own id' k (es.length + es2.length))]⟩ :=
  valid_of hg (fun l hl => by simp [hl]) fun m' hm φ a w hr => by
    have hx' := hr.ev' (x := x) (fun l hl => hm l (by simp [hl])) hx
    have hy' := hr.ev' (x := y) (fun l hl => hm l (by simp [hl])) hy
    have hb' : m' (.b id) = .row false e k es := by rw [hm _ (by simp)]; exact hb
    have hid' : m' (.b id') = .nob := by rw [hm _ (by simp)]; exact hid
    have hs' : Src m' k es2 Y ls := by
      cases hs with
      | d => exact .d
      | own i n fz e h hn => exact .own i n fz e (by rw [hm _ (by simp)]; exact h) hn
    obtain ⟨i, z, i1, i2, i3, i4, i5⟩ := hE.info
    -- the row that is appended to
    obtain ⟨cur, hown, hcur⟩ : ∃ xs : List Value, w.ownsRow G.w0.heap.size e k (a.eval x) es.length xs ∧ xs.length = es.length * k ∧ ∀ (y j : Nat) (ds : List D) (d : D), es[y]? = some ds → ds[j]? = some d → ∃ u, xs[y * k + j]? = some u ∧ RepD (okOf G φ m' w) w u d := by
      rcases row_at hr hb' with ⟨g1, g2⟩ | ⟨b, cap, arr, g1, g2, g3, g4, g5, g6⟩
      · generalize a.eval x = v at hx'
        subst g2
        rcases own_inv hx' with ⟨hφ, rfl, _⟩ | ⟨b', c, hφ, rfl, hle⟩
        · exact ⟨[], ⟨by simp, .inl ⟨rfl, rfl⟩⟩, by simp, fun y j ds d hy => by simp at hy⟩
        · rw [g1] at hφ; cases hφ
      · generalize a.eval x = v at hx'
        generalize hn : es.length = n at hx' g4
        rcases own_inv hx' with ⟨hφ, rfl, _⟩ | ⟨b', c, hφ, rfl, hle⟩
        · rw [g1] at hφ; cases hφ
        · rw [g1] at hφ
          simp only [Option.some.injEq, Prod.mk.injEq] at hφ
          obtain ⟨rfl, rfl⟩ := hφ
          have hle2 : n * k ≤ arr.size := by rw [g3]; exact Nat.mul_le_mul_right k g4
          refine ⟨arr.toList.take (n * k), ⟨by simp; omega, .inr ⟨b, cap, arr, rfl, (hr.lt id b cap g1).1, g2, hle, g5, g3, rfl⟩⟩, by simp; omega, fun y j ds d hy hj => ?_⟩
          have hjk : j < k := by rw [← hk1 ds (List.mem_of_getElem? hy)]; exact (List.getElem?_eq_some_iff.1 hj).1
          have hyl : y < n := by rw [← hn]; exact (List.getElem?_eq_some_iff.1 hy).1
          have hlt : y * k + j < n * k := by
            have : y * k + k ≤ n * k := by rw [← Nat.succ_mul]; exact Nat.mul_le_mul_right k hyl
            omega
          obtain ⟨u, hu1, hu2⟩ := (g6 y ds hy).2 j d hj
          exact ⟨u, by rw [List.getElem?_take_of_lt hlt, Array.getElem?_toList]; exact hu1, hu2⟩
    have hrow : ∀ (xs : List Value) (cap : Nat) (arr : Array Value) (news : List Value), xs.length = es.length * k → arr.toList.take ((es.length + es2.length) * k) = xs ++ news →
        (∀ (y j : Nat) (ds : List D) (d : D), es[y]? = some ds → ds[j]? = some d → ∃ u, xs[y * k + j]? = some u ∧ RepD (okOf G φ m' w) w u d) →
        (∀ (y j : Nat) (ds : List D) (d : D), es2[y]? = some ds → ds[j]? = some d → ∃ u, news[y * k + j]? = some u ∧ RepD (okOf G φ m' w) w u d) → RowIn (okOf G φ m' w) w arr k (es ++ es2) := by
      intro xs cap arr news hxl harr h1 h2 y ds hy
      have hlen : ds.length = k := by
        have := List.mem_of_getElem? hy
        rw [List.mem_append] at this
        exact this.elim (hk1 ds) (hk2 ds)
      refine ⟨hlen, fun j d hj => ?_⟩
      have hjk : j < k := by rw [← hlen]; exact (List.getElem?_eq_some_iff.1 hj).1
      have hyl : y < es.length + es2.length := by have := (List.getElem?_eq_some_iff.1 hy).1; simpa using this
      have hlt : y * k + j < (es.length + es2.length) * k := by
        have : y * k + k ≤ (es.length + es2.length) * k := by rw [← Nat.succ_mul]; exact Nat.mul_le_mul_right k hyl
        omega
      have hg : arr[y * k + j]? = (xs ++ news)[y * k + j]? := by rw [← harr, List.getElem?_take_of_lt hlt, Array.getElem?_toList]
      by_cases hy1 : y < es.length
      · rw [List.getElem?_append_left hy1] at hy
        obtain ⟨u, hu1, hu2⟩ := h1 y j ds d hy hj
        refine ⟨u, ?_, hu2⟩
        rw [hg, List.getElem?_append_left (by exact (List.getElem?_eq_some_iff.1 hu1).1)]; exact hu1
      · rw [List.getElem?_append_right (by omega)] at hy
        obtain ⟨u, hu1, hu2⟩ := h2 _ j ds d hy hj
        refine ⟨u, ?_, hu2⟩
        have hge : es.length * k ≤ y * k := Nat.mul_le_mul_right k (by omega)
        rw [hg, List.getElem?_append_right (by omega), hxl, show y * k + j - es.length * k = (y - es.length) * k + j by rw [Nat.sub_mul]; omega]; exact hu1
    have hlen2 : (es ++ es2).length = es.length + es2.length := by simp
    have fin : ∀ v' w', (Builtin.append_ #[T, T] o.type #[a.eval x, a.eval y]).run P w = .ok v' w' → w.grownBy w' (a.eval x).ownBlock → (v'.ownBlock = (a.eval x).ownBlock ∨ v'.ownBlock = some w.heap.size) →
        ((v' = .slice none 0 0 ∧ (es ++ es2) = []) ∨ ∃ g cap arr, v' = .slice (some ⟨g, 0, none⟩) (es ++ es2).length cap ∧ w'.heap[g]? = some (.cells arr e (0, 0)) ∧ arr.size = cap * k ∧ (es ++ es2).length ≤ cap ∧ cap ≤ maxCap ∧ RowIn (okOf G φ m' w) w arr k (es ++ es2)) →
        ∃ v w1, (execOp a.eval o).run P w = .ok (.value v) w1 ∧ R G (updL m' [(.b id, .spent), (.b id', .row false e k (es ++ es2)), (.t d, .own id' k (es.length + es2.length))]) (a.put o.dst v) w1 := fun v' w' hrun hgrow hat hnew => by
      obtain ⟨φ', q1, q2, q3⟩ := hr.appended hb' hid' hx' hgrow (hat.imp (fun h => h) fun h => ⟨_, h, Nat.le_refl _⟩) hnew
      refine ⟨v', w', ?_, φ', ?_⟩
      · subst hc
        simp only [execOp, hop, resolve, invoke, builtin, Sem.run_bind, Sem.run_pure, Result.andThen_ok, List.map_toArray, List.map_cons, List.map_nil, hrun]
      · rw [hdst]
        rw [hlen2] at q3
        exact q1.put d hd q3
    rcases src_of hr hs' hk2 hy' h1 with ⟨n1, n2⟩ | ⟨ad, cp, news, n1, n2, n3, n4, n5⟩
    · -- nothing is appended
      subst n2
      have hrun : (Builtin.append_ #[T, T] o.type #[a.eval x, a.eval y]).run P w = .ok (a.eval x) w := by
        rw [n1]
        generalize a.eval x = v at hown hx'
        have hin : (isAgg T).run P w = (isAgg T).run P w := rfl
        have hsz0 : (sizeOf e).run P w = .ok k w := by simp [sizeOf, typeInfo, i1, i3]
        rcases own_inv hx' with ⟨hφ, rfl, _⟩ | ⟨b', c, hφ, rfl, hle⟩
        · simp [Builtin.append_, run_underlying hT, hsz0, Builtin.lenOf, Builtin.firstCells, Result.andThen]
        · simp [Builtin.append_, run_underlying hT, hsz0, Builtin.lenOf, Builtin.firstCells, hle, storeCells, Result.andThen]
      refine fin _ _ hrun ⟨rfl, rfl, rfl, Nat.le_refl _, fun _ _ _ => rfl⟩ (.inl rfl) ?_
      obtain ⟨hl, hcs⟩ := hown
      rcases hcs with ⟨c1, c2⟩ | ⟨g, cap, arr, c1, c2, c3, c4, c5, c6, c7⟩
      · exact .inl ⟨c1, by rw [List.append_nil]; exact List.eq_nil_of_length_eq_zero c2⟩
      · refine .inr ⟨g, cap, arr, by rw [c1]; simp, c3, c6, by simpa using c4, c5, ?_⟩
        exact hrow cur cap arr [] hcur.1 (by simpa using c7) hcur.2 (fun y j ds d hy => by simp at hy)
    · obtain ⟨v', w', r1, r2, r3, r4, r5⟩ := run_append_own_at (P := P) w G.w0.heap.size T o.type e i z k bytes hT i1 i2 i3 i4 i5 hE.pos (a.eval x) es.length cur hown ad es2.length cp news n2 n3 n4 hmax hbytes hr.below.size
      refine fin v' w' (by rw [n1]; exact r1) r3 r5 ?_
      obtain ⟨hl, hcs⟩ := r2
      rcases hcs with ⟨c1, c2⟩ | ⟨g, cap, arr, c1, c2, c3, c4, c5, c6, c7⟩
      · exact .inl ⟨c1, List.eq_nil_of_length_eq_zero (by rw [hlen2]; exact c2)⟩
      · exact .inr ⟨g, cap, arr, by rw [hlen2]; exact c1, c3, c6, by rw [hlen2]; exact c4, c5, hrow cur cap arr news hcur.1 c7 hcur.2 n5⟩
end
end Go.Awp
set_option linter.unusedSimpArgs false
set_option linter.unusedVariables false
namespace Go.Awp
open Go.RowKit
section
variable {P : Program} {ops : Array Oper} {G : Call0} {o : Oper} {m : St}
/-- What a call hands back: values, or one row that is the caller's own from then on. -/
inductive Ret where
  | ds (l : List D)
  | own (e : TypeId) (k : Nat) (es : List (List D))
def okNew (ok0 : Nat → Prop) (w w' : World) (b : Nat) : Prop := ok0 b ∨ (w.heap.size ≤ b ∧ b < w'.heap.size)
inductive RepRet (ok0 : Nat → Prop) (w w' : World) : Value → Ret → Prop
  | one {v : Value} {x : D} (h : RepD (okNew ok0 w w') w' v x) : RepRet ok0 w w' v (.ds [x])
  | many {vs : Array Value} {l : List D} (h1 : l.length ≠ 1) (h2 : vs.size = l.length) (h : ∀ (i : Nat) (v : Value) (x : D), vs[i]? = some v → l[i]? = some x → RepD (okNew ok0 w w') w' v x) : RepRet ok0 w w' (.tuple vs) (.ds l)
  | nil (e : TypeId) (k : Nat) : RepRet ok0 w w' (.slice none 0 0) (.own e k [])
  | own {b cap : Nat} {arr : Array Value} {e : TypeId} {k : Nat} {es : List (List D)} (h1 : w.heap.size ≤ b) (h2 : w'.heap[b]? = some (.cells arr e (0, 0))) (h3 : arr.size = cap * k) (h4 : es.length ≤ cap) (h5 : cap ≤ maxCap)
      (h : RowIn (fun b' => okNew ok0 w w' b' ∧ b' ≠ b) w' arr k es) : RepRet ok0 w w' (.slice (some ⟨b, 0, none⟩) es.length cap) (.own e k es)
/-- CALLED WITH THESE, IT HANDS BACK THIS; of what was there nothing has turned. -/
def Spec (P : Program) (A : Amb) (f : FuncId) (args : List D) (r : Ret) : Prop :=
  ∀ (w : World) (vs : Array Value) (ok0 : Nat → Prop), A.p w → (∀ b, ok0 b → b < w.heap.size) → vs.size = args.length → (∀ (i : Nat) (v : Value) (x : D), vs[i]? = some v → args[i]? = some x → RepD ok0 w v x) →
    Calls P f vs w fun e w' => ∃ v, e = .returned v ∧ Below w.heap.size w w' ∧ RepRet ok0 w w' v r
theorem ok_new {φ : Phi} {a : Act} {w w' : World} (h : RR G φ m a w) (hb : Below w.heap.size w w') {b : Nat} (hn : okNew (okOf G φ m w) w w' b) : okOf G φ m w' b := by
  rcases hn with ⟨h1, h2, h3⟩ | ⟨h1, h2⟩
  · exact ⟨h1, Nat.lt_of_lt_of_le h2 hb.size, h3⟩
  · exact ⟨.inr (Nat.le_trans h.below.size h1), h2, fun i c hi => by have := (h.lt i b c hi).2; omega⟩
/-- A row that a call made becomes the caller's own. -/
theorem RR.adopt {φ : Phi} {a : Act} {w w' : World} (h : RR G φ m a w) (hbel : Below w.heap.size w w') (id b cap k : Nat) (hid : m (.b id) = .nob) {arr : Array Value} {e : TypeId} {es : List (List D)} (hb : w.heap.size ≤ b) (hb2 : w'.heap[b]? = some (.cells arr e (0, 0)))
    (hsz : arr.size = cap * k) (hle : es.length ≤ cap) (hmax : cap ≤ maxCap) (hrow : RowIn (fun b' => okNew (okOf G φ m w) w w' b' ∧ b' ≠ b) w' arr k es) :
    RR G (updPhi φ id (some (b, cap))) (upd m (.b id) (.row false e k es)) a w' := by
  have hlt : b < w'.heap.size := (Array.getElem?_eq_some_iff.1 hb2).1
  have hφid : φ id = none := by have := h.blk id; unfold BlkOK at this; rw [hid] at this; exact this
  have hφx : ∀ i x, φ i = some x → updPhi φ id (some (b, cap)) i = some x := fun i x hi => by
    rw [updPhi_ne _ _ (fun e => by subst e; rw [hφid] at hi; cases hi)]; exact hi
  have hmap : ∀ b', b' ≠ b → (∀ i c, φ i = some (some (b', c)) → (m (.b i)).live = false) → ∀ i c, updPhi φ id (some (b, cap)) i = some (some (b', c)) → (upd m (.b id) (.row false e k es) (.b i)).live = false := fun b' hne h3 i c hi => by
    by_cases ei : i = id
    · subst ei
      rw [updPhi_self] at hi
      simp only [Option.some.injEq, Prod.mk.injEq] at hi
      exact absurd hi.1.symm hne
    · rw [updPhi_ne _ _ ei] at hi
      rw [upd_b_b _ _ ei]; exact h3 i c hi
  have hok : ∀ b', okOf G φ m w b' → okOf G (updPhi φ id (some (b, cap))) (upd m (.b id) (.row false e k es)) w' b' ∧ w'.heap[b']? = w.heap[b']? := by
    rintro b' ⟨h1, h2, h3⟩
    exact ⟨⟨h1, Nat.lt_of_lt_of_le h2 hbel.size, hmap b' (by omega) h3⟩, hbel.block b' h2⟩
  have hokn : ∀ b', okNew (okOf G φ m w) w w' b' ∧ b' ≠ b → okOf G (updPhi φ id (some (b, cap))) (upd m (.b id) (.row false e k es)) w' b' ∧ w'.heap[b']? = w'.heap[b']? := by
    rintro b' ⟨h1, h2⟩
    obtain ⟨g1, g2, g3⟩ := ok_new h hbel h1
    exact ⟨⟨g1, g2, hmap b' h2 g3⟩, rfl⟩
  refine ⟨h.below.trans (hbel.mono h.below.size), h.nodef, h.size, fun t => by rw [upd_b_t]; exact (h.slots t).mono hφx hok, fun i b' c hi => ?_, fun i j b' c c' hi hj hl hij => ?_, fun i => ?_⟩
  · by_cases ei : i = id
    · subst ei
      rw [updPhi_self] at hi
      simp only [Option.some.injEq, Prod.mk.injEq] at hi
      obtain ⟨rfl, _⟩ := hi
      exact ⟨Nat.le_trans h.below.size hb, hlt⟩
    · rw [updPhi_ne _ _ ei] at hi
      have := h.lt i b' c hi
      exact ⟨this.1, Nat.lt_of_lt_of_le this.2 hbel.size⟩
  · by_cases ei : i = id
    · subst ei
      rw [updPhi_self] at hi
      simp only [Option.some.injEq, Prod.mk.injEq] at hi
      obtain ⟨rfl, _⟩ := hi
      rw [updPhi_ne _ _ (Ne.symm hij)] at hj
      have := (h.lt j _ _ hj).2
      omega
    · rw [updPhi_ne _ _ ei] at hi
      by_cases ej : j = id
      · subst ej
        rw [updPhi_self] at hj
        simp only [Option.some.injEq, Prod.mk.injEq] at hj
        have := (h.lt i b' c hi).2
        omega
      · rw [updPhi_ne _ _ ej] at hj
        rw [upd_b_b _ _ ei] at hl
        rw [upd_b_b _ _ ej]; exact h.inj i j b' c c' hi hj hl hij
  · by_cases ei : i = id
    · subst ei
      unfold BlkOK
      rw [upd_self]
      refine .inr ⟨b, cap, arr, updPhi_self _ _ _, hb2, hsz, hle, hmax, fun x ds hx => ⟨(hrow x ds hx).1, fun j d hj => ?_⟩⟩
      obtain ⟨v, h1, h2⟩ := (hrow x ds hx).2 j d hj
      exact ⟨v, h1, h2.mono hokn⟩
    · exact blk_keep (updPhi_ne _ _ ei) hφx hok (upd_b_b _ _ ei) (fun j => upd_b_c _ _ _ _ _) (fun b c hi => hbel.block b (h.lt i b c hi).2) (h.blk i)
/-- Which function an operand is, and what it captured. -/
def FnIs (m : St) (fo : Operand) (g : FuncId) (caps : List D) : Prop := (fo = .func g ∧ caps = []) ∨ evO m fo = .d (.fn g caps)
theorem call_args {φ : Phi} {m' : St} {a : Act} {w : World} {xs : Array Operand} {ds : List D} (h : RR G φ m' a w) (hm : ∀ l ∈ xs.toList.flatMap lo, m' l = m l) (hx : xs.toList.map (evO m) = ds.map .d) :
    (xs.map a.eval).size = ds.length ∧ ∀ (i : Nat) (v : Value) (x : D), (xs.map a.eval)[i]? = some v → ds[i]? = some x → RepD (okOf G φ m' w) w v x := by
  have hl : xs.size = ds.length := by have := congrArg List.length hx; simpa using this
  refine ⟨by simp [hl], fun i v x hv hxi => ?_⟩
  rw [Array.getElem?_map, Option.map_eq_some_iff] at hv
  obtain ⟨y, hy, rfl⟩ := hv
  have h1 : (xs.toList.map (evO m))[i]? = some (evO m y) := by rw [List.getElem?_map, Array.getElem?_toList, hy]; rfl
  rw [hx, List.getElem?_map, hxi] at h1
  simp only [Option.map_some, Option.some.injEq] at h1
  have := h.ev' (x := y) (fun l hl => hm l (List.mem_flatMap.2 ⟨y, by rw [Array.mem_toList_iff]; exact Array.mem_of_getElem? hy, hl⟩)) h1.symm
  generalize a.eval y = u at this ⊢
  cases this with | d h => exact h
theorem call_run {φ : Phi} {m' : St} {a : Act} {w : World} {c : Call} {fo : Operand} {xs : Array Operand} {g : FuncId} {caps ds : List D} (hop : o.op = .call c) (hc : c.callee = .value fo) (hxs : c.args = xs) (hen : ∀ args w, (callFunc g args).run P w = .ok (.enter g args) w)
    (h : RR G φ m' a w) (hm : ∀ l ∈ lo fo ++ xs.toList.flatMap lo, m' l = m l) (hf : FnIs m fo g caps) (hx : xs.toList.map (evO m) = ds.map .d) :
    ∃ vs : Array Value, (execOp a.eval o).run P w = .ok (.enter g vs) w ∧ vs.size = (ds ++ caps).length ∧ ∀ (i : Nat) (v : Value) (x : D), vs[i]? = some v → (ds ++ caps)[i]? = some x → RepD (okOf G φ m' w) w v x := by
  obtain ⟨a1, a2⟩ := call_args h (fun l hl => hm l (by simp only [List.mem_append]; exact .inr hl)) hx
  rcases hf with ⟨h1, h2⟩ | h1
  · subst h1; subst h2
    refine ⟨xs.map a.eval, ?_, by simpa using a1, by simpa using a2⟩
    simp [execOp, hop, resolve, hc, hxs, Deferred.ofValue, Act.eval, invoke, hen]
  · have hv := h.ev' (x := fo) (fun l hl => hm l (by simp [hl])) h1
    generalize he : a.eval fo = fv at hv
    cases hv with
    | d hv =>
      cases hv with
      | fn _ vs _ hl hcs =>
        refine ⟨xs.map a.eval ++ vs, ?_, by simp [a1, hl], fun i v x hv hx => ?_⟩
        · simp [execOp, hop, resolve, hc, hxs, Deferred.ofValue, he, invoke, hen]
        · by_cases hi : i < ds.length
          · rw [Array.getElem?_append_left (by rw [a1]; exact hi)] at hv
            rw [List.getElem?_append_left hi] at hx
            exact a2 i v x hv hx
          · rw [Array.getElem?_append_right (by rw [a1]; omega), a1] at hv
            rw [List.getElem?_append_right (by omega)] at hx
            exact hcs _ v x hv hx
theorem valid_call {e : Eff} {c : Call} {fo : Operand} {xs : Array Operand} {g : FuncId} {caps ds : List D} {r : Ret} (hop : o.op = .call c) (hc : c.callee = .value fo) (hxs : c.args = xs) (hen : ∀ args w, (callFunc g args).run P w = .ok (.enter g args) w)
    (hg : GOn ops o m) (hgl : ∀ l ∈ gloc ops o ++ (lo fo ++ xs.toList.flatMap lo), l ∈ e.rd) (hf : FnIs m fo g caps) (hx : xs.toList.map (evO m) = ds.map .d) (hs : Spec P G.A g (ds ++ caps) r)
    (h : ∀ m' : St, (∀ l ∈ e.rd, m' l = m l) → ∀ φ a w w' v, RR G φ m' a w → Below w.heap.size w w' → RepRet (okOf G φ m' w) w w' v r → R G (updL m' e.wr) (a.put o.dst v) w') : Valid P ops G o m e := by
  intro m' hm a w hr K Q hK
  obtain ⟨φ, hr⟩ := hr
  obtain ⟨vs, h1, h2, h3⟩ := call_run hop hc hxs hen hr (fun l hl => hm l (hgl l (by simp only [List.mem_append] at hl ⊢; exact .inr hl))) hf hx
  unfold opGo
  rw [if_pos (hr.wanted (hg.congr fun l hl => hm l (hgl l (by simp [hl]))))]
  left
  unfold Oper.wp
  rw [h1]
  refine (hs w vs (okOf G φ m' w) (G.A.keep _ _ G.hA hr.below) (fun b hb => hb.2.1) h2 h3).mono ?_
  rintro e' w' ⟨v, rfl, hb, hret⟩
  exact hK _ _ (h m' hm φ a w w' v hr hb hret)
def retV (l : List D) : V := match l with
  | [x] => .d x
  | l => .tup (l.map .d)
theorem v_call {d : Nat} {c : Call} {fo : Operand} {xs : Array Operand} {g : FuncId} {caps ds l : List D} (hop : o.op = .call c) (hc : c.callee = .value fo) (hxs : c.args = xs) (hen : ∀ args w, (callFunc g args).run P w = .ok (.enter g args) w)
    (hg : GOn ops o m) (hdst : o.dst = some d) (hd : d < G.nt) (hf : FnIs m fo g caps) (hx : xs.toList.map (evO m) = ds.map .d) (hs : Spec P G.A g (ds ++ caps) (.ds l)) :
    Valid P ops G o m ⟨gloc ops o ++ (lo fo ++ xs.toList.flatMap lo), [(.t d, retV l)]⟩ :=
  valid_call hop hc hxs hen hg (fun l hl => hl) hf hx hs fun m' hm φ a w w' v hr hb hret => by
    refine ⟨φ, ?_⟩
    rw [hdst]
    refine (hr.grow hb).put d hd ?_
    cases hret with
    | one h => exact .d (h.mono fun b hb' => ⟨ok_new hr hb hb', rfl⟩)
    | @many vs l h1 h2 h =>
      have : retV l = .tup (l.map .d) := by
        unfold retV
        split
        · simp at h1
        · rfl
      rw [this]
      refine .tup vs _ (by simpa using h2) fun i v c hv hc => ?_
      rw [List.getElem?_map, Option.map_eq_some_iff] at hc
      obtain ⟨x, hx, rfl⟩ := hc
      exact .d ((h i v x hv hx).mono fun b hb' => ⟨ok_new hr hb hb', rfl⟩)
theorem v_call_own {d id k : Nat} {e : TypeId} {es : List (List D)} {c : Call} {fo : Operand} {xs : Array Operand} {g : FuncId} {caps ds : List D} (hop : o.op = .call c) (hc : c.callee = .value fo) (hxs : c.args = xs) (hen : ∀ args w, (callFunc g args).run P w = .ok (.enter g args) w)
    (hg : GOn ops o m) (hdst : o.dst = some d) (hd : d < G.nt) (hf : FnIs m fo g caps) (hx : xs.toList.map (evO m) = ds.map .d) (hs : Spec P G.A g (ds ++ caps) (.own e k es)) (hid : m (.b id) = .nob) :
    Valid P ops G o m ⟨gloc ops o ++ (lo fo ++ xs.toList.flatMap lo) ++ [.b id], [(.b id, .row false e k es), (.t d, .own id k es.length)]⟩ :=
  valid_call hop hc hxs hen hg (fun l hl => by simp only [List.mem_append] at hl ⊢; exact .inl hl) hf hx hs fun m' hm φ a w w' v hr hb hret => by
    rw [hdst]
    have hid' : m' (.b id) = .nob := by rw [hm _ (by simp)]; exact hid
    cases hret with
    | nil =>
      -- a nil row
      have hφid : φ id = none := by have := hr.blk id; unfold BlkOK at this; rw [hid'] at this; exact this
      have hφx : ∀ i x, φ i = some x → updPhi φ id none i = some x := fun i x hi => by
        rw [updPhi_ne _ _ (fun e => by subst e; rw [hφid] at hi; cases hi)]; exact hi
      have hr2 := hr.grow hb
      have hlv : ∀ i, i ≠ id → upd m' (.b id) (.row false e k []) (.b i) = m' (.b i) := fun i hi => upd_b_b _ _ hi
      have hok : ∀ b, okOf G φ m' w' b → okOf G (updPhi φ id none) (upd m' (.b id) (.row false e k [])) w' b ∧ w'.heap[b]? = w'.heap[b]? := fun b ⟨h1, h2, h3⟩ => ⟨⟨h1, h2, fun i c hi => by
        by_cases ei : i = id
        · subst ei; rw [updPhi_self] at hi; cases hi
        · rw [updPhi_ne _ _ ei] at hi; rw [hlv i ei]; exact h3 i c hi⟩, rfl⟩
      have : RR G (updPhi φ id none) (upd m' (.b id) (.row false e k [])) a w' := by
        refine ⟨hr2.below, hr2.nodef, hr2.size, fun t => by rw [upd_b_t]; exact (hr2.slots t).mono hφx hok, fun i b c hi => ?_, fun i j b c c' hi hj hl hij => ?_, fun i => ?_⟩
        · by_cases ei : i = id
          · subst ei; rw [updPhi_self] at hi; cases hi
          · rw [updPhi_ne _ _ ei] at hi; exact hr2.lt i b c hi
        · by_cases ei : i = id
          · subst ei; rw [updPhi_self] at hi; cases hi
          · by_cases ej : j = id
            · subst ej; rw [updPhi_self] at hj; cases hj
            · rw [updPhi_ne _ _ ei] at hi; rw [updPhi_ne _ _ ej] at hj
              rw [hlv i ei] at hl; rw [hlv j ej]; exact hr2.inj i j b c c' hi hj hl hij
        · by_cases ei : i = id
          · subst ei; unfold BlkOK; rw [upd_self]; exact .inl ⟨updPhi_self _ _ _, rfl⟩
          · exact blk_keep (updPhi_ne _ _ ei) hφx hok (hlv i ei) (fun j => upd_b_c _ _ _ _ _) (fun b c hi => rfl) (hr2.blk i)
      exact ⟨_, this.put d hd (.nil id k (updPhi_self _ _ _))⟩
    | own h1 h2 h3 h4 h5 h =>
      have := hr.adopt hb id _ _ k hid' h1 h2 h3 h4 h5 h
      exact ⟨_, this.put d hd (.own id k _ _ _ (updPhi_self _ _ _) h4)⟩
inductive RC (P : Program) (m : St) : ResultVar → D → Prop
  | tmp {t : Nat} {x : D} (h : m (.t t) = .d x) : RC P m (.tmp t) x
  | cell {p T id off n k : Nat} {fz : Bool} {x : D} (hp : m (.t p) = .ptr id off) (hb : m (.b id) = .box fz n) (hT : AggT P T k) (hk : off + k ≤ n) (hx : mkV (cellsM m id off k) = .d x) : RC P m (.cell p T) x
def RetM (P : Program) (G : Call0) (fn : Func) (m : St) (r : Ret) : Prop := ∀ φ a w, RR G φ m a w → ∃ v, (results fn a.tmps).run P w = .ok v w ∧ RepRet G.ok0 G.w0 w v r
theorem ok_end {φ : Phi} {w : World} {b : Nat} (h : okOf G φ m w b) : okNew G.ok0 G.w0 w b := by
  rcases h with ⟨h1 | h1, h2, _⟩
  · exact .inl h1
  · exact .inr ⟨h1, h2⟩
theorem RR.dval {φ : Phi} {a : Act} {w : World} (h : RR G φ m a w) {t : Nat} {x : D} (ht : m (.t t) = .d x) : RepD (okOf G φ m w) w (a.tmps.getD t undef) x := by
  have := h.slots t
  rw [ht] at this
  generalize a.tmps.getD t undef = v at this ⊢
  cases this with | d h => exact h
def resRun (tmps : Array Value) : ResultVar → Sem Value
  | .tmp t => pure (tmps.getD t undef)
  | .cell p t => do loadVar t (← asAddr (tmps.getD p undef))
theorem rc_run {φ : Phi} {a : Act} {w : World} (h : RR G φ m a w) {rv : ResultVar} {x : D} (hr : RC P m rv x) :
    ∃ v, (resRun a.tmps rv).run P w = .ok v w ∧ RepD (okOf G φ m w) w v x := by
  cases hr with
  | tmp ht => exact ⟨_, rfl, h.dval ht⟩
  | @cell p T id off n k fz x hp hb hT hk hx =>
    have hv := h.slots p
    rw [hp] at hv
    generalize he : a.tmps.getD p undef = u at hv
    cases hv with
    | ptr _ _ b c hφ =>
      obtain ⟨b', c', arr, e, h3, h4, h5, h6⟩ := box_at h hb
      rw [hφ] at h3
      simp only [Option.some.injEq, Prod.mk.injEq] at h3
      obtain ⟨rfl, rfl⟩ := h3
      have hld := run_loadCells (P := P) w ⟨b, off, none⟩ k (fun j => arr.getD (off + j) undef) (fun j hj => by
        rw [Addr.add_lit, cell_of h4, Array.getD_eq_getD_getElem?, Array.getElem?_eq_getElem (by omega)]; rfl)
      have hrep : RepV φ (okOf G φ m w) w (.agg ((List.range k).map fun j => arr.getD (off + j) undef).toArray) (mkV (cellsM m id off k)) := rep_mkV (by simp [cellsM_length]) fun i v cc hv hc => by
        have hi : i < k := by rw [← cellsM_length m id k off]; exact (List.getElem?_eq_some_iff.1 hc).1
        rw [cellsM_get m id k off i hi] at hc
        simp only [Option.some.injEq] at hc
        rw [← hc]
        refine h6 (off + i) v ?_
        simp [hi] at hv
        rw [← hv, Array.getElem?_eq_getElem (by omega)]
        simp [Array.getD_eq_getD_getElem?, show off + i < arr.size by omega]
      rw [hx] at hrep
      refine ⟨_, ?_, by cases hrep with | d h => exact h⟩
      simp only [resRun, he]
      simp [asAddr, loadVar, hT.agg, hT.size, hld, Result.andThen]
theorem mapM_run {α : Type} (f : α → Sem Value) (w : World) : ∀ (xs : List α) (vs : List Value), xs.length = vs.length → (∀ (i : Nat) x v, xs[i]? = some x → vs[i]? = some v → (f x).run P w = .ok v w) → (xs.mapM f).run P w = .ok vs w
  | [], [], _, _ => by simp
  | [], _ :: _, h, _ => by simp at h
  | _ :: _, [], h, _ => by simp at h
  | x :: xs, v :: vs, h, hf => by
    have h0 := hf 0 x v rfl rfl
    have := mapM_run f w xs vs (by simpa using h) (fun i x v hx hv => hf (i + 1) x v (by simpa using hx) (by simpa using hv))
    rw [List.mapM_cons]
    simp [h0, this, Result.andThen]
theorem ret_ds {fn : Func} {l : List D} (hl : fn.results.size = l.length) (h : ∀ (i : Nat) rv x, fn.results[i]? = some rv → l[i]? = some x → RC P m rv x) : RetM P G fn m (.ds l) := by
  intro φ a w hr
  have hex : ∀ (xs : List ResultVar) (l : List D), xs.length = l.length → (∀ (i : Nat) rv x, xs[i]? = some rv → l[i]? = some x → RC P m rv x) → ∃ vs : List Value, vs.length = l.length ∧
      (∀ (i : Nat) rv v, xs[i]? = some rv → vs[i]? = some v → (resRun a.tmps rv).run P w = .ok v w) ∧
      ∀ (i : Nat) (v : Value) (x : D), vs[i]? = some v → l[i]? = some x → RepD (okOf G φ m w) w v x := by
    intro xs
    induction xs with
    | nil => intro l hl _; exact ⟨[], by simpa using hl, fun i rv v h => by simp at h, fun i v x h => by simp at h⟩
    | cons rv xs ih =>
      intro l hl h
      cases l with
      | nil => simp at hl
      | cons x l =>
        obtain ⟨v, hv1, hv2⟩ := rc_run hr (h 0 rv x rfl rfl)
        obtain ⟨vs, g1, g2, g3⟩ := ih l (by simpa using hl) (fun i rv x h1 h2 => h (i + 1) rv x (by simpa using h1) (by simpa using h2))
        refine ⟨v :: vs, by simp [g1], fun i rv' v' h1 h2 => ?_, fun i v' x' h1 h2 => ?_⟩
        · cases i with
          | zero => simp at h1 h2; subst h1; subst h2; exact hv1
          | succ i => exact g2 i rv' v' (by simpa using h1) (by simpa using h2)
        · cases i with
          | zero => simp at h1 h2; subst h1; subst h2; exact hv2
          | succ i => exact g3 i v' x' (by simpa using h1) (by simpa using h2)
  obtain ⟨vs, g1, g2, g3⟩ := hex fn.results.toList l (by simpa using hl) (fun i rv x h1 h2 => h i rv x (by simpa using h1) h2)
  have hm := mapM_run (P := P) (resRun a.tmps) w fn.results.toList vs (by rw [g1]; simpa using hl) g2
  have hma : (fn.results.mapM (resRun a.tmps)).run P w = .ok vs.toArray w := by
    rw [Array.mapM_eq_mapM_toList]
    simp [hm, Result.andThen]
  refine ⟨if h : vs.toArray.size = 1 then vs.toArray[0] else .tuple vs.toArray, ?_, ?_⟩
  · unfold results
    show Sem.run P ((fn.results.mapM (resRun a.tmps)) >>= fun vs => (pure (if h : vs.size = 1 then vs[0] else .tuple vs) : Sem Value)) w = _
    rw [Sem.run_bind, hma]; rfl
  · match l, vs, g1, g3 with
    | [x], [v], _, g3 => exact .one ((g3 0 v x rfl rfl).mono fun b hb => ⟨ok_end hb, rfl⟩)
    | [], [], _, g3 => exact .many (by simp) rfl (fun i v x h => by simp at h)
    | x1 :: x2 :: l, v1 :: v2 :: vs, g1, g3 =>
      rw [dif_neg (by simp)]
      exact .many (by simp) (by simpa using g1) (fun i v x h1 h2 => (g3 i v x (by simpa using h1) h2).mono fun b hb => ⟨ok_end hb, rfl⟩)
theorem ret_own {fn : Func} {t id k n : Nat} {e : TypeId} {es : List (List D)} (hf : fn.results = #[.tmp t]) (ht : m (.t t) = .own id k n) (hb : m (.b id) = .row false e k es) (hn : n = es.length) : RetM P G fn m (.own e k es) := by
  intro φ a w hr
  refine ⟨a.tmps.getD t undef, by simp [results, hf], ?_⟩
  have hv := hr.slots t
  rw [ht] at hv
  subst hn
  rcases row_at hr hb with ⟨g1, g2⟩ | ⟨b, cap, arr, g1, g2, g3, g4, g5, g6⟩
  · rcases own_inv hv with ⟨h1, h2, _⟩ | ⟨b', c, h1, h2, _⟩
    · rw [h2, g2]; exact .nil e k
    · rw [g1] at h1; cases h1
  · rcases own_inv hv with ⟨h1, h2, _⟩ | ⟨b', c, h1, h2, _⟩
    · rw [g1] at h1; cases h1
    · rw [g1] at h1
      simp only [Option.some.injEq, Prod.mk.injEq] at h1
      obtain ⟨rfl, rfl⟩ := h1
      rw [h2]
      refine .own (hr.lt id b cap g1).1 g2 g3 g4 g5 fun x ds hx => ⟨(g6 x ds hx).1, fun j d hj => ?_⟩
      obtain ⟨v, h1, h2⟩ := (g6 x ds hx).2 j d hj
      refine ⟨v, h1, h2.mono fun b' hb' => ⟨⟨ok_end hb', fun e => ?_⟩, rfl⟩⟩
      subst e
      have := hb'.2.2 id cap g1
      rw [hb] at this; cases this
def initSt (args : List D) : St
  | .t i => match args[i]? with
    | some x => .d x
    | none => .top
  | .b _ => .nob
  | .c _ _ => .top
def endQ (P : Program) (G : Call0) (fn : Func) (r : Ret) : Exit → St → Prop
  | .normal, m | .ret, m => RetM P G fn m r
  | _, _ => False
theorem spec_of {A : Amb} {f : FuncId} {fn : Func} {c : Code} {args : List D} {r : Ret} (hf : P.funcs[f]? = some fn) (hb : fn.body = some c) (hn : args.length ≤ fn.ntmps)
    (h : ∀ (w0 : World) (ok0 : Nat → Prop) (lt0 : ∀ b, ok0 b → b < w0.heap.size) (hA : A.p w0), HT P ⟨w0, ok0, fn.ntmps, lt0, A, hA⟩ c (endQ P ⟨w0, ok0, fn.ntmps, lt0, A, hA⟩ fn r) (initSt args)) : Spec P A f args r := by
  intro w vs ok0 hA hlt hsz hrep
  let G : Call0 := ⟨w, ok0, fn.ntmps, hlt, A, hA⟩
  refine calls_of_wp hf hb (wp_mono (h w ok0 hlt hA _ w ⟨fun _ => none, ?_⟩) ?_)
  · refine ⟨Below.refl _ _, rfl, by simp [hsz]; exact Nat.add_sub_cancel' hn, fun t => ?_, fun i b c hi => (by cases hi), fun i j b c c' hi => (by cases hi), fun i => rfl⟩
    have hok : ∀ b, ok0 b → okOf G (fun _ => none) (initSt args) w b := fun b hb => ⟨.inl hb, hlt b hb, fun i c hi => by cases hi⟩
    simp only [initSt]
    cases hx : args[t]? with
    | none => exact .top _
    | some x =>
      have ht : t < vs.size := by rw [hsz]; exact (List.getElem?_eq_some_iff.1 hx).1
      have : (vs ++ Array.replicate (fn.ntmps - vs.size) undef).getD t undef = vs[t] := by
        rw [Array.getD_eq_getD_getElem?, Array.getElem?_append_left ht, Array.getElem?_eq_getElem ht]; rfl
      show RepV _ _ w ((vs ++ Array.replicate (fn.ntmps - vs.size) undef).getD t undef) (.d x)
      rw [this]
      exact .d ((hrep t vs[t] x (by simp [ht]) hx).mono fun b hb => ⟨hok b hb, rfl⟩)
  · rintro e a' w' ⟨m', ⟨φ, h1⟩, h2⟩
    cases e <;> simp only [endQ] at h2
    · obtain ⟨v, q1, q2⟩ := h2 φ a' w' h1
      exact ⟨h1.nodef, v, q1, v, rfl, h1.below, q2⟩
    · obtain ⟨v, q1, q2⟩ := h2 φ a' w' h1
      exact ⟨h1.nodef, v, q1, v, rfl, h1.below, q2⟩
end
end Go.Awp
set_option linter.unusedSimpArgs false
set_option linter.unusedVariables false
namespace Go.Awp
open Go.RowKit
section
variable {P : Program} {ops : Array Oper} {G : Call0} {o : Oper} {m : St}
theorem sq_wk {r : List Oper} {K : St → Prop} {m m' : St} (hw : Wk G m m') (h : SQ P ops G (o :: r) K m') : SQ P ops G (o :: r) K m := fun a w hr => h a w (hw a w hr)
theorem wk_of {m' : St} (h : ∀ φ a w, RR G φ m a w → ∃ φ', RR G φ' m' a w) : Wk G m m' := fun a w ⟨φ, hr⟩ => h φ a w hr
/-- The same value, told otherwise. -/
theorem RR.retell {φ : Phi} {a : Act} {w : World} (h : RR G φ m a w) (l : Loc) (x : V) (hl : ∀ i, l ≠ .b i) (hx : ∀ v, RepV φ (okOf G φ m w) w v (m l) → RepV φ (okOf G φ m w) w v x) : RR G φ (upd m l x) a w := by
  have hb : ∀ i, upd m l x (.b i) = m (.b i) := fun i => upd_ne _ _ (Ne.symm (hl i))
  have hok : okOf G φ (upd m l x) w = okOf G φ m w := by funext b; simp [okOf, hb]
  have hone : ∀ l' v, RepV φ (okOf G φ m w) w v (m l') → RepV φ (okOf G φ m w) w v (upd m l x l') := fun l' v hv => by
    by_cases e : l' = l
    · subst e; rw [upd_self]; exact hx v hv
    · rw [upd_ne _ _ e]; exact hv
  refine ⟨h.below, h.nodef, h.size, fun t => by rw [hok]; exact hone _ _ (h.slots t), h.lt, fun i j b c c' hi hj hli hij => by rw [hb] at hli ⊢; exact h.inj i j b c c' hi hj hli hij, fun i => ?_⟩
  have hi := h.blk i
  unfold BlkOK at hi ⊢
  rw [hb, hok]
  cases hm : m (.b i) <;> rw [hm] at hi <;> first | exact hi.elim | exact hi | skip
  obtain ⟨b, c, arr, e, h1, h2, h3, h4⟩ := hi
  exact ⟨b, c, arr, e, h1, h2, h3, fun j v hj => hone _ _ (h4 j v hj)⟩
theorem wk_retell (l : Loc) (x : V) (hl : ∀ i, l ≠ .b i) (hx : ∀ φ a w, RR G φ m a w → ∀ v, RepV φ (okOf G φ m w) w v (m l) → RepV φ (okOf G φ m w) w v x) : Wk G m (upd m l x) :=
  wk_of fun φ a w h => ⟨φ, h.retell l x hl (hx φ a w h)⟩
theorem weaker_refl (x : V) : V.weaker x x := .inl rfl
theorem wk_still_row (id k : Nat) (e : TypeId) (es : List (List D)) (hb : m (.b id) = .row false e k es) : Wk G m (upd m (.b id) (.row true e k es)) :=
  wk_of fun φ a w h => ⟨φ, h.weaken (fun t => by rw [upd_b_t]; exact weaker_refl _) (fun i j => by rw [upd_b_c]; exact weaker_refl _) (fun i => by
    by_cases e' : i = id
    · subst e'; rw [upd_self, hb]; exact .inr (.inr (.inl ⟨e, k, es, rfl, rfl⟩))
    · rw [upd_b_b _ _ e']; exact .inl rfl)⟩
/-- A still row, as data. -/
theorem rep_still_row {φ : Phi} {a : Act} {w : World} (h : RR G φ m a w) {id k n : Nat} {e : TypeId} {es : List (List D)} (hb : m (.b id) = .row true e k es) (hn : n = es.length) {v : Value} (hv : RepV φ (okOf G φ m w) w v (.own id k n)) : RepD (okOf G φ m w) w v (.sl k es) := by
  subst hn
  rcases row_at h hb with ⟨g1, g2⟩ | ⟨b, cap, arr, g1, g2, g3, g4, g5, g6⟩
  · rcases own_inv hv with ⟨h1, h2, _⟩ | ⟨b', c, h1, h2, _⟩
    · rw [h2, g2]; exact .nil k
    · rw [g1] at h1; cases h1
  · rcases own_inv hv with ⟨h1, h2, _⟩ | ⟨b', c, h1, h2, _⟩
    · rw [g1] at h1; cases h1
    · rw [g1] at h1
      simp only [Option.some.injEq, Prod.mk.injEq] at h1
      obtain ⟨rfl, rfl⟩ := h1
      rw [h2]
      have hok : okOf G φ m w b := by
        refine ⟨.inr (h.lt id b cap g1).1, (h.lt id b cap g1).2, fun i c hi => ?_⟩
        cases hl : (m (.b i)).live with
        | false => rfl
        | true =>
          by_cases e : i = id
          · subst e; rw [hb] at hl; cases hl
          · have := h.inj i id b c cap hi g1 hl e
            rw [hb] at this; cases this
      refine .sl b 0 cap k es (fun i j => arr.getD (i * k + j) undef) g4 g5 hok (fun i e hi => (g6 i e hi).1) (fun i e j c hi hj => ?_) (fun i e j c hi hj => ?_)
      · obtain ⟨v, h1, _⟩ := (g6 i e hi).2 j c hj
        rw [Nat.zero_add, cell_of g2, h1, Array.getD_eq_getD_getElem?, h1]; rfl
      · obtain ⟨v, h1, h2⟩ := (g6 i e hi).2 j c hj
        rw [Array.getD_eq_getD_getElem?, h1]; exact h2
theorem wk_row (l : Loc) (hl : ∀ i, l ≠ .b i) (id k n : Nat) (e : TypeId) (es : List (List D)) (hm : m l = .own id k n) (hb : m (.b id) = .row true e k es) (hn : n = es.length) : Wk G m (upd m l (.d (.sl k es))) :=
  wk_retell l _ hl fun φ a w h v hv => .d (rep_still_row h hb hn (by rw [← hm]; exact hv))
theorem wk_nil (l : Loc) (hl : ∀ i, l ≠ .b i) (k : Nat) (hm : m l = .d (.s (.slice none 0 0))) : Wk G m (upd m l (.d (.sl k []))) :=
  wk_retell l _ hl fun φ a w h v hv => by
    rw [hm] at hv
    cases hv with | d hv => cases hv; exact .d (.nil k)
/-- A nil slice, as an empty row of the call's own. -/
theorem wk_nilrow (l : Loc) (hl : ∀ i, l ≠ .b i) (id : Nat) (e : TypeId) (k : Nat) (hm : m l = .d (.s (.slice none 0 0))) (hid : m (.b id) = .nob) : Wk G m (upd (upd m (.b id) (.row false e k [])) l (.own id k 0)) := by
  refine wk_of fun φ a w hr2 => ?_
  have hφid : φ id = none := by have := hr2.blk id; unfold BlkOK at this; rw [hid] at this; exact this
  have hφx : ∀ i x, φ i = some x → updPhi φ id none i = some x := fun i x hi => by
    rw [updPhi_ne _ _ (fun e => by subst e; rw [hφid] at hi; cases hi)]; exact hi
  have hlv : ∀ i, i ≠ id → upd m (.b id) (.row false e k []) (.b i) = m (.b i) := fun i hi => upd_b_b _ _ hi
  have hok : ∀ b, okOf G φ m w b → okOf G (updPhi φ id none) (upd m (.b id) (.row false e k [])) w b ∧ w.heap[b]? = w.heap[b]? := fun b ⟨h1, h2, h3⟩ => ⟨⟨h1, h2, fun i c hi => by
    by_cases ei : i = id
    · subst ei; rw [updPhi_self] at hi; cases hi
    · rw [updPhi_ne _ _ ei] at hi; rw [hlv i ei]; exact h3 i c hi⟩, rfl⟩
  have : RR G (updPhi φ id none) (upd m (.b id) (.row false e k [])) a w := by
    refine ⟨hr2.below, hr2.nodef, hr2.size, fun t => by rw [upd_b_t]; exact (hr2.slots t).mono hφx hok, fun i b c hi => ?_, fun i j b c c' hi hj hl hij => ?_, fun i => ?_⟩
    · by_cases ei : i = id
      · subst ei; rw [updPhi_self] at hi; cases hi
      · rw [updPhi_ne _ _ ei] at hi; exact hr2.lt i b c hi
    · by_cases ei : i = id
      · subst ei; rw [updPhi_self] at hi; cases hi
      · by_cases ej : j = id
        · subst ej; rw [updPhi_self] at hj; cases hj
        · rw [updPhi_ne _ _ ei] at hi; rw [updPhi_ne _ _ ej] at hj
          rw [hlv i ei] at hl; rw [hlv j ej]; exact hr2.inj i j b c c' hi hj hl hij
    · by_cases ei : i = id
      · subst ei; unfold BlkOK; rw [upd_self]; exact .inl ⟨updPhi_self _ _ _, rfl⟩
      · exact blk_keep (updPhi_ne _ _ ei) hφx hok (hlv i ei) (fun j => upd_b_c _ _ _ _ _) (fun b c hi => rfl) (hr2.blk i)
  refine ⟨_, this.retell l _ hl fun v hv => ?_⟩
  rw [upd_ne _ _ (hl id), hm] at hv
  cases hv with | d hv => cases hv; exact .nil id k (updPhi_self _ _ _)
def tell : List (Loc × V) → St
  | [] => bot
  | p :: r => upd (tell r) p.1 p.2
def namesB (L : List (Loc × V)) (i : Nat) : Bool := L.any fun p => p.1 == .b i
theorem tell_cases (L : List (Loc × V)) (x : Loc) : (∃ p ∈ L, p.1 = x ∧ tell L x = p.2) ∨ ((∀ p ∈ L, p.1 ≠ x) ∧ tell L x = bot x) := by
  induction L with
  | nil => exact .inr ⟨by simp, rfl⟩
  | cons p r ih =>
    by_cases e : x = p.1
    · exact .inl ⟨p, by simp, e.symm, by rw [tell, e, upd_self]⟩
    · have ht : tell (p :: r) x = tell r x := by rw [tell, upd_ne _ _ e]
      rcases ih with ⟨q, h1, h2, h3⟩ | ⟨h1, h2⟩
      · exact .inl ⟨q, by simp [h1], h2, by rw [ht]; exact h3⟩
      · exact .inr ⟨fun q hq => by
          rcases List.mem_cons.1 hq with h | h
          · subst h; exact Ne.symm e
          · exact h1 q h, by rw [ht]; exact h2⟩
def isB : Loc → Bool
  | .b _ => true
  | _ => false
end
end Go.Awp
set_option linter.unusedSimpArgs false
set_option linter.unusedVariables false
namespace Go.Awp
open Go.RowKit
theorem ble (a b : Nat) (h : Nat.ble a b = true) : a ≤ b := Nat.le_of_ble_eq_true h
/-- How a loop ends: the function hands back, or what follows goes on. -/
inductive LR (R V : Type) where
  | ret (r : R)
  | out (v : V)
theorem cpos {α : Type} {c : Bool} {a b r : α} (e : c = true) (h : (bif c then a else b) = r) : a = r := by rw [e] at h; exact h
theorem cneg {α : Type} {c : Bool} {a b r : α} (e : c = false) (h : (bif c then a else b) = r) : b = r := by rw [e] at h; exact h
theorem gpos {α : Type} {c : Bool} {a : Option α} {r : α} (h : (bif c then a else none) = some r) : c = true ∧ a = some r := by
  cases c with
  | true => exact ⟨rfl, h⟩
  | false => cases h
theorem bpos {α β : Type} {a : Option α} {f : α → Option β} {r : β} (h : a.bind f = some r) : ∃ x, a = some x ∧ f x = some r := Option.bind_eq_some_iff.1 h
def inR (i : Int) (n : Nat) : Bool := decide (0 ≤ i ∧ i < (n : Int))
def rd {α : Type} [Inhabited α] (l : List α) (i : Int) : α := l.getD i.toNat default
def bt (s : ByteArray) (i : Int) : Int := ((s[i.toNat]?).getD 0).toNat
def strEq (a b : ByteArray) : Bool := a.toList == b.toList
def appOK (bytes n m : Nat) : Bool := decide ((n + m) * bytes ≤ 140737488355328 ∧ n + m ≤ 9223372036854775807)
def cutOK (l h n : Int) : Bool := decide (0 ≤ l ∧ l ≤ h ∧ h ≤ n)
def shrI (k : IntKind) (x y : Int) : Int := x.fdiv (2 ^ min y.toNat k.bits)
theorem inR_spec {i : Int} {n : Nat} (h : inR i n = true) : 0 ≤ i ∧ i < (n : Int) := of_decide_eq_true h
theorem rd_at {α β : Type} [Inhabited α] {l : List α} {i : Int} (f : α → β) (h : inR i l.length = true) : (l.map f)[i.toNat]? = some (f (rd l i)) := by
  obtain ⟨h0, h1⟩ := inR_spec h
  have hlt : i.toNat < l.length := by omega
  rw [List.getElem?_map, List.getElem?_eq_getElem hlt, Option.map_some, rd, List.getD_eq_getElem?_getD, List.getElem?_eq_getElem hlt]; rfl
def eI (k : IntKind) (n : Int) : List D := [.s (.int k n)]
def eB (b : Bool) : List D := [.s (.bool b)]
def eS (s : ByteArray) : List D := [.s (.string s)]
section
variable {P : Program} {ops : Array Oper} {G : Call0} {o : Oper} {m : St}
theorem r_idx {s : ByteArray} {T : TypeId} {k : IntKind} {i : Int} (hT : P.underlying T = some .string) (h : inR i s.size = true) : ∀ w, (Instr.index T (.string s) (.int k i)).run P w = .ok (.int .u8 (bt s i)) w := fun w => by
  obtain ⟨h0, h1⟩ := inR_spec h
  have hlt : i.toNat < s.size := by omega
  simp only [Instr.index, asIntOf, Sem.run_bind, Sem.run_pure, Result.andThen_ok, run_underlying hT, if_pos h0]
  simp [bt, hlt, getElem?_pos s i.toNat hlt]
theorem w_len {α : Type} {d k : Nat} {T e : TypeId} {x : Operand} {c : Call} (l : List α) (f : α → List D) (hop : o.op = .call c) (hc : c = { callee := .builtin .len, args := #[x], argTypes := #[T] }) (hg : GOn ops o m) (hdst : o.dst = some d) (hd : d < G.nt)
    (hT : SliceT P T e k) (hx : evO m x = .d (.sl k (l.map f))) : Valid P ops G o m ⟨gloc ops o ++ lo x, [(.t d, .d (.s (.int .i64 l.length)))]⟩ := by
  have := v_len_sl hop hc hg hdst hd hT.und hx
  rwa [List.length_map] at this
theorem w_idx {α : Type} [Inhabited α] {d T e k : Nat} {x y : Operand} {i : Int} {ik : IntKind} (l : List α) (f : α → List D) (hop : o.op = .indexAddr T x y) (hg : GOn ops o m) (hdst : o.dst = some d) (hd : d < G.nt) (hT : SliceT P T e k)
    (hx : evO m x = .d (.sl k (l.map f))) (hy : evO m y = .d (.s (.int ik i))) (h : inR i l.length = true) : Valid P ops G o m ⟨gloc ops o ++ (lo x ++ lo y), [(.t d, .d (.dp (f (rd l i))))]⟩ :=
  v_index_sl hop hg hdst hd hT hx hy (inR_spec h).1 (rd_at f h)
theorem w_idx_own {α : Type} {d T e k id : Nat} {x y : Operand} {i : Int} {ik : IntKind} (l : List α) (hop : o.op = .indexAddr T x y) (hg : GOn ops o m) (hdst : o.dst = some d) (hd : d < G.nt) (hT : SliceT P T e k)
    (hx : evO m x = .own id k l.length) (hy : evO m y = .d (.s (.int ik i))) (h : inR i l.length = true) : Valid P ops G o m ⟨gloc ops o ++ (lo x ++ lo y), [(.t d, .elp id k i.toNat 0)]⟩ :=
  v_index_own hop hg hdst hd hT hx hy (inR_spec h).1 (inR_spec h).2
theorem w_st_elp {α : Type} [Inhabited α] {T id k off : Nat} {i : Int} {e : TypeId} {x y : Operand} {Y : V} (l : List α) (f : α → List D) (ys : List D) (x' : α) (hop : o.op = .store T x y) (hg : GOn ops o m) (hdst : o.dst = none) (hsz : ∀ w, (sizeOf T).run P w = .ok ys.length w)
    (hx : evO m x = .elp id k i.toNat off) (hb : m (.b id) = .row false e k (l.map f)) (hi : inR i l.length = true) (hy : evO m y = Y) (hcs : Y.cellsV = ys.map .d) (h1 : ∀ c ∈ Y.cellsV, c.one = true) (hk : off + ys.length ≤ k)
    (hx' : (f (rd l i)).take off ++ ys ++ (f (rd l i)).drop (off + ys.length) = f x') : Valid P ops G o m ⟨gloc ops o ++ (lo x ++ (lo y ++ [.b id])), [(.b id, .row false e k ((l.set i.toNat x').map f))]⟩ := by
  have := v_store_elp (G := G) hop hg hdst hsz hx hb (rd_at f hi) hy hcs h1 hk
  rwa [hx', ← List.map_set] at this
theorem w_cut {α : Type} {d T e k : Nat} {x : Operand} {xl xh : Option Operand} (l : List α) (f : α → List D) (a b : Int) (hop : o.op = .slice T x xl xh none) (hg : GOn ops o m) (hdst : o.dst = some d) (hd : d < G.nt) (hT : SliceT P T e k)
    (hx : evO m x = .d (.sl k (l.map f))) (hl : (xl = none ∧ a = 0) ∨ ∃ y ik, xl = some y ∧ evO m y = .d (.s (.int ik a))) (hh : (xh = none ∧ b = l.length) ∨ ∃ y ik, xh = some y ∧ evO m y = .d (.s (.int ik b))) (h : cutOK a b l.length = true) :
    Valid P ops G o m ⟨gloc ops o ++ (lo x ++ (lo? xl ++ lo? xh)), [(.t d, .d (.sl k (((l.take b.toNat).drop a.toNat).map f)))]⟩ := by
  obtain ⟨h0, h1, h2⟩ := of_decide_eq_true h
  have := v_cut_sl (l := a.toNat) (h := b.toNat) hop hg hdst hd hT hx
    (by rcases hl with ⟨e1, e2⟩ | ⟨y, ik, e1, e2⟩
        · subst e1; subst e2; rfl
        · subst e1; exact ⟨ik, by rw [e2, Int.toNat_of_nonneg h0]⟩)
    (by rcases hh with ⟨e1, e2⟩ | ⟨y, ik, e1, e2⟩
        · subst e1; subst e2; simp [BdIs]
        · subst e1; exact ⟨ik, by rw [e2, Int.toNat_of_nonneg (by omega)]⟩) (by omega) (by simp; omega)
  rwa [← List.map_take, ← List.map_drop] at this
theorem w_cut_str {d T : Nat} {x : Operand} {xl xh : Option Operand} (s : ByteArray) (a b : Int) (hop : o.op = .slice T x xl xh none) (hg : GOn ops o m) (hdst : o.dst = some d) (hd : d < G.nt) (hT : P.underlying T = some .string)
    (hx : evO m x = .d (.s (.string s))) (hl : (xl = none ∧ a = 0) ∨ ∃ y ik, xl = some y ∧ evO m y = .d (.s (.int ik a))) (hh : (xh = none ∧ b = s.size) ∨ ∃ y ik, xh = some y ∧ evO m y = .d (.s (.int ik b))) (h : cutOK a b s.size = true) :
    Valid P ops G o m ⟨gloc ops o ++ (lo x ++ (lo? xl ++ lo? xh)), [(.t d, .d (.s (.string (s.extract a.toNat b.toNat))))]⟩ := by
  obtain ⟨h0, h1, h2⟩ := of_decide_eq_true h
  exact v_cut_str (l := a.toNat) (h := b.toNat) hop hg hdst hd hT hx
    (by rcases hl with ⟨e1, e2⟩ | ⟨y, ik, e1, e2⟩
        · subst e1; subst e2; rfl
        · subst e1; exact ⟨ik, by rw [e2, Int.toNat_of_nonneg h0]⟩)
    (by rcases hh with ⟨e1, e2⟩ | ⟨y, ik, e1, e2⟩
        · subst e1; subst e2; simp [BdIs]
        · subst e1; exact ⟨ik, by rw [e2, Int.toNat_of_nonneg (by omega)]⟩) (by omega) (by omega)
/-- What an element's cells are, whatever the element. -/
structure EncT {α : Type} (f : α → List D) (k : Nat) : Prop where
  len : ∀ x, (f x).length = k
  one : ∀ x, ∀ d ∈ f x, d.one = true
theorem EncT.lens {α : Type} {f : α → List D} {k : Nat} (h : EncT f k) (l : List α) : ∀ e ∈ l.map f, e.length = k := fun e he => by
  obtain ⟨x, _, rfl⟩ := List.mem_map.1 he; exact h.len x
theorem EncT.ones {α : Type} {f : α → List D} {k : Nat} (h : EncT f k) (l : List α) : ∀ e ∈ l.map f, ∀ d ∈ e, d.one = true := fun e he => by
  obtain ⟨x, _, rfl⟩ := List.mem_map.1 he; exact h.one x
theorem encI (k : IntKind) : EncT (eI k) 1 := ⟨fun _ => rfl, fun x d hd => by simp [eI] at hd; subst hd; rfl⟩
/-- What is appended, typed. -/
inductive SrcL {α : Type} (m : St) (k : Nat) (f : α → List D) (l : List α) : V → List Loc → Prop
  | d : SrcL m k f l (.d (.sl k (l.map f))) []
  | own (id : Nat) (fz : Bool) (e : TypeId) (h : m (.b id) = .row fz e k (l.map f)) : SrcL m k f l (.own id k l.length) [.b id]
theorem w_app {α : Type} {d T e k bytes id : Nat} {x y : Operand} {Y : V} {ls : List Loc} {c : Call} (id' : Nat) (l l2 : List α) (f : α → List D) (hop : o.op = .call c) (hc : c = { callee := .builtin .append, args := #[x, y], argTypes := #[T, T] }) (hg : GOn ops o m) (hdst : o.dst = some d) (hd : d < G.nt)
    (hT : SliceT P T e k) (hE : ElemT P e k bytes) (hf : EncT f k) (hx : evO m x = .own id k l.length) (hb : m (.b id) = .row false e k (l.map f)) (hy : evO m y = Y) (hs : SrcL m k f l2 Y ls) (hid : m (.b id') = .nob) (hok : appOK bytes l.length l2.length = true) :
    Valid P ops G o m ⟨gloc ops o ++ (lo x ++ (lo y ++ (.b id :: .b id' :: ls))), [(.b id, .spent), (.b id', .row false e k ((l ++ l2).map f)), (.t d, .own id' k (l ++ l2).length)]⟩ := by
  obtain ⟨h1, h2⟩ := of_decide_eq_true hok
  have hs' : Src m k (l2.map f) Y ls := by
    cases hs with
    | d => exact .d
    | own id fz e h => exact .own id _ fz e h (by simp)
  have := v_append (id' := id') hop hc hg hdst hd hT.und hE (by simpa using hx) hb hy hs' hid (hf.lens l) (hf.lens l2) (hf.ones l2) (by simpa using h1) (by simpa [maxCap] using h2)
  simpa [List.map_append] using this
theorem w_call {d : Nat} {c : Call} {fo : Operand} {xs : Array Operand} {g : FuncId} {caps ds l : List D} {X : V} (hs : Spec P G.A g (ds ++ caps) (.ds l)) (hop : o.op = .call c) (hc : c.callee = .value fo) (hxs : c.args = xs) (hen : ∀ args w, (callFunc g args).run P w = .ok (.enter g args) w)
    (hg : GOn ops o m) (hdst : o.dst = some d) (hd : d < G.nt) (hf : FnIs m fo g caps) (hx : xs.toList.map (evO m) = ds.map .d) (hX : retV l = X) :
    Valid P ops G o m ⟨gloc ops o ++ (lo fo ++ xs.toList.flatMap lo), [(.t d, X)]⟩ := by
  subst hX; exact v_call hop hc hxs hen hg hdst hd hf hx hs
theorem bq_hit {id : Nat} {Q : Exit → St → Prop} (h : Q .normal m) : blockQ id Q (.exit id) m := by simp [blockQ, h]
theorem bq_pass {id i : Nat} {Q : Exit → St → Prop} (hne : i ≠ id) (h : Q (.exit i) m) : blockQ id Q (.exit i) m := by simp [blockQ, hne, h]
theorem ret1 {fn : Func} {rv : ResultVar} {x : D} (hf : fn.results = #[rv]) (h : RC P m rv x) : RetM P G fn m (.ds [x]) :=
  ret_ds (by rw [hf]; rfl) fun i rv' x' h1 h2 => by
    rw [hf] at h1
    match i with
    | 0 => simp at h1 h2; subst h1; subst h2; exact h
    | i + 1 => simp at h2
theorem ret2 {fn : Func} {r1 r2 : ResultVar} {x1 x2 : D} (hf : fn.results = #[r1, r2]) (h1 : RC P m r1 x1) (h2 : RC P m r2 x2) : RetM P G fn m (.ds [x1, x2]) :=
  ret_ds (by rw [hf]; rfl) fun i rv' x' g1 g2 => by
    rw [hf] at g1
    match i with
    | 0 => simp at g1 g2; subst g1; subst g2; exact h1
    | 1 => simp at g1 g2; subst g1; subst g2; exact h2
    | i + 2 => simp at g2
theorem ret3 {fn : Func} {r1 r2 r3 : ResultVar} {x1 x2 x3 : D} (hf : fn.results = #[r1, r2, r3]) (h1 : RC P m r1 x1) (h2 : RC P m r2 x2) (h3 : RC P m r3 x3) : RetM P G fn m (.ds [x1, x2, x3]) :=
  ret_ds (by rw [hf]; rfl) fun i rv' x' g1 g2 => by
    rw [hf] at g1
    match i with
    | 0 => simp at g1 g2; subst g1; subst g2; exact h1
    | 1 => simp at g1 g2; subst g1; subst g2; exact h2
    | 2 => simp at g1 g2; subst g1; subst g2; exact h3
    | i + 3 => simp at g2
end
end Go.Awp
set_option linter.unusedSimpArgs false
set_option linter.unusedVariables false
namespace Go.Awp
open Go.RowKit
mutual
def idsV : V → List Nat
  | .agg cs => idsL cs
  | .own i _ _ => [i]
  | .ptr i _ => [i]
  | .elp i _ _ _ => [i]
  | .tup cs => idsL cs
  | .fn _ cs => idsL cs
  | _ => []
def idsL : List V → List Nat
  | [] => []
  | v :: r => idsV v ++ idsL r
end
mutual
def renV (σ : Nat → Nat) : V → V
  | .agg cs => .agg (renL σ cs)
  | .own i k n => .own (σ i) k n
  | .ptr i o => .ptr (σ i) o
  | .elp i k x o => .elp (σ i) k x o
  | .tup cs => .tup (renL σ cs)
  | .fn g cs => .fn g (renL σ cs)
  | v => v
def renL (σ : Nat → Nat) : List V → List V
  | [] => []
  | v :: r => renV σ v :: renL σ r
end
def plainV : V → Bool
  | .nob | .box _ _ | .row _ _ _ _ | .spent | .iter _ _ => false
  | _ => true
theorem renL_length (σ : Nat → Nat) : ∀ cs : List V, (renL σ cs).length = cs.length
  | [] => by simp [renL]
  | v :: r => by simp [renL, renL_length σ r]
theorem renL_get (σ : Nat → Nat) : ∀ (cs : List V) (i : Nat), (renL σ cs)[i]? = (cs[i]?).map (renV σ)
  | [], i => by simp [renL]
  | v :: r, 0 => by simp [renL]
  | v :: r, i + 1 => by simp [renL, renL_get σ r i]
theorem idsL_mem : ∀ (cs : List V) (i : Nat) (c : V), cs[i]? = some c → ∀ x ∈ idsV c, x ∈ idsL cs
  | [], i, c, h => by simp at h
  | v :: r, 0, c, h => by
    simp only [List.getElem?_cons_zero, Option.some.injEq] at h
    subst h
    intro x hx
    simp [idsL, hx]
  | v :: r, i + 1, c, h => by
    intro x hx
    have := idsL_mem r i c (by simpa using h) x hx
    simp [idsL, this]
theorem rep_ren {φ φ' : Phi} {ok ok' : Nat → Prop} {w : World} {σ : Nat → Nat} {keep : Nat → Prop} (hφ : ∀ i, keep i → φ' i = φ (σ i)) (hok : ∀ b, ok b → ok' b) : ∀ {v : Value} {y : V}, RepV φ ok w v y → ∀ x : V, y = renV σ x → (∀ i ∈ idsV x, keep i) → RepV φ' ok' w v x := by
  intro v y hr
  induction hr with
  | d hd => intro x hx hn; cases x <;> simp only [renV, reduceCtorEq, V.d.injEq] at hx; subst hx; exact .d (hd.mono fun b hb => ⟨hok b hb, rfl⟩)
  | top v => intro x hx hn; cases x <;> simp only [renV, reduceCtorEq] at hx; exact .top v
  | agg vs cs hl _ ih =>
    intro x hx hn
    cases x <;> simp only [renV, reduceCtorEq, V.agg.injEq] at hx
    rename_i xs
    subst hx
    refine .agg vs xs (by rw [hl, renL_length]) fun i v c hv hc => ih i v (renV σ c) hv (by rw [renL_get, hc]; rfl) c rfl fun j hj => hn j ?_
    rw [idsV]; exact idsL_mem xs i c hc j hj
  | nil id k hi =>
    intro x hx hn
    cases x <;> simp only [renV, reduceCtorEq, V.own.injEq] at hx
    obtain ⟨rfl, rfl, rfl⟩ := hx
    exact .nil _ _ (by rw [hφ _ (hn _ (by simp [idsV]))]; exact hi)
  | own id k n b cap hi hle =>
    intro x hx hn
    cases x <;> simp only [renV, reduceCtorEq, V.own.injEq] at hx
    obtain ⟨rfl, rfl, rfl⟩ := hx
    exact .own _ _ _ b cap (by rw [hφ _ (hn _ (by simp [idsV]))]; exact hi) hle
  | ptr id off b cap hi =>
    intro x hx hn
    cases x <;> simp only [renV, reduceCtorEq, V.ptr.injEq] at hx
    obtain ⟨rfl, rfl⟩ := hx
    exact .ptr _ _ b cap (by rw [hφ _ (hn _ (by simp [idsV]))]; exact hi)
  | elp id k i off b cap hi =>
    intro x hx hn
    cases x <;> simp only [renV, reduceCtorEq, V.elp.injEq] at hx
    obtain ⟨rfl, rfl, rfl, rfl⟩ := hx
    exact .elp _ _ _ _ b cap (by rw [hφ _ (hn _ (by simp [idsV]))]; exact hi)
  | tup vs cs hl _ ih =>
    intro x hx hn
    cases x <;> simp only [renV, reduceCtorEq, V.tup.injEq] at hx
    rename_i xs
    subst hx
    refine .tup vs xs (by rw [hl, renL_length]) fun i v c hv hc => ih i v (renV σ c) hv (by rw [renL_get, hc]; rfl) c rfl fun j hj => hn j ?_
    rw [idsV]; exact idsL_mem xs i c hc j hj
  | fn g vs cs hl _ ih =>
    intro x hx hn
    cases x <;> simp only [renV, reduceCtorEq, V.fn.injEq] at hx
    rename_i g' xs
    obtain ⟨rfl, hx⟩ := hx
    subst hx
    refine .fn g vs xs (by rw [hl, renL_length]) fun i v c hv hc => ih i v (renV σ c) hv (by rw [renL_get, hc]; rfl) c rfl fun j hj => hn j ?_
    rw [idsV]; exact idsL_mem xs i c hc j hj
def renLoc (σ : Nat → Nat) : Loc → Loc
  | .t t => .t t
  | .c i j => .c (σ i) j
  | .b i => .b (σ i)
/-- What a list tells holds of m under other numbers. -/
def TellOK (m : St) (σ : Nat → Nat) : List (Loc × V) → Prop
  | [] => True
  | p :: r => m (renLoc σ p.1) = renV σ p.2 ∧ TellOK m σ r
theorem tellOK_mem {m : St} {σ : Nat → Nat} : ∀ {L : List (Loc × V)}, TellOK m σ L → ∀ p ∈ L, m (renLoc σ p.1) = renV σ p.2
  | [], _, p, hp => by simp at hp
  | q :: r, h, p, hp => by
    rcases List.mem_cons.1 hp with e | e
    · subst e; exact h.1
    · exact tellOK_mem h.2 p e
/-- Each told value names told blocks alone; the numbers are apart. -/
def tellB (σ : Nat → Nat) (L : List (Loc × V)) : Bool :=
  (L.all fun p => isB p.1 || (idsV p.2).all fun i => namesB L i) && (L.all fun p => L.all fun q => match p.1, q.1 with
    | .b i, .b j => Nat.beq i j || !Nat.beq (σ i) (σ j)
    | _, _ => true) && L.all fun p => match p.1, p.2 with
    | .b _, .box _ _ | .b _, .row _ _ _ _ | .b _, .spent | .b _, .iter _ _ => true
    | .b _, _ => false
    | _, _ => true
section
variable {P : Program} {G : Call0} {m : St}
theorem wk_ren (L : List (Loc × V)) (σ : Nat → Nat) (hB : tellB σ L = true) (h1 : TellOK m σ L) : Wk G m (tell L) := by
  unfold tellB at hB
  rw [Bool.and_eq_true, Bool.and_eq_true] at hB
  obtain ⟨⟨hB1, hB2⟩, hB3⟩ := hB
  have htell := tellOK_mem h1
  have hnames : ∀ i, namesB L i = true → ∃ p ∈ L, p.1 = .b i := fun i hi => by
    obtain ⟨p, hp, hq⟩ := List.any_eq_true.1 hi
    exact ⟨p, hp, by simpa using hq⟩
  have hinj : ∀ i j, namesB L i = true → namesB L j = true → σ i = σ j → i = j := fun i j hi hj hs => by
    obtain ⟨p, hp, hpe⟩ := hnames i hi
    obtain ⟨q, hq, hqe⟩ := hnames j hj
    have := List.all_eq_true.1 (List.all_eq_true.1 hB2 p hp) q hq
    rw [hpe, hqe] at this
    simp only [Bool.or_eq_true, Nat.beq_eq, Bool.not_eq_true'] at this
    rcases this with h | h
    · exact Nat.eq_of_beq_eq_true (by simpa using h)
    · rw [hs] at h; simp at h
  have hids : ∀ p ∈ L, isB p.1 = false → ∀ i ∈ idsV p.2, namesB L i = true := fun p hp hb i hi => by
    have := List.all_eq_true.1 hB1 p hp
    rw [hb, Bool.false_or] at this
    exact List.all_eq_true.1 this i hi
  have hblk : ∀ i, namesB L i = true → ∃ x, tell L (.b i) = x ∧ m (.b (σ i)) = x ∧ (x.live = x.live) ∧ plainV x = false := fun i hi => by
    rcases tell_cases L (.b i) with ⟨p, hp, he, ht⟩ | ⟨hn, ht⟩
    · have h2 := htell p hp
      have h3 := List.all_eq_true.1 hB3 p hp
      rw [he] at h2 h3
      refine ⟨p.2, ht, ?_, rfl, ?_⟩
      · rw [renLoc] at h2
        rw [h2]
        cases hv : p.2 <;> rw [hv] at h3 <;> simp at h3 <;> rfl
      · cases hv : p.2 <;> rw [hv] at h3 <;> simp at h3 <;> rfl
    · obtain ⟨p, hp, hpe⟩ := hnames i hi
      exact absurd hpe (hn p hp)
  have hnob : ∀ i, ¬ namesB L i = true → tell L (.b i) = .nob := fun i hi => by
    rcases tell_cases L (.b i) with ⟨p, hp, he, ht⟩ | ⟨_, ht⟩
    · exfalso
      exact hi (List.any_eq_true.2 ⟨p, hp, by rw [he]; simp⟩)
    · rw [ht]; rfl
  intro a w ⟨φ, h⟩
  have hφ' : ∀ i x, (if namesB L i = true then φ (σ i) else none) = some x → namesB L i = true ∧ φ (σ i) = some x := fun i x hi => by
    by_cases hk : namesB L i = true
    · rw [if_pos hk] at hi; exact ⟨hk, hi⟩
    · rw [if_neg hk] at hi; cases hi
  have hok : ∀ b, okOf G φ m w b → okOf G (fun i => if namesB L i = true then φ (σ i) else none) (tell L) w b := fun b ⟨g1, g2, g3⟩ => ⟨g1, g2, fun i c hi => by
    obtain ⟨hk, hi⟩ := hφ' i _ hi
    obtain ⟨x, e1, e2, _⟩ := hblk i hk
    rw [e1, ← e2]; exact g3 _ c hi⟩
  have hv : ∀ {v : Value} (l : Loc), isB l = false → RepV φ (okOf G φ m w) w v (m (renLoc σ l)) → RepV (fun i => if namesB L i = true then φ (σ i) else none) (okOf G (fun i => if namesB L i = true then φ (σ i) else none) (tell L) w) w v (tell L l) := fun {v} l hb hr => by
    rcases tell_cases L l with ⟨p, hp, he, ht⟩ | ⟨_, ht⟩
    · rw [ht]
      refine rep_ren (σ := σ) (keep := fun i => namesB L i = true) (fun i hi => if_pos hi) hok hr p.2 (by rw [← he]; exact htell p hp) (hids p hp (by rw [he]; exact hb))
    · rw [ht]
      cases l with
      | b i => cases hb
      | _ => exact .top v
  refine ⟨fun i => if namesB L i = true then φ (σ i) else none, ⟨h.below, h.nodef, h.size, fun t => hv (.t t) rfl (h.slots t), fun i b c hi => h.lt _ b c (hφ' i _ hi).2, fun i j b c c' hi hj hl hij => ?_, fun i => ?_⟩⟩
  · obtain ⟨ki, hi⟩ := hφ' i _ hi
    obtain ⟨kj, hj⟩ := hφ' j _ hj
    obtain ⟨x, e1, e2, _⟩ := hblk i ki
    obtain ⟨y, e3, e4, _⟩ := hblk j kj
    rw [e1, ← e2] at hl
    rw [e3, ← e4]
    exact h.inj _ _ b c c' hi hj hl fun e => hij (hinj i j ki kj e)
  · by_cases hk : namesB L i = true
    · have hi := h.blk (σ i)
      obtain ⟨x, e1, e2, _⟩ := hblk i hk
      unfold BlkOK at hi ⊢
      rw [e1, ← e2]
      cases hm : m (.b (σ i)) <;> rw [hm] at hi <;> first | exact hi.elim | skip
      · simp only [if_pos hk]; exact hi
      · obtain ⟨b, c, arr, e', g1, g2, g3, g4⟩ := hi
        exact ⟨b, c, arr, e', by simp only [if_pos hk]; exact g1, g2, g3, fun j v hj => hv (.c i j) rfl (g4 j v hj)⟩
      · rcases hi with ⟨g1, g2⟩ | ⟨b, cap, arr, g1, g2, g3, g4, g5, g6⟩
        · exact .inl ⟨by simp only [if_pos hk]; exact g1, g2⟩
        · refine .inr ⟨b, cap, arr, by simp only [if_pos hk]; exact g1, g2, g3, g4, g5, fun x ds hx => ⟨(g6 x ds hx).1, fun j d hj => ?_⟩⟩
          obtain ⟨v, hv1, hv2⟩ := (g6 x ds hx).2 j d hj
          exact ⟨v, hv1, hv2.mono fun b hb => ⟨hok b hb, rfl⟩⟩
      · trivial
      · obtain ⟨b, c, g1, g2⟩ := hi
        exact ⟨b, c, by simp only [if_pos hk]; exact g1, g2⟩
    · unfold BlkOK
      rw [hnob i hk]
      simp only [if_neg hk]
end
end Go.Awp
set_option linter.unusedSimpArgs false
set_option linter.unusedVariables false
namespace Go.Awp
open Go.RowKit
abbrev nV (k : IntKind) (n : Int) : V := .d (.s (.int k n))
abbrev iV (n : Int) : V := .d (.s (.int .i64 n))
abbrev bV (b : Bool) : V := .d (.s (.bool b))
abbrev sV (s : ByteArray) : V := .d (.s (.string s))
abbrev uV : V := .d (.s (.tuple #[]))
/-- There if the guard let it. -/
abbrev mg (c : Bool) (X : V) : V := bif c then X else uV
def ltI (a b : Int) : Bool := decide (a < b)
def leI (a b : Int) : Bool := decide (a ≤ b)
def eqI (a b : Int) : Bool := a == b
def bnd {α β : Type} (x : α) (f : α → β) : β := f x
theorem bndp {α β : Type} {x : α} {f : α → β} {r : β} (h : bnd x f = r) : ∃ y, x = y ∧ f y = r := ⟨x, rfl, h⟩
section
variable {P : Program} {ops : Array Oper} {G : Call0} {o : Oper} {m : St} {T : TypeId} {x y : Operand} {k : IntKind} {a b : Int}
abbrev BR (P : Program) (op : BinOp) (T : TypeId) (x y : Operand) (u v r : Value) : Prop := ∀ w, (do eqGuard op T x y u v; binOp op T u v : Sem Value).run P w = .ok r w
theorem b_add {r : Int} (hr : k.wrap (a + b) = r) : BR P .add T x y (.int k a) (.int k b) (.int k r) := fun w => by subst hr; simp [eqGuard, binOp, Op.intArith]
theorem b_sub {r : Int} (hr : k.wrap (a - b) = r) : BR P .sub T x y (.int k a) (.int k b) (.int k r) := fun w => by subst hr; simp [eqGuard, binOp, Op.intArith]
theorem b_mul {r : Int} (hr : k.wrap (a * b) = r) : BR P .mul T x y (.int k a) (.int k b) (.int k r) := fun w => by subst hr; simp [eqGuard, binOp, Op.intArith]
theorem b_shr {k' : IntKind} {r : Int} (hb : leI 0 b = true) (hr : shrI k a b = r) : BR P .shr T x y (.int k a) (.int k' b) (.int k r) := fun w => by
  subst hr; have : ¬ b < 0 := by have := of_decide_eq_true hb; omega
  simp [eqGuard, binOp, Op.shift, this, shrI]
theorem b_eql {r : Bool} (hr : eqI a b = r) : BR P .eql T x y (.int k a) (.int k b) (.bool r) := fun w => by subst hr; simp [eqGuard, binOp, Op.intCmp, eqI]
theorem b_neq {r : Bool} (hr : (!eqI a b) = r) : BR P .neq T x y (.int k a) (.int k b) (.bool r) := fun w => by subst hr; simp [eqGuard, binOp, Op.intCmp, eqI]; rfl
theorem b_lss {r : Bool} (hr : ltI a b = r) : BR P .lss T x y (.int k a) (.int k b) (.bool r) := fun w => by subst hr; simp [eqGuard, binOp, Op.intCmp, ltI]
theorem b_leq {r : Bool} (hr : leI a b = r) : BR P .leq T x y (.int k a) (.int k b) (.bool r) := fun w => by subst hr; simp [eqGuard, binOp, Op.intCmp, leI]
theorem b_gtr {r : Bool} (hr : ltI b a = r) : BR P .gtr T x y (.int k a) (.int k b) (.bool r) := fun w => by subst hr; simp [eqGuard, binOp, Op.intCmp, ltI]
theorem b_geq {r : Bool} (hr : leI b a = r) : BR P .geq T x y (.int k a) (.int k b) (.bool r) := fun w => by subst hr; simp [eqGuard, binOp, Op.intCmp, leI]
theorem b_eqS {s t : ByteArray} {r : Bool} (hr : strEq s t = r) : BR P .eql T x y (.string s) (.string t) (.bool r) := fun w => by subst hr; simp [eqGuard, binOp, Op.stringOp, strEq]
theorem b_neS {s t : ByteArray} {r : Bool} (hr : (!strEq s t) = r) : BR P .neq T x y (.string s) (.string t) (.bool r) := fun w => by subst hr; simp [eqGuard, binOp, Op.stringOp, strEq]
theorem run_eqB {s t : Bool} (hT : P.underlying T = some .bool) (d : Nat) (w : World) : (Op.equalIn (d + 1) T (.bool s) (.bool t)).run P w = .ok (s == t) w := by
  have h1 := run_underlying hT w
  unfold Op.equalIn
  rw [Sem.run_bind, h1]
  rfl
theorem b_eqB {s t r : Bool} (hT : P.underlying T = some .bool) (hr : (s == t) = r) : BR P .eql T x y (.bool s) (.bool t) (.bool r) := fun w => by
  subst hr
  have h1 := run_eqB (s := s) (t := t) hT 9999 w
  show ((do pure (.bool (← Op.equalIn (9999 + 1) T (.bool s) (.bool t))) : Sem Value).run P w) = _
  rw [Sem.run_bind, h1]; rfl
theorem b_neB {s t r : Bool} (hT : P.underlying T = some .bool) (hr : (!(s == t)) = r) : BR P .neq T x y (.bool s) (.bool t) (.bool r) := fun w => by
  subst hr
  have h1 := run_eqB (s := s) (t := t) hT 9999 w
  show ((do pure (.bool (!(← Op.equalIn (9999 + 1) T (.bool s) (.bool t)))) : Sem Value).run P w) = _
  rw [Sem.run_bind, h1]; rfl
theorem u_not {s r : Bool} (hr : (!s) = r) : ∀ w, (Op.unary .not (.bool s)).run P w = .ok (.bool r) w := fun w => by subst hr; simp [Op.unary]
theorem c_int {k' : IntKind} {S T : TypeId} {d : TypeDesc} {r : Int} (hS : P.underlying S = some d) (hT : P.underlying T = some (.int k')) (hr : k'.wrap a = r) : ∀ w, (convert S T (.int k a)).run P w = .ok (.int k' r) w := fun w => by
  subst hr
  have h1 := run_underlying hS w
  have h2 := run_underlying hT w
  simp [convert, h1, h2, Result.andThen, Conv.intToInt]
theorem i_str {s : ByteArray} {r : Int} (hT : P.underlying T = some .string) (h : inR a s.size = true) (hr : bt s a = r) : ∀ w, (Instr.index T (.string s) (.int k a)).run P w = .ok (.int .u8 r) w := fun w => by subst hr; exact r_idx hT h w
theorem Valid.more {rd rd' : List Loc} {wr : List (Loc × V)} (h : Valid P ops G o m ⟨rd, wr⟩) (hs : ∀ l ∈ rd, l ∈ rd') : Valid P ops G o m ⟨rd', wr⟩ := fun m' hm => h m' fun l hl => hm l (hs l hl)
theorem v_pass {j t d : Nat} {b : Bool} {X : V} (hgd : o.guard = some (j, b)) (hj : (ops[j]?).bind (·.dst) = some t) (ht : m (.t t) = X) (hX : X = bV (!b) ∨ X = uV) (hdst : o.dst = some d) (hd : d < G.nt) :
    Valid P ops G o m ⟨[.t t], [(.t d, uV)]⟩ := by
  intro m' hm a w hr K Q hK
  obtain ⟨φ, hr⟩ := hr
  have hmt : m' (.t t) = X := by rw [hm _ (by simp)]; exact ht
  have hy : Region.wanted o (yielded ops a.tmps) = false := by
    unfold Region.wanted
    rw [hgd]
    rcases hX with e | e
    · have h1 := hr.bool (m := m') (t := t) (b := !b) (by rw [hmt, e])
      cases b <;> simp_all [yielded]
    · have h1 := hr.slots t
      rw [hmt, e] at h1
      generalize hv : a.tmps.getD t undef = v at h1
      cases h1 with
      | d hd =>
        cases hd
        rw [Array.getD_eq_getD_getElem?] at hv
        cases hq : a.tmps[t]? with
        | none => simp [yielded, hj, hq]
        | some u => rw [hq] at hv; simp at hv; subst hv; simp [yielded, hj, hq]
  unfold opGo
  rw [if_neg (by rw [hy]; simp)]
  refine hK _ _ ⟨φ, ?_⟩
  rw [hdst]
  exact hr.put d hd (.d (.s _))
theorem v_cT {j t d : Nat} {c : Bool} {X : V} {rd : List Loc} (hgd : o.guard = some (j, true)) (hj : (ops[j]?).bind (·.dst) = some t) (hdst : o.dst = some d) (hd : d < G.nt) (ht : m (.t t) = bV c) (h1 : c = true → Valid P ops G o m ⟨rd, [(.t d, X)]⟩) :
    Valid P ops G o m ⟨.t t :: rd, [(.t d, mg c X)]⟩ := by
  cases c with
  | true => exact (h1 rfl).more fun l hl => by simp [hl]
  | false => exact (v_pass hgd hj ht (.inl rfl) hdst hd).more fun l hl => by simp at hl; simp [hl]
theorem v_cF {j t d : Nat} {c : Bool} {X : V} {rd : List Loc} (hgd : o.guard = some (j, false)) (hj : (ops[j]?).bind (·.dst) = some t) (hdst : o.dst = some d) (hd : d < G.nt) (ht : m (.t t) = bV c) (h1 : c = false → Valid P ops G o m ⟨rd, [(.t d, X)]⟩) :
    Valid P ops G o m ⟨.t t :: rd, [(.t d, mg (!c) X)]⟩ := by
  cases c with
  | false => exact (h1 rfl).more fun l hl => by simp [hl]
  | true => exact (v_pass hgd hj ht (.inl rfl) hdst hd).more fun l hl => by simp at hl; simp [hl]
theorem v_mT {j t d : Nat} {g c : Bool} {X : V} {rd : List Loc} (hgd : o.guard = some (j, true)) (hj : (ops[j]?).bind (·.dst) = some t) (hdst : o.dst = some d) (hd : d < G.nt) (ht : m (.t t) = mg g (bV c)) (h1 : g = true → c = true → Valid P ops G o m ⟨rd, [(.t d, X)]⟩) :
    Valid P ops G o m ⟨.t t :: rd, [(.t d, mg (g && c) X)]⟩ := by
  cases g with
  | true =>
    cases c with
    | true => exact (h1 rfl rfl).more fun l hl => by simp [hl]
    | false => exact (v_pass hgd hj ht (.inl rfl) hdst hd).more fun l hl => by simp at hl; simp [hl]
  | false => exact (v_pass hgd hj ht (.inr rfl) hdst hd).more fun l hl => by simp at hl; simp [hl]
theorem v_mF {j t d : Nat} {g c : Bool} {X : V} {rd : List Loc} (hgd : o.guard = some (j, false)) (hj : (ops[j]?).bind (·.dst) = some t) (hdst : o.dst = some d) (hd : d < G.nt) (ht : m (.t t) = mg g (bV c)) (h1 : g = true → c = false → Valid P ops G o m ⟨rd, [(.t d, X)]⟩) :
    Valid P ops G o m ⟨.t t :: rd, [(.t d, mg (g && !c) X)]⟩ := by
  cases g with
  | true =>
    cases c with
    | false => exact (h1 rfl rfl).more fun l hl => by simp [hl]
    | true => exact (v_pass hgd hj ht (.inl rfl) hdst hd).more fun l hl => by simp at hl; simp [hl]
  | false => exact (v_pass hgd hj ht (.inr rfl) hdst hd).more fun l hl => by simp at hl; simp [hl]
theorem gv {c : Bool} {X : V} (e : c = true) : mg c X = X := by rw [e]; rfl
theorem bm {g c b : Bool} (e : g = true) (e2 : c = b) : mg g (bV c) = bV b := by rw [e, e2]; rfl
theorem aT {a b : Bool} (h : a = true) (h2 : b = true) : (a && b) = true := by rw [h, h2]; rfl
theorem nF {a : Bool} (h : a = false) : (!a) = true := by rw [h]; rfl
theorem orT {a b : Bool} (h : (!a || b) = true) (e : a = true) : b = true := by rw [e] at h; exact h
theorem v_pickB {d : Nat} {c x y : Operand} {b vx vy r : Bool} (hop : o.op = .pick c x y) (hg : GOn ops o m) (hdst : o.dst = some d) (hd : d < G.nt) (hc : evO m c = bV b) (hx : b = true → evO m x = bV vx) (hy : b = false → evO m y = bV vy) (hr : (bif b then vx else vy) = r) :
    Valid P ops G o m ⟨gloc ops o ++ (lo c ++ (lo x ++ lo y)), [(.t d, bV r)]⟩ := by
  subst hr
  cases b with
  | true => exact (v_pick (b := true) hop hg hdst hd hc (hx rfl)).more fun l hl => by simp at hl ⊢; rcases hl with h | h | h <;> simp [h]
  | false => exact (v_pick (b := false) hop hg hdst hd hc (hy rfl)).more fun l hl => by simp at hl ⊢; rcases hl with h | h | h <;> simp [h]
theorem ht_rounds {X α : Type} {c : Code} {Q : Exit → St → Prop} (hd : X → St) (l : Nat → X → Option α) (res : α) (hz : ∀ x, l 0 x = none)
    (step : ∀ k x, l (k + 1) x = some res → ∀ K : St → Prop, (∀ x' m', l k x' = some res → Wk G m' (hd x') → K m') → HT P G c (thenQ K Q) (hd x)) (k : Nat) (x : X) (m : St) (h : l k x = some res) (hw : Wk G m (hd x)) : HT P G (.loop c) Q m := by
  refine ht_loop (X := { p : Nat × X // l p.1 p.2 = some res }) (fun p => hd p.1.2) (fun p => p.1.1) ⟨(k, x), h⟩ hw ?_
  rintro ⟨⟨k, x⟩, hx⟩
  cases k with
  | zero => rw [hz] at hx; cases hx
  | succ k => exact step k x hx _ fun x' m' h' hw' => ⟨⟨(k, x'), h'⟩, hw', Nat.lt_succ_self k⟩
def LR.go {R V : Type} (t : LR R V) (f : V → Option R) : Option R := match t with
  | .ret r => some r
  | .out v => f v
def LR.go' {R R' V : Type} (t : LR R V) (g : R → R') (f : V → Option R') : Option R' := match t with
  | .ret r => some (g r)
  | .out v => f v
end
end Go.Awp
set_option linter.unusedSimpArgs false
set_option linter.unusedVariables false
namespace Go.Awp
open Go.RowKit
theorem nb (t : Nat) : ∀ i, Loc.t t ≠ .b i := fun i h => nomatch h
section
variable {P : Program} {ops : Array Oper} {G : Call0} {o : Oper} {m : St}
theorem ht_bj {X α : Type} {c y : Code} {Q : Exit → St → Prop} {a : Option X} {f : X → Option α} {r : α} (h : a.bind f = some r) (hd : X → St) (hJ : ∀ v, f v = some r → HT P G y Q (hd v))
    (hx : ∀ (v : X) (K : St → Prop), a = some v → (∀ m', Wk G m' (hd v) → K m') → HT P G c (thenQ K Q) m) : HT P G (.seq c y) Q m := by
  obtain ⟨v, h1, h2⟩ := bpos h
  exact ht_seq (hx v _ h1 fun m' hw => fun a w hr => hJ v h2 a w (hw a w hr))
theorem ht_gj {X R R' : Type} {c y : Code} {Q : Exit → St → Prop} {a : Option (LR R X)} {g : R → R'} {f : X → Option R'} {r : R'} (h : (a.bind fun t => t.go' g f) = some r) (hd : X → St) (hJ : ∀ v, f v = some r → HT P G y Q (hd v))
    (hx : ∀ (v : LR R X) (K : St → Prop), a = some v → (∀ x m', v = .out x → Wk G m' (hd x) → K m') → (∀ r', v = .ret r' → g r' = r) → HT P G c (thenQ K Q) m) : HT P G (.seq c y) Q m := by
  obtain ⟨v, h1, h2⟩ := bpos h
  refine ht_seq (hx v _ h1 (fun x m' e hw => fun a w hr => ?_) fun r' e => ?_)
  · subst e; exact hJ x h2 a w (hw a w hr)
  · subst e; exact Option.some.inj h2
theorem go_id {R V : Type} {t : LR R V} {f : V → Option R} {r : R} (h : t.go f = some r) : t.go' id f = some r := by cases t <;> exact h
/-- A loop by rounds; what it ends in is named once. -/
theorem ht_rd {X α : Type} {c : Code} {Q : Exit → St → Prop} {l : Nat → X → Option α} {res : α} {k : Nat} {x : X} {m : St} (h : l k x = some res) (hz : ∀ x, l 0 x = none) (hd : X → St) (hw : Wk G m (hd x))
    (step : ∀ k x, l (k + 1) x = some res → ∀ K : St → Prop, (∀ x' m', l k x' = some res → Wk G m' (hd x') → K m') → HT P G c (thenQ K Q) (hd x)) : HT P G (.loop c) Q m :=
  ht_rounds hd l res hz step k x m h hw
theorem wkt {m m' m'' : St} (h : Wk G m m') (k : Wk G m' m'') : Wk G m m'' := h.trans k
theorem zero_of {e : TypeId} {z : Value} (h : (P.info? e).map (·.zero) = some (some z)) : ∀ w, (zeroValue e).run P w = .ok z w := fun w => by
  cases hi : P.info? e with
  | none => rw [hi] at h; simp at h
  | some i =>
    rw [hi] at h
    simp only [Option.map_some, Option.some.injEq] at h
    simp [zeroValue, typeInfo, hi, h, Result.andThen]
def onesB (xs : List (Nat × V)) : Bool := xs.all fun q => q.2.cellsV.all V.one
theorem w_bsl {α : Type} {d T e k n id : Nat} {parts : Array (Nat × Operand)} {z : Value} (xs : List (Nat × V)) (l : List α) (f : α → List D) (hop : o.op = .buildSlice T n parts) (hg : GOn ops o m) (hdst : o.dst = some d) (hd : d < G.nt) (hT : SliceT P T e k)
    (hz : ∀ w, (zeroValue e).run P w = .ok z w) (hf : EncT f k) (hk0 : 0 < k) (hx : parts.toList.map (fun p => (p.1, evO m p.2)) = xs) (h1 : onesB xs = true)
    (hn : l.length = n) (hsm : Nat.ble (n * k) (2 ^ 24) = true) (hfl : fillV (fun i => some (i * k, k)) (List.replicate (n * k) .top) xs = some ((l.map f).flatten.map .d)) (hid : m (.b id) = .nob) :
    Valid P ops G o m ⟨gloc ops o ++ (parts.toList.flatMap (fun p => lo p.2) ++ [.b id]), [(.b id, .row false e k (l.map f)), (.t d, .own id k l.length)]⟩ := by
  have hs := Nat.le_of_ble_eq_true hsm
  have := v_buildSlice (es := l.map f) (id := id) hop hg hdst hd hT hz hs hx (fun q hq c hc => List.all_eq_true.1 (List.all_eq_true.1 h1 q hq) c hc) (hf.lens l) (by simpa using hn) hfl hid (by
    have : n * 1 ≤ n * k := Nat.mul_le_mul_left n hk0
    simp only [maxCap]
    omega)
  rw [hn]
  exact this
theorem a1 {a b : Bool} (h : (a && b) = true) : a = true := by cases a <;> simp_all
theorem a2 {a b : Bool} (h : (a && b) = true) : b = true := by cases a <;> simp_all
theorem go_id' {R V : Type} {a : Option (LR R V)} {f : V → Option R} {r : R} (h : (a.bind fun t => t.go f) = some r) : (a.bind fun t => t.go' id f) = some r := by
  obtain ⟨v, h1, h2⟩ := bpos h
  rw [h1]; exact go_id h2
theorem SliceT.mk' {T e k : Nat} (h : P.underlying T = some (.slice e)) (h2 : (P.info? e).map (·.size) = some k) : SliceT P T e k := ⟨h, fun w => by
  cases hi : P.info? e with
  | none => rw [hi] at h2; simp at h2
  | some i =>
    rw [hi] at h2
    simp only [Option.map_some, Option.some.injEq] at h2
    simp [sizeOf, typeInfo, hi, h2, Result.andThen]⟩
theorem run_size {T k : Nat} (h2 : (P.info? T).map (·.size) = some k) (w : World) : (sizeOf T).run P w = .ok k w := by
  cases hi : P.info? T with
  | none => rw [hi] at h2; simp at h2
  | some i =>
    rw [hi] at h2
    simp only [Option.map_some, Option.some.injEq] at h2
    simp [sizeOf, typeInfo, hi, h2, Result.andThen]
def oneKind : TypeDesc → Bool
  | .struct _ | .array _ _ => false
  | _ => true
theorem OneT.mk' {T : Nat} {d : TypeDesc} (h : P.underlying T = some d) (hd : oneKind d = true) (h2 : (P.info? T).map (·.size) = some 1) : OneT P T := ⟨fun w => by
  have := run_underlying h w
  cases d <;> first | (simp [oneKind] at hd; done) | simp [isAgg, this, Result.andThen], run_size h2⟩
theorem AggT.mk' {T k : Nat} {fs : Array Field} (h : P.underlying T = some (.struct fs)) (h2 : (P.info? T).map (·.size) = some k) : AggT P T k := ⟨fun w => by
  have := run_underlying h w
  simp [isAgg, this, Result.andThen], run_size h2⟩
theorem retM_wk {fn : Func} {m' : St} {r : Ret} (hw : Wk G m m') (h : RetM P G fn m' r) : RetM P G fn m r := fun φ a w hr => by
  obtain ⟨φ', hr'⟩ := hw a w ⟨φ, hr⟩
  exact h φ' a w hr'
theorem hz1 {α : Type} {f : α → List D} {z0 : α} {z : Value} (h : f z0 = [.s z]) (hz : z.cells = #[z]) : ∀ (j : Nat) (d : D), (f z0)[j]? = some d → ∃ v, z.cells[j]? = some v ∧ (d = .s v ∨ zeroFits v (.d d) = true) := fun j d hd => by
  rw [h] at hd
  match j with
  | 0 => simp only [List.getElem?_cons_zero, Option.some.injEq] at hd; subst hd; exact ⟨z, by rw [hz]; rfl, .inl rfl⟩
  | j + 1 => simp at hd
theorem tq {K : St → Prop} {Q : Exit → St → Prop} {i : Nat} (h : Q (.exit i) m) : thenQ K Q (.exit i) m := h
theorem pA (c x : Bool) : (bif c then x else false) = (c && x) := by cases c <;> rfl
theorem pO (c x : Bool) : (bif c then true else x) = (c || x) := by cases c <;> rfl
theorem lm {α β : Type} (f : α → β) (l : List α) : l.length = (l.map f).length := (List.length_map f).symm
end
end Go.Awp
set_option linter.unusedSimpArgs false
set_option linter.unusedVariables false
namespace Go.Awp
open Go.RowKit Go.ChangeShapes Go.WideShapes
def Amb.any : Amb := ⟨fun _ => True, fun _ _ _ _ => trivial⟩
theorem post_of_below {H : Type} {enc : TypeId × Value → H} {P : Program} {f : Func} {s : ChangeSpec} {apart fresh handsOn again : Bool} {W W' : World} {args : Array Value} {v : Value} {ds gs : List (DataW H)} {before pa pv : List MemPlace}
    (hW : DataW.Whole enc P f.params.toList s.vars apart W args.toList ds gs before)
    (hres : ∀ (b : Nat) (sp : Nat → Bool) (hd : Bool), DataW.TrodAll enc P W' b sp hd f.resultTypes.toList (v.resultList f.resultTypes.size) (s.fn H (ds ++ gs)).results [])
    (hargs : ∀ sp : Nat → Bool, (∀ p ∈ before, sp p.block = true) → DataW.TrodAll enc P W' 0 sp true f.params.toList args.toList (s.fn H (ds ++ gs)).args pa)
    (hvars : ∀ sp : Nat → Bool, (∀ p ∈ before, sp p.block = true) → DataW.TrodVars enc P W' sp s.vars (s.fn H (ds ++ gs)).vars pv)
    (hps : before = pa ++ pv) (hb : Below W.heap.size W W')
    (hok : ∀ (j : Nat) (t : TypeId) (r : Value), f.resultTypes[j]? = some t → (v.resultList f.resultTypes.size)[j]? = some r → Value.okWide P W' .any 0 t r) :
    s.post enc P f apart fresh handsOn again W args v W' := by
  have hold : ∀ p ∈ before, (fun b => decide (b < W.heap.size)) p.block = true := fun p hp => by simpa using hW.lt p hp
  have hlt := hW.lt
  refine ⟨ds, gs, before, [], pa, pv, hW, hres _ _ _, hargs _ hold, hvars _ hold, World.keptBut_mono (fun p hp => ⟨hp, ?_⟩) (hb.frame (· ∈ before)), fun _ => ?_⟩
  · rw [hps, List.mem_append] at hp
    exact Or.inr hp
  · obtain ⟨_, _, _, _, _, hz, hn⟩ := hW
    refine ⟨hok, _, _, ([] ++ pa) ++ pv, ⟨[] ++ pa, pv, trodAll_append (hargs _ (fun _ _ => rfl)) (hres _ _ _), hvars _ (fun _ _ => rfl), rfl, ?_, ?_⟩, ?_⟩
    · intro b off hp
      have hp' : MemPlace.cell b off ∈ before := by rw [hps]; simpa using hp
      rw [hb.frozen (p := ⟨b, off, none⟩) (hlt _ hp')]
      exact hz b off hp'
    · intro ha
      have := hn ha
      rw [hps] at this
      simpa using this
    · intro p hp _
      rw [hps]
      simpa using hp
end Go.Awp
set_option linter.unusedSimpArgs false
set_option linter.unusedVariables false
namespace Go.Awp
theorem ltI_nat (a b : Nat) : ltI (a : Int) (b : Int) = decide (a < b) := by simp [ltI]
theorem leI_nat (a b : Nat) : leI (a : Int) (b : Int) = decide (a ≤ b) := by simp [leI]
theorem inR_nat (i n : Nat) : inR (i : Int) n = decide (i < n) := by simp [inR]
theorem bt_nat (s : ByteArray) (i : Nat) (h : i < s.size) : bt s (i : Int) = ((s[i]).toNat : Int) := by
  simp [bt, h]
theorem strEq_iff (a b : ByteArray) : strEq a b = decide (a = b) := by
  unfold strEq
  rw [ByteArray.toList_eq, ByteArray.toList_eq]
  by_cases h : a = b
  · subst h; simp
  · have : ¬ a.data.toList = b.data.toList := fun e => h (ByteArray.ext (Array.toList_inj.1 e))
    rw [decide_eq_false h]
    exact beq_eq_false_iff_ne.2 this
theorem nil_append (s : ByteArray) : (⟨#[]⟩ : ByteArray) ++ s = s := by apply ByteArray.ext; simp [ByteArray.data_append]
def Ev {α : Type} (f : Nat → Option α) (r : α) : Prop := ∃ n, ∀ k, n ≤ k → f k = some r
theorem Ev.of {α : Type} {f : Nat → Option α} {r : α} (h : ∀ k, f k = some r) : Ev f r := ⟨0, fun k _ => h k⟩
theorem Ev.from {α : Type} {f : Nat → Option α} {r : α} (n : Nat) (h : ∀ k, f (k + n) = some r) : Ev f r := ⟨n, fun k hk => by rw [← Nat.sub_add_cancel hk]; exact h _⟩
theorem Ev.bind {α β : Type} {f : Nat → Option α} {g : Nat → α → Option β} {x : α} {r : β} (h : Ev f x) (h2 : Ev (fun k => g k x) r) : Ev (fun k => (f k).bind (g k)) r := by
  obtain ⟨n, h⟩ := h
  obtain ⟨m, h2⟩ := h2
  exact ⟨max n m, fun k hk => by simp only [h k (by omega), Option.bind_some]; exact h2 k (by omega)⟩
theorem Ev.succ {α : Type} {f g : Nat → Option α} {r : α} (h : ∀ k, f (k + 1) = g k) (hg : Ev g r) : Ev f r := by
  obtain ⟨n, hg⟩ := hg
  refine ⟨n + 1, fun k hk => ?_⟩
  obtain ⟨j, rfl⟩ : ∃ j, k = j + 1 := ⟨k - 1, by omega⟩
  rw [h]; exact hg j (by omega)
theorem Ev.congr {α : Type} {f g : Nat → Option α} {r : α} (h : ∀ k, f k = g k) (hg : Ev g r) : Ev f r := by
  obtain ⟨n, hg⟩ := hg
  exact ⟨n, fun k hk => by rw [h]; exact hg k hk⟩
theorem Ev.get {α : Type} {f : Nat → Option α} {r : α} (h : Ev f r) : ∃ k, f k = some r := by
  obtain ⟨n, h⟩ := h
  exact ⟨n, h n (Nat.le_refl _)⟩
end Go.Awp
set_option linter.unusedSimpArgs false
set_option linter.unusedVariables false
namespace Go.Awp
open Go.RowKit
def fit1 : Value → V → Bool
  | .int k n, .d (.s (.int k' m)) => decide (k = k' ∧ n = m)
  | .bool a, .d (.s (.bool b)) => a == b
  | .string a, .d (.s (.string b)) => Nat.beq a.size 0 && Nat.beq b.size 0
  | v, c => zeroFits v c
def fitB : List Value → List V → Bool
  | [], [] => true
  | v :: vs, c :: cs => fit1 v c && fitB vs cs
  | _, _ => false
theorem fit1_ok {v : Value} {c : V} (h : fit1 v c = true) : c = .d (.s v) ∨ zeroFits v c = true := by
  unfold fit1 at h
  split at h
  · have := of_decide_eq_true h; obtain ⟨rfl, rfl⟩ := this; exact .inl rfl
  · simp at h; subst h; exact .inl rfl
  · rename_i a b
    simp only [Bool.and_eq_true, Nat.beq_eq] at h
    have ea : a = ⟨#[]⟩ := by
      apply ByteArray.ext; apply Array.eq_empty_of_size_eq_zero; exact h.1
    have eb : b = ⟨#[]⟩ := by
      apply ByteArray.ext; apply Array.eq_empty_of_size_eq_zero; exact h.2
    subst ea; subst eb; exact .inl rfl
  · exact .inr h
theorem fitB_at : ∀ {vs : List Value} {cs : List V}, fitB vs cs = true → ∀ (i : Nat) (v : Value) (c : V), vs[i]? = some v → cs[i]? = some c → c = .d (.s v) ∨ zeroFits v c = true
  | [], [], _, i, v, c, h, _ => by simp at h
  | [], _ :: _, h, _, _, _, _, _ => by simp [fitB] at h
  | _ :: _, [], h, _, _, _, _, _ => by simp [fitB] at h
  | v :: vs, c :: cs, h, 0, v', c', h1, h2 => by
    simp only [fitB, Bool.and_eq_true] at h
    simp at h1 h2; subst h1; subst h2; exact fit1_ok h.1
  | v :: vs, c :: cs, h, i + 1, v', c', h1, h2 => by
    simp only [fitB, Bool.and_eq_true] at h
    exact fitB_at h.2 i v' c' (by simpa using h1) (by simpa using h2)
theorem fit_of {z : Value} {cs : List V} (h : fitB z.cells.toList cs = true) : ∀ (i : Nat) (v : Value) (c : V), z.cells[i]? = some v → cs[i]? = some c → c = .d (.s v) ∨ zeroFits v c = true :=
  fun i v c h1 h2 => fitB_at h i v c (by rw [Array.getElem?_toList]; exact h1) h2
theorem ones_of {cs : List V} (h : cs.all V.one = true) : ∀ c ∈ cs, c.one = true := List.all_eq_true.1 h
theorem encT_of {α : Type} {f : α → List D} {k : Nat} (h : ∀ x, (f x).length = k) (h2 : ∀ x, (f x).all D.one = true) : EncT f k := ⟨h, fun x => List.all_eq_true.1 (h2 x)⟩
section
variable {P : Program} {ops : Array Oper} {G : Call0} {o : Oper} {m : St}
def fsOf (P : Program) (T : TypeId) : Option (Array Field) := match P.underlying T with
  | some (.struct fs) => some fs
  | _ => none
def offOf (P : Program) (T : TypeId) (f : Nat) : Option Nat := (fsOf P T).bind fun fs => (fs[f]?).bind fun fd => (P.info? fd.type).bind fun i => if i.size = 0 then none else some fd.offset
def plList (P : Program) : List Field → Option (List (Nat × Nat))
  | [] => some []
  | f :: r => match P.info? f.type, plList P r with
    | some i, some l => some ((f.offset, i.size) :: l)
    | _, _ => none
def plOf (P : Program) (T : TypeId) : Option (List (Nat × Nat)) := (fsOf P T).bind fun fs => plList P fs.toList
theorem fs_und {T : TypeId} {fs : Array Field} (h : fsOf P T = some fs) : P.underlying T = some (.struct fs) := by
  unfold fsOf at h
  split at h
  · rename_i e; cases h; exact e
  · cases h
theorem field_of {T f a0 : Nat} (h : offOf P T f = some a0) : ∀ w a, (Instr.fieldAt T (.pointer (some a)) f).run P w = .ok (.pointer (some (a.add a0))) w := fun w a => by
  unfold offOf at h
  cases hf : fsOf P T with
  | none => rw [hf] at h; cases h
  | some fs =>
    rw [hf] at h
    simp only [Option.bind_some] at h
    cases hg : fs[f]? with
    | none => rw [hg] at h; cases h
    | some fd =>
      rw [hg] at h
      simp only [Option.bind_some] at h
      cases hi : P.info? fd.type with
      | none => rw [hi] at h; cases h
      | some i =>
        rw [hi] at h
        simp only [Option.bind_some] at h
        split at h
        · cases h
        · rename_i hne
          simp only [Option.some.injEq] at h
          have hu := run_underlying (fs_und hf) w
          have hs : (sizeOf fd.type).run P w = .ok i.size w := by simp [sizeOf, typeInfo, hi, Result.andThen]
          have hp : (fieldPlace a fd).run P w = .ok (a.add a0) w := by
            unfold fieldPlace
            rw [Sem.run_bind, hs, Result.andThen_ok, if_neg hne, h]; rfl
          simp only [Instr.fieldAt, Sem.run_bind, hu, Result.andThen_ok, hg, Instr.sureAddr, Sem.run_pure, hp]
theorem plList_run (w : World) : ∀ (l : List Field) (r : List (Nat × Nat)), plList P l = some r → (l.mapM fun f => (do pure (f.offset, ← sizeOf f.type) : Sem (Nat × Nat))).run P w = .ok r w
  | [], r, h => by simp [plList] at h; subst h; simp
  | f :: l, r, h => by
    unfold plList at h
    split at h
    · rename_i i l' h1 h2
      cases h
      have := plList_run w l l' h2
      have hs : (do pure (f.offset, ← sizeOf f.type) : Sem (Nat × Nat)).run P w = .ok (f.offset, i.size) w := by simp [sizeOf, typeInfo, h1, Result.andThen]
      rw [List.mapM_cons, Sem.run_bind, hs, Result.andThen_ok, Sem.run_bind, this]
      rfl
    · cases h
theorem BuildT.mk2 {T : Nat} {z : Value} {pl : List (Nat × Nat)} (hz : ∀ w, (zeroValue T).run P w = .ok z w) (h : plOf P T = some pl) : BuildT P T z pl.toArray := by
  unfold plOf at h
  cases hf : fsOf P T with
  | none => rw [hf] at h; cases h
  | some fs =>
    rw [hf] at h
    refine .mk' hz (fs_und hf) fun w => ?_
    rw [Array.mapM_eq_mapM_toList]
    have := plList_run w fs.toList pl h
    rw [Sem.run_map, this]; rfl
theorem AggT.mk2 {T k : Nat} (h : (fsOf P T).isSome = true) (h2 : (P.info? T).map (·.size) = some k) : AggT P T k := by
  cases hf : fsOf P T with
  | none => rw [hf] at h; cases h
  | some fs => exact .mk' (fs_und hf) h2
theorem nc (i j : Nat) : ∀ k, Loc.c i j ≠ .b k := fun k h => nomatch h
def eL {α : Type} (k : Nat) (f : α → List D) (l : List α) : List D := [.sl k (l.map f)]
theorem cc {α : Type} {a b : α} {l l' : List α} (h : a = b) (h2 : l = l') : a :: l = b :: l' := by rw [h, h2]
theorem w_ldb {d T k n : Nat} {fz : Bool} {x : Operand} {X : V} (id off : Nat) (hop : o.op = .load T x) (hg : GOn ops o m) (hdst : o.dst = some d) (hd : d < G.nt) (hT : AggT P T k)
    (hx : evO m x = .ptr id off) (hb : m (.b id) = .box fz n) (hk : off + k ≤ n) (hX : mkV (cellsM m id off k) = X) : Valid P ops G o m ⟨gloc ops o ++ (lo x ++ .b id :: cellsL id off k), [(.t d, X)]⟩ := by
  subst hX; exact v_load_box hop hg hdst hd hT hx hb hk
theorem w_ldp {d T k : Nat} {x : Operand} (cs xs : List D) (hop : o.op = .load T x) (hg : GOn ops o m) (hdst : o.dst = some d) (hd : d < G.nt) (hT : AggT P T k)
    (hx : evO m x = .d (.dp cs)) (hk : k ≤ cs.length) (hX : cs.take k = xs) : Valid P ops G o m ⟨gloc ops o ++ lo x, [(.t d, .d (.agg xs))]⟩ := by
  subst hX; exact v_load_dp hop hg hdst hd hT hx hk
theorem w_bld {d T : Nat} {parts : Array (Nat × Operand)} {z : Value} {pl : Array (Nat × Nat)} {X : V} (zs cs : List V) (xs : List (Nat × V)) (hop : o.op = .build T parts) (hg : GOn ops o m) (hdst : o.dst = some d) (hd : d < G.nt) (hT : BuildT P T z pl)
    (hzs : z.cells.size = zs.length) (hfit : ∀ (i : Nat) (v : Value) (c : V), z.cells[i]? = some v → zs[i]? = some c → c = .d (.s v) ∨ zeroFits v c = true)
    (hx : parts.toList.map (fun p => (p.1, evO m p.2)) = xs) (h1 : onesB xs = true) (hf : fillV (pl[·]?) zs xs = some cs) (hX : mkV cs = X) :
    Valid P ops G o m ⟨gloc ops o ++ parts.toList.flatMap (fun p => lo p.2), [(.t d, X)]⟩ := by
  subst hX; exact v_build hop hg hdst hd hT hzs hfit hx (fun q hq c hc => List.all_eq_true.1 (List.all_eq_true.1 h1 q hq) c hc) hf
end
end Go.Awp
set_option linter.unusedSimpArgs false
set_option linter.unusedVariables false
namespace Go.Awp
open Go.RowKit
section
variable {P : Program} {ops : Array Oper} {G : Call0} {o : Oper} {m : St}
theorem upd_same (m : St) (l : Loc) : upd m l (m l) = m := by
  funext x
  by_cases h : x = l
  · subst h; exact upd_self _ _ _
  · exact upd_ne _ _ h
/-- The same thing, in another word. -/
theorem wk_eq (l : Loc) (X : V) (h : m l = X) : Wk G m (upd m l X) := by subst h; rw [upd_same]; exact Wk.refl _
def nxc (s : ByteArray) (pos : Nat) : Bool := decide (pos < s.size)
def nxr (s : ByteArray) (pos : Nat) : Int := ((Utf8.decode s pos).1 : Nat)
def nxw (s : ByteArray) (pos : Nat) : Nat := pos + (Utf8.decode s pos).2
def nxp (s : ByteArray) (pos : Nat) : Nat := bif nxc s pos then nxw s pos else pos
def nxV (s : ByteArray) (pos : Nat) : V := bif nxc s pos then .tup [bV true, iV (pos : Nat), nV .i32 (nxr s pos)] else .tup [bV false]
theorem nxV_t {s : ByteArray} {pos : Nat} (h : nxc s pos = true) : nxV s pos = .tup [bV true, iV (pos : Nat), nV .i32 (nxr s pos)] := by simp [nxV, h]
theorem nxp_t {s : ByteArray} {pos : Nat} (h : nxc s pos = true) : V.iter s (nxp s pos) = .iter s (nxw s pos) := by simp [nxp, h]
theorem v_range {d T id : Nat} {x : Operand} {s : ByteArray} (hop : o.op = .range T x) (hg : GOn ops o m) (hdst : o.dst = some d) (hd : d < G.nt) (hT : P.underlying T = some .string)
    (hx : evO m x = sV s) (hid : m (.b id) = .nob) : Valid P ops G o m ⟨gloc ops o ++ (lo x ++ [.b id]), [(.b id, .iter s 0), (.t d, .ptr id 0)]⟩ :=
  valid_of hg (fun l hl => by simp [hl]) fun m' hm φ a w hr => by
    have h1 := hr.s (x := x) (fun l hl => hm l (by simp [hl])) hx
    have hrun := run_range_string (P := P) w T s hT
    refine ⟨_, _, by simp only [execOp, hop, h1, Sem.run_bind, hrun, Result.andThen_ok, Sem.run_pure]; rfl, updPhi φ id (some (w.heap.size, 0)), ?_⟩
    rw [hdst]
    have : RR G (updPhi φ id (some (w.heap.size, 0))) (upd m' (.b id) (.iter s 0)) a (w.alloc (.stringIter s 0)) :=
      hr.newBlk id 0 (by rw [hm _ (by simp)]; exact hid) (.stringIter s 0) (fun t => upd_b_t _ _ _ _) (fun i hi => upd_b_b _ _ hi) (fun i j hi => upd_b_c _ _ _ _ _) (fun ok' hok => by
        unfold BlkOK
        rw [upd_self]
        exact ⟨w.heap.size, 0, updPhi_self _ _ _, heap_alloc_at _ _⟩)
    exact this.put d hd (.ptr id 0 w.heap.size 0 (updPhi_self _ _ _))
theorem run_next_t (w : World) (b : Nat) (ty : TypeId) {s : ByteArray} {pos : Nat} (h : w.heap[b]? = some (.stringIter s pos)) (hp : pos < s.size) :
    (Instr.next (.pointer (some ⟨b, 0, none⟩)) true ty).run P w = .ok (.tuple #[.bool true, goInt pos, .int .i32 (Utf8.decode s pos).1]) { w with heap := w.heap.setIfInBounds b (.stringIter s (nxw s pos)) } := by
  have hb : b < w.heap.size := (Array.getElem?_eq_some_iff.1 h).1
  simp only [Instr.next, getObj, setObj, Sem.run_bind, Sem.run, h, Result.andThen, hp, if_true]
  simp [goInt, Sem.run, h, nxw, hb]
theorem run_next_f (w : World) (b : Nat) (ty : TypeId) {s : ByteArray} {pos : Nat} (h : w.heap[b]? = some (.stringIter s pos)) (hp : ¬ pos < s.size) :
    (Instr.next (.pointer (some ⟨b, 0, none⟩)) true ty).run P w = .ok (.tuple #[.bool false]) w := by
  simp [Instr.next, getObj, Sem.run, h, hp, Result.andThen]
theorem v_next {d id : Nat} {x : Operand} {s : ByteArray} {pos : Nat} (hop : o.op = .next x true) (hg : GOn ops o m) (hdst : o.dst = some d) (hd : d < G.nt)
    (hx : evO m x = .ptr id 0) (hb : m (.b id) = .iter s pos) : Valid P ops G o m ⟨gloc ops o ++ (lo x ++ [.b id]), [(.b id, .iter s (nxp s pos)), (.t d, nxV s pos)]⟩ :=
  valid_of hg (fun l hl => by simp [hl]) fun m' hm φ a w hr => by
    obtain ⟨b, c, hφ, h2⟩ := hr.ptr (x := x) (fun l hl => hm l (by simp [hl])) hx
    have hb' : m' (.b id) = .iter s pos := by rw [hm _ (by simp)]; exact hb
    have hblk := hr.blk id
    unfold BlkOK at hblk
    rw [hb'] at hblk
    obtain ⟨b', c', h3, h4⟩ := hblk
    rw [hφ] at h3
    simp only [Option.some.injEq, Prod.mk.injEq] at h3
    obtain ⟨rfl, rfl⟩ := h3
    have hlt := hr.lt id b c hφ
    by_cases hp : pos < s.size
    · have hc : nxc s pos = true := decide_eq_true hp
      refine ⟨.tuple #[.bool true, goInt pos, .int .i32 (Utf8.decode s pos).1], { w with heap := w.heap.setIfInBounds b (.stringIter s (nxw s pos)) }, ?_, φ, ?_⟩
      · simp only [execOp, hop, h2, Sem.run_bind, run_next_t w b o.type h4 hp, Result.andThen_ok, Sem.run_pure]
      · rw [hdst]
        show RR G φ (upd (upd m' (.b id) (.iter s (nxp s pos))) (.t d) (nxV s pos)) _ _
        rw [nxp, hc, nxV_t hc]
        have : RR G φ (upd m' (.b id) (.iter s (nxw s pos))) a { w with heap := w.heap.setIfInBounds b (.stringIter s (nxw s pos)) } := by
          refine hr.turn id b c hφ (by rw [hb']; rfl) (fun t => upd_b_t _ _ _ _) (fun j hj => upd_b_b _ _ hj) (fun j l hj => upd_b_c _ _ _ _ _) ?_ (by simp) (fun b' hb' => ?_) ?_
          · refine hr.below.trans ⟨rfl, rfl, rfl, by simp, fun k hk => ?_⟩
            show (w.heap.setIfInBounds b _)[k]? = _
            rw [Array.getElem?_setIfInBounds_ne (by omega)]
          · show (w.heap.setIfInBounds b _)[b']? = _
            rw [Array.getElem?_setIfInBounds_ne (Ne.symm hb')]
          · intro ok' hok
            unfold BlkOK
            rw [upd_self]
            refine ⟨b, c, hφ, ?_⟩
            show (w.heap.setIfInBounds b _)[b]? = _
            rw [Array.getElem?_setIfInBounds_self_of_lt hlt.2]
        refine this.put d hd (.tup _ _ rfl fun i v c hv hc => ?_)
        match i with
        | 0 => simp at hv hc; subst hv; subst hc; exact .d (.s _)
        | 1 => simp at hv hc; subst hv; subst hc; exact .d (.s _)
        | 2 => simp at hv hc; subst hv; subst hc; exact .d (.s _)
        | i + 3 => simp at hv
    · have hc : nxc s pos = false := decide_eq_false hp
      refine ⟨.tuple #[.bool false], w, ?_, φ, ?_⟩
      · simp only [execOp, hop, h2, Sem.run_bind, run_next_f w b o.type h4 hp, Result.andThen_ok, Sem.run_pure]
      · rw [hdst]
        have e1 : nxV s pos = .tup [bV false] := by simp [nxV, hc]
        show RR G φ (upd (upd m' (.b id) (.iter s (nxp s pos))) (.t d) (nxV s pos)) _ _
        rw [nxp, hc, e1]
        have e2 : upd m' (.b id) (.iter s pos) = m' := by rw [← hb']; exact upd_same _ _
        show RR G φ (upd (upd m' (.b id) (.iter s pos)) (.t d) _) _ _
        rw [e2]
        refine hr.put d hd (.tup _ _ rfl fun i v c hv hc => ?_)
        match i with
        | 0 => simp at hv hc; subst hv; subst hc; exact .d (.s _)
        | i + 1 => simp at hv
theorem v_nx0 {d : Nat} {x : Operand} {s : ByteArray} {pos : Nat} (hop : o.op = .extract x 0) (hg : GOn ops o m) (hdst : o.dst = some d) (hd : d < G.nt)
    (hx : evO m x = nxV s pos) : Valid P ops G o m ⟨gloc ops o ++ lo x, [(.t d, bV (nxc s pos))]⟩ := by
  cases hc : nxc s pos with
  | true => exact v_extract hop hg hdst hd (hx.trans (nxV_t hc)) rfl
  | false => exact v_extract hop hg hdst hd (hx.trans (by simp [nxV, hc] : nxV s pos = .tup [bV false])) rfl
def partP (P : Program) (t : TypeId) (cs : List Value) (off : Nat) : Option Value :=
  match P.underlying t, P.info? t with
  | some (.struct _), some i => some (.agg ((cs.drop off).take i.size).toArray)
  | some d, _ => if oneKind d then cs[off]? else none
  | none, _ => none
def eqP (P : Program) : Nat → TypeId → Value → Value → Option Bool
  | 0, _, _, _ => none
  | d + 1, t, x, y => match P.underlying t, x, y with
    | some .bool, .bool a, .bool b => some (a == b)
    | some (.int _), .int k a, .int k' b => if k = k' then some (eqI a b) else none
    | some .string, .string a, .string b => some (strEq a b)
    | some (.struct fs), .agg xs, .agg ys => if P.stoodInHeld t then none else
      fs.toList.foldr (fun f r => if f.name = "_" then none else match partP P f.type xs.toList f.offset, partP P f.type ys.toList f.offset with
        | some u, some v => match eqP P d f.type u v, r with
          | some c, some r => some (c && r)
          | _, _ => none
        | _, _ => none) (some true)
    | _, _, _ => none
theorem part_run {t : TypeId} {cs : Array Value} {off : Nat} {v : Value} (h : partP P t cs.toList off = some v) (w : World) : (part t cs off).run P w = .ok v w := by
  unfold partP at h
  cases hu : P.underlying t with
  | none => rw [hu] at h; simp at h
  | some td =>
    rw [hu] at h
    have hur := run_underlying hu w
    have one : oneKind td = true → cs.toList[off]? = some v → (part t cs off).run P w = .ok v w := fun h1 h2 => by
      rw [Array.getElem?_toList] at h2
      have ha : (isAgg t).run P w = .ok false w := by cases td <;> first | (simp [oneKind] at h1; done) | simp [isAgg, hur, Result.andThen]
      unfold part
      rw [Sem.run_bind, ha, Result.andThen_ok]
      simp [h2]
    split at h
    · rename_i fs i e1 e2
      simp only [Option.some.injEq] at e1 h
      subst e1; subst h
      have hs : (sizeOf t).run P w = .ok i.size w := by simp [sizeOf, typeInfo, e2, Result.andThen]
      have ha : (isAgg t).run P w = .ok true w := by simp [isAgg, hur, Result.andThen]
      unfold part
      rw [Sem.run_bind, ha, Result.andThen_ok]
      simp only [if_true, Sem.run_bind, hs, Result.andThen_ok, Sem.run_pure]
      congr 2
      apply Array.toList_inj.1
      simp [Array.toList_extract, List.extract_eq_take_drop]
    · rename_i e1 _
      simp only [Option.some.injEq] at e1
      subst e1
      split at h
      · rename_i h1; exact one h1 h
      · cases h
    · rename_i e; cases e
theorem eqP_run : ∀ (n d : Nat) (t : TypeId) (x y : Value) (b : Bool), n ≤ d → eqP P n t x y = some b → ∀ w, (Op.equalIn d t x y).run P w = .ok b w
  | 0, _, _, _, _, _, _, h => by simp [eqP] at h
  | n + 1, 0, _, _, _, _, hle, _ => by omega
  | n + 1, d + 1, t, x, y, b, hle, h => fun w => by
    unfold eqP at h
    split at h
    · rename_i e1; simp only [Option.some.injEq] at h; subst h; exact run_equalIn_bool' w d t _ _ e1
    · rename_i e1
      split at h
      · rename_i ek; subst ek; simp only [Option.some.injEq] at h; subst h; exact run_equalIn_int w d t _ _ _ _ e1
      · cases h
    · rename_i e1; simp only [Option.some.injEq] at h; subst h; exact run_equalIn_string w d t _ _ e1
    · rename_i fs xs ys e1
      split at h
      · cases h
      · rename_i hst
        have hf : P.fieldsOf t = fs := by simp [Program.fieldsOf, e1]
        rw [run_equalIn_struct w d t xs ys (by rw [hf]; exact e1) (by simpa using hst), hf]
        have key : ∀ (l : List Field) (b : Bool), l.foldr (fun f r => if f.name = "_" then none else match partP P f.type xs.toList f.offset, partP P f.type ys.toList f.offset with
            | some u, some v => match eqP P n f.type u v, r with
              | some c, some r => some (c && r)
              | _, _ => none
            | _, _ => none) (some true) = some b → (Op.eqFields d xs ys l).run P w = .ok b w := by
          intro l
          induction l with
          | nil => intro b hb; simp at hb; subst hb; simp [Op.eqFields]
          | cons f l ih =>
            intro b hb
            rw [List.foldr_cons] at hb
            split at hb
            · cases hb
            · rename_i hn
              split at hb
              · rename_i u v hu' hv'
                split at hb
                · rename_i c r hc hr
                  simp only [Option.some.injEq] at hb
                  subst hb
                  have h1 := part_run hu' w
                  have h2 := part_run hv' w
                  have h3 := eqP_run n d f.type u v c (by omega) hc w
                  have h4 := ih r hr
                  simp only [Op.eqFields, ne_eq, hn, not_false_eq_true, if_true, Sem.run_bind, h1, h2, h3, Result.andThen_ok]
                  cases c with
                  | true => simpa using h4
                  | false => simp
                · cases hb
              · cases hb
        exact key fs.toList b h
    · cases h
theorem rep_agg_s {ok : Nat → Prop} {w : World} {v : Value} {cs : List D} {vs : List Value} (h : RepD ok w v (.agg cs)) (hc : cs = vs.map .s) : v = .agg vs.toArray := by
  cases h with
  | agg us _ hl hcs =>
    subst hc
    congr 1
    apply Array.ext_getElem?
    intro i
    by_cases hi : i < us.size
    · have hlt : i < vs.length := by rw [hl] at hi; simpa using hi
      have := hcs i us[i] (.s vs[i]) (by simp) (by simp [hlt])
      rw [Array.getElem?_eq_getElem hi, List.getElem?_toArray, List.getElem?_eq_getElem hlt]
      generalize us[i] = u at this ⊢
      cases this; rfl
    · have : ¬ i < vs.length := by rw [hl] at hi; simpa using hi
      rw [Array.getElem?_eq_none (by omega), List.getElem?_toArray, List.getElem?_eq_none (by omega)]
theorem RR.aggS {φ : Phi} {m' : St} {a : Act} {w : World} (h : RR G φ m' a w) {x : Operand} {cs : List D} {vs : List Value} (hm : ∀ l ∈ lo x, m' l = m l) (hx : evO m x = .d (.agg cs)) (hc : cs = vs.map .s) : a.eval x = .agg vs.toArray := by
  have h1 := h.ev' hm hx
  generalize a.eval x = u at h1 ⊢
  cases h1 with | d h1 => exact rep_agg_s h1 hc
theorem v_bin_eql {α : Type} {f : α → List D} {d : Nat} {T T' : TypeId} {x y : Operand} {a b : α} {va vb : List Value} {r : Bool} (hop : o.op = .binOp .eql T x y T') (hg : GOn ops o m) (hdst : o.dst = some d) (hd : d < G.nt)
    (hx : evO m x = .d (.agg (f a))) (hy : evO m y = .d (.agg (f b))) (ha : f a = va.map .s) (hb : f b = vb.map .s) (hgd : P.eqGuardType P.depth T = false) (hr : eqP P 9 T (.agg va.toArray) (.agg vb.toArray) = some r) :
    Valid P ops G o m ⟨gloc ops o ++ (lo x ++ lo y), [(.t d, bV r)]⟩ :=
  valid_pure hg hdst hd fun m' hm φ a w h => by
    have h1 := h.aggS (x := x) (fun l hl => hm l (by simp [hl])) hx ha
    have h2 := h.aggS (x := y) (fun l hl => hm l (by simp [hl])) hy hb
    refine ⟨.bool r, ?_, .d (.s _)⟩
    have h3 := run_eqGuard_agg (P := P) w .eql T x y va.toArray vb.toArray hgd
    have h4 := run_eql_struct (P := P) w T va.toArray vb.toArray
    rw [eqP_run 9 10000 T _ _ r (by decide) hr w] at h4
    simp only [execOp, hop, h1, h2, Sem.run_bind, h3, h4, Result.andThen_ok, Sem.run_pure]
theorem v_bin_neq {α : Type} {f : α → List D} {d : Nat} {T T' : TypeId} {x y : Operand} {a b : α} {va vb : List Value} {r : Bool} (hop : o.op = .binOp .neq T x y T') (hg : GOn ops o m) (hdst : o.dst = some d) (hd : d < G.nt)
    (hx : evO m x = .d (.agg (f a))) (hy : evO m y = .d (.agg (f b))) (ha : f a = va.map .s) (hb : f b = vb.map .s) (hgd : P.eqGuardType P.depth T = false) (hr : eqP P 9 T (.agg va.toArray) (.agg vb.toArray) = some r) :
    Valid P ops G o m ⟨gloc ops o ++ (lo x ++ lo y), [(.t d, bV (!r))]⟩ :=
  valid_pure hg hdst hd fun m' hm φ a w h => by
    have h1 := h.aggS (x := x) (fun l hl => hm l (by simp [hl])) hx ha
    have h2 := h.aggS (x := y) (fun l hl => hm l (by simp [hl])) hy hb
    refine ⟨.bool (!r), ?_, .d (.s _)⟩
    have h3 := run_eqGuard_agg (P := P) w .neq T x y va.toArray vb.toArray hgd
    have h4 := run_neq_struct (P := P) w T va.toArray vb.toArray
    rw [eqP_run 9 10000 T _ _ r (by decide) hr w] at h4
    simp only [execOp, hop, h1, h2, Sem.run_bind, h3, h4, Result.andThen_ok, Sem.run_pure]
theorem v_func_d {d : Nat} {g : FuncId} {xs : Array Operand} {ds : List D} (hop : o.op = .makeFunc (.func g) #[] xs) (hg : GOn ops o m) (hdst : o.dst = some d) (hd : d < G.nt)
    (hx : xs.toList.map (evO m) = ds.map .d) : Valid P ops G o m ⟨gloc ops o ++ xs.toList.flatMap lo, [(.t d, .d (.fn g ds))]⟩ :=
  valid_pure hg hdst hd fun m' hm φ a w h => by
    obtain ⟨h1, h2⟩ := call_args h hm hx
    exact ⟨.func (.func g) #[] (xs.map a.eval), by simp [execOp, hop, Instr.makeFunc], .d (.fn g _ _ h1 h2)⟩
theorem ok_at {φ : Phi} {a : Act} {w : World} (h : RR G φ m a w) (ob : Obj) : okOf G φ m (w.alloc ob) w.heap.size :=
  ⟨.inr h.below.size, by rw [size_alloc']; omega, fun i c hi => by have := (h.lt i _ c hi).2; omega⟩
theorem ok_alloc {φ : Phi} {w : World} (ob : Obj) {b : Nat} (h : okOf G φ m w b) : okOf G φ m (w.alloc ob) b ∧ (w.alloc ob).heap[b]? = w.heap[b]? :=
  ⟨⟨h.1, by rw [size_alloc']; exact Nat.lt_succ_of_lt h.2.1, h.2.2⟩, heap_alloc_lt h.2.1⟩
theorem v_box_d {d T : Nat} {x : Operand} {X : V} {cs : List D} (hop : o.op = .box T x) (hg : GOn ops o m) (hdst : o.dst = some d) (hd : d < G.nt)
    (hx : evO m x = X) (hcs : X.cellsV = cs.map .d) (h1 : ∀ c ∈ cs.map V.d, c.one = true) : Valid P ops G o m ⟨gloc ops o ++ lo x, [(.t d, .d (.dp cs))]⟩ :=
  valid_of hg (fun l hl => by simp [hl]) fun m' hm φ a w hr => by
    have hx' := hr.ev' (x := x) (fun l hl => hm l (by simp [hl])) hx
    obtain ⟨h2, h3, _⟩ := rep_cells hx' (by rw [hcs]; exact h1)
    rw [hcs] at h2 h3
    refine ⟨.pointer (some ⟨w.heap.size, 0, none⟩), w.alloc (.cells (a.eval x).cells T), by simp [execOp, hop, Instr.box, newVar, newRow], φ, ?_⟩
    rw [hdst]
    refine (hr.grow (below_alloc1 w _)).put d hd (.d (.dp w.heap.size 0 cs (fun j => (a.eval x).cells.getD j undef) (ok_at hr _) (fun j c hj => ?_) fun j c hj => ?_))
    · have hlt : j < (a.eval x).cells.size := by rw [h2, List.length_map]; exact (List.getElem?_eq_some_iff.1 hj).1
      rw [Nat.zero_add, cell_of (heap_alloc_at _ _), Array.getD_eq_getD_getElem?, Array.getElem?_eq_getElem hlt]; rfl
    · have hlt : j < (a.eval x).cells.size := by rw [h2, List.length_map]; exact (List.getElem?_eq_some_iff.1 hj).1
      have := h3 j (a.eval x).cells[j] (.d c) (Array.getElem?_eq_getElem hlt) (by rw [List.getElem?_map, hj]; rfl)
      rw [Array.getD_eq_getD_getElem?, Array.getElem?_eq_getElem hlt, Option.getD_some]
      generalize (a.eval x).cells[j] = u at this ⊢
      cases this with | d h => exact h.mono fun b hb => ok_alloc _ hb
theorem w_bsl_d {α : Type} {d T e k n : Nat} {parts : Array (Nat × Operand)} {z : Value} (xs : List (Nat × V)) (l : List α) (f : α → List D) (hop : o.op = .buildSlice T n parts) (hg : GOn ops o m) (hdst : o.dst = some d) (hd : d < G.nt) (hT : SliceT P T e k)
    (hz : ∀ w, (zeroValue e).run P w = .ok z w) (hf : EncT f k) (hk0 : 0 < k) (hx : parts.toList.map (fun p => (p.1, evO m p.2)) = xs) (h1 : onesB xs = true)
    (hn : l.length = n) (hsm : Nat.ble (n * k) (2 ^ 24) = true) (hfl : fillV (fun i => some (i * k, k)) (List.replicate (n * k) .top) xs = some ((l.map f).flatten.map .d)) :
    Valid P ops G o m ⟨gloc ops o ++ parts.toList.flatMap (fun p => lo p.2), [(.t d, .d (.sl k (l.map f)))]⟩ :=
  valid_of hg (fun l hl => by simp [hl]) fun m' hm φ a w hr => by
    have hs := Nat.le_of_ble_eq_true hsm
    have h1 : ∀ q ∈ xs, ∀ c ∈ q.2.cellsV, c.one = true := fun q hq c hc => List.all_eq_true.1 (List.all_eq_true.1 h1 q hq) c hc
    have hmax : n ≤ maxCap := by
      have : n * 1 ≤ n * k := Nat.mul_le_mul_left n hk0
      simp only [maxCap]
      omega
    have hx' : parts.toList.map (fun p => (p.1, evO m' p.2)) = xs := by
      rw [← hx]; exact evO_map_congr _ fun p hp x hx => hm x (by simp only [List.mem_append, List.mem_flatMap]; exact .inr ⟨p, hp, hx⟩)
    obtain ⟨g1, g2⟩ := parts_rep hr hx'
    have fin : ∀ (z0 : Array Value), z0.size = n * k → ∃ arr, Instr.fill (fun i => some (i * k, k)) z0 (parts.map fun (i, x) => (i, a.eval x)).toList = some arr ∧ RepL φ (okOf G φ m' w) w arr ((l.map f).flatten.map .d) := fun z0 hz0 =>
      fill_rep xs _ _ _ z0 ⟨by simpa using hz0, fun i v c hv hc => by
        have hlt : i < n * k := by have := (List.getElem?_eq_some_iff.1 hc).1; simpa using this
        rw [List.getElem?_replicate, if_pos hlt] at hc
        simp only [Option.some.injEq] at hc
        subst hc
        exact .top v⟩ g1 g2 h1 hfl
    have hrun : ∃ arr, (Instr.buildSlice T n (parts.map fun (i, x) => (i, a.eval x))).run P w = .ok (.slice (some ⟨w.heap.size, 0, none⟩) n n) (w.alloc (.cells arr e)) ∧ RepL φ (okOf G φ m' w) w arr ((l.map f).flatten.map .d) := by
      have hns : ¬ n * k > 2 ^ 24 := by omega
      by_cases h0 : n * k = 0
      · obtain ⟨arr, f1, f2⟩ := fin ((Array.range (n * k)).map fun i => (#[] : Array Value)[i % (#[] : Array Value).size]!) (by simp)
        refine ⟨arr, ?_, f2⟩
        simp only [Instr.buildSlice, Sem.run_bind, run_underlying hT.und, hT.size, Result.andThen_ok, if_neg hns, if_pos h0, Sem.run_pure, f1]
        simp [newRow]
      · obtain ⟨arr, f1, f2⟩ := fin ((Array.range (n * k)).map fun i => z.cells[i % z.cells.size]!) (by simp)
        refine ⟨arr, ?_, f2⟩
        simp only [Instr.buildSlice, Sem.run_bind, run_underlying hT.und, hT.size, Result.andThen_ok, if_neg hns, if_neg h0, Sem.run_pure, hz w, f1]
        simp [newRow]
    obtain ⟨arr, r1, r2⟩ := hrun
    refine ⟨.slice (some ⟨w.heap.size, 0, none⟩) n n, w.alloc (.cells arr e), by simp only [execOp, hop, Sem.run_bind, r1, Result.andThen_ok, Sem.run_pure], φ, ?_⟩
    rw [hdst]
    have hrow := rowIn_of (hf.lens l) r2
    have hll : (l.map f).length = n := by simpa using hn
    refine (hr.grow (below_alloc1 w _)).put d hd (.d ?_)
    rw [← hll]
    refine .sl w.heap.size 0 _ k (l.map f) (fun i j => arr.getD (i * k + j) undef) (Nat.le_refl _) (by rw [hll]; exact hmax) (ok_at hr _) (fun i e hi => (hrow i e hi).1) (fun i e j c hi hj => ?_) (fun i e j c hi hj => ?_)
    · obtain ⟨v, h1, _⟩ := (hrow i e hi).2 j c hj
      rw [Nat.zero_add, cell_of (heap_alloc_at _ _), h1, Array.getD_eq_getD_getElem?, h1]; rfl
    · obtain ⟨v, h1, h2⟩ := (hrow i e hi).2 j c hj
      rw [Array.getD_eq_getD_getElem?, h1]; exact h2.mono fun b hb => ok_alloc _ hb
inductive TD : V → D → Prop
  | d (x : D) : TD (.d x) x
  | nil (k : Nat) : TD (.d (.s (.slice none 0 0))) (.sl k [])
  | fn (g : FuncId) (ds : List D) : TD (.fn g (ds.map .d)) (.fn g ds)
theorem TD.of {X Y : V} {d : D} (h : X = Y) (t : TD Y d) : TD X d := by subst h; exact t
theorem pr {α : Type} {X Y : α} {i : Nat} (h : X = Y) : (i, X) = (i, Y) := by rw [h]
inductive TDs : List V → List D → Prop
  | n : TDs [] []
  | c {x : V} {y : D} {xs : List V} {ys : List D} (h : TD x y) (hs : TDs xs ys) : TDs (x :: xs) (y :: ys)
theorem TD.rep {X : V} {x : D} (h : TD X x) {φ : Phi} {ok : Nat → Prop} {w : World} {v : Value} (hr : RepV φ ok w v X) : RepD ok w v x := by
  cases h with
  | d => cases hr with | d h => exact h
  | nil k => cases hr with | d h => cases h; exact .nil k
  | fn g ds =>
    cases hr with
    | fn _ vs _ hl hc =>
      refine .fn g vs ds (by simpa using hl) fun i v c hv hx => ?_
      have := hc i v (.d c) hv (by rw [List.getElem?_map, hx]; rfl)
      cases this with | d h => exact h
theorem TDs.get : ∀ {xs : List V} {ys : List D}, TDs xs ys → xs.length = ys.length ∧ ∀ (i : Nat) (y : D), ys[i]? = some y → ∃ x, xs[i]? = some x ∧ TD x y
  | _, _, .n => ⟨rfl, fun i y h => by simp at h⟩
  | _, _, .c (xs := xs) (ys := ys) h hs => by
    obtain ⟨h1, h2⟩ := hs.get
    refine ⟨by simp [h1], fun i y hi => ?_⟩
    cases i with
    | zero => simp at hi; subst hi; exact ⟨_, rfl, h⟩
    | succ i => obtain ⟨x, h3, h4⟩ := h2 i y (by simpa using hi); exact ⟨x, by simpa using h3, h4⟩
theorem call_args2 {φ : Phi} {m' : St} {a : Act} {w : World} {xs : Array Operand} {ds : List D} (h : RR G φ m' a w) (hm : ∀ l ∈ xs.toList.flatMap lo, m' l = m l) (hx : TDs (xs.toList.map (evO m)) ds) :
    (xs.map a.eval).size = ds.length ∧ ∀ (i : Nat) (v : Value) (x : D), (xs.map a.eval)[i]? = some v → ds[i]? = some x → RepD (okOf G φ m' w) w v x := by
  obtain ⟨hl, hg⟩ := hx.get
  refine ⟨by simpa using hl, fun i v x hv hxi => ?_⟩
  rw [Array.getElem?_map, Option.map_eq_some_iff] at hv
  obtain ⟨y, hy, rfl⟩ := hv
  obtain ⟨X, h1, h2⟩ := hg i x hxi
  rw [List.getElem?_map, Array.getElem?_toList, hy] at h1
  simp only [Option.map_some, Option.some.injEq] at h1
  exact h2.rep (h.ev' (x := y) (fun l hl => hm l (List.mem_flatMap.2 ⟨y, by rw [Array.mem_toList_iff]; exact Array.mem_of_getElem? hy, hl⟩)) h1)
theorem call_run2 {φ : Phi} {m' : St} {a : Act} {w : World} {c : Call} {fo : Operand} {xs : Array Operand} {g : FuncId} {caps ds : List D} (hop : o.op = .call c) (hc : c.callee = .value fo) (hxs : c.args = xs) (hen : ∀ args w, (callFunc g args).run P w = .ok (.enter g args) w)
    (h : RR G φ m' a w) (hm : ∀ l ∈ lo fo ++ xs.toList.flatMap lo, m' l = m l) (hf : FnIs m fo g caps) (hx : TDs (xs.toList.map (evO m)) ds) :
    ∃ vs : Array Value, (execOp a.eval o).run P w = .ok (.enter g vs) w ∧ vs.size = (ds ++ caps).length ∧ ∀ (i : Nat) (v : Value) (x : D), vs[i]? = some v → (ds ++ caps)[i]? = some x → RepD (okOf G φ m' w) w v x := by
  obtain ⟨a1, a2⟩ := call_args2 h (fun l hl => hm l (by simp only [List.mem_append]; exact .inr hl)) hx
  rcases hf with ⟨h1, h2⟩ | h1
  · subst h1; subst h2
    refine ⟨xs.map a.eval, ?_, by simpa using a1, by simpa using a2⟩
    simp [execOp, hop, resolve, hc, hxs, Deferred.ofValue, Act.eval, invoke, hen]
  · have hv := h.ev' (x := fo) (fun l hl => hm l (by simp [hl])) h1
    generalize he : a.eval fo = fv at hv
    cases hv with
    | d hv =>
      cases hv with
      | fn _ vs _ hl hcs =>
        refine ⟨xs.map a.eval ++ vs, ?_, by simp [a1, hl], fun i v x hv hx => ?_⟩
        · simp [execOp, hop, resolve, hc, hxs, Deferred.ofValue, he, invoke, hen]
        · by_cases hi : i < ds.length
          · rw [Array.getElem?_append_left (by rw [a1]; exact hi)] at hv
            rw [List.getElem?_append_left hi] at hx
            exact a2 i v x hv hx
          · rw [Array.getElem?_append_right (by rw [a1]; omega), a1] at hv
            rw [List.getElem?_append_right (by omega)] at hx
            exact hcs _ v x hv hx
theorem valid_call2 {e : Eff} {c : Call} {fo : Operand} {xs : Array Operand} {g : FuncId} {caps ds : List D} {r : Ret} (hop : o.op = .call c) (hc : c.callee = .value fo) (hxs : c.args = xs) (hen : ∀ args w, (callFunc g args).run P w = .ok (.enter g args) w)
    (hg : GOn ops o m) (hgl : ∀ l ∈ gloc ops o ++ (lo fo ++ xs.toList.flatMap lo), l ∈ e.rd) (hf : FnIs m fo g caps) (hx : TDs (xs.toList.map (evO m)) ds) (hs : Spec P G.A g (ds ++ caps) r)
    (h : ∀ m' : St, (∀ l ∈ e.rd, m' l = m l) → ∀ φ a w w' v, RR G φ m' a w → Below w.heap.size w w' → RepRet (okOf G φ m' w) w w' v r → R G (updL m' e.wr) (a.put o.dst v) w') : Valid P ops G o m e := by
  intro m' hm a w hr K Q hK
  obtain ⟨φ, hr⟩ := hr
  obtain ⟨vs, h1, h2, h3⟩ := call_run2 hop hc hxs hen hr (fun l hl => hm l (hgl l (by simp only [List.mem_append] at hl ⊢; exact .inr hl))) hf hx
  unfold opGo
  rw [if_pos (hr.wanted (hg.congr fun l hl => hm l (hgl l (by simp [hl]))))]
  left
  unfold Oper.wp
  rw [h1]
  refine (hs w vs (okOf G φ m' w) (G.A.keep _ _ G.hA hr.below) (fun b hb => hb.2.1) h2 h3).mono ?_
  rintro e' w' ⟨v, rfl, hb, hret⟩
  exact hK _ _ (h m' hm φ a w w' v hr hb hret)
theorem w_call2 {d : Nat} {c : Call} {fo : Operand} {xs : Array Operand} {g : FuncId} {caps ds l : List D} {X : V} (hs : Spec P G.A g (ds ++ caps) (.ds l)) (hop : o.op = .call c) (hc : c.callee = .value fo) (hxs : c.args = xs) (hen : ∀ args w, (callFunc g args).run P w = .ok (.enter g args) w)
    (hg : GOn ops o m) (hdst : o.dst = some d) (hd : d < G.nt) (hf : FnIs m fo g caps) (hx : TDs (xs.toList.map (evO m)) ds) (hX : retV l = X) :
    Valid P ops G o m ⟨gloc ops o ++ (lo fo ++ xs.toList.flatMap lo), [(.t d, X)]⟩ :=
  valid_call2 hop hc hxs hen hg (fun l hl => hl) hf hx hs fun m' hm φ a w w' v hr hb hret => by
    subst hX
    refine ⟨φ, ?_⟩
    rw [hdst]
    refine (hr.grow hb).put d hd ?_
    cases hret with
    | one h => exact .d (h.mono fun b hb' => ⟨ok_new hr hb hb', rfl⟩)
    | @many vs l h1 h2 h =>
      have : retV l = .tup (l.map .d) := by
        unfold retV
        split
        · simp at h1
        · rfl
      rw [this]
      refine .tup vs _ (by simpa using h2) fun i v c hv hc => ?_
      rw [List.getElem?_map, Option.map_eq_some_iff] at hc
      obtain ⟨x, hx, rfl⟩ := hc
      exact .d ((h i v x hv hx).mono fun b hb' => ⟨ok_new hr hb hb', rfl⟩)
theorem w_call_own {α : Type} {d id k : Nat} {e : TypeId} {l : List α} (f : α → List D) {c : Call} {fo : Operand} {xs : Array Operand} {g : FuncId} {caps ds : List D} (hs : Spec P G.A g (ds ++ caps) (.own e k (l.map f))) (hop : o.op = .call c) (hc : c.callee = .value fo) (hxs : c.args = xs) (hen : ∀ args w, (callFunc g args).run P w = .ok (.enter g args) w)
    (hg : GOn ops o m) (hdst : o.dst = some d) (hd : d < G.nt) (hf : FnIs m fo g caps) (hx : xs.toList.map (evO m) = ds.map .d) (hid : m (.b id) = .nob) :
    Valid P ops G o m ⟨gloc ops o ++ (lo fo ++ xs.toList.flatMap lo) ++ [.b id], [(.b id, .row false e k (l.map f)), (.t d, .own id k l.length)]⟩ := by
  have := v_call_own (id := id) hop hc hxs hen hg hdst hd hf hx hs hid
  rwa [List.length_map] at this
theorem w_ldE1 {α : Type} [Inhabited α] {d T id k off : Nat} {fz : Bool} {e : TypeId} {i : Int} {x : Operand} {X : D} (l : List α) (f : α → List D) (hop : o.op = .load T x) (hg : GOn ops o m) (hdst : o.dst = some d) (hd : d < G.nt) (hT : OneT P T)
    (hx : evO m x = .elp id k i.toNat off) (hi : inR i l.length = true) (hb : m (.b id) = .row fz e k (l.map f)) (hX : (f (rd l i))[off]? = some X) : Valid P ops G o m ⟨gloc ops o ++ (lo x ++ [.b id]), [(.t d, .d X)]⟩ :=
  v_load_elp1 hop hg hdst hd hT hx hb (rd_at f hi) hX
theorem lset {α : Type} (id k : Nat) (l : List α) (i : Nat) (x : α) : V.own id k l.length = V.own id k (l.set i x).length := by rw [List.length_set]
theorem w_cutl {α : Type} {d T e k : Nat} {x y : Operand} {a : Int} {ik : IntKind} (l : List α) (f : α → List D) (hop : o.op = .slice T x (some y) none none) (hg : GOn ops o m) (hdst : o.dst = some d) (hd : d < G.nt) (hT : SliceT P T e k)
    (hx : evO m x = .d (.sl k (l.map f))) (hy : evO m y = .d (.s (.int ik a))) (h : cutOK a (l.length : Int) l.length = true) :
    Valid P ops G o m ⟨gloc ops o ++ (lo x ++ (lo? (some y) ++ lo? none)), [(.t d, .d (.sl k ((List.drop a.toNat l).map f)))]⟩ := by
  have := w_cut l f a l.length hop hg hdst hd hT hx (.inr ⟨y, ik, rfl, hy⟩) (.inl ⟨rfl, rfl⟩) h
  rwa [Int.toNat_natCast, List.take_length] at this
theorem w_cuth {α : Type} {d T e k : Nat} {x y : Operand} {b : Int} {ik : IntKind} (l : List α) (f : α → List D) (hop : o.op = .slice T x none (some y) none) (hg : GOn ops o m) (hdst : o.dst = some d) (hd : d < G.nt) (hT : SliceT P T e k)
    (hx : evO m x = .d (.sl k (l.map f))) (hy : evO m y = .d (.s (.int ik b))) (h : cutOK 0 b l.length = true) :
    Valid P ops G o m ⟨gloc ops o ++ (lo x ++ (lo? none ++ lo? (some y))), [(.t d, .d (.sl k ((List.take b.toNat l).map f)))]⟩ := by
  have := w_cut l f 0 b hop hg hdst hd hT hx (.inl ⟨rfl, rfl⟩) (.inr ⟨y, ik, rfl, hy⟩) h
  exact this
theorem sq_nileq {r : List Oper} {K : St → Prop} {d k : Nat} {T T' : TypeId} {x : Operand} {es : List (List D)} (hop : o.op = .binOp .eql T x (.const (.slice none 0 0)) T') (hg : GOn ops o m) (hdst : o.dst = some d) (hd : d < G.nt) {e : TypeId} (hT : P.underlying T = some (.slice e))
    (hx : evO m x = .d (.sl k es)) (h : ∀ b : Bool, (b = true → es = []) → SQ P ops G r K (updL m [(.t d, bV b)])) : SQ P ops G (o :: r) K m := by
  intro a w hR Kc Qc hk
  obtain ⟨φ, hr⟩ := hR
  have h1 := hr.ev x
  rw [hx] at h1
  have fin : ∀ b : Bool, (b = true → es = []) → (execOp a.eval o).run P w = .ok (.value (.bool b)) w → opGo P ops Qc o Kc a w := fun b hb hrun => by
    unfold opGo
    rw [if_pos (hr.wanted hg)]
    left
    unfold Oper.wp
    rw [hrun]
    refine hk _ _ _ ⟨φ, ?_⟩ (h b hb)
    rw [hdst]
    exact hr.put d hd (.d (.s _))
  have key : ∀ (ad : Option Addr) (n c : Nat), a.eval x = .slice ad n c → (execOp a.eval o).run P w = .ok (.value (.bool ad.isNone)) w := fun ad n c hv => by
    have h2 := run_equal_slice_nil (P := P) w T e ad n c hT
    have h3 : (do eqGuard .eql T x (.const (.slice none 0 0)) (.slice ad n c) (.slice none 0 0); binOp .eql T (.slice ad n c) (.slice none 0 0) : Sem Value).run P w = .ok (.bool ad.isNone) w := by
      have e1 : (eqGuard .eql T x (.const (.slice none 0 0)) (.slice ad n c) (.slice none 0 0)).run P w = .ok () w := rfl
      have e2 : binOp .eql T (.slice ad n c) (.slice none 0 0) = (do pure (.bool (← Op.equal T (.slice ad n c) (.slice none 0 0))) : Sem Value) := rfl
      rw [Sem.run_bind, e1, Result.andThen_ok, e2, Sem.run_bind, h2]; rfl
    have e3 : a.eval (.const (.slice none 0 0)) = .slice none 0 0 := rfl
    simp only [execOp, hop, hv, e3]
    rw [Sem.run_bind, h3]; rfl
  generalize hv : a.eval x = v at h1
  cases h1 with
  | d h1 =>
    cases h1 with
    | nil => exact fin true (fun _ => rfl) (key none 0 0 hv)
    | emp => exact fin false (fun h => by cases h) (key _ _ _ hv)
    | sl => exact fin false (fun h => by cases h) (key _ _ _ hv)
end
def maxI (a b : Int) : Int := if a < b then b else a
end Go.Awp
