/- The core of a walk over values: abstract values, the relation between an abstract state and a frame and a world, and how it is kept. No program in sight. -/
import Derived.Orders
import Derived.Below
set_option linter.unusedSimpArgs false
set_option linter.unusedVariables false
namespace Go.Awp
open Go.RowKit

/-- Data that nobody will turn any more: a plain value; a record (its cells); a slice (k cells an element); a pointer to cells; a function with what it captured. -/
inductive D where
  | s (v : Value)
  | agg (cs : List D)
  | sl (k : Nat) (es : List (List D))
  | dp (cs : List D)
  | fn (g : FuncId) (caps : List D)

/-- What a temporary holds, and what a block of the call's own is. -/
inductive V where
  | d (x : D)
  | agg (cs : List V)
  | own (id k n : Nat)
  | ptr (id off : Nat)
  | elp (id k i off : Nat)
  | tup (vs : List V)
  | fn (g : FuncId) (caps : List V)
  | top
  | nob
  | box (fz : Bool) (n : Nat)
  | row (fz : Bool) (e : TypeId) (k : Nat) (es : List (List D))
  | spent
  | iter (s : ByteArray) (pos : Nat)

inductive Loc where
  | t (n : Nat)
  | c (i o : Nat)
  | b (i : Nat)
  deriving DecidableEq

abbrev St := Loc → V

def Loc.same : Loc → Loc → Bool
  | .t x, .t y => Nat.beq x y
  | .c x i, .c y j => Nat.beq x y && Nat.beq i j
  | .b x, .b y => Nat.beq x y
  | _, _ => false

theorem Loc.same_iff (x y : Loc) : Loc.same x y = true ↔ x = y := by
  cases x <;> cases y <;> simp [Loc.same]

def upd (m : St) (l : Loc) (v : V) : St := fun x => bif Loc.same x l then v else m x
def updL (m : St) : List (Loc × V) → St
  | [] => m
  | p :: r => updL (upd m p.1 p.2) r

def V.live : V → Bool
  | .box false _ => true
  | .row false _ _ _ => true
  | .iter _ _ => true
  | _ => false

def maxCap : Nat := 9223372036854775807

inductive RepD (ok : Nat → Prop) (w : World) : Value → D → Prop
  | s (v : Value) : RepD ok w v (.s v)
  | agg (vs : Array Value) (cs : List D) (h : vs.size = cs.length) (hc : ∀ (i : Nat) (v : Value) (c : D), vs[i]? = some v → cs[i]? = some c → RepD ok w v c) : RepD ok w (.agg vs) (.agg cs)
  | nil (k : Nat) : RepD ok w (.slice none 0 0) (.sl k [])
  | emp (a : Addr) (cap k : Nat) (hmax : cap ≤ maxCap) : RepD ok w (.slice (some a) 0 cap) (.sl k [])
  | sl (b off cap k : Nat) (es : List (List D)) (vs : Nat → Nat → Value) (hcap : es.length ≤ cap) (hmax : cap ≤ maxCap) (hb : ok b) (hk : ∀ (i : Nat) (e : List D), es[i]? = some e → e.length = k)
      (hv : ∀ (i : Nat) (e : List D) (j : Nat) (c : D), es[i]? = some e → e[j]? = some c → w.cell? ⟨b, off + i * k + j, none⟩ = some (vs i j)) (hc : ∀ (i : Nat) (e : List D) (j : Nat) (c : D), es[i]? = some e → e[j]? = some c → RepD ok w (vs i j) c) :
      RepD ok w (.slice (some ⟨b, off, none⟩) es.length cap) (.sl k es)
  | dp (b off : Nat) (cs : List D) (vs : Nat → Value) (hb : ok b) (hv : ∀ (j : Nat) (c : D), cs[j]? = some c → w.cell? ⟨b, off + j, none⟩ = some (vs j)) (hc : ∀ (j : Nat) (c : D), cs[j]? = some c → RepD ok w (vs j) c) :
      RepD ok w (.pointer (some ⟨b, off, none⟩)) (.dp cs)
  | fn (g : FuncId) (vs : Array Value) (cs : List D) (h : vs.size = cs.length) (hc : ∀ (i : Nat) (v : Value) (c : D), vs[i]? = some v → cs[i]? = some c → RepD ok w v c) : RepD ok w (.func (.func g) #[] vs) (.fn g cs)

theorem RepD.mono {ok ok' : Nat → Prop} {w w' : World} (h : ∀ b, ok b → ok' b ∧ w'.heap[b]? = w.heap[b]?) {v : Value} {x : D} (hr : RepD ok w v x) : RepD ok' w' v x := by
  induction hr with
  | s v => exact .s v
  | agg vs cs hl _ ih => exact .agg vs cs hl ih
  | nil k => exact .nil k
  | emp a cap k hmax => exact .emp a cap k hmax
  | sl b off cap k es vs hcap hmax hb hk hv _ ih =>
    exact .sl b off cap k es vs hcap hmax (h b hb).1 hk (fun i e j c hi hj => (World.cell?_of_block (w := w) (h b hb).2).trans (hv i e j c hi hj)) ih
  | dp b off cs vs hb hv _ ih => exact .dp b off cs vs (h b hb).1 (fun j c hj => (World.cell?_of_block (w := w) (h b hb).2).trans (hv j c hj)) ih
  | fn g vs cs hl _ ih => exact .fn g vs cs hl ih

/-- Where a block of the call's own lies, and its capacity; 'some none': a nil row. -/
abbrev Phi := Nat → Option (Option (Nat × Nat))

inductive RepV (φ : Phi) (ok : Nat → Prop) (w : World) : Value → V → Prop
  | d {v : Value} {x : D} (h : RepD ok w v x) : RepV φ ok w v (.d x)
  | top (v : Value) : RepV φ ok w v .top
  | agg (vs : Array Value) (cs : List V) (h : vs.size = cs.length) (hc : ∀ (i : Nat) (v : Value) (c : V), vs[i]? = some v → cs[i]? = some c → RepV φ ok w v c) : RepV φ ok w (.agg vs) (.agg cs)
  | nil (id k : Nat) (h : φ id = some none) : RepV φ ok w (.slice none 0 0) (.own id k 0)
  | own (id k n b cap : Nat) (h : φ id = some (some (b, cap))) (hn : n ≤ cap) :
      RepV φ ok w (.slice (some ⟨b, 0, none⟩) n cap) (.own id k n)
  | ptr (id off b cap : Nat) (h : φ id = some (some (b, cap))) : RepV φ ok w (.pointer (some ⟨b, off, none⟩)) (.ptr id off)
  | elp (id k i off b cap : Nat) (h : φ id = some (some (b, cap))) : RepV φ ok w (.pointer (some ⟨b, i * k + off, none⟩)) (.elp id k i off)
  | tup (vs : Array Value) (cs : List V) (h : vs.size = cs.length) (hc : ∀ (i : Nat) (v : Value) (c : V), vs[i]? = some v → cs[i]? = some c → RepV φ ok w v c) : RepV φ ok w (.tuple vs) (.tup cs)
  | fn (g : FuncId) (vs : Array Value) (cs : List V) (h : vs.size = cs.length) (hc : ∀ (i : Nat) (v : Value) (c : V), vs[i]? = some v → cs[i]? = some c → RepV φ ok w v c) : RepV φ ok w (.func (.func g) #[] vs) (.fn g cs)

theorem RepV.mono {φ φ' : Phi} {ok ok' : Nat → Prop} {w w' : World} (hφ : ∀ i x, φ i = some x → φ' i = some x) (h : ∀ b, ok b → ok' b ∧ w'.heap[b]? = w.heap[b]?) {v : Value} {x : V} (hr : RepV φ ok w v x) : RepV φ' ok' w' v x := by
  induction hr with
  | d hd => exact .d (hd.mono h)
  | top v => exact .top v
  | agg vs cs hl _ ih => exact .agg vs cs hl ih
  | nil id k hi => exact .nil id k (hφ _ _ hi)
  | own id k n b cap hi hn => exact .own id k n b cap (hφ _ _ hi) hn
  | ptr id off b cap hi => exact .ptr id off b cap (hφ _ _ hi)
  | elp id k i off b cap hi => exact .elp id k i off b cap (hφ _ _ hi)
  | tup vs cs hl _ ih => exact .tup vs cs hl ih
  | fn g vs cs hl _ ih => exact .fn g vs cs hl ih

/-- What is known of the world from the start on. -/
structure Amb where
  p : World → Prop
  keep : ∀ w w', p w → Below w.heap.size w w' → p w'

/-- What a call is over: the world that it began in, the blocks of old that it may lean on, how many temporaries it has. -/
structure Call0 where
  w0 : World
  ok0 : Nat → Prop
  nt : Nat
  lt0 : ∀ b, ok0 b → b < w0.heap.size
  A : Amb
  hA : A.p w0

def okOf (G : Call0) (φ : Phi) (m : St) (w : World) (b : Nat) : Prop :=
  (G.ok0 b ∨ G.w0.heap.size ≤ b) ∧ b < w.heap.size ∧ ∀ i c, φ i = some (some (b, c)) → (m (.b i)).live = false

def BoxOK (φ : Phi) (ok : Nat → Prop) (w : World) (m : St) (i n : Nat) : Prop :=
  ∃ b c arr e, φ i = some (some (b, c)) ∧ w.heap[b]? = some (.cells arr e (0, 0)) ∧ arr.size = n ∧ ∀ (j : Nat) (v : Value), arr[j]? = some v → RepV φ ok w v (m (.c i j))

def RowIn (ok : Nat → Prop) (w : World) (arr : Array Value) (k : Nat) (es : List (List D)) : Prop :=
  ∀ (x : Nat) (ds : List D), es[x]? = some ds → ds.length = k ∧ ∀ (j : Nat) (d : D), ds[j]? = some d → ∃ v, arr[x * k + j]? = some v ∧ RepD ok w v d

def RowOK (φ : Phi) (ok : Nat → Prop) (w : World) (i : Nat) (e : TypeId) (k : Nat) (es : List (List D)) : Prop :=
  (φ i = some none ∧ es = []) ∨ ∃ b cap arr, φ i = some (some (b, cap)) ∧ w.heap[b]? = some (.cells arr e (0, 0)) ∧ arr.size = cap * k ∧ es.length ≤ cap ∧ cap ≤ maxCap ∧ RowIn ok w arr k es

def BlkOK (φ : Phi) (ok : Nat → Prop) (w : World) (m : St) (i : Nat) : Prop :=
  match m (.b i) with
  | .nob => φ i = none
  | .box _ n => BoxOK φ ok w m i n
  | .row _ e k es => RowOK φ ok w i e k es
  | .spent => True
  | .iter s pos => ∃ b c, φ i = some (some (b, c)) ∧ w.heap[b]? = some (.stringIter s pos)
  | _ => False

structure RR (G : Call0) (φ : Phi) (m : St) (a : Act) (w : World) : Prop where
  below : Below G.w0.heap.size G.w0 w
  nodef : a.defers = []
  size : a.tmps.size = G.nt
  slots : ∀ t, RepV φ (okOf G φ m w) w (a.tmps.getD t undef) (m (.t t))
  lt : ∀ i b c, φ i = some (some (b, c)) → G.w0.heap.size ≤ b ∧ b < w.heap.size
  inj : ∀ i j b c c', φ i = some (some (b, c)) → φ j = some (some (b, c')) → (m (.b i)).live = true → i ≠ j → m (.b j) = .spent
  blk : ∀ i, BlkOK φ (okOf G φ m w) w m i

def R (G : Call0) (m : St) (a : Act) (w : World) : Prop := ∃ φ, RR G φ m a w

theorem upd_self (m : St) (l : Loc) (v : V) : upd m l v l = v := by simp [upd, (Loc.same_iff l l).2 rfl]
theorem upd_ne (m : St) {l l' : Loc} (v : V) (h : l' ≠ l) : upd m l v l' = m l' := by
  have : Loc.same l' l = false := by
    cases hq : Loc.same l' l with
    | false => rfl
    | true => exact absurd ((Loc.same_iff _ _).1 hq) h
  simp [upd, this]

/-- The world turns in a way that leaves all that is told alone: new blocks, draws. -/
theorem RR.grow {G : Call0} {φ : Phi} {m : St} {a : Act} {w w' : World} (h : RR G φ m a w) (hb : Below w.heap.size w w') : RR G φ m a w' := by
  have hok : ∀ b, okOf G φ m w b → okOf G φ m w' b ∧ w'.heap[b]? = w.heap[b]? := fun b ⟨h1, h2, h3⟩ => ⟨⟨h1, Nat.lt_of_lt_of_le h2 hb.size, h3⟩, hb.block b h2⟩
  have hv : ∀ {v x}, RepV φ (okOf G φ m w) w v x → RepV φ (okOf G φ m w') w' v x := fun hr => hr.mono (fun _ _ h => h) hok
  refine ⟨h.below.trans (hb.mono h.below.size), h.nodef, h.size, fun t => hv (h.slots t), fun i b c hi => ⟨(h.lt i b c hi).1, Nat.lt_of_lt_of_le (h.lt i b c hi).2 hb.size⟩, h.inj, fun i => ?_⟩
  have hi := h.blk i
  unfold BlkOK at hi ⊢
  cases hm : m (.b i) <;> rw [hm] at hi <;> first | exact hi.elim | exact hi | skip
  · obtain ⟨b, c, arr, e, h1, h2, h3, h4⟩ := hi
    exact ⟨b, c, arr, e, h1, by rw [hb.block b (h.lt i b c h1).2]; exact h2, h3, fun j v hj => hv (h4 j v hj)⟩
  · rcases hi with hi | ⟨b, cap, arr, h1, h2, h3, h4, h5, h6⟩
    · exact .inl hi
    · refine .inr ⟨b, cap, arr, h1, by rw [hb.block b (h.lt i b cap h1).2]; exact h2, h3, h4, h5, fun x ds hx => ⟨(h6 x ds hx).1, fun j d hj => ?_⟩⟩
      obtain ⟨v, hv1, hv2⟩ := (h6 x ds hx).2 j d hj
      exact ⟨v, hv1, hv2.mono hok⟩
  · obtain ⟨b, c, h1, h2⟩ := hi
    exact ⟨b, c, h1, by rw [hb.block b (h.lt i b c h1).2]; exact h2⟩

theorem below_drawn {w : World} (n : Nat) : Below w.heap.size w { w with drawn := n } := ⟨rfl, rfl, rfl, Nat.le_refl _, fun _ _ => rfl⟩

/-- A temporary takes a value. -/
theorem RR.put {G : Call0} {φ : Phi} {m : St} {a : Act} {w : World} (h : RR G φ m a w) (d : Nat) {v : Value} {x : V} (hd : d < G.nt) (hx : RepV φ (okOf G φ m w) w v x) : RR G φ (upd m (.t d) x) (a.put (some d) v) w := by
  have hb : ∀ i, upd m (.t d) x (.b i) = m (.b i) := fun i => upd_ne _ _ (by simp)
  have hc : ∀ i j, upd m (.t d) x (.c i j) = m (.c i j) := fun i j => upd_ne _ _ (by simp)
  have hok : okOf G φ (upd m (.t d) x) w = okOf G φ m w := by funext b; simp [okOf, hb]
  refine ⟨h.below, h.nodef, by simp [Act.put, h.size], fun t => ?_, h.lt, fun i j b c c' h1 h2 h3 h4 => by rw [hb] at h3 ⊢; exact h.inj i j b c c' h1 h2 h3 h4, fun i => ?_⟩
  · rw [hok]
    by_cases e : t = d
    · subst e
      rw [upd_self]
      have : (a.put (some t) v).tmps.getD t undef = v := by simp [Act.put, Array.getD_eq_getD_getElem?, Array.getElem?_setIfInBounds, h.size, hd]
      rw [this]; exact hx
    · rw [upd_ne _ _ (by simpa using e)]
      have : (a.put (some d) v).tmps.getD t undef = a.tmps.getD t undef := by
        simp [Act.put, Array.getD_eq_getD_getElem?, Array.getElem?_setIfInBounds, Ne.symm e]
      rw [this]; exact h.slots t
  · have := h.blk i
    unfold BlkOK BoxOK at this ⊢
    simp only [hb, hc, hok]
    exact this

end Go.Awp
