/- How the relation between an abstract state and a frame and a world goes on: new boxes and rows, stores, a row made still, forgetting; loops; contracts. No program in sight. -/
import Derived.Test.YthhpelmjnmlgjaaGreatDoorAwpRules
set_option linter.unusedSimpArgs false
set_option linter.unusedVariables false
namespace Go.Awp
open Go.RowKit

section
variable {P : Program} {ops : Array Oper} {G : Call0}

/-- The cells of a box, one behind the other, from cell o on. -/
def cellsW (id : Nat) : Nat → List V → List (Loc × V)
  | _, [] => []
  | o, c :: r => (.c id o, c) :: cellsW id (o + 1) r

theorem cellsW_other {l : Loc} (id : Nat) : ∀ (cs : List V) (o : Nat) (m : St), (∀ j, o ≤ j → j < o + cs.length → l ≠ .c id j) → updL m (cellsW id o cs) l = m l
  | [], _, _, _ => rfl
  | c :: r, o, m, h => by
    rw [cellsW, updL, cellsW_other id r (o + 1) _ (fun j h1 h2 => h j (by omega) (by simp; omega)), upd_ne _ _ (h o (Nat.le_refl _) (by simp))]

theorem cellsW_at (id : Nat) : ∀ (cs : List V) (o : Nat) (m : St) (j : Nat) (c : V), cs[j]? = some c → updL m (cellsW id o cs) (.c id (o + j)) = c
  | [], _, _, _, _, h => by simp at h
  | c0 :: r, o, m, 0, c, h => by
    simp only [List.getElem?_cons_zero, Option.some.injEq] at h
    subst h
    rw [cellsW, updL, cellsW_other id r (o + 1) _ (fun j h1 h2 e => by cases e; omega)]
    exact upd_self _ _ _
  | c0 :: r, o, m, j + 1, c, h => by
    rw [cellsW, updL, show o + (j + 1) = o + 1 + j by omega]
    exact cellsW_at id r (o + 1) _ j c (by simpa using h)

def updPhi (φ : Phi) (id : Nat) (x : Option (Nat × Nat)) : Phi := fun i => if i = id then some x else φ i

theorem updPhi_self (φ : Phi) (id : Nat) (x : Option (Nat × Nat)) : updPhi φ id x id = some x := by simp [updPhi]
theorem updPhi_ne (φ : Phi) {id i : Nat} (x : Option (Nat × Nat)) (h : i ≠ id) : updPhi φ id x i = φ i := by simp [updPhi, h]

theorem heap_alloc_lt {w : World} {o : Obj} {b : Nat} (h : b < w.heap.size) : (w.alloc o).heap[b]? = w.heap[b]? := Below.heap_alloc w o b h
theorem heap_alloc_at (w : World) (o : Obj) : (w.alloc o).heap[w.heap.size]? = some o := by
  show (w.heap.push o)[w.heap.size]? = _
  simp
theorem size_alloc' (w : World) (o : Obj) : (w.alloc o).heap.size = w.heap.size + 1 := by
  show (w.heap.push o).size = _
  simp
theorem below_alloc1 (w : World) (o : Obj) : Below w.heap.size w (w.alloc o) := (Below.refl _ _).alloc (Nat.le_refl _) o

/-- What is known of the other blocks of the call's own goes on, where they and what they lean on is as it was. -/
theorem blk_keep {φ φ' : Phi} {m m' : St} {w w' : World} {ok ok' : Nat → Prop} {i : Nat} (hφ : φ' i = φ i) (hφx : ∀ i x, φ i = some x → φ' i = some x) (hok : ∀ b, ok b → ok' b ∧ w'.heap[b]? = w.heap[b]?)
    (hb : m' (.b i) = m (.b i)) (hc : ∀ j, m' (.c i j) = m (.c i j)) (hheap : ∀ b c, φ i = some (some (b, c)) → w'.heap[b]? = w.heap[b]?) (h : BlkOK φ ok w m i) : BlkOK φ' ok' w' m' i := by
  unfold BlkOK at h ⊢
  rw [hb]
  cases hm : m (.b i) <;> rw [hm] at h <;> first | exact h.elim | (rw [hφ]; exact h) | exact h | skip
  · obtain ⟨b, c, arr, e, h1, h2, h3, h4⟩ := h
    exact ⟨b, c, arr, e, hφx _ _ h1, by rw [hheap b c h1]; exact h2, h3, fun j v hj => by rw [hc]; exact (h4 j v hj).mono hφx hok⟩
  · rcases h with ⟨h1, h2⟩ | ⟨b, cap, arr, h1, h2, h3, h4, h5, h6⟩
    · exact .inl ⟨by rw [hφ]; exact h1, h2⟩
    · refine .inr ⟨b, cap, arr, hφx _ _ h1, by rw [hheap b cap h1]; exact h2, h3, h4, h5, fun x ds hx => ⟨(h6 x ds hx).1, fun j d hj => ?_⟩⟩
      obtain ⟨v, hv1, hv2⟩ := (h6 x ds hx).2 j d hj
      exact ⟨v, hv1, hv2.mono hok⟩
  · obtain ⟨b, c, h1, h2⟩ := h
    exact ⟨b, c, hφx _ _ h1, by rw [hheap b c h1]; exact h2⟩

theorem not_nob {m : St} {φ : Phi} {ok : Nat → Prop} {w : World} {i : Nat} (h : BlkOK φ ok w m i) {x : Option (Nat × Nat)} (hx : φ i = some x) : m (.b i) ≠ .nob := by
  intro e
  unfold BlkOK at h
  rw [e] at h
  simp [hx] at h

/-- A new block of the call's own: a box or a row, told by 'wr'. -/
theorem RR.newBlk {φ : Phi} {m m' : St} {a : Act} {w : World} (h : RR G φ m a w) (id cap : Nat) (hid : m (.b id) = .nob) (ob : Obj)
    (ht : ∀ t, m' (.t t) = m (.t t)) (hb : ∀ i, i ≠ id → m' (.b i) = m (.b i)) (hc : ∀ i j, i ≠ id → m' (.c i j) = m (.c i j))
    (hnew : ∀ ok', (∀ b, okOf G φ m w b → ok' b ∧ (w.alloc ob).heap[b]? = w.heap[b]?) → BlkOK (updPhi φ id (some (w.heap.size, cap))) ok' (w.alloc ob) m' id) :
    RR G (updPhi φ id (some (w.heap.size, cap))) m' a (w.alloc ob) := by
  have hφid : φ id = none := by have := h.blk id; unfold BlkOK at this; rw [hid] at this; exact this
  have hφx : ∀ i x, φ i = some x → updPhi φ id (some (w.heap.size, cap)) i = some x := fun i x hi => by
    rw [updPhi_ne _ _ (fun e => by subst e; rw [hφid] at hi; cases hi)]; exact hi
  have hok : ∀ b, okOf G φ m w b → okOf G (updPhi φ id (some (w.heap.size, cap))) m' (w.alloc ob) b ∧ (w.alloc ob).heap[b]? = w.heap[b]? := by
    rintro b ⟨h1, h2, h3⟩
    refine ⟨⟨h1, by rw [size_alloc']; omega, fun i c hi => ?_⟩, heap_alloc_lt h2⟩
    by_cases ei : i = id
    · subst ei
      rw [updPhi_self] at hi
      simp only [Option.some.injEq, Prod.mk.injEq] at hi
      omega
    · rw [updPhi_ne _ _ ei] at hi
      rw [hb i ei]; exact h3 i c hi
  refine ⟨h.below.trans ((below_alloc1 w _).mono h.below.size), h.nodef, h.size, fun t => by rw [ht]; exact (h.slots t).mono hφx hok, fun i b c hi => ?_, fun i j b c c' hi hj hl hij => ?_, fun i => ?_⟩
  · by_cases ei : i = id
    · subst ei
      rw [updPhi_self] at hi
      simp only [Option.some.injEq, Prod.mk.injEq] at hi
      obtain ⟨rfl, _⟩ := hi
      exact ⟨h.below.size, by rw [size_alloc']; omega⟩
    · rw [updPhi_ne _ _ ei] at hi
      have := h.lt i b c hi
      exact ⟨this.1, by rw [size_alloc']; omega⟩
  · by_cases ei : i = id
    · subst ei
      rw [updPhi_self] at hi
      simp only [Option.some.injEq, Prod.mk.injEq] at hi
      obtain ⟨rfl, _⟩ := hi
      rw [updPhi_ne _ _ (Ne.symm hij)] at hj
      have := (h.lt j _ _ hj).2
      omega
    · rw [updPhi_ne _ _ ei] at hi
      by_cases ej : j = id
      · subst ej
        rw [updPhi_self] at hj
        simp only [Option.some.injEq, Prod.mk.injEq] at hj
        have := (h.lt i b c hi).2
        omega
      · rw [updPhi_ne _ _ ej] at hj
        rw [hb i ei] at hl
        rw [hb j ej]; exact h.inj i j b c c' hi hj hl hij
  · by_cases ei : i = id
    · subst ei
      exact hnew _ hok
    · exact blk_keep (updPhi_ne _ _ ei) hφx hok (hb i ei) (fun j => hc i j ei) (fun b c hi => heap_alloc_lt (h.lt i b c hi).2) (h.blk i)

theorem heap_setCell_ne {w : World} {p : Addr} {u : Value} {b : Nat} (h : b ≠ p.block) : (w.setCell p u).heap[b]? = w.heap[b]? := Below.heap_setCell w p u b h
theorem heap_setCell_at {w : World} {b o : Nat} {u : Value} {arr : Array Value} {e : TypeId} {fr : Nat × Nat} (h : w.heap[b]? = some (.cells arr e fr)) :
    (w.setCell ⟨b, o, none⟩ u).heap[b]? = some (.cells (arr.setIfInBounds o u) e fr) := by
  simp [World.setCell, Array.getElem?_modify, h]
theorem size_setCell' (w : World) (p : Addr) (u : Value) : (w.setCell p u).heap.size = w.heap.size := by simp [World.setCell]

theorem below_setCell {G : Call0} {w : World} (h : Below G.w0.heap.size G.w0 w) {p : Addr} (hp : G.w0.heap.size ≤ p.block) (u : Value) : Below G.w0.heap.size G.w0 (w.setCell p u) := h.setCell hp u

/-- The world turns in one block of the call's own alone, which is live: what is told of all else stands. -/
theorem RR.turn {φ : Phi} {m m' : St} {a : Act} {w w' : World} (h : RR G φ m a w) (id b c : Nat) (hφ : φ id = some (some (b, c))) (hl : (m (.b id)).live = true)
    (ht : ∀ t, m' (.t t) = m (.t t)) (hb : ∀ i, i ≠ id → m' (.b i) = m (.b i)) (hc : ∀ i j, i ≠ id → m' (.c i j) = m (.c i j))
    (hbel : Below G.w0.heap.size G.w0 w') (hsz : w'.heap.size = w.heap.size) (hne : ∀ b', b' ≠ b → w'.heap[b']? = w.heap[b']?)
    (hnew : ∀ ok', (∀ b, okOf G φ m w b → ok' b ∧ w'.heap[b]? = w.heap[b]?) → BlkOK φ ok' w' m' id) : RR G φ m' a w' := by
  have hok : ∀ b', okOf G φ m w b' → okOf G φ m' w' b' ∧ w'.heap[b']? = w.heap[b']? := by
    rintro b' ⟨h1, h2, h3⟩
    have hbb : b' ≠ b := fun e => by subst e; rw [h3 id c hφ] at hl; cases hl
    refine ⟨⟨h1, by rw [hsz]; exact h2, fun i c' hi => ?_⟩, hne b' hbb⟩
    by_cases ei : i = id
    · subst ei
      rw [hφ] at hi
      simp only [Option.some.injEq, Prod.mk.injEq] at hi
      exact absurd hi.1.symm hbb
    · rw [hb i ei]; exact h3 i c' hi
  refine ⟨hbel, h.nodef, h.size, fun t => by rw [ht]; exact (h.slots t).mono (fun _ _ h => h) hok, fun i b c hi => ⟨(h.lt i b c hi).1, by rw [hsz]; exact (h.lt i b c hi).2⟩, fun i j b' c1 c2 hi hj hli hij => ?_, fun i => ?_⟩
  · by_cases ej : j = id
    · subst ej
      have hli' : (m (.b i)).live = true := by rw [← hb i hij]; exact hli
      have := h.inj i j b' c1 c2 hi hj hli' hij
      rw [this] at hl; cases hl
    · rw [hb j ej]
      by_cases ei : i = id
      · subst ei
        exact h.inj i j b' c1 c2 hi hj hl hij
      · rw [hb i ei] at hli
        exact h.inj i j b' c1 c2 hi hj hli hij
  · by_cases ei : i = id
    · subst ei; exact hnew _ hok
    · by_cases hsp : m (.b i) = .spent
      · have : m' (.b i) = .spent := by rw [hb i ei]; exact hsp
        unfold BlkOK; rw [this]; trivial
      · refine blk_keep rfl (fun _ _ h => h) hok (hb i ei) (fun j => hc i j ei) (fun b' c' hi => ?_) (h.blk i)
        refine hne b' (fun e => ?_)
        subst e
        exact hsp (h.inj id i b' c c' hφ hi hl (Ne.symm ei))

/-- Something is forgotten, or made still: the temporaries and the cells tell the same or nothing, the blocks are the same, or still, or spent. -/
def V.weaker (x y : V) : Prop := y = x ∨ y = .top
def blkWeaker (x y : V) : Prop := y = x ∨ (∃ n, x = .box false n ∧ y = .box true n) ∨ (∃ e k es, x = .row false e k es ∧ y = .row true e k es) ∨ (y = .spent ∧ x ≠ .nob)

theorem RR.weaken {φ : Phi} {m m' : St} {a : Act} {w : World} (h : RR G φ m a w) (ht : ∀ t, V.weaker (m (.t t)) (m' (.t t))) (hc : ∀ i j, V.weaker (m (.c i j)) (m' (.c i j))) (hb : ∀ i, blkWeaker (m (.b i)) (m' (.b i))) : RR G φ m' a w := by
  have hlive : ∀ i, (m (.b i)).live = false → (m' (.b i)).live = false := fun i hi => by
    rcases hb i with e | ⟨n, e1, e2⟩ | ⟨e, k, es, e1, e2⟩ | ⟨e, _⟩
    · rw [e]; exact hi
    · rw [e2]; rfl
    · rw [e2]; rfl
    · rw [e]; rfl
  have hok : ∀ b, okOf G φ m w b → okOf G φ m' w b ∧ w.heap[b]? = w.heap[b]? := fun b ⟨h1, h2, h3⟩ => ⟨⟨h1, h2, fun i c hi => hlive i (h3 i c hi)⟩, rfl⟩
  have hv : ∀ {v : Value} {x y : V}, RepV φ (okOf G φ m w) w v x → V.weaker x y → RepV φ (okOf G φ m' w) w v y := fun {v x y} hr hw => by
    rcases hw with e | e
    · rw [e]; exact hr.mono (fun _ _ h => h) hok
    · rw [e]; exact .top v
  refine ⟨h.below, h.nodef, h.size, fun t => hv (h.slots t) (ht t), h.lt, fun i j b c c' hi hj hl hij => ?_, fun i => ?_⟩
  · have hli : (m (.b i)).live = true := by
      cases hq : (m (.b i)).live with
      | true => rfl
      | false => rw [hlive i hq] at hl; cases hl
    have := h.inj i j b c c' hi hj hli hij
    rcases hb j with e | ⟨n, e1, e2⟩ | ⟨e, k, es, e1, e2⟩ | ⟨e, _⟩
    · rw [e]; exact this
    · rw [this] at e1; cases e1
    · rw [this] at e1; cases e1
    · exact e
  · have hi := h.blk i
    unfold BlkOK at hi ⊢
    rcases hb i with e | ⟨n, e1, e2⟩ | ⟨e, k, es, e1, e2⟩ | ⟨e, _⟩
    · rw [e]
      cases hm : m (.b i) <;> rw [hm] at hi <;> first | exact hi.elim | exact hi | skip
      · obtain ⟨b, c, arr, e', h1, h2, h3, h4⟩ := hi
        exact ⟨b, c, arr, e', h1, h2, h3, fun j v hj => hv (h4 j v hj) (hc i j)⟩
      · rcases hi with hi | ⟨b, cap, arr, h1, h2, h3, h4, h5, h6⟩
        · exact .inl hi
        · refine .inr ⟨b, cap, arr, h1, h2, h3, h4, h5, fun x ds hx => ⟨(h6 x ds hx).1, fun j d hj => ?_⟩⟩
          obtain ⟨v, hv1, hv2⟩ := (h6 x ds hx).2 j d hj
          exact ⟨v, hv1, hv2.mono hok⟩
    · rw [e1] at hi
      rw [e2]
      obtain ⟨b, c, arr, e', h1, h2, h3, h4⟩ := hi
      exact ⟨b, c, arr, e', h1, h2, h3, fun j v hj => hv (h4 j v hj) (hc i j)⟩
    · rw [e1] at hi
      rw [e2]
      rcases hi with hi | ⟨b, cap, arr, h1, h2, h3, h4, h5, h6⟩
      · exact .inl hi
      · refine .inr ⟨b, cap, arr, h1, h2, h3, h4, h5, fun x ds hx => ⟨(h6 x ds hx).1, fun j d hj => ?_⟩⟩
        obtain ⟨v, hv1, hv2⟩ := (h6 x ds hx).2 j d hj
        exact ⟨v, hv1, hv2.mono hok⟩
    · rw [e]; trivial

/-! ### What is forgotten altogether -/
inductive Named (keep : Nat → Prop) : V → Prop
  | d (x : D) : Named keep (.d x)
  | top : Named keep .top
  | agg (cs : List V) (h : ∀ (i : Nat) (c : V), cs[i]? = some c → Named keep c) : Named keep (.agg cs)
  | own (id k n : Nat) (h : keep id) : Named keep (.own id k n)
  | ptr (id off : Nat) (h : keep id) : Named keep (.ptr id off)
  | elp (id k i off : Nat) (h : keep id) : Named keep (.elp id k i off)
  | tup (cs : List V) (h : ∀ (i : Nat) (c : V), cs[i]? = some c → Named keep c) : Named keep (.tup cs)
  | fn (g : FuncId) (cs : List V) (h : ∀ (i : Nat) (c : V), cs[i]? = some c → Named keep c) : Named keep (.fn g cs)

theorem RepV.forget {φ φ' : Phi} {ok ok' : Nat → Prop} {w : World} {keep : Nat → Prop} (hφ : ∀ i, keep i → φ' i = φ i) (hok : ∀ b, ok b → ok' b) {v : Value} {x : V} (hr : RepV φ ok w v x) (hn : Named keep x) : RepV φ' ok' w v x := by
  induction hr with
  | d hd => exact .d (hd.mono fun b hb => ⟨hok b hb, rfl⟩)
  | top v => exact .top v
  | agg vs cs hl _ ih => cases hn with | agg _ h => exact .agg vs cs hl fun i v c hv hc => ih i v c hv hc (h i c hc)
  | nil id k hi => cases hn with | own _ _ _ h => exact .nil id k (by rw [hφ _ h]; exact hi)
  | own id k n b cap hi hn' => cases hn with | own _ _ _ h => exact .own id k n b cap (by rw [hφ _ h]; exact hi) hn'
  | ptr id off b cap hi => cases hn with | ptr _ _ h => exact .ptr id off b cap (by rw [hφ _ h]; exact hi)
  | elp id k i off b cap hi => cases hn with | elp _ _ _ _ h => exact .elp id k i off b cap (by rw [hφ _ h]; exact hi)
  | tup vs cs hl _ ih => cases hn with | tup _ h => exact .tup vs cs hl fun i v c hv hc => ih i v c hv hc (h i c hc)
  | fn g vs cs hl _ ih => cases hn with | fn _ _ h => exact .fn g vs cs hl fun i v c hv hc => ih i v c hv hc (h i c hc)

/-- The blocks that are not kept go; nothing that is told names them. -/
theorem RR.forget {φ : Phi} {m m' : St} {a : Act} {w : World} (h : RR G φ m a w) (keep : Nat → Prop) [DecidablePred keep] (ht : ∀ t, V.weaker (m (.t t)) (m' (.t t)) ∧ Named keep (m' (.t t)))
    (hc : ∀ i j, keep i → V.weaker (m (.c i j)) (m' (.c i j)) ∧ Named keep (m' (.c i j))) (hb : ∀ i, keep i → m' (.b i) = m (.b i)) (hb' : ∀ i, ¬ keep i → m' (.b i) = .nob) :
    RR G (fun i => if keep i then φ i else none) m' a w := by
  have hφ : ∀ i, keep i → (fun i => if keep i then φ i else none) i = φ i := fun i hi => by simp [hi]
  have hφ' : ∀ i x, (if keep i then φ i else none) = some x → keep i ∧ φ i = some x := fun i x hi => by
    by_cases hk : keep i
    · rw [if_pos hk] at hi; exact ⟨hk, hi⟩
    · rw [if_neg hk] at hi; cases hi
  have hok : ∀ b, okOf G φ m w b → okOf G (fun i => if keep i then φ i else none) m' w b := fun b ⟨h1, h2, h3⟩ => ⟨h1, h2, fun i c hi => by
    obtain ⟨hk, hi⟩ := hφ' i _ hi
    rw [hb i hk]; exact h3 i c hi⟩
  have hv : ∀ {v : Value} {x y : V}, RepV φ (okOf G φ m w) w v x → V.weaker x y ∧ Named keep y → RepV (fun i => if keep i then φ i else none) (okOf G (fun i => if keep i then φ i else none) m' w) w v y := fun {v x y} hr hw => by
    rcases hw with ⟨e | e, hn⟩
    · subst e; exact hr.forget hφ hok hn
    · rw [e]; exact .top v
  refine ⟨h.below, h.nodef, h.size, fun t => hv (h.slots t) (ht t), fun i b c hi => h.lt i b c (hφ' i _ hi).2, fun i j b c c' hi hj hl hij => ?_, fun i => ?_⟩
  · obtain ⟨ki, hi⟩ := hφ' i _ hi
    obtain ⟨kj, hj⟩ := hφ' j _ hj
    rw [hb i ki] at hl
    rw [hb j kj]
    exact h.inj i j b c c' hi hj hl hij
  · by_cases hk : keep i
    · have hi := h.blk i
      unfold BlkOK at hi ⊢
      rw [hb i hk]
      cases hm : m (.b i) <;> rw [hm] at hi <;> first | exact hi.elim | skip
      · simp only [if_pos hk]; exact hi
      · obtain ⟨b, c, arr, e', h1, h2, h3, h4⟩ := hi
        exact ⟨b, c, arr, e', by simp only [if_pos hk]; exact h1, h2, h3, fun j v hj => hv (h4 j v hj) (hc i j hk)⟩
      · rcases hi with ⟨h1, h2⟩ | ⟨b, cap, arr, h1, h2, h3, h4, h5, h6⟩
        · exact .inl ⟨by simp only [if_pos hk]; exact h1, h2⟩
        · refine .inr ⟨b, cap, arr, by simp only [if_pos hk]; exact h1, h2, h3, h4, h5, fun x ds hx => ⟨(h6 x ds hx).1, fun j d hj => ?_⟩⟩
          obtain ⟨v, hv1, hv2⟩ := (h6 x ds hx).2 j d hj
          exact ⟨v, hv1, hv2.mono fun b hb => ⟨hok b hb, rfl⟩⟩
      · trivial
      · obtain ⟨b, c, h1, h2⟩ := hi
        exact ⟨b, c, by simp only [if_pos hk]; exact h1, h2⟩
    · unfold BlkOK
      rw [hb' i hk]
      simp [hk]

/-- One state tells no more than another. -/
def Wk (G : Call0) (m m' : St) : Prop := ∀ a w, R G m a w → R G m' a w

theorem Wk.refl (m : St) : Wk G m m := fun _ _ h => h
theorem Wk.trans {m m' m'' : St} (h : Wk G m m') (k : Wk G m' m'') : Wk G m m'' := fun a w hr => k a w (h a w hr)

theorem ht_weak {c : Code} {Q : Exit → St → Prop} {m m' : St} (hw : Wk G m m') (h : HT P G c Q m') : HT P G c Q m := fun a w hr => h a w (hw a w hr)

/-- A state that tells the listed places alone. -/
def bot : St
  | .b _ => .nob
  | _ => .top

theorem ht_loop {X : Type} {c : Code} {Q : Exit → St → Prop} {m : St} (hd : X → St) (μ : X → Nat) (x0 : X) (h0 : Wk G m (hd x0))
    (hr : ∀ x, HT P G c (thenQ (fun m2 => ∃ x', Wk G m2 (hd x') ∧ μ x' < μ x) Q) (hd x)) : HT P G (.loop c) Q m := by
  intro a w hR
  have hleast : ∀ (p : Nat → Prop), (∃ n, p n) → ∃ n, p n ∧ ∀ k, p k → n ≤ k := by
    intro p ⟨n, hn⟩
    induction n using Nat.strongRecOn with
    | _ n ih =>
      by_cases hk : ∃ k, p k ∧ k < n
      · obtain ⟨k, hk1, hk2⟩ := hk; exact ih k hk2 hk1
      · exact ⟨n, hn, fun k hpk => Nat.le_of_not_lt fun hlt => hk ⟨k, hpk, hlt⟩⟩
  refine wp_loop (fun a w => ∃ x, R G (hd x) a w) (fun a w => by
    classical
    exact if h : ∃ n, ∃ x, R G (hd x) a w ∧ μ x = n then (hleast _ h).choose else 0) ⟨x0, h0 a w hR⟩ ?_
  intro a1 w1 hI
  classical
  have hI' : ∃ n, ∃ x, R G (hd x) a1 w1 ∧ μ x = n := by obtain ⟨x, hx⟩ := hI; exact ⟨_, x, hx, rfl⟩
  obtain ⟨⟨x, hx, hxμ⟩, hmin⟩ := (hleast _ hI').choose_spec
  refine wp_mono (hr x a1 w1 hx) ?_
  rintro e a' w' ⟨m', h1, h2⟩
  cases e with
  | normal =>
    obtain ⟨x', hw, hlt⟩ := h2
    have hx' := hw a' w' h1
    refine ⟨⟨x', hx'⟩, ?_⟩
    have hJ : ∃ n, ∃ x, R G (hd x) a' w' ∧ μ x = n := ⟨_, x', hx', rfl⟩
    have h3 := (hleast _ hJ).choose_spec.2 (μ x') ⟨x', hx', rfl⟩
    rw [dif_pos hJ, dif_pos hI']
    omega
  | _ => exact ⟨m', h1, h2⟩
end
end Go.Awp
