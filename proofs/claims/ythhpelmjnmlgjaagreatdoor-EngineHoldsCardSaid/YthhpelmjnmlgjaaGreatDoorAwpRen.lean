/- A state told by a list, its blocks under other numbers. No program in sight. -/
import Derived.Test.YthhpelmjnmlgjaaGreatDoorAwpQ2
set_option linter.unusedSimpArgs false
set_option linter.unusedVariables false
namespace Go.Awp
open Go.RowKit

mutual
def idsV : V → List Nat
  | .agg cs => idsL cs
  | .own i _ _ => [i]
  | .ptr i _ => [i]
  | .elp i _ _ _ => [i]
  | .tup cs => idsL cs
  | .fn _ cs => idsL cs
  | _ => []
def idsL : List V → List Nat
  | [] => []
  | v :: r => idsV v ++ idsL r
end

mutual
def renV (σ : Nat → Nat) : V → V
  | .agg cs => .agg (renL σ cs)
  | .own i k n => .own (σ i) k n
  | .ptr i o => .ptr (σ i) o
  | .elp i k x o => .elp (σ i) k x o
  | .tup cs => .tup (renL σ cs)
  | .fn g cs => .fn g (renL σ cs)
  | v => v
def renL (σ : Nat → Nat) : List V → List V
  | [] => []
  | v :: r => renV σ v :: renL σ r
end

def plainV : V → Bool
  | .nob | .box _ _ | .row _ _ _ _ | .spent | .iter _ _ => false
  | _ => true

theorem renL_length (σ : Nat → Nat) : ∀ cs : List V, (renL σ cs).length = cs.length
  | [] => by simp [renL]
  | v :: r => by simp [renL, renL_length σ r]

theorem renL_get (σ : Nat → Nat) : ∀ (cs : List V) (i : Nat), (renL σ cs)[i]? = (cs[i]?).map (renV σ)
  | [], i => by simp [renL]
  | v :: r, 0 => by simp [renL]
  | v :: r, i + 1 => by simp [renL, renL_get σ r i]

theorem idsL_mem : ∀ (cs : List V) (i : Nat) (c : V), cs[i]? = some c → ∀ x ∈ idsV c, x ∈ idsL cs
  | [], i, c, h => by simp at h
  | v :: r, 0, c, h => by
    simp only [List.getElem?_cons_zero, Option.some.injEq] at h
    subst h
    intro x hx
    simp [idsL, hx]
  | v :: r, i + 1, c, h => by
    intro x hx
    have := idsL_mem r i c (by simpa using h) x hx
    simp [idsL, this]

theorem rep_ren {φ φ' : Phi} {ok ok' : Nat → Prop} {w : World} {σ : Nat → Nat} {keep : Nat → Prop} (hφ : ∀ i, keep i → φ' i = φ (σ i)) (hok : ∀ b, ok b → ok' b) : ∀ {v : Value} {y : V}, RepV φ ok w v y → ∀ x : V, y = renV σ x → (∀ i ∈ idsV x, keep i) → RepV φ' ok' w v x := by
  intro v y hr
  induction hr with
  | d hd => intro x hx hn; cases x <;> simp only [renV, reduceCtorEq, V.d.injEq] at hx; subst hx; exact .d (hd.mono fun b hb => ⟨hok b hb, rfl⟩)
  | top v => intro x hx hn; cases x <;> simp only [renV, reduceCtorEq] at hx; exact .top v
  | agg vs cs hl _ ih =>
    intro x hx hn
    cases x <;> simp only [renV, reduceCtorEq, V.agg.injEq] at hx
    rename_i xs
    subst hx
    refine .agg vs xs (by rw [hl, renL_length]) fun i v c hv hc => ih i v (renV σ c) hv (by rw [renL_get, hc]; rfl) c rfl fun j hj => hn j ?_
    rw [idsV]; exact idsL_mem xs i c hc j hj
  | nil id k hi =>
    intro x hx hn
    cases x <;> simp only [renV, reduceCtorEq, V.own.injEq] at hx
    obtain ⟨rfl, rfl, rfl⟩ := hx
    exact .nil _ _ (by rw [hφ _ (hn _ (by simp [idsV]))]; exact hi)
  | own id k n b cap hi hle =>
    intro x hx hn
    cases x <;> simp only [renV, reduceCtorEq, V.own.injEq] at hx
    obtain ⟨rfl, rfl, rfl⟩ := hx
    exact .own _ _ _ b cap (by rw [hφ _ (hn _ (by simp [idsV]))]; exact hi) hle
  | ptr id off b cap hi =>
    intro x hx hn
    cases x <;> simp only [renV, reduceCtorEq, V.ptr.injEq] at hx
    obtain ⟨rfl, rfl⟩ := hx
    exact .ptr _ _ b cap (by rw [hφ _ (hn _ (by simp [idsV]))]; exact hi)
  | elp id k i off b cap hi =>
    intro x hx hn
    cases x <;> simp only [renV, reduceCtorEq, V.elp.injEq] at hx
    obtain ⟨rfl, rfl, rfl, rfl⟩ := hx
    exact .elp _ _ _ _ b cap (by rw [hφ _ (hn _ (by simp [idsV]))]; exact hi)
  | tup vs cs hl _ ih =>
    intro x hx hn
    cases x <;> simp only [renV, reduceCtorEq, V.tup.injEq] at hx
    rename_i xs
    subst hx
    refine .tup vs xs (by rw [hl, renL_length]) fun i v c hv hc => ih i v (renV σ c) hv (by rw [renL_get, hc]; rfl) c rfl fun j hj => hn j ?_
    rw [idsV]; exact idsL_mem xs i c hc j hj
  | fn g vs cs hl _ ih =>
    intro x hx hn
    cases x <;> simp only [renV, reduceCtorEq, V.fn.injEq] at hx
    rename_i g' xs
    obtain ⟨rfl, hx⟩ := hx
    subst hx
    refine .fn g vs xs (by rw [hl, renL_length]) fun i v c hv hc => ih i v (renV σ c) hv (by rw [renL_get, hc]; rfl) c rfl fun j hj => hn j ?_
    rw [idsV]; exact idsL_mem xs i c hc j hj

def renLoc (σ : Nat → Nat) : Loc → Loc
  | .t t => .t t
  | .c i j => .c (σ i) j
  | .b i => .b (σ i)

/-- What a list tells holds of m under other numbers. -/
def TellOK (m : St) (σ : Nat → Nat) : List (Loc × V) → Prop
  | [] => True
  | p :: r => m (renLoc σ p.1) = renV σ p.2 ∧ TellOK m σ r

theorem tellOK_mem {m : St} {σ : Nat → Nat} : ∀ {L : List (Loc × V)}, TellOK m σ L → ∀ p ∈ L, m (renLoc σ p.1) = renV σ p.2
  | [], _, p, hp => by simp at hp
  | q :: r, h, p, hp => by
    rcases List.mem_cons.1 hp with e | e
    · subst e; exact h.1
    · exact tellOK_mem h.2 p e

/-- Each told value names told blocks alone; the numbers are apart. -/
def tellB (σ : Nat → Nat) (L : List (Loc × V)) : Bool :=
  (L.all fun p => isB p.1 || (idsV p.2).all fun i => namesB L i) && (L.all fun p => L.all fun q => match p.1, q.1 with
    | .b i, .b j => Nat.beq i j || !Nat.beq (σ i) (σ j)
    | _, _ => true) && L.all fun p => match p.1, p.2 with
    | .b _, .box _ _ | .b _, .row _ _ _ _ | .b _, .spent | .b _, .iter _ _ => true
    | .b _, _ => false
    | _, _ => true

section
variable {P : Program} {G : Call0} {m : St}

theorem wk_ren (L : List (Loc × V)) (σ : Nat → Nat) (hB : tellB σ L = true) (h1 : TellOK m σ L) : Wk G m (tell L) := by
  unfold tellB at hB
  rw [Bool.and_eq_true, Bool.and_eq_true] at hB
  obtain ⟨⟨hB1, hB2⟩, hB3⟩ := hB
  have htell := tellOK_mem h1
  have hnames : ∀ i, namesB L i = true → ∃ p ∈ L, p.1 = .b i := fun i hi => by
    obtain ⟨p, hp, hq⟩ := List.any_eq_true.1 hi
    exact ⟨p, hp, by simpa using hq⟩
  have hinj : ∀ i j, namesB L i = true → namesB L j = true → σ i = σ j → i = j := fun i j hi hj hs => by
    obtain ⟨p, hp, hpe⟩ := hnames i hi
    obtain ⟨q, hq, hqe⟩ := hnames j hj
    have := List.all_eq_true.1 (List.all_eq_true.1 hB2 p hp) q hq
    rw [hpe, hqe] at this
    simp only [Bool.or_eq_true, Nat.beq_eq, Bool.not_eq_true'] at this
    rcases this with h | h
    · exact Nat.eq_of_beq_eq_true (by simpa using h)
    · rw [hs] at h; simp at h
  have hids : ∀ p ∈ L, isB p.1 = false → ∀ i ∈ idsV p.2, namesB L i = true := fun p hp hb i hi => by
    have := List.all_eq_true.1 hB1 p hp
    rw [hb, Bool.false_or] at this
    exact List.all_eq_true.1 this i hi
  have hblk : ∀ i, namesB L i = true → ∃ x, tell L (.b i) = x ∧ m (.b (σ i)) = x ∧ (x.live = x.live) ∧ plainV x = false := fun i hi => by
    rcases tell_cases L (.b i) with ⟨p, hp, he, ht⟩ | ⟨hn, ht⟩
    · have h2 := htell p hp
      have h3 := List.all_eq_true.1 hB3 p hp
      rw [he] at h2 h3
      refine ⟨p.2, ht, ?_, rfl, ?_⟩
      · rw [renLoc] at h2
        rw [h2]
        cases hv : p.2 <;> rw [hv] at h3 <;> simp at h3 <;> rfl
      · cases hv : p.2 <;> rw [hv] at h3 <;> simp at h3 <;> rfl
    · obtain ⟨p, hp, hpe⟩ := hnames i hi
      exact absurd hpe (hn p hp)
  have hnob : ∀ i, ¬ namesB L i = true → tell L (.b i) = .nob := fun i hi => by
    rcases tell_cases L (.b i) with ⟨p, hp, he, ht⟩ | ⟨_, ht⟩
    · exfalso
      exact hi (List.any_eq_true.2 ⟨p, hp, by rw [he]; simp⟩)
    · rw [ht]; rfl
  intro a w ⟨φ, h⟩
  have hφ' : ∀ i x, (if namesB L i = true then φ (σ i) else none) = some x → namesB L i = true ∧ φ (σ i) = some x := fun i x hi => by
    by_cases hk : namesB L i = true
    · rw [if_pos hk] at hi; exact ⟨hk, hi⟩
    · rw [if_neg hk] at hi; cases hi
  have hok : ∀ b, okOf G φ m w b → okOf G (fun i => if namesB L i = true then φ (σ i) else none) (tell L) w b := fun b ⟨g1, g2, g3⟩ => ⟨g1, g2, fun i c hi => by
    obtain ⟨hk, hi⟩ := hφ' i _ hi
    obtain ⟨x, e1, e2, _⟩ := hblk i hk
    rw [e1, ← e2]; exact g3 _ c hi⟩
  have hv : ∀ {v : Value} (l : Loc), isB l = false → RepV φ (okOf G φ m w) w v (m (renLoc σ l)) → RepV (fun i => if namesB L i = true then φ (σ i) else none) (okOf G (fun i => if namesB L i = true then φ (σ i) else none) (tell L) w) w v (tell L l) := fun {v} l hb hr => by
    rcases tell_cases L l with ⟨p, hp, he, ht⟩ | ⟨_, ht⟩
    · rw [ht]
      refine rep_ren (σ := σ) (keep := fun i => namesB L i = true) (fun i hi => if_pos hi) hok hr p.2 (by rw [← he]; exact htell p hp) (hids p hp (by rw [he]; exact hb))
    · rw [ht]
      cases l with
      | b i => cases hb
      | _ => exact .top v
  refine ⟨fun i => if namesB L i = true then φ (σ i) else none, ⟨h.below, h.nodef, h.size, fun t => hv (.t t) rfl (h.slots t), fun i b c hi => h.lt _ b c (hφ' i _ hi).2, fun i j b c c' hi hj hl hij => ?_, fun i => ?_⟩⟩
  · obtain ⟨ki, hi⟩ := hφ' i _ hi
    obtain ⟨kj, hj⟩ := hφ' j _ hj
    obtain ⟨x, e1, e2, _⟩ := hblk i ki
    obtain ⟨y, e3, e4, _⟩ := hblk j kj
    rw [e1, ← e2] at hl
    rw [e3, ← e4]
    exact h.inj _ _ b c c' hi hj hl fun e => hij (hinj i j ki kj e)
  · by_cases hk : namesB L i = true
    · have hi := h.blk (σ i)
      obtain ⟨x, e1, e2, _⟩ := hblk i hk
      unfold BlkOK at hi ⊢
      rw [e1, ← e2]
      cases hm : m (.b (σ i)) <;> rw [hm] at hi <;> first | exact hi.elim | skip
      · simp only [if_pos hk]; exact hi
      · obtain ⟨b, c, arr, e', g1, g2, g3, g4⟩ := hi
        exact ⟨b, c, arr, e', by simp only [if_pos hk]; exact g1, g2, g3, fun j v hj => hv (.c i j) rfl (g4 j v hj)⟩
      · rcases hi with ⟨g1, g2⟩ | ⟨b, cap, arr, g1, g2, g3, g4, g5, g6⟩
        · exact .inl ⟨by simp only [if_pos hk]; exact g1, g2⟩
        · refine .inr ⟨b, cap, arr, by simp only [if_pos hk]; exact g1, g2, g3, g4, g5, fun x ds hx => ⟨(g6 x ds hx).1, fun j d hj => ?_⟩⟩
          obtain ⟨v, hv1, hv2⟩ := (g6 x ds hx).2 j d hj
          exact ⟨v, hv1, hv2.mono fun b hb => ⟨hok b hb, rfl⟩⟩
      · trivial
      · obtain ⟨b, c, g1, g2⟩ := hi
        exact ⟨b, c, by simp only [if_pos hk]; exact g1, g2⟩
    · unfold BlkOK
      rw [hnob i hk]
      simp only [if_neg hk]
end
end Go.Awp
