/- What is read of a cell turns nothing but its Top: in plain words. No program in sight. -/
import Derived.Test.YthhpelmjnmlgjaaGreatDoorGdPure
import Derived.Test.YthhpelmjnmlgjaaGreatDoorAwpEv2
set_option linter.unusedVariables false
set_option linter.unusedSimpArgs false
namespace Go.Proofs.Gd
open Go Go.Awp

/-! ### Stamps, keys -/
def cmpI (a b : Int) : Int := bif ltI a b then -1 else bif ltI b a then 1 else 0
def or3 (a b c : Int) : Int := bif !eqI a 0 then a else bif !eqI b 0 then b else bif !eqI c 0 then c else 0
def cmpS (s t : Stamp) : Int := or3 (cmpI s.mWall t.mWall) (cmpI s.mTick t.mTick) (cmpI s.mNode t.mNode)
def laterS (s t : Stamp) : Stamp := bif ltI (cmpS s t) 0 then t else s

theorem eqI_self (x : Int) : eqI x x = true := eqI_iff.2 rfl
theorem T104 (a b : Int) : Ev (fun k => F104 k a b) (cmpI a b) := by
  refine Ev.of fun k => ?_
  show (some (!eqI a a)).bind (fun t8 => (some (!eqI b b)).bind fun t10 => _) = _
  rw [eqI_self, eqI_self]
  unfold cmpI
  show (bif ltI a b then some (-1) else bif ltI b a then some 1 else some 0) = _
  cases ltI a b <;> cases ltI b a <;> rfl
theorem T103 (a b c : Int) : Ev (fun k => F103 k [a, b, c]) (or3 a b c) := by
  refine Ev.from 4 fun k => ?_
  unfold or3
  show F103 (k + 4) [a, b, c] = _
  unfold F103
  rw [F103_l1, F103_l1, F103_l1, F103_l1]
  show Option.bind (bif !eqI a 0 then some (LR.ret a) else bif !eqI b 0 then some (LR.ret b) else bif !eqI c 0 then some (LR.ret c) else some (LR.out ())) _ = _
  cases !eqI a 0 <;> cases !eqI b 0 <;> cases !eqI c 0 <;> rfl
theorem T42 (s t : Stamp) : Ev (fun k => F42 k s t) (cmpS s t) :=
  Ev.bind (T104 _ _) (Ev.bind (T104 _ _) (Ev.bind (T104 _ _) (Ev.bind (T103 _ _ _) (Ev.of fun _ => rfl))))
theorem T37 (s t : Stamp) : Ev (fun k => F37 k s t) (laterS s t) := by
  refine Ev.bind (T42 s t) ?_
  unfold laterS
  cases ltI (cmpS s t) 0 <;> exact Ev.of fun _ => rfl

theorem T124_l1 : ∀ (n : Nat) (a b : ByteArray), a.size ≤ n → Tot (fun k => F124_l1 k (a, b))
  | n, a, b, hn => by
    refine EvP.succ (fun k => by rw [F124_l1]) (EvP.cond (fun hc => ?_) fun _ => EvP.some trivial)
    rw [strEq_nil, strEq_nil] at hc
    simp only [Bool.and_eq_true, Bool.not_eq_true', decide_eq_false_iff_not] at hc
    refine EvP.bind ((T153 _).evP.mono fun r hr => ?_)
    subst hr
    refine EvP.bind ((T153 _).evP.mono fun r hr => ?_)
    subst hr
    refine EvP.cond (fun _ => EvP.some trivial) fun _ => EvP.cond (fun _ => EvP.some trivial) fun _ => ?_
    have h1 := decN_le a
    have h2 := decN_le b
    have h3 := decN_pos a (by omega)
    refine EvP.guard (cutOK_mk (by omega) (by omega) (by omega)) (EvP.guard (cutOK_mk (by omega) (by omega) (by omega)) ?_)
    cases n with
    | zero => omega
    | succ n => exact T124_l1 n _ _ (by rw [size_extract']; omega)
theorem T124 (a b : ByteArray) : Tot (fun k => F124 k a b) :=
  LRt (T124_l1 _ a b (Nat.le_refl _)) fun v => EvP.cond (fun _ => EvP.some trivial) fun _ => EvP.cond (fun _ => EvP.some trivial) fun _ => EvP.some trivial
theorem T80 (s : Span) : Tot (fun k => F80 k s) :=
  Tot.then (Tot.opt fun _ => (T122 _).tot) fun _ => EvP.cond (fun _ => EvP.some trivial) fun _ => Tot.then (Tot.opt fun _ => (T122 _).tot) fun _ => Tot.then (Tot.opt fun _ => T124 _ _) fun _ => EvP.some trivial
theorem T61 (s : Span) (x : ByteArray) : Tot (fun k => F61 k s x) :=
  Tot.then (T80 s) fun _ => Tot.then (Tot.opt fun _ => (T122 _).tot) fun _ => Tot.then (Tot.opt fun _ => T124 _ _) fun _ => Tot.then (Tot.opt fun _ => T124 _ _) fun _ => EvP.some trivial

/-! ### Chains -/
theorem T166 (v : Version) : Tot (fun k => F166 k v) := Tot.then (T36 _).tot fun _ => EvP.some trivial
theorem T136 (l : List Version) (hl : l.length ≤ 1000) : Tot (fun k => F136 k l) := by
  refine LRt (downTo (M := fun i => Tot (fun k => F136_l1 l k (i : Int))) l.length ?_ fun i hi ih => ?_) fun _ => EvP.some trivial
  · refine EvP.succ (fun k => by rw [F136_l1]) ?_
    rw [ltI_nat, decide_eq_false (Nat.lt_irrefl _)]
    exact EvP.some trivial
  · refine EvP.succ (fun k => by rw [F136_l1]) ?_
    rw [ltI_nat, decide_eq_true hi, inR_mk hi]
    refine Tot.then (T166 _) fun b => ?_
    refine EvP.guard ?_ (Tot.then (Tot.opt fun _ => (T42 _ _).tot) fun _ => EvP.cond (fun _ => EvP.some trivial) fun _ => by rw [i64z (by omega)]; exact ih)
    rw [Bool.or_eq_true, Bool.not_eq_true', Bool.and_eq_false_iff, ltI_false]
    by_cases h0 : i = 0
    · exact .inl (.inr (by omega))
    · right
      rw [i64z (by omega), inR_iff]; omega
theorem T81 (l : List Entry) (hl : l.length ≤ 1000) (hc : ∀ e ∈ l, e.mChain.length ≤ 1000) : EvP (fun k => F81 k l) (fun b => b = true → ∀ e ∈ l, e.mChain ≠ []) := by
  refine EvP.go ((downTo (M := fun i => EvP (fun k => F81_l1 l k (i : Int)) fun t => t = .ret false ∨ (t = .out () ∧ ∀ j (hj : j < l.length), i ≤ j → l[j].mChain ≠ [])) l.length ?_ fun i hi ih => ?_).mono fun t ht => ?_)
  · refine EvP.succ (fun k => by rw [F81_l1]) ?_
    rw [ltI_nat, decide_eq_false (Nat.lt_irrefl _)]
    exact EvP.some (.inr ⟨rfl, fun j hj h => by omega⟩)
  · refine EvP.succ (fun k => by rw [F81_l1]) ?_
    rw [ltI_nat, decide_eq_true hi, inR_mk hi, rd_nat _ _ hi]
    refine Tot.then (T122 _).tot fun b => ?_
    refine Tot.then (Tot.opt fun _ => T136 _ (hc _ (by simp))) fun b2 => ?_
    refine EvP.guard ?_ (Tot.then (Tot.opt fun _ => T124 _ _) fun _ => EvP.cond (fun _ => EvP.some (.inl rfl)) fun hcc => ?_)
    · rw [Bool.or_eq_true, Bool.not_eq_true', Bool.and_eq_false_iff, ltI_false]
      by_cases h0 : i = 0
      · exact .inl (.inr (by omega))
      · right
        rw [i64z (by omega), inR_iff]; omega
    · rw [i64z (by omega)]
      refine ih.mono fun t ht => ht.imp id fun ⟨h1, h2⟩ => ⟨h1, fun j hj hij => ?_⟩
      by_cases e : j = i
      · subst e
        intro hnil
        rw [hnil] at hcc
        simp [eqI] at hcc
      · exact h2 j hj (by omega)
  · rcases ht with rfl | ⟨rfl, h⟩
    · exact fun h => by cases h
    · refine EvP.some fun _ e he => ?_
      obtain ⟨j, hj, rfl⟩ := List.mem_iff_getElem.1 he
      exact h j hj (by omega)

/-! ### Tables -/
theorem T138 (a : Answer) : Tot (fun k => F138 k a) := Tot.then (Tot.opt fun _ => (T36 _).tot) fun _ => EvP.some trivial
theorem T82 (l : List Done) (hl : l.length ≤ 1000) : Tot (fun k => F82 k l) := by
  refine LRt (downTo (M := fun i => ∀ n : Int, Tot (fun k => F82_l1 l k (n, (i : Int)))) l.length ?_ (fun i hi ih => ?_) 0) fun _ => EvP.some trivial
  · intro n
    refine EvP.succ (fun k => by rw [F82_l1]) ?_
    rw [ltI_nat, decide_eq_false (Nat.lt_irrefl _)]
    exact EvP.some trivial
  · intro n
    refine EvP.succ (fun k => by rw [F82_l1]) ?_
    rw [ltI_nat, decide_eq_true hi, inR_mk hi, i64z (by omega)]
    exact Tot.then (Tot.opt fun _ => Tot.some) fun _ => Tot.then (Tot.opt fun _ => Tot.some) fun _ => Tot.then (Tot.opt fun _ => T138 _) fun _ => EvP.cond (fun _ => EvP.some trivial) fun _ => ih _

/-! ### Shards -/
structure SmS (s : Shard) : Prop where
  entries : s.mEntries.length ≤ 80
  chains : ∀ e ∈ s.mEntries, e.mChain.length ≤ 80
  done : s.mDone.length ≤ 40
  items : ∀ d ∈ s.mDone, d.mAnswer.mItems.length ≤ 100

theorem any_tot {f : Nat → Option Int} (h : EvP f fun _ => True) : Tot (fun k => (f k).bind fun t => some (leI 0 t)) := Tot.then h fun _ => EvP.some trivial
theorem T83_84 (l : List Entry) (s : Shard) (hl : l.length ≤ 1000) : Tot (fun k => F83_84 k l s) :=
  any_tot ((idx_tot (f := F139_84_l1 l s) (p := fun k x => F84 k x s) (by omega) (fun _ => rfl) (fun _ _ => rfl) fun x _ => Tot.then (T61 _ _) fun _ => EvP.some trivial).tot)
theorem T57t (n : Int) (l : List Int) (hl : l.length ≤ 1000) : Tot (fun k => F57 k n l) := (T57 n l hl).tot
theorem T20 (s : Shard) (h : SmS s) : EvP (fun k => F20 k s) (fun b => b = true → ∀ e ∈ s.mEntries, e.mChain ≠ []) := by
  have he := h.entries
  have hd := h.done
  refine Tot.then (T57t _ _ (by simp)) fun _ => Tot.then (Tot.opt fun _ => T57t _ _ (by simp)) fun _ => EvP.cond (fun _ => EvP.some fun h => by cases h) fun _ => ?_
  refine Tot.then (T80 _) fun t35 => ?_
  refine EvP.bind ((EvP.opt (P := fun b => b = true → ∀ e ∈ s.mEntries, e.mChain ≠ []) (fun _ => T81 _ (by omega) fun e he => by have := h.chains e he; omega) fun _ => fun h => by cases h).mono fun t40 h40 => ?_)
  refine Tot.then (Tot.opt fun _ => (T36 _).tot) fun _ => Tot.then (Tot.opt fun _ => (T36 _).tot) fun _ => Tot.then (Tot.opt fun _ => T82 _ (by omega)) fun _ => EvP.cond (fun _ => EvP.some fun h => by cases h) fun hc => ?_
  refine Tot.then (T83_84 _ _ (by omega)) fun _ => EvP.some fun _ => h40 ?_
  cases t40 with
  | true => rfl
  | false => simp at hc
theorem T90 (s : Shard) (t : Stamp) (h : SmS s) (hn : ∀ e ∈ s.mEntries, e.mChain ≠ []) : Tot (fun k => F90 k s t) := by
  have he := h.entries
  refine Tot.then (any_tot ((idx_tot (f := F139_142_l1 s.mEntries t) (p := fun k x => F142 k x t) (by omega) (fun _ => rfl) (fun _ _ => rfl) fun x hx => ?_).tot)) fun _ => EvP.some trivial
  have h1 := h.chains x hx
  have h2 : 0 < x.mChain.length := List.length_pos_iff.2 (hn x hx)
  refine EvP.guard ?_ (Tot.then (T42 _ _).tot fun _ => EvP.some trivial)
  rw [i64z (by omega), inR_iff]; omega

structure SmC (c : Cell) : Prop where
  shards : c.mShards.length ≤ 12
  each : ∀ s ∈ c.mShards, SmS s
theorem T25 (c : Cell) (h : SmC c) : Tot (fun k => F25 k c) := by
  have hs := h.shards
  refine LRt (downTo (M := fun i => ∀ n : Int, Tot (fun k => F25_l1 c k (n, (i : Int)))) c.mShards.length ?_ (fun i hi ih => ?_) 0) fun _ => Tot.then (Tot.opt fun _ => (T36 _).tot) fun _ => Tot.then (Tot.opt fun _ => T57t _ _ (by simp)) fun _ => EvP.some trivial
  · intro n
    refine EvP.succ (fun k => by rw [F25_l1]) ?_
    rw [ltI_nat, decide_eq_false (Nat.lt_irrefl _)]
    exact EvP.some trivial
  · intro n
    refine EvP.succ (fun k => by rw [F25_l1]) ?_
    rw [ltI_nat, decide_eq_true hi, inR_mk hi, i64z (by omega), rd_nat _ _ hi]
    have hi' := h.each _ (List.getElem_mem hi)
    refine EvP.bind ((EvP.opt (P := fun b => b = true → ∀ e ∈ (c.mShards[i]).mEntries, e.mChain ≠ []) (fun _ => T20 _ hi') fun _ => fun h => by cases h).mono fun b hb => ?_)
    refine Tot.then (Tot.opt fun hc => T90 _ _ hi' (hb ?_)) fun _ => EvP.cond (fun _ => EvP.some trivial) fun _ => ih _
    cases b with
    | true => rfl
    | false => simp at hc

/-! ### What is found -/
theorem T60 (c : Cell) (id : Int) (h : SmC c) : EvP (fun k => F60 k c id) SmS := by
  have hs := h.shards
  refine EvP.bind (P := SmS) (EvP.mono (P := fun r => r.2 = true → 0 ≤ r.1 ∧ r.1 < (c.mShards.length : Int)) ?_ fun r hr => EvP.cond (fun hc => ?_) fun _ => EvP.some ⟨by simp, fun e he => by simp at he, by simp, fun e he => by simp at he⟩)
  · refine EvP.bind (EvP.bind ((bin_tot (f := F155_156_l1 c.mShards id) (p := fun k x => F156 k x id) (by omega) (fun _ _ _ => rfl) fun x _ => Tot.some).mono fun t9 ht => ?_))
    refine EvP.guard ?_ (Tot.then (Tot.opt fun _ => Tot.some) fun t46 => EvP.some (EvP.some fun hb => ?_))
    · rw [Bool.or_eq_true, Bool.not_eq_true', ltI_false, inR_iff]; omega
    · simp only [Bool.and_eq_true, ltI_iff] at hb
      exact ⟨ht.1, hb.1⟩
  · have := hr hc
    refine EvP.guard (by rw [inR_iff]; omega) (EvP.some (h.each _ ?_))
    obtain ⟨n, hn⟩ := Int.eq_ofNat_of_zero_le this.1
    rw [hn, rd_nat _ _ (by omega)]
    exact List.getElem_mem _
theorem T148 (l : List Entry) (x : ByteArray) (hl : l.length ≤ 1000) : EvP (fun k => F148 k l x) (fun r => 0 ≤ r.1 ∧ r.1 ≤ (l.length : Int) ∧ (r.2 = true → r.1 < (l.length : Int))) := by
  refine EvP.bind (EvP.bind ((bin_tot (f := F171_172_l1 l x) (p := fun k y => F172 k y x) (by omega) (fun _ _ _ => rfl) fun y _ => Tot.then (T124 _ _) fun _ => EvP.some trivial).mono fun t9 ht => ?_))
  refine EvP.guard ?_ (Tot.then (Tot.opt fun _ => Tot.then (T124 _ _) fun _ => EvP.some trivial) fun t46 => EvP.some (EvP.some ⟨ht.1, ht.2, fun hb => ?_⟩))
  · rw [Bool.or_eq_true, Bool.not_eq_true', ltI_false, inR_iff]; omega
  · simp only [Bool.and_eq_true, ltI_iff] at hb
    exact hb.1
theorem T169 (l : List Version) (t : Stamp) (hl : l.length ≤ 1000) : EvP (fun k => F169 k l t) (fun r => 0 ≤ r ∧ r ≤ (l.length : Int)) := by
  refine EvP.bind (EvP.mono (P := fun r => 0 ≤ r.1 ∧ r.1 ≤ (l.length : Int) ∧ (r.2 = true → r.1 < (l.length : Int))) ?_ fun r hr => EvP.cond (fun hc => EvP.some ?_) fun hc => EvP.some ⟨hr.1, hr.2.1⟩)
  · refine EvP.bind ((bin_tot (f := F182_183_l1 l t) (p := fun k y => F183 k y t) (by omega) (fun _ _ _ => rfl) fun y _ => Tot.then (T42 _ _).tot fun _ => EvP.some trivial).mono fun t9 ht => ?_)
    refine EvP.guard ?_ (Tot.then (Tot.opt fun _ => Tot.then (T42 _ _).tot fun _ => EvP.some trivial) fun t46 => EvP.some ⟨ht.1, ht.2, fun hb => ?_⟩)
    · rw [Bool.or_eq_true, Bool.not_eq_true', ltI_false, inR_iff]; omega
    · simp only [Bool.and_eq_true, ltI_iff] at hb
      exact hb.1
  · have := hr.2.2 hc
    rw [i64z (by omega)]; omega
theorem T150 (l : List Version) (t : Stamp) (hl : l.length ≤ 1000) : Tot (fun k => F150 k l t) := by
  refine Tot.then (T136 l hl) fun _ => EvP.cond (fun _ => EvP.some trivial) fun _ => EvP.bind ((T169 l t hl).mono fun r hr => EvP.cond (fun _ => EvP.some trivial) fun h0 => EvP.guard ?_ (EvP.some trivial))
  rw [eqI_false] at h0
  rw [i64z (by omega), inR_iff]; omega
theorem T118 (s : Shard) (x : ByteArray) (t : Stamp) (h : SmS s) : Tot (fun k => F118 k s.mEntries x t) := by
  have he := h.entries
  refine Tot.then (T81 _ (by omega) fun e he => by have := h.chains e he; omega).tot fun _ => EvP.cond (fun _ => EvP.some trivial) fun _ => ?_
  refine EvP.bind ((T148 _ x (by omega)).mono fun r hr => ?_)
  refine EvP.guard ?_ (EvP.cond (fun _ => EvP.some trivial) fun hc => ?_)
  · rw [Bool.not_not, Bool.or_eq_true, Bool.not_eq_true', inR_iff]
    cases hb : r.2 with
    | true => exact .inr ⟨hr.1, hr.2.2 hb⟩
    | false => exact .inl rfl
  · rw [Bool.or_eq_false_iff, Bool.not_eq_false'] at hc
    have hlt := hr.2.2 hc.1
    obtain ⟨n, hn⟩ := Int.eq_ofNat_of_zero_le hr.1
    refine EvP.guard (by rw [inR_iff]; exact ⟨hr.1, hlt⟩) (Tot.then (T150 _ t ?_) fun _ => EvP.some trivial)
    rw [hn, rd_nat _ _ (by omega)]
    have := h.chains _ (List.getElem_mem (by omega : n < s.mEntries.length))
    omega
theorem T64 (c : Cell) (s : Shard) (x : ByteArray) (h : SmS s) : Tot (fun k => F64 k c s x) := Tot.then (T118 s x _ h) fun _ => EvP.some trivial

theorem T162 (l : List Version) (t : Stamp) (hl : l.length ≤ 1000) : Tot (fun k => F162 k l t) := Tot.then (T150 l t hl) fun _ => EvP.some trivial
theorem T129 (s : Shard) (lo hi : ByteArray) (t : Stamp) (n : Int) (h : SmS s) : Tot (fun k => F129 k s.mEntries lo hi t n) := by
  have he := h.entries
  refine Tot.then (T81 _ (by omega) fun e he => by have := h.chains e he; omega).tot fun _ => EvP.cond (fun _ => EvP.some trivial) fun _ => ?_
  refine EvP.bind ((T148 _ lo (by omega)).mono fun r hr => ?_)
  refine LRt (EvP.guard (cutOK_mk hr.1 hr.2.1 (by omega)) ?_) fun _ => EvP.some trivial
  obtain ⟨a, ha⟩ := Int.eq_ofNat_of_zero_le hr.1
  rw [ha]
  have hd : (List.drop ((a : Int)).toNat s.mEntries).length ≤ 80 := by simp; omega
  have hx : ∀ e ∈ List.drop ((a : Int)).toNat s.mEntries, e.mChain.length ≤ 1000 := fun e he => by have := h.chains e (List.mem_of_mem_drop he); omega
  refine downTo (M := fun i => ∀ l : List Item, l.length ≤ i → Tot (fun k => F129_l1 s.mEntries hi t n (a : Int) k (l, (i : Int)))) (List.drop ((a : Int)).toNat s.mEntries).length ?_ (fun i hi' ih => ?_) [] (by simp)
  · intro l _
    refine EvP.succ (fun k => by rw [F129_l1]) ?_
    rw [ltI_nat, decide_eq_false (Nat.lt_irrefl _)]
    exact EvP.some trivial
  · intro l hl
    refine EvP.succ (fun k => by rw [F129_l1]) ?_
    rw [ltI_nat, decide_eq_true hi', inR_mk hi', i64z (by omega), rd_nat _ _ hi']
    refine Tot.then (Tot.opt fun _ => T124 _ _) fun _ => EvP.cond (fun _ => EvP.some trivial) fun _ => ?_
    refine Tot.then (T162 _ _ (hx _ (List.getElem_mem hi'))) fun r2 => EvP.cond (fun _ => ih l (by omega)) fun _ => EvP.cond (fun _ => EvP.some trivial) fun _ => ?_
    exact EvP.guard (appOK_mk (by simp; omega) (by simp; omega)) (ih _ (by simp; omega))

/-- What a read answers: the cell as it was and a fault or a value; or Top, raised, and the moment. -/
def Reads (c : Cell) (r : Request) (x : Cell × Answer) : Prop :=
  (x.1 = c ∧ (x.2.mErr ≠ 0 ∨ r.mKind = 4)) ∨ (x.1 = { c with mTop := laterS c.mTop r.mAt } ∧ x.2.mErr = 0 ∧ r.mKind ≠ 4 ∧ x.2.mAt = r.mAt)
theorem T65 (c : Cell) (s : Shard) (r : Request) (w : Int) (h : SmS s) (h4 : r.mKind ≠ 4) : EvP (fun k => F65 k c s r w) (Reads c r) := by
  refine EvP.bind ((T42 _ _).evP.mono fun t20 _ => EvP.cond (fun _ => ?_) fun _ => EvP.cond (fun _ => ?_) fun _ => ?_)
  · exact EvP.bind (EvP.some (EvP.some (.inl ⟨rfl, .inl (show (13 : Int) ≠ 0 by decide)⟩)))
  · exact EvP.bind (EvP.some (EvP.some (.inl ⟨rfl, .inl (show (12 : Int) ≠ 0 by decide)⟩)))
  · refine EvP.bind ((T37 _ _).evP.mono fun t37 ht => ?_)
    subst ht
    refine EvP.cond (fun _ => ?_) fun _ => ?_
    · exact Tot.then (T118 s _ _ h) fun _ => EvP.some (.inr ⟨rfl, rfl, h4, rfl⟩)
    · refine Tot.then (Tot.opt fun _ => T124 _ _) fun t81 => Tot.then (EvP.cond (fun _ => EvP.some trivial) fun _ => EvP.some trivial) fun t13 => Tot.then (T129 s _ _ _ _ h) fun q => EvP.cond (fun _ => EvP.some (.inr ⟨rfl, rfl, h4, rfl⟩)) fun _ => EvP.some (.inr ⟨rfl, rfl, h4, rfl⟩)
theorem T16 (c : Cell) (id ep : Int) (r : Request) (now : Stamp) (w : Int) (h : SmC c) (h4 : 4 ≤ r.mKind) : EvP (fun k => F16 k c id ep r now w) (Reads c r) := by
  have hw : ∀ k, F62 k r = some false := fun k => by
    have h1 : eqI r.mKind 1 = false := by rw [eqI_false]; omega
    have h2 : eqI r.mKind 2 = false := by rw [eqI_false]; omega
    have h3 : eqI r.mKind 3 = false := by rw [eqI_false]; omega
    show some ((eqI r.mKind 1 || eqI r.mKind 2) || eqI r.mKind 3) = _
    rw [h1, h2, h3]; rfl
  refine Tot.then (T25 c h) fun _ => Tot.then (Tot.opt fun _ => T57t _ _ (by simp)) fun _ => Tot.then (Tot.opt fun _ => T57t _ _ (by simp)) fun _ => Tot.then (Tot.opt fun _ => (T36 _).tot) fun _ => Tot.then (Tot.opt fun _ => (T58 _).tot) fun _ => EvP.cond (fun _ => ?_) fun _ => ?_
  · exact EvP.bind (EvP.some (EvP.some (.inl ⟨rfl, .inl (show (1 : Int) ≠ 0 by decide)⟩)))
  refine EvP.bind ((T60 c id h).mono fun s hs => Tot.then (Tot.opt fun _ => T61 _ _) fun _ => EvP.cond (fun _ => ?_) fun _ => ?_)
  · exact EvP.bind (EvP.some (EvP.some (.inl ⟨rfl, .inl (show (10 : Int) ≠ 0 by decide)⟩)))
  refine Tot.then (Tot.opt fun _ => (Ev.of hw).tot) fun _ => EvP.cond (fun _ => ?_) fun _ => ?_
  · exact EvP.bind (EvP.some (EvP.some (.inl ⟨rfl, .inl (show (11 : Int) ≠ 0 by decide)⟩)))
  refine EvP.bind ((Ev.of hw).evP.mono fun t96 ht => ?_)
  subst ht
  refine EvP.cond (fun hc => by cases hc) fun _ => EvP.cond (fun hc => ?_) fun hc => ?_
  · rw [eqI_iff] at hc
    exact Tot.then (T64 c s _ hs) fun _ => EvP.some (.inl ⟨rfl, .inr hc⟩)
  · rw [eqI_false] at hc
    exact EvP.bind ((T65 c s r w hs hc).mono fun x hx => EvP.some hx)

/-! ### Smallness, sameness -/
theorem strEq_self (a : ByteArray) : strEq a a = true := strEq_true.2 rfl
theorem qStamp_self (s : Stamp) : qStamp s s = true := by simp [qStamp, eqI_self]
theorem loop_out {f : Nat → Int → Option (LR Bool Unit)} {n : Nat} {g : Nat → Unit → Option Bool} (hend : Ev (fun k => f k (n : Int)) (.out ())) (hstep : ∀ i, i < n → Ev (fun k => f k ((i + 1 : Nat) : Int)) (.out ()) → Ev (fun k => f k (i : Int)) (.out ())) {r : Bool} (hg : Ev (fun k => g k ()) r) :
    Ev (fun k => (f k 0).bind fun t => t.go (g k)) r := Ev.bind (downTo (M := fun i => Ev (fun k => f k (i : Int)) (.out ())) n hend hstep) hg
theorem E102 (l : List Version) (hl : l.length ≤ 1000) : Ev (fun k => F102 k l l) true := by
  refine Ev.cond (fun hc => by rw [eqI_self] at hc; cases hc) fun _ => loop_out (n := l.length) ?_ (fun i hi ih => ?_) (Ev.of fun _ => rfl)
  · refine Ev.from 1 fun k => ?_
    show F102_l1 l l (k + 1) _ = _
    rw [F102_l1, ltI_nat, decide_eq_false (Nat.lt_irrefl _)]; rfl
  · refine Ev.succ (fun k => by rw [F102_l1]) ?_
    rw [ltI_nat, decide_eq_true hi, inR_mk hi, i64z (by omega), show qVersion (rd l (i : Int)) (rd l (i : Int)) = true by simp [qVersion, qStamp_self, strEq_self]]
    exact ih
theorem E40 (l : List Entry) (hl : l.length ≤ 1000) (hc : ∀ e ∈ l, e.mChain.length ≤ 1000) : Ev (fun k => F40 k l l) true := by
  refine Ev.cond (fun hc => by rw [eqI_self] at hc; cases hc) fun _ => loop_out (n := l.length) ?_ (fun i hi ih => ?_) (Ev.of fun _ => rfl)
  · refine Ev.from 1 fun k => ?_
    show F40_l1 l l (k + 1) _ = _
    rw [F40_l1, ltI_nat, decide_eq_false (Nat.lt_irrefl _)]; rfl
  · refine Ev.succ (fun k => by rw [F40_l1]) ?_
    rw [ltI_nat, decide_eq_true hi, inR_mk hi, i64z (by omega), strEq_self, rd_nat _ _ hi]
    exact Ev.bind (E102 _ (hc _ (List.getElem_mem hi))) ih
theorem E19 (a : Answer) (hl : a.mItems.length ≤ 1000) : Ev (fun k => F19 k a a) true := by
  refine Ev.cond (fun hc => by rw [eqI_self] at hc; cases hc) fun _ => loop_out (n := a.mItems.length) ?_ (fun i hi ih => ?_) (Ev.of fun _ => by simp [eqI_self, qStamp_self, strEq_self])
  · refine Ev.from 1 fun k => ?_
    show F19_l1 a a (k + 1) _ = _
    rw [F19_l1, ltI_nat, decide_eq_false (Nat.lt_irrefl _)]; rfl
  · refine Ev.succ (fun k => by rw [F19_l1]) ?_
    rw [ltI_nat, decide_eq_true hi, inR_mk hi, i64z (by omega), show qItem (rd a.mItems (i : Int)) (rd a.mItems (i : Int)) = true by simp [qItem, strEq_self]]
    exact ih
theorem E41 (l : List Done) (hl : l.length ≤ 1000) (hc : ∀ e ∈ l, e.mAnswer.mItems.length ≤ 1000) : Ev (fun k => F41 k l l) true := by
  refine Ev.cond (fun hc => by rw [eqI_self] at hc; cases hc) fun _ => loop_out (n := l.length) ?_ (fun i hi ih => ?_) (Ev.of fun _ => rfl)
  · refine Ev.from 1 fun k => ?_
    show F41_l1 l l (k + 1) _ = _
    rw [F41_l1, ltI_nat, decide_eq_false (Nat.lt_irrefl _)]; rfl
  · refine Ev.succ (fun k => by rw [F41_l1]) ?_
    rw [ltI_nat, decide_eq_true hi, inR_mk hi, i64z (by omega), eqI_self, eqI_self, rd_nat _ _ hi]
    exact Ev.bind (E19 _ (hc _ (List.getElem_mem hi))) ih
theorem E26 (s : Shard) (h : SmS s) : Ev (fun k => F26 k s s) true := by
  have he := h.entries
  have hd := h.done
  have e1 : qSpan s.mSpan s.mSpan = true := by simp [qSpan, strEq_self]
  unfold F26
  simp only [eqI_self, qStamp_self, e1, Bool.and_true, Bool.true_and, cond_true]
  refine Ev.bind (E40 _ (by omega) fun e he => by have := h.chains e he; omega) ?_
  refine Ev.bind (E41 _ (by omega) fun e he => by have := h.items e he; omega) ?_
  exact Ev.of fun _ => rfl
theorem T91 (l : List Entry) : EvP (fun k => F91 k l) (fun b => b = true → l.length ≤ 80 ∧ ∀ e ∈ l, e.mChain.length ≤ 80) := by
  refine EvP.cond (fun _ => EvP.some fun h => by cases h) fun hc => ?_
  rw [ltI_false] at hc
  refine EvP.go ((downTo (M := fun i => EvP (fun k => F91_l1 l k (i : Int)) fun t => t = .ret false ∨ (t = .out () ∧ ∀ j (hj : j < l.length), i ≤ j → l[j].mChain.length ≤ 80)) l.length ?_ fun i hi ih => ?_).mono fun t ht => ?_)
  · refine EvP.succ (fun k => by rw [F91_l1]) ?_
    rw [ltI_nat, decide_eq_false (Nat.lt_irrefl _)]
    exact EvP.some (.inr ⟨rfl, fun j hj h => by omega⟩)
  · refine EvP.succ (fun k => by rw [F91_l1]) ?_
    rw [ltI_nat, decide_eq_true hi, inR_mk hi, rd_nat _ _ hi, Bool.or_true]
    simp only [cond_true]
    refine EvP.cond (fun _ => EvP.some (.inl rfl)) fun hcc => ?_
    rw [Bool.or_eq_false_iff, ltI_false] at hcc
    rw [i64z (by omega)]
    refine ih.mono fun t ht => ht.imp id fun ⟨h1, h2⟩ => ⟨h1, fun j hj hij => ?_⟩
    by_cases e : j = i
    · subst e; omega
    · exact h2 j hj (by omega)
  · rcases ht with rfl | ⟨rfl, h⟩
    · exact fun h => by cases h
    · refine EvP.some fun _ => ⟨by omega, fun e he => ?_⟩
      obtain ⟨j, hj, rfl⟩ := List.mem_iff_getElem.1 he
      exact h j hj (by omega)
theorem T92 (l : List Done) : EvP (fun k => F92 k l) (fun b => b = true → l.length ≤ 40 ∧ ∀ e ∈ l, e.mAnswer.mItems.length ≤ 100) := by
  refine EvP.cond (fun _ => EvP.some fun h => by cases h) fun hc => ?_
  rw [ltI_false] at hc
  refine EvP.go ((downTo (M := fun i => EvP (fun k => F92_l1 l k (i : Int)) fun t => t = .ret false ∨ (t = .out () ∧ ∀ j (hj : j < l.length), i ≤ j → l[j].mAnswer.mItems.length ≤ 100)) l.length ?_ fun i hi ih => ?_).mono fun t ht => ?_)
  · refine EvP.succ (fun k => by rw [F92_l1]) ?_
    rw [ltI_nat, decide_eq_false (Nat.lt_irrefl _)]
    exact EvP.some (.inr ⟨rfl, fun j hj h => by omega⟩)
  · refine EvP.succ (fun k => by rw [F92_l1]) ?_
    rw [ltI_nat, decide_eq_true hi, inR_mk hi, rd_nat _ _ hi]
    simp only [cond_true]
    refine EvP.cond (fun _ => EvP.some (.inl rfl)) fun hcc => ?_
    rw [ltI_false] at hcc
    rw [i64z (by omega)]
    refine ih.mono fun t ht => ht.imp id fun ⟨h1, h2⟩ => ⟨h1, fun j hj hij => ?_⟩
    by_cases e : j = i
    · subst e; omega
    · exact h2 j hj (by omega)
  · rcases ht with rfl | ⟨rfl, h⟩
    · exact fun h => by cases h
    · refine EvP.some fun _ => ⟨by omega, fun e he => ?_⟩
      obtain ⟨j, hj, rfl⟩ := List.mem_iff_getElem.1 he
      exact h j hj (by omega)
theorem T27 (s : Shard) : EvP (fun k => F27 k s) (fun b => b = true → SmS s) := by
  refine EvP.bind ((T91 _).mono fun t5 h5 => EvP.bind ((EvP.opt (P := fun b => b = true → s.mDone.length ≤ 40 ∧ ∀ e ∈ s.mDone, e.mAnswer.mItems.length ≤ 100) (fun _ => T92 _) fun _ => fun h => by cases h).mono fun t9 h9 => EvP.some fun h => ?_))
  simp only [Bool.and_eq_true] at h
  exact ⟨(h5 h.1.1.1).1, (h5 h.1.1.1).2, (h9 h.1.1.2).1, (h9 h.1.1.2).2⟩
theorem T14 (c : Cell) : EvP (fun k => F14 k c) (fun b => b = true → SmC c) := by
  refine EvP.cond (fun _ => EvP.some fun h => by cases h) fun hc => ?_
  rw [ltI_false] at hc
  refine EvP.go ((downTo (M := fun i => EvP (fun k => F14_l1 c k (i : Int)) fun t => t = .ret false ∨ (t = .out () ∧ ∀ j (hj : j < c.mShards.length), i ≤ j → SmS c.mShards[j])) c.mShards.length ?_ fun i hi ih => ?_).mono fun t ht => ?_)
  · refine EvP.succ (fun k => by rw [F14_l1]) ?_
    rw [ltI_nat, decide_eq_false (Nat.lt_irrefl _)]
    exact EvP.some (.inr ⟨rfl, fun j hj h => by omega⟩)
  · refine EvP.succ (fun k => by rw [F14_l1]) ?_
    rw [ltI_nat, decide_eq_true hi, inR_mk hi, rd_nat _ _ hi]
    refine EvP.bind ((T27 _).mono fun b hb => EvP.cond (fun _ => EvP.some (.inl rfl)) fun hcc => ?_)
    rw [i64z (by omega)]
    refine ih.mono fun t ht => ht.imp id fun ⟨h1, h2⟩ => ⟨h1, fun j hj hij => ?_⟩
    by_cases e : j = i
    · subst e; exact hb (by simpa using hcc)
    · exact h2 j hj (by omega)
  · rcases ht with rfl | ⟨rfl, h⟩
    · exact fun h => by cases h
    · refine EvP.some fun _ => ⟨by omega, fun e he => ?_⟩
      obtain ⟨j, hj, rfl⟩ := List.mem_iff_getElem.1 he
      exact h j hj (by omega)

end Go.Proofs.Gd
