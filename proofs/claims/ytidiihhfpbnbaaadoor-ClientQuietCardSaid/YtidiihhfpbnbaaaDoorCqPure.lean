/- Layer 20's quiet client, as plain Lean: all that is asked of it and of a message ends; a client that has nothing pending says nothing. No program in sight. -/
import Derived.Test.YtidiihhfpbnbaaaDoorCqDefs
import Derived.Test.YtidiihhfpbnbaaaDoorAwpUtfEv
import Derived.KernelRfl
set_option linter.unusedVariables false
namespace Go.Proofs.Cq
open Go Go.Awp

theorem awake (k : Nat) : F6 (k + 40) = some true := by kernel_rfl

theorem T43 (s : ByteArray) : Ev (fun k => F43 k s) (decR s, decN s) := by
  refine Ev.from 0 fun k => ?_
  show F43 k s = _
  unfold F43 F47
  rw [strEq_nil]
  by_cases h : s.size = 0
  · simp [h]
  · have h0 : inR 0 s.size = true := by rw [inR_iff]; omega
    rw [decide_eq_false h]
    simp only [h0, Bool.not_false, Bool.not_true, Bool.false_or, Bool.true_and, cond_true]
    cases ha : ltI (bt s 0) 128 with
    | true => simp only [cond_true]; rw [dec_ascii s (by omega) (ltI_iff.1 ha)]
    | false => rfl

theorem T32_l1 (s : ByteArray) : ∀ (n i : Nat), s.size - i ≤ n → Tot (fun k => F32_l1 s k i)
  | n, i, hn => by
    refine EvP.succ (fun k => by rw [F32_l1]) (EvP.cond (fun hc => ?_) fun _ => EvP.some trivial)
    have hi : i < s.size := of_decide_eq_true hc
    refine EvP.guard (cutOK_mk (by omega) (by omega) (by omega)) (EvP.bind ((T43 _).evP.mono fun r hr => ?_))
    subst hr
    refine EvP.bind (EvP.some ?_)
    refine EvP.cond (fun _ => EvP.some trivial) fun _ => ?_
    have := dec_pos s i
    cases n with
    | zero => omega
    | succ n => exact T32_l1 s n _ (by unfold nxw; omega)
theorem T32 (s : ByteArray) : Tot (fun k => F32 k s) :=
  EvP.go ((T32_l1 s _ 0 (Nat.le_refl _)).mono fun t _ => by cases t with | ret r => trivial | out v => exact EvP.some trivial)

theorem T33_l1 : ∀ (n : Nat) (a b : ByteArray), a.size ≤ n → Tot (fun k => F33_l1 k (a, b))
  | n, a, b, hn => by
    refine EvP.succ (fun k => by rw [F33_l1]) (EvP.cond (fun hc => ?_) fun _ => EvP.some trivial)
    rw [strEq_nil, strEq_nil] at hc
    simp only [Bool.and_eq_true, Bool.not_eq_true', decide_eq_false_iff_not] at hc
    refine EvP.bind ((T43 _).evP.mono fun r hr => ?_)
    subst hr
    refine EvP.bind ((T43 _).evP.mono fun r hr => ?_)
    subst hr
    refine EvP.cond (fun _ => EvP.some trivial) fun _ => EvP.cond (fun _ => EvP.some trivial) fun _ => ?_
    have h1 := decN_le a
    have h2 := decN_le b
    have h3 := decN_pos a (by omega)
    refine EvP.guard (cutOK_mk (by omega) (by omega) (by omega)) (EvP.guard (cutOK_mk (by omega) (by omega) (by omega)) ?_)
    cases n with
    | zero => omega
    | succ n => exact T33_l1 n _ _ (by rw [size_extract']; omega)
theorem T33 (a b : ByteArray) : Tot (fun k => F33 k a b) :=
  EvP.go ((T33_l1 _ a b (Nat.le_refl _)).mono fun t _ => by
    cases t with
    | ret r => trivial
    | out v => exact EvP.cond (fun _ => EvP.some trivial) fun _ => EvP.cond (fun _ => EvP.some trivial) fun _ => EvP.some trivial)

theorem T23 (s : Span) : Tot (fun k => F23 k s) := by
  refine EvP.bind ((EvP.opt (fun _ => T32 _) fun _ => trivial).mono fun r _ => ?_)
  refine EvP.cond (fun _ => EvP.some trivial) fun _ => ?_
  refine EvP.bind ((EvP.opt (fun _ => T32 _) fun _ => trivial).mono fun r _ => ?_)
  exact EvP.bind ((EvP.opt (fun _ => T33 _ _) fun _ => trivial).mono fun r _ => EvP.some trivial)

theorem T42_l1 (l : List Span) (hl : l.length ≤ 8) : ∀ (n i : Nat) (s : ByteArray), i + n = l.length → Tot (fun k => F42_l1 l k (s, (i : Int)))
  | n, i, s, hn => by
    refine EvP.succ (fun k => by rw [F42_l1]) (EvP.cond (fun hc => ?_) fun _ => EvP.some trivial)
    rw [ltI_nat] at hc
    have hi : i < l.length := of_decide_eq_true hc
    refine EvP.guard (inR_mk hi) (EvP.bind ((T23 _).mono fun r _ => ?_))
    refine EvP.cond (fun _ => EvP.some trivial) fun _ => ?_
    rw [i64z (by omega)]
    cases n with
    | zero => omega
    | succ n => exact T42_l1 l hl n (i + 1) _ (by omega)
theorem T42 (l : List Span) (hl : l.length ≤ 8) : Tot (fun k => F42 k l) :=
  EvP.go ((T42_l1 l hl _ 0 _ (Nat.zero_add _)).mono fun t _ => by cases t with | ret r => trivial | out v => exact EvP.some trivial)

theorem T46_41 (l : List Place) (p : Place) (hl : l.length ≤ 8) : Tot (fun k => F46_41 k l p) :=
  (idx_ev (f := F46_41_l1 l p) (q := fun x => eqI x.mShard p.mShard) (p := fun k x => F41 k x p) (by omega) (fun _ => rfl) (fun _ _ => rfl) fun x _ => Ev.of fun _ => rfl).tot
theorem T40_41 (l : List Place) (p : Place) (hl : l.length ≤ 8) : Tot (fun k => F40_41 k l p) :=
  EvP.bind ((T46_41 l p hl).mono fun _ _ => EvP.some trivial)

theorem T30_l1 (l : List Place) (hl : l.length ≤ 8) : ∀ (n i : Nat) (s : List Span), i + n = l.length → s.length = i → EvP (fun k => F30_l1 l k (s, (i : Int))) (fun t => match t with | .ret _ => True | .out v => v.length ≤ 8)
  | n, i, s, hn, hs => by
    refine EvP.succ (fun k => by rw [F30_l1]) (EvP.cond (fun hc => ?_) fun _ => EvP.some (show s.length ≤ 8 by omega))
    rw [ltI_nat] at hc
    have hi : i < l.length := of_decide_eq_true hc
    refine EvP.guard (inR_mk hi) (EvP.bind (EvP.some ?_))
    refine EvP.bind ((EvP.opt (fun _ => EvP.some trivial) fun _ => trivial : EvP _ fun _ => True).mono fun r _ => ?_)
    refine EvP.bind ((EvP.opt (fun _ => EvP.some trivial) fun _ => trivial : EvP _ fun _ => True).mono fun r _ => ?_)
    refine EvP.cond (fun _ => EvP.some trivial) fun _ => ?_
    refine EvP.guard (cutOK_mk (by omega) (by omega) (by omega)) ?_
    refine EvP.bind ((T40_41 _ _ (by simp; omega)).mono fun r _ => ?_)
    refine EvP.cond (fun _ => EvP.some trivial) fun _ => ?_
    refine EvP.guard (appOK_mk (by simp; omega) (by simp; omega)) ?_
    rw [i64z (by omega)]
    cases n with
    | zero => omega
    | succ n => exact T30_l1 l hl n (i + 1) _ (by omega) (by simp; omega)
theorem T30 (l : List Place) : Tot (fun k => F30 k l) := by
  refine EvP.cond (fun _ => EvP.some trivial) fun h => ?_
  rw [ltI_false] at h
  refine EvP.go ((T30_l1 l (by omega) _ 0 [] (Nat.zero_add _) rfl).mono fun t ht => ?_)
  cases t with
  | ret r => trivial
  | out v => exact EvP.bind ((T42 v ht).mono fun _ _ => EvP.some trivial)
/-- An atlas that is right is short. -/
theorem S30 (l : List Place) (k : Nat) (h : F30 k l = some true) : l.length ≤ 8 := by
  unfold F30 at h
  cases hc : ltI 8 (l.length : Int) with
  | true => rw [hc] at h; cases h
  | false => rw [ltI_false] at hc; omega

theorem T26_31 (l : List Int) (hl : l.length ≤ 1000) : Tot (fun k => F26_31 k l) :=
  (any_ev (idx_ev (f := F36_31_l1 l) (q := fun x => ltI x 1 || ltI 3 x) (p := fun k x => F31 k x) (by omega) (fun _ => rfl) (fun _ _ => rfl) fun x _ => Ev.of fun _ => rfl)).tot
/-- Known places are few, and three lead. -/
theorem T17 (l : List Place) (s : List Int) : EvP (fun k => F17 k l s) fun b => b = true → l.length ≤ 8 ∧ s.length = 3 := by
  obtain ⟨b, hb, _⟩ := T30 l
  have hs : b = true → l.length ≤ 8 := fun e => by
    subst e
    obtain ⟨k, hk⟩ := hb.get
    exact S30 l k hk
  refine EvP.bind (EvP.mono (P := (· = b)) ⟨b, hb, rfl⟩ fun r hr => ?_)
  subst hr
  refine EvP.bind ((EvP.opt (fun h => T26_31 _ ?_) fun _ => trivial).mono fun r _ => EvP.some fun h => ?_)
  · rw [Bool.and_eq_true, eqI_iff] at h; omega
  · rw [Bool.and_eq_true, Bool.and_eq_true, eqI_iff] at h
    exact ⟨hs h.1.1, by have := h.1.2; omega⟩

theorem T34 (n : Int) (l : List Int) (hl : l.length ≤ 1000) : Tot (fun k => F34 k n l) :=
  EvP.bind ((any_ev (idx_ev (f := F36_45_l1 l n) (q := fun x => ltI x n || ltI 1099511627776 x) (p := fun k x => F45 k x n) (by omega) (fun _ => rfl) (fun _ _ => rfl) fun x _ => Ev.of fun _ => rfl)).tot.mono fun _ _ => EvP.some trivial)
theorem T29 (s : Stamp) : Tot (fun k => F29 k s) := by
  refine EvP.bind (EvP.some ?_)
  refine EvP.bind ((EvP.opt (fun _ => EvP.some trivial) fun _ => trivial : EvP _ fun _ => True).mono fun r _ => ?_)
  exact EvP.bind ((EvP.opt (fun _ => EvP.some trivial) fun _ => trivial : EvP _ fun _ => True).mono fun r _ => EvP.some trivial)
theorem T13 (c : Client) (h0 : c.mReq.mReq = 0) : Tot (fun k => F13 k c) := by
  refine EvP.cond (fun _ => EvP.some trivial) fun _ => EvP.bnd ?_
  refine EvP.bind ((EvP.opt (fun _ => (T17 _ _).tot) fun _ => trivial).mono fun r _ => ?_)
  refine EvP.cond (fun _ => EvP.some trivial) fun _ => EvP.cond (fun _ => EvP.some trivial) fun h => ?_
  rw [h0] at h; cases h

theorem T27_l1 (m : Msg) (hl : m.mPlaces.length ≤ 8) : ∀ (n i : Nat) (s : List Int), i + n = m.mPlaces.length → s.length = 13 + 3 * i → EvP (fun k => F27_l1 m k (s, (i : Int))) (fun r => r.length ≤ 40)
  | n, i, s, hn, hs => by
    refine EvP.succ (fun k => by rw [F27_l1]) (EvP.cond (fun hc => ?_) fun _ => EvP.some (show s.length ≤ 40 by omega))
    rw [ltI_nat] at hc
    have hi : i < m.mPlaces.length := of_decide_eq_true hc
    refine EvP.guard (inR_mk hi) (EvP.guard (appOK_mk (by simp; omega) (by simp; omega)) ?_)
    rw [i64z (by omega)]
    cases n with
    | zero => omega
    | succ n => exact T27_l1 m hl n (i + 1) _ (by omega) (by simp; omega)
theorem T16 (m : Msg) : Tot (fun k => F16 k m) := by
  refine EvP.cond (fun _ => EvP.some trivial) fun h => ?_
  simp only [Bool.or_eq_false_iff, ltI_false] at h
  refine EvP.bind (EvP.mono (P := fun r => r.length ≤ 1000) ?_ fun l hl => ?_)
  · refine EvP.bind ((T27_l1 m (by omega) _ 0 _ (Nat.zero_add _) rfl).mono fun r hr => EvP.guard (appOK_mk (by omega) (by omega)) (EvP.some ?_))
    simp; omega
  · refine EvP.bind ((any_ev (idx_ev (f := F36_28_l1 l) (q := fun x => ltI x 0 || ltI 1099511627776 x) (p := fun k x => F28 k x) (by omega) (fun _ => rfl) (fun _ _ => rfl) fun x _ => Ev.of fun _ => rfl)).tot.mono fun r _ => ?_)
    refine EvP.cond (fun _ => EvP.some trivial) fun _ => ?_
    refine EvP.bind ((T29 _).mono fun r _ => ?_)
    refine EvP.bind ((EvP.opt (fun _ => T29 _) fun _ => trivial).mono fun r _ => ?_)
    exact EvP.bind ((EvP.opt (fun _ => T29 _) fun _ => trivial).mono fun r _ => EvP.some trivial)

theorem T7 (c : Client) (h0 : c.mReq.mReq = 0) : EvP (fun k => F7 k c) fun r => r.1 = c ∧ r.2.1 = [] ∧ r.2.2.mDone = false := by
  refine EvP.bind ((T13 c h0).mono fun b _ => ?_)
  refine EvP.cond (fun _ => EvP.some ⟨rfl, rfl, rfl⟩) fun h => ?_
  rw [Bool.or_eq_false_iff, h0] at h; cases h.2

theorem T8 (c : Client) (m : Msg) (h0 : c.mReq.mReq = 0) : EvP (fun k => F8 k c m) fun r => r.1.mID = c.mID ∧ r.1.mNext = c.mNext ∧ r.1.mReq = c.mReq ∧ r.2.1 = [] ∧ r.2.2.mDone = false := by
  have e0 : eqI c.mReq.mReq 0 = true := eqI_iff.2 h0
  refine EvP.bind ((T13 c h0).mono fun b _ => ?_)
  refine EvP.bind ((EvP.opt (fun _ => T16 m) fun _ => trivial).mono fun b2 _ => ?_)
  refine EvP.cond (fun _ => EvP.some ⟨rfl, rfl, rfl, rfl, rfl⟩) fun _ => EvP.cond (fun _ => ?_) fun _ => EvP.cond (fun _ => ?_) fun _ => EvP.cond (fun _ => ?_) fun _ => EvP.some ⟨rfl, rfl, rfl, rfl, rfl⟩
  · refine EvP.bind ((T17 _ _).mono fun b hb => ?_)
    refine EvP.cond (fun _ => EvP.some ⟨rfl, rfl, rfl, rfl, rfl⟩) fun h => ?_
    obtain ⟨h1, h2⟩ := hb (by simpa using h)
    refine EvP.bind (EvP.guard (appOK_mk (by simp; omega) (by simp; omega)) (EvP.some ?_))
    refine EvP.bind (EvP.guard (appOK_mk (by simp; omega) (by simp; omega)) (EvP.some ?_))
    refine EvP.cond (fun h => ?_) fun _ => EvP.some ⟨rfl, rfl, rfl, rfl, rfl⟩
    rw [e0] at h; cases h
  · refine EvP.cond (fun _ => EvP.some ⟨rfl, rfl, rfl, rfl, rfl⟩) fun h => ?_
    rw [e0] at h; cases h
  · refine EvP.cond (fun h => ?_) fun _ => EvP.some ⟨rfl, rfl, rfl, rfl, rfl⟩
    rw [e0] at h; cases h

theorem q_refl (r : Request) : qRequest r r = true := by simp [qRequest, qStamp, eqI, strEq]
theorem qp_refl (p : Place) : qPlace p p = true := by simp [qPlace, qSpan, eqI, strEq]
theorem T20_l1 (l : List Place) (hl : l.length ≤ 40) : ∀ (n i : Nat), i + n = l.length → EvP (fun k => F20_l1 l l k (i : Int)) (fun t => t = .out ())
  | n, i, hn => by
    refine EvP.succ (fun k => by rw [F20_l1]) (EvP.cond (fun hc => ?_) fun _ => EvP.some rfl)
    rw [ltI_nat] at hc
    have hi : i < l.length := of_decide_eq_true hc
    refine EvP.guard (inR_mk hi) (EvP.guard (inR_mk hi) (EvP.cond (fun h => ?_) fun _ => ?_))
    · rw [qp_refl] at h; cases h
    · rw [i64z (by omega)]
      cases n with
      | zero => omega
      | succ n => exact T20_l1 l hl n (i + 1) (by omega)
theorem T20 (l : List Place) (hl : l.length ≤ 40) : EvP (fun k => F20 k l l) (· = true) := by
  refine EvP.cond (fun h => ?_) fun _ => ?_
  · simp [eqI] at h
  · refine EvP.go ((T20_l1 l hl _ 0 (Nat.zero_add _)).mono fun t ht => ?_)
    subst ht; exact EvP.some rfl
theorem T9_l1 (c : Client) (hl : c.mLeads.length ≤ 40) : ∀ (n i : Nat), i + n = c.mLeads.length → EvP (fun k => F9_l1 c c k (i : Int)) (fun t => t = .out ())
  | n, i, hn => by
    refine EvP.succ (fun k => by rw [F9_l1]) (EvP.cond (fun hc => ?_) fun _ => EvP.some rfl)
    rw [ltI_nat] at hc
    have hi : i < c.mLeads.length := of_decide_eq_true hc
    refine EvP.guard (inR_mk hi) (EvP.guard (inR_mk hi) (EvP.cond (fun h => ?_) fun _ => ?_))
    · simp [eqI] at h
    · rw [i64z (by omega)]
      cases n with
      | zero => omega
      | succ n => exact T9_l1 c hl n (i + 1) (by omega)
theorem T9 (c : Client) (h1 : c.mPlaces.length ≤ 40) (h2 : c.mLeads.length ≤ 40) : EvP (fun k => F9 k c c) (· = true) := by
  refine EvP.cond (fun h => ?_) fun _ => ?_
  · simp [eqI] at h
  · refine EvP.go ((T9_l1 c h2 _ 0 (Nat.zero_add _)).mono fun t ht => ?_)
    subst ht
    refine EvP.bind ((EvP.opt (fun _ => T20 _ h1) fun h => ?_).mono fun r hr => EvP.some ?_)
    · simp [eqI] at h
    · subst hr; simp [eqI, q_refl]

theorem law (c : Client) (m : Msg) : EvP (fun k => F3 k c m) (· = true) := by
  refine EvP.bind (EvP.some ?_)
  refine EvP.bind (EvP.mono (P := fun _ => True) (EvP.opt (fun _ => EvP.some trivial) fun _ => trivial) fun b _ => ?_)
  refine EvP.cond (fun _ => EvP.bind (EvP.of (Ev.from 40 awake) (EvP.some rfl))) fun h => ?_
  simp only [Bool.or_eq_false_iff, Bool.not_eq_false', Bool.and_eq_true, leI_iff, eqI_iff] at h
  obtain ⟨⟨h1, h2⟩, h0⟩ := h
  refine EvP.bind ((T7 c h0).mono fun x hx => ?_)
  obtain ⟨x1, x2, x3⟩ := x
  obtain ⟨rfl, rfl, hx3⟩ := hx
  refine EvP.bind ((T8 x1 m h0).mono fun y hy => ?_)
  obtain ⟨y1, y2, y3⟩ := y
  obtain ⟨hy1, hy2, hy3, hy4, hy5⟩ := hy
  simp only at hy1 hy2 hy3 hy4 hy5 hx3 h1
  subst hy4
  refine EvP.bind (EvP.some (EvP.bind (EvP.some ?_)))
  refine EvP.bind ((T9 x1 (by omega) (by omega)).mono fun r hr => ?_)
  subst hr
  have e : (((((((true && (eqI y1.mID x1.mID)) && (eqI y1.mNext x1.mNext)) && (qRequest y1.mReq x1.mReq)) && (eqI (IntKind.wrap .i64 ((([] : List Msg).length : Int) + (([] : List Msg).length : Int))) 0)) && (!x3.mDone)) && (!y3.mDone))) = true := by
    rw [hy1, hy2, hy3, hx3, hy5, q_refl]; simp [eqI]; rfl
  rw [e]
  exact EvP.bind (EvP.of (Ev.from 40 awake) (EvP.some rfl))
end Go.Proofs.Cq
