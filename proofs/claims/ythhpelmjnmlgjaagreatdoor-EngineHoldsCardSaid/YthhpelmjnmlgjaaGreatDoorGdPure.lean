/- Layer 11's requests, as plain Lean: whether a request is right is told alike. No program in sight. -/
import Derived.Test.YthhpelmjnmlgjaaGreatDoorGdDefs
import Derived.Test.YthhpelmjnmlgjaaGreatDoorAwpKey
import Derived.KernelRfl
set_option linter.unusedVariables false
set_option linter.unusedSimpArgs false
namespace Go.Proofs.Gd
open Go Go.Awp

theorem T153 (s : ByteArray) : Ev (fun k => F153 k s) (decR s, decN s) := by
  refine Ev.from 0 fun k => ?_
  show F153 k s = _
  unfold F153 F174
  rw [strEq_nil]
  by_cases h : s.size = 0
  · simp [h]
  · have h0 : inR 0 s.size = true := by rw [inR_iff]; omega
    rw [decide_eq_false h]
    simp only [h0, Bool.not_false, Bool.not_true, Bool.false_or, Bool.true_and, cond_true]
    cases ha : ltI (bt s 0) 128 with
    | true => simp only [cond_true]; rw [dec_ascii s (by omega) (ltI_iff.1 ha)]
    | false => rfl

theorem L163 (t : ByteArray) (n : Nat) (hn : n ≤ t.size) (h4 : n ≤ 4) : ∀ (m i : Nat) (r : Int), i + m = n → 0 ≤ r → r ≤ ((1000 * 100 ^ i : Nat) : Int) → Ev (fun k => F163_l1 t n k (r, i)) (contL t m i r)
  | 0, i, r, hi, h0, h1 => by
    refine Ev.from 1 fun k => ?_
    show F163_l1 t n (k + 1) (r, (i : Int)) = _
    rw [F163_l1, ltI_nat, decide_eq_false (by omega)]
    rfl
  | m + 1, i, r, hi, h0, h1 => by
    have hp : 100 ^ i ≤ 100 ^ 4 := Nat.pow_le_pow_right (by omega) (by omega)
    have hp1 : 1 ≤ 100 ^ i := Nat.one_le_pow _ _ (by omega)
    have hb := bt_range t (i : Int)
    refine Ev.succ (fun k => by rw [F163_l1]) ?_
    rw [ltI_nat, decide_eq_true (by omega), inR_mk (by omega : i < t.size), contL]
    simp only [Bool.not_true, Bool.or_true, cond_true]
    refine Ev.cond (fun hc => ?_) fun hc => ?_
    · rw [hc]; exact Ev.of fun _ => rfl
    · rw [hc]
      simp only [cond_false]
      rw [i64z (n := bt t (i : Int)) (by omega), i64z (n := 64 * r) (by omega), i64z (n := 64 * r + bt t (i : Int)) (by omega)]
      unfold bnd
      rw [i64z (n := (i : Int) + 1) (by omega)]
      have hc' : 128 ≤ bt t (i : Int) := by
        rw [Bool.or_eq_false_iff, ltI_false] at hc; omega
      show Ev (fun k => F163_l1 t n k (IntKind.wrap .i64 (64 * r + bt t (i : Int) - 128), (i : Int) + 1)) _
      rw [i64z (n := 64 * r + bt t (i : Int) - 128) (by omega)]
      exact L163 t n hn h4 m (i + 1) (64 * r + bt t (i : Int) - 128) (by omega) (by omega) (by rw [Nat.pow_succ]; omega)

theorem T163 (t : ByteArray) (h : 0 < t.size) : Ev (fun k => F163 k t) (letter t) := by
  rw [← letter_eq t h]
  have hb := bt_range t 0
  have h0 : inR 0 t.size = true := by rw [inR_iff]; omega
  have key : ∀ (r : Int) (n : Nat) (lo : Int), 0 ≤ r → r ≤ 1000 → n ≤ 4 → Ev (fun k => bif ((eqI (n : Int) 0) || (ltI (t.size : Int) n)) then (some ((-1), 1)) else ((F163_l1 t n k (r, 1)).bind fun t => t.go fun t4_1 => bif (((ltI t4_1 lo) || (ltI 1114111 t4_1)) || ((leI 55296 t4_1) && (ltI t4_1 57344))) then (some ((-1), 1)) else (some (t4_1, (n : Int))))) (tailL t r n lo) := by
    intro r n lo g0 g1 g2
    refine Ev.cond (fun hc => ?_) fun hc => ?_
    · unfold tailL
      rw [Bool.or_eq_true, eqI_iff, ltI_iff] at hc
      rw [if_pos (by omega)]
      exact Ev.of fun _ => rfl
    · rw [Bool.or_eq_false_iff, eqI_false, ltI_false] at hc
      unfold tailL
      rw [if_neg (by omega)]
      have := L163 t n (by omega) g2 (n - 1) 1 r (by omega) g0 (by omega)
      refine Ev.bind this ?_
      cases contL t (n - 1) 1 r with
      | ret x => exact Ev.of fun _ => rfl
      | out r =>
        refine Ev.of fun _ => ?_
        show (bif (((ltI r lo) || (ltI 1114111 r)) || ((leI 55296 r) && (ltI r 57344))) then some ((-1 : Int), (1 : Int)) else some (r, (n : Int))) = some (if r < lo ∨ 1114111 < r ∨ (55296 ≤ r ∧ r < 57344) then ((-1 : Int), (1 : Int)) else (r, (n : Int)))
        by_cases hv : r < lo ∨ 1114111 < r ∨ (55296 ≤ r ∧ r < 57344)
        · rw [if_pos hv]
          have : (((ltI r lo) || (ltI 1114111 r)) || ((leI 55296 r) && (ltI r 57344))) = true := by simp only [Bool.or_eq_true, Bool.and_eq_true, ltI_iff, leI_iff]; omega
          rw [this]; rfl
        · rw [if_neg hv]
          have : (((ltI r lo) || (ltI 1114111 r)) || ((leI 55296 r) && (ltI r 57344))) = false := by
            rw [Bool.eq_false_iff]
            intro h
            simp only [Bool.or_eq_true, Bool.and_eq_true, ltI_iff, leI_iff] at h
            omega
          rw [this]; rfl
  have hw : IntKind.wrap .i64 (bt t 0) = bt t 0 := i64z (by omega)
  unfold letter0
  have b2 : ∀ {a b c : Int}, a ≤ b → b < c → (leI a b && ltI b c) = true := fun h1 h2 => by rw [leI_iff.2 h1, ltI_iff.2 h2]; rfl
  have b3 : ∀ {a b c : Int}, ¬ (a ≤ b ∧ b < c) → (leI a b && ltI b c) = false := fun h => by
    rw [Bool.eq_false_iff]; intro hh; rw [Bool.and_eq_true, leI_iff, ltI_iff] at hh; exact h hh
  by_cases h1 : bt t 0 < 128
  · rw [if_pos h1]
    refine Ev.of fun k => ?_
    unfold F163
    rw [h0, hw, ltI_iff.2 h1]; rfl
  rw [if_neg h1]
  have hf : ltI (bt t 0) 128 = false := ltI_false.2 (by omega)
  by_cases h2 : 194 ≤ bt t 0 ∧ bt t 0 < 224
  · rw [if_pos h2]
    refine Ev.congr (fun k => ?_) (key (bt t 0 - 192) 2 128 (by omega) (by omega) (by omega))
    unfold F163
    rw [h0, hw, hf, b2 h2.1 h2.2, i64z (by omega)]; rfl
  rw [if_neg h2]
  by_cases h3 : 224 ≤ bt t 0 ∧ bt t 0 < 240
  · rw [if_pos h3]
    refine Ev.congr (fun k => ?_) (key (bt t 0 - 224) 3 2048 (by omega) (by omega) (by omega))
    unfold F163
    rw [h0, hw, hf, b3 h2, b2 h3.1 h3.2, i64z (n := bt t 0 - 224) (by omega)]; rfl
  rw [if_neg h3]
  by_cases h4 : 240 ≤ bt t 0 ∧ bt t 0 < 245
  · rw [if_pos h4]
    refine Ev.congr (fun k => ?_) (key (bt t 0 - 240) 4 65536 (by omega) (by omega) (by omega))
    unfold F163
    rw [h0, hw, hf, b3 h2, b3 h3, b2 h4.1 h4.2, i64z (n := bt t 0 - 240) (by omega)]; rfl
  rw [if_neg h4]
  refine Ev.congr (fun k => ?_) (key (bt t 0) 0 0 (by omega) (by omega) (by omega))
  unfold F163
  rw [h0, hw, hf, b3 h2, b3 h3, b3 h4]; rfl

theorem T122_l1 (s : ByteArray) : ∀ (n i : Nat), s.size - i ≤ n → Ev (fun k => F122_l1 s k i) (if goodFrom s n i = true then .out () else .ret false)
  | 0, i, hn => by
    refine Ev.from 1 fun k => ?_
    show F122_l1 s (k + 1) i = _
    rw [F122_l1, nxc, decide_eq_false (by omega)]
    rfl
  | n + 1, i, hn => by
    refine Ev.succ (fun k => by rw [F122_l1]) ?_
    rw [goodFrom, nxc]
    by_cases h : i < s.size
    · rw [decide_eq_true h, cutOK_mk (by omega) (by omega) (by omega), Int.toNat_natCast, Int.toNat_natCast, if_pos h]
      refine Ev.bind (T153 _) ?_
      rw [(decR_ext s i h).1, (decR_ext s i h).2]
      show Ev (fun k => Option.bind (some _) _) _
      refine Ev.bind (Ev.of fun _ => rfl : Ev (fun k => F154 k (nxr s i) _) _) ?_
      unfold nxr
      rw [plain_dec s i h]
      cases hp : plainD (Utf8.decode s i) with
      | false => exact Ev.of fun _ => rfl
      | true => exact T122_l1 s n (nxw s i) (by have := dec_pos s i; unfold nxw; omega)
    · rw [decide_eq_false h, if_neg h]
      exact Ev.of fun _ => rfl
theorem T122 (s : ByteArray) : Ev (fun k => F122 k s) (keyR s) := by
  refine Ev.bind (T122_l1 s s.size 0 (by omega)) ?_
  unfold keyR
  cases goodFrom s s.size 0 with
  | false => exact Ev.of fun _ => rfl
  | true =>
    refine Ev.of fun _ => ?_
    show some ((leI 1 (s.size : Int)) && (leI (s.size : Int) 16)) = _
    rw [show (1 : Int) = ((1 : Nat) : Int) from rfl, show (16 : Int) = ((16 : Nat) : Int) from rfl, leI_nat, leI_nat, ← Bool.decide_and]
    rfl

theorem T130_l1 (s : ByteArray) : ∀ (n i : Nat), s.size - i ≤ n → Ev (fun k => F130_l1 k (s.extract i s.size)) (if goodFrom s n i = true then .out () else .ret false)
  | 0, i, hn => by
    refine Ev.from 1 fun k => ?_
    show F130_l1 (k + 1) _ = _
    rw [F130_l1, show (0 : Int) = ((0 : Nat) : Int) from rfl, ltI_nat, decide_eq_false (by rw [size_extract']; omega)]
    rfl
  | n + 1, i, hn => by
    refine Ev.succ (fun k => by rw [F130_l1]) ?_
    rw [goodFrom]
    have hz : (s.extract i s.size).size = s.size - i := by rw [size_extract']; omega
    by_cases h : i < s.size
    · rw [show ltI 0 ((s.extract i s.size).size : Int) = true by rw [ltI_iff]; omega, if_pos h]
      refine Ev.bind (T163 _ (by omega)) ?_
      obtain ⟨r, m, h1, h2, h3⟩ := plain_letter s i h
      rw [h1]
      refine Ev.bind (Ev.of fun _ => rfl : Ev (fun k => F164 k r) _) ?_
      rw [h2]
      cases hp : plainD (Utf8.decode s i) with
      | false => exact Ev.of fun _ => rfl
      | true =>
        have hm := h3 hp
        have hd := dec_le s i h
        rw [hm, cutOK_mk (by omega) (by omega) (by omega), Int.toNat_natCast, Int.toNat_natCast, ext_ext]
        exact T130_l1 s n _ (by have := dec_pos s i; omega)
    · rw [show ltI 0 ((s.extract i s.size).size : Int) = false by rw [ltI_false]; omega, if_neg h]
      exact Ev.of fun _ => rfl
theorem T130 (s : ByteArray) : Ev (fun k => F130 k s) (keyR s) := by
  unfold keyR
  refine Ev.cond (fun hc => ?_) fun hc => ?_
  · rw [Bool.or_eq_true, eqI_iff, ltI_iff] at hc
    rw [decide_eq_false (by omega), Bool.and_false]
    exact Ev.of fun _ => rfl
  · rw [Bool.or_eq_false_iff, eqI_false, ltI_false] at hc
    rw [decide_eq_true (by omega), Bool.and_true]
    have := T130_l1 s s.size 0 (by omega)
    rw [ext_zero] at this
    refine Ev.bind this ?_
    cases goodFrom s s.size 0 with
    | false => exact Ev.of fun _ => rfl
    | true => exact Ev.of fun _ => rfl

theorem optv {α : Type} [Inhabited α] {c : Bool} {a : Nat → Option α} {v : α} (h : c = true → Ev a v) : Ev (fun k => bif c then a k else some default) (bif c then v else default) := by
  cases c with
  | true => exact h rfl
  | false => exact Ev.of fun _ => rfl

/-! ### Requests -/
def oneB (n : Int) : Bool := leI 1 n && leI n 1099511627776
def stR (s : Stamp) : Bool := leI 0 s.mWall && (leI s.mWall 1099511627776 && (leI 0 s.mTick && (leI s.mTick 1048576 && (leI 0 s.mNode && leI s.mNode 255))))
def rqR (r : Request) : Bool :=
  (oneB r.mClient && oneB r.mReq) && !ltI r.mKind 1 && !ltI 6 r.mKind && !ltI 16 (r.mValue.size : Int) && !ltI 16 (r.mOld.size : Int) && !ltI r.mLimit 0 && !ltI 8 r.mLimit && stR r.mAt && (strEq r.mHi ⟨#[]⟩ || keyR r.mHi) &&
    (bif eqI r.mKind 6 then (strEq r.mKey ⟨#[]⟩ || keyR r.mKey) && leI 1 r.mLimit else keyR r.mKey)

theorem T57 (n : Int) (l : List Int) (hl : l.length ≤ 1000) : Ev (fun k => F57 k n l) (!(l.any fun x => ltI x n || ltI 1099511627776 x)) :=
  Ev.bind (any_ev (idx_ev (f := F152_121_l1 l n) (q := fun x => ltI x n || ltI 1099511627776 x) (p := fun k x => F121 k x n) (by omega) (fun _ => rfl) (fun _ _ => rfl) fun x _ => Ev.of fun _ => rfl)) (Ev.of fun _ => rfl)
theorem oneB_eq (x : Int) : (ltI x 1 || ltI 1099511627776 x) = !oneB x := by
  rw [Bool.eq_iff_iff]
  simp only [oneB, Bool.or_eq_true, Bool.not_eq_true', Bool.and_eq_false_iff, ltI_iff, leI_false]
theorem T57_2 (a b : Int) : Ev (fun k => F57 k 1 [a, b]) (oneB a && oneB b) := by
  have := T57 1 [a, b] (by simp)
  simp only [List.any_cons, List.any_nil, oneB_eq] at this
  cases h1 : oneB a <;> cases h2 : oneB b <;> simpa [h1, h2] using this
theorem T36 (s : Stamp) : Ev (fun k => F36 k s) (stR s) := by
  refine Ev.bind (Ev.of fun _ => rfl : Ev (fun k => F100 k _ _) _) ?_
  refine Ev.bind (optv fun _ => (Ev.of fun _ => rfl : Ev (fun k => F100 k _ _) _)) ?_
  refine Ev.bind (optv fun _ => (Ev.of fun _ => rfl : Ev (fun k => F100 k _ _) _)) ?_
  refine Ev.of fun _ => ?_
  unfold stR
  congr 1
  generalize leI 0 s.mWall = a; generalize leI s.mWall _ = b; generalize leI 0 s.mTick = c; generalize leI s.mTick _ = d; generalize leI 0 s.mNode = e; generalize leI s.mNode _ = f
  revert a b c d e f; decide
theorem T68 (s : Stamp) : Ev (fun k => F68 k s) (stR s) := by
  refine Ev.of fun _ => ?_
  unfold F68 stR
  congr 1
  generalize leI 0 s.mWall = a; generalize leI s.mWall _ = b; generalize leI 0 s.mTick = c; generalize leI s.mTick _ = d; generalize leI 0 s.mNode = e; generalize leI s.mNode _ = f
  revert a b c d e f; decide
theorem T66 (x : Int) : Ev (fun k => F66 k x) (oneB x) := Ev.of fun _ => rfl

theorem T58 (r : Request) : Ev (fun k => F58 k r) (rqR r) := by
  refine Ev.bind (T57_2 _ _) ?_
  refine Ev.bind (optv fun _ => T36 _) ?_
  refine Ev.bind (optv fun _ => T122 _) ?_
  unfold rqR
  generalize (oneB r.mClient && oneB r.mReq) = a1; generalize ltI r.mKind 1 = a2; generalize ltI 6 r.mKind = a3; generalize ltI 16 (r.mValue.size : Int) = a4; generalize ltI 16 (r.mOld.size : Int) = a5
  generalize ltI r.mLimit 0 = a6; generalize ltI 8 r.mLimit = a7; generalize stR r.mAt = a8; generalize strEq r.mHi ⟨#[]⟩ = a9; generalize keyR r.mHi = a10
  have hk := T122 r.mKey
  generalize eqI r.mKind 6 = b1; generalize strEq r.mKey ⟨#[]⟩ = b2; generalize leI 1 r.mLimit = b3
  refine Ev.cond (fun hc => Ev.of fun _ => ?_) fun hc => Ev.cond (fun h6 => ?_) fun h6 => Ev.bind hk (Ev.of fun _ => ?_)
  · congr 1
    generalize keyR r.mKey = b4
    revert hc; revert a1 a2 a3 a4 a5 a6 a7 a8 a9 a10 b1 b2 b3 b4
    decide +kernel
  · refine Ev.bind (optv fun _ => hk) (Ev.of fun _ => ?_)
    congr 1
    clear hk
    generalize keyR r.mKey = b4
    subst h6
    revert hc; revert a1 a2 a3 a4 a5 a6 a7 a8 a9 a10 b2 b3 b4
    decide +kernel
  · congr 1
    clear hk
    generalize keyR r.mKey = b4
    subst h6
    revert hc; revert a1 a2 a3 a4 a5 a6 a7 a8 a9 a10 b2 b3 b4
    decide +kernel

theorem ltI_pos (n : Nat) (a : ByteArray) (h : a.size = n) : ltI 0 (n : Int) = !strEq a ⟨#[]⟩ := by
  rw [strEq_nil, h, Bool.eq_iff_iff, ltI_iff]
  simp; omega
theorem eqI_nil (a : ByteArray) : eqI (a.size : Int) 0 = strEq a ⟨#[]⟩ := by
  rw [strEq_nil, Bool.eq_iff_iff, eqI_iff]
  simp
theorem ltI_le (x : Int) : ltI 0 x = leI 1 x := by rw [Bool.eq_iff_iff, ltI_iff, leI_iff]; omega
theorem ltI_9 (x : Int) : ltI x 9 = !ltI 8 x := by rw [Bool.eq_iff_iff, Bool.not_eq_true', ltI_iff, ltI_false]; omega
theorem leI_lt (x : Int) : leI 0 x = !ltI x 0 := by rw [Bool.eq_iff_iff, Bool.not_eq_true', leI_iff, ltI_false]
theorem leI_1 (x : Int) : leI 1 x = !ltI x 1 := by rw [Bool.eq_iff_iff, Bool.not_eq_true', leI_iff, ltI_false]

theorem awake (k : Nat) : F15 (k + 40) = some true := by kernel_rfl

end Go.Proofs.Gd
