/- How keys and stamps are ordered, on both sides. No program in sight. -/
import Derived.Test.YthhpelmjnmlgjaaGreatDoorGdAsks
import Derived.Test.YthhpelmjnmlgjaaGreatDoorAwpKey2
set_option linter.unusedVariables false
set_option linter.unusedSimpArgs false
namespace Go.Proofs.Gd
open Go Go.Awp

theorem dec_pair (s : ByteArray) (h : 0 < s.size) : decR s = ((Utf8.decode s 0).1 : Nat) ∧ decN s = ((Utf8.decode s 0).2 : Nat) := by
  have := decR_ext s 0 h
  rwa [ext_zero] at this

/-- What key.Compare's loop leaves. -/
def endsK (a b : ByteArray) (t : LR Int (ByteArray × ByteArray)) : Prop := match t with
  | .ret r => r = cmpK a b
  | .out (x, y) => cmpK x y = cmpK a b ∧ (x.size = 0 ∨ y.size = 0)
theorem V124_l1 (a0 b0 : ByteArray) : ∀ (n : Nat) (a b : ByteArray), a.size ≤ n → cmpK a b = cmpK a0 b0 → EvP (fun k => F124_l1 k (a, b)) (endsK a0 b0)
  | n, a, b, hn, he => by
    refine EvP.succ (fun k => by rw [F124_l1]) (EvP.cond (fun hc => ?_) fun hc => ?_)
    · rw [strEq_nil, strEq_nil] at hc
      simp only [Bool.and_eq_true, Bool.not_eq_true', decide_eq_false_iff_not] at hc
      have ha : 0 < a.size := by omega
      have hb : 0 < b.size := by omega
      refine EvP.bind ((T153 _).evP.mono fun r hr => ?_)
      subst hr
      refine EvP.bind ((T153 _).evP.mono fun r hr => ?_)
      subst hr
      show EvP (fun k => bif ltI (decR a) (decR b) then _ else _) _
      rw [(dec_pair a ha).1, (dec_pair b hb).1, (dec_pair a ha).2, (dec_pair b hb).2, ltI_nat, ltI_nat]
      have hk : cmpK a b = if (Utf8.decode a 0).1 < (Utf8.decode b 0).1 then -1 else if (Utf8.decode b 0).1 < (Utf8.decode a 0).1 then 1 else cmpK (a.extract (Utf8.decode a 0).2 a.size) (b.extract (Utf8.decode b 0).2 b.size) := by
        unfold cmpK
        rw [runes_cons a ha, runes_cons b hb, cmpL]
      refine EvP.cond (fun h1 => EvP.some ?_) fun h1 => EvP.cond (fun h2 => EvP.some ?_) fun h2 => ?_
      · rw [if_pos (of_decide_eq_true h1)] at hk
        show (-1 : Int) = _
        rw [← he, hk]
      · rw [if_neg (of_decide_eq_false h1), if_pos (of_decide_eq_true h2)] at hk
        show (1 : Int) = _
        rw [← he, hk]
      · rw [if_neg (of_decide_eq_false h1), if_neg (of_decide_eq_false h2)] at hk
        have d1 := dec_le a 0 ha
        have d2 := dec_le b 0 hb
        have d3 := dec_pos a 0
        refine EvP.guard (cutOK_mk (by omega) (by omega) (by omega)) (EvP.guard (cutOK_mk (by omega) (by omega) (by omega)) ?_)
        rw [Int.toNat_natCast, Int.toNat_natCast, Int.toNat_natCast, Int.toNat_natCast]
        cases n with
        | zero => omega
        | succ n => exact V124_l1 a0 b0 n _ _ (by rw [size_extract']; omega) (by rw [← hk]; exact he)
    · rw [strEq_nil, strEq_nil] at hc
      simp only [Bool.and_eq_false_iff, Bool.not_eq_false', decide_eq_true_eq] at hc
      refine EvP.some ?_
      show cmpK a b = cmpK a0 b0 ∧ (a.size = 0 ∨ b.size = 0)
      exact ⟨he, hc⟩
/-- key.Compare. -/
theorem V124 (a b : ByteArray) : Ev (fun k => F124 k a b) (cmpK a b) := by
  refine EvP.ev (EvP.go ((V124_l1 a b _ a b (Nat.le_refl _) rfl).mono fun t ht => ?_))
  cases t with
  | ret r => exact ht
  | out v =>
    obtain ⟨x, y⟩ := v
    obtain ⟨h1, h2⟩ := ht
    show EvP (fun k => bif !strEq x ⟨#[]⟩ then some 1 else bif !strEq y ⟨#[]⟩ then some (-1) else some 0) _
    rw [strEq_nil, strEq_nil]
    refine EvP.cond (fun hx => EvP.some ?_) fun hx => EvP.cond (fun hy => EvP.some ?_) fun hy => EvP.some ?_
    · rw [Bool.not_eq_true', decide_eq_false_iff_not] at hx
      have hy : y.size = 0 := by omega
      rw [← h1, cmpK, runes_nil y hy, runes_cons x (by omega), cmpL]
    · rw [Bool.not_eq_true', decide_eq_false_iff_not] at hy
      rw [Bool.not_eq_false', decide_eq_true_eq] at hx
      rw [← h1, cmpK, runes_nil x hx, runes_cons y (by omega), cmpL]
    · rw [Bool.not_eq_false', decide_eq_true_eq] at hx hy
      rw [← h1, cmpK, runes_nil x hx, runes_nil y hy, cmpL]

def ofN (l : List Nat) : List Int := l.map Int.ofNat
theorem ofN_len (l : List Nat) : (ofN l).length = l.length := List.length_map _
theorem ofN_rd (l : List Nat) (i : Nat) (h : i < l.length) : rd (ofN l) (i : Int) = ((l[i] : Nat) : Int) := by
  rw [rd_nat _ _ (by rw [ofN_len]; exact h)]
  simp [ofN]
/-- The plain decoder's list. -/
theorem letter_rune (s : ByteArray) (h : 0 < s.size) : (bif ltI (letter s).1 0 then (65533 : Int) else (letter s).1) = ((Utf8.decode s 0).1 : Nat) ∧ (letter s).2 = ((Utf8.decode s 0).2 : Nat) := by
  unfold letter
  have g0 := get_bt s 0
  have r0 := UInt8.toNat_lt (s.get! 0)
  have g0' : bt s 0 = ((s.get! 0).toNat : Int) := g0.symm
  by_cases hb : (Utf8.decode s 0).2 = 1 ∧ 128 ≤ bt s 0
  · rw [if_pos hb]
    have h1 : (Utf8.decode s 0).1 = 65533 := by
      rw [g0'] at hb
      rw [Lib.decode_at] at hb ⊢
      exact decodeN_bad _ _ _ _ _ hb.1 (by omega)
    rw [h1, hb.1]
    exact ⟨rfl, rfl⟩
  · rw [if_neg hb]
    refine ⟨?_, rfl⟩
    rw [show ltI (((Utf8.decode s 0).1 : Nat) : Int) 0 = false by rw [ltI_false]; omega]; rfl
theorem V151_l1 : ∀ (n : Nat) (s : ByteArray) (l : List Int), s.size ≤ n → (l.length + s.size) * 8 ≤ 140737488355328 → Ev (fun k => F151_l1 k (s, l)) (l ++ ofN (runes s))
  | n, s, l, hn, hl => by
    refine Ev.succ (fun k => by rw [F151_l1]) (Ev.cond (fun hc => ?_) fun hc => ?_)
    · rw [ltI_iff] at hc
      have h0 : 0 < s.size := by omega
      obtain ⟨q1, q2⟩ := letter_rune s h0
      have d1 := dec_le s 0 h0
      have d3 := dec_pos s 0
      have hr := runes_cons s h0
      refine Ev.bind (T163 s h0) ?_
      generalize (Utf8.decode s 0).2 = w at q2 d1 d3 hr
      generalize (Utf8.decode s 0).1 = c at q1 hr
      have hl2 : ofN (runes s) = (c : Int) :: ofN (runes (s.extract w s.size)) := by rw [hr]; rfl
      rw [hl2]
      have hz : (s.extract w s.size).size = s.size - w := by rw [size_extract']; omega
      cases n with
      | zero => omega
      | succ n =>
        have next := V151_l1 n (s.extract w s.size) (l ++ [(c : Int)]) (by omega) (by rw [List.length_append, List.length_singleton]; omega)
        rw [List.append_assoc] at next
        have ha : ∀ x : Int, appOK 8 l.length [x].length = true := fun x => appOK_mk (by rw [List.length_singleton]; omega) (by rw [List.length_singleton]; omega)
        have hc' : cutOK (w : Int) (s.size : Int) s.size = true := cutOK_mk (by omega) (by omega) (by omega)
        generalize letter s = L at q1 q2 ⊢
        obtain ⟨a, b⟩ := L
        simp only at q1 q2
        subst q2
        refine Ev.congr (g := fun k => F151_l1 k (s.extract w s.size, l ++ [(c : Int)])) (fun k => ?_) next
        cases hb : ltI a 0 with
        | true =>
          rw [hb, cond_true] at q1
          simp only [hb, cond_true]
          rw [ha, hc', Int.toNat_natCast, Int.toNat_natCast, q1]; rfl
        | false =>
          rw [hb, cond_false] at q1
          subst q1
          simp only [hb, cond_false]
          rw [ha, hc', Int.toNat_natCast, Int.toNat_natCast]; rfl
    · rw [ltI_false] at hc
      rw [runes_nil s (by omega)]
      exact Ev.of fun _ => by simp [ofN]
theorem V151 (s : ByteArray) (h : s.size ≤ 1000000000000) : Ev (fun k => F151 k s) (ofN (runes s)) :=
  Ev.bind (V151_l1 s.size s [] (Nat.le_refl _) (by simp; omega)) (Ev.of fun _ => by simp)
theorem runes_len (s : ByteArray) : (runes s).length ≤ s.size := by
  have : ∀ n i, (runesFrom s n i).length ≤ s.size - i := fun n => by
    induction n with
    | zero => intro i; simp [runesFrom]
    | succ n ih =>
      intro i
      rw [runesFrom]
      split
      · have := ih (i + (Utf8.decode s i).2)
        have := dec_pos s i
        rw [List.length_cons]; omega
      · simp
  have := this s.size 0
  unfold runes; omega
/-- The document's Compare. -/
theorem V119 (a b : ByteArray) (ha : a.size ≤ 1000000000000) (hb : b.size ≤ 1000000000000) : Ev (fun k => F119 k a b) (cmpK a b) := by
  refine Ev.bind (V151 a ha) (Ev.bind (V151 b hb) ?_)
  have la := runes_len a
  have lb := runes_len b
  unfold cmpK
  generalize runes a = x at la ⊢
  generalize runes b = y at lb ⊢
  have key : ∀ (m i : Nat), x.length - i ≤ m → i ≤ x.length → i ≤ y.length → Ev (fun k => (F119_l1 (ofN x) (ofN y) k (i : Int)).bind fun t => t.go fun _ => bif (ltI ((ofN x).length : Int) ((ofN y).length : Int)) then (some (-1)) else (bif (ltI ((ofN y).length : Int) ((ofN x).length : Int)) then (some 1) else (some 0))) (cmpL (x.drop i) (y.drop i)) := fun m => by
    induction m with
    | zero =>
      intro i hi h1 h2
      refine Ev.from 1 fun k => ?_
      show Option.bind (F119_l1 (ofN x) (ofN y) (k + 1) (i : Int)) _ = _
      rw [F119_l1, ofN_len, ofN_len, ltI_nat, decide_eq_false (by omega), Bool.false_and]
      show (bif ltI (x.length : Int) (y.length : Int) then some (-1) else bif ltI (y.length : Int) (x.length : Int) then some 1 else some 0) = _
      rw [List.drop_of_length_le (by omega : x.length ≤ i), ltI_nat, ltI_nat]
      by_cases hy : y.length = i
      · rw [List.drop_of_length_le (by omega : y.length ≤ i), decide_eq_false (by omega), decide_eq_false (by omega)]; rfl
      · rw [List.drop_eq_getElem_cons (by omega : i < y.length), decide_eq_true (by omega)]; rfl
    | succ m ih =>
      intro i hi h1 h2
      by_cases hx : i < x.length
      · by_cases hy : i < y.length
        · refine Ev.succ (g := fun k => (bif ltI ((x[i] : Nat) : Int) ((y[i] : Nat) : Int) then some (LR.ret (-1)) else bif ltI ((y[i] : Nat) : Int) ((x[i] : Nat) : Int) then some (LR.ret 1) else F119_l1 (ofN x) (ofN y) k ((i + 1 : Nat) : Int)).bind fun t => t.go fun _ => bif (ltI ((ofN x).length : Int) ((ofN y).length : Int)) then (some (-1)) else (bif (ltI ((ofN y).length : Int) ((ofN x).length : Int)) then (some 1) else (some 0))) (fun k => ?_) ?_
          · rw [F119_l1, ofN_rd _ _ hx, ofN_rd _ _ hy, ofN_len, ofN_len, ltI_nat, ltI_nat, decide_eq_true hx, decide_eq_true hy, inR_mk hx, inR_mk hy, i64z (by omega)]; rfl
          · rw [List.drop_eq_getElem_cons hx, List.drop_eq_getElem_cons hy, cmpL, ltI_nat, ltI_nat]
            have := ih (i + 1) (by omega) (by omega) (by omega)
            by_cases c1 : x[i] < y[i]
            · rw [if_pos c1, decide_eq_true c1]; exact Ev.of fun _ => rfl
            · rw [if_neg c1, decide_eq_false c1]
              by_cases c2 : y[i] < x[i]
              · rw [if_pos c2, decide_eq_true c2]; exact Ev.of fun _ => rfl
              · rw [if_neg c2, decide_eq_false c2]; exact this
        · refine Ev.from 1 fun k => ?_
          show Option.bind (F119_l1 (ofN x) (ofN y) (k + 1) (i : Int)) _ = _
          rw [F119_l1, ofN_len, ofN_len, ltI_nat, ltI_nat, decide_eq_true hx, decide_eq_false hy]
          show (bif ltI (x.length : Int) (y.length : Int) then some (-1) else bif ltI (y.length : Int) (x.length : Int) then some 1 else some 0) = _
          rw [List.drop_of_length_le (by omega : y.length ≤ i), List.drop_eq_getElem_cons hx, ltI_nat, ltI_nat, decide_eq_false (by omega), decide_eq_true (by omega)]; rfl
      · exact ih i (by omega) h1 h2
  exact key x.length 0 (by omega) (by omega) (by omega)

/-! ### Stamps -/
theorem cmpI_lt (a b : Int) : cmpI a b = if a < b then -1 else if b < a then 1 else 0 := by
  unfold cmpI
  by_cases h1 : a < b
  · rw [if_pos h1, ltI_iff.2 h1]; rfl
  · rw [if_neg h1, ltI_false.2 (by omega)]
    by_cases h2 : b < a
    · rw [if_pos h2, ltI_iff.2 h2]; rfl
    · rw [if_neg h2, ltI_false.2 (by omega)]; rfl
/-- Earlier. -/
def befS (s t : Stamp) : Prop := s.mWall < t.mWall ∨ (s.mWall = t.mWall ∧ (s.mTick < t.mTick ∨ (s.mTick = t.mTick ∧ s.mNode < t.mNode)))
theorem cmpS_lt (s t : Stamp) : cmpS s t < 0 ↔ befS s t := by
  unfold cmpS or3 befS
  rw [cmpI_lt, cmpI_lt, cmpI_lt]
  repeat' split
  all_goals (simp [eqI]; try omega)
end Go.Proofs.Gd
