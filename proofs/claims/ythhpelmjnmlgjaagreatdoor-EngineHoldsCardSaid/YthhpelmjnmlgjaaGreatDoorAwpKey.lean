/- One rune at the head of a text, as the model decodes it: in bytes; and as a plain decoder answers that goes byte by byte. No program in sight. -/
import Derived.Test.YthhpelmjnmlgjaaGreatDoorAwpUtfEv
import Derived.KernelRfl
set_option linter.unusedSimpArgs false
set_option linter.unusedVariables false
namespace Go.Awp

theorem get_bt (s : ByteArray) (i : Nat) : ((s.get! i).toNat : Int) = bt s (i : Int) := by
  unfold bt
  rw [Int.toNat_natCast]
  cases s with
  | mk d =>
    show ((d[i]!).toNat : Int) = _
    by_cases h : i < d.size
    · have h' : i < (ByteArray.mk d).size := h
      rw [getElem!_pos d i h, (getElem?_pos (ByteArray.mk d) i h' : (ByteArray.mk d)[i]? = _)]; rfl
    · have h' : ¬ i < (ByteArray.mk d).size := h
      rw [getElem!_neg d i h, (getElem?_neg (ByteArray.mk d) i h' : (ByteArray.mk d)[i]? = _)]; rfl

theorem bt_ext (s : ByteArray) (i j : Nat) : bt (s.extract i s.size) (j : Int) = bt s ((i + j : Nat) : Int) := by
  unfold bt
  rw [Int.toNat_natCast, Int.toNat_natCast]
  by_cases h : i + j < s.size
  · have h1 : j < (s.extract i s.size).size := by rw [size_extract']; omega
    rw [(getElem?_pos _ j h1 : (s.extract i s.size)[j]? = _), (getElem?_pos _ (i + j) h : s[i + j]? = _), ByteArray.getElem_extract]
  · have h1 : ¬ j < (s.extract i s.size).size := by rw [size_extract']; omega
    rw [(getElem?_neg _ j h1 : (s.extract i s.size)[j]? = _), (getElem?_neg _ (i + j) h : s[i + j]? = _)]
theorem get_ext (s : ByteArray) (i j : Nat) : (s.extract i s.size).get! j = s.get! (i + j) := by
  have h1 := get_bt (s.extract i s.size) j
  rw [bt_ext, ← get_bt] at h1
  exact UInt8.toNat_inj.1 (by omega)
theorem dec_ext (s : ByteArray) (i : Nat) : Utf8.decode (s.extract i s.size) 0 = Utf8.decode s i := by
  rw [Lib.decode_at, Lib.decode_at, size_extract', Nat.min_self, get_ext, get_ext, get_ext, get_ext]
  simp
theorem decR_ext (s : ByteArray) (i : Nat) (h : i < s.size) : decR (s.extract i s.size) = ((Utf8.decode s i).1 : Nat) ∧ decN (s.extract i s.size) = ((Utf8.decode s i).2 : Nat) := by
  unfold decR decN Lib.decodeGo
  rw [if_neg (by rw [size_extract']; omega), dec_ext]
  exact ⟨rfl, rfl⟩
theorem bt_range (s : ByteArray) (i : Int) : 0 ≤ bt s i ∧ bt s i < 256 := by
  unfold bt
  have := UInt8.toNat_lt (((s[i.toNat]?).getD 0))
  omega

/-- What a decoder that goes byte by byte has behind m more bytes. -/
def contL (t : ByteArray) : Nat → Nat → Int → LR (Int × Int) Int
  | 0, _, r => .out r
  | m + 1, i, r => bif ltI (bt t (i : Nat)) 128 || ltI 191 (bt t (i : Nat)) then .ret (-1, 1) else contL t m (i + 1) (64 * r + bt t (i : Nat) - 128)

/-- A rune and its width; -1 and 1: there is none. -/
def letter (t : ByteArray) : Int × Int := if (Utf8.decode t 0).2 = 1 ∧ 128 ≤ bt t 0 then (-1, 1) else (((Utf8.decode t 0).1 : Nat), ((Utf8.decode t 0).2 : Nat))

/-- The plain decoder, in its own words: behind the first byte; the whole. -/
def tailL (t : ByteArray) (r : Int) (n : Nat) (lo : Int) : Int × Int :=
  if n = 0 ∨ t.size < n then (-1, 1) else match contL t (n - 1) 1 r with
    | .ret x => x
    | .out r => if r < lo ∨ 1114111 < r ∨ (55296 ≤ r ∧ r < 57344) then (-1, 1) else (r, n)
def letter0 (t : ByteArray) : Int × Int :=
  if bt t 0 < 128 then (bt t 0, 1) else if 194 ≤ bt t 0 ∧ bt t 0 < 224 then tailL t (bt t 0 - 192) 2 128 else if 224 ≤ bt t 0 ∧ bt t 0 < 240 then tailL t (bt t 0 - 224) 3 2048
  else if 240 ≤ bt t 0 ∧ bt t 0 < 245 then tailL t (bt t 0 - 240) 4 65536 else tailL t (bt t 0) 0 0

theorem dN1 (n b0 b1 b2 b3 : Nat) (h : b0 < 128) : Lib.decodeN n b0 b1 b2 b3 = (b0, 1) := by unfold Lib.decodeN; rw [if_pos h]
theorem dN2 (n b0 b1 b2 b3 : Nat) (h : 194 ≤ b0 ∧ b0 < 224) : Lib.decodeN n b0 b1 b2 b3 = if 1 < n ∧ b1 / 64 = 2 then (b0 % 32 * 64 + b1 % 64, 2) else (65533, 1) := by
  unfold Lib.decodeN
  have e1 : (b0 / 32 = 6) = True := eq_true (by omega)
  have e2 : (b0 / 16 = 14) = False := eq_false (by omega)
  have e3 : (b0 / 8 = 30) = False := eq_false (by omega)
  have e4 : (b0 % 32 * 64 + b1 % 64 ≥ 128) = True := eq_true (by omega)
  rw [if_neg (by omega)]
  simp only [e1, e2, e3, e4, true_and, false_and, if_false, if_true]
theorem dN3 (n b0 b1 b2 b3 : Nat) (h : 224 ≤ b0 ∧ b0 < 240) : Lib.decodeN n b0 b1 b2 b3 = if (1 < n ∧ b1 / 64 = 2) ∧ (2 < n ∧ b2 / 64 = 2) then
    (if b0 % 16 * 4096 + b1 % 64 * 64 + b2 % 64 ≥ 2048 ∧ (b0 % 16 * 4096 + b1 % 64 * 64 + b2 % 64 < 55296 ∨ (57344 ≤ b0 % 16 * 4096 + b1 % 64 * 64 + b2 % 64 ∧ b0 % 16 * 4096 + b1 % 64 * 64 + b2 % 64 ≤ 1114111)) then (b0 % 16 * 4096 + b1 % 64 * 64 + b2 % 64, 3) else (65533, 1)) else (65533, 1) := by
  unfold Lib.decodeN
  have e1 : (b0 / 32 = 6) = False := eq_false (by omega)
  have e2 : (b0 / 16 = 14) = True := eq_true (by omega)
  have e3 : (b0 / 8 = 30) = False := eq_false (by omega)
  rw [if_neg (by omega)]
  simp only [e1, e2, e3, true_and, false_and, if_false, if_true]
theorem dN4 (n b0 b1 b2 b3 : Nat) (h : 240 ≤ b0 ∧ b0 < 245) : Lib.decodeN n b0 b1 b2 b3 = if (1 < n ∧ b1 / 64 = 2) ∧ (2 < n ∧ b2 / 64 = 2) ∧ (3 < n ∧ b3 / 64 = 2) then
    (if b0 % 8 * 262144 + b1 % 64 * 4096 + b2 % 64 * 64 + b3 % 64 ≥ 65536 ∧ (b0 % 8 * 262144 + b1 % 64 * 4096 + b2 % 64 * 64 + b3 % 64 < 55296 ∨ (57344 ≤ b0 % 8 * 262144 + b1 % 64 * 4096 + b2 % 64 * 64 + b3 % 64 ∧ b0 % 8 * 262144 + b1 % 64 * 4096 + b2 % 64 * 64 + b3 % 64 ≤ 1114111)) then (b0 % 8 * 262144 + b1 % 64 * 4096 + b2 % 64 * 64 + b3 % 64, 4) else (65533, 1)) else (65533, 1) := by
  unfold Lib.decodeN
  have e1 : (b0 / 32 = 6) = False := eq_false (by omega)
  have e2 : (b0 / 16 = 14) = False := eq_false (by omega)
  have e3 : (b0 / 8 = 30) = True := eq_true (by omega)
  rw [if_neg (by omega)]
  simp only [e1, e2, e3, true_and, false_and, if_false, if_true]
theorem dNx (n b0 b1 b2 b3 : Nat) (h : 128 ≤ b0) (h1 : ¬ (194 ≤ b0 ∧ b0 < 224)) (h2 : ¬ (224 ≤ b0 ∧ b0 < 240)) (h3 : ¬ (240 ≤ b0 ∧ b0 < 245)) (h4 : b0 < 256) : Lib.decodeN n b0 b1 b2 b3 = (65533, 1) := by
  unfold Lib.decodeN
  rw [if_neg (by omega)]
  by_cases ha : b0 / 32 = 6
  · have e2 : (b0 / 16 = 14) = False := eq_false (by omega)
    have e3 : (b0 / 8 = 30) = False := eq_false (by omega)
    have e4 : (b0 % 32 * 64 + b1 % 64 ≥ 128) = False := eq_false (by omega)
    simp only [e2, e3, e4, false_and, if_false]
    split <;> rfl
  · have e2 : (b0 / 16 = 14) = False := eq_false (by omega)
    simp only [ha, e2, false_and, if_false]
    by_cases hb : b0 / 8 = 30
    · have e5 : (b0 % 8 * 262144 + b1 % 64 * 4096 + b2 % 64 * 64 + b3 % 64 ≥ 65536 ∧ (b0 % 8 * 262144 + b1 % 64 * 4096 + b2 % 64 * 64 + b3 % 64 < 55296 ∨ (57344 ≤ b0 % 8 * 262144 + b1 % 64 * 4096 + b2 % 64 * 64 + b3 % 64 ∧ b0 % 8 * 262144 + b1 % 64 * 4096 + b2 % 64 * 64 + b3 % 64 ≤ 1114111))) = False := eq_false (by omega)
      simp only [e5, if_false]
      split <;> rfl
    · simp only [hb, false_and, if_false]

theorem contB (b : Nat) (h : b < 256) : (ltI (b : Int) 128 || ltI 191 (b : Int)) = !decide (b / 64 = 2) := by
  rw [Bool.eq_iff_iff]
  simp only [Bool.or_eq_true, ltI_iff, Bool.not_eq_true', decide_eq_false_iff_not]
  omega

theorem letter_eq (t : ByteArray) (h : 0 < t.size) : letter0 t = letter t := by
  unfold letter
  rw [Lib.decode_at, Nat.sub_zero]
  have g0 := get_bt t 0
  have g1 := get_bt t 1
  have g2 := get_bt t 2
  have g3 := get_bt t 3
  simp only [Nat.zero_add] at g0 g1 g2 g3 ⊢
  have r0 := UInt8.toNat_lt (t.get! 0)
  have r1 := UInt8.toNat_lt (t.get! 1)
  have r2 := UInt8.toNat_lt (t.get! 2)
  have r3 := UInt8.toNat_lt (t.get! 3)
  generalize (t.get! 0).toNat = b0 at *
  generalize (t.get! 1).toNat = b1 at *
  generalize (t.get! 2).toNat = b2 at *
  generalize (t.get! 3).toNat = b3 at *
  have e0 : bt t 0 = b0 := g0.symm
  have e1 : bt t ((1 : Nat) : Int) = b1 := g1.symm
  have e2 : bt t ((1 + 1 : Nat) : Int) = b2 := g2.symm
  have e3 : bt t ((1 + 1 + 1 : Nat) : Int) = b3 := g3.symm
  clear g0 g1 g2 g3
  unfold letter0
  rw [e0]
  have bad : ∀ {x : Int × Int}, Lib.decodeN t.size b0 b1 b2 b3 = (65533, 1) → 128 ≤ b0 → x = (-1, 1) → x = if (Lib.decodeN t.size b0 b1 b2 b3).2 = 1 ∧ (128 : Int) ≤ b0 then ((-1 : Int), (1 : Int)) else ((((Lib.decodeN t.size b0 b1 b2 b3).1 : Nat) : Int), (((Lib.decodeN t.size b0 b1 b2 b3).2 : Nat) : Int)) := fun hd h hx => by
    rw [hd, if_pos ⟨rfl, by omega⟩, hx]
  have good : ∀ {x : Int × Int} (r n : Nat), Lib.decodeN t.size b0 b1 b2 b3 = (r, n) → 1 < n ∨ b0 < 128 → x = ((r : Int), (n : Int)) → x = if (Lib.decodeN t.size b0 b1 b2 b3).2 = 1 ∧ (128 : Int) ≤ b0 then ((-1 : Int), (1 : Int)) else ((((Lib.decodeN t.size b0 b1 b2 b3).1 : Nat) : Int), (((Lib.decodeN t.size b0 b1 b2 b3).2 : Nat) : Int)) := fun r n hd h hx => by
    rw [hd, if_neg (by simp only; omega), hx]
  by_cases h0 : b0 < 128
  · exact good b0 1 (dN1 _ _ _ _ _ h0) (.inr h0) (by rw [if_pos (by omega)]; rfl)
  rw [if_neg (by omega : ¬ (b0 : Int) < 128)]
  by_cases h1 : 194 ≤ b0 ∧ b0 < 224
  · rw [if_pos (by omega : (194 : Int) ≤ b0 ∧ (b0 : Int) < 224)]
    have hd := dN2 t.size b0 b1 b2 b3 h1
    unfold tailL
    by_cases hs : t.size < 2
    · rw [if_neg (by omega)] at hd
      exact bad hd (by omega) (by rw [if_pos (.inr hs)])
    simp only [contL, e1, contB b1 r1, Nat.add_one_sub_one]
    by_cases hc : b1 / 64 = 2
    · rw [if_pos ⟨by omega, hc⟩] at hd
      refine good _ _ hd (.inl (by omega)) ?_
      rw [if_neg (by omega), decide_eq_true hc]
      simp only [Bool.not_true, cond_false]
      rw [if_neg (by omega)]
      refine Prod.ext ?_ rfl
      show (_ : Int) = ((_ : Nat) : Int)
      omega
    · rw [if_neg (fun x => hc x.2)] at hd
      exact bad hd (by omega) (by rw [if_neg (by omega), decide_eq_false hc]; rfl)
  rw [if_neg (by omega : ¬ ((194 : Int) ≤ b0 ∧ (b0 : Int) < 224))]
  by_cases h2 : 224 ≤ b0 ∧ b0 < 240
  · rw [if_pos (by omega : (224 : Int) ≤ b0 ∧ (b0 : Int) < 240)]
    have hd := dN3 t.size b0 b1 b2 b3 h2
    unfold tailL
    by_cases hs : t.size < 3
    · rw [if_neg (by omega)] at hd
      exact bad hd (by omega) (by rw [if_pos (.inr hs)])
    simp only [contL, e1, e2, contB b1 r1, contB b2 r2, Nat.add_one_sub_one]
    by_cases hc : b1 / 64 = 2
    · by_cases hc2 : b2 / 64 = 2
      · rw [if_pos ⟨⟨by omega, hc⟩, by omega, hc2⟩] at hd
        by_cases hv : b0 % 16 * 4096 + b1 % 64 * 64 + b2 % 64 ≥ 2048 ∧ (b0 % 16 * 4096 + b1 % 64 * 64 + b2 % 64 < 55296 ∨ (57344 ≤ b0 % 16 * 4096 + b1 % 64 * 64 + b2 % 64 ∧ b0 % 16 * 4096 + b1 % 64 * 64 + b2 % 64 ≤ 1114111))
        · rw [if_pos hv] at hd
          refine good _ _ hd (.inl (by omega)) ?_
          rw [if_neg (by omega), decide_eq_true hc, decide_eq_true hc2]
          simp only [Bool.not_true, cond_false]
          rw [if_neg (by omega)]
          refine Prod.ext ?_ rfl
          show (_ : Int) = ((_ : Nat) : Int)
          omega
        · rw [if_neg hv] at hd
          refine bad hd (by omega) ?_
          rw [if_neg (by omega), decide_eq_true hc, decide_eq_true hc2]
          simp only [Bool.not_true, cond_false]
          rw [if_pos (by omega)]
      · rw [if_neg (fun x => hc2 x.2.2)] at hd
        exact bad hd (by omega) (by rw [if_neg (by omega), decide_eq_true hc, decide_eq_false hc2]; rfl)
    · rw [if_neg (fun x => hc x.1.2)] at hd
      exact bad hd (by omega) (by rw [if_neg (by omega), decide_eq_false hc]; rfl)
  rw [if_neg (by omega : ¬ ((224 : Int) ≤ b0 ∧ (b0 : Int) < 240))]
  by_cases h3 : 240 ≤ b0 ∧ b0 < 245
  · rw [if_pos (by omega : (240 : Int) ≤ b0 ∧ (b0 : Int) < 245)]
    have hd := dN4 t.size b0 b1 b2 b3 h3
    unfold tailL
    by_cases hs : t.size < 4
    · rw [if_neg (by omega)] at hd
      exact bad hd (by omega) (by rw [if_pos (.inr hs)])
    simp only [contL, e1, e2, e3, contB b1 r1, contB b2 r2, contB b3 r3, Nat.add_one_sub_one]
    by_cases hc : b1 / 64 = 2
    · by_cases hc2 : b2 / 64 = 2
      · by_cases hc3 : b3 / 64 = 2
        · rw [if_pos ⟨⟨by omega, hc⟩, ⟨by omega, hc2⟩, by omega, hc3⟩] at hd
          by_cases hv : b0 % 8 * 262144 + b1 % 64 * 4096 + b2 % 64 * 64 + b3 % 64 ≥ 65536 ∧ (b0 % 8 * 262144 + b1 % 64 * 4096 + b2 % 64 * 64 + b3 % 64 < 55296 ∨ (57344 ≤ b0 % 8 * 262144 + b1 % 64 * 4096 + b2 % 64 * 64 + b3 % 64 ∧ b0 % 8 * 262144 + b1 % 64 * 4096 + b2 % 64 * 64 + b3 % 64 ≤ 1114111))
          · rw [if_pos hv] at hd
            refine good _ _ hd (.inl (by omega)) ?_
            rw [if_neg (by omega), decide_eq_true hc, decide_eq_true hc2, decide_eq_true hc3]
            simp only [Bool.not_true, cond_false]
            rw [if_neg (by omega)]
            refine Prod.ext ?_ rfl
            show (_ : Int) = ((_ : Nat) : Int)
            omega
          · rw [if_neg hv] at hd
            refine bad hd (by omega) ?_
            rw [if_neg (by omega), decide_eq_true hc, decide_eq_true hc2, decide_eq_true hc3]
            simp only [Bool.not_true, cond_false]
            rw [if_pos (by omega)]
        · rw [if_neg (fun x => hc3 x.2.2.2)] at hd
          exact bad hd (by omega) (by rw [if_neg (by omega), decide_eq_true hc, decide_eq_true hc2, decide_eq_false hc3]; rfl)
      · rw [if_neg (fun x => hc2 x.2.1.2)] at hd
        exact bad hd (by omega) (by rw [if_neg (by omega), decide_eq_true hc, decide_eq_false hc2]; rfl)
    · rw [if_neg (fun x => hc x.1.2)] at hd
      exact bad hd (by omega) (by rw [if_neg (by omega), decide_eq_false hc]; rfl)
  · rw [if_neg (by omega : ¬ ((240 : Int) ≤ b0 ∧ (b0 : Int) < 245))]
    exact bad (dNx _ _ _ _ _ (by omega) h1 h2 h3 r0) (by omega) (by unfold tailL; rw [if_pos (.inl rfl)])

theorem decodeN_bad (n b0 b1 b2 b3 : Nat) (h : (Lib.decodeN n b0 b1 b2 b3).2 = 1) (h0 : 128 ≤ b0) : (Lib.decodeN n b0 b1 b2 b3).1 = 65533 := by
  revert h
  unfold Lib.decodeN
  rw [if_neg (by omega)]
  repeat' split
  all_goals (intro h; first | rfl | (exfalso; simp only at h; omega))
theorem decodeN_err (n b0 b1 b2 b3 : Nat) (h : (Lib.decodeN n b0 b1 b2 b3).1 = 65533) (h4 : b0 < 256) : (Lib.decodeN n b0 b1 b2 b3).2 = 3 ∨ ((Lib.decodeN n b0 b1 b2 b3).2 = 1 ∧ 128 ≤ b0) := by
  by_cases h0 : b0 < 128
  · rw [dN1 _ _ _ _ _ h0] at h; simp only at h; omega
  by_cases h1 : 194 ≤ b0 ∧ b0 < 224
  · rw [dN2 _ _ _ _ _ h1] at h ⊢
    split at h
    · simp only at h; omega
    · rename_i hc; rw [if_neg hc]; exact .inr ⟨rfl, by omega⟩
  by_cases h2 : 224 ≤ b0 ∧ b0 < 240
  · rw [dN3 _ _ _ _ _ h2] at h ⊢
    split
    · split
      · exact .inl rfl
      · exact .inr ⟨rfl, by omega⟩
    · exact .inr ⟨rfl, by omega⟩
  by_cases h3 : 240 ≤ b0 ∧ b0 < 245
  · rw [dN4 _ _ _ _ _ h3] at h ⊢
    split
    · rename_i hc
      rw [if_pos hc] at h
      split
      · rename_i hv; rw [if_pos hv] at h; simp only at h; omega
      · exact .inr ⟨rfl, by omega⟩
    · exact .inr ⟨rfl, by omega⟩
  · rw [dNx _ _ _ _ _ (by omega) h1 h2 h3 h4]; exact .inr ⟨rfl, by omega⟩

/-! ### Keys -/
def plainD (d : Nat × Nat) : Bool := decide (33 ≤ d.1 ∧ (d.1 < 127 ∨ 159 < d.1) ∧ (d.1 ≠ 65533 ∨ d.2 = 3))
def goodFrom (s : ByteArray) : Nat → Nat → Bool
  | 0, _ => true
  | n + 1, i => if i < s.size then (if plainD (Utf8.decode s i) = true then goodFrom s n (i + (Utf8.decode s i).2) else false) else true
/-- Is a text a key? -/
def keyR (s : ByteArray) : Bool := goodFrom s s.size 0 && decide (1 ≤ s.size ∧ s.size ≤ 16)

theorem plain_dec (s : ByteArray) (i : Nat) (h : i < s.size) :
    (((leI 33 (((Utf8.decode s i).1 : Nat) : Int)) && ((ltI (((Utf8.decode s i).1 : Nat) : Int) 127) || (ltI 159 (((Utf8.decode s i).1 : Nat) : Int)))) && ((!eqI (((Utf8.decode s i).1 : Nat) : Int) 65533) || (eqI (((Utf8.decode s i).2 : Nat) : Int) 3))) = plainD (Utf8.decode s i) := by
  rw [Bool.eq_iff_iff]
  simp only [Bool.and_eq_true, Bool.or_eq_true, Bool.not_eq_true', leI_iff, ltI_iff, eqI_iff, eqI_false, plainD, decide_eq_true_eq]
  omega
theorem plain_letter (s : ByteArray) (i : Nat) (h : i < s.size) : ∃ r n : Int, letter (s.extract i s.size) = (r, n) ∧ (((ltI 32 r) && (!eqI r 127)) && ((ltI r 128) || (ltI 159 r))) = plainD (Utf8.decode s i) ∧ (plainD (Utf8.decode s i) = true → n = ((Utf8.decode s i).2 : Nat)) := by
  unfold letter
  rw [dec_ext, show (0 : Int) = ((0 : Nat) : Int) from rfl, bt_ext, Nat.add_zero]
  have g0 := get_bt s i
  have r0 := UInt8.toNat_lt (s.get! i)
  rw [← g0]
  by_cases hb : (Utf8.decode s i).2 = 1 ∧ 128 ≤ ((s.get! i).toNat : Int)
  · rw [if_pos hb]
    have h1 : (Utf8.decode s i).1 = 65533 := by
      rw [Lib.decode_at] at hb ⊢
      exact decodeN_bad _ _ _ _ _ hb.1 (by omega)
    have h2 : plainD (Utf8.decode s i) = false := by simp [plainD, h1, hb.1]
    exact ⟨-1, 1, rfl, by rw [h2]; rfl, fun h => by rw [h2] at h; cases h⟩
  · rw [if_neg hb]
    refine ⟨_, _, rfl, ?_, fun _ => rfl⟩
    have h1 : (Utf8.decode s i).1 = 65533 → (Utf8.decode s i).2 = 3 := fun h => by
      rw [Lib.decode_at] at h hb ⊢
      rcases decodeN_err _ _ _ _ _ h (by omega) with h | h
      · exact h
      · exact absurd ⟨h.1, by omega⟩ hb
    rw [Bool.eq_iff_iff]
    simp only [Bool.and_eq_true, Bool.or_eq_true, Bool.not_eq_true', leI_iff, ltI_iff, eqI_iff, eqI_false, plainD, decide_eq_true_eq]
    omega

theorem ext_ext (s : ByteArray) (i j : Nat) : (s.extract i s.size).extract j (s.extract i s.size).size = s.extract (i + j) s.size := by
  rw [ByteArray.extract_extract, size_extract', Nat.min_self]
  by_cases h : i ≤ s.size
  · rw [show i + (s.size - i) = s.size by omega, Nat.min_self]
  · apply ByteArray.ext_getElem
    · rw [size_extract', size_extract']; omega
    · intro k h1 h2
      rw [size_extract'] at h2; omega
theorem ext_zero (s : ByteArray) : s.extract 0 s.size = s := ByteArray.extract_zero_size
end Go.Awp
