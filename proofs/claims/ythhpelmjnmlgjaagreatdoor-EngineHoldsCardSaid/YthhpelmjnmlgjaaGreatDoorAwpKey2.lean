/- Texts as lists of runes, and how they are ordered. No program in sight. -/
import Derived.Test.YthhpelmjnmlgjaaGreatDoorAwpKey
import Derived.Test.YthhpelmjnmlgjaaGreatDoorAwpEv2
set_option linter.unusedSimpArgs false
set_option linter.unusedVariables false
namespace Go.Awp

/-- Which comes first? -/
def cmpL : List Nat → List Nat → Int
  | [], [] => 0
  | [], _ :: _ => -1
  | _ :: _, [] => 1
  | a :: x, b :: y => if a < b then -1 else if b < a then 1 else cmpL x y

theorem cmpL_self : ∀ l, cmpL l l = 0
  | [] => rfl
  | a :: x => by rw [cmpL, if_neg (Nat.lt_irrefl _), if_neg (Nat.lt_irrefl _)]; exact cmpL_self x
theorem cmpL_anti : ∀ a b, cmpL b a = - cmpL a b
  | [], [] => rfl
  | [], _ :: _ => rfl
  | _ :: _, [] => rfl
  | a :: x, b :: y => by
    rw [cmpL, cmpL]
    by_cases h1 : a < b
    · rw [if_neg (by omega), if_pos h1, if_pos h1]; rfl
    · by_cases h2 : b < a
      · rw [if_pos h2, if_neg h1, if_pos h2]
      · rw [if_neg h2, if_neg h1, if_neg h1, if_neg h2]; exact cmpL_anti x y
theorem cmpL_range : ∀ a b, cmpL a b = -1 ∨ cmpL a b = 0 ∨ cmpL a b = 1
  | [], [] => .inr (.inl rfl)
  | [], _ :: _ => .inl rfl
  | _ :: _, [] => .inr (.inr rfl)
  | a :: x, b :: y => by
    rw [cmpL]
    split
    · exact .inl rfl
    · split
      · exact .inr (.inr rfl)
      · exact cmpL_range x y
theorem cmpL_eq : ∀ a b, cmpL a b = 0 → a = b
  | [], [], _ => rfl
  | [], _ :: _, h => by simp [cmpL] at h
  | _ :: _, [], h => by simp [cmpL] at h
  | a :: x, b :: y, h => by
    rw [cmpL] at h
    split at h
    · cases h
    · split at h
      · cases h
      · rw [cmpL_eq x y h, show a = b by omega]
theorem cmpL_trans : ∀ a b c, cmpL a b < 0 → cmpL b c ≤ 0 → cmpL a c < 0
  | [], [], _, h, _ => by simp [cmpL] at h
  | [], _ :: _, [], _, h => by simp [cmpL] at h
  | [], _ :: _, _ :: _, _, _ => by simp [cmpL]
  | _ :: _, [], _, h, _ => by simp [cmpL] at h
  | _ :: _, _ :: _, [], _, h => by simp [cmpL] at h
  | a :: x, b :: y, c :: z, h, h' => by
    rw [cmpL] at h h' ⊢
    split at h
    · split at h'
      · rw [if_pos (by omega)]; decide
      · split at h'
        · omega
        · rw [if_pos (by omega)]; decide
    · split at h
      · omega
      · split at h'
        · rw [if_pos (by omega)]; decide
        · split at h'
          · omega
          · rw [if_neg (by omega), if_neg (by omega)]; exact cmpL_trans x y z h h'
theorem cmpL_trans' (a b c : List Nat) (h : cmpL a b ≤ 0) (h' : cmpL b c < 0) : cmpL a c < 0 := by
  rcases cmpL_range a b with e | e | e
  · exact cmpL_trans a b c (by omega) (by omega)
  · rw [cmpL_eq a b e]; exact h'
  · omega

/-- The runes from place i on. -/
def runesFrom (s : ByteArray) : Nat → Nat → List Nat
  | 0, _ => []
  | n + 1, i => if i < s.size then (Utf8.decode s i).1 :: runesFrom s n (i + (Utf8.decode s i).2) else []
theorem runesFrom_stable (s : ByteArray) : ∀ n m i, s.size - i ≤ n → s.size - i ≤ m → runesFrom s n i = runesFrom s m i
  | 0, 0, _, _, _ => rfl
  | 0, m + 1, i, h, _ => by rw [runesFrom, runesFrom, if_neg (by omega)]
  | n + 1, 0, i, _, h => by rw [runesFrom, runesFrom, if_neg (by omega)]
  | n + 1, m + 1, i, h, h' => by
    rw [runesFrom, runesFrom]
    split
    · have := dec_pos s i
      rw [runesFrom_stable s n m _ (by omega) (by omega)]
    · rfl
def runes (s : ByteArray) : List Nat := runesFrom s s.size 0
theorem runesFrom_ext (s : ByteArray) : ∀ n i j, i ≤ s.size → s.size - i - j ≤ n → runesFrom (s.extract i s.size) n j = runesFrom s n (i + j)
  | 0, _, _, _, _ => rfl
  | n + 1, i, j, hi, h => by
    rw [runesFrom, runesFrom]
    have hz : (s.extract i s.size).size = s.size - i := by rw [size_extract']; omega
    have hd : Utf8.decode (s.extract i s.size) j = Utf8.decode s (i + j) := by
      have h1 := dec_ext (s.extract i s.size) j
      rw [ext_ext, dec_ext] at h1
      exact h1.symm
    rw [hz, hd]
    by_cases hj : j < s.size - i
    · rw [if_pos hj, if_pos (by omega), runesFrom_ext s n i _ hi (by have := dec_pos s (i + j); omega), Nat.add_assoc]
    · rw [if_neg hj, if_neg (by omega)]
/-- The first rune and the others. -/
theorem runes_cons (s : ByteArray) (h : 0 < s.size) : runes s = (Utf8.decode s 0).1 :: runes (s.extract (Utf8.decode s 0).2 s.size) := by
  have hd := dec_le s 0 h
  have hp := dec_pos s 0
  rw [Nat.zero_add] at hd
  unfold runes
  rw [show s.size = (s.size - 1) + 1 by omega, runesFrom, if_pos h, show s.size - 1 + 1 = s.size by omega, Nat.zero_add, runesFrom_ext s _ _ 0 hd (by rw [size_extract']; omega), Nat.add_zero]
  rw [runesFrom_stable s (s.size - 1) (s.extract (Utf8.decode s 0).2 s.size).size _ (by omega) (by rw [size_extract']; omega)]
theorem runes_nil (s : ByteArray) (h : s.size = 0) : runes s = [] := by unfold runes; rw [h]; rfl

def cmpK (a b : ByteArray) : Int := cmpL (runes a) (runes b)
end Go.Awp
