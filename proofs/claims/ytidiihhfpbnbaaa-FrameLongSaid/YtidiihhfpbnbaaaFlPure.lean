/- Layer 3's first law, as plain numbers and lists: the frame that the program lays is the frame that the document's answer lays. No program in sight. -/
import Derived.Test.YtidiihhfpbnbaaaFlDefs
import Derived.Test.YtidiihhfpbnbaaaAwpNum
import Derived.KernelRfl
set_option linter.unusedVariables false
namespace Go.Proofs.Fl
open Go Go.Awp

theorem awake (k : Nat) : F5 (k + 40) = some true := by kernel_rfl

theorem add64 (a b : Nat) (h : a + b < 9223372036854775808) : IntKind.wrap .i64 ((a : Int) + (b : Int)) = ((a + b : Nat) : Int) := by
  rw [IntWalk.i64_in _ (by omega)]; rfl
theorem tmodN (a b : Nat) : Int.tmod (a : Int) (b : Int) = ((a % b : Nat) : Int) := by
  rw [Int.tmod_eq_emod_of_nonneg (Int.natCast_nonneg _)]; rfl
theorem ones_xor (c : Nat) (h : c < 4294967296) : 4294967295 ^^^ c = 4294967295 - c := by
  have h1 : (BitVec.allOnes 32 ^^^ BitVec.ofNat 32 c) = ~~~ (BitVec.ofNat 32 c) := by first | exact BitVec.allOnes_xor | exact BitVec.allOnes_xor _ | (rw [BitVec.not_def])
  have h2 := congrArg BitVec.toNat h1
  rw [BitVec.toNat_xor, BitVec.toNat_not, BitVec.toNat_ofNat, BitVec.toNat_allOnes, Nat.mod_eq_of_lt h] at h2
  exact h2

/-! ### The sum -/
def poly : Nat := 2197175160
def stepP (p : Nat) : Nat := (p >>> 1) ^^^ (if p % 2 = 1 then poly else 0)
def stepR (b j r : Nat) : Nat := if (r + b >>> j) % 2 = 1 then (r / 2) ^^^ poly else r / 2
def itP : Nat → Nat → Nat
  | 0, p => p
  | m + 1, p => itP m (stepP p)
def itR (b : Nat) : Nat → Nat → Nat → Nat
  | 0, _, r => r
  | m + 1, j, r => itR b m (j + 1) (stepR b j r)

theorem stepP_lt {p : Nat} (h : p < 4294967296) : stepP p < 4294967296 := by
  unfold stepP
  refine Nat.xor_lt_two_pow (n := 32) ?_ ?_
  · rw [Nat.shiftRight_eq_div_pow]; omega
  · unfold poly; split <;> decide
theorem stepR_lt {b j r : Nat} (h : r < 4294967296) : stepR b j r < 4294967296 := by
  unfold stepR
  split
  · exact Nat.xor_lt_two_pow (n := 32) (by omega) (by decide)
  · omega
theorem itP_lt : ∀ (m : Nat) {p : Nat}, p < 4294967296 → itP m p < 4294967296
  | 0, _, h => h
  | m + 1, _, h => itP_lt m (stepP_lt h)
theorem itR_lt {b : Nat} : ∀ (m j : Nat) {r : Nat}, r < 4294967296 → itR b m j r < 4294967296
  | 0, _, _, h => h
  | m + 1, _, _, h => itR_lt m _ (stepR_lt h)

theorem step_same (b j r : Nat) : stepP (r ^^^ (b >>> j)) = stepR b j r ^^^ (b >>> (j + 1)) := by
  have h1 : (r ^^^ (b >>> j)) >>> 1 = (r / 2) ^^^ (b >>> (j + 1)) := by
    rw [Nat.shiftRight_xor_distrib, ← Nat.shiftRight_add, Nat.shiftRight_eq_div_pow r 1]
  have h2 : ((r ^^^ (b >>> j)) % 2 = 1) ↔ ((r + b >>> j) % 2 = 1) := by
    rw [Nat.xor_mod_two_eq_one]; omega
  unfold stepP stepR
  rw [h1]
  by_cases h : (r + b >>> j) % 2 = 1
  · rw [if_pos (h2.2 h), if_pos h, Nat.xor_assoc, Nat.xor_comm (b >>> (j + 1)), ← Nat.xor_assoc]
  · rw [if_neg (fun e => h (h2.1 e)), if_neg h, Nat.xor_zero]

theorem it_same (b : Nat) : ∀ (m j r : Nat), itP m (r ^^^ (b >>> j)) = itR b m j r ^^^ (b >>> (j + m))
  | 0, j, r => rfl
  | m + 1, j, r => by rw [itP, step_same, it_same b m, itR, show j + 1 + m = j + (m + 1) by omega]

theorem byte_same (b r : Nat) (hb : b < 256) : itP 8 (r ^^^ b) = itR b 8 0 r := by
  have := it_same b 8 0 r
  rw [Nat.shiftRight_zero, show b >>> (0 + 8) = 0 by rw [Nat.shiftRight_eq_div_pow]; omega, Nat.xor_zero] at this
  exact this

theorem odd_and (p : Nat) : p &&& 1 = p % 2 := Nat.and_one_is_mod p

theorem F13_l2_ev : ∀ (m p : Nat), m ≤ 8 → p < 4294967296 → Ev (fun k => F13_l2 k ((p : Int), ((8 - m : Nat) : Int))) (itP m p : Nat)
  | 0, p, hm, hp => Ev.from 1 fun k => by
    show F13_l2 (k + 1) _ = _
    rw [F13_l2, show ((8 : Int)) = ((8 : Nat) : Int) from rfl, ltI_nat]; rfl
  | m + 1, p, hm, hp => by
    refine Ev.succ (g := fun k => F13_l2 k ((stepP p : Nat), ((8 - m : Nat) : Int))) (fun k => ?_) (F13_l2_ev m _ (by omega) (stepP_lt hp))
    rw [F13_l2, show ((8 : Int)) = ((8 : Nat) : Int) from rfl, ltI_nat, decide_eq_true (by omega), show (1 : Int) = ((1 : Nat) : Int) from rfl]
    rw [and_u32 p 1 hp (by decide), odd_and, shr_nat .u32 p 1 (by decide)]
    have e1 : IntKind.wrap .i64 ((((8 - (m + 1) : Nat) : Nat) : Int) + ((1 : Nat) : Int)) = ((8 - m : Nat) : Int) := by rw [IntWalk.i64_in _ (by omega)]; omega
    have e2 : andI .u32 2197175160 (IntKind.wrap .u32 (0 - ((p % 2 : Nat) : Int))) = ((if p % 2 = 1 then poly else 0 : Nat) : Int) := by
      rcases Nat.mod_two_eq_zero_or_one p with h | h <;> rw [h] <;> rfl
    simp only [cond_true, bnd]
    rw [e1, e2, xor_u32 _ _ (by rw [Nat.shiftRight_eq_div_pow]; omega) (by unfold poly; split <;> decide)]
    rfl

theorem F12_l2_ev (t0 : ByteArray) (i : Nat) (hi : i < t0.size) (h64 : t0.size < 9223372036854775808) : ∀ (m r : Nat), m ≤ 8 → r < 4294967296 → Ev (fun k => F12_l2 t0 (i : Int) k ((r : Int), ((8 - m : Nat) : Int))) (itR (t0[i]).toNat m (8 - m) r : Nat)
  | 0, r, hm, hr => Ev.from 1 fun k => by
    show F12_l2 t0 _ (k + 1) _ = _
    rw [F12_l2, show ((8 : Int)) = ((8 : Nat) : Int) from rfl, ltI_nat]; rfl
  | m + 1, r, hm, hr => by
    have hb : (t0[i]).toNat < 256 := (t0[i]).toNat_lt
    have e0 : (8 - (m + 1)) + 1 = 8 - m := by omega
    refine Ev.succ (g := fun k => F12_l2 t0 (i : Int) k ((stepR (t0[i]).toNat (8 - (m + 1)) r : Nat), ((8 - m : Nat) : Int))) (fun k => ?_) (by
      have := F12_l2_ev t0 i hi h64 m (stepR (t0[i]).toNat (8 - (m + 1)) r) (by omega) (stepR_lt hr)
      rw [itR, e0]; exact this)
    have e1 : IntKind.wrap .i64 ((((8 - (m + 1) : Nat) : Nat) : Int) + 1) = ((8 - m : Nat) : Int) := by rw [IntWalk.i64_in _ (by omega)]; omega
    rw [F12_l2, show ((8 : Int)) = ((8 : Nat) : Int) from rfl, ltI_nat, decide_eq_true (by omega), inR_nat, decide_eq_true hi, show (0 : Int) = ((0 : Nat) : Int) from rfl, leI_nat, decide_eq_true (by omega)]
    simp only [cond_true, bnd]
    rw [e1, bt_nat t0 i hi, i64n _ (by omega), shr_nat .i64 _ _ (by simp only [IntKind.bits]; omega)]
    have hs : (t0[i]).toNat >>> (8 - (m + 1)) < 256 := by rw [Nat.shiftRight_eq_div_pow]; exact Nat.lt_of_le_of_lt (Nat.div_le_self _ _) hb
    have e2 : IntKind.wrap .i64 ((r : Int) + (((t0[i]).toNat >>> (8 - (m + 1)) : Nat) : Int)) = ((r + (t0[i]).toNat >>> (8 - (m + 1)) : Nat) : Int) := by
      exact add64 _ _ (by omega)
    have e3 : IntKind.wrap .i64 (Int.tdiv (r : Int) 2) = ((r / 2 : Nat) : Int) := by
      rw [IntWalk.i64_quo _ _ (by omega)]; rfl
    have e4 : Int.tmod (((r + (t0[i]).toNat >>> (8 - (m + 1)) : Nat)) : Int) 2 = (((r + (t0[i]).toNat >>> (8 - (m + 1))) % 2 : Nat) : Int) := by
      exact tmodN _ 2
    rw [e2, e3, e4, show (1 : Int) = ((1 : Nat) : Int) from rfl, eqI_nat]
    unfold stepR
    by_cases h : (r + (t0[i]).toNat >>> (8 - (m + 1))) % 2 = 1
    · rw [decide_eq_true h, if_pos h, cond_true, show (2197175160 : Int) = ((poly : Nat) : Int) from rfl, xor_i64 _ _ (by omega) (by decide)]
    · rw [decide_eq_false h, if_neg h, cond_false]

/-- The sum of the bytes behind place i. -/
def crcR (t0 : ByteArray) : Nat → Nat → Nat → Nat
  | 0, _, r => r
  | m + 1, i, r => crcR t0 m (i + 1) (itR (t0[i]?.getD 0).toNat 8 0 r)
theorem crcR_lt (t0 : ByteArray) : ∀ (m i : Nat) {r : Nat}, r < 4294967296 → crcR t0 m i r < 4294967296
  | 0, _, _, h => h
  | m + 1, _, _, h => crcR_lt t0 m _ (itR_lt _ _ h)

theorem F13_l1_ev (t0 : ByteArray) (h64 : t0.size < 9223372036854775808) : ∀ (m i r : Nat), i + m = t0.size → r < 4294967296 → Ev (fun k => F13_l1 t0 k ((r : Int), (i : Int))) (crcR t0 m i r : Nat)
  | 0, i, r, hi, hr => Ev.from 1 fun k => by
    show F13_l1 t0 (k + 1) _ = _
    rw [F13_l1, ltI_nat, decide_eq_false (by omega)]; rfl
  | m + 1, i, r, hi, hr => by
    have hlt : i < t0.size := by omega
    have hb : (t0[i]).toNat < 256 := (t0[i]).toNat_lt
    have eb : (t0[i]?.getD 0).toNat = (t0[i]).toNat := by rw [getElem?_pos t0 i hlt]; rfl
    refine Ev.succ (g := fun k => (F13_l2 k (((r ^^^ (t0[i]).toNat : Nat) : Int), ((8 - 8 : Nat) : Int))).bind fun x => F13_l1 t0 k (x, ((i + 1 : Nat) : Int))) (fun k => ?_)
      (Ev.bind (g := fun k x => F13_l1 t0 k (x, ((i + 1 : Nat) : Int))) (F13_l2_ev 8 (r ^^^ (t0[i]).toNat) (by omega) (Nat.xor_lt_two_pow (n := 32) hr (by omega))) ?_)
    · have e1 : IntKind.wrap .i64 ((i : Int) + 1) = ((i + 1 : Nat) : Int) := by rw [IntWalk.i64_in _ (by omega)]; rfl
      rw [F13_l1, ltI_nat, decide_eq_true hlt, inR_nat, decide_eq_true hlt, bt_nat t0 i hlt, u32n _ (by omega), xor_u32 _ _ hr (by omega), e1]
      rfl
    · rw [byte_same _ _ hb, crcR, eb]
      exact F13_l1_ev t0 h64 m (i + 1) _ (by omega) (itR_lt _ _ hr)

theorem F12_l1_ev (t0 : ByteArray) (h64 : t0.size < 9223372036854775808) : ∀ (m i r : Nat), i + m = t0.size → r < 4294967296 → Ev (fun k => F12_l1 t0 k ((r : Int), (i : Int))) (crcR t0 m i r : Nat)
  | 0, i, r, hi, hr => Ev.from 1 fun k => by
    show F12_l1 t0 (k + 1) _ = _
    rw [F12_l1, ltI_nat, decide_eq_false (by omega)]; rfl
  | m + 1, i, r, hi, hr => by
    have hlt : i < t0.size := by omega
    have hb : (t0[i]).toNat < 256 := (t0[i]).toNat_lt
    have eb : (t0[i]?.getD 0).toNat = (t0[i]).toNat := by rw [getElem?_pos t0 i hlt]; rfl
    refine Ev.succ (g := fun k => (F12_l2 t0 (i : Int) k ((r : Int), ((8 - 8 : Nat) : Int))).bind fun x => F12_l1 t0 k (x, ((i + 1 : Nat) : Int))) (fun k => ?_)
      (Ev.bind (g := fun k x => F12_l1 t0 k (x, ((i + 1 : Nat) : Int))) (F12_l2_ev t0 i hlt h64 8 _ (by omega) hr) ?_)
    · have e1 : IntKind.wrap .i64 ((i : Int) + 1) = ((i + 1 : Nat) : Int) := by rw [IntWalk.i64_in _ (by omega)]; rfl
      rw [F12_l1, ltI_nat, decide_eq_true hlt, e1]
      rfl
    · rw [crcR, eb]
      exact F12_l1_ev t0 h64 m (i + 1) _ (by omega) (itR_lt _ _ hr)

def sum (t0 : ByteArray) : Nat := 4294967295 - crcR t0 t0.size 0 4294967295
theorem sum_lt (t0 : ByteArray) : sum t0 < 4294967296 := by unfold sum; omega

theorem F13_ev (t0 : ByteArray) (h64 : t0.size < 9223372036854775808) : Ev (fun k => F13 k t0) (sum t0 : Nat) := by
  have hl := crcR_lt t0 t0.size 0 (r := 4294967295) (by decide)
  refine Ev.congr (g := fun k => (F13_l1 t0 k (((4294967295 : Nat) : Int), ((0 : Nat) : Int))).bind fun x => some (notI .u32 x)) (fun k => rfl) (Ev.bind (g := fun _ x => some (notI .u32 x)) (F13_l1_ev t0 h64 t0.size 0 4294967295 (by omega) (by decide)) (Ev.of fun k => ?_))
  have : notI .u32 (crcR t0 t0.size 0 4294967295 : Nat) = ((4294967295 ^^^ crcR t0 t0.size 0 4294967295 : Nat) : Int) := xor_u32 4294967295 _ (by decide) hl
  rw [this]
  congr 2
  unfold sum
  exact ones_xor _ hl
theorem F12_ev (t0 : ByteArray) (h64 : t0.size < 9223372036854775808) : Ev (fun k => F12 k t0) (sum t0 : Nat) := by
  have hl := crcR_lt t0 t0.size 0 (r := 4294967295) (by decide)
  refine Ev.congr (g := fun k => (F12_l1 t0 k (((4294967295 : Nat) : Int), ((0 : Nat) : Int))).bind fun x => some (IntKind.wrap .u32 (IntKind.wrap .i64 (4294967295 - x)))) (fun k => rfl) (Ev.bind (g := fun _ x => some (IntKind.wrap .u32 (IntKind.wrap .i64 (4294967295 - x)))) (F12_l1_ev t0 h64 t0.size 0 4294967295 (by omega) (by decide)) (Ev.of fun k => ?_))
  rw [IntWalk.i64_in _ (by omega), IntWalk.u32_in _ (by omega)]
  congr 1
  unfold sum
  omega

/-! ### A number in bytes -/
def putL : Nat → Nat → List Nat
  | 0, n => [n % 128]
  | m + 1, n => if n < 128 then [n] else (n % 128 + 128) :: putL m (n / 128)
def up (l : List Nat) : List Int := l.map fun n : Nat => (n : Int)

theorem or128 (n : Nat) : (n % 256) ||| 128 = n % 128 + 128 := by
  have h : n % 256 < 256 := Nat.mod_lt _ (by decide)
  have e : n % 128 = (n % 256) % 128 := by omega
  rw [e]
  have all : ∀ m : Fin 256, m.val ||| 128 = m.val % 128 + 128 := by decide +kernel
  exact all ⟨n % 256, h⟩

theorem putL_length : ∀ (m n : Nat), (putL m n).length ≤ m + 1
  | 0, n => by simp [putL]
  | m + 1, n => by
    unfold putL
    split
    · simp
    · have := putL_length m (n / 128); simp; omega

theorem aOK {b n m : Nat} (h : (n + m) * b ≤ 140737488355328) (h2 : n + m ≤ 9223372036854775807) : appOK b n m = true := decide_eq_true ⟨h, h2⟩

theorem F14_l1_ev : ∀ (m n : Nat) (acc : List Int), n < 128 ^ (m + 1) → n < 9223372036854775808 → acc.length + m ≤ 1000 →
    ∃ (l : List Int) (n' : Nat), n' < 128 ∧ up (putL m n) = l ++ [(n' : Int)] ∧ Ev (fun k => F14_l1 k ((n : Int), acc)) (((n' : Nat) : Int), acc ++ l)
  | 0, n, acc, hn, h64, hl => by
    have hlt : n < 128 := by omega
    refine ⟨[], n, hlt, by simp [putL, up]; omega, Ev.from 1 fun k => ?_⟩
    show F14_l1 (k + 1) _ = _
    rw [F14_l1, show ((128 : Int)) = ((128 : Nat) : Int) from rfl, leI_nat, decide_eq_false (by omega), List.append_nil]; rfl
  | m + 1, n, acc, hn, h64, hl => by
    by_cases hlt : n < 128
    · refine ⟨[], n, hlt, by simp [putL, up, hlt], Ev.from 1 fun k => ?_⟩
      show F14_l1 (k + 1) _ = _
      rw [F14_l1, show ((128 : Int)) = ((128 : Nat) : Int) from rfl, leI_nat, decide_eq_false (by omega), List.append_nil]; rfl
    · obtain ⟨l, n', h1, h2, h3⟩ := F14_l1_ev m (n / 128) (acc ++ [((n % 128 + 128 : Nat) : Int)]) (by rw [Nat.div_lt_iff_lt_mul (by decide)]; rw [Nat.pow_succ] at hn; exact hn) (by omega) (by simp; omega)
      refine ⟨((n % 128 + 128 : Nat) : Int) :: l, n', h1, ?_, ?_⟩
      · unfold putL
        rw [if_neg hlt, up, List.map_cons]
        have : (putL m (n / 128)).map (fun n : Nat => (n : Int)) = l ++ [(n' : Int)] := h2
        rw [this]; rfl
      · refine Ev.succ (g := fun k => F14_l1 k (((n / 128 : Nat) : Int), acc ++ [((n % 128 + 128 : Nat) : Int)])) (fun k => ?_) (by simpa using h3)
        rw [F14_l1, show ((128 : Int)) = ((128 : Nat) : Int) from rfl, leI_nat, decide_eq_true (by omega), cond_true, u8n, or_u8 _ _ (Nat.mod_lt _ (by decide)) (by decide), or128,
          aOK (by simp; omega) (by simp; omega), cond_true, show (7 : Int) = ((7 : Nat) : Int) from rfl, shr_nat .i64 n 7 (by decide), Nat.shiftRight_eq_div_pow]

theorem F14_ev (n : Nat) (h64 : n < 9223372036854775808) : Ev (fun k => F14 k (n : Int)) (ofB (up (putL 9 n)), 0) := by
  obtain ⟨l, n', h1, h2, h3⟩ := F14_l1_ev 9 n [] (Nat.lt_trans h64 (by decide)) h64 (by simp)
  have hl : l.length ≤ 9 := by
    have := congrArg List.length h2
    have h9 := putL_length 9 n
    simp [up] at this; omega
  refine Ev.congr (g := fun k => (F14_l1 k ((n : Int), [])).bind fun x => bif appOK 1 x.2.length ([(IntKind.wrap .u8 x.1)]).length then (some ((ofB (x.2 ++ [(IntKind.wrap .u8 x.1)])), 0)) else none) (fun k => ?_)
    (Ev.bind (g := fun _ x => bif appOK 1 x.2.length ([(IntKind.wrap .u8 x.1)]).length then (some ((ofB (x.2 ++ [(IntKind.wrap .u8 x.1)])), 0)) else none) h3 (Ev.of fun k => ?_))
  · rw [F14, show (0 : Int) = ((0 : Nat) : Int) from rfl, ltI_nat, decide_eq_false (by omega), cond_false]
  · rw [aOK (by simp; omega) (by simp; omega), cond_true, u8n, Nat.mod_eq_of_lt (by omega), List.nil_append, h2]

/-- The document's digits. -/
def digs : Nat → Nat → List Nat
  | 0, n => [n % 128]
  | m + 1, n => if n < 128 then [n] else (n % 128) :: digs m (n / 128)

theorem digs_put : ∀ (m n : Nat), n < 128 ^ (m + 1) → ∃ (l : List Nat) (n' : Nat), n' < 128 ∧ digs m n = l ++ [n'] ∧ putL m n = l.map (· + 128) ++ [n'] ∧ ∀ x ∈ l, x < 128
  | 0, n, h => ⟨[], n % 128, Nat.mod_lt _ (by decide), rfl, rfl, by simp⟩
  | m + 1, n, h => by
    by_cases hlt : n < 128
    · exact ⟨[], n, hlt, by simp [digs, hlt], by simp [putL, hlt], by simp⟩
    · obtain ⟨l, n', h1, h2, h3, h4⟩ := digs_put m (n / 128) (by rw [Nat.div_lt_iff_lt_mul (by decide)]; rw [Nat.pow_succ] at h; exact h)
      refine ⟨n % 128 :: l, n', h1, by simp [digs, hlt, h2], by simp [putL, hlt, h3], fun x hx => ?_⟩
      rcases List.mem_cons.1 hx with e | e
      · subst e; exact Nat.mod_lt _ (by decide)
      · exact h4 x e

theorem F19_l1_ev : ∀ (m n : Nat) (acc : List Int), n < 128 ^ m → n < 9223372036854775808 → acc.length + m ≤ 1000 →
    Ev (fun k => F19_l1 k ((n : Int), acc)) (acc ++ (if n = 0 then [] else up (digs (m - 1) n)))
  | 0, n, acc, hn, h64, hl => Ev.from 1 fun k => by
    have h0 : n = 0 := by simp at hn; exact hn
    show F19_l1 (k + 1) _ = _
    rw [F19_l1, show (0 : Int) = ((0 : Nat) : Int) from rfl, ltI_nat, decide_eq_false (by omega), if_pos h0, List.append_nil]; rfl
  | m + 1, n, acc, hn, h64, hl => by
    by_cases h0 : n = 0
    · refine Ev.from 1 fun k => ?_
      show F19_l1 (k + 1) _ = _
      rw [F19_l1, show (0 : Int) = ((0 : Nat) : Int) from rfl, ltI_nat, decide_eq_false (by omega), if_pos h0, List.append_nil]; rfl
    · have ih := F19_l1_ev m (n / 128) (acc ++ [((n % 128 : Nat) : Int)]) (by rw [Nat.div_lt_iff_lt_mul (by decide)]; rw [Nat.pow_succ] at hn; exact hn) (by omega) (by simp; omega)
      have hd : up (digs m n) = ((n % 128 : Nat) : Int) :: (if n / 128 = 0 then [] else up (digs (m - 1) (n / 128))) := by
        cases m with
        | zero =>
          have : n / 128 = 0 := by omega
          simp [digs, up, this]
        | succ m =>
          by_cases h : n < 128
          · have e : n / 128 = 0 := by omega
            have e2 : n % 128 = n := by omega
            simp [digs, up, h, e, e2]
          · have e : n / 128 ≠ 0 := by omega
            simp [digs, up, h, e]
      refine Ev.succ (g := fun k => F19_l1 k (((n / 128 : Nat) : Int), acc ++ [((n % 128 : Nat) : Int)])) (fun k => ?_) (by
        rw [if_neg h0, Nat.add_sub_cancel, hd]
        simpa using ih)
      have e3 : IntKind.wrap .i64 (Int.tdiv (n : Int) 128) = ((n / 128 : Nat) : Int) := by
        rw [IntWalk.i64_quo _ _ (by omega)]; rfl
      rw [F19_l1, show (0 : Int) = ((0 : Nat) : Int) from rfl, ltI_nat, decide_eq_true (by omega), cond_true, aOK (by simp; omega) (by simp; omega), cond_true, e3, show (128 : Int) = ((128 : Nat) : Int) from rfl, tmodN]

theorem F19_ev (n : Nat) (h64 : n < 9223372036854775808) : Ev (fun k => F19 k (n : Int)) (up (digs 9 n)) := by
  have h := F19_l1_ev 9 (n / 128) [((n % 128 : Nat) : Int)] (by have : n < 128 ^ 10 := Nat.lt_trans h64 (by decide); rw [Nat.div_lt_iff_lt_mul (by decide)]; exact this) (by omega) (by simp)
  refine Ev.congr (g := fun k => (F19_l1 k (((n / 128 : Nat) : Int), [((n % 128 : Nat) : Int)])).bind fun x => some x) (fun k => ?_) (Ev.bind (g := fun _ x => some x) h (Ev.of fun k => ?_))
  · have e3 : IntKind.wrap .i64 (Int.tdiv (n : Int) 128) = ((n / 128 : Nat) : Int) := by
      rw [IntWalk.i64_quo _ _ (by omega)]; rfl
    rw [F19, e3, show (128 : Int) = ((128 : Nat) : Int) from rfl, tmodN]
  · congr 1
    by_cases h : n < 128
    · have e : n / 128 = 0 := by omega
      have e2 : n % 128 = n := by omega
      simp [digs, up, h, e, e2]
    · have e : n / 128 ≠ 0 := by omega
      simp [digs, up, h, e]
end Go.Proofs.Fl
