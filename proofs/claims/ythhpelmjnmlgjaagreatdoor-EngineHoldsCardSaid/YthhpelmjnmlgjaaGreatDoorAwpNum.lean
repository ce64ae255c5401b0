/- Numbers that are naturals: what the operations on them are. From some round on ('Ev'). Strings as lists. No program in sight. -/
import Derived.Test.YthhpelmjnmlgjaaGreatDoorAwpJoin
import Derived.IntWalk
import Derived.Laws.Strings
import Derived.Laws.BytesArg
set_option linter.unusedSimpArgs false
set_option linter.unusedVariables false
namespace Go.Awp

theorem bits_nat (w a : Nat) (h : a < 2 ^ w) : (BitVec.ofInt w (a : Int)).toNat = a := by
  rw [BitVec.toNat_ofInt]
  have h1 : ((a : Int) % ((2 ^ w : Nat) : Int)) = ((a % 2 ^ w : Nat) : Int) := (Int.natCast_emod a (2 ^ w)).symm
  rw [h1, Int.toNat_natCast, Nat.mod_eq_of_lt h]

theorem i64n (n : Nat) (h : n < 9223372036854775808) : IntKind.wrap .i64 (n : Int) = n := IntWalk.i64_in _ (by omega)
theorem u32n (n : Nat) (h : n < 4294967296) : IntKind.wrap .u32 (n : Int) = n := IntWalk.u32_in _ (by omega)
theorem u8n (n : Nat) : IntKind.wrap .u8 (n : Int) = ((n % 256 : Nat) : Int) := by rw [IntKind.wrap_u8]; omega
theorem u32m (n : Nat) : IntKind.wrap .u32 (n : Int) = ((n % 4294967296 : Nat) : Int) := by rw [IntKind.wrap_u32]; omega

theorem andI_k (k : IntKind) (a b : Nat) (ha : a < 2 ^ k.bits) (hb : b < 2 ^ k.bits) : andI k a b = k.wrap ((a &&& b : Nat) : Int) := by
  unfold andI; rw [BitVec.toNat_and, bits_nat _ a ha, bits_nat _ b hb]
theorem orI_k (k : IntKind) (a b : Nat) (ha : a < 2 ^ k.bits) (hb : b < 2 ^ k.bits) : orI k a b = k.wrap ((a ||| b : Nat) : Int) := by
  unfold orI; rw [BitVec.toNat_or, bits_nat _ a ha, bits_nat _ b hb]
theorem xorI_k (k : IntKind) (a b : Nat) (ha : a < 2 ^ k.bits) (hb : b < 2 ^ k.bits) : xorI k a b = k.wrap ((a ^^^ b : Nat) : Int) := by
  unfold xorI; rw [BitVec.toNat_xor, bits_nat _ a ha, bits_nat _ b hb]
theorem and_u32 (a b : Nat) (ha : a < 4294967296) (hb : b < 4294967296) : andI .u32 a b = ((a &&& b : Nat) : Int) := by
  rw [andI_k .u32 a b ha hb]; exact u32n _ (Nat.lt_of_le_of_lt Nat.and_le_left ha)
theorem xor_u32 (a b : Nat) (ha : a < 4294967296) (hb : b < 4294967296) : xorI .u32 a b = ((a ^^^ b : Nat) : Int) := by
  rw [xorI_k .u32 a b ha hb]; exact u32n _ (Nat.xor_lt_two_pow (n := 32) ha hb)
theorem and_u8 (a b : Nat) (ha : a < 256) (hb : b < 256) : andI .u8 a b = ((a &&& b : Nat) : Int) := by
  have h := Nat.lt_of_le_of_lt (@Nat.and_le_left a b) ha
  rw [andI_k .u8 a b ha hb, u8n, Nat.mod_eq_of_lt h]
theorem or_u8 (a b : Nat) (ha : a < 256) (hb : b < 256) : orI .u8 a b = ((a ||| b : Nat) : Int) := by
  have h : a ||| b < 256 := Nat.or_lt_two_pow (n := 8) ha hb
  rw [orI_k .u8 a b ha hb, u8n, Nat.mod_eq_of_lt h]
theorem xor_i64 (a b : Nat) (ha : a < 9223372036854775808) (hb : b < 9223372036854775808) : xorI .i64 a b = ((a ^^^ b : Nat) : Int) := by
  rw [xorI_k .i64 a b (Nat.lt_trans ha (by decide)) (Nat.lt_trans hb (by decide))]; exact i64n _ (Nat.xor_lt_two_pow (n := 63) ha hb)
theorem or_i64 (a b : Nat) (ha : a < 9223372036854775808) (hb : b < 9223372036854775808) : orI .i64 a b = ((a ||| b : Nat) : Int) := by
  rw [orI_k .i64 a b (Nat.lt_trans ha (by decide)) (Nat.lt_trans hb (by decide))]; exact i64n _ (Nat.or_lt_two_pow (n := 63) ha hb)

theorem shr_nat (k : IntKind) (a s : Nat) (hs : s ≤ k.bits) : shrI k a s = ((a >>> s : Nat) : Int) := by
  have : min ((s : Int).toNat) k.bits = s := by simp; omega
  unfold shrI
  rw [this, Nat.shiftRight_eq_div_pow, show ((2 : Int) ^ s) = ((2 ^ s : Nat) : Int) by simp]
  rw [Int.fdiv_eq_ediv_of_nonneg _ (Int.natCast_nonneg _)]
  rfl

theorem ltI_nat (a b : Nat) : ltI (a : Int) (b : Int) = decide (a < b) := by simp [ltI]
theorem leI_nat (a b : Nat) : leI (a : Int) (b : Int) = decide (a ≤ b) := by simp [leI]
theorem eqI_nat (a b : Nat) : eqI (a : Int) (b : Int) = decide (a = b) := by
  unfold eqI
  by_cases h : a = b
  · subst h; simp
  · have : ¬ ((a : Int) = (b : Int)) := by omega
    simp [h, this]
theorem inR_nat (i n : Nat) : inR (i : Int) n = decide (i < n) := by simp [inR]
theorem bt_nat (s : ByteArray) (i : Nat) (h : i < s.size) : bt s (i : Int) = ((s[i]).toNat : Int) := by
  simp [bt, h]
theorem cOK {a b : ByteArray} (h : a.size + b.size ≤ 9223372036854775807) : catOK a b = true := decide_eq_true h
theorem strEq_iff (a b : ByteArray) : strEq a b = decide (a = b) := by
  unfold strEq
  rw [ByteArray.toList_eq, ByteArray.toList_eq]
  by_cases h : a = b
  · subst h; simp
  · have : ¬ a.data.toList = b.data.toList := fun e => h (ByteArray.ext (Array.toList_inj.1 e))
    rw [decide_eq_false h]
    exact beq_eq_false_iff_ne.2 this
theorem ofB_eq (l : List Int) : ofB l = strOfNums l := by
  unfold ofB strOfNums
  rw [foldl_push_bytes]
  apply ByteArray.ext
  simp [ByteArray.empty, ByteArray.emptyWithCapacity]
  rfl
theorem ofB_size (l : List Int) : (ofB l).size = l.length := by rw [ofB_eq, strOfNums_size]
theorem ofB_append (a b : List Int) : ofB (a ++ b) = ofB a ++ ofB b := by
  rw [ofB_eq, ofB_eq, ofB_eq]
  apply ByteArray.ext
  simp [strOfNums, ByteArray.data_append]
theorem ofB_nil : ofB [] = ⟨#[]⟩ := rfl
theorem nil_append (s : ByteArray) : (⟨#[]⟩ : ByteArray) ++ s = s := by apply ByteArray.ext; simp [ByteArray.data_append]
theorem append_nil' (s : ByteArray) : s ++ (⟨#[]⟩ : ByteArray) = s := by apply ByteArray.ext; simp [ByteArray.data_append]

/-! ### From some round on -/
def Ev {α : Type} (f : Nat → Option α) (r : α) : Prop := ∃ n, ∀ k, n ≤ k → f k = some r
theorem Ev.of {α : Type} {f : Nat → Option α} {r : α} (h : ∀ k, f k = some r) : Ev f r := ⟨0, fun k _ => h k⟩
theorem Ev.from {α : Type} {f : Nat → Option α} {r : α} (n : Nat) (h : ∀ k, f (k + n) = some r) : Ev f r := ⟨n, fun k hk => by rw [← Nat.sub_add_cancel hk]; exact h _⟩
theorem Ev.bind {α β : Type} {f : Nat → Option α} {g : Nat → α → Option β} {x : α} {r : β} (h : Ev f x) (h2 : Ev (fun k => g k x) r) : Ev (fun k => (f k).bind (g k)) r := by
  obtain ⟨n, h⟩ := h
  obtain ⟨m, h2⟩ := h2
  exact ⟨max n m, fun k hk => by simp only [h k (by omega), Option.bind_some]; exact h2 k (by omega)⟩
theorem Ev.succ {α : Type} {f g : Nat → Option α} {r : α} (h : ∀ k, f (k + 1) = g k) (hg : Ev g r) : Ev f r := by
  obtain ⟨n, hg⟩ := hg
  refine ⟨n + 1, fun k hk => ?_⟩
  obtain ⟨j, rfl⟩ : ∃ j, k = j + 1 := ⟨k - 1, by omega⟩
  rw [h]; exact hg j (by omega)
theorem Ev.congr {α : Type} {f g : Nat → Option α} {r : α} (h : ∀ k, f k = g k) (hg : Ev g r) : Ev f r := by
  obtain ⟨n, hg⟩ := hg
  exact ⟨n, fun k hk => by rw [h]; exact hg k hk⟩
theorem Ev.get {α : Type} {f : Nat → Option α} {r : α} (h : Ev f r) : ∃ k, f k = some r := by
  obtain ⟨n, h⟩ := h
  exact ⟨n, h n (Nat.le_refl _)⟩
theorem Ev.and {α β : Type} {f : Nat → Option α} {g : Nat → Option β} {x : α} {y : β} (h : Ev f x) (h2 : Ev g y) : ∃ k, f k = some x ∧ g k = some y := by
  obtain ⟨n, h⟩ := h
  obtain ⟨m, h2⟩ := h2
  exact ⟨max n m, h _ (by omega), h2 _ (by omega)⟩
end Go.Awp
