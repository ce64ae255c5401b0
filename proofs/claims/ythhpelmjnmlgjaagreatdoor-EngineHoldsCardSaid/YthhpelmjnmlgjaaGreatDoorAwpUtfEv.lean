/- How wide what the decoder hands back is. No program in sight. -/
import Derived.Test.YthhpelmjnmlgjaaGreatDoorAwpUtf
import Derived.Test.YthhpelmjnmlgjaaGreatDoorAwpEv
set_option linter.unusedSimpArgs false
set_option linter.unusedVariables false
namespace Go.Awp

abbrev Tot {α : Type} (f : Nat → Option α) : Prop := EvP f fun _ => True
theorem Ev.tot {α : Type} {f : Nat → Option α} {r : α} (h : Ev f r) : Tot f := ⟨r, h, trivial⟩
theorem EvP.tot {α : Type} {f : Nat → Option α} {P : α → Prop} (h : EvP f P) : Tot f := h.mono fun _ _ => trivial

theorem decodeN_pos (n b0 b1 b2 b3 : Nat) : 1 ≤ (Lib.decodeN n b0 b1 b2 b3).2 := by
  unfold Lib.decodeN
  repeat' split
  all_goals (simp only; omega)
theorem decodeN_le (n b0 b1 b2 b3 : Nat) (hn : 1 ≤ n) : (Lib.decodeN n b0 b1 b2 b3).2 ≤ n := by
  unfold Lib.decodeN
  repeat' split
  all_goals (simp only; omega)
theorem dec_pos (s : ByteArray) (i : Nat) : 1 ≤ (Utf8.decode s i).2 := by rw [Lib.decode_at]; exact decodeN_pos _ _ _ _ _
theorem dec_le (s : ByteArray) (i : Nat) (h : i < s.size) : i + (Utf8.decode s i).2 ≤ s.size := by
  rw [Lib.decode_at]
  have := decodeN_le (s.size - i) (s.get! i).toNat (s.get! (i + 1)).toNat (s.get! (i + 2)).toNat (s.get! (i + 3)).toNat (by omega)
  omega
theorem decN_le (s : ByteArray) : 0 ≤ decN s ∧ decN s ≤ s.size := by
  unfold decN Lib.decodeGo
  split
  · simp
  · have := dec_le s 0 (by omega)
    rw [Nat.zero_add] at this
    omega
theorem decN_pos (s : ByteArray) (h : 0 < s.size) : 1 ≤ decN s := by
  unfold decN Lib.decodeGo
  rw [if_neg (by omega)]
  have := dec_pos s 0
  omega
theorem dec_ascii (s : ByteArray) (h : 0 < s.size) (ha : bt s 0 < 128) : (IntKind.wrap .i32 (bt s 0), (1 : Int)) = (decR s, decN s) := by
  have h0 : bt s 0 = ((s[0]'h).toNat : Nat) := bt_nat s 0 h
  have hd := decode_ascii s 0 h (by rw [h0] at ha; omega)
  unfold decR decN Lib.decodeGo
  rw [if_neg (by omega), hd, h0, IntWalk.i32_in _ (by rw [h0] at ha; omega)]
  rfl
theorem size_extract' (s : ByteArray) (a b : Nat) : (s.extract a b).size = min b s.size - a := by simp [ByteArray.size_extract]
end Go.Awp
