/- The frame in whole; the law. No program in sight. -/
import Derived.Test.YtidiihhfpbnbaaaFlPure
set_option linter.unusedVariables false
namespace Go.Proofs.Fl
open Go Go.Awp

theorem up_append (a b : List Nat) : up (a ++ b) = up a ++ up b := by simp [up]
theorem up_length (a : List Nat) : (up a).length = a.length := by simp [up]
theorem rd_up (l : List Nat) (i : Nat) (h : i < l.length) : rd (up l) (i : Int) = ((l[i] : Nat) : Int) := by
  simp [rd, up, h]

theorem F17_l1_ev (l : List Nat) (n' : Nat) (hn : n' < 128) (hl : ∀ x ∈ l, x < 128) (hL : l.length ≤ 1000) : ∀ (m i : Nat) (acc : ByteArray), i + m = l.length → acc.size ≤ 2000 + i →
    Ev (fun k => F17_l1 (up (l ++ [n'])) k (acc, (i : Int))) (acc ++ ofB (up ((l.map (· + 128)).drop i ++ [n'])))
  | 0, i, acc, hi, ha => by
    have hlen : (up (l ++ [n'])).length = l.length + 1 := by simp [up]
    have hr : rd (up (l ++ [n'])) (i : Int) = ((n' : Nat) : Int) := by
      rw [rd_up _ i (by simp; omega)]
      congr 1
      rw [List.getElem_append_right (by omega)]
      simp
    refine Ev.from 2 fun k => ?_
    show F17_l1 _ (k + 1 + 1) _ = _
    have e1 : IntKind.wrap .i64 ((i : Int) + 1) = ((i + 1 : Nat) : Int) := by rw [IntWalk.i64_in _ (by omega)]; rfl
    have e2 : IntKind.wrap .i64 (((l.length + 1 : Nat) : Int) - 1) = ((l.length : Nat) : Int) := by rw [IntWalk.i64_in _ (by omega)]; omega
    rw [F17_l1, hlen, ltI_nat, decide_eq_true (by omega), inR_nat, decide_eq_true (by omega), cond_true, cond_true, e2, ltI_nat, decide_eq_false (by omega), cond_false, hr, u8n, Nat.mod_eq_of_lt (by omega),
      cOK (by rw [ofB_size]; simp; omega), cond_true, e1, F17_l1, hlen, ltI_nat, decide_eq_false (by omega), cond_false]
    rw [List.drop_of_length_le (by simp; omega)]
    rfl
  | m + 1, i, acc, hi, ha => by
    have hlen : (up (l ++ [n'])).length = l.length + 1 := by simp [up]
    have hlt : i < l.length := by omega
    have hx : l[i] < 128 := hl _ (List.getElem_mem hlt)
    have hr : rd (up (l ++ [n'])) (i : Int) = ((l[i] : Nat) : Int) := by
      rw [rd_up _ i (by simp; omega)]
      congr 1
      rw [List.getElem_append_left hlt]
    have e1 : IntKind.wrap .i64 ((i : Int) + 1) = ((i + 1 : Nat) : Int) := by rw [IntWalk.i64_in _ (by omega)]; rfl
    have e2 : IntKind.wrap .i64 (((l.length + 1 : Nat) : Int) - 1) = ((l.length : Nat) : Int) := by rw [IntWalk.i64_in _ (by omega)]; omega
    have e3 : IntKind.wrap .i64 (((l[i] : Nat) : Int) + 128) = ((l[i] + 128 : Nat) : Int) := by rw [IntWalk.i64_in _ (by omega)]; rfl
    refine Ev.succ (g := fun k => F17_l1 (up (l ++ [n'])) k (acc ++ ofB [((l[i] + 128 : Nat) : Int)], ((i + 1 : Nat) : Int))) (fun k => ?_) ?_
    · rw [F17_l1, hlen, ltI_nat, decide_eq_true (by omega), inR_nat, decide_eq_true (by omega), cond_true, cond_true, e2, ltI_nat, decide_eq_true (by omega), cond_true, hr, e3, u8n, Nat.mod_eq_of_lt (by omega),
        cOK (by rw [ofB_size]; simp; omega), cond_true, e1]
      rfl
    · have ih := F17_l1_ev l n' hn hl hL m (i + 1) (acc ++ ofB [((l[i] + 128 : Nat) : Int)]) (by omega) (by rw [ByteArray.size_append, ofB_size]; simp; omega)
      have hd : (l.map (· + 128)).drop i = (l[i] + 128) :: (l.map (· + 128)).drop (i + 1) := by
        rw [List.drop_eq_getElem_cons (by simp; exact hlt)]; simp
      rw [hd, List.cons_append]
      have : ofB (up ((l[i] + 128) :: ((l.map (· + 128)).drop (i + 1) ++ [n']))) = ofB [((l[i] + 128 : Nat) : Int)] ++ ofB (up ((l.map (· + 128)).drop (i + 1) ++ [n'])) := by
        rw [← ofB_append]; rfl
      rw [this, ← ByteArray.append_assoc]
      exact ih

theorem F17_ev (n : Nat) (h64 : n < 9223372036854775808) : Ev (fun k => F17 k (n : Int)) (ofB (up (putL 9 n)), 0) := by
  obtain ⟨l, n', h1, h2, h3, h4⟩ := digs_put 9 n (Nat.lt_trans h64 (by decide))
  have hl : l.length ≤ 1000 := by
    have h9 := putL_length 9 n
    rw [h3] at h9
    simp at h9; omega
  refine Ev.congr (g := fun k => (F19 k (n : Int)).bind fun t11 => (F17_l1 t11 k ((⟨#[]⟩ : ByteArray), ((0 : Nat) : Int))).bind fun t5 => some (t5, 0)) (fun k => ?_)
    (Ev.bind (g := fun k t11 => (F17_l1 t11 k ((⟨#[]⟩ : ByteArray), ((0 : Nat) : Int))).bind fun t5 => some (t5, 0)) (F19_ev n h64) ?_)
  · rw [F17, show (0 : Int) = ((0 : Nat) : Int) from rfl, ltI_nat, decide_eq_false (by omega), cond_false]
  · rw [h2]
    refine Ev.bind (g := fun _ t5 => some (t5, 0)) (F17_l1_ev l n' h1 h4 hl l.length 0 ⟨#[]⟩ (by omega) (by show 0 ≤ _; omega)) (Ev.of fun k => ?_)
    rw [nil_append, List.drop_zero, h3]

/-- A text behind its length. -/
def text (s : ByteArray) : ByteArray := ofB (up (putL 9 s.size)) ++ s
theorem text_size (s : ByteArray) : (text s).size ≤ s.size + 10 := by
  have := putL_length 9 s.size
  rw [text, ByteArray.size_append, ofB_size, up_length]; omega

theorem F8_ev (s : ByteArray) (h : s.size ≤ 1000000000) : Ev (fun k => F8 k s) (text s) := by
  have hp := putL_length 9 s.size
  refine Ev.bind (g := fun _ x => bif catOK x.1 s then (some (x.1 ++ s)) else none) (F14_ev s.size (by omega)) (Ev.of fun k => ?_)
  rw [cOK (by rw [ofB_size, up_length]; omega)]; rfl
theorem F10_ev (s : ByteArray) (h : s.size ≤ 1000000000) : Ev (fun k => F10 k s) (text s) := by
  have hp := putL_length 9 s.size
  refine Ev.bind (g := fun _ x => bif catOK x.1 s then (some (x.1 ++ s)) else none) (F17_ev s.size (by omega)) (Ev.of fun k => ?_)
  rw [cOK (by rw [ofB_size, up_length]; omega)]; rfl

def four (c : Nat) : List Nat := [c % 256, c / 256 % 256, c / 65536 % 256, c / 16777216 % 256]
theorem four_prog (c : Nat) (h : c < 4294967296) : [(IntKind.wrap .u8 (c : Int)), (IntKind.wrap .u8 (shrI .u32 (c : Int) 8)), (IntKind.wrap .u8 (shrI .u32 (c : Int) 16)), (IntKind.wrap .u8 (shrI .u32 (c : Int) 24))] = up (four c) := by
  have h8 := shr_nat .u32 c 8 (by decide)
  have h16 := shr_nat .u32 c 16 (by decide)
  have h24 := shr_nat .u32 c 24 (by decide)
  rw [show (8 : Int) = ((8 : Nat) : Int) from rfl, show (16 : Int) = ((16 : Nat) : Int) from rfl, show (24 : Int) = ((24 : Nat) : Int) from rfl, h8, h16, h24, u8n, u8n, u8n, u8n,
    Nat.shiftRight_eq_div_pow, Nat.shiftRight_eq_div_pow, Nat.shiftRight_eq_div_pow]
  rfl

theorem F11_ev (c : Nat) (h : c < 4294967296) : Ev (fun k => F11 k (c : Int)) (ofB (up (four c))) := Ev.of fun k => by
  have q : ∀ d : Nat, 0 < d → IntKind.wrap .i64 (Int.tdiv (c : Int) (d : Int)) = ((c / d : Nat) : Int) := fun d hd => by
    rw [IntWalk.i64_quo _ _ (by omega)]; rfl
  have q1 := q 256 (by decide)
  have q2 := q 65536 (by decide)
  have q3 := q 16777216 (by decide)
  have t1 := tmodN c 256
  have t2 := tmodN (c / 256) 256
  have t3 := tmodN (c / 65536) 256
  unfold F11
  rw [i64n c (by omega)]
  simp only [bnd]
  rw [show (IntKind.wrap .i64 (Int.tdiv (c : Int) 256)) = ((c / 256 : Nat) : Int) from q1, show (IntKind.wrap .i64 (Int.tdiv (c : Int) 65536)) = ((c / 65536 : Nat) : Int) from q2, show (IntKind.wrap .i64 (Int.tdiv (c : Int) 16777216)) = ((c / 16777216 : Nat) : Int) from q3,
    show Int.tmod (c : Int) 256 = ((c % 256 : Nat) : Int) from t1, show Int.tmod ((c / 256 : Nat) : Int) 256 = ((c / 256 % 256 : Nat) : Int) from t2, show Int.tmod ((c / 65536 : Nat) : Int) 256 = ((c / 65536 % 256 : Nat) : Int) from t3, u8n, u8n, u8n, u8n,
    Nat.mod_mod, Nat.mod_mod, Nat.mod_mod]
  rfl

/-- The frame. -/
def frame (s : ByteArray) : ByteArray := text s ++ ofB (up (four (sum (text s))))

theorem F7_ev (t : ByteArray) (h : t.size ≤ 2000000000) : Ev (fun k => F7 k t) (t ++ ofB (up (four (sum t)))) := by
  refine Ev.bind (g := fun _ t5 => bif catOK t (ofB ([(IntKind.wrap .u8 t5), (IntKind.wrap .u8 (shrI .u32 t5 8)), (IntKind.wrap .u8 (shrI .u32 t5 16)), (IntKind.wrap .u8 (shrI .u32 t5 24))])) then (bnd ((t ++ (ofB ([(IntKind.wrap .u8 t5), (IntKind.wrap .u8 (shrI .u32 t5 8)), (IntKind.wrap .u8 (shrI .u32 t5 16)), (IntKind.wrap .u8 (shrI .u32 t5 24))])))) fun t20 => some t20) else none) (F13_ev t (by omega)) (Ev.of fun k => ?_)
  rw [four_prog _ (sum_lt t), cOK (by rw [ofB_size, up_length]; simp [four]; omega)]
  rfl

theorem F4_ev (s : ByteArray) (h : s.size ≤ 1048576) : Ev (fun k => F4 k s) (frame s, 0) := by
  have ht := text_size s
  refine Ev.congr (g := fun k => (F8 k s).bind fun t8 => (F7 k t8).bind fun t9 => some (t9, 0)) (fun k => ?_)
    (Ev.bind (g := fun k t8 => (F7 k t8).bind fun t9 => some (t9, 0)) (F8_ev s (by omega)) (Ev.bind (g := fun _ t9 => some (t9, 0)) (F7_ev (text s) (by omega)) (Ev.of fun k => rfl)))
  rw [F4, show (1048576 : Int) = ((1048576 : Nat) : Int) from rfl, ltI_nat, decide_eq_false (by omega), cond_false]

theorem F4_long (k : Nat) (s : ByteArray) (h : 1048576 < s.size) : F4 k s = some (⟨#[]⟩, 5) := by
  rw [F4, show (1048576 : Int) = ((1048576 : Nat) : Int) from rfl, ltI_nat, decide_eq_true h, cond_true]

theorem F6_ev (s : ByteArray) (h : s.size ≤ 1048576) : Ev (fun k => F6 k s) (frame s) := by
  have ht := text_size s
  refine Ev.bind (g := fun k t5 => (F12 k t5).bind fun t8 => (F11 k t8).bind fun t9 => bif catOK t5 t9 then (some (t5 ++ t9)) else none) (F10_ev s (by omega))
    (Ev.bind (g := fun k t8 => (F11 k t8).bind fun t9 => bif catOK (text s) t9 then (some (text s ++ t9)) else none) (F12_ev (text s) (by omega))
      (Ev.bind (g := fun _ t9 => bif catOK (text s) t9 then (some (text s ++ t9)) else none) (F11_ev _ (sum_lt _)) (Ev.of fun k => ?_)))
  rw [cOK (by rw [ofB_size, up_length]; simp [four]; omega)]; rfl

/-- The law answers true, whatever it is asked. -/
theorem law (n : Int) (h1 : -128 ≤ n) (h2 : n ≤ 127) : ∃ k, F3 k n = some true := by
  obtain ⟨N, hN⟩ : ∃ N : Nat, 1048576 + n = (N : Int) := ⟨(1048576 + n).toNat, by omega⟩
  have e1 : IntKind.wrap .i64 n = n := IntWalk.i64_in _ (by omega)
  have e2 : IntKind.wrap .i64 (1048576 + n) = (N : Int) := by rw [hN]; exact i64n N (by omega)
  have e3 : mkOK 1 (N : Int) = true := decide_eq_true (by omega)
  have hs : (ofB (List.replicate (N : Int).toNat (0 : Int))).size = N := by rw [ofB_size]; simp
  generalize hb : ofB (List.replicate (N : Int).toNat (0 : Int)) = s at hs
  have ha : Ev F5 true := Ev.from 40 awake
  have base : ∀ k, F3 k n = ((F4 k s).bind fun (t13a, t13b) => bif (ltI 0 n) then ((bif ((strEq t13a (⟨#[]⟩ : ByteArray)) && (eqI t13b 5)) then F5 k else some default).bind fun t25 => some (((strEq t13a (⟨#[]⟩ : ByteArray)) && (eqI t13b 5)) && t25)) else ((F6 k s).bind fun t29 => (bif ((strEq t13a t29) && (eqI t13b 0)) then F5 k else some default).bind fun t36 => some (((strEq t13a t29) && (eqI t13b 0)) && t36))) := fun k => by
    unfold F3
    rw [e1, e2, e3, hb, cond_true]
  by_cases hp : 0 < n
  · refine Ev.get (Ev.congr (f := fun k => F3 k n) (g := fun k => (F5 k).bind fun x => some x) (fun k => ?_) (Ev.bind (g := fun _ x => some x) ha (Ev.of fun _ => rfl)))
    rw [base, F4_long k s (by omega), Option.bind_some]
    show (bif ltI 0 n then _ else _) = _
    rw [show ltI 0 n = true from decide_eq_true hp, cond_true, strEq_iff, decide_eq_true rfl]
    rfl
  · have hle : s.size ≤ 1048576 := by omega
    refine Ev.get (Ev.congr (f := fun k => F3 k n) base (Ev.bind (g := fun k (x : ByteArray × Int) => bif (ltI 0 n) then ((bif ((strEq x.1 (⟨#[]⟩ : ByteArray)) && (eqI x.2 5)) then F5 k else some default).bind fun t25 => some (((strEq x.1 (⟨#[]⟩ : ByteArray)) && (eqI x.2 5)) && t25)) else ((F6 k s).bind fun t29 => (bif ((strEq x.1 t29) && (eqI x.2 0)) then F5 k else some default).bind fun t36 => some (((strEq x.1 t29) && (eqI x.2 0)) && t36))) (F4_ev s hle) ?_))
    refine Ev.congr (fun k => by show (bif ltI 0 n then _ else _) = _; rw [show ltI 0 n = false from decide_eq_false hp, cond_false]) ?_
    refine Ev.bind (g := fun k t29 => (bif ((strEq (frame s) t29) && (eqI 0 0)) then F5 k else some default).bind fun t36 => some (((strEq (frame s) t29) && (eqI 0 0)) && t36)) (F6_ev s hle) ?_
    refine Ev.congr (g := fun k => (F5 k).bind fun x => some x) (fun k => ?_) (Ev.bind (g := fun _ x => some x) ha (Ev.of fun _ => rfl))
    rw [strEq_iff, decide_eq_true rfl]
    rfl
end Go.Proofs.Fl
