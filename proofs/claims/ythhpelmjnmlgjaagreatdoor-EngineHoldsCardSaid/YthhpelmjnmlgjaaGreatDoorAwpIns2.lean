/- slices.Delete of one element; both as operations on rows of the call's own. No program in sight. -/
import Derived.Test.YthhpelmjnmlgjaaGreatDoorAwpIns
set_option linter.unusedSimpArgs false
set_option linter.unusedVariables false
namespace Go.Awp
open Go.RowKit

section
variable {P : Program} {ops : Array Oper} {G : Call0} {o : Oper} {m : St}

def DelSpec (P : Program) (f e k : Nat) : Prop := ∀ (w : World) (v : Value) (n i : Nat) (xs : List Value), w.ownsRow 0 e k v n xs → (∀ u ∈ xs, u.oneCell' = true) → i < n →
  Calls P f #[v, .int .i64 i, .int .i64 ((i : Int) + 1)] w fun e' w' => ∃ v', e' = .returned v' ∧ w'.ownsRow 0 e k v' (n - 1) (xs.take (i * k) ++ xs.drop ((i + 1) * k)) ∧ w.grownBy w' v.ownBlock ∧ v'.ownBlock = v.ownBlock

theorem run_clear_row {w : World} {T ty e k g i n c : Nat} {cur : Array Value} {z : Value} (hT : P.underlying T = some (.slice e)) (hz : ∀ w, (zeroValue e).run P w = .ok z w) (hzk : z.cells.size = k) (hz1 : ∀ u ∈ z.cells.toList, u.oneCell' = true)
    (hg : w.heap[g]? = some (.cells cur e (0, 0))) (hfit : i + k ≤ cur.size) :
    (Builtin.clear_ #[T] ty #[.slice (some ⟨g, i, none⟩) 1 c]).run P w = .ok (.tuple #[]) (w.setRow g (cur.toList.take i ++ z.cells.toList ++ cur.toList.drop (i + k)).toArray) := by
  have hzc : (Builtin.zeroCells z.cells 1).toList = z.cells.toList := by
    apply List.ext_getElem
    · simp [size_zeroCells]
    · intro j h1 h2
      have hj : j < z.cells.size := by simpa using h2
      simp [Builtin.zeroCells, Nat.mod_eq_of_lt hj, hj]
  have hst := run_storeCells_at P g i e z.cells.toList 0 cur w hg (by simp [hzk]; omega) hz1
  simp only [Nat.add_zero, Array.length_toList, hzk] at hst
  simp [Builtin.clear_, run_underlying hT, hz, hzc, hst]

theorem delSpec {f T e k : Nat} {z : Value} (hW : DelW P f T k) (hT : P.underlying T = some (.slice e)) {bytes : Nat} (hE : ElemT P e k bytes) (hz : ∀ w, (zeroValue e).run P w = .ok z w) (hzk : z.cells.size = k) (hz1 : ∀ u ∈ z.cells.toList, u.oneCell' = true) : DelSpec P f e k := by
  intro w v n i xs hown hx1 hi
  obtain ⟨ti, z', i1, i2, i3, i4, i5⟩ := hE.info
  have hk := hE.pos
  obtain ⟨g, cap, cur, rfl, _, hcur, hncap, hmax, hcs, hxs⟩ : ∃ g cap cur, v = .slice (some ⟨g, 0, none⟩) n cap ∧ 0 ≤ g ∧ w.heap[g]? = some (.cells cur e (0, 0)) ∧ n ≤ cap ∧ cap ≤ maxLen ∧ cur.size = cap * k ∧ cur.toList.take (n * k) = xs := by
    rcases hown.2 with ⟨h1, h2⟩ | h
    · omega
    · exact h
  have hxl : xs.length = n * k := hown.1
  have hi1k : (i + 1) * k = i * k + k := Nat.succ_mul i k
  have hik : i * k + k ≤ n * k := by rw [← Nat.succ_mul]; exact Nat.mul_le_mul_right k hi
  have hnk : n * k ≤ cap * k := Nat.mul_le_mul_right k hncap
  have hn1 : (n - 1) * k = n * k - k := by rw [Nat.sub_mul, Nat.one_mul]
  have hcl : cur.toList.length = cap * k := by simpa using hcs
  have hxget : ∀ j, j < n * k → cur.toList[j]? = xs[j]? := fun j hj => by rw [← hxs, List.getElem?_take_of_lt hj]
  have htl : (xs.drop ((i + 1) * k)).length = (n - (i + 1)) * k := by rw [List.length_drop, hxl, Nat.sub_mul]
  have hmk : (n - (i + 1)) * k = n * k - (i * k + k) := by rw [Nat.sub_mul, hi1k]
  let L1 := cur.toList.take (i * k) ++ xs.drop ((i + 1) * k) ++ cur.toList.drop (i * k + (xs.drop ((i + 1) * k)).length)
  have hL1 : L1.length = cap * k := by show (cur.toList.take (i * k) ++ xs.drop ((i + 1) * k) ++ cur.toList.drop (i * k + (xs.drop ((i + 1) * k)).length)).length = _; rw [splice_len _ _ _ (by rw [htl, hmk, hcl]; omega), hcl]
  let w1 := w.drew.setRow g L1.toArray
  have hw1 : w1.heap[g]? = some (.cells L1.toArray e (0, 0)) := setRow_at (w := w.drew) hcur L1.toArray
  let L2 := L1.take ((n - 1) * k) ++ z.cells.toList ++ L1.drop ((n - 1) * k + z.cells.toList.length)
  have hzl : z.cells.toList.length = k := by simpa using hzk
  have hL2 : L2.length = cap * k := by show (L1.take ((n - 1) * k) ++ z.cells.toList ++ L1.drop ((n - 1) * k + z.cells.toList.length)).length = _; rw [splice_len _ _ _ (by rw [hzl, hn1, hL1]; omega), hL1]
  let w2 := w1.setRow g L2.toArray
  have hw2 : w2.heap[g]? = some (.cells L2.toArray e (0, 0)) := setRow_at hw1 L2.toArray
  have happ : ∀ ty a c, cap = i + 1 ∨ a = (⟨g, (i + 1) * k, none⟩ : Addr) → (Builtin.append_ #[T, T] ty #[.slice (some ⟨g, 0, none⟩) i cap, .slice (some a) (n - (i + 1)) c]).run P w.drew = .ok (.slice (some ⟨g, 0, none⟩) (n - 1) cap) w1 := fun ty a c ha => by
    have := run_append_room (P := P) w.drew T ty e ti hT i1 g i cap cur hcur a (n - (i + 1)) c (xs.drop ((i + 1) * k)) (by rw [htl, i3]) (fun j u hj => by
      rcases ha with ha | rfl
      · have hjl := (List.getElem?_eq_some_iff.1 hj).1
        rw [htl, show n - (i + 1) = 0 by omega] at hjl
        omega
      · rw [Addr.add_lit, cell_of (w := w.drew) hcur, ← Array.getElem?_toList]
        have hjl : j < (n - (i + 1)) * k := by rw [← htl]; exact (List.getElem?_eq_some_iff.1 hj).1
        rw [hxget _ (by omega), ← List.getElem?_drop]; exact hj) (fun u hu => hx1 u (List.mem_of_mem_drop hu)) (by omega) (by rw [i3, htl, hmk, hcs]; omega)
    rw [i3, show i + (n - (i + 1)) = n - 1 by omega] at this
    exact this
  have hclr : ∀ ty c, (Builtin.clear_ #[T] ty #[.slice (some ⟨g, (n - 1) * k, none⟩) 1 c]).run P w1 = .ok (.tuple #[]) w2 := fun ty c => by
    have := run_clear_row (P := P) (w := w1) (T := T) (ty := ty) (g := g) (i := (n - 1) * k) (n := n) (c := c) hT hz hzk hz1 hw1 (by rw [List.size_toArray, hL1, hn1]; omega)
    rw [this]
    show _ = Result.ok _ (w1.setRow g (L1.take ((n - 1) * k) ++ z.cells.toList ++ L1.drop ((n - 1) * k + z.cells.toList.length)).toArray)
    rw [hzl]
  refine (hW.del g n cap i _ w w1 w2 hi hncap (by simpa [maxLen] using hmax) happ hclr).mono ?_
  rintro e' w' ⟨rfl, rfl⟩
  refine ⟨_, rfl, ⟨by rw [List.length_append, List.length_take, htl, hmk, hn1]; omega, .inr ⟨g, cap, L2.toArray, rfl, Nat.zero_le _, hw2, by omega, hmax, by rw [List.size_toArray, hL2], ?_⟩⟩, ⟨rfl, rfl, rfl, ?_, fun b hb hbne => ?_⟩, rfl⟩
  · show L2.take ((n - 1) * k) = _
    have h2 : L2.take ((n - 1) * k) = L1.take ((n - 1) * k) := by
      show (L1.take ((n - 1) * k) ++ z.cells.toList ++ L1.drop ((n - 1) * k + z.cells.toList.length)).take ((n - 1) * k) = _
      have hl : (L1.take ((n - 1) * k)).length = (n - 1) * k := by rw [List.length_take, hL1, hn1]; omega
      rw [List.append_assoc, List.take_append_of_le_length (by rw [hl]; exact Nat.le_refl _), List.take_of_length_le (by rw [hl]; exact Nat.le_refl _)]
    rw [h2]
    show (cur.toList.take (i * k) ++ xs.drop ((i + 1) * k) ++ cur.toList.drop (i * k + (xs.drop ((i + 1) * k)).length)).take ((n - 1) * k) = _
    have e1 : cur.toList.take (i * k) = xs.take (i * k) := by
      rw [← hxs, List.take_take, Nat.min_eq_left (by omega)]
    rw [e1]
    have hl : (xs.take (i * k) ++ xs.drop ((i + 1) * k)).length = (n - 1) * k := by rw [List.length_append, List.length_take, htl, hmk, hn1]; omega
    rw [List.take_append_of_le_length (by rw [hl]; exact Nat.le_refl _), List.take_of_length_le (by rw [hl]; exact Nat.le_refl _)]
  · show w.heap.size ≤ (w1.setRow g _).heap.size
    rw [setRow_size]
    show w.heap.size ≤ (w.drew.setRow g _).heap.size
    rw [setRow_size]
    exact Nat.le_refl _
  · have hbg : b ≠ g := fun h => hbne (by simp [Value.ownBlock, h])
    exact (setRow_ne _ hbg).trans (setRow_ne (w := w.drew) _ hbg)

/-! ### Rows as cells -/
def RCells (ok : Nat → Prop) (w : World) (k : Nat) (es : List (List D)) (xs : List Value) : Prop := xs.length = es.length * k ∧ ∀ (y j : Nat) (ds : List D) (d : D), es[y]? = some ds → ds[j]? = some d → ∃ u, xs[y * k + j]? = some u ∧ RepD ok w u d

theorem lt_mul {y n j k : Nat} (hy : y < n) (hj : j < k) : y * k + j < n * k := by
  have : y * k + k ≤ n * k := by rw [← Nat.succ_mul]; exact Nat.mul_le_mul_right k hy
  omega

theorem RCells.append {ok : Nat → Prop} {w : World} {k : Nat} {es es' : List (List D)} {xs xs' : List Value} (h : RCells ok w k es xs) (h' : RCells ok w k es' xs') : RCells ok w k (es ++ es') (xs ++ xs') := by
  refine ⟨by rw [List.length_append, List.length_append, h.1, h'.1, Nat.add_mul], fun y j ds d hy hj => ?_⟩
  by_cases hy1 : y < es.length
  · rw [List.getElem?_append_left hy1] at hy
    obtain ⟨u, hu1, hu2⟩ := h.2 y j ds d hy hj
    exact ⟨u, by rw [List.getElem?_append_left (List.getElem?_eq_some_iff.1 hu1).1]; exact hu1, hu2⟩
  · rw [List.getElem?_append_right (by omega)] at hy
    obtain ⟨u, hu1, hu2⟩ := h'.2 _ j ds d hy hj
    have hge : es.length * k ≤ y * k := Nat.mul_le_mul_right k (by omega)
    refine ⟨u, ?_, hu2⟩
    rw [List.getElem?_append_right (by rw [h.1]; omega), h.1, show y * k + j - es.length * k = (y - es.length) * k + j by rw [Nat.sub_mul]; omega]; exact hu1

theorem RCells.take {ok : Nat → Prop} {w : World} {k : Nat} {es : List (List D)} {xs : List Value} (h : RCells ok w k es xs) (hk : ∀ e ∈ es, e.length = k) (i : Nat) (hi : i ≤ es.length) : RCells ok w k (es.take i) (xs.take (i * k)) := by
  refine ⟨by rw [List.length_take, List.length_take, h.1, Nat.min_eq_left hi, Nat.min_eq_left (Nat.mul_le_mul_right k hi)], fun y j ds d hy hj => ?_⟩
  have hyl := (List.getElem?_eq_some_iff.1 hy).1
  rw [List.length_take] at hyl
  rw [List.getElem?_take_of_lt (by omega)] at hy
  obtain ⟨u, hu1, hu2⟩ := h.2 y j ds d hy hj
  have hjk : j < k := by rw [← hk ds (List.mem_of_getElem? hy)]; exact (List.getElem?_eq_some_iff.1 hj).1
  exact ⟨u, by rw [List.getElem?_take_of_lt (lt_mul (by omega) hjk)]; exact hu1, hu2⟩

theorem RCells.drop {ok : Nat → Prop} {w : World} {k : Nat} {es : List (List D)} {xs : List Value} (h : RCells ok w k es xs) (i : Nat) : RCells ok w k (es.drop i) (xs.drop (i * k)) := by
  refine ⟨by rw [List.length_drop, List.length_drop, h.1, Nat.sub_mul], fun y j ds d hy hj => ?_⟩
  rw [List.getElem?_drop] at hy
  obtain ⟨u, hu1, hu2⟩ := h.2 _ j ds d hy hj
  exact ⟨u, by rw [List.getElem?_drop, ← Nat.add_assoc, ← Nat.add_mul]; exact hu1, hu2⟩

theorem RCells.one {ok : Nat → Prop} {w : World} {k : Nat} {es : List (List D)} {xs : List Value} (h : RCells ok w k es xs) (hk : ∀ e ∈ es, e.length = k) (h1 : ∀ e ∈ es, ∀ d ∈ e, d.one = true) : ∀ u ∈ xs, u.oneCell' = true := fun u hu => by
  obtain ⟨i, hi0, rfl⟩ := List.mem_iff_getElem.1 hu
  have hi := hi0
  rw [h.1] at hi
  have hk0 : 0 < k := by rcases Nat.eq_zero_or_pos k with h | h <;> first | exact h | (subst h; simp at hi)
  have hdiv : i / k < es.length := (Nat.div_lt_iff_lt_mul hk0).2 hi
  have hl := hk es[i / k] (by simp)
  obtain ⟨u, hu1, hu2⟩ := h.2 (i / k) (i % k) es[i / k] (es[i / k][i % k]'(by rw [hl]; exact Nat.mod_lt _ hk0)) (by simp) (by simp)
  rw [Nat.mul_comm, Nat.div_add_mod] at hu1
  rw [List.getElem?_eq_getElem hi0] at hu1
  simp only [Option.some.injEq] at hu1
  rw [hu1]
  exact repD_one hu2 (h1 _ (List.getElem_mem _) _ (List.getElem_mem _))

theorem RCells.rowIn {ok : Nat → Prop} {w : World} {k n : Nat} {es : List (List D)} {xs : List Value} {arr : Array Value} (h : RCells ok w k es xs) (hk : ∀ e ∈ es, e.length = k) (ha : arr.toList.take (n * k) = xs) (hn : n = es.length) : RowIn ok w arr k es := fun y ds hy => by
  refine ⟨hk ds (List.mem_of_getElem? hy), fun j d hj => ?_⟩
  have hjk : j < k := by rw [← hk ds (List.mem_of_getElem? hy)]; exact (List.getElem?_eq_some_iff.1 hj).1
  obtain ⟨u, hu1, hu2⟩ := h.2 y j ds d hy hj
  rw [← ha, List.getElem?_take_of_lt (by rw [hn]; exact lt_mul (List.getElem?_eq_some_iff.1 hy).1 hjk), Array.getElem?_toList] at hu1
  exact ⟨u, hu1, hu2⟩

/-- A row of the call's own, as the laws of appending want it. -/
theorem row_owned {φ : Phi} {a : Act} {w : World} {id k : Nat} {fz : Bool} {e : TypeId} {es : List (List D)} {v : Value} (h : RR G φ m a w) (hb : m (.b id) = .row fz e k es) (hv : RepV φ (okOf G φ m w) w v (.own id k es.length)) (hk : ∀ e ∈ es, e.length = k) :
    ∃ xs : List Value, w.ownsRow 0 e k v es.length xs ∧ RCells (okOf G φ m w) w k es xs := by
  rcases row_at h hb with ⟨g1, g2⟩ | ⟨b, cap, arr, g1, g2, g3, g4, g5, g6⟩
  · subst g2
    rcases own_inv hv with ⟨hφ, rfl, _⟩ | ⟨b', c, hφ, rfl, hle⟩
    · exact ⟨[], ⟨by simp, .inl ⟨rfl, rfl⟩⟩, by simp, fun y j ds d hy => by simp at hy⟩
    · rw [g1] at hφ; cases hφ
  · generalize hn : es.length = n at hv g4
    rcases own_inv hv with ⟨hφ, rfl, _⟩ | ⟨b', c, hφ, rfl, hle⟩
    · rw [g1] at hφ; cases hφ
    · rw [g1] at hφ
      simp only [Option.some.injEq, Prod.mk.injEq] at hφ
      obtain ⟨rfl, rfl⟩ := hφ
      have hle2 : n * k ≤ arr.size := by rw [g3]; exact Nat.mul_le_mul_right k g4
      refine ⟨arr.toList.take (n * k), ⟨by simp; omega, .inr ⟨b, cap, arr, rfl, Nat.zero_le _, g2, hle, g5, g3, rfl⟩⟩, by rw [hn]; simp; omega, fun y j ds d hy hj => ?_⟩
      have hjk : j < k := by rw [← hk ds (List.mem_of_getElem? hy)]; exact (List.getElem?_eq_some_iff.1 hj).1
      have hyl : y < n := by rw [← hn]; exact (List.getElem?_eq_some_iff.1 hy).1
      obtain ⟨u, hu1, hu2⟩ := (g6 y ds hy).2 j d hj
      exact ⟨u, by rw [List.getElem?_take_of_lt (lt_mul hyl hjk), Array.getElem?_toList]; exact hu1, hu2⟩

/-- What a call that turns a row of the caller's own leaves. -/
theorem valid_turn {f d id id' k : Nat} {e : TypeId} {es es' : List (List D)} {c : Call} {x : Operand} {xs : Array Operand} {ls : List Loc} (hop : o.op = .call c) (hc : c.callee = .value (.func f)) (hxs : c.args = xs) (hen : ∀ args w, (callFunc f args).run P w = .ok (.enter f args) w)
    (hg : GOn ops o m) (hdst : o.dst = some d) (hd : d < G.nt) (hx : evO m x = .own id k es.length) (hb : m (.b id) = .row false e k es) (hid : m (.b id') = .nob)
    (hk' : ∀ e ∈ es', e.length = k) (hls : ∀ l ∈ lo x ++ [.b id, .b id'], l ∈ ls)
    (h : ∀ m' : St, (∀ l ∈ ls, m' l = m l) → ∀ φ a w, RR G φ m' a w → Calls P f (xs.map a.eval) w fun e' w' => ∃ v' ys, e' = .returned v' ∧ w'.ownsRow 0 e k v' es'.length ys ∧ w.grownBy w' (a.eval x).ownBlock ∧ (v'.ownBlock = (a.eval x).ownBlock ∨ ∃ g, v'.ownBlock = some g ∧ w.heap.size ≤ g) ∧ RCells (okOf G φ m' w) w k es' ys) :
    Valid P ops G o m ⟨gloc ops o ++ ls, [(.b id, .spent), (.b id', .row false e k es'), (.t d, .own id' k es'.length)]⟩ := by
  intro m' hm a w hr K Q hK
  obtain ⟨φ, hr⟩ := hr
  have hx' := hr.ev' (x := x) (fun l hl => hm l (by simp [hls l (by simp [hl])])) hx
  have hb' : m' (.b id) = .row false e k es := by rw [hm _ (by simp [hls (.b id) (by simp)])]; exact hb
  have hid' : m' (.b id') = .nob := by rw [hm _ (by simp [hls (.b id') (by simp)])]; exact hid
  unfold opGo
  rw [if_pos (hr.wanted (hg.congr fun l hl => hm l (by simp [hl])))]
  left
  unfold Oper.wp
  have hrun : (execOp a.eval o).run P w = .ok (.enter f (xs.map a.eval)) w := by simp [execOp, hop, resolve, hc, hxs, Deferred.ofValue, Act.eval, invoke, hen]
  rw [hrun]
  refine (h m' (fun l hl => hm l (by simp [hl])) φ a w hr).mono ?_
  rintro e' w' ⟨v', ys, rfl, h1, h2, h3, h4⟩
  obtain ⟨φ', q1, q2, q3⟩ := hr.appended (es' := es') (v' := v') hb' hid' hx' h2 h3 (by
    rcases h1.2 with ⟨c1, c2⟩ | ⟨g, cap, arr, c1, c2, c3, c4, c5, c6, c7⟩
    · exact .inl ⟨c1, List.eq_nil_of_length_eq_zero c2⟩
    · exact .inr ⟨g, cap, arr, c1, c3, c6, c4, c5, h4.rowIn hk' c7 rfl⟩)
  refine hK _ _ ⟨φ', ?_⟩
  rw [hdst]
  exact q1.put d hd q3

theorem v_insert {f d id id2 id' k bytes : Nat} {e e2 : TypeId} {fz : Bool} {es : List (List D)} {ds : List D} {i : Nat} {c : Call} {x y z : Operand} (hS : InsSpec P f e k bytes) (hop : o.op = .call c) (hc : c.callee = .value (.func f)) (hxs : c.args = #[x, y, z]) (hen : ∀ args w, (callFunc f args).run P w = .ok (.enter f args) w)
    (hg : GOn ops o m) (hdst : o.dst = some d) (hd : d < G.nt) (hx : evO m x = .own id k es.length) (hb : m (.b id) = .row false e k es) (hy : evO m y = iV (i : Int)) (hz : evO m z = .own id2 k 1) (hb2 : m (.b id2) = .row fz e2 k [ds]) (hid : m (.b id') = .nob) (hne : id ≠ id2) (hi : i ≤ es.length)
    (hk : ∀ e ∈ es, e.length = k) (h1 : ∀ e ∈ es, ∀ d ∈ e, d.one = true) (hkd : ds.length = k) (h1d : ∀ d ∈ ds, d.one = true) (hby : (es.length + 1) * bytes ≤ 140737488355328) (hmax : es.length ≤ 4611686018427387000) :
    Valid P ops G o m ⟨gloc ops o ++ (lo x ++ (lo y ++ (lo z ++ [.b id, .b id2, .b id']))), [(.b id, .spent), (.b id', .row false e k (es.take i ++ [ds] ++ es.drop i)), (.t d, .own id' k (es.take i ++ [ds] ++ es.drop i).length)]⟩ := by
  have hkd' : ∀ e ∈ [ds], e.length = k := fun e he => by rw [List.mem_singleton] at he; rw [he]; exact hkd
  refine valid_turn (x := x) hop hc hxs hen hg hdst hd hx hb hid (fun e he => ?_) (fun l hl => by simp at hl ⊢; rcases hl with h | h | h <;> simp [h]) fun m' hm φ a w hr => ?_
  · simp only [List.mem_append] at he
    rcases he with (he | he) | he
    · exact hk e (List.mem_of_mem_take he)
    · exact hkd' e he
    · exact hk e (List.mem_of_mem_drop he)
  · have hx' := hr.ev' (x := x) (fun l hl => hm l (by simp [hl])) hx
    have hz' := hr.ev' (x := z) (fun l hl => hm l (by simp [hl])) hz
    have hy' : a.eval y = .int .i64 i := hr.s (x := y) (fun l hl => hm l (by simp [hl])) hy
    have hb' : m' (.b id) = .row false e k es := by rw [hm _ (by simp)]; exact hb
    have hb2' : m' (.b id2) = .row fz e2 k [ds] := by rw [hm _ (by simp)]; exact hb2
    obtain ⟨xs, q1, q2⟩ := row_owned hr hb' hx' hk
    have q3 := q2.one hk h1
    rcases row_at hr hb2' with ⟨g1, g2⟩ | ⟨vb, cap, arr, g1, g2, g3, g4, g5, g6⟩
    · cases g2
    · rcases own_inv hz' with ⟨hφ, h2, h3⟩ | ⟨b', c', hφ, h2, hle⟩
      · cases h3
      · rw [g1] at hφ
        simp only [Option.some.injEq, Prod.mk.injEq] at hφ
        obtain ⟨rfl, rfl⟩ := hφ
        have hks : k ≤ arr.size := by
          rw [g3]
          have := Nat.mul_le_mul_right k g4
          simpa using this
        have hR : RCells (okOf G φ m' w) w k [ds] (arr.toList.take k) := ⟨by simp; omega, fun y j ds' d hy hj => by
          have hjk : j < k := by rw [← hkd' ds' (List.mem_of_getElem? hy)]; exact (List.getElem?_eq_some_iff.1 hj).1
          have hy0 : y = 0 := by have := (List.getElem?_eq_some_iff.1 hy).1; simpa using this
          obtain ⟨u, hu1, hu2⟩ := (g6 y ds' hy).2 j d hj
          subst hy0
          refine ⟨u, ?_, hu2⟩
          rw [List.getElem?_take_of_lt (by omega), Array.getElem?_toList]; exact hu1⟩
        have hap : (a.eval x).ownBlock ≠ some vb := fun he => by
          rcases own_inv hx' with ⟨hφ, h3, _⟩ | ⟨b', c', hφ, h3, hle⟩
          · rw [h3] at he; simp [Value.ownBlock] at he
          · rw [h3] at he
            simp only [Value.ownBlock, Option.some.injEq] at he
            subst he
            have := hr.inj id id2 b' c' cap hφ g1 (by rw [hb']; rfl) hne
            rw [hb2'] at this
            cases this
        have := hS w (a.eval x) es.length i xs vb cap arr e2 (arr.toList.take k) q1 q3 hi hby hmax (by simp; omega) g2 rfl hks (hR.one hkd' (fun e he => by rw [List.mem_singleton] at he; rw [he]; exact h1d)) hap
        have e1 : #[x, y, z].map a.eval = #[a.eval x, .int .i64 i, .slice (some ⟨vb, 0, none⟩) 1 cap] := by simp [hy', h2]
        rw [e1]
        refine this.mono ?_
        rintro e' w' ⟨v', rfl, s1, s2, s3⟩
        have hl : (es.take i ++ [ds] ++ es.drop i).length = es.length + 1 := by simp; omega
        exact ⟨v', _, rfl, by rw [hl]; exact s1, s2, s3, ((q2.take hk i hi).append hR).append (q2.drop i)⟩

theorem v_delete {f d id id' k : Nat} {e : TypeId} {es : List (List D)} {i : Nat} {c : Call} {x y z : Operand} (hS : DelSpec P f e k) (hop : o.op = .call c) (hc : c.callee = .value (.func f)) (hxs : c.args = #[x, y, z]) (hen : ∀ args w, (callFunc f args).run P w = .ok (.enter f args) w)
    (hg : GOn ops o m) (hdst : o.dst = some d) (hd : d < G.nt) (hx : evO m x = .own id k es.length) (hb : m (.b id) = .row false e k es) (hy : evO m y = iV (i : Int)) (hz : evO m z = iV ((i : Int) + 1)) (hid : m (.b id') = .nob) (hi : i < es.length)
    (hk : ∀ e ∈ es, e.length = k) (h1 : ∀ e ∈ es, ∀ d ∈ e, d.one = true) :
    Valid P ops G o m ⟨gloc ops o ++ (lo x ++ (lo y ++ (lo z ++ [.b id, .b id']))), [(.b id, .spent), (.b id', .row false e k (es.take i ++ es.drop (i + 1))), (.t d, .own id' k (es.take i ++ es.drop (i + 1)).length)]⟩ := by
  refine valid_turn (x := x) hop hc hxs hen hg hdst hd hx hb hid (fun e he => ?_) (fun l hl => by simp at hl ⊢; rcases hl with h | h | h <;> simp [h]) fun m' hm φ a w hr => ?_
  · simp only [List.mem_append] at he
    rcases he with he | he
    · exact hk e (List.mem_of_mem_take he)
    · exact hk e (List.mem_of_mem_drop he)
  · have hx' := hr.ev' (x := x) (fun l hl => hm l (by simp [hl])) hx
    have hz' : a.eval z = .int .i64 ((i : Int) + 1) := hr.s (x := z) (fun l hl => hm l (by simp [hl])) hz
    have hy' : a.eval y = .int .i64 i := hr.s (x := y) (fun l hl => hm l (by simp [hl])) hy
    have hb' : m' (.b id) = .row false e k es := by rw [hm _ (by simp)]; exact hb
    obtain ⟨xs, q1, q2⟩ := row_owned hr hb' hx' hk
    have := hS w (a.eval x) es.length i xs q1 (q2.one hk h1) hi
    have e1 : #[x, y, z].map a.eval = #[a.eval x, .int .i64 i, .int .i64 ((i : Int) + 1)] := by simp [hy', hz']
    rw [e1]
    refine this.mono ?_
    rintro e' w' ⟨v', rfl, s1, s2, s3⟩
    have hl : (es.take i ++ es.drop (i + 1)).length = es.length - 1 := by simp; omega
    exact ⟨v', _, rfl, by rw [hl]; exact s1, s2, .inl s3, (q2.take hk i (by omega)).append (q2.drop (i + 1))⟩

/-! ### Typed -/
def insOK (bytes : Nat) (i : Int) (n : Nat) : Bool := decide (0 ≤ i ∧ i ≤ n ∧ (n + 1) * bytes ≤ 140737488355328 ∧ n ≤ 4611686018427387000)
theorem w_ins {α : Type} {f d id id2 k bytes : Nat} {e e2 : TypeId} {fz : Bool} {i : Int} {c : Call} {x y z : Operand} (id' : Nat) (l : List α) (x' : α) (g : α → List D) (hS : InsSpec P f e k bytes) (hop : o.op = .call c) (hc : c.callee = .value (.func f)) (hxs : c.args = #[x, y, z]) (hen : ∀ args w, (callFunc f args).run P w = .ok (.enter f args) w)
    (hg : GOn ops o m) (hdst : o.dst = some d) (hd : d < G.nt) (hf : EncT g k) (hx : evO m x = .own id k l.length) (hb : m (.b id) = .row false e k (l.map g)) (hy : evO m y = iV i) (hz : evO m z = .own id2 k [x'].length) (hb2 : m (.b id2) = .row fz e2 k ([x'].map g)) (hid : m (.b id') = .nob) (hne : (id == id2) = false) (hi : insOK bytes i l.length = true) :
    Valid P ops G o m ⟨gloc ops o ++ (lo x ++ (lo y ++ (lo z ++ [.b id, .b id2, .b id']))), [(.b id, .spent), (.b id', .row false e k ((l.take i.toNat ++ [x'] ++ l.drop i.toNat).map g)), (.t d, .own id' k (l.take i.toNat ++ [x'] ++ l.drop i.toNat).length)]⟩ := by
  obtain ⟨h0, h1, h2, h3⟩ := of_decide_eq_true hi
  have := v_insert (i := i.toNat) (id' := id') (es := l.map g) (ds := g x') hS hop hc hxs hen hg hdst hd (by simpa using hx) hb (by rw [Int.toNat_of_nonneg h0]; exact hy) hz hb2 hid (by simpa using hne) (by rw [List.length_map]; omega) (hf.lens l) (hf.ones l) (hf.len x') (hf.one x') (by simpa using h2) (by simpa using h3)
  simpa [List.map_append, List.map_take, List.map_drop] using this

theorem iV_of {a b : Int} {v : V} (h : a = b) (hv : v = iV a) : v = iV b := h ▸ hv
def delOK (i : Int) (n : Nat) : Bool := decide (0 ≤ i ∧ i < n)
theorem w_del {α : Type} {f d id k : Nat} {e : TypeId} {i : Int} {c : Call} {x y z : Operand} (id' : Nat) (l : List α) (g : α → List D) (hS : DelSpec P f e k) (hop : o.op = .call c) (hc : c.callee = .value (.func f)) (hxs : c.args = #[x, y, z]) (hen : ∀ args w, (callFunc f args).run P w = .ok (.enter f args) w)
    (hg : GOn ops o m) (hdst : o.dst = some d) (hd : d < G.nt) (hf : EncT g k) (hx : evO m x = .own id k l.length) (hb : m (.b id) = .row false e k (l.map g)) (hy : evO m y = iV i) (hz : evO m z = iV (i + 1)) (hid : m (.b id') = .nob) (hi : delOK i l.length = true) :
    Valid P ops G o m ⟨gloc ops o ++ (lo x ++ (lo y ++ (lo z ++ [.b id, .b id']))), [(.b id, .spent), (.b id', .row false e k ((l.take i.toNat ++ l.drop (i.toNat + 1)).map g)), (.t d, .own id' k (l.take i.toNat ++ l.drop (i.toNat + 1)).length)]⟩ := by
  obtain ⟨h0, h1⟩ := of_decide_eq_true hi
  have := v_delete (i := i.toNat) (id' := id') (es := l.map g) hS hop hc hxs hen hg hdst hd (by simpa using hx) hb (by rw [Int.toNat_of_nonneg h0]; exact hy) (by rw [Int.toNat_of_nonneg h0]; exact hz) hid (by rw [List.length_map]; omega) (hf.lens l) (hf.ones l)
  simpa [List.map_append, List.map_take, List.map_drop] using this
end
end Go.Awp
