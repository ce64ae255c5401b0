/- Operations that write or make memory. No program in sight. -/
import Derived.Test.YthhpelmjnmlgjaaGreatDoorAwpMem
set_option linter.unusedSimpArgs false
set_option linter.unusedVariables false
namespace Go.Awp
open Go.RowKit

section
variable {P : Program} {ops : Array Oper} {G : Call0} {o : Oper} {m : St}

theorem updL_append (m : St) : ∀ (a b : List (Loc × V)), updL m (a ++ b) = updL (updL m a) b
  | [], _ => rfl
  | p :: a, b => by rw [List.cons_append, updL, updL, updL_append _ a b]

theorem upd_b_t (m : St) (id t : Nat) (x : V) : upd m (.b id) x (.t t) = m (.t t) := upd_ne _ _ (by simp)
theorem upd_b_c (m : St) (id i j : Nat) (x : V) : upd m (.b id) x (.c i j) = m (.c i j) := upd_ne _ _ (by simp)
theorem upd_b_b (m : St) {id i : Nat} (x : V) (h : i ≠ id) : upd m (.b id) x (.b i) = m (.b i) := upd_ne _ _ (by simpa using h)

theorem cellsW_t (id o t : Nat) (cs : List V) (m : St) : updL m (cellsW id o cs) (.t t) = m (.t t) := cellsW_other id cs o m (fun j _ _ => by simp)
theorem cellsW_b (id o i : Nat) (cs : List V) (m : St) : updL m (cellsW id o cs) (.b i) = m (.b i) := cellsW_other id cs o m (fun j _ _ => by simp)
theorem cellsW_c (id o i j : Nat) (cs : List V) (m : St) (h : i ≠ id) : updL m (cellsW id o cs) (.c i j) = m (.c i j) := cellsW_other id cs o m (fun k _ _ => by simp; intro e; exact absurd e h)

/-! ### New variables -/
/-- A new variable that holds the cells cs. -/
theorem RR.newBox {φ : Phi} {a : Act} {w : World} (h : RR G φ m a w) (id : Nat) (hid : m (.b id) = .nob) (arr : Array Value) (e : TypeId) (cs : List V) (hl : arr.size = cs.length)
    (hc : ∀ (i : Nat) (v : Value) (c : V), arr[i]? = some v → cs[i]? = some c → RepV φ (okOf G φ m w) w v c) :
    RR G (updPhi φ id (some (w.heap.size, 0))) (updL (upd m (.b id) (.box false cs.length)) (cellsW id 0 cs)) a (w.alloc (.cells arr e)) := by
  have hφid : φ id = none := by have := h.blk id; unfold BlkOK at this; rw [hid] at this; exact this
  refine h.newBlk id 0 hid (.cells arr e) (fun t => by rw [cellsW_t, upd_b_t]) (fun i hi => by rw [cellsW_b, upd_b_b _ _ hi]) (fun i j hi => by rw [cellsW_c _ _ _ _ _ _ hi, upd_b_c]) ?_
  intro ok' hok
  unfold BlkOK
  rw [cellsW_b, upd_self]
  refine ⟨w.heap.size, 0, arr, e, updPhi_self _ _ _, heap_alloc_at _ _, hl, fun j v hj => ?_⟩
  have hlt : j < cs.length := by rw [← hl]; exact (Array.getElem?_eq_some_iff.1 hj).1
  have := cellsW_at id cs 0 (upd m (.b id) (.box false cs.length)) j cs[j] (by simp)
  rw [Nat.zero_add] at this
  rw [this]
  exact (hc j v cs[j] hj (by simp)).mono (fun i x hi => by rw [updPhi_ne _ _ (fun e => by subst e; rw [hφid] at hi; cases hi)]; exact hi) hok

theorem v_box {d T id : Nat} {x : Operand} {X : V} {cs : List V} (hop : o.op = .box T x) (hg : GOn ops o m) (hdst : o.dst = some d) (hd : d < G.nt)
    (hx : evO m x = X) (hcs : X.cellsV = cs) (h1 : ∀ c ∈ cs, c.one = true) (hid : m (.b id) = .nob) :
    Valid P ops G o m ⟨gloc ops o ++ (lo x ++ [.b id]), (.b id, .box false cs.length) :: (cellsW id 0 cs ++ [(.t d, .ptr id 0)])⟩ :=
  valid_of hg (fun l hl => by simp [hl]) fun m' hm φ a w hr => by
    have hx' := hr.ev' (x := x) (fun l hl => hm l (by simp [hl])) hx
    subst hcs
    obtain ⟨h2, h3, _⟩ := rep_cells hx' h1
    refine ⟨.pointer (some ⟨w.heap.size, 0, none⟩), w.alloc (.cells (a.eval x).cells T), ?_, updPhi φ id (some (w.heap.size, 0)), ?_⟩
    · simp [execOp, hop, Instr.box, newVar, newRow]
    · have := hr.newBox id (by rw [hm _ (by simp)]; exact hid) (a.eval x).cells T X.cellsV h2 h3
      rw [hdst]
      show RR G _ (updL (upd m' (.b id) _) (cellsW id 0 X.cellsV ++ [(.t d, .ptr id 0)])) _ _
      rw [updL_append]
      exact this.put d hd (.ptr id 0 w.heap.size 0 (updPhi_self _ _ _))

/-- Zero values, as a variable of a type begins: a slice is told as a constant, or as data. -/
def zeroFits (v : Value) (c : V) : Bool :=
  match v, c with
  | .slice none 0 0, .d (.sl _ []) => true
  | _, _ => false

theorem v_alloc {d T id : Nat} {z : Value} {cs : List V} (hop : o.op = .alloc T) (hg : GOn ops o m) (hdst : o.dst = some d) (hd : d < G.nt)
    (hz : ∀ w, (zeroValue T).run P w = .ok z w) (hcs : z.cells.size = cs.length) (hfit : ∀ (i : Nat) (v : Value) (c : V), z.cells[i]? = some v → cs[i]? = some c → c = .d (.s v) ∨ zeroFits v c = true) (hid : m (.b id) = .nob) :
    Valid P ops G o m ⟨gloc ops o ++ [.b id], (.b id, .box false cs.length) :: (cellsW id 0 cs ++ [(.t d, .ptr id 0)])⟩ :=
  valid_of hg (fun l hl => by simp [hl]) fun m' hm φ a w hr => by
    refine ⟨.pointer (some ⟨w.heap.size, 0, none⟩), w.alloc (.cells z.cells T), ?_, updPhi φ id (some (w.heap.size, 0)), ?_⟩
    · simp [execOp, hop, Instr.alloc, hz, newVar, newRow]
    · have := hr.newBox id (by rw [hm _ (by simp)]; exact hid) z.cells T cs hcs (fun i v c hv hc => by
        rcases hfit i v c hv hc with e | e
        · rw [e]; exact .d (.s v)
        · unfold zeroFits at e
          split at e
          · exact .d (.nil _)
          · cases e)
      rw [hdst]
      show RR G _ (updL (upd m' (.b id) _) (cellsW id 0 cs ++ [(.t d, .ptr id 0)])) _ _
      rw [updL_append]
      exact this.put d hd (.ptr id 0 w.heap.size 0 (updPhi_self _ _ _))

/-! ### Stores -/
theorem splice_get (cur : Array Value) (vs : List Value) (o j : Nat) (h : o + vs.length ≤ cur.size) :
    (cur.toList.take o ++ vs ++ cur.toList.drop (o + vs.length)).toArray[j]? = if j < o then cur[j]? else if j < o + vs.length then vs[j - o]? else cur[j]? := by
  have hto : (cur.toList.take o).length = o := by simp; omega
  rw [List.getElem?_toArray]
  by_cases h1 : j < o
  · rw [if_pos h1, List.append_assoc, List.getElem?_append_left (by omega), List.getElem?_take_of_lt h1, Array.getElem?_toList]
  · rw [if_neg h1]
    by_cases h2 : j < o + vs.length
    · rw [if_pos h2, List.getElem?_append_left (by simp; omega), List.getElem?_append_right (by omega), hto]
    · rw [if_neg h2, List.getElem?_append_right (by simp; omega), List.getElem?_drop, Array.getElem?_toList]
      congr 1
      simp; omega

theorem splice_size (cur : Array Value) (vs : List Value) (o : Nat) (h : o + vs.length ≤ cur.size) : (cur.toList.take o ++ vs ++ cur.toList.drop (o + vs.length)).toArray.size = cur.size := by
  rw [List.size_toArray, List.length_append, List.length_append, List.length_take, List.length_drop, Array.length_toList]; omega

theorem run_storeVar_at {T b off : Nat} {v : Value} {w : World} {cur : Array Value} {e : TypeId} (hsz : (sizeOf T).run P w = .ok v.cells.size w) (hb : w.heap[b]? = some (.cells cur e (0, 0))) (hfit : off + v.cells.size ≤ cur.size)
    (h1 : ∀ u ∈ v.cells.toList, u.oneCell' = true) : (storeVar T ⟨b, off, none⟩ v).run P w = .ok () (w.setRow b (cur.toList.take off ++ v.cells.toList ++ cur.toList.drop (off + v.cells.toList.length)).toArray) := by
  have := run_storeCells_at P b off e v.cells.toList 0 cur w hb (by simpa using hfit) h1
  simp only [Nat.add_zero] at this
  simp [storeVar, hsz, this]

theorem v_store_box {T id off n : Nat} {x y : Operand} {Y : V} {cs : List V} (hop : o.op = .store T x y) (hg : GOn ops o m) (hdst : o.dst = none) (hsz : ∀ w, (sizeOf T).run P w = .ok cs.length w)
    (hx : evO m x = .ptr id off) (hb : m (.b id) = .box false n) (hy : evO m y = Y) (hcs : Y.cellsV = cs) (h1 : ∀ c ∈ cs, c.one = true) (hk : off + cs.length ≤ n) :
    Valid P ops G o m ⟨gloc ops o ++ (lo x ++ (lo y ++ [.b id])), cellsW id off cs⟩ :=
  valid_skip hg (fun l hl => by simp [hl]) fun m' hm φ a w hr => by
    subst hcs
    obtain ⟨b, c, hφ, h2⟩ := hr.ptr (x := x) (fun l hl => hm l (by simp [hl])) hx
    have hy' := hr.ev' (x := y) (fun l hl => hm l (by simp [hl])) hy
    obtain ⟨h4, h5, h6⟩ := rep_cells hy' h1
    have hb' : m' (.b id) = .box false n := by rw [hm _ (by simp)]; exact hb
    obtain ⟨b', c', arr, e, g1, g2, g3, g4⟩ := box_at hr hb'
    rw [hφ] at g1
    simp only [Option.some.injEq, Prod.mk.injEq] at g1
    obtain ⟨rfl, rfl⟩ := g1
    have hrun := run_storeVar_at (P := P) (T := T) (off := off) (v := a.eval y) (w := w) (by rw [h4]; exact hsz w) g2 (by omega) h6
    refine ⟨w.setRow b (arr.toList.take off ++ (a.eval y).cells.toList ++ arr.toList.drop (off + (a.eval y).cells.toList.length)).toArray, ?_, φ, ?_⟩
    · simp only [execOp, hop, h2, Instr.storeAt, Instr.sureAddr, Sem.run_bind, Sem.run_pure, Result.andThen_ok, hrun]
    · rw [hdst]
      show RR G φ (updL m' (cellsW id off Y.cellsV)) a _
      have hlt := hr.lt id b c hφ
      refine hr.turn id b c hφ (by rw [hb']; rfl) (fun t => cellsW_t _ _ _ _ _) (fun i hi => cellsW_b _ _ _ _ _) (fun i j hi => cellsW_c _ _ _ _ _ _ hi)
        (below_setRow hr.below hlt.1 _) (setRow_size _ _ _) (fun b' hb' => setRow_other _ _ _ _ hb') ?_
      intro ok' hok
      unfold BlkOK
      rw [cellsW_b, hb']
      have hlen : (a.eval y).cells.toList.length = Y.cellsV.length := by simpa using h4
      refine ⟨b, c, _, e, hφ, setRow_heap _ _ _ _ _ _ g2, by rw [splice_size _ _ _ (by omega)]; exact g3, fun j v hj => ?_⟩
      rw [splice_get _ _ _ _ (by omega)] at hj
      by_cases j1 : j < off
      · rw [if_pos j1] at hj
        rw [cellsW_other id Y.cellsV off m' (fun k h1 h2 e => by cases e; omega)]
        exact (g4 j v hj).mono (fun _ _ h => h) hok
      · rw [if_neg j1] at hj
        by_cases j2 : j < off + (a.eval y).cells.toList.length
        · rw [if_pos j2, Array.getElem?_toList] at hj
          have := cellsW_at id Y.cellsV off m' (j - off) Y.cellsV[j - off] (by simp)
          rw [show off + (j - off) = j by omega] at this
          rw [this]
          exact (h5 (j - off) v _ hj (by simp)).mono (fun _ _ h => h) hok
        · rw [if_neg j2] at hj
          rw [cellsW_other id Y.cellsV off m' (fun k h1 h2 e => by cases e; omega)]
          exact (g4 j v hj).mono (fun _ _ h => h) hok

theorem v_store_elp {T id k i off : Nat} {e : TypeId} {es : List (List D)} {ds ys : List D} {x y : Operand} {Y : V} (hop : o.op = .store T x y) (hg : GOn ops o m) (hdst : o.dst = none) (hsz : ∀ w, (sizeOf T).run P w = .ok ys.length w)
    (hx : evO m x = .elp id k i off) (hb : m (.b id) = .row false e k es) (hi : es[i]? = some ds) (hy : evO m y = Y) (hcs : Y.cellsV = ys.map .d) (h1 : ∀ c ∈ Y.cellsV, c.one = true) (hk : off + ys.length ≤ k) :
    Valid P ops G o m ⟨gloc ops o ++ (lo x ++ (lo y ++ [.b id])), [(.b id, .row false e k (es.set i (ds.take off ++ ys ++ ds.drop (off + ys.length))))]⟩ :=
  valid_skip hg (fun l hl => by simp [hl]) fun m' hm φ a w hr => by
    obtain ⟨b, c, hφ, h2⟩ := hr.elp (x := x) (fun l hl => hm l (by simp [hl])) hx
    have hy' := hr.ev' (x := y) (fun l hl => hm l (by simp [hl])) hy
    obtain ⟨h4, h5, h6⟩ := rep_cells hy' h1
    have hb' : m' (.b id) = .row false e k es := by rw [hm _ (by simp)]; exact hb
    have hylen : (a.eval y).cells.toList.length = ys.length := by have := h4; rw [hcs] at this; simpa using this
    rcases row_at hr hb' with ⟨h3, _⟩ | ⟨b', cap, arr, g1, g2, g3, g4, g5, g6⟩
    · rw [hφ] at h3; cases h3
    · rw [hφ] at g1
      simp only [Option.some.injEq, Prod.mk.injEq] at g1
      obtain ⟨rfl, rfl⟩ := g1
      have hilt : i < es.length := (List.getElem?_eq_some_iff.1 hi).1
      have hfit : i * k + off + (a.eval y).cells.toList.length ≤ arr.size := by
        have h7 : i * k + k ≤ c * k := by rw [← Nat.succ_mul]; exact Nat.mul_le_mul_right k (by omega)
        rw [g3]; omega
      obtain ⟨hdl, hds⟩ := g6 i ds hi
      have hrun := run_storeVar_at (P := P) (T := T) (off := i * k + off) (v := a.eval y) (w := w) (by
        have : (a.eval y).cells.size = ys.length := by simpa using hylen
        rw [this]; exact hsz w) g2 (by simpa using hfit) h6
      refine ⟨w.setRow b (arr.toList.take (i * k + off) ++ (a.eval y).cells.toList ++ arr.toList.drop (i * k + off + (a.eval y).cells.toList.length)).toArray, ?_, φ, ?_⟩
      · simp only [execOp, hop, h2, Instr.storeAt, Instr.sureAddr, Sem.run_bind, Sem.run_pure, Result.andThen_ok, hrun]
      · rw [hdst]
        show RR G φ (upd m' (.b id) _) a _
        have hlt := hr.lt id b c hφ
        refine hr.turn id b c hφ (by rw [hb']; rfl) (fun t => upd_b_t _ _ _ _) (fun j hj => upd_b_b _ _ hj) (fun j l hj => upd_b_c _ _ _ _ _)
          (below_setRow hr.below hlt.1 _) (setRow_size _ _ _) (fun b' hb' => setRow_other _ _ _ _ hb') ?_
        intro ok' hok
        unfold BlkOK
        rw [upd_self]
        refine .inr ⟨b, c, _, hφ, setRow_heap _ _ _ _ _ _ g2, by rw [splice_size _ _ _ hfit]; exact g3, by simpa using g4, g5, fun x0 ds' hx' => ?_⟩
        by_cases ex : x0 = i
        · subst ex
          rw [List.getElem?_set_self hilt] at hx'
          simp only [Option.some.injEq] at hx'
          subst hx'
          refine ⟨by simp; omega, fun j d hj => ?_⟩
          have hjk : j < k := by have := (List.getElem?_eq_some_iff.1 hj).1; simp at this; omega
          rw [splice_get _ _ _ _ hfit]
          by_cases j1 : j < off
          · rw [if_pos (by omega)]
            rw [List.append_assoc, List.getElem?_append_left (by simp; omega), List.getElem?_take_of_lt j1] at hj
            obtain ⟨v, hv1, hv2⟩ := hds j d hj
            exact ⟨v, hv1, hv2.mono hok⟩
          · rw [if_neg (by omega)]
            by_cases j2 : j < off + ys.length
            · rw [if_pos (by omega)]
              rw [List.getElem?_append_left (by simp; omega), List.getElem?_append_right (by simp; omega)] at hj
              have hto : (ds.take off).length = off := by simp; omega
              rw [hto] at hj
              have hlt2 : j - off < (a.eval y).cells.size := by have : (a.eval y).cells.size = ys.length := by simpa using hylen
                                                                omega
              refine ⟨(a.eval y).cells[j - off], ?_, ?_⟩
              · rw [show x0 * k + j - (x0 * k + off) = j - off by omega, Array.getElem?_toList]; exact Array.getElem?_eq_getElem hlt2
              · have := h5 (j - off) (a.eval y).cells[j - off] (.d d) (Array.getElem?_eq_getElem hlt2) (by rw [hcs, List.getElem?_map, hj]; rfl)
                generalize (a.eval y).cells[j - off] = u at this ⊢
                cases this with | d h => exact h.mono hok
            · rw [if_neg (by omega)]
              have hto : (ds.take off ++ ys).length = off + ys.length := by simp; omega
              rw [List.getElem?_append_right (by omega), List.getElem?_drop, hto, show off + ys.length + (j - (off + ys.length)) = j by omega] at hj
              obtain ⟨v, hv1, hv2⟩ := hds j d hj
              exact ⟨v, hv1, hv2.mono hok⟩
        · rw [List.getElem?_set_ne (Ne.symm ex)] at hx'
          obtain ⟨l1, l2⟩ := g6 x0 ds' hx'
          refine ⟨l1, fun j d hj => ?_⟩
          obtain ⟨v, hv1, hv2⟩ := l2 j d hj
          refine ⟨v, ?_, hv2.mono hok⟩
          have hjk : j < k := by have := (List.getElem?_eq_some_iff.1 hj).1; omega
          rw [splice_get _ _ _ _ hfit]
          rcases Nat.lt_or_gt_of_ne ex with hlt' | hgt
          · have h8 : x0 * k + k ≤ i * k := by rw [← Nat.succ_mul]; exact Nat.mul_le_mul_right k hlt'
            rw [if_pos (by omega)]; exact hv1
          · have h8 : i * k + k ≤ x0 * k := by rw [← Nat.succ_mul]; exact Nat.mul_le_mul_right k hgt
            rw [if_neg (by omega), if_neg (by omega)]; exact hv1
end
end Go.Awp
