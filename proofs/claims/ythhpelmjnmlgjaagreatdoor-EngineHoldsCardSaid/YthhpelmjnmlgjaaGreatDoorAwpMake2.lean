/- Records and rows that are built, cuts, append. No program in sight. -/
import Derived.Test.YthhpelmjnmlgjaaGreatDoorAwpMake
import Derived.Laws.MakeOwn
import Derived.Laws.Slices
set_option linter.unusedSimpArgs false
set_option linter.unusedVariables false
namespace Go.Awp
open Go.RowKit

section
variable {P : Program} {ops : Array Oper} {G : Call0} {o : Oper} {m : St}

/-! ### Filling -/
def putAt (cells : List V) (off : Nat) (cs : List V) : List V := cells.take off ++ cs ++ cells.drop (off + cs.length)

def fillV (place : Nat → Option (Nat × Nat)) : List V → List (Nat × V) → Option (List V)
  | cells, [] => some cells
  | cells, (i, x) :: r => match place i with
    | none => none
    | some (off, size) => if x.cellsV.length = size ∧ off + size ≤ cells.length then fillV place (putAt cells off x.cellsV) r else none

def RepL (φ : Phi) (ok : Nat → Prop) (w : World) (arr : Array Value) (cs : List V) : Prop :=
  arr.size = cs.length ∧ ∀ (i : Nat) (v : Value) (c : V), arr[i]? = some v → cs[i]? = some c → RepV φ ok w v c

theorem foldl_set (off : Nat) : ∀ (vs : List Value) (k : Nat) (cells : Array Value),
    ((vs.zipIdx k).foldl (fun cs p => cs.setIfInBounds (off + p.2) p.1) cells).size = cells.size ∧
    ∀ j, off + k + vs.length ≤ cells.size → ((vs.zipIdx k).foldl (fun cs p => cs.setIfInBounds (off + p.2) p.1) cells)[j]? = if j < off + k then cells[j]? else if j < off + k + vs.length then vs[j - (off + k)]? else cells[j]?
  | [], k, cells => ⟨rfl, fun j _ => by
      by_cases h1 : j < off + k
      · simp [h1]
      · rw [if_neg h1, if_neg (by simp; omega)]; rfl⟩
  | v :: vs, k, cells => by
    rw [List.zipIdx_cons, List.foldl_cons]
    obtain ⟨h1, h2⟩ := foldl_set off vs (k + 1) (cells.setIfInBounds (off + k) v)
    refine ⟨by rw [h1]; simp, fun j hfit => ?_⟩
    simp only [List.length_cons] at hfit ⊢
    rw [h2 j (by simp; omega)]
    by_cases e1 : j < off + k
    · rw [if_pos (by omega), if_pos e1, Array.getElem?_setIfInBounds_ne (by omega)]
    · rw [if_neg e1]
      by_cases e2 : j = off + k
      · subst e2
        rw [if_pos (by omega), if_pos (by omega), Array.getElem?_setIfInBounds_self_of_lt (by omega)]
        simp
      · rw [if_neg (by omega)]
        by_cases e3 : j < off + k + (vs.length + 1)
        · rw [if_pos (by omega), if_pos e3, show j - (off + k) = j - (off + (k + 1)) + 1 by omega, List.getElem?_cons_succ]
        · rw [if_neg (by omega), if_neg e3, Array.getElem?_setIfInBounds_ne (by omega)]

theorem foldl_arr (off : Nat) (vs cells : Array Value) : vs.zipIdx.foldl (fun cs (p : Value × Nat) => cs.setIfInBounds (off + p.2) p.1) cells = (vs.toList.zipIdx 0).foldl (fun cs p => cs.setIfInBounds (off + p.2) p.1) cells := by
  rw [← Array.foldl_toList, Array.toList_zipIdx]

theorem fill_rep {φ : Phi} {ok : Nat → Prop} {w : World} {place : Nat → Option (Nat × Nat)} : ∀ (xs : List (Nat × V)) (vs : List (Nat × Value)) (cs cs' : List V) (arr : Array Value), RepL φ ok w arr cs →
    vs.map (·.1) = xs.map (·.1) → (∀ (i : Nat) (p : Nat × Value) (q : Nat × V), vs[i]? = some p → xs[i]? = some q → RepV φ ok w p.2 q.2) → (∀ q ∈ xs, ∀ c ∈ q.2.cellsV, c.one = true) → fillV place cs xs = some cs' →
    ∃ arr', Instr.fill place arr vs = some arr' ∧ RepL φ ok w arr' cs'
  | [], [], cs, cs', arr, h, _, _, _, hf => by
    simp only [fillV, Option.some.injEq] at hf
    subst hf
    exact ⟨arr, rfl, h⟩
  | [], _ :: _, _, _, _, _, h, _, _, _ => by simp at h
  | _ :: _, [], _, _, _, _, h, _, _, _ => by simp at h
  | (i, x) :: xs, (i', v) :: vs, cs, cs', arr, h, hn, hr, h1, hf => by
    simp only [List.map_cons, List.cons.injEq] at hn
    obtain ⟨rfl, hn⟩ := hn
    have hx := hr 0 (i', v) (i', x) rfl rfl
    obtain ⟨g1, g2, g3⟩ := rep_cells hx (h1 _ (by simp))
    simp only [fillV] at hf
    cases hp : place i' with
    | none => rw [hp] at hf; cases hf
    | some p =>
      obtain ⟨off, size⟩ := p
      rw [hp] at hf
      simp only [] at hf
      by_cases hc : x.cellsV.length = size ∧ off + size ≤ cs.length
      · rw [if_pos hc] at hf
        have hvs : v.cells.size = size := by rw [g1]; exact hc.1
        have hnot : ¬ (v.cells.size ≠ size ∨ off + v.cells.size > arr.size) := by rw [h.1]; omega
        have hfold := foldl_set off v.cells.toList 0 arr
        rw [← foldl_arr] at hfold
        obtain ⟨f1, f2⟩ := hfold
        have hlen : v.cells.toList.length = size := by simpa using hvs
        refine (fill_rep xs vs (putAt cs off x.cellsV) cs' _ ⟨by rw [f1, h.1, putAt]; simp; omega, fun j u c hu hc' => ?_⟩ hn (fun j p q hp hq => hr (j + 1) p q (by simpa using hp) (by simpa using hq)) (fun q hq => h1 q (by simp [hq])) hf).imp fun arr' ha => ⟨?_, ha.2⟩
        · rw [f2 j (by rw [h.1]; omega)] at hu
          rw [putAt] at hc'
          have hto : (cs.take off).length = off := by simp; omega
          by_cases e1 : j < off
          · rw [if_pos (by omega)] at hu
            rw [List.append_assoc, List.getElem?_append_left (by omega), List.getElem?_take_of_lt e1] at hc'
            exact h.2 j u c hu hc'
          · rw [if_neg (by omega)] at hu
            by_cases e2 : j < off + size
            · rw [if_pos (by omega), Nat.add_zero, Array.getElem?_toList] at hu
              rw [List.getElem?_append_left (by simp; omega), List.getElem?_append_right (by omega), hto] at hc'
              exact g2 _ u c hu hc'
            · rw [if_neg (by omega)] at hu
              rw [List.getElem?_append_right (by simp; omega), List.getElem?_drop] at hc'
              have : off + x.cellsV.length + (j - (cs.take off ++ x.cellsV).length) = j := by rw [List.length_append, hto]; omega
              rw [this] at hc'
              exact h.2 j u c hu hc'
        · rw [← ha.1]
          simp only [Instr.fill, hp]
          rw [if_neg (by simpa using hnot)]
      · rw [if_neg hc] at hf; cases hf

theorem parts_rep {φ : Phi} {a : Act} {w : World} {parts : Array (Nat × Operand)} {xs : List (Nat × V)} (h : RR G φ m a w) (hx : parts.toList.map (fun p => (p.1, evO m p.2)) = xs) :
    (parts.map fun (i, x) => (i, a.eval x)).toList.map (·.1) = xs.map (·.1) ∧ ∀ (i : Nat) (p : Nat × Value) (q : Nat × V), (parts.map fun (i, x) => (i, a.eval x)).toList[i]? = some p → xs[i]? = some q → RepV φ (okOf G φ m w) w p.2 q.2 := by
  subst hx
  refine ⟨by simp, fun i p q hp hq => ?_⟩
  rw [Array.toList_map, List.getElem?_map, Option.map_eq_some_iff] at hp
  rw [List.getElem?_map, Option.map_eq_some_iff] at hq
  obtain ⟨y, hy, rfl⟩ := hp
  obtain ⟨z, hz, rfl⟩ := hq
  rw [hy] at hz
  cases hz
  exact h.ev y.2

/-- How a record of type T is put together. -/
structure BuildT (P : Program) (T : Nat) (z : Value) (pl : Array (Nat × Nat)) : Prop where
  run : ∀ w (parts : Array (Nat × Value)) cells, Instr.fill (pl[·]?) z.cells parts.toList = some cells → (Instr.build T parts).run P w = .ok (.agg cells) w

theorem BuildT.mk' {T : Nat} {z : Value} {pl : Array (Nat × Nat)} {fs : Array Field} (hz : ∀ w, (zeroValue T).run P w = .ok z w) (hu : P.underlying T = some (.struct fs))
    (hp : ∀ w, ((fs.mapM fun f => do pure (f.offset, ← sizeOf f.type)) : Sem (Array (Nat × Nat))).run P w = .ok pl w) : BuildT P T z pl :=
  ⟨fun w parts cells h => by simp only [Instr.build, Sem.run_bind, hz w, Result.andThen_ok, run_underlying hu, hp w, h, Sem.run_pure]⟩

theorem evO_map_congr {m m' : St} : ∀ (l : List (Nat × Operand)), (∀ p ∈ l, ∀ x ∈ lo p.2, m' x = m x) → l.map (fun p => (p.1, evO m' p.2)) = l.map fun p => (p.1, evO m p.2)
  | [], _ => rfl
  | p :: l, h => by
    rw [List.map_cons, List.map_cons, evO_congr (h p (by simp)), evO_map_congr l (fun q hq => h q (by simp [hq]))]

theorem v_build {d T : Nat} {parts : Array (Nat × Operand)} {z : Value} {pl : Array (Nat × Nat)} {zs cs : List V} {xs : List (Nat × V)} (hop : o.op = .build T parts) (hg : GOn ops o m) (hdst : o.dst = some d) (hd : d < G.nt) (hT : BuildT P T z pl)
    (hzs : z.cells.size = zs.length) (hfit : ∀ (i : Nat) (v : Value) (c : V), z.cells[i]? = some v → zs[i]? = some c → c = .d (.s v) ∨ zeroFits v c = true)
    (hx : parts.toList.map (fun p => (p.1, evO m p.2)) = xs) (h1 : ∀ q ∈ xs, ∀ c ∈ q.2.cellsV, c.one = true) (hf : fillV (pl[·]?) zs xs = some cs) :
    Valid P ops G o m ⟨gloc ops o ++ parts.toList.flatMap (fun p => lo p.2), [(.t d, mkV cs)]⟩ :=
  valid_pure hg hdst hd fun m' hm φ a w h => by
    have hx' : parts.toList.map (fun p => (p.1, evO m' p.2)) = xs := by
      rw [← hx]; exact evO_map_congr _ fun p hp x hx => hm x (List.mem_flatMap.2 ⟨p, hp, hx⟩)
    obtain ⟨g1, g2⟩ := parts_rep h hx'
    have hz0 : RepL φ (okOf G φ m' w) w z.cells zs := ⟨hzs, fun i v c hv hc => by
      rcases hfit i v c hv hc with e | e
      · rw [e]; exact .d (.s v)
      · unfold zeroFits at e
        split at e
        · exact .d (.nil _)
        · cases e⟩
    obtain ⟨arr, k1, k2⟩ := fill_rep xs _ zs cs z.cells hz0 g1 g2 h1 hf
    refine ⟨.agg arr, ?_, rep_mkV k2.1 k2.2⟩
    simp only [execOp, hop, Sem.run_bind, hT.run w _ arr k1, Result.andThen_ok, Sem.run_pure]

/-! ### Rows -/
theorem flatten_get {α : Type} (k : Nat) : ∀ (es : List (List α)) (x j : Nat), (∀ e ∈ es, e.length = k) → j < k → es.flatten[x * k + j]? = (es[x]?).bind fun e => e[j]?
  | [], x, j, _, _ => by simp
  | e :: es, 0, j, h, hj => by
    have := h e (by simp)
    simp [List.getElem?_append_left (show j < e.length by omega)]
  | e :: es, x + 1, j, h, hj => by
    have he := h e (by simp)
    rw [List.flatten_cons, List.getElem?_append_right (by rw [he, Nat.succ_mul]; omega), he, show (x + 1) * k + j - k = x * k + j by rw [Nat.succ_mul]; omega, flatten_get k es x j (fun e' h' => h e' (by simp [h'])) hj]
    simp

theorem rowIn_of {ok : Nat → Prop} {φ : Phi} {w : World} {arr : Array Value} {k : Nat} {es : List (List D)} (hk : ∀ e ∈ es, e.length = k) (h : RepL φ ok w arr (es.flatten.map .d)) : RowIn ok w arr k es := by
  intro x ds hx
  have hl := hk ds (List.mem_of_getElem? hx)
  refine ⟨hl, fun j d hj => ?_⟩
  have hjk : j < k := by rw [← hl]; exact (List.getElem?_eq_some_iff.1 hj).1
  have hf := flatten_get k es x j hk hjk
  rw [hx, Option.bind_some, hj] at hf
  have hlt : x * k + j < arr.size := by
    rw [h.1, List.length_map]; exact (List.getElem?_eq_some_iff.1 hf).1
  refine ⟨arr[x * k + j], by simp [hlt], ?_⟩
  have := h.2 (x * k + j) arr[x * k + j] (.d d) (by simp [hlt]) (by rw [List.getElem?_map, hf]; rfl)
  generalize arr[x * k + j] = u at this ⊢
  cases this with | d h => exact h

theorem length_flatten_k {α : Type} (k : Nat) : ∀ (es : List (List α)), (∀ e ∈ es, e.length = k) → es.flatten.length = es.length * k
  | [], _ => by simp
  | e :: es, h => by rw [List.flatten_cons, List.length_append, h e (by simp), length_flatten_k k es (fun e' h' => h e' (by simp [h'])), List.length_cons, Nat.succ_mul]; omega

/-- A new row of the call's own. -/
theorem RR.newRow {φ : Phi} {a : Act} {w : World} (h : RR G φ m a w) (id cap k : Nat) (hid : m (.b id) = .nob) (arr : Array Value) (e : TypeId) (es : List (List D)) (hsz : arr.size = cap * k) (hle : es.length ≤ cap) (hmax : cap ≤ maxCap)
    (hrow : RowIn (okOf G φ m w) w arr k es) : RR G (updPhi φ id (some (w.heap.size, cap))) (upd m (.b id) (.row false e k es)) a (w.alloc (.cells arr e)) := by
  refine h.newBlk id cap hid (.cells arr e) (fun t => upd_b_t _ _ _ _) (fun i hi => upd_b_b _ _ hi) (fun i j hi => upd_b_c _ _ _ _ _) ?_
  intro ok' hok
  unfold BlkOK
  rw [upd_self]
  refine .inr ⟨w.heap.size, cap, arr, updPhi_self _ _ _, heap_alloc_at _ _, hsz, hle, hmax, fun x ds hx => ⟨(hrow x ds hx).1, fun j d hj => ?_⟩⟩
  obtain ⟨v, h1, h2⟩ := (hrow x ds hx).2 j d hj
  exact ⟨v, h1, h2.mono hok⟩

theorem v_buildSlice {d T e k n id : Nat} {parts : Array (Nat × Operand)} {z : Value} {xs : List (Nat × V)} {es : List (List D)} (hop : o.op = .buildSlice T n parts) (hg : GOn ops o m) (hdst : o.dst = some d) (hd : d < G.nt) (hT : SliceT P T e k)
    (hz : ∀ w, (zeroValue e).run P w = .ok z w) (hsm : n * k ≤ 2 ^ 24) (hx : parts.toList.map (fun p => (p.1, evO m p.2)) = xs) (h1 : ∀ q ∈ xs, ∀ c ∈ q.2.cellsV, c.one = true)
    (hk : ∀ e ∈ es, e.length = k) (hn : es.length = n) (hf : fillV (fun i => some (i * k, k)) (List.replicate (n * k) .top) xs = some (es.flatten.map .d)) (hid : m (.b id) = .nob) (hmax : n ≤ maxCap) :
    Valid P ops G o m ⟨gloc ops o ++ (parts.toList.flatMap (fun p => lo p.2) ++ [.b id]), [(.b id, .row false e k es), (.t d, .own id k n)]⟩ :=
  valid_of hg (fun l hl => by simp [hl]) fun m' hm φ a w hr => by
    have hx' : parts.toList.map (fun p => (p.1, evO m' p.2)) = xs := by
      rw [← hx]; exact evO_map_congr _ fun p hp x hx => hm x (by simp only [List.mem_append, List.mem_flatMap]; exact .inr (.inl ⟨p, hp, hx⟩))
    obtain ⟨g1, g2⟩ := parts_rep hr hx'
    have fin : ∀ (z0 : Array Value), z0.size = n * k → ∃ arr, Instr.fill (fun i => some (i * k, k)) z0 (parts.map fun (i, x) => (i, a.eval x)).toList = some arr ∧ RepL φ (okOf G φ m' w) w arr (es.flatten.map .d) := fun z0 hz0 =>
      fill_rep xs _ _ _ z0 ⟨by simpa using hz0, fun i v c hv hc => by
        have hlt : i < n * k := by have := (List.getElem?_eq_some_iff.1 hc).1; simpa using this
        rw [List.getElem?_replicate, if_pos hlt] at hc
        simp only [Option.some.injEq] at hc
        subst hc
        exact .top v⟩ g1 g2 h1 hf
    have hrun : ∃ arr, (Instr.buildSlice T n (parts.map fun (i, x) => (i, a.eval x))).run P w = .ok (.slice (some ⟨w.heap.size, 0, none⟩) n n) (w.alloc (.cells arr e)) ∧ RepL φ (okOf G φ m' w) w arr (es.flatten.map .d) := by
      have hns : ¬ n * k > 2 ^ 24 := by omega
      by_cases h0 : n * k = 0
      · obtain ⟨arr, f1, f2⟩ := fin ((Array.range (n * k)).map fun i => (#[] : Array Value)[i % (#[] : Array Value).size]!) (by simp)
        refine ⟨arr, ?_, f2⟩
        simp only [Instr.buildSlice, Sem.run_bind, run_underlying hT.und, hT.size, Result.andThen_ok, if_neg hns, if_pos h0, Sem.run_pure, f1]
        simp [newRow]
      · obtain ⟨arr, f1, f2⟩ := fin ((Array.range (n * k)).map fun i => z.cells[i % z.cells.size]!) (by simp)
        refine ⟨arr, ?_, f2⟩
        simp only [Instr.buildSlice, Sem.run_bind, run_underlying hT.und, hT.size, Result.andThen_ok, if_neg hns, if_neg h0, Sem.run_pure, hz w, f1]
        simp [newRow]
    obtain ⟨arr, r1, r2⟩ := hrun
    refine ⟨.slice (some ⟨w.heap.size, 0, none⟩) n n, w.alloc (.cells arr e), by simp only [execOp, hop, Sem.run_bind, r1, Result.andThen_ok, Sem.run_pure], updPhi φ id (some (w.heap.size, n)), ?_⟩
    rw [hdst]
    have hsz : arr.size = n * k := by rw [r2.1, List.length_map, length_flatten_k k es hk, hn]
    have := hr.newRow id n k (by rw [hm _ (by simp)]; exact hid) arr e es hsz (by omega) hmax (rowIn_of hk r2)
    exact this.put d hd (.own id k n w.heap.size n (updPhi_self _ _ _) (Nat.le_refl _))

/-! ### Cuts -/
def BdIs (m : St) (x : Option Operand) (dflt l : Nat) : Prop :=
  match x with
  | none => l = dflt
  | some x => ∃ ik, evO m x = .d (.s (.int ik l))

def lo? : Option Operand → List Loc
  | none => []
  | some x => lo x

theorem bound_run {φ : Phi} {m' : St} {a : Act} {w : World} {x : Option Operand} {dflt l : Nat} (h : RR G φ m' a w) (hm : ∀ l ∈ lo? x, m' l = m l) (hb : BdIs m x dflt l) :
    (x = none ∧ l = dflt) ∨ ∃ y ik, x = some y ∧ a.eval y = .int ik l := by
  cases x with
  | none => exact .inl ⟨rfl, hb⟩
  | some y =>
    obtain ⟨ik, hy⟩ := hb
    exact .inr ⟨y, ik, rfl, h.s hm hy⟩

theorem v_cut_sl {d T e k l h : Nat} {x : Operand} {xl xh : Option Operand} {es : List (List D)} (hop : o.op = .slice T x xl xh none) (hg : GOn ops o m) (hdst : o.dst = some d) (hd : d < G.nt) (hT : SliceT P T e k)
    (hx : evO m x = .d (.sl k es)) (hl : BdIs m xl 0 l) (hh : BdIs m xh es.length h) (hlh : l ≤ h) (hlen : h ≤ es.length) :
    Valid P ops G o m ⟨gloc ops o ++ (lo x ++ (lo? xl ++ lo? xh)), [(.t d, .d (.sl k ((es.take h).drop l)))]⟩ :=
  valid_pure hg hdst hd fun m' hm φ a w hr => by
    have h1 := hr.ev' (x := x) (fun l hl => hm l (by simp [hl])) hx
    have h2 := bound_run hr (x := xl) (fun l hl => hm l (by simp [hl])) hl
    have h3 := bound_run hr (x := xh) (fun l hl => hm l (by simp [hl])) hh
    have key : ∀ (len cap : Nat) (ad : Option Addr), len = es.length → len ≤ cap → (Instr.sliceAt T (.slice ad len cap) (xl.map a.eval) (xh.map a.eval) none).run P w = .ok (.slice (if cap = l then ad else ad.map (·.add (l * k))) (h - l) (cap - l)) w := fun len cap ad hle hc => by
      subst hle
      have hsl : ∀ ik, (Instr.sliceBound (.int ik (l : Int)) h .sliceB).run P w = .ok l w := fun ik => by
        have := run_sliceBound (P := P) w ik l h .sliceB (by omega) (by omega); simpa using this
      have hsh : ∀ ik, (Instr.sliceBound (.int ik (h : Int)) cap .sliceAcap).run P w = .ok h w := fun ik => by
        have := run_sliceBound (P := P) w ik h cap .sliceAcap (by omega) (by omega); simpa using this
      rcases h2 with ⟨e1, e2⟩ | ⟨yl, il, e1, e2⟩ <;> rcases h3 with ⟨e3, e4⟩ | ⟨yh, ih, e3, e4⟩ <;> subst e1 <;> subst e3
      · subst e2; subst e4
        simp [Instr.sliceAt, Instr.slice, Instr.sliceBounds, run_underlying hT.und, hT.size, Result.andThen]
      · subst e2
        simp [Instr.sliceAt, Instr.slice, Instr.sliceBounds, run_underlying hT.und, hT.size, e4, hsh, Result.andThen]
      · subst e4
        simp [Instr.sliceAt, Instr.slice, Instr.sliceBounds, run_underlying hT.und, hT.size, e2, hsl, Result.andThen]
      · simp [Instr.sliceAt, Instr.slice, Instr.sliceBounds, run_underlying hT.und, hT.size, e2, e4, hsl, hsh, Result.andThen]
    generalize hv : a.eval x = v at h1
    have hlen' : ((es.take h).drop l).length = h - l := by simp; omega
    cases h1 with
    | d h1 =>
      cases h1 with
      | nil =>
        simp only [List.length_nil, Nat.le_zero] at hlen
        subst hlen
        have : l = 0 := by omega
        subst this
        refine ⟨.slice (if 0 = 0 then none else none) (0 - 0) (0 - 0), by simp only [execOp, hop, hv, Sem.run_bind, Option.map_none, key 0 0 none rfl (Nat.le_refl _), Result.andThen_ok, Sem.run_pure], ?_⟩
        simp
        exact .d (.nil k)
      | emp a0 cap0 _ hmax =>
        simp only [List.length_nil, Nat.le_zero] at hlen
        subst hlen
        have : l = 0 := by omega
        subst this
        refine ⟨.slice (if cap0 = 0 then some a0 else (some a0).map (·.add (0 * k))) (0 - 0) (cap0 - 0), by simp only [execOp, hop, hv, Sem.run_bind, Option.map_none, key 0 cap0 (some a0) rfl (Nat.zero_le _), Result.andThen_ok, Sem.run_pure], ?_⟩
        by_cases hc0 : cap0 = 0
        · rw [if_pos hc0]; exact .d (.emp _ _ k (by omega))
        · rw [if_neg hc0]; exact .d (.emp _ _ k (by omega))
      | sl b off cap _ _ vs hcap hmax hb hk hvs hc =>
        refine ⟨.slice (if cap = l then some ⟨b, off, none⟩ else (some (⟨b, off, none⟩ : Addr)).map (·.add (l * k))) (h - l) (cap - l), by simp only [execOp, hop, hv, Sem.run_bind, Option.map_none, key es.length cap (some ⟨b, off, none⟩) rfl hcap, Result.andThen_ok, Sem.run_pure], .d ?_⟩
        rw [← hlen']
        have hget : ∀ i, ((es.take h).drop l)[i]? = if l + i < h then es[l + i]? else none := fun i => by
          rw [List.getElem?_drop, List.getElem?_take]
        have hk' : ∀ (i : Nat) (e : List D), ((es.take h).drop l)[i]? = some e → e.length = k := fun i e hi => by
          rw [hget] at hi
          split at hi
          · exact hk _ _ hi
          · cases hi
        by_cases hcl : cap = l
        · rw [if_pos hcl]
          have hnil : (es.take h).drop l = [] := List.eq_nil_of_length_eq_zero (by omega)
          rw [hnil]
          exact .sl b off (cap - l) k [] (fun _ _ => undef) (by simp) (by omega) hb (fun i e h => by simp at h) (fun i e j c h => by simp at h) (fun i e j c h => by simp at h)
        · rw [if_neg hcl, Option.map_some, Addr.add_lit]
          refine .sl b (off + l * k) (cap - l) k _ (fun i j => vs (l + i) j) (by omega) (by omega) hb hk' (fun i e j c hi hj => ?_) (fun i e j c hi hj => ?_)
          · rw [hget] at hi
            split at hi
            · have := hvs _ _ _ _ hi hj
              rw [show off + l * k + i * k + j = off + (l + i) * k + j by rw [Nat.add_mul]; omega]; exact this
            · cases hi
          · rw [hget] at hi
            split at hi
            · exact hc _ _ _ _ hi hj
            · cases hi

theorem v_cut_str {d T l h : Nat} {x : Operand} {xl xh : Option Operand} {s : ByteArray} (hop : o.op = .slice T x xl xh none) (hg : GOn ops o m) (hdst : o.dst = some d) (hd : d < G.nt) (hT : P.underlying T = some .string)
    (hx : evO m x = .d (.s (.string s))) (hl : BdIs m xl 0 l) (hh : BdIs m xh s.size h) (hlh : l ≤ h) (hlen : h ≤ s.size) :
    Valid P ops G o m ⟨gloc ops o ++ (lo x ++ (lo? xl ++ lo? xh)), [(.t d, .d (.s (.string (s.extract l h))))]⟩ :=
  valid_pure hg hdst hd fun m' hm φ a w hr => by
    have h1 := hr.s (x := x) (fun l hl => hm l (by simp [hl])) hx
    have h2 := bound_run hr (x := xl) (fun l hl => hm l (by simp [hl])) hl
    have h3 := bound_run hr (x := xh) (fun l hl => hm l (by simp [hl])) hh
    refine ⟨_, ?_, .d (.s _)⟩
    have hsl : ∀ ik, (Instr.sliceBound (.int ik (l : Int)) h .sliceB).run P w = .ok l w := fun ik => by
      have := run_sliceBound (P := P) w ik l h .sliceB (by omega) (by omega); simpa using this
    have hsh : ∀ ik, (Instr.sliceBound (.int ik (h : Int)) s.size .sliceAlen).run P w = .ok h w := fun ik => by
      have := run_sliceBound (P := P) w ik h s.size .sliceAlen (by omega) (by omega); simpa using this
    rcases h2 with ⟨e1, e2⟩ | ⟨yl, il, e1, e2⟩ <;> rcases h3 with ⟨e3, e4⟩ | ⟨yh, ih, e3, e4⟩ <;> subst e1 <;> subst e3
    · subst e2; subst e4
      simp [execOp, hop, h1, Instr.sliceAt, Instr.slice, Instr.sliceBounds, run_underlying hT, Result.andThen]
    · subst e2
      simp [execOp, hop, h1, Instr.sliceAt, Instr.slice, Instr.sliceBounds, run_underlying hT, e4, hsh, Result.andThen]
    · subst e4
      simp [execOp, hop, h1, Instr.sliceAt, Instr.slice, Instr.sliceBounds, run_underlying hT, e2, hsl, Result.andThen]
    · simp [execOp, hop, h1, Instr.sliceAt, Instr.slice, Instr.sliceBounds, run_underlying hT, e2, e4, hsl, hsh, Result.andThen]
end
end Go.Awp
