/- Operations on memory: addresses, loads, stores, new variables and rows, records. No program in sight. -/
import Derived.Test.YthhpelmjnmlgjaaGreatDoorAwpOps
import Derived.Laws.CopyRow
import Derived.Laws.CopyOwn
set_option linter.unusedSimpArgs false
set_option linter.unusedVariables false
namespace Go.Awp
open Go.RowKit

section
variable {P : Program} {ops : Array Oper} {G : Call0} {o : Oper} {m : St}

/-! ### Records and their cells -/
def allD : List V → Option (List D)
  | [] => some []
  | .d x :: r => match allD r with
    | some l => some (x :: l)
    | none => none
  | _ :: _ => none

theorem allD_map : ∀ (l : List D), allD (l.map .d) = some l
  | [] => rfl
  | x :: l => by simp [allD, allD_map l]

theorem allD_some : ∀ {cs : List V} {ds : List D}, allD cs = some ds → cs = ds.map .d
  | [], ds, h => by simp [allD] at h; subst h; rfl
  | c :: r, ds, h => by
    cases c <;> simp only [allD] at h <;> try cases h
    cases hq : allD r with
    | none => rw [hq] at h; simp at h
    | some l =>
      rw [hq] at h
      simp only [Option.some.injEq] at h
      subst h
      rw [allD_some hq]; rfl

def mkV (cs : List V) : V :=
  match allD cs with
  | some ds => .d (.agg ds)
  | none => .agg cs

theorem rep_mkV {φ : Phi} {ok : Nat → Prop} {w : World} {vs : Array Value} {cs : List V} (hl : vs.size = cs.length) (hc : ∀ (i : Nat) (v : Value) (c : V), vs[i]? = some v → cs[i]? = some c → RepV φ ok w v c) : RepV φ ok w (.agg vs) (mkV cs) := by
  unfold mkV
  split
  · rename_i ds hd
    have := allD_some hd
    subst this
    refine .d (.agg vs ds (by simpa using hl) fun i v c hv hd => ?_)
    have := hc i v (.d c) hv (by rw [List.getElem?_map, hd]; rfl)
    cases this with | d h => exact h
  · exact .agg vs cs hl hc

def V.cellsV : V → List V
  | .agg cs => cs
  | .d (.agg ds) => ds.map .d
  | .d (.s (.agg vs)) => vs.toList.map fun v => .d (.s v)
  | v => [v]

def V.one : V → Bool
  | .d (.s v) => v.oneCell'
  | .d (.agg _) => false
  | .d _ => true
  | .own _ _ _ | .ptr _ _ | .elp _ _ _ _ | .fn _ _ => true
  | _ => false

theorem rep_one {φ : Phi} {ok : Nat → Prop} {w : World} {v : Value} {x : V} (h : RepV φ ok w v x) (h1 : x.one = true) : v.oneCell' = true := by
  cases h with
  | d h => cases h <;> simp_all [V.one, Value.oneCell']
  | _ => simp_all [V.one, Value.oneCell']

theorem rep_cells {φ : Phi} {ok : Nat → Prop} {w : World} {v : Value} {x : V} (h : RepV φ ok w v x) (h1 : ∀ c ∈ x.cellsV, c.one = true) :
    v.cells.size = x.cellsV.length ∧ (∀ (i : Nat) (u : Value) (c : V), v.cells[i]? = some u → x.cellsV[i]? = some c → RepV φ ok w u c) ∧ ∀ u ∈ v.cells.toList, u.oneCell' = true := by
  have key : v.cells.size = x.cellsV.length ∧ (∀ (i : Nat) (u : Value) (c : V), v.cells[i]? = some u → x.cellsV[i]? = some c → RepV φ ok w u c) := by
    have single : ∀ {v : Value} {x : V}, RepV φ ok w v x → v.cells = #[v] → x.cellsV = [x] → v.cells.size = x.cellsV.length ∧ (∀ (i : Nat) (u : Value) (c : V), v.cells[i]? = some u → x.cellsV[i]? = some c → RepV φ ok w u c) := fun {v x} h e1 e2 => by
      rw [e1, e2]
      refine ⟨rfl, fun i u c hu hc => ?_⟩
      cases i with
      | zero => simp at hu hc; subst hu; subst hc; exact h
      | succ i => simp at hc
    cases h with
    | d h =>
      cases h with
      | s v =>
        cases v with
        | agg vs =>
          refine ⟨by simp [Value.cells, V.cellsV], fun i u c hu hc => ?_⟩
          simp only [Value.cells] at hu
          simp only [V.cellsV, List.getElem?_map, Array.getElem?_toList, hu, Option.map_some, Option.some.injEq] at hc
          subst hc
          exact .d (.s u)
        | _ => exact single (.d (.s _)) rfl rfl
      | agg vs cs hl hc =>
        refine ⟨by simp [Value.cells, V.cellsV, hl], fun i u c hu hc' => ?_⟩
        simp only [V.cellsV, List.getElem?_map, Option.map_eq_some_iff] at hc'
        obtain ⟨y, hy, rfl⟩ := hc'
        exact .d (hc i u y hu hy)
      | nil k => exact single (.d (.nil k)) rfl rfl
      | emp a cap k hmax => exact single (.d (.emp a cap k hmax)) rfl rfl
      | sl b off cap k es vs g1 g2 g3 g4 g5 g6 => exact single (.d (.sl b off cap k es vs g1 g2 g3 g4 g5 g6)) rfl rfl
      | dp b off cs vs g1 g2 g3 => exact single (.d (.dp b off cs vs g1 g2 g3)) rfl rfl
      | fn g vs cs g1 g2 => exact single (.d (.fn g vs cs g1 g2)) rfl rfl
    | top v => exact absurd (h1 .top (by simp [V.cellsV])) (by simp [V.one])
    | agg vs cs hl hc => exact ⟨hl, hc⟩
    | nil id k h => exact single (.nil id k h) rfl rfl
    | own id k n b cap h hn => exact single (.own id k n b cap h hn) rfl rfl
    | ptr id off b cap h => exact single (.ptr id off b cap h) rfl rfl
    | elp id k i off b cap h => exact single (.elp id k i off b cap h) rfl rfl
    | tup vs cs hl hc => exact absurd (h1 (.tup cs) (by simp [V.cellsV])) (by simp [V.one])
    | fn g vs cs hl hc => exact single (.fn g vs cs hl hc) rfl rfl
  refine ⟨key.1, key.2, fun u hu => ?_⟩
  obtain ⟨i, hi⟩ := List.getElem?_of_mem hu
  rw [Array.getElem?_toList] at hi
  have hlt : i < x.cellsV.length := by rw [← key.1]; exact (Array.getElem?_eq_some_iff.1 hi).1
  exact rep_one (key.2 i u x.cellsV[i] hi (by simp)) (h1 _ (by simp))

/-- The cells of a box from 'off' on. -/
def cellsM (m : St) (id : Nat) : Nat → Nat → List V
  | _, 0 => []
  | off, k + 1 => m (.c id off) :: cellsM m id (off + 1) k

def cellsL (id : Nat) : Nat → Nat → List Loc
  | _, 0 => []
  | off, k + 1 => .c id off :: cellsL id (off + 1) k

theorem cellsM_length (m : St) (id : Nat) : ∀ (k off : Nat), (cellsM m id off k).length = k
  | 0, _ => rfl
  | k + 1, off => by simp [cellsM, cellsM_length m id k]

theorem cellsM_get (m : St) (id : Nat) : ∀ (k off j : Nat), j < k → (cellsM m id off k)[j]? = some (m (.c id (off + j)))
  | 0, _, _, h => by omega
  | k + 1, off, 0, h => by simp [cellsM]
  | k + 1, off, j + 1, h => by
    rw [cellsM, List.getElem?_cons_succ, cellsM_get m id k (off + 1) j (by omega), show off + 1 + j = off + (j + 1) by omega]

theorem cellsL_mem (id : Nat) : ∀ (k off j : Nat), j < k → Loc.c id (off + j) ∈ cellsL id off k
  | 0, _, _, h => by omega
  | k + 1, off, 0, h => by simp [cellsL]
  | k + 1, off, j + 1, h => by
    rw [cellsL, show off + (j + 1) = off + 1 + j by omega]
    exact List.mem_cons_of_mem _ (cellsL_mem id k (off + 1) j (by omega))

theorem cellsM_congr {m m' : St} (id : Nat) : ∀ (k off : Nat), (∀ l ∈ cellsL id off k, m' l = m l) → cellsM m' id off k = cellsM m id off k
  | 0, _, _ => rfl
  | k + 1, off, h => by
    rw [cellsM, cellsM, h _ (by simp [cellsL]), cellsM_congr id k (off + 1) (fun l hl => h l (by simp [cellsL, hl]))]

/-! ### Facts on types -/
structure AggT (P : Program) (T k : Nat) : Prop where
  agg : ∀ w, (isAgg T).run P w = .ok true w
  size : ∀ w, (sizeOf T).run P w = .ok k w
structure OneT (P : Program) (T : Nat) : Prop where
  agg : ∀ w, (isAgg T).run P w = .ok false w
  size : ∀ w, (sizeOf T).run P w = .ok 1 w
structure SliceT (P : Program) (T e k : Nat) : Prop where
  und : P.underlying T = some (.slice e)
  size : ∀ w, (sizeOf e).run P w = .ok k w

theorem cell_of {w : World} {b i : Nat} {arr : Array Value} {e : TypeId} {fr : Nat × Nat} (h : w.heap[b]? = some (.cells arr e fr)) : w.cell? ⟨b, i, none⟩ = arr[i]? := by simp [World.cell?, h]

theorem box_at {φ : Phi} {a : Act} {w : World} {id n : Nat} {fz : Bool} (h : RR G φ m a w) (hb : m (.b id) = .box fz n) : BoxOK φ (okOf G φ m w) w m id n := by
  have := h.blk id
  unfold BlkOK at this
  rw [hb] at this
  exact this

theorem row_at {φ : Phi} {a : Act} {w : World} {id k : Nat} {fz : Bool} {e : TypeId} {es : List (List D)} (h : RR G φ m a w) (hb : m (.b id) = .row fz e k es) : RowOK φ (okOf G φ m w) w id e k es := by
  have := h.blk id
  unfold BlkOK at this
  rw [hb] at this
  exact this

theorem RR.ptr {φ : Phi} {m' : St} {a : Act} {w : World} (h : RR G φ m' a w) {x : Operand} {id off : Nat} (hm : ∀ l ∈ lo x, m' l = m l) (hx : evO m x = .ptr id off) : ∃ b c, φ id = some (some (b, c)) ∧ a.eval x = .pointer (some ⟨b, off, none⟩) := by
  have h1 := h.ev' hm hx
  generalize a.eval x = u at h1 ⊢
  cases h1 with | ptr _ _ b c h => exact ⟨b, c, h, rfl⟩

/-! ### Loads -/
theorem v_load_box {d T k id off n : Nat} {fz : Bool} {x : Operand} (hop : o.op = .load T x) (hg : GOn ops o m) (hdst : o.dst = some d) (hd : d < G.nt) (hT : AggT P T k)
    (hx : evO m x = .ptr id off) (hb : m (.b id) = .box fz n) (hk : off + k ≤ n) : Valid P ops G o m ⟨gloc ops o ++ (lo x ++ .b id :: cellsL id off k), [(.t d, mkV (cellsM m id off k))]⟩ :=
  valid_pure hg hdst hd fun m' hm φ a w h => by
    obtain ⟨b, c, h1, h2⟩ := h.ptr (x := x) (fun l hl => hm l (by simp [hl])) hx
    obtain ⟨b', c', arr, e, h3, h4, h5, h6⟩ := box_at h (id := id) (fz := fz) (n := n) (by rw [hm _ (by simp)]; exact hb)
    rw [h1] at h3
    simp only [Option.some.injEq, Prod.mk.injEq] at h3
    obtain ⟨rfl, rfl⟩ := h3
    have hld := run_loadCells (P := P) w ⟨b, off, none⟩ k (fun j => arr.getD (off + j) undef) (fun j hj => by
      rw [Addr.add_lit, cell_of h4, Array.getD_eq_getD_getElem?, Array.getElem?_eq_getElem (by omega)]; rfl)
    refine ⟨.agg ((List.range k).map fun j => arr.getD (off + j) undef).toArray, ?_, rep_mkV (by simp [cellsM_length]) fun i v cc hv hc => ?_⟩
    · simp [execOp, hop, h2, Instr.loadAt, Instr.sureAddr, loadVar, hT.agg, hT.size, hld, Result.andThen]
    · have hi : i < k := by rw [← cellsM_length m id k off]; exact (List.getElem?_eq_some_iff.1 hc).1
      rw [cellsM_get m id k off i hi] at hc
      simp only [Option.some.injEq] at hc
      have hcc : m' (.c id (off + i)) = m (.c id (off + i)) := hm _ (by simp [cellsL_mem id k off i hi])
      rw [← hc, ← hcc]
      refine h6 (off + i) v ?_
      simp [hi] at hv
      rw [← hv, Array.getElem?_eq_getElem (by omega)]
      simp [Array.getD_eq_getD_getElem?, show off + i < arr.size by omega]

theorem v_load_box1 {d T id off n : Nat} {fz : Bool} {x : Operand} {X : V} (hop : o.op = .load T x) (hg : GOn ops o m) (hdst : o.dst = some d) (hd : d < G.nt) (hT : OneT P T)
    (hx : evO m x = .ptr id off) (hb : m (.b id) = .box fz n) (hk : off < n) (hX : m (.c id off) = X) : Valid P ops G o m ⟨gloc ops o ++ (lo x ++ [.b id, .c id off]), [(.t d, X)]⟩ :=
  valid_pure hg hdst hd fun m' hm φ a w h => by
    obtain ⟨b, c, h1, h2⟩ := h.ptr (x := x) (fun l hl => hm l (by simp [hl])) hx
    obtain ⟨b', c', arr, e, h3, h4, h5, h6⟩ := box_at h (id := id) (fz := fz) (n := n) (by rw [hm _ (by simp)]; exact hb)
    rw [h1] at h3
    simp only [Option.some.injEq, Prod.mk.injEq] at h3
    obtain ⟨rfl, rfl⟩ := h3
    have hlt : off < arr.size := by omega
    refine ⟨arr[off], ?_, ?_⟩
    · simp [execOp, hop, h2, Instr.loadAt, Instr.sureAddr, loadVar, hT.agg, cell_of h4, hlt]
    · rw [← hX, ← hm (.c id off) (by simp)]
      exact h6 off _ (by simp [hlt])

theorem RR.dp {φ : Phi} {m' : St} {a : Act} {w : World} (h : RR G φ m' a w) {x : Operand} {cs : List D} (hm : ∀ l ∈ lo x, m' l = m l) (hx : evO m x = .d (.dp cs)) :
    ∃ (b off : Nat) (vs : Nat → Value), okOf G φ m' w b ∧ a.eval x = .pointer (some ⟨b, off, none⟩) ∧ (∀ (j : Nat) (c : D), cs[j]? = some c → w.cell? ⟨b, off + j, none⟩ = some (vs j)) ∧ ∀ (j : Nat) (c : D), cs[j]? = some c → RepD (okOf G φ m' w) w (vs j) c := by
  have h1 := h.ev' hm hx
  generalize a.eval x = u at h1 ⊢
  cases h1 with | d h1 => cases h1 with | dp b off _ vs hb hv hc => exact ⟨b, off, vs, hb, rfl, hv, hc⟩

theorem v_load_dp {d T k : Nat} {x : Operand} {cs : List D} (hop : o.op = .load T x) (hg : GOn ops o m) (hdst : o.dst = some d) (hd : d < G.nt) (hT : AggT P T k)
    (hx : evO m x = .d (.dp cs)) (hk : k ≤ cs.length) : Valid P ops G o m ⟨gloc ops o ++ lo x, [(.t d, .d (.agg (cs.take k)))]⟩ :=
  valid_pure hg hdst hd fun m' hm φ a w h => by
    obtain ⟨b, off, vs, hb, h2, hv, hc⟩ := h.dp (x := x) hm hx
    have hld := run_loadCells (P := P) w ⟨b, off, none⟩ k (fun j => vs j) (fun j hj => by
      rw [Addr.add_lit]; exact hv j cs[j] (by simp))
    refine ⟨.agg ((List.range k).map vs).toArray, ?_, .d (.agg _ _ (by simp; omega) fun i v c hv' hc' => ?_)⟩
    · simp [execOp, hop, h2, Instr.loadAt, Instr.sureAddr, loadVar, hT.agg, hT.size, hld, Result.andThen]
    · have hi : i < k := by
        have := (Array.getElem?_eq_some_iff.1 hv').1; simpa using this
      simp [hi] at hv'
      rw [List.getElem?_take_of_lt hi] at hc'
      rw [← hv']; exact hc i c hc'

theorem v_load_dp1 {d T : Nat} {x : Operand} {cs : List D} {X : D} (hop : o.op = .load T x) (hg : GOn ops o m) (hdst : o.dst = some d) (hd : d < G.nt) (hT : OneT P T)
    (hx : evO m x = .d (.dp cs)) (hX : cs[0]? = some X) : Valid P ops G o m ⟨gloc ops o ++ lo x, [(.t d, .d X)]⟩ :=
  valid_pure hg hdst hd fun m' hm φ a w h => by
    obtain ⟨b, off, vs, hb, h2, hv, hc⟩ := h.dp (x := x) hm hx
    refine ⟨vs 0, ?_, .d (hc 0 X hX)⟩
    have := hv 0 X hX
    simp only [Nat.add_zero] at this
    simp [execOp, hop, h2, Instr.loadAt, Instr.sureAddr, loadVar, hT.agg, this]

theorem RR.elp {φ : Phi} {m' : St} {a : Act} {w : World} (h : RR G φ m' a w) {x : Operand} {id k i off : Nat} (hm : ∀ l ∈ lo x, m' l = m l) (hx : evO m x = .elp id k i off) : ∃ b c, φ id = some (some (b, c)) ∧ a.eval x = .pointer (some ⟨b, i * k + off, none⟩) := by
  have h1 := h.ev' hm hx
  generalize a.eval x = u at h1 ⊢
  cases h1 with | elp _ _ _ _ b c h => exact ⟨b, c, h, rfl⟩

theorem v_load_elp {d T s id k i off : Nat} {fz : Bool} {e : TypeId} {es : List (List D)} {ds : List D} {x : Operand} (hop : o.op = .load T x) (hg : GOn ops o m) (hdst : o.dst = some d) (hd : d < G.nt) (hT : AggT P T s)
    (hx : evO m x = .elp id k i off) (hb : m (.b id) = .row fz e k es) (hi : es[i]? = some ds) (hs : off + s ≤ k) : Valid P ops G o m ⟨gloc ops o ++ (lo x ++ [.b id]), [(.t d, .d (.agg ((ds.drop off).take s)))]⟩ :=
  valid_pure hg hdst hd fun m' hm φ a w h => by
    obtain ⟨b, c, h1, h2⟩ := h.elp (x := x) (fun l hl => hm l (by simp [hl])) hx
    rcases row_at h (id := id) (fz := fz) (e := e) (k := k) (es := es) (by rw [hm _ (by simp)]; exact hb) with ⟨h3, _⟩ | ⟨b', cap, arr, h3, h4, h5, h6, h7, h8⟩
    · rw [h1] at h3; cases h3
    · rw [h1] at h3
      simp only [Option.some.injEq, Prod.mk.injEq] at h3
      obtain ⟨rfl, rfl⟩ := h3
      obtain ⟨hdl, hds⟩ := h8 i ds hi
      have hv : ∀ j, j < s → ∃ v, arr[i * k + (off + j)]? = some v ∧ RepD (okOf G φ m' w) w v (ds[off + j]?.getD (.s undef)) := fun j hj => by
        obtain ⟨v, hv1, hv2⟩ := hds (off + j) ds[off + j] (by simp)
        exact ⟨v, hv1, by simpa [show off + j < ds.length by omega] using hv2⟩
      have hld := run_loadCells (P := P) w ⟨b, i * k + off, none⟩ s (fun j => arr.getD (i * k + (off + j)) undef) (fun j hj => by
        obtain ⟨v, hv1, _⟩ := hv j hj
        rw [Addr.add_lit, cell_of h4, Array.getD_eq_getD_getElem?, show i * k + off + j = i * k + (off + j) by omega, hv1]; rfl)
      refine ⟨.agg ((List.range s).map fun j => arr.getD (i * k + (off + j)) undef).toArray, ?_, .d (.agg _ _ (by simp; omega) fun j v c hv' hc' => ?_)⟩
      · simp [execOp, hop, h2, Instr.loadAt, Instr.sureAddr, loadVar, hT.agg, hT.size, hld, Result.andThen]
      · have hj : j < s := by
          have := (Array.getElem?_eq_some_iff.1 hv').1; simpa using this
        obtain ⟨u, hu1, hu2⟩ := hv j hj
        simp [hj, Array.getD_eq_getD_getElem?, hu1] at hv'
        rw [List.getElem?_take_of_lt hj, List.getElem?_drop] at hc'
        rw [hc'] at hu2
        rw [← hv']; exact hu2

theorem v_load_elp1 {d T id k i off : Nat} {fz : Bool} {e : TypeId} {es : List (List D)} {ds : List D} {X : D} {x : Operand} (hop : o.op = .load T x) (hg : GOn ops o m) (hdst : o.dst = some d) (hd : d < G.nt) (hT : OneT P T)
    (hx : evO m x = .elp id k i off) (hb : m (.b id) = .row fz e k es) (hi : es[i]? = some ds) (hX : ds[off]? = some X) : Valid P ops G o m ⟨gloc ops o ++ (lo x ++ [.b id]), [(.t d, .d X)]⟩ :=
  valid_pure hg hdst hd fun m' hm φ a w h => by
    obtain ⟨b, c, h1, h2⟩ := h.elp (x := x) (fun l hl => hm l (by simp [hl])) hx
    rcases row_at h (id := id) (fz := fz) (e := e) (k := k) (es := es) (by rw [hm _ (by simp)]; exact hb) with ⟨h3, _⟩ | ⟨b', cap, arr, h3, h4, h5, h6, h7, h8⟩
    · rw [h1] at h3; cases h3
    · rw [h1] at h3
      simp only [Option.some.injEq, Prod.mk.injEq] at h3
      obtain ⟨rfl, rfl⟩ := h3
      obtain ⟨v, hv1, hv2⟩ := (h8 i ds hi).2 off X hX
      refine ⟨v, ?_, .d hv2⟩
      simp [execOp, hop, h2, Instr.loadAt, Instr.sureAddr, loadVar, hT.agg, cell_of h4, hv1]

/-! ### Addresses -/
theorem v_field_box {d S f id off a0 : Nat} {x : Operand} (hop : o.op = .fieldAddr S x f) (hg : GOn ops o m) (hdst : o.dst = some d) (hd : d < G.nt)
    (hf : ∀ w a, (Instr.fieldAt S (.pointer (some a)) f).run P w = .ok (.pointer (some (a.add a0))) w) (hx : evO m x = .ptr id off) : Valid P ops G o m ⟨gloc ops o ++ lo x, [(.t d, .ptr id (off + a0))]⟩ :=
  valid_pure hg hdst hd fun m' hm φ a w h => by
    obtain ⟨b, c, h1, h2⟩ := h.ptr (x := x) hm hx
    refine ⟨_, ?_, .ptr id (off + a0) b c h1⟩
    simp [execOp, hop, h2, hf, Addr.add_lit]

theorem v_field_elp {d S f id k i off a0 : Nat} {x : Operand} (hop : o.op = .fieldAddr S x f) (hg : GOn ops o m) (hdst : o.dst = some d) (hd : d < G.nt)
    (hf : ∀ w a, (Instr.fieldAt S (.pointer (some a)) f).run P w = .ok (.pointer (some (a.add a0))) w) (hx : evO m x = .elp id k i off) : Valid P ops G o m ⟨gloc ops o ++ lo x, [(.t d, .elp id k i (off + a0))]⟩ :=
  valid_pure hg hdst hd fun m' hm φ a w h => by
    obtain ⟨b, c, h1, h2⟩ := h.elp (x := x) hm hx
    refine ⟨_, ?_, .elp id k i (off + a0) b c h1⟩
    simp [execOp, hop, h2, hf, Addr.add_lit, Nat.add_assoc]

theorem v_field_dp {d S f a0 : Nat} {cs : List D} {x : Operand} (hop : o.op = .fieldAddr S x f) (hg : GOn ops o m) (hdst : o.dst = some d) (hd : d < G.nt)
    (hf : ∀ w a, (Instr.fieldAt S (.pointer (some a)) f).run P w = .ok (.pointer (some (a.add a0))) w) (hx : evO m x = .d (.dp cs)) : Valid P ops G o m ⟨gloc ops o ++ lo x, [(.t d, .d (.dp (cs.drop a0)))]⟩ :=
  valid_pure hg hdst hd fun m' hm φ a w h => by
    obtain ⟨b, off, vs, hb, h2, hv, hc⟩ := h.dp (x := x) hm hx
    refine ⟨.pointer (some ⟨b, off + a0, none⟩), ?_, .d (.dp b (off + a0) _ (fun j => vs (a0 + j)) hb (fun j c hj => ?_) fun j c hj => ?_)⟩
    · simp [execOp, hop, h2, hf, Addr.add_lit]
    · rw [List.getElem?_drop] at hj
      rw [Nat.add_assoc]; exact hv _ _ hj
    · rw [List.getElem?_drop] at hj
      exact hc _ _ hj

theorem elem_of {P : Program} {T e : TypeId} (h : P.underlying T = some (.slice e)) : P.underlying T = some (.slice (P.elem T)) ∧ P.elem T = e := by
  have : P.elem T = e := by simp [Program.elem, h]
  exact ⟨by rw [this]; exact h, this⟩

theorem v_index_sl {d T e k : Nat} {x y : Operand} {es : List (List D)} {ds : List D} {i : Int} {ik : IntKind} (hop : o.op = .indexAddr T x y) (hg : GOn ops o m) (hdst : o.dst = some d) (hd : d < G.nt) (hT : SliceT P T e k)
    (hx : evO m x = .d (.sl k es)) (hy : evO m y = .d (.s (.int ik i))) (h0 : 0 ≤ i) (hi : es[i.toNat]? = some ds) : Valid P ops G o m ⟨gloc ops o ++ (lo x ++ lo y), [(.t d, .d (.dp ds))]⟩ :=
  valid_pure hg hdst hd fun m' hm φ a w h => by
    have h1 := h.ev' (x := x) (fun l hl => hm l (by simp [hl])) hx
    have h2 := h.s (x := y) (fun l hl => hm l (by simp [hl])) hy
    have hlt : i.toNat < es.length := (List.getElem?_eq_some_iff.1 hi).1
    generalize hv : a.eval x = v at h1
    cases h1 with
    | d h1 =>
      cases h1 with
      | nil => simp at hlt
      | emp => simp at hlt
      | sl b off cap _ _ vs hcap hmax hb hk hvs hc =>
        refine ⟨.pointer (some ⟨b, off + i.toNat * k, none⟩), ?_, .d (.dp b _ _ (fun j => vs i.toNat j) hb (fun j c hj => hvs _ _ _ _ hi hj) fun j c hj => hc _ _ _ _ hi hj)⟩
        have := run_indexAt_slice (P := P) w T ⟨b, off, none⟩ es.length cap ik i (elem_of hT.und).1
        rw [if_pos ⟨h0, by omega⟩, (elem_of hT.und).2, hT.size] at this
        simp only [execOp, hop, hv, h2, Sem.run_bind, this, Result.andThen_ok, Sem.run_pure, Addr.add_lit]

theorem v_index_own {d T e k id n : Nat} {x y : Operand} {i : Int} {ik : IntKind} (hop : o.op = .indexAddr T x y) (hg : GOn ops o m) (hdst : o.dst = some d) (hd : d < G.nt) (hT : SliceT P T e k)
    (hx : evO m x = .own id k n) (hy : evO m y = .d (.s (.int ik i))) (h0 : 0 ≤ i) (hi : i < n) : Valid P ops G o m ⟨gloc ops o ++ (lo x ++ lo y), [(.t d, .elp id k i.toNat 0)]⟩ :=
  valid_pure hg hdst hd fun m' hm φ a w h => by
    have h1 := h.ev' (x := x) (fun l hl => hm l (by simp [hl])) hx
    have h2 := h.s (x := y) (fun l hl => hm l (by simp [hl])) hy
    generalize hv : a.eval x = v at h1
    cases h1 with
    | nil => omega
    | own _ _ _ b cap hφ hn =>
      refine ⟨.pointer (some ⟨b, i.toNat * k + 0, none⟩), ?_, .elp id k i.toNat 0 b cap hφ⟩
      have := run_indexAt_slice (P := P) w T ⟨b, 0, none⟩ n cap ik i (elem_of hT.und).1
      rw [if_pos ⟨h0, hi⟩, (elem_of hT.und).2, hT.size] at this
      simp only [execOp, hop, hv, h2, Sem.run_bind, this, Result.andThen_ok, Sem.run_pure, Addr.add_lit, Nat.zero_add, Nat.add_zero]
end
end Go.Awp
