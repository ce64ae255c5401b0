/- Contracts, calls by contract, the end of a call, steps that only tell a thing otherwise. No program in sight. -/
import Derived.Test.YthhpelmjnmlgjaaGreatDoorAwpCall
set_option linter.unusedSimpArgs false
set_option linter.unusedVariables false
namespace Go.Awp
open Go.RowKit

section
variable {P : Program} {ops : Array Oper} {G : Call0} {o : Oper} {m : St}

/-- What a call hands back: values, or one row that is the caller's own from then on. -/
inductive Ret where
  | ds (l : List D)
  | own (e : TypeId) (k : Nat) (es : List (List D))

def okNew (ok0 : Nat → Prop) (w w' : World) (b : Nat) : Prop := ok0 b ∨ (w.heap.size ≤ b ∧ b < w'.heap.size)

inductive RepRet (ok0 : Nat → Prop) (w w' : World) : Value → Ret → Prop
  | one {v : Value} {x : D} (h : RepD (okNew ok0 w w') w' v x) : RepRet ok0 w w' v (.ds [x])
  | many {vs : Array Value} {l : List D} (h1 : l.length ≠ 1) (h2 : vs.size = l.length) (h : ∀ (i : Nat) (v : Value) (x : D), vs[i]? = some v → l[i]? = some x → RepD (okNew ok0 w w') w' v x) : RepRet ok0 w w' (.tuple vs) (.ds l)
  | nil (e : TypeId) (k : Nat) : RepRet ok0 w w' (.slice none 0 0) (.own e k [])
  | own {b cap : Nat} {arr : Array Value} {e : TypeId} {k : Nat} {es : List (List D)} (h1 : w.heap.size ≤ b) (h2 : w'.heap[b]? = some (.cells arr e (0, 0))) (h3 : arr.size = cap * k) (h4 : es.length ≤ cap) (h5 : cap ≤ maxCap)
      (h : RowIn (fun b' => okNew ok0 w w' b' ∧ b' ≠ b) w' arr k es) : RepRet ok0 w w' (.slice (some ⟨b, 0, none⟩) es.length cap) (.own e k es)

/-- CALLED WITH THESE, IT HANDS BACK THIS; of what was there nothing has turned. -/
def Spec (P : Program) (A : Amb) (f : FuncId) (args : List D) (r : Ret) : Prop :=
  ∀ (w : World) (vs : Array Value) (ok0 : Nat → Prop), A.p w → (∀ b, ok0 b → b < w.heap.size) → vs.size = args.length → (∀ (i : Nat) (v : Value) (x : D), vs[i]? = some v → args[i]? = some x → RepD ok0 w v x) →
    Calls P f vs w fun e w' => ∃ v, e = .returned v ∧ Below w.heap.size w w' ∧ RepRet ok0 w w' v r

theorem ok_new {φ : Phi} {a : Act} {w w' : World} (h : RR G φ m a w) (hb : Below w.heap.size w w') {b : Nat} (hn : okNew (okOf G φ m w) w w' b) : okOf G φ m w' b := by
  rcases hn with ⟨h1, h2, h3⟩ | ⟨h1, h2⟩
  · exact ⟨h1, Nat.lt_of_lt_of_le h2 hb.size, h3⟩
  · exact ⟨.inr (Nat.le_trans h.below.size h1), h2, fun i c hi => by have := (h.lt i b c hi).2; omega⟩

/-- A row that a call made becomes the caller's own. -/
theorem RR.adopt {φ : Phi} {a : Act} {w w' : World} (h : RR G φ m a w) (hbel : Below w.heap.size w w') (id b cap k : Nat) (hid : m (.b id) = .nob) {arr : Array Value} {e : TypeId} {es : List (List D)} (hb : w.heap.size ≤ b) (hb2 : w'.heap[b]? = some (.cells arr e (0, 0)))
    (hsz : arr.size = cap * k) (hle : es.length ≤ cap) (hmax : cap ≤ maxCap) (hrow : RowIn (fun b' => okNew (okOf G φ m w) w w' b' ∧ b' ≠ b) w' arr k es) :
    RR G (updPhi φ id (some (b, cap))) (upd m (.b id) (.row false e k es)) a w' := by
  have hlt : b < w'.heap.size := (Array.getElem?_eq_some_iff.1 hb2).1
  have hφid : φ id = none := by have := h.blk id; unfold BlkOK at this; rw [hid] at this; exact this
  have hφx : ∀ i x, φ i = some x → updPhi φ id (some (b, cap)) i = some x := fun i x hi => by
    rw [updPhi_ne _ _ (fun e => by subst e; rw [hφid] at hi; cases hi)]; exact hi
  have hmap : ∀ b', b' ≠ b → (∀ i c, φ i = some (some (b', c)) → (m (.b i)).live = false) → ∀ i c, updPhi φ id (some (b, cap)) i = some (some (b', c)) → (upd m (.b id) (.row false e k es) (.b i)).live = false := fun b' hne h3 i c hi => by
    by_cases ei : i = id
    · subst ei
      rw [updPhi_self] at hi
      simp only [Option.some.injEq, Prod.mk.injEq] at hi
      exact absurd hi.1.symm hne
    · rw [updPhi_ne _ _ ei] at hi
      rw [upd_b_b _ _ ei]; exact h3 i c hi
  have hok : ∀ b', okOf G φ m w b' → okOf G (updPhi φ id (some (b, cap))) (upd m (.b id) (.row false e k es)) w' b' ∧ w'.heap[b']? = w.heap[b']? := by
    rintro b' ⟨h1, h2, h3⟩
    exact ⟨⟨h1, Nat.lt_of_lt_of_le h2 hbel.size, hmap b' (by omega) h3⟩, hbel.block b' h2⟩
  have hokn : ∀ b', okNew (okOf G φ m w) w w' b' ∧ b' ≠ b → okOf G (updPhi φ id (some (b, cap))) (upd m (.b id) (.row false e k es)) w' b' ∧ w'.heap[b']? = w'.heap[b']? := by
    rintro b' ⟨h1, h2⟩
    obtain ⟨g1, g2, g3⟩ := ok_new h hbel h1
    exact ⟨⟨g1, g2, hmap b' h2 g3⟩, rfl⟩
  refine ⟨h.below.trans (hbel.mono h.below.size), h.nodef, h.size, fun t => by rw [upd_b_t]; exact (h.slots t).mono hφx hok, fun i b' c hi => ?_, fun i j b' c c' hi hj hl hij => ?_, fun i => ?_⟩
  · by_cases ei : i = id
    · subst ei
      rw [updPhi_self] at hi
      simp only [Option.some.injEq, Prod.mk.injEq] at hi
      obtain ⟨rfl, _⟩ := hi
      exact ⟨Nat.le_trans h.below.size hb, hlt⟩
    · rw [updPhi_ne _ _ ei] at hi
      have := h.lt i b' c hi
      exact ⟨this.1, Nat.lt_of_lt_of_le this.2 hbel.size⟩
  · by_cases ei : i = id
    · subst ei
      rw [updPhi_self] at hi
      simp only [Option.some.injEq, Prod.mk.injEq] at hi
      obtain ⟨rfl, _⟩ := hi
      rw [updPhi_ne _ _ (Ne.symm hij)] at hj
      have := (h.lt j _ _ hj).2
      omega
    · rw [updPhi_ne _ _ ei] at hi
      by_cases ej : j = id
      · subst ej
        rw [updPhi_self] at hj
        simp only [Option.some.injEq, Prod.mk.injEq] at hj
        have := (h.lt i b' c hi).2
        omega
      · rw [updPhi_ne _ _ ej] at hj
        rw [upd_b_b _ _ ei] at hl
        rw [upd_b_b _ _ ej]; exact h.inj i j b' c c' hi hj hl hij
  · by_cases ei : i = id
    · subst ei
      unfold BlkOK
      rw [upd_self]
      refine .inr ⟨b, cap, arr, updPhi_self _ _ _, hb2, hsz, hle, hmax, fun x ds hx => ⟨(hrow x ds hx).1, fun j d hj => ?_⟩⟩
      obtain ⟨v, h1, h2⟩ := (hrow x ds hx).2 j d hj
      exact ⟨v, h1, h2.mono hokn⟩
    · exact blk_keep (updPhi_ne _ _ ei) hφx hok (upd_b_b _ _ ei) (fun j => upd_b_c _ _ _ _ _) (fun b c hi => hbel.block b (h.lt i b c hi).2) (h.blk i)

/-- Which function an operand is, and what it captured. -/
def FnIs (m : St) (fo : Operand) (g : FuncId) (caps : List D) : Prop := (fo = .func g ∧ caps = []) ∨ evO m fo = .d (.fn g caps)

theorem call_args {φ : Phi} {m' : St} {a : Act} {w : World} {xs : Array Operand} {ds : List D} (h : RR G φ m' a w) (hm : ∀ l ∈ xs.toList.flatMap lo, m' l = m l) (hx : xs.toList.map (evO m) = ds.map .d) :
    (xs.map a.eval).size = ds.length ∧ ∀ (i : Nat) (v : Value) (x : D), (xs.map a.eval)[i]? = some v → ds[i]? = some x → RepD (okOf G φ m' w) w v x := by
  have hl : xs.size = ds.length := by have := congrArg List.length hx; simpa using this
  refine ⟨by simp [hl], fun i v x hv hxi => ?_⟩
  rw [Array.getElem?_map, Option.map_eq_some_iff] at hv
  obtain ⟨y, hy, rfl⟩ := hv
  have h1 : (xs.toList.map (evO m))[i]? = some (evO m y) := by rw [List.getElem?_map, Array.getElem?_toList, hy]; rfl
  rw [hx, List.getElem?_map, hxi] at h1
  simp only [Option.map_some, Option.some.injEq] at h1
  have := h.ev' (x := y) (fun l hl => hm l (List.mem_flatMap.2 ⟨y, by rw [Array.mem_toList_iff]; exact Array.mem_of_getElem? hy, hl⟩)) h1.symm
  generalize a.eval y = u at this ⊢
  cases this with | d h => exact h

theorem call_run {φ : Phi} {m' : St} {a : Act} {w : World} {c : Call} {fo : Operand} {xs : Array Operand} {g : FuncId} {caps ds : List D} (hop : o.op = .call c) (hc : c.callee = .value fo) (hxs : c.args = xs) (hen : ∀ args w, (callFunc g args).run P w = .ok (.enter g args) w)
    (h : RR G φ m' a w) (hm : ∀ l ∈ lo fo ++ xs.toList.flatMap lo, m' l = m l) (hf : FnIs m fo g caps) (hx : xs.toList.map (evO m) = ds.map .d) :
    ∃ vs : Array Value, (execOp a.eval o).run P w = .ok (.enter g vs) w ∧ vs.size = (ds ++ caps).length ∧ ∀ (i : Nat) (v : Value) (x : D), vs[i]? = some v → (ds ++ caps)[i]? = some x → RepD (okOf G φ m' w) w v x := by
  obtain ⟨a1, a2⟩ := call_args h (fun l hl => hm l (by simp only [List.mem_append]; exact .inr hl)) hx
  rcases hf with ⟨h1, h2⟩ | h1
  · subst h1; subst h2
    refine ⟨xs.map a.eval, ?_, by simpa using a1, by simpa using a2⟩
    simp [execOp, hop, resolve, hc, hxs, Deferred.ofValue, Act.eval, invoke, hen]
  · have hv := h.ev' (x := fo) (fun l hl => hm l (by simp [hl])) h1
    generalize he : a.eval fo = fv at hv
    cases hv with
    | d hv =>
      cases hv with
      | fn _ vs _ hl hcs =>
        refine ⟨xs.map a.eval ++ vs, ?_, by simp [a1, hl], fun i v x hv hx => ?_⟩
        · simp [execOp, hop, resolve, hc, hxs, Deferred.ofValue, he, invoke, hen]
        · by_cases hi : i < ds.length
          · rw [Array.getElem?_append_left (by rw [a1]; exact hi)] at hv
            rw [List.getElem?_append_left hi] at hx
            exact a2 i v x hv hx
          · rw [Array.getElem?_append_right (by rw [a1]; omega), a1] at hv
            rw [List.getElem?_append_right (by omega)] at hx
            exact hcs _ v x hv hx

theorem valid_call {e : Eff} {c : Call} {fo : Operand} {xs : Array Operand} {g : FuncId} {caps ds : List D} {r : Ret} (hop : o.op = .call c) (hc : c.callee = .value fo) (hxs : c.args = xs) (hen : ∀ args w, (callFunc g args).run P w = .ok (.enter g args) w)
    (hg : GOn ops o m) (hgl : ∀ l ∈ gloc ops o ++ (lo fo ++ xs.toList.flatMap lo), l ∈ e.rd) (hf : FnIs m fo g caps) (hx : xs.toList.map (evO m) = ds.map .d) (hs : Spec P G.A g (ds ++ caps) r)
    (h : ∀ m' : St, (∀ l ∈ e.rd, m' l = m l) → ∀ φ a w w' v, RR G φ m' a w → Below w.heap.size w w' → RepRet (okOf G φ m' w) w w' v r → R G (updL m' e.wr) (a.put o.dst v) w') : Valid P ops G o m e := by
  intro m' hm a w hr K Q hK
  obtain ⟨φ, hr⟩ := hr
  obtain ⟨vs, h1, h2, h3⟩ := call_run hop hc hxs hen hr (fun l hl => hm l (hgl l (by simp only [List.mem_append] at hl ⊢; exact .inr hl))) hf hx
  unfold opGo
  rw [if_pos (hr.wanted (hg.congr fun l hl => hm l (hgl l (by simp [hl]))))]
  left
  unfold Oper.wp
  rw [h1]
  refine (hs w vs (okOf G φ m' w) (G.A.keep _ _ G.hA hr.below) (fun b hb => hb.2.1) h2 h3).mono ?_
  rintro e' w' ⟨v, rfl, hb, hret⟩
  exact hK _ _ (h m' hm φ a w w' v hr hb hret)

def retV (l : List D) : V := match l with
  | [x] => .d x
  | l => .tup (l.map .d)

theorem v_call {d : Nat} {c : Call} {fo : Operand} {xs : Array Operand} {g : FuncId} {caps ds l : List D} (hop : o.op = .call c) (hc : c.callee = .value fo) (hxs : c.args = xs) (hen : ∀ args w, (callFunc g args).run P w = .ok (.enter g args) w)
    (hg : GOn ops o m) (hdst : o.dst = some d) (hd : d < G.nt) (hf : FnIs m fo g caps) (hx : xs.toList.map (evO m) = ds.map .d) (hs : Spec P G.A g (ds ++ caps) (.ds l)) :
    Valid P ops G o m ⟨gloc ops o ++ (lo fo ++ xs.toList.flatMap lo), [(.t d, retV l)]⟩ :=
  valid_call hop hc hxs hen hg (fun l hl => hl) hf hx hs fun m' hm φ a w w' v hr hb hret => by
    refine ⟨φ, ?_⟩
    rw [hdst]
    refine (hr.grow hb).put d hd ?_
    cases hret with
    | one h => exact .d (h.mono fun b hb' => ⟨ok_new hr hb hb', rfl⟩)
    | @many vs l h1 h2 h =>
      have : retV l = .tup (l.map .d) := by
        unfold retV
        split
        · simp at h1
        · rfl
      rw [this]
      refine .tup vs _ (by simpa using h2) fun i v c hv hc => ?_
      rw [List.getElem?_map, Option.map_eq_some_iff] at hc
      obtain ⟨x, hx, rfl⟩ := hc
      exact .d ((h i v x hv hx).mono fun b hb' => ⟨ok_new hr hb hb', rfl⟩)

theorem v_call_own {d id k : Nat} {e : TypeId} {es : List (List D)} {c : Call} {fo : Operand} {xs : Array Operand} {g : FuncId} {caps ds : List D} (hop : o.op = .call c) (hc : c.callee = .value fo) (hxs : c.args = xs) (hen : ∀ args w, (callFunc g args).run P w = .ok (.enter g args) w)
    (hg : GOn ops o m) (hdst : o.dst = some d) (hd : d < G.nt) (hf : FnIs m fo g caps) (hx : xs.toList.map (evO m) = ds.map .d) (hs : Spec P G.A g (ds ++ caps) (.own e k es)) (hid : m (.b id) = .nob) :
    Valid P ops G o m ⟨gloc ops o ++ (lo fo ++ xs.toList.flatMap lo) ++ [.b id], [(.b id, .row false e k es), (.t d, .own id k es.length)]⟩ :=
  valid_call hop hc hxs hen hg (fun l hl => by simp only [List.mem_append] at hl ⊢; exact .inl hl) hf hx hs fun m' hm φ a w w' v hr hb hret => by
    rw [hdst]
    have hid' : m' (.b id) = .nob := by rw [hm _ (by simp)]; exact hid
    cases hret with
    | nil =>
      -- a nil row
      have hφid : φ id = none := by have := hr.blk id; unfold BlkOK at this; rw [hid'] at this; exact this
      have hφx : ∀ i x, φ i = some x → updPhi φ id none i = some x := fun i x hi => by
        rw [updPhi_ne _ _ (fun e => by subst e; rw [hφid] at hi; cases hi)]; exact hi
      have hr2 := hr.grow hb
      have hlv : ∀ i, i ≠ id → upd m' (.b id) (.row false e k []) (.b i) = m' (.b i) := fun i hi => upd_b_b _ _ hi
      have hok : ∀ b, okOf G φ m' w' b → okOf G (updPhi φ id none) (upd m' (.b id) (.row false e k [])) w' b ∧ w'.heap[b]? = w'.heap[b]? := fun b ⟨h1, h2, h3⟩ => ⟨⟨h1, h2, fun i c hi => by
        by_cases ei : i = id
        · subst ei; rw [updPhi_self] at hi; cases hi
        · rw [updPhi_ne _ _ ei] at hi; rw [hlv i ei]; exact h3 i c hi⟩, rfl⟩
      have : RR G (updPhi φ id none) (upd m' (.b id) (.row false e k [])) a w' := by
        refine ⟨hr2.below, hr2.nodef, hr2.size, fun t => by rw [upd_b_t]; exact (hr2.slots t).mono hφx hok, fun i b c hi => ?_, fun i j b c c' hi hj hl hij => ?_, fun i => ?_⟩
        · by_cases ei : i = id
          · subst ei; rw [updPhi_self] at hi; cases hi
          · rw [updPhi_ne _ _ ei] at hi; exact hr2.lt i b c hi
        · by_cases ei : i = id
          · subst ei; rw [updPhi_self] at hi; cases hi
          · by_cases ej : j = id
            · subst ej; rw [updPhi_self] at hj; cases hj
            · rw [updPhi_ne _ _ ei] at hi; rw [updPhi_ne _ _ ej] at hj
              rw [hlv i ei] at hl; rw [hlv j ej]; exact hr2.inj i j b c c' hi hj hl hij
        · by_cases ei : i = id
          · subst ei; unfold BlkOK; rw [upd_self]; exact .inl ⟨updPhi_self _ _ _, rfl⟩
          · exact blk_keep (updPhi_ne _ _ ei) hφx hok (hlv i ei) (fun j => upd_b_c _ _ _ _ _) (fun b c hi => rfl) (hr2.blk i)
      exact ⟨_, this.put d hd (.nil id k (updPhi_self _ _ _))⟩
    | own h1 h2 h3 h4 h5 h =>
      have := hr.adopt hb id _ _ k hid' h1 h2 h3 h4 h5 h
      exact ⟨_, this.put d hd (.own id k _ _ _ (updPhi_self _ _ _) h4)⟩

/-! ### The end of a call -/
inductive RC (P : Program) (m : St) : ResultVar → D → Prop
  | tmp {t : Nat} {x : D} (h : m (.t t) = .d x) : RC P m (.tmp t) x
  | cell {p T id off n k : Nat} {fz : Bool} {x : D} (hp : m (.t p) = .ptr id off) (hb : m (.b id) = .box fz n) (hT : AggT P T k) (hk : off + k ≤ n) (hx : mkV (cellsM m id off k) = .d x) : RC P m (.cell p T) x

def RetM (P : Program) (G : Call0) (fn : Func) (m : St) (r : Ret) : Prop := ∀ φ a w, RR G φ m a w → ∃ v, (results fn a.tmps).run P w = .ok v w ∧ RepRet G.ok0 G.w0 w v r

theorem ok_end {φ : Phi} {w : World} {b : Nat} (h : okOf G φ m w b) : okNew G.ok0 G.w0 w b := by
  rcases h with ⟨h1 | h1, h2, _⟩
  · exact .inl h1
  · exact .inr ⟨h1, h2⟩

theorem RR.dval {φ : Phi} {a : Act} {w : World} (h : RR G φ m a w) {t : Nat} {x : D} (ht : m (.t t) = .d x) : RepD (okOf G φ m w) w (a.tmps.getD t undef) x := by
  have := h.slots t
  rw [ht] at this
  generalize a.tmps.getD t undef = v at this ⊢
  cases this with | d h => exact h

def resRun (tmps : Array Value) : ResultVar → Sem Value
  | .tmp t => pure (tmps.getD t undef)
  | .cell p t => do loadVar t (← asAddr (tmps.getD p undef))

theorem rc_run {φ : Phi} {a : Act} {w : World} (h : RR G φ m a w) {rv : ResultVar} {x : D} (hr : RC P m rv x) :
    ∃ v, (resRun a.tmps rv).run P w = .ok v w ∧ RepD (okOf G φ m w) w v x := by
  cases hr with
  | tmp ht => exact ⟨_, rfl, h.dval ht⟩
  | @cell p T id off n k fz x hp hb hT hk hx =>
    have hv := h.slots p
    rw [hp] at hv
    generalize he : a.tmps.getD p undef = u at hv
    cases hv with
    | ptr _ _ b c hφ =>
      obtain ⟨b', c', arr, e, h3, h4, h5, h6⟩ := box_at h hb
      rw [hφ] at h3
      simp only [Option.some.injEq, Prod.mk.injEq] at h3
      obtain ⟨rfl, rfl⟩ := h3
      have hld := run_loadCells (P := P) w ⟨b, off, none⟩ k (fun j => arr.getD (off + j) undef) (fun j hj => by
        rw [Addr.add_lit, cell_of h4, Array.getD_eq_getD_getElem?, Array.getElem?_eq_getElem (by omega)]; rfl)
      have hrep : RepV φ (okOf G φ m w) w (.agg ((List.range k).map fun j => arr.getD (off + j) undef).toArray) (mkV (cellsM m id off k)) := rep_mkV (by simp [cellsM_length]) fun i v cc hv hc => by
        have hi : i < k := by rw [← cellsM_length m id k off]; exact (List.getElem?_eq_some_iff.1 hc).1
        rw [cellsM_get m id k off i hi] at hc
        simp only [Option.some.injEq] at hc
        rw [← hc]
        refine h6 (off + i) v ?_
        simp [hi] at hv
        rw [← hv, Array.getElem?_eq_getElem (by omega)]
        simp [Array.getD_eq_getD_getElem?, show off + i < arr.size by omega]
      rw [hx] at hrep
      refine ⟨_, ?_, by cases hrep with | d h => exact h⟩
      simp only [resRun, he]
      simp [asAddr, loadVar, hT.agg, hT.size, hld, Result.andThen]

theorem mapM_run {α : Type} (f : α → Sem Value) (w : World) : ∀ (xs : List α) (vs : List Value), xs.length = vs.length → (∀ (i : Nat) x v, xs[i]? = some x → vs[i]? = some v → (f x).run P w = .ok v w) → (xs.mapM f).run P w = .ok vs w
  | [], [], _, _ => by simp
  | [], _ :: _, h, _ => by simp at h
  | _ :: _, [], h, _ => by simp at h
  | x :: xs, v :: vs, h, hf => by
    have h0 := hf 0 x v rfl rfl
    have := mapM_run f w xs vs (by simpa using h) (fun i x v hx hv => hf (i + 1) x v (by simpa using hx) (by simpa using hv))
    rw [List.mapM_cons]
    simp [h0, this, Result.andThen]

theorem ret_ds {fn : Func} {l : List D} (hl : fn.results.size = l.length) (h : ∀ (i : Nat) rv x, fn.results[i]? = some rv → l[i]? = some x → RC P m rv x) : RetM P G fn m (.ds l) := by
  intro φ a w hr
  have hex : ∀ (xs : List ResultVar) (l : List D), xs.length = l.length → (∀ (i : Nat) rv x, xs[i]? = some rv → l[i]? = some x → RC P m rv x) → ∃ vs : List Value, vs.length = l.length ∧
      (∀ (i : Nat) rv v, xs[i]? = some rv → vs[i]? = some v → (resRun a.tmps rv).run P w = .ok v w) ∧
      ∀ (i : Nat) (v : Value) (x : D), vs[i]? = some v → l[i]? = some x → RepD (okOf G φ m w) w v x := by
    intro xs
    induction xs with
    | nil => intro l hl _; exact ⟨[], by simpa using hl, fun i rv v h => by simp at h, fun i v x h => by simp at h⟩
    | cons rv xs ih =>
      intro l hl h
      cases l with
      | nil => simp at hl
      | cons x l =>
        obtain ⟨v, hv1, hv2⟩ := rc_run hr (h 0 rv x rfl rfl)
        obtain ⟨vs, g1, g2, g3⟩ := ih l (by simpa using hl) (fun i rv x h1 h2 => h (i + 1) rv x (by simpa using h1) (by simpa using h2))
        refine ⟨v :: vs, by simp [g1], fun i rv' v' h1 h2 => ?_, fun i v' x' h1 h2 => ?_⟩
        · cases i with
          | zero => simp at h1 h2; subst h1; subst h2; exact hv1
          | succ i => exact g2 i rv' v' (by simpa using h1) (by simpa using h2)
        · cases i with
          | zero => simp at h1 h2; subst h1; subst h2; exact hv2
          | succ i => exact g3 i v' x' (by simpa using h1) (by simpa using h2)
  obtain ⟨vs, g1, g2, g3⟩ := hex fn.results.toList l (by simpa using hl) (fun i rv x h1 h2 => h i rv x (by simpa using h1) h2)
  have hm := mapM_run (P := P) (resRun a.tmps) w fn.results.toList vs (by rw [g1]; simpa using hl) g2
  have hma : (fn.results.mapM (resRun a.tmps)).run P w = .ok vs.toArray w := by
    rw [Array.mapM_eq_mapM_toList]
    simp [hm, Result.andThen]
  refine ⟨if h : vs.toArray.size = 1 then vs.toArray[0] else .tuple vs.toArray, ?_, ?_⟩
  · unfold results
    show Sem.run P ((fn.results.mapM (resRun a.tmps)) >>= fun vs => (pure (if h : vs.size = 1 then vs[0] else .tuple vs) : Sem Value)) w = _
    rw [Sem.run_bind, hma]; rfl
  · match l, vs, g1, g3 with
    | [x], [v], _, g3 => exact .one ((g3 0 v x rfl rfl).mono fun b hb => ⟨ok_end hb, rfl⟩)
    | [], [], _, g3 => exact .many (by simp) rfl (fun i v x h => by simp at h)
    | x1 :: x2 :: l, v1 :: v2 :: vs, g1, g3 =>
      rw [dif_neg (by simp)]
      exact .many (by simp) (by simpa using g1) (fun i v x h1 h2 => (g3 i v x (by simpa using h1) h2).mono fun b hb => ⟨ok_end hb, rfl⟩)

theorem ret_own {fn : Func} {t id k n : Nat} {e : TypeId} {es : List (List D)} (hf : fn.results = #[.tmp t]) (ht : m (.t t) = .own id k n) (hb : m (.b id) = .row false e k es) (hn : n = es.length) : RetM P G fn m (.own e k es) := by
  intro φ a w hr
  refine ⟨a.tmps.getD t undef, by simp [results, hf], ?_⟩
  have hv := hr.slots t
  rw [ht] at hv
  subst hn
  rcases row_at hr hb with ⟨g1, g2⟩ | ⟨b, cap, arr, g1, g2, g3, g4, g5, g6⟩
  · rcases own_inv hv with ⟨h1, h2, _⟩ | ⟨b', c, h1, h2, _⟩
    · rw [h2, g2]; exact .nil e k
    · rw [g1] at h1; cases h1
  · rcases own_inv hv with ⟨h1, h2, _⟩ | ⟨b', c, h1, h2, _⟩
    · rw [g1] at h1; cases h1
    · rw [g1] at h1
      simp only [Option.some.injEq, Prod.mk.injEq] at h1
      obtain ⟨rfl, rfl⟩ := h1
      rw [h2]
      refine .own (hr.lt id b cap g1).1 g2 g3 g4 g5 fun x ds hx => ⟨(g6 x ds hx).1, fun j d hj => ?_⟩
      obtain ⟨v, h1, h2⟩ := (g6 x ds hx).2 j d hj
      refine ⟨v, h1, h2.mono fun b' hb' => ⟨⟨ok_end hb', fun e => ?_⟩, rfl⟩⟩
      subst e
      have := hb'.2.2 id cap g1
      rw [hb] at this; cases this

def initSt (args : List D) : St
  | .t i => match args[i]? with
    | some x => .d x
    | none => .top
  | .b _ => .nob
  | .c _ _ => .top

def endQ (P : Program) (G : Call0) (fn : Func) (r : Ret) : Exit → St → Prop
  | .normal, m | .ret, m => RetM P G fn m r
  | _, _ => False

theorem spec_of {A : Amb} {f : FuncId} {fn : Func} {c : Code} {args : List D} {r : Ret} (hf : P.funcs[f]? = some fn) (hb : fn.body = some c) (hn : args.length ≤ fn.ntmps)
    (h : ∀ (w0 : World) (ok0 : Nat → Prop) (lt0 : ∀ b, ok0 b → b < w0.heap.size) (hA : A.p w0), HT P ⟨w0, ok0, fn.ntmps, lt0, A, hA⟩ c (endQ P ⟨w0, ok0, fn.ntmps, lt0, A, hA⟩ fn r) (initSt args)) : Spec P A f args r := by
  intro w vs ok0 hA hlt hsz hrep
  let G : Call0 := ⟨w, ok0, fn.ntmps, hlt, A, hA⟩
  refine calls_of_wp hf hb (wp_mono (h w ok0 hlt hA _ w ⟨fun _ => none, ?_⟩) ?_)
  · refine ⟨Below.refl _ _, rfl, by simp [hsz]; exact Nat.add_sub_cancel' hn, fun t => ?_, fun i b c hi => (by cases hi), fun i j b c c' hi => (by cases hi), fun i => rfl⟩
    have hok : ∀ b, ok0 b → okOf G (fun _ => none) (initSt args) w b := fun b hb => ⟨.inl hb, hlt b hb, fun i c hi => by cases hi⟩
    simp only [initSt]
    cases hx : args[t]? with
    | none => exact .top _
    | some x =>
      have ht : t < vs.size := by rw [hsz]; exact (List.getElem?_eq_some_iff.1 hx).1
      have : (vs ++ Array.replicate (fn.ntmps - vs.size) undef).getD t undef = vs[t] := by
        rw [Array.getD_eq_getD_getElem?, Array.getElem?_append_left ht, Array.getElem?_eq_getElem ht]; rfl
      show RepV _ _ w ((vs ++ Array.replicate (fn.ntmps - vs.size) undef).getD t undef) (.d x)
      rw [this]
      exact .d ((hrep t vs[t] x (by simp [ht]) hx).mono fun b hb => ⟨hok b hb, rfl⟩)
  · rintro e a' w' ⟨m', ⟨φ, h1⟩, h2⟩
    cases e <;> simp only [endQ] at h2
    · obtain ⟨v, q1, q2⟩ := h2 φ a' w' h1
      exact ⟨h1.nodef, v, q1, v, rfl, h1.below, q2⟩
    · obtain ⟨v, q1, q2⟩ := h2 φ a' w' h1
      exact ⟨h1.nodef, v, q1, v, rfl, h1.below, q2⟩
end
end Go.Awp
