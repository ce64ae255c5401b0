/- Ranges over strings, records that are compared, nil, function values, rows told as data from the start. No program in sight. -/
import Derived.Test.YthhpelmjnmlgjaaGreatDoorAwpStruct
import Derived.Laws.RangeString
import Derived.Laws.StructEq
import Derived.Laws.Cover3
set_option linter.unusedSimpArgs false
set_option linter.unusedVariables false
namespace Go.Awp
open Go.RowKit

section
variable {P : Program} {ops : Array Oper} {G : Call0} {o : Oper} {m : St}

theorem upd_same (m : St) (l : Loc) : upd m l (m l) = m := by
  funext x
  by_cases h : x = l
  · subst h; exact upd_self _ _ _
  · exact upd_ne _ _ h
/-- The same thing, in another word. -/
theorem wk_eq (l : Loc) (X : V) (h : m l = X) : Wk G m (upd m l X) := by subst h; rw [upd_same]; exact Wk.refl _

/-! ### Ranges over strings -/
def nxc (s : ByteArray) (pos : Nat) : Bool := decide (pos < s.size)
def nxr (s : ByteArray) (pos : Nat) : Int := ((Utf8.decode s pos).1 : Nat)
def nxw (s : ByteArray) (pos : Nat) : Nat := pos + (Utf8.decode s pos).2
def nxp (s : ByteArray) (pos : Nat) : Nat := bif nxc s pos then nxw s pos else pos
def nxV (s : ByteArray) (pos : Nat) : V := bif nxc s pos then .tup [bV true, iV (pos : Nat), nV .i32 (nxr s pos)] else .tup [bV false]
theorem nxV_t {s : ByteArray} {pos : Nat} (h : nxc s pos = true) : nxV s pos = .tup [bV true, iV (pos : Nat), nV .i32 (nxr s pos)] := by simp [nxV, h]
theorem nxp_t {s : ByteArray} {pos : Nat} (h : nxc s pos = true) : V.iter s (nxp s pos) = .iter s (nxw s pos) := by simp [nxp, h]
theorem nxp_f {s : ByteArray} {pos : Nat} (h : nxc s pos = false) : V.iter s (nxp s pos) = .iter s pos := by simp [nxp, h]

theorem v_range {d T id : Nat} {x : Operand} {s : ByteArray} (hop : o.op = .range T x) (hg : GOn ops o m) (hdst : o.dst = some d) (hd : d < G.nt) (hT : P.underlying T = some .string)
    (hx : evO m x = sV s) (hid : m (.b id) = .nob) : Valid P ops G o m ⟨gloc ops o ++ (lo x ++ [.b id]), [(.b id, .iter s 0), (.t d, .ptr id 0)]⟩ :=
  valid_of hg (fun l hl => by simp [hl]) fun m' hm φ a w hr => by
    have h1 := hr.s (x := x) (fun l hl => hm l (by simp [hl])) hx
    have hrun := run_range_string (P := P) w T s hT
    refine ⟨_, _, by simp only [execOp, hop, h1, Sem.run_bind, hrun, Result.andThen_ok, Sem.run_pure]; rfl, updPhi φ id (some (w.heap.size, 0)), ?_⟩
    rw [hdst]
    have : RR G (updPhi φ id (some (w.heap.size, 0))) (upd m' (.b id) (.iter s 0)) a (w.alloc (.stringIter s 0)) :=
      hr.newBlk id 0 (by rw [hm _ (by simp)]; exact hid) (.stringIter s 0) (fun t => upd_b_t _ _ _ _) (fun i hi => upd_b_b _ _ hi) (fun i j hi => upd_b_c _ _ _ _ _) (fun ok' hok => by
        unfold BlkOK
        rw [upd_self]
        exact ⟨w.heap.size, 0, updPhi_self _ _ _, heap_alloc_at _ _⟩)
    exact this.put d hd (.ptr id 0 w.heap.size 0 (updPhi_self _ _ _))

theorem run_next_t (w : World) (b : Nat) (ty : TypeId) {s : ByteArray} {pos : Nat} (h : w.heap[b]? = some (.stringIter s pos)) (hp : pos < s.size) :
    (Instr.next (.pointer (some ⟨b, 0, none⟩)) true ty).run P w = .ok (.tuple #[.bool true, goInt pos, .int .i32 (Utf8.decode s pos).1]) { w with heap := w.heap.setIfInBounds b (.stringIter s (nxw s pos)) } := by
  have hb : b < w.heap.size := (Array.getElem?_eq_some_iff.1 h).1
  simp only [Instr.next, getObj, setObj, Sem.run_bind, Sem.run, h, Result.andThen, hp, if_true]
  simp [goInt, Sem.run, h, nxw, hb]
theorem run_next_f (w : World) (b : Nat) (ty : TypeId) {s : ByteArray} {pos : Nat} (h : w.heap[b]? = some (.stringIter s pos)) (hp : ¬ pos < s.size) :
    (Instr.next (.pointer (some ⟨b, 0, none⟩)) true ty).run P w = .ok (.tuple #[.bool false]) w := by
  simp [Instr.next, getObj, Sem.run, h, hp, Result.andThen]

theorem v_next {d id : Nat} {x : Operand} {s : ByteArray} {pos : Nat} (hop : o.op = .next x true) (hg : GOn ops o m) (hdst : o.dst = some d) (hd : d < G.nt)
    (hx : evO m x = .ptr id 0) (hb : m (.b id) = .iter s pos) : Valid P ops G o m ⟨gloc ops o ++ (lo x ++ [.b id]), [(.b id, .iter s (nxp s pos)), (.t d, nxV s pos)]⟩ :=
  valid_of hg (fun l hl => by simp [hl]) fun m' hm φ a w hr => by
    obtain ⟨b, c, hφ, h2⟩ := hr.ptr (x := x) (fun l hl => hm l (by simp [hl])) hx
    have hb' : m' (.b id) = .iter s pos := by rw [hm _ (by simp)]; exact hb
    have hblk := hr.blk id
    unfold BlkOK at hblk
    rw [hb'] at hblk
    obtain ⟨b', c', h3, h4⟩ := hblk
    rw [hφ] at h3
    simp only [Option.some.injEq, Prod.mk.injEq] at h3
    obtain ⟨rfl, rfl⟩ := h3
    have hlt := hr.lt id b c hφ
    by_cases hp : pos < s.size
    · have hc : nxc s pos = true := decide_eq_true hp
      refine ⟨.tuple #[.bool true, goInt pos, .int .i32 (Utf8.decode s pos).1], { w with heap := w.heap.setIfInBounds b (.stringIter s (nxw s pos)) }, ?_, φ, ?_⟩
      · simp only [execOp, hop, h2, Sem.run_bind, run_next_t w b o.type h4 hp, Result.andThen_ok, Sem.run_pure]
      · rw [hdst]
        show RR G φ (upd (upd m' (.b id) (.iter s (nxp s pos))) (.t d) (nxV s pos)) _ _
        rw [nxp, hc, nxV_t hc]
        have : RR G φ (upd m' (.b id) (.iter s (nxw s pos))) a { w with heap := w.heap.setIfInBounds b (.stringIter s (nxw s pos)) } := by
          refine hr.turn id b c hφ (by rw [hb']; rfl) (fun t => upd_b_t _ _ _ _) (fun j hj => upd_b_b _ _ hj) (fun j l hj => upd_b_c _ _ _ _ _) ?_ (by simp) (fun b' hb' => ?_) ?_
          · refine hr.below.trans ⟨rfl, rfl, rfl, by simp, fun k hk => ?_⟩
            show (w.heap.setIfInBounds b _)[k]? = _
            rw [Array.getElem?_setIfInBounds_ne (by omega)]
          · show (w.heap.setIfInBounds b _)[b']? = _
            rw [Array.getElem?_setIfInBounds_ne (Ne.symm hb')]
          · intro ok' hok
            unfold BlkOK
            rw [upd_self]
            refine ⟨b, c, hφ, ?_⟩
            show (w.heap.setIfInBounds b _)[b]? = _
            rw [Array.getElem?_setIfInBounds_self_of_lt hlt.2]
        refine this.put d hd (.tup _ _ rfl fun i v c hv hc => ?_)
        match i with
        | 0 => simp at hv hc; subst hv; subst hc; exact .d (.s _)
        | 1 => simp at hv hc; subst hv; subst hc; exact .d (.s _)
        | 2 => simp at hv hc; subst hv; subst hc; exact .d (.s _)
        | i + 3 => simp at hv
    · have hc : nxc s pos = false := decide_eq_false hp
      refine ⟨.tuple #[.bool false], w, ?_, φ, ?_⟩
      · simp only [execOp, hop, h2, Sem.run_bind, run_next_f w b o.type h4 hp, Result.andThen_ok, Sem.run_pure]
      · rw [hdst]
        have e1 : nxV s pos = .tup [bV false] := by simp [nxV, hc]
        show RR G φ (upd (upd m' (.b id) (.iter s (nxp s pos))) (.t d) (nxV s pos)) _ _
        rw [nxp, hc, e1]
        have e2 : upd m' (.b id) (.iter s pos) = m' := by rw [← hb']; exact upd_same _ _
        show RR G φ (upd (upd m' (.b id) (.iter s pos)) (.t d) _) _ _
        rw [e2]
        refine hr.put d hd (.tup _ _ rfl fun i v c hv hc => ?_)
        match i with
        | 0 => simp at hv hc; subst hv; subst hc; exact .d (.s _)
        | i + 1 => simp at hv

theorem v_nx0 {d : Nat} {x : Operand} {s : ByteArray} {pos : Nat} (hop : o.op = .extract x 0) (hg : GOn ops o m) (hdst : o.dst = some d) (hd : d < G.nt)
    (hx : evO m x = nxV s pos) : Valid P ops G o m ⟨gloc ops o ++ lo x, [(.t d, bV (nxc s pos))]⟩ := by
  cases hc : nxc s pos with
  | true => exact v_extract hop hg hdst hd (hx.trans (nxV_t hc)) rfl
  | false => exact v_extract hop hg hdst hd (hx.trans (by simp [nxV, hc] : nxV s pos = .tup [bV false])) rfl

/-! ### Records that are compared -/
def partP (P : Program) (t : TypeId) (cs : List Value) (off : Nat) : Option Value :=
  match P.underlying t, P.info? t with
  | some (.struct _), some i => some (.agg ((cs.drop off).take i.size).toArray)
  | some d, _ => if oneKind d then cs[off]? else none
  | none, _ => none

def eqP (P : Program) : Nat → TypeId → Value → Value → Option Bool
  | 0, _, _, _ => none
  | d + 1, t, x, y => match P.underlying t, x, y with
    | some .bool, .bool a, .bool b => some (a == b)
    | some (.int _), .int k a, .int k' b => if k = k' then some (eqI a b) else none
    | some .string, .string a, .string b => some (strEq a b)
    | some (.struct fs), .agg xs, .agg ys => if P.stoodInHeld t then none else
      fs.toList.foldr (fun f r => if f.name = "_" then none else match partP P f.type xs.toList f.offset, partP P f.type ys.toList f.offset with
        | some u, some v => match eqP P d f.type u v, r with
          | some c, some r => some (c && r)
          | _, _ => none
        | _, _ => none) (some true)
    | _, _, _ => none

theorem part_run {t : TypeId} {cs : Array Value} {off : Nat} {v : Value} (h : partP P t cs.toList off = some v) (w : World) : (part t cs off).run P w = .ok v w := by
  unfold partP at h
  cases hu : P.underlying t with
  | none => rw [hu] at h; simp at h
  | some td =>
    rw [hu] at h
    have hur := run_underlying hu w
    have one : oneKind td = true → cs.toList[off]? = some v → (part t cs off).run P w = .ok v w := fun h1 h2 => by
      rw [Array.getElem?_toList] at h2
      have ha : (isAgg t).run P w = .ok false w := by cases td <;> first | (simp [oneKind] at h1; done) | simp [isAgg, hur, Result.andThen]
      unfold part
      rw [Sem.run_bind, ha, Result.andThen_ok]
      simp [h2]
    split at h
    · rename_i fs i e1 e2
      simp only [Option.some.injEq] at e1 h
      subst e1; subst h
      have hs : (sizeOf t).run P w = .ok i.size w := by simp [sizeOf, typeInfo, e2, Result.andThen]
      have ha : (isAgg t).run P w = .ok true w := by simp [isAgg, hur, Result.andThen]
      unfold part
      rw [Sem.run_bind, ha, Result.andThen_ok]
      simp only [if_true, Sem.run_bind, hs, Result.andThen_ok, Sem.run_pure]
      congr 2
      apply Array.toList_inj.1
      simp [Array.toList_extract, List.extract_eq_take_drop]
    · rename_i e1 _
      simp only [Option.some.injEq] at e1
      subst e1
      split at h
      · rename_i h1; exact one h1 h
      · cases h
    · rename_i e; cases e

theorem eqP_run : ∀ (n d : Nat) (t : TypeId) (x y : Value) (b : Bool), n ≤ d → eqP P n t x y = some b → ∀ w, (Op.equalIn d t x y).run P w = .ok b w
  | 0, _, _, _, _, _, _, h => by simp [eqP] at h
  | n + 1, 0, _, _, _, _, hle, _ => by omega
  | n + 1, d + 1, t, x, y, b, hle, h => fun w => by
    unfold eqP at h
    split at h
    · rename_i e1; simp only [Option.some.injEq] at h; subst h; exact run_equalIn_bool' w d t _ _ e1
    · rename_i e1
      split at h
      · rename_i ek; subst ek; simp only [Option.some.injEq] at h; subst h; exact run_equalIn_int w d t _ _ _ _ e1
      · cases h
    · rename_i e1; simp only [Option.some.injEq] at h; subst h; exact run_equalIn_string w d t _ _ e1
    · rename_i fs xs ys e1
      split at h
      · cases h
      · rename_i hst
        have hf : P.fieldsOf t = fs := by simp [Program.fieldsOf, e1]
        rw [run_equalIn_struct w d t xs ys (by rw [hf]; exact e1) (by simpa using hst), hf]
        have key : ∀ (l : List Field) (b : Bool), l.foldr (fun f r => if f.name = "_" then none else match partP P f.type xs.toList f.offset, partP P f.type ys.toList f.offset with
            | some u, some v => match eqP P n f.type u v, r with
              | some c, some r => some (c && r)
              | _, _ => none
            | _, _ => none) (some true) = some b → (Op.eqFields d xs ys l).run P w = .ok b w := by
          intro l
          induction l with
          | nil => intro b hb; simp at hb; subst hb; simp [Op.eqFields]
          | cons f l ih =>
            intro b hb
            rw [List.foldr_cons] at hb
            split at hb
            · cases hb
            · rename_i hn
              split at hb
              · rename_i u v hu' hv'
                split at hb
                · rename_i c r hc hr
                  simp only [Option.some.injEq] at hb
                  subst hb
                  have h1 := part_run hu' w
                  have h2 := part_run hv' w
                  have h3 := eqP_run n d f.type u v c (by omega) hc w
                  have h4 := ih r hr
                  simp only [Op.eqFields, ne_eq, hn, not_false_eq_true, if_true, Sem.run_bind, h1, h2, h3, Result.andThen_ok]
                  cases c with
                  | true => simpa using h4
                  | false => simp
                · cases hb
              · cases hb
        exact key fs.toList b h
    · cases h

theorem rep_agg_s {ok : Nat → Prop} {w : World} {v : Value} {cs : List D} {vs : List Value} (h : RepD ok w v (.agg cs)) (hc : cs = vs.map .s) : v = .agg vs.toArray := by
  cases h with
  | agg us _ hl hcs =>
    subst hc
    congr 1
    apply Array.ext_getElem?
    intro i
    by_cases hi : i < us.size
    · have hlt : i < vs.length := by rw [hl] at hi; simpa using hi
      have := hcs i us[i] (.s vs[i]) (by simp) (by simp [hlt])
      rw [Array.getElem?_eq_getElem hi, List.getElem?_toArray, List.getElem?_eq_getElem hlt]
      generalize us[i] = u at this ⊢
      cases this; rfl
    · have : ¬ i < vs.length := by rw [hl] at hi; simpa using hi
      rw [Array.getElem?_eq_none (by omega), List.getElem?_toArray, List.getElem?_eq_none (by omega)]

theorem RR.aggS {φ : Phi} {m' : St} {a : Act} {w : World} (h : RR G φ m' a w) {x : Operand} {cs : List D} {vs : List Value} (hm : ∀ l ∈ lo x, m' l = m l) (hx : evO m x = .d (.agg cs)) (hc : cs = vs.map .s) : a.eval x = .agg vs.toArray := by
  have h1 := h.ev' hm hx
  generalize a.eval x = u at h1 ⊢
  cases h1 with | d h1 => exact rep_agg_s h1 hc

theorem v_bin_eql {α : Type} {f : α → List D} {d : Nat} {T T' : TypeId} {x y : Operand} {a b : α} {va vb : List Value} {r : Bool} (hop : o.op = .binOp .eql T x y T') (hg : GOn ops o m) (hdst : o.dst = some d) (hd : d < G.nt)
    (hx : evO m x = .d (.agg (f a))) (hy : evO m y = .d (.agg (f b))) (ha : f a = va.map .s) (hb : f b = vb.map .s) (hgd : P.eqGuardType P.depth T = false) (hr : eqP P 9 T (.agg va.toArray) (.agg vb.toArray) = some r) :
    Valid P ops G o m ⟨gloc ops o ++ (lo x ++ lo y), [(.t d, bV r)]⟩ :=
  valid_pure hg hdst hd fun m' hm φ a w h => by
    have h1 := h.aggS (x := x) (fun l hl => hm l (by simp [hl])) hx ha
    have h2 := h.aggS (x := y) (fun l hl => hm l (by simp [hl])) hy hb
    refine ⟨.bool r, ?_, .d (.s _)⟩
    have h3 := run_eqGuard_agg (P := P) w .eql T x y va.toArray vb.toArray hgd
    have h4 := run_eql_struct (P := P) w T va.toArray vb.toArray
    rw [eqP_run 9 10000 T _ _ r (by decide) hr w] at h4
    simp only [execOp, hop, h1, h2, Sem.run_bind, h3, h4, Result.andThen_ok, Sem.run_pure]
theorem v_bin_neq {α : Type} {f : α → List D} {d : Nat} {T T' : TypeId} {x y : Operand} {a b : α} {va vb : List Value} {r : Bool} (hop : o.op = .binOp .neq T x y T') (hg : GOn ops o m) (hdst : o.dst = some d) (hd : d < G.nt)
    (hx : evO m x = .d (.agg (f a))) (hy : evO m y = .d (.agg (f b))) (ha : f a = va.map .s) (hb : f b = vb.map .s) (hgd : P.eqGuardType P.depth T = false) (hr : eqP P 9 T (.agg va.toArray) (.agg vb.toArray) = some r) :
    Valid P ops G o m ⟨gloc ops o ++ (lo x ++ lo y), [(.t d, bV (!r))]⟩ :=
  valid_pure hg hdst hd fun m' hm φ a w h => by
    have h1 := h.aggS (x := x) (fun l hl => hm l (by simp [hl])) hx ha
    have h2 := h.aggS (x := y) (fun l hl => hm l (by simp [hl])) hy hb
    refine ⟨.bool (!r), ?_, .d (.s _)⟩
    have h3 := run_eqGuard_agg (P := P) w .neq T x y va.toArray vb.toArray hgd
    have h4 := run_neq_struct (P := P) w T va.toArray vb.toArray
    rw [eqP_run 9 10000 T _ _ r (by decide) hr w] at h4
    simp only [execOp, hop, h1, h2, Sem.run_bind, h3, h4, Result.andThen_ok, Sem.run_pure]

/-! ### Things told as data from the start -/
theorem v_func_d {d : Nat} {g : FuncId} {xs : Array Operand} {ds : List D} (hop : o.op = .makeFunc (.func g) #[] xs) (hg : GOn ops o m) (hdst : o.dst = some d) (hd : d < G.nt)
    (hx : xs.toList.map (evO m) = ds.map .d) : Valid P ops G o m ⟨gloc ops o ++ xs.toList.flatMap lo, [(.t d, .d (.fn g ds))]⟩ :=
  valid_pure hg hdst hd fun m' hm φ a w h => by
    obtain ⟨h1, h2⟩ := call_args h hm hx
    exact ⟨.func (.func g) #[] (xs.map a.eval), by simp [execOp, hop, Instr.makeFunc], .d (.fn g _ _ h1 h2)⟩

theorem ok_at {φ : Phi} {a : Act} {w : World} (h : RR G φ m a w) (ob : Obj) : okOf G φ m (w.alloc ob) w.heap.size :=
  ⟨.inr h.below.size, by rw [size_alloc']; omega, fun i c hi => by have := (h.lt i _ c hi).2; omega⟩
theorem ok_alloc {φ : Phi} {w : World} (ob : Obj) {b : Nat} (h : okOf G φ m w b) : okOf G φ m (w.alloc ob) b ∧ (w.alloc ob).heap[b]? = w.heap[b]? :=
  ⟨⟨h.1, by rw [size_alloc']; exact Nat.lt_succ_of_lt h.2.1, h.2.2⟩, heap_alloc_lt h.2.1⟩

theorem v_box_d {d T : Nat} {x : Operand} {X : V} {cs : List D} (hop : o.op = .box T x) (hg : GOn ops o m) (hdst : o.dst = some d) (hd : d < G.nt)
    (hx : evO m x = X) (hcs : X.cellsV = cs.map .d) (h1 : ∀ c ∈ cs.map V.d, c.one = true) : Valid P ops G o m ⟨gloc ops o ++ lo x, [(.t d, .d (.dp cs))]⟩ :=
  valid_of hg (fun l hl => by simp [hl]) fun m' hm φ a w hr => by
    have hx' := hr.ev' (x := x) (fun l hl => hm l (by simp [hl])) hx
    obtain ⟨h2, h3, _⟩ := rep_cells hx' (by rw [hcs]; exact h1)
    rw [hcs] at h2 h3
    refine ⟨.pointer (some ⟨w.heap.size, 0, none⟩), w.alloc (.cells (a.eval x).cells T), by simp [execOp, hop, Instr.box, newVar, newRow], φ, ?_⟩
    rw [hdst]
    refine (hr.grow (below_alloc1 w _)).put d hd (.d (.dp w.heap.size 0 cs (fun j => (a.eval x).cells.getD j undef) (ok_at hr _) (fun j c hj => ?_) fun j c hj => ?_))
    · have hlt : j < (a.eval x).cells.size := by rw [h2, List.length_map]; exact (List.getElem?_eq_some_iff.1 hj).1
      rw [Nat.zero_add, cell_of (heap_alloc_at _ _), Array.getD_eq_getD_getElem?, Array.getElem?_eq_getElem hlt]; rfl
    · have hlt : j < (a.eval x).cells.size := by rw [h2, List.length_map]; exact (List.getElem?_eq_some_iff.1 hj).1
      have := h3 j (a.eval x).cells[j] (.d c) (Array.getElem?_eq_getElem hlt) (by rw [List.getElem?_map, hj]; rfl)
      rw [Array.getD_eq_getD_getElem?, Array.getElem?_eq_getElem hlt, Option.getD_some]
      generalize (a.eval x).cells[j] = u at this ⊢
      cases this with | d h => exact h.mono fun b hb => ok_alloc _ hb

theorem w_bsl_d {α : Type} {d T e k n : Nat} {parts : Array (Nat × Operand)} {z : Value} (xs : List (Nat × V)) (l : List α) (f : α → List D) (hop : o.op = .buildSlice T n parts) (hg : GOn ops o m) (hdst : o.dst = some d) (hd : d < G.nt) (hT : SliceT P T e k)
    (hz : ∀ w, (zeroValue e).run P w = .ok z w) (hf : EncT f k) (hk0 : 0 < k) (hx : parts.toList.map (fun p => (p.1, evO m p.2)) = xs) (h1 : onesB xs = true)
    (hn : l.length = n) (hsm : Nat.ble (n * k) (2 ^ 24) = true) (hfl : fillV (fun i => some (i * k, k)) (List.replicate (n * k) .top) xs = some ((l.map f).flatten.map .d)) :
    Valid P ops G o m ⟨gloc ops o ++ parts.toList.flatMap (fun p => lo p.2), [(.t d, .d (.sl k (l.map f)))]⟩ :=
  valid_of hg (fun l hl => by simp [hl]) fun m' hm φ a w hr => by
    have hs := Nat.le_of_ble_eq_true hsm
    have h1 : ∀ q ∈ xs, ∀ c ∈ q.2.cellsV, c.one = true := fun q hq c hc => List.all_eq_true.1 (List.all_eq_true.1 h1 q hq) c hc
    have hmax : n ≤ maxCap := by
      have : n * 1 ≤ n * k := Nat.mul_le_mul_left n hk0
      simp only [maxCap]
      omega
    have hx' : parts.toList.map (fun p => (p.1, evO m' p.2)) = xs := by
      rw [← hx]; exact evO_map_congr _ fun p hp x hx => hm x (by simp only [List.mem_append, List.mem_flatMap]; exact .inr ⟨p, hp, hx⟩)
    obtain ⟨g1, g2⟩ := parts_rep hr hx'
    have fin : ∀ (z0 : Array Value), z0.size = n * k → ∃ arr, Instr.fill (fun i => some (i * k, k)) z0 (parts.map fun (i, x) => (i, a.eval x)).toList = some arr ∧ RepL φ (okOf G φ m' w) w arr ((l.map f).flatten.map .d) := fun z0 hz0 =>
      fill_rep xs _ _ _ z0 ⟨by simpa using hz0, fun i v c hv hc => by
        have hlt : i < n * k := by have := (List.getElem?_eq_some_iff.1 hc).1; simpa using this
        rw [List.getElem?_replicate, if_pos hlt] at hc
        simp only [Option.some.injEq] at hc
        subst hc
        exact .top v⟩ g1 g2 h1 hfl
    have hrun : ∃ arr, (Instr.buildSlice T n (parts.map fun (i, x) => (i, a.eval x))).run P w = .ok (.slice (some ⟨w.heap.size, 0, none⟩) n n) (w.alloc (.cells arr e)) ∧ RepL φ (okOf G φ m' w) w arr ((l.map f).flatten.map .d) := by
      have hns : ¬ n * k > 2 ^ 24 := by omega
      by_cases h0 : n * k = 0
      · obtain ⟨arr, f1, f2⟩ := fin ((Array.range (n * k)).map fun i => (#[] : Array Value)[i % (#[] : Array Value).size]!) (by simp)
        refine ⟨arr, ?_, f2⟩
        simp only [Instr.buildSlice, Sem.run_bind, run_underlying hT.und, hT.size, Result.andThen_ok, if_neg hns, if_pos h0, Sem.run_pure, f1]
        simp [newRow]
      · obtain ⟨arr, f1, f2⟩ := fin ((Array.range (n * k)).map fun i => z.cells[i % z.cells.size]!) (by simp)
        refine ⟨arr, ?_, f2⟩
        simp only [Instr.buildSlice, Sem.run_bind, run_underlying hT.und, hT.size, Result.andThen_ok, if_neg hns, if_neg h0, Sem.run_pure, hz w, f1]
        simp [newRow]
    obtain ⟨arr, r1, r2⟩ := hrun
    refine ⟨.slice (some ⟨w.heap.size, 0, none⟩) n n, w.alloc (.cells arr e), by simp only [execOp, hop, Sem.run_bind, r1, Result.andThen_ok, Sem.run_pure], φ, ?_⟩
    rw [hdst]
    have hrow := rowIn_of (hf.lens l) r2
    have hll : (l.map f).length = n := by simpa using hn
    refine (hr.grow (below_alloc1 w _)).put d hd (.d ?_)
    rw [← hll]
    refine .sl w.heap.size 0 _ k (l.map f) (fun i j => arr.getD (i * k + j) undef) (Nat.le_refl _) (by rw [hll]; exact hmax) (ok_at hr _) (fun i e hi => (hrow i e hi).1) (fun i e j c hi hj => ?_) (fun i e j c hi hj => ?_)
    · obtain ⟨v, h1, _⟩ := (hrow i e hi).2 j c hj
      rw [Nat.zero_add, cell_of (heap_alloc_at _ _), h1, Array.getD_eq_getD_getElem?, h1]; rfl
    · obtain ⟨v, h1, h2⟩ := (hrow i e hi).2 j c hj
      rw [Array.getD_eq_getD_getElem?, h1]; exact h2.mono fun b hb => ok_alloc _ hb

/-! ### Calls: nil, functions -/
inductive TD : V → D → Prop
  | d (x : D) : TD (.d x) x
  | nil (k : Nat) : TD (.d (.s (.slice none 0 0))) (.sl k [])
  | fn (g : FuncId) (ds : List D) : TD (.fn g (ds.map .d)) (.fn g ds)
theorem TD.of {X Y : V} {d : D} (h : X = Y) (t : TD Y d) : TD X d := by subst h; exact t
theorem pr {α : Type} {X Y : α} {i : Nat} (h : X = Y) : (i, X) = (i, Y) := by rw [h]
inductive TDs : List V → List D → Prop
  | n : TDs [] []
  | c {x : V} {y : D} {xs : List V} {ys : List D} (h : TD x y) (hs : TDs xs ys) : TDs (x :: xs) (y :: ys)

theorem TD.rep {X : V} {x : D} (h : TD X x) {φ : Phi} {ok : Nat → Prop} {w : World} {v : Value} (hr : RepV φ ok w v X) : RepD ok w v x := by
  cases h with
  | d => cases hr with | d h => exact h
  | nil k => cases hr with | d h => cases h; exact .nil k
  | fn g ds =>
    cases hr with
    | fn _ vs _ hl hc =>
      refine .fn g vs ds (by simpa using hl) fun i v c hv hx => ?_
      have := hc i v (.d c) hv (by rw [List.getElem?_map, hx]; rfl)
      cases this with | d h => exact h
theorem TDs.get : ∀ {xs : List V} {ys : List D}, TDs xs ys → xs.length = ys.length ∧ ∀ (i : Nat) (y : D), ys[i]? = some y → ∃ x, xs[i]? = some x ∧ TD x y
  | _, _, .n => ⟨rfl, fun i y h => by simp at h⟩
  | _, _, .c (xs := xs) (ys := ys) h hs => by
    obtain ⟨h1, h2⟩ := hs.get
    refine ⟨by simp [h1], fun i y hi => ?_⟩
    cases i with
    | zero => simp at hi; subst hi; exact ⟨_, rfl, h⟩
    | succ i => obtain ⟨x, h3, h4⟩ := h2 i y (by simpa using hi); exact ⟨x, by simpa using h3, h4⟩

theorem call_args2 {φ : Phi} {m' : St} {a : Act} {w : World} {xs : Array Operand} {ds : List D} (h : RR G φ m' a w) (hm : ∀ l ∈ xs.toList.flatMap lo, m' l = m l) (hx : TDs (xs.toList.map (evO m)) ds) :
    (xs.map a.eval).size = ds.length ∧ ∀ (i : Nat) (v : Value) (x : D), (xs.map a.eval)[i]? = some v → ds[i]? = some x → RepD (okOf G φ m' w) w v x := by
  obtain ⟨hl, hg⟩ := hx.get
  refine ⟨by simpa using hl, fun i v x hv hxi => ?_⟩
  rw [Array.getElem?_map, Option.map_eq_some_iff] at hv
  obtain ⟨y, hy, rfl⟩ := hv
  obtain ⟨X, h1, h2⟩ := hg i x hxi
  rw [List.getElem?_map, Array.getElem?_toList, hy] at h1
  simp only [Option.map_some, Option.some.injEq] at h1
  exact h2.rep (h.ev' (x := y) (fun l hl => hm l (List.mem_flatMap.2 ⟨y, by rw [Array.mem_toList_iff]; exact Array.mem_of_getElem? hy, hl⟩)) h1)

theorem call_run2 {φ : Phi} {m' : St} {a : Act} {w : World} {c : Call} {fo : Operand} {xs : Array Operand} {g : FuncId} {caps ds : List D} (hop : o.op = .call c) (hc : c.callee = .value fo) (hxs : c.args = xs) (hen : ∀ args w, (callFunc g args).run P w = .ok (.enter g args) w)
    (h : RR G φ m' a w) (hm : ∀ l ∈ lo fo ++ xs.toList.flatMap lo, m' l = m l) (hf : FnIs m fo g caps) (hx : TDs (xs.toList.map (evO m)) ds) :
    ∃ vs : Array Value, (execOp a.eval o).run P w = .ok (.enter g vs) w ∧ vs.size = (ds ++ caps).length ∧ ∀ (i : Nat) (v : Value) (x : D), vs[i]? = some v → (ds ++ caps)[i]? = some x → RepD (okOf G φ m' w) w v x := by
  obtain ⟨a1, a2⟩ := call_args2 h (fun l hl => hm l (by simp only [List.mem_append]; exact .inr hl)) hx
  rcases hf with ⟨h1, h2⟩ | h1
  · subst h1; subst h2
    refine ⟨xs.map a.eval, ?_, by simpa using a1, by simpa using a2⟩
    simp [execOp, hop, resolve, hc, hxs, Deferred.ofValue, Act.eval, invoke, hen]
  · have hv := h.ev' (x := fo) (fun l hl => hm l (by simp [hl])) h1
    generalize he : a.eval fo = fv at hv
    cases hv with
    | d hv =>
      cases hv with
      | fn _ vs _ hl hcs =>
        refine ⟨xs.map a.eval ++ vs, ?_, by simp [a1, hl], fun i v x hv hx => ?_⟩
        · simp [execOp, hop, resolve, hc, hxs, Deferred.ofValue, he, invoke, hen]
        · by_cases hi : i < ds.length
          · rw [Array.getElem?_append_left (by rw [a1]; exact hi)] at hv
            rw [List.getElem?_append_left hi] at hx
            exact a2 i v x hv hx
          · rw [Array.getElem?_append_right (by rw [a1]; omega), a1] at hv
            rw [List.getElem?_append_right (by omega)] at hx
            exact hcs _ v x hv hx

theorem valid_call2 {e : Eff} {c : Call} {fo : Operand} {xs : Array Operand} {g : FuncId} {caps ds : List D} {r : Ret} (hop : o.op = .call c) (hc : c.callee = .value fo) (hxs : c.args = xs) (hen : ∀ args w, (callFunc g args).run P w = .ok (.enter g args) w)
    (hg : GOn ops o m) (hgl : ∀ l ∈ gloc ops o ++ (lo fo ++ xs.toList.flatMap lo), l ∈ e.rd) (hf : FnIs m fo g caps) (hx : TDs (xs.toList.map (evO m)) ds) (hs : Spec P G.A g (ds ++ caps) r)
    (h : ∀ m' : St, (∀ l ∈ e.rd, m' l = m l) → ∀ φ a w w' v, RR G φ m' a w → Below w.heap.size w w' → RepRet (okOf G φ m' w) w w' v r → R G (updL m' e.wr) (a.put o.dst v) w') : Valid P ops G o m e := by
  intro m' hm a w hr K Q hK
  obtain ⟨φ, hr⟩ := hr
  obtain ⟨vs, h1, h2, h3⟩ := call_run2 hop hc hxs hen hr (fun l hl => hm l (hgl l (by simp only [List.mem_append] at hl ⊢; exact .inr hl))) hf hx
  unfold opGo
  rw [if_pos (hr.wanted (hg.congr fun l hl => hm l (hgl l (by simp [hl]))))]
  left
  unfold Oper.wp
  rw [h1]
  refine (hs w vs (okOf G φ m' w) (G.A.keep _ _ G.hA hr.below) (fun b hb => hb.2.1) h2 h3).mono ?_
  rintro e' w' ⟨v, rfl, hb, hret⟩
  exact hK _ _ (h m' hm φ a w w' v hr hb hret)

theorem w_call2 {d : Nat} {c : Call} {fo : Operand} {xs : Array Operand} {g : FuncId} {caps ds l : List D} {X : V} (hs : Spec P G.A g (ds ++ caps) (.ds l)) (hop : o.op = .call c) (hc : c.callee = .value fo) (hxs : c.args = xs) (hen : ∀ args w, (callFunc g args).run P w = .ok (.enter g args) w)
    (hg : GOn ops o m) (hdst : o.dst = some d) (hd : d < G.nt) (hf : FnIs m fo g caps) (hx : TDs (xs.toList.map (evO m)) ds) (hX : retV l = X) :
    Valid P ops G o m ⟨gloc ops o ++ (lo fo ++ xs.toList.flatMap lo), [(.t d, X)]⟩ :=
  valid_call2 hop hc hxs hen hg (fun l hl => hl) hf hx hs fun m' hm φ a w w' v hr hb hret => by
    subst hX
    refine ⟨φ, ?_⟩
    rw [hdst]
    refine (hr.grow hb).put d hd ?_
    cases hret with
    | one h => exact .d (h.mono fun b hb' => ⟨ok_new hr hb hb', rfl⟩)
    | @many vs l h1 h2 h =>
      have : retV l = .tup (l.map .d) := by
        unfold retV
        split
        · simp at h1
        · rfl
      rw [this]
      refine .tup vs _ (by simpa using h2) fun i v c hv hc => ?_
      rw [List.getElem?_map, Option.map_eq_some_iff] at hc
      obtain ⟨x, hx, rfl⟩ := hc
      exact .d ((h i v x hv hx).mono fun b hb' => ⟨ok_new hr hb hb', rfl⟩)

theorem w_call_own {α : Type} {d id k : Nat} {e : TypeId} {l : List α} (f : α → List D) {c : Call} {fo : Operand} {xs : Array Operand} {g : FuncId} {caps ds : List D} (hs : Spec P G.A g (ds ++ caps) (.own e k (l.map f))) (hop : o.op = .call c) (hc : c.callee = .value fo) (hxs : c.args = xs) (hen : ∀ args w, (callFunc g args).run P w = .ok (.enter g args) w)
    (hg : GOn ops o m) (hdst : o.dst = some d) (hd : d < G.nt) (hf : FnIs m fo g caps) (hx : xs.toList.map (evO m) = ds.map .d) (hid : m (.b id) = .nob) :
    Valid P ops G o m ⟨gloc ops o ++ (lo fo ++ xs.toList.flatMap lo) ++ [.b id], [(.b id, .row false e k (l.map f)), (.t d, .own id k l.length)]⟩ := by
  have := v_call_own (id := id) hop hc hxs hen hg hdst hd hf hx hs hid
  rwa [List.length_map] at this

/-! ### Elements of rows of the call's own -/
theorem w_ldE {α : Type} [Inhabited α] {d T s id k off : Nat} {fz : Bool} {e : TypeId} {i : Int} {x : Operand} {X : List D} (l : List α) (f : α → List D) (hop : o.op = .load T x) (hg : GOn ops o m) (hdst : o.dst = some d) (hd : d < G.nt) (hT : AggT P T s)
    (hx : evO m x = .elp id k i.toNat off) (hi : inR i l.length = true) (hb : m (.b id) = .row fz e k (l.map f)) (hs : off + s ≤ k) (hX : ((f (rd l i)).drop off).take s = X) : Valid P ops G o m ⟨gloc ops o ++ (lo x ++ [.b id]), [(.t d, .d (.agg X))]⟩ := by
  subst hX; exact v_load_elp hop hg hdst hd hT hx hb (rd_at f hi) hs
theorem w_ldE1 {α : Type} [Inhabited α] {d T id k off : Nat} {fz : Bool} {e : TypeId} {i : Int} {x : Operand} {X : D} (l : List α) (f : α → List D) (hop : o.op = .load T x) (hg : GOn ops o m) (hdst : o.dst = some d) (hd : d < G.nt) (hT : OneT P T)
    (hx : evO m x = .elp id k i.toNat off) (hi : inR i l.length = true) (hb : m (.b id) = .row fz e k (l.map f)) (hX : (f (rd l i))[off]? = some X) : Valid P ops G o m ⟨gloc ops o ++ (lo x ++ [.b id]), [(.t d, .d X)]⟩ :=
  v_load_elp1 hop hg hdst hd hT hx hb (rd_at f hi) hX
theorem lset {α : Type} (id k : Nat) (l : List α) (i : Nat) (x : α) : V.own id k l.length = V.own id k (l.set i x).length := by rw [List.length_set]

/-! ### Cuts -/
theorem w_cutl {α : Type} {d T e k : Nat} {x y : Operand} {a : Int} {ik : IntKind} (l : List α) (f : α → List D) (hop : o.op = .slice T x (some y) none none) (hg : GOn ops o m) (hdst : o.dst = some d) (hd : d < G.nt) (hT : SliceT P T e k)
    (hx : evO m x = .d (.sl k (l.map f))) (hy : evO m y = .d (.s (.int ik a))) (h : cutOK a (l.length : Int) l.length = true) :
    Valid P ops G o m ⟨gloc ops o ++ (lo x ++ (lo? (some y) ++ lo? none)), [(.t d, .d (.sl k ((List.drop a.toNat l).map f)))]⟩ := by
  have := w_cut l f a l.length hop hg hdst hd hT hx (.inr ⟨y, ik, rfl, hy⟩) (.inl ⟨rfl, rfl⟩) h
  rwa [Int.toNat_natCast, List.take_length] at this
theorem w_cuth {α : Type} {d T e k : Nat} {x y : Operand} {b : Int} {ik : IntKind} (l : List α) (f : α → List D) (hop : o.op = .slice T x none (some y) none) (hg : GOn ops o m) (hdst : o.dst = some d) (hd : d < G.nt) (hT : SliceT P T e k)
    (hx : evO m x = .d (.sl k (l.map f))) (hy : evO m y = .d (.s (.int ik b))) (h : cutOK 0 b l.length = true) :
    Valid P ops G o m ⟨gloc ops o ++ (lo x ++ (lo? none ++ lo? (some y))), [(.t d, .d (.sl k ((List.take b.toNat l).map f)))]⟩ := by
  have := w_cut l f 0 b hop hg hdst hd hT hx (.inl ⟨rfl, rfl⟩) (.inr ⟨y, ik, rfl, hy⟩) h
  exact this
theorem w_cutlh {α : Type} {d T e k : Nat} {x y z : Operand} {a b : Int} {ik jk : IntKind} (l : List α) (f : α → List D) (hop : o.op = .slice T x (some y) (some z) none) (hg : GOn ops o m) (hdst : o.dst = some d) (hd : d < G.nt) (hT : SliceT P T e k)
    (hx : evO m x = .d (.sl k (l.map f))) (hy : evO m y = .d (.s (.int ik a))) (hz : evO m z = .d (.s (.int jk b))) (h : cutOK a b l.length = true) :
    Valid P ops G o m ⟨gloc ops o ++ (lo x ++ (lo? (some y) ++ lo? (some z))), [(.t d, .d (.sl k ((List.drop a.toNat (List.take b.toNat l)).map f)))]⟩ :=
  w_cut l f a b hop hg hdst hd hT hx (.inr ⟨y, ik, rfl, hy⟩) (.inr ⟨z, jk, rfl, hz⟩) h

/-! ### Is it nil? -/
theorem sq_nileq {r : List Oper} {K : St → Prop} {d k : Nat} {T T' : TypeId} {x : Operand} {es : List (List D)} (hop : o.op = .binOp .eql T x (.const (.slice none 0 0)) T') (hg : GOn ops o m) (hdst : o.dst = some d) (hd : d < G.nt) {e : TypeId} (hT : P.underlying T = some (.slice e))
    (hx : evO m x = .d (.sl k es)) (h : ∀ b : Bool, (b = true → es = []) → SQ P ops G r K (updL m [(.t d, bV b)])) : SQ P ops G (o :: r) K m := by
  intro a w hR Kc Qc hk
  obtain ⟨φ, hr⟩ := hR
  have h1 := hr.ev x
  rw [hx] at h1
  have fin : ∀ b : Bool, (b = true → es = []) → (execOp a.eval o).run P w = .ok (.value (.bool b)) w → opGo P ops Qc o Kc a w := fun b hb hrun => by
    unfold opGo
    rw [if_pos (hr.wanted hg)]
    left
    unfold Oper.wp
    rw [hrun]
    refine hk _ _ _ ⟨φ, ?_⟩ (h b hb)
    rw [hdst]
    exact hr.put d hd (.d (.s _))
  have key : ∀ (ad : Option Addr) (n c : Nat), a.eval x = .slice ad n c → (execOp a.eval o).run P w = .ok (.value (.bool ad.isNone)) w := fun ad n c hv => by
    have h2 := run_equal_slice_nil (P := P) w T e ad n c hT
    have h3 : (do eqGuard .eql T x (.const (.slice none 0 0)) (.slice ad n c) (.slice none 0 0); binOp .eql T (.slice ad n c) (.slice none 0 0) : Sem Value).run P w = .ok (.bool ad.isNone) w := by
      have e1 : (eqGuard .eql T x (.const (.slice none 0 0)) (.slice ad n c) (.slice none 0 0)).run P w = .ok () w := rfl
      have e2 : binOp .eql T (.slice ad n c) (.slice none 0 0) = (do pure (.bool (← Op.equal T (.slice ad n c) (.slice none 0 0))) : Sem Value) := rfl
      rw [Sem.run_bind, e1, Result.andThen_ok, e2, Sem.run_bind, h2]; rfl
    have e3 : a.eval (.const (.slice none 0 0)) = .slice none 0 0 := rfl
    simp only [execOp, hop, hv, e3]
    rw [Sem.run_bind, h3]; rfl
  generalize hv : a.eval x = v at h1
  cases h1 with
  | d h1 =>
    cases h1 with
    | nil => exact fin true (fun _ => rfl) (key none 0 0 hv)
    | emp => exact fin false (fun h => by cases h) (key _ _ _ hv)
    | sl => exact fin false (fun h => by cases h) (key _ _ _ hv)
end

def maxI (a b : Int) : Int := if a < b then b else a
def minI (a b : Int) : Int := if b < a then b else a
end Go.Awp
