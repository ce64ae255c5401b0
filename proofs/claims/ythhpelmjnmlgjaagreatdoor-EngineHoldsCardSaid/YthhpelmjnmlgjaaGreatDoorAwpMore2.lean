/- Steps that tell their result otherwise at once; the greater and the lesser; calls whose own row comes back, with nil among what is handed. No program in sight. -/
import Derived.Test.YthhpelmjnmlgjaaGreatDoorAwpIns2
import Derived.Laws.Small
set_option linter.unusedSimpArgs false
set_option linter.unusedVariables false
namespace Go.Awp
open Go.RowKit

section
variable {P : Program} {ops : Array Oper} {G : Call0} {o : Oper} {m : St}

/-- A step, and what is told of it otherwise. -/
theorem valid_wk {e e' : Eff} (h : Valid P ops G o m e) (hrd : e.rd = e'.rd) (hw : ∀ m' : St, (∀ l ∈ e.rd, m' l = m l) → Wk G (updL m' e.wr) (updL m' e'.wr)) : Valid P ops G o m e' := by
  intro m' hm a w hr K Q hK
  exact h m' (fun l hl => hm l (by rw [← hrd]; exact hl)) a w hr K Q fun a' w' h1 => hK a' w' (hw m' (fun l hl => hm l (by rw [← hrd]; exact hl)) a' w' h1)

theorem nbt (t : Nat) : ∀ i, Loc.t t ≠ .b i := fun i => by simp

theorem w_app_d {α : Type} {d T e k bytes id : Nat} {x y : Operand} {Y : V} {ls : List Loc} {c : Call} (id' : Nat) (l l2 : List α) (f : α → List D) (hop : o.op = .call c) (hc : c = { callee := .builtin .append, args := #[x, y], argTypes := #[T, T] }) (hg : GOn ops o m) (hdst : o.dst = some d) (hd : d < G.nt)
    (hT : SliceT P T e k) (hE : ElemT P e k bytes) (hf : EncT f k) (hx : evO m x = .own id k l.length) (hb : m (.b id) = .row false e k (l.map f)) (hy : evO m y = Y) (hs : SrcL m k f l2 Y ls) (hid : m (.b id') = .nob) (hok : appOK bytes l.length l2.length = true) :
    Valid P ops G o m ⟨gloc ops o ++ (lo x ++ (lo y ++ (.b id :: .b id' :: ls))), [(.b id, .spent), (.b id', .row true e k ((l ++ l2).map f)), (.t d, .d (.sl k ((l ++ l2).map f)))]⟩ := by
  refine valid_wk (w_app id' l l2 f hop hc hg hdst hd hT hE hf hx hb hy hs hid hok) rfl fun m' hm => ?_
  let F := (l ++ l2).map f
  let m1 := upd (upd (upd m' (.b id) .spent) (.b id') (.row false e k F)) (.t d) (.own id' k (l ++ l2).length)
  have e1 : m1 (.b id') = .row false e k F := (upd_ne _ _ (by simp)).trans (upd_self _ _ _)
  have w1 : Wk G m1 (upd m1 (.b id') (.row true e k F)) := wk_still_row id' k e F e1
  have e2 : upd m1 (.b id') (.row true e k F) (.t d) = .own id' k (l ++ l2).length := (upd_ne _ _ (by simp)).trans (upd_self _ _ _)
  have w2 : Wk G (upd m1 (.b id') (.row true e k F)) (upd (upd m1 (.b id') (.row true e k F)) (.t d) (.d (.sl k F))) := wk_row (.t d) (nbt d) id' k _ e F e2 (upd_self _ _ _) (by simp [F])
  have e3 : upd (upd m1 (.b id') (.row true e k F)) (.t d) (.d (.sl k F)) = upd (upd (upd m' (.b id) .spent) (.b id') (.row true e k F)) (.t d) (.d (.sl k F)) := by
    funext z
    by_cases h1 : z = .t d
    · subst h1; rw [upd_self, upd_self]
    · rw [upd_ne _ _ h1, upd_ne _ _ h1]
      by_cases h2 : z = .b id'
      · subst h2; rw [upd_self, upd_self]
      · rw [upd_ne _ _ h2]; show upd (upd (upd m' (.b id) .spent) (.b id') (.row false e k F)) (.t d) _ z = _; rw [upd_ne _ _ h1, upd_ne _ _ h2, upd_ne _ _ h2]
  rw [e3] at w2
  exact w1.trans w2

/-- A box that holds a nil slice, as data. -/
theorem v_box_nil {d T k : Nat} {x : Operand} (hop : o.op = .box T x) (hg : GOn ops o m) (hdst : o.dst = some d) (hd : d < G.nt) (hx : evO m x = .d (.s (.slice none 0 0))) : Valid P ops G o m ⟨gloc ops o ++ lo x, [(.t d, .d (.dp [.sl k []]))]⟩ :=
  valid_of hg (fun l hl => by simp [hl]) fun m' hm φ a w hr => by
    have hx' := hr.s (x := x) (fun l hl => hm l (by simp [hl])) hx
    refine ⟨.pointer (some ⟨w.heap.size, 0, none⟩), w.alloc (.cells (a.eval x).cells T), by simp [execOp, hop, Instr.box, newVar, newRow], φ, ?_⟩
    rw [hdst]
    refine (hr.grow (below_alloc1 w _)).put d hd (.d (.dp w.heap.size 0 [.sl k []] (fun _ => .slice none 0 0) (ok_at hr _) (fun j c hj => ?_) fun j c hj => ?_))
    · have hj0 : j = 0 := by have := (List.getElem?_eq_some_iff.1 hj).1; simpa using this
      subst hj0
      rw [cell_of (heap_alloc_at _ _), hx']; rfl
    · match j with
      | 0 => simp at hj; subst hj; exact .nil k
      | j + 1 => simp at hj

theorem r_max {ts : Array TypeId} {t : TypeId} {k : IntKind} {x y z : Int} {D : TypeDesc} {T : TypeId} (_hT : P.underlying T = some D) (h : maxI x y = z) : ∀ (cs : Array Bool) w, (builtin .max ts t cs #[.int k x, .int k y]).run P w = .ok (.value (.int k z)) w := fun cs w => by
  show (do pure (Next.value (← Builtin.max_ ts t #[.int k x, .int k y]))).run P w = _
  rw [Sem.run_bind, run_max_int2, ← h]
  simp only [maxI, gt_iff_lt]
  rfl
theorem r_min {ts : Array TypeId} {t : TypeId} {k : IntKind} {x y z : Int} {D : TypeDesc} {T : TypeId} (_hT : P.underlying T = some D) (h : minI x y = z) : ∀ (cs : Array Bool) w, (builtin .min ts t cs #[.int k x, .int k y]).run P w = .ok (.value (.int k z)) w := fun cs w => by
  show (do pure (Next.value (← Builtin.min_ ts t #[.int k x, .int k y]))).run P w = _
  rw [Sem.run_bind, run_min_int2, ← h]
  rfl

theorem v_call_own2 {d id k : Nat} {e : TypeId} {es : List (List D)} {c : Call} {fo : Operand} {xs : Array Operand} {g : FuncId} {caps ds : List D} (hop : o.op = .call c) (hc : c.callee = .value fo) (hxs : c.args = xs) (hen : ∀ args w, (callFunc g args).run P w = .ok (.enter g args) w)
    (hg : GOn ops o m) (hdst : o.dst = some d) (hd : d < G.nt) (hf : FnIs m fo g caps) (hx : TDs (xs.toList.map (evO m)) ds) (hs : Spec P G.A g (ds ++ caps) (.own e k es)) (hid : m (.b id) = .nob) :
    Valid P ops G o m ⟨gloc ops o ++ (lo fo ++ xs.toList.flatMap lo) ++ [.b id], [(.b id, .row false e k es), (.t d, .own id k es.length)]⟩ :=
  valid_call2 hop hc hxs hen hg (fun l hl => by simp only [List.mem_append] at hl ⊢; exact .inl hl) hf hx hs fun m' hm φ a w w' v hr hb hret => by
    rw [hdst]
    have hid' : m' (.b id) = .nob := by rw [hm _ (by simp)]; exact hid
    cases hret with
    | nil =>
      -- a nil row
      have hφid : φ id = none := by have := hr.blk id; unfold BlkOK at this; rw [hid'] at this; exact this
      have hφx : ∀ i x, φ i = some x → updPhi φ id none i = some x := fun i x hi => by
        rw [updPhi_ne _ _ (fun e => by subst e; rw [hφid] at hi; cases hi)]; exact hi
      have hr2 := hr.grow hb
      have hlv : ∀ i, i ≠ id → upd m' (.b id) (.row false e k []) (.b i) = m' (.b i) := fun i hi => upd_b_b _ _ hi
      have hok : ∀ b, okOf G φ m' w' b → okOf G (updPhi φ id none) (upd m' (.b id) (.row false e k [])) w' b ∧ w'.heap[b]? = w'.heap[b]? := fun b ⟨h1, h2, h3⟩ => ⟨⟨h1, h2, fun i c hi => by
        by_cases ei : i = id
        · subst ei; rw [updPhi_self] at hi; cases hi
        · rw [updPhi_ne _ _ ei] at hi; rw [hlv i ei]; exact h3 i c hi⟩, rfl⟩
      have : RR G (updPhi φ id none) (upd m' (.b id) (.row false e k [])) a w' := by
        refine ⟨hr2.below, hr2.nodef, hr2.size, fun t => by rw [upd_b_t]; exact (hr2.slots t).mono hφx hok, fun i b c hi => ?_, fun i j b c c' hi hj hl hij => ?_, fun i => ?_⟩
        · by_cases ei : i = id
          · subst ei; rw [updPhi_self] at hi; cases hi
          · rw [updPhi_ne _ _ ei] at hi; exact hr2.lt i b c hi
        · by_cases ei : i = id
          · subst ei; rw [updPhi_self] at hi; cases hi
          · by_cases ej : j = id
            · subst ej; rw [updPhi_self] at hj; cases hj
            · rw [updPhi_ne _ _ ei] at hi; rw [updPhi_ne _ _ ej] at hj
              rw [hlv i ei] at hl; rw [hlv j ej]; exact hr2.inj i j b c c' hi hj hl hij
        · by_cases ei : i = id
          · subst ei; unfold BlkOK; rw [upd_self]; exact .inl ⟨updPhi_self _ _ _, rfl⟩
          · exact blk_keep (updPhi_ne _ _ ei) hφx hok (hlv i ei) (fun j => upd_b_c _ _ _ _ _) (fun b c hi => rfl) (hr2.blk i)
      exact ⟨_, this.put d hd (.nil id k (updPhi_self _ _ _))⟩
    | own h1 h2 h3 h4 h5 h =>
      have := hr.adopt hb id _ _ k hid' h1 h2 h3 h4 h5 h
      exact ⟨_, this.put d hd (.own id k _ _ _ (updPhi_self _ _ _) h4)⟩


theorem w_call_own2 {α : Type} {d id k : Nat} {e : TypeId} {l : List α} (f : α → List D) {c : Call} {fo : Operand} {xs : Array Operand} {g : FuncId} {caps ds : List D} (hs : Spec P G.A g (ds ++ caps) (.own e k (l.map f))) (hop : o.op = .call c) (hc : c.callee = .value fo) (hxs : c.args = xs) (hen : ∀ args w, (callFunc g args).run P w = .ok (.enter g args) w)
    (hg : GOn ops o m) (hdst : o.dst = some d) (hd : d < G.nt) (hf : FnIs m fo g caps) (hx : TDs (xs.toList.map (evO m)) ds) (hid : m (.b id) = .nob) :
    Valid P ops G o m ⟨gloc ops o ++ (lo fo ++ xs.toList.flatMap lo) ++ [.b id], [(.b id, .row false e k (l.map f)), (.t d, .own id k l.length)]⟩ := by
  have := v_call_own2 (id := id) hop hc hxs hen hg hdst hd hf hx hs hid
  rwa [List.length_map] at this
end
end Go.Awp
