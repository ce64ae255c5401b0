/- slices.Insert and slices.Delete at this program's types: their roads, walked, and their contracts. -/
import Derived.Test.YthhpelmjnmlgjaaGreatDoorProg
import Derived.Test.YthhpelmjnmlgjaaGreatDoorAwpIns2
import Derived.Shelf.RegionOpenPlain
import Derived.WalkKit
import Derived.Lib.Walk
import Derived.Lib.SliceRun
import Derived.Lib.JoinLaws
import Derived.Laws.Externs
import Derived.Laws.IdiomCopy
set_option linter.unusedVariables false
set_option linter.unusedSimpArgs false
namespace Go.Proofs.Gd
open Go Go.RowKit Go.Lib Go.Proofs Go.Awp

theorem wpl_copy {P : Program} (w : World) {ops : Array Oper} {rest : List Oper} {o : Oper} {a : Act} {Q : Exit → Act → World → Prop} (hgd : o.guard = none) (d s : Operand) (t t' : TypeId)
    (ho : o.op = .call { callee := .builtin .copy, args := #[d, s], argTypes := #[t, t'] }) (v u : Value) (hd : a.eval d = v) (hs : a.eval s = u) {v' : Value} {w' : World}
    (hr : (Builtin.copy_ #[t, t'] o.type #[v, u]).run P w = .ok v' w') (h : wpList P ops Q rest (a.put o.dst v') w') : wpList P ops Q (o :: rest) a w :=
  wpList_plain hgd fun _ hK => by
    unfold Oper.wp execOp
    simp only [ho, resolve, invoke, builtin, Sem.run_bind, Sem.run_pure, Result.andThen_ok, List.map_toArray, List.map_cons, List.map_nil, hd, hs, hr]
    exact hK _ _ h
theorem stp_copy {P : Program} {ops : Array Oper} {o : Oper} {a : Act} {w : World} {K : Act → World → Prop} {Q : Exit → Act → World → Prop} {E : Prop}
    (hg : o.guard = none) (d x : Operand) (dT sT : TypeId) (hop : o.op = Op.call { callee := Callee.builtin Builtin.copy, args := #[d, x], argTypes := #[dT, sT] })
    (v u : Value) (hd : a.eval d = v) (hx : a.eval x = u) {v' : Value} {w' : World} (hr : (Builtin.copy_ #[dT, sT] o.type #[v, u]).run P w = .ok v' w') (hK : K (a.put o.dst v') w') :
    if Region.wanted o (yielded ops a.tmps) = true then Oper.wp P o a w K Q else E := by
  have hw : Region.wanted o (yielded ops a.tmps) = true := by simp [Region.wanted, hg]
  rw [if_pos hw]
  unfold Oper.wp
  simp [execOp, hop, resolve, invoke, builtin, hd, hx, hr, Result.andThen]
  exact hK
theorem wpl_append {P : Program} (w : World) {ops : Array Oper} {rest : List Oper} {o : Oper} {a : Act} {Q : Exit → Act → World → Prop} (hgd : o.guard = none) (d s : Operand) (t t' : TypeId)
    (ho : o.op = .call { callee := .builtin .append, args := #[d, s], argTypes := #[t, t'] }) (v u : Value) (hd : a.eval d = v) (hs : a.eval s = u) {v' : Value} {w' : World}
    (hr : (Builtin.append_ #[t, t'] o.type #[v, u]).run P w = .ok v' w') (h : wpList P ops Q rest (a.put o.dst v') w') : wpList P ops Q (o :: rest) a w :=
  wpList_plain hgd fun _ hK => by
    unfold Oper.wp execOp
    simp only [ho, resolve, invoke, builtin, Sem.run_bind, Sem.run_pure, Result.andThen_ok, List.map_toArray, List.map_cons, List.map_nil, hd, hs, hr]
    exact hK _ _ h
theorem stp_append {P : Program} {ops : Array Oper} {o : Oper} {a : Act} {w : World} {K : Act → World → Prop} {Q : Exit → Act → World → Prop} {E : Prop}
    (hg : o.guard = none) (d x : Operand) (dT sT : TypeId) (hop : o.op = Op.call { callee := Callee.builtin Builtin.append, args := #[d, x], argTypes := #[dT, sT] })
    (v u : Value) (hd : a.eval d = v) (hx : a.eval x = u) {v' : Value} {w' : World} (hr : (Builtin.append_ #[dT, sT] o.type #[v, u]).run P w = .ok v' w') (hK : K (a.put o.dst v') w') :
    if Region.wanted o (yielded ops a.tmps) = true then Oper.wp P o a w K Q else E := by
  have hw : Region.wanted o (yielded ops a.tmps) = true := by simp [Region.wanted, hg]
  rw [if_pos hw]
  unfold Oper.wp
  simp [execOp, hop, resolve, invoke, builtin, hd, hx, hr, Result.andThen]
  exact hK
theorem wpl_clear {P : Program} (w : World) {ops : Array Oper} {rest : List Oper} {o : Oper} {a : Act} {Q : Exit → Act → World → Prop} (hgd : o.guard = none) (d : Operand) (t : TypeId)
    (ho : o.op = .call { callee := .builtin .clear, args := #[d], argTypes := #[t] }) (v : Value) (hd : a.eval d = v) {v' : Value} {w' : World}
    (hr : (Builtin.clear_ #[t] o.type #[v]).run P w = .ok v' w') (h : wpList P ops Q rest (a.put o.dst v') w') : wpList P ops Q (o :: rest) a w :=
  wpList_plain hgd fun _ hK => by
    unfold Oper.wp execOp
    simp only [ho, resolve, invoke, builtin, Sem.run_bind, Sem.run_pure, Result.andThen_ok, List.map_toArray, List.map_cons, List.map_nil, hd, hr]
    exact hK _ _ h
theorem mixedI : Tryz.prog.follows .mixedOrders = true := by kernel_rfl

set_option maxHeartbeats 4000000 in
set_option maxRecDepth 100000 in
theorem insW143 : InsW Tryz.prog 143 167 22 45 17 where
  shift := by
    intro b n cap i vb vc w W1 W2 hi hroom hcap hov hcp1 hcp2
    have mixed := mixedI
    have hw1 : IntKind.i64.wrap ((i : Int) + 1) = (i : Int) + 1 := by rw [IntKind.wrap_i64]; omega
    have hw2 : IntKind.i64.wrap ((n : Int) + 1) = (n : Int) + 1 := by rw [IntKind.wrap_i64]; omega
    have hz2 : ¬ ((i : Int) = (n : Int)) := by omega
    have hb1 : (0 : Int) ≤ (i : Int) + 1 := by omega
    have htn : ((i : Int) + 1).toNat = i + 1 := by omega
    have htn2 : ((n : Int) + 1).toNat = n + 1 := by omega
    have hb2 : ¬ (cap = i + 1) := by omega
    have hb3 : (i : Int) ≤ (n : Int) + 1 := by omega
    have hb4 : ¬ (cap = i) := by omega
    have hin : i ≤ n := by omega
    have hc1 : ¬ ((n : Int) + 1 > (cap : Int)) := by omega
    go_enter Tryz.func143, Tryz.ntmps143
    go_wp2_with (simp only [hov])
    go_region_law_o (refine stp_copy rfl _ _ 22 22 rfl _ _ (by simp [Act.eval, Act.put]) (by simp [Act.eval, Act.put]) (hcp1 _ _ _) ?_)
    go_wp2_with (at_builtin; refine wpl_copy _ rfl _ _ 22 22 rfl _ _ rfl rfl (hcp2 _ _) ?_)
    go_ret
    exact ⟨rfl, rfl⟩
  atEnd := by
    intro base n cap vb vc w w1 v' hn hcap happ
    have mixed := mixedI
    go_enter Tryz.func143, Tryz.ntmps143
    go_wp2_with (at_builtin; refine wpl_append _ rfl _ _ 22 22 rfl _ _ rfl rfl (happ _) ?_)
    all_goals (go_ret; exact ⟨rfl, rfl⟩)
  grow := by
    intro b n cap i vb vc g cap2 w w1 w2 w3 hi hn hroom hcap hcap2 happ hcp1 hcp2
    have mixed := mixedI
    have hw1 : IntKind.i64.wrap ((i : Int) + 1) = (i : Int) + 1 := by rw [IntKind.wrap_i64]; omega
    have hw2 : IntKind.i64.wrap ((n : Int) + 1) = (n : Int) + 1 := by rw [IntKind.wrap_i64]; omega
    have hw3 : IntKind.i64.wrap ((n : Int) + 1 - (i : Int)) = (n : Int) + 1 - (i : Int) := by rw [IntKind.wrap_i64]; omega
    have hz2 : ¬ ((i : Int) = (n : Int)) := by omega
    have hb1 : (0 : Int) ≤ (i : Int) + 1 := by omega
    have htn : ((i : Int) + 1).toNat = i + 1 := by omega
    have hb2 : ¬ (cap = i) := by omega
    have hb3 : (i : Int) ≤ (n : Int) + 1 := by omega
    have hb5 : ¬ (cap2 = i) := by omega
    have hb6 : ¬ (cap2 = i + 1) := by omega
    have hin : i ≤ n := by omega
    have hic : i ≤ cap := by omega
    have hin1 : i ≤ n + 1 := by omega
    have hc1 : (n : Int) + 1 > (cap : Int) := by omega
    go_enter Tryz.func143, Tryz.ntmps143
    go_wp2_with (at_builtin; refine wpl_append _ rfl _ _ 22 3 rfl _ _ rfl rfl (happ _) ?_)
    go_wp2_with (at_builtin; refine wpl_copy _ rfl _ _ 22 22 rfl _ _ rfl rfl (hcp1 _ _) ?_)
    go_region_law_o (refine stp_copy rfl _ _ 22 22 rfl _ _ (by simp [Act.eval, Act.put]) (by simp [Act.eval, Act.put]) (hcp2 _ _ _) ?_)
    go_wp2
    go_ret
    exact ⟨rfl, rfl⟩
theorem insS143 : InsSpec Tryz.prog 143 45 17 184 :=
  insSpec insW143 Tryz.underlying22 (ElemT.mk' (z := (.agg #[.int .i64 0, .int .i64 0, .string ⟨#[]⟩, .string ⟨#[]⟩, .int .i64 0, .slice none 0 0, .int .i64 0, .int .i64 0, .int .i64 0, .int .i64 0, .int .i64 0, .int .i64 0, .slice none 0 0, .int .i64 0, .int .i64 0, .int .i64 0, .int .i64 0])) (by kernel_rfl) (by kernel_rfl) (by decide)) Tryz.underlying3 fun w a b la ca lb cb hne tA tB kA kB h1 h2 h3 h4 h5 => by
    rw [run_callFunc_extern Tryz.func167 (by kernel_rfl) (by kernel_rfl) (by kernel_rfl) (by kernel_rfl)]
    rw [Go.Lib.run_overlaps_apart w 22 4 45 Tryz.underlying22 17 Tryz.sizeOf45 a b la ca lb cb hne tA tB kA kB h1 h2 h3 h4 h5]
    rfl

set_option maxHeartbeats 4000000 in
set_option maxRecDepth 100000 in
theorem delW147 : DelW Tryz.prog 147 22 17 where
  del := by
    intro b n cap i v0 w w1 w2 hi hn hcap happ hclr
    have mixed := mixedI
    have hb1 : (0 : Int) ≤ (i : Int) + 1 := by omega
    have htn : ((i : Int) + 1).toNat = i + 1 := by omega
    have hz : ¬ ((i : Int) = (i : Int) + 1) := by omega
    have h1 : (i : Int) + 1 ≤ (n : Int) := by omega
    have h1' : (i : Int) + 1 ≤ (cap : Int) := by omega
    have h2 : i + 1 ≤ n := hi
    have h3 : i ≤ cap := by omega
    have h4 : i ≤ i + 1 := by omega
    have h5 : n - 1 ≤ n := by omega
    have h6 : ¬ (cap = n - 1) := by omega
    have h7 : n - (n - 1) = 1 := by omega
    have h8 : i ≤ n := by omega
    have hnn : ¬ (n = i) := by omega
    go_enter Tryz.func147, Tryz.ntmps147
    go_wp2
    by_cases hc : cap = i + 1
    · have hi1 : (i : Int) ≤ (i : Int) + 1 := by omega
      subst hc
      go_region_law_o (refine stp_append rfl _ _ 22 22 rfl _ _ (by simp [Act.eval, Act.put]) (by simp [Act.eval, Act.put] <;> omega) (happ _ ⟨b, 0, none⟩ 0 (.inl rfl)) ?_)
      go_wp2_with (at_builtin; refine wpl_clear _ rfl _ 22 rfl _ rfl (hclr _ _) ?_)
      go_ret
      exact ⟨rfl, rfl⟩
    · go_region_law_o (refine stp_append rfl _ _ 22 22 rfl _ _ (by simp [Act.eval, Act.put]) (by simp [Act.eval, Act.put]) (happ _ ⟨b, (i + 1) * 17, none⟩ (cap - (i + 1)) (.inr rfl)) ?_)
      go_wp2_with (at_builtin; refine wpl_clear _ rfl _ 22 rfl _ rfl (hclr _ _) ?_)
      go_ret
      exact ⟨rfl, rfl⟩
theorem delS147 : DelSpec Tryz.prog 147 45 17 :=
  delSpec (z := (.agg #[.int .i64 0, .int .i64 0, .string ⟨#[]⟩, .string ⟨#[]⟩, .int .i64 0, .slice none 0 0, .int .i64 0, .int .i64 0, .int .i64 0, .int .i64 0, .int .i64 0, .int .i64 0, .slice none 0 0, .int .i64 0, .int .i64 0, .int .i64 0, .int .i64 0])) delW147 Tryz.underlying22 (ElemT.mk' (z := (.agg #[.int .i64 0, .int .i64 0, .string ⟨#[]⟩, .string ⟨#[]⟩, .int .i64 0, .slice none 0 0, .int .i64 0, .int .i64 0, .int .i64 0, .int .i64 0, .int .i64 0, .int .i64 0, .slice none 0 0, .int .i64 0, .int .i64 0, .int .i64 0, .int .i64 0])) (bytes := 184) (by kernel_rfl) (by kernel_rfl) (by decide)) Tryz.zeroValue45 (by kernel_rfl) (by intro u hu; revert hu u; decide)

set_option maxHeartbeats 4000000 in
set_option maxRecDepth 100000 in
theorem insW159 : InsW Tryz.prog 159 177 42 116 2 where
  shift := by
    intro b n cap i vb vc w W1 W2 hi hroom hcap hov hcp1 hcp2
    have mixed := mixedI
    have hw1 : IntKind.i64.wrap ((i : Int) + 1) = (i : Int) + 1 := by rw [IntKind.wrap_i64]; omega
    have hw2 : IntKind.i64.wrap ((n : Int) + 1) = (n : Int) + 1 := by rw [IntKind.wrap_i64]; omega
    have hz2 : ¬ ((i : Int) = (n : Int)) := by omega
    have hb1 : (0 : Int) ≤ (i : Int) + 1 := by omega
    have htn : ((i : Int) + 1).toNat = i + 1 := by omega
    have htn2 : ((n : Int) + 1).toNat = n + 1 := by omega
    have hb2 : ¬ (cap = i + 1) := by omega
    have hb3 : (i : Int) ≤ (n : Int) + 1 := by omega
    have hb4 : ¬ (cap = i) := by omega
    have hin : i ≤ n := by omega
    have hc1 : ¬ ((n : Int) + 1 > (cap : Int)) := by omega
    go_enter Tryz.func159, Tryz.ntmps159
    go_wp2_with (simp only [hov])
    go_region_law_o (refine stp_copy rfl _ _ 42 42 rfl _ _ (by simp [Act.eval, Act.put]) (by simp [Act.eval, Act.put]) (hcp1 _ _ _) ?_)
    go_wp2_with (at_builtin; refine wpl_copy _ rfl _ _ 42 42 rfl _ _ rfl rfl (hcp2 _ _) ?_)
    go_ret
    exact ⟨rfl, rfl⟩
  atEnd := by
    intro base n cap vb vc w w1 v' hn hcap happ
    have mixed := mixedI
    go_enter Tryz.func159, Tryz.ntmps159
    go_wp2_with (at_builtin; refine wpl_append _ rfl _ _ 42 42 rfl _ _ rfl rfl (happ _) ?_)
    all_goals (go_ret; exact ⟨rfl, rfl⟩)
  grow := by
    intro b n cap i vb vc g cap2 w w1 w2 w3 hi hn hroom hcap hcap2 happ hcp1 hcp2
    have mixed := mixedI
    have hw1 : IntKind.i64.wrap ((i : Int) + 1) = (i : Int) + 1 := by rw [IntKind.wrap_i64]; omega
    have hw2 : IntKind.i64.wrap ((n : Int) + 1) = (n : Int) + 1 := by rw [IntKind.wrap_i64]; omega
    have hw3 : IntKind.i64.wrap ((n : Int) + 1 - (i : Int)) = (n : Int) + 1 - (i : Int) := by rw [IntKind.wrap_i64]; omega
    have hz2 : ¬ ((i : Int) = (n : Int)) := by omega
    have hb1 : (0 : Int) ≤ (i : Int) + 1 := by omega
    have htn : ((i : Int) + 1).toNat = i + 1 := by omega
    have hb2 : ¬ (cap = i) := by omega
    have hb3 : (i : Int) ≤ (n : Int) + 1 := by omega
    have hb5 : ¬ (cap2 = i) := by omega
    have hb6 : ¬ (cap2 = i + 1) := by omega
    have hin : i ≤ n := by omega
    have hic : i ≤ cap := by omega
    have hin1 : i ≤ n + 1 := by omega
    have hc1 : (n : Int) + 1 > (cap : Int) := by omega
    go_enter Tryz.func159, Tryz.ntmps159
    go_wp2_with (at_builtin; refine wpl_append _ rfl _ _ 42 3 rfl _ _ rfl rfl (happ _) ?_)
    go_wp2_with (at_builtin; refine wpl_copy _ rfl _ _ 42 42 rfl _ _ rfl rfl (hcp1 _ _) ?_)
    go_region_law_o (refine stp_copy rfl _ _ 42 42 rfl _ _ (by simp [Act.eval, Act.put]) (by simp [Act.eval, Act.put]) (hcp2 _ _ _) ?_)
    go_wp2
    go_ret
    exact ⟨rfl, rfl⟩
theorem insS159 : InsSpec Tryz.prog 159 116 2 40 :=
  insSpec insW159 Tryz.underlying42 (ElemT.mk' (z := (.agg #[.string ⟨#[]⟩, .slice none 0 0])) (by kernel_rfl) (by kernel_rfl) (by decide)) Tryz.underlying3 fun w a b la ca lb cb hne tA tB kA kB h1 h2 h3 h4 h5 => by
    rw [run_callFunc_extern Tryz.func177 (by kernel_rfl) (by kernel_rfl) (by kernel_rfl) (by kernel_rfl)]
    rw [Go.Lib.run_overlaps_apart w 42 4 116 Tryz.underlying42 2 Tryz.sizeOf116 a b la ca lb cb hne tA tB kA kB h1 h2 h3 h4 h5]
    rfl

set_option maxHeartbeats 4000000 in
set_option maxRecDepth 100000 in
theorem insW161 : InsW Tryz.prog 161 179 43 100 11 where
  shift := by
    intro b n cap i vb vc w W1 W2 hi hroom hcap hov hcp1 hcp2
    have mixed := mixedI
    have hw1 : IntKind.i64.wrap ((i : Int) + 1) = (i : Int) + 1 := by rw [IntKind.wrap_i64]; omega
    have hw2 : IntKind.i64.wrap ((n : Int) + 1) = (n : Int) + 1 := by rw [IntKind.wrap_i64]; omega
    have hz2 : ¬ ((i : Int) = (n : Int)) := by omega
    have hb1 : (0 : Int) ≤ (i : Int) + 1 := by omega
    have htn : ((i : Int) + 1).toNat = i + 1 := by omega
    have htn2 : ((n : Int) + 1).toNat = n + 1 := by omega
    have hb2 : ¬ (cap = i + 1) := by omega
    have hb3 : (i : Int) ≤ (n : Int) + 1 := by omega
    have hb4 : ¬ (cap = i) := by omega
    have hin : i ≤ n := by omega
    have hc1 : ¬ ((n : Int) + 1 > (cap : Int)) := by omega
    go_enter Tryz.func161, Tryz.ntmps161
    go_wp2_with (simp only [hov])
    go_region_law_o (refine stp_copy rfl _ _ 43 43 rfl _ _ (by simp [Act.eval, Act.put]) (by simp [Act.eval, Act.put]) (hcp1 _ _ _) ?_)
    go_wp2_with (at_builtin; refine wpl_copy _ rfl _ _ 43 43 rfl _ _ rfl rfl (hcp2 _ _) ?_)
    go_ret
    exact ⟨rfl, rfl⟩
  atEnd := by
    intro base n cap vb vc w w1 v' hn hcap happ
    have mixed := mixedI
    go_enter Tryz.func161, Tryz.ntmps161
    go_wp2_with (at_builtin; refine wpl_append _ rfl _ _ 43 43 rfl _ _ rfl rfl (happ _) ?_)
    all_goals (go_ret; exact ⟨rfl, rfl⟩)
  grow := by
    intro b n cap i vb vc g cap2 w w1 w2 w3 hi hn hroom hcap hcap2 happ hcp1 hcp2
    have mixed := mixedI
    have hw1 : IntKind.i64.wrap ((i : Int) + 1) = (i : Int) + 1 := by rw [IntKind.wrap_i64]; omega
    have hw2 : IntKind.i64.wrap ((n : Int) + 1) = (n : Int) + 1 := by rw [IntKind.wrap_i64]; omega
    have hw3 : IntKind.i64.wrap ((n : Int) + 1 - (i : Int)) = (n : Int) + 1 - (i : Int) := by rw [IntKind.wrap_i64]; omega
    have hz2 : ¬ ((i : Int) = (n : Int)) := by omega
    have hb1 : (0 : Int) ≤ (i : Int) + 1 := by omega
    have htn : ((i : Int) + 1).toNat = i + 1 := by omega
    have hb2 : ¬ (cap = i) := by omega
    have hb3 : (i : Int) ≤ (n : Int) + 1 := by omega
    have hb5 : ¬ (cap2 = i) := by omega
    have hb6 : ¬ (cap2 = i + 1) := by omega
    have hin : i ≤ n := by omega
    have hic : i ≤ cap := by omega
    have hin1 : i ≤ n + 1 := by omega
    have hc1 : (n : Int) + 1 > (cap : Int) := by omega
    go_enter Tryz.func161, Tryz.ntmps161
    go_wp2_with (at_builtin; refine wpl_append _ rfl _ _ 43 3 rfl _ _ rfl rfl (happ _) ?_)
    go_wp2_with (at_builtin; refine wpl_copy _ rfl _ _ 43 43 rfl _ _ rfl rfl (hcp1 _ _) ?_)
    go_region_law_o (refine stp_copy rfl _ _ 43 43 rfl _ _ (by simp [Act.eval, Act.put]) (by simp [Act.eval, Act.put]) (hcp2 _ _ _) ?_)
    go_wp2
    go_ret
    exact ⟨rfl, rfl⟩
theorem insS161 : InsSpec Tryz.prog 161 100 11 120 :=
  insSpec insW161 Tryz.underlying43 (ElemT.mk' (z := (.agg #[.int .i64 0, .int .i64 0, .int .i64 0, .int .i64 0, .int .i64 0, .int .i64 0, .bool false, .string ⟨#[]⟩, .slice none 0 0, .string ⟨#[]⟩, .bool false])) (by kernel_rfl) (by kernel_rfl) (by decide)) Tryz.underlying3 fun w a b la ca lb cb hne tA tB kA kB h1 h2 h3 h4 h5 => by
    rw [run_callFunc_extern Tryz.func179 (by kernel_rfl) (by kernel_rfl) (by kernel_rfl) (by kernel_rfl)]
    rw [Go.Lib.run_overlaps_apart w 43 4 100 Tryz.underlying43 11 Tryz.sizeOf100 a b la ca lb cb hne tA tB kA kB h1 h2 h3 h4 h5]
    rfl
end Go.Proofs.Gd
