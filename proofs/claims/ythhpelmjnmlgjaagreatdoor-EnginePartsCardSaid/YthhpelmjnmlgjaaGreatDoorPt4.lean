/- Lemmas behind GdPtP, part 4: they hold as they stand, without a condition beyond their own. -/
import Derived.Test.YthhpelmjnmlgjaaGreatDoorPt3
set_option linter.unusedVariables false
set_option maxRecDepth 100000
set_option maxHeartbeats 4000000
namespace Go.Proofs.Gd
open Go Go.Awp Go.Proofs
theorem s158 (k : Nat) (t0 : List Version) (t1 : Version) (r : (List Version) × Int) (h : F158 k t0 t1 = some r) : Awp.Spec Tryz.prog amb 158 [(.sl 5 (t0.map eVersion)), (.agg (eVersion t1))] (.ds [(.sl 5 (r.1.map eVersion)), (.s (.int .i64 r.2))]) := by
 rw [F158] at h
 refine spec_of Tryz.func158 rfl (ble _ _ rfl) fun w0 ok0 lt0 hA => ?_
 refine sr ?_
 refine sT 3 (.d (.dp (eVersion t1))) rfl (v_box_d (cs := (eVersion t1)) rfl · · · rfl rfl (ones_of rfl)) ?_
 refine sM 4 (.d (.s (.slice none 0 0))) rfl rfl ?_
 refine sM 5 (iV 0) rfl rfl ?_
 refine sq_nil ?_
 refine ht_seq ?_
 refine ht_block ?_
 refine sr ?_
 refine sM 7 (.d (.sl 5 (t0.map eVersion))) rfl rfl ?_
 obtain ⟨t8, c1, h⟩ := bpos h
 refine sC 8 (bV t8) (s136 k t0 _ c1) en136 rfl rfl rfl rfl ?_
 refine sT 9 (bV (!t8)) rfl (vu rfl rfl (u_not rfl)) ?_
 refine sM 10 (bV (!t8)) rfl rfl ?_
 refine sF 11 (.d (.agg (eVersion t1))) rfl rfl (fun e2 => (w_ldp (eVersion t1) (eVersion t1) rfl · · · ag93 rfl (ble _ _ rfl) rfl)) ?_
 obtain ⟨t12, c4, h⟩ := bpos h
 refine sF 12 (bV t12) rfl rfl (fun e3 => (vC (s166 k t1 _ (cpos (nF e3) c4)) en166 · · · rfl (cc (gv (nF e3)) rfl) rfl)) ?_
 refine sF 13 (bV (!t12)) rfl rfl (fun e5 => (vu rfl (gv (nF e5)) (u_not rfl))) ?_
 refine sT 14 (bV ((!t8) || (!t12))) rfl (vp rfl rfl (fun e6 => rfl) (fun e7 => (gv (nF e7))) (pO _ _)) ?_
 refine sM 6 (bV ((!t8) || (!t12))) rfl rfl ?_
 refine sq_nil ?_
 refine ht_cond rfl (fun e8 => ?_) (fun e8 => ?_)
 ·replace h := cpos e8 h
  refine sr ?_
  refine sM 4 (.d (.s (.slice none 0 0))) rfl rfl ?_
  refine sM 5 (iV 1) rfl rfl ?_
  refine sz ?_
  cases h
  exact retM_wk (wk_nil (.t 4) (nb 4) 5 rfl) (ret2 rfl (.tmp rfl) (.tmp rfl))
 replace h := cneg e8 h
 refine ht_seq ?_
 refine ht_region_draw mixed ?_
 refine rM 16 (.d (.sl 5 (t0.map eVersion))) rfl rfl ?_
 refine rT 17 (iV (t0.length : Int)) rfl (w_len t0 eVersion rfl rfl · · · slT96 rfl) ?_
 refine rT 18 (bV (ltI 0 (t0.length : Int))) rfl (vb rfl rfl rfl (b_gtr rfl)) ?_
 refine rM 19 (bV (ltI 0 (t0.length : Int))) rfl rfl ?_
 refine rG 20 (.d (.sl 5 (t0.map eVersion))) rfl rfl (fun e9 => (vm rfl rfl)) ?_
 refine rG 21 (.d (.sl 5 (t0.map eVersion))) rfl rfl (fun e10 => (vm rfl rfl)) ?_
 refine rG 22 (iV (t0.length : Int)) rfl rfl (fun e11 => (w_len t0 eVersion rfl rfl · · · slT96 (gv e11))) ?_
 refine rG 23 (iV (IntKind.wrap .i64 ((t0.length : Int) - 1))) rfl rfl (fun e12 => (vb rfl (gv e12) rfl (b_sub rfl))) ?_
 obtain ⟨e14, h⟩ := gpos h
 refine rG 24 (.d (.dp (eVersion (rd t0 (IntKind.wrap .i64 ((t0.length : Int) - 1)))))) rfl rfl (fun e13 => (w_idx t0 eVersion rfl · · · slT96 (gv e13) (gv e13) (orT e14 e13))) ?_
 refine rG 25 (.d (.dp (eVersion (rd t0 (IntKind.wrap .i64 ((t0.length : Int) - 1)))))) rfl rfl (fun e15 => (vD (eVersion (rd t0 (IntKind.wrap .i64 ((t0.length : Int) - 1)))) fo93_0 · · · rfl (gv e15))) ?_
 refine rG 26 (.d (.agg (eStamp (rd t0 (IntKind.wrap .i64 ((t0.length : Int) - 1))).mAt))) rfl rfl (fun e16 => (w_ldp (eVersion (rd t0 (IntKind.wrap .i64 ((t0.length : Int) - 1)))) (eStamp (rd t0 (IntKind.wrap .i64 ((t0.length : Int) - 1))).mAt) rfl · · · ag24 (gv e16) (ble _ _ rfl) rfl)) ?_
 refine rG 27 (.d (.dp (eVersion t1))) rfl rfl (fun e17 => (vD (eVersion t1) fo93_0 · · · rfl rfl)) ?_
 refine rG 28 (.d (.agg (eStamp t1.mAt))) rfl rfl (fun e18 => (w_ldp (eVersion t1) (eStamp t1.mAt) rfl · · · ag24 (gv e18) (ble _ _ rfl) rfl)) ?_
 obtain ⟨t29, c20, h⟩ := bpos h
 refine rG 29 (iV t29) rfl rfl (fun e19 => (vC (s42 k (rd t0 (IntKind.wrap .i64 ((t0.length : Int) - 1))).mAt t1.mAt _ (cpos e19 c20)) en42 · · · rfl (cc (gv e19) (cc (gv e19) rfl)) rfl)) ?_
 refine rG 30 (bV (leI 0 t29)) rfl rfl (fun e21 => (vb rfl (gv e21) rfl (b_geq rfl))) ?_
 refine rT 31 (bV ((ltI 0 (t0.length : Int)) && (leI 0 t29))) rfl (vp rfl rfl (fun e22 => (gv e22)) (fun e23 => rfl) (pA _ _)) ?_
 refine rM 15 (bV ((ltI 0 (t0.length : Int)) && (leI 0 t29))) rfl rfl ?_
 refine rg_nil ⟨by kernel_rfl, ?_⟩
 refine ht_cond rfl (fun e24 => ?_) (fun e24 => ?_)
 ·replace h := cpos e24 h
  refine sr ?_
  refine sM 4 (.d (.s (.slice none 0 0))) rfl rfl ?_
  refine sM 5 (iV 9) rfl rfl ?_
  refine sz ?_
  cases h
  exact retM_wk (wk_nil (.t 4) (nb 4) 5 rfl) (ret2 rfl (.tmp rfl) (.tmp rfl))
 replace h := cneg e24 h
 refine sr ?_
 refine sM 33 (.d (.sl 5 (t0.map eVersion))) rfl rfl ?_
 refine sT 34 (iV (t0.length : Int)) rfl (w_len t0 eVersion rfl rfl · · · slT96 rfl) ?_
 refine sT 35 (bV (eqI (t0.length : Int) 64)) rfl (vb rfl rfl rfl (b_eql rfl)) ?_
 refine sM 32 (bV (eqI (t0.length : Int) 64)) rfl rfl ?_
 refine sq_nil ?_
 refine ht_cond rfl (fun e25 => ?_) (fun e25 => ?_)
 ·replace h := cpos e25 h
  refine sr ?_
  refine sM 4 (.d (.s (.slice none 0 0))) rfl rfl ?_
  refine sM 5 (iV 6) rfl rfl ?_
  refine sz ?_
  cases h
  exact retM_wk (wk_nil (.t 4) (nb 4) 5 rfl) (ret2 rfl (.tmp rfl) (.tmp rfl))
 replace h := cneg e25 h
 refine ht_skip ?_
 refine ht_seq ?_
 refine ht_region_draw mixed ?_
 refine rM 36 (.d (.sl 5 (t0.map eVersion))) rfl rfl ?_
 obtain ⟨t37, c26, h⟩ := bpos h
 refine rg_cons ⟨_, [(.b 37, .row false 93 5 (t37.map eVersion)), (.t 37, .own 37 5 t37.length)]⟩ (w_call_own (id := 37) (ds := [(.sl 5 (t0.map eVersion))]) (caps := []) eVersion (s170o k t0 _ c26) rfl rfl rfl en170 trivial rfl (ble _ _ rfl) (.inl ⟨rfl, rfl⟩) rfl rfl) ?_
 refine rP 38 (eVersion t1) (eVersion t1) ag93 rfl rfl rfl rfl rfl ?_
 refine rg_cons ⟨_, [(.b 39, .row false 93 5 (([t1]).map eVersion)), (.t 39, .own 39 5 ([t1]).length)]⟩ (w_bsl (id := 39) [(0, .d (.agg (eVersion t1)))] [t1] eVersion rfl trivial rfl (ble _ _ rfl) slT96 zr93 teVersion (ble _ _ rfl) rfl (by kernel_rfl) rfl rfl (by kernel_rfl) (by kernel_rfl)) ?_
 obtain ⟨e27, h⟩ := gpos h
 refine rg_cons ⟨_, [(.b 37, .spent), (.b 40, .row false 93 5 ((t37 ++ [t1]).map eVersion)), (.t 40, .own 40 5 (t37 ++ [t1]).length)]⟩ (w_app 40 t37 ([t1]) eVersion rfl rfl trivial rfl (ble _ _ rfl) slT96 elT93 teVersion rfl rfl rfl (.own 39 _ _ rfl) rfl e27) ?_
 refine rM 4 (.own 40 5 (t37 ++ [t1]).length) rfl rfl ?_
 refine rM 5 (iV 0) rfl rfl ?_
 refine rg_nil ⟨by kernel_rfl, ?_⟩
 refine ht_ret ?_
 cases h
 exact retM_wk (wk_still_row 40 _ _ _ rfl) (retM_wk (wk_row (.t 4) (nb 4) 40 _ _ _ _ rfl rfl (lm _ _)) (retM_wk (wk_row (.t 40) (nb 40) 40 _ _ _ _ rfl rfl (lm _ _)) (ret2 rfl (.tmp rfl) (.tmp rfl))))
theorem s173o (k : Nat) (t0 : List Entry) (r : (List Entry)) (h : F173o k t0 = some r) : Awp.Spec Tryz.prog amb 173 [(.sl 2 (t0.map eEntry))] (.own 116 2 (r.map eEntry)) := by
 rw [F173o] at h
 refine spec_of Tryz.func173 rfl (ble _ _ rfl) fun w0 ok0 lt0 hA => ?_
 refine sr ?_
 refine sM 2 (.d (.s (.slice none 0 0))) rfl rfl ?_
 refine sq_nil ?_
 refine ht_seq ?_
 refine sr ?_
 refine sM 3 (.d (.sl 2 (t0.map eEntry))) rfl rfl ?_
 refine sq_nileq rfl trivial rfl (ble _ _ rfl) und42 rfl (fun b1 hb2 => ?_)
 refine sq_nil ?_
 refine ht_cond rfl (fun e3 => ?_) (fun e3 => ?_)
 ·obtain rfl : t0 = [] := List.map_eq_nil_iff.1 (hb2 e3)
  replace h : (some ([]) : Option (List Entry)) = some r := by (obtain ⟨_, h⟩ := gpos h; cases h; rfl)
  refine sr ?_
  refine sM 2 (.d (.s (.slice none 0 0))) rfl rfl ?_
  refine sz ?_
  cases h
  exact retM_wk (wk_nilrow (.t 2) (nb 2) 3002 116 2 rfl rfl) (ret_own rfl rfl rfl rfl)
 refine ht_skip ?_
 refine sr ?_
 refine sq_cons ⟨_, [(.b 5, .row false 116 2 (([] : List Entry).map eEntry)), (.t 5, .own 5 2 ([] : List Entry).length)]⟩ (w_bsl (id := 5) [] ([] : List Entry) eEntry rfl trivial rfl (ble _ _ rfl) slT42 zr116 teEntry (ble _ _ rfl) rfl (by kernel_rfl) rfl rfl (by kernel_rfl) (by kernel_rfl)) ?_
 refine sM 6 (.d (.sl 2 (t0.map eEntry))) rfl rfl ?_
 obtain ⟨e4, h⟩ := gpos h
 refine sq_cons ⟨_, [(.b 5, .spent), (.b 7, .row false 116 2 ((([] : List Entry) ++ t0).map eEntry)), (.t 7, .own 7 2 (([] : List Entry) ++ t0).length)]⟩ (w_app 7 ([] : List Entry) t0 eEntry rfl rfl trivial rfl (ble _ _ rfl) slT42 elT116 teEntry rfl rfl rfl (.d) rfl e4) ?_
 refine sM 2 (.own 7 2 (([] : List Entry) ++ t0).length) rfl rfl ?_
 refine sz ?_
 cases h
 exact ret_own rfl rfl rfl (lm _ _)
theorem s149 (k : Nat) (t0 : List Entry) (r : (List Entry)) (h : F149 k t0 = some r) : Awp.Spec Tryz.prog amb 149 [(.sl 2 (t0.map eEntry))] (.ds [(.sl 2 (r.map eEntry))]) := by
 rw [F149] at h
 refine spec_of Tryz.func149 rfl (ble _ _ rfl) fun w0 ok0 lt0 hA => ?_
 refine sr ?_
 refine sM 2 (.d (.s (.slice none 0 0))) rfl rfl ?_
 refine sq_nil ?_
 refine sr ?_
 refine sM 5 (.d (.sl 2 (t0.map eEntry))) rfl rfl ?_
 obtain ⟨t6, c1, h⟩ := bpos h
 refine sq_cons ⟨_, [(.b 6, .row false 116 2 (t6.map eEntry)), (.t 6, .own 6 2 t6.length)]⟩ (w_call_own (id := 6) (ds := [(.sl 2 (t0.map eEntry))]) (caps := []) eEntry (s173o k t0 _ c1) rfl rfl rfl en173 trivial rfl (ble _ _ rfl) (.inl ⟨rfl, rfl⟩) rfl rfl) ?_
 refine sM 3 (.own 6 2 t6.length) rfl rfl ?_
 refine sq_nil ?_
 refine ht_bj h (fun t3 => tell [(.b 1003, .row false 116 2 (t3.map eEntry)), (.t 3, .own 1003 2 t3.length)]) (fun t3 h => ?_) (fun v2 K3 h j5 => ?_)
 ·refine sr ?_
  refine sM 23 (.own 1003 2 t3.length) rfl rfl ?_
  refine sM 2 (.own 1003 2 t3.length) rfl rfl ?_
  refine sz ?_
  cases h
  exact retM_wk (wk_still_row 1003 _ _ _ rfl) (retM_wk (wk_row (.t 2) (nb 2) 1003 _ _ _ _ rfl rfl (lm _ _)) (retM_wk (wk_row (.t 3) (nb 3) 1003 _ _ _ _ rfl rfl (lm _ _)) (retM_wk (wk_row (.t 23) (nb 23) 1003 _ _ _ _ rfl rfl (lm _ _)) (ret1 rfl (.tmp rfl)))))
 refine sr ?_
 refine sM 7 (.own 6 2 t6.length) rfl rfl ?_
 refine sT 8 (iV (t6.length : Int)) rfl (v_len_own rfl rfl · · · und42 rfl) ?_
 refine sM 9 (iV 0) rfl rfl ?_
 refine sq_nil ?_
 refine ht_block ?_
 refine ht_rd h (fun _ => rfl) (fun (t3_1, t9) => tell [(.b 1003, .row false 116 2 (t3_1.map eEntry)), (.t 3, .own 1003 2 t3_1.length), (.t 8, iV (t6.length : Int)), (.t 9, iV t9)]) (wr (fun i => bif Nat.beq i 1003 then 6 else i) rfl rfl) fun k v9 h K14 j8 => ?_
 obtain ⟨t3_1, t9⟩ := v9
 rw [F149_l1] at h
 refine sr ?_
 refine sT 10 (bV (ltI t9 (t6.length : Int))) rfl (vb rfl rfl rfl (b_lss rfl)) ?_
 refine sq_nil ?_
 refine ht_seq ?_
 refine ht_cond rfl (fun e10 => ?_) (fun e10 => ?_)
 ·replace h := cpos e10 h
  refine ht_skip ?_
  refine ht_seq ?_
  refine ht_block ?_
  refine sr ?_
  refine sM 11 (iV t9) rfl rfl ?_
  refine sM 4 (iV t9) rfl rfl ?_
  refine sq_nil ?_
  refine ht_region ?_
  refine sM 12 (.own 1003 2 t3_1.length) rfl rfl ?_
  refine sM 13 (iV t9) rfl rfl ?_
  refine sM 14 (.own 1003 2 t3_1.length) rfl rfl ?_
  refine sM 15 (iV t9) rfl rfl ?_
  obtain ⟨e11, h⟩ := gpos h
  refine sT 16 (.elp 1003 2 t9.toNat 0) rfl (w_idx_own t3_1 rfl · · · slT42 rfl rfl e11) ?_
  refine sT 17 (.elp 1003 2 t9.toNat 1) rfl (v_field_elp (a0 := 1) rfl · · · fo116_1 rfl) ?_
  refine sT 18 (.d (.sl 5 ((rd t3_1 t9).mChain.map eVersion))) rfl (w_ldE1 t3_1 eEntry rfl · · · onT96 rfl e11 rfl rfl) ?_
  obtain ⟨t19, c12, h⟩ := bpos h
  refine sC 19 (.d (.sl 5 (t19.map eVersion))) (s170 k (rd t3_1 t9).mChain _ c12) en170 rfl rfl rfl rfl ?_
  obtain ⟨e13, h⟩ := gpos h
  refine sT 20 (.elp 1003 2 t9.toNat 0) rfl (w_idx_own t3_1 rfl · · · slT42 rfl rfl e13) ?_
  refine sT 21 (.elp 1003 2 t9.toNat 1) rfl (v_field_elp (a0 := 1) rfl · · · fo116_1 rfl) ?_
  refine sq_cons ⟨_, [(.b 1003, .row false 116 2 ((t3_1.set t9.toNat ({(rd t3_1 t9) with mChain := t19})).map eEntry))]⟩ (w_st_elp t3_1 eEntry [(.sl 5 (t19.map eVersion))] ({(rd t3_1 t9) with mChain := t19}) rfl trivial rfl sz96 rfl rfl e13 rfl rfl (ones_of rfl) (ble _ _ rfl) rfl) ?_
  refine sq_nil ?_
  refine ht_weak (wk_eq (.t 3) (.own 1003 2 (t3_1.set t9.toNat ({(rd t3_1 t9) with mChain := t19})).length) (lset _ _ _ _ _)) ?_
  refine ht_weak (wk_eq (.t 12) (.own 1003 2 (t3_1.set t9.toNat ({(rd t3_1 t9) with mChain := t19})).length) (lset _ _ _ _ _)) ?_
  refine ht_weak (wk_eq (.t 14) (.own 1003 2 (t3_1.set t9.toNat ({(rd t3_1 t9) with mChain := t19})).length) (lset _ _ _ _ _)) ?_
  refine ht_region ?_
  refine sT 22 (iV (IntKind.wrap .i64 (t9 + 1))) rfl (vb rfl rfl rfl (b_add rfl)) ?_
  refine sM 9 (iV (IntKind.wrap .i64 (t9 + 1))) rfl rfl ?_
  refine sq_nil ?_
  exact j8 _ _ h (wi rfl rfl)
 replace h := cneg e10 h
 refine ht_exit ?_
 refine tq ?_
 refine tq ?_
 refine bq_hit ?_
 cases h
 exact j5 _ (wi rfl rfl)
theorem s149o (k : Nat) (t0 : List Entry) (r : (List Entry)) (h : F149o k t0 = some r) : Awp.Spec Tryz.prog amb 149 [(.sl 2 (t0.map eEntry))] (.own 116 2 (r.map eEntry)) := by
 rw [F149o] at h
 refine spec_of Tryz.func149 rfl (ble _ _ rfl) fun w0 ok0 lt0 hA => ?_
 refine sr ?_
 refine sM 2 (.d (.s (.slice none 0 0))) rfl rfl ?_
 refine sq_nil ?_
 refine sr ?_
 refine sM 5 (.d (.sl 2 (t0.map eEntry))) rfl rfl ?_
 obtain ⟨t6, c1, h⟩ := bpos h
 refine sq_cons ⟨_, [(.b 6, .row false 116 2 (t6.map eEntry)), (.t 6, .own 6 2 t6.length)]⟩ (w_call_own (id := 6) (ds := [(.sl 2 (t0.map eEntry))]) (caps := []) eEntry (s173o k t0 _ c1) rfl rfl rfl en173 trivial rfl (ble _ _ rfl) (.inl ⟨rfl, rfl⟩) rfl rfl) ?_
 refine sM 3 (.own 6 2 t6.length) rfl rfl ?_
 refine sq_nil ?_
 refine ht_bj h (fun t3 => tell [(.b 1003, .row false 116 2 (t3.map eEntry)), (.t 3, .own 1003 2 t3.length)]) (fun t3 h => ?_) (fun v2 K3 h j5 => ?_)
 ·refine sr ?_
  refine sM 23 (.own 1003 2 t3.length) rfl rfl ?_
  refine sM 2 (.own 1003 2 t3.length) rfl rfl ?_
  refine sz ?_
  cases h
  exact ret_own rfl rfl rfl (lm _ _)
 refine sr ?_
 refine sM 7 (.own 6 2 t6.length) rfl rfl ?_
 refine sT 8 (iV (t6.length : Int)) rfl (v_len_own rfl rfl · · · und42 rfl) ?_
 refine sM 9 (iV 0) rfl rfl ?_
 refine sq_nil ?_
 refine ht_block ?_
 refine ht_rd h (fun _ => rfl) (fun (t3_1, t9) => tell [(.b 1003, .row false 116 2 (t3_1.map eEntry)), (.t 3, .own 1003 2 t3_1.length), (.t 8, iV (t6.length : Int)), (.t 9, iV t9)]) (wr (fun i => bif Nat.beq i 1003 then 6 else i) rfl rfl) fun k v9 h K14 j8 => ?_
 obtain ⟨t3_1, t9⟩ := v9
 rw [F149o_l1] at h
 refine sr ?_
 refine sT 10 (bV (ltI t9 (t6.length : Int))) rfl (vb rfl rfl rfl (b_lss rfl)) ?_
 refine sq_nil ?_
 refine ht_seq ?_
 refine ht_cond rfl (fun e10 => ?_) (fun e10 => ?_)
 ·replace h := cpos e10 h
  refine ht_skip ?_
  refine ht_seq ?_
  refine ht_block ?_
  refine sr ?_
  refine sM 11 (iV t9) rfl rfl ?_
  refine sM 4 (iV t9) rfl rfl ?_
  refine sq_nil ?_
  refine ht_region ?_
  refine sM 12 (.own 1003 2 t3_1.length) rfl rfl ?_
  refine sM 13 (iV t9) rfl rfl ?_
  refine sM 14 (.own 1003 2 t3_1.length) rfl rfl ?_
  refine sM 15 (iV t9) rfl rfl ?_
  obtain ⟨e11, h⟩ := gpos h
  refine sT 16 (.elp 1003 2 t9.toNat 0) rfl (w_idx_own t3_1 rfl · · · slT42 rfl rfl e11) ?_
  refine sT 17 (.elp 1003 2 t9.toNat 1) rfl (v_field_elp (a0 := 1) rfl · · · fo116_1 rfl) ?_
  refine sT 18 (.d (.sl 5 ((rd t3_1 t9).mChain.map eVersion))) rfl (w_ldE1 t3_1 eEntry rfl · · · onT96 rfl e11 rfl rfl) ?_
  obtain ⟨t19, c12, h⟩ := bpos h
  refine sC 19 (.d (.sl 5 (t19.map eVersion))) (s170 k (rd t3_1 t9).mChain _ c12) en170 rfl rfl rfl rfl ?_
  obtain ⟨e13, h⟩ := gpos h
  refine sT 20 (.elp 1003 2 t9.toNat 0) rfl (w_idx_own t3_1 rfl · · · slT42 rfl rfl e13) ?_
  refine sT 21 (.elp 1003 2 t9.toNat 1) rfl (v_field_elp (a0 := 1) rfl · · · fo116_1 rfl) ?_
  refine sq_cons ⟨_, [(.b 1003, .row false 116 2 ((t3_1.set t9.toNat ({(rd t3_1 t9) with mChain := t19})).map eEntry))]⟩ (w_st_elp t3_1 eEntry [(.sl 5 (t19.map eVersion))] ({(rd t3_1 t9) with mChain := t19}) rfl trivial rfl sz96 rfl rfl e13 rfl rfl (ones_of rfl) (ble _ _ rfl) rfl) ?_
  refine sq_nil ?_
  refine ht_weak (wk_eq (.t 3) (.own 1003 2 (t3_1.set t9.toNat ({(rd t3_1 t9) with mChain := t19})).length) (lset _ _ _ _ _)) ?_
  refine ht_weak (wk_eq (.t 12) (.own 1003 2 (t3_1.set t9.toNat ({(rd t3_1 t9) with mChain := t19})).length) (lset _ _ _ _ _)) ?_
  refine ht_weak (wk_eq (.t 14) (.own 1003 2 (t3_1.set t9.toNat ({(rd t3_1 t9) with mChain := t19})).length) (lset _ _ _ _ _)) ?_
  refine ht_region ?_
  refine sT 22 (iV (IntKind.wrap .i64 (t9 + 1))) rfl (vb rfl rfl rfl (b_add rfl)) ?_
  refine sM 9 (iV (IntKind.wrap .i64 (t9 + 1))) rfl rfl ?_
  refine sq_nil ?_
  exact j8 _ _ h (wi rfl rfl)
 replace h := cneg e10 h
 refine ht_exit ?_
 refine tq ?_
 refine tq ?_
 refine bq_hit ?_
 cases h
 exact j5 _ (wi rfl rfl)
theorem s127 (k : Nat) (t0 : List Entry) (t1 : ByteArray) (t2 : Version) (r : (List Entry) × Int) (h : F127 k t0 t1 t2 = some r) : Awp.Spec Tryz.prog amb 127 [(.sl 2 (t0.map eEntry)), (.s (.string t1)), (.agg (eVersion t2))] (.ds [(.sl 2 (r.1.map eEntry)), (.s (.int .i64 r.2))]) := by
 rw [F127] at h
 refine spec_of Tryz.func127 rfl (ble _ _ rfl) fun w0 ok0 lt0 hA => ?_
 refine sr ?_
 refine sT 5 (.d (.dp (eVersion t2))) rfl (v_box_d (cs := (eVersion t2)) rfl · · · rfl rfl (ones_of rfl)) ?_
 refine sM 6 (.d (.s (.slice none 0 0))) rfl rfl ?_
 refine sM 7 (iV 0) rfl rfl ?_
 refine sq_nil ?_
 refine ht_seq ?_
 refine sr ?_
 refine sM 14 (.d (.sl 2 (t0.map eEntry))) rfl rfl ?_
 obtain ⟨t15, c1, h⟩ := bpos h
 refine sC 15 (bV t15) (s81 k t0 _ c1) en81 rfl rfl rfl rfl ?_
 refine sT 16 (bV (!t15)) rfl (vu rfl rfl (u_not rfl)) ?_
 refine sM 17 (bV (!t15)) rfl rfl ?_
 refine sF 18 (sV t1) rfl rfl (fun e2 => (vm rfl rfl)) ?_
 obtain ⟨t19, c4, h⟩ := bpos h
 refine sF 19 (bV t19) rfl rfl (fun e3 => (vC (s122 k t1 _ (cpos (nF e3) c4)) en122 · · · rfl (cc (gv (nF e3)) rfl) rfl)) ?_
 refine sF 20 (bV (!t19)) rfl rfl (fun e5 => (vu rfl (gv (nF e5)) (u_not rfl))) ?_
 refine sT 21 (bV ((!t15) || (!t19))) rfl (vp rfl rfl (fun e6 => rfl) (fun e7 => (gv (nF e7))) (pO _ _)) ?_
 refine sq_nil ?_
 refine ht_cond rfl (fun e8 => ?_) (fun e8 => ?_)
 ·replace h := cpos e8 h
  refine sr ?_
  refine sM 6 (.d (.s (.slice none 0 0))) rfl rfl ?_
  refine sM 7 (iV 1) rfl rfl ?_
  refine sz ?_
  cases h
  exact retM_wk (wk_nil (.t 6) (nb 6) 2 rfl) (ret2 rfl (.tmp rfl) (.tmp rfl))
 replace h := cneg e8 h
 refine ht_skip ?_
 refine sr ?_
 refine sM 23 (.d (.sl 2 (t0.map eEntry))) rfl rfl ?_
 refine sM 24 (sV t1) rfl rfl ?_
 obtain ⟨⟨t25a, t25b⟩, c9, h⟩ := bpos h
 refine sC 25 (.tup [iV t25a, bV t25b]) (s148 k t0 t1 _ c9) en148 rfl rfl rfl rfl ?_
 refine sM 22 (.tup [iV t25a, bV t25b]) rfl rfl ?_
 refine sT 26 (iV t25a) rfl (ve rfl rfl rfl) ?_
 refine sT 27 (bV t25b) rfl (ve rfl rfl rfl) ?_
 refine sM 8 (iV t25a) rfl rfl ?_
 refine sM 9 (bV t25b) rfl rfl ?_
 refine sq_nil ?_
 refine sr ?_
 refine sM 10 (.d (.s (.slice none 0 0))) rfl rfl ?_
 refine sq_nil ?_
 refine ht_bj h (fun t10 => tell [(.t 0, .d (.sl 2 (t0.map eEntry))), (.t 1, sV t1), (.t 5, .d (.dp (eVersion t2))), (.t 8, iV t25a), (.t 9, bV t25b), (.t 10, .d (.sl 5 (t10.map eVersion)))]) (fun t10 h => ?_) (fun v10 K11 h j13 => ?_)
 ·refine sr ?_
  refine sM 35 (.d (.sl 5 (t10.map eVersion))) rfl rfl ?_
  refine sP 36 (eVersion t2) (eVersion t2) ag93 rfl rfl rfl rfl rfl ?_
  obtain ⟨⟨t37a, t37b⟩, c17, h⟩ := bpos h
  refine sC 37 (.tup [.d (.sl 5 (t37a.map eVersion)), iV t37b]) (s158 k t10 t2 _ c17) en158 rfl rfl rfl rfl ?_
  refine sM 34 (.tup [.d (.sl 5 (t37a.map eVersion)), iV t37b]) rfl rfl ?_
  refine sT 38 (.d (.sl 5 (t37a.map eVersion))) rfl (ve rfl rfl rfl) ?_
  refine sT 39 (iV t37b) rfl (ve rfl rfl rfl) ?_
  refine sM 11 (.d (.sl 5 (t37a.map eVersion))) rfl rfl ?_
  refine sM 12 (iV t37b) rfl rfl ?_
  refine sq_nil ?_
  refine ht_seq ?_
  refine ht_block ?_
  refine sr ?_
  refine sM 41 (iV t37b) rfl rfl ?_
  refine sT 42 (bV (!eqI t37b 0)) rfl (vb rfl rfl rfl (b_neq rfl)) ?_
  refine sM 40 (bV (!eqI t37b 0)) rfl rfl ?_
  refine sq_nil ?_
  refine ht_cond rfl (fun e18 => ?_) (fun e18 => ?_)
  ·replace h := cpos e18 h
   refine sr ?_
   refine sM 43 (iV t37b) rfl rfl ?_
   refine sM 6 (.d (.s (.slice none 0 0))) rfl rfl ?_
   refine sM 7 (iV t37b) rfl rfl ?_
   refine sz ?_
   cases h
   exact retM_wk (wk_nil (.t 6) (nb 6) 2 rfl) (ret2 rfl (.tmp rfl) (.tmp rfl))
  replace h := cneg e18 h
  refine sr ?_
  refine sM 45 (bV t25b) rfl rfl ?_
  refine sT 46 (bV (!t25b)) rfl (vu rfl rfl (u_not rfl)) ?_
  refine sM 47 (bV (!t25b)) rfl rfl ?_
  refine sG 48 (.d (.sl 2 (t0.map eEntry))) rfl rfl (fun e19 => (vm rfl rfl)) ?_
  refine sG 49 (iV (t0.length : Int)) rfl rfl (fun e20 => (w_len t0 eEntry rfl rfl · · · slT42 (gv e20))) ?_
  refine sG 50 (bV (eqI (t0.length : Int) 64)) rfl rfl (fun e21 => (vb rfl (gv e21) rfl (b_eql rfl))) ?_
  refine sT 51 (bV ((!t25b) && (eqI (t0.length : Int) 64))) rfl (vp rfl rfl (fun e22 => (gv e22)) (fun e23 => rfl) (pA _ _)) ?_
  refine sM 44 (bV ((!t25b) && (eqI (t0.length : Int) 64))) rfl rfl ?_
  refine sq_nil ?_
  refine ht_cond rfl (fun e24 => ?_) (fun e24 => ?_)
  ·replace h := cpos e24 h
   refine sr ?_
   refine sM 6 (.d (.s (.slice none 0 0))) rfl rfl ?_
   refine sM 7 (iV 6) rfl rfl ?_
   refine sz ?_
   cases h
   exact retM_wk (wk_nil (.t 6) (nb 6) 2 rfl) (ret2 rfl (.tmp rfl) (.tmp rfl))
  replace h := cneg e24 h
  refine ht_skip ?_
  refine sr ?_
  refine sM 52 (.d (.sl 2 (t0.map eEntry))) rfl rfl ?_
  obtain ⟨t53, c25, h⟩ := bpos h
  refine sq_cons ⟨_, [(.b 53, .row false 116 2 (t53.map eEntry)), (.t 53, .own 53 2 t53.length)]⟩ (w_call_own (id := 53) (ds := [(.sl 2 (t0.map eEntry))]) (caps := []) eEntry (s149o k t0 _ c25) rfl rfl rfl en149 trivial rfl (ble _ _ rfl) (.inl ⟨rfl, rfl⟩) rfl rfl) ?_
  refine sM 13 (.own 53 2 t53.length) rfl rfl ?_
  refine sq_nil ?_
  refine ht_seq ?_
  refine sr ?_
  refine sM 54 (bV t25b) rfl rfl ?_
  refine sT 55 (bV (!t25b)) rfl (vu rfl rfl (u_not rfl)) ?_
  refine sq_nil ?_
  refine ht_cond rfl (fun e26 => ?_) (fun e26 => ?_)
  ·replace h := cpos e26 h
   refine ht_region ?_
   refine sM 56 (.own 53 2 t53.length) rfl rfl ?_
   refine sM 57 (iV t25a) rfl rfl ?_
   refine sM 58 (sV t1) rfl rfl ?_
   refine sT 59 (.d (.agg (eEntry (⟨t1, ([] : List Version)⟩ : Entry)))) rfl (w_bld zc116 ((eEntry (⟨t1, ([] : List Version)⟩ : Entry)).map V.d) [(0, sV t1)] rfl · · · zw116 rfl ft116 rfl rfl rfl rfl) ?_
   refine sq_cons ⟨_, [(.b 60, .row false 116 2 (([(⟨t1, ([] : List Version)⟩ : Entry)]).map eEntry)), (.t 60, .own 60 2 ([(⟨t1, ([] : List Version)⟩ : Entry)]).length)]⟩ (w_bsl (id := 60) [(0, .d (.agg (eEntry (⟨t1, ([] : List Version)⟩ : Entry))))] [(⟨t1, ([] : List Version)⟩ : Entry)] eEntry rfl trivial rfl (ble _ _ rfl) slT42 zr116 teEntry (ble _ _ rfl) rfl (by kernel_rfl) rfl rfl (by kernel_rfl) (by kernel_rfl)) ?_
   obtain ⟨e27, h⟩ := gpos h
   refine sq_cons ⟨_, [(.b 53, .spent), (.b 61, .row false 116 2 ((List.take t25a.toNat t53 ++ [(⟨t1, ([] : List Version)⟩ : Entry)] ++ List.drop t25a.toNat t53).map eEntry)), (.t 61, .own 61 2 (List.take t25a.toNat t53 ++ [(⟨t1, ([] : List Version)⟩ : Entry)] ++ List.drop t25a.toNat t53).length)]⟩ (w_ins 61 t53 (⟨t1, ([] : List Version)⟩ : Entry) eEntry insS159 rfl rfl rfl en159 trivial rfl (ble _ _ rfl) teEntry rfl rfl rfl rfl rfl rfl rfl e27) ?_
   refine sM 13 (.own 61 2 (List.take t25a.toNat t53 ++ [(⟨t1, ([] : List Version)⟩ : Entry)] ++ List.drop t25a.toNat t53).length) rfl rfl ?_
   refine sq_nil ?_
   refine sr ?_
   refine sM 62 (.own 61 2 (List.take t25a.toNat t53 ++ [(⟨t1, ([] : List Version)⟩ : Entry)] ++ List.drop t25a.toNat t53).length) rfl rfl ?_
   refine sM 63 (iV t25a) rfl rfl ?_
   refine sM 64 (.d (.sl 5 (t37a.map eVersion))) rfl rfl ?_
   obtain ⟨e28, h⟩ := gpos h
   refine sT 65 (.elp 61 2 t25a.toNat 0) rfl (w_idx_own (List.take t25a.toNat t53 ++ [(⟨t1, ([] : List Version)⟩ : Entry)] ++ List.drop t25a.toNat t53) rfl · · · slT42 rfl rfl e28) ?_
   refine sT 66 (.elp 61 2 t25a.toNat 1) rfl (v_field_elp (a0 := 1) rfl · · · fo116_1 rfl) ?_
   refine sq_cons ⟨_, [(.b 61, .row false 116 2 (((List.take t25a.toNat t53 ++ [(⟨t1, ([] : List Version)⟩ : Entry)] ++ List.drop t25a.toNat t53).set t25a.toNat ({(rd (List.take t25a.toNat t53 ++ [(⟨t1, ([] : List Version)⟩ : Entry)] ++ List.drop t25a.toNat t53) t25a) with mChain := t37a})).map eEntry))]⟩ (w_st_elp (List.take t25a.toNat t53 ++ [(⟨t1, ([] : List Version)⟩ : Entry)] ++ List.drop t25a.toNat t53) eEntry [(.sl 5 (t37a.map eVersion))] ({(rd (List.take t25a.toNat t53 ++ [(⟨t1, ([] : List Version)⟩ : Entry)] ++ List.drop t25a.toNat t53) t25a) with mChain := t37a}) rfl trivial rfl sz96 rfl rfl e28 rfl rfl (ones_of rfl) (ble _ _ rfl) rfl) ?_
   refine sq_nil ?_
   refine ht_seq ?_
   refine ht_weak (wk_eq (.t 13) (.own 61 2 ((List.take t25a.toNat t53 ++ [(⟨t1, ([] : List Version)⟩ : Entry)] ++ List.drop t25a.toNat t53).set t25a.toNat ({(rd (List.take t25a.toNat t53 ++ [(⟨t1, ([] : List Version)⟩ : Entry)] ++ List.drop t25a.toNat t53) t25a) with mChain := t37a})).length) (lset _ _ _ _ _)) ?_
   refine ht_weak (wk_eq (.t 61) (.own 61 2 ((List.take t25a.toNat t53 ++ [(⟨t1, ([] : List Version)⟩ : Entry)] ++ List.drop t25a.toNat t53).set t25a.toNat ({(rd (List.take t25a.toNat t53 ++ [(⟨t1, ([] : List Version)⟩ : Entry)] ++ List.drop t25a.toNat t53) t25a) with mChain := t37a})).length) (lset _ _ _ _ _)) ?_
   refine ht_weak (wk_eq (.t 62) (.own 61 2 ((List.take t25a.toNat t53 ++ [(⟨t1, ([] : List Version)⟩ : Entry)] ++ List.drop t25a.toNat t53).set t25a.toNat ({(rd (List.take t25a.toNat t53 ++ [(⟨t1, ([] : List Version)⟩ : Entry)] ++ List.drop t25a.toNat t53) t25a) with mChain := t37a})).length) (lset _ _ _ _ _)) ?_
   refine ht_region ?_
   refine sM 67 (.own 61 2 ((List.take t25a.toNat t53 ++ [(⟨t1, ([] : List Version)⟩ : Entry)] ++ List.drop t25a.toNat t53).set t25a.toNat ({(rd (List.take t25a.toNat t53 ++ [(⟨t1, ([] : List Version)⟩ : Entry)] ++ List.drop t25a.toNat t53) t25a) with mChain := t37a})).length) rfl rfl ?_
   refine sM 6 (.own 61 2 ((List.take t25a.toNat t53 ++ [(⟨t1, ([] : List Version)⟩ : Entry)] ++ List.drop t25a.toNat t53).set t25a.toNat ({(rd (List.take t25a.toNat t53 ++ [(⟨t1, ([] : List Version)⟩ : Entry)] ++ List.drop t25a.toNat t53) t25a) with mChain := t37a})).length) rfl rfl ?_
   refine sM 7 (iV 0) rfl rfl ?_
   refine sz ?_
   cases h
   exact retM_wk (wk_still_row 61 _ _ _ rfl) (retM_wk (wk_row (.t 6) (nb 6) 61 _ _ _ _ rfl rfl (lm _ _)) (retM_wk (wk_row (.t 13) (nb 13) 61 _ _ _ _ rfl rfl (lm _ _)) (retM_wk (wk_row (.t 61) (nb 61) 61 _ _ _ _ rfl rfl (lm _ _)) (retM_wk (wk_row (.t 62) (nb 62) 61 _ _ _ _ rfl rfl (lm _ _)) (retM_wk (wk_row (.t 67) (nb 67) 61 _ _ _ _ rfl rfl (lm _ _)) (ret2 rfl (.tmp rfl) (.tmp rfl)))))))
  replace h := cneg e26 h
  refine ht_skip ?_
  refine sr ?_
  refine sM 62 (.own 53 2 t53.length) rfl rfl ?_
  refine sM 63 (iV t25a) rfl rfl ?_
  refine sM 64 (.d (.sl 5 (t37a.map eVersion))) rfl rfl ?_
  obtain ⟨e29, h⟩ := gpos h
  refine sT 65 (.elp 53 2 t25a.toNat 0) rfl (w_idx_own t53 rfl · · · slT42 rfl rfl e29) ?_
  refine sT 66 (.elp 53 2 t25a.toNat 1) rfl (v_field_elp (a0 := 1) rfl · · · fo116_1 rfl) ?_
  refine sq_cons ⟨_, [(.b 53, .row false 116 2 ((t53.set t25a.toNat ({(rd t53 t25a) with mChain := t37a})).map eEntry))]⟩ (w_st_elp t53 eEntry [(.sl 5 (t37a.map eVersion))] ({(rd t53 t25a) with mChain := t37a}) rfl trivial rfl sz96 rfl rfl e29 rfl rfl (ones_of rfl) (ble _ _ rfl) rfl) ?_
  refine sq_nil ?_
  refine ht_seq ?_
  refine ht_weak (wk_eq (.t 53) (.own 53 2 (t53.set t25a.toNat ({(rd t53 t25a) with mChain := t37a})).length) (lset _ _ _ _ _)) ?_
  refine ht_weak (wk_eq (.t 13) (.own 53 2 (t53.set t25a.toNat ({(rd t53 t25a) with mChain := t37a})).length) (lset _ _ _ _ _)) ?_
  refine ht_weak (wk_eq (.t 62) (.own 53 2 (t53.set t25a.toNat ({(rd t53 t25a) with mChain := t37a})).length) (lset _ _ _ _ _)) ?_
  refine ht_region ?_
  refine sM 67 (.own 53 2 (t53.set t25a.toNat ({(rd t53 t25a) with mChain := t37a})).length) rfl rfl ?_
  refine sM 6 (.own 53 2 (t53.set t25a.toNat ({(rd t53 t25a) with mChain := t37a})).length) rfl rfl ?_
  refine sM 7 (iV 0) rfl rfl ?_
  refine sz ?_
  cases h
  exact retM_wk (wk_still_row 53 _ _ _ rfl) (retM_wk (wk_row (.t 6) (nb 6) 53 _ _ _ _ rfl rfl (lm _ _)) (retM_wk (wk_row (.t 13) (nb 13) 53 _ _ _ _ rfl rfl (lm _ _)) (retM_wk (wk_row (.t 53) (nb 53) 53 _ _ _ _ rfl rfl (lm _ _)) (retM_wk (wk_row (.t 62) (nb 62) 53 _ _ _ _ rfl rfl (lm _ _)) (retM_wk (wk_row (.t 67) (nb 67) 53 _ _ _ _ rfl rfl (lm _ _)) (ret2 rfl (.tmp rfl) (.tmp rfl)))))))
 refine sr ?_
 refine sM 28 (bV t25b) rfl rfl ?_
 refine sq_nil ?_
 refine ht_cond rfl (fun e15 => ?_) (fun e15 => ?_)
 ·replace h := cpos e15 h
  refine ht_region ?_
  refine sM 29 (.d (.sl 2 (t0.map eEntry))) rfl rfl ?_
  refine sM 30 (iV t25a) rfl rfl ?_
  obtain ⟨e16, h⟩ := gpos h
  refine sT 31 (.d (.dp (eEntry (rd t0 t25a)))) rfl (w_idx t0 eEntry rfl · · · slT42 rfl rfl e16) ?_
  refine sD 32 (eEntry (rd t0 t25a)) fo116_1 rfl rfl rfl ?_
  refine sT 33 (.d (.sl 5 ((rd t0 t25a).mChain.map eVersion))) rfl (vl rfl onT96 rfl rfl) ?_
  refine sM 10 (.d (.sl 5 ((rd t0 t25a).mChain.map eVersion))) rfl rfl ?_
  refine sq_nil ?_
  cases h
  exact j13 _ (wi rfl rfl)
 replace h := cneg e15 h
 refine ht_skip ?_
 cases h
 exact j13 _ (wkt (wk_nil (.t 10) (nb 10) 5 rfl) (wi rfl rfl))
theorem s160o (k : Nat) (t0 : List Done) (r : (List Done)) (h : F160o k t0 = some r) : Awp.Spec Tryz.prog amb 160 [(.sl 11 (t0.map eDone))] (.own 100 11 (r.map eDone)) := by
 rw [F160o] at h
 refine spec_of Tryz.func160 rfl (ble _ _ rfl) fun w0 ok0 lt0 hA => ?_
 refine sr ?_
 refine sM 2 (.d (.s (.slice none 0 0))) rfl rfl ?_
 refine sq_nil ?_
 refine ht_seq ?_
 refine sr ?_
 refine sM 3 (.d (.sl 11 (t0.map eDone))) rfl rfl ?_
 refine sq_nileq rfl trivial rfl (ble _ _ rfl) und43 rfl (fun b1 hb2 => ?_)
 refine sq_nil ?_
 refine ht_cond rfl (fun e3 => ?_) (fun e3 => ?_)
 ·obtain rfl : t0 = [] := List.map_eq_nil_iff.1 (hb2 e3)
  replace h : (some ([]) : Option (List Done)) = some r := by (obtain ⟨_, h⟩ := gpos h; cases h; rfl)
  refine sr ?_
  refine sM 2 (.d (.s (.slice none 0 0))) rfl rfl ?_
  refine sz ?_
  cases h
  exact retM_wk (wk_nilrow (.t 2) (nb 2) 3002 100 11 rfl rfl) (ret_own rfl rfl rfl rfl)
 refine ht_skip ?_
 refine sr ?_
 refine sq_cons ⟨_, [(.b 5, .row false 100 11 (([] : List Done).map eDone)), (.t 5, .own 5 11 ([] : List Done).length)]⟩ (w_bsl (id := 5) [] ([] : List Done) eDone rfl trivial rfl (ble _ _ rfl) slT43 zr100 teDone (ble _ _ rfl) rfl (by kernel_rfl) rfl rfl (by kernel_rfl) (by kernel_rfl)) ?_
 refine sM 6 (.d (.sl 11 (t0.map eDone))) rfl rfl ?_
 obtain ⟨e4, h⟩ := gpos h
 refine sq_cons ⟨_, [(.b 5, .spent), (.b 7, .row false 100 11 ((([] : List Done) ++ t0).map eDone)), (.t 7, .own 7 11 (([] : List Done) ++ t0).length)]⟩ (w_app 7 ([] : List Done) t0 eDone rfl rfl trivial rfl (ble _ _ rfl) slT43 elT100 teDone rfl rfl rfl (.d) rfl e4) ?_
 refine sM 2 (.own 7 11 (([] : List Done) ++ t0).length) rfl rfl ?_
 refine sz ?_
 cases h
 exact ret_own rfl rfl rfl (lm _ _)
theorem s128 (k : Nat) (t0 : List Done) (t1 : Done) (r : (List Done) × Int) (h : F128 k t0 t1 = some r) : Awp.Spec Tryz.prog amb 128 [(.sl 11 (t0.map eDone)), (.agg (eDone t1))] (.ds [(.sl 11 (r.1.map eDone)), (.s (.int .i64 r.2))]) := by
 rw [F128] at h
 refine spec_of Tryz.func128 rfl (ble _ _ rfl) fun w0 ok0 lt0 hA => ?_
 refine sr ?_
 refine sT 3 (.d (.dp (eDone t1))) rfl (v_box_d (cs := (eDone t1)) rfl · · · rfl rfl (ones_of rfl)) ?_
 refine sM 4 (.d (.s (.slice none 0 0))) rfl rfl ?_
 refine sM 5 (iV 0) rfl rfl ?_
 refine sq_nil ?_
 refine ht_seq ?_
 refine sr ?_
 refine sM 9 (.d (.sl 11 (t0.map eDone))) rfl rfl ?_
 obtain ⟨t10, c1, h⟩ := bpos h
 refine sC 10 (bV t10) (s82 k t0 _ c1) en82 rfl rfl rfl rfl ?_
 refine sT 11 (bV (!t10)) rfl (vu rfl rfl (u_not rfl)) ?_
 refine sM 12 (bV (!t10)) rfl rfl ?_
 refine sF 13 (.d (.agg (eDone t1))) rfl rfl (fun e2 => (w_ldp (eDone t1) (eDone t1) rfl · · · ag100 rfl (ble _ _ rfl) rfl)) ?_
 refine sF 14 (.d (.sl 11 (([t1]).map eDone))) rfl rfl (fun e3 => (w_bsl_d [(0, .d (.agg (eDone t1)))] [t1] eDone rfl · · · slT43 zr100 teDone (ble _ _ rfl) (cc (pr (gv (nF e3))) rfl) (by kernel_rfl) rfl rfl (by kernel_rfl))) ?_
 obtain ⟨t15, c5, h⟩ := bpos h
 refine sF 15 (bV t15) rfl rfl (fun e4 => (vC (s82 k ([t1]) _ (cpos (nF e4) c5)) en82 · · · rfl (cc (gv (nF e4)) rfl) rfl)) ?_
 refine sF 16 (bV (!t15)) rfl rfl (fun e6 => (vu rfl (gv (nF e6)) (u_not rfl))) ?_
 refine sT 17 (bV ((!t10) || (!t15))) rfl (vp rfl rfl (fun e7 => rfl) (fun e8 => (gv (nF e8))) (pO _ _)) ?_
 refine sq_nil ?_
 refine ht_cond rfl (fun e9 => ?_) (fun e9 => ?_)
 ·replace h := cpos e9 h
  refine sr ?_
  refine sM 4 (.d (.s (.slice none 0 0))) rfl rfl ?_
  refine sM 5 (iV 1) rfl rfl ?_
  refine sz ?_
  cases h
  exact retM_wk (wk_nil (.t 4) (nb 4) 11 rfl) (ret2 rfl (.tmp rfl) (.tmp rfl))
 replace h := cneg e9 h
 refine ht_skip ?_
 refine sr ?_
 refine sM 19 (.d (.sl 11 (t0.map eDone))) rfl rfl ?_
 refine sD 20 (eDone t1) fo100_0 rfl rfl rfl ?_
 refine sT 21 (iV t1.mClient) rfl (vl rfl onT3 rfl rfl) ?_
 obtain ⟨⟨t22a, t22b⟩, c10, h⟩ := bpos h
 refine sC 22 (.tup [iV t22a, bV t22b]) (s157 k t0 t1.mClient _ c10) en157 rfl rfl rfl rfl ?_
 refine sM 18 (.tup [iV t22a, bV t22b]) rfl rfl ?_
 refine sT 23 (iV t22a) rfl (ve rfl rfl rfl) ?_
 refine sT 24 (bV t22b) rfl (ve rfl rfl rfl) ?_
 refine sM 6 (iV t22a) rfl rfl ?_
 refine sM 7 (bV t22b) rfl rfl ?_
 refine sq_nil ?_
 refine ht_seq ?_
 refine ht_block ?_
 refine ht_seq ?_
 refine ht_region_draw mixed ?_
 refine rM 26 (bV t22b) rfl rfl ?_
 refine rM 27 (bV t22b) rfl rfl ?_
 refine rG 28 (.d (.sl 11 (t0.map eDone))) rfl rfl (fun e11 => (vm rfl rfl)) ?_
 refine rG 29 (iV t22a) rfl rfl (fun e12 => (vm rfl rfl)) ?_
 obtain ⟨e14, h⟩ := gpos h
 refine rG 30 (.d (.dp (eDone (rd t0 t22a)))) rfl rfl (fun e13 => (w_idx t0 eDone rfl · · · slT43 (gv e13) (gv e13) (orT e14 e13))) ?_
 refine rG 31 (.d (.dp (List.drop 1 (eDone (rd t0 t22a))))) rfl rfl (fun e15 => (vD (eDone (rd t0 t22a)) fo100_1 · · · rfl (gv e15))) ?_
 refine rG 32 (iV (rd t0 t22a).mReq) rfl rfl (fun e16 => (vl rfl onT3 (gv e16) rfl)) ?_
 refine rG 33 (.d (.dp (List.drop 1 (eDone t1)))) rfl rfl (fun e17 => (vD (eDone t1) fo100_1 · · · rfl rfl)) ?_
 refine rG 34 (iV t1.mReq) rfl rfl (fun e18 => (vl rfl onT3 (gv e18) rfl)) ?_
 refine rG 35 (bV (leI t1.mReq (rd t0 t22a).mReq)) rfl rfl (fun e19 => (vb rfl (gv e19) (gv e19) (b_geq rfl))) ?_
 refine rT 36 (bV (t22b && (leI t1.mReq (rd t0 t22a).mReq))) rfl (vp rfl rfl (fun e20 => (gv e20)) (fun e21 => rfl) (pA _ _)) ?_
 refine rM 25 (bV (t22b && (leI t1.mReq (rd t0 t22a).mReq))) rfl rfl ?_
 refine rg_nil ⟨by kernel_rfl, ?_⟩
 refine ht_cond rfl (fun e22 => ?_) (fun e22 => ?_)
 ·replace h := cpos e22 h
  refine sr ?_
  refine sM 4 (.d (.s (.slice none 0 0))) rfl rfl ?_
  refine sM 5 (iV 9) rfl rfl ?_
  refine sz ?_
  cases h
  exact retM_wk (wk_nil (.t 4) (nb 4) 11 rfl) (ret2 rfl (.tmp rfl) (.tmp rfl))
 replace h := cneg e22 h
 refine sr ?_
 refine sM 38 (bV t22b) rfl rfl ?_
 refine sT 39 (bV (!t22b)) rfl (vu rfl rfl (u_not rfl)) ?_
 refine sM 40 (bV (!t22b)) rfl rfl ?_
 refine sG 41 (.d (.sl 11 (t0.map eDone))) rfl rfl (fun e23 => (vm rfl rfl)) ?_
 refine sG 42 (iV (t0.length : Int)) rfl rfl (fun e24 => (w_len t0 eDone rfl rfl · · · slT43 (gv e24))) ?_
 refine sG 43 (bV (eqI (t0.length : Int) 8)) rfl rfl (fun e25 => (vb rfl (gv e25) rfl (b_eql rfl))) ?_
 refine sT 44 (bV ((!t22b) && (eqI (t0.length : Int) 8))) rfl (vp rfl rfl (fun e26 => (gv e26)) (fun e27 => rfl) (pA _ _)) ?_
 refine sM 37 (bV ((!t22b) && (eqI (t0.length : Int) 8))) rfl rfl ?_
 refine sq_nil ?_
 refine ht_cond rfl (fun e28 => ?_) (fun e28 => ?_)
 ·replace h := cpos e28 h
  refine sr ?_
  refine sM 4 (.d (.s (.slice none 0 0))) rfl rfl ?_
  refine sM 5 (iV 6) rfl rfl ?_
  refine sz ?_
  cases h
  exact retM_wk (wk_nil (.t 4) (nb 4) 11 rfl) (ret2 rfl (.tmp rfl) (.tmp rfl))
 replace h := cneg e28 h
 refine ht_skip ?_
 refine sr ?_
 refine sM 45 (.d (.sl 11 (t0.map eDone))) rfl rfl ?_
 obtain ⟨t46, c29, h⟩ := bpos h
 refine sq_cons ⟨_, [(.b 46, .row false 100 11 (t46.map eDone)), (.t 46, .own 46 11 t46.length)]⟩ (w_call_own (id := 46) (ds := [(.sl 11 (t0.map eDone))]) (caps := []) eDone (s160o k t0 _ c29) rfl rfl rfl en160 trivial rfl (ble _ _ rfl) (.inl ⟨rfl, rfl⟩) rfl rfl) ?_
 refine sM 8 (.own 46 11 t46.length) rfl rfl ?_
 refine sq_nil ?_
 refine ht_seq ?_
 refine sr ?_
 refine sM 47 (bV t22b) rfl rfl ?_
 refine sq_nil ?_
 refine ht_cond rfl (fun e30 => ?_) (fun e30 => ?_)
 ·replace h := cpos e30 h
  refine sr ?_
  refine sM 48 (.own 46 11 t46.length) rfl rfl ?_
  refine sM 49 (iV t22a) rfl rfl ?_
  refine sP 50 (eDone t1) (eDone t1) ag100 rfl rfl rfl rfl rfl ?_
  obtain ⟨e31, h⟩ := gpos h
  refine sT 51 (.elp 46 11 t22a.toNat 0) rfl (w_idx_own t46 rfl · · · slT43 rfl rfl e31) ?_
  refine sq_cons ⟨_, [(.b 46, .row false 100 11 ((t46.set t22a.toNat t1).map eDone))]⟩ (w_st_elp t46 eDone (eDone t1) t1 rfl trivial rfl sz100 rfl rfl e31 rfl rfl (ones_of rfl) (ble _ _ rfl) rfl) ?_
  refine sq_nil ?_
  refine ht_seq ?_
  refine ht_weak (wk_eq (.t 46) (.own 46 11 (t46.set t22a.toNat t1).length) (lset _ _ _ _ _)) ?_
  refine ht_weak (wk_eq (.t 8) (.own 46 11 (t46.set t22a.toNat t1).length) (lset _ _ _ _ _)) ?_
  refine ht_weak (wk_eq (.t 48) (.own 46 11 (t46.set t22a.toNat t1).length) (lset _ _ _ _ _)) ?_
  refine ht_region ?_
  refine sM 52 (.own 46 11 (t46.set t22a.toNat t1).length) rfl rfl ?_
  refine sM 4 (.own 46 11 (t46.set t22a.toNat t1).length) rfl rfl ?_
  refine sM 5 (iV 0) rfl rfl ?_
  refine sz ?_
  cases h
  exact retM_wk (wk_still_row 46 _ _ _ rfl) (retM_wk (wk_row (.t 4) (nb 4) 46 _ _ _ _ rfl rfl (lm _ _)) (retM_wk (wk_row (.t 8) (nb 8) 46 _ _ _ _ rfl rfl (lm _ _)) (retM_wk (wk_row (.t 46) (nb 46) 46 _ _ _ _ rfl rfl (lm _ _)) (retM_wk (wk_row (.t 48) (nb 48) 46 _ _ _ _ rfl rfl (lm _ _)) (retM_wk (wk_row (.t 52) (nb 52) 46 _ _ _ _ rfl rfl (lm _ _)) (ret2 rfl (.tmp rfl) (.tmp rfl)))))))
 replace h := cneg e30 h
 refine ht_skip ?_
 refine sr ?_
 refine sM 53 (.own 46 11 t46.length) rfl rfl ?_
 refine sM 54 (iV t22a) rfl rfl ?_
 refine sP 55 (eDone t1) (eDone t1) ag100 rfl rfl rfl rfl rfl ?_
 refine sq_cons ⟨_, [(.b 56, .row false 100 11 (([t1]).map eDone)), (.t 56, .own 56 11 ([t1]).length)]⟩ (w_bsl (id := 56) [(0, .d (.agg (eDone t1)))] [t1] eDone rfl trivial rfl (ble _ _ rfl) slT43 zr100 teDone (ble _ _ rfl) rfl (by kernel_rfl) rfl rfl (by kernel_rfl) (by kernel_rfl)) ?_
 obtain ⟨e32, h⟩ := gpos h
 refine sq_cons ⟨_, [(.b 46, .spent), (.b 57, .row false 100 11 ((List.take t22a.toNat t46 ++ [t1] ++ List.drop t22a.toNat t46).map eDone)), (.t 57, .own 57 11 (List.take t22a.toNat t46 ++ [t1] ++ List.drop t22a.toNat t46).length)]⟩ (w_ins 57 t46 t1 eDone insS161 rfl rfl rfl en161 trivial rfl (ble _ _ rfl) teDone rfl rfl rfl rfl rfl rfl rfl e32) ?_
 refine sM 4 (.own 57 11 (List.take t22a.toNat t46 ++ [t1] ++ List.drop t22a.toNat t46).length) rfl rfl ?_
 refine sM 5 (iV 0) rfl rfl ?_
 refine sz ?_
 cases h
 exact retM_wk (wk_still_row 57 _ _ _ rfl) (retM_wk (wk_row (.t 4) (nb 4) 57 _ _ _ _ rfl rfl (lm _ _)) (retM_wk (wk_row (.t 57) (nb 57) 57 _ _ _ _ rfl rfl (lm _ _)) (ret2 rfl (.tmp rfl) (.tmp rfl))))
theorem s98o (k : Nat) (t0 : List Shard) (r : (List Shard)) (h : F98o k t0 = some r) : Awp.Spec Tryz.prog amb 98 [(.sl 17 (t0.map eShard))] (.own 45 17 (r.map eShard)) := by
 rw [F98o] at h
 refine spec_of Tryz.func98 rfl (ble _ _ rfl) fun w0 ok0 lt0 hA => ?_
 refine sr ?_
 refine sM 2 (.d (.s (.slice none 0 0))) rfl rfl ?_
 refine sq_nil ?_
 refine ht_seq ?_
 refine sr ?_
 refine sM 3 (.d (.sl 17 (t0.map eShard))) rfl rfl ?_
 refine sq_nileq rfl trivial rfl (ble _ _ rfl) und22 rfl (fun b1 hb2 => ?_)
 refine sq_nil ?_
 refine ht_cond rfl (fun e3 => ?_) (fun e3 => ?_)
 ·obtain rfl : t0 = [] := List.map_eq_nil_iff.1 (hb2 e3)
  replace h : (some ([]) : Option (List Shard)) = some r := by (obtain ⟨_, h⟩ := gpos h; cases h; rfl)
  refine sr ?_
  refine sM 2 (.d (.s (.slice none 0 0))) rfl rfl ?_
  refine sz ?_
  cases h
  exact retM_wk (wk_nilrow (.t 2) (nb 2) 3002 45 17 rfl rfl) (ret_own rfl rfl rfl rfl)
 refine ht_skip ?_
 refine sr ?_
 refine sq_cons ⟨_, [(.b 5, .row false 45 17 (([] : List Shard).map eShard)), (.t 5, .own 5 17 ([] : List Shard).length)]⟩ (w_bsl (id := 5) [] ([] : List Shard) eShard rfl trivial rfl (ble _ _ rfl) slT22 zr45 teShard (ble _ _ rfl) rfl (by kernel_rfl) rfl rfl (by kernel_rfl) (by kernel_rfl)) ?_
 refine sM 6 (.d (.sl 17 (t0.map eShard))) rfl rfl ?_
 obtain ⟨e4, h⟩ := gpos h
 refine sq_cons ⟨_, [(.b 5, .spent), (.b 7, .row false 45 17 ((([] : List Shard) ++ t0).map eShard)), (.t 7, .own 7 17 (([] : List Shard) ++ t0).length)]⟩ (w_app 7 ([] : List Shard) t0 eShard rfl rfl trivial rfl (ble _ _ rfl) slT22 elT45 teShard rfl rfl rfl (.d) rfl e4) ?_
 refine sM 2 (.own 7 17 (([] : List Shard) ++ t0).length) rfl rfl ?_
 refine sz ?_
 cases h
 exact ret_own rfl rfl rfl (lm _ _)
theorem s95 (k : Nat) (t0 : Cell) (t1 : Shard) (r : Cell) (h : F95 k t0 t1 = some r) : Awp.Spec Tryz.prog amb 95 [(.agg (eCell t0)), (.agg (eShard t1))] (.ds [(.agg (eCell r))]) := by
 rw [F95] at h
 refine spec_of Tryz.func95 rfl (ble _ _ rfl) fun w0 ok0 lt0 hA => ?_
 refine sr ?_
 refine sq_cons _ (v_box (id := 2) (cs := (eCell t0).map V.d) rfl trivial rfl (ble _ _ rfl) rfl rfl (ones_of rfl) rfl) ?_
 refine sT 3 (.d (.dp (eShard t1))) rfl (v_box_d (cs := (eShard t1)) rfl · · · rfl rfl (ones_of rfl)) ?_
 refine sq_cons _ (v_alloc (id := 4) (cs := zc26) rfl trivial rfl (ble _ _ rfl) zu26 rfl ft26 rfl) ?_
 refine sq_nil ?_
 refine sr ?_
 refine sT 8 (.d (.agg (eCell t0))) rfl (w_ldb 2 0 rfl · · · ag26 rfl rfl (ble _ _ rfl) rfl) ?_
 refine sD 9 (eShard t1) fo45_0 rfl rfl rfl ?_
 refine sT 10 (iV t1.mID) rfl (vl rfl onT3 rfl rfl) ?_
 obtain ⟨⟨t11a, t11b⟩, c1, h⟩ := bpos h
 refine sC 11 (.tup [iV t11a, bV t11b]) (s123 k t0 t1.mID _ c1) en123 rfl rfl rfl rfl ?_
 refine sM 7 (.tup [iV t11a, bV t11b]) rfl rfl ?_
 refine sT 12 (iV t11a) rfl (ve rfl rfl rfl) ?_
 refine sT 13 (bV t11b) rfl (ve rfl rfl rfl) ?_
 refine sM 5 (iV t11a) rfl rfl ?_
 refine sM 6 (bV t11b) rfl rfl ?_
 refine sq_nil ?_
 refine sr ?_
 refine sT 14 (.ptr 2 0) rfl (v_field_box (off := 0) (a0 := 0) rfl · · · fo26_0 rfl) ?_
 refine sT 15 (.d (.sl 17 (t0.mShards.map eShard))) rfl (v_load_box1 (id := 2) (off := 0) rfl · · · onT22 rfl rfl (ble _ _ rfl) rfl) ?_
 obtain ⟨t16, c2, h⟩ := bpos h
 refine sq_cons ⟨_, [(.b 16, .row false 45 17 (t16.map eShard)), (.t 16, .own 16 17 t16.length)]⟩ (w_call_own (id := 16) (ds := [(.sl 17 (t0.mShards.map eShard))]) (caps := []) eShard (s98o k t0.mShards _ c2) rfl rfl rfl en98 trivial rfl (ble _ _ rfl) (.inl ⟨rfl, rfl⟩) rfl rfl) ?_
 refine sT 17 (.ptr 2 0) rfl (v_field_box (off := 0) (a0 := 0) rfl · · · fo26_0 rfl) ?_
 refine sS 2 0 [.own 16 17 t16.length] sz22 rfl rfl rfl rfl rfl (ones_of rfl) rfl ?_
 refine sq_nil ?_
 refine ht_seq ?_
 refine sr ?_
 refine sM 18 (bV t11b) rfl rfl ?_
 refine sq_nil ?_
 refine ht_cond rfl (fun e3 => ?_) (fun e3 => ?_)
 ·replace h := cpos e3 h
  refine ht_region ?_
  refine sT 19 (.ptr 2 0) rfl (v_field_box (off := 0) (a0 := 0) rfl · · · fo26_0 rfl) ?_
  refine sT 20 (.own 16 17 t16.length) rfl (v_load_box1 (id := 2) (off := 0) rfl · · · onT22 rfl rfl (ble _ _ rfl) rfl) ?_
  refine sM 21 (iV t11a) rfl rfl ?_
  refine sP 22 (eShard t1) (eShard t1) ag45 rfl rfl rfl rfl rfl ?_
  obtain ⟨e4, h⟩ := gpos h
  refine sT 23 (.elp 16 17 t11a.toNat 0) rfl (w_idx_own t16 rfl · · · slT22 rfl rfl e4) ?_
  refine sq_cons ⟨_, [(.b 16, .row false 45 17 ((t16.set t11a.toNat t1).map eShard))]⟩ (w_st_elp t16 eShard (eShard t1) t1 rfl trivial rfl sz45 rfl rfl e4 rfl rfl (ones_of rfl) (ble _ _ rfl) rfl) ?_
  refine sq_nil ?_
  refine ht_seq ?_
  refine ht_weak (wk_eq (.c 2 0) (.own 16 17 (t16.set t11a.toNat t1).length) (lset _ _ _ _ _)) ?_
  refine ht_weak (wk_eq (.t 16) (.own 16 17 (t16.set t11a.toNat t1).length) (lset _ _ _ _ _)) ?_
  refine ht_weak (wk_eq (.t 20) (.own 16 17 (t16.set t11a.toNat t1).length) (lset _ _ _ _ _)) ?_
  refine ht_weak (wk_still_row 16 _ _ _ rfl) ?_
  refine ht_weak (wk_row (.c 2 0) (nc 2 0) 16 _ _ _ _ rfl rfl (lm _ _)) ?_
  refine ht_weak (wk_row (.t 16) (nb 16) 16 _ _ _ _ rfl rfl (lm _ _)) ?_
  refine ht_weak (wk_row (.t 20) (nb 20) 16 _ _ _ _ rfl rfl (lm _ _)) ?_
  refine ht_region ?_
  refine sT 31 (.d (.agg (eCell ({t0 with mShards := (t16.set t11a.toNat t1)})))) rfl (w_ldb 2 0 rfl · · · ag26 rfl rfl (ble _ _ rfl) rfl) ?_
  refine sS 4 0 ((eCell ({t0 with mShards := (t16.set t11a.toNat t1)})).map V.d) sz26 rfl rfl rfl rfl rfl (ones_of rfl) rfl ?_
  refine sz ?_
  cases h
  exact ret1 rfl (.cell rfl rfl ag26 (ble _ _ rfl) rfl)
 replace h := cneg e3 h
 refine ht_region ?_
 refine sT 24 (.ptr 2 0) rfl (v_field_box (off := 0) (a0 := 0) rfl · · · fo26_0 rfl) ?_
 refine sT 25 (.own 16 17 t16.length) rfl (v_load_box1 (id := 2) (off := 0) rfl · · · onT22 rfl rfl (ble _ _ rfl) rfl) ?_
 refine sM 26 (iV t11a) rfl rfl ?_
 refine sP 27 (eShard t1) (eShard t1) ag45 rfl rfl rfl rfl rfl ?_
 refine sq_cons ⟨_, [(.b 28, .row false 45 17 (([t1]).map eShard)), (.t 28, .own 28 17 ([t1]).length)]⟩ (w_bsl (id := 28) [(0, .d (.agg (eShard t1)))] [t1] eShard rfl trivial rfl (ble _ _ rfl) slT22 zr45 teShard (ble _ _ rfl) rfl (by kernel_rfl) rfl rfl (by kernel_rfl) (by kernel_rfl)) ?_
 obtain ⟨e5, h⟩ := gpos h
 refine sq_cons ⟨_, [(.b 16, .spent), (.b 29, .row false 45 17 ((List.take t11a.toNat t16 ++ [t1] ++ List.drop t11a.toNat t16).map eShard)), (.t 29, .own 29 17 (List.take t11a.toNat t16 ++ [t1] ++ List.drop t11a.toNat t16).length)]⟩ (w_ins 29 t16 t1 eShard insS143 rfl rfl rfl en143 trivial rfl (ble _ _ rfl) teShard rfl rfl rfl rfl rfl rfl rfl e5) ?_
 refine sT 30 (.ptr 2 0) rfl (v_field_box (off := 0) (a0 := 0) rfl · · · fo26_0 rfl) ?_
 refine sS 2 0 [.own 29 17 (List.take t11a.toNat t16 ++ [t1] ++ List.drop t11a.toNat t16).length] sz22 rfl rfl rfl rfl rfl (ones_of rfl) rfl ?_
 refine sq_nil ?_
 refine ht_seq ?_
 refine ht_weak (wk_still_row 29 _ _ _ rfl) ?_
 refine ht_weak (wk_row (.c 2 0) (nc 2 0) 29 _ _ _ _ rfl rfl (lm _ _)) ?_
 refine ht_weak (wk_row (.t 29) (nb 29) 29 _ _ _ _ rfl rfl (lm _ _)) ?_
 refine ht_region ?_
 refine sT 31 (.d (.agg (eCell ({t0 with mShards := (List.take t11a.toNat t16 ++ [t1] ++ List.drop t11a.toNat t16)})))) rfl (w_ldb 2 0 rfl · · · ag26 rfl rfl (ble _ _ rfl) rfl) ?_
 refine sS 4 0 ((eCell ({t0 with mShards := (List.take t11a.toNat t16 ++ [t1] ++ List.drop t11a.toNat t16)})).map V.d) sz26 rfl rfl rfl rfl rfl (ones_of rfl) rfl ?_
 refine sz ?_
 cases h
 exact ret1 rfl (.cell rfl rfl ag26 (ble _ _ rfl) rfl)
theorem s63 (k : Nat) (t0 : Cell) (t1 : Shard) (t2 : Request) (t3 : Stamp) (r : Cell × Answer) (h : F63 k t0 t1 t2 t3 = some r) : Awp.Spec Tryz.prog amb 63 [(.agg (eCell t0)), (.agg (eShard t1)), (.agg (eRequest t2)), (.agg (eStamp t3))] (.ds [(.agg (eCell r.1)), (.agg (eAnswer r.2))]) := by
 rw [F63] at h
 refine spec_of Tryz.func63 rfl (ble _ _ rfl) fun w0 ok0 lt0 hA => ?_
 refine sr ?_
 refine sq_cons _ (v_box (id := 4) (cs := (eCell t0).map V.d) rfl trivial rfl (ble _ _ rfl) rfl rfl (ones_of rfl) rfl) ?_
 refine sq_cons _ (v_box (id := 5) (cs := (eShard t1).map V.d) rfl trivial rfl (ble _ _ rfl) rfl rfl (ones_of rfl) rfl) ?_
 refine sT 6 (.d (.dp (eRequest t2))) rfl (v_box_d (cs := (eRequest t2)) rfl · · · rfl rfl (ones_of rfl)) ?_
 refine sT 7 (.d (.dp (eStamp t3))) rfl (v_box_d (cs := (eStamp t3)) rfl · · · rfl rfl (ones_of rfl)) ?_
 refine sq_cons _ (v_alloc (id := 8) (cs := zc26) rfl trivial rfl (ble _ _ rfl) zu26 rfl ft26 rfl) ?_
 refine sq_cons _ (v_alloc (id := 9) (cs := zc34) rfl trivial rfl (ble _ _ rfl) zu34 rfl ft34 rfl) ?_
 refine sq_nil ?_
 refine ht_seq ?_
 refine sr ?_
 refine sT 15 (.ptr 5 12) rfl (v_field_box (off := 0) (a0 := 12) rfl · · · fo45_7 rfl) ?_
 refine sT 16 (.d (.sl 11 (t1.mDone.map eDone))) rfl (v_load_box1 (id := 5) (off := 12) rfl · · · onT43 rfl rfl (ble _ _ rfl) rfl) ?_
 refine sD 17 (eRequest t2) fo28_0 rfl rfl rfl ?_
 refine sT 18 (iV t2.mClient) rfl (vl rfl onT3 rfl rfl) ?_
 refine sD 19 (eRequest t2) fo28_1 rfl rfl rfl ?_
 refine sT 20 (iV t2.mReq) rfl (vl rfl onT3 rfl rfl) ?_
 obtain ⟨t21, c1, h⟩ := bpos h
 refine sC 21 (iV t21) (s125 k t1.mDone t2.mClient t2.mReq _ c1) en125 rfl rfl rfl rfl ?_
 refine sq_nil ?_
 refine ht_block ?_
 refine sr ?_
 refine sT 23 (bV (eqI t21 2)) rfl (vb rfl rfl rfl (b_eql rfl)) ?_
 refine sM 22 (bV (eqI t21 2)) rfl rfl ?_
 refine sq_nil ?_
 refine ht_cond rfl (fun e2 => ?_) (fun e2 => ?_)
 ·replace h := cpos e2 h
  refine sr ?_
  refine sT 25 (.ptr 5 12) rfl (v_field_box (off := 0) (a0 := 12) rfl · · · fo45_7 rfl) ?_
  refine sT 26 (.d (.sl 11 (t1.mDone.map eDone))) rfl (v_load_box1 (id := 5) (off := 12) rfl · · · onT43 rfl rfl (ble _ _ rfl) rfl) ?_
  refine sD 27 (eRequest t2) fo28_0 rfl rfl rfl ?_
  refine sT 28 (iV t2.mClient) rfl (vl rfl onT3 rfl rfl) ?_
  obtain ⟨⟨t29a, t29b⟩, c3, h⟩ := bpos h
  refine sC 29 (.tup [.d (.agg (eDone t29a)), bV t29b]) (s126 k t1.mDone t2.mClient _ c3) en126 rfl rfl rfl rfl ?_
  refine sM 24 (.tup [.d (.agg (eDone t29a)), bV t29b]) rfl rfl ?_
  refine sT 30 (.d (.agg (eDone t29a))) rfl (ve rfl rfl rfl) ?_
  refine sT 31 (bV t29b) rfl (ve rfl rfl rfl) ?_
  refine sq_cons _ (v_alloc (id := 10) (cs := zc100) rfl trivial rfl (ble _ _ rfl) zu100 rfl ft100 rfl) ?_
  refine sS 10 0 ((eDone t29a).map V.d) sz100 rfl rfl rfl rfl rfl (ones_of rfl) rfl ?_
  refine sM 11 (bV t29b) rfl rfl ?_
  refine sq_nil ?_
  refine ht_seq ?_
  refine ht_region_draw mixed ?_
  refine rT 32 (.d (.agg (eCell t0))) rfl (w_ldb 4 0 rfl · · · ag26 rfl rfl (ble _ _ rfl) rfl) ?_
  refine rT 33 (.ptr 10 2) rfl (v_field_box (off := 0) (a0 := 2) rfl · · · fo100_2 rfl) ?_
  refine rT 34 (.d (.agg (eAnswer t29a.mAnswer))) rfl (w_ldb 10 2 rfl · · · ag34 rfl rfl (ble _ _ rfl) rfl) ?_
  refine rS 8 0 ((eCell t0).map V.d) sz26 rfl rfl rfl rfl rfl (ones_of rfl) rfl ?_
  refine rS 9 0 ((eAnswer t29a.mAnswer).map V.d) sz34 rfl rfl rfl rfl rfl (ones_of rfl) rfl ?_
  refine rg_nil ⟨by kernel_rfl, ?_⟩
  refine ht_ret ?_
  cases h
  exact ret2 rfl (.cell rfl rfl ag26 (ble _ _ rfl) rfl) (.cell rfl rfl ag34 (ble _ _ rfl) rfl)
 replace h := cneg e2 h
 refine sr ?_
 refine sT 36 (bV (eqI t21 3)) rfl (vb rfl rfl rfl (b_eql rfl)) ?_
 refine sM 35 (bV (eqI t21 3)) rfl rfl ?_
 refine sq_nil ?_
 refine ht_cond rfl (fun e4 => ?_) (fun e4 => ?_)
 ·replace h := cpos e4 h
  refine ht_seq ?_
  refine ht_region_draw mixed ?_
  refine rT 37 (.d (.agg (eCell t0))) rfl (w_ldb 4 0 rfl · · · ag26 rfl rfl (ble _ _ rfl) rfl) ?_
  obtain ⟨t38, c5, h⟩ := bpos h
  refine rC 38 (.d (.agg (eAnswer t38))) (s59 k 10 _ c5) en59 rfl rfl rfl rfl ?_
  refine rS 8 0 ((eCell t0).map V.d) sz26 rfl rfl rfl rfl rfl (ones_of rfl) rfl ?_
  refine rS 9 0 ((eAnswer t38).map V.d) sz34 rfl rfl rfl rfl rfl (ones_of rfl) rfl ?_
  refine rg_nil ⟨by kernel_rfl, ?_⟩
  refine ht_ret ?_
  cases h
  exact ret2 rfl (.cell rfl rfl ag26 (ble _ _ rfl) rfl) (.cell rfl rfl ag34 (ble _ _ rfl) rfl)
 replace h := cneg e4 h
 refine ht_skip ?_
 refine ht_seq ?_
 refine sr ?_
 refine sP 39 (eStamp t3) (eStamp t3) ag24 rfl rfl rfl rfl rfl ?_
 refine sT 40 (.ptr 4 1) rfl (v_field_box (off := 0) (a0 := 1) rfl · · · fo26_1 rfl) ?_
 refine sT 41 (.d (.agg (eStamp t0.mTop))) rfl (w_ldb 4 1 rfl · · · ag24 rfl rfl (ble _ _ rfl) rfl) ?_
 obtain ⟨t42, c6, h⟩ := bpos h
 refine sC 42 (iV t42) (s42 k t3 t0.mTop _ c6) en42 rfl rfl rfl rfl ?_
 refine sT 43 (bV (leI t42 0)) rfl (vb rfl rfl rfl (b_leq rfl)) ?_
 refine sq_nil ?_
 refine ht_cond rfl (fun e7 => ?_) (fun e7 => ?_)
 ·replace h := cpos e7 h
  refine ht_seq ?_
  refine ht_region_draw mixed ?_
  refine rT 44 (.d (.agg (eCell t0))) rfl (w_ldb 4 0 rfl · · · ag26 rfl rfl (ble _ _ rfl) rfl) ?_
  obtain ⟨t45, c8, h⟩ := bpos h
  refine rC 45 (.d (.agg (eAnswer t45))) (s59 k 1 _ c8) en59 rfl rfl rfl rfl ?_
  refine rS 8 0 ((eCell t0).map V.d) sz26 rfl rfl rfl rfl rfl (ones_of rfl) rfl ?_
  refine rS 9 0 ((eAnswer t45).map V.d) sz34 rfl rfl rfl rfl rfl (ones_of rfl) rfl ?_
  refine rg_nil ⟨by kernel_rfl, ?_⟩
  refine ht_ret ?_
  cases h
  exact ret2 rfl (.cell rfl rfl ag26 (ble _ _ rfl) rfl) (.cell rfl rfl ag34 (ble _ _ rfl) rfl)
 replace h := cneg e7 h
 refine ht_skip ?_
 refine sr ?_
 refine sT 46 (.d (.agg (eCell t0))) rfl (w_ldb 4 0 rfl · · · ag26 rfl rfl (ble _ _ rfl) rfl) ?_
 refine sT 47 (.d (.agg (eShard t1))) rfl (w_ldb 5 0 rfl · · · ag45 rfl rfl (ble _ _ rfl) rfl) ?_
 refine sD 48 (eRequest t2) fo28_3 rfl rfl rfl ?_
 refine sT 49 (sV t2.mKey) rfl (vl rfl onT9 rfl rfl) ?_
 obtain ⟨t50, c9, h⟩ := bpos h
 refine sC 50 (.d (.agg (eAnswer t50))) (s64 k t0 t1 t2.mKey _ c9) en64 rfl rfl rfl rfl ?_
 refine sq_cons _ (v_alloc (id := 12) (cs := zc34) rfl trivial rfl (ble _ _ rfl) zu34 rfl ft34 rfl) ?_
 refine sS 12 0 ((eAnswer t50).map V.d) sz34 rfl rfl rfl rfl rfl (ones_of rfl) rfl ?_
 refine sq_nil ?_
 refine sr ?_
 refine sP 51 (eStamp t3) (eStamp t3) ag24 rfl rfl rfl rfl rfl ?_
 refine sT 52 (.ptr 12 4) rfl (v_field_box (off := 0) (a0 := 4) rfl · · · fo34_2 rfl) ?_
 refine sT 53 (bV t50.mFound) rfl (v_load_box1 (id := 12) (off := 4) rfl · · · onT4 rfl rfl (ble _ _ rfl) rfl) ?_
 refine sT 54 (.d (.agg (eAnswer (⟨0, t3, t50.mFound, (⟨#[]⟩ : ByteArray), ([] : List Item), (⟨#[]⟩ : ByteArray), false⟩ : Answer)))) rfl (w_bld zc34 ((eAnswer (⟨0, t3, t50.mFound, (⟨#[]⟩ : ByteArray), ([] : List Item), (⟨#[]⟩ : ByteArray), false⟩ : Answer)).map V.d) [(1, .d (.agg (eStamp t3))), (2, bV t50.mFound)] rfl · · · zw34 rfl ft34 rfl rfl rfl rfl) ?_
 refine sq_cons _ (v_alloc (id := 13) (cs := zc34) rfl trivial rfl (ble _ _ rfl) zu34 rfl ft34 rfl) ?_
 refine sS 13 0 ((eAnswer (⟨0, t3, t50.mFound, (⟨#[]⟩ : ByteArray), ([] : List Item), (⟨#[]⟩ : ByteArray), false⟩ : Answer)).map V.d) sz34 rfl rfl rfl rfl rfl (ones_of rfl) rfl ?_
 refine sq_nil ?_
 refine sr ?_
 refine sM 14 (iV 0) rfl rfl ?_
 refine sq_nil ?_
 refine ht_bj h (fun (t14, t5c5, t13c0, t13c5) => tell [(.b 4, .box false 5), (.b 5, .box false 17), (.b 8, .box false 5), (.b 9, .box false 9), (.b 13, .box false 9), (.c 4 0, .d (.sl 17 (t0.mShards.map eShard))), (.c 4 1, iV t0.mTop.mWall), (.c 4 2, iV t0.mTop.mTick), (.c 4 3, iV t0.mTop.mNode), (.c 4 4, iV t0.mDropped), (.c 5 0, iV t1.mID), (.c 5 1, iV t1.mEpoch), (.c 5 2, sV t1.mSpan.mLo), (.c 5 3, sV t1.mSpan.mHi), (.c 5 4, iV t1.mPhase), (.c 5 5, .d (.sl 2 (t5c5.map eEntry))), (.c 5 6, iV t1.mMark.mWall), (.c 5 7, iV t1.mMark.mTick), (.c 5 8, iV t1.mMark.mNode), (.c 5 9, iV t1.mTop.mWall), (.c 5 10, iV t1.mTop.mTick), (.c 5 11, iV t1.mTop.mNode), (.c 5 12, .d (.sl 11 (t1.mDone.map eDone))), (.c 5 13, iV t1.mHold), (.c 5 14, iV t1.mSeen), (.c 5 15, iV t1.mMove), (.c 5 16, iV t1.mClosed), (.c 8 0, .d (.sl 17 (([] : List Shard).map eShard))), (.c 8 1, iV 0), (.c 8 2, iV 0), (.c 8 3, iV 0), (.c 8 4, iV 0), (.c 9 0, iV 0), (.c 9 1, iV 0), (.c 9 2, iV 0), (.c 9 3, iV 0), (.c 9 4, bV false), (.c 9 5, sV (⟨#[]⟩ : ByteArray)), (.c 9 6, .d (.sl 2 (([] : List Item).map eItem))), (.c 9 7, sV (⟨#[]⟩ : ByteArray)), (.c 9 8, bV false), (.c 13 0, iV t13c0), (.c 13 1, iV t3.mWall), (.c 13 2, iV t3.mTick), (.c 13 3, iV t3.mNode), (.c 13 4, bV t50.mFound), (.c 13 5, sV t13c5), (.c 13 6, .d (.sl 2 (([] : List Item).map eItem))), (.c 13 7, sV (⟨#[]⟩ : ByteArray)), (.c 13 8, bV false), (.t 4, .ptr 4 0), (.t 5, .ptr 5 0), (.t 6, .d (.dp (eRequest t2))), (.t 7, .d (.dp (eStamp t3))), (.t 8, .ptr 8 0), (.t 9, .ptr 9 0), (.t 13, .ptr 13 0), (.t 14, iV t14)]) (fun v10 h => ?_) (fun v10 K11 h j13 => ?_)
 ·obtain ⟨t14, t5c5, t13c0, t13c5⟩ := v10
  refine ht_seq ?_
  refine sr ?_
  refine sM 112 (iV t14) rfl rfl ?_
  refine sT 113 (bV (!eqI t14 0)) rfl (vb rfl rfl rfl (b_neq rfl)) ?_
  refine sq_nil ?_
  refine ht_cond rfl (fun e51 => ?_) (fun e51 => ?_)
  ·replace h := cpos e51 h
   refine ht_seq ?_
   refine ht_region_draw mixed ?_
   refine rT 114 (.d (.agg (eCell t0))) rfl (w_ldb 4 0 rfl · · · ag26 rfl rfl (ble _ _ rfl) rfl) ?_
   refine rM 115 (iV t14) rfl rfl ?_
   obtain ⟨t116, c52, h⟩ := bpos h
   refine rC 116 (.d (.agg (eAnswer t116))) (s59 k t14 _ c52) en59 rfl rfl rfl rfl ?_
   refine rS 8 0 ((eCell t0).map V.d) sz26 rfl rfl rfl rfl rfl (ones_of rfl) rfl ?_
   refine rS 9 0 ((eAnswer t116).map V.d) sz34 rfl rfl rfl rfl rfl (ones_of rfl) rfl ?_
   refine rg_nil ⟨by kernel_rfl, ?_⟩
   refine ht_ret ?_
   cases h
   exact ret2 rfl (.cell rfl rfl ag26 (ble _ _ rfl) rfl) (.cell rfl rfl ag34 (ble _ _ rfl) rfl)
  replace h := cneg e51 h
  refine ht_skip ?_
  refine ht_seq ?_
  refine sr ?_
  refine sT 118 (.ptr 5 12) rfl (v_field_box (off := 0) (a0 := 12) rfl · · · fo45_7 rfl) ?_
  refine sT 119 (.d (.sl 11 (t1.mDone.map eDone))) rfl (v_load_box1 (id := 5) (off := 12) rfl · · · onT43 rfl rfl (ble _ _ rfl) rfl) ?_
  refine sD 120 (eRequest t2) fo28_0 rfl rfl rfl ?_
  refine sT 121 (iV t2.mClient) rfl (vl rfl onT3 rfl rfl) ?_
  refine sD 122 (eRequest t2) fo28_1 rfl rfl rfl ?_
  refine sT 123 (iV t2.mReq) rfl (vl rfl onT3 rfl rfl) ?_
  refine sT 124 (.d (.agg (eAnswer (⟨t13c0, t3, t50.mFound, t13c5, ([] : List Item), (⟨#[]⟩ : ByteArray), false⟩ : Answer)))) rfl (w_ldb 13 0 rfl · · · ag34 rfl rfl (ble _ _ rfl) rfl) ?_
  refine sT 125 (.d (.agg (eDone (⟨t2.mClient, t2.mReq, (⟨t13c0, t3, t50.mFound, t13c5, ([] : List Item), (⟨#[]⟩ : ByteArray), false⟩ : Answer)⟩ : Done)))) rfl (w_bld zc100 ((eDone (⟨t2.mClient, t2.mReq, (⟨t13c0, t3, t50.mFound, t13c5, ([] : List Item), (⟨#[]⟩ : ByteArray), false⟩ : Answer)⟩ : Done)).map V.d) [(0, iV t2.mClient), (1, iV t2.mReq), (2, .d (.agg (eAnswer (⟨t13c0, t3, t50.mFound, t13c5, ([] : List Item), (⟨#[]⟩ : ByteArray), false⟩ : Answer))))] rfl · · · zw100 rfl ft100 rfl rfl rfl rfl) ?_
  obtain ⟨⟨t126a, t126b⟩, c53, h⟩ := bpos h
  refine sC 126 (.tup [.d (.sl 11 (t126a.map eDone)), iV t126b]) (s128 k t1.mDone (⟨t2.mClient, t2.mReq, (⟨t13c0, t3, t50.mFound, t13c5, ([] : List Item), (⟨#[]⟩ : ByteArray), false⟩ : Answer)⟩ : Done) _ c53) en128 rfl rfl rfl rfl ?_
  refine sM 117 (.tup [.d (.sl 11 (t126a.map eDone)), iV t126b]) rfl rfl ?_
  refine sT 127 (.d (.sl 11 (t126a.map eDone))) rfl (ve rfl rfl rfl) ?_
  refine sT 128 (iV t126b) rfl (ve rfl rfl rfl) ?_
  refine sT 129 (.ptr 5 12) rfl (v_field_box (off := 0) (a0 := 12) rfl · · · fo45_7 rfl) ?_
  refine sS 5 12 ([(.sl 11 (t126a.map eDone))].map V.d) sz43 rfl rfl rfl rfl rfl (ones_of rfl) rfl ?_
  refine sM 14 (iV t126b) rfl rfl ?_
  refine sq_nil ?_
  refine sr ?_
  refine sM 130 (iV t126b) rfl rfl ?_
  refine sT 131 (bV (!eqI t126b 0)) rfl (vb rfl rfl rfl (b_neq rfl)) ?_
  refine sq_nil ?_
  refine ht_cond rfl (fun e54 => ?_) (fun e54 => ?_)
  ·replace h := cpos e54 h
   refine ht_seq ?_
   refine ht_region_draw mixed ?_
   refine rT 132 (.d (.agg (eCell t0))) rfl (w_ldb 4 0 rfl · · · ag26 rfl rfl (ble _ _ rfl) rfl) ?_
   refine rM 133 (iV t126b) rfl rfl ?_
   obtain ⟨t134, c55, h⟩ := bpos h
   refine rC 134 (.d (.agg (eAnswer t134))) (s59 k t126b _ c55) en59 rfl rfl rfl rfl ?_
   refine rS 8 0 ((eCell t0).map V.d) sz26 rfl rfl rfl rfl rfl (ones_of rfl) rfl ?_
   refine rS 9 0 ((eAnswer t134).map V.d) sz34 rfl rfl rfl rfl rfl (ones_of rfl) rfl ?_
   refine rg_nil ⟨by kernel_rfl, ?_⟩
   refine ht_ret ?_
   cases h
   exact ret2 rfl (.cell rfl rfl ag26 (ble _ _ rfl) rfl) (.cell rfl rfl ag34 (ble _ _ rfl) rfl)
  replace h := cneg e54 h
  refine ht_skip ?_
  refine sr ?_
  refine sT 135 (.d (.agg (eCell t0))) rfl (w_ldb 4 0 rfl · · · ag26 rfl rfl (ble _ _ rfl) rfl) ?_
  refine sT 136 (.d (.agg (eShard ({t1 with mEntries := t5c5, mDone := t126a})))) rfl (w_ldb 5 0 rfl · · · ag45 rfl rfl (ble _ _ rfl) rfl) ?_
  obtain ⟨t137, c56, h⟩ := bpos h
  refine sC 137 (.d (.agg (eCell t137))) (s95 k t0 ({t1 with mEntries := t5c5, mDone := t126a}) _ c56) en95 rfl rfl rfl rfl ?_
  refine sS 4 0 ((eCell t137).map V.d) sz26 rfl rfl rfl rfl rfl (ones_of rfl) rfl ?_
  refine sq_nil ?_
  refine sr ?_
  refine sP 138 (eStamp t3) (eStamp t3) ag24 rfl rfl rfl rfl rfl ?_
  refine sT 139 (.ptr 4 1) rfl (v_field_box (off := 0) (a0 := 1) rfl · · · fo26_1 rfl) ?_
  refine sS 4 1 ((eStamp t3).map V.d) sz24 rfl rfl rfl rfl rfl (ones_of rfl) rfl ?_
  refine sq_nil ?_
  refine ht_seq ?_
  refine ht_region_draw mixed ?_
  refine rT 140 (.d (.agg (eCell ({t137 with mTop := t3})))) rfl (w_ldb 4 0 rfl · · · ag26 rfl rfl (ble _ _ rfl) rfl) ?_
  refine rT 141 (.d (.agg (eAnswer (⟨t13c0, t3, t50.mFound, t13c5, ([] : List Item), (⟨#[]⟩ : ByteArray), false⟩ : Answer)))) rfl (w_ldb 13 0 rfl · · · ag34 rfl rfl (ble _ _ rfl) rfl) ?_
  refine rS 8 0 ((eCell ({t137 with mTop := t3})).map V.d) sz26 rfl rfl rfl rfl rfl (ones_of rfl) rfl ?_
  refine rS 9 0 ((eAnswer (⟨t13c0, t3, t50.mFound, t13c5, ([] : List Item), (⟨#[]⟩ : ByteArray), false⟩ : Answer)).map V.d) sz34 rfl rfl rfl rfl rfl (ones_of rfl) rfl ?_
  refine rg_nil ⟨by kernel_rfl, ?_⟩
  refine ht_ret ?_
  cases h
  exact ret2 rfl (.cell rfl rfl ag26 (ble _ _ rfl) rfl) (.cell rfl rfl ag34 (ble _ _ rfl) rfl)
 refine ht_block ?_
 refine sr ?_
 refine sD 56 (eRequest t2) fo28_2 rfl rfl rfl ?_
 refine sT 57 (iV t2.mKind) rfl (vl rfl onT3 rfl rfl) ?_
 refine sT 58 (bV (eqI t2.mKind 3)) rfl (vb rfl rfl rfl (b_eql rfl)) ?_
 refine sM 59 (bV (eqI t2.mKind 3)) rfl rfl ?_
 refine sG 60 (.ptr 12 4) rfl rfl (fun e15 => (v_field_box (off := 0) (a0 := 4) rfl · · · fo34_2 rfl)) ?_
 refine sG 61 (bV t50.mFound) rfl rfl (fun e16 => (v_load_box1 (id := 12) (off := 4) rfl · · · onT4 (gv e16) rfl (ble _ _ rfl) rfl)) ?_
 refine sG 62 (.d (.dp (List.drop 5 (eRequest t2)))) rfl rfl (fun e17 => (vD (eRequest t2) fo28_5 · · · rfl rfl)) ?_
 refine sG 63 (bV t2.mHad) rfl rfl (fun e18 => (vl rfl onT4 (gv e18) rfl)) ?_
 refine sG 64 (bV (!(t50.mFound == t2.mHad))) rfl rfl (fun e19 => (vb rfl (gv e19) (gv e19) (b_neB und4 rfl))) ?_
 refine sG 65 (bV (!(t50.mFound == t2.mHad))) rfl rfl (fun e20 => (vm rfl (gv e20))) ?_
 refine sH 66 (.ptr 12 4) rfl rfl (fun e21 e22 => (v_field_box (off := 0) (a0 := 4) rfl · · · fo34_2 rfl)) ?_
 refine sH 67 (bV t50.mFound) rfl rfl (fun e23 e24 => (v_load_box1 (id := 12) (off := 4) rfl · · · onT4 (gv (aT e23 (nF e24))) rfl (ble _ _ rfl) rfl)) ?_
 refine sH 68 (bV t50.mFound) rfl rfl (fun e25 e26 => (vm rfl (gv (aT e25 (nF e26))))) ?_
 refine sI 69 (.ptr 12 5) rfl rfl (fun e27 e28 => (v_field_box (off := 0) (a0 := 5) rfl · · · fo34_3 rfl)) ?_
 refine sI 70 (sV t50.mValue) rfl rfl (fun e29 e30 => (v_load_box1 (id := 12) (off := 5) rfl · · · onT9 (gv (aT e29 e30)) rfl (ble _ _ rfl) rfl)) ?_
 refine sI 71 (.d (.dp (List.drop 6 (eRequest t2)))) rfl rfl (fun e31 e32 => (vD (eRequest t2) fo28_6 · · · rfl rfl)) ?_
 refine sI 72 (sV t2.mOld) rfl rfl (fun e33 e34 => (vl rfl onT9 (gv (aT e33 e34)) rfl)) ?_
 refine sI 73 (bV (!strEq t50.mValue t2.mOld)) rfl rfl (fun e35 e36 => (vb rfl (gv (aT e35 e36)) (gv (aT e35 e36)) (b_neS rfl))) ?_
 refine sH 74 (bV (t50.mFound && (!strEq t50.mValue t2.mOld))) rfl rfl (fun e37 e38 => (vp rfl (gv (aT e37 (nF e38))) (fun e39 => (gv (aT (aT e37 (nF e38)) e39))) (fun e40 => rfl) (pA _ _))) ?_
 refine sG 75 (bV ((!(t50.mFound == t2.mHad)) || (t50.mFound && (!strEq t50.mValue t2.mOld)))) rfl rfl (fun e41 => (vp rfl (gv e41) (fun e42 => rfl) (fun e43 => (gv (aT e41 (nF e43)))) (pO _ _))) ?_
 refine sT 76 (bV ((eqI t2.mKind 3) && ((!(t50.mFound == t2.mHad)) || (t50.mFound && (!strEq t50.mValue t2.mOld))))) rfl (vp rfl rfl (fun e44 => (gv e44)) (fun e45 => rfl) (pA _ _)) ?_
 refine sM 55 (bV ((eqI t2.mKind 3) && ((!(t50.mFound == t2.mHad)) || (t50.mFound && (!strEq t50.mValue t2.mOld))))) rfl rfl ?_
 refine sq_nil ?_
 refine ht_cond rfl (fun e46 => ?_) (fun e46 => ?_)
 ·replace h := cpos e46 h
  refine ht_region_draw mixed ?_
  refine rT 77 (.ptr 12 5) rfl (v_field_box (off := 0) (a0 := 5) rfl · · · fo34_3 rfl) ?_
  refine rT 78 (sV t50.mValue) rfl (v_load_box1 (id := 12) (off := 5) rfl · · · onT9 rfl rfl (ble _ _ rfl) rfl) ?_
  refine rT 79 (.ptr 13 0) rfl (v_field_box (off := 0) (a0 := 0) rfl · · · fo34_0 rfl) ?_
  refine rS 13 0 ([(.s (.int .i64 15))].map V.d) sz31 rfl rfl rfl rfl rfl (ones_of rfl) rfl ?_
  refine rT 80 (.ptr 13 5) rfl (v_field_box (off := 0) (a0 := 5) rfl · · · fo34_3 rfl) ?_
  refine rS 13 5 ([(.s (.string t50.mValue))].map V.d) sz9 rfl rfl rfl rfl rfl (ones_of rfl) rfl ?_
  refine rg_nil ⟨by kernel_rfl, ?_⟩
  cases h
  exact j13 _ (wi rfl rfl)
 replace h := cneg e46 h
 refine sr ?_
 refine sD 82 (eRequest t2) fo28_2 rfl rfl rfl ?_
 refine sT 83 (iV t2.mKind) rfl (vl rfl onT3 rfl rfl) ?_
 refine sT 84 (bV (!eqI t2.mKind 2)) rfl (vb rfl rfl rfl (b_neq rfl)) ?_
 refine sM 81 (bV (!eqI t2.mKind 2)) rfl rfl ?_
 refine sq_nil ?_
 refine ht_cond rfl (fun e47 => ?_) (fun e47 => ?_)
 ·replace h := cpos e47 h
  refine ht_region ?_
  refine sT 86 (.ptr 5 5) rfl (v_field_box (off := 0) (a0 := 5) rfl · · · fo45_4 rfl) ?_
  refine sT 87 (.d (.sl 2 (t1.mEntries.map eEntry))) rfl (v_load_box1 (id := 5) (off := 5) rfl · · · onT42 rfl rfl (ble _ _ rfl) rfl) ?_
  refine sD 88 (eRequest t2) fo28_3 rfl rfl rfl ?_
  refine sT 89 (sV t2.mKey) rfl (vl rfl onT9 rfl rfl) ?_
  refine sP 90 (eStamp t3) (eStamp t3) ag24 rfl rfl rfl rfl rfl ?_
  refine sD 91 (eRequest t2) fo28_4 rfl rfl rfl ?_
  refine sT 92 (sV t2.mValue) rfl (vl rfl onT9 rfl rfl) ?_
  refine sT 93 (.d (.agg (eVersion (⟨t3, false, t2.mValue⟩ : Version)))) rfl (w_bld zc93 ((eVersion (⟨t3, false, t2.mValue⟩ : Version)).map V.d) [(0, .d (.agg (eStamp t3))), (2, sV t2.mValue)] rfl · · · zw93 rfl ft93 rfl rfl rfl rfl) ?_
  obtain ⟨⟨t94a, t94b⟩, c48, h⟩ := bpos h
  refine sC 94 (.tup [.d (.sl 2 (t94a.map eEntry)), iV t94b]) (s127 k t1.mEntries t2.mKey (⟨t3, false, t2.mValue⟩ : Version) _ c48) en127 rfl rfl rfl rfl ?_
  refine sM 85 (.tup [.d (.sl 2 (t94a.map eEntry)), iV t94b]) rfl rfl ?_
  refine sT 95 (.d (.sl 2 (t94a.map eEntry))) rfl (ve rfl rfl rfl) ?_
  refine sT 96 (iV t94b) rfl (ve rfl rfl rfl) ?_
  refine sT 97 (.ptr 5 5) rfl (v_field_box (off := 0) (a0 := 5) rfl · · · fo45_4 rfl) ?_
  refine sS 5 5 ([(.sl 2 (t94a.map eEntry))].map V.d) sz42 rfl rfl rfl rfl rfl (ones_of rfl) rfl ?_
  refine sM 14 (iV t94b) rfl rfl ?_
  refine sq_nil ?_
  cases h
  exact j13 _ (wi rfl rfl)
 replace h := cneg e47 h
 refine sr ?_
 refine sT 99 (.ptr 12 4) rfl (v_field_box (off := 0) (a0 := 4) rfl · · · fo34_2 rfl) ?_
 refine sT 100 (bV t50.mFound) rfl (v_load_box1 (id := 12) (off := 4) rfl · · · onT4 rfl rfl (ble _ _ rfl) rfl) ?_
 refine sM 98 (bV t50.mFound) rfl rfl ?_
 refine sq_nil ?_
 refine ht_cond rfl (fun e49 => ?_) (fun e49 => ?_)
 ·replace h := cpos e49 h
  refine ht_region ?_
  refine sT 102 (.ptr 5 5) rfl (v_field_box (off := 0) (a0 := 5) rfl · · · fo45_4 rfl) ?_
  refine sT 103 (.d (.sl 2 (t1.mEntries.map eEntry))) rfl (v_load_box1 (id := 5) (off := 5) rfl · · · onT42 rfl rfl (ble _ _ rfl) rfl) ?_
  refine sD 104 (eRequest t2) fo28_3 rfl rfl rfl ?_
  refine sT 105 (sV t2.mKey) rfl (vl rfl onT9 rfl rfl) ?_
  refine sP 106 (eStamp t3) (eStamp t3) ag24 rfl rfl rfl rfl rfl ?_
  refine sT 107 (.d (.agg (eVersion (⟨t3, true, (⟨#[]⟩ : ByteArray)⟩ : Version)))) rfl (w_bld zc93 ((eVersion (⟨t3, true, (⟨#[]⟩ : ByteArray)⟩ : Version)).map V.d) [(0, .d (.agg (eStamp t3))), (1, bV true)] rfl · · · zw93 rfl ft93 rfl rfl rfl rfl) ?_
  obtain ⟨⟨t108a, t108b⟩, c50, h⟩ := bpos h
  refine sC 108 (.tup [.d (.sl 2 (t108a.map eEntry)), iV t108b]) (s127 k t1.mEntries t2.mKey (⟨t3, true, (⟨#[]⟩ : ByteArray)⟩ : Version) _ c50) en127 rfl rfl rfl rfl ?_
  refine sM 101 (.tup [.d (.sl 2 (t108a.map eEntry)), iV t108b]) rfl rfl ?_
  refine sT 109 (.d (.sl 2 (t108a.map eEntry))) rfl (ve rfl rfl rfl) ?_
  refine sT 110 (iV t108b) rfl (ve rfl rfl rfl) ?_
  refine sT 111 (.ptr 5 5) rfl (v_field_box (off := 0) (a0 := 5) rfl · · · fo45_4 rfl) ?_
  refine sS 5 5 ([(.sl 2 (t108a.map eEntry))].map V.d) sz42 rfl rfl rfl rfl rfl (ones_of rfl) rfl ?_
  refine sM 14 (iV t108b) rfl rfl ?_
  refine sq_nil ?_
  cases h
  exact j13 _ (wi rfl rfl)
 replace h := cneg e49 h
 refine ht_skip ?_
 cases h
 exact j13 _ (wi rfl rfl)
theorem s37 (k : Nat) (t0 : Stamp) (t1 : Stamp) (r : Stamp) (h : F37 k t0 t1 = some r) : Awp.Spec Tryz.prog amb 37 [(.agg (eStamp t0)), (.agg (eStamp t1))] (.ds [(.agg (eStamp r))]) := by
 rw [F37] at h
 refine spec_of Tryz.func37 rfl (ble _ _ rfl) fun w0 ok0 lt0 hA => ?_
 refine sr ?_
 refine sT 2 (.d (.dp (eStamp t0))) rfl (v_box_d (cs := (eStamp t0)) rfl · · · rfl rfl (ones_of rfl)) ?_
 refine sT 3 (.d (.dp (eStamp t1))) rfl (v_box_d (cs := (eStamp t1)) rfl · · · rfl rfl (ones_of rfl)) ?_
 refine sq_cons _ (v_alloc (id := 4) (cs := zc24) rfl trivial rfl (ble _ _ rfl) zu24 rfl ft24 rfl) ?_
 refine sq_nil ?_
 refine ht_seq ?_
 refine sr ?_
 refine sP 5 (eStamp t0) (eStamp t0) ag24 rfl rfl rfl rfl rfl ?_
 refine sP 6 (eStamp t1) (eStamp t1) ag24 rfl rfl rfl rfl rfl ?_
 obtain ⟨t7, c1, h⟩ := bpos h
 refine sC 7 (iV t7) (s42 k t0 t1 _ c1) en42 rfl rfl rfl rfl ?_
 refine sT 8 (bV (ltI t7 0)) rfl (vb rfl rfl rfl (b_lss rfl)) ?_
 refine sq_nil ?_
 refine ht_cond rfl (fun e2 => ?_) (fun e2 => ?_)
 ·replace h := cpos e2 h
  refine sr ?_
  refine sP 9 (eStamp t1) (eStamp t1) ag24 rfl rfl rfl rfl rfl ?_
  refine sS 4 0 ((eStamp t1).map V.d) sz24 rfl rfl rfl rfl rfl (ones_of rfl) rfl ?_
  refine sz ?_
  cases h
  exact ret1 rfl (.cell rfl rfl ag24 (ble _ _ rfl) rfl)
 replace h := cneg e2 h
 refine ht_skip ?_
 refine sr ?_
 refine sP 10 (eStamp t0) (eStamp t0) ag24 rfl rfl rfl rfl rfl ?_
 refine sS 4 0 ((eStamp t0).map V.d) sz24 rfl rfl rfl rfl rfl (ones_of rfl) rfl ?_
 refine sz ?_
 cases h
 exact ret1 rfl (.cell rfl rfl ag24 (ble _ _ rfl) rfl)
theorem s162 (k : Nat) (t0 : List Version) (t1 : Stamp) (r : ByteArray × Bool) (h : F162 k t0 t1 = some r) : Awp.Spec Tryz.prog amb 162 [(.sl 5 (t0.map eVersion)), (.agg (eStamp t1))] (.ds [(.s (.string r.1)), (.s (.bool r.2))]) := by
 rw [F162] at h
 refine spec_of Tryz.func162 rfl (ble _ _ rfl) fun w0 ok0 lt0 hA => ?_
 refine sr ?_
 refine sT 3 (.d (.dp (eStamp t1))) rfl (v_box_d (cs := (eStamp t1)) rfl · · · rfl rfl (ones_of rfl)) ?_
 refine sM 4 (sV (⟨#[]⟩ : ByteArray)) rfl rfl ?_
 refine sM 5 (bV false) rfl rfl ?_
 refine sq_nil ?_
 refine sr ?_
 refine sM 9 (.d (.sl 5 (t0.map eVersion))) rfl rfl ?_
 refine sP 10 (eStamp t1) (eStamp t1) ag24 rfl rfl rfl rfl rfl ?_
 obtain ⟨⟨t11a, t11b⟩, c1, h⟩ := bpos h
 refine sC 11 (.tup [.d (.agg (eVersion t11a)), bV t11b]) (s150 k t0 t1 _ c1) en150 rfl rfl rfl rfl ?_
 refine sM 8 (.tup [.d (.agg (eVersion t11a)), bV t11b]) rfl rfl ?_
 refine sT 12 (.d (.agg (eVersion t11a))) rfl (ve rfl rfl rfl) ?_
 refine sT 13 (bV t11b) rfl (ve rfl rfl rfl) ?_
 refine sq_cons _ (v_alloc (id := 6) (cs := zc93) rfl trivial rfl (ble _ _ rfl) zu93 rfl ft93 rfl) ?_
 refine sS 6 0 ((eVersion t11a).map V.d) sz93 rfl rfl rfl rfl rfl (ones_of rfl) rfl ?_
 refine sM 7 (bV t11b) rfl rfl ?_
 refine sq_nil ?_
 refine ht_seq ?_
 refine ht_region_draw mixed ?_
 refine rT 14 (.ptr 6 4) rfl (v_field_box (off := 0) (a0 := 4) rfl · · · fo93_2 rfl) ?_
 refine rT 15 (sV t11a.mValue) rfl (v_load_box1 (id := 6) (off := 4) rfl · · · onT9 rfl rfl (ble _ _ rfl) rfl) ?_
 refine rM 16 (bV t11b) rfl rfl ?_
 refine rM 17 (bV t11b) rfl rfl ?_
 refine rG 18 (.ptr 6 3) rfl rfl (fun e2 => (v_field_box (off := 0) (a0 := 3) rfl · · · fo93_1 rfl)) ?_
 refine rG 19 (bV t11a.mGone) rfl rfl (fun e3 => (v_load_box1 (id := 6) (off := 3) rfl · · · onT4 (gv e3) rfl (ble _ _ rfl) rfl)) ?_
 refine rG 20 (bV (!t11a.mGone)) rfl rfl (fun e4 => (vu rfl (gv e4) (u_not rfl))) ?_
 refine rT 21 (bV (t11b && (!t11a.mGone))) rfl (vp rfl rfl (fun e5 => (gv e5)) (fun e6 => rfl) (pA _ _)) ?_
 refine rM 4 (sV t11a.mValue) rfl rfl ?_
 refine rM 5 (bV (t11b && (!t11a.mGone))) rfl rfl ?_
 refine rg_nil ⟨by kernel_rfl, ?_⟩
 refine ht_ret ?_
 cases h
 exact ret2 rfl (.tmp rfl) (.tmp rfl)
theorem s129 (k : Nat) (t0 : List Entry) (t1 : ByteArray) (t2 : ByteArray) (t3 : Stamp) (t4 : Int) (r : (List Item) × ByteArray × Bool) (h : F129 k t0 t1 t2 t3 t4 = some r) : Awp.Spec Tryz.prog amb 129 [(.sl 2 (t0.map eEntry)), (.s (.string t1)), (.s (.string t2)), (.agg (eStamp t3)), (.s (.int .i64 t4))] (.ds [(.sl 2 (r.1.map eItem)), (.s (.string r.2.1)), (.s (.bool r.2.2))]) := by
 rw [F129] at h
 refine spec_of Tryz.func129 rfl (ble _ _ rfl) fun w0 ok0 lt0 hA => ?_
 refine sr ?_
 refine sT 8 (.d (.dp (eStamp t3))) rfl (v_box_d (cs := (eStamp t3)) rfl · · · rfl rfl (ones_of rfl)) ?_
 refine sM 10 (.d (.s (.slice none 0 0))) rfl rfl ?_
 refine sM 11 (sV (⟨#[]⟩ : ByteArray)) rfl rfl ?_
 refine sM 12 (bV false) rfl rfl ?_
 refine sq_nil ?_
 refine ht_seq ?_
 refine sr ?_
 refine sM 20 (.d (.sl 2 (t0.map eEntry))) rfl rfl ?_
 obtain ⟨t21, c1, h⟩ := bpos h
 refine sC 21 (bV t21) (s81 k t0 _ c1) en81 rfl rfl rfl rfl ?_
 refine sT 22 (bV (!t21)) rfl (vu rfl rfl (u_not rfl)) ?_
 refine sq_nil ?_
 refine ht_cond rfl (fun e2 => ?_) (fun e2 => ?_)
 ·replace h := cpos e2 h
  refine sr ?_
  refine sM 10 (.d (.s (.slice none 0 0))) rfl rfl ?_
  refine sM 11 (sV (⟨#[]⟩ : ByteArray)) rfl rfl ?_
  refine sM 12 (bV false) rfl rfl ?_
  refine sz ?_
  cases h
  exact retM_wk (wk_nil (.t 10) (nb 10) 2 rfl) (ret3 rfl (.tmp rfl) (.tmp rfl) (.tmp rfl))
 replace h := cneg e2 h
 refine ht_skip ?_
 refine sr ?_
 refine sM 13 (.d (.s (.slice none 0 0))) rfl rfl ?_
 refine sq_nil ?_
 refine sr ?_
 refine sM 24 (.d (.sl 2 (t0.map eEntry))) rfl rfl ?_
 refine sM 25 (sV t1) rfl rfl ?_
 obtain ⟨⟨t26a, t26b⟩, c3, h⟩ := bpos h
 refine sC 26 (.tup [iV t26a, bV t26b]) (s148 k t0 t1 _ c3) en148 rfl rfl rfl rfl ?_
 refine sM 23 (.tup [iV t26a, bV t26b]) rfl rfl ?_
 refine sT 27 (iV t26a) rfl (ve rfl rfl rfl) ?_
 refine sT 28 (bV t26b) rfl (ve rfl rfl rfl) ?_
 refine sM 14 (iV t26a) rfl rfl ?_
 refine sM 15 (bV t26b) rfl rfl ?_
 refine sq_nil ?_
 refine ht_gj (go_id' h) (fun t13 => tell [(.b 1013, .row false 110 2 (t13.map eItem)), (.t 13, .own 1013 2 t13.length)]) (fun t13 h => ?_) (fun v4 K5 h j7 r8 => ?_)
 ·refine sr ?_
  refine sM 70 (.own 1013 2 t13.length) rfl rfl ?_
  refine sM 10 (.own 1013 2 t13.length) rfl rfl ?_
  refine sM 11 (sV (⟨#[]⟩ : ByteArray)) rfl rfl ?_
  refine sM 12 (bV false) rfl rfl ?_
  refine sz ?_
  cases h
  exact retM_wk (wk_still_row 1013 _ _ _ rfl) (retM_wk (wk_row (.t 10) (nb 10) 1013 _ _ _ _ rfl rfl (lm _ _)) (retM_wk (wk_row (.t 13) (nb 13) 1013 _ _ _ _ rfl rfl (lm _ _)) (retM_wk (wk_row (.t 70) (nb 70) 1013 _ _ _ _ rfl rfl (lm _ _)) (ret3 rfl (.tmp rfl) (.tmp rfl) (.tmp rfl)))))
 refine sr ?_
 refine sM 29 (.d (.sl 2 (t0.map eEntry))) rfl rfl ?_
 refine sM 30 (iV t26a) rfl rfl ?_
 obtain ⟨e9, h⟩ := gpos h
 refine sT 31 (.d (.sl 2 ((List.drop t26a.toNat t0).map eEntry))) rfl (w_cutl t0 eEntry rfl · · · slT42 rfl rfl e9) ?_
 refine sT 32 (iV ((List.drop t26a.toNat t0).length : Int)) rfl (w_len (List.drop t26a.toNat t0) eEntry rfl rfl · · · slT42 rfl) ?_
 refine sM 33 (iV 0) rfl rfl ?_
 refine sq_nil ?_
 refine ht_block ?_
 refine ht_rd h (fun _ => rfl) (fun (t13_1, t33) => tell [(.b 1013, .row false 110 2 (t13_1.map eItem)), (.t 2, sV t2), (.t 4, iV t4), (.t 8, .d (.dp (eStamp t3))), (.t 13, .own 1013 2 t13_1.length), (.t 31, .d (.sl 2 ((List.drop t26a.toNat t0).map eEntry))), (.t 32, iV ((List.drop t26a.toNat t0).length : Int)), (.t 33, iV t33)]) (wkt (wk_nilrow (.t 13) (nb 13) 1001013 110 2 rfl rfl) (wr (fun i => bif Nat.beq i 1013 then 1001013 else i) rfl rfl)) fun k v12 h K28 j11 => ?_
 obtain ⟨t13_1, t33⟩ := v12
 rw [F129_l1] at h
 refine sr ?_
 refine sT 34 (bV (ltI t33 ((List.drop t26a.toNat t0).length : Int))) rfl (vb rfl rfl rfl (b_lss rfl)) ?_
 refine sq_nil ?_
 refine ht_seq ?_
 refine ht_cond rfl (fun e13 => ?_) (fun e13 => ?_)
 ·replace h := cpos e13 h
  refine ht_skip ?_
  refine ht_seq ?_
  refine ht_block ?_
  refine sr ?_
  obtain ⟨e14, h⟩ := gpos h
  refine sT 35 (.d (.dp (eEntry (rd (List.drop t26a.toNat t0) t33)))) rfl (w_idx (List.drop t26a.toNat t0) eEntry rfl · · · slT42 rfl rfl e14) ?_
  refine sP 36 (eEntry (rd (List.drop t26a.toNat t0) t33)) (eEntry (rd (List.drop t26a.toNat t0) t33)) ag116 rfl rfl rfl rfl rfl ?_
  refine sq_cons _ (v_alloc (id := 17) (cs := zc116) rfl trivial rfl (ble _ _ rfl) zu116 rfl ft116 rfl) ?_
  refine sS 17 0 ((eEntry (rd (List.drop t26a.toNat t0) t33)).map V.d) sz116 rfl rfl rfl rfl rfl (ones_of rfl) rfl ?_
  refine sq_nil ?_
  refine ht_seq ?_
  refine sr ?_
  refine sM 37 (sV t2) rfl rfl ?_
  refine sT 38 (bV (!strEq t2 (⟨#[]⟩ : ByteArray))) rfl (vb rfl rfl rfl (b_neS rfl)) ?_
  refine sM 39 (bV (!strEq t2 (⟨#[]⟩ : ByteArray))) rfl rfl ?_
  refine sG 40 (.ptr 17 0) rfl rfl (fun e15 => (v_field_box (off := 0) (a0 := 0) rfl · · · fo116_0 rfl)) ?_
  refine sG 41 (sV (rd (List.drop t26a.toNat t0) t33).mKey) rfl rfl (fun e16 => (v_load_box1 (id := 17) (off := 0) rfl · · · onT9 (gv e16) rfl (ble _ _ rfl) rfl)) ?_
  refine sG 42 (sV t2) rfl rfl (fun e17 => (vm rfl rfl)) ?_
  obtain ⟨t43, c19, h⟩ := bpos h
  refine sG 43 (iV t43) rfl rfl (fun e18 => (vC (s124 k (rd (List.drop t26a.toNat t0) t33).mKey t2 _ (cpos e18 c19)) en124 · · · rfl (cc (gv e18) (cc (gv e18) rfl)) rfl)) ?_
  refine sG 44 (bV (leI 0 t43)) rfl rfl (fun e20 => (vb rfl (gv e20) rfl (b_geq rfl))) ?_
  refine sT 45 (bV ((!strEq t2 (⟨#[]⟩ : ByteArray)) && (leI 0 t43))) rfl (vp rfl rfl (fun e21 => (gv e21)) (fun e22 => rfl) (pA _ _)) ?_
  refine sq_nil ?_
  refine ht_cond rfl (fun e23 => ?_) (fun e23 => ?_)
  ·replace h := cpos e23 h
   refine ht_exit ?_
   refine tq ?_
   refine bq_pass (by decide) ?_
   refine tq ?_
   refine tq ?_
   refine bq_hit ?_
   cases h
   exact j7 _ _ rfl (wi rfl rfl)
  replace h := cneg e23 h
  refine ht_skip ?_
  refine sr ?_
  refine sT 47 (.ptr 17 1) rfl (v_field_box (off := 0) (a0 := 1) rfl · · · fo116_1 rfl) ?_
  refine sT 48 (.d (.sl 5 ((rd (List.drop t26a.toNat t0) t33).mChain.map eVersion))) rfl (v_load_box1 (id := 17) (off := 1) rfl · · · onT96 rfl rfl (ble _ _ rfl) rfl) ?_
  refine sP 49 (eStamp t3) (eStamp t3) ag24 rfl rfl rfl rfl rfl ?_
  obtain ⟨⟨t50a, t50b⟩, c24, h⟩ := bpos h
  refine sC 50 (.tup [sV t50a, bV t50b]) (s162 k (rd (List.drop t26a.toNat t0) t33).mChain t3 _ c24) en162 rfl rfl rfl rfl ?_
  refine sM 46 (.tup [sV t50a, bV t50b]) rfl rfl ?_
  refine sT 51 (sV t50a) rfl (ve rfl rfl rfl) ?_
  refine sT 52 (bV t50b) rfl (ve rfl rfl rfl) ?_
  refine sM 18 (sV t50a) rfl rfl ?_
  refine sM 19 (bV t50b) rfl rfl ?_
  refine sq_nil ?_
  refine ht_seq ?_
  refine sr ?_
  refine sM 53 (bV t50b) rfl rfl ?_
  refine sT 54 (bV (!t50b)) rfl (vu rfl rfl (u_not rfl)) ?_
  refine sq_nil ?_
  refine ht_cond rfl (fun e25 => ?_) (fun e25 => ?_)
  ·replace h := cpos e25 h
   refine ht_exit ?_
   refine tq ?_
   refine bq_hit ?_
   refine ht_region ?_
   refine sT 69 (iV (IntKind.wrap .i64 (t33 + 1))) rfl (vb rfl rfl rfl (b_add rfl)) ?_
   refine sM 33 (iV (IntKind.wrap .i64 (t33 + 1))) rfl rfl ?_
   refine sq_nil ?_
   exact j11 _ _ h (wi rfl rfl)
  replace h := cneg e25 h
  refine ht_skip ?_
  refine ht_seq ?_
  refine sr ?_
  refine sM 55 (.own 1013 2 t13_1.length) rfl rfl ?_
  refine sT 56 (iV (t13_1.length : Int)) rfl (v_len_own rfl rfl · · · und32 rfl) ?_
  refine sM 57 (iV t4) rfl rfl ?_
  refine sT 58 (bV (leI t4 (t13_1.length : Int))) rfl (vb rfl rfl rfl (b_geq rfl)) ?_
  refine sq_nil ?_
  refine ht_cond rfl (fun e26 => ?_) (fun e26 => ?_)
  ·replace h := cpos e26 h
   refine ht_seq ?_
   refine ht_region_draw mixed ?_
   refine rM 59 (.own 1013 2 t13_1.length) rfl rfl ?_
   refine rT 60 (.ptr 17 0) rfl (v_field_box (off := 0) (a0 := 0) rfl · · · fo116_0 rfl) ?_
   refine rT 61 (sV (rd (List.drop t26a.toNat t0) t33).mKey) rfl (v_load_box1 (id := 17) (off := 0) rfl · · · onT9 rfl rfl (ble _ _ rfl) rfl) ?_
   refine rM 10 (.own 1013 2 t13_1.length) rfl rfl ?_
   refine rM 11 (sV (rd (List.drop t26a.toNat t0) t33).mKey) rfl rfl ?_
   refine rM 12 (bV true) rfl rfl ?_
   refine rg_nil ⟨by kernel_rfl, ?_⟩
   refine ht_ret ?_
   cases h
   cases r8 _ rfl
   exact retM_wk (wk_still_row 1013 _ _ _ rfl) (retM_wk (wk_row (.t 10) (nb 10) 1013 _ _ _ _ rfl rfl (lm _ _)) (retM_wk (wk_row (.t 13) (nb 13) 1013 _ _ _ _ rfl rfl (lm _ _)) (retM_wk (wk_row (.t 55) (nb 55) 1013 _ _ _ _ rfl rfl (lm _ _)) (retM_wk (wk_row (.t 59) (nb 59) 1013 _ _ _ _ rfl rfl (lm _ _)) (ret3 rfl (.tmp rfl) (.tmp rfl) (.tmp rfl))))))
  replace h := cneg e26 h
  refine ht_skip ?_
  refine ht_region ?_
  refine sM 62 (.own 1013 2 t13_1.length) rfl rfl ?_
  refine sT 63 (.ptr 17 0) rfl (v_field_box (off := 0) (a0 := 0) rfl · · · fo116_0 rfl) ?_
  refine sT 64 (sV (rd (List.drop t26a.toNat t0) t33).mKey) rfl (v_load_box1 (id := 17) (off := 0) rfl · · · onT9 rfl rfl (ble _ _ rfl) rfl) ?_
  refine sM 65 (sV t50a) rfl rfl ?_
  refine sT 66 (.d (.agg (eItem (⟨(rd (List.drop t26a.toNat t0) t33).mKey, t50a⟩ : Item)))) rfl (w_bld zc110 ((eItem (⟨(rd (List.drop t26a.toNat t0) t33).mKey, t50a⟩ : Item)).map V.d) [(0, sV (rd (List.drop t26a.toNat t0) t33).mKey), (1, sV t50a)] rfl · · · zw110 rfl ft110 rfl rfl rfl rfl) ?_
  refine sq_cons ⟨_, [(.b 67, .row false 110 2 (([(⟨(rd (List.drop t26a.toNat t0) t33).mKey, t50a⟩ : Item)]).map eItem)), (.t 67, .own 67 2 ([(⟨(rd (List.drop t26a.toNat t0) t33).mKey, t50a⟩ : Item)]).length)]⟩ (w_bsl (id := 67) [(0, .d (.agg (eItem (⟨(rd (List.drop t26a.toNat t0) t33).mKey, t50a⟩ : Item))))] [(⟨(rd (List.drop t26a.toNat t0) t33).mKey, t50a⟩ : Item)] eItem rfl trivial rfl (ble _ _ rfl) slT32 zr110 teItem (ble _ _ rfl) rfl (by kernel_rfl) rfl rfl (by kernel_rfl) (by kernel_rfl)) ?_
  obtain ⟨e27, h⟩ := gpos h
  refine sq_cons ⟨_, [(.b 1013, .spent), (.b 68, .row false 110 2 ((t13_1 ++ [(⟨(rd (List.drop t26a.toNat t0) t33).mKey, t50a⟩ : Item)]).map eItem)), (.t 68, .own 68 2 (t13_1 ++ [(⟨(rd (List.drop t26a.toNat t0) t33).mKey, t50a⟩ : Item)]).length)]⟩ (w_app 68 t13_1 ([(⟨(rd (List.drop t26a.toNat t0) t33).mKey, t50a⟩ : Item)]) eItem rfl rfl trivial rfl (ble _ _ rfl) slT32 elT110 teItem rfl rfl rfl (.own 67 _ _ rfl) rfl e27) ?_
  refine sM 13 (.own 68 2 (t13_1 ++ [(⟨(rd (List.drop t26a.toNat t0) t33).mKey, t50a⟩ : Item)]).length) rfl rfl ?_
  refine sq_nil ?_
  refine ht_region ?_
  refine sT 69 (iV (IntKind.wrap .i64 (t33 + 1))) rfl (vb rfl rfl rfl (b_add rfl)) ?_
  refine sM 33 (iV (IntKind.wrap .i64 (t33 + 1))) rfl rfl ?_
  refine sq_nil ?_
  exact j11 _ _ h (wr (fun i => bif Nat.beq i 1013 then 68 else i) rfl rfl)
 replace h := cneg e13 h
 refine ht_exit ?_
 refine tq ?_
 refine tq ?_
 refine bq_hit ?_
 cases h
 exact j7 _ _ rfl (wi rfl rfl)
theorem s65 (k : Nat) (t0 : Cell) (t1 : Shard) (t2 : Request) (t3 : Int) (r : Cell × Answer) (h : F65 k t0 t1 t2 t3 = some r) : Awp.Spec Tryz.prog amb 65 [(.agg (eCell t0)), (.agg (eShard t1)), (.agg (eRequest t2)), (.s (.int .i64 t3))] (.ds [(.agg (eCell r.1)), (.agg (eAnswer r.2))]) := by
 rw [F65] at h
 refine spec_of Tryz.func65 rfl (ble _ _ rfl) fun w0 ok0 lt0 hA => ?_
 refine sr ?_
 refine sq_cons _ (v_box (id := 4) (cs := (eCell t0).map V.d) rfl trivial rfl (ble _ _ rfl) rfl rfl (ones_of rfl) rfl) ?_
 refine sT 5 (.d (.dp (eShard t1))) rfl (v_box_d (cs := (eShard t1)) rfl · · · rfl rfl (ones_of rfl)) ?_
 refine sT 6 (.d (.dp (eRequest t2))) rfl (v_box_d (cs := (eRequest t2)) rfl · · · rfl rfl (ones_of rfl)) ?_
 refine sq_cons _ (v_alloc (id := 8) (cs := zc26) rfl trivial rfl (ble _ _ rfl) zu26 rfl ft26 rfl) ?_
 refine sq_cons _ (v_alloc (id := 9) (cs := zc34) rfl trivial rfl (ble _ _ rfl) zu34 rfl ft34 rfl) ?_
 refine sq_nil ?_
 refine ht_seq ?_
 refine ht_block ?_
 refine sr ?_
 refine sD 16 (eRequest t2) fo28_7 rfl rfl rfl ?_
 refine sP 17 (List.drop 7 (eRequest t2)) (eStamp t2.mAt) ag24 rfl rfl rfl rfl rfl ?_
 refine sD 18 (eShard t1) fo45_5 rfl rfl rfl ?_
 refine sP 19 (List.drop 6 (eShard t1)) (eStamp t1.mMark) ag24 rfl rfl rfl rfl rfl ?_
 obtain ⟨t20, c1, h⟩ := bpos h
 refine sC 20 (iV t20) (s42 k t2.mAt t1.mMark _ c1) en42 rfl rfl rfl rfl ?_
 refine sT 21 (bV (ltI t20 0)) rfl (vb rfl rfl rfl (b_lss rfl)) ?_
 refine sM 15 (bV (ltI t20 0)) rfl rfl ?_
 refine sq_nil ?_
 refine ht_cond rfl (fun e2 => ?_) (fun e2 => ?_)
 ·replace h := cpos e2 h
  refine ht_seq ?_
  refine ht_region_draw mixed ?_
  refine rT 22 (.d (.agg (eCell t0))) rfl (w_ldb 4 0 rfl · · · ag26 rfl rfl (ble _ _ rfl) rfl) ?_
  obtain ⟨t23, c3, h⟩ := bpos h
  refine rC 23 (.d (.agg (eAnswer t23))) (s59 k 13 _ c3) en59 rfl rfl rfl rfl ?_
  refine rS 8 0 ((eCell t0).map V.d) sz26 rfl rfl rfl rfl rfl (ones_of rfl) rfl ?_
  refine rS 9 0 ((eAnswer t23).map V.d) sz34 rfl rfl rfl rfl rfl (ones_of rfl) rfl ?_
  refine rg_nil ⟨by kernel_rfl, ?_⟩
  refine ht_ret ?_
  cases h
  exact ret2 rfl (.cell rfl rfl ag26 (ble _ _ rfl) rfl) (.cell rfl rfl ag34 (ble _ _ rfl) rfl)
 replace h := cneg e2 h
 refine sr ?_
 refine sD 25 (eRequest t2) fo28_7 rfl rfl rfl ?_
 refine sD 26 (List.drop 7 (eRequest t2)) fo24_0 rfl rfl rfl ?_
 refine sT 27 (iV t2.mAt.mWall) rfl (vl rfl onT3 rfl rfl) ?_
 refine sT 28 (iV (IntKind.wrap .i64 (t2.mAt.mWall - 1000))) rfl (vb rfl rfl rfl (b_sub rfl)) ?_
 refine sM 29 (iV t3) rfl rfl ?_
 refine sT 30 (bV (ltI t3 (IntKind.wrap .i64 (t2.mAt.mWall - 1000)))) rfl (vb rfl rfl rfl (b_gtr rfl)) ?_
 refine sM 24 (bV (ltI t3 (IntKind.wrap .i64 (t2.mAt.mWall - 1000)))) rfl rfl ?_
 refine sq_nil ?_
 refine ht_cond rfl (fun e4 => ?_) (fun e4 => ?_)
 ·replace h := cpos e4 h
  refine ht_seq ?_
  refine ht_region_draw mixed ?_
  refine rT 31 (.d (.agg (eCell t0))) rfl (w_ldb 4 0 rfl · · · ag26 rfl rfl (ble _ _ rfl) rfl) ?_
  obtain ⟨t32, c5, h⟩ := bpos h
  refine rC 32 (.d (.agg (eAnswer t32))) (s59 k 12 _ c5) en59 rfl rfl rfl rfl ?_
  refine rS 8 0 ((eCell t0).map V.d) sz26 rfl rfl rfl rfl rfl (ones_of rfl) rfl ?_
  refine rS 9 0 ((eAnswer t32).map V.d) sz34 rfl rfl rfl rfl rfl (ones_of rfl) rfl ?_
  refine rg_nil ⟨by kernel_rfl, ?_⟩
  refine ht_ret ?_
  cases h
  exact ret2 rfl (.cell rfl rfl ag26 (ble _ _ rfl) rfl) (.cell rfl rfl ag34 (ble _ _ rfl) rfl)
 replace h := cneg e4 h
 refine ht_skip ?_
 refine sr ?_
 refine sT 33 (.ptr 4 1) rfl (v_field_box (off := 0) (a0 := 1) rfl · · · fo26_1 rfl) ?_
 refine sT 34 (.d (.agg (eStamp t0.mTop))) rfl (w_ldb 4 1 rfl · · · ag24 rfl rfl (ble _ _ rfl) rfl) ?_
 refine sD 35 (eRequest t2) fo28_7 rfl rfl rfl ?_
 refine sP 36 (List.drop 7 (eRequest t2)) (eStamp t2.mAt) ag24 rfl rfl rfl rfl rfl ?_
 obtain ⟨t37, c6, h⟩ := bpos h
 refine sC 37 (.d (.agg (eStamp t37))) (s37 k t0.mTop t2.mAt _ c6) en37 rfl rfl rfl rfl ?_
 refine sT 38 (.ptr 4 1) rfl (v_field_box (off := 0) (a0 := 1) rfl · · · fo26_1 rfl) ?_
 refine sS 4 1 ((eStamp t37).map V.d) sz24 rfl rfl rfl rfl rfl (ones_of rfl) rfl ?_
 refine sq_nil ?_
 refine sr ?_
 refine sD 39 (eRequest t2) fo28_7 rfl rfl rfl ?_
 refine sP 40 (List.drop 7 (eRequest t2)) (eStamp t2.mAt) ag24 rfl rfl rfl rfl rfl ?_
 refine sT 41 (.d (.agg (eAnswer (⟨0, t2.mAt, false, (⟨#[]⟩ : ByteArray), ([] : List Item), (⟨#[]⟩ : ByteArray), false⟩ : Answer)))) rfl (w_bld zc34 ((eAnswer (⟨0, t2.mAt, false, (⟨#[]⟩ : ByteArray), ([] : List Item), (⟨#[]⟩ : ByteArray), false⟩ : Answer)).map V.d) [(1, .d (.agg (eStamp t2.mAt)))] rfl · · · zw34 rfl ft34 rfl rfl rfl rfl) ?_
 refine sq_cons _ (v_alloc (id := 10) (cs := zc34) rfl trivial rfl (ble _ _ rfl) zu34 rfl ft34 rfl) ?_
 refine sS 10 0 ((eAnswer (⟨0, t2.mAt, false, (⟨#[]⟩ : ByteArray), ([] : List Item), (⟨#[]⟩ : ByteArray), false⟩ : Answer)).map V.d) sz34 rfl rfl rfl rfl rfl (ones_of rfl) rfl ?_
 refine sq_nil ?_
 refine ht_seq ?_
 refine sr ?_
 refine sD 42 (eRequest t2) fo28_2 rfl rfl rfl ?_
 refine sT 43 (iV t2.mKind) rfl (vl rfl onT3 rfl rfl) ?_
 refine sT 44 (bV (eqI t2.mKind 5)) rfl (vb rfl rfl rfl (b_eql rfl)) ?_
 refine sq_nil ?_
 refine ht_cond rfl (fun e7 => ?_) (fun e7 => ?_)
 ·replace h := cpos e7 h
  refine sr ?_
  refine sD 46 (eShard t1) fo45_4 rfl rfl rfl ?_
  refine sT 47 (.d (.sl 2 (t1.mEntries.map eEntry))) rfl (vl rfl onT42 rfl rfl) ?_
  refine sD 48 (eRequest t2) fo28_3 rfl rfl rfl ?_
  refine sT 49 (sV t2.mKey) rfl (vl rfl onT9 rfl rfl) ?_
  refine sD 50 (eRequest t2) fo28_7 rfl rfl rfl ?_
  refine sP 51 (List.drop 7 (eRequest t2)) (eStamp t2.mAt) ag24 rfl rfl rfl rfl rfl ?_
  obtain ⟨⟨t52a, t52b⟩, c8, h⟩ := bpos h
  refine sC 52 (.tup [.d (.agg (eVersion t52a)), bV t52b]) (s118 k t1.mEntries t2.mKey t2.mAt _ c8) en118 rfl rfl rfl rfl ?_
  refine sM 45 (.tup [.d (.agg (eVersion t52a)), bV t52b]) rfl rfl ?_
  refine sT 53 (.d (.agg (eVersion t52a))) rfl (ve rfl rfl rfl) ?_
  refine sT 54 (bV t52b) rfl (ve rfl rfl rfl) ?_
  refine sq_cons _ (v_alloc (id := 11) (cs := zc93) rfl trivial rfl (ble _ _ rfl) zu93 rfl ft93 rfl) ?_
  refine sS 11 0 ((eVersion t52a).map V.d) sz93 rfl rfl rfl rfl rfl (ones_of rfl) rfl ?_
  refine sM 12 (bV t52b) rfl rfl ?_
  refine sq_nil ?_
  refine ht_seq ?_
  refine ht_region_draw mixed ?_
  refine rM 55 (bV t52b) rfl rfl ?_
  refine rM 56 (bV t52b) rfl rfl ?_
  refine rG 57 (.ptr 11 3) rfl rfl (fun e9 => (v_field_box (off := 0) (a0 := 3) rfl · · · fo93_1 rfl)) ?_
  refine rG 58 (bV t52a.mGone) rfl rfl (fun e10 => (v_load_box1 (id := 11) (off := 3) rfl · · · onT4 (gv e10) rfl (ble _ _ rfl) rfl)) ?_
  refine rG 59 (bV (!t52a.mGone)) rfl rfl (fun e11 => (vu rfl (gv e11) (u_not rfl))) ?_
  refine rT 60 (bV (t52b && (!t52a.mGone))) rfl (vp rfl rfl (fun e12 => (gv e12)) (fun e13 => rfl) (pA _ _)) ?_
  refine rT 61 (.ptr 11 4) rfl (v_field_box (off := 0) (a0 := 4) rfl · · · fo93_2 rfl) ?_
  refine rT 62 (sV t52a.mValue) rfl (v_load_box1 (id := 11) (off := 4) rfl · · · onT9 rfl rfl (ble _ _ rfl) rfl) ?_
  refine rT 63 (.ptr 10 4) rfl (v_field_box (off := 0) (a0 := 4) rfl · · · fo34_2 rfl) ?_
  refine rS 10 4 ([(.s (.bool (t52b && (!t52a.mGone))))].map V.d) sz4 rfl rfl rfl rfl rfl (ones_of rfl) rfl ?_
  refine rT 64 (.ptr 10 5) rfl (v_field_box (off := 0) (a0 := 5) rfl · · · fo34_3 rfl) ?_
  refine rS 10 5 ([(.s (.string t52a.mValue))].map V.d) sz9 rfl rfl rfl rfl rfl (ones_of rfl) rfl ?_
  refine rg_nil ⟨by kernel_rfl, ?_⟩
  refine ht_seq ?_
  refine ht_region_draw mixed ?_
  refine rT 65 (.d (.agg (eCell ({t0 with mTop := t37})))) rfl (w_ldb 4 0 rfl · · · ag26 rfl rfl (ble _ _ rfl) rfl) ?_
  refine rT 66 (.d (.agg (eAnswer (⟨0, t2.mAt, (t52b && (!t52a.mGone)), t52a.mValue, ([] : List Item), (⟨#[]⟩ : ByteArray), false⟩ : Answer)))) rfl (w_ldb 10 0 rfl · · · ag34 rfl rfl (ble _ _ rfl) rfl) ?_
  refine rS 8 0 ((eCell ({t0 with mTop := t37})).map V.d) sz26 rfl rfl rfl rfl rfl (ones_of rfl) rfl ?_
  refine rS 9 0 ((eAnswer (⟨0, t2.mAt, (t52b && (!t52a.mGone)), t52a.mValue, ([] : List Item), (⟨#[]⟩ : ByteArray), false⟩ : Answer)).map V.d) sz34 rfl rfl rfl rfl rfl (ones_of rfl) rfl ?_
  refine rg_nil ⟨by kernel_rfl, ?_⟩
  refine ht_ret ?_
  cases h
  exact ret2 rfl (.cell rfl rfl ag26 (ble _ _ rfl) rfl) (.cell rfl rfl ag34 (ble _ _ rfl) rfl)
 replace h := cneg e7 h
 refine ht_skip ?_
 refine sr ?_
 refine sD 67 (eRequest t2) fo28_8 rfl rfl rfl ?_
 refine sT 68 (sV t2.mHi) rfl (vl rfl onT9 rfl rfl) ?_
 refine sM 13 (sV t2.mHi) rfl rfl ?_
 refine sq_nil ?_
 refine sr ?_
 refine sD 69 (eShard t1) fo45_2 rfl rfl rfl ?_
 refine sD 70 (List.drop 2 (eShard t1)) fo41_1 rfl rfl rfl ?_
 refine sT 71 (sV t1.mSpan.mHi) rfl (vl rfl onT9 rfl rfl) ?_
 refine sT 72 (bV (!strEq t1.mSpan.mHi (⟨#[]⟩ : ByteArray))) rfl (vb rfl rfl rfl (b_neS rfl)) ?_
 refine sM 73 (bV (!strEq t1.mSpan.mHi (⟨#[]⟩ : ByteArray))) rfl rfl ?_
 refine sG 74 (sV t2.mHi) rfl rfl (fun e14 => (vm rfl rfl)) ?_
 refine sG 75 (bV (strEq t2.mHi (⟨#[]⟩ : ByteArray))) rfl rfl (fun e15 => (vb rfl (gv e15) rfl (b_eqS rfl))) ?_
 refine sG 76 (bV (strEq t2.mHi (⟨#[]⟩ : ByteArray))) rfl rfl (fun e16 => (vm rfl (gv e16))) ?_
 refine sH 77 (.d (.dp (List.drop 2 (eShard t1)))) rfl rfl (fun e17 e18 => (vD (eShard t1) fo45_2 · · · rfl rfl)) ?_
 refine sH 78 (.d (.dp (List.drop 3 (eShard t1)))) rfl rfl (fun e19 e20 => (vD (List.drop 2 (eShard t1)) fo41_1 · · · rfl (gv (aT e19 (nF e20))))) ?_
 refine sH 79 (sV t1.mSpan.mHi) rfl rfl (fun e21 e22 => (vl rfl onT9 (gv (aT e21 (nF e22))) rfl)) ?_
 refine sH 80 (sV t2.mHi) rfl rfl (fun e23 e24 => (vm rfl rfl)) ?_
 obtain ⟨t81, c27, h⟩ := bpos h
 refine sH 81 (iV t81) rfl rfl (fun e25 e26 => (vC (s124 k t1.mSpan.mHi t2.mHi _ (cpos (aT e25 (nF e26)) c27)) en124 · · · rfl (cc (gv (aT e25 (nF e26))) (cc (gv (aT e25 (nF e26))) rfl)) rfl)) ?_
 refine sH 82 (bV (ltI t81 0)) rfl rfl (fun e28 e29 => (vb rfl (gv (aT e28 (nF e29))) rfl (b_lss rfl))) ?_
 refine sG 83 (bV ((strEq t2.mHi (⟨#[]⟩ : ByteArray)) || (ltI t81 0))) rfl rfl (fun e30 => (vp rfl (gv e30) (fun e31 => rfl) (fun e32 => (gv (aT e30 (nF e32)))) (pO _ _))) ?_
 refine sT 84 (bV ((!strEq t1.mSpan.mHi (⟨#[]⟩ : ByteArray)) && ((strEq t2.mHi (⟨#[]⟩ : ByteArray)) || (ltI t81 0)))) rfl (vp rfl rfl (fun e33 => (gv e33)) (fun e34 => rfl) (pA _ _)) ?_
 refine sM 14 (bV ((!strEq t1.mSpan.mHi (⟨#[]⟩ : ByteArray)) && ((strEq t2.mHi (⟨#[]⟩ : ByteArray)) || (ltI t81 0)))) rfl rfl ?_
 refine sq_nil ?_
 refine ht_bj h (fun t13 => tell [(.b 4, .box false 5), (.b 8, .box false 5), (.b 9, .box false 9), (.b 10, .box false 9), (.c 4 0, .d (.sl 17 (t0.mShards.map eShard))), (.c 4 1, iV t37.mWall), (.c 4 2, iV t37.mTick), (.c 4 3, iV t37.mNode), (.c 4 4, iV t0.mDropped), (.c 8 0, .d (.sl 17 (([] : List Shard).map eShard))), (.c 8 1, iV 0), (.c 8 2, iV 0), (.c 8 3, iV 0), (.c 8 4, iV 0), (.c 9 0, iV 0), (.c 9 1, iV 0), (.c 9 2, iV 0), (.c 9 3, iV 0), (.c 9 4, bV false), (.c 9 5, sV (⟨#[]⟩ : ByteArray)), (.c 9 6, .d (.sl 2 (([] : List Item).map eItem))), (.c 9 7, sV (⟨#[]⟩ : ByteArray)), (.c 9 8, bV false), (.c 10 0, iV 0), (.c 10 1, iV t2.mAt.mWall), (.c 10 2, iV t2.mAt.mTick), (.c 10 3, iV t2.mAt.mNode), (.c 10 4, bV false), (.c 10 5, sV (⟨#[]⟩ : ByteArray)), (.c 10 6, .d (.sl 2 (([] : List Item).map eItem))), (.c 10 7, sV (⟨#[]⟩ : ByteArray)), (.c 10 8, bV false), (.t 4, .ptr 4 0), (.t 5, .d (.dp (eShard t1))), (.t 6, .d (.dp (eRequest t2))), (.t 8, .ptr 8 0), (.t 9, .ptr 9 0), (.t 10, .ptr 10 0), (.t 13, sV t13), (.t 14, bV ((!strEq t1.mSpan.mHi (⟨#[]⟩ : ByteArray)) && ((strEq t2.mHi (⟨#[]⟩ : ByteArray)) || (ltI t81 0))))]) (fun t13 h => ?_) (fun v35 K36 h j38 => ?_)
 ·refine sr ?_
  refine sD 90 (eShard t1) fo45_4 rfl rfl rfl ?_
  refine sT 91 (.d (.sl 2 (t1.mEntries.map eEntry))) rfl (vl rfl onT42 rfl rfl) ?_
  refine sD 92 (eRequest t2) fo28_3 rfl rfl rfl ?_
  refine sT 93 (sV t2.mKey) rfl (vl rfl onT9 rfl rfl) ?_
  refine sM 94 (sV t13) rfl rfl ?_
  refine sD 95 (eRequest t2) fo28_7 rfl rfl rfl ?_
  refine sP 96 (List.drop 7 (eRequest t2)) (eStamp t2.mAt) ag24 rfl rfl rfl rfl rfl ?_
  refine sD 97 (eRequest t2) fo28_9 rfl rfl rfl ?_
  refine sT 98 (iV t2.mLimit) rfl (vl rfl onT3 rfl rfl) ?_
  obtain ⟨⟨t99a, t99b, t99c⟩, c41, h⟩ := bpos h
  refine sC 99 (.tup [.d (.sl 2 (t99a.map eItem)), sV t99b, bV t99c]) (s129 k t1.mEntries t2.mKey t13 t2.mAt t2.mLimit _ c41) en129 rfl rfl rfl rfl ?_
  refine sM 89 (.tup [.d (.sl 2 (t99a.map eItem)), sV t99b, bV t99c]) rfl rfl ?_
  refine sT 100 (.d (.sl 2 (t99a.map eItem))) rfl (ve rfl rfl rfl) ?_
  refine sT 101 (sV t99b) rfl (ve rfl rfl rfl) ?_
  refine sT 102 (bV t99c) rfl (ve rfl rfl rfl) ?_
  refine sT 103 (.ptr 10 6) rfl (v_field_box (off := 0) (a0 := 6) rfl · · · fo34_4 rfl) ?_
  refine sS 10 6 ([(.sl 2 (t99a.map eItem))].map V.d) sz32 rfl rfl rfl rfl rfl (ones_of rfl) rfl ?_
  refine sT 104 (.ptr 10 7) rfl (v_field_box (off := 0) (a0 := 7) rfl · · · fo34_5 rfl) ?_
  refine sS 10 7 ([(.s (.string t99b))].map V.d) sz9 rfl rfl rfl rfl rfl (ones_of rfl) rfl ?_
  refine sT 105 (.ptr 10 8) rfl (v_field_box (off := 0) (a0 := 8) rfl · · · fo34_6 rfl) ?_
  refine sS 10 8 ([(.s (.bool t99c))].map V.d) sz4 rfl rfl rfl rfl rfl (ones_of rfl) rfl ?_
  refine sq_nil ?_
  refine ht_seq ?_
  refine sr ?_
  refine sM 106 (bV ((!strEq t1.mSpan.mHi (⟨#[]⟩ : ByteArray)) && ((strEq t2.mHi (⟨#[]⟩ : ByteArray)) || (ltI t81 0)))) rfl rfl ?_
  refine sM 107 (bV ((!strEq t1.mSpan.mHi (⟨#[]⟩ : ByteArray)) && ((strEq t2.mHi (⟨#[]⟩ : ByteArray)) || (ltI t81 0)))) rfl rfl ?_
  refine sG 108 (.ptr 10 8) rfl rfl (fun e42 => (v_field_box (off := 0) (a0 := 8) rfl · · · fo34_6 rfl)) ?_
  refine sG 109 (bV t99c) rfl rfl (fun e43 => (v_load_box1 (id := 10) (off := 8) rfl · · · onT4 (gv e43) rfl (ble _ _ rfl) rfl)) ?_
  refine sG 110 (bV (!t99c)) rfl rfl (fun e44 => (vu rfl (gv e44) (u_not rfl))) ?_
  refine sT 111 (bV (((!strEq t1.mSpan.mHi (⟨#[]⟩ : ByteArray)) && ((strEq t2.mHi (⟨#[]⟩ : ByteArray)) || (ltI t81 0))) && (!t99c))) rfl (vp rfl rfl (fun e45 => (gv e45)) (fun e46 => rfl) (pA _ _)) ?_
  refine sq_nil ?_
  refine ht_cond rfl (fun e47 => ?_) (fun e47 => ?_)
  ·replace h := cpos e47 h
   refine ht_region ?_
   refine sM 112 (sV t13) rfl rfl ?_
   refine sT 113 (.ptr 10 7) rfl (v_field_box (off := 0) (a0 := 7) rfl · · · fo34_5 rfl) ?_
   refine sS 10 7 ([(.s (.string t13))].map V.d) sz9 rfl rfl rfl rfl rfl (ones_of rfl) rfl ?_
   refine sT 114 (.ptr 10 8) rfl (v_field_box (off := 0) (a0 := 8) rfl · · · fo34_6 rfl) ?_
   refine sS 10 8 ([(.s (.bool true))].map V.d) sz4 rfl rfl rfl rfl rfl (ones_of rfl) rfl ?_
   refine sq_nil ?_
   refine ht_seq ?_
   refine ht_region_draw mixed ?_
   refine rT 115 (.d (.agg (eCell ({t0 with mTop := t37})))) rfl (w_ldb 4 0 rfl · · · ag26 rfl rfl (ble _ _ rfl) rfl) ?_
   refine rT 116 (.d (.agg (eAnswer (⟨0, t2.mAt, false, (⟨#[]⟩ : ByteArray), t99a, t13, true⟩ : Answer)))) rfl (w_ldb 10 0 rfl · · · ag34 rfl rfl (ble _ _ rfl) rfl) ?_
   refine rS 8 0 ((eCell ({t0 with mTop := t37})).map V.d) sz26 rfl rfl rfl rfl rfl (ones_of rfl) rfl ?_
   refine rS 9 0 ((eAnswer (⟨0, t2.mAt, false, (⟨#[]⟩ : ByteArray), t99a, t13, true⟩ : Answer)).map V.d) sz34 rfl rfl rfl rfl rfl (ones_of rfl) rfl ?_
   refine rg_nil ⟨by kernel_rfl, ?_⟩
   refine ht_ret ?_
   cases h
   exact ret2 rfl (.cell rfl rfl ag26 (ble _ _ rfl) rfl) (.cell rfl rfl ag34 (ble _ _ rfl) rfl)
  replace h := cneg e47 h
  refine ht_skip ?_
  refine ht_seq ?_
  refine ht_region_draw mixed ?_
  refine rT 115 (.d (.agg (eCell ({t0 with mTop := t37})))) rfl (w_ldb 4 0 rfl · · · ag26 rfl rfl (ble _ _ rfl) rfl) ?_
  refine rT 116 (.d (.agg (eAnswer (⟨0, t2.mAt, false, (⟨#[]⟩ : ByteArray), t99a, t99b, t99c⟩ : Answer)))) rfl (w_ldb 10 0 rfl · · · ag34 rfl rfl (ble _ _ rfl) rfl) ?_
  refine rS 8 0 ((eCell ({t0 with mTop := t37})).map V.d) sz26 rfl rfl rfl rfl rfl (ones_of rfl) rfl ?_
  refine rS 9 0 ((eAnswer (⟨0, t2.mAt, false, (⟨#[]⟩ : ByteArray), t99a, t99b, t99c⟩ : Answer)).map V.d) sz34 rfl rfl rfl rfl rfl (ones_of rfl) rfl ?_
  refine rg_nil ⟨by kernel_rfl, ?_⟩
  refine ht_ret ?_
  cases h
  exact ret2 rfl (.cell rfl rfl ag26 (ble _ _ rfl) rfl) (.cell rfl rfl ag34 (ble _ _ rfl) rfl)
 refine sr ?_
 refine sM 85 (bV ((!strEq t1.mSpan.mHi (⟨#[]⟩ : ByteArray)) && ((strEq t2.mHi (⟨#[]⟩ : ByteArray)) || (ltI t81 0)))) rfl rfl ?_
 refine sq_nil ?_
 refine ht_cond rfl (fun e40 => ?_) (fun e40 => ?_)
 ·replace h := cpos e40 h
  refine ht_region ?_
  refine sD 86 (eShard t1) fo45_2 rfl rfl rfl ?_
  refine sD 87 (List.drop 2 (eShard t1)) fo41_1 rfl rfl rfl ?_
  refine sT 88 (sV t1.mSpan.mHi) rfl (vl rfl onT9 rfl rfl) ?_
  refine sM 13 (sV t1.mSpan.mHi) rfl rfl ?_
  refine sq_nil ?_
  cases h
  exact j38 _ (wi rfl rfl)
 replace h := cneg e40 h
 refine ht_skip ?_
 cases h
 exact j38 _ (wi rfl rfl)
theorem s16 (k : Nat) (t0 : Cell) (t1 : Int) (t2 : Int) (t3 : Request) (t4 : Stamp) (t5 : Int) (r : Cell × Answer) (h : F16 k t0 t1 t2 t3 t4 t5 = some r) : Awp.Spec Tryz.prog amb 16 [(.agg (eCell t0)), (.s (.int .i64 t1)), (.s (.int .i64 t2)), (.agg (eRequest t3)), (.agg (eStamp t4)), (.s (.int .i64 t5))] (.ds [(.agg (eCell r.1)), (.agg (eAnswer r.2))]) := by
 rw [F16] at h
 refine spec_of Tryz.func16 rfl (ble _ _ rfl) fun w0 ok0 lt0 hA => ?_
 refine sr ?_
 refine sT 6 (.d (.dp (eCell t0))) rfl (v_box_d (cs := (eCell t0)) rfl · · · rfl rfl (ones_of rfl)) ?_
 refine sT 9 (.d (.dp (eRequest t3))) rfl (v_box_d (cs := (eRequest t3)) rfl · · · rfl rfl (ones_of rfl)) ?_
 refine sT 10 (.d (.dp (eStamp t4))) rfl (v_box_d (cs := (eStamp t4)) rfl · · · rfl rfl (ones_of rfl)) ?_
 refine sq_cons _ (v_alloc (id := 12) (cs := zc26) rfl trivial rfl (ble _ _ rfl) zu26 rfl ft26 rfl) ?_
 refine sq_cons _ (v_alloc (id := 13) (cs := zc34) rfl trivial rfl (ble _ _ rfl) zu34 rfl ft34 rfl) ?_
 refine sq_nil ?_
 refine ht_seq ?_
 refine sr ?_
 refine sP 16 (eCell t0) (eCell t0) ag26 rfl rfl rfl rfl rfl ?_
 obtain ⟨t17, c1, h⟩ := bpos h
 refine sC 17 (bV t17) (s25 k t0 _ c1) en25 rfl rfl rfl rfl ?_
 refine sT 18 (bV (!t17)) rfl (vu rfl rfl (u_not rfl)) ?_
 refine sM 19 (bV (!t17)) rfl rfl ?_
 refine sF 20 (iV t1) rfl rfl (fun e2 => (vm rfl rfl)) ?_
 refine sF 21 (iV t2) rfl rfl (fun e3 => (vm rfl rfl)) ?_
 refine sF 22 (.d (.sl 1 (([t1, t2]).map (eI .i64)))) rfl rfl (fun e4 => (w_bsl_d [(0, iV t1), (1, iV t2)] [t1, t2] (eI .i64) rfl · · · slT148 zr3 (encI .i64) (ble _ _ rfl) (cc (pr (gv (nF e4))) (cc (pr (gv (nF e4))) rfl)) (by kernel_rfl) rfl rfl (by kernel_rfl))) ?_
 obtain ⟨t23, c6, h⟩ := bpos h
 refine sF 23 (bV t23) rfl rfl (fun e5 => (vC (s57 k 1 ([t1, t2]) _ (cpos (nF e5) c6)) en57 · · · rfl (cc rfl (cc (gv (nF e5)) rfl)) rfl)) ?_
 refine sF 24 (bV (!t23)) rfl rfl (fun e7 => (vu rfl (gv (nF e7)) (u_not rfl))) ?_
 refine sT 25 (bV ((!t17) || (!t23))) rfl (vp rfl rfl (fun e8 => rfl) (fun e9 => (gv (nF e9))) (pO _ _)) ?_
 refine sM 26 (bV ((!t17) || (!t23))) rfl rfl ?_
 refine sF 27 (iV t5) rfl rfl (fun e10 => (vm rfl rfl)) ?_
 refine sF 28 (.d (.sl 1 (([t5]).map (eI .i64)))) rfl rfl (fun e11 => (w_bsl_d [(0, iV t5)] [t5] (eI .i64) rfl · · · slT148 zr3 (encI .i64) (ble _ _ rfl) (cc (pr (gv (nF e11))) rfl) (by kernel_rfl) rfl rfl (by kernel_rfl))) ?_
 obtain ⟨t29, c13, h⟩ := bpos h
 refine sF 29 (bV t29) rfl rfl (fun e12 => (vC (s57 k 0 ([t5]) _ (cpos (nF e12) c13)) en57 · · · rfl (cc rfl (cc (gv (nF e12)) rfl)) rfl)) ?_
 refine sF 30 (bV (!t29)) rfl rfl (fun e14 => (vu rfl (gv (nF e14)) (u_not rfl))) ?_
 refine sT 31 (bV (((!t17) || (!t23)) || (!t29))) rfl (vp rfl rfl (fun e15 => rfl) (fun e16 => (gv (nF e16))) (pO _ _)) ?_
 refine sM 32 (bV (((!t17) || (!t23)) || (!t29))) rfl rfl ?_
 refine sF 33 (.d (.agg (eStamp t4))) rfl rfl (fun e17 => (w_ldp (eStamp t4) (eStamp t4) rfl · · · ag24 rfl (ble _ _ rfl) rfl)) ?_
 obtain ⟨t34, c19, h⟩ := bpos h
 refine sF 34 (bV t34) rfl rfl (fun e18 => (vC (s36 k t4 _ (cpos (nF e18) c19)) en36 · · · rfl (cc (gv (nF e18)) rfl) rfl)) ?_
 refine sF 35 (bV (!t34)) rfl rfl (fun e20 => (vu rfl (gv (nF e20)) (u_not rfl))) ?_
 refine sT 36 (bV ((((!t17) || (!t23)) || (!t29)) || (!t34))) rfl (vp rfl rfl (fun e21 => rfl) (fun e22 => (gv (nF e22))) (pO _ _)) ?_
 refine sM 37 (bV ((((!t17) || (!t23)) || (!t29)) || (!t34))) rfl rfl ?_
 refine sF 38 (.d (.agg (eRequest t3))) rfl rfl (fun e23 => (w_ldp (eRequest t3) (eRequest t3) rfl · · · ag28 rfl (ble _ _ rfl) rfl)) ?_
 obtain ⟨t39, c25, h⟩ := bpos h
 refine sF 39 (bV t39) rfl rfl (fun e24 => (vC (s58 k t3 _ (cpos (nF e24) c25)) en58 · · · rfl (cc (gv (nF e24)) rfl) rfl)) ?_
 refine sF 40 (bV (!t39)) rfl rfl (fun e26 => (vu rfl (gv (nF e26)) (u_not rfl))) ?_
 refine sT 41 (bV (((((!t17) || (!t23)) || (!t29)) || (!t34)) || (!t39))) rfl (vp rfl rfl (fun e27 => rfl) (fun e28 => (gv (nF e28))) (pO _ _)) ?_
 refine sq_nil ?_
 refine ht_cond rfl (fun e29 => ?_) (fun e29 => ?_)
 ·replace h := cpos e29 h
  refine ht_seq ?_
  refine ht_region_draw mixed ?_
  refine rP 42 (eCell t0) (eCell t0) ag26 rfl rfl rfl rfl rfl ?_
  obtain ⟨t43, c30, h⟩ := bpos h
  refine rC 43 (.d (.agg (eAnswer t43))) (s59 k 1 _ c30) en59 rfl rfl rfl rfl ?_
  refine rS 12 0 ((eCell t0).map V.d) sz26 rfl rfl rfl rfl rfl (ones_of rfl) rfl ?_
  refine rS 13 0 ((eAnswer t43).map V.d) sz34 rfl rfl rfl rfl rfl (ones_of rfl) rfl ?_
  refine rg_nil ⟨by kernel_rfl, ?_⟩
  refine ht_ret ?_
  cases h
  exact ret2 rfl (.cell rfl rfl ag26 (ble _ _ rfl) rfl) (.cell rfl rfl ag34 (ble _ _ rfl) rfl)
 replace h := cneg e29 h
 refine ht_skip ?_
 refine sr ?_
 refine sP 44 (eCell t0) (eCell t0) ag26 rfl rfl rfl rfl rfl ?_
 refine sM 45 (iV t1) rfl rfl ?_
 obtain ⟨t46, c31, h⟩ := bpos h
 refine sC 46 (.d (.agg (eShard t46))) (s60 k t0 t1 _ c31) en60 rfl rfl rfl rfl ?_
 refine sq_cons _ (v_alloc (id := 14) (cs := zc45) rfl trivial rfl (ble _ _ rfl) zu45 rfl ft45 rfl) ?_
 refine sS 14 0 ((eShard t46).map V.d) sz45 rfl rfl rfl rfl rfl (ones_of rfl) rfl ?_
 refine sq_nil ?_
 refine sr ?_
 refine sD 47 (eRequest t3) fo28_3 rfl rfl rfl ?_
 refine sT 48 (sV t3.mKey) rfl (vl rfl onT9 rfl rfl) ?_
 refine sT 49 (bV (strEq t3.mKey (⟨#[]⟩ : ByteArray))) rfl (vb rfl rfl rfl (b_eqS rfl)) ?_
 refine sM 50 (bV (strEq t3.mKey (⟨#[]⟩ : ByteArray))) rfl rfl ?_
 refine sG 51 (.ptr 14 2) rfl rfl (fun e32 => (v_field_box (off := 0) (a0 := 2) rfl · · · fo45_2 rfl)) ?_
 refine sG 52 (.ptr 14 2) rfl rfl (fun e33 => (v_field_box (off := 2) (a0 := 0) rfl · · · fo41_0 (gv e33))) ?_
 refine sG 53 (sV t46.mSpan.mLo) rfl rfl (fun e34 => (v_load_box1 (id := 14) (off := 2) rfl · · · onT9 (gv e34) rfl (ble _ _ rfl) rfl)) ?_
 refine sG 54 (bV (strEq t46.mSpan.mLo (⟨#[]⟩ : ByteArray))) rfl rfl (fun e35 => (vb rfl (gv e35) rfl (b_eqS rfl))) ?_
 refine sT 55 (bV ((strEq t3.mKey (⟨#[]⟩ : ByteArray)) && (strEq t46.mSpan.mLo (⟨#[]⟩ : ByteArray)))) rfl (vp rfl rfl (fun e36 => (gv e36)) (fun e37 => rfl) (pA _ _)) ?_
 refine sM 56 (bV ((strEq t3.mKey (⟨#[]⟩ : ByteArray)) && (strEq t46.mSpan.mLo (⟨#[]⟩ : ByteArray)))) rfl rfl ?_
 refine sF 57 (.ptr 14 2) rfl rfl (fun e38 => (v_field_box (off := 0) (a0 := 2) rfl · · · fo45_2 rfl)) ?_
 refine sF 58 (.d (.agg (eSpan t46.mSpan))) rfl rfl (fun e39 => (w_ldb 14 2 rfl · · · ag41 (gv (nF e39)) rfl (ble _ _ rfl) rfl)) ?_
 refine sF 59 (.d (.dp (List.drop 3 (eRequest t3)))) rfl rfl (fun e40 => (vD (eRequest t3) fo28_3 · · · rfl rfl)) ?_
 refine sF 60 (sV t3.mKey) rfl rfl (fun e41 => (vl rfl onT9 (gv (nF e41)) rfl)) ?_
 obtain ⟨t61, c43, h⟩ := bpos h
 refine sF 61 (bV t61) rfl rfl (fun e42 => (vC (s61 k t46.mSpan t3.mKey _ (cpos (nF e42) c43)) en61 · · · rfl (cc (gv (nF e42)) (cc (gv (nF e42)) rfl)) rfl)) ?_
 refine sT 62 (bV (((strEq t3.mKey (⟨#[]⟩ : ByteArray)) && (strEq t46.mSpan.mLo (⟨#[]⟩ : ByteArray))) || t61)) rfl (vp rfl rfl (fun e44 => rfl) (fun e45 => (gv (nF e45))) (pO _ _)) ?_
 refine sM 15 (bV (((strEq t3.mKey (⟨#[]⟩ : ByteArray)) && (strEq t46.mSpan.mLo (⟨#[]⟩ : ByteArray))) || t61)) rfl rfl ?_
 refine sq_nil ?_
 refine ht_seq ?_
 refine ht_block ?_
 refine sr ?_
 refine sT 64 (.ptr 14 0) rfl (v_field_box (off := 0) (a0 := 0) rfl · · · fo45_0 rfl) ?_
 refine sT 65 (iV t46.mID) rfl (v_load_box1 (id := 14) (off := 0) rfl · · · onT3 rfl rfl (ble _ _ rfl) rfl) ?_
 refine sT 66 (bV (eqI t46.mID 0)) rfl (vb rfl rfl rfl (b_eql rfl)) ?_
 refine sM 67 (bV (eqI t46.mID 0)) rfl rfl ?_
 refine sF 68 (.ptr 14 1) rfl rfl (fun e46 => (v_field_box (off := 0) (a0 := 1) rfl · · · fo45_1 rfl)) ?_
 refine sF 69 (iV t46.mEpoch) rfl rfl (fun e47 => (v_load_box1 (id := 14) (off := 1) rfl · · · onT3 (gv (nF e47)) rfl (ble _ _ rfl) rfl)) ?_
 refine sF 70 (iV t2) rfl rfl (fun e48 => (vm rfl rfl)) ?_
 refine sF 71 (bV (!eqI t46.mEpoch t2)) rfl rfl (fun e49 => (vb rfl (gv (nF e49)) (gv (nF e49)) (b_neq rfl))) ?_
 refine sT 72 (bV ((eqI t46.mID 0) || (!eqI t46.mEpoch t2))) rfl (vp rfl rfl (fun e50 => rfl) (fun e51 => (gv (nF e51))) (pO _ _)) ?_
 refine sM 73 (bV ((eqI t46.mID 0) || (!eqI t46.mEpoch t2))) rfl rfl ?_
 refine sF 74 (bV (((strEq t3.mKey (⟨#[]⟩ : ByteArray)) && (strEq t46.mSpan.mLo (⟨#[]⟩ : ByteArray))) || t61)) rfl rfl (fun e52 => (vm rfl rfl)) ?_
 refine sF 75 (bV (!(((strEq t3.mKey (⟨#[]⟩ : ByteArray)) && (strEq t46.mSpan.mLo (⟨#[]⟩ : ByteArray))) || t61))) rfl rfl (fun e53 => (vu rfl (gv (nF e53)) (u_not rfl))) ?_
 refine sT 76 (bV (((eqI t46.mID 0) || (!eqI t46.mEpoch t2)) || (!(((strEq t3.mKey (⟨#[]⟩ : ByteArray)) && (strEq t46.mSpan.mLo (⟨#[]⟩ : ByteArray))) || t61)))) rfl (vp rfl rfl (fun e54 => rfl) (fun e55 => (gv (nF e55))) (pO _ _)) ?_
 refine sM 63 (bV (((eqI t46.mID 0) || (!eqI t46.mEpoch t2)) || (!(((strEq t3.mKey (⟨#[]⟩ : ByteArray)) && (strEq t46.mSpan.mLo (⟨#[]⟩ : ByteArray))) || t61)))) rfl rfl ?_
 refine sq_nil ?_
 refine ht_cond rfl (fun e56 => ?_) (fun e56 => ?_)
 ·replace h := cpos e56 h
  refine ht_seq ?_
  refine ht_region_draw mixed ?_
  refine rP 77 (eCell t0) (eCell t0) ag26 rfl rfl rfl rfl rfl ?_
  obtain ⟨t78, c57, h⟩ := bpos h
  refine rC 78 (.d (.agg (eAnswer t78))) (s59 k 10 _ c57) en59 rfl rfl rfl rfl ?_
  refine rS 12 0 ((eCell t0).map V.d) sz26 rfl rfl rfl rfl rfl (ones_of rfl) rfl ?_
  refine rS 13 0 ((eAnswer t78).map V.d) sz34 rfl rfl rfl rfl rfl (ones_of rfl) rfl ?_
  refine rg_nil ⟨by kernel_rfl, ?_⟩
  refine ht_ret ?_
  cases h
  exact ret2 rfl (.cell rfl rfl ag26 (ble _ _ rfl) rfl) (.cell rfl rfl ag34 (ble _ _ rfl) rfl)
 replace h := cneg e56 h
 refine sr ?_
 refine sT 80 (.ptr 14 4) rfl (v_field_box (off := 0) (a0 := 4) rfl · · · fo45_3 rfl) ?_
 refine sT 81 (iV t46.mPhase) rfl (v_load_box1 (id := 14) (off := 4) rfl · · · onT3 rfl rfl (ble _ _ rfl) rfl) ?_
 refine sT 82 (bV (!eqI t46.mPhase 1)) rfl (vb rfl rfl rfl (b_neq rfl)) ?_
 refine sM 83 (bV (!eqI t46.mPhase 1)) rfl rfl ?_
 refine sF 84 (.d (.agg (eRequest t3))) rfl rfl (fun e58 => (w_ldp (eRequest t3) (eRequest t3) rfl · · · ag28 rfl (ble _ _ rfl) rfl)) ?_
 obtain ⟨t85, c60, h⟩ := bpos h
 refine sF 85 (bV t85) rfl rfl (fun e59 => (vC (s62 k t3 _ (cpos (nF e59) c60)) en62 · · · rfl (cc (gv (nF e59)) rfl) rfl)) ?_
 refine sF 86 (bV t85) rfl rfl (fun e61 => (vm rfl (gv (nF e61)))) ?_
 refine sI 87 (.ptr 14 13) rfl rfl (fun e62 e63 => (v_field_box (off := 0) (a0 := 13) rfl · · · fo45_8 rfl)) ?_
 refine sI 88 (iV t46.mHold) rfl rfl (fun e64 e65 => (v_load_box1 (id := 14) (off := 13) rfl · · · onT3 (gv (aT e64 e65)) rfl (ble _ _ rfl) rfl)) ?_
 refine sI 89 (bV (!eqI t46.mHold 0)) rfl rfl (fun e66 e67 => (vb rfl (gv (aT e66 e67)) rfl (b_neq rfl))) ?_
 refine sF 90 (bV (t85 && (!eqI t46.mHold 0))) rfl rfl (fun e68 => (vp rfl (gv (nF e68)) (fun e69 => (gv (aT (nF e68) e69))) (fun e70 => rfl) (pA _ _))) ?_
 refine sT 91 (bV ((!eqI t46.mPhase 1) || (t85 && (!eqI t46.mHold 0)))) rfl (vp rfl rfl (fun e71 => rfl) (fun e72 => (gv (nF e72))) (pO _ _)) ?_
 refine sM 79 (bV ((!eqI t46.mPhase 1) || (t85 && (!eqI t46.mHold 0)))) rfl rfl ?_
 refine sq_nil ?_
 refine ht_cond rfl (fun e73 => ?_) (fun e73 => ?_)
 ·replace h := cpos e73 h
  refine ht_seq ?_
  refine ht_region_draw mixed ?_
  refine rP 92 (eCell t0) (eCell t0) ag26 rfl rfl rfl rfl rfl ?_
  obtain ⟨t93, c74, h⟩ := bpos h
  refine rC 93 (.d (.agg (eAnswer t93))) (s59 k 11 _ c74) en59 rfl rfl rfl rfl ?_
  refine rS 12 0 ((eCell t0).map V.d) sz26 rfl rfl rfl rfl rfl (ones_of rfl) rfl ?_
  refine rS 13 0 ((eAnswer t93).map V.d) sz34 rfl rfl rfl rfl rfl (ones_of rfl) rfl ?_
  refine rg_nil ⟨by kernel_rfl, ?_⟩
  refine ht_ret ?_
  cases h
  exact ret2 rfl (.cell rfl rfl ag26 (ble _ _ rfl) rfl) (.cell rfl rfl ag34 (ble _ _ rfl) rfl)
 replace h := cneg e73 h
 refine sr ?_
 refine sP 95 (eRequest t3) (eRequest t3) ag28 rfl rfl rfl rfl rfl ?_
 obtain ⟨t96, c75, h⟩ := bpos h
 refine sC 96 (bV t96) (s62 k t3 _ c75) en62 rfl rfl rfl rfl ?_
 refine sM 94 (bV t96) rfl rfl ?_
 refine sq_nil ?_
 refine ht_cond rfl (fun e76 => ?_) (fun e76 => ?_)
 ·replace h := cpos e76 h
  refine sr ?_
  refine sP 97 (eCell t0) (eCell t0) ag26 rfl rfl rfl rfl rfl ?_
  refine sT 98 (.d (.agg (eShard t46))) rfl (w_ldb 14 0 rfl · · · ag45 rfl rfl (ble _ _ rfl) rfl) ?_
  refine sP 99 (eRequest t3) (eRequest t3) ag28 rfl rfl rfl rfl rfl ?_
  refine sP 100 (eStamp t4) (eStamp t4) ag24 rfl rfl rfl rfl rfl ?_
  obtain ⟨⟨t101a, t101b⟩, c77, h⟩ := bpos h
  refine sC 101 (.tup [.d (.agg (eCell t101a)), .d (.agg (eAnswer t101b))]) (s63 k t0 t46 t3 t4 _ c77) en63 rfl rfl rfl rfl ?_
  refine sT 102 (.d (.agg (eCell t101a))) rfl (ve rfl rfl rfl) ?_
  refine sT 103 (.d (.agg (eAnswer t101b))) rfl (ve rfl rfl rfl) ?_
  refine sS 12 0 ((eCell t101a).map V.d) sz26 rfl rfl rfl rfl rfl (ones_of rfl) rfl ?_
  refine sS 13 0 ((eAnswer t101b).map V.d) sz34 rfl rfl rfl rfl rfl (ones_of rfl) rfl ?_
  refine sz ?_
  cases h
  exact ret2 rfl (.cell rfl rfl ag26 (ble _ _ rfl) rfl) (.cell rfl rfl ag34 (ble _ _ rfl) rfl)
 replace h := cneg e76 h
 refine sr ?_
 refine sD 105 (eRequest t3) fo28_2 rfl rfl rfl ?_
 refine sT 106 (iV t3.mKind) rfl (vl rfl onT3 rfl rfl) ?_
 refine sT 107 (bV (eqI t3.mKind 4)) rfl (vb rfl rfl rfl (b_eql rfl)) ?_
 refine sM 104 (bV (eqI t3.mKind 4)) rfl rfl ?_
 refine sq_nil ?_
 refine ht_cond rfl (fun e78 => ?_) (fun e78 => ?_)
 ·replace h := cpos e78 h
  refine ht_seq ?_
  refine ht_region_draw mixed ?_
  refine rP 108 (eCell t0) (eCell t0) ag26 rfl rfl rfl rfl rfl ?_
  refine rP 109 (eCell t0) (eCell t0) ag26 rfl rfl rfl rfl rfl ?_
  refine rT 110 (.d (.agg (eShard t46))) rfl (w_ldb 14 0 rfl · · · ag45 rfl rfl (ble _ _ rfl) rfl) ?_
  refine rD 111 (eRequest t3) fo28_3 rfl rfl rfl ?_
  refine rT 112 (sV t3.mKey) rfl (vl rfl onT9 rfl rfl) ?_
  obtain ⟨t113, c79, h⟩ := bpos h
  refine rC 113 (.d (.agg (eAnswer t113))) (s64 k t0 t46 t3.mKey _ c79) en64 rfl rfl rfl rfl ?_
  refine rS 12 0 ((eCell t0).map V.d) sz26 rfl rfl rfl rfl rfl (ones_of rfl) rfl ?_
  refine rS 13 0 ((eAnswer t113).map V.d) sz34 rfl rfl rfl rfl rfl (ones_of rfl) rfl ?_
  refine rg_nil ⟨by kernel_rfl, ?_⟩
  refine ht_ret ?_
  cases h
  exact ret2 rfl (.cell rfl rfl ag26 (ble _ _ rfl) rfl) (.cell rfl rfl ag34 (ble _ _ rfl) rfl)
 replace h := cneg e78 h
 refine ht_skip ?_
 refine sr ?_
 refine sP 114 (eCell t0) (eCell t0) ag26 rfl rfl rfl rfl rfl ?_
 refine sT 115 (.d (.agg (eShard t46))) rfl (w_ldb 14 0 rfl · · · ag45 rfl rfl (ble _ _ rfl) rfl) ?_
 refine sP 116 (eRequest t3) (eRequest t3) ag28 rfl rfl rfl rfl rfl ?_
 refine sM 117 (iV t5) rfl rfl ?_
 obtain ⟨⟨t118a, t118b⟩, c80, h⟩ := bpos h
 refine sC 118 (.tup [.d (.agg (eCell t118a)), .d (.agg (eAnswer t118b))]) (s65 k t0 t46 t3 t5 _ c80) en65 rfl rfl rfl rfl ?_
 refine sT 119 (.d (.agg (eCell t118a))) rfl (ve rfl rfl rfl) ?_
 refine sT 120 (.d (.agg (eAnswer t118b))) rfl (ve rfl rfl rfl) ?_
 refine sS 12 0 ((eCell t118a).map V.d) sz26 rfl rfl rfl rfl rfl (ones_of rfl) rfl ?_
 refine sS 13 0 ((eAnswer t118b).map V.d) sz34 rfl rfl rfl rfl rfl (ones_of rfl) rfl ?_
 refine sz ?_
 cases h
 exact ret2 rfl (.cell rfl rfl ag26 (ble _ _ rfl) rfl) (.cell rfl rfl ag34 (ble _ _ rfl) rfl)
theorem s15 (k : Nat) (r : Bool) (h : F15 k = some r) : Awp.Spec Tryz.prog amb 15 [] (.ds [(.s (.bool r))]) := by
 rw [F15] at h
 refine spec_of Tryz.func15 rfl (ble _ _ rfl) fun w0 ok0 lt0 hA => ?_
 refine sr ?_
 refine sM 0 (bV false) rfl rfl ?_
 refine sq_nil ?_
 refine sr ?_
 refine sT 6 (.d (.agg (eShard (⟨1, 1, (⟨⟨#[]⟩, ⟨#[]⟩⟩ : Span), 1, ([] : List Entry), (⟨0, 0, 0⟩ : Stamp), (⟨0, 0, 0⟩ : Stamp), ([] : List Done), 0, 0, 0, 0⟩ : Shard)))) rfl (w_bld zc45 ((eShard (⟨1, 1, (⟨⟨#[]⟩, ⟨#[]⟩⟩ : Span), 1, ([] : List Entry), (⟨0, 0, 0⟩ : Stamp), (⟨0, 0, 0⟩ : Stamp), ([] : List Done), 0, 0, 0, 0⟩ : Shard)).map V.d) [(0, iV 1), (1, iV 1), (3, iV 1)] rfl · · · zw45 rfl ft45 rfl rfl rfl rfl) ?_
 refine sT 7 (.d (.sl 17 (([(⟨1, 1, (⟨⟨#[]⟩, ⟨#[]⟩⟩ : Span), 1, ([] : List Entry), (⟨0, 0, 0⟩ : Stamp), (⟨0, 0, 0⟩ : Stamp), ([] : List Done), 0, 0, 0, 0⟩ : Shard)]).map eShard))) rfl (w_bsl_d [(0, .d (.agg (eShard (⟨1, 1, (⟨⟨#[]⟩, ⟨#[]⟩⟩ : Span), 1, ([] : List Entry), (⟨0, 0, 0⟩ : Stamp), (⟨0, 0, 0⟩ : Stamp), ([] : List Done), 0, 0, 0, 0⟩ : Shard))))] [(⟨1, 1, (⟨⟨#[]⟩, ⟨#[]⟩⟩ : Span), 1, ([] : List Entry), (⟨0, 0, 0⟩ : Stamp), (⟨0, 0, 0⟩ : Stamp), ([] : List Done), 0, 0, 0, 0⟩ : Shard)] eShard rfl · · · slT22 zr45 teShard (ble _ _ rfl) rfl (by kernel_rfl) rfl rfl (by kernel_rfl)) ?_
 refine sT 8 (.d (.agg (eCell (⟨([(⟨1, 1, (⟨⟨#[]⟩, ⟨#[]⟩⟩ : Span), 1, ([] : List Entry), (⟨0, 0, 0⟩ : Stamp), (⟨0, 0, 0⟩ : Stamp), ([] : List Done), 0, 0, 0, 0⟩ : Shard)]), (⟨0, 0, 0⟩ : Stamp), 0⟩ : Cell)))) rfl (w_bld zc26 ((eCell (⟨([(⟨1, 1, (⟨⟨#[]⟩, ⟨#[]⟩⟩ : Span), 1, ([] : List Entry), (⟨0, 0, 0⟩ : Stamp), (⟨0, 0, 0⟩ : Stamp), ([] : List Done), 0, 0, 0, 0⟩ : Shard)]), (⟨0, 0, 0⟩ : Stamp), 0⟩ : Cell)).map V.d) [(0, .d (.sl 17 (([(⟨1, 1, (⟨⟨#[]⟩, ⟨#[]⟩⟩ : Span), 1, ([] : List Entry), (⟨0, 0, 0⟩ : Stamp), (⟨0, 0, 0⟩ : Stamp), ([] : List Done), 0, 0, 0, 0⟩ : Shard)]).map eShard)))] rfl · · · zw26 rfl ft26 rfl rfl rfl rfl) ?_
 refine sq_cons _ (v_alloc (id := 1) (cs := zc26) rfl trivial rfl (ble _ _ rfl) zu26 rfl ft26 rfl) ?_
 refine sS 1 0 ((eCell (⟨([(⟨1, 1, (⟨⟨#[]⟩, ⟨#[]⟩⟩ : Span), 1, ([] : List Entry), (⟨0, 0, 0⟩ : Stamp), (⟨0, 0, 0⟩ : Stamp), ([] : List Done), 0, 0, 0, 0⟩ : Shard)]), (⟨0, 0, 0⟩ : Stamp), 0⟩ : Cell)).map V.d) sz26 rfl rfl rfl rfl rfl (ones_of rfl) rfl ?_
 refine sq_nil ?_
 refine ht_seq ?_
 refine ht_region_draw mixed ?_
 refine rT 10 (.d (.agg (eCell (⟨([(⟨1, 1, (⟨⟨#[]⟩, ⟨#[]⟩⟩ : Span), 1, ([] : List Entry), (⟨0, 0, 0⟩ : Stamp), (⟨0, 0, 0⟩ : Stamp), ([] : List Done), 0, 0, 0, 0⟩ : Shard)]), (⟨0, 0, 0⟩ : Stamp), 0⟩ : Cell)))) rfl (w_ldb 1 0 rfl · · · ag26 rfl rfl (ble _ _ rfl) rfl) ?_
 refine rT 11 (.d (.agg (eRequest (⟨1, 1, 1, (⟨#[97]⟩ : ByteArray), (⟨#[120]⟩ : ByteArray), false, (⟨#[]⟩ : ByteArray), (⟨0, 0, 0⟩ : Stamp), (⟨#[]⟩ : ByteArray), 0⟩ : Request)))) rfl (w_bld zc28 ((eRequest (⟨1, 1, 1, (⟨#[97]⟩ : ByteArray), (⟨#[120]⟩ : ByteArray), false, (⟨#[]⟩ : ByteArray), (⟨0, 0, 0⟩ : Stamp), (⟨#[]⟩ : ByteArray), 0⟩ : Request)).map V.d) [(0, iV 1), (1, iV 1), (2, iV 1), (3, sV (⟨#[97]⟩ : ByteArray)), (4, sV (⟨#[120]⟩ : ByteArray))] rfl · · · zw28 rfl ft28 rfl rfl rfl rfl) ?_
 obtain ⟨t12, c1, h⟩ := bpos h
 refine rC 12 (.d (.agg (eStamp t12))) (s56 k 5 _ c1) en56 rfl rfl rfl rfl ?_
 obtain ⟨⟨t13a, t13b⟩, c2, h⟩ := bpos h
 refine rC 13 (.tup [.d (.agg (eCell t13a)), .d (.agg (eAnswer t13b))]) (s16 k (⟨([(⟨1, 1, (⟨⟨#[]⟩, ⟨#[]⟩⟩ : Span), 1, ([] : List Entry), (⟨0, 0, 0⟩ : Stamp), (⟨0, 0, 0⟩ : Stamp), ([] : List Done), 0, 0, 0, 0⟩ : Shard)]), (⟨0, 0, 0⟩ : Stamp), 0⟩ : Cell) 1 1 (⟨1, 1, 1, (⟨#[97]⟩ : ByteArray), (⟨#[120]⟩ : ByteArray), false, (⟨#[]⟩ : ByteArray), (⟨0, 0, 0⟩ : Stamp), (⟨#[]⟩ : ByteArray), 0⟩ : Request) t12 0 _ c2) en16 rfl rfl rfl rfl ?_
 refine rM 9 (.tup [.d (.agg (eCell t13a)), .d (.agg (eAnswer t13b))]) rfl rfl ?_
 refine rT 14 (.d (.agg (eCell t13a))) rfl (ve rfl rfl rfl) ?_
 refine rT 15 (.d (.agg (eAnswer t13b))) rfl (ve rfl rfl rfl) ?_
 refine rg_cons _ (v_alloc (id := 2) (cs := zc26) rfl trivial rfl (ble _ _ rfl) zu26 rfl ft26 rfl) ?_
 refine rg_cons _ (v_alloc (id := 3) (cs := zc34) rfl trivial rfl (ble _ _ rfl) zu34 rfl ft34 rfl) ?_
 refine rS 2 0 ((eCell t13a).map V.d) sz26 rfl rfl rfl rfl rfl (ones_of rfl) rfl ?_
 refine rS 3 0 ((eAnswer t13b).map V.d) sz34 rfl rfl rfl rfl rfl (ones_of rfl) rfl ?_
 refine rg_nil ⟨by kernel_rfl, ?_⟩
 refine ht_seq ?_
 refine ht_region_draw mixed ?_
 refine rT 17 (.d (.agg (eCell t13a))) rfl (w_ldb 2 0 rfl · · · ag26 rfl rfl (ble _ _ rfl) rfl) ?_
 refine rT 18 (.d (.agg (eRequest (⟨1, 2, 4, (⟨#[97]⟩ : ByteArray), (⟨#[]⟩ : ByteArray), false, (⟨#[]⟩ : ByteArray), (⟨0, 0, 0⟩ : Stamp), (⟨#[]⟩ : ByteArray), 0⟩ : Request)))) rfl (w_bld zc28 ((eRequest (⟨1, 2, 4, (⟨#[97]⟩ : ByteArray), (⟨#[]⟩ : ByteArray), false, (⟨#[]⟩ : ByteArray), (⟨0, 0, 0⟩ : Stamp), (⟨#[]⟩ : ByteArray), 0⟩ : Request)).map V.d) [(0, iV 1), (1, iV 2), (2, iV 4), (3, sV (⟨#[97]⟩ : ByteArray))] rfl · · · zw28 rfl ft28 rfl rfl rfl rfl) ?_
 obtain ⟨t19, c3, h⟩ := bpos h
 refine rC 19 (.d (.agg (eStamp t19))) (s56 k 6 _ c3) en56 rfl rfl rfl rfl ?_
 obtain ⟨⟨t20a, t20b⟩, c4, h⟩ := bpos h
 refine rC 20 (.tup [.d (.agg (eCell t20a)), .d (.agg (eAnswer t20b))]) (s16 k t13a 1 1 (⟨1, 2, 4, (⟨#[97]⟩ : ByteArray), (⟨#[]⟩ : ByteArray), false, (⟨#[]⟩ : ByteArray), (⟨0, 0, 0⟩ : Stamp), (⟨#[]⟩ : ByteArray), 0⟩ : Request) t19 0 _ c4) en16 rfl rfl rfl rfl ?_
 refine rM 16 (.tup [.d (.agg (eCell t20a)), .d (.agg (eAnswer t20b))]) rfl rfl ?_
 refine rT 21 (.d (.agg (eCell t20a))) rfl (ve rfl rfl rfl) ?_
 refine rT 22 (.d (.agg (eAnswer t20b))) rfl (ve rfl rfl rfl) ?_
 refine rg_cons _ (v_alloc (id := 4) (cs := zc26) rfl trivial rfl (ble _ _ rfl) zu26 rfl ft26 rfl) ?_
 refine rg_cons _ (v_alloc (id := 5) (cs := zc34) rfl trivial rfl (ble _ _ rfl) zu34 rfl ft34 rfl) ?_
 refine rS 4 0 ((eCell t20a).map V.d) sz26 rfl rfl rfl rfl rfl (ones_of rfl) rfl ?_
 refine rS 5 0 ((eAnswer t20b).map V.d) sz34 rfl rfl rfl rfl rfl (ones_of rfl) rfl ?_
 refine rg_nil ⟨by kernel_rfl, ?_⟩
 refine ht_seq ?_
 refine ht_region_draw mixed ?_
 refine rT 23 (.d (.agg (eCell t13a))) rfl (w_ldb 2 0 rfl · · · ag26 rfl rfl (ble _ _ rfl) rfl) ?_
 obtain ⟨t24, c5, h⟩ := bpos h
 refine rC 24 (bV t24) (s25 k t13a _ c5) en25 rfl rfl rfl rfl ?_
 refine rM 25 (bV t24) rfl rfl ?_
 refine rG 26 (.ptr 3 1) rfl rfl (fun e6 => (v_field_box (off := 0) (a0 := 1) rfl · · · fo34_1 rfl)) ?_
 refine rG 27 (.d (.agg (eStamp t13b.mAt))) rfl rfl (fun e7 => (w_ldb 3 1 rfl · · · ag24 (gv e7) rfl (ble _ _ rfl) rfl)) ?_
 obtain ⟨t28, c9, h⟩ := bpos h
 refine rG 28 (.d (.agg (eStamp t28))) rfl rfl (fun e8 => (vC (s56 k 5 _ (cpos e8 c9)) en56 · · · rfl rfl rfl)) ?_
 refine rG 29 (bV (qStamp t13b.mAt t28)) rfl rfl (fun e10 => (v_bin_eql (f := eStamp) rfl · · · (gv e10) (gv e10) rfl rfl eg24 (eq24 _ _))) ?_
 refine rT 30 (bV (t24 && (qStamp t13b.mAt t28))) rfl (vp rfl rfl (fun e11 => (gv e11)) (fun e12 => rfl) (pA _ _)) ?_
 refine rM 31 (bV (t24 && (qStamp t13b.mAt t28))) rfl rfl ?_
 refine rG 32 (.ptr 3 0) rfl rfl (fun e13 => (v_field_box (off := 0) (a0 := 0) rfl · · · fo34_0 rfl)) ?_
 refine rG 33 (iV t13b.mErr) rfl rfl (fun e14 => (v_load_box1 (id := 3) (off := 0) rfl · · · onT31 (gv e14) rfl (ble _ _ rfl) rfl)) ?_
 refine rG 34 (bV (eqI t13b.mErr 0)) rfl rfl (fun e15 => (vb rfl (gv e15) rfl (b_eql rfl))) ?_
 refine rT 35 (bV ((t24 && (qStamp t13b.mAt t28)) && (eqI t13b.mErr 0))) rfl (vp rfl rfl (fun e16 => (gv e16)) (fun e17 => rfl) (pA _ _)) ?_
 refine rM 36 (bV ((t24 && (qStamp t13b.mAt t28)) && (eqI t13b.mErr 0))) rfl rfl ?_
 refine rG 37 (.ptr 5 4) rfl rfl (fun e18 => (v_field_box (off := 0) (a0 := 4) rfl · · · fo34_2 rfl)) ?_
 refine rG 38 (bV t20b.mFound) rfl rfl (fun e19 => (v_load_box1 (id := 5) (off := 4) rfl · · · onT4 (gv e19) rfl (ble _ _ rfl) rfl)) ?_
 refine rT 39 (bV (((t24 && (qStamp t13b.mAt t28)) && (eqI t13b.mErr 0)) && t20b.mFound)) rfl (vp rfl rfl (fun e20 => (gv e20)) (fun e21 => rfl) (pA _ _)) ?_
 refine rM 40 (bV (((t24 && (qStamp t13b.mAt t28)) && (eqI t13b.mErr 0)) && t20b.mFound)) rfl rfl ?_
 refine rG 41 (.ptr 5 5) rfl rfl (fun e22 => (v_field_box (off := 0) (a0 := 5) rfl · · · fo34_3 rfl)) ?_
 refine rG 42 (sV t20b.mValue) rfl rfl (fun e23 => (v_load_box1 (id := 5) (off := 5) rfl · · · onT9 (gv e23) rfl (ble _ _ rfl) rfl)) ?_
 refine rG 43 (bV (strEq t20b.mValue (⟨#[120]⟩ : ByteArray))) rfl rfl (fun e24 => (vb rfl (gv e24) rfl (b_eqS rfl))) ?_
 refine rT 44 (bV ((((t24 && (qStamp t13b.mAt t28)) && (eqI t13b.mErr 0)) && t20b.mFound) && (strEq t20b.mValue (⟨#[120]⟩ : ByteArray)))) rfl (vp rfl rfl (fun e25 => (gv e25)) (fun e26 => rfl) (pA _ _)) ?_
 refine rM 45 (bV ((((t24 && (qStamp t13b.mAt t28)) && (eqI t13b.mErr 0)) && t20b.mFound) && (strEq t20b.mValue (⟨#[120]⟩ : ByteArray)))) rfl rfl ?_
 refine rG 46 (.ptr 5 1) rfl rfl (fun e27 => (v_field_box (off := 0) (a0 := 1) rfl · · · fo34_1 rfl)) ?_
 refine rG 47 (.d (.agg (eStamp t20b.mAt))) rfl rfl (fun e28 => (w_ldb 5 1 rfl · · · ag24 (gv e28) rfl (ble _ _ rfl) rfl)) ?_
 obtain ⟨t48, c30, h⟩ := bpos h
 refine rG 48 (.d (.agg (eStamp t48))) rfl rfl (fun e29 => (vC (s56 k 5 _ (cpos e29 c30)) en56 · · · rfl rfl rfl)) ?_
 refine rG 49 (bV (qStamp t20b.mAt t48)) rfl rfl (fun e31 => (v_bin_eql (f := eStamp) rfl · · · (gv e31) (gv e31) rfl rfl eg24 (eq24 _ _))) ?_
 refine rT 50 (bV (((((t24 && (qStamp t13b.mAt t28)) && (eqI t13b.mErr 0)) && t20b.mFound) && (strEq t20b.mValue (⟨#[120]⟩ : ByteArray))) && (qStamp t20b.mAt t48))) rfl (vp rfl rfl (fun e32 => (gv e32)) (fun e33 => rfl) (pA _ _)) ?_
 refine rM 0 (bV (((((t24 && (qStamp t13b.mAt t28)) && (eqI t13b.mErr 0)) && t20b.mFound) && (strEq t20b.mValue (⟨#[120]⟩ : ByteArray))) && (qStamp t20b.mAt t48))) rfl rfl ?_
 refine rg_nil ⟨by kernel_rfl, ?_⟩
 refine ht_ret ?_
 cases h
 exact ret1 rfl (.tmp rfl)
theorem s68 (k : Nat) (t0 : Stamp) (r : Bool) (h : F68 k t0 = some r) : Awp.Spec Tryz.prog amb 68 [(.agg (eStamp t0))] (.ds [(.s (.bool r))]) := by
 rw [F68] at h
 refine spec_of Tryz.func68 rfl (ble _ _ rfl) fun w0 ok0 lt0 hA => ?_
 refine sr ?_
 refine sT 1 (.d (.dp (eStamp t0))) rfl (v_box_d (cs := (eStamp t0)) rfl · · · rfl rfl (ones_of rfl)) ?_
 refine sM 2 (bV false) rfl rfl ?_
 refine sq_nil ?_
 refine sr ?_
 refine sD 3 (eStamp t0) fo24_0 rfl rfl rfl ?_
 refine sT 4 (iV t0.mWall) rfl (vl rfl onT3 rfl rfl) ?_
 refine sT 5 (bV (leI 0 t0.mWall)) rfl (vb rfl rfl rfl (b_geq rfl)) ?_
 refine sM 6 (bV (leI 0 t0.mWall)) rfl rfl ?_
 refine sG 7 (.d (.dp (eStamp t0))) rfl rfl (fun e1 => (vD (eStamp t0) fo24_0 · · · rfl rfl)) ?_
 refine sG 8 (iV t0.mWall) rfl rfl (fun e2 => (vl rfl onT3 (gv e2) rfl)) ?_
 refine sG 9 (bV (leI t0.mWall 1099511627776)) rfl rfl (fun e3 => (vb rfl (gv e3) rfl (b_leq rfl))) ?_
 refine sT 10 (bV ((leI 0 t0.mWall) && (leI t0.mWall 1099511627776))) rfl (vp rfl rfl (fun e4 => (gv e4)) (fun e5 => rfl) (pA _ _)) ?_
 refine sM 11 (bV ((leI 0 t0.mWall) && (leI t0.mWall 1099511627776))) rfl rfl ?_
 refine sG 12 (.d (.dp (List.drop 1 (eStamp t0)))) rfl rfl (fun e6 => (vD (eStamp t0) fo24_1 · · · rfl rfl)) ?_
 refine sG 13 (iV t0.mTick) rfl rfl (fun e7 => (vl rfl onT3 (gv e7) rfl)) ?_
 refine sG 14 (bV (leI 0 t0.mTick)) rfl rfl (fun e8 => (vb rfl (gv e8) rfl (b_geq rfl))) ?_
 refine sT 15 (bV (((leI 0 t0.mWall) && (leI t0.mWall 1099511627776)) && (leI 0 t0.mTick))) rfl (vp rfl rfl (fun e9 => (gv e9)) (fun e10 => rfl) (pA _ _)) ?_
 refine sM 16 (bV (((leI 0 t0.mWall) && (leI t0.mWall 1099511627776)) && (leI 0 t0.mTick))) rfl rfl ?_
 refine sG 17 (.d (.dp (List.drop 1 (eStamp t0)))) rfl rfl (fun e11 => (vD (eStamp t0) fo24_1 · · · rfl rfl)) ?_
 refine sG 18 (iV t0.mTick) rfl rfl (fun e12 => (vl rfl onT3 (gv e12) rfl)) ?_
 refine sG 19 (bV (leI t0.mTick 1048576)) rfl rfl (fun e13 => (vb rfl (gv e13) rfl (b_leq rfl))) ?_
 refine sT 20 (bV ((((leI 0 t0.mWall) && (leI t0.mWall 1099511627776)) && (leI 0 t0.mTick)) && (leI t0.mTick 1048576))) rfl (vp rfl rfl (fun e14 => (gv e14)) (fun e15 => rfl) (pA _ _)) ?_
 refine sM 21 (bV ((((leI 0 t0.mWall) && (leI t0.mWall 1099511627776)) && (leI 0 t0.mTick)) && (leI t0.mTick 1048576))) rfl rfl ?_
 refine sG 22 (.d (.dp (List.drop 2 (eStamp t0)))) rfl rfl (fun e16 => (vD (eStamp t0) fo24_2 · · · rfl rfl)) ?_
 refine sG 23 (iV t0.mNode) rfl rfl (fun e17 => (vl rfl onT3 (gv e17) rfl)) ?_
 refine sG 24 (bV (leI 0 t0.mNode)) rfl rfl (fun e18 => (vb rfl (gv e18) rfl (b_geq rfl))) ?_
 refine sT 25 (bV (((((leI 0 t0.mWall) && (leI t0.mWall 1099511627776)) && (leI 0 t0.mTick)) && (leI t0.mTick 1048576)) && (leI 0 t0.mNode))) rfl (vp rfl rfl (fun e19 => (gv e19)) (fun e20 => rfl) (pA _ _)) ?_
 refine sM 26 (bV (((((leI 0 t0.mWall) && (leI t0.mWall 1099511627776)) && (leI 0 t0.mTick)) && (leI t0.mTick 1048576)) && (leI 0 t0.mNode))) rfl rfl ?_
 refine sG 27 (.d (.dp (List.drop 2 (eStamp t0)))) rfl rfl (fun e21 => (vD (eStamp t0) fo24_2 · · · rfl rfl)) ?_
 refine sG 28 (iV t0.mNode) rfl rfl (fun e22 => (vl rfl onT3 (gv e22) rfl)) ?_
 refine sG 29 (bV (leI t0.mNode 255)) rfl rfl (fun e23 => (vb rfl (gv e23) rfl (b_leq rfl))) ?_
 refine sT 30 (bV ((((((leI 0 t0.mWall) && (leI t0.mWall 1099511627776)) && (leI 0 t0.mTick)) && (leI t0.mTick 1048576)) && (leI 0 t0.mNode)) && (leI t0.mNode 255))) rfl (vp rfl rfl (fun e24 => (gv e24)) (fun e25 => rfl) (pA _ _)) ?_
 refine sM 2 (bV ((((((leI 0 t0.mWall) && (leI t0.mWall 1099511627776)) && (leI 0 t0.mTick)) && (leI t0.mTick 1048576)) && (leI 0 t0.mNode)) && (leI t0.mNode 255))) rfl rfl ?_
 refine sz ?_
 cases h
 exact ret1 rfl (.tmp rfl)
theorem s66 (k : Nat) (t0 : Int) (r : Bool) (h : F66 k t0 = some r) : Awp.Spec Tryz.prog amb 66 [(.s (.int .i64 t0))] (.ds [(.s (.bool r))]) := by
 rw [F66] at h
 refine spec_of Tryz.func66 rfl (ble _ _ rfl) fun w0 ok0 lt0 hA => ?_
 refine sr ?_
 refine sM 2 (bV false) rfl rfl ?_
 refine sq_nil ?_
 refine sr ?_
 refine sM 3 (iV t0) rfl rfl ?_
 refine sT 4 (bV (ltI 0 t0)) rfl (vb rfl rfl rfl (b_gtr rfl)) ?_
 refine sM 5 (bV (ltI 0 t0)) rfl rfl ?_
 refine sG 6 (iV t0) rfl rfl (fun e1 => (vm rfl rfl)) ?_
 refine sG 7 (bV (leI t0 1099511627776)) rfl rfl (fun e2 => (vb rfl (gv e2) rfl (b_leq rfl))) ?_
 refine sT 8 (bV ((ltI 0 t0) && (leI t0 1099511627776))) rfl (vp rfl rfl (fun e3 => (gv e3)) (fun e4 => rfl) (pA _ _)) ?_
 refine sM 2 (bV ((ltI 0 t0) && (leI t0 1099511627776))) rfl rfl ?_
 refine sz ?_
 cases h
 exact ret1 rfl (.tmp rfl)
theorem s67 (k : Nat) (t0 : Int) (r : Bool) (h : F67 k t0 = some r) : Awp.Spec Tryz.prog amb 67 [(.s (.int .i64 t0))] (.ds [(.s (.bool r))]) := by
 rw [F67] at h
 refine spec_of Tryz.func67 rfl (ble _ _ rfl) fun w0 ok0 lt0 hA => ?_
 refine sr ?_
 refine sM 2 (bV false) rfl rfl ?_
 refine sq_nil ?_
 refine sr ?_
 refine sM 3 (iV t0) rfl rfl ?_
 refine sT 4 (bV (eqI t0 0)) rfl (vb rfl rfl rfl (b_eql rfl)) ?_
 refine sM 5 (bV (eqI t0 0)) rfl rfl ?_
 refine sF 6 (iV t0) rfl rfl (fun e1 => (vm rfl rfl)) ?_
 obtain ⟨t7, c3, h⟩ := bpos h
 refine sF 7 (bV t7) rfl rfl (fun e2 => (vC (s66 k t0 _ (cpos (nF e2) c3)) en66 · · · rfl (cc (gv (nF e2)) rfl) rfl)) ?_
 refine sT 8 (bV ((eqI t0 0) || t7)) rfl (vp rfl rfl (fun e4 => rfl) (fun e5 => (gv (nF e5))) (pO _ _)) ?_
 refine sM 2 (bV ((eqI t0 0) || t7)) rfl rfl ?_
 refine sz ?_
 cases h
 exact ret1 rfl (.tmp rfl)
theorem s163 (k : Nat) (t0 : ByteArray) (r : Int × Int) (h : F163 k t0 = some r) : Awp.Spec Tryz.prog amb 163 [(.s (.string t0))] (.ds [(.s (.int .i64 r.1)), (.s (.int .i64 r.2))]) := by
 rw [F163] at h
 refine spec_of Tryz.func163 rfl (ble _ _ rfl) fun w0 ok0 lt0 hA => ?_
 refine sr ?_
 refine sM 2 (iV 0) rfl rfl ?_
 refine sM 3 (iV 0) rfl rfl ?_
 refine sq_nil ?_
 refine sr ?_
 refine sM 8 (sV t0) rfl rfl ?_
 obtain ⟨e1, h⟩ := gpos h
 refine sT 9 (nV .u8 (bt t0 0)) rfl (v_index rfl · · · rfl rfl (i_str und9 e1 rfl)) ?_
 refine sT 10 (iV (IntKind.wrap .i64 (bt t0 0))) rfl (v_conv rfl · · · rfl (c_int und5 und3 rfl)) ?_
 refine sM 4 (iV (IntKind.wrap .i64 (bt t0 0))) rfl rfl ?_
 refine sq_nil ?_
 refine ht_seq ?_
 refine sr ?_
 refine sM 11 (iV (IntKind.wrap .i64 (bt t0 0))) rfl rfl ?_
 refine sT 12 (bV (ltI (IntKind.wrap .i64 (bt t0 0)) 128)) rfl (vb rfl rfl rfl (b_lss rfl)) ?_
 refine sq_nil ?_
 refine ht_cond rfl (fun e2 => ?_) (fun e2 => ?_)
 ·replace h := cpos e2 h
  refine sr ?_
  refine sM 13 (iV (IntKind.wrap .i64 (bt t0 0))) rfl rfl ?_
  refine sM 2 (iV (IntKind.wrap .i64 (bt t0 0))) rfl rfl ?_
  refine sM 3 (iV 1) rfl rfl ?_
  refine sz ?_
  cases h
  exact ret2 rfl (.tmp rfl) (.tmp rfl)
 replace h := cneg e2 h
 refine ht_skip ?_
 refine sr ?_
 refine sM 5 (iV 0) rfl rfl ?_
 refine sM 6 (iV 0) rfl rfl ?_
 refine sq_nil ?_
 refine ht_bj h (fun (t4, t5, t6) => tell [(.t 0, sV t0), (.t 4, iV t4), (.t 5, iV t5), (.t 6, iV t6)]) (fun v3 h => ?_) (fun v3 K4 h j6 => ?_)
 ·obtain ⟨t4, t5, t6⟩ := v3
  refine ht_seq ?_
  refine sr ?_
  refine sM 38 (iV t5) rfl rfl ?_
  refine sT 39 (bV (eqI t5 0)) rfl (vb rfl rfl rfl (b_eql rfl)) ?_
  refine sM 40 (bV (eqI t5 0)) rfl rfl ?_
  refine sF 41 (sV t0) rfl rfl (fun e23 => (vm rfl rfl)) ?_
  refine sF 42 (iV (t0.size : Int)) rfl rfl (fun e24 => (v_len_str rfl rfl · · · und9 (gv (nF e24)))) ?_
  refine sF 43 (iV t5) rfl rfl (fun e25 => (vm rfl rfl)) ?_
  refine sF 44 (bV (ltI (t0.size : Int) t5)) rfl rfl (fun e26 => (vb rfl (gv (nF e26)) (gv (nF e26)) (b_lss rfl))) ?_
  refine sT 45 (bV ((eqI t5 0) || (ltI (t0.size : Int) t5))) rfl (vp rfl rfl (fun e27 => rfl) (fun e28 => (gv (nF e28))) (pO _ _)) ?_
  refine sq_nil ?_
  refine ht_cond rfl (fun e29 => ?_) (fun e29 => ?_)
  ·replace h := cpos e29 h
   refine sr ?_
   refine sM 2 (iV (-1)) rfl rfl ?_
   refine sM 3 (iV 1) rfl rfl ?_
   refine sz ?_
   cases h
   exact ret2 rfl (.tmp rfl) (.tmp rfl)
  replace h := cneg e29 h
  refine ht_skip ?_
  refine ht_gj (go_id' h) (fun t4_1 => tell [(.t 4, iV t4_1), (.t 5, iV t5), (.t 6, iV t6)]) (fun t4_1 h => ?_) (fun v30 K31 h j33 r34 => ?_)
  ·refine ht_seq ?_
   refine sr ?_
   refine sM 69 (iV t4_1) rfl rfl ?_
   refine sM 70 (iV t6) rfl rfl ?_
   refine sT 71 (bV (ltI t4_1 t6)) rfl (vb rfl rfl rfl (b_lss rfl)) ?_
   refine sM 72 (bV (ltI t4_1 t6)) rfl rfl ?_
   refine sF 73 (iV t4_1) rfl rfl (fun e51 => (vm rfl rfl)) ?_
   refine sF 74 (bV (ltI 1114111 t4_1)) rfl rfl (fun e52 => (vb rfl (gv (nF e52)) rfl (b_gtr rfl))) ?_
   refine sT 75 (bV ((ltI t4_1 t6) || (ltI 1114111 t4_1))) rfl (vp rfl rfl (fun e53 => rfl) (fun e54 => (gv (nF e54))) (pO _ _)) ?_
   refine sM 76 (bV ((ltI t4_1 t6) || (ltI 1114111 t4_1))) rfl rfl ?_
   refine sF 77 (iV t4_1) rfl rfl (fun e55 => (vm rfl rfl)) ?_
   refine sF 78 (bV (leI 55296 t4_1)) rfl rfl (fun e56 => (vb rfl (gv (nF e56)) rfl (b_geq rfl))) ?_
   refine sF 79 (bV (leI 55296 t4_1)) rfl rfl (fun e57 => (vm rfl (gv (nF e57)))) ?_
   refine sI 80 (iV t4_1) rfl rfl (fun e58 e59 => (vm rfl rfl)) ?_
   refine sI 81 (bV (ltI t4_1 57344)) rfl rfl (fun e60 e61 => (vb rfl (gv (aT e60 e61)) rfl (b_lss rfl))) ?_
   refine sF 82 (bV ((leI 55296 t4_1) && (ltI t4_1 57344))) rfl rfl (fun e62 => (vp rfl (gv (nF e62)) (fun e63 => (gv (aT (nF e62) e63))) (fun e64 => rfl) (pA _ _))) ?_
   refine sT 83 (bV (((ltI t4_1 t6) || (ltI 1114111 t4_1)) || ((leI 55296 t4_1) && (ltI t4_1 57344)))) rfl (vp rfl rfl (fun e65 => rfl) (fun e66 => (gv (nF e66))) (pO _ _)) ?_
   refine sq_nil ?_
   refine ht_cond rfl (fun e67 => ?_) (fun e67 => ?_)
   ·replace h := cpos e67 h
    refine sr ?_
    refine sM 2 (iV (-1)) rfl rfl ?_
    refine sM 3 (iV 1) rfl rfl ?_
    refine sz ?_
    cases h
    exact ret2 rfl (.tmp rfl) (.tmp rfl)
   replace h := cneg e67 h
   refine ht_skip ?_
   refine sr ?_
   refine sM 84 (iV t4_1) rfl rfl ?_
   refine sM 85 (iV t5) rfl rfl ?_
   refine sM 2 (iV t4_1) rfl rfl ?_
   refine sM 3 (iV t5) rfl rfl ?_
   refine sz ?_
   cases h
   exact ret2 rfl (.tmp rfl) (.tmp rfl)
  refine sr ?_
  refine sM 7 (iV 1) rfl rfl ?_
  refine sq_nil ?_
  refine ht_block ?_
  refine ht_rd h (fun _ => rfl) (fun (t4_2, t7) => tell [(.t 0, sV t0), (.t 4, iV t4_2), (.t 5, iV t5), (.t 6, iV t6), (.t 7, iV t7)]) (wi rfl rfl) fun k v37 h K50 j36 => ?_
  obtain ⟨t4_2, t7⟩ := v37
  rw [F163_l1] at h
  refine ht_seq ?_
  refine sr ?_
  refine sM 46 (iV t7) rfl rfl ?_
  refine sM 47 (iV t5) rfl rfl ?_
  refine sT 48 (bV (ltI t7 t5)) rfl (vb rfl rfl rfl (b_lss rfl)) ?_
  refine sq_nil ?_
  refine ht_cond rfl (fun e38 => ?_) (fun e38 => ?_)
  ·replace h := cpos e38 h
   refine ht_skip ?_
   refine ht_seq ?_
   refine ht_block ?_
   refine ht_seq ?_
   refine sr ?_
   refine sM 51 (sV t0) rfl rfl ?_
   refine sM 52 (iV t7) rfl rfl ?_
   obtain ⟨e39, h⟩ := gpos h
   refine sT 53 (nV .u8 (bt t0 t7)) rfl (v_index rfl · · · rfl rfl (i_str und9 e39 rfl)) ?_
   refine sT 54 (bV (ltI (bt t0 t7) 128)) rfl (vb rfl rfl rfl (b_lss rfl)) ?_
   refine sM 55 (bV (ltI (bt t0 t7) 128)) rfl rfl ?_
   refine sF 56 (sV t0) rfl rfl (fun e40 => (vm rfl rfl)) ?_
   refine sF 57 (iV t7) rfl rfl (fun e41 => (vm rfl rfl)) ?_
   obtain ⟨e43, h⟩ := gpos h
   refine sF 58 (nV .u8 (bt t0 t7)) rfl rfl (fun e42 => (v_index rfl · · · (gv (nF e42)) (gv (nF e42)) (i_str und9 (orT e43 (nF e42)) rfl))) ?_
   refine sF 59 (bV (ltI 191 (bt t0 t7))) rfl rfl (fun e44 => (vb rfl (gv (nF e44)) rfl (b_gtr rfl))) ?_
   refine sT 60 (bV ((ltI (bt t0 t7) 128) || (ltI 191 (bt t0 t7)))) rfl (vp rfl rfl (fun e45 => rfl) (fun e46 => (gv (nF e46))) (pO _ _)) ?_
   refine sq_nil ?_
   refine ht_cond rfl (fun e47 => ?_) (fun e47 => ?_)
   ·replace h := cpos e47 h
    refine sr ?_
    refine sM 2 (iV (-1)) rfl rfl ?_
    refine sM 3 (iV 1) rfl rfl ?_
    refine sz ?_
    cases h
    cases r34 _ rfl
    exact ret2 rfl (.tmp rfl) (.tmp rfl)
   replace h := cneg e47 h
   refine ht_skip ?_
   refine ht_region ?_
   refine sM 61 (iV t4_2) rfl rfl ?_
   refine sT 62 (iV (IntKind.wrap .i64 (64 * t4_2))) rfl (vb rfl rfl rfl (b_mul rfl)) ?_
   refine sM 63 (sV t0) rfl rfl ?_
   refine sM 64 (iV t7) rfl rfl ?_
   obtain ⟨e48, h⟩ := gpos h
   refine sT 65 (nV .u8 (bt t0 t7)) rfl (v_index rfl · · · rfl rfl (i_str und9 e48 rfl)) ?_
   refine sT 66 (iV (IntKind.wrap .i64 (bt t0 t7))) rfl (v_conv rfl · · · rfl (c_int und5 und3 rfl)) ?_
   obtain ⟨t67, q49, h⟩ := bndp h
   refine sT 67 (iV t67) rfl (vb rfl rfl rfl (b_add q49)) ?_
   refine sT 68 (iV (IntKind.wrap .i64 (t67 - 128))) rfl (vb rfl rfl rfl (b_sub rfl)) ?_
   refine sM 4 (iV (IntKind.wrap .i64 (t67 - 128))) rfl rfl ?_
   refine sq_nil ?_
   refine ht_region ?_
   refine sM 49 (iV t7) rfl rfl ?_
   refine sT 50 (iV (IntKind.wrap .i64 (t7 + 1))) rfl (vb rfl rfl rfl (b_add rfl)) ?_
   refine sM 7 (iV (IntKind.wrap .i64 (t7 + 1))) rfl rfl ?_
   refine sq_nil ?_
   exact j36 _ _ h (wi rfl rfl)
  replace h := cneg e38 h
  refine ht_exit ?_
  refine tq ?_
  refine tq ?_
  refine bq_hit ?_
  cases h
  exact j33 _ _ rfl (wi rfl rfl)
 refine sr ?_
 refine sM 14 (iV (IntKind.wrap .i64 (bt t0 0))) rfl rfl ?_
 refine sT 15 (bV (leI 194 (IntKind.wrap .i64 (bt t0 0)))) rfl (vb rfl rfl rfl (b_geq rfl)) ?_
 refine sM 16 (bV (leI 194 (IntKind.wrap .i64 (bt t0 0)))) rfl rfl ?_
 refine sG 17 (iV (IntKind.wrap .i64 (bt t0 0))) rfl rfl (fun e8 => (vm rfl rfl)) ?_
 refine sG 18 (bV (ltI (IntKind.wrap .i64 (bt t0 0)) 224)) rfl rfl (fun e9 => (vb rfl (gv e9) rfl (b_lss rfl))) ?_
 refine sT 19 (bV ((leI 194 (IntKind.wrap .i64 (bt t0 0))) && (ltI (IntKind.wrap .i64 (bt t0 0)) 224))) rfl (vp rfl rfl (fun e10 => (gv e10)) (fun e11 => rfl) (pA _ _)) ?_
 refine sq_nil ?_
 refine ht_cond rfl (fun e12 => ?_) (fun e12 => ?_)
 ·replace h := cpos e12 h
  refine ht_region ?_
  refine sM 20 (iV (IntKind.wrap .i64 (bt t0 0))) rfl rfl ?_
  refine sT 21 (iV (IntKind.wrap .i64 ((IntKind.wrap .i64 (bt t0 0)) - 192))) rfl (vb rfl rfl rfl (b_sub rfl)) ?_
  refine sM 5 (iV 2) rfl rfl ?_
  refine sM 6 (iV 128) rfl rfl ?_
  refine sM 4 (iV (IntKind.wrap .i64 ((IntKind.wrap .i64 (bt t0 0)) - 192))) rfl rfl ?_
  refine sq_nil ?_
  cases h
  exact j6 _ (wi rfl rfl)
 replace h := cneg e12 h
 refine sr ?_
 refine sM 22 (iV (IntKind.wrap .i64 (bt t0 0))) rfl rfl ?_
 refine sT 23 (bV (leI 224 (IntKind.wrap .i64 (bt t0 0)))) rfl (vb rfl rfl rfl (b_geq rfl)) ?_
 refine sM 24 (bV (leI 224 (IntKind.wrap .i64 (bt t0 0)))) rfl rfl ?_
 refine sG 25 (iV (IntKind.wrap .i64 (bt t0 0))) rfl rfl (fun e13 => (vm rfl rfl)) ?_
 refine sG 26 (bV (ltI (IntKind.wrap .i64 (bt t0 0)) 240)) rfl rfl (fun e14 => (vb rfl (gv e14) rfl (b_lss rfl))) ?_
 refine sT 27 (bV ((leI 224 (IntKind.wrap .i64 (bt t0 0))) && (ltI (IntKind.wrap .i64 (bt t0 0)) 240))) rfl (vp rfl rfl (fun e15 => (gv e15)) (fun e16 => rfl) (pA _ _)) ?_
 refine sq_nil ?_
 refine ht_cond rfl (fun e17 => ?_) (fun e17 => ?_)
 ·replace h := cpos e17 h
  refine ht_region ?_
  refine sM 28 (iV (IntKind.wrap .i64 (bt t0 0))) rfl rfl ?_
  refine sT 29 (iV (IntKind.wrap .i64 ((IntKind.wrap .i64 (bt t0 0)) - 224))) rfl (vb rfl rfl rfl (b_sub rfl)) ?_
  refine sM 5 (iV 3) rfl rfl ?_
  refine sM 6 (iV 2048) rfl rfl ?_
  refine sM 4 (iV (IntKind.wrap .i64 ((IntKind.wrap .i64 (bt t0 0)) - 224))) rfl rfl ?_
  refine sq_nil ?_
  cases h
  exact j6 _ (wi rfl rfl)
 replace h := cneg e17 h
 refine sr ?_
 refine sM 30 (iV (IntKind.wrap .i64 (bt t0 0))) rfl rfl ?_
 refine sT 31 (bV (leI 240 (IntKind.wrap .i64 (bt t0 0)))) rfl (vb rfl rfl rfl (b_geq rfl)) ?_
 refine sM 32 (bV (leI 240 (IntKind.wrap .i64 (bt t0 0)))) rfl rfl ?_
 refine sG 33 (iV (IntKind.wrap .i64 (bt t0 0))) rfl rfl (fun e18 => (vm rfl rfl)) ?_
 refine sG 34 (bV (ltI (IntKind.wrap .i64 (bt t0 0)) 245)) rfl rfl (fun e19 => (vb rfl (gv e19) rfl (b_lss rfl))) ?_
 refine sT 35 (bV ((leI 240 (IntKind.wrap .i64 (bt t0 0))) && (ltI (IntKind.wrap .i64 (bt t0 0)) 245))) rfl (vp rfl rfl (fun e20 => (gv e20)) (fun e21 => rfl) (pA _ _)) ?_
 refine sq_nil ?_
 refine ht_cond rfl (fun e22 => ?_) (fun e22 => ?_)
 ·replace h := cpos e22 h
  refine ht_region ?_
  refine sM 36 (iV (IntKind.wrap .i64 (bt t0 0))) rfl rfl ?_
  refine sT 37 (iV (IntKind.wrap .i64 ((IntKind.wrap .i64 (bt t0 0)) - 240))) rfl (vb rfl rfl rfl (b_sub rfl)) ?_
  refine sM 5 (iV 4) rfl rfl ?_
  refine sM 6 (iV 65536) rfl rfl ?_
  refine sM 4 (iV (IntKind.wrap .i64 ((IntKind.wrap .i64 (bt t0 0)) - 240))) rfl rfl ?_
  refine sq_nil ?_
  cases h
  exact j6 _ (wi rfl rfl)
 replace h := cneg e22 h
 refine ht_skip ?_
 cases h
 exact j6 _ (wi rfl rfl)
theorem s164 (k : Nat) (t0 : Int) (r : Bool) (h : F164 k t0 = some r) : Awp.Spec Tryz.prog amb 164 [(.s (.int .i64 t0))] (.ds [(.s (.bool r))]) := by
 rw [F164] at h
 refine spec_of Tryz.func164 rfl (ble _ _ rfl) fun w0 ok0 lt0 hA => ?_
 refine sr ?_
 refine sM 2 (bV false) rfl rfl ?_
 refine sq_nil ?_
 refine sr ?_
 refine sM 3 (iV t0) rfl rfl ?_
 refine sT 4 (bV (ltI 32 t0)) rfl (vb rfl rfl rfl (b_gtr rfl)) ?_
 refine sM 5 (bV (ltI 32 t0)) rfl rfl ?_
 refine sG 6 (iV t0) rfl rfl (fun e1 => (vm rfl rfl)) ?_
 refine sG 7 (bV (!eqI t0 127)) rfl rfl (fun e2 => (vb rfl (gv e2) rfl (b_neq rfl))) ?_
 refine sT 8 (bV ((ltI 32 t0) && (!eqI t0 127))) rfl (vp rfl rfl (fun e3 => (gv e3)) (fun e4 => rfl) (pA _ _)) ?_
 refine sM 9 (bV ((ltI 32 t0) && (!eqI t0 127))) rfl rfl ?_
 refine sG 10 (iV t0) rfl rfl (fun e5 => (vm rfl rfl)) ?_
 refine sG 11 (bV (ltI t0 128)) rfl rfl (fun e6 => (vb rfl (gv e6) rfl (b_lss rfl))) ?_
 refine sG 12 (bV (ltI t0 128)) rfl rfl (fun e7 => (vm rfl (gv e7))) ?_
 refine sH 13 (iV t0) rfl rfl (fun e8 e9 => (vm rfl rfl)) ?_
 refine sH 14 (bV (ltI 159 t0)) rfl rfl (fun e10 e11 => (vb rfl (gv (aT e10 (nF e11))) rfl (b_gtr rfl))) ?_
 refine sG 15 (bV ((ltI t0 128) || (ltI 159 t0))) rfl rfl (fun e12 => (vp rfl (gv e12) (fun e13 => rfl) (fun e14 => (gv (aT e12 (nF e14)))) (pO _ _))) ?_
 refine sT 16 (bV (((ltI 32 t0) && (!eqI t0 127)) && ((ltI t0 128) || (ltI 159 t0)))) rfl (vp rfl rfl (fun e15 => (gv e15)) (fun e16 => rfl) (pA _ _)) ?_
 refine sM 2 (bV (((ltI 32 t0) && (!eqI t0 127)) && ((ltI t0 128) || (ltI 159 t0)))) rfl rfl ?_
 refine sz ?_
 cases h
 exact ret1 rfl (.tmp rfl)
theorem s130 (k : Nat) (t0 : ByteArray) (r : Bool) (h : F130 k t0 = some r) : Awp.Spec Tryz.prog amb 130 [(.s (.string t0))] (.ds [(.s (.bool r))]) := by
 rw [F130] at h
 refine spec_of Tryz.func130 rfl (ble _ _ rfl) fun w0 ok0 lt0 hA => ?_
 refine sr ?_
 refine sM 2 (bV false) rfl rfl ?_
 refine sq_nil ?_
 refine ht_seq ?_
 refine sr ?_
 refine sM 5 (sV t0) rfl rfl ?_
 refine sT 6 (iV (t0.size : Int)) rfl (v_len_str rfl rfl · · · und9 rfl) ?_
 refine sT 7 (bV (eqI (t0.size : Int) 0)) rfl (vb rfl rfl rfl (b_eql rfl)) ?_
 refine sM 8 (bV (eqI (t0.size : Int) 0)) rfl rfl ?_
 refine sF 9 (sV t0) rfl rfl (fun e1 => (vm rfl rfl)) ?_
 refine sF 10 (iV (t0.size : Int)) rfl rfl (fun e2 => (v_len_str rfl rfl · · · und9 (gv (nF e2)))) ?_
 refine sF 11 (bV (ltI 16 (t0.size : Int))) rfl rfl (fun e3 => (vb rfl (gv (nF e3)) rfl (b_gtr rfl))) ?_
 refine sT 12 (bV ((eqI (t0.size : Int) 0) || (ltI 16 (t0.size : Int)))) rfl (vp rfl rfl (fun e4 => rfl) (fun e5 => (gv (nF e5))) (pO _ _)) ?_
 refine sq_nil ?_
 refine ht_cond rfl (fun e6 => ?_) (fun e6 => ?_)
 ·replace h := cpos e6 h
  refine sr ?_
  refine sM 2 (bV false) rfl rfl ?_
  refine sz ?_
  cases h
  exact ret1 rfl (.tmp rfl)
 replace h := cneg e6 h
 refine ht_skip ?_
 refine ht_gj (go_id' h) (fun _ => tell []) (fun _ h => ?_) (fun v7 K8 h j10 r11 => ?_)
 ·refine sr ?_
  refine sM 2 (bV true) rfl rfl ?_
  refine sz ?_
  cases h
  exact ret1 rfl (.tmp rfl)
 refine ht_block ?_
 refine ht_rd h (fun _ => rfl) (fun t0_1 => tell [(.t 0, sV t0_1)]) (wi rfl rfl) fun k t0_1 h K20 j13 => ?_
 rw [F130_l1] at h
 refine ht_seq ?_
 refine sr ?_
 refine sM 13 (sV t0_1) rfl rfl ?_
 refine sT 14 (iV (t0_1.size : Int)) rfl (v_len_str rfl rfl · · · und9 rfl) ?_
 refine sT 15 (bV (ltI 0 (t0_1.size : Int))) rfl (vb rfl rfl rfl (b_gtr rfl)) ?_
 refine sq_nil ?_
 refine ht_cond rfl (fun e15 => ?_) (fun e15 => ?_)
 ·replace h := cpos e15 h
  refine ht_skip ?_
  refine ht_block ?_
  refine sr ?_
  refine sM 17 (sV t0_1) rfl rfl ?_
  obtain ⟨⟨t18a, t18b⟩, c16, h⟩ := bpos h
  refine sC 18 (.tup [iV t18a, iV t18b]) (s163 k t0_1 _ c16) en163 rfl rfl rfl rfl ?_
  refine sM 16 (.tup [iV t18a, iV t18b]) rfl rfl ?_
  refine sT 19 (iV t18a) rfl (ve rfl rfl rfl) ?_
  refine sT 20 (iV t18b) rfl (ve rfl rfl rfl) ?_
  refine sM 3 (iV t18a) rfl rfl ?_
  refine sM 4 (iV t18b) rfl rfl ?_
  refine sq_nil ?_
  refine ht_seq ?_
  refine sr ?_
  refine sM 21 (iV t18a) rfl rfl ?_
  obtain ⟨t22, c17, h⟩ := bpos h
  refine sC 22 (bV t22) (s164 k t18a _ c17) en164 rfl rfl rfl rfl ?_
  refine sT 23 (bV (!t22)) rfl (vu rfl rfl (u_not rfl)) ?_
  refine sq_nil ?_
  refine ht_cond rfl (fun e18 => ?_) (fun e18 => ?_)
  ·replace h := cpos e18 h
   refine sr ?_
   refine sM 2 (bV false) rfl rfl ?_
   refine sz ?_
   cases h
   cases r11 _ rfl
   exact ret1 rfl (.tmp rfl)
  replace h := cneg e18 h
  refine ht_skip ?_
  refine ht_region ?_
  refine sM 24 (sV t0_1) rfl rfl ?_
  refine sM 25 (iV t18b) rfl rfl ?_
  obtain ⟨e19, h⟩ := gpos h
  refine sT 26 (sV (t0_1.extract t18b.toNat (t0_1.size : Int).toNat)) rfl (w_cut_str t0_1 t18b (t0_1.size : Int) rfl · · · und9 rfl (.inr ⟨_, _, rfl, rfl⟩) (.inl ⟨rfl, rfl⟩) e19) ?_
  refine sM 0 (sV (t0_1.extract t18b.toNat (t0_1.size : Int).toNat)) rfl rfl ?_
  refine sq_nil ?_
  exact j13 _ _ h (wi rfl rfl)
 replace h := cneg e15 h
 refine ht_exit ?_
 refine tq ?_
 refine tq ?_
 refine bq_hit ?_
 cases h
 exact j10 _ _ rfl (wi rfl rfl)
theorem s151 (k : Nat) (t0 : ByteArray) (r : (List Int)) (h : F151 k t0 = some r) : Awp.Spec Tryz.prog amb 151 [(.s (.string t0))] (.ds [(.sl 1 (r.map (eI .i64)))]) := by
 rw [F151] at h
 refine spec_of Tryz.func151 rfl (ble _ _ rfl) fun w0 ok0 lt0 hA => ?_
 refine sr ?_
 refine sM 2 (.d (.s (.slice none 0 0))) rfl rfl ?_
 refine sq_nil ?_
 refine sr ?_
 refine sM 3 (.d (.s (.slice none 0 0))) rfl rfl ?_
 refine sq_nil ?_
 refine ht_bj h (fun t3 => tell [(.b 1003, .row false 3 1 (t3.map (eI .i64))), (.t 3, .own 1003 1 t3.length)]) (fun t3 h => ?_) (fun v1 K2 h j4 => ?_)
 ·refine sr ?_
  refine sM 23 (.own 1003 1 t3.length) rfl rfl ?_
  refine sM 2 (.own 1003 1 t3.length) rfl rfl ?_
  refine sz ?_
  cases h
  exact retM_wk (wk_still_row 1003 _ _ _ rfl) (retM_wk (wk_row (.t 2) (nb 2) 1003 _ _ _ _ rfl rfl (lm _ _)) (retM_wk (wk_row (.t 3) (nb 3) 1003 _ _ _ _ rfl rfl (lm _ _)) (retM_wk (wk_row (.t 23) (nb 23) 1003 _ _ _ _ rfl rfl (lm _ _)) (ret1 rfl (.tmp rfl)))))
 refine ht_block ?_
 refine ht_rd h (fun _ => rfl) (fun (t0_1, t3_1) => tell [(.b 1003, .row false 3 1 (t3_1.map (eI .i64))), (.t 0, sV t0_1), (.t 3, .own 1003 1 t3_1.length)]) (wkt (wk_nilrow (.t 3) (nb 3) 1001003 3 1 rfl rfl) (wr (fun i => bif Nat.beq i 1003 then 1001003 else i) rfl rfl)) fun k v8 h K16 j7 => ?_
 obtain ⟨t0_1, t3_1⟩ := v8
 rw [F151_l1] at h
 refine ht_seq ?_
 refine sr ?_
 refine sM 6 (sV t0_1) rfl rfl ?_
 refine sT 7 (iV (t0_1.size : Int)) rfl (v_len_str rfl rfl · · · und9 rfl) ?_
 refine sT 8 (bV (ltI 0 (t0_1.size : Int))) rfl (vb rfl rfl rfl (b_gtr rfl)) ?_
 refine sq_nil ?_
 refine ht_cond rfl (fun e9 => ?_) (fun e9 => ?_)
 ·replace h := cpos e9 h
  refine ht_skip ?_
  refine ht_block ?_
  refine sr ?_
  refine sM 10 (sV t0_1) rfl rfl ?_
  obtain ⟨⟨t11a, t11b⟩, c10, h⟩ := bpos h
  refine sC 11 (.tup [iV t11a, iV t11b]) (s163 k t0_1 _ c10) en163 rfl rfl rfl rfl ?_
  refine sM 9 (.tup [iV t11a, iV t11b]) rfl rfl ?_
  refine sT 12 (iV t11a) rfl (ve rfl rfl rfl) ?_
  refine sT 13 (iV t11b) rfl (ve rfl rfl rfl) ?_
  refine sM 4 (iV t11a) rfl rfl ?_
  refine sM 5 (iV t11b) rfl rfl ?_
  refine sq_nil ?_
  refine ht_seq ?_
  refine sr ?_
  refine sM 14 (iV t11a) rfl rfl ?_
  refine sT 15 (bV (ltI t11a 0)) rfl (vb rfl rfl rfl (b_lss rfl)) ?_
  refine sq_nil ?_
  refine ht_cond rfl (fun e11 => ?_) (fun e11 => ?_)
  ·replace h := cpos e11 h
   refine ht_region ?_
   refine sM 4 (iV 65533) rfl rfl ?_
   refine sq_nil ?_
   refine sr ?_
   refine sM 16 (.own 1003 1 t3_1.length) rfl rfl ?_
   refine sM 17 (iV 65533) rfl rfl ?_
   refine sq_cons ⟨_, [(.b 18, .row false 3 1 (([(65533 : Int)]).map (eI .i64))), (.t 18, .own 18 1 ([(65533 : Int)]).length)]⟩ (w_bsl (id := 18) [(0, iV 65533)] [(65533 : Int)] (eI .i64) rfl trivial rfl (ble _ _ rfl) slT148 zr3 (encI .i64) (ble _ _ rfl) rfl (by kernel_rfl) rfl rfl (by kernel_rfl) (by kernel_rfl)) ?_
   obtain ⟨e12, h⟩ := gpos h
   refine sq_cons ⟨_, [(.b 1003, .spent), (.b 19, .row false 3 1 ((t3_1 ++ [(65533 : Int)]).map (eI .i64))), (.t 19, .own 19 1 (t3_1 ++ [(65533 : Int)]).length)]⟩ (w_app 19 t3_1 ([(65533 : Int)]) (eI .i64) rfl rfl trivial rfl (ble _ _ rfl) slT148 elT3 (encI .i64) rfl rfl rfl (.own 18 _ _ rfl) rfl e12) ?_
   refine sM 3 (.own 19 1 (t3_1 ++ [(65533 : Int)]).length) rfl rfl ?_
   refine sq_nil ?_
   refine ht_region ?_
   refine sM 20 (sV t0_1) rfl rfl ?_
   refine sM 21 (iV t11b) rfl rfl ?_
   obtain ⟨e13, h⟩ := gpos h
   refine sT 22 (sV (t0_1.extract t11b.toNat (t0_1.size : Int).toNat)) rfl (w_cut_str t0_1 t11b (t0_1.size : Int) rfl · · · und9 rfl (.inr ⟨_, _, rfl, rfl⟩) (.inl ⟨rfl, rfl⟩) e13) ?_
   refine sM 0 (sV (t0_1.extract t11b.toNat (t0_1.size : Int).toNat)) rfl rfl ?_
   refine sq_nil ?_
   exact j7 _ _ h (wr (fun i => bif Nat.beq i 1003 then 19 else i) rfl rfl)
  replace h := cneg e11 h
  refine ht_skip ?_
  refine sr ?_
  refine sM 16 (.own 1003 1 t3_1.length) rfl rfl ?_
  refine sM 17 (iV t11a) rfl rfl ?_
  refine sq_cons ⟨_, [(.b 18, .row false 3 1 (([t11a]).map (eI .i64))), (.t 18, .own 18 1 ([t11a]).length)]⟩ (w_bsl (id := 18) [(0, iV t11a)] [t11a] (eI .i64) rfl trivial rfl (ble _ _ rfl) slT148 zr3 (encI .i64) (ble _ _ rfl) rfl (by kernel_rfl) rfl rfl (by kernel_rfl) (by kernel_rfl)) ?_
  obtain ⟨e14, h⟩ := gpos h
  refine sq_cons ⟨_, [(.b 1003, .spent), (.b 19, .row false 3 1 ((t3_1 ++ [t11a]).map (eI .i64))), (.t 19, .own 19 1 (t3_1 ++ [t11a]).length)]⟩ (w_app 19 t3_1 ([t11a]) (eI .i64) rfl rfl trivial rfl (ble _ _ rfl) slT148 elT3 (encI .i64) rfl rfl rfl (.own 18 _ _ rfl) rfl e14) ?_
  refine sM 3 (.own 19 1 (t3_1 ++ [t11a]).length) rfl rfl ?_
  refine sq_nil ?_
  refine ht_region ?_
  refine sM 20 (sV t0_1) rfl rfl ?_
  refine sM 21 (iV t11b) rfl rfl ?_
  obtain ⟨e15, h⟩ := gpos h
  refine sT 22 (sV (t0_1.extract t11b.toNat (t0_1.size : Int).toNat)) rfl (w_cut_str t0_1 t11b (t0_1.size : Int) rfl · · · und9 rfl (.inr ⟨_, _, rfl, rfl⟩) (.inl ⟨rfl, rfl⟩) e15) ?_
  refine sM 0 (sV (t0_1.extract t11b.toNat (t0_1.size : Int).toNat)) rfl rfl ?_
  refine sq_nil ?_
  exact j7 _ _ h (wr (fun i => bif Nat.beq i 1003 then 19 else i) rfl rfl)
 replace h := cneg e9 h
 refine ht_exit ?_
 refine tq ?_
 refine tq ?_
 refine bq_hit ?_
 cases h
 exact j4 _ (wi rfl rfl)
theorem s119 (k : Nat) (t0 : ByteArray) (t1 : ByteArray) (r : Int) (h : F119 k t0 t1 = some r) : Awp.Spec Tryz.prog amb 119 [(.s (.string t0)), (.s (.string t1))] (.ds [(.s (.int .i64 r))]) := by
 rw [F119] at h
 refine spec_of Tryz.func119 rfl (ble _ _ rfl) fun w0 ok0 lt0 hA => ?_
 refine sr ?_
 refine sM 4 (iV 0) rfl rfl ?_
 refine sq_nil ?_
 refine sr ?_
 refine sM 8 (sV t0) rfl rfl ?_
 obtain ⟨t9, c1, h⟩ := bpos h
 refine sC 9 (.d (.sl 1 (t9.map (eI .i64)))) (s151 k t0 _ c1) en151 rfl rfl rfl rfl ?_
 refine sM 10 (sV t1) rfl rfl ?_
 obtain ⟨t11, c2, h⟩ := bpos h
 refine sC 11 (.d (.sl 1 (t11.map (eI .i64)))) (s151 k t1 _ c2) en151 rfl rfl rfl rfl ?_
 refine sM 5 (.d (.sl 1 (t9.map (eI .i64)))) rfl rfl ?_
 refine sM 6 (.d (.sl 1 (t11.map (eI .i64)))) rfl rfl ?_
 refine sq_nil ?_
 refine ht_gj (go_id' h) (fun _ => tell [(.t 5, .d (.sl 1 (t9.map (eI .i64)))), (.t 6, .d (.sl 1 (t11.map (eI .i64))))]) (fun _ h => ?_) (fun v3 K4 h j6 r7 => ?_)
 ·refine ht_seq ?_
  refine sr ?_
  refine sM 42 (.d (.sl 1 (t9.map (eI .i64)))) rfl rfl ?_
  refine sT 43 (iV (t9.length : Int)) rfl (w_len t9 (eI .i64) rfl rfl · · · slT148 rfl) ?_
  refine sM 44 (.d (.sl 1 (t11.map (eI .i64)))) rfl rfl ?_
  refine sT 45 (iV (t11.length : Int)) rfl (w_len t11 (eI .i64) rfl rfl · · · slT148 rfl) ?_
  refine sT 46 (bV (ltI (t9.length : Int) (t11.length : Int))) rfl (vb rfl rfl rfl (b_lss rfl)) ?_
  refine sq_nil ?_
  refine ht_cond rfl (fun e25 => ?_) (fun e25 => ?_)
  ·replace h := cpos e25 h
   refine sr ?_
   refine sM 4 (iV (-1)) rfl rfl ?_
   refine sz ?_
   cases h
   exact ret1 rfl (.tmp rfl)
  replace h := cneg e25 h
  refine ht_skip ?_
  refine ht_seq ?_
  refine sr ?_
  refine sM 47 (.d (.sl 1 (t9.map (eI .i64)))) rfl rfl ?_
  refine sT 48 (iV (t9.length : Int)) rfl (w_len t9 (eI .i64) rfl rfl · · · slT148 rfl) ?_
  refine sM 49 (.d (.sl 1 (t11.map (eI .i64)))) rfl rfl ?_
  refine sT 50 (iV (t11.length : Int)) rfl (w_len t11 (eI .i64) rfl rfl · · · slT148 rfl) ?_
  refine sT 51 (bV (ltI (t11.length : Int) (t9.length : Int))) rfl (vb rfl rfl rfl (b_gtr rfl)) ?_
  refine sq_nil ?_
  refine ht_cond rfl (fun e26 => ?_) (fun e26 => ?_)
  ·replace h := cpos e26 h
   refine sr ?_
   refine sM 4 (iV 1) rfl rfl ?_
   refine sz ?_
   cases h
   exact ret1 rfl (.tmp rfl)
  replace h := cneg e26 h
  refine ht_skip ?_
  refine sr ?_
  refine sM 4 (iV 0) rfl rfl ?_
  refine sz ?_
  cases h
  exact ret1 rfl (.tmp rfl)
 refine sr ?_
 refine sM 7 (iV 0) rfl rfl ?_
 refine sq_nil ?_
 refine ht_block ?_
 refine ht_rd h (fun _ => rfl) (fun t7 => tell [(.t 5, .d (.sl 1 (t9.map (eI .i64)))), (.t 6, .d (.sl 1 (t11.map (eI .i64)))), (.t 7, iV t7)]) (wi rfl rfl) fun k t7 h K24 j9 => ?_
 rw [F119_l1] at h
 refine ht_seq ?_
 refine sr ?_
 refine sM 12 (iV t7) rfl rfl ?_
 refine sM 13 (.d (.sl 1 (t9.map (eI .i64)))) rfl rfl ?_
 refine sT 14 (iV (t9.length : Int)) rfl (w_len t9 (eI .i64) rfl rfl · · · slT148 rfl) ?_
 refine sT 15 (bV (ltI t7 (t9.length : Int))) rfl (vb rfl rfl rfl (b_lss rfl)) ?_
 refine sM 16 (bV (ltI t7 (t9.length : Int))) rfl rfl ?_
 refine sG 17 (iV t7) rfl rfl (fun e11 => (vm rfl rfl)) ?_
 refine sG 18 (.d (.sl 1 (t11.map (eI .i64)))) rfl rfl (fun e12 => (vm rfl rfl)) ?_
 refine sG 19 (iV (t11.length : Int)) rfl rfl (fun e13 => (w_len t11 (eI .i64) rfl rfl · · · slT148 (gv e13))) ?_
 refine sG 20 (bV (ltI t7 (t11.length : Int))) rfl rfl (fun e14 => (vb rfl (gv e14) (gv e14) (b_lss rfl))) ?_
 refine sT 21 (bV ((ltI t7 (t9.length : Int)) && (ltI t7 (t11.length : Int)))) rfl (vp rfl rfl (fun e15 => (gv e15)) (fun e16 => rfl) (pA _ _)) ?_
 refine sq_nil ?_
 refine ht_cond rfl (fun e17 => ?_) (fun e17 => ?_)
 ·replace h := cpos e17 h
  refine ht_skip ?_
  refine ht_seq ?_
  refine ht_block ?_
  refine ht_seq ?_
  refine ht_seq ?_
  refine ht_region_draw mixed ?_
  refine rM 24 (.d (.sl 1 (t9.map (eI .i64)))) rfl rfl ?_
  refine rM 25 (iV t7) rfl rfl ?_
  obtain ⟨e18, h⟩ := gpos h
  refine rT 26 (.d (.dp [(.s (.int .i64 (rd t9 t7)))])) rfl (w_idx t9 (eI .i64) rfl · · · slT148 rfl rfl e18) ?_
  refine rT 27 (iV (rd t9 t7)) rfl (vl rfl onT3 rfl rfl) ?_
  refine rM 28 (.d (.sl 1 (t11.map (eI .i64)))) rfl rfl ?_
  refine rM 29 (iV t7) rfl rfl ?_
  obtain ⟨e19, h⟩ := gpos h
  refine rT 30 (.d (.dp [(.s (.int .i64 (rd t11 t7)))])) rfl (w_idx t11 (eI .i64) rfl · · · slT148 rfl rfl e19) ?_
  refine rT 31 (iV (rd t11 t7)) rfl (vl rfl onT3 rfl rfl) ?_
  refine rT 32 (bV (ltI (rd t9 t7) (rd t11 t7))) rfl (vb rfl rfl rfl (b_lss rfl)) ?_
  refine rg_nil ⟨by kernel_rfl, ?_⟩
  refine ht_cond rfl (fun e20 => ?_) (fun e20 => ?_)
  ·replace h := cpos e20 h
   refine sr ?_
   refine sM 4 (iV (-1)) rfl rfl ?_
   refine sz ?_
   cases h
   cases r7 _ rfl
   exact ret1 rfl (.tmp rfl)
  replace h := cneg e20 h
  refine ht_skip ?_
  refine ht_seq ?_
  refine ht_region_draw mixed ?_
  refine rM 33 (.d (.sl 1 (t9.map (eI .i64)))) rfl rfl ?_
  refine rM 34 (iV t7) rfl rfl ?_
  obtain ⟨e21, h⟩ := gpos h
  refine rT 35 (.d (.dp [(.s (.int .i64 (rd t9 t7)))])) rfl (w_idx t9 (eI .i64) rfl · · · slT148 rfl rfl e21) ?_
  refine rT 36 (iV (rd t9 t7)) rfl (vl rfl onT3 rfl rfl) ?_
  refine rM 37 (.d (.sl 1 (t11.map (eI .i64)))) rfl rfl ?_
  refine rM 38 (iV t7) rfl rfl ?_
  obtain ⟨e22, h⟩ := gpos h
  refine rT 39 (.d (.dp [(.s (.int .i64 (rd t11 t7)))])) rfl (w_idx t11 (eI .i64) rfl · · · slT148 rfl rfl e22) ?_
  refine rT 40 (iV (rd t11 t7)) rfl (vl rfl onT3 rfl rfl) ?_
  refine rT 41 (bV (ltI (rd t11 t7) (rd t9 t7))) rfl (vb rfl rfl rfl (b_gtr rfl)) ?_
  refine rg_nil ⟨by kernel_rfl, ?_⟩
  refine ht_cond rfl (fun e23 => ?_) (fun e23 => ?_)
  ·replace h := cpos e23 h
   refine sr ?_
   refine sM 4 (iV 1) rfl rfl ?_
   refine sz ?_
   cases h
   cases r7 _ rfl
   exact ret1 rfl (.tmp rfl)
  replace h := cneg e23 h
  refine ht_skip ?_
  refine ht_region ?_
  refine sM 22 (iV t7) rfl rfl ?_
  refine sT 23 (iV (IntKind.wrap .i64 (t7 + 1))) rfl (vb rfl rfl rfl (b_add rfl)) ?_
  refine sM 7 (iV (IntKind.wrap .i64 (t7 + 1))) rfl rfl ?_
  refine sq_nil ?_
  exact j9 _ _ h (wi rfl rfl)
 replace h := cneg e17 h
 refine ht_exit ?_
 refine tq ?_
 refine tq ?_
 refine bq_hit ?_
 cases h
 exact j6 _ _ rfl (wi rfl rfl)
theorem s85 (k : Nat) (t0 : Span) (r : Bool) (h : F85 k t0 = some r) : Awp.Spec Tryz.prog amb 85 [(.agg (eSpan t0))] (.ds [(.s (.bool r))]) := by
 rw [F85] at h
 refine spec_of Tryz.func85 rfl (ble _ _ rfl) fun w0 ok0 lt0 hA => ?_
 refine sr ?_
 refine sT 1 (.d (.dp (eSpan t0))) rfl (v_box_d (cs := (eSpan t0)) rfl · · · rfl rfl (ones_of rfl)) ?_
 refine sM 2 (bV false) rfl rfl ?_
 refine sq_nil ?_
 refine ht_seq ?_
 refine sr ?_
 refine sD 3 (eSpan t0) fo41_0 rfl rfl rfl ?_
 refine sT 4 (sV t0.mLo) rfl (vl rfl onT9 rfl rfl) ?_
 refine sT 5 (iV (t0.mLo.size : Int)) rfl (v_len_str rfl rfl · · · und9 rfl) ?_
 refine sT 6 (bV (ltI 0 (t0.mLo.size : Int))) rfl (vb rfl rfl rfl (b_gtr rfl)) ?_
 refine sM 7 (bV (ltI 0 (t0.mLo.size : Int))) rfl rfl ?_
 refine sG 8 (.d (.dp (eSpan t0))) rfl rfl (fun e1 => (vD (eSpan t0) fo41_0 · · · rfl rfl)) ?_
 refine sG 9 (sV t0.mLo) rfl rfl (fun e2 => (vl rfl onT9 (gv e2) rfl)) ?_
 obtain ⟨t10, c4, h⟩ := bpos h
 refine sG 10 (bV t10) rfl rfl (fun e3 => (vC (s130 k t0.mLo _ (cpos e3 c4)) en130 · · · rfl (cc (gv e3) rfl) rfl)) ?_
 refine sG 11 (bV (!t10)) rfl rfl (fun e5 => (vu rfl (gv e5) (u_not rfl))) ?_
 refine sT 12 (bV ((ltI 0 (t0.mLo.size : Int)) && (!t10))) rfl (vp rfl rfl (fun e6 => (gv e6)) (fun e7 => rfl) (pA _ _)) ?_
 refine sq_nil ?_
 refine ht_cond rfl (fun e8 => ?_) (fun e8 => ?_)
 ·replace h := cpos e8 h
  refine sr ?_
  refine sM 2 (bV false) rfl rfl ?_
  refine sz ?_
  cases h
  exact ret1 rfl (.tmp rfl)
 replace h := cneg e8 h
 refine ht_skip ?_
 refine ht_seq ?_
 refine sr ?_
 refine sD 13 (eSpan t0) fo41_1 rfl rfl rfl ?_
 refine sT 14 (sV t0.mHi) rfl (vl rfl onT9 rfl rfl) ?_
 refine sT 15 (iV (t0.mHi.size : Int)) rfl (v_len_str rfl rfl · · · und9 rfl) ?_
 refine sT 16 (bV (eqI (t0.mHi.size : Int) 0)) rfl (vb rfl rfl rfl (b_eql rfl)) ?_
 refine sq_nil ?_
 refine ht_cond rfl (fun e9 => ?_) (fun e9 => ?_)
 ·replace h := cpos e9 h
  refine sr ?_
  refine sM 2 (bV true) rfl rfl ?_
  refine sz ?_
  cases h
  exact ret1 rfl (.tmp rfl)
 replace h := cneg e9 h
 refine ht_skip ?_
 refine sr ?_
 refine sD 17 (eSpan t0) fo41_1 rfl rfl rfl ?_
 refine sT 18 (sV t0.mHi) rfl (vl rfl onT9 rfl rfl) ?_
 obtain ⟨t19, c10, h⟩ := bpos h
 refine sC 19 (bV t19) (s130 k t0.mHi _ c10) en130 rfl rfl rfl rfl ?_
 refine sM 20 (bV t19) rfl rfl ?_
 refine sG 21 (.d (.dp (eSpan t0))) rfl rfl (fun e11 => (vD (eSpan t0) fo41_0 · · · rfl rfl)) ?_
 refine sG 22 (sV t0.mLo) rfl rfl (fun e12 => (vl rfl onT9 (gv e12) rfl)) ?_
 refine sG 23 (.d (.dp (List.drop 1 (eSpan t0)))) rfl rfl (fun e13 => (vD (eSpan t0) fo41_1 · · · rfl rfl)) ?_
 refine sG 24 (sV t0.mHi) rfl rfl (fun e14 => (vl rfl onT9 (gv e14) rfl)) ?_
 obtain ⟨t25, c16, h⟩ := bpos h
 refine sG 25 (iV t25) rfl rfl (fun e15 => (vC (s119 k t0.mLo t0.mHi _ (cpos e15 c16)) en119 · · · rfl (cc (gv e15) (cc (gv e15) rfl)) rfl)) ?_
 refine sG 26 (bV (eqI t25 (-1))) rfl rfl (fun e17 => (vb rfl (gv e17) rfl (b_eql rfl))) ?_
 refine sT 27 (bV (t19 && (eqI t25 (-1)))) rfl (vp rfl rfl (fun e18 => (gv e18)) (fun e19 => rfl) (pA _ _)) ?_
 refine sM 2 (bV (t19 && (eqI t25 (-1)))) rfl rfl ?_
 refine sz ?_
 cases h
 exact ret1 rfl (.tmp rfl)
theorem s134 (k : Nat) (t0 : Version) (r : Bool) (h : F134 k t0 = some r) : Awp.Spec Tryz.prog amb 134 [(.agg (eVersion t0))] (.ds [(.s (.bool r))]) := by
 rw [F134] at h
 refine spec_of Tryz.func134 rfl (ble _ _ rfl) fun w0 ok0 lt0 hA => ?_
 refine sr ?_
 refine sT 1 (.d (.dp (eVersion t0))) rfl (v_box_d (cs := (eVersion t0)) rfl · · · rfl rfl (ones_of rfl)) ?_
 refine sM 2 (bV false) rfl rfl ?_
 refine sq_nil ?_
 refine ht_seq ?_
 refine sr ?_
 refine sD 3 (eVersion t0) fo93_1 rfl rfl rfl ?_
 refine sT 4 (bV t0.mGone) rfl (vl rfl onT4 rfl rfl) ?_
 refine sM 5 (bV t0.mGone) rfl rfl ?_
 refine sG 6 (.d (.dp (List.drop 4 (eVersion t0)))) rfl rfl (fun e1 => (vD (eVersion t0) fo93_2 · · · rfl rfl)) ?_
 refine sG 7 (sV t0.mValue) rfl rfl (fun e2 => (vl rfl onT9 (gv e2) rfl)) ?_
 refine sG 8 (iV (t0.mValue.size : Int)) rfl rfl (fun e3 => (v_len_str rfl rfl · · · und9 (gv e3))) ?_
 refine sG 9 (bV (ltI 0 (t0.mValue.size : Int))) rfl rfl (fun e4 => (vb rfl (gv e4) rfl (b_gtr rfl))) ?_
 refine sT 10 (bV (t0.mGone && (ltI 0 (t0.mValue.size : Int)))) rfl (vp rfl rfl (fun e5 => (gv e5)) (fun e6 => rfl) (pA _ _)) ?_
 refine sq_nil ?_
 refine ht_cond rfl (fun e7 => ?_) (fun e7 => ?_)
 ·replace h := cpos e7 h
  refine sr ?_
  refine sM 2 (bV false) rfl rfl ?_
  refine sz ?_
  cases h
  exact ret1 rfl (.tmp rfl)
 replace h := cneg e7 h
 refine ht_skip ?_
 refine sr ?_
 refine sD 11 (eVersion t0) fo93_0 rfl rfl rfl ?_
 refine sP 12 (eVersion t0) (eStamp t0.mAt) ag24 rfl rfl rfl rfl rfl ?_
 obtain ⟨t13, c8, h⟩ := bpos h
 refine sC 13 (bV t13) (s68 k t0.mAt _ c8) en68 rfl rfl rfl rfl ?_
 refine sM 14 (bV t13) rfl rfl ?_
 refine sG 15 (.d (.dp (List.drop 4 (eVersion t0)))) rfl rfl (fun e9 => (vD (eVersion t0) fo93_2 · · · rfl rfl)) ?_
 refine sG 16 (sV t0.mValue) rfl rfl (fun e10 => (vl rfl onT9 (gv e10) rfl)) ?_
 refine sG 17 (iV (t0.mValue.size : Int)) rfl rfl (fun e11 => (v_len_str rfl rfl · · · und9 (gv e11))) ?_
 refine sG 18 (bV (ltI (t0.mValue.size : Int) 17)) rfl rfl (fun e12 => (vb rfl (gv e12) rfl (b_lss rfl))) ?_
 refine sT 19 (bV (t13 && (ltI (t0.mValue.size : Int) 17))) rfl (vp rfl rfl (fun e13 => (gv e13)) (fun e14 => rfl) (pA _ _)) ?_
 refine sM 2 (bV (t13 && (ltI (t0.mValue.size : Int) 17))) rfl rfl ?_
 refine sz ?_
 cases h
 exact ret1 rfl (.tmp rfl)
theorem s76 (k : Nat) (t0 : Stamp) (t1 : Stamp) (r : Bool) (h : F76 k t0 t1 = some r) : Awp.Spec Tryz.prog amb 76 [(.agg (eStamp t0)), (.agg (eStamp t1))] (.ds [(.s (.bool r))]) := by
 rw [F76] at h
 refine spec_of Tryz.func76 rfl (ble _ _ rfl) fun w0 ok0 lt0 hA => ?_
 refine sr ?_
 refine sT 2 (.d (.dp (eStamp t0))) rfl (v_box_d (cs := (eStamp t0)) rfl · · · rfl rfl (ones_of rfl)) ?_
 refine sT 3 (.d (.dp (eStamp t1))) rfl (v_box_d (cs := (eStamp t1)) rfl · · · rfl rfl (ones_of rfl)) ?_
 refine sM 4 (bV false) rfl rfl ?_
 refine sq_nil ?_
 refine ht_seq ?_
 refine sr ?_
 refine sD 5 (eStamp t0) fo24_0 rfl rfl rfl ?_
 refine sT 6 (iV t0.mWall) rfl (vl rfl onT3 rfl rfl) ?_
 refine sD 7 (eStamp t1) fo24_0 rfl rfl rfl ?_
 refine sT 8 (iV t1.mWall) rfl (vl rfl onT3 rfl rfl) ?_
 refine sT 9 (bV (!eqI t0.mWall t1.mWall)) rfl (vb rfl rfl rfl (b_neq rfl)) ?_
 refine sq_nil ?_
 refine ht_cond rfl (fun e1 => ?_) (fun e1 => ?_)
 ·replace h := cpos e1 h
  refine sr ?_
  refine sD 10 (eStamp t0) fo24_0 rfl rfl rfl ?_
  refine sT 11 (iV t0.mWall) rfl (vl rfl onT3 rfl rfl) ?_
  refine sD 12 (eStamp t1) fo24_0 rfl rfl rfl ?_
  refine sT 13 (iV t1.mWall) rfl (vl rfl onT3 rfl rfl) ?_
  refine sT 14 (bV (ltI t0.mWall t1.mWall)) rfl (vb rfl rfl rfl (b_lss rfl)) ?_
  refine sM 4 (bV (ltI t0.mWall t1.mWall)) rfl rfl ?_
  refine sz ?_
  cases h
  exact ret1 rfl (.tmp rfl)
 replace h := cneg e1 h
 refine ht_skip ?_
 refine ht_seq ?_
 refine sr ?_
 refine sD 15 (eStamp t0) fo24_1 rfl rfl rfl ?_
 refine sT 16 (iV t0.mTick) rfl (vl rfl onT3 rfl rfl) ?_
 refine sD 17 (eStamp t1) fo24_1 rfl rfl rfl ?_
 refine sT 18 (iV t1.mTick) rfl (vl rfl onT3 rfl rfl) ?_
 refine sT 19 (bV (!eqI t0.mTick t1.mTick)) rfl (vb rfl rfl rfl (b_neq rfl)) ?_
 refine sq_nil ?_
 refine ht_cond rfl (fun e2 => ?_) (fun e2 => ?_)
 ·replace h := cpos e2 h
  refine sr ?_
  refine sD 20 (eStamp t0) fo24_1 rfl rfl rfl ?_
  refine sT 21 (iV t0.mTick) rfl (vl rfl onT3 rfl rfl) ?_
  refine sD 22 (eStamp t1) fo24_1 rfl rfl rfl ?_
  refine sT 23 (iV t1.mTick) rfl (vl rfl onT3 rfl rfl) ?_
  refine sT 24 (bV (ltI t0.mTick t1.mTick)) rfl (vb rfl rfl rfl (b_lss rfl)) ?_
  refine sM 4 (bV (ltI t0.mTick t1.mTick)) rfl rfl ?_
  refine sz ?_
  cases h
  exact ret1 rfl (.tmp rfl)
 replace h := cneg e2 h
 refine ht_skip ?_
 refine sr ?_
 refine sD 25 (eStamp t0) fo24_2 rfl rfl rfl ?_
 refine sT 26 (iV t0.mNode) rfl (vl rfl onT3 rfl rfl) ?_
 refine sD 27 (eStamp t1) fo24_2 rfl rfl rfl ?_
 refine sT 28 (iV t1.mNode) rfl (vl rfl onT3 rfl rfl) ?_
 refine sT 29 (bV (ltI t0.mNode t1.mNode)) rfl (vb rfl rfl rfl (b_lss rfl)) ?_
 refine sM 4 (bV (ltI t0.mNode t1.mNode)) rfl rfl ?_
 refine sz ?_
 cases h
 exact ret1 rfl (.tmp rfl)
theorem s131 (k : Nat) (t0 : List Version) (r : Bool) (h : F131 k t0 = some r) : Awp.Spec Tryz.prog amb 131 [(.sl 5 (t0.map eVersion))] (.ds [(.s (.bool r))]) := by
 rw [F131] at h
 refine spec_of Tryz.func131 rfl (ble _ _ rfl) fun w0 ok0 lt0 hA => ?_
 refine sr ?_
 refine sM 2 (bV false) rfl rfl ?_
 refine sq_nil ?_
 refine ht_seq ?_
 refine sr ?_
 refine sM 4 (.d (.sl 5 (t0.map eVersion))) rfl rfl ?_
 refine sT 5 (iV (t0.length : Int)) rfl (w_len t0 eVersion rfl rfl · · · slT96 rfl) ?_
 refine sT 6 (bV (ltI 64 (t0.length : Int))) rfl (vb rfl rfl rfl (b_gtr rfl)) ?_
 refine sq_nil ?_
 refine ht_cond rfl (fun e1 => ?_) (fun e1 => ?_)
 ·replace h := cpos e1 h
  refine sr ?_
  refine sM 2 (bV false) rfl rfl ?_
  refine sz ?_
  cases h
  exact ret1 rfl (.tmp rfl)
 replace h := cneg e1 h
 refine ht_skip ?_
 refine ht_gj (go_id' h) (fun _ => tell []) (fun _ h => ?_) (fun v2 K3 h j5 r6 => ?_)
 ·refine sr ?_
  refine sM 2 (bV true) rfl rfl ?_
  refine sz ?_
  cases h
  exact ret1 rfl (.tmp rfl)
 refine sr ?_
 refine sM 3 (iV 0) rfl rfl ?_
 refine sq_nil ?_
 refine ht_block ?_
 refine ht_rd h (fun _ => rfl) (fun t3 => tell [(.t 0, .d (.sl 5 (t0.map eVersion))), (.t 3, iV t3)]) (wi rfl rfl) fun k t3 h K33 j8 => ?_
 rw [F131_l1] at h
 refine ht_seq ?_
 refine sr ?_
 refine sM 7 (iV t3) rfl rfl ?_
 refine sM 8 (.d (.sl 5 (t0.map eVersion))) rfl rfl ?_
 refine sT 9 (iV (t0.length : Int)) rfl (w_len t0 eVersion rfl rfl · · · slT96 rfl) ?_
 refine sT 10 (bV (ltI t3 (t0.length : Int))) rfl (vb rfl rfl rfl (b_lss rfl)) ?_
 refine sq_nil ?_
 refine ht_cond rfl (fun e10 => ?_) (fun e10 => ?_)
 ·replace h := cpos e10 h
  refine ht_skip ?_
  refine ht_seq ?_
  refine ht_block ?_
  refine ht_seq ?_
  refine sr ?_
  refine sM 13 (.d (.sl 5 (t0.map eVersion))) rfl rfl ?_
  refine sM 14 (iV t3) rfl rfl ?_
  obtain ⟨e11, h⟩ := gpos h
  refine sT 15 (.d (.dp (eVersion (rd t0 t3)))) rfl (w_idx t0 eVersion rfl · · · slT96 rfl rfl e11) ?_
  refine sP 16 (eVersion (rd t0 t3)) (eVersion (rd t0 t3)) ag93 rfl rfl rfl rfl rfl ?_
  obtain ⟨t17, c12, h⟩ := bpos h
  refine sC 17 (bV t17) (s134 k (rd t0 t3) _ c12) en134 rfl rfl rfl rfl ?_
  refine sT 18 (bV (!t17)) rfl (vu rfl rfl (u_not rfl)) ?_
  refine sq_nil ?_
  refine ht_cond rfl (fun e13 => ?_) (fun e13 => ?_)
  ·replace h := cpos e13 h
   refine sr ?_
   refine sM 2 (bV false) rfl rfl ?_
   refine sz ?_
   cases h
   cases r6 _ rfl
   exact ret1 rfl (.tmp rfl)
  replace h := cneg e13 h
  refine ht_skip ?_
  refine ht_seq ?_
  refine ht_region_draw mixed ?_
  refine rM 19 (iV t3) rfl rfl ?_
  refine rT 20 (bV (ltI 0 t3)) rfl (vb rfl rfl rfl (b_gtr rfl)) ?_
  refine rM 21 (bV (ltI 0 t3)) rfl rfl ?_
  refine rG 22 (.d (.sl 5 (t0.map eVersion))) rfl rfl (fun e14 => (vm rfl rfl)) ?_
  refine rG 23 (iV t3) rfl rfl (fun e15 => (vm rfl rfl)) ?_
  refine rG 24 (iV (IntKind.wrap .i64 (t3 - 1))) rfl rfl (fun e16 => (vb rfl (gv e16) rfl (b_sub rfl))) ?_
  obtain ⟨e18, h⟩ := gpos h
  refine rG 25 (.d (.dp (eVersion (rd t0 (IntKind.wrap .i64 (t3 - 1)))))) rfl rfl (fun e17 => (w_idx t0 eVersion rfl · · · slT96 (gv e17) (gv e17) (orT e18 e17))) ?_
  refine rG 26 (.d (.dp (eVersion (rd t0 (IntKind.wrap .i64 (t3 - 1)))))) rfl rfl (fun e19 => (vD (eVersion (rd t0 (IntKind.wrap .i64 (t3 - 1)))) fo93_0 · · · rfl (gv e19))) ?_
  refine rG 27 (.d (.agg (eStamp (rd t0 (IntKind.wrap .i64 (t3 - 1))).mAt))) rfl rfl (fun e20 => (w_ldp (eVersion (rd t0 (IntKind.wrap .i64 (t3 - 1)))) (eStamp (rd t0 (IntKind.wrap .i64 (t3 - 1))).mAt) rfl · · · ag24 (gv e20) (ble _ _ rfl) rfl)) ?_
  refine rG 28 (.d (.sl 5 (t0.map eVersion))) rfl rfl (fun e21 => (vm rfl rfl)) ?_
  refine rG 29 (iV t3) rfl rfl (fun e22 => (vm rfl rfl)) ?_
  obtain ⟨e24, h⟩ := gpos h
  refine rG 30 (.d (.dp (eVersion (rd t0 t3)))) rfl rfl (fun e23 => (w_idx t0 eVersion rfl · · · slT96 (gv e23) (gv e23) (orT e24 e23))) ?_
  refine rG 31 (.d (.dp (eVersion (rd t0 t3)))) rfl rfl (fun e25 => (vD (eVersion (rd t0 t3)) fo93_0 · · · rfl (gv e25))) ?_
  refine rG 32 (.d (.agg (eStamp (rd t0 t3).mAt))) rfl rfl (fun e26 => (w_ldp (eVersion (rd t0 t3)) (eStamp (rd t0 t3).mAt) rfl · · · ag24 (gv e26) (ble _ _ rfl) rfl)) ?_
  obtain ⟨t33, c28, h⟩ := bpos h
  refine rG 33 (bV t33) rfl rfl (fun e27 => (vC (s76 k (rd t0 (IntKind.wrap .i64 (t3 - 1))).mAt (rd t0 t3).mAt _ (cpos e27 c28)) en76 · · · rfl (cc (gv e27) (cc (gv e27) rfl)) rfl)) ?_
  refine rG 34 (bV (!t33)) rfl rfl (fun e29 => (vu rfl (gv e29) (u_not rfl))) ?_
  refine rT 35 (bV ((ltI 0 t3) && (!t33))) rfl (vp rfl rfl (fun e30 => (gv e30)) (fun e31 => rfl) (pA _ _)) ?_
  refine rg_nil ⟨by kernel_rfl, ?_⟩
  refine ht_cond rfl (fun e32 => ?_) (fun e32 => ?_)
  ·replace h := cpos e32 h
   refine sr ?_
   refine sM 2 (bV false) rfl rfl ?_
   refine sz ?_
   cases h
   cases r6 _ rfl
   exact ret1 rfl (.tmp rfl)
  replace h := cneg e32 h
  refine ht_skip ?_
  refine ht_region ?_
  refine sM 11 (iV t3) rfl rfl ?_
  refine sT 12 (iV (IntKind.wrap .i64 (t3 + 1))) rfl (vb rfl rfl rfl (b_add rfl)) ?_
  refine sM 3 (iV (IntKind.wrap .i64 (t3 + 1))) rfl rfl ?_
  refine sq_nil ?_
  exact j8 _ _ h (wi rfl rfl)
 replace h := cneg e10 h
 refine ht_exit ?_
 refine tq ?_
 refine tq ?_
 refine bq_hit ?_
 cases h
 exact j5 _ _ rfl (wi rfl rfl)
theorem s86 (k : Nat) (t0 : List Entry) (r : Bool) (h : F86 k t0 = some r) : Awp.Spec Tryz.prog amb 86 [(.sl 2 (t0.map eEntry))] (.ds [(.s (.bool r))]) := by
 rw [F86] at h
 refine spec_of Tryz.func86 rfl (ble _ _ rfl) fun w0 ok0 lt0 hA => ?_
 refine sr ?_
 refine sM 2 (bV false) rfl rfl ?_
 refine sq_nil ?_
 refine ht_seq ?_
 refine sr ?_
 refine sM 4 (.d (.sl 2 (t0.map eEntry))) rfl rfl ?_
 refine sT 5 (iV (t0.length : Int)) rfl (w_len t0 eEntry rfl rfl · · · slT42 rfl) ?_
 refine sT 6 (bV (ltI 64 (t0.length : Int))) rfl (vb rfl rfl rfl (b_gtr rfl)) ?_
 refine sq_nil ?_
 refine ht_cond rfl (fun e1 => ?_) (fun e1 => ?_)
 ·replace h := cpos e1 h
  refine sr ?_
  refine sM 2 (bV false) rfl rfl ?_
  refine sz ?_
  cases h
  exact ret1 rfl (.tmp rfl)
 replace h := cneg e1 h
 refine ht_skip ?_
 refine ht_gj (go_id' h) (fun _ => tell []) (fun _ h => ?_) (fun v2 K3 h j5 r6 => ?_)
 ·refine sr ?_
  refine sM 2 (bV true) rfl rfl ?_
  refine sz ?_
  cases h
  exact ret1 rfl (.tmp rfl)
 refine sr ?_
 refine sM 3 (iV 0) rfl rfl ?_
 refine sq_nil ?_
 refine ht_block ?_
 refine ht_rd h (fun _ => rfl) (fun t3 => tell [(.t 0, .d (.sl 2 (t0.map eEntry))), (.t 3, iV t3)]) (wi rfl rfl) fun k t3 h K54 j8 => ?_
 rw [F86_l1] at h
 refine ht_seq ?_
 refine sr ?_
 refine sM 7 (iV t3) rfl rfl ?_
 refine sM 8 (.d (.sl 2 (t0.map eEntry))) rfl rfl ?_
 refine sT 9 (iV (t0.length : Int)) rfl (w_len t0 eEntry rfl rfl · · · slT42 rfl) ?_
 refine sT 10 (bV (ltI t3 (t0.length : Int))) rfl (vb rfl rfl rfl (b_lss rfl)) ?_
 refine sq_nil ?_
 refine ht_cond rfl (fun e10 => ?_) (fun e10 => ?_)
 ·replace h := cpos e10 h
  refine ht_skip ?_
  refine ht_seq ?_
  refine ht_block ?_
  refine ht_seq ?_
  refine sr ?_
  refine sM 13 (.d (.sl 2 (t0.map eEntry))) rfl rfl ?_
  refine sM 14 (iV t3) rfl rfl ?_
  obtain ⟨e11, h⟩ := gpos h
  refine sT 15 (.d (.dp (eEntry (rd t0 t3)))) rfl (w_idx t0 eEntry rfl · · · slT42 rfl rfl e11) ?_
  refine sD 16 (eEntry (rd t0 t3)) fo116_0 rfl rfl rfl ?_
  refine sT 17 (sV (rd t0 t3).mKey) rfl (vl rfl onT9 rfl rfl) ?_
  obtain ⟨t18, c12, h⟩ := bpos h
  refine sC 18 (bV t18) (s130 k (rd t0 t3).mKey _ c12) en130 rfl rfl rfl rfl ?_
  refine sT 19 (bV (!t18)) rfl (vu rfl rfl (u_not rfl)) ?_
  refine sM 20 (bV (!t18)) rfl rfl ?_
  refine sF 21 (.d (.sl 2 (t0.map eEntry))) rfl rfl (fun e13 => (vm rfl rfl)) ?_
  refine sF 22 (iV t3) rfl rfl (fun e14 => (vm rfl rfl)) ?_
  obtain ⟨e16, h⟩ := gpos h
  refine sF 23 (.d (.dp (eEntry (rd t0 t3)))) rfl rfl (fun e15 => (w_idx t0 eEntry rfl · · · slT42 (gv (nF e15)) (gv (nF e15)) (orT e16 (nF e15)))) ?_
  refine sF 24 (.d (.dp (List.drop 1 (eEntry (rd t0 t3))))) rfl rfl (fun e17 => (vD (eEntry (rd t0 t3)) fo116_1 · · · rfl (gv (nF e17)))) ?_
  refine sF 25 (.d (.sl 5 ((rd t0 t3).mChain.map eVersion))) rfl rfl (fun e18 => (vl rfl onT96 (gv (nF e18)) rfl)) ?_
  refine sF 26 (iV ((rd t0 t3).mChain.length : Int)) rfl rfl (fun e19 => (w_len (rd t0 t3).mChain eVersion rfl rfl · · · slT96 (gv (nF e19)))) ?_
  refine sF 27 (bV (eqI ((rd t0 t3).mChain.length : Int) 0)) rfl rfl (fun e20 => (vb rfl (gv (nF e20)) rfl (b_eql rfl))) ?_
  refine sT 28 (bV ((!t18) || (eqI ((rd t0 t3).mChain.length : Int) 0))) rfl (vp rfl rfl (fun e21 => rfl) (fun e22 => (gv (nF e22))) (pO _ _)) ?_
  refine sM 29 (bV ((!t18) || (eqI ((rd t0 t3).mChain.length : Int) 0))) rfl rfl ?_
  refine sF 30 (.d (.sl 2 (t0.map eEntry))) rfl rfl (fun e23 => (vm rfl rfl)) ?_
  refine sF 31 (iV t3) rfl rfl (fun e24 => (vm rfl rfl)) ?_
  obtain ⟨e26, h⟩ := gpos h
  refine sF 32 (.d (.dp (eEntry (rd t0 t3)))) rfl rfl (fun e25 => (w_idx t0 eEntry rfl · · · slT42 (gv (nF e25)) (gv (nF e25)) (orT e26 (nF e25)))) ?_
  refine sF 33 (.d (.dp (List.drop 1 (eEntry (rd t0 t3))))) rfl rfl (fun e27 => (vD (eEntry (rd t0 t3)) fo116_1 · · · rfl (gv (nF e27)))) ?_
  refine sF 34 (.d (.sl 5 ((rd t0 t3).mChain.map eVersion))) rfl rfl (fun e28 => (vl rfl onT96 (gv (nF e28)) rfl)) ?_
  obtain ⟨t35, c30, h⟩ := bpos h
  refine sF 35 (bV t35) rfl rfl (fun e29 => (vC (s131 k (rd t0 t3).mChain _ (cpos (nF e29) c30)) en131 · · · rfl (cc (gv (nF e29)) rfl) rfl)) ?_
  refine sF 36 (bV (!t35)) rfl rfl (fun e31 => (vu rfl (gv (nF e31)) (u_not rfl))) ?_
  refine sT 37 (bV (((!t18) || (eqI ((rd t0 t3).mChain.length : Int) 0)) || (!t35))) rfl (vp rfl rfl (fun e32 => rfl) (fun e33 => (gv (nF e33))) (pO _ _)) ?_
  refine sq_nil ?_
  refine ht_cond rfl (fun e34 => ?_) (fun e34 => ?_)
  ·replace h := cpos e34 h
   refine sr ?_
   refine sM 2 (bV false) rfl rfl ?_
   refine sz ?_
   cases h
   cases r6 _ rfl
   exact ret1 rfl (.tmp rfl)
  replace h := cneg e34 h
  refine ht_skip ?_
  refine ht_seq ?_
  refine ht_region_draw mixed ?_
  refine rM 38 (iV t3) rfl rfl ?_
  refine rT 39 (bV (ltI 0 t3)) rfl (vb rfl rfl rfl (b_gtr rfl)) ?_
  refine rM 40 (bV (ltI 0 t3)) rfl rfl ?_
  refine rG 41 (.d (.sl 2 (t0.map eEntry))) rfl rfl (fun e35 => (vm rfl rfl)) ?_
  refine rG 42 (iV t3) rfl rfl (fun e36 => (vm rfl rfl)) ?_
  refine rG 43 (iV (IntKind.wrap .i64 (t3 - 1))) rfl rfl (fun e37 => (vb rfl (gv e37) rfl (b_sub rfl))) ?_
  obtain ⟨e39, h⟩ := gpos h
  refine rG 44 (.d (.dp (eEntry (rd t0 (IntKind.wrap .i64 (t3 - 1)))))) rfl rfl (fun e38 => (w_idx t0 eEntry rfl · · · slT42 (gv e38) (gv e38) (orT e39 e38))) ?_
  refine rG 45 (.d (.dp (eEntry (rd t0 (IntKind.wrap .i64 (t3 - 1)))))) rfl rfl (fun e40 => (vD (eEntry (rd t0 (IntKind.wrap .i64 (t3 - 1)))) fo116_0 · · · rfl (gv e40))) ?_
  refine rG 46 (sV (rd t0 (IntKind.wrap .i64 (t3 - 1))).mKey) rfl rfl (fun e41 => (vl rfl onT9 (gv e41) rfl)) ?_
  refine rG 47 (.d (.sl 2 (t0.map eEntry))) rfl rfl (fun e42 => (vm rfl rfl)) ?_
  refine rG 48 (iV t3) rfl rfl (fun e43 => (vm rfl rfl)) ?_
  obtain ⟨e45, h⟩ := gpos h
  refine rG 49 (.d (.dp (eEntry (rd t0 t3)))) rfl rfl (fun e44 => (w_idx t0 eEntry rfl · · · slT42 (gv e44) (gv e44) (orT e45 e44))) ?_
  refine rG 50 (.d (.dp (eEntry (rd t0 t3)))) rfl rfl (fun e46 => (vD (eEntry (rd t0 t3)) fo116_0 · · · rfl (gv e46))) ?_
  refine rG 51 (sV (rd t0 t3).mKey) rfl rfl (fun e47 => (vl rfl onT9 (gv e47) rfl)) ?_
  obtain ⟨t52, c49, h⟩ := bpos h
  refine rG 52 (iV t52) rfl rfl (fun e48 => (vC (s119 k (rd t0 (IntKind.wrap .i64 (t3 - 1))).mKey (rd t0 t3).mKey _ (cpos e48 c49)) en119 · · · rfl (cc (gv e48) (cc (gv e48) rfl)) rfl)) ?_
  refine rG 53 (bV (!eqI t52 (-1))) rfl rfl (fun e50 => (vb rfl (gv e50) rfl (b_neq rfl))) ?_
  refine rT 54 (bV ((ltI 0 t3) && (!eqI t52 (-1)))) rfl (vp rfl rfl (fun e51 => (gv e51)) (fun e52 => rfl) (pA _ _)) ?_
  refine rg_nil ⟨by kernel_rfl, ?_⟩
  refine ht_cond rfl (fun e53 => ?_) (fun e53 => ?_)
  ·replace h := cpos e53 h
   refine sr ?_
   refine sM 2 (bV false) rfl rfl ?_
   refine sz ?_
   cases h
   cases r6 _ rfl
   exact ret1 rfl (.tmp rfl)
  replace h := cneg e53 h
  refine ht_skip ?_
  refine ht_region ?_
  refine sM 11 (iV t3) rfl rfl ?_
  refine sT 12 (iV (IntKind.wrap .i64 (t3 + 1))) rfl (vb rfl rfl rfl (b_add rfl)) ?_
  refine sM 3 (iV (IntKind.wrap .i64 (t3 + 1))) rfl rfl ?_
  refine sq_nil ?_
  exact j8 _ _ h (wi rfl rfl)
 replace h := cneg e10 h
 refine ht_exit ?_
 refine tq ?_
 refine tq ?_
 refine bq_hit ?_
 cases h
 exact j5 _ _ rfl (wi rfl rfl)
theorem s140 (k : Nat) (t0 : Int) (r : Bool) (h : F140 k t0 = some r) : Awp.Spec Tryz.prog amb 140 [(.s (.int .i64 t0))] (.ds [(.s (.bool r))]) := by
 rw [F140] at h
 refine spec_of Tryz.func140 rfl (ble _ _ rfl) fun w0 ok0 lt0 hA => ?_
 refine sr ?_
 refine sM 2 (bV false) rfl rfl ?_
 refine sq_nil ?_
 refine sr ?_
 refine sM 3 (iV t0) rfl rfl ?_
 refine sT 4 (bV (ltI 0 t0)) rfl (vb rfl rfl rfl (b_gtr rfl)) ?_
 refine sM 5 (bV (ltI 0 t0)) rfl rfl ?_
 refine sG 6 (iV t0) rfl rfl (fun e1 => (vm rfl rfl)) ?_
 refine sG 7 (bV (leI t0 1099511627776)) rfl rfl (fun e2 => (vb rfl (gv e2) rfl (b_leq rfl))) ?_
 refine sT 8 (bV ((ltI 0 t0) && (leI t0 1099511627776))) rfl (vp rfl rfl (fun e3 => (gv e3)) (fun e4 => rfl) (pA _ _)) ?_
 refine sM 2 (bV ((ltI 0 t0) && (leI t0 1099511627776))) rfl rfl ?_
 refine sz ?_
 cases h
 exact ret1 rfl (.tmp rfl)
theorem s141 (k : Nat) (t0 : Answer) (r : Bool) (h : F141 k t0 = some r) : Awp.Spec Tryz.prog amb 141 [(.agg (eAnswer t0))] (.ds [(.s (.bool r))]) := by
 rw [F141] at h
 refine spec_of Tryz.func141 rfl (ble _ _ rfl) fun w0 ok0 lt0 hA => ?_
 refine sr ?_
 refine sT 1 (.d (.dp (eAnswer t0))) rfl (v_box_d (cs := (eAnswer t0)) rfl · · · rfl rfl (ones_of rfl)) ?_
 refine sM 2 (bV false) rfl rfl ?_
 refine sq_nil ?_
 refine ht_seq ?_
 refine sr ?_
 refine sD 3 (eAnswer t0) fo34_0 rfl rfl rfl ?_
 refine sT 4 (iV t0.mErr) rfl (vl rfl onT31 rfl rfl) ?_
 refine sT 5 (bV (ltI t0.mErr 0)) rfl (vb rfl rfl rfl (b_lss rfl)) ?_
 refine sM 6 (bV (ltI t0.mErr 0)) rfl rfl ?_
 refine sF 7 (.d (.dp (eAnswer t0))) rfl rfl (fun e1 => (vD (eAnswer t0) fo34_0 · · · rfl rfl)) ?_
 refine sF 8 (iV t0.mErr) rfl rfl (fun e2 => (vl rfl onT31 (gv (nF e2)) rfl)) ?_
 refine sF 9 (bV (ltI 16 t0.mErr)) rfl rfl (fun e3 => (vb rfl (gv (nF e3)) rfl (b_gtr rfl))) ?_
 refine sT 10 (bV ((ltI t0.mErr 0) || (ltI 16 t0.mErr))) rfl (vp rfl rfl (fun e4 => rfl) (fun e5 => (gv (nF e5))) (pO _ _)) ?_
 refine sM 11 (bV ((ltI t0.mErr 0) || (ltI 16 t0.mErr))) rfl rfl ?_
 refine sF 12 (.d (.dp (List.drop 5 (eAnswer t0)))) rfl rfl (fun e6 => (vD (eAnswer t0) fo34_3 · · · rfl rfl)) ?_
 refine sF 13 (sV t0.mValue) rfl rfl (fun e7 => (vl rfl onT9 (gv (nF e7)) rfl)) ?_
 refine sF 14 (iV (t0.mValue.size : Int)) rfl rfl (fun e8 => (v_len_str rfl rfl · · · und9 (gv (nF e8)))) ?_
 refine sF 15 (bV (ltI 16 (t0.mValue.size : Int))) rfl rfl (fun e9 => (vb rfl (gv (nF e9)) rfl (b_gtr rfl))) ?_
 refine sT 16 (bV (((ltI t0.mErr 0) || (ltI 16 t0.mErr)) || (ltI 16 (t0.mValue.size : Int)))) rfl (vp rfl rfl (fun e10 => rfl) (fun e11 => (gv (nF e11))) (pO _ _)) ?_
 refine sM 17 (bV (((ltI t0.mErr 0) || (ltI 16 t0.mErr)) || (ltI 16 (t0.mValue.size : Int)))) rfl rfl ?_
 refine sF 18 (.d (.dp (List.drop 6 (eAnswer t0)))) rfl rfl (fun e12 => (vD (eAnswer t0) fo34_4 · · · rfl rfl)) ?_
 refine sF 19 (.d (.sl 2 (t0.mItems.map eItem))) rfl rfl (fun e13 => (vl rfl onT32 (gv (nF e13)) rfl)) ?_
 refine sF 20 (iV (t0.mItems.length : Int)) rfl rfl (fun e14 => (w_len t0.mItems eItem rfl rfl · · · slT32 (gv (nF e14)))) ?_
 refine sF 21 (bV (ltI 0 (t0.mItems.length : Int))) rfl rfl (fun e15 => (vb rfl (gv (nF e15)) rfl (b_gtr rfl))) ?_
 refine sT 22 (bV ((((ltI t0.mErr 0) || (ltI 16 t0.mErr)) || (ltI 16 (t0.mValue.size : Int))) || (ltI 0 (t0.mItems.length : Int)))) rfl (vp rfl rfl (fun e16 => rfl) (fun e17 => (gv (nF e17))) (pO _ _)) ?_
 refine sM 23 (bV ((((ltI t0.mErr 0) || (ltI 16 t0.mErr)) || (ltI 16 (t0.mValue.size : Int))) || (ltI 0 (t0.mItems.length : Int)))) rfl rfl ?_
 refine sF 24 (.d (.dp (List.drop 7 (eAnswer t0)))) rfl rfl (fun e18 => (vD (eAnswer t0) fo34_5 · · · rfl rfl)) ?_
 refine sF 25 (sV t0.mNext) rfl rfl (fun e19 => (vl rfl onT9 (gv (nF e19)) rfl)) ?_
 refine sF 26 (iV (t0.mNext.size : Int)) rfl rfl (fun e20 => (v_len_str rfl rfl · · · und9 (gv (nF e20)))) ?_
 refine sF 27 (bV (ltI 0 (t0.mNext.size : Int))) rfl rfl (fun e21 => (vb rfl (gv (nF e21)) rfl (b_gtr rfl))) ?_
 refine sT 28 (bV (((((ltI t0.mErr 0) || (ltI 16 t0.mErr)) || (ltI 16 (t0.mValue.size : Int))) || (ltI 0 (t0.mItems.length : Int))) || (ltI 0 (t0.mNext.size : Int)))) rfl (vp rfl rfl (fun e22 => rfl) (fun e23 => (gv (nF e23))) (pO _ _)) ?_
 refine sM 29 (bV (((((ltI t0.mErr 0) || (ltI 16 t0.mErr)) || (ltI 16 (t0.mValue.size : Int))) || (ltI 0 (t0.mItems.length : Int))) || (ltI 0 (t0.mNext.size : Int)))) rfl rfl ?_
 refine sF 30 (.d (.dp (List.drop 8 (eAnswer t0)))) rfl rfl (fun e24 => (vD (eAnswer t0) fo34_6 · · · rfl rfl)) ?_
 refine sF 31 (bV t0.mMore) rfl rfl (fun e25 => (vl rfl onT4 (gv (nF e25)) rfl)) ?_
 refine sT 32 (bV ((((((ltI t0.mErr 0) || (ltI 16 t0.mErr)) || (ltI 16 (t0.mValue.size : Int))) || (ltI 0 (t0.mItems.length : Int))) || (ltI 0 (t0.mNext.size : Int))) || t0.mMore)) rfl (vp rfl rfl (fun e26 => rfl) (fun e27 => (gv (nF e27))) (pO _ _)) ?_
 refine sq_nil ?_
 refine ht_cond rfl (fun e28 => ?_) (fun e28 => ?_)
 ·replace h := cpos e28 h
  refine sr ?_
  refine sM 2 (bV false) rfl rfl ?_
  refine sz ?_
  cases h
  exact ret1 rfl (.tmp rfl)
 replace h := cneg e28 h
 refine ht_skip ?_
 refine sr ?_
 refine sD 33 (eAnswer t0) fo34_1 rfl rfl rfl ?_
 refine sP 34 (List.drop 1 (eAnswer t0)) (eStamp t0.mAt) ag24 rfl rfl rfl rfl rfl ?_
 obtain ⟨t35, c29, h⟩ := bpos h
 refine sC 35 (bV t35) (s68 k t0.mAt _ c29) en68 rfl rfl rfl rfl ?_
 refine sM 2 (bV t35) rfl rfl ?_
 refine sz ?_
 cases h
 exact ret1 rfl (.tmp rfl)
end Go.Proofs.Gd
set_option linter.unusedVariables false
set_option maxRecDepth 100000
set_option maxHeartbeats 4000000
namespace Go.Proofs.Gd
open Go Go.Awp Go.Proofs
theorem s87 (k : Nat) (t0 : List Done) (r : Bool) (h : F87 k t0 = some r) : Awp.Spec Tryz.prog amb 87 [(.sl 11 (t0.map eDone))] (.ds [(.s (.bool r))]) := by
 rw [F87] at h
 refine spec_of Tryz.func87 rfl (ble _ _ rfl) fun w0 ok0 lt0 hA => ?_
 refine sr ?_
 refine sM 2 (bV false) rfl rfl ?_
 refine sq_nil ?_
 refine ht_seq ?_
 refine sr ?_
 refine sM 4 (.d (.sl 11 (t0.map eDone))) rfl rfl ?_
 refine sT 5 (iV (t0.length : Int)) rfl (w_len t0 eDone rfl rfl · · · slT43 rfl) ?_
 refine sT 6 (bV (ltI 8 (t0.length : Int))) rfl (vb rfl rfl rfl (b_gtr rfl)) ?_
 refine sq_nil ?_
 refine ht_cond rfl (fun e1 => ?_) (fun e1 => ?_)
 ·replace h := cpos e1 h
  refine sr ?_
  refine sM 2 (bV false) rfl rfl ?_
  refine sz ?_
  cases h
  exact ret1 rfl (.tmp rfl)
 replace h := cneg e1 h
 refine ht_skip ?_
 refine ht_gj (go_id' h) (fun _ => tell []) (fun _ h => ?_) (fun v2 K3 h j5 r6 => ?_)
 ·refine sr ?_
  refine sM 2 (bV true) rfl rfl ?_
  refine sz ?_
  cases h
  exact ret1 rfl (.tmp rfl)
 refine sr ?_
 refine sM 3 (iV 0) rfl rfl ?_
 refine sq_nil ?_
 refine ht_block ?_
 refine ht_rd h (fun _ => rfl) (fun t3 => tell [(.t 0, .d (.sl 11 (t0.map eDone))), (.t 3, iV t3)]) (wi rfl rfl) fun k t3 h K53 j8 => ?_
 rw [F87_l1] at h
 refine ht_seq ?_
 refine sr ?_
 refine sM 7 (iV t3) rfl rfl ?_
 refine sM 8 (.d (.sl 11 (t0.map eDone))) rfl rfl ?_
 refine sT 9 (iV (t0.length : Int)) rfl (w_len t0 eDone rfl rfl · · · slT43 rfl) ?_
 refine sT 10 (bV (ltI t3 (t0.length : Int))) rfl (vb rfl rfl rfl (b_lss rfl)) ?_
 refine sq_nil ?_
 refine ht_cond rfl (fun e10 => ?_) (fun e10 => ?_)
 ·replace h := cpos e10 h
  refine ht_skip ?_
  refine ht_seq ?_
  refine ht_block ?_
  refine ht_seq ?_
  refine sr ?_
  refine sM 13 (.d (.sl 11 (t0.map eDone))) rfl rfl ?_
  refine sM 14 (iV t3) rfl rfl ?_
  obtain ⟨e11, h⟩ := gpos h
  refine sT 15 (.d (.dp (eDone (rd t0 t3)))) rfl (w_idx t0 eDone rfl · · · slT43 rfl rfl e11) ?_
  refine sD 16 (eDone (rd t0 t3)) fo100_0 rfl rfl rfl ?_
  refine sT 17 (iV (rd t0 t3).mClient) rfl (vl rfl onT3 rfl rfl) ?_
  obtain ⟨t18, c12, h⟩ := bpos h
  refine sC 18 (bV t18) (s140 k (rd t0 t3).mClient _ c12) en140 rfl rfl rfl rfl ?_
  refine sT 19 (bV (!t18)) rfl (vu rfl rfl (u_not rfl)) ?_
  refine sM 20 (bV (!t18)) rfl rfl ?_
  refine sF 21 (.d (.sl 11 (t0.map eDone))) rfl rfl (fun e13 => (vm rfl rfl)) ?_
  refine sF 22 (iV t3) rfl rfl (fun e14 => (vm rfl rfl)) ?_
  obtain ⟨e16, h⟩ := gpos h
  refine sF 23 (.d (.dp (eDone (rd t0 t3)))) rfl rfl (fun e15 => (w_idx t0 eDone rfl · · · slT43 (gv (nF e15)) (gv (nF e15)) (orT e16 (nF e15)))) ?_
  refine sF 24 (.d (.dp (List.drop 1 (eDone (rd t0 t3))))) rfl rfl (fun e17 => (vD (eDone (rd t0 t3)) fo100_1 · · · rfl (gv (nF e17)))) ?_
  refine sF 25 (iV (rd t0 t3).mReq) rfl rfl (fun e18 => (vl rfl onT3 (gv (nF e18)) rfl)) ?_
  obtain ⟨t26, c20, h⟩ := bpos h
  refine sF 26 (bV t26) rfl rfl (fun e19 => (vC (s140 k (rd t0 t3).mReq _ (cpos (nF e19) c20)) en140 · · · rfl (cc (gv (nF e19)) rfl) rfl)) ?_
  refine sF 27 (bV (!t26)) rfl rfl (fun e21 => (vu rfl (gv (nF e21)) (u_not rfl))) ?_
  refine sT 28 (bV ((!t18) || (!t26))) rfl (vp rfl rfl (fun e22 => rfl) (fun e23 => (gv (nF e23))) (pO _ _)) ?_
  refine sM 29 (bV ((!t18) || (!t26))) rfl rfl ?_
  refine sF 30 (.d (.sl 11 (t0.map eDone))) rfl rfl (fun e24 => (vm rfl rfl)) ?_
  refine sF 31 (iV t3) rfl rfl (fun e25 => (vm rfl rfl)) ?_
  obtain ⟨e27, h⟩ := gpos h
  refine sF 32 (.d (.dp (eDone (rd t0 t3)))) rfl rfl (fun e26 => (w_idx t0 eDone rfl · · · slT43 (gv (nF e26)) (gv (nF e26)) (orT e27 (nF e26)))) ?_
  refine sF 33 (.d (.dp (List.drop 2 (eDone (rd t0 t3))))) rfl rfl (fun e28 => (vD (eDone (rd t0 t3)) fo100_2 · · · rfl (gv (nF e28)))) ?_
  refine sF 34 (.d (.agg (eAnswer (rd t0 t3).mAnswer))) rfl rfl (fun e29 => (w_ldp (List.drop 2 (eDone (rd t0 t3))) (eAnswer (rd t0 t3).mAnswer) rfl · · · ag34 (gv (nF e29)) (ble _ _ rfl) rfl)) ?_
  obtain ⟨t35, c31, h⟩ := bpos h
  refine sF 35 (bV t35) rfl rfl (fun e30 => (vC (s141 k (rd t0 t3).mAnswer _ (cpos (nF e30) c31)) en141 · · · rfl (cc (gv (nF e30)) rfl) rfl)) ?_
  refine sF 36 (bV (!t35)) rfl rfl (fun e32 => (vu rfl (gv (nF e32)) (u_not rfl))) ?_
  refine sT 37 (bV (((!t18) || (!t26)) || (!t35))) rfl (vp rfl rfl (fun e33 => rfl) (fun e34 => (gv (nF e34))) (pO _ _)) ?_
  refine sq_nil ?_
  refine ht_cond rfl (fun e35 => ?_) (fun e35 => ?_)
  ·replace h := cpos e35 h
   refine sr ?_
   refine sM 2 (bV false) rfl rfl ?_
   refine sz ?_
   cases h
   cases r6 _ rfl
   exact ret1 rfl (.tmp rfl)
  replace h := cneg e35 h
  refine ht_skip ?_
  refine ht_seq ?_
  refine ht_region_draw mixed ?_
  refine rM 38 (iV t3) rfl rfl ?_
  refine rT 39 (bV (ltI 0 t3)) rfl (vb rfl rfl rfl (b_gtr rfl)) ?_
  refine rM 40 (bV (ltI 0 t3)) rfl rfl ?_
  refine rG 41 (.d (.sl 11 (t0.map eDone))) rfl rfl (fun e36 => (vm rfl rfl)) ?_
  refine rG 42 (iV t3) rfl rfl (fun e37 => (vm rfl rfl)) ?_
  refine rG 43 (iV (IntKind.wrap .i64 (t3 - 1))) rfl rfl (fun e38 => (vb rfl (gv e38) rfl (b_sub rfl))) ?_
  obtain ⟨e40, h⟩ := gpos h
  refine rG 44 (.d (.dp (eDone (rd t0 (IntKind.wrap .i64 (t3 - 1)))))) rfl rfl (fun e39 => (w_idx t0 eDone rfl · · · slT43 (gv e39) (gv e39) (orT e40 e39))) ?_
  refine rG 45 (.d (.dp (eDone (rd t0 (IntKind.wrap .i64 (t3 - 1)))))) rfl rfl (fun e41 => (vD (eDone (rd t0 (IntKind.wrap .i64 (t3 - 1)))) fo100_0 · · · rfl (gv e41))) ?_
  refine rG 46 (iV (rd t0 (IntKind.wrap .i64 (t3 - 1))).mClient) rfl rfl (fun e42 => (vl rfl onT3 (gv e42) rfl)) ?_
  refine rG 47 (.d (.sl 11 (t0.map eDone))) rfl rfl (fun e43 => (vm rfl rfl)) ?_
  refine rG 48 (iV t3) rfl rfl (fun e44 => (vm rfl rfl)) ?_
  obtain ⟨e46, h⟩ := gpos h
  refine rG 49 (.d (.dp (eDone (rd t0 t3)))) rfl rfl (fun e45 => (w_idx t0 eDone rfl · · · slT43 (gv e45) (gv e45) (orT e46 e45))) ?_
  refine rG 50 (.d (.dp (eDone (rd t0 t3)))) rfl rfl (fun e47 => (vD (eDone (rd t0 t3)) fo100_0 · · · rfl (gv e47))) ?_
  refine rG 51 (iV (rd t0 t3).mClient) rfl rfl (fun e48 => (vl rfl onT3 (gv e48) rfl)) ?_
  refine rG 52 (bV (leI (rd t0 t3).mClient (rd t0 (IntKind.wrap .i64 (t3 - 1))).mClient)) rfl rfl (fun e49 => (vb rfl (gv e49) (gv e49) (b_geq rfl))) ?_
  refine rT 53 (bV ((ltI 0 t3) && (leI (rd t0 t3).mClient (rd t0 (IntKind.wrap .i64 (t3 - 1))).mClient))) rfl (vp rfl rfl (fun e50 => (gv e50)) (fun e51 => rfl) (pA _ _)) ?_
  refine rg_nil ⟨by kernel_rfl, ?_⟩
  refine ht_cond rfl (fun e52 => ?_) (fun e52 => ?_)
  ·replace h := cpos e52 h
   refine sr ?_
   refine sM 2 (bV false) rfl rfl ?_
   refine sz ?_
   cases h
   cases r6 _ rfl
   exact ret1 rfl (.tmp rfl)
  replace h := cneg e52 h
  refine ht_skip ?_
  refine ht_region ?_
  refine sM 11 (iV t3) rfl rfl ?_
  refine sT 12 (iV (IntKind.wrap .i64 (t3 + 1))) rfl (vb rfl rfl rfl (b_add rfl)) ?_
  refine sM 3 (iV (IntKind.wrap .i64 (t3 + 1))) rfl rfl ?_
  refine sq_nil ?_
  exact j8 _ _ h (wi rfl rfl)
 replace h := cneg e10 h
 refine ht_exit ?_
 refine tq ?_
 refine tq ?_
 refine bq_hit ?_
 cases h
 exact j5 _ _ rfl (wi rfl rfl)
theorem s55 (k : Nat) (t0 : ByteArray) (t1 : ByteArray) (t2 : ByteArray) (r : Bool) (h : F55 k t0 t1 t2 = some r) : Awp.Spec Tryz.prog amb 55 [(.s (.string t0)), (.s (.string t1)), (.s (.string t2))] (.ds [(.s (.bool r))]) := by
 rw [F55] at h
 refine spec_of Tryz.func55 rfl (ble _ _ rfl) fun w0 ok0 lt0 hA => ?_
 refine sr ?_
 refine sM 6 (bV false) rfl rfl ?_
 refine sq_nil ?_
 refine sr ?_
 refine sM 7 (sV t0) rfl rfl ?_
 refine sM 8 (sV t1) rfl rfl ?_
 obtain ⟨t9, c1, h⟩ := bpos h
 refine sC 9 (iV t9) (s119 k t0 t1 _ c1) en119 rfl rfl rfl rfl ?_
 refine sT 10 (bV (leI 0 t9)) rfl (vb rfl rfl rfl (b_geq rfl)) ?_
 refine sM 11 (bV (leI 0 t9)) rfl rfl ?_
 refine sG 12 (sV t2) rfl rfl (fun e2 => (vm rfl rfl)) ?_
 refine sG 13 (iV (t2.size : Int)) rfl rfl (fun e3 => (v_len_str rfl rfl · · · und9 (gv e3))) ?_
 refine sG 14 (bV (eqI (t2.size : Int) 0)) rfl rfl (fun e4 => (vb rfl (gv e4) rfl (b_eql rfl))) ?_
 refine sG 15 (bV (eqI (t2.size : Int) 0)) rfl rfl (fun e5 => (vm rfl (gv e5))) ?_
 refine sH 16 (sV t0) rfl rfl (fun e6 e7 => (vm rfl rfl)) ?_
 refine sH 17 (sV t2) rfl rfl (fun e8 e9 => (vm rfl rfl)) ?_
 obtain ⟨t18, c12, h⟩ := bpos h
 refine sH 18 (iV t18) rfl rfl (fun e10 e11 => (vC (s119 k t0 t2 _ (cpos (aT e10 (nF e11)) c12)) en119 · · · rfl (cc (gv (aT e10 (nF e11))) (cc (gv (aT e10 (nF e11))) rfl)) rfl)) ?_
 refine sH 19 (bV (ltI t18 0)) rfl rfl (fun e13 e14 => (vb rfl (gv (aT e13 (nF e14))) rfl (b_lss rfl))) ?_
 refine sG 20 (bV ((eqI (t2.size : Int) 0) || (ltI t18 0))) rfl rfl (fun e15 => (vp rfl (gv e15) (fun e16 => rfl) (fun e17 => (gv (aT e15 (nF e17)))) (pO _ _))) ?_
 refine sT 21 (bV ((leI 0 t9) && ((eqI (t2.size : Int) 0) || (ltI t18 0)))) rfl (vp rfl rfl (fun e18 => (gv e18)) (fun e19 => rfl) (pA _ _)) ?_
 refine sM 6 (bV ((leI 0 t9) && ((eqI (t2.size : Int) 0) || (ltI t18 0)))) rfl rfl ?_
 refine sz ?_
 cases h
 exact ret1 rfl (.tmp rfl)
theorem s88 (k : Nat) (t0 : Span) (t1 : ByteArray) (r : Bool) (h : F88 k t0 t1 = some r) : Awp.Spec Tryz.prog amb 88 [(.agg (eSpan t0)), (.s (.string t1))] (.ds [(.s (.bool r))]) := by
 rw [F88] at h
 refine spec_of Tryz.func88 rfl (ble _ _ rfl) fun w0 ok0 lt0 hA => ?_
 refine sr ?_
 refine sT 2 (.d (.dp (eSpan t0))) rfl (v_box_d (cs := (eSpan t0)) rfl · · · rfl rfl (ones_of rfl)) ?_
 refine sM 4 (bV false) rfl rfl ?_
 refine sq_nil ?_
 refine sr ?_
 refine sP 5 (eSpan t0) (eSpan t0) ag41 rfl rfl rfl rfl rfl ?_
 obtain ⟨t6, c1, h⟩ := bpos h
 refine sC 6 (bV t6) (s85 k t0 _ c1) en85 rfl rfl rfl rfl ?_
 refine sM 7 (bV t6) rfl rfl ?_
 refine sG 8 (sV t1) rfl rfl (fun e2 => (vm rfl rfl)) ?_
 obtain ⟨t9, c4, h⟩ := bpos h
 refine sG 9 (bV t9) rfl rfl (fun e3 => (vC (s130 k t1 _ (cpos e3 c4)) en130 · · · rfl (cc (gv e3) rfl) rfl)) ?_
 refine sT 10 (bV (t6 && t9)) rfl (vp rfl rfl (fun e5 => (gv e5)) (fun e6 => rfl) (pA _ _)) ?_
 refine sM 11 (bV (t6 && t9)) rfl rfl ?_
 refine sG 12 (sV t1) rfl rfl (fun e7 => (vm rfl rfl)) ?_
 refine sG 13 (.d (.dp (eSpan t0))) rfl rfl (fun e8 => (vD (eSpan t0) fo41_0 · · · rfl rfl)) ?_
 refine sG 14 (sV t0.mLo) rfl rfl (fun e9 => (vl rfl onT9 (gv e9) rfl)) ?_
 refine sG 15 (.d (.dp (List.drop 1 (eSpan t0)))) rfl rfl (fun e10 => (vD (eSpan t0) fo41_1 · · · rfl rfl)) ?_
 refine sG 16 (sV t0.mHi) rfl rfl (fun e11 => (vl rfl onT9 (gv e11) rfl)) ?_
 obtain ⟨t17, c13, h⟩ := bpos h
 refine sG 17 (bV t17) rfl rfl (fun e12 => (vC (s55 k t1 t0.mLo t0.mHi _ (cpos e12 c13)) en55 · · · rfl (cc (gv e12) (cc (gv e12) (cc (gv e12) rfl))) rfl)) ?_
 refine sT 18 (bV ((t6 && t9) && t17)) rfl (vp rfl rfl (fun e14 => (gv e14)) (fun e15 => rfl) (pA _ _)) ?_
 refine sM 4 (bV ((t6 && t9) && t17)) rfl rfl ?_
 refine sz ?_
 cases h
 exact ret1 rfl (.tmp rfl)
theorem s21 (k : Nat) (t0 : Shard) (r : Bool) (h : F21 k t0 = some r) : Awp.Spec Tryz.prog amb 21 [(.agg (eShard t0))] (.ds [(.s (.bool r))]) := by
 rw [F21] at h
 refine spec_of Tryz.func21 rfl (ble _ _ rfl) fun w0 ok0 lt0 hA => ?_
 refine sr ?_
 refine sT 1 (.d (.dp (eShard t0))) rfl (v_box_d (cs := (eShard t0)) rfl · · · rfl rfl (ones_of rfl)) ?_
 refine sM 2 (bV false) rfl rfl ?_
 refine sq_nil ?_
 refine ht_seq ?_
 refine sr ?_
 refine sD 4 (eShard t0) fo45_0 rfl rfl rfl ?_
 refine sT 5 (iV t0.mID) rfl (vl rfl onT3 rfl rfl) ?_
 obtain ⟨t6, c1, h⟩ := bpos h
 refine sC 6 (bV t6) (s66 k t0.mID _ c1) en66 rfl rfl rfl rfl ?_
 refine sT 7 (bV (!t6)) rfl (vu rfl rfl (u_not rfl)) ?_
 refine sM 8 (bV (!t6)) rfl rfl ?_
 refine sF 9 (.d (.dp (List.drop 1 (eShard t0)))) rfl rfl (fun e2 => (vD (eShard t0) fo45_1 · · · rfl rfl)) ?_
 refine sF 10 (iV t0.mEpoch) rfl rfl (fun e3 => (vl rfl onT3 (gv (nF e3)) rfl)) ?_
 obtain ⟨t11, c5, h⟩ := bpos h
 refine sF 11 (bV t11) rfl rfl (fun e4 => (vC (s66 k t0.mEpoch _ (cpos (nF e4) c5)) en66 · · · rfl (cc (gv (nF e4)) rfl) rfl)) ?_
 refine sF 12 (bV (!t11)) rfl rfl (fun e6 => (vu rfl (gv (nF e6)) (u_not rfl))) ?_
 refine sT 13 (bV ((!t6) || (!t11))) rfl (vp rfl rfl (fun e7 => rfl) (fun e8 => (gv (nF e8))) (pO _ _)) ?_
 refine sM 14 (bV ((!t6) || (!t11))) rfl rfl ?_
 refine sF 15 (.d (.dp (List.drop 13 (eShard t0)))) rfl rfl (fun e9 => (vD (eShard t0) fo45_8 · · · rfl rfl)) ?_
 refine sF 16 (iV t0.mHold) rfl rfl (fun e10 => (vl rfl onT3 (gv (nF e10)) rfl)) ?_
 obtain ⟨t17, c12, h⟩ := bpos h
 refine sF 17 (bV t17) rfl rfl (fun e11 => (vC (s67 k t0.mHold _ (cpos (nF e11) c12)) en67 · · · rfl (cc (gv (nF e11)) rfl) rfl)) ?_
 refine sF 18 (bV (!t17)) rfl rfl (fun e13 => (vu rfl (gv (nF e13)) (u_not rfl))) ?_
 refine sT 19 (bV (((!t6) || (!t11)) || (!t17))) rfl (vp rfl rfl (fun e14 => rfl) (fun e15 => (gv (nF e15))) (pO _ _)) ?_
 refine sM 20 (bV (((!t6) || (!t11)) || (!t17))) rfl rfl ?_
 refine sF 21 (.d (.dp (List.drop 14 (eShard t0)))) rfl rfl (fun e16 => (vD (eShard t0) fo45_9 · · · rfl rfl)) ?_
 refine sF 22 (iV t0.mSeen) rfl rfl (fun e17 => (vl rfl onT3 (gv (nF e17)) rfl)) ?_
 obtain ⟨t23, c19, h⟩ := bpos h
 refine sF 23 (bV t23) rfl rfl (fun e18 => (vC (s67 k t0.mSeen _ (cpos (nF e18) c19)) en67 · · · rfl (cc (gv (nF e18)) rfl) rfl)) ?_
 refine sF 24 (bV (!t23)) rfl rfl (fun e20 => (vu rfl (gv (nF e20)) (u_not rfl))) ?_
 refine sT 25 (bV ((((!t6) || (!t11)) || (!t17)) || (!t23))) rfl (vp rfl rfl (fun e21 => rfl) (fun e22 => (gv (nF e22))) (pO _ _)) ?_
 refine sM 26 (bV ((((!t6) || (!t11)) || (!t17)) || (!t23))) rfl rfl ?_
 refine sF 27 (.d (.dp (List.drop 15 (eShard t0)))) rfl rfl (fun e23 => (vD (eShard t0) fo45_10 · · · rfl rfl)) ?_
 refine sF 28 (iV t0.mMove) rfl rfl (fun e24 => (vl rfl onT3 (gv (nF e24)) rfl)) ?_
 obtain ⟨t29, c26, h⟩ := bpos h
 refine sF 29 (bV t29) rfl rfl (fun e25 => (vC (s67 k t0.mMove _ (cpos (nF e25) c26)) en67 · · · rfl (cc (gv (nF e25)) rfl) rfl)) ?_
 refine sF 30 (bV (!t29)) rfl rfl (fun e27 => (vu rfl (gv (nF e27)) (u_not rfl))) ?_
 refine sT 31 (bV (((((!t6) || (!t11)) || (!t17)) || (!t23)) || (!t29))) rfl (vp rfl rfl (fun e28 => rfl) (fun e29 => (gv (nF e29))) (pO _ _)) ?_
 refine sM 32 (bV (((((!t6) || (!t11)) || (!t17)) || (!t23)) || (!t29))) rfl rfl ?_
 refine sF 33 (.d (.dp (List.drop 16 (eShard t0)))) rfl rfl (fun e30 => (vD (eShard t0) fo45_11 · · · rfl rfl)) ?_
 refine sF 34 (iV t0.mClosed) rfl rfl (fun e31 => (vl rfl onT3 (gv (nF e31)) rfl)) ?_
 obtain ⟨t35, c33, h⟩ := bpos h
 refine sF 35 (bV t35) rfl rfl (fun e32 => (vC (s67 k t0.mClosed _ (cpos (nF e32) c33)) en67 · · · rfl (cc (gv (nF e32)) rfl) rfl)) ?_
 refine sF 36 (bV (!t35)) rfl rfl (fun e34 => (vu rfl (gv (nF e34)) (u_not rfl))) ?_
 refine sT 37 (bV ((((((!t6) || (!t11)) || (!t17)) || (!t23)) || (!t29)) || (!t35))) rfl (vp rfl rfl (fun e35 => rfl) (fun e36 => (gv (nF e36))) (pO _ _)) ?_
 refine sq_nil ?_
 refine ht_cond rfl (fun e37 => ?_) (fun e37 => ?_)
 ·replace h := cpos e37 h
  refine sr ?_
  refine sM 2 (bV false) rfl rfl ?_
  refine sz ?_
  cases h
  exact ret1 rfl (.tmp rfl)
 replace h := cneg e37 h
 refine ht_skip ?_
 refine ht_seq ?_
 refine sr ?_
 refine sD 38 (eShard t0) fo45_3 rfl rfl rfl ?_
 refine sT 39 (iV t0.mPhase) rfl (vl rfl onT3 rfl rfl) ?_
 refine sT 40 (bV (!eqI t0.mPhase 1)) rfl (vb rfl rfl rfl (b_neq rfl)) ?_
 refine sM 41 (bV (!eqI t0.mPhase 1)) rfl rfl ?_
 refine sG 42 (.d (.dp (List.drop 4 (eShard t0)))) rfl rfl (fun e38 => (vD (eShard t0) fo45_3 · · · rfl rfl)) ?_
 refine sG 43 (iV t0.mPhase) rfl rfl (fun e39 => (vl rfl onT3 (gv e39) rfl)) ?_
 refine sG 44 (bV (!eqI t0.mPhase 2)) rfl rfl (fun e40 => (vb rfl (gv e40) rfl (b_neq rfl))) ?_
 refine sT 45 (bV ((!eqI t0.mPhase 1) && (!eqI t0.mPhase 2))) rfl (vp rfl rfl (fun e41 => (gv e41)) (fun e42 => rfl) (pA _ _)) ?_
 refine sM 46 (bV ((!eqI t0.mPhase 1) && (!eqI t0.mPhase 2))) rfl rfl ?_
 refine sG 47 (.d (.dp (List.drop 4 (eShard t0)))) rfl rfl (fun e43 => (vD (eShard t0) fo45_3 · · · rfl rfl)) ?_
 refine sG 48 (iV t0.mPhase) rfl rfl (fun e44 => (vl rfl onT3 (gv e44) rfl)) ?_
 refine sG 49 (bV (!eqI t0.mPhase 3)) rfl rfl (fun e45 => (vb rfl (gv e45) rfl (b_neq rfl))) ?_
 refine sT 50 (bV (((!eqI t0.mPhase 1) && (!eqI t0.mPhase 2)) && (!eqI t0.mPhase 3))) rfl (vp rfl rfl (fun e46 => (gv e46)) (fun e47 => rfl) (pA _ _)) ?_
 refine sM 51 (bV (((!eqI t0.mPhase 1) && (!eqI t0.mPhase 2)) && (!eqI t0.mPhase 3))) rfl rfl ?_
 refine sF 52 (.d (.dp (List.drop 2 (eShard t0)))) rfl rfl (fun e48 => (vD (eShard t0) fo45_2 · · · rfl rfl)) ?_
 refine sF 53 (.d (.agg (eSpan t0.mSpan))) rfl rfl (fun e49 => (w_ldp (List.drop 2 (eShard t0)) (eSpan t0.mSpan) rfl · · · ag41 (gv (nF e49)) (ble _ _ rfl) rfl)) ?_
 obtain ⟨t54, c51, h⟩ := bpos h
 refine sF 54 (bV t54) rfl rfl (fun e50 => (vC (s85 k t0.mSpan _ (cpos (nF e50) c51)) en85 · · · rfl (cc (gv (nF e50)) rfl) rfl)) ?_
 refine sF 55 (bV (!t54)) rfl rfl (fun e52 => (vu rfl (gv (nF e52)) (u_not rfl))) ?_
 refine sT 56 (bV ((((!eqI t0.mPhase 1) && (!eqI t0.mPhase 2)) && (!eqI t0.mPhase 3)) || (!t54))) rfl (vp rfl rfl (fun e53 => rfl) (fun e54 => (gv (nF e54))) (pO _ _)) ?_
 refine sM 57 (bV ((((!eqI t0.mPhase 1) && (!eqI t0.mPhase 2)) && (!eqI t0.mPhase 3)) || (!t54))) rfl rfl ?_
 refine sF 58 (.d (.dp (List.drop 5 (eShard t0)))) rfl rfl (fun e55 => (vD (eShard t0) fo45_4 · · · rfl rfl)) ?_
 refine sF 59 (.d (.sl 2 (t0.mEntries.map eEntry))) rfl rfl (fun e56 => (vl rfl onT42 (gv (nF e56)) rfl)) ?_
 obtain ⟨t60, c58, h⟩ := bpos h
 refine sF 60 (bV t60) rfl rfl (fun e57 => (vC (s86 k t0.mEntries _ (cpos (nF e57) c58)) en86 · · · rfl (cc (gv (nF e57)) rfl) rfl)) ?_
 refine sF 61 (bV (!t60)) rfl rfl (fun e59 => (vu rfl (gv (nF e59)) (u_not rfl))) ?_
 refine sT 62 (bV (((((!eqI t0.mPhase 1) && (!eqI t0.mPhase 2)) && (!eqI t0.mPhase 3)) || (!t54)) || (!t60))) rfl (vp rfl rfl (fun e60 => rfl) (fun e61 => (gv (nF e61))) (pO _ _)) ?_
 refine sM 63 (bV (((((!eqI t0.mPhase 1) && (!eqI t0.mPhase 2)) && (!eqI t0.mPhase 3)) || (!t54)) || (!t60))) rfl rfl ?_
 refine sF 64 (.d (.dp (List.drop 6 (eShard t0)))) rfl rfl (fun e62 => (vD (eShard t0) fo45_5 · · · rfl rfl)) ?_
 refine sF 65 (.d (.agg (eStamp t0.mMark))) rfl rfl (fun e63 => (w_ldp (List.drop 6 (eShard t0)) (eStamp t0.mMark) rfl · · · ag24 (gv (nF e63)) (ble _ _ rfl) rfl)) ?_
 obtain ⟨t66, c65, h⟩ := bpos h
 refine sF 66 (bV t66) rfl rfl (fun e64 => (vC (s68 k t0.mMark _ (cpos (nF e64) c65)) en68 · · · rfl (cc (gv (nF e64)) rfl) rfl)) ?_
 refine sF 67 (bV (!t66)) rfl rfl (fun e66 => (vu rfl (gv (nF e66)) (u_not rfl))) ?_
 refine sT 68 (bV ((((((!eqI t0.mPhase 1) && (!eqI t0.mPhase 2)) && (!eqI t0.mPhase 3)) || (!t54)) || (!t60)) || (!t66))) rfl (vp rfl rfl (fun e67 => rfl) (fun e68 => (gv (nF e68))) (pO _ _)) ?_
 refine sM 69 (bV ((((((!eqI t0.mPhase 1) && (!eqI t0.mPhase 2)) && (!eqI t0.mPhase 3)) || (!t54)) || (!t60)) || (!t66))) rfl rfl ?_
 refine sF 70 (.d (.dp (List.drop 9 (eShard t0)))) rfl rfl (fun e69 => (vD (eShard t0) fo45_6 · · · rfl rfl)) ?_
 refine sF 71 (.d (.agg (eStamp t0.mTop))) rfl rfl (fun e70 => (w_ldp (List.drop 9 (eShard t0)) (eStamp t0.mTop) rfl · · · ag24 (gv (nF e70)) (ble _ _ rfl) rfl)) ?_
 obtain ⟨t72, c72, h⟩ := bpos h
 refine sF 72 (bV t72) rfl rfl (fun e71 => (vC (s68 k t0.mTop _ (cpos (nF e71) c72)) en68 · · · rfl (cc (gv (nF e71)) rfl) rfl)) ?_
 refine sF 73 (bV (!t72)) rfl rfl (fun e73 => (vu rfl (gv (nF e73)) (u_not rfl))) ?_
 refine sT 74 (bV (((((((!eqI t0.mPhase 1) && (!eqI t0.mPhase 2)) && (!eqI t0.mPhase 3)) || (!t54)) || (!t60)) || (!t66)) || (!t72))) rfl (vp rfl rfl (fun e74 => rfl) (fun e75 => (gv (nF e75))) (pO _ _)) ?_
 refine sM 75 (bV (((((((!eqI t0.mPhase 1) && (!eqI t0.mPhase 2)) && (!eqI t0.mPhase 3)) || (!t54)) || (!t60)) || (!t66)) || (!t72))) rfl rfl ?_
 refine sF 76 (.d (.dp (List.drop 12 (eShard t0)))) rfl rfl (fun e76 => (vD (eShard t0) fo45_7 · · · rfl rfl)) ?_
 refine sF 77 (.d (.sl 11 (t0.mDone.map eDone))) rfl rfl (fun e77 => (vl rfl onT43 (gv (nF e77)) rfl)) ?_
 obtain ⟨t78, c79, h⟩ := bpos h
 refine sF 78 (bV t78) rfl rfl (fun e78 => (vC (s87 k t0.mDone _ (cpos (nF e78) c79)) en87 · · · rfl (cc (gv (nF e78)) rfl) rfl)) ?_
 refine sF 79 (bV (!t78)) rfl rfl (fun e80 => (vu rfl (gv (nF e80)) (u_not rfl))) ?_
 refine sT 80 (bV ((((((((!eqI t0.mPhase 1) && (!eqI t0.mPhase 2)) && (!eqI t0.mPhase 3)) || (!t54)) || (!t60)) || (!t66)) || (!t72)) || (!t78))) rfl (vp rfl rfl (fun e81 => rfl) (fun e82 => (gv (nF e82))) (pO _ _)) ?_
 refine sq_nil ?_
 refine ht_cond rfl (fun e83 => ?_) (fun e83 => ?_)
 ·replace h := cpos e83 h
  refine sr ?_
  refine sM 2 (bV false) rfl rfl ?_
  refine sz ?_
  cases h
  exact ret1 rfl (.tmp rfl)
 replace h := cneg e83 h
 refine ht_skip ?_
 refine ht_gj (go_id' h) (fun _ => tell []) (fun _ h => ?_) (fun v84 K85 h j87 r88 => ?_)
 ·refine sr ?_
  refine sM 2 (bV true) rfl rfl ?_
  refine sz ?_
  cases h
  exact ret1 rfl (.tmp rfl)
 refine sr ?_
 refine sM 3 (iV 0) rfl rfl ?_
 refine sq_nil ?_
 refine ht_block ?_
 refine ht_rd h (fun _ => rfl) (fun t3 => tell [(.t 1, .d (.dp (eShard t0))), (.t 3, iV t3)]) (wi rfl rfl) fun k t3 h K96 j90 => ?_
 rw [F21_l1] at h
 refine ht_seq ?_
 refine sr ?_
 refine sM 81 (iV t3) rfl rfl ?_
 refine sD 82 (eShard t0) fo45_4 rfl rfl rfl ?_
 refine sT 83 (.d (.sl 2 (t0.mEntries.map eEntry))) rfl (vl rfl onT42 rfl rfl) ?_
 refine sT 84 (iV (t0.mEntries.length : Int)) rfl (w_len t0.mEntries eEntry rfl rfl · · · slT42 rfl) ?_
 refine sT 85 (bV (ltI t3 (t0.mEntries.length : Int))) rfl (vb rfl rfl rfl (b_lss rfl)) ?_
 refine sq_nil ?_
 refine ht_cond rfl (fun e92 => ?_) (fun e92 => ?_)
 ·replace h := cpos e92 h
  refine ht_skip ?_
  refine ht_seq ?_
  refine ht_block ?_
  refine ht_seq ?_
  refine ht_region_draw mixed ?_
  refine rD 88 (eShard t0) fo45_2 rfl rfl rfl ?_
  refine rP 89 (List.drop 2 (eShard t0)) (eSpan t0.mSpan) ag41 rfl rfl rfl rfl rfl ?_
  refine rD 90 (eShard t0) fo45_4 rfl rfl rfl ?_
  refine rT 91 (.d (.sl 2 (t0.mEntries.map eEntry))) rfl (vl rfl onT42 rfl rfl) ?_
  refine rM 92 (iV t3) rfl rfl ?_
  obtain ⟨e93, h⟩ := gpos h
  refine rT 93 (.d (.dp (eEntry (rd t0.mEntries t3)))) rfl (w_idx t0.mEntries eEntry rfl · · · slT42 rfl rfl e93) ?_
  refine rD 94 (eEntry (rd t0.mEntries t3)) fo116_0 rfl rfl rfl ?_
  refine rT 95 (sV (rd t0.mEntries t3).mKey) rfl (vl rfl onT9 rfl rfl) ?_
  obtain ⟨t96, c94, h⟩ := bpos h
  refine rC 96 (bV t96) (s88 k t0.mSpan (rd t0.mEntries t3).mKey _ c94) en88 rfl rfl rfl rfl ?_
  refine rT 97 (bV (!t96)) rfl (vu rfl rfl (u_not rfl)) ?_
  refine rg_nil ⟨by kernel_rfl, ?_⟩
  refine ht_cond rfl (fun e95 => ?_) (fun e95 => ?_)
  ·replace h := cpos e95 h
   refine sr ?_
   refine sM 2 (bV false) rfl rfl ?_
   refine sz ?_
   cases h
   cases r88 _ rfl
   exact ret1 rfl (.tmp rfl)
  replace h := cneg e95 h
  refine ht_skip ?_
  refine ht_region ?_
  refine sM 86 (iV t3) rfl rfl ?_
  refine sT 87 (iV (IntKind.wrap .i64 (t3 + 1))) rfl (vb rfl rfl rfl (b_add rfl)) ?_
  refine sM 3 (iV (IntKind.wrap .i64 (t3 + 1))) rfl rfl ?_
  refine sq_nil ?_
  exact j90 _ _ h (wi rfl rfl)
 replace h := cneg e92 h
 refine ht_exit ?_
 refine tq ?_
 refine tq ?_
 refine bq_hit ?_
 cases h
 exact j87 _ _ rfl (wi rfl rfl)
theorem s89 (k : Nat) (t0 : Shard) (t1 : Stamp) (r : Bool) (h : F89 k t0 t1 = some r) : Awp.Spec Tryz.prog amb 89 [(.agg (eShard t0)), (.agg (eStamp t1))] (.ds [(.s (.bool r))]) := by
 rw [F89] at h
 refine spec_of Tryz.func89 rfl (ble _ _ rfl) fun w0 ok0 lt0 hA => ?_
 refine sr ?_
 refine sT 2 (.d (.dp (eShard t0))) rfl (v_box_d (cs := (eShard t0)) rfl · · · rfl rfl (ones_of rfl)) ?_
 refine sT 3 (.d (.dp (eStamp t1))) rfl (v_box_d (cs := (eStamp t1)) rfl · · · rfl rfl (ones_of rfl)) ?_
 refine sM 4 (bV false) rfl rfl ?_
 refine sq_nil ?_
 refine ht_gj (go_id' h) (fun _ => tell []) (fun _ h => ?_) (fun v1 K2 h j4 r5 => ?_)
 ·refine sr ?_
  refine sM 4 (bV true) rfl rfl ?_
  refine sz ?_
  cases h
  exact ret1 rfl (.tmp rfl)
 refine sr ?_
 refine sM 5 (iV 0) rfl rfl ?_
 refine sq_nil ?_
 refine ht_block ?_
 refine ht_rd h (fun _ => rfl) (fun t5 => tell [(.t 2, .d (.dp (eShard t0))), (.t 3, .d (.dp (eStamp t1))), (.t 5, iV t5)]) (wi rfl rfl) fun k t5 h K25 j7 => ?_
 rw [F89_l1] at h
 refine ht_seq ?_
 refine sr ?_
 refine sM 7 (iV t5) rfl rfl ?_
 refine sD 8 (eShard t0) fo45_4 rfl rfl rfl ?_
 refine sT 9 (.d (.sl 2 (t0.mEntries.map eEntry))) rfl (vl rfl onT42 rfl rfl) ?_
 refine sT 10 (iV (t0.mEntries.length : Int)) rfl (w_len t0.mEntries eEntry rfl rfl · · · slT42 rfl) ?_
 refine sT 11 (bV (ltI t5 (t0.mEntries.length : Int))) rfl (vb rfl rfl rfl (b_lss rfl)) ?_
 refine sq_nil ?_
 refine ht_cond rfl (fun e9 => ?_) (fun e9 => ?_)
 ·replace h := cpos e9 h
  refine ht_skip ?_
  refine ht_gj h (fun _ => tell [(.t 2, .d (.dp (eShard t0))), (.t 3, .d (.dp (eStamp t1))), (.t 5, iV t5)]) (fun _ h => ?_) (fun v10 K11 h j13 r14 => ?_)
  ·refine ht_region ?_
   refine sM 12 (iV t5) rfl rfl ?_
   refine sT 13 (iV (IntKind.wrap .i64 (t5 + 1))) rfl (vb rfl rfl rfl (b_add rfl)) ?_
   refine sM 5 (iV (IntKind.wrap .i64 (t5 + 1))) rfl rfl ?_
   refine sq_nil ?_
   exact j7 _ _ h (wi rfl rfl)
  refine ht_block ?_
  refine sr ?_
  refine sM 6 (iV 0) rfl rfl ?_
  refine sq_nil ?_
  refine ht_block ?_
  refine ht_rd h (fun _ => rfl) (fun t6 => tell [(.t 2, .d (.dp (eShard t0))), (.t 3, .d (.dp (eStamp t1))), (.t 5, iV t5), (.t 6, iV t6)]) (wi rfl rfl) fun k t6 h K24 j16 => ?_
  rw [F89_l2] at h
  refine ht_seq ?_
  refine sr ?_
  refine sM 14 (iV t6) rfl rfl ?_
  refine sD 15 (eShard t0) fo45_4 rfl rfl rfl ?_
  refine sT 16 (.d (.sl 2 (t0.mEntries.map eEntry))) rfl (vl rfl onT42 rfl rfl) ?_
  refine sM 17 (iV t5) rfl rfl ?_
  obtain ⟨e18, h⟩ := gpos h
  refine sT 18 (.d (.dp (eEntry (rd t0.mEntries t5)))) rfl (w_idx t0.mEntries eEntry rfl · · · slT42 rfl rfl e18) ?_
  refine sD 19 (eEntry (rd t0.mEntries t5)) fo116_1 rfl rfl rfl ?_
  refine sT 20 (.d (.sl 5 ((rd t0.mEntries t5).mChain.map eVersion))) rfl (vl rfl onT96 rfl rfl) ?_
  refine sT 21 (iV ((rd t0.mEntries t5).mChain.length : Int)) rfl (w_len (rd t0.mEntries t5).mChain eVersion rfl rfl · · · slT96 rfl) ?_
  refine sT 22 (bV (ltI t6 ((rd t0.mEntries t5).mChain.length : Int))) rfl (vb rfl rfl rfl (b_lss rfl)) ?_
  refine sq_nil ?_
  refine ht_cond rfl (fun e19 => ?_) (fun e19 => ?_)
  ·replace h := cpos e19 h
   refine ht_skip ?_
   refine ht_seq ?_
   refine ht_block ?_
   refine ht_seq ?_
   refine ht_region_draw mixed ?_
   refine rP 25 (eStamp t1) (eStamp t1) ag24 rfl rfl rfl rfl rfl ?_
   refine rD 26 (eShard t0) fo45_4 rfl rfl rfl ?_
   refine rT 27 (.d (.sl 2 (t0.mEntries.map eEntry))) rfl (vl rfl onT42 rfl rfl) ?_
   refine rM 28 (iV t5) rfl rfl ?_
   obtain ⟨e20, h⟩ := gpos h
   refine rT 29 (.d (.dp (eEntry (rd t0.mEntries t5)))) rfl (w_idx t0.mEntries eEntry rfl · · · slT42 rfl rfl e20) ?_
   refine rD 30 (eEntry (rd t0.mEntries t5)) fo116_1 rfl rfl rfl ?_
   refine rT 31 (.d (.sl 5 ((rd t0.mEntries t5).mChain.map eVersion))) rfl (vl rfl onT96 rfl rfl) ?_
   refine rM 32 (iV t6) rfl rfl ?_
   obtain ⟨e21, h⟩ := gpos h
   refine rT 33 (.d (.dp (eVersion (rd (rd t0.mEntries t5).mChain t6)))) rfl (w_idx (rd t0.mEntries t5).mChain eVersion rfl · · · slT96 rfl rfl e21) ?_
   refine rD 34 (eVersion (rd (rd t0.mEntries t5).mChain t6)) fo93_0 rfl rfl rfl ?_
   refine rP 35 (eVersion (rd (rd t0.mEntries t5).mChain t6)) (eStamp (rd (rd t0.mEntries t5).mChain t6).mAt) ag24 rfl rfl rfl rfl rfl ?_
   obtain ⟨t36, c22, h⟩ := bpos h
   refine rC 36 (bV t36) (s76 k t1 (rd (rd t0.mEntries t5).mChain t6).mAt _ c22) en76 rfl rfl rfl rfl ?_
   refine rg_nil ⟨by kernel_rfl, ?_⟩
   refine ht_cond rfl (fun e23 => ?_) (fun e23 => ?_)
   ·replace h := cpos e23 h
    refine sr ?_
    refine sM 4 (bV false) rfl rfl ?_
    refine sz ?_
    cases h
    cases r14 _ rfl
    cases r5 _ rfl
    exact ret1 rfl (.tmp rfl)
   replace h := cneg e23 h
   refine ht_skip ?_
   refine ht_region ?_
   refine sM 23 (iV t6) rfl rfl ?_
   refine sT 24 (iV (IntKind.wrap .i64 (t6 + 1))) rfl (vb rfl rfl rfl (b_add rfl)) ?_
   refine sM 6 (iV (IntKind.wrap .i64 (t6 + 1))) rfl rfl ?_
   refine sq_nil ?_
   exact j16 _ _ h (wi rfl rfl)
  replace h := cneg e19 h
  refine ht_exit ?_
  refine tq ?_
  refine tq ?_
  refine bq_hit ?_
  cases h
  exact j13 _ _ rfl (wi rfl rfl)
 replace h := cneg e9 h
 refine ht_exit ?_
 refine tq ?_
 refine tq ?_
 refine bq_hit ?_
 cases h
 exact j4 _ _ rfl (wi rfl rfl)
theorem s22 (k : Nat) (t0 : Cell) (r : Bool) (h : F22 k t0 = some r) : Awp.Spec Tryz.prog amb 22 [(.agg (eCell t0))] (.ds [(.s (.bool r))]) := by
 rw [F22] at h
 refine spec_of Tryz.func22 rfl (ble _ _ rfl) fun w0 ok0 lt0 hA => ?_
 refine sr ?_
 refine sT 1 (.d (.dp (eCell t0))) rfl (v_box_d (cs := (eCell t0)) rfl · · · rfl rfl (ones_of rfl)) ?_
 refine sM 2 (bV false) rfl rfl ?_
 refine sq_nil ?_
 refine ht_seq ?_
 refine sr ?_
 refine sD 4 (eCell t0) fo26_0 rfl rfl rfl ?_
 refine sT 5 (.d (.sl 17 (t0.mShards.map eShard))) rfl (vl rfl onT22 rfl rfl) ?_
 refine sT 6 (iV (t0.mShards.length : Int)) rfl (w_len t0.mShards eShard rfl rfl · · · slT22 rfl) ?_
 refine sT 7 (bV (ltI 8 (t0.mShards.length : Int))) rfl (vb rfl rfl rfl (b_gtr rfl)) ?_
 refine sM 8 (bV (ltI 8 (t0.mShards.length : Int))) rfl rfl ?_
 refine sF 9 (.d (.dp (List.drop 1 (eCell t0)))) rfl rfl (fun e1 => (vD (eCell t0) fo26_1 · · · rfl rfl)) ?_
 refine sF 10 (.d (.agg (eStamp t0.mTop))) rfl rfl (fun e2 => (w_ldp (List.drop 1 (eCell t0)) (eStamp t0.mTop) rfl · · · ag24 (gv (nF e2)) (ble _ _ rfl) rfl)) ?_
 obtain ⟨t11, c4, h⟩ := bpos h
 refine sF 11 (bV t11) rfl rfl (fun e3 => (vC (s68 k t0.mTop _ (cpos (nF e3) c4)) en68 · · · rfl (cc (gv (nF e3)) rfl) rfl)) ?_
 refine sF 12 (bV (!t11)) rfl rfl (fun e5 => (vu rfl (gv (nF e5)) (u_not rfl))) ?_
 refine sT 13 (bV ((ltI 8 (t0.mShards.length : Int)) || (!t11))) rfl (vp rfl rfl (fun e6 => rfl) (fun e7 => (gv (nF e7))) (pO _ _)) ?_
 refine sM 14 (bV ((ltI 8 (t0.mShards.length : Int)) || (!t11))) rfl rfl ?_
 refine sF 15 (.d (.dp (List.drop 4 (eCell t0)))) rfl rfl (fun e8 => (vD (eCell t0) fo26_2 · · · rfl rfl)) ?_
 refine sF 16 (iV t0.mDropped) rfl rfl (fun e9 => (vl rfl onT3 (gv (nF e9)) rfl)) ?_
 obtain ⟨t17, c11, h⟩ := bpos h
 refine sF 17 (bV t17) rfl rfl (fun e10 => (vC (s67 k t0.mDropped _ (cpos (nF e10) c11)) en67 · · · rfl (cc (gv (nF e10)) rfl) rfl)) ?_
 refine sF 18 (bV (!t17)) rfl rfl (fun e12 => (vu rfl (gv (nF e12)) (u_not rfl))) ?_
 refine sT 19 (bV (((ltI 8 (t0.mShards.length : Int)) || (!t11)) || (!t17))) rfl (vp rfl rfl (fun e13 => rfl) (fun e14 => (gv (nF e14))) (pO _ _)) ?_
 refine sq_nil ?_
 refine ht_cond rfl (fun e15 => ?_) (fun e15 => ?_)
 ·replace h := cpos e15 h
  refine sr ?_
  refine sM 2 (bV false) rfl rfl ?_
  refine sz ?_
  cases h
  exact ret1 rfl (.tmp rfl)
 replace h := cneg e15 h
 refine ht_skip ?_
 refine ht_gj (go_id' h) (fun _ => tell []) (fun _ h => ?_) (fun v16 K17 h j19 r20 => ?_)
 ·refine sr ?_
  refine sM 2 (bV true) rfl rfl ?_
  refine sz ?_
  cases h
  exact ret1 rfl (.tmp rfl)
 refine sr ?_
 refine sM 3 (iV 0) rfl rfl ?_
 refine sq_nil ?_
 refine ht_block ?_
 refine ht_rd h (fun _ => rfl) (fun t3 => tell [(.t 1, .d (.dp (eCell t0))), (.t 3, iV t3)]) (wi rfl rfl) fun k t3 h K79 j22 => ?_
 rw [F22_l1] at h
 refine ht_seq ?_
 refine sr ?_
 refine sM 20 (iV t3) rfl rfl ?_
 refine sD 21 (eCell t0) fo26_0 rfl rfl rfl ?_
 refine sT 22 (.d (.sl 17 (t0.mShards.map eShard))) rfl (vl rfl onT22 rfl rfl) ?_
 refine sT 23 (iV (t0.mShards.length : Int)) rfl (w_len t0.mShards eShard rfl rfl · · · slT22 rfl) ?_
 refine sT 24 (bV (ltI t3 (t0.mShards.length : Int))) rfl (vb rfl rfl rfl (b_lss rfl)) ?_
 refine sq_nil ?_
 refine ht_cond rfl (fun e24 => ?_) (fun e24 => ?_)
 ·replace h := cpos e24 h
  refine ht_skip ?_
  refine ht_seq ?_
  refine ht_block ?_
  refine ht_seq ?_
  refine ht_region_draw mixed ?_
  refine rD 27 (eCell t0) fo26_0 rfl rfl rfl ?_
  refine rT 28 (.d (.sl 17 (t0.mShards.map eShard))) rfl (vl rfl onT22 rfl rfl) ?_
  refine rM 29 (iV t3) rfl rfl ?_
  obtain ⟨e25, h⟩ := gpos h
  refine rT 30 (.d (.dp (eShard (rd t0.mShards t3)))) rfl (w_idx t0.mShards eShard rfl · · · slT22 rfl rfl e25) ?_
  refine rP 31 (eShard (rd t0.mShards t3)) (eShard (rd t0.mShards t3)) ag45 rfl rfl rfl rfl rfl ?_
  obtain ⟨t32, c26, h⟩ := bpos h
  refine rC 32 (bV t32) (s21 k (rd t0.mShards t3) _ c26) en21 rfl rfl rfl rfl ?_
  refine rT 33 (bV (!t32)) rfl (vu rfl rfl (u_not rfl)) ?_
  refine rM 34 (bV (!t32)) rfl rfl ?_
  refine rF 35 (.d (.dp (eCell t0))) rfl rfl (fun e27 => (vD (eCell t0) fo26_0 · · · rfl rfl)) ?_
  refine rF 36 (.d (.sl 17 (t0.mShards.map eShard))) rfl rfl (fun e28 => (vl rfl onT22 (gv (nF e28)) rfl)) ?_
  refine rF 37 (iV t3) rfl rfl (fun e29 => (vm rfl rfl)) ?_
  obtain ⟨e31, h⟩ := gpos h
  refine rF 38 (.d (.dp (eShard (rd t0.mShards t3)))) rfl rfl (fun e30 => (w_idx t0.mShards eShard rfl · · · slT22 (gv (nF e30)) (gv (nF e30)) (orT e31 (nF e30)))) ?_
  refine rF 39 (.d (.agg (eShard (rd t0.mShards t3)))) rfl rfl (fun e32 => (w_ldp (eShard (rd t0.mShards t3)) (eShard (rd t0.mShards t3)) rfl · · · ag45 (gv (nF e32)) (ble _ _ rfl) rfl)) ?_
  refine rF 40 (.d (.dp (List.drop 1 (eCell t0)))) rfl rfl (fun e33 => (vD (eCell t0) fo26_1 · · · rfl rfl)) ?_
  refine rF 41 (.d (.agg (eStamp t0.mTop))) rfl rfl (fun e34 => (w_ldp (List.drop 1 (eCell t0)) (eStamp t0.mTop) rfl · · · ag24 (gv (nF e34)) (ble _ _ rfl) rfl)) ?_
  obtain ⟨t42, c36, h⟩ := bpos h
  refine rF 42 (bV t42) rfl rfl (fun e35 => (vC (s89 k (rd t0.mShards t3) t0.mTop _ (cpos (nF e35) c36)) en89 · · · rfl (cc (gv (nF e35)) (cc (gv (nF e35)) rfl)) rfl)) ?_
  refine rF 43 (bV (!t42)) rfl rfl (fun e37 => (vu rfl (gv (nF e37)) (u_not rfl))) ?_
  refine rT 44 (bV ((!t32) || (!t42))) rfl (vp rfl rfl (fun e38 => rfl) (fun e39 => (gv (nF e39))) (pO _ _)) ?_
  refine rM 45 (bV ((!t32) || (!t42))) rfl rfl ?_
  refine rF 46 (iV t3) rfl rfl (fun e40 => (vm rfl rfl)) ?_
  refine rF 47 (bV (ltI 0 t3)) rfl rfl (fun e41 => (vb rfl (gv (nF e41)) rfl (b_gtr rfl))) ?_
  refine rF 48 (bV (ltI 0 t3)) rfl rfl (fun e42 => (vm rfl (gv (nF e42)))) ?_
  refine rI 49 (.d (.dp (eCell t0))) rfl rfl (fun e43 e44 => (vD (eCell t0) fo26_0 · · · rfl rfl)) ?_
  refine rI 50 (.d (.sl 17 (t0.mShards.map eShard))) rfl rfl (fun e45 e46 => (vl rfl onT22 (gv (aT e45 e46)) rfl)) ?_
  refine rI 51 (iV t3) rfl rfl (fun e47 e48 => (vm rfl rfl)) ?_
  refine rI 52 (iV (IntKind.wrap .i64 (t3 - 1))) rfl rfl (fun e49 e50 => (vb rfl (gv (aT e49 e50)) rfl (b_sub rfl))) ?_
  obtain ⟨e53, h⟩ := gpos h
  refine rI 53 (.d (.dp (eShard (rd t0.mShards (IntKind.wrap .i64 (t3 - 1)))))) rfl rfl (fun e51 e52 => (w_idx t0.mShards eShard rfl · · · slT22 (gv (aT e51 e52)) (gv (aT e51 e52)) (orT e53 (aT e51 e52)))) ?_
  refine rI 54 (.d (.dp (eShard (rd t0.mShards (IntKind.wrap .i64 (t3 - 1)))))) rfl rfl (fun e54 e55 => (vD (eShard (rd t0.mShards (IntKind.wrap .i64 (t3 - 1)))) fo45_0 · · · rfl (gv (aT e54 e55)))) ?_
  refine rI 55 (iV (rd t0.mShards (IntKind.wrap .i64 (t3 - 1))).mID) rfl rfl (fun e56 e57 => (vl rfl onT3 (gv (aT e56 e57)) rfl)) ?_
  refine rI 56 (.d (.dp (eCell t0))) rfl rfl (fun e58 e59 => (vD (eCell t0) fo26_0 · · · rfl rfl)) ?_
  refine rI 57 (.d (.sl 17 (t0.mShards.map eShard))) rfl rfl (fun e60 e61 => (vl rfl onT22 (gv (aT e60 e61)) rfl)) ?_
  refine rI 58 (iV t3) rfl rfl (fun e62 e63 => (vm rfl rfl)) ?_
  obtain ⟨e66, h⟩ := gpos h
  refine rI 59 (.d (.dp (eShard (rd t0.mShards t3)))) rfl rfl (fun e64 e65 => (w_idx t0.mShards eShard rfl · · · slT22 (gv (aT e64 e65)) (gv (aT e64 e65)) (orT e66 (aT e64 e65)))) ?_
  refine rI 60 (.d (.dp (eShard (rd t0.mShards t3)))) rfl rfl (fun e67 e68 => (vD (eShard (rd t0.mShards t3)) fo45_0 · · · rfl (gv (aT e67 e68)))) ?_
  refine rI 61 (iV (rd t0.mShards t3).mID) rfl rfl (fun e69 e70 => (vl rfl onT3 (gv (aT e69 e70)) rfl)) ?_
  refine rI 62 (bV (leI (rd t0.mShards t3).mID (rd t0.mShards (IntKind.wrap .i64 (t3 - 1))).mID)) rfl rfl (fun e71 e72 => (vb rfl (gv (aT e71 e72)) (gv (aT e71 e72)) (b_geq rfl))) ?_
  refine rF 63 (bV ((ltI 0 t3) && (leI (rd t0.mShards t3).mID (rd t0.mShards (IntKind.wrap .i64 (t3 - 1))).mID))) rfl rfl (fun e73 => (vp rfl (gv (nF e73)) (fun e74 => (gv (aT (nF e73) e74))) (fun e75 => rfl) (pA _ _))) ?_
  refine rT 64 (bV (((!t32) || (!t42)) || ((ltI 0 t3) && (leI (rd t0.mShards t3).mID (rd t0.mShards (IntKind.wrap .i64 (t3 - 1))).mID)))) rfl (vp rfl rfl (fun e76 => rfl) (fun e77 => (gv (nF e77))) (pO _ _)) ?_
  refine rg_nil ⟨by kernel_rfl, ?_⟩
  refine ht_cond rfl (fun e78 => ?_) (fun e78 => ?_)
  ·replace h := cpos e78 h
   refine sr ?_
   refine sM 2 (bV false) rfl rfl ?_
   refine sz ?_
   cases h
   cases r20 _ rfl
   exact ret1 rfl (.tmp rfl)
  replace h := cneg e78 h
  refine ht_skip ?_
  refine ht_region ?_
  refine sM 25 (iV t3) rfl rfl ?_
  refine sT 26 (iV (IntKind.wrap .i64 (t3 + 1))) rfl (vb rfl rfl rfl (b_add rfl)) ?_
  refine sM 3 (iV (IntKind.wrap .i64 (t3 + 1))) rfl rfl ?_
  refine sq_nil ?_
  exact j22 _ _ h (wi rfl rfl)
 replace h := cneg e24 h
 refine ht_exit ?_
 refine tq ?_
 refine tq ?_
 refine bq_hit ?_
 cases h
 exact j19 _ _ rfl (wi rfl rfl)
theorem s24 (k : Nat) (t0 : Cell) (t1 : Int) (r : Shard) (h : F24 k t0 t1 = some r) : Awp.Spec Tryz.prog amb 24 [(.agg (eCell t0)), (.s (.int .i64 t1))] (.ds [(.agg (eShard r))]) := by
 rw [F24] at h
 refine spec_of Tryz.func24 rfl (ble _ _ rfl) fun w0 ok0 lt0 hA => ?_
 refine sr ?_
 refine sT 2 (.d (.dp (eCell t0))) rfl (v_box_d (cs := (eCell t0)) rfl · · · rfl rfl (ones_of rfl)) ?_
 refine sq_cons _ (v_alloc (id := 4) (cs := zc45) rfl trivial rfl (ble _ _ rfl) zu45 rfl ft45 rfl) ?_
 refine sq_nil ?_
 refine ht_gj (go_id' h) (fun _ => tell [(.b 4, .box false 17), (.c 4 0, iV 0), (.c 4 1, iV 0), (.c 4 2, sV (⟨#[]⟩ : ByteArray)), (.c 4 3, sV (⟨#[]⟩ : ByteArray)), (.c 4 4, iV 0), (.c 4 5, .d (.sl 2 (([] : List Entry).map eEntry))), (.c 4 6, iV 0), (.c 4 7, iV 0), (.c 4 8, iV 0), (.c 4 9, iV 0), (.c 4 10, iV 0), (.c 4 11, iV 0), (.c 4 12, .d (.sl 11 (([] : List Done).map eDone))), (.c 4 13, iV 0), (.c 4 14, iV 0), (.c 4 15, iV 0), (.c 4 16, iV 0), (.t 4, .ptr 4 0)]) (fun _ h => ?_) (fun v1 K2 h j4 r5 => ?_)
 ·refine sr ?_
  refine sT 26 (.d (.agg (eShard (⟨0, 0, (⟨⟨#[]⟩, ⟨#[]⟩⟩ : Span), 0, [], (⟨0, 0, 0⟩ : Stamp), (⟨0, 0, 0⟩ : Stamp), [], 0, 0, 0, 0⟩ : Shard)))) rfl (w_bld zc45 ((eShard (⟨0, 0, (⟨⟨#[]⟩, ⟨#[]⟩⟩ : Span), 0, [], (⟨0, 0, 0⟩ : Stamp), (⟨0, 0, 0⟩ : Stamp), [], 0, 0, 0, 0⟩ : Shard)).map V.d) [] rfl · · · zw45 rfl ft45 rfl rfl rfl rfl) ?_
  refine sS 4 0 ((eShard (⟨0, 0, (⟨⟨#[]⟩, ⟨#[]⟩⟩ : Span), 0, [], (⟨0, 0, 0⟩ : Stamp), (⟨0, 0, 0⟩ : Stamp), [], 0, 0, 0, 0⟩ : Shard)).map V.d) sz45 rfl rfl rfl rfl rfl (ones_of rfl) rfl ?_
  refine sz ?_
  cases h
  exact ret1 rfl (.cell rfl rfl ag45 (ble _ _ rfl) rfl)
 refine sr ?_
 refine sM 5 (iV 0) rfl rfl ?_
 refine sq_nil ?_
 refine ht_block ?_
 refine ht_rd h (fun _ => rfl) (fun t5 => tell [(.b 4, .box false 17), (.c 4 0, iV 0), (.c 4 1, iV 0), (.c 4 2, sV (⟨#[]⟩ : ByteArray)), (.c 4 3, sV (⟨#[]⟩ : ByteArray)), (.c 4 4, iV 0), (.c 4 5, .d (.sl 2 (([] : List Entry).map eEntry))), (.c 4 6, iV 0), (.c 4 7, iV 0), (.c 4 8, iV 0), (.c 4 9, iV 0), (.c 4 10, iV 0), (.c 4 11, iV 0), (.c 4 12, .d (.sl 11 (([] : List Done).map eDone))), (.c 4 13, iV 0), (.c 4 14, iV 0), (.c 4 15, iV 0), (.c 4 16, iV 0), (.t 1, iV t1), (.t 2, .d (.dp (eCell t0))), (.t 4, .ptr 4 0), (.t 5, iV t5)]) (wi rfl rfl) fun k t5 h K13 j7 => ?_
 rw [F24_l1] at h
 refine ht_seq ?_
 refine sr ?_
 refine sM 6 (iV t5) rfl rfl ?_
 refine sD 7 (eCell t0) fo26_0 rfl rfl rfl ?_
 refine sT 8 (.d (.sl 17 (t0.mShards.map eShard))) rfl (vl rfl onT22 rfl rfl) ?_
 refine sT 9 (iV (t0.mShards.length : Int)) rfl (w_len t0.mShards eShard rfl rfl · · · slT22 rfl) ?_
 refine sT 10 (bV (ltI t5 (t0.mShards.length : Int))) rfl (vb rfl rfl rfl (b_lss rfl)) ?_
 refine sq_nil ?_
 refine ht_cond rfl (fun e9 => ?_) (fun e9 => ?_)
 ·replace h := cpos e9 h
  refine ht_skip ?_
  refine ht_seq ?_
  refine ht_block ?_
  refine sr ?_
  refine sD 13 (eCell t0) fo26_0 rfl rfl rfl ?_
  refine sT 14 (.d (.sl 17 (t0.mShards.map eShard))) rfl (vl rfl onT22 rfl rfl) ?_
  refine sM 15 (iV t5) rfl rfl ?_
  obtain ⟨e10, h⟩ := gpos h
  refine sT 16 (.d (.dp (eShard (rd t0.mShards t5)))) rfl (w_idx t0.mShards eShard rfl · · · slT22 rfl rfl e10) ?_
  refine sD 17 (eShard (rd t0.mShards t5)) fo45_0 rfl rfl rfl ?_
  refine sT 18 (iV (rd t0.mShards t5).mID) rfl (vl rfl onT3 rfl rfl) ?_
  refine sM 19 (iV t1) rfl rfl ?_
  refine sT 20 (bV (eqI (rd t0.mShards t5).mID t1)) rfl (vb rfl rfl rfl (b_eql rfl)) ?_
  refine sq_nil ?_
  refine ht_cond rfl (fun e11 => ?_) (fun e11 => ?_)
  ·replace h := cpos e11 h
   refine sr ?_
   refine sD 21 (eCell t0) fo26_0 rfl rfl rfl ?_
   refine sT 22 (.d (.sl 17 (t0.mShards.map eShard))) rfl (vl rfl onT22 rfl rfl) ?_
   refine sM 23 (iV t5) rfl rfl ?_
   obtain ⟨e12, h⟩ := gpos h
   refine sT 24 (.d (.dp (eShard (rd t0.mShards t5)))) rfl (w_idx t0.mShards eShard rfl · · · slT22 rfl rfl e12) ?_
   refine sP 25 (eShard (rd t0.mShards t5)) (eShard (rd t0.mShards t5)) ag45 rfl rfl rfl rfl rfl ?_
   refine sS 4 0 ((eShard (rd t0.mShards t5)).map V.d) sz45 rfl rfl rfl rfl rfl (ones_of rfl) rfl ?_
   refine sz ?_
   cases h
   cases r5 _ rfl
   exact ret1 rfl (.cell rfl rfl ag45 (ble _ _ rfl) rfl)
  replace h := cneg e11 h
  refine ht_skip ?_
  refine ht_region ?_
  refine sM 11 (iV t5) rfl rfl ?_
  refine sT 12 (iV (IntKind.wrap .i64 (t5 + 1))) rfl (vb rfl rfl rfl (b_add rfl)) ?_
  refine sM 5 (iV (IntKind.wrap .i64 (t5 + 1))) rfl rfl ?_
  refine sq_nil ?_
  exact j7 _ _ h (wi rfl rfl)
 replace h := cneg e9 h
 refine ht_exit ?_
 refine tq ?_
 refine tq ?_
 refine bq_hit ?_
 cases h
 exact j4 _ _ rfl (wi rfl rfl)
theorem s71 (k : Nat) (t0 : List Version) (t1 : Stamp) (r : Version × Bool) (h : F71 k t0 t1 = some r) : Awp.Spec Tryz.prog amb 71 [(.sl 5 (t0.map eVersion)), (.agg (eStamp t1))] (.ds [(.agg (eVersion r.1)), (.s (.bool r.2))]) := by
 rw [F71] at h
 refine spec_of Tryz.func71 rfl (ble _ _ rfl) fun w0 ok0 lt0 hA => ?_
 refine sr ?_
 refine sT 3 (.d (.dp (eStamp t1))) rfl (v_box_d (cs := (eStamp t1)) rfl · · · rfl rfl (ones_of rfl)) ?_
 refine sq_cons _ (v_alloc (id := 4) (cs := zc93) rfl trivial rfl (ble _ _ rfl) zu93 rfl ft93 rfl) ?_
 refine sM 5 (bV false) rfl rfl ?_
 refine sq_nil ?_
 refine sr ?_
 refine sT 9 (.d (.agg (eVersion (⟨(⟨0, 0, 0⟩ : Stamp), false, ⟨#[]⟩⟩ : Version)))) rfl (w_bld zc93 ((eVersion (⟨(⟨0, 0, 0⟩ : Stamp), false, ⟨#[]⟩⟩ : Version)).map V.d) [] rfl · · · zw93 rfl ft93 rfl rfl rfl rfl) ?_
 refine sq_cons _ (v_alloc (id := 6) (cs := zc93) rfl trivial rfl (ble _ _ rfl) zu93 rfl ft93 rfl) ?_
 refine sS 6 0 ((eVersion (⟨(⟨0, 0, 0⟩ : Stamp), false, ⟨#[]⟩⟩ : Version)).map V.d) sz93 rfl rfl rfl rfl rfl (ones_of rfl) rfl ?_
 refine sM 7 (bV false) rfl rfl ?_
 refine sq_nil ?_
 refine ht_bj h (fun (t7, t6c0, t6c1, t6c2, t6c3, t6c4) => tell [(.b 4, .box false 5), (.b 6, .box false 5), (.c 4 0, iV 0), (.c 4 1, iV 0), (.c 4 2, iV 0), (.c 4 3, bV false), (.c 4 4, sV (⟨#[]⟩ : ByteArray)), (.c 6 0, iV t6c0), (.c 6 1, iV t6c1), (.c 6 2, iV t6c2), (.c 6 3, bV t6c3), (.c 6 4, sV t6c4), (.t 4, .ptr 4 0), (.t 6, .ptr 6 0), (.t 7, bV t7)]) (fun v1 h => ?_) (fun v1 K2 h j4 => ?_)
 ·obtain ⟨t7, t6c0, t6c1, t6c2, t6c3, t6c4⟩ := v1
  refine sr ?_
  refine sT 32 (.d (.agg (eVersion (⟨(⟨t6c0, t6c1, t6c2⟩ : Stamp), t6c3, t6c4⟩ : Version)))) rfl (w_ldb 6 0 rfl · · · ag93 rfl rfl (ble _ _ rfl) rfl) ?_
  refine sM 33 (bV t7) rfl rfl ?_
  refine sS 4 0 ((eVersion (⟨(⟨t6c0, t6c1, t6c2⟩ : Stamp), t6c3, t6c4⟩ : Version)).map V.d) sz93 rfl rfl rfl rfl rfl (ones_of rfl) rfl ?_
  refine sM 5 (bV t7) rfl rfl ?_
  refine sz ?_
  cases h
  exact ret2 rfl (.cell rfl rfl ag93 (ble _ _ rfl) rfl) (.tmp rfl)
 refine sr ?_
 refine sM 8 (iV 0) rfl rfl ?_
 refine sq_nil ?_
 refine ht_block ?_
 refine ht_rd h (fun _ => rfl) (fun (t7_1, t8, t6c0_1, t6c1_1, t6c2_1, t6c3_1, t6c4_1) => tell [(.b 4, .box false 5), (.b 6, .box false 5), (.c 4 0, iV 0), (.c 4 1, iV 0), (.c 4 2, iV 0), (.c 4 3, bV false), (.c 4 4, sV (⟨#[]⟩ : ByteArray)), (.c 6 0, iV t6c0_1), (.c 6 1, iV t6c1_1), (.c 6 2, iV t6c2_1), (.c 6 3, bV t6c3_1), (.c 6 4, sV t6c4_1), (.t 0, .d (.sl 5 (t0.map eVersion))), (.t 3, .d (.dp (eStamp t1))), (.t 4, .ptr 4 0), (.t 6, .ptr 6 0), (.t 7, bV t7_1), (.t 8, iV t8)]) (wi rfl rfl) fun k v8 h K19 j7 => ?_
 obtain ⟨t7_1, t8, t6c0_1, t6c1_1, t6c2_1, t6c3_1, t6c4_1⟩ := v8
 rw [F71_l1] at h
 refine ht_seq ?_
 refine sr ?_
 refine sM 10 (iV t8) rfl rfl ?_
 refine sM 11 (.d (.sl 5 (t0.map eVersion))) rfl rfl ?_
 refine sT 12 (iV (t0.length : Int)) rfl (w_len t0 eVersion rfl rfl · · · slT96 rfl) ?_
 refine sT 13 (bV (ltI t8 (t0.length : Int))) rfl (vb rfl rfl rfl (b_lss rfl)) ?_
 refine sM 14 (bV (ltI t8 (t0.length : Int))) rfl rfl ?_
 refine sG 15 (.d (.sl 5 (t0.map eVersion))) rfl rfl (fun e9 => (vm rfl rfl)) ?_
 obtain ⟨t16, c11, h⟩ := bpos h
 refine sG 16 (bV t16) rfl rfl (fun e10 => (vC (s131 k t0 _ (cpos e10 c11)) en131 · · · rfl (cc (gv e10) rfl) rfl)) ?_
 refine sT 17 (bV ((ltI t8 (t0.length : Int)) && t16)) rfl (vp rfl rfl (fun e12 => (gv e12)) (fun e13 => rfl) (pA _ _)) ?_
 refine sq_nil ?_
 refine ht_cond rfl (fun e14 => ?_) (fun e14 => ?_)
 ·replace h := cpos e14 h
  refine ht_skip ?_
  refine ht_seq ?_
  refine ht_block ?_
  refine ht_seq ?_
  refine ht_region_draw mixed ?_
  refine rP 20 (eStamp t1) (eStamp t1) ag24 rfl rfl rfl rfl rfl ?_
  refine rM 21 (.d (.sl 5 (t0.map eVersion))) rfl rfl ?_
  refine rM 22 (iV t8) rfl rfl ?_
  obtain ⟨e15, h⟩ := gpos h
  refine rT 23 (.d (.dp (eVersion (rd t0 t8)))) rfl (w_idx t0 eVersion rfl · · · slT96 rfl rfl e15) ?_
  refine rD 24 (eVersion (rd t0 t8)) fo93_0 rfl rfl rfl ?_
  refine rP 25 (eVersion (rd t0 t8)) (eStamp (rd t0 t8).mAt) ag24 rfl rfl rfl rfl rfl ?_
  obtain ⟨t26, c16, h⟩ := bpos h
  refine rC 26 (bV t26) (s76 k t1 (rd t0 t8).mAt _ c16) en76 rfl rfl rfl rfl ?_
  refine rT 27 (bV (!t26)) rfl (vu rfl rfl (u_not rfl)) ?_
  refine rg_nil ⟨by kernel_rfl, ?_⟩
  refine ht_cond rfl (fun e17 => ?_) (fun e17 => ?_)
  ·replace h := cpos e17 h
   refine ht_region ?_
   refine sM 28 (.d (.sl 5 (t0.map eVersion))) rfl rfl ?_
   refine sM 29 (iV t8) rfl rfl ?_
   obtain ⟨e18, h⟩ := gpos h
   refine sT 30 (.d (.dp (eVersion (rd t0 t8)))) rfl (w_idx t0 eVersion rfl · · · slT96 rfl rfl e18) ?_
   refine sP 31 (eVersion (rd t0 t8)) (eVersion (rd t0 t8)) ag93 rfl rfl rfl rfl rfl ?_
   refine sS 6 0 ((eVersion (rd t0 t8)).map V.d) sz93 rfl rfl rfl rfl rfl (ones_of rfl) rfl ?_
   refine sM 7 (bV true) rfl rfl ?_
   refine sq_nil ?_
   refine ht_region ?_
   refine sM 18 (iV t8) rfl rfl ?_
   refine sT 19 (iV (IntKind.wrap .i64 (t8 + 1))) rfl (vb rfl rfl rfl (b_add rfl)) ?_
   refine sM 8 (iV (IntKind.wrap .i64 (t8 + 1))) rfl rfl ?_
   refine sq_nil ?_
   exact j7 _ _ h (wi rfl rfl)
  replace h := cneg e17 h
  refine ht_skip ?_
  refine ht_region ?_
  refine sM 18 (iV t8) rfl rfl ?_
  refine sT 19 (iV (IntKind.wrap .i64 (t8 + 1))) rfl (vb rfl rfl rfl (b_add rfl)) ?_
  refine sM 8 (iV (IntKind.wrap .i64 (t8 + 1))) rfl rfl ?_
  refine sq_nil ?_
  exact j7 _ _ h (wi rfl rfl)
 replace h := cneg e14 h
 refine ht_exit ?_
 refine tq ?_
 refine tq ?_
 refine bq_hit ?_
 cases h
 exact j4 _ (wi rfl rfl)
theorem s97 (k : Nat) (t0 : Stamp) (t1 : Stamp) (r : Stamp) (h : F97 k t0 t1 = some r) : Awp.Spec Tryz.prog amb 97 [(.agg (eStamp t0)), (.agg (eStamp t1))] (.ds [(.agg (eStamp r))]) := by
 rw [F97] at h
 refine spec_of Tryz.func97 rfl (ble _ _ rfl) fun w0 ok0 lt0 hA => ?_
 refine sr ?_
 refine sT 2 (.d (.dp (eStamp t0))) rfl (v_box_d (cs := (eStamp t0)) rfl · · · rfl rfl (ones_of rfl)) ?_
 refine sT 3 (.d (.dp (eStamp t1))) rfl (v_box_d (cs := (eStamp t1)) rfl · · · rfl rfl (ones_of rfl)) ?_
 refine sq_cons _ (v_alloc (id := 4) (cs := zc24) rfl trivial rfl (ble _ _ rfl) zu24 rfl ft24 rfl) ?_
 refine sq_nil ?_
 refine ht_seq ?_
 refine sr ?_
 refine sP 5 (eStamp t0) (eStamp t0) ag24 rfl rfl rfl rfl rfl ?_
 refine sP 6 (eStamp t1) (eStamp t1) ag24 rfl rfl rfl rfl rfl ?_
 obtain ⟨t7, c1, h⟩ := bpos h
 refine sC 7 (bV t7) (s76 k t0 t1 _ c1) en76 rfl rfl rfl rfl ?_
 refine sq_nil ?_
 refine ht_cond rfl (fun e2 => ?_) (fun e2 => ?_)
 ·replace h := cpos e2 h
  refine sr ?_
  refine sP 8 (eStamp t1) (eStamp t1) ag24 rfl rfl rfl rfl rfl ?_
  refine sS 4 0 ((eStamp t1).map V.d) sz24 rfl rfl rfl rfl rfl (ones_of rfl) rfl ?_
  refine sz ?_
  cases h
  exact ret1 rfl (.cell rfl rfl ag24 (ble _ _ rfl) rfl)
 replace h := cneg e2 h
 refine ht_skip ?_
 refine sr ?_
 refine sP 9 (eStamp t0) (eStamp t0) ag24 rfl rfl rfl rfl rfl ?_
 refine sS 4 0 ((eStamp t0).map V.d) sz24 rfl rfl rfl rfl rfl (ones_of rfl) rfl ?_
 refine sz ?_
 cases h
 exact ret1 rfl (.cell rfl rfl ag24 (ble _ _ rfl) rfl)
theorem s74 (k : Nat) (t0 : List Done) (t1 : Int) (r : Int) (h : F74 k t0 t1 = some r) : Awp.Spec Tryz.prog amb 74 [(.sl 11 (t0.map eDone)), (.s (.int .i64 t1))] (.ds [(.s (.int .i64 r))]) := by
 rw [F74] at h
 refine spec_of Tryz.func74 rfl (ble _ _ rfl) fun w0 ok0 lt0 hA => ?_
 refine sr ?_
 refine sM 4 (iV 0) rfl rfl ?_
 refine sq_nil ?_
 refine ht_gj (go_id' h) (fun _ => tell []) (fun _ h => ?_) (fun v1 K2 h j4 r5 => ?_)
 ·refine sr ?_
  refine sM 4 (iV 0) rfl rfl ?_
  refine sz ?_
  cases h
  exact ret1 rfl (.tmp rfl)
 refine sr ?_
 refine sM 5 (iV 0) rfl rfl ?_
 refine sq_nil ?_
 refine ht_block ?_
 refine ht_rd h (fun _ => rfl) (fun t5 => tell [(.t 0, .d (.sl 11 (t0.map eDone))), (.t 1, iV t1), (.t 5, iV t5)]) (wi rfl rfl) fun k t5 h K13 j7 => ?_
 rw [F74_l1] at h
 refine ht_seq ?_
 refine sr ?_
 refine sM 6 (iV t5) rfl rfl ?_
 refine sM 7 (.d (.sl 11 (t0.map eDone))) rfl rfl ?_
 refine sT 8 (iV (t0.length : Int)) rfl (w_len t0 eDone rfl rfl · · · slT43 rfl) ?_
 refine sT 9 (bV (ltI t5 (t0.length : Int))) rfl (vb rfl rfl rfl (b_lss rfl)) ?_
 refine sq_nil ?_
 refine ht_cond rfl (fun e9 => ?_) (fun e9 => ?_)
 ·replace h := cpos e9 h
  refine ht_skip ?_
  refine ht_seq ?_
  refine ht_block ?_
  refine sr ?_
  refine sM 12 (.d (.sl 11 (t0.map eDone))) rfl rfl ?_
  refine sM 13 (iV t5) rfl rfl ?_
  obtain ⟨e10, h⟩ := gpos h
  refine sT 14 (.d (.dp (eDone (rd t0 t5)))) rfl (w_idx t0 eDone rfl · · · slT43 rfl rfl e10) ?_
  refine sD 15 (eDone (rd t0 t5)) fo100_0 rfl rfl rfl ?_
  refine sT 16 (iV (rd t0 t5).mClient) rfl (vl rfl onT3 rfl rfl) ?_
  refine sM 17 (iV t1) rfl rfl ?_
  refine sT 18 (bV (eqI (rd t0 t5).mClient t1)) rfl (vb rfl rfl rfl (b_eql rfl)) ?_
  refine sq_nil ?_
  refine ht_cond rfl (fun e11 => ?_) (fun e11 => ?_)
  ·replace h := cpos e11 h
   refine sr ?_
   refine sM 19 (.d (.sl 11 (t0.map eDone))) rfl rfl ?_
   refine sM 20 (iV t5) rfl rfl ?_
   obtain ⟨e12, h⟩ := gpos h
   refine sT 21 (.d (.dp (eDone (rd t0 t5)))) rfl (w_idx t0 eDone rfl · · · slT43 rfl rfl e12) ?_
   refine sD 22 (eDone (rd t0 t5)) fo100_1 rfl rfl rfl ?_
   refine sT 23 (iV (rd t0 t5).mReq) rfl (vl rfl onT3 rfl rfl) ?_
   refine sM 4 (iV (rd t0 t5).mReq) rfl rfl ?_
   refine sz ?_
   cases h
   cases r5 _ rfl
   exact ret1 rfl (.tmp rfl)
  replace h := cneg e11 h
  refine ht_skip ?_
  refine ht_region ?_
  refine sM 10 (iV t5) rfl rfl ?_
  refine sT 11 (iV (IntKind.wrap .i64 (t5 + 1))) rfl (vb rfl rfl rfl (b_add rfl)) ?_
  refine sM 5 (iV (IntKind.wrap .i64 (t5 + 1))) rfl rfl ?_
  refine sq_nil ?_
  exact j7 _ _ h (wi rfl rfl)
 replace h := cneg e9 h
 refine ht_exit ?_
 refine tq ?_
 refine tq ?_
 refine bq_hit ?_
 cases h
 exact j4 _ _ rfl (wi rfl rfl)
theorem s135 (k : Nat) (t0 : List Done) (r : (List Done)) (h : F135 k t0 = some r) : Awp.Spec Tryz.prog amb 135 [(.sl 11 (t0.map eDone))] (.ds [(.sl 11 (r.map eDone))]) := by
 rw [F135] at h
 refine spec_of Tryz.func135 rfl (ble _ _ rfl) fun w0 ok0 lt0 hA => ?_
 refine sr ?_
 refine sM 2 (.d (.s (.slice none 0 0))) rfl rfl ?_
 refine sq_nil ?_
 refine sr ?_
 refine sM 3 (.d (.s (.slice none 0 0))) rfl rfl ?_
 refine sq_nil ?_
 refine ht_block ?_
 refine ht_rd h (fun _ => rfl) (fun t3 => tell [(.b 1003, .row false 100 11 (t3.map eDone)), (.t 0, .d (.sl 11 (t0.map eDone))), (.t 3, .own 1003 11 t3.length)]) (wkt (wk_nilrow (.t 3) (nb 3) 1001003 100 11 rfl rfl) (wr (fun i => bif Nat.beq i 1003 then 1001003 else i) rfl rfl)) fun k t3 h K67 j2 => ?_
 rw [F135_l1] at h
 refine ht_block ?_
 refine sr ?_
 refine sM 4 (iV (-1)) rfl rfl ?_
 refine sq_nil ?_
 refine ht_bj h (fun t4 => tell [(.b 1003, .row false 100 11 (t3.map eDone)), (.t 0, .d (.sl 11 (t0.map eDone))), (.t 3, .own 1003 11 t3.length), (.t 4, iV t4)]) (fun t4 h => ?_) (fun v4 K5 h j7 => ?_)
 ·refine ht_seq ?_
  refine sr ?_
  refine sM 48 (iV t4) rfl rfl ?_
  refine sT 49 (bV (ltI t4 0)) rfl (vb rfl rfl rfl (b_lss rfl)) ?_
  refine sq_nil ?_
  refine ht_cond rfl (fun e64 => ?_) (fun e64 => ?_)
  ·replace h := cpos e64 h
   refine sr ?_
   refine sM 50 (.own 1003 11 t3.length) rfl rfl ?_
   refine sM 2 (.own 1003 11 t3.length) rfl rfl ?_
   refine sz ?_
   cases h
   exact retM_wk (wk_still_row 1003 _ _ _ rfl) (retM_wk (wk_row (.t 2) (nb 2) 1003 _ _ _ _ rfl rfl (lm _ _)) (retM_wk (wk_row (.t 3) (nb 3) 1003 _ _ _ _ rfl rfl (lm _ _)) (retM_wk (wk_row (.t 50) (nb 50) 1003 _ _ _ _ rfl rfl (lm _ _)) (ret1 rfl (.tmp rfl)))))
  replace h := cneg e64 h
  refine ht_skip ?_
  refine ht_region ?_
  refine sM 51 (.own 1003 11 t3.length) rfl rfl ?_
  refine sM 52 (.d (.sl 11 (t0.map eDone))) rfl rfl ?_
  refine sM 53 (iV t4) rfl rfl ?_
  obtain ⟨e65, h⟩ := gpos h
  refine sT 54 (.d (.dp (eDone (rd t0 t4)))) rfl (w_idx t0 eDone rfl · · · slT43 rfl rfl e65) ?_
  refine sP 55 (eDone (rd t0 t4)) (eDone (rd t0 t4)) ag100 rfl rfl rfl rfl rfl ?_
  refine sq_cons ⟨_, [(.b 56, .row false 100 11 (([(rd t0 t4)]).map eDone)), (.t 56, .own 56 11 ([(rd t0 t4)]).length)]⟩ (w_bsl (id := 56) [(0, .d (.agg (eDone (rd t0 t4))))] [(rd t0 t4)] eDone rfl trivial rfl (ble _ _ rfl) slT43 zr100 teDone (ble _ _ rfl) rfl (by kernel_rfl) rfl rfl (by kernel_rfl) (by kernel_rfl)) ?_
  obtain ⟨e66, h⟩ := gpos h
  refine sq_cons ⟨_, [(.b 1003, .spent), (.b 57, .row false 100 11 ((t3 ++ [(rd t0 t4)]).map eDone)), (.t 57, .own 57 11 (t3 ++ [(rd t0 t4)]).length)]⟩ (w_app 57 t3 ([(rd t0 t4)]) eDone rfl rfl trivial rfl (ble _ _ rfl) slT43 elT100 teDone rfl rfl rfl (.own 56 _ _ rfl) rfl e66) ?_
  refine sM 3 (.own 57 11 (t3 ++ [(rd t0 t4)]).length) rfl rfl ?_
  refine sq_nil ?_
  exact j2 _ _ h (wr (fun i => bif Nat.beq i 1003 then 57 else i) rfl rfl)
 refine sr ?_
 refine sM 5 (iV 0) rfl rfl ?_
 refine sq_nil ?_
 refine ht_block ?_
 refine ht_rd h (fun _ => rfl) (fun (t4_1, t5) => tell [(.b 1003, .row false 100 11 (t3.map eDone)), (.t 0, .d (.sl 11 (t0.map eDone))), (.t 3, .own 1003 11 t3.length), (.t 4, iV t4_1), (.t 5, iV t5)]) (wi rfl rfl) fun k v11 h K63 j10 => ?_
 obtain ⟨t4_1, t5⟩ := v11
 rw [F135_l2] at h
 refine ht_seq ?_
 refine sr ?_
 refine sM 6 (iV t5) rfl rfl ?_
 refine sM 7 (.d (.sl 11 (t0.map eDone))) rfl rfl ?_
 refine sT 8 (iV (t0.length : Int)) rfl (w_len t0 eDone rfl rfl · · · slT43 rfl) ?_
 refine sT 9 (bV (ltI t5 (t0.length : Int))) rfl (vb rfl rfl rfl (b_lss rfl)) ?_
 refine sq_nil ?_
 refine ht_cond rfl (fun e12 => ?_) (fun e12 => ?_)
 ·replace h := cpos e12 h
  refine ht_skip ?_
  refine ht_seq ?_
  refine ht_block ?_
  refine ht_seq ?_
  refine ht_region_draw mixed ?_
  refine rM 12 (.own 1003 11 t3.length) rfl rfl ?_
  refine rT 13 (iV (t3.length : Int)) rfl (v_len_own rfl rfl · · · und43 rfl) ?_
  refine rT 14 (bV (eqI (t3.length : Int) 0)) rfl (vb rfl rfl rfl (b_eql rfl)) ?_
  refine rM 15 (bV (eqI (t3.length : Int) 0)) rfl rfl ?_
  refine rF 16 (.d (.sl 11 (t0.map eDone))) rfl rfl (fun e13 => (vm rfl rfl)) ?_
  refine rF 17 (iV t5) rfl rfl (fun e14 => (vm rfl rfl)) ?_
  obtain ⟨e16, h⟩ := gpos h
  refine rF 18 (.d (.dp (eDone (rd t0 t5)))) rfl rfl (fun e15 => (w_idx t0 eDone rfl · · · slT43 (gv (nF e15)) (gv (nF e15)) (orT e16 (nF e15)))) ?_
  refine rF 19 (.d (.dp (eDone (rd t0 t5)))) rfl rfl (fun e17 => (vD (eDone (rd t0 t5)) fo100_0 · · · rfl (gv (nF e17)))) ?_
  refine rF 20 (iV (rd t0 t5).mClient) rfl rfl (fun e18 => (vl rfl onT3 (gv (nF e18)) rfl)) ?_
  refine rF 21 (.own 1003 11 t3.length) rfl rfl (fun e19 => (vm rfl rfl)) ?_
  refine rF 22 (.own 1003 11 t3.length) rfl rfl (fun e20 => (vm rfl rfl)) ?_
  refine rF 23 (iV (t3.length : Int)) rfl rfl (fun e21 => (v_len_own rfl rfl · · · und43 (gv (nF e21)))) ?_
  refine rF 24 (iV (IntKind.wrap .i64 ((t3.length : Int) - 1))) rfl rfl (fun e22 => (vb rfl (gv (nF e22)) rfl (b_sub rfl))) ?_
  obtain ⟨e24, h⟩ := gpos h
  refine rF 25 (.elp 1003 11 (IntKind.wrap .i64 ((t3.length : Int) - 1)).toNat 0) rfl rfl (fun e23 => (w_idx_own t3 rfl · · · slT43 (gv (nF e23)) (gv (nF e23)) (orT e24 (nF e23)))) ?_
  refine rF 26 (.elp 1003 11 (IntKind.wrap .i64 ((t3.length : Int) - 1)).toNat 0) rfl rfl (fun e25 => (v_field_elp (a0 := 0) rfl · · · fo100_0 (gv (nF e25)))) ?_
  refine rF 27 (iV (rd t3 (IntKind.wrap .i64 ((t3.length : Int) - 1))).mClient) rfl rfl (fun e26 => (w_ldE1 t3 eDone rfl · · · onT3 (gv (nF e26)) (orT e24 (nF e26)) rfl rfl)) ?_
  refine rF 28 (bV (ltI (rd t3 (IntKind.wrap .i64 ((t3.length : Int) - 1))).mClient (rd t0 t5).mClient)) rfl rfl (fun e27 => (vb rfl (gv (nF e27)) (gv (nF e27)) (b_gtr rfl))) ?_
  refine rT 29 (bV ((eqI (t3.length : Int) 0) || (ltI (rd t3 (IntKind.wrap .i64 ((t3.length : Int) - 1))).mClient (rd t0 t5).mClient))) rfl (vp rfl rfl (fun e28 => rfl) (fun e29 => (gv (nF e29))) (pO _ _)) ?_
  refine rM 30 (bV ((eqI (t3.length : Int) 0) || (ltI (rd t3 (IntKind.wrap .i64 ((t3.length : Int) - 1))).mClient (rd t0 t5).mClient))) rfl rfl ?_
  refine rG 31 (iV t4_1) rfl rfl (fun e30 => (vm rfl rfl)) ?_
  refine rG 32 (bV (ltI t4_1 0)) rfl rfl (fun e31 => (vb rfl (gv e31) rfl (b_lss rfl))) ?_
  refine rG 33 (bV (ltI t4_1 0)) rfl rfl (fun e32 => (vm rfl (gv e32))) ?_
  refine rH 34 (.d (.sl 11 (t0.map eDone))) rfl rfl (fun e33 e34 => (vm rfl rfl)) ?_
  refine rH 35 (iV t5) rfl rfl (fun e35 e36 => (vm rfl rfl)) ?_
  obtain ⟨e39, h⟩ := gpos h
  refine rH 36 (.d (.dp (eDone (rd t0 t5)))) rfl rfl (fun e37 e38 => (w_idx t0 eDone rfl · · · slT43 (gv (aT e37 (nF e38))) (gv (aT e37 (nF e38))) (orT e39 (aT e37 (nF e38))))) ?_
  refine rH 37 (.d (.dp (eDone (rd t0 t5)))) rfl rfl (fun e40 e41 => (vD (eDone (rd t0 t5)) fo100_0 · · · rfl (gv (aT e40 (nF e41))))) ?_
  refine rH 38 (iV (rd t0 t5).mClient) rfl rfl (fun e42 e43 => (vl rfl onT3 (gv (aT e42 (nF e43))) rfl)) ?_
  refine rH 39 (.d (.sl 11 (t0.map eDone))) rfl rfl (fun e44 e45 => (vm rfl rfl)) ?_
  refine rH 40 (iV t4_1) rfl rfl (fun e46 e47 => (vm rfl rfl)) ?_
  obtain ⟨e50, h⟩ := gpos h
  refine rH 41 (.d (.dp (eDone (rd t0 t4_1)))) rfl rfl (fun e48 e49 => (w_idx t0 eDone rfl · · · slT43 (gv (aT e48 (nF e49))) (gv (aT e48 (nF e49))) (orT e50 (aT e48 (nF e49))))) ?_
  refine rH 42 (.d (.dp (eDone (rd t0 t4_1)))) rfl rfl (fun e51 e52 => (vD (eDone (rd t0 t4_1)) fo100_0 · · · rfl (gv (aT e51 (nF e52))))) ?_
  refine rH 43 (iV (rd t0 t4_1).mClient) rfl rfl (fun e53 e54 => (vl rfl onT3 (gv (aT e53 (nF e54))) rfl)) ?_
  refine rH 44 (bV (ltI (rd t0 t5).mClient (rd t0 t4_1).mClient)) rfl rfl (fun e55 e56 => (vb rfl (gv (aT e55 (nF e56))) (gv (aT e55 (nF e56))) (b_lss rfl))) ?_
  refine rG 45 (bV ((ltI t4_1 0) || (ltI (rd t0 t5).mClient (rd t0 t4_1).mClient))) rfl rfl (fun e57 => (vp rfl (gv e57) (fun e58 => rfl) (fun e59 => (gv (aT e57 (nF e59)))) (pO _ _))) ?_
  refine rT 46 (bV (((eqI (t3.length : Int) 0) || (ltI (rd t3 (IntKind.wrap .i64 ((t3.length : Int) - 1))).mClient (rd t0 t5).mClient)) && ((ltI t4_1 0) || (ltI (rd t0 t5).mClient (rd t0 t4_1).mClient)))) rfl (vp rfl rfl (fun e60 => (gv e60)) (fun e61 => rfl) (pA _ _)) ?_
  refine rg_nil ⟨by kernel_rfl, ?_⟩
  refine ht_cond rfl (fun e62 => ?_) (fun e62 => ?_)
  ·replace h := cpos e62 h
   refine ht_region ?_
   refine sM 47 (iV t5) rfl rfl ?_
   refine sM 4 (iV t5) rfl rfl ?_
   refine sq_nil ?_
   refine ht_region ?_
   refine sM 10 (iV t5) rfl rfl ?_
   refine sT 11 (iV (IntKind.wrap .i64 (t5 + 1))) rfl (vb rfl rfl rfl (b_add rfl)) ?_
   refine sM 5 (iV (IntKind.wrap .i64 (t5 + 1))) rfl rfl ?_
   refine sq_nil ?_
   exact j10 _ _ h (wi rfl rfl)
  replace h := cneg e62 h
  refine ht_skip ?_
  refine ht_region ?_
  refine sM 10 (iV t5) rfl rfl ?_
  refine sT 11 (iV (IntKind.wrap .i64 (t5 + 1))) rfl (vb rfl rfl rfl (b_add rfl)) ?_
  refine sM 5 (iV (IntKind.wrap .i64 (t5 + 1))) rfl rfl ?_
  refine sq_nil ?_
  exact j10 _ _ h (wi rfl rfl)
 replace h := cneg e12 h
 refine ht_exit ?_
 refine tq ?_
 refine tq ?_
 refine bq_hit ?_
 cases h
 exact j7 _ (wi rfl rfl)
theorem s79 (k : Nat) (t0 : Cell) (t1 : Shard) (t2 : Bool) (r : Cell) (h : F79 k t0 t1 t2 = some r) : Awp.Spec Tryz.prog amb 79 [(.agg (eCell t0)), (.agg (eShard t1)), (.s (.bool t2))] (.ds [(.agg (eCell r))]) := by
 rw [F79] at h
 refine spec_of Tryz.func79 rfl (ble _ _ rfl) fun w0 ok0 lt0 hA => ?_
 refine sr ?_
 refine sq_cons _ (v_box (id := 3) (cs := (eCell t0).map V.d) rfl trivial rfl (ble _ _ rfl) rfl rfl (ones_of rfl) rfl) ?_
 refine sT 4 (.d (.dp (eShard t1))) rfl (v_box_d (cs := (eShard t1)) rfl · · · rfl rfl (ones_of rfl)) ?_
 refine sq_cons _ (v_alloc (id := 6) (cs := zc26) rfl trivial rfl (ble _ _ rfl) zu26 rfl ft26 rfl) ?_
 refine sq_nil ?_
 refine sr ?_
 refine sM 7 (.d (.s (.slice none 0 0))) rfl rfl ?_
 refine sq_nil ?_
 refine sr ?_
 refine sM 10 (bV t2) rfl rfl ?_
 refine sM 8 (bV t2) rfl rfl ?_
 refine sq_nil ?_
 refine ht_bj h (fun (t7, t8) => tell [(.b 3, .box false 5), (.b 6, .box false 5), (.b 1007, .row false 45 17 (t7.map eShard)), (.c 3 0, .d (.sl 17 (t0.mShards.map eShard))), (.c 3 1, iV t0.mTop.mWall), (.c 3 2, iV t0.mTop.mTick), (.c 3 3, iV t0.mTop.mNode), (.c 3 4, iV t0.mDropped), (.c 6 0, .d (.sl 17 (([] : List Shard).map eShard))), (.c 6 1, iV 0), (.c 6 2, iV 0), (.c 6 3, iV 0), (.c 6 4, iV 0), (.t 3, .ptr 3 0), (.t 4, .d (.dp (eShard t1))), (.t 6, .ptr 6 0), (.t 7, .own 1007 17 t7.length), (.t 8, bV t8)]) (fun v1 h => ?_) (fun v1 K2 h j4 => ?_)
 ·obtain ⟨t7, t8⟩ := v1
  refine ht_seq ?_
  refine sr ?_
  refine sM 52 (bV t8) rfl rfl ?_
  refine sT 53 (bV (!t8)) rfl (vu rfl rfl (u_not rfl)) ?_
  refine sq_nil ?_
  refine ht_cond rfl (fun e34 => ?_) (fun e34 => ?_)
  ·replace h := cpos e34 h
   refine ht_region ?_
   refine sM 54 (.own 1007 17 t7.length) rfl rfl ?_
   refine sP 55 (eShard t1) (eShard t1) ag45 rfl rfl rfl rfl rfl ?_
   refine sq_cons ⟨_, [(.b 56, .row false 45 17 (([t1]).map eShard)), (.t 56, .own 56 17 ([t1]).length)]⟩ (w_bsl (id := 56) [(0, .d (.agg (eShard t1)))] [t1] eShard rfl trivial rfl (ble _ _ rfl) slT22 zr45 teShard (ble _ _ rfl) rfl (by kernel_rfl) rfl rfl (by kernel_rfl) (by kernel_rfl)) ?_
   obtain ⟨e35, h⟩ := gpos h
   refine sq_cons ⟨_, [(.b 1007, .spent), (.b 57, .row false 45 17 ((t7 ++ [t1]).map eShard)), (.t 57, .own 57 17 (t7 ++ [t1]).length)]⟩ (w_app 57 t7 ([t1]) eShard rfl rfl trivial rfl (ble _ _ rfl) slT22 elT45 teShard rfl rfl rfl (.own 56 _ _ rfl) rfl e35) ?_
   refine sM 7 (.own 57 17 (t7 ++ [t1]).length) rfl rfl ?_
   refine sq_nil ?_
   refine sr ?_
   refine sM 58 (.own 57 17 (t7 ++ [t1]).length) rfl rfl ?_
   refine sT 59 (.ptr 3 0) rfl (v_field_box (off := 0) (a0 := 0) rfl · · · fo26_0 rfl) ?_
   refine sS 3 0 [.own 57 17 (t7 ++ [t1]).length] sz22 rfl rfl rfl rfl rfl (ones_of rfl) rfl ?_
   refine sq_nil ?_
   refine ht_seq ?_
   refine ht_weak (wk_still_row 57 _ _ _ rfl) ?_
   refine ht_weak (wk_row (.c 3 0) (nc 3 0) 57 _ _ _ _ rfl rfl (lm _ _)) ?_
   refine ht_weak (wk_row (.t 7) (nb 7) 57 _ _ _ _ rfl rfl (lm _ _)) ?_
   refine ht_weak (wk_row (.t 57) (nb 57) 57 _ _ _ _ rfl rfl (lm _ _)) ?_
   refine ht_weak (wk_row (.t 58) (nb 58) 57 _ _ _ _ rfl rfl (lm _ _)) ?_
   refine ht_region ?_
   refine sT 60 (.d (.agg (eCell ({t0 with mShards := (t7 ++ [t1])})))) rfl (w_ldb 3 0 rfl · · · ag26 rfl rfl (ble _ _ rfl) rfl) ?_
   refine sS 6 0 ((eCell ({t0 with mShards := (t7 ++ [t1])})).map V.d) sz26 rfl rfl rfl rfl rfl (ones_of rfl) rfl ?_
   refine sz ?_
   cases h
   exact ret1 rfl (.cell rfl rfl ag26 (ble _ _ rfl) rfl)
  replace h := cneg e34 h
  refine ht_skip ?_
  refine sr ?_
  refine sM 58 (.own 1007 17 t7.length) rfl rfl ?_
  refine sT 59 (.ptr 3 0) rfl (v_field_box (off := 0) (a0 := 0) rfl · · · fo26_0 rfl) ?_
  refine sS 3 0 [.own 1007 17 t7.length] sz22 rfl rfl rfl rfl rfl (ones_of rfl) rfl ?_
  refine sq_nil ?_
  refine ht_seq ?_
  refine ht_weak (wk_still_row 1007 _ _ _ rfl) ?_
  refine ht_weak (wk_row (.c 3 0) (nc 3 0) 1007 _ _ _ _ rfl rfl (lm _ _)) ?_
  refine ht_weak (wk_row (.t 7) (nb 7) 1007 _ _ _ _ rfl rfl (lm _ _)) ?_
  refine ht_weak (wk_row (.t 58) (nb 58) 1007 _ _ _ _ rfl rfl (lm _ _)) ?_
  refine ht_region ?_
  refine sT 60 (.d (.agg (eCell ({t0 with mShards := t7})))) rfl (w_ldb 3 0 rfl · · · ag26 rfl rfl (ble _ _ rfl) rfl) ?_
  refine sS 6 0 ((eCell ({t0 with mShards := t7})).map V.d) sz26 rfl rfl rfl rfl rfl (ones_of rfl) rfl ?_
  refine sz ?_
  cases h
  exact ret1 rfl (.cell rfl rfl ag26 (ble _ _ rfl) rfl)
 refine sr ?_
 refine sM 9 (iV 0) rfl rfl ?_
 refine sq_nil ?_
 refine ht_block ?_
 refine ht_rd h (fun _ => rfl) (fun (t7_1, t8_1, t9) => tell [(.b 3, .box false 5), (.b 6, .box false 5), (.b 1007, .row false 45 17 (t7_1.map eShard)), (.c 3 0, .d (.sl 17 (t0.mShards.map eShard))), (.c 3 1, iV t0.mTop.mWall), (.c 3 2, iV t0.mTop.mTick), (.c 3 3, iV t0.mTop.mNode), (.c 3 4, iV t0.mDropped), (.c 6 0, .d (.sl 17 (([] : List Shard).map eShard))), (.c 6 1, iV 0), (.c 6 2, iV 0), (.c 6 3, iV 0), (.c 6 4, iV 0), (.t 3, .ptr 3 0), (.t 4, .d (.dp (eShard t1))), (.t 6, .ptr 6 0), (.t 7, .own 1007 17 t7_1.length), (.t 8, bV t8_1), (.t 9, iV t9)]) (wkt (wk_nilrow (.t 7) (nb 7) 1001007 45 17 rfl rfl) (wr (fun i => bif Nat.beq i 1007 then 1001007 else i) rfl rfl)) fun k v8 h K33 j7 => ?_
 obtain ⟨t7_1, t8_1, t9⟩ := v8
 rw [F79_l1] at h
 refine ht_seq ?_
 refine sr ?_
 refine sM 11 (iV t9) rfl rfl ?_
 refine sT 12 (.ptr 3 0) rfl (v_field_box (off := 0) (a0 := 0) rfl · · · fo26_0 rfl) ?_
 refine sT 13 (.d (.sl 17 (t0.mShards.map eShard))) rfl (v_load_box1 (id := 3) (off := 0) rfl · · · onT22 rfl rfl (ble _ _ rfl) rfl) ?_
 refine sT 14 (iV (t0.mShards.length : Int)) rfl (w_len t0.mShards eShard rfl rfl · · · slT22 rfl) ?_
 refine sT 15 (bV (ltI t9 (t0.mShards.length : Int))) rfl (vb rfl rfl rfl (b_lss rfl)) ?_
 refine sq_nil ?_
 refine ht_cond rfl (fun e9 => ?_) (fun e9 => ?_)
 ·replace h := cpos e9 h
  refine ht_skip ?_
  refine ht_seq ?_
  refine ht_block ?_
  refine ht_bj h (fun (t7_2, t8_2) => tell [(.b 3, .box false 5), (.b 6, .box false 5), (.b 1007, .row false 45 17 (t7_2.map eShard)), (.c 3 0, .d (.sl 17 (t0.mShards.map eShard))), (.c 3 1, iV t0.mTop.mWall), (.c 3 2, iV t0.mTop.mTick), (.c 3 3, iV t0.mTop.mNode), (.c 3 4, iV t0.mDropped), (.c 6 0, .d (.sl 17 (([] : List Shard).map eShard))), (.c 6 1, iV 0), (.c 6 2, iV 0), (.c 6 3, iV 0), (.c 6 4, iV 0), (.t 3, .ptr 3 0), (.t 4, .d (.dp (eShard t1))), (.t 6, .ptr 6 0), (.t 7, .own 1007 17 t7_2.length), (.t 8, bV t8_2), (.t 9, iV t9)]) (fun v10 h => ?_) (fun v10 K11 h j13 => ?_)
  ·obtain ⟨t7_2, t8_2⟩ := v10
   refine ht_seq ?_
   refine ht_region_draw mixed ?_
   refine rT 35 (.ptr 3 0) rfl (v_field_box (off := 0) (a0 := 0) rfl · · · fo26_0 rfl) ?_
   refine rT 36 (.d (.sl 17 (t0.mShards.map eShard))) rfl (v_load_box1 (id := 3) (off := 0) rfl · · · onT22 rfl rfl (ble _ _ rfl) rfl) ?_
   refine rM 37 (iV t9) rfl rfl ?_
   obtain ⟨e29, h⟩ := gpos h
   refine rT 38 (.d (.dp (eShard (rd t0.mShards t9)))) rfl (w_idx t0.mShards eShard rfl · · · slT22 rfl rfl e29) ?_
   refine rD 39 (eShard (rd t0.mShards t9)) fo45_0 rfl rfl rfl ?_
   refine rT 40 (iV (rd t0.mShards t9).mID) rfl (vl rfl onT3 rfl rfl) ?_
   refine rD 41 (eShard t1) fo45_0 rfl rfl rfl ?_
   refine rT 42 (iV t1.mID) rfl (vl rfl onT3 rfl rfl) ?_
   refine rT 43 (bV (!eqI (rd t0.mShards t9).mID t1.mID)) rfl (vb rfl rfl rfl (b_neq rfl)) ?_
   refine rg_nil ⟨by kernel_rfl, ?_⟩
   refine ht_cond rfl (fun e30 => ?_) (fun e30 => ?_)
   ·replace h := cpos e30 h
    refine ht_region ?_
    refine sM 44 (.own 1007 17 t7_2.length) rfl rfl ?_
    refine sT 45 (.ptr 3 0) rfl (v_field_box (off := 0) (a0 := 0) rfl · · · fo26_0 rfl) ?_
    refine sT 46 (.d (.sl 17 (t0.mShards.map eShard))) rfl (v_load_box1 (id := 3) (off := 0) rfl · · · onT22 rfl rfl (ble _ _ rfl) rfl) ?_
    refine sM 47 (iV t9) rfl rfl ?_
    obtain ⟨e31, h⟩ := gpos h
    refine sT 48 (.d (.dp (eShard (rd t0.mShards t9)))) rfl (w_idx t0.mShards eShard rfl · · · slT22 rfl rfl e31) ?_
    refine sP 49 (eShard (rd t0.mShards t9)) (eShard (rd t0.mShards t9)) ag45 rfl rfl rfl rfl rfl ?_
    refine sq_cons ⟨_, [(.b 50, .row false 45 17 (([(rd t0.mShards t9)]).map eShard)), (.t 50, .own 50 17 ([(rd t0.mShards t9)]).length)]⟩ (w_bsl (id := 50) [(0, .d (.agg (eShard (rd t0.mShards t9))))] [(rd t0.mShards t9)] eShard rfl trivial rfl (ble _ _ rfl) slT22 zr45 teShard (ble _ _ rfl) rfl (by kernel_rfl) rfl rfl (by kernel_rfl) (by kernel_rfl)) ?_
    obtain ⟨e32, h⟩ := gpos h
    refine sq_cons ⟨_, [(.b 1007, .spent), (.b 51, .row false 45 17 ((t7_2 ++ [(rd t0.mShards t9)]).map eShard)), (.t 51, .own 51 17 (t7_2 ++ [(rd t0.mShards t9)]).length)]⟩ (w_app 51 t7_2 ([(rd t0.mShards t9)]) eShard rfl rfl trivial rfl (ble _ _ rfl) slT22 elT45 teShard rfl rfl rfl (.own 50 _ _ rfl) rfl e32) ?_
    refine sM 7 (.own 51 17 (t7_2 ++ [(rd t0.mShards t9)]).length) rfl rfl ?_
    refine sq_nil ?_
    refine ht_region ?_
    refine sM 16 (iV t9) rfl rfl ?_
    refine sT 17 (iV (IntKind.wrap .i64 (t9 + 1))) rfl (vb rfl rfl rfl (b_add rfl)) ?_
    refine sM 9 (iV (IntKind.wrap .i64 (t9 + 1))) rfl rfl ?_
    refine sq_nil ?_
    exact j7 _ _ h (wr (fun i => bif Nat.beq i 1007 then 51 else i) rfl rfl)
   replace h := cneg e30 h
   refine ht_skip ?_
   refine ht_region ?_
   refine sM 16 (iV t9) rfl rfl ?_
   refine sT 17 (iV (IntKind.wrap .i64 (t9 + 1))) rfl (vb rfl rfl rfl (b_add rfl)) ?_
   refine sM 9 (iV (IntKind.wrap .i64 (t9 + 1))) rfl rfl ?_
   refine sq_nil ?_
   exact j7 _ _ h (wi rfl rfl)
  refine ht_seq ?_
  refine ht_region_draw mixed ?_
  refine rM 18 (bV t8_1) rfl rfl ?_
  refine rT 19 (bV (!t8_1)) rfl (vu rfl rfl (u_not rfl)) ?_
  refine rM 20 (bV (!t8_1)) rfl rfl ?_
  refine rG 21 (.d (.dp (eShard t1))) rfl rfl (fun e15 => (vD (eShard t1) fo45_0 · · · rfl rfl)) ?_
  refine rG 22 (iV t1.mID) rfl rfl (fun e16 => (vl rfl onT3 (gv e16) rfl)) ?_
  refine rG 23 (.ptr 3 0) rfl rfl (fun e17 => (v_field_box (off := 0) (a0 := 0) rfl · · · fo26_0 rfl)) ?_
  refine rG 24 (.d (.sl 17 (t0.mShards.map eShard))) rfl rfl (fun e18 => (v_load_box1 (id := 3) (off := 0) rfl · · · onT22 (gv e18) rfl (ble _ _ rfl) rfl)) ?_
  refine rG 25 (iV t9) rfl rfl (fun e19 => (vm rfl rfl)) ?_
  obtain ⟨e21, h⟩ := gpos h
  refine rG 26 (.d (.dp (eShard (rd t0.mShards t9)))) rfl rfl (fun e20 => (w_idx t0.mShards eShard rfl · · · slT22 (gv e20) (gv e20) (orT e21 e20))) ?_
  refine rG 27 (.d (.dp (eShard (rd t0.mShards t9)))) rfl rfl (fun e22 => (vD (eShard (rd t0.mShards t9)) fo45_0 · · · rfl (gv e22))) ?_
  refine rG 28 (iV (rd t0.mShards t9).mID) rfl rfl (fun e23 => (vl rfl onT3 (gv e23) rfl)) ?_
  refine rG 29 (bV (leI t1.mID (rd t0.mShards t9).mID)) rfl rfl (fun e24 => (vb rfl (gv e24) (gv e24) (b_leq rfl))) ?_
  refine rT 30 (bV ((!t8_1) && (leI t1.mID (rd t0.mShards t9).mID))) rfl (vp rfl rfl (fun e25 => (gv e25)) (fun e26 => rfl) (pA _ _)) ?_
  refine rg_nil ⟨by kernel_rfl, ?_⟩
  refine ht_cond rfl (fun e27 => ?_) (fun e27 => ?_)
  ·replace h := cpos e27 h
   refine sr ?_
   refine sM 31 (.own 1007 17 t7_1.length) rfl rfl ?_
   refine sP 32 (eShard t1) (eShard t1) ag45 rfl rfl rfl rfl rfl ?_
   refine sq_cons ⟨_, [(.b 33, .row false 45 17 (([t1]).map eShard)), (.t 33, .own 33 17 ([t1]).length)]⟩ (w_bsl (id := 33) [(0, .d (.agg (eShard t1)))] [t1] eShard rfl trivial rfl (ble _ _ rfl) slT22 zr45 teShard (ble _ _ rfl) rfl (by kernel_rfl) rfl rfl (by kernel_rfl) (by kernel_rfl)) ?_
   obtain ⟨e28, h⟩ := gpos h
   refine sq_cons ⟨_, [(.b 1007, .spent), (.b 34, .row false 45 17 ((t7_1 ++ [t1]).map eShard)), (.t 34, .own 34 17 (t7_1 ++ [t1]).length)]⟩ (w_app 34 t7_1 ([t1]) eShard rfl rfl trivial rfl (ble _ _ rfl) slT22 elT45 teShard rfl rfl rfl (.own 33 _ _ rfl) rfl e28) ?_
   refine sM 7 (.own 34 17 (t7_1 ++ [t1]).length) rfl rfl ?_
   refine sq_nil ?_
   refine ht_region ?_
   refine sM 8 (bV true) rfl rfl ?_
   refine sq_nil ?_
   cases h
   exact j13 _ (wr (fun i => bif Nat.beq i 1007 then 34 else i) rfl rfl)
  replace h := cneg e27 h
  refine ht_skip ?_
  cases h
  exact j13 _ (wi rfl rfl)
 replace h := cneg e9 h
 refine ht_exit ?_
 refine tq ?_
 refine tq ?_
 refine bq_hit ?_
 cases h
 exact j4 _ (wi rfl rfl)
theorem s102 (k : Nat) (t0 : List Version) (t1 : List Version) (r : Bool) (h : F102 k t0 t1 = some r) : Awp.Spec Tryz.prog amb 102 [(.sl 5 (t0.map eVersion)), (.sl 5 (t1.map eVersion))] (.ds [(.s (.bool r))]) := by
 rw [F102] at h
 refine spec_of Tryz.func102 rfl (ble _ _ rfl) fun w0 ok0 lt0 hA => ?_
 refine sr ?_
 refine sM 4 (bV false) rfl rfl ?_
 refine sq_nil ?_
 refine ht_seq ?_
 refine sr ?_
 refine sM 6 (.d (.sl 5 (t0.map eVersion))) rfl rfl ?_
 refine sT 7 (iV (t0.length : Int)) rfl (w_len t0 eVersion rfl rfl · · · slT96 rfl) ?_
 refine sM 8 (.d (.sl 5 (t1.map eVersion))) rfl rfl ?_
 refine sT 9 (iV (t1.length : Int)) rfl (w_len t1 eVersion rfl rfl · · · slT96 rfl) ?_
 refine sT 10 (bV (!eqI (t0.length : Int) (t1.length : Int))) rfl (vb rfl rfl rfl (b_neq rfl)) ?_
 refine sq_nil ?_
 refine ht_cond rfl (fun e1 => ?_) (fun e1 => ?_)
 ·replace h := cpos e1 h
  refine sr ?_
  refine sM 4 (bV false) rfl rfl ?_
  refine sz ?_
  cases h
  exact ret1 rfl (.tmp rfl)
 replace h := cneg e1 h
 refine ht_skip ?_
 refine ht_gj (go_id' h) (fun _ => tell []) (fun _ h => ?_) (fun v2 K3 h j5 r6 => ?_)
 ·refine sr ?_
  refine sM 4 (bV true) rfl rfl ?_
  refine sz ?_
  cases h
  exact ret1 rfl (.tmp rfl)
 refine sr ?_
 refine sM 5 (iV 0) rfl rfl ?_
 refine sq_nil ?_
 refine ht_block ?_
 refine ht_rd h (fun _ => rfl) (fun t5 => tell [(.t 0, .d (.sl 5 (t0.map eVersion))), (.t 1, .d (.sl 5 (t1.map eVersion))), (.t 5, iV t5)]) (wi rfl rfl) fun k t5 h K14 j8 => ?_
 rw [F102_l1] at h
 refine ht_seq ?_
 refine sr ?_
 refine sM 11 (iV t5) rfl rfl ?_
 refine sM 12 (.d (.sl 5 (t0.map eVersion))) rfl rfl ?_
 refine sT 13 (iV (t0.length : Int)) rfl (w_len t0 eVersion rfl rfl · · · slT96 rfl) ?_
 refine sT 14 (bV (ltI t5 (t0.length : Int))) rfl (vb rfl rfl rfl (b_lss rfl)) ?_
 refine sq_nil ?_
 refine ht_cond rfl (fun e10 => ?_) (fun e10 => ?_)
 ·replace h := cpos e10 h
  refine ht_skip ?_
  refine ht_seq ?_
  refine ht_block ?_
  refine ht_seq ?_
  refine ht_region_draw mixed ?_
  refine rM 17 (.d (.sl 5 (t0.map eVersion))) rfl rfl ?_
  refine rM 18 (iV t5) rfl rfl ?_
  obtain ⟨e11, h⟩ := gpos h
  refine rT 19 (.d (.dp (eVersion (rd t0 t5)))) rfl (w_idx t0 eVersion rfl · · · slT96 rfl rfl e11) ?_
  refine rP 20 (eVersion (rd t0 t5)) (eVersion (rd t0 t5)) ag93 rfl rfl rfl rfl rfl ?_
  refine rM 21 (.d (.sl 5 (t1.map eVersion))) rfl rfl ?_
  refine rM 22 (iV t5) rfl rfl ?_
  obtain ⟨e12, h⟩ := gpos h
  refine rT 23 (.d (.dp (eVersion (rd t1 t5)))) rfl (w_idx t1 eVersion rfl · · · slT96 rfl rfl e12) ?_
  refine rP 24 (eVersion (rd t1 t5)) (eVersion (rd t1 t5)) ag93 rfl rfl rfl rfl rfl ?_
  refine rT 25 (bV (!(qVersion (rd t0 t5) (rd t1 t5)))) rfl (v_bin_neq (f := eVersion) rfl · · · rfl rfl rfl rfl eg93 (eq93 _ _)) ?_
  refine rg_nil ⟨by kernel_rfl, ?_⟩
  refine ht_cond rfl (fun e13 => ?_) (fun e13 => ?_)
  ·replace h := cpos e13 h
   refine sr ?_
   refine sM 4 (bV false) rfl rfl ?_
   refine sz ?_
   cases h
   cases r6 _ rfl
   exact ret1 rfl (.tmp rfl)
  replace h := cneg e13 h
  refine ht_skip ?_
  refine ht_region ?_
  refine sM 15 (iV t5) rfl rfl ?_
  refine sT 16 (iV (IntKind.wrap .i64 (t5 + 1))) rfl (vb rfl rfl rfl (b_add rfl)) ?_
  refine sM 5 (iV (IntKind.wrap .i64 (t5 + 1))) rfl rfl ?_
  refine sq_nil ?_
  exact j8 _ _ h (wi rfl rfl)
 replace h := cneg e10 h
 refine ht_exit ?_
 refine tq ?_
 refine tq ?_
 refine bq_hit ?_
 cases h
 exact j5 _ _ rfl (wi rfl rfl)
theorem s40 (k : Nat) (t0 : List Entry) (t1 : List Entry) (r : Bool) (h : F40 k t0 t1 = some r) : Awp.Spec Tryz.prog amb 40 [(.sl 2 (t0.map eEntry)), (.sl 2 (t1.map eEntry))] (.ds [(.s (.bool r))]) := by
 rw [F40] at h
 refine spec_of Tryz.func40 rfl (ble _ _ rfl) fun w0 ok0 lt0 hA => ?_
 refine sr ?_
 refine sM 4 (bV false) rfl rfl ?_
 refine sq_nil ?_
 refine ht_seq ?_
 refine sr ?_
 refine sM 6 (.d (.sl 2 (t0.map eEntry))) rfl rfl ?_
 refine sT 7 (iV (t0.length : Int)) rfl (w_len t0 eEntry rfl rfl · · · slT42 rfl) ?_
 refine sM 8 (.d (.sl 2 (t1.map eEntry))) rfl rfl ?_
 refine sT 9 (iV (t1.length : Int)) rfl (w_len t1 eEntry rfl rfl · · · slT42 rfl) ?_
 refine sT 10 (bV (!eqI (t0.length : Int) (t1.length : Int))) rfl (vb rfl rfl rfl (b_neq rfl)) ?_
 refine sq_nil ?_
 refine ht_cond rfl (fun e1 => ?_) (fun e1 => ?_)
 ·replace h := cpos e1 h
  refine sr ?_
  refine sM 4 (bV false) rfl rfl ?_
  refine sz ?_
  cases h
  exact ret1 rfl (.tmp rfl)
 replace h := cneg e1 h
 refine ht_skip ?_
 refine ht_gj (go_id' h) (fun _ => tell []) (fun _ h => ?_) (fun v2 K3 h j5 r6 => ?_)
 ·refine sr ?_
  refine sM 4 (bV true) rfl rfl ?_
  refine sz ?_
  cases h
  exact ret1 rfl (.tmp rfl)
 refine sr ?_
 refine sM 5 (iV 0) rfl rfl ?_
 refine sq_nil ?_
 refine ht_block ?_
 refine ht_rd h (fun _ => rfl) (fun t5 => tell [(.t 0, .d (.sl 2 (t0.map eEntry))), (.t 1, .d (.sl 2 (t1.map eEntry))), (.t 5, iV t5)]) (wi rfl rfl) fun k t5 h K31 j8 => ?_
 rw [F40_l1] at h
 refine ht_seq ?_
 refine sr ?_
 refine sM 11 (iV t5) rfl rfl ?_
 refine sM 12 (.d (.sl 2 (t0.map eEntry))) rfl rfl ?_
 refine sT 13 (iV (t0.length : Int)) rfl (w_len t0 eEntry rfl rfl · · · slT42 rfl) ?_
 refine sT 14 (bV (ltI t5 (t0.length : Int))) rfl (vb rfl rfl rfl (b_lss rfl)) ?_
 refine sq_nil ?_
 refine ht_cond rfl (fun e10 => ?_) (fun e10 => ?_)
 ·replace h := cpos e10 h
  refine ht_skip ?_
  refine ht_seq ?_
  refine ht_block ?_
  refine ht_seq ?_
  refine ht_region_draw mixed ?_
  refine rM 17 (.d (.sl 2 (t0.map eEntry))) rfl rfl ?_
  refine rM 18 (iV t5) rfl rfl ?_
  obtain ⟨e11, h⟩ := gpos h
  refine rT 19 (.d (.dp (eEntry (rd t0 t5)))) rfl (w_idx t0 eEntry rfl · · · slT42 rfl rfl e11) ?_
  refine rD 20 (eEntry (rd t0 t5)) fo116_0 rfl rfl rfl ?_
  refine rT 21 (sV (rd t0 t5).mKey) rfl (vl rfl onT9 rfl rfl) ?_
  refine rM 22 (.d (.sl 2 (t1.map eEntry))) rfl rfl ?_
  refine rM 23 (iV t5) rfl rfl ?_
  obtain ⟨e12, h⟩ := gpos h
  refine rT 24 (.d (.dp (eEntry (rd t1 t5)))) rfl (w_idx t1 eEntry rfl · · · slT42 rfl rfl e12) ?_
  refine rD 25 (eEntry (rd t1 t5)) fo116_0 rfl rfl rfl ?_
  refine rT 26 (sV (rd t1 t5).mKey) rfl (vl rfl onT9 rfl rfl) ?_
  refine rT 27 (bV (!strEq (rd t0 t5).mKey (rd t1 t5).mKey)) rfl (vb rfl rfl rfl (b_neS rfl)) ?_
  refine rM 28 (bV (!strEq (rd t0 t5).mKey (rd t1 t5).mKey)) rfl rfl ?_
  refine rF 29 (.d (.sl 2 (t0.map eEntry))) rfl rfl (fun e13 => (vm rfl rfl)) ?_
  refine rF 30 (iV t5) rfl rfl (fun e14 => (vm rfl rfl)) ?_
  obtain ⟨e16, h⟩ := gpos h
  refine rF 31 (.d (.dp (eEntry (rd t0 t5)))) rfl rfl (fun e15 => (w_idx t0 eEntry rfl · · · slT42 (gv (nF e15)) (gv (nF e15)) (orT e16 (nF e15)))) ?_
  refine rF 32 (.d (.dp (List.drop 1 (eEntry (rd t0 t5))))) rfl rfl (fun e17 => (vD (eEntry (rd t0 t5)) fo116_1 · · · rfl (gv (nF e17)))) ?_
  refine rF 33 (.d (.sl 5 ((rd t0 t5).mChain.map eVersion))) rfl rfl (fun e18 => (vl rfl onT96 (gv (nF e18)) rfl)) ?_
  refine rF 34 (.d (.sl 2 (t1.map eEntry))) rfl rfl (fun e19 => (vm rfl rfl)) ?_
  refine rF 35 (iV t5) rfl rfl (fun e20 => (vm rfl rfl)) ?_
  obtain ⟨e22, h⟩ := gpos h
  refine rF 36 (.d (.dp (eEntry (rd t1 t5)))) rfl rfl (fun e21 => (w_idx t1 eEntry rfl · · · slT42 (gv (nF e21)) (gv (nF e21)) (orT e22 (nF e21)))) ?_
  refine rF 37 (.d (.dp (List.drop 1 (eEntry (rd t1 t5))))) rfl rfl (fun e23 => (vD (eEntry (rd t1 t5)) fo116_1 · · · rfl (gv (nF e23)))) ?_
  refine rF 38 (.d (.sl 5 ((rd t1 t5).mChain.map eVersion))) rfl rfl (fun e24 => (vl rfl onT96 (gv (nF e24)) rfl)) ?_
  obtain ⟨t39, c26, h⟩ := bpos h
  refine rF 39 (bV t39) rfl rfl (fun e25 => (vC (s102 k (rd t0 t5).mChain (rd t1 t5).mChain _ (cpos (nF e25) c26)) en102 · · · rfl (cc (gv (nF e25)) (cc (gv (nF e25)) rfl)) rfl)) ?_
  refine rF 40 (bV (!t39)) rfl rfl (fun e27 => (vu rfl (gv (nF e27)) (u_not rfl))) ?_
  refine rT 41 (bV ((!strEq (rd t0 t5).mKey (rd t1 t5).mKey) || (!t39))) rfl (vp rfl rfl (fun e28 => rfl) (fun e29 => (gv (nF e29))) (pO _ _)) ?_
  refine rg_nil ⟨by kernel_rfl, ?_⟩
  refine ht_cond rfl (fun e30 => ?_) (fun e30 => ?_)
  ·replace h := cpos e30 h
   refine sr ?_
   refine sM 4 (bV false) rfl rfl ?_
   refine sz ?_
   cases h
   cases r6 _ rfl
   exact ret1 rfl (.tmp rfl)
  replace h := cneg e30 h
  refine ht_skip ?_
  refine ht_region ?_
  refine sM 15 (iV t5) rfl rfl ?_
  refine sT 16 (iV (IntKind.wrap .i64 (t5 + 1))) rfl (vb rfl rfl rfl (b_add rfl)) ?_
  refine sM 5 (iV (IntKind.wrap .i64 (t5 + 1))) rfl rfl ?_
  refine sq_nil ?_
  exact j8 _ _ h (wi rfl rfl)
 replace h := cneg e10 h
 refine ht_exit ?_
 refine tq ?_
 refine tq ?_
 refine bq_hit ?_
 cases h
 exact j5 _ _ rfl (wi rfl rfl)
end Go.Proofs.Gd
