/- Lemmas behind GdGoP, part 4: they hold as they stand, without a condition beyond their own. -/
import Derived.Test.YthhpelmjnmlgjaaGreatDoorGo3
set_option linter.unusedVariables false
set_option maxRecDepth 100000
set_option maxHeartbeats 4000000
namespace Go.Proofs.Gd
open Go Go.Awp Go.Proofs
theorem s158 (k : Nat) (t0 : List Version) (t1 : Version) (r : (List Version) × Int) (h : F158 k t0 t1 = some r) : Awp.Spec Tryz.prog amb 158 [(.sl 5 (t0.map eVersion)), (.agg (eVersion t1))] (.ds [(.sl 5 (r.1.map eVersion)), (.s (.int .i64 r.2))]) := by
 rw [F158] at h
 refine spec_of Tryz.func158 rfl (ble _ _ rfl) fun w0 ok0 lt0 hA => ?_
 refine sr ?_
 refine sT 3 (.d (.dp (eVersion t1))) rfl (v_box_d (cs := (eVersion t1)) rfl · · · rfl rfl (ones_of rfl)) ?_
 refine sM 4 (.d (.s (.slice none 0 0))) rfl rfl ?_
 refine sM 5 (iV 0) rfl rfl ?_
 refine sq_nil ?_
 refine ht_seq ?_
 refine ht_block ?_
 refine sr ?_
 refine sM 7 (.d (.sl 5 (t0.map eVersion))) rfl rfl ?_
 obtain ⟨t8, c1, h⟩ := bpos h
 refine sT 8 (bV t8) rfl (w_call (ds := [(.sl 5 (t0.map eVersion))]) (caps := []) (l := [(.s (.bool t8))]) (s136 k t0 _ c1) rfl rfl rfl en136 · · · (.inl ⟨rfl, rfl⟩) rfl rfl) ?_
 refine sT 9 (bV (!t8)) rfl (v_un rfl · · · rfl (u_not rfl)) ?_
 refine sM 10 (bV (!t8)) rfl rfl ?_
 refine sF 11 (.d (.agg (eVersion t1))) rfl rfl (fun e2 => (w_ldp (eVersion t1) (eVersion t1) rfl · · · ag93 rfl (ble _ _ rfl) rfl)) ?_
 obtain ⟨t12, c4, h⟩ := bpos h
 refine sF 12 (bV t12) rfl rfl (fun e3 => (w_call (ds := [(.agg (eVersion t1))]) (caps := []) (l := [(.s (.bool t12))]) (s166 k t1 _ (cpos (nF e3) c4)) rfl rfl rfl en166 · · · (.inl ⟨rfl, rfl⟩) (cc (gv (nF e3)) rfl) rfl)) ?_
 refine sF 13 (bV (!t12)) rfl rfl (fun e5 => (v_un rfl · · · (gv (nF e5)) (u_not rfl))) ?_
 refine sT 14 (bV ((!t8) || (!t12))) rfl (v_pickB rfl · · · rfl (fun e6 => rfl) (fun e7 => (gv (nF e7))) (pO _ _)) ?_
 refine sM 6 (bV ((!t8) || (!t12))) rfl rfl ?_
 refine sq_nil ?_
 refine ht_cond rfl (fun e8 => ?_) (fun e8 => ?_)
 ·replace h := cpos e8 h
  refine sr ?_
  refine sM 4 (.d (.s (.slice none 0 0))) rfl rfl ?_
  refine sM 5 (iV 1) rfl rfl ?_
  refine sq_nil ?_
  refine ht_ret ?_
  cases h
  exact retM_wk (wk_nil (.t 4) (nb 4) 5 rfl) (ret2 rfl (.tmp rfl) (.tmp rfl))
 replace h := cneg e8 h
 refine ht_seq ?_
 refine ht_region_draw mixed ?_
 refine rM 16 (.d (.sl 5 (t0.map eVersion))) rfl rfl ?_
 refine rT 17 (iV (t0.length : Int)) rfl (w_len t0 eVersion rfl rfl · · · slT96 rfl) ?_
 refine rT 18 (bV (ltI 0 (t0.length : Int))) rfl (v_bin rfl · · · rfl rfl (b_gtr rfl)) ?_
 refine rM 19 (bV (ltI 0 (t0.length : Int))) rfl rfl ?_
 refine rG 20 (.d (.sl 5 (t0.map eVersion))) rfl rfl (fun e9 => (v_move (.inl rfl) · · · rfl)) ?_
 refine rG 21 (.d (.sl 5 (t0.map eVersion))) rfl rfl (fun e10 => (v_move (.inl rfl) · · · rfl)) ?_
 refine rG 22 (iV (t0.length : Int)) rfl rfl (fun e11 => (w_len t0 eVersion rfl rfl · · · slT96 (gv e11))) ?_
 refine rG 23 (iV (IntKind.wrap .i64 ((t0.length : Int) - 1))) rfl rfl (fun e12 => (v_bin rfl · · · (gv e12) rfl (b_sub rfl))) ?_
 obtain ⟨e14, h⟩ := gpos h
 refine rG 24 (.d (.dp (eVersion (rd t0 (IntKind.wrap .i64 ((t0.length : Int) - 1)))))) rfl rfl (fun e13 => (w_idx t0 eVersion rfl · · · slT96 (gv e13) (gv e13) (orT e14 e13))) ?_
 refine rG 25 (.d (.dp (eVersion (rd t0 (IntKind.wrap .i64 ((t0.length : Int) - 1)))))) rfl rfl (fun e15 => (v_field_dp (a0 := 0) (cs := (eVersion (rd t0 (IntKind.wrap .i64 ((t0.length : Int) - 1))))) rfl · · · fo93_0 (gv e15))) ?_
 refine rG 26 (.d (.agg (eStamp (rd t0 (IntKind.wrap .i64 ((t0.length : Int) - 1))).mAt))) rfl rfl (fun e16 => (w_ldp (eVersion (rd t0 (IntKind.wrap .i64 ((t0.length : Int) - 1)))) (eStamp (rd t0 (IntKind.wrap .i64 ((t0.length : Int) - 1))).mAt) rfl · · · ag24 (gv e16) (ble _ _ rfl) rfl)) ?_
 refine rG 27 (.d (.dp (eVersion t1))) rfl rfl (fun e17 => (v_field_dp (a0 := 0) (cs := (eVersion t1)) rfl · · · fo93_0 rfl)) ?_
 refine rG 28 (.d (.agg (eStamp t1.mAt))) rfl rfl (fun e18 => (w_ldp (eVersion t1) (eStamp t1.mAt) rfl · · · ag24 (gv e18) (ble _ _ rfl) rfl)) ?_
 obtain ⟨t29, c20, h⟩ := bpos h
 refine rG 29 (iV t29) rfl rfl (fun e19 => (w_call (ds := [(.agg (eStamp (rd t0 (IntKind.wrap .i64 ((t0.length : Int) - 1))).mAt)), (.agg (eStamp t1.mAt))]) (caps := []) (l := [(.s (.int .i64 t29))]) (s42 k (rd t0 (IntKind.wrap .i64 ((t0.length : Int) - 1))).mAt t1.mAt _ (cpos e19 c20)) rfl rfl rfl en42 · · · (.inl ⟨rfl, rfl⟩) (cc (gv e19) (cc (gv e19) rfl)) rfl)) ?_
 refine rG 30 (bV (leI 0 t29)) rfl rfl (fun e21 => (v_bin rfl · · · (gv e21) rfl (b_geq rfl))) ?_
 refine rT 31 (bV ((ltI 0 (t0.length : Int)) && (leI 0 t29))) rfl (v_pickB rfl · · · rfl (fun e22 => (gv e22)) (fun e23 => rfl) (pA _ _)) ?_
 refine rM 15 (bV ((ltI 0 (t0.length : Int)) && (leI 0 t29))) rfl rfl ?_
 refine rg_nil ⟨by kernel_rfl, ?_⟩
 refine ht_cond rfl (fun e24 => ?_) (fun e24 => ?_)
 ·replace h := cpos e24 h
  refine sr ?_
  refine sM 4 (.d (.s (.slice none 0 0))) rfl rfl ?_
  refine sM 5 (iV 9) rfl rfl ?_
  refine sq_nil ?_
  refine ht_ret ?_
  cases h
  exact retM_wk (wk_nil (.t 4) (nb 4) 5 rfl) (ret2 rfl (.tmp rfl) (.tmp rfl))
 replace h := cneg e24 h
 refine sr ?_
 refine sM 33 (.d (.sl 5 (t0.map eVersion))) rfl rfl ?_
 refine sT 34 (iV (t0.length : Int)) rfl (w_len t0 eVersion rfl rfl · · · slT96 rfl) ?_
 refine sT 35 (bV (eqI (t0.length : Int) 64)) rfl (v_bin rfl · · · rfl rfl (b_eql rfl)) ?_
 refine sM 32 (bV (eqI (t0.length : Int) 64)) rfl rfl ?_
 refine sq_nil ?_
 refine ht_cond rfl (fun e25 => ?_) (fun e25 => ?_)
 ·replace h := cpos e25 h
  refine sr ?_
  refine sM 4 (.d (.s (.slice none 0 0))) rfl rfl ?_
  refine sM 5 (iV 6) rfl rfl ?_
  refine sq_nil ?_
  refine ht_ret ?_
  cases h
  exact retM_wk (wk_nil (.t 4) (nb 4) 5 rfl) (ret2 rfl (.tmp rfl) (.tmp rfl))
 replace h := cneg e25 h
 refine ht_skip ?_
 refine ht_seq ?_
 refine ht_region_draw mixed ?_
 refine rM 36 (.d (.sl 5 (t0.map eVersion))) rfl rfl ?_
 obtain ⟨t37, c26, h⟩ := bpos h
 refine rg_cons ⟨_, [(.b 37, .row false 93 5 (t37.map eVersion)), (.t 37, .own 37 5 t37.length)]⟩ (w_call_own (id := 37) (ds := [(.sl 5 (t0.map eVersion))]) (caps := []) eVersion (s170o k t0 _ c26) rfl rfl rfl en170 trivial rfl (ble _ _ rfl) (.inl ⟨rfl, rfl⟩) rfl rfl) ?_
 refine rT 38 (.d (.agg (eVersion t1))) rfl (w_ldp (eVersion t1) (eVersion t1) rfl · · · ag93 rfl (ble _ _ rfl) rfl) ?_
 refine rg_cons ⟨_, [(.b 39, .row false 93 5 (([t1]).map eVersion)), (.t 39, .own 39 5 ([t1]).length)]⟩ (w_bsl (id := 39) [(0, .d (.agg (eVersion t1)))] [t1] eVersion rfl trivial rfl (ble _ _ rfl) slT96 zr93 teVersion (ble _ _ rfl) rfl (by kernel_rfl) rfl rfl (by kernel_rfl) (by kernel_rfl)) ?_
 obtain ⟨e27, h⟩ := gpos h
 refine rg_cons ⟨_, [(.b 37, .spent), (.b 40, .row false 93 5 ((t37 ++ [t1]).map eVersion)), (.t 40, .own 40 5 (t37 ++ [t1]).length)]⟩ (w_app 40 t37 ([t1]) eVersion rfl rfl trivial rfl (ble _ _ rfl) slT96 elT93 teVersion rfl rfl rfl (.own 39 _ _ rfl) rfl e27) ?_
 refine rM 4 (.own 40 5 (t37 ++ [t1]).length) rfl rfl ?_
 refine rM 5 (iV 0) rfl rfl ?_
 refine rg_nil ⟨by kernel_rfl, ?_⟩
 refine ht_ret ?_
 cases h
 exact retM_wk (wk_still_row 40 _ _ _ rfl) (retM_wk (wk_row (.t 4) (nb 4) 40 _ _ _ _ rfl rfl (lm _ _)) (retM_wk (wk_row (.t 40) (nb 40) 40 _ _ _ _ rfl rfl (lm _ _)) (ret2 rfl (.tmp rfl) (.tmp rfl))))
theorem s173o (k : Nat) (t0 : List Entry) (r : (List Entry)) (h : F173o k t0 = some r) : Awp.Spec Tryz.prog amb 173 [(.sl 2 (t0.map eEntry))] (.own 116 2 (r.map eEntry)) := by
 rw [F173o] at h
 refine spec_of Tryz.func173 rfl (ble _ _ rfl) fun w0 ok0 lt0 hA => ?_
 refine sr ?_
 refine sM 2 (.d (.s (.slice none 0 0))) rfl rfl ?_
 refine sq_nil ?_
 refine ht_seq ?_
 refine sr ?_
 refine sM 3 (.d (.sl 2 (t0.map eEntry))) rfl rfl ?_
 refine sq_nileq rfl trivial rfl (ble _ _ rfl) und42 rfl (fun b1 hb2 => ?_)
 refine sq_nil ?_
 refine ht_cond rfl (fun e3 => ?_) (fun e3 => ?_)
 ·obtain rfl : t0 = [] := List.map_eq_nil_iff.1 (hb2 e3)
  replace h : (some ([]) : Option (List Entry)) = some r := by (obtain ⟨_, h⟩ := gpos h; cases h; rfl)
  refine sr ?_
  refine sM 2 (.d (.s (.slice none 0 0))) rfl rfl ?_
  refine sq_nil ?_
  refine ht_ret ?_
  cases h
  exact retM_wk (wk_nilrow (.t 2) (nb 2) 3002 116 2 rfl rfl) (ret_own rfl rfl rfl rfl)
 refine ht_skip ?_
 refine sr ?_
 refine sq_cons ⟨_, [(.b 5, .row false 116 2 (([] : List Entry).map eEntry)), (.t 5, .own 5 2 ([] : List Entry).length)]⟩ (w_bsl (id := 5) [] ([] : List Entry) eEntry rfl trivial rfl (ble _ _ rfl) slT42 zr116 teEntry (ble _ _ rfl) rfl (by kernel_rfl) rfl rfl (by kernel_rfl) (by kernel_rfl)) ?_
 refine sM 6 (.d (.sl 2 (t0.map eEntry))) rfl rfl ?_
 obtain ⟨e4, h⟩ := gpos h
 refine sq_cons ⟨_, [(.b 5, .spent), (.b 7, .row false 116 2 ((([] : List Entry) ++ t0).map eEntry)), (.t 7, .own 7 2 (([] : List Entry) ++ t0).length)]⟩ (w_app 7 ([] : List Entry) t0 eEntry rfl rfl trivial rfl (ble _ _ rfl) slT42 elT116 teEntry rfl rfl rfl (.d) rfl e4) ?_
 refine sM 2 (.own 7 2 (([] : List Entry) ++ t0).length) rfl rfl ?_
 refine sq_nil ?_
 refine ht_ret ?_
 cases h
 exact ret_own rfl rfl rfl (lm _ _)
theorem s149o (k : Nat) (t0 : List Entry) (r : (List Entry)) (h : F149o k t0 = some r) : Awp.Spec Tryz.prog amb 149 [(.sl 2 (t0.map eEntry))] (.own 116 2 (r.map eEntry)) := by
 rw [F149o] at h
 refine spec_of Tryz.func149 rfl (ble _ _ rfl) fun w0 ok0 lt0 hA => ?_
 refine sr ?_
 refine sM 2 (.d (.s (.slice none 0 0))) rfl rfl ?_
 refine sq_nil ?_
 refine sr ?_
 refine sM 5 (.d (.sl 2 (t0.map eEntry))) rfl rfl ?_
 obtain ⟨t6, c1, h⟩ := bpos h
 refine sq_cons ⟨_, [(.b 6, .row false 116 2 (t6.map eEntry)), (.t 6, .own 6 2 t6.length)]⟩ (w_call_own (id := 6) (ds := [(.sl 2 (t0.map eEntry))]) (caps := []) eEntry (s173o k t0 _ c1) rfl rfl rfl en173 trivial rfl (ble _ _ rfl) (.inl ⟨rfl, rfl⟩) rfl rfl) ?_
 refine sM 3 (.own 6 2 t6.length) rfl rfl ?_
 refine sq_nil ?_
 refine ht_bj h (fun t3 => tell [(.b 1003, .row false 116 2 (t3.map eEntry)), (.t 3, .own 1003 2 t3.length)]) (fun t3 h => ?_) (fun v2 K3 h j5 => ?_)
 ·refine sr ?_
  refine sM 23 (.own 1003 2 t3.length) rfl rfl ?_
  refine sM 2 (.own 1003 2 t3.length) rfl rfl ?_
  refine sq_nil ?_
  refine ht_ret ?_
  cases h
  exact ret_own rfl rfl rfl (lm _ _)
 refine sr ?_
 refine sM 7 (.own 6 2 t6.length) rfl rfl ?_
 refine sT 8 (iV (t6.length : Int)) rfl (v_len_own rfl rfl · · · und42 rfl) ?_
 refine sM 9 (iV 0) rfl rfl ?_
 refine sq_nil ?_
 refine ht_block ?_
 refine ht_rd h (fun _ => rfl) (fun (t3_1, t9) => tell [(.b 1003, .row false 116 2 (t3_1.map eEntry)), (.t 3, .own 1003 2 t3_1.length), (.t 8, iV (t6.length : Int)), (.t 9, iV t9)]) (wk_ren _ (fun i => bif Nat.beq i 1003 then 6 else i) rfl ⟨rfl, rfl, rfl, rfl, trivial⟩) fun k v9 h K14 j8 => ?_
 obtain ⟨t3_1, t9⟩ := v9
 rw [F149o_l1] at h
 refine sr ?_
 refine sT 10 (bV (ltI t9 (t6.length : Int))) rfl (v_bin rfl · · · rfl rfl (b_lss rfl)) ?_
 refine sq_nil ?_
 refine ht_seq ?_
 refine ht_cond rfl (fun e10 => ?_) (fun e10 => ?_)
 ·replace h := cpos e10 h
  refine ht_skip ?_
  refine ht_seq ?_
  refine ht_block ?_
  refine sr ?_
  refine sM 11 (iV t9) rfl rfl ?_
  refine sM 4 (iV t9) rfl rfl ?_
  refine sq_nil ?_
  refine ht_region ?_
  refine sM 12 (.own 1003 2 t3_1.length) rfl rfl ?_
  refine sM 13 (iV t9) rfl rfl ?_
  refine sM 14 (.own 1003 2 t3_1.length) rfl rfl ?_
  refine sM 15 (iV t9) rfl rfl ?_
  obtain ⟨e11, h⟩ := gpos h
  refine sT 16 (.elp 1003 2 t9.toNat 0) rfl (w_idx_own t3_1 rfl · · · slT42 rfl rfl e11) ?_
  refine sT 17 (.elp 1003 2 t9.toNat 1) rfl (v_field_elp (a0 := 1) rfl · · · fo116_1 rfl) ?_
  refine sT 18 (.d (.sl 5 ((rd t3_1 t9).mChain.map eVersion))) rfl (w_ldE1 t3_1 eEntry rfl · · · onT96 rfl e11 rfl rfl) ?_
  obtain ⟨t19, c12, h⟩ := bpos h
  refine sT 19 (.d (.sl 5 (t19.map eVersion))) rfl (w_call (ds := [(.sl 5 ((rd t3_1 t9).mChain.map eVersion))]) (caps := []) (l := [(.sl 5 (t19.map eVersion))]) (s170 k (rd t3_1 t9).mChain _ c12) rfl rfl rfl en170 · · · (.inl ⟨rfl, rfl⟩) rfl rfl) ?_
  obtain ⟨e13, h⟩ := gpos h
  refine sT 20 (.elp 1003 2 t9.toNat 0) rfl (w_idx_own t3_1 rfl · · · slT42 rfl rfl e13) ?_
  refine sT 21 (.elp 1003 2 t9.toNat 1) rfl (v_field_elp (a0 := 1) rfl · · · fo116_1 rfl) ?_
  refine sq_cons ⟨_, [(.b 1003, .row false 116 2 ((t3_1.set t9.toNat ({(rd t3_1 t9) with mChain := t19})).map eEntry))]⟩ (w_st_elp t3_1 eEntry [(.sl 5 (t19.map eVersion))] ({(rd t3_1 t9) with mChain := t19}) rfl trivial rfl sz96 rfl rfl e13 rfl rfl (ones_of rfl) (ble _ _ rfl) rfl) ?_
  refine sq_nil ?_
  refine ht_weak (wk_eq (.t 3) (.own 1003 2 (t3_1.set t9.toNat ({(rd t3_1 t9) with mChain := t19})).length) (lset _ _ _ _ _)) ?_
  refine ht_weak (wk_eq (.t 12) (.own 1003 2 (t3_1.set t9.toNat ({(rd t3_1 t9) with mChain := t19})).length) (lset _ _ _ _ _)) ?_
  refine ht_weak (wk_eq (.t 14) (.own 1003 2 (t3_1.set t9.toNat ({(rd t3_1 t9) with mChain := t19})).length) (lset _ _ _ _ _)) ?_
  refine ht_region ?_
  refine sT 22 (iV (IntKind.wrap .i64 (t9 + 1))) rfl (v_bin rfl · · · rfl rfl (b_add rfl)) ?_
  refine sM 9 (iV (IntKind.wrap .i64 (t9 + 1))) rfl rfl ?_
  refine sq_nil ?_
  exact j8 _ _ h (wk_ren _ (fun i => i) rfl ⟨rfl, rfl, rfl, rfl, trivial⟩)
 replace h := cneg e10 h
 refine ht_exit ?_
 refine tq ?_
 refine tq ?_
 refine bq_hit ?_
 cases h
 exact j5 _ (wk_ren _ (fun i => i) rfl ⟨rfl, rfl, trivial⟩)
theorem s127 (k : Nat) (t0 : List Entry) (t1 : ByteArray) (t2 : Version) (r : (List Entry) × Int) (h : F127 k t0 t1 t2 = some r) : Awp.Spec Tryz.prog amb 127 [(.sl 2 (t0.map eEntry)), (.s (.string t1)), (.agg (eVersion t2))] (.ds [(.sl 2 (r.1.map eEntry)), (.s (.int .i64 r.2))]) := by
 rw [F127] at h
 refine spec_of Tryz.func127 rfl (ble _ _ rfl) fun w0 ok0 lt0 hA => ?_
 refine sr ?_
 refine sT 5 (.d (.dp (eVersion t2))) rfl (v_box_d (cs := (eVersion t2)) rfl · · · rfl rfl (ones_of rfl)) ?_
 refine sM 6 (.d (.s (.slice none 0 0))) rfl rfl ?_
 refine sM 7 (iV 0) rfl rfl ?_
 refine sq_nil ?_
 refine ht_seq ?_
 refine sr ?_
 refine sM 14 (.d (.sl 2 (t0.map eEntry))) rfl rfl ?_
 obtain ⟨t15, c1, h⟩ := bpos h
 refine sT 15 (bV t15) rfl (w_call (ds := [(.sl 2 (t0.map eEntry))]) (caps := []) (l := [(.s (.bool t15))]) (s81 k t0 _ c1) rfl rfl rfl en81 · · · (.inl ⟨rfl, rfl⟩) rfl rfl) ?_
 refine sT 16 (bV (!t15)) rfl (v_un rfl · · · rfl (u_not rfl)) ?_
 refine sM 17 (bV (!t15)) rfl rfl ?_
 refine sF 18 (sV t1) rfl rfl (fun e2 => (v_move (.inl rfl) · · · rfl)) ?_
 obtain ⟨t19, c4, h⟩ := bpos h
 refine sF 19 (bV t19) rfl rfl (fun e3 => (w_call (ds := [(.s (.string t1))]) (caps := []) (l := [(.s (.bool t19))]) (s122 k t1 _ (cpos (nF e3) c4)) rfl rfl rfl en122 · · · (.inl ⟨rfl, rfl⟩) (cc (gv (nF e3)) rfl) rfl)) ?_
 refine sF 20 (bV (!t19)) rfl rfl (fun e5 => (v_un rfl · · · (gv (nF e5)) (u_not rfl))) ?_
 refine sT 21 (bV ((!t15) || (!t19))) rfl (v_pickB rfl · · · rfl (fun e6 => rfl) (fun e7 => (gv (nF e7))) (pO _ _)) ?_
 refine sq_nil ?_
 refine ht_cond rfl (fun e8 => ?_) (fun e8 => ?_)
 ·replace h := cpos e8 h
  refine sr ?_
  refine sM 6 (.d (.s (.slice none 0 0))) rfl rfl ?_
  refine sM 7 (iV 1) rfl rfl ?_
  refine sq_nil ?_
  refine ht_ret ?_
  cases h
  exact retM_wk (wk_nil (.t 6) (nb 6) 2 rfl) (ret2 rfl (.tmp rfl) (.tmp rfl))
 replace h := cneg e8 h
 refine ht_skip ?_
 refine sr ?_
 refine sM 23 (.d (.sl 2 (t0.map eEntry))) rfl rfl ?_
 refine sM 24 (sV t1) rfl rfl ?_
 obtain ⟨⟨t25a, t25b⟩, c9, h⟩ := bpos h
 refine sT 25 (.tup [iV t25a, bV t25b]) rfl (w_call (ds := [(.sl 2 (t0.map eEntry)), (.s (.string t1))]) (caps := []) (l := [(.s (.int .i64 t25a)), (.s (.bool t25b))]) (s148 k t0 t1 _ c9) rfl rfl rfl en148 · · · (.inl ⟨rfl, rfl⟩) rfl rfl) ?_
 refine sM 22 (.tup [iV t25a, bV t25b]) rfl rfl ?_
 refine sT 26 (iV t25a) rfl (v_extract rfl · · · rfl rfl) ?_
 refine sT 27 (bV t25b) rfl (v_extract rfl · · · rfl rfl) ?_
 refine sM 8 (iV t25a) rfl rfl ?_
 refine sM 9 (bV t25b) rfl rfl ?_
 refine sq_nil ?_
 refine sr ?_
 refine sM 10 (.d (.s (.slice none 0 0))) rfl rfl ?_
 refine sq_nil ?_
 refine ht_bj h (fun t10 => tell [(.t 0, .d (.sl 2 (t0.map eEntry))), (.t 1, sV t1), (.t 5, .d (.dp (eVersion t2))), (.t 8, iV t25a), (.t 9, bV t25b), (.t 10, .d (.sl 5 (t10.map eVersion)))]) (fun t10 h => ?_) (fun v10 K11 h j13 => ?_)
 ·refine sr ?_
  refine sM 35 (.d (.sl 5 (t10.map eVersion))) rfl rfl ?_
  refine sT 36 (.d (.agg (eVersion t2))) rfl (w_ldp (eVersion t2) (eVersion t2) rfl · · · ag93 rfl (ble _ _ rfl) rfl) ?_
  obtain ⟨⟨t37a, t37b⟩, c17, h⟩ := bpos h
  refine sT 37 (.tup [.d (.sl 5 (t37a.map eVersion)), iV t37b]) rfl (w_call (ds := [(.sl 5 (t10.map eVersion)), (.agg (eVersion t2))]) (caps := []) (l := [(.sl 5 (t37a.map eVersion)), (.s (.int .i64 t37b))]) (s158 k t10 t2 _ c17) rfl rfl rfl en158 · · · (.inl ⟨rfl, rfl⟩) rfl rfl) ?_
  refine sM 34 (.tup [.d (.sl 5 (t37a.map eVersion)), iV t37b]) rfl rfl ?_
  refine sT 38 (.d (.sl 5 (t37a.map eVersion))) rfl (v_extract rfl · · · rfl rfl) ?_
  refine sT 39 (iV t37b) rfl (v_extract rfl · · · rfl rfl) ?_
  refine sM 11 (.d (.sl 5 (t37a.map eVersion))) rfl rfl ?_
  refine sM 12 (iV t37b) rfl rfl ?_
  refine sq_nil ?_
  refine ht_seq ?_
  refine ht_block ?_
  refine sr ?_
  refine sM 41 (iV t37b) rfl rfl ?_
  refine sT 42 (bV (!eqI t37b 0)) rfl (v_bin rfl · · · rfl rfl (b_neq rfl)) ?_
  refine sM 40 (bV (!eqI t37b 0)) rfl rfl ?_
  refine sq_nil ?_
  refine ht_cond rfl (fun e18 => ?_) (fun e18 => ?_)
  ·replace h := cpos e18 h
   refine sr ?_
   refine sM 43 (iV t37b) rfl rfl ?_
   refine sM 6 (.d (.s (.slice none 0 0))) rfl rfl ?_
   refine sM 7 (iV t37b) rfl rfl ?_
   refine sq_nil ?_
   refine ht_ret ?_
   cases h
   exact retM_wk (wk_nil (.t 6) (nb 6) 2 rfl) (ret2 rfl (.tmp rfl) (.tmp rfl))
  replace h := cneg e18 h
  refine sr ?_
  refine sM 45 (bV t25b) rfl rfl ?_
  refine sT 46 (bV (!t25b)) rfl (v_un rfl · · · rfl (u_not rfl)) ?_
  refine sM 47 (bV (!t25b)) rfl rfl ?_
  refine sG 48 (.d (.sl 2 (t0.map eEntry))) rfl rfl (fun e19 => (v_move (.inl rfl) · · · rfl)) ?_
  refine sG 49 (iV (t0.length : Int)) rfl rfl (fun e20 => (w_len t0 eEntry rfl rfl · · · slT42 (gv e20))) ?_
  refine sG 50 (bV (eqI (t0.length : Int) 64)) rfl rfl (fun e21 => (v_bin rfl · · · (gv e21) rfl (b_eql rfl))) ?_
  refine sT 51 (bV ((!t25b) && (eqI (t0.length : Int) 64))) rfl (v_pickB rfl · · · rfl (fun e22 => (gv e22)) (fun e23 => rfl) (pA _ _)) ?_
  refine sM 44 (bV ((!t25b) && (eqI (t0.length : Int) 64))) rfl rfl ?_
  refine sq_nil ?_
  refine ht_cond rfl (fun e24 => ?_) (fun e24 => ?_)
  ·replace h := cpos e24 h
   refine sr ?_
   refine sM 6 (.d (.s (.slice none 0 0))) rfl rfl ?_
   refine sM 7 (iV 6) rfl rfl ?_
   refine sq_nil ?_
   refine ht_ret ?_
   cases h
   exact retM_wk (wk_nil (.t 6) (nb 6) 2 rfl) (ret2 rfl (.tmp rfl) (.tmp rfl))
  replace h := cneg e24 h
  refine ht_skip ?_
  refine sr ?_
  refine sM 52 (.d (.sl 2 (t0.map eEntry))) rfl rfl ?_
  obtain ⟨t53, c25, h⟩ := bpos h
  refine sq_cons ⟨_, [(.b 53, .row false 116 2 (t53.map eEntry)), (.t 53, .own 53 2 t53.length)]⟩ (w_call_own (id := 53) (ds := [(.sl 2 (t0.map eEntry))]) (caps := []) eEntry (s149o k t0 _ c25) rfl rfl rfl en149 trivial rfl (ble _ _ rfl) (.inl ⟨rfl, rfl⟩) rfl rfl) ?_
  refine sM 13 (.own 53 2 t53.length) rfl rfl ?_
  refine sq_nil ?_
  refine ht_seq ?_
  refine sr ?_
  refine sM 54 (bV t25b) rfl rfl ?_
  refine sT 55 (bV (!t25b)) rfl (v_un rfl · · · rfl (u_not rfl)) ?_
  refine sq_nil ?_
  refine ht_cond rfl (fun e26 => ?_) (fun e26 => ?_)
  ·replace h := cpos e26 h
   refine ht_region ?_
   refine sM 56 (.own 53 2 t53.length) rfl rfl ?_
   refine sM 57 (iV t25a) rfl rfl ?_
   refine sM 58 (sV t1) rfl rfl ?_
   refine sT 59 (.d (.agg (eEntry (⟨t1, ([] : List Version)⟩ : Entry)))) rfl (w_bld zc116 ((eEntry (⟨t1, ([] : List Version)⟩ : Entry)).map V.d) [(0, sV t1)] rfl · · · zw116 rfl ft116 rfl rfl rfl rfl) ?_
   refine sq_cons ⟨_, [(.b 60, .row false 116 2 (([(⟨t1, ([] : List Version)⟩ : Entry)]).map eEntry)), (.t 60, .own 60 2 ([(⟨t1, ([] : List Version)⟩ : Entry)]).length)]⟩ (w_bsl (id := 60) [(0, .d (.agg (eEntry (⟨t1, ([] : List Version)⟩ : Entry))))] [(⟨t1, ([] : List Version)⟩ : Entry)] eEntry rfl trivial rfl (ble _ _ rfl) slT42 zr116 teEntry (ble _ _ rfl) rfl (by kernel_rfl) rfl rfl (by kernel_rfl) (by kernel_rfl)) ?_
   obtain ⟨e27, h⟩ := gpos h
   refine sq_cons ⟨_, [(.b 53, .spent), (.b 61, .row false 116 2 ((List.take t25a.toNat t53 ++ [(⟨t1, ([] : List Version)⟩ : Entry)] ++ List.drop t25a.toNat t53).map eEntry)), (.t 61, .own 61 2 (List.take t25a.toNat t53 ++ [(⟨t1, ([] : List Version)⟩ : Entry)] ++ List.drop t25a.toNat t53).length)]⟩ (w_ins 61 t53 (⟨t1, ([] : List Version)⟩ : Entry) eEntry insS159 rfl rfl rfl en159 trivial rfl (ble _ _ rfl) teEntry rfl rfl rfl rfl rfl rfl rfl e27) ?_
   refine sM 13 (.own 61 2 (List.take t25a.toNat t53 ++ [(⟨t1, ([] : List Version)⟩ : Entry)] ++ List.drop t25a.toNat t53).length) rfl rfl ?_
   refine sq_nil ?_
   refine sr ?_
   refine sM 62 (.own 61 2 (List.take t25a.toNat t53 ++ [(⟨t1, ([] : List Version)⟩ : Entry)] ++ List.drop t25a.toNat t53).length) rfl rfl ?_
   refine sM 63 (iV t25a) rfl rfl ?_
   refine sM 64 (.d (.sl 5 (t37a.map eVersion))) rfl rfl ?_
   obtain ⟨e28, h⟩ := gpos h
   refine sT 65 (.elp 61 2 t25a.toNat 0) rfl (w_idx_own (List.take t25a.toNat t53 ++ [(⟨t1, ([] : List Version)⟩ : Entry)] ++ List.drop t25a.toNat t53) rfl · · · slT42 rfl rfl e28) ?_
   refine sT 66 (.elp 61 2 t25a.toNat 1) rfl (v_field_elp (a0 := 1) rfl · · · fo116_1 rfl) ?_
   refine sq_cons ⟨_, [(.b 61, .row false 116 2 (((List.take t25a.toNat t53 ++ [(⟨t1, ([] : List Version)⟩ : Entry)] ++ List.drop t25a.toNat t53).set t25a.toNat ({(rd (List.take t25a.toNat t53 ++ [(⟨t1, ([] : List Version)⟩ : Entry)] ++ List.drop t25a.toNat t53) t25a) with mChain := t37a})).map eEntry))]⟩ (w_st_elp (List.take t25a.toNat t53 ++ [(⟨t1, ([] : List Version)⟩ : Entry)] ++ List.drop t25a.toNat t53) eEntry [(.sl 5 (t37a.map eVersion))] ({(rd (List.take t25a.toNat t53 ++ [(⟨t1, ([] : List Version)⟩ : Entry)] ++ List.drop t25a.toNat t53) t25a) with mChain := t37a}) rfl trivial rfl sz96 rfl rfl e28 rfl rfl (ones_of rfl) (ble _ _ rfl) rfl) ?_
   refine sq_nil ?_
   refine ht_seq ?_
   refine ht_weak (wk_eq (.t 13) (.own 61 2 ((List.take t25a.toNat t53 ++ [(⟨t1, ([] : List Version)⟩ : Entry)] ++ List.drop t25a.toNat t53).set t25a.toNat ({(rd (List.take t25a.toNat t53 ++ [(⟨t1, ([] : List Version)⟩ : Entry)] ++ List.drop t25a.toNat t53) t25a) with mChain := t37a})).length) (lset _ _ _ _ _)) ?_
   refine ht_weak (wk_eq (.t 61) (.own 61 2 ((List.take t25a.toNat t53 ++ [(⟨t1, ([] : List Version)⟩ : Entry)] ++ List.drop t25a.toNat t53).set t25a.toNat ({(rd (List.take t25a.toNat t53 ++ [(⟨t1, ([] : List Version)⟩ : Entry)] ++ List.drop t25a.toNat t53) t25a) with mChain := t37a})).length) (lset _ _ _ _ _)) ?_
   refine ht_weak (wk_eq (.t 62) (.own 61 2 ((List.take t25a.toNat t53 ++ [(⟨t1, ([] : List Version)⟩ : Entry)] ++ List.drop t25a.toNat t53).set t25a.toNat ({(rd (List.take t25a.toNat t53 ++ [(⟨t1, ([] : List Version)⟩ : Entry)] ++ List.drop t25a.toNat t53) t25a) with mChain := t37a})).length) (lset _ _ _ _ _)) ?_
   refine ht_region ?_
   refine sM 67 (.own 61 2 ((List.take t25a.toNat t53 ++ [(⟨t1, ([] : List Version)⟩ : Entry)] ++ List.drop t25a.toNat t53).set t25a.toNat ({(rd (List.take t25a.toNat t53 ++ [(⟨t1, ([] : List Version)⟩ : Entry)] ++ List.drop t25a.toNat t53) t25a) with mChain := t37a})).length) rfl rfl ?_
   refine sM 6 (.own 61 2 ((List.take t25a.toNat t53 ++ [(⟨t1, ([] : List Version)⟩ : Entry)] ++ List.drop t25a.toNat t53).set t25a.toNat ({(rd (List.take t25a.toNat t53 ++ [(⟨t1, ([] : List Version)⟩ : Entry)] ++ List.drop t25a.toNat t53) t25a) with mChain := t37a})).length) rfl rfl ?_
   refine sM 7 (iV 0) rfl rfl ?_
   refine sq_nil ?_
   refine ht_ret ?_
   cases h
   exact retM_wk (wk_still_row 61 _ _ _ rfl) (retM_wk (wk_row (.t 6) (nb 6) 61 _ _ _ _ rfl rfl (lm _ _)) (retM_wk (wk_row (.t 13) (nb 13) 61 _ _ _ _ rfl rfl (lm _ _)) (retM_wk (wk_row (.t 61) (nb 61) 61 _ _ _ _ rfl rfl (lm _ _)) (retM_wk (wk_row (.t 62) (nb 62) 61 _ _ _ _ rfl rfl (lm _ _)) (retM_wk (wk_row (.t 67) (nb 67) 61 _ _ _ _ rfl rfl (lm _ _)) (ret2 rfl (.tmp rfl) (.tmp rfl)))))))
  replace h := cneg e26 h
  refine ht_skip ?_
  refine sr ?_
  refine sM 62 (.own 53 2 t53.length) rfl rfl ?_
  refine sM 63 (iV t25a) rfl rfl ?_
  refine sM 64 (.d (.sl 5 (t37a.map eVersion))) rfl rfl ?_
  obtain ⟨e29, h⟩ := gpos h
  refine sT 65 (.elp 53 2 t25a.toNat 0) rfl (w_idx_own t53 rfl · · · slT42 rfl rfl e29) ?_
  refine sT 66 (.elp 53 2 t25a.toNat 1) rfl (v_field_elp (a0 := 1) rfl · · · fo116_1 rfl) ?_
  refine sq_cons ⟨_, [(.b 53, .row false 116 2 ((t53.set t25a.toNat ({(rd t53 t25a) with mChain := t37a})).map eEntry))]⟩ (w_st_elp t53 eEntry [(.sl 5 (t37a.map eVersion))] ({(rd t53 t25a) with mChain := t37a}) rfl trivial rfl sz96 rfl rfl e29 rfl rfl (ones_of rfl) (ble _ _ rfl) rfl) ?_
  refine sq_nil ?_
  refine ht_seq ?_
  refine ht_weak (wk_eq (.t 53) (.own 53 2 (t53.set t25a.toNat ({(rd t53 t25a) with mChain := t37a})).length) (lset _ _ _ _ _)) ?_
  refine ht_weak (wk_eq (.t 13) (.own 53 2 (t53.set t25a.toNat ({(rd t53 t25a) with mChain := t37a})).length) (lset _ _ _ _ _)) ?_
  refine ht_weak (wk_eq (.t 62) (.own 53 2 (t53.set t25a.toNat ({(rd t53 t25a) with mChain := t37a})).length) (lset _ _ _ _ _)) ?_
  refine ht_region ?_
  refine sM 67 (.own 53 2 (t53.set t25a.toNat ({(rd t53 t25a) with mChain := t37a})).length) rfl rfl ?_
  refine sM 6 (.own 53 2 (t53.set t25a.toNat ({(rd t53 t25a) with mChain := t37a})).length) rfl rfl ?_
  refine sM 7 (iV 0) rfl rfl ?_
  refine sq_nil ?_
  refine ht_ret ?_
  cases h
  exact retM_wk (wk_still_row 53 _ _ _ rfl) (retM_wk (wk_row (.t 6) (nb 6) 53 _ _ _ _ rfl rfl (lm _ _)) (retM_wk (wk_row (.t 13) (nb 13) 53 _ _ _ _ rfl rfl (lm _ _)) (retM_wk (wk_row (.t 53) (nb 53) 53 _ _ _ _ rfl rfl (lm _ _)) (retM_wk (wk_row (.t 62) (nb 62) 53 _ _ _ _ rfl rfl (lm _ _)) (retM_wk (wk_row (.t 67) (nb 67) 53 _ _ _ _ rfl rfl (lm _ _)) (ret2 rfl (.tmp rfl) (.tmp rfl)))))))
 refine sr ?_
 refine sM 28 (bV t25b) rfl rfl ?_
 refine sq_nil ?_
 refine ht_cond rfl (fun e15 => ?_) (fun e15 => ?_)
 ·replace h := cpos e15 h
  refine ht_region ?_
  refine sM 29 (.d (.sl 2 (t0.map eEntry))) rfl rfl ?_
  refine sM 30 (iV t25a) rfl rfl ?_
  obtain ⟨e16, h⟩ := gpos h
  refine sT 31 (.d (.dp (eEntry (rd t0 t25a)))) rfl (w_idx t0 eEntry rfl · · · slT42 rfl rfl e16) ?_
  refine sT 32 (.d (.dp (List.drop 1 (eEntry (rd t0 t25a))))) rfl (v_field_dp (a0 := 1) (cs := (eEntry (rd t0 t25a))) rfl · · · fo116_1 rfl) ?_
  refine sT 33 (.d (.sl 5 ((rd t0 t25a).mChain.map eVersion))) rfl (v_load_dp1 rfl · · · onT96 rfl rfl) ?_
  refine sM 10 (.d (.sl 5 ((rd t0 t25a).mChain.map eVersion))) rfl rfl ?_
  refine sq_nil ?_
  cases h
  exact j13 _ (wk_ren _ (fun i => i) rfl ⟨rfl, rfl, rfl, rfl, rfl, rfl, trivial⟩)
 replace h := cneg e15 h
 refine ht_skip ?_
 cases h
 exact j13 _ (wkt (wk_nil (.t 10) (nb 10) 5 rfl) (wk_ren _ (fun i => i) rfl ⟨rfl, rfl, rfl, rfl, rfl, rfl, trivial⟩))
theorem s160o (k : Nat) (t0 : List Done) (r : (List Done)) (h : F160o k t0 = some r) : Awp.Spec Tryz.prog amb 160 [(.sl 11 (t0.map eDone))] (.own 100 11 (r.map eDone)) := by
 rw [F160o] at h
 refine spec_of Tryz.func160 rfl (ble _ _ rfl) fun w0 ok0 lt0 hA => ?_
 refine sr ?_
 refine sM 2 (.d (.s (.slice none 0 0))) rfl rfl ?_
 refine sq_nil ?_
 refine ht_seq ?_
 refine sr ?_
 refine sM 3 (.d (.sl 11 (t0.map eDone))) rfl rfl ?_
 refine sq_nileq rfl trivial rfl (ble _ _ rfl) und43 rfl (fun b1 hb2 => ?_)
 refine sq_nil ?_
 refine ht_cond rfl (fun e3 => ?_) (fun e3 => ?_)
 ·obtain rfl : t0 = [] := List.map_eq_nil_iff.1 (hb2 e3)
  replace h : (some ([]) : Option (List Done)) = some r := by (obtain ⟨_, h⟩ := gpos h; cases h; rfl)
  refine sr ?_
  refine sM 2 (.d (.s (.slice none 0 0))) rfl rfl ?_
  refine sq_nil ?_
  refine ht_ret ?_
  cases h
  exact retM_wk (wk_nilrow (.t 2) (nb 2) 3002 100 11 rfl rfl) (ret_own rfl rfl rfl rfl)
 refine ht_skip ?_
 refine sr ?_
 refine sq_cons ⟨_, [(.b 5, .row false 100 11 (([] : List Done).map eDone)), (.t 5, .own 5 11 ([] : List Done).length)]⟩ (w_bsl (id := 5) [] ([] : List Done) eDone rfl trivial rfl (ble _ _ rfl) slT43 zr100 teDone (ble _ _ rfl) rfl (by kernel_rfl) rfl rfl (by kernel_rfl) (by kernel_rfl)) ?_
 refine sM 6 (.d (.sl 11 (t0.map eDone))) rfl rfl ?_
 obtain ⟨e4, h⟩ := gpos h
 refine sq_cons ⟨_, [(.b 5, .spent), (.b 7, .row false 100 11 ((([] : List Done) ++ t0).map eDone)), (.t 7, .own 7 11 (([] : List Done) ++ t0).length)]⟩ (w_app 7 ([] : List Done) t0 eDone rfl rfl trivial rfl (ble _ _ rfl) slT43 elT100 teDone rfl rfl rfl (.d) rfl e4) ?_
 refine sM 2 (.own 7 11 (([] : List Done) ++ t0).length) rfl rfl ?_
 refine sq_nil ?_
 refine ht_ret ?_
 cases h
 exact ret_own rfl rfl rfl (lm _ _)
theorem s128 (k : Nat) (t0 : List Done) (t1 : Done) (r : (List Done) × Int) (h : F128 k t0 t1 = some r) : Awp.Spec Tryz.prog amb 128 [(.sl 11 (t0.map eDone)), (.agg (eDone t1))] (.ds [(.sl 11 (r.1.map eDone)), (.s (.int .i64 r.2))]) := by
 rw [F128] at h
 refine spec_of Tryz.func128 rfl (ble _ _ rfl) fun w0 ok0 lt0 hA => ?_
 refine sr ?_
 refine sT 3 (.d (.dp (eDone t1))) rfl (v_box_d (cs := (eDone t1)) rfl · · · rfl rfl (ones_of rfl)) ?_
 refine sM 4 (.d (.s (.slice none 0 0))) rfl rfl ?_
 refine sM 5 (iV 0) rfl rfl ?_
 refine sq_nil ?_
 refine ht_seq ?_
 refine sr ?_
 refine sM 9 (.d (.sl 11 (t0.map eDone))) rfl rfl ?_
 obtain ⟨t10, c1, h⟩ := bpos h
 refine sT 10 (bV t10) rfl (w_call (ds := [(.sl 11 (t0.map eDone))]) (caps := []) (l := [(.s (.bool t10))]) (s82 k t0 _ c1) rfl rfl rfl en82 · · · (.inl ⟨rfl, rfl⟩) rfl rfl) ?_
 refine sT 11 (bV (!t10)) rfl (v_un rfl · · · rfl (u_not rfl)) ?_
 refine sM 12 (bV (!t10)) rfl rfl ?_
 refine sF 13 (.d (.agg (eDone t1))) rfl rfl (fun e2 => (w_ldp (eDone t1) (eDone t1) rfl · · · ag100 rfl (ble _ _ rfl) rfl)) ?_
 refine sF 14 (.d (.sl 11 (([t1]).map eDone))) rfl rfl (fun e3 => (w_bsl_d [(0, .d (.agg (eDone t1)))] [t1] eDone rfl · · · slT43 zr100 teDone (ble _ _ rfl) (cc (pr (gv (nF e3))) rfl) (by kernel_rfl) rfl rfl (by kernel_rfl))) ?_
 obtain ⟨t15, c5, h⟩ := bpos h
 refine sF 15 (bV t15) rfl rfl (fun e4 => (w_call (ds := [(.sl 11 (([t1]).map eDone))]) (caps := []) (l := [(.s (.bool t15))]) (s82 k ([t1]) _ (cpos (nF e4) c5)) rfl rfl rfl en82 · · · (.inl ⟨rfl, rfl⟩) (cc (gv (nF e4)) rfl) rfl)) ?_
 refine sF 16 (bV (!t15)) rfl rfl (fun e6 => (v_un rfl · · · (gv (nF e6)) (u_not rfl))) ?_
 refine sT 17 (bV ((!t10) || (!t15))) rfl (v_pickB rfl · · · rfl (fun e7 => rfl) (fun e8 => (gv (nF e8))) (pO _ _)) ?_
 refine sq_nil ?_
 refine ht_cond rfl (fun e9 => ?_) (fun e9 => ?_)
 ·replace h := cpos e9 h
  refine sr ?_
  refine sM 4 (.d (.s (.slice none 0 0))) rfl rfl ?_
  refine sM 5 (iV 1) rfl rfl ?_
  refine sq_nil ?_
  refine ht_ret ?_
  cases h
  exact retM_wk (wk_nil (.t 4) (nb 4) 11 rfl) (ret2 rfl (.tmp rfl) (.tmp rfl))
 replace h := cneg e9 h
 refine ht_skip ?_
 refine sr ?_
 refine sM 19 (.d (.sl 11 (t0.map eDone))) rfl rfl ?_
 refine sT 20 (.d (.dp (eDone t1))) rfl (v_field_dp (a0 := 0) (cs := (eDone t1)) rfl · · · fo100_0 rfl) ?_
 refine sT 21 (iV t1.mClient) rfl (v_load_dp1 rfl · · · onT3 rfl rfl) ?_
 obtain ⟨⟨t22a, t22b⟩, c10, h⟩ := bpos h
 refine sT 22 (.tup [iV t22a, bV t22b]) rfl (w_call (ds := [(.sl 11 (t0.map eDone)), (.s (.int .i64 t1.mClient))]) (caps := []) (l := [(.s (.int .i64 t22a)), (.s (.bool t22b))]) (s157 k t0 t1.mClient _ c10) rfl rfl rfl en157 · · · (.inl ⟨rfl, rfl⟩) rfl rfl) ?_
 refine sM 18 (.tup [iV t22a, bV t22b]) rfl rfl ?_
 refine sT 23 (iV t22a) rfl (v_extract rfl · · · rfl rfl) ?_
 refine sT 24 (bV t22b) rfl (v_extract rfl · · · rfl rfl) ?_
 refine sM 6 (iV t22a) rfl rfl ?_
 refine sM 7 (bV t22b) rfl rfl ?_
 refine sq_nil ?_
 refine ht_seq ?_
 refine ht_block ?_
 refine ht_seq ?_
 refine ht_region_draw mixed ?_
 refine rM 26 (bV t22b) rfl rfl ?_
 refine rM 27 (bV t22b) rfl rfl ?_
 refine rG 28 (.d (.sl 11 (t0.map eDone))) rfl rfl (fun e11 => (v_move (.inl rfl) · · · rfl)) ?_
 refine rG 29 (iV t22a) rfl rfl (fun e12 => (v_move (.inl rfl) · · · rfl)) ?_
 obtain ⟨e14, h⟩ := gpos h
 refine rG 30 (.d (.dp (eDone (rd t0 t22a)))) rfl rfl (fun e13 => (w_idx t0 eDone rfl · · · slT43 (gv e13) (gv e13) (orT e14 e13))) ?_
 refine rG 31 (.d (.dp (List.drop 1 (eDone (rd t0 t22a))))) rfl rfl (fun e15 => (v_field_dp (a0 := 1) (cs := (eDone (rd t0 t22a))) rfl · · · fo100_1 (gv e15))) ?_
 refine rG 32 (iV (rd t0 t22a).mReq) rfl rfl (fun e16 => (v_load_dp1 rfl · · · onT3 (gv e16) rfl)) ?_
 refine rG 33 (.d (.dp (List.drop 1 (eDone t1)))) rfl rfl (fun e17 => (v_field_dp (a0 := 1) (cs := (eDone t1)) rfl · · · fo100_1 rfl)) ?_
 refine rG 34 (iV t1.mReq) rfl rfl (fun e18 => (v_load_dp1 rfl · · · onT3 (gv e18) rfl)) ?_
 refine rG 35 (bV (leI t1.mReq (rd t0 t22a).mReq)) rfl rfl (fun e19 => (v_bin rfl · · · (gv e19) (gv e19) (b_geq rfl))) ?_
 refine rT 36 (bV (t22b && (leI t1.mReq (rd t0 t22a).mReq))) rfl (v_pickB rfl · · · rfl (fun e20 => (gv e20)) (fun e21 => rfl) (pA _ _)) ?_
 refine rM 25 (bV (t22b && (leI t1.mReq (rd t0 t22a).mReq))) rfl rfl ?_
 refine rg_nil ⟨by kernel_rfl, ?_⟩
 refine ht_cond rfl (fun e22 => ?_) (fun e22 => ?_)
 ·replace h := cpos e22 h
  refine sr ?_
  refine sM 4 (.d (.s (.slice none 0 0))) rfl rfl ?_
  refine sM 5 (iV 9) rfl rfl ?_
  refine sq_nil ?_
  refine ht_ret ?_
  cases h
  exact retM_wk (wk_nil (.t 4) (nb 4) 11 rfl) (ret2 rfl (.tmp rfl) (.tmp rfl))
 replace h := cneg e22 h
 refine sr ?_
 refine sM 38 (bV t22b) rfl rfl ?_
 refine sT 39 (bV (!t22b)) rfl (v_un rfl · · · rfl (u_not rfl)) ?_
 refine sM 40 (bV (!t22b)) rfl rfl ?_
 refine sG 41 (.d (.sl 11 (t0.map eDone))) rfl rfl (fun e23 => (v_move (.inl rfl) · · · rfl)) ?_
 refine sG 42 (iV (t0.length : Int)) rfl rfl (fun e24 => (w_len t0 eDone rfl rfl · · · slT43 (gv e24))) ?_
 refine sG 43 (bV (eqI (t0.length : Int) 8)) rfl rfl (fun e25 => (v_bin rfl · · · (gv e25) rfl (b_eql rfl))) ?_
 refine sT 44 (bV ((!t22b) && (eqI (t0.length : Int) 8))) rfl (v_pickB rfl · · · rfl (fun e26 => (gv e26)) (fun e27 => rfl) (pA _ _)) ?_
 refine sM 37 (bV ((!t22b) && (eqI (t0.length : Int) 8))) rfl rfl ?_
 refine sq_nil ?_
 refine ht_cond rfl (fun e28 => ?_) (fun e28 => ?_)
 ·replace h := cpos e28 h
  refine sr ?_
  refine sM 4 (.d (.s (.slice none 0 0))) rfl rfl ?_
  refine sM 5 (iV 6) rfl rfl ?_
  refine sq_nil ?_
  refine ht_ret ?_
  cases h
  exact retM_wk (wk_nil (.t 4) (nb 4) 11 rfl) (ret2 rfl (.tmp rfl) (.tmp rfl))
 replace h := cneg e28 h
 refine ht_skip ?_
 refine sr ?_
 refine sM 45 (.d (.sl 11 (t0.map eDone))) rfl rfl ?_
 obtain ⟨t46, c29, h⟩ := bpos h
 refine sq_cons ⟨_, [(.b 46, .row false 100 11 (t46.map eDone)), (.t 46, .own 46 11 t46.length)]⟩ (w_call_own (id := 46) (ds := [(.sl 11 (t0.map eDone))]) (caps := []) eDone (s160o k t0 _ c29) rfl rfl rfl en160 trivial rfl (ble _ _ rfl) (.inl ⟨rfl, rfl⟩) rfl rfl) ?_
 refine sM 8 (.own 46 11 t46.length) rfl rfl ?_
 refine sq_nil ?_
 refine ht_seq ?_
 refine sr ?_
 refine sM 47 (bV t22b) rfl rfl ?_
 refine sq_nil ?_
 refine ht_cond rfl (fun e30 => ?_) (fun e30 => ?_)
 ·replace h := cpos e30 h
  refine sr ?_
  refine sM 48 (.own 46 11 t46.length) rfl rfl ?_
  refine sM 49 (iV t22a) rfl rfl ?_
  refine sT 50 (.d (.agg (eDone t1))) rfl (w_ldp (eDone t1) (eDone t1) rfl · · · ag100 rfl (ble _ _ rfl) rfl) ?_
  obtain ⟨e31, h⟩ := gpos h
  refine sT 51 (.elp 46 11 t22a.toNat 0) rfl (w_idx_own t46 rfl · · · slT43 rfl rfl e31) ?_
  refine sq_cons ⟨_, [(.b 46, .row false 100 11 ((t46.set t22a.toNat t1).map eDone))]⟩ (w_st_elp t46 eDone (eDone t1) t1 rfl trivial rfl sz100 rfl rfl e31 rfl rfl (ones_of rfl) (ble _ _ rfl) rfl) ?_
  refine sq_nil ?_
  refine ht_seq ?_
  refine ht_weak (wk_eq (.t 46) (.own 46 11 (t46.set t22a.toNat t1).length) (lset _ _ _ _ _)) ?_
  refine ht_weak (wk_eq (.t 8) (.own 46 11 (t46.set t22a.toNat t1).length) (lset _ _ _ _ _)) ?_
  refine ht_weak (wk_eq (.t 48) (.own 46 11 (t46.set t22a.toNat t1).length) (lset _ _ _ _ _)) ?_
  refine ht_region ?_
  refine sM 52 (.own 46 11 (t46.set t22a.toNat t1).length) rfl rfl ?_
  refine sM 4 (.own 46 11 (t46.set t22a.toNat t1).length) rfl rfl ?_
  refine sM 5 (iV 0) rfl rfl ?_
  refine sq_nil ?_
  refine ht_ret ?_
  cases h
  exact retM_wk (wk_still_row 46 _ _ _ rfl) (retM_wk (wk_row (.t 4) (nb 4) 46 _ _ _ _ rfl rfl (lm _ _)) (retM_wk (wk_row (.t 8) (nb 8) 46 _ _ _ _ rfl rfl (lm _ _)) (retM_wk (wk_row (.t 46) (nb 46) 46 _ _ _ _ rfl rfl (lm _ _)) (retM_wk (wk_row (.t 48) (nb 48) 46 _ _ _ _ rfl rfl (lm _ _)) (retM_wk (wk_row (.t 52) (nb 52) 46 _ _ _ _ rfl rfl (lm _ _)) (ret2 rfl (.tmp rfl) (.tmp rfl)))))))
 replace h := cneg e30 h
 refine ht_skip ?_
 refine sr ?_
 refine sM 53 (.own 46 11 t46.length) rfl rfl ?_
 refine sM 54 (iV t22a) rfl rfl ?_
 refine sT 55 (.d (.agg (eDone t1))) rfl (w_ldp (eDone t1) (eDone t1) rfl · · · ag100 rfl (ble _ _ rfl) rfl) ?_
 refine sq_cons ⟨_, [(.b 56, .row false 100 11 (([t1]).map eDone)), (.t 56, .own 56 11 ([t1]).length)]⟩ (w_bsl (id := 56) [(0, .d (.agg (eDone t1)))] [t1] eDone rfl trivial rfl (ble _ _ rfl) slT43 zr100 teDone (ble _ _ rfl) rfl (by kernel_rfl) rfl rfl (by kernel_rfl) (by kernel_rfl)) ?_
 obtain ⟨e32, h⟩ := gpos h
 refine sq_cons ⟨_, [(.b 46, .spent), (.b 57, .row false 100 11 ((List.take t22a.toNat t46 ++ [t1] ++ List.drop t22a.toNat t46).map eDone)), (.t 57, .own 57 11 (List.take t22a.toNat t46 ++ [t1] ++ List.drop t22a.toNat t46).length)]⟩ (w_ins 57 t46 t1 eDone insS161 rfl rfl rfl en161 trivial rfl (ble _ _ rfl) teDone rfl rfl rfl rfl rfl rfl rfl e32) ?_
 refine sM 4 (.own 57 11 (List.take t22a.toNat t46 ++ [t1] ++ List.drop t22a.toNat t46).length) rfl rfl ?_
 refine sM 5 (iV 0) rfl rfl ?_
 refine sq_nil ?_
 refine ht_ret ?_
 cases h
 exact retM_wk (wk_still_row 57 _ _ _ rfl) (retM_wk (wk_row (.t 4) (nb 4) 57 _ _ _ _ rfl rfl (lm _ _)) (retM_wk (wk_row (.t 57) (nb 57) 57 _ _ _ _ rfl rfl (lm _ _)) (ret2 rfl (.tmp rfl) (.tmp rfl))))
theorem s98o (k : Nat) (t0 : List Shard) (r : (List Shard)) (h : F98o k t0 = some r) : Awp.Spec Tryz.prog amb 98 [(.sl 17 (t0.map eShard))] (.own 45 17 (r.map eShard)) := by
 rw [F98o] at h
 refine spec_of Tryz.func98 rfl (ble _ _ rfl) fun w0 ok0 lt0 hA => ?_
 refine sr ?_
 refine sM 2 (.d (.s (.slice none 0 0))) rfl rfl ?_
 refine sq_nil ?_
 refine ht_seq ?_
 refine sr ?_
 refine sM 3 (.d (.sl 17 (t0.map eShard))) rfl rfl ?_
 refine sq_nileq rfl trivial rfl (ble _ _ rfl) und22 rfl (fun b1 hb2 => ?_)
 refine sq_nil ?_
 refine ht_cond rfl (fun e3 => ?_) (fun e3 => ?_)
 ·obtain rfl : t0 = [] := List.map_eq_nil_iff.1 (hb2 e3)
  replace h : (some ([]) : Option (List Shard)) = some r := by (obtain ⟨_, h⟩ := gpos h; cases h; rfl)
  refine sr ?_
  refine sM 2 (.d (.s (.slice none 0 0))) rfl rfl ?_
  refine sq_nil ?_
  refine ht_ret ?_
  cases h
  exact retM_wk (wk_nilrow (.t 2) (nb 2) 3002 45 17 rfl rfl) (ret_own rfl rfl rfl rfl)
 refine ht_skip ?_
 refine sr ?_
 refine sq_cons ⟨_, [(.b 5, .row false 45 17 (([] : List Shard).map eShard)), (.t 5, .own 5 17 ([] : List Shard).length)]⟩ (w_bsl (id := 5) [] ([] : List Shard) eShard rfl trivial rfl (ble _ _ rfl) slT22 zr45 teShard (ble _ _ rfl) rfl (by kernel_rfl) rfl rfl (by kernel_rfl) (by kernel_rfl)) ?_
 refine sM 6 (.d (.sl 17 (t0.map eShard))) rfl rfl ?_
 obtain ⟨e4, h⟩ := gpos h
 refine sq_cons ⟨_, [(.b 5, .spent), (.b 7, .row false 45 17 ((([] : List Shard) ++ t0).map eShard)), (.t 7, .own 7 17 (([] : List Shard) ++ t0).length)]⟩ (w_app 7 ([] : List Shard) t0 eShard rfl rfl trivial rfl (ble _ _ rfl) slT22 elT45 teShard rfl rfl rfl (.d) rfl e4) ?_
 refine sM 2 (.own 7 17 (([] : List Shard) ++ t0).length) rfl rfl ?_
 refine sq_nil ?_
 refine ht_ret ?_
 cases h
 exact ret_own rfl rfl rfl (lm _ _)
theorem s95 (k : Nat) (t0 : Cell) (t1 : Shard) (r : Cell) (h : F95 k t0 t1 = some r) : Awp.Spec Tryz.prog amb 95 [(.agg (eCell t0)), (.agg (eShard t1))] (.ds [(.agg (eCell r))]) := by
 rw [F95] at h
 refine spec_of Tryz.func95 rfl (ble _ _ rfl) fun w0 ok0 lt0 hA => ?_
 refine sr ?_
 refine sq_cons _ (v_box (id := 2) (cs := (eCell t0).map V.d) rfl trivial rfl (ble _ _ rfl) rfl rfl (ones_of rfl) rfl) ?_
 refine sT 3 (.d (.dp (eShard t1))) rfl (v_box_d (cs := (eShard t1)) rfl · · · rfl rfl (ones_of rfl)) ?_
 refine sq_cons _ (v_alloc (id := 4) (cs := zc26) rfl trivial rfl (ble _ _ rfl) zu26 rfl ft26 rfl) ?_
 refine sq_nil ?_
 refine sr ?_
 refine sT 8 (.d (.agg (eCell t0))) rfl (w_ldb 2 0 rfl · · · ag26 rfl rfl (ble _ _ rfl) rfl) ?_
 refine sT 9 (.d (.dp (eShard t1))) rfl (v_field_dp (a0 := 0) (cs := (eShard t1)) rfl · · · fo45_0 rfl) ?_
 refine sT 10 (iV t1.mID) rfl (v_load_dp1 rfl · · · onT3 rfl rfl) ?_
 obtain ⟨⟨t11a, t11b⟩, c1, h⟩ := bpos h
 refine sT 11 (.tup [iV t11a, bV t11b]) rfl (w_call (ds := [(.agg (eCell t0)), (.s (.int .i64 t1.mID))]) (caps := []) (l := [(.s (.int .i64 t11a)), (.s (.bool t11b))]) (s123 k t0 t1.mID _ c1) rfl rfl rfl en123 · · · (.inl ⟨rfl, rfl⟩) rfl rfl) ?_
 refine sM 7 (.tup [iV t11a, bV t11b]) rfl rfl ?_
 refine sT 12 (iV t11a) rfl (v_extract rfl · · · rfl rfl) ?_
 refine sT 13 (bV t11b) rfl (v_extract rfl · · · rfl rfl) ?_
 refine sM 5 (iV t11a) rfl rfl ?_
 refine sM 6 (bV t11b) rfl rfl ?_
 refine sq_nil ?_
 refine sr ?_
 refine sT 14 (.ptr 2 0) rfl (v_field_box (off := 0) (a0 := 0) rfl · · · fo26_0 rfl) ?_
 refine sT 15 (.d (.sl 17 (t0.mShards.map eShard))) rfl (v_load_box1 (id := 2) (off := 0) rfl · · · onT22 rfl rfl (ble _ _ rfl) rfl) ?_
 obtain ⟨t16, c2, h⟩ := bpos h
 refine sq_cons ⟨_, [(.b 16, .row false 45 17 (t16.map eShard)), (.t 16, .own 16 17 t16.length)]⟩ (w_call_own (id := 16) (ds := [(.sl 17 (t0.mShards.map eShard))]) (caps := []) eShard (s98o k t0.mShards _ c2) rfl rfl rfl en98 trivial rfl (ble _ _ rfl) (.inl ⟨rfl, rfl⟩) rfl rfl) ?_
 refine sT 17 (.ptr 2 0) rfl (v_field_box (off := 0) (a0 := 0) rfl · · · fo26_0 rfl) ?_
 refine sq_cons _ (v_store_box (id := 2) (off := 0) (cs := [.own 16 17 t16.length]) rfl trivial rfl sz22 rfl rfl rfl rfl (ones_of rfl) (ble _ _ rfl)) ?_
 refine sq_nil ?_
 refine ht_seq ?_
 refine sr ?_
 refine sM 18 (bV t11b) rfl rfl ?_
 refine sq_nil ?_
 refine ht_cond rfl (fun e3 => ?_) (fun e3 => ?_)
 ·replace h := cpos e3 h
  refine ht_region ?_
  refine sT 19 (.ptr 2 0) rfl (v_field_box (off := 0) (a0 := 0) rfl · · · fo26_0 rfl) ?_
  refine sT 20 (.own 16 17 t16.length) rfl (v_load_box1 (id := 2) (off := 0) rfl · · · onT22 rfl rfl (ble _ _ rfl) rfl) ?_
  refine sM 21 (iV t11a) rfl rfl ?_
  refine sT 22 (.d (.agg (eShard t1))) rfl (w_ldp (eShard t1) (eShard t1) rfl · · · ag45 rfl (ble _ _ rfl) rfl) ?_
  obtain ⟨e4, h⟩ := gpos h
  refine sT 23 (.elp 16 17 t11a.toNat 0) rfl (w_idx_own t16 rfl · · · slT22 rfl rfl e4) ?_
  refine sq_cons ⟨_, [(.b 16, .row false 45 17 ((t16.set t11a.toNat t1).map eShard))]⟩ (w_st_elp t16 eShard (eShard t1) t1 rfl trivial rfl sz45 rfl rfl e4 rfl rfl (ones_of rfl) (ble _ _ rfl) rfl) ?_
  refine sq_nil ?_
  refine ht_seq ?_
  refine ht_weak (wk_eq (.c 2 0) (.own 16 17 (t16.set t11a.toNat t1).length) (lset _ _ _ _ _)) ?_
  refine ht_weak (wk_eq (.t 16) (.own 16 17 (t16.set t11a.toNat t1).length) (lset _ _ _ _ _)) ?_
  refine ht_weak (wk_eq (.t 20) (.own 16 17 (t16.set t11a.toNat t1).length) (lset _ _ _ _ _)) ?_
  refine ht_weak (wk_still_row 16 _ _ _ rfl) ?_
  refine ht_weak (wk_row (.c 2 0) (nc 2 0) 16 _ _ _ _ rfl rfl (lm _ _)) ?_
  refine ht_weak (wk_row (.t 16) (nb 16) 16 _ _ _ _ rfl rfl (lm _ _)) ?_
  refine ht_weak (wk_row (.t 20) (nb 20) 16 _ _ _ _ rfl rfl (lm _ _)) ?_
  refine ht_region ?_
  refine sT 31 (.d (.agg (eCell ({t0 with mShards := (t16.set t11a.toNat t1)})))) rfl (w_ldb 2 0 rfl · · · ag26 rfl rfl (ble _ _ rfl) rfl) ?_
  refine sq_cons _ (v_store_box (id := 4) (off := 0) (cs := (eCell ({t0 with mShards := (t16.set t11a.toNat t1)})).map V.d) rfl trivial rfl sz26 rfl rfl rfl rfl (ones_of rfl) (ble _ _ rfl)) ?_
  refine sq_nil ?_
  refine ht_ret ?_
  cases h
  exact ret1 rfl (.cell rfl rfl ag26 (ble _ _ rfl) rfl)
 replace h := cneg e3 h
 refine ht_region ?_
 refine sT 24 (.ptr 2 0) rfl (v_field_box (off := 0) (a0 := 0) rfl · · · fo26_0 rfl) ?_
 refine sT 25 (.own 16 17 t16.length) rfl (v_load_box1 (id := 2) (off := 0) rfl · · · onT22 rfl rfl (ble _ _ rfl) rfl) ?_
 refine sM 26 (iV t11a) rfl rfl ?_
 refine sT 27 (.d (.agg (eShard t1))) rfl (w_ldp (eShard t1) (eShard t1) rfl · · · ag45 rfl (ble _ _ rfl) rfl) ?_
 refine sq_cons ⟨_, [(.b 28, .row false 45 17 (([t1]).map eShard)), (.t 28, .own 28 17 ([t1]).length)]⟩ (w_bsl (id := 28) [(0, .d (.agg (eShard t1)))] [t1] eShard rfl trivial rfl (ble _ _ rfl) slT22 zr45 teShard (ble _ _ rfl) rfl (by kernel_rfl) rfl rfl (by kernel_rfl) (by kernel_rfl)) ?_
 obtain ⟨e5, h⟩ := gpos h
 refine sq_cons ⟨_, [(.b 16, .spent), (.b 29, .row false 45 17 ((List.take t11a.toNat t16 ++ [t1] ++ List.drop t11a.toNat t16).map eShard)), (.t 29, .own 29 17 (List.take t11a.toNat t16 ++ [t1] ++ List.drop t11a.toNat t16).length)]⟩ (w_ins 29 t16 t1 eShard insS143 rfl rfl rfl en143 trivial rfl (ble _ _ rfl) teShard rfl rfl rfl rfl rfl rfl rfl e5) ?_
 refine sT 30 (.ptr 2 0) rfl (v_field_box (off := 0) (a0 := 0) rfl · · · fo26_0 rfl) ?_
 refine sq_cons _ (v_store_box (id := 2) (off := 0) (cs := [.own 29 17 (List.take t11a.toNat t16 ++ [t1] ++ List.drop t11a.toNat t16).length]) rfl trivial rfl sz22 rfl rfl rfl rfl (ones_of rfl) (ble _ _ rfl)) ?_
 refine sq_nil ?_
 refine ht_seq ?_
 refine ht_weak (wk_still_row 29 _ _ _ rfl) ?_
 refine ht_weak (wk_row (.c 2 0) (nc 2 0) 29 _ _ _ _ rfl rfl (lm _ _)) ?_
 refine ht_weak (wk_row (.t 29) (nb 29) 29 _ _ _ _ rfl rfl (lm _ _)) ?_
 refine ht_region ?_
 refine sT 31 (.d (.agg (eCell ({t0 with mShards := (List.take t11a.toNat t16 ++ [t1] ++ List.drop t11a.toNat t16)})))) rfl (w_ldb 2 0 rfl · · · ag26 rfl rfl (ble _ _ rfl) rfl) ?_
 refine sq_cons _ (v_store_box (id := 4) (off := 0) (cs := (eCell ({t0 with mShards := (List.take t11a.toNat t16 ++ [t1] ++ List.drop t11a.toNat t16)})).map V.d) rfl trivial rfl sz26 rfl rfl rfl rfl (ones_of rfl) (ble _ _ rfl)) ?_
 refine sq_nil ?_
 refine ht_ret ?_
 cases h
 exact ret1 rfl (.cell rfl rfl ag26 (ble _ _ rfl) rfl)
theorem s63 (k : Nat) (t0 : Cell) (t1 : Shard) (t2 : Request) (t3 : Stamp) (r : Cell × Answer) (h : F63 k t0 t1 t2 t3 = some r) : Awp.Spec Tryz.prog amb 63 [(.agg (eCell t0)), (.agg (eShard t1)), (.agg (eRequest t2)), (.agg (eStamp t3))] (.ds [(.agg (eCell r.1)), (.agg (eAnswer r.2))]) := by
 rw [F63] at h
 refine spec_of Tryz.func63 rfl (ble _ _ rfl) fun w0 ok0 lt0 hA => ?_
 refine sr ?_
 refine sq_cons _ (v_box (id := 4) (cs := (eCell t0).map V.d) rfl trivial rfl (ble _ _ rfl) rfl rfl (ones_of rfl) rfl) ?_
 refine sq_cons _ (v_box (id := 5) (cs := (eShard t1).map V.d) rfl trivial rfl (ble _ _ rfl) rfl rfl (ones_of rfl) rfl) ?_
 refine sT 6 (.d (.dp (eRequest t2))) rfl (v_box_d (cs := (eRequest t2)) rfl · · · rfl rfl (ones_of rfl)) ?_
 refine sT 7 (.d (.dp (eStamp t3))) rfl (v_box_d (cs := (eStamp t3)) rfl · · · rfl rfl (ones_of rfl)) ?_
 refine sq_cons _ (v_alloc (id := 8) (cs := zc26) rfl trivial rfl (ble _ _ rfl) zu26 rfl ft26 rfl) ?_
 refine sq_cons _ (v_alloc (id := 9) (cs := zc34) rfl trivial rfl (ble _ _ rfl) zu34 rfl ft34 rfl) ?_
 refine sq_nil ?_
 refine ht_seq ?_
 refine sr ?_
 refine sT 15 (.ptr 5 12) rfl (v_field_box (off := 0) (a0 := 12) rfl · · · fo45_7 rfl) ?_
 refine sT 16 (.d (.sl 11 (t1.mDone.map eDone))) rfl (v_load_box1 (id := 5) (off := 12) rfl · · · onT43 rfl rfl (ble _ _ rfl) rfl) ?_
 refine sT 17 (.d (.dp (eRequest t2))) rfl (v_field_dp (a0 := 0) (cs := (eRequest t2)) rfl · · · fo28_0 rfl) ?_
 refine sT 18 (iV t2.mClient) rfl (v_load_dp1 rfl · · · onT3 rfl rfl) ?_
 refine sT 19 (.d (.dp (List.drop 1 (eRequest t2)))) rfl (v_field_dp (a0 := 1) (cs := (eRequest t2)) rfl · · · fo28_1 rfl) ?_
 refine sT 20 (iV t2.mReq) rfl (v_load_dp1 rfl · · · onT3 rfl rfl) ?_
 obtain ⟨t21, c1, h⟩ := bpos h
 refine sT 21 (iV t21) rfl (w_call (ds := [(.sl 11 (t1.mDone.map eDone)), (.s (.int .i64 t2.mClient)), (.s (.int .i64 t2.mReq))]) (caps := []) (l := [(.s (.int .i64 t21))]) (s125 k t1.mDone t2.mClient t2.mReq _ c1) rfl rfl rfl en125 · · · (.inl ⟨rfl, rfl⟩) rfl rfl) ?_
 refine sq_nil ?_
 refine ht_block ?_
 refine sr ?_
 refine sT 23 (bV (eqI t21 2)) rfl (v_bin rfl · · · rfl rfl (b_eql rfl)) ?_
 refine sM 22 (bV (eqI t21 2)) rfl rfl ?_
 refine sq_nil ?_
 refine ht_cond rfl (fun e2 => ?_) (fun e2 => ?_)
 ·replace h := cpos e2 h
  refine sr ?_
  refine sT 25 (.ptr 5 12) rfl (v_field_box (off := 0) (a0 := 12) rfl · · · fo45_7 rfl) ?_
  refine sT 26 (.d (.sl 11 (t1.mDone.map eDone))) rfl (v_load_box1 (id := 5) (off := 12) rfl · · · onT43 rfl rfl (ble _ _ rfl) rfl) ?_
  refine sT 27 (.d (.dp (eRequest t2))) rfl (v_field_dp (a0 := 0) (cs := (eRequest t2)) rfl · · · fo28_0 rfl) ?_
  refine sT 28 (iV t2.mClient) rfl (v_load_dp1 rfl · · · onT3 rfl rfl) ?_
  obtain ⟨⟨t29a, t29b⟩, c3, h⟩ := bpos h
  refine sT 29 (.tup [.d (.agg (eDone t29a)), bV t29b]) rfl (w_call (ds := [(.sl 11 (t1.mDone.map eDone)), (.s (.int .i64 t2.mClient))]) (caps := []) (l := [(.agg (eDone t29a)), (.s (.bool t29b))]) (s126 k t1.mDone t2.mClient _ c3) rfl rfl rfl en126 · · · (.inl ⟨rfl, rfl⟩) rfl rfl) ?_
  refine sM 24 (.tup [.d (.agg (eDone t29a)), bV t29b]) rfl rfl ?_
  refine sT 30 (.d (.agg (eDone t29a))) rfl (v_extract rfl · · · rfl rfl) ?_
  refine sT 31 (bV t29b) rfl (v_extract rfl · · · rfl rfl) ?_
  refine sq_cons _ (v_alloc (id := 10) (cs := zc100) rfl trivial rfl (ble _ _ rfl) zu100 rfl ft100 rfl) ?_
  refine sq_cons _ (v_store_box (id := 10) (off := 0) (cs := (eDone t29a).map V.d) rfl trivial rfl sz100 rfl rfl rfl rfl (ones_of rfl) (ble _ _ rfl)) ?_
  refine sM 11 (bV t29b) rfl rfl ?_
  refine sq_nil ?_
  refine ht_seq ?_
  refine ht_region_draw mixed ?_
  refine rT 32 (.d (.agg (eCell t0))) rfl (w_ldb 4 0 rfl · · · ag26 rfl rfl (ble _ _ rfl) rfl) ?_
  refine rT 33 (.ptr 10 2) rfl (v_field_box (off := 0) (a0 := 2) rfl · · · fo100_2 rfl) ?_
  refine rT 34 (.d (.agg (eAnswer t29a.mAnswer))) rfl (w_ldb 10 2 rfl · · · ag34 rfl rfl (ble _ _ rfl) rfl) ?_
  refine rg_cons _ (v_store_box (id := 8) (off := 0) (cs := (eCell t0).map V.d) rfl trivial rfl sz26 rfl rfl rfl rfl (ones_of rfl) (ble _ _ rfl)) ?_
  refine rg_cons _ (v_store_box (id := 9) (off := 0) (cs := (eAnswer t29a.mAnswer).map V.d) rfl trivial rfl sz34 rfl rfl rfl rfl (ones_of rfl) (ble _ _ rfl)) ?_
  refine rg_nil ⟨by kernel_rfl, ?_⟩
  refine ht_ret ?_
  cases h
  exact ret2 rfl (.cell rfl rfl ag26 (ble _ _ rfl) rfl) (.cell rfl rfl ag34 (ble _ _ rfl) rfl)
 replace h := cneg e2 h
 refine sr ?_
 refine sT 36 (bV (eqI t21 3)) rfl (v_bin rfl · · · rfl rfl (b_eql rfl)) ?_
 refine sM 35 (bV (eqI t21 3)) rfl rfl ?_
 refine sq_nil ?_
 refine ht_cond rfl (fun e4 => ?_) (fun e4 => ?_)
 ·replace h := cpos e4 h
  refine ht_seq ?_
  refine ht_region_draw mixed ?_
  refine rT 37 (.d (.agg (eCell t0))) rfl (w_ldb 4 0 rfl · · · ag26 rfl rfl (ble _ _ rfl) rfl) ?_
  obtain ⟨t38, c5, h⟩ := bpos h
  refine rT 38 (.d (.agg (eAnswer t38))) rfl (w_call (ds := [(.s (.int .i64 10))]) (caps := []) (l := [(.agg (eAnswer t38))]) (s59 k 10 _ c5) rfl rfl rfl en59 · · · (.inl ⟨rfl, rfl⟩) rfl rfl) ?_
  refine rg_cons _ (v_store_box (id := 8) (off := 0) (cs := (eCell t0).map V.d) rfl trivial rfl sz26 rfl rfl rfl rfl (ones_of rfl) (ble _ _ rfl)) ?_
  refine rg_cons _ (v_store_box (id := 9) (off := 0) (cs := (eAnswer t38).map V.d) rfl trivial rfl sz34 rfl rfl rfl rfl (ones_of rfl) (ble _ _ rfl)) ?_
  refine rg_nil ⟨by kernel_rfl, ?_⟩
  refine ht_ret ?_
  cases h
  exact ret2 rfl (.cell rfl rfl ag26 (ble _ _ rfl) rfl) (.cell rfl rfl ag34 (ble _ _ rfl) rfl)
 replace h := cneg e4 h
 refine ht_skip ?_
 refine ht_seq ?_
 refine sr ?_
 refine sT 39 (.d (.agg (eStamp t3))) rfl (w_ldp (eStamp t3) (eStamp t3) rfl · · · ag24 rfl (ble _ _ rfl) rfl) ?_
 refine sT 40 (.ptr 4 1) rfl (v_field_box (off := 0) (a0 := 1) rfl · · · fo26_1 rfl) ?_
 refine sT 41 (.d (.agg (eStamp t0.mTop))) rfl (w_ldb 4 1 rfl · · · ag24 rfl rfl (ble _ _ rfl) rfl) ?_
 obtain ⟨t42, c6, h⟩ := bpos h
 refine sT 42 (iV t42) rfl (w_call (ds := [(.agg (eStamp t3)), (.agg (eStamp t0.mTop))]) (caps := []) (l := [(.s (.int .i64 t42))]) (s42 k t3 t0.mTop _ c6) rfl rfl rfl en42 · · · (.inl ⟨rfl, rfl⟩) rfl rfl) ?_
 refine sT 43 (bV (leI t42 0)) rfl (v_bin rfl · · · rfl rfl (b_leq rfl)) ?_
 refine sq_nil ?_
 refine ht_cond rfl (fun e7 => ?_) (fun e7 => ?_)
 ·replace h := cpos e7 h
  refine ht_seq ?_
  refine ht_region_draw mixed ?_
  refine rT 44 (.d (.agg (eCell t0))) rfl (w_ldb 4 0 rfl · · · ag26 rfl rfl (ble _ _ rfl) rfl) ?_
  obtain ⟨t45, c8, h⟩ := bpos h
  refine rT 45 (.d (.agg (eAnswer t45))) rfl (w_call (ds := [(.s (.int .i64 1))]) (caps := []) (l := [(.agg (eAnswer t45))]) (s59 k 1 _ c8) rfl rfl rfl en59 · · · (.inl ⟨rfl, rfl⟩) rfl rfl) ?_
  refine rg_cons _ (v_store_box (id := 8) (off := 0) (cs := (eCell t0).map V.d) rfl trivial rfl sz26 rfl rfl rfl rfl (ones_of rfl) (ble _ _ rfl)) ?_
  refine rg_cons _ (v_store_box (id := 9) (off := 0) (cs := (eAnswer t45).map V.d) rfl trivial rfl sz34 rfl rfl rfl rfl (ones_of rfl) (ble _ _ rfl)) ?_
  refine rg_nil ⟨by kernel_rfl, ?_⟩
  refine ht_ret ?_
  cases h
  exact ret2 rfl (.cell rfl rfl ag26 (ble _ _ rfl) rfl) (.cell rfl rfl ag34 (ble _ _ rfl) rfl)
 replace h := cneg e7 h
 refine ht_skip ?_
 refine sr ?_
 refine sT 46 (.d (.agg (eCell t0))) rfl (w_ldb 4 0 rfl · · · ag26 rfl rfl (ble _ _ rfl) rfl) ?_
 refine sT 47 (.d (.agg (eShard t1))) rfl (w_ldb 5 0 rfl · · · ag45 rfl rfl (ble _ _ rfl) rfl) ?_
 refine sT 48 (.d (.dp (List.drop 3 (eRequest t2)))) rfl (v_field_dp (a0 := 3) (cs := (eRequest t2)) rfl · · · fo28_3 rfl) ?_
 refine sT 49 (sV t2.mKey) rfl (v_load_dp1 rfl · · · onT9 rfl rfl) ?_
 obtain ⟨t50, c9, h⟩ := bpos h
 refine sT 50 (.d (.agg (eAnswer t50))) rfl (w_call (ds := [(.agg (eCell t0)), (.agg (eShard t1)), (.s (.string t2.mKey))]) (caps := []) (l := [(.agg (eAnswer t50))]) (s64 k t0 t1 t2.mKey _ c9) rfl rfl rfl en64 · · · (.inl ⟨rfl, rfl⟩) rfl rfl) ?_
 refine sq_cons _ (v_alloc (id := 12) (cs := zc34) rfl trivial rfl (ble _ _ rfl) zu34 rfl ft34 rfl) ?_
 refine sq_cons _ (v_store_box (id := 12) (off := 0) (cs := (eAnswer t50).map V.d) rfl trivial rfl sz34 rfl rfl rfl rfl (ones_of rfl) (ble _ _ rfl)) ?_
 refine sq_nil ?_
 refine sr ?_
 refine sT 51 (.d (.agg (eStamp t3))) rfl (w_ldp (eStamp t3) (eStamp t3) rfl · · · ag24 rfl (ble _ _ rfl) rfl) ?_
 refine sT 52 (.ptr 12 4) rfl (v_field_box (off := 0) (a0 := 4) rfl · · · fo34_2 rfl) ?_
 refine sT 53 (bV t50.mFound) rfl (v_load_box1 (id := 12) (off := 4) rfl · · · onT4 rfl rfl (ble _ _ rfl) rfl) ?_
 refine sT 54 (.d (.agg (eAnswer (⟨0, t3, t50.mFound, (⟨#[]⟩ : ByteArray), ([] : List Item), (⟨#[]⟩ : ByteArray), false⟩ : Answer)))) rfl (w_bld zc34 ((eAnswer (⟨0, t3, t50.mFound, (⟨#[]⟩ : ByteArray), ([] : List Item), (⟨#[]⟩ : ByteArray), false⟩ : Answer)).map V.d) [(1, .d (.agg (eStamp t3))), (2, bV t50.mFound)] rfl · · · zw34 rfl ft34 rfl rfl rfl rfl) ?_
 refine sq_cons _ (v_alloc (id := 13) (cs := zc34) rfl trivial rfl (ble _ _ rfl) zu34 rfl ft34 rfl) ?_
 refine sq_cons _ (v_store_box (id := 13) (off := 0) (cs := (eAnswer (⟨0, t3, t50.mFound, (⟨#[]⟩ : ByteArray), ([] : List Item), (⟨#[]⟩ : ByteArray), false⟩ : Answer)).map V.d) rfl trivial rfl sz34 rfl rfl rfl rfl (ones_of rfl) (ble _ _ rfl)) ?_
 refine sq_nil ?_
 refine sr ?_
 refine sM 14 (iV 0) rfl rfl ?_
 refine sq_nil ?_
 refine ht_bj h (fun (t14, t5c5, t13c0, t13c5) => tell [(.b 4, .box false 5), (.b 5, .box false 17), (.b 8, .box false 5), (.b 9, .box false 9), (.b 13, .box false 9), (.c 4 0, .d (.sl 17 (t0.mShards.map eShard))), (.c 4 1, iV t0.mTop.mWall), (.c 4 2, iV t0.mTop.mTick), (.c 4 3, iV t0.mTop.mNode), (.c 4 4, iV t0.mDropped), (.c 5 0, iV t1.mID), (.c 5 1, iV t1.mEpoch), (.c 5 2, sV t1.mSpan.mLo), (.c 5 3, sV t1.mSpan.mHi), (.c 5 4, iV t1.mPhase), (.c 5 5, .d (.sl 2 (t5c5.map eEntry))), (.c 5 6, iV t1.mMark.mWall), (.c 5 7, iV t1.mMark.mTick), (.c 5 8, iV t1.mMark.mNode), (.c 5 9, iV t1.mTop.mWall), (.c 5 10, iV t1.mTop.mTick), (.c 5 11, iV t1.mTop.mNode), (.c 5 12, .d (.sl 11 (t1.mDone.map eDone))), (.c 5 13, iV t1.mHold), (.c 5 14, iV t1.mSeen), (.c 5 15, iV t1.mMove), (.c 5 16, iV t1.mClosed), (.c 8 0, .d (.sl 17 (([] : List Shard).map eShard))), (.c 8 1, iV 0), (.c 8 2, iV 0), (.c 8 3, iV 0), (.c 8 4, iV 0), (.c 9 0, iV 0), (.c 9 1, iV 0), (.c 9 2, iV 0), (.c 9 3, iV 0), (.c 9 4, bV false), (.c 9 5, sV (⟨#[]⟩ : ByteArray)), (.c 9 6, .d (.sl 2 (([] : List Item).map eItem))), (.c 9 7, sV (⟨#[]⟩ : ByteArray)), (.c 9 8, bV false), (.c 13 0, iV t13c0), (.c 13 1, iV t3.mWall), (.c 13 2, iV t3.mTick), (.c 13 3, iV t3.mNode), (.c 13 4, bV t50.mFound), (.c 13 5, sV t13c5), (.c 13 6, .d (.sl 2 (([] : List Item).map eItem))), (.c 13 7, sV (⟨#[]⟩ : ByteArray)), (.c 13 8, bV false), (.t 4, .ptr 4 0), (.t 5, .ptr 5 0), (.t 6, .d (.dp (eRequest t2))), (.t 7, .d (.dp (eStamp t3))), (.t 8, .ptr 8 0), (.t 9, .ptr 9 0), (.t 13, .ptr 13 0), (.t 14, iV t14)]) (fun v10 h => ?_) (fun v10 K11 h j13 => ?_)
 ·obtain ⟨t14, t5c5, t13c0, t13c5⟩ := v10
  refine ht_seq ?_
  refine sr ?_
  refine sM 112 (iV t14) rfl rfl ?_
  refine sT 113 (bV (!eqI t14 0)) rfl (v_bin rfl · · · rfl rfl (b_neq rfl)) ?_
  refine sq_nil ?_
  refine ht_cond rfl (fun e51 => ?_) (fun e51 => ?_)
  ·replace h := cpos e51 h
   refine ht_seq ?_
   refine ht_region_draw mixed ?_
   refine rT 114 (.d (.agg (eCell t0))) rfl (w_ldb 4 0 rfl · · · ag26 rfl rfl (ble _ _ rfl) rfl) ?_
   refine rM 115 (iV t14) rfl rfl ?_
   obtain ⟨t116, c52, h⟩ := bpos h
   refine rT 116 (.d (.agg (eAnswer t116))) rfl (w_call (ds := [(.s (.int .i64 t14))]) (caps := []) (l := [(.agg (eAnswer t116))]) (s59 k t14 _ c52) rfl rfl rfl en59 · · · (.inl ⟨rfl, rfl⟩) rfl rfl) ?_
   refine rg_cons _ (v_store_box (id := 8) (off := 0) (cs := (eCell t0).map V.d) rfl trivial rfl sz26 rfl rfl rfl rfl (ones_of rfl) (ble _ _ rfl)) ?_
   refine rg_cons _ (v_store_box (id := 9) (off := 0) (cs := (eAnswer t116).map V.d) rfl trivial rfl sz34 rfl rfl rfl rfl (ones_of rfl) (ble _ _ rfl)) ?_
   refine rg_nil ⟨by kernel_rfl, ?_⟩
   refine ht_ret ?_
   cases h
   exact ret2 rfl (.cell rfl rfl ag26 (ble _ _ rfl) rfl) (.cell rfl rfl ag34 (ble _ _ rfl) rfl)
  replace h := cneg e51 h
  refine ht_skip ?_
  refine ht_seq ?_
  refine sr ?_
  refine sT 118 (.ptr 5 12) rfl (v_field_box (off := 0) (a0 := 12) rfl · · · fo45_7 rfl) ?_
  refine sT 119 (.d (.sl 11 (t1.mDone.map eDone))) rfl (v_load_box1 (id := 5) (off := 12) rfl · · · onT43 rfl rfl (ble _ _ rfl) rfl) ?_
  refine sT 120 (.d (.dp (eRequest t2))) rfl (v_field_dp (a0 := 0) (cs := (eRequest t2)) rfl · · · fo28_0 rfl) ?_
  refine sT 121 (iV t2.mClient) rfl (v_load_dp1 rfl · · · onT3 rfl rfl) ?_
  refine sT 122 (.d (.dp (List.drop 1 (eRequest t2)))) rfl (v_field_dp (a0 := 1) (cs := (eRequest t2)) rfl · · · fo28_1 rfl) ?_
  refine sT 123 (iV t2.mReq) rfl (v_load_dp1 rfl · · · onT3 rfl rfl) ?_
  refine sT 124 (.d (.agg (eAnswer (⟨t13c0, t3, t50.mFound, t13c5, ([] : List Item), (⟨#[]⟩ : ByteArray), false⟩ : Answer)))) rfl (w_ldb 13 0 rfl · · · ag34 rfl rfl (ble _ _ rfl) rfl) ?_
  refine sT 125 (.d (.agg (eDone (⟨t2.mClient, t2.mReq, (⟨t13c0, t3, t50.mFound, t13c5, ([] : List Item), (⟨#[]⟩ : ByteArray), false⟩ : Answer)⟩ : Done)))) rfl (w_bld zc100 ((eDone (⟨t2.mClient, t2.mReq, (⟨t13c0, t3, t50.mFound, t13c5, ([] : List Item), (⟨#[]⟩ : ByteArray), false⟩ : Answer)⟩ : Done)).map V.d) [(0, iV t2.mClient), (1, iV t2.mReq), (2, .d (.agg (eAnswer (⟨t13c0, t3, t50.mFound, t13c5, ([] : List Item), (⟨#[]⟩ : ByteArray), false⟩ : Answer))))] rfl · · · zw100 rfl ft100 rfl rfl rfl rfl) ?_
  obtain ⟨⟨t126a, t126b⟩, c53, h⟩ := bpos h
  refine sT 126 (.tup [.d (.sl 11 (t126a.map eDone)), iV t126b]) rfl (w_call (ds := [(.sl 11 (t1.mDone.map eDone)), (.agg (eDone (⟨t2.mClient, t2.mReq, (⟨t13c0, t3, t50.mFound, t13c5, ([] : List Item), (⟨#[]⟩ : ByteArray), false⟩ : Answer)⟩ : Done)))]) (caps := []) (l := [(.sl 11 (t126a.map eDone)), (.s (.int .i64 t126b))]) (s128 k t1.mDone (⟨t2.mClient, t2.mReq, (⟨t13c0, t3, t50.mFound, t13c5, ([] : List Item), (⟨#[]⟩ : ByteArray), false⟩ : Answer)⟩ : Done) _ c53) rfl rfl rfl en128 · · · (.inl ⟨rfl, rfl⟩) rfl rfl) ?_
  refine sM 117 (.tup [.d (.sl 11 (t126a.map eDone)), iV t126b]) rfl rfl ?_
  refine sT 127 (.d (.sl 11 (t126a.map eDone))) rfl (v_extract rfl · · · rfl rfl) ?_
  refine sT 128 (iV t126b) rfl (v_extract rfl · · · rfl rfl) ?_
  refine sT 129 (.ptr 5 12) rfl (v_field_box (off := 0) (a0 := 12) rfl · · · fo45_7 rfl) ?_
  refine sq_cons _ (v_store_box (id := 5) (off := 12) (cs := [(.sl 11 (t126a.map eDone))].map V.d) rfl trivial rfl sz43 rfl rfl rfl rfl (ones_of rfl) (ble _ _ rfl)) ?_
  refine sM 14 (iV t126b) rfl rfl ?_
  refine sq_nil ?_
  refine sr ?_
  refine sM 130 (iV t126b) rfl rfl ?_
  refine sT 131 (bV (!eqI t126b 0)) rfl (v_bin rfl · · · rfl rfl (b_neq rfl)) ?_
  refine sq_nil ?_
  refine ht_cond rfl (fun e54 => ?_) (fun e54 => ?_)
  ·replace h := cpos e54 h
   refine ht_seq ?_
   refine ht_region_draw mixed ?_
   refine rT 132 (.d (.agg (eCell t0))) rfl (w_ldb 4 0 rfl · · · ag26 rfl rfl (ble _ _ rfl) rfl) ?_
   refine rM 133 (iV t126b) rfl rfl ?_
   obtain ⟨t134, c55, h⟩ := bpos h
   refine rT 134 (.d (.agg (eAnswer t134))) rfl (w_call (ds := [(.s (.int .i64 t126b))]) (caps := []) (l := [(.agg (eAnswer t134))]) (s59 k t126b _ c55) rfl rfl rfl en59 · · · (.inl ⟨rfl, rfl⟩) rfl rfl) ?_
   refine rg_cons _ (v_store_box (id := 8) (off := 0) (cs := (eCell t0).map V.d) rfl trivial rfl sz26 rfl rfl rfl rfl (ones_of rfl) (ble _ _ rfl)) ?_
   refine rg_cons _ (v_store_box (id := 9) (off := 0) (cs := (eAnswer t134).map V.d) rfl trivial rfl sz34 rfl rfl rfl rfl (ones_of rfl) (ble _ _ rfl)) ?_
   refine rg_nil ⟨by kernel_rfl, ?_⟩
   refine ht_ret ?_
   cases h
   exact ret2 rfl (.cell rfl rfl ag26 (ble _ _ rfl) rfl) (.cell rfl rfl ag34 (ble _ _ rfl) rfl)
  replace h := cneg e54 h
  refine ht_skip ?_
  refine sr ?_
  refine sT 135 (.d (.agg (eCell t0))) rfl (w_ldb 4 0 rfl · · · ag26 rfl rfl (ble _ _ rfl) rfl) ?_
  refine sT 136 (.d (.agg (eShard ({t1 with mEntries := t5c5, mDone := t126a})))) rfl (w_ldb 5 0 rfl · · · ag45 rfl rfl (ble _ _ rfl) rfl) ?_
  obtain ⟨t137, c56, h⟩ := bpos h
  refine sT 137 (.d (.agg (eCell t137))) rfl (w_call (ds := [(.agg (eCell t0)), (.agg (eShard ({t1 with mEntries := t5c5, mDone := t126a})))]) (caps := []) (l := [(.agg (eCell t137))]) (s95 k t0 ({t1 with mEntries := t5c5, mDone := t126a}) _ c56) rfl rfl rfl en95 · · · (.inl ⟨rfl, rfl⟩) rfl rfl) ?_
  refine sq_cons _ (v_store_box (id := 4) (off := 0) (cs := (eCell t137).map V.d) rfl trivial rfl sz26 rfl rfl rfl rfl (ones_of rfl) (ble _ _ rfl)) ?_
  refine sq_nil ?_
  refine sr ?_
  refine sT 138 (.d (.agg (eStamp t3))) rfl (w_ldp (eStamp t3) (eStamp t3) rfl · · · ag24 rfl (ble _ _ rfl) rfl) ?_
  refine sT 139 (.ptr 4 1) rfl (v_field_box (off := 0) (a0 := 1) rfl · · · fo26_1 rfl) ?_
  refine sq_cons _ (v_store_box (id := 4) (off := 1) (cs := (eStamp t3).map V.d) rfl trivial rfl sz24 rfl rfl rfl rfl (ones_of rfl) (ble _ _ rfl)) ?_
  refine sq_nil ?_
  refine ht_seq ?_
  refine ht_region_draw mixed ?_
  refine rT 140 (.d (.agg (eCell ({t137 with mTop := t3})))) rfl (w_ldb 4 0 rfl · · · ag26 rfl rfl (ble _ _ rfl) rfl) ?_
  refine rT 141 (.d (.agg (eAnswer (⟨t13c0, t3, t50.mFound, t13c5, ([] : List Item), (⟨#[]⟩ : ByteArray), false⟩ : Answer)))) rfl (w_ldb 13 0 rfl · · · ag34 rfl rfl (ble _ _ rfl) rfl) ?_
  refine rg_cons _ (v_store_box (id := 8) (off := 0) (cs := (eCell ({t137 with mTop := t3})).map V.d) rfl trivial rfl sz26 rfl rfl rfl rfl (ones_of rfl) (ble _ _ rfl)) ?_
  refine rg_cons _ (v_store_box (id := 9) (off := 0) (cs := (eAnswer (⟨t13c0, t3, t50.mFound, t13c5, ([] : List Item), (⟨#[]⟩ : ByteArray), false⟩ : Answer)).map V.d) rfl trivial rfl sz34 rfl rfl rfl rfl (ones_of rfl) (ble _ _ rfl)) ?_
  refine rg_nil ⟨by kernel_rfl, ?_⟩
  refine ht_ret ?_
  cases h
  exact ret2 rfl (.cell rfl rfl ag26 (ble _ _ rfl) rfl) (.cell rfl rfl ag34 (ble _ _ rfl) rfl)
 refine ht_block ?_
 refine sr ?_
 refine sT 56 (.d (.dp (List.drop 2 (eRequest t2)))) rfl (v_field_dp (a0 := 2) (cs := (eRequest t2)) rfl · · · fo28_2 rfl) ?_
 refine sT 57 (iV t2.mKind) rfl (v_load_dp1 rfl · · · onT3 rfl rfl) ?_
 refine sT 58 (bV (eqI t2.mKind 3)) rfl (v_bin rfl · · · rfl rfl (b_eql rfl)) ?_
 refine sM 59 (bV (eqI t2.mKind 3)) rfl rfl ?_
 refine sG 60 (.ptr 12 4) rfl rfl (fun e15 => (v_field_box (off := 0) (a0 := 4) rfl · · · fo34_2 rfl)) ?_
 refine sG 61 (bV t50.mFound) rfl rfl (fun e16 => (v_load_box1 (id := 12) (off := 4) rfl · · · onT4 (gv e16) rfl (ble _ _ rfl) rfl)) ?_
 refine sG 62 (.d (.dp (List.drop 5 (eRequest t2)))) rfl rfl (fun e17 => (v_field_dp (a0 := 5) (cs := (eRequest t2)) rfl · · · fo28_5 rfl)) ?_
 refine sG 63 (bV t2.mHad) rfl rfl (fun e18 => (v_load_dp1 rfl · · · onT4 (gv e18) rfl)) ?_
 refine sG 64 (bV (!(t50.mFound == t2.mHad))) rfl rfl (fun e19 => (v_bin rfl · · · (gv e19) (gv e19) (b_neB und4 rfl))) ?_
 refine sG 65 (bV (!(t50.mFound == t2.mHad))) rfl rfl (fun e20 => (v_move (.inl rfl) · · · (gv e20))) ?_
 refine sH 66 (.ptr 12 4) rfl rfl (fun e21 e22 => (v_field_box (off := 0) (a0 := 4) rfl · · · fo34_2 rfl)) ?_
 refine sH 67 (bV t50.mFound) rfl rfl (fun e23 e24 => (v_load_box1 (id := 12) (off := 4) rfl · · · onT4 (gv (aT e23 (nF e24))) rfl (ble _ _ rfl) rfl)) ?_
 refine sH 68 (bV t50.mFound) rfl rfl (fun e25 e26 => (v_move (.inl rfl) · · · (gv (aT e25 (nF e26))))) ?_
 refine sI 69 (.ptr 12 5) rfl rfl (fun e27 e28 => (v_field_box (off := 0) (a0 := 5) rfl · · · fo34_3 rfl)) ?_
 refine sI 70 (sV t50.mValue) rfl rfl (fun e29 e30 => (v_load_box1 (id := 12) (off := 5) rfl · · · onT9 (gv (aT e29 e30)) rfl (ble _ _ rfl) rfl)) ?_
 refine sI 71 (.d (.dp (List.drop 6 (eRequest t2)))) rfl rfl (fun e31 e32 => (v_field_dp (a0 := 6) (cs := (eRequest t2)) rfl · · · fo28_6 rfl)) ?_
 refine sI 72 (sV t2.mOld) rfl rfl (fun e33 e34 => (v_load_dp1 rfl · · · onT9 (gv (aT e33 e34)) rfl)) ?_
 refine sI 73 (bV (!strEq t50.mValue t2.mOld)) rfl rfl (fun e35 e36 => (v_bin rfl · · · (gv (aT e35 e36)) (gv (aT e35 e36)) (b_neS rfl))) ?_
 refine sH 74 (bV (t50.mFound && (!strEq t50.mValue t2.mOld))) rfl rfl (fun e37 e38 => (v_pickB rfl · · · (gv (aT e37 (nF e38))) (fun e39 => (gv (aT (aT e37 (nF e38)) e39))) (fun e40 => rfl) (pA _ _))) ?_
 refine sG 75 (bV ((!(t50.mFound == t2.mHad)) || (t50.mFound && (!strEq t50.mValue t2.mOld)))) rfl rfl (fun e41 => (v_pickB rfl · · · (gv e41) (fun e42 => rfl) (fun e43 => (gv (aT e41 (nF e43)))) (pO _ _))) ?_
 refine sT 76 (bV ((eqI t2.mKind 3) && ((!(t50.mFound == t2.mHad)) || (t50.mFound && (!strEq t50.mValue t2.mOld))))) rfl (v_pickB rfl · · · rfl (fun e44 => (gv e44)) (fun e45 => rfl) (pA _ _)) ?_
 refine sM 55 (bV ((eqI t2.mKind 3) && ((!(t50.mFound == t2.mHad)) || (t50.mFound && (!strEq t50.mValue t2.mOld))))) rfl rfl ?_
 refine sq_nil ?_
 refine ht_cond rfl (fun e46 => ?_) (fun e46 => ?_)
 ·replace h := cpos e46 h
  refine ht_region_draw mixed ?_
  refine rT 77 (.ptr 12 5) rfl (v_field_box (off := 0) (a0 := 5) rfl · · · fo34_3 rfl) ?_
  refine rT 78 (sV t50.mValue) rfl (v_load_box1 (id := 12) (off := 5) rfl · · · onT9 rfl rfl (ble _ _ rfl) rfl) ?_
  refine rT 79 (.ptr 13 0) rfl (v_field_box (off := 0) (a0 := 0) rfl · · · fo34_0 rfl) ?_
  refine rg_cons _ (v_store_box (id := 13) (off := 0) (cs := [(.s (.int .i64 15))].map V.d) rfl trivial rfl sz31 rfl rfl rfl rfl (ones_of rfl) (ble _ _ rfl)) ?_
  refine rT 80 (.ptr 13 5) rfl (v_field_box (off := 0) (a0 := 5) rfl · · · fo34_3 rfl) ?_
  refine rg_cons _ (v_store_box (id := 13) (off := 5) (cs := [(.s (.string t50.mValue))].map V.d) rfl trivial rfl sz9 rfl rfl rfl rfl (ones_of rfl) (ble _ _ rfl)) ?_
  refine rg_nil ⟨by kernel_rfl, ?_⟩
  cases h
  exact j13 _ (wk_ren _ (fun i => i) rfl ⟨rfl, rfl, rfl, rfl, rfl, rfl, rfl, rfl, rfl, rfl, rfl, rfl, rfl, rfl, rfl, rfl, rfl, rfl, rfl, rfl, rfl, rfl, rfl, rfl, rfl, rfl, rfl, rfl, rfl, rfl, rfl, rfl, rfl, rfl, rfl, rfl, rfl, rfl, rfl, rfl, rfl, rfl, rfl, rfl, rfl, rfl, rfl, rfl, rfl, rfl, rfl, rfl, rfl, rfl, rfl, rfl, rfl, rfl, trivial⟩)
 replace h := cneg e46 h
 refine sr ?_
 refine sT 82 (.d (.dp (List.drop 2 (eRequest t2)))) rfl (v_field_dp (a0 := 2) (cs := (eRequest t2)) rfl · · · fo28_2 rfl) ?_
 refine sT 83 (iV t2.mKind) rfl (v_load_dp1 rfl · · · onT3 rfl rfl) ?_
 refine sT 84 (bV (!eqI t2.mKind 2)) rfl (v_bin rfl · · · rfl rfl (b_neq rfl)) ?_
 refine sM 81 (bV (!eqI t2.mKind 2)) rfl rfl ?_
 refine sq_nil ?_
 refine ht_cond rfl (fun e47 => ?_) (fun e47 => ?_)
 ·replace h := cpos e47 h
  refine ht_region ?_
  refine sT 86 (.ptr 5 5) rfl (v_field_box (off := 0) (a0 := 5) rfl · · · fo45_4 rfl) ?_
  refine sT 87 (.d (.sl 2 (t1.mEntries.map eEntry))) rfl (v_load_box1 (id := 5) (off := 5) rfl · · · onT42 rfl rfl (ble _ _ rfl) rfl) ?_
  refine sT 88 (.d (.dp (List.drop 3 (eRequest t2)))) rfl (v_field_dp (a0 := 3) (cs := (eRequest t2)) rfl · · · fo28_3 rfl) ?_
  refine sT 89 (sV t2.mKey) rfl (v_load_dp1 rfl · · · onT9 rfl rfl) ?_
  refine sT 90 (.d (.agg (eStamp t3))) rfl (w_ldp (eStamp t3) (eStamp t3) rfl · · · ag24 rfl (ble _ _ rfl) rfl) ?_
  refine sT 91 (.d (.dp (List.drop 4 (eRequest t2)))) rfl (v_field_dp (a0 := 4) (cs := (eRequest t2)) rfl · · · fo28_4 rfl) ?_
  refine sT 92 (sV t2.mValue) rfl (v_load_dp1 rfl · · · onT9 rfl rfl) ?_
  refine sT 93 (.d (.agg (eVersion (⟨t3, false, t2.mValue⟩ : Version)))) rfl (w_bld zc93 ((eVersion (⟨t3, false, t2.mValue⟩ : Version)).map V.d) [(0, .d (.agg (eStamp t3))), (2, sV t2.mValue)] rfl · · · zw93 rfl ft93 rfl rfl rfl rfl) ?_
  obtain ⟨⟨t94a, t94b⟩, c48, h⟩ := bpos h
  refine sT 94 (.tup [.d (.sl 2 (t94a.map eEntry)), iV t94b]) rfl (w_call (ds := [(.sl 2 (t1.mEntries.map eEntry)), (.s (.string t2.mKey)), (.agg (eVersion (⟨t3, false, t2.mValue⟩ : Version)))]) (caps := []) (l := [(.sl 2 (t94a.map eEntry)), (.s (.int .i64 t94b))]) (s127 k t1.mEntries t2.mKey (⟨t3, false, t2.mValue⟩ : Version) _ c48) rfl rfl rfl en127 · · · (.inl ⟨rfl, rfl⟩) rfl rfl) ?_
  refine sM 85 (.tup [.d (.sl 2 (t94a.map eEntry)), iV t94b]) rfl rfl ?_
  refine sT 95 (.d (.sl 2 (t94a.map eEntry))) rfl (v_extract rfl · · · rfl rfl) ?_
  refine sT 96 (iV t94b) rfl (v_extract rfl · · · rfl rfl) ?_
  refine sT 97 (.ptr 5 5) rfl (v_field_box (off := 0) (a0 := 5) rfl · · · fo45_4 rfl) ?_
  refine sq_cons _ (v_store_box (id := 5) (off := 5) (cs := [(.sl 2 (t94a.map eEntry))].map V.d) rfl trivial rfl sz42 rfl rfl rfl rfl (ones_of rfl) (ble _ _ rfl)) ?_
  refine sM 14 (iV t94b) rfl rfl ?_
  refine sq_nil ?_
  cases h
  exact j13 _ (wk_ren _ (fun i => i) rfl ⟨rfl, rfl, rfl, rfl, rfl, rfl, rfl, rfl, rfl, rfl, rfl, rfl, rfl, rfl, rfl, rfl, rfl, rfl, rfl, rfl, rfl, rfl, rfl, rfl, rfl, rfl, rfl, rfl, rfl, rfl, rfl, rfl, rfl, rfl, rfl, rfl, rfl, rfl, rfl, rfl, rfl, rfl, rfl, rfl, rfl, rfl, rfl, rfl, rfl, rfl, rfl, rfl, rfl, rfl, rfl, rfl, rfl, rfl, trivial⟩)
 replace h := cneg e47 h
 refine sr ?_
 refine sT 99 (.ptr 12 4) rfl (v_field_box (off := 0) (a0 := 4) rfl · · · fo34_2 rfl) ?_
 refine sT 100 (bV t50.mFound) rfl (v_load_box1 (id := 12) (off := 4) rfl · · · onT4 rfl rfl (ble _ _ rfl) rfl) ?_
 refine sM 98 (bV t50.mFound) rfl rfl ?_
 refine sq_nil ?_
 refine ht_cond rfl (fun e49 => ?_) (fun e49 => ?_)
 ·replace h := cpos e49 h
  refine ht_region ?_
  refine sT 102 (.ptr 5 5) rfl (v_field_box (off := 0) (a0 := 5) rfl · · · fo45_4 rfl) ?_
  refine sT 103 (.d (.sl 2 (t1.mEntries.map eEntry))) rfl (v_load_box1 (id := 5) (off := 5) rfl · · · onT42 rfl rfl (ble _ _ rfl) rfl) ?_
  refine sT 104 (.d (.dp (List.drop 3 (eRequest t2)))) rfl (v_field_dp (a0 := 3) (cs := (eRequest t2)) rfl · · · fo28_3 rfl) ?_
  refine sT 105 (sV t2.mKey) rfl (v_load_dp1 rfl · · · onT9 rfl rfl) ?_
  refine sT 106 (.d (.agg (eStamp t3))) rfl (w_ldp (eStamp t3) (eStamp t3) rfl · · · ag24 rfl (ble _ _ rfl) rfl) ?_
  refine sT 107 (.d (.agg (eVersion (⟨t3, true, (⟨#[]⟩ : ByteArray)⟩ : Version)))) rfl (w_bld zc93 ((eVersion (⟨t3, true, (⟨#[]⟩ : ByteArray)⟩ : Version)).map V.d) [(0, .d (.agg (eStamp t3))), (1, bV true)] rfl · · · zw93 rfl ft93 rfl rfl rfl rfl) ?_
  obtain ⟨⟨t108a, t108b⟩, c50, h⟩ := bpos h
  refine sT 108 (.tup [.d (.sl 2 (t108a.map eEntry)), iV t108b]) rfl (w_call (ds := [(.sl 2 (t1.mEntries.map eEntry)), (.s (.string t2.mKey)), (.agg (eVersion (⟨t3, true, (⟨#[]⟩ : ByteArray)⟩ : Version)))]) (caps := []) (l := [(.sl 2 (t108a.map eEntry)), (.s (.int .i64 t108b))]) (s127 k t1.mEntries t2.mKey (⟨t3, true, (⟨#[]⟩ : ByteArray)⟩ : Version) _ c50) rfl rfl rfl en127 · · · (.inl ⟨rfl, rfl⟩) rfl rfl) ?_
  refine sM 101 (.tup [.d (.sl 2 (t108a.map eEntry)), iV t108b]) rfl rfl ?_
  refine sT 109 (.d (.sl 2 (t108a.map eEntry))) rfl (v_extract rfl · · · rfl rfl) ?_
  refine sT 110 (iV t108b) rfl (v_extract rfl · · · rfl rfl) ?_
  refine sT 111 (.ptr 5 5) rfl (v_field_box (off := 0) (a0 := 5) rfl · · · fo45_4 rfl) ?_
  refine sq_cons _ (v_store_box (id := 5) (off := 5) (cs := [(.sl 2 (t108a.map eEntry))].map V.d) rfl trivial rfl sz42 rfl rfl rfl rfl (ones_of rfl) (ble _ _ rfl)) ?_
  refine sM 14 (iV t108b) rfl rfl ?_
  refine sq_nil ?_
  cases h
  exact j13 _ (wk_ren _ (fun i => i) rfl ⟨rfl, rfl, rfl, rfl, rfl, rfl, rfl, rfl, rfl, rfl, rfl, rfl, rfl, rfl, rfl, rfl, rfl, rfl, rfl, rfl, rfl, rfl, rfl, rfl, rfl, rfl, rfl, rfl, rfl, rfl, rfl, rfl, rfl, rfl, rfl, rfl, rfl, rfl, rfl, rfl, rfl, rfl, rfl, rfl, rfl, rfl, rfl, rfl, rfl, rfl, rfl, rfl, rfl, rfl, rfl, rfl, rfl, rfl, trivial⟩)
 replace h := cneg e49 h
 refine ht_skip ?_
 cases h
 exact j13 _ (wk_ren _ (fun i => i) rfl ⟨rfl, rfl, rfl, rfl, rfl, rfl, rfl, rfl, rfl, rfl, rfl, rfl, rfl, rfl, rfl, rfl, rfl, rfl, rfl, rfl, rfl, rfl, rfl, rfl, rfl, rfl, rfl, rfl, rfl, rfl, rfl, rfl, rfl, rfl, rfl, rfl, rfl, rfl, rfl, rfl, rfl, rfl, rfl, rfl, rfl, rfl, rfl, rfl, rfl, rfl, rfl, rfl, rfl, rfl, rfl, rfl, rfl, rfl, trivial⟩)
theorem s37 (k : Nat) (t0 : Stamp) (t1 : Stamp) (r : Stamp) (h : F37 k t0 t1 = some r) : Awp.Spec Tryz.prog amb 37 [(.agg (eStamp t0)), (.agg (eStamp t1))] (.ds [(.agg (eStamp r))]) := by
 rw [F37] at h
 refine spec_of Tryz.func37 rfl (ble _ _ rfl) fun w0 ok0 lt0 hA => ?_
 refine sr ?_
 refine sT 2 (.d (.dp (eStamp t0))) rfl (v_box_d (cs := (eStamp t0)) rfl · · · rfl rfl (ones_of rfl)) ?_
 refine sT 3 (.d (.dp (eStamp t1))) rfl (v_box_d (cs := (eStamp t1)) rfl · · · rfl rfl (ones_of rfl)) ?_
 refine sq_cons _ (v_alloc (id := 4) (cs := zc24) rfl trivial rfl (ble _ _ rfl) zu24 rfl ft24 rfl) ?_
 refine sq_nil ?_
 refine ht_seq ?_
 refine sr ?_
 refine sT 5 (.d (.agg (eStamp t0))) rfl (w_ldp (eStamp t0) (eStamp t0) rfl · · · ag24 rfl (ble _ _ rfl) rfl) ?_
 refine sT 6 (.d (.agg (eStamp t1))) rfl (w_ldp (eStamp t1) (eStamp t1) rfl · · · ag24 rfl (ble _ _ rfl) rfl) ?_
 obtain ⟨t7, c1, h⟩ := bpos h
 refine sT 7 (iV t7) rfl (w_call (ds := [(.agg (eStamp t0)), (.agg (eStamp t1))]) (caps := []) (l := [(.s (.int .i64 t7))]) (s42 k t0 t1 _ c1) rfl rfl rfl en42 · · · (.inl ⟨rfl, rfl⟩) rfl rfl) ?_
 refine sT 8 (bV (ltI t7 0)) rfl (v_bin rfl · · · rfl rfl (b_lss rfl)) ?_
 refine sq_nil ?_
 refine ht_cond rfl (fun e2 => ?_) (fun e2 => ?_)
 ·replace h := cpos e2 h
  refine sr ?_
  refine sT 9 (.d (.agg (eStamp t1))) rfl (w_ldp (eStamp t1) (eStamp t1) rfl · · · ag24 rfl (ble _ _ rfl) rfl) ?_
  refine sq_cons _ (v_store_box (id := 4) (off := 0) (cs := (eStamp t1).map V.d) rfl trivial rfl sz24 rfl rfl rfl rfl (ones_of rfl) (ble _ _ rfl)) ?_
  refine sq_nil ?_
  refine ht_ret ?_
  cases h
  exact ret1 rfl (.cell rfl rfl ag24 (ble _ _ rfl) rfl)
 replace h := cneg e2 h
 refine ht_skip ?_
 refine sr ?_
 refine sT 10 (.d (.agg (eStamp t0))) rfl (w_ldp (eStamp t0) (eStamp t0) rfl · · · ag24 rfl (ble _ _ rfl) rfl) ?_
 refine sq_cons _ (v_store_box (id := 4) (off := 0) (cs := (eStamp t0).map V.d) rfl trivial rfl sz24 rfl rfl rfl rfl (ones_of rfl) (ble _ _ rfl)) ?_
 refine sq_nil ?_
 refine ht_ret ?_
 cases h
 exact ret1 rfl (.cell rfl rfl ag24 (ble _ _ rfl) rfl)
theorem s162 (k : Nat) (t0 : List Version) (t1 : Stamp) (r : ByteArray × Bool) (h : F162 k t0 t1 = some r) : Awp.Spec Tryz.prog amb 162 [(.sl 5 (t0.map eVersion)), (.agg (eStamp t1))] (.ds [(.s (.string r.1)), (.s (.bool r.2))]) := by
 rw [F162] at h
 refine spec_of Tryz.func162 rfl (ble _ _ rfl) fun w0 ok0 lt0 hA => ?_
 refine sr ?_
 refine sT 3 (.d (.dp (eStamp t1))) rfl (v_box_d (cs := (eStamp t1)) rfl · · · rfl rfl (ones_of rfl)) ?_
 refine sM 4 (sV (⟨#[]⟩ : ByteArray)) rfl rfl ?_
 refine sM 5 (bV false) rfl rfl ?_
 refine sq_nil ?_
 refine sr ?_
 refine sM 9 (.d (.sl 5 (t0.map eVersion))) rfl rfl ?_
 refine sT 10 (.d (.agg (eStamp t1))) rfl (w_ldp (eStamp t1) (eStamp t1) rfl · · · ag24 rfl (ble _ _ rfl) rfl) ?_
 obtain ⟨⟨t11a, t11b⟩, c1, h⟩ := bpos h
 refine sT 11 (.tup [.d (.agg (eVersion t11a)), bV t11b]) rfl (w_call (ds := [(.sl 5 (t0.map eVersion)), (.agg (eStamp t1))]) (caps := []) (l := [(.agg (eVersion t11a)), (.s (.bool t11b))]) (s150 k t0 t1 _ c1) rfl rfl rfl en150 · · · (.inl ⟨rfl, rfl⟩) rfl rfl) ?_
 refine sM 8 (.tup [.d (.agg (eVersion t11a)), bV t11b]) rfl rfl ?_
 refine sT 12 (.d (.agg (eVersion t11a))) rfl (v_extract rfl · · · rfl rfl) ?_
 refine sT 13 (bV t11b) rfl (v_extract rfl · · · rfl rfl) ?_
 refine sq_cons _ (v_alloc (id := 6) (cs := zc93) rfl trivial rfl (ble _ _ rfl) zu93 rfl ft93 rfl) ?_
 refine sq_cons _ (v_store_box (id := 6) (off := 0) (cs := (eVersion t11a).map V.d) rfl trivial rfl sz93 rfl rfl rfl rfl (ones_of rfl) (ble _ _ rfl)) ?_
 refine sM 7 (bV t11b) rfl rfl ?_
 refine sq_nil ?_
 refine ht_seq ?_
 refine ht_region_draw mixed ?_
 refine rT 14 (.ptr 6 4) rfl (v_field_box (off := 0) (a0 := 4) rfl · · · fo93_2 rfl) ?_
 refine rT 15 (sV t11a.mValue) rfl (v_load_box1 (id := 6) (off := 4) rfl · · · onT9 rfl rfl (ble _ _ rfl) rfl) ?_
 refine rM 16 (bV t11b) rfl rfl ?_
 refine rM 17 (bV t11b) rfl rfl ?_
 refine rG 18 (.ptr 6 3) rfl rfl (fun e2 => (v_field_box (off := 0) (a0 := 3) rfl · · · fo93_1 rfl)) ?_
 refine rG 19 (bV t11a.mGone) rfl rfl (fun e3 => (v_load_box1 (id := 6) (off := 3) rfl · · · onT4 (gv e3) rfl (ble _ _ rfl) rfl)) ?_
 refine rG 20 (bV (!t11a.mGone)) rfl rfl (fun e4 => (v_un rfl · · · (gv e4) (u_not rfl))) ?_
 refine rT 21 (bV (t11b && (!t11a.mGone))) rfl (v_pickB rfl · · · rfl (fun e5 => (gv e5)) (fun e6 => rfl) (pA _ _)) ?_
 refine rM 4 (sV t11a.mValue) rfl rfl ?_
 refine rM 5 (bV (t11b && (!t11a.mGone))) rfl rfl ?_
 refine rg_nil ⟨by kernel_rfl, ?_⟩
 refine ht_ret ?_
 cases h
 exact ret2 rfl (.tmp rfl) (.tmp rfl)
theorem s129 (k : Nat) (t0 : List Entry) (t1 : ByteArray) (t2 : ByteArray) (t3 : Stamp) (t4 : Int) (r : (List Item) × ByteArray × Bool) (h : F129 k t0 t1 t2 t3 t4 = some r) : Awp.Spec Tryz.prog amb 129 [(.sl 2 (t0.map eEntry)), (.s (.string t1)), (.s (.string t2)), (.agg (eStamp t3)), (.s (.int .i64 t4))] (.ds [(.sl 2 (r.1.map eItem)), (.s (.string r.2.1)), (.s (.bool r.2.2))]) := by
 rw [F129] at h
 refine spec_of Tryz.func129 rfl (ble _ _ rfl) fun w0 ok0 lt0 hA => ?_
 refine sr ?_
 refine sT 8 (.d (.dp (eStamp t3))) rfl (v_box_d (cs := (eStamp t3)) rfl · · · rfl rfl (ones_of rfl)) ?_
 refine sM 10 (.d (.s (.slice none 0 0))) rfl rfl ?_
 refine sM 11 (sV (⟨#[]⟩ : ByteArray)) rfl rfl ?_
 refine sM 12 (bV false) rfl rfl ?_
 refine sq_nil ?_
 refine ht_seq ?_
 refine sr ?_
 refine sM 20 (.d (.sl 2 (t0.map eEntry))) rfl rfl ?_
 obtain ⟨t21, c1, h⟩ := bpos h
 refine sT 21 (bV t21) rfl (w_call (ds := [(.sl 2 (t0.map eEntry))]) (caps := []) (l := [(.s (.bool t21))]) (s81 k t0 _ c1) rfl rfl rfl en81 · · · (.inl ⟨rfl, rfl⟩) rfl rfl) ?_
 refine sT 22 (bV (!t21)) rfl (v_un rfl · · · rfl (u_not rfl)) ?_
 refine sq_nil ?_
 refine ht_cond rfl (fun e2 => ?_) (fun e2 => ?_)
 ·replace h := cpos e2 h
  refine sr ?_
  refine sM 10 (.d (.s (.slice none 0 0))) rfl rfl ?_
  refine sM 11 (sV (⟨#[]⟩ : ByteArray)) rfl rfl ?_
  refine sM 12 (bV false) rfl rfl ?_
  refine sq_nil ?_
  refine ht_ret ?_
  cases h
  exact retM_wk (wk_nil (.t 10) (nb 10) 2 rfl) (ret3 rfl (.tmp rfl) (.tmp rfl) (.tmp rfl))
 replace h := cneg e2 h
 refine ht_skip ?_
 refine sr ?_
 refine sM 13 (.d (.s (.slice none 0 0))) rfl rfl ?_
 refine sq_nil ?_
 refine sr ?_
 refine sM 24 (.d (.sl 2 (t0.map eEntry))) rfl rfl ?_
 refine sM 25 (sV t1) rfl rfl ?_
 obtain ⟨⟨t26a, t26b⟩, c3, h⟩ := bpos h
 refine sT 26 (.tup [iV t26a, bV t26b]) rfl (w_call (ds := [(.sl 2 (t0.map eEntry)), (.s (.string t1))]) (caps := []) (l := [(.s (.int .i64 t26a)), (.s (.bool t26b))]) (s148 k t0 t1 _ c3) rfl rfl rfl en148 · · · (.inl ⟨rfl, rfl⟩) rfl rfl) ?_
 refine sM 23 (.tup [iV t26a, bV t26b]) rfl rfl ?_
 refine sT 27 (iV t26a) rfl (v_extract rfl · · · rfl rfl) ?_
 refine sT 28 (bV t26b) rfl (v_extract rfl · · · rfl rfl) ?_
 refine sM 14 (iV t26a) rfl rfl ?_
 refine sM 15 (bV t26b) rfl rfl ?_
 refine sq_nil ?_
 refine ht_gj (go_id' h) (fun t13 => tell [(.b 1013, .row false 110 2 (t13.map eItem)), (.t 13, .own 1013 2 t13.length)]) (fun t13 h => ?_) (fun v4 K5 h j7 r8 => ?_)
 ·refine sr ?_
  refine sM 70 (.own 1013 2 t13.length) rfl rfl ?_
  refine sM 10 (.own 1013 2 t13.length) rfl rfl ?_
  refine sM 11 (sV (⟨#[]⟩ : ByteArray)) rfl rfl ?_
  refine sM 12 (bV false) rfl rfl ?_
  refine sq_nil ?_
  refine ht_ret ?_
  cases h
  exact retM_wk (wk_still_row 1013 _ _ _ rfl) (retM_wk (wk_row (.t 10) (nb 10) 1013 _ _ _ _ rfl rfl (lm _ _)) (retM_wk (wk_row (.t 13) (nb 13) 1013 _ _ _ _ rfl rfl (lm _ _)) (retM_wk (wk_row (.t 70) (nb 70) 1013 _ _ _ _ rfl rfl (lm _ _)) (ret3 rfl (.tmp rfl) (.tmp rfl) (.tmp rfl)))))
 refine sr ?_
 refine sM 29 (.d (.sl 2 (t0.map eEntry))) rfl rfl ?_
 refine sM 30 (iV t26a) rfl rfl ?_
 obtain ⟨e9, h⟩ := gpos h
 refine sT 31 (.d (.sl 2 ((List.drop t26a.toNat t0).map eEntry))) rfl (w_cutl t0 eEntry rfl · · · slT42 rfl rfl e9) ?_
 refine sT 32 (iV ((List.drop t26a.toNat t0).length : Int)) rfl (w_len (List.drop t26a.toNat t0) eEntry rfl rfl · · · slT42 rfl) ?_
 refine sM 33 (iV 0) rfl rfl ?_
 refine sq_nil ?_
 refine ht_block ?_
 refine ht_rd h (fun _ => rfl) (fun (t13_1, t33) => tell [(.b 1013, .row false 110 2 (t13_1.map eItem)), (.t 2, sV t2), (.t 4, iV t4), (.t 8, .d (.dp (eStamp t3))), (.t 13, .own 1013 2 t13_1.length), (.t 31, .d (.sl 2 ((List.drop t26a.toNat t0).map eEntry))), (.t 32, iV ((List.drop t26a.toNat t0).length : Int)), (.t 33, iV t33)]) (wkt (wk_nilrow (.t 13) (nb 13) 1001013 110 2 rfl rfl) (wk_ren _ (fun i => bif Nat.beq i 1013 then 1001013 else i) rfl ⟨rfl, rfl, rfl, rfl, rfl, rfl, rfl, rfl, trivial⟩)) fun k v12 h K28 j11 => ?_
 obtain ⟨t13_1, t33⟩ := v12
 rw [F129_l1] at h
 refine sr ?_
 refine sT 34 (bV (ltI t33 ((List.drop t26a.toNat t0).length : Int))) rfl (v_bin rfl · · · rfl rfl (b_lss rfl)) ?_
 refine sq_nil ?_
 refine ht_seq ?_
 refine ht_cond rfl (fun e13 => ?_) (fun e13 => ?_)
 ·replace h := cpos e13 h
  refine ht_skip ?_
  refine ht_seq ?_
  refine ht_block ?_
  refine sr ?_
  obtain ⟨e14, h⟩ := gpos h
  refine sT 35 (.d (.dp (eEntry (rd (List.drop t26a.toNat t0) t33)))) rfl (w_idx (List.drop t26a.toNat t0) eEntry rfl · · · slT42 rfl rfl e14) ?_
  refine sT 36 (.d (.agg (eEntry (rd (List.drop t26a.toNat t0) t33)))) rfl (w_ldp (eEntry (rd (List.drop t26a.toNat t0) t33)) (eEntry (rd (List.drop t26a.toNat t0) t33)) rfl · · · ag116 rfl (ble _ _ rfl) rfl) ?_
  refine sq_cons _ (v_alloc (id := 17) (cs := zc116) rfl trivial rfl (ble _ _ rfl) zu116 rfl ft116 rfl) ?_
  refine sq_cons _ (v_store_box (id := 17) (off := 0) (cs := (eEntry (rd (List.drop t26a.toNat t0) t33)).map V.d) rfl trivial rfl sz116 rfl rfl rfl rfl (ones_of rfl) (ble _ _ rfl)) ?_
  refine sq_nil ?_
  refine ht_seq ?_
  refine sr ?_
  refine sM 37 (sV t2) rfl rfl ?_
  refine sT 38 (bV (!strEq t2 (⟨#[]⟩ : ByteArray))) rfl (v_bin rfl · · · rfl rfl (b_neS rfl)) ?_
  refine sM 39 (bV (!strEq t2 (⟨#[]⟩ : ByteArray))) rfl rfl ?_
  refine sG 40 (.ptr 17 0) rfl rfl (fun e15 => (v_field_box (off := 0) (a0 := 0) rfl · · · fo116_0 rfl)) ?_
  refine sG 41 (sV (rd (List.drop t26a.toNat t0) t33).mKey) rfl rfl (fun e16 => (v_load_box1 (id := 17) (off := 0) rfl · · · onT9 (gv e16) rfl (ble _ _ rfl) rfl)) ?_
  refine sG 42 (sV t2) rfl rfl (fun e17 => (v_move (.inl rfl) · · · rfl)) ?_
  obtain ⟨t43, c19, h⟩ := bpos h
  refine sG 43 (iV t43) rfl rfl (fun e18 => (w_call (ds := [(.s (.string (rd (List.drop t26a.toNat t0) t33).mKey)), (.s (.string t2))]) (caps := []) (l := [(.s (.int .i64 t43))]) (s124 k (rd (List.drop t26a.toNat t0) t33).mKey t2 _ (cpos e18 c19)) rfl rfl rfl en124 · · · (.inl ⟨rfl, rfl⟩) (cc (gv e18) (cc (gv e18) rfl)) rfl)) ?_
  refine sG 44 (bV (leI 0 t43)) rfl rfl (fun e20 => (v_bin rfl · · · (gv e20) rfl (b_geq rfl))) ?_
  refine sT 45 (bV ((!strEq t2 (⟨#[]⟩ : ByteArray)) && (leI 0 t43))) rfl (v_pickB rfl · · · rfl (fun e21 => (gv e21)) (fun e22 => rfl) (pA _ _)) ?_
  refine sq_nil ?_
  refine ht_cond rfl (fun e23 => ?_) (fun e23 => ?_)
  ·replace h := cpos e23 h
   refine ht_exit ?_
   refine tq ?_
   refine bq_pass (by decide) ?_
   refine tq ?_
   refine tq ?_
   refine bq_hit ?_
   cases h
   exact j7 _ _ rfl (wk_ren _ (fun i => i) rfl ⟨rfl, rfl, trivial⟩)
  replace h := cneg e23 h
  refine ht_skip ?_
  refine sr ?_
  refine sT 47 (.ptr 17 1) rfl (v_field_box (off := 0) (a0 := 1) rfl · · · fo116_1 rfl) ?_
  refine sT 48 (.d (.sl 5 ((rd (List.drop t26a.toNat t0) t33).mChain.map eVersion))) rfl (v_load_box1 (id := 17) (off := 1) rfl · · · onT96 rfl rfl (ble _ _ rfl) rfl) ?_
  refine sT 49 (.d (.agg (eStamp t3))) rfl (w_ldp (eStamp t3) (eStamp t3) rfl · · · ag24 rfl (ble _ _ rfl) rfl) ?_
  obtain ⟨⟨t50a, t50b⟩, c24, h⟩ := bpos h
  refine sT 50 (.tup [sV t50a, bV t50b]) rfl (w_call (ds := [(.sl 5 ((rd (List.drop t26a.toNat t0) t33).mChain.map eVersion)), (.agg (eStamp t3))]) (caps := []) (l := [(.s (.string t50a)), (.s (.bool t50b))]) (s162 k (rd (List.drop t26a.toNat t0) t33).mChain t3 _ c24) rfl rfl rfl en162 · · · (.inl ⟨rfl, rfl⟩) rfl rfl) ?_
  refine sM 46 (.tup [sV t50a, bV t50b]) rfl rfl ?_
  refine sT 51 (sV t50a) rfl (v_extract rfl · · · rfl rfl) ?_
  refine sT 52 (bV t50b) rfl (v_extract rfl · · · rfl rfl) ?_
  refine sM 18 (sV t50a) rfl rfl ?_
  refine sM 19 (bV t50b) rfl rfl ?_
  refine sq_nil ?_
  refine ht_seq ?_
  refine sr ?_
  refine sM 53 (bV t50b) rfl rfl ?_
  refine sT 54 (bV (!t50b)) rfl (v_un rfl · · · rfl (u_not rfl)) ?_
  refine sq_nil ?_
  refine ht_cond rfl (fun e25 => ?_) (fun e25 => ?_)
  ·replace h := cpos e25 h
   refine ht_exit ?_
   refine tq ?_
   refine bq_hit ?_
   refine ht_region ?_
   refine sT 69 (iV (IntKind.wrap .i64 (t33 + 1))) rfl (v_bin rfl · · · rfl rfl (b_add rfl)) ?_
   refine sM 33 (iV (IntKind.wrap .i64 (t33 + 1))) rfl rfl ?_
   refine sq_nil ?_
   exact j11 _ _ h (wk_ren _ (fun i => i) rfl ⟨rfl, rfl, rfl, rfl, rfl, rfl, rfl, rfl, trivial⟩)
  replace h := cneg e25 h
  refine ht_skip ?_
  refine ht_seq ?_
  refine sr ?_
  refine sM 55 (.own 1013 2 t13_1.length) rfl rfl ?_
  refine sT 56 (iV (t13_1.length : Int)) rfl (v_len_own rfl rfl · · · und32 rfl) ?_
  refine sM 57 (iV t4) rfl rfl ?_
  refine sT 58 (bV (leI t4 (t13_1.length : Int))) rfl (v_bin rfl · · · rfl rfl (b_geq rfl)) ?_
  refine sq_nil ?_
  refine ht_cond rfl (fun e26 => ?_) (fun e26 => ?_)
  ·replace h := cpos e26 h
   refine ht_seq ?_
   refine ht_region_draw mixed ?_
   refine rM 59 (.own 1013 2 t13_1.length) rfl rfl ?_
   refine rT 60 (.ptr 17 0) rfl (v_field_box (off := 0) (a0 := 0) rfl · · · fo116_0 rfl) ?_
   refine rT 61 (sV (rd (List.drop t26a.toNat t0) t33).mKey) rfl (v_load_box1 (id := 17) (off := 0) rfl · · · onT9 rfl rfl (ble _ _ rfl) rfl) ?_
   refine rM 10 (.own 1013 2 t13_1.length) rfl rfl ?_
   refine rM 11 (sV (rd (List.drop t26a.toNat t0) t33).mKey) rfl rfl ?_
   refine rM 12 (bV true) rfl rfl ?_
   refine rg_nil ⟨by kernel_rfl, ?_⟩
   refine ht_ret ?_
   cases h
   cases r8 _ rfl
   exact retM_wk (wk_still_row 1013 _ _ _ rfl) (retM_wk (wk_row (.t 10) (nb 10) 1013 _ _ _ _ rfl rfl (lm _ _)) (retM_wk (wk_row (.t 13) (nb 13) 1013 _ _ _ _ rfl rfl (lm _ _)) (retM_wk (wk_row (.t 55) (nb 55) 1013 _ _ _ _ rfl rfl (lm _ _)) (retM_wk (wk_row (.t 59) (nb 59) 1013 _ _ _ _ rfl rfl (lm _ _)) (ret3 rfl (.tmp rfl) (.tmp rfl) (.tmp rfl))))))
  replace h := cneg e26 h
  refine ht_skip ?_
  refine ht_region ?_
  refine sM 62 (.own 1013 2 t13_1.length) rfl rfl ?_
  refine sT 63 (.ptr 17 0) rfl (v_field_box (off := 0) (a0 := 0) rfl · · · fo116_0 rfl) ?_
  refine sT 64 (sV (rd (List.drop t26a.toNat t0) t33).mKey) rfl (v_load_box1 (id := 17) (off := 0) rfl · · · onT9 rfl rfl (ble _ _ rfl) rfl) ?_
  refine sM 65 (sV t50a) rfl rfl ?_
  refine sT 66 (.d (.agg (eItem (⟨(rd (List.drop t26a.toNat t0) t33).mKey, t50a⟩ : Item)))) rfl (w_bld zc110 ((eItem (⟨(rd (List.drop t26a.toNat t0) t33).mKey, t50a⟩ : Item)).map V.d) [(0, sV (rd (List.drop t26a.toNat t0) t33).mKey), (1, sV t50a)] rfl · · · zw110 rfl ft110 rfl rfl rfl rfl) ?_
  refine sq_cons ⟨_, [(.b 67, .row false 110 2 (([(⟨(rd (List.drop t26a.toNat t0) t33).mKey, t50a⟩ : Item)]).map eItem)), (.t 67, .own 67 2 ([(⟨(rd (List.drop t26a.toNat t0) t33).mKey, t50a⟩ : Item)]).length)]⟩ (w_bsl (id := 67) [(0, .d (.agg (eItem (⟨(rd (List.drop t26a.toNat t0) t33).mKey, t50a⟩ : Item))))] [(⟨(rd (List.drop t26a.toNat t0) t33).mKey, t50a⟩ : Item)] eItem rfl trivial rfl (ble _ _ rfl) slT32 zr110 teItem (ble _ _ rfl) rfl (by kernel_rfl) rfl rfl (by kernel_rfl) (by kernel_rfl)) ?_
  obtain ⟨e27, h⟩ := gpos h
  refine sq_cons ⟨_, [(.b 1013, .spent), (.b 68, .row false 110 2 ((t13_1 ++ [(⟨(rd (List.drop t26a.toNat t0) t33).mKey, t50a⟩ : Item)]).map eItem)), (.t 68, .own 68 2 (t13_1 ++ [(⟨(rd (List.drop t26a.toNat t0) t33).mKey, t50a⟩ : Item)]).length)]⟩ (w_app 68 t13_1 ([(⟨(rd (List.drop t26a.toNat t0) t33).mKey, t50a⟩ : Item)]) eItem rfl rfl trivial rfl (ble _ _ rfl) slT32 elT110 teItem rfl rfl rfl (.own 67 _ _ rfl) rfl e27) ?_
  refine sM 13 (.own 68 2 (t13_1 ++ [(⟨(rd (List.drop t26a.toNat t0) t33).mKey, t50a⟩ : Item)]).length) rfl rfl ?_
  refine sq_nil ?_
  refine ht_region ?_
  refine sT 69 (iV (IntKind.wrap .i64 (t33 + 1))) rfl (v_bin rfl · · · rfl rfl (b_add rfl)) ?_
  refine sM 33 (iV (IntKind.wrap .i64 (t33 + 1))) rfl rfl ?_
  refine sq_nil ?_
  exact j11 _ _ h (wk_ren _ (fun i => bif Nat.beq i 1013 then 68 else i) rfl ⟨rfl, rfl, rfl, rfl, rfl, rfl, rfl, rfl, trivial⟩)
 replace h := cneg e13 h
 refine ht_exit ?_
 refine tq ?_
 refine tq ?_
 refine bq_hit ?_
 cases h
 exact j7 _ _ rfl (wk_ren _ (fun i => i) rfl ⟨rfl, rfl, trivial⟩)
theorem s65 (k : Nat) (t0 : Cell) (t1 : Shard) (t2 : Request) (t3 : Int) (r : Cell × Answer) (h : F65 k t0 t1 t2 t3 = some r) : Awp.Spec Tryz.prog amb 65 [(.agg (eCell t0)), (.agg (eShard t1)), (.agg (eRequest t2)), (.s (.int .i64 t3))] (.ds [(.agg (eCell r.1)), (.agg (eAnswer r.2))]) := by
 rw [F65] at h
 refine spec_of Tryz.func65 rfl (ble _ _ rfl) fun w0 ok0 lt0 hA => ?_
 refine sr ?_
 refine sq_cons _ (v_box (id := 4) (cs := (eCell t0).map V.d) rfl trivial rfl (ble _ _ rfl) rfl rfl (ones_of rfl) rfl) ?_
 refine sT 5 (.d (.dp (eShard t1))) rfl (v_box_d (cs := (eShard t1)) rfl · · · rfl rfl (ones_of rfl)) ?_
 refine sT 6 (.d (.dp (eRequest t2))) rfl (v_box_d (cs := (eRequest t2)) rfl · · · rfl rfl (ones_of rfl)) ?_
 refine sq_cons _ (v_alloc (id := 8) (cs := zc26) rfl trivial rfl (ble _ _ rfl) zu26 rfl ft26 rfl) ?_
 refine sq_cons _ (v_alloc (id := 9) (cs := zc34) rfl trivial rfl (ble _ _ rfl) zu34 rfl ft34 rfl) ?_
 refine sq_nil ?_
 refine ht_seq ?_
 refine ht_block ?_
 refine sr ?_
 refine sT 16 (.d (.dp (List.drop 7 (eRequest t2)))) rfl (v_field_dp (a0 := 7) (cs := (eRequest t2)) rfl · · · fo28_7 rfl) ?_
 refine sT 17 (.d (.agg (eStamp t2.mAt))) rfl (w_ldp (List.drop 7 (eRequest t2)) (eStamp t2.mAt) rfl · · · ag24 rfl (ble _ _ rfl) rfl) ?_
 refine sT 18 (.d (.dp (List.drop 6 (eShard t1)))) rfl (v_field_dp (a0 := 6) (cs := (eShard t1)) rfl · · · fo45_5 rfl) ?_
 refine sT 19 (.d (.agg (eStamp t1.mMark))) rfl (w_ldp (List.drop 6 (eShard t1)) (eStamp t1.mMark) rfl · · · ag24 rfl (ble _ _ rfl) rfl) ?_
 obtain ⟨t20, c1, h⟩ := bpos h
 refine sT 20 (iV t20) rfl (w_call (ds := [(.agg (eStamp t2.mAt)), (.agg (eStamp t1.mMark))]) (caps := []) (l := [(.s (.int .i64 t20))]) (s42 k t2.mAt t1.mMark _ c1) rfl rfl rfl en42 · · · (.inl ⟨rfl, rfl⟩) rfl rfl) ?_
 refine sT 21 (bV (ltI t20 0)) rfl (v_bin rfl · · · rfl rfl (b_lss rfl)) ?_
 refine sM 15 (bV (ltI t20 0)) rfl rfl ?_
 refine sq_nil ?_
 refine ht_cond rfl (fun e2 => ?_) (fun e2 => ?_)
 ·replace h := cpos e2 h
  refine ht_seq ?_
  refine ht_region_draw mixed ?_
  refine rT 22 (.d (.agg (eCell t0))) rfl (w_ldb 4 0 rfl · · · ag26 rfl rfl (ble _ _ rfl) rfl) ?_
  obtain ⟨t23, c3, h⟩ := bpos h
  refine rT 23 (.d (.agg (eAnswer t23))) rfl (w_call (ds := [(.s (.int .i64 13))]) (caps := []) (l := [(.agg (eAnswer t23))]) (s59 k 13 _ c3) rfl rfl rfl en59 · · · (.inl ⟨rfl, rfl⟩) rfl rfl) ?_
  refine rg_cons _ (v_store_box (id := 8) (off := 0) (cs := (eCell t0).map V.d) rfl trivial rfl sz26 rfl rfl rfl rfl (ones_of rfl) (ble _ _ rfl)) ?_
  refine rg_cons _ (v_store_box (id := 9) (off := 0) (cs := (eAnswer t23).map V.d) rfl trivial rfl sz34 rfl rfl rfl rfl (ones_of rfl) (ble _ _ rfl)) ?_
  refine rg_nil ⟨by kernel_rfl, ?_⟩
  refine ht_ret ?_
  cases h
  exact ret2 rfl (.cell rfl rfl ag26 (ble _ _ rfl) rfl) (.cell rfl rfl ag34 (ble _ _ rfl) rfl)
 replace h := cneg e2 h
 refine sr ?_
 refine sT 25 (.d (.dp (List.drop 7 (eRequest t2)))) rfl (v_field_dp (a0 := 7) (cs := (eRequest t2)) rfl · · · fo28_7 rfl) ?_
 refine sT 26 (.d (.dp (List.drop 7 (eRequest t2)))) rfl (v_field_dp (a0 := 0) (cs := (List.drop 7 (eRequest t2))) rfl · · · fo24_0 rfl) ?_
 refine sT 27 (iV t2.mAt.mWall) rfl (v_load_dp1 rfl · · · onT3 rfl rfl) ?_
 refine sT 28 (iV (IntKind.wrap .i64 (t2.mAt.mWall - 1000))) rfl (v_bin rfl · · · rfl rfl (b_sub rfl)) ?_
 refine sM 29 (iV t3) rfl rfl ?_
 refine sT 30 (bV (ltI t3 (IntKind.wrap .i64 (t2.mAt.mWall - 1000)))) rfl (v_bin rfl · · · rfl rfl (b_gtr rfl)) ?_
 refine sM 24 (bV (ltI t3 (IntKind.wrap .i64 (t2.mAt.mWall - 1000)))) rfl rfl ?_
 refine sq_nil ?_
 refine ht_cond rfl (fun e4 => ?_) (fun e4 => ?_)
 ·replace h := cpos e4 h
  refine ht_seq ?_
  refine ht_region_draw mixed ?_
  refine rT 31 (.d (.agg (eCell t0))) rfl (w_ldb 4 0 rfl · · · ag26 rfl rfl (ble _ _ rfl) rfl) ?_
  obtain ⟨t32, c5, h⟩ := bpos h
  refine rT 32 (.d (.agg (eAnswer t32))) rfl (w_call (ds := [(.s (.int .i64 12))]) (caps := []) (l := [(.agg (eAnswer t32))]) (s59 k 12 _ c5) rfl rfl rfl en59 · · · (.inl ⟨rfl, rfl⟩) rfl rfl) ?_
  refine rg_cons _ (v_store_box (id := 8) (off := 0) (cs := (eCell t0).map V.d) rfl trivial rfl sz26 rfl rfl rfl rfl (ones_of rfl) (ble _ _ rfl)) ?_
  refine rg_cons _ (v_store_box (id := 9) (off := 0) (cs := (eAnswer t32).map V.d) rfl trivial rfl sz34 rfl rfl rfl rfl (ones_of rfl) (ble _ _ rfl)) ?_
  refine rg_nil ⟨by kernel_rfl, ?_⟩
  refine ht_ret ?_
  cases h
  exact ret2 rfl (.cell rfl rfl ag26 (ble _ _ rfl) rfl) (.cell rfl rfl ag34 (ble _ _ rfl) rfl)
 replace h := cneg e4 h
 refine ht_skip ?_
 refine sr ?_
 refine sT 33 (.ptr 4 1) rfl (v_field_box (off := 0) (a0 := 1) rfl · · · fo26_1 rfl) ?_
 refine sT 34 (.d (.agg (eStamp t0.mTop))) rfl (w_ldb 4 1 rfl · · · ag24 rfl rfl (ble _ _ rfl) rfl) ?_
 refine sT 35 (.d (.dp (List.drop 7 (eRequest t2)))) rfl (v_field_dp (a0 := 7) (cs := (eRequest t2)) rfl · · · fo28_7 rfl) ?_
 refine sT 36 (.d (.agg (eStamp t2.mAt))) rfl (w_ldp (List.drop 7 (eRequest t2)) (eStamp t2.mAt) rfl · · · ag24 rfl (ble _ _ rfl) rfl) ?_
 obtain ⟨t37, c6, h⟩ := bpos h
 refine sT 37 (.d (.agg (eStamp t37))) rfl (w_call (ds := [(.agg (eStamp t0.mTop)), (.agg (eStamp t2.mAt))]) (caps := []) (l := [(.agg (eStamp t37))]) (s37 k t0.mTop t2.mAt _ c6) rfl rfl rfl en37 · · · (.inl ⟨rfl, rfl⟩) rfl rfl) ?_
 refine sT 38 (.ptr 4 1) rfl (v_field_box (off := 0) (a0 := 1) rfl · · · fo26_1 rfl) ?_
 refine sq_cons _ (v_store_box (id := 4) (off := 1) (cs := (eStamp t37).map V.d) rfl trivial rfl sz24 rfl rfl rfl rfl (ones_of rfl) (ble _ _ rfl)) ?_
 refine sq_nil ?_
 refine sr ?_
 refine sT 39 (.d (.dp (List.drop 7 (eRequest t2)))) rfl (v_field_dp (a0 := 7) (cs := (eRequest t2)) rfl · · · fo28_7 rfl) ?_
 refine sT 40 (.d (.agg (eStamp t2.mAt))) rfl (w_ldp (List.drop 7 (eRequest t2)) (eStamp t2.mAt) rfl · · · ag24 rfl (ble _ _ rfl) rfl) ?_
 refine sT 41 (.d (.agg (eAnswer (⟨0, t2.mAt, false, (⟨#[]⟩ : ByteArray), ([] : List Item), (⟨#[]⟩ : ByteArray), false⟩ : Answer)))) rfl (w_bld zc34 ((eAnswer (⟨0, t2.mAt, false, (⟨#[]⟩ : ByteArray), ([] : List Item), (⟨#[]⟩ : ByteArray), false⟩ : Answer)).map V.d) [(1, .d (.agg (eStamp t2.mAt)))] rfl · · · zw34 rfl ft34 rfl rfl rfl rfl) ?_
 refine sq_cons _ (v_alloc (id := 10) (cs := zc34) rfl trivial rfl (ble _ _ rfl) zu34 rfl ft34 rfl) ?_
 refine sq_cons _ (v_store_box (id := 10) (off := 0) (cs := (eAnswer (⟨0, t2.mAt, false, (⟨#[]⟩ : ByteArray), ([] : List Item), (⟨#[]⟩ : ByteArray), false⟩ : Answer)).map V.d) rfl trivial rfl sz34 rfl rfl rfl rfl (ones_of rfl) (ble _ _ rfl)) ?_
 refine sq_nil ?_
 refine ht_seq ?_
 refine sr ?_
 refine sT 42 (.d (.dp (List.drop 2 (eRequest t2)))) rfl (v_field_dp (a0 := 2) (cs := (eRequest t2)) rfl · · · fo28_2 rfl) ?_
 refine sT 43 (iV t2.mKind) rfl (v_load_dp1 rfl · · · onT3 rfl rfl) ?_
 refine sT 44 (bV (eqI t2.mKind 5)) rfl (v_bin rfl · · · rfl rfl (b_eql rfl)) ?_
 refine sq_nil ?_
 refine ht_cond rfl (fun e7 => ?_) (fun e7 => ?_)
 ·replace h := cpos e7 h
  refine sr ?_
  refine sT 46 (.d (.dp (List.drop 5 (eShard t1)))) rfl (v_field_dp (a0 := 5) (cs := (eShard t1)) rfl · · · fo45_4 rfl) ?_
  refine sT 47 (.d (.sl 2 (t1.mEntries.map eEntry))) rfl (v_load_dp1 rfl · · · onT42 rfl rfl) ?_
  refine sT 48 (.d (.dp (List.drop 3 (eRequest t2)))) rfl (v_field_dp (a0 := 3) (cs := (eRequest t2)) rfl · · · fo28_3 rfl) ?_
  refine sT 49 (sV t2.mKey) rfl (v_load_dp1 rfl · · · onT9 rfl rfl) ?_
  refine sT 50 (.d (.dp (List.drop 7 (eRequest t2)))) rfl (v_field_dp (a0 := 7) (cs := (eRequest t2)) rfl · · · fo28_7 rfl) ?_
  refine sT 51 (.d (.agg (eStamp t2.mAt))) rfl (w_ldp (List.drop 7 (eRequest t2)) (eStamp t2.mAt) rfl · · · ag24 rfl (ble _ _ rfl) rfl) ?_
  obtain ⟨⟨t52a, t52b⟩, c8, h⟩ := bpos h
  refine sT 52 (.tup [.d (.agg (eVersion t52a)), bV t52b]) rfl (w_call (ds := [(.sl 2 (t1.mEntries.map eEntry)), (.s (.string t2.mKey)), (.agg (eStamp t2.mAt))]) (caps := []) (l := [(.agg (eVersion t52a)), (.s (.bool t52b))]) (s118 k t1.mEntries t2.mKey t2.mAt _ c8) rfl rfl rfl en118 · · · (.inl ⟨rfl, rfl⟩) rfl rfl) ?_
  refine sM 45 (.tup [.d (.agg (eVersion t52a)), bV t52b]) rfl rfl ?_
  refine sT 53 (.d (.agg (eVersion t52a))) rfl (v_extract rfl · · · rfl rfl) ?_
  refine sT 54 (bV t52b) rfl (v_extract rfl · · · rfl rfl) ?_
  refine sq_cons _ (v_alloc (id := 11) (cs := zc93) rfl trivial rfl (ble _ _ rfl) zu93 rfl ft93 rfl) ?_
  refine sq_cons _ (v_store_box (id := 11) (off := 0) (cs := (eVersion t52a).map V.d) rfl trivial rfl sz93 rfl rfl rfl rfl (ones_of rfl) (ble _ _ rfl)) ?_
  refine sM 12 (bV t52b) rfl rfl ?_
  refine sq_nil ?_
  refine ht_seq ?_
  refine ht_region_draw mixed ?_
  refine rM 55 (bV t52b) rfl rfl ?_
  refine rM 56 (bV t52b) rfl rfl ?_
  refine rG 57 (.ptr 11 3) rfl rfl (fun e9 => (v_field_box (off := 0) (a0 := 3) rfl · · · fo93_1 rfl)) ?_
  refine rG 58 (bV t52a.mGone) rfl rfl (fun e10 => (v_load_box1 (id := 11) (off := 3) rfl · · · onT4 (gv e10) rfl (ble _ _ rfl) rfl)) ?_
  refine rG 59 (bV (!t52a.mGone)) rfl rfl (fun e11 => (v_un rfl · · · (gv e11) (u_not rfl))) ?_
  refine rT 60 (bV (t52b && (!t52a.mGone))) rfl (v_pickB rfl · · · rfl (fun e12 => (gv e12)) (fun e13 => rfl) (pA _ _)) ?_
  refine rT 61 (.ptr 11 4) rfl (v_field_box (off := 0) (a0 := 4) rfl · · · fo93_2 rfl) ?_
  refine rT 62 (sV t52a.mValue) rfl (v_load_box1 (id := 11) (off := 4) rfl · · · onT9 rfl rfl (ble _ _ rfl) rfl) ?_
  refine rT 63 (.ptr 10 4) rfl (v_field_box (off := 0) (a0 := 4) rfl · · · fo34_2 rfl) ?_
  refine rg_cons _ (v_store_box (id := 10) (off := 4) (cs := [(.s (.bool (t52b && (!t52a.mGone))))].map V.d) rfl trivial rfl sz4 rfl rfl rfl rfl (ones_of rfl) (ble _ _ rfl)) ?_
  refine rT 64 (.ptr 10 5) rfl (v_field_box (off := 0) (a0 := 5) rfl · · · fo34_3 rfl) ?_
  refine rg_cons _ (v_store_box (id := 10) (off := 5) (cs := [(.s (.string t52a.mValue))].map V.d) rfl trivial rfl sz9 rfl rfl rfl rfl (ones_of rfl) (ble _ _ rfl)) ?_
  refine rg_nil ⟨by kernel_rfl, ?_⟩
  refine ht_seq ?_
  refine ht_region_draw mixed ?_
  refine rT 65 (.d (.agg (eCell ({t0 with mTop := t37})))) rfl (w_ldb 4 0 rfl · · · ag26 rfl rfl (ble _ _ rfl) rfl) ?_
  refine rT 66 (.d (.agg (eAnswer (⟨0, t2.mAt, (t52b && (!t52a.mGone)), t52a.mValue, ([] : List Item), (⟨#[]⟩ : ByteArray), false⟩ : Answer)))) rfl (w_ldb 10 0 rfl · · · ag34 rfl rfl (ble _ _ rfl) rfl) ?_
  refine rg_cons _ (v_store_box (id := 8) (off := 0) (cs := (eCell ({t0 with mTop := t37})).map V.d) rfl trivial rfl sz26 rfl rfl rfl rfl (ones_of rfl) (ble _ _ rfl)) ?_
  refine rg_cons _ (v_store_box (id := 9) (off := 0) (cs := (eAnswer (⟨0, t2.mAt, (t52b && (!t52a.mGone)), t52a.mValue, ([] : List Item), (⟨#[]⟩ : ByteArray), false⟩ : Answer)).map V.d) rfl trivial rfl sz34 rfl rfl rfl rfl (ones_of rfl) (ble _ _ rfl)) ?_
  refine rg_nil ⟨by kernel_rfl, ?_⟩
  refine ht_ret ?_
  cases h
  exact ret2 rfl (.cell rfl rfl ag26 (ble _ _ rfl) rfl) (.cell rfl rfl ag34 (ble _ _ rfl) rfl)
 replace h := cneg e7 h
 refine ht_skip ?_
 refine sr ?_
 refine sT 67 (.d (.dp (List.drop 10 (eRequest t2)))) rfl (v_field_dp (a0 := 10) (cs := (eRequest t2)) rfl · · · fo28_8 rfl) ?_
 refine sT 68 (sV t2.mHi) rfl (v_load_dp1 rfl · · · onT9 rfl rfl) ?_
 refine sM 13 (sV t2.mHi) rfl rfl ?_
 refine sq_nil ?_
 refine sr ?_
 refine sT 69 (.d (.dp (List.drop 2 (eShard t1)))) rfl (v_field_dp (a0 := 2) (cs := (eShard t1)) rfl · · · fo45_2 rfl) ?_
 refine sT 70 (.d (.dp (List.drop 3 (eShard t1)))) rfl (v_field_dp (a0 := 1) (cs := (List.drop 2 (eShard t1))) rfl · · · fo41_1 rfl) ?_
 refine sT 71 (sV t1.mSpan.mHi) rfl (v_load_dp1 rfl · · · onT9 rfl rfl) ?_
 refine sT 72 (bV (!strEq t1.mSpan.mHi (⟨#[]⟩ : ByteArray))) rfl (v_bin rfl · · · rfl rfl (b_neS rfl)) ?_
 refine sM 73 (bV (!strEq t1.mSpan.mHi (⟨#[]⟩ : ByteArray))) rfl rfl ?_
 refine sG 74 (sV t2.mHi) rfl rfl (fun e14 => (v_move (.inl rfl) · · · rfl)) ?_
 refine sG 75 (bV (strEq t2.mHi (⟨#[]⟩ : ByteArray))) rfl rfl (fun e15 => (v_bin rfl · · · (gv e15) rfl (b_eqS rfl))) ?_
 refine sG 76 (bV (strEq t2.mHi (⟨#[]⟩ : ByteArray))) rfl rfl (fun e16 => (v_move (.inl rfl) · · · (gv e16))) ?_
 refine sH 77 (.d (.dp (List.drop 2 (eShard t1)))) rfl rfl (fun e17 e18 => (v_field_dp (a0 := 2) (cs := (eShard t1)) rfl · · · fo45_2 rfl)) ?_
 refine sH 78 (.d (.dp (List.drop 3 (eShard t1)))) rfl rfl (fun e19 e20 => (v_field_dp (a0 := 1) (cs := (List.drop 2 (eShard t1))) rfl · · · fo41_1 (gv (aT e19 (nF e20))))) ?_
 refine sH 79 (sV t1.mSpan.mHi) rfl rfl (fun e21 e22 => (v_load_dp1 rfl · · · onT9 (gv (aT e21 (nF e22))) rfl)) ?_
 refine sH 80 (sV t2.mHi) rfl rfl (fun e23 e24 => (v_move (.inl rfl) · · · rfl)) ?_
 obtain ⟨t81, c27, h⟩ := bpos h
 refine sH 81 (iV t81) rfl rfl (fun e25 e26 => (w_call (ds := [(.s (.string t1.mSpan.mHi)), (.s (.string t2.mHi))]) (caps := []) (l := [(.s (.int .i64 t81))]) (s124 k t1.mSpan.mHi t2.mHi _ (cpos (aT e25 (nF e26)) c27)) rfl rfl rfl en124 · · · (.inl ⟨rfl, rfl⟩) (cc (gv (aT e25 (nF e26))) (cc (gv (aT e25 (nF e26))) rfl)) rfl)) ?_
 refine sH 82 (bV (ltI t81 0)) rfl rfl (fun e28 e29 => (v_bin rfl · · · (gv (aT e28 (nF e29))) rfl (b_lss rfl))) ?_
 refine sG 83 (bV ((strEq t2.mHi (⟨#[]⟩ : ByteArray)) || (ltI t81 0))) rfl rfl (fun e30 => (v_pickB rfl · · · (gv e30) (fun e31 => rfl) (fun e32 => (gv (aT e30 (nF e32)))) (pO _ _))) ?_
 refine sT 84 (bV ((!strEq t1.mSpan.mHi (⟨#[]⟩ : ByteArray)) && ((strEq t2.mHi (⟨#[]⟩ : ByteArray)) || (ltI t81 0)))) rfl (v_pickB rfl · · · rfl (fun e33 => (gv e33)) (fun e34 => rfl) (pA _ _)) ?_
 refine sM 14 (bV ((!strEq t1.mSpan.mHi (⟨#[]⟩ : ByteArray)) && ((strEq t2.mHi (⟨#[]⟩ : ByteArray)) || (ltI t81 0)))) rfl rfl ?_
 refine sq_nil ?_
 refine ht_bj h (fun t13 => tell [(.b 4, .box false 5), (.b 8, .box false 5), (.b 9, .box false 9), (.b 10, .box false 9), (.c 4 0, .d (.sl 17 (t0.mShards.map eShard))), (.c 4 1, iV t37.mWall), (.c 4 2, iV t37.mTick), (.c 4 3, iV t37.mNode), (.c 4 4, iV t0.mDropped), (.c 8 0, .d (.sl 17 (([] : List Shard).map eShard))), (.c 8 1, iV 0), (.c 8 2, iV 0), (.c 8 3, iV 0), (.c 8 4, iV 0), (.c 9 0, iV 0), (.c 9 1, iV 0), (.c 9 2, iV 0), (.c 9 3, iV 0), (.c 9 4, bV false), (.c 9 5, sV (⟨#[]⟩ : ByteArray)), (.c 9 6, .d (.sl 2 (([] : List Item).map eItem))), (.c 9 7, sV (⟨#[]⟩ : ByteArray)), (.c 9 8, bV false), (.c 10 0, iV 0), (.c 10 1, iV t2.mAt.mWall), (.c 10 2, iV t2.mAt.mTick), (.c 10 3, iV t2.mAt.mNode), (.c 10 4, bV false), (.c 10 5, sV (⟨#[]⟩ : ByteArray)), (.c 10 6, .d (.sl 2 (([] : List Item).map eItem))), (.c 10 7, sV (⟨#[]⟩ : ByteArray)), (.c 10 8, bV false), (.t 4, .ptr 4 0), (.t 5, .d (.dp (eShard t1))), (.t 6, .d (.dp (eRequest t2))), (.t 8, .ptr 8 0), (.t 9, .ptr 9 0), (.t 10, .ptr 10 0), (.t 13, sV t13), (.t 14, bV ((!strEq t1.mSpan.mHi (⟨#[]⟩ : ByteArray)) && ((strEq t2.mHi (⟨#[]⟩ : ByteArray)) || (ltI t81 0))))]) (fun t13 h => ?_) (fun v35 K36 h j38 => ?_)
 ·refine sr ?_
  refine sT 90 (.d (.dp (List.drop 5 (eShard t1)))) rfl (v_field_dp (a0 := 5) (cs := (eShard t1)) rfl · · · fo45_4 rfl) ?_
  refine sT 91 (.d (.sl 2 (t1.mEntries.map eEntry))) rfl (v_load_dp1 rfl · · · onT42 rfl rfl) ?_
  refine sT 92 (.d (.dp (List.drop 3 (eRequest t2)))) rfl (v_field_dp (a0 := 3) (cs := (eRequest t2)) rfl · · · fo28_3 rfl) ?_
  refine sT 93 (sV t2.mKey) rfl (v_load_dp1 rfl · · · onT9 rfl rfl) ?_
  refine sM 94 (sV t13) rfl rfl ?_
  refine sT 95 (.d (.dp (List.drop 7 (eRequest t2)))) rfl (v_field_dp (a0 := 7) (cs := (eRequest t2)) rfl · · · fo28_7 rfl) ?_
  refine sT 96 (.d (.agg (eStamp t2.mAt))) rfl (w_ldp (List.drop 7 (eRequest t2)) (eStamp t2.mAt) rfl · · · ag24 rfl (ble _ _ rfl) rfl) ?_
  refine sT 97 (.d (.dp (List.drop 11 (eRequest t2)))) rfl (v_field_dp (a0 := 11) (cs := (eRequest t2)) rfl · · · fo28_9 rfl) ?_
  refine sT 98 (iV t2.mLimit) rfl (v_load_dp1 rfl · · · onT3 rfl rfl) ?_
  obtain ⟨⟨t99a, t99b, t99c⟩, c41, h⟩ := bpos h
  refine sT 99 (.tup [.d (.sl 2 (t99a.map eItem)), sV t99b, bV t99c]) rfl (w_call (ds := [(.sl 2 (t1.mEntries.map eEntry)), (.s (.string t2.mKey)), (.s (.string t13)), (.agg (eStamp t2.mAt)), (.s (.int .i64 t2.mLimit))]) (caps := []) (l := [(.sl 2 (t99a.map eItem)), (.s (.string t99b)), (.s (.bool t99c))]) (s129 k t1.mEntries t2.mKey t13 t2.mAt t2.mLimit _ c41) rfl rfl rfl en129 · · · (.inl ⟨rfl, rfl⟩) rfl rfl) ?_
  refine sM 89 (.tup [.d (.sl 2 (t99a.map eItem)), sV t99b, bV t99c]) rfl rfl ?_
  refine sT 100 (.d (.sl 2 (t99a.map eItem))) rfl (v_extract rfl · · · rfl rfl) ?_
  refine sT 101 (sV t99b) rfl (v_extract rfl · · · rfl rfl) ?_
  refine sT 102 (bV t99c) rfl (v_extract rfl · · · rfl rfl) ?_
  refine sT 103 (.ptr 10 6) rfl (v_field_box (off := 0) (a0 := 6) rfl · · · fo34_4 rfl) ?_
  refine sq_cons _ (v_store_box (id := 10) (off := 6) (cs := [(.sl 2 (t99a.map eItem))].map V.d) rfl trivial rfl sz32 rfl rfl rfl rfl (ones_of rfl) (ble _ _ rfl)) ?_
  refine sT 104 (.ptr 10 7) rfl (v_field_box (off := 0) (a0 := 7) rfl · · · fo34_5 rfl) ?_
  refine sq_cons _ (v_store_box (id := 10) (off := 7) (cs := [(.s (.string t99b))].map V.d) rfl trivial rfl sz9 rfl rfl rfl rfl (ones_of rfl) (ble _ _ rfl)) ?_
  refine sT 105 (.ptr 10 8) rfl (v_field_box (off := 0) (a0 := 8) rfl · · · fo34_6 rfl) ?_
  refine sq_cons _ (v_store_box (id := 10) (off := 8) (cs := [(.s (.bool t99c))].map V.d) rfl trivial rfl sz4 rfl rfl rfl rfl (ones_of rfl) (ble _ _ rfl)) ?_
  refine sq_nil ?_
  refine ht_seq ?_
  refine sr ?_
  refine sM 106 (bV ((!strEq t1.mSpan.mHi (⟨#[]⟩ : ByteArray)) && ((strEq t2.mHi (⟨#[]⟩ : ByteArray)) || (ltI t81 0)))) rfl rfl ?_
  refine sM 107 (bV ((!strEq t1.mSpan.mHi (⟨#[]⟩ : ByteArray)) && ((strEq t2.mHi (⟨#[]⟩ : ByteArray)) || (ltI t81 0)))) rfl rfl ?_
  refine sG 108 (.ptr 10 8) rfl rfl (fun e42 => (v_field_box (off := 0) (a0 := 8) rfl · · · fo34_6 rfl)) ?_
  refine sG 109 (bV t99c) rfl rfl (fun e43 => (v_load_box1 (id := 10) (off := 8) rfl · · · onT4 (gv e43) rfl (ble _ _ rfl) rfl)) ?_
  refine sG 110 (bV (!t99c)) rfl rfl (fun e44 => (v_un rfl · · · (gv e44) (u_not rfl))) ?_
  refine sT 111 (bV (((!strEq t1.mSpan.mHi (⟨#[]⟩ : ByteArray)) && ((strEq t2.mHi (⟨#[]⟩ : ByteArray)) || (ltI t81 0))) && (!t99c))) rfl (v_pickB rfl · · · rfl (fun e45 => (gv e45)) (fun e46 => rfl) (pA _ _)) ?_
  refine sq_nil ?_
  refine ht_cond rfl (fun e47 => ?_) (fun e47 => ?_)
  ·replace h := cpos e47 h
   refine ht_region ?_
   refine sM 112 (sV t13) rfl rfl ?_
   refine sT 113 (.ptr 10 7) rfl (v_field_box (off := 0) (a0 := 7) rfl · · · fo34_5 rfl) ?_
   refine sq_cons _ (v_store_box (id := 10) (off := 7) (cs := [(.s (.string t13))].map V.d) rfl trivial rfl sz9 rfl rfl rfl rfl (ones_of rfl) (ble _ _ rfl)) ?_
   refine sT 114 (.ptr 10 8) rfl (v_field_box (off := 0) (a0 := 8) rfl · · · fo34_6 rfl) ?_
   refine sq_cons _ (v_store_box (id := 10) (off := 8) (cs := [(.s (.bool true))].map V.d) rfl trivial rfl sz4 rfl rfl rfl rfl (ones_of rfl) (ble _ _ rfl)) ?_
   refine sq_nil ?_
   refine ht_seq ?_
   refine ht_region_draw mixed ?_
   refine rT 115 (.d (.agg (eCell ({t0 with mTop := t37})))) rfl (w_ldb 4 0 rfl · · · ag26 rfl rfl (ble _ _ rfl) rfl) ?_
   refine rT 116 (.d (.agg (eAnswer (⟨0, t2.mAt, false, (⟨#[]⟩ : ByteArray), t99a, t13, true⟩ : Answer)))) rfl (w_ldb 10 0 rfl · · · ag34 rfl rfl (ble _ _ rfl) rfl) ?_
   refine rg_cons _ (v_store_box (id := 8) (off := 0) (cs := (eCell ({t0 with mTop := t37})).map V.d) rfl trivial rfl sz26 rfl rfl rfl rfl (ones_of rfl) (ble _ _ rfl)) ?_
   refine rg_cons _ (v_store_box (id := 9) (off := 0) (cs := (eAnswer (⟨0, t2.mAt, false, (⟨#[]⟩ : ByteArray), t99a, t13, true⟩ : Answer)).map V.d) rfl trivial rfl sz34 rfl rfl rfl rfl (ones_of rfl) (ble _ _ rfl)) ?_
   refine rg_nil ⟨by kernel_rfl, ?_⟩
   refine ht_ret ?_
   cases h
   exact ret2 rfl (.cell rfl rfl ag26 (ble _ _ rfl) rfl) (.cell rfl rfl ag34 (ble _ _ rfl) rfl)
  replace h := cneg e47 h
  refine ht_skip ?_
  refine ht_seq ?_
  refine ht_region_draw mixed ?_
  refine rT 115 (.d (.agg (eCell ({t0 with mTop := t37})))) rfl (w_ldb 4 0 rfl · · · ag26 rfl rfl (ble _ _ rfl) rfl) ?_
  refine rT 116 (.d (.agg (eAnswer (⟨0, t2.mAt, false, (⟨#[]⟩ : ByteArray), t99a, t99b, t99c⟩ : Answer)))) rfl (w_ldb 10 0 rfl · · · ag34 rfl rfl (ble _ _ rfl) rfl) ?_
  refine rg_cons _ (v_store_box (id := 8) (off := 0) (cs := (eCell ({t0 with mTop := t37})).map V.d) rfl trivial rfl sz26 rfl rfl rfl rfl (ones_of rfl) (ble _ _ rfl)) ?_
  refine rg_cons _ (v_store_box (id := 9) (off := 0) (cs := (eAnswer (⟨0, t2.mAt, false, (⟨#[]⟩ : ByteArray), t99a, t99b, t99c⟩ : Answer)).map V.d) rfl trivial rfl sz34 rfl rfl rfl rfl (ones_of rfl) (ble _ _ rfl)) ?_
  refine rg_nil ⟨by kernel_rfl, ?_⟩
  refine ht_ret ?_
  cases h
  exact ret2 rfl (.cell rfl rfl ag26 (ble _ _ rfl) rfl) (.cell rfl rfl ag34 (ble _ _ rfl) rfl)
 refine sr ?_
 refine sM 85 (bV ((!strEq t1.mSpan.mHi (⟨#[]⟩ : ByteArray)) && ((strEq t2.mHi (⟨#[]⟩ : ByteArray)) || (ltI t81 0)))) rfl rfl ?_
 refine sq_nil ?_
 refine ht_cond rfl (fun e40 => ?_) (fun e40 => ?_)
 ·replace h := cpos e40 h
  refine ht_region ?_
  refine sT 86 (.d (.dp (List.drop 2 (eShard t1)))) rfl (v_field_dp (a0 := 2) (cs := (eShard t1)) rfl · · · fo45_2 rfl) ?_
  refine sT 87 (.d (.dp (List.drop 3 (eShard t1)))) rfl (v_field_dp (a0 := 1) (cs := (List.drop 2 (eShard t1))) rfl · · · fo41_1 rfl) ?_
  refine sT 88 (sV t1.mSpan.mHi) rfl (v_load_dp1 rfl · · · onT9 rfl rfl) ?_
  refine sM 13 (sV t1.mSpan.mHi) rfl rfl ?_
  refine sq_nil ?_
  cases h
  exact j38 _ (wk_ren _ (fun i => i) rfl ⟨rfl, rfl, rfl, rfl, rfl, rfl, rfl, rfl, rfl, rfl, rfl, rfl, rfl, rfl, rfl, rfl, rfl, rfl, rfl, rfl, rfl, rfl, rfl, rfl, rfl, rfl, rfl, rfl, rfl, rfl, rfl, rfl, rfl, rfl, rfl, rfl, rfl, rfl, rfl, rfl, trivial⟩)
 replace h := cneg e40 h
 refine ht_skip ?_
 cases h
 exact j38 _ (wk_ren _ (fun i => i) rfl ⟨rfl, rfl, rfl, rfl, rfl, rfl, rfl, rfl, rfl, rfl, rfl, rfl, rfl, rfl, rfl, rfl, rfl, rfl, rfl, rfl, rfl, rfl, rfl, rfl, rfl, rfl, rfl, rfl, rfl, rfl, rfl, rfl, rfl, rfl, rfl, rfl, rfl, rfl, rfl, rfl, trivial⟩)
theorem s16 (k : Nat) (t0 : Cell) (t1 : Int) (t2 : Int) (t3 : Request) (t4 : Stamp) (t5 : Int) (r : Cell × Answer) (h : F16 k t0 t1 t2 t3 t4 t5 = some r) : Awp.Spec Tryz.prog amb 16 [(.agg (eCell t0)), (.s (.int .i64 t1)), (.s (.int .i64 t2)), (.agg (eRequest t3)), (.agg (eStamp t4)), (.s (.int .i64 t5))] (.ds [(.agg (eCell r.1)), (.agg (eAnswer r.2))]) := by
 rw [F16] at h
 refine spec_of Tryz.func16 rfl (ble _ _ rfl) fun w0 ok0 lt0 hA => ?_
 refine sr ?_
 refine sT 6 (.d (.dp (eCell t0))) rfl (v_box_d (cs := (eCell t0)) rfl · · · rfl rfl (ones_of rfl)) ?_
 refine sT 9 (.d (.dp (eRequest t3))) rfl (v_box_d (cs := (eRequest t3)) rfl · · · rfl rfl (ones_of rfl)) ?_
 refine sT 10 (.d (.dp (eStamp t4))) rfl (v_box_d (cs := (eStamp t4)) rfl · · · rfl rfl (ones_of rfl)) ?_
 refine sq_cons _ (v_alloc (id := 12) (cs := zc26) rfl trivial rfl (ble _ _ rfl) zu26 rfl ft26 rfl) ?_
 refine sq_cons _ (v_alloc (id := 13) (cs := zc34) rfl trivial rfl (ble _ _ rfl) zu34 rfl ft34 rfl) ?_
 refine sq_nil ?_
 refine ht_seq ?_
 refine sr ?_
 refine sT 16 (.d (.agg (eCell t0))) rfl (w_ldp (eCell t0) (eCell t0) rfl · · · ag26 rfl (ble _ _ rfl) rfl) ?_
 obtain ⟨t17, c1, h⟩ := bpos h
 refine sT 17 (bV t17) rfl (w_call (ds := [(.agg (eCell t0))]) (caps := []) (l := [(.s (.bool t17))]) (s25 k t0 _ c1) rfl rfl rfl en25 · · · (.inl ⟨rfl, rfl⟩) rfl rfl) ?_
 refine sT 18 (bV (!t17)) rfl (v_un rfl · · · rfl (u_not rfl)) ?_
 refine sM 19 (bV (!t17)) rfl rfl ?_
 refine sF 20 (iV t1) rfl rfl (fun e2 => (v_move (.inl rfl) · · · rfl)) ?_
 refine sF 21 (iV t2) rfl rfl (fun e3 => (v_move (.inl rfl) · · · rfl)) ?_
 refine sF 22 (.d (.sl 1 (([t1, t2]).map (eI .i64)))) rfl rfl (fun e4 => (w_bsl_d [(0, iV t1), (1, iV t2)] [t1, t2] (eI .i64) rfl · · · slT148 zr3 (encI .i64) (ble _ _ rfl) (cc (pr (gv (nF e4))) (cc (pr (gv (nF e4))) rfl)) (by kernel_rfl) rfl rfl (by kernel_rfl))) ?_
 obtain ⟨t23, c6, h⟩ := bpos h
 refine sF 23 (bV t23) rfl rfl (fun e5 => (w_call (ds := [(.s (.int .i64 1)), (.sl 1 (([t1, t2]).map (eI .i64)))]) (caps := []) (l := [(.s (.bool t23))]) (s57 k 1 ([t1, t2]) _ (cpos (nF e5) c6)) rfl rfl rfl en57 · · · (.inl ⟨rfl, rfl⟩) (cc rfl (cc (gv (nF e5)) rfl)) rfl)) ?_
 refine sF 24 (bV (!t23)) rfl rfl (fun e7 => (v_un rfl · · · (gv (nF e7)) (u_not rfl))) ?_
 refine sT 25 (bV ((!t17) || (!t23))) rfl (v_pickB rfl · · · rfl (fun e8 => rfl) (fun e9 => (gv (nF e9))) (pO _ _)) ?_
 refine sM 26 (bV ((!t17) || (!t23))) rfl rfl ?_
 refine sF 27 (iV t5) rfl rfl (fun e10 => (v_move (.inl rfl) · · · rfl)) ?_
 refine sF 28 (.d (.sl 1 (([t5]).map (eI .i64)))) rfl rfl (fun e11 => (w_bsl_d [(0, iV t5)] [t5] (eI .i64) rfl · · · slT148 zr3 (encI .i64) (ble _ _ rfl) (cc (pr (gv (nF e11))) rfl) (by kernel_rfl) rfl rfl (by kernel_rfl))) ?_
 obtain ⟨t29, c13, h⟩ := bpos h
 refine sF 29 (bV t29) rfl rfl (fun e12 => (w_call (ds := [(.s (.int .i64 0)), (.sl 1 (([t5]).map (eI .i64)))]) (caps := []) (l := [(.s (.bool t29))]) (s57 k 0 ([t5]) _ (cpos (nF e12) c13)) rfl rfl rfl en57 · · · (.inl ⟨rfl, rfl⟩) (cc rfl (cc (gv (nF e12)) rfl)) rfl)) ?_
 refine sF 30 (bV (!t29)) rfl rfl (fun e14 => (v_un rfl · · · (gv (nF e14)) (u_not rfl))) ?_
 refine sT 31 (bV (((!t17) || (!t23)) || (!t29))) rfl (v_pickB rfl · · · rfl (fun e15 => rfl) (fun e16 => (gv (nF e16))) (pO _ _)) ?_
 refine sM 32 (bV (((!t17) || (!t23)) || (!t29))) rfl rfl ?_
 refine sF 33 (.d (.agg (eStamp t4))) rfl rfl (fun e17 => (w_ldp (eStamp t4) (eStamp t4) rfl · · · ag24 rfl (ble _ _ rfl) rfl)) ?_
 obtain ⟨t34, c19, h⟩ := bpos h
 refine sF 34 (bV t34) rfl rfl (fun e18 => (w_call (ds := [(.agg (eStamp t4))]) (caps := []) (l := [(.s (.bool t34))]) (s36 k t4 _ (cpos (nF e18) c19)) rfl rfl rfl en36 · · · (.inl ⟨rfl, rfl⟩) (cc (gv (nF e18)) rfl) rfl)) ?_
 refine sF 35 (bV (!t34)) rfl rfl (fun e20 => (v_un rfl · · · (gv (nF e20)) (u_not rfl))) ?_
 refine sT 36 (bV ((((!t17) || (!t23)) || (!t29)) || (!t34))) rfl (v_pickB rfl · · · rfl (fun e21 => rfl) (fun e22 => (gv (nF e22))) (pO _ _)) ?_
 refine sM 37 (bV ((((!t17) || (!t23)) || (!t29)) || (!t34))) rfl rfl ?_
 refine sF 38 (.d (.agg (eRequest t3))) rfl rfl (fun e23 => (w_ldp (eRequest t3) (eRequest t3) rfl · · · ag28 rfl (ble _ _ rfl) rfl)) ?_
 obtain ⟨t39, c25, h⟩ := bpos h
 refine sF 39 (bV t39) rfl rfl (fun e24 => (w_call (ds := [(.agg (eRequest t3))]) (caps := []) (l := [(.s (.bool t39))]) (s58 k t3 _ (cpos (nF e24) c25)) rfl rfl rfl en58 · · · (.inl ⟨rfl, rfl⟩) (cc (gv (nF e24)) rfl) rfl)) ?_
 refine sF 40 (bV (!t39)) rfl rfl (fun e26 => (v_un rfl · · · (gv (nF e26)) (u_not rfl))) ?_
 refine sT 41 (bV (((((!t17) || (!t23)) || (!t29)) || (!t34)) || (!t39))) rfl (v_pickB rfl · · · rfl (fun e27 => rfl) (fun e28 => (gv (nF e28))) (pO _ _)) ?_
 refine sq_nil ?_
 refine ht_cond rfl (fun e29 => ?_) (fun e29 => ?_)
 ·replace h := cpos e29 h
  refine ht_seq ?_
  refine ht_region_draw mixed ?_
  refine rT 42 (.d (.agg (eCell t0))) rfl (w_ldp (eCell t0) (eCell t0) rfl · · · ag26 rfl (ble _ _ rfl) rfl) ?_
  obtain ⟨t43, c30, h⟩ := bpos h
  refine rT 43 (.d (.agg (eAnswer t43))) rfl (w_call (ds := [(.s (.int .i64 1))]) (caps := []) (l := [(.agg (eAnswer t43))]) (s59 k 1 _ c30) rfl rfl rfl en59 · · · (.inl ⟨rfl, rfl⟩) rfl rfl) ?_
  refine rg_cons _ (v_store_box (id := 12) (off := 0) (cs := (eCell t0).map V.d) rfl trivial rfl sz26 rfl rfl rfl rfl (ones_of rfl) (ble _ _ rfl)) ?_
  refine rg_cons _ (v_store_box (id := 13) (off := 0) (cs := (eAnswer t43).map V.d) rfl trivial rfl sz34 rfl rfl rfl rfl (ones_of rfl) (ble _ _ rfl)) ?_
  refine rg_nil ⟨by kernel_rfl, ?_⟩
  refine ht_ret ?_
  cases h
  exact ret2 rfl (.cell rfl rfl ag26 (ble _ _ rfl) rfl) (.cell rfl rfl ag34 (ble _ _ rfl) rfl)
 replace h := cneg e29 h
 refine ht_skip ?_
 refine sr ?_
 refine sT 44 (.d (.agg (eCell t0))) rfl (w_ldp (eCell t0) (eCell t0) rfl · · · ag26 rfl (ble _ _ rfl) rfl) ?_
 refine sM 45 (iV t1) rfl rfl ?_
 obtain ⟨t46, c31, h⟩ := bpos h
 refine sT 46 (.d (.agg (eShard t46))) rfl (w_call (ds := [(.agg (eCell t0)), (.s (.int .i64 t1))]) (caps := []) (l := [(.agg (eShard t46))]) (s60 k t0 t1 _ c31) rfl rfl rfl en60 · · · (.inl ⟨rfl, rfl⟩) rfl rfl) ?_
 refine sq_cons _ (v_alloc (id := 14) (cs := zc45) rfl trivial rfl (ble _ _ rfl) zu45 rfl ft45 rfl) ?_
 refine sq_cons _ (v_store_box (id := 14) (off := 0) (cs := (eShard t46).map V.d) rfl trivial rfl sz45 rfl rfl rfl rfl (ones_of rfl) (ble _ _ rfl)) ?_
 refine sq_nil ?_
 refine sr ?_
 refine sT 47 (.d (.dp (List.drop 3 (eRequest t3)))) rfl (v_field_dp (a0 := 3) (cs := (eRequest t3)) rfl · · · fo28_3 rfl) ?_
 refine sT 48 (sV t3.mKey) rfl (v_load_dp1 rfl · · · onT9 rfl rfl) ?_
 refine sT 49 (bV (strEq t3.mKey (⟨#[]⟩ : ByteArray))) rfl (v_bin rfl · · · rfl rfl (b_eqS rfl)) ?_
 refine sM 50 (bV (strEq t3.mKey (⟨#[]⟩ : ByteArray))) rfl rfl ?_
 refine sG 51 (.ptr 14 2) rfl rfl (fun e32 => (v_field_box (off := 0) (a0 := 2) rfl · · · fo45_2 rfl)) ?_
 refine sG 52 (.ptr 14 2) rfl rfl (fun e33 => (v_field_box (off := 2) (a0 := 0) rfl · · · fo41_0 (gv e33))) ?_
 refine sG 53 (sV t46.mSpan.mLo) rfl rfl (fun e34 => (v_load_box1 (id := 14) (off := 2) rfl · · · onT9 (gv e34) rfl (ble _ _ rfl) rfl)) ?_
 refine sG 54 (bV (strEq t46.mSpan.mLo (⟨#[]⟩ : ByteArray))) rfl rfl (fun e35 => (v_bin rfl · · · (gv e35) rfl (b_eqS rfl))) ?_
 refine sT 55 (bV ((strEq t3.mKey (⟨#[]⟩ : ByteArray)) && (strEq t46.mSpan.mLo (⟨#[]⟩ : ByteArray)))) rfl (v_pickB rfl · · · rfl (fun e36 => (gv e36)) (fun e37 => rfl) (pA _ _)) ?_
 refine sM 56 (bV ((strEq t3.mKey (⟨#[]⟩ : ByteArray)) && (strEq t46.mSpan.mLo (⟨#[]⟩ : ByteArray)))) rfl rfl ?_
 refine sF 57 (.ptr 14 2) rfl rfl (fun e38 => (v_field_box (off := 0) (a0 := 2) rfl · · · fo45_2 rfl)) ?_
 refine sF 58 (.d (.agg (eSpan t46.mSpan))) rfl rfl (fun e39 => (w_ldb 14 2 rfl · · · ag41 (gv (nF e39)) rfl (ble _ _ rfl) rfl)) ?_
 refine sF 59 (.d (.dp (List.drop 3 (eRequest t3)))) rfl rfl (fun e40 => (v_field_dp (a0 := 3) (cs := (eRequest t3)) rfl · · · fo28_3 rfl)) ?_
 refine sF 60 (sV t3.mKey) rfl rfl (fun e41 => (v_load_dp1 rfl · · · onT9 (gv (nF e41)) rfl)) ?_
 obtain ⟨t61, c43, h⟩ := bpos h
 refine sF 61 (bV t61) rfl rfl (fun e42 => (w_call (ds := [(.agg (eSpan t46.mSpan)), (.s (.string t3.mKey))]) (caps := []) (l := [(.s (.bool t61))]) (s61 k t46.mSpan t3.mKey _ (cpos (nF e42) c43)) rfl rfl rfl en61 · · · (.inl ⟨rfl, rfl⟩) (cc (gv (nF e42)) (cc (gv (nF e42)) rfl)) rfl)) ?_
 refine sT 62 (bV (((strEq t3.mKey (⟨#[]⟩ : ByteArray)) && (strEq t46.mSpan.mLo (⟨#[]⟩ : ByteArray))) || t61)) rfl (v_pickB rfl · · · rfl (fun e44 => rfl) (fun e45 => (gv (nF e45))) (pO _ _)) ?_
 refine sM 15 (bV (((strEq t3.mKey (⟨#[]⟩ : ByteArray)) && (strEq t46.mSpan.mLo (⟨#[]⟩ : ByteArray))) || t61)) rfl rfl ?_
 refine sq_nil ?_
 refine ht_seq ?_
 refine ht_block ?_
 refine sr ?_
 refine sT 64 (.ptr 14 0) rfl (v_field_box (off := 0) (a0 := 0) rfl · · · fo45_0 rfl) ?_
 refine sT 65 (iV t46.mID) rfl (v_load_box1 (id := 14) (off := 0) rfl · · · onT3 rfl rfl (ble _ _ rfl) rfl) ?_
 refine sT 66 (bV (eqI t46.mID 0)) rfl (v_bin rfl · · · rfl rfl (b_eql rfl)) ?_
 refine sM 67 (bV (eqI t46.mID 0)) rfl rfl ?_
 refine sF 68 (.ptr 14 1) rfl rfl (fun e46 => (v_field_box (off := 0) (a0 := 1) rfl · · · fo45_1 rfl)) ?_
 refine sF 69 (iV t46.mEpoch) rfl rfl (fun e47 => (v_load_box1 (id := 14) (off := 1) rfl · · · onT3 (gv (nF e47)) rfl (ble _ _ rfl) rfl)) ?_
 refine sF 70 (iV t2) rfl rfl (fun e48 => (v_move (.inl rfl) · · · rfl)) ?_
 refine sF 71 (bV (!eqI t46.mEpoch t2)) rfl rfl (fun e49 => (v_bin rfl · · · (gv (nF e49)) (gv (nF e49)) (b_neq rfl))) ?_
 refine sT 72 (bV ((eqI t46.mID 0) || (!eqI t46.mEpoch t2))) rfl (v_pickB rfl · · · rfl (fun e50 => rfl) (fun e51 => (gv (nF e51))) (pO _ _)) ?_
 refine sM 73 (bV ((eqI t46.mID 0) || (!eqI t46.mEpoch t2))) rfl rfl ?_
 refine sF 74 (bV (((strEq t3.mKey (⟨#[]⟩ : ByteArray)) && (strEq t46.mSpan.mLo (⟨#[]⟩ : ByteArray))) || t61)) rfl rfl (fun e52 => (v_move (.inl rfl) · · · rfl)) ?_
 refine sF 75 (bV (!(((strEq t3.mKey (⟨#[]⟩ : ByteArray)) && (strEq t46.mSpan.mLo (⟨#[]⟩ : ByteArray))) || t61))) rfl rfl (fun e53 => (v_un rfl · · · (gv (nF e53)) (u_not rfl))) ?_
 refine sT 76 (bV (((eqI t46.mID 0) || (!eqI t46.mEpoch t2)) || (!(((strEq t3.mKey (⟨#[]⟩ : ByteArray)) && (strEq t46.mSpan.mLo (⟨#[]⟩ : ByteArray))) || t61)))) rfl (v_pickB rfl · · · rfl (fun e54 => rfl) (fun e55 => (gv (nF e55))) (pO _ _)) ?_
 refine sM 63 (bV (((eqI t46.mID 0) || (!eqI t46.mEpoch t2)) || (!(((strEq t3.mKey (⟨#[]⟩ : ByteArray)) && (strEq t46.mSpan.mLo (⟨#[]⟩ : ByteArray))) || t61)))) rfl rfl ?_
 refine sq_nil ?_
 refine ht_cond rfl (fun e56 => ?_) (fun e56 => ?_)
 ·replace h := cpos e56 h
  refine ht_seq ?_
  refine ht_region_draw mixed ?_
  refine rT 77 (.d (.agg (eCell t0))) rfl (w_ldp (eCell t0) (eCell t0) rfl · · · ag26 rfl (ble _ _ rfl) rfl) ?_
  obtain ⟨t78, c57, h⟩ := bpos h
  refine rT 78 (.d (.agg (eAnswer t78))) rfl (w_call (ds := [(.s (.int .i64 10))]) (caps := []) (l := [(.agg (eAnswer t78))]) (s59 k 10 _ c57) rfl rfl rfl en59 · · · (.inl ⟨rfl, rfl⟩) rfl rfl) ?_
  refine rg_cons _ (v_store_box (id := 12) (off := 0) (cs := (eCell t0).map V.d) rfl trivial rfl sz26 rfl rfl rfl rfl (ones_of rfl) (ble _ _ rfl)) ?_
  refine rg_cons _ (v_store_box (id := 13) (off := 0) (cs := (eAnswer t78).map V.d) rfl trivial rfl sz34 rfl rfl rfl rfl (ones_of rfl) (ble _ _ rfl)) ?_
  refine rg_nil ⟨by kernel_rfl, ?_⟩
  refine ht_ret ?_
  cases h
  exact ret2 rfl (.cell rfl rfl ag26 (ble _ _ rfl) rfl) (.cell rfl rfl ag34 (ble _ _ rfl) rfl)
 replace h := cneg e56 h
 refine sr ?_
 refine sT 80 (.ptr 14 4) rfl (v_field_box (off := 0) (a0 := 4) rfl · · · fo45_3 rfl) ?_
 refine sT 81 (iV t46.mPhase) rfl (v_load_box1 (id := 14) (off := 4) rfl · · · onT3 rfl rfl (ble _ _ rfl) rfl) ?_
 refine sT 82 (bV (!eqI t46.mPhase 1)) rfl (v_bin rfl · · · rfl rfl (b_neq rfl)) ?_
 refine sM 83 (bV (!eqI t46.mPhase 1)) rfl rfl ?_
 refine sF 84 (.d (.agg (eRequest t3))) rfl rfl (fun e58 => (w_ldp (eRequest t3) (eRequest t3) rfl · · · ag28 rfl (ble _ _ rfl) rfl)) ?_
 obtain ⟨t85, c60, h⟩ := bpos h
 refine sF 85 (bV t85) rfl rfl (fun e59 => (w_call (ds := [(.agg (eRequest t3))]) (caps := []) (l := [(.s (.bool t85))]) (s62 k t3 _ (cpos (nF e59) c60)) rfl rfl rfl en62 · · · (.inl ⟨rfl, rfl⟩) (cc (gv (nF e59)) rfl) rfl)) ?_
 refine sF 86 (bV t85) rfl rfl (fun e61 => (v_move (.inl rfl) · · · (gv (nF e61)))) ?_
 refine sI 87 (.ptr 14 13) rfl rfl (fun e62 e63 => (v_field_box (off := 0) (a0 := 13) rfl · · · fo45_8 rfl)) ?_
 refine sI 88 (iV t46.mHold) rfl rfl (fun e64 e65 => (v_load_box1 (id := 14) (off := 13) rfl · · · onT3 (gv (aT e64 e65)) rfl (ble _ _ rfl) rfl)) ?_
 refine sI 89 (bV (!eqI t46.mHold 0)) rfl rfl (fun e66 e67 => (v_bin rfl · · · (gv (aT e66 e67)) rfl (b_neq rfl))) ?_
 refine sF 90 (bV (t85 && (!eqI t46.mHold 0))) rfl rfl (fun e68 => (v_pickB rfl · · · (gv (nF e68)) (fun e69 => (gv (aT (nF e68) e69))) (fun e70 => rfl) (pA _ _))) ?_
 refine sT 91 (bV ((!eqI t46.mPhase 1) || (t85 && (!eqI t46.mHold 0)))) rfl (v_pickB rfl · · · rfl (fun e71 => rfl) (fun e72 => (gv (nF e72))) (pO _ _)) ?_
 refine sM 79 (bV ((!eqI t46.mPhase 1) || (t85 && (!eqI t46.mHold 0)))) rfl rfl ?_
 refine sq_nil ?_
 refine ht_cond rfl (fun e73 => ?_) (fun e73 => ?_)
 ·replace h := cpos e73 h
  refine ht_seq ?_
  refine ht_region_draw mixed ?_
  refine rT 92 (.d (.agg (eCell t0))) rfl (w_ldp (eCell t0) (eCell t0) rfl · · · ag26 rfl (ble _ _ rfl) rfl) ?_
  obtain ⟨t93, c74, h⟩ := bpos h
  refine rT 93 (.d (.agg (eAnswer t93))) rfl (w_call (ds := [(.s (.int .i64 11))]) (caps := []) (l := [(.agg (eAnswer t93))]) (s59 k 11 _ c74) rfl rfl rfl en59 · · · (.inl ⟨rfl, rfl⟩) rfl rfl) ?_
  refine rg_cons _ (v_store_box (id := 12) (off := 0) (cs := (eCell t0).map V.d) rfl trivial rfl sz26 rfl rfl rfl rfl (ones_of rfl) (ble _ _ rfl)) ?_
  refine rg_cons _ (v_store_box (id := 13) (off := 0) (cs := (eAnswer t93).map V.d) rfl trivial rfl sz34 rfl rfl rfl rfl (ones_of rfl) (ble _ _ rfl)) ?_
  refine rg_nil ⟨by kernel_rfl, ?_⟩
  refine ht_ret ?_
  cases h
  exact ret2 rfl (.cell rfl rfl ag26 (ble _ _ rfl) rfl) (.cell rfl rfl ag34 (ble _ _ rfl) rfl)
 replace h := cneg e73 h
 refine sr ?_
 refine sT 95 (.d (.agg (eRequest t3))) rfl (w_ldp (eRequest t3) (eRequest t3) rfl · · · ag28 rfl (ble _ _ rfl) rfl) ?_
 obtain ⟨t96, c75, h⟩ := bpos h
 refine sT 96 (bV t96) rfl (w_call (ds := [(.agg (eRequest t3))]) (caps := []) (l := [(.s (.bool t96))]) (s62 k t3 _ c75) rfl rfl rfl en62 · · · (.inl ⟨rfl, rfl⟩) rfl rfl) ?_
 refine sM 94 (bV t96) rfl rfl ?_
 refine sq_nil ?_
 refine ht_cond rfl (fun e76 => ?_) (fun e76 => ?_)
 ·replace h := cpos e76 h
  refine sr ?_
  refine sT 97 (.d (.agg (eCell t0))) rfl (w_ldp (eCell t0) (eCell t0) rfl · · · ag26 rfl (ble _ _ rfl) rfl) ?_
  refine sT 98 (.d (.agg (eShard t46))) rfl (w_ldb 14 0 rfl · · · ag45 rfl rfl (ble _ _ rfl) rfl) ?_
  refine sT 99 (.d (.agg (eRequest t3))) rfl (w_ldp (eRequest t3) (eRequest t3) rfl · · · ag28 rfl (ble _ _ rfl) rfl) ?_
  refine sT 100 (.d (.agg (eStamp t4))) rfl (w_ldp (eStamp t4) (eStamp t4) rfl · · · ag24 rfl (ble _ _ rfl) rfl) ?_
  obtain ⟨⟨t101a, t101b⟩, c77, h⟩ := bpos h
  refine sT 101 (.tup [.d (.agg (eCell t101a)), .d (.agg (eAnswer t101b))]) rfl (w_call (ds := [(.agg (eCell t0)), (.agg (eShard t46)), (.agg (eRequest t3)), (.agg (eStamp t4))]) (caps := []) (l := [(.agg (eCell t101a)), (.agg (eAnswer t101b))]) (s63 k t0 t46 t3 t4 _ c77) rfl rfl rfl en63 · · · (.inl ⟨rfl, rfl⟩) rfl rfl) ?_
  refine sT 102 (.d (.agg (eCell t101a))) rfl (v_extract rfl · · · rfl rfl) ?_
  refine sT 103 (.d (.agg (eAnswer t101b))) rfl (v_extract rfl · · · rfl rfl) ?_
  refine sq_cons _ (v_store_box (id := 12) (off := 0) (cs := (eCell t101a).map V.d) rfl trivial rfl sz26 rfl rfl rfl rfl (ones_of rfl) (ble _ _ rfl)) ?_
  refine sq_cons _ (v_store_box (id := 13) (off := 0) (cs := (eAnswer t101b).map V.d) rfl trivial rfl sz34 rfl rfl rfl rfl (ones_of rfl) (ble _ _ rfl)) ?_
  refine sq_nil ?_
  refine ht_ret ?_
  cases h
  exact ret2 rfl (.cell rfl rfl ag26 (ble _ _ rfl) rfl) (.cell rfl rfl ag34 (ble _ _ rfl) rfl)
 replace h := cneg e76 h
 refine sr ?_
 refine sT 105 (.d (.dp (List.drop 2 (eRequest t3)))) rfl (v_field_dp (a0 := 2) (cs := (eRequest t3)) rfl · · · fo28_2 rfl) ?_
 refine sT 106 (iV t3.mKind) rfl (v_load_dp1 rfl · · · onT3 rfl rfl) ?_
 refine sT 107 (bV (eqI t3.mKind 4)) rfl (v_bin rfl · · · rfl rfl (b_eql rfl)) ?_
 refine sM 104 (bV (eqI t3.mKind 4)) rfl rfl ?_
 refine sq_nil ?_
 refine ht_cond rfl (fun e78 => ?_) (fun e78 => ?_)
 ·replace h := cpos e78 h
  refine ht_seq ?_
  refine ht_region_draw mixed ?_
  refine rT 108 (.d (.agg (eCell t0))) rfl (w_ldp (eCell t0) (eCell t0) rfl · · · ag26 rfl (ble _ _ rfl) rfl) ?_
  refine rT 109 (.d (.agg (eCell t0))) rfl (w_ldp (eCell t0) (eCell t0) rfl · · · ag26 rfl (ble _ _ rfl) rfl) ?_
  refine rT 110 (.d (.agg (eShard t46))) rfl (w_ldb 14 0 rfl · · · ag45 rfl rfl (ble _ _ rfl) rfl) ?_
  refine rT 111 (.d (.dp (List.drop 3 (eRequest t3)))) rfl (v_field_dp (a0 := 3) (cs := (eRequest t3)) rfl · · · fo28_3 rfl) ?_
  refine rT 112 (sV t3.mKey) rfl (v_load_dp1 rfl · · · onT9 rfl rfl) ?_
  obtain ⟨t113, c79, h⟩ := bpos h
  refine rT 113 (.d (.agg (eAnswer t113))) rfl (w_call (ds := [(.agg (eCell t0)), (.agg (eShard t46)), (.s (.string t3.mKey))]) (caps := []) (l := [(.agg (eAnswer t113))]) (s64 k t0 t46 t3.mKey _ c79) rfl rfl rfl en64 · · · (.inl ⟨rfl, rfl⟩) rfl rfl) ?_
  refine rg_cons _ (v_store_box (id := 12) (off := 0) (cs := (eCell t0).map V.d) rfl trivial rfl sz26 rfl rfl rfl rfl (ones_of rfl) (ble _ _ rfl)) ?_
  refine rg_cons _ (v_store_box (id := 13) (off := 0) (cs := (eAnswer t113).map V.d) rfl trivial rfl sz34 rfl rfl rfl rfl (ones_of rfl) (ble _ _ rfl)) ?_
  refine rg_nil ⟨by kernel_rfl, ?_⟩
  refine ht_ret ?_
  cases h
  exact ret2 rfl (.cell rfl rfl ag26 (ble _ _ rfl) rfl) (.cell rfl rfl ag34 (ble _ _ rfl) rfl)
 replace h := cneg e78 h
 refine ht_skip ?_
 refine sr ?_
 refine sT 114 (.d (.agg (eCell t0))) rfl (w_ldp (eCell t0) (eCell t0) rfl · · · ag26 rfl (ble _ _ rfl) rfl) ?_
 refine sT 115 (.d (.agg (eShard t46))) rfl (w_ldb 14 0 rfl · · · ag45 rfl rfl (ble _ _ rfl) rfl) ?_
 refine sT 116 (.d (.agg (eRequest t3))) rfl (w_ldp (eRequest t3) (eRequest t3) rfl · · · ag28 rfl (ble _ _ rfl) rfl) ?_
 refine sM 117 (iV t5) rfl rfl ?_
 obtain ⟨⟨t118a, t118b⟩, c80, h⟩ := bpos h
 refine sT 118 (.tup [.d (.agg (eCell t118a)), .d (.agg (eAnswer t118b))]) rfl (w_call (ds := [(.agg (eCell t0)), (.agg (eShard t46)), (.agg (eRequest t3)), (.s (.int .i64 t5))]) (caps := []) (l := [(.agg (eCell t118a)), (.agg (eAnswer t118b))]) (s65 k t0 t46 t3 t5 _ c80) rfl rfl rfl en65 · · · (.inl ⟨rfl, rfl⟩) rfl rfl) ?_
 refine sT 119 (.d (.agg (eCell t118a))) rfl (v_extract rfl · · · rfl rfl) ?_
 refine sT 120 (.d (.agg (eAnswer t118b))) rfl (v_extract rfl · · · rfl rfl) ?_
 refine sq_cons _ (v_store_box (id := 12) (off := 0) (cs := (eCell t118a).map V.d) rfl trivial rfl sz26 rfl rfl rfl rfl (ones_of rfl) (ble _ _ rfl)) ?_
 refine sq_cons _ (v_store_box (id := 13) (off := 0) (cs := (eAnswer t118b).map V.d) rfl trivial rfl sz34 rfl rfl rfl rfl (ones_of rfl) (ble _ _ rfl)) ?_
 refine sq_nil ?_
 refine ht_ret ?_
 cases h
 exact ret2 rfl (.cell rfl rfl ag26 (ble _ _ rfl) rfl) (.cell rfl rfl ag34 (ble _ _ rfl) rfl)
theorem s15 (k : Nat) (r : Bool) (h : F15 k = some r) : Awp.Spec Tryz.prog amb 15 [] (.ds [(.s (.bool r))]) := by
 rw [F15] at h
 refine spec_of Tryz.func15 rfl (ble _ _ rfl) fun w0 ok0 lt0 hA => ?_
 refine sr ?_
 refine sM 0 (bV false) rfl rfl ?_
 refine sq_nil ?_
 refine sr ?_
 refine sT 6 (.d (.agg (eShard (⟨1, 1, (⟨⟨#[]⟩, ⟨#[]⟩⟩ : Span), 1, ([] : List Entry), (⟨0, 0, 0⟩ : Stamp), (⟨0, 0, 0⟩ : Stamp), ([] : List Done), 0, 0, 0, 0⟩ : Shard)))) rfl (w_bld zc45 ((eShard (⟨1, 1, (⟨⟨#[]⟩, ⟨#[]⟩⟩ : Span), 1, ([] : List Entry), (⟨0, 0, 0⟩ : Stamp), (⟨0, 0, 0⟩ : Stamp), ([] : List Done), 0, 0, 0, 0⟩ : Shard)).map V.d) [(0, iV 1), (1, iV 1), (3, iV 1)] rfl · · · zw45 rfl ft45 rfl rfl rfl rfl) ?_
 refine sT 7 (.d (.sl 17 (([(⟨1, 1, (⟨⟨#[]⟩, ⟨#[]⟩⟩ : Span), 1, ([] : List Entry), (⟨0, 0, 0⟩ : Stamp), (⟨0, 0, 0⟩ : Stamp), ([] : List Done), 0, 0, 0, 0⟩ : Shard)]).map eShard))) rfl (w_bsl_d [(0, .d (.agg (eShard (⟨1, 1, (⟨⟨#[]⟩, ⟨#[]⟩⟩ : Span), 1, ([] : List Entry), (⟨0, 0, 0⟩ : Stamp), (⟨0, 0, 0⟩ : Stamp), ([] : List Done), 0, 0, 0, 0⟩ : Shard))))] [(⟨1, 1, (⟨⟨#[]⟩, ⟨#[]⟩⟩ : Span), 1, ([] : List Entry), (⟨0, 0, 0⟩ : Stamp), (⟨0, 0, 0⟩ : Stamp), ([] : List Done), 0, 0, 0, 0⟩ : Shard)] eShard rfl · · · slT22 zr45 teShard (ble _ _ rfl) rfl (by kernel_rfl) rfl rfl (by kernel_rfl)) ?_
 refine sT 8 (.d (.agg (eCell (⟨([(⟨1, 1, (⟨⟨#[]⟩, ⟨#[]⟩⟩ : Span), 1, ([] : List Entry), (⟨0, 0, 0⟩ : Stamp), (⟨0, 0, 0⟩ : Stamp), ([] : List Done), 0, 0, 0, 0⟩ : Shard)]), (⟨0, 0, 0⟩ : Stamp), 0⟩ : Cell)))) rfl (w_bld zc26 ((eCell (⟨([(⟨1, 1, (⟨⟨#[]⟩, ⟨#[]⟩⟩ : Span), 1, ([] : List Entry), (⟨0, 0, 0⟩ : Stamp), (⟨0, 0, 0⟩ : Stamp), ([] : List Done), 0, 0, 0, 0⟩ : Shard)]), (⟨0, 0, 0⟩ : Stamp), 0⟩ : Cell)).map V.d) [(0, .d (.sl 17 (([(⟨1, 1, (⟨⟨#[]⟩, ⟨#[]⟩⟩ : Span), 1, ([] : List Entry), (⟨0, 0, 0⟩ : Stamp), (⟨0, 0, 0⟩ : Stamp), ([] : List Done), 0, 0, 0, 0⟩ : Shard)]).map eShard)))] rfl · · · zw26 rfl ft26 rfl rfl rfl rfl) ?_
 refine sq_cons _ (v_alloc (id := 1) (cs := zc26) rfl trivial rfl (ble _ _ rfl) zu26 rfl ft26 rfl) ?_
 refine sq_cons _ (v_store_box (id := 1) (off := 0) (cs := (eCell (⟨([(⟨1, 1, (⟨⟨#[]⟩, ⟨#[]⟩⟩ : Span), 1, ([] : List Entry), (⟨0, 0, 0⟩ : Stamp), (⟨0, 0, 0⟩ : Stamp), ([] : List Done), 0, 0, 0, 0⟩ : Shard)]), (⟨0, 0, 0⟩ : Stamp), 0⟩ : Cell)).map V.d) rfl trivial rfl sz26 rfl rfl rfl rfl (ones_of rfl) (ble _ _ rfl)) ?_
 refine sq_nil ?_
 refine ht_seq ?_
 refine ht_region_draw mixed ?_
 refine rT 10 (.d (.agg (eCell (⟨([(⟨1, 1, (⟨⟨#[]⟩, ⟨#[]⟩⟩ : Span), 1, ([] : List Entry), (⟨0, 0, 0⟩ : Stamp), (⟨0, 0, 0⟩ : Stamp), ([] : List Done), 0, 0, 0, 0⟩ : Shard)]), (⟨0, 0, 0⟩ : Stamp), 0⟩ : Cell)))) rfl (w_ldb 1 0 rfl · · · ag26 rfl rfl (ble _ _ rfl) rfl) ?_
 refine rT 11 (.d (.agg (eRequest (⟨1, 1, 1, (⟨#[97]⟩ : ByteArray), (⟨#[120]⟩ : ByteArray), false, (⟨#[]⟩ : ByteArray), (⟨0, 0, 0⟩ : Stamp), (⟨#[]⟩ : ByteArray), 0⟩ : Request)))) rfl (w_bld zc28 ((eRequest (⟨1, 1, 1, (⟨#[97]⟩ : ByteArray), (⟨#[120]⟩ : ByteArray), false, (⟨#[]⟩ : ByteArray), (⟨0, 0, 0⟩ : Stamp), (⟨#[]⟩ : ByteArray), 0⟩ : Request)).map V.d) [(0, iV 1), (1, iV 1), (2, iV 1), (3, sV (⟨#[97]⟩ : ByteArray)), (4, sV (⟨#[120]⟩ : ByteArray))] rfl · · · zw28 rfl ft28 rfl rfl rfl rfl) ?_
 obtain ⟨t12, c1, h⟩ := bpos h
 refine rT 12 (.d (.agg (eStamp t12))) rfl (w_call (ds := [(.s (.int .i64 5))]) (caps := []) (l := [(.agg (eStamp t12))]) (s56 k 5 _ c1) rfl rfl rfl en56 · · · (.inl ⟨rfl, rfl⟩) rfl rfl) ?_
 obtain ⟨⟨t13a, t13b⟩, c2, h⟩ := bpos h
 refine rT 13 (.tup [.d (.agg (eCell t13a)), .d (.agg (eAnswer t13b))]) rfl (w_call (ds := [(.agg (eCell (⟨([(⟨1, 1, (⟨⟨#[]⟩, ⟨#[]⟩⟩ : Span), 1, ([] : List Entry), (⟨0, 0, 0⟩ : Stamp), (⟨0, 0, 0⟩ : Stamp), ([] : List Done), 0, 0, 0, 0⟩ : Shard)]), (⟨0, 0, 0⟩ : Stamp), 0⟩ : Cell))), (.s (.int .i64 1)), (.s (.int .i64 1)), (.agg (eRequest (⟨1, 1, 1, (⟨#[97]⟩ : ByteArray), (⟨#[120]⟩ : ByteArray), false, (⟨#[]⟩ : ByteArray), (⟨0, 0, 0⟩ : Stamp), (⟨#[]⟩ : ByteArray), 0⟩ : Request))), (.agg (eStamp t12)), (.s (.int .i64 0))]) (caps := []) (l := [(.agg (eCell t13a)), (.agg (eAnswer t13b))]) (s16 k (⟨([(⟨1, 1, (⟨⟨#[]⟩, ⟨#[]⟩⟩ : Span), 1, ([] : List Entry), (⟨0, 0, 0⟩ : Stamp), (⟨0, 0, 0⟩ : Stamp), ([] : List Done), 0, 0, 0, 0⟩ : Shard)]), (⟨0, 0, 0⟩ : Stamp), 0⟩ : Cell) 1 1 (⟨1, 1, 1, (⟨#[97]⟩ : ByteArray), (⟨#[120]⟩ : ByteArray), false, (⟨#[]⟩ : ByteArray), (⟨0, 0, 0⟩ : Stamp), (⟨#[]⟩ : ByteArray), 0⟩ : Request) t12 0 _ c2) rfl rfl rfl en16 · · · (.inl ⟨rfl, rfl⟩) rfl rfl) ?_
 refine rM 9 (.tup [.d (.agg (eCell t13a)), .d (.agg (eAnswer t13b))]) rfl rfl ?_
 refine rT 14 (.d (.agg (eCell t13a))) rfl (v_extract rfl · · · rfl rfl) ?_
 refine rT 15 (.d (.agg (eAnswer t13b))) rfl (v_extract rfl · · · rfl rfl) ?_
 refine rg_cons _ (v_alloc (id := 2) (cs := zc26) rfl trivial rfl (ble _ _ rfl) zu26 rfl ft26 rfl) ?_
 refine rg_cons _ (v_alloc (id := 3) (cs := zc34) rfl trivial rfl (ble _ _ rfl) zu34 rfl ft34 rfl) ?_
 refine rg_cons _ (v_store_box (id := 2) (off := 0) (cs := (eCell t13a).map V.d) rfl trivial rfl sz26 rfl rfl rfl rfl (ones_of rfl) (ble _ _ rfl)) ?_
 refine rg_cons _ (v_store_box (id := 3) (off := 0) (cs := (eAnswer t13b).map V.d) rfl trivial rfl sz34 rfl rfl rfl rfl (ones_of rfl) (ble _ _ rfl)) ?_
 refine rg_nil ⟨by kernel_rfl, ?_⟩
 refine ht_seq ?_
 refine ht_region_draw mixed ?_
 refine rT 17 (.d (.agg (eCell t13a))) rfl (w_ldb 2 0 rfl · · · ag26 rfl rfl (ble _ _ rfl) rfl) ?_
 refine rT 18 (.d (.agg (eRequest (⟨1, 2, 4, (⟨#[97]⟩ : ByteArray), (⟨#[]⟩ : ByteArray), false, (⟨#[]⟩ : ByteArray), (⟨0, 0, 0⟩ : Stamp), (⟨#[]⟩ : ByteArray), 0⟩ : Request)))) rfl (w_bld zc28 ((eRequest (⟨1, 2, 4, (⟨#[97]⟩ : ByteArray), (⟨#[]⟩ : ByteArray), false, (⟨#[]⟩ : ByteArray), (⟨0, 0, 0⟩ : Stamp), (⟨#[]⟩ : ByteArray), 0⟩ : Request)).map V.d) [(0, iV 1), (1, iV 2), (2, iV 4), (3, sV (⟨#[97]⟩ : ByteArray))] rfl · · · zw28 rfl ft28 rfl rfl rfl rfl) ?_
 obtain ⟨t19, c3, h⟩ := bpos h
 refine rT 19 (.d (.agg (eStamp t19))) rfl (w_call (ds := [(.s (.int .i64 6))]) (caps := []) (l := [(.agg (eStamp t19))]) (s56 k 6 _ c3) rfl rfl rfl en56 · · · (.inl ⟨rfl, rfl⟩) rfl rfl) ?_
 obtain ⟨⟨t20a, t20b⟩, c4, h⟩ := bpos h
 refine rT 20 (.tup [.d (.agg (eCell t20a)), .d (.agg (eAnswer t20b))]) rfl (w_call (ds := [(.agg (eCell t13a)), (.s (.int .i64 1)), (.s (.int .i64 1)), (.agg (eRequest (⟨1, 2, 4, (⟨#[97]⟩ : ByteArray), (⟨#[]⟩ : ByteArray), false, (⟨#[]⟩ : ByteArray), (⟨0, 0, 0⟩ : Stamp), (⟨#[]⟩ : ByteArray), 0⟩ : Request))), (.agg (eStamp t19)), (.s (.int .i64 0))]) (caps := []) (l := [(.agg (eCell t20a)), (.agg (eAnswer t20b))]) (s16 k t13a 1 1 (⟨1, 2, 4, (⟨#[97]⟩ : ByteArray), (⟨#[]⟩ : ByteArray), false, (⟨#[]⟩ : ByteArray), (⟨0, 0, 0⟩ : Stamp), (⟨#[]⟩ : ByteArray), 0⟩ : Request) t19 0 _ c4) rfl rfl rfl en16 · · · (.inl ⟨rfl, rfl⟩) rfl rfl) ?_
 refine rM 16 (.tup [.d (.agg (eCell t20a)), .d (.agg (eAnswer t20b))]) rfl rfl ?_
 refine rT 21 (.d (.agg (eCell t20a))) rfl (v_extract rfl · · · rfl rfl) ?_
 refine rT 22 (.d (.agg (eAnswer t20b))) rfl (v_extract rfl · · · rfl rfl) ?_
 refine rg_cons _ (v_alloc (id := 4) (cs := zc26) rfl trivial rfl (ble _ _ rfl) zu26 rfl ft26 rfl) ?_
 refine rg_cons _ (v_alloc (id := 5) (cs := zc34) rfl trivial rfl (ble _ _ rfl) zu34 rfl ft34 rfl) ?_
 refine rg_cons _ (v_store_box (id := 4) (off := 0) (cs := (eCell t20a).map V.d) rfl trivial rfl sz26 rfl rfl rfl rfl (ones_of rfl) (ble _ _ rfl)) ?_
 refine rg_cons _ (v_store_box (id := 5) (off := 0) (cs := (eAnswer t20b).map V.d) rfl trivial rfl sz34 rfl rfl rfl rfl (ones_of rfl) (ble _ _ rfl)) ?_
 refine rg_nil ⟨by kernel_rfl, ?_⟩
 refine ht_seq ?_
 refine ht_region_draw mixed ?_
 refine rT 23 (.d (.agg (eCell t13a))) rfl (w_ldb 2 0 rfl · · · ag26 rfl rfl (ble _ _ rfl) rfl) ?_
 obtain ⟨t24, c5, h⟩ := bpos h
 refine rT 24 (bV t24) rfl (w_call (ds := [(.agg (eCell t13a))]) (caps := []) (l := [(.s (.bool t24))]) (s25 k t13a _ c5) rfl rfl rfl en25 · · · (.inl ⟨rfl, rfl⟩) rfl rfl) ?_
 refine rM 25 (bV t24) rfl rfl ?_
 refine rG 26 (.ptr 3 1) rfl rfl (fun e6 => (v_field_box (off := 0) (a0 := 1) rfl · · · fo34_1 rfl)) ?_
 refine rG 27 (.d (.agg (eStamp t13b.mAt))) rfl rfl (fun e7 => (w_ldb 3 1 rfl · · · ag24 (gv e7) rfl (ble _ _ rfl) rfl)) ?_
 obtain ⟨t28, c9, h⟩ := bpos h
 refine rG 28 (.d (.agg (eStamp t28))) rfl rfl (fun e8 => (w_call (ds := [(.s (.int .i64 5))]) (caps := []) (l := [(.agg (eStamp t28))]) (s56 k 5 _ (cpos e8 c9)) rfl rfl rfl en56 · · · (.inl ⟨rfl, rfl⟩) rfl rfl)) ?_
 refine rG 29 (bV (qStamp t13b.mAt t28)) rfl rfl (fun e10 => (v_bin_eql (f := eStamp) rfl · · · (gv e10) (gv e10) rfl rfl eg24 (eq24 _ _))) ?_
 refine rT 30 (bV (t24 && (qStamp t13b.mAt t28))) rfl (v_pickB rfl · · · rfl (fun e11 => (gv e11)) (fun e12 => rfl) (pA _ _)) ?_
 refine rM 31 (bV (t24 && (qStamp t13b.mAt t28))) rfl rfl ?_
 refine rG 32 (.ptr 3 0) rfl rfl (fun e13 => (v_field_box (off := 0) (a0 := 0) rfl · · · fo34_0 rfl)) ?_
 refine rG 33 (iV t13b.mErr) rfl rfl (fun e14 => (v_load_box1 (id := 3) (off := 0) rfl · · · onT31 (gv e14) rfl (ble _ _ rfl) rfl)) ?_
 refine rG 34 (bV (eqI t13b.mErr 0)) rfl rfl (fun e15 => (v_bin rfl · · · (gv e15) rfl (b_eql rfl))) ?_
 refine rT 35 (bV ((t24 && (qStamp t13b.mAt t28)) && (eqI t13b.mErr 0))) rfl (v_pickB rfl · · · rfl (fun e16 => (gv e16)) (fun e17 => rfl) (pA _ _)) ?_
 refine rM 36 (bV ((t24 && (qStamp t13b.mAt t28)) && (eqI t13b.mErr 0))) rfl rfl ?_
 refine rG 37 (.ptr 5 4) rfl rfl (fun e18 => (v_field_box (off := 0) (a0 := 4) rfl · · · fo34_2 rfl)) ?_
 refine rG 38 (bV t20b.mFound) rfl rfl (fun e19 => (v_load_box1 (id := 5) (off := 4) rfl · · · onT4 (gv e19) rfl (ble _ _ rfl) rfl)) ?_
 refine rT 39 (bV (((t24 && (qStamp t13b.mAt t28)) && (eqI t13b.mErr 0)) && t20b.mFound)) rfl (v_pickB rfl · · · rfl (fun e20 => (gv e20)) (fun e21 => rfl) (pA _ _)) ?_
 refine rM 40 (bV (((t24 && (qStamp t13b.mAt t28)) && (eqI t13b.mErr 0)) && t20b.mFound)) rfl rfl ?_
 refine rG 41 (.ptr 5 5) rfl rfl (fun e22 => (v_field_box (off := 0) (a0 := 5) rfl · · · fo34_3 rfl)) ?_
 refine rG 42 (sV t20b.mValue) rfl rfl (fun e23 => (v_load_box1 (id := 5) (off := 5) rfl · · · onT9 (gv e23) rfl (ble _ _ rfl) rfl)) ?_
 refine rG 43 (bV (strEq t20b.mValue (⟨#[120]⟩ : ByteArray))) rfl rfl (fun e24 => (v_bin rfl · · · (gv e24) rfl (b_eqS rfl))) ?_
 refine rT 44 (bV ((((t24 && (qStamp t13b.mAt t28)) && (eqI t13b.mErr 0)) && t20b.mFound) && (strEq t20b.mValue (⟨#[120]⟩ : ByteArray)))) rfl (v_pickB rfl · · · rfl (fun e25 => (gv e25)) (fun e26 => rfl) (pA _ _)) ?_
 refine rM 45 (bV ((((t24 && (qStamp t13b.mAt t28)) && (eqI t13b.mErr 0)) && t20b.mFound) && (strEq t20b.mValue (⟨#[120]⟩ : ByteArray)))) rfl rfl ?_
 refine rG 46 (.ptr 5 1) rfl rfl (fun e27 => (v_field_box (off := 0) (a0 := 1) rfl · · · fo34_1 rfl)) ?_
 refine rG 47 (.d (.agg (eStamp t20b.mAt))) rfl rfl (fun e28 => (w_ldb 5 1 rfl · · · ag24 (gv e28) rfl (ble _ _ rfl) rfl)) ?_
 obtain ⟨t48, c30, h⟩ := bpos h
 refine rG 48 (.d (.agg (eStamp t48))) rfl rfl (fun e29 => (w_call (ds := [(.s (.int .i64 5))]) (caps := []) (l := [(.agg (eStamp t48))]) (s56 k 5 _ (cpos e29 c30)) rfl rfl rfl en56 · · · (.inl ⟨rfl, rfl⟩) rfl rfl)) ?_
 refine rG 49 (bV (qStamp t20b.mAt t48)) rfl rfl (fun e31 => (v_bin_eql (f := eStamp) rfl · · · (gv e31) (gv e31) rfl rfl eg24 (eq24 _ _))) ?_
 refine rT 50 (bV (((((t24 && (qStamp t13b.mAt t28)) && (eqI t13b.mErr 0)) && t20b.mFound) && (strEq t20b.mValue (⟨#[120]⟩ : ByteArray))) && (qStamp t20b.mAt t48))) rfl (v_pickB rfl · · · rfl (fun e32 => (gv e32)) (fun e33 => rfl) (pA _ _)) ?_
 refine rM 0 (bV (((((t24 && (qStamp t13b.mAt t28)) && (eqI t13b.mErr 0)) && t20b.mFound) && (strEq t20b.mValue (⟨#[120]⟩ : ByteArray))) && (qStamp t20b.mAt t48))) rfl rfl ?_
 refine rg_nil ⟨by kernel_rfl, ?_⟩
 refine ht_ret ?_
 cases h
 exact ret1 rfl (.tmp rfl)
end Go.Proofs.Gd
set_option linter.unusedVariables false
set_option maxRecDepth 100000
set_option maxHeartbeats 4000000
namespace Go.Proofs.Gd
open Go Go.Awp Go.Proofs
theorem s102 (k : Nat) (t0 : List Version) (t1 : List Version) (r : Bool) (h : F102 k t0 t1 = some r) : Awp.Spec Tryz.prog amb 102 [(.sl 5 (t0.map eVersion)), (.sl 5 (t1.map eVersion))] (.ds [(.s (.bool r))]) := by
 rw [F102] at h
 refine spec_of Tryz.func102 rfl (ble _ _ rfl) fun w0 ok0 lt0 hA => ?_
 refine sr ?_
 refine sM 4 (bV false) rfl rfl ?_
 refine sq_nil ?_
 refine ht_seq ?_
 refine sr ?_
 refine sM 6 (.d (.sl 5 (t0.map eVersion))) rfl rfl ?_
 refine sT 7 (iV (t0.length : Int)) rfl (w_len t0 eVersion rfl rfl · · · slT96 rfl) ?_
 refine sM 8 (.d (.sl 5 (t1.map eVersion))) rfl rfl ?_
 refine sT 9 (iV (t1.length : Int)) rfl (w_len t1 eVersion rfl rfl · · · slT96 rfl) ?_
 refine sT 10 (bV (!eqI (t0.length : Int) (t1.length : Int))) rfl (v_bin rfl · · · rfl rfl (b_neq rfl)) ?_
 refine sq_nil ?_
 refine ht_cond rfl (fun e1 => ?_) (fun e1 => ?_)
 ·replace h := cpos e1 h
  refine sr ?_
  refine sM 4 (bV false) rfl rfl ?_
  refine sq_nil ?_
  refine ht_ret ?_
  cases h
  exact ret1 rfl (.tmp rfl)
 replace h := cneg e1 h
 refine ht_skip ?_
 refine ht_gj (go_id' h) (fun _ => tell []) (fun _ h => ?_) (fun v2 K3 h j5 r6 => ?_)
 ·refine sr ?_
  refine sM 4 (bV true) rfl rfl ?_
  refine sq_nil ?_
  refine ht_ret ?_
  cases h
  exact ret1 rfl (.tmp rfl)
 refine sr ?_
 refine sM 5 (iV 0) rfl rfl ?_
 refine sq_nil ?_
 refine ht_block ?_
 refine ht_rd h (fun _ => rfl) (fun t5 => tell [(.t 0, .d (.sl 5 (t0.map eVersion))), (.t 1, .d (.sl 5 (t1.map eVersion))), (.t 5, iV t5)]) (wk_ren _ (fun i => i) rfl ⟨rfl, rfl, rfl, trivial⟩) fun k t5 h K14 j8 => ?_
 rw [F102_l1] at h
 refine ht_seq ?_
 refine sr ?_
 refine sM 11 (iV t5) rfl rfl ?_
 refine sM 12 (.d (.sl 5 (t0.map eVersion))) rfl rfl ?_
 refine sT 13 (iV (t0.length : Int)) rfl (w_len t0 eVersion rfl rfl · · · slT96 rfl) ?_
 refine sT 14 (bV (ltI t5 (t0.length : Int))) rfl (v_bin rfl · · · rfl rfl (b_lss rfl)) ?_
 refine sq_nil ?_
 refine ht_cond rfl (fun e10 => ?_) (fun e10 => ?_)
 ·replace h := cpos e10 h
  refine ht_skip ?_
  refine ht_seq ?_
  refine ht_block ?_
  refine ht_seq ?_
  refine ht_region_draw mixed ?_
  refine rM 17 (.d (.sl 5 (t0.map eVersion))) rfl rfl ?_
  refine rM 18 (iV t5) rfl rfl ?_
  obtain ⟨e11, h⟩ := gpos h
  refine rT 19 (.d (.dp (eVersion (rd t0 t5)))) rfl (w_idx t0 eVersion rfl · · · slT96 rfl rfl e11) ?_
  refine rT 20 (.d (.agg (eVersion (rd t0 t5)))) rfl (w_ldp (eVersion (rd t0 t5)) (eVersion (rd t0 t5)) rfl · · · ag93 rfl (ble _ _ rfl) rfl) ?_
  refine rM 21 (.d (.sl 5 (t1.map eVersion))) rfl rfl ?_
  refine rM 22 (iV t5) rfl rfl ?_
  obtain ⟨e12, h⟩ := gpos h
  refine rT 23 (.d (.dp (eVersion (rd t1 t5)))) rfl (w_idx t1 eVersion rfl · · · slT96 rfl rfl e12) ?_
  refine rT 24 (.d (.agg (eVersion (rd t1 t5)))) rfl (w_ldp (eVersion (rd t1 t5)) (eVersion (rd t1 t5)) rfl · · · ag93 rfl (ble _ _ rfl) rfl) ?_
  refine rT 25 (bV (!(qVersion (rd t0 t5) (rd t1 t5)))) rfl (v_bin_neq (f := eVersion) rfl · · · rfl rfl rfl rfl eg93 (eq93 _ _)) ?_
  refine rg_nil ⟨by kernel_rfl, ?_⟩
  refine ht_cond rfl (fun e13 => ?_) (fun e13 => ?_)
  ·replace h := cpos e13 h
   refine sr ?_
   refine sM 4 (bV false) rfl rfl ?_
   refine sq_nil ?_
   refine ht_ret ?_
   cases h
   cases r6 _ rfl
   exact ret1 rfl (.tmp rfl)
  replace h := cneg e13 h
  refine ht_skip ?_
  refine ht_region ?_
  refine sM 15 (iV t5) rfl rfl ?_
  refine sT 16 (iV (IntKind.wrap .i64 (t5 + 1))) rfl (v_bin rfl · · · rfl rfl (b_add rfl)) ?_
  refine sM 5 (iV (IntKind.wrap .i64 (t5 + 1))) rfl rfl ?_
  refine sq_nil ?_
  exact j8 _ _ h (wk_ren _ (fun i => i) rfl ⟨rfl, rfl, rfl, trivial⟩)
 replace h := cneg e10 h
 refine ht_exit ?_
 refine tq ?_
 refine tq ?_
 refine bq_hit ?_
 cases h
 exact j5 _ _ rfl (wk_ren _ (fun i => i) rfl trivial)
theorem s40 (k : Nat) (t0 : List Entry) (t1 : List Entry) (r : Bool) (h : F40 k t0 t1 = some r) : Awp.Spec Tryz.prog amb 40 [(.sl 2 (t0.map eEntry)), (.sl 2 (t1.map eEntry))] (.ds [(.s (.bool r))]) := by
 rw [F40] at h
 refine spec_of Tryz.func40 rfl (ble _ _ rfl) fun w0 ok0 lt0 hA => ?_
 refine sr ?_
 refine sM 4 (bV false) rfl rfl ?_
 refine sq_nil ?_
 refine ht_seq ?_
 refine sr ?_
 refine sM 6 (.d (.sl 2 (t0.map eEntry))) rfl rfl ?_
 refine sT 7 (iV (t0.length : Int)) rfl (w_len t0 eEntry rfl rfl · · · slT42 rfl) ?_
 refine sM 8 (.d (.sl 2 (t1.map eEntry))) rfl rfl ?_
 refine sT 9 (iV (t1.length : Int)) rfl (w_len t1 eEntry rfl rfl · · · slT42 rfl) ?_
 refine sT 10 (bV (!eqI (t0.length : Int) (t1.length : Int))) rfl (v_bin rfl · · · rfl rfl (b_neq rfl)) ?_
 refine sq_nil ?_
 refine ht_cond rfl (fun e1 => ?_) (fun e1 => ?_)
 ·replace h := cpos e1 h
  refine sr ?_
  refine sM 4 (bV false) rfl rfl ?_
  refine sq_nil ?_
  refine ht_ret ?_
  cases h
  exact ret1 rfl (.tmp rfl)
 replace h := cneg e1 h
 refine ht_skip ?_
 refine ht_gj (go_id' h) (fun _ => tell []) (fun _ h => ?_) (fun v2 K3 h j5 r6 => ?_)
 ·refine sr ?_
  refine sM 4 (bV true) rfl rfl ?_
  refine sq_nil ?_
  refine ht_ret ?_
  cases h
  exact ret1 rfl (.tmp rfl)
 refine sr ?_
 refine sM 5 (iV 0) rfl rfl ?_
 refine sq_nil ?_
 refine ht_block ?_
 refine ht_rd h (fun _ => rfl) (fun t5 => tell [(.t 0, .d (.sl 2 (t0.map eEntry))), (.t 1, .d (.sl 2 (t1.map eEntry))), (.t 5, iV t5)]) (wk_ren _ (fun i => i) rfl ⟨rfl, rfl, rfl, trivial⟩) fun k t5 h K31 j8 => ?_
 rw [F40_l1] at h
 refine ht_seq ?_
 refine sr ?_
 refine sM 11 (iV t5) rfl rfl ?_
 refine sM 12 (.d (.sl 2 (t0.map eEntry))) rfl rfl ?_
 refine sT 13 (iV (t0.length : Int)) rfl (w_len t0 eEntry rfl rfl · · · slT42 rfl) ?_
 refine sT 14 (bV (ltI t5 (t0.length : Int))) rfl (v_bin rfl · · · rfl rfl (b_lss rfl)) ?_
 refine sq_nil ?_
 refine ht_cond rfl (fun e10 => ?_) (fun e10 => ?_)
 ·replace h := cpos e10 h
  refine ht_skip ?_
  refine ht_seq ?_
  refine ht_block ?_
  refine ht_seq ?_
  refine ht_region_draw mixed ?_
  refine rM 17 (.d (.sl 2 (t0.map eEntry))) rfl rfl ?_
  refine rM 18 (iV t5) rfl rfl ?_
  obtain ⟨e11, h⟩ := gpos h
  refine rT 19 (.d (.dp (eEntry (rd t0 t5)))) rfl (w_idx t0 eEntry rfl · · · slT42 rfl rfl e11) ?_
  refine rT 20 (.d (.dp (eEntry (rd t0 t5)))) rfl (v_field_dp (a0 := 0) (cs := (eEntry (rd t0 t5))) rfl · · · fo116_0 rfl) ?_
  refine rT 21 (sV (rd t0 t5).mKey) rfl (v_load_dp1 rfl · · · onT9 rfl rfl) ?_
  refine rM 22 (.d (.sl 2 (t1.map eEntry))) rfl rfl ?_
  refine rM 23 (iV t5) rfl rfl ?_
  obtain ⟨e12, h⟩ := gpos h
  refine rT 24 (.d (.dp (eEntry (rd t1 t5)))) rfl (w_idx t1 eEntry rfl · · · slT42 rfl rfl e12) ?_
  refine rT 25 (.d (.dp (eEntry (rd t1 t5)))) rfl (v_field_dp (a0 := 0) (cs := (eEntry (rd t1 t5))) rfl · · · fo116_0 rfl) ?_
  refine rT 26 (sV (rd t1 t5).mKey) rfl (v_load_dp1 rfl · · · onT9 rfl rfl) ?_
  refine rT 27 (bV (!strEq (rd t0 t5).mKey (rd t1 t5).mKey)) rfl (v_bin rfl · · · rfl rfl (b_neS rfl)) ?_
  refine rM 28 (bV (!strEq (rd t0 t5).mKey (rd t1 t5).mKey)) rfl rfl ?_
  refine rF 29 (.d (.sl 2 (t0.map eEntry))) rfl rfl (fun e13 => (v_move (.inl rfl) · · · rfl)) ?_
  refine rF 30 (iV t5) rfl rfl (fun e14 => (v_move (.inl rfl) · · · rfl)) ?_
  obtain ⟨e16, h⟩ := gpos h
  refine rF 31 (.d (.dp (eEntry (rd t0 t5)))) rfl rfl (fun e15 => (w_idx t0 eEntry rfl · · · slT42 (gv (nF e15)) (gv (nF e15)) (orT e16 (nF e15)))) ?_
  refine rF 32 (.d (.dp (List.drop 1 (eEntry (rd t0 t5))))) rfl rfl (fun e17 => (v_field_dp (a0 := 1) (cs := (eEntry (rd t0 t5))) rfl · · · fo116_1 (gv (nF e17)))) ?_
  refine rF 33 (.d (.sl 5 ((rd t0 t5).mChain.map eVersion))) rfl rfl (fun e18 => (v_load_dp1 rfl · · · onT96 (gv (nF e18)) rfl)) ?_
  refine rF 34 (.d (.sl 2 (t1.map eEntry))) rfl rfl (fun e19 => (v_move (.inl rfl) · · · rfl)) ?_
  refine rF 35 (iV t5) rfl rfl (fun e20 => (v_move (.inl rfl) · · · rfl)) ?_
  obtain ⟨e22, h⟩ := gpos h
  refine rF 36 (.d (.dp (eEntry (rd t1 t5)))) rfl rfl (fun e21 => (w_idx t1 eEntry rfl · · · slT42 (gv (nF e21)) (gv (nF e21)) (orT e22 (nF e21)))) ?_
  refine rF 37 (.d (.dp (List.drop 1 (eEntry (rd t1 t5))))) rfl rfl (fun e23 => (v_field_dp (a0 := 1) (cs := (eEntry (rd t1 t5))) rfl · · · fo116_1 (gv (nF e23)))) ?_
  refine rF 38 (.d (.sl 5 ((rd t1 t5).mChain.map eVersion))) rfl rfl (fun e24 => (v_load_dp1 rfl · · · onT96 (gv (nF e24)) rfl)) ?_
  obtain ⟨t39, c26, h⟩ := bpos h
  refine rF 39 (bV t39) rfl rfl (fun e25 => (w_call (ds := [(.sl 5 ((rd t0 t5).mChain.map eVersion)), (.sl 5 ((rd t1 t5).mChain.map eVersion))]) (caps := []) (l := [(.s (.bool t39))]) (s102 k (rd t0 t5).mChain (rd t1 t5).mChain _ (cpos (nF e25) c26)) rfl rfl rfl en102 · · · (.inl ⟨rfl, rfl⟩) (cc (gv (nF e25)) (cc (gv (nF e25)) rfl)) rfl)) ?_
  refine rF 40 (bV (!t39)) rfl rfl (fun e27 => (v_un rfl · · · (gv (nF e27)) (u_not rfl))) ?_
  refine rT 41 (bV ((!strEq (rd t0 t5).mKey (rd t1 t5).mKey) || (!t39))) rfl (v_pickB rfl · · · rfl (fun e28 => rfl) (fun e29 => (gv (nF e29))) (pO _ _)) ?_
  refine rg_nil ⟨by kernel_rfl, ?_⟩
  refine ht_cond rfl (fun e30 => ?_) (fun e30 => ?_)
  ·replace h := cpos e30 h
   refine sr ?_
   refine sM 4 (bV false) rfl rfl ?_
   refine sq_nil ?_
   refine ht_ret ?_
   cases h
   cases r6 _ rfl
   exact ret1 rfl (.tmp rfl)
  replace h := cneg e30 h
  refine ht_skip ?_
  refine ht_region ?_
  refine sM 15 (iV t5) rfl rfl ?_
  refine sT 16 (iV (IntKind.wrap .i64 (t5 + 1))) rfl (v_bin rfl · · · rfl rfl (b_add rfl)) ?_
  refine sM 5 (iV (IntKind.wrap .i64 (t5 + 1))) rfl rfl ?_
  refine sq_nil ?_
  exact j8 _ _ h (wk_ren _ (fun i => i) rfl ⟨rfl, rfl, rfl, trivial⟩)
 replace h := cneg e10 h
 refine ht_exit ?_
 refine tq ?_
 refine tq ?_
 refine bq_hit ?_
 cases h
 exact j5 _ _ rfl (wk_ren _ (fun i => i) rfl trivial)
end Go.Proofs.Gd
set_option linter.unusedVariables false
set_option maxRecDepth 100000
set_option maxHeartbeats 4000000
namespace Go.Proofs.Gd
open Go Go.Awp Go.Proofs
theorem s19 (k : Nat) (t0 : Answer) (t1 : Answer) (r : Bool) (h : F19 k t0 t1 = some r) : Awp.Spec Tryz.prog amb 19 [(.agg (eAnswer t0)), (.agg (eAnswer t1))] (.ds [(.s (.bool r))]) := by
 rw [F19] at h
 refine spec_of Tryz.func19 rfl (ble _ _ rfl) fun w0 ok0 lt0 hA => ?_
 refine sr ?_
 refine sT 2 (.d (.dp (eAnswer t0))) rfl (v_box_d (cs := (eAnswer t0)) rfl · · · rfl rfl (ones_of rfl)) ?_
 refine sT 3 (.d (.dp (eAnswer t1))) rfl (v_box_d (cs := (eAnswer t1)) rfl · · · rfl rfl (ones_of rfl)) ?_
 refine sM 4 (bV false) rfl rfl ?_
 refine sq_nil ?_
 refine ht_seq ?_
 refine sr ?_
 refine sT 6 (.d (.dp (List.drop 6 (eAnswer t0)))) rfl (v_field_dp (a0 := 6) (cs := (eAnswer t0)) rfl · · · fo34_4 rfl) ?_
 refine sT 7 (.d (.sl 2 (t0.mItems.map eItem))) rfl (v_load_dp1 rfl · · · onT32 rfl rfl) ?_
 refine sT 8 (iV (t0.mItems.length : Int)) rfl (w_len t0.mItems eItem rfl rfl · · · slT32 rfl) ?_
 refine sT 9 (.d (.dp (List.drop 6 (eAnswer t1)))) rfl (v_field_dp (a0 := 6) (cs := (eAnswer t1)) rfl · · · fo34_4 rfl) ?_
 refine sT 10 (.d (.sl 2 (t1.mItems.map eItem))) rfl (v_load_dp1 rfl · · · onT32 rfl rfl) ?_
 refine sT 11 (iV (t1.mItems.length : Int)) rfl (w_len t1.mItems eItem rfl rfl · · · slT32 rfl) ?_
 refine sT 12 (bV (!eqI (t0.mItems.length : Int) (t1.mItems.length : Int))) rfl (v_bin rfl · · · rfl rfl (b_neq rfl)) ?_
 refine sq_nil ?_
 refine ht_cond rfl (fun e1 => ?_) (fun e1 => ?_)
 ·replace h := cpos e1 h
  refine sr ?_
  refine sM 4 (bV false) rfl rfl ?_
  refine sq_nil ?_
  refine ht_ret ?_
  cases h
  exact ret1 rfl (.tmp rfl)
 replace h := cneg e1 h
 refine ht_skip ?_
 refine ht_gj (go_id' h) (fun _ => tell [(.t 2, .d (.dp (eAnswer t0))), (.t 3, .d (.dp (eAnswer t1)))]) (fun _ h => ?_) (fun v2 K3 h j5 r6 => ?_)
 ·refine sr ?_
  refine sT 31 (.d (.dp (eAnswer t0))) rfl (v_field_dp (a0 := 0) (cs := (eAnswer t0)) rfl · · · fo34_0 rfl) ?_
  refine sT 32 (iV t0.mErr) rfl (v_load_dp1 rfl · · · onT31 rfl rfl) ?_
  refine sT 33 (.d (.dp (eAnswer t1))) rfl (v_field_dp (a0 := 0) (cs := (eAnswer t1)) rfl · · · fo34_0 rfl) ?_
  refine sT 34 (iV t1.mErr) rfl (v_load_dp1 rfl · · · onT31 rfl rfl) ?_
  refine sT 35 (bV (eqI t0.mErr t1.mErr)) rfl (v_bin rfl · · · rfl rfl (b_eql rfl)) ?_
  refine sM 36 (bV (eqI t0.mErr t1.mErr)) rfl rfl ?_
  refine sG 37 (.d (.dp (List.drop 1 (eAnswer t0)))) rfl rfl (fun e15 => (v_field_dp (a0 := 1) (cs := (eAnswer t0)) rfl · · · fo34_1 rfl)) ?_
  refine sG 38 (.d (.agg (eStamp t0.mAt))) rfl rfl (fun e16 => (w_ldp (List.drop 1 (eAnswer t0)) (eStamp t0.mAt) rfl · · · ag24 (gv e16) (ble _ _ rfl) rfl)) ?_
  refine sG 39 (.d (.dp (List.drop 1 (eAnswer t1)))) rfl rfl (fun e17 => (v_field_dp (a0 := 1) (cs := (eAnswer t1)) rfl · · · fo34_1 rfl)) ?_
  refine sG 40 (.d (.agg (eStamp t1.mAt))) rfl rfl (fun e18 => (w_ldp (List.drop 1 (eAnswer t1)) (eStamp t1.mAt) rfl · · · ag24 (gv e18) (ble _ _ rfl) rfl)) ?_
  refine sG 41 (bV (qStamp t0.mAt t1.mAt)) rfl rfl (fun e19 => (v_bin_eql (f := eStamp) rfl · · · (gv e19) (gv e19) rfl rfl eg24 (eq24 _ _))) ?_
  refine sT 42 (bV ((eqI t0.mErr t1.mErr) && (qStamp t0.mAt t1.mAt))) rfl (v_pickB rfl · · · rfl (fun e20 => (gv e20)) (fun e21 => rfl) (pA _ _)) ?_
  refine sM 43 (bV ((eqI t0.mErr t1.mErr) && (qStamp t0.mAt t1.mAt))) rfl rfl ?_
  refine sG 44 (.d (.dp (List.drop 4 (eAnswer t0)))) rfl rfl (fun e22 => (v_field_dp (a0 := 4) (cs := (eAnswer t0)) rfl · · · fo34_2 rfl)) ?_
  refine sG 45 (bV t0.mFound) rfl rfl (fun e23 => (v_load_dp1 rfl · · · onT4 (gv e23) rfl)) ?_
  refine sG 46 (.d (.dp (List.drop 4 (eAnswer t1)))) rfl rfl (fun e24 => (v_field_dp (a0 := 4) (cs := (eAnswer t1)) rfl · · · fo34_2 rfl)) ?_
  refine sG 47 (bV t1.mFound) rfl rfl (fun e25 => (v_load_dp1 rfl · · · onT4 (gv e25) rfl)) ?_
  refine sG 48 (bV (t0.mFound == t1.mFound)) rfl rfl (fun e26 => (v_bin rfl · · · (gv e26) (gv e26) (b_eqB und4 rfl))) ?_
  refine sT 49 (bV (((eqI t0.mErr t1.mErr) && (qStamp t0.mAt t1.mAt)) && (t0.mFound == t1.mFound))) rfl (v_pickB rfl · · · rfl (fun e27 => (gv e27)) (fun e28 => rfl) (pA _ _)) ?_
  refine sM 50 (bV (((eqI t0.mErr t1.mErr) && (qStamp t0.mAt t1.mAt)) && (t0.mFound == t1.mFound))) rfl rfl ?_
  refine sG 51 (.d (.dp (List.drop 5 (eAnswer t0)))) rfl rfl (fun e29 => (v_field_dp (a0 := 5) (cs := (eAnswer t0)) rfl · · · fo34_3 rfl)) ?_
  refine sG 52 (sV t0.mValue) rfl rfl (fun e30 => (v_load_dp1 rfl · · · onT9 (gv e30) rfl)) ?_
  refine sG 53 (.d (.dp (List.drop 5 (eAnswer t1)))) rfl rfl (fun e31 => (v_field_dp (a0 := 5) (cs := (eAnswer t1)) rfl · · · fo34_3 rfl)) ?_
  refine sG 54 (sV t1.mValue) rfl rfl (fun e32 => (v_load_dp1 rfl · · · onT9 (gv e32) rfl)) ?_
  refine sG 55 (bV (strEq t0.mValue t1.mValue)) rfl rfl (fun e33 => (v_bin rfl · · · (gv e33) (gv e33) (b_eqS rfl))) ?_
  refine sT 56 (bV ((((eqI t0.mErr t1.mErr) && (qStamp t0.mAt t1.mAt)) && (t0.mFound == t1.mFound)) && (strEq t0.mValue t1.mValue))) rfl (v_pickB rfl · · · rfl (fun e34 => (gv e34)) (fun e35 => rfl) (pA _ _)) ?_
  refine sM 57 (bV ((((eqI t0.mErr t1.mErr) && (qStamp t0.mAt t1.mAt)) && (t0.mFound == t1.mFound)) && (strEq t0.mValue t1.mValue))) rfl rfl ?_
  refine sG 58 (.d (.dp (List.drop 7 (eAnswer t0)))) rfl rfl (fun e36 => (v_field_dp (a0 := 7) (cs := (eAnswer t0)) rfl · · · fo34_5 rfl)) ?_
  refine sG 59 (sV t0.mNext) rfl rfl (fun e37 => (v_load_dp1 rfl · · · onT9 (gv e37) rfl)) ?_
  refine sG 60 (.d (.dp (List.drop 7 (eAnswer t1)))) rfl rfl (fun e38 => (v_field_dp (a0 := 7) (cs := (eAnswer t1)) rfl · · · fo34_5 rfl)) ?_
  refine sG 61 (sV t1.mNext) rfl rfl (fun e39 => (v_load_dp1 rfl · · · onT9 (gv e39) rfl)) ?_
  refine sG 62 (bV (strEq t0.mNext t1.mNext)) rfl rfl (fun e40 => (v_bin rfl · · · (gv e40) (gv e40) (b_eqS rfl))) ?_
  refine sT 63 (bV (((((eqI t0.mErr t1.mErr) && (qStamp t0.mAt t1.mAt)) && (t0.mFound == t1.mFound)) && (strEq t0.mValue t1.mValue)) && (strEq t0.mNext t1.mNext))) rfl (v_pickB rfl · · · rfl (fun e41 => (gv e41)) (fun e42 => rfl) (pA _ _)) ?_
  refine sM 64 (bV (((((eqI t0.mErr t1.mErr) && (qStamp t0.mAt t1.mAt)) && (t0.mFound == t1.mFound)) && (strEq t0.mValue t1.mValue)) && (strEq t0.mNext t1.mNext))) rfl rfl ?_
  refine sG 65 (.d (.dp (List.drop 8 (eAnswer t0)))) rfl rfl (fun e43 => (v_field_dp (a0 := 8) (cs := (eAnswer t0)) rfl · · · fo34_6 rfl)) ?_
  refine sG 66 (bV t0.mMore) rfl rfl (fun e44 => (v_load_dp1 rfl · · · onT4 (gv e44) rfl)) ?_
  refine sG 67 (.d (.dp (List.drop 8 (eAnswer t1)))) rfl rfl (fun e45 => (v_field_dp (a0 := 8) (cs := (eAnswer t1)) rfl · · · fo34_6 rfl)) ?_
  refine sG 68 (bV t1.mMore) rfl rfl (fun e46 => (v_load_dp1 rfl · · · onT4 (gv e46) rfl)) ?_
  refine sG 69 (bV (t0.mMore == t1.mMore)) rfl rfl (fun e47 => (v_bin rfl · · · (gv e47) (gv e47) (b_eqB und4 rfl))) ?_
  refine sT 70 (bV ((((((eqI t0.mErr t1.mErr) && (qStamp t0.mAt t1.mAt)) && (t0.mFound == t1.mFound)) && (strEq t0.mValue t1.mValue)) && (strEq t0.mNext t1.mNext)) && (t0.mMore == t1.mMore))) rfl (v_pickB rfl · · · rfl (fun e48 => (gv e48)) (fun e49 => rfl) (pA _ _)) ?_
  refine sM 4 (bV ((((((eqI t0.mErr t1.mErr) && (qStamp t0.mAt t1.mAt)) && (t0.mFound == t1.mFound)) && (strEq t0.mValue t1.mValue)) && (strEq t0.mNext t1.mNext)) && (t0.mMore == t1.mMore))) rfl rfl ?_
  refine sq_nil ?_
  refine ht_ret ?_
  cases h
  exact ret1 rfl (.tmp rfl)
 refine sr ?_
 refine sM 5 (iV 0) rfl rfl ?_
 refine sq_nil ?_
 refine ht_block ?_
 refine ht_rd h (fun _ => rfl) (fun t5 => tell [(.t 2, .d (.dp (eAnswer t0))), (.t 3, .d (.dp (eAnswer t1))), (.t 5, iV t5)]) (wk_ren _ (fun i => i) rfl ⟨rfl, rfl, rfl, trivial⟩) fun k t5 h K14 j8 => ?_
 rw [F19_l1] at h
 refine ht_seq ?_
 refine sr ?_
 refine sM 13 (iV t5) rfl rfl ?_
 refine sT 14 (.d (.dp (List.drop 6 (eAnswer t0)))) rfl (v_field_dp (a0 := 6) (cs := (eAnswer t0)) rfl · · · fo34_4 rfl) ?_
 refine sT 15 (.d (.sl 2 (t0.mItems.map eItem))) rfl (v_load_dp1 rfl · · · onT32 rfl rfl) ?_
 refine sT 16 (iV (t0.mItems.length : Int)) rfl (w_len t0.mItems eItem rfl rfl · · · slT32 rfl) ?_
 refine sT 17 (bV (ltI t5 (t0.mItems.length : Int))) rfl (v_bin rfl · · · rfl rfl (b_lss rfl)) ?_
 refine sq_nil ?_
 refine ht_cond rfl (fun e10 => ?_) (fun e10 => ?_)
 ·replace h := cpos e10 h
  refine ht_skip ?_
  refine ht_seq ?_
  refine ht_block ?_
  refine ht_seq ?_
  refine ht_region_draw mixed ?_
  refine rT 20 (.d (.dp (List.drop 6 (eAnswer t0)))) rfl (v_field_dp (a0 := 6) (cs := (eAnswer t0)) rfl · · · fo34_4 rfl) ?_
  refine rT 21 (.d (.sl 2 (t0.mItems.map eItem))) rfl (v_load_dp1 rfl · · · onT32 rfl rfl) ?_
  refine rM 22 (iV t5) rfl rfl ?_
  obtain ⟨e11, h⟩ := gpos h
  refine rT 23 (.d (.dp (eItem (rd t0.mItems t5)))) rfl (w_idx t0.mItems eItem rfl · · · slT32 rfl rfl e11) ?_
  refine rT 24 (.d (.agg (eItem (rd t0.mItems t5)))) rfl (w_ldp (eItem (rd t0.mItems t5)) (eItem (rd t0.mItems t5)) rfl · · · ag110 rfl (ble _ _ rfl) rfl) ?_
  refine rT 25 (.d (.dp (List.drop 6 (eAnswer t1)))) rfl (v_field_dp (a0 := 6) (cs := (eAnswer t1)) rfl · · · fo34_4 rfl) ?_
  refine rT 26 (.d (.sl 2 (t1.mItems.map eItem))) rfl (v_load_dp1 rfl · · · onT32 rfl rfl) ?_
  refine rM 27 (iV t5) rfl rfl ?_
  obtain ⟨e12, h⟩ := gpos h
  refine rT 28 (.d (.dp (eItem (rd t1.mItems t5)))) rfl (w_idx t1.mItems eItem rfl · · · slT32 rfl rfl e12) ?_
  refine rT 29 (.d (.agg (eItem (rd t1.mItems t5)))) rfl (w_ldp (eItem (rd t1.mItems t5)) (eItem (rd t1.mItems t5)) rfl · · · ag110 rfl (ble _ _ rfl) rfl) ?_
  refine rT 30 (bV (!(qItem (rd t0.mItems t5) (rd t1.mItems t5)))) rfl (v_bin_neq (f := eItem) rfl · · · rfl rfl rfl rfl eg110 (eq110 _ _)) ?_
  refine rg_nil ⟨by kernel_rfl, ?_⟩
  refine ht_cond rfl (fun e13 => ?_) (fun e13 => ?_)
  ·replace h := cpos e13 h
   refine sr ?_
   refine sM 4 (bV false) rfl rfl ?_
   refine sq_nil ?_
   refine ht_ret ?_
   cases h
   cases r6 _ rfl
   exact ret1 rfl (.tmp rfl)
  replace h := cneg e13 h
  refine ht_skip ?_
  refine ht_region ?_
  refine sM 18 (iV t5) rfl rfl ?_
  refine sT 19 (iV (IntKind.wrap .i64 (t5 + 1))) rfl (v_bin rfl · · · rfl rfl (b_add rfl)) ?_
  refine sM 5 (iV (IntKind.wrap .i64 (t5 + 1))) rfl rfl ?_
  refine sq_nil ?_
  exact j8 _ _ h (wk_ren _ (fun i => i) rfl ⟨rfl, rfl, rfl, trivial⟩)
 replace h := cneg e10 h
 refine ht_exit ?_
 refine tq ?_
 refine tq ?_
 refine bq_hit ?_
 cases h
 exact j5 _ _ rfl (wk_ren _ (fun i => i) rfl ⟨rfl, rfl, trivial⟩)
theorem s41 (k : Nat) (t0 : List Done) (t1 : List Done) (r : Bool) (h : F41 k t0 t1 = some r) : Awp.Spec Tryz.prog amb 41 [(.sl 11 (t0.map eDone)), (.sl 11 (t1.map eDone))] (.ds [(.s (.bool r))]) := by
 rw [F41] at h
 refine spec_of Tryz.func41 rfl (ble _ _ rfl) fun w0 ok0 lt0 hA => ?_
 refine sr ?_
 refine sM 4 (bV false) rfl rfl ?_
 refine sq_nil ?_
 refine ht_seq ?_
 refine sr ?_
 refine sM 6 (.d (.sl 11 (t0.map eDone))) rfl rfl ?_
 refine sT 7 (iV (t0.length : Int)) rfl (w_len t0 eDone rfl rfl · · · slT43 rfl) ?_
 refine sM 8 (.d (.sl 11 (t1.map eDone))) rfl rfl ?_
 refine sT 9 (iV (t1.length : Int)) rfl (w_len t1 eDone rfl rfl · · · slT43 rfl) ?_
 refine sT 10 (bV (!eqI (t0.length : Int) (t1.length : Int))) rfl (v_bin rfl · · · rfl rfl (b_neq rfl)) ?_
 refine sq_nil ?_
 refine ht_cond rfl (fun e1 => ?_) (fun e1 => ?_)
 ·replace h := cpos e1 h
  refine sr ?_
  refine sM 4 (bV false) rfl rfl ?_
  refine sq_nil ?_
  refine ht_ret ?_
  cases h
  exact ret1 rfl (.tmp rfl)
 replace h := cneg e1 h
 refine ht_skip ?_
 refine ht_gj (go_id' h) (fun _ => tell []) (fun _ h => ?_) (fun v2 K3 h j5 r6 => ?_)
 ·refine sr ?_
  refine sM 4 (bV true) rfl rfl ?_
  refine sq_nil ?_
  refine ht_ret ?_
  cases h
  exact ret1 rfl (.tmp rfl)
 refine sr ?_
 refine sM 5 (iV 0) rfl rfl ?_
 refine sq_nil ?_
 refine ht_block ?_
 refine ht_rd h (fun _ => rfl) (fun t5 => tell [(.t 0, .d (.sl 11 (t0.map eDone))), (.t 1, .d (.sl 11 (t1.map eDone))), (.t 5, iV t5)]) (wk_ren _ (fun i => i) rfl ⟨rfl, rfl, rfl, trivial⟩) fun k t5 h K46 j8 => ?_
 rw [F41_l1] at h
 refine ht_seq ?_
 refine sr ?_
 refine sM 11 (iV t5) rfl rfl ?_
 refine sM 12 (.d (.sl 11 (t0.map eDone))) rfl rfl ?_
 refine sT 13 (iV (t0.length : Int)) rfl (w_len t0 eDone rfl rfl · · · slT43 rfl) ?_
 refine sT 14 (bV (ltI t5 (t0.length : Int))) rfl (v_bin rfl · · · rfl rfl (b_lss rfl)) ?_
 refine sq_nil ?_
 refine ht_cond rfl (fun e10 => ?_) (fun e10 => ?_)
 ·replace h := cpos e10 h
  refine ht_skip ?_
  refine ht_seq ?_
  refine ht_block ?_
  refine ht_seq ?_
  refine ht_region_draw mixed ?_
  refine rM 17 (.d (.sl 11 (t0.map eDone))) rfl rfl ?_
  refine rM 18 (iV t5) rfl rfl ?_
  obtain ⟨e11, h⟩ := gpos h
  refine rT 19 (.d (.dp (eDone (rd t0 t5)))) rfl (w_idx t0 eDone rfl · · · slT43 rfl rfl e11) ?_
  refine rT 20 (.d (.dp (eDone (rd t0 t5)))) rfl (v_field_dp (a0 := 0) (cs := (eDone (rd t0 t5))) rfl · · · fo100_0 rfl) ?_
  refine rT 21 (iV (rd t0 t5).mClient) rfl (v_load_dp1 rfl · · · onT3 rfl rfl) ?_
  refine rM 22 (.d (.sl 11 (t1.map eDone))) rfl rfl ?_
  refine rM 23 (iV t5) rfl rfl ?_
  obtain ⟨e12, h⟩ := gpos h
  refine rT 24 (.d (.dp (eDone (rd t1 t5)))) rfl (w_idx t1 eDone rfl · · · slT43 rfl rfl e12) ?_
  refine rT 25 (.d (.dp (eDone (rd t1 t5)))) rfl (v_field_dp (a0 := 0) (cs := (eDone (rd t1 t5))) rfl · · · fo100_0 rfl) ?_
  refine rT 26 (iV (rd t1 t5).mClient) rfl (v_load_dp1 rfl · · · onT3 rfl rfl) ?_
  refine rT 27 (bV (!eqI (rd t0 t5).mClient (rd t1 t5).mClient)) rfl (v_bin rfl · · · rfl rfl (b_neq rfl)) ?_
  refine rM 28 (bV (!eqI (rd t0 t5).mClient (rd t1 t5).mClient)) rfl rfl ?_
  refine rF 29 (.d (.sl 11 (t0.map eDone))) rfl rfl (fun e13 => (v_move (.inl rfl) · · · rfl)) ?_
  refine rF 30 (iV t5) rfl rfl (fun e14 => (v_move (.inl rfl) · · · rfl)) ?_
  obtain ⟨e16, h⟩ := gpos h
  refine rF 31 (.d (.dp (eDone (rd t0 t5)))) rfl rfl (fun e15 => (w_idx t0 eDone rfl · · · slT43 (gv (nF e15)) (gv (nF e15)) (orT e16 (nF e15)))) ?_
  refine rF 32 (.d (.dp (List.drop 1 (eDone (rd t0 t5))))) rfl rfl (fun e17 => (v_field_dp (a0 := 1) (cs := (eDone (rd t0 t5))) rfl · · · fo100_1 (gv (nF e17)))) ?_
  refine rF 33 (iV (rd t0 t5).mReq) rfl rfl (fun e18 => (v_load_dp1 rfl · · · onT3 (gv (nF e18)) rfl)) ?_
  refine rF 34 (.d (.sl 11 (t1.map eDone))) rfl rfl (fun e19 => (v_move (.inl rfl) · · · rfl)) ?_
  refine rF 35 (iV t5) rfl rfl (fun e20 => (v_move (.inl rfl) · · · rfl)) ?_
  obtain ⟨e22, h⟩ := gpos h
  refine rF 36 (.d (.dp (eDone (rd t1 t5)))) rfl rfl (fun e21 => (w_idx t1 eDone rfl · · · slT43 (gv (nF e21)) (gv (nF e21)) (orT e22 (nF e21)))) ?_
  refine rF 37 (.d (.dp (List.drop 1 (eDone (rd t1 t5))))) rfl rfl (fun e23 => (v_field_dp (a0 := 1) (cs := (eDone (rd t1 t5))) rfl · · · fo100_1 (gv (nF e23)))) ?_
  refine rF 38 (iV (rd t1 t5).mReq) rfl rfl (fun e24 => (v_load_dp1 rfl · · · onT3 (gv (nF e24)) rfl)) ?_
  refine rF 39 (bV (!eqI (rd t0 t5).mReq (rd t1 t5).mReq)) rfl rfl (fun e25 => (v_bin rfl · · · (gv (nF e25)) (gv (nF e25)) (b_neq rfl))) ?_
  refine rT 40 (bV ((!eqI (rd t0 t5).mClient (rd t1 t5).mClient) || (!eqI (rd t0 t5).mReq (rd t1 t5).mReq))) rfl (v_pickB rfl · · · rfl (fun e26 => rfl) (fun e27 => (gv (nF e27))) (pO _ _)) ?_
  refine rM 41 (bV ((!eqI (rd t0 t5).mClient (rd t1 t5).mClient) || (!eqI (rd t0 t5).mReq (rd t1 t5).mReq))) rfl rfl ?_
  refine rF 42 (.d (.sl 11 (t0.map eDone))) rfl rfl (fun e28 => (v_move (.inl rfl) · · · rfl)) ?_
  refine rF 43 (iV t5) rfl rfl (fun e29 => (v_move (.inl rfl) · · · rfl)) ?_
  obtain ⟨e31, h⟩ := gpos h
  refine rF 44 (.d (.dp (eDone (rd t0 t5)))) rfl rfl (fun e30 => (w_idx t0 eDone rfl · · · slT43 (gv (nF e30)) (gv (nF e30)) (orT e31 (nF e30)))) ?_
  refine rF 45 (.d (.dp (List.drop 2 (eDone (rd t0 t5))))) rfl rfl (fun e32 => (v_field_dp (a0 := 2) (cs := (eDone (rd t0 t5))) rfl · · · fo100_2 (gv (nF e32)))) ?_
  refine rF 46 (.d (.agg (eAnswer (rd t0 t5).mAnswer))) rfl rfl (fun e33 => (w_ldp (List.drop 2 (eDone (rd t0 t5))) (eAnswer (rd t0 t5).mAnswer) rfl · · · ag34 (gv (nF e33)) (ble _ _ rfl) rfl)) ?_
  refine rF 47 (.d (.sl 11 (t1.map eDone))) rfl rfl (fun e34 => (v_move (.inl rfl) · · · rfl)) ?_
  refine rF 48 (iV t5) rfl rfl (fun e35 => (v_move (.inl rfl) · · · rfl)) ?_
  obtain ⟨e37, h⟩ := gpos h
  refine rF 49 (.d (.dp (eDone (rd t1 t5)))) rfl rfl (fun e36 => (w_idx t1 eDone rfl · · · slT43 (gv (nF e36)) (gv (nF e36)) (orT e37 (nF e36)))) ?_
  refine rF 50 (.d (.dp (List.drop 2 (eDone (rd t1 t5))))) rfl rfl (fun e38 => (v_field_dp (a0 := 2) (cs := (eDone (rd t1 t5))) rfl · · · fo100_2 (gv (nF e38)))) ?_
  refine rF 51 (.d (.agg (eAnswer (rd t1 t5).mAnswer))) rfl rfl (fun e39 => (w_ldp (List.drop 2 (eDone (rd t1 t5))) (eAnswer (rd t1 t5).mAnswer) rfl · · · ag34 (gv (nF e39)) (ble _ _ rfl) rfl)) ?_
  obtain ⟨t52, c41, h⟩ := bpos h
  refine rF 52 (bV t52) rfl rfl (fun e40 => (w_call (ds := [(.agg (eAnswer (rd t0 t5).mAnswer)), (.agg (eAnswer (rd t1 t5).mAnswer))]) (caps := []) (l := [(.s (.bool t52))]) (s19 k (rd t0 t5).mAnswer (rd t1 t5).mAnswer _ (cpos (nF e40) c41)) rfl rfl rfl en19 · · · (.inl ⟨rfl, rfl⟩) (cc (gv (nF e40)) (cc (gv (nF e40)) rfl)) rfl)) ?_
  refine rF 53 (bV (!t52)) rfl rfl (fun e42 => (v_un rfl · · · (gv (nF e42)) (u_not rfl))) ?_
  refine rT 54 (bV (((!eqI (rd t0 t5).mClient (rd t1 t5).mClient) || (!eqI (rd t0 t5).mReq (rd t1 t5).mReq)) || (!t52))) rfl (v_pickB rfl · · · rfl (fun e43 => rfl) (fun e44 => (gv (nF e44))) (pO _ _)) ?_
  refine rg_nil ⟨by kernel_rfl, ?_⟩
  refine ht_cond rfl (fun e45 => ?_) (fun e45 => ?_)
  ·replace h := cpos e45 h
   refine sr ?_
   refine sM 4 (bV false) rfl rfl ?_
   refine sq_nil ?_
   refine ht_ret ?_
   cases h
   cases r6 _ rfl
   exact ret1 rfl (.tmp rfl)
  replace h := cneg e45 h
  refine ht_skip ?_
  refine ht_region ?_
  refine sM 15 (iV t5) rfl rfl ?_
  refine sT 16 (iV (IntKind.wrap .i64 (t5 + 1))) rfl (v_bin rfl · · · rfl rfl (b_add rfl)) ?_
  refine sM 5 (iV (IntKind.wrap .i64 (t5 + 1))) rfl rfl ?_
  refine sq_nil ?_
  exact j8 _ _ h (wk_ren _ (fun i => i) rfl ⟨rfl, rfl, rfl, trivial⟩)
 replace h := cneg e10 h
 refine ht_exit ?_
 refine tq ?_
 refine tq ?_
 refine bq_hit ?_
 cases h
 exact j5 _ _ rfl (wk_ren _ (fun i => i) rfl trivial)
theorem s26 (k : Nat) (t0 : Shard) (t1 : Shard) (r : Bool) (h : F26 k t0 t1 = some r) : Awp.Spec Tryz.prog amb 26 [(.agg (eShard t0)), (.agg (eShard t1))] (.ds [(.s (.bool r))]) := by
 rw [F26] at h
 refine spec_of Tryz.func26 rfl (ble _ _ rfl) fun w0 ok0 lt0 hA => ?_
 refine sr ?_
 refine sT 2 (.d (.dp (eShard t0))) rfl (v_box_d (cs := (eShard t0)) rfl · · · rfl rfl (ones_of rfl)) ?_
 refine sT 3 (.d (.dp (eShard t1))) rfl (v_box_d (cs := (eShard t1)) rfl · · · rfl rfl (ones_of rfl)) ?_
 refine sM 4 (bV false) rfl rfl ?_
 refine sq_nil ?_
 refine sr ?_
 refine sT 5 (.d (.dp (eShard t0))) rfl (v_field_dp (a0 := 0) (cs := (eShard t0)) rfl · · · fo45_0 rfl) ?_
 refine sT 6 (iV t0.mID) rfl (v_load_dp1 rfl · · · onT3 rfl rfl) ?_
 refine sT 7 (.d (.dp (eShard t1))) rfl (v_field_dp (a0 := 0) (cs := (eShard t1)) rfl · · · fo45_0 rfl) ?_
 refine sT 8 (iV t1.mID) rfl (v_load_dp1 rfl · · · onT3 rfl rfl) ?_
 refine sT 9 (bV (eqI t0.mID t1.mID)) rfl (v_bin rfl · · · rfl rfl (b_eql rfl)) ?_
 refine sM 10 (bV (eqI t0.mID t1.mID)) rfl rfl ?_
 refine sG 11 (.d (.dp (List.drop 1 (eShard t0)))) rfl rfl (fun e1 => (v_field_dp (a0 := 1) (cs := (eShard t0)) rfl · · · fo45_1 rfl)) ?_
 refine sG 12 (iV t0.mEpoch) rfl rfl (fun e2 => (v_load_dp1 rfl · · · onT3 (gv e2) rfl)) ?_
 refine sG 13 (.d (.dp (List.drop 1 (eShard t1)))) rfl rfl (fun e3 => (v_field_dp (a0 := 1) (cs := (eShard t1)) rfl · · · fo45_1 rfl)) ?_
 refine sG 14 (iV t1.mEpoch) rfl rfl (fun e4 => (v_load_dp1 rfl · · · onT3 (gv e4) rfl)) ?_
 refine sG 15 (bV (eqI t0.mEpoch t1.mEpoch)) rfl rfl (fun e5 => (v_bin rfl · · · (gv e5) (gv e5) (b_eql rfl))) ?_
 refine sT 16 (bV ((eqI t0.mID t1.mID) && (eqI t0.mEpoch t1.mEpoch))) rfl (v_pickB rfl · · · rfl (fun e6 => (gv e6)) (fun e7 => rfl) (pA _ _)) ?_
 refine sM 17 (bV ((eqI t0.mID t1.mID) && (eqI t0.mEpoch t1.mEpoch))) rfl rfl ?_
 refine sG 18 (.d (.dp (List.drop 2 (eShard t0)))) rfl rfl (fun e8 => (v_field_dp (a0 := 2) (cs := (eShard t0)) rfl · · · fo45_2 rfl)) ?_
 refine sG 19 (.d (.agg (eSpan t0.mSpan))) rfl rfl (fun e9 => (w_ldp (List.drop 2 (eShard t0)) (eSpan t0.mSpan) rfl · · · ag41 (gv e9) (ble _ _ rfl) rfl)) ?_
 refine sG 20 (.d (.dp (List.drop 2 (eShard t1)))) rfl rfl (fun e10 => (v_field_dp (a0 := 2) (cs := (eShard t1)) rfl · · · fo45_2 rfl)) ?_
 refine sG 21 (.d (.agg (eSpan t1.mSpan))) rfl rfl (fun e11 => (w_ldp (List.drop 2 (eShard t1)) (eSpan t1.mSpan) rfl · · · ag41 (gv e11) (ble _ _ rfl) rfl)) ?_
 refine sG 22 (bV (qSpan t0.mSpan t1.mSpan)) rfl rfl (fun e12 => (v_bin_eql (f := eSpan) rfl · · · (gv e12) (gv e12) rfl rfl eg41 (eq41 _ _))) ?_
 refine sT 23 (bV (((eqI t0.mID t1.mID) && (eqI t0.mEpoch t1.mEpoch)) && (qSpan t0.mSpan t1.mSpan))) rfl (v_pickB rfl · · · rfl (fun e13 => (gv e13)) (fun e14 => rfl) (pA _ _)) ?_
 refine sM 24 (bV (((eqI t0.mID t1.mID) && (eqI t0.mEpoch t1.mEpoch)) && (qSpan t0.mSpan t1.mSpan))) rfl rfl ?_
 refine sG 25 (.d (.dp (List.drop 4 (eShard t0)))) rfl rfl (fun e15 => (v_field_dp (a0 := 4) (cs := (eShard t0)) rfl · · · fo45_3 rfl)) ?_
 refine sG 26 (iV t0.mPhase) rfl rfl (fun e16 => (v_load_dp1 rfl · · · onT3 (gv e16) rfl)) ?_
 refine sG 27 (.d (.dp (List.drop 4 (eShard t1)))) rfl rfl (fun e17 => (v_field_dp (a0 := 4) (cs := (eShard t1)) rfl · · · fo45_3 rfl)) ?_
 refine sG 28 (iV t1.mPhase) rfl rfl (fun e18 => (v_load_dp1 rfl · · · onT3 (gv e18) rfl)) ?_
 refine sG 29 (bV (eqI t0.mPhase t1.mPhase)) rfl rfl (fun e19 => (v_bin rfl · · · (gv e19) (gv e19) (b_eql rfl))) ?_
 refine sT 30 (bV ((((eqI t0.mID t1.mID) && (eqI t0.mEpoch t1.mEpoch)) && (qSpan t0.mSpan t1.mSpan)) && (eqI t0.mPhase t1.mPhase))) rfl (v_pickB rfl · · · rfl (fun e20 => (gv e20)) (fun e21 => rfl) (pA _ _)) ?_
 refine sM 31 (bV ((((eqI t0.mID t1.mID) && (eqI t0.mEpoch t1.mEpoch)) && (qSpan t0.mSpan t1.mSpan)) && (eqI t0.mPhase t1.mPhase))) rfl rfl ?_
 refine sG 32 (.d (.dp (List.drop 5 (eShard t0)))) rfl rfl (fun e22 => (v_field_dp (a0 := 5) (cs := (eShard t0)) rfl · · · fo45_4 rfl)) ?_
 refine sG 33 (.d (.sl 2 (t0.mEntries.map eEntry))) rfl rfl (fun e23 => (v_load_dp1 rfl · · · onT42 (gv e23) rfl)) ?_
 refine sG 34 (.d (.dp (List.drop 5 (eShard t1)))) rfl rfl (fun e24 => (v_field_dp (a0 := 5) (cs := (eShard t1)) rfl · · · fo45_4 rfl)) ?_
 refine sG 35 (.d (.sl 2 (t1.mEntries.map eEntry))) rfl rfl (fun e25 => (v_load_dp1 rfl · · · onT42 (gv e25) rfl)) ?_
 obtain ⟨t36, c27, h⟩ := bpos h
 refine sG 36 (bV t36) rfl rfl (fun e26 => (w_call (ds := [(.sl 2 (t0.mEntries.map eEntry)), (.sl 2 (t1.mEntries.map eEntry))]) (caps := []) (l := [(.s (.bool t36))]) (s40 k t0.mEntries t1.mEntries _ (cpos e26 c27)) rfl rfl rfl en40 · · · (.inl ⟨rfl, rfl⟩) (cc (gv e26) (cc (gv e26) rfl)) rfl)) ?_
 refine sT 37 (bV (((((eqI t0.mID t1.mID) && (eqI t0.mEpoch t1.mEpoch)) && (qSpan t0.mSpan t1.mSpan)) && (eqI t0.mPhase t1.mPhase)) && t36)) rfl (v_pickB rfl · · · rfl (fun e28 => (gv e28)) (fun e29 => rfl) (pA _ _)) ?_
 refine sM 38 (bV (((((eqI t0.mID t1.mID) && (eqI t0.mEpoch t1.mEpoch)) && (qSpan t0.mSpan t1.mSpan)) && (eqI t0.mPhase t1.mPhase)) && t36)) rfl rfl ?_
 refine sG 39 (.d (.dp (List.drop 6 (eShard t0)))) rfl rfl (fun e30 => (v_field_dp (a0 := 6) (cs := (eShard t0)) rfl · · · fo45_5 rfl)) ?_
 refine sG 40 (.d (.agg (eStamp t0.mMark))) rfl rfl (fun e31 => (w_ldp (List.drop 6 (eShard t0)) (eStamp t0.mMark) rfl · · · ag24 (gv e31) (ble _ _ rfl) rfl)) ?_
 refine sG 41 (.d (.dp (List.drop 6 (eShard t1)))) rfl rfl (fun e32 => (v_field_dp (a0 := 6) (cs := (eShard t1)) rfl · · · fo45_5 rfl)) ?_
 refine sG 42 (.d (.agg (eStamp t1.mMark))) rfl rfl (fun e33 => (w_ldp (List.drop 6 (eShard t1)) (eStamp t1.mMark) rfl · · · ag24 (gv e33) (ble _ _ rfl) rfl)) ?_
 refine sG 43 (bV (qStamp t0.mMark t1.mMark)) rfl rfl (fun e34 => (v_bin_eql (f := eStamp) rfl · · · (gv e34) (gv e34) rfl rfl eg24 (eq24 _ _))) ?_
 refine sT 44 (bV ((((((eqI t0.mID t1.mID) && (eqI t0.mEpoch t1.mEpoch)) && (qSpan t0.mSpan t1.mSpan)) && (eqI t0.mPhase t1.mPhase)) && t36) && (qStamp t0.mMark t1.mMark))) rfl (v_pickB rfl · · · rfl (fun e35 => (gv e35)) (fun e36 => rfl) (pA _ _)) ?_
 refine sM 45 (bV ((((((eqI t0.mID t1.mID) && (eqI t0.mEpoch t1.mEpoch)) && (qSpan t0.mSpan t1.mSpan)) && (eqI t0.mPhase t1.mPhase)) && t36) && (qStamp t0.mMark t1.mMark))) rfl rfl ?_
 refine sG 46 (.d (.dp (List.drop 9 (eShard t0)))) rfl rfl (fun e37 => (v_field_dp (a0 := 9) (cs := (eShard t0)) rfl · · · fo45_6 rfl)) ?_
 refine sG 47 (.d (.agg (eStamp t0.mTop))) rfl rfl (fun e38 => (w_ldp (List.drop 9 (eShard t0)) (eStamp t0.mTop) rfl · · · ag24 (gv e38) (ble _ _ rfl) rfl)) ?_
 refine sG 48 (.d (.dp (List.drop 9 (eShard t1)))) rfl rfl (fun e39 => (v_field_dp (a0 := 9) (cs := (eShard t1)) rfl · · · fo45_6 rfl)) ?_
 refine sG 49 (.d (.agg (eStamp t1.mTop))) rfl rfl (fun e40 => (w_ldp (List.drop 9 (eShard t1)) (eStamp t1.mTop) rfl · · · ag24 (gv e40) (ble _ _ rfl) rfl)) ?_
 refine sG 50 (bV (qStamp t0.mTop t1.mTop)) rfl rfl (fun e41 => (v_bin_eql (f := eStamp) rfl · · · (gv e41) (gv e41) rfl rfl eg24 (eq24 _ _))) ?_
 refine sT 51 (bV (((((((eqI t0.mID t1.mID) && (eqI t0.mEpoch t1.mEpoch)) && (qSpan t0.mSpan t1.mSpan)) && (eqI t0.mPhase t1.mPhase)) && t36) && (qStamp t0.mMark t1.mMark)) && (qStamp t0.mTop t1.mTop))) rfl (v_pickB rfl · · · rfl (fun e42 => (gv e42)) (fun e43 => rfl) (pA _ _)) ?_
 refine sM 52 (bV (((((((eqI t0.mID t1.mID) && (eqI t0.mEpoch t1.mEpoch)) && (qSpan t0.mSpan t1.mSpan)) && (eqI t0.mPhase t1.mPhase)) && t36) && (qStamp t0.mMark t1.mMark)) && (qStamp t0.mTop t1.mTop))) rfl rfl ?_
 refine sG 53 (.d (.dp (List.drop 12 (eShard t0)))) rfl rfl (fun e44 => (v_field_dp (a0 := 12) (cs := (eShard t0)) rfl · · · fo45_7 rfl)) ?_
 refine sG 54 (.d (.sl 11 (t0.mDone.map eDone))) rfl rfl (fun e45 => (v_load_dp1 rfl · · · onT43 (gv e45) rfl)) ?_
 refine sG 55 (.d (.dp (List.drop 12 (eShard t1)))) rfl rfl (fun e46 => (v_field_dp (a0 := 12) (cs := (eShard t1)) rfl · · · fo45_7 rfl)) ?_
 refine sG 56 (.d (.sl 11 (t1.mDone.map eDone))) rfl rfl (fun e47 => (v_load_dp1 rfl · · · onT43 (gv e47) rfl)) ?_
 obtain ⟨t57, c49, h⟩ := bpos h
 refine sG 57 (bV t57) rfl rfl (fun e48 => (w_call (ds := [(.sl 11 (t0.mDone.map eDone)), (.sl 11 (t1.mDone.map eDone))]) (caps := []) (l := [(.s (.bool t57))]) (s41 k t0.mDone t1.mDone _ (cpos e48 c49)) rfl rfl rfl en41 · · · (.inl ⟨rfl, rfl⟩) (cc (gv e48) (cc (gv e48) rfl)) rfl)) ?_
 refine sT 58 (bV ((((((((eqI t0.mID t1.mID) && (eqI t0.mEpoch t1.mEpoch)) && (qSpan t0.mSpan t1.mSpan)) && (eqI t0.mPhase t1.mPhase)) && t36) && (qStamp t0.mMark t1.mMark)) && (qStamp t0.mTop t1.mTop)) && t57)) rfl (v_pickB rfl · · · rfl (fun e50 => (gv e50)) (fun e51 => rfl) (pA _ _)) ?_
 refine sM 59 (bV ((((((((eqI t0.mID t1.mID) && (eqI t0.mEpoch t1.mEpoch)) && (qSpan t0.mSpan t1.mSpan)) && (eqI t0.mPhase t1.mPhase)) && t36) && (qStamp t0.mMark t1.mMark)) && (qStamp t0.mTop t1.mTop)) && t57)) rfl rfl ?_
 refine sG 60 (.d (.dp (List.drop 13 (eShard t0)))) rfl rfl (fun e52 => (v_field_dp (a0 := 13) (cs := (eShard t0)) rfl · · · fo45_8 rfl)) ?_
 refine sG 61 (iV t0.mHold) rfl rfl (fun e53 => (v_load_dp1 rfl · · · onT3 (gv e53) rfl)) ?_
 refine sG 62 (.d (.dp (List.drop 13 (eShard t1)))) rfl rfl (fun e54 => (v_field_dp (a0 := 13) (cs := (eShard t1)) rfl · · · fo45_8 rfl)) ?_
 refine sG 63 (iV t1.mHold) rfl rfl (fun e55 => (v_load_dp1 rfl · · · onT3 (gv e55) rfl)) ?_
 refine sG 64 (bV (eqI t0.mHold t1.mHold)) rfl rfl (fun e56 => (v_bin rfl · · · (gv e56) (gv e56) (b_eql rfl))) ?_
 refine sT 65 (bV (((((((((eqI t0.mID t1.mID) && (eqI t0.mEpoch t1.mEpoch)) && (qSpan t0.mSpan t1.mSpan)) && (eqI t0.mPhase t1.mPhase)) && t36) && (qStamp t0.mMark t1.mMark)) && (qStamp t0.mTop t1.mTop)) && t57) && (eqI t0.mHold t1.mHold))) rfl (v_pickB rfl · · · rfl (fun e57 => (gv e57)) (fun e58 => rfl) (pA _ _)) ?_
 refine sM 66 (bV (((((((((eqI t0.mID t1.mID) && (eqI t0.mEpoch t1.mEpoch)) && (qSpan t0.mSpan t1.mSpan)) && (eqI t0.mPhase t1.mPhase)) && t36) && (qStamp t0.mMark t1.mMark)) && (qStamp t0.mTop t1.mTop)) && t57) && (eqI t0.mHold t1.mHold))) rfl rfl ?_
 refine sG 67 (.d (.dp (List.drop 14 (eShard t0)))) rfl rfl (fun e59 => (v_field_dp (a0 := 14) (cs := (eShard t0)) rfl · · · fo45_9 rfl)) ?_
 refine sG 68 (iV t0.mSeen) rfl rfl (fun e60 => (v_load_dp1 rfl · · · onT3 (gv e60) rfl)) ?_
 refine sG 69 (.d (.dp (List.drop 14 (eShard t1)))) rfl rfl (fun e61 => (v_field_dp (a0 := 14) (cs := (eShard t1)) rfl · · · fo45_9 rfl)) ?_
 refine sG 70 (iV t1.mSeen) rfl rfl (fun e62 => (v_load_dp1 rfl · · · onT3 (gv e62) rfl)) ?_
 refine sG 71 (bV (eqI t0.mSeen t1.mSeen)) rfl rfl (fun e63 => (v_bin rfl · · · (gv e63) (gv e63) (b_eql rfl))) ?_
 refine sT 72 (bV ((((((((((eqI t0.mID t1.mID) && (eqI t0.mEpoch t1.mEpoch)) && (qSpan t0.mSpan t1.mSpan)) && (eqI t0.mPhase t1.mPhase)) && t36) && (qStamp t0.mMark t1.mMark)) && (qStamp t0.mTop t1.mTop)) && t57) && (eqI t0.mHold t1.mHold)) && (eqI t0.mSeen t1.mSeen))) rfl (v_pickB rfl · · · rfl (fun e64 => (gv e64)) (fun e65 => rfl) (pA _ _)) ?_
 refine sM 73 (bV ((((((((((eqI t0.mID t1.mID) && (eqI t0.mEpoch t1.mEpoch)) && (qSpan t0.mSpan t1.mSpan)) && (eqI t0.mPhase t1.mPhase)) && t36) && (qStamp t0.mMark t1.mMark)) && (qStamp t0.mTop t1.mTop)) && t57) && (eqI t0.mHold t1.mHold)) && (eqI t0.mSeen t1.mSeen))) rfl rfl ?_
 refine sG 74 (.d (.dp (List.drop 15 (eShard t0)))) rfl rfl (fun e66 => (v_field_dp (a0 := 15) (cs := (eShard t0)) rfl · · · fo45_10 rfl)) ?_
 refine sG 75 (iV t0.mMove) rfl rfl (fun e67 => (v_load_dp1 rfl · · · onT3 (gv e67) rfl)) ?_
 refine sG 76 (.d (.dp (List.drop 15 (eShard t1)))) rfl rfl (fun e68 => (v_field_dp (a0 := 15) (cs := (eShard t1)) rfl · · · fo45_10 rfl)) ?_
 refine sG 77 (iV t1.mMove) rfl rfl (fun e69 => (v_load_dp1 rfl · · · onT3 (gv e69) rfl)) ?_
 refine sG 78 (bV (eqI t0.mMove t1.mMove)) rfl rfl (fun e70 => (v_bin rfl · · · (gv e70) (gv e70) (b_eql rfl))) ?_
 refine sT 79 (bV (((((((((((eqI t0.mID t1.mID) && (eqI t0.mEpoch t1.mEpoch)) && (qSpan t0.mSpan t1.mSpan)) && (eqI t0.mPhase t1.mPhase)) && t36) && (qStamp t0.mMark t1.mMark)) && (qStamp t0.mTop t1.mTop)) && t57) && (eqI t0.mHold t1.mHold)) && (eqI t0.mSeen t1.mSeen)) && (eqI t0.mMove t1.mMove))) rfl (v_pickB rfl · · · rfl (fun e71 => (gv e71)) (fun e72 => rfl) (pA _ _)) ?_
 refine sM 80 (bV (((((((((((eqI t0.mID t1.mID) && (eqI t0.mEpoch t1.mEpoch)) && (qSpan t0.mSpan t1.mSpan)) && (eqI t0.mPhase t1.mPhase)) && t36) && (qStamp t0.mMark t1.mMark)) && (qStamp t0.mTop t1.mTop)) && t57) && (eqI t0.mHold t1.mHold)) && (eqI t0.mSeen t1.mSeen)) && (eqI t0.mMove t1.mMove))) rfl rfl ?_
 refine sG 81 (.d (.dp (List.drop 16 (eShard t0)))) rfl rfl (fun e73 => (v_field_dp (a0 := 16) (cs := (eShard t0)) rfl · · · fo45_11 rfl)) ?_
 refine sG 82 (iV t0.mClosed) rfl rfl (fun e74 => (v_load_dp1 rfl · · · onT3 (gv e74) rfl)) ?_
 refine sG 83 (.d (.dp (List.drop 16 (eShard t1)))) rfl rfl (fun e75 => (v_field_dp (a0 := 16) (cs := (eShard t1)) rfl · · · fo45_11 rfl)) ?_
 refine sG 84 (iV t1.mClosed) rfl rfl (fun e76 => (v_load_dp1 rfl · · · onT3 (gv e76) rfl)) ?_
 refine sG 85 (bV (eqI t0.mClosed t1.mClosed)) rfl rfl (fun e77 => (v_bin rfl · · · (gv e77) (gv e77) (b_eql rfl))) ?_
 refine sT 86 (bV ((((((((((((eqI t0.mID t1.mID) && (eqI t0.mEpoch t1.mEpoch)) && (qSpan t0.mSpan t1.mSpan)) && (eqI t0.mPhase t1.mPhase)) && t36) && (qStamp t0.mMark t1.mMark)) && (qStamp t0.mTop t1.mTop)) && t57) && (eqI t0.mHold t1.mHold)) && (eqI t0.mSeen t1.mSeen)) && (eqI t0.mMove t1.mMove)) && (eqI t0.mClosed t1.mClosed))) rfl (v_pickB rfl · · · rfl (fun e78 => (gv e78)) (fun e79 => rfl) (pA _ _)) ?_
 refine sM 4 (bV ((((((((((((eqI t0.mID t1.mID) && (eqI t0.mEpoch t1.mEpoch)) && (qSpan t0.mSpan t1.mSpan)) && (eqI t0.mPhase t1.mPhase)) && t36) && (qStamp t0.mMark t1.mMark)) && (qStamp t0.mTop t1.mTop)) && t57) && (eqI t0.mHold t1.mHold)) && (eqI t0.mSeen t1.mSeen)) && (eqI t0.mMove t1.mMove)) && (eqI t0.mClosed t1.mClosed))) rfl rfl ?_
 refine sq_nil ?_
 refine ht_ret ?_
 cases h
 exact ret1 rfl (.tmp rfl)
theorem s18 (k : Nat) (t0 : Cell) (t1 : Cell) (r : Bool) (h : F18 k t0 t1 = some r) : Awp.Spec Tryz.prog amb 18 [(.agg (eCell t0)), (.agg (eCell t1))] (.ds [(.s (.bool r))]) := by
 rw [F18] at h
 refine spec_of Tryz.func18 rfl (ble _ _ rfl) fun w0 ok0 lt0 hA => ?_
 refine sr ?_
 refine sT 2 (.d (.dp (eCell t0))) rfl (v_box_d (cs := (eCell t0)) rfl · · · rfl rfl (ones_of rfl)) ?_
 refine sT 3 (.d (.dp (eCell t1))) rfl (v_box_d (cs := (eCell t1)) rfl · · · rfl rfl (ones_of rfl)) ?_
 refine sM 4 (bV false) rfl rfl ?_
 refine sq_nil ?_
 refine ht_seq ?_
 refine sr ?_
 refine sT 6 (.d (.dp (eCell t0))) rfl (v_field_dp (a0 := 0) (cs := (eCell t0)) rfl · · · fo26_0 rfl) ?_
 refine sT 7 (.d (.sl 17 (t0.mShards.map eShard))) rfl (v_load_dp1 rfl · · · onT22 rfl rfl) ?_
 refine sT 8 (iV (t0.mShards.length : Int)) rfl (w_len t0.mShards eShard rfl rfl · · · slT22 rfl) ?_
 refine sT 9 (.d (.dp (eCell t1))) rfl (v_field_dp (a0 := 0) (cs := (eCell t1)) rfl · · · fo26_0 rfl) ?_
 refine sT 10 (.d (.sl 17 (t1.mShards.map eShard))) rfl (v_load_dp1 rfl · · · onT22 rfl rfl) ?_
 refine sT 11 (iV (t1.mShards.length : Int)) rfl (w_len t1.mShards eShard rfl rfl · · · slT22 rfl) ?_
 refine sT 12 (bV (!eqI (t0.mShards.length : Int) (t1.mShards.length : Int))) rfl (v_bin rfl · · · rfl rfl (b_neq rfl)) ?_
 refine sM 13 (bV (!eqI (t0.mShards.length : Int) (t1.mShards.length : Int))) rfl rfl ?_
 refine sF 14 (.d (.dp (List.drop 1 (eCell t0)))) rfl rfl (fun e1 => (v_field_dp (a0 := 1) (cs := (eCell t0)) rfl · · · fo26_1 rfl)) ?_
 refine sF 15 (.d (.agg (eStamp t0.mTop))) rfl rfl (fun e2 => (w_ldp (List.drop 1 (eCell t0)) (eStamp t0.mTop) rfl · · · ag24 (gv (nF e2)) (ble _ _ rfl) rfl)) ?_
 refine sF 16 (.d (.dp (List.drop 1 (eCell t1)))) rfl rfl (fun e3 => (v_field_dp (a0 := 1) (cs := (eCell t1)) rfl · · · fo26_1 rfl)) ?_
 refine sF 17 (.d (.agg (eStamp t1.mTop))) rfl rfl (fun e4 => (w_ldp (List.drop 1 (eCell t1)) (eStamp t1.mTop) rfl · · · ag24 (gv (nF e4)) (ble _ _ rfl) rfl)) ?_
 refine sF 18 (bV (!(qStamp t0.mTop t1.mTop))) rfl rfl (fun e5 => (v_bin_neq (f := eStamp) rfl · · · (gv (nF e5)) (gv (nF e5)) rfl rfl eg24 (eq24 _ _))) ?_
 refine sT 19 (bV ((!eqI (t0.mShards.length : Int) (t1.mShards.length : Int)) || (!(qStamp t0.mTop t1.mTop)))) rfl (v_pickB rfl · · · rfl (fun e6 => rfl) (fun e7 => (gv (nF e7))) (pO _ _)) ?_
 refine sM 20 (bV ((!eqI (t0.mShards.length : Int) (t1.mShards.length : Int)) || (!(qStamp t0.mTop t1.mTop)))) rfl rfl ?_
 refine sF 21 (.d (.dp (List.drop 4 (eCell t0)))) rfl rfl (fun e8 => (v_field_dp (a0 := 4) (cs := (eCell t0)) rfl · · · fo26_2 rfl)) ?_
 refine sF 22 (iV t0.mDropped) rfl rfl (fun e9 => (v_load_dp1 rfl · · · onT3 (gv (nF e9)) rfl)) ?_
 refine sF 23 (.d (.dp (List.drop 4 (eCell t1)))) rfl rfl (fun e10 => (v_field_dp (a0 := 4) (cs := (eCell t1)) rfl · · · fo26_2 rfl)) ?_
 refine sF 24 (iV t1.mDropped) rfl rfl (fun e11 => (v_load_dp1 rfl · · · onT3 (gv (nF e11)) rfl)) ?_
 refine sF 25 (bV (!eqI t0.mDropped t1.mDropped)) rfl rfl (fun e12 => (v_bin rfl · · · (gv (nF e12)) (gv (nF e12)) (b_neq rfl))) ?_
 refine sT 26 (bV (((!eqI (t0.mShards.length : Int) (t1.mShards.length : Int)) || (!(qStamp t0.mTop t1.mTop))) || (!eqI t0.mDropped t1.mDropped))) rfl (v_pickB rfl · · · rfl (fun e13 => rfl) (fun e14 => (gv (nF e14))) (pO _ _)) ?_
 refine sq_nil ?_
 refine ht_cond rfl (fun e15 => ?_) (fun e15 => ?_)
 ·replace h := cpos e15 h
  refine sr ?_
  refine sM 4 (bV false) rfl rfl ?_
  refine sq_nil ?_
  refine ht_ret ?_
  cases h
  exact ret1 rfl (.tmp rfl)
 replace h := cneg e15 h
 refine ht_skip ?_
 refine ht_gj (go_id' h) (fun _ => tell []) (fun _ h => ?_) (fun v16 K17 h j19 r20 => ?_)
 ·refine sr ?_
  refine sM 4 (bV true) rfl rfl ?_
  refine sq_nil ?_
  refine ht_ret ?_
  cases h
  exact ret1 rfl (.tmp rfl)
 refine sr ?_
 refine sM 5 (iV 0) rfl rfl ?_
 refine sq_nil ?_
 refine ht_block ?_
 refine ht_rd h (fun _ => rfl) (fun t5 => tell [(.t 2, .d (.dp (eCell t0))), (.t 3, .d (.dp (eCell t1))), (.t 5, iV t5)]) (wk_ren _ (fun i => i) rfl ⟨rfl, rfl, rfl, trivial⟩) fun k t5 h K29 j22 => ?_
 rw [F18_l1] at h
 refine ht_seq ?_
 refine sr ?_
 refine sM 27 (iV t5) rfl rfl ?_
 refine sT 28 (.d (.dp (eCell t0))) rfl (v_field_dp (a0 := 0) (cs := (eCell t0)) rfl · · · fo26_0 rfl) ?_
 refine sT 29 (.d (.sl 17 (t0.mShards.map eShard))) rfl (v_load_dp1 rfl · · · onT22 rfl rfl) ?_
 refine sT 30 (iV (t0.mShards.length : Int)) rfl (w_len t0.mShards eShard rfl rfl · · · slT22 rfl) ?_
 refine sT 31 (bV (ltI t5 (t0.mShards.length : Int))) rfl (v_bin rfl · · · rfl rfl (b_lss rfl)) ?_
 refine sq_nil ?_
 refine ht_cond rfl (fun e24 => ?_) (fun e24 => ?_)
 ·replace h := cpos e24 h
  refine ht_skip ?_
  refine ht_seq ?_
  refine ht_block ?_
  refine ht_seq ?_
  refine ht_region_draw mixed ?_
  refine rT 34 (.d (.dp (eCell t0))) rfl (v_field_dp (a0 := 0) (cs := (eCell t0)) rfl · · · fo26_0 rfl) ?_
  refine rT 35 (.d (.sl 17 (t0.mShards.map eShard))) rfl (v_load_dp1 rfl · · · onT22 rfl rfl) ?_
  refine rM 36 (iV t5) rfl rfl ?_
  obtain ⟨e25, h⟩ := gpos h
  refine rT 37 (.d (.dp (eShard (rd t0.mShards t5)))) rfl (w_idx t0.mShards eShard rfl · · · slT22 rfl rfl e25) ?_
  refine rT 38 (.d (.agg (eShard (rd t0.mShards t5)))) rfl (w_ldp (eShard (rd t0.mShards t5)) (eShard (rd t0.mShards t5)) rfl · · · ag45 rfl (ble _ _ rfl) rfl) ?_
  refine rT 39 (.d (.dp (eCell t1))) rfl (v_field_dp (a0 := 0) (cs := (eCell t1)) rfl · · · fo26_0 rfl) ?_
  refine rT 40 (.d (.sl 17 (t1.mShards.map eShard))) rfl (v_load_dp1 rfl · · · onT22 rfl rfl) ?_
  refine rM 41 (iV t5) rfl rfl ?_
  obtain ⟨e26, h⟩ := gpos h
  refine rT 42 (.d (.dp (eShard (rd t1.mShards t5)))) rfl (w_idx t1.mShards eShard rfl · · · slT22 rfl rfl e26) ?_
  refine rT 43 (.d (.agg (eShard (rd t1.mShards t5)))) rfl (w_ldp (eShard (rd t1.mShards t5)) (eShard (rd t1.mShards t5)) rfl · · · ag45 rfl (ble _ _ rfl) rfl) ?_
  obtain ⟨t44, c27, h⟩ := bpos h
  refine rT 44 (bV t44) rfl (w_call (ds := [(.agg (eShard (rd t0.mShards t5))), (.agg (eShard (rd t1.mShards t5)))]) (caps := []) (l := [(.s (.bool t44))]) (s26 k (rd t0.mShards t5) (rd t1.mShards t5) _ c27) rfl rfl rfl en26 · · · (.inl ⟨rfl, rfl⟩) rfl rfl) ?_
  refine rT 45 (bV (!t44)) rfl (v_un rfl · · · rfl (u_not rfl)) ?_
  refine rg_nil ⟨by kernel_rfl, ?_⟩
  refine ht_cond rfl (fun e28 => ?_) (fun e28 => ?_)
  ·replace h := cpos e28 h
   refine sr ?_
   refine sM 4 (bV false) rfl rfl ?_
   refine sq_nil ?_
   refine ht_ret ?_
   cases h
   cases r20 _ rfl
   exact ret1 rfl (.tmp rfl)
  replace h := cneg e28 h
  refine ht_skip ?_
  refine ht_region ?_
  refine sM 32 (iV t5) rfl rfl ?_
  refine sT 33 (iV (IntKind.wrap .i64 (t5 + 1))) rfl (v_bin rfl · · · rfl rfl (b_add rfl)) ?_
  refine sM 5 (iV (IntKind.wrap .i64 (t5 + 1))) rfl rfl ?_
  refine sq_nil ?_
  exact j22 _ _ h (wk_ren _ (fun i => i) rfl ⟨rfl, rfl, rfl, trivial⟩)
 replace h := cneg e24 h
 refine ht_exit ?_
 refine tq ?_
 refine tq ?_
 refine bq_hit ?_
 cases h
 exact j19 _ _ rfl (wk_ren _ (fun i => i) rfl trivial)
theorem s23 (k : Nat) (t0 : Cell) (t1 : Int) (r : Shard × Bool) (h : F23 k t0 t1 = some r) : Awp.Spec Tryz.prog amb 23 [(.agg (eCell t0)), (.s (.int .i64 t1))] (.ds [(.agg (eShard r.1)), (.s (.bool r.2))]) := by
 rw [F23] at h
 refine spec_of Tryz.func23 rfl (ble _ _ rfl) fun w0 ok0 lt0 hA => ?_
 refine sr ?_
 refine sT 2 (.d (.dp (eCell t0))) rfl (v_box_d (cs := (eCell t0)) rfl · · · rfl rfl (ones_of rfl)) ?_
 refine sq_cons _ (v_alloc (id := 4) (cs := zc45) rfl trivial rfl (ble _ _ rfl) zu45 rfl ft45 rfl) ?_
 refine sM 5 (bV false) rfl rfl ?_
 refine sq_nil ?_
 refine ht_seq ?_
 refine sr ?_
 refine sT 7 (.d (.agg (eCell t0))) rfl (w_ldp (eCell t0) (eCell t0) rfl · · · ag26 rfl (ble _ _ rfl) rfl) ?_
 obtain ⟨t8, c1, h⟩ := bpos h
 refine sT 8 (bV t8) rfl (w_call (ds := [(.agg (eCell t0))]) (caps := []) (l := [(.s (.bool t8))]) (s25 k t0 _ c1) rfl rfl rfl en25 · · · (.inl ⟨rfl, rfl⟩) rfl rfl) ?_
 refine sT 9 (bV (!t8)) rfl (v_un rfl · · · rfl (u_not rfl)) ?_
 refine sM 10 (bV (!t8)) rfl rfl ?_
 refine sF 11 (iV t1) rfl rfl (fun e2 => (v_move (.inl rfl) · · · rfl)) ?_
 refine sF 12 (.d (.sl 1 (([t1]).map (eI .i64)))) rfl rfl (fun e3 => (w_bsl_d [(0, iV t1)] [t1] (eI .i64) rfl · · · slT148 zr3 (encI .i64) (ble _ _ rfl) (cc (pr (gv (nF e3))) rfl) (by kernel_rfl) rfl rfl (by kernel_rfl))) ?_
 obtain ⟨t13, c5, h⟩ := bpos h
 refine sF 13 (bV t13) rfl rfl (fun e4 => (w_call (ds := [(.s (.int .i64 1)), (.sl 1 (([t1]).map (eI .i64)))]) (caps := []) (l := [(.s (.bool t13))]) (s57 k 1 ([t1]) _ (cpos (nF e4) c5)) rfl rfl rfl en57 · · · (.inl ⟨rfl, rfl⟩) (cc rfl (cc (gv (nF e4)) rfl)) rfl)) ?_
 refine sF 14 (bV (!t13)) rfl rfl (fun e6 => (v_un rfl · · · (gv (nF e6)) (u_not rfl))) ?_
 refine sT 15 (bV ((!t8) || (!t13))) rfl (v_pickB rfl · · · rfl (fun e7 => rfl) (fun e8 => (gv (nF e8))) (pO _ _)) ?_
 refine sq_nil ?_
 refine ht_cond rfl (fun e9 => ?_) (fun e9 => ?_)
 ·replace h := cpos e9 h
  refine sr ?_
  refine sT 16 (.d (.agg (eShard (⟨0, 0, (⟨⟨#[]⟩, ⟨#[]⟩⟩ : Span), 0, [], (⟨0, 0, 0⟩ : Stamp), (⟨0, 0, 0⟩ : Stamp), [], 0, 0, 0, 0⟩ : Shard)))) rfl (w_bld zc45 ((eShard (⟨0, 0, (⟨⟨#[]⟩, ⟨#[]⟩⟩ : Span), 0, [], (⟨0, 0, 0⟩ : Stamp), (⟨0, 0, 0⟩ : Stamp), [], 0, 0, 0, 0⟩ : Shard)).map V.d) [] rfl · · · zw45 rfl ft45 rfl rfl rfl rfl) ?_
  refine sq_cons _ (v_store_box (id := 4) (off := 0) (cs := (eShard (⟨0, 0, (⟨⟨#[]⟩, ⟨#[]⟩⟩ : Span), 0, [], (⟨0, 0, 0⟩ : Stamp), (⟨0, 0, 0⟩ : Stamp), [], 0, 0, 0, 0⟩ : Shard)).map V.d) rfl trivial rfl sz45 rfl rfl rfl rfl (ones_of rfl) (ble _ _ rfl)) ?_
  refine sM 5 (bV false) rfl rfl ?_
  refine sq_nil ?_
  refine ht_ret ?_
  cases h
  exact ret2 rfl (.cell rfl rfl ag45 (ble _ _ rfl) rfl) (.tmp rfl)
 replace h := cneg e9 h
 refine ht_skip ?_
 refine sr ?_
 refine sT 17 (.d (.agg (eCell t0))) rfl (w_ldp (eCell t0) (eCell t0) rfl · · · ag26 rfl (ble _ _ rfl) rfl) ?_
 refine sM 18 (iV t1) rfl rfl ?_
 obtain ⟨t19, c10, h⟩ := bpos h
 refine sT 19 (.d (.agg (eShard t19))) rfl (w_call (ds := [(.agg (eCell t0)), (.s (.int .i64 t1))]) (caps := []) (l := [(.agg (eShard t19))]) (s60 k t0 t1 _ c10) rfl rfl rfl en60 · · · (.inl ⟨rfl, rfl⟩) rfl rfl) ?_
 refine sq_cons _ (v_alloc (id := 6) (cs := zc45) rfl trivial rfl (ble _ _ rfl) zu45 rfl ft45 rfl) ?_
 refine sq_cons _ (v_store_box (id := 6) (off := 0) (cs := (eShard t19).map V.d) rfl trivial rfl sz45 rfl rfl rfl rfl (ones_of rfl) (ble _ _ rfl)) ?_
 refine sq_nil ?_
 refine ht_seq ?_
 refine ht_region_draw mixed ?_
 refine rT 20 (.d (.agg (eShard t19))) rfl (w_ldb 6 0 rfl · · · ag45 rfl rfl (ble _ _ rfl) rfl) ?_
 refine rT 21 (.ptr 6 0) rfl (v_field_box (off := 0) (a0 := 0) rfl · · · fo45_0 rfl) ?_
 refine rT 22 (iV t19.mID) rfl (v_load_box1 (id := 6) (off := 0) rfl · · · onT3 rfl rfl (ble _ _ rfl) rfl) ?_
 refine rT 23 (bV (!eqI t19.mID 0)) rfl (v_bin rfl · · · rfl rfl (b_neq rfl)) ?_
 refine rg_cons _ (v_store_box (id := 4) (off := 0) (cs := (eShard t19).map V.d) rfl trivial rfl sz45 rfl rfl rfl rfl (ones_of rfl) (ble _ _ rfl)) ?_
 refine rM 5 (bV (!eqI t19.mID 0)) rfl rfl ?_
 refine rg_nil ⟨by kernel_rfl, ?_⟩
 refine ht_ret ?_
 cases h
 exact ret2 rfl (.cell rfl rfl ag45 (ble _ _ rfl) rfl) (.tmp rfl)
theorem s93 (k : Nat) (t0 : Shard) (t1 : Int) (r : Bool) (h : F93 k t0 t1 = some r) : Awp.Spec Tryz.prog amb 93 [(.agg (eShard t0)), (.s (.int .i64 t1))] (.ds [(.s (.bool r))]) := by
 rw [F93] at h
 refine spec_of Tryz.func93 rfl (ble _ _ rfl) fun w0 ok0 lt0 hA => ?_
 refine sr ?_
 refine sT 2 (.d (.dp (eShard t0))) rfl (v_box_d (cs := (eShard t0)) rfl · · · rfl rfl (ones_of rfl)) ?_
 refine sM 4 (bV false) rfl rfl ?_
 refine sq_nil ?_
 refine sr ?_
 refine sT 5 (.d (.dp (List.drop 4 (eShard t0)))) rfl (v_field_dp (a0 := 4) (cs := (eShard t0)) rfl · · · fo45_3 rfl) ?_
 refine sT 6 (iV t0.mPhase) rfl (v_load_dp1 rfl · · · onT3 rfl rfl) ?_
 refine sT 7 (bV (eqI t0.mPhase 3)) rfl (v_bin rfl · · · rfl rfl (b_eql rfl)) ?_
 refine sM 8 (bV (eqI t0.mPhase 3)) rfl rfl ?_
 refine sG 9 (.d (.dp (List.drop 15 (eShard t0)))) rfl rfl (fun e1 => (v_field_dp (a0 := 15) (cs := (eShard t0)) rfl · · · fo45_10 rfl)) ?_
 refine sG 10 (iV t0.mMove) rfl rfl (fun e2 => (v_load_dp1 rfl · · · onT3 (gv e2) rfl)) ?_
 refine sG 11 (iV t1) rfl rfl (fun e3 => (v_move (.inl rfl) · · · rfl)) ?_
 refine sG 12 (bV (eqI t0.mMove t1)) rfl rfl (fun e4 => (v_bin rfl · · · (gv e4) (gv e4) (b_eql rfl))) ?_
 refine sT 13 (bV ((eqI t0.mPhase 3) && (eqI t0.mMove t1))) rfl (v_pickB rfl · · · rfl (fun e5 => (gv e5)) (fun e6 => rfl) (pA _ _)) ?_
 refine sM 4 (bV ((eqI t0.mPhase 3) && (eqI t0.mMove t1))) rfl rfl ?_
 refine sq_nil ?_
 refine ht_ret ?_
 cases h
 exact ret1 rfl (.tmp rfl)
theorem s94 (k : Nat) (t0 : Shard) (t1 : Int) (r : Bool) (h : F94 k t0 t1 = some r) : Awp.Spec Tryz.prog amb 94 [(.agg (eShard t0)), (.s (.int .i64 t1))] (.ds [(.s (.bool r))]) := by
 rw [F94] at h
 refine spec_of Tryz.func94 rfl (ble _ _ rfl) fun w0 ok0 lt0 hA => ?_
 refine sr ?_
 refine sT 2 (.d (.dp (eShard t0))) rfl (v_box_d (cs := (eShard t0)) rfl · · · rfl rfl (ones_of rfl)) ?_
 refine sM 4 (bV false) rfl rfl ?_
 refine sq_nil ?_
 refine sr ?_
 refine sT 5 (.d (.dp (List.drop 4 (eShard t0)))) rfl (v_field_dp (a0 := 4) (cs := (eShard t0)) rfl · · · fo45_3 rfl) ?_
 refine sT 6 (iV t0.mPhase) rfl (v_load_dp1 rfl · · · onT3 rfl rfl) ?_
 refine sT 7 (bV (eqI t0.mPhase 2)) rfl (v_bin rfl · · · rfl rfl (b_eql rfl)) ?_
 refine sM 8 (bV (eqI t0.mPhase 2)) rfl rfl ?_
 refine sG 9 (.d (.dp (List.drop 15 (eShard t0)))) rfl rfl (fun e1 => (v_field_dp (a0 := 15) (cs := (eShard t0)) rfl · · · fo45_10 rfl)) ?_
 refine sG 10 (iV t0.mMove) rfl rfl (fun e2 => (v_load_dp1 rfl · · · onT3 (gv e2) rfl)) ?_
 refine sG 11 (iV t1) rfl rfl (fun e3 => (v_move (.inl rfl) · · · rfl)) ?_
 refine sG 12 (bV (eqI t0.mMove t1)) rfl rfl (fun e4 => (v_bin rfl · · · (gv e4) (gv e4) (b_eql rfl))) ?_
 refine sT 13 (bV ((eqI t0.mPhase 2) && (eqI t0.mMove t1))) rfl (v_pickB rfl · · · rfl (fun e5 => (gv e5)) (fun e6 => rfl) (pA _ _)) ?_
 refine sM 4 (bV ((eqI t0.mPhase 2) && (eqI t0.mMove t1))) rfl rfl ?_
 refine sq_nil ?_
 refine ht_ret ?_
 cases h
 exact ret1 rfl (.tmp rfl)
theorem s28 (k : Nat) (t0 : Cell) (t1 : Shard) (t2 : Int) (r : Cell × Bool) (h : F28 k t0 t1 t2 = some r) : Awp.Spec Tryz.prog amb 28 [(.agg (eCell t0)), (.agg (eShard t1)), (.s (.int .i64 t2))] (.ds [(.agg (eCell r.1)), (.s (.bool r.2))]) := by
 rw [F28] at h
 refine spec_of Tryz.func28 rfl (ble _ _ rfl) fun w0 ok0 lt0 hA => ?_
 refine sr ?_
 refine sq_cons _ (v_box (id := 3) (cs := (eCell t0).map V.d) rfl trivial rfl (ble _ _ rfl) rfl rfl (ones_of rfl) rfl) ?_
 refine sq_cons _ (v_box (id := 4) (cs := (eShard t1).map V.d) rfl trivial rfl (ble _ _ rfl) rfl rfl (ones_of rfl) rfl) ?_
 refine sq_cons _ (v_alloc (id := 6) (cs := zc26) rfl trivial rfl (ble _ _ rfl) zu26 rfl ft26 rfl) ?_
 refine sM 7 (bV false) rfl rfl ?_
 refine sq_nil ?_
 refine ht_seq ?_
 refine sr ?_
 refine sT 9 (.d (.agg (eCell t0))) rfl (w_ldb 3 0 rfl · · · ag26 rfl rfl (ble _ _ rfl) rfl) ?_
 obtain ⟨t10, c1, h⟩ := bpos h
 refine sT 10 (bV t10) rfl (w_call (ds := [(.agg (eCell t0))]) (caps := []) (l := [(.s (.bool t10))]) (s25 k t0 _ c1) rfl rfl rfl en25 · · · (.inl ⟨rfl, rfl⟩) rfl rfl) ?_
 refine sT 11 (bV (!t10)) rfl (v_un rfl · · · rfl (u_not rfl)) ?_
 refine sM 12 (bV (!t10)) rfl rfl ?_
 refine sF 13 (iV t2) rfl rfl (fun e2 => (v_move (.inl rfl) · · · rfl)) ?_
 refine sF 14 (.d (.sl 1 (([t2]).map (eI .i64)))) rfl rfl (fun e3 => (w_bsl_d [(0, iV t2)] [t2] (eI .i64) rfl · · · slT148 zr3 (encI .i64) (ble _ _ rfl) (cc (pr (gv (nF e3))) rfl) (by kernel_rfl) rfl rfl (by kernel_rfl))) ?_
 obtain ⟨t15, c5, h⟩ := bpos h
 refine sF 15 (bV t15) rfl rfl (fun e4 => (w_call (ds := [(.s (.int .i64 1)), (.sl 1 (([t2]).map (eI .i64)))]) (caps := []) (l := [(.s (.bool t15))]) (s57 k 1 ([t2]) _ (cpos (nF e4) c5)) rfl rfl rfl en57 · · · (.inl ⟨rfl, rfl⟩) (cc rfl (cc (gv (nF e4)) rfl)) rfl)) ?_
 refine sF 16 (bV (!t15)) rfl rfl (fun e6 => (v_un rfl · · · (gv (nF e6)) (u_not rfl))) ?_
 refine sT 17 (bV ((!t10) || (!t15))) rfl (v_pickB rfl · · · rfl (fun e7 => rfl) (fun e8 => (gv (nF e8))) (pO _ _)) ?_
 refine sq_nil ?_
 refine ht_cond rfl (fun e9 => ?_) (fun e9 => ?_)
 ·replace h := cpos e9 h
  refine sr ?_
  refine sT 18 (.d (.agg (eCell t0))) rfl (w_ldb 3 0 rfl · · · ag26 rfl rfl (ble _ _ rfl) rfl) ?_
  refine sq_cons _ (v_store_box (id := 6) (off := 0) (cs := (eCell t0).map V.d) rfl trivial rfl sz26 rfl rfl rfl rfl (ones_of rfl) (ble _ _ rfl)) ?_
  refine sM 7 (bV false) rfl rfl ?_
  refine sq_nil ?_
  refine ht_ret ?_
  cases h
  exact ret2 rfl (.cell rfl rfl ag26 (ble _ _ rfl) rfl) (.tmp rfl)
 replace h := cneg e9 h
 refine ht_skip ?_
 refine sr ?_
 refine sT 19 (.d (.agg (eCell t0))) rfl (w_ldb 3 0 rfl · · · ag26 rfl rfl (ble _ _ rfl) rfl) ?_
 refine sT 20 (.ptr 4 0) rfl (v_field_box (off := 0) (a0 := 0) rfl · · · fo45_0 rfl) ?_
 refine sT 21 (iV t1.mID) rfl (v_load_box1 (id := 4) (off := 0) rfl · · · onT3 rfl rfl (ble _ _ rfl) rfl) ?_
 obtain ⟨t22, c10, h⟩ := bpos h
 refine sT 22 (.d (.agg (eShard t22))) rfl (w_call (ds := [(.agg (eCell t0)), (.s (.int .i64 t1.mID))]) (caps := []) (l := [(.agg (eShard t22))]) (s60 k t0 t1.mID _ c10) rfl rfl rfl en60 · · · (.inl ⟨rfl, rfl⟩) rfl rfl) ?_
 refine sq_cons _ (v_alloc (id := 8) (cs := zc45) rfl trivial rfl (ble _ _ rfl) zu45 rfl ft45 rfl) ?_
 refine sq_cons _ (v_store_box (id := 8) (off := 0) (cs := (eShard t22).map V.d) rfl trivial rfl sz45 rfl rfl rfl rfl (ones_of rfl) (ble _ _ rfl)) ?_
 refine sq_nil ?_
 refine ht_seq ?_
 refine sr ?_
 refine sT 23 (.ptr 8 0) rfl (v_field_box (off := 0) (a0 := 0) rfl · · · fo45_0 rfl) ?_
 refine sT 24 (iV t22.mID) rfl (v_load_box1 (id := 8) (off := 0) rfl · · · onT3 rfl rfl (ble _ _ rfl) rfl) ?_
 refine sT 25 (bV (!eqI t22.mID 0)) rfl (v_bin rfl · · · rfl rfl (b_neq rfl)) ?_
 refine sq_nil ?_
 refine ht_cond rfl (fun e11 => ?_) (fun e11 => ?_)
 ·replace h := cpos e11 h
  refine ht_seq ?_
  refine ht_region_draw mixed ?_
  refine rT 26 (.d (.agg (eCell t0))) rfl (w_ldb 3 0 rfl · · · ag26 rfl rfl (ble _ _ rfl) rfl) ?_
  refine rT 27 (.d (.agg (eShard t22))) rfl (w_ldb 8 0 rfl · · · ag45 rfl rfl (ble _ _ rfl) rfl) ?_
  refine rM 28 (iV t2) rfl rfl ?_
  obtain ⟨t29, c12, h⟩ := bpos h
  refine rT 29 (bV t29) rfl (w_call (ds := [(.agg (eShard t22)), (.s (.int .i64 t2))]) (caps := []) (l := [(.s (.bool t29))]) (s93 k t22 t2 _ c12) rfl rfl rfl en93 · · · (.inl ⟨rfl, rfl⟩) rfl rfl) ?_
  refine rg_cons _ (v_store_box (id := 6) (off := 0) (cs := (eCell t0).map V.d) rfl trivial rfl sz26 rfl rfl rfl rfl (ones_of rfl) (ble _ _ rfl)) ?_
  refine rM 7 (bV t29) rfl rfl ?_
  refine rg_nil ⟨by kernel_rfl, ?_⟩
  refine ht_ret ?_
  cases h
  exact ret2 rfl (.cell rfl rfl ag26 (ble _ _ rfl) rfl) (.tmp rfl)
 replace h := cneg e11 h
 refine ht_skip ?_
 refine ht_seq ?_
 refine sr ?_
 refine sM 30 (iV t2) rfl rfl ?_
 refine sT 31 (.ptr 3 4) rfl (v_field_box (off := 0) (a0 := 4) rfl · · · fo26_2 rfl) ?_
 refine sT 32 (iV t0.mDropped) rfl (v_load_box1 (id := 3) (off := 4) rfl · · · onT3 rfl rfl (ble _ _ rfl) rfl) ?_
 refine sT 33 (bV (leI t2 t0.mDropped)) rfl (v_bin rfl · · · rfl rfl (b_leq rfl)) ?_
 refine sM 34 (bV (leI t2 t0.mDropped)) rfl rfl ?_
 refine sF 35 (.ptr 3 0) rfl rfl (fun e13 => (v_field_box (off := 0) (a0 := 0) rfl · · · fo26_0 rfl)) ?_
 refine sF 36 (.d (.sl 17 (t0.mShards.map eShard))) rfl rfl (fun e14 => (v_load_box1 (id := 3) (off := 0) rfl · · · onT22 (gv (nF e14)) rfl (ble _ _ rfl) rfl)) ?_
 refine sF 37 (iV (t0.mShards.length : Int)) rfl rfl (fun e15 => (w_len t0.mShards eShard rfl rfl · · · slT22 (gv (nF e15)))) ?_
 refine sF 38 (bV (eqI (t0.mShards.length : Int) 8)) rfl rfl (fun e16 => (v_bin rfl · · · (gv (nF e16)) rfl (b_eql rfl))) ?_
 refine sT 39 (bV ((leI t2 t0.mDropped) || (eqI (t0.mShards.length : Int) 8))) rfl (v_pickB rfl · · · rfl (fun e17 => rfl) (fun e18 => (gv (nF e18))) (pO _ _)) ?_
 refine sM 40 (bV ((leI t2 t0.mDropped) || (eqI (t0.mShards.length : Int) 8))) rfl rfl ?_
 refine sF 41 (.d (.agg (eShard t1))) rfl rfl (fun e19 => (w_ldb 4 0 rfl · · · ag45 rfl rfl (ble _ _ rfl) rfl)) ?_
 obtain ⟨t42, c21, h⟩ := bpos h
 refine sF 42 (bV t42) rfl rfl (fun e20 => (w_call (ds := [(.agg (eShard t1))]) (caps := []) (l := [(.s (.bool t42))]) (s20 k t1 _ (cpos (nF e20) c21)) rfl rfl rfl en20 · · · (.inl ⟨rfl, rfl⟩) (cc (gv (nF e20)) rfl) rfl)) ?_
 refine sF 43 (bV (!t42)) rfl rfl (fun e22 => (v_un rfl · · · (gv (nF e22)) (u_not rfl))) ?_
 refine sT 44 (bV (((leI t2 t0.mDropped) || (eqI (t0.mShards.length : Int) 8)) || (!t42))) rfl (v_pickB rfl · · · rfl (fun e23 => rfl) (fun e24 => (gv (nF e24))) (pO _ _)) ?_
 refine sM 45 (bV (((leI t2 t0.mDropped) || (eqI (t0.mShards.length : Int) 8)) || (!t42))) rfl rfl ?_
 refine sF 46 (.d (.agg (eShard t1))) rfl rfl (fun e25 => (w_ldb 4 0 rfl · · · ag45 rfl rfl (ble _ _ rfl) rfl)) ?_
 refine sF 47 (iV t2) rfl rfl (fun e26 => (v_move (.inl rfl) · · · rfl)) ?_
 obtain ⟨t48, c28, h⟩ := bpos h
 refine sF 48 (bV t48) rfl rfl (fun e27 => (w_call (ds := [(.agg (eShard t1)), (.s (.int .i64 t2))]) (caps := []) (l := [(.s (.bool t48))]) (s94 k t1 t2 _ (cpos (nF e27) c28)) rfl rfl rfl en94 · · · (.inl ⟨rfl, rfl⟩) (cc (gv (nF e27)) (cc (gv (nF e27)) rfl)) rfl)) ?_
 refine sF 49 (bV (!t48)) rfl rfl (fun e29 => (v_un rfl · · · (gv (nF e29)) (u_not rfl))) ?_
 refine sT 50 (bV ((((leI t2 t0.mDropped) || (eqI (t0.mShards.length : Int) 8)) || (!t42)) || (!t48))) rfl (v_pickB rfl · · · rfl (fun e30 => rfl) (fun e31 => (gv (nF e31))) (pO _ _)) ?_
 refine sM 51 (bV ((((leI t2 t0.mDropped) || (eqI (t0.mShards.length : Int) 8)) || (!t42)) || (!t48))) rfl rfl ?_
 refine sF 52 (.d (.agg (eShard t1))) rfl rfl (fun e32 => (w_ldb 4 0 rfl · · · ag45 rfl rfl (ble _ _ rfl) rfl)) ?_
 refine sF 53 (.ptr 4 9) rfl rfl (fun e33 => (v_field_box (off := 0) (a0 := 9) rfl · · · fo45_6 rfl)) ?_
 refine sF 54 (.d (.agg (eStamp t1.mTop))) rfl rfl (fun e34 => (w_ldb 4 9 rfl · · · ag24 (gv (nF e34)) rfl (ble _ _ rfl) rfl)) ?_
 obtain ⟨t55, c36, h⟩ := bpos h
 refine sF 55 (bV t55) rfl rfl (fun e35 => (w_call (ds := [(.agg (eShard t1)), (.agg (eStamp t1.mTop))]) (caps := []) (l := [(.s (.bool t55))]) (s90 k t1 t1.mTop _ (cpos (nF e35) c36)) rfl rfl rfl en90 · · · (.inl ⟨rfl, rfl⟩) (cc (gv (nF e35)) (cc (gv (nF e35)) rfl)) rfl)) ?_
 refine sF 56 (bV (!t55)) rfl rfl (fun e37 => (v_un rfl · · · (gv (nF e37)) (u_not rfl))) ?_
 refine sT 57 (bV (((((leI t2 t0.mDropped) || (eqI (t0.mShards.length : Int) 8)) || (!t42)) || (!t48)) || (!t55))) rfl (v_pickB rfl · · · rfl (fun e38 => rfl) (fun e39 => (gv (nF e39))) (pO _ _)) ?_
 refine sq_nil ?_
 refine ht_cond rfl (fun e40 => ?_) (fun e40 => ?_)
 ·replace h := cpos e40 h
  refine sr ?_
  refine sT 58 (.d (.agg (eCell t0))) rfl (w_ldb 3 0 rfl · · · ag26 rfl rfl (ble _ _ rfl) rfl) ?_
  refine sq_cons _ (v_store_box (id := 6) (off := 0) (cs := (eCell t0).map V.d) rfl trivial rfl sz26 rfl rfl rfl rfl (ones_of rfl) (ble _ _ rfl)) ?_
  refine sM 7 (bV false) rfl rfl ?_
  refine sq_nil ?_
  refine ht_ret ?_
  cases h
  exact ret2 rfl (.cell rfl rfl ag26 (ble _ _ rfl) rfl) (.tmp rfl)
 replace h := cneg e40 h
 refine ht_skip ?_
 refine sr ?_
 refine sT 59 (.ptr 4 4) rfl (v_field_box (off := 0) (a0 := 4) rfl · · · fo45_3 rfl) ?_
 refine sq_cons _ (v_store_box (id := 4) (off := 4) (cs := [(.s (.int .i64 3))].map V.d) rfl trivial rfl sz3 rfl rfl rfl rfl (ones_of rfl) (ble _ _ rfl)) ?_
 refine sq_nil ?_
 refine sr ?_
 refine sT 60 (.d (.agg (eCell t0))) rfl (w_ldb 3 0 rfl · · · ag26 rfl rfl (ble _ _ rfl) rfl) ?_
 refine sT 61 (.d (.agg (eShard ({t1 with mPhase := 3})))) rfl (w_ldb 4 0 rfl · · · ag45 rfl rfl (ble _ _ rfl) rfl) ?_
 obtain ⟨t62, c41, h⟩ := bpos h
 refine sT 62 (.d (.agg (eCell t62))) rfl (w_call (ds := [(.agg (eCell t0)), (.agg (eShard ({t1 with mPhase := 3})))]) (caps := []) (l := [(.agg (eCell t62))]) (s95 k t0 ({t1 with mPhase := 3}) _ c41) rfl rfl rfl en95 · · · (.inl ⟨rfl, rfl⟩) rfl rfl) ?_
 refine sq_cons _ (v_store_box (id := 3) (off := 0) (cs := (eCell t62).map V.d) rfl trivial rfl sz26 rfl rfl rfl rfl (ones_of rfl) (ble _ _ rfl)) ?_
 refine sq_nil ?_
 refine sr ?_
 refine sT 63 (.ptr 3 1) rfl (v_field_box (off := 0) (a0 := 1) rfl · · · fo26_1 rfl) ?_
 refine sT 64 (.d (.agg (eStamp t62.mTop))) rfl (w_ldb 3 1 rfl · · · ag24 rfl rfl (ble _ _ rfl) rfl) ?_
 refine sT 65 (.ptr 4 9) rfl (v_field_box (off := 0) (a0 := 9) rfl · · · fo45_6 rfl) ?_
 refine sT 66 (.d (.agg (eStamp t1.mTop))) rfl (w_ldb 4 9 rfl · · · ag24 rfl rfl (ble _ _ rfl) rfl) ?_
 obtain ⟨t67, c42, h⟩ := bpos h
 refine sT 67 (.d (.agg (eStamp t67))) rfl (w_call (ds := [(.agg (eStamp t62.mTop)), (.agg (eStamp t1.mTop))]) (caps := []) (l := [(.agg (eStamp t67))]) (s37 k t62.mTop t1.mTop _ c42) rfl rfl rfl en37 · · · (.inl ⟨rfl, rfl⟩) rfl rfl) ?_
 refine sT 68 (.ptr 3 1) rfl (v_field_box (off := 0) (a0 := 1) rfl · · · fo26_1 rfl) ?_
 refine sq_cons _ (v_store_box (id := 3) (off := 1) (cs := (eStamp t67).map V.d) rfl trivial rfl sz24 rfl rfl rfl rfl (ones_of rfl) (ble _ _ rfl)) ?_
 refine sq_nil ?_
 refine sr ?_
 refine sT 69 (.d (.agg (eCell ({t62 with mTop := t67})))) rfl (w_ldb 3 0 rfl · · · ag26 rfl rfl (ble _ _ rfl) rfl) ?_
 refine sq_cons _ (v_store_box (id := 6) (off := 0) (cs := (eCell ({t62 with mTop := t67})).map V.d) rfl trivial rfl sz26 rfl rfl rfl rfl (ones_of rfl) (ble _ _ rfl)) ?_
 refine sM 7 (bV true) rfl rfl ?_
 refine sq_nil ?_
 refine ht_ret ?_
 cases h
 exact ret2 rfl (.cell rfl rfl ag26 (ble _ _ rfl) rfl) (.tmp rfl)
theorem s39 (k : Nat) (t0 : Cell) (t1 : Int) (t2 : Int) (t3 : Int) (r : Cell × Bool) (h : F39 k t0 t1 t2 t3 = some r) : Awp.Spec Tryz.prog amb 39 [(.agg (eCell t0)), (.s (.int .i64 t1)), (.s (.int .i64 t2)), (.s (.int .i64 t3))] (.ds [(.agg (eCell r.1)), (.s (.bool r.2))]) := by
 rw [F39] at h
 refine spec_of Tryz.func39 rfl (ble _ _ rfl) fun w0 ok0 lt0 hA => ?_
 refine sr ?_
 refine sT 4 (.d (.dp (eCell t0))) rfl (v_box_d (cs := (eCell t0)) rfl · · · rfl rfl (ones_of rfl)) ?_
 refine sq_cons _ (v_alloc (id := 8) (cs := zc26) rfl trivial rfl (ble _ _ rfl) zu26 rfl ft26 rfl) ?_
 refine sM 9 (bV false) rfl rfl ?_
 refine sq_nil ?_
 refine sr ?_
 refine sT 13 (.d (.agg (eCell t0))) rfl (w_ldp (eCell t0) (eCell t0) rfl · · · ag26 rfl (ble _ _ rfl) rfl) ?_
 refine sM 14 (iV t1) rfl rfl ?_
 obtain ⟨⟨t15a, t15b⟩, c1, h⟩ := bpos h
 refine sT 15 (.tup [.d (.agg (eShard t15a)), bV t15b]) rfl (w_call (ds := [(.agg (eCell t0)), (.s (.int .i64 t1))]) (caps := []) (l := [(.agg (eShard t15a)), (.s (.bool t15b))]) (s23 k t0 t1 _ c1) rfl rfl rfl en23 · · · (.inl ⟨rfl, rfl⟩) rfl rfl) ?_
 refine sM 12 (.tup [.d (.agg (eShard t15a)), bV t15b]) rfl rfl ?_
 refine sT 16 (.d (.agg (eShard t15a))) rfl (v_extract rfl · · · rfl rfl) ?_
 refine sT 17 (bV t15b) rfl (v_extract rfl · · · rfl rfl) ?_
 refine sq_cons _ (v_alloc (id := 10) (cs := zc45) rfl trivial rfl (ble _ _ rfl) zu45 rfl ft45 rfl) ?_
 refine sq_cons _ (v_store_box (id := 10) (off := 0) (cs := (eShard t15a).map V.d) rfl trivial rfl sz45 rfl rfl rfl rfl (ones_of rfl) (ble _ _ rfl)) ?_
 refine sM 11 (bV t15b) rfl rfl ?_
 refine sq_nil ?_
 refine ht_seq ?_
 refine sr ?_
 refine sM 18 (bV t15b) rfl rfl ?_
 refine sT 19 (bV (!t15b)) rfl (v_un rfl · · · rfl (u_not rfl)) ?_
 refine sM 20 (bV (!t15b)) rfl rfl ?_
 refine sF 21 (iV t2) rfl rfl (fun e2 => (v_move (.inl rfl) · · · rfl)) ?_
 refine sF 22 (iV t3) rfl rfl (fun e3 => (v_move (.inl rfl) · · · rfl)) ?_
 refine sF 23 (.d (.sl 1 (([t2, t3]).map (eI .i64)))) rfl rfl (fun e4 => (w_bsl_d [(0, iV t2), (1, iV t3)] [t2, t3] (eI .i64) rfl · · · slT148 zr3 (encI .i64) (ble _ _ rfl) (cc (pr (gv (nF e4))) (cc (pr (gv (nF e4))) rfl)) (by kernel_rfl) rfl rfl (by kernel_rfl))) ?_
 obtain ⟨t24, c6, h⟩ := bpos h
 refine sF 24 (bV t24) rfl rfl (fun e5 => (w_call (ds := [(.s (.int .i64 1)), (.sl 1 (([t2, t3]).map (eI .i64)))]) (caps := []) (l := [(.s (.bool t24))]) (s57 k 1 ([t2, t3]) _ (cpos (nF e5) c6)) rfl rfl rfl en57 · · · (.inl ⟨rfl, rfl⟩) (cc rfl (cc (gv (nF e5)) rfl)) rfl)) ?_
 refine sF 25 (bV (!t24)) rfl rfl (fun e7 => (v_un rfl · · · (gv (nF e7)) (u_not rfl))) ?_
 refine sT 26 (bV ((!t15b) || (!t24))) rfl (v_pickB rfl · · · rfl (fun e8 => rfl) (fun e9 => (gv (nF e9))) (pO _ _)) ?_
 refine sq_nil ?_
 refine ht_cond rfl (fun e10 => ?_) (fun e10 => ?_)
 ·replace h := cpos e10 h
  refine sr ?_
  refine sT 27 (.d (.agg (eCell t0))) rfl (w_ldp (eCell t0) (eCell t0) rfl · · · ag26 rfl (ble _ _ rfl) rfl) ?_
  refine sq_cons _ (v_store_box (id := 8) (off := 0) (cs := (eCell t0).map V.d) rfl trivial rfl sz26 rfl rfl rfl rfl (ones_of rfl) (ble _ _ rfl)) ?_
  refine sM 9 (bV false) rfl rfl ?_
  refine sq_nil ?_
  refine ht_ret ?_
  cases h
  exact ret2 rfl (.cell rfl rfl ag26 (ble _ _ rfl) rfl) (.tmp rfl)
 replace h := cneg e10 h
 refine ht_skip ?_
 refine ht_seq ?_
 refine sr ?_
 refine sT 28 (.d (.agg (eShard t15a))) rfl (w_ldb 10 0 rfl · · · ag45 rfl rfl (ble _ _ rfl) rfl) ?_
 refine sM 29 (iV t3) rfl rfl ?_
 obtain ⟨t30, c11, h⟩ := bpos h
 refine sT 30 (bV t30) rfl (w_call (ds := [(.agg (eShard t15a)), (.s (.int .i64 t3))]) (caps := []) (l := [(.s (.bool t30))]) (s94 k t15a t3 _ c11) rfl rfl rfl en94 · · · (.inl ⟨rfl, rfl⟩) rfl rfl) ?_
 refine sq_nil ?_
 refine ht_cond rfl (fun e12 => ?_) (fun e12 => ?_)
 ·replace h := cpos e12 h
  refine sr ?_
  refine sT 31 (.d (.agg (eCell t0))) rfl (w_ldp (eCell t0) (eCell t0) rfl · · · ag26 rfl (ble _ _ rfl) rfl) ?_
  refine sq_cons _ (v_store_box (id := 8) (off := 0) (cs := (eCell t0).map V.d) rfl trivial rfl sz26 rfl rfl rfl rfl (ones_of rfl) (ble _ _ rfl)) ?_
  refine sM 9 (bV true) rfl rfl ?_
  refine sq_nil ?_
  refine ht_ret ?_
  cases h
  exact ret2 rfl (.cell rfl rfl ag26 (ble _ _ rfl) rfl) (.tmp rfl)
 replace h := cneg e12 h
 refine ht_skip ?_
 refine ht_seq ?_
 refine sr ?_
 refine sT 32 (.ptr 10 1) rfl (v_field_box (off := 0) (a0 := 1) rfl · · · fo45_1 rfl) ?_
 refine sT 33 (iV t15a.mEpoch) rfl (v_load_box1 (id := 10) (off := 1) rfl · · · onT3 rfl rfl (ble _ _ rfl) rfl) ?_
 refine sM 34 (iV t2) rfl rfl ?_
 refine sT 35 (bV (!eqI t15a.mEpoch t2)) rfl (v_bin rfl · · · rfl rfl (b_neq rfl)) ?_
 refine sM 36 (bV (!eqI t15a.mEpoch t2)) rfl rfl ?_
 refine sF 37 (.ptr 10 4) rfl rfl (fun e13 => (v_field_box (off := 0) (a0 := 4) rfl · · · fo45_3 rfl)) ?_
 refine sF 38 (iV t15a.mPhase) rfl rfl (fun e14 => (v_load_box1 (id := 10) (off := 4) rfl · · · onT3 (gv (nF e14)) rfl (ble _ _ rfl) rfl)) ?_
 refine sF 39 (bV (!eqI t15a.mPhase 1)) rfl rfl (fun e15 => (v_bin rfl · · · (gv (nF e15)) rfl (b_neq rfl))) ?_
 refine sT 40 (bV ((!eqI t15a.mEpoch t2) || (!eqI t15a.mPhase 1))) rfl (v_pickB rfl · · · rfl (fun e16 => rfl) (fun e17 => (gv (nF e17))) (pO _ _)) ?_
 refine sM 41 (bV ((!eqI t15a.mEpoch t2) || (!eqI t15a.mPhase 1))) rfl rfl ?_
 refine sF 42 (.ptr 10 13) rfl rfl (fun e18 => (v_field_box (off := 0) (a0 := 13) rfl · · · fo45_8 rfl)) ?_
 refine sF 43 (iV t15a.mHold) rfl rfl (fun e19 => (v_load_box1 (id := 10) (off := 13) rfl · · · onT3 (gv (nF e19)) rfl (ble _ _ rfl) rfl)) ?_
 refine sF 44 (bV (!eqI t15a.mHold 0)) rfl rfl (fun e20 => (v_bin rfl · · · (gv (nF e20)) rfl (b_neq rfl))) ?_
 refine sT 45 (bV (((!eqI t15a.mEpoch t2) || (!eqI t15a.mPhase 1)) || (!eqI t15a.mHold 0))) rfl (v_pickB rfl · · · rfl (fun e21 => rfl) (fun e22 => (gv (nF e22))) (pO _ _)) ?_
 refine sM 46 (bV (((!eqI t15a.mEpoch t2) || (!eqI t15a.mPhase 1)) || (!eqI t15a.mHold 0))) rfl rfl ?_
 refine sF 47 (.ptr 10 16) rfl rfl (fun e23 => (v_field_box (off := 0) (a0 := 16) rfl · · · fo45_11 rfl)) ?_
 refine sF 48 (iV t15a.mClosed) rfl rfl (fun e24 => (v_load_box1 (id := 10) (off := 16) rfl · · · onT3 (gv (nF e24)) rfl (ble _ _ rfl) rfl)) ?_
 refine sF 49 (iV t3) rfl rfl (fun e25 => (v_move (.inl rfl) · · · rfl)) ?_
 refine sF 50 (bV (leI t3 t15a.mClosed)) rfl rfl (fun e26 => (v_bin rfl · · · (gv (nF e26)) (gv (nF e26)) (b_geq rfl))) ?_
 refine sT 51 (bV ((((!eqI t15a.mEpoch t2) || (!eqI t15a.mPhase 1)) || (!eqI t15a.mHold 0)) || (leI t3 t15a.mClosed))) rfl (v_pickB rfl · · · rfl (fun e27 => rfl) (fun e28 => (gv (nF e28))) (pO _ _)) ?_
 refine sq_nil ?_
 refine ht_cond rfl (fun e29 => ?_) (fun e29 => ?_)
 ·replace h := cpos e29 h
  refine sr ?_
  refine sT 52 (.d (.agg (eCell t0))) rfl (w_ldp (eCell t0) (eCell t0) rfl · · · ag26 rfl (ble _ _ rfl) rfl) ?_
  refine sq_cons _ (v_store_box (id := 8) (off := 0) (cs := (eCell t0).map V.d) rfl trivial rfl sz26 rfl rfl rfl rfl (ones_of rfl) (ble _ _ rfl)) ?_
  refine sM 9 (bV false) rfl rfl ?_
  refine sq_nil ?_
  refine ht_ret ?_
  cases h
  exact ret2 rfl (.cell rfl rfl ag26 (ble _ _ rfl) rfl) (.tmp rfl)
 replace h := cneg e29 h
 refine ht_skip ?_
 refine ht_seq ?_
 refine ht_region_draw mixed ?_
 refine rM 53 (iV t3) rfl rfl ?_
 refine rT 54 (.d (.dp (List.drop 1 (eCell t0)))) rfl (v_field_dp (a0 := 1) (cs := (eCell t0)) rfl · · · fo26_1 rfl) ?_
 refine rT 55 (.d (.agg (eStamp t0.mTop))) rfl (w_ldp (List.drop 1 (eCell t0)) (eStamp t0.mTop) rfl · · · ag24 rfl (ble _ _ rfl) rfl) ?_
 refine rT 56 (.ptr 10 4) rfl (v_field_box (off := 0) (a0 := 4) rfl · · · fo45_3 rfl) ?_
 refine rg_cons _ (v_store_box (id := 10) (off := 4) (cs := [(.s (.int .i64 2))].map V.d) rfl trivial rfl sz3 rfl rfl rfl rfl (ones_of rfl) (ble _ _ rfl)) ?_
 refine rT 57 (.ptr 10 15) rfl (v_field_box (off := 0) (a0 := 15) rfl · · · fo45_10 rfl) ?_
 refine rg_cons _ (v_store_box (id := 10) (off := 15) (cs := [(.s (.int .i64 t3))].map V.d) rfl trivial rfl sz3 rfl rfl rfl rfl (ones_of rfl) (ble _ _ rfl)) ?_
 refine rT 58 (.ptr 10 9) rfl (v_field_box (off := 0) (a0 := 9) rfl · · · fo45_6 rfl) ?_
 refine rg_cons _ (v_store_box (id := 10) (off := 9) (cs := (eStamp t0.mTop).map V.d) rfl trivial rfl sz24 rfl rfl rfl rfl (ones_of rfl) (ble _ _ rfl)) ?_
 refine rg_nil ⟨by kernel_rfl, ?_⟩
 refine sr ?_
 refine sT 59 (.d (.agg (eCell t0))) rfl (w_ldp (eCell t0) (eCell t0) rfl · · · ag26 rfl (ble _ _ rfl) rfl) ?_
 refine sT 60 (.d (.agg (eShard ({t15a with mPhase := 2, mTop := t0.mTop, mMove := t3})))) rfl (w_ldb 10 0 rfl · · · ag45 rfl rfl (ble _ _ rfl) rfl) ?_
 obtain ⟨t61, c30, h⟩ := bpos h
 refine sT 61 (.d (.agg (eCell t61))) rfl (w_call (ds := [(.agg (eCell t0)), (.agg (eShard ({t15a with mPhase := 2, mTop := t0.mTop, mMove := t3})))]) (caps := []) (l := [(.agg (eCell t61))]) (s95 k t0 ({t15a with mPhase := 2, mTop := t0.mTop, mMove := t3}) _ c30) rfl rfl rfl en95 · · · (.inl ⟨rfl, rfl⟩) rfl rfl) ?_
 refine sq_cons _ (v_store_box (id := 8) (off := 0) (cs := (eCell t61).map V.d) rfl trivial rfl sz26 rfl rfl rfl rfl (ones_of rfl) (ble _ _ rfl)) ?_
 refine sM 9 (bV true) rfl rfl ?_
 refine sq_nil ?_
 refine ht_ret ?_
 cases h
 exact ret2 rfl (.cell rfl rfl ag26 (ble _ _ rfl) rfl) (.tmp rfl)
theorem s43 (k : Nat) (t0 : Cell) (t1 : Int) (t2 : Int) (t3 : Int) (r : Cell × Bool) (h : F43 k t0 t1 t2 t3 = some r) : Awp.Spec Tryz.prog amb 43 [(.agg (eCell t0)), (.s (.int .i64 t1)), (.s (.int .i64 t2)), (.s (.int .i64 t3))] (.ds [(.agg (eCell r.1)), (.s (.bool r.2))]) := by
 rw [F43] at h
 refine spec_of Tryz.func43 rfl (ble _ _ rfl) fun w0 ok0 lt0 hA => ?_
 refine sr ?_
 refine sq_cons _ (v_box (id := 4) (cs := (eCell t0).map V.d) rfl trivial rfl (ble _ _ rfl) rfl rfl (ones_of rfl) rfl) ?_
 refine sq_cons _ (v_alloc (id := 8) (cs := zc26) rfl trivial rfl (ble _ _ rfl) zu26 rfl ft26 rfl) ?_
 refine sM 9 (bV false) rfl rfl ?_
 refine sq_nil ?_
 refine sr ?_
 refine sT 13 (.d (.agg (eCell t0))) rfl (w_ldb 4 0 rfl · · · ag26 rfl rfl (ble _ _ rfl) rfl) ?_
 refine sM 14 (iV t1) rfl rfl ?_
 obtain ⟨⟨t15a, t15b⟩, c1, h⟩ := bpos h
 refine sT 15 (.tup [.d (.agg (eShard t15a)), bV t15b]) rfl (w_call (ds := [(.agg (eCell t0)), (.s (.int .i64 t1))]) (caps := []) (l := [(.agg (eShard t15a)), (.s (.bool t15b))]) (s23 k t0 t1 _ c1) rfl rfl rfl en23 · · · (.inl ⟨rfl, rfl⟩) rfl rfl) ?_
 refine sM 12 (.tup [.d (.agg (eShard t15a)), bV t15b]) rfl rfl ?_
 refine sT 16 (.d (.agg (eShard t15a))) rfl (v_extract rfl · · · rfl rfl) ?_
 refine sT 17 (bV t15b) rfl (v_extract rfl · · · rfl rfl) ?_
 refine sq_cons _ (v_alloc (id := 10) (cs := zc45) rfl trivial rfl (ble _ _ rfl) zu45 rfl ft45 rfl) ?_
 refine sq_cons _ (v_store_box (id := 10) (off := 0) (cs := (eShard t15a).map V.d) rfl trivial rfl sz45 rfl rfl rfl rfl (ones_of rfl) (ble _ _ rfl)) ?_
 refine sM 11 (bV t15b) rfl rfl ?_
 refine sq_nil ?_
 refine ht_seq ?_
 refine sr ?_
 refine sM 18 (bV t15b) rfl rfl ?_
 refine sT 19 (bV (!t15b)) rfl (v_un rfl · · · rfl (u_not rfl)) ?_
 refine sM 20 (bV (!t15b)) rfl rfl ?_
 refine sF 21 (iV t2) rfl rfl (fun e2 => (v_move (.inl rfl) · · · rfl)) ?_
 refine sF 22 (iV t3) rfl rfl (fun e3 => (v_move (.inl rfl) · · · rfl)) ?_
 refine sF 23 (.d (.sl 1 (([t2, t3]).map (eI .i64)))) rfl rfl (fun e4 => (w_bsl_d [(0, iV t2), (1, iV t3)] [t2, t3] (eI .i64) rfl · · · slT148 zr3 (encI .i64) (ble _ _ rfl) (cc (pr (gv (nF e4))) (cc (pr (gv (nF e4))) rfl)) (by kernel_rfl) rfl rfl (by kernel_rfl))) ?_
 obtain ⟨t24, c6, h⟩ := bpos h
 refine sF 24 (bV t24) rfl rfl (fun e5 => (w_call (ds := [(.s (.int .i64 1)), (.sl 1 (([t2, t3]).map (eI .i64)))]) (caps := []) (l := [(.s (.bool t24))]) (s57 k 1 ([t2, t3]) _ (cpos (nF e5) c6)) rfl rfl rfl en57 · · · (.inl ⟨rfl, rfl⟩) (cc rfl (cc (gv (nF e5)) rfl)) rfl)) ?_
 refine sF 25 (bV (!t24)) rfl rfl (fun e7 => (v_un rfl · · · (gv (nF e7)) (u_not rfl))) ?_
 refine sT 26 (bV ((!t15b) || (!t24))) rfl (v_pickB rfl · · · rfl (fun e8 => rfl) (fun e9 => (gv (nF e9))) (pO _ _)) ?_
 refine sq_nil ?_
 refine ht_cond rfl (fun e10 => ?_) (fun e10 => ?_)
 ·replace h := cpos e10 h
  refine sr ?_
  refine sT 27 (.d (.agg (eCell t0))) rfl (w_ldb 4 0 rfl · · · ag26 rfl rfl (ble _ _ rfl) rfl) ?_
  refine sq_cons _ (v_store_box (id := 8) (off := 0) (cs := (eCell t0).map V.d) rfl trivial rfl sz26 rfl rfl rfl rfl (ones_of rfl) (ble _ _ rfl)) ?_
  refine sM 9 (bV false) rfl rfl ?_
  refine sq_nil ?_
  refine ht_ret ?_
  cases h
  exact ret2 rfl (.cell rfl rfl ag26 (ble _ _ rfl) rfl) (.tmp rfl)
 replace h := cneg e10 h
 refine ht_skip ?_
 refine ht_seq ?_
 refine sr ?_
 refine sT 28 (.ptr 10 4) rfl (v_field_box (off := 0) (a0 := 4) rfl · · · fo45_3 rfl) ?_
 refine sT 29 (iV t15a.mPhase) rfl (v_load_box1 (id := 10) (off := 4) rfl · · · onT3 rfl rfl (ble _ _ rfl) rfl) ?_
 refine sT 30 (bV (eqI t15a.mPhase 1)) rfl (v_bin rfl · · · rfl rfl (b_eql rfl)) ?_
 refine sM 31 (bV (eqI t15a.mPhase 1)) rfl rfl ?_
 refine sG 32 (.ptr 10 1) rfl rfl (fun e11 => (v_field_box (off := 0) (a0 := 1) rfl · · · fo45_1 rfl)) ?_
 refine sG 33 (iV t15a.mEpoch) rfl rfl (fun e12 => (v_load_box1 (id := 10) (off := 1) rfl · · · onT3 (gv e12) rfl (ble _ _ rfl) rfl)) ?_
 refine sG 34 (iV t3) rfl rfl (fun e13 => (v_move (.inl rfl) · · · rfl)) ?_
 refine sG 35 (bV (eqI t15a.mEpoch t3)) rfl rfl (fun e14 => (v_bin rfl · · · (gv e14) (gv e14) (b_eql rfl))) ?_
 refine sT 36 (bV ((eqI t15a.mPhase 1) && (eqI t15a.mEpoch t3))) rfl (v_pickB rfl · · · rfl (fun e15 => (gv e15)) (fun e16 => rfl) (pA _ _)) ?_
 refine sM 37 (bV ((eqI t15a.mPhase 1) && (eqI t15a.mEpoch t3))) rfl rfl ?_
 refine sG 38 (.ptr 10 16) rfl rfl (fun e17 => (v_field_box (off := 0) (a0 := 16) rfl · · · fo45_11 rfl)) ?_
 refine sG 39 (iV t15a.mClosed) rfl rfl (fun e18 => (v_load_box1 (id := 10) (off := 16) rfl · · · onT3 (gv e18) rfl (ble _ _ rfl) rfl)) ?_
 refine sG 40 (iV t2) rfl rfl (fun e19 => (v_move (.inl rfl) · · · rfl)) ?_
 refine sG 41 (bV (eqI t15a.mClosed t2)) rfl rfl (fun e20 => (v_bin rfl · · · (gv e20) (gv e20) (b_eql rfl))) ?_
 refine sT 42 (bV (((eqI t15a.mPhase 1) && (eqI t15a.mEpoch t3)) && (eqI t15a.mClosed t2))) rfl (v_pickB rfl · · · rfl (fun e21 => (gv e21)) (fun e22 => rfl) (pA _ _)) ?_
 refine sq_nil ?_
 refine ht_cond rfl (fun e23 => ?_) (fun e23 => ?_)
 ·replace h := cpos e23 h
  refine sr ?_
  refine sT 43 (.d (.agg (eCell t0))) rfl (w_ldb 4 0 rfl · · · ag26 rfl rfl (ble _ _ rfl) rfl) ?_
  refine sq_cons _ (v_store_box (id := 8) (off := 0) (cs := (eCell t0).map V.d) rfl trivial rfl sz26 rfl rfl rfl rfl (ones_of rfl) (ble _ _ rfl)) ?_
  refine sM 9 (bV true) rfl rfl ?_
  refine sq_nil ?_
  refine ht_ret ?_
  cases h
  exact ret2 rfl (.cell rfl rfl ag26 (ble _ _ rfl) rfl) (.tmp rfl)
 replace h := cneg e23 h
 refine ht_skip ?_
 refine ht_seq ?_
 refine sr ?_
 refine sT 44 (.d (.agg (eShard t15a))) rfl (w_ldb 10 0 rfl · · · ag45 rfl rfl (ble _ _ rfl) rfl) ?_
 refine sM 45 (iV t2) rfl rfl ?_
 obtain ⟨t46, c24, h⟩ := bpos h
 refine sT 46 (bV t46) rfl (w_call (ds := [(.agg (eShard t15a)), (.s (.int .i64 t2))]) (caps := []) (l := [(.s (.bool t46))]) (s93 k t15a t2 _ c24) rfl rfl rfl en93 · · · (.inl ⟨rfl, rfl⟩) rfl rfl) ?_
 refine sT 47 (bV (!t46)) rfl (v_un rfl · · · rfl (u_not rfl)) ?_
 refine sM 48 (bV (!t46)) rfl rfl ?_
 refine sF 49 (iV t3) rfl rfl (fun e25 => (v_move (.inl rfl) · · · rfl)) ?_
 refine sF 50 (.ptr 10 1) rfl rfl (fun e26 => (v_field_box (off := 0) (a0 := 1) rfl · · · fo45_1 rfl)) ?_
 refine sF 51 (iV t15a.mEpoch) rfl rfl (fun e27 => (v_load_box1 (id := 10) (off := 1) rfl · · · onT3 (gv (nF e27)) rfl (ble _ _ rfl) rfl)) ?_
 refine sF 52 (bV (leI t3 t15a.mEpoch)) rfl rfl (fun e28 => (v_bin rfl · · · (gv (nF e28)) (gv (nF e28)) (b_leq rfl))) ?_
 refine sT 53 (bV ((!t46) || (leI t3 t15a.mEpoch))) rfl (v_pickB rfl · · · rfl (fun e29 => rfl) (fun e30 => (gv (nF e30))) (pO _ _)) ?_
 refine sq_nil ?_
 refine ht_cond rfl (fun e31 => ?_) (fun e31 => ?_)
 ·replace h := cpos e31 h
  refine sr ?_
  refine sT 54 (.d (.agg (eCell t0))) rfl (w_ldb 4 0 rfl · · · ag26 rfl rfl (ble _ _ rfl) rfl) ?_
  refine sq_cons _ (v_store_box (id := 8) (off := 0) (cs := (eCell t0).map V.d) rfl trivial rfl sz26 rfl rfl rfl rfl (ones_of rfl) (ble _ _ rfl)) ?_
  refine sM 9 (bV false) rfl rfl ?_
  refine sq_nil ?_
  refine ht_ret ?_
  cases h
  exact ret2 rfl (.cell rfl rfl ag26 (ble _ _ rfl) rfl) (.tmp rfl)
 replace h := cneg e31 h
 refine ht_skip ?_
 refine sr ?_
 refine sM 55 (iV t3) rfl rfl ?_
 refine sM 56 (iV t2) rfl rfl ?_
 refine sT 57 (.ptr 10 4) rfl (v_field_box (off := 0) (a0 := 4) rfl · · · fo45_3 rfl) ?_
 refine sq_cons _ (v_store_box (id := 10) (off := 4) (cs := [(.s (.int .i64 1))].map V.d) rfl trivial rfl sz3 rfl rfl rfl rfl (ones_of rfl) (ble _ _ rfl)) ?_
 refine sT 58 (.ptr 10 1) rfl (v_field_box (off := 0) (a0 := 1) rfl · · · fo45_1 rfl) ?_
 refine sq_cons _ (v_store_box (id := 10) (off := 1) (cs := [(.s (.int .i64 t3))].map V.d) rfl trivial rfl sz3 rfl rfl rfl rfl (ones_of rfl) (ble _ _ rfl)) ?_
 refine sT 59 (.ptr 10 16) rfl (v_field_box (off := 0) (a0 := 16) rfl · · · fo45_11 rfl) ?_
 refine sq_cons _ (v_store_box (id := 10) (off := 16) (cs := [(.s (.int .i64 t2))].map V.d) rfl trivial rfl sz3 rfl rfl rfl rfl (ones_of rfl) (ble _ _ rfl)) ?_
 refine sq_nil ?_
 refine sr ?_
 refine sT 60 (.ptr 4 4) rfl (v_field_box (off := 0) (a0 := 4) rfl · · · fo26_2 rfl) ?_
 refine sT 61 (iV t0.mDropped) rfl (v_load_box1 (id := 4) (off := 4) rfl · · · onT3 rfl rfl (ble _ _ rfl) rfl) ?_
 refine sM 62 (iV t2) rfl rfl ?_
 refine sT 63 (iV (maxI t0.mDropped t2)) rfl (v_bi2 rfl rfl · · · rfl rfl (r_max und3 rfl)) ?_
 refine sT 64 (.ptr 4 4) rfl (v_field_box (off := 0) (a0 := 4) rfl · · · fo26_2 rfl) ?_
 refine sq_cons _ (v_store_box (id := 4) (off := 4) (cs := [(.s (.int .i64 (maxI t0.mDropped t2)))].map V.d) rfl trivial rfl sz3 rfl rfl rfl rfl (ones_of rfl) (ble _ _ rfl)) ?_
 refine sq_nil ?_
 refine sr ?_
 refine sT 65 (.d (.agg (eCell ({t0 with mDropped := (maxI t0.mDropped t2)})))) rfl (w_ldb 4 0 rfl · · · ag26 rfl rfl (ble _ _ rfl) rfl) ?_
 refine sT 66 (.d (.agg (eShard ({t15a with mEpoch := t3, mPhase := 1, mClosed := t2})))) rfl (w_ldb 10 0 rfl · · · ag45 rfl rfl (ble _ _ rfl) rfl) ?_
 obtain ⟨t67, c32, h⟩ := bpos h
 refine sT 67 (.d (.agg (eCell t67))) rfl (w_call (ds := [(.agg (eCell ({t0 with mDropped := (maxI t0.mDropped t2)}))), (.agg (eShard ({t15a with mEpoch := t3, mPhase := 1, mClosed := t2})))]) (caps := []) (l := [(.agg (eCell t67))]) (s95 k ({t0 with mDropped := (maxI t0.mDropped t2)}) ({t15a with mEpoch := t3, mPhase := 1, mClosed := t2}) _ c32) rfl rfl rfl en95 · · · (.inl ⟨rfl, rfl⟩) rfl rfl) ?_
 refine sq_cons _ (v_store_box (id := 8) (off := 0) (cs := (eCell t67).map V.d) rfl trivial rfl sz26 rfl rfl rfl rfl (ones_of rfl) (ble _ _ rfl)) ?_
 refine sM 9 (bV true) rfl rfl ?_
 refine sq_nil ?_
 refine ht_ret ?_
 cases h
 exact ret2 rfl (.cell rfl rfl ag26 (ble _ _ rfl) rfl) (.tmp rfl)
theorem s105 (k : Nat) (t0 : Cell) (t1 : Int) (r : Cell) (h : F105 k t0 t1 = some r) : Awp.Spec Tryz.prog amb 105 [(.agg (eCell t0)), (.s (.int .i64 t1))] (.ds [(.agg (eCell r))]) := by
 rw [F105] at h
 refine spec_of Tryz.func105 rfl (ble _ _ rfl) fun w0 ok0 lt0 hA => ?_
 refine sr ?_
 refine sq_cons _ (v_box (id := 2) (cs := (eCell t0).map V.d) rfl trivial rfl (ble _ _ rfl) rfl rfl (ones_of rfl) rfl) ?_
 refine sq_cons _ (v_alloc (id := 4) (cs := zc26) rfl trivial rfl (ble _ _ rfl) zu26 rfl ft26 rfl) ?_
 refine sq_nil ?_
 refine ht_seq ?_
 refine sr ?_
 refine sT 8 (.d (.agg (eCell t0))) rfl (w_ldb 2 0 rfl · · · ag26 rfl rfl (ble _ _ rfl) rfl) ?_
 refine sM 9 (iV t1) rfl rfl ?_
 obtain ⟨⟨t10a, t10b⟩, c1, h⟩ := bpos h
 refine sT 10 (.tup [iV t10a, bV t10b]) rfl (w_call (ds := [(.agg (eCell t0)), (.s (.int .i64 t1))]) (caps := []) (l := [(.s (.int .i64 t10a)), (.s (.bool t10b))]) (s123 k t0 t1 _ c1) rfl rfl rfl en123 · · · (.inl ⟨rfl, rfl⟩) rfl rfl) ?_
 refine sM 7 (.tup [iV t10a, bV t10b]) rfl rfl ?_
 refine sT 11 (iV t10a) rfl (v_extract rfl · · · rfl rfl) ?_
 refine sT 12 (bV t10b) rfl (v_extract rfl · · · rfl rfl) ?_
 refine sM 5 (iV t10a) rfl rfl ?_
 refine sM 6 (bV t10b) rfl rfl ?_
 refine sq_nil ?_
 refine sr ?_
 refine sM 13 (bV t10b) rfl rfl ?_
 refine sq_nil ?_
 refine ht_cond rfl (fun e2 => ?_) (fun e2 => ?_)
 ·replace h := cpos e2 h
  refine ht_region ?_
  refine sT 14 (.ptr 2 0) rfl (v_field_box (off := 0) (a0 := 0) rfl · · · fo26_0 rfl) ?_
  refine sT 15 (.d (.sl 17 (t0.mShards.map eShard))) rfl (v_load_box1 (id := 2) (off := 0) rfl · · · onT22 rfl rfl (ble _ _ rfl) rfl) ?_
  obtain ⟨t16, c3, h⟩ := bpos h
  refine sq_cons ⟨_, [(.b 16, .row false 45 17 (t16.map eShard)), (.t 16, .own 16 17 t16.length)]⟩ (w_call_own (id := 16) (ds := [(.sl 17 (t0.mShards.map eShard))]) (caps := []) eShard (s98o k t0.mShards _ c3) rfl rfl rfl en98 trivial rfl (ble _ _ rfl) (.inl ⟨rfl, rfl⟩) rfl rfl) ?_
  refine sM 17 (iV t10a) rfl rfl ?_
  refine sM 18 (iV t10a) rfl rfl ?_
  refine sT 19 (iV (IntKind.wrap .i64 (t10a + 1))) rfl (v_bin rfl · · · rfl rfl (b_add rfl)) ?_
  obtain ⟨e4, h⟩ := gpos h
  obtain ⟨e5, h⟩ := gpos h
  refine sq_cons ⟨_, [(.b 16, .spent), (.b 20, .row false 45 17 ((List.take t10a.toNat t16 ++ List.drop (t10a.toNat + 1) t16).map eShard)), (.t 20, .own 20 17 (List.take t10a.toNat t16 ++ List.drop (t10a.toNat + 1) t16).length)]⟩ (w_del 20 t16 eShard delS147 rfl rfl rfl en147 trivial rfl (ble _ _ rfl) teShard rfl rfl rfl (iV_of (of_decide_eq_true e5) rfl) rfl e4) ?_
  refine sT 21 (.ptr 2 0) rfl (v_field_box (off := 0) (a0 := 0) rfl · · · fo26_0 rfl) ?_
  refine sq_cons _ (v_store_box (id := 2) (off := 0) (cs := [.own 20 17 (List.take t10a.toNat t16 ++ List.drop (t10a.toNat + 1) t16).length]) rfl trivial rfl sz22 rfl rfl rfl rfl (ones_of rfl) (ble _ _ rfl)) ?_
  refine sq_nil ?_
  refine ht_seq ?_
  refine ht_weak (wk_still_row 20 _ _ _ rfl) ?_
  refine ht_weak (wk_row (.c 2 0) (nc 2 0) 20 _ _ _ _ rfl rfl (lm _ _)) ?_
  refine ht_weak (wk_row (.t 20) (nb 20) 20 _ _ _ _ rfl rfl (lm _ _)) ?_
  refine ht_region ?_
  refine sT 22 (.d (.agg (eCell ({t0 with mShards := (List.take t10a.toNat t16 ++ List.drop (t10a.toNat + 1) t16)})))) rfl (w_ldb 2 0 rfl · · · ag26 rfl rfl (ble _ _ rfl) rfl) ?_
  refine sq_cons _ (v_store_box (id := 4) (off := 0) (cs := (eCell ({t0 with mShards := (List.take t10a.toNat t16 ++ List.drop (t10a.toNat + 1) t16)})).map V.d) rfl trivial rfl sz26 rfl rfl rfl rfl (ones_of rfl) (ble _ _ rfl)) ?_
  refine sq_nil ?_
  refine ht_ret ?_
  cases h
  exact ret1 rfl (.cell rfl rfl ag26 (ble _ _ rfl) rfl)
 replace h := cneg e2 h
 refine ht_skip ?_
 refine sr ?_
 refine sT 22 (.d (.agg (eCell t0))) rfl (w_ldb 2 0 rfl · · · ag26 rfl rfl (ble _ _ rfl) rfl) ?_
 refine sq_cons _ (v_store_box (id := 4) (off := 0) (cs := (eCell t0).map V.d) rfl trivial rfl sz26 rfl rfl rfl rfl (ones_of rfl) (ble _ _ rfl)) ?_
 refine sq_nil ?_
 refine ht_ret ?_
 cases h
 exact ret1 rfl (.cell rfl rfl ag26 (ble _ _ rfl) rfl)
end Go.Proofs.Gd
set_option linter.unusedVariables false
set_option maxRecDepth 100000
set_option maxHeartbeats 4000000
namespace Go.Proofs.Gd
open Go Go.Awp Go.Proofs
theorem s44 (k : Nat) (t0 : Cell) (t1 : Int) (t2 : Int) (r : Cell × Bool) (h : F44 k t0 t1 t2 = some r) : Awp.Spec Tryz.prog amb 44 [(.agg (eCell t0)), (.s (.int .i64 t1)), (.s (.int .i64 t2))] (.ds [(.agg (eCell r.1)), (.s (.bool r.2))]) := by
 rw [F44] at h
 refine spec_of Tryz.func44 rfl (ble _ _ rfl) fun w0 ok0 lt0 hA => ?_
 refine sr ?_
 refine sT 3 (.d (.dp (eCell t0))) rfl (v_box_d (cs := (eCell t0)) rfl · · · rfl rfl (ones_of rfl)) ?_
 refine sq_cons _ (v_alloc (id := 6) (cs := zc26) rfl trivial rfl (ble _ _ rfl) zu26 rfl ft26 rfl) ?_
 refine sM 7 (bV false) rfl rfl ?_
 refine sq_nil ?_
 refine ht_seq ?_
 refine sr ?_
 refine sT 9 (.d (.agg (eCell t0))) rfl (w_ldp (eCell t0) (eCell t0) rfl · · · ag26 rfl (ble _ _ rfl) rfl) ?_
 obtain ⟨t10, c1, h⟩ := bpos h
 refine sT 10 (bV t10) rfl (w_call (ds := [(.agg (eCell t0))]) (caps := []) (l := [(.s (.bool t10))]) (s25 k t0 _ c1) rfl rfl rfl en25 · · · (.inl ⟨rfl, rfl⟩) rfl rfl) ?_
 refine sT 11 (bV (!t10)) rfl (v_un rfl · · · rfl (u_not rfl)) ?_
 refine sM 12 (bV (!t10)) rfl rfl ?_
 refine sF 13 (iV t1) rfl rfl (fun e2 => (v_move (.inl rfl) · · · rfl)) ?_
 refine sF 14 (iV t2) rfl rfl (fun e3 => (v_move (.inl rfl) · · · rfl)) ?_
 refine sF 15 (.d (.sl 1 (([t1, t2]).map (eI .i64)))) rfl rfl (fun e4 => (w_bsl_d [(0, iV t1), (1, iV t2)] [t1, t2] (eI .i64) rfl · · · slT148 zr3 (encI .i64) (ble _ _ rfl) (cc (pr (gv (nF e4))) (cc (pr (gv (nF e4))) rfl)) (by kernel_rfl) rfl rfl (by kernel_rfl))) ?_
 obtain ⟨t16, c6, h⟩ := bpos h
 refine sF 16 (bV t16) rfl rfl (fun e5 => (w_call (ds := [(.s (.int .i64 1)), (.sl 1 (([t1, t2]).map (eI .i64)))]) (caps := []) (l := [(.s (.bool t16))]) (s57 k 1 ([t1, t2]) _ (cpos (nF e5) c6)) rfl rfl rfl en57 · · · (.inl ⟨rfl, rfl⟩) (cc rfl (cc (gv (nF e5)) rfl)) rfl)) ?_
 refine sF 17 (bV (!t16)) rfl rfl (fun e7 => (v_un rfl · · · (gv (nF e7)) (u_not rfl))) ?_
 refine sT 18 (bV ((!t10) || (!t16))) rfl (v_pickB rfl · · · rfl (fun e8 => rfl) (fun e9 => (gv (nF e9))) (pO _ _)) ?_
 refine sq_nil ?_
 refine ht_cond rfl (fun e10 => ?_) (fun e10 => ?_)
 ·replace h := cpos e10 h
  refine sr ?_
  refine sT 19 (.d (.agg (eCell t0))) rfl (w_ldp (eCell t0) (eCell t0) rfl · · · ag26 rfl (ble _ _ rfl) rfl) ?_
  refine sq_cons _ (v_store_box (id := 6) (off := 0) (cs := (eCell t0).map V.d) rfl trivial rfl sz26 rfl rfl rfl rfl (ones_of rfl) (ble _ _ rfl)) ?_
  refine sM 7 (bV false) rfl rfl ?_
  refine sq_nil ?_
  refine ht_ret ?_
  cases h
  exact ret2 rfl (.cell rfl rfl ag26 (ble _ _ rfl) rfl) (.tmp rfl)
 replace h := cneg e10 h
 refine ht_skip ?_
 refine sr ?_
 refine sT 20 (.d (.agg (eCell t0))) rfl (w_ldp (eCell t0) (eCell t0) rfl · · · ag26 rfl (ble _ _ rfl) rfl) ?_
 refine sM 21 (iV t1) rfl rfl ?_
 obtain ⟨t22, c11, h⟩ := bpos h
 refine sT 22 (.d (.agg (eShard t22))) rfl (w_call (ds := [(.agg (eCell t0)), (.s (.int .i64 t1))]) (caps := []) (l := [(.agg (eShard t22))]) (s60 k t0 t1 _ c11) rfl rfl rfl en60 · · · (.inl ⟨rfl, rfl⟩) rfl rfl) ?_
 refine sq_cons _ (v_alloc (id := 8) (cs := zc45) rfl trivial rfl (ble _ _ rfl) zu45 rfl ft45 rfl) ?_
 refine sq_cons _ (v_store_box (id := 8) (off := 0) (cs := (eShard t22).map V.d) rfl trivial rfl sz45 rfl rfl rfl rfl (ones_of rfl) (ble _ _ rfl)) ?_
 refine sq_nil ?_
 refine ht_seq ?_
 refine sr ?_
 refine sT 23 (.ptr 8 0) rfl (v_field_box (off := 0) (a0 := 0) rfl · · · fo45_0 rfl) ?_
 refine sT 24 (iV t22.mID) rfl (v_load_box1 (id := 8) (off := 0) rfl · · · onT3 rfl rfl (ble _ _ rfl) rfl) ?_
 refine sT 25 (bV (eqI t22.mID 0)) rfl (v_bin rfl · · · rfl rfl (b_eql rfl)) ?_
 refine sq_nil ?_
 refine ht_cond rfl (fun e12 => ?_) (fun e12 => ?_)
 ·replace h := cpos e12 h
  refine sr ?_
  refine sT 26 (.d (.agg (eCell t0))) rfl (w_ldp (eCell t0) (eCell t0) rfl · · · ag26 rfl (ble _ _ rfl) rfl) ?_
  refine sq_cons _ (v_store_box (id := 6) (off := 0) (cs := (eCell t0).map V.d) rfl trivial rfl sz26 rfl rfl rfl rfl (ones_of rfl) (ble _ _ rfl)) ?_
  refine sM 7 (bV true) rfl rfl ?_
  refine sq_nil ?_
  refine ht_ret ?_
  cases h
  exact ret2 rfl (.cell rfl rfl ag26 (ble _ _ rfl) rfl) (.tmp rfl)
 replace h := cneg e12 h
 refine ht_skip ?_
 refine ht_seq ?_
 refine sr ?_
 refine sT 27 (.d (.agg (eShard t22))) rfl (w_ldb 8 0 rfl · · · ag45 rfl rfl (ble _ _ rfl) rfl) ?_
 refine sM 28 (iV t2) rfl rfl ?_
 obtain ⟨t29, c13, h⟩ := bpos h
 refine sT 29 (bV t29) rfl (w_call (ds := [(.agg (eShard t22)), (.s (.int .i64 t2))]) (caps := []) (l := [(.s (.bool t29))]) (s94 k t22 t2 _ c13) rfl rfl rfl en94 · · · (.inl ⟨rfl, rfl⟩) rfl rfl) ?_
 refine sT 30 (bV (!t29)) rfl (v_un rfl · · · rfl (u_not rfl)) ?_
 refine sq_nil ?_
 refine ht_cond rfl (fun e14 => ?_) (fun e14 => ?_)
 ·replace h := cpos e14 h
  refine sr ?_
  refine sT 31 (.d (.agg (eCell t0))) rfl (w_ldp (eCell t0) (eCell t0) rfl · · · ag26 rfl (ble _ _ rfl) rfl) ?_
  refine sq_cons _ (v_store_box (id := 6) (off := 0) (cs := (eCell t0).map V.d) rfl trivial rfl sz26 rfl rfl rfl rfl (ones_of rfl) (ble _ _ rfl)) ?_
  refine sM 7 (bV false) rfl rfl ?_
  refine sq_nil ?_
  refine ht_ret ?_
  cases h
  exact ret2 rfl (.cell rfl rfl ag26 (ble _ _ rfl) rfl) (.tmp rfl)
 replace h := cneg e14 h
 refine ht_skip ?_
 refine sr ?_
 refine sT 32 (.d (.agg (eCell t0))) rfl (w_ldp (eCell t0) (eCell t0) rfl · · · ag26 rfl (ble _ _ rfl) rfl) ?_
 refine sM 33 (iV t1) rfl rfl ?_
 obtain ⟨t34, c15, h⟩ := bpos h
 refine sT 34 (.d (.agg (eCell t34))) rfl (w_call (ds := [(.agg (eCell t0)), (.s (.int .i64 t1))]) (caps := []) (l := [(.agg (eCell t34))]) (s105 k t0 t1 _ c15) rfl rfl rfl en105 · · · (.inl ⟨rfl, rfl⟩) rfl rfl) ?_
 refine sq_cons _ (v_store_box (id := 6) (off := 0) (cs := (eCell t34).map V.d) rfl trivial rfl sz26 rfl rfl rfl rfl (ones_of rfl) (ble _ _ rfl)) ?_
 refine sM 7 (bV true) rfl rfl ?_
 refine sq_nil ?_
 refine ht_ret ?_
 cases h
 exact ret2 rfl (.cell rfl rfl ag26 (ble _ _ rfl) rfl) (.tmp rfl)
theorem s8 (k : Nat) (t0 : Cell) (t1 : Cell) (t2 : Int) (t3 : Int) (t4 : Int) (t5 : Int) (r : Bool) (h : F8 k t0 t1 t2 t3 t4 t5 = some r) : Awp.Spec Tryz.prog amb 8 [(.agg (eCell t0)), (.agg (eCell t1)), (.s (.int .i64 t2)), (.s (.int .i64 t3)), (.s (.int .i64 t4)), (.s (.int .i64 t5))] (.ds [(.s (.bool r))]) := by
 rw [F8] at h
 refine spec_of Tryz.func8 rfl (ble _ _ rfl) fun w0 ok0 lt0 hA => ?_
 refine sr ?_
 refine sT 6 (.d (.dp (eCell t0))) rfl (v_box_d (cs := (eCell t0)) rfl · · · rfl rfl (ones_of rfl)) ?_
 refine sT 7 (.d (.dp (eCell t1))) rfl (v_box_d (cs := (eCell t1)) rfl · · · rfl rfl (ones_of rfl)) ?_
 refine sM 12 (bV false) rfl rfl ?_
 refine sq_nil ?_
 refine ht_seq ?_
 refine sr ?_
 refine sT 28 (.d (.agg (eCell t0))) rfl (w_ldp (eCell t0) (eCell t0) rfl · · · ag26 rfl (ble _ _ rfl) rfl) ?_
 obtain ⟨t29, c1, h⟩ := bpos h
 refine sT 29 (bV t29) rfl (w_call (ds := [(.agg (eCell t0))]) (caps := []) (l := [(.s (.bool t29))]) (s14 k t0 _ c1) rfl rfl rfl en14 · · · (.inl ⟨rfl, rfl⟩) rfl rfl) ?_
 refine sT 30 (bV (!t29)) rfl (v_un rfl · · · rfl (u_not rfl)) ?_
 refine sM 31 (bV (!t29)) rfl rfl ?_
 refine sF 32 (.d (.agg (eCell t1))) rfl rfl (fun e2 => (w_ldp (eCell t1) (eCell t1) rfl · · · ag26 rfl (ble _ _ rfl) rfl)) ?_
 obtain ⟨t33, c4, h⟩ := bpos h
 refine sF 33 (bV t33) rfl rfl (fun e3 => (w_call (ds := [(.agg (eCell t1))]) (caps := []) (l := [(.s (.bool t33))]) (s14 k t1 _ (cpos (nF e3) c4)) rfl rfl rfl en14 · · · (.inl ⟨rfl, rfl⟩) (cc (gv (nF e3)) rfl) rfl)) ?_
 refine sF 34 (bV (!t33)) rfl rfl (fun e5 => (v_un rfl · · · (gv (nF e5)) (u_not rfl))) ?_
 refine sT 35 (bV ((!t29) || (!t33))) rfl (v_pickB rfl · · · rfl (fun e6 => rfl) (fun e7 => (gv (nF e7))) (pO _ _)) ?_
 refine sq_nil ?_
 refine ht_cond rfl (fun e8 => ?_) (fun e8 => ?_)
 ·replace h := cpos e8 h
  refine sr ?_
  obtain ⟨t36, c9, h⟩ := bpos h
  refine sT 36 (bV t36) rfl (w_call (ds := []) (caps := []) (l := [(.s (.bool t36))]) (s15 k _ c9) rfl rfl rfl en15 · · · (.inl ⟨rfl, rfl⟩) rfl rfl) ?_
  refine sM 12 (bV t36) rfl rfl ?_
  refine sq_nil ?_
  refine ht_ret ?_
  cases h
  exact ret1 rfl (.tmp rfl)
 replace h := cneg e8 h
 refine ht_skip ?_
 refine sr ?_
 refine sT 38 (.d (.agg (eCell t0))) rfl (w_ldp (eCell t0) (eCell t0) rfl · · · ag26 rfl (ble _ _ rfl) rfl) ?_
 refine sM 39 (iV t2) rfl rfl ?_
 refine sM 40 (iV t3) rfl rfl ?_
 refine sM 41 (iV t4) rfl rfl ?_
 obtain ⟨⟨t42a, t42b⟩, c10, h⟩ := bpos h
 refine sT 42 (.tup [.d (.agg (eCell t42a)), bV t42b]) rfl (w_call (ds := [(.agg (eCell t0)), (.s (.int .i64 t2)), (.s (.int .i64 t3)), (.s (.int .i64 t4))]) (caps := []) (l := [(.agg (eCell t42a)), (.s (.bool t42b))]) (s39 k t0 t2 t3 t4 _ c10) rfl rfl rfl en39 · · · (.inl ⟨rfl, rfl⟩) rfl rfl) ?_
 refine sM 37 (.tup [.d (.agg (eCell t42a)), bV t42b]) rfl rfl ?_
 refine sT 43 (.d (.agg (eCell t42a))) rfl (v_extract rfl · · · rfl rfl) ?_
 refine sT 44 (bV t42b) rfl (v_extract rfl · · · rfl rfl) ?_
 refine sq_cons _ (v_alloc (id := 13) (cs := zc26) rfl trivial rfl (ble _ _ rfl) zu26 rfl ft26 rfl) ?_
 refine sq_cons _ (v_store_box (id := 13) (off := 0) (cs := (eCell t42a).map V.d) rfl trivial rfl sz26 rfl rfl rfl rfl (ones_of rfl) (ble _ _ rfl)) ?_
 refine sM 14 (bV t42b) rfl rfl ?_
 refine sq_nil ?_
 refine sr ?_
 refine sT 46 (.d (.agg (eCell t42a))) rfl (w_ldb 13 0 rfl · · · ag26 rfl rfl (ble _ _ rfl) rfl) ?_
 refine sM 47 (iV t2) rfl rfl ?_
 obtain ⟨⟨t48a, t48b⟩, c11, h⟩ := bpos h
 refine sT 48 (.tup [.d (.agg (eShard t48a)), bV t48b]) rfl (w_call (ds := [(.agg (eCell t42a)), (.s (.int .i64 t2))]) (caps := []) (l := [(.agg (eShard t48a)), (.s (.bool t48b))]) (s23 k t42a t2 _ c11) rfl rfl rfl en23 · · · (.inl ⟨rfl, rfl⟩) rfl rfl) ?_
 refine sM 45 (.tup [.d (.agg (eShard t48a)), bV t48b]) rfl rfl ?_
 refine sT 49 (.d (.agg (eShard t48a))) rfl (v_extract rfl · · · rfl rfl) ?_
 refine sT 50 (bV t48b) rfl (v_extract rfl · · · rfl rfl) ?_
 refine sq_cons _ (v_alloc (id := 15) (cs := zc45) rfl trivial rfl (ble _ _ rfl) zu45 rfl ft45 rfl) ?_
 refine sq_cons _ (v_store_box (id := 15) (off := 0) (cs := (eShard t48a).map V.d) rfl trivial rfl sz45 rfl rfl rfl rfl (ones_of rfl) (ble _ _ rfl)) ?_
 refine sM 16 (bV t48b) rfl rfl ?_
 refine sq_nil ?_
 refine ht_seq ?_
 refine sr ?_
 refine sT 52 (.d (.agg (eCell t1))) rfl (w_ldp (eCell t1) (eCell t1) rfl · · · ag26 rfl (ble _ _ rfl) rfl) ?_
 refine sM 53 (iV t2) rfl rfl ?_
 obtain ⟨⟨t54a, t54b⟩, c12, h⟩ := bpos h
 refine sT 54 (.tup [.d (.agg (eShard t54a)), bV t54b]) rfl (w_call (ds := [(.agg (eCell t1)), (.s (.int .i64 t2))]) (caps := []) (l := [(.agg (eShard t54a)), (.s (.bool t54b))]) (s23 k t1 t2 _ c12) rfl rfl rfl en23 · · · (.inl ⟨rfl, rfl⟩) rfl rfl) ?_
 refine sM 51 (.tup [.d (.agg (eShard t54a)), bV t54b]) rfl rfl ?_
 refine sT 55 (.d (.agg (eShard t54a))) rfl (v_extract rfl · · · rfl rfl) ?_
 refine sT 56 (bV t54b) rfl (v_extract rfl · · · rfl rfl) ?_
 refine sq_cons _ (v_alloc (id := 17) (cs := zc45) rfl trivial rfl (ble _ _ rfl) zu45 rfl ft45 rfl) ?_
 refine sq_cons _ (v_store_box (id := 17) (off := 0) (cs := (eShard t54a).map V.d) rfl trivial rfl sz45 rfl rfl rfl rfl (ones_of rfl) (ble _ _ rfl)) ?_
 refine sM 18 (bV t54b) rfl rfl ?_
 refine sq_nil ?_
 refine sr ?_
 refine sM 57 (bV t42b) rfl rfl ?_
 refine sT 58 (bV (!t42b)) rfl (v_un rfl · · · rfl (u_not rfl)) ?_
 refine sM 59 (bV (!t42b)) rfl rfl ?_
 refine sF 60 (bV t48b) rfl rfl (fun e13 => (v_move (.inl rfl) · · · rfl)) ?_
 refine sF 61 (bV (!t48b)) rfl rfl (fun e14 => (v_un rfl · · · (gv (nF e14)) (u_not rfl))) ?_
 refine sT 62 (bV ((!t42b) || (!t48b))) rfl (v_pickB rfl · · · rfl (fun e15 => rfl) (fun e16 => (gv (nF e16))) (pO _ _)) ?_
 refine sM 63 (bV ((!t42b) || (!t48b))) rfl rfl ?_
 refine sF 64 (bV t54b) rfl rfl (fun e17 => (v_move (.inl rfl) · · · rfl)) ?_
 refine sT 65 (bV (((!t42b) || (!t48b)) || t54b)) rfl (v_pickB rfl · · · rfl (fun e18 => rfl) (fun e19 => (gv (nF e19))) (pO _ _)) ?_
 refine sq_nil ?_
 refine ht_cond rfl (fun e20 => ?_) (fun e20 => ?_)
 ·replace h := cpos e20 h
  refine sr ?_
  obtain ⟨t66, c21, h⟩ := bpos h
  refine sT 66 (bV t66) rfl (w_call (ds := []) (caps := []) (l := [(.s (.bool t66))]) (s15 k _ c21) rfl rfl rfl en15 · · · (.inl ⟨rfl, rfl⟩) rfl rfl) ?_
  refine sM 12 (bV t66) rfl rfl ?_
  refine sq_nil ?_
  refine ht_ret ?_
  cases h
  exact ret1 rfl (.tmp rfl)
 replace h := cneg e20 h
 refine ht_skip ?_
 refine sr ?_
 refine sT 68 (.d (.agg (eCell t1))) rfl (w_ldp (eCell t1) (eCell t1) rfl · · · ag26 rfl (ble _ _ rfl) rfl) ?_
 refine sT 69 (.d (.agg (eShard t48a))) rfl (w_ldb 15 0 rfl · · · ag45 rfl rfl (ble _ _ rfl) rfl) ?_
 refine sM 70 (iV t4) rfl rfl ?_
 obtain ⟨⟨t71a, t71b⟩, c22, h⟩ := bpos h
 refine sT 71 (.tup [.d (.agg (eCell t71a)), bV t71b]) rfl (w_call (ds := [(.agg (eCell t1)), (.agg (eShard t48a)), (.s (.int .i64 t4))]) (caps := []) (l := [(.agg (eCell t71a)), (.s (.bool t71b))]) (s28 k t1 t48a t4 _ c22) rfl rfl rfl en28 · · · (.inl ⟨rfl, rfl⟩) rfl rfl) ?_
 refine sM 67 (.tup [.d (.agg (eCell t71a)), bV t71b]) rfl rfl ?_
 refine sT 72 (.d (.agg (eCell t71a))) rfl (v_extract rfl · · · rfl rfl) ?_
 refine sT 73 (bV t71b) rfl (v_extract rfl · · · rfl rfl) ?_
 refine sq_cons _ (v_alloc (id := 19) (cs := zc26) rfl trivial rfl (ble _ _ rfl) zu26 rfl ft26 rfl) ?_
 refine sq_cons _ (v_store_box (id := 19) (off := 0) (cs := (eCell t71a).map V.d) rfl trivial rfl sz26 rfl rfl rfl rfl (ones_of rfl) (ble _ _ rfl)) ?_
 refine sM 14 (bV t71b) rfl rfl ?_
 refine sq_nil ?_
 refine ht_seq ?_
 refine sr ?_
 refine sM 74 (bV t71b) rfl rfl ?_
 refine sT 75 (bV (!t71b)) rfl (v_un rfl · · · rfl (u_not rfl)) ?_
 refine sq_nil ?_
 refine ht_cond rfl (fun e23 => ?_) (fun e23 => ?_)
 ·replace h := cpos e23 h
  refine sr ?_
  refine sT 76 (.d (.agg (eCell t71a))) rfl (w_ldb 19 0 rfl · · · ag26 rfl rfl (ble _ _ rfl) rfl) ?_
  refine sT 77 (.d (.agg (eCell t1))) rfl (w_ldp (eCell t1) (eCell t1) rfl · · · ag26 rfl (ble _ _ rfl) rfl) ?_
  obtain ⟨t78, c24, h⟩ := bpos h
  refine sT 78 (bV t78) rfl (w_call (ds := [(.agg (eCell t71a)), (.agg (eCell t1))]) (caps := []) (l := [(.s (.bool t78))]) (s18 k t71a t1 _ c24) rfl rfl rfl en18 · · · (.inl ⟨rfl, rfl⟩) rfl rfl) ?_
  refine sM 79 (bV t78) rfl rfl ?_
  obtain ⟨t80, c26, h⟩ := bpos h
  refine sG 80 (bV t80) rfl rfl (fun e25 => (w_call (ds := []) (caps := []) (l := [(.s (.bool t80))]) (s15 k _ (cpos e25 c26)) rfl rfl rfl en15 · · · (.inl ⟨rfl, rfl⟩) rfl rfl)) ?_
  refine sT 81 (bV (t78 && t80)) rfl (v_pickB rfl · · · rfl (fun e27 => (gv e27)) (fun e28 => rfl) (pA _ _)) ?_
  refine sM 12 (bV (t78 && t80)) rfl rfl ?_
  refine sq_nil ?_
  refine ht_ret ?_
  cases h
  exact ret1 rfl (.tmp rfl)
 replace h := cneg e23 h
 refine ht_skip ?_
 refine sr ?_
 refine sT 83 (.d (.agg (eCell t71a))) rfl (w_ldb 19 0 rfl · · · ag26 rfl rfl (ble _ _ rfl) rfl) ?_
 refine sM 84 (iV t2) rfl rfl ?_
 obtain ⟨⟨t85a, t85b⟩, c29, h⟩ := bpos h
 refine sT 85 (.tup [.d (.agg (eShard t85a)), bV t85b]) rfl (w_call (ds := [(.agg (eCell t71a)), (.s (.int .i64 t2))]) (caps := []) (l := [(.agg (eShard t85a)), (.s (.bool t85b))]) (s23 k t71a t2 _ c29) rfl rfl rfl en23 · · · (.inl ⟨rfl, rfl⟩) rfl rfl) ?_
 refine sM 82 (.tup [.d (.agg (eShard t85a)), bV t85b]) rfl rfl ?_
 refine sT 86 (.d (.agg (eShard t85a))) rfl (v_extract rfl · · · rfl rfl) ?_
 refine sT 87 (bV t85b) rfl (v_extract rfl · · · rfl rfl) ?_
 refine sq_cons _ (v_alloc (id := 20) (cs := zc45) rfl trivial rfl (ble _ _ rfl) zu45 rfl ft45 rfl) ?_
 refine sq_cons _ (v_store_box (id := 20) (off := 0) (cs := (eShard t85a).map V.d) rfl trivial rfl sz45 rfl rfl rfl rfl (ones_of rfl) (ble _ _ rfl)) ?_
 refine sM 21 (bV t85b) rfl rfl ?_
 refine sq_nil ?_
 refine ht_seq ?_
 refine sr ?_
 refine sT 88 (.ptr 20 4) rfl (v_field_box (off := 0) (a0 := 4) rfl · · · fo45_3 rfl) ?_
 refine sT 89 (iV t85a.mPhase) rfl (v_load_box1 (id := 20) (off := 4) rfl · · · onT3 rfl rfl (ble _ _ rfl) rfl) ?_
 refine sT 90 (bV (!eqI t85a.mPhase 3)) rfl (v_bin rfl · · · rfl rfl (b_neq rfl)) ?_
 refine sM 91 (bV (!eqI t85a.mPhase 3)) rfl rfl ?_
 refine sF 92 (.ptr 20 5) rfl rfl (fun e30 => (v_field_box (off := 0) (a0 := 5) rfl · · · fo45_4 rfl)) ?_
 refine sF 93 (.d (.sl 2 (t85a.mEntries.map eEntry))) rfl rfl (fun e31 => (v_load_box1 (id := 20) (off := 5) rfl · · · onT42 (gv (nF e31)) rfl (ble _ _ rfl) rfl)) ?_
 refine sF 94 (.ptr 15 5) rfl rfl (fun e32 => (v_field_box (off := 0) (a0 := 5) rfl · · · fo45_4 rfl)) ?_
 refine sF 95 (.d (.sl 2 (t48a.mEntries.map eEntry))) rfl rfl (fun e33 => (v_load_box1 (id := 15) (off := 5) rfl · · · onT42 (gv (nF e33)) rfl (ble _ _ rfl) rfl)) ?_
 obtain ⟨t96, c35, h⟩ := bpos h
 refine sF 96 (bV t96) rfl rfl (fun e34 => (w_call (ds := [(.sl 2 (t85a.mEntries.map eEntry)), (.sl 2 (t48a.mEntries.map eEntry))]) (caps := []) (l := [(.s (.bool t96))]) (s40 k t85a.mEntries t48a.mEntries _ (cpos (nF e34) c35)) rfl rfl rfl en40 · · · (.inl ⟨rfl, rfl⟩) (cc (gv (nF e34)) (cc (gv (nF e34)) rfl)) rfl)) ?_
 refine sF 97 (bV (!t96)) rfl rfl (fun e36 => (v_un rfl · · · (gv (nF e36)) (u_not rfl))) ?_
 refine sT 98 (bV ((!eqI t85a.mPhase 3) || (!t96))) rfl (v_pickB rfl · · · rfl (fun e37 => rfl) (fun e38 => (gv (nF e38))) (pO _ _)) ?_
 refine sM 99 (bV ((!eqI t85a.mPhase 3) || (!t96))) rfl rfl ?_
 refine sF 100 (.ptr 20 12) rfl rfl (fun e39 => (v_field_box (off := 0) (a0 := 12) rfl · · · fo45_7 rfl)) ?_
 refine sF 101 (.d (.sl 11 (t85a.mDone.map eDone))) rfl rfl (fun e40 => (v_load_box1 (id := 20) (off := 12) rfl · · · onT43 (gv (nF e40)) rfl (ble _ _ rfl) rfl)) ?_
 refine sF 102 (.ptr 15 12) rfl rfl (fun e41 => (v_field_box (off := 0) (a0 := 12) rfl · · · fo45_7 rfl)) ?_
 refine sF 103 (.d (.sl 11 (t48a.mDone.map eDone))) rfl rfl (fun e42 => (v_load_box1 (id := 15) (off := 12) rfl · · · onT43 (gv (nF e42)) rfl (ble _ _ rfl) rfl)) ?_
 obtain ⟨t104, c44, h⟩ := bpos h
 refine sF 104 (bV t104) rfl rfl (fun e43 => (w_call (ds := [(.sl 11 (t85a.mDone.map eDone)), (.sl 11 (t48a.mDone.map eDone))]) (caps := []) (l := [(.s (.bool t104))]) (s41 k t85a.mDone t48a.mDone _ (cpos (nF e43) c44)) rfl rfl rfl en41 · · · (.inl ⟨rfl, rfl⟩) (cc (gv (nF e43)) (cc (gv (nF e43)) rfl)) rfl)) ?_
 refine sF 105 (bV (!t104)) rfl rfl (fun e45 => (v_un rfl · · · (gv (nF e45)) (u_not rfl))) ?_
 refine sT 106 (bV (((!eqI t85a.mPhase 3) || (!t96)) || (!t104))) rfl (v_pickB rfl · · · rfl (fun e46 => rfl) (fun e47 => (gv (nF e47))) (pO _ _)) ?_
 refine sM 107 (bV (((!eqI t85a.mPhase 3) || (!t96)) || (!t104))) rfl rfl ?_
 refine sF 108 (.ptr 19 1) rfl rfl (fun e48 => (v_field_box (off := 0) (a0 := 1) rfl · · · fo26_1 rfl)) ?_
 refine sF 109 (.d (.agg (eStamp t71a.mTop))) rfl rfl (fun e49 => (w_ldb 19 1 rfl · · · ag24 (gv (nF e49)) rfl (ble _ _ rfl) rfl)) ?_
 refine sF 110 (.ptr 15 9) rfl rfl (fun e50 => (v_field_box (off := 0) (a0 := 9) rfl · · · fo45_6 rfl)) ?_
 refine sF 111 (.d (.agg (eStamp t48a.mTop))) rfl rfl (fun e51 => (w_ldb 15 9 rfl · · · ag24 (gv (nF e51)) rfl (ble _ _ rfl) rfl)) ?_
 obtain ⟨t112, c53, h⟩ := bpos h
 refine sF 112 (iV t112) rfl rfl (fun e52 => (w_call (ds := [(.agg (eStamp t71a.mTop)), (.agg (eStamp t48a.mTop))]) (caps := []) (l := [(.s (.int .i64 t112))]) (s42 k t71a.mTop t48a.mTop _ (cpos (nF e52) c53)) rfl rfl rfl en42 · · · (.inl ⟨rfl, rfl⟩) (cc (gv (nF e52)) (cc (gv (nF e52)) rfl)) rfl)) ?_
 refine sF 113 (bV (ltI t112 0)) rfl rfl (fun e54 => (v_bin rfl · · · (gv (nF e54)) rfl (b_lss rfl))) ?_
 refine sT 114 (bV ((((!eqI t85a.mPhase 3) || (!t96)) || (!t104)) || (ltI t112 0))) rfl (v_pickB rfl · · · rfl (fun e55 => rfl) (fun e56 => (gv (nF e56))) (pO _ _)) ?_
 refine sM 115 (bV ((((!eqI t85a.mPhase 3) || (!t96)) || (!t104)) || (ltI t112 0))) rfl rfl ?_
 refine sF 116 (.d (.agg (eCell t71a))) rfl rfl (fun e57 => (w_ldb 19 0 rfl · · · ag26 rfl rfl (ble _ _ rfl) rfl)) ?_
 obtain ⟨t117, c59, h⟩ := bpos h
 refine sF 117 (bV t117) rfl rfl (fun e58 => (w_call (ds := [(.agg (eCell t71a))]) (caps := []) (l := [(.s (.bool t117))]) (s25 k t71a _ (cpos (nF e58) c59)) rfl rfl rfl en25 · · · (.inl ⟨rfl, rfl⟩) (cc (gv (nF e58)) rfl) rfl)) ?_
 refine sF 118 (bV (!t117)) rfl rfl (fun e60 => (v_un rfl · · · (gv (nF e60)) (u_not rfl))) ?_
 refine sT 119 (bV (((((!eqI t85a.mPhase 3) || (!t96)) || (!t104)) || (ltI t112 0)) || (!t117))) rfl (v_pickB rfl · · · rfl (fun e61 => rfl) (fun e62 => (gv (nF e62))) (pO _ _)) ?_
 refine sq_nil ?_
 refine ht_cond rfl (fun e63 => ?_) (fun e63 => ?_)
 ·replace h := cpos e63 h
  refine sr ?_
  refine sM 12 (bV false) rfl rfl ?_
  refine sq_nil ?_
  refine ht_ret ?_
  cases h
  exact ret1 rfl (.tmp rfl)
 replace h := cneg e63 h
 refine ht_skip ?_
 refine sr ?_
 refine sT 121 (.d (.agg (eCell t71a))) rfl (w_ldb 19 0 rfl · · · ag26 rfl rfl (ble _ _ rfl) rfl) ?_
 refine sM 122 (iV t2) rfl rfl ?_
 refine sM 123 (iV t4) rfl rfl ?_
 refine sM 124 (iV t5) rfl rfl ?_
 obtain ⟨⟨t125a, t125b⟩, c64, h⟩ := bpos h
 refine sT 125 (.tup [.d (.agg (eCell t125a)), bV t125b]) rfl (w_call (ds := [(.agg (eCell t71a)), (.s (.int .i64 t2)), (.s (.int .i64 t4)), (.s (.int .i64 t5))]) (caps := []) (l := [(.agg (eCell t125a)), (.s (.bool t125b))]) (s43 k t71a t2 t4 t5 _ c64) rfl rfl rfl en43 · · · (.inl ⟨rfl, rfl⟩) rfl rfl) ?_
 refine sM 120 (.tup [.d (.agg (eCell t125a)), bV t125b]) rfl rfl ?_
 refine sT 126 (.d (.agg (eCell t125a))) rfl (v_extract rfl · · · rfl rfl) ?_
 refine sT 127 (bV t125b) rfl (v_extract rfl · · · rfl rfl) ?_
 refine sq_cons _ (v_alloc (id := 22) (cs := zc26) rfl trivial rfl (ble _ _ rfl) zu26 rfl ft26 rfl) ?_
 refine sq_cons _ (v_store_box (id := 22) (off := 0) (cs := (eCell t125a).map V.d) rfl trivial rfl sz26 rfl rfl rfl rfl (ones_of rfl) (ble _ _ rfl)) ?_
 refine sM 14 (bV t125b) rfl rfl ?_
 refine sq_nil ?_
 refine ht_seq ?_
 refine sr ?_
 refine sM 128 (bV t125b) rfl rfl ?_
 refine sT 129 (bV (!t125b)) rfl (v_un rfl · · · rfl (u_not rfl)) ?_
 refine sq_nil ?_
 refine ht_cond rfl (fun e65 => ?_) (fun e65 => ?_)
 ·replace h := cpos e65 h
  refine sr ?_
  obtain ⟨t130, c66, h⟩ := bpos h
  refine sT 130 (bV t130) rfl (w_call (ds := []) (caps := []) (l := [(.s (.bool t130))]) (s15 k _ c66) rfl rfl rfl en15 · · · (.inl ⟨rfl, rfl⟩) rfl rfl) ?_
  refine sM 12 (bV t130) rfl rfl ?_
  refine sq_nil ?_
  refine ht_ret ?_
  cases h
  exact ret1 rfl (.tmp rfl)
 replace h := cneg e65 h
 refine ht_skip ?_
 refine sr ?_
 refine sT 132 (.d (.agg (eCell t42a))) rfl (w_ldb 13 0 rfl · · · ag26 rfl rfl (ble _ _ rfl) rfl) ?_
 refine sM 133 (iV t2) rfl rfl ?_
 refine sM 134 (iV t4) rfl rfl ?_
 obtain ⟨⟨t135a, t135b⟩, c67, h⟩ := bpos h
 refine sT 135 (.tup [.d (.agg (eCell t135a)), bV t135b]) rfl (w_call (ds := [(.agg (eCell t42a)), (.s (.int .i64 t2)), (.s (.int .i64 t4))]) (caps := []) (l := [(.agg (eCell t135a)), (.s (.bool t135b))]) (s44 k t42a t2 t4 _ c67) rfl rfl rfl en44 · · · (.inl ⟨rfl, rfl⟩) rfl rfl) ?_
 refine sM 131 (.tup [.d (.agg (eCell t135a)), bV t135b]) rfl rfl ?_
 refine sT 136 (.d (.agg (eCell t135a))) rfl (v_extract rfl · · · rfl rfl) ?_
 refine sT 137 (bV t135b) rfl (v_extract rfl · · · rfl rfl) ?_
 refine sq_cons _ (v_alloc (id := 23) (cs := zc26) rfl trivial rfl (ble _ _ rfl) zu26 rfl ft26 rfl) ?_
 refine sq_cons _ (v_store_box (id := 23) (off := 0) (cs := (eCell t135a).map V.d) rfl trivial rfl sz26 rfl rfl rfl rfl (ones_of rfl) (ble _ _ rfl)) ?_
 refine sM 14 (bV t135b) rfl rfl ?_
 refine sq_nil ?_
 refine sr ?_
 refine sT 139 (.d (.agg (eCell t135a))) rfl (w_ldb 23 0 rfl · · · ag26 rfl rfl (ble _ _ rfl) rfl) ?_
 refine sM 140 (iV t2) rfl rfl ?_
 obtain ⟨⟨t141a, t141b⟩, c68, h⟩ := bpos h
 refine sT 141 (.tup [.d (.agg (eShard t141a)), bV t141b]) rfl (w_call (ds := [(.agg (eCell t135a)), (.s (.int .i64 t2))]) (caps := []) (l := [(.agg (eShard t141a)), (.s (.bool t141b))]) (s23 k t135a t2 _ c68) rfl rfl rfl en23 · · · (.inl ⟨rfl, rfl⟩) rfl rfl) ?_
 refine sM 138 (.tup [.d (.agg (eShard t141a)), bV t141b]) rfl rfl ?_
 refine sT 142 (.d (.agg (eShard t141a))) rfl (v_extract rfl · · · rfl rfl) ?_
 refine sT 143 (bV t141b) rfl (v_extract rfl · · · rfl rfl) ?_
 refine sq_cons _ (v_alloc (id := 24) (cs := zc45) rfl trivial rfl (ble _ _ rfl) zu45 rfl ft45 rfl) ?_
 refine sq_cons _ (v_store_box (id := 24) (off := 0) (cs := (eShard t141a).map V.d) rfl trivial rfl sz45 rfl rfl rfl rfl (ones_of rfl) (ble _ _ rfl)) ?_
 refine sM 25 (bV t141b) rfl rfl ?_
 refine sq_nil ?_
 refine sr ?_
 refine sT 145 (.d (.agg (eCell t125a))) rfl (w_ldb 22 0 rfl · · · ag26 rfl rfl (ble _ _ rfl) rfl) ?_
 refine sM 146 (iV t2) rfl rfl ?_
 obtain ⟨⟨t147a, t147b⟩, c69, h⟩ := bpos h
 refine sT 147 (.tup [.d (.agg (eShard t147a)), bV t147b]) rfl (w_call (ds := [(.agg (eCell t125a)), (.s (.int .i64 t2))]) (caps := []) (l := [(.agg (eShard t147a)), (.s (.bool t147b))]) (s23 k t125a t2 _ c69) rfl rfl rfl en23 · · · (.inl ⟨rfl, rfl⟩) rfl rfl) ?_
 refine sM 144 (.tup [.d (.agg (eShard t147a)), bV t147b]) rfl rfl ?_
 refine sT 148 (.d (.agg (eShard t147a))) rfl (v_extract rfl · · · rfl rfl) ?_
 refine sT 149 (bV t147b) rfl (v_extract rfl · · · rfl rfl) ?_
 refine sq_cons _ (v_alloc (id := 26) (cs := zc45) rfl trivial rfl (ble _ _ rfl) zu45 rfl ft45 rfl) ?_
 refine sq_cons _ (v_store_box (id := 26) (off := 0) (cs := (eShard t147a).map V.d) rfl trivial rfl sz45 rfl rfl rfl rfl (ones_of rfl) (ble _ _ rfl)) ?_
 refine sM 27 (bV t147b) rfl rfl ?_
 refine sq_nil ?_
 refine sr ?_
 refine sM 150 (bV t135b) rfl rfl ?_
 refine sM 151 (bV t135b) rfl rfl ?_
 refine sG 152 (bV t141b) rfl rfl (fun e70 => (v_move (.inl rfl) · · · rfl)) ?_
 refine sG 153 (bV (!t141b)) rfl rfl (fun e71 => (v_un rfl · · · (gv e71) (u_not rfl))) ?_
 refine sT 154 (bV (t135b && (!t141b))) rfl (v_pickB rfl · · · rfl (fun e72 => (gv e72)) (fun e73 => rfl) (pA _ _)) ?_
 refine sM 155 (bV (t135b && (!t141b))) rfl rfl ?_
 refine sG 156 (.ptr 26 4) rfl rfl (fun e74 => (v_field_box (off := 0) (a0 := 4) rfl · · · fo45_3 rfl)) ?_
 refine sG 157 (iV t147a.mPhase) rfl rfl (fun e75 => (v_load_box1 (id := 26) (off := 4) rfl · · · onT3 (gv e75) rfl (ble _ _ rfl) rfl)) ?_
 refine sG 158 (bV (eqI t147a.mPhase 1)) rfl rfl (fun e76 => (v_bin rfl · · · (gv e76) rfl (b_eql rfl))) ?_
 refine sT 159 (bV ((t135b && (!t141b)) && (eqI t147a.mPhase 1))) rfl (v_pickB rfl · · · rfl (fun e77 => (gv e77)) (fun e78 => rfl) (pA _ _)) ?_
 refine sM 160 (bV ((t135b && (!t141b)) && (eqI t147a.mPhase 1))) rfl rfl ?_
 refine sG 161 (.ptr 26 1) rfl rfl (fun e79 => (v_field_box (off := 0) (a0 := 1) rfl · · · fo45_1 rfl)) ?_
 refine sG 162 (iV t147a.mEpoch) rfl rfl (fun e80 => (v_load_box1 (id := 26) (off := 1) rfl · · · onT3 (gv e80) rfl (ble _ _ rfl) rfl)) ?_
 refine sG 163 (iV t5) rfl rfl (fun e81 => (v_move (.inl rfl) · · · rfl)) ?_
 refine sG 164 (bV (eqI t147a.mEpoch t5)) rfl rfl (fun e82 => (v_bin rfl · · · (gv e82) (gv e82) (b_eql rfl))) ?_
 refine sT 165 (bV (((t135b && (!t141b)) && (eqI t147a.mPhase 1)) && (eqI t147a.mEpoch t5))) rfl (v_pickB rfl · · · rfl (fun e83 => (gv e83)) (fun e84 => rfl) (pA _ _)) ?_
 refine sM 166 (bV (((t135b && (!t141b)) && (eqI t147a.mPhase 1)) && (eqI t147a.mEpoch t5))) rfl rfl ?_
 refine sG 167 (.ptr 26 6) rfl rfl (fun e85 => (v_field_box (off := 0) (a0 := 6) rfl · · · fo45_5 rfl)) ?_
 refine sG 168 (.d (.agg (eStamp t147a.mMark))) rfl rfl (fun e86 => (w_ldb 26 6 rfl · · · ag24 (gv e86) rfl (ble _ _ rfl) rfl)) ?_
 refine sG 169 (.ptr 15 6) rfl rfl (fun e87 => (v_field_box (off := 0) (a0 := 6) rfl · · · fo45_5 rfl)) ?_
 refine sG 170 (.d (.agg (eStamp t48a.mMark))) rfl rfl (fun e88 => (w_ldb 15 6 rfl · · · ag24 (gv e88) rfl (ble _ _ rfl) rfl)) ?_
 refine sG 171 (bV (qStamp t147a.mMark t48a.mMark)) rfl rfl (fun e89 => (v_bin_eql (f := eStamp) rfl · · · (gv e89) (gv e89) rfl rfl eg24 (eq24 _ _))) ?_
 refine sT 172 (bV ((((t135b && (!t141b)) && (eqI t147a.mPhase 1)) && (eqI t147a.mEpoch t5)) && (qStamp t147a.mMark t48a.mMark))) rfl (v_pickB rfl · · · rfl (fun e90 => (gv e90)) (fun e91 => rfl) (pA _ _)) ?_
 refine sM 173 (bV ((((t135b && (!t141b)) && (eqI t147a.mPhase 1)) && (eqI t147a.mEpoch t5)) && (qStamp t147a.mMark t48a.mMark))) rfl rfl ?_
 refine sG 174 (.ptr 26 5) rfl rfl (fun e92 => (v_field_box (off := 0) (a0 := 5) rfl · · · fo45_4 rfl)) ?_
 refine sG 175 (.d (.sl 2 (t147a.mEntries.map eEntry))) rfl rfl (fun e93 => (v_load_box1 (id := 26) (off := 5) rfl · · · onT42 (gv e93) rfl (ble _ _ rfl) rfl)) ?_
 refine sG 176 (.ptr 15 5) rfl rfl (fun e94 => (v_field_box (off := 0) (a0 := 5) rfl · · · fo45_4 rfl)) ?_
 refine sG 177 (.d (.sl 2 (t48a.mEntries.map eEntry))) rfl rfl (fun e95 => (v_load_box1 (id := 15) (off := 5) rfl · · · onT42 (gv e95) rfl (ble _ _ rfl) rfl)) ?_
 obtain ⟨t178, c97, h⟩ := bpos h
 refine sG 178 (bV t178) rfl rfl (fun e96 => (w_call (ds := [(.sl 2 (t147a.mEntries.map eEntry)), (.sl 2 (t48a.mEntries.map eEntry))]) (caps := []) (l := [(.s (.bool t178))]) (s40 k t147a.mEntries t48a.mEntries _ (cpos e96 c97)) rfl rfl rfl en40 · · · (.inl ⟨rfl, rfl⟩) (cc (gv e96) (cc (gv e96) rfl)) rfl)) ?_
 refine sT 179 (bV (((((t135b && (!t141b)) && (eqI t147a.mPhase 1)) && (eqI t147a.mEpoch t5)) && (qStamp t147a.mMark t48a.mMark)) && t178)) rfl (v_pickB rfl · · · rfl (fun e98 => (gv e98)) (fun e99 => rfl) (pA _ _)) ?_
 refine sM 180 (bV (((((t135b && (!t141b)) && (eqI t147a.mPhase 1)) && (eqI t147a.mEpoch t5)) && (qStamp t147a.mMark t48a.mMark)) && t178)) rfl rfl ?_
 obtain ⟨t181, c101, h⟩ := bpos h
 refine sG 181 (bV t181) rfl rfl (fun e100 => (w_call (ds := []) (caps := []) (l := [(.s (.bool t181))]) (s15 k _ (cpos e100 c101)) rfl rfl rfl en15 · · · (.inl ⟨rfl, rfl⟩) rfl rfl)) ?_
 refine sT 182 (bV ((((((t135b && (!t141b)) && (eqI t147a.mPhase 1)) && (eqI t147a.mEpoch t5)) && (qStamp t147a.mMark t48a.mMark)) && t178) && t181)) rfl (v_pickB rfl · · · rfl (fun e102 => (gv e102)) (fun e103 => rfl) (pA _ _)) ?_
 refine sM 12 (bV ((((((t135b && (!t141b)) && (eqI t147a.mPhase 1)) && (eqI t147a.mEpoch t5)) && (qStamp t147a.mMark t48a.mMark)) && t178) && t181)) rfl rfl ?_
 refine sq_nil ?_
 refine ht_ret ?_
 cases h
 exact ret1 rfl (.tmp rfl)
end Go.Proofs.Gd
