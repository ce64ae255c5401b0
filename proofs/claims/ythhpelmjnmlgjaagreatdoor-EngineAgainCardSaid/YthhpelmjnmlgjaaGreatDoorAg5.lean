/- Lemmas behind GdAgP, part 5: they hold as they stand, without a condition beyond their own. -/
import Derived.Test.YthhpelmjnmlgjaaGreatDoorAg4
set_option linter.unusedVariables false
set_option maxRecDepth 100000
set_option maxHeartbeats 4000000
namespace Go.Proofs.Gd
open Go Go.Awp Go.Proofs
theorem s19 (k : Nat) (t0 : Answer) (t1 : Answer) (r : Bool) (h : F19 k t0 t1 = some r) : Awp.Spec Tryz.prog amb 19 [(.agg (eAnswer t0)), (.agg (eAnswer t1))] (.ds [(.s (.bool r))]) := by
 rw [F19] at h
 refine spec_of Tryz.func19 rfl (ble _ _ rfl) fun w0 ok0 lt0 hA => ?_
 refine sr ?_
 refine sT 2 (.d (.dp (eAnswer t0))) rfl (v_box_d (cs := (eAnswer t0)) rfl · · · rfl rfl (ones_of rfl)) ?_
 refine sT 3 (.d (.dp (eAnswer t1))) rfl (v_box_d (cs := (eAnswer t1)) rfl · · · rfl rfl (ones_of rfl)) ?_
 refine sM 4 (bV false) rfl rfl ?_
 refine sq_nil ?_
 refine ht_seq ?_
 refine sr ?_
 refine sT 6 (.d (.dp (List.drop 6 (eAnswer t0)))) rfl (v_field_dp (a0 := 6) (cs := (eAnswer t0)) rfl · · · fo34_4 rfl) ?_
 refine sT 7 (.d (.sl 2 (t0.mItems.map eItem))) rfl (v_load_dp1 rfl · · · onT32 rfl rfl) ?_
 refine sT 8 (iV (t0.mItems.length : Int)) rfl (w_len t0.mItems eItem rfl rfl · · · slT32 rfl) ?_
 refine sT 9 (.d (.dp (List.drop 6 (eAnswer t1)))) rfl (v_field_dp (a0 := 6) (cs := (eAnswer t1)) rfl · · · fo34_4 rfl) ?_
 refine sT 10 (.d (.sl 2 (t1.mItems.map eItem))) rfl (v_load_dp1 rfl · · · onT32 rfl rfl) ?_
 refine sT 11 (iV (t1.mItems.length : Int)) rfl (w_len t1.mItems eItem rfl rfl · · · slT32 rfl) ?_
 refine sT 12 (bV (!eqI (t0.mItems.length : Int) (t1.mItems.length : Int))) rfl (v_bin rfl · · · rfl rfl (b_neq rfl)) ?_
 refine sq_nil ?_
 refine ht_cond rfl (fun e1 => ?_) (fun e1 => ?_)
 ·replace h := cpos e1 h
  refine sr ?_
  refine sM 4 (bV false) rfl rfl ?_
  refine sq_nil ?_
  refine ht_ret ?_
  cases h
  exact ret1 rfl (.tmp rfl)
 replace h := cneg e1 h
 refine ht_skip ?_
 refine ht_gj (go_id' h) (fun _ => tell [(.t 2, .d (.dp (eAnswer t0))), (.t 3, .d (.dp (eAnswer t1)))]) (fun _ h => ?_) (fun v2 K3 h j5 r6 => ?_)
 ·refine sr ?_
  refine sT 31 (.d (.dp (eAnswer t0))) rfl (v_field_dp (a0 := 0) (cs := (eAnswer t0)) rfl · · · fo34_0 rfl) ?_
  refine sT 32 (iV t0.mErr) rfl (v_load_dp1 rfl · · · onT31 rfl rfl) ?_
  refine sT 33 (.d (.dp (eAnswer t1))) rfl (v_field_dp (a0 := 0) (cs := (eAnswer t1)) rfl · · · fo34_0 rfl) ?_
  refine sT 34 (iV t1.mErr) rfl (v_load_dp1 rfl · · · onT31 rfl rfl) ?_
  refine sT 35 (bV (eqI t0.mErr t1.mErr)) rfl (v_bin rfl · · · rfl rfl (b_eql rfl)) ?_
  refine sM 36 (bV (eqI t0.mErr t1.mErr)) rfl rfl ?_
  refine sG 37 (.d (.dp (List.drop 1 (eAnswer t0)))) rfl rfl (fun e15 => (v_field_dp (a0 := 1) (cs := (eAnswer t0)) rfl · · · fo34_1 rfl)) ?_
  refine sG 38 (.d (.agg (eStamp t0.mAt))) rfl rfl (fun e16 => (w_ldp (List.drop 1 (eAnswer t0)) (eStamp t0.mAt) rfl · · · ag24 (gv e16) (ble _ _ rfl) rfl)) ?_
  refine sG 39 (.d (.dp (List.drop 1 (eAnswer t1)))) rfl rfl (fun e17 => (v_field_dp (a0 := 1) (cs := (eAnswer t1)) rfl · · · fo34_1 rfl)) ?_
  refine sG 40 (.d (.agg (eStamp t1.mAt))) rfl rfl (fun e18 => (w_ldp (List.drop 1 (eAnswer t1)) (eStamp t1.mAt) rfl · · · ag24 (gv e18) (ble _ _ rfl) rfl)) ?_
  refine sG 41 (bV (qStamp t0.mAt t1.mAt)) rfl rfl (fun e19 => (v_bin_eql (f := eStamp) rfl · · · (gv e19) (gv e19) rfl rfl eg24 (eq24 _ _))) ?_
  refine sT 42 (bV ((eqI t0.mErr t1.mErr) && (qStamp t0.mAt t1.mAt))) rfl (v_pickB rfl · · · rfl (fun e20 => (gv e20)) (fun e21 => rfl) (pA _ _)) ?_
  refine sM 43 (bV ((eqI t0.mErr t1.mErr) && (qStamp t0.mAt t1.mAt))) rfl rfl ?_
  refine sG 44 (.d (.dp (List.drop 4 (eAnswer t0)))) rfl rfl (fun e22 => (v_field_dp (a0 := 4) (cs := (eAnswer t0)) rfl · · · fo34_2 rfl)) ?_
  refine sG 45 (bV t0.mFound) rfl rfl (fun e23 => (v_load_dp1 rfl · · · onT4 (gv e23) rfl)) ?_
  refine sG 46 (.d (.dp (List.drop 4 (eAnswer t1)))) rfl rfl (fun e24 => (v_field_dp (a0 := 4) (cs := (eAnswer t1)) rfl · · · fo34_2 rfl)) ?_
  refine sG 47 (bV t1.mFound) rfl rfl (fun e25 => (v_load_dp1 rfl · · · onT4 (gv e25) rfl)) ?_
  refine sG 48 (bV (t0.mFound == t1.mFound)) rfl rfl (fun e26 => (v_bin rfl · · · (gv e26) (gv e26) (b_eqB und4 rfl))) ?_
  refine sT 49 (bV (((eqI t0.mErr t1.mErr) && (qStamp t0.mAt t1.mAt)) && (t0.mFound == t1.mFound))) rfl (v_pickB rfl · · · rfl (fun e27 => (gv e27)) (fun e28 => rfl) (pA _ _)) ?_
  refine sM 50 (bV (((eqI t0.mErr t1.mErr) && (qStamp t0.mAt t1.mAt)) && (t0.mFound == t1.mFound))) rfl rfl ?_
  refine sG 51 (.d (.dp (List.drop 5 (eAnswer t0)))) rfl rfl (fun e29 => (v_field_dp (a0 := 5) (cs := (eAnswer t0)) rfl · · · fo34_3 rfl)) ?_
  refine sG 52 (sV t0.mValue) rfl rfl (fun e30 => (v_load_dp1 rfl · · · onT9 (gv e30) rfl)) ?_
  refine sG 53 (.d (.dp (List.drop 5 (eAnswer t1)))) rfl rfl (fun e31 => (v_field_dp (a0 := 5) (cs := (eAnswer t1)) rfl · · · fo34_3 rfl)) ?_
  refine sG 54 (sV t1.mValue) rfl rfl (fun e32 => (v_load_dp1 rfl · · · onT9 (gv e32) rfl)) ?_
  refine sG 55 (bV (strEq t0.mValue t1.mValue)) rfl rfl (fun e33 => (v_bin rfl · · · (gv e33) (gv e33) (b_eqS rfl))) ?_
  refine sT 56 (bV ((((eqI t0.mErr t1.mErr) && (qStamp t0.mAt t1.mAt)) && (t0.mFound == t1.mFound)) && (strEq t0.mValue t1.mValue))) rfl (v_pickB rfl · · · rfl (fun e34 => (gv e34)) (fun e35 => rfl) (pA _ _)) ?_
  refine sM 57 (bV ((((eqI t0.mErr t1.mErr) && (qStamp t0.mAt t1.mAt)) && (t0.mFound == t1.mFound)) && (strEq t0.mValue t1.mValue))) rfl rfl ?_
  refine sG 58 (.d (.dp (List.drop 7 (eAnswer t0)))) rfl rfl (fun e36 => (v_field_dp (a0 := 7) (cs := (eAnswer t0)) rfl · · · fo34_5 rfl)) ?_
  refine sG 59 (sV t0.mNext) rfl rfl (fun e37 => (v_load_dp1 rfl · · · onT9 (gv e37) rfl)) ?_
  refine sG 60 (.d (.dp (List.drop 7 (eAnswer t1)))) rfl rfl (fun e38 => (v_field_dp (a0 := 7) (cs := (eAnswer t1)) rfl · · · fo34_5 rfl)) ?_
  refine sG 61 (sV t1.mNext) rfl rfl (fun e39 => (v_load_dp1 rfl · · · onT9 (gv e39) rfl)) ?_
  refine sG 62 (bV (strEq t0.mNext t1.mNext)) rfl rfl (fun e40 => (v_bin rfl · · · (gv e40) (gv e40) (b_eqS rfl))) ?_
  refine sT 63 (bV (((((eqI t0.mErr t1.mErr) && (qStamp t0.mAt t1.mAt)) && (t0.mFound == t1.mFound)) && (strEq t0.mValue t1.mValue)) && (strEq t0.mNext t1.mNext))) rfl (v_pickB rfl · · · rfl (fun e41 => (gv e41)) (fun e42 => rfl) (pA _ _)) ?_
  refine sM 64 (bV (((((eqI t0.mErr t1.mErr) && (qStamp t0.mAt t1.mAt)) && (t0.mFound == t1.mFound)) && (strEq t0.mValue t1.mValue)) && (strEq t0.mNext t1.mNext))) rfl rfl ?_
  refine sG 65 (.d (.dp (List.drop 8 (eAnswer t0)))) rfl rfl (fun e43 => (v_field_dp (a0 := 8) (cs := (eAnswer t0)) rfl · · · fo34_6 rfl)) ?_
  refine sG 66 (bV t0.mMore) rfl rfl (fun e44 => (v_load_dp1 rfl · · · onT4 (gv e44) rfl)) ?_
  refine sG 67 (.d (.dp (List.drop 8 (eAnswer t1)))) rfl rfl (fun e45 => (v_field_dp (a0 := 8) (cs := (eAnswer t1)) rfl · · · fo34_6 rfl)) ?_
  refine sG 68 (bV t1.mMore) rfl rfl (fun e46 => (v_load_dp1 rfl · · · onT4 (gv e46) rfl)) ?_
  refine sG 69 (bV (t0.mMore == t1.mMore)) rfl rfl (fun e47 => (v_bin rfl · · · (gv e47) (gv e47) (b_eqB und4 rfl))) ?_
  refine sT 70 (bV ((((((eqI t0.mErr t1.mErr) && (qStamp t0.mAt t1.mAt)) && (t0.mFound == t1.mFound)) && (strEq t0.mValue t1.mValue)) && (strEq t0.mNext t1.mNext)) && (t0.mMore == t1.mMore))) rfl (v_pickB rfl · · · rfl (fun e48 => (gv e48)) (fun e49 => rfl) (pA _ _)) ?_
  refine sM 4 (bV ((((((eqI t0.mErr t1.mErr) && (qStamp t0.mAt t1.mAt)) && (t0.mFound == t1.mFound)) && (strEq t0.mValue t1.mValue)) && (strEq t0.mNext t1.mNext)) && (t0.mMore == t1.mMore))) rfl rfl ?_
  refine sq_nil ?_
  refine ht_ret ?_
  cases h
  exact ret1 rfl (.tmp rfl)
 refine sr ?_
 refine sM 5 (iV 0) rfl rfl ?_
 refine sq_nil ?_
 refine ht_block ?_
 refine ht_rd h (fun _ => rfl) (fun t5 => tell [(.t 2, .d (.dp (eAnswer t0))), (.t 3, .d (.dp (eAnswer t1))), (.t 5, iV t5)]) (wk_ren _ (fun i => i) rfl ⟨rfl, rfl, rfl, trivial⟩) fun k t5 h K14 j8 => ?_
 rw [F19_l1] at h
 refine ht_seq ?_
 refine sr ?_
 refine sM 13 (iV t5) rfl rfl ?_
 refine sT 14 (.d (.dp (List.drop 6 (eAnswer t0)))) rfl (v_field_dp (a0 := 6) (cs := (eAnswer t0)) rfl · · · fo34_4 rfl) ?_
 refine sT 15 (.d (.sl 2 (t0.mItems.map eItem))) rfl (v_load_dp1 rfl · · · onT32 rfl rfl) ?_
 refine sT 16 (iV (t0.mItems.length : Int)) rfl (w_len t0.mItems eItem rfl rfl · · · slT32 rfl) ?_
 refine sT 17 (bV (ltI t5 (t0.mItems.length : Int))) rfl (v_bin rfl · · · rfl rfl (b_lss rfl)) ?_
 refine sq_nil ?_
 refine ht_cond rfl (fun e10 => ?_) (fun e10 => ?_)
 ·replace h := cpos e10 h
  refine ht_skip ?_
  refine ht_seq ?_
  refine ht_block ?_
  refine ht_seq ?_
  refine ht_region_draw mixed ?_
  refine rT 20 (.d (.dp (List.drop 6 (eAnswer t0)))) rfl (v_field_dp (a0 := 6) (cs := (eAnswer t0)) rfl · · · fo34_4 rfl) ?_
  refine rT 21 (.d (.sl 2 (t0.mItems.map eItem))) rfl (v_load_dp1 rfl · · · onT32 rfl rfl) ?_
  refine rM 22 (iV t5) rfl rfl ?_
  obtain ⟨e11, h⟩ := gpos h
  refine rT 23 (.d (.dp (eItem (rd t0.mItems t5)))) rfl (w_idx t0.mItems eItem rfl · · · slT32 rfl rfl e11) ?_
  refine rT 24 (.d (.agg (eItem (rd t0.mItems t5)))) rfl (w_ldp (eItem (rd t0.mItems t5)) (eItem (rd t0.mItems t5)) rfl · · · ag110 rfl (ble _ _ rfl) rfl) ?_
  refine rT 25 (.d (.dp (List.drop 6 (eAnswer t1)))) rfl (v_field_dp (a0 := 6) (cs := (eAnswer t1)) rfl · · · fo34_4 rfl) ?_
  refine rT 26 (.d (.sl 2 (t1.mItems.map eItem))) rfl (v_load_dp1 rfl · · · onT32 rfl rfl) ?_
  refine rM 27 (iV t5) rfl rfl ?_
  obtain ⟨e12, h⟩ := gpos h
  refine rT 28 (.d (.dp (eItem (rd t1.mItems t5)))) rfl (w_idx t1.mItems eItem rfl · · · slT32 rfl rfl e12) ?_
  refine rT 29 (.d (.agg (eItem (rd t1.mItems t5)))) rfl (w_ldp (eItem (rd t1.mItems t5)) (eItem (rd t1.mItems t5)) rfl · · · ag110 rfl (ble _ _ rfl) rfl) ?_
  refine rT 30 (bV (!(qItem (rd t0.mItems t5) (rd t1.mItems t5)))) rfl (v_bin_neq (f := eItem) rfl · · · rfl rfl rfl rfl eg110 (eq110 _ _)) ?_
  refine rg_nil ⟨by kernel_rfl, ?_⟩
  refine ht_cond rfl (fun e13 => ?_) (fun e13 => ?_)
  ·replace h := cpos e13 h
   refine sr ?_
   refine sM 4 (bV false) rfl rfl ?_
   refine sq_nil ?_
   refine ht_ret ?_
   cases h
   cases r6 _ rfl
   exact ret1 rfl (.tmp rfl)
  replace h := cneg e13 h
  refine ht_skip ?_
  refine ht_region ?_
  refine sM 18 (iV t5) rfl rfl ?_
  refine sT 19 (iV (IntKind.wrap .i64 (t5 + 1))) rfl (v_bin rfl · · · rfl rfl (b_add rfl)) ?_
  refine sM 5 (iV (IntKind.wrap .i64 (t5 + 1))) rfl rfl ?_
  refine sq_nil ?_
  exact j8 _ _ h (wk_ren _ (fun i => i) rfl ⟨rfl, rfl, rfl, trivial⟩)
 replace h := cneg e10 h
 refine ht_exit ?_
 refine tq ?_
 refine tq ?_
 refine bq_hit ?_
 cases h
 exact j5 _ _ rfl (wk_ren _ (fun i => i) rfl ⟨rfl, rfl, trivial⟩)
theorem s41 (k : Nat) (t0 : List Done) (t1 : List Done) (r : Bool) (h : F41 k t0 t1 = some r) : Awp.Spec Tryz.prog amb 41 [(.sl 11 (t0.map eDone)), (.sl 11 (t1.map eDone))] (.ds [(.s (.bool r))]) := by
 rw [F41] at h
 refine spec_of Tryz.func41 rfl (ble _ _ rfl) fun w0 ok0 lt0 hA => ?_
 refine sr ?_
 refine sM 4 (bV false) rfl rfl ?_
 refine sq_nil ?_
 refine ht_seq ?_
 refine sr ?_
 refine sM 6 (.d (.sl 11 (t0.map eDone))) rfl rfl ?_
 refine sT 7 (iV (t0.length : Int)) rfl (w_len t0 eDone rfl rfl · · · slT43 rfl) ?_
 refine sM 8 (.d (.sl 11 (t1.map eDone))) rfl rfl ?_
 refine sT 9 (iV (t1.length : Int)) rfl (w_len t1 eDone rfl rfl · · · slT43 rfl) ?_
 refine sT 10 (bV (!eqI (t0.length : Int) (t1.length : Int))) rfl (v_bin rfl · · · rfl rfl (b_neq rfl)) ?_
 refine sq_nil ?_
 refine ht_cond rfl (fun e1 => ?_) (fun e1 => ?_)
 ·replace h := cpos e1 h
  refine sr ?_
  refine sM 4 (bV false) rfl rfl ?_
  refine sq_nil ?_
  refine ht_ret ?_
  cases h
  exact ret1 rfl (.tmp rfl)
 replace h := cneg e1 h
 refine ht_skip ?_
 refine ht_gj (go_id' h) (fun _ => tell []) (fun _ h => ?_) (fun v2 K3 h j5 r6 => ?_)
 ·refine sr ?_
  refine sM 4 (bV true) rfl rfl ?_
  refine sq_nil ?_
  refine ht_ret ?_
  cases h
  exact ret1 rfl (.tmp rfl)
 refine sr ?_
 refine sM 5 (iV 0) rfl rfl ?_
 refine sq_nil ?_
 refine ht_block ?_
 refine ht_rd h (fun _ => rfl) (fun t5 => tell [(.t 0, .d (.sl 11 (t0.map eDone))), (.t 1, .d (.sl 11 (t1.map eDone))), (.t 5, iV t5)]) (wk_ren _ (fun i => i) rfl ⟨rfl, rfl, rfl, trivial⟩) fun k t5 h K46 j8 => ?_
 rw [F41_l1] at h
 refine ht_seq ?_
 refine sr ?_
 refine sM 11 (iV t5) rfl rfl ?_
 refine sM 12 (.d (.sl 11 (t0.map eDone))) rfl rfl ?_
 refine sT 13 (iV (t0.length : Int)) rfl (w_len t0 eDone rfl rfl · · · slT43 rfl) ?_
 refine sT 14 (bV (ltI t5 (t0.length : Int))) rfl (v_bin rfl · · · rfl rfl (b_lss rfl)) ?_
 refine sq_nil ?_
 refine ht_cond rfl (fun e10 => ?_) (fun e10 => ?_)
 ·replace h := cpos e10 h
  refine ht_skip ?_
  refine ht_seq ?_
  refine ht_block ?_
  refine ht_seq ?_
  refine ht_region_draw mixed ?_
  refine rM 17 (.d (.sl 11 (t0.map eDone))) rfl rfl ?_
  refine rM 18 (iV t5) rfl rfl ?_
  obtain ⟨e11, h⟩ := gpos h
  refine rT 19 (.d (.dp (eDone (rd t0 t5)))) rfl (w_idx t0 eDone rfl · · · slT43 rfl rfl e11) ?_
  refine rT 20 (.d (.dp (eDone (rd t0 t5)))) rfl (v_field_dp (a0 := 0) (cs := (eDone (rd t0 t5))) rfl · · · fo100_0 rfl) ?_
  refine rT 21 (iV (rd t0 t5).mClient) rfl (v_load_dp1 rfl · · · onT3 rfl rfl) ?_
  refine rM 22 (.d (.sl 11 (t1.map eDone))) rfl rfl ?_
  refine rM 23 (iV t5) rfl rfl ?_
  obtain ⟨e12, h⟩ := gpos h
  refine rT 24 (.d (.dp (eDone (rd t1 t5)))) rfl (w_idx t1 eDone rfl · · · slT43 rfl rfl e12) ?_
  refine rT 25 (.d (.dp (eDone (rd t1 t5)))) rfl (v_field_dp (a0 := 0) (cs := (eDone (rd t1 t5))) rfl · · · fo100_0 rfl) ?_
  refine rT 26 (iV (rd t1 t5).mClient) rfl (v_load_dp1 rfl · · · onT3 rfl rfl) ?_
  refine rT 27 (bV (!eqI (rd t0 t5).mClient (rd t1 t5).mClient)) rfl (v_bin rfl · · · rfl rfl (b_neq rfl)) ?_
  refine rM 28 (bV (!eqI (rd t0 t5).mClient (rd t1 t5).mClient)) rfl rfl ?_
  refine rF 29 (.d (.sl 11 (t0.map eDone))) rfl rfl (fun e13 => (v_move (.inl rfl) · · · rfl)) ?_
  refine rF 30 (iV t5) rfl rfl (fun e14 => (v_move (.inl rfl) · · · rfl)) ?_
  obtain ⟨e16, h⟩ := gpos h
  refine rF 31 (.d (.dp (eDone (rd t0 t5)))) rfl rfl (fun e15 => (w_idx t0 eDone rfl · · · slT43 (gv (nF e15)) (gv (nF e15)) (orT e16 (nF e15)))) ?_
  refine rF 32 (.d (.dp (List.drop 1 (eDone (rd t0 t5))))) rfl rfl (fun e17 => (v_field_dp (a0 := 1) (cs := (eDone (rd t0 t5))) rfl · · · fo100_1 (gv (nF e17)))) ?_
  refine rF 33 (iV (rd t0 t5).mReq) rfl rfl (fun e18 => (v_load_dp1 rfl · · · onT3 (gv (nF e18)) rfl)) ?_
  refine rF 34 (.d (.sl 11 (t1.map eDone))) rfl rfl (fun e19 => (v_move (.inl rfl) · · · rfl)) ?_
  refine rF 35 (iV t5) rfl rfl (fun e20 => (v_move (.inl rfl) · · · rfl)) ?_
  obtain ⟨e22, h⟩ := gpos h
  refine rF 36 (.d (.dp (eDone (rd t1 t5)))) rfl rfl (fun e21 => (w_idx t1 eDone rfl · · · slT43 (gv (nF e21)) (gv (nF e21)) (orT e22 (nF e21)))) ?_
  refine rF 37 (.d (.dp (List.drop 1 (eDone (rd t1 t5))))) rfl rfl (fun e23 => (v_field_dp (a0 := 1) (cs := (eDone (rd t1 t5))) rfl · · · fo100_1 (gv (nF e23)))) ?_
  refine rF 38 (iV (rd t1 t5).mReq) rfl rfl (fun e24 => (v_load_dp1 rfl · · · onT3 (gv (nF e24)) rfl)) ?_
  refine rF 39 (bV (!eqI (rd t0 t5).mReq (rd t1 t5).mReq)) rfl rfl (fun e25 => (v_bin rfl · · · (gv (nF e25)) (gv (nF e25)) (b_neq rfl))) ?_
  refine rT 40 (bV ((!eqI (rd t0 t5).mClient (rd t1 t5).mClient) || (!eqI (rd t0 t5).mReq (rd t1 t5).mReq))) rfl (v_pickB rfl · · · rfl (fun e26 => rfl) (fun e27 => (gv (nF e27))) (pO _ _)) ?_
  refine rM 41 (bV ((!eqI (rd t0 t5).mClient (rd t1 t5).mClient) || (!eqI (rd t0 t5).mReq (rd t1 t5).mReq))) rfl rfl ?_
  refine rF 42 (.d (.sl 11 (t0.map eDone))) rfl rfl (fun e28 => (v_move (.inl rfl) · · · rfl)) ?_
  refine rF 43 (iV t5) rfl rfl (fun e29 => (v_move (.inl rfl) · · · rfl)) ?_
  obtain ⟨e31, h⟩ := gpos h
  refine rF 44 (.d (.dp (eDone (rd t0 t5)))) rfl rfl (fun e30 => (w_idx t0 eDone rfl · · · slT43 (gv (nF e30)) (gv (nF e30)) (orT e31 (nF e30)))) ?_
  refine rF 45 (.d (.dp (List.drop 2 (eDone (rd t0 t5))))) rfl rfl (fun e32 => (v_field_dp (a0 := 2) (cs := (eDone (rd t0 t5))) rfl · · · fo100_2 (gv (nF e32)))) ?_
  refine rF 46 (.d (.agg (eAnswer (rd t0 t5).mAnswer))) rfl rfl (fun e33 => (w_ldp (List.drop 2 (eDone (rd t0 t5))) (eAnswer (rd t0 t5).mAnswer) rfl · · · ag34 (gv (nF e33)) (ble _ _ rfl) rfl)) ?_
  refine rF 47 (.d (.sl 11 (t1.map eDone))) rfl rfl (fun e34 => (v_move (.inl rfl) · · · rfl)) ?_
  refine rF 48 (iV t5) rfl rfl (fun e35 => (v_move (.inl rfl) · · · rfl)) ?_
  obtain ⟨e37, h⟩ := gpos h
  refine rF 49 (.d (.dp (eDone (rd t1 t5)))) rfl rfl (fun e36 => (w_idx t1 eDone rfl · · · slT43 (gv (nF e36)) (gv (nF e36)) (orT e37 (nF e36)))) ?_
  refine rF 50 (.d (.dp (List.drop 2 (eDone (rd t1 t5))))) rfl rfl (fun e38 => (v_field_dp (a0 := 2) (cs := (eDone (rd t1 t5))) rfl · · · fo100_2 (gv (nF e38)))) ?_
  refine rF 51 (.d (.agg (eAnswer (rd t1 t5).mAnswer))) rfl rfl (fun e39 => (w_ldp (List.drop 2 (eDone (rd t1 t5))) (eAnswer (rd t1 t5).mAnswer) rfl · · · ag34 (gv (nF e39)) (ble _ _ rfl) rfl)) ?_
  obtain ⟨t52, c41, h⟩ := bpos h
  refine rF 52 (bV t52) rfl rfl (fun e40 => (w_call (ds := [(.agg (eAnswer (rd t0 t5).mAnswer)), (.agg (eAnswer (rd t1 t5).mAnswer))]) (caps := []) (l := [(.s (.bool t52))]) (s19 k (rd t0 t5).mAnswer (rd t1 t5).mAnswer _ (cpos (nF e40) c41)) rfl rfl rfl en19 · · · (.inl ⟨rfl, rfl⟩) (cc (gv (nF e40)) (cc (gv (nF e40)) rfl)) rfl)) ?_
  refine rF 53 (bV (!t52)) rfl rfl (fun e42 => (v_un rfl · · · (gv (nF e42)) (u_not rfl))) ?_
  refine rT 54 (bV (((!eqI (rd t0 t5).mClient (rd t1 t5).mClient) || (!eqI (rd t0 t5).mReq (rd t1 t5).mReq)) || (!t52))) rfl (v_pickB rfl · · · rfl (fun e43 => rfl) (fun e44 => (gv (nF e44))) (pO _ _)) ?_
  refine rg_nil ⟨by kernel_rfl, ?_⟩
  refine ht_cond rfl (fun e45 => ?_) (fun e45 => ?_)
  ·replace h := cpos e45 h
   refine sr ?_
   refine sM 4 (bV false) rfl rfl ?_
   refine sq_nil ?_
   refine ht_ret ?_
   cases h
   cases r6 _ rfl
   exact ret1 rfl (.tmp rfl)
  replace h := cneg e45 h
  refine ht_skip ?_
  refine ht_region ?_
  refine sM 15 (iV t5) rfl rfl ?_
  refine sT 16 (iV (IntKind.wrap .i64 (t5 + 1))) rfl (v_bin rfl · · · rfl rfl (b_add rfl)) ?_
  refine sM 5 (iV (IntKind.wrap .i64 (t5 + 1))) rfl rfl ?_
  refine sq_nil ?_
  exact j8 _ _ h (wk_ren _ (fun i => i) rfl ⟨rfl, rfl, rfl, trivial⟩)
 replace h := cneg e10 h
 refine ht_exit ?_
 refine tq ?_
 refine tq ?_
 refine bq_hit ?_
 cases h
 exact j5 _ _ rfl (wk_ren _ (fun i => i) rfl trivial)
theorem s26 (k : Nat) (t0 : Shard) (t1 : Shard) (r : Bool) (h : F26 k t0 t1 = some r) : Awp.Spec Tryz.prog amb 26 [(.agg (eShard t0)), (.agg (eShard t1))] (.ds [(.s (.bool r))]) := by
 rw [F26] at h
 refine spec_of Tryz.func26 rfl (ble _ _ rfl) fun w0 ok0 lt0 hA => ?_
 refine sr ?_
 refine sT 2 (.d (.dp (eShard t0))) rfl (v_box_d (cs := (eShard t0)) rfl · · · rfl rfl (ones_of rfl)) ?_
 refine sT 3 (.d (.dp (eShard t1))) rfl (v_box_d (cs := (eShard t1)) rfl · · · rfl rfl (ones_of rfl)) ?_
 refine sM 4 (bV false) rfl rfl ?_
 refine sq_nil ?_
 refine sr ?_
 refine sT 5 (.d (.dp (eShard t0))) rfl (v_field_dp (a0 := 0) (cs := (eShard t0)) rfl · · · fo45_0 rfl) ?_
 refine sT 6 (iV t0.mID) rfl (v_load_dp1 rfl · · · onT3 rfl rfl) ?_
 refine sT 7 (.d (.dp (eShard t1))) rfl (v_field_dp (a0 := 0) (cs := (eShard t1)) rfl · · · fo45_0 rfl) ?_
 refine sT 8 (iV t1.mID) rfl (v_load_dp1 rfl · · · onT3 rfl rfl) ?_
 refine sT 9 (bV (eqI t0.mID t1.mID)) rfl (v_bin rfl · · · rfl rfl (b_eql rfl)) ?_
 refine sM 10 (bV (eqI t0.mID t1.mID)) rfl rfl ?_
 refine sG 11 (.d (.dp (List.drop 1 (eShard t0)))) rfl rfl (fun e1 => (v_field_dp (a0 := 1) (cs := (eShard t0)) rfl · · · fo45_1 rfl)) ?_
 refine sG 12 (iV t0.mEpoch) rfl rfl (fun e2 => (v_load_dp1 rfl · · · onT3 (gv e2) rfl)) ?_
 refine sG 13 (.d (.dp (List.drop 1 (eShard t1)))) rfl rfl (fun e3 => (v_field_dp (a0 := 1) (cs := (eShard t1)) rfl · · · fo45_1 rfl)) ?_
 refine sG 14 (iV t1.mEpoch) rfl rfl (fun e4 => (v_load_dp1 rfl · · · onT3 (gv e4) rfl)) ?_
 refine sG 15 (bV (eqI t0.mEpoch t1.mEpoch)) rfl rfl (fun e5 => (v_bin rfl · · · (gv e5) (gv e5) (b_eql rfl))) ?_
 refine sT 16 (bV ((eqI t0.mID t1.mID) && (eqI t0.mEpoch t1.mEpoch))) rfl (v_pickB rfl · · · rfl (fun e6 => (gv e6)) (fun e7 => rfl) (pA _ _)) ?_
 refine sM 17 (bV ((eqI t0.mID t1.mID) && (eqI t0.mEpoch t1.mEpoch))) rfl rfl ?_
 refine sG 18 (.d (.dp (List.drop 2 (eShard t0)))) rfl rfl (fun e8 => (v_field_dp (a0 := 2) (cs := (eShard t0)) rfl · · · fo45_2 rfl)) ?_
 refine sG 19 (.d (.agg (eSpan t0.mSpan))) rfl rfl (fun e9 => (w_ldp (List.drop 2 (eShard t0)) (eSpan t0.mSpan) rfl · · · ag41 (gv e9) (ble _ _ rfl) rfl)) ?_
 refine sG 20 (.d (.dp (List.drop 2 (eShard t1)))) rfl rfl (fun e10 => (v_field_dp (a0 := 2) (cs := (eShard t1)) rfl · · · fo45_2 rfl)) ?_
 refine sG 21 (.d (.agg (eSpan t1.mSpan))) rfl rfl (fun e11 => (w_ldp (List.drop 2 (eShard t1)) (eSpan t1.mSpan) rfl · · · ag41 (gv e11) (ble _ _ rfl) rfl)) ?_
 refine sG 22 (bV (qSpan t0.mSpan t1.mSpan)) rfl rfl (fun e12 => (v_bin_eql (f := eSpan) rfl · · · (gv e12) (gv e12) rfl rfl eg41 (eq41 _ _))) ?_
 refine sT 23 (bV (((eqI t0.mID t1.mID) && (eqI t0.mEpoch t1.mEpoch)) && (qSpan t0.mSpan t1.mSpan))) rfl (v_pickB rfl · · · rfl (fun e13 => (gv e13)) (fun e14 => rfl) (pA _ _)) ?_
 refine sM 24 (bV (((eqI t0.mID t1.mID) && (eqI t0.mEpoch t1.mEpoch)) && (qSpan t0.mSpan t1.mSpan))) rfl rfl ?_
 refine sG 25 (.d (.dp (List.drop 4 (eShard t0)))) rfl rfl (fun e15 => (v_field_dp (a0 := 4) (cs := (eShard t0)) rfl · · · fo45_3 rfl)) ?_
 refine sG 26 (iV t0.mPhase) rfl rfl (fun e16 => (v_load_dp1 rfl · · · onT3 (gv e16) rfl)) ?_
 refine sG 27 (.d (.dp (List.drop 4 (eShard t1)))) rfl rfl (fun e17 => (v_field_dp (a0 := 4) (cs := (eShard t1)) rfl · · · fo45_3 rfl)) ?_
 refine sG 28 (iV t1.mPhase) rfl rfl (fun e18 => (v_load_dp1 rfl · · · onT3 (gv e18) rfl)) ?_
 refine sG 29 (bV (eqI t0.mPhase t1.mPhase)) rfl rfl (fun e19 => (v_bin rfl · · · (gv e19) (gv e19) (b_eql rfl))) ?_
 refine sT 30 (bV ((((eqI t0.mID t1.mID) && (eqI t0.mEpoch t1.mEpoch)) && (qSpan t0.mSpan t1.mSpan)) && (eqI t0.mPhase t1.mPhase))) rfl (v_pickB rfl · · · rfl (fun e20 => (gv e20)) (fun e21 => rfl) (pA _ _)) ?_
 refine sM 31 (bV ((((eqI t0.mID t1.mID) && (eqI t0.mEpoch t1.mEpoch)) && (qSpan t0.mSpan t1.mSpan)) && (eqI t0.mPhase t1.mPhase))) rfl rfl ?_
 refine sG 32 (.d (.dp (List.drop 5 (eShard t0)))) rfl rfl (fun e22 => (v_field_dp (a0 := 5) (cs := (eShard t0)) rfl · · · fo45_4 rfl)) ?_
 refine sG 33 (.d (.sl 2 (t0.mEntries.map eEntry))) rfl rfl (fun e23 => (v_load_dp1 rfl · · · onT42 (gv e23) rfl)) ?_
 refine sG 34 (.d (.dp (List.drop 5 (eShard t1)))) rfl rfl (fun e24 => (v_field_dp (a0 := 5) (cs := (eShard t1)) rfl · · · fo45_4 rfl)) ?_
 refine sG 35 (.d (.sl 2 (t1.mEntries.map eEntry))) rfl rfl (fun e25 => (v_load_dp1 rfl · · · onT42 (gv e25) rfl)) ?_
 obtain ⟨t36, c27, h⟩ := bpos h
 refine sG 36 (bV t36) rfl rfl (fun e26 => (w_call (ds := [(.sl 2 (t0.mEntries.map eEntry)), (.sl 2 (t1.mEntries.map eEntry))]) (caps := []) (l := [(.s (.bool t36))]) (s40 k t0.mEntries t1.mEntries _ (cpos e26 c27)) rfl rfl rfl en40 · · · (.inl ⟨rfl, rfl⟩) (cc (gv e26) (cc (gv e26) rfl)) rfl)) ?_
 refine sT 37 (bV (((((eqI t0.mID t1.mID) && (eqI t0.mEpoch t1.mEpoch)) && (qSpan t0.mSpan t1.mSpan)) && (eqI t0.mPhase t1.mPhase)) && t36)) rfl (v_pickB rfl · · · rfl (fun e28 => (gv e28)) (fun e29 => rfl) (pA _ _)) ?_
 refine sM 38 (bV (((((eqI t0.mID t1.mID) && (eqI t0.mEpoch t1.mEpoch)) && (qSpan t0.mSpan t1.mSpan)) && (eqI t0.mPhase t1.mPhase)) && t36)) rfl rfl ?_
 refine sG 39 (.d (.dp (List.drop 6 (eShard t0)))) rfl rfl (fun e30 => (v_field_dp (a0 := 6) (cs := (eShard t0)) rfl · · · fo45_5 rfl)) ?_
 refine sG 40 (.d (.agg (eStamp t0.mMark))) rfl rfl (fun e31 => (w_ldp (List.drop 6 (eShard t0)) (eStamp t0.mMark) rfl · · · ag24 (gv e31) (ble _ _ rfl) rfl)) ?_
 refine sG 41 (.d (.dp (List.drop 6 (eShard t1)))) rfl rfl (fun e32 => (v_field_dp (a0 := 6) (cs := (eShard t1)) rfl · · · fo45_5 rfl)) ?_
 refine sG 42 (.d (.agg (eStamp t1.mMark))) rfl rfl (fun e33 => (w_ldp (List.drop 6 (eShard t1)) (eStamp t1.mMark) rfl · · · ag24 (gv e33) (ble _ _ rfl) rfl)) ?_
 refine sG 43 (bV (qStamp t0.mMark t1.mMark)) rfl rfl (fun e34 => (v_bin_eql (f := eStamp) rfl · · · (gv e34) (gv e34) rfl rfl eg24 (eq24 _ _))) ?_
 refine sT 44 (bV ((((((eqI t0.mID t1.mID) && (eqI t0.mEpoch t1.mEpoch)) && (qSpan t0.mSpan t1.mSpan)) && (eqI t0.mPhase t1.mPhase)) && t36) && (qStamp t0.mMark t1.mMark))) rfl (v_pickB rfl · · · rfl (fun e35 => (gv e35)) (fun e36 => rfl) (pA _ _)) ?_
 refine sM 45 (bV ((((((eqI t0.mID t1.mID) && (eqI t0.mEpoch t1.mEpoch)) && (qSpan t0.mSpan t1.mSpan)) && (eqI t0.mPhase t1.mPhase)) && t36) && (qStamp t0.mMark t1.mMark))) rfl rfl ?_
 refine sG 46 (.d (.dp (List.drop 9 (eShard t0)))) rfl rfl (fun e37 => (v_field_dp (a0 := 9) (cs := (eShard t0)) rfl · · · fo45_6 rfl)) ?_
 refine sG 47 (.d (.agg (eStamp t0.mTop))) rfl rfl (fun e38 => (w_ldp (List.drop 9 (eShard t0)) (eStamp t0.mTop) rfl · · · ag24 (gv e38) (ble _ _ rfl) rfl)) ?_
 refine sG 48 (.d (.dp (List.drop 9 (eShard t1)))) rfl rfl (fun e39 => (v_field_dp (a0 := 9) (cs := (eShard t1)) rfl · · · fo45_6 rfl)) ?_
 refine sG 49 (.d (.agg (eStamp t1.mTop))) rfl rfl (fun e40 => (w_ldp (List.drop 9 (eShard t1)) (eStamp t1.mTop) rfl · · · ag24 (gv e40) (ble _ _ rfl) rfl)) ?_
 refine sG 50 (bV (qStamp t0.mTop t1.mTop)) rfl rfl (fun e41 => (v_bin_eql (f := eStamp) rfl · · · (gv e41) (gv e41) rfl rfl eg24 (eq24 _ _))) ?_
 refine sT 51 (bV (((((((eqI t0.mID t1.mID) && (eqI t0.mEpoch t1.mEpoch)) && (qSpan t0.mSpan t1.mSpan)) && (eqI t0.mPhase t1.mPhase)) && t36) && (qStamp t0.mMark t1.mMark)) && (qStamp t0.mTop t1.mTop))) rfl (v_pickB rfl · · · rfl (fun e42 => (gv e42)) (fun e43 => rfl) (pA _ _)) ?_
 refine sM 52 (bV (((((((eqI t0.mID t1.mID) && (eqI t0.mEpoch t1.mEpoch)) && (qSpan t0.mSpan t1.mSpan)) && (eqI t0.mPhase t1.mPhase)) && t36) && (qStamp t0.mMark t1.mMark)) && (qStamp t0.mTop t1.mTop))) rfl rfl ?_
 refine sG 53 (.d (.dp (List.drop 12 (eShard t0)))) rfl rfl (fun e44 => (v_field_dp (a0 := 12) (cs := (eShard t0)) rfl · · · fo45_7 rfl)) ?_
 refine sG 54 (.d (.sl 11 (t0.mDone.map eDone))) rfl rfl (fun e45 => (v_load_dp1 rfl · · · onT43 (gv e45) rfl)) ?_
 refine sG 55 (.d (.dp (List.drop 12 (eShard t1)))) rfl rfl (fun e46 => (v_field_dp (a0 := 12) (cs := (eShard t1)) rfl · · · fo45_7 rfl)) ?_
 refine sG 56 (.d (.sl 11 (t1.mDone.map eDone))) rfl rfl (fun e47 => (v_load_dp1 rfl · · · onT43 (gv e47) rfl)) ?_
 obtain ⟨t57, c49, h⟩ := bpos h
 refine sG 57 (bV t57) rfl rfl (fun e48 => (w_call (ds := [(.sl 11 (t0.mDone.map eDone)), (.sl 11 (t1.mDone.map eDone))]) (caps := []) (l := [(.s (.bool t57))]) (s41 k t0.mDone t1.mDone _ (cpos e48 c49)) rfl rfl rfl en41 · · · (.inl ⟨rfl, rfl⟩) (cc (gv e48) (cc (gv e48) rfl)) rfl)) ?_
 refine sT 58 (bV ((((((((eqI t0.mID t1.mID) && (eqI t0.mEpoch t1.mEpoch)) && (qSpan t0.mSpan t1.mSpan)) && (eqI t0.mPhase t1.mPhase)) && t36) && (qStamp t0.mMark t1.mMark)) && (qStamp t0.mTop t1.mTop)) && t57)) rfl (v_pickB rfl · · · rfl (fun e50 => (gv e50)) (fun e51 => rfl) (pA _ _)) ?_
 refine sM 59 (bV ((((((((eqI t0.mID t1.mID) && (eqI t0.mEpoch t1.mEpoch)) && (qSpan t0.mSpan t1.mSpan)) && (eqI t0.mPhase t1.mPhase)) && t36) && (qStamp t0.mMark t1.mMark)) && (qStamp t0.mTop t1.mTop)) && t57)) rfl rfl ?_
 refine sG 60 (.d (.dp (List.drop 13 (eShard t0)))) rfl rfl (fun e52 => (v_field_dp (a0 := 13) (cs := (eShard t0)) rfl · · · fo45_8 rfl)) ?_
 refine sG 61 (iV t0.mHold) rfl rfl (fun e53 => (v_load_dp1 rfl · · · onT3 (gv e53) rfl)) ?_
 refine sG 62 (.d (.dp (List.drop 13 (eShard t1)))) rfl rfl (fun e54 => (v_field_dp (a0 := 13) (cs := (eShard t1)) rfl · · · fo45_8 rfl)) ?_
 refine sG 63 (iV t1.mHold) rfl rfl (fun e55 => (v_load_dp1 rfl · · · onT3 (gv e55) rfl)) ?_
 refine sG 64 (bV (eqI t0.mHold t1.mHold)) rfl rfl (fun e56 => (v_bin rfl · · · (gv e56) (gv e56) (b_eql rfl))) ?_
 refine sT 65 (bV (((((((((eqI t0.mID t1.mID) && (eqI t0.mEpoch t1.mEpoch)) && (qSpan t0.mSpan t1.mSpan)) && (eqI t0.mPhase t1.mPhase)) && t36) && (qStamp t0.mMark t1.mMark)) && (qStamp t0.mTop t1.mTop)) && t57) && (eqI t0.mHold t1.mHold))) rfl (v_pickB rfl · · · rfl (fun e57 => (gv e57)) (fun e58 => rfl) (pA _ _)) ?_
 refine sM 66 (bV (((((((((eqI t0.mID t1.mID) && (eqI t0.mEpoch t1.mEpoch)) && (qSpan t0.mSpan t1.mSpan)) && (eqI t0.mPhase t1.mPhase)) && t36) && (qStamp t0.mMark t1.mMark)) && (qStamp t0.mTop t1.mTop)) && t57) && (eqI t0.mHold t1.mHold))) rfl rfl ?_
 refine sG 67 (.d (.dp (List.drop 14 (eShard t0)))) rfl rfl (fun e59 => (v_field_dp (a0 := 14) (cs := (eShard t0)) rfl · · · fo45_9 rfl)) ?_
 refine sG 68 (iV t0.mSeen) rfl rfl (fun e60 => (v_load_dp1 rfl · · · onT3 (gv e60) rfl)) ?_
 refine sG 69 (.d (.dp (List.drop 14 (eShard t1)))) rfl rfl (fun e61 => (v_field_dp (a0 := 14) (cs := (eShard t1)) rfl · · · fo45_9 rfl)) ?_
 refine sG 70 (iV t1.mSeen) rfl rfl (fun e62 => (v_load_dp1 rfl · · · onT3 (gv e62) rfl)) ?_
 refine sG 71 (bV (eqI t0.mSeen t1.mSeen)) rfl rfl (fun e63 => (v_bin rfl · · · (gv e63) (gv e63) (b_eql rfl))) ?_
 refine sT 72 (bV ((((((((((eqI t0.mID t1.mID) && (eqI t0.mEpoch t1.mEpoch)) && (qSpan t0.mSpan t1.mSpan)) && (eqI t0.mPhase t1.mPhase)) && t36) && (qStamp t0.mMark t1.mMark)) && (qStamp t0.mTop t1.mTop)) && t57) && (eqI t0.mHold t1.mHold)) && (eqI t0.mSeen t1.mSeen))) rfl (v_pickB rfl · · · rfl (fun e64 => (gv e64)) (fun e65 => rfl) (pA _ _)) ?_
 refine sM 73 (bV ((((((((((eqI t0.mID t1.mID) && (eqI t0.mEpoch t1.mEpoch)) && (qSpan t0.mSpan t1.mSpan)) && (eqI t0.mPhase t1.mPhase)) && t36) && (qStamp t0.mMark t1.mMark)) && (qStamp t0.mTop t1.mTop)) && t57) && (eqI t0.mHold t1.mHold)) && (eqI t0.mSeen t1.mSeen))) rfl rfl ?_
 refine sG 74 (.d (.dp (List.drop 15 (eShard t0)))) rfl rfl (fun e66 => (v_field_dp (a0 := 15) (cs := (eShard t0)) rfl · · · fo45_10 rfl)) ?_
 refine sG 75 (iV t0.mMove) rfl rfl (fun e67 => (v_load_dp1 rfl · · · onT3 (gv e67) rfl)) ?_
 refine sG 76 (.d (.dp (List.drop 15 (eShard t1)))) rfl rfl (fun e68 => (v_field_dp (a0 := 15) (cs := (eShard t1)) rfl · · · fo45_10 rfl)) ?_
 refine sG 77 (iV t1.mMove) rfl rfl (fun e69 => (v_load_dp1 rfl · · · onT3 (gv e69) rfl)) ?_
 refine sG 78 (bV (eqI t0.mMove t1.mMove)) rfl rfl (fun e70 => (v_bin rfl · · · (gv e70) (gv e70) (b_eql rfl))) ?_
 refine sT 79 (bV (((((((((((eqI t0.mID t1.mID) && (eqI t0.mEpoch t1.mEpoch)) && (qSpan t0.mSpan t1.mSpan)) && (eqI t0.mPhase t1.mPhase)) && t36) && (qStamp t0.mMark t1.mMark)) && (qStamp t0.mTop t1.mTop)) && t57) && (eqI t0.mHold t1.mHold)) && (eqI t0.mSeen t1.mSeen)) && (eqI t0.mMove t1.mMove))) rfl (v_pickB rfl · · · rfl (fun e71 => (gv e71)) (fun e72 => rfl) (pA _ _)) ?_
 refine sM 80 (bV (((((((((((eqI t0.mID t1.mID) && (eqI t0.mEpoch t1.mEpoch)) && (qSpan t0.mSpan t1.mSpan)) && (eqI t0.mPhase t1.mPhase)) && t36) && (qStamp t0.mMark t1.mMark)) && (qStamp t0.mTop t1.mTop)) && t57) && (eqI t0.mHold t1.mHold)) && (eqI t0.mSeen t1.mSeen)) && (eqI t0.mMove t1.mMove))) rfl rfl ?_
 refine sG 81 (.d (.dp (List.drop 16 (eShard t0)))) rfl rfl (fun e73 => (v_field_dp (a0 := 16) (cs := (eShard t0)) rfl · · · fo45_11 rfl)) ?_
 refine sG 82 (iV t0.mClosed) rfl rfl (fun e74 => (v_load_dp1 rfl · · · onT3 (gv e74) rfl)) ?_
 refine sG 83 (.d (.dp (List.drop 16 (eShard t1)))) rfl rfl (fun e75 => (v_field_dp (a0 := 16) (cs := (eShard t1)) rfl · · · fo45_11 rfl)) ?_
 refine sG 84 (iV t1.mClosed) rfl rfl (fun e76 => (v_load_dp1 rfl · · · onT3 (gv e76) rfl)) ?_
 refine sG 85 (bV (eqI t0.mClosed t1.mClosed)) rfl rfl (fun e77 => (v_bin rfl · · · (gv e77) (gv e77) (b_eql rfl))) ?_
 refine sT 86 (bV ((((((((((((eqI t0.mID t1.mID) && (eqI t0.mEpoch t1.mEpoch)) && (qSpan t0.mSpan t1.mSpan)) && (eqI t0.mPhase t1.mPhase)) && t36) && (qStamp t0.mMark t1.mMark)) && (qStamp t0.mTop t1.mTop)) && t57) && (eqI t0.mHold t1.mHold)) && (eqI t0.mSeen t1.mSeen)) && (eqI t0.mMove t1.mMove)) && (eqI t0.mClosed t1.mClosed))) rfl (v_pickB rfl · · · rfl (fun e78 => (gv e78)) (fun e79 => rfl) (pA _ _)) ?_
 refine sM 4 (bV ((((((((((((eqI t0.mID t1.mID) && (eqI t0.mEpoch t1.mEpoch)) && (qSpan t0.mSpan t1.mSpan)) && (eqI t0.mPhase t1.mPhase)) && t36) && (qStamp t0.mMark t1.mMark)) && (qStamp t0.mTop t1.mTop)) && t57) && (eqI t0.mHold t1.mHold)) && (eqI t0.mSeen t1.mSeen)) && (eqI t0.mMove t1.mMove)) && (eqI t0.mClosed t1.mClosed))) rfl rfl ?_
 refine sq_nil ?_
 refine ht_ret ?_
 cases h
 exact ret1 rfl (.tmp rfl)
theorem s18 (k : Nat) (t0 : Cell) (t1 : Cell) (r : Bool) (h : F18 k t0 t1 = some r) : Awp.Spec Tryz.prog amb 18 [(.agg (eCell t0)), (.agg (eCell t1))] (.ds [(.s (.bool r))]) := by
 rw [F18] at h
 refine spec_of Tryz.func18 rfl (ble _ _ rfl) fun w0 ok0 lt0 hA => ?_
 refine sr ?_
 refine sT 2 (.d (.dp (eCell t0))) rfl (v_box_d (cs := (eCell t0)) rfl · · · rfl rfl (ones_of rfl)) ?_
 refine sT 3 (.d (.dp (eCell t1))) rfl (v_box_d (cs := (eCell t1)) rfl · · · rfl rfl (ones_of rfl)) ?_
 refine sM 4 (bV false) rfl rfl ?_
 refine sq_nil ?_
 refine ht_seq ?_
 refine sr ?_
 refine sT 6 (.d (.dp (eCell t0))) rfl (v_field_dp (a0 := 0) (cs := (eCell t0)) rfl · · · fo26_0 rfl) ?_
 refine sT 7 (.d (.sl 17 (t0.mShards.map eShard))) rfl (v_load_dp1 rfl · · · onT22 rfl rfl) ?_
 refine sT 8 (iV (t0.mShards.length : Int)) rfl (w_len t0.mShards eShard rfl rfl · · · slT22 rfl) ?_
 refine sT 9 (.d (.dp (eCell t1))) rfl (v_field_dp (a0 := 0) (cs := (eCell t1)) rfl · · · fo26_0 rfl) ?_
 refine sT 10 (.d (.sl 17 (t1.mShards.map eShard))) rfl (v_load_dp1 rfl · · · onT22 rfl rfl) ?_
 refine sT 11 (iV (t1.mShards.length : Int)) rfl (w_len t1.mShards eShard rfl rfl · · · slT22 rfl) ?_
 refine sT 12 (bV (!eqI (t0.mShards.length : Int) (t1.mShards.length : Int))) rfl (v_bin rfl · · · rfl rfl (b_neq rfl)) ?_
 refine sM 13 (bV (!eqI (t0.mShards.length : Int) (t1.mShards.length : Int))) rfl rfl ?_
 refine sF 14 (.d (.dp (List.drop 1 (eCell t0)))) rfl rfl (fun e1 => (v_field_dp (a0 := 1) (cs := (eCell t0)) rfl · · · fo26_1 rfl)) ?_
 refine sF 15 (.d (.agg (eStamp t0.mTop))) rfl rfl (fun e2 => (w_ldp (List.drop 1 (eCell t0)) (eStamp t0.mTop) rfl · · · ag24 (gv (nF e2)) (ble _ _ rfl) rfl)) ?_
 refine sF 16 (.d (.dp (List.drop 1 (eCell t1)))) rfl rfl (fun e3 => (v_field_dp (a0 := 1) (cs := (eCell t1)) rfl · · · fo26_1 rfl)) ?_
 refine sF 17 (.d (.agg (eStamp t1.mTop))) rfl rfl (fun e4 => (w_ldp (List.drop 1 (eCell t1)) (eStamp t1.mTop) rfl · · · ag24 (gv (nF e4)) (ble _ _ rfl) rfl)) ?_
 refine sF 18 (bV (!(qStamp t0.mTop t1.mTop))) rfl rfl (fun e5 => (v_bin_neq (f := eStamp) rfl · · · (gv (nF e5)) (gv (nF e5)) rfl rfl eg24 (eq24 _ _))) ?_
 refine sT 19 (bV ((!eqI (t0.mShards.length : Int) (t1.mShards.length : Int)) || (!(qStamp t0.mTop t1.mTop)))) rfl (v_pickB rfl · · · rfl (fun e6 => rfl) (fun e7 => (gv (nF e7))) (pO _ _)) ?_
 refine sM 20 (bV ((!eqI (t0.mShards.length : Int) (t1.mShards.length : Int)) || (!(qStamp t0.mTop t1.mTop)))) rfl rfl ?_
 refine sF 21 (.d (.dp (List.drop 4 (eCell t0)))) rfl rfl (fun e8 => (v_field_dp (a0 := 4) (cs := (eCell t0)) rfl · · · fo26_2 rfl)) ?_
 refine sF 22 (iV t0.mDropped) rfl rfl (fun e9 => (v_load_dp1 rfl · · · onT3 (gv (nF e9)) rfl)) ?_
 refine sF 23 (.d (.dp (List.drop 4 (eCell t1)))) rfl rfl (fun e10 => (v_field_dp (a0 := 4) (cs := (eCell t1)) rfl · · · fo26_2 rfl)) ?_
 refine sF 24 (iV t1.mDropped) rfl rfl (fun e11 => (v_load_dp1 rfl · · · onT3 (gv (nF e11)) rfl)) ?_
 refine sF 25 (bV (!eqI t0.mDropped t1.mDropped)) rfl rfl (fun e12 => (v_bin rfl · · · (gv (nF e12)) (gv (nF e12)) (b_neq rfl))) ?_
 refine sT 26 (bV (((!eqI (t0.mShards.length : Int) (t1.mShards.length : Int)) || (!(qStamp t0.mTop t1.mTop))) || (!eqI t0.mDropped t1.mDropped))) rfl (v_pickB rfl · · · rfl (fun e13 => rfl) (fun e14 => (gv (nF e14))) (pO _ _)) ?_
 refine sq_nil ?_
 refine ht_cond rfl (fun e15 => ?_) (fun e15 => ?_)
 ·replace h := cpos e15 h
  refine sr ?_
  refine sM 4 (bV false) rfl rfl ?_
  refine sq_nil ?_
  refine ht_ret ?_
  cases h
  exact ret1 rfl (.tmp rfl)
 replace h := cneg e15 h
 refine ht_skip ?_
 refine ht_gj (go_id' h) (fun _ => tell []) (fun _ h => ?_) (fun v16 K17 h j19 r20 => ?_)
 ·refine sr ?_
  refine sM 4 (bV true) rfl rfl ?_
  refine sq_nil ?_
  refine ht_ret ?_
  cases h
  exact ret1 rfl (.tmp rfl)
 refine sr ?_
 refine sM 5 (iV 0) rfl rfl ?_
 refine sq_nil ?_
 refine ht_block ?_
 refine ht_rd h (fun _ => rfl) (fun t5 => tell [(.t 2, .d (.dp (eCell t0))), (.t 3, .d (.dp (eCell t1))), (.t 5, iV t5)]) (wk_ren _ (fun i => i) rfl ⟨rfl, rfl, rfl, trivial⟩) fun k t5 h K29 j22 => ?_
 rw [F18_l1] at h
 refine ht_seq ?_
 refine sr ?_
 refine sM 27 (iV t5) rfl rfl ?_
 refine sT 28 (.d (.dp (eCell t0))) rfl (v_field_dp (a0 := 0) (cs := (eCell t0)) rfl · · · fo26_0 rfl) ?_
 refine sT 29 (.d (.sl 17 (t0.mShards.map eShard))) rfl (v_load_dp1 rfl · · · onT22 rfl rfl) ?_
 refine sT 30 (iV (t0.mShards.length : Int)) rfl (w_len t0.mShards eShard rfl rfl · · · slT22 rfl) ?_
 refine sT 31 (bV (ltI t5 (t0.mShards.length : Int))) rfl (v_bin rfl · · · rfl rfl (b_lss rfl)) ?_
 refine sq_nil ?_
 refine ht_cond rfl (fun e24 => ?_) (fun e24 => ?_)
 ·replace h := cpos e24 h
  refine ht_skip ?_
  refine ht_seq ?_
  refine ht_block ?_
  refine ht_seq ?_
  refine ht_region_draw mixed ?_
  refine rT 34 (.d (.dp (eCell t0))) rfl (v_field_dp (a0 := 0) (cs := (eCell t0)) rfl · · · fo26_0 rfl) ?_
  refine rT 35 (.d (.sl 17 (t0.mShards.map eShard))) rfl (v_load_dp1 rfl · · · onT22 rfl rfl) ?_
  refine rM 36 (iV t5) rfl rfl ?_
  obtain ⟨e25, h⟩ := gpos h
  refine rT 37 (.d (.dp (eShard (rd t0.mShards t5)))) rfl (w_idx t0.mShards eShard rfl · · · slT22 rfl rfl e25) ?_
  refine rT 38 (.d (.agg (eShard (rd t0.mShards t5)))) rfl (w_ldp (eShard (rd t0.mShards t5)) (eShard (rd t0.mShards t5)) rfl · · · ag45 rfl (ble _ _ rfl) rfl) ?_
  refine rT 39 (.d (.dp (eCell t1))) rfl (v_field_dp (a0 := 0) (cs := (eCell t1)) rfl · · · fo26_0 rfl) ?_
  refine rT 40 (.d (.sl 17 (t1.mShards.map eShard))) rfl (v_load_dp1 rfl · · · onT22 rfl rfl) ?_
  refine rM 41 (iV t5) rfl rfl ?_
  obtain ⟨e26, h⟩ := gpos h
  refine rT 42 (.d (.dp (eShard (rd t1.mShards t5)))) rfl (w_idx t1.mShards eShard rfl · · · slT22 rfl rfl e26) ?_
  refine rT 43 (.d (.agg (eShard (rd t1.mShards t5)))) rfl (w_ldp (eShard (rd t1.mShards t5)) (eShard (rd t1.mShards t5)) rfl · · · ag45 rfl (ble _ _ rfl) rfl) ?_
  obtain ⟨t44, c27, h⟩ := bpos h
  refine rT 44 (bV t44) rfl (w_call (ds := [(.agg (eShard (rd t0.mShards t5))), (.agg (eShard (rd t1.mShards t5)))]) (caps := []) (l := [(.s (.bool t44))]) (s26 k (rd t0.mShards t5) (rd t1.mShards t5) _ c27) rfl rfl rfl en26 · · · (.inl ⟨rfl, rfl⟩) rfl rfl) ?_
  refine rT 45 (bV (!t44)) rfl (v_un rfl · · · rfl (u_not rfl)) ?_
  refine rg_nil ⟨by kernel_rfl, ?_⟩
  refine ht_cond rfl (fun e28 => ?_) (fun e28 => ?_)
  ·replace h := cpos e28 h
   refine sr ?_
   refine sM 4 (bV false) rfl rfl ?_
   refine sq_nil ?_
   refine ht_ret ?_
   cases h
   cases r20 _ rfl
   exact ret1 rfl (.tmp rfl)
  replace h := cneg e28 h
  refine ht_skip ?_
  refine ht_region ?_
  refine sM 32 (iV t5) rfl rfl ?_
  refine sT 33 (iV (IntKind.wrap .i64 (t5 + 1))) rfl (v_bin rfl · · · rfl rfl (b_add rfl)) ?_
  refine sM 5 (iV (IntKind.wrap .i64 (t5 + 1))) rfl rfl ?_
  refine sq_nil ?_
  exact j22 _ _ h (wk_ren _ (fun i => i) rfl ⟨rfl, rfl, rfl, trivial⟩)
 replace h := cneg e24 h
 refine ht_exit ?_
 refine tq ?_
 refine tq ?_
 refine bq_hit ?_
 cases h
 exact j19 _ _ rfl (wk_ren _ (fun i => i) rfl trivial)
theorem s23 (k : Nat) (t0 : Cell) (t1 : Int) (r : Shard × Bool) (h : F23 k t0 t1 = some r) : Awp.Spec Tryz.prog amb 23 [(.agg (eCell t0)), (.s (.int .i64 t1))] (.ds [(.agg (eShard r.1)), (.s (.bool r.2))]) := by
 rw [F23] at h
 refine spec_of Tryz.func23 rfl (ble _ _ rfl) fun w0 ok0 lt0 hA => ?_
 refine sr ?_
 refine sT 2 (.d (.dp (eCell t0))) rfl (v_box_d (cs := (eCell t0)) rfl · · · rfl rfl (ones_of rfl)) ?_
 refine sq_cons _ (v_alloc (id := 4) (cs := zc45) rfl trivial rfl (ble _ _ rfl) zu45 rfl ft45 rfl) ?_
 refine sM 5 (bV false) rfl rfl ?_
 refine sq_nil ?_
 refine ht_seq ?_
 refine sr ?_
 refine sT 7 (.d (.agg (eCell t0))) rfl (w_ldp (eCell t0) (eCell t0) rfl · · · ag26 rfl (ble _ _ rfl) rfl) ?_
 obtain ⟨t8, c1, h⟩ := bpos h
 refine sT 8 (bV t8) rfl (w_call (ds := [(.agg (eCell t0))]) (caps := []) (l := [(.s (.bool t8))]) (s25 k t0 _ c1) rfl rfl rfl en25 · · · (.inl ⟨rfl, rfl⟩) rfl rfl) ?_
 refine sT 9 (bV (!t8)) rfl (v_un rfl · · · rfl (u_not rfl)) ?_
 refine sM 10 (bV (!t8)) rfl rfl ?_
 refine sF 11 (iV t1) rfl rfl (fun e2 => (v_move (.inl rfl) · · · rfl)) ?_
 refine sF 12 (.d (.sl 1 (([t1]).map (eI .i64)))) rfl rfl (fun e3 => (w_bsl_d [(0, iV t1)] [t1] (eI .i64) rfl · · · slT148 zr3 (encI .i64) (ble _ _ rfl) (cc (pr (gv (nF e3))) rfl) (by kernel_rfl) rfl rfl (by kernel_rfl))) ?_
 obtain ⟨t13, c5, h⟩ := bpos h
 refine sF 13 (bV t13) rfl rfl (fun e4 => (w_call (ds := [(.s (.int .i64 1)), (.sl 1 (([t1]).map (eI .i64)))]) (caps := []) (l := [(.s (.bool t13))]) (s57 k 1 ([t1]) _ (cpos (nF e4) c5)) rfl rfl rfl en57 · · · (.inl ⟨rfl, rfl⟩) (cc rfl (cc (gv (nF e4)) rfl)) rfl)) ?_
 refine sF 14 (bV (!t13)) rfl rfl (fun e6 => (v_un rfl · · · (gv (nF e6)) (u_not rfl))) ?_
 refine sT 15 (bV ((!t8) || (!t13))) rfl (v_pickB rfl · · · rfl (fun e7 => rfl) (fun e8 => (gv (nF e8))) (pO _ _)) ?_
 refine sq_nil ?_
 refine ht_cond rfl (fun e9 => ?_) (fun e9 => ?_)
 ·replace h := cpos e9 h
  refine sr ?_
  refine sT 16 (.d (.agg (eShard (⟨0, 0, (⟨⟨#[]⟩, ⟨#[]⟩⟩ : Span), 0, [], (⟨0, 0, 0⟩ : Stamp), (⟨0, 0, 0⟩ : Stamp), [], 0, 0, 0, 0⟩ : Shard)))) rfl (w_bld zc45 ((eShard (⟨0, 0, (⟨⟨#[]⟩, ⟨#[]⟩⟩ : Span), 0, [], (⟨0, 0, 0⟩ : Stamp), (⟨0, 0, 0⟩ : Stamp), [], 0, 0, 0, 0⟩ : Shard)).map V.d) [] rfl · · · zw45 rfl ft45 rfl rfl rfl rfl) ?_
  refine sq_cons _ (v_store_box (id := 4) (off := 0) (cs := (eShard (⟨0, 0, (⟨⟨#[]⟩, ⟨#[]⟩⟩ : Span), 0, [], (⟨0, 0, 0⟩ : Stamp), (⟨0, 0, 0⟩ : Stamp), [], 0, 0, 0, 0⟩ : Shard)).map V.d) rfl trivial rfl sz45 rfl rfl rfl rfl (ones_of rfl) (ble _ _ rfl)) ?_
  refine sM 5 (bV false) rfl rfl ?_
  refine sq_nil ?_
  refine ht_ret ?_
  cases h
  exact ret2 rfl (.cell rfl rfl ag45 (ble _ _ rfl) rfl) (.tmp rfl)
 replace h := cneg e9 h
 refine ht_skip ?_
 refine sr ?_
 refine sT 17 (.d (.agg (eCell t0))) rfl (w_ldp (eCell t0) (eCell t0) rfl · · · ag26 rfl (ble _ _ rfl) rfl) ?_
 refine sM 18 (iV t1) rfl rfl ?_
 obtain ⟨t19, c10, h⟩ := bpos h
 refine sT 19 (.d (.agg (eShard t19))) rfl (w_call (ds := [(.agg (eCell t0)), (.s (.int .i64 t1))]) (caps := []) (l := [(.agg (eShard t19))]) (s60 k t0 t1 _ c10) rfl rfl rfl en60 · · · (.inl ⟨rfl, rfl⟩) rfl rfl) ?_
 refine sq_cons _ (v_alloc (id := 6) (cs := zc45) rfl trivial rfl (ble _ _ rfl) zu45 rfl ft45 rfl) ?_
 refine sq_cons _ (v_store_box (id := 6) (off := 0) (cs := (eShard t19).map V.d) rfl trivial rfl sz45 rfl rfl rfl rfl (ones_of rfl) (ble _ _ rfl)) ?_
 refine sq_nil ?_
 refine ht_seq ?_
 refine ht_region_draw mixed ?_
 refine rT 20 (.d (.agg (eShard t19))) rfl (w_ldb 6 0 rfl · · · ag45 rfl rfl (ble _ _ rfl) rfl) ?_
 refine rT 21 (.ptr 6 0) rfl (v_field_box (off := 0) (a0 := 0) rfl · · · fo45_0 rfl) ?_
 refine rT 22 (iV t19.mID) rfl (v_load_box1 (id := 6) (off := 0) rfl · · · onT3 rfl rfl (ble _ _ rfl) rfl) ?_
 refine rT 23 (bV (!eqI t19.mID 0)) rfl (v_bin rfl · · · rfl rfl (b_neq rfl)) ?_
 refine rg_cons _ (v_store_box (id := 4) (off := 0) (cs := (eShard t19).map V.d) rfl trivial rfl sz45 rfl rfl rfl rfl (ones_of rfl) (ble _ _ rfl)) ?_
 refine rM 5 (bV (!eqI t19.mID 0)) rfl rfl ?_
 refine rg_nil ⟨by kernel_rfl, ?_⟩
 refine ht_ret ?_
 cases h
 exact ret2 rfl (.cell rfl rfl ag45 (ble _ _ rfl) rfl) (.tmp rfl)
theorem s93 (k : Nat) (t0 : Shard) (t1 : Int) (r : Bool) (h : F93 k t0 t1 = some r) : Awp.Spec Tryz.prog amb 93 [(.agg (eShard t0)), (.s (.int .i64 t1))] (.ds [(.s (.bool r))]) := by
 rw [F93] at h
 refine spec_of Tryz.func93 rfl (ble _ _ rfl) fun w0 ok0 lt0 hA => ?_
 refine sr ?_
 refine sT 2 (.d (.dp (eShard t0))) rfl (v_box_d (cs := (eShard t0)) rfl · · · rfl rfl (ones_of rfl)) ?_
 refine sM 4 (bV false) rfl rfl ?_
 refine sq_nil ?_
 refine sr ?_
 refine sT 5 (.d (.dp (List.drop 4 (eShard t0)))) rfl (v_field_dp (a0 := 4) (cs := (eShard t0)) rfl · · · fo45_3 rfl) ?_
 refine sT 6 (iV t0.mPhase) rfl (v_load_dp1 rfl · · · onT3 rfl rfl) ?_
 refine sT 7 (bV (eqI t0.mPhase 3)) rfl (v_bin rfl · · · rfl rfl (b_eql rfl)) ?_
 refine sM 8 (bV (eqI t0.mPhase 3)) rfl rfl ?_
 refine sG 9 (.d (.dp (List.drop 15 (eShard t0)))) rfl rfl (fun e1 => (v_field_dp (a0 := 15) (cs := (eShard t0)) rfl · · · fo45_10 rfl)) ?_
 refine sG 10 (iV t0.mMove) rfl rfl (fun e2 => (v_load_dp1 rfl · · · onT3 (gv e2) rfl)) ?_
 refine sG 11 (iV t1) rfl rfl (fun e3 => (v_move (.inl rfl) · · · rfl)) ?_
 refine sG 12 (bV (eqI t0.mMove t1)) rfl rfl (fun e4 => (v_bin rfl · · · (gv e4) (gv e4) (b_eql rfl))) ?_
 refine sT 13 (bV ((eqI t0.mPhase 3) && (eqI t0.mMove t1))) rfl (v_pickB rfl · · · rfl (fun e5 => (gv e5)) (fun e6 => rfl) (pA _ _)) ?_
 refine sM 4 (bV ((eqI t0.mPhase 3) && (eqI t0.mMove t1))) rfl rfl ?_
 refine sq_nil ?_
 refine ht_ret ?_
 cases h
 exact ret1 rfl (.tmp rfl)
theorem s94 (k : Nat) (t0 : Shard) (t1 : Int) (r : Bool) (h : F94 k t0 t1 = some r) : Awp.Spec Tryz.prog amb 94 [(.agg (eShard t0)), (.s (.int .i64 t1))] (.ds [(.s (.bool r))]) := by
 rw [F94] at h
 refine spec_of Tryz.func94 rfl (ble _ _ rfl) fun w0 ok0 lt0 hA => ?_
 refine sr ?_
 refine sT 2 (.d (.dp (eShard t0))) rfl (v_box_d (cs := (eShard t0)) rfl · · · rfl rfl (ones_of rfl)) ?_
 refine sM 4 (bV false) rfl rfl ?_
 refine sq_nil ?_
 refine sr ?_
 refine sT 5 (.d (.dp (List.drop 4 (eShard t0)))) rfl (v_field_dp (a0 := 4) (cs := (eShard t0)) rfl · · · fo45_3 rfl) ?_
 refine sT 6 (iV t0.mPhase) rfl (v_load_dp1 rfl · · · onT3 rfl rfl) ?_
 refine sT 7 (bV (eqI t0.mPhase 2)) rfl (v_bin rfl · · · rfl rfl (b_eql rfl)) ?_
 refine sM 8 (bV (eqI t0.mPhase 2)) rfl rfl ?_
 refine sG 9 (.d (.dp (List.drop 15 (eShard t0)))) rfl rfl (fun e1 => (v_field_dp (a0 := 15) (cs := (eShard t0)) rfl · · · fo45_10 rfl)) ?_
 refine sG 10 (iV t0.mMove) rfl rfl (fun e2 => (v_load_dp1 rfl · · · onT3 (gv e2) rfl)) ?_
 refine sG 11 (iV t1) rfl rfl (fun e3 => (v_move (.inl rfl) · · · rfl)) ?_
 refine sG 12 (bV (eqI t0.mMove t1)) rfl rfl (fun e4 => (v_bin rfl · · · (gv e4) (gv e4) (b_eql rfl))) ?_
 refine sT 13 (bV ((eqI t0.mPhase 2) && (eqI t0.mMove t1))) rfl (v_pickB rfl · · · rfl (fun e5 => (gv e5)) (fun e6 => rfl) (pA _ _)) ?_
 refine sM 4 (bV ((eqI t0.mPhase 2) && (eqI t0.mMove t1))) rfl rfl ?_
 refine sq_nil ?_
 refine ht_ret ?_
 cases h
 exact ret1 rfl (.tmp rfl)
theorem s30 (k : Nat) (t0 : Cell) (t1 : Int) (t2 : Int) (t3 : Int) (r : Cell × Bool) (h : F30 k t0 t1 t2 t3 = some r) : Awp.Spec Tryz.prog amb 30 [(.agg (eCell t0)), (.s (.int .i64 t1)), (.s (.int .i64 t2)), (.s (.int .i64 t3))] (.ds [(.agg (eCell r.1)), (.s (.bool r.2))]) := by
 rw [F30] at h
 refine spec_of Tryz.func30 rfl (ble _ _ rfl) fun w0 ok0 lt0 hA => ?_
 refine sr ?_
 refine sT 4 (.d (.dp (eCell t0))) rfl (v_box_d (cs := (eCell t0)) rfl · · · rfl rfl (ones_of rfl)) ?_
 refine sq_cons _ (v_alloc (id := 8) (cs := zc26) rfl trivial rfl (ble _ _ rfl) zu26 rfl ft26 rfl) ?_
 refine sM 9 (bV false) rfl rfl ?_
 refine sq_nil ?_
 refine sr ?_
 refine sT 13 (.d (.agg (eCell t0))) rfl (w_ldp (eCell t0) (eCell t0) rfl · · · ag26 rfl (ble _ _ rfl) rfl) ?_
 refine sM 14 (iV t1) rfl rfl ?_
 obtain ⟨⟨t15a, t15b⟩, c1, h⟩ := bpos h
 refine sT 15 (.tup [.d (.agg (eShard t15a)), bV t15b]) rfl (w_call (ds := [(.agg (eCell t0)), (.s (.int .i64 t1))]) (caps := []) (l := [(.agg (eShard t15a)), (.s (.bool t15b))]) (s23 k t0 t1 _ c1) rfl rfl rfl en23 · · · (.inl ⟨rfl, rfl⟩) rfl rfl) ?_
 refine sM 12 (.tup [.d (.agg (eShard t15a)), bV t15b]) rfl rfl ?_
 refine sT 16 (.d (.agg (eShard t15a))) rfl (v_extract rfl · · · rfl rfl) ?_
 refine sT 17 (bV t15b) rfl (v_extract rfl · · · rfl rfl) ?_
 refine sq_cons _ (v_alloc (id := 10) (cs := zc45) rfl trivial rfl (ble _ _ rfl) zu45 rfl ft45 rfl) ?_
 refine sq_cons _ (v_store_box (id := 10) (off := 0) (cs := (eShard t15a).map V.d) rfl trivial rfl sz45 rfl rfl rfl rfl (ones_of rfl) (ble _ _ rfl)) ?_
 refine sM 11 (bV t15b) rfl rfl ?_
 refine sq_nil ?_
 refine ht_seq ?_
 refine sr ?_
 refine sM 18 (bV t15b) rfl rfl ?_
 refine sT 19 (bV (!t15b)) rfl (v_un rfl · · · rfl (u_not rfl)) ?_
 refine sM 20 (bV (!t15b)) rfl rfl ?_
 refine sF 21 (iV t2) rfl rfl (fun e2 => (v_move (.inl rfl) · · · rfl)) ?_
 refine sF 22 (iV t3) rfl rfl (fun e3 => (v_move (.inl rfl) · · · rfl)) ?_
 refine sF 23 (.d (.sl 1 (([t2, t3]).map (eI .i64)))) rfl rfl (fun e4 => (w_bsl_d [(0, iV t2), (1, iV t3)] [t2, t3] (eI .i64) rfl · · · slT148 zr3 (encI .i64) (ble _ _ rfl) (cc (pr (gv (nF e4))) (cc (pr (gv (nF e4))) rfl)) (by kernel_rfl) rfl rfl (by kernel_rfl))) ?_
 obtain ⟨t24, c6, h⟩ := bpos h
 refine sF 24 (bV t24) rfl rfl (fun e5 => (w_call (ds := [(.s (.int .i64 1)), (.sl 1 (([t2, t3]).map (eI .i64)))]) (caps := []) (l := [(.s (.bool t24))]) (s57 k 1 ([t2, t3]) _ (cpos (nF e5) c6)) rfl rfl rfl en57 · · · (.inl ⟨rfl, rfl⟩) (cc rfl (cc (gv (nF e5)) rfl)) rfl)) ?_
 refine sF 25 (bV (!t24)) rfl rfl (fun e7 => (v_un rfl · · · (gv (nF e7)) (u_not rfl))) ?_
 refine sT 26 (bV ((!t15b) || (!t24))) rfl (v_pickB rfl · · · rfl (fun e8 => rfl) (fun e9 => (gv (nF e9))) (pO _ _)) ?_
 refine sM 27 (bV ((!t15b) || (!t24))) rfl rfl ?_
 refine sF 28 (.ptr 10 1) rfl rfl (fun e10 => (v_field_box (off := 0) (a0 := 1) rfl · · · fo45_1 rfl)) ?_
 refine sF 29 (iV t15a.mEpoch) rfl rfl (fun e11 => (v_load_box1 (id := 10) (off := 1) rfl · · · onT3 (gv (nF e11)) rfl (ble _ _ rfl) rfl)) ?_
 refine sF 30 (iV t2) rfl rfl (fun e12 => (v_move (.inl rfl) · · · rfl)) ?_
 refine sF 31 (bV (!eqI t15a.mEpoch t2)) rfl rfl (fun e13 => (v_bin rfl · · · (gv (nF e13)) (gv (nF e13)) (b_neq rfl))) ?_
 refine sT 32 (bV (((!t15b) || (!t24)) || (!eqI t15a.mEpoch t2))) rfl (v_pickB rfl · · · rfl (fun e14 => rfl) (fun e15 => (gv (nF e15))) (pO _ _)) ?_
 refine sM 33 (bV (((!t15b) || (!t24)) || (!eqI t15a.mEpoch t2))) rfl rfl ?_
 refine sF 34 (.ptr 10 4) rfl rfl (fun e16 => (v_field_box (off := 0) (a0 := 4) rfl · · · fo45_3 rfl)) ?_
 refine sF 35 (iV t15a.mPhase) rfl rfl (fun e17 => (v_load_box1 (id := 10) (off := 4) rfl · · · onT3 (gv (nF e17)) rfl (ble _ _ rfl) rfl)) ?_
 refine sF 36 (bV (!eqI t15a.mPhase 1)) rfl rfl (fun e18 => (v_bin rfl · · · (gv (nF e18)) rfl (b_neq rfl))) ?_
 refine sT 37 (bV ((((!t15b) || (!t24)) || (!eqI t15a.mEpoch t2)) || (!eqI t15a.mPhase 1))) rfl (v_pickB rfl · · · rfl (fun e19 => rfl) (fun e20 => (gv (nF e20))) (pO _ _)) ?_
 refine sM 38 (bV ((((!t15b) || (!t24)) || (!eqI t15a.mEpoch t2)) || (!eqI t15a.mPhase 1))) rfl rfl ?_
 refine sF 39 (.ptr 10 14) rfl rfl (fun e21 => (v_field_box (off := 0) (a0 := 14) rfl · · · fo45_9 rfl)) ?_
 refine sF 40 (iV t15a.mSeen) rfl rfl (fun e22 => (v_load_box1 (id := 10) (off := 14) rfl · · · onT3 (gv (nF e22)) rfl (ble _ _ rfl) rfl)) ?_
 refine sF 41 (iV t3) rfl rfl (fun e23 => (v_move (.inl rfl) · · · rfl)) ?_
 refine sF 42 (bV (leI t3 t15a.mSeen)) rfl rfl (fun e24 => (v_bin rfl · · · (gv (nF e24)) (gv (nF e24)) (b_geq rfl))) ?_
 refine sT 43 (bV (((((!t15b) || (!t24)) || (!eqI t15a.mEpoch t2)) || (!eqI t15a.mPhase 1)) || (leI t3 t15a.mSeen))) rfl (v_pickB rfl · · · rfl (fun e25 => rfl) (fun e26 => (gv (nF e26))) (pO _ _)) ?_
 refine sM 44 (bV (((((!t15b) || (!t24)) || (!eqI t15a.mEpoch t2)) || (!eqI t15a.mPhase 1)) || (leI t3 t15a.mSeen))) rfl rfl ?_
 refine sF 45 (.ptr 10 13) rfl rfl (fun e27 => (v_field_box (off := 0) (a0 := 13) rfl · · · fo45_8 rfl)) ?_
 refine sF 46 (iV t15a.mHold) rfl rfl (fun e28 => (v_load_box1 (id := 10) (off := 13) rfl · · · onT3 (gv (nF e28)) rfl (ble _ _ rfl) rfl)) ?_
 refine sF 47 (bV (!eqI t15a.mHold 0)) rfl rfl (fun e29 => (v_bin rfl · · · (gv (nF e29)) rfl (b_neq rfl))) ?_
 refine sF 48 (bV (!eqI t15a.mHold 0)) rfl rfl (fun e30 => (v_move (.inl rfl) · · · (gv (nF e30)))) ?_
 refine sI 49 (.ptr 10 13) rfl rfl (fun e31 e32 => (v_field_box (off := 0) (a0 := 13) rfl · · · fo45_8 rfl)) ?_
 refine sI 50 (iV t15a.mHold) rfl rfl (fun e33 e34 => (v_load_box1 (id := 10) (off := 13) rfl · · · onT3 (gv (aT e33 e34)) rfl (ble _ _ rfl) rfl)) ?_
 refine sI 51 (iV t3) rfl rfl (fun e35 e36 => (v_move (.inl rfl) · · · rfl)) ?_
 refine sI 52 (bV (!eqI t15a.mHold t3)) rfl rfl (fun e37 e38 => (v_bin rfl · · · (gv (aT e37 e38)) (gv (aT e37 e38)) (b_neq rfl))) ?_
 refine sF 53 (bV ((!eqI t15a.mHold 0) && (!eqI t15a.mHold t3))) rfl rfl (fun e39 => (v_pickB rfl · · · (gv (nF e39)) (fun e40 => (gv (aT (nF e39) e40))) (fun e41 => rfl) (pA _ _))) ?_
 refine sT 54 (bV ((((((!t15b) || (!t24)) || (!eqI t15a.mEpoch t2)) || (!eqI t15a.mPhase 1)) || (leI t3 t15a.mSeen)) || ((!eqI t15a.mHold 0) && (!eqI t15a.mHold t3)))) rfl (v_pickB rfl · · · rfl (fun e42 => rfl) (fun e43 => (gv (nF e43))) (pO _ _)) ?_
 refine sq_nil ?_
 refine ht_cond rfl (fun e44 => ?_) (fun e44 => ?_)
 ·replace h := cpos e44 h
  refine sr ?_
  refine sT 55 (.d (.agg (eCell t0))) rfl (w_ldp (eCell t0) (eCell t0) rfl · · · ag26 rfl (ble _ _ rfl) rfl) ?_
  refine sq_cons _ (v_store_box (id := 8) (off := 0) (cs := (eCell t0).map V.d) rfl trivial rfl sz26 rfl rfl rfl rfl (ones_of rfl) (ble _ _ rfl)) ?_
  refine sM 9 (bV false) rfl rfl ?_
  refine sq_nil ?_
  refine ht_ret ?_
  cases h
  exact ret2 rfl (.cell rfl rfl ag26 (ble _ _ rfl) rfl) (.tmp rfl)
 replace h := cneg e44 h
 refine ht_skip ?_
 refine sr ?_
 refine sM 56 (iV t3) rfl rfl ?_
 refine sT 57 (.ptr 10 13) rfl (v_field_box (off := 0) (a0 := 13) rfl · · · fo45_8 rfl) ?_
 refine sq_cons _ (v_store_box (id := 10) (off := 13) (cs := [(.s (.int .i64 t3))].map V.d) rfl trivial rfl sz3 rfl rfl rfl rfl (ones_of rfl) (ble _ _ rfl)) ?_
 refine sq_nil ?_
 refine sr ?_
 refine sT 58 (.d (.agg (eCell t0))) rfl (w_ldp (eCell t0) (eCell t0) rfl · · · ag26 rfl (ble _ _ rfl) rfl) ?_
 refine sT 59 (.d (.agg (eShard ({t15a with mHold := t3})))) rfl (w_ldb 10 0 rfl · · · ag45 rfl rfl (ble _ _ rfl) rfl) ?_
 obtain ⟨t60, c45, h⟩ := bpos h
 refine sT 60 (.d (.agg (eCell t60))) rfl (w_call (ds := [(.agg (eCell t0)), (.agg (eShard ({t15a with mHold := t3})))]) (caps := []) (l := [(.agg (eCell t60))]) (s95 k t0 ({t15a with mHold := t3}) _ c45) rfl rfl rfl en95 · · · (.inl ⟨rfl, rfl⟩) rfl rfl) ?_
 refine sq_cons _ (v_store_box (id := 8) (off := 0) (cs := (eCell t60).map V.d) rfl trivial rfl sz26 rfl rfl rfl rfl (ones_of rfl) (ble _ _ rfl)) ?_
 refine sM 9 (bV true) rfl rfl ?_
 refine sq_nil ?_
 refine ht_ret ?_
 cases h
 exact ret2 rfl (.cell rfl rfl ag26 (ble _ _ rfl) rfl) (.tmp rfl)
theorem s32 (k : Nat) (t0 : Cell) (t1 : Int) (t2 : Int) (t3 : Stamp) (r : Cell × Bool) (h : F32 k t0 t1 t2 t3 = some r) : Awp.Spec Tryz.prog amb 32 [(.agg (eCell t0)), (.s (.int .i64 t1)), (.s (.int .i64 t2)), (.agg (eStamp t3))] (.ds [(.agg (eCell r.1)), (.s (.bool r.2))]) := by
 rw [F32] at h
 refine spec_of Tryz.func32 rfl (ble _ _ rfl) fun w0 ok0 lt0 hA => ?_
 refine sr ?_
 refine sq_cons _ (v_box (id := 4) (cs := (eCell t0).map V.d) rfl trivial rfl (ble _ _ rfl) rfl rfl (ones_of rfl) rfl) ?_
 refine sT 7 (.d (.dp (eStamp t3))) rfl (v_box_d (cs := (eStamp t3)) rfl · · · rfl rfl (ones_of rfl)) ?_
 refine sq_cons _ (v_alloc (id := 8) (cs := zc26) rfl trivial rfl (ble _ _ rfl) zu26 rfl ft26 rfl) ?_
 refine sM 9 (bV false) rfl rfl ?_
 refine sq_nil ?_
 refine sr ?_
 refine sT 13 (.d (.agg (eCell t0))) rfl (w_ldb 4 0 rfl · · · ag26 rfl rfl (ble _ _ rfl) rfl) ?_
 refine sM 14 (iV t1) rfl rfl ?_
 obtain ⟨⟨t15a, t15b⟩, c1, h⟩ := bpos h
 refine sT 15 (.tup [.d (.agg (eShard t15a)), bV t15b]) rfl (w_call (ds := [(.agg (eCell t0)), (.s (.int .i64 t1))]) (caps := []) (l := [(.agg (eShard t15a)), (.s (.bool t15b))]) (s23 k t0 t1 _ c1) rfl rfl rfl en23 · · · (.inl ⟨rfl, rfl⟩) rfl rfl) ?_
 refine sM 12 (.tup [.d (.agg (eShard t15a)), bV t15b]) rfl rfl ?_
 refine sT 16 (.d (.agg (eShard t15a))) rfl (v_extract rfl · · · rfl rfl) ?_
 refine sT 17 (bV t15b) rfl (v_extract rfl · · · rfl rfl) ?_
 refine sq_cons _ (v_alloc (id := 10) (cs := zc45) rfl trivial rfl (ble _ _ rfl) zu45 rfl ft45 rfl) ?_
 refine sq_cons _ (v_store_box (id := 10) (off := 0) (cs := (eShard t15a).map V.d) rfl trivial rfl sz45 rfl rfl rfl rfl (ones_of rfl) (ble _ _ rfl)) ?_
 refine sM 11 (bV t15b) rfl rfl ?_
 refine sq_nil ?_
 refine ht_seq ?_
 refine sr ?_
 refine sM 18 (bV t15b) rfl rfl ?_
 refine sT 19 (bV (!t15b)) rfl (v_un rfl · · · rfl (u_not rfl)) ?_
 refine sM 20 (bV (!t15b)) rfl rfl ?_
 refine sF 21 (iV t2) rfl rfl (fun e2 => (v_move (.inl rfl) · · · rfl)) ?_
 refine sF 22 (.d (.sl 1 (([t2]).map (eI .i64)))) rfl rfl (fun e3 => (w_bsl_d [(0, iV t2)] [t2] (eI .i64) rfl · · · slT148 zr3 (encI .i64) (ble _ _ rfl) (cc (pr (gv (nF e3))) rfl) (by kernel_rfl) rfl rfl (by kernel_rfl))) ?_
 obtain ⟨t23, c5, h⟩ := bpos h
 refine sF 23 (bV t23) rfl rfl (fun e4 => (w_call (ds := [(.s (.int .i64 1)), (.sl 1 (([t2]).map (eI .i64)))]) (caps := []) (l := [(.s (.bool t23))]) (s57 k 1 ([t2]) _ (cpos (nF e4) c5)) rfl rfl rfl en57 · · · (.inl ⟨rfl, rfl⟩) (cc rfl (cc (gv (nF e4)) rfl)) rfl)) ?_
 refine sF 24 (bV (!t23)) rfl rfl (fun e6 => (v_un rfl · · · (gv (nF e6)) (u_not rfl))) ?_
 refine sT 25 (bV ((!t15b) || (!t23))) rfl (v_pickB rfl · · · rfl (fun e7 => rfl) (fun e8 => (gv (nF e8))) (pO _ _)) ?_
 refine sM 26 (bV ((!t15b) || (!t23))) rfl rfl ?_
 refine sF 27 (.d (.agg (eStamp t3))) rfl rfl (fun e9 => (w_ldp (eStamp t3) (eStamp t3) rfl · · · ag24 rfl (ble _ _ rfl) rfl)) ?_
 obtain ⟨t28, c11, h⟩ := bpos h
 refine sF 28 (bV t28) rfl rfl (fun e10 => (w_call (ds := [(.agg (eStamp t3))]) (caps := []) (l := [(.s (.bool t28))]) (s36 k t3 _ (cpos (nF e10) c11)) rfl rfl rfl en36 · · · (.inl ⟨rfl, rfl⟩) (cc (gv (nF e10)) rfl) rfl)) ?_
 refine sF 29 (bV (!t28)) rfl rfl (fun e12 => (v_un rfl · · · (gv (nF e12)) (u_not rfl))) ?_
 refine sT 30 (bV (((!t15b) || (!t23)) || (!t28))) rfl (v_pickB rfl · · · rfl (fun e13 => rfl) (fun e14 => (gv (nF e14))) (pO _ _)) ?_
 refine sq_nil ?_
 refine ht_cond rfl (fun e15 => ?_) (fun e15 => ?_)
 ·replace h := cpos e15 h
  refine sr ?_
  refine sT 31 (.d (.agg (eCell t0))) rfl (w_ldb 4 0 rfl · · · ag26 rfl rfl (ble _ _ rfl) rfl) ?_
  refine sq_cons _ (v_store_box (id := 8) (off := 0) (cs := (eCell t0).map V.d) rfl trivial rfl sz26 rfl rfl rfl rfl (ones_of rfl) (ble _ _ rfl)) ?_
  refine sM 9 (bV false) rfl rfl ?_
  refine sq_nil ?_
  refine ht_ret ?_
  cases h
  exact ret2 rfl (.cell rfl rfl ag26 (ble _ _ rfl) rfl) (.tmp rfl)
 replace h := cneg e15 h
 refine ht_skip ?_
 refine ht_seq ?_
 refine sr ?_
 refine sT 32 (.ptr 10 14) rfl (v_field_box (off := 0) (a0 := 14) rfl · · · fo45_9 rfl) ?_
 refine sT 33 (iV t15a.mSeen) rfl (v_load_box1 (id := 10) (off := 14) rfl · · · onT3 rfl rfl (ble _ _ rfl) rfl) ?_
 refine sM 34 (iV t2) rfl rfl ?_
 refine sT 35 (bV (leI t2 t15a.mSeen)) rfl (v_bin rfl · · · rfl rfl (b_geq rfl)) ?_
 refine sq_nil ?_
 refine ht_cond rfl (fun e16 => ?_) (fun e16 => ?_)
 ·replace h := cpos e16 h
  refine sr ?_
  refine sT 36 (.d (.agg (eCell t0))) rfl (w_ldb 4 0 rfl · · · ag26 rfl rfl (ble _ _ rfl) rfl) ?_
  refine sq_cons _ (v_store_box (id := 8) (off := 0) (cs := (eCell t0).map V.d) rfl trivial rfl sz26 rfl rfl rfl rfl (ones_of rfl) (ble _ _ rfl)) ?_
  refine sM 9 (bV true) rfl rfl ?_
  refine sq_nil ?_
  refine ht_ret ?_
  cases h
  exact ret2 rfl (.cell rfl rfl ag26 (ble _ _ rfl) rfl) (.tmp rfl)
 replace h := cneg e16 h
 refine ht_skip ?_
 refine sr ?_
 refine sM 37 (iV t2) rfl rfl ?_
 refine sT 38 (.ptr 10 14) rfl (v_field_box (off := 0) (a0 := 14) rfl · · · fo45_9 rfl) ?_
 refine sq_cons _ (v_store_box (id := 10) (off := 14) (cs := [(.s (.int .i64 t2))].map V.d) rfl trivial rfl sz3 rfl rfl rfl rfl (ones_of rfl) (ble _ _ rfl)) ?_
 refine sq_nil ?_
 refine ht_bj h (fun t10c13 => tell [(.b 4, .box false 5), (.b 8, .box false 5), (.b 10, .box false 17), (.c 4 0, .d (.sl 17 (t0.mShards.map eShard))), (.c 4 1, iV t0.mTop.mWall), (.c 4 2, iV t0.mTop.mTick), (.c 4 3, iV t0.mTop.mNode), (.c 4 4, iV t0.mDropped), (.c 8 0, .d (.sl 17 (([] : List Shard).map eShard))), (.c 8 1, iV 0), (.c 8 2, iV 0), (.c 8 3, iV 0), (.c 8 4, iV 0), (.c 10 0, iV t15a.mID), (.c 10 1, iV t15a.mEpoch), (.c 10 2, sV t15a.mSpan.mLo), (.c 10 3, sV t15a.mSpan.mHi), (.c 10 4, iV t15a.mPhase), (.c 10 5, .d (.sl 2 (t15a.mEntries.map eEntry))), (.c 10 6, iV t15a.mMark.mWall), (.c 10 7, iV t15a.mMark.mTick), (.c 10 8, iV t15a.mMark.mNode), (.c 10 9, iV t15a.mTop.mWall), (.c 10 10, iV t15a.mTop.mTick), (.c 10 11, iV t15a.mTop.mNode), (.c 10 12, .d (.sl 11 (t15a.mDone.map eDone))), (.c 10 13, iV t10c13), (.c 10 14, iV t2), (.c 10 15, iV t15a.mMove), (.c 10 16, iV t15a.mClosed), (.t 4, .ptr 4 0), (.t 7, .d (.dp (eStamp t3))), (.t 8, .ptr 8 0), (.t 10, .ptr 10 0)]) (fun t10c13 h => ?_) (fun v17 K18 h j20 => ?_)
 ·refine sr ?_
  refine sT 44 (.d (.agg (eCell t0))) rfl (w_ldb 4 0 rfl · · · ag26 rfl rfl (ble _ _ rfl) rfl) ?_
  refine sT 45 (.d (.agg (eShard ({t15a with mHold := t10c13, mSeen := t2})))) rfl (w_ldb 10 0 rfl · · · ag45 rfl rfl (ble _ _ rfl) rfl) ?_
  obtain ⟨t46, c23, h⟩ := bpos h
  refine sT 46 (.d (.agg (eCell t46))) rfl (w_call (ds := [(.agg (eCell t0)), (.agg (eShard ({t15a with mHold := t10c13, mSeen := t2})))]) (caps := []) (l := [(.agg (eCell t46))]) (s95 k t0 ({t15a with mHold := t10c13, mSeen := t2}) _ c23) rfl rfl rfl en95 · · · (.inl ⟨rfl, rfl⟩) rfl rfl) ?_
  refine sq_cons _ (v_store_box (id := 4) (off := 0) (cs := (eCell t46).map V.d) rfl trivial rfl sz26 rfl rfl rfl rfl (ones_of rfl) (ble _ _ rfl)) ?_
  refine sq_nil ?_
  refine sr ?_
  refine sT 47 (.ptr 4 1) rfl (v_field_box (off := 0) (a0 := 1) rfl · · · fo26_1 rfl) ?_
  refine sT 48 (.d (.agg (eStamp t46.mTop))) rfl (w_ldb 4 1 rfl · · · ag24 rfl rfl (ble _ _ rfl) rfl) ?_
  refine sT 49 (.d (.agg (eStamp t3))) rfl (w_ldp (eStamp t3) (eStamp t3) rfl · · · ag24 rfl (ble _ _ rfl) rfl) ?_
  obtain ⟨t50, c24, h⟩ := bpos h
  refine sT 50 (.d (.agg (eStamp t50))) rfl (w_call (ds := [(.agg (eStamp t46.mTop)), (.agg (eStamp t3))]) (caps := []) (l := [(.agg (eStamp t50))]) (s37 k t46.mTop t3 _ c24) rfl rfl rfl en37 · · · (.inl ⟨rfl, rfl⟩) rfl rfl) ?_
  refine sT 51 (.ptr 4 1) rfl (v_field_box (off := 0) (a0 := 1) rfl · · · fo26_1 rfl) ?_
  refine sq_cons _ (v_store_box (id := 4) (off := 1) (cs := (eStamp t50).map V.d) rfl trivial rfl sz24 rfl rfl rfl rfl (ones_of rfl) (ble _ _ rfl)) ?_
  refine sq_nil ?_
  refine sr ?_
  refine sT 52 (.d (.agg (eCell ({t46 with mTop := t50})))) rfl (w_ldb 4 0 rfl · · · ag26 rfl rfl (ble _ _ rfl) rfl) ?_
  refine sq_cons _ (v_store_box (id := 8) (off := 0) (cs := (eCell ({t46 with mTop := t50})).map V.d) rfl trivial rfl sz26 rfl rfl rfl rfl (ones_of rfl) (ble _ _ rfl)) ?_
  refine sM 9 (bV true) rfl rfl ?_
  refine sq_nil ?_
  refine ht_ret ?_
  cases h
  exact ret2 rfl (.cell rfl rfl ag26 (ble _ _ rfl) rfl) (.tmp rfl)
 refine sr ?_
 refine sT 39 (.ptr 10 13) rfl (v_field_box (off := 0) (a0 := 13) rfl · · · fo45_8 rfl) ?_
 refine sT 40 (iV t15a.mHold) rfl (v_load_box1 (id := 10) (off := 13) rfl · · · onT3 rfl rfl (ble _ _ rfl) rfl) ?_
 refine sM 41 (iV t2) rfl rfl ?_
 refine sT 42 (bV (eqI t15a.mHold t2)) rfl (v_bin rfl · · · rfl rfl (b_eql rfl)) ?_
 refine sq_nil ?_
 refine ht_cond rfl (fun e22 => ?_) (fun e22 => ?_)
 ·replace h := cpos e22 h
  refine ht_region ?_
  refine sT 43 (.ptr 10 13) rfl (v_field_box (off := 0) (a0 := 13) rfl · · · fo45_8 rfl) ?_
  refine sq_cons _ (v_store_box (id := 10) (off := 13) (cs := [(.s (.int .i64 0))].map V.d) rfl trivial rfl sz3 rfl rfl rfl rfl (ones_of rfl) (ble _ _ rfl)) ?_
  refine sq_nil ?_
  cases h
  exact j20 _ (wk_ren _ (fun i => i) rfl ⟨rfl, rfl, rfl, rfl, rfl, rfl, rfl, rfl, rfl, rfl, rfl, rfl, rfl, rfl, rfl, rfl, rfl, rfl, rfl, rfl, rfl, rfl, rfl, rfl, rfl, rfl, rfl, rfl, rfl, rfl, rfl, rfl, rfl, rfl, trivial⟩)
 replace h := cneg e22 h
 refine ht_skip ?_
 cases h
 exact j20 _ (wk_ren _ (fun i => i) rfl ⟨rfl, rfl, rfl, rfl, rfl, rfl, rfl, rfl, rfl, rfl, rfl, rfl, rfl, rfl, rfl, rfl, rfl, rfl, rfl, rfl, rfl, rfl, rfl, rfl, rfl, rfl, rfl, rfl, rfl, rfl, rfl, rfl, rfl, rfl, trivial⟩)
theorem s34 (k : Nat) (t0 : Cell) (t1 : Stamp) (r : Cell) (h : F34 k t0 t1 = some r) : Awp.Spec Tryz.prog amb 34 [(.agg (eCell t0)), (.agg (eStamp t1))] (.ds [(.agg (eCell r))]) := by
 rw [F34] at h
 refine spec_of Tryz.func34 rfl (ble _ _ rfl) fun w0 ok0 lt0 hA => ?_
 refine sr ?_
 refine sq_cons _ (v_box (id := 2) (cs := (eCell t0).map V.d) rfl trivial rfl (ble _ _ rfl) rfl rfl (ones_of rfl) rfl) ?_
 refine sT 3 (.d (.dp (eStamp t1))) rfl (v_box_d (cs := (eStamp t1)) rfl · · · rfl rfl (ones_of rfl)) ?_
 refine sq_cons _ (v_alloc (id := 4) (cs := zc26) rfl trivial rfl (ble _ _ rfl) zu26 rfl ft26 rfl) ?_
 refine sq_nil ?_
 refine ht_seq ?_
 refine sr ?_
 refine sT 5 (.d (.agg (eCell t0))) rfl (w_ldb 2 0 rfl · · · ag26 rfl rfl (ble _ _ rfl) rfl) ?_
 obtain ⟨t6, c1, h⟩ := bpos h
 refine sT 6 (bV t6) rfl (w_call (ds := [(.agg (eCell t0))]) (caps := []) (l := [(.s (.bool t6))]) (s25 k t0 _ c1) rfl rfl rfl en25 · · · (.inl ⟨rfl, rfl⟩) rfl rfl) ?_
 refine sM 7 (bV t6) rfl rfl ?_
 refine sG 8 (.d (.agg (eStamp t1))) rfl rfl (fun e2 => (w_ldp (eStamp t1) (eStamp t1) rfl · · · ag24 rfl (ble _ _ rfl) rfl)) ?_
 obtain ⟨t9, c4, h⟩ := bpos h
 refine sG 9 (bV t9) rfl rfl (fun e3 => (w_call (ds := [(.agg (eStamp t1))]) (caps := []) (l := [(.s (.bool t9))]) (s36 k t1 _ (cpos e3 c4)) rfl rfl rfl en36 · · · (.inl ⟨rfl, rfl⟩) (cc (gv e3) rfl) rfl)) ?_
 refine sT 10 (bV (t6 && t9)) rfl (v_pickB rfl · · · rfl (fun e5 => (gv e5)) (fun e6 => rfl) (pA _ _)) ?_
 refine sq_nil ?_
 refine ht_cond rfl (fun e7 => ?_) (fun e7 => ?_)
 ·replace h := cpos e7 h
  refine ht_region ?_
  refine sT 11 (.ptr 2 1) rfl (v_field_box (off := 0) (a0 := 1) rfl · · · fo26_1 rfl) ?_
  refine sT 12 (.d (.agg (eStamp t0.mTop))) rfl (w_ldb 2 1 rfl · · · ag24 rfl rfl (ble _ _ rfl) rfl) ?_
  refine sT 13 (.d (.agg (eStamp t1))) rfl (w_ldp (eStamp t1) (eStamp t1) rfl · · · ag24 rfl (ble _ _ rfl) rfl) ?_
  obtain ⟨t14, c8, h⟩ := bpos h
  refine sT 14 (.d (.agg (eStamp t14))) rfl (w_call (ds := [(.agg (eStamp t0.mTop)), (.agg (eStamp t1))]) (caps := []) (l := [(.agg (eStamp t14))]) (s37 k t0.mTop t1 _ c8) rfl rfl rfl en37 · · · (.inl ⟨rfl, rfl⟩) rfl rfl) ?_
  refine sT 15 (.ptr 2 1) rfl (v_field_box (off := 0) (a0 := 1) rfl · · · fo26_1 rfl) ?_
  refine sq_cons _ (v_store_box (id := 2) (off := 1) (cs := (eStamp t14).map V.d) rfl trivial rfl sz24 rfl rfl rfl rfl (ones_of rfl) (ble _ _ rfl)) ?_
  refine sq_nil ?_
  refine sr ?_
  refine sT 16 (.d (.agg (eCell ({t0 with mTop := t14})))) rfl (w_ldb 2 0 rfl · · · ag26 rfl rfl (ble _ _ rfl) rfl) ?_
  refine sq_cons _ (v_store_box (id := 4) (off := 0) (cs := (eCell ({t0 with mTop := t14})).map V.d) rfl trivial rfl sz26 rfl rfl rfl rfl (ones_of rfl) (ble _ _ rfl)) ?_
  refine sq_nil ?_
  refine ht_ret ?_
  cases h
  exact ret1 rfl (.cell rfl rfl ag26 (ble _ _ rfl) rfl)
 replace h := cneg e7 h
 refine ht_skip ?_
 refine sr ?_
 refine sT 16 (.d (.agg (eCell t0))) rfl (w_ldb 2 0 rfl · · · ag26 rfl rfl (ble _ _ rfl) rfl) ?_
 refine sq_cons _ (v_store_box (id := 4) (off := 0) (cs := (eCell t0).map V.d) rfl trivial rfl sz26 rfl rfl rfl rfl (ones_of rfl) (ble _ _ rfl)) ?_
 refine sq_nil ?_
 refine ht_ret ?_
 cases h
 exact ret1 rfl (.cell rfl rfl ag26 (ble _ _ rfl) rfl)
theorem s144 (k : Nat) (t0 : List Version) (t1 : Stamp) (r : (List Version)) (h : F144 k t0 t1 = some r) : Awp.Spec Tryz.prog amb 144 [(.sl 5 (t0.map eVersion)), (.agg (eStamp t1))] (.ds [(.sl 5 (r.map eVersion))]) := by
 rw [F144] at h
 refine spec_of Tryz.func144 rfl (ble _ _ rfl) fun w0 ok0 lt0 hA => ?_
 refine sr ?_
 refine sT 3 (.d (.dp (eStamp t1))) rfl (v_box_d (cs := (eStamp t1)) rfl · · · rfl rfl (ones_of rfl)) ?_
 refine sM 4 (.d (.s (.slice none 0 0))) rfl rfl ?_
 refine sq_nil ?_
 refine ht_seq ?_
 refine sr ?_
 refine sM 6 (.d (.sl 5 (t0.map eVersion))) rfl rfl ?_
 obtain ⟨t7, c1, h⟩ := bpos h
 refine sT 7 (bV t7) rfl (w_call (ds := [(.sl 5 (t0.map eVersion))]) (caps := []) (l := [(.s (.bool t7))]) (s136 k t0 _ c1) rfl rfl rfl en136 · · · (.inl ⟨rfl, rfl⟩) rfl rfl) ?_
 refine sT 8 (bV (!t7)) rfl (v_un rfl · · · rfl (u_not rfl)) ?_
 refine sq_nil ?_
 refine ht_cond rfl (fun e2 => ?_) (fun e2 => ?_)
 ·replace h := cpos e2 h
  refine sr ?_
  refine sM 4 (.d (.s (.slice none 0 0))) rfl rfl ?_
  refine sq_nil ?_
  refine ht_ret ?_
  cases h
  exact retM_wk (wk_nil (.t 4) (nb 4) 5 rfl) (ret1 rfl (.tmp rfl))
 replace h := cneg e2 h
 refine ht_skip ?_
 refine sr ?_
 refine sM 9 (.d (.sl 5 (t0.map eVersion))) rfl rfl ?_
 refine sT 10 (.d (.agg (eStamp t1))) rfl (w_ldp (eStamp t1) (eStamp t1) rfl · · · ag24 rfl (ble _ _ rfl) rfl) ?_
 obtain ⟨t11, c3, h⟩ := bpos h
 refine sT 11 (iV t11) rfl (w_call (ds := [(.sl 5 (t0.map eVersion)), (.agg (eStamp t1))]) (caps := []) (l := [(.s (.int .i64 t11))]) (s169 k t0 t1 _ c3) rfl rfl rfl en169 · · · (.inl ⟨rfl, rfl⟩) rfl rfl) ?_
 refine sM 5 (iV t11) rfl rfl ?_
 refine sq_nil ?_
 refine ht_seq ?_
 refine sr ?_
 refine sM 12 (iV t11) rfl rfl ?_
 refine sT 13 (bV (ltI 0 t11)) rfl (v_bin rfl · · · rfl rfl (b_gtr rfl)) ?_
 refine sM 14 (bV (ltI 0 t11)) rfl rfl ?_
 refine sG 15 (.d (.sl 5 (t0.map eVersion))) rfl rfl (fun e4 => (v_move (.inl rfl) · · · rfl)) ?_
 refine sG 16 (iV t11) rfl rfl (fun e5 => (v_move (.inl rfl) · · · rfl)) ?_
 refine sG 17 (iV (IntKind.wrap .i64 (t11 - 1))) rfl rfl (fun e6 => (v_bin rfl · · · (gv e6) rfl (b_sub rfl))) ?_
 obtain ⟨e8, h⟩ := gpos h
 refine sG 18 (.d (.dp (eVersion (rd t0 (IntKind.wrap .i64 (t11 - 1)))))) rfl rfl (fun e7 => (w_idx t0 eVersion rfl · · · slT96 (gv e7) (gv e7) (orT e8 e7))) ?_
 refine sG 19 (.d (.dp (List.drop 3 (eVersion (rd t0 (IntKind.wrap .i64 (t11 - 1))))))) rfl rfl (fun e9 => (v_field_dp (a0 := 3) (cs := (eVersion (rd t0 (IntKind.wrap .i64 (t11 - 1))))) rfl · · · fo93_1 (gv e9))) ?_
 refine sG 20 (bV (rd t0 (IntKind.wrap .i64 (t11 - 1))).mGone) rfl rfl (fun e10 => (v_load_dp1 rfl · · · onT4 (gv e10) rfl)) ?_
 refine sG 21 (bV (!(rd t0 (IntKind.wrap .i64 (t11 - 1))).mGone)) rfl rfl (fun e11 => (v_un rfl · · · (gv e11) (u_not rfl))) ?_
 refine sT 22 (bV ((ltI 0 t11) && (!(rd t0 (IntKind.wrap .i64 (t11 - 1))).mGone))) rfl (v_pickB rfl · · · rfl (fun e12 => (gv e12)) (fun e13 => rfl) (pA _ _)) ?_
 refine sq_nil ?_
 refine ht_cond rfl (fun e14 => ?_) (fun e14 => ?_)
 ·replace h := cpos e14 h
  refine ht_region ?_
  refine sM 23 (iV t11) rfl rfl ?_
  refine sT 24 (iV (IntKind.wrap .i64 (t11 - 1))) rfl (v_bin rfl · · · rfl rfl (b_sub rfl)) ?_
  refine sM 5 (iV (IntKind.wrap .i64 (t11 - 1))) rfl rfl ?_
  refine sq_nil ?_
  refine sr ?_
  refine sM 25 (.d (.sl 5 (t0.map eVersion))) rfl rfl ?_
  refine sM 26 (iV (IntKind.wrap .i64 (t11 - 1))) rfl rfl ?_
  obtain ⟨e15, h⟩ := gpos h
  refine sT 27 (.d (.sl 5 ((List.drop (IntKind.wrap .i64 (t11 - 1)).toNat t0).map eVersion))) rfl (w_cutl t0 eVersion rfl · · · slT96 rfl rfl e15) ?_
  obtain ⟨t28, c16, h⟩ := bpos h
  refine sT 28 (.d (.sl 5 (t28.map eVersion))) rfl (w_call (ds := [(.sl 5 ((List.drop (IntKind.wrap .i64 (t11 - 1)).toNat t0).map eVersion))]) (caps := []) (l := [(.sl 5 (t28.map eVersion))]) (s170 k (List.drop (IntKind.wrap .i64 (t11 - 1)).toNat t0) _ c16) rfl rfl rfl en170 · · · (.inl ⟨rfl, rfl⟩) rfl rfl) ?_
  refine sM 4 (.d (.sl 5 (t28.map eVersion))) rfl rfl ?_
  refine sq_nil ?_
  refine ht_ret ?_
  cases h
  exact ret1 rfl (.tmp rfl)
 replace h := cneg e14 h
 refine ht_skip ?_
 refine sr ?_
 refine sM 25 (.d (.sl 5 (t0.map eVersion))) rfl rfl ?_
 refine sM 26 (iV t11) rfl rfl ?_
 obtain ⟨e17, h⟩ := gpos h
 refine sT 27 (.d (.sl 5 ((List.drop t11.toNat t0).map eVersion))) rfl (w_cutl t0 eVersion rfl · · · slT96 rfl rfl e17) ?_
 obtain ⟨t28_1, c18, h⟩ := bpos h
 refine sT 28 (.d (.sl 5 (t28_1.map eVersion))) rfl (w_call (ds := [(.sl 5 ((List.drop t11.toNat t0).map eVersion))]) (caps := []) (l := [(.sl 5 (t28_1.map eVersion))]) (s170 k (List.drop t11.toNat t0) _ c18) rfl rfl rfl en170 · · · (.inl ⟨rfl, rfl⟩) rfl rfl) ?_
 refine sM 4 (.d (.sl 5 (t28_1.map eVersion))) rfl rfl ?_
 refine sq_nil ?_
 refine ht_ret ?_
 cases h
 exact ret1 rfl (.tmp rfl)
theorem s99 (k : Nat) (t0 : List Entry) (t1 : Stamp) (r : (List Entry)) (h : F99 k t0 t1 = some r) : Awp.Spec Tryz.prog amb 99 [(.sl 2 (t0.map eEntry)), (.agg (eStamp t1))] (.ds [(.sl 2 (r.map eEntry))]) := by
 rw [F99] at h
 refine spec_of Tryz.func99 rfl (ble _ _ rfl) fun w0 ok0 lt0 hA => ?_
 refine sr ?_
 refine sT 3 (.d (.dp (eStamp t1))) rfl (v_box_d (cs := (eStamp t1)) rfl · · · rfl rfl (ones_of rfl)) ?_
 refine sM 4 (.d (.s (.slice none 0 0))) rfl rfl ?_
 refine sq_nil ?_
 refine ht_seq ?_
 refine sr ?_
 refine sM 9 (.d (.sl 2 (t0.map eEntry))) rfl rfl ?_
 obtain ⟨t10, c1, h⟩ := bpos h
 refine sT 10 (bV t10) rfl (w_call (ds := [(.sl 2 (t0.map eEntry))]) (caps := []) (l := [(.s (.bool t10))]) (s81 k t0 _ c1) rfl rfl rfl en81 · · · (.inl ⟨rfl, rfl⟩) rfl rfl) ?_
 refine sT 11 (bV (!t10)) rfl (v_un rfl · · · rfl (u_not rfl)) ?_
 refine sq_nil ?_
 refine ht_cond rfl (fun e2 => ?_) (fun e2 => ?_)
 ·replace h := cpos e2 h
  refine sr ?_
  refine sM 4 (.d (.s (.slice none 0 0))) rfl rfl ?_
  refine sq_nil ?_
  refine ht_ret ?_
  cases h
  exact retM_wk (wk_nil (.t 4) (nb 4) 2 rfl) (ret1 rfl (.tmp rfl))
 replace h := cneg e2 h
 refine ht_skip ?_
 refine sr ?_
 refine sM 5 (.d (.s (.slice none 0 0))) rfl rfl ?_
 refine sq_nil ?_
 refine ht_bj h (fun t5 => tell [(.b 1005, .row false 116 2 (t5.map eEntry)), (.t 5, .own 1005 2 t5.length)]) (fun t5 h => ?_) (fun v3 K4 h j6 => ?_)
 ·refine sr ?_
  refine sM 33 (.own 1005 2 t5.length) rfl rfl ?_
  refine sM 4 (.own 1005 2 t5.length) rfl rfl ?_
  refine sq_nil ?_
  refine ht_ret ?_
  cases h
  exact retM_wk (wk_still_row 1005 _ _ _ rfl) (retM_wk (wk_row (.t 4) (nb 4) 1005 _ _ _ _ rfl rfl (lm _ _)) (retM_wk (wk_row (.t 5) (nb 5) 1005 _ _ _ _ rfl rfl (lm _ _)) (retM_wk (wk_row (.t 33) (nb 33) 1005 _ _ _ _ rfl rfl (lm _ _)) (ret1 rfl (.tmp rfl)))))
 refine sr ?_
 refine sM 12 (.d (.sl 2 (t0.map eEntry))) rfl rfl ?_
 refine sT 13 (iV (t0.length : Int)) rfl (w_len t0 eEntry rfl rfl · · · slT42 rfl) ?_
 refine sM 14 (iV 0) rfl rfl ?_
 refine sq_nil ?_
 refine ht_block ?_
 refine ht_rd h (fun _ => rfl) (fun (t5_1, t14) => tell [(.b 1005, .row false 116 2 (t5_1.map eEntry)), (.t 3, .d (.dp (eStamp t1))), (.t 5, .own 1005 2 t5_1.length), (.t 12, .d (.sl 2 (t0.map eEntry))), (.t 13, iV (t0.length : Int)), (.t 14, iV t14)]) (wkt (wk_nilrow (.t 5) (nb 5) 1001005 116 2 rfl rfl) (wk_ren _ (fun i => bif Nat.beq i 1005 then 1001005 else i) rfl ⟨rfl, rfl, rfl, rfl, rfl, rfl, trivial⟩)) fun k v10 h K16 j9 => ?_
 obtain ⟨t5_1, t14⟩ := v10
 rw [F99_l1] at h
 refine sr ?_
 refine sT 15 (bV (ltI t14 (t0.length : Int))) rfl (v_bin rfl · · · rfl rfl (b_lss rfl)) ?_
 refine sq_nil ?_
 refine ht_seq ?_
 refine ht_cond rfl (fun e11 => ?_) (fun e11 => ?_)
 ·replace h := cpos e11 h
  refine ht_skip ?_
  refine ht_seq ?_
  refine ht_block ?_
  refine sr ?_
  obtain ⟨e12, h⟩ := gpos h
  refine sT 16 (.d (.dp (eEntry (rd t0 t14)))) rfl (w_idx t0 eEntry rfl · · · slT42 rfl rfl e12) ?_
  refine sT 17 (.d (.agg (eEntry (rd t0 t14)))) rfl (w_ldp (eEntry (rd t0 t14)) (eEntry (rd t0 t14)) rfl · · · ag116 rfl (ble _ _ rfl) rfl) ?_
  refine sq_cons _ (v_alloc (id := 7) (cs := zc116) rfl trivial rfl (ble _ _ rfl) zu116 rfl ft116 rfl) ?_
  refine sq_cons _ (v_store_box (id := 7) (off := 0) (cs := (eEntry (rd t0 t14)).map V.d) rfl trivial rfl sz116 rfl rfl rfl rfl (ones_of rfl) (ble _ _ rfl)) ?_
  refine sq_nil ?_
  refine sr ?_
  refine sT 18 (.ptr 7 1) rfl (v_field_box (off := 0) (a0 := 1) rfl · · · fo116_1 rfl) ?_
  refine sT 19 (.d (.sl 5 ((rd t0 t14).mChain.map eVersion))) rfl (v_load_box1 (id := 7) (off := 1) rfl · · · onT96 rfl rfl (ble _ _ rfl) rfl) ?_
  refine sT 20 (.d (.agg (eStamp t1))) rfl (w_ldp (eStamp t1) (eStamp t1) rfl · · · ag24 rfl (ble _ _ rfl) rfl) ?_
  obtain ⟨t21, c13, h⟩ := bpos h
  refine sT 21 (.d (.sl 5 (t21.map eVersion))) rfl (w_call (ds := [(.sl 5 ((rd t0 t14).mChain.map eVersion)), (.agg (eStamp t1))]) (caps := []) (l := [(.sl 5 (t21.map eVersion))]) (s144 k (rd t0 t14).mChain t1 _ c13) rfl rfl rfl en144 · · · (.inl ⟨rfl, rfl⟩) rfl rfl) ?_
  refine sM 8 (.d (.sl 5 (t21.map eVersion))) rfl rfl ?_
  refine sq_nil ?_
  refine sr ?_
  refine sM 22 (.d (.sl 5 (t21.map eVersion))) rfl rfl ?_
  refine sT 23 (iV (t21.length : Int)) rfl (w_len t21 eVersion rfl rfl · · · slT96 rfl) ?_
  refine sT 24 (bV (ltI 0 (t21.length : Int))) rfl (v_bin rfl · · · rfl rfl (b_gtr rfl)) ?_
  refine sq_nil ?_
  refine ht_cond rfl (fun e14 => ?_) (fun e14 => ?_)
  ·replace h := cpos e14 h
   refine ht_region ?_
   refine sM 25 (.own 1005 2 t5_1.length) rfl rfl ?_
   refine sT 26 (.ptr 7 0) rfl (v_field_box (off := 0) (a0 := 0) rfl · · · fo116_0 rfl) ?_
   refine sT 27 (sV (rd t0 t14).mKey) rfl (v_load_box1 (id := 7) (off := 0) rfl · · · onT9 rfl rfl (ble _ _ rfl) rfl) ?_
   refine sM 28 (.d (.sl 5 (t21.map eVersion))) rfl rfl ?_
   refine sT 29 (.d (.agg (eEntry ({(rd t0 t14) with mChain := t21})))) rfl (w_bld zc116 ((eEntry ({(rd t0 t14) with mChain := t21})).map V.d) [(0, sV (rd t0 t14).mKey), (1, .d (.sl 5 (t21.map eVersion)))] rfl · · · zw116 rfl ft116 rfl rfl rfl rfl) ?_
   refine sq_cons ⟨_, [(.b 30, .row false 116 2 (([({(rd t0 t14) with mChain := t21} : Entry)]).map eEntry)), (.t 30, .own 30 2 ([({(rd t0 t14) with mChain := t21} : Entry)]).length)]⟩ (w_bsl (id := 30) [(0, .d (.agg (eEntry ({(rd t0 t14) with mChain := t21}))))] [({(rd t0 t14) with mChain := t21} : Entry)] eEntry rfl trivial rfl (ble _ _ rfl) slT42 zr116 teEntry (ble _ _ rfl) rfl (by kernel_rfl) rfl rfl (by kernel_rfl) (by kernel_rfl)) ?_
   obtain ⟨e15, h⟩ := gpos h
   refine sq_cons ⟨_, [(.b 1005, .spent), (.b 31, .row false 116 2 ((t5_1 ++ [({(rd t0 t14) with mChain := t21} : Entry)]).map eEntry)), (.t 31, .own 31 2 (t5_1 ++ [({(rd t0 t14) with mChain := t21} : Entry)]).length)]⟩ (w_app 31 t5_1 ([({(rd t0 t14) with mChain := t21} : Entry)]) eEntry rfl rfl trivial rfl (ble _ _ rfl) slT42 elT116 teEntry rfl rfl rfl (.own 30 _ _ rfl) rfl e15) ?_
   refine sM 5 (.own 31 2 (t5_1 ++ [({(rd t0 t14) with mChain := t21} : Entry)]).length) rfl rfl ?_
   refine sq_nil ?_
   refine ht_region ?_
   refine sT 32 (iV (IntKind.wrap .i64 (t14 + 1))) rfl (v_bin rfl · · · rfl rfl (b_add rfl)) ?_
   refine sM 14 (iV (IntKind.wrap .i64 (t14 + 1))) rfl rfl ?_
   refine sq_nil ?_
   exact j9 _ _ h (wk_ren _ (fun i => bif Nat.beq i 1005 then 31 else i) rfl ⟨rfl, rfl, rfl, rfl, rfl, rfl, trivial⟩)
  replace h := cneg e14 h
  refine ht_skip ?_
  refine ht_region ?_
  refine sT 32 (iV (IntKind.wrap .i64 (t14 + 1))) rfl (v_bin rfl · · · rfl rfl (b_add rfl)) ?_
  refine sM 14 (iV (IntKind.wrap .i64 (t14 + 1))) rfl rfl ?_
  refine sq_nil ?_
  exact j9 _ _ h (wk_ren _ (fun i => i) rfl ⟨rfl, rfl, rfl, rfl, rfl, rfl, trivial⟩)
 replace h := cneg e11 h
 refine ht_exit ?_
 refine tq ?_
 refine tq ?_
 refine bq_hit ?_
 cases h
 exact j6 _ (wk_ren _ (fun i => i) rfl ⟨rfl, rfl, trivial⟩)
theorem s35 (k : Nat) (t0 : Cell) (t1 : Stamp) (r : Cell) (h : F35 k t0 t1 = some r) : Awp.Spec Tryz.prog amb 35 [(.agg (eCell t0)), (.agg (eStamp t1))] (.ds [(.agg (eCell r))]) := by
 rw [F35] at h
 refine spec_of Tryz.func35 rfl (ble _ _ rfl) fun w0 ok0 lt0 hA => ?_
 refine sr ?_
 refine sq_cons _ (v_box (id := 2) (cs := (eCell t0).map V.d) rfl trivial rfl (ble _ _ rfl) rfl rfl (ones_of rfl) rfl) ?_
 refine sT 3 (.d (.dp (eStamp t1))) rfl (v_box_d (cs := (eStamp t1)) rfl · · · rfl rfl (ones_of rfl)) ?_
 refine sq_cons _ (v_alloc (id := 4) (cs := zc26) rfl trivial rfl (ble _ _ rfl) zu26 rfl ft26 rfl) ?_
 refine sq_nil ?_
 refine ht_seq ?_
 refine sr ?_
 refine sT 7 (.d (.agg (eCell t0))) rfl (w_ldb 2 0 rfl · · · ag26 rfl rfl (ble _ _ rfl) rfl) ?_
 obtain ⟨t8, c1, h⟩ := bpos h
 refine sT 8 (bV t8) rfl (w_call (ds := [(.agg (eCell t0))]) (caps := []) (l := [(.s (.bool t8))]) (s25 k t0 _ c1) rfl rfl rfl en25 · · · (.inl ⟨rfl, rfl⟩) rfl rfl) ?_
 refine sT 9 (bV (!t8)) rfl (v_un rfl · · · rfl (u_not rfl)) ?_
 refine sM 10 (bV (!t8)) rfl rfl ?_
 refine sF 11 (.d (.agg (eStamp t1))) rfl rfl (fun e2 => (w_ldp (eStamp t1) (eStamp t1) rfl · · · ag24 rfl (ble _ _ rfl) rfl)) ?_
 obtain ⟨t12, c4, h⟩ := bpos h
 refine sF 12 (bV t12) rfl rfl (fun e3 => (w_call (ds := [(.agg (eStamp t1))]) (caps := []) (l := [(.s (.bool t12))]) (s36 k t1 _ (cpos (nF e3) c4)) rfl rfl rfl en36 · · · (.inl ⟨rfl, rfl⟩) (cc (gv (nF e3)) rfl) rfl)) ?_
 refine sF 13 (bV (!t12)) rfl rfl (fun e5 => (v_un rfl · · · (gv (nF e5)) (u_not rfl))) ?_
 refine sT 14 (bV ((!t8) || (!t12))) rfl (v_pickB rfl · · · rfl (fun e6 => rfl) (fun e7 => (gv (nF e7))) (pO _ _)) ?_
 refine sq_nil ?_
 refine ht_cond rfl (fun e8 => ?_) (fun e8 => ?_)
 ·replace h := cpos e8 h
  refine sr ?_
  refine sT 15 (.d (.agg (eCell t0))) rfl (w_ldb 2 0 rfl · · · ag26 rfl rfl (ble _ _ rfl) rfl) ?_
  refine sq_cons _ (v_store_box (id := 4) (off := 0) (cs := (eCell t0).map V.d) rfl trivial rfl sz26 rfl rfl rfl rfl (ones_of rfl) (ble _ _ rfl)) ?_
  refine sq_nil ?_
  refine ht_ret ?_
  cases h
  exact ret1 rfl (.cell rfl rfl ag26 (ble _ _ rfl) rfl)
 replace h := cneg e8 h
 refine ht_skip ?_
 refine sr ?_
 refine sT 16 (.ptr 2 0) rfl (v_field_box (off := 0) (a0 := 0) rfl · · · fo26_0 rfl) ?_
 refine sT 17 (.d (.sl 17 (t0.mShards.map eShard))) rfl (v_load_box1 (id := 2) (off := 0) rfl · · · onT22 rfl rfl (ble _ _ rfl) rfl) ?_
 obtain ⟨t18, c9, h⟩ := bpos h
 refine sq_cons ⟨_, [(.b 18, .row false 45 17 (t18.map eShard)), (.t 18, .own 18 17 t18.length)]⟩ (w_call_own (id := 18) (ds := [(.sl 17 (t0.mShards.map eShard))]) (caps := []) eShard (s98o k t0.mShards _ c9) rfl rfl rfl en98 trivial rfl (ble _ _ rfl) (.inl ⟨rfl, rfl⟩) rfl rfl) ?_
 refine sT 19 (.ptr 2 0) rfl (v_field_box (off := 0) (a0 := 0) rfl · · · fo26_0 rfl) ?_
 refine sq_cons _ (v_store_box (id := 2) (off := 0) (cs := [.own 18 17 t18.length]) rfl trivial rfl sz22 rfl rfl rfl rfl (ones_of rfl) (ble _ _ rfl)) ?_
 refine sq_nil ?_
 refine ht_bj h (fun t2c0 => tell [(.b 2, .box false 5), (.b 4, .box false 5), (.b 1300, .row false 45 17 (t2c0.map eShard)), (.c 2 0, .own 1300 17 t2c0.length), (.c 2 1, iV t0.mTop.mWall), (.c 2 2, iV t0.mTop.mTick), (.c 2 3, iV t0.mTop.mNode), (.c 2 4, iV t0.mDropped), (.c 4 0, .d (.sl 17 (([] : List Shard).map eShard))), (.c 4 1, iV 0), (.c 4 2, iV 0), (.c 4 3, iV 0), (.c 4 4, iV 0), (.t 2, .ptr 2 0), (.t 4, .ptr 4 0)]) (fun t2c0 h => ?_) (fun v10 K11 h j13 => ?_)
 ·refine ht_seq ?_
  refine ht_weak (wk_still_row 1300 _ _ _ rfl) ?_
  refine ht_weak (wk_row (.c 2 0) (nc 2 0) 1300 _ _ _ _ rfl rfl (lm _ _)) ?_
  refine ht_region ?_
  refine sT 47 (.d (.agg (eCell ({t0 with mShards := t2c0})))) rfl (w_ldb 2 0 rfl · · · ag26 rfl rfl (ble _ _ rfl) rfl) ?_
  refine sq_cons _ (v_store_box (id := 4) (off := 0) (cs := (eCell ({t0 with mShards := t2c0})).map V.d) rfl trivial rfl sz26 rfl rfl rfl rfl (ones_of rfl) (ble _ _ rfl)) ?_
  refine sq_nil ?_
  refine ht_ret ?_
  cases h
  exact ret1 rfl (.cell rfl rfl ag26 (ble _ _ rfl) rfl)
 refine sr ?_
 refine sT 20 (.ptr 2 0) rfl (v_field_box (off := 0) (a0 := 0) rfl · · · fo26_0 rfl) ?_
 refine sT 21 (.own 18 17 t18.length) rfl (v_load_box1 (id := 2) (off := 0) rfl · · · onT22 rfl rfl (ble _ _ rfl) rfl) ?_
 refine sT 22 (iV (t18.length : Int)) rfl (v_len_own rfl rfl · · · und22 rfl) ?_
 refine sM 23 (iV 0) rfl rfl ?_
 refine sq_nil ?_
 refine ht_block ?_
 refine ht_rd h (fun _ => rfl) (fun (t21, t23) => tell [(.b 2, .box false 5), (.b 4, .box false 5), (.b 1021, .row false 45 17 (t21.map eShard)), (.c 2 0, .own 1021 17 t21.length), (.c 2 1, iV t0.mTop.mWall), (.c 2 2, iV t0.mTop.mTick), (.c 2 3, iV t0.mTop.mNode), (.c 2 4, iV t0.mDropped), (.c 4 0, .d (.sl 17 (([] : List Shard).map eShard))), (.c 4 1, iV 0), (.c 4 2, iV 0), (.c 4 3, iV 0), (.c 4 4, iV 0), (.t 2, .ptr 2 0), (.t 3, .d (.dp (eStamp t1))), (.t 4, .ptr 4 0), (.t 21, .own 1021 17 t21.length), (.t 22, iV (t18.length : Int)), (.t 23, iV t23)]) (wk_ren _ (fun i => bif Nat.beq i 1021 then 18 else i) rfl ⟨rfl, rfl, rfl, rfl, rfl, rfl, rfl, rfl, rfl, rfl, rfl, rfl, rfl, rfl, rfl, rfl, rfl, rfl, rfl, trivial⟩) fun k v17 h K24 j16 => ?_
 obtain ⟨t21, t23⟩ := v17
 rw [F35_l1] at h
 refine sr ?_
 refine sT 24 (bV (ltI t23 (t18.length : Int))) rfl (v_bin rfl · · · rfl rfl (b_lss rfl)) ?_
 refine sq_nil ?_
 refine ht_seq ?_
 refine ht_cond rfl (fun e18 => ?_) (fun e18 => ?_)
 ·replace h := cpos e18 h
  refine ht_skip ?_
  refine ht_seq ?_
  refine ht_block ?_
  refine sr ?_
  refine sM 25 (iV t23) rfl rfl ?_
  obtain ⟨e19, h⟩ := gpos h
  refine sT 26 (.elp 1021 17 t23.toNat 0) rfl (w_idx_own t21 rfl · · · slT22 rfl rfl e19) ?_
  refine sT 27 (.d (.agg (eShard (rd t21 t23)))) rfl (w_ldE t21 eShard rfl · · · ag45 rfl e19 rfl (ble _ _ rfl) rfl) ?_
  refine sq_cons _ (v_alloc (id := 6) (cs := zc45) rfl trivial rfl (ble _ _ rfl) zu45 rfl ft45 rfl) ?_
  refine sM 5 (iV t23) rfl rfl ?_
  refine sq_cons _ (v_store_box (id := 6) (off := 0) (cs := (eShard (rd t21 t23)).map V.d) rfl trivial rfl sz45 rfl rfl rfl rfl (ones_of rfl) (ble _ _ rfl)) ?_
  refine sq_nil ?_
  refine ht_seq ?_
  refine ht_region_draw mixed ?_
  refine rT 28 (.ptr 2 0) rfl (v_field_box (off := 0) (a0 := 0) rfl · · · fo26_0 rfl) ?_
  refine rT 29 (.own 1021 17 t21.length) rfl (v_load_box1 (id := 2) (off := 0) rfl · · · onT22 rfl rfl (ble _ _ rfl) rfl) ?_
  refine rM 30 (iV t23) rfl rfl ?_
  refine rT 31 (.ptr 6 5) rfl (v_field_box (off := 0) (a0 := 5) rfl · · · fo45_4 rfl) ?_
  refine rT 32 (.d (.sl 2 ((rd t21 t23).mEntries.map eEntry))) rfl (v_load_box1 (id := 6) (off := 5) rfl · · · onT42 rfl rfl (ble _ _ rfl) rfl) ?_
  refine rT 33 (.d (.agg (eStamp t1))) rfl (w_ldp (eStamp t1) (eStamp t1) rfl · · · ag24 rfl (ble _ _ rfl) rfl) ?_
  obtain ⟨t34, c20, h⟩ := bpos h
  refine rT 34 (.d (.sl 2 (t34.map eEntry))) rfl (w_call (ds := [(.sl 2 ((rd t21 t23).mEntries.map eEntry)), (.agg (eStamp t1))]) (caps := []) (l := [(.sl 2 (t34.map eEntry))]) (s99 k (rd t21 t23).mEntries t1 _ c20) rfl rfl rfl en99 · · · (.inl ⟨rfl, rfl⟩) rfl rfl) ?_
  obtain ⟨e21, h⟩ := gpos h
  refine rT 35 (.elp 1021 17 t23.toNat 0) rfl (w_idx_own t21 rfl · · · slT22 rfl rfl e21) ?_
  refine rT 36 (.elp 1021 17 t23.toNat 5) rfl (v_field_elp (a0 := 5) rfl · · · fo45_4 rfl) ?_
  refine rg_cons ⟨_, [(.b 1021, .row false 45 17 ((t21.set t23.toNat ({(rd t21 t23) with mEntries := t34})).map eShard))]⟩ (w_st_elp t21 eShard [(.sl 2 (t34.map eEntry))] ({(rd t21 t23) with mEntries := t34}) rfl trivial rfl sz42 rfl rfl e21 rfl rfl (ones_of rfl) (ble _ _ rfl) rfl) ?_
  refine rg_nil ⟨by kernel_rfl, ?_⟩
  refine ht_weak (wk_eq (.t 21) (.own 1021 17 (t21.set t23.toNat ({(rd t21 t23) with mEntries := t34})).length) (lset _ _ _ _ _)) ?_
  refine ht_weak (wk_eq (.c 2 0) (.own 1021 17 (t21.set t23.toNat ({(rd t21 t23) with mEntries := t34})).length) (lset _ _ _ _ _)) ?_
  refine ht_weak (wk_eq (.t 29) (.own 1021 17 (t21.set t23.toNat ({(rd t21 t23) with mEntries := t34})).length) (lset _ _ _ _ _)) ?_
  refine ht_region_draw mixed ?_
  refine rT 37 (.ptr 2 0) rfl (v_field_box (off := 0) (a0 := 0) rfl · · · fo26_0 rfl) ?_
  refine rT 38 (.own 1021 17 (t21.set t23.toNat ({(rd t21 t23) with mEntries := t34})).length) rfl (v_load_box1 (id := 2) (off := 0) rfl · · · onT22 rfl rfl (ble _ _ rfl) rfl) ?_
  refine rM 39 (iV t23) rfl rfl ?_
  refine rT 40 (.ptr 6 6) rfl (v_field_box (off := 0) (a0 := 6) rfl · · · fo45_5 rfl) ?_
  refine rT 41 (.d (.agg (eStamp (rd t21 t23).mMark))) rfl (w_ldb 6 6 rfl · · · ag24 rfl rfl (ble _ _ rfl) rfl) ?_
  refine rT 42 (.d (.agg (eStamp t1))) rfl (w_ldp (eStamp t1) (eStamp t1) rfl · · · ag24 rfl (ble _ _ rfl) rfl) ?_
  obtain ⟨t43, c22, h⟩ := bpos h
  refine rT 43 (.d (.agg (eStamp t43))) rfl (w_call (ds := [(.agg (eStamp (rd t21 t23).mMark)), (.agg (eStamp t1))]) (caps := []) (l := [(.agg (eStamp t43))]) (s37 k (rd t21 t23).mMark t1 _ c22) rfl rfl rfl en37 · · · (.inl ⟨rfl, rfl⟩) rfl rfl) ?_
  obtain ⟨e23, h⟩ := gpos h
  refine rT 44 (.elp 1021 17 t23.toNat 0) rfl (w_idx_own (t21.set t23.toNat ({(rd t21 t23) with mEntries := t34})) rfl · · · slT22 rfl rfl e23) ?_
  refine rT 45 (.elp 1021 17 t23.toNat 6) rfl (v_field_elp (a0 := 6) rfl · · · fo45_5 rfl) ?_
  refine rg_cons ⟨_, [(.b 1021, .row false 45 17 (((t21.set t23.toNat ({(rd t21 t23) with mEntries := t34})).set t23.toNat ({(rd (t21.set t23.toNat ({(rd t21 t23) with mEntries := t34})) t23) with mMark := t43})).map eShard))]⟩ (w_st_elp (t21.set t23.toNat ({(rd t21 t23) with mEntries := t34})) eShard (eStamp t43) ({(rd (t21.set t23.toNat ({(rd t21 t23) with mEntries := t34})) t23) with mMark := t43}) rfl trivial rfl sz24 rfl rfl e23 rfl rfl (ones_of rfl) (ble _ _ rfl) rfl) ?_
  refine rg_nil ⟨by kernel_rfl, ?_⟩
  refine ht_weak (wk_eq (.t 21) (.own 1021 17 ((t21.set t23.toNat ({(rd t21 t23) with mEntries := t34})).set t23.toNat ({(rd (t21.set t23.toNat ({(rd t21 t23) with mEntries := t34})) t23) with mMark := t43})).length) (lset _ _ _ _ _)) ?_
  refine ht_weak (wk_eq (.c 2 0) (.own 1021 17 ((t21.set t23.toNat ({(rd t21 t23) with mEntries := t34})).set t23.toNat ({(rd (t21.set t23.toNat ({(rd t21 t23) with mEntries := t34})) t23) with mMark := t43})).length) (lset _ _ _ _ _)) ?_
  refine ht_weak (wk_eq (.t 29) (.own 1021 17 ((t21.set t23.toNat ({(rd t21 t23) with mEntries := t34})).set t23.toNat ({(rd (t21.set t23.toNat ({(rd t21 t23) with mEntries := t34})) t23) with mMark := t43})).length) (lset _ _ _ _ _)) ?_
  refine ht_weak (wk_eq (.t 38) (.own 1021 17 ((t21.set t23.toNat ({(rd t21 t23) with mEntries := t34})).set t23.toNat ({(rd (t21.set t23.toNat ({(rd t21 t23) with mEntries := t34})) t23) with mMark := t43})).length) (lset _ _ _ _ _)) ?_
  refine ht_region ?_
  refine sT 46 (iV (IntKind.wrap .i64 (t23 + 1))) rfl (v_bin rfl · · · rfl rfl (b_add rfl)) ?_
  refine sM 23 (iV (IntKind.wrap .i64 (t23 + 1))) rfl rfl ?_
  refine sq_nil ?_
  exact j16 _ _ h (wk_ren _ (fun i => i) rfl ⟨rfl, rfl, rfl, rfl, rfl, rfl, rfl, rfl, rfl, rfl, rfl, rfl, rfl, rfl, rfl, rfl, rfl, rfl, rfl, trivial⟩)
 replace h := cneg e18 h
 refine ht_exit ?_
 refine tq ?_
 refine tq ?_
 refine bq_hit ?_
 cases h
 exact j13 _ (wk_ren _ (fun i => bif Nat.beq i 1300 then 1021 else i) rfl ⟨rfl, rfl, rfl, rfl, rfl, rfl, rfl, rfl, rfl, rfl, rfl, rfl, rfl, rfl, rfl, trivial⟩)
theorem s39 (k : Nat) (t0 : Cell) (t1 : Int) (t2 : Int) (t3 : Int) (r : Cell × Bool) (h : F39 k t0 t1 t2 t3 = some r) : Awp.Spec Tryz.prog amb 39 [(.agg (eCell t0)), (.s (.int .i64 t1)), (.s (.int .i64 t2)), (.s (.int .i64 t3))] (.ds [(.agg (eCell r.1)), (.s (.bool r.2))]) := by
 rw [F39] at h
 refine spec_of Tryz.func39 rfl (ble _ _ rfl) fun w0 ok0 lt0 hA => ?_
 refine sr ?_
 refine sT 4 (.d (.dp (eCell t0))) rfl (v_box_d (cs := (eCell t0)) rfl · · · rfl rfl (ones_of rfl)) ?_
 refine sq_cons _ (v_alloc (id := 8) (cs := zc26) rfl trivial rfl (ble _ _ rfl) zu26 rfl ft26 rfl) ?_
 refine sM 9 (bV false) rfl rfl ?_
 refine sq_nil ?_
 refine sr ?_
 refine sT 13 (.d (.agg (eCell t0))) rfl (w_ldp (eCell t0) (eCell t0) rfl · · · ag26 rfl (ble _ _ rfl) rfl) ?_
 refine sM 14 (iV t1) rfl rfl ?_
 obtain ⟨⟨t15a, t15b⟩, c1, h⟩ := bpos h
 refine sT 15 (.tup [.d (.agg (eShard t15a)), bV t15b]) rfl (w_call (ds := [(.agg (eCell t0)), (.s (.int .i64 t1))]) (caps := []) (l := [(.agg (eShard t15a)), (.s (.bool t15b))]) (s23 k t0 t1 _ c1) rfl rfl rfl en23 · · · (.inl ⟨rfl, rfl⟩) rfl rfl) ?_
 refine sM 12 (.tup [.d (.agg (eShard t15a)), bV t15b]) rfl rfl ?_
 refine sT 16 (.d (.agg (eShard t15a))) rfl (v_extract rfl · · · rfl rfl) ?_
 refine sT 17 (bV t15b) rfl (v_extract rfl · · · rfl rfl) ?_
 refine sq_cons _ (v_alloc (id := 10) (cs := zc45) rfl trivial rfl (ble _ _ rfl) zu45 rfl ft45 rfl) ?_
 refine sq_cons _ (v_store_box (id := 10) (off := 0) (cs := (eShard t15a).map V.d) rfl trivial rfl sz45 rfl rfl rfl rfl (ones_of rfl) (ble _ _ rfl)) ?_
 refine sM 11 (bV t15b) rfl rfl ?_
 refine sq_nil ?_
 refine ht_seq ?_
 refine sr ?_
 refine sM 18 (bV t15b) rfl rfl ?_
 refine sT 19 (bV (!t15b)) rfl (v_un rfl · · · rfl (u_not rfl)) ?_
 refine sM 20 (bV (!t15b)) rfl rfl ?_
 refine sF 21 (iV t2) rfl rfl (fun e2 => (v_move (.inl rfl) · · · rfl)) ?_
 refine sF 22 (iV t3) rfl rfl (fun e3 => (v_move (.inl rfl) · · · rfl)) ?_
 refine sF 23 (.d (.sl 1 (([t2, t3]).map (eI .i64)))) rfl rfl (fun e4 => (w_bsl_d [(0, iV t2), (1, iV t3)] [t2, t3] (eI .i64) rfl · · · slT148 zr3 (encI .i64) (ble _ _ rfl) (cc (pr (gv (nF e4))) (cc (pr (gv (nF e4))) rfl)) (by kernel_rfl) rfl rfl (by kernel_rfl))) ?_
 obtain ⟨t24, c6, h⟩ := bpos h
 refine sF 24 (bV t24) rfl rfl (fun e5 => (w_call (ds := [(.s (.int .i64 1)), (.sl 1 (([t2, t3]).map (eI .i64)))]) (caps := []) (l := [(.s (.bool t24))]) (s57 k 1 ([t2, t3]) _ (cpos (nF e5) c6)) rfl rfl rfl en57 · · · (.inl ⟨rfl, rfl⟩) (cc rfl (cc (gv (nF e5)) rfl)) rfl)) ?_
 refine sF 25 (bV (!t24)) rfl rfl (fun e7 => (v_un rfl · · · (gv (nF e7)) (u_not rfl))) ?_
 refine sT 26 (bV ((!t15b) || (!t24))) rfl (v_pickB rfl · · · rfl (fun e8 => rfl) (fun e9 => (gv (nF e9))) (pO _ _)) ?_
 refine sq_nil ?_
 refine ht_cond rfl (fun e10 => ?_) (fun e10 => ?_)
 ·replace h := cpos e10 h
  refine sr ?_
  refine sT 27 (.d (.agg (eCell t0))) rfl (w_ldp (eCell t0) (eCell t0) rfl · · · ag26 rfl (ble _ _ rfl) rfl) ?_
  refine sq_cons _ (v_store_box (id := 8) (off := 0) (cs := (eCell t0).map V.d) rfl trivial rfl sz26 rfl rfl rfl rfl (ones_of rfl) (ble _ _ rfl)) ?_
  refine sM 9 (bV false) rfl rfl ?_
  refine sq_nil ?_
  refine ht_ret ?_
  cases h
  exact ret2 rfl (.cell rfl rfl ag26 (ble _ _ rfl) rfl) (.tmp rfl)
 replace h := cneg e10 h
 refine ht_skip ?_
 refine ht_seq ?_
 refine sr ?_
 refine sT 28 (.d (.agg (eShard t15a))) rfl (w_ldb 10 0 rfl · · · ag45 rfl rfl (ble _ _ rfl) rfl) ?_
 refine sM 29 (iV t3) rfl rfl ?_
 obtain ⟨t30, c11, h⟩ := bpos h
 refine sT 30 (bV t30) rfl (w_call (ds := [(.agg (eShard t15a)), (.s (.int .i64 t3))]) (caps := []) (l := [(.s (.bool t30))]) (s94 k t15a t3 _ c11) rfl rfl rfl en94 · · · (.inl ⟨rfl, rfl⟩) rfl rfl) ?_
 refine sq_nil ?_
 refine ht_cond rfl (fun e12 => ?_) (fun e12 => ?_)
 ·replace h := cpos e12 h
  refine sr ?_
  refine sT 31 (.d (.agg (eCell t0))) rfl (w_ldp (eCell t0) (eCell t0) rfl · · · ag26 rfl (ble _ _ rfl) rfl) ?_
  refine sq_cons _ (v_store_box (id := 8) (off := 0) (cs := (eCell t0).map V.d) rfl trivial rfl sz26 rfl rfl rfl rfl (ones_of rfl) (ble _ _ rfl)) ?_
  refine sM 9 (bV true) rfl rfl ?_
  refine sq_nil ?_
  refine ht_ret ?_
  cases h
  exact ret2 rfl (.cell rfl rfl ag26 (ble _ _ rfl) rfl) (.tmp rfl)
 replace h := cneg e12 h
 refine ht_skip ?_
 refine ht_seq ?_
 refine sr ?_
 refine sT 32 (.ptr 10 1) rfl (v_field_box (off := 0) (a0 := 1) rfl · · · fo45_1 rfl) ?_
 refine sT 33 (iV t15a.mEpoch) rfl (v_load_box1 (id := 10) (off := 1) rfl · · · onT3 rfl rfl (ble _ _ rfl) rfl) ?_
 refine sM 34 (iV t2) rfl rfl ?_
 refine sT 35 (bV (!eqI t15a.mEpoch t2)) rfl (v_bin rfl · · · rfl rfl (b_neq rfl)) ?_
 refine sM 36 (bV (!eqI t15a.mEpoch t2)) rfl rfl ?_
 refine sF 37 (.ptr 10 4) rfl rfl (fun e13 => (v_field_box (off := 0) (a0 := 4) rfl · · · fo45_3 rfl)) ?_
 refine sF 38 (iV t15a.mPhase) rfl rfl (fun e14 => (v_load_box1 (id := 10) (off := 4) rfl · · · onT3 (gv (nF e14)) rfl (ble _ _ rfl) rfl)) ?_
 refine sF 39 (bV (!eqI t15a.mPhase 1)) rfl rfl (fun e15 => (v_bin rfl · · · (gv (nF e15)) rfl (b_neq rfl))) ?_
 refine sT 40 (bV ((!eqI t15a.mEpoch t2) || (!eqI t15a.mPhase 1))) rfl (v_pickB rfl · · · rfl (fun e16 => rfl) (fun e17 => (gv (nF e17))) (pO _ _)) ?_
 refine sM 41 (bV ((!eqI t15a.mEpoch t2) || (!eqI t15a.mPhase 1))) rfl rfl ?_
 refine sF 42 (.ptr 10 13) rfl rfl (fun e18 => (v_field_box (off := 0) (a0 := 13) rfl · · · fo45_8 rfl)) ?_
 refine sF 43 (iV t15a.mHold) rfl rfl (fun e19 => (v_load_box1 (id := 10) (off := 13) rfl · · · onT3 (gv (nF e19)) rfl (ble _ _ rfl) rfl)) ?_
 refine sF 44 (bV (!eqI t15a.mHold 0)) rfl rfl (fun e20 => (v_bin rfl · · · (gv (nF e20)) rfl (b_neq rfl))) ?_
 refine sT 45 (bV (((!eqI t15a.mEpoch t2) || (!eqI t15a.mPhase 1)) || (!eqI t15a.mHold 0))) rfl (v_pickB rfl · · · rfl (fun e21 => rfl) (fun e22 => (gv (nF e22))) (pO _ _)) ?_
 refine sM 46 (bV (((!eqI t15a.mEpoch t2) || (!eqI t15a.mPhase 1)) || (!eqI t15a.mHold 0))) rfl rfl ?_
 refine sF 47 (.ptr 10 16) rfl rfl (fun e23 => (v_field_box (off := 0) (a0 := 16) rfl · · · fo45_11 rfl)) ?_
 refine sF 48 (iV t15a.mClosed) rfl rfl (fun e24 => (v_load_box1 (id := 10) (off := 16) rfl · · · onT3 (gv (nF e24)) rfl (ble _ _ rfl) rfl)) ?_
 refine sF 49 (iV t3) rfl rfl (fun e25 => (v_move (.inl rfl) · · · rfl)) ?_
 refine sF 50 (bV (leI t3 t15a.mClosed)) rfl rfl (fun e26 => (v_bin rfl · · · (gv (nF e26)) (gv (nF e26)) (b_geq rfl))) ?_
 refine sT 51 (bV ((((!eqI t15a.mEpoch t2) || (!eqI t15a.mPhase 1)) || (!eqI t15a.mHold 0)) || (leI t3 t15a.mClosed))) rfl (v_pickB rfl · · · rfl (fun e27 => rfl) (fun e28 => (gv (nF e28))) (pO _ _)) ?_
 refine sq_nil ?_
 refine ht_cond rfl (fun e29 => ?_) (fun e29 => ?_)
 ·replace h := cpos e29 h
  refine sr ?_
  refine sT 52 (.d (.agg (eCell t0))) rfl (w_ldp (eCell t0) (eCell t0) rfl · · · ag26 rfl (ble _ _ rfl) rfl) ?_
  refine sq_cons _ (v_store_box (id := 8) (off := 0) (cs := (eCell t0).map V.d) rfl trivial rfl sz26 rfl rfl rfl rfl (ones_of rfl) (ble _ _ rfl)) ?_
  refine sM 9 (bV false) rfl rfl ?_
  refine sq_nil ?_
  refine ht_ret ?_
  cases h
  exact ret2 rfl (.cell rfl rfl ag26 (ble _ _ rfl) rfl) (.tmp rfl)
 replace h := cneg e29 h
 refine ht_skip ?_
 refine ht_seq ?_
 refine ht_region_draw mixed ?_
 refine rM 53 (iV t3) rfl rfl ?_
 refine rT 54 (.d (.dp (List.drop 1 (eCell t0)))) rfl (v_field_dp (a0 := 1) (cs := (eCell t0)) rfl · · · fo26_1 rfl) ?_
 refine rT 55 (.d (.agg (eStamp t0.mTop))) rfl (w_ldp (List.drop 1 (eCell t0)) (eStamp t0.mTop) rfl · · · ag24 rfl (ble _ _ rfl) rfl) ?_
 refine rT 56 (.ptr 10 4) rfl (v_field_box (off := 0) (a0 := 4) rfl · · · fo45_3 rfl) ?_
 refine rg_cons _ (v_store_box (id := 10) (off := 4) (cs := [(.s (.int .i64 2))].map V.d) rfl trivial rfl sz3 rfl rfl rfl rfl (ones_of rfl) (ble _ _ rfl)) ?_
 refine rT 57 (.ptr 10 15) rfl (v_field_box (off := 0) (a0 := 15) rfl · · · fo45_10 rfl) ?_
 refine rg_cons _ (v_store_box (id := 10) (off := 15) (cs := [(.s (.int .i64 t3))].map V.d) rfl trivial rfl sz3 rfl rfl rfl rfl (ones_of rfl) (ble _ _ rfl)) ?_
 refine rT 58 (.ptr 10 9) rfl (v_field_box (off := 0) (a0 := 9) rfl · · · fo45_6 rfl) ?_
 refine rg_cons _ (v_store_box (id := 10) (off := 9) (cs := (eStamp t0.mTop).map V.d) rfl trivial rfl sz24 rfl rfl rfl rfl (ones_of rfl) (ble _ _ rfl)) ?_
 refine rg_nil ⟨by kernel_rfl, ?_⟩
 refine sr ?_
 refine sT 59 (.d (.agg (eCell t0))) rfl (w_ldp (eCell t0) (eCell t0) rfl · · · ag26 rfl (ble _ _ rfl) rfl) ?_
 refine sT 60 (.d (.agg (eShard ({t15a with mPhase := 2, mTop := t0.mTop, mMove := t3})))) rfl (w_ldb 10 0 rfl · · · ag45 rfl rfl (ble _ _ rfl) rfl) ?_
 obtain ⟨t61, c30, h⟩ := bpos h
 refine sT 61 (.d (.agg (eCell t61))) rfl (w_call (ds := [(.agg (eCell t0)), (.agg (eShard ({t15a with mPhase := 2, mTop := t0.mTop, mMove := t3})))]) (caps := []) (l := [(.agg (eCell t61))]) (s95 k t0 ({t15a with mPhase := 2, mTop := t0.mTop, mMove := t3}) _ c30) rfl rfl rfl en95 · · · (.inl ⟨rfl, rfl⟩) rfl rfl) ?_
 refine sq_cons _ (v_store_box (id := 8) (off := 0) (cs := (eCell t61).map V.d) rfl trivial rfl sz26 rfl rfl rfl rfl (ones_of rfl) (ble _ _ rfl)) ?_
 refine sM 9 (bV true) rfl rfl ?_
 refine sq_nil ?_
 refine ht_ret ?_
 cases h
 exact ret2 rfl (.cell rfl rfl ag26 (ble _ _ rfl) rfl) (.tmp rfl)
theorem s43 (k : Nat) (t0 : Cell) (t1 : Int) (t2 : Int) (t3 : Int) (r : Cell × Bool) (h : F43 k t0 t1 t2 t3 = some r) : Awp.Spec Tryz.prog amb 43 [(.agg (eCell t0)), (.s (.int .i64 t1)), (.s (.int .i64 t2)), (.s (.int .i64 t3))] (.ds [(.agg (eCell r.1)), (.s (.bool r.2))]) := by
 rw [F43] at h
 refine spec_of Tryz.func43 rfl (ble _ _ rfl) fun w0 ok0 lt0 hA => ?_
 refine sr ?_
 refine sq_cons _ (v_box (id := 4) (cs := (eCell t0).map V.d) rfl trivial rfl (ble _ _ rfl) rfl rfl (ones_of rfl) rfl) ?_
 refine sq_cons _ (v_alloc (id := 8) (cs := zc26) rfl trivial rfl (ble _ _ rfl) zu26 rfl ft26 rfl) ?_
 refine sM 9 (bV false) rfl rfl ?_
 refine sq_nil ?_
 refine sr ?_
 refine sT 13 (.d (.agg (eCell t0))) rfl (w_ldb 4 0 rfl · · · ag26 rfl rfl (ble _ _ rfl) rfl) ?_
 refine sM 14 (iV t1) rfl rfl ?_
 obtain ⟨⟨t15a, t15b⟩, c1, h⟩ := bpos h
 refine sT 15 (.tup [.d (.agg (eShard t15a)), bV t15b]) rfl (w_call (ds := [(.agg (eCell t0)), (.s (.int .i64 t1))]) (caps := []) (l := [(.agg (eShard t15a)), (.s (.bool t15b))]) (s23 k t0 t1 _ c1) rfl rfl rfl en23 · · · (.inl ⟨rfl, rfl⟩) rfl rfl) ?_
 refine sM 12 (.tup [.d (.agg (eShard t15a)), bV t15b]) rfl rfl ?_
 refine sT 16 (.d (.agg (eShard t15a))) rfl (v_extract rfl · · · rfl rfl) ?_
 refine sT 17 (bV t15b) rfl (v_extract rfl · · · rfl rfl) ?_
 refine sq_cons _ (v_alloc (id := 10) (cs := zc45) rfl trivial rfl (ble _ _ rfl) zu45 rfl ft45 rfl) ?_
 refine sq_cons _ (v_store_box (id := 10) (off := 0) (cs := (eShard t15a).map V.d) rfl trivial rfl sz45 rfl rfl rfl rfl (ones_of rfl) (ble _ _ rfl)) ?_
 refine sM 11 (bV t15b) rfl rfl ?_
 refine sq_nil ?_
 refine ht_seq ?_
 refine sr ?_
 refine sM 18 (bV t15b) rfl rfl ?_
 refine sT 19 (bV (!t15b)) rfl (v_un rfl · · · rfl (u_not rfl)) ?_
 refine sM 20 (bV (!t15b)) rfl rfl ?_
 refine sF 21 (iV t2) rfl rfl (fun e2 => (v_move (.inl rfl) · · · rfl)) ?_
 refine sF 22 (iV t3) rfl rfl (fun e3 => (v_move (.inl rfl) · · · rfl)) ?_
 refine sF 23 (.d (.sl 1 (([t2, t3]).map (eI .i64)))) rfl rfl (fun e4 => (w_bsl_d [(0, iV t2), (1, iV t3)] [t2, t3] (eI .i64) rfl · · · slT148 zr3 (encI .i64) (ble _ _ rfl) (cc (pr (gv (nF e4))) (cc (pr (gv (nF e4))) rfl)) (by kernel_rfl) rfl rfl (by kernel_rfl))) ?_
 obtain ⟨t24, c6, h⟩ := bpos h
 refine sF 24 (bV t24) rfl rfl (fun e5 => (w_call (ds := [(.s (.int .i64 1)), (.sl 1 (([t2, t3]).map (eI .i64)))]) (caps := []) (l := [(.s (.bool t24))]) (s57 k 1 ([t2, t3]) _ (cpos (nF e5) c6)) rfl rfl rfl en57 · · · (.inl ⟨rfl, rfl⟩) (cc rfl (cc (gv (nF e5)) rfl)) rfl)) ?_
 refine sF 25 (bV (!t24)) rfl rfl (fun e7 => (v_un rfl · · · (gv (nF e7)) (u_not rfl))) ?_
 refine sT 26 (bV ((!t15b) || (!t24))) rfl (v_pickB rfl · · · rfl (fun e8 => rfl) (fun e9 => (gv (nF e9))) (pO _ _)) ?_
 refine sq_nil ?_
 refine ht_cond rfl (fun e10 => ?_) (fun e10 => ?_)
 ·replace h := cpos e10 h
  refine sr ?_
  refine sT 27 (.d (.agg (eCell t0))) rfl (w_ldb 4 0 rfl · · · ag26 rfl rfl (ble _ _ rfl) rfl) ?_
  refine sq_cons _ (v_store_box (id := 8) (off := 0) (cs := (eCell t0).map V.d) rfl trivial rfl sz26 rfl rfl rfl rfl (ones_of rfl) (ble _ _ rfl)) ?_
  refine sM 9 (bV false) rfl rfl ?_
  refine sq_nil ?_
  refine ht_ret ?_
  cases h
  exact ret2 rfl (.cell rfl rfl ag26 (ble _ _ rfl) rfl) (.tmp rfl)
 replace h := cneg e10 h
 refine ht_skip ?_
 refine ht_seq ?_
 refine sr ?_
 refine sT 28 (.ptr 10 4) rfl (v_field_box (off := 0) (a0 := 4) rfl · · · fo45_3 rfl) ?_
 refine sT 29 (iV t15a.mPhase) rfl (v_load_box1 (id := 10) (off := 4) rfl · · · onT3 rfl rfl (ble _ _ rfl) rfl) ?_
 refine sT 30 (bV (eqI t15a.mPhase 1)) rfl (v_bin rfl · · · rfl rfl (b_eql rfl)) ?_
 refine sM 31 (bV (eqI t15a.mPhase 1)) rfl rfl ?_
 refine sG 32 (.ptr 10 1) rfl rfl (fun e11 => (v_field_box (off := 0) (a0 := 1) rfl · · · fo45_1 rfl)) ?_
 refine sG 33 (iV t15a.mEpoch) rfl rfl (fun e12 => (v_load_box1 (id := 10) (off := 1) rfl · · · onT3 (gv e12) rfl (ble _ _ rfl) rfl)) ?_
 refine sG 34 (iV t3) rfl rfl (fun e13 => (v_move (.inl rfl) · · · rfl)) ?_
 refine sG 35 (bV (eqI t15a.mEpoch t3)) rfl rfl (fun e14 => (v_bin rfl · · · (gv e14) (gv e14) (b_eql rfl))) ?_
 refine sT 36 (bV ((eqI t15a.mPhase 1) && (eqI t15a.mEpoch t3))) rfl (v_pickB rfl · · · rfl (fun e15 => (gv e15)) (fun e16 => rfl) (pA _ _)) ?_
 refine sM 37 (bV ((eqI t15a.mPhase 1) && (eqI t15a.mEpoch t3))) rfl rfl ?_
 refine sG 38 (.ptr 10 16) rfl rfl (fun e17 => (v_field_box (off := 0) (a0 := 16) rfl · · · fo45_11 rfl)) ?_
 refine sG 39 (iV t15a.mClosed) rfl rfl (fun e18 => (v_load_box1 (id := 10) (off := 16) rfl · · · onT3 (gv e18) rfl (ble _ _ rfl) rfl)) ?_
 refine sG 40 (iV t2) rfl rfl (fun e19 => (v_move (.inl rfl) · · · rfl)) ?_
 refine sG 41 (bV (eqI t15a.mClosed t2)) rfl rfl (fun e20 => (v_bin rfl · · · (gv e20) (gv e20) (b_eql rfl))) ?_
 refine sT 42 (bV (((eqI t15a.mPhase 1) && (eqI t15a.mEpoch t3)) && (eqI t15a.mClosed t2))) rfl (v_pickB rfl · · · rfl (fun e21 => (gv e21)) (fun e22 => rfl) (pA _ _)) ?_
 refine sq_nil ?_
 refine ht_cond rfl (fun e23 => ?_) (fun e23 => ?_)
 ·replace h := cpos e23 h
  refine sr ?_
  refine sT 43 (.d (.agg (eCell t0))) rfl (w_ldb 4 0 rfl · · · ag26 rfl rfl (ble _ _ rfl) rfl) ?_
  refine sq_cons _ (v_store_box (id := 8) (off := 0) (cs := (eCell t0).map V.d) rfl trivial rfl sz26 rfl rfl rfl rfl (ones_of rfl) (ble _ _ rfl)) ?_
  refine sM 9 (bV true) rfl rfl ?_
  refine sq_nil ?_
  refine ht_ret ?_
  cases h
  exact ret2 rfl (.cell rfl rfl ag26 (ble _ _ rfl) rfl) (.tmp rfl)
 replace h := cneg e23 h
 refine ht_skip ?_
 refine ht_seq ?_
 refine sr ?_
 refine sT 44 (.d (.agg (eShard t15a))) rfl (w_ldb 10 0 rfl · · · ag45 rfl rfl (ble _ _ rfl) rfl) ?_
 refine sM 45 (iV t2) rfl rfl ?_
 obtain ⟨t46, c24, h⟩ := bpos h
 refine sT 46 (bV t46) rfl (w_call (ds := [(.agg (eShard t15a)), (.s (.int .i64 t2))]) (caps := []) (l := [(.s (.bool t46))]) (s93 k t15a t2 _ c24) rfl rfl rfl en93 · · · (.inl ⟨rfl, rfl⟩) rfl rfl) ?_
 refine sT 47 (bV (!t46)) rfl (v_un rfl · · · rfl (u_not rfl)) ?_
 refine sM 48 (bV (!t46)) rfl rfl ?_
 refine sF 49 (iV t3) rfl rfl (fun e25 => (v_move (.inl rfl) · · · rfl)) ?_
 refine sF 50 (.ptr 10 1) rfl rfl (fun e26 => (v_field_box (off := 0) (a0 := 1) rfl · · · fo45_1 rfl)) ?_
 refine sF 51 (iV t15a.mEpoch) rfl rfl (fun e27 => (v_load_box1 (id := 10) (off := 1) rfl · · · onT3 (gv (nF e27)) rfl (ble _ _ rfl) rfl)) ?_
 refine sF 52 (bV (leI t3 t15a.mEpoch)) rfl rfl (fun e28 => (v_bin rfl · · · (gv (nF e28)) (gv (nF e28)) (b_leq rfl))) ?_
 refine sT 53 (bV ((!t46) || (leI t3 t15a.mEpoch))) rfl (v_pickB rfl · · · rfl (fun e29 => rfl) (fun e30 => (gv (nF e30))) (pO _ _)) ?_
 refine sq_nil ?_
 refine ht_cond rfl (fun e31 => ?_) (fun e31 => ?_)
 ·replace h := cpos e31 h
  refine sr ?_
  refine sT 54 (.d (.agg (eCell t0))) rfl (w_ldb 4 0 rfl · · · ag26 rfl rfl (ble _ _ rfl) rfl) ?_
  refine sq_cons _ (v_store_box (id := 8) (off := 0) (cs := (eCell t0).map V.d) rfl trivial rfl sz26 rfl rfl rfl rfl (ones_of rfl) (ble _ _ rfl)) ?_
  refine sM 9 (bV false) rfl rfl ?_
  refine sq_nil ?_
  refine ht_ret ?_
  cases h
  exact ret2 rfl (.cell rfl rfl ag26 (ble _ _ rfl) rfl) (.tmp rfl)
 replace h := cneg e31 h
 refine ht_skip ?_
 refine sr ?_
 refine sM 55 (iV t3) rfl rfl ?_
 refine sM 56 (iV t2) rfl rfl ?_
 refine sT 57 (.ptr 10 4) rfl (v_field_box (off := 0) (a0 := 4) rfl · · · fo45_3 rfl) ?_
 refine sq_cons _ (v_store_box (id := 10) (off := 4) (cs := [(.s (.int .i64 1))].map V.d) rfl trivial rfl sz3 rfl rfl rfl rfl (ones_of rfl) (ble _ _ rfl)) ?_
 refine sT 58 (.ptr 10 1) rfl (v_field_box (off := 0) (a0 := 1) rfl · · · fo45_1 rfl) ?_
 refine sq_cons _ (v_store_box (id := 10) (off := 1) (cs := [(.s (.int .i64 t3))].map V.d) rfl trivial rfl sz3 rfl rfl rfl rfl (ones_of rfl) (ble _ _ rfl)) ?_
 refine sT 59 (.ptr 10 16) rfl (v_field_box (off := 0) (a0 := 16) rfl · · · fo45_11 rfl) ?_
 refine sq_cons _ (v_store_box (id := 10) (off := 16) (cs := [(.s (.int .i64 t2))].map V.d) rfl trivial rfl sz3 rfl rfl rfl rfl (ones_of rfl) (ble _ _ rfl)) ?_
 refine sq_nil ?_
 refine sr ?_
 refine sT 60 (.ptr 4 4) rfl (v_field_box (off := 0) (a0 := 4) rfl · · · fo26_2 rfl) ?_
 refine sT 61 (iV t0.mDropped) rfl (v_load_box1 (id := 4) (off := 4) rfl · · · onT3 rfl rfl (ble _ _ rfl) rfl) ?_
 refine sM 62 (iV t2) rfl rfl ?_
 refine sT 63 (iV (maxI t0.mDropped t2)) rfl (v_bi2 rfl rfl · · · rfl rfl (r_max und3 rfl)) ?_
 refine sT 64 (.ptr 4 4) rfl (v_field_box (off := 0) (a0 := 4) rfl · · · fo26_2 rfl) ?_
 refine sq_cons _ (v_store_box (id := 4) (off := 4) (cs := [(.s (.int .i64 (maxI t0.mDropped t2)))].map V.d) rfl trivial rfl sz3 rfl rfl rfl rfl (ones_of rfl) (ble _ _ rfl)) ?_
 refine sq_nil ?_
 refine sr ?_
 refine sT 65 (.d (.agg (eCell ({t0 with mDropped := (maxI t0.mDropped t2)})))) rfl (w_ldb 4 0 rfl · · · ag26 rfl rfl (ble _ _ rfl) rfl) ?_
 refine sT 66 (.d (.agg (eShard ({t15a with mEpoch := t3, mPhase := 1, mClosed := t2})))) rfl (w_ldb 10 0 rfl · · · ag45 rfl rfl (ble _ _ rfl) rfl) ?_
 obtain ⟨t67, c32, h⟩ := bpos h
 refine sT 67 (.d (.agg (eCell t67))) rfl (w_call (ds := [(.agg (eCell ({t0 with mDropped := (maxI t0.mDropped t2)}))), (.agg (eShard ({t15a with mEpoch := t3, mPhase := 1, mClosed := t2})))]) (caps := []) (l := [(.agg (eCell t67))]) (s95 k ({t0 with mDropped := (maxI t0.mDropped t2)}) ({t15a with mEpoch := t3, mPhase := 1, mClosed := t2}) _ c32) rfl rfl rfl en95 · · · (.inl ⟨rfl, rfl⟩) rfl rfl) ?_
 refine sq_cons _ (v_store_box (id := 8) (off := 0) (cs := (eCell t67).map V.d) rfl trivial rfl sz26 rfl rfl rfl rfl (ones_of rfl) (ble _ _ rfl)) ?_
 refine sM 9 (bV true) rfl rfl ?_
 refine sq_nil ?_
 refine ht_ret ?_
 cases h
 exact ret2 rfl (.cell rfl rfl ag26 (ble _ _ rfl) rfl) (.tmp rfl)
theorem s105 (k : Nat) (t0 : Cell) (t1 : Int) (r : Cell) (h : F105 k t0 t1 = some r) : Awp.Spec Tryz.prog amb 105 [(.agg (eCell t0)), (.s (.int .i64 t1))] (.ds [(.agg (eCell r))]) := by
 rw [F105] at h
 refine spec_of Tryz.func105 rfl (ble _ _ rfl) fun w0 ok0 lt0 hA => ?_
 refine sr ?_
 refine sq_cons _ (v_box (id := 2) (cs := (eCell t0).map V.d) rfl trivial rfl (ble _ _ rfl) rfl rfl (ones_of rfl) rfl) ?_
 refine sq_cons _ (v_alloc (id := 4) (cs := zc26) rfl trivial rfl (ble _ _ rfl) zu26 rfl ft26 rfl) ?_
 refine sq_nil ?_
 refine ht_seq ?_
 refine sr ?_
 refine sT 8 (.d (.agg (eCell t0))) rfl (w_ldb 2 0 rfl · · · ag26 rfl rfl (ble _ _ rfl) rfl) ?_
 refine sM 9 (iV t1) rfl rfl ?_
 obtain ⟨⟨t10a, t10b⟩, c1, h⟩ := bpos h
 refine sT 10 (.tup [iV t10a, bV t10b]) rfl (w_call (ds := [(.agg (eCell t0)), (.s (.int .i64 t1))]) (caps := []) (l := [(.s (.int .i64 t10a)), (.s (.bool t10b))]) (s123 k t0 t1 _ c1) rfl rfl rfl en123 · · · (.inl ⟨rfl, rfl⟩) rfl rfl) ?_
 refine sM 7 (.tup [iV t10a, bV t10b]) rfl rfl ?_
 refine sT 11 (iV t10a) rfl (v_extract rfl · · · rfl rfl) ?_
 refine sT 12 (bV t10b) rfl (v_extract rfl · · · rfl rfl) ?_
 refine sM 5 (iV t10a) rfl rfl ?_
 refine sM 6 (bV t10b) rfl rfl ?_
 refine sq_nil ?_
 refine sr ?_
 refine sM 13 (bV t10b) rfl rfl ?_
 refine sq_nil ?_
 refine ht_cond rfl (fun e2 => ?_) (fun e2 => ?_)
 ·replace h := cpos e2 h
  refine ht_region ?_
  refine sT 14 (.ptr 2 0) rfl (v_field_box (off := 0) (a0 := 0) rfl · · · fo26_0 rfl) ?_
  refine sT 15 (.d (.sl 17 (t0.mShards.map eShard))) rfl (v_load_box1 (id := 2) (off := 0) rfl · · · onT22 rfl rfl (ble _ _ rfl) rfl) ?_
  obtain ⟨t16, c3, h⟩ := bpos h
  refine sq_cons ⟨_, [(.b 16, .row false 45 17 (t16.map eShard)), (.t 16, .own 16 17 t16.length)]⟩ (w_call_own (id := 16) (ds := [(.sl 17 (t0.mShards.map eShard))]) (caps := []) eShard (s98o k t0.mShards _ c3) rfl rfl rfl en98 trivial rfl (ble _ _ rfl) (.inl ⟨rfl, rfl⟩) rfl rfl) ?_
  refine sM 17 (iV t10a) rfl rfl ?_
  refine sM 18 (iV t10a) rfl rfl ?_
  refine sT 19 (iV (IntKind.wrap .i64 (t10a + 1))) rfl (v_bin rfl · · · rfl rfl (b_add rfl)) ?_
  obtain ⟨e4, h⟩ := gpos h
  obtain ⟨e5, h⟩ := gpos h
  refine sq_cons ⟨_, [(.b 16, .spent), (.b 20, .row false 45 17 ((List.take t10a.toNat t16 ++ List.drop (t10a.toNat + 1) t16).map eShard)), (.t 20, .own 20 17 (List.take t10a.toNat t16 ++ List.drop (t10a.toNat + 1) t16).length)]⟩ (w_del 20 t16 eShard delS147 rfl rfl rfl en147 trivial rfl (ble _ _ rfl) teShard rfl rfl rfl (iV_of (of_decide_eq_true e5) rfl) rfl e4) ?_
  refine sT 21 (.ptr 2 0) rfl (v_field_box (off := 0) (a0 := 0) rfl · · · fo26_0 rfl) ?_
  refine sq_cons _ (v_store_box (id := 2) (off := 0) (cs := [.own 20 17 (List.take t10a.toNat t16 ++ List.drop (t10a.toNat + 1) t16).length]) rfl trivial rfl sz22 rfl rfl rfl rfl (ones_of rfl) (ble _ _ rfl)) ?_
  refine sq_nil ?_
  refine ht_seq ?_
  refine ht_weak (wk_still_row 20 _ _ _ rfl) ?_
  refine ht_weak (wk_row (.c 2 0) (nc 2 0) 20 _ _ _ _ rfl rfl (lm _ _)) ?_
  refine ht_weak (wk_row (.t 20) (nb 20) 20 _ _ _ _ rfl rfl (lm _ _)) ?_
  refine ht_region ?_
  refine sT 22 (.d (.agg (eCell ({t0 with mShards := (List.take t10a.toNat t16 ++ List.drop (t10a.toNat + 1) t16)})))) rfl (w_ldb 2 0 rfl · · · ag26 rfl rfl (ble _ _ rfl) rfl) ?_
  refine sq_cons _ (v_store_box (id := 4) (off := 0) (cs := (eCell ({t0 with mShards := (List.take t10a.toNat t16 ++ List.drop (t10a.toNat + 1) t16)})).map V.d) rfl trivial rfl sz26 rfl rfl rfl rfl (ones_of rfl) (ble _ _ rfl)) ?_
  refine sq_nil ?_
  refine ht_ret ?_
  cases h
  exact ret1 rfl (.cell rfl rfl ag26 (ble _ _ rfl) rfl)
 replace h := cneg e2 h
 refine ht_skip ?_
 refine sr ?_
 refine sT 22 (.d (.agg (eCell t0))) rfl (w_ldb 2 0 rfl · · · ag26 rfl rfl (ble _ _ rfl) rfl) ?_
 refine sq_cons _ (v_store_box (id := 4) (off := 0) (cs := (eCell t0).map V.d) rfl trivial rfl sz26 rfl rfl rfl rfl (ones_of rfl) (ble _ _ rfl)) ?_
 refine sq_nil ?_
 refine ht_ret ?_
 cases h
 exact ret1 rfl (.cell rfl rfl ag26 (ble _ _ rfl) rfl)
end Go.Proofs.Gd
set_option linter.unusedVariables false
set_option maxRecDepth 100000
set_option maxHeartbeats 4000000
namespace Go.Proofs.Gd
open Go Go.Awp Go.Proofs
theorem s44 (k : Nat) (t0 : Cell) (t1 : Int) (t2 : Int) (r : Cell × Bool) (h : F44 k t0 t1 t2 = some r) : Awp.Spec Tryz.prog amb 44 [(.agg (eCell t0)), (.s (.int .i64 t1)), (.s (.int .i64 t2))] (.ds [(.agg (eCell r.1)), (.s (.bool r.2))]) := by
 rw [F44] at h
 refine spec_of Tryz.func44 rfl (ble _ _ rfl) fun w0 ok0 lt0 hA => ?_
 refine sr ?_
 refine sT 3 (.d (.dp (eCell t0))) rfl (v_box_d (cs := (eCell t0)) rfl · · · rfl rfl (ones_of rfl)) ?_
 refine sq_cons _ (v_alloc (id := 6) (cs := zc26) rfl trivial rfl (ble _ _ rfl) zu26 rfl ft26 rfl) ?_
 refine sM 7 (bV false) rfl rfl ?_
 refine sq_nil ?_
 refine ht_seq ?_
 refine sr ?_
 refine sT 9 (.d (.agg (eCell t0))) rfl (w_ldp (eCell t0) (eCell t0) rfl · · · ag26 rfl (ble _ _ rfl) rfl) ?_
 obtain ⟨t10, c1, h⟩ := bpos h
 refine sT 10 (bV t10) rfl (w_call (ds := [(.agg (eCell t0))]) (caps := []) (l := [(.s (.bool t10))]) (s25 k t0 _ c1) rfl rfl rfl en25 · · · (.inl ⟨rfl, rfl⟩) rfl rfl) ?_
 refine sT 11 (bV (!t10)) rfl (v_un rfl · · · rfl (u_not rfl)) ?_
 refine sM 12 (bV (!t10)) rfl rfl ?_
 refine sF 13 (iV t1) rfl rfl (fun e2 => (v_move (.inl rfl) · · · rfl)) ?_
 refine sF 14 (iV t2) rfl rfl (fun e3 => (v_move (.inl rfl) · · · rfl)) ?_
 refine sF 15 (.d (.sl 1 (([t1, t2]).map (eI .i64)))) rfl rfl (fun e4 => (w_bsl_d [(0, iV t1), (1, iV t2)] [t1, t2] (eI .i64) rfl · · · slT148 zr3 (encI .i64) (ble _ _ rfl) (cc (pr (gv (nF e4))) (cc (pr (gv (nF e4))) rfl)) (by kernel_rfl) rfl rfl (by kernel_rfl))) ?_
 obtain ⟨t16, c6, h⟩ := bpos h
 refine sF 16 (bV t16) rfl rfl (fun e5 => (w_call (ds := [(.s (.int .i64 1)), (.sl 1 (([t1, t2]).map (eI .i64)))]) (caps := []) (l := [(.s (.bool t16))]) (s57 k 1 ([t1, t2]) _ (cpos (nF e5) c6)) rfl rfl rfl en57 · · · (.inl ⟨rfl, rfl⟩) (cc rfl (cc (gv (nF e5)) rfl)) rfl)) ?_
 refine sF 17 (bV (!t16)) rfl rfl (fun e7 => (v_un rfl · · · (gv (nF e7)) (u_not rfl))) ?_
 refine sT 18 (bV ((!t10) || (!t16))) rfl (v_pickB rfl · · · rfl (fun e8 => rfl) (fun e9 => (gv (nF e9))) (pO _ _)) ?_
 refine sq_nil ?_
 refine ht_cond rfl (fun e10 => ?_) (fun e10 => ?_)
 ·replace h := cpos e10 h
  refine sr ?_
  refine sT 19 (.d (.agg (eCell t0))) rfl (w_ldp (eCell t0) (eCell t0) rfl · · · ag26 rfl (ble _ _ rfl) rfl) ?_
  refine sq_cons _ (v_store_box (id := 6) (off := 0) (cs := (eCell t0).map V.d) rfl trivial rfl sz26 rfl rfl rfl rfl (ones_of rfl) (ble _ _ rfl)) ?_
  refine sM 7 (bV false) rfl rfl ?_
  refine sq_nil ?_
  refine ht_ret ?_
  cases h
  exact ret2 rfl (.cell rfl rfl ag26 (ble _ _ rfl) rfl) (.tmp rfl)
 replace h := cneg e10 h
 refine ht_skip ?_
 refine sr ?_
 refine sT 20 (.d (.agg (eCell t0))) rfl (w_ldp (eCell t0) (eCell t0) rfl · · · ag26 rfl (ble _ _ rfl) rfl) ?_
 refine sM 21 (iV t1) rfl rfl ?_
 obtain ⟨t22, c11, h⟩ := bpos h
 refine sT 22 (.d (.agg (eShard t22))) rfl (w_call (ds := [(.agg (eCell t0)), (.s (.int .i64 t1))]) (caps := []) (l := [(.agg (eShard t22))]) (s60 k t0 t1 _ c11) rfl rfl rfl en60 · · · (.inl ⟨rfl, rfl⟩) rfl rfl) ?_
 refine sq_cons _ (v_alloc (id := 8) (cs := zc45) rfl trivial rfl (ble _ _ rfl) zu45 rfl ft45 rfl) ?_
 refine sq_cons _ (v_store_box (id := 8) (off := 0) (cs := (eShard t22).map V.d) rfl trivial rfl sz45 rfl rfl rfl rfl (ones_of rfl) (ble _ _ rfl)) ?_
 refine sq_nil ?_
 refine ht_seq ?_
 refine sr ?_
 refine sT 23 (.ptr 8 0) rfl (v_field_box (off := 0) (a0 := 0) rfl · · · fo45_0 rfl) ?_
 refine sT 24 (iV t22.mID) rfl (v_load_box1 (id := 8) (off := 0) rfl · · · onT3 rfl rfl (ble _ _ rfl) rfl) ?_
 refine sT 25 (bV (eqI t22.mID 0)) rfl (v_bin rfl · · · rfl rfl (b_eql rfl)) ?_
 refine sq_nil ?_
 refine ht_cond rfl (fun e12 => ?_) (fun e12 => ?_)
 ·replace h := cpos e12 h
  refine sr ?_
  refine sT 26 (.d (.agg (eCell t0))) rfl (w_ldp (eCell t0) (eCell t0) rfl · · · ag26 rfl (ble _ _ rfl) rfl) ?_
  refine sq_cons _ (v_store_box (id := 6) (off := 0) (cs := (eCell t0).map V.d) rfl trivial rfl sz26 rfl rfl rfl rfl (ones_of rfl) (ble _ _ rfl)) ?_
  refine sM 7 (bV true) rfl rfl ?_
  refine sq_nil ?_
  refine ht_ret ?_
  cases h
  exact ret2 rfl (.cell rfl rfl ag26 (ble _ _ rfl) rfl) (.tmp rfl)
 replace h := cneg e12 h
 refine ht_skip ?_
 refine ht_seq ?_
 refine sr ?_
 refine sT 27 (.d (.agg (eShard t22))) rfl (w_ldb 8 0 rfl · · · ag45 rfl rfl (ble _ _ rfl) rfl) ?_
 refine sM 28 (iV t2) rfl rfl ?_
 obtain ⟨t29, c13, h⟩ := bpos h
 refine sT 29 (bV t29) rfl (w_call (ds := [(.agg (eShard t22)), (.s (.int .i64 t2))]) (caps := []) (l := [(.s (.bool t29))]) (s94 k t22 t2 _ c13) rfl rfl rfl en94 · · · (.inl ⟨rfl, rfl⟩) rfl rfl) ?_
 refine sT 30 (bV (!t29)) rfl (v_un rfl · · · rfl (u_not rfl)) ?_
 refine sq_nil ?_
 refine ht_cond rfl (fun e14 => ?_) (fun e14 => ?_)
 ·replace h := cpos e14 h
  refine sr ?_
  refine sT 31 (.d (.agg (eCell t0))) rfl (w_ldp (eCell t0) (eCell t0) rfl · · · ag26 rfl (ble _ _ rfl) rfl) ?_
  refine sq_cons _ (v_store_box (id := 6) (off := 0) (cs := (eCell t0).map V.d) rfl trivial rfl sz26 rfl rfl rfl rfl (ones_of rfl) (ble _ _ rfl)) ?_
  refine sM 7 (bV false) rfl rfl ?_
  refine sq_nil ?_
  refine ht_ret ?_
  cases h
  exact ret2 rfl (.cell rfl rfl ag26 (ble _ _ rfl) rfl) (.tmp rfl)
 replace h := cneg e14 h
 refine ht_skip ?_
 refine sr ?_
 refine sT 32 (.d (.agg (eCell t0))) rfl (w_ldp (eCell t0) (eCell t0) rfl · · · ag26 rfl (ble _ _ rfl) rfl) ?_
 refine sM 33 (iV t1) rfl rfl ?_
 obtain ⟨t34, c15, h⟩ := bpos h
 refine sT 34 (.d (.agg (eCell t34))) rfl (w_call (ds := [(.agg (eCell t0)), (.s (.int .i64 t1))]) (caps := []) (l := [(.agg (eCell t34))]) (s105 k t0 t1 _ c15) rfl rfl rfl en105 · · · (.inl ⟨rfl, rfl⟩) rfl rfl) ?_
 refine sq_cons _ (v_store_box (id := 6) (off := 0) (cs := (eCell t34).map V.d) rfl trivial rfl sz26 rfl rfl rfl rfl (ones_of rfl) (ble _ _ rfl)) ?_
 refine sM 7 (bV true) rfl rfl ?_
 refine sq_nil ?_
 refine ht_ret ?_
 cases h
 exact ret2 rfl (.cell rfl rfl ag26 (ble _ _ rfl) rfl) (.tmp rfl)
theorem s46 (k : Nat) (t0 : Cell) (t1 : Int) (t2 : Int) (r : Cell × Bool) (h : F46 k t0 t1 t2 = some r) : Awp.Spec Tryz.prog amb 46 [(.agg (eCell t0)), (.s (.int .i64 t1)), (.s (.int .i64 t2))] (.ds [(.agg (eCell r.1)), (.s (.bool r.2))]) := by
 rw [F46] at h
 refine spec_of Tryz.func46 rfl (ble _ _ rfl) fun w0 ok0 lt0 hA => ?_
 refine sr ?_
 refine sT 3 (.d (.dp (eCell t0))) rfl (v_box_d (cs := (eCell t0)) rfl · · · rfl rfl (ones_of rfl)) ?_
 refine sq_cons _ (v_alloc (id := 6) (cs := zc26) rfl trivial rfl (ble _ _ rfl) zu26 rfl ft26 rfl) ?_
 refine sM 7 (bV false) rfl rfl ?_
 refine sq_nil ?_
 refine sr ?_
 refine sT 11 (.d (.agg (eCell t0))) rfl (w_ldp (eCell t0) (eCell t0) rfl · · · ag26 rfl (ble _ _ rfl) rfl) ?_
 refine sM 12 (iV t1) rfl rfl ?_
 obtain ⟨⟨t13a, t13b⟩, c1, h⟩ := bpos h
 refine sT 13 (.tup [.d (.agg (eShard t13a)), bV t13b]) rfl (w_call (ds := [(.agg (eCell t0)), (.s (.int .i64 t1))]) (caps := []) (l := [(.agg (eShard t13a)), (.s (.bool t13b))]) (s23 k t0 t1 _ c1) rfl rfl rfl en23 · · · (.inl ⟨rfl, rfl⟩) rfl rfl) ?_
 refine sM 10 (.tup [.d (.agg (eShard t13a)), bV t13b]) rfl rfl ?_
 refine sT 14 (.d (.agg (eShard t13a))) rfl (v_extract rfl · · · rfl rfl) ?_
 refine sT 15 (bV t13b) rfl (v_extract rfl · · · rfl rfl) ?_
 refine sq_cons _ (v_alloc (id := 8) (cs := zc45) rfl trivial rfl (ble _ _ rfl) zu45 rfl ft45 rfl) ?_
 refine sq_cons _ (v_store_box (id := 8) (off := 0) (cs := (eShard t13a).map V.d) rfl trivial rfl sz45 rfl rfl rfl rfl (ones_of rfl) (ble _ _ rfl)) ?_
 refine sM 9 (bV t13b) rfl rfl ?_
 refine sq_nil ?_
 refine ht_seq ?_
 refine sr ?_
 refine sM 16 (bV t13b) rfl rfl ?_
 refine sT 17 (bV (!t13b)) rfl (v_un rfl · · · rfl (u_not rfl)) ?_
 refine sM 18 (bV (!t13b)) rfl rfl ?_
 refine sF 19 (iV t2) rfl rfl (fun e2 => (v_move (.inl rfl) · · · rfl)) ?_
 refine sF 20 (.d (.sl 1 (([t2]).map (eI .i64)))) rfl rfl (fun e3 => (w_bsl_d [(0, iV t2)] [t2] (eI .i64) rfl · · · slT148 zr3 (encI .i64) (ble _ _ rfl) (cc (pr (gv (nF e3))) rfl) (by kernel_rfl) rfl rfl (by kernel_rfl))) ?_
 obtain ⟨t21, c5, h⟩ := bpos h
 refine sF 21 (bV t21) rfl rfl (fun e4 => (w_call (ds := [(.s (.int .i64 1)), (.sl 1 (([t2]).map (eI .i64)))]) (caps := []) (l := [(.s (.bool t21))]) (s57 k 1 ([t2]) _ (cpos (nF e4) c5)) rfl rfl rfl en57 · · · (.inl ⟨rfl, rfl⟩) (cc rfl (cc (gv (nF e4)) rfl)) rfl)) ?_
 refine sF 22 (bV (!t21)) rfl rfl (fun e6 => (v_un rfl · · · (gv (nF e6)) (u_not rfl))) ?_
 refine sT 23 (bV ((!t13b) || (!t21))) rfl (v_pickB rfl · · · rfl (fun e7 => rfl) (fun e8 => (gv (nF e8))) (pO _ _)) ?_
 refine sq_nil ?_
 refine ht_cond rfl (fun e9 => ?_) (fun e9 => ?_)
 ·replace h := cpos e9 h
  refine sr ?_
  refine sT 24 (.d (.agg (eCell t0))) rfl (w_ldp (eCell t0) (eCell t0) rfl · · · ag26 rfl (ble _ _ rfl) rfl) ?_
  refine sq_cons _ (v_store_box (id := 6) (off := 0) (cs := (eCell t0).map V.d) rfl trivial rfl sz26 rfl rfl rfl rfl (ones_of rfl) (ble _ _ rfl)) ?_
  refine sM 7 (bV false) rfl rfl ?_
  refine sq_nil ?_
  refine ht_ret ?_
  cases h
  exact ret2 rfl (.cell rfl rfl ag26 (ble _ _ rfl) rfl) (.tmp rfl)
 replace h := cneg e9 h
 refine ht_skip ?_
 refine ht_seq ?_
 refine sr ?_
 refine sT 25 (.ptr 8 16) rfl (v_field_box (off := 0) (a0 := 16) rfl · · · fo45_11 rfl) ?_
 refine sT 26 (iV t13a.mClosed) rfl (v_load_box1 (id := 8) (off := 16) rfl · · · onT3 rfl rfl (ble _ _ rfl) rfl) ?_
 refine sM 27 (iV t2) rfl rfl ?_
 refine sT 28 (bV (leI t2 t13a.mClosed)) rfl (v_bin rfl · · · rfl rfl (b_geq rfl)) ?_
 refine sM 29 (bV (leI t2 t13a.mClosed)) rfl rfl ?_
 refine sF 30 (.ptr 8 4) rfl rfl (fun e10 => (v_field_box (off := 0) (a0 := 4) rfl · · · fo45_3 rfl)) ?_
 refine sF 31 (iV t13a.mPhase) rfl rfl (fun e11 => (v_load_box1 (id := 8) (off := 4) rfl · · · onT3 (gv (nF e11)) rfl (ble _ _ rfl) rfl)) ?_
 refine sF 32 (bV (eqI t13a.mPhase 2)) rfl rfl (fun e12 => (v_bin rfl · · · (gv (nF e12)) rfl (b_eql rfl))) ?_
 refine sF 33 (bV (eqI t13a.mPhase 2)) rfl rfl (fun e13 => (v_move (.inl rfl) · · · (gv (nF e13)))) ?_
 refine sI 34 (.ptr 8 15) rfl rfl (fun e14 e15 => (v_field_box (off := 0) (a0 := 15) rfl · · · fo45_10 rfl)) ?_
 refine sI 35 (iV t13a.mMove) rfl rfl (fun e16 e17 => (v_load_box1 (id := 8) (off := 15) rfl · · · onT3 (gv (aT e16 e17)) rfl (ble _ _ rfl) rfl)) ?_
 refine sI 36 (iV t2) rfl rfl (fun e18 e19 => (v_move (.inl rfl) · · · rfl)) ?_
 refine sI 37 (bV (!eqI t13a.mMove t2)) rfl rfl (fun e20 e21 => (v_bin rfl · · · (gv (aT e20 e21)) (gv (aT e20 e21)) (b_neq rfl))) ?_
 refine sF 38 (bV ((eqI t13a.mPhase 2) && (!eqI t13a.mMove t2))) rfl rfl (fun e22 => (v_pickB rfl · · · (gv (nF e22)) (fun e23 => (gv (aT (nF e22) e23))) (fun e24 => rfl) (pA _ _))) ?_
 refine sT 39 (bV ((leI t2 t13a.mClosed) || ((eqI t13a.mPhase 2) && (!eqI t13a.mMove t2)))) rfl (v_pickB rfl · · · rfl (fun e25 => rfl) (fun e26 => (gv (nF e26))) (pO _ _)) ?_
 refine sq_nil ?_
 refine ht_cond rfl (fun e27 => ?_) (fun e27 => ?_)
 ·replace h := cpos e27 h
  refine sr ?_
  refine sT 40 (.d (.agg (eCell t0))) rfl (w_ldp (eCell t0) (eCell t0) rfl · · · ag26 rfl (ble _ _ rfl) rfl) ?_
  refine sq_cons _ (v_store_box (id := 6) (off := 0) (cs := (eCell t0).map V.d) rfl trivial rfl sz26 rfl rfl rfl rfl (ones_of rfl) (ble _ _ rfl)) ?_
  refine sM 7 (bV true) rfl rfl ?_
  refine sq_nil ?_
  refine ht_ret ?_
  cases h
  exact ret2 rfl (.cell rfl rfl ag26 (ble _ _ rfl) rfl) (.tmp rfl)
 replace h := cneg e27 h
 refine ht_skip ?_
 refine sr ?_
 refine sM 41 (iV t2) rfl rfl ?_
 refine sT 42 (.ptr 8 16) rfl (v_field_box (off := 0) (a0 := 16) rfl · · · fo45_11 rfl) ?_
 refine sq_cons _ (v_store_box (id := 8) (off := 16) (cs := [(.s (.int .i64 t2))].map V.d) rfl trivial rfl sz3 rfl rfl rfl rfl (ones_of rfl) (ble _ _ rfl)) ?_
 refine sq_nil ?_
 refine ht_seq ?_
 refine sr ?_
 refine sT 43 (.d (.agg (eShard ({t13a with mClosed := t2})))) rfl (w_ldb 8 0 rfl · · · ag45 rfl rfl (ble _ _ rfl) rfl) ?_
 refine sM 44 (iV t2) rfl rfl ?_
 obtain ⟨t45, c28, h⟩ := bpos h
 refine sT 45 (bV t45) rfl (w_call (ds := [(.agg (eShard ({t13a with mClosed := t2}))), (.s (.int .i64 t2))]) (caps := []) (l := [(.s (.bool t45))]) (s94 k ({t13a with mClosed := t2}) t2 _ c28) rfl rfl rfl en94 · · · (.inl ⟨rfl, rfl⟩) rfl rfl) ?_
 refine sq_nil ?_
 refine ht_cond rfl (fun e29 => ?_) (fun e29 => ?_)
 ·replace h := cpos e29 h
  refine ht_region ?_
  refine sT 46 (.ptr 8 4) rfl (v_field_box (off := 0) (a0 := 4) rfl · · · fo45_3 rfl) ?_
  refine sq_cons _ (v_store_box (id := 8) (off := 4) (cs := [(.s (.int .i64 1))].map V.d) rfl trivial rfl sz3 rfl rfl rfl rfl (ones_of rfl) (ble _ _ rfl)) ?_
  refine sq_nil ?_
  refine sr ?_
  refine sT 47 (.d (.agg (eCell t0))) rfl (w_ldp (eCell t0) (eCell t0) rfl · · · ag26 rfl (ble _ _ rfl) rfl) ?_
  refine sT 48 (.d (.agg (eShard ({t13a with mPhase := 1, mClosed := t2})))) rfl (w_ldb 8 0 rfl · · · ag45 rfl rfl (ble _ _ rfl) rfl) ?_
  obtain ⟨t49, c30, h⟩ := bpos h
  refine sT 49 (.d (.agg (eCell t49))) rfl (w_call (ds := [(.agg (eCell t0)), (.agg (eShard ({t13a with mPhase := 1, mClosed := t2})))]) (caps := []) (l := [(.agg (eCell t49))]) (s95 k t0 ({t13a with mPhase := 1, mClosed := t2}) _ c30) rfl rfl rfl en95 · · · (.inl ⟨rfl, rfl⟩) rfl rfl) ?_
  refine sq_cons _ (v_store_box (id := 6) (off := 0) (cs := (eCell t49).map V.d) rfl trivial rfl sz26 rfl rfl rfl rfl (ones_of rfl) (ble _ _ rfl)) ?_
  refine sM 7 (bV true) rfl rfl ?_
  refine sq_nil ?_
  refine ht_ret ?_
  cases h
  exact ret2 rfl (.cell rfl rfl ag26 (ble _ _ rfl) rfl) (.tmp rfl)
 replace h := cneg e29 h
 refine ht_skip ?_
 refine sr ?_
 refine sT 47 (.d (.agg (eCell t0))) rfl (w_ldp (eCell t0) (eCell t0) rfl · · · ag26 rfl (ble _ _ rfl) rfl) ?_
 refine sT 48 (.d (.agg (eShard ({t13a with mClosed := t2})))) rfl (w_ldb 8 0 rfl · · · ag45 rfl rfl (ble _ _ rfl) rfl) ?_
 obtain ⟨t49_1, c31, h⟩ := bpos h
 refine sT 49 (.d (.agg (eCell t49_1))) rfl (w_call (ds := [(.agg (eCell t0)), (.agg (eShard ({t13a with mClosed := t2})))]) (caps := []) (l := [(.agg (eCell t49_1))]) (s95 k t0 ({t13a with mClosed := t2}) _ c31) rfl rfl rfl en95 · · · (.inl ⟨rfl, rfl⟩) rfl rfl) ?_
 refine sq_cons _ (v_store_box (id := 6) (off := 0) (cs := (eCell t49_1).map V.d) rfl trivial rfl sz26 rfl rfl rfl rfl (ones_of rfl) (ble _ _ rfl)) ?_
 refine sM 7 (bV true) rfl rfl ?_
 refine sq_nil ?_
 refine ht_ret ?_
 cases h
 exact ret2 rfl (.cell rfl rfl ag26 (ble _ _ rfl) rfl) (.tmp rfl)
theorem s47 (k : Nat) (t0 : Cell) (t1 : Int) (t2 : Int) (r : Cell × Bool) (h : F47 k t0 t1 t2 = some r) : Awp.Spec Tryz.prog amb 47 [(.agg (eCell t0)), (.s (.int .i64 t1)), (.s (.int .i64 t2))] (.ds [(.agg (eCell r.1)), (.s (.bool r.2))]) := by
 rw [F47] at h
 refine spec_of Tryz.func47 rfl (ble _ _ rfl) fun w0 ok0 lt0 hA => ?_
 refine sr ?_
 refine sq_cons _ (v_box (id := 3) (cs := (eCell t0).map V.d) rfl trivial rfl (ble _ _ rfl) rfl rfl (ones_of rfl) rfl) ?_
 refine sq_cons _ (v_alloc (id := 6) (cs := zc26) rfl trivial rfl (ble _ _ rfl) zu26 rfl ft26 rfl) ?_
 refine sM 7 (bV false) rfl rfl ?_
 refine sq_nil ?_
 refine ht_seq ?_
 refine sr ?_
 refine sT 8 (.d (.agg (eCell t0))) rfl (w_ldb 3 0 rfl · · · ag26 rfl rfl (ble _ _ rfl) rfl) ?_
 obtain ⟨t9, c1, h⟩ := bpos h
 refine sT 9 (bV t9) rfl (w_call (ds := [(.agg (eCell t0))]) (caps := []) (l := [(.s (.bool t9))]) (s25 k t0 _ c1) rfl rfl rfl en25 · · · (.inl ⟨rfl, rfl⟩) rfl rfl) ?_
 refine sT 10 (bV (!t9)) rfl (v_un rfl · · · rfl (u_not rfl)) ?_
 refine sM 11 (bV (!t9)) rfl rfl ?_
 refine sF 12 (iV t1) rfl rfl (fun e2 => (v_move (.inl rfl) · · · rfl)) ?_
 refine sF 13 (iV t2) rfl rfl (fun e3 => (v_move (.inl rfl) · · · rfl)) ?_
 refine sF 14 (.d (.sl 1 (([t1, t2]).map (eI .i64)))) rfl rfl (fun e4 => (w_bsl_d [(0, iV t1), (1, iV t2)] [t1, t2] (eI .i64) rfl · · · slT148 zr3 (encI .i64) (ble _ _ rfl) (cc (pr (gv (nF e4))) (cc (pr (gv (nF e4))) rfl)) (by kernel_rfl) rfl rfl (by kernel_rfl))) ?_
 obtain ⟨t15, c6, h⟩ := bpos h
 refine sF 15 (bV t15) rfl rfl (fun e5 => (w_call (ds := [(.s (.int .i64 1)), (.sl 1 (([t1, t2]).map (eI .i64)))]) (caps := []) (l := [(.s (.bool t15))]) (s57 k 1 ([t1, t2]) _ (cpos (nF e5) c6)) rfl rfl rfl en57 · · · (.inl ⟨rfl, rfl⟩) (cc rfl (cc (gv (nF e5)) rfl)) rfl)) ?_
 refine sF 16 (bV (!t15)) rfl rfl (fun e7 => (v_un rfl · · · (gv (nF e7)) (u_not rfl))) ?_
 refine sT 17 (bV ((!t9) || (!t15))) rfl (v_pickB rfl · · · rfl (fun e8 => rfl) (fun e9 => (gv (nF e9))) (pO _ _)) ?_
 refine sq_nil ?_
 refine ht_cond rfl (fun e10 => ?_) (fun e10 => ?_)
 ·replace h := cpos e10 h
  refine sr ?_
  refine sT 18 (.d (.agg (eCell t0))) rfl (w_ldb 3 0 rfl · · · ag26 rfl rfl (ble _ _ rfl) rfl) ?_
  refine sq_cons _ (v_store_box (id := 6) (off := 0) (cs := (eCell t0).map V.d) rfl trivial rfl sz26 rfl rfl rfl rfl (ones_of rfl) (ble _ _ rfl)) ?_
  refine sM 7 (bV false) rfl rfl ?_
  refine sq_nil ?_
  refine ht_ret ?_
  cases h
  exact ret2 rfl (.cell rfl rfl ag26 (ble _ _ rfl) rfl) (.tmp rfl)
 replace h := cneg e10 h
 refine ht_skip ?_
 refine ht_seq ?_
 refine sr ?_
 refine sT 19 (.d (.agg (eCell t0))) rfl (w_ldb 3 0 rfl · · · ag26 rfl rfl (ble _ _ rfl) rfl) ?_
 refine sM 20 (iV t1) rfl rfl ?_
 obtain ⟨t21, c11, h⟩ := bpos h
 refine sT 21 (.d (.agg (eShard t21))) rfl (w_call (ds := [(.agg (eCell t0)), (.s (.int .i64 t1))]) (caps := []) (l := [(.agg (eShard t21))]) (s60 k t0 t1 _ c11) rfl rfl rfl en60 · · · (.inl ⟨rfl, rfl⟩) rfl rfl) ?_
 refine sM 22 (iV t2) rfl rfl ?_
 obtain ⟨t23, c12, h⟩ := bpos h
 refine sT 23 (bV t23) rfl (w_call (ds := [(.agg (eShard t21)), (.s (.int .i64 t2))]) (caps := []) (l := [(.s (.bool t23))]) (s93 k t21 t2 _ c12) rfl rfl rfl en93 · · · (.inl ⟨rfl, rfl⟩) rfl rfl) ?_
 refine sq_nil ?_
 refine ht_cond rfl (fun e13 => ?_) (fun e13 => ?_)
 ·replace h := cpos e13 h
  refine ht_region ?_
  refine sT 24 (.d (.agg (eCell t0))) rfl (w_ldb 3 0 rfl · · · ag26 rfl rfl (ble _ _ rfl) rfl) ?_
  refine sM 25 (iV t1) rfl rfl ?_
  obtain ⟨t26, c14, h⟩ := bpos h
  refine sT 26 (.d (.agg (eCell t26))) rfl (w_call (ds := [(.agg (eCell t0)), (.s (.int .i64 t1))]) (caps := []) (l := [(.agg (eCell t26))]) (s105 k t0 t1 _ c14) rfl rfl rfl en105 · · · (.inl ⟨rfl, rfl⟩) rfl rfl) ?_
  refine sq_cons _ (v_store_box (id := 3) (off := 0) (cs := (eCell t26).map V.d) rfl trivial rfl sz26 rfl rfl rfl rfl (ones_of rfl) (ble _ _ rfl)) ?_
  refine sq_nil ?_
  refine sr ?_
  refine sT 27 (.ptr 3 4) rfl (v_field_box (off := 0) (a0 := 4) rfl · · · fo26_2 rfl) ?_
  refine sT 28 (iV t26.mDropped) rfl (v_load_box1 (id := 3) (off := 4) rfl · · · onT3 rfl rfl (ble _ _ rfl) rfl) ?_
  refine sM 29 (iV t2) rfl rfl ?_
  refine sT 30 (iV (maxI t26.mDropped t2)) rfl (v_bi2 rfl rfl · · · rfl rfl (r_max und3 rfl)) ?_
  refine sT 31 (.ptr 3 4) rfl (v_field_box (off := 0) (a0 := 4) rfl · · · fo26_2 rfl) ?_
  refine sq_cons _ (v_store_box (id := 3) (off := 4) (cs := [(.s (.int .i64 (maxI t26.mDropped t2)))].map V.d) rfl trivial rfl sz3 rfl rfl rfl rfl (ones_of rfl) (ble _ _ rfl)) ?_
  refine sq_nil ?_
  refine sr ?_
  refine sT 32 (.d (.agg (eCell ({t26 with mDropped := (maxI t26.mDropped t2)})))) rfl (w_ldb 3 0 rfl · · · ag26 rfl rfl (ble _ _ rfl) rfl) ?_
  refine sq_cons _ (v_store_box (id := 6) (off := 0) (cs := (eCell ({t26 with mDropped := (maxI t26.mDropped t2)})).map V.d) rfl trivial rfl sz26 rfl rfl rfl rfl (ones_of rfl) (ble _ _ rfl)) ?_
  refine sM 7 (bV true) rfl rfl ?_
  refine sq_nil ?_
  refine ht_ret ?_
  cases h
  exact ret2 rfl (.cell rfl rfl ag26 (ble _ _ rfl) rfl) (.tmp rfl)
 replace h := cneg e13 h
 refine ht_skip ?_
 refine sr ?_
 refine sT 27 (.ptr 3 4) rfl (v_field_box (off := 0) (a0 := 4) rfl · · · fo26_2 rfl) ?_
 refine sT 28 (iV t0.mDropped) rfl (v_load_box1 (id := 3) (off := 4) rfl · · · onT3 rfl rfl (ble _ _ rfl) rfl) ?_
 refine sM 29 (iV t2) rfl rfl ?_
 refine sT 30 (iV (maxI t0.mDropped t2)) rfl (v_bi2 rfl rfl · · · rfl rfl (r_max und3 rfl)) ?_
 refine sT 31 (.ptr 3 4) rfl (v_field_box (off := 0) (a0 := 4) rfl · · · fo26_2 rfl) ?_
 refine sq_cons _ (v_store_box (id := 3) (off := 4) (cs := [(.s (.int .i64 (maxI t0.mDropped t2)))].map V.d) rfl trivial rfl sz3 rfl rfl rfl rfl (ones_of rfl) (ble _ _ rfl)) ?_
 refine sq_nil ?_
 refine sr ?_
 refine sT 32 (.d (.agg (eCell ({t0 with mDropped := (maxI t0.mDropped t2)})))) rfl (w_ldb 3 0 rfl · · · ag26 rfl rfl (ble _ _ rfl) rfl) ?_
 refine sq_cons _ (v_store_box (id := 6) (off := 0) (cs := (eCell ({t0 with mDropped := (maxI t0.mDropped t2)})).map V.d) rfl trivial rfl sz26 rfl rfl rfl rfl (ones_of rfl) (ble _ _ rfl)) ?_
 refine sM 7 (bV true) rfl rfl ?_
 refine sq_nil ?_
 refine ht_ret ?_
 cases h
 exact ret2 rfl (.cell rfl rfl ag26 (ble _ _ rfl) rfl) (.tmp rfl)
theorem s106 (k : Nat) (t0 : Span) (t1 : ByteArray) (r : Span × Span × Int) (h : F106 k t0 t1 = some r) : Awp.Spec Tryz.prog amb 106 [(.agg (eSpan t0)), (.s (.string t1))] (.ds [(.agg (eSpan r.1)), (.agg (eSpan r.2.1)), (.s (.int .i64 r.2.2))]) := by
 rw [F106] at h
 refine spec_of Tryz.func106 rfl (ble _ _ rfl) fun w0 ok0 lt0 hA => ?_
 refine sr ?_
 refine sT 2 (.d (.dp (eSpan t0))) rfl (v_box_d (cs := (eSpan t0)) rfl · · · rfl rfl (ones_of rfl)) ?_
 refine sq_cons _ (v_alloc (id := 4) (cs := zc41) rfl trivial rfl (ble _ _ rfl) zu41 rfl ft41 rfl) ?_
 refine sq_cons _ (v_alloc (id := 5) (cs := zc41) rfl trivial rfl (ble _ _ rfl) zu41 rfl ft41 rfl) ?_
 refine sM 6 (iV 0) rfl rfl ?_
 refine sq_nil ?_
 refine ht_seq ?_
 refine ht_block ?_
 refine sr ?_
 refine sT 8 (.d (.agg (eSpan t0))) rfl (w_ldp (eSpan t0) (eSpan t0) rfl · · · ag41 rfl (ble _ _ rfl) rfl) ?_
 obtain ⟨t9, c1, h⟩ := bpos h
 refine sT 9 (bV t9) rfl (w_call (ds := [(.agg (eSpan t0))]) (caps := []) (l := [(.s (.bool t9))]) (s80 k t0 _ c1) rfl rfl rfl en80 · · · (.inl ⟨rfl, rfl⟩) rfl rfl) ?_
 refine sT 10 (bV (!t9)) rfl (v_un rfl · · · rfl (u_not rfl)) ?_
 refine sM 11 (bV (!t9)) rfl rfl ?_
 refine sF 12 (sV t1) rfl rfl (fun e2 => (v_move (.inl rfl) · · · rfl)) ?_
 obtain ⟨t13, c4, h⟩ := bpos h
 refine sF 13 (bV t13) rfl rfl (fun e3 => (w_call (ds := [(.s (.string t1))]) (caps := []) (l := [(.s (.bool t13))]) (s122 k t1 _ (cpos (nF e3) c4)) rfl rfl rfl en122 · · · (.inl ⟨rfl, rfl⟩) (cc (gv (nF e3)) rfl) rfl)) ?_
 refine sF 14 (bV (!t13)) rfl rfl (fun e5 => (v_un rfl · · · (gv (nF e5)) (u_not rfl))) ?_
 refine sT 15 (bV ((!t9) || (!t13))) rfl (v_pickB rfl · · · rfl (fun e6 => rfl) (fun e7 => (gv (nF e7))) (pO _ _)) ?_
 refine sM 7 (bV ((!t9) || (!t13))) rfl rfl ?_
 refine sq_nil ?_
 refine ht_cond rfl (fun e8 => ?_) (fun e8 => ?_)
 ·replace h := cpos e8 h
  refine sr ?_
  refine sT 16 (.d (.agg (eSpan (⟨⟨#[]⟩, ⟨#[]⟩⟩ : Span)))) rfl (w_bld zc41 ((eSpan (⟨⟨#[]⟩, ⟨#[]⟩⟩ : Span)).map V.d) [] rfl · · · zw41 rfl ft41 rfl rfl rfl rfl) ?_
  refine sT 17 (.d (.agg (eSpan (⟨⟨#[]⟩, ⟨#[]⟩⟩ : Span)))) rfl (w_bld zc41 ((eSpan (⟨⟨#[]⟩, ⟨#[]⟩⟩ : Span)).map V.d) [] rfl · · · zw41 rfl ft41 rfl rfl rfl rfl) ?_
  refine sq_cons _ (v_store_box (id := 4) (off := 0) (cs := (eSpan (⟨⟨#[]⟩, ⟨#[]⟩⟩ : Span)).map V.d) rfl trivial rfl sz41 rfl rfl rfl rfl (ones_of rfl) (ble _ _ rfl)) ?_
  refine sq_cons _ (v_store_box (id := 5) (off := 0) (cs := (eSpan (⟨⟨#[]⟩, ⟨#[]⟩⟩ : Span)).map V.d) rfl trivial rfl sz41 rfl rfl rfl rfl (ones_of rfl) (ble _ _ rfl)) ?_
  refine sM 6 (iV 1) rfl rfl ?_
  refine sq_nil ?_
  refine ht_ret ?_
  cases h
  exact ret3 rfl (.cell rfl rfl ag41 (ble _ _ rfl) rfl) (.cell rfl rfl ag41 (ble _ _ rfl) rfl) (.tmp rfl)
 replace h := cneg e8 h
 refine sr ?_
 refine sM 19 (sV t1) rfl rfl ?_
 refine sT 20 (.d (.dp (eSpan t0))) rfl (v_field_dp (a0 := 0) (cs := (eSpan t0)) rfl · · · fo41_0 rfl) ?_
 refine sT 21 (sV t0.mLo) rfl (v_load_dp1 rfl · · · onT9 rfl rfl) ?_
 refine sT 22 (bV (strEq t1 t0.mLo)) rfl (v_bin rfl · · · rfl rfl (b_eqS rfl)) ?_
 refine sM 23 (bV (strEq t1 t0.mLo)) rfl rfl ?_
 refine sF 24 (.d (.agg (eSpan t0))) rfl rfl (fun e9 => (w_ldp (eSpan t0) (eSpan t0) rfl · · · ag41 rfl (ble _ _ rfl) rfl)) ?_
 refine sF 25 (sV t1) rfl rfl (fun e10 => (v_move (.inl rfl) · · · rfl)) ?_
 obtain ⟨t26, c12, h⟩ := bpos h
 refine sF 26 (bV t26) rfl rfl (fun e11 => (w_call (ds := [(.agg (eSpan t0)), (.s (.string t1))]) (caps := []) (l := [(.s (.bool t26))]) (s61 k t0 t1 _ (cpos (nF e11) c12)) rfl rfl rfl en61 · · · (.inl ⟨rfl, rfl⟩) (cc (gv (nF e11)) (cc (gv (nF e11)) rfl)) rfl)) ?_
 refine sF 27 (bV (!t26)) rfl rfl (fun e13 => (v_un rfl · · · (gv (nF e13)) (u_not rfl))) ?_
 refine sT 28 (bV ((strEq t1 t0.mLo) || (!t26))) rfl (v_pickB rfl · · · rfl (fun e14 => rfl) (fun e15 => (gv (nF e15))) (pO _ _)) ?_
 refine sM 18 (bV ((strEq t1 t0.mLo) || (!t26))) rfl rfl ?_
 refine sq_nil ?_
 refine ht_cond rfl (fun e16 => ?_) (fun e16 => ?_)
 ·replace h := cpos e16 h
  refine sr ?_
  refine sT 29 (.d (.agg (eSpan (⟨⟨#[]⟩, ⟨#[]⟩⟩ : Span)))) rfl (w_bld zc41 ((eSpan (⟨⟨#[]⟩, ⟨#[]⟩⟩ : Span)).map V.d) [] rfl · · · zw41 rfl ft41 rfl rfl rfl rfl) ?_
  refine sT 30 (.d (.agg (eSpan (⟨⟨#[]⟩, ⟨#[]⟩⟩ : Span)))) rfl (w_bld zc41 ((eSpan (⟨⟨#[]⟩, ⟨#[]⟩⟩ : Span)).map V.d) [] rfl · · · zw41 rfl ft41 rfl rfl rfl rfl) ?_
  refine sq_cons _ (v_store_box (id := 4) (off := 0) (cs := (eSpan (⟨⟨#[]⟩, ⟨#[]⟩⟩ : Span)).map V.d) rfl trivial rfl sz41 rfl rfl rfl rfl (ones_of rfl) (ble _ _ rfl)) ?_
  refine sq_cons _ (v_store_box (id := 5) (off := 0) (cs := (eSpan (⟨⟨#[]⟩, ⟨#[]⟩⟩ : Span)).map V.d) rfl trivial rfl sz41 rfl rfl rfl rfl (ones_of rfl) (ble _ _ rfl)) ?_
  refine sM 6 (iV 9) rfl rfl ?_
  refine sq_nil ?_
  refine ht_ret ?_
  cases h
  exact ret3 rfl (.cell rfl rfl ag41 (ble _ _ rfl) rfl) (.cell rfl rfl ag41 (ble _ _ rfl) rfl) (.tmp rfl)
 replace h := cneg e16 h
 refine ht_skip ?_
 refine ht_seq ?_
 refine ht_region_draw mixed ?_
 refine rT 31 (.d (.dp (eSpan t0))) rfl (v_field_dp (a0 := 0) (cs := (eSpan t0)) rfl · · · fo41_0 rfl) ?_
 refine rT 32 (sV t0.mLo) rfl (v_load_dp1 rfl · · · onT9 rfl rfl) ?_
 refine rM 33 (sV t1) rfl rfl ?_
 refine rT 34 (.d (.agg (eSpan ({t0 with mHi := t1})))) rfl (w_bld zc41 ((eSpan ({t0 with mHi := t1})).map V.d) [(0, sV t0.mLo), (1, sV t1)] rfl · · · zw41 rfl ft41 rfl rfl rfl rfl) ?_
 refine rM 35 (sV t1) rfl rfl ?_
 refine rT 36 (.d (.dp (List.drop 1 (eSpan t0)))) rfl (v_field_dp (a0 := 1) (cs := (eSpan t0)) rfl · · · fo41_1 rfl) ?_
 refine rT 37 (sV t0.mHi) rfl (v_load_dp1 rfl · · · onT9 rfl rfl) ?_
 refine rT 38 (.d (.agg (eSpan ({t0 with mLo := t1})))) rfl (w_bld zc41 ((eSpan ({t0 with mLo := t1})).map V.d) [(0, sV t1), (1, sV t0.mHi)] rfl · · · zw41 rfl ft41 rfl rfl rfl rfl) ?_
 refine rg_cons _ (v_store_box (id := 4) (off := 0) (cs := (eSpan ({t0 with mHi := t1})).map V.d) rfl trivial rfl sz41 rfl rfl rfl rfl (ones_of rfl) (ble _ _ rfl)) ?_
 refine rg_cons _ (v_store_box (id := 5) (off := 0) (cs := (eSpan ({t0 with mLo := t1})).map V.d) rfl trivial rfl sz41 rfl rfl rfl rfl (ones_of rfl) (ble _ _ rfl)) ?_
 refine rM 6 (iV 0) rfl rfl ?_
 refine rg_nil ⟨by kernel_rfl, ?_⟩
 refine ht_ret ?_
 cases h
 exact ret3 rfl (.cell rfl rfl ag41 (ble _ _ rfl) rfl) (.cell rfl rfl ag41 (ble _ _ rfl) rfl) (.tmp rfl)
theorem s107 (k : Nat) (t0 : Shard) (t1 : Int) (r : Bool) (h : F107 k t0 t1 = some r) : Awp.Spec Tryz.prog amb 107 [(.agg (eShard t0)), (.s (.int .i64 t1))] (.ds [(.s (.bool r))]) := by
 rw [F107] at h
 refine spec_of Tryz.func107 rfl (ble _ _ rfl) fun w0 ok0 lt0 hA => ?_
 refine sr ?_
 refine sT 2 (.d (.dp (eShard t0))) rfl (v_box_d (cs := (eShard t0)) rfl · · · rfl rfl (ones_of rfl)) ?_
 refine sM 4 (bV false) rfl rfl ?_
 refine sq_nil ?_
 refine sr ?_
 refine sT 5 (.d (.dp (eShard t0))) rfl (v_field_dp (a0 := 0) (cs := (eShard t0)) rfl · · · fo45_0 rfl) ?_
 refine sT 6 (iV t0.mID) rfl (v_load_dp1 rfl · · · onT3 rfl rfl) ?_
 refine sT 7 (bV (!eqI t0.mID 0)) rfl (v_bin rfl · · · rfl rfl (b_neq rfl)) ?_
 refine sM 8 (bV (!eqI t0.mID 0)) rfl rfl ?_
 refine sG 9 (.d (.dp (List.drop 1 (eShard t0)))) rfl rfl (fun e1 => (v_field_dp (a0 := 1) (cs := (eShard t0)) rfl · · · fo45_1 rfl)) ?_
 refine sG 10 (iV t0.mEpoch) rfl rfl (fun e2 => (v_load_dp1 rfl · · · onT3 (gv e2) rfl)) ?_
 refine sG 11 (iV t1) rfl rfl (fun e3 => (v_move (.inl rfl) · · · rfl)) ?_
 refine sG 12 (bV (eqI t0.mEpoch t1)) rfl rfl (fun e4 => (v_bin rfl · · · (gv e4) (gv e4) (b_eql rfl))) ?_
 refine sT 13 (bV ((!eqI t0.mID 0) && (eqI t0.mEpoch t1))) rfl (v_pickB rfl · · · rfl (fun e5 => (gv e5)) (fun e6 => rfl) (pA _ _)) ?_
 refine sM 14 (bV ((!eqI t0.mID 0) && (eqI t0.mEpoch t1))) rfl rfl ?_
 refine sG 15 (.d (.dp (List.drop 4 (eShard t0)))) rfl rfl (fun e7 => (v_field_dp (a0 := 4) (cs := (eShard t0)) rfl · · · fo45_3 rfl)) ?_
 refine sG 16 (iV t0.mPhase) rfl rfl (fun e8 => (v_load_dp1 rfl · · · onT3 (gv e8) rfl)) ?_
 refine sG 17 (bV (eqI t0.mPhase 1)) rfl rfl (fun e9 => (v_bin rfl · · · (gv e9) rfl (b_eql rfl))) ?_
 refine sT 18 (bV (((!eqI t0.mID 0) && (eqI t0.mEpoch t1)) && (eqI t0.mPhase 1))) rfl (v_pickB rfl · · · rfl (fun e10 => (gv e10)) (fun e11 => rfl) (pA _ _)) ?_
 refine sM 19 (bV (((!eqI t0.mID 0) && (eqI t0.mEpoch t1)) && (eqI t0.mPhase 1))) rfl rfl ?_
 refine sG 20 (.d (.dp (List.drop 13 (eShard t0)))) rfl rfl (fun e12 => (v_field_dp (a0 := 13) (cs := (eShard t0)) rfl · · · fo45_8 rfl)) ?_
 refine sG 21 (iV t0.mHold) rfl rfl (fun e13 => (v_load_dp1 rfl · · · onT3 (gv e13) rfl)) ?_
 refine sG 22 (bV (eqI t0.mHold 0)) rfl rfl (fun e14 => (v_bin rfl · · · (gv e14) rfl (b_eql rfl))) ?_
 refine sT 23 (bV ((((!eqI t0.mID 0) && (eqI t0.mEpoch t1)) && (eqI t0.mPhase 1)) && (eqI t0.mHold 0))) rfl (v_pickB rfl · · · rfl (fun e15 => (gv e15)) (fun e16 => rfl) (pA _ _)) ?_
 refine sM 4 (bV ((((!eqI t0.mID 0) && (eqI t0.mEpoch t1)) && (eqI t0.mPhase 1)) && (eqI t0.mHold 0))) rfl rfl ?_
 refine sq_nil ?_
 refine ht_ret ?_
 cases h
 exact ret1 rfl (.tmp rfl)
theorem s108 (k : Nat) (t0 : List Entry) (t1 : ByteArray) (r : (List Entry) × (List Entry)) (h : F108 k t0 t1 = some r) : Awp.Spec Tryz.prog amb 108 [(.sl 2 (t0.map eEntry)), (.s (.string t1))] (.ds [(.sl 2 (r.1.map eEntry)), (.sl 2 (r.2.map eEntry))]) := by
 rw [F108] at h
 refine spec_of Tryz.func108 rfl (ble _ _ rfl) fun w0 ok0 lt0 hA => ?_
 refine sr ?_
 refine sM 4 (.d (.s (.slice none 0 0))) rfl rfl ?_
 refine sM 5 (.d (.s (.slice none 0 0))) rfl rfl ?_
 refine sq_nil ?_
 refine ht_seq ?_
 refine sr ?_
 refine sM 8 (.d (.sl 2 (t0.map eEntry))) rfl rfl ?_
 obtain ⟨t9, c1, h⟩ := bpos h
 refine sT 9 (bV t9) rfl (w_call (ds := [(.sl 2 (t0.map eEntry))]) (caps := []) (l := [(.s (.bool t9))]) (s81 k t0 _ c1) rfl rfl rfl en81 · · · (.inl ⟨rfl, rfl⟩) rfl rfl) ?_
 refine sT 10 (bV (!t9)) rfl (v_un rfl · · · rfl (u_not rfl)) ?_
 refine sq_nil ?_
 refine ht_cond rfl (fun e2 => ?_) (fun e2 => ?_)
 ·replace h := cpos e2 h
  refine sr ?_
  refine sM 4 (.d (.s (.slice none 0 0))) rfl rfl ?_
  refine sM 5 (.d (.s (.slice none 0 0))) rfl rfl ?_
  refine sq_nil ?_
  refine ht_ret ?_
  cases h
  exact retM_wk (wk_nil (.t 4) (nb 4) 2 rfl) (retM_wk (wk_nil (.t 5) (nb 5) 2 rfl) (ret2 rfl (.tmp rfl) (.tmp rfl)))
 replace h := cneg e2 h
 refine ht_skip ?_
 refine sr ?_
 refine sM 12 (.d (.sl 2 (t0.map eEntry))) rfl rfl ?_
 refine sM 13 (sV t1) rfl rfl ?_
 obtain ⟨⟨t14a, t14b⟩, c3, h⟩ := bpos h
 refine sT 14 (.tup [iV t14a, bV t14b]) rfl (w_call (ds := [(.sl 2 (t0.map eEntry)), (.s (.string t1))]) (caps := []) (l := [(.s (.int .i64 t14a)), (.s (.bool t14b))]) (s148 k t0 t1 _ c3) rfl rfl rfl en148 · · · (.inl ⟨rfl, rfl⟩) rfl rfl) ?_
 refine sM 11 (.tup [iV t14a, bV t14b]) rfl rfl ?_
 refine sT 15 (iV t14a) rfl (v_extract rfl · · · rfl rfl) ?_
 refine sT 16 (bV t14b) rfl (v_extract rfl · · · rfl rfl) ?_
 refine sM 6 (iV t14a) rfl rfl ?_
 refine sM 7 (bV t14b) rfl rfl ?_
 refine sq_nil ?_
 refine ht_seq ?_
 refine ht_region_draw mixed ?_
 refine rM 17 (.d (.sl 2 (t0.map eEntry))) rfl rfl ?_
 refine rM 18 (iV t14a) rfl rfl ?_
 obtain ⟨e4, h⟩ := gpos h
 refine rT 19 (.d (.sl 2 ((List.take t14a.toNat t0).map eEntry))) rfl (w_cuth t0 eEntry rfl · · · slT42 rfl rfl e4) ?_
 obtain ⟨t20, c5, h⟩ := bpos h
 refine rT 20 (.d (.sl 2 (t20.map eEntry))) rfl (w_call (ds := [(.sl 2 ((List.take t14a.toNat t0).map eEntry))]) (caps := []) (l := [(.sl 2 (t20.map eEntry))]) (s149 k (List.take t14a.toNat t0) _ c5) rfl rfl rfl en149 · · · (.inl ⟨rfl, rfl⟩) rfl rfl) ?_
 refine rM 21 (.d (.sl 2 (t0.map eEntry))) rfl rfl ?_
 refine rM 22 (iV t14a) rfl rfl ?_
 obtain ⟨e6, h⟩ := gpos h
 refine rT 23 (.d (.sl 2 ((List.drop t14a.toNat t0).map eEntry))) rfl (w_cutl t0 eEntry rfl · · · slT42 rfl rfl e6) ?_
 obtain ⟨t24, c7, h⟩ := bpos h
 refine rT 24 (.d (.sl 2 (t24.map eEntry))) rfl (w_call (ds := [(.sl 2 ((List.drop t14a.toNat t0).map eEntry))]) (caps := []) (l := [(.sl 2 (t24.map eEntry))]) (s149 k (List.drop t14a.toNat t0) _ c7) rfl rfl rfl en149 · · · (.inl ⟨rfl, rfl⟩) rfl rfl) ?_
 refine rM 4 (.d (.sl 2 (t20.map eEntry))) rfl rfl ?_
 refine rM 5 (.d (.sl 2 (t24.map eEntry))) rfl rfl ?_
 refine rg_nil ⟨by kernel_rfl, ?_⟩
 refine ht_ret ?_
 cases h
 exact ret2 rfl (.tmp rfl) (.tmp rfl)
theorem s48 (k : Nat) (t0 : Cell) (t1 : Int) (t2 : Int) (t3 : ByteArray) (t4 : Int) (t5 : Int) (r : Cell × Bool) (h : F48 k t0 t1 t2 t3 t4 t5 = some r) : Awp.Spec Tryz.prog amb 48 [(.agg (eCell t0)), (.s (.int .i64 t1)), (.s (.int .i64 t2)), (.s (.string t3)), (.s (.int .i64 t4)), (.s (.int .i64 t5))] (.ds [(.agg (eCell r.1)), (.s (.bool r.2))]) := by
 rw [F48] at h
 refine spec_of Tryz.func48 rfl (ble _ _ rfl) fun w0 ok0 lt0 hA => ?_
 refine sr ?_
 refine sT 6 (.d (.dp (eCell t0))) rfl (v_box_d (cs := (eCell t0)) rfl · · · rfl rfl (ones_of rfl)) ?_
 refine sq_cons _ (v_alloc (id := 12) (cs := zc26) rfl trivial rfl (ble _ _ rfl) zu26 rfl ft26 rfl) ?_
 refine sM 13 (bV false) rfl rfl ?_
 refine sq_nil ?_
 refine ht_seq ?_
 refine sr ?_
 refine sT 19 (.d (.agg (eCell t0))) rfl (w_ldp (eCell t0) (eCell t0) rfl · · · ag26 rfl (ble _ _ rfl) rfl) ?_
 obtain ⟨t20, c1, h⟩ := bpos h
 refine sT 20 (bV t20) rfl (w_call (ds := [(.agg (eCell t0))]) (caps := []) (l := [(.s (.bool t20))]) (s25 k t0 _ c1) rfl rfl rfl en25 · · · (.inl ⟨rfl, rfl⟩) rfl rfl) ?_
 refine sT 21 (bV (!t20)) rfl (v_un rfl · · · rfl (u_not rfl)) ?_
 refine sM 22 (bV (!t20)) rfl rfl ?_
 refine sF 23 (iV t1) rfl rfl (fun e2 => (v_move (.inl rfl) · · · rfl)) ?_
 refine sF 24 (iV t2) rfl rfl (fun e3 => (v_move (.inl rfl) · · · rfl)) ?_
 refine sF 25 (iV t4) rfl rfl (fun e4 => (v_move (.inl rfl) · · · rfl)) ?_
 refine sF 26 (iV t5) rfl rfl (fun e5 => (v_move (.inl rfl) · · · rfl)) ?_
 refine sF 27 (.d (.sl 1 (([t1, t2, t4, t5]).map (eI .i64)))) rfl rfl (fun e6 => (w_bsl_d [(0, iV t1), (1, iV t2), (2, iV t4), (3, iV t5)] [t1, t2, t4, t5] (eI .i64) rfl · · · slT148 zr3 (encI .i64) (ble _ _ rfl) (cc (pr (gv (nF e6))) (cc (pr (gv (nF e6))) (cc (pr (gv (nF e6))) (cc (pr (gv (nF e6))) rfl)))) (by kernel_rfl) rfl rfl (by kernel_rfl))) ?_
 obtain ⟨t28, c8, h⟩ := bpos h
 refine sF 28 (bV t28) rfl rfl (fun e7 => (w_call (ds := [(.s (.int .i64 1)), (.sl 1 (([t1, t2, t4, t5]).map (eI .i64)))]) (caps := []) (l := [(.s (.bool t28))]) (s57 k 1 ([t1, t2, t4, t5]) _ (cpos (nF e7) c8)) rfl rfl rfl en57 · · · (.inl ⟨rfl, rfl⟩) (cc rfl (cc (gv (nF e7)) rfl)) rfl)) ?_
 refine sF 29 (bV (!t28)) rfl rfl (fun e9 => (v_un rfl · · · (gv (nF e9)) (u_not rfl))) ?_
 refine sT 30 (bV ((!t20) || (!t28))) rfl (v_pickB rfl · · · rfl (fun e10 => rfl) (fun e11 => (gv (nF e11))) (pO _ _)) ?_
 refine sq_nil ?_
 refine ht_cond rfl (fun e12 => ?_) (fun e12 => ?_)
 ·replace h := cpos e12 h
  refine sr ?_
  refine sT 31 (.d (.agg (eCell t0))) rfl (w_ldp (eCell t0) (eCell t0) rfl · · · ag26 rfl (ble _ _ rfl) rfl) ?_
  refine sq_cons _ (v_store_box (id := 12) (off := 0) (cs := (eCell t0).map V.d) rfl trivial rfl sz26 rfl rfl rfl rfl (ones_of rfl) (ble _ _ rfl)) ?_
  refine sM 13 (bV false) rfl rfl ?_
  refine sq_nil ?_
  refine ht_ret ?_
  cases h
  exact ret2 rfl (.cell rfl rfl ag26 (ble _ _ rfl) rfl) (.tmp rfl)
 replace h := cneg e12 h
 refine ht_skip ?_
 refine ht_seq ?_
 refine ht_region_draw mixed ?_
 refine rT 32 (.d (.agg (eCell t0))) rfl (w_ldp (eCell t0) (eCell t0) rfl · · · ag26 rfl (ble _ _ rfl) rfl) ?_
 refine rM 33 (iV t1) rfl rfl ?_
 obtain ⟨t34, c13, h⟩ := bpos h
 refine rT 34 (.d (.agg (eShard t34))) rfl (w_call (ds := [(.agg (eCell t0)), (.s (.int .i64 t1))]) (caps := []) (l := [(.agg (eShard t34))]) (s60 k t0 t1 _ c13) rfl rfl rfl en60 · · · (.inl ⟨rfl, rfl⟩) rfl rfl) ?_
 refine rT 35 (.d (.agg (eCell t0))) rfl (w_ldp (eCell t0) (eCell t0) rfl · · · ag26 rfl (ble _ _ rfl) rfl) ?_
 refine rM 36 (iV t4) rfl rfl ?_
 obtain ⟨t37, c14, h⟩ := bpos h
 refine rT 37 (.d (.agg (eShard t37))) rfl (w_call (ds := [(.agg (eCell t0)), (.s (.int .i64 t4))]) (caps := []) (l := [(.agg (eShard t37))]) (s60 k t0 t4 _ c14) rfl rfl rfl en60 · · · (.inl ⟨rfl, rfl⟩) rfl rfl) ?_
 refine rg_cons _ (v_alloc (id := 14) (cs := zc45) rfl trivial rfl (ble _ _ rfl) zu45 rfl ft45 rfl) ?_
 refine rg_cons _ (v_alloc (id := 15) (cs := zc45) rfl trivial rfl (ble _ _ rfl) zu45 rfl ft45 rfl) ?_
 refine rg_cons _ (v_store_box (id := 14) (off := 0) (cs := (eShard t34).map V.d) rfl trivial rfl sz45 rfl rfl rfl rfl (ones_of rfl) (ble _ _ rfl)) ?_
 refine rg_cons _ (v_store_box (id := 15) (off := 0) (cs := (eShard t37).map V.d) rfl trivial rfl sz45 rfl rfl rfl rfl (ones_of rfl) (ble _ _ rfl)) ?_
 refine rg_nil ⟨by kernel_rfl, ?_⟩
 refine ht_seq ?_
 refine sr ?_
 refine sT 38 (.ptr 14 0) rfl (v_field_box (off := 0) (a0 := 0) rfl · · · fo45_0 rfl) ?_
 refine sT 39 (iV t34.mID) rfl (v_load_box1 (id := 14) (off := 0) rfl · · · onT3 rfl rfl (ble _ _ rfl) rfl) ?_
 refine sT 40 (bV (!eqI t34.mID 0)) rfl (v_bin rfl · · · rfl rfl (b_neq rfl)) ?_
 refine sM 41 (bV (!eqI t34.mID 0)) rfl rfl ?_
 refine sG 42 (.ptr 14 1) rfl rfl (fun e15 => (v_field_box (off := 0) (a0 := 1) rfl · · · fo45_1 rfl)) ?_
 refine sG 43 (iV t34.mEpoch) rfl rfl (fun e16 => (v_load_box1 (id := 14) (off := 1) rfl · · · onT3 (gv e16) rfl (ble _ _ rfl) rfl)) ?_
 refine sG 44 (iV t5) rfl rfl (fun e17 => (v_move (.inl rfl) · · · rfl)) ?_
 refine sG 45 (bV (eqI t34.mEpoch t5)) rfl rfl (fun e18 => (v_bin rfl · · · (gv e18) (gv e18) (b_eql rfl))) ?_
 refine sT 46 (bV ((!eqI t34.mID 0) && (eqI t34.mEpoch t5))) rfl (v_pickB rfl · · · rfl (fun e19 => (gv e19)) (fun e20 => rfl) (pA _ _)) ?_
 refine sM 47 (bV ((!eqI t34.mID 0) && (eqI t34.mEpoch t5))) rfl rfl ?_
 refine sG 48 (.ptr 14 2) rfl rfl (fun e21 => (v_field_box (off := 0) (a0 := 2) rfl · · · fo45_2 rfl)) ?_
 refine sG 49 (.ptr 14 3) rfl rfl (fun e22 => (v_field_box (off := 2) (a0 := 1) rfl · · · fo41_1 (gv e22))) ?_
 refine sG 50 (sV t34.mSpan.mHi) rfl rfl (fun e23 => (v_load_box1 (id := 14) (off := 3) rfl · · · onT9 (gv e23) rfl (ble _ _ rfl) rfl)) ?_
 refine sG 51 (sV t3) rfl rfl (fun e24 => (v_move (.inl rfl) · · · rfl)) ?_
 refine sG 52 (bV (strEq t34.mSpan.mHi t3)) rfl rfl (fun e25 => (v_bin rfl · · · (gv e25) (gv e25) (b_eqS rfl))) ?_
 refine sT 53 (bV (((!eqI t34.mID 0) && (eqI t34.mEpoch t5)) && (strEq t34.mSpan.mHi t3))) rfl (v_pickB rfl · · · rfl (fun e26 => (gv e26)) (fun e27 => rfl) (pA _ _)) ?_
 refine sM 54 (bV (((!eqI t34.mID 0) && (eqI t34.mEpoch t5)) && (strEq t34.mSpan.mHi t3))) rfl rfl ?_
 refine sG 55 (.ptr 15 0) rfl rfl (fun e28 => (v_field_box (off := 0) (a0 := 0) rfl · · · fo45_0 rfl)) ?_
 refine sG 56 (iV t37.mID) rfl rfl (fun e29 => (v_load_box1 (id := 15) (off := 0) rfl · · · onT3 (gv e29) rfl (ble _ _ rfl) rfl)) ?_
 refine sG 57 (bV (!eqI t37.mID 0)) rfl rfl (fun e30 => (v_bin rfl · · · (gv e30) rfl (b_neq rfl))) ?_
 refine sT 58 (bV ((((!eqI t34.mID 0) && (eqI t34.mEpoch t5)) && (strEq t34.mSpan.mHi t3)) && (!eqI t37.mID 0))) rfl (v_pickB rfl · · · rfl (fun e31 => (gv e31)) (fun e32 => rfl) (pA _ _)) ?_
 refine sM 59 (bV ((((!eqI t34.mID 0) && (eqI t34.mEpoch t5)) && (strEq t34.mSpan.mHi t3)) && (!eqI t37.mID 0))) rfl rfl ?_
 refine sG 60 (.ptr 15 1) rfl rfl (fun e33 => (v_field_box (off := 0) (a0 := 1) rfl · · · fo45_1 rfl)) ?_
 refine sG 61 (iV t37.mEpoch) rfl rfl (fun e34 => (v_load_box1 (id := 15) (off := 1) rfl · · · onT3 (gv e34) rfl (ble _ _ rfl) rfl)) ?_
 refine sG 62 (iV t5) rfl rfl (fun e35 => (v_move (.inl rfl) · · · rfl)) ?_
 refine sG 63 (bV (eqI t37.mEpoch t5)) rfl rfl (fun e36 => (v_bin rfl · · · (gv e36) (gv e36) (b_eql rfl))) ?_
 refine sT 64 (bV (((((!eqI t34.mID 0) && (eqI t34.mEpoch t5)) && (strEq t34.mSpan.mHi t3)) && (!eqI t37.mID 0)) && (eqI t37.mEpoch t5))) rfl (v_pickB rfl · · · rfl (fun e37 => (gv e37)) (fun e38 => rfl) (pA _ _)) ?_
 refine sq_nil ?_
 refine ht_cond rfl (fun e39 => ?_) (fun e39 => ?_)
 ·replace h := cpos e39 h
  refine sr ?_
  refine sT 65 (.d (.agg (eCell t0))) rfl (w_ldp (eCell t0) (eCell t0) rfl · · · ag26 rfl (ble _ _ rfl) rfl) ?_
  refine sq_cons _ (v_store_box (id := 12) (off := 0) (cs := (eCell t0).map V.d) rfl trivial rfl sz26 rfl rfl rfl rfl (ones_of rfl) (ble _ _ rfl)) ?_
  refine sM 13 (bV true) rfl rfl ?_
  refine sq_nil ?_
  refine ht_ret ?_
  cases h
  exact ret2 rfl (.cell rfl rfl ag26 (ble _ _ rfl) rfl) (.tmp rfl)
 replace h := cneg e39 h
 refine ht_skip ?_
 refine sr ?_
 refine sT 67 (.ptr 14 2) rfl (v_field_box (off := 0) (a0 := 2) rfl · · · fo45_2 rfl) ?_
 refine sT 68 (.d (.agg (eSpan t34.mSpan))) rfl (w_ldb 14 2 rfl · · · ag41 rfl rfl (ble _ _ rfl) rfl) ?_
 refine sM 69 (sV t3) rfl rfl ?_
 obtain ⟨⟨t70a, t70b, t70c⟩, c40, h⟩ := bpos h
 refine sT 70 (.tup [.d (.agg (eSpan t70a)), .d (.agg (eSpan t70b)), iV t70c]) rfl (w_call (ds := [(.agg (eSpan t34.mSpan)), (.s (.string t3))]) (caps := []) (l := [(.agg (eSpan t70a)), (.agg (eSpan t70b)), (.s (.int .i64 t70c))]) (s106 k t34.mSpan t3 _ c40) rfl rfl rfl en106 · · · (.inl ⟨rfl, rfl⟩) rfl rfl) ?_
 refine sM 66 (.tup [.d (.agg (eSpan t70a)), .d (.agg (eSpan t70b)), iV t70c]) rfl rfl ?_
 refine sT 71 (.d (.agg (eSpan t70a))) rfl (v_extract rfl · · · rfl rfl) ?_
 refine sT 72 (.d (.agg (eSpan t70b))) rfl (v_extract rfl · · · rfl rfl) ?_
 refine sT 73 (iV t70c) rfl (v_extract rfl · · · rfl rfl) ?_
 refine sq_cons _ (v_alloc (id := 16) (cs := zc41) rfl trivial rfl (ble _ _ rfl) zu41 rfl ft41 rfl) ?_
 refine sq_cons _ (v_alloc (id := 17) (cs := zc41) rfl trivial rfl (ble _ _ rfl) zu41 rfl ft41 rfl) ?_
 refine sq_cons _ (v_store_box (id := 16) (off := 0) (cs := (eSpan t70a).map V.d) rfl trivial rfl sz41 rfl rfl rfl rfl (ones_of rfl) (ble _ _ rfl)) ?_
 refine sq_cons _ (v_store_box (id := 17) (off := 0) (cs := (eSpan t70b).map V.d) rfl trivial rfl sz41 rfl rfl rfl rfl (ones_of rfl) (ble _ _ rfl)) ?_
 refine sM 18 (iV t70c) rfl rfl ?_
 refine sq_nil ?_
 refine ht_seq ?_
 refine sr ?_
 refine sT 74 (.d (.agg (eShard t34))) rfl (w_ldb 14 0 rfl · · · ag45 rfl rfl (ble _ _ rfl) rfl) ?_
 refine sM 75 (iV t2) rfl rfl ?_
 obtain ⟨t76, c41, h⟩ := bpos h
 refine sT 76 (bV t76) rfl (w_call (ds := [(.agg (eShard t34)), (.s (.int .i64 t2))]) (caps := []) (l := [(.s (.bool t76))]) (s107 k t34 t2 _ c41) rfl rfl rfl en107 · · · (.inl ⟨rfl, rfl⟩) rfl rfl) ?_
 refine sT 77 (bV (!t76)) rfl (v_un rfl · · · rfl (u_not rfl)) ?_
 refine sM 78 (bV (!t76)) rfl rfl ?_
 refine sF 79 (iV t5) rfl rfl (fun e42 => (v_move (.inl rfl) · · · rfl)) ?_
 refine sF 80 (iV t2) rfl rfl (fun e43 => (v_move (.inl rfl) · · · rfl)) ?_
 refine sF 81 (bV (leI t5 t2)) rfl rfl (fun e44 => (v_bin rfl · · · (gv (nF e44)) (gv (nF e44)) (b_leq rfl))) ?_
 refine sT 82 (bV ((!t76) || (leI t5 t2))) rfl (v_pickB rfl · · · rfl (fun e45 => rfl) (fun e46 => (gv (nF e46))) (pO _ _)) ?_
 refine sM 83 (bV ((!t76) || (leI t5 t2))) rfl rfl ?_
 refine sF 84 (.ptr 14 16) rfl rfl (fun e47 => (v_field_box (off := 0) (a0 := 16) rfl · · · fo45_11 rfl)) ?_
 refine sF 85 (iV t34.mClosed) rfl rfl (fun e48 => (v_load_box1 (id := 14) (off := 16) rfl · · · onT3 (gv (nF e48)) rfl (ble _ _ rfl) rfl)) ?_
 refine sF 86 (iV t5) rfl rfl (fun e49 => (v_move (.inl rfl) · · · rfl)) ?_
 refine sF 87 (bV (leI t5 t34.mClosed)) rfl rfl (fun e50 => (v_bin rfl · · · (gv (nF e50)) (gv (nF e50)) (b_geq rfl))) ?_
 refine sT 88 (bV (((!t76) || (leI t5 t2)) || (leI t5 t34.mClosed))) rfl (v_pickB rfl · · · rfl (fun e51 => rfl) (fun e52 => (gv (nF e52))) (pO _ _)) ?_
 refine sM 89 (bV (((!t76) || (leI t5 t2)) || (leI t5 t34.mClosed))) rfl rfl ?_
 refine sF 90 (.ptr 15 0) rfl rfl (fun e53 => (v_field_box (off := 0) (a0 := 0) rfl · · · fo45_0 rfl)) ?_
 refine sF 91 (iV t37.mID) rfl rfl (fun e54 => (v_load_box1 (id := 15) (off := 0) rfl · · · onT3 (gv (nF e54)) rfl (ble _ _ rfl) rfl)) ?_
 refine sF 92 (bV (!eqI t37.mID 0)) rfl rfl (fun e55 => (v_bin rfl · · · (gv (nF e55)) rfl (b_neq rfl))) ?_
 refine sT 93 (bV ((((!t76) || (leI t5 t2)) || (leI t5 t34.mClosed)) || (!eqI t37.mID 0))) rfl (v_pickB rfl · · · rfl (fun e56 => rfl) (fun e57 => (gv (nF e57))) (pO _ _)) ?_
 refine sM 94 (bV ((((!t76) || (leI t5 t2)) || (leI t5 t34.mClosed)) || (!eqI t37.mID 0))) rfl rfl ?_
 refine sF 95 (.d (.dp (eCell t0))) rfl rfl (fun e58 => (v_field_dp (a0 := 0) (cs := (eCell t0)) rfl · · · fo26_0 rfl)) ?_
 refine sF 96 (.d (.sl 17 (t0.mShards.map eShard))) rfl rfl (fun e59 => (v_load_dp1 rfl · · · onT22 (gv (nF e59)) rfl)) ?_
 refine sF 97 (iV (t0.mShards.length : Int)) rfl rfl (fun e60 => (w_len t0.mShards eShard rfl rfl · · · slT22 (gv (nF e60)))) ?_
 refine sF 98 (bV (eqI (t0.mShards.length : Int) 8)) rfl rfl (fun e61 => (v_bin rfl · · · (gv (nF e61)) rfl (b_eql rfl))) ?_
 refine sT 99 (bV (((((!t76) || (leI t5 t2)) || (leI t5 t34.mClosed)) || (!eqI t37.mID 0)) || (eqI (t0.mShards.length : Int) 8))) rfl (v_pickB rfl · · · rfl (fun e62 => rfl) (fun e63 => (gv (nF e63))) (pO _ _)) ?_
 refine sM 100 (bV (((((!t76) || (leI t5 t2)) || (leI t5 t34.mClosed)) || (!eqI t37.mID 0)) || (eqI (t0.mShards.length : Int) 8))) rfl rfl ?_
 refine sF 101 (iV t70c) rfl rfl (fun e64 => (v_move (.inl rfl) · · · rfl)) ?_
 refine sF 102 (bV (!eqI t70c 0)) rfl rfl (fun e65 => (v_bin rfl · · · (gv (nF e65)) rfl (b_neq rfl))) ?_
 refine sT 103 (bV ((((((!t76) || (leI t5 t2)) || (leI t5 t34.mClosed)) || (!eqI t37.mID 0)) || (eqI (t0.mShards.length : Int) 8)) || (!eqI t70c 0))) rfl (v_pickB rfl · · · rfl (fun e66 => rfl) (fun e67 => (gv (nF e67))) (pO _ _)) ?_
 refine sq_nil ?_
 refine ht_cond rfl (fun e68 => ?_) (fun e68 => ?_)
 ·replace h := cpos e68 h
  refine sr ?_
  refine sT 104 (.d (.agg (eCell t0))) rfl (w_ldp (eCell t0) (eCell t0) rfl · · · ag26 rfl (ble _ _ rfl) rfl) ?_
  refine sq_cons _ (v_store_box (id := 12) (off := 0) (cs := (eCell t0).map V.d) rfl trivial rfl sz26 rfl rfl rfl rfl (ones_of rfl) (ble _ _ rfl)) ?_
  refine sM 13 (bV false) rfl rfl ?_
  refine sq_nil ?_
  refine ht_ret ?_
  cases h
  exact ret2 rfl (.cell rfl rfl ag26 (ble _ _ rfl) rfl) (.tmp rfl)
 replace h := cneg e68 h
 refine ht_skip ?_
 refine sr ?_
 refine sT 105 (.d (.agg (eShard t34))) rfl (w_ldb 14 0 rfl · · · ag45 rfl rfl (ble _ _ rfl) rfl) ?_
 refine sq_cons _ (v_store_box (id := 15) (off := 0) (cs := (eShard t34).map V.d) rfl trivial rfl sz45 rfl rfl rfl rfl (ones_of rfl) (ble _ _ rfl)) ?_
 refine sq_nil ?_
 refine sr ?_
 refine sT 107 (.ptr 14 5) rfl (v_field_box (off := 0) (a0 := 5) rfl · · · fo45_4 rfl) ?_
 refine sT 108 (.d (.sl 2 (t34.mEntries.map eEntry))) rfl (v_load_box1 (id := 14) (off := 5) rfl · · · onT42 rfl rfl (ble _ _ rfl) rfl) ?_
 refine sM 109 (sV t3) rfl rfl ?_
 obtain ⟨⟨t110a, t110b⟩, c69, h⟩ := bpos h
 refine sT 110 (.tup [.d (.sl 2 (t110a.map eEntry)), .d (.sl 2 (t110b.map eEntry))]) rfl (w_call (ds := [(.sl 2 (t34.mEntries.map eEntry)), (.s (.string t3))]) (caps := []) (l := [(.sl 2 (t110a.map eEntry)), (.sl 2 (t110b.map eEntry))]) (s108 k t34.mEntries t3 _ c69) rfl rfl rfl en108 · · · (.inl ⟨rfl, rfl⟩) rfl rfl) ?_
 refine sM 106 (.tup [.d (.sl 2 (t110a.map eEntry)), .d (.sl 2 (t110b.map eEntry))]) rfl rfl ?_
 refine sT 111 (.d (.sl 2 (t110a.map eEntry))) rfl (v_extract rfl · · · rfl rfl) ?_
 refine sT 112 (.d (.sl 2 (t110b.map eEntry))) rfl (v_extract rfl · · · rfl rfl) ?_
 refine sT 113 (.ptr 14 5) rfl (v_field_box (off := 0) (a0 := 5) rfl · · · fo45_4 rfl) ?_
 refine sq_cons _ (v_store_box (id := 14) (off := 5) (cs := [(.sl 2 (t110a.map eEntry))].map V.d) rfl trivial rfl sz42 rfl rfl rfl rfl (ones_of rfl) (ble _ _ rfl)) ?_
 refine sT 114 (.ptr 15 5) rfl (v_field_box (off := 0) (a0 := 5) rfl · · · fo45_4 rfl) ?_
 refine sq_cons _ (v_store_box (id := 15) (off := 5) (cs := [(.sl 2 (t110b.map eEntry))].map V.d) rfl trivial rfl sz42 rfl rfl rfl rfl (ones_of rfl) (ble _ _ rfl)) ?_
 refine sq_nil ?_
 refine ht_seq ?_
 refine ht_region_draw mixed ?_
 refine rT 115 (.d (.agg (eSpan t70a))) rfl (w_ldb 16 0 rfl · · · ag41 rfl rfl (ble _ _ rfl) rfl) ?_
 refine rT 116 (.d (.agg (eSpan t70b))) rfl (w_ldb 17 0 rfl · · · ag41 rfl rfl (ble _ _ rfl) rfl) ?_
 refine rT 117 (.ptr 14 2) rfl (v_field_box (off := 0) (a0 := 2) rfl · · · fo45_2 rfl) ?_
 refine rg_cons _ (v_store_box (id := 14) (off := 2) (cs := (eSpan t70a).map V.d) rfl trivial rfl sz41 rfl rfl rfl rfl (ones_of rfl) (ble _ _ rfl)) ?_
 refine rT 118 (.ptr 15 2) rfl (v_field_box (off := 0) (a0 := 2) rfl · · · fo45_2 rfl) ?_
 refine rg_cons _ (v_store_box (id := 15) (off := 2) (cs := (eSpan t70b).map V.d) rfl trivial rfl sz41 rfl rfl rfl rfl (ones_of rfl) (ble _ _ rfl)) ?_
 refine rg_nil ⟨by kernel_rfl, ?_⟩
 refine sr ?_
 refine sM 119 (iV t5) rfl rfl ?_
 refine sM 120 (iV t5) rfl rfl ?_
 refine sM 121 (iV t4) rfl rfl ?_
 refine sT 122 (.ptr 14 1) rfl (v_field_box (off := 0) (a0 := 1) rfl · · · fo45_1 rfl) ?_
 refine sq_cons _ (v_store_box (id := 14) (off := 1) (cs := [(.s (.int .i64 t5))].map V.d) rfl trivial rfl sz3 rfl rfl rfl rfl (ones_of rfl) (ble _ _ rfl)) ?_
 refine sT 123 (.ptr 15 1) rfl (v_field_box (off := 0) (a0 := 1) rfl · · · fo45_1 rfl) ?_
 refine sq_cons _ (v_store_box (id := 15) (off := 1) (cs := [(.s (.int .i64 t5))].map V.d) rfl trivial rfl sz3 rfl rfl rfl rfl (ones_of rfl) (ble _ _ rfl)) ?_
 refine sT 124 (.ptr 15 0) rfl (v_field_box (off := 0) (a0 := 0) rfl · · · fo45_0 rfl) ?_
 refine sq_cons _ (v_store_box (id := 15) (off := 0) (cs := [(.s (.int .i64 t4))].map V.d) rfl trivial rfl sz3 rfl rfl rfl rfl (ones_of rfl) (ble _ _ rfl)) ?_
 refine sq_nil ?_
 refine ht_seq ?_
 refine ht_region_draw mixed ?_
 refine rT 125 (.d (.agg (eCell t0))) rfl (w_ldp (eCell t0) (eCell t0) rfl · · · ag26 rfl (ble _ _ rfl) rfl) ?_
 refine rT 126 (.d (.agg (eShard ({t34 with mEpoch := t5, mSpan := t70a, mEntries := t110a})))) rfl (w_ldb 14 0 rfl · · · ag45 rfl rfl (ble _ _ rfl) rfl) ?_
 obtain ⟨t127, c70, h⟩ := bpos h
 refine rT 127 (.d (.agg (eCell t127))) rfl (w_call (ds := [(.agg (eCell t0)), (.agg (eShard ({t34 with mEpoch := t5, mSpan := t70a, mEntries := t110a})))]) (caps := []) (l := [(.agg (eCell t127))]) (s95 k t0 ({t34 with mEpoch := t5, mSpan := t70a, mEntries := t110a}) _ c70) rfl rfl rfl en95 · · · (.inl ⟨rfl, rfl⟩) rfl rfl) ?_
 refine rT 128 (.d (.agg (eShard ({t34 with mID := t4, mEpoch := t5, mSpan := t70b, mEntries := t110b})))) rfl (w_ldb 15 0 rfl · · · ag45 rfl rfl (ble _ _ rfl) rfl) ?_
 obtain ⟨t129, c71, h⟩ := bpos h
 refine rT 129 (.d (.agg (eCell t129))) rfl (w_call (ds := [(.agg (eCell t127)), (.agg (eShard ({t34 with mID := t4, mEpoch := t5, mSpan := t70b, mEntries := t110b})))]) (caps := []) (l := [(.agg (eCell t129))]) (s95 k t127 ({t34 with mID := t4, mEpoch := t5, mSpan := t70b, mEntries := t110b}) _ c71) rfl rfl rfl en95 · · · (.inl ⟨rfl, rfl⟩) rfl rfl) ?_
 refine rg_cons _ (v_store_box (id := 12) (off := 0) (cs := (eCell t129).map V.d) rfl trivial rfl sz26 rfl rfl rfl rfl (ones_of rfl) (ble _ _ rfl)) ?_
 refine rM 13 (bV true) rfl rfl ?_
 refine rg_nil ⟨by kernel_rfl, ?_⟩
 refine ht_ret ?_
 cases h
 exact ret2 rfl (.cell rfl rfl ag26 (ble _ _ rfl) rfl) (.tmp rfl)
theorem s112 (k : Nat) (t0 : Span) (t1 : Span) (r : Span × Int) (h : F112 k t0 t1 = some r) : Awp.Spec Tryz.prog amb 112 [(.agg (eSpan t0)), (.agg (eSpan t1))] (.ds [(.agg (eSpan r.1)), (.s (.int .i64 r.2))]) := by
 rw [F112] at h
 refine spec_of Tryz.func112 rfl (ble _ _ rfl) fun w0 ok0 lt0 hA => ?_
 refine sr ?_
 refine sT 2 (.d (.dp (eSpan t0))) rfl (v_box_d (cs := (eSpan t0)) rfl · · · rfl rfl (ones_of rfl)) ?_
 refine sT 3 (.d (.dp (eSpan t1))) rfl (v_box_d (cs := (eSpan t1)) rfl · · · rfl rfl (ones_of rfl)) ?_
 refine sq_cons _ (v_alloc (id := 4) (cs := zc41) rfl trivial rfl (ble _ _ rfl) zu41 rfl ft41 rfl) ?_
 refine sM 5 (iV 0) rfl rfl ?_
 refine sq_nil ?_
 refine ht_seq ?_
 refine ht_block ?_
 refine sr ?_
 refine sT 7 (.d (.agg (eSpan t0))) rfl (w_ldp (eSpan t0) (eSpan t0) rfl · · · ag41 rfl (ble _ _ rfl) rfl) ?_
 obtain ⟨t8, c1, h⟩ := bpos h
 refine sT 8 (bV t8) rfl (w_call (ds := [(.agg (eSpan t0))]) (caps := []) (l := [(.s (.bool t8))]) (s80 k t0 _ c1) rfl rfl rfl en80 · · · (.inl ⟨rfl, rfl⟩) rfl rfl) ?_
 refine sT 9 (bV (!t8)) rfl (v_un rfl · · · rfl (u_not rfl)) ?_
 refine sM 10 (bV (!t8)) rfl rfl ?_
 refine sF 11 (.d (.agg (eSpan t1))) rfl rfl (fun e2 => (w_ldp (eSpan t1) (eSpan t1) rfl · · · ag41 rfl (ble _ _ rfl) rfl)) ?_
 obtain ⟨t12, c4, h⟩ := bpos h
 refine sF 12 (bV t12) rfl rfl (fun e3 => (w_call (ds := [(.agg (eSpan t1))]) (caps := []) (l := [(.s (.bool t12))]) (s80 k t1 _ (cpos (nF e3) c4)) rfl rfl rfl en80 · · · (.inl ⟨rfl, rfl⟩) (cc (gv (nF e3)) rfl) rfl)) ?_
 refine sF 13 (bV (!t12)) rfl rfl (fun e5 => (v_un rfl · · · (gv (nF e5)) (u_not rfl))) ?_
 refine sT 14 (bV ((!t8) || (!t12))) rfl (v_pickB rfl · · · rfl (fun e6 => rfl) (fun e7 => (gv (nF e7))) (pO _ _)) ?_
 refine sM 6 (bV ((!t8) || (!t12))) rfl rfl ?_
 refine sq_nil ?_
 refine ht_cond rfl (fun e8 => ?_) (fun e8 => ?_)
 ·replace h := cpos e8 h
  refine sr ?_
  refine sT 15 (.d (.agg (eSpan (⟨⟨#[]⟩, ⟨#[]⟩⟩ : Span)))) rfl (w_bld zc41 ((eSpan (⟨⟨#[]⟩, ⟨#[]⟩⟩ : Span)).map V.d) [] rfl · · · zw41 rfl ft41 rfl rfl rfl rfl) ?_
  refine sq_cons _ (v_store_box (id := 4) (off := 0) (cs := (eSpan (⟨⟨#[]⟩, ⟨#[]⟩⟩ : Span)).map V.d) rfl trivial rfl sz41 rfl rfl rfl rfl (ones_of rfl) (ble _ _ rfl)) ?_
  refine sM 5 (iV 1) rfl rfl ?_
  refine sq_nil ?_
  refine ht_ret ?_
  cases h
  exact ret2 rfl (.cell rfl rfl ag41 (ble _ _ rfl) rfl) (.tmp rfl)
 replace h := cneg e8 h
 refine sr ?_
 refine sT 17 (.d (.dp (List.drop 1 (eSpan t0)))) rfl (v_field_dp (a0 := 1) (cs := (eSpan t0)) rfl · · · fo41_1 rfl) ?_
 refine sT 18 (sV t0.mHi) rfl (v_load_dp1 rfl · · · onT9 rfl rfl) ?_
 refine sT 19 (bV (strEq t0.mHi (⟨#[]⟩ : ByteArray))) rfl (v_bin rfl · · · rfl rfl (b_eqS rfl)) ?_
 refine sM 20 (bV (strEq t0.mHi (⟨#[]⟩ : ByteArray))) rfl rfl ?_
 refine sF 21 (.d (.dp (List.drop 1 (eSpan t0)))) rfl rfl (fun e9 => (v_field_dp (a0 := 1) (cs := (eSpan t0)) rfl · · · fo41_1 rfl)) ?_
 refine sF 22 (sV t0.mHi) rfl rfl (fun e10 => (v_load_dp1 rfl · · · onT9 (gv (nF e10)) rfl)) ?_
 refine sF 23 (.d (.dp (eSpan t1))) rfl rfl (fun e11 => (v_field_dp (a0 := 0) (cs := (eSpan t1)) rfl · · · fo41_0 rfl)) ?_
 refine sF 24 (sV t1.mLo) rfl rfl (fun e12 => (v_load_dp1 rfl · · · onT9 (gv (nF e12)) rfl)) ?_
 refine sF 25 (bV (!strEq t0.mHi t1.mLo)) rfl rfl (fun e13 => (v_bin rfl · · · (gv (nF e13)) (gv (nF e13)) (b_neS rfl))) ?_
 refine sT 26 (bV ((strEq t0.mHi (⟨#[]⟩ : ByteArray)) || (!strEq t0.mHi t1.mLo))) rfl (v_pickB rfl · · · rfl (fun e14 => rfl) (fun e15 => (gv (nF e15))) (pO _ _)) ?_
 refine sM 16 (bV ((strEq t0.mHi (⟨#[]⟩ : ByteArray)) || (!strEq t0.mHi t1.mLo))) rfl rfl ?_
 refine sq_nil ?_
 refine ht_cond rfl (fun e16 => ?_) (fun e16 => ?_)
 ·replace h := cpos e16 h
  refine sr ?_
  refine sT 27 (.d (.agg (eSpan (⟨⟨#[]⟩, ⟨#[]⟩⟩ : Span)))) rfl (w_bld zc41 ((eSpan (⟨⟨#[]⟩, ⟨#[]⟩⟩ : Span)).map V.d) [] rfl · · · zw41 rfl ft41 rfl rfl rfl rfl) ?_
  refine sq_cons _ (v_store_box (id := 4) (off := 0) (cs := (eSpan (⟨⟨#[]⟩, ⟨#[]⟩⟩ : Span)).map V.d) rfl trivial rfl sz41 rfl rfl rfl rfl (ones_of rfl) (ble _ _ rfl)) ?_
  refine sM 5 (iV 9) rfl rfl ?_
  refine sq_nil ?_
  refine ht_ret ?_
  cases h
  exact ret2 rfl (.cell rfl rfl ag41 (ble _ _ rfl) rfl) (.tmp rfl)
 replace h := cneg e16 h
 refine ht_skip ?_
 refine sr ?_
 refine sT 28 (.d (.dp (eSpan t0))) rfl (v_field_dp (a0 := 0) (cs := (eSpan t0)) rfl · · · fo41_0 rfl) ?_
 refine sT 29 (sV t0.mLo) rfl (v_load_dp1 rfl · · · onT9 rfl rfl) ?_
 refine sT 30 (.d (.dp (List.drop 1 (eSpan t1)))) rfl (v_field_dp (a0 := 1) (cs := (eSpan t1)) rfl · · · fo41_1 rfl) ?_
 refine sT 31 (sV t1.mHi) rfl (v_load_dp1 rfl · · · onT9 rfl rfl) ?_
 refine sT 32 (.d (.agg (eSpan ({t0 with mHi := t1.mHi})))) rfl (w_bld zc41 ((eSpan ({t0 with mHi := t1.mHi})).map V.d) [(0, sV t0.mLo), (1, sV t1.mHi)] rfl · · · zw41 rfl ft41 rfl rfl rfl rfl) ?_
 refine sq_cons _ (v_store_box (id := 4) (off := 0) (cs := (eSpan ({t0 with mHi := t1.mHi})).map V.d) rfl trivial rfl sz41 rfl rfl rfl rfl (ones_of rfl) (ble _ _ rfl)) ?_
 refine sM 5 (iV 0) rfl rfl ?_
 refine sq_nil ?_
 refine ht_ret ?_
 cases h
 exact ret2 rfl (.cell rfl rfl ag41 (ble _ _ rfl) rfl) (.tmp rfl)
theorem s113 (k : Nat) (t0 : List Entry) (t1 : List Entry) (r : (List Entry) × Int) (h : F113 k t0 t1 = some r) : Awp.Spec Tryz.prog amb 113 [(.sl 2 (t0.map eEntry)), (.sl 2 (t1.map eEntry))] (.ds [(.sl 2 (r.1.map eEntry)), (.s (.int .i64 r.2))]) := by
 rw [F113] at h
 refine spec_of Tryz.func113 rfl (ble _ _ rfl) fun w0 ok0 lt0 hA => ?_
 refine sr ?_
 refine sM 4 (.d (.s (.slice none 0 0))) rfl rfl ?_
 refine sM 5 (iV 0) rfl rfl ?_
 refine sq_nil ?_
 refine ht_seq ?_
 refine ht_block ?_
 refine sr ?_
 refine sM 7 (.d (.sl 2 (t0.map eEntry))) rfl rfl ?_
 obtain ⟨t8, c1, h⟩ := bpos h
 refine sT 8 (bV t8) rfl (w_call (ds := [(.sl 2 (t0.map eEntry))]) (caps := []) (l := [(.s (.bool t8))]) (s81 k t0 _ c1) rfl rfl rfl en81 · · · (.inl ⟨rfl, rfl⟩) rfl rfl) ?_
 refine sT 9 (bV (!t8)) rfl (v_un rfl · · · rfl (u_not rfl)) ?_
 refine sM 10 (bV (!t8)) rfl rfl ?_
 refine sF 11 (.d (.sl 2 (t1.map eEntry))) rfl rfl (fun e2 => (v_move (.inl rfl) · · · rfl)) ?_
 obtain ⟨t12, c4, h⟩ := bpos h
 refine sF 12 (bV t12) rfl rfl (fun e3 => (w_call (ds := [(.sl 2 (t1.map eEntry))]) (caps := []) (l := [(.s (.bool t12))]) (s81 k t1 _ (cpos (nF e3) c4)) rfl rfl rfl en81 · · · (.inl ⟨rfl, rfl⟩) (cc (gv (nF e3)) rfl) rfl)) ?_
 refine sF 13 (bV (!t12)) rfl rfl (fun e5 => (v_un rfl · · · (gv (nF e5)) (u_not rfl))) ?_
 refine sT 14 (bV ((!t8) || (!t12))) rfl (v_pickB rfl · · · rfl (fun e6 => rfl) (fun e7 => (gv (nF e7))) (pO _ _)) ?_
 refine sM 6 (bV ((!t8) || (!t12))) rfl rfl ?_
 refine sq_nil ?_
 refine ht_cond rfl (fun e8 => ?_) (fun e8 => ?_)
 ·replace h := cpos e8 h
  refine sr ?_
  refine sM 4 (.d (.s (.slice none 0 0))) rfl rfl ?_
  refine sM 5 (iV 1) rfl rfl ?_
  refine sq_nil ?_
  refine ht_ret ?_
  cases h
  exact retM_wk (wk_nil (.t 4) (nb 4) 2 rfl) (ret2 rfl (.tmp rfl) (.tmp rfl))
 replace h := cneg e8 h
 refine ht_seq ?_
 refine ht_region_draw mixed ?_
 refine rM 16 (.d (.sl 2 (t0.map eEntry))) rfl rfl ?_
 refine rT 17 (iV (t0.length : Int)) rfl (w_len t0 eEntry rfl rfl · · · slT42 rfl) ?_
 refine rT 18 (bV (ltI 0 (t0.length : Int))) rfl (v_bin rfl · · · rfl rfl (b_gtr rfl)) ?_
 refine rM 19 (bV (ltI 0 (t0.length : Int))) rfl rfl ?_
 refine rG 20 (.d (.sl 2 (t1.map eEntry))) rfl rfl (fun e9 => (v_move (.inl rfl) · · · rfl)) ?_
 refine rG 21 (iV (t1.length : Int)) rfl rfl (fun e10 => (w_len t1 eEntry rfl rfl · · · slT42 (gv e10))) ?_
 refine rG 22 (bV (ltI 0 (t1.length : Int))) rfl rfl (fun e11 => (v_bin rfl · · · (gv e11) rfl (b_gtr rfl))) ?_
 refine rT 23 (bV ((ltI 0 (t0.length : Int)) && (ltI 0 (t1.length : Int)))) rfl (v_pickB rfl · · · rfl (fun e12 => (gv e12)) (fun e13 => rfl) (pA _ _)) ?_
 refine rM 24 (bV ((ltI 0 (t0.length : Int)) && (ltI 0 (t1.length : Int)))) rfl rfl ?_
 refine rG 25 (.d (.sl 2 (t0.map eEntry))) rfl rfl (fun e14 => (v_move (.inl rfl) · · · rfl)) ?_
 refine rG 26 (.d (.sl 2 (t0.map eEntry))) rfl rfl (fun e15 => (v_move (.inl rfl) · · · rfl)) ?_
 refine rG 27 (iV (t0.length : Int)) rfl rfl (fun e16 => (w_len t0 eEntry rfl rfl · · · slT42 (gv e16))) ?_
 refine rG 28 (iV (IntKind.wrap .i64 ((t0.length : Int) - 1))) rfl rfl (fun e17 => (v_bin rfl · · · (gv e17) rfl (b_sub rfl))) ?_
 obtain ⟨e19, h⟩ := gpos h
 refine rG 29 (.d (.dp (eEntry (rd t0 (IntKind.wrap .i64 ((t0.length : Int) - 1)))))) rfl rfl (fun e18 => (w_idx t0 eEntry rfl · · · slT42 (gv e18) (gv e18) (orT e19 e18))) ?_
 refine rG 30 (.d (.dp (eEntry (rd t0 (IntKind.wrap .i64 ((t0.length : Int) - 1)))))) rfl rfl (fun e20 => (v_field_dp (a0 := 0) (cs := (eEntry (rd t0 (IntKind.wrap .i64 ((t0.length : Int) - 1))))) rfl · · · fo116_0 (gv e20))) ?_
 refine rG 31 (sV (rd t0 (IntKind.wrap .i64 ((t0.length : Int) - 1))).mKey) rfl rfl (fun e21 => (v_load_dp1 rfl · · · onT9 (gv e21) rfl)) ?_
 refine rG 32 (.d (.sl 2 (t1.map eEntry))) rfl rfl (fun e22 => (v_move (.inl rfl) · · · rfl)) ?_
 obtain ⟨e24, h⟩ := gpos h
 refine rG 33 (.d (.dp (eEntry (rd t1 0)))) rfl rfl (fun e23 => (w_idx t1 eEntry rfl · · · slT42 (gv e23) rfl (orT e24 e23))) ?_
 refine rG 34 (.d (.dp (eEntry (rd t1 0)))) rfl rfl (fun e25 => (v_field_dp (a0 := 0) (cs := (eEntry (rd t1 0))) rfl · · · fo116_0 (gv e25))) ?_
 refine rG 35 (sV (rd t1 0).mKey) rfl rfl (fun e26 => (v_load_dp1 rfl · · · onT9 (gv e26) rfl)) ?_
 obtain ⟨t36, c28, h⟩ := bpos h
 refine rG 36 (iV t36) rfl rfl (fun e27 => (w_call (ds := [(.s (.string (rd t0 (IntKind.wrap .i64 ((t0.length : Int) - 1))).mKey)), (.s (.string (rd t1 0).mKey))]) (caps := []) (l := [(.s (.int .i64 t36))]) (s124 k (rd t0 (IntKind.wrap .i64 ((t0.length : Int) - 1))).mKey (rd t1 0).mKey _ (cpos e27 c28)) rfl rfl rfl en124 · · · (.inl ⟨rfl, rfl⟩) (cc (gv e27) (cc (gv e27) rfl)) rfl)) ?_
 refine rG 37 (bV (leI 0 t36)) rfl rfl (fun e29 => (v_bin rfl · · · (gv e29) rfl (b_geq rfl))) ?_
 refine rT 38 (bV (((ltI 0 (t0.length : Int)) && (ltI 0 (t1.length : Int))) && (leI 0 t36))) rfl (v_pickB rfl · · · rfl (fun e30 => (gv e30)) (fun e31 => rfl) (pA _ _)) ?_
 refine rM 15 (bV (((ltI 0 (t0.length : Int)) && (ltI 0 (t1.length : Int))) && (leI 0 t36))) rfl rfl ?_
 refine rg_nil ⟨by kernel_rfl, ?_⟩
 refine ht_cond rfl (fun e32 => ?_) (fun e32 => ?_)
 ·replace h := cpos e32 h
  refine sr ?_
  refine sM 4 (.d (.s (.slice none 0 0))) rfl rfl ?_
  refine sM 5 (iV 9) rfl rfl ?_
  refine sq_nil ?_
  refine ht_ret ?_
  cases h
  exact retM_wk (wk_nil (.t 4) (nb 4) 2 rfl) (ret2 rfl (.tmp rfl) (.tmp rfl))
 replace h := cneg e32 h
 refine sr ?_
 refine sM 40 (.d (.sl 2 (t0.map eEntry))) rfl rfl ?_
 refine sT 41 (iV (t0.length : Int)) rfl (w_len t0 eEntry rfl rfl · · · slT42 rfl) ?_
 refine sM 42 (.d (.sl 2 (t1.map eEntry))) rfl rfl ?_
 refine sT 43 (iV (t1.length : Int)) rfl (w_len t1 eEntry rfl rfl · · · slT42 rfl) ?_
 refine sT 44 (iV (IntKind.wrap .i64 ((t0.length : Int) + (t1.length : Int)))) rfl (v_bin rfl · · · rfl rfl (b_add rfl)) ?_
 obtain ⟨t45, q33, h⟩ := bndp h
 refine sT 45 (bV t45) rfl (v_bin rfl · · · rfl rfl (b_gtr q33)) ?_
 refine sM 39 (bV t45) rfl rfl ?_
 refine sq_nil ?_
 refine ht_cond rfl (fun e34 => ?_) (fun e34 => ?_)
 ·replace h := cpos e34 h
  refine sr ?_
  refine sM 4 (.d (.s (.slice none 0 0))) rfl rfl ?_
  refine sM 5 (iV 6) rfl rfl ?_
  refine sq_nil ?_
  refine ht_ret ?_
  cases h
  exact retM_wk (wk_nil (.t 4) (nb 4) 2 rfl) (ret2 rfl (.tmp rfl) (.tmp rfl))
 replace h := cneg e34 h
 refine ht_skip ?_
 refine sr ?_
 refine sM 46 (.d (.sl 2 (t0.map eEntry))) rfl rfl ?_
 obtain ⟨t47, c35, h⟩ := bpos h
 refine sq_cons ⟨_, [(.b 47, .row false 116 2 (t47.map eEntry)), (.t 47, .own 47 2 t47.length)]⟩ (w_call_own (id := 47) (ds := [(.sl 2 (t0.map eEntry))]) (caps := []) eEntry (s149o k t0 _ c35) rfl rfl rfl en149 trivial rfl (ble _ _ rfl) (.inl ⟨rfl, rfl⟩) rfl rfl) ?_
 refine sM 48 (.d (.sl 2 (t1.map eEntry))) rfl rfl ?_
 obtain ⟨t49, c36, h⟩ := bpos h
 refine sT 49 (.d (.sl 2 (t49.map eEntry))) rfl (w_call (ds := [(.sl 2 (t1.map eEntry))]) (caps := []) (l := [(.sl 2 (t49.map eEntry))]) (s149 k t1 _ c36) rfl rfl rfl en149 · · · (.inl ⟨rfl, rfl⟩) rfl rfl) ?_
 obtain ⟨e37, h⟩ := gpos h
 refine sq_cons ⟨_, [(.b 47, .spent), (.b 50, .row false 116 2 ((t47 ++ t49).map eEntry)), (.t 50, .own 50 2 (t47 ++ t49).length)]⟩ (w_app 50 t47 t49 eEntry rfl rfl trivial rfl (ble _ _ rfl) slT42 elT116 teEntry rfl rfl rfl (.d) rfl e37) ?_
 refine sM 4 (.own 50 2 (t47 ++ t49).length) rfl rfl ?_
 refine sM 5 (iV 0) rfl rfl ?_
 refine sq_nil ?_
 refine ht_ret ?_
 cases h
 exact retM_wk (wk_still_row 50 _ _ _ rfl) (retM_wk (wk_row (.t 4) (nb 4) 50 _ _ _ _ rfl rfl (lm _ _)) (retM_wk (wk_row (.t 50) (nb 50) 50 _ _ _ _ rfl rfl (lm _ _)) (ret2 rfl (.tmp rfl) (.tmp rfl))))
theorem s114 (k : Nat) (t0 : List Done) (t1 : List Done) (r : (List Done) × Int) (h : F114 k t0 t1 = some r) : Awp.Spec Tryz.prog amb 114 [(.sl 11 (t0.map eDone)), (.sl 11 (t1.map eDone))] (.ds [(.sl 11 (r.1.map eDone)), (.s (.int .i64 r.2))]) := by
 rw [F114] at h
 refine spec_of Tryz.func114 rfl (ble _ _ rfl) fun w0 ok0 lt0 hA => ?_
 refine sr ?_
 refine sM 4 (.d (.s (.slice none 0 0))) rfl rfl ?_
 refine sM 5 (iV 0) rfl rfl ?_
 refine sq_nil ?_
 refine ht_seq ?_
 refine sr ?_
 refine sM 7 (.d (.sl 11 (t0.map eDone))) rfl rfl ?_
 obtain ⟨t8, c1, h⟩ := bpos h
 refine sT 8 (bV t8) rfl (w_call (ds := [(.sl 11 (t0.map eDone))]) (caps := []) (l := [(.s (.bool t8))]) (s82 k t0 _ c1) rfl rfl rfl en82 · · · (.inl ⟨rfl, rfl⟩) rfl rfl) ?_
 refine sT 9 (bV (!t8)) rfl (v_un rfl · · · rfl (u_not rfl)) ?_
 refine sM 10 (bV (!t8)) rfl rfl ?_
 refine sF 11 (.d (.sl 11 (t1.map eDone))) rfl rfl (fun e2 => (v_move (.inl rfl) · · · rfl)) ?_
 obtain ⟨t12, c4, h⟩ := bpos h
 refine sF 12 (bV t12) rfl rfl (fun e3 => (w_call (ds := [(.sl 11 (t1.map eDone))]) (caps := []) (l := [(.s (.bool t12))]) (s82 k t1 _ (cpos (nF e3) c4)) rfl rfl rfl en82 · · · (.inl ⟨rfl, rfl⟩) (cc (gv (nF e3)) rfl) rfl)) ?_
 refine sF 13 (bV (!t12)) rfl rfl (fun e5 => (v_un rfl · · · (gv (nF e5)) (u_not rfl))) ?_
 refine sT 14 (bV ((!t8) || (!t12))) rfl (v_pickB rfl · · · rfl (fun e6 => rfl) (fun e7 => (gv (nF e7))) (pO _ _)) ?_
 refine sq_nil ?_
 refine ht_cond rfl (fun e8 => ?_) (fun e8 => ?_)
 ·replace h := cpos e8 h
  refine sr ?_
  refine sM 4 (.d (.s (.slice none 0 0))) rfl rfl ?_
  refine sM 5 (iV 1) rfl rfl ?_
  refine sq_nil ?_
  refine ht_ret ?_
  cases h
  exact retM_wk (wk_nil (.t 4) (nb 4) 11 rfl) (ret2 rfl (.tmp rfl) (.tmp rfl))
 replace h := cneg e8 h
 refine ht_skip ?_
 refine sr ?_
 refine sM 6 (.d (.s (.slice none 0 0))) rfl rfl ?_
 refine sq_nil ?_
 refine ht_bj h (fun t6 => tell [(.b 1006, .row false 100 11 (t6.map eDone)), (.t 6, .own 1006 11 t6.length)]) (fun t6 h => ?_) (fun v9 K10 h j12 => ?_)
 ·refine ht_seq ?_
  refine sr ?_
  refine sM 104 (.own 1006 11 t6.length) rfl rfl ?_
  refine sT 105 (iV (t6.length : Int)) rfl (v_len_own rfl rfl · · · und43 rfl) ?_
  refine sT 106 (bV (ltI 8 (t6.length : Int))) rfl (v_bin rfl · · · rfl rfl (b_gtr rfl)) ?_
  refine sq_nil ?_
  refine ht_cond rfl (fun e85 => ?_) (fun e85 => ?_)
  ·replace h := cpos e85 h
   refine sr ?_
   refine sM 4 (.d (.s (.slice none 0 0))) rfl rfl ?_
   refine sM 5 (iV 6) rfl rfl ?_
   refine sq_nil ?_
   refine ht_ret ?_
   cases h
   exact retM_wk (wk_nil (.t 4) (nb 4) 11 rfl) (ret2 rfl (.tmp rfl) (.tmp rfl))
  replace h := cneg e85 h
  refine ht_skip ?_
  refine sr ?_
  refine sM 107 (.own 1006 11 t6.length) rfl rfl ?_
  refine sM 4 (.own 1006 11 t6.length) rfl rfl ?_
  refine sM 5 (iV 0) rfl rfl ?_
  refine sq_nil ?_
  refine ht_ret ?_
  cases h
  exact retM_wk (wk_still_row 1006 _ _ _ rfl) (retM_wk (wk_row (.t 4) (nb 4) 1006 _ _ _ _ rfl rfl (lm _ _)) (retM_wk (wk_row (.t 6) (nb 6) 1006 _ _ _ _ rfl rfl (lm _ _)) (retM_wk (wk_row (.t 104) (nb 104) 1006 _ _ _ _ rfl rfl (lm _ _)) (retM_wk (wk_row (.t 107) (nb 107) 1006 _ _ _ _ rfl rfl (lm _ _)) (ret2 rfl (.tmp rfl) (.tmp rfl))))))
 refine ht_block ?_
 refine ht_rd h (fun _ => rfl) (fun (t0_1, t1_1, t6_1) => tell [(.b 1006, .row false 100 11 (t6_1.map eDone)), (.t 0, .d (.sl 11 (t0_1.map eDone))), (.t 1, .d (.sl 11 (t1_1.map eDone))), (.t 6, .own 1006 11 t6_1.length)]) (wkt (wk_nilrow (.t 6) (nb 6) 1001006 100 11 rfl rfl) (wk_ren _ (fun i => bif Nat.beq i 1006 then 1001006 else i) rfl ⟨rfl, rfl, rfl, rfl, trivial⟩)) fun k v16 h K84 j15 => ?_
 obtain ⟨t0_1, t1_1, t6_1⟩ := v16
 rw [F114_l1] at h
 refine ht_seq ?_
 refine sr ?_
 refine sM 15 (.d (.sl 11 (t0_1.map eDone))) rfl rfl ?_
 refine sT 16 (iV (t0_1.length : Int)) rfl (w_len t0_1 eDone rfl rfl · · · slT43 rfl) ?_
 refine sT 17 (bV (ltI 0 (t0_1.length : Int))) rfl (v_bin rfl · · · rfl rfl (b_gtr rfl)) ?_
 refine sM 18 (bV (ltI 0 (t0_1.length : Int))) rfl rfl ?_
 refine sF 19 (.d (.sl 11 (t1_1.map eDone))) rfl rfl (fun e17 => (v_move (.inl rfl) · · · rfl)) ?_
 refine sF 20 (iV (t1_1.length : Int)) rfl rfl (fun e18 => (w_len t1_1 eDone rfl rfl · · · slT43 (gv (nF e18)))) ?_
 refine sF 21 (bV (ltI 0 (t1_1.length : Int))) rfl rfl (fun e19 => (v_bin rfl · · · (gv (nF e19)) rfl (b_gtr rfl))) ?_
 refine sT 22 (bV ((ltI 0 (t0_1.length : Int)) || (ltI 0 (t1_1.length : Int)))) rfl (v_pickB rfl · · · rfl (fun e20 => rfl) (fun e21 => (gv (nF e21))) (pO _ _)) ?_
 refine sq_nil ?_
 refine ht_cond rfl (fun e22 => ?_) (fun e22 => ?_)
 ·replace h := cpos e22 h
  refine ht_skip ?_
  refine ht_block ?_
  refine ht_block ?_
  refine ht_seq ?_
  refine ht_region_draw mixed ?_
  refine rM 34 (.d (.sl 11 (t1_1.map eDone))) rfl rfl ?_
  refine rT 35 (iV (t1_1.length : Int)) rfl (w_len t1_1 eDone rfl rfl · · · slT43 rfl) ?_
  refine rT 36 (bV (eqI (t1_1.length : Int) 0)) rfl (v_bin rfl · · · rfl rfl (b_eql rfl)) ?_
  refine rM 37 (bV (eqI (t1_1.length : Int) 0)) rfl rfl ?_
  refine rF 38 (.d (.sl 11 (t0_1.map eDone))) rfl rfl (fun e23 => (v_move (.inl rfl) · · · rfl)) ?_
  refine rF 39 (iV (t0_1.length : Int)) rfl rfl (fun e24 => (w_len t0_1 eDone rfl rfl · · · slT43 (gv (nF e24)))) ?_
  refine rF 40 (bV (ltI 0 (t0_1.length : Int))) rfl rfl (fun e25 => (v_bin rfl · · · (gv (nF e25)) rfl (b_gtr rfl))) ?_
  refine rF 41 (bV (ltI 0 (t0_1.length : Int))) rfl rfl (fun e26 => (v_move (.inl rfl) · · · (gv (nF e26)))) ?_
  refine rI 42 (.d (.sl 11 (t0_1.map eDone))) rfl rfl (fun e27 e28 => (v_move (.inl rfl) · · · rfl)) ?_
  obtain ⟨e31, h⟩ := gpos h
  refine rI 43 (.d (.dp (eDone (rd t0_1 0)))) rfl rfl (fun e29 e30 => (w_idx t0_1 eDone rfl · · · slT43 (gv (aT e29 e30)) rfl (orT e31 (aT e29 e30)))) ?_
  refine rI 44 (.d (.dp (eDone (rd t0_1 0)))) rfl rfl (fun e32 e33 => (v_field_dp (a0 := 0) (cs := (eDone (rd t0_1 0))) rfl · · · fo100_0 (gv (aT e32 e33)))) ?_
  refine rI 45 (iV (rd t0_1 0).mClient) rfl rfl (fun e34 e35 => (v_load_dp1 rfl · · · onT3 (gv (aT e34 e35)) rfl)) ?_
  refine rI 46 (.d (.sl 11 (t1_1.map eDone))) rfl rfl (fun e36 e37 => (v_move (.inl rfl) · · · rfl)) ?_
  obtain ⟨e40, h⟩ := gpos h
  refine rI 47 (.d (.dp (eDone (rd t1_1 0)))) rfl rfl (fun e38 e39 => (w_idx t1_1 eDone rfl · · · slT43 (gv (aT e38 e39)) rfl (orT e40 (aT e38 e39)))) ?_
  refine rI 48 (.d (.dp (eDone (rd t1_1 0)))) rfl rfl (fun e41 e42 => (v_field_dp (a0 := 0) (cs := (eDone (rd t1_1 0))) rfl · · · fo100_0 (gv (aT e41 e42)))) ?_
  refine rI 49 (iV (rd t1_1 0).mClient) rfl rfl (fun e43 e44 => (v_load_dp1 rfl · · · onT3 (gv (aT e43 e44)) rfl)) ?_
  refine rI 50 (bV (ltI (rd t0_1 0).mClient (rd t1_1 0).mClient)) rfl rfl (fun e45 e46 => (v_bin rfl · · · (gv (aT e45 e46)) (gv (aT e45 e46)) (b_lss rfl))) ?_
  refine rF 51 (bV ((ltI 0 (t0_1.length : Int)) && (ltI (rd t0_1 0).mClient (rd t1_1 0).mClient))) rfl rfl (fun e47 => (v_pickB rfl · · · (gv (nF e47)) (fun e48 => (gv (aT (nF e47) e48))) (fun e49 => rfl) (pA _ _))) ?_
  refine rT 52 (bV ((eqI (t1_1.length : Int) 0) || ((ltI 0 (t0_1.length : Int)) && (ltI (rd t0_1 0).mClient (rd t1_1 0).mClient)))) rfl (v_pickB rfl · · · rfl (fun e50 => rfl) (fun e51 => (gv (nF e51))) (pO _ _)) ?_
  refine rM 33 (bV ((eqI (t1_1.length : Int) 0) || ((ltI 0 (t0_1.length : Int)) && (ltI (rd t0_1 0).mClient (rd t1_1 0).mClient)))) rfl rfl ?_
  refine rg_nil ⟨by kernel_rfl, ?_⟩
  refine ht_cond rfl (fun e52 => ?_) (fun e52 => ?_)
  ·replace h := cpos e52 h
   refine ht_region_draw mixed ?_
   refine rM 53 (.own 1006 11 t6_1.length) rfl rfl ?_
   refine rM 54 (.d (.sl 11 (t0_1.map eDone))) rfl rfl ?_
   obtain ⟨e53, h⟩ := gpos h
   refine rT 55 (.d (.dp (eDone (rd t0_1 0)))) rfl (w_idx t0_1 eDone rfl · · · slT43 rfl rfl e53) ?_
   refine rT 56 (.d (.agg (eDone (rd t0_1 0)))) rfl (w_ldp (eDone (rd t0_1 0)) (eDone (rd t0_1 0)) rfl · · · ag100 rfl (ble _ _ rfl) rfl) ?_
   refine rg_cons ⟨_, [(.b 57, .row false 100 11 (([(rd t0_1 0)]).map eDone)), (.t 57, .own 57 11 ([(rd t0_1 0)]).length)]⟩ (w_bsl (id := 57) [(0, .d (.agg (eDone (rd t0_1 0))))] [(rd t0_1 0)] eDone rfl trivial rfl (ble _ _ rfl) slT43 zr100 teDone (ble _ _ rfl) rfl (by kernel_rfl) rfl rfl (by kernel_rfl) (by kernel_rfl)) ?_
   obtain ⟨e54, h⟩ := gpos h
   refine rg_cons ⟨_, [(.b 1006, .spent), (.b 58, .row false 100 11 ((t6_1 ++ [(rd t0_1 0)]).map eDone)), (.t 58, .own 58 11 (t6_1 ++ [(rd t0_1 0)]).length)]⟩ (w_app 58 t6_1 ([(rd t0_1 0)]) eDone rfl rfl trivial rfl (ble _ _ rfl) slT43 elT100 teDone rfl rfl rfl (.own 57 _ _ rfl) rfl e54) ?_
   refine rM 59 (.d (.sl 11 (t0_1.map eDone))) rfl rfl ?_
   obtain ⟨e55, h⟩ := gpos h
   refine rT 60 (.d (.sl 11 ((List.drop (1 : Int).toNat t0_1).map eDone))) rfl (w_cutl t0_1 eDone rfl · · · slT43 rfl rfl e55) ?_
   refine rM 6 (.own 58 11 (t6_1 ++ [(rd t0_1 0)]).length) rfl rfl ?_
   refine rM 0 (.d (.sl 11 ((List.drop (1 : Int).toNat t0_1).map eDone))) rfl rfl ?_
   refine rg_nil ⟨by kernel_rfl, ?_⟩
   exact j15 _ _ h (wk_ren _ (fun i => bif Nat.beq i 1006 then 58 else i) rfl ⟨rfl, rfl, rfl, rfl, trivial⟩)
  replace h := cneg e52 h
  refine ht_seq ?_
  refine ht_region_draw mixed ?_
  refine rM 62 (.d (.sl 11 (t0_1.map eDone))) rfl rfl ?_
  refine rT 63 (iV (t0_1.length : Int)) rfl (w_len t0_1 eDone rfl rfl · · · slT43 rfl) ?_
  refine rT 64 (bV (eqI (t0_1.length : Int) 0)) rfl (v_bin rfl · · · rfl rfl (b_eql rfl)) ?_
  refine rM 65 (bV (eqI (t0_1.length : Int) 0)) rfl rfl ?_
  refine rF 66 (.d (.sl 11 (t1_1.map eDone))) rfl rfl (fun e56 => (v_move (.inl rfl) · · · rfl)) ?_
  obtain ⟨e58, h⟩ := gpos h
  refine rF 67 (.d (.dp (eDone (rd t1_1 0)))) rfl rfl (fun e57 => (w_idx t1_1 eDone rfl · · · slT43 (gv (nF e57)) rfl (orT e58 (nF e57)))) ?_
  refine rF 68 (.d (.dp (eDone (rd t1_1 0)))) rfl rfl (fun e59 => (v_field_dp (a0 := 0) (cs := (eDone (rd t1_1 0))) rfl · · · fo100_0 (gv (nF e59)))) ?_
  refine rF 69 (iV (rd t1_1 0).mClient) rfl rfl (fun e60 => (v_load_dp1 rfl · · · onT3 (gv (nF e60)) rfl)) ?_
  refine rF 70 (.d (.sl 11 (t0_1.map eDone))) rfl rfl (fun e61 => (v_move (.inl rfl) · · · rfl)) ?_
  obtain ⟨e63, h⟩ := gpos h
  refine rF 71 (.d (.dp (eDone (rd t0_1 0)))) rfl rfl (fun e62 => (w_idx t0_1 eDone rfl · · · slT43 (gv (nF e62)) rfl (orT e63 (nF e62)))) ?_
  refine rF 72 (.d (.dp (eDone (rd t0_1 0)))) rfl rfl (fun e64 => (v_field_dp (a0 := 0) (cs := (eDone (rd t0_1 0))) rfl · · · fo100_0 (gv (nF e64)))) ?_
  refine rF 73 (iV (rd t0_1 0).mClient) rfl rfl (fun e65 => (v_load_dp1 rfl · · · onT3 (gv (nF e65)) rfl)) ?_
  refine rF 74 (bV (ltI (rd t1_1 0).mClient (rd t0_1 0).mClient)) rfl rfl (fun e66 => (v_bin rfl · · · (gv (nF e66)) (gv (nF e66)) (b_lss rfl))) ?_
  refine rT 75 (bV ((eqI (t0_1.length : Int) 0) || (ltI (rd t1_1 0).mClient (rd t0_1 0).mClient))) rfl (v_pickB rfl · · · rfl (fun e67 => rfl) (fun e68 => (gv (nF e68))) (pO _ _)) ?_
  refine rM 61 (bV ((eqI (t0_1.length : Int) 0) || (ltI (rd t1_1 0).mClient (rd t0_1 0).mClient))) rfl rfl ?_
  refine rg_nil ⟨by kernel_rfl, ?_⟩
  refine ht_cond rfl (fun e69 => ?_) (fun e69 => ?_)
  ·replace h := cpos e69 h
   refine ht_region_draw mixed ?_
   refine rM 76 (.own 1006 11 t6_1.length) rfl rfl ?_
   refine rM 77 (.d (.sl 11 (t1_1.map eDone))) rfl rfl ?_
   obtain ⟨e70, h⟩ := gpos h
   refine rT 78 (.d (.dp (eDone (rd t1_1 0)))) rfl (w_idx t1_1 eDone rfl · · · slT43 rfl rfl e70) ?_
   refine rT 79 (.d (.agg (eDone (rd t1_1 0)))) rfl (w_ldp (eDone (rd t1_1 0)) (eDone (rd t1_1 0)) rfl · · · ag100 rfl (ble _ _ rfl) rfl) ?_
   refine rg_cons ⟨_, [(.b 80, .row false 100 11 (([(rd t1_1 0)]).map eDone)), (.t 80, .own 80 11 ([(rd t1_1 0)]).length)]⟩ (w_bsl (id := 80) [(0, .d (.agg (eDone (rd t1_1 0))))] [(rd t1_1 0)] eDone rfl trivial rfl (ble _ _ rfl) slT43 zr100 teDone (ble _ _ rfl) rfl (by kernel_rfl) rfl rfl (by kernel_rfl) (by kernel_rfl)) ?_
   obtain ⟨e71, h⟩ := gpos h
   refine rg_cons ⟨_, [(.b 1006, .spent), (.b 81, .row false 100 11 ((t6_1 ++ [(rd t1_1 0)]).map eDone)), (.t 81, .own 81 11 (t6_1 ++ [(rd t1_1 0)]).length)]⟩ (w_app 81 t6_1 ([(rd t1_1 0)]) eDone rfl rfl trivial rfl (ble _ _ rfl) slT43 elT100 teDone rfl rfl rfl (.own 80 _ _ rfl) rfl e71) ?_
   refine rM 82 (.d (.sl 11 (t1_1.map eDone))) rfl rfl ?_
   obtain ⟨e72, h⟩ := gpos h
   refine rT 83 (.d (.sl 11 ((List.drop (1 : Int).toNat t1_1).map eDone))) rfl (w_cutl t1_1 eDone rfl · · · slT43 rfl rfl e72) ?_
   refine rM 6 (.own 81 11 (t6_1 ++ [(rd t1_1 0)]).length) rfl rfl ?_
   refine rM 1 (.d (.sl 11 ((List.drop (1 : Int).toNat t1_1).map eDone))) rfl rfl ?_
   refine rg_nil ⟨by kernel_rfl, ?_⟩
   exact j15 _ _ h (wk_ren _ (fun i => bif Nat.beq i 1006 then 81 else i) rfl ⟨rfl, rfl, rfl, rfl, trivial⟩)
  replace h := cneg e69 h
  refine ht_seq ?_
  refine ht_region_draw mixed ?_
  refine rM 85 (.d (.sl 11 (t0_1.map eDone))) rfl rfl ?_
  obtain ⟨e73, h⟩ := gpos h
  refine rT 86 (.d (.dp (eDone (rd t0_1 0)))) rfl (w_idx t0_1 eDone rfl · · · slT43 rfl rfl e73) ?_
  refine rT 87 (.d (.dp (List.drop 1 (eDone (rd t0_1 0))))) rfl (v_field_dp (a0 := 1) (cs := (eDone (rd t0_1 0))) rfl · · · fo100_1 rfl) ?_
  refine rT 88 (iV (rd t0_1 0).mReq) rfl (v_load_dp1 rfl · · · onT3 rfl rfl) ?_
  refine rM 89 (.d (.sl 11 (t1_1.map eDone))) rfl rfl ?_
  obtain ⟨e74, h⟩ := gpos h
  refine rT 90 (.d (.dp (eDone (rd t1_1 0)))) rfl (w_idx t1_1 eDone rfl · · · slT43 rfl rfl e74) ?_
  refine rT 91 (.d (.dp (List.drop 1 (eDone (rd t1_1 0))))) rfl (v_field_dp (a0 := 1) (cs := (eDone (rd t1_1 0))) rfl · · · fo100_1 rfl) ?_
  refine rT 92 (iV (rd t1_1 0).mReq) rfl (v_load_dp1 rfl · · · onT3 rfl rfl) ?_
  refine rT 93 (bV (leI (rd t1_1 0).mReq (rd t0_1 0).mReq)) rfl (v_bin rfl · · · rfl rfl (b_geq rfl)) ?_
  refine rM 84 (bV (leI (rd t1_1 0).mReq (rd t0_1 0).mReq)) rfl rfl ?_
  refine rg_nil ⟨by kernel_rfl, ?_⟩
  refine ht_cond rfl (fun e75 => ?_) (fun e75 => ?_)
  ·replace h := cpos e75 h
   refine ht_region_draw mixed ?_
   refine rM 94 (.own 1006 11 t6_1.length) rfl rfl ?_
   refine rM 95 (.d (.sl 11 (t0_1.map eDone))) rfl rfl ?_
   obtain ⟨e76, h⟩ := gpos h
   refine rT 96 (.d (.dp (eDone (rd t0_1 0)))) rfl (w_idx t0_1 eDone rfl · · · slT43 rfl rfl e76) ?_
   refine rT 97 (.d (.agg (eDone (rd t0_1 0)))) rfl (w_ldp (eDone (rd t0_1 0)) (eDone (rd t0_1 0)) rfl · · · ag100 rfl (ble _ _ rfl) rfl) ?_
   refine rg_cons ⟨_, [(.b 98, .row false 100 11 (([(rd t0_1 0)]).map eDone)), (.t 98, .own 98 11 ([(rd t0_1 0)]).length)]⟩ (w_bsl (id := 98) [(0, .d (.agg (eDone (rd t0_1 0))))] [(rd t0_1 0)] eDone rfl trivial rfl (ble _ _ rfl) slT43 zr100 teDone (ble _ _ rfl) rfl (by kernel_rfl) rfl rfl (by kernel_rfl) (by kernel_rfl)) ?_
   obtain ⟨e77, h⟩ := gpos h
   refine rg_cons ⟨_, [(.b 1006, .spent), (.b 99, .row false 100 11 ((t6_1 ++ [(rd t0_1 0)]).map eDone)), (.t 99, .own 99 11 (t6_1 ++ [(rd t0_1 0)]).length)]⟩ (w_app 99 t6_1 ([(rd t0_1 0)]) eDone rfl rfl trivial rfl (ble _ _ rfl) slT43 elT100 teDone rfl rfl rfl (.own 98 _ _ rfl) rfl e77) ?_
   refine rM 100 (.d (.sl 11 (t0_1.map eDone))) rfl rfl ?_
   obtain ⟨e78, h⟩ := gpos h
   refine rT 101 (.d (.sl 11 ((List.drop (1 : Int).toNat t0_1).map eDone))) rfl (w_cutl t0_1 eDone rfl · · · slT43 rfl rfl e78) ?_
   refine rM 102 (.d (.sl 11 (t1_1.map eDone))) rfl rfl ?_
   obtain ⟨e79, h⟩ := gpos h
   refine rT 103 (.d (.sl 11 ((List.drop (1 : Int).toNat t1_1).map eDone))) rfl (w_cutl t1_1 eDone rfl · · · slT43 rfl rfl e79) ?_
   refine rM 6 (.own 99 11 (t6_1 ++ [(rd t0_1 0)]).length) rfl rfl ?_
   refine rM 0 (.d (.sl 11 ((List.drop (1 : Int).toNat t0_1).map eDone))) rfl rfl ?_
   refine rM 1 (.d (.sl 11 ((List.drop (1 : Int).toNat t1_1).map eDone))) rfl rfl ?_
   refine rg_nil ⟨by kernel_rfl, ?_⟩
   exact j15 _ _ h (wk_ren _ (fun i => bif Nat.beq i 1006 then 99 else i) rfl ⟨rfl, rfl, rfl, rfl, trivial⟩)
  replace h := cneg e75 h
  refine ht_region_draw mixed ?_
  refine rM 23 (.own 1006 11 t6_1.length) rfl rfl ?_
  refine rM 24 (.d (.sl 11 (t1_1.map eDone))) rfl rfl ?_
  obtain ⟨e80, h⟩ := gpos h
  refine rT 25 (.d (.dp (eDone (rd t1_1 0)))) rfl (w_idx t1_1 eDone rfl · · · slT43 rfl rfl e80) ?_
  refine rT 26 (.d (.agg (eDone (rd t1_1 0)))) rfl (w_ldp (eDone (rd t1_1 0)) (eDone (rd t1_1 0)) rfl · · · ag100 rfl (ble _ _ rfl) rfl) ?_
  refine rg_cons ⟨_, [(.b 27, .row false 100 11 (([(rd t1_1 0)]).map eDone)), (.t 27, .own 27 11 ([(rd t1_1 0)]).length)]⟩ (w_bsl (id := 27) [(0, .d (.agg (eDone (rd t1_1 0))))] [(rd t1_1 0)] eDone rfl trivial rfl (ble _ _ rfl) slT43 zr100 teDone (ble _ _ rfl) rfl (by kernel_rfl) rfl rfl (by kernel_rfl) (by kernel_rfl)) ?_
  obtain ⟨e81, h⟩ := gpos h
  refine rg_cons ⟨_, [(.b 1006, .spent), (.b 28, .row false 100 11 ((t6_1 ++ [(rd t1_1 0)]).map eDone)), (.t 28, .own 28 11 (t6_1 ++ [(rd t1_1 0)]).length)]⟩ (w_app 28 t6_1 ([(rd t1_1 0)]) eDone rfl rfl trivial rfl (ble _ _ rfl) slT43 elT100 teDone rfl rfl rfl (.own 27 _ _ rfl) rfl e81) ?_
  refine rM 29 (.d (.sl 11 (t0_1.map eDone))) rfl rfl ?_
  obtain ⟨e82, h⟩ := gpos h
  refine rT 30 (.d (.sl 11 ((List.drop (1 : Int).toNat t0_1).map eDone))) rfl (w_cutl t0_1 eDone rfl · · · slT43 rfl rfl e82) ?_
  refine rM 31 (.d (.sl 11 (t1_1.map eDone))) rfl rfl ?_
  obtain ⟨e83, h⟩ := gpos h
  refine rT 32 (.d (.sl 11 ((List.drop (1 : Int).toNat t1_1).map eDone))) rfl (w_cutl t1_1 eDone rfl · · · slT43 rfl rfl e83) ?_
  refine rM 6 (.own 28 11 (t6_1 ++ [(rd t1_1 0)]).length) rfl rfl ?_
  refine rM 0 (.d (.sl 11 ((List.drop (1 : Int).toNat t0_1).map eDone))) rfl rfl ?_
  refine rM 1 (.d (.sl 11 ((List.drop (1 : Int).toNat t1_1).map eDone))) rfl rfl ?_
  refine rg_nil ⟨by kernel_rfl, ?_⟩
  exact j15 _ _ h (wk_ren _ (fun i => bif Nat.beq i 1006 then 28 else i) rfl ⟨rfl, rfl, rfl, rfl, trivial⟩)
 replace h := cneg e22 h
 refine ht_exit ?_
 refine tq ?_
 refine tq ?_
 refine bq_hit ?_
 cases h
 exact j12 _ (wk_ren _ (fun i => i) rfl ⟨rfl, rfl, trivial⟩)
theorem s50 (k : Nat) (t0 : Cell) (t1 : Int) (t2 : Int) (t3 : Int) (t4 : Int) (r : Cell × Bool) (h : F50 k t0 t1 t2 t3 t4 = some r) : Awp.Spec Tryz.prog amb 50 [(.agg (eCell t0)), (.s (.int .i64 t1)), (.s (.int .i64 t2)), (.s (.int .i64 t3)), (.s (.int .i64 t4))] (.ds [(.agg (eCell r.1)), (.s (.bool r.2))]) := by
 rw [F50] at h
 refine spec_of Tryz.func50 rfl (ble _ _ rfl) fun w0 ok0 lt0 hA => ?_
 refine sr ?_
 refine sT 5 (.d (.dp (eCell t0))) rfl (v_box_d (cs := (eCell t0)) rfl · · · rfl rfl (ones_of rfl)) ?_
 refine sq_cons _ (v_alloc (id := 10) (cs := zc26) rfl trivial rfl (ble _ _ rfl) zu26 rfl ft26 rfl) ?_
 refine sM 11 (bV false) rfl rfl ?_
 refine sq_nil ?_
 refine ht_seq ?_
 refine sr ?_
 refine sT 20 (.d (.agg (eCell t0))) rfl (w_ldp (eCell t0) (eCell t0) rfl · · · ag26 rfl (ble _ _ rfl) rfl) ?_
 obtain ⟨t21, c1, h⟩ := bpos h
 refine sT 21 (bV t21) rfl (w_call (ds := [(.agg (eCell t0))]) (caps := []) (l := [(.s (.bool t21))]) (s25 k t0 _ c1) rfl rfl rfl en25 · · · (.inl ⟨rfl, rfl⟩) rfl rfl) ?_
 refine sT 22 (bV (!t21)) rfl (v_un rfl · · · rfl (u_not rfl)) ?_
 refine sM 23 (bV (!t21)) rfl rfl ?_
 refine sF 24 (iV t1) rfl rfl (fun e2 => (v_move (.inl rfl) · · · rfl)) ?_
 refine sF 25 (iV t2) rfl rfl (fun e3 => (v_move (.inl rfl) · · · rfl)) ?_
 refine sF 26 (iV t3) rfl rfl (fun e4 => (v_move (.inl rfl) · · · rfl)) ?_
 refine sF 27 (iV t4) rfl rfl (fun e5 => (v_move (.inl rfl) · · · rfl)) ?_
 refine sF 28 (.d (.sl 1 (([t1, t2, t3, t4]).map (eI .i64)))) rfl rfl (fun e6 => (w_bsl_d [(0, iV t1), (1, iV t2), (2, iV t3), (3, iV t4)] [t1, t2, t3, t4] (eI .i64) rfl · · · slT148 zr3 (encI .i64) (ble _ _ rfl) (cc (pr (gv (nF e6))) (cc (pr (gv (nF e6))) (cc (pr (gv (nF e6))) (cc (pr (gv (nF e6))) rfl)))) (by kernel_rfl) rfl rfl (by kernel_rfl))) ?_
 obtain ⟨t29, c8, h⟩ := bpos h
 refine sF 29 (bV t29) rfl rfl (fun e7 => (w_call (ds := [(.s (.int .i64 1)), (.sl 1 (([t1, t2, t3, t4]).map (eI .i64)))]) (caps := []) (l := [(.s (.bool t29))]) (s57 k 1 ([t1, t2, t3, t4]) _ (cpos (nF e7) c8)) rfl rfl rfl en57 · · · (.inl ⟨rfl, rfl⟩) (cc rfl (cc (gv (nF e7)) rfl)) rfl)) ?_
 refine sF 30 (bV (!t29)) rfl rfl (fun e9 => (v_un rfl · · · (gv (nF e9)) (u_not rfl))) ?_
 refine sT 31 (bV ((!t21) || (!t29))) rfl (v_pickB rfl · · · rfl (fun e10 => rfl) (fun e11 => (gv (nF e11))) (pO _ _)) ?_
 refine sq_nil ?_
 refine ht_cond rfl (fun e12 => ?_) (fun e12 => ?_)
 ·replace h := cpos e12 h
  refine sr ?_
  refine sT 32 (.d (.agg (eCell t0))) rfl (w_ldp (eCell t0) (eCell t0) rfl · · · ag26 rfl (ble _ _ rfl) rfl) ?_
  refine sq_cons _ (v_store_box (id := 10) (off := 0) (cs := (eCell t0).map V.d) rfl trivial rfl sz26 rfl rfl rfl rfl (ones_of rfl) (ble _ _ rfl)) ?_
  refine sM 11 (bV false) rfl rfl ?_
  refine sq_nil ?_
  refine ht_ret ?_
  cases h
  exact ret2 rfl (.cell rfl rfl ag26 (ble _ _ rfl) rfl) (.tmp rfl)
 replace h := cneg e12 h
 refine ht_skip ?_
 refine ht_seq ?_
 refine ht_region_draw mixed ?_
 refine rT 33 (.d (.agg (eCell t0))) rfl (w_ldp (eCell t0) (eCell t0) rfl · · · ag26 rfl (ble _ _ rfl) rfl) ?_
 refine rM 34 (iV t1) rfl rfl ?_
 obtain ⟨t35, c13, h⟩ := bpos h
 refine rT 35 (.d (.agg (eShard t35))) rfl (w_call (ds := [(.agg (eCell t0)), (.s (.int .i64 t1))]) (caps := []) (l := [(.agg (eShard t35))]) (s60 k t0 t1 _ c13) rfl rfl rfl en60 · · · (.inl ⟨rfl, rfl⟩) rfl rfl) ?_
 refine rT 36 (.d (.agg (eCell t0))) rfl (w_ldp (eCell t0) (eCell t0) rfl · · · ag26 rfl (ble _ _ rfl) rfl) ?_
 refine rM 37 (iV t2) rfl rfl ?_
 obtain ⟨t38, c14, h⟩ := bpos h
 refine rT 38 (.d (.agg (eShard t38))) rfl (w_call (ds := [(.agg (eCell t0)), (.s (.int .i64 t2))]) (caps := []) (l := [(.agg (eShard t38))]) (s60 k t0 t2 _ c14) rfl rfl rfl en60 · · · (.inl ⟨rfl, rfl⟩) rfl rfl) ?_
 refine rg_cons _ (v_alloc (id := 12) (cs := zc45) rfl trivial rfl (ble _ _ rfl) zu45 rfl ft45 rfl) ?_
 refine rg_cons _ (v_alloc (id := 13) (cs := zc45) rfl trivial rfl (ble _ _ rfl) zu45 rfl ft45 rfl) ?_
 refine rg_cons _ (v_store_box (id := 12) (off := 0) (cs := (eShard t35).map V.d) rfl trivial rfl sz45 rfl rfl rfl rfl (ones_of rfl) (ble _ _ rfl)) ?_
 refine rg_cons _ (v_store_box (id := 13) (off := 0) (cs := (eShard t38).map V.d) rfl trivial rfl sz45 rfl rfl rfl rfl (ones_of rfl) (ble _ _ rfl)) ?_
 refine rg_nil ⟨by kernel_rfl, ?_⟩
 refine ht_seq ?_
 refine sr ?_
 refine sT 39 (.ptr 12 0) rfl (v_field_box (off := 0) (a0 := 0) rfl · · · fo45_0 rfl) ?_
 refine sT 40 (iV t35.mID) rfl (v_load_box1 (id := 12) (off := 0) rfl · · · onT3 rfl rfl (ble _ _ rfl) rfl) ?_
 refine sT 41 (bV (!eqI t35.mID 0)) rfl (v_bin rfl · · · rfl rfl (b_neq rfl)) ?_
 refine sM 42 (bV (!eqI t35.mID 0)) rfl rfl ?_
 refine sG 43 (.ptr 12 1) rfl rfl (fun e15 => (v_field_box (off := 0) (a0 := 1) rfl · · · fo45_1 rfl)) ?_
 refine sG 44 (iV t35.mEpoch) rfl rfl (fun e16 => (v_load_box1 (id := 12) (off := 1) rfl · · · onT3 (gv e16) rfl (ble _ _ rfl) rfl)) ?_
 refine sG 45 (iV t4) rfl rfl (fun e17 => (v_move (.inl rfl) · · · rfl)) ?_
 refine sG 46 (bV (eqI t35.mEpoch t4)) rfl rfl (fun e18 => (v_bin rfl · · · (gv e18) (gv e18) (b_eql rfl))) ?_
 refine sT 47 (bV ((!eqI t35.mID 0) && (eqI t35.mEpoch t4))) rfl (v_pickB rfl · · · rfl (fun e19 => (gv e19)) (fun e20 => rfl) (pA _ _)) ?_
 refine sM 48 (bV ((!eqI t35.mID 0) && (eqI t35.mEpoch t4))) rfl rfl ?_
 refine sG 49 (.ptr 13 0) rfl rfl (fun e21 => (v_field_box (off := 0) (a0 := 0) rfl · · · fo45_0 rfl)) ?_
 refine sG 50 (iV t38.mID) rfl rfl (fun e22 => (v_load_box1 (id := 13) (off := 0) rfl · · · onT3 (gv e22) rfl (ble _ _ rfl) rfl)) ?_
 refine sG 51 (bV (eqI t38.mID 0)) rfl rfl (fun e23 => (v_bin rfl · · · (gv e23) rfl (b_eql rfl))) ?_
 refine sT 52 (bV (((!eqI t35.mID 0) && (eqI t35.mEpoch t4)) && (eqI t38.mID 0))) rfl (v_pickB rfl · · · rfl (fun e24 => (gv e24)) (fun e25 => rfl) (pA _ _)) ?_
 refine sq_nil ?_
 refine ht_cond rfl (fun e26 => ?_) (fun e26 => ?_)
 ·replace h := cpos e26 h
  refine sr ?_
  refine sT 53 (.d (.agg (eCell t0))) rfl (w_ldp (eCell t0) (eCell t0) rfl · · · ag26 rfl (ble _ _ rfl) rfl) ?_
  refine sq_cons _ (v_store_box (id := 10) (off := 0) (cs := (eCell t0).map V.d) rfl trivial rfl sz26 rfl rfl rfl rfl (ones_of rfl) (ble _ _ rfl)) ?_
  refine sM 11 (bV true) rfl rfl ?_
  refine sq_nil ?_
  refine ht_ret ?_
  cases h
  exact ret2 rfl (.cell rfl rfl ag26 (ble _ _ rfl) rfl) (.tmp rfl)
 replace h := cneg e26 h
 refine ht_skip ?_
 refine ht_seq ?_
 refine sr ?_
 refine sT 54 (.d (.agg (eShard t35))) rfl (w_ldb 12 0 rfl · · · ag45 rfl rfl (ble _ _ rfl) rfl) ?_
 refine sM 55 (iV t3) rfl rfl ?_
 obtain ⟨t56, c27, h⟩ := bpos h
 refine sT 56 (bV t56) rfl (w_call (ds := [(.agg (eShard t35)), (.s (.int .i64 t3))]) (caps := []) (l := [(.s (.bool t56))]) (s107 k t35 t3 _ c27) rfl rfl rfl en107 · · · (.inl ⟨rfl, rfl⟩) rfl rfl) ?_
 refine sT 57 (bV (!t56)) rfl (v_un rfl · · · rfl (u_not rfl)) ?_
 refine sM 58 (bV (!t56)) rfl rfl ?_
 refine sF 59 (.d (.agg (eShard t38))) rfl rfl (fun e28 => (w_ldb 13 0 rfl · · · ag45 rfl rfl (ble _ _ rfl) rfl)) ?_
 refine sF 60 (.ptr 13 1) rfl rfl (fun e29 => (v_field_box (off := 0) (a0 := 1) rfl · · · fo45_1 rfl)) ?_
 refine sF 61 (iV t38.mEpoch) rfl rfl (fun e30 => (v_load_box1 (id := 13) (off := 1) rfl · · · onT3 (gv (nF e30)) rfl (ble _ _ rfl) rfl)) ?_
 obtain ⟨t62, c32, h⟩ := bpos h
 refine sF 62 (bV t62) rfl rfl (fun e31 => (w_call (ds := [(.agg (eShard t38)), (.s (.int .i64 t38.mEpoch))]) (caps := []) (l := [(.s (.bool t62))]) (s107 k t38 t38.mEpoch _ (cpos (nF e31) c32)) rfl rfl rfl en107 · · · (.inl ⟨rfl, rfl⟩) (cc (gv (nF e31)) (cc (gv (nF e31)) rfl)) rfl)) ?_
 refine sF 63 (bV (!t62)) rfl rfl (fun e33 => (v_un rfl · · · (gv (nF e33)) (u_not rfl))) ?_
 refine sT 64 (bV ((!t56) || (!t62))) rfl (v_pickB rfl · · · rfl (fun e34 => rfl) (fun e35 => (gv (nF e35))) (pO _ _)) ?_
 refine sM 65 (bV ((!t56) || (!t62))) rfl rfl ?_
 refine sF 66 (iV t4) rfl rfl (fun e36 => (v_move (.inl rfl) · · · rfl)) ?_
 refine sF 67 (.ptr 12 1) rfl rfl (fun e37 => (v_field_box (off := 0) (a0 := 1) rfl · · · fo45_1 rfl)) ?_
 refine sF 68 (iV t35.mEpoch) rfl rfl (fun e38 => (v_load_box1 (id := 12) (off := 1) rfl · · · onT3 (gv (nF e38)) rfl (ble _ _ rfl) rfl)) ?_
 refine sF 69 (bV (leI t4 t35.mEpoch)) rfl rfl (fun e39 => (v_bin rfl · · · (gv (nF e39)) (gv (nF e39)) (b_leq rfl))) ?_
 refine sT 70 (bV (((!t56) || (!t62)) || (leI t4 t35.mEpoch))) rfl (v_pickB rfl · · · rfl (fun e40 => rfl) (fun e41 => (gv (nF e41))) (pO _ _)) ?_
 refine sM 71 (bV (((!t56) || (!t62)) || (leI t4 t35.mEpoch))) rfl rfl ?_
 refine sF 72 (iV t4) rfl rfl (fun e42 => (v_move (.inl rfl) · · · rfl)) ?_
 refine sF 73 (.ptr 13 1) rfl rfl (fun e43 => (v_field_box (off := 0) (a0 := 1) rfl · · · fo45_1 rfl)) ?_
 refine sF 74 (iV t38.mEpoch) rfl rfl (fun e44 => (v_load_box1 (id := 13) (off := 1) rfl · · · onT3 (gv (nF e44)) rfl (ble _ _ rfl) rfl)) ?_
 refine sF 75 (bV (leI t4 t38.mEpoch)) rfl rfl (fun e45 => (v_bin rfl · · · (gv (nF e45)) (gv (nF e45)) (b_leq rfl))) ?_
 refine sT 76 (bV ((((!t56) || (!t62)) || (leI t4 t35.mEpoch)) || (leI t4 t38.mEpoch))) rfl (v_pickB rfl · · · rfl (fun e46 => rfl) (fun e47 => (gv (nF e47))) (pO _ _)) ?_
 refine sM 77 (bV ((((!t56) || (!t62)) || (leI t4 t35.mEpoch)) || (leI t4 t38.mEpoch))) rfl rfl ?_
 refine sF 78 (.ptr 12 16) rfl rfl (fun e48 => (v_field_box (off := 0) (a0 := 16) rfl · · · fo45_11 rfl)) ?_
 refine sF 79 (iV t35.mClosed) rfl rfl (fun e49 => (v_load_box1 (id := 12) (off := 16) rfl · · · onT3 (gv (nF e49)) rfl (ble _ _ rfl) rfl)) ?_
 refine sF 80 (iV t4) rfl rfl (fun e50 => (v_move (.inl rfl) · · · rfl)) ?_
 refine sF 81 (bV (leI t4 t35.mClosed)) rfl rfl (fun e51 => (v_bin rfl · · · (gv (nF e51)) (gv (nF e51)) (b_geq rfl))) ?_
 refine sT 82 (bV (((((!t56) || (!t62)) || (leI t4 t35.mEpoch)) || (leI t4 t38.mEpoch)) || (leI t4 t35.mClosed))) rfl (v_pickB rfl · · · rfl (fun e52 => rfl) (fun e53 => (gv (nF e53))) (pO _ _)) ?_
 refine sq_nil ?_
 refine ht_cond rfl (fun e54 => ?_) (fun e54 => ?_)
 ·replace h := cpos e54 h
  refine sr ?_
  refine sT 83 (.d (.agg (eCell t0))) rfl (w_ldp (eCell t0) (eCell t0) rfl · · · ag26 rfl (ble _ _ rfl) rfl) ?_
  refine sq_cons _ (v_store_box (id := 10) (off := 0) (cs := (eCell t0).map V.d) rfl trivial rfl sz26 rfl rfl rfl rfl (ones_of rfl) (ble _ _ rfl)) ?_
  refine sM 11 (bV false) rfl rfl ?_
  refine sq_nil ?_
  refine ht_ret ?_
  cases h
  exact ret2 rfl (.cell rfl rfl ag26 (ble _ _ rfl) rfl) (.tmp rfl)
 replace h := cneg e54 h
 refine ht_skip ?_
 refine sr ?_
 refine sT 85 (.ptr 12 2) rfl (v_field_box (off := 0) (a0 := 2) rfl · · · fo45_2 rfl) ?_
 refine sT 86 (.d (.agg (eSpan t35.mSpan))) rfl (w_ldb 12 2 rfl · · · ag41 rfl rfl (ble _ _ rfl) rfl) ?_
 refine sT 87 (.ptr 13 2) rfl (v_field_box (off := 0) (a0 := 2) rfl · · · fo45_2 rfl) ?_
 refine sT 88 (.d (.agg (eSpan t38.mSpan))) rfl (w_ldb 13 2 rfl · · · ag41 rfl rfl (ble _ _ rfl) rfl) ?_
 obtain ⟨⟨t89a, t89b⟩, c55, h⟩ := bpos h
 refine sT 89 (.tup [.d (.agg (eSpan t89a)), iV t89b]) rfl (w_call (ds := [(.agg (eSpan t35.mSpan)), (.agg (eSpan t38.mSpan))]) (caps := []) (l := [(.agg (eSpan t89a)), (.s (.int .i64 t89b))]) (s112 k t35.mSpan t38.mSpan _ c55) rfl rfl rfl en112 · · · (.inl ⟨rfl, rfl⟩) rfl rfl) ?_
 refine sM 84 (.tup [.d (.agg (eSpan t89a)), iV t89b]) rfl rfl ?_
 refine sT 90 (.d (.agg (eSpan t89a))) rfl (v_extract rfl · · · rfl rfl) ?_
 refine sT 91 (iV t89b) rfl (v_extract rfl · · · rfl rfl) ?_
 refine sq_cons _ (v_alloc (id := 14) (cs := zc41) rfl trivial rfl (ble _ _ rfl) zu41 rfl ft41 rfl) ?_
 refine sq_cons _ (v_store_box (id := 14) (off := 0) (cs := (eSpan t89a).map V.d) rfl trivial rfl sz41 rfl rfl rfl rfl (ones_of rfl) (ble _ _ rfl)) ?_
 refine sM 15 (iV t89b) rfl rfl ?_
 refine sq_nil ?_
 refine sr ?_
 refine sT 93 (.ptr 12 5) rfl (v_field_box (off := 0) (a0 := 5) rfl · · · fo45_4 rfl) ?_
 refine sT 94 (.d (.sl 2 (t35.mEntries.map eEntry))) rfl (v_load_box1 (id := 12) (off := 5) rfl · · · onT42 rfl rfl (ble _ _ rfl) rfl) ?_
 refine sT 95 (.ptr 13 5) rfl (v_field_box (off := 0) (a0 := 5) rfl · · · fo45_4 rfl) ?_
 refine sT 96 (.d (.sl 2 (t38.mEntries.map eEntry))) rfl (v_load_box1 (id := 13) (off := 5) rfl · · · onT42 rfl rfl (ble _ _ rfl) rfl) ?_
 obtain ⟨⟨t97a, t97b⟩, c56, h⟩ := bpos h
 refine sT 97 (.tup [.d (.sl 2 (t97a.map eEntry)), iV t97b]) rfl (w_call (ds := [(.sl 2 (t35.mEntries.map eEntry)), (.sl 2 (t38.mEntries.map eEntry))]) (caps := []) (l := [(.sl 2 (t97a.map eEntry)), (.s (.int .i64 t97b))]) (s113 k t35.mEntries t38.mEntries _ c56) rfl rfl rfl en113 · · · (.inl ⟨rfl, rfl⟩) rfl rfl) ?_
 refine sM 92 (.tup [.d (.sl 2 (t97a.map eEntry)), iV t97b]) rfl rfl ?_
 refine sT 98 (.d (.sl 2 (t97a.map eEntry))) rfl (v_extract rfl · · · rfl rfl) ?_
 refine sT 99 (iV t97b) rfl (v_extract rfl · · · rfl rfl) ?_
 refine sM 16 (.d (.sl 2 (t97a.map eEntry))) rfl rfl ?_
 refine sM 17 (iV t97b) rfl rfl ?_
 refine sq_nil ?_
 refine sr ?_
 refine sT 101 (.ptr 12 12) rfl (v_field_box (off := 0) (a0 := 12) rfl · · · fo45_7 rfl) ?_
 refine sT 102 (.d (.sl 11 (t35.mDone.map eDone))) rfl (v_load_box1 (id := 12) (off := 12) rfl · · · onT43 rfl rfl (ble _ _ rfl) rfl) ?_
 refine sT 103 (.ptr 13 12) rfl (v_field_box (off := 0) (a0 := 12) rfl · · · fo45_7 rfl) ?_
 refine sT 104 (.d (.sl 11 (t38.mDone.map eDone))) rfl (v_load_box1 (id := 13) (off := 12) rfl · · · onT43 rfl rfl (ble _ _ rfl) rfl) ?_
 obtain ⟨⟨t105a, t105b⟩, c57, h⟩ := bpos h
 refine sT 105 (.tup [.d (.sl 11 (t105a.map eDone)), iV t105b]) rfl (w_call (ds := [(.sl 11 (t35.mDone.map eDone)), (.sl 11 (t38.mDone.map eDone))]) (caps := []) (l := [(.sl 11 (t105a.map eDone)), (.s (.int .i64 t105b))]) (s114 k t35.mDone t38.mDone _ c57) rfl rfl rfl en114 · · · (.inl ⟨rfl, rfl⟩) rfl rfl) ?_
 refine sM 100 (.tup [.d (.sl 11 (t105a.map eDone)), iV t105b]) rfl rfl ?_
 refine sT 106 (.d (.sl 11 (t105a.map eDone))) rfl (v_extract rfl · · · rfl rfl) ?_
 refine sT 107 (iV t105b) rfl (v_extract rfl · · · rfl rfl) ?_
 refine sM 18 (.d (.sl 11 (t105a.map eDone))) rfl rfl ?_
 refine sM 19 (iV t105b) rfl rfl ?_
 refine sq_nil ?_
 refine ht_seq ?_
 refine sr ?_
 refine sM 108 (iV t89b) rfl rfl ?_
 refine sT 109 (bV (!eqI t89b 0)) rfl (v_bin rfl · · · rfl rfl (b_neq rfl)) ?_
 refine sM 110 (bV (!eqI t89b 0)) rfl rfl ?_
 refine sF 111 (iV t97b) rfl rfl (fun e58 => (v_move (.inl rfl) · · · rfl)) ?_
 refine sF 112 (bV (!eqI t97b 0)) rfl rfl (fun e59 => (v_bin rfl · · · (gv (nF e59)) rfl (b_neq rfl))) ?_
 refine sT 113 (bV ((!eqI t89b 0) || (!eqI t97b 0))) rfl (v_pickB rfl · · · rfl (fun e60 => rfl) (fun e61 => (gv (nF e61))) (pO _ _)) ?_
 refine sM 114 (bV ((!eqI t89b 0) || (!eqI t97b 0))) rfl rfl ?_
 refine sF 115 (iV t105b) rfl rfl (fun e62 => (v_move (.inl rfl) · · · rfl)) ?_
 refine sF 116 (bV (!eqI t105b 0)) rfl rfl (fun e63 => (v_bin rfl · · · (gv (nF e63)) rfl (b_neq rfl))) ?_
 refine sT 117 (bV (((!eqI t89b 0) || (!eqI t97b 0)) || (!eqI t105b 0))) rfl (v_pickB rfl · · · rfl (fun e64 => rfl) (fun e65 => (gv (nF e65))) (pO _ _)) ?_
 refine sq_nil ?_
 refine ht_cond rfl (fun e66 => ?_) (fun e66 => ?_)
 ·replace h := cpos e66 h
  refine sr ?_
  refine sT 118 (.d (.agg (eCell t0))) rfl (w_ldp (eCell t0) (eCell t0) rfl · · · ag26 rfl (ble _ _ rfl) rfl) ?_
  refine sq_cons _ (v_store_box (id := 10) (off := 0) (cs := (eCell t0).map V.d) rfl trivial rfl sz26 rfl rfl rfl rfl (ones_of rfl) (ble _ _ rfl)) ?_
  refine sM 11 (bV false) rfl rfl ?_
  refine sq_nil ?_
  refine ht_ret ?_
  cases h
  exact ret2 rfl (.cell rfl rfl ag26 (ble _ _ rfl) rfl) (.tmp rfl)
 replace h := cneg e66 h
 refine ht_skip ?_
 refine sr ?_
 refine sT 119 (.d (.agg (eSpan t89a))) rfl (w_ldb 14 0 rfl · · · ag41 rfl rfl (ble _ _ rfl) rfl) ?_
 refine sM 120 (.d (.sl 11 (t105a.map eDone))) rfl rfl ?_
 refine sM 121 (iV t4) rfl rfl ?_
 refine sT 122 (.ptr 12 2) rfl (v_field_box (off := 0) (a0 := 2) rfl · · · fo45_2 rfl) ?_
 refine sq_cons _ (v_store_box (id := 12) (off := 2) (cs := (eSpan t89a).map V.d) rfl trivial rfl sz41 rfl rfl rfl rfl (ones_of rfl) (ble _ _ rfl)) ?_
 refine sT 123 (.ptr 12 12) rfl (v_field_box (off := 0) (a0 := 12) rfl · · · fo45_7 rfl) ?_
 refine sq_cons _ (v_store_box (id := 12) (off := 12) (cs := [(.sl 11 (t105a.map eDone))].map V.d) rfl trivial rfl sz43 rfl rfl rfl rfl (ones_of rfl) (ble _ _ rfl)) ?_
 refine sT 124 (.ptr 12 1) rfl (v_field_box (off := 0) (a0 := 1) rfl · · · fo45_1 rfl) ?_
 refine sq_cons _ (v_store_box (id := 12) (off := 1) (cs := [(.s (.int .i64 t4))].map V.d) rfl trivial rfl sz3 rfl rfl rfl rfl (ones_of rfl) (ble _ _ rfl)) ?_
 refine sT 125 (.ptr 12 15) rfl (v_field_box (off := 0) (a0 := 15) rfl · · · fo45_10 rfl) ?_
 refine sq_cons _ (v_store_box (id := 12) (off := 15) (cs := [(.s (.int .i64 0))].map V.d) rfl trivial rfl sz3 rfl rfl rfl rfl (ones_of rfl) (ble _ _ rfl)) ?_
 refine sq_nil ?_
 refine sr ?_
 refine sT 126 (.ptr 12 6) rfl (v_field_box (off := 0) (a0 := 6) rfl · · · fo45_5 rfl) ?_
 refine sT 127 (.d (.agg (eStamp t35.mMark))) rfl (w_ldb 12 6 rfl · · · ag24 rfl rfl (ble _ _ rfl) rfl) ?_
 refine sT 128 (.ptr 13 6) rfl (v_field_box (off := 0) (a0 := 6) rfl · · · fo45_5 rfl) ?_
 refine sT 129 (.d (.agg (eStamp t38.mMark))) rfl (w_ldb 13 6 rfl · · · ag24 rfl rfl (ble _ _ rfl) rfl) ?_
 obtain ⟨t130, c67, h⟩ := bpos h
 refine sT 130 (.d (.agg (eStamp t130))) rfl (w_call (ds := [(.agg (eStamp t35.mMark)), (.agg (eStamp t38.mMark))]) (caps := []) (l := [(.agg (eStamp t130))]) (s37 k t35.mMark t38.mMark _ c67) rfl rfl rfl en37 · · · (.inl ⟨rfl, rfl⟩) rfl rfl) ?_
 refine sT 131 (.ptr 12 6) rfl (v_field_box (off := 0) (a0 := 6) rfl · · · fo45_5 rfl) ?_
 refine sq_cons _ (v_store_box (id := 12) (off := 6) (cs := (eStamp t130).map V.d) rfl trivial rfl sz24 rfl rfl rfl rfl (ones_of rfl) (ble _ _ rfl)) ?_
 refine sq_nil ?_
 refine sr ?_
 refine sM 132 (.d (.sl 2 (t97a.map eEntry))) rfl rfl ?_
 refine sT 133 (.ptr 12 6) rfl (v_field_box (off := 0) (a0 := 6) rfl · · · fo45_5 rfl) ?_
 refine sT 134 (.d (.agg (eStamp t130))) rfl (w_ldb 12 6 rfl · · · ag24 rfl rfl (ble _ _ rfl) rfl) ?_
 obtain ⟨t135, c68, h⟩ := bpos h
 refine sT 135 (.d (.sl 2 (t135.map eEntry))) rfl (w_call (ds := [(.sl 2 (t97a.map eEntry)), (.agg (eStamp t130))]) (caps := []) (l := [(.sl 2 (t135.map eEntry))]) (s99 k t97a t130 _ c68) rfl rfl rfl en99 · · · (.inl ⟨rfl, rfl⟩) rfl rfl) ?_
 refine sT 136 (.ptr 12 5) rfl (v_field_box (off := 0) (a0 := 5) rfl · · · fo45_4 rfl) ?_
 refine sq_cons _ (v_store_box (id := 12) (off := 5) (cs := [(.sl 2 (t135.map eEntry))].map V.d) rfl trivial rfl sz42 rfl rfl rfl rfl (ones_of rfl) (ble _ _ rfl)) ?_
 refine sq_nil ?_
 refine ht_seq ?_
 refine ht_region_draw mixed ?_
 refine rT 137 (.ptr 12 14) rfl (v_field_box (off := 0) (a0 := 14) rfl · · · fo45_9 rfl) ?_
 refine rT 138 (iV t35.mSeen) rfl (v_load_box1 (id := 12) (off := 14) rfl · · · onT3 rfl rfl (ble _ _ rfl) rfl) ?_
 refine rT 139 (.ptr 13 14) rfl (v_field_box (off := 0) (a0 := 14) rfl · · · fo45_9 rfl) ?_
 refine rT 140 (iV t38.mSeen) rfl (v_load_box1 (id := 13) (off := 14) rfl · · · onT3 rfl rfl (ble _ _ rfl) rfl) ?_
 refine rT 141 (iV (maxI t35.mSeen t38.mSeen)) rfl (v_bi2 rfl rfl · · · rfl rfl (r_max und3 rfl)) ?_
 refine rT 142 (.ptr 12 16) rfl (v_field_box (off := 0) (a0 := 16) rfl · · · fo45_11 rfl) ?_
 refine rT 143 (iV t35.mClosed) rfl (v_load_box1 (id := 12) (off := 16) rfl · · · onT3 rfl rfl (ble _ _ rfl) rfl) ?_
 refine rT 144 (.ptr 13 16) rfl (v_field_box (off := 0) (a0 := 16) rfl · · · fo45_11 rfl) ?_
 refine rT 145 (iV t38.mClosed) rfl (v_load_box1 (id := 13) (off := 16) rfl · · · onT3 rfl rfl (ble _ _ rfl) rfl) ?_
 refine rT 146 (iV (maxI t35.mClosed t38.mClosed)) rfl (v_bi2 rfl rfl · · · rfl rfl (r_max und3 rfl)) ?_
 refine rT 147 (.ptr 12 14) rfl (v_field_box (off := 0) (a0 := 14) rfl · · · fo45_9 rfl) ?_
 refine rg_cons _ (v_store_box (id := 12) (off := 14) (cs := [(.s (.int .i64 (maxI t35.mSeen t38.mSeen)))].map V.d) rfl trivial rfl sz3 rfl rfl rfl rfl (ones_of rfl) (ble _ _ rfl)) ?_
 refine rT 148 (.ptr 12 16) rfl (v_field_box (off := 0) (a0 := 16) rfl · · · fo45_11 rfl) ?_
 refine rg_cons _ (v_store_box (id := 12) (off := 16) (cs := [(.s (.int .i64 (maxI t35.mClosed t38.mClosed)))].map V.d) rfl trivial rfl sz3 rfl rfl rfl rfl (ones_of rfl) (ble _ _ rfl)) ?_
 refine rg_nil ⟨by kernel_rfl, ?_⟩
 refine sr ?_
 refine sT 149 (.d (.agg (eCell t0))) rfl (w_ldp (eCell t0) (eCell t0) rfl · · · ag26 rfl (ble _ _ rfl) rfl) ?_
 refine sT 150 (.d (.agg (eShard (⟨t35.mID, t4, t89a, t35.mPhase, t135, t130, t35.mTop, t105a, t35.mHold, (maxI t35.mSeen t38.mSeen), 0, (maxI t35.mClosed t38.mClosed)⟩ : Shard)))) rfl (w_ldb 12 0 rfl · · · ag45 rfl rfl (ble _ _ rfl) rfl) ?_
 obtain ⟨t151, c69, h⟩ := bpos h
 refine sT 151 (.d (.agg (eCell t151))) rfl (w_call (ds := [(.agg (eCell t0)), (.agg (eShard (⟨t35.mID, t4, t89a, t35.mPhase, t135, t130, t35.mTop, t105a, t35.mHold, (maxI t35.mSeen t38.mSeen), 0, (maxI t35.mClosed t38.mClosed)⟩ : Shard)))]) (caps := []) (l := [(.agg (eCell t151))]) (s95 k t0 (⟨t35.mID, t4, t89a, t35.mPhase, t135, t130, t35.mTop, t105a, t35.mHold, (maxI t35.mSeen t38.mSeen), 0, (maxI t35.mClosed t38.mClosed)⟩ : Shard) _ c69) rfl rfl rfl en95 · · · (.inl ⟨rfl, rfl⟩) rfl rfl) ?_
 refine sM 152 (iV t2) rfl rfl ?_
 obtain ⟨t153, c70, h⟩ := bpos h
 refine sT 153 (.d (.agg (eCell t153))) rfl (w_call (ds := [(.agg (eCell t151)), (.s (.int .i64 t2))]) (caps := []) (l := [(.agg (eCell t153))]) (s105 k t151 t2 _ c70) rfl rfl rfl en105 · · · (.inl ⟨rfl, rfl⟩) rfl rfl) ?_
 refine sq_cons _ (v_store_box (id := 10) (off := 0) (cs := (eCell t153).map V.d) rfl trivial rfl sz26 rfl rfl rfl rfl (ones_of rfl) (ble _ _ rfl)) ?_
 refine sM 11 (bV true) rfl rfl ?_
 refine sq_nil ?_
 refine ht_ret ?_
 cases h
 exact ret2 rfl (.cell rfl rfl ag26 (ble _ _ rfl) rfl) (.tmp rfl)
end Go.Proofs.Gd
