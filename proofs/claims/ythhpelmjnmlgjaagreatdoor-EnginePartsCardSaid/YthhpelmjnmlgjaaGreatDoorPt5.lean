/- Lemmas behind GdPtP, part 5: they hold as they stand, without a condition beyond their own. -/
import Derived.Test.YthhpelmjnmlgjaaGreatDoorPt4
import Derived.Test.YthhpelmjnmlgjaaGreatDoorProg
import Derived.KernelRfl
set_option linter.unusedVariables false
set_option maxRecDepth 100000
set_option maxHeartbeats 4000000
namespace Go.Proofs.Gd
open Go Go.Awp Go.Proofs
theorem s19 (k : Nat) (t0 : Answer) (t1 : Answer) (r : Bool) (h : F19 k t0 t1 = some r) : Awp.Spec Tryz.prog amb 19 [(.agg (eAnswer t0)), (.agg (eAnswer t1))] (.ds [(.s (.bool r))]) := by
 rw [F19] at h
 refine spec_of Tryz.func19 rfl (ble _ _ rfl) fun w0 ok0 lt0 hA => ?_
 refine sr ?_
 refine sT 2 (.d (.dp (eAnswer t0))) rfl (v_box_d (cs := (eAnswer t0)) rfl · · · rfl rfl (ones_of rfl)) ?_
 refine sT 3 (.d (.dp (eAnswer t1))) rfl (v_box_d (cs := (eAnswer t1)) rfl · · · rfl rfl (ones_of rfl)) ?_
 refine sM 4 (bV false) rfl rfl ?_
 refine sq_nil ?_
 refine ht_seq ?_
 refine sr ?_
 refine sD 6 (eAnswer t0) fo34_4 rfl rfl rfl ?_
 refine sT 7 (.d (.sl 2 (t0.mItems.map eItem))) rfl (vl rfl onT32 rfl rfl) ?_
 refine sT 8 (iV (t0.mItems.length : Int)) rfl (w_len t0.mItems eItem rfl rfl · · · slT32 rfl) ?_
 refine sD 9 (eAnswer t1) fo34_4 rfl rfl rfl ?_
 refine sT 10 (.d (.sl 2 (t1.mItems.map eItem))) rfl (vl rfl onT32 rfl rfl) ?_
 refine sT 11 (iV (t1.mItems.length : Int)) rfl (w_len t1.mItems eItem rfl rfl · · · slT32 rfl) ?_
 refine sT 12 (bV (!eqI (t0.mItems.length : Int) (t1.mItems.length : Int))) rfl (vb rfl rfl rfl (b_neq rfl)) ?_
 refine sq_nil ?_
 refine ht_cond rfl (fun e1 => ?_) (fun e1 => ?_)
 ·replace h := cpos e1 h
  refine sr ?_
  refine sM 4 (bV false) rfl rfl ?_
  refine sz ?_
  cases h
  exact ret1 rfl (.tmp rfl)
 replace h := cneg e1 h
 refine ht_skip ?_
 refine ht_gj (go_id' h) (fun _ => tell [(.t 2, .d (.dp (eAnswer t0))), (.t 3, .d (.dp (eAnswer t1)))]) (fun _ h => ?_) (fun v2 K3 h j5 r6 => ?_)
 ·refine sr ?_
  refine sD 31 (eAnswer t0) fo34_0 rfl rfl rfl ?_
  refine sT 32 (iV t0.mErr) rfl (vl rfl onT31 rfl rfl) ?_
  refine sD 33 (eAnswer t1) fo34_0 rfl rfl rfl ?_
  refine sT 34 (iV t1.mErr) rfl (vl rfl onT31 rfl rfl) ?_
  refine sT 35 (bV (eqI t0.mErr t1.mErr)) rfl (vb rfl rfl rfl (b_eql rfl)) ?_
  refine sM 36 (bV (eqI t0.mErr t1.mErr)) rfl rfl ?_
  refine sG 37 (.d (.dp (List.drop 1 (eAnswer t0)))) rfl rfl (fun e15 => (vD (eAnswer t0) fo34_1 · · · rfl rfl)) ?_
  refine sG 38 (.d (.agg (eStamp t0.mAt))) rfl rfl (fun e16 => (w_ldp (List.drop 1 (eAnswer t0)) (eStamp t0.mAt) rfl · · · ag24 (gv e16) (ble _ _ rfl) rfl)) ?_
  refine sG 39 (.d (.dp (List.drop 1 (eAnswer t1)))) rfl rfl (fun e17 => (vD (eAnswer t1) fo34_1 · · · rfl rfl)) ?_
  refine sG 40 (.d (.agg (eStamp t1.mAt))) rfl rfl (fun e18 => (w_ldp (List.drop 1 (eAnswer t1)) (eStamp t1.mAt) rfl · · · ag24 (gv e18) (ble _ _ rfl) rfl)) ?_
  refine sG 41 (bV (qStamp t0.mAt t1.mAt)) rfl rfl (fun e19 => (v_bin_eql (f := eStamp) rfl · · · (gv e19) (gv e19) rfl rfl eg24 (eq24 _ _))) ?_
  refine sT 42 (bV ((eqI t0.mErr t1.mErr) && (qStamp t0.mAt t1.mAt))) rfl (vp rfl rfl (fun e20 => (gv e20)) (fun e21 => rfl) (pA _ _)) ?_
  refine sM 43 (bV ((eqI t0.mErr t1.mErr) && (qStamp t0.mAt t1.mAt))) rfl rfl ?_
  refine sG 44 (.d (.dp (List.drop 4 (eAnswer t0)))) rfl rfl (fun e22 => (vD (eAnswer t0) fo34_2 · · · rfl rfl)) ?_
  refine sG 45 (bV t0.mFound) rfl rfl (fun e23 => (vl rfl onT4 (gv e23) rfl)) ?_
  refine sG 46 (.d (.dp (List.drop 4 (eAnswer t1)))) rfl rfl (fun e24 => (vD (eAnswer t1) fo34_2 · · · rfl rfl)) ?_
  refine sG 47 (bV t1.mFound) rfl rfl (fun e25 => (vl rfl onT4 (gv e25) rfl)) ?_
  refine sG 48 (bV (t0.mFound == t1.mFound)) rfl rfl (fun e26 => (vb rfl (gv e26) (gv e26) (b_eqB und4 rfl))) ?_
  refine sT 49 (bV (((eqI t0.mErr t1.mErr) && (qStamp t0.mAt t1.mAt)) && (t0.mFound == t1.mFound))) rfl (vp rfl rfl (fun e27 => (gv e27)) (fun e28 => rfl) (pA _ _)) ?_
  refine sM 50 (bV (((eqI t0.mErr t1.mErr) && (qStamp t0.mAt t1.mAt)) && (t0.mFound == t1.mFound))) rfl rfl ?_
  refine sG 51 (.d (.dp (List.drop 5 (eAnswer t0)))) rfl rfl (fun e29 => (vD (eAnswer t0) fo34_3 · · · rfl rfl)) ?_
  refine sG 52 (sV t0.mValue) rfl rfl (fun e30 => (vl rfl onT9 (gv e30) rfl)) ?_
  refine sG 53 (.d (.dp (List.drop 5 (eAnswer t1)))) rfl rfl (fun e31 => (vD (eAnswer t1) fo34_3 · · · rfl rfl)) ?_
  refine sG 54 (sV t1.mValue) rfl rfl (fun e32 => (vl rfl onT9 (gv e32) rfl)) ?_
  refine sG 55 (bV (strEq t0.mValue t1.mValue)) rfl rfl (fun e33 => (vb rfl (gv e33) (gv e33) (b_eqS rfl))) ?_
  refine sT 56 (bV ((((eqI t0.mErr t1.mErr) && (qStamp t0.mAt t1.mAt)) && (t0.mFound == t1.mFound)) && (strEq t0.mValue t1.mValue))) rfl (vp rfl rfl (fun e34 => (gv e34)) (fun e35 => rfl) (pA _ _)) ?_
  refine sM 57 (bV ((((eqI t0.mErr t1.mErr) && (qStamp t0.mAt t1.mAt)) && (t0.mFound == t1.mFound)) && (strEq t0.mValue t1.mValue))) rfl rfl ?_
  refine sG 58 (.d (.dp (List.drop 7 (eAnswer t0)))) rfl rfl (fun e36 => (vD (eAnswer t0) fo34_5 · · · rfl rfl)) ?_
  refine sG 59 (sV t0.mNext) rfl rfl (fun e37 => (vl rfl onT9 (gv e37) rfl)) ?_
  refine sG 60 (.d (.dp (List.drop 7 (eAnswer t1)))) rfl rfl (fun e38 => (vD (eAnswer t1) fo34_5 · · · rfl rfl)) ?_
  refine sG 61 (sV t1.mNext) rfl rfl (fun e39 => (vl rfl onT9 (gv e39) rfl)) ?_
  refine sG 62 (bV (strEq t0.mNext t1.mNext)) rfl rfl (fun e40 => (vb rfl (gv e40) (gv e40) (b_eqS rfl))) ?_
  refine sT 63 (bV (((((eqI t0.mErr t1.mErr) && (qStamp t0.mAt t1.mAt)) && (t0.mFound == t1.mFound)) && (strEq t0.mValue t1.mValue)) && (strEq t0.mNext t1.mNext))) rfl (vp rfl rfl (fun e41 => (gv e41)) (fun e42 => rfl) (pA _ _)) ?_
  refine sM 64 (bV (((((eqI t0.mErr t1.mErr) && (qStamp t0.mAt t1.mAt)) && (t0.mFound == t1.mFound)) && (strEq t0.mValue t1.mValue)) && (strEq t0.mNext t1.mNext))) rfl rfl ?_
  refine sG 65 (.d (.dp (List.drop 8 (eAnswer t0)))) rfl rfl (fun e43 => (vD (eAnswer t0) fo34_6 · · · rfl rfl)) ?_
  refine sG 66 (bV t0.mMore) rfl rfl (fun e44 => (vl rfl onT4 (gv e44) rfl)) ?_
  refine sG 67 (.d (.dp (List.drop 8 (eAnswer t1)))) rfl rfl (fun e45 => (vD (eAnswer t1) fo34_6 · · · rfl rfl)) ?_
  refine sG 68 (bV t1.mMore) rfl rfl (fun e46 => (vl rfl onT4 (gv e46) rfl)) ?_
  refine sG 69 (bV (t0.mMore == t1.mMore)) rfl rfl (fun e47 => (vb rfl (gv e47) (gv e47) (b_eqB und4 rfl))) ?_
  refine sT 70 (bV ((((((eqI t0.mErr t1.mErr) && (qStamp t0.mAt t1.mAt)) && (t0.mFound == t1.mFound)) && (strEq t0.mValue t1.mValue)) && (strEq t0.mNext t1.mNext)) && (t0.mMore == t1.mMore))) rfl (vp rfl rfl (fun e48 => (gv e48)) (fun e49 => rfl) (pA _ _)) ?_
  refine sM 4 (bV ((((((eqI t0.mErr t1.mErr) && (qStamp t0.mAt t1.mAt)) && (t0.mFound == t1.mFound)) && (strEq t0.mValue t1.mValue)) && (strEq t0.mNext t1.mNext)) && (t0.mMore == t1.mMore))) rfl rfl ?_
  refine sz ?_
  cases h
  exact ret1 rfl (.tmp rfl)
 refine sr ?_
 refine sM 5 (iV 0) rfl rfl ?_
 refine sq_nil ?_
 refine ht_block ?_
 refine ht_rd h (fun _ => rfl) (fun t5 => tell [(.t 2, .d (.dp (eAnswer t0))), (.t 3, .d (.dp (eAnswer t1))), (.t 5, iV t5)]) (wi rfl rfl) fun k t5 h K14 j8 => ?_
 rw [F19_l1] at h
 refine ht_seq ?_
 refine sr ?_
 refine sM 13 (iV t5) rfl rfl ?_
 refine sD 14 (eAnswer t0) fo34_4 rfl rfl rfl ?_
 refine sT 15 (.d (.sl 2 (t0.mItems.map eItem))) rfl (vl rfl onT32 rfl rfl) ?_
 refine sT 16 (iV (t0.mItems.length : Int)) rfl (w_len t0.mItems eItem rfl rfl · · · slT32 rfl) ?_
 refine sT 17 (bV (ltI t5 (t0.mItems.length : Int))) rfl (vb rfl rfl rfl (b_lss rfl)) ?_
 refine sq_nil ?_
 refine ht_cond rfl (fun e10 => ?_) (fun e10 => ?_)
 ·replace h := cpos e10 h
  refine ht_skip ?_
  refine ht_seq ?_
  refine ht_block ?_
  refine ht_seq ?_
  refine ht_region_draw mixed ?_
  refine rD 20 (eAnswer t0) fo34_4 rfl rfl rfl ?_
  refine rT 21 (.d (.sl 2 (t0.mItems.map eItem))) rfl (vl rfl onT32 rfl rfl) ?_
  refine rM 22 (iV t5) rfl rfl ?_
  obtain ⟨e11, h⟩ := gpos h
  refine rT 23 (.d (.dp (eItem (rd t0.mItems t5)))) rfl (w_idx t0.mItems eItem rfl · · · slT32 rfl rfl e11) ?_
  refine rP 24 (eItem (rd t0.mItems t5)) (eItem (rd t0.mItems t5)) ag110 rfl rfl rfl rfl rfl ?_
  refine rD 25 (eAnswer t1) fo34_4 rfl rfl rfl ?_
  refine rT 26 (.d (.sl 2 (t1.mItems.map eItem))) rfl (vl rfl onT32 rfl rfl) ?_
  refine rM 27 (iV t5) rfl rfl ?_
  obtain ⟨e12, h⟩ := gpos h
  refine rT 28 (.d (.dp (eItem (rd t1.mItems t5)))) rfl (w_idx t1.mItems eItem rfl · · · slT32 rfl rfl e12) ?_
  refine rP 29 (eItem (rd t1.mItems t5)) (eItem (rd t1.mItems t5)) ag110 rfl rfl rfl rfl rfl ?_
  refine rT 30 (bV (!(qItem (rd t0.mItems t5) (rd t1.mItems t5)))) rfl (v_bin_neq (f := eItem) rfl · · · rfl rfl rfl rfl eg110 (eq110 _ _)) ?_
  refine rg_nil ⟨by kernel_rfl, ?_⟩
  refine ht_cond rfl (fun e13 => ?_) (fun e13 => ?_)
  ·replace h := cpos e13 h
   refine sr ?_
   refine sM 4 (bV false) rfl rfl ?_
   refine sz ?_
   cases h
   cases r6 _ rfl
   exact ret1 rfl (.tmp rfl)
  replace h := cneg e13 h
  refine ht_skip ?_
  refine ht_region ?_
  refine sM 18 (iV t5) rfl rfl ?_
  refine sT 19 (iV (IntKind.wrap .i64 (t5 + 1))) rfl (vb rfl rfl rfl (b_add rfl)) ?_
  refine sM 5 (iV (IntKind.wrap .i64 (t5 + 1))) rfl rfl ?_
  refine sq_nil ?_
  exact j8 _ _ h (wi rfl rfl)
 replace h := cneg e10 h
 refine ht_exit ?_
 refine tq ?_
 refine tq ?_
 refine bq_hit ?_
 cases h
 exact j5 _ _ rfl (wi rfl rfl)
theorem s41 (k : Nat) (t0 : List Done) (t1 : List Done) (r : Bool) (h : F41 k t0 t1 = some r) : Awp.Spec Tryz.prog amb 41 [(.sl 11 (t0.map eDone)), (.sl 11 (t1.map eDone))] (.ds [(.s (.bool r))]) := by
 rw [F41] at h
 refine spec_of Tryz.func41 rfl (ble _ _ rfl) fun w0 ok0 lt0 hA => ?_
 refine sr ?_
 refine sM 4 (bV false) rfl rfl ?_
 refine sq_nil ?_
 refine ht_seq ?_
 refine sr ?_
 refine sM 6 (.d (.sl 11 (t0.map eDone))) rfl rfl ?_
 refine sT 7 (iV (t0.length : Int)) rfl (w_len t0 eDone rfl rfl · · · slT43 rfl) ?_
 refine sM 8 (.d (.sl 11 (t1.map eDone))) rfl rfl ?_
 refine sT 9 (iV (t1.length : Int)) rfl (w_len t1 eDone rfl rfl · · · slT43 rfl) ?_
 refine sT 10 (bV (!eqI (t0.length : Int) (t1.length : Int))) rfl (vb rfl rfl rfl (b_neq rfl)) ?_
 refine sq_nil ?_
 refine ht_cond rfl (fun e1 => ?_) (fun e1 => ?_)
 ·replace h := cpos e1 h
  refine sr ?_
  refine sM 4 (bV false) rfl rfl ?_
  refine sz ?_
  cases h
  exact ret1 rfl (.tmp rfl)
 replace h := cneg e1 h
 refine ht_skip ?_
 refine ht_gj (go_id' h) (fun _ => tell []) (fun _ h => ?_) (fun v2 K3 h j5 r6 => ?_)
 ·refine sr ?_
  refine sM 4 (bV true) rfl rfl ?_
  refine sz ?_
  cases h
  exact ret1 rfl (.tmp rfl)
 refine sr ?_
 refine sM 5 (iV 0) rfl rfl ?_
 refine sq_nil ?_
 refine ht_block ?_
 refine ht_rd h (fun _ => rfl) (fun t5 => tell [(.t 0, .d (.sl 11 (t0.map eDone))), (.t 1, .d (.sl 11 (t1.map eDone))), (.t 5, iV t5)]) (wi rfl rfl) fun k t5 h K46 j8 => ?_
 rw [F41_l1] at h
 refine ht_seq ?_
 refine sr ?_
 refine sM 11 (iV t5) rfl rfl ?_
 refine sM 12 (.d (.sl 11 (t0.map eDone))) rfl rfl ?_
 refine sT 13 (iV (t0.length : Int)) rfl (w_len t0 eDone rfl rfl · · · slT43 rfl) ?_
 refine sT 14 (bV (ltI t5 (t0.length : Int))) rfl (vb rfl rfl rfl (b_lss rfl)) ?_
 refine sq_nil ?_
 refine ht_cond rfl (fun e10 => ?_) (fun e10 => ?_)
 ·replace h := cpos e10 h
  refine ht_skip ?_
  refine ht_seq ?_
  refine ht_block ?_
  refine ht_seq ?_
  refine ht_region_draw mixed ?_
  refine rM 17 (.d (.sl 11 (t0.map eDone))) rfl rfl ?_
  refine rM 18 (iV t5) rfl rfl ?_
  obtain ⟨e11, h⟩ := gpos h
  refine rT 19 (.d (.dp (eDone (rd t0 t5)))) rfl (w_idx t0 eDone rfl · · · slT43 rfl rfl e11) ?_
  refine rD 20 (eDone (rd t0 t5)) fo100_0 rfl rfl rfl ?_
  refine rT 21 (iV (rd t0 t5).mClient) rfl (vl rfl onT3 rfl rfl) ?_
  refine rM 22 (.d (.sl 11 (t1.map eDone))) rfl rfl ?_
  refine rM 23 (iV t5) rfl rfl ?_
  obtain ⟨e12, h⟩ := gpos h
  refine rT 24 (.d (.dp (eDone (rd t1 t5)))) rfl (w_idx t1 eDone rfl · · · slT43 rfl rfl e12) ?_
  refine rD 25 (eDone (rd t1 t5)) fo100_0 rfl rfl rfl ?_
  refine rT 26 (iV (rd t1 t5).mClient) rfl (vl rfl onT3 rfl rfl) ?_
  refine rT 27 (bV (!eqI (rd t0 t5).mClient (rd t1 t5).mClient)) rfl (vb rfl rfl rfl (b_neq rfl)) ?_
  refine rM 28 (bV (!eqI (rd t0 t5).mClient (rd t1 t5).mClient)) rfl rfl ?_
  refine rF 29 (.d (.sl 11 (t0.map eDone))) rfl rfl (fun e13 => (vm rfl rfl)) ?_
  refine rF 30 (iV t5) rfl rfl (fun e14 => (vm rfl rfl)) ?_
  obtain ⟨e16, h⟩ := gpos h
  refine rF 31 (.d (.dp (eDone (rd t0 t5)))) rfl rfl (fun e15 => (w_idx t0 eDone rfl · · · slT43 (gv (nF e15)) (gv (nF e15)) (orT e16 (nF e15)))) ?_
  refine rF 32 (.d (.dp (List.drop 1 (eDone (rd t0 t5))))) rfl rfl (fun e17 => (vD (eDone (rd t0 t5)) fo100_1 · · · rfl (gv (nF e17)))) ?_
  refine rF 33 (iV (rd t0 t5).mReq) rfl rfl (fun e18 => (vl rfl onT3 (gv (nF e18)) rfl)) ?_
  refine rF 34 (.d (.sl 11 (t1.map eDone))) rfl rfl (fun e19 => (vm rfl rfl)) ?_
  refine rF 35 (iV t5) rfl rfl (fun e20 => (vm rfl rfl)) ?_
  obtain ⟨e22, h⟩ := gpos h
  refine rF 36 (.d (.dp (eDone (rd t1 t5)))) rfl rfl (fun e21 => (w_idx t1 eDone rfl · · · slT43 (gv (nF e21)) (gv (nF e21)) (orT e22 (nF e21)))) ?_
  refine rF 37 (.d (.dp (List.drop 1 (eDone (rd t1 t5))))) rfl rfl (fun e23 => (vD (eDone (rd t1 t5)) fo100_1 · · · rfl (gv (nF e23)))) ?_
  refine rF 38 (iV (rd t1 t5).mReq) rfl rfl (fun e24 => (vl rfl onT3 (gv (nF e24)) rfl)) ?_
  refine rF 39 (bV (!eqI (rd t0 t5).mReq (rd t1 t5).mReq)) rfl rfl (fun e25 => (vb rfl (gv (nF e25)) (gv (nF e25)) (b_neq rfl))) ?_
  refine rT 40 (bV ((!eqI (rd t0 t5).mClient (rd t1 t5).mClient) || (!eqI (rd t0 t5).mReq (rd t1 t5).mReq))) rfl (vp rfl rfl (fun e26 => rfl) (fun e27 => (gv (nF e27))) (pO _ _)) ?_
  refine rM 41 (bV ((!eqI (rd t0 t5).mClient (rd t1 t5).mClient) || (!eqI (rd t0 t5).mReq (rd t1 t5).mReq))) rfl rfl ?_
  refine rF 42 (.d (.sl 11 (t0.map eDone))) rfl rfl (fun e28 => (vm rfl rfl)) ?_
  refine rF 43 (iV t5) rfl rfl (fun e29 => (vm rfl rfl)) ?_
  obtain ⟨e31, h⟩ := gpos h
  refine rF 44 (.d (.dp (eDone (rd t0 t5)))) rfl rfl (fun e30 => (w_idx t0 eDone rfl · · · slT43 (gv (nF e30)) (gv (nF e30)) (orT e31 (nF e30)))) ?_
  refine rF 45 (.d (.dp (List.drop 2 (eDone (rd t0 t5))))) rfl rfl (fun e32 => (vD (eDone (rd t0 t5)) fo100_2 · · · rfl (gv (nF e32)))) ?_
  refine rF 46 (.d (.agg (eAnswer (rd t0 t5).mAnswer))) rfl rfl (fun e33 => (w_ldp (List.drop 2 (eDone (rd t0 t5))) (eAnswer (rd t0 t5).mAnswer) rfl · · · ag34 (gv (nF e33)) (ble _ _ rfl) rfl)) ?_
  refine rF 47 (.d (.sl 11 (t1.map eDone))) rfl rfl (fun e34 => (vm rfl rfl)) ?_
  refine rF 48 (iV t5) rfl rfl (fun e35 => (vm rfl rfl)) ?_
  obtain ⟨e37, h⟩ := gpos h
  refine rF 49 (.d (.dp (eDone (rd t1 t5)))) rfl rfl (fun e36 => (w_idx t1 eDone rfl · · · slT43 (gv (nF e36)) (gv (nF e36)) (orT e37 (nF e36)))) ?_
  refine rF 50 (.d (.dp (List.drop 2 (eDone (rd t1 t5))))) rfl rfl (fun e38 => (vD (eDone (rd t1 t5)) fo100_2 · · · rfl (gv (nF e38)))) ?_
  refine rF 51 (.d (.agg (eAnswer (rd t1 t5).mAnswer))) rfl rfl (fun e39 => (w_ldp (List.drop 2 (eDone (rd t1 t5))) (eAnswer (rd t1 t5).mAnswer) rfl · · · ag34 (gv (nF e39)) (ble _ _ rfl) rfl)) ?_
  obtain ⟨t52, c41, h⟩ := bpos h
  refine rF 52 (bV t52) rfl rfl (fun e40 => (vC (s19 k (rd t0 t5).mAnswer (rd t1 t5).mAnswer _ (cpos (nF e40) c41)) en19 · · · rfl (cc (gv (nF e40)) (cc (gv (nF e40)) rfl)) rfl)) ?_
  refine rF 53 (bV (!t52)) rfl rfl (fun e42 => (vu rfl (gv (nF e42)) (u_not rfl))) ?_
  refine rT 54 (bV (((!eqI (rd t0 t5).mClient (rd t1 t5).mClient) || (!eqI (rd t0 t5).mReq (rd t1 t5).mReq)) || (!t52))) rfl (vp rfl rfl (fun e43 => rfl) (fun e44 => (gv (nF e44))) (pO _ _)) ?_
  refine rg_nil ⟨by kernel_rfl, ?_⟩
  refine ht_cond rfl (fun e45 => ?_) (fun e45 => ?_)
  ·replace h := cpos e45 h
   refine sr ?_
   refine sM 4 (bV false) rfl rfl ?_
   refine sz ?_
   cases h
   cases r6 _ rfl
   exact ret1 rfl (.tmp rfl)
  replace h := cneg e45 h
  refine ht_skip ?_
  refine ht_region ?_
  refine sM 15 (iV t5) rfl rfl ?_
  refine sT 16 (iV (IntKind.wrap .i64 (t5 + 1))) rfl (vb rfl rfl rfl (b_add rfl)) ?_
  refine sM 5 (iV (IntKind.wrap .i64 (t5 + 1))) rfl rfl ?_
  refine sq_nil ?_
  exact j8 _ _ h (wi rfl rfl)
 replace h := cneg e10 h
 refine ht_exit ?_
 refine tq ?_
 refine tq ?_
 refine bq_hit ?_
 cases h
 exact j5 _ _ rfl (wi rfl rfl)
theorem s26 (k : Nat) (t0 : Shard) (t1 : Shard) (r : Bool) (h : F26 k t0 t1 = some r) : Awp.Spec Tryz.prog amb 26 [(.agg (eShard t0)), (.agg (eShard t1))] (.ds [(.s (.bool r))]) := by
 rw [F26] at h
 refine spec_of Tryz.func26 rfl (ble _ _ rfl) fun w0 ok0 lt0 hA => ?_
 refine sr ?_
 refine sT 2 (.d (.dp (eShard t0))) rfl (v_box_d (cs := (eShard t0)) rfl · · · rfl rfl (ones_of rfl)) ?_
 refine sT 3 (.d (.dp (eShard t1))) rfl (v_box_d (cs := (eShard t1)) rfl · · · rfl rfl (ones_of rfl)) ?_
 refine sM 4 (bV false) rfl rfl ?_
 refine sq_nil ?_
 refine sr ?_
 refine sD 5 (eShard t0) fo45_0 rfl rfl rfl ?_
 refine sT 6 (iV t0.mID) rfl (vl rfl onT3 rfl rfl) ?_
 refine sD 7 (eShard t1) fo45_0 rfl rfl rfl ?_
 refine sT 8 (iV t1.mID) rfl (vl rfl onT3 rfl rfl) ?_
 refine sT 9 (bV (eqI t0.mID t1.mID)) rfl (vb rfl rfl rfl (b_eql rfl)) ?_
 refine sM 10 (bV (eqI t0.mID t1.mID)) rfl rfl ?_
 refine sG 11 (.d (.dp (List.drop 1 (eShard t0)))) rfl rfl (fun e1 => (vD (eShard t0) fo45_1 · · · rfl rfl)) ?_
 refine sG 12 (iV t0.mEpoch) rfl rfl (fun e2 => (vl rfl onT3 (gv e2) rfl)) ?_
 refine sG 13 (.d (.dp (List.drop 1 (eShard t1)))) rfl rfl (fun e3 => (vD (eShard t1) fo45_1 · · · rfl rfl)) ?_
 refine sG 14 (iV t1.mEpoch) rfl rfl (fun e4 => (vl rfl onT3 (gv e4) rfl)) ?_
 refine sG 15 (bV (eqI t0.mEpoch t1.mEpoch)) rfl rfl (fun e5 => (vb rfl (gv e5) (gv e5) (b_eql rfl))) ?_
 refine sT 16 (bV ((eqI t0.mID t1.mID) && (eqI t0.mEpoch t1.mEpoch))) rfl (vp rfl rfl (fun e6 => (gv e6)) (fun e7 => rfl) (pA _ _)) ?_
 refine sM 17 (bV ((eqI t0.mID t1.mID) && (eqI t0.mEpoch t1.mEpoch))) rfl rfl ?_
 refine sG 18 (.d (.dp (List.drop 2 (eShard t0)))) rfl rfl (fun e8 => (vD (eShard t0) fo45_2 · · · rfl rfl)) ?_
 refine sG 19 (.d (.agg (eSpan t0.mSpan))) rfl rfl (fun e9 => (w_ldp (List.drop 2 (eShard t0)) (eSpan t0.mSpan) rfl · · · ag41 (gv e9) (ble _ _ rfl) rfl)) ?_
 refine sG 20 (.d (.dp (List.drop 2 (eShard t1)))) rfl rfl (fun e10 => (vD (eShard t1) fo45_2 · · · rfl rfl)) ?_
 refine sG 21 (.d (.agg (eSpan t1.mSpan))) rfl rfl (fun e11 => (w_ldp (List.drop 2 (eShard t1)) (eSpan t1.mSpan) rfl · · · ag41 (gv e11) (ble _ _ rfl) rfl)) ?_
 refine sG 22 (bV (qSpan t0.mSpan t1.mSpan)) rfl rfl (fun e12 => (v_bin_eql (f := eSpan) rfl · · · (gv e12) (gv e12) rfl rfl eg41 (eq41 _ _))) ?_
 refine sT 23 (bV (((eqI t0.mID t1.mID) && (eqI t0.mEpoch t1.mEpoch)) && (qSpan t0.mSpan t1.mSpan))) rfl (vp rfl rfl (fun e13 => (gv e13)) (fun e14 => rfl) (pA _ _)) ?_
 refine sM 24 (bV (((eqI t0.mID t1.mID) && (eqI t0.mEpoch t1.mEpoch)) && (qSpan t0.mSpan t1.mSpan))) rfl rfl ?_
 refine sG 25 (.d (.dp (List.drop 4 (eShard t0)))) rfl rfl (fun e15 => (vD (eShard t0) fo45_3 · · · rfl rfl)) ?_
 refine sG 26 (iV t0.mPhase) rfl rfl (fun e16 => (vl rfl onT3 (gv e16) rfl)) ?_
 refine sG 27 (.d (.dp (List.drop 4 (eShard t1)))) rfl rfl (fun e17 => (vD (eShard t1) fo45_3 · · · rfl rfl)) ?_
 refine sG 28 (iV t1.mPhase) rfl rfl (fun e18 => (vl rfl onT3 (gv e18) rfl)) ?_
 refine sG 29 (bV (eqI t0.mPhase t1.mPhase)) rfl rfl (fun e19 => (vb rfl (gv e19) (gv e19) (b_eql rfl))) ?_
 refine sT 30 (bV ((((eqI t0.mID t1.mID) && (eqI t0.mEpoch t1.mEpoch)) && (qSpan t0.mSpan t1.mSpan)) && (eqI t0.mPhase t1.mPhase))) rfl (vp rfl rfl (fun e20 => (gv e20)) (fun e21 => rfl) (pA _ _)) ?_
 refine sM 31 (bV ((((eqI t0.mID t1.mID) && (eqI t0.mEpoch t1.mEpoch)) && (qSpan t0.mSpan t1.mSpan)) && (eqI t0.mPhase t1.mPhase))) rfl rfl ?_
 refine sG 32 (.d (.dp (List.drop 5 (eShard t0)))) rfl rfl (fun e22 => (vD (eShard t0) fo45_4 · · · rfl rfl)) ?_
 refine sG 33 (.d (.sl 2 (t0.mEntries.map eEntry))) rfl rfl (fun e23 => (vl rfl onT42 (gv e23) rfl)) ?_
 refine sG 34 (.d (.dp (List.drop 5 (eShard t1)))) rfl rfl (fun e24 => (vD (eShard t1) fo45_4 · · · rfl rfl)) ?_
 refine sG 35 (.d (.sl 2 (t1.mEntries.map eEntry))) rfl rfl (fun e25 => (vl rfl onT42 (gv e25) rfl)) ?_
 obtain ⟨t36, c27, h⟩ := bpos h
 refine sG 36 (bV t36) rfl rfl (fun e26 => (vC (s40 k t0.mEntries t1.mEntries _ (cpos e26 c27)) en40 · · · rfl (cc (gv e26) (cc (gv e26) rfl)) rfl)) ?_
 refine sT 37 (bV (((((eqI t0.mID t1.mID) && (eqI t0.mEpoch t1.mEpoch)) && (qSpan t0.mSpan t1.mSpan)) && (eqI t0.mPhase t1.mPhase)) && t36)) rfl (vp rfl rfl (fun e28 => (gv e28)) (fun e29 => rfl) (pA _ _)) ?_
 refine sM 38 (bV (((((eqI t0.mID t1.mID) && (eqI t0.mEpoch t1.mEpoch)) && (qSpan t0.mSpan t1.mSpan)) && (eqI t0.mPhase t1.mPhase)) && t36)) rfl rfl ?_
 refine sG 39 (.d (.dp (List.drop 6 (eShard t0)))) rfl rfl (fun e30 => (vD (eShard t0) fo45_5 · · · rfl rfl)) ?_
 refine sG 40 (.d (.agg (eStamp t0.mMark))) rfl rfl (fun e31 => (w_ldp (List.drop 6 (eShard t0)) (eStamp t0.mMark) rfl · · · ag24 (gv e31) (ble _ _ rfl) rfl)) ?_
 refine sG 41 (.d (.dp (List.drop 6 (eShard t1)))) rfl rfl (fun e32 => (vD (eShard t1) fo45_5 · · · rfl rfl)) ?_
 refine sG 42 (.d (.agg (eStamp t1.mMark))) rfl rfl (fun e33 => (w_ldp (List.drop 6 (eShard t1)) (eStamp t1.mMark) rfl · · · ag24 (gv e33) (ble _ _ rfl) rfl)) ?_
 refine sG 43 (bV (qStamp t0.mMark t1.mMark)) rfl rfl (fun e34 => (v_bin_eql (f := eStamp) rfl · · · (gv e34) (gv e34) rfl rfl eg24 (eq24 _ _))) ?_
 refine sT 44 (bV ((((((eqI t0.mID t1.mID) && (eqI t0.mEpoch t1.mEpoch)) && (qSpan t0.mSpan t1.mSpan)) && (eqI t0.mPhase t1.mPhase)) && t36) && (qStamp t0.mMark t1.mMark))) rfl (vp rfl rfl (fun e35 => (gv e35)) (fun e36 => rfl) (pA _ _)) ?_
 refine sM 45 (bV ((((((eqI t0.mID t1.mID) && (eqI t0.mEpoch t1.mEpoch)) && (qSpan t0.mSpan t1.mSpan)) && (eqI t0.mPhase t1.mPhase)) && t36) && (qStamp t0.mMark t1.mMark))) rfl rfl ?_
 refine sG 46 (.d (.dp (List.drop 9 (eShard t0)))) rfl rfl (fun e37 => (vD (eShard t0) fo45_6 · · · rfl rfl)) ?_
 refine sG 47 (.d (.agg (eStamp t0.mTop))) rfl rfl (fun e38 => (w_ldp (List.drop 9 (eShard t0)) (eStamp t0.mTop) rfl · · · ag24 (gv e38) (ble _ _ rfl) rfl)) ?_
 refine sG 48 (.d (.dp (List.drop 9 (eShard t1)))) rfl rfl (fun e39 => (vD (eShard t1) fo45_6 · · · rfl rfl)) ?_
 refine sG 49 (.d (.agg (eStamp t1.mTop))) rfl rfl (fun e40 => (w_ldp (List.drop 9 (eShard t1)) (eStamp t1.mTop) rfl · · · ag24 (gv e40) (ble _ _ rfl) rfl)) ?_
 refine sG 50 (bV (qStamp t0.mTop t1.mTop)) rfl rfl (fun e41 => (v_bin_eql (f := eStamp) rfl · · · (gv e41) (gv e41) rfl rfl eg24 (eq24 _ _))) ?_
 refine sT 51 (bV (((((((eqI t0.mID t1.mID) && (eqI t0.mEpoch t1.mEpoch)) && (qSpan t0.mSpan t1.mSpan)) && (eqI t0.mPhase t1.mPhase)) && t36) && (qStamp t0.mMark t1.mMark)) && (qStamp t0.mTop t1.mTop))) rfl (vp rfl rfl (fun e42 => (gv e42)) (fun e43 => rfl) (pA _ _)) ?_
 refine sM 52 (bV (((((((eqI t0.mID t1.mID) && (eqI t0.mEpoch t1.mEpoch)) && (qSpan t0.mSpan t1.mSpan)) && (eqI t0.mPhase t1.mPhase)) && t36) && (qStamp t0.mMark t1.mMark)) && (qStamp t0.mTop t1.mTop))) rfl rfl ?_
 refine sG 53 (.d (.dp (List.drop 12 (eShard t0)))) rfl rfl (fun e44 => (vD (eShard t0) fo45_7 · · · rfl rfl)) ?_
 refine sG 54 (.d (.sl 11 (t0.mDone.map eDone))) rfl rfl (fun e45 => (vl rfl onT43 (gv e45) rfl)) ?_
 refine sG 55 (.d (.dp (List.drop 12 (eShard t1)))) rfl rfl (fun e46 => (vD (eShard t1) fo45_7 · · · rfl rfl)) ?_
 refine sG 56 (.d (.sl 11 (t1.mDone.map eDone))) rfl rfl (fun e47 => (vl rfl onT43 (gv e47) rfl)) ?_
 obtain ⟨t57, c49, h⟩ := bpos h
 refine sG 57 (bV t57) rfl rfl (fun e48 => (vC (s41 k t0.mDone t1.mDone _ (cpos e48 c49)) en41 · · · rfl (cc (gv e48) (cc (gv e48) rfl)) rfl)) ?_
 refine sT 58 (bV ((((((((eqI t0.mID t1.mID) && (eqI t0.mEpoch t1.mEpoch)) && (qSpan t0.mSpan t1.mSpan)) && (eqI t0.mPhase t1.mPhase)) && t36) && (qStamp t0.mMark t1.mMark)) && (qStamp t0.mTop t1.mTop)) && t57)) rfl (vp rfl rfl (fun e50 => (gv e50)) (fun e51 => rfl) (pA _ _)) ?_
 refine sM 59 (bV ((((((((eqI t0.mID t1.mID) && (eqI t0.mEpoch t1.mEpoch)) && (qSpan t0.mSpan t1.mSpan)) && (eqI t0.mPhase t1.mPhase)) && t36) && (qStamp t0.mMark t1.mMark)) && (qStamp t0.mTop t1.mTop)) && t57)) rfl rfl ?_
 refine sG 60 (.d (.dp (List.drop 13 (eShard t0)))) rfl rfl (fun e52 => (vD (eShard t0) fo45_8 · · · rfl rfl)) ?_
 refine sG 61 (iV t0.mHold) rfl rfl (fun e53 => (vl rfl onT3 (gv e53) rfl)) ?_
 refine sG 62 (.d (.dp (List.drop 13 (eShard t1)))) rfl rfl (fun e54 => (vD (eShard t1) fo45_8 · · · rfl rfl)) ?_
 refine sG 63 (iV t1.mHold) rfl rfl (fun e55 => (vl rfl onT3 (gv e55) rfl)) ?_
 refine sG 64 (bV (eqI t0.mHold t1.mHold)) rfl rfl (fun e56 => (vb rfl (gv e56) (gv e56) (b_eql rfl))) ?_
 refine sT 65 (bV (((((((((eqI t0.mID t1.mID) && (eqI t0.mEpoch t1.mEpoch)) && (qSpan t0.mSpan t1.mSpan)) && (eqI t0.mPhase t1.mPhase)) && t36) && (qStamp t0.mMark t1.mMark)) && (qStamp t0.mTop t1.mTop)) && t57) && (eqI t0.mHold t1.mHold))) rfl (vp rfl rfl (fun e57 => (gv e57)) (fun e58 => rfl) (pA _ _)) ?_
 refine sM 66 (bV (((((((((eqI t0.mID t1.mID) && (eqI t0.mEpoch t1.mEpoch)) && (qSpan t0.mSpan t1.mSpan)) && (eqI t0.mPhase t1.mPhase)) && t36) && (qStamp t0.mMark t1.mMark)) && (qStamp t0.mTop t1.mTop)) && t57) && (eqI t0.mHold t1.mHold))) rfl rfl ?_
 refine sG 67 (.d (.dp (List.drop 14 (eShard t0)))) rfl rfl (fun e59 => (vD (eShard t0) fo45_9 · · · rfl rfl)) ?_
 refine sG 68 (iV t0.mSeen) rfl rfl (fun e60 => (vl rfl onT3 (gv e60) rfl)) ?_
 refine sG 69 (.d (.dp (List.drop 14 (eShard t1)))) rfl rfl (fun e61 => (vD (eShard t1) fo45_9 · · · rfl rfl)) ?_
 refine sG 70 (iV t1.mSeen) rfl rfl (fun e62 => (vl rfl onT3 (gv e62) rfl)) ?_
 refine sG 71 (bV (eqI t0.mSeen t1.mSeen)) rfl rfl (fun e63 => (vb rfl (gv e63) (gv e63) (b_eql rfl))) ?_
 refine sT 72 (bV ((((((((((eqI t0.mID t1.mID) && (eqI t0.mEpoch t1.mEpoch)) && (qSpan t0.mSpan t1.mSpan)) && (eqI t0.mPhase t1.mPhase)) && t36) && (qStamp t0.mMark t1.mMark)) && (qStamp t0.mTop t1.mTop)) && t57) && (eqI t0.mHold t1.mHold)) && (eqI t0.mSeen t1.mSeen))) rfl (vp rfl rfl (fun e64 => (gv e64)) (fun e65 => rfl) (pA _ _)) ?_
 refine sM 73 (bV ((((((((((eqI t0.mID t1.mID) && (eqI t0.mEpoch t1.mEpoch)) && (qSpan t0.mSpan t1.mSpan)) && (eqI t0.mPhase t1.mPhase)) && t36) && (qStamp t0.mMark t1.mMark)) && (qStamp t0.mTop t1.mTop)) && t57) && (eqI t0.mHold t1.mHold)) && (eqI t0.mSeen t1.mSeen))) rfl rfl ?_
 refine sG 74 (.d (.dp (List.drop 15 (eShard t0)))) rfl rfl (fun e66 => (vD (eShard t0) fo45_10 · · · rfl rfl)) ?_
 refine sG 75 (iV t0.mMove) rfl rfl (fun e67 => (vl rfl onT3 (gv e67) rfl)) ?_
 refine sG 76 (.d (.dp (List.drop 15 (eShard t1)))) rfl rfl (fun e68 => (vD (eShard t1) fo45_10 · · · rfl rfl)) ?_
 refine sG 77 (iV t1.mMove) rfl rfl (fun e69 => (vl rfl onT3 (gv e69) rfl)) ?_
 refine sG 78 (bV (eqI t0.mMove t1.mMove)) rfl rfl (fun e70 => (vb rfl (gv e70) (gv e70) (b_eql rfl))) ?_
 refine sT 79 (bV (((((((((((eqI t0.mID t1.mID) && (eqI t0.mEpoch t1.mEpoch)) && (qSpan t0.mSpan t1.mSpan)) && (eqI t0.mPhase t1.mPhase)) && t36) && (qStamp t0.mMark t1.mMark)) && (qStamp t0.mTop t1.mTop)) && t57) && (eqI t0.mHold t1.mHold)) && (eqI t0.mSeen t1.mSeen)) && (eqI t0.mMove t1.mMove))) rfl (vp rfl rfl (fun e71 => (gv e71)) (fun e72 => rfl) (pA _ _)) ?_
 refine sM 80 (bV (((((((((((eqI t0.mID t1.mID) && (eqI t0.mEpoch t1.mEpoch)) && (qSpan t0.mSpan t1.mSpan)) && (eqI t0.mPhase t1.mPhase)) && t36) && (qStamp t0.mMark t1.mMark)) && (qStamp t0.mTop t1.mTop)) && t57) && (eqI t0.mHold t1.mHold)) && (eqI t0.mSeen t1.mSeen)) && (eqI t0.mMove t1.mMove))) rfl rfl ?_
 refine sG 81 (.d (.dp (List.drop 16 (eShard t0)))) rfl rfl (fun e73 => (vD (eShard t0) fo45_11 · · · rfl rfl)) ?_
 refine sG 82 (iV t0.mClosed) rfl rfl (fun e74 => (vl rfl onT3 (gv e74) rfl)) ?_
 refine sG 83 (.d (.dp (List.drop 16 (eShard t1)))) rfl rfl (fun e75 => (vD (eShard t1) fo45_11 · · · rfl rfl)) ?_
 refine sG 84 (iV t1.mClosed) rfl rfl (fun e76 => (vl rfl onT3 (gv e76) rfl)) ?_
 refine sG 85 (bV (eqI t0.mClosed t1.mClosed)) rfl rfl (fun e77 => (vb rfl (gv e77) (gv e77) (b_eql rfl))) ?_
 refine sT 86 (bV ((((((((((((eqI t0.mID t1.mID) && (eqI t0.mEpoch t1.mEpoch)) && (qSpan t0.mSpan t1.mSpan)) && (eqI t0.mPhase t1.mPhase)) && t36) && (qStamp t0.mMark t1.mMark)) && (qStamp t0.mTop t1.mTop)) && t57) && (eqI t0.mHold t1.mHold)) && (eqI t0.mSeen t1.mSeen)) && (eqI t0.mMove t1.mMove)) && (eqI t0.mClosed t1.mClosed))) rfl (vp rfl rfl (fun e78 => (gv e78)) (fun e79 => rfl) (pA _ _)) ?_
 refine sM 4 (bV ((((((((((((eqI t0.mID t1.mID) && (eqI t0.mEpoch t1.mEpoch)) && (qSpan t0.mSpan t1.mSpan)) && (eqI t0.mPhase t1.mPhase)) && t36) && (qStamp t0.mMark t1.mMark)) && (qStamp t0.mTop t1.mTop)) && t57) && (eqI t0.mHold t1.mHold)) && (eqI t0.mSeen t1.mSeen)) && (eqI t0.mMove t1.mMove)) && (eqI t0.mClosed t1.mClosed))) rfl rfl ?_
 refine sz ?_
 cases h
 exact ret1 rfl (.tmp rfl)
theorem s18 (k : Nat) (t0 : Cell) (t1 : Cell) (r : Bool) (h : F18 k t0 t1 = some r) : Awp.Spec Tryz.prog amb 18 [(.agg (eCell t0)), (.agg (eCell t1))] (.ds [(.s (.bool r))]) := by
 rw [F18] at h
 refine spec_of Tryz.func18 rfl (ble _ _ rfl) fun w0 ok0 lt0 hA => ?_
 refine sr ?_
 refine sT 2 (.d (.dp (eCell t0))) rfl (v_box_d (cs := (eCell t0)) rfl · · · rfl rfl (ones_of rfl)) ?_
 refine sT 3 (.d (.dp (eCell t1))) rfl (v_box_d (cs := (eCell t1)) rfl · · · rfl rfl (ones_of rfl)) ?_
 refine sM 4 (bV false) rfl rfl ?_
 refine sq_nil ?_
 refine ht_seq ?_
 refine sr ?_
 refine sD 6 (eCell t0) fo26_0 rfl rfl rfl ?_
 refine sT 7 (.d (.sl 17 (t0.mShards.map eShard))) rfl (vl rfl onT22 rfl rfl) ?_
 refine sT 8 (iV (t0.mShards.length : Int)) rfl (w_len t0.mShards eShard rfl rfl · · · slT22 rfl) ?_
 refine sD 9 (eCell t1) fo26_0 rfl rfl rfl ?_
 refine sT 10 (.d (.sl 17 (t1.mShards.map eShard))) rfl (vl rfl onT22 rfl rfl) ?_
 refine sT 11 (iV (t1.mShards.length : Int)) rfl (w_len t1.mShards eShard rfl rfl · · · slT22 rfl) ?_
 refine sT 12 (bV (!eqI (t0.mShards.length : Int) (t1.mShards.length : Int))) rfl (vb rfl rfl rfl (b_neq rfl)) ?_
 refine sM 13 (bV (!eqI (t0.mShards.length : Int) (t1.mShards.length : Int))) rfl rfl ?_
 refine sF 14 (.d (.dp (List.drop 1 (eCell t0)))) rfl rfl (fun e1 => (vD (eCell t0) fo26_1 · · · rfl rfl)) ?_
 refine sF 15 (.d (.agg (eStamp t0.mTop))) rfl rfl (fun e2 => (w_ldp (List.drop 1 (eCell t0)) (eStamp t0.mTop) rfl · · · ag24 (gv (nF e2)) (ble _ _ rfl) rfl)) ?_
 refine sF 16 (.d (.dp (List.drop 1 (eCell t1)))) rfl rfl (fun e3 => (vD (eCell t1) fo26_1 · · · rfl rfl)) ?_
 refine sF 17 (.d (.agg (eStamp t1.mTop))) rfl rfl (fun e4 => (w_ldp (List.drop 1 (eCell t1)) (eStamp t1.mTop) rfl · · · ag24 (gv (nF e4)) (ble _ _ rfl) rfl)) ?_
 refine sF 18 (bV (!(qStamp t0.mTop t1.mTop))) rfl rfl (fun e5 => (v_bin_neq (f := eStamp) rfl · · · (gv (nF e5)) (gv (nF e5)) rfl rfl eg24 (eq24 _ _))) ?_
 refine sT 19 (bV ((!eqI (t0.mShards.length : Int) (t1.mShards.length : Int)) || (!(qStamp t0.mTop t1.mTop)))) rfl (vp rfl rfl (fun e6 => rfl) (fun e7 => (gv (nF e7))) (pO _ _)) ?_
 refine sM 20 (bV ((!eqI (t0.mShards.length : Int) (t1.mShards.length : Int)) || (!(qStamp t0.mTop t1.mTop)))) rfl rfl ?_
 refine sF 21 (.d (.dp (List.drop 4 (eCell t0)))) rfl rfl (fun e8 => (vD (eCell t0) fo26_2 · · · rfl rfl)) ?_
 refine sF 22 (iV t0.mDropped) rfl rfl (fun e9 => (vl rfl onT3 (gv (nF e9)) rfl)) ?_
 refine sF 23 (.d (.dp (List.drop 4 (eCell t1)))) rfl rfl (fun e10 => (vD (eCell t1) fo26_2 · · · rfl rfl)) ?_
 refine sF 24 (iV t1.mDropped) rfl rfl (fun e11 => (vl rfl onT3 (gv (nF e11)) rfl)) ?_
 refine sF 25 (bV (!eqI t0.mDropped t1.mDropped)) rfl rfl (fun e12 => (vb rfl (gv (nF e12)) (gv (nF e12)) (b_neq rfl))) ?_
 refine sT 26 (bV (((!eqI (t0.mShards.length : Int) (t1.mShards.length : Int)) || (!(qStamp t0.mTop t1.mTop))) || (!eqI t0.mDropped t1.mDropped))) rfl (vp rfl rfl (fun e13 => rfl) (fun e14 => (gv (nF e14))) (pO _ _)) ?_
 refine sq_nil ?_
 refine ht_cond rfl (fun e15 => ?_) (fun e15 => ?_)
 ·replace h := cpos e15 h
  refine sr ?_
  refine sM 4 (bV false) rfl rfl ?_
  refine sz ?_
  cases h
  exact ret1 rfl (.tmp rfl)
 replace h := cneg e15 h
 refine ht_skip ?_
 refine ht_gj (go_id' h) (fun _ => tell []) (fun _ h => ?_) (fun v16 K17 h j19 r20 => ?_)
 ·refine sr ?_
  refine sM 4 (bV true) rfl rfl ?_
  refine sz ?_
  cases h
  exact ret1 rfl (.tmp rfl)
 refine sr ?_
 refine sM 5 (iV 0) rfl rfl ?_
 refine sq_nil ?_
 refine ht_block ?_
 refine ht_rd h (fun _ => rfl) (fun t5 => tell [(.t 2, .d (.dp (eCell t0))), (.t 3, .d (.dp (eCell t1))), (.t 5, iV t5)]) (wi rfl rfl) fun k t5 h K29 j22 => ?_
 rw [F18_l1] at h
 refine ht_seq ?_
 refine sr ?_
 refine sM 27 (iV t5) rfl rfl ?_
 refine sD 28 (eCell t0) fo26_0 rfl rfl rfl ?_
 refine sT 29 (.d (.sl 17 (t0.mShards.map eShard))) rfl (vl rfl onT22 rfl rfl) ?_
 refine sT 30 (iV (t0.mShards.length : Int)) rfl (w_len t0.mShards eShard rfl rfl · · · slT22 rfl) ?_
 refine sT 31 (bV (ltI t5 (t0.mShards.length : Int))) rfl (vb rfl rfl rfl (b_lss rfl)) ?_
 refine sq_nil ?_
 refine ht_cond rfl (fun e24 => ?_) (fun e24 => ?_)
 ·replace h := cpos e24 h
  refine ht_skip ?_
  refine ht_seq ?_
  refine ht_block ?_
  refine ht_seq ?_
  refine ht_region_draw mixed ?_
  refine rD 34 (eCell t0) fo26_0 rfl rfl rfl ?_
  refine rT 35 (.d (.sl 17 (t0.mShards.map eShard))) rfl (vl rfl onT22 rfl rfl) ?_
  refine rM 36 (iV t5) rfl rfl ?_
  obtain ⟨e25, h⟩ := gpos h
  refine rT 37 (.d (.dp (eShard (rd t0.mShards t5)))) rfl (w_idx t0.mShards eShard rfl · · · slT22 rfl rfl e25) ?_
  refine rP 38 (eShard (rd t0.mShards t5)) (eShard (rd t0.mShards t5)) ag45 rfl rfl rfl rfl rfl ?_
  refine rD 39 (eCell t1) fo26_0 rfl rfl rfl ?_
  refine rT 40 (.d (.sl 17 (t1.mShards.map eShard))) rfl (vl rfl onT22 rfl rfl) ?_
  refine rM 41 (iV t5) rfl rfl ?_
  obtain ⟨e26, h⟩ := gpos h
  refine rT 42 (.d (.dp (eShard (rd t1.mShards t5)))) rfl (w_idx t1.mShards eShard rfl · · · slT22 rfl rfl e26) ?_
  refine rP 43 (eShard (rd t1.mShards t5)) (eShard (rd t1.mShards t5)) ag45 rfl rfl rfl rfl rfl ?_
  obtain ⟨t44, c27, h⟩ := bpos h
  refine rC 44 (bV t44) (s26 k (rd t0.mShards t5) (rd t1.mShards t5) _ c27) en26 rfl rfl rfl rfl ?_
  refine rT 45 (bV (!t44)) rfl (vu rfl rfl (u_not rfl)) ?_
  refine rg_nil ⟨by kernel_rfl, ?_⟩
  refine ht_cond rfl (fun e28 => ?_) (fun e28 => ?_)
  ·replace h := cpos e28 h
   refine sr ?_
   refine sM 4 (bV false) rfl rfl ?_
   refine sz ?_
   cases h
   cases r20 _ rfl
   exact ret1 rfl (.tmp rfl)
  replace h := cneg e28 h
  refine ht_skip ?_
  refine ht_region ?_
  refine sM 32 (iV t5) rfl rfl ?_
  refine sT 33 (iV (IntKind.wrap .i64 (t5 + 1))) rfl (vb rfl rfl rfl (b_add rfl)) ?_
  refine sM 5 (iV (IntKind.wrap .i64 (t5 + 1))) rfl rfl ?_
  refine sq_nil ?_
  exact j22 _ _ h (wi rfl rfl)
 replace h := cneg e24 h
 refine ht_exit ?_
 refine tq ?_
 refine tq ?_
 refine bq_hit ?_
 cases h
 exact j19 _ _ rfl (wi rfl rfl)
theorem s144 (k : Nat) (t0 : List Version) (t1 : Stamp) (r : (List Version)) (h : F144 k t0 t1 = some r) : Awp.Spec Tryz.prog amb 144 [(.sl 5 (t0.map eVersion)), (.agg (eStamp t1))] (.ds [(.sl 5 (r.map eVersion))]) := by
 rw [F144] at h
 refine spec_of Tryz.func144 rfl (ble _ _ rfl) fun w0 ok0 lt0 hA => ?_
 refine sr ?_
 refine sT 3 (.d (.dp (eStamp t1))) rfl (v_box_d (cs := (eStamp t1)) rfl · · · rfl rfl (ones_of rfl)) ?_
 refine sM 4 (.d (.s (.slice none 0 0))) rfl rfl ?_
 refine sq_nil ?_
 refine ht_seq ?_
 refine sr ?_
 refine sM 6 (.d (.sl 5 (t0.map eVersion))) rfl rfl ?_
 obtain ⟨t7, c1, h⟩ := bpos h
 refine sC 7 (bV t7) (s136 k t0 _ c1) en136 rfl rfl rfl rfl ?_
 refine sT 8 (bV (!t7)) rfl (vu rfl rfl (u_not rfl)) ?_
 refine sq_nil ?_
 refine ht_cond rfl (fun e2 => ?_) (fun e2 => ?_)
 ·replace h := cpos e2 h
  refine sr ?_
  refine sM 4 (.d (.s (.slice none 0 0))) rfl rfl ?_
  refine sz ?_
  cases h
  exact retM_wk (wk_nil (.t 4) (nb 4) 5 rfl) (ret1 rfl (.tmp rfl))
 replace h := cneg e2 h
 refine ht_skip ?_
 refine sr ?_
 refine sM 9 (.d (.sl 5 (t0.map eVersion))) rfl rfl ?_
 refine sP 10 (eStamp t1) (eStamp t1) ag24 rfl rfl rfl rfl rfl ?_
 obtain ⟨t11, c3, h⟩ := bpos h
 refine sC 11 (iV t11) (s169 k t0 t1 _ c3) en169 rfl rfl rfl rfl ?_
 refine sM 5 (iV t11) rfl rfl ?_
 refine sq_nil ?_
 refine ht_seq ?_
 refine sr ?_
 refine sM 12 (iV t11) rfl rfl ?_
 refine sT 13 (bV (ltI 0 t11)) rfl (vb rfl rfl rfl (b_gtr rfl)) ?_
 refine sM 14 (bV (ltI 0 t11)) rfl rfl ?_
 refine sG 15 (.d (.sl 5 (t0.map eVersion))) rfl rfl (fun e4 => (vm rfl rfl)) ?_
 refine sG 16 (iV t11) rfl rfl (fun e5 => (vm rfl rfl)) ?_
 refine sG 17 (iV (IntKind.wrap .i64 (t11 - 1))) rfl rfl (fun e6 => (vb rfl (gv e6) rfl (b_sub rfl))) ?_
 obtain ⟨e8, h⟩ := gpos h
 refine sG 18 (.d (.dp (eVersion (rd t0 (IntKind.wrap .i64 (t11 - 1)))))) rfl rfl (fun e7 => (w_idx t0 eVersion rfl · · · slT96 (gv e7) (gv e7) (orT e8 e7))) ?_
 refine sG 19 (.d (.dp (List.drop 3 (eVersion (rd t0 (IntKind.wrap .i64 (t11 - 1))))))) rfl rfl (fun e9 => (vD (eVersion (rd t0 (IntKind.wrap .i64 (t11 - 1)))) fo93_1 · · · rfl (gv e9))) ?_
 refine sG 20 (bV (rd t0 (IntKind.wrap .i64 (t11 - 1))).mGone) rfl rfl (fun e10 => (vl rfl onT4 (gv e10) rfl)) ?_
 refine sG 21 (bV (!(rd t0 (IntKind.wrap .i64 (t11 - 1))).mGone)) rfl rfl (fun e11 => (vu rfl (gv e11) (u_not rfl))) ?_
 refine sT 22 (bV ((ltI 0 t11) && (!(rd t0 (IntKind.wrap .i64 (t11 - 1))).mGone))) rfl (vp rfl rfl (fun e12 => (gv e12)) (fun e13 => rfl) (pA _ _)) ?_
 refine sq_nil ?_
 refine ht_cond rfl (fun e14 => ?_) (fun e14 => ?_)
 ·replace h := cpos e14 h
  refine ht_region ?_
  refine sM 23 (iV t11) rfl rfl ?_
  refine sT 24 (iV (IntKind.wrap .i64 (t11 - 1))) rfl (vb rfl rfl rfl (b_sub rfl)) ?_
  refine sM 5 (iV (IntKind.wrap .i64 (t11 - 1))) rfl rfl ?_
  refine sq_nil ?_
  refine sr ?_
  refine sM 25 (.d (.sl 5 (t0.map eVersion))) rfl rfl ?_
  refine sM 26 (iV (IntKind.wrap .i64 (t11 - 1))) rfl rfl ?_
  obtain ⟨e15, h⟩ := gpos h
  refine sT 27 (.d (.sl 5 ((List.drop (IntKind.wrap .i64 (t11 - 1)).toNat t0).map eVersion))) rfl (w_cutl t0 eVersion rfl · · · slT96 rfl rfl e15) ?_
  obtain ⟨t28, c16, h⟩ := bpos h
  refine sC 28 (.d (.sl 5 (t28.map eVersion))) (s170 k (List.drop (IntKind.wrap .i64 (t11 - 1)).toNat t0) _ c16) en170 rfl rfl rfl rfl ?_
  refine sM 4 (.d (.sl 5 (t28.map eVersion))) rfl rfl ?_
  refine sz ?_
  cases h
  exact ret1 rfl (.tmp rfl)
 replace h := cneg e14 h
 refine ht_skip ?_
 refine sr ?_
 refine sM 25 (.d (.sl 5 (t0.map eVersion))) rfl rfl ?_
 refine sM 26 (iV t11) rfl rfl ?_
 obtain ⟨e17, h⟩ := gpos h
 refine sT 27 (.d (.sl 5 ((List.drop t11.toNat t0).map eVersion))) rfl (w_cutl t0 eVersion rfl · · · slT96 rfl rfl e17) ?_
 obtain ⟨t28_1, c18, h⟩ := bpos h
 refine sC 28 (.d (.sl 5 (t28_1.map eVersion))) (s170 k (List.drop t11.toNat t0) _ c18) en170 rfl rfl rfl rfl ?_
 refine sM 4 (.d (.sl 5 (t28_1.map eVersion))) rfl rfl ?_
 refine sz ?_
 cases h
 exact ret1 rfl (.tmp rfl)
theorem s99 (k : Nat) (t0 : List Entry) (t1 : Stamp) (r : (List Entry)) (h : F99 k t0 t1 = some r) : Awp.Spec Tryz.prog amb 99 [(.sl 2 (t0.map eEntry)), (.agg (eStamp t1))] (.ds [(.sl 2 (r.map eEntry))]) := by
 rw [F99] at h
 refine spec_of Tryz.func99 rfl (ble _ _ rfl) fun w0 ok0 lt0 hA => ?_
 refine sr ?_
 refine sT 3 (.d (.dp (eStamp t1))) rfl (v_box_d (cs := (eStamp t1)) rfl · · · rfl rfl (ones_of rfl)) ?_
 refine sM 4 (.d (.s (.slice none 0 0))) rfl rfl ?_
 refine sq_nil ?_
 refine ht_seq ?_
 refine sr ?_
 refine sM 9 (.d (.sl 2 (t0.map eEntry))) rfl rfl ?_
 obtain ⟨t10, c1, h⟩ := bpos h
 refine sC 10 (bV t10) (s81 k t0 _ c1) en81 rfl rfl rfl rfl ?_
 refine sT 11 (bV (!t10)) rfl (vu rfl rfl (u_not rfl)) ?_
 refine sq_nil ?_
 refine ht_cond rfl (fun e2 => ?_) (fun e2 => ?_)
 ·replace h := cpos e2 h
  refine sr ?_
  refine sM 4 (.d (.s (.slice none 0 0))) rfl rfl ?_
  refine sz ?_
  cases h
  exact retM_wk (wk_nil (.t 4) (nb 4) 2 rfl) (ret1 rfl (.tmp rfl))
 replace h := cneg e2 h
 refine ht_skip ?_
 refine sr ?_
 refine sM 5 (.d (.s (.slice none 0 0))) rfl rfl ?_
 refine sq_nil ?_
 refine ht_bj h (fun t5 => tell [(.b 1005, .row false 116 2 (t5.map eEntry)), (.t 5, .own 1005 2 t5.length)]) (fun t5 h => ?_) (fun v3 K4 h j6 => ?_)
 ·refine sr ?_
  refine sM 33 (.own 1005 2 t5.length) rfl rfl ?_
  refine sM 4 (.own 1005 2 t5.length) rfl rfl ?_
  refine sz ?_
  cases h
  exact retM_wk (wk_still_row 1005 _ _ _ rfl) (retM_wk (wk_row (.t 4) (nb 4) 1005 _ _ _ _ rfl rfl (lm _ _)) (retM_wk (wk_row (.t 5) (nb 5) 1005 _ _ _ _ rfl rfl (lm _ _)) (retM_wk (wk_row (.t 33) (nb 33) 1005 _ _ _ _ rfl rfl (lm _ _)) (ret1 rfl (.tmp rfl)))))
 refine sr ?_
 refine sM 12 (.d (.sl 2 (t0.map eEntry))) rfl rfl ?_
 refine sT 13 (iV (t0.length : Int)) rfl (w_len t0 eEntry rfl rfl · · · slT42 rfl) ?_
 refine sM 14 (iV 0) rfl rfl ?_
 refine sq_nil ?_
 refine ht_block ?_
 refine ht_rd h (fun _ => rfl) (fun (t5_1, t14) => tell [(.b 1005, .row false 116 2 (t5_1.map eEntry)), (.t 3, .d (.dp (eStamp t1))), (.t 5, .own 1005 2 t5_1.length), (.t 12, .d (.sl 2 (t0.map eEntry))), (.t 13, iV (t0.length : Int)), (.t 14, iV t14)]) (wkt (wk_nilrow (.t 5) (nb 5) 1001005 116 2 rfl rfl) (wr (fun i => bif Nat.beq i 1005 then 1001005 else i) rfl rfl)) fun k v10 h K16 j9 => ?_
 obtain ⟨t5_1, t14⟩ := v10
 rw [F99_l1] at h
 refine sr ?_
 refine sT 15 (bV (ltI t14 (t0.length : Int))) rfl (vb rfl rfl rfl (b_lss rfl)) ?_
 refine sq_nil ?_
 refine ht_seq ?_
 refine ht_cond rfl (fun e11 => ?_) (fun e11 => ?_)
 ·replace h := cpos e11 h
  refine ht_skip ?_
  refine ht_seq ?_
  refine ht_block ?_
  refine sr ?_
  obtain ⟨e12, h⟩ := gpos h
  refine sT 16 (.d (.dp (eEntry (rd t0 t14)))) rfl (w_idx t0 eEntry rfl · · · slT42 rfl rfl e12) ?_
  refine sP 17 (eEntry (rd t0 t14)) (eEntry (rd t0 t14)) ag116 rfl rfl rfl rfl rfl ?_
  refine sq_cons _ (v_alloc (id := 7) (cs := zc116) rfl trivial rfl (ble _ _ rfl) zu116 rfl ft116 rfl) ?_
  refine sS 7 0 ((eEntry (rd t0 t14)).map V.d) sz116 rfl rfl rfl rfl rfl (ones_of rfl) rfl ?_
  refine sq_nil ?_
  refine sr ?_
  refine sT 18 (.ptr 7 1) rfl (v_field_box (off := 0) (a0 := 1) rfl · · · fo116_1 rfl) ?_
  refine sT 19 (.d (.sl 5 ((rd t0 t14).mChain.map eVersion))) rfl (v_load_box1 (id := 7) (off := 1) rfl · · · onT96 rfl rfl (ble _ _ rfl) rfl) ?_
  refine sP 20 (eStamp t1) (eStamp t1) ag24 rfl rfl rfl rfl rfl ?_
  obtain ⟨t21, c13, h⟩ := bpos h
  refine sC 21 (.d (.sl 5 (t21.map eVersion))) (s144 k (rd t0 t14).mChain t1 _ c13) en144 rfl rfl rfl rfl ?_
  refine sM 8 (.d (.sl 5 (t21.map eVersion))) rfl rfl ?_
  refine sq_nil ?_
  refine sr ?_
  refine sM 22 (.d (.sl 5 (t21.map eVersion))) rfl rfl ?_
  refine sT 23 (iV (t21.length : Int)) rfl (w_len t21 eVersion rfl rfl · · · slT96 rfl) ?_
  refine sT 24 (bV (ltI 0 (t21.length : Int))) rfl (vb rfl rfl rfl (b_gtr rfl)) ?_
  refine sq_nil ?_
  refine ht_cond rfl (fun e14 => ?_) (fun e14 => ?_)
  ·replace h := cpos e14 h
   refine ht_region ?_
   refine sM 25 (.own 1005 2 t5_1.length) rfl rfl ?_
   refine sT 26 (.ptr 7 0) rfl (v_field_box (off := 0) (a0 := 0) rfl · · · fo116_0 rfl) ?_
   refine sT 27 (sV (rd t0 t14).mKey) rfl (v_load_box1 (id := 7) (off := 0) rfl · · · onT9 rfl rfl (ble _ _ rfl) rfl) ?_
   refine sM 28 (.d (.sl 5 (t21.map eVersion))) rfl rfl ?_
   refine sT 29 (.d (.agg (eEntry ({(rd t0 t14) with mChain := t21})))) rfl (w_bld zc116 ((eEntry ({(rd t0 t14) with mChain := t21})).map V.d) [(0, sV (rd t0 t14).mKey), (1, .d (.sl 5 (t21.map eVersion)))] rfl · · · zw116 rfl ft116 rfl rfl rfl rfl) ?_
   refine sq_cons ⟨_, [(.b 30, .row false 116 2 (([({(rd t0 t14) with mChain := t21} : Entry)]).map eEntry)), (.t 30, .own 30 2 ([({(rd t0 t14) with mChain := t21} : Entry)]).length)]⟩ (w_bsl (id := 30) [(0, .d (.agg (eEntry ({(rd t0 t14) with mChain := t21}))))] [({(rd t0 t14) with mChain := t21} : Entry)] eEntry rfl trivial rfl (ble _ _ rfl) slT42 zr116 teEntry (ble _ _ rfl) rfl (by kernel_rfl) rfl rfl (by kernel_rfl) (by kernel_rfl)) ?_
   obtain ⟨e15, h⟩ := gpos h
   refine sq_cons ⟨_, [(.b 1005, .spent), (.b 31, .row false 116 2 ((t5_1 ++ [({(rd t0 t14) with mChain := t21} : Entry)]).map eEntry)), (.t 31, .own 31 2 (t5_1 ++ [({(rd t0 t14) with mChain := t21} : Entry)]).length)]⟩ (w_app 31 t5_1 ([({(rd t0 t14) with mChain := t21} : Entry)]) eEntry rfl rfl trivial rfl (ble _ _ rfl) slT42 elT116 teEntry rfl rfl rfl (.own 30 _ _ rfl) rfl e15) ?_
   refine sM 5 (.own 31 2 (t5_1 ++ [({(rd t0 t14) with mChain := t21} : Entry)]).length) rfl rfl ?_
   refine sq_nil ?_
   refine ht_region ?_
   refine sT 32 (iV (IntKind.wrap .i64 (t14 + 1))) rfl (vb rfl rfl rfl (b_add rfl)) ?_
   refine sM 14 (iV (IntKind.wrap .i64 (t14 + 1))) rfl rfl ?_
   refine sq_nil ?_
   exact j9 _ _ h (wr (fun i => bif Nat.beq i 1005 then 31 else i) rfl rfl)
  replace h := cneg e14 h
  refine ht_skip ?_
  refine ht_region ?_
  refine sT 32 (iV (IntKind.wrap .i64 (t14 + 1))) rfl (vb rfl rfl rfl (b_add rfl)) ?_
  refine sM 14 (iV (IntKind.wrap .i64 (t14 + 1))) rfl rfl ?_
  refine sq_nil ?_
  exact j9 _ _ h (wi rfl rfl)
 replace h := cneg e11 h
 refine ht_exit ?_
 refine tq ?_
 refine tq ?_
 refine bq_hit ?_
 cases h
 exact j6 _ (wi rfl rfl)
theorem s145 (k : Nat) (t0 : List Version) (t1 : Stamp) (r : (List Version)) (h : F145 k t0 t1 = some r) : Awp.Spec Tryz.prog amb 145 [(.sl 5 (t0.map eVersion)), (.agg (eStamp t1))] (.ds [(.sl 5 (r.map eVersion))]) := by
 rw [F145] at h
 refine spec_of Tryz.func145 rfl (ble _ _ rfl) fun w0 ok0 lt0 hA => ?_
 refine sr ?_
 refine sT 3 (.d (.dp (eStamp t1))) rfl (v_box_d (cs := (eStamp t1)) rfl · · · rfl rfl (ones_of rfl)) ?_
 refine sM 4 (.d (.s (.slice none 0 0))) rfl rfl ?_
 refine sq_nil ?_
 refine sr ?_
 refine sM 10 (.d (.sl 5 (t0.map eVersion))) rfl rfl ?_
 refine sP 11 (eStamp t1) (eStamp t1) ag24 rfl rfl rfl rfl rfl ?_
 obtain ⟨⟨t12a, t12b⟩, c1, h⟩ := bpos h
 refine sC 12 (.tup [.d (.agg (eVersion t12a)), bV t12b]) (s71 k t0 t1 _ c1) en71 rfl rfl rfl rfl ?_
 refine sM 9 (.tup [.d (.agg (eVersion t12a)), bV t12b]) rfl rfl ?_
 refine sT 13 (.d (.agg (eVersion t12a))) rfl (ve rfl rfl rfl) ?_
 refine sT 14 (bV t12b) rfl (ve rfl rfl rfl) ?_
 refine sq_cons _ (v_alloc (id := 5) (cs := zc93) rfl trivial rfl (ble _ _ rfl) zu93 rfl ft93 rfl) ?_
 refine sS 5 0 ((eVersion t12a).map V.d) sz93 rfl rfl rfl rfl rfl (ones_of rfl) rfl ?_
 refine sM 6 (bV t12b) rfl rfl ?_
 refine sq_nil ?_
 refine sr ?_
 refine sM 7 (.d (.s (.slice none 0 0))) rfl rfl ?_
 refine sq_nil ?_
 refine ht_bj h (fun t7 => tell [(.b 1007, .row false 93 5 (t7.map eVersion)), (.t 7, .own 1007 5 t7.length)]) (fun t7 h => ?_) (fun v2 K3 h j5 => ?_)
 ·refine sr ?_
  refine sM 53 (.own 1007 5 t7.length) rfl rfl ?_
  refine sM 4 (.own 1007 5 t7.length) rfl rfl ?_
  refine sz ?_
  cases h
  exact retM_wk (wk_still_row 1007 _ _ _ rfl) (retM_wk (wk_row (.t 4) (nb 4) 1007 _ _ _ _ rfl rfl (lm _ _)) (retM_wk (wk_row (.t 7) (nb 7) 1007 _ _ _ _ rfl rfl (lm _ _)) (retM_wk (wk_row (.t 53) (nb 53) 1007 _ _ _ _ rfl rfl (lm _ _)) (ret1 rfl (.tmp rfl)))))
 refine sr ?_
 refine sM 8 (iV 0) rfl rfl ?_
 refine sq_nil ?_
 refine ht_block ?_
 refine ht_rd h (fun _ => rfl) (fun (t7_1, t8) => tell [(.b 5, .box false 5), (.b 1007, .row false 93 5 (t7_1.map eVersion)), (.c 5 0, iV t12a.mAt.mWall), (.c 5 1, iV t12a.mAt.mTick), (.c 5 2, iV t12a.mAt.mNode), (.c 5 3, bV t12a.mGone), (.c 5 4, sV t12a.mValue), (.t 0, .d (.sl 5 (t0.map eVersion))), (.t 5, .ptr 5 0), (.t 6, bV t12b), (.t 7, .own 1007 5 t7_1.length), (.t 8, iV t8)]) (wkt (wk_nilrow (.t 7) (nb 7) 1001007 93 5 rfl rfl) (wr (fun i => bif Nat.beq i 1007 then 1001007 else i) rfl rfl)) fun k v9 h K57 j8 => ?_
 obtain ⟨t7_1, t8⟩ := v9
 rw [F145_l1] at h
 refine ht_seq ?_
 refine sr ?_
 refine sM 15 (iV t8) rfl rfl ?_
 refine sM 16 (.d (.sl 5 (t0.map eVersion))) rfl rfl ?_
 refine sT 17 (iV (t0.length : Int)) rfl (w_len t0 eVersion rfl rfl · · · slT96 rfl) ?_
 refine sT 18 (bV (ltI t8 (t0.length : Int))) rfl (vb rfl rfl rfl (b_lss rfl)) ?_
 refine sq_nil ?_
 refine ht_cond rfl (fun e10 => ?_) (fun e10 => ?_)
 ·replace h := cpos e10 h
  refine ht_skip ?_
  refine ht_seq ?_
  refine ht_block ?_
  refine ht_seq ?_
  refine ht_seq ?_
  refine ht_region_draw mixed ?_
  refine rM 21 (bV t12b) rfl rfl ?_
  refine rM 22 (bV t12b) rfl rfl ?_
  refine rG 23 (.d (.sl 5 (t0.map eVersion))) rfl rfl (fun e11 => (vm rfl rfl)) ?_
  refine rG 24 (iV t8) rfl rfl (fun e12 => (vm rfl rfl)) ?_
  obtain ⟨e14, h⟩ := gpos h
  refine rG 25 (.d (.dp (eVersion (rd t0 t8)))) rfl rfl (fun e13 => (w_idx t0 eVersion rfl · · · slT96 (gv e13) (gv e13) (orT e14 e13))) ?_
  refine rG 26 (.d (.dp (eVersion (rd t0 t8)))) rfl rfl (fun e15 => (vD (eVersion (rd t0 t8)) fo93_0 · · · rfl (gv e15))) ?_
  refine rG 27 (.d (.agg (eStamp (rd t0 t8).mAt))) rfl rfl (fun e16 => (w_ldp (eVersion (rd t0 t8)) (eStamp (rd t0 t8).mAt) rfl · · · ag24 (gv e16) (ble _ _ rfl) rfl)) ?_
  refine rG 28 (.ptr 5 0) rfl rfl (fun e17 => (v_field_box (off := 0) (a0 := 0) rfl · · · fo93_0 rfl)) ?_
  refine rG 29 (.d (.agg (eStamp t12a.mAt))) rfl rfl (fun e18 => (w_ldb 5 0 rfl · · · ag24 (gv e18) rfl (ble _ _ rfl) rfl)) ?_
  obtain ⟨t30, c20, h⟩ := bpos h
  refine rG 30 (bV t30) rfl rfl (fun e19 => (vC (s76 k (rd t0 t8).mAt t12a.mAt _ (cpos e19 c20)) en76 · · · rfl (cc (gv e19) (cc (gv e19) rfl)) rfl)) ?_
  refine rG 31 (bV t30) rfl rfl (fun e21 => (vm rfl (gv e21))) ?_
  refine rH 32 (.ptr 5 3) rfl rfl (fun e22 e23 => (v_field_box (off := 0) (a0 := 3) rfl · · · fo93_1 rfl)) ?_
  refine rH 33 (bV t12a.mGone) rfl rfl (fun e24 e25 => (v_load_box1 (id := 5) (off := 3) rfl · · · onT4 (gv (aT e24 (nF e25))) rfl (ble _ _ rfl) rfl)) ?_
  refine rH 34 (bV t12a.mGone) rfl rfl (fun e26 e27 => (vm rfl (gv (aT e26 (nF e27))))) ?_
  refine rI 35 (.d (.sl 5 (t0.map eVersion))) rfl rfl (fun e28 e29 => (vm rfl rfl)) ?_
  refine rI 36 (iV t8) rfl rfl (fun e30 e31 => (vm rfl rfl)) ?_
  obtain ⟨e34, h⟩ := gpos h
  refine rI 37 (.d (.dp (eVersion (rd t0 t8)))) rfl rfl (fun e32 e33 => (w_idx t0 eVersion rfl · · · slT96 (gv (aT e32 e33)) (gv (aT e32 e33)) (orT e34 (aT e32 e33)))) ?_
  refine rI 38 (.d (.dp (eVersion (rd t0 t8)))) rfl rfl (fun e35 e36 => (vD (eVersion (rd t0 t8)) fo93_0 · · · rfl (gv (aT e35 e36)))) ?_
  refine rI 39 (.d (.agg (eStamp (rd t0 t8).mAt))) rfl rfl (fun e37 e38 => (w_ldp (eVersion (rd t0 t8)) (eStamp (rd t0 t8).mAt) rfl · · · ag24 (gv (aT e37 e38)) (ble _ _ rfl) rfl)) ?_
  refine rI 40 (.ptr 5 0) rfl rfl (fun e39 e40 => (v_field_box (off := 0) (a0 := 0) rfl · · · fo93_0 rfl)) ?_
  refine rI 41 (.d (.agg (eStamp t12a.mAt))) rfl rfl (fun e41 e42 => (w_ldb 5 0 rfl · · · ag24 (gv (aT e41 e42)) rfl (ble _ _ rfl) rfl)) ?_
  refine rI 42 (bV (qStamp (rd t0 t8).mAt t12a.mAt)) rfl rfl (fun e43 e44 => (v_bin_eql (f := eStamp) rfl · · · (gv (aT e43 e44)) (gv (aT e43 e44)) rfl rfl eg24 (eq24 _ _))) ?_
  refine rH 43 (bV (t12a.mGone && (qStamp (rd t0 t8).mAt t12a.mAt))) rfl rfl (fun e45 e46 => (vp rfl (gv (aT e45 (nF e46))) (fun e47 => (gv (aT (aT e45 (nF e46)) e47))) (fun e48 => rfl) (pA _ _))) ?_
  refine rG 44 (bV (t30 || (t12a.mGone && (qStamp (rd t0 t8).mAt t12a.mAt)))) rfl rfl (fun e49 => (vp rfl (gv e49) (fun e50 => rfl) (fun e51 => (gv (aT e49 (nF e51)))) (pO _ _))) ?_
  refine rT 45 (bV (t12b && (t30 || (t12a.mGone && (qStamp (rd t0 t8).mAt t12a.mAt))))) rfl (vp rfl rfl (fun e52 => (gv e52)) (fun e53 => rfl) (pA _ _)) ?_
  refine rg_nil ⟨by kernel_rfl, ?_⟩
  refine ht_cond rfl (fun e54 => ?_) (fun e54 => ?_)
  ·replace h := cpos e54 h
   refine ht_exit ?_
   refine tq ?_
   refine bq_hit ?_
   refine ht_region ?_
   refine sM 19 (iV t8) rfl rfl ?_
   refine sT 20 (iV (IntKind.wrap .i64 (t8 + 1))) rfl (vb rfl rfl rfl (b_add rfl)) ?_
   refine sM 8 (iV (IntKind.wrap .i64 (t8 + 1))) rfl rfl ?_
   refine sq_nil ?_
   exact j8 _ _ h (wi rfl rfl)
  replace h := cneg e54 h
  refine ht_skip ?_
  refine ht_region ?_
  refine sM 46 (.own 1007 5 t7_1.length) rfl rfl ?_
  refine sM 47 (.d (.sl 5 (t0.map eVersion))) rfl rfl ?_
  refine sM 48 (iV t8) rfl rfl ?_
  obtain ⟨e55, h⟩ := gpos h
  refine sT 49 (.d (.dp (eVersion (rd t0 t8)))) rfl (w_idx t0 eVersion rfl · · · slT96 rfl rfl e55) ?_
  refine sP 50 (eVersion (rd t0 t8)) (eVersion (rd t0 t8)) ag93 rfl rfl rfl rfl rfl ?_
  refine sq_cons ⟨_, [(.b 51, .row false 93 5 (([(rd t0 t8)]).map eVersion)), (.t 51, .own 51 5 ([(rd t0 t8)]).length)]⟩ (w_bsl (id := 51) [(0, .d (.agg (eVersion (rd t0 t8))))] [(rd t0 t8)] eVersion rfl trivial rfl (ble _ _ rfl) slT96 zr93 teVersion (ble _ _ rfl) rfl (by kernel_rfl) rfl rfl (by kernel_rfl) (by kernel_rfl)) ?_
  obtain ⟨e56, h⟩ := gpos h
  refine sq_cons ⟨_, [(.b 1007, .spent), (.b 52, .row false 93 5 ((t7_1 ++ [(rd t0 t8)]).map eVersion)), (.t 52, .own 52 5 (t7_1 ++ [(rd t0 t8)]).length)]⟩ (w_app 52 t7_1 ([(rd t0 t8)]) eVersion rfl rfl trivial rfl (ble _ _ rfl) slT96 elT93 teVersion rfl rfl rfl (.own 51 _ _ rfl) rfl e56) ?_
  refine sM 7 (.own 52 5 (t7_1 ++ [(rd t0 t8)]).length) rfl rfl ?_
  refine sq_nil ?_
  refine ht_region ?_
  refine sM 19 (iV t8) rfl rfl ?_
  refine sT 20 (iV (IntKind.wrap .i64 (t8 + 1))) rfl (vb rfl rfl rfl (b_add rfl)) ?_
  refine sM 8 (iV (IntKind.wrap .i64 (t8 + 1))) rfl rfl ?_
  refine sq_nil ?_
  exact j8 _ _ h (wr (fun i => bif Nat.beq i 1007 then 52 else i) rfl rfl)
 replace h := cneg e10 h
 refine ht_exit ?_
 refine tq ?_
 refine tq ?_
 refine bq_hit ?_
 cases h
 exact j5 _ (wi rfl rfl)
theorem s101 (k : Nat) (t0 : List Entry) (t1 : Stamp) (r : (List Entry)) (h : F101 k t0 t1 = some r) : Awp.Spec Tryz.prog amb 101 [(.sl 2 (t0.map eEntry)), (.agg (eStamp t1))] (.ds [(.sl 2 (r.map eEntry))]) := by
 rw [F101] at h
 refine spec_of Tryz.func101 rfl (ble _ _ rfl) fun w0 ok0 lt0 hA => ?_
 refine sr ?_
 refine sT 3 (.d (.dp (eStamp t1))) rfl (v_box_d (cs := (eStamp t1)) rfl · · · rfl rfl (ones_of rfl)) ?_
 refine sM 4 (.d (.s (.slice none 0 0))) rfl rfl ?_
 refine sq_nil ?_
 refine sr ?_
 refine sM 5 (.d (.s (.slice none 0 0))) rfl rfl ?_
 refine sq_nil ?_
 refine ht_bj h (fun t5 => tell [(.b 1005, .row false 116 2 (t5.map eEntry)), (.t 5, .own 1005 2 t5.length)]) (fun t5 h => ?_) (fun v1 K2 h j4 => ?_)
 ·refine sr ?_
  refine sM 34 (.own 1005 2 t5.length) rfl rfl ?_
  refine sM 4 (.own 1005 2 t5.length) rfl rfl ?_
  refine sz ?_
  cases h
  exact retM_wk (wk_still_row 1005 _ _ _ rfl) (retM_wk (wk_row (.t 4) (nb 4) 1005 _ _ _ _ rfl rfl (lm _ _)) (retM_wk (wk_row (.t 5) (nb 5) 1005 _ _ _ _ rfl rfl (lm _ _)) (retM_wk (wk_row (.t 34) (nb 34) 1005 _ _ _ _ rfl rfl (lm _ _)) (ret1 rfl (.tmp rfl)))))
 refine sr ?_
 refine sM 6 (iV 0) rfl rfl ?_
 refine sq_nil ?_
 refine ht_block ?_
 refine ht_rd h (fun _ => rfl) (fun (t5_1, t6) => tell [(.b 1005, .row false 116 2 (t5_1.map eEntry)), (.t 0, .d (.sl 2 (t0.map eEntry))), (.t 3, .d (.dp (eStamp t1))), (.t 5, .own 1005 2 t5_1.length), (.t 6, iV t6)]) (wkt (wk_nilrow (.t 5) (nb 5) 1001005 116 2 rfl rfl) (wr (fun i => bif Nat.beq i 1005 then 1001005 else i) rfl rfl)) fun k v8 h K15 j7 => ?_
 obtain ⟨t5_1, t6⟩ := v8
 rw [F101_l1] at h
 refine ht_seq ?_
 refine sr ?_
 refine sM 8 (iV t6) rfl rfl ?_
 refine sM 9 (.d (.sl 2 (t0.map eEntry))) rfl rfl ?_
 refine sT 10 (iV (t0.length : Int)) rfl (w_len t0 eEntry rfl rfl · · · slT42 rfl) ?_
 refine sT 11 (bV (ltI t6 (t0.length : Int))) rfl (vb rfl rfl rfl (b_lss rfl)) ?_
 refine sq_nil ?_
 refine ht_cond rfl (fun e9 => ?_) (fun e9 => ?_)
 ·replace h := cpos e9 h
  refine ht_skip ?_
  refine ht_seq ?_
  refine ht_block ?_
  refine ht_seq ?_
  refine ht_region_draw mixed ?_
  refine rM 14 (.d (.sl 2 (t0.map eEntry))) rfl rfl ?_
  refine rM 15 (iV t6) rfl rfl ?_
  obtain ⟨e10, h⟩ := gpos h
  refine rT 16 (.d (.dp (eEntry (rd t0 t6)))) rfl (w_idx t0 eEntry rfl · · · slT42 rfl rfl e10) ?_
  refine rD 17 (eEntry (rd t0 t6)) fo116_1 rfl rfl rfl ?_
  refine rT 18 (.d (.sl 5 ((rd t0 t6).mChain.map eVersion))) rfl (vl rfl onT96 rfl rfl) ?_
  refine rP 19 (eStamp t1) (eStamp t1) ag24 rfl rfl rfl rfl rfl ?_
  obtain ⟨t20, c11, h⟩ := bpos h
  refine rC 20 (.d (.sl 5 (t20.map eVersion))) (s145 k (rd t0 t6).mChain t1 _ c11) en145 rfl rfl rfl rfl ?_
  refine rM 7 (.d (.sl 5 (t20.map eVersion))) rfl rfl ?_
  refine rg_nil ⟨by kernel_rfl, ?_⟩
  refine sr ?_
  refine sM 21 (.d (.sl 5 (t20.map eVersion))) rfl rfl ?_
  refine sT 22 (iV (t20.length : Int)) rfl (w_len t20 eVersion rfl rfl · · · slT96 rfl) ?_
  refine sT 23 (bV (ltI 0 (t20.length : Int))) rfl (vb rfl rfl rfl (b_gtr rfl)) ?_
  refine sq_nil ?_
  refine ht_cond rfl (fun e12 => ?_) (fun e12 => ?_)
  ·replace h := cpos e12 h
   refine ht_region ?_
   refine sM 24 (.own 1005 2 t5_1.length) rfl rfl ?_
   refine sM 25 (.d (.sl 2 (t0.map eEntry))) rfl rfl ?_
   refine sM 26 (iV t6) rfl rfl ?_
   obtain ⟨e13, h⟩ := gpos h
   refine sT 27 (.d (.dp (eEntry (rd t0 t6)))) rfl (w_idx t0 eEntry rfl · · · slT42 rfl rfl e13) ?_
   refine sD 28 (eEntry (rd t0 t6)) fo116_0 rfl rfl rfl ?_
   refine sT 29 (sV (rd t0 t6).mKey) rfl (vl rfl onT9 rfl rfl) ?_
   refine sM 30 (.d (.sl 5 (t20.map eVersion))) rfl rfl ?_
   refine sT 31 (.d (.agg (eEntry ({(rd t0 t6) with mChain := t20})))) rfl (w_bld zc116 ((eEntry ({(rd t0 t6) with mChain := t20})).map V.d) [(0, sV (rd t0 t6).mKey), (1, .d (.sl 5 (t20.map eVersion)))] rfl · · · zw116 rfl ft116 rfl rfl rfl rfl) ?_
   refine sq_cons ⟨_, [(.b 32, .row false 116 2 (([({(rd t0 t6) with mChain := t20} : Entry)]).map eEntry)), (.t 32, .own 32 2 ([({(rd t0 t6) with mChain := t20} : Entry)]).length)]⟩ (w_bsl (id := 32) [(0, .d (.agg (eEntry ({(rd t0 t6) with mChain := t20}))))] [({(rd t0 t6) with mChain := t20} : Entry)] eEntry rfl trivial rfl (ble _ _ rfl) slT42 zr116 teEntry (ble _ _ rfl) rfl (by kernel_rfl) rfl rfl (by kernel_rfl) (by kernel_rfl)) ?_
   obtain ⟨e14, h⟩ := gpos h
   refine sq_cons ⟨_, [(.b 1005, .spent), (.b 33, .row false 116 2 ((t5_1 ++ [({(rd t0 t6) with mChain := t20} : Entry)]).map eEntry)), (.t 33, .own 33 2 (t5_1 ++ [({(rd t0 t6) with mChain := t20} : Entry)]).length)]⟩ (w_app 33 t5_1 ([({(rd t0 t6) with mChain := t20} : Entry)]) eEntry rfl rfl trivial rfl (ble _ _ rfl) slT42 elT116 teEntry rfl rfl rfl (.own 32 _ _ rfl) rfl e14) ?_
   refine sM 5 (.own 33 2 (t5_1 ++ [({(rd t0 t6) with mChain := t20} : Entry)]).length) rfl rfl ?_
   refine sq_nil ?_
   refine ht_region ?_
   refine sM 12 (iV t6) rfl rfl ?_
   refine sT 13 (iV (IntKind.wrap .i64 (t6 + 1))) rfl (vb rfl rfl rfl (b_add rfl)) ?_
   refine sM 6 (iV (IntKind.wrap .i64 (t6 + 1))) rfl rfl ?_
   refine sq_nil ?_
   exact j7 _ _ h (wr (fun i => bif Nat.beq i 1005 then 33 else i) rfl rfl)
  replace h := cneg e12 h
  refine ht_skip ?_
  refine ht_region ?_
  refine sM 12 (iV t6) rfl rfl ?_
  refine sT 13 (iV (IntKind.wrap .i64 (t6 + 1))) rfl (vb rfl rfl rfl (b_add rfl)) ?_
  refine sM 6 (iV (IntKind.wrap .i64 (t6 + 1))) rfl rfl ?_
  refine sq_nil ?_
  exact j7 _ _ h (wi rfl rfl)
 replace h := cneg e9 h
 refine ht_exit ?_
 refine tq ?_
 refine tq ?_
 refine bq_hit ?_
 cases h
 exact j4 _ (wi rfl rfl)
theorem s105 (k : Nat) (t0 : Cell) (t1 : Int) (r : Cell) (h : F105 k t0 t1 = some r) : Awp.Spec Tryz.prog amb 105 [(.agg (eCell t0)), (.s (.int .i64 t1))] (.ds [(.agg (eCell r))]) := by
 rw [F105] at h
 refine spec_of Tryz.func105 rfl (ble _ _ rfl) fun w0 ok0 lt0 hA => ?_
 refine sr ?_
 refine sq_cons _ (v_box (id := 2) (cs := (eCell t0).map V.d) rfl trivial rfl (ble _ _ rfl) rfl rfl (ones_of rfl) rfl) ?_
 refine sq_cons _ (v_alloc (id := 4) (cs := zc26) rfl trivial rfl (ble _ _ rfl) zu26 rfl ft26 rfl) ?_
 refine sq_nil ?_
 refine ht_seq ?_
 refine sr ?_
 refine sT 8 (.d (.agg (eCell t0))) rfl (w_ldb 2 0 rfl · · · ag26 rfl rfl (ble _ _ rfl) rfl) ?_
 refine sM 9 (iV t1) rfl rfl ?_
 obtain ⟨⟨t10a, t10b⟩, c1, h⟩ := bpos h
 refine sC 10 (.tup [iV t10a, bV t10b]) (s123 k t0 t1 _ c1) en123 rfl rfl rfl rfl ?_
 refine sM 7 (.tup [iV t10a, bV t10b]) rfl rfl ?_
 refine sT 11 (iV t10a) rfl (ve rfl rfl rfl) ?_
 refine sT 12 (bV t10b) rfl (ve rfl rfl rfl) ?_
 refine sM 5 (iV t10a) rfl rfl ?_
 refine sM 6 (bV t10b) rfl rfl ?_
 refine sq_nil ?_
 refine sr ?_
 refine sM 13 (bV t10b) rfl rfl ?_
 refine sq_nil ?_
 refine ht_cond rfl (fun e2 => ?_) (fun e2 => ?_)
 ·replace h := cpos e2 h
  refine ht_region ?_
  refine sT 14 (.ptr 2 0) rfl (v_field_box (off := 0) (a0 := 0) rfl · · · fo26_0 rfl) ?_
  refine sT 15 (.d (.sl 17 (t0.mShards.map eShard))) rfl (v_load_box1 (id := 2) (off := 0) rfl · · · onT22 rfl rfl (ble _ _ rfl) rfl) ?_
  obtain ⟨t16, c3, h⟩ := bpos h
  refine sq_cons ⟨_, [(.b 16, .row false 45 17 (t16.map eShard)), (.t 16, .own 16 17 t16.length)]⟩ (w_call_own (id := 16) (ds := [(.sl 17 (t0.mShards.map eShard))]) (caps := []) eShard (s98o k t0.mShards _ c3) rfl rfl rfl en98 trivial rfl (ble _ _ rfl) (.inl ⟨rfl, rfl⟩) rfl rfl) ?_
  refine sM 17 (iV t10a) rfl rfl ?_
  refine sM 18 (iV t10a) rfl rfl ?_
  refine sT 19 (iV (IntKind.wrap .i64 (t10a + 1))) rfl (vb rfl rfl rfl (b_add rfl)) ?_
  obtain ⟨e4, h⟩ := gpos h
  obtain ⟨e5, h⟩ := gpos h
  refine sq_cons ⟨_, [(.b 16, .spent), (.b 20, .row false 45 17 ((List.take t10a.toNat t16 ++ List.drop (t10a.toNat + 1) t16).map eShard)), (.t 20, .own 20 17 (List.take t10a.toNat t16 ++ List.drop (t10a.toNat + 1) t16).length)]⟩ (w_del 20 t16 eShard delS147 rfl rfl rfl en147 trivial rfl (ble _ _ rfl) teShard rfl rfl rfl (iV_of (of_decide_eq_true e5) rfl) rfl e4) ?_
  refine sT 21 (.ptr 2 0) rfl (v_field_box (off := 0) (a0 := 0) rfl · · · fo26_0 rfl) ?_
  refine sS 2 0 [.own 20 17 (List.take t10a.toNat t16 ++ List.drop (t10a.toNat + 1) t16).length] sz22 rfl rfl rfl rfl rfl (ones_of rfl) rfl ?_
  refine sq_nil ?_
  refine ht_seq ?_
  refine ht_weak (wk_still_row 20 _ _ _ rfl) ?_
  refine ht_weak (wk_row (.c 2 0) (nc 2 0) 20 _ _ _ _ rfl rfl (lm _ _)) ?_
  refine ht_weak (wk_row (.t 20) (nb 20) 20 _ _ _ _ rfl rfl (lm _ _)) ?_
  refine ht_region ?_
  refine sT 22 (.d (.agg (eCell ({t0 with mShards := (List.take t10a.toNat t16 ++ List.drop (t10a.toNat + 1) t16)})))) rfl (w_ldb 2 0 rfl · · · ag26 rfl rfl (ble _ _ rfl) rfl) ?_
  refine sS 4 0 ((eCell ({t0 with mShards := (List.take t10a.toNat t16 ++ List.drop (t10a.toNat + 1) t16)})).map V.d) sz26 rfl rfl rfl rfl rfl (ones_of rfl) rfl ?_
  refine sz ?_
  cases h
  exact ret1 rfl (.cell rfl rfl ag26 (ble _ _ rfl) rfl)
 replace h := cneg e2 h
 refine ht_skip ?_
 refine sr ?_
 refine sT 22 (.d (.agg (eCell t0))) rfl (w_ldb 2 0 rfl · · · ag26 rfl rfl (ble _ _ rfl) rfl) ?_
 refine sS 4 0 ((eCell t0).map V.d) sz26 rfl rfl rfl rfl rfl (ones_of rfl) rfl ?_
 refine sz ?_
 cases h
 exact ret1 rfl (.cell rfl rfl ag26 (ble _ _ rfl) rfl)
end Go.Proofs.Gd
set_option linter.unusedVariables false
set_option maxRecDepth 100000
set_option maxHeartbeats 4000000
namespace Go.Proofs.Gd
open Go Go.Awp Go.Proofs
theorem s106 (k : Nat) (t0 : Span) (t1 : ByteArray) (r : Span × Span × Int) (h : F106 k t0 t1 = some r) : Awp.Spec Tryz.prog amb 106 [(.agg (eSpan t0)), (.s (.string t1))] (.ds [(.agg (eSpan r.1)), (.agg (eSpan r.2.1)), (.s (.int .i64 r.2.2))]) := by
 rw [F106] at h
 refine spec_of Tryz.func106 rfl (ble _ _ rfl) fun w0 ok0 lt0 hA => ?_
 refine sr ?_
 refine sT 2 (.d (.dp (eSpan t0))) rfl (v_box_d (cs := (eSpan t0)) rfl · · · rfl rfl (ones_of rfl)) ?_
 refine sq_cons _ (v_alloc (id := 4) (cs := zc41) rfl trivial rfl (ble _ _ rfl) zu41 rfl ft41 rfl) ?_
 refine sq_cons _ (v_alloc (id := 5) (cs := zc41) rfl trivial rfl (ble _ _ rfl) zu41 rfl ft41 rfl) ?_
 refine sM 6 (iV 0) rfl rfl ?_
 refine sq_nil ?_
 refine ht_seq ?_
 refine ht_block ?_
 refine sr ?_
 refine sP 8 (eSpan t0) (eSpan t0) ag41 rfl rfl rfl rfl rfl ?_
 obtain ⟨t9, c1, h⟩ := bpos h
 refine sC 9 (bV t9) (s80 k t0 _ c1) en80 rfl rfl rfl rfl ?_
 refine sT 10 (bV (!t9)) rfl (vu rfl rfl (u_not rfl)) ?_
 refine sM 11 (bV (!t9)) rfl rfl ?_
 refine sF 12 (sV t1) rfl rfl (fun e2 => (vm rfl rfl)) ?_
 obtain ⟨t13, c4, h⟩ := bpos h
 refine sF 13 (bV t13) rfl rfl (fun e3 => (vC (s122 k t1 _ (cpos (nF e3) c4)) en122 · · · rfl (cc (gv (nF e3)) rfl) rfl)) ?_
 refine sF 14 (bV (!t13)) rfl rfl (fun e5 => (vu rfl (gv (nF e5)) (u_not rfl))) ?_
 refine sT 15 (bV ((!t9) || (!t13))) rfl (vp rfl rfl (fun e6 => rfl) (fun e7 => (gv (nF e7))) (pO _ _)) ?_
 refine sM 7 (bV ((!t9) || (!t13))) rfl rfl ?_
 refine sq_nil ?_
 refine ht_cond rfl (fun e8 => ?_) (fun e8 => ?_)
 ·replace h := cpos e8 h
  refine sr ?_
  refine sT 16 (.d (.agg (eSpan (⟨⟨#[]⟩, ⟨#[]⟩⟩ : Span)))) rfl (w_bld zc41 ((eSpan (⟨⟨#[]⟩, ⟨#[]⟩⟩ : Span)).map V.d) [] rfl · · · zw41 rfl ft41 rfl rfl rfl rfl) ?_
  refine sT 17 (.d (.agg (eSpan (⟨⟨#[]⟩, ⟨#[]⟩⟩ : Span)))) rfl (w_bld zc41 ((eSpan (⟨⟨#[]⟩, ⟨#[]⟩⟩ : Span)).map V.d) [] rfl · · · zw41 rfl ft41 rfl rfl rfl rfl) ?_
  refine sS 4 0 ((eSpan (⟨⟨#[]⟩, ⟨#[]⟩⟩ : Span)).map V.d) sz41 rfl rfl rfl rfl rfl (ones_of rfl) rfl ?_
  refine sS 5 0 ((eSpan (⟨⟨#[]⟩, ⟨#[]⟩⟩ : Span)).map V.d) sz41 rfl rfl rfl rfl rfl (ones_of rfl) rfl ?_
  refine sM 6 (iV 1) rfl rfl ?_
  refine sz ?_
  cases h
  exact ret3 rfl (.cell rfl rfl ag41 (ble _ _ rfl) rfl) (.cell rfl rfl ag41 (ble _ _ rfl) rfl) (.tmp rfl)
 replace h := cneg e8 h
 refine sr ?_
 refine sM 19 (sV t1) rfl rfl ?_
 refine sD 20 (eSpan t0) fo41_0 rfl rfl rfl ?_
 refine sT 21 (sV t0.mLo) rfl (vl rfl onT9 rfl rfl) ?_
 refine sT 22 (bV (strEq t1 t0.mLo)) rfl (vb rfl rfl rfl (b_eqS rfl)) ?_
 refine sM 23 (bV (strEq t1 t0.mLo)) rfl rfl ?_
 refine sF 24 (.d (.agg (eSpan t0))) rfl rfl (fun e9 => (w_ldp (eSpan t0) (eSpan t0) rfl · · · ag41 rfl (ble _ _ rfl) rfl)) ?_
 refine sF 25 (sV t1) rfl rfl (fun e10 => (vm rfl rfl)) ?_
 obtain ⟨t26, c12, h⟩ := bpos h
 refine sF 26 (bV t26) rfl rfl (fun e11 => (vC (s61 k t0 t1 _ (cpos (nF e11) c12)) en61 · · · rfl (cc (gv (nF e11)) (cc (gv (nF e11)) rfl)) rfl)) ?_
 refine sF 27 (bV (!t26)) rfl rfl (fun e13 => (vu rfl (gv (nF e13)) (u_not rfl))) ?_
 refine sT 28 (bV ((strEq t1 t0.mLo) || (!t26))) rfl (vp rfl rfl (fun e14 => rfl) (fun e15 => (gv (nF e15))) (pO _ _)) ?_
 refine sM 18 (bV ((strEq t1 t0.mLo) || (!t26))) rfl rfl ?_
 refine sq_nil ?_
 refine ht_cond rfl (fun e16 => ?_) (fun e16 => ?_)
 ·replace h := cpos e16 h
  refine sr ?_
  refine sT 29 (.d (.agg (eSpan (⟨⟨#[]⟩, ⟨#[]⟩⟩ : Span)))) rfl (w_bld zc41 ((eSpan (⟨⟨#[]⟩, ⟨#[]⟩⟩ : Span)).map V.d) [] rfl · · · zw41 rfl ft41 rfl rfl rfl rfl) ?_
  refine sT 30 (.d (.agg (eSpan (⟨⟨#[]⟩, ⟨#[]⟩⟩ : Span)))) rfl (w_bld zc41 ((eSpan (⟨⟨#[]⟩, ⟨#[]⟩⟩ : Span)).map V.d) [] rfl · · · zw41 rfl ft41 rfl rfl rfl rfl) ?_
  refine sS 4 0 ((eSpan (⟨⟨#[]⟩, ⟨#[]⟩⟩ : Span)).map V.d) sz41 rfl rfl rfl rfl rfl (ones_of rfl) rfl ?_
  refine sS 5 0 ((eSpan (⟨⟨#[]⟩, ⟨#[]⟩⟩ : Span)).map V.d) sz41 rfl rfl rfl rfl rfl (ones_of rfl) rfl ?_
  refine sM 6 (iV 9) rfl rfl ?_
  refine sz ?_
  cases h
  exact ret3 rfl (.cell rfl rfl ag41 (ble _ _ rfl) rfl) (.cell rfl rfl ag41 (ble _ _ rfl) rfl) (.tmp rfl)
 replace h := cneg e16 h
 refine ht_skip ?_
 refine ht_seq ?_
 refine ht_region_draw mixed ?_
 refine rD 31 (eSpan t0) fo41_0 rfl rfl rfl ?_
 refine rT 32 (sV t0.mLo) rfl (vl rfl onT9 rfl rfl) ?_
 refine rM 33 (sV t1) rfl rfl ?_
 refine rT 34 (.d (.agg (eSpan ({t0 with mHi := t1})))) rfl (w_bld zc41 ((eSpan ({t0 with mHi := t1})).map V.d) [(0, sV t0.mLo), (1, sV t1)] rfl · · · zw41 rfl ft41 rfl rfl rfl rfl) ?_
 refine rM 35 (sV t1) rfl rfl ?_
 refine rD 36 (eSpan t0) fo41_1 rfl rfl rfl ?_
 refine rT 37 (sV t0.mHi) rfl (vl rfl onT9 rfl rfl) ?_
 refine rT 38 (.d (.agg (eSpan ({t0 with mLo := t1})))) rfl (w_bld zc41 ((eSpan ({t0 with mLo := t1})).map V.d) [(0, sV t1), (1, sV t0.mHi)] rfl · · · zw41 rfl ft41 rfl rfl rfl rfl) ?_
 refine rS 4 0 ((eSpan ({t0 with mHi := t1})).map V.d) sz41 rfl rfl rfl rfl rfl (ones_of rfl) rfl ?_
 refine rS 5 0 ((eSpan ({t0 with mLo := t1})).map V.d) sz41 rfl rfl rfl rfl rfl (ones_of rfl) rfl ?_
 refine rM 6 (iV 0) rfl rfl ?_
 refine rg_nil ⟨by kernel_rfl, ?_⟩
 refine ht_ret ?_
 cases h
 exact ret3 rfl (.cell rfl rfl ag41 (ble _ _ rfl) rfl) (.cell rfl rfl ag41 (ble _ _ rfl) rfl) (.tmp rfl)
theorem s107 (k : Nat) (t0 : Shard) (t1 : Int) (r : Bool) (h : F107 k t0 t1 = some r) : Awp.Spec Tryz.prog amb 107 [(.agg (eShard t0)), (.s (.int .i64 t1))] (.ds [(.s (.bool r))]) := by
 rw [F107] at h
 refine spec_of Tryz.func107 rfl (ble _ _ rfl) fun w0 ok0 lt0 hA => ?_
 refine sr ?_
 refine sT 2 (.d (.dp (eShard t0))) rfl (v_box_d (cs := (eShard t0)) rfl · · · rfl rfl (ones_of rfl)) ?_
 refine sM 4 (bV false) rfl rfl ?_
 refine sq_nil ?_
 refine sr ?_
 refine sD 5 (eShard t0) fo45_0 rfl rfl rfl ?_
 refine sT 6 (iV t0.mID) rfl (vl rfl onT3 rfl rfl) ?_
 refine sT 7 (bV (!eqI t0.mID 0)) rfl (vb rfl rfl rfl (b_neq rfl)) ?_
 refine sM 8 (bV (!eqI t0.mID 0)) rfl rfl ?_
 refine sG 9 (.d (.dp (List.drop 1 (eShard t0)))) rfl rfl (fun e1 => (vD (eShard t0) fo45_1 · · · rfl rfl)) ?_
 refine sG 10 (iV t0.mEpoch) rfl rfl (fun e2 => (vl rfl onT3 (gv e2) rfl)) ?_
 refine sG 11 (iV t1) rfl rfl (fun e3 => (vm rfl rfl)) ?_
 refine sG 12 (bV (eqI t0.mEpoch t1)) rfl rfl (fun e4 => (vb rfl (gv e4) (gv e4) (b_eql rfl))) ?_
 refine sT 13 (bV ((!eqI t0.mID 0) && (eqI t0.mEpoch t1))) rfl (vp rfl rfl (fun e5 => (gv e5)) (fun e6 => rfl) (pA _ _)) ?_
 refine sM 14 (bV ((!eqI t0.mID 0) && (eqI t0.mEpoch t1))) rfl rfl ?_
 refine sG 15 (.d (.dp (List.drop 4 (eShard t0)))) rfl rfl (fun e7 => (vD (eShard t0) fo45_3 · · · rfl rfl)) ?_
 refine sG 16 (iV t0.mPhase) rfl rfl (fun e8 => (vl rfl onT3 (gv e8) rfl)) ?_
 refine sG 17 (bV (eqI t0.mPhase 1)) rfl rfl (fun e9 => (vb rfl (gv e9) rfl (b_eql rfl))) ?_
 refine sT 18 (bV (((!eqI t0.mID 0) && (eqI t0.mEpoch t1)) && (eqI t0.mPhase 1))) rfl (vp rfl rfl (fun e10 => (gv e10)) (fun e11 => rfl) (pA _ _)) ?_
 refine sM 19 (bV (((!eqI t0.mID 0) && (eqI t0.mEpoch t1)) && (eqI t0.mPhase 1))) rfl rfl ?_
 refine sG 20 (.d (.dp (List.drop 13 (eShard t0)))) rfl rfl (fun e12 => (vD (eShard t0) fo45_8 · · · rfl rfl)) ?_
 refine sG 21 (iV t0.mHold) rfl rfl (fun e13 => (vl rfl onT3 (gv e13) rfl)) ?_
 refine sG 22 (bV (eqI t0.mHold 0)) rfl rfl (fun e14 => (vb rfl (gv e14) rfl (b_eql rfl))) ?_
 refine sT 23 (bV ((((!eqI t0.mID 0) && (eqI t0.mEpoch t1)) && (eqI t0.mPhase 1)) && (eqI t0.mHold 0))) rfl (vp rfl rfl (fun e15 => (gv e15)) (fun e16 => rfl) (pA _ _)) ?_
 refine sM 4 (bV ((((!eqI t0.mID 0) && (eqI t0.mEpoch t1)) && (eqI t0.mPhase 1)) && (eqI t0.mHold 0))) rfl rfl ?_
 refine sz ?_
 cases h
 exact ret1 rfl (.tmp rfl)
theorem s108 (k : Nat) (t0 : List Entry) (t1 : ByteArray) (r : (List Entry) × (List Entry)) (h : F108 k t0 t1 = some r) : Awp.Spec Tryz.prog amb 108 [(.sl 2 (t0.map eEntry)), (.s (.string t1))] (.ds [(.sl 2 (r.1.map eEntry)), (.sl 2 (r.2.map eEntry))]) := by
 rw [F108] at h
 refine spec_of Tryz.func108 rfl (ble _ _ rfl) fun w0 ok0 lt0 hA => ?_
 refine sr ?_
 refine sM 4 (.d (.s (.slice none 0 0))) rfl rfl ?_
 refine sM 5 (.d (.s (.slice none 0 0))) rfl rfl ?_
 refine sq_nil ?_
 refine ht_seq ?_
 refine sr ?_
 refine sM 8 (.d (.sl 2 (t0.map eEntry))) rfl rfl ?_
 obtain ⟨t9, c1, h⟩ := bpos h
 refine sC 9 (bV t9) (s81 k t0 _ c1) en81 rfl rfl rfl rfl ?_
 refine sT 10 (bV (!t9)) rfl (vu rfl rfl (u_not rfl)) ?_
 refine sq_nil ?_
 refine ht_cond rfl (fun e2 => ?_) (fun e2 => ?_)
 ·replace h := cpos e2 h
  refine sr ?_
  refine sM 4 (.d (.s (.slice none 0 0))) rfl rfl ?_
  refine sM 5 (.d (.s (.slice none 0 0))) rfl rfl ?_
  refine sz ?_
  cases h
  exact retM_wk (wk_nil (.t 4) (nb 4) 2 rfl) (retM_wk (wk_nil (.t 5) (nb 5) 2 rfl) (ret2 rfl (.tmp rfl) (.tmp rfl)))
 replace h := cneg e2 h
 refine ht_skip ?_
 refine sr ?_
 refine sM 12 (.d (.sl 2 (t0.map eEntry))) rfl rfl ?_
 refine sM 13 (sV t1) rfl rfl ?_
 obtain ⟨⟨t14a, t14b⟩, c3, h⟩ := bpos h
 refine sC 14 (.tup [iV t14a, bV t14b]) (s148 k t0 t1 _ c3) en148 rfl rfl rfl rfl ?_
 refine sM 11 (.tup [iV t14a, bV t14b]) rfl rfl ?_
 refine sT 15 (iV t14a) rfl (ve rfl rfl rfl) ?_
 refine sT 16 (bV t14b) rfl (ve rfl rfl rfl) ?_
 refine sM 6 (iV t14a) rfl rfl ?_
 refine sM 7 (bV t14b) rfl rfl ?_
 refine sq_nil ?_
 refine ht_seq ?_
 refine ht_region_draw mixed ?_
 refine rM 17 (.d (.sl 2 (t0.map eEntry))) rfl rfl ?_
 refine rM 18 (iV t14a) rfl rfl ?_
 obtain ⟨e4, h⟩ := gpos h
 refine rT 19 (.d (.sl 2 ((List.take t14a.toNat t0).map eEntry))) rfl (w_cuth t0 eEntry rfl · · · slT42 rfl rfl e4) ?_
 obtain ⟨t20, c5, h⟩ := bpos h
 refine rC 20 (.d (.sl 2 (t20.map eEntry))) (s149 k (List.take t14a.toNat t0) _ c5) en149 rfl rfl rfl rfl ?_
 refine rM 21 (.d (.sl 2 (t0.map eEntry))) rfl rfl ?_
 refine rM 22 (iV t14a) rfl rfl ?_
 obtain ⟨e6, h⟩ := gpos h
 refine rT 23 (.d (.sl 2 ((List.drop t14a.toNat t0).map eEntry))) rfl (w_cutl t0 eEntry rfl · · · slT42 rfl rfl e6) ?_
 obtain ⟨t24, c7, h⟩ := bpos h
 refine rC 24 (.d (.sl 2 (t24.map eEntry))) (s149 k (List.drop t14a.toNat t0) _ c7) en149 rfl rfl rfl rfl ?_
 refine rM 4 (.d (.sl 2 (t20.map eEntry))) rfl rfl ?_
 refine rM 5 (.d (.sl 2 (t24.map eEntry))) rfl rfl ?_
 refine rg_nil ⟨by kernel_rfl, ?_⟩
 refine ht_ret ?_
 cases h
 exact ret2 rfl (.tmp rfl) (.tmp rfl)
theorem s48 (k : Nat) (t0 : Cell) (t1 : Int) (t2 : Int) (t3 : ByteArray) (t4 : Int) (t5 : Int) (r : Cell × Bool) (h : F48 k t0 t1 t2 t3 t4 t5 = some r) : Awp.Spec Tryz.prog amb 48 [(.agg (eCell t0)), (.s (.int .i64 t1)), (.s (.int .i64 t2)), (.s (.string t3)), (.s (.int .i64 t4)), (.s (.int .i64 t5))] (.ds [(.agg (eCell r.1)), (.s (.bool r.2))]) := by
 rw [F48] at h
 refine spec_of Tryz.func48 rfl (ble _ _ rfl) fun w0 ok0 lt0 hA => ?_
 refine sr ?_
 refine sT 6 (.d (.dp (eCell t0))) rfl (v_box_d (cs := (eCell t0)) rfl · · · rfl rfl (ones_of rfl)) ?_
 refine sq_cons _ (v_alloc (id := 12) (cs := zc26) rfl trivial rfl (ble _ _ rfl) zu26 rfl ft26 rfl) ?_
 refine sM 13 (bV false) rfl rfl ?_
 refine sq_nil ?_
 refine ht_seq ?_
 refine sr ?_
 refine sP 19 (eCell t0) (eCell t0) ag26 rfl rfl rfl rfl rfl ?_
 obtain ⟨t20, c1, h⟩ := bpos h
 refine sC 20 (bV t20) (s25 k t0 _ c1) en25 rfl rfl rfl rfl ?_
 refine sT 21 (bV (!t20)) rfl (vu rfl rfl (u_not rfl)) ?_
 refine sM 22 (bV (!t20)) rfl rfl ?_
 refine sF 23 (iV t1) rfl rfl (fun e2 => (vm rfl rfl)) ?_
 refine sF 24 (iV t2) rfl rfl (fun e3 => (vm rfl rfl)) ?_
 refine sF 25 (iV t4) rfl rfl (fun e4 => (vm rfl rfl)) ?_
 refine sF 26 (iV t5) rfl rfl (fun e5 => (vm rfl rfl)) ?_
 refine sF 27 (.d (.sl 1 (([t1, t2, t4, t5]).map (eI .i64)))) rfl rfl (fun e6 => (w_bsl_d [(0, iV t1), (1, iV t2), (2, iV t4), (3, iV t5)] [t1, t2, t4, t5] (eI .i64) rfl · · · slT148 zr3 (encI .i64) (ble _ _ rfl) (cc (pr (gv (nF e6))) (cc (pr (gv (nF e6))) (cc (pr (gv (nF e6))) (cc (pr (gv (nF e6))) rfl)))) (by kernel_rfl) rfl rfl (by kernel_rfl))) ?_
 obtain ⟨t28, c8, h⟩ := bpos h
 refine sF 28 (bV t28) rfl rfl (fun e7 => (vC (s57 k 1 ([t1, t2, t4, t5]) _ (cpos (nF e7) c8)) en57 · · · rfl (cc rfl (cc (gv (nF e7)) rfl)) rfl)) ?_
 refine sF 29 (bV (!t28)) rfl rfl (fun e9 => (vu rfl (gv (nF e9)) (u_not rfl))) ?_
 refine sT 30 (bV ((!t20) || (!t28))) rfl (vp rfl rfl (fun e10 => rfl) (fun e11 => (gv (nF e11))) (pO _ _)) ?_
 refine sq_nil ?_
 refine ht_cond rfl (fun e12 => ?_) (fun e12 => ?_)
 ·replace h := cpos e12 h
  refine sr ?_
  refine sP 31 (eCell t0) (eCell t0) ag26 rfl rfl rfl rfl rfl ?_
  refine sS 12 0 ((eCell t0).map V.d) sz26 rfl rfl rfl rfl rfl (ones_of rfl) rfl ?_
  refine sM 13 (bV false) rfl rfl ?_
  refine sz ?_
  cases h
  exact ret2 rfl (.cell rfl rfl ag26 (ble _ _ rfl) rfl) (.tmp rfl)
 replace h := cneg e12 h
 refine ht_skip ?_
 refine ht_seq ?_
 refine ht_region_draw mixed ?_
 refine rP 32 (eCell t0) (eCell t0) ag26 rfl rfl rfl rfl rfl ?_
 refine rM 33 (iV t1) rfl rfl ?_
 obtain ⟨t34, c13, h⟩ := bpos h
 refine rC 34 (.d (.agg (eShard t34))) (s60 k t0 t1 _ c13) en60 rfl rfl rfl rfl ?_
 refine rP 35 (eCell t0) (eCell t0) ag26 rfl rfl rfl rfl rfl ?_
 refine rM 36 (iV t4) rfl rfl ?_
 obtain ⟨t37, c14, h⟩ := bpos h
 refine rC 37 (.d (.agg (eShard t37))) (s60 k t0 t4 _ c14) en60 rfl rfl rfl rfl ?_
 refine rg_cons _ (v_alloc (id := 14) (cs := zc45) rfl trivial rfl (ble _ _ rfl) zu45 rfl ft45 rfl) ?_
 refine rg_cons _ (v_alloc (id := 15) (cs := zc45) rfl trivial rfl (ble _ _ rfl) zu45 rfl ft45 rfl) ?_
 refine rS 14 0 ((eShard t34).map V.d) sz45 rfl rfl rfl rfl rfl (ones_of rfl) rfl ?_
 refine rS 15 0 ((eShard t37).map V.d) sz45 rfl rfl rfl rfl rfl (ones_of rfl) rfl ?_
 refine rg_nil ⟨by kernel_rfl, ?_⟩
 refine ht_seq ?_
 refine sr ?_
 refine sT 38 (.ptr 14 0) rfl (v_field_box (off := 0) (a0 := 0) rfl · · · fo45_0 rfl) ?_
 refine sT 39 (iV t34.mID) rfl (v_load_box1 (id := 14) (off := 0) rfl · · · onT3 rfl rfl (ble _ _ rfl) rfl) ?_
 refine sT 40 (bV (!eqI t34.mID 0)) rfl (vb rfl rfl rfl (b_neq rfl)) ?_
 refine sM 41 (bV (!eqI t34.mID 0)) rfl rfl ?_
 refine sG 42 (.ptr 14 1) rfl rfl (fun e15 => (v_field_box (off := 0) (a0 := 1) rfl · · · fo45_1 rfl)) ?_
 refine sG 43 (iV t34.mEpoch) rfl rfl (fun e16 => (v_load_box1 (id := 14) (off := 1) rfl · · · onT3 (gv e16) rfl (ble _ _ rfl) rfl)) ?_
 refine sG 44 (iV t5) rfl rfl (fun e17 => (vm rfl rfl)) ?_
 refine sG 45 (bV (eqI t34.mEpoch t5)) rfl rfl (fun e18 => (vb rfl (gv e18) (gv e18) (b_eql rfl))) ?_
 refine sT 46 (bV ((!eqI t34.mID 0) && (eqI t34.mEpoch t5))) rfl (vp rfl rfl (fun e19 => (gv e19)) (fun e20 => rfl) (pA _ _)) ?_
 refine sM 47 (bV ((!eqI t34.mID 0) && (eqI t34.mEpoch t5))) rfl rfl ?_
 refine sG 48 (.ptr 14 2) rfl rfl (fun e21 => (v_field_box (off := 0) (a0 := 2) rfl · · · fo45_2 rfl)) ?_
 refine sG 49 (.ptr 14 3) rfl rfl (fun e22 => (v_field_box (off := 2) (a0 := 1) rfl · · · fo41_1 (gv e22))) ?_
 refine sG 50 (sV t34.mSpan.mHi) rfl rfl (fun e23 => (v_load_box1 (id := 14) (off := 3) rfl · · · onT9 (gv e23) rfl (ble _ _ rfl) rfl)) ?_
 refine sG 51 (sV t3) rfl rfl (fun e24 => (vm rfl rfl)) ?_
 refine sG 52 (bV (strEq t34.mSpan.mHi t3)) rfl rfl (fun e25 => (vb rfl (gv e25) (gv e25) (b_eqS rfl))) ?_
 refine sT 53 (bV (((!eqI t34.mID 0) && (eqI t34.mEpoch t5)) && (strEq t34.mSpan.mHi t3))) rfl (vp rfl rfl (fun e26 => (gv e26)) (fun e27 => rfl) (pA _ _)) ?_
 refine sM 54 (bV (((!eqI t34.mID 0) && (eqI t34.mEpoch t5)) && (strEq t34.mSpan.mHi t3))) rfl rfl ?_
 refine sG 55 (.ptr 15 0) rfl rfl (fun e28 => (v_field_box (off := 0) (a0 := 0) rfl · · · fo45_0 rfl)) ?_
 refine sG 56 (iV t37.mID) rfl rfl (fun e29 => (v_load_box1 (id := 15) (off := 0) rfl · · · onT3 (gv e29) rfl (ble _ _ rfl) rfl)) ?_
 refine sG 57 (bV (!eqI t37.mID 0)) rfl rfl (fun e30 => (vb rfl (gv e30) rfl (b_neq rfl))) ?_
 refine sT 58 (bV ((((!eqI t34.mID 0) && (eqI t34.mEpoch t5)) && (strEq t34.mSpan.mHi t3)) && (!eqI t37.mID 0))) rfl (vp rfl rfl (fun e31 => (gv e31)) (fun e32 => rfl) (pA _ _)) ?_
 refine sM 59 (bV ((((!eqI t34.mID 0) && (eqI t34.mEpoch t5)) && (strEq t34.mSpan.mHi t3)) && (!eqI t37.mID 0))) rfl rfl ?_
 refine sG 60 (.ptr 15 1) rfl rfl (fun e33 => (v_field_box (off := 0) (a0 := 1) rfl · · · fo45_1 rfl)) ?_
 refine sG 61 (iV t37.mEpoch) rfl rfl (fun e34 => (v_load_box1 (id := 15) (off := 1) rfl · · · onT3 (gv e34) rfl (ble _ _ rfl) rfl)) ?_
 refine sG 62 (iV t5) rfl rfl (fun e35 => (vm rfl rfl)) ?_
 refine sG 63 (bV (eqI t37.mEpoch t5)) rfl rfl (fun e36 => (vb rfl (gv e36) (gv e36) (b_eql rfl))) ?_
 refine sT 64 (bV (((((!eqI t34.mID 0) && (eqI t34.mEpoch t5)) && (strEq t34.mSpan.mHi t3)) && (!eqI t37.mID 0)) && (eqI t37.mEpoch t5))) rfl (vp rfl rfl (fun e37 => (gv e37)) (fun e38 => rfl) (pA _ _)) ?_
 refine sq_nil ?_
 refine ht_cond rfl (fun e39 => ?_) (fun e39 => ?_)
 ·replace h := cpos e39 h
  refine sr ?_
  refine sP 65 (eCell t0) (eCell t0) ag26 rfl rfl rfl rfl rfl ?_
  refine sS 12 0 ((eCell t0).map V.d) sz26 rfl rfl rfl rfl rfl (ones_of rfl) rfl ?_
  refine sM 13 (bV true) rfl rfl ?_
  refine sz ?_
  cases h
  exact ret2 rfl (.cell rfl rfl ag26 (ble _ _ rfl) rfl) (.tmp rfl)
 replace h := cneg e39 h
 refine ht_skip ?_
 refine sr ?_
 refine sT 67 (.ptr 14 2) rfl (v_field_box (off := 0) (a0 := 2) rfl · · · fo45_2 rfl) ?_
 refine sT 68 (.d (.agg (eSpan t34.mSpan))) rfl (w_ldb 14 2 rfl · · · ag41 rfl rfl (ble _ _ rfl) rfl) ?_
 refine sM 69 (sV t3) rfl rfl ?_
 obtain ⟨⟨t70a, t70b, t70c⟩, c40, h⟩ := bpos h
 refine sC 70 (.tup [.d (.agg (eSpan t70a)), .d (.agg (eSpan t70b)), iV t70c]) (s106 k t34.mSpan t3 _ c40) en106 rfl rfl rfl rfl ?_
 refine sM 66 (.tup [.d (.agg (eSpan t70a)), .d (.agg (eSpan t70b)), iV t70c]) rfl rfl ?_
 refine sT 71 (.d (.agg (eSpan t70a))) rfl (ve rfl rfl rfl) ?_
 refine sT 72 (.d (.agg (eSpan t70b))) rfl (ve rfl rfl rfl) ?_
 refine sT 73 (iV t70c) rfl (ve rfl rfl rfl) ?_
 refine sq_cons _ (v_alloc (id := 16) (cs := zc41) rfl trivial rfl (ble _ _ rfl) zu41 rfl ft41 rfl) ?_
 refine sq_cons _ (v_alloc (id := 17) (cs := zc41) rfl trivial rfl (ble _ _ rfl) zu41 rfl ft41 rfl) ?_
 refine sS 16 0 ((eSpan t70a).map V.d) sz41 rfl rfl rfl rfl rfl (ones_of rfl) rfl ?_
 refine sS 17 0 ((eSpan t70b).map V.d) sz41 rfl rfl rfl rfl rfl (ones_of rfl) rfl ?_
 refine sM 18 (iV t70c) rfl rfl ?_
 refine sq_nil ?_
 refine ht_seq ?_
 refine sr ?_
 refine sT 74 (.d (.agg (eShard t34))) rfl (w_ldb 14 0 rfl · · · ag45 rfl rfl (ble _ _ rfl) rfl) ?_
 refine sM 75 (iV t2) rfl rfl ?_
 obtain ⟨t76, c41, h⟩ := bpos h
 refine sC 76 (bV t76) (s107 k t34 t2 _ c41) en107 rfl rfl rfl rfl ?_
 refine sT 77 (bV (!t76)) rfl (vu rfl rfl (u_not rfl)) ?_
 refine sM 78 (bV (!t76)) rfl rfl ?_
 refine sF 79 (iV t5) rfl rfl (fun e42 => (vm rfl rfl)) ?_
 refine sF 80 (iV t2) rfl rfl (fun e43 => (vm rfl rfl)) ?_
 refine sF 81 (bV (leI t5 t2)) rfl rfl (fun e44 => (vb rfl (gv (nF e44)) (gv (nF e44)) (b_leq rfl))) ?_
 refine sT 82 (bV ((!t76) || (leI t5 t2))) rfl (vp rfl rfl (fun e45 => rfl) (fun e46 => (gv (nF e46))) (pO _ _)) ?_
 refine sM 83 (bV ((!t76) || (leI t5 t2))) rfl rfl ?_
 refine sF 84 (.ptr 14 16) rfl rfl (fun e47 => (v_field_box (off := 0) (a0 := 16) rfl · · · fo45_11 rfl)) ?_
 refine sF 85 (iV t34.mClosed) rfl rfl (fun e48 => (v_load_box1 (id := 14) (off := 16) rfl · · · onT3 (gv (nF e48)) rfl (ble _ _ rfl) rfl)) ?_
 refine sF 86 (iV t5) rfl rfl (fun e49 => (vm rfl rfl)) ?_
 refine sF 87 (bV (leI t5 t34.mClosed)) rfl rfl (fun e50 => (vb rfl (gv (nF e50)) (gv (nF e50)) (b_geq rfl))) ?_
 refine sT 88 (bV (((!t76) || (leI t5 t2)) || (leI t5 t34.mClosed))) rfl (vp rfl rfl (fun e51 => rfl) (fun e52 => (gv (nF e52))) (pO _ _)) ?_
 refine sM 89 (bV (((!t76) || (leI t5 t2)) || (leI t5 t34.mClosed))) rfl rfl ?_
 refine sF 90 (.ptr 15 0) rfl rfl (fun e53 => (v_field_box (off := 0) (a0 := 0) rfl · · · fo45_0 rfl)) ?_
 refine sF 91 (iV t37.mID) rfl rfl (fun e54 => (v_load_box1 (id := 15) (off := 0) rfl · · · onT3 (gv (nF e54)) rfl (ble _ _ rfl) rfl)) ?_
 refine sF 92 (bV (!eqI t37.mID 0)) rfl rfl (fun e55 => (vb rfl (gv (nF e55)) rfl (b_neq rfl))) ?_
 refine sT 93 (bV ((((!t76) || (leI t5 t2)) || (leI t5 t34.mClosed)) || (!eqI t37.mID 0))) rfl (vp rfl rfl (fun e56 => rfl) (fun e57 => (gv (nF e57))) (pO _ _)) ?_
 refine sM 94 (bV ((((!t76) || (leI t5 t2)) || (leI t5 t34.mClosed)) || (!eqI t37.mID 0))) rfl rfl ?_
 refine sF 95 (.d (.dp (eCell t0))) rfl rfl (fun e58 => (vD (eCell t0) fo26_0 · · · rfl rfl)) ?_
 refine sF 96 (.d (.sl 17 (t0.mShards.map eShard))) rfl rfl (fun e59 => (vl rfl onT22 (gv (nF e59)) rfl)) ?_
 refine sF 97 (iV (t0.mShards.length : Int)) rfl rfl (fun e60 => (w_len t0.mShards eShard rfl rfl · · · slT22 (gv (nF e60)))) ?_
 refine sF 98 (bV (eqI (t0.mShards.length : Int) 8)) rfl rfl (fun e61 => (vb rfl (gv (nF e61)) rfl (b_eql rfl))) ?_
 refine sT 99 (bV (((((!t76) || (leI t5 t2)) || (leI t5 t34.mClosed)) || (!eqI t37.mID 0)) || (eqI (t0.mShards.length : Int) 8))) rfl (vp rfl rfl (fun e62 => rfl) (fun e63 => (gv (nF e63))) (pO _ _)) ?_
 refine sM 100 (bV (((((!t76) || (leI t5 t2)) || (leI t5 t34.mClosed)) || (!eqI t37.mID 0)) || (eqI (t0.mShards.length : Int) 8))) rfl rfl ?_
 refine sF 101 (iV t70c) rfl rfl (fun e64 => (vm rfl rfl)) ?_
 refine sF 102 (bV (!eqI t70c 0)) rfl rfl (fun e65 => (vb rfl (gv (nF e65)) rfl (b_neq rfl))) ?_
 refine sT 103 (bV ((((((!t76) || (leI t5 t2)) || (leI t5 t34.mClosed)) || (!eqI t37.mID 0)) || (eqI (t0.mShards.length : Int) 8)) || (!eqI t70c 0))) rfl (vp rfl rfl (fun e66 => rfl) (fun e67 => (gv (nF e67))) (pO _ _)) ?_
 refine sq_nil ?_
 refine ht_cond rfl (fun e68 => ?_) (fun e68 => ?_)
 ·replace h := cpos e68 h
  refine sr ?_
  refine sP 104 (eCell t0) (eCell t0) ag26 rfl rfl rfl rfl rfl ?_
  refine sS 12 0 ((eCell t0).map V.d) sz26 rfl rfl rfl rfl rfl (ones_of rfl) rfl ?_
  refine sM 13 (bV false) rfl rfl ?_
  refine sz ?_
  cases h
  exact ret2 rfl (.cell rfl rfl ag26 (ble _ _ rfl) rfl) (.tmp rfl)
 replace h := cneg e68 h
 refine ht_skip ?_
 refine sr ?_
 refine sT 105 (.d (.agg (eShard t34))) rfl (w_ldb 14 0 rfl · · · ag45 rfl rfl (ble _ _ rfl) rfl) ?_
 refine sS 15 0 ((eShard t34).map V.d) sz45 rfl rfl rfl rfl rfl (ones_of rfl) rfl ?_
 refine sq_nil ?_
 refine sr ?_
 refine sT 107 (.ptr 14 5) rfl (v_field_box (off := 0) (a0 := 5) rfl · · · fo45_4 rfl) ?_
 refine sT 108 (.d (.sl 2 (t34.mEntries.map eEntry))) rfl (v_load_box1 (id := 14) (off := 5) rfl · · · onT42 rfl rfl (ble _ _ rfl) rfl) ?_
 refine sM 109 (sV t3) rfl rfl ?_
 obtain ⟨⟨t110a, t110b⟩, c69, h⟩ := bpos h
 refine sC 110 (.tup [.d (.sl 2 (t110a.map eEntry)), .d (.sl 2 (t110b.map eEntry))]) (s108 k t34.mEntries t3 _ c69) en108 rfl rfl rfl rfl ?_
 refine sM 106 (.tup [.d (.sl 2 (t110a.map eEntry)), .d (.sl 2 (t110b.map eEntry))]) rfl rfl ?_
 refine sT 111 (.d (.sl 2 (t110a.map eEntry))) rfl (ve rfl rfl rfl) ?_
 refine sT 112 (.d (.sl 2 (t110b.map eEntry))) rfl (ve rfl rfl rfl) ?_
 refine sT 113 (.ptr 14 5) rfl (v_field_box (off := 0) (a0 := 5) rfl · · · fo45_4 rfl) ?_
 refine sS 14 5 ([(.sl 2 (t110a.map eEntry))].map V.d) sz42 rfl rfl rfl rfl rfl (ones_of rfl) rfl ?_
 refine sT 114 (.ptr 15 5) rfl (v_field_box (off := 0) (a0 := 5) rfl · · · fo45_4 rfl) ?_
 refine sS 15 5 ([(.sl 2 (t110b.map eEntry))].map V.d) sz42 rfl rfl rfl rfl rfl (ones_of rfl) rfl ?_
 refine sq_nil ?_
 refine ht_seq ?_
 refine ht_region_draw mixed ?_
 refine rT 115 (.d (.agg (eSpan t70a))) rfl (w_ldb 16 0 rfl · · · ag41 rfl rfl (ble _ _ rfl) rfl) ?_
 refine rT 116 (.d (.agg (eSpan t70b))) rfl (w_ldb 17 0 rfl · · · ag41 rfl rfl (ble _ _ rfl) rfl) ?_
 refine rT 117 (.ptr 14 2) rfl (v_field_box (off := 0) (a0 := 2) rfl · · · fo45_2 rfl) ?_
 refine rS 14 2 ((eSpan t70a).map V.d) sz41 rfl rfl rfl rfl rfl (ones_of rfl) rfl ?_
 refine rT 118 (.ptr 15 2) rfl (v_field_box (off := 0) (a0 := 2) rfl · · · fo45_2 rfl) ?_
 refine rS 15 2 ((eSpan t70b).map V.d) sz41 rfl rfl rfl rfl rfl (ones_of rfl) rfl ?_
 refine rg_nil ⟨by kernel_rfl, ?_⟩
 refine sr ?_
 refine sM 119 (iV t5) rfl rfl ?_
 refine sM 120 (iV t5) rfl rfl ?_
 refine sM 121 (iV t4) rfl rfl ?_
 refine sT 122 (.ptr 14 1) rfl (v_field_box (off := 0) (a0 := 1) rfl · · · fo45_1 rfl) ?_
 refine sS 14 1 ([(.s (.int .i64 t5))].map V.d) sz3 rfl rfl rfl rfl rfl (ones_of rfl) rfl ?_
 refine sT 123 (.ptr 15 1) rfl (v_field_box (off := 0) (a0 := 1) rfl · · · fo45_1 rfl) ?_
 refine sS 15 1 ([(.s (.int .i64 t5))].map V.d) sz3 rfl rfl rfl rfl rfl (ones_of rfl) rfl ?_
 refine sT 124 (.ptr 15 0) rfl (v_field_box (off := 0) (a0 := 0) rfl · · · fo45_0 rfl) ?_
 refine sS 15 0 ([(.s (.int .i64 t4))].map V.d) sz3 rfl rfl rfl rfl rfl (ones_of rfl) rfl ?_
 refine sq_nil ?_
 refine ht_seq ?_
 refine ht_region_draw mixed ?_
 refine rP 125 (eCell t0) (eCell t0) ag26 rfl rfl rfl rfl rfl ?_
 refine rT 126 (.d (.agg (eShard ({t34 with mEpoch := t5, mSpan := t70a, mEntries := t110a})))) rfl (w_ldb 14 0 rfl · · · ag45 rfl rfl (ble _ _ rfl) rfl) ?_
 obtain ⟨t127, c70, h⟩ := bpos h
 refine rC 127 (.d (.agg (eCell t127))) (s95 k t0 ({t34 with mEpoch := t5, mSpan := t70a, mEntries := t110a}) _ c70) en95 rfl rfl rfl rfl ?_
 refine rT 128 (.d (.agg (eShard ({t34 with mID := t4, mEpoch := t5, mSpan := t70b, mEntries := t110b})))) rfl (w_ldb 15 0 rfl · · · ag45 rfl rfl (ble _ _ rfl) rfl) ?_
 obtain ⟨t129, c71, h⟩ := bpos h
 refine rC 129 (.d (.agg (eCell t129))) (s95 k t127 ({t34 with mID := t4, mEpoch := t5, mSpan := t70b, mEntries := t110b}) _ c71) en95 rfl rfl rfl rfl ?_
 refine rS 12 0 ((eCell t129).map V.d) sz26 rfl rfl rfl rfl rfl (ones_of rfl) rfl ?_
 refine rM 13 (bV true) rfl rfl ?_
 refine rg_nil ⟨by kernel_rfl, ?_⟩
 refine ht_ret ?_
 cases h
 exact ret2 rfl (.cell rfl rfl ag26 (ble _ _ rfl) rfl) (.tmp rfl)
theorem s109 (k : Nat) (t0 : Span) (t1 : ByteArray) (r : Span × Span × Int) (h : F109 k t0 t1 = some r) : Awp.Spec Tryz.prog amb 109 [(.agg (eSpan t0)), (.s (.string t1))] (.ds [(.agg (eSpan r.1)), (.agg (eSpan r.2.1)), (.s (.int .i64 r.2.2))]) := by
 rw [F109] at h
 refine spec_of Tryz.func109 rfl (ble _ _ rfl) fun w0 ok0 lt0 hA => ?_
 refine sr ?_
 refine sT 2 (.d (.dp (eSpan t0))) rfl (v_box_d (cs := (eSpan t0)) rfl · · · rfl rfl (ones_of rfl)) ?_
 refine sq_cons _ (v_alloc (id := 4) (cs := zc41) rfl trivial rfl (ble _ _ rfl) zu41 rfl ft41 rfl) ?_
 refine sq_cons _ (v_alloc (id := 5) (cs := zc41) rfl trivial rfl (ble _ _ rfl) zu41 rfl ft41 rfl) ?_
 refine sM 6 (iV 0) rfl rfl ?_
 refine sq_nil ?_
 refine ht_seq ?_
 refine sr ?_
 refine sP 9 (eSpan t0) (eSpan t0) ag41 rfl rfl rfl rfl rfl ?_
 obtain ⟨t10, c1, h⟩ := bpos h
 refine sC 10 (bV t10) (s85 k t0 _ c1) en85 rfl rfl rfl rfl ?_
 refine sT 11 (bV (!t10)) rfl (vu rfl rfl (u_not rfl)) ?_
 refine sM 12 (bV (!t10)) rfl rfl ?_
 refine sF 13 (sV t1) rfl rfl (fun e2 => (vm rfl rfl)) ?_
 obtain ⟨t14, c4, h⟩ := bpos h
 refine sF 14 (bV t14) rfl rfl (fun e3 => (vC (s130 k t1 _ (cpos (nF e3) c4)) en130 · · · rfl (cc (gv (nF e3)) rfl) rfl)) ?_
 refine sF 15 (bV (!t14)) rfl rfl (fun e5 => (vu rfl (gv (nF e5)) (u_not rfl))) ?_
 refine sT 16 (bV ((!t10) || (!t14))) rfl (vp rfl rfl (fun e6 => rfl) (fun e7 => (gv (nF e7))) (pO _ _)) ?_
 refine sq_nil ?_
 refine ht_cond rfl (fun e8 => ?_) (fun e8 => ?_)
 ·replace h := cpos e8 h
  refine sr ?_
  refine sT 17 (.d (.agg (eSpan (⟨⟨#[]⟩, ⟨#[]⟩⟩ : Span)))) rfl (w_bld zc41 ((eSpan (⟨⟨#[]⟩, ⟨#[]⟩⟩ : Span)).map V.d) [] rfl · · · zw41 rfl ft41 rfl rfl rfl rfl) ?_
  refine sT 18 (.d (.agg (eSpan (⟨⟨#[]⟩, ⟨#[]⟩⟩ : Span)))) rfl (w_bld zc41 ((eSpan (⟨⟨#[]⟩, ⟨#[]⟩⟩ : Span)).map V.d) [] rfl · · · zw41 rfl ft41 rfl rfl rfl rfl) ?_
  refine sS 4 0 ((eSpan (⟨⟨#[]⟩, ⟨#[]⟩⟩ : Span)).map V.d) sz41 rfl rfl rfl rfl rfl (ones_of rfl) rfl ?_
  refine sS 5 0 ((eSpan (⟨⟨#[]⟩, ⟨#[]⟩⟩ : Span)).map V.d) sz41 rfl rfl rfl rfl rfl (ones_of rfl) rfl ?_
  refine sM 6 (iV 1) rfl rfl ?_
  refine sz ?_
  cases h
  exact ret3 rfl (.cell rfl rfl ag41 (ble _ _ rfl) rfl) (.cell rfl rfl ag41 (ble _ _ rfl) rfl) (.tmp rfl)
 replace h := cneg e8 h
 refine ht_skip ?_
 refine ht_seq ?_
 refine ht_region_draw mixed ?_
 refine rD 19 (eSpan t0) fo41_0 rfl rfl rfl ?_
 refine rT 20 (sV t0.mLo) rfl (vl rfl onT9 rfl rfl) ?_
 refine rM 21 (sV t1) rfl rfl ?_
 refine rT 22 (.d (.agg (eSpan ({t0 with mHi := t1})))) rfl (w_bld zc41 ((eSpan ({t0 with mHi := t1})).map V.d) [(0, sV t0.mLo), (1, sV t1)] rfl · · · zw41 rfl ft41 rfl rfl rfl rfl) ?_
 refine rM 23 (sV t1) rfl rfl ?_
 refine rD 24 (eSpan t0) fo41_1 rfl rfl rfl ?_
 refine rT 25 (sV t0.mHi) rfl (vl rfl onT9 rfl rfl) ?_
 refine rT 26 (.d (.agg (eSpan ({t0 with mLo := t1})))) rfl (w_bld zc41 ((eSpan ({t0 with mLo := t1})).map V.d) [(0, sV t1), (1, sV t0.mHi)] rfl · · · zw41 rfl ft41 rfl rfl rfl rfl) ?_
 refine rg_cons _ (v_alloc (id := 7) (cs := zc41) rfl trivial rfl (ble _ _ rfl) zu41 rfl ft41 rfl) ?_
 refine rg_cons _ (v_alloc (id := 8) (cs := zc41) rfl trivial rfl (ble _ _ rfl) zu41 rfl ft41 rfl) ?_
 refine rS 7 0 ((eSpan ({t0 with mHi := t1})).map V.d) sz41 rfl rfl rfl rfl rfl (ones_of rfl) rfl ?_
 refine rS 8 0 ((eSpan ({t0 with mLo := t1})).map V.d) sz41 rfl rfl rfl rfl rfl (ones_of rfl) rfl ?_
 refine rg_nil ⟨by kernel_rfl, ?_⟩
 refine ht_seq ?_
 refine sr ?_
 refine sT 27 (.d (.agg (eSpan ({t0 with mHi := t1})))) rfl (w_ldb 7 0 rfl · · · ag41 rfl rfl (ble _ _ rfl) rfl) ?_
 obtain ⟨t28, c9, h⟩ := bpos h
 refine sC 28 (bV t28) (s85 k ({t0 with mHi := t1}) _ c9) en85 rfl rfl rfl rfl ?_
 refine sT 29 (bV (!t28)) rfl (vu rfl rfl (u_not rfl)) ?_
 refine sM 30 (bV (!t28)) rfl rfl ?_
 refine sF 31 (.d (.agg (eSpan ({t0 with mLo := t1})))) rfl rfl (fun e10 => (w_ldb 8 0 rfl · · · ag41 rfl rfl (ble _ _ rfl) rfl)) ?_
 obtain ⟨t32, c12, h⟩ := bpos h
 refine sF 32 (bV t32) rfl rfl (fun e11 => (vC (s85 k ({t0 with mLo := t1}) _ (cpos (nF e11) c12)) en85 · · · rfl (cc (gv (nF e11)) rfl) rfl)) ?_
 refine sF 33 (bV (!t32)) rfl rfl (fun e13 => (vu rfl (gv (nF e13)) (u_not rfl))) ?_
 refine sT 34 (bV ((!t28) || (!t32))) rfl (vp rfl rfl (fun e14 => rfl) (fun e15 => (gv (nF e15))) (pO _ _)) ?_
 refine sq_nil ?_
 refine ht_cond rfl (fun e16 => ?_) (fun e16 => ?_)
 ·replace h := cpos e16 h
  refine sr ?_
  refine sT 35 (.d (.agg (eSpan (⟨⟨#[]⟩, ⟨#[]⟩⟩ : Span)))) rfl (w_bld zc41 ((eSpan (⟨⟨#[]⟩, ⟨#[]⟩⟩ : Span)).map V.d) [] rfl · · · zw41 rfl ft41 rfl rfl rfl rfl) ?_
  refine sT 36 (.d (.agg (eSpan (⟨⟨#[]⟩, ⟨#[]⟩⟩ : Span)))) rfl (w_bld zc41 ((eSpan (⟨⟨#[]⟩, ⟨#[]⟩⟩ : Span)).map V.d) [] rfl · · · zw41 rfl ft41 rfl rfl rfl rfl) ?_
  refine sS 4 0 ((eSpan (⟨⟨#[]⟩, ⟨#[]⟩⟩ : Span)).map V.d) sz41 rfl rfl rfl rfl rfl (ones_of rfl) rfl ?_
  refine sS 5 0 ((eSpan (⟨⟨#[]⟩, ⟨#[]⟩⟩ : Span)).map V.d) sz41 rfl rfl rfl rfl rfl (ones_of rfl) rfl ?_
  refine sM 6 (iV 9) rfl rfl ?_
  refine sz ?_
  cases h
  exact ret3 rfl (.cell rfl rfl ag41 (ble _ _ rfl) rfl) (.cell rfl rfl ag41 (ble _ _ rfl) rfl) (.tmp rfl)
 replace h := cneg e16 h
 refine ht_skip ?_
 refine ht_seq ?_
 refine ht_region_draw mixed ?_
 refine rT 37 (.d (.agg (eSpan ({t0 with mHi := t1})))) rfl (w_ldb 7 0 rfl · · · ag41 rfl rfl (ble _ _ rfl) rfl) ?_
 refine rT 38 (.d (.agg (eSpan ({t0 with mLo := t1})))) rfl (w_ldb 8 0 rfl · · · ag41 rfl rfl (ble _ _ rfl) rfl) ?_
 refine rS 4 0 ((eSpan ({t0 with mHi := t1})).map V.d) sz41 rfl rfl rfl rfl rfl (ones_of rfl) rfl ?_
 refine rS 5 0 ((eSpan ({t0 with mLo := t1})).map V.d) sz41 rfl rfl rfl rfl rfl (ones_of rfl) rfl ?_
 refine rM 6 (iV 0) rfl rfl ?_
 refine rg_nil ⟨by kernel_rfl, ?_⟩
 refine ht_ret ?_
 cases h
 exact ret3 rfl (.cell rfl rfl ag41 (ble _ _ rfl) rfl) (.cell rfl rfl ag41 (ble _ _ rfl) rfl) (.tmp rfl)
theorem s110 (k : Nat) (t0 : Shard) (r : Bool) (h : F110 k t0 = some r) : Awp.Spec Tryz.prog amb 110 [(.agg (eShard t0))] (.ds [(.s (.bool r))]) := by
 rw [F110] at h
 refine spec_of Tryz.func110 rfl (ble _ _ rfl) fun w0 ok0 lt0 hA => ?_
 refine sr ?_
 refine sT 1 (.d (.dp (eShard t0))) rfl (v_box_d (cs := (eShard t0)) rfl · · · rfl rfl (ones_of rfl)) ?_
 refine sM 2 (bV false) rfl rfl ?_
 refine sq_nil ?_
 refine sr ?_
 refine sD 3 (eShard t0) fo45_0 rfl rfl rfl ?_
 refine sT 4 (iV t0.mID) rfl (vl rfl onT3 rfl rfl) ?_
 refine sT 5 (bV (ltI 0 t0.mID)) rfl (vb rfl rfl rfl (b_gtr rfl)) ?_
 refine sM 6 (bV (ltI 0 t0.mID)) rfl rfl ?_
 refine sG 7 (.d (.dp (List.drop 4 (eShard t0)))) rfl rfl (fun e1 => (vD (eShard t0) fo45_3 · · · rfl rfl)) ?_
 refine sG 8 (iV t0.mPhase) rfl rfl (fun e2 => (vl rfl onT3 (gv e2) rfl)) ?_
 refine sG 9 (bV (eqI t0.mPhase 1)) rfl rfl (fun e3 => (vb rfl (gv e3) rfl (b_eql rfl))) ?_
 refine sT 10 (bV ((ltI 0 t0.mID) && (eqI t0.mPhase 1))) rfl (vp rfl rfl (fun e4 => (gv e4)) (fun e5 => rfl) (pA _ _)) ?_
 refine sM 11 (bV ((ltI 0 t0.mID) && (eqI t0.mPhase 1))) rfl rfl ?_
 refine sG 12 (.d (.dp (List.drop 13 (eShard t0)))) rfl rfl (fun e6 => (vD (eShard t0) fo45_8 · · · rfl rfl)) ?_
 refine sG 13 (iV t0.mHold) rfl rfl (fun e7 => (vl rfl onT3 (gv e7) rfl)) ?_
 refine sG 14 (bV (eqI t0.mHold 0)) rfl rfl (fun e8 => (vb rfl (gv e8) rfl (b_eql rfl))) ?_
 refine sT 15 (bV (((ltI 0 t0.mID) && (eqI t0.mPhase 1)) && (eqI t0.mHold 0))) rfl (vp rfl rfl (fun e9 => (gv e9)) (fun e10 => rfl) (pA _ _)) ?_
 refine sM 2 (bV (((ltI 0 t0.mID) && (eqI t0.mPhase 1)) && (eqI t0.mHold 0))) rfl rfl ?_
 refine sz ?_
 cases h
 exact ret1 rfl (.tmp rfl)
theorem s111 (k : Nat) (t0 : List Entry) (t1 : ByteArray) (t2 : Bool) (r : (List Entry)) (h : F111 k t0 t1 t2 = some r) : Awp.Spec Tryz.prog amb 111 [(.sl 2 (t0.map eEntry)), (.s (.string t1)), (.s (.bool t2))] (.ds [(.sl 2 (r.map eEntry))]) := by
 rw [F111] at h
 refine spec_of Tryz.func111 rfl (ble _ _ rfl) fun w0 ok0 lt0 hA => ?_
 refine sr ?_
 refine sM 6 (.d (.s (.slice none 0 0))) rfl rfl ?_
 refine sq_nil ?_
 refine sr ?_
 refine sM 7 (.d (.s (.slice none 0 0))) rfl rfl ?_
 refine sq_nil ?_
 refine ht_bj h (fun t7 => tell [(.b 1007, .row false 116 2 (t7.map eEntry)), (.t 7, .own 1007 2 t7.length)]) (fun t7 h => ?_) (fun v1 K2 h j4 => ?_)
 ·refine sr ?_
  refine sM 32 (.own 1007 2 t7.length) rfl rfl ?_
  refine sM 6 (.own 1007 2 t7.length) rfl rfl ?_
  refine sz ?_
  cases h
  exact retM_wk (wk_still_row 1007 _ _ _ rfl) (retM_wk (wk_row (.t 6) (nb 6) 1007 _ _ _ _ rfl rfl (lm _ _)) (retM_wk (wk_row (.t 7) (nb 7) 1007 _ _ _ _ rfl rfl (lm _ _)) (retM_wk (wk_row (.t 32) (nb 32) 1007 _ _ _ _ rfl rfl (lm _ _)) (ret1 rfl (.tmp rfl)))))
 refine sr ?_
 refine sM 8 (iV 0) rfl rfl ?_
 refine sq_nil ?_
 refine ht_block ?_
 refine ht_rd h (fun _ => rfl) (fun (t7_1, t8) => tell [(.b 1007, .row false 116 2 (t7_1.map eEntry)), (.t 0, .d (.sl 2 (t0.map eEntry))), (.t 1, sV t1), (.t 2, bV t2), (.t 7, .own 1007 2 t7_1.length), (.t 8, iV t8)]) (wkt (wk_nilrow (.t 7) (nb 7) 1001007 116 2 rfl rfl) (wr (fun i => bif Nat.beq i 1007 then 1001007 else i) rfl rfl)) fun k v8 h K15 j7 => ?_
 obtain ⟨t7_1, t8⟩ := v8
 rw [F111_l1] at h
 refine ht_seq ?_
 refine sr ?_
 refine sM 9 (iV t8) rfl rfl ?_
 refine sM 10 (.d (.sl 2 (t0.map eEntry))) rfl rfl ?_
 refine sT 11 (iV (t0.length : Int)) rfl (w_len t0 eEntry rfl rfl · · · slT42 rfl) ?_
 refine sT 12 (bV (ltI t8 (t0.length : Int))) rfl (vb rfl rfl rfl (b_lss rfl)) ?_
 refine sq_nil ?_
 refine ht_cond rfl (fun e9 => ?_) (fun e9 => ?_)
 ·replace h := cpos e9 h
  refine ht_skip ?_
  refine ht_seq ?_
  refine ht_block ?_
  refine sr ?_
  refine sM 15 (.d (.sl 2 (t0.map eEntry))) rfl rfl ?_
  refine sM 16 (iV t8) rfl rfl ?_
  obtain ⟨e10, h⟩ := gpos h
  refine sT 17 (.d (.dp (eEntry (rd t0 t8)))) rfl (w_idx t0 eEntry rfl · · · slT42 rfl rfl e10) ?_
  refine sD 18 (eEntry (rd t0 t8)) fo116_0 rfl rfl rfl ?_
  refine sT 19 (sV (rd t0 t8).mKey) rfl (vl rfl onT9 rfl rfl) ?_
  refine sM 20 (sV t1) rfl rfl ?_
  obtain ⟨t21, c11, h⟩ := bpos h
  refine sC 21 (iV t21) (s119 k (rd t0 t8).mKey t1 _ c11) en119 rfl rfl rfl rfl ?_
  refine sT 22 (bV (ltI t21 0)) rfl (vb rfl rfl rfl (b_lss rfl)) ?_
  refine sM 23 (bV t2) rfl rfl ?_
  refine sT 24 (bV ((ltI t21 0) == t2)) rfl (vb rfl rfl rfl (b_eqB und4 rfl)) ?_
  refine sq_nil ?_
  refine ht_cond rfl (fun e12 => ?_) (fun e12 => ?_)
  ·replace h := cpos e12 h
   refine ht_region ?_
   refine sM 25 (.own 1007 2 t7_1.length) rfl rfl ?_
   refine sM 26 (.d (.sl 2 (t0.map eEntry))) rfl rfl ?_
   refine sM 27 (iV t8) rfl rfl ?_
   obtain ⟨e13, h⟩ := gpos h
   refine sT 28 (.d (.dp (eEntry (rd t0 t8)))) rfl (w_idx t0 eEntry rfl · · · slT42 rfl rfl e13) ?_
   refine sP 29 (eEntry (rd t0 t8)) (eEntry (rd t0 t8)) ag116 rfl rfl rfl rfl rfl ?_
   refine sq_cons ⟨_, [(.b 30, .row false 116 2 (([(rd t0 t8)]).map eEntry)), (.t 30, .own 30 2 ([(rd t0 t8)]).length)]⟩ (w_bsl (id := 30) [(0, .d (.agg (eEntry (rd t0 t8))))] [(rd t0 t8)] eEntry rfl trivial rfl (ble _ _ rfl) slT42 zr116 teEntry (ble _ _ rfl) rfl (by kernel_rfl) rfl rfl (by kernel_rfl) (by kernel_rfl)) ?_
   obtain ⟨e14, h⟩ := gpos h
   refine sq_cons ⟨_, [(.b 1007, .spent), (.b 31, .row false 116 2 ((t7_1 ++ [(rd t0 t8)]).map eEntry)), (.t 31, .own 31 2 (t7_1 ++ [(rd t0 t8)]).length)]⟩ (w_app 31 t7_1 ([(rd t0 t8)]) eEntry rfl rfl trivial rfl (ble _ _ rfl) slT42 elT116 teEntry rfl rfl rfl (.own 30 _ _ rfl) rfl e14) ?_
   refine sM 7 (.own 31 2 (t7_1 ++ [(rd t0 t8)]).length) rfl rfl ?_
   refine sq_nil ?_
   refine ht_region ?_
   refine sM 13 (iV t8) rfl rfl ?_
   refine sT 14 (iV (IntKind.wrap .i64 (t8 + 1))) rfl (vb rfl rfl rfl (b_add rfl)) ?_
   refine sM 8 (iV (IntKind.wrap .i64 (t8 + 1))) rfl rfl ?_
   refine sq_nil ?_
   exact j7 _ _ h (wr (fun i => bif Nat.beq i 1007 then 31 else i) rfl rfl)
  replace h := cneg e12 h
  refine ht_skip ?_
  refine ht_region ?_
  refine sM 13 (iV t8) rfl rfl ?_
  refine sT 14 (iV (IntKind.wrap .i64 (t8 + 1))) rfl (vb rfl rfl rfl (b_add rfl)) ?_
  refine sM 8 (iV (IntKind.wrap .i64 (t8 + 1))) rfl rfl ?_
  refine sq_nil ?_
  exact j7 _ _ h (wi rfl rfl)
 replace h := cneg e9 h
 refine ht_exit ?_
 refine tq ?_
 refine tq ?_
 refine bq_hit ?_
 cases h
 exact j4 _ (wi rfl rfl)
theorem s49 (k : Nat) (t0 : Cell) (t1 : Int) (t2 : Int) (t3 : ByteArray) (t4 : Int) (t5 : Int) (r : Cell × Bool) (h : F49 k t0 t1 t2 t3 t4 t5 = some r) : Awp.Spec Tryz.prog amb 49 [(.agg (eCell t0)), (.s (.int .i64 t1)), (.s (.int .i64 t2)), (.s (.string t3)), (.s (.int .i64 t4)), (.s (.int .i64 t5))] (.ds [(.agg (eCell r.1)), (.s (.bool r.2))]) := by
 rw [F49] at h
 refine spec_of Tryz.func49 rfl (ble _ _ rfl) fun w0 ok0 lt0 hA => ?_
 refine sr ?_
 refine sT 6 (.d (.dp (eCell t0))) rfl (v_box_d (cs := (eCell t0)) rfl · · · rfl rfl (ones_of rfl)) ?_
 refine sq_cons _ (v_alloc (id := 12) (cs := zc26) rfl trivial rfl (ble _ _ rfl) zu26 rfl ft26 rfl) ?_
 refine sM 13 (bV false) rfl rfl ?_
 refine sq_nil ?_
 refine ht_seq ?_
 refine sr ?_
 refine sP 19 (eCell t0) (eCell t0) ag26 rfl rfl rfl rfl rfl ?_
 obtain ⟨t20, c1, h⟩ := bpos h
 refine sC 20 (bV t20) (s22 k t0 _ c1) en22 rfl rfl rfl rfl ?_
 refine sT 21 (bV (!t20)) rfl (vu rfl rfl (u_not rfl)) ?_
 refine sM 22 (bV (!t20)) rfl rfl ?_
 refine sF 23 (iV t1) rfl rfl (fun e2 => (vm rfl rfl)) ?_
 obtain ⟨t24, c4, h⟩ := bpos h
 refine sF 24 (bV t24) rfl rfl (fun e3 => (vC (s66 k t1 _ (cpos (nF e3) c4)) en66 · · · rfl (cc (gv (nF e3)) rfl) rfl)) ?_
 refine sF 25 (bV (!t24)) rfl rfl (fun e5 => (vu rfl (gv (nF e5)) (u_not rfl))) ?_
 refine sT 26 (bV ((!t20) || (!t24))) rfl (vp rfl rfl (fun e6 => rfl) (fun e7 => (gv (nF e7))) (pO _ _)) ?_
 refine sM 27 (bV ((!t20) || (!t24))) rfl rfl ?_
 refine sF 28 (iV t2) rfl rfl (fun e8 => (vm rfl rfl)) ?_
 obtain ⟨t29, c10, h⟩ := bpos h
 refine sF 29 (bV t29) rfl rfl (fun e9 => (vC (s66 k t2 _ (cpos (nF e9) c10)) en66 · · · rfl (cc (gv (nF e9)) rfl) rfl)) ?_
 refine sF 30 (bV (!t29)) rfl rfl (fun e11 => (vu rfl (gv (nF e11)) (u_not rfl))) ?_
 refine sT 31 (bV (((!t20) || (!t24)) || (!t29))) rfl (vp rfl rfl (fun e12 => rfl) (fun e13 => (gv (nF e13))) (pO _ _)) ?_
 refine sM 32 (bV (((!t20) || (!t24)) || (!t29))) rfl rfl ?_
 refine sF 33 (iV t4) rfl rfl (fun e14 => (vm rfl rfl)) ?_
 obtain ⟨t34, c16, h⟩ := bpos h
 refine sF 34 (bV t34) rfl rfl (fun e15 => (vC (s66 k t4 _ (cpos (nF e15) c16)) en66 · · · rfl (cc (gv (nF e15)) rfl) rfl)) ?_
 refine sF 35 (bV (!t34)) rfl rfl (fun e17 => (vu rfl (gv (nF e17)) (u_not rfl))) ?_
 refine sT 36 (bV ((((!t20) || (!t24)) || (!t29)) || (!t34))) rfl (vp rfl rfl (fun e18 => rfl) (fun e19 => (gv (nF e19))) (pO _ _)) ?_
 refine sM 37 (bV ((((!t20) || (!t24)) || (!t29)) || (!t34))) rfl rfl ?_
 refine sF 38 (iV t5) rfl rfl (fun e20 => (vm rfl rfl)) ?_
 obtain ⟨t39, c22, h⟩ := bpos h
 refine sF 39 (bV t39) rfl rfl (fun e21 => (vC (s66 k t5 _ (cpos (nF e21) c22)) en66 · · · rfl (cc (gv (nF e21)) rfl) rfl)) ?_
 refine sF 40 (bV (!t39)) rfl rfl (fun e23 => (vu rfl (gv (nF e23)) (u_not rfl))) ?_
 refine sT 41 (bV (((((!t20) || (!t24)) || (!t29)) || (!t34)) || (!t39))) rfl (vp rfl rfl (fun e24 => rfl) (fun e25 => (gv (nF e25))) (pO _ _)) ?_
 refine sq_nil ?_
 refine ht_cond rfl (fun e26 => ?_) (fun e26 => ?_)
 ·replace h := cpos e26 h
  refine sr ?_
  refine sP 42 (eCell t0) (eCell t0) ag26 rfl rfl rfl rfl rfl ?_
  refine sS 12 0 ((eCell t0).map V.d) sz26 rfl rfl rfl rfl rfl (ones_of rfl) rfl ?_
  refine sM 13 (bV false) rfl rfl ?_
  refine sz ?_
  cases h
  exact ret2 rfl (.cell rfl rfl ag26 (ble _ _ rfl) rfl) (.tmp rfl)
 replace h := cneg e26 h
 refine ht_skip ?_
 refine ht_seq ?_
 refine ht_region_draw mixed ?_
 refine rP 43 (eCell t0) (eCell t0) ag26 rfl rfl rfl rfl rfl ?_
 refine rM 44 (iV t1) rfl rfl ?_
 obtain ⟨t45, c27, h⟩ := bpos h
 refine rC 45 (.d (.agg (eShard t45))) (s24 k t0 t1 _ c27) en24 rfl rfl rfl rfl ?_
 refine rP 46 (eCell t0) (eCell t0) ag26 rfl rfl rfl rfl rfl ?_
 refine rM 47 (iV t4) rfl rfl ?_
 obtain ⟨t48, c28, h⟩ := bpos h
 refine rC 48 (.d (.agg (eShard t48))) (s24 k t0 t4 _ c28) en24 rfl rfl rfl rfl ?_
 refine rg_cons _ (v_alloc (id := 14) (cs := zc45) rfl trivial rfl (ble _ _ rfl) zu45 rfl ft45 rfl) ?_
 refine rg_cons _ (v_alloc (id := 15) (cs := zc45) rfl trivial rfl (ble _ _ rfl) zu45 rfl ft45 rfl) ?_
 refine rS 14 0 ((eShard t45).map V.d) sz45 rfl rfl rfl rfl rfl (ones_of rfl) rfl ?_
 refine rS 15 0 ((eShard t48).map V.d) sz45 rfl rfl rfl rfl rfl (ones_of rfl) rfl ?_
 refine rg_nil ⟨by kernel_rfl, ?_⟩
 refine ht_seq ?_
 refine sr ?_
 refine sT 49 (.ptr 14 0) rfl (v_field_box (off := 0) (a0 := 0) rfl · · · fo45_0 rfl) ?_
 refine sT 50 (iV t45.mID) rfl (v_load_box1 (id := 14) (off := 0) rfl · · · onT3 rfl rfl (ble _ _ rfl) rfl) ?_
 refine sT 51 (bV (ltI 0 t45.mID)) rfl (vb rfl rfl rfl (b_gtr rfl)) ?_
 refine sM 52 (bV (ltI 0 t45.mID)) rfl rfl ?_
 refine sG 53 (.ptr 15 0) rfl rfl (fun e29 => (v_field_box (off := 0) (a0 := 0) rfl · · · fo45_0 rfl)) ?_
 refine sG 54 (iV t48.mID) rfl rfl (fun e30 => (v_load_box1 (id := 15) (off := 0) rfl · · · onT3 (gv e30) rfl (ble _ _ rfl) rfl)) ?_
 refine sG 55 (bV (ltI 0 t48.mID)) rfl rfl (fun e31 => (vb rfl (gv e31) rfl (b_gtr rfl))) ?_
 refine sT 56 (bV ((ltI 0 t45.mID) && (ltI 0 t48.mID))) rfl (vp rfl rfl (fun e32 => (gv e32)) (fun e33 => rfl) (pA _ _)) ?_
 refine sM 57 (bV ((ltI 0 t45.mID) && (ltI 0 t48.mID))) rfl rfl ?_
 refine sG 58 (.ptr 14 1) rfl rfl (fun e34 => (v_field_box (off := 0) (a0 := 1) rfl · · · fo45_1 rfl)) ?_
 refine sG 59 (iV t45.mEpoch) rfl rfl (fun e35 => (v_load_box1 (id := 14) (off := 1) rfl · · · onT3 (gv e35) rfl (ble _ _ rfl) rfl)) ?_
 refine sG 60 (iV t5) rfl rfl (fun e36 => (vm rfl rfl)) ?_
 refine sG 61 (bV (eqI t45.mEpoch t5)) rfl rfl (fun e37 => (vb rfl (gv e37) (gv e37) (b_eql rfl))) ?_
 refine sT 62 (bV (((ltI 0 t45.mID) && (ltI 0 t48.mID)) && (eqI t45.mEpoch t5))) rfl (vp rfl rfl (fun e38 => (gv e38)) (fun e39 => rfl) (pA _ _)) ?_
 refine sM 63 (bV (((ltI 0 t45.mID) && (ltI 0 t48.mID)) && (eqI t45.mEpoch t5))) rfl rfl ?_
 refine sG 64 (.ptr 15 1) rfl rfl (fun e40 => (v_field_box (off := 0) (a0 := 1) rfl · · · fo45_1 rfl)) ?_
 refine sG 65 (iV t48.mEpoch) rfl rfl (fun e41 => (v_load_box1 (id := 15) (off := 1) rfl · · · onT3 (gv e41) rfl (ble _ _ rfl) rfl)) ?_
 refine sG 66 (iV t5) rfl rfl (fun e42 => (vm rfl rfl)) ?_
 refine sG 67 (bV (eqI t48.mEpoch t5)) rfl rfl (fun e43 => (vb rfl (gv e43) (gv e43) (b_eql rfl))) ?_
 refine sT 68 (bV ((((ltI 0 t45.mID) && (ltI 0 t48.mID)) && (eqI t45.mEpoch t5)) && (eqI t48.mEpoch t5))) rfl (vp rfl rfl (fun e44 => (gv e44)) (fun e45 => rfl) (pA _ _)) ?_
 refine sM 69 (bV ((((ltI 0 t45.mID) && (ltI 0 t48.mID)) && (eqI t45.mEpoch t5)) && (eqI t48.mEpoch t5))) rfl rfl ?_
 refine sG 70 (.ptr 14 2) rfl rfl (fun e46 => (v_field_box (off := 0) (a0 := 2) rfl · · · fo45_2 rfl)) ?_
 refine sG 71 (.ptr 14 3) rfl rfl (fun e47 => (v_field_box (off := 2) (a0 := 1) rfl · · · fo41_1 (gv e47))) ?_
 refine sG 72 (sV t45.mSpan.mHi) rfl rfl (fun e48 => (v_load_box1 (id := 14) (off := 3) rfl · · · onT9 (gv e48) rfl (ble _ _ rfl) rfl)) ?_
 refine sG 73 (sV t3) rfl rfl (fun e49 => (vm rfl rfl)) ?_
 refine sG 74 (bV (strEq t45.mSpan.mHi t3)) rfl rfl (fun e50 => (vb rfl (gv e50) (gv e50) (b_eqS rfl))) ?_
 refine sT 75 (bV (((((ltI 0 t45.mID) && (ltI 0 t48.mID)) && (eqI t45.mEpoch t5)) && (eqI t48.mEpoch t5)) && (strEq t45.mSpan.mHi t3))) rfl (vp rfl rfl (fun e51 => (gv e51)) (fun e52 => rfl) (pA _ _)) ?_
 refine sq_nil ?_
 refine ht_cond rfl (fun e53 => ?_) (fun e53 => ?_)
 ·replace h := cpos e53 h
  refine sr ?_
  refine sP 76 (eCell t0) (eCell t0) ag26 rfl rfl rfl rfl rfl ?_
  refine sS 12 0 ((eCell t0).map V.d) sz26 rfl rfl rfl rfl rfl (ones_of rfl) rfl ?_
  refine sM 13 (bV true) rfl rfl ?_
  refine sz ?_
  cases h
  exact ret2 rfl (.cell rfl rfl ag26 (ble _ _ rfl) rfl) (.tmp rfl)
 replace h := cneg e53 h
 refine ht_skip ?_
 refine sr ?_
 refine sT 78 (.ptr 14 2) rfl (v_field_box (off := 0) (a0 := 2) rfl · · · fo45_2 rfl) ?_
 refine sT 79 (.d (.agg (eSpan t45.mSpan))) rfl (w_ldb 14 2 rfl · · · ag41 rfl rfl (ble _ _ rfl) rfl) ?_
 refine sM 80 (sV t3) rfl rfl ?_
 obtain ⟨⟨t81a, t81b, t81c⟩, c54, h⟩ := bpos h
 refine sC 81 (.tup [.d (.agg (eSpan t81a)), .d (.agg (eSpan t81b)), iV t81c]) (s109 k t45.mSpan t3 _ c54) en109 rfl rfl rfl rfl ?_
 refine sM 77 (.tup [.d (.agg (eSpan t81a)), .d (.agg (eSpan t81b)), iV t81c]) rfl rfl ?_
 refine sT 82 (.d (.agg (eSpan t81a))) rfl (ve rfl rfl rfl) ?_
 refine sT 83 (.d (.agg (eSpan t81b))) rfl (ve rfl rfl rfl) ?_
 refine sT 84 (iV t81c) rfl (ve rfl rfl rfl) ?_
 refine sq_cons _ (v_alloc (id := 16) (cs := zc41) rfl trivial rfl (ble _ _ rfl) zu41 rfl ft41 rfl) ?_
 refine sq_cons _ (v_alloc (id := 17) (cs := zc41) rfl trivial rfl (ble _ _ rfl) zu41 rfl ft41 rfl) ?_
 refine sS 16 0 ((eSpan t81a).map V.d) sz41 rfl rfl rfl rfl rfl (ones_of rfl) rfl ?_
 refine sS 17 0 ((eSpan t81b).map V.d) sz41 rfl rfl rfl rfl rfl (ones_of rfl) rfl ?_
 refine sM 18 (iV t81c) rfl rfl ?_
 refine sq_nil ?_
 refine ht_seq ?_
 refine sr ?_
 refine sT 85 (.d (.agg (eShard t45))) rfl (w_ldb 14 0 rfl · · · ag45 rfl rfl (ble _ _ rfl) rfl) ?_
 obtain ⟨t86, c55, h⟩ := bpos h
 refine sC 86 (bV t86) (s110 k t45 _ c55) en110 rfl rfl rfl rfl ?_
 refine sT 87 (bV (!t86)) rfl (vu rfl rfl (u_not rfl)) ?_
 refine sM 88 (bV (!t86)) rfl rfl ?_
 refine sF 89 (.ptr 14 1) rfl rfl (fun e56 => (v_field_box (off := 0) (a0 := 1) rfl · · · fo45_1 rfl)) ?_
 refine sF 90 (iV t45.mEpoch) rfl rfl (fun e57 => (v_load_box1 (id := 14) (off := 1) rfl · · · onT3 (gv (nF e57)) rfl (ble _ _ rfl) rfl)) ?_
 refine sF 91 (iV t2) rfl rfl (fun e58 => (vm rfl rfl)) ?_
 refine sF 92 (bV (!eqI t45.mEpoch t2)) rfl rfl (fun e59 => (vb rfl (gv (nF e59)) (gv (nF e59)) (b_neq rfl))) ?_
 refine sT 93 (bV ((!t86) || (!eqI t45.mEpoch t2))) rfl (vp rfl rfl (fun e60 => rfl) (fun e61 => (gv (nF e61))) (pO _ _)) ?_
 refine sM 94 (bV ((!t86) || (!eqI t45.mEpoch t2))) rfl rfl ?_
 refine sF 95 (iV t5) rfl rfl (fun e62 => (vm rfl rfl)) ?_
 refine sF 96 (iV t2) rfl rfl (fun e63 => (vm rfl rfl)) ?_
 refine sF 97 (bV (leI t5 t2)) rfl rfl (fun e64 => (vb rfl (gv (nF e64)) (gv (nF e64)) (b_leq rfl))) ?_
 refine sT 98 (bV (((!t86) || (!eqI t45.mEpoch t2)) || (leI t5 t2))) rfl (vp rfl rfl (fun e65 => rfl) (fun e66 => (gv (nF e66))) (pO _ _)) ?_
 refine sM 99 (bV (((!t86) || (!eqI t45.mEpoch t2)) || (leI t5 t2))) rfl rfl ?_
 refine sF 100 (iV t5) rfl rfl (fun e67 => (vm rfl rfl)) ?_
 refine sF 101 (.ptr 14 16) rfl rfl (fun e68 => (v_field_box (off := 0) (a0 := 16) rfl · · · fo45_11 rfl)) ?_
 refine sF 102 (iV t45.mClosed) rfl rfl (fun e69 => (v_load_box1 (id := 14) (off := 16) rfl · · · onT3 (gv (nF e69)) rfl (ble _ _ rfl) rfl)) ?_
 refine sF 103 (bV (leI t5 t45.mClosed)) rfl rfl (fun e70 => (vb rfl (gv (nF e70)) (gv (nF e70)) (b_leq rfl))) ?_
 refine sT 104 (bV ((((!t86) || (!eqI t45.mEpoch t2)) || (leI t5 t2)) || (leI t5 t45.mClosed))) rfl (vp rfl rfl (fun e71 => rfl) (fun e72 => (gv (nF e72))) (pO _ _)) ?_
 refine sM 105 (bV ((((!t86) || (!eqI t45.mEpoch t2)) || (leI t5 t2)) || (leI t5 t45.mClosed))) rfl rfl ?_
 refine sF 106 (.ptr 15 0) rfl rfl (fun e73 => (v_field_box (off := 0) (a0 := 0) rfl · · · fo45_0 rfl)) ?_
 refine sF 107 (iV t48.mID) rfl rfl (fun e74 => (v_load_box1 (id := 15) (off := 0) rfl · · · onT3 (gv (nF e74)) rfl (ble _ _ rfl) rfl)) ?_
 refine sF 108 (bV (ltI 0 t48.mID)) rfl rfl (fun e75 => (vb rfl (gv (nF e75)) rfl (b_gtr rfl))) ?_
 refine sT 109 (bV (((((!t86) || (!eqI t45.mEpoch t2)) || (leI t5 t2)) || (leI t5 t45.mClosed)) || (ltI 0 t48.mID))) rfl (vp rfl rfl (fun e76 => rfl) (fun e77 => (gv (nF e77))) (pO _ _)) ?_
 refine sM 110 (bV (((((!t86) || (!eqI t45.mEpoch t2)) || (leI t5 t2)) || (leI t5 t45.mClosed)) || (ltI 0 t48.mID))) rfl rfl ?_
 refine sF 111 (.d (.dp (eCell t0))) rfl rfl (fun e78 => (vD (eCell t0) fo26_0 · · · rfl rfl)) ?_
 refine sF 112 (.d (.sl 17 (t0.mShards.map eShard))) rfl rfl (fun e79 => (vl rfl onT22 (gv (nF e79)) rfl)) ?_
 refine sF 113 (iV (t0.mShards.length : Int)) rfl rfl (fun e80 => (w_len t0.mShards eShard rfl rfl · · · slT22 (gv (nF e80)))) ?_
 refine sF 114 (bV (ltI 7 (t0.mShards.length : Int))) rfl rfl (fun e81 => (vb rfl (gv (nF e81)) rfl (b_gtr rfl))) ?_
 refine sT 115 (bV ((((((!t86) || (!eqI t45.mEpoch t2)) || (leI t5 t2)) || (leI t5 t45.mClosed)) || (ltI 0 t48.mID)) || (ltI 7 (t0.mShards.length : Int)))) rfl (vp rfl rfl (fun e82 => rfl) (fun e83 => (gv (nF e83))) (pO _ _)) ?_
 refine sM 116 (bV ((((((!t86) || (!eqI t45.mEpoch t2)) || (leI t5 t2)) || (leI t5 t45.mClosed)) || (ltI 0 t48.mID)) || (ltI 7 (t0.mShards.length : Int)))) rfl rfl ?_
 refine sF 117 (iV t81c) rfl rfl (fun e84 => (vm rfl rfl)) ?_
 refine sF 118 (bV (!eqI t81c 0)) rfl rfl (fun e85 => (vb rfl (gv (nF e85)) rfl (b_neq rfl))) ?_
 refine sT 119 (bV (((((((!t86) || (!eqI t45.mEpoch t2)) || (leI t5 t2)) || (leI t5 t45.mClosed)) || (ltI 0 t48.mID)) || (ltI 7 (t0.mShards.length : Int))) || (!eqI t81c 0))) rfl (vp rfl rfl (fun e86 => rfl) (fun e87 => (gv (nF e87))) (pO _ _)) ?_
 refine sq_nil ?_
 refine ht_cond rfl (fun e88 => ?_) (fun e88 => ?_)
 ·replace h := cpos e88 h
  refine sr ?_
  refine sP 120 (eCell t0) (eCell t0) ag26 rfl rfl rfl rfl rfl ?_
  refine sS 12 0 ((eCell t0).map V.d) sz26 rfl rfl rfl rfl rfl (ones_of rfl) rfl ?_
  refine sM 13 (bV false) rfl rfl ?_
  refine sz ?_
  cases h
  exact ret2 rfl (.cell rfl rfl ag26 (ble _ _ rfl) rfl) (.tmp rfl)
 replace h := cneg e88 h
 refine ht_skip ?_
 refine sr ?_
 refine sT 121 (.d (.agg (eShard t45))) rfl (w_ldb 14 0 rfl · · · ag45 rfl rfl (ble _ _ rfl) rfl) ?_
 refine sS 15 0 ((eShard t45).map V.d) sz45 rfl rfl rfl rfl rfl (ones_of rfl) rfl ?_
 refine sq_nil ?_
 refine ht_seq ?_
 refine ht_region_draw mixed ?_
 refine rM 122 (iV t4) rfl rfl ?_
 refine rM 123 (iV t5) rfl rfl ?_
 refine rT 124 (.d (.agg (eSpan t81b))) rfl (w_ldb 17 0 rfl · · · ag41 rfl rfl (ble _ _ rfl) rfl) ?_
 refine rT 125 (.ptr 14 5) rfl (v_field_box (off := 0) (a0 := 5) rfl · · · fo45_4 rfl) ?_
 refine rT 126 (.d (.sl 2 (t45.mEntries.map eEntry))) rfl (v_load_box1 (id := 14) (off := 5) rfl · · · onT42 rfl rfl (ble _ _ rfl) rfl) ?_
 refine rM 127 (sV t3) rfl rfl ?_
 obtain ⟨t128, c89, h⟩ := bpos h
 refine rC 128 (.d (.sl 2 (t128.map eEntry))) (s111 k t45.mEntries t3 false _ c89) en111 rfl rfl rfl rfl ?_
 refine rT 129 (.ptr 15 0) rfl (v_field_box (off := 0) (a0 := 0) rfl · · · fo45_0 rfl) ?_
 refine rS 15 0 ([(.s (.int .i64 t4))].map V.d) sz3 rfl rfl rfl rfl rfl (ones_of rfl) rfl ?_
 refine rT 130 (.ptr 15 1) rfl (v_field_box (off := 0) (a0 := 1) rfl · · · fo45_1 rfl) ?_
 refine rS 15 1 ([(.s (.int .i64 t5))].map V.d) sz3 rfl rfl rfl rfl rfl (ones_of rfl) rfl ?_
 refine rT 131 (.ptr 15 2) rfl (v_field_box (off := 0) (a0 := 2) rfl · · · fo45_2 rfl) ?_
 refine rS 15 2 ((eSpan t81b).map V.d) sz41 rfl rfl rfl rfl rfl (ones_of rfl) rfl ?_
 refine rT 132 (.ptr 15 5) rfl (v_field_box (off := 0) (a0 := 5) rfl · · · fo45_4 rfl) ?_
 refine rS 15 5 ([(.sl 2 (t128.map eEntry))].map V.d) sz42 rfl rfl rfl rfl rfl (ones_of rfl) rfl ?_
 refine rg_nil ⟨by kernel_rfl, ?_⟩
 refine ht_seq ?_
 refine ht_region_draw mixed ?_
 refine rM 133 (iV t5) rfl rfl ?_
 refine rT 134 (.d (.agg (eSpan t81a))) rfl (w_ldb 16 0 rfl · · · ag41 rfl rfl (ble _ _ rfl) rfl) ?_
 refine rT 135 (.ptr 14 5) rfl (v_field_box (off := 0) (a0 := 5) rfl · · · fo45_4 rfl) ?_
 refine rT 136 (.d (.sl 2 (t45.mEntries.map eEntry))) rfl (v_load_box1 (id := 14) (off := 5) rfl · · · onT42 rfl rfl (ble _ _ rfl) rfl) ?_
 refine rM 137 (sV t3) rfl rfl ?_
 obtain ⟨t138, c90, h⟩ := bpos h
 refine rC 138 (.d (.sl 2 (t138.map eEntry))) (s111 k t45.mEntries t3 true _ c90) en111 rfl rfl rfl rfl ?_
 refine rT 139 (.ptr 14 1) rfl (v_field_box (off := 0) (a0 := 1) rfl · · · fo45_1 rfl) ?_
 refine rS 14 1 ([(.s (.int .i64 t5))].map V.d) sz3 rfl rfl rfl rfl rfl (ones_of rfl) rfl ?_
 refine rT 140 (.ptr 14 2) rfl (v_field_box (off := 0) (a0 := 2) rfl · · · fo45_2 rfl) ?_
 refine rS 14 2 ((eSpan t81a).map V.d) sz41 rfl rfl rfl rfl rfl (ones_of rfl) rfl ?_
 refine rT 141 (.ptr 14 5) rfl (v_field_box (off := 0) (a0 := 5) rfl · · · fo45_4 rfl) ?_
 refine rS 14 5 ([(.sl 2 (t138.map eEntry))].map V.d) sz42 rfl rfl rfl rfl rfl (ones_of rfl) rfl ?_
 refine rg_nil ⟨by kernel_rfl, ?_⟩
 refine ht_seq ?_
 refine ht_region_draw mixed ?_
 refine rP 142 (eCell t0) (eCell t0) ag26 rfl rfl rfl rfl rfl ?_
 refine rT 143 (.d (.agg (eShard ({t45 with mEpoch := t5, mSpan := t81a, mEntries := t138})))) rfl (w_ldb 14 0 rfl · · · ag45 rfl rfl (ble _ _ rfl) rfl) ?_
 obtain ⟨t144, c91, h⟩ := bpos h
 refine rC 144 (.d (.agg (eCell t144))) (s79 k t0 ({t45 with mEpoch := t5, mSpan := t81a, mEntries := t138}) false _ c91) en79 rfl rfl rfl rfl ?_
 refine rT 145 (.d (.agg (eShard ({t45 with mID := t4, mEpoch := t5, mSpan := t81b, mEntries := t128})))) rfl (w_ldb 15 0 rfl · · · ag45 rfl rfl (ble _ _ rfl) rfl) ?_
 obtain ⟨t146, c92, h⟩ := bpos h
 refine rC 146 (.d (.agg (eCell t146))) (s79 k t144 ({t45 with mID := t4, mEpoch := t5, mSpan := t81b, mEntries := t128}) false _ c92) en79 rfl rfl rfl rfl ?_
 refine rS 12 0 ((eCell t146).map V.d) sz26 rfl rfl rfl rfl rfl (ones_of rfl) rfl ?_
 refine rM 13 (bV true) rfl rfl ?_
 refine rg_nil ⟨by kernel_rfl, ?_⟩
 refine ht_ret ?_
 cases h
 exact ret2 rfl (.cell rfl rfl ag26 (ble _ _ rfl) rfl) (.tmp rfl)
theorem s112 (k : Nat) (t0 : Span) (t1 : Span) (r : Span × Int) (h : F112 k t0 t1 = some r) : Awp.Spec Tryz.prog amb 112 [(.agg (eSpan t0)), (.agg (eSpan t1))] (.ds [(.agg (eSpan r.1)), (.s (.int .i64 r.2))]) := by
 rw [F112] at h
 refine spec_of Tryz.func112 rfl (ble _ _ rfl) fun w0 ok0 lt0 hA => ?_
 refine sr ?_
 refine sT 2 (.d (.dp (eSpan t0))) rfl (v_box_d (cs := (eSpan t0)) rfl · · · rfl rfl (ones_of rfl)) ?_
 refine sT 3 (.d (.dp (eSpan t1))) rfl (v_box_d (cs := (eSpan t1)) rfl · · · rfl rfl (ones_of rfl)) ?_
 refine sq_cons _ (v_alloc (id := 4) (cs := zc41) rfl trivial rfl (ble _ _ rfl) zu41 rfl ft41 rfl) ?_
 refine sM 5 (iV 0) rfl rfl ?_
 refine sq_nil ?_
 refine ht_seq ?_
 refine ht_block ?_
 refine sr ?_
 refine sP 7 (eSpan t0) (eSpan t0) ag41 rfl rfl rfl rfl rfl ?_
 obtain ⟨t8, c1, h⟩ := bpos h
 refine sC 8 (bV t8) (s80 k t0 _ c1) en80 rfl rfl rfl rfl ?_
 refine sT 9 (bV (!t8)) rfl (vu rfl rfl (u_not rfl)) ?_
 refine sM 10 (bV (!t8)) rfl rfl ?_
 refine sF 11 (.d (.agg (eSpan t1))) rfl rfl (fun e2 => (w_ldp (eSpan t1) (eSpan t1) rfl · · · ag41 rfl (ble _ _ rfl) rfl)) ?_
 obtain ⟨t12, c4, h⟩ := bpos h
 refine sF 12 (bV t12) rfl rfl (fun e3 => (vC (s80 k t1 _ (cpos (nF e3) c4)) en80 · · · rfl (cc (gv (nF e3)) rfl) rfl)) ?_
 refine sF 13 (bV (!t12)) rfl rfl (fun e5 => (vu rfl (gv (nF e5)) (u_not rfl))) ?_
 refine sT 14 (bV ((!t8) || (!t12))) rfl (vp rfl rfl (fun e6 => rfl) (fun e7 => (gv (nF e7))) (pO _ _)) ?_
 refine sM 6 (bV ((!t8) || (!t12))) rfl rfl ?_
 refine sq_nil ?_
 refine ht_cond rfl (fun e8 => ?_) (fun e8 => ?_)
 ·replace h := cpos e8 h
  refine sr ?_
  refine sT 15 (.d (.agg (eSpan (⟨⟨#[]⟩, ⟨#[]⟩⟩ : Span)))) rfl (w_bld zc41 ((eSpan (⟨⟨#[]⟩, ⟨#[]⟩⟩ : Span)).map V.d) [] rfl · · · zw41 rfl ft41 rfl rfl rfl rfl) ?_
  refine sS 4 0 ((eSpan (⟨⟨#[]⟩, ⟨#[]⟩⟩ : Span)).map V.d) sz41 rfl rfl rfl rfl rfl (ones_of rfl) rfl ?_
  refine sM 5 (iV 1) rfl rfl ?_
  refine sz ?_
  cases h
  exact ret2 rfl (.cell rfl rfl ag41 (ble _ _ rfl) rfl) (.tmp rfl)
 replace h := cneg e8 h
 refine sr ?_
 refine sD 17 (eSpan t0) fo41_1 rfl rfl rfl ?_
 refine sT 18 (sV t0.mHi) rfl (vl rfl onT9 rfl rfl) ?_
 refine sT 19 (bV (strEq t0.mHi (⟨#[]⟩ : ByteArray))) rfl (vb rfl rfl rfl (b_eqS rfl)) ?_
 refine sM 20 (bV (strEq t0.mHi (⟨#[]⟩ : ByteArray))) rfl rfl ?_
 refine sF 21 (.d (.dp (List.drop 1 (eSpan t0)))) rfl rfl (fun e9 => (vD (eSpan t0) fo41_1 · · · rfl rfl)) ?_
 refine sF 22 (sV t0.mHi) rfl rfl (fun e10 => (vl rfl onT9 (gv (nF e10)) rfl)) ?_
 refine sF 23 (.d (.dp (eSpan t1))) rfl rfl (fun e11 => (vD (eSpan t1) fo41_0 · · · rfl rfl)) ?_
 refine sF 24 (sV t1.mLo) rfl rfl (fun e12 => (vl rfl onT9 (gv (nF e12)) rfl)) ?_
 refine sF 25 (bV (!strEq t0.mHi t1.mLo)) rfl rfl (fun e13 => (vb rfl (gv (nF e13)) (gv (nF e13)) (b_neS rfl))) ?_
 refine sT 26 (bV ((strEq t0.mHi (⟨#[]⟩ : ByteArray)) || (!strEq t0.mHi t1.mLo))) rfl (vp rfl rfl (fun e14 => rfl) (fun e15 => (gv (nF e15))) (pO _ _)) ?_
 refine sM 16 (bV ((strEq t0.mHi (⟨#[]⟩ : ByteArray)) || (!strEq t0.mHi t1.mLo))) rfl rfl ?_
 refine sq_nil ?_
 refine ht_cond rfl (fun e16 => ?_) (fun e16 => ?_)
 ·replace h := cpos e16 h
  refine sr ?_
  refine sT 27 (.d (.agg (eSpan (⟨⟨#[]⟩, ⟨#[]⟩⟩ : Span)))) rfl (w_bld zc41 ((eSpan (⟨⟨#[]⟩, ⟨#[]⟩⟩ : Span)).map V.d) [] rfl · · · zw41 rfl ft41 rfl rfl rfl rfl) ?_
  refine sS 4 0 ((eSpan (⟨⟨#[]⟩, ⟨#[]⟩⟩ : Span)).map V.d) sz41 rfl rfl rfl rfl rfl (ones_of rfl) rfl ?_
  refine sM 5 (iV 9) rfl rfl ?_
  refine sz ?_
  cases h
  exact ret2 rfl (.cell rfl rfl ag41 (ble _ _ rfl) rfl) (.tmp rfl)
 replace h := cneg e16 h
 refine ht_skip ?_
 refine sr ?_
 refine sD 28 (eSpan t0) fo41_0 rfl rfl rfl ?_
 refine sT 29 (sV t0.mLo) rfl (vl rfl onT9 rfl rfl) ?_
 refine sD 30 (eSpan t1) fo41_1 rfl rfl rfl ?_
 refine sT 31 (sV t1.mHi) rfl (vl rfl onT9 rfl rfl) ?_
 refine sT 32 (.d (.agg (eSpan ({t0 with mHi := t1.mHi})))) rfl (w_bld zc41 ((eSpan ({t0 with mHi := t1.mHi})).map V.d) [(0, sV t0.mLo), (1, sV t1.mHi)] rfl · · · zw41 rfl ft41 rfl rfl rfl rfl) ?_
 refine sS 4 0 ((eSpan ({t0 with mHi := t1.mHi})).map V.d) sz41 rfl rfl rfl rfl rfl (ones_of rfl) rfl ?_
 refine sM 5 (iV 0) rfl rfl ?_
 refine sz ?_
 cases h
 exact ret2 rfl (.cell rfl rfl ag41 (ble _ _ rfl) rfl) (.tmp rfl)
theorem s113 (k : Nat) (t0 : List Entry) (t1 : List Entry) (r : (List Entry) × Int) (h : F113 k t0 t1 = some r) : Awp.Spec Tryz.prog amb 113 [(.sl 2 (t0.map eEntry)), (.sl 2 (t1.map eEntry))] (.ds [(.sl 2 (r.1.map eEntry)), (.s (.int .i64 r.2))]) := by
 rw [F113] at h
 refine spec_of Tryz.func113 rfl (ble _ _ rfl) fun w0 ok0 lt0 hA => ?_
 refine sr ?_
 refine sM 4 (.d (.s (.slice none 0 0))) rfl rfl ?_
 refine sM 5 (iV 0) rfl rfl ?_
 refine sq_nil ?_
 refine ht_seq ?_
 refine ht_block ?_
 refine sr ?_
 refine sM 7 (.d (.sl 2 (t0.map eEntry))) rfl rfl ?_
 obtain ⟨t8, c1, h⟩ := bpos h
 refine sC 8 (bV t8) (s81 k t0 _ c1) en81 rfl rfl rfl rfl ?_
 refine sT 9 (bV (!t8)) rfl (vu rfl rfl (u_not rfl)) ?_
 refine sM 10 (bV (!t8)) rfl rfl ?_
 refine sF 11 (.d (.sl 2 (t1.map eEntry))) rfl rfl (fun e2 => (vm rfl rfl)) ?_
 obtain ⟨t12, c4, h⟩ := bpos h
 refine sF 12 (bV t12) rfl rfl (fun e3 => (vC (s81 k t1 _ (cpos (nF e3) c4)) en81 · · · rfl (cc (gv (nF e3)) rfl) rfl)) ?_
 refine sF 13 (bV (!t12)) rfl rfl (fun e5 => (vu rfl (gv (nF e5)) (u_not rfl))) ?_
 refine sT 14 (bV ((!t8) || (!t12))) rfl (vp rfl rfl (fun e6 => rfl) (fun e7 => (gv (nF e7))) (pO _ _)) ?_
 refine sM 6 (bV ((!t8) || (!t12))) rfl rfl ?_
 refine sq_nil ?_
 refine ht_cond rfl (fun e8 => ?_) (fun e8 => ?_)
 ·replace h := cpos e8 h
  refine sr ?_
  refine sM 4 (.d (.s (.slice none 0 0))) rfl rfl ?_
  refine sM 5 (iV 1) rfl rfl ?_
  refine sz ?_
  cases h
  exact retM_wk (wk_nil (.t 4) (nb 4) 2 rfl) (ret2 rfl (.tmp rfl) (.tmp rfl))
 replace h := cneg e8 h
 refine ht_seq ?_
 refine ht_region_draw mixed ?_
 refine rM 16 (.d (.sl 2 (t0.map eEntry))) rfl rfl ?_
 refine rT 17 (iV (t0.length : Int)) rfl (w_len t0 eEntry rfl rfl · · · slT42 rfl) ?_
 refine rT 18 (bV (ltI 0 (t0.length : Int))) rfl (vb rfl rfl rfl (b_gtr rfl)) ?_
 refine rM 19 (bV (ltI 0 (t0.length : Int))) rfl rfl ?_
 refine rG 20 (.d (.sl 2 (t1.map eEntry))) rfl rfl (fun e9 => (vm rfl rfl)) ?_
 refine rG 21 (iV (t1.length : Int)) rfl rfl (fun e10 => (w_len t1 eEntry rfl rfl · · · slT42 (gv e10))) ?_
 refine rG 22 (bV (ltI 0 (t1.length : Int))) rfl rfl (fun e11 => (vb rfl (gv e11) rfl (b_gtr rfl))) ?_
 refine rT 23 (bV ((ltI 0 (t0.length : Int)) && (ltI 0 (t1.length : Int)))) rfl (vp rfl rfl (fun e12 => (gv e12)) (fun e13 => rfl) (pA _ _)) ?_
 refine rM 24 (bV ((ltI 0 (t0.length : Int)) && (ltI 0 (t1.length : Int)))) rfl rfl ?_
 refine rG 25 (.d (.sl 2 (t0.map eEntry))) rfl rfl (fun e14 => (vm rfl rfl)) ?_
 refine rG 26 (.d (.sl 2 (t0.map eEntry))) rfl rfl (fun e15 => (vm rfl rfl)) ?_
 refine rG 27 (iV (t0.length : Int)) rfl rfl (fun e16 => (w_len t0 eEntry rfl rfl · · · slT42 (gv e16))) ?_
 refine rG 28 (iV (IntKind.wrap .i64 ((t0.length : Int) - 1))) rfl rfl (fun e17 => (vb rfl (gv e17) rfl (b_sub rfl))) ?_
 obtain ⟨e19, h⟩ := gpos h
 refine rG 29 (.d (.dp (eEntry (rd t0 (IntKind.wrap .i64 ((t0.length : Int) - 1)))))) rfl rfl (fun e18 => (w_idx t0 eEntry rfl · · · slT42 (gv e18) (gv e18) (orT e19 e18))) ?_
 refine rG 30 (.d (.dp (eEntry (rd t0 (IntKind.wrap .i64 ((t0.length : Int) - 1)))))) rfl rfl (fun e20 => (vD (eEntry (rd t0 (IntKind.wrap .i64 ((t0.length : Int) - 1)))) fo116_0 · · · rfl (gv e20))) ?_
 refine rG 31 (sV (rd t0 (IntKind.wrap .i64 ((t0.length : Int) - 1))).mKey) rfl rfl (fun e21 => (vl rfl onT9 (gv e21) rfl)) ?_
 refine rG 32 (.d (.sl 2 (t1.map eEntry))) rfl rfl (fun e22 => (vm rfl rfl)) ?_
 obtain ⟨e24, h⟩ := gpos h
 refine rG 33 (.d (.dp (eEntry (rd t1 0)))) rfl rfl (fun e23 => (w_idx t1 eEntry rfl · · · slT42 (gv e23) rfl (orT e24 e23))) ?_
 refine rG 34 (.d (.dp (eEntry (rd t1 0)))) rfl rfl (fun e25 => (vD (eEntry (rd t1 0)) fo116_0 · · · rfl (gv e25))) ?_
 refine rG 35 (sV (rd t1 0).mKey) rfl rfl (fun e26 => (vl rfl onT9 (gv e26) rfl)) ?_
 obtain ⟨t36, c28, h⟩ := bpos h
 refine rG 36 (iV t36) rfl rfl (fun e27 => (vC (s124 k (rd t0 (IntKind.wrap .i64 ((t0.length : Int) - 1))).mKey (rd t1 0).mKey _ (cpos e27 c28)) en124 · · · rfl (cc (gv e27) (cc (gv e27) rfl)) rfl)) ?_
 refine rG 37 (bV (leI 0 t36)) rfl rfl (fun e29 => (vb rfl (gv e29) rfl (b_geq rfl))) ?_
 refine rT 38 (bV (((ltI 0 (t0.length : Int)) && (ltI 0 (t1.length : Int))) && (leI 0 t36))) rfl (vp rfl rfl (fun e30 => (gv e30)) (fun e31 => rfl) (pA _ _)) ?_
 refine rM 15 (bV (((ltI 0 (t0.length : Int)) && (ltI 0 (t1.length : Int))) && (leI 0 t36))) rfl rfl ?_
 refine rg_nil ⟨by kernel_rfl, ?_⟩
 refine ht_cond rfl (fun e32 => ?_) (fun e32 => ?_)
 ·replace h := cpos e32 h
  refine sr ?_
  refine sM 4 (.d (.s (.slice none 0 0))) rfl rfl ?_
  refine sM 5 (iV 9) rfl rfl ?_
  refine sz ?_
  cases h
  exact retM_wk (wk_nil (.t 4) (nb 4) 2 rfl) (ret2 rfl (.tmp rfl) (.tmp rfl))
 replace h := cneg e32 h
 refine sr ?_
 refine sM 40 (.d (.sl 2 (t0.map eEntry))) rfl rfl ?_
 refine sT 41 (iV (t0.length : Int)) rfl (w_len t0 eEntry rfl rfl · · · slT42 rfl) ?_
 refine sM 42 (.d (.sl 2 (t1.map eEntry))) rfl rfl ?_
 refine sT 43 (iV (t1.length : Int)) rfl (w_len t1 eEntry rfl rfl · · · slT42 rfl) ?_
 refine sT 44 (iV (IntKind.wrap .i64 ((t0.length : Int) + (t1.length : Int)))) rfl (vb rfl rfl rfl (b_add rfl)) ?_
 obtain ⟨t45, q33, h⟩ := bndp h
 refine sT 45 (bV t45) rfl (vb rfl rfl rfl (b_gtr q33)) ?_
 refine sM 39 (bV t45) rfl rfl ?_
 refine sq_nil ?_
 refine ht_cond rfl (fun e34 => ?_) (fun e34 => ?_)
 ·replace h := cpos e34 h
  refine sr ?_
  refine sM 4 (.d (.s (.slice none 0 0))) rfl rfl ?_
  refine sM 5 (iV 6) rfl rfl ?_
  refine sz ?_
  cases h
  exact retM_wk (wk_nil (.t 4) (nb 4) 2 rfl) (ret2 rfl (.tmp rfl) (.tmp rfl))
 replace h := cneg e34 h
 refine ht_skip ?_
 refine sr ?_
 refine sM 46 (.d (.sl 2 (t0.map eEntry))) rfl rfl ?_
 obtain ⟨t47, c35, h⟩ := bpos h
 refine sq_cons ⟨_, [(.b 47, .row false 116 2 (t47.map eEntry)), (.t 47, .own 47 2 t47.length)]⟩ (w_call_own (id := 47) (ds := [(.sl 2 (t0.map eEntry))]) (caps := []) eEntry (s149o k t0 _ c35) rfl rfl rfl en149 trivial rfl (ble _ _ rfl) (.inl ⟨rfl, rfl⟩) rfl rfl) ?_
 refine sM 48 (.d (.sl 2 (t1.map eEntry))) rfl rfl ?_
 obtain ⟨t49, c36, h⟩ := bpos h
 refine sC 49 (.d (.sl 2 (t49.map eEntry))) (s149 k t1 _ c36) en149 rfl rfl rfl rfl ?_
 obtain ⟨e37, h⟩ := gpos h
 refine sq_cons ⟨_, [(.b 47, .spent), (.b 50, .row false 116 2 ((t47 ++ t49).map eEntry)), (.t 50, .own 50 2 (t47 ++ t49).length)]⟩ (w_app 50 t47 t49 eEntry rfl rfl trivial rfl (ble _ _ rfl) slT42 elT116 teEntry rfl rfl rfl (.d) rfl e37) ?_
 refine sM 4 (.own 50 2 (t47 ++ t49).length) rfl rfl ?_
 refine sM 5 (iV 0) rfl rfl ?_
 refine sz ?_
 cases h
 exact retM_wk (wk_still_row 50 _ _ _ rfl) (retM_wk (wk_row (.t 4) (nb 4) 50 _ _ _ _ rfl rfl (lm _ _)) (retM_wk (wk_row (.t 50) (nb 50) 50 _ _ _ _ rfl rfl (lm _ _)) (ret2 rfl (.tmp rfl) (.tmp rfl))))
theorem s114 (k : Nat) (t0 : List Done) (t1 : List Done) (r : (List Done) × Int) (h : F114 k t0 t1 = some r) : Awp.Spec Tryz.prog amb 114 [(.sl 11 (t0.map eDone)), (.sl 11 (t1.map eDone))] (.ds [(.sl 11 (r.1.map eDone)), (.s (.int .i64 r.2))]) := by
 rw [F114] at h
 refine spec_of Tryz.func114 rfl (ble _ _ rfl) fun w0 ok0 lt0 hA => ?_
 refine sr ?_
 refine sM 4 (.d (.s (.slice none 0 0))) rfl rfl ?_
 refine sM 5 (iV 0) rfl rfl ?_
 refine sq_nil ?_
 refine ht_seq ?_
 refine sr ?_
 refine sM 7 (.d (.sl 11 (t0.map eDone))) rfl rfl ?_
 obtain ⟨t8, c1, h⟩ := bpos h
 refine sC 8 (bV t8) (s82 k t0 _ c1) en82 rfl rfl rfl rfl ?_
 refine sT 9 (bV (!t8)) rfl (vu rfl rfl (u_not rfl)) ?_
 refine sM 10 (bV (!t8)) rfl rfl ?_
 refine sF 11 (.d (.sl 11 (t1.map eDone))) rfl rfl (fun e2 => (vm rfl rfl)) ?_
 obtain ⟨t12, c4, h⟩ := bpos h
 refine sF 12 (bV t12) rfl rfl (fun e3 => (vC (s82 k t1 _ (cpos (nF e3) c4)) en82 · · · rfl (cc (gv (nF e3)) rfl) rfl)) ?_
 refine sF 13 (bV (!t12)) rfl rfl (fun e5 => (vu rfl (gv (nF e5)) (u_not rfl))) ?_
 refine sT 14 (bV ((!t8) || (!t12))) rfl (vp rfl rfl (fun e6 => rfl) (fun e7 => (gv (nF e7))) (pO _ _)) ?_
 refine sq_nil ?_
 refine ht_cond rfl (fun e8 => ?_) (fun e8 => ?_)
 ·replace h := cpos e8 h
  refine sr ?_
  refine sM 4 (.d (.s (.slice none 0 0))) rfl rfl ?_
  refine sM 5 (iV 1) rfl rfl ?_
  refine sz ?_
  cases h
  exact retM_wk (wk_nil (.t 4) (nb 4) 11 rfl) (ret2 rfl (.tmp rfl) (.tmp rfl))
 replace h := cneg e8 h
 refine ht_skip ?_
 refine sr ?_
 refine sM 6 (.d (.s (.slice none 0 0))) rfl rfl ?_
 refine sq_nil ?_
 refine ht_bj h (fun t6 => tell [(.b 1006, .row false 100 11 (t6.map eDone)), (.t 6, .own 1006 11 t6.length)]) (fun t6 h => ?_) (fun v9 K10 h j12 => ?_)
 ·refine ht_seq ?_
  refine sr ?_
  refine sM 104 (.own 1006 11 t6.length) rfl rfl ?_
  refine sT 105 (iV (t6.length : Int)) rfl (v_len_own rfl rfl · · · und43 rfl) ?_
  refine sT 106 (bV (ltI 8 (t6.length : Int))) rfl (vb rfl rfl rfl (b_gtr rfl)) ?_
  refine sq_nil ?_
  refine ht_cond rfl (fun e85 => ?_) (fun e85 => ?_)
  ·replace h := cpos e85 h
   refine sr ?_
   refine sM 4 (.d (.s (.slice none 0 0))) rfl rfl ?_
   refine sM 5 (iV 6) rfl rfl ?_
   refine sz ?_
   cases h
   exact retM_wk (wk_nil (.t 4) (nb 4) 11 rfl) (ret2 rfl (.tmp rfl) (.tmp rfl))
  replace h := cneg e85 h
  refine ht_skip ?_
  refine sr ?_
  refine sM 107 (.own 1006 11 t6.length) rfl rfl ?_
  refine sM 4 (.own 1006 11 t6.length) rfl rfl ?_
  refine sM 5 (iV 0) rfl rfl ?_
  refine sz ?_
  cases h
  exact retM_wk (wk_still_row 1006 _ _ _ rfl) (retM_wk (wk_row (.t 4) (nb 4) 1006 _ _ _ _ rfl rfl (lm _ _)) (retM_wk (wk_row (.t 6) (nb 6) 1006 _ _ _ _ rfl rfl (lm _ _)) (retM_wk (wk_row (.t 104) (nb 104) 1006 _ _ _ _ rfl rfl (lm _ _)) (retM_wk (wk_row (.t 107) (nb 107) 1006 _ _ _ _ rfl rfl (lm _ _)) (ret2 rfl (.tmp rfl) (.tmp rfl))))))
 refine ht_block ?_
 refine ht_rd h (fun _ => rfl) (fun (t0_1, t1_1, t6_1) => tell [(.b 1006, .row false 100 11 (t6_1.map eDone)), (.t 0, .d (.sl 11 (t0_1.map eDone))), (.t 1, .d (.sl 11 (t1_1.map eDone))), (.t 6, .own 1006 11 t6_1.length)]) (wkt (wk_nilrow (.t 6) (nb 6) 1001006 100 11 rfl rfl) (wr (fun i => bif Nat.beq i 1006 then 1001006 else i) rfl rfl)) fun k v16 h K84 j15 => ?_
 obtain ⟨t0_1, t1_1, t6_1⟩ := v16
 rw [F114_l1] at h
 refine ht_seq ?_
 refine sr ?_
 refine sM 15 (.d (.sl 11 (t0_1.map eDone))) rfl rfl ?_
 refine sT 16 (iV (t0_1.length : Int)) rfl (w_len t0_1 eDone rfl rfl · · · slT43 rfl) ?_
 refine sT 17 (bV (ltI 0 (t0_1.length : Int))) rfl (vb rfl rfl rfl (b_gtr rfl)) ?_
 refine sM 18 (bV (ltI 0 (t0_1.length : Int))) rfl rfl ?_
 refine sF 19 (.d (.sl 11 (t1_1.map eDone))) rfl rfl (fun e17 => (vm rfl rfl)) ?_
 refine sF 20 (iV (t1_1.length : Int)) rfl rfl (fun e18 => (w_len t1_1 eDone rfl rfl · · · slT43 (gv (nF e18)))) ?_
 refine sF 21 (bV (ltI 0 (t1_1.length : Int))) rfl rfl (fun e19 => (vb rfl (gv (nF e19)) rfl (b_gtr rfl))) ?_
 refine sT 22 (bV ((ltI 0 (t0_1.length : Int)) || (ltI 0 (t1_1.length : Int)))) rfl (vp rfl rfl (fun e20 => rfl) (fun e21 => (gv (nF e21))) (pO _ _)) ?_
 refine sq_nil ?_
 refine ht_cond rfl (fun e22 => ?_) (fun e22 => ?_)
 ·replace h := cpos e22 h
  refine ht_skip ?_
  refine ht_block ?_
  refine ht_block ?_
  refine ht_seq ?_
  refine ht_region_draw mixed ?_
  refine rM 34 (.d (.sl 11 (t1_1.map eDone))) rfl rfl ?_
  refine rT 35 (iV (t1_1.length : Int)) rfl (w_len t1_1 eDone rfl rfl · · · slT43 rfl) ?_
  refine rT 36 (bV (eqI (t1_1.length : Int) 0)) rfl (vb rfl rfl rfl (b_eql rfl)) ?_
  refine rM 37 (bV (eqI (t1_1.length : Int) 0)) rfl rfl ?_
  refine rF 38 (.d (.sl 11 (t0_1.map eDone))) rfl rfl (fun e23 => (vm rfl rfl)) ?_
  refine rF 39 (iV (t0_1.length : Int)) rfl rfl (fun e24 => (w_len t0_1 eDone rfl rfl · · · slT43 (gv (nF e24)))) ?_
  refine rF 40 (bV (ltI 0 (t0_1.length : Int))) rfl rfl (fun e25 => (vb rfl (gv (nF e25)) rfl (b_gtr rfl))) ?_
  refine rF 41 (bV (ltI 0 (t0_1.length : Int))) rfl rfl (fun e26 => (vm rfl (gv (nF e26)))) ?_
  refine rI 42 (.d (.sl 11 (t0_1.map eDone))) rfl rfl (fun e27 e28 => (vm rfl rfl)) ?_
  obtain ⟨e31, h⟩ := gpos h
  refine rI 43 (.d (.dp (eDone (rd t0_1 0)))) rfl rfl (fun e29 e30 => (w_idx t0_1 eDone rfl · · · slT43 (gv (aT e29 e30)) rfl (orT e31 (aT e29 e30)))) ?_
  refine rI 44 (.d (.dp (eDone (rd t0_1 0)))) rfl rfl (fun e32 e33 => (vD (eDone (rd t0_1 0)) fo100_0 · · · rfl (gv (aT e32 e33)))) ?_
  refine rI 45 (iV (rd t0_1 0).mClient) rfl rfl (fun e34 e35 => (vl rfl onT3 (gv (aT e34 e35)) rfl)) ?_
  refine rI 46 (.d (.sl 11 (t1_1.map eDone))) rfl rfl (fun e36 e37 => (vm rfl rfl)) ?_
  obtain ⟨e40, h⟩ := gpos h
  refine rI 47 (.d (.dp (eDone (rd t1_1 0)))) rfl rfl (fun e38 e39 => (w_idx t1_1 eDone rfl · · · slT43 (gv (aT e38 e39)) rfl (orT e40 (aT e38 e39)))) ?_
  refine rI 48 (.d (.dp (eDone (rd t1_1 0)))) rfl rfl (fun e41 e42 => (vD (eDone (rd t1_1 0)) fo100_0 · · · rfl (gv (aT e41 e42)))) ?_
  refine rI 49 (iV (rd t1_1 0).mClient) rfl rfl (fun e43 e44 => (vl rfl onT3 (gv (aT e43 e44)) rfl)) ?_
  refine rI 50 (bV (ltI (rd t0_1 0).mClient (rd t1_1 0).mClient)) rfl rfl (fun e45 e46 => (vb rfl (gv (aT e45 e46)) (gv (aT e45 e46)) (b_lss rfl))) ?_
  refine rF 51 (bV ((ltI 0 (t0_1.length : Int)) && (ltI (rd t0_1 0).mClient (rd t1_1 0).mClient))) rfl rfl (fun e47 => (vp rfl (gv (nF e47)) (fun e48 => (gv (aT (nF e47) e48))) (fun e49 => rfl) (pA _ _))) ?_
  refine rT 52 (bV ((eqI (t1_1.length : Int) 0) || ((ltI 0 (t0_1.length : Int)) && (ltI (rd t0_1 0).mClient (rd t1_1 0).mClient)))) rfl (vp rfl rfl (fun e50 => rfl) (fun e51 => (gv (nF e51))) (pO _ _)) ?_
  refine rM 33 (bV ((eqI (t1_1.length : Int) 0) || ((ltI 0 (t0_1.length : Int)) && (ltI (rd t0_1 0).mClient (rd t1_1 0).mClient)))) rfl rfl ?_
  refine rg_nil ⟨by kernel_rfl, ?_⟩
  refine ht_cond rfl (fun e52 => ?_) (fun e52 => ?_)
  ·replace h := cpos e52 h
   refine ht_region_draw mixed ?_
   refine rM 53 (.own 1006 11 t6_1.length) rfl rfl ?_
   refine rM 54 (.d (.sl 11 (t0_1.map eDone))) rfl rfl ?_
   obtain ⟨e53, h⟩ := gpos h
   refine rT 55 (.d (.dp (eDone (rd t0_1 0)))) rfl (w_idx t0_1 eDone rfl · · · slT43 rfl rfl e53) ?_
   refine rP 56 (eDone (rd t0_1 0)) (eDone (rd t0_1 0)) ag100 rfl rfl rfl rfl rfl ?_
   refine rg_cons ⟨_, [(.b 57, .row false 100 11 (([(rd t0_1 0)]).map eDone)), (.t 57, .own 57 11 ([(rd t0_1 0)]).length)]⟩ (w_bsl (id := 57) [(0, .d (.agg (eDone (rd t0_1 0))))] [(rd t0_1 0)] eDone rfl trivial rfl (ble _ _ rfl) slT43 zr100 teDone (ble _ _ rfl) rfl (by kernel_rfl) rfl rfl (by kernel_rfl) (by kernel_rfl)) ?_
   obtain ⟨e54, h⟩ := gpos h
   refine rg_cons ⟨_, [(.b 1006, .spent), (.b 58, .row false 100 11 ((t6_1 ++ [(rd t0_1 0)]).map eDone)), (.t 58, .own 58 11 (t6_1 ++ [(rd t0_1 0)]).length)]⟩ (w_app 58 t6_1 ([(rd t0_1 0)]) eDone rfl rfl trivial rfl (ble _ _ rfl) slT43 elT100 teDone rfl rfl rfl (.own 57 _ _ rfl) rfl e54) ?_
   refine rM 59 (.d (.sl 11 (t0_1.map eDone))) rfl rfl ?_
   obtain ⟨e55, h⟩ := gpos h
   refine rT 60 (.d (.sl 11 ((List.drop (1 : Int).toNat t0_1).map eDone))) rfl (w_cutl t0_1 eDone rfl · · · slT43 rfl rfl e55) ?_
   refine rM 6 (.own 58 11 (t6_1 ++ [(rd t0_1 0)]).length) rfl rfl ?_
   refine rM 0 (.d (.sl 11 ((List.drop (1 : Int).toNat t0_1).map eDone))) rfl rfl ?_
   refine rg_nil ⟨by kernel_rfl, ?_⟩
   exact j15 _ _ h (wr (fun i => bif Nat.beq i 1006 then 58 else i) rfl rfl)
  replace h := cneg e52 h
  refine ht_seq ?_
  refine ht_region_draw mixed ?_
  refine rM 62 (.d (.sl 11 (t0_1.map eDone))) rfl rfl ?_
  refine rT 63 (iV (t0_1.length : Int)) rfl (w_len t0_1 eDone rfl rfl · · · slT43 rfl) ?_
  refine rT 64 (bV (eqI (t0_1.length : Int) 0)) rfl (vb rfl rfl rfl (b_eql rfl)) ?_
  refine rM 65 (bV (eqI (t0_1.length : Int) 0)) rfl rfl ?_
  refine rF 66 (.d (.sl 11 (t1_1.map eDone))) rfl rfl (fun e56 => (vm rfl rfl)) ?_
  obtain ⟨e58, h⟩ := gpos h
  refine rF 67 (.d (.dp (eDone (rd t1_1 0)))) rfl rfl (fun e57 => (w_idx t1_1 eDone rfl · · · slT43 (gv (nF e57)) rfl (orT e58 (nF e57)))) ?_
  refine rF 68 (.d (.dp (eDone (rd t1_1 0)))) rfl rfl (fun e59 => (vD (eDone (rd t1_1 0)) fo100_0 · · · rfl (gv (nF e59)))) ?_
  refine rF 69 (iV (rd t1_1 0).mClient) rfl rfl (fun e60 => (vl rfl onT3 (gv (nF e60)) rfl)) ?_
  refine rF 70 (.d (.sl 11 (t0_1.map eDone))) rfl rfl (fun e61 => (vm rfl rfl)) ?_
  obtain ⟨e63, h⟩ := gpos h
  refine rF 71 (.d (.dp (eDone (rd t0_1 0)))) rfl rfl (fun e62 => (w_idx t0_1 eDone rfl · · · slT43 (gv (nF e62)) rfl (orT e63 (nF e62)))) ?_
  refine rF 72 (.d (.dp (eDone (rd t0_1 0)))) rfl rfl (fun e64 => (vD (eDone (rd t0_1 0)) fo100_0 · · · rfl (gv (nF e64)))) ?_
  refine rF 73 (iV (rd t0_1 0).mClient) rfl rfl (fun e65 => (vl rfl onT3 (gv (nF e65)) rfl)) ?_
  refine rF 74 (bV (ltI (rd t1_1 0).mClient (rd t0_1 0).mClient)) rfl rfl (fun e66 => (vb rfl (gv (nF e66)) (gv (nF e66)) (b_lss rfl))) ?_
  refine rT 75 (bV ((eqI (t0_1.length : Int) 0) || (ltI (rd t1_1 0).mClient (rd t0_1 0).mClient))) rfl (vp rfl rfl (fun e67 => rfl) (fun e68 => (gv (nF e68))) (pO _ _)) ?_
  refine rM 61 (bV ((eqI (t0_1.length : Int) 0) || (ltI (rd t1_1 0).mClient (rd t0_1 0).mClient))) rfl rfl ?_
  refine rg_nil ⟨by kernel_rfl, ?_⟩
  refine ht_cond rfl (fun e69 => ?_) (fun e69 => ?_)
  ·replace h := cpos e69 h
   refine ht_region_draw mixed ?_
   refine rM 76 (.own 1006 11 t6_1.length) rfl rfl ?_
   refine rM 77 (.d (.sl 11 (t1_1.map eDone))) rfl rfl ?_
   obtain ⟨e70, h⟩ := gpos h
   refine rT 78 (.d (.dp (eDone (rd t1_1 0)))) rfl (w_idx t1_1 eDone rfl · · · slT43 rfl rfl e70) ?_
   refine rP 79 (eDone (rd t1_1 0)) (eDone (rd t1_1 0)) ag100 rfl rfl rfl rfl rfl ?_
   refine rg_cons ⟨_, [(.b 80, .row false 100 11 (([(rd t1_1 0)]).map eDone)), (.t 80, .own 80 11 ([(rd t1_1 0)]).length)]⟩ (w_bsl (id := 80) [(0, .d (.agg (eDone (rd t1_1 0))))] [(rd t1_1 0)] eDone rfl trivial rfl (ble _ _ rfl) slT43 zr100 teDone (ble _ _ rfl) rfl (by kernel_rfl) rfl rfl (by kernel_rfl) (by kernel_rfl)) ?_
   obtain ⟨e71, h⟩ := gpos h
   refine rg_cons ⟨_, [(.b 1006, .spent), (.b 81, .row false 100 11 ((t6_1 ++ [(rd t1_1 0)]).map eDone)), (.t 81, .own 81 11 (t6_1 ++ [(rd t1_1 0)]).length)]⟩ (w_app 81 t6_1 ([(rd t1_1 0)]) eDone rfl rfl trivial rfl (ble _ _ rfl) slT43 elT100 teDone rfl rfl rfl (.own 80 _ _ rfl) rfl e71) ?_
   refine rM 82 (.d (.sl 11 (t1_1.map eDone))) rfl rfl ?_
   obtain ⟨e72, h⟩ := gpos h
   refine rT 83 (.d (.sl 11 ((List.drop (1 : Int).toNat t1_1).map eDone))) rfl (w_cutl t1_1 eDone rfl · · · slT43 rfl rfl e72) ?_
   refine rM 6 (.own 81 11 (t6_1 ++ [(rd t1_1 0)]).length) rfl rfl ?_
   refine rM 1 (.d (.sl 11 ((List.drop (1 : Int).toNat t1_1).map eDone))) rfl rfl ?_
   refine rg_nil ⟨by kernel_rfl, ?_⟩
   exact j15 _ _ h (wr (fun i => bif Nat.beq i 1006 then 81 else i) rfl rfl)
  replace h := cneg e69 h
  refine ht_seq ?_
  refine ht_region_draw mixed ?_
  refine rM 85 (.d (.sl 11 (t0_1.map eDone))) rfl rfl ?_
  obtain ⟨e73, h⟩ := gpos h
  refine rT 86 (.d (.dp (eDone (rd t0_1 0)))) rfl (w_idx t0_1 eDone rfl · · · slT43 rfl rfl e73) ?_
  refine rD 87 (eDone (rd t0_1 0)) fo100_1 rfl rfl rfl ?_
  refine rT 88 (iV (rd t0_1 0).mReq) rfl (vl rfl onT3 rfl rfl) ?_
  refine rM 89 (.d (.sl 11 (t1_1.map eDone))) rfl rfl ?_
  obtain ⟨e74, h⟩ := gpos h
  refine rT 90 (.d (.dp (eDone (rd t1_1 0)))) rfl (w_idx t1_1 eDone rfl · · · slT43 rfl rfl e74) ?_
  refine rD 91 (eDone (rd t1_1 0)) fo100_1 rfl rfl rfl ?_
  refine rT 92 (iV (rd t1_1 0).mReq) rfl (vl rfl onT3 rfl rfl) ?_
  refine rT 93 (bV (leI (rd t1_1 0).mReq (rd t0_1 0).mReq)) rfl (vb rfl rfl rfl (b_geq rfl)) ?_
  refine rM 84 (bV (leI (rd t1_1 0).mReq (rd t0_1 0).mReq)) rfl rfl ?_
  refine rg_nil ⟨by kernel_rfl, ?_⟩
  refine ht_cond rfl (fun e75 => ?_) (fun e75 => ?_)
  ·replace h := cpos e75 h
   refine ht_region_draw mixed ?_
   refine rM 94 (.own 1006 11 t6_1.length) rfl rfl ?_
   refine rM 95 (.d (.sl 11 (t0_1.map eDone))) rfl rfl ?_
   obtain ⟨e76, h⟩ := gpos h
   refine rT 96 (.d (.dp (eDone (rd t0_1 0)))) rfl (w_idx t0_1 eDone rfl · · · slT43 rfl rfl e76) ?_
   refine rP 97 (eDone (rd t0_1 0)) (eDone (rd t0_1 0)) ag100 rfl rfl rfl rfl rfl ?_
   refine rg_cons ⟨_, [(.b 98, .row false 100 11 (([(rd t0_1 0)]).map eDone)), (.t 98, .own 98 11 ([(rd t0_1 0)]).length)]⟩ (w_bsl (id := 98) [(0, .d (.agg (eDone (rd t0_1 0))))] [(rd t0_1 0)] eDone rfl trivial rfl (ble _ _ rfl) slT43 zr100 teDone (ble _ _ rfl) rfl (by kernel_rfl) rfl rfl (by kernel_rfl) (by kernel_rfl)) ?_
   obtain ⟨e77, h⟩ := gpos h
   refine rg_cons ⟨_, [(.b 1006, .spent), (.b 99, .row false 100 11 ((t6_1 ++ [(rd t0_1 0)]).map eDone)), (.t 99, .own 99 11 (t6_1 ++ [(rd t0_1 0)]).length)]⟩ (w_app 99 t6_1 ([(rd t0_1 0)]) eDone rfl rfl trivial rfl (ble _ _ rfl) slT43 elT100 teDone rfl rfl rfl (.own 98 _ _ rfl) rfl e77) ?_
   refine rM 100 (.d (.sl 11 (t0_1.map eDone))) rfl rfl ?_
   obtain ⟨e78, h⟩ := gpos h
   refine rT 101 (.d (.sl 11 ((List.drop (1 : Int).toNat t0_1).map eDone))) rfl (w_cutl t0_1 eDone rfl · · · slT43 rfl rfl e78) ?_
   refine rM 102 (.d (.sl 11 (t1_1.map eDone))) rfl rfl ?_
   obtain ⟨e79, h⟩ := gpos h
   refine rT 103 (.d (.sl 11 ((List.drop (1 : Int).toNat t1_1).map eDone))) rfl (w_cutl t1_1 eDone rfl · · · slT43 rfl rfl e79) ?_
   refine rM 6 (.own 99 11 (t6_1 ++ [(rd t0_1 0)]).length) rfl rfl ?_
   refine rM 0 (.d (.sl 11 ((List.drop (1 : Int).toNat t0_1).map eDone))) rfl rfl ?_
   refine rM 1 (.d (.sl 11 ((List.drop (1 : Int).toNat t1_1).map eDone))) rfl rfl ?_
   refine rg_nil ⟨by kernel_rfl, ?_⟩
   exact j15 _ _ h (wr (fun i => bif Nat.beq i 1006 then 99 else i) rfl rfl)
  replace h := cneg e75 h
  refine ht_region_draw mixed ?_
  refine rM 23 (.own 1006 11 t6_1.length) rfl rfl ?_
  refine rM 24 (.d (.sl 11 (t1_1.map eDone))) rfl rfl ?_
  obtain ⟨e80, h⟩ := gpos h
  refine rT 25 (.d (.dp (eDone (rd t1_1 0)))) rfl (w_idx t1_1 eDone rfl · · · slT43 rfl rfl e80) ?_
  refine rP 26 (eDone (rd t1_1 0)) (eDone (rd t1_1 0)) ag100 rfl rfl rfl rfl rfl ?_
  refine rg_cons ⟨_, [(.b 27, .row false 100 11 (([(rd t1_1 0)]).map eDone)), (.t 27, .own 27 11 ([(rd t1_1 0)]).length)]⟩ (w_bsl (id := 27) [(0, .d (.agg (eDone (rd t1_1 0))))] [(rd t1_1 0)] eDone rfl trivial rfl (ble _ _ rfl) slT43 zr100 teDone (ble _ _ rfl) rfl (by kernel_rfl) rfl rfl (by kernel_rfl) (by kernel_rfl)) ?_
  obtain ⟨e81, h⟩ := gpos h
  refine rg_cons ⟨_, [(.b 1006, .spent), (.b 28, .row false 100 11 ((t6_1 ++ [(rd t1_1 0)]).map eDone)), (.t 28, .own 28 11 (t6_1 ++ [(rd t1_1 0)]).length)]⟩ (w_app 28 t6_1 ([(rd t1_1 0)]) eDone rfl rfl trivial rfl (ble _ _ rfl) slT43 elT100 teDone rfl rfl rfl (.own 27 _ _ rfl) rfl e81) ?_
  refine rM 29 (.d (.sl 11 (t0_1.map eDone))) rfl rfl ?_
  obtain ⟨e82, h⟩ := gpos h
  refine rT 30 (.d (.sl 11 ((List.drop (1 : Int).toNat t0_1).map eDone))) rfl (w_cutl t0_1 eDone rfl · · · slT43 rfl rfl e82) ?_
  refine rM 31 (.d (.sl 11 (t1_1.map eDone))) rfl rfl ?_
  obtain ⟨e83, h⟩ := gpos h
  refine rT 32 (.d (.sl 11 ((List.drop (1 : Int).toNat t1_1).map eDone))) rfl (w_cutl t1_1 eDone rfl · · · slT43 rfl rfl e83) ?_
  refine rM 6 (.own 28 11 (t6_1 ++ [(rd t1_1 0)]).length) rfl rfl ?_
  refine rM 0 (.d (.sl 11 ((List.drop (1 : Int).toNat t0_1).map eDone))) rfl rfl ?_
  refine rM 1 (.d (.sl 11 ((List.drop (1 : Int).toNat t1_1).map eDone))) rfl rfl ?_
  refine rg_nil ⟨by kernel_rfl, ?_⟩
  exact j15 _ _ h (wr (fun i => bif Nat.beq i 1006 then 28 else i) rfl rfl)
 replace h := cneg e22 h
 refine ht_exit ?_
 refine tq ?_
 refine tq ?_
 refine bq_hit ?_
 cases h
 exact j12 _ (wi rfl rfl)
theorem s50 (k : Nat) (t0 : Cell) (t1 : Int) (t2 : Int) (t3 : Int) (t4 : Int) (r : Cell × Bool) (h : F50 k t0 t1 t2 t3 t4 = some r) : Awp.Spec Tryz.prog amb 50 [(.agg (eCell t0)), (.s (.int .i64 t1)), (.s (.int .i64 t2)), (.s (.int .i64 t3)), (.s (.int .i64 t4))] (.ds [(.agg (eCell r.1)), (.s (.bool r.2))]) := by
 rw [F50] at h
 refine spec_of Tryz.func50 rfl (ble _ _ rfl) fun w0 ok0 lt0 hA => ?_
 refine sr ?_
 refine sT 5 (.d (.dp (eCell t0))) rfl (v_box_d (cs := (eCell t0)) rfl · · · rfl rfl (ones_of rfl)) ?_
 refine sq_cons _ (v_alloc (id := 10) (cs := zc26) rfl trivial rfl (ble _ _ rfl) zu26 rfl ft26 rfl) ?_
 refine sM 11 (bV false) rfl rfl ?_
 refine sq_nil ?_
 refine ht_seq ?_
 refine sr ?_
 refine sP 20 (eCell t0) (eCell t0) ag26 rfl rfl rfl rfl rfl ?_
 obtain ⟨t21, c1, h⟩ := bpos h
 refine sC 21 (bV t21) (s25 k t0 _ c1) en25 rfl rfl rfl rfl ?_
 refine sT 22 (bV (!t21)) rfl (vu rfl rfl (u_not rfl)) ?_
 refine sM 23 (bV (!t21)) rfl rfl ?_
 refine sF 24 (iV t1) rfl rfl (fun e2 => (vm rfl rfl)) ?_
 refine sF 25 (iV t2) rfl rfl (fun e3 => (vm rfl rfl)) ?_
 refine sF 26 (iV t3) rfl rfl (fun e4 => (vm rfl rfl)) ?_
 refine sF 27 (iV t4) rfl rfl (fun e5 => (vm rfl rfl)) ?_
 refine sF 28 (.d (.sl 1 (([t1, t2, t3, t4]).map (eI .i64)))) rfl rfl (fun e6 => (w_bsl_d [(0, iV t1), (1, iV t2), (2, iV t3), (3, iV t4)] [t1, t2, t3, t4] (eI .i64) rfl · · · slT148 zr3 (encI .i64) (ble _ _ rfl) (cc (pr (gv (nF e6))) (cc (pr (gv (nF e6))) (cc (pr (gv (nF e6))) (cc (pr (gv (nF e6))) rfl)))) (by kernel_rfl) rfl rfl (by kernel_rfl))) ?_
 obtain ⟨t29, c8, h⟩ := bpos h
 refine sF 29 (bV t29) rfl rfl (fun e7 => (vC (s57 k 1 ([t1, t2, t3, t4]) _ (cpos (nF e7) c8)) en57 · · · rfl (cc rfl (cc (gv (nF e7)) rfl)) rfl)) ?_
 refine sF 30 (bV (!t29)) rfl rfl (fun e9 => (vu rfl (gv (nF e9)) (u_not rfl))) ?_
 refine sT 31 (bV ((!t21) || (!t29))) rfl (vp rfl rfl (fun e10 => rfl) (fun e11 => (gv (nF e11))) (pO _ _)) ?_
 refine sq_nil ?_
 refine ht_cond rfl (fun e12 => ?_) (fun e12 => ?_)
 ·replace h := cpos e12 h
  refine sr ?_
  refine sP 32 (eCell t0) (eCell t0) ag26 rfl rfl rfl rfl rfl ?_
  refine sS 10 0 ((eCell t0).map V.d) sz26 rfl rfl rfl rfl rfl (ones_of rfl) rfl ?_
  refine sM 11 (bV false) rfl rfl ?_
  refine sz ?_
  cases h
  exact ret2 rfl (.cell rfl rfl ag26 (ble _ _ rfl) rfl) (.tmp rfl)
 replace h := cneg e12 h
 refine ht_skip ?_
 refine ht_seq ?_
 refine ht_region_draw mixed ?_
 refine rP 33 (eCell t0) (eCell t0) ag26 rfl rfl rfl rfl rfl ?_
 refine rM 34 (iV t1) rfl rfl ?_
 obtain ⟨t35, c13, h⟩ := bpos h
 refine rC 35 (.d (.agg (eShard t35))) (s60 k t0 t1 _ c13) en60 rfl rfl rfl rfl ?_
 refine rP 36 (eCell t0) (eCell t0) ag26 rfl rfl rfl rfl rfl ?_
 refine rM 37 (iV t2) rfl rfl ?_
 obtain ⟨t38, c14, h⟩ := bpos h
 refine rC 38 (.d (.agg (eShard t38))) (s60 k t0 t2 _ c14) en60 rfl rfl rfl rfl ?_
 refine rg_cons _ (v_alloc (id := 12) (cs := zc45) rfl trivial rfl (ble _ _ rfl) zu45 rfl ft45 rfl) ?_
 refine rg_cons _ (v_alloc (id := 13) (cs := zc45) rfl trivial rfl (ble _ _ rfl) zu45 rfl ft45 rfl) ?_
 refine rS 12 0 ((eShard t35).map V.d) sz45 rfl rfl rfl rfl rfl (ones_of rfl) rfl ?_
 refine rS 13 0 ((eShard t38).map V.d) sz45 rfl rfl rfl rfl rfl (ones_of rfl) rfl ?_
 refine rg_nil ⟨by kernel_rfl, ?_⟩
 refine ht_seq ?_
 refine sr ?_
 refine sT 39 (.ptr 12 0) rfl (v_field_box (off := 0) (a0 := 0) rfl · · · fo45_0 rfl) ?_
 refine sT 40 (iV t35.mID) rfl (v_load_box1 (id := 12) (off := 0) rfl · · · onT3 rfl rfl (ble _ _ rfl) rfl) ?_
 refine sT 41 (bV (!eqI t35.mID 0)) rfl (vb rfl rfl rfl (b_neq rfl)) ?_
 refine sM 42 (bV (!eqI t35.mID 0)) rfl rfl ?_
 refine sG 43 (.ptr 12 1) rfl rfl (fun e15 => (v_field_box (off := 0) (a0 := 1) rfl · · · fo45_1 rfl)) ?_
 refine sG 44 (iV t35.mEpoch) rfl rfl (fun e16 => (v_load_box1 (id := 12) (off := 1) rfl · · · onT3 (gv e16) rfl (ble _ _ rfl) rfl)) ?_
 refine sG 45 (iV t4) rfl rfl (fun e17 => (vm rfl rfl)) ?_
 refine sG 46 (bV (eqI t35.mEpoch t4)) rfl rfl (fun e18 => (vb rfl (gv e18) (gv e18) (b_eql rfl))) ?_
 refine sT 47 (bV ((!eqI t35.mID 0) && (eqI t35.mEpoch t4))) rfl (vp rfl rfl (fun e19 => (gv e19)) (fun e20 => rfl) (pA _ _)) ?_
 refine sM 48 (bV ((!eqI t35.mID 0) && (eqI t35.mEpoch t4))) rfl rfl ?_
 refine sG 49 (.ptr 13 0) rfl rfl (fun e21 => (v_field_box (off := 0) (a0 := 0) rfl · · · fo45_0 rfl)) ?_
 refine sG 50 (iV t38.mID) rfl rfl (fun e22 => (v_load_box1 (id := 13) (off := 0) rfl · · · onT3 (gv e22) rfl (ble _ _ rfl) rfl)) ?_
 refine sG 51 (bV (eqI t38.mID 0)) rfl rfl (fun e23 => (vb rfl (gv e23) rfl (b_eql rfl))) ?_
 refine sT 52 (bV (((!eqI t35.mID 0) && (eqI t35.mEpoch t4)) && (eqI t38.mID 0))) rfl (vp rfl rfl (fun e24 => (gv e24)) (fun e25 => rfl) (pA _ _)) ?_
 refine sq_nil ?_
 refine ht_cond rfl (fun e26 => ?_) (fun e26 => ?_)
 ·replace h := cpos e26 h
  refine sr ?_
  refine sP 53 (eCell t0) (eCell t0) ag26 rfl rfl rfl rfl rfl ?_
  refine sS 10 0 ((eCell t0).map V.d) sz26 rfl rfl rfl rfl rfl (ones_of rfl) rfl ?_
  refine sM 11 (bV true) rfl rfl ?_
  refine sz ?_
  cases h
  exact ret2 rfl (.cell rfl rfl ag26 (ble _ _ rfl) rfl) (.tmp rfl)
 replace h := cneg e26 h
 refine ht_skip ?_
 refine ht_seq ?_
 refine sr ?_
 refine sT 54 (.d (.agg (eShard t35))) rfl (w_ldb 12 0 rfl · · · ag45 rfl rfl (ble _ _ rfl) rfl) ?_
 refine sM 55 (iV t3) rfl rfl ?_
 obtain ⟨t56, c27, h⟩ := bpos h
 refine sC 56 (bV t56) (s107 k t35 t3 _ c27) en107 rfl rfl rfl rfl ?_
 refine sT 57 (bV (!t56)) rfl (vu rfl rfl (u_not rfl)) ?_
 refine sM 58 (bV (!t56)) rfl rfl ?_
 refine sF 59 (.d (.agg (eShard t38))) rfl rfl (fun e28 => (w_ldb 13 0 rfl · · · ag45 rfl rfl (ble _ _ rfl) rfl)) ?_
 refine sF 60 (.ptr 13 1) rfl rfl (fun e29 => (v_field_box (off := 0) (a0 := 1) rfl · · · fo45_1 rfl)) ?_
 refine sF 61 (iV t38.mEpoch) rfl rfl (fun e30 => (v_load_box1 (id := 13) (off := 1) rfl · · · onT3 (gv (nF e30)) rfl (ble _ _ rfl) rfl)) ?_
 obtain ⟨t62, c32, h⟩ := bpos h
 refine sF 62 (bV t62) rfl rfl (fun e31 => (vC (s107 k t38 t38.mEpoch _ (cpos (nF e31) c32)) en107 · · · rfl (cc (gv (nF e31)) (cc (gv (nF e31)) rfl)) rfl)) ?_
 refine sF 63 (bV (!t62)) rfl rfl (fun e33 => (vu rfl (gv (nF e33)) (u_not rfl))) ?_
 refine sT 64 (bV ((!t56) || (!t62))) rfl (vp rfl rfl (fun e34 => rfl) (fun e35 => (gv (nF e35))) (pO _ _)) ?_
 refine sM 65 (bV ((!t56) || (!t62))) rfl rfl ?_
 refine sF 66 (iV t4) rfl rfl (fun e36 => (vm rfl rfl)) ?_
 refine sF 67 (.ptr 12 1) rfl rfl (fun e37 => (v_field_box (off := 0) (a0 := 1) rfl · · · fo45_1 rfl)) ?_
 refine sF 68 (iV t35.mEpoch) rfl rfl (fun e38 => (v_load_box1 (id := 12) (off := 1) rfl · · · onT3 (gv (nF e38)) rfl (ble _ _ rfl) rfl)) ?_
 refine sF 69 (bV (leI t4 t35.mEpoch)) rfl rfl (fun e39 => (vb rfl (gv (nF e39)) (gv (nF e39)) (b_leq rfl))) ?_
 refine sT 70 (bV (((!t56) || (!t62)) || (leI t4 t35.mEpoch))) rfl (vp rfl rfl (fun e40 => rfl) (fun e41 => (gv (nF e41))) (pO _ _)) ?_
 refine sM 71 (bV (((!t56) || (!t62)) || (leI t4 t35.mEpoch))) rfl rfl ?_
 refine sF 72 (iV t4) rfl rfl (fun e42 => (vm rfl rfl)) ?_
 refine sF 73 (.ptr 13 1) rfl rfl (fun e43 => (v_field_box (off := 0) (a0 := 1) rfl · · · fo45_1 rfl)) ?_
 refine sF 74 (iV t38.mEpoch) rfl rfl (fun e44 => (v_load_box1 (id := 13) (off := 1) rfl · · · onT3 (gv (nF e44)) rfl (ble _ _ rfl) rfl)) ?_
 refine sF 75 (bV (leI t4 t38.mEpoch)) rfl rfl (fun e45 => (vb rfl (gv (nF e45)) (gv (nF e45)) (b_leq rfl))) ?_
 refine sT 76 (bV ((((!t56) || (!t62)) || (leI t4 t35.mEpoch)) || (leI t4 t38.mEpoch))) rfl (vp rfl rfl (fun e46 => rfl) (fun e47 => (gv (nF e47))) (pO _ _)) ?_
 refine sM 77 (bV ((((!t56) || (!t62)) || (leI t4 t35.mEpoch)) || (leI t4 t38.mEpoch))) rfl rfl ?_
 refine sF 78 (.ptr 12 16) rfl rfl (fun e48 => (v_field_box (off := 0) (a0 := 16) rfl · · · fo45_11 rfl)) ?_
 refine sF 79 (iV t35.mClosed) rfl rfl (fun e49 => (v_load_box1 (id := 12) (off := 16) rfl · · · onT3 (gv (nF e49)) rfl (ble _ _ rfl) rfl)) ?_
 refine sF 80 (iV t4) rfl rfl (fun e50 => (vm rfl rfl)) ?_
 refine sF 81 (bV (leI t4 t35.mClosed)) rfl rfl (fun e51 => (vb rfl (gv (nF e51)) (gv (nF e51)) (b_geq rfl))) ?_
 refine sT 82 (bV (((((!t56) || (!t62)) || (leI t4 t35.mEpoch)) || (leI t4 t38.mEpoch)) || (leI t4 t35.mClosed))) rfl (vp rfl rfl (fun e52 => rfl) (fun e53 => (gv (nF e53))) (pO _ _)) ?_
 refine sq_nil ?_
 refine ht_cond rfl (fun e54 => ?_) (fun e54 => ?_)
 ·replace h := cpos e54 h
  refine sr ?_
  refine sP 83 (eCell t0) (eCell t0) ag26 rfl rfl rfl rfl rfl ?_
  refine sS 10 0 ((eCell t0).map V.d) sz26 rfl rfl rfl rfl rfl (ones_of rfl) rfl ?_
  refine sM 11 (bV false) rfl rfl ?_
  refine sz ?_
  cases h
  exact ret2 rfl (.cell rfl rfl ag26 (ble _ _ rfl) rfl) (.tmp rfl)
 replace h := cneg e54 h
 refine ht_skip ?_
 refine sr ?_
 refine sT 85 (.ptr 12 2) rfl (v_field_box (off := 0) (a0 := 2) rfl · · · fo45_2 rfl) ?_
 refine sT 86 (.d (.agg (eSpan t35.mSpan))) rfl (w_ldb 12 2 rfl · · · ag41 rfl rfl (ble _ _ rfl) rfl) ?_
 refine sT 87 (.ptr 13 2) rfl (v_field_box (off := 0) (a0 := 2) rfl · · · fo45_2 rfl) ?_
 refine sT 88 (.d (.agg (eSpan t38.mSpan))) rfl (w_ldb 13 2 rfl · · · ag41 rfl rfl (ble _ _ rfl) rfl) ?_
 obtain ⟨⟨t89a, t89b⟩, c55, h⟩ := bpos h
 refine sC 89 (.tup [.d (.agg (eSpan t89a)), iV t89b]) (s112 k t35.mSpan t38.mSpan _ c55) en112 rfl rfl rfl rfl ?_
 refine sM 84 (.tup [.d (.agg (eSpan t89a)), iV t89b]) rfl rfl ?_
 refine sT 90 (.d (.agg (eSpan t89a))) rfl (ve rfl rfl rfl) ?_
 refine sT 91 (iV t89b) rfl (ve rfl rfl rfl) ?_
 refine sq_cons _ (v_alloc (id := 14) (cs := zc41) rfl trivial rfl (ble _ _ rfl) zu41 rfl ft41 rfl) ?_
 refine sS 14 0 ((eSpan t89a).map V.d) sz41 rfl rfl rfl rfl rfl (ones_of rfl) rfl ?_
 refine sM 15 (iV t89b) rfl rfl ?_
 refine sq_nil ?_
 refine sr ?_
 refine sT 93 (.ptr 12 5) rfl (v_field_box (off := 0) (a0 := 5) rfl · · · fo45_4 rfl) ?_
 refine sT 94 (.d (.sl 2 (t35.mEntries.map eEntry))) rfl (v_load_box1 (id := 12) (off := 5) rfl · · · onT42 rfl rfl (ble _ _ rfl) rfl) ?_
 refine sT 95 (.ptr 13 5) rfl (v_field_box (off := 0) (a0 := 5) rfl · · · fo45_4 rfl) ?_
 refine sT 96 (.d (.sl 2 (t38.mEntries.map eEntry))) rfl (v_load_box1 (id := 13) (off := 5) rfl · · · onT42 rfl rfl (ble _ _ rfl) rfl) ?_
 obtain ⟨⟨t97a, t97b⟩, c56, h⟩ := bpos h
 refine sC 97 (.tup [.d (.sl 2 (t97a.map eEntry)), iV t97b]) (s113 k t35.mEntries t38.mEntries _ c56) en113 rfl rfl rfl rfl ?_
 refine sM 92 (.tup [.d (.sl 2 (t97a.map eEntry)), iV t97b]) rfl rfl ?_
 refine sT 98 (.d (.sl 2 (t97a.map eEntry))) rfl (ve rfl rfl rfl) ?_
 refine sT 99 (iV t97b) rfl (ve rfl rfl rfl) ?_
 refine sM 16 (.d (.sl 2 (t97a.map eEntry))) rfl rfl ?_
 refine sM 17 (iV t97b) rfl rfl ?_
 refine sq_nil ?_
 refine sr ?_
 refine sT 101 (.ptr 12 12) rfl (v_field_box (off := 0) (a0 := 12) rfl · · · fo45_7 rfl) ?_
 refine sT 102 (.d (.sl 11 (t35.mDone.map eDone))) rfl (v_load_box1 (id := 12) (off := 12) rfl · · · onT43 rfl rfl (ble _ _ rfl) rfl) ?_
 refine sT 103 (.ptr 13 12) rfl (v_field_box (off := 0) (a0 := 12) rfl · · · fo45_7 rfl) ?_
 refine sT 104 (.d (.sl 11 (t38.mDone.map eDone))) rfl (v_load_box1 (id := 13) (off := 12) rfl · · · onT43 rfl rfl (ble _ _ rfl) rfl) ?_
 obtain ⟨⟨t105a, t105b⟩, c57, h⟩ := bpos h
 refine sC 105 (.tup [.d (.sl 11 (t105a.map eDone)), iV t105b]) (s114 k t35.mDone t38.mDone _ c57) en114 rfl rfl rfl rfl ?_
 refine sM 100 (.tup [.d (.sl 11 (t105a.map eDone)), iV t105b]) rfl rfl ?_
 refine sT 106 (.d (.sl 11 (t105a.map eDone))) rfl (ve rfl rfl rfl) ?_
 refine sT 107 (iV t105b) rfl (ve rfl rfl rfl) ?_
 refine sM 18 (.d (.sl 11 (t105a.map eDone))) rfl rfl ?_
 refine sM 19 (iV t105b) rfl rfl ?_
 refine sq_nil ?_
 refine ht_seq ?_
 refine sr ?_
 refine sM 108 (iV t89b) rfl rfl ?_
 refine sT 109 (bV (!eqI t89b 0)) rfl (vb rfl rfl rfl (b_neq rfl)) ?_
 refine sM 110 (bV (!eqI t89b 0)) rfl rfl ?_
 refine sF 111 (iV t97b) rfl rfl (fun e58 => (vm rfl rfl)) ?_
 refine sF 112 (bV (!eqI t97b 0)) rfl rfl (fun e59 => (vb rfl (gv (nF e59)) rfl (b_neq rfl))) ?_
 refine sT 113 (bV ((!eqI t89b 0) || (!eqI t97b 0))) rfl (vp rfl rfl (fun e60 => rfl) (fun e61 => (gv (nF e61))) (pO _ _)) ?_
 refine sM 114 (bV ((!eqI t89b 0) || (!eqI t97b 0))) rfl rfl ?_
 refine sF 115 (iV t105b) rfl rfl (fun e62 => (vm rfl rfl)) ?_
 refine sF 116 (bV (!eqI t105b 0)) rfl rfl (fun e63 => (vb rfl (gv (nF e63)) rfl (b_neq rfl))) ?_
 refine sT 117 (bV (((!eqI t89b 0) || (!eqI t97b 0)) || (!eqI t105b 0))) rfl (vp rfl rfl (fun e64 => rfl) (fun e65 => (gv (nF e65))) (pO _ _)) ?_
 refine sq_nil ?_
 refine ht_cond rfl (fun e66 => ?_) (fun e66 => ?_)
 ·replace h := cpos e66 h
  refine sr ?_
  refine sP 118 (eCell t0) (eCell t0) ag26 rfl rfl rfl rfl rfl ?_
  refine sS 10 0 ((eCell t0).map V.d) sz26 rfl rfl rfl rfl rfl (ones_of rfl) rfl ?_
  refine sM 11 (bV false) rfl rfl ?_
  refine sz ?_
  cases h
  exact ret2 rfl (.cell rfl rfl ag26 (ble _ _ rfl) rfl) (.tmp rfl)
 replace h := cneg e66 h
 refine ht_skip ?_
 refine sr ?_
 refine sT 119 (.d (.agg (eSpan t89a))) rfl (w_ldb 14 0 rfl · · · ag41 rfl rfl (ble _ _ rfl) rfl) ?_
 refine sM 120 (.d (.sl 11 (t105a.map eDone))) rfl rfl ?_
 refine sM 121 (iV t4) rfl rfl ?_
 refine sT 122 (.ptr 12 2) rfl (v_field_box (off := 0) (a0 := 2) rfl · · · fo45_2 rfl) ?_
 refine sS 12 2 ((eSpan t89a).map V.d) sz41 rfl rfl rfl rfl rfl (ones_of rfl) rfl ?_
 refine sT 123 (.ptr 12 12) rfl (v_field_box (off := 0) (a0 := 12) rfl · · · fo45_7 rfl) ?_
 refine sS 12 12 ([(.sl 11 (t105a.map eDone))].map V.d) sz43 rfl rfl rfl rfl rfl (ones_of rfl) rfl ?_
 refine sT 124 (.ptr 12 1) rfl (v_field_box (off := 0) (a0 := 1) rfl · · · fo45_1 rfl) ?_
 refine sS 12 1 ([(.s (.int .i64 t4))].map V.d) sz3 rfl rfl rfl rfl rfl (ones_of rfl) rfl ?_
 refine sT 125 (.ptr 12 15) rfl (v_field_box (off := 0) (a0 := 15) rfl · · · fo45_10 rfl) ?_
 refine sS 12 15 ([(.s (.int .i64 0))].map V.d) sz3 rfl rfl rfl rfl rfl (ones_of rfl) rfl ?_
 refine sq_nil ?_
 refine sr ?_
 refine sT 126 (.ptr 12 6) rfl (v_field_box (off := 0) (a0 := 6) rfl · · · fo45_5 rfl) ?_
 refine sT 127 (.d (.agg (eStamp t35.mMark))) rfl (w_ldb 12 6 rfl · · · ag24 rfl rfl (ble _ _ rfl) rfl) ?_
 refine sT 128 (.ptr 13 6) rfl (v_field_box (off := 0) (a0 := 6) rfl · · · fo45_5 rfl) ?_
 refine sT 129 (.d (.agg (eStamp t38.mMark))) rfl (w_ldb 13 6 rfl · · · ag24 rfl rfl (ble _ _ rfl) rfl) ?_
 obtain ⟨t130, c67, h⟩ := bpos h
 refine sC 130 (.d (.agg (eStamp t130))) (s37 k t35.mMark t38.mMark _ c67) en37 rfl rfl rfl rfl ?_
 refine sT 131 (.ptr 12 6) rfl (v_field_box (off := 0) (a0 := 6) rfl · · · fo45_5 rfl) ?_
 refine sS 12 6 ((eStamp t130).map V.d) sz24 rfl rfl rfl rfl rfl (ones_of rfl) rfl ?_
 refine sq_nil ?_
 refine sr ?_
 refine sM 132 (.d (.sl 2 (t97a.map eEntry))) rfl rfl ?_
 refine sT 133 (.ptr 12 6) rfl (v_field_box (off := 0) (a0 := 6) rfl · · · fo45_5 rfl) ?_
 refine sT 134 (.d (.agg (eStamp t130))) rfl (w_ldb 12 6 rfl · · · ag24 rfl rfl (ble _ _ rfl) rfl) ?_
 obtain ⟨t135, c68, h⟩ := bpos h
 refine sC 135 (.d (.sl 2 (t135.map eEntry))) (s99 k t97a t130 _ c68) en99 rfl rfl rfl rfl ?_
 refine sT 136 (.ptr 12 5) rfl (v_field_box (off := 0) (a0 := 5) rfl · · · fo45_4 rfl) ?_
 refine sS 12 5 ([(.sl 2 (t135.map eEntry))].map V.d) sz42 rfl rfl rfl rfl rfl (ones_of rfl) rfl ?_
 refine sq_nil ?_
 refine ht_seq ?_
 refine ht_region_draw mixed ?_
 refine rT 137 (.ptr 12 14) rfl (v_field_box (off := 0) (a0 := 14) rfl · · · fo45_9 rfl) ?_
 refine rT 138 (iV t35.mSeen) rfl (v_load_box1 (id := 12) (off := 14) rfl · · · onT3 rfl rfl (ble _ _ rfl) rfl) ?_
 refine rT 139 (.ptr 13 14) rfl (v_field_box (off := 0) (a0 := 14) rfl · · · fo45_9 rfl) ?_
 refine rT 140 (iV t38.mSeen) rfl (v_load_box1 (id := 13) (off := 14) rfl · · · onT3 rfl rfl (ble _ _ rfl) rfl) ?_
 refine rT 141 (iV (maxI t35.mSeen t38.mSeen)) rfl (v_bi2 rfl rfl · · · rfl rfl (r_max und3 rfl)) ?_
 refine rT 142 (.ptr 12 16) rfl (v_field_box (off := 0) (a0 := 16) rfl · · · fo45_11 rfl) ?_
 refine rT 143 (iV t35.mClosed) rfl (v_load_box1 (id := 12) (off := 16) rfl · · · onT3 rfl rfl (ble _ _ rfl) rfl) ?_
 refine rT 144 (.ptr 13 16) rfl (v_field_box (off := 0) (a0 := 16) rfl · · · fo45_11 rfl) ?_
 refine rT 145 (iV t38.mClosed) rfl (v_load_box1 (id := 13) (off := 16) rfl · · · onT3 rfl rfl (ble _ _ rfl) rfl) ?_
 refine rT 146 (iV (maxI t35.mClosed t38.mClosed)) rfl (v_bi2 rfl rfl · · · rfl rfl (r_max und3 rfl)) ?_
 refine rT 147 (.ptr 12 14) rfl (v_field_box (off := 0) (a0 := 14) rfl · · · fo45_9 rfl) ?_
 refine rS 12 14 ([(.s (.int .i64 (maxI t35.mSeen t38.mSeen)))].map V.d) sz3 rfl rfl rfl rfl rfl (ones_of rfl) rfl ?_
 refine rT 148 (.ptr 12 16) rfl (v_field_box (off := 0) (a0 := 16) rfl · · · fo45_11 rfl) ?_
 refine rS 12 16 ([(.s (.int .i64 (maxI t35.mClosed t38.mClosed)))].map V.d) sz3 rfl rfl rfl rfl rfl (ones_of rfl) rfl ?_
 refine rg_nil ⟨by kernel_rfl, ?_⟩
 refine sr ?_
 refine sP 149 (eCell t0) (eCell t0) ag26 rfl rfl rfl rfl rfl ?_
 refine sT 150 (.d (.agg (eShard (⟨t35.mID, t4, t89a, t35.mPhase, t135, t130, t35.mTop, t105a, t35.mHold, (maxI t35.mSeen t38.mSeen), 0, (maxI t35.mClosed t38.mClosed)⟩ : Shard)))) rfl (w_ldb 12 0 rfl · · · ag45 rfl rfl (ble _ _ rfl) rfl) ?_
 obtain ⟨t151, c69, h⟩ := bpos h
 refine sC 151 (.d (.agg (eCell t151))) (s95 k t0 (⟨t35.mID, t4, t89a, t35.mPhase, t135, t130, t35.mTop, t105a, t35.mHold, (maxI t35.mSeen t38.mSeen), 0, (maxI t35.mClosed t38.mClosed)⟩ : Shard) _ c69) en95 rfl rfl rfl rfl ?_
 refine sM 152 (iV t2) rfl rfl ?_
 obtain ⟨t153, c70, h⟩ := bpos h
 refine sC 153 (.d (.agg (eCell t153))) (s105 k t151 t2 _ c70) en105 rfl rfl rfl rfl ?_
 refine sS 10 0 ((eCell t153).map V.d) sz26 rfl rfl rfl rfl rfl (ones_of rfl) rfl ?_
 refine sM 11 (bV true) rfl rfl ?_
 refine sz ?_
 cases h
 exact ret2 rfl (.cell rfl rfl ag26 (ble _ _ rfl) rfl) (.tmp rfl)
theorem s115 (k : Nat) (t0 : Span) (t1 : Span) (r : Span × Int) (h : F115 k t0 t1 = some r) : Awp.Spec Tryz.prog amb 115 [(.agg (eSpan t0)), (.agg (eSpan t1))] (.ds [(.agg (eSpan r.1)), (.s (.int .i64 r.2))]) := by
 rw [F115] at h
 refine spec_of Tryz.func115 rfl (ble _ _ rfl) fun w0 ok0 lt0 hA => ?_
 refine sr ?_
 refine sT 2 (.d (.dp (eSpan t0))) rfl (v_box_d (cs := (eSpan t0)) rfl · · · rfl rfl (ones_of rfl)) ?_
 refine sT 3 (.d (.dp (eSpan t1))) rfl (v_box_d (cs := (eSpan t1)) rfl · · · rfl rfl (ones_of rfl)) ?_
 refine sq_cons _ (v_alloc (id := 4) (cs := zc41) rfl trivial rfl (ble _ _ rfl) zu41 rfl ft41 rfl) ?_
 refine sM 5 (iV 0) rfl rfl ?_
 refine sq_nil ?_
 refine ht_seq ?_
 refine sr ?_
 refine sP 6 (eSpan t0) (eSpan t0) ag41 rfl rfl rfl rfl rfl ?_
 obtain ⟨t7, c1, h⟩ := bpos h
 refine sC 7 (bV t7) (s85 k t0 _ c1) en85 rfl rfl rfl rfl ?_
 refine sT 8 (bV (!t7)) rfl (vu rfl rfl (u_not rfl)) ?_
 refine sM 9 (bV (!t7)) rfl rfl ?_
 refine sF 10 (.d (.agg (eSpan t1))) rfl rfl (fun e2 => (w_ldp (eSpan t1) (eSpan t1) rfl · · · ag41 rfl (ble _ _ rfl) rfl)) ?_
 obtain ⟨t11, c4, h⟩ := bpos h
 refine sF 11 (bV t11) rfl rfl (fun e3 => (vC (s85 k t1 _ (cpos (nF e3) c4)) en85 · · · rfl (cc (gv (nF e3)) rfl) rfl)) ?_
 refine sF 12 (bV (!t11)) rfl rfl (fun e5 => (vu rfl (gv (nF e5)) (u_not rfl))) ?_
 refine sT 13 (bV ((!t7) || (!t11))) rfl (vp rfl rfl (fun e6 => rfl) (fun e7 => (gv (nF e7))) (pO _ _)) ?_
 refine sq_nil ?_
 refine ht_cond rfl (fun e8 => ?_) (fun e8 => ?_)
 ·replace h := cpos e8 h
  refine sr ?_
  refine sT 14 (.d (.agg (eSpan (⟨⟨#[]⟩, ⟨#[]⟩⟩ : Span)))) rfl (w_bld zc41 ((eSpan (⟨⟨#[]⟩, ⟨#[]⟩⟩ : Span)).map V.d) [] rfl · · · zw41 rfl ft41 rfl rfl rfl rfl) ?_
  refine sS 4 0 ((eSpan (⟨⟨#[]⟩, ⟨#[]⟩⟩ : Span)).map V.d) sz41 rfl rfl rfl rfl rfl (ones_of rfl) rfl ?_
  refine sM 5 (iV 1) rfl rfl ?_
  refine sz ?_
  cases h
  exact ret2 rfl (.cell rfl rfl ag41 (ble _ _ rfl) rfl) (.tmp rfl)
 replace h := cneg e8 h
 refine ht_skip ?_
 refine ht_seq ?_
 refine sr ?_
 refine sD 15 (eSpan t0) fo41_1 rfl rfl rfl ?_
 refine sT 16 (sV t0.mHi) rfl (vl rfl onT9 rfl rfl) ?_
 refine sT 17 (iV (t0.mHi.size : Int)) rfl (v_len_str rfl rfl · · · und9 rfl) ?_
 refine sT 18 (bV (eqI (t0.mHi.size : Int) 0)) rfl (vb rfl rfl rfl (b_eql rfl)) ?_
 refine sM 19 (bV (eqI (t0.mHi.size : Int) 0)) rfl rfl ?_
 refine sF 20 (.d (.dp (List.drop 1 (eSpan t0)))) rfl rfl (fun e9 => (vD (eSpan t0) fo41_1 · · · rfl rfl)) ?_
 refine sF 21 (sV t0.mHi) rfl rfl (fun e10 => (vl rfl onT9 (gv (nF e10)) rfl)) ?_
 refine sF 22 (.d (.dp (eSpan t1))) rfl rfl (fun e11 => (vD (eSpan t1) fo41_0 · · · rfl rfl)) ?_
 refine sF 23 (sV t1.mLo) rfl rfl (fun e12 => (vl rfl onT9 (gv (nF e12)) rfl)) ?_
 refine sF 24 (bV (!strEq t0.mHi t1.mLo)) rfl rfl (fun e13 => (vb rfl (gv (nF e13)) (gv (nF e13)) (b_neS rfl))) ?_
 refine sT 25 (bV ((eqI (t0.mHi.size : Int) 0) || (!strEq t0.mHi t1.mLo))) rfl (vp rfl rfl (fun e14 => rfl) (fun e15 => (gv (nF e15))) (pO _ _)) ?_
 refine sq_nil ?_
 refine ht_cond rfl (fun e16 => ?_) (fun e16 => ?_)
 ·replace h := cpos e16 h
  refine sr ?_
  refine sT 26 (.d (.agg (eSpan (⟨⟨#[]⟩, ⟨#[]⟩⟩ : Span)))) rfl (w_bld zc41 ((eSpan (⟨⟨#[]⟩, ⟨#[]⟩⟩ : Span)).map V.d) [] rfl · · · zw41 rfl ft41 rfl rfl rfl rfl) ?_
  refine sS 4 0 ((eSpan (⟨⟨#[]⟩, ⟨#[]⟩⟩ : Span)).map V.d) sz41 rfl rfl rfl rfl rfl (ones_of rfl) rfl ?_
  refine sM 5 (iV 9) rfl rfl ?_
  refine sz ?_
  cases h
  exact ret2 rfl (.cell rfl rfl ag41 (ble _ _ rfl) rfl) (.tmp rfl)
 replace h := cneg e16 h
 refine ht_skip ?_
 refine sr ?_
 refine sD 27 (eSpan t0) fo41_0 rfl rfl rfl ?_
 refine sT 28 (sV t0.mLo) rfl (vl rfl onT9 rfl rfl) ?_
 refine sD 29 (eSpan t1) fo41_1 rfl rfl rfl ?_
 refine sT 30 (sV t1.mHi) rfl (vl rfl onT9 rfl rfl) ?_
 refine sT 31 (.d (.agg (eSpan ({t0 with mHi := t1.mHi})))) rfl (w_bld zc41 ((eSpan ({t0 with mHi := t1.mHi})).map V.d) [(0, sV t0.mLo), (1, sV t1.mHi)] rfl · · · zw41 rfl ft41 rfl rfl rfl rfl) ?_
 refine sS 4 0 ((eSpan ({t0 with mHi := t1.mHi})).map V.d) sz41 rfl rfl rfl rfl rfl (ones_of rfl) rfl ?_
 refine sM 5 (iV 0) rfl rfl ?_
 refine sz ?_
 cases h
 exact ret2 rfl (.cell rfl rfl ag41 (ble _ _ rfl) rfl) (.tmp rfl)
theorem s116 (k : Nat) (t0 : List Entry) (t1 : List Entry) (r : (List Entry) × Int) (h : F116 k t0 t1 = some r) : Awp.Spec Tryz.prog amb 116 [(.sl 2 (t0.map eEntry)), (.sl 2 (t1.map eEntry))] (.ds [(.sl 2 (r.1.map eEntry)), (.s (.int .i64 r.2))]) := by
 rw [F116] at h
 refine spec_of Tryz.func116 rfl (ble _ _ rfl) fun w0 ok0 lt0 hA => ?_
 refine sr ?_
 refine sM 4 (.d (.s (.slice none 0 0))) rfl rfl ?_
 refine sM 5 (iV 0) rfl rfl ?_
 refine sq_nil ?_
 refine ht_seq ?_
 refine sr ?_
 refine sM 9 (.d (.sl 2 (t0.map eEntry))) rfl rfl ?_
 obtain ⟨t10, c1, h⟩ := bpos h
 refine sC 10 (bV t10) (s86 k t0 _ c1) en86 rfl rfl rfl rfl ?_
 refine sT 11 (bV (!t10)) rfl (vu rfl rfl (u_not rfl)) ?_
 refine sM 12 (bV (!t10)) rfl rfl ?_
 refine sF 13 (.d (.sl 2 (t1.map eEntry))) rfl rfl (fun e2 => (vm rfl rfl)) ?_
 obtain ⟨t14, c4, h⟩ := bpos h
 refine sF 14 (bV t14) rfl rfl (fun e3 => (vC (s86 k t1 _ (cpos (nF e3) c4)) en86 · · · rfl (cc (gv (nF e3)) rfl) rfl)) ?_
 refine sF 15 (bV (!t14)) rfl rfl (fun e5 => (vu rfl (gv (nF e5)) (u_not rfl))) ?_
 refine sT 16 (bV ((!t10) || (!t14))) rfl (vp rfl rfl (fun e6 => rfl) (fun e7 => (gv (nF e7))) (pO _ _)) ?_
 refine sq_nil ?_
 refine ht_cond rfl (fun e8 => ?_) (fun e8 => ?_)
 ·replace h := cpos e8 h
  refine sr ?_
  refine sM 4 (.d (.s (.slice none 0 0))) rfl rfl ?_
  refine sM 5 (iV 1) rfl rfl ?_
  refine sz ?_
  cases h
  exact retM_wk (wk_nil (.t 4) (nb 4) 2 rfl) (ret2 rfl (.tmp rfl) (.tmp rfl))
 replace h := cneg e8 h
 refine ht_skip ?_
 refine ht_gj (go_id' h) (fun _ => tell [(.t 0, .d (.sl 2 (t0.map eEntry))), (.t 1, .d (.sl 2 (t1.map eEntry)))]) (fun _ h => ?_) (fun v9 K10 h j12 r13 => ?_)
 ·refine ht_seq ?_
  refine sr ?_
  refine sM 41 (.d (.sl 2 (t0.map eEntry))) rfl rfl ?_
  refine sT 42 (iV (t0.length : Int)) rfl (w_len t0 eEntry rfl rfl · · · slT42 rfl) ?_
  refine sM 43 (.d (.sl 2 (t1.map eEntry))) rfl rfl ?_
  refine sT 44 (iV (t1.length : Int)) rfl (w_len t1 eEntry rfl rfl · · · slT42 rfl) ?_
  refine sT 45 (iV (IntKind.wrap .i64 ((t0.length : Int) + (t1.length : Int)))) rfl (vb rfl rfl rfl (b_add rfl)) ?_
  obtain ⟨t46, q33, h⟩ := bndp h
  refine sT 46 (bV t46) rfl (vb rfl rfl rfl (b_gtr q33)) ?_
  refine sq_nil ?_
  refine ht_cond rfl (fun e34 => ?_) (fun e34 => ?_)
  ·replace h := cpos e34 h
   refine sr ?_
   refine sM 4 (.d (.s (.slice none 0 0))) rfl rfl ?_
   refine sM 5 (iV 6) rfl rfl ?_
   refine sz ?_
   cases h
   exact retM_wk (wk_nil (.t 4) (nb 4) 2 rfl) (ret2 rfl (.tmp rfl) (.tmp rfl))
  replace h := cneg e34 h
  refine ht_skip ?_
  refine sr ?_
  refine sM 8 (.d (.s (.slice none 0 0))) rfl rfl ?_
  refine sq_nil ?_
  refine sr ?_
  refine sM 47 (.d (.s (.slice none 0 0))) rfl rfl ?_
  refine sM 48 (.d (.sl 2 (t0.map eEntry))) rfl rfl ?_
  refine sq_wk (wk_nilrow (.t 47) (nb 47) 2047 116 2 rfl rfl) ?_
  obtain ⟨e35, h⟩ := gpos h
  refine sq_cons ⟨_, [(.b 2047, .spent), (.b 49, .row false 116 2 ((([] : List Entry) ++ t0).map eEntry)), (.t 49, .own 49 2 (([] : List Entry) ++ t0).length)]⟩ (w_app 49 ([] : List Entry) t0 eEntry rfl rfl trivial rfl (ble _ _ rfl) slT42 elT116 teEntry rfl rfl rfl (.d) rfl e35) ?_
  refine sM 50 (.d (.sl 2 (t1.map eEntry))) rfl rfl ?_
  obtain ⟨e36, h⟩ := gpos h
  refine sq_cons ⟨_, [(.b 49, .spent), (.b 51, .row false 116 2 (((([] : List Entry) ++ t0) ++ t1).map eEntry)), (.t 51, .own 51 2 ((([] : List Entry) ++ t0) ++ t1).length)]⟩ (w_app 51 (([] : List Entry) ++ t0) t1 eEntry rfl rfl trivial rfl (ble _ _ rfl) slT42 elT116 teEntry rfl rfl rfl (.d) rfl e36) ?_
  refine sM 4 (.own 51 2 ((([] : List Entry) ++ t0) ++ t1).length) rfl rfl ?_
  refine sM 5 (iV 0) rfl rfl ?_
  refine sz ?_
  cases h
  exact retM_wk (wk_still_row 51 _ _ _ rfl) (retM_wk (wk_row (.t 4) (nb 4) 51 _ _ _ _ rfl rfl (lm _ _)) (retM_wk (wk_row (.t 51) (nb 51) 51 _ _ _ _ rfl rfl (lm _ _)) (ret2 rfl (.tmp rfl) (.tmp rfl))))
 refine sr ?_
 refine sM 6 (iV 0) rfl rfl ?_
 refine sq_nil ?_
 refine ht_block ?_
 refine ht_rd h (fun _ => rfl) (fun t6 => tell [(.t 0, .d (.sl 2 (t0.map eEntry))), (.t 1, .d (.sl 2 (t1.map eEntry))), (.t 6, iV t6)]) (wi rfl rfl) fun k t6 h K32 j15 => ?_
 rw [F116_l1] at h
 refine ht_seq ?_
 refine sr ?_
 refine sM 17 (iV t6) rfl rfl ?_
 refine sM 18 (.d (.sl 2 (t0.map eEntry))) rfl rfl ?_
 refine sT 19 (iV (t0.length : Int)) rfl (w_len t0 eEntry rfl rfl · · · slT42 rfl) ?_
 refine sT 20 (bV (ltI t6 (t0.length : Int))) rfl (vb rfl rfl rfl (b_lss rfl)) ?_
 refine sq_nil ?_
 refine ht_cond rfl (fun e17 => ?_) (fun e17 => ?_)
 ·replace h := cpos e17 h
  refine ht_skip ?_
  refine ht_gj h (fun _ => tell [(.t 0, .d (.sl 2 (t0.map eEntry))), (.t 1, .d (.sl 2 (t1.map eEntry))), (.t 6, iV t6)]) (fun _ h => ?_) (fun v18 K19 h j21 r22 => ?_)
  ·refine ht_region ?_
   refine sM 21 (iV t6) rfl rfl ?_
   refine sT 22 (iV (IntKind.wrap .i64 (t6 + 1))) rfl (vb rfl rfl rfl (b_add rfl)) ?_
   refine sM 6 (iV (IntKind.wrap .i64 (t6 + 1))) rfl rfl ?_
   refine sq_nil ?_
   exact j15 _ _ h (wi rfl rfl)
  refine ht_block ?_
  refine sr ?_
  refine sM 7 (iV 0) rfl rfl ?_
  refine sq_nil ?_
  refine ht_block ?_
  refine ht_rd h (fun _ => rfl) (fun t7 => tell [(.t 0, .d (.sl 2 (t0.map eEntry))), (.t 1, .d (.sl 2 (t1.map eEntry))), (.t 6, iV t6), (.t 7, iV t7)]) (wi rfl rfl) fun k t7 h K31 j24 => ?_
  rw [F116_l2] at h
  refine ht_seq ?_
  refine sr ?_
  refine sM 23 (iV t7) rfl rfl ?_
  refine sM 24 (.d (.sl 2 (t1.map eEntry))) rfl rfl ?_
  refine sT 25 (iV (t1.length : Int)) rfl (w_len t1 eEntry rfl rfl · · · slT42 rfl) ?_
  refine sT 26 (bV (ltI t7 (t1.length : Int))) rfl (vb rfl rfl rfl (b_lss rfl)) ?_
  refine sq_nil ?_
  refine ht_cond rfl (fun e26 => ?_) (fun e26 => ?_)
  ·replace h := cpos e26 h
   refine ht_skip ?_
   refine ht_seq ?_
   refine ht_block ?_
   refine ht_seq ?_
   refine ht_region_draw mixed ?_
   refine rM 29 (.d (.sl 2 (t0.map eEntry))) rfl rfl ?_
   refine rM 30 (iV t6) rfl rfl ?_
   obtain ⟨e27, h⟩ := gpos h
   refine rT 31 (.d (.dp (eEntry (rd t0 t6)))) rfl (w_idx t0 eEntry rfl · · · slT42 rfl rfl e27) ?_
   refine rD 32 (eEntry (rd t0 t6)) fo116_0 rfl rfl rfl ?_
   refine rT 33 (sV (rd t0 t6).mKey) rfl (vl rfl onT9 rfl rfl) ?_
   refine rM 34 (.d (.sl 2 (t1.map eEntry))) rfl rfl ?_
   refine rM 35 (iV t7) rfl rfl ?_
   obtain ⟨e28, h⟩ := gpos h
   refine rT 36 (.d (.dp (eEntry (rd t1 t7)))) rfl (w_idx t1 eEntry rfl · · · slT42 rfl rfl e28) ?_
   refine rD 37 (eEntry (rd t1 t7)) fo116_0 rfl rfl rfl ?_
   refine rT 38 (sV (rd t1 t7).mKey) rfl (vl rfl onT9 rfl rfl) ?_
   obtain ⟨t39, c29, h⟩ := bpos h
   refine rC 39 (iV t39) (s119 k (rd t0 t6).mKey (rd t1 t7).mKey _ c29) en119 rfl rfl rfl rfl ?_
   refine rT 40 (bV (leI 0 t39)) rfl (vb rfl rfl rfl (b_geq rfl)) ?_
   refine rg_nil ⟨by kernel_rfl, ?_⟩
   refine ht_cond rfl (fun e30 => ?_) (fun e30 => ?_)
   ·replace h := cpos e30 h
    refine sr ?_
    refine sM 4 (.d (.s (.slice none 0 0))) rfl rfl ?_
    refine sM 5 (iV 9) rfl rfl ?_
    refine sz ?_
    cases h
    cases r22 _ rfl
    cases r13 _ rfl
    exact retM_wk (wk_nil (.t 4) (nb 4) 2 rfl) (ret2 rfl (.tmp rfl) (.tmp rfl))
   replace h := cneg e30 h
   refine ht_skip ?_
   refine ht_region ?_
   refine sM 27 (iV t7) rfl rfl ?_
   refine sT 28 (iV (IntKind.wrap .i64 (t7 + 1))) rfl (vb rfl rfl rfl (b_add rfl)) ?_
   refine sM 7 (iV (IntKind.wrap .i64 (t7 + 1))) rfl rfl ?_
   refine sq_nil ?_
   exact j24 _ _ h (wi rfl rfl)
  replace h := cneg e26 h
  refine ht_exit ?_
  refine tq ?_
  refine tq ?_
  refine bq_hit ?_
  cases h
  exact j21 _ _ rfl (wi rfl rfl)
 replace h := cneg e17 h
 refine ht_exit ?_
 refine tq ?_
 refine tq ?_
 refine bq_hit ?_
 cases h
 exact j12 _ _ rfl (wi rfl rfl)
end Go.Proofs.Gd
set_option linter.unusedVariables false
set_option maxRecDepth 100000
set_option maxHeartbeats 4000000
namespace Go.Proofs.Gd
open Go Go.Awp Go.Proofs
theorem s117 (k : Nat) (t0 : List Done) (t1 : List Done) (r : (List Done) × Int) (h : F117 k t0 t1 = some r) : Awp.Spec Tryz.prog amb 117 [(.sl 11 (t0.map eDone)), (.sl 11 (t1.map eDone))] (.ds [(.sl 11 (r.1.map eDone)), (.s (.int .i64 r.2))]) := by
 rw [F117] at h
 refine spec_of Tryz.func117 rfl (ble _ _ rfl) fun w0 ok0 lt0 hA => ?_
 refine sr ?_
 refine sM 4 (.d (.s (.slice none 0 0))) rfl rfl ?_
 refine sM 5 (iV 0) rfl rfl ?_
 refine sq_nil ?_
 refine ht_seq ?_
 refine sr ?_
 refine sM 9 (.d (.sl 11 (t0.map eDone))) rfl rfl ?_
 obtain ⟨t10, c1, h⟩ := bpos h
 refine sC 10 (bV t10) (s87 k t0 _ c1) en87 rfl rfl rfl rfl ?_
 refine sT 11 (bV (!t10)) rfl (vu rfl rfl (u_not rfl)) ?_
 refine sM 12 (bV (!t10)) rfl rfl ?_
 refine sF 13 (.d (.sl 11 (t1.map eDone))) rfl rfl (fun e2 => (vm rfl rfl)) ?_
 obtain ⟨t14, c4, h⟩ := bpos h
 refine sF 14 (bV t14) rfl rfl (fun e3 => (vC (s87 k t1 _ (cpos (nF e3) c4)) en87 · · · rfl (cc (gv (nF e3)) rfl) rfl)) ?_
 refine sF 15 (bV (!t14)) rfl rfl (fun e5 => (vu rfl (gv (nF e5)) (u_not rfl))) ?_
 refine sT 16 (bV ((!t10) || (!t14))) rfl (vp rfl rfl (fun e6 => rfl) (fun e7 => (gv (nF e7))) (pO _ _)) ?_
 refine sq_nil ?_
 refine ht_cond rfl (fun e8 => ?_) (fun e8 => ?_)
 ·replace h := cpos e8 h
  refine sr ?_
  refine sM 4 (.d (.s (.slice none 0 0))) rfl rfl ?_
  refine sM 5 (iV 1) rfl rfl ?_
  refine sz ?_
  cases h
  exact retM_wk (wk_nil (.t 4) (nb 4) 11 rfl) (ret2 rfl (.tmp rfl) (.tmp rfl))
 replace h := cneg e8 h
 refine ht_skip ?_
 refine sr ?_
 refine sM 6 (.d (.s (.slice none 0 0))) rfl rfl ?_
 refine sq_nil ?_
 refine ht_bj h (fun t6 => tell [(.b 1006, .row false 100 11 (t6.map eDone)), (.t 0, .d (.sl 11 (t0.map eDone))), (.t 1, .d (.sl 11 (t1.map eDone))), (.t 6, .own 1006 11 t6.length)]) (fun t6 h => ?_) (fun v9 K10 h j12 => ?_)
 ·refine ht_bj h (fun t6_2 => tell [(.b 1006, .row false 100 11 (t6_2.map eDone)), (.t 6, .own 1006 11 t6_2.length)]) (fun t6_2 h => ?_) (fun v25 K26 h j28 => ?_)
  ·refine ht_seq ?_
   refine sr ?_
   refine sM 69 (.own 1006 11 t6_2.length) rfl rfl ?_
   refine sT 70 (iV (t6_2.length : Int)) rfl (v_len_own rfl rfl · · · und43 rfl) ?_
   refine sT 71 (bV (ltI 8 (t6_2.length : Int))) rfl (vb rfl rfl rfl (b_gtr rfl)) ?_
   refine sq_nil ?_
   refine ht_cond rfl (fun e41 => ?_) (fun e41 => ?_)
   ·replace h := cpos e41 h
    refine sr ?_
    refine sM 4 (.d (.s (.slice none 0 0))) rfl rfl ?_
    refine sM 5 (iV 6) rfl rfl ?_
    refine sz ?_
    cases h
    exact retM_wk (wk_nil (.t 4) (nb 4) 11 rfl) (ret2 rfl (.tmp rfl) (.tmp rfl))
   replace h := cneg e41 h
   refine ht_skip ?_
   refine ht_seq ?_
   refine ht_weak (wk_still_row 1006 _ _ _ rfl) ?_
   refine ht_weak (wk_row (.t 6) (nb 6) 1006 _ _ _ _ rfl rfl (lm _ _)) ?_
   refine ht_weak (wk_row (.t 69) (nb 69) 1006 _ _ _ _ rfl rfl (lm _ _)) ?_
   refine ht_region ?_
   refine sM 72 (.d (.sl 11 (t6_2.map eDone))) rfl rfl ?_
   obtain ⟨t73, c42, h⟩ := bpos h
   refine sC 73 (.d (.sl 11 (t73.map eDone))) (s135 k t6_2 _ c42) en135 rfl rfl rfl rfl ?_
   refine sM 4 (.d (.sl 11 (t73.map eDone))) rfl rfl ?_
   refine sM 5 (iV 0) rfl rfl ?_
   refine sz ?_
   cases h
   exact ret2 rfl (.tmp rfl) (.tmp rfl)
  refine sr ?_
  refine sM 8 (iV 0) rfl rfl ?_
  refine sq_nil ?_
  refine ht_block ?_
  refine ht_rd h (fun _ => rfl) (fun (t6_3, t8) => tell [(.b 1006, .row false 100 11 (t6_3.map eDone)), (.t 0, .d (.sl 11 (t0.map eDone))), (.t 1, .d (.sl 11 (t1.map eDone))), (.t 6, .own 1006 11 t6_3.length), (.t 8, iV t8)]) (wi rfl rfl) fun k v32 h K40 j31 => ?_
  obtain ⟨t6_3, t8⟩ := v32
  rw [F117_l2] at h
  refine ht_seq ?_
  refine sr ?_
  refine sM 43 (iV t8) rfl rfl ?_
  refine sM 44 (.d (.sl 11 (t1.map eDone))) rfl rfl ?_
  refine sT 45 (iV (t1.length : Int)) rfl (w_len t1 eDone rfl rfl · · · slT43 rfl) ?_
  refine sT 46 (bV (ltI t8 (t1.length : Int))) rfl (vb rfl rfl rfl (b_lss rfl)) ?_
  refine sq_nil ?_
  refine ht_cond rfl (fun e33 => ?_) (fun e33 => ?_)
  ·replace h := cpos e33 h
   refine ht_skip ?_
   refine ht_seq ?_
   refine ht_block ?_
   refine ht_seq ?_
   refine ht_region_draw mixed ?_
   refine rM 49 (.d (.sl 11 (t0.map eDone))) rfl rfl ?_
   refine rM 50 (.d (.sl 11 (t1.map eDone))) rfl rfl ?_
   refine rM 51 (iV t8) rfl rfl ?_
   obtain ⟨e34, h⟩ := gpos h
   refine rT 52 (.d (.dp (eDone (rd t1 t8)))) rfl (w_idx t1 eDone rfl · · · slT43 rfl rfl e34) ?_
   refine rD 53 (eDone (rd t1 t8)) fo100_0 rfl rfl rfl ?_
   refine rT 54 (iV (rd t1 t8).mClient) rfl (vl rfl onT3 rfl rfl) ?_
   obtain ⟨t55, c35, h⟩ := bpos h
   refine rC 55 (iV t55) (s74 k t0 (rd t1 t8).mClient _ c35) en74 rfl rfl rfl rfl ?_
   refine rM 56 (.d (.sl 11 (t1.map eDone))) rfl rfl ?_
   refine rM 57 (iV t8) rfl rfl ?_
   obtain ⟨e36, h⟩ := gpos h
   refine rT 58 (.d (.dp (eDone (rd t1 t8)))) rfl (w_idx t1 eDone rfl · · · slT43 rfl rfl e36) ?_
   refine rD 59 (eDone (rd t1 t8)) fo100_1 rfl rfl rfl ?_
   refine rT 60 (iV (rd t1 t8).mReq) rfl (vl rfl onT3 rfl rfl) ?_
   refine rT 61 (bV (ltI t55 (rd t1 t8).mReq)) rfl (vb rfl rfl rfl (b_lss rfl)) ?_
   refine rg_nil ⟨by kernel_rfl, ?_⟩
   refine ht_cond rfl (fun e37 => ?_) (fun e37 => ?_)
   ·replace h := cpos e37 h
    refine ht_region ?_
    refine sM 62 (.own 1006 11 t6_3.length) rfl rfl ?_
    refine sM 63 (.d (.sl 11 (t1.map eDone))) rfl rfl ?_
    refine sM 64 (iV t8) rfl rfl ?_
    obtain ⟨e38, h⟩ := gpos h
    refine sT 65 (.d (.dp (eDone (rd t1 t8)))) rfl (w_idx t1 eDone rfl · · · slT43 rfl rfl e38) ?_
    refine sP 66 (eDone (rd t1 t8)) (eDone (rd t1 t8)) ag100 rfl rfl rfl rfl rfl ?_
    refine sq_cons ⟨_, [(.b 67, .row false 100 11 (([(rd t1 t8)]).map eDone)), (.t 67, .own 67 11 ([(rd t1 t8)]).length)]⟩ (w_bsl (id := 67) [(0, .d (.agg (eDone (rd t1 t8))))] [(rd t1 t8)] eDone rfl trivial rfl (ble _ _ rfl) slT43 zr100 teDone (ble _ _ rfl) rfl (by kernel_rfl) rfl rfl (by kernel_rfl) (by kernel_rfl)) ?_
    obtain ⟨e39, h⟩ := gpos h
    refine sq_cons ⟨_, [(.b 1006, .spent), (.b 68, .row false 100 11 ((t6_3 ++ [(rd t1 t8)]).map eDone)), (.t 68, .own 68 11 (t6_3 ++ [(rd t1 t8)]).length)]⟩ (w_app 68 t6_3 ([(rd t1 t8)]) eDone rfl rfl trivial rfl (ble _ _ rfl) slT43 elT100 teDone rfl rfl rfl (.own 67 _ _ rfl) rfl e39) ?_
    refine sM 6 (.own 68 11 (t6_3 ++ [(rd t1 t8)]).length) rfl rfl ?_
    refine sq_nil ?_
    refine ht_region ?_
    refine sM 47 (iV t8) rfl rfl ?_
    refine sT 48 (iV (IntKind.wrap .i64 (t8 + 1))) rfl (vb rfl rfl rfl (b_add rfl)) ?_
    refine sM 8 (iV (IntKind.wrap .i64 (t8 + 1))) rfl rfl ?_
    refine sq_nil ?_
    exact j31 _ _ h (wr (fun i => bif Nat.beq i 1006 then 68 else i) rfl rfl)
   replace h := cneg e37 h
   refine ht_skip ?_
   refine ht_region ?_
   refine sM 47 (iV t8) rfl rfl ?_
   refine sT 48 (iV (IntKind.wrap .i64 (t8 + 1))) rfl (vb rfl rfl rfl (b_add rfl)) ?_
   refine sM 8 (iV (IntKind.wrap .i64 (t8 + 1))) rfl rfl ?_
   refine sq_nil ?_
   exact j31 _ _ h (wi rfl rfl)
  replace h := cneg e33 h
  refine ht_exit ?_
  refine tq ?_
  refine tq ?_
  refine bq_hit ?_
  cases h
  exact j28 _ (wi rfl rfl)
 refine sr ?_
 refine sM 7 (iV 0) rfl rfl ?_
 refine sq_nil ?_
 refine ht_block ?_
 refine ht_rd h (fun _ => rfl) (fun (t6_1, t7) => tell [(.b 1006, .row false 100 11 (t6_1.map eDone)), (.t 0, .d (.sl 11 (t0.map eDone))), (.t 1, .d (.sl 11 (t1.map eDone))), (.t 6, .own 1006 11 t6_1.length), (.t 7, iV t7)]) (wkt (wk_nilrow (.t 6) (nb 6) 1001006 100 11 rfl rfl) (wr (fun i => bif Nat.beq i 1006 then 1001006 else i) rfl rfl)) fun k v16 h K24 j15 => ?_
 obtain ⟨t6_1, t7⟩ := v16
 rw [F117_l1] at h
 refine ht_seq ?_
 refine sr ?_
 refine sM 17 (iV t7) rfl rfl ?_
 refine sM 18 (.d (.sl 11 (t0.map eDone))) rfl rfl ?_
 refine sT 19 (iV (t0.length : Int)) rfl (w_len t0 eDone rfl rfl · · · slT43 rfl) ?_
 refine sT 20 (bV (ltI t7 (t0.length : Int))) rfl (vb rfl rfl rfl (b_lss rfl)) ?_
 refine sq_nil ?_
 refine ht_cond rfl (fun e17 => ?_) (fun e17 => ?_)
 ·replace h := cpos e17 h
  refine ht_skip ?_
  refine ht_seq ?_
  refine ht_block ?_
  refine ht_seq ?_
  refine ht_region_draw mixed ?_
  refine rM 23 (.d (.sl 11 (t1.map eDone))) rfl rfl ?_
  refine rM 24 (.d (.sl 11 (t0.map eDone))) rfl rfl ?_
  refine rM 25 (iV t7) rfl rfl ?_
  obtain ⟨e18, h⟩ := gpos h
  refine rT 26 (.d (.dp (eDone (rd t0 t7)))) rfl (w_idx t0 eDone rfl · · · slT43 rfl rfl e18) ?_
  refine rD 27 (eDone (rd t0 t7)) fo100_0 rfl rfl rfl ?_
  refine rT 28 (iV (rd t0 t7).mClient) rfl (vl rfl onT3 rfl rfl) ?_
  obtain ⟨t29, c19, h⟩ := bpos h
  refine rC 29 (iV t29) (s74 k t1 (rd t0 t7).mClient _ c19) en74 rfl rfl rfl rfl ?_
  refine rM 30 (.d (.sl 11 (t0.map eDone))) rfl rfl ?_
  refine rM 31 (iV t7) rfl rfl ?_
  obtain ⟨e20, h⟩ := gpos h
  refine rT 32 (.d (.dp (eDone (rd t0 t7)))) rfl (w_idx t0 eDone rfl · · · slT43 rfl rfl e20) ?_
  refine rD 33 (eDone (rd t0 t7)) fo100_1 rfl rfl rfl ?_
  refine rT 34 (iV (rd t0 t7).mReq) rfl (vl rfl onT3 rfl rfl) ?_
  refine rT 35 (bV (leI t29 (rd t0 t7).mReq)) rfl (vb rfl rfl rfl (b_leq rfl)) ?_
  refine rg_nil ⟨by kernel_rfl, ?_⟩
  refine ht_cond rfl (fun e21 => ?_) (fun e21 => ?_)
  ·replace h := cpos e21 h
   refine ht_region ?_
   refine sM 36 (.own 1006 11 t6_1.length) rfl rfl ?_
   refine sM 37 (.d (.sl 11 (t0.map eDone))) rfl rfl ?_
   refine sM 38 (iV t7) rfl rfl ?_
   obtain ⟨e22, h⟩ := gpos h
   refine sT 39 (.d (.dp (eDone (rd t0 t7)))) rfl (w_idx t0 eDone rfl · · · slT43 rfl rfl e22) ?_
   refine sP 40 (eDone (rd t0 t7)) (eDone (rd t0 t7)) ag100 rfl rfl rfl rfl rfl ?_
   refine sq_cons ⟨_, [(.b 41, .row false 100 11 (([(rd t0 t7)]).map eDone)), (.t 41, .own 41 11 ([(rd t0 t7)]).length)]⟩ (w_bsl (id := 41) [(0, .d (.agg (eDone (rd t0 t7))))] [(rd t0 t7)] eDone rfl trivial rfl (ble _ _ rfl) slT43 zr100 teDone (ble _ _ rfl) rfl (by kernel_rfl) rfl rfl (by kernel_rfl) (by kernel_rfl)) ?_
   obtain ⟨e23, h⟩ := gpos h
   refine sq_cons ⟨_, [(.b 1006, .spent), (.b 42, .row false 100 11 ((t6_1 ++ [(rd t0 t7)]).map eDone)), (.t 42, .own 42 11 (t6_1 ++ [(rd t0 t7)]).length)]⟩ (w_app 42 t6_1 ([(rd t0 t7)]) eDone rfl rfl trivial rfl (ble _ _ rfl) slT43 elT100 teDone rfl rfl rfl (.own 41 _ _ rfl) rfl e23) ?_
   refine sM 6 (.own 42 11 (t6_1 ++ [(rd t0 t7)]).length) rfl rfl ?_
   refine sq_nil ?_
   refine ht_region ?_
   refine sM 21 (iV t7) rfl rfl ?_
   refine sT 22 (iV (IntKind.wrap .i64 (t7 + 1))) rfl (vb rfl rfl rfl (b_add rfl)) ?_
   refine sM 7 (iV (IntKind.wrap .i64 (t7 + 1))) rfl rfl ?_
   refine sq_nil ?_
   exact j15 _ _ h (wr (fun i => bif Nat.beq i 1006 then 42 else i) rfl rfl)
  replace h := cneg e21 h
  refine ht_skip ?_
  refine ht_region ?_
  refine sM 21 (iV t7) rfl rfl ?_
  refine sT 22 (iV (IntKind.wrap .i64 (t7 + 1))) rfl (vb rfl rfl rfl (b_add rfl)) ?_
  refine sM 7 (iV (IntKind.wrap .i64 (t7 + 1))) rfl rfl ?_
  refine sq_nil ?_
  exact j15 _ _ h (wi rfl rfl)
 replace h := cneg e17 h
 refine ht_exit ?_
 refine tq ?_
 refine tq ?_
 refine bq_hit ?_
 cases h
 exact j12 _ (wi rfl rfl)
theorem s51 (k : Nat) (t0 : Cell) (t1 : Int) (t2 : Int) (t3 : Int) (t4 : Int) (r : Cell × Bool) (h : F51 k t0 t1 t2 t3 t4 = some r) : Awp.Spec Tryz.prog amb 51 [(.agg (eCell t0)), (.s (.int .i64 t1)), (.s (.int .i64 t2)), (.s (.int .i64 t3)), (.s (.int .i64 t4))] (.ds [(.agg (eCell r.1)), (.s (.bool r.2))]) := by
 rw [F51] at h
 refine spec_of Tryz.func51 rfl (ble _ _ rfl) fun w0 ok0 lt0 hA => ?_
 refine sr ?_
 refine sT 5 (.d (.dp (eCell t0))) rfl (v_box_d (cs := (eCell t0)) rfl · · · rfl rfl (ones_of rfl)) ?_
 refine sq_cons _ (v_alloc (id := 10) (cs := zc26) rfl trivial rfl (ble _ _ rfl) zu26 rfl ft26 rfl) ?_
 refine sM 11 (bV false) rfl rfl ?_
 refine sq_nil ?_
 refine ht_seq ?_
 refine sr ?_
 refine sP 20 (eCell t0) (eCell t0) ag26 rfl rfl rfl rfl rfl ?_
 obtain ⟨t21, c1, h⟩ := bpos h
 refine sC 21 (bV t21) (s22 k t0 _ c1) en22 rfl rfl rfl rfl ?_
 refine sT 22 (bV (!t21)) rfl (vu rfl rfl (u_not rfl)) ?_
 refine sM 23 (bV (!t21)) rfl rfl ?_
 refine sF 24 (iV t1) rfl rfl (fun e2 => (vm rfl rfl)) ?_
 obtain ⟨t25, c4, h⟩ := bpos h
 refine sF 25 (bV t25) rfl rfl (fun e3 => (vC (s66 k t1 _ (cpos (nF e3) c4)) en66 · · · rfl (cc (gv (nF e3)) rfl) rfl)) ?_
 refine sF 26 (bV (!t25)) rfl rfl (fun e5 => (vu rfl (gv (nF e5)) (u_not rfl))) ?_
 refine sT 27 (bV ((!t21) || (!t25))) rfl (vp rfl rfl (fun e6 => rfl) (fun e7 => (gv (nF e7))) (pO _ _)) ?_
 refine sM 28 (bV ((!t21) || (!t25))) rfl rfl ?_
 refine sF 29 (iV t2) rfl rfl (fun e8 => (vm rfl rfl)) ?_
 obtain ⟨t30, c10, h⟩ := bpos h
 refine sF 30 (bV t30) rfl rfl (fun e9 => (vC (s66 k t2 _ (cpos (nF e9) c10)) en66 · · · rfl (cc (gv (nF e9)) rfl) rfl)) ?_
 refine sF 31 (bV (!t30)) rfl rfl (fun e11 => (vu rfl (gv (nF e11)) (u_not rfl))) ?_
 refine sT 32 (bV (((!t21) || (!t25)) || (!t30))) rfl (vp rfl rfl (fun e12 => rfl) (fun e13 => (gv (nF e13))) (pO _ _)) ?_
 refine sM 33 (bV (((!t21) || (!t25)) || (!t30))) rfl rfl ?_
 refine sF 34 (iV t3) rfl rfl (fun e14 => (vm rfl rfl)) ?_
 obtain ⟨t35, c16, h⟩ := bpos h
 refine sF 35 (bV t35) rfl rfl (fun e15 => (vC (s66 k t3 _ (cpos (nF e15) c16)) en66 · · · rfl (cc (gv (nF e15)) rfl) rfl)) ?_
 refine sF 36 (bV (!t35)) rfl rfl (fun e17 => (vu rfl (gv (nF e17)) (u_not rfl))) ?_
 refine sT 37 (bV ((((!t21) || (!t25)) || (!t30)) || (!t35))) rfl (vp rfl rfl (fun e18 => rfl) (fun e19 => (gv (nF e19))) (pO _ _)) ?_
 refine sM 38 (bV ((((!t21) || (!t25)) || (!t30)) || (!t35))) rfl rfl ?_
 refine sF 39 (iV t4) rfl rfl (fun e20 => (vm rfl rfl)) ?_
 obtain ⟨t40, c22, h⟩ := bpos h
 refine sF 40 (bV t40) rfl rfl (fun e21 => (vC (s66 k t4 _ (cpos (nF e21) c22)) en66 · · · rfl (cc (gv (nF e21)) rfl) rfl)) ?_
 refine sF 41 (bV (!t40)) rfl rfl (fun e23 => (vu rfl (gv (nF e23)) (u_not rfl))) ?_
 refine sT 42 (bV (((((!t21) || (!t25)) || (!t30)) || (!t35)) || (!t40))) rfl (vp rfl rfl (fun e24 => rfl) (fun e25 => (gv (nF e25))) (pO _ _)) ?_
 refine sq_nil ?_
 refine ht_cond rfl (fun e26 => ?_) (fun e26 => ?_)
 ·replace h := cpos e26 h
  refine sr ?_
  refine sP 43 (eCell t0) (eCell t0) ag26 rfl rfl rfl rfl rfl ?_
  refine sS 10 0 ((eCell t0).map V.d) sz26 rfl rfl rfl rfl rfl (ones_of rfl) rfl ?_
  refine sM 11 (bV false) rfl rfl ?_
  refine sz ?_
  cases h
  exact ret2 rfl (.cell rfl rfl ag26 (ble _ _ rfl) rfl) (.tmp rfl)
 replace h := cneg e26 h
 refine ht_skip ?_
 refine ht_seq ?_
 refine ht_region_draw mixed ?_
 refine rP 44 (eCell t0) (eCell t0) ag26 rfl rfl rfl rfl rfl ?_
 refine rM 45 (iV t1) rfl rfl ?_
 obtain ⟨t46, c27, h⟩ := bpos h
 refine rC 46 (.d (.agg (eShard t46))) (s24 k t0 t1 _ c27) en24 rfl rfl rfl rfl ?_
 refine rP 47 (eCell t0) (eCell t0) ag26 rfl rfl rfl rfl rfl ?_
 refine rM 48 (iV t2) rfl rfl ?_
 obtain ⟨t49, c28, h⟩ := bpos h
 refine rC 49 (.d (.agg (eShard t49))) (s24 k t0 t2 _ c28) en24 rfl rfl rfl rfl ?_
 refine rg_cons _ (v_alloc (id := 12) (cs := zc45) rfl trivial rfl (ble _ _ rfl) zu45 rfl ft45 rfl) ?_
 refine rg_cons _ (v_alloc (id := 13) (cs := zc45) rfl trivial rfl (ble _ _ rfl) zu45 rfl ft45 rfl) ?_
 refine rS 12 0 ((eShard t46).map V.d) sz45 rfl rfl rfl rfl rfl (ones_of rfl) rfl ?_
 refine rS 13 0 ((eShard t49).map V.d) sz45 rfl rfl rfl rfl rfl (ones_of rfl) rfl ?_
 refine rg_nil ⟨by kernel_rfl, ?_⟩
 refine ht_seq ?_
 refine sr ?_
 refine sT 50 (.ptr 12 0) rfl (v_field_box (off := 0) (a0 := 0) rfl · · · fo45_0 rfl) ?_
 refine sT 51 (iV t46.mID) rfl (v_load_box1 (id := 12) (off := 0) rfl · · · onT3 rfl rfl (ble _ _ rfl) rfl) ?_
 refine sT 52 (bV (ltI 0 t46.mID)) rfl (vb rfl rfl rfl (b_gtr rfl)) ?_
 refine sM 53 (bV (ltI 0 t46.mID)) rfl rfl ?_
 refine sG 54 (.ptr 12 1) rfl rfl (fun e29 => (v_field_box (off := 0) (a0 := 1) rfl · · · fo45_1 rfl)) ?_
 refine sG 55 (iV t46.mEpoch) rfl rfl (fun e30 => (v_load_box1 (id := 12) (off := 1) rfl · · · onT3 (gv e30) rfl (ble _ _ rfl) rfl)) ?_
 refine sG 56 (iV t4) rfl rfl (fun e31 => (vm rfl rfl)) ?_
 refine sG 57 (bV (eqI t46.mEpoch t4)) rfl rfl (fun e32 => (vb rfl (gv e32) (gv e32) (b_eql rfl))) ?_
 refine sT 58 (bV ((ltI 0 t46.mID) && (eqI t46.mEpoch t4))) rfl (vp rfl rfl (fun e33 => (gv e33)) (fun e34 => rfl) (pA _ _)) ?_
 refine sM 59 (bV ((ltI 0 t46.mID) && (eqI t46.mEpoch t4))) rfl rfl ?_
 refine sG 60 (.ptr 13 0) rfl rfl (fun e35 => (v_field_box (off := 0) (a0 := 0) rfl · · · fo45_0 rfl)) ?_
 refine sG 61 (iV t49.mID) rfl rfl (fun e36 => (v_load_box1 (id := 13) (off := 0) rfl · · · onT3 (gv e36) rfl (ble _ _ rfl) rfl)) ?_
 refine sG 62 (bV (eqI t49.mID 0)) rfl rfl (fun e37 => (vb rfl (gv e37) rfl (b_eql rfl))) ?_
 refine sT 63 (bV (((ltI 0 t46.mID) && (eqI t46.mEpoch t4)) && (eqI t49.mID 0))) rfl (vp rfl rfl (fun e38 => (gv e38)) (fun e39 => rfl) (pA _ _)) ?_
 refine sq_nil ?_
 refine ht_cond rfl (fun e40 => ?_) (fun e40 => ?_)
 ·replace h := cpos e40 h
  refine sr ?_
  refine sP 64 (eCell t0) (eCell t0) ag26 rfl rfl rfl rfl rfl ?_
  refine sS 10 0 ((eCell t0).map V.d) sz26 rfl rfl rfl rfl rfl (ones_of rfl) rfl ?_
  refine sM 11 (bV true) rfl rfl ?_
  refine sz ?_
  cases h
  exact ret2 rfl (.cell rfl rfl ag26 (ble _ _ rfl) rfl) (.tmp rfl)
 replace h := cneg e40 h
 refine ht_skip ?_
 refine ht_seq ?_
 refine sr ?_
 refine sT 65 (.d (.agg (eShard t46))) rfl (w_ldb 12 0 rfl · · · ag45 rfl rfl (ble _ _ rfl) rfl) ?_
 obtain ⟨t66, c41, h⟩ := bpos h
 refine sC 66 (bV t66) (s110 k t46 _ c41) en110 rfl rfl rfl rfl ?_
 refine sT 67 (bV (!t66)) rfl (vu rfl rfl (u_not rfl)) ?_
 refine sM 68 (bV (!t66)) rfl rfl ?_
 refine sF 69 (.d (.agg (eShard t49))) rfl rfl (fun e42 => (w_ldb 13 0 rfl · · · ag45 rfl rfl (ble _ _ rfl) rfl)) ?_
 obtain ⟨t70, c44, h⟩ := bpos h
 refine sF 70 (bV t70) rfl rfl (fun e43 => (vC (s110 k t49 _ (cpos (nF e43) c44)) en110 · · · rfl (cc (gv (nF e43)) rfl) rfl)) ?_
 refine sF 71 (bV (!t70)) rfl rfl (fun e45 => (vu rfl (gv (nF e45)) (u_not rfl))) ?_
 refine sT 72 (bV ((!t66) || (!t70))) rfl (vp rfl rfl (fun e46 => rfl) (fun e47 => (gv (nF e47))) (pO _ _)) ?_
 refine sM 73 (bV ((!t66) || (!t70))) rfl rfl ?_
 refine sF 74 (.ptr 12 1) rfl rfl (fun e48 => (v_field_box (off := 0) (a0 := 1) rfl · · · fo45_1 rfl)) ?_
 refine sF 75 (iV t46.mEpoch) rfl rfl (fun e49 => (v_load_box1 (id := 12) (off := 1) rfl · · · onT3 (gv (nF e49)) rfl (ble _ _ rfl) rfl)) ?_
 refine sF 76 (iV t3) rfl rfl (fun e50 => (vm rfl rfl)) ?_
 refine sF 77 (bV (!eqI t46.mEpoch t3)) rfl rfl (fun e51 => (vb rfl (gv (nF e51)) (gv (nF e51)) (b_neq rfl))) ?_
 refine sT 78 (bV (((!t66) || (!t70)) || (!eqI t46.mEpoch t3))) rfl (vp rfl rfl (fun e52 => rfl) (fun e53 => (gv (nF e53))) (pO _ _)) ?_
 refine sM 79 (bV (((!t66) || (!t70)) || (!eqI t46.mEpoch t3))) rfl rfl ?_
 refine sF 80 (iV t4) rfl rfl (fun e54 => (vm rfl rfl)) ?_
 refine sF 81 (.ptr 12 1) rfl rfl (fun e55 => (v_field_box (off := 0) (a0 := 1) rfl · · · fo45_1 rfl)) ?_
 refine sF 82 (iV t46.mEpoch) rfl rfl (fun e56 => (v_load_box1 (id := 12) (off := 1) rfl · · · onT3 (gv (nF e56)) rfl (ble _ _ rfl) rfl)) ?_
 refine sF 83 (bV (leI t4 t46.mEpoch)) rfl rfl (fun e57 => (vb rfl (gv (nF e57)) (gv (nF e57)) (b_leq rfl))) ?_
 refine sT 84 (bV ((((!t66) || (!t70)) || (!eqI t46.mEpoch t3)) || (leI t4 t46.mEpoch))) rfl (vp rfl rfl (fun e58 => rfl) (fun e59 => (gv (nF e59))) (pO _ _)) ?_
 refine sM 85 (bV ((((!t66) || (!t70)) || (!eqI t46.mEpoch t3)) || (leI t4 t46.mEpoch))) rfl rfl ?_
 refine sF 86 (iV t4) rfl rfl (fun e60 => (vm rfl rfl)) ?_
 refine sF 87 (.ptr 13 1) rfl rfl (fun e61 => (v_field_box (off := 0) (a0 := 1) rfl · · · fo45_1 rfl)) ?_
 refine sF 88 (iV t49.mEpoch) rfl rfl (fun e62 => (v_load_box1 (id := 13) (off := 1) rfl · · · onT3 (gv (nF e62)) rfl (ble _ _ rfl) rfl)) ?_
 refine sF 89 (bV (leI t4 t49.mEpoch)) rfl rfl (fun e63 => (vb rfl (gv (nF e63)) (gv (nF e63)) (b_leq rfl))) ?_
 refine sT 90 (bV (((((!t66) || (!t70)) || (!eqI t46.mEpoch t3)) || (leI t4 t46.mEpoch)) || (leI t4 t49.mEpoch))) rfl (vp rfl rfl (fun e64 => rfl) (fun e65 => (gv (nF e65))) (pO _ _)) ?_
 refine sM 91 (bV (((((!t66) || (!t70)) || (!eqI t46.mEpoch t3)) || (leI t4 t46.mEpoch)) || (leI t4 t49.mEpoch))) rfl rfl ?_
 refine sF 92 (iV t4) rfl rfl (fun e66 => (vm rfl rfl)) ?_
 refine sF 93 (.ptr 12 16) rfl rfl (fun e67 => (v_field_box (off := 0) (a0 := 16) rfl · · · fo45_11 rfl)) ?_
 refine sF 94 (iV t46.mClosed) rfl rfl (fun e68 => (v_load_box1 (id := 12) (off := 16) rfl · · · onT3 (gv (nF e68)) rfl (ble _ _ rfl) rfl)) ?_
 refine sF 95 (bV (leI t4 t46.mClosed)) rfl rfl (fun e69 => (vb rfl (gv (nF e69)) (gv (nF e69)) (b_leq rfl))) ?_
 refine sT 96 (bV ((((((!t66) || (!t70)) || (!eqI t46.mEpoch t3)) || (leI t4 t46.mEpoch)) || (leI t4 t49.mEpoch)) || (leI t4 t46.mClosed))) rfl (vp rfl rfl (fun e70 => rfl) (fun e71 => (gv (nF e71))) (pO _ _)) ?_
 refine sq_nil ?_
 refine ht_cond rfl (fun e72 => ?_) (fun e72 => ?_)
 ·replace h := cpos e72 h
  refine sr ?_
  refine sP 97 (eCell t0) (eCell t0) ag26 rfl rfl rfl rfl rfl ?_
  refine sS 10 0 ((eCell t0).map V.d) sz26 rfl rfl rfl rfl rfl (ones_of rfl) rfl ?_
  refine sM 11 (bV false) rfl rfl ?_
  refine sz ?_
  cases h
  exact ret2 rfl (.cell rfl rfl ag26 (ble _ _ rfl) rfl) (.tmp rfl)
 replace h := cneg e72 h
 refine ht_skip ?_
 refine sr ?_
 refine sT 99 (.ptr 12 2) rfl (v_field_box (off := 0) (a0 := 2) rfl · · · fo45_2 rfl) ?_
 refine sT 100 (.d (.agg (eSpan t46.mSpan))) rfl (w_ldb 12 2 rfl · · · ag41 rfl rfl (ble _ _ rfl) rfl) ?_
 refine sT 101 (.ptr 13 2) rfl (v_field_box (off := 0) (a0 := 2) rfl · · · fo45_2 rfl) ?_
 refine sT 102 (.d (.agg (eSpan t49.mSpan))) rfl (w_ldb 13 2 rfl · · · ag41 rfl rfl (ble _ _ rfl) rfl) ?_
 obtain ⟨⟨t103a, t103b⟩, c73, h⟩ := bpos h
 refine sC 103 (.tup [.d (.agg (eSpan t103a)), iV t103b]) (s115 k t46.mSpan t49.mSpan _ c73) en115 rfl rfl rfl rfl ?_
 refine sM 98 (.tup [.d (.agg (eSpan t103a)), iV t103b]) rfl rfl ?_
 refine sT 104 (.d (.agg (eSpan t103a))) rfl (ve rfl rfl rfl) ?_
 refine sT 105 (iV t103b) rfl (ve rfl rfl rfl) ?_
 refine sq_cons _ (v_alloc (id := 14) (cs := zc41) rfl trivial rfl (ble _ _ rfl) zu41 rfl ft41 rfl) ?_
 refine sS 14 0 ((eSpan t103a).map V.d) sz41 rfl rfl rfl rfl rfl (ones_of rfl) rfl ?_
 refine sM 15 (iV t103b) rfl rfl ?_
 refine sq_nil ?_
 refine sr ?_
 refine sT 107 (.ptr 12 5) rfl (v_field_box (off := 0) (a0 := 5) rfl · · · fo45_4 rfl) ?_
 refine sT 108 (.d (.sl 2 (t46.mEntries.map eEntry))) rfl (v_load_box1 (id := 12) (off := 5) rfl · · · onT42 rfl rfl (ble _ _ rfl) rfl) ?_
 refine sT 109 (.ptr 13 5) rfl (v_field_box (off := 0) (a0 := 5) rfl · · · fo45_4 rfl) ?_
 refine sT 110 (.d (.sl 2 (t49.mEntries.map eEntry))) rfl (v_load_box1 (id := 13) (off := 5) rfl · · · onT42 rfl rfl (ble _ _ rfl) rfl) ?_
 obtain ⟨⟨t111a, t111b⟩, c74, h⟩ := bpos h
 refine sC 111 (.tup [.d (.sl 2 (t111a.map eEntry)), iV t111b]) (s116 k t46.mEntries t49.mEntries _ c74) en116 rfl rfl rfl rfl ?_
 refine sM 106 (.tup [.d (.sl 2 (t111a.map eEntry)), iV t111b]) rfl rfl ?_
 refine sT 112 (.d (.sl 2 (t111a.map eEntry))) rfl (ve rfl rfl rfl) ?_
 refine sT 113 (iV t111b) rfl (ve rfl rfl rfl) ?_
 refine sM 16 (.d (.sl 2 (t111a.map eEntry))) rfl rfl ?_
 refine sM 17 (iV t111b) rfl rfl ?_
 refine sq_nil ?_
 refine sr ?_
 refine sT 115 (.ptr 12 12) rfl (v_field_box (off := 0) (a0 := 12) rfl · · · fo45_7 rfl) ?_
 refine sT 116 (.d (.sl 11 (t46.mDone.map eDone))) rfl (v_load_box1 (id := 12) (off := 12) rfl · · · onT43 rfl rfl (ble _ _ rfl) rfl) ?_
 refine sT 117 (.ptr 13 12) rfl (v_field_box (off := 0) (a0 := 12) rfl · · · fo45_7 rfl) ?_
 refine sT 118 (.d (.sl 11 (t49.mDone.map eDone))) rfl (v_load_box1 (id := 13) (off := 12) rfl · · · onT43 rfl rfl (ble _ _ rfl) rfl) ?_
 obtain ⟨⟨t119a, t119b⟩, c75, h⟩ := bpos h
 refine sC 119 (.tup [.d (.sl 11 (t119a.map eDone)), iV t119b]) (s117 k t46.mDone t49.mDone _ c75) en117 rfl rfl rfl rfl ?_
 refine sM 114 (.tup [.d (.sl 11 (t119a.map eDone)), iV t119b]) rfl rfl ?_
 refine sT 120 (.d (.sl 11 (t119a.map eDone))) rfl (ve rfl rfl rfl) ?_
 refine sT 121 (iV t119b) rfl (ve rfl rfl rfl) ?_
 refine sM 18 (.d (.sl 11 (t119a.map eDone))) rfl rfl ?_
 refine sM 19 (iV t119b) rfl rfl ?_
 refine sq_nil ?_
 refine ht_seq ?_
 refine sr ?_
 refine sM 122 (iV t103b) rfl rfl ?_
 refine sM 123 (iV t111b) rfl rfl ?_
 refine sT 124 (iV (IntKind.wrap .i64 (t103b + t111b))) rfl (vb rfl rfl rfl (b_add rfl)) ?_
 refine sM 125 (iV t119b) rfl rfl ?_
 obtain ⟨t126, q76, h⟩ := bndp h
 refine sT 126 (iV t126) rfl (vb rfl rfl rfl (b_add q76)) ?_
 refine sT 127 (bV (!eqI t126 0)) rfl (vb rfl rfl rfl (b_neq rfl)) ?_
 refine sq_nil ?_
 refine ht_cond rfl (fun e77 => ?_) (fun e77 => ?_)
 ·replace h := cpos e77 h
  refine sr ?_
  refine sP 128 (eCell t0) (eCell t0) ag26 rfl rfl rfl rfl rfl ?_
  refine sS 10 0 ((eCell t0).map V.d) sz26 rfl rfl rfl rfl rfl (ones_of rfl) rfl ?_
  refine sM 11 (bV false) rfl rfl ?_
  refine sz ?_
  cases h
  exact ret2 rfl (.cell rfl rfl ag26 (ble _ _ rfl) rfl) (.tmp rfl)
 replace h := cneg e77 h
 refine ht_skip ?_
 refine sr ?_
 refine sT 129 (.ptr 12 6) rfl (v_field_box (off := 0) (a0 := 6) rfl · · · fo45_5 rfl) ?_
 refine sT 130 (.d (.agg (eStamp t46.mMark))) rfl (w_ldb 12 6 rfl · · · ag24 rfl rfl (ble _ _ rfl) rfl) ?_
 refine sT 131 (.ptr 13 6) rfl (v_field_box (off := 0) (a0 := 6) rfl · · · fo45_5 rfl) ?_
 refine sT 132 (.d (.agg (eStamp t49.mMark))) rfl (w_ldb 13 6 rfl · · · ag24 rfl rfl (ble _ _ rfl) rfl) ?_
 obtain ⟨t133, c78, h⟩ := bpos h
 refine sC 133 (.d (.agg (eStamp t133))) (s97 k t46.mMark t49.mMark _ c78) en97 rfl rfl rfl rfl ?_
 refine sT 134 (.ptr 12 6) rfl (v_field_box (off := 0) (a0 := 6) rfl · · · fo45_5 rfl) ?_
 refine sS 12 6 ((eStamp t133).map V.d) sz24 rfl rfl rfl rfl rfl (ones_of rfl) rfl ?_
 refine sq_nil ?_
 refine ht_seq ?_
 refine ht_region_draw mixed ?_
 refine rT 135 (.d (.agg (eSpan t103a))) rfl (w_ldb 14 0 rfl · · · ag41 rfl rfl (ble _ _ rfl) rfl) ?_
 refine rM 136 (.d (.sl 11 (t119a.map eDone))) rfl rfl ?_
 refine rM 137 (iV t4) rfl rfl ?_
 refine rM 138 (.d (.sl 2 (t111a.map eEntry))) rfl rfl ?_
 refine rT 139 (.ptr 12 6) rfl (v_field_box (off := 0) (a0 := 6) rfl · · · fo45_5 rfl) ?_
 refine rT 140 (.d (.agg (eStamp t133))) rfl (w_ldb 12 6 rfl · · · ag24 rfl rfl (ble _ _ rfl) rfl) ?_
 obtain ⟨t141, c79, h⟩ := bpos h
 refine rC 141 (.d (.sl 2 (t141.map eEntry))) (s101 k t111a t133 _ c79) en101 rfl rfl rfl rfl ?_
 refine rT 142 (.ptr 12 2) rfl (v_field_box (off := 0) (a0 := 2) rfl · · · fo45_2 rfl) ?_
 refine rS 12 2 ((eSpan t103a).map V.d) sz41 rfl rfl rfl rfl rfl (ones_of rfl) rfl ?_
 refine rT 143 (.ptr 12 12) rfl (v_field_box (off := 0) (a0 := 12) rfl · · · fo45_7 rfl) ?_
 refine rS 12 12 ([(.sl 11 (t119a.map eDone))].map V.d) sz43 rfl rfl rfl rfl rfl (ones_of rfl) rfl ?_
 refine rT 144 (.ptr 12 1) rfl (v_field_box (off := 0) (a0 := 1) rfl · · · fo45_1 rfl) ?_
 refine rS 12 1 ([(.s (.int .i64 t4))].map V.d) sz3 rfl rfl rfl rfl rfl (ones_of rfl) rfl ?_
 refine rT 145 (.ptr 12 15) rfl (v_field_box (off := 0) (a0 := 15) rfl · · · fo45_10 rfl) ?_
 refine rS 12 15 ([(.s (.int .i64 0))].map V.d) sz3 rfl rfl rfl rfl rfl (ones_of rfl) rfl ?_
 refine rT 146 (.ptr 12 5) rfl (v_field_box (off := 0) (a0 := 5) rfl · · · fo45_4 rfl) ?_
 refine rS 12 5 ([(.sl 2 (t141.map eEntry))].map V.d) sz42 rfl rfl rfl rfl rfl (ones_of rfl) rfl ?_
 refine rg_nil ⟨by kernel_rfl, ?_⟩
 refine ht_bj h (fun t12c14 => tell [(.b 10, .box false 5), (.b 12, .box false 17), (.b 13, .box false 17), (.c 10 0, .d (.sl 17 (([] : List Shard).map eShard))), (.c 10 1, iV 0), (.c 10 2, iV 0), (.c 10 3, iV 0), (.c 10 4, iV 0), (.c 12 0, iV t46.mID), (.c 12 1, iV t4), (.c 12 2, sV t103a.mLo), (.c 12 3, sV t103a.mHi), (.c 12 4, iV t46.mPhase), (.c 12 5, .d (.sl 2 (t141.map eEntry))), (.c 12 6, iV t133.mWall), (.c 12 7, iV t133.mTick), (.c 12 8, iV t133.mNode), (.c 12 9, iV t46.mTop.mWall), (.c 12 10, iV t46.mTop.mTick), (.c 12 11, iV t46.mTop.mNode), (.c 12 12, .d (.sl 11 (t119a.map eDone))), (.c 12 13, iV t46.mHold), (.c 12 14, iV t12c14), (.c 12 15, iV 0), (.c 12 16, iV t46.mClosed), (.c 13 0, iV t49.mID), (.c 13 1, iV t49.mEpoch), (.c 13 2, sV t49.mSpan.mLo), (.c 13 3, sV t49.mSpan.mHi), (.c 13 4, iV t49.mPhase), (.c 13 5, .d (.sl 2 (t49.mEntries.map eEntry))), (.c 13 6, iV t49.mMark.mWall), (.c 13 7, iV t49.mMark.mTick), (.c 13 8, iV t49.mMark.mNode), (.c 13 9, iV t49.mTop.mWall), (.c 13 10, iV t49.mTop.mTick), (.c 13 11, iV t49.mTop.mNode), (.c 13 12, .d (.sl 11 (t49.mDone.map eDone))), (.c 13 13, iV t49.mHold), (.c 13 14, iV t49.mSeen), (.c 13 15, iV t49.mMove), (.c 13 16, iV t49.mClosed), (.t 5, .d (.dp (eCell t0))), (.t 10, .ptr 10 0), (.t 12, .ptr 12 0), (.t 13, .ptr 13 0)]) (fun t12c14 h => ?_) (fun v80 K81 h j83 => ?_)
 ·refine ht_seq ?_
  refine sr ?_
  refine sT 155 (.ptr 13 16) rfl (v_field_box (off := 0) (a0 := 16) rfl · · · fo45_11 rfl) ?_
  refine sT 156 (iV t49.mClosed) rfl (v_load_box1 (id := 13) (off := 16) rfl · · · onT3 rfl rfl (ble _ _ rfl) rfl) ?_
  refine sT 157 (.ptr 12 16) rfl (v_field_box (off := 0) (a0 := 16) rfl · · · fo45_11 rfl) ?_
  refine sT 158 (iV t46.mClosed) rfl (v_load_box1 (id := 12) (off := 16) rfl · · · onT3 rfl rfl (ble _ _ rfl) rfl) ?_
  refine sT 159 (bV (ltI t46.mClosed t49.mClosed)) rfl (vb rfl rfl rfl (b_gtr rfl)) ?_
  refine sq_nil ?_
  refine ht_cond rfl (fun e86 => ?_) (fun e86 => ?_)
  ·replace h := cpos e86 h
   refine ht_region ?_
   refine sT 160 (.ptr 13 16) rfl (v_field_box (off := 0) (a0 := 16) rfl · · · fo45_11 rfl) ?_
   refine sT 161 (iV t49.mClosed) rfl (v_load_box1 (id := 13) (off := 16) rfl · · · onT3 rfl rfl (ble _ _ rfl) rfl) ?_
   refine sT 162 (.ptr 12 16) rfl (v_field_box (off := 0) (a0 := 16) rfl · · · fo45_11 rfl) ?_
   refine sS 12 16 ([(.s (.int .i64 t49.mClosed))].map V.d) sz3 rfl rfl rfl rfl rfl (ones_of rfl) rfl ?_
   refine sq_nil ?_
   refine ht_seq ?_
   refine ht_region_draw mixed ?_
   refine rP 163 (eCell t0) (eCell t0) ag26 rfl rfl rfl rfl rfl ?_
   refine rT 164 (.d (.agg (eShard t49))) rfl (w_ldb 13 0 rfl · · · ag45 rfl rfl (ble _ _ rfl) rfl) ?_
   obtain ⟨t165, c87, h⟩ := bpos h
   refine rC 165 (.d (.agg (eCell t165))) (s79 k t0 t49 true _ c87) en79 rfl rfl rfl rfl ?_
   refine rT 166 (.d (.agg (eShard (⟨t46.mID, t4, t103a, t46.mPhase, t141, t133, t46.mTop, t119a, t46.mHold, t12c14, 0, t49.mClosed⟩ : Shard)))) rfl (w_ldb 12 0 rfl · · · ag45 rfl rfl (ble _ _ rfl) rfl) ?_
   obtain ⟨t167, c88, h⟩ := bpos h
   refine rC 167 (.d (.agg (eCell t167))) (s79 k t165 (⟨t46.mID, t4, t103a, t46.mPhase, t141, t133, t46.mTop, t119a, t46.mHold, t12c14, 0, t49.mClosed⟩ : Shard) false _ c88) en79 rfl rfl rfl rfl ?_
   refine rS 10 0 ((eCell t167).map V.d) sz26 rfl rfl rfl rfl rfl (ones_of rfl) rfl ?_
   refine rM 11 (bV true) rfl rfl ?_
   refine rg_nil ⟨by kernel_rfl, ?_⟩
   refine ht_ret ?_
   cases h
   exact ret2 rfl (.cell rfl rfl ag26 (ble _ _ rfl) rfl) (.tmp rfl)
  replace h := cneg e86 h
  refine ht_skip ?_
  refine ht_seq ?_
  refine ht_region_draw mixed ?_
  refine rP 163 (eCell t0) (eCell t0) ag26 rfl rfl rfl rfl rfl ?_
  refine rT 164 (.d (.agg (eShard t49))) rfl (w_ldb 13 0 rfl · · · ag45 rfl rfl (ble _ _ rfl) rfl) ?_
  obtain ⟨t165_1, c89, h⟩ := bpos h
  refine rC 165 (.d (.agg (eCell t165_1))) (s79 k t0 t49 true _ c89) en79 rfl rfl rfl rfl ?_
  refine rT 166 (.d (.agg (eShard (⟨t46.mID, t4, t103a, t46.mPhase, t141, t133, t46.mTop, t119a, t46.mHold, t12c14, 0, t46.mClosed⟩ : Shard)))) rfl (w_ldb 12 0 rfl · · · ag45 rfl rfl (ble _ _ rfl) rfl) ?_
  obtain ⟨t167_1, c90, h⟩ := bpos h
  refine rC 167 (.d (.agg (eCell t167_1))) (s79 k t165_1 (⟨t46.mID, t4, t103a, t46.mPhase, t141, t133, t46.mTop, t119a, t46.mHold, t12c14, 0, t46.mClosed⟩ : Shard) false _ c90) en79 rfl rfl rfl rfl ?_
  refine rS 10 0 ((eCell t167_1).map V.d) sz26 rfl rfl rfl rfl rfl (ones_of rfl) rfl ?_
  refine rM 11 (bV true) rfl rfl ?_
  refine rg_nil ⟨by kernel_rfl, ?_⟩
  refine ht_ret ?_
  cases h
  exact ret2 rfl (.cell rfl rfl ag26 (ble _ _ rfl) rfl) (.tmp rfl)
 refine sr ?_
 refine sT 147 (.ptr 13 14) rfl (v_field_box (off := 0) (a0 := 14) rfl · · · fo45_9 rfl) ?_
 refine sT 148 (iV t49.mSeen) rfl (v_load_box1 (id := 13) (off := 14) rfl · · · onT3 rfl rfl (ble _ _ rfl) rfl) ?_
 refine sT 149 (.ptr 12 14) rfl (v_field_box (off := 0) (a0 := 14) rfl · · · fo45_9 rfl) ?_
 refine sT 150 (iV t46.mSeen) rfl (v_load_box1 (id := 12) (off := 14) rfl · · · onT3 rfl rfl (ble _ _ rfl) rfl) ?_
 refine sT 151 (bV (ltI t46.mSeen t49.mSeen)) rfl (vb rfl rfl rfl (b_gtr rfl)) ?_
 refine sq_nil ?_
 refine ht_cond rfl (fun e85 => ?_) (fun e85 => ?_)
 ·replace h := cpos e85 h
  refine ht_region ?_
  refine sT 152 (.ptr 13 14) rfl (v_field_box (off := 0) (a0 := 14) rfl · · · fo45_9 rfl) ?_
  refine sT 153 (iV t49.mSeen) rfl (v_load_box1 (id := 13) (off := 14) rfl · · · onT3 rfl rfl (ble _ _ rfl) rfl) ?_
  refine sT 154 (.ptr 12 14) rfl (v_field_box (off := 0) (a0 := 14) rfl · · · fo45_9 rfl) ?_
  refine sS 12 14 ([(.s (.int .i64 t49.mSeen))].map V.d) sz3 rfl rfl rfl rfl rfl (ones_of rfl) rfl ?_
  refine sq_nil ?_
  cases h
  exact j83 _ (wi rfl rfl)
 replace h := cneg e85 h
 refine ht_skip ?_
 cases h
 exact j83 _ (wi rfl rfl)
theorem s10 (k : Nat) (t0 : Cell) (t1 : Int) (t2 : Int) (t3 : ByteArray) (t4 : Int) (t5 : Int) (r : Bool) (h : F10 k t0 t1 t2 t3 t4 t5 = some r) : Awp.Spec Tryz.prog amb 10 [(.agg (eCell t0)), (.s (.int .i64 t1)), (.s (.int .i64 t2)), (.s (.string t3)), (.s (.int .i64 t4)), (.s (.int .i64 t5))] (.ds [(.s (.bool r))]) := by
 rw [F10] at h
 refine spec_of Tryz.func10 rfl (ble _ _ rfl) fun w0 ok0 lt0 hA => ?_
 refine sr ?_
 refine sT 6 (.d (.dp (eCell t0))) rfl (v_box_d (cs := (eCell t0)) rfl · · · rfl rfl (ones_of rfl)) ?_
 refine sM 12 (bV false) rfl rfl ?_
 refine sq_nil ?_
 refine ht_seq ?_
 refine sr ?_
 refine sP 21 (eCell t0) (eCell t0) ag26 rfl rfl rfl rfl rfl ?_
 obtain ⟨t22, c1, h⟩ := bpos h
 refine sC 22 (bV t22) (s14 k t0 _ c1) en14 rfl rfl rfl rfl ?_
 refine sT 23 (bV (!t22)) rfl (vu rfl rfl (u_not rfl)) ?_
 refine sM 24 (bV (!t22)) rfl rfl ?_
 refine sF 25 (sV t3) rfl rfl (fun e2 => (vm rfl rfl)) ?_
 refine sF 26 (iV (t3.size : Int)) rfl rfl (fun e3 => (v_len_str rfl rfl · · · und9 (gv (nF e3)))) ?_
 refine sF 27 (bV (ltI 100 (t3.size : Int))) rfl rfl (fun e4 => (vb rfl (gv (nF e4)) rfl (b_gtr rfl))) ?_
 refine sT 28 (bV ((!t22) || (ltI 100 (t3.size : Int)))) rfl (vp rfl rfl (fun e5 => rfl) (fun e6 => (gv (nF e6))) (pO _ _)) ?_
 refine sq_nil ?_
 refine ht_cond rfl (fun e7 => ?_) (fun e7 => ?_)
 ·replace h := cpos e7 h
  refine sr ?_
  obtain ⟨t29, c8, h⟩ := bpos h
  refine sC 29 (bV t29) (s15 k _ c8) en15 rfl rfl rfl rfl ?_
  refine sM 12 (bV t29) rfl rfl ?_
  refine sz ?_
  cases h
  exact ret1 rfl (.tmp rfl)
 replace h := cneg e7 h
 refine ht_skip ?_
 refine sr ?_
 refine sP 31 (eCell t0) (eCell t0) ag26 rfl rfl rfl rfl rfl ?_
 refine sM 32 (iV t1) rfl rfl ?_
 refine sM 33 (iV t2) rfl rfl ?_
 refine sM 34 (sV t3) rfl rfl ?_
 refine sM 35 (iV t4) rfl rfl ?_
 refine sM 36 (iV t5) rfl rfl ?_
 obtain ⟨⟨t37a, t37b⟩, c9, h⟩ := bpos h
 refine sC 37 (.tup [.d (.agg (eCell t37a)), bV t37b]) (s48 k t0 t1 t2 t3 t4 t5 _ c9) en48 rfl rfl rfl rfl ?_
 refine sM 30 (.tup [.d (.agg (eCell t37a)), bV t37b]) rfl rfl ?_
 refine sT 38 (.d (.agg (eCell t37a))) rfl (ve rfl rfl rfl) ?_
 refine sT 39 (bV t37b) rfl (ve rfl rfl rfl) ?_
 refine sq_cons _ (v_alloc (id := 13) (cs := zc26) rfl trivial rfl (ble _ _ rfl) zu26 rfl ft26 rfl) ?_
 refine sS 13 0 ((eCell t37a).map V.d) sz26 rfl rfl rfl rfl rfl (ones_of rfl) rfl ?_
 refine sM 14 (bV t37b) rfl rfl ?_
 refine sq_nil ?_
 refine sr ?_
 refine sP 41 (eCell t0) (eCell t0) ag26 rfl rfl rfl rfl rfl ?_
 refine sM 42 (iV t1) rfl rfl ?_
 refine sM 43 (iV t2) rfl rfl ?_
 refine sM 44 (sV t3) rfl rfl ?_
 refine sM 45 (iV t4) rfl rfl ?_
 refine sM 46 (iV t5) rfl rfl ?_
 obtain ⟨⟨t47a, t47b⟩, c10, h⟩ := bpos h
 refine sC 47 (.tup [.d (.agg (eCell t47a)), bV t47b]) (s49 k t0 t1 t2 t3 t4 t5 _ c10) en49 rfl rfl rfl rfl ?_
 refine sM 40 (.tup [.d (.agg (eCell t47a)), bV t47b]) rfl rfl ?_
 refine sT 48 (.d (.agg (eCell t47a))) rfl (ve rfl rfl rfl) ?_
 refine sT 49 (bV t47b) rfl (ve rfl rfl rfl) ?_
 refine sq_cons _ (v_alloc (id := 15) (cs := zc26) rfl trivial rfl (ble _ _ rfl) zu26 rfl ft26 rfl) ?_
 refine sS 15 0 ((eCell t47a).map V.d) sz26 rfl rfl rfl rfl rfl (ones_of rfl) rfl ?_
 refine sM 16 (bV t47b) rfl rfl ?_
 refine sq_nil ?_
 refine sr ?_
 refine sP 51 (eCell t0) (eCell t0) ag26 rfl rfl rfl rfl rfl ?_
 refine sM 52 (iV t1) rfl rfl ?_
 refine sM 53 (iV t4) rfl rfl ?_
 refine sM 54 (iV t2) rfl rfl ?_
 refine sM 55 (iV t5) rfl rfl ?_
 obtain ⟨⟨t56a, t56b⟩, c11, h⟩ := bpos h
 refine sC 56 (.tup [.d (.agg (eCell t56a)), bV t56b]) (s50 k t0 t1 t4 t2 t5 _ c11) en50 rfl rfl rfl rfl ?_
 refine sM 50 (.tup [.d (.agg (eCell t56a)), bV t56b]) rfl rfl ?_
 refine sT 57 (.d (.agg (eCell t56a))) rfl (ve rfl rfl rfl) ?_
 refine sT 58 (bV t56b) rfl (ve rfl rfl rfl) ?_
 refine sq_cons _ (v_alloc (id := 17) (cs := zc26) rfl trivial rfl (ble _ _ rfl) zu26 rfl ft26 rfl) ?_
 refine sS 17 0 ((eCell t56a).map V.d) sz26 rfl rfl rfl rfl rfl (ones_of rfl) rfl ?_
 refine sM 18 (bV t56b) rfl rfl ?_
 refine sq_nil ?_
 refine sr ?_
 refine sP 60 (eCell t0) (eCell t0) ag26 rfl rfl rfl rfl rfl ?_
 refine sM 61 (iV t1) rfl rfl ?_
 refine sM 62 (iV t4) rfl rfl ?_
 refine sM 63 (iV t2) rfl rfl ?_
 refine sM 64 (iV t5) rfl rfl ?_
 obtain ⟨⟨t65a, t65b⟩, c12, h⟩ := bpos h
 refine sC 65 (.tup [.d (.agg (eCell t65a)), bV t65b]) (s51 k t0 t1 t4 t2 t5 _ c12) en51 rfl rfl rfl rfl ?_
 refine sM 59 (.tup [.d (.agg (eCell t65a)), bV t65b]) rfl rfl ?_
 refine sT 66 (.d (.agg (eCell t65a))) rfl (ve rfl rfl rfl) ?_
 refine sT 67 (bV t65b) rfl (ve rfl rfl rfl) ?_
 refine sq_cons _ (v_alloc (id := 19) (cs := zc26) rfl trivial rfl (ble _ _ rfl) zu26 rfl ft26 rfl) ?_
 refine sS 19 0 ((eCell t65a).map V.d) sz26 rfl rfl rfl rfl rfl (ones_of rfl) rfl ?_
 refine sM 20 (bV t65b) rfl rfl ?_
 refine sq_nil ?_
 refine sr ?_
 refine sT 68 (.d (.agg (eCell t37a))) rfl (w_ldb 13 0 rfl · · · ag26 rfl rfl (ble _ _ rfl) rfl) ?_
 refine sT 69 (.d (.agg (eCell t47a))) rfl (w_ldb 15 0 rfl · · · ag26 rfl rfl (ble _ _ rfl) rfl) ?_
 obtain ⟨t70, c13, h⟩ := bpos h
 refine sC 70 (bV t70) (s18 k t37a t47a _ c13) en18 rfl rfl rfl rfl ?_
 refine sM 71 (bV t70) rfl rfl ?_
 refine sG 72 (bV t37b) rfl rfl (fun e14 => (vm rfl rfl)) ?_
 refine sG 73 (bV t47b) rfl rfl (fun e15 => (vm rfl rfl)) ?_
 refine sG 74 (bV (t37b == t47b)) rfl rfl (fun e16 => (vb rfl (gv e16) (gv e16) (b_eqB und4 rfl))) ?_
 refine sT 75 (bV (t70 && (t37b == t47b))) rfl (vp rfl rfl (fun e17 => (gv e17)) (fun e18 => rfl) (pA _ _)) ?_
 refine sM 76 (bV (t70 && (t37b == t47b))) rfl rfl ?_
 refine sG 77 (.d (.agg (eCell t56a))) rfl rfl (fun e19 => (w_ldb 17 0 rfl · · · ag26 rfl rfl (ble _ _ rfl) rfl)) ?_
 refine sG 78 (.d (.agg (eCell t65a))) rfl rfl (fun e20 => (w_ldb 19 0 rfl · · · ag26 rfl rfl (ble _ _ rfl) rfl)) ?_
 obtain ⟨t79, c22, h⟩ := bpos h
 refine sG 79 (bV t79) rfl rfl (fun e21 => (vC (s18 k t56a t65a _ (cpos e21 c22)) en18 · · · rfl (cc (gv e21) (cc (gv e21) rfl)) rfl)) ?_
 refine sT 80 (bV ((t70 && (t37b == t47b)) && t79)) rfl (vp rfl rfl (fun e23 => (gv e23)) (fun e24 => rfl) (pA _ _)) ?_
 refine sM 81 (bV ((t70 && (t37b == t47b)) && t79)) rfl rfl ?_
 refine sG 82 (bV t56b) rfl rfl (fun e25 => (vm rfl rfl)) ?_
 refine sG 83 (bV t65b) rfl rfl (fun e26 => (vm rfl rfl)) ?_
 refine sG 84 (bV (t56b == t65b)) rfl rfl (fun e27 => (vb rfl (gv e27) (gv e27) (b_eqB und4 rfl))) ?_
 refine sT 85 (bV (((t70 && (t37b == t47b)) && t79) && (t56b == t65b))) rfl (vp rfl rfl (fun e28 => (gv e28)) (fun e29 => rfl) (pA _ _)) ?_
 refine sM 86 (bV (((t70 && (t37b == t47b)) && t79) && (t56b == t65b))) rfl rfl ?_
 obtain ⟨t87, c31, h⟩ := bpos h
 refine sG 87 (bV t87) rfl rfl (fun e30 => (vC (s15 k _ (cpos e30 c31)) en15 · · · rfl rfl rfl)) ?_
 refine sT 88 (bV ((((t70 && (t37b == t47b)) && t79) && (t56b == t65b)) && t87)) rfl (vp rfl rfl (fun e32 => (gv e32)) (fun e33 => rfl) (pA _ _)) ?_
 refine sM 12 (bV ((((t70 && (t37b == t47b)) && t79) && (t56b == t65b)) && t87)) rfl rfl ?_
 refine sz ?_
 cases h
 exact ret1 rfl (.tmp rfl)
end Go.Proofs.Gd
set_option linter.unusedVariables false
namespace Go.Proofs.Gd
open Go Go.Awp Go.Proofs
theorem dc3 : Dc Tryz.prog 3 1 (eI .i64) := dcInt Tryz.underlying3 (by kernel_rfl)
theorem dc9 : Dc Tryz.prog 9 1 eS := dcStr Tryz.underlying9 (by kernel_rfl)
theorem dc41 : Dc Tryz.prog 41 2 eSpan := ⟨by kernel_rfl, fun enc W sp held fuel cs x hx => by
  obtain ⟨xs, n, _, _, hl, hxl, hf⟩ := DataW.trod_struct Tryz.underlying41 hx
  obtain ⟨a0, h0⟩ := field_some hxl hf (i := 0) (T := 9) (o := 0) rfl dc9
  obtain ⟨a1, h1⟩ := field_some hxl hf (i := 1) (T := 9) (o := 1) rfl dc9
  refine ⟨⟨a0, a1⟩, ?_⟩
  show RepC W cs ((eS a0) ++ ((eS a1) ++ ([])))
  exact repC_all (repC_glue h0 rfl (repC_glue h1 rfl (repC_end (hl.trans (by kernel_rfl)))))⟩
theorem dc24 : Dc Tryz.prog 24 3 eStamp := ⟨by kernel_rfl, fun enc W sp held fuel cs x hx => by
  obtain ⟨xs, n, _, _, hl, hxl, hf⟩ := DataW.trod_struct Tryz.underlying24 hx
  obtain ⟨a0, h0⟩ := field_some hxl hf (i := 0) (T := 3) (o := 0) rfl dc3
  obtain ⟨a1, h1⟩ := field_some hxl hf (i := 1) (T := 3) (o := 1) rfl dc3
  obtain ⟨a2, h2⟩ := field_some hxl hf (i := 2) (T := 3) (o := 2) rfl dc3
  refine ⟨⟨a0, a1, a2⟩, ?_⟩
  show RepC W cs ((eI .i64 a0) ++ ((eI .i64 a1) ++ ((eI .i64 a2) ++ ([]))))
  exact repC_all (repC_glue h0 rfl (repC_glue h1 rfl (repC_glue h2 rfl (repC_end (hl.trans (by kernel_rfl))))))⟩
theorem dc4 : Dc Tryz.prog 4 1 eB := dcBool Tryz.underlying4 (by kernel_rfl)
theorem dc93 : Dc Tryz.prog 93 5 eVersion := ⟨by kernel_rfl, fun enc W sp held fuel cs x hx => by
  obtain ⟨xs, n, _, _, hl, hxl, hf⟩ := DataW.trod_struct Tryz.underlying93 hx
  obtain ⟨a0, h0⟩ := field_some hxl hf (i := 0) (T := 24) (o := 0) rfl dc24
  obtain ⟨a1, h1⟩ := field_some hxl hf (i := 1) (T := 4) (o := 3) rfl dc4
  obtain ⟨a2, h2⟩ := field_some hxl hf (i := 2) (T := 9) (o := 4) rfl dc9
  refine ⟨⟨a0, a1, a2⟩, ?_⟩
  show RepC W cs ((eStamp a0) ++ ((eB a1) ++ ((eS a2) ++ ([]))))
  exact repC_all (repC_glue h0 rfl (repC_glue h1 rfl (repC_glue h2 rfl (repC_end (hl.trans (by kernel_rfl))))))⟩
theorem dc96 : Dc Tryz.prog 96 1 (eL 5 eVersion) := dcSlice Tryz.underlying96 (by kernel_rfl) (ble _ _ rfl) dc93 teVersion
theorem dc116 : Dc Tryz.prog 116 2 eEntry := ⟨by kernel_rfl, fun enc W sp held fuel cs x hx => by
  obtain ⟨xs, n, _, _, hl, hxl, hf⟩ := DataW.trod_struct Tryz.underlying116 hx
  obtain ⟨a0, h0⟩ := field_some hxl hf (i := 0) (T := 9) (o := 0) rfl dc9
  obtain ⟨a1, h1⟩ := field_some hxl hf (i := 1) (T := 96) (o := 1) rfl dc96
  refine ⟨⟨a0, a1⟩, ?_⟩
  show RepC W cs ((eS a0) ++ ((eL 5 eVersion a1) ++ ([])))
  exact repC_all (repC_glue h0 rfl (repC_glue h1 rfl (repC_end (hl.trans (by kernel_rfl)))))⟩
theorem dc42 : Dc Tryz.prog 42 1 (eL 2 eEntry) := dcSlice Tryz.underlying42 (by kernel_rfl) (ble _ _ rfl) dc116 teEntry
theorem dc31 : Dc Tryz.prog 31 1 (eI .i64) := dcInt Tryz.underlying31 (by kernel_rfl)
theorem dc110 : Dc Tryz.prog 110 2 eItem := ⟨by kernel_rfl, fun enc W sp held fuel cs x hx => by
  obtain ⟨xs, n, _, _, hl, hxl, hf⟩ := DataW.trod_struct Tryz.underlying110 hx
  obtain ⟨a0, h0⟩ := field_some hxl hf (i := 0) (T := 9) (o := 0) rfl dc9
  obtain ⟨a1, h1⟩ := field_some hxl hf (i := 1) (T := 9) (o := 1) rfl dc9
  refine ⟨⟨a0, a1⟩, ?_⟩
  show RepC W cs ((eS a0) ++ ((eS a1) ++ ([])))
  exact repC_all (repC_glue h0 rfl (repC_glue h1 rfl (repC_end (hl.trans (by kernel_rfl)))))⟩
theorem dc32 : Dc Tryz.prog 32 1 (eL 2 eItem) := dcSlice Tryz.underlying32 (by kernel_rfl) (ble _ _ rfl) dc110 teItem
theorem dc34 : Dc Tryz.prog 34 9 eAnswer := ⟨by kernel_rfl, fun enc W sp held fuel cs x hx => by
  obtain ⟨xs, n, _, _, hl, hxl, hf⟩ := DataW.trod_struct Tryz.underlying34 hx
  obtain ⟨a0, h0⟩ := field_some hxl hf (i := 0) (T := 31) (o := 0) rfl dc31
  obtain ⟨a1, h1⟩ := field_some hxl hf (i := 1) (T := 24) (o := 1) rfl dc24
  obtain ⟨a2, h2⟩ := field_some hxl hf (i := 2) (T := 4) (o := 4) rfl dc4
  obtain ⟨a3, h3⟩ := field_some hxl hf (i := 3) (T := 9) (o := 5) rfl dc9
  obtain ⟨a4, h4⟩ := field_some hxl hf (i := 4) (T := 32) (o := 6) rfl dc32
  obtain ⟨a5, h5⟩ := field_some hxl hf (i := 5) (T := 9) (o := 7) rfl dc9
  obtain ⟨a6, h6⟩ := field_some hxl hf (i := 6) (T := 4) (o := 8) rfl dc4
  refine ⟨⟨a0, a1, a2, a3, a4, a5, a6⟩, ?_⟩
  show RepC W cs ((eI .i64 a0) ++ ((eStamp a1) ++ ((eB a2) ++ ((eS a3) ++ ((eL 2 eItem a4) ++ ((eS a5) ++ ((eB a6) ++ ([]))))))))
  exact repC_all (repC_glue h0 rfl (repC_glue h1 rfl (repC_glue h2 rfl (repC_glue h3 rfl (repC_glue h4 rfl (repC_glue h5 rfl (repC_glue h6 rfl (repC_end (hl.trans (by kernel_rfl))))))))))⟩
theorem dc100 : Dc Tryz.prog 100 11 eDone := ⟨by kernel_rfl, fun enc W sp held fuel cs x hx => by
  obtain ⟨xs, n, _, _, hl, hxl, hf⟩ := DataW.trod_struct Tryz.underlying100 hx
  obtain ⟨a0, h0⟩ := field_some hxl hf (i := 0) (T := 3) (o := 0) rfl dc3
  obtain ⟨a1, h1⟩ := field_some hxl hf (i := 1) (T := 3) (o := 1) rfl dc3
  obtain ⟨a2, h2⟩ := field_some hxl hf (i := 2) (T := 34) (o := 2) rfl dc34
  refine ⟨⟨a0, a1, a2⟩, ?_⟩
  show RepC W cs ((eI .i64 a0) ++ ((eI .i64 a1) ++ ((eAnswer a2) ++ ([]))))
  exact repC_all (repC_glue h0 rfl (repC_glue h1 rfl (repC_glue h2 rfl (repC_end (hl.trans (by kernel_rfl))))))⟩
theorem dc43 : Dc Tryz.prog 43 1 (eL 11 eDone) := dcSlice Tryz.underlying43 (by kernel_rfl) (ble _ _ rfl) dc100 teDone
theorem dc45 : Dc Tryz.prog 45 17 eShard := ⟨by kernel_rfl, fun enc W sp held fuel cs x hx => by
  obtain ⟨xs, n, _, _, hl, hxl, hf⟩ := DataW.trod_struct Tryz.underlying45 hx
  obtain ⟨a0, h0⟩ := field_some hxl hf (i := 0) (T := 3) (o := 0) rfl dc3
  obtain ⟨a1, h1⟩ := field_some hxl hf (i := 1) (T := 3) (o := 1) rfl dc3
  obtain ⟨a2, h2⟩ := field_some hxl hf (i := 2) (T := 41) (o := 2) rfl dc41
  obtain ⟨a3, h3⟩ := field_some hxl hf (i := 3) (T := 3) (o := 4) rfl dc3
  obtain ⟨a4, h4⟩ := field_some hxl hf (i := 4) (T := 42) (o := 5) rfl dc42
  obtain ⟨a5, h5⟩ := field_some hxl hf (i := 5) (T := 24) (o := 6) rfl dc24
  obtain ⟨a6, h6⟩ := field_some hxl hf (i := 6) (T := 24) (o := 9) rfl dc24
  obtain ⟨a7, h7⟩ := field_some hxl hf (i := 7) (T := 43) (o := 12) rfl dc43
  obtain ⟨a8, h8⟩ := field_some hxl hf (i := 8) (T := 3) (o := 13) rfl dc3
  obtain ⟨a9, h9⟩ := field_some hxl hf (i := 9) (T := 3) (o := 14) rfl dc3
  obtain ⟨a10, h10⟩ := field_some hxl hf (i := 10) (T := 3) (o := 15) rfl dc3
  obtain ⟨a11, h11⟩ := field_some hxl hf (i := 11) (T := 3) (o := 16) rfl dc3
  refine ⟨⟨a0, a1, a2, a3, a4, a5, a6, a7, a8, a9, a10, a11⟩, ?_⟩
  show RepC W cs ((eI .i64 a0) ++ ((eI .i64 a1) ++ ((eSpan a2) ++ ((eI .i64 a3) ++ ((eL 2 eEntry a4) ++ ((eStamp a5) ++ ((eStamp a6) ++ ((eL 11 eDone a7) ++ ((eI .i64 a8) ++ ((eI .i64 a9) ++ ((eI .i64 a10) ++ ((eI .i64 a11) ++ ([])))))))))))))
  exact repC_all (repC_glue h0 rfl (repC_glue h1 rfl (repC_glue h2 rfl (repC_glue h3 rfl (repC_glue h4 rfl (repC_glue h5 rfl (repC_glue h6 rfl (repC_glue h7 rfl (repC_glue h8 rfl (repC_glue h9 rfl (repC_glue h10 rfl (repC_glue h11 rfl (repC_end (hl.trans (by kernel_rfl)))))))))))))))⟩
theorem dc22 : Dc Tryz.prog 22 1 (eL 17 eShard) := dcSlice Tryz.underlying22 (by kernel_rfl) (ble _ _ rfl) dc45 teShard
theorem dc26 : Dc Tryz.prog 26 5 eCell := ⟨by kernel_rfl, fun enc W sp held fuel cs x hx => by
  obtain ⟨xs, n, _, _, hl, hxl, hf⟩ := DataW.trod_struct Tryz.underlying26 hx
  obtain ⟨a0, h0⟩ := field_some hxl hf (i := 0) (T := 22) (o := 0) rfl dc22
  obtain ⟨a1, h1⟩ := field_some hxl hf (i := 1) (T := 24) (o := 1) rfl dc24
  obtain ⟨a2, h2⟩ := field_some hxl hf (i := 2) (T := 3) (o := 4) rfl dc3
  refine ⟨⟨a0, a1, a2⟩, ?_⟩
  show RepC W cs ((eL 17 eShard a0) ++ ((eStamp a1) ++ ((eI .i64 a2) ++ ([]))))
  exact repC_all (repC_glue h0 rfl (repC_glue h1 rfl (repC_glue h2 rfl (repC_end (hl.trans (by kernel_rfl))))))⟩
end Go.Proofs.Gd
set_option linter.unusedVariables false
set_option linter.unusedSimpArgs false
namespace Go.Proofs.Gd
open Go Go.Awp
theorem T153 (s : ByteArray) : Ev (fun k => F153 k s) (decR s, decN s) := by
  refine Ev.from 0 fun k => ?_
  show F153 k s = _
  unfold F153 F174
  rw [strEq_nil]
  by_cases h : s.size = 0
  · simp [h]
  · have h0 : inR 0 s.size = true := by rw [inR_iff]; omega
    rw [decide_eq_false h]
    simp only [h0, Bool.not_false, Bool.not_true, Bool.false_or, Bool.true_and, cond_true]
    cases ha : ltI (bt s 0) 128 with
    | true => simp only [cond_true]; rw [dec_ascii s (by omega) (ltI_iff.1 ha)]
    | false => rfl
theorem L163 (t : ByteArray) (n : Nat) (hn : n ≤ t.size) (h4 : n ≤ 4) : ∀ (m i : Nat) (r : Int), i + m = n → 0 ≤ r → r ≤ ((1000 * 100 ^ i : Nat) : Int) → Ev (fun k => F163_l1 t n k (r, i)) (contL t m i r)
  | 0, i, r, hi, h0, h1 => by
    refine Ev.from 1 fun k => ?_
    show F163_l1 t n (k + 1) (r, (i : Int)) = _
    rw [F163_l1, ltI_nat, decide_eq_false (by omega)]
    rfl
  | m + 1, i, r, hi, h0, h1 => by
    have hp : 100 ^ i ≤ 100 ^ 4 := Nat.pow_le_pow_right (by omega) (by omega)
    have hp1 : 1 ≤ 100 ^ i := Nat.one_le_pow _ _ (by omega)
    have hb := bt_range t (i : Int)
    refine Ev.succ (fun k => by rw [F163_l1]) ?_
    rw [ltI_nat, decide_eq_true (by omega), inR_mk (by omega : i < t.size), contL]
    simp only [Bool.not_true, Bool.or_true, cond_true]
    refine Ev.cond (fun hc => ?_) fun hc => ?_
    · rw [hc]; exact Ev.of fun _ => rfl
    · rw [hc]
      simp only [cond_false]
      rw [i64z (n := bt t (i : Int)) (by omega), i64z (n := 64 * r) (by omega), i64z (n := 64 * r + bt t (i : Int)) (by omega)]
      unfold bnd
      rw [i64z (n := (i : Int) + 1) (by omega)]
      have hc' : 128 ≤ bt t (i : Int) := by
        rw [Bool.or_eq_false_iff, ltI_false] at hc; omega
      show Ev (fun k => F163_l1 t n k (IntKind.wrap .i64 (64 * r + bt t (i : Int) - 128), (i : Int) + 1)) _
      rw [i64z (n := 64 * r + bt t (i : Int) - 128) (by omega)]
      exact L163 t n hn h4 m (i + 1) (64 * r + bt t (i : Int) - 128) (by omega) (by omega) (by rw [Nat.pow_succ]; omega)
theorem T163 (t : ByteArray) (h : 0 < t.size) : Ev (fun k => F163 k t) (letter t) := by
  rw [← letter_eq t h]
  have hb := bt_range t 0
  have h0 : inR 0 t.size = true := by rw [inR_iff]; omega
  have key : ∀ (r : Int) (n : Nat) (lo : Int), 0 ≤ r → r ≤ 1000 → n ≤ 4 → Ev (fun k => bif ((eqI (n : Int) 0) || (ltI (t.size : Int) n)) then (some ((-1), 1)) else ((F163_l1 t n k (r, 1)).bind fun t => t.go fun t4_1 => bif (((ltI t4_1 lo) || (ltI 1114111 t4_1)) || ((leI 55296 t4_1) && (ltI t4_1 57344))) then (some ((-1), 1)) else (some (t4_1, (n : Int))))) (tailL t r n lo) := by
    intro r n lo g0 g1 g2
    refine Ev.cond (fun hc => ?_) fun hc => ?_
    · unfold tailL
      rw [Bool.or_eq_true, eqI_iff, ltI_iff] at hc
      rw [if_pos (by omega)]
      exact Ev.of fun _ => rfl
    · rw [Bool.or_eq_false_iff, eqI_false, ltI_false] at hc
      unfold tailL
      rw [if_neg (by omega)]
      have := L163 t n (by omega) g2 (n - 1) 1 r (by omega) g0 (by omega)
      refine Ev.bind this ?_
      cases contL t (n - 1) 1 r with
      | ret x => exact Ev.of fun _ => rfl
      | out r =>
        refine Ev.of fun _ => ?_
        show (bif (((ltI r lo) || (ltI 1114111 r)) || ((leI 55296 r) && (ltI r 57344))) then some ((-1 : Int), (1 : Int)) else some (r, (n : Int))) = some (if r < lo ∨ 1114111 < r ∨ (55296 ≤ r ∧ r < 57344) then ((-1 : Int), (1 : Int)) else (r, (n : Int)))
        by_cases hv : r < lo ∨ 1114111 < r ∨ (55296 ≤ r ∧ r < 57344)
        · rw [if_pos hv]
          have : (((ltI r lo) || (ltI 1114111 r)) || ((leI 55296 r) && (ltI r 57344))) = true := by simp only [Bool.or_eq_true, Bool.and_eq_true, ltI_iff, leI_iff]; omega
          rw [this]; rfl
        · rw [if_neg hv]
          have : (((ltI r lo) || (ltI 1114111 r)) || ((leI 55296 r) && (ltI r 57344))) = false := by
            rw [Bool.eq_false_iff]
            intro h
            simp only [Bool.or_eq_true, Bool.and_eq_true, ltI_iff, leI_iff] at h
            omega
          rw [this]; rfl
  have hw : IntKind.wrap .i64 (bt t 0) = bt t 0 := i64z (by omega)
  unfold letter0
  have b2 : ∀ {a b c : Int}, a ≤ b → b < c → (leI a b && ltI b c) = true := fun h1 h2 => by rw [leI_iff.2 h1, ltI_iff.2 h2]; rfl
  have b3 : ∀ {a b c : Int}, ¬ (a ≤ b ∧ b < c) → (leI a b && ltI b c) = false := fun h => by
    rw [Bool.eq_false_iff]; intro hh; rw [Bool.and_eq_true, leI_iff, ltI_iff] at hh; exact h hh
  by_cases h1 : bt t 0 < 128
  · rw [if_pos h1]
    refine Ev.of fun k => ?_
    unfold F163
    rw [h0, hw, ltI_iff.2 h1]; rfl
  rw [if_neg h1]
  have hf : ltI (bt t 0) 128 = false := ltI_false.2 (by omega)
  by_cases h2 : 194 ≤ bt t 0 ∧ bt t 0 < 224
  · rw [if_pos h2]
    refine Ev.congr (fun k => ?_) (key (bt t 0 - 192) 2 128 (by omega) (by omega) (by omega))
    unfold F163
    rw [h0, hw, hf, b2 h2.1 h2.2, i64z (by omega)]; rfl
  rw [if_neg h2]
  by_cases h3 : 224 ≤ bt t 0 ∧ bt t 0 < 240
  · rw [if_pos h3]
    refine Ev.congr (fun k => ?_) (key (bt t 0 - 224) 3 2048 (by omega) (by omega) (by omega))
    unfold F163
    rw [h0, hw, hf, b3 h2, b2 h3.1 h3.2, i64z (n := bt t 0 - 224) (by omega)]; rfl
  rw [if_neg h3]
  by_cases h4 : 240 ≤ bt t 0 ∧ bt t 0 < 245
  · rw [if_pos h4]
    refine Ev.congr (fun k => ?_) (key (bt t 0 - 240) 4 65536 (by omega) (by omega) (by omega))
    unfold F163
    rw [h0, hw, hf, b3 h2, b3 h3, b2 h4.1 h4.2, i64z (n := bt t 0 - 240) (by omega)]; rfl
  rw [if_neg h4]
  refine Ev.congr (fun k => ?_) (key (bt t 0) 0 0 (by omega) (by omega) (by omega))
  unfold F163
  rw [h0, hw, hf, b3 h2, b3 h3, b3 h4]; rfl
theorem T122_l1 (s : ByteArray) : ∀ (n i : Nat), s.size - i ≤ n → Ev (fun k => F122_l1 s k i) (if goodFrom s n i = true then .out () else .ret false)
  | 0, i, hn => by
    refine Ev.from 1 fun k => ?_
    show F122_l1 s (k + 1) i = _
    rw [F122_l1, nxc, decide_eq_false (by omega)]
    rfl
  | n + 1, i, hn => by
    refine Ev.succ (fun k => by rw [F122_l1]) ?_
    rw [goodFrom, nxc]
    by_cases h : i < s.size
    · rw [decide_eq_true h, cutOK_mk (by omega) (by omega) (by omega), Int.toNat_natCast, Int.toNat_natCast, if_pos h]
      refine Ev.bind (T153 _) ?_
      rw [(decR_ext s i h).1, (decR_ext s i h).2]
      show Ev (fun k => Option.bind (some _) _) _
      refine Ev.bind (Ev.of fun _ => rfl : Ev (fun k => F154 k (nxr s i) _) _) ?_
      unfold nxr
      rw [plain_dec s i h]
      cases hp : plainD (Utf8.decode s i) with
      | false => exact Ev.of fun _ => rfl
      | true => exact T122_l1 s n (nxw s i) (by have := dec_pos s i; unfold nxw; omega)
    · rw [decide_eq_false h, if_neg h]
      exact Ev.of fun _ => rfl
theorem T122 (s : ByteArray) : Ev (fun k => F122 k s) (keyR s) := by
  refine Ev.bind (T122_l1 s s.size 0 (by omega)) ?_
  unfold keyR
  cases goodFrom s s.size 0 with
  | false => exact Ev.of fun _ => rfl
  | true =>
    refine Ev.of fun _ => ?_
    show some ((leI 1 (s.size : Int)) && (leI (s.size : Int) 16)) = _
    rw [show (1 : Int) = ((1 : Nat) : Int) from rfl, show (16 : Int) = ((16 : Nat) : Int) from rfl, leI_nat, leI_nat, ← Bool.decide_and]
    rfl
theorem T130_l1 (s : ByteArray) : ∀ (n i : Nat), s.size - i ≤ n → Ev (fun k => F130_l1 k (s.extract i s.size)) (if goodFrom s n i = true then .out () else .ret false)
  | 0, i, hn => by
    refine Ev.from 1 fun k => ?_
    show F130_l1 (k + 1) _ = _
    rw [F130_l1, show (0 : Int) = ((0 : Nat) : Int) from rfl, ltI_nat, decide_eq_false (by rw [size_extract']; omega)]
    rfl
  | n + 1, i, hn => by
    refine Ev.succ (fun k => by rw [F130_l1]) ?_
    rw [goodFrom]
    have hz : (s.extract i s.size).size = s.size - i := by rw [size_extract']; omega
    by_cases h : i < s.size
    · rw [show ltI 0 ((s.extract i s.size).size : Int) = true by rw [ltI_iff]; omega, if_pos h]
      refine Ev.bind (T163 _ (by omega)) ?_
      obtain ⟨r, m, h1, h2, h3⟩ := plain_letter s i h
      rw [h1]
      refine Ev.bind (Ev.of fun _ => rfl : Ev (fun k => F164 k r) _) ?_
      rw [h2]
      cases hp : plainD (Utf8.decode s i) with
      | false => exact Ev.of fun _ => rfl
      | true =>
        have hm := h3 hp
        have hd := dec_le s i h
        rw [hm, cutOK_mk (by omega) (by omega) (by omega), Int.toNat_natCast, Int.toNat_natCast, ext_ext]
        exact T130_l1 s n _ (by have := dec_pos s i; omega)
    · rw [show ltI 0 ((s.extract i s.size).size : Int) = false by rw [ltI_false]; omega, if_neg h]
      exact Ev.of fun _ => rfl
theorem T130 (s : ByteArray) : Ev (fun k => F130 k s) (keyR s) := by
  unfold keyR
  refine Ev.cond (fun hc => ?_) fun hc => ?_
  · rw [Bool.or_eq_true, eqI_iff, ltI_iff] at hc
    rw [decide_eq_false (by omega), Bool.and_false]
    exact Ev.of fun _ => rfl
  · rw [Bool.or_eq_false_iff, eqI_false, ltI_false] at hc
    rw [decide_eq_true (by omega), Bool.and_true]
    have := T130_l1 s s.size 0 (by omega)
    rw [ext_zero] at this
    refine Ev.bind this ?_
    cases goodFrom s s.size 0 with
    | false => exact Ev.of fun _ => rfl
    | true => exact Ev.of fun _ => rfl
theorem optv {α : Type} [Inhabited α] {c : Bool} {a : Nat → Option α} {v : α} (h : c = true → Ev a v) : Ev (fun k => bif c then a k else some default) (bif c then v else default) := by
  cases c with
  | true => exact h rfl
  | false => exact Ev.of fun _ => rfl
def oneB (n : Int) : Bool := leI 1 n && leI n 1099511627776
def stR (s : Stamp) : Bool := leI 0 s.mWall && (leI s.mWall 1099511627776 && (leI 0 s.mTick && (leI s.mTick 1048576 && (leI 0 s.mNode && leI s.mNode 255))))
theorem T57 (n : Int) (l : List Int) (hl : l.length ≤ 1000) : Ev (fun k => F57 k n l) (!(l.any fun x => ltI x n || ltI 1099511627776 x)) :=
  Ev.bind (any_ev (idx_ev (f := F152_121_l1 l n) (q := fun x => ltI x n || ltI 1099511627776 x) (p := fun k x => F121 k x n) (by omega) (fun _ => rfl) (fun _ _ => rfl) fun x _ => Ev.of fun _ => rfl)) (Ev.of fun _ => rfl)
theorem oneB_eq (x : Int) : (ltI x 1 || ltI 1099511627776 x) = !oneB x := by
  rw [Bool.eq_iff_iff]
  simp only [oneB, Bool.or_eq_true, Bool.not_eq_true', Bool.and_eq_false_iff, ltI_iff, leI_false]
theorem T57_2 (a b : Int) : Ev (fun k => F57 k 1 [a, b]) (oneB a && oneB b) := by
  have := T57 1 [a, b] (by simp)
  simp only [List.any_cons, List.any_nil, oneB_eq] at this
  cases h1 : oneB a <;> cases h2 : oneB b <;> simpa [h1, h2] using this
theorem T36 (s : Stamp) : Ev (fun k => F36 k s) (stR s) := by
  refine Ev.bind (Ev.of fun _ => rfl : Ev (fun k => F100 k _ _) _) ?_
  refine Ev.bind (optv fun _ => (Ev.of fun _ => rfl : Ev (fun k => F100 k _ _) _)) ?_
  refine Ev.bind (optv fun _ => (Ev.of fun _ => rfl : Ev (fun k => F100 k _ _) _)) ?_
  refine Ev.of fun _ => ?_
  unfold stR
  congr 1
  generalize leI 0 s.mWall = a; generalize leI s.mWall _ = b; generalize leI 0 s.mTick = c; generalize leI s.mTick _ = d; generalize leI 0 s.mNode = e; generalize leI s.mNode _ = f
  revert a b c d e f; decide
theorem T68 (s : Stamp) : Ev (fun k => F68 k s) (stR s) := by
  refine Ev.of fun _ => ?_
  unfold F68 stR
  congr 1
  generalize leI 0 s.mWall = a; generalize leI s.mWall _ = b; generalize leI 0 s.mTick = c; generalize leI s.mTick _ = d; generalize leI 0 s.mNode = e; generalize leI s.mNode _ = f
  revert a b c d e f; decide
theorem T66 (x : Int) : Ev (fun k => F66 k x) (oneB x) := Ev.of fun _ => rfl
theorem ltI_pos (n : Nat) (a : ByteArray) (h : a.size = n) : ltI 0 (n : Int) = !strEq a ⟨#[]⟩ := by
  rw [strEq_nil, h, Bool.eq_iff_iff, ltI_iff]
  simp; omega
theorem eqI_nil (a : ByteArray) : eqI (a.size : Int) 0 = strEq a ⟨#[]⟩ := by
  rw [strEq_nil, Bool.eq_iff_iff, eqI_iff]
  simp
theorem leI_lt (x : Int) : leI 0 x = !ltI x 0 := by rw [Bool.eq_iff_iff, Bool.not_eq_true', leI_iff, ltI_false]
theorem awake (k : Nat) : F15 (k + 40) = some true := by kernel_rfl
end Go.Proofs.Gd
set_option linter.unusedVariables false
set_option linter.unusedSimpArgs false
namespace Go.Proofs.Gd
open Go Go.Awp
def cmpI (a b : Int) : Int := bif ltI a b then -1 else bif ltI b a then 1 else 0
def or3 (a b c : Int) : Int := bif !eqI a 0 then a else bif !eqI b 0 then b else bif !eqI c 0 then c else 0
def cmpS (s t : Stamp) : Int := or3 (cmpI s.mWall t.mWall) (cmpI s.mTick t.mTick) (cmpI s.mNode t.mNode)
def laterS (s t : Stamp) : Stamp := bif ltI (cmpS s t) 0 then t else s
theorem eqI_self (x : Int) : eqI x x = true := eqI_iff.2 rfl
theorem T104 (a b : Int) : Ev (fun k => F104 k a b) (cmpI a b) := by
  refine Ev.of fun k => ?_
  show (some (!eqI a a)).bind (fun t8 => (some (!eqI b b)).bind fun t10 => _) = _
  rw [eqI_self, eqI_self]
  unfold cmpI
  show (bif ltI a b then some (-1) else bif ltI b a then some 1 else some 0) = _
  cases ltI a b <;> cases ltI b a <;> rfl
theorem T103 (a b c : Int) : Ev (fun k => F103 k [a, b, c]) (or3 a b c) := by
  refine Ev.from 4 fun k => ?_
  unfold or3
  show F103 (k + 4) [a, b, c] = _
  unfold F103
  rw [F103_l1, F103_l1, F103_l1, F103_l1]
  show Option.bind (bif !eqI a 0 then some (LR.ret a) else bif !eqI b 0 then some (LR.ret b) else bif !eqI c 0 then some (LR.ret c) else some (LR.out ())) _ = _
  cases !eqI a 0 <;> cases !eqI b 0 <;> cases !eqI c 0 <;> rfl
theorem T42 (s t : Stamp) : Ev (fun k => F42 k s t) (cmpS s t) :=
  Ev.bind (T104 _ _) (Ev.bind (T104 _ _) (Ev.bind (T104 _ _) (Ev.bind (T103 _ _ _) (Ev.of fun _ => rfl))))
theorem T37 (s t : Stamp) : Ev (fun k => F37 k s t) (laterS s t) := by
  refine Ev.bind (T42 s t) ?_
  unfold laterS
  cases ltI (cmpS s t) 0 <;> exact Ev.of fun _ => rfl
structure SmS (s : Shard) : Prop where
  entries : s.mEntries.length ≤ 80
  chains : ∀ e ∈ s.mEntries, e.mChain.length ≤ 80
  done : s.mDone.length ≤ 40
  items : ∀ d ∈ s.mDone, d.mAnswer.mItems.length ≤ 100
structure SmC (c : Cell) : Prop where
  shards : c.mShards.length ≤ 12
  each : ∀ s ∈ c.mShards, SmS s
theorem strEq_self (a : ByteArray) : strEq a a = true := strEq_true.2 rfl
theorem qStamp_self (s : Stamp) : qStamp s s = true := by simp [qStamp, eqI_self]
theorem loop_out {f : Nat → Int → Option (LR Bool Unit)} {n : Nat} {g : Nat → Unit → Option Bool} (hend : Ev (fun k => f k (n : Int)) (.out ())) (hstep : ∀ i, i < n → Ev (fun k => f k ((i + 1 : Nat) : Int)) (.out ()) → Ev (fun k => f k (i : Int)) (.out ())) {r : Bool} (hg : Ev (fun k => g k ()) r) :
    Ev (fun k => (f k 0).bind fun t => t.go (g k)) r := Ev.bind (downTo (M := fun i => Ev (fun k => f k (i : Int)) (.out ())) n hend hstep) hg
theorem E102 (l : List Version) (hl : l.length ≤ 1000) : Ev (fun k => F102 k l l) true := by
  refine Ev.cond (fun hc => by rw [eqI_self] at hc; cases hc) fun _ => loop_out (n := l.length) ?_ (fun i hi ih => ?_) (Ev.of fun _ => rfl)
  · refine Ev.from 1 fun k => ?_
    show F102_l1 l l (k + 1) _ = _
    rw [F102_l1, ltI_nat, decide_eq_false (Nat.lt_irrefl _)]; rfl
  · refine Ev.succ (fun k => by rw [F102_l1]) ?_
    rw [ltI_nat, decide_eq_true hi, inR_mk hi, i64z (by omega), show qVersion (rd l (i : Int)) (rd l (i : Int)) = true by simp [qVersion, qStamp_self, strEq_self]]
    exact ih
theorem E40 (l : List Entry) (hl : l.length ≤ 1000) (hc : ∀ e ∈ l, e.mChain.length ≤ 1000) : Ev (fun k => F40 k l l) true := by
  refine Ev.cond (fun hc => by rw [eqI_self] at hc; cases hc) fun _ => loop_out (n := l.length) ?_ (fun i hi ih => ?_) (Ev.of fun _ => rfl)
  · refine Ev.from 1 fun k => ?_
    show F40_l1 l l (k + 1) _ = _
    rw [F40_l1, ltI_nat, decide_eq_false (Nat.lt_irrefl _)]; rfl
  · refine Ev.succ (fun k => by rw [F40_l1]) ?_
    rw [ltI_nat, decide_eq_true hi, inR_mk hi, i64z (by omega), strEq_self, rd_nat _ _ hi]
    exact Ev.bind (E102 _ (hc _ (List.getElem_mem hi))) ih
theorem E19 (a : Answer) (hl : a.mItems.length ≤ 1000) : Ev (fun k => F19 k a a) true := by
  refine Ev.cond (fun hc => by rw [eqI_self] at hc; cases hc) fun _ => loop_out (n := a.mItems.length) ?_ (fun i hi ih => ?_) (Ev.of fun _ => by simp [eqI_self, qStamp_self, strEq_self])
  · refine Ev.from 1 fun k => ?_
    show F19_l1 a a (k + 1) _ = _
    rw [F19_l1, ltI_nat, decide_eq_false (Nat.lt_irrefl _)]; rfl
  · refine Ev.succ (fun k => by rw [F19_l1]) ?_
    rw [ltI_nat, decide_eq_true hi, inR_mk hi, i64z (by omega), show qItem (rd a.mItems (i : Int)) (rd a.mItems (i : Int)) = true by simp [qItem, strEq_self]]
    exact ih
theorem E41 (l : List Done) (hl : l.length ≤ 1000) (hc : ∀ e ∈ l, e.mAnswer.mItems.length ≤ 1000) : Ev (fun k => F41 k l l) true := by
  refine Ev.cond (fun hc => by rw [eqI_self] at hc; cases hc) fun _ => loop_out (n := l.length) ?_ (fun i hi ih => ?_) (Ev.of fun _ => rfl)
  · refine Ev.from 1 fun k => ?_
    show F41_l1 l l (k + 1) _ = _
    rw [F41_l1, ltI_nat, decide_eq_false (Nat.lt_irrefl _)]; rfl
  · refine Ev.succ (fun k => by rw [F41_l1]) ?_
    rw [ltI_nat, decide_eq_true hi, inR_mk hi, i64z (by omega), eqI_self, eqI_self, rd_nat _ _ hi]
    exact Ev.bind (E19 _ (hc _ (List.getElem_mem hi))) ih
theorem E26 (s : Shard) (h : SmS s) : Ev (fun k => F26 k s s) true := by
  have he := h.entries
  have hd := h.done
  have e1 : qSpan s.mSpan s.mSpan = true := by simp [qSpan, strEq_self]
  unfold F26
  simp only [eqI_self, qStamp_self, e1, Bool.and_true, Bool.true_and, cond_true]
  refine Ev.bind (E40 _ (by omega) fun e he => by have := h.chains e he; omega) ?_
  refine Ev.bind (E41 _ (by omega) fun e he => by have := h.items e he; omega) ?_
  exact Ev.of fun _ => rfl
theorem T92 (l : List Done) : EvP (fun k => F92 k l) (fun b => b = true → l.length ≤ 40 ∧ ∀ e ∈ l, e.mAnswer.mItems.length ≤ 100) := by
  refine EvP.cond (fun _ => EvP.some fun h => by cases h) fun hc => ?_
  rw [ltI_false] at hc
  refine EvP.go ((downTo (M := fun i => EvP (fun k => F92_l1 l k (i : Int)) fun t => t = .ret false ∨ (t = .out () ∧ ∀ j (hj : j < l.length), i ≤ j → l[j].mAnswer.mItems.length ≤ 100)) l.length ?_ fun i hi ih => ?_).mono fun t ht => ?_)
  · refine EvP.succ (fun k => by rw [F92_l1]) ?_
    rw [ltI_nat, decide_eq_false (Nat.lt_irrefl _)]
    exact EvP.some (.inr ⟨rfl, fun j hj h => by omega⟩)
  · refine EvP.succ (fun k => by rw [F92_l1]) ?_
    rw [ltI_nat, decide_eq_true hi, inR_mk hi, rd_nat _ _ hi]
    simp only [cond_true]
    refine EvP.cond (fun _ => EvP.some (.inl rfl)) fun hcc => ?_
    rw [ltI_false] at hcc
    rw [i64z (by omega)]
    refine ih.mono fun t ht => ht.imp id fun ⟨h1, h2⟩ => ⟨h1, fun j hj hij => ?_⟩
    by_cases e : j = i
    · subst e; omega
    · exact h2 j hj (by omega)
  · rcases ht with rfl | ⟨rfl, h⟩
    · exact fun h => by cases h
    · refine EvP.some fun _ => ⟨by omega, fun e he => ?_⟩
      obtain ⟨j, hj, rfl⟩ := List.mem_iff_getElem.1 he
      exact h j hj (by omega)
end Go.Proofs.Gd
set_option linter.unusedVariables false
set_option linter.unusedSimpArgs false
namespace Go.Proofs.Gd
open Go Go.Awp
theorem dec_pair (s : ByteArray) (h : 0 < s.size) : decR s = ((Utf8.decode s 0).1 : Nat) ∧ decN s = ((Utf8.decode s 0).2 : Nat) := by
  have := decR_ext s 0 h
  rwa [ext_zero] at this
/-- What key.Compare's loop leaves. -/
def endsK (a b : ByteArray) (t : LR Int (ByteArray × ByteArray)) : Prop := match t with
  | .ret r => r = cmpK a b
  | .out (x, y) => cmpK x y = cmpK a b ∧ (x.size = 0 ∨ y.size = 0)
theorem V124_l1 (a0 b0 : ByteArray) : ∀ (n : Nat) (a b : ByteArray), a.size ≤ n → cmpK a b = cmpK a0 b0 → EvP (fun k => F124_l1 k (a, b)) (endsK a0 b0)
  | n, a, b, hn, he => by
    refine EvP.succ (fun k => by rw [F124_l1]) (EvP.cond (fun hc => ?_) fun hc => ?_)
    · rw [strEq_nil, strEq_nil] at hc
      simp only [Bool.and_eq_true, Bool.not_eq_true', decide_eq_false_iff_not] at hc
      have ha : 0 < a.size := by omega
      have hb : 0 < b.size := by omega
      refine EvP.bind ((T153 _).evP.mono fun r hr => ?_)
      subst hr
      refine EvP.bind ((T153 _).evP.mono fun r hr => ?_)
      subst hr
      show EvP (fun k => bif ltI (decR a) (decR b) then _ else _) _
      rw [(dec_pair a ha).1, (dec_pair b hb).1, (dec_pair a ha).2, (dec_pair b hb).2, ltI_nat, ltI_nat]
      have hk : cmpK a b = if (Utf8.decode a 0).1 < (Utf8.decode b 0).1 then -1 else if (Utf8.decode b 0).1 < (Utf8.decode a 0).1 then 1 else cmpK (a.extract (Utf8.decode a 0).2 a.size) (b.extract (Utf8.decode b 0).2 b.size) := by
        unfold cmpK
        rw [runes_cons a ha, runes_cons b hb, cmpL]
      refine EvP.cond (fun h1 => EvP.some ?_) fun h1 => EvP.cond (fun h2 => EvP.some ?_) fun h2 => ?_
      · rw [if_pos (of_decide_eq_true h1)] at hk
        show (-1 : Int) = _
        rw [← he, hk]
      · rw [if_neg (of_decide_eq_false h1), if_pos (of_decide_eq_true h2)] at hk
        show (1 : Int) = _
        rw [← he, hk]
      · rw [if_neg (of_decide_eq_false h1), if_neg (of_decide_eq_false h2)] at hk
        have d1 := dec_le a 0 ha
        have d2 := dec_le b 0 hb
        have d3 := dec_pos a 0
        refine EvP.guard (cutOK_mk (by omega) (by omega) (by omega)) (EvP.guard (cutOK_mk (by omega) (by omega) (by omega)) ?_)
        rw [Int.toNat_natCast, Int.toNat_natCast, Int.toNat_natCast, Int.toNat_natCast]
        cases n with
        | zero => omega
        | succ n => exact V124_l1 a0 b0 n _ _ (by rw [size_extract']; omega) (by rw [← hk]; exact he)
    · rw [strEq_nil, strEq_nil] at hc
      simp only [Bool.and_eq_false_iff, Bool.not_eq_false', decide_eq_true_eq] at hc
      refine EvP.some ?_
      show cmpK a b = cmpK a0 b0 ∧ (a.size = 0 ∨ b.size = 0)
      exact ⟨he, hc⟩
/-- key.Compare. -/
theorem V124 (a b : ByteArray) : Ev (fun k => F124 k a b) (cmpK a b) := by
  refine EvP.ev (EvP.go ((V124_l1 a b _ a b (Nat.le_refl _) rfl).mono fun t ht => ?_))
  cases t with
  | ret r => exact ht
  | out v =>
    obtain ⟨x, y⟩ := v
    obtain ⟨h1, h2⟩ := ht
    show EvP (fun k => bif !strEq x ⟨#[]⟩ then some 1 else bif !strEq y ⟨#[]⟩ then some (-1) else some 0) _
    rw [strEq_nil, strEq_nil]
    refine EvP.cond (fun hx => EvP.some ?_) fun hx => EvP.cond (fun hy => EvP.some ?_) fun hy => EvP.some ?_
    · rw [Bool.not_eq_true', decide_eq_false_iff_not] at hx
      have hy : y.size = 0 := by omega
      rw [← h1, cmpK, runes_nil y hy, runes_cons x (by omega), cmpL]
    · rw [Bool.not_eq_true', decide_eq_false_iff_not] at hy
      rw [Bool.not_eq_false', decide_eq_true_eq] at hx
      rw [← h1, cmpK, runes_nil x hx, runes_cons y (by omega), cmpL]
    · rw [Bool.not_eq_false', decide_eq_true_eq] at hx hy
      rw [← h1, cmpK, runes_nil x hx, runes_nil y hy, cmpL]
def ofN (l : List Nat) : List Int := l.map Int.ofNat
theorem ofN_len (l : List Nat) : (ofN l).length = l.length := List.length_map _
theorem ofN_rd (l : List Nat) (i : Nat) (h : i < l.length) : rd (ofN l) (i : Int) = ((l[i] : Nat) : Int) := by
  rw [rd_nat _ _ (by rw [ofN_len]; exact h)]
  simp [ofN]
/-- The plain decoder's list. -/
theorem letter_rune (s : ByteArray) (h : 0 < s.size) : (bif ltI (letter s).1 0 then (65533 : Int) else (letter s).1) = ((Utf8.decode s 0).1 : Nat) ∧ (letter s).2 = ((Utf8.decode s 0).2 : Nat) := by
  unfold letter
  have g0 := get_bt s 0
  have r0 := UInt8.toNat_lt (s.get! 0)
  have g0' : bt s 0 = ((s.get! 0).toNat : Int) := g0.symm
  by_cases hb : (Utf8.decode s 0).2 = 1 ∧ 128 ≤ bt s 0
  · rw [if_pos hb]
    have h1 : (Utf8.decode s 0).1 = 65533 := by
      rw [g0'] at hb
      rw [Lib.decode_at] at hb ⊢
      exact decodeN_bad _ _ _ _ _ hb.1 (by omega)
    rw [h1, hb.1]
    exact ⟨rfl, rfl⟩
  · rw [if_neg hb]
    refine ⟨?_, rfl⟩
    rw [show ltI (((Utf8.decode s 0).1 : Nat) : Int) 0 = false by rw [ltI_false]; omega]; rfl
theorem V151_l1 : ∀ (n : Nat) (s : ByteArray) (l : List Int), s.size ≤ n → (l.length + s.size) * 8 ≤ 140737488355328 → Ev (fun k => F151_l1 k (s, l)) (l ++ ofN (runes s))
  | n, s, l, hn, hl => by
    refine Ev.succ (fun k => by rw [F151_l1]) (Ev.cond (fun hc => ?_) fun hc => ?_)
    · rw [ltI_iff] at hc
      have h0 : 0 < s.size := by omega
      obtain ⟨q1, q2⟩ := letter_rune s h0
      have d1 := dec_le s 0 h0
      have d3 := dec_pos s 0
      have hr := runes_cons s h0
      refine Ev.bind (T163 s h0) ?_
      generalize (Utf8.decode s 0).2 = w at q2 d1 d3 hr
      generalize (Utf8.decode s 0).1 = c at q1 hr
      have hl2 : ofN (runes s) = (c : Int) :: ofN (runes (s.extract w s.size)) := by rw [hr]; rfl
      rw [hl2]
      have hz : (s.extract w s.size).size = s.size - w := by rw [size_extract']; omega
      cases n with
      | zero => omega
      | succ n =>
        have next := V151_l1 n (s.extract w s.size) (l ++ [(c : Int)]) (by omega) (by rw [List.length_append, List.length_singleton]; omega)
        rw [List.append_assoc] at next
        have ha : ∀ x : Int, appOK 8 l.length [x].length = true := fun x => appOK_mk (by rw [List.length_singleton]; omega) (by rw [List.length_singleton]; omega)
        have hc' : cutOK (w : Int) (s.size : Int) s.size = true := cutOK_mk (by omega) (by omega) (by omega)
        generalize letter s = L at q1 q2 ⊢
        obtain ⟨a, b⟩ := L
        simp only at q1 q2
        subst q2
        refine Ev.congr (g := fun k => F151_l1 k (s.extract w s.size, l ++ [(c : Int)])) (fun k => ?_) next
        cases hb : ltI a 0 with
        | true =>
          rw [hb, cond_true] at q1
          simp only [hb, cond_true]
          rw [ha, hc', Int.toNat_natCast, Int.toNat_natCast, q1]; rfl
        | false =>
          rw [hb, cond_false] at q1
          subst q1
          simp only [hb, cond_false]
          rw [ha, hc', Int.toNat_natCast, Int.toNat_natCast]; rfl
    · rw [ltI_false] at hc
      rw [runes_nil s (by omega)]
      exact Ev.of fun _ => by simp [ofN]
theorem V151 (s : ByteArray) (h : s.size ≤ 1000000000000) : Ev (fun k => F151 k s) (ofN (runes s)) :=
  Ev.bind (V151_l1 s.size s [] (Nat.le_refl _) (by simp; omega)) (Ev.of fun _ => by simp)
theorem runes_len (s : ByteArray) : (runes s).length ≤ s.size := by
  have : ∀ n i, (runesFrom s n i).length ≤ s.size - i := fun n => by
    induction n with
    | zero => intro i; simp [runesFrom]
    | succ n ih =>
      intro i
      rw [runesFrom]
      split
      · have := ih (i + (Utf8.decode s i).2)
        have := dec_pos s i
        rw [List.length_cons]; omega
      · simp
  have := this s.size 0
  unfold runes; omega
/-- The document's Compare. -/
theorem V119 (a b : ByteArray) (ha : a.size ≤ 1000000000000) (hb : b.size ≤ 1000000000000) : Ev (fun k => F119 k a b) (cmpK a b) := by
  refine Ev.bind (V151 a ha) (Ev.bind (V151 b hb) ?_)
  have la := runes_len a
  have lb := runes_len b
  unfold cmpK
  generalize runes a = x at la ⊢
  generalize runes b = y at lb ⊢
  have key : ∀ (m i : Nat), x.length - i ≤ m → i ≤ x.length → i ≤ y.length → Ev (fun k => (F119_l1 (ofN x) (ofN y) k (i : Int)).bind fun t => t.go fun _ => bif (ltI ((ofN x).length : Int) ((ofN y).length : Int)) then (some (-1)) else (bif (ltI ((ofN y).length : Int) ((ofN x).length : Int)) then (some 1) else (some 0))) (cmpL (x.drop i) (y.drop i)) := fun m => by
    induction m with
    | zero =>
      intro i hi h1 h2
      refine Ev.from 1 fun k => ?_
      show Option.bind (F119_l1 (ofN x) (ofN y) (k + 1) (i : Int)) _ = _
      rw [F119_l1, ofN_len, ofN_len, ltI_nat, decide_eq_false (by omega), Bool.false_and]
      show (bif ltI (x.length : Int) (y.length : Int) then some (-1) else bif ltI (y.length : Int) (x.length : Int) then some 1 else some 0) = _
      rw [List.drop_of_length_le (by omega : x.length ≤ i), ltI_nat, ltI_nat]
      by_cases hy : y.length = i
      · rw [List.drop_of_length_le (by omega : y.length ≤ i), decide_eq_false (by omega), decide_eq_false (by omega)]; rfl
      · rw [List.drop_eq_getElem_cons (by omega : i < y.length), decide_eq_true (by omega)]; rfl
    | succ m ih =>
      intro i hi h1 h2
      by_cases hx : i < x.length
      · by_cases hy : i < y.length
        · refine Ev.succ (g := fun k => (bif ltI ((x[i] : Nat) : Int) ((y[i] : Nat) : Int) then some (LR.ret (-1)) else bif ltI ((y[i] : Nat) : Int) ((x[i] : Nat) : Int) then some (LR.ret 1) else F119_l1 (ofN x) (ofN y) k ((i + 1 : Nat) : Int)).bind fun t => t.go fun _ => bif (ltI ((ofN x).length : Int) ((ofN y).length : Int)) then (some (-1)) else (bif (ltI ((ofN y).length : Int) ((ofN x).length : Int)) then (some 1) else (some 0))) (fun k => ?_) ?_
          · rw [F119_l1, ofN_rd _ _ hx, ofN_rd _ _ hy, ofN_len, ofN_len, ltI_nat, ltI_nat, decide_eq_true hx, decide_eq_true hy, inR_mk hx, inR_mk hy, i64z (by omega)]; rfl
          · rw [List.drop_eq_getElem_cons hx, List.drop_eq_getElem_cons hy, cmpL, ltI_nat, ltI_nat]
            have := ih (i + 1) (by omega) (by omega) (by omega)
            by_cases c1 : x[i] < y[i]
            · rw [if_pos c1, decide_eq_true c1]; exact Ev.of fun _ => rfl
            · rw [if_neg c1, decide_eq_false c1]
              by_cases c2 : y[i] < x[i]
              · rw [if_pos c2, decide_eq_true c2]; exact Ev.of fun _ => rfl
              · rw [if_neg c2, decide_eq_false c2]; exact this
        · refine Ev.from 1 fun k => ?_
          show Option.bind (F119_l1 (ofN x) (ofN y) (k + 1) (i : Int)) _ = _
          rw [F119_l1, ofN_len, ofN_len, ltI_nat, ltI_nat, decide_eq_true hx, decide_eq_false hy]
          show (bif ltI (x.length : Int) (y.length : Int) then some (-1) else bif ltI (y.length : Int) (x.length : Int) then some 1 else some 0) = _
          rw [List.drop_of_length_le (by omega : y.length ≤ i), List.drop_eq_getElem_cons hx, ltI_nat, ltI_nat, decide_eq_false (by omega), decide_eq_true (by omega)]; rfl
      · exact ih i (by omega) h1 h2
  exact key x.length 0 (by omega) (by omega) (by omega)
theorem cmpI_lt (a b : Int) : cmpI a b = if a < b then -1 else if b < a then 1 else 0 := by
  unfold cmpI
  by_cases h1 : a < b
  · rw [if_pos h1, ltI_iff.2 h1]; rfl
  · rw [if_neg h1, ltI_false.2 (by omega)]
    by_cases h2 : b < a
    · rw [if_pos h2, ltI_iff.2 h2]; rfl
    · rw [if_neg h2, ltI_false.2 (by omega)]; rfl
/-- Earlier. -/
def befS (s t : Stamp) : Prop := s.mWall < t.mWall ∨ (s.mWall = t.mWall ∧ (s.mTick < t.mTick ∨ (s.mTick = t.mTick ∧ s.mNode < t.mNode)))
theorem cmpS_lt (s t : Stamp) : cmpS s t < 0 ↔ befS s t := by
  unfold cmpS or3 befS
  rw [cmpI_lt, cmpI_lt, cmpI_lt]
  repeat' split
  all_goals (simp [eqI]; try omega)
end Go.Proofs.Gd
