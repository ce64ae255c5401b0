import Derived.Test.YthhpelmjnmlgjaaGreatDoorGtWalk2
set_option linter.unusedVariables false
set_option maxRecDepth 100000
set_option maxHeartbeats 4000000
namespace Go.Proofs.Gd
open Go Go.Awp Go.Proofs
theorem s21 (k : Nat) (t0 : Shard) (r : Bool) (h : F21 k t0 = some r) : Awp.Spec Tryz.prog amb 21 [(.agg (eShard t0))] (.ds [(.s (.bool r))]) := by
 rw [F21] at h
 refine spec_of Tryz.func21 rfl (ble _ _ rfl) fun w0 ok0 lt0 hA => ?_
 refine sr ?_
 refine sT 1 (.d (.dp (eShard t0))) rfl (v_box_d (cs := (eShard t0)) rfl · · · rfl rfl (ones_of rfl)) ?_
 refine sM 2 (bV false) rfl rfl ?_
 refine sq_nil ?_
 refine ht_seq ?_
 refine sr ?_
 refine sT 4 (.d (.dp (eShard t0))) rfl (v_field_dp (a0 := 0) (cs := (eShard t0)) rfl · · · fo45_0 rfl) ?_
 refine sT 5 (iV t0.mID) rfl (v_load_dp1 rfl · · · onT3 rfl rfl) ?_
 obtain ⟨t6, c1, h⟩ := bpos h
 refine sT 6 (bV t6) rfl (w_call (ds := [(.s (.int .i64 t0.mID))]) (caps := []) (l := [(.s (.bool t6))]) (s66 k t0.mID _ c1) rfl rfl rfl en66 · · · (.inl ⟨rfl, rfl⟩) rfl rfl) ?_
 refine sT 7 (bV (!t6)) rfl (v_un rfl · · · rfl (u_not rfl)) ?_
 refine sM 8 (bV (!t6)) rfl rfl ?_
 refine sF 9 (.d (.dp (List.drop 1 (eShard t0)))) rfl rfl (fun e2 => (v_field_dp (a0 := 1) (cs := (eShard t0)) rfl · · · fo45_1 rfl)) ?_
 refine sF 10 (iV t0.mEpoch) rfl rfl (fun e3 => (v_load_dp1 rfl · · · onT3 (gv (nF e3)) rfl)) ?_
 obtain ⟨t11, c5, h⟩ := bpos h
 refine sF 11 (bV t11) rfl rfl (fun e4 => (w_call (ds := [(.s (.int .i64 t0.mEpoch))]) (caps := []) (l := [(.s (.bool t11))]) (s66 k t0.mEpoch _ (cpos (nF e4) c5)) rfl rfl rfl en66 · · · (.inl ⟨rfl, rfl⟩) (cc (gv (nF e4)) rfl) rfl)) ?_
 refine sF 12 (bV (!t11)) rfl rfl (fun e6 => (v_un rfl · · · (gv (nF e6)) (u_not rfl))) ?_
 refine sT 13 (bV ((!t6) || (!t11))) rfl (v_pickB rfl · · · rfl (fun e7 => rfl) (fun e8 => (gv (nF e8))) (pO _ _)) ?_
 refine sM 14 (bV ((!t6) || (!t11))) rfl rfl ?_
 refine sF 15 (.d (.dp (List.drop 13 (eShard t0)))) rfl rfl (fun e9 => (v_field_dp (a0 := 13) (cs := (eShard t0)) rfl · · · fo45_8 rfl)) ?_
 refine sF 16 (iV t0.mHold) rfl rfl (fun e10 => (v_load_dp1 rfl · · · onT3 (gv (nF e10)) rfl)) ?_
 obtain ⟨t17, c12, h⟩ := bpos h
 refine sF 17 (bV t17) rfl rfl (fun e11 => (w_call (ds := [(.s (.int .i64 t0.mHold))]) (caps := []) (l := [(.s (.bool t17))]) (s67 k t0.mHold _ (cpos (nF e11) c12)) rfl rfl rfl en67 · · · (.inl ⟨rfl, rfl⟩) (cc (gv (nF e11)) rfl) rfl)) ?_
 refine sF 18 (bV (!t17)) rfl rfl (fun e13 => (v_un rfl · · · (gv (nF e13)) (u_not rfl))) ?_
 refine sT 19 (bV (((!t6) || (!t11)) || (!t17))) rfl (v_pickB rfl · · · rfl (fun e14 => rfl) (fun e15 => (gv (nF e15))) (pO _ _)) ?_
 refine sM 20 (bV (((!t6) || (!t11)) || (!t17))) rfl rfl ?_
 refine sF 21 (.d (.dp (List.drop 14 (eShard t0)))) rfl rfl (fun e16 => (v_field_dp (a0 := 14) (cs := (eShard t0)) rfl · · · fo45_9 rfl)) ?_
 refine sF 22 (iV t0.mSeen) rfl rfl (fun e17 => (v_load_dp1 rfl · · · onT3 (gv (nF e17)) rfl)) ?_
 obtain ⟨t23, c19, h⟩ := bpos h
 refine sF 23 (bV t23) rfl rfl (fun e18 => (w_call (ds := [(.s (.int .i64 t0.mSeen))]) (caps := []) (l := [(.s (.bool t23))]) (s67 k t0.mSeen _ (cpos (nF e18) c19)) rfl rfl rfl en67 · · · (.inl ⟨rfl, rfl⟩) (cc (gv (nF e18)) rfl) rfl)) ?_
 refine sF 24 (bV (!t23)) rfl rfl (fun e20 => (v_un rfl · · · (gv (nF e20)) (u_not rfl))) ?_
 refine sT 25 (bV ((((!t6) || (!t11)) || (!t17)) || (!t23))) rfl (v_pickB rfl · · · rfl (fun e21 => rfl) (fun e22 => (gv (nF e22))) (pO _ _)) ?_
 refine sM 26 (bV ((((!t6) || (!t11)) || (!t17)) || (!t23))) rfl rfl ?_
 refine sF 27 (.d (.dp (List.drop 15 (eShard t0)))) rfl rfl (fun e23 => (v_field_dp (a0 := 15) (cs := (eShard t0)) rfl · · · fo45_10 rfl)) ?_
 refine sF 28 (iV t0.mMove) rfl rfl (fun e24 => (v_load_dp1 rfl · · · onT3 (gv (nF e24)) rfl)) ?_
 obtain ⟨t29, c26, h⟩ := bpos h
 refine sF 29 (bV t29) rfl rfl (fun e25 => (w_call (ds := [(.s (.int .i64 t0.mMove))]) (caps := []) (l := [(.s (.bool t29))]) (s67 k t0.mMove _ (cpos (nF e25) c26)) rfl rfl rfl en67 · · · (.inl ⟨rfl, rfl⟩) (cc (gv (nF e25)) rfl) rfl)) ?_
 refine sF 30 (bV (!t29)) rfl rfl (fun e27 => (v_un rfl · · · (gv (nF e27)) (u_not rfl))) ?_
 refine sT 31 (bV (((((!t6) || (!t11)) || (!t17)) || (!t23)) || (!t29))) rfl (v_pickB rfl · · · rfl (fun e28 => rfl) (fun e29 => (gv (nF e29))) (pO _ _)) ?_
 refine sM 32 (bV (((((!t6) || (!t11)) || (!t17)) || (!t23)) || (!t29))) rfl rfl ?_
 refine sF 33 (.d (.dp (List.drop 16 (eShard t0)))) rfl rfl (fun e30 => (v_field_dp (a0 := 16) (cs := (eShard t0)) rfl · · · fo45_11 rfl)) ?_
 refine sF 34 (iV t0.mClosed) rfl rfl (fun e31 => (v_load_dp1 rfl · · · onT3 (gv (nF e31)) rfl)) ?_
 obtain ⟨t35, c33, h⟩ := bpos h
 refine sF 35 (bV t35) rfl rfl (fun e32 => (w_call (ds := [(.s (.int .i64 t0.mClosed))]) (caps := []) (l := [(.s (.bool t35))]) (s67 k t0.mClosed _ (cpos (nF e32) c33)) rfl rfl rfl en67 · · · (.inl ⟨rfl, rfl⟩) (cc (gv (nF e32)) rfl) rfl)) ?_
 refine sF 36 (bV (!t35)) rfl rfl (fun e34 => (v_un rfl · · · (gv (nF e34)) (u_not rfl))) ?_
 refine sT 37 (bV ((((((!t6) || (!t11)) || (!t17)) || (!t23)) || (!t29)) || (!t35))) rfl (v_pickB rfl · · · rfl (fun e35 => rfl) (fun e36 => (gv (nF e36))) (pO _ _)) ?_
 refine sq_nil ?_
 refine ht_cond rfl (fun e37 => ?_) (fun e37 => ?_)
 ·replace h := cpos e37 h
  refine sr ?_
  refine sM 2 (bV false) rfl rfl ?_
  refine sq_nil ?_
  refine ht_ret ?_
  cases h
  exact ret1 rfl (.tmp rfl)
 replace h := cneg e37 h
 refine ht_skip ?_
 refine ht_seq ?_
 refine sr ?_
 refine sT 38 (.d (.dp (List.drop 4 (eShard t0)))) rfl (v_field_dp (a0 := 4) (cs := (eShard t0)) rfl · · · fo45_3 rfl) ?_
 refine sT 39 (iV t0.mPhase) rfl (v_load_dp1 rfl · · · onT3 rfl rfl) ?_
 refine sT 40 (bV (!eqI t0.mPhase 1)) rfl (v_bin rfl · · · rfl rfl (b_neq rfl)) ?_
 refine sM 41 (bV (!eqI t0.mPhase 1)) rfl rfl ?_
 refine sG 42 (.d (.dp (List.drop 4 (eShard t0)))) rfl rfl (fun e38 => (v_field_dp (a0 := 4) (cs := (eShard t0)) rfl · · · fo45_3 rfl)) ?_
 refine sG 43 (iV t0.mPhase) rfl rfl (fun e39 => (v_load_dp1 rfl · · · onT3 (gv e39) rfl)) ?_
 refine sG 44 (bV (!eqI t0.mPhase 2)) rfl rfl (fun e40 => (v_bin rfl · · · (gv e40) rfl (b_neq rfl))) ?_
 refine sT 45 (bV ((!eqI t0.mPhase 1) && (!eqI t0.mPhase 2))) rfl (v_pickB rfl · · · rfl (fun e41 => (gv e41)) (fun e42 => rfl) (pA _ _)) ?_
 refine sM 46 (bV ((!eqI t0.mPhase 1) && (!eqI t0.mPhase 2))) rfl rfl ?_
 refine sG 47 (.d (.dp (List.drop 4 (eShard t0)))) rfl rfl (fun e43 => (v_field_dp (a0 := 4) (cs := (eShard t0)) rfl · · · fo45_3 rfl)) ?_
 refine sG 48 (iV t0.mPhase) rfl rfl (fun e44 => (v_load_dp1 rfl · · · onT3 (gv e44) rfl)) ?_
 refine sG 49 (bV (!eqI t0.mPhase 3)) rfl rfl (fun e45 => (v_bin rfl · · · (gv e45) rfl (b_neq rfl))) ?_
 refine sT 50 (bV (((!eqI t0.mPhase 1) && (!eqI t0.mPhase 2)) && (!eqI t0.mPhase 3))) rfl (v_pickB rfl · · · rfl (fun e46 => (gv e46)) (fun e47 => rfl) (pA _ _)) ?_
 refine sM 51 (bV (((!eqI t0.mPhase 1) && (!eqI t0.mPhase 2)) && (!eqI t0.mPhase 3))) rfl rfl ?_
 refine sF 52 (.d (.dp (List.drop 2 (eShard t0)))) rfl rfl (fun e48 => (v_field_dp (a0 := 2) (cs := (eShard t0)) rfl · · · fo45_2 rfl)) ?_
 refine sF 53 (.d (.agg (eSpan t0.mSpan))) rfl rfl (fun e49 => (w_ldp (List.drop 2 (eShard t0)) (eSpan t0.mSpan) rfl · · · ag41 (gv (nF e49)) (ble _ _ rfl) rfl)) ?_
 obtain ⟨t54, c51, h⟩ := bpos h
 refine sF 54 (bV t54) rfl rfl (fun e50 => (w_call (ds := [(.agg (eSpan t0.mSpan))]) (caps := []) (l := [(.s (.bool t54))]) (s85 k t0.mSpan _ (cpos (nF e50) c51)) rfl rfl rfl en85 · · · (.inl ⟨rfl, rfl⟩) (cc (gv (nF e50)) rfl) rfl)) ?_
 refine sF 55 (bV (!t54)) rfl rfl (fun e52 => (v_un rfl · · · (gv (nF e52)) (u_not rfl))) ?_
 refine sT 56 (bV ((((!eqI t0.mPhase 1) && (!eqI t0.mPhase 2)) && (!eqI t0.mPhase 3)) || (!t54))) rfl (v_pickB rfl · · · rfl (fun e53 => rfl) (fun e54 => (gv (nF e54))) (pO _ _)) ?_
 refine sM 57 (bV ((((!eqI t0.mPhase 1) && (!eqI t0.mPhase 2)) && (!eqI t0.mPhase 3)) || (!t54))) rfl rfl ?_
 refine sF 58 (.d (.dp (List.drop 5 (eShard t0)))) rfl rfl (fun e55 => (v_field_dp (a0 := 5) (cs := (eShard t0)) rfl · · · fo45_4 rfl)) ?_
 refine sF 59 (.d (.sl 2 (t0.mEntries.map eEntry))) rfl rfl (fun e56 => (v_load_dp1 rfl · · · onT42 (gv (nF e56)) rfl)) ?_
 obtain ⟨t60, c58, h⟩ := bpos h
 refine sF 60 (bV t60) rfl rfl (fun e57 => (w_call (ds := [(.sl 2 (t0.mEntries.map eEntry))]) (caps := []) (l := [(.s (.bool t60))]) (s86 k t0.mEntries _ (cpos (nF e57) c58)) rfl rfl rfl en86 · · · (.inl ⟨rfl, rfl⟩) (cc (gv (nF e57)) rfl) rfl)) ?_
 refine sF 61 (bV (!t60)) rfl rfl (fun e59 => (v_un rfl · · · (gv (nF e59)) (u_not rfl))) ?_
 refine sT 62 (bV (((((!eqI t0.mPhase 1) && (!eqI t0.mPhase 2)) && (!eqI t0.mPhase 3)) || (!t54)) || (!t60))) rfl (v_pickB rfl · · · rfl (fun e60 => rfl) (fun e61 => (gv (nF e61))) (pO _ _)) ?_
 refine sM 63 (bV (((((!eqI t0.mPhase 1) && (!eqI t0.mPhase 2)) && (!eqI t0.mPhase 3)) || (!t54)) || (!t60))) rfl rfl ?_
 refine sF 64 (.d (.dp (List.drop 6 (eShard t0)))) rfl rfl (fun e62 => (v_field_dp (a0 := 6) (cs := (eShard t0)) rfl · · · fo45_5 rfl)) ?_
 refine sF 65 (.d (.agg (eStamp t0.mMark))) rfl rfl (fun e63 => (w_ldp (List.drop 6 (eShard t0)) (eStamp t0.mMark) rfl · · · ag24 (gv (nF e63)) (ble _ _ rfl) rfl)) ?_
 obtain ⟨t66, c65, h⟩ := bpos h
 refine sF 66 (bV t66) rfl rfl (fun e64 => (w_call (ds := [(.agg (eStamp t0.mMark))]) (caps := []) (l := [(.s (.bool t66))]) (s68 k t0.mMark _ (cpos (nF e64) c65)) rfl rfl rfl en68 · · · (.inl ⟨rfl, rfl⟩) (cc (gv (nF e64)) rfl) rfl)) ?_
 refine sF 67 (bV (!t66)) rfl rfl (fun e66 => (v_un rfl · · · (gv (nF e66)) (u_not rfl))) ?_
 refine sT 68 (bV ((((((!eqI t0.mPhase 1) && (!eqI t0.mPhase 2)) && (!eqI t0.mPhase 3)) || (!t54)) || (!t60)) || (!t66))) rfl (v_pickB rfl · · · rfl (fun e67 => rfl) (fun e68 => (gv (nF e68))) (pO _ _)) ?_
 refine sM 69 (bV ((((((!eqI t0.mPhase 1) && (!eqI t0.mPhase 2)) && (!eqI t0.mPhase 3)) || (!t54)) || (!t60)) || (!t66))) rfl rfl ?_
 refine sF 70 (.d (.dp (List.drop 9 (eShard t0)))) rfl rfl (fun e69 => (v_field_dp (a0 := 9) (cs := (eShard t0)) rfl · · · fo45_6 rfl)) ?_
 refine sF 71 (.d (.agg (eStamp t0.mTop))) rfl rfl (fun e70 => (w_ldp (List.drop 9 (eShard t0)) (eStamp t0.mTop) rfl · · · ag24 (gv (nF e70)) (ble _ _ rfl) rfl)) ?_
 obtain ⟨t72, c72, h⟩ := bpos h
 refine sF 72 (bV t72) rfl rfl (fun e71 => (w_call (ds := [(.agg (eStamp t0.mTop))]) (caps := []) (l := [(.s (.bool t72))]) (s68 k t0.mTop _ (cpos (nF e71) c72)) rfl rfl rfl en68 · · · (.inl ⟨rfl, rfl⟩) (cc (gv (nF e71)) rfl) rfl)) ?_
 refine sF 73 (bV (!t72)) rfl rfl (fun e73 => (v_un rfl · · · (gv (nF e73)) (u_not rfl))) ?_
 refine sT 74 (bV (((((((!eqI t0.mPhase 1) && (!eqI t0.mPhase 2)) && (!eqI t0.mPhase 3)) || (!t54)) || (!t60)) || (!t66)) || (!t72))) rfl (v_pickB rfl · · · rfl (fun e74 => rfl) (fun e75 => (gv (nF e75))) (pO _ _)) ?_
 refine sM 75 (bV (((((((!eqI t0.mPhase 1) && (!eqI t0.mPhase 2)) && (!eqI t0.mPhase 3)) || (!t54)) || (!t60)) || (!t66)) || (!t72))) rfl rfl ?_
 refine sF 76 (.d (.dp (List.drop 12 (eShard t0)))) rfl rfl (fun e76 => (v_field_dp (a0 := 12) (cs := (eShard t0)) rfl · · · fo45_7 rfl)) ?_
 refine sF 77 (.d (.sl 11 (t0.mDone.map eDone))) rfl rfl (fun e77 => (v_load_dp1 rfl · · · onT43 (gv (nF e77)) rfl)) ?_
 obtain ⟨t78, c79, h⟩ := bpos h
 refine sF 78 (bV t78) rfl rfl (fun e78 => (w_call (ds := [(.sl 11 (t0.mDone.map eDone))]) (caps := []) (l := [(.s (.bool t78))]) (s87 k t0.mDone _ (cpos (nF e78) c79)) rfl rfl rfl en87 · · · (.inl ⟨rfl, rfl⟩) (cc (gv (nF e78)) rfl) rfl)) ?_
 refine sF 79 (bV (!t78)) rfl rfl (fun e80 => (v_un rfl · · · (gv (nF e80)) (u_not rfl))) ?_
 refine sT 80 (bV ((((((((!eqI t0.mPhase 1) && (!eqI t0.mPhase 2)) && (!eqI t0.mPhase 3)) || (!t54)) || (!t60)) || (!t66)) || (!t72)) || (!t78))) rfl (v_pickB rfl · · · rfl (fun e81 => rfl) (fun e82 => (gv (nF e82))) (pO _ _)) ?_
 refine sq_nil ?_
 refine ht_cond rfl (fun e83 => ?_) (fun e83 => ?_)
 ·replace h := cpos e83 h
  refine sr ?_
  refine sM 2 (bV false) rfl rfl ?_
  refine sq_nil ?_
  refine ht_ret ?_
  cases h
  exact ret1 rfl (.tmp rfl)
 replace h := cneg e83 h
 refine ht_skip ?_
 refine ht_gj (go_id' h) (fun _ => tell []) (fun _ h => ?_) (fun v84 K85 h j87 r88 => ?_)
 ·refine sr ?_
  refine sM 2 (bV true) rfl rfl ?_
  refine sq_nil ?_
  refine ht_ret ?_
  cases h
  exact ret1 rfl (.tmp rfl)
 refine sr ?_
 refine sM 3 (iV 0) rfl rfl ?_
 refine sq_nil ?_
 refine ht_block ?_
 refine ht_rd h (fun _ => rfl) (fun t3 => tell [(.t 1, .d (.dp (eShard t0))), (.t 3, iV t3)]) (wk_ren _ (fun i => i) rfl ⟨rfl, rfl, trivial⟩) fun k t3 h K96 j90 => ?_
 rw [F21_l1] at h
 refine ht_seq ?_
 refine sr ?_
 refine sM 81 (iV t3) rfl rfl ?_
 refine sT 82 (.d (.dp (List.drop 5 (eShard t0)))) rfl (v_field_dp (a0 := 5) (cs := (eShard t0)) rfl · · · fo45_4 rfl) ?_
 refine sT 83 (.d (.sl 2 (t0.mEntries.map eEntry))) rfl (v_load_dp1 rfl · · · onT42 rfl rfl) ?_
 refine sT 84 (iV (t0.mEntries.length : Int)) rfl (w_len t0.mEntries eEntry rfl rfl · · · slT42 rfl) ?_
 refine sT 85 (bV (ltI t3 (t0.mEntries.length : Int))) rfl (v_bin rfl · · · rfl rfl (b_lss rfl)) ?_
 refine sq_nil ?_
 refine ht_cond rfl (fun e92 => ?_) (fun e92 => ?_)
 ·replace h := cpos e92 h
  refine ht_skip ?_
  refine ht_seq ?_
  refine ht_block ?_
  refine ht_seq ?_
  refine ht_region_draw mixed ?_
  refine rT 88 (.d (.dp (List.drop 2 (eShard t0)))) rfl (v_field_dp (a0 := 2) (cs := (eShard t0)) rfl · · · fo45_2 rfl) ?_
  refine rT 89 (.d (.agg (eSpan t0.mSpan))) rfl (w_ldp (List.drop 2 (eShard t0)) (eSpan t0.mSpan) rfl · · · ag41 rfl (ble _ _ rfl) rfl) ?_
  refine rT 90 (.d (.dp (List.drop 5 (eShard t0)))) rfl (v_field_dp (a0 := 5) (cs := (eShard t0)) rfl · · · fo45_4 rfl) ?_
  refine rT 91 (.d (.sl 2 (t0.mEntries.map eEntry))) rfl (v_load_dp1 rfl · · · onT42 rfl rfl) ?_
  refine rM 92 (iV t3) rfl rfl ?_
  obtain ⟨e93, h⟩ := gpos h
  refine rT 93 (.d (.dp (eEntry (rd t0.mEntries t3)))) rfl (w_idx t0.mEntries eEntry rfl · · · slT42 rfl rfl e93) ?_
  refine rT 94 (.d (.dp (eEntry (rd t0.mEntries t3)))) rfl (v_field_dp (a0 := 0) (cs := (eEntry (rd t0.mEntries t3))) rfl · · · fo116_0 rfl) ?_
  refine rT 95 (sV (rd t0.mEntries t3).mKey) rfl (v_load_dp1 rfl · · · onT9 rfl rfl) ?_
  obtain ⟨t96, c94, h⟩ := bpos h
  refine rT 96 (bV t96) rfl (w_call (ds := [(.agg (eSpan t0.mSpan)), (.s (.string (rd t0.mEntries t3).mKey))]) (caps := []) (l := [(.s (.bool t96))]) (s88 k t0.mSpan (rd t0.mEntries t3).mKey _ c94) rfl rfl rfl en88 · · · (.inl ⟨rfl, rfl⟩) rfl rfl) ?_
  refine rT 97 (bV (!t96)) rfl (v_un rfl · · · rfl (u_not rfl)) ?_
  refine rg_nil ⟨by kernel_rfl, ?_⟩
  refine ht_cond rfl (fun e95 => ?_) (fun e95 => ?_)
  ·replace h := cpos e95 h
   refine sr ?_
   refine sM 2 (bV false) rfl rfl ?_
   refine sq_nil ?_
   refine ht_ret ?_
   cases h
   cases r88 _ rfl
   exact ret1 rfl (.tmp rfl)
  replace h := cneg e95 h
  refine ht_skip ?_
  refine ht_region ?_
  refine sM 86 (iV t3) rfl rfl ?_
  refine sT 87 (iV (IntKind.wrap .i64 (t3 + 1))) rfl (v_bin rfl · · · rfl rfl (b_add rfl)) ?_
  refine sM 3 (iV (IntKind.wrap .i64 (t3 + 1))) rfl rfl ?_
  refine sq_nil ?_
  exact j90 _ _ h (wk_ren _ (fun i => i) rfl ⟨rfl, rfl, trivial⟩)
 replace h := cneg e92 h
 refine ht_exit ?_
 refine tq ?_
 refine tq ?_
 refine bq_hit ?_
 cases h
 exact j87 _ _ rfl (wk_ren _ (fun i => i) rfl trivial)
theorem s89 (k : Nat) (t0 : Shard) (t1 : Stamp) (r : Bool) (h : F89 k t0 t1 = some r) : Awp.Spec Tryz.prog amb 89 [(.agg (eShard t0)), (.agg (eStamp t1))] (.ds [(.s (.bool r))]) := by
 rw [F89] at h
 refine spec_of Tryz.func89 rfl (ble _ _ rfl) fun w0 ok0 lt0 hA => ?_
 refine sr ?_
 refine sT 2 (.d (.dp (eShard t0))) rfl (v_box_d (cs := (eShard t0)) rfl · · · rfl rfl (ones_of rfl)) ?_
 refine sT 3 (.d (.dp (eStamp t1))) rfl (v_box_d (cs := (eStamp t1)) rfl · · · rfl rfl (ones_of rfl)) ?_
 refine sM 4 (bV false) rfl rfl ?_
 refine sq_nil ?_
 refine ht_gj (go_id' h) (fun _ => tell []) (fun _ h => ?_) (fun v1 K2 h j4 r5 => ?_)
 ·refine sr ?_
  refine sM 4 (bV true) rfl rfl ?_
  refine sq_nil ?_
  refine ht_ret ?_
  cases h
  exact ret1 rfl (.tmp rfl)
 refine sr ?_
 refine sM 5 (iV 0) rfl rfl ?_
 refine sq_nil ?_
 refine ht_block ?_
 refine ht_rd h (fun _ => rfl) (fun t5 => tell [(.t 2, .d (.dp (eShard t0))), (.t 3, .d (.dp (eStamp t1))), (.t 5, iV t5)]) (wk_ren _ (fun i => i) rfl ⟨rfl, rfl, rfl, trivial⟩) fun k t5 h K25 j7 => ?_
 rw [F89_l1] at h
 refine ht_seq ?_
 refine sr ?_
 refine sM 7 (iV t5) rfl rfl ?_
 refine sT 8 (.d (.dp (List.drop 5 (eShard t0)))) rfl (v_field_dp (a0 := 5) (cs := (eShard t0)) rfl · · · fo45_4 rfl) ?_
 refine sT 9 (.d (.sl 2 (t0.mEntries.map eEntry))) rfl (v_load_dp1 rfl · · · onT42 rfl rfl) ?_
 refine sT 10 (iV (t0.mEntries.length : Int)) rfl (w_len t0.mEntries eEntry rfl rfl · · · slT42 rfl) ?_
 refine sT 11 (bV (ltI t5 (t0.mEntries.length : Int))) rfl (v_bin rfl · · · rfl rfl (b_lss rfl)) ?_
 refine sq_nil ?_
 refine ht_cond rfl (fun e9 => ?_) (fun e9 => ?_)
 ·replace h := cpos e9 h
  refine ht_skip ?_
  refine ht_gj h (fun _ => tell [(.t 2, .d (.dp (eShard t0))), (.t 3, .d (.dp (eStamp t1))), (.t 5, iV t5)]) (fun _ h => ?_) (fun v10 K11 h j13 r14 => ?_)
  ·refine ht_region ?_
   refine sM 12 (iV t5) rfl rfl ?_
   refine sT 13 (iV (IntKind.wrap .i64 (t5 + 1))) rfl (v_bin rfl · · · rfl rfl (b_add rfl)) ?_
   refine sM 5 (iV (IntKind.wrap .i64 (t5 + 1))) rfl rfl ?_
   refine sq_nil ?_
   exact j7 _ _ h (wk_ren _ (fun i => i) rfl ⟨rfl, rfl, rfl, trivial⟩)
  refine ht_block ?_
  refine sr ?_
  refine sM 6 (iV 0) rfl rfl ?_
  refine sq_nil ?_
  refine ht_block ?_
  refine ht_rd h (fun _ => rfl) (fun t6 => tell [(.t 2, .d (.dp (eShard t0))), (.t 3, .d (.dp (eStamp t1))), (.t 5, iV t5), (.t 6, iV t6)]) (wk_ren _ (fun i => i) rfl ⟨rfl, rfl, rfl, rfl, trivial⟩) fun k t6 h K24 j16 => ?_
  rw [F89_l2] at h
  refine ht_seq ?_
  refine sr ?_
  refine sM 14 (iV t6) rfl rfl ?_
  refine sT 15 (.d (.dp (List.drop 5 (eShard t0)))) rfl (v_field_dp (a0 := 5) (cs := (eShard t0)) rfl · · · fo45_4 rfl) ?_
  refine sT 16 (.d (.sl 2 (t0.mEntries.map eEntry))) rfl (v_load_dp1 rfl · · · onT42 rfl rfl) ?_
  refine sM 17 (iV t5) rfl rfl ?_
  obtain ⟨e18, h⟩ := gpos h
  refine sT 18 (.d (.dp (eEntry (rd t0.mEntries t5)))) rfl (w_idx t0.mEntries eEntry rfl · · · slT42 rfl rfl e18) ?_
  refine sT 19 (.d (.dp (List.drop 1 (eEntry (rd t0.mEntries t5))))) rfl (v_field_dp (a0 := 1) (cs := (eEntry (rd t0.mEntries t5))) rfl · · · fo116_1 rfl) ?_
  refine sT 20 (.d (.sl 5 ((rd t0.mEntries t5).mChain.map eVersion))) rfl (v_load_dp1 rfl · · · onT96 rfl rfl) ?_
  refine sT 21 (iV ((rd t0.mEntries t5).mChain.length : Int)) rfl (w_len (rd t0.mEntries t5).mChain eVersion rfl rfl · · · slT96 rfl) ?_
  refine sT 22 (bV (ltI t6 ((rd t0.mEntries t5).mChain.length : Int))) rfl (v_bin rfl · · · rfl rfl (b_lss rfl)) ?_
  refine sq_nil ?_
  refine ht_cond rfl (fun e19 => ?_) (fun e19 => ?_)
  ·replace h := cpos e19 h
   refine ht_skip ?_
   refine ht_seq ?_
   refine ht_block ?_
   refine ht_seq ?_
   refine ht_region_draw mixed ?_
   refine rT 25 (.d (.agg (eStamp t1))) rfl (w_ldp (eStamp t1) (eStamp t1) rfl · · · ag24 rfl (ble _ _ rfl) rfl) ?_
   refine rT 26 (.d (.dp (List.drop 5 (eShard t0)))) rfl (v_field_dp (a0 := 5) (cs := (eShard t0)) rfl · · · fo45_4 rfl) ?_
   refine rT 27 (.d (.sl 2 (t0.mEntries.map eEntry))) rfl (v_load_dp1 rfl · · · onT42 rfl rfl) ?_
   refine rM 28 (iV t5) rfl rfl ?_
   obtain ⟨e20, h⟩ := gpos h
   refine rT 29 (.d (.dp (eEntry (rd t0.mEntries t5)))) rfl (w_idx t0.mEntries eEntry rfl · · · slT42 rfl rfl e20) ?_
   refine rT 30 (.d (.dp (List.drop 1 (eEntry (rd t0.mEntries t5))))) rfl (v_field_dp (a0 := 1) (cs := (eEntry (rd t0.mEntries t5))) rfl · · · fo116_1 rfl) ?_
   refine rT 31 (.d (.sl 5 ((rd t0.mEntries t5).mChain.map eVersion))) rfl (v_load_dp1 rfl · · · onT96 rfl rfl) ?_
   refine rM 32 (iV t6) rfl rfl ?_
   obtain ⟨e21, h⟩ := gpos h
   refine rT 33 (.d (.dp (eVersion (rd (rd t0.mEntries t5).mChain t6)))) rfl (w_idx (rd t0.mEntries t5).mChain eVersion rfl · · · slT96 rfl rfl e21) ?_
   refine rT 34 (.d (.dp (eVersion (rd (rd t0.mEntries t5).mChain t6)))) rfl (v_field_dp (a0 := 0) (cs := (eVersion (rd (rd t0.mEntries t5).mChain t6))) rfl · · · fo93_0 rfl) ?_
   refine rT 35 (.d (.agg (eStamp (rd (rd t0.mEntries t5).mChain t6).mAt))) rfl (w_ldp (eVersion (rd (rd t0.mEntries t5).mChain t6)) (eStamp (rd (rd t0.mEntries t5).mChain t6).mAt) rfl · · · ag24 rfl (ble _ _ rfl) rfl) ?_
   obtain ⟨t36, c22, h⟩ := bpos h
   refine rT 36 (bV t36) rfl (w_call (ds := [(.agg (eStamp t1)), (.agg (eStamp (rd (rd t0.mEntries t5).mChain t6).mAt))]) (caps := []) (l := [(.s (.bool t36))]) (s76 k t1 (rd (rd t0.mEntries t5).mChain t6).mAt _ c22) rfl rfl rfl en76 · · · (.inl ⟨rfl, rfl⟩) rfl rfl) ?_
   refine rg_nil ⟨by kernel_rfl, ?_⟩
   refine ht_cond rfl (fun e23 => ?_) (fun e23 => ?_)
   ·replace h := cpos e23 h
    refine sr ?_
    refine sM 4 (bV false) rfl rfl ?_
    refine sq_nil ?_
    refine ht_ret ?_
    cases h
    cases r14 _ rfl
    cases r5 _ rfl
    exact ret1 rfl (.tmp rfl)
   replace h := cneg e23 h
   refine ht_skip ?_
   refine ht_region ?_
   refine sM 23 (iV t6) rfl rfl ?_
   refine sT 24 (iV (IntKind.wrap .i64 (t6 + 1))) rfl (v_bin rfl · · · rfl rfl (b_add rfl)) ?_
   refine sM 6 (iV (IntKind.wrap .i64 (t6 + 1))) rfl rfl ?_
   refine sq_nil ?_
   exact j16 _ _ h (wk_ren _ (fun i => i) rfl ⟨rfl, rfl, rfl, rfl, trivial⟩)
  replace h := cneg e19 h
  refine ht_exit ?_
  refine tq ?_
  refine tq ?_
  refine bq_hit ?_
  cases h
  exact j13 _ _ rfl (wk_ren _ (fun i => i) rfl ⟨rfl, rfl, rfl, trivial⟩)
 replace h := cneg e9 h
 refine ht_exit ?_
 refine tq ?_
 refine tq ?_
 refine bq_hit ?_
 cases h
 exact j4 _ _ rfl (wk_ren _ (fun i => i) rfl trivial)
theorem s22 (k : Nat) (t0 : Cell) (r : Bool) (h : F22 k t0 = some r) : Awp.Spec Tryz.prog amb 22 [(.agg (eCell t0))] (.ds [(.s (.bool r))]) := by
 rw [F22] at h
 refine spec_of Tryz.func22 rfl (ble _ _ rfl) fun w0 ok0 lt0 hA => ?_
 refine sr ?_
 refine sT 1 (.d (.dp (eCell t0))) rfl (v_box_d (cs := (eCell t0)) rfl · · · rfl rfl (ones_of rfl)) ?_
 refine sM 2 (bV false) rfl rfl ?_
 refine sq_nil ?_
 refine ht_seq ?_
 refine sr ?_
 refine sT 4 (.d (.dp (eCell t0))) rfl (v_field_dp (a0 := 0) (cs := (eCell t0)) rfl · · · fo26_0 rfl) ?_
 refine sT 5 (.d (.sl 17 (t0.mShards.map eShard))) rfl (v_load_dp1 rfl · · · onT22 rfl rfl) ?_
 refine sT 6 (iV (t0.mShards.length : Int)) rfl (w_len t0.mShards eShard rfl rfl · · · slT22 rfl) ?_
 refine sT 7 (bV (ltI 8 (t0.mShards.length : Int))) rfl (v_bin rfl · · · rfl rfl (b_gtr rfl)) ?_
 refine sM 8 (bV (ltI 8 (t0.mShards.length : Int))) rfl rfl ?_
 refine sF 9 (.d (.dp (List.drop 1 (eCell t0)))) rfl rfl (fun e1 => (v_field_dp (a0 := 1) (cs := (eCell t0)) rfl · · · fo26_1 rfl)) ?_
 refine sF 10 (.d (.agg (eStamp t0.mTop))) rfl rfl (fun e2 => (w_ldp (List.drop 1 (eCell t0)) (eStamp t0.mTop) rfl · · · ag24 (gv (nF e2)) (ble _ _ rfl) rfl)) ?_
 obtain ⟨t11, c4, h⟩ := bpos h
 refine sF 11 (bV t11) rfl rfl (fun e3 => (w_call (ds := [(.agg (eStamp t0.mTop))]) (caps := []) (l := [(.s (.bool t11))]) (s68 k t0.mTop _ (cpos (nF e3) c4)) rfl rfl rfl en68 · · · (.inl ⟨rfl, rfl⟩) (cc (gv (nF e3)) rfl) rfl)) ?_
 refine sF 12 (bV (!t11)) rfl rfl (fun e5 => (v_un rfl · · · (gv (nF e5)) (u_not rfl))) ?_
 refine sT 13 (bV ((ltI 8 (t0.mShards.length : Int)) || (!t11))) rfl (v_pickB rfl · · · rfl (fun e6 => rfl) (fun e7 => (gv (nF e7))) (pO _ _)) ?_
 refine sM 14 (bV ((ltI 8 (t0.mShards.length : Int)) || (!t11))) rfl rfl ?_
 refine sF 15 (.d (.dp (List.drop 4 (eCell t0)))) rfl rfl (fun e8 => (v_field_dp (a0 := 4) (cs := (eCell t0)) rfl · · · fo26_2 rfl)) ?_
 refine sF 16 (iV t0.mDropped) rfl rfl (fun e9 => (v_load_dp1 rfl · · · onT3 (gv (nF e9)) rfl)) ?_
 obtain ⟨t17, c11, h⟩ := bpos h
 refine sF 17 (bV t17) rfl rfl (fun e10 => (w_call (ds := [(.s (.int .i64 t0.mDropped))]) (caps := []) (l := [(.s (.bool t17))]) (s67 k t0.mDropped _ (cpos (nF e10) c11)) rfl rfl rfl en67 · · · (.inl ⟨rfl, rfl⟩) (cc (gv (nF e10)) rfl) rfl)) ?_
 refine sF 18 (bV (!t17)) rfl rfl (fun e12 => (v_un rfl · · · (gv (nF e12)) (u_not rfl))) ?_
 refine sT 19 (bV (((ltI 8 (t0.mShards.length : Int)) || (!t11)) || (!t17))) rfl (v_pickB rfl · · · rfl (fun e13 => rfl) (fun e14 => (gv (nF e14))) (pO _ _)) ?_
 refine sq_nil ?_
 refine ht_cond rfl (fun e15 => ?_) (fun e15 => ?_)
 ·replace h := cpos e15 h
  refine sr ?_
  refine sM 2 (bV false) rfl rfl ?_
  refine sq_nil ?_
  refine ht_ret ?_
  cases h
  exact ret1 rfl (.tmp rfl)
 replace h := cneg e15 h
 refine ht_skip ?_
 refine ht_gj (go_id' h) (fun _ => tell []) (fun _ h => ?_) (fun v16 K17 h j19 r20 => ?_)
 ·refine sr ?_
  refine sM 2 (bV true) rfl rfl ?_
  refine sq_nil ?_
  refine ht_ret ?_
  cases h
  exact ret1 rfl (.tmp rfl)
 refine sr ?_
 refine sM 3 (iV 0) rfl rfl ?_
 refine sq_nil ?_
 refine ht_block ?_
 refine ht_rd h (fun _ => rfl) (fun t3 => tell [(.t 1, .d (.dp (eCell t0))), (.t 3, iV t3)]) (wk_ren _ (fun i => i) rfl ⟨rfl, rfl, trivial⟩) fun k t3 h K79 j22 => ?_
 rw [F22_l1] at h
 refine ht_seq ?_
 refine sr ?_
 refine sM 20 (iV t3) rfl rfl ?_
 refine sT 21 (.d (.dp (eCell t0))) rfl (v_field_dp (a0 := 0) (cs := (eCell t0)) rfl · · · fo26_0 rfl) ?_
 refine sT 22 (.d (.sl 17 (t0.mShards.map eShard))) rfl (v_load_dp1 rfl · · · onT22 rfl rfl) ?_
 refine sT 23 (iV (t0.mShards.length : Int)) rfl (w_len t0.mShards eShard rfl rfl · · · slT22 rfl) ?_
 refine sT 24 (bV (ltI t3 (t0.mShards.length : Int))) rfl (v_bin rfl · · · rfl rfl (b_lss rfl)) ?_
 refine sq_nil ?_
 refine ht_cond rfl (fun e24 => ?_) (fun e24 => ?_)
 ·replace h := cpos e24 h
  refine ht_skip ?_
  refine ht_seq ?_
  refine ht_block ?_
  refine ht_seq ?_
  refine ht_region_draw mixed ?_
  refine rT 27 (.d (.dp (eCell t0))) rfl (v_field_dp (a0 := 0) (cs := (eCell t0)) rfl · · · fo26_0 rfl) ?_
  refine rT 28 (.d (.sl 17 (t0.mShards.map eShard))) rfl (v_load_dp1 rfl · · · onT22 rfl rfl) ?_
  refine rM 29 (iV t3) rfl rfl ?_
  obtain ⟨e25, h⟩ := gpos h
  refine rT 30 (.d (.dp (eShard (rd t0.mShards t3)))) rfl (w_idx t0.mShards eShard rfl · · · slT22 rfl rfl e25) ?_
  refine rT 31 (.d (.agg (eShard (rd t0.mShards t3)))) rfl (w_ldp (eShard (rd t0.mShards t3)) (eShard (rd t0.mShards t3)) rfl · · · ag45 rfl (ble _ _ rfl) rfl) ?_
  obtain ⟨t32, c26, h⟩ := bpos h
  refine rT 32 (bV t32) rfl (w_call (ds := [(.agg (eShard (rd t0.mShards t3)))]) (caps := []) (l := [(.s (.bool t32))]) (s21 k (rd t0.mShards t3) _ c26) rfl rfl rfl en21 · · · (.inl ⟨rfl, rfl⟩) rfl rfl) ?_
  refine rT 33 (bV (!t32)) rfl (v_un rfl · · · rfl (u_not rfl)) ?_
  refine rM 34 (bV (!t32)) rfl rfl ?_
  refine rF 35 (.d (.dp (eCell t0))) rfl rfl (fun e27 => (v_field_dp (a0 := 0) (cs := (eCell t0)) rfl · · · fo26_0 rfl)) ?_
  refine rF 36 (.d (.sl 17 (t0.mShards.map eShard))) rfl rfl (fun e28 => (v_load_dp1 rfl · · · onT22 (gv (nF e28)) rfl)) ?_
  refine rF 37 (iV t3) rfl rfl (fun e29 => (v_move (.inl rfl) · · · rfl)) ?_
  obtain ⟨e31, h⟩ := gpos h
  refine rF 38 (.d (.dp (eShard (rd t0.mShards t3)))) rfl rfl (fun e30 => (w_idx t0.mShards eShard rfl · · · slT22 (gv (nF e30)) (gv (nF e30)) (orT e31 (nF e30)))) ?_
  refine rF 39 (.d (.agg (eShard (rd t0.mShards t3)))) rfl rfl (fun e32 => (w_ldp (eShard (rd t0.mShards t3)) (eShard (rd t0.mShards t3)) rfl · · · ag45 (gv (nF e32)) (ble _ _ rfl) rfl)) ?_
  refine rF 40 (.d (.dp (List.drop 1 (eCell t0)))) rfl rfl (fun e33 => (v_field_dp (a0 := 1) (cs := (eCell t0)) rfl · · · fo26_1 rfl)) ?_
  refine rF 41 (.d (.agg (eStamp t0.mTop))) rfl rfl (fun e34 => (w_ldp (List.drop 1 (eCell t0)) (eStamp t0.mTop) rfl · · · ag24 (gv (nF e34)) (ble _ _ rfl) rfl)) ?_
  obtain ⟨t42, c36, h⟩ := bpos h
  refine rF 42 (bV t42) rfl rfl (fun e35 => (w_call (ds := [(.agg (eShard (rd t0.mShards t3))), (.agg (eStamp t0.mTop))]) (caps := []) (l := [(.s (.bool t42))]) (s89 k (rd t0.mShards t3) t0.mTop _ (cpos (nF e35) c36)) rfl rfl rfl en89 · · · (.inl ⟨rfl, rfl⟩) (cc (gv (nF e35)) (cc (gv (nF e35)) rfl)) rfl)) ?_
  refine rF 43 (bV (!t42)) rfl rfl (fun e37 => (v_un rfl · · · (gv (nF e37)) (u_not rfl))) ?_
  refine rT 44 (bV ((!t32) || (!t42))) rfl (v_pickB rfl · · · rfl (fun e38 => rfl) (fun e39 => (gv (nF e39))) (pO _ _)) ?_
  refine rM 45 (bV ((!t32) || (!t42))) rfl rfl ?_
  refine rF 46 (iV t3) rfl rfl (fun e40 => (v_move (.inl rfl) · · · rfl)) ?_
  refine rF 47 (bV (ltI 0 t3)) rfl rfl (fun e41 => (v_bin rfl · · · (gv (nF e41)) rfl (b_gtr rfl))) ?_
  refine rF 48 (bV (ltI 0 t3)) rfl rfl (fun e42 => (v_move (.inl rfl) · · · (gv (nF e42)))) ?_
  refine rI 49 (.d (.dp (eCell t0))) rfl rfl (fun e43 e44 => (v_field_dp (a0 := 0) (cs := (eCell t0)) rfl · · · fo26_0 rfl)) ?_
  refine rI 50 (.d (.sl 17 (t0.mShards.map eShard))) rfl rfl (fun e45 e46 => (v_load_dp1 rfl · · · onT22 (gv (aT e45 e46)) rfl)) ?_
  refine rI 51 (iV t3) rfl rfl (fun e47 e48 => (v_move (.inl rfl) · · · rfl)) ?_
  refine rI 52 (iV (IntKind.wrap .i64 (t3 - 1))) rfl rfl (fun e49 e50 => (v_bin rfl · · · (gv (aT e49 e50)) rfl (b_sub rfl))) ?_
  obtain ⟨e53, h⟩ := gpos h
  refine rI 53 (.d (.dp (eShard (rd t0.mShards (IntKind.wrap .i64 (t3 - 1)))))) rfl rfl (fun e51 e52 => (w_idx t0.mShards eShard rfl · · · slT22 (gv (aT e51 e52)) (gv (aT e51 e52)) (orT e53 (aT e51 e52)))) ?_
  refine rI 54 (.d (.dp (eShard (rd t0.mShards (IntKind.wrap .i64 (t3 - 1)))))) rfl rfl (fun e54 e55 => (v_field_dp (a0 := 0) (cs := (eShard (rd t0.mShards (IntKind.wrap .i64 (t3 - 1))))) rfl · · · fo45_0 (gv (aT e54 e55)))) ?_
  refine rI 55 (iV (rd t0.mShards (IntKind.wrap .i64 (t3 - 1))).mID) rfl rfl (fun e56 e57 => (v_load_dp1 rfl · · · onT3 (gv (aT e56 e57)) rfl)) ?_
  refine rI 56 (.d (.dp (eCell t0))) rfl rfl (fun e58 e59 => (v_field_dp (a0 := 0) (cs := (eCell t0)) rfl · · · fo26_0 rfl)) ?_
  refine rI 57 (.d (.sl 17 (t0.mShards.map eShard))) rfl rfl (fun e60 e61 => (v_load_dp1 rfl · · · onT22 (gv (aT e60 e61)) rfl)) ?_
  refine rI 58 (iV t3) rfl rfl (fun e62 e63 => (v_move (.inl rfl) · · · rfl)) ?_
  obtain ⟨e66, h⟩ := gpos h
  refine rI 59 (.d (.dp (eShard (rd t0.mShards t3)))) rfl rfl (fun e64 e65 => (w_idx t0.mShards eShard rfl · · · slT22 (gv (aT e64 e65)) (gv (aT e64 e65)) (orT e66 (aT e64 e65)))) ?_
  refine rI 60 (.d (.dp (eShard (rd t0.mShards t3)))) rfl rfl (fun e67 e68 => (v_field_dp (a0 := 0) (cs := (eShard (rd t0.mShards t3))) rfl · · · fo45_0 (gv (aT e67 e68)))) ?_
  refine rI 61 (iV (rd t0.mShards t3).mID) rfl rfl (fun e69 e70 => (v_load_dp1 rfl · · · onT3 (gv (aT e69 e70)) rfl)) ?_
  refine rI 62 (bV (leI (rd t0.mShards t3).mID (rd t0.mShards (IntKind.wrap .i64 (t3 - 1))).mID)) rfl rfl (fun e71 e72 => (v_bin rfl · · · (gv (aT e71 e72)) (gv (aT e71 e72)) (b_geq rfl))) ?_
  refine rF 63 (bV ((ltI 0 t3) && (leI (rd t0.mShards t3).mID (rd t0.mShards (IntKind.wrap .i64 (t3 - 1))).mID))) rfl rfl (fun e73 => (v_pickB rfl · · · (gv (nF e73)) (fun e74 => (gv (aT (nF e73) e74))) (fun e75 => rfl) (pA _ _))) ?_
  refine rT 64 (bV (((!t32) || (!t42)) || ((ltI 0 t3) && (leI (rd t0.mShards t3).mID (rd t0.mShards (IntKind.wrap .i64 (t3 - 1))).mID)))) rfl (v_pickB rfl · · · rfl (fun e76 => rfl) (fun e77 => (gv (nF e77))) (pO _ _)) ?_
  refine rg_nil ⟨by kernel_rfl, ?_⟩
  refine ht_cond rfl (fun e78 => ?_) (fun e78 => ?_)
  ·replace h := cpos e78 h
   refine sr ?_
   refine sM 2 (bV false) rfl rfl ?_
   refine sq_nil ?_
   refine ht_ret ?_
   cases h
   cases r20 _ rfl
   exact ret1 rfl (.tmp rfl)
  replace h := cneg e78 h
  refine ht_skip ?_
  refine ht_region ?_
  refine sM 25 (iV t3) rfl rfl ?_
  refine sT 26 (iV (IntKind.wrap .i64 (t3 + 1))) rfl (v_bin rfl · · · rfl rfl (b_add rfl)) ?_
  refine sM 3 (iV (IntKind.wrap .i64 (t3 + 1))) rfl rfl ?_
  refine sq_nil ?_
  exact j22 _ _ h (wk_ren _ (fun i => i) rfl ⟨rfl, rfl, trivial⟩)
 replace h := cneg e24 h
 refine ht_exit ?_
 refine tq ?_
 refine tq ?_
 refine bq_hit ?_
 cases h
 exact j19 _ _ rfl (wk_ren _ (fun i => i) rfl trivial)
theorem s23 (k : Nat) (t0 : Cell) (t1 : Int) (r : Shard × Bool) (h : F23 k t0 t1 = some r) : Awp.Spec Tryz.prog amb 23 [(.agg (eCell t0)), (.s (.int .i64 t1))] (.ds [(.agg (eShard r.1)), (.s (.bool r.2))]) := by
 rw [F23] at h
 refine spec_of Tryz.func23 rfl (ble _ _ rfl) fun w0 ok0 lt0 hA => ?_
 refine sr ?_
 refine sT 2 (.d (.dp (eCell t0))) rfl (v_box_d (cs := (eCell t0)) rfl · · · rfl rfl (ones_of rfl)) ?_
 refine sq_cons _ (v_alloc (id := 4) (cs := zc45) rfl trivial rfl (ble _ _ rfl) zu45 rfl ft45 rfl) ?_
 refine sM 5 (bV false) rfl rfl ?_
 refine sq_nil ?_
 refine ht_seq ?_
 refine sr ?_
 refine sT 7 (.d (.agg (eCell t0))) rfl (w_ldp (eCell t0) (eCell t0) rfl · · · ag26 rfl (ble _ _ rfl) rfl) ?_
 obtain ⟨t8, c1, h⟩ := bpos h
 refine sT 8 (bV t8) rfl (w_call (ds := [(.agg (eCell t0))]) (caps := []) (l := [(.s (.bool t8))]) (s25 k t0 _ c1) rfl rfl rfl en25 · · · (.inl ⟨rfl, rfl⟩) rfl rfl) ?_
 refine sT 9 (bV (!t8)) rfl (v_un rfl · · · rfl (u_not rfl)) ?_
 refine sM 10 (bV (!t8)) rfl rfl ?_
 refine sF 11 (iV t1) rfl rfl (fun e2 => (v_move (.inl rfl) · · · rfl)) ?_
 refine sF 12 (.d (.sl 1 (([t1]).map (eI .i64)))) rfl rfl (fun e3 => (w_bsl_d [(0, iV t1)] [t1] (eI .i64) rfl · · · slT148 zr3 (encI .i64) (ble _ _ rfl) (cc (pr (gv (nF e3))) rfl) (by kernel_rfl) rfl rfl (by kernel_rfl))) ?_
 obtain ⟨t13, c5, h⟩ := bpos h
 refine sF 13 (bV t13) rfl rfl (fun e4 => (w_call (ds := [(.s (.int .i64 1)), (.sl 1 (([t1]).map (eI .i64)))]) (caps := []) (l := [(.s (.bool t13))]) (s57 k 1 ([t1]) _ (cpos (nF e4) c5)) rfl rfl rfl en57 · · · (.inl ⟨rfl, rfl⟩) (cc rfl (cc (gv (nF e4)) rfl)) rfl)) ?_
 refine sF 14 (bV (!t13)) rfl rfl (fun e6 => (v_un rfl · · · (gv (nF e6)) (u_not rfl))) ?_
 refine sT 15 (bV ((!t8) || (!t13))) rfl (v_pickB rfl · · · rfl (fun e7 => rfl) (fun e8 => (gv (nF e8))) (pO _ _)) ?_
 refine sq_nil ?_
 refine ht_cond rfl (fun e9 => ?_) (fun e9 => ?_)
 ·replace h := cpos e9 h
  refine sr ?_
  refine sT 16 (.d (.agg (eShard (⟨0, 0, (⟨⟨#[]⟩, ⟨#[]⟩⟩ : Span), 0, [], (⟨0, 0, 0⟩ : Stamp), (⟨0, 0, 0⟩ : Stamp), [], 0, 0, 0, 0⟩ : Shard)))) rfl (w_bld zc45 ((eShard (⟨0, 0, (⟨⟨#[]⟩, ⟨#[]⟩⟩ : Span), 0, [], (⟨0, 0, 0⟩ : Stamp), (⟨0, 0, 0⟩ : Stamp), [], 0, 0, 0, 0⟩ : Shard)).map V.d) [] rfl · · · zw45 rfl ft45 rfl rfl rfl rfl) ?_
  refine sq_cons _ (v_store_box (id := 4) (off := 0) (cs := (eShard (⟨0, 0, (⟨⟨#[]⟩, ⟨#[]⟩⟩ : Span), 0, [], (⟨0, 0, 0⟩ : Stamp), (⟨0, 0, 0⟩ : Stamp), [], 0, 0, 0, 0⟩ : Shard)).map V.d) rfl trivial rfl sz45 rfl rfl rfl rfl (ones_of rfl) (ble _ _ rfl)) ?_
  refine sM 5 (bV false) rfl rfl ?_
  refine sq_nil ?_
  refine ht_ret ?_
  cases h
  exact ret2 rfl (.cell rfl rfl ag45 (ble _ _ rfl) rfl) (.tmp rfl)
 replace h := cneg e9 h
 refine ht_skip ?_
 refine sr ?_
 refine sT 17 (.d (.agg (eCell t0))) rfl (w_ldp (eCell t0) (eCell t0) rfl · · · ag26 rfl (ble _ _ rfl) rfl) ?_
 refine sM 18 (iV t1) rfl rfl ?_
 obtain ⟨t19, c10, h⟩ := bpos h
 refine sT 19 (.d (.agg (eShard t19))) rfl (w_call (ds := [(.agg (eCell t0)), (.s (.int .i64 t1))]) (caps := []) (l := [(.agg (eShard t19))]) (s60 k t0 t1 _ c10) rfl rfl rfl en60 · · · (.inl ⟨rfl, rfl⟩) rfl rfl) ?_
 refine sq_cons _ (v_alloc (id := 6) (cs := zc45) rfl trivial rfl (ble _ _ rfl) zu45 rfl ft45 rfl) ?_
 refine sq_cons _ (v_store_box (id := 6) (off := 0) (cs := (eShard t19).map V.d) rfl trivial rfl sz45 rfl rfl rfl rfl (ones_of rfl) (ble _ _ rfl)) ?_
 refine sq_nil ?_
 refine ht_seq ?_
 refine ht_region_draw mixed ?_
 refine rT 20 (.d (.agg (eShard t19))) rfl (w_ldb 6 0 rfl · · · ag45 rfl rfl (ble _ _ rfl) rfl) ?_
 refine rT 21 (.ptr 6 0) rfl (v_field_box (off := 0) (a0 := 0) rfl · · · fo45_0 rfl) ?_
 refine rT 22 (iV t19.mID) rfl (v_load_box1 (id := 6) (off := 0) rfl · · · onT3 rfl rfl (ble _ _ rfl) rfl) ?_
 refine rT 23 (bV (!eqI t19.mID 0)) rfl (v_bin rfl · · · rfl rfl (b_neq rfl)) ?_
 refine rg_cons _ (v_store_box (id := 4) (off := 0) (cs := (eShard t19).map V.d) rfl trivial rfl sz45 rfl rfl rfl rfl (ones_of rfl) (ble _ _ rfl)) ?_
 refine rM 5 (bV (!eqI t19.mID 0)) rfl rfl ?_
 refine rg_nil ⟨by kernel_rfl, ?_⟩
 refine ht_ret ?_
 cases h
 exact ret2 rfl (.cell rfl rfl ag45 (ble _ _ rfl) rfl) (.tmp rfl)
theorem s24 (k : Nat) (t0 : Cell) (t1 : Int) (r : Shard) (h : F24 k t0 t1 = some r) : Awp.Spec Tryz.prog amb 24 [(.agg (eCell t0)), (.s (.int .i64 t1))] (.ds [(.agg (eShard r))]) := by
 rw [F24] at h
 refine spec_of Tryz.func24 rfl (ble _ _ rfl) fun w0 ok0 lt0 hA => ?_
 refine sr ?_
 refine sT 2 (.d (.dp (eCell t0))) rfl (v_box_d (cs := (eCell t0)) rfl · · · rfl rfl (ones_of rfl)) ?_
 refine sq_cons _ (v_alloc (id := 4) (cs := zc45) rfl trivial rfl (ble _ _ rfl) zu45 rfl ft45 rfl) ?_
 refine sq_nil ?_
 refine ht_gj (go_id' h) (fun _ => tell [(.b 4, .box false 17), (.c 4 0, iV 0), (.c 4 1, iV 0), (.c 4 2, sV (⟨#[]⟩ : ByteArray)), (.c 4 3, sV (⟨#[]⟩ : ByteArray)), (.c 4 4, iV 0), (.c 4 5, .d (.sl 2 (([] : List Entry).map eEntry))), (.c 4 6, iV 0), (.c 4 7, iV 0), (.c 4 8, iV 0), (.c 4 9, iV 0), (.c 4 10, iV 0), (.c 4 11, iV 0), (.c 4 12, .d (.sl 11 (([] : List Done).map eDone))), (.c 4 13, iV 0), (.c 4 14, iV 0), (.c 4 15, iV 0), (.c 4 16, iV 0), (.t 4, .ptr 4 0)]) (fun _ h => ?_) (fun v1 K2 h j4 r5 => ?_)
 ·refine sr ?_
  refine sT 26 (.d (.agg (eShard (⟨0, 0, (⟨⟨#[]⟩, ⟨#[]⟩⟩ : Span), 0, [], (⟨0, 0, 0⟩ : Stamp), (⟨0, 0, 0⟩ : Stamp), [], 0, 0, 0, 0⟩ : Shard)))) rfl (w_bld zc45 ((eShard (⟨0, 0, (⟨⟨#[]⟩, ⟨#[]⟩⟩ : Span), 0, [], (⟨0, 0, 0⟩ : Stamp), (⟨0, 0, 0⟩ : Stamp), [], 0, 0, 0, 0⟩ : Shard)).map V.d) [] rfl · · · zw45 rfl ft45 rfl rfl rfl rfl) ?_
  refine sq_cons _ (v_store_box (id := 4) (off := 0) (cs := (eShard (⟨0, 0, (⟨⟨#[]⟩, ⟨#[]⟩⟩ : Span), 0, [], (⟨0, 0, 0⟩ : Stamp), (⟨0, 0, 0⟩ : Stamp), [], 0, 0, 0, 0⟩ : Shard)).map V.d) rfl trivial rfl sz45 rfl rfl rfl rfl (ones_of rfl) (ble _ _ rfl)) ?_
  refine sq_nil ?_
  refine ht_ret ?_
  cases h
  exact ret1 rfl (.cell rfl rfl ag45 (ble _ _ rfl) rfl)
 refine sr ?_
 refine sM 5 (iV 0) rfl rfl ?_
 refine sq_nil ?_
 refine ht_block ?_
 refine ht_rd h (fun _ => rfl) (fun t5 => tell [(.b 4, .box false 17), (.c 4 0, iV 0), (.c 4 1, iV 0), (.c 4 2, sV (⟨#[]⟩ : ByteArray)), (.c 4 3, sV (⟨#[]⟩ : ByteArray)), (.c 4 4, iV 0), (.c 4 5, .d (.sl 2 (([] : List Entry).map eEntry))), (.c 4 6, iV 0), (.c 4 7, iV 0), (.c 4 8, iV 0), (.c 4 9, iV 0), (.c 4 10, iV 0), (.c 4 11, iV 0), (.c 4 12, .d (.sl 11 (([] : List Done).map eDone))), (.c 4 13, iV 0), (.c 4 14, iV 0), (.c 4 15, iV 0), (.c 4 16, iV 0), (.t 1, iV t1), (.t 2, .d (.dp (eCell t0))), (.t 4, .ptr 4 0), (.t 5, iV t5)]) (wk_ren _ (fun i => i) rfl ⟨rfl, rfl, rfl, rfl, rfl, rfl, rfl, rfl, rfl, rfl, rfl, rfl, rfl, rfl, rfl, rfl, rfl, rfl, rfl, rfl, rfl, rfl, trivial⟩) fun k t5 h K13 j7 => ?_
 rw [F24_l1] at h
 refine ht_seq ?_
 refine sr ?_
 refine sM 6 (iV t5) rfl rfl ?_
 refine sT 7 (.d (.dp (eCell t0))) rfl (v_field_dp (a0 := 0) (cs := (eCell t0)) rfl · · · fo26_0 rfl) ?_
 refine sT 8 (.d (.sl 17 (t0.mShards.map eShard))) rfl (v_load_dp1 rfl · · · onT22 rfl rfl) ?_
 refine sT 9 (iV (t0.mShards.length : Int)) rfl (w_len t0.mShards eShard rfl rfl · · · slT22 rfl) ?_
 refine sT 10 (bV (ltI t5 (t0.mShards.length : Int))) rfl (v_bin rfl · · · rfl rfl (b_lss rfl)) ?_
 refine sq_nil ?_
 refine ht_cond rfl (fun e9 => ?_) (fun e9 => ?_)
 ·replace h := cpos e9 h
  refine ht_skip ?_
  refine ht_seq ?_
  refine ht_block ?_
  refine sr ?_
  refine sT 13 (.d (.dp (eCell t0))) rfl (v_field_dp (a0 := 0) (cs := (eCell t0)) rfl · · · fo26_0 rfl) ?_
  refine sT 14 (.d (.sl 17 (t0.mShards.map eShard))) rfl (v_load_dp1 rfl · · · onT22 rfl rfl) ?_
  refine sM 15 (iV t5) rfl rfl ?_
  obtain ⟨e10, h⟩ := gpos h
  refine sT 16 (.d (.dp (eShard (rd t0.mShards t5)))) rfl (w_idx t0.mShards eShard rfl · · · slT22 rfl rfl e10) ?_
  refine sT 17 (.d (.dp (eShard (rd t0.mShards t5)))) rfl (v_field_dp (a0 := 0) (cs := (eShard (rd t0.mShards t5))) rfl · · · fo45_0 rfl) ?_
  refine sT 18 (iV (rd t0.mShards t5).mID) rfl (v_load_dp1 rfl · · · onT3 rfl rfl) ?_
  refine sM 19 (iV t1) rfl rfl ?_
  refine sT 20 (bV (eqI (rd t0.mShards t5).mID t1)) rfl (v_bin rfl · · · rfl rfl (b_eql rfl)) ?_
  refine sq_nil ?_
  refine ht_cond rfl (fun e11 => ?_) (fun e11 => ?_)
  ·replace h := cpos e11 h
   refine sr ?_
   refine sT 21 (.d (.dp (eCell t0))) rfl (v_field_dp (a0 := 0) (cs := (eCell t0)) rfl · · · fo26_0 rfl) ?_
   refine sT 22 (.d (.sl 17 (t0.mShards.map eShard))) rfl (v_load_dp1 rfl · · · onT22 rfl rfl) ?_
   refine sM 23 (iV t5) rfl rfl ?_
   obtain ⟨e12, h⟩ := gpos h
   refine sT 24 (.d (.dp (eShard (rd t0.mShards t5)))) rfl (w_idx t0.mShards eShard rfl · · · slT22 rfl rfl e12) ?_
   refine sT 25 (.d (.agg (eShard (rd t0.mShards t5)))) rfl (w_ldp (eShard (rd t0.mShards t5)) (eShard (rd t0.mShards t5)) rfl · · · ag45 rfl (ble _ _ rfl) rfl) ?_
   refine sq_cons _ (v_store_box (id := 4) (off := 0) (cs := (eShard (rd t0.mShards t5)).map V.d) rfl trivial rfl sz45 rfl rfl rfl rfl (ones_of rfl) (ble _ _ rfl)) ?_
   refine sq_nil ?_
   refine ht_ret ?_
   cases h
   cases r5 _ rfl
   exact ret1 rfl (.cell rfl rfl ag45 (ble _ _ rfl) rfl)
  replace h := cneg e11 h
  refine ht_skip ?_
  refine ht_region ?_
  refine sM 11 (iV t5) rfl rfl ?_
  refine sT 12 (iV (IntKind.wrap .i64 (t5 + 1))) rfl (v_bin rfl · · · rfl rfl (b_add rfl)) ?_
  refine sM 5 (iV (IntKind.wrap .i64 (t5 + 1))) rfl rfl ?_
  refine sq_nil ?_
  exact j7 _ _ h (wk_ren _ (fun i => i) rfl ⟨rfl, rfl, rfl, rfl, rfl, rfl, rfl, rfl, rfl, rfl, rfl, rfl, rfl, rfl, rfl, rfl, rfl, rfl, rfl, rfl, rfl, rfl, trivial⟩)
 replace h := cneg e9 h
 refine ht_exit ?_
 refine tq ?_
 refine tq ?_
 refine bq_hit ?_
 cases h
 exact j4 _ _ rfl (wk_ren _ (fun i => i) rfl ⟨rfl, rfl, rfl, rfl, rfl, rfl, rfl, rfl, rfl, rfl, rfl, rfl, rfl, rfl, rfl, rfl, rfl, rfl, rfl, trivial⟩)
theorem s102 (k : Nat) (t0 : List Version) (t1 : List Version) (r : Bool) (h : F102 k t0 t1 = some r) : Awp.Spec Tryz.prog amb 102 [(.sl 5 (t0.map eVersion)), (.sl 5 (t1.map eVersion))] (.ds [(.s (.bool r))]) := by
 rw [F102] at h
 refine spec_of Tryz.func102 rfl (ble _ _ rfl) fun w0 ok0 lt0 hA => ?_
 refine sr ?_
 refine sM 4 (bV false) rfl rfl ?_
 refine sq_nil ?_
 refine ht_seq ?_
 refine sr ?_
 refine sM 6 (.d (.sl 5 (t0.map eVersion))) rfl rfl ?_
 refine sT 7 (iV (t0.length : Int)) rfl (w_len t0 eVersion rfl rfl · · · slT96 rfl) ?_
 refine sM 8 (.d (.sl 5 (t1.map eVersion))) rfl rfl ?_
 refine sT 9 (iV (t1.length : Int)) rfl (w_len t1 eVersion rfl rfl · · · slT96 rfl) ?_
 refine sT 10 (bV (!eqI (t0.length : Int) (t1.length : Int))) rfl (v_bin rfl · · · rfl rfl (b_neq rfl)) ?_
 refine sq_nil ?_
 refine ht_cond rfl (fun e1 => ?_) (fun e1 => ?_)
 ·replace h := cpos e1 h
  refine sr ?_
  refine sM 4 (bV false) rfl rfl ?_
  refine sq_nil ?_
  refine ht_ret ?_
  cases h
  exact ret1 rfl (.tmp rfl)
 replace h := cneg e1 h
 refine ht_skip ?_
 refine ht_gj (go_id' h) (fun _ => tell []) (fun _ h => ?_) (fun v2 K3 h j5 r6 => ?_)
 ·refine sr ?_
  refine sM 4 (bV true) rfl rfl ?_
  refine sq_nil ?_
  refine ht_ret ?_
  cases h
  exact ret1 rfl (.tmp rfl)
 refine sr ?_
 refine sM 5 (iV 0) rfl rfl ?_
 refine sq_nil ?_
 refine ht_block ?_
 refine ht_rd h (fun _ => rfl) (fun t5 => tell [(.t 0, .d (.sl 5 (t0.map eVersion))), (.t 1, .d (.sl 5 (t1.map eVersion))), (.t 5, iV t5)]) (wk_ren _ (fun i => i) rfl ⟨rfl, rfl, rfl, trivial⟩) fun k t5 h K14 j8 => ?_
 rw [F102_l1] at h
 refine ht_seq ?_
 refine sr ?_
 refine sM 11 (iV t5) rfl rfl ?_
 refine sM 12 (.d (.sl 5 (t0.map eVersion))) rfl rfl ?_
 refine sT 13 (iV (t0.length : Int)) rfl (w_len t0 eVersion rfl rfl · · · slT96 rfl) ?_
 refine sT 14 (bV (ltI t5 (t0.length : Int))) rfl (v_bin rfl · · · rfl rfl (b_lss rfl)) ?_
 refine sq_nil ?_
 refine ht_cond rfl (fun e10 => ?_) (fun e10 => ?_)
 ·replace h := cpos e10 h
  refine ht_skip ?_
  refine ht_seq ?_
  refine ht_block ?_
  refine ht_seq ?_
  refine ht_region_draw mixed ?_
  refine rM 17 (.d (.sl 5 (t0.map eVersion))) rfl rfl ?_
  refine rM 18 (iV t5) rfl rfl ?_
  obtain ⟨e11, h⟩ := gpos h
  refine rT 19 (.d (.dp (eVersion (rd t0 t5)))) rfl (w_idx t0 eVersion rfl · · · slT96 rfl rfl e11) ?_
  refine rT 20 (.d (.agg (eVersion (rd t0 t5)))) rfl (w_ldp (eVersion (rd t0 t5)) (eVersion (rd t0 t5)) rfl · · · ag93 rfl (ble _ _ rfl) rfl) ?_
  refine rM 21 (.d (.sl 5 (t1.map eVersion))) rfl rfl ?_
  refine rM 22 (iV t5) rfl rfl ?_
  obtain ⟨e12, h⟩ := gpos h
  refine rT 23 (.d (.dp (eVersion (rd t1 t5)))) rfl (w_idx t1 eVersion rfl · · · slT96 rfl rfl e12) ?_
  refine rT 24 (.d (.agg (eVersion (rd t1 t5)))) rfl (w_ldp (eVersion (rd t1 t5)) (eVersion (rd t1 t5)) rfl · · · ag93 rfl (ble _ _ rfl) rfl) ?_
  refine rT 25 (bV (!(qVersion (rd t0 t5) (rd t1 t5)))) rfl (v_bin_neq (f := eVersion) rfl · · · rfl rfl rfl rfl eg93 (eq93 _ _)) ?_
  refine rg_nil ⟨by kernel_rfl, ?_⟩
  refine ht_cond rfl (fun e13 => ?_) (fun e13 => ?_)
  ·replace h := cpos e13 h
   refine sr ?_
   refine sM 4 (bV false) rfl rfl ?_
   refine sq_nil ?_
   refine ht_ret ?_
   cases h
   cases r6 _ rfl
   exact ret1 rfl (.tmp rfl)
  replace h := cneg e13 h
  refine ht_skip ?_
  refine ht_region ?_
  refine sM 15 (iV t5) rfl rfl ?_
  refine sT 16 (iV (IntKind.wrap .i64 (t5 + 1))) rfl (v_bin rfl · · · rfl rfl (b_add rfl)) ?_
  refine sM 5 (iV (IntKind.wrap .i64 (t5 + 1))) rfl rfl ?_
  refine sq_nil ?_
  exact j8 _ _ h (wk_ren _ (fun i => i) rfl ⟨rfl, rfl, rfl, trivial⟩)
 replace h := cneg e10 h
 refine ht_exit ?_
 refine tq ?_
 refine tq ?_
 refine bq_hit ?_
 cases h
 exact j5 _ _ rfl (wk_ren _ (fun i => i) rfl trivial)
theorem s40 (k : Nat) (t0 : List Entry) (t1 : List Entry) (r : Bool) (h : F40 k t0 t1 = some r) : Awp.Spec Tryz.prog amb 40 [(.sl 2 (t0.map eEntry)), (.sl 2 (t1.map eEntry))] (.ds [(.s (.bool r))]) := by
 rw [F40] at h
 refine spec_of Tryz.func40 rfl (ble _ _ rfl) fun w0 ok0 lt0 hA => ?_
 refine sr ?_
 refine sM 4 (bV false) rfl rfl ?_
 refine sq_nil ?_
 refine ht_seq ?_
 refine sr ?_
 refine sM 6 (.d (.sl 2 (t0.map eEntry))) rfl rfl ?_
 refine sT 7 (iV (t0.length : Int)) rfl (w_len t0 eEntry rfl rfl · · · slT42 rfl) ?_
 refine sM 8 (.d (.sl 2 (t1.map eEntry))) rfl rfl ?_
 refine sT 9 (iV (t1.length : Int)) rfl (w_len t1 eEntry rfl rfl · · · slT42 rfl) ?_
 refine sT 10 (bV (!eqI (t0.length : Int) (t1.length : Int))) rfl (v_bin rfl · · · rfl rfl (b_neq rfl)) ?_
 refine sq_nil ?_
 refine ht_cond rfl (fun e1 => ?_) (fun e1 => ?_)
 ·replace h := cpos e1 h
  refine sr ?_
  refine sM 4 (bV false) rfl rfl ?_
  refine sq_nil ?_
  refine ht_ret ?_
  cases h
  exact ret1 rfl (.tmp rfl)
 replace h := cneg e1 h
 refine ht_skip ?_
 refine ht_gj (go_id' h) (fun _ => tell []) (fun _ h => ?_) (fun v2 K3 h j5 r6 => ?_)
 ·refine sr ?_
  refine sM 4 (bV true) rfl rfl ?_
  refine sq_nil ?_
  refine ht_ret ?_
  cases h
  exact ret1 rfl (.tmp rfl)
 refine sr ?_
 refine sM 5 (iV 0) rfl rfl ?_
 refine sq_nil ?_
 refine ht_block ?_
 refine ht_rd h (fun _ => rfl) (fun t5 => tell [(.t 0, .d (.sl 2 (t0.map eEntry))), (.t 1, .d (.sl 2 (t1.map eEntry))), (.t 5, iV t5)]) (wk_ren _ (fun i => i) rfl ⟨rfl, rfl, rfl, trivial⟩) fun k t5 h K31 j8 => ?_
 rw [F40_l1] at h
 refine ht_seq ?_
 refine sr ?_
 refine sM 11 (iV t5) rfl rfl ?_
 refine sM 12 (.d (.sl 2 (t0.map eEntry))) rfl rfl ?_
 refine sT 13 (iV (t0.length : Int)) rfl (w_len t0 eEntry rfl rfl · · · slT42 rfl) ?_
 refine sT 14 (bV (ltI t5 (t0.length : Int))) rfl (v_bin rfl · · · rfl rfl (b_lss rfl)) ?_
 refine sq_nil ?_
 refine ht_cond rfl (fun e10 => ?_) (fun e10 => ?_)
 ·replace h := cpos e10 h
  refine ht_skip ?_
  refine ht_seq ?_
  refine ht_block ?_
  refine ht_seq ?_
  refine ht_region_draw mixed ?_
  refine rM 17 (.d (.sl 2 (t0.map eEntry))) rfl rfl ?_
  refine rM 18 (iV t5) rfl rfl ?_
  obtain ⟨e11, h⟩ := gpos h
  refine rT 19 (.d (.dp (eEntry (rd t0 t5)))) rfl (w_idx t0 eEntry rfl · · · slT42 rfl rfl e11) ?_
  refine rT 20 (.d (.dp (eEntry (rd t0 t5)))) rfl (v_field_dp (a0 := 0) (cs := (eEntry (rd t0 t5))) rfl · · · fo116_0 rfl) ?_
  refine rT 21 (sV (rd t0 t5).mKey) rfl (v_load_dp1 rfl · · · onT9 rfl rfl) ?_
  refine rM 22 (.d (.sl 2 (t1.map eEntry))) rfl rfl ?_
  refine rM 23 (iV t5) rfl rfl ?_
  obtain ⟨e12, h⟩ := gpos h
  refine rT 24 (.d (.dp (eEntry (rd t1 t5)))) rfl (w_idx t1 eEntry rfl · · · slT42 rfl rfl e12) ?_
  refine rT 25 (.d (.dp (eEntry (rd t1 t5)))) rfl (v_field_dp (a0 := 0) (cs := (eEntry (rd t1 t5))) rfl · · · fo116_0 rfl) ?_
  refine rT 26 (sV (rd t1 t5).mKey) rfl (v_load_dp1 rfl · · · onT9 rfl rfl) ?_
  refine rT 27 (bV (!strEq (rd t0 t5).mKey (rd t1 t5).mKey)) rfl (v_bin rfl · · · rfl rfl (b_neS rfl)) ?_
  refine rM 28 (bV (!strEq (rd t0 t5).mKey (rd t1 t5).mKey)) rfl rfl ?_
  refine rF 29 (.d (.sl 2 (t0.map eEntry))) rfl rfl (fun e13 => (v_move (.inl rfl) · · · rfl)) ?_
  refine rF 30 (iV t5) rfl rfl (fun e14 => (v_move (.inl rfl) · · · rfl)) ?_
  obtain ⟨e16, h⟩ := gpos h
  refine rF 31 (.d (.dp (eEntry (rd t0 t5)))) rfl rfl (fun e15 => (w_idx t0 eEntry rfl · · · slT42 (gv (nF e15)) (gv (nF e15)) (orT e16 (nF e15)))) ?_
  refine rF 32 (.d (.dp (List.drop 1 (eEntry (rd t0 t5))))) rfl rfl (fun e17 => (v_field_dp (a0 := 1) (cs := (eEntry (rd t0 t5))) rfl · · · fo116_1 (gv (nF e17)))) ?_
  refine rF 33 (.d (.sl 5 ((rd t0 t5).mChain.map eVersion))) rfl rfl (fun e18 => (v_load_dp1 rfl · · · onT96 (gv (nF e18)) rfl)) ?_
  refine rF 34 (.d (.sl 2 (t1.map eEntry))) rfl rfl (fun e19 => (v_move (.inl rfl) · · · rfl)) ?_
  refine rF 35 (iV t5) rfl rfl (fun e20 => (v_move (.inl rfl) · · · rfl)) ?_
  obtain ⟨e22, h⟩ := gpos h
  refine rF 36 (.d (.dp (eEntry (rd t1 t5)))) rfl rfl (fun e21 => (w_idx t1 eEntry rfl · · · slT42 (gv (nF e21)) (gv (nF e21)) (orT e22 (nF e21)))) ?_
  refine rF 37 (.d (.dp (List.drop 1 (eEntry (rd t1 t5))))) rfl rfl (fun e23 => (v_field_dp (a0 := 1) (cs := (eEntry (rd t1 t5))) rfl · · · fo116_1 (gv (nF e23)))) ?_
  refine rF 38 (.d (.sl 5 ((rd t1 t5).mChain.map eVersion))) rfl rfl (fun e24 => (v_load_dp1 rfl · · · onT96 (gv (nF e24)) rfl)) ?_
  obtain ⟨t39, c26, h⟩ := bpos h
  refine rF 39 (bV t39) rfl rfl (fun e25 => (w_call (ds := [(.sl 5 ((rd t0 t5).mChain.map eVersion)), (.sl 5 ((rd t1 t5).mChain.map eVersion))]) (caps := []) (l := [(.s (.bool t39))]) (s102 k (rd t0 t5).mChain (rd t1 t5).mChain _ (cpos (nF e25) c26)) rfl rfl rfl en102 · · · (.inl ⟨rfl, rfl⟩) (cc (gv (nF e25)) (cc (gv (nF e25)) rfl)) rfl)) ?_
  refine rF 40 (bV (!t39)) rfl rfl (fun e27 => (v_un rfl · · · (gv (nF e27)) (u_not rfl))) ?_
  refine rT 41 (bV ((!strEq (rd t0 t5).mKey (rd t1 t5).mKey) || (!t39))) rfl (v_pickB rfl · · · rfl (fun e28 => rfl) (fun e29 => (gv (nF e29))) (pO _ _)) ?_
  refine rg_nil ⟨by kernel_rfl, ?_⟩
  refine ht_cond rfl (fun e30 => ?_) (fun e30 => ?_)
  ·replace h := cpos e30 h
   refine sr ?_
   refine sM 4 (bV false) rfl rfl ?_
   refine sq_nil ?_
   refine ht_ret ?_
   cases h
   cases r6 _ rfl
   exact ret1 rfl (.tmp rfl)
  replace h := cneg e30 h
  refine ht_skip ?_
  refine ht_region ?_
  refine sM 15 (iV t5) rfl rfl ?_
  refine sT 16 (iV (IntKind.wrap .i64 (t5 + 1))) rfl (v_bin rfl · · · rfl rfl (b_add rfl)) ?_
  refine sM 5 (iV (IntKind.wrap .i64 (t5 + 1))) rfl rfl ?_
  refine sq_nil ?_
  exact j8 _ _ h (wk_ren _ (fun i => i) rfl ⟨rfl, rfl, rfl, trivial⟩)
 replace h := cneg e10 h
 refine ht_exit ?_
 refine tq ?_
 refine tq ?_
 refine bq_hit ?_
 cases h
 exact j5 _ _ rfl (wk_ren _ (fun i => i) rfl trivial)
theorem s19 (k : Nat) (t0 : Answer) (t1 : Answer) (r : Bool) (h : F19 k t0 t1 = some r) : Awp.Spec Tryz.prog amb 19 [(.agg (eAnswer t0)), (.agg (eAnswer t1))] (.ds [(.s (.bool r))]) := by
 rw [F19] at h
 refine spec_of Tryz.func19 rfl (ble _ _ rfl) fun w0 ok0 lt0 hA => ?_
 refine sr ?_
 refine sT 2 (.d (.dp (eAnswer t0))) rfl (v_box_d (cs := (eAnswer t0)) rfl · · · rfl rfl (ones_of rfl)) ?_
 refine sT 3 (.d (.dp (eAnswer t1))) rfl (v_box_d (cs := (eAnswer t1)) rfl · · · rfl rfl (ones_of rfl)) ?_
 refine sM 4 (bV false) rfl rfl ?_
 refine sq_nil ?_
 refine ht_seq ?_
 refine sr ?_
 refine sT 6 (.d (.dp (List.drop 6 (eAnswer t0)))) rfl (v_field_dp (a0 := 6) (cs := (eAnswer t0)) rfl · · · fo34_4 rfl) ?_
 refine sT 7 (.d (.sl 2 (t0.mItems.map eItem))) rfl (v_load_dp1 rfl · · · onT32 rfl rfl) ?_
 refine sT 8 (iV (t0.mItems.length : Int)) rfl (w_len t0.mItems eItem rfl rfl · · · slT32 rfl) ?_
 refine sT 9 (.d (.dp (List.drop 6 (eAnswer t1)))) rfl (v_field_dp (a0 := 6) (cs := (eAnswer t1)) rfl · · · fo34_4 rfl) ?_
 refine sT 10 (.d (.sl 2 (t1.mItems.map eItem))) rfl (v_load_dp1 rfl · · · onT32 rfl rfl) ?_
 refine sT 11 (iV (t1.mItems.length : Int)) rfl (w_len t1.mItems eItem rfl rfl · · · slT32 rfl) ?_
 refine sT 12 (bV (!eqI (t0.mItems.length : Int) (t1.mItems.length : Int))) rfl (v_bin rfl · · · rfl rfl (b_neq rfl)) ?_
 refine sq_nil ?_
 refine ht_cond rfl (fun e1 => ?_) (fun e1 => ?_)
 ·replace h := cpos e1 h
  refine sr ?_
  refine sM 4 (bV false) rfl rfl ?_
  refine sq_nil ?_
  refine ht_ret ?_
  cases h
  exact ret1 rfl (.tmp rfl)
 replace h := cneg e1 h
 refine ht_skip ?_
 refine ht_gj (go_id' h) (fun _ => tell [(.t 2, .d (.dp (eAnswer t0))), (.t 3, .d (.dp (eAnswer t1)))]) (fun _ h => ?_) (fun v2 K3 h j5 r6 => ?_)
 ·refine sr ?_
  refine sT 31 (.d (.dp (eAnswer t0))) rfl (v_field_dp (a0 := 0) (cs := (eAnswer t0)) rfl · · · fo34_0 rfl) ?_
  refine sT 32 (iV t0.mErr) rfl (v_load_dp1 rfl · · · onT31 rfl rfl) ?_
  refine sT 33 (.d (.dp (eAnswer t1))) rfl (v_field_dp (a0 := 0) (cs := (eAnswer t1)) rfl · · · fo34_0 rfl) ?_
  refine sT 34 (iV t1.mErr) rfl (v_load_dp1 rfl · · · onT31 rfl rfl) ?_
  refine sT 35 (bV (eqI t0.mErr t1.mErr)) rfl (v_bin rfl · · · rfl rfl (b_eql rfl)) ?_
  refine sM 36 (bV (eqI t0.mErr t1.mErr)) rfl rfl ?_
  refine sG 37 (.d (.dp (List.drop 1 (eAnswer t0)))) rfl rfl (fun e15 => (v_field_dp (a0 := 1) (cs := (eAnswer t0)) rfl · · · fo34_1 rfl)) ?_
  refine sG 38 (.d (.agg (eStamp t0.mAt))) rfl rfl (fun e16 => (w_ldp (List.drop 1 (eAnswer t0)) (eStamp t0.mAt) rfl · · · ag24 (gv e16) (ble _ _ rfl) rfl)) ?_
  refine sG 39 (.d (.dp (List.drop 1 (eAnswer t1)))) rfl rfl (fun e17 => (v_field_dp (a0 := 1) (cs := (eAnswer t1)) rfl · · · fo34_1 rfl)) ?_
  refine sG 40 (.d (.agg (eStamp t1.mAt))) rfl rfl (fun e18 => (w_ldp (List.drop 1 (eAnswer t1)) (eStamp t1.mAt) rfl · · · ag24 (gv e18) (ble _ _ rfl) rfl)) ?_
  refine sG 41 (bV (qStamp t0.mAt t1.mAt)) rfl rfl (fun e19 => (v_bin_eql (f := eStamp) rfl · · · (gv e19) (gv e19) rfl rfl eg24 (eq24 _ _))) ?_
  refine sT 42 (bV ((eqI t0.mErr t1.mErr) && (qStamp t0.mAt t1.mAt))) rfl (v_pickB rfl · · · rfl (fun e20 => (gv e20)) (fun e21 => rfl) (pA _ _)) ?_
  refine sM 43 (bV ((eqI t0.mErr t1.mErr) && (qStamp t0.mAt t1.mAt))) rfl rfl ?_
  refine sG 44 (.d (.dp (List.drop 4 (eAnswer t0)))) rfl rfl (fun e22 => (v_field_dp (a0 := 4) (cs := (eAnswer t0)) rfl · · · fo34_2 rfl)) ?_
  refine sG 45 (bV t0.mFound) rfl rfl (fun e23 => (v_load_dp1 rfl · · · onT4 (gv e23) rfl)) ?_
  refine sG 46 (.d (.dp (List.drop 4 (eAnswer t1)))) rfl rfl (fun e24 => (v_field_dp (a0 := 4) (cs := (eAnswer t1)) rfl · · · fo34_2 rfl)) ?_
  refine sG 47 (bV t1.mFound) rfl rfl (fun e25 => (v_load_dp1 rfl · · · onT4 (gv e25) rfl)) ?_
  refine sG 48 (bV (t0.mFound == t1.mFound)) rfl rfl (fun e26 => (v_bin rfl · · · (gv e26) (gv e26) (b_eqB und4 rfl))) ?_
  refine sT 49 (bV (((eqI t0.mErr t1.mErr) && (qStamp t0.mAt t1.mAt)) && (t0.mFound == t1.mFound))) rfl (v_pickB rfl · · · rfl (fun e27 => (gv e27)) (fun e28 => rfl) (pA _ _)) ?_
  refine sM 50 (bV (((eqI t0.mErr t1.mErr) && (qStamp t0.mAt t1.mAt)) && (t0.mFound == t1.mFound))) rfl rfl ?_
  refine sG 51 (.d (.dp (List.drop 5 (eAnswer t0)))) rfl rfl (fun e29 => (v_field_dp (a0 := 5) (cs := (eAnswer t0)) rfl · · · fo34_3 rfl)) ?_
  refine sG 52 (sV t0.mValue) rfl rfl (fun e30 => (v_load_dp1 rfl · · · onT9 (gv e30) rfl)) ?_
  refine sG 53 (.d (.dp (List.drop 5 (eAnswer t1)))) rfl rfl (fun e31 => (v_field_dp (a0 := 5) (cs := (eAnswer t1)) rfl · · · fo34_3 rfl)) ?_
  refine sG 54 (sV t1.mValue) rfl rfl (fun e32 => (v_load_dp1 rfl · · · onT9 (gv e32) rfl)) ?_
  refine sG 55 (bV (strEq t0.mValue t1.mValue)) rfl rfl (fun e33 => (v_bin rfl · · · (gv e33) (gv e33) (b_eqS rfl))) ?_
  refine sT 56 (bV ((((eqI t0.mErr t1.mErr) && (qStamp t0.mAt t1.mAt)) && (t0.mFound == t1.mFound)) && (strEq t0.mValue t1.mValue))) rfl (v_pickB rfl · · · rfl (fun e34 => (gv e34)) (fun e35 => rfl) (pA _ _)) ?_
  refine sM 57 (bV ((((eqI t0.mErr t1.mErr) && (qStamp t0.mAt t1.mAt)) && (t0.mFound == t1.mFound)) && (strEq t0.mValue t1.mValue))) rfl rfl ?_
  refine sG 58 (.d (.dp (List.drop 7 (eAnswer t0)))) rfl rfl (fun e36 => (v_field_dp (a0 := 7) (cs := (eAnswer t0)) rfl · · · fo34_5 rfl)) ?_
  refine sG 59 (sV t0.mNext) rfl rfl (fun e37 => (v_load_dp1 rfl · · · onT9 (gv e37) rfl)) ?_
  refine sG 60 (.d (.dp (List.drop 7 (eAnswer t1)))) rfl rfl (fun e38 => (v_field_dp (a0 := 7) (cs := (eAnswer t1)) rfl · · · fo34_5 rfl)) ?_
  refine sG 61 (sV t1.mNext) rfl rfl (fun e39 => (v_load_dp1 rfl · · · onT9 (gv e39) rfl)) ?_
  refine sG 62 (bV (strEq t0.mNext t1.mNext)) rfl rfl (fun e40 => (v_bin rfl · · · (gv e40) (gv e40) (b_eqS rfl))) ?_
  refine sT 63 (bV (((((eqI t0.mErr t1.mErr) && (qStamp t0.mAt t1.mAt)) && (t0.mFound == t1.mFound)) && (strEq t0.mValue t1.mValue)) && (strEq t0.mNext t1.mNext))) rfl (v_pickB rfl · · · rfl (fun e41 => (gv e41)) (fun e42 => rfl) (pA _ _)) ?_
  refine sM 64 (bV (((((eqI t0.mErr t1.mErr) && (qStamp t0.mAt t1.mAt)) && (t0.mFound == t1.mFound)) && (strEq t0.mValue t1.mValue)) && (strEq t0.mNext t1.mNext))) rfl rfl ?_
  refine sG 65 (.d (.dp (List.drop 8 (eAnswer t0)))) rfl rfl (fun e43 => (v_field_dp (a0 := 8) (cs := (eAnswer t0)) rfl · · · fo34_6 rfl)) ?_
  refine sG 66 (bV t0.mMore) rfl rfl (fun e44 => (v_load_dp1 rfl · · · onT4 (gv e44) rfl)) ?_
  refine sG 67 (.d (.dp (List.drop 8 (eAnswer t1)))) rfl rfl (fun e45 => (v_field_dp (a0 := 8) (cs := (eAnswer t1)) rfl · · · fo34_6 rfl)) ?_
  refine sG 68 (bV t1.mMore) rfl rfl (fun e46 => (v_load_dp1 rfl · · · onT4 (gv e46) rfl)) ?_
  refine sG 69 (bV (t0.mMore == t1.mMore)) rfl rfl (fun e47 => (v_bin rfl · · · (gv e47) (gv e47) (b_eqB und4 rfl))) ?_
  refine sT 70 (bV ((((((eqI t0.mErr t1.mErr) && (qStamp t0.mAt t1.mAt)) && (t0.mFound == t1.mFound)) && (strEq t0.mValue t1.mValue)) && (strEq t0.mNext t1.mNext)) && (t0.mMore == t1.mMore))) rfl (v_pickB rfl · · · rfl (fun e48 => (gv e48)) (fun e49 => rfl) (pA _ _)) ?_
  refine sM 4 (bV ((((((eqI t0.mErr t1.mErr) && (qStamp t0.mAt t1.mAt)) && (t0.mFound == t1.mFound)) && (strEq t0.mValue t1.mValue)) && (strEq t0.mNext t1.mNext)) && (t0.mMore == t1.mMore))) rfl rfl ?_
  refine sq_nil ?_
  refine ht_ret ?_
  cases h
  exact ret1 rfl (.tmp rfl)
 refine sr ?_
 refine sM 5 (iV 0) rfl rfl ?_
 refine sq_nil ?_
 refine ht_block ?_
 refine ht_rd h (fun _ => rfl) (fun t5 => tell [(.t 2, .d (.dp (eAnswer t0))), (.t 3, .d (.dp (eAnswer t1))), (.t 5, iV t5)]) (wk_ren _ (fun i => i) rfl ⟨rfl, rfl, rfl, trivial⟩) fun k t5 h K14 j8 => ?_
 rw [F19_l1] at h
 refine ht_seq ?_
 refine sr ?_
 refine sM 13 (iV t5) rfl rfl ?_
 refine sT 14 (.d (.dp (List.drop 6 (eAnswer t0)))) rfl (v_field_dp (a0 := 6) (cs := (eAnswer t0)) rfl · · · fo34_4 rfl) ?_
 refine sT 15 (.d (.sl 2 (t0.mItems.map eItem))) rfl (v_load_dp1 rfl · · · onT32 rfl rfl) ?_
 refine sT 16 (iV (t0.mItems.length : Int)) rfl (w_len t0.mItems eItem rfl rfl · · · slT32 rfl) ?_
 refine sT 17 (bV (ltI t5 (t0.mItems.length : Int))) rfl (v_bin rfl · · · rfl rfl (b_lss rfl)) ?_
 refine sq_nil ?_
 refine ht_cond rfl (fun e10 => ?_) (fun e10 => ?_)
 ·replace h := cpos e10 h
  refine ht_skip ?_
  refine ht_seq ?_
  refine ht_block ?_
  refine ht_seq ?_
  refine ht_region_draw mixed ?_
  refine rT 20 (.d (.dp (List.drop 6 (eAnswer t0)))) rfl (v_field_dp (a0 := 6) (cs := (eAnswer t0)) rfl · · · fo34_4 rfl) ?_
  refine rT 21 (.d (.sl 2 (t0.mItems.map eItem))) rfl (v_load_dp1 rfl · · · onT32 rfl rfl) ?_
  refine rM 22 (iV t5) rfl rfl ?_
  obtain ⟨e11, h⟩ := gpos h
  refine rT 23 (.d (.dp (eItem (rd t0.mItems t5)))) rfl (w_idx t0.mItems eItem rfl · · · slT32 rfl rfl e11) ?_
  refine rT 24 (.d (.agg (eItem (rd t0.mItems t5)))) rfl (w_ldp (eItem (rd t0.mItems t5)) (eItem (rd t0.mItems t5)) rfl · · · ag110 rfl (ble _ _ rfl) rfl) ?_
  refine rT 25 (.d (.dp (List.drop 6 (eAnswer t1)))) rfl (v_field_dp (a0 := 6) (cs := (eAnswer t1)) rfl · · · fo34_4 rfl) ?_
  refine rT 26 (.d (.sl 2 (t1.mItems.map eItem))) rfl (v_load_dp1 rfl · · · onT32 rfl rfl) ?_
  refine rM 27 (iV t5) rfl rfl ?_
  obtain ⟨e12, h⟩ := gpos h
  refine rT 28 (.d (.dp (eItem (rd t1.mItems t5)))) rfl (w_idx t1.mItems eItem rfl · · · slT32 rfl rfl e12) ?_
  refine rT 29 (.d (.agg (eItem (rd t1.mItems t5)))) rfl (w_ldp (eItem (rd t1.mItems t5)) (eItem (rd t1.mItems t5)) rfl · · · ag110 rfl (ble _ _ rfl) rfl) ?_
  refine rT 30 (bV (!(qItem (rd t0.mItems t5) (rd t1.mItems t5)))) rfl (v_bin_neq (f := eItem) rfl · · · rfl rfl rfl rfl eg110 (eq110 _ _)) ?_
  refine rg_nil ⟨by kernel_rfl, ?_⟩
  refine ht_cond rfl (fun e13 => ?_) (fun e13 => ?_)
  ·replace h := cpos e13 h
   refine sr ?_
   refine sM 4 (bV false) rfl rfl ?_
   refine sq_nil ?_
   refine ht_ret ?_
   cases h
   cases r6 _ rfl
   exact ret1 rfl (.tmp rfl)
  replace h := cneg e13 h
  refine ht_skip ?_
  refine ht_region ?_
  refine sM 18 (iV t5) rfl rfl ?_
  refine sT 19 (iV (IntKind.wrap .i64 (t5 + 1))) rfl (v_bin rfl · · · rfl rfl (b_add rfl)) ?_
  refine sM 5 (iV (IntKind.wrap .i64 (t5 + 1))) rfl rfl ?_
  refine sq_nil ?_
  exact j8 _ _ h (wk_ren _ (fun i => i) rfl ⟨rfl, rfl, rfl, trivial⟩)
 replace h := cneg e10 h
 refine ht_exit ?_
 refine tq ?_
 refine tq ?_
 refine bq_hit ?_
 cases h
 exact j5 _ _ rfl (wk_ren _ (fun i => i) rfl ⟨rfl, rfl, trivial⟩)
theorem s41 (k : Nat) (t0 : List Done) (t1 : List Done) (r : Bool) (h : F41 k t0 t1 = some r) : Awp.Spec Tryz.prog amb 41 [(.sl 11 (t0.map eDone)), (.sl 11 (t1.map eDone))] (.ds [(.s (.bool r))]) := by
 rw [F41] at h
 refine spec_of Tryz.func41 rfl (ble _ _ rfl) fun w0 ok0 lt0 hA => ?_
 refine sr ?_
 refine sM 4 (bV false) rfl rfl ?_
 refine sq_nil ?_
 refine ht_seq ?_
 refine sr ?_
 refine sM 6 (.d (.sl 11 (t0.map eDone))) rfl rfl ?_
 refine sT 7 (iV (t0.length : Int)) rfl (w_len t0 eDone rfl rfl · · · slT43 rfl) ?_
 refine sM 8 (.d (.sl 11 (t1.map eDone))) rfl rfl ?_
 refine sT 9 (iV (t1.length : Int)) rfl (w_len t1 eDone rfl rfl · · · slT43 rfl) ?_
 refine sT 10 (bV (!eqI (t0.length : Int) (t1.length : Int))) rfl (v_bin rfl · · · rfl rfl (b_neq rfl)) ?_
 refine sq_nil ?_
 refine ht_cond rfl (fun e1 => ?_) (fun e1 => ?_)
 ·replace h := cpos e1 h
  refine sr ?_
  refine sM 4 (bV false) rfl rfl ?_
  refine sq_nil ?_
  refine ht_ret ?_
  cases h
  exact ret1 rfl (.tmp rfl)
 replace h := cneg e1 h
 refine ht_skip ?_
 refine ht_gj (go_id' h) (fun _ => tell []) (fun _ h => ?_) (fun v2 K3 h j5 r6 => ?_)
 ·refine sr ?_
  refine sM 4 (bV true) rfl rfl ?_
  refine sq_nil ?_
  refine ht_ret ?_
  cases h
  exact ret1 rfl (.tmp rfl)
 refine sr ?_
 refine sM 5 (iV 0) rfl rfl ?_
 refine sq_nil ?_
 refine ht_block ?_
 refine ht_rd h (fun _ => rfl) (fun t5 => tell [(.t 0, .d (.sl 11 (t0.map eDone))), (.t 1, .d (.sl 11 (t1.map eDone))), (.t 5, iV t5)]) (wk_ren _ (fun i => i) rfl ⟨rfl, rfl, rfl, trivial⟩) fun k t5 h K46 j8 => ?_
 rw [F41_l1] at h
 refine ht_seq ?_
 refine sr ?_
 refine sM 11 (iV t5) rfl rfl ?_
 refine sM 12 (.d (.sl 11 (t0.map eDone))) rfl rfl ?_
 refine sT 13 (iV (t0.length : Int)) rfl (w_len t0 eDone rfl rfl · · · slT43 rfl) ?_
 refine sT 14 (bV (ltI t5 (t0.length : Int))) rfl (v_bin rfl · · · rfl rfl (b_lss rfl)) ?_
 refine sq_nil ?_
 refine ht_cond rfl (fun e10 => ?_) (fun e10 => ?_)
 ·replace h := cpos e10 h
  refine ht_skip ?_
  refine ht_seq ?_
  refine ht_block ?_
  refine ht_seq ?_
  refine ht_region_draw mixed ?_
  refine rM 17 (.d (.sl 11 (t0.map eDone))) rfl rfl ?_
  refine rM 18 (iV t5) rfl rfl ?_
  obtain ⟨e11, h⟩ := gpos h
  refine rT 19 (.d (.dp (eDone (rd t0 t5)))) rfl (w_idx t0 eDone rfl · · · slT43 rfl rfl e11) ?_
  refine rT 20 (.d (.dp (eDone (rd t0 t5)))) rfl (v_field_dp (a0 := 0) (cs := (eDone (rd t0 t5))) rfl · · · fo100_0 rfl) ?_
  refine rT 21 (iV (rd t0 t5).mClient) rfl (v_load_dp1 rfl · · · onT3 rfl rfl) ?_
  refine rM 22 (.d (.sl 11 (t1.map eDone))) rfl rfl ?_
  refine rM 23 (iV t5) rfl rfl ?_
  obtain ⟨e12, h⟩ := gpos h
  refine rT 24 (.d (.dp (eDone (rd t1 t5)))) rfl (w_idx t1 eDone rfl · · · slT43 rfl rfl e12) ?_
  refine rT 25 (.d (.dp (eDone (rd t1 t5)))) rfl (v_field_dp (a0 := 0) (cs := (eDone (rd t1 t5))) rfl · · · fo100_0 rfl) ?_
  refine rT 26 (iV (rd t1 t5).mClient) rfl (v_load_dp1 rfl · · · onT3 rfl rfl) ?_
  refine rT 27 (bV (!eqI (rd t0 t5).mClient (rd t1 t5).mClient)) rfl (v_bin rfl · · · rfl rfl (b_neq rfl)) ?_
  refine rM 28 (bV (!eqI (rd t0 t5).mClient (rd t1 t5).mClient)) rfl rfl ?_
  refine rF 29 (.d (.sl 11 (t0.map eDone))) rfl rfl (fun e13 => (v_move (.inl rfl) · · · rfl)) ?_
  refine rF 30 (iV t5) rfl rfl (fun e14 => (v_move (.inl rfl) · · · rfl)) ?_
  obtain ⟨e16, h⟩ := gpos h
  refine rF 31 (.d (.dp (eDone (rd t0 t5)))) rfl rfl (fun e15 => (w_idx t0 eDone rfl · · · slT43 (gv (nF e15)) (gv (nF e15)) (orT e16 (nF e15)))) ?_
  refine rF 32 (.d (.dp (List.drop 1 (eDone (rd t0 t5))))) rfl rfl (fun e17 => (v_field_dp (a0 := 1) (cs := (eDone (rd t0 t5))) rfl · · · fo100_1 (gv (nF e17)))) ?_
  refine rF 33 (iV (rd t0 t5).mReq) rfl rfl (fun e18 => (v_load_dp1 rfl · · · onT3 (gv (nF e18)) rfl)) ?_
  refine rF 34 (.d (.sl 11 (t1.map eDone))) rfl rfl (fun e19 => (v_move (.inl rfl) · · · rfl)) ?_
  refine rF 35 (iV t5) rfl rfl (fun e20 => (v_move (.inl rfl) · · · rfl)) ?_
  obtain ⟨e22, h⟩ := gpos h
  refine rF 36 (.d (.dp (eDone (rd t1 t5)))) rfl rfl (fun e21 => (w_idx t1 eDone rfl · · · slT43 (gv (nF e21)) (gv (nF e21)) (orT e22 (nF e21)))) ?_
  refine rF 37 (.d (.dp (List.drop 1 (eDone (rd t1 t5))))) rfl rfl (fun e23 => (v_field_dp (a0 := 1) (cs := (eDone (rd t1 t5))) rfl · · · fo100_1 (gv (nF e23)))) ?_
  refine rF 38 (iV (rd t1 t5).mReq) rfl rfl (fun e24 => (v_load_dp1 rfl · · · onT3 (gv (nF e24)) rfl)) ?_
  refine rF 39 (bV (!eqI (rd t0 t5).mReq (rd t1 t5).mReq)) rfl rfl (fun e25 => (v_bin rfl · · · (gv (nF e25)) (gv (nF e25)) (b_neq rfl))) ?_
  refine rT 40 (bV ((!eqI (rd t0 t5).mClient (rd t1 t5).mClient) || (!eqI (rd t0 t5).mReq (rd t1 t5).mReq))) rfl (v_pickB rfl · · · rfl (fun e26 => rfl) (fun e27 => (gv (nF e27))) (pO _ _)) ?_
  refine rM 41 (bV ((!eqI (rd t0 t5).mClient (rd t1 t5).mClient) || (!eqI (rd t0 t5).mReq (rd t1 t5).mReq))) rfl rfl ?_
  refine rF 42 (.d (.sl 11 (t0.map eDone))) rfl rfl (fun e28 => (v_move (.inl rfl) · · · rfl)) ?_
  refine rF 43 (iV t5) rfl rfl (fun e29 => (v_move (.inl rfl) · · · rfl)) ?_
  obtain ⟨e31, h⟩ := gpos h
  refine rF 44 (.d (.dp (eDone (rd t0 t5)))) rfl rfl (fun e30 => (w_idx t0 eDone rfl · · · slT43 (gv (nF e30)) (gv (nF e30)) (orT e31 (nF e30)))) ?_
  refine rF 45 (.d (.dp (List.drop 2 (eDone (rd t0 t5))))) rfl rfl (fun e32 => (v_field_dp (a0 := 2) (cs := (eDone (rd t0 t5))) rfl · · · fo100_2 (gv (nF e32)))) ?_
  refine rF 46 (.d (.agg (eAnswer (rd t0 t5).mAnswer))) rfl rfl (fun e33 => (w_ldp (List.drop 2 (eDone (rd t0 t5))) (eAnswer (rd t0 t5).mAnswer) rfl · · · ag34 (gv (nF e33)) (ble _ _ rfl) rfl)) ?_
  refine rF 47 (.d (.sl 11 (t1.map eDone))) rfl rfl (fun e34 => (v_move (.inl rfl) · · · rfl)) ?_
  refine rF 48 (iV t5) rfl rfl (fun e35 => (v_move (.inl rfl) · · · rfl)) ?_
  obtain ⟨e37, h⟩ := gpos h
  refine rF 49 (.d (.dp (eDone (rd t1 t5)))) rfl rfl (fun e36 => (w_idx t1 eDone rfl · · · slT43 (gv (nF e36)) (gv (nF e36)) (orT e37 (nF e36)))) ?_
  refine rF 50 (.d (.dp (List.drop 2 (eDone (rd t1 t5))))) rfl rfl (fun e38 => (v_field_dp (a0 := 2) (cs := (eDone (rd t1 t5))) rfl · · · fo100_2 (gv (nF e38)))) ?_
  refine rF 51 (.d (.agg (eAnswer (rd t1 t5).mAnswer))) rfl rfl (fun e39 => (w_ldp (List.drop 2 (eDone (rd t1 t5))) (eAnswer (rd t1 t5).mAnswer) rfl · · · ag34 (gv (nF e39)) (ble _ _ rfl) rfl)) ?_
  obtain ⟨t52, c41, h⟩ := bpos h
  refine rF 52 (bV t52) rfl rfl (fun e40 => (w_call (ds := [(.agg (eAnswer (rd t0 t5).mAnswer)), (.agg (eAnswer (rd t1 t5).mAnswer))]) (caps := []) (l := [(.s (.bool t52))]) (s19 k (rd t0 t5).mAnswer (rd t1 t5).mAnswer _ (cpos (nF e40) c41)) rfl rfl rfl en19 · · · (.inl ⟨rfl, rfl⟩) (cc (gv (nF e40)) (cc (gv (nF e40)) rfl)) rfl)) ?_
  refine rF 53 (bV (!t52)) rfl rfl (fun e42 => (v_un rfl · · · (gv (nF e42)) (u_not rfl))) ?_
  refine rT 54 (bV (((!eqI (rd t0 t5).mClient (rd t1 t5).mClient) || (!eqI (rd t0 t5).mReq (rd t1 t5).mReq)) || (!t52))) rfl (v_pickB rfl · · · rfl (fun e43 => rfl) (fun e44 => (gv (nF e44))) (pO _ _)) ?_
  refine rg_nil ⟨by kernel_rfl, ?_⟩
  refine ht_cond rfl (fun e45 => ?_) (fun e45 => ?_)
  ·replace h := cpos e45 h
   refine sr ?_
   refine sM 4 (bV false) rfl rfl ?_
   refine sq_nil ?_
   refine ht_ret ?_
   cases h
   cases r6 _ rfl
   exact ret1 rfl (.tmp rfl)
  replace h := cneg e45 h
  refine ht_skip ?_
  refine ht_region ?_
  refine sM 15 (iV t5) rfl rfl ?_
  refine sT 16 (iV (IntKind.wrap .i64 (t5 + 1))) rfl (v_bin rfl · · · rfl rfl (b_add rfl)) ?_
  refine sM 5 (iV (IntKind.wrap .i64 (t5 + 1))) rfl rfl ?_
  refine sq_nil ?_
  exact j8 _ _ h (wk_ren _ (fun i => i) rfl ⟨rfl, rfl, rfl, trivial⟩)
 replace h := cneg e10 h
 refine ht_exit ?_
 refine tq ?_
 refine tq ?_
 refine bq_hit ?_
 cases h
 exact j5 _ _ rfl (wk_ren _ (fun i => i) rfl trivial)
theorem s26 (k : Nat) (t0 : Shard) (t1 : Shard) (r : Bool) (h : F26 k t0 t1 = some r) : Awp.Spec Tryz.prog amb 26 [(.agg (eShard t0)), (.agg (eShard t1))] (.ds [(.s (.bool r))]) := by
 rw [F26] at h
 refine spec_of Tryz.func26 rfl (ble _ _ rfl) fun w0 ok0 lt0 hA => ?_
 refine sr ?_
 refine sT 2 (.d (.dp (eShard t0))) rfl (v_box_d (cs := (eShard t0)) rfl · · · rfl rfl (ones_of rfl)) ?_
 refine sT 3 (.d (.dp (eShard t1))) rfl (v_box_d (cs := (eShard t1)) rfl · · · rfl rfl (ones_of rfl)) ?_
 refine sM 4 (bV false) rfl rfl ?_
 refine sq_nil ?_
 refine sr ?_
 refine sT 5 (.d (.dp (eShard t0))) rfl (v_field_dp (a0 := 0) (cs := (eShard t0)) rfl · · · fo45_0 rfl) ?_
 refine sT 6 (iV t0.mID) rfl (v_load_dp1 rfl · · · onT3 rfl rfl) ?_
 refine sT 7 (.d (.dp (eShard t1))) rfl (v_field_dp (a0 := 0) (cs := (eShard t1)) rfl · · · fo45_0 rfl) ?_
 refine sT 8 (iV t1.mID) rfl (v_load_dp1 rfl · · · onT3 rfl rfl) ?_
 refine sT 9 (bV (eqI t0.mID t1.mID)) rfl (v_bin rfl · · · rfl rfl (b_eql rfl)) ?_
 refine sM 10 (bV (eqI t0.mID t1.mID)) rfl rfl ?_
 refine sG 11 (.d (.dp (List.drop 1 (eShard t0)))) rfl rfl (fun e1 => (v_field_dp (a0 := 1) (cs := (eShard t0)) rfl · · · fo45_1 rfl)) ?_
 refine sG 12 (iV t0.mEpoch) rfl rfl (fun e2 => (v_load_dp1 rfl · · · onT3 (gv e2) rfl)) ?_
 refine sG 13 (.d (.dp (List.drop 1 (eShard t1)))) rfl rfl (fun e3 => (v_field_dp (a0 := 1) (cs := (eShard t1)) rfl · · · fo45_1 rfl)) ?_
 refine sG 14 (iV t1.mEpoch) rfl rfl (fun e4 => (v_load_dp1 rfl · · · onT3 (gv e4) rfl)) ?_
 refine sG 15 (bV (eqI t0.mEpoch t1.mEpoch)) rfl rfl (fun e5 => (v_bin rfl · · · (gv e5) (gv e5) (b_eql rfl))) ?_
 refine sT 16 (bV ((eqI t0.mID t1.mID) && (eqI t0.mEpoch t1.mEpoch))) rfl (v_pickB rfl · · · rfl (fun e6 => (gv e6)) (fun e7 => rfl) (pA _ _)) ?_
 refine sM 17 (bV ((eqI t0.mID t1.mID) && (eqI t0.mEpoch t1.mEpoch))) rfl rfl ?_
 refine sG 18 (.d (.dp (List.drop 2 (eShard t0)))) rfl rfl (fun e8 => (v_field_dp (a0 := 2) (cs := (eShard t0)) rfl · · · fo45_2 rfl)) ?_
 refine sG 19 (.d (.agg (eSpan t0.mSpan))) rfl rfl (fun e9 => (w_ldp (List.drop 2 (eShard t0)) (eSpan t0.mSpan) rfl · · · ag41 (gv e9) (ble _ _ rfl) rfl)) ?_
 refine sG 20 (.d (.dp (List.drop 2 (eShard t1)))) rfl rfl (fun e10 => (v_field_dp (a0 := 2) (cs := (eShard t1)) rfl · · · fo45_2 rfl)) ?_
 refine sG 21 (.d (.agg (eSpan t1.mSpan))) rfl rfl (fun e11 => (w_ldp (List.drop 2 (eShard t1)) (eSpan t1.mSpan) rfl · · · ag41 (gv e11) (ble _ _ rfl) rfl)) ?_
 refine sG 22 (bV (qSpan t0.mSpan t1.mSpan)) rfl rfl (fun e12 => (v_bin_eql (f := eSpan) rfl · · · (gv e12) (gv e12) rfl rfl eg41 (eq41 _ _))) ?_
 refine sT 23 (bV (((eqI t0.mID t1.mID) && (eqI t0.mEpoch t1.mEpoch)) && (qSpan t0.mSpan t1.mSpan))) rfl (v_pickB rfl · · · rfl (fun e13 => (gv e13)) (fun e14 => rfl) (pA _ _)) ?_
 refine sM 24 (bV (((eqI t0.mID t1.mID) && (eqI t0.mEpoch t1.mEpoch)) && (qSpan t0.mSpan t1.mSpan))) rfl rfl ?_
 refine sG 25 (.d (.dp (List.drop 4 (eShard t0)))) rfl rfl (fun e15 => (v_field_dp (a0 := 4) (cs := (eShard t0)) rfl · · · fo45_3 rfl)) ?_
 refine sG 26 (iV t0.mPhase) rfl rfl (fun e16 => (v_load_dp1 rfl · · · onT3 (gv e16) rfl)) ?_
 refine sG 27 (.d (.dp (List.drop 4 (eShard t1)))) rfl rfl (fun e17 => (v_field_dp (a0 := 4) (cs := (eShard t1)) rfl · · · fo45_3 rfl)) ?_
 refine sG 28 (iV t1.mPhase) rfl rfl (fun e18 => (v_load_dp1 rfl · · · onT3 (gv e18) rfl)) ?_
 refine sG 29 (bV (eqI t0.mPhase t1.mPhase)) rfl rfl (fun e19 => (v_bin rfl · · · (gv e19) (gv e19) (b_eql rfl))) ?_
 refine sT 30 (bV ((((eqI t0.mID t1.mID) && (eqI t0.mEpoch t1.mEpoch)) && (qSpan t0.mSpan t1.mSpan)) && (eqI t0.mPhase t1.mPhase))) rfl (v_pickB rfl · · · rfl (fun e20 => (gv e20)) (fun e21 => rfl) (pA _ _)) ?_
 refine sM 31 (bV ((((eqI t0.mID t1.mID) && (eqI t0.mEpoch t1.mEpoch)) && (qSpan t0.mSpan t1.mSpan)) && (eqI t0.mPhase t1.mPhase))) rfl rfl ?_
 refine sG 32 (.d (.dp (List.drop 5 (eShard t0)))) rfl rfl (fun e22 => (v_field_dp (a0 := 5) (cs := (eShard t0)) rfl · · · fo45_4 rfl)) ?_
 refine sG 33 (.d (.sl 2 (t0.mEntries.map eEntry))) rfl rfl (fun e23 => (v_load_dp1 rfl · · · onT42 (gv e23) rfl)) ?_
 refine sG 34 (.d (.dp (List.drop 5 (eShard t1)))) rfl rfl (fun e24 => (v_field_dp (a0 := 5) (cs := (eShard t1)) rfl · · · fo45_4 rfl)) ?_
 refine sG 35 (.d (.sl 2 (t1.mEntries.map eEntry))) rfl rfl (fun e25 => (v_load_dp1 rfl · · · onT42 (gv e25) rfl)) ?_
 obtain ⟨t36, c27, h⟩ := bpos h
 refine sG 36 (bV t36) rfl rfl (fun e26 => (w_call (ds := [(.sl 2 (t0.mEntries.map eEntry)), (.sl 2 (t1.mEntries.map eEntry))]) (caps := []) (l := [(.s (.bool t36))]) (s40 k t0.mEntries t1.mEntries _ (cpos e26 c27)) rfl rfl rfl en40 · · · (.inl ⟨rfl, rfl⟩) (cc (gv e26) (cc (gv e26) rfl)) rfl)) ?_
 refine sT 37 (bV (((((eqI t0.mID t1.mID) && (eqI t0.mEpoch t1.mEpoch)) && (qSpan t0.mSpan t1.mSpan)) && (eqI t0.mPhase t1.mPhase)) && t36)) rfl (v_pickB rfl · · · rfl (fun e28 => (gv e28)) (fun e29 => rfl) (pA _ _)) ?_
 refine sM 38 (bV (((((eqI t0.mID t1.mID) && (eqI t0.mEpoch t1.mEpoch)) && (qSpan t0.mSpan t1.mSpan)) && (eqI t0.mPhase t1.mPhase)) && t36)) rfl rfl ?_
 refine sG 39 (.d (.dp (List.drop 6 (eShard t0)))) rfl rfl (fun e30 => (v_field_dp (a0 := 6) (cs := (eShard t0)) rfl · · · fo45_5 rfl)) ?_
 refine sG 40 (.d (.agg (eStamp t0.mMark))) rfl rfl (fun e31 => (w_ldp (List.drop 6 (eShard t0)) (eStamp t0.mMark) rfl · · · ag24 (gv e31) (ble _ _ rfl) rfl)) ?_
 refine sG 41 (.d (.dp (List.drop 6 (eShard t1)))) rfl rfl (fun e32 => (v_field_dp (a0 := 6) (cs := (eShard t1)) rfl · · · fo45_5 rfl)) ?_
 refine sG 42 (.d (.agg (eStamp t1.mMark))) rfl rfl (fun e33 => (w_ldp (List.drop 6 (eShard t1)) (eStamp t1.mMark) rfl · · · ag24 (gv e33) (ble _ _ rfl) rfl)) ?_
 refine sG 43 (bV (qStamp t0.mMark t1.mMark)) rfl rfl (fun e34 => (v_bin_eql (f := eStamp) rfl · · · (gv e34) (gv e34) rfl rfl eg24 (eq24 _ _))) ?_
 refine sT 44 (bV ((((((eqI t0.mID t1.mID) && (eqI t0.mEpoch t1.mEpoch)) && (qSpan t0.mSpan t1.mSpan)) && (eqI t0.mPhase t1.mPhase)) && t36) && (qStamp t0.mMark t1.mMark))) rfl (v_pickB rfl · · · rfl (fun e35 => (gv e35)) (fun e36 => rfl) (pA _ _)) ?_
 refine sM 45 (bV ((((((eqI t0.mID t1.mID) && (eqI t0.mEpoch t1.mEpoch)) && (qSpan t0.mSpan t1.mSpan)) && (eqI t0.mPhase t1.mPhase)) && t36) && (qStamp t0.mMark t1.mMark))) rfl rfl ?_
 refine sG 46 (.d (.dp (List.drop 9 (eShard t0)))) rfl rfl (fun e37 => (v_field_dp (a0 := 9) (cs := (eShard t0)) rfl · · · fo45_6 rfl)) ?_
 refine sG 47 (.d (.agg (eStamp t0.mTop))) rfl rfl (fun e38 => (w_ldp (List.drop 9 (eShard t0)) (eStamp t0.mTop) rfl · · · ag24 (gv e38) (ble _ _ rfl) rfl)) ?_
 refine sG 48 (.d (.dp (List.drop 9 (eShard t1)))) rfl rfl (fun e39 => (v_field_dp (a0 := 9) (cs := (eShard t1)) rfl · · · fo45_6 rfl)) ?_
 refine sG 49 (.d (.agg (eStamp t1.mTop))) rfl rfl (fun e40 => (w_ldp (List.drop 9 (eShard t1)) (eStamp t1.mTop) rfl · · · ag24 (gv e40) (ble _ _ rfl) rfl)) ?_
 refine sG 50 (bV (qStamp t0.mTop t1.mTop)) rfl rfl (fun e41 => (v_bin_eql (f := eStamp) rfl · · · (gv e41) (gv e41) rfl rfl eg24 (eq24 _ _))) ?_
 refine sT 51 (bV (((((((eqI t0.mID t1.mID) && (eqI t0.mEpoch t1.mEpoch)) && (qSpan t0.mSpan t1.mSpan)) && (eqI t0.mPhase t1.mPhase)) && t36) && (qStamp t0.mMark t1.mMark)) && (qStamp t0.mTop t1.mTop))) rfl (v_pickB rfl · · · rfl (fun e42 => (gv e42)) (fun e43 => rfl) (pA _ _)) ?_
 refine sM 52 (bV (((((((eqI t0.mID t1.mID) && (eqI t0.mEpoch t1.mEpoch)) && (qSpan t0.mSpan t1.mSpan)) && (eqI t0.mPhase t1.mPhase)) && t36) && (qStamp t0.mMark t1.mMark)) && (qStamp t0.mTop t1.mTop))) rfl rfl ?_
 refine sG 53 (.d (.dp (List.drop 12 (eShard t0)))) rfl rfl (fun e44 => (v_field_dp (a0 := 12) (cs := (eShard t0)) rfl · · · fo45_7 rfl)) ?_
 refine sG 54 (.d (.sl 11 (t0.mDone.map eDone))) rfl rfl (fun e45 => (v_load_dp1 rfl · · · onT43 (gv e45) rfl)) ?_
 refine sG 55 (.d (.dp (List.drop 12 (eShard t1)))) rfl rfl (fun e46 => (v_field_dp (a0 := 12) (cs := (eShard t1)) rfl · · · fo45_7 rfl)) ?_
 refine sG 56 (.d (.sl 11 (t1.mDone.map eDone))) rfl rfl (fun e47 => (v_load_dp1 rfl · · · onT43 (gv e47) rfl)) ?_
 obtain ⟨t57, c49, h⟩ := bpos h
 refine sG 57 (bV t57) rfl rfl (fun e48 => (w_call (ds := [(.sl 11 (t0.mDone.map eDone)), (.sl 11 (t1.mDone.map eDone))]) (caps := []) (l := [(.s (.bool t57))]) (s41 k t0.mDone t1.mDone _ (cpos e48 c49)) rfl rfl rfl en41 · · · (.inl ⟨rfl, rfl⟩) (cc (gv e48) (cc (gv e48) rfl)) rfl)) ?_
 refine sT 58 (bV ((((((((eqI t0.mID t1.mID) && (eqI t0.mEpoch t1.mEpoch)) && (qSpan t0.mSpan t1.mSpan)) && (eqI t0.mPhase t1.mPhase)) && t36) && (qStamp t0.mMark t1.mMark)) && (qStamp t0.mTop t1.mTop)) && t57)) rfl (v_pickB rfl · · · rfl (fun e50 => (gv e50)) (fun e51 => rfl) (pA _ _)) ?_
 refine sM 59 (bV ((((((((eqI t0.mID t1.mID) && (eqI t0.mEpoch t1.mEpoch)) && (qSpan t0.mSpan t1.mSpan)) && (eqI t0.mPhase t1.mPhase)) && t36) && (qStamp t0.mMark t1.mMark)) && (qStamp t0.mTop t1.mTop)) && t57)) rfl rfl ?_
 refine sG 60 (.d (.dp (List.drop 13 (eShard t0)))) rfl rfl (fun e52 => (v_field_dp (a0 := 13) (cs := (eShard t0)) rfl · · · fo45_8 rfl)) ?_
 refine sG 61 (iV t0.mHold) rfl rfl (fun e53 => (v_load_dp1 rfl · · · onT3 (gv e53) rfl)) ?_
 refine sG 62 (.d (.dp (List.drop 13 (eShard t1)))) rfl rfl (fun e54 => (v_field_dp (a0 := 13) (cs := (eShard t1)) rfl · · · fo45_8 rfl)) ?_
 refine sG 63 (iV t1.mHold) rfl rfl (fun e55 => (v_load_dp1 rfl · · · onT3 (gv e55) rfl)) ?_
 refine sG 64 (bV (eqI t0.mHold t1.mHold)) rfl rfl (fun e56 => (v_bin rfl · · · (gv e56) (gv e56) (b_eql rfl))) ?_
 refine sT 65 (bV (((((((((eqI t0.mID t1.mID) && (eqI t0.mEpoch t1.mEpoch)) && (qSpan t0.mSpan t1.mSpan)) && (eqI t0.mPhase t1.mPhase)) && t36) && (qStamp t0.mMark t1.mMark)) && (qStamp t0.mTop t1.mTop)) && t57) && (eqI t0.mHold t1.mHold))) rfl (v_pickB rfl · · · rfl (fun e57 => (gv e57)) (fun e58 => rfl) (pA _ _)) ?_
 refine sM 66 (bV (((((((((eqI t0.mID t1.mID) && (eqI t0.mEpoch t1.mEpoch)) && (qSpan t0.mSpan t1.mSpan)) && (eqI t0.mPhase t1.mPhase)) && t36) && (qStamp t0.mMark t1.mMark)) && (qStamp t0.mTop t1.mTop)) && t57) && (eqI t0.mHold t1.mHold))) rfl rfl ?_
 refine sG 67 (.d (.dp (List.drop 14 (eShard t0)))) rfl rfl (fun e59 => (v_field_dp (a0 := 14) (cs := (eShard t0)) rfl · · · fo45_9 rfl)) ?_
 refine sG 68 (iV t0.mSeen) rfl rfl (fun e60 => (v_load_dp1 rfl · · · onT3 (gv e60) rfl)) ?_
 refine sG 69 (.d (.dp (List.drop 14 (eShard t1)))) rfl rfl (fun e61 => (v_field_dp (a0 := 14) (cs := (eShard t1)) rfl · · · fo45_9 rfl)) ?_
 refine sG 70 (iV t1.mSeen) rfl rfl (fun e62 => (v_load_dp1 rfl · · · onT3 (gv e62) rfl)) ?_
 refine sG 71 (bV (eqI t0.mSeen t1.mSeen)) rfl rfl (fun e63 => (v_bin rfl · · · (gv e63) (gv e63) (b_eql rfl))) ?_
 refine sT 72 (bV ((((((((((eqI t0.mID t1.mID) && (eqI t0.mEpoch t1.mEpoch)) && (qSpan t0.mSpan t1.mSpan)) && (eqI t0.mPhase t1.mPhase)) && t36) && (qStamp t0.mMark t1.mMark)) && (qStamp t0.mTop t1.mTop)) && t57) && (eqI t0.mHold t1.mHold)) && (eqI t0.mSeen t1.mSeen))) rfl (v_pickB rfl · · · rfl (fun e64 => (gv e64)) (fun e65 => rfl) (pA _ _)) ?_
 refine sM 73 (bV ((((((((((eqI t0.mID t1.mID) && (eqI t0.mEpoch t1.mEpoch)) && (qSpan t0.mSpan t1.mSpan)) && (eqI t0.mPhase t1.mPhase)) && t36) && (qStamp t0.mMark t1.mMark)) && (qStamp t0.mTop t1.mTop)) && t57) && (eqI t0.mHold t1.mHold)) && (eqI t0.mSeen t1.mSeen))) rfl rfl ?_
 refine sG 74 (.d (.dp (List.drop 15 (eShard t0)))) rfl rfl (fun e66 => (v_field_dp (a0 := 15) (cs := (eShard t0)) rfl · · · fo45_10 rfl)) ?_
 refine sG 75 (iV t0.mMove) rfl rfl (fun e67 => (v_load_dp1 rfl · · · onT3 (gv e67) rfl)) ?_
 refine sG 76 (.d (.dp (List.drop 15 (eShard t1)))) rfl rfl (fun e68 => (v_field_dp (a0 := 15) (cs := (eShard t1)) rfl · · · fo45_10 rfl)) ?_
 refine sG 77 (iV t1.mMove) rfl rfl (fun e69 => (v_load_dp1 rfl · · · onT3 (gv e69) rfl)) ?_
 refine sG 78 (bV (eqI t0.mMove t1.mMove)) rfl rfl (fun e70 => (v_bin rfl · · · (gv e70) (gv e70) (b_eql rfl))) ?_
 refine sT 79 (bV (((((((((((eqI t0.mID t1.mID) && (eqI t0.mEpoch t1.mEpoch)) && (qSpan t0.mSpan t1.mSpan)) && (eqI t0.mPhase t1.mPhase)) && t36) && (qStamp t0.mMark t1.mMark)) && (qStamp t0.mTop t1.mTop)) && t57) && (eqI t0.mHold t1.mHold)) && (eqI t0.mSeen t1.mSeen)) && (eqI t0.mMove t1.mMove))) rfl (v_pickB rfl · · · rfl (fun e71 => (gv e71)) (fun e72 => rfl) (pA _ _)) ?_
 refine sM 80 (bV (((((((((((eqI t0.mID t1.mID) && (eqI t0.mEpoch t1.mEpoch)) && (qSpan t0.mSpan t1.mSpan)) && (eqI t0.mPhase t1.mPhase)) && t36) && (qStamp t0.mMark t1.mMark)) && (qStamp t0.mTop t1.mTop)) && t57) && (eqI t0.mHold t1.mHold)) && (eqI t0.mSeen t1.mSeen)) && (eqI t0.mMove t1.mMove))) rfl rfl ?_
 refine sG 81 (.d (.dp (List.drop 16 (eShard t0)))) rfl rfl (fun e73 => (v_field_dp (a0 := 16) (cs := (eShard t0)) rfl · · · fo45_11 rfl)) ?_
 refine sG 82 (iV t0.mClosed) rfl rfl (fun e74 => (v_load_dp1 rfl · · · onT3 (gv e74) rfl)) ?_
 refine sG 83 (.d (.dp (List.drop 16 (eShard t1)))) rfl rfl (fun e75 => (v_field_dp (a0 := 16) (cs := (eShard t1)) rfl · · · fo45_11 rfl)) ?_
 refine sG 84 (iV t1.mClosed) rfl rfl (fun e76 => (v_load_dp1 rfl · · · onT3 (gv e76) rfl)) ?_
 refine sG 85 (bV (eqI t0.mClosed t1.mClosed)) rfl rfl (fun e77 => (v_bin rfl · · · (gv e77) (gv e77) (b_eql rfl))) ?_
 refine sT 86 (bV ((((((((((((eqI t0.mID t1.mID) && (eqI t0.mEpoch t1.mEpoch)) && (qSpan t0.mSpan t1.mSpan)) && (eqI t0.mPhase t1.mPhase)) && t36) && (qStamp t0.mMark t1.mMark)) && (qStamp t0.mTop t1.mTop)) && t57) && (eqI t0.mHold t1.mHold)) && (eqI t0.mSeen t1.mSeen)) && (eqI t0.mMove t1.mMove)) && (eqI t0.mClosed t1.mClosed))) rfl (v_pickB rfl · · · rfl (fun e78 => (gv e78)) (fun e79 => rfl) (pA _ _)) ?_
 refine sM 4 (bV ((((((((((((eqI t0.mID t1.mID) && (eqI t0.mEpoch t1.mEpoch)) && (qSpan t0.mSpan t1.mSpan)) && (eqI t0.mPhase t1.mPhase)) && t36) && (qStamp t0.mMark t1.mMark)) && (qStamp t0.mTop t1.mTop)) && t57) && (eqI t0.mHold t1.mHold)) && (eqI t0.mSeen t1.mSeen)) && (eqI t0.mMove t1.mMove)) && (eqI t0.mClosed t1.mClosed))) rfl rfl ?_
 refine sq_nil ?_
 refine ht_ret ?_
 cases h
 exact ret1 rfl (.tmp rfl)
theorem s4 (k : Nat) (t0 : Cell) (t1 : Int) (r : Bool) (h : F4 k t0 t1 = some r) : Awp.Spec Tryz.prog amb 4 [(.agg (eCell t0)), (.s (.int .i64 t1))] (.ds [(.s (.bool r))]) := by
 rw [F4] at h
 refine spec_of Tryz.func4 rfl (ble _ _ rfl) fun w0 ok0 lt0 hA => ?_
 refine sr ?_
 refine sT 2 (.d (.dp (eCell t0))) rfl (v_box_d (cs := (eCell t0)) rfl · · · rfl rfl (ones_of rfl)) ?_
 refine sM 4 (bV false) rfl rfl ?_
 refine sq_nil ?_
 refine ht_seq ?_
 refine sr ?_
 refine sT 11 (.d (.agg (eCell t0))) rfl (w_ldp (eCell t0) (eCell t0) rfl · · · ag26 rfl (ble _ _ rfl) rfl) ?_
 obtain ⟨t12, c1, h⟩ := bpos h
 refine sT 12 (bV t12) rfl (w_call (ds := [(.agg (eCell t0))]) (caps := []) (l := [(.s (.bool t12))]) (s14 k t0 _ c1) rfl rfl rfl en14 · · · (.inl ⟨rfl, rfl⟩) rfl rfl) ?_
 refine sT 13 (bV (!t12)) rfl (v_un rfl · · · rfl (u_not rfl)) ?_
 refine sq_nil ?_
 refine ht_cond rfl (fun e2 => ?_) (fun e2 => ?_)
 ·replace h := cpos e2 h
  refine sr ?_
  obtain ⟨t14, c3, h⟩ := bpos h
  refine sT 14 (bV t14) rfl (w_call (ds := []) (caps := []) (l := [(.s (.bool t14))]) (s15 k _ c3) rfl rfl rfl en15 · · · (.inl ⟨rfl, rfl⟩) rfl rfl) ?_
  refine sM 4 (bV t14) rfl rfl ?_
  refine sq_nil ?_
  refine ht_ret ?_
  cases h
  exact ret1 rfl (.tmp rfl)
 replace h := cneg e2 h
 refine ht_skip ?_
 refine ht_gj (go_id' h) (fun _ => tell [(.t 1, iV t1), (.t 2, .d (.dp (eCell t0)))]) (fun _ h => ?_) (fun v4 K5 h j7 r8 => ?_)
 ·refine sr ?_
  refine sT 28 (.d (.agg (eCell t0))) rfl (w_ldp (eCell t0) (eCell t0) rfl · · · ag26 rfl (ble _ _ rfl) rfl) ?_
  obtain ⟨t29, c18, h⟩ := bpos h
  refine sT 29 (bV t29) rfl (w_call (ds := [(.agg (eCell t0))]) (caps := []) (l := [(.s (.bool t29))]) (s22 k t0 _ c18) rfl rfl rfl en22 · · · (.inl ⟨rfl, rfl⟩) rfl rfl) ?_
  refine sM 7 (bV t29) rfl rfl ?_
  refine sq_nil ?_
  refine sr ?_
  refine sT 31 (.d (.agg (eCell t0))) rfl (w_ldp (eCell t0) (eCell t0) rfl · · · ag26 rfl (ble _ _ rfl) rfl) ?_
  refine sM 32 (iV t1) rfl rfl ?_
  obtain ⟨⟨t33a, t33b⟩, c19, h⟩ := bpos h
  refine sT 33 (.tup [.d (.agg (eShard t33a)), bV t33b]) rfl (w_call (ds := [(.agg (eCell t0)), (.s (.int .i64 t1))]) (caps := []) (l := [(.agg (eShard t33a)), (.s (.bool t33b))]) (s23 k t0 t1 _ c19) rfl rfl rfl en23 · · · (.inl ⟨rfl, rfl⟩) rfl rfl) ?_
  refine sM 30 (.tup [.d (.agg (eShard t33a)), bV t33b]) rfl rfl ?_
  refine sT 34 (.d (.agg (eShard t33a))) rfl (v_extract rfl · · · rfl rfl) ?_
  refine sT 35 (bV t33b) rfl (v_extract rfl · · · rfl rfl) ?_
  refine sq_cons _ (v_alloc (id := 8) (cs := zc45) rfl trivial rfl (ble _ _ rfl) zu45 rfl ft45 rfl) ?_
  refine sq_cons _ (v_store_box (id := 8) (off := 0) (cs := (eShard t33a).map V.d) rfl trivial rfl sz45 rfl rfl rfl rfl (ones_of rfl) (ble _ _ rfl)) ?_
  refine sM 9 (bV t33b) rfl rfl ?_
  refine sq_nil ?_
  refine sr ?_
  refine sT 36 (.d (.agg (eCell t0))) rfl (w_ldp (eCell t0) (eCell t0) rfl · · · ag26 rfl (ble _ _ rfl) rfl) ?_
  refine sM 37 (iV t1) rfl rfl ?_
  obtain ⟨t38, c20, h⟩ := bpos h
  refine sT 38 (.d (.agg (eShard t38))) rfl (w_call (ds := [(.agg (eCell t0)), (.s (.int .i64 t1))]) (caps := []) (l := [(.agg (eShard t38))]) (s24 k t0 t1 _ c20) rfl rfl rfl en24 · · · (.inl ⟨rfl, rfl⟩) rfl rfl) ?_
  refine sq_cons _ (v_alloc (id := 10) (cs := zc45) rfl trivial rfl (ble _ _ rfl) zu45 rfl ft45 rfl) ?_
  refine sq_cons _ (v_store_box (id := 10) (off := 0) (cs := (eShard t38).map V.d) rfl trivial rfl sz45 rfl rfl rfl rfl (ones_of rfl) (ble _ _ rfl)) ?_
  refine sq_nil ?_
  refine ht_bj h (fun (t10c0, t10c1, t10c2, t10c3, t10c4, t10c5, t10c6, t10c7, t10c8, t10c9, t10c10, t10c11, t10c12, t10c13, t10c14, t10c15, t10c16) => tell [(.b 8, .box false 17), (.b 10, .box false 17), (.c 8 0, iV t33a.mID), (.c 8 1, iV t33a.mEpoch), (.c 8 2, sV t33a.mSpan.mLo), (.c 8 3, sV t33a.mSpan.mHi), (.c 8 4, iV t33a.mPhase), (.c 8 5, .d (.sl 2 (t33a.mEntries.map eEntry))), (.c 8 6, iV t33a.mMark.mWall), (.c 8 7, iV t33a.mMark.mTick), (.c 8 8, iV t33a.mMark.mNode), (.c 8 9, iV t33a.mTop.mWall), (.c 8 10, iV t33a.mTop.mTick), (.c 8 11, iV t33a.mTop.mNode), (.c 8 12, .d (.sl 11 (t33a.mDone.map eDone))), (.c 8 13, iV t33a.mHold), (.c 8 14, iV t33a.mSeen), (.c 8 15, iV t33a.mMove), (.c 8 16, iV t33a.mClosed), (.c 10 0, iV t10c0), (.c 10 1, iV t10c1), (.c 10 2, sV t10c2), (.c 10 3, sV t10c3), (.c 10 4, iV t10c4), (.c 10 5, .d (.sl 2 (t10c5.map eEntry))), (.c 10 6, iV t10c6), (.c 10 7, iV t10c7), (.c 10 8, iV t10c8), (.c 10 9, iV t10c9), (.c 10 10, iV t10c10), (.c 10 11, iV t10c11), (.c 10 12, .d (.sl 11 (t10c12.map eDone))), (.c 10 13, iV t10c13), (.c 10 14, iV t10c14), (.c 10 15, iV t10c15), (.c 10 16, iV t10c16), (.t 2, .d (.dp (eCell t0))), (.t 7, bV t29), (.t 8, .ptr 8 0), (.t 9, bV t33b), (.t 10, .ptr 10 0)]) (fun v21 h => ?_) (fun v21 K22 h j24 => ?_)
  ·obtain ⟨t10c0, t10c1, t10c2, t10c3, t10c4, t10c5, t10c6, t10c7, t10c8, t10c9, t10c10, t10c11, t10c12, t10c13, t10c14, t10c15, t10c16⟩ := v21
   refine sr ?_
   refine sT 50 (.d (.agg (eCell t0))) rfl (w_ldp (eCell t0) (eCell t0) rfl · · · ag26 rfl (ble _ _ rfl) rfl) ?_
   obtain ⟨t51, c35, h⟩ := bpos h
   refine sT 51 (bV t51) rfl (w_call (ds := [(.agg (eCell t0))]) (caps := []) (l := [(.s (.bool t51))]) (s25 k t0 _ c35) rfl rfl rfl en25 · · · (.inl ⟨rfl, rfl⟩) rfl rfl) ?_
   refine sM 52 (bV t29) rfl rfl ?_
   refine sT 53 (bV (t51 == t29)) rfl (v_bin rfl · · · rfl rfl (b_eqB und4 rfl)) ?_
   refine sM 54 (bV (t51 == t29)) rfl rfl ?_
   refine sG 55 (bV t33b) rfl rfl (fun e36 => (v_move (.inl rfl) · · · rfl)) ?_
   refine sG 56 (.ptr 10 0) rfl rfl (fun e37 => (v_field_box (off := 0) (a0 := 0) rfl · · · fo45_0 rfl)) ?_
   refine sG 57 (iV t10c0) rfl rfl (fun e38 => (v_load_box1 (id := 10) (off := 0) rfl · · · onT3 (gv e38) rfl (ble _ _ rfl) rfl)) ?_
   refine sG 58 (bV (ltI 0 t10c0)) rfl rfl (fun e39 => (v_bin rfl · · · (gv e39) rfl (b_gtr rfl))) ?_
   refine sG 59 (bV (t33b == (ltI 0 t10c0))) rfl rfl (fun e40 => (v_bin rfl · · · (gv e40) (gv e40) (b_eqB und4 rfl))) ?_
   refine sT 60 (bV ((t51 == t29) && (t33b == (ltI 0 t10c0)))) rfl (v_pickB rfl · · · rfl (fun e41 => (gv e41)) (fun e42 => rfl) (pA _ _)) ?_
   refine sM 61 (bV ((t51 == t29) && (t33b == (ltI 0 t10c0)))) rfl rfl ?_
   refine sG 62 (.d (.agg (eShard t33a))) rfl rfl (fun e43 => (w_ldb 8 0 rfl · · · ag45 rfl rfl (ble _ _ rfl) rfl)) ?_
   refine sG 63 (.d (.agg (eShard (⟨t10c0, t10c1, (⟨t10c2, t10c3⟩ : Span), t10c4, t10c5, (⟨t10c6, t10c7, t10c8⟩ : Stamp), (⟨t10c9, t10c10, t10c11⟩ : Stamp), t10c12, t10c13, t10c14, t10c15, t10c16⟩ : Shard)))) rfl rfl (fun e44 => (w_ldb 10 0 rfl · · · ag45 rfl rfl (ble _ _ rfl) rfl)) ?_
   obtain ⟨t64, c46, h⟩ := bpos h
   refine sG 64 (bV t64) rfl rfl (fun e45 => (w_call (ds := [(.agg (eShard t33a)), (.agg (eShard (⟨t10c0, t10c1, (⟨t10c2, t10c3⟩ : Span), t10c4, t10c5, (⟨t10c6, t10c7, t10c8⟩ : Stamp), (⟨t10c9, t10c10, t10c11⟩ : Stamp), t10c12, t10c13, t10c14, t10c15, t10c16⟩ : Shard)))]) (caps := []) (l := [(.s (.bool t64))]) (s26 k t33a (⟨t10c0, t10c1, (⟨t10c2, t10c3⟩ : Span), t10c4, t10c5, (⟨t10c6, t10c7, t10c8⟩ : Stamp), (⟨t10c9, t10c10, t10c11⟩ : Stamp), t10c12, t10c13, t10c14, t10c15, t10c16⟩ : Shard) _ (cpos e45 c46)) rfl rfl rfl en26 · · · (.inl ⟨rfl, rfl⟩) (cc (gv e45) (cc (gv e45) rfl)) rfl)) ?_
   refine sT 65 (bV (((t51 == t29) && (t33b == (ltI 0 t10c0))) && t64)) rfl (v_pickB rfl · · · rfl (fun e47 => (gv e47)) (fun e48 => rfl) (pA _ _)) ?_
   refine sM 66 (bV (((t51 == t29) && (t33b == (ltI 0 t10c0))) && t64)) rfl rfl ?_
   obtain ⟨t67, c50, h⟩ := bpos h
   refine sG 67 (bV t67) rfl rfl (fun e49 => (w_call (ds := []) (caps := []) (l := [(.s (.bool t67))]) (s15 k _ (cpos e49 c50)) rfl rfl rfl en15 · · · (.inl ⟨rfl, rfl⟩) rfl rfl)) ?_
   refine sT 68 (bV ((((t51 == t29) && (t33b == (ltI 0 t10c0))) && t64) && t67)) rfl (v_pickB rfl · · · rfl (fun e51 => (gv e51)) (fun e52 => rfl) (pA _ _)) ?_
   refine sM 4 (bV ((((t51 == t29) && (t33b == (ltI 0 t10c0))) && t64) && t67)) rfl rfl ?_
   refine sq_nil ?_
   refine ht_ret ?_
   cases h
   exact ret1 rfl (.tmp rfl)
  refine sr ?_
  refine sM 39 (bV t29) rfl rfl ?_
  refine sT 40 (bV (!t29)) rfl (v_un rfl · · · rfl (u_not rfl)) ?_
  refine sM 41 (bV (!t29)) rfl rfl ?_
  refine sF 42 (iV t1) rfl rfl (fun e26 => (v_move (.inl rfl) · · · rfl)) ?_
  refine sF 43 (bV (ltI t1 1)) rfl rfl (fun e27 => (v_bin rfl · · · (gv (nF e27)) rfl (b_lss rfl))) ?_
  refine sT 44 (bV ((!t29) || (ltI t1 1))) rfl (v_pickB rfl · · · rfl (fun e28 => rfl) (fun e29 => (gv (nF e29))) (pO _ _)) ?_
  refine sM 45 (bV ((!t29) || (ltI t1 1))) rfl rfl ?_
  refine sF 46 (iV t1) rfl rfl (fun e30 => (v_move (.inl rfl) · · · rfl)) ?_
  refine sF 47 (bV (ltI 1099511627776 t1)) rfl rfl (fun e31 => (v_bin rfl · · · (gv (nF e31)) rfl (b_gtr rfl))) ?_
  refine sT 48 (bV (((!t29) || (ltI t1 1)) || (ltI 1099511627776 t1))) rfl (v_pickB rfl · · · rfl (fun e32 => rfl) (fun e33 => (gv (nF e33))) (pO _ _)) ?_
  refine sq_nil ?_
  refine ht_cond rfl (fun e34 => ?_) (fun e34 => ?_)
  ·replace h := cpos e34 h
   refine ht_region ?_
   refine sT 49 (.d (.agg (eShard (⟨0, 0, (⟨⟨#[]⟩, ⟨#[]⟩⟩ : Span), 0, [], (⟨0, 0, 0⟩ : Stamp), (⟨0, 0, 0⟩ : Stamp), [], 0, 0, 0, 0⟩ : Shard)))) rfl (w_bld zc45 ((eShard (⟨0, 0, (⟨⟨#[]⟩, ⟨#[]⟩⟩ : Span), 0, [], (⟨0, 0, 0⟩ : Stamp), (⟨0, 0, 0⟩ : Stamp), [], 0, 0, 0, 0⟩ : Shard)).map V.d) [] rfl · · · zw45 rfl ft45 rfl rfl rfl rfl) ?_
   refine sq_cons _ (v_store_box (id := 10) (off := 0) (cs := (eShard (⟨0, 0, (⟨⟨#[]⟩, ⟨#[]⟩⟩ : Span), 0, [], (⟨0, 0, 0⟩ : Stamp), (⟨0, 0, 0⟩ : Stamp), [], 0, 0, 0, 0⟩ : Shard)).map V.d) rfl trivial rfl sz45 rfl rfl rfl rfl (ones_of rfl) (ble _ _ rfl)) ?_
   refine sq_nil ?_
   cases h
   exact j24 _ (wk_ren _ (fun i => i) rfl ⟨rfl, rfl, rfl, rfl, rfl, rfl, rfl, rfl, rfl, rfl, rfl, rfl, rfl, rfl, rfl, rfl, rfl, rfl, rfl, rfl, rfl, rfl, rfl, rfl, rfl, rfl, rfl, rfl, rfl, rfl, rfl, rfl, rfl, rfl, rfl, rfl, rfl, rfl, rfl, rfl, rfl, trivial⟩)
  replace h := cneg e34 h
  refine ht_skip ?_
  cases h
  exact j24 _ (wk_ren _ (fun i => i) rfl ⟨rfl, rfl, rfl, rfl, rfl, rfl, rfl, rfl, rfl, rfl, rfl, rfl, rfl, rfl, rfl, rfl, rfl, rfl, rfl, rfl, rfl, rfl, rfl, rfl, rfl, rfl, rfl, rfl, rfl, rfl, rfl, rfl, rfl, rfl, rfl, rfl, rfl, rfl, rfl, rfl, rfl, trivial⟩)
 refine sr ?_
 refine sT 15 (.d (.dp (eCell t0))) rfl (v_field_dp (a0 := 0) (cs := (eCell t0)) rfl · · · fo26_0 rfl) ?_
 refine sT 16 (.d (.sl 17 (t0.mShards.map eShard))) rfl (v_load_dp1 rfl · · · onT22 rfl rfl) ?_
 refine sT 17 (iV (t0.mShards.length : Int)) rfl (w_len t0.mShards eShard rfl rfl · · · slT22 rfl) ?_
 refine sM 18 (iV 0) rfl rfl ?_
 refine sq_nil ?_
 refine ht_block ?_
 refine ht_rd h (fun _ => rfl) (fun t18 => tell [(.t 1, iV t1), (.t 2, .d (.dp (eCell t0))), (.t 16, .d (.sl 17 (t0.mShards.map eShard))), (.t 17, iV (t0.mShards.length : Int)), (.t 18, iV t18)]) (wk_ren _ (fun i => i) rfl ⟨rfl, rfl, rfl, rfl, rfl, trivial⟩) fun k t18 h K17 j10 => ?_
 rw [F4_l1] at h
 refine sr ?_
 refine sT 19 (bV (ltI t18 (t0.mShards.length : Int))) rfl (v_bin rfl · · · rfl rfl (b_lss rfl)) ?_
 refine sq_nil ?_
 refine ht_seq ?_
 refine ht_cond rfl (fun e12 => ?_) (fun e12 => ?_)
 ·replace h := cpos e12 h
  refine ht_skip ?_
  refine ht_seq ?_
  refine ht_block ?_
  refine sr ?_
  obtain ⟨e13, h⟩ := gpos h
  refine sT 20 (.d (.dp (eShard (rd t0.mShards t18)))) rfl (w_idx t0.mShards eShard rfl · · · slT22 rfl rfl e13) ?_
  refine sT 21 (.d (.agg (eShard (rd t0.mShards t18)))) rfl (w_ldp (eShard (rd t0.mShards t18)) (eShard (rd t0.mShards t18)) rfl · · · ag45 rfl (ble _ _ rfl) rfl) ?_
  refine sq_cons _ (v_alloc (id := 6) (cs := zc45) rfl trivial rfl (ble _ _ rfl) zu45 rfl ft45 rfl) ?_
  refine sq_cons _ (v_store_box (id := 6) (off := 0) (cs := (eShard (rd t0.mShards t18)).map V.d) rfl trivial rfl sz45 rfl rfl rfl rfl (ones_of rfl) (ble _ _ rfl)) ?_
  refine sq_nil ?_
  refine ht_seq ?_
  refine ht_region_draw mixed ?_
  refine rT 22 (.d (.agg (eShard (rd t0.mShards t18)))) rfl (w_ldb 6 0 rfl · · · ag45 rfl rfl (ble _ _ rfl) rfl) ?_
  obtain ⟨t23, c14, h⟩ := bpos h
  refine rT 23 (bV t23) rfl (w_call (ds := [(.agg (eShard (rd t0.mShards t18)))]) (caps := []) (l := [(.s (.bool t23))]) (s20 k (rd t0.mShards t18) _ c14) rfl rfl rfl en20 · · · (.inl ⟨rfl, rfl⟩) rfl rfl) ?_
  refine rT 24 (.d (.agg (eShard (rd t0.mShards t18)))) rfl (w_ldb 6 0 rfl · · · ag45 rfl rfl (ble _ _ rfl) rfl) ?_
  obtain ⟨t25, c15, h⟩ := bpos h
  refine rT 25 (bV t25) rfl (w_call (ds := [(.agg (eShard (rd t0.mShards t18)))]) (caps := []) (l := [(.s (.bool t25))]) (s21 k (rd t0.mShards t18) _ c15) rfl rfl rfl en21 · · · (.inl ⟨rfl, rfl⟩) rfl rfl) ?_
  refine rT 26 (bV (!(t23 == t25))) rfl (v_bin rfl · · · rfl rfl (b_neB und4 rfl)) ?_
  refine rg_nil ⟨by kernel_rfl, ?_⟩
  refine ht_cond rfl (fun e16 => ?_) (fun e16 => ?_)
  ·replace h := cpos e16 h
   refine sr ?_
   refine sM 4 (bV false) rfl rfl ?_
   refine sq_nil ?_
   refine ht_ret ?_
   cases h
   cases r8 _ rfl
   exact ret1 rfl (.tmp rfl)
  replace h := cneg e16 h
  refine ht_skip ?_
  refine ht_region ?_
  refine sT 27 (iV (IntKind.wrap .i64 (t18 + 1))) rfl (v_bin rfl · · · rfl rfl (b_add rfl)) ?_
  refine sM 18 (iV (IntKind.wrap .i64 (t18 + 1))) rfl rfl ?_
  refine sq_nil ?_
  exact j10 _ _ h (wk_ren _ (fun i => i) rfl ⟨rfl, rfl, rfl, rfl, rfl, trivial⟩)
 replace h := cneg e12 h
 refine ht_exit ?_
 refine tq ?_
 refine tq ?_
 refine bq_hit ?_
 cases h
 exact j7 _ _ rfl (wk_ren _ (fun i => i) rfl ⟨rfl, rfl, trivial⟩)
end Go.Proofs.Gd
