import Derived.Test.YthhpelmjnmlgjaaGreatDoorGtWalk2
set_option linter.unusedVariables false
set_option maxRecDepth 100000
set_option maxHeartbeats 4000000
namespace Go.Proofs.Gd
open Go Go.Awp Go.Proofs
theorem s86 (k : Nat) (t0 : List Entry) (r : Bool) (h : F86 k t0 = some r) : Awp.Spec Tryz.prog amb 86 [(.sl 2 (t0.map eEntry))] (.ds [(.s (.bool r))]) := by
 rw [F86] at h
 refine spec_of Tryz.func86 rfl (ble _ _ rfl) fun w0 ok0 lt0 hA => ?_
 refine sr ?_
 refine sM 2 (bV false) rfl rfl ?_
 refine sq_nil ?_
 refine ht_seq ?_
 refine sr ?_
 refine sM 4 (.d (.sl 2 (t0.map eEntry))) rfl rfl ?_
 refine sT 5 (iV (t0.length : Int)) rfl (w_len t0 eEntry rfl rfl · · · slT42 rfl) ?_
 refine sT 6 (bV (ltI 64 (t0.length : Int))) rfl (v_bin rfl · · · rfl rfl (b_gtr rfl)) ?_
 refine sq_nil ?_
 refine ht_cond rfl (fun e1 => ?_) (fun e1 => ?_)
 ·replace h := cpos e1 h
  refine sr ?_
  refine sM 2 (bV false) rfl rfl ?_
  refine sq_nil ?_
  refine ht_ret ?_
  cases h
  exact ret1 rfl (.tmp rfl)
 replace h := cneg e1 h
 refine ht_skip ?_
 refine ht_gj (go_id' h) (fun _ => tell []) (fun _ h => ?_) (fun v2 K3 h j5 r6 => ?_)
 ·refine sr ?_
  refine sM 2 (bV true) rfl rfl ?_
  refine sq_nil ?_
  refine ht_ret ?_
  cases h
  exact ret1 rfl (.tmp rfl)
 refine sr ?_
 refine sM 3 (iV 0) rfl rfl ?_
 refine sq_nil ?_
 refine ht_block ?_
 refine ht_rd h (fun _ => rfl) (fun t3 => tell [(.t 0, .d (.sl 2 (t0.map eEntry))), (.t 3, iV t3)]) (wk_ren _ (fun i => i) rfl ⟨rfl, rfl, trivial⟩) fun k t3 h K54 j8 => ?_
 rw [F86_l1] at h
 refine ht_seq ?_
 refine sr ?_
 refine sM 7 (iV t3) rfl rfl ?_
 refine sM 8 (.d (.sl 2 (t0.map eEntry))) rfl rfl ?_
 refine sT 9 (iV (t0.length : Int)) rfl (w_len t0 eEntry rfl rfl · · · slT42 rfl) ?_
 refine sT 10 (bV (ltI t3 (t0.length : Int))) rfl (v_bin rfl · · · rfl rfl (b_lss rfl)) ?_
 refine sq_nil ?_
 refine ht_cond rfl (fun e10 => ?_) (fun e10 => ?_)
 ·replace h := cpos e10 h
  refine ht_skip ?_
  refine ht_seq ?_
  refine ht_block ?_
  refine ht_seq ?_
  refine sr ?_
  refine sM 13 (.d (.sl 2 (t0.map eEntry))) rfl rfl ?_
  refine sM 14 (iV t3) rfl rfl ?_
  obtain ⟨e11, h⟩ := gpos h
  refine sT 15 (.d (.dp (eEntry (rd t0 t3)))) rfl (w_idx t0 eEntry rfl · · · slT42 rfl rfl e11) ?_
  refine sT 16 (.d (.dp (eEntry (rd t0 t3)))) rfl (v_field_dp (a0 := 0) (cs := (eEntry (rd t0 t3))) rfl · · · fo116_0 rfl) ?_
  refine sT 17 (sV (rd t0 t3).mKey) rfl (v_load_dp1 rfl · · · onT9 rfl rfl) ?_
  obtain ⟨t18, c12, h⟩ := bpos h
  refine sT 18 (bV t18) rfl (w_call (ds := [(.s (.string (rd t0 t3).mKey))]) (caps := []) (l := [(.s (.bool t18))]) (s130 k (rd t0 t3).mKey _ c12) rfl rfl rfl en130 · · · (.inl ⟨rfl, rfl⟩) rfl rfl) ?_
  refine sT 19 (bV (!t18)) rfl (v_un rfl · · · rfl (u_not rfl)) ?_
  refine sM 20 (bV (!t18)) rfl rfl ?_
  refine sF 21 (.d (.sl 2 (t0.map eEntry))) rfl rfl (fun e13 => (v_move (.inl rfl) · · · rfl)) ?_
  refine sF 22 (iV t3) rfl rfl (fun e14 => (v_move (.inl rfl) · · · rfl)) ?_
  obtain ⟨e16, h⟩ := gpos h
  refine sF 23 (.d (.dp (eEntry (rd t0 t3)))) rfl rfl (fun e15 => (w_idx t0 eEntry rfl · · · slT42 (gv (nF e15)) (gv (nF e15)) (orT e16 (nF e15)))) ?_
  refine sF 24 (.d (.dp (List.drop 1 (eEntry (rd t0 t3))))) rfl rfl (fun e17 => (v_field_dp (a0 := 1) (cs := (eEntry (rd t0 t3))) rfl · · · fo116_1 (gv (nF e17)))) ?_
  refine sF 25 (.d (.sl 5 ((rd t0 t3).mChain.map eVersion))) rfl rfl (fun e18 => (v_load_dp1 rfl · · · onT96 (gv (nF e18)) rfl)) ?_
  refine sF 26 (iV ((rd t0 t3).mChain.length : Int)) rfl rfl (fun e19 => (w_len (rd t0 t3).mChain eVersion rfl rfl · · · slT96 (gv (nF e19)))) ?_
  refine sF 27 (bV (eqI ((rd t0 t3).mChain.length : Int) 0)) rfl rfl (fun e20 => (v_bin rfl · · · (gv (nF e20)) rfl (b_eql rfl))) ?_
  refine sT 28 (bV ((!t18) || (eqI ((rd t0 t3).mChain.length : Int) 0))) rfl (v_pickB rfl · · · rfl (fun e21 => rfl) (fun e22 => (gv (nF e22))) (pO _ _)) ?_
  refine sM 29 (bV ((!t18) || (eqI ((rd t0 t3).mChain.length : Int) 0))) rfl rfl ?_
  refine sF 30 (.d (.sl 2 (t0.map eEntry))) rfl rfl (fun e23 => (v_move (.inl rfl) · · · rfl)) ?_
  refine sF 31 (iV t3) rfl rfl (fun e24 => (v_move (.inl rfl) · · · rfl)) ?_
  obtain ⟨e26, h⟩ := gpos h
  refine sF 32 (.d (.dp (eEntry (rd t0 t3)))) rfl rfl (fun e25 => (w_idx t0 eEntry rfl · · · slT42 (gv (nF e25)) (gv (nF e25)) (orT e26 (nF e25)))) ?_
  refine sF 33 (.d (.dp (List.drop 1 (eEntry (rd t0 t3))))) rfl rfl (fun e27 => (v_field_dp (a0 := 1) (cs := (eEntry (rd t0 t3))) rfl · · · fo116_1 (gv (nF e27)))) ?_
  refine sF 34 (.d (.sl 5 ((rd t0 t3).mChain.map eVersion))) rfl rfl (fun e28 => (v_load_dp1 rfl · · · onT96 (gv (nF e28)) rfl)) ?_
  obtain ⟨t35, c30, h⟩ := bpos h
  refine sF 35 (bV t35) rfl rfl (fun e29 => (w_call (ds := [(.sl 5 ((rd t0 t3).mChain.map eVersion))]) (caps := []) (l := [(.s (.bool t35))]) (s131 k (rd t0 t3).mChain _ (cpos (nF e29) c30)) rfl rfl rfl en131 · · · (.inl ⟨rfl, rfl⟩) (cc (gv (nF e29)) rfl) rfl)) ?_
  refine sF 36 (bV (!t35)) rfl rfl (fun e31 => (v_un rfl · · · (gv (nF e31)) (u_not rfl))) ?_
  refine sT 37 (bV (((!t18) || (eqI ((rd t0 t3).mChain.length : Int) 0)) || (!t35))) rfl (v_pickB rfl · · · rfl (fun e32 => rfl) (fun e33 => (gv (nF e33))) (pO _ _)) ?_
  refine sq_nil ?_
  refine ht_cond rfl (fun e34 => ?_) (fun e34 => ?_)
  ·replace h := cpos e34 h
   refine sr ?_
   refine sM 2 (bV false) rfl rfl ?_
   refine sq_nil ?_
   refine ht_ret ?_
   cases h
   cases r6 _ rfl
   exact ret1 rfl (.tmp rfl)
  replace h := cneg e34 h
  refine ht_skip ?_
  refine ht_seq ?_
  refine ht_region_draw mixed ?_
  refine rM 38 (iV t3) rfl rfl ?_
  refine rT 39 (bV (ltI 0 t3)) rfl (v_bin rfl · · · rfl rfl (b_gtr rfl)) ?_
  refine rM 40 (bV (ltI 0 t3)) rfl rfl ?_
  refine rG 41 (.d (.sl 2 (t0.map eEntry))) rfl rfl (fun e35 => (v_move (.inl rfl) · · · rfl)) ?_
  refine rG 42 (iV t3) rfl rfl (fun e36 => (v_move (.inl rfl) · · · rfl)) ?_
  refine rG 43 (iV (IntKind.wrap .i64 (t3 - 1))) rfl rfl (fun e37 => (v_bin rfl · · · (gv e37) rfl (b_sub rfl))) ?_
  obtain ⟨e39, h⟩ := gpos h
  refine rG 44 (.d (.dp (eEntry (rd t0 (IntKind.wrap .i64 (t3 - 1)))))) rfl rfl (fun e38 => (w_idx t0 eEntry rfl · · · slT42 (gv e38) (gv e38) (orT e39 e38))) ?_
  refine rG 45 (.d (.dp (eEntry (rd t0 (IntKind.wrap .i64 (t3 - 1)))))) rfl rfl (fun e40 => (v_field_dp (a0 := 0) (cs := (eEntry (rd t0 (IntKind.wrap .i64 (t3 - 1))))) rfl · · · fo116_0 (gv e40))) ?_
  refine rG 46 (sV (rd t0 (IntKind.wrap .i64 (t3 - 1))).mKey) rfl rfl (fun e41 => (v_load_dp1 rfl · · · onT9 (gv e41) rfl)) ?_
  refine rG 47 (.d (.sl 2 (t0.map eEntry))) rfl rfl (fun e42 => (v_move (.inl rfl) · · · rfl)) ?_
  refine rG 48 (iV t3) rfl rfl (fun e43 => (v_move (.inl rfl) · · · rfl)) ?_
  obtain ⟨e45, h⟩ := gpos h
  refine rG 49 (.d (.dp (eEntry (rd t0 t3)))) rfl rfl (fun e44 => (w_idx t0 eEntry rfl · · · slT42 (gv e44) (gv e44) (orT e45 e44))) ?_
  refine rG 50 (.d (.dp (eEntry (rd t0 t3)))) rfl rfl (fun e46 => (v_field_dp (a0 := 0) (cs := (eEntry (rd t0 t3))) rfl · · · fo116_0 (gv e46))) ?_
  refine rG 51 (sV (rd t0 t3).mKey) rfl rfl (fun e47 => (v_load_dp1 rfl · · · onT9 (gv e47) rfl)) ?_
  obtain ⟨t52, c49, h⟩ := bpos h
  refine rG 52 (iV t52) rfl rfl (fun e48 => (w_call (ds := [(.s (.string (rd t0 (IntKind.wrap .i64 (t3 - 1))).mKey)), (.s (.string (rd t0 t3).mKey))]) (caps := []) (l := [(.s (.int .i64 t52))]) (s119 k (rd t0 (IntKind.wrap .i64 (t3 - 1))).mKey (rd t0 t3).mKey _ (cpos e48 c49)) rfl rfl rfl en119 · · · (.inl ⟨rfl, rfl⟩) (cc (gv e48) (cc (gv e48) rfl)) rfl)) ?_
  refine rG 53 (bV (!eqI t52 (-1))) rfl rfl (fun e50 => (v_bin rfl · · · (gv e50) rfl (b_neq rfl))) ?_
  refine rT 54 (bV ((ltI 0 t3) && (!eqI t52 (-1)))) rfl (v_pickB rfl · · · rfl (fun e51 => (gv e51)) (fun e52 => rfl) (pA _ _)) ?_
  refine rg_nil ⟨by kernel_rfl, ?_⟩
  refine ht_cond rfl (fun e53 => ?_) (fun e53 => ?_)
  ·replace h := cpos e53 h
   refine sr ?_
   refine sM 2 (bV false) rfl rfl ?_
   refine sq_nil ?_
   refine ht_ret ?_
   cases h
   cases r6 _ rfl
   exact ret1 rfl (.tmp rfl)
  replace h := cneg e53 h
  refine ht_skip ?_
  refine ht_region ?_
  refine sM 11 (iV t3) rfl rfl ?_
  refine sT 12 (iV (IntKind.wrap .i64 (t3 + 1))) rfl (v_bin rfl · · · rfl rfl (b_add rfl)) ?_
  refine sM 3 (iV (IntKind.wrap .i64 (t3 + 1))) rfl rfl ?_
  refine sq_nil ?_
  exact j8 _ _ h (wk_ren _ (fun i => i) rfl ⟨rfl, rfl, trivial⟩)
 replace h := cneg e10 h
 refine ht_exit ?_
 refine tq ?_
 refine tq ?_
 refine bq_hit ?_
 cases h
 exact j5 _ _ rfl (wk_ren _ (fun i => i) rfl trivial)
theorem s140 (k : Nat) (t0 : Int) (r : Bool) (h : F140 k t0 = some r) : Awp.Spec Tryz.prog amb 140 [(.s (.int .i64 t0))] (.ds [(.s (.bool r))]) := by
 rw [F140] at h
 refine spec_of Tryz.func140 rfl (ble _ _ rfl) fun w0 ok0 lt0 hA => ?_
 refine sr ?_
 refine sM 2 (bV false) rfl rfl ?_
 refine sq_nil ?_
 refine sr ?_
 refine sM 3 (iV t0) rfl rfl ?_
 refine sT 4 (bV (ltI 0 t0)) rfl (v_bin rfl · · · rfl rfl (b_gtr rfl)) ?_
 refine sM 5 (bV (ltI 0 t0)) rfl rfl ?_
 refine sG 6 (iV t0) rfl rfl (fun e1 => (v_move (.inl rfl) · · · rfl)) ?_
 refine sG 7 (bV (leI t0 1099511627776)) rfl rfl (fun e2 => (v_bin rfl · · · (gv e2) rfl (b_leq rfl))) ?_
 refine sT 8 (bV ((ltI 0 t0) && (leI t0 1099511627776))) rfl (v_pickB rfl · · · rfl (fun e3 => (gv e3)) (fun e4 => rfl) (pA _ _)) ?_
 refine sM 2 (bV ((ltI 0 t0) && (leI t0 1099511627776))) rfl rfl ?_
 refine sq_nil ?_
 refine ht_ret ?_
 cases h
 exact ret1 rfl (.tmp rfl)
theorem s141 (k : Nat) (t0 : Answer) (r : Bool) (h : F141 k t0 = some r) : Awp.Spec Tryz.prog amb 141 [(.agg (eAnswer t0))] (.ds [(.s (.bool r))]) := by
 rw [F141] at h
 refine spec_of Tryz.func141 rfl (ble _ _ rfl) fun w0 ok0 lt0 hA => ?_
 refine sr ?_
 refine sT 1 (.d (.dp (eAnswer t0))) rfl (v_box_d (cs := (eAnswer t0)) rfl · · · rfl rfl (ones_of rfl)) ?_
 refine sM 2 (bV false) rfl rfl ?_
 refine sq_nil ?_
 refine ht_seq ?_
 refine sr ?_
 refine sT 3 (.d (.dp (eAnswer t0))) rfl (v_field_dp (a0 := 0) (cs := (eAnswer t0)) rfl · · · fo34_0 rfl) ?_
 refine sT 4 (iV t0.mErr) rfl (v_load_dp1 rfl · · · onT31 rfl rfl) ?_
 refine sT 5 (bV (ltI t0.mErr 0)) rfl (v_bin rfl · · · rfl rfl (b_lss rfl)) ?_
 refine sM 6 (bV (ltI t0.mErr 0)) rfl rfl ?_
 refine sF 7 (.d (.dp (eAnswer t0))) rfl rfl (fun e1 => (v_field_dp (a0 := 0) (cs := (eAnswer t0)) rfl · · · fo34_0 rfl)) ?_
 refine sF 8 (iV t0.mErr) rfl rfl (fun e2 => (v_load_dp1 rfl · · · onT31 (gv (nF e2)) rfl)) ?_
 refine sF 9 (bV (ltI 16 t0.mErr)) rfl rfl (fun e3 => (v_bin rfl · · · (gv (nF e3)) rfl (b_gtr rfl))) ?_
 refine sT 10 (bV ((ltI t0.mErr 0) || (ltI 16 t0.mErr))) rfl (v_pickB rfl · · · rfl (fun e4 => rfl) (fun e5 => (gv (nF e5))) (pO _ _)) ?_
 refine sM 11 (bV ((ltI t0.mErr 0) || (ltI 16 t0.mErr))) rfl rfl ?_
 refine sF 12 (.d (.dp (List.drop 5 (eAnswer t0)))) rfl rfl (fun e6 => (v_field_dp (a0 := 5) (cs := (eAnswer t0)) rfl · · · fo34_3 rfl)) ?_
 refine sF 13 (sV t0.mValue) rfl rfl (fun e7 => (v_load_dp1 rfl · · · onT9 (gv (nF e7)) rfl)) ?_
 refine sF 14 (iV (t0.mValue.size : Int)) rfl rfl (fun e8 => (v_len_str rfl rfl · · · und9 (gv (nF e8)))) ?_
 refine sF 15 (bV (ltI 16 (t0.mValue.size : Int))) rfl rfl (fun e9 => (v_bin rfl · · · (gv (nF e9)) rfl (b_gtr rfl))) ?_
 refine sT 16 (bV (((ltI t0.mErr 0) || (ltI 16 t0.mErr)) || (ltI 16 (t0.mValue.size : Int)))) rfl (v_pickB rfl · · · rfl (fun e10 => rfl) (fun e11 => (gv (nF e11))) (pO _ _)) ?_
 refine sM 17 (bV (((ltI t0.mErr 0) || (ltI 16 t0.mErr)) || (ltI 16 (t0.mValue.size : Int)))) rfl rfl ?_
 refine sF 18 (.d (.dp (List.drop 6 (eAnswer t0)))) rfl rfl (fun e12 => (v_field_dp (a0 := 6) (cs := (eAnswer t0)) rfl · · · fo34_4 rfl)) ?_
 refine sF 19 (.d (.sl 2 (t0.mItems.map eItem))) rfl rfl (fun e13 => (v_load_dp1 rfl · · · onT32 (gv (nF e13)) rfl)) ?_
 refine sF 20 (iV (t0.mItems.length : Int)) rfl rfl (fun e14 => (w_len t0.mItems eItem rfl rfl · · · slT32 (gv (nF e14)))) ?_
 refine sF 21 (bV (ltI 0 (t0.mItems.length : Int))) rfl rfl (fun e15 => (v_bin rfl · · · (gv (nF e15)) rfl (b_gtr rfl))) ?_
 refine sT 22 (bV ((((ltI t0.mErr 0) || (ltI 16 t0.mErr)) || (ltI 16 (t0.mValue.size : Int))) || (ltI 0 (t0.mItems.length : Int)))) rfl (v_pickB rfl · · · rfl (fun e16 => rfl) (fun e17 => (gv (nF e17))) (pO _ _)) ?_
 refine sM 23 (bV ((((ltI t0.mErr 0) || (ltI 16 t0.mErr)) || (ltI 16 (t0.mValue.size : Int))) || (ltI 0 (t0.mItems.length : Int)))) rfl rfl ?_
 refine sF 24 (.d (.dp (List.drop 7 (eAnswer t0)))) rfl rfl (fun e18 => (v_field_dp (a0 := 7) (cs := (eAnswer t0)) rfl · · · fo34_5 rfl)) ?_
 refine sF 25 (sV t0.mNext) rfl rfl (fun e19 => (v_load_dp1 rfl · · · onT9 (gv (nF e19)) rfl)) ?_
 refine sF 26 (iV (t0.mNext.size : Int)) rfl rfl (fun e20 => (v_len_str rfl rfl · · · und9 (gv (nF e20)))) ?_
 refine sF 27 (bV (ltI 0 (t0.mNext.size : Int))) rfl rfl (fun e21 => (v_bin rfl · · · (gv (nF e21)) rfl (b_gtr rfl))) ?_
 refine sT 28 (bV (((((ltI t0.mErr 0) || (ltI 16 t0.mErr)) || (ltI 16 (t0.mValue.size : Int))) || (ltI 0 (t0.mItems.length : Int))) || (ltI 0 (t0.mNext.size : Int)))) rfl (v_pickB rfl · · · rfl (fun e22 => rfl) (fun e23 => (gv (nF e23))) (pO _ _)) ?_
 refine sM 29 (bV (((((ltI t0.mErr 0) || (ltI 16 t0.mErr)) || (ltI 16 (t0.mValue.size : Int))) || (ltI 0 (t0.mItems.length : Int))) || (ltI 0 (t0.mNext.size : Int)))) rfl rfl ?_
 refine sF 30 (.d (.dp (List.drop 8 (eAnswer t0)))) rfl rfl (fun e24 => (v_field_dp (a0 := 8) (cs := (eAnswer t0)) rfl · · · fo34_6 rfl)) ?_
 refine sF 31 (bV t0.mMore) rfl rfl (fun e25 => (v_load_dp1 rfl · · · onT4 (gv (nF e25)) rfl)) ?_
 refine sT 32 (bV ((((((ltI t0.mErr 0) || (ltI 16 t0.mErr)) || (ltI 16 (t0.mValue.size : Int))) || (ltI 0 (t0.mItems.length : Int))) || (ltI 0 (t0.mNext.size : Int))) || t0.mMore)) rfl (v_pickB rfl · · · rfl (fun e26 => rfl) (fun e27 => (gv (nF e27))) (pO _ _)) ?_
 refine sq_nil ?_
 refine ht_cond rfl (fun e28 => ?_) (fun e28 => ?_)
 ·replace h := cpos e28 h
  refine sr ?_
  refine sM 2 (bV false) rfl rfl ?_
  refine sq_nil ?_
  refine ht_ret ?_
  cases h
  exact ret1 rfl (.tmp rfl)
 replace h := cneg e28 h
 refine ht_skip ?_
 refine sr ?_
 refine sT 33 (.d (.dp (List.drop 1 (eAnswer t0)))) rfl (v_field_dp (a0 := 1) (cs := (eAnswer t0)) rfl · · · fo34_1 rfl) ?_
 refine sT 34 (.d (.agg (eStamp t0.mAt))) rfl (w_ldp (List.drop 1 (eAnswer t0)) (eStamp t0.mAt) rfl · · · ag24 rfl (ble _ _ rfl) rfl) ?_
 obtain ⟨t35, c29, h⟩ := bpos h
 refine sT 35 (bV t35) rfl (w_call (ds := [(.agg (eStamp t0.mAt))]) (caps := []) (l := [(.s (.bool t35))]) (s68 k t0.mAt _ c29) rfl rfl rfl en68 · · · (.inl ⟨rfl, rfl⟩) rfl rfl) ?_
 refine sM 2 (bV t35) rfl rfl ?_
 refine sq_nil ?_
 refine ht_ret ?_
 cases h
 exact ret1 rfl (.tmp rfl)
theorem s87 (k : Nat) (t0 : List Done) (r : Bool) (h : F87 k t0 = some r) : Awp.Spec Tryz.prog amb 87 [(.sl 11 (t0.map eDone))] (.ds [(.s (.bool r))]) := by
 rw [F87] at h
 refine spec_of Tryz.func87 rfl (ble _ _ rfl) fun w0 ok0 lt0 hA => ?_
 refine sr ?_
 refine sM 2 (bV false) rfl rfl ?_
 refine sq_nil ?_
 refine ht_seq ?_
 refine sr ?_
 refine sM 4 (.d (.sl 11 (t0.map eDone))) rfl rfl ?_
 refine sT 5 (iV (t0.length : Int)) rfl (w_len t0 eDone rfl rfl · · · slT43 rfl) ?_
 refine sT 6 (bV (ltI 8 (t0.length : Int))) rfl (v_bin rfl · · · rfl rfl (b_gtr rfl)) ?_
 refine sq_nil ?_
 refine ht_cond rfl (fun e1 => ?_) (fun e1 => ?_)
 ·replace h := cpos e1 h
  refine sr ?_
  refine sM 2 (bV false) rfl rfl ?_
  refine sq_nil ?_
  refine ht_ret ?_
  cases h
  exact ret1 rfl (.tmp rfl)
 replace h := cneg e1 h
 refine ht_skip ?_
 refine ht_gj (go_id' h) (fun _ => tell []) (fun _ h => ?_) (fun v2 K3 h j5 r6 => ?_)
 ·refine sr ?_
  refine sM 2 (bV true) rfl rfl ?_
  refine sq_nil ?_
  refine ht_ret ?_
  cases h
  exact ret1 rfl (.tmp rfl)
 refine sr ?_
 refine sM 3 (iV 0) rfl rfl ?_
 refine sq_nil ?_
 refine ht_block ?_
 refine ht_rd h (fun _ => rfl) (fun t3 => tell [(.t 0, .d (.sl 11 (t0.map eDone))), (.t 3, iV t3)]) (wk_ren _ (fun i => i) rfl ⟨rfl, rfl, trivial⟩) fun k t3 h K53 j8 => ?_
 rw [F87_l1] at h
 refine ht_seq ?_
 refine sr ?_
 refine sM 7 (iV t3) rfl rfl ?_
 refine sM 8 (.d (.sl 11 (t0.map eDone))) rfl rfl ?_
 refine sT 9 (iV (t0.length : Int)) rfl (w_len t0 eDone rfl rfl · · · slT43 rfl) ?_
 refine sT 10 (bV (ltI t3 (t0.length : Int))) rfl (v_bin rfl · · · rfl rfl (b_lss rfl)) ?_
 refine sq_nil ?_
 refine ht_cond rfl (fun e10 => ?_) (fun e10 => ?_)
 ·replace h := cpos e10 h
  refine ht_skip ?_
  refine ht_seq ?_
  refine ht_block ?_
  refine ht_seq ?_
  refine sr ?_
  refine sM 13 (.d (.sl 11 (t0.map eDone))) rfl rfl ?_
  refine sM 14 (iV t3) rfl rfl ?_
  obtain ⟨e11, h⟩ := gpos h
  refine sT 15 (.d (.dp (eDone (rd t0 t3)))) rfl (w_idx t0 eDone rfl · · · slT43 rfl rfl e11) ?_
  refine sT 16 (.d (.dp (eDone (rd t0 t3)))) rfl (v_field_dp (a0 := 0) (cs := (eDone (rd t0 t3))) rfl · · · fo100_0 rfl) ?_
  refine sT 17 (iV (rd t0 t3).mClient) rfl (v_load_dp1 rfl · · · onT3 rfl rfl) ?_
  obtain ⟨t18, c12, h⟩ := bpos h
  refine sT 18 (bV t18) rfl (w_call (ds := [(.s (.int .i64 (rd t0 t3).mClient))]) (caps := []) (l := [(.s (.bool t18))]) (s140 k (rd t0 t3).mClient _ c12) rfl rfl rfl en140 · · · (.inl ⟨rfl, rfl⟩) rfl rfl) ?_
  refine sT 19 (bV (!t18)) rfl (v_un rfl · · · rfl (u_not rfl)) ?_
  refine sM 20 (bV (!t18)) rfl rfl ?_
  refine sF 21 (.d (.sl 11 (t0.map eDone))) rfl rfl (fun e13 => (v_move (.inl rfl) · · · rfl)) ?_
  refine sF 22 (iV t3) rfl rfl (fun e14 => (v_move (.inl rfl) · · · rfl)) ?_
  obtain ⟨e16, h⟩ := gpos h
  refine sF 23 (.d (.dp (eDone (rd t0 t3)))) rfl rfl (fun e15 => (w_idx t0 eDone rfl · · · slT43 (gv (nF e15)) (gv (nF e15)) (orT e16 (nF e15)))) ?_
  refine sF 24 (.d (.dp (List.drop 1 (eDone (rd t0 t3))))) rfl rfl (fun e17 => (v_field_dp (a0 := 1) (cs := (eDone (rd t0 t3))) rfl · · · fo100_1 (gv (nF e17)))) ?_
  refine sF 25 (iV (rd t0 t3).mReq) rfl rfl (fun e18 => (v_load_dp1 rfl · · · onT3 (gv (nF e18)) rfl)) ?_
  obtain ⟨t26, c20, h⟩ := bpos h
  refine sF 26 (bV t26) rfl rfl (fun e19 => (w_call (ds := [(.s (.int .i64 (rd t0 t3).mReq))]) (caps := []) (l := [(.s (.bool t26))]) (s140 k (rd t0 t3).mReq _ (cpos (nF e19) c20)) rfl rfl rfl en140 · · · (.inl ⟨rfl, rfl⟩) (cc (gv (nF e19)) rfl) rfl)) ?_
  refine sF 27 (bV (!t26)) rfl rfl (fun e21 => (v_un rfl · · · (gv (nF e21)) (u_not rfl))) ?_
  refine sT 28 (bV ((!t18) || (!t26))) rfl (v_pickB rfl · · · rfl (fun e22 => rfl) (fun e23 => (gv (nF e23))) (pO _ _)) ?_
  refine sM 29 (bV ((!t18) || (!t26))) rfl rfl ?_
  refine sF 30 (.d (.sl 11 (t0.map eDone))) rfl rfl (fun e24 => (v_move (.inl rfl) · · · rfl)) ?_
  refine sF 31 (iV t3) rfl rfl (fun e25 => (v_move (.inl rfl) · · · rfl)) ?_
  obtain ⟨e27, h⟩ := gpos h
  refine sF 32 (.d (.dp (eDone (rd t0 t3)))) rfl rfl (fun e26 => (w_idx t0 eDone rfl · · · slT43 (gv (nF e26)) (gv (nF e26)) (orT e27 (nF e26)))) ?_
  refine sF 33 (.d (.dp (List.drop 2 (eDone (rd t0 t3))))) rfl rfl (fun e28 => (v_field_dp (a0 := 2) (cs := (eDone (rd t0 t3))) rfl · · · fo100_2 (gv (nF e28)))) ?_
  refine sF 34 (.d (.agg (eAnswer (rd t0 t3).mAnswer))) rfl rfl (fun e29 => (w_ldp (List.drop 2 (eDone (rd t0 t3))) (eAnswer (rd t0 t3).mAnswer) rfl · · · ag34 (gv (nF e29)) (ble _ _ rfl) rfl)) ?_
  obtain ⟨t35, c31, h⟩ := bpos h
  refine sF 35 (bV t35) rfl rfl (fun e30 => (w_call (ds := [(.agg (eAnswer (rd t0 t3).mAnswer))]) (caps := []) (l := [(.s (.bool t35))]) (s141 k (rd t0 t3).mAnswer _ (cpos (nF e30) c31)) rfl rfl rfl en141 · · · (.inl ⟨rfl, rfl⟩) (cc (gv (nF e30)) rfl) rfl)) ?_
  refine sF 36 (bV (!t35)) rfl rfl (fun e32 => (v_un rfl · · · (gv (nF e32)) (u_not rfl))) ?_
  refine sT 37 (bV (((!t18) || (!t26)) || (!t35))) rfl (v_pickB rfl · · · rfl (fun e33 => rfl) (fun e34 => (gv (nF e34))) (pO _ _)) ?_
  refine sq_nil ?_
  refine ht_cond rfl (fun e35 => ?_) (fun e35 => ?_)
  ·replace h := cpos e35 h
   refine sr ?_
   refine sM 2 (bV false) rfl rfl ?_
   refine sq_nil ?_
   refine ht_ret ?_
   cases h
   cases r6 _ rfl
   exact ret1 rfl (.tmp rfl)
  replace h := cneg e35 h
  refine ht_skip ?_
  refine ht_seq ?_
  refine ht_region_draw mixed ?_
  refine rM 38 (iV t3) rfl rfl ?_
  refine rT 39 (bV (ltI 0 t3)) rfl (v_bin rfl · · · rfl rfl (b_gtr rfl)) ?_
  refine rM 40 (bV (ltI 0 t3)) rfl rfl ?_
  refine rG 41 (.d (.sl 11 (t0.map eDone))) rfl rfl (fun e36 => (v_move (.inl rfl) · · · rfl)) ?_
  refine rG 42 (iV t3) rfl rfl (fun e37 => (v_move (.inl rfl) · · · rfl)) ?_
  refine rG 43 (iV (IntKind.wrap .i64 (t3 - 1))) rfl rfl (fun e38 => (v_bin rfl · · · (gv e38) rfl (b_sub rfl))) ?_
  obtain ⟨e40, h⟩ := gpos h
  refine rG 44 (.d (.dp (eDone (rd t0 (IntKind.wrap .i64 (t3 - 1)))))) rfl rfl (fun e39 => (w_idx t0 eDone rfl · · · slT43 (gv e39) (gv e39) (orT e40 e39))) ?_
  refine rG 45 (.d (.dp (eDone (rd t0 (IntKind.wrap .i64 (t3 - 1)))))) rfl rfl (fun e41 => (v_field_dp (a0 := 0) (cs := (eDone (rd t0 (IntKind.wrap .i64 (t3 - 1))))) rfl · · · fo100_0 (gv e41))) ?_
  refine rG 46 (iV (rd t0 (IntKind.wrap .i64 (t3 - 1))).mClient) rfl rfl (fun e42 => (v_load_dp1 rfl · · · onT3 (gv e42) rfl)) ?_
  refine rG 47 (.d (.sl 11 (t0.map eDone))) rfl rfl (fun e43 => (v_move (.inl rfl) · · · rfl)) ?_
  refine rG 48 (iV t3) rfl rfl (fun e44 => (v_move (.inl rfl) · · · rfl)) ?_
  obtain ⟨e46, h⟩ := gpos h
  refine rG 49 (.d (.dp (eDone (rd t0 t3)))) rfl rfl (fun e45 => (w_idx t0 eDone rfl · · · slT43 (gv e45) (gv e45) (orT e46 e45))) ?_
  refine rG 50 (.d (.dp (eDone (rd t0 t3)))) rfl rfl (fun e47 => (v_field_dp (a0 := 0) (cs := (eDone (rd t0 t3))) rfl · · · fo100_0 (gv e47))) ?_
  refine rG 51 (iV (rd t0 t3).mClient) rfl rfl (fun e48 => (v_load_dp1 rfl · · · onT3 (gv e48) rfl)) ?_
  refine rG 52 (bV (leI (rd t0 t3).mClient (rd t0 (IntKind.wrap .i64 (t3 - 1))).mClient)) rfl rfl (fun e49 => (v_bin rfl · · · (gv e49) (gv e49) (b_geq rfl))) ?_
  refine rT 53 (bV ((ltI 0 t3) && (leI (rd t0 t3).mClient (rd t0 (IntKind.wrap .i64 (t3 - 1))).mClient))) rfl (v_pickB rfl · · · rfl (fun e50 => (gv e50)) (fun e51 => rfl) (pA _ _)) ?_
  refine rg_nil ⟨by kernel_rfl, ?_⟩
  refine ht_cond rfl (fun e52 => ?_) (fun e52 => ?_)
  ·replace h := cpos e52 h
   refine sr ?_
   refine sM 2 (bV false) rfl rfl ?_
   refine sq_nil ?_
   refine ht_ret ?_
   cases h
   cases r6 _ rfl
   exact ret1 rfl (.tmp rfl)
  replace h := cneg e52 h
  refine ht_skip ?_
  refine ht_region ?_
  refine sM 11 (iV t3) rfl rfl ?_
  refine sT 12 (iV (IntKind.wrap .i64 (t3 + 1))) rfl (v_bin rfl · · · rfl rfl (b_add rfl)) ?_
  refine sM 3 (iV (IntKind.wrap .i64 (t3 + 1))) rfl rfl ?_
  refine sq_nil ?_
  exact j8 _ _ h (wk_ren _ (fun i => i) rfl ⟨rfl, rfl, trivial⟩)
 replace h := cneg e10 h
 refine ht_exit ?_
 refine tq ?_
 refine tq ?_
 refine bq_hit ?_
 cases h
 exact j5 _ _ rfl (wk_ren _ (fun i => i) rfl trivial)
theorem s55 (k : Nat) (t0 : ByteArray) (t1 : ByteArray) (t2 : ByteArray) (r : Bool) (h : F55 k t0 t1 t2 = some r) : Awp.Spec Tryz.prog amb 55 [(.s (.string t0)), (.s (.string t1)), (.s (.string t2))] (.ds [(.s (.bool r))]) := by
 rw [F55] at h
 refine spec_of Tryz.func55 rfl (ble _ _ rfl) fun w0 ok0 lt0 hA => ?_
 refine sr ?_
 refine sM 6 (bV false) rfl rfl ?_
 refine sq_nil ?_
 refine sr ?_
 refine sM 7 (sV t0) rfl rfl ?_
 refine sM 8 (sV t1) rfl rfl ?_
 obtain ⟨t9, c1, h⟩ := bpos h
 refine sT 9 (iV t9) rfl (w_call (ds := [(.s (.string t0)), (.s (.string t1))]) (caps := []) (l := [(.s (.int .i64 t9))]) (s119 k t0 t1 _ c1) rfl rfl rfl en119 · · · (.inl ⟨rfl, rfl⟩) rfl rfl) ?_
 refine sT 10 (bV (leI 0 t9)) rfl (v_bin rfl · · · rfl rfl (b_geq rfl)) ?_
 refine sM 11 (bV (leI 0 t9)) rfl rfl ?_
 refine sG 12 (sV t2) rfl rfl (fun e2 => (v_move (.inl rfl) · · · rfl)) ?_
 refine sG 13 (iV (t2.size : Int)) rfl rfl (fun e3 => (v_len_str rfl rfl · · · und9 (gv e3))) ?_
 refine sG 14 (bV (eqI (t2.size : Int) 0)) rfl rfl (fun e4 => (v_bin rfl · · · (gv e4) rfl (b_eql rfl))) ?_
 refine sG 15 (bV (eqI (t2.size : Int) 0)) rfl rfl (fun e5 => (v_move (.inl rfl) · · · (gv e5))) ?_
 refine sH 16 (sV t0) rfl rfl (fun e6 e7 => (v_move (.inl rfl) · · · rfl)) ?_
 refine sH 17 (sV t2) rfl rfl (fun e8 e9 => (v_move (.inl rfl) · · · rfl)) ?_
 obtain ⟨t18, c12, h⟩ := bpos h
 refine sH 18 (iV t18) rfl rfl (fun e10 e11 => (w_call (ds := [(.s (.string t0)), (.s (.string t2))]) (caps := []) (l := [(.s (.int .i64 t18))]) (s119 k t0 t2 _ (cpos (aT e10 (nF e11)) c12)) rfl rfl rfl en119 · · · (.inl ⟨rfl, rfl⟩) (cc (gv (aT e10 (nF e11))) (cc (gv (aT e10 (nF e11))) rfl)) rfl)) ?_
 refine sH 19 (bV (ltI t18 0)) rfl rfl (fun e13 e14 => (v_bin rfl · · · (gv (aT e13 (nF e14))) rfl (b_lss rfl))) ?_
 refine sG 20 (bV ((eqI (t2.size : Int) 0) || (ltI t18 0))) rfl rfl (fun e15 => (v_pickB rfl · · · (gv e15) (fun e16 => rfl) (fun e17 => (gv (aT e15 (nF e17)))) (pO _ _))) ?_
 refine sT 21 (bV ((leI 0 t9) && ((eqI (t2.size : Int) 0) || (ltI t18 0)))) rfl (v_pickB rfl · · · rfl (fun e18 => (gv e18)) (fun e19 => rfl) (pA _ _)) ?_
 refine sM 6 (bV ((leI 0 t9) && ((eqI (t2.size : Int) 0) || (ltI t18 0)))) rfl rfl ?_
 refine sq_nil ?_
 refine ht_ret ?_
 cases h
 exact ret1 rfl (.tmp rfl)
theorem s88 (k : Nat) (t0 : Span) (t1 : ByteArray) (r : Bool) (h : F88 k t0 t1 = some r) : Awp.Spec Tryz.prog amb 88 [(.agg (eSpan t0)), (.s (.string t1))] (.ds [(.s (.bool r))]) := by
 rw [F88] at h
 refine spec_of Tryz.func88 rfl (ble _ _ rfl) fun w0 ok0 lt0 hA => ?_
 refine sr ?_
 refine sT 2 (.d (.dp (eSpan t0))) rfl (v_box_d (cs := (eSpan t0)) rfl · · · rfl rfl (ones_of rfl)) ?_
 refine sM 4 (bV false) rfl rfl ?_
 refine sq_nil ?_
 refine sr ?_
 refine sT 5 (.d (.agg (eSpan t0))) rfl (w_ldp (eSpan t0) (eSpan t0) rfl · · · ag41 rfl (ble _ _ rfl) rfl) ?_
 obtain ⟨t6, c1, h⟩ := bpos h
 refine sT 6 (bV t6) rfl (w_call (ds := [(.agg (eSpan t0))]) (caps := []) (l := [(.s (.bool t6))]) (s85 k t0 _ c1) rfl rfl rfl en85 · · · (.inl ⟨rfl, rfl⟩) rfl rfl) ?_
 refine sM 7 (bV t6) rfl rfl ?_
 refine sG 8 (sV t1) rfl rfl (fun e2 => (v_move (.inl rfl) · · · rfl)) ?_
 obtain ⟨t9, c4, h⟩ := bpos h
 refine sG 9 (bV t9) rfl rfl (fun e3 => (w_call (ds := [(.s (.string t1))]) (caps := []) (l := [(.s (.bool t9))]) (s130 k t1 _ (cpos e3 c4)) rfl rfl rfl en130 · · · (.inl ⟨rfl, rfl⟩) (cc (gv e3) rfl) rfl)) ?_
 refine sT 10 (bV (t6 && t9)) rfl (v_pickB rfl · · · rfl (fun e5 => (gv e5)) (fun e6 => rfl) (pA _ _)) ?_
 refine sM 11 (bV (t6 && t9)) rfl rfl ?_
 refine sG 12 (sV t1) rfl rfl (fun e7 => (v_move (.inl rfl) · · · rfl)) ?_
 refine sG 13 (.d (.dp (eSpan t0))) rfl rfl (fun e8 => (v_field_dp (a0 := 0) (cs := (eSpan t0)) rfl · · · fo41_0 rfl)) ?_
 refine sG 14 (sV t0.mLo) rfl rfl (fun e9 => (v_load_dp1 rfl · · · onT9 (gv e9) rfl)) ?_
 refine sG 15 (.d (.dp (List.drop 1 (eSpan t0)))) rfl rfl (fun e10 => (v_field_dp (a0 := 1) (cs := (eSpan t0)) rfl · · · fo41_1 rfl)) ?_
 refine sG 16 (sV t0.mHi) rfl rfl (fun e11 => (v_load_dp1 rfl · · · onT9 (gv e11) rfl)) ?_
 obtain ⟨t17, c13, h⟩ := bpos h
 refine sG 17 (bV t17) rfl rfl (fun e12 => (w_call (ds := [(.s (.string t1)), (.s (.string t0.mLo)), (.s (.string t0.mHi))]) (caps := []) (l := [(.s (.bool t17))]) (s55 k t1 t0.mLo t0.mHi _ (cpos e12 c13)) rfl rfl rfl en55 · · · (.inl ⟨rfl, rfl⟩) (cc (gv e12) (cc (gv e12) (cc (gv e12) rfl))) rfl)) ?_
 refine sT 18 (bV ((t6 && t9) && t17)) rfl (v_pickB rfl · · · rfl (fun e14 => (gv e14)) (fun e15 => rfl) (pA _ _)) ?_
 refine sM 4 (bV ((t6 && t9) && t17)) rfl rfl ?_
 refine sq_nil ?_
 refine ht_ret ?_
 cases h
 exact ret1 rfl (.tmp rfl)
theorem s21 (k : Nat) (t0 : Shard) (r : Bool) (h : F21 k t0 = some r) : Awp.Spec Tryz.prog amb 21 [(.agg (eShard t0))] (.ds [(.s (.bool r))]) := by
 rw [F21] at h
 refine spec_of Tryz.func21 rfl (ble _ _ rfl) fun w0 ok0 lt0 hA => ?_
 refine sr ?_
 refine sT 1 (.d (.dp (eShard t0))) rfl (v_box_d (cs := (eShard t0)) rfl · · · rfl rfl (ones_of rfl)) ?_
 refine sM 2 (bV false) rfl rfl ?_
 refine sq_nil ?_
 refine ht_seq ?_
 refine sr ?_
 refine sT 4 (.d (.dp (eShard t0))) rfl (v_field_dp (a0 := 0) (cs := (eShard t0)) rfl · · · fo45_0 rfl) ?_
 refine sT 5 (iV t0.mID) rfl (v_load_dp1 rfl · · · onT3 rfl rfl) ?_
 obtain ⟨t6, c1, h⟩ := bpos h
 refine sT 6 (bV t6) rfl (w_call (ds := [(.s (.int .i64 t0.mID))]) (caps := []) (l := [(.s (.bool t6))]) (s66 k t0.mID _ c1) rfl rfl rfl en66 · · · (.inl ⟨rfl, rfl⟩) rfl rfl) ?_
 refine sT 7 (bV (!t6)) rfl (v_un rfl · · · rfl (u_not rfl)) ?_
 refine sM 8 (bV (!t6)) rfl rfl ?_
 refine sF 9 (.d (.dp (List.drop 1 (eShard t0)))) rfl rfl (fun e2 => (v_field_dp (a0 := 1) (cs := (eShard t0)) rfl · · · fo45_1 rfl)) ?_
 refine sF 10 (iV t0.mEpoch) rfl rfl (fun e3 => (v_load_dp1 rfl · · · onT3 (gv (nF e3)) rfl)) ?_
 obtain ⟨t11, c5, h⟩ := bpos h
 refine sF 11 (bV t11) rfl rfl (fun e4 => (w_call (ds := [(.s (.int .i64 t0.mEpoch))]) (caps := []) (l := [(.s (.bool t11))]) (s66 k t0.mEpoch _ (cpos (nF e4) c5)) rfl rfl rfl en66 · · · (.inl ⟨rfl, rfl⟩) (cc (gv (nF e4)) rfl) rfl)) ?_
 refine sF 12 (bV (!t11)) rfl rfl (fun e6 => (v_un rfl · · · (gv (nF e6)) (u_not rfl))) ?_
 refine sT 13 (bV ((!t6) || (!t11))) rfl (v_pickB rfl · · · rfl (fun e7 => rfl) (fun e8 => (gv (nF e8))) (pO _ _)) ?_
 refine sM 14 (bV ((!t6) || (!t11))) rfl rfl ?_
 refine sF 15 (.d (.dp (List.drop 13 (eShard t0)))) rfl rfl (fun e9 => (v_field_dp (a0 := 13) (cs := (eShard t0)) rfl · · · fo45_8 rfl)) ?_
 refine sF 16 (iV t0.mHold) rfl rfl (fun e10 => (v_load_dp1 rfl · · · onT3 (gv (nF e10)) rfl)) ?_
 obtain ⟨t17, c12, h⟩ := bpos h
 refine sF 17 (bV t17) rfl rfl (fun e11 => (w_call (ds := [(.s (.int .i64 t0.mHold))]) (caps := []) (l := [(.s (.bool t17))]) (s67 k t0.mHold _ (cpos (nF e11) c12)) rfl rfl rfl en67 · · · (.inl ⟨rfl, rfl⟩) (cc (gv (nF e11)) rfl) rfl)) ?_
 refine sF 18 (bV (!t17)) rfl rfl (fun e13 => (v_un rfl · · · (gv (nF e13)) (u_not rfl))) ?_
 refine sT 19 (bV (((!t6) || (!t11)) || (!t17))) rfl (v_pickB rfl · · · rfl (fun e14 => rfl) (fun e15 => (gv (nF e15))) (pO _ _)) ?_
 refine sM 20 (bV (((!t6) || (!t11)) || (!t17))) rfl rfl ?_
 refine sF 21 (.d (.dp (List.drop 14 (eShard t0)))) rfl rfl (fun e16 => (v_field_dp (a0 := 14) (cs := (eShard t0)) rfl · · · fo45_9 rfl)) ?_
 refine sF 22 (iV t0.mSeen) rfl rfl (fun e17 => (v_load_dp1 rfl · · · onT3 (gv (nF e17)) rfl)) ?_
 obtain ⟨t23, c19, h⟩ := bpos h
 refine sF 23 (bV t23) rfl rfl (fun e18 => (w_call (ds := [(.s (.int .i64 t0.mSeen))]) (caps := []) (l := [(.s (.bool t23))]) (s67 k t0.mSeen _ (cpos (nF e18) c19)) rfl rfl rfl en67 · · · (.inl ⟨rfl, rfl⟩) (cc (gv (nF e18)) rfl) rfl)) ?_
 refine sF 24 (bV (!t23)) rfl rfl (fun e20 => (v_un rfl · · · (gv (nF e20)) (u_not rfl))) ?_
 refine sT 25 (bV ((((!t6) || (!t11)) || (!t17)) || (!t23))) rfl (v_pickB rfl · · · rfl (fun e21 => rfl) (fun e22 => (gv (nF e22))) (pO _ _)) ?_
 refine sM 26 (bV ((((!t6) || (!t11)) || (!t17)) || (!t23))) rfl rfl ?_
 refine sF 27 (.d (.dp (List.drop 15 (eShard t0)))) rfl rfl (fun e23 => (v_field_dp (a0 := 15) (cs := (eShard t0)) rfl · · · fo45_10 rfl)) ?_
 refine sF 28 (iV t0.mMove) rfl rfl (fun e24 => (v_load_dp1 rfl · · · onT3 (gv (nF e24)) rfl)) ?_
 obtain ⟨t29, c26, h⟩ := bpos h
 refine sF 29 (bV t29) rfl rfl (fun e25 => (w_call (ds := [(.s (.int .i64 t0.mMove))]) (caps := []) (l := [(.s (.bool t29))]) (s67 k t0.mMove _ (cpos (nF e25) c26)) rfl rfl rfl en67 · · · (.inl ⟨rfl, rfl⟩) (cc (gv (nF e25)) rfl) rfl)) ?_
 refine sF 30 (bV (!t29)) rfl rfl (fun e27 => (v_un rfl · · · (gv (nF e27)) (u_not rfl))) ?_
 refine sT 31 (bV (((((!t6) || (!t11)) || (!t17)) || (!t23)) || (!t29))) rfl (v_pickB rfl · · · rfl (fun e28 => rfl) (fun e29 => (gv (nF e29))) (pO _ _)) ?_
 refine sM 32 (bV (((((!t6) || (!t11)) || (!t17)) || (!t23)) || (!t29))) rfl rfl ?_
 refine sF 33 (.d (.dp (List.drop 16 (eShard t0)))) rfl rfl (fun e30 => (v_field_dp (a0 := 16) (cs := (eShard t0)) rfl · · · fo45_11 rfl)) ?_
 refine sF 34 (iV t0.mClosed) rfl rfl (fun e31 => (v_load_dp1 rfl · · · onT3 (gv (nF e31)) rfl)) ?_
 obtain ⟨t35, c33, h⟩ := bpos h
 refine sF 35 (bV t35) rfl rfl (fun e32 => (w_call (ds := [(.s (.int .i64 t0.mClosed))]) (caps := []) (l := [(.s (.bool t35))]) (s67 k t0.mClosed _ (cpos (nF e32) c33)) rfl rfl rfl en67 · · · (.inl ⟨rfl, rfl⟩) (cc (gv (nF e32)) rfl) rfl)) ?_
 refine sF 36 (bV (!t35)) rfl rfl (fun e34 => (v_un rfl · · · (gv (nF e34)) (u_not rfl))) ?_
 refine sT 37 (bV ((((((!t6) || (!t11)) || (!t17)) || (!t23)) || (!t29)) || (!t35))) rfl (v_pickB rfl · · · rfl (fun e35 => rfl) (fun e36 => (gv (nF e36))) (pO _ _)) ?_
 refine sq_nil ?_
 refine ht_cond rfl (fun e37 => ?_) (fun e37 => ?_)
 ·replace h := cpos e37 h
  refine sr ?_
  refine sM 2 (bV false) rfl rfl ?_
  refine sq_nil ?_
  refine ht_ret ?_
  cases h
  exact ret1 rfl (.tmp rfl)
 replace h := cneg e37 h
 refine ht_skip ?_
 refine ht_seq ?_
 refine sr ?_
 refine sT 38 (.d (.dp (List.drop 4 (eShard t0)))) rfl (v_field_dp (a0 := 4) (cs := (eShard t0)) rfl · · · fo45_3 rfl) ?_
 refine sT 39 (iV t0.mPhase) rfl (v_load_dp1 rfl · · · onT3 rfl rfl) ?_
 refine sT 40 (bV (!eqI t0.mPhase 1)) rfl (v_bin rfl · · · rfl rfl (b_neq rfl)) ?_
 refine sM 41 (bV (!eqI t0.mPhase 1)) rfl rfl ?_
 refine sG 42 (.d (.dp (List.drop 4 (eShard t0)))) rfl rfl (fun e38 => (v_field_dp (a0 := 4) (cs := (eShard t0)) rfl · · · fo45_3 rfl)) ?_
 refine sG 43 (iV t0.mPhase) rfl rfl (fun e39 => (v_load_dp1 rfl · · · onT3 (gv e39) rfl)) ?_
 refine sG 44 (bV (!eqI t0.mPhase 2)) rfl rfl (fun e40 => (v_bin rfl · · · (gv e40) rfl (b_neq rfl))) ?_
 refine sT 45 (bV ((!eqI t0.mPhase 1) && (!eqI t0.mPhase 2))) rfl (v_pickB rfl · · · rfl (fun e41 => (gv e41)) (fun e42 => rfl) (pA _ _)) ?_
 refine sM 46 (bV ((!eqI t0.mPhase 1) && (!eqI t0.mPhase 2))) rfl rfl ?_
 refine sG 47 (.d (.dp (List.drop 4 (eShard t0)))) rfl rfl (fun e43 => (v_field_dp (a0 := 4) (cs := (eShard t0)) rfl · · · fo45_3 rfl)) ?_
 refine sG 48 (iV t0.mPhase) rfl rfl (fun e44 => (v_load_dp1 rfl · · · onT3 (gv e44) rfl)) ?_
 refine sG 49 (bV (!eqI t0.mPhase 3)) rfl rfl (fun e45 => (v_bin rfl · · · (gv e45) rfl (b_neq rfl))) ?_
 refine sT 50 (bV (((!eqI t0.mPhase 1) && (!eqI t0.mPhase 2)) && (!eqI t0.mPhase 3))) rfl (v_pickB rfl · · · rfl (fun e46 => (gv e46)) (fun e47 => rfl) (pA _ _)) ?_
 refine sM 51 (bV (((!eqI t0.mPhase 1) && (!eqI t0.mPhase 2)) && (!eqI t0.mPhase 3))) rfl rfl ?_
 refine sF 52 (.d (.dp (List.drop 2 (eShard t0)))) rfl rfl (fun e48 => (v_field_dp (a0 := 2) (cs := (eShard t0)) rfl · · · fo45_2 rfl)) ?_
 refine sF 53 (.d (.agg (eSpan t0.mSpan))) rfl rfl (fun e49 => (w_ldp (List.drop 2 (eShard t0)) (eSpan t0.mSpan) rfl · · · ag41 (gv (nF e49)) (ble _ _ rfl) rfl)) ?_
 obtain ⟨t54, c51, h⟩ := bpos h
 refine sF 54 (bV t54) rfl rfl (fun e50 => (w_call (ds := [(.agg (eSpan t0.mSpan))]) (caps := []) (l := [(.s (.bool t54))]) (s85 k t0.mSpan _ (cpos (nF e50) c51)) rfl rfl rfl en85 · · · (.inl ⟨rfl, rfl⟩) (cc (gv (nF e50)) rfl) rfl)) ?_
 refine sF 55 (bV (!t54)) rfl rfl (fun e52 => (v_un rfl · · · (gv (nF e52)) (u_not rfl))) ?_
 refine sT 56 (bV ((((!eqI t0.mPhase 1) && (!eqI t0.mPhase 2)) && (!eqI t0.mPhase 3)) || (!t54))) rfl (v_pickB rfl · · · rfl (fun e53 => rfl) (fun e54 => (gv (nF e54))) (pO _ _)) ?_
 refine sM 57 (bV ((((!eqI t0.mPhase 1) && (!eqI t0.mPhase 2)) && (!eqI t0.mPhase 3)) || (!t54))) rfl rfl ?_
 refine sF 58 (.d (.dp (List.drop 5 (eShard t0)))) rfl rfl (fun e55 => (v_field_dp (a0 := 5) (cs := (eShard t0)) rfl · · · fo45_4 rfl)) ?_
 refine sF 59 (.d (.sl 2 (t0.mEntries.map eEntry))) rfl rfl (fun e56 => (v_load_dp1 rfl · · · onT42 (gv (nF e56)) rfl)) ?_
 obtain ⟨t60, c58, h⟩ := bpos h
 refine sF 60 (bV t60) rfl rfl (fun e57 => (w_call (ds := [(.sl 2 (t0.mEntries.map eEntry))]) (caps := []) (l := [(.s (.bool t60))]) (s86 k t0.mEntries _ (cpos (nF e57) c58)) rfl rfl rfl en86 · · · (.inl ⟨rfl, rfl⟩) (cc (gv (nF e57)) rfl) rfl)) ?_
 refine sF 61 (bV (!t60)) rfl rfl (fun e59 => (v_un rfl · · · (gv (nF e59)) (u_not rfl))) ?_
 refine sT 62 (bV (((((!eqI t0.mPhase 1) && (!eqI t0.mPhase 2)) && (!eqI t0.mPhase 3)) || (!t54)) || (!t60))) rfl (v_pickB rfl · · · rfl (fun e60 => rfl) (fun e61 => (gv (nF e61))) (pO _ _)) ?_
 refine sM 63 (bV (((((!eqI t0.mPhase 1) && (!eqI t0.mPhase 2)) && (!eqI t0.mPhase 3)) || (!t54)) || (!t60))) rfl rfl ?_
 refine sF 64 (.d (.dp (List.drop 6 (eShard t0)))) rfl rfl (fun e62 => (v_field_dp (a0 := 6) (cs := (eShard t0)) rfl · · · fo45_5 rfl)) ?_
 refine sF 65 (.d (.agg (eStamp t0.mMark))) rfl rfl (fun e63 => (w_ldp (List.drop 6 (eShard t0)) (eStamp t0.mMark) rfl · · · ag24 (gv (nF e63)) (ble _ _ rfl) rfl)) ?_
 obtain ⟨t66, c65, h⟩ := bpos h
 refine sF 66 (bV t66) rfl rfl (fun e64 => (w_call (ds := [(.agg (eStamp t0.mMark))]) (caps := []) (l := [(.s (.bool t66))]) (s68 k t0.mMark _ (cpos (nF e64) c65)) rfl rfl rfl en68 · · · (.inl ⟨rfl, rfl⟩) (cc (gv (nF e64)) rfl) rfl)) ?_
 refine sF 67 (bV (!t66)) rfl rfl (fun e66 => (v_un rfl · · · (gv (nF e66)) (u_not rfl))) ?_
 refine sT 68 (bV ((((((!eqI t0.mPhase 1) && (!eqI t0.mPhase 2)) && (!eqI t0.mPhase 3)) || (!t54)) || (!t60)) || (!t66))) rfl (v_pickB rfl · · · rfl (fun e67 => rfl) (fun e68 => (gv (nF e68))) (pO _ _)) ?_
 refine sM 69 (bV ((((((!eqI t0.mPhase 1) && (!eqI t0.mPhase 2)) && (!eqI t0.mPhase 3)) || (!t54)) || (!t60)) || (!t66))) rfl rfl ?_
 refine sF 70 (.d (.dp (List.drop 9 (eShard t0)))) rfl rfl (fun e69 => (v_field_dp (a0 := 9) (cs := (eShard t0)) rfl · · · fo45_6 rfl)) ?_
 refine sF 71 (.d (.agg (eStamp t0.mTop))) rfl rfl (fun e70 => (w_ldp (List.drop 9 (eShard t0)) (eStamp t0.mTop) rfl · · · ag24 (gv (nF e70)) (ble _ _ rfl) rfl)) ?_
 obtain ⟨t72, c72, h⟩ := bpos h
 refine sF 72 (bV t72) rfl rfl (fun e71 => (w_call (ds := [(.agg (eStamp t0.mTop))]) (caps := []) (l := [(.s (.bool t72))]) (s68 k t0.mTop _ (cpos (nF e71) c72)) rfl rfl rfl en68 · · · (.inl ⟨rfl, rfl⟩) (cc (gv (nF e71)) rfl) rfl)) ?_
 refine sF 73 (bV (!t72)) rfl rfl (fun e73 => (v_un rfl · · · (gv (nF e73)) (u_not rfl))) ?_
 refine sT 74 (bV (((((((!eqI t0.mPhase 1) && (!eqI t0.mPhase 2)) && (!eqI t0.mPhase 3)) || (!t54)) || (!t60)) || (!t66)) || (!t72))) rfl (v_pickB rfl · · · rfl (fun e74 => rfl) (fun e75 => (gv (nF e75))) (pO _ _)) ?_
 refine sM 75 (bV (((((((!eqI t0.mPhase 1) && (!eqI t0.mPhase 2)) && (!eqI t0.mPhase 3)) || (!t54)) || (!t60)) || (!t66)) || (!t72))) rfl rfl ?_
 refine sF 76 (.d (.dp (List.drop 12 (eShard t0)))) rfl rfl (fun e76 => (v_field_dp (a0 := 12) (cs := (eShard t0)) rfl · · · fo45_7 rfl)) ?_
 refine sF 77 (.d (.sl 11 (t0.mDone.map eDone))) rfl rfl (fun e77 => (v_load_dp1 rfl · · · onT43 (gv (nF e77)) rfl)) ?_
 obtain ⟨t78, c79, h⟩ := bpos h
 refine sF 78 (bV t78) rfl rfl (fun e78 => (w_call (ds := [(.sl 11 (t0.mDone.map eDone))]) (caps := []) (l := [(.s (.bool t78))]) (s87 k t0.mDone _ (cpos (nF e78) c79)) rfl rfl rfl en87 · · · (.inl ⟨rfl, rfl⟩) (cc (gv (nF e78)) rfl) rfl)) ?_
 refine sF 79 (bV (!t78)) rfl rfl (fun e80 => (v_un rfl · · · (gv (nF e80)) (u_not rfl))) ?_
 refine sT 80 (bV ((((((((!eqI t0.mPhase 1) && (!eqI t0.mPhase 2)) && (!eqI t0.mPhase 3)) || (!t54)) || (!t60)) || (!t66)) || (!t72)) || (!t78))) rfl (v_pickB rfl · · · rfl (fun e81 => rfl) (fun e82 => (gv (nF e82))) (pO _ _)) ?_
 refine sq_nil ?_
 refine ht_cond rfl (fun e83 => ?_) (fun e83 => ?_)
 ·replace h := cpos e83 h
  refine sr ?_
  refine sM 2 (bV false) rfl rfl ?_
  refine sq_nil ?_
  refine ht_ret ?_
  cases h
  exact ret1 rfl (.tmp rfl)
 replace h := cneg e83 h
 refine ht_skip ?_
 refine ht_gj (go_id' h) (fun _ => tell []) (fun _ h => ?_) (fun v84 K85 h j87 r88 => ?_)
 ·refine sr ?_
  refine sM 2 (bV true) rfl rfl ?_
  refine sq_nil ?_
  refine ht_ret ?_
  cases h
  exact ret1 rfl (.tmp rfl)
 refine sr ?_
 refine sM 3 (iV 0) rfl rfl ?_
 refine sq_nil ?_
 refine ht_block ?_
 refine ht_rd h (fun _ => rfl) (fun t3 => tell [(.t 1, .d (.dp (eShard t0))), (.t 3, iV t3)]) (wk_ren _ (fun i => i) rfl ⟨rfl, rfl, trivial⟩) fun k t3 h K96 j90 => ?_
 rw [F21_l1] at h
 refine ht_seq ?_
 refine sr ?_
 refine sM 81 (iV t3) rfl rfl ?_
 refine sT 82 (.d (.dp (List.drop 5 (eShard t0)))) rfl (v_field_dp (a0 := 5) (cs := (eShard t0)) rfl · · · fo45_4 rfl) ?_
 refine sT 83 (.d (.sl 2 (t0.mEntries.map eEntry))) rfl (v_load_dp1 rfl · · · onT42 rfl rfl) ?_
 refine sT 84 (iV (t0.mEntries.length : Int)) rfl (w_len t0.mEntries eEntry rfl rfl · · · slT42 rfl) ?_
 refine sT 85 (bV (ltI t3 (t0.mEntries.length : Int))) rfl (v_bin rfl · · · rfl rfl (b_lss rfl)) ?_
 refine sq_nil ?_
 refine ht_cond rfl (fun e92 => ?_) (fun e92 => ?_)
 ·replace h := cpos e92 h
  refine ht_skip ?_
  refine ht_seq ?_
  refine ht_block ?_
  refine ht_seq ?_
  refine ht_region_draw mixed ?_
  refine rT 88 (.d (.dp (List.drop 2 (eShard t0)))) rfl (v_field_dp (a0 := 2) (cs := (eShard t0)) rfl · · · fo45_2 rfl) ?_
  refine rT 89 (.d (.agg (eSpan t0.mSpan))) rfl (w_ldp (List.drop 2 (eShard t0)) (eSpan t0.mSpan) rfl · · · ag41 rfl (ble _ _ rfl) rfl) ?_
  refine rT 90 (.d (.dp (List.drop 5 (eShard t0)))) rfl (v_field_dp (a0 := 5) (cs := (eShard t0)) rfl · · · fo45_4 rfl) ?_
  refine rT 91 (.d (.sl 2 (t0.mEntries.map eEntry))) rfl (v_load_dp1 rfl · · · onT42 rfl rfl) ?_
  refine rM 92 (iV t3) rfl rfl ?_
  obtain ⟨e93, h⟩ := gpos h
  refine rT 93 (.d (.dp (eEntry (rd t0.mEntries t3)))) rfl (w_idx t0.mEntries eEntry rfl · · · slT42 rfl rfl e93) ?_
  refine rT 94 (.d (.dp (eEntry (rd t0.mEntries t3)))) rfl (v_field_dp (a0 := 0) (cs := (eEntry (rd t0.mEntries t3))) rfl · · · fo116_0 rfl) ?_
  refine rT 95 (sV (rd t0.mEntries t3).mKey) rfl (v_load_dp1 rfl · · · onT9 rfl rfl) ?_
  obtain ⟨t96, c94, h⟩ := bpos h
  refine rT 96 (bV t96) rfl (w_call (ds := [(.agg (eSpan t0.mSpan)), (.s (.string (rd t0.mEntries t3).mKey))]) (caps := []) (l := [(.s (.bool t96))]) (s88 k t0.mSpan (rd t0.mEntries t3).mKey _ c94) rfl rfl rfl en88 · · · (.inl ⟨rfl, rfl⟩) rfl rfl) ?_
  refine rT 97 (bV (!t96)) rfl (v_un rfl · · · rfl (u_not rfl)) ?_
  refine rg_nil ⟨by kernel_rfl, ?_⟩
  refine ht_cond rfl (fun e95 => ?_) (fun e95 => ?_)
  ·replace h := cpos e95 h
   refine sr ?_
   refine sM 2 (bV false) rfl rfl ?_
   refine sq_nil ?_
   refine ht_ret ?_
   cases h
   cases r88 _ rfl
   exact ret1 rfl (.tmp rfl)
  replace h := cneg e95 h
  refine ht_skip ?_
  refine ht_region ?_
  refine sM 86 (iV t3) rfl rfl ?_
  refine sT 87 (iV (IntKind.wrap .i64 (t3 + 1))) rfl (v_bin rfl · · · rfl rfl (b_add rfl)) ?_
  refine sM 3 (iV (IntKind.wrap .i64 (t3 + 1))) rfl rfl ?_
  refine sq_nil ?_
  exact j90 _ _ h (wk_ren _ (fun i => i) rfl ⟨rfl, rfl, trivial⟩)
 replace h := cneg e92 h
 refine ht_exit ?_
 refine tq ?_
 refine tq ?_
 refine bq_hit ?_
 cases h
 exact j87 _ _ rfl (wk_ren _ (fun i => i) rfl trivial)
theorem s89 (k : Nat) (t0 : Shard) (t1 : Stamp) (r : Bool) (h : F89 k t0 t1 = some r) : Awp.Spec Tryz.prog amb 89 [(.agg (eShard t0)), (.agg (eStamp t1))] (.ds [(.s (.bool r))]) := by
 rw [F89] at h
 refine spec_of Tryz.func89 rfl (ble _ _ rfl) fun w0 ok0 lt0 hA => ?_
 refine sr ?_
 refine sT 2 (.d (.dp (eShard t0))) rfl (v_box_d (cs := (eShard t0)) rfl · · · rfl rfl (ones_of rfl)) ?_
 refine sT 3 (.d (.dp (eStamp t1))) rfl (v_box_d (cs := (eStamp t1)) rfl · · · rfl rfl (ones_of rfl)) ?_
 refine sM 4 (bV false) rfl rfl ?_
 refine sq_nil ?_
 refine ht_gj (go_id' h) (fun _ => tell []) (fun _ h => ?_) (fun v1 K2 h j4 r5 => ?_)
 ·refine sr ?_
  refine sM 4 (bV true) rfl rfl ?_
  refine sq_nil ?_
  refine ht_ret ?_
  cases h
  exact ret1 rfl (.tmp rfl)
 refine sr ?_
 refine sM 5 (iV 0) rfl rfl ?_
 refine sq_nil ?_
 refine ht_block ?_
 refine ht_rd h (fun _ => rfl) (fun t5 => tell [(.t 2, .d (.dp (eShard t0))), (.t 3, .d (.dp (eStamp t1))), (.t 5, iV t5)]) (wk_ren _ (fun i => i) rfl ⟨rfl, rfl, rfl, trivial⟩) fun k t5 h K25 j7 => ?_
 rw [F89_l1] at h
 refine ht_seq ?_
 refine sr ?_
 refine sM 7 (iV t5) rfl rfl ?_
 refine sT 8 (.d (.dp (List.drop 5 (eShard t0)))) rfl (v_field_dp (a0 := 5) (cs := (eShard t0)) rfl · · · fo45_4 rfl) ?_
 refine sT 9 (.d (.sl 2 (t0.mEntries.map eEntry))) rfl (v_load_dp1 rfl · · · onT42 rfl rfl) ?_
 refine sT 10 (iV (t0.mEntries.length : Int)) rfl (w_len t0.mEntries eEntry rfl rfl · · · slT42 rfl) ?_
 refine sT 11 (bV (ltI t5 (t0.mEntries.length : Int))) rfl (v_bin rfl · · · rfl rfl (b_lss rfl)) ?_
 refine sq_nil ?_
 refine ht_cond rfl (fun e9 => ?_) (fun e9 => ?_)
 ·replace h := cpos e9 h
  refine ht_skip ?_
  refine ht_gj h (fun _ => tell [(.t 2, .d (.dp (eShard t0))), (.t 3, .d (.dp (eStamp t1))), (.t 5, iV t5)]) (fun _ h => ?_) (fun v10 K11 h j13 r14 => ?_)
  ·refine ht_region ?_
   refine sM 12 (iV t5) rfl rfl ?_
   refine sT 13 (iV (IntKind.wrap .i64 (t5 + 1))) rfl (v_bin rfl · · · rfl rfl (b_add rfl)) ?_
   refine sM 5 (iV (IntKind.wrap .i64 (t5 + 1))) rfl rfl ?_
   refine sq_nil ?_
   exact j7 _ _ h (wk_ren _ (fun i => i) rfl ⟨rfl, rfl, rfl, trivial⟩)
  refine ht_block ?_
  refine sr ?_
  refine sM 6 (iV 0) rfl rfl ?_
  refine sq_nil ?_
  refine ht_block ?_
  refine ht_rd h (fun _ => rfl) (fun t6 => tell [(.t 2, .d (.dp (eShard t0))), (.t 3, .d (.dp (eStamp t1))), (.t 5, iV t5), (.t 6, iV t6)]) (wk_ren _ (fun i => i) rfl ⟨rfl, rfl, rfl, rfl, trivial⟩) fun k t6 h K24 j16 => ?_
  rw [F89_l2] at h
  refine ht_seq ?_
  refine sr ?_
  refine sM 14 (iV t6) rfl rfl ?_
  refine sT 15 (.d (.dp (List.drop 5 (eShard t0)))) rfl (v_field_dp (a0 := 5) (cs := (eShard t0)) rfl · · · fo45_4 rfl) ?_
  refine sT 16 (.d (.sl 2 (t0.mEntries.map eEntry))) rfl (v_load_dp1 rfl · · · onT42 rfl rfl) ?_
  refine sM 17 (iV t5) rfl rfl ?_
  obtain ⟨e18, h⟩ := gpos h
  refine sT 18 (.d (.dp (eEntry (rd t0.mEntries t5)))) rfl (w_idx t0.mEntries eEntry rfl · · · slT42 rfl rfl e18) ?_
  refine sT 19 (.d (.dp (List.drop 1 (eEntry (rd t0.mEntries t5))))) rfl (v_field_dp (a0 := 1) (cs := (eEntry (rd t0.mEntries t5))) rfl · · · fo116_1 rfl) ?_
  refine sT 20 (.d (.sl 5 ((rd t0.mEntries t5).mChain.map eVersion))) rfl (v_load_dp1 rfl · · · onT96 rfl rfl) ?_
  refine sT 21 (iV ((rd t0.mEntries t5).mChain.length : Int)) rfl (w_len (rd t0.mEntries t5).mChain eVersion rfl rfl · · · slT96 rfl) ?_
  refine sT 22 (bV (ltI t6 ((rd t0.mEntries t5).mChain.length : Int))) rfl (v_bin rfl · · · rfl rfl (b_lss rfl)) ?_
  refine sq_nil ?_
  refine ht_cond rfl (fun e19 => ?_) (fun e19 => ?_)
  ·replace h := cpos e19 h
   refine ht_skip ?_
   refine ht_seq ?_
   refine ht_block ?_
   refine ht_seq ?_
   refine ht_region_draw mixed ?_
   refine rT 25 (.d (.agg (eStamp t1))) rfl (w_ldp (eStamp t1) (eStamp t1) rfl · · · ag24 rfl (ble _ _ rfl) rfl) ?_
   refine rT 26 (.d (.dp (List.drop 5 (eShard t0)))) rfl (v_field_dp (a0 := 5) (cs := (eShard t0)) rfl · · · fo45_4 rfl) ?_
   refine rT 27 (.d (.sl 2 (t0.mEntries.map eEntry))) rfl (v_load_dp1 rfl · · · onT42 rfl rfl) ?_
   refine rM 28 (iV t5) rfl rfl ?_
   obtain ⟨e20, h⟩ := gpos h
   refine rT 29 (.d (.dp (eEntry (rd t0.mEntries t5)))) rfl (w_idx t0.mEntries eEntry rfl · · · slT42 rfl rfl e20) ?_
   refine rT 30 (.d (.dp (List.drop 1 (eEntry (rd t0.mEntries t5))))) rfl (v_field_dp (a0 := 1) (cs := (eEntry (rd t0.mEntries t5))) rfl · · · fo116_1 rfl) ?_
   refine rT 31 (.d (.sl 5 ((rd t0.mEntries t5).mChain.map eVersion))) rfl (v_load_dp1 rfl · · · onT96 rfl rfl) ?_
   refine rM 32 (iV t6) rfl rfl ?_
   obtain ⟨e21, h⟩ := gpos h
   refine rT 33 (.d (.dp (eVersion (rd (rd t0.mEntries t5).mChain t6)))) rfl (w_idx (rd t0.mEntries t5).mChain eVersion rfl · · · slT96 rfl rfl e21) ?_
   refine rT 34 (.d (.dp (eVersion (rd (rd t0.mEntries t5).mChain t6)))) rfl (v_field_dp (a0 := 0) (cs := (eVersion (rd (rd t0.mEntries t5).mChain t6))) rfl · · · fo93_0 rfl) ?_
   refine rT 35 (.d (.agg (eStamp (rd (rd t0.mEntries t5).mChain t6).mAt))) rfl (w_ldp (eVersion (rd (rd t0.mEntries t5).mChain t6)) (eStamp (rd (rd t0.mEntries t5).mChain t6).mAt) rfl · · · ag24 rfl (ble _ _ rfl) rfl) ?_
   obtain ⟨t36, c22, h⟩ := bpos h
   refine rT 36 (bV t36) rfl (w_call (ds := [(.agg (eStamp t1)), (.agg (eStamp (rd (rd t0.mEntries t5).mChain t6).mAt))]) (caps := []) (l := [(.s (.bool t36))]) (s76 k t1 (rd (rd t0.mEntries t5).mChain t6).mAt _ c22) rfl rfl rfl en76 · · · (.inl ⟨rfl, rfl⟩) rfl rfl) ?_
   refine rg_nil ⟨by kernel_rfl, ?_⟩
   refine ht_cond rfl (fun e23 => ?_) (fun e23 => ?_)
   ·replace h := cpos e23 h
    refine sr ?_
    refine sM 4 (bV false) rfl rfl ?_
    refine sq_nil ?_
    refine ht_ret ?_
    cases h
    cases r14 _ rfl
    cases r5 _ rfl
    exact ret1 rfl (.tmp rfl)
   replace h := cneg e23 h
   refine ht_skip ?_
   refine ht_region ?_
   refine sM 23 (iV t6) rfl rfl ?_
   refine sT 24 (iV (IntKind.wrap .i64 (t6 + 1))) rfl (v_bin rfl · · · rfl rfl (b_add rfl)) ?_
   refine sM 6 (iV (IntKind.wrap .i64 (t6 + 1))) rfl rfl ?_
   refine sq_nil ?_
   exact j16 _ _ h (wk_ren _ (fun i => i) rfl ⟨rfl, rfl, rfl, rfl, trivial⟩)
  replace h := cneg e19 h
  refine ht_exit ?_
  refine tq ?_
  refine tq ?_
  refine bq_hit ?_
  cases h
  exact j13 _ _ rfl (wk_ren _ (fun i => i) rfl ⟨rfl, rfl, rfl, trivial⟩)
 replace h := cneg e9 h
 refine ht_exit ?_
 refine tq ?_
 refine tq ?_
 refine bq_hit ?_
 cases h
 exact j4 _ _ rfl (wk_ren _ (fun i => i) rfl trivial)
theorem s22 (k : Nat) (t0 : Cell) (r : Bool) (h : F22 k t0 = some r) : Awp.Spec Tryz.prog amb 22 [(.agg (eCell t0))] (.ds [(.s (.bool r))]) := by
 rw [F22] at h
 refine spec_of Tryz.func22 rfl (ble _ _ rfl) fun w0 ok0 lt0 hA => ?_
 refine sr ?_
 refine sT 1 (.d (.dp (eCell t0))) rfl (v_box_d (cs := (eCell t0)) rfl · · · rfl rfl (ones_of rfl)) ?_
 refine sM 2 (bV false) rfl rfl ?_
 refine sq_nil ?_
 refine ht_seq ?_
 refine sr ?_
 refine sT 4 (.d (.dp (eCell t0))) rfl (v_field_dp (a0 := 0) (cs := (eCell t0)) rfl · · · fo26_0 rfl) ?_
 refine sT 5 (.d (.sl 17 (t0.mShards.map eShard))) rfl (v_load_dp1 rfl · · · onT22 rfl rfl) ?_
 refine sT 6 (iV (t0.mShards.length : Int)) rfl (w_len t0.mShards eShard rfl rfl · · · slT22 rfl) ?_
 refine sT 7 (bV (ltI 8 (t0.mShards.length : Int))) rfl (v_bin rfl · · · rfl rfl (b_gtr rfl)) ?_
 refine sM 8 (bV (ltI 8 (t0.mShards.length : Int))) rfl rfl ?_
 refine sF 9 (.d (.dp (List.drop 1 (eCell t0)))) rfl rfl (fun e1 => (v_field_dp (a0 := 1) (cs := (eCell t0)) rfl · · · fo26_1 rfl)) ?_
 refine sF 10 (.d (.agg (eStamp t0.mTop))) rfl rfl (fun e2 => (w_ldp (List.drop 1 (eCell t0)) (eStamp t0.mTop) rfl · · · ag24 (gv (nF e2)) (ble _ _ rfl) rfl)) ?_
 obtain ⟨t11, c4, h⟩ := bpos h
 refine sF 11 (bV t11) rfl rfl (fun e3 => (w_call (ds := [(.agg (eStamp t0.mTop))]) (caps := []) (l := [(.s (.bool t11))]) (s68 k t0.mTop _ (cpos (nF e3) c4)) rfl rfl rfl en68 · · · (.inl ⟨rfl, rfl⟩) (cc (gv (nF e3)) rfl) rfl)) ?_
 refine sF 12 (bV (!t11)) rfl rfl (fun e5 => (v_un rfl · · · (gv (nF e5)) (u_not rfl))) ?_
 refine sT 13 (bV ((ltI 8 (t0.mShards.length : Int)) || (!t11))) rfl (v_pickB rfl · · · rfl (fun e6 => rfl) (fun e7 => (gv (nF e7))) (pO _ _)) ?_
 refine sM 14 (bV ((ltI 8 (t0.mShards.length : Int)) || (!t11))) rfl rfl ?_
 refine sF 15 (.d (.dp (List.drop 4 (eCell t0)))) rfl rfl (fun e8 => (v_field_dp (a0 := 4) (cs := (eCell t0)) rfl · · · fo26_2 rfl)) ?_
 refine sF 16 (iV t0.mDropped) rfl rfl (fun e9 => (v_load_dp1 rfl · · · onT3 (gv (nF e9)) rfl)) ?_
 obtain ⟨t17, c11, h⟩ := bpos h
 refine sF 17 (bV t17) rfl rfl (fun e10 => (w_call (ds := [(.s (.int .i64 t0.mDropped))]) (caps := []) (l := [(.s (.bool t17))]) (s67 k t0.mDropped _ (cpos (nF e10) c11)) rfl rfl rfl en67 · · · (.inl ⟨rfl, rfl⟩) (cc (gv (nF e10)) rfl) rfl)) ?_
 refine sF 18 (bV (!t17)) rfl rfl (fun e12 => (v_un rfl · · · (gv (nF e12)) (u_not rfl))) ?_
 refine sT 19 (bV (((ltI 8 (t0.mShards.length : Int)) || (!t11)) || (!t17))) rfl (v_pickB rfl · · · rfl (fun e13 => rfl) (fun e14 => (gv (nF e14))) (pO _ _)) ?_
 refine sq_nil ?_
 refine ht_cond rfl (fun e15 => ?_) (fun e15 => ?_)
 ·replace h := cpos e15 h
  refine sr ?_
  refine sM 2 (bV false) rfl rfl ?_
  refine sq_nil ?_
  refine ht_ret ?_
  cases h
  exact ret1 rfl (.tmp rfl)
 replace h := cneg e15 h
 refine ht_skip ?_
 refine ht_gj (go_id' h) (fun _ => tell []) (fun _ h => ?_) (fun v16 K17 h j19 r20 => ?_)
 ·refine sr ?_
  refine sM 2 (bV true) rfl rfl ?_
  refine sq_nil ?_
  refine ht_ret ?_
  cases h
  exact ret1 rfl (.tmp rfl)
 refine sr ?_
 refine sM 3 (iV 0) rfl rfl ?_
 refine sq_nil ?_
 refine ht_block ?_
 refine ht_rd h (fun _ => rfl) (fun t3 => tell [(.t 1, .d (.dp (eCell t0))), (.t 3, iV t3)]) (wk_ren _ (fun i => i) rfl ⟨rfl, rfl, trivial⟩) fun k t3 h K79 j22 => ?_
 rw [F22_l1] at h
 refine ht_seq ?_
 refine sr ?_
 refine sM 20 (iV t3) rfl rfl ?_
 refine sT 21 (.d (.dp (eCell t0))) rfl (v_field_dp (a0 := 0) (cs := (eCell t0)) rfl · · · fo26_0 rfl) ?_
 refine sT 22 (.d (.sl 17 (t0.mShards.map eShard))) rfl (v_load_dp1 rfl · · · onT22 rfl rfl) ?_
 refine sT 23 (iV (t0.mShards.length : Int)) rfl (w_len t0.mShards eShard rfl rfl · · · slT22 rfl) ?_
 refine sT 24 (bV (ltI t3 (t0.mShards.length : Int))) rfl (v_bin rfl · · · rfl rfl (b_lss rfl)) ?_
 refine sq_nil ?_
 refine ht_cond rfl (fun e24 => ?_) (fun e24 => ?_)
 ·replace h := cpos e24 h
  refine ht_skip ?_
  refine ht_seq ?_
  refine ht_block ?_
  refine ht_seq ?_
  refine ht_region_draw mixed ?_
  refine rT 27 (.d (.dp (eCell t0))) rfl (v_field_dp (a0 := 0) (cs := (eCell t0)) rfl · · · fo26_0 rfl) ?_
  refine rT 28 (.d (.sl 17 (t0.mShards.map eShard))) rfl (v_load_dp1 rfl · · · onT22 rfl rfl) ?_
  refine rM 29 (iV t3) rfl rfl ?_
  obtain ⟨e25, h⟩ := gpos h
  refine rT 30 (.d (.dp (eShard (rd t0.mShards t3)))) rfl (w_idx t0.mShards eShard rfl · · · slT22 rfl rfl e25) ?_
  refine rT 31 (.d (.agg (eShard (rd t0.mShards t3)))) rfl (w_ldp (eShard (rd t0.mShards t3)) (eShard (rd t0.mShards t3)) rfl · · · ag45 rfl (ble _ _ rfl) rfl) ?_
  obtain ⟨t32, c26, h⟩ := bpos h
  refine rT 32 (bV t32) rfl (w_call (ds := [(.agg (eShard (rd t0.mShards t3)))]) (caps := []) (l := [(.s (.bool t32))]) (s21 k (rd t0.mShards t3) _ c26) rfl rfl rfl en21 · · · (.inl ⟨rfl, rfl⟩) rfl rfl) ?_
  refine rT 33 (bV (!t32)) rfl (v_un rfl · · · rfl (u_not rfl)) ?_
  refine rM 34 (bV (!t32)) rfl rfl ?_
  refine rF 35 (.d (.dp (eCell t0))) rfl rfl (fun e27 => (v_field_dp (a0 := 0) (cs := (eCell t0)) rfl · · · fo26_0 rfl)) ?_
  refine rF 36 (.d (.sl 17 (t0.mShards.map eShard))) rfl rfl (fun e28 => (v_load_dp1 rfl · · · onT22 (gv (nF e28)) rfl)) ?_
  refine rF 37 (iV t3) rfl rfl (fun e29 => (v_move (.inl rfl) · · · rfl)) ?_
  obtain ⟨e31, h⟩ := gpos h
  refine rF 38 (.d (.dp (eShard (rd t0.mShards t3)))) rfl rfl (fun e30 => (w_idx t0.mShards eShard rfl · · · slT22 (gv (nF e30)) (gv (nF e30)) (orT e31 (nF e30)))) ?_
  refine rF 39 (.d (.agg (eShard (rd t0.mShards t3)))) rfl rfl (fun e32 => (w_ldp (eShard (rd t0.mShards t3)) (eShard (rd t0.mShards t3)) rfl · · · ag45 (gv (nF e32)) (ble _ _ rfl) rfl)) ?_
  refine rF 40 (.d (.dp (List.drop 1 (eCell t0)))) rfl rfl (fun e33 => (v_field_dp (a0 := 1) (cs := (eCell t0)) rfl · · · fo26_1 rfl)) ?_
  refine rF 41 (.d (.agg (eStamp t0.mTop))) rfl rfl (fun e34 => (w_ldp (List.drop 1 (eCell t0)) (eStamp t0.mTop) rfl · · · ag24 (gv (nF e34)) (ble _ _ rfl) rfl)) ?_
  obtain ⟨t42, c36, h⟩ := bpos h
  refine rF 42 (bV t42) rfl rfl (fun e35 => (w_call (ds := [(.agg (eShard (rd t0.mShards t3))), (.agg (eStamp t0.mTop))]) (caps := []) (l := [(.s (.bool t42))]) (s89 k (rd t0.mShards t3) t0.mTop _ (cpos (nF e35) c36)) rfl rfl rfl en89 · · · (.inl ⟨rfl, rfl⟩) (cc (gv (nF e35)) (cc (gv (nF e35)) rfl)) rfl)) ?_
  refine rF 43 (bV (!t42)) rfl rfl (fun e37 => (v_un rfl · · · (gv (nF e37)) (u_not rfl))) ?_
  refine rT 44 (bV ((!t32) || (!t42))) rfl (v_pickB rfl · · · rfl (fun e38 => rfl) (fun e39 => (gv (nF e39))) (pO _ _)) ?_
  refine rM 45 (bV ((!t32) || (!t42))) rfl rfl ?_
  refine rF 46 (iV t3) rfl rfl (fun e40 => (v_move (.inl rfl) · · · rfl)) ?_
  refine rF 47 (bV (ltI 0 t3)) rfl rfl (fun e41 => (v_bin rfl · · · (gv (nF e41)) rfl (b_gtr rfl))) ?_
  refine rF 48 (bV (ltI 0 t3)) rfl rfl (fun e42 => (v_move (.inl rfl) · · · (gv (nF e42)))) ?_
  refine rI 49 (.d (.dp (eCell t0))) rfl rfl (fun e43 e44 => (v_field_dp (a0 := 0) (cs := (eCell t0)) rfl · · · fo26_0 rfl)) ?_
  refine rI 50 (.d (.sl 17 (t0.mShards.map eShard))) rfl rfl (fun e45 e46 => (v_load_dp1 rfl · · · onT22 (gv (aT e45 e46)) rfl)) ?_
  refine rI 51 (iV t3) rfl rfl (fun e47 e48 => (v_move (.inl rfl) · · · rfl)) ?_
  refine rI 52 (iV (IntKind.wrap .i64 (t3 - 1))) rfl rfl (fun e49 e50 => (v_bin rfl · · · (gv (aT e49 e50)) rfl (b_sub rfl))) ?_
  obtain ⟨e53, h⟩ := gpos h
  refine rI 53 (.d (.dp (eShard (rd t0.mShards (IntKind.wrap .i64 (t3 - 1)))))) rfl rfl (fun e51 e52 => (w_idx t0.mShards eShard rfl · · · slT22 (gv (aT e51 e52)) (gv (aT e51 e52)) (orT e53 (aT e51 e52)))) ?_
  refine rI 54 (.d (.dp (eShard (rd t0.mShards (IntKind.wrap .i64 (t3 - 1)))))) rfl rfl (fun e54 e55 => (v_field_dp (a0 := 0) (cs := (eShard (rd t0.mShards (IntKind.wrap .i64 (t3 - 1))))) rfl · · · fo45_0 (gv (aT e54 e55)))) ?_
  refine rI 55 (iV (rd t0.mShards (IntKind.wrap .i64 (t3 - 1))).mID) rfl rfl (fun e56 e57 => (v_load_dp1 rfl · · · onT3 (gv (aT e56 e57)) rfl)) ?_
  refine rI 56 (.d (.dp (eCell t0))) rfl rfl (fun e58 e59 => (v_field_dp (a0 := 0) (cs := (eCell t0)) rfl · · · fo26_0 rfl)) ?_
  refine rI 57 (.d (.sl 17 (t0.mShards.map eShard))) rfl rfl (fun e60 e61 => (v_load_dp1 rfl · · · onT22 (gv (aT e60 e61)) rfl)) ?_
  refine rI 58 (iV t3) rfl rfl (fun e62 e63 => (v_move (.inl rfl) · · · rfl)) ?_
  obtain ⟨e66, h⟩ := gpos h
  refine rI 59 (.d (.dp (eShard (rd t0.mShards t3)))) rfl rfl (fun e64 e65 => (w_idx t0.mShards eShard rfl · · · slT22 (gv (aT e64 e65)) (gv (aT e64 e65)) (orT e66 (aT e64 e65)))) ?_
  refine rI 60 (.d (.dp (eShard (rd t0.mShards t3)))) rfl rfl (fun e67 e68 => (v_field_dp (a0 := 0) (cs := (eShard (rd t0.mShards t3))) rfl · · · fo45_0 (gv (aT e67 e68)))) ?_
  refine rI 61 (iV (rd t0.mShards t3).mID) rfl rfl (fun e69 e70 => (v_load_dp1 rfl · · · onT3 (gv (aT e69 e70)) rfl)) ?_
  refine rI 62 (bV (leI (rd t0.mShards t3).mID (rd t0.mShards (IntKind.wrap .i64 (t3 - 1))).mID)) rfl rfl (fun e71 e72 => (v_bin rfl · · · (gv (aT e71 e72)) (gv (aT e71 e72)) (b_geq rfl))) ?_
  refine rF 63 (bV ((ltI 0 t3) && (leI (rd t0.mShards t3).mID (rd t0.mShards (IntKind.wrap .i64 (t3 - 1))).mID))) rfl rfl (fun e73 => (v_pickB rfl · · · (gv (nF e73)) (fun e74 => (gv (aT (nF e73) e74))) (fun e75 => rfl) (pA _ _))) ?_
  refine rT 64 (bV (((!t32) || (!t42)) || ((ltI 0 t3) && (leI (rd t0.mShards t3).mID (rd t0.mShards (IntKind.wrap .i64 (t3 - 1))).mID)))) rfl (v_pickB rfl · · · rfl (fun e76 => rfl) (fun e77 => (gv (nF e77))) (pO _ _)) ?_
  refine rg_nil ⟨by kernel_rfl, ?_⟩
  refine ht_cond rfl (fun e78 => ?_) (fun e78 => ?_)
  ·replace h := cpos e78 h
   refine sr ?_
   refine sM 2 (bV false) rfl rfl ?_
   refine sq_nil ?_
   refine ht_ret ?_
   cases h
   cases r20 _ rfl
   exact ret1 rfl (.tmp rfl)
  replace h := cneg e78 h
  refine ht_skip ?_
  refine ht_region ?_
  refine sM 25 (iV t3) rfl rfl ?_
  refine sT 26 (iV (IntKind.wrap .i64 (t3 + 1))) rfl (v_bin rfl · · · rfl rfl (b_add rfl)) ?_
  refine sM 3 (iV (IntKind.wrap .i64 (t3 + 1))) rfl rfl ?_
  refine sq_nil ?_
  exact j22 _ _ h (wk_ren _ (fun i => i) rfl ⟨rfl, rfl, trivial⟩)
 replace h := cneg e24 h
 refine ht_exit ?_
 refine tq ?_
 refine tq ?_
 refine bq_hit ?_
 cases h
 exact j19 _ _ rfl (wk_ren _ (fun i => i) rfl trivial)
theorem s79 (k : Nat) (t0 : Cell) (t1 : Shard) (t2 : Bool) (r : Cell) (h : F79 k t0 t1 t2 = some r) : Awp.Spec Tryz.prog amb 79 [(.agg (eCell t0)), (.agg (eShard t1)), (.s (.bool t2))] (.ds [(.agg (eCell r))]) := by
 rw [F79] at h
 refine spec_of Tryz.func79 rfl (ble _ _ rfl) fun w0 ok0 lt0 hA => ?_
 refine sr ?_
 refine sq_cons _ (v_box (id := 3) (cs := (eCell t0).map V.d) rfl trivial rfl (ble _ _ rfl) rfl rfl (ones_of rfl) rfl) ?_
 refine sT 4 (.d (.dp (eShard t1))) rfl (v_box_d (cs := (eShard t1)) rfl · · · rfl rfl (ones_of rfl)) ?_
 refine sq_cons _ (v_alloc (id := 6) (cs := zc26) rfl trivial rfl (ble _ _ rfl) zu26 rfl ft26 rfl) ?_
 refine sq_nil ?_
 refine sr ?_
 refine sM 7 (.d (.s (.slice none 0 0))) rfl rfl ?_
 refine sq_nil ?_
 refine sr ?_
 refine sM 10 (bV t2) rfl rfl ?_
 refine sM 8 (bV t2) rfl rfl ?_
 refine sq_nil ?_
 refine ht_bj h (fun (t7, t8) => tell [(.b 3, .box false 5), (.b 6, .box false 5), (.b 1007, .row false 45 17 (t7.map eShard)), (.c 3 0, .d (.sl 17 (t0.mShards.map eShard))), (.c 3 1, iV t0.mTop.mWall), (.c 3 2, iV t0.mTop.mTick), (.c 3 3, iV t0.mTop.mNode), (.c 3 4, iV t0.mDropped), (.c 6 0, .d (.sl 17 (([] : List Shard).map eShard))), (.c 6 1, iV 0), (.c 6 2, iV 0), (.c 6 3, iV 0), (.c 6 4, iV 0), (.t 3, .ptr 3 0), (.t 4, .d (.dp (eShard t1))), (.t 6, .ptr 6 0), (.t 7, .own 1007 17 t7.length), (.t 8, bV t8)]) (fun v1 h => ?_) (fun v1 K2 h j4 => ?_)
 ·obtain ⟨t7, t8⟩ := v1
  refine ht_seq ?_
  refine sr ?_
  refine sM 52 (bV t8) rfl rfl ?_
  refine sT 53 (bV (!t8)) rfl (v_un rfl · · · rfl (u_not rfl)) ?_
  refine sq_nil ?_
  refine ht_cond rfl (fun e34 => ?_) (fun e34 => ?_)
  ·replace h := cpos e34 h
   refine ht_region ?_
   refine sM 54 (.own 1007 17 t7.length) rfl rfl ?_
   refine sT 55 (.d (.agg (eShard t1))) rfl (w_ldp (eShard t1) (eShard t1) rfl · · · ag45 rfl (ble _ _ rfl) rfl) ?_
   refine sq_cons ⟨_, [(.b 56, .row false 45 17 (([t1]).map eShard)), (.t 56, .own 56 17 ([t1]).length)]⟩ (w_bsl (id := 56) [(0, .d (.agg (eShard t1)))] [t1] eShard rfl trivial rfl (ble _ _ rfl) slT22 zr45 teShard (ble _ _ rfl) rfl (by kernel_rfl) rfl rfl (by kernel_rfl) (by kernel_rfl)) ?_
   obtain ⟨e35, h⟩ := gpos h
   refine sq_cons ⟨_, [(.b 1007, .spent), (.b 57, .row false 45 17 ((t7 ++ [t1]).map eShard)), (.t 57, .own 57 17 (t7 ++ [t1]).length)]⟩ (w_app 57 t7 ([t1]) eShard rfl rfl trivial rfl (ble _ _ rfl) slT22 elT45 teShard rfl rfl rfl (.own 56 _ _ rfl) rfl e35) ?_
   refine sM 7 (.own 57 17 (t7 ++ [t1]).length) rfl rfl ?_
   refine sq_nil ?_
   refine sr ?_
   refine sM 58 (.own 57 17 (t7 ++ [t1]).length) rfl rfl ?_
   refine sT 59 (.ptr 3 0) rfl (v_field_box (off := 0) (a0 := 0) rfl · · · fo26_0 rfl) ?_
   refine sq_cons _ (v_store_box (id := 3) (off := 0) (cs := [.own 57 17 (t7 ++ [t1]).length]) rfl trivial rfl sz22 rfl rfl rfl rfl (ones_of rfl) (ble _ _ rfl)) ?_
   refine sq_nil ?_
   refine ht_seq ?_
   refine ht_weak (wk_still_row 57 _ _ _ rfl) ?_
   refine ht_weak (wk_row (.c 3 0) (nc 3 0) 57 _ _ _ _ rfl rfl (lm _ _)) ?_
   refine ht_weak (wk_row (.t 7) (nb 7) 57 _ _ _ _ rfl rfl (lm _ _)) ?_
   refine ht_weak (wk_row (.t 57) (nb 57) 57 _ _ _ _ rfl rfl (lm _ _)) ?_
   refine ht_weak (wk_row (.t 58) (nb 58) 57 _ _ _ _ rfl rfl (lm _ _)) ?_
   refine ht_region ?_
   refine sT 60 (.d (.agg (eCell ({t0 with mShards := (t7 ++ [t1])})))) rfl (w_ldb 3 0 rfl · · · ag26 rfl rfl (ble _ _ rfl) rfl) ?_
   refine sq_cons _ (v_store_box (id := 6) (off := 0) (cs := (eCell ({t0 with mShards := (t7 ++ [t1])})).map V.d) rfl trivial rfl sz26 rfl rfl rfl rfl (ones_of rfl) (ble _ _ rfl)) ?_
   refine sq_nil ?_
   refine ht_ret ?_
   cases h
   exact ret1 rfl (.cell rfl rfl ag26 (ble _ _ rfl) rfl)
  replace h := cneg e34 h
  refine ht_skip ?_
  refine sr ?_
  refine sM 58 (.own 1007 17 t7.length) rfl rfl ?_
  refine sT 59 (.ptr 3 0) rfl (v_field_box (off := 0) (a0 := 0) rfl · · · fo26_0 rfl) ?_
  refine sq_cons _ (v_store_box (id := 3) (off := 0) (cs := [.own 1007 17 t7.length]) rfl trivial rfl sz22 rfl rfl rfl rfl (ones_of rfl) (ble _ _ rfl)) ?_
  refine sq_nil ?_
  refine ht_seq ?_
  refine ht_weak (wk_still_row 1007 _ _ _ rfl) ?_
  refine ht_weak (wk_row (.c 3 0) (nc 3 0) 1007 _ _ _ _ rfl rfl (lm _ _)) ?_
  refine ht_weak (wk_row (.t 7) (nb 7) 1007 _ _ _ _ rfl rfl (lm _ _)) ?_
  refine ht_weak (wk_row (.t 58) (nb 58) 1007 _ _ _ _ rfl rfl (lm _ _)) ?_
  refine ht_region ?_
  refine sT 60 (.d (.agg (eCell ({t0 with mShards := t7})))) rfl (w_ldb 3 0 rfl · · · ag26 rfl rfl (ble _ _ rfl) rfl) ?_
  refine sq_cons _ (v_store_box (id := 6) (off := 0) (cs := (eCell ({t0 with mShards := t7})).map V.d) rfl trivial rfl sz26 rfl rfl rfl rfl (ones_of rfl) (ble _ _ rfl)) ?_
  refine sq_nil ?_
  refine ht_ret ?_
  cases h
  exact ret1 rfl (.cell rfl rfl ag26 (ble _ _ rfl) rfl)
 refine sr ?_
 refine sM 9 (iV 0) rfl rfl ?_
 refine sq_nil ?_
 refine ht_block ?_
 refine ht_rd h (fun _ => rfl) (fun (t7_1, t8_1, t9) => tell [(.b 3, .box false 5), (.b 6, .box false 5), (.b 1007, .row false 45 17 (t7_1.map eShard)), (.c 3 0, .d (.sl 17 (t0.mShards.map eShard))), (.c 3 1, iV t0.mTop.mWall), (.c 3 2, iV t0.mTop.mTick), (.c 3 3, iV t0.mTop.mNode), (.c 3 4, iV t0.mDropped), (.c 6 0, .d (.sl 17 (([] : List Shard).map eShard))), (.c 6 1, iV 0), (.c 6 2, iV 0), (.c 6 3, iV 0), (.c 6 4, iV 0), (.t 3, .ptr 3 0), (.t 4, .d (.dp (eShard t1))), (.t 6, .ptr 6 0), (.t 7, .own 1007 17 t7_1.length), (.t 8, bV t8_1), (.t 9, iV t9)]) (wkt (wk_nilrow (.t 7) (nb 7) 1001007 45 17 rfl rfl) (wk_ren _ (fun i => bif Nat.beq i 1007 then 1001007 else i) rfl ⟨rfl, rfl, rfl, rfl, rfl, rfl, rfl, rfl, rfl, rfl, rfl, rfl, rfl, rfl, rfl, rfl, rfl, rfl, rfl, trivial⟩)) fun k v8 h K33 j7 => ?_
 obtain ⟨t7_1, t8_1, t9⟩ := v8
 rw [F79_l1] at h
 refine ht_seq ?_
 refine sr ?_
 refine sM 11 (iV t9) rfl rfl ?_
 refine sT 12 (.ptr 3 0) rfl (v_field_box (off := 0) (a0 := 0) rfl · · · fo26_0 rfl) ?_
 refine sT 13 (.d (.sl 17 (t0.mShards.map eShard))) rfl (v_load_box1 (id := 3) (off := 0) rfl · · · onT22 rfl rfl (ble _ _ rfl) rfl) ?_
 refine sT 14 (iV (t0.mShards.length : Int)) rfl (w_len t0.mShards eShard rfl rfl · · · slT22 rfl) ?_
 refine sT 15 (bV (ltI t9 (t0.mShards.length : Int))) rfl (v_bin rfl · · · rfl rfl (b_lss rfl)) ?_
 refine sq_nil ?_
 refine ht_cond rfl (fun e9 => ?_) (fun e9 => ?_)
 ·replace h := cpos e9 h
  refine ht_skip ?_
  refine ht_seq ?_
  refine ht_block ?_
  refine ht_bj h (fun (t7_2, t8_2) => tell [(.b 3, .box false 5), (.b 6, .box false 5), (.b 1007, .row false 45 17 (t7_2.map eShard)), (.c 3 0, .d (.sl 17 (t0.mShards.map eShard))), (.c 3 1, iV t0.mTop.mWall), (.c 3 2, iV t0.mTop.mTick), (.c 3 3, iV t0.mTop.mNode), (.c 3 4, iV t0.mDropped), (.c 6 0, .d (.sl 17 (([] : List Shard).map eShard))), (.c 6 1, iV 0), (.c 6 2, iV 0), (.c 6 3, iV 0), (.c 6 4, iV 0), (.t 3, .ptr 3 0), (.t 4, .d (.dp (eShard t1))), (.t 6, .ptr 6 0), (.t 7, .own 1007 17 t7_2.length), (.t 8, bV t8_2), (.t 9, iV t9)]) (fun v10 h => ?_) (fun v10 K11 h j13 => ?_)
  ·obtain ⟨t7_2, t8_2⟩ := v10
   refine ht_seq ?_
   refine ht_region_draw mixed ?_
   refine rT 35 (.ptr 3 0) rfl (v_field_box (off := 0) (a0 := 0) rfl · · · fo26_0 rfl) ?_
   refine rT 36 (.d (.sl 17 (t0.mShards.map eShard))) rfl (v_load_box1 (id := 3) (off := 0) rfl · · · onT22 rfl rfl (ble _ _ rfl) rfl) ?_
   refine rM 37 (iV t9) rfl rfl ?_
   obtain ⟨e29, h⟩ := gpos h
   refine rT 38 (.d (.dp (eShard (rd t0.mShards t9)))) rfl (w_idx t0.mShards eShard rfl · · · slT22 rfl rfl e29) ?_
   refine rT 39 (.d (.dp (eShard (rd t0.mShards t9)))) rfl (v_field_dp (a0 := 0) (cs := (eShard (rd t0.mShards t9))) rfl · · · fo45_0 rfl) ?_
   refine rT 40 (iV (rd t0.mShards t9).mID) rfl (v_load_dp1 rfl · · · onT3 rfl rfl) ?_
   refine rT 41 (.d (.dp (eShard t1))) rfl (v_field_dp (a0 := 0) (cs := (eShard t1)) rfl · · · fo45_0 rfl) ?_
   refine rT 42 (iV t1.mID) rfl (v_load_dp1 rfl · · · onT3 rfl rfl) ?_
   refine rT 43 (bV (!eqI (rd t0.mShards t9).mID t1.mID)) rfl (v_bin rfl · · · rfl rfl (b_neq rfl)) ?_
   refine rg_nil ⟨by kernel_rfl, ?_⟩
   refine ht_cond rfl (fun e30 => ?_) (fun e30 => ?_)
   ·replace h := cpos e30 h
    refine ht_region ?_
    refine sM 44 (.own 1007 17 t7_2.length) rfl rfl ?_
    refine sT 45 (.ptr 3 0) rfl (v_field_box (off := 0) (a0 := 0) rfl · · · fo26_0 rfl) ?_
    refine sT 46 (.d (.sl 17 (t0.mShards.map eShard))) rfl (v_load_box1 (id := 3) (off := 0) rfl · · · onT22 rfl rfl (ble _ _ rfl) rfl) ?_
    refine sM 47 (iV t9) rfl rfl ?_
    obtain ⟨e31, h⟩ := gpos h
    refine sT 48 (.d (.dp (eShard (rd t0.mShards t9)))) rfl (w_idx t0.mShards eShard rfl · · · slT22 rfl rfl e31) ?_
    refine sT 49 (.d (.agg (eShard (rd t0.mShards t9)))) rfl (w_ldp (eShard (rd t0.mShards t9)) (eShard (rd t0.mShards t9)) rfl · · · ag45 rfl (ble _ _ rfl) rfl) ?_
    refine sq_cons ⟨_, [(.b 50, .row false 45 17 (([(rd t0.mShards t9)]).map eShard)), (.t 50, .own 50 17 ([(rd t0.mShards t9)]).length)]⟩ (w_bsl (id := 50) [(0, .d (.agg (eShard (rd t0.mShards t9))))] [(rd t0.mShards t9)] eShard rfl trivial rfl (ble _ _ rfl) slT22 zr45 teShard (ble _ _ rfl) rfl (by kernel_rfl) rfl rfl (by kernel_rfl) (by kernel_rfl)) ?_
    obtain ⟨e32, h⟩ := gpos h
    refine sq_cons ⟨_, [(.b 1007, .spent), (.b 51, .row false 45 17 ((t7_2 ++ [(rd t0.mShards t9)]).map eShard)), (.t 51, .own 51 17 (t7_2 ++ [(rd t0.mShards t9)]).length)]⟩ (w_app 51 t7_2 ([(rd t0.mShards t9)]) eShard rfl rfl trivial rfl (ble _ _ rfl) slT22 elT45 teShard rfl rfl rfl (.own 50 _ _ rfl) rfl e32) ?_
    refine sM 7 (.own 51 17 (t7_2 ++ [(rd t0.mShards t9)]).length) rfl rfl ?_
    refine sq_nil ?_
    refine ht_region ?_
    refine sM 16 (iV t9) rfl rfl ?_
    refine sT 17 (iV (IntKind.wrap .i64 (t9 + 1))) rfl (v_bin rfl · · · rfl rfl (b_add rfl)) ?_
    refine sM 9 (iV (IntKind.wrap .i64 (t9 + 1))) rfl rfl ?_
    refine sq_nil ?_
    exact j7 _ _ h (wk_ren _ (fun i => bif Nat.beq i 1007 then 51 else i) rfl ⟨rfl, rfl, rfl, rfl, rfl, rfl, rfl, rfl, rfl, rfl, rfl, rfl, rfl, rfl, rfl, rfl, rfl, rfl, rfl, trivial⟩)
   replace h := cneg e30 h
   refine ht_skip ?_
   refine ht_region ?_
   refine sM 16 (iV t9) rfl rfl ?_
   refine sT 17 (iV (IntKind.wrap .i64 (t9 + 1))) rfl (v_bin rfl · · · rfl rfl (b_add rfl)) ?_
   refine sM 9 (iV (IntKind.wrap .i64 (t9 + 1))) rfl rfl ?_
   refine sq_nil ?_
   exact j7 _ _ h (wk_ren _ (fun i => i) rfl ⟨rfl, rfl, rfl, rfl, rfl, rfl, rfl, rfl, rfl, rfl, rfl, rfl, rfl, rfl, rfl, rfl, rfl, rfl, rfl, trivial⟩)
  refine ht_seq ?_
  refine ht_region_draw mixed ?_
  refine rM 18 (bV t8_1) rfl rfl ?_
  refine rT 19 (bV (!t8_1)) rfl (v_un rfl · · · rfl (u_not rfl)) ?_
  refine rM 20 (bV (!t8_1)) rfl rfl ?_
  refine rG 21 (.d (.dp (eShard t1))) rfl rfl (fun e15 => (v_field_dp (a0 := 0) (cs := (eShard t1)) rfl · · · fo45_0 rfl)) ?_
  refine rG 22 (iV t1.mID) rfl rfl (fun e16 => (v_load_dp1 rfl · · · onT3 (gv e16) rfl)) ?_
  refine rG 23 (.ptr 3 0) rfl rfl (fun e17 => (v_field_box (off := 0) (a0 := 0) rfl · · · fo26_0 rfl)) ?_
  refine rG 24 (.d (.sl 17 (t0.mShards.map eShard))) rfl rfl (fun e18 => (v_load_box1 (id := 3) (off := 0) rfl · · · onT22 (gv e18) rfl (ble _ _ rfl) rfl)) ?_
  refine rG 25 (iV t9) rfl rfl (fun e19 => (v_move (.inl rfl) · · · rfl)) ?_
  obtain ⟨e21, h⟩ := gpos h
  refine rG 26 (.d (.dp (eShard (rd t0.mShards t9)))) rfl rfl (fun e20 => (w_idx t0.mShards eShard rfl · · · slT22 (gv e20) (gv e20) (orT e21 e20))) ?_
  refine rG 27 (.d (.dp (eShard (rd t0.mShards t9)))) rfl rfl (fun e22 => (v_field_dp (a0 := 0) (cs := (eShard (rd t0.mShards t9))) rfl · · · fo45_0 (gv e22))) ?_
  refine rG 28 (iV (rd t0.mShards t9).mID) rfl rfl (fun e23 => (v_load_dp1 rfl · · · onT3 (gv e23) rfl)) ?_
  refine rG 29 (bV (leI t1.mID (rd t0.mShards t9).mID)) rfl rfl (fun e24 => (v_bin rfl · · · (gv e24) (gv e24) (b_leq rfl))) ?_
  refine rT 30 (bV ((!t8_1) && (leI t1.mID (rd t0.mShards t9).mID))) rfl (v_pickB rfl · · · rfl (fun e25 => (gv e25)) (fun e26 => rfl) (pA _ _)) ?_
  refine rg_nil ⟨by kernel_rfl, ?_⟩
  refine ht_cond rfl (fun e27 => ?_) (fun e27 => ?_)
  ·replace h := cpos e27 h
   refine sr ?_
   refine sM 31 (.own 1007 17 t7_1.length) rfl rfl ?_
   refine sT 32 (.d (.agg (eShard t1))) rfl (w_ldp (eShard t1) (eShard t1) rfl · · · ag45 rfl (ble _ _ rfl) rfl) ?_
   refine sq_cons ⟨_, [(.b 33, .row false 45 17 (([t1]).map eShard)), (.t 33, .own 33 17 ([t1]).length)]⟩ (w_bsl (id := 33) [(0, .d (.agg (eShard t1)))] [t1] eShard rfl trivial rfl (ble _ _ rfl) slT22 zr45 teShard (ble _ _ rfl) rfl (by kernel_rfl) rfl rfl (by kernel_rfl) (by kernel_rfl)) ?_
   obtain ⟨e28, h⟩ := gpos h
   refine sq_cons ⟨_, [(.b 1007, .spent), (.b 34, .row false 45 17 ((t7_1 ++ [t1]).map eShard)), (.t 34, .own 34 17 (t7_1 ++ [t1]).length)]⟩ (w_app 34 t7_1 ([t1]) eShard rfl rfl trivial rfl (ble _ _ rfl) slT22 elT45 teShard rfl rfl rfl (.own 33 _ _ rfl) rfl e28) ?_
   refine sM 7 (.own 34 17 (t7_1 ++ [t1]).length) rfl rfl ?_
   refine sq_nil ?_
   refine ht_region ?_
   refine sM 8 (bV true) rfl rfl ?_
   refine sq_nil ?_
   cases h
   exact j13 _ (wk_ren _ (fun i => bif Nat.beq i 1007 then 34 else i) rfl ⟨rfl, rfl, rfl, rfl, rfl, rfl, rfl, rfl, rfl, rfl, rfl, rfl, rfl, rfl, rfl, rfl, rfl, rfl, rfl, trivial⟩)
  replace h := cneg e27 h
  refine ht_skip ?_
  cases h
  exact j13 _ (wk_ren _ (fun i => i) rfl ⟨rfl, rfl, rfl, rfl, rfl, rfl, rfl, rfl, rfl, rfl, rfl, rfl, rfl, rfl, rfl, rfl, rfl, rfl, rfl, trivial⟩)
 replace h := cneg e9 h
 refine ht_exit ?_
 refine tq ?_
 refine tq ?_
 refine bq_hit ?_
 cases h
 exact j4 _ (wk_ren _ (fun i => i) rfl ⟨rfl, rfl, rfl, rfl, rfl, rfl, rfl, rfl, rfl, rfl, rfl, rfl, rfl, rfl, rfl, rfl, rfl, rfl, trivial⟩)
theorem s31 (k : Nat) (t0 : Cell) (t1 : Int) (t2 : Int) (t3 : Int) (r : Cell × Bool) (h : F31 k t0 t1 t2 t3 = some r) : Awp.Spec Tryz.prog amb 31 [(.agg (eCell t0)), (.s (.int .i64 t1)), (.s (.int .i64 t2)), (.s (.int .i64 t3))] (.ds [(.agg (eCell r.1)), (.s (.bool r.2))]) := by
 rw [F31] at h
 refine spec_of Tryz.func31 rfl (ble _ _ rfl) fun w0 ok0 lt0 hA => ?_
 refine sr ?_
 refine sT 4 (.d (.dp (eCell t0))) rfl (v_box_d (cs := (eCell t0)) rfl · · · rfl rfl (ones_of rfl)) ?_
 refine sq_cons _ (v_alloc (id := 8) (cs := zc26) rfl trivial rfl (ble _ _ rfl) zu26 rfl ft26 rfl) ?_
 refine sM 9 (bV false) rfl rfl ?_
 refine sq_nil ?_
 refine sr ?_
 refine sT 11 (.d (.agg (eCell t0))) rfl (w_ldp (eCell t0) (eCell t0) rfl · · · ag26 rfl (ble _ _ rfl) rfl) ?_
 refine sM 12 (iV t1) rfl rfl ?_
 obtain ⟨t13, c1, h⟩ := bpos h
 refine sT 13 (.d (.agg (eShard t13))) rfl (w_call (ds := [(.agg (eCell t0)), (.s (.int .i64 t1))]) (caps := []) (l := [(.agg (eShard t13))]) (s24 k t0 t1 _ c1) rfl rfl rfl en24 · · · (.inl ⟨rfl, rfl⟩) rfl rfl) ?_
 refine sq_cons _ (v_alloc (id := 10) (cs := zc45) rfl trivial rfl (ble _ _ rfl) zu45 rfl ft45 rfl) ?_
 refine sq_cons _ (v_store_box (id := 10) (off := 0) (cs := (eShard t13).map V.d) rfl trivial rfl sz45 rfl rfl rfl rfl (ones_of rfl) (ble _ _ rfl)) ?_
 refine sq_nil ?_
 refine ht_seq ?_
 refine sr ?_
 refine sT 14 (.d (.agg (eCell t0))) rfl (w_ldp (eCell t0) (eCell t0) rfl · · · ag26 rfl (ble _ _ rfl) rfl) ?_
 obtain ⟨t15, c2, h⟩ := bpos h
 refine sT 15 (bV t15) rfl (w_call (ds := [(.agg (eCell t0))]) (caps := []) (l := [(.s (.bool t15))]) (s22 k t0 _ c2) rfl rfl rfl en22 · · · (.inl ⟨rfl, rfl⟩) rfl rfl) ?_
 refine sT 16 (bV (!t15)) rfl (v_un rfl · · · rfl (u_not rfl)) ?_
 refine sM 17 (bV (!t15)) rfl rfl ?_
 refine sF 18 (iV t1) rfl rfl (fun e3 => (v_move (.inl rfl) · · · rfl)) ?_
 obtain ⟨t19, c5, h⟩ := bpos h
 refine sF 19 (bV t19) rfl rfl (fun e4 => (w_call (ds := [(.s (.int .i64 t1))]) (caps := []) (l := [(.s (.bool t19))]) (s66 k t1 _ (cpos (nF e4) c5)) rfl rfl rfl en66 · · · (.inl ⟨rfl, rfl⟩) (cc (gv (nF e4)) rfl) rfl)) ?_
 refine sF 20 (bV (!t19)) rfl rfl (fun e6 => (v_un rfl · · · (gv (nF e6)) (u_not rfl))) ?_
 refine sT 21 (bV ((!t15) || (!t19))) rfl (v_pickB rfl · · · rfl (fun e7 => rfl) (fun e8 => (gv (nF e8))) (pO _ _)) ?_
 refine sM 22 (bV ((!t15) || (!t19))) rfl rfl ?_
 refine sF 23 (iV t2) rfl rfl (fun e9 => (v_move (.inl rfl) · · · rfl)) ?_
 obtain ⟨t24, c11, h⟩ := bpos h
 refine sF 24 (bV t24) rfl rfl (fun e10 => (w_call (ds := [(.s (.int .i64 t2))]) (caps := []) (l := [(.s (.bool t24))]) (s66 k t2 _ (cpos (nF e10) c11)) rfl rfl rfl en66 · · · (.inl ⟨rfl, rfl⟩) (cc (gv (nF e10)) rfl) rfl)) ?_
 refine sF 25 (bV (!t24)) rfl rfl (fun e12 => (v_un rfl · · · (gv (nF e12)) (u_not rfl))) ?_
 refine sT 26 (bV (((!t15) || (!t19)) || (!t24))) rfl (v_pickB rfl · · · rfl (fun e13 => rfl) (fun e14 => (gv (nF e14))) (pO _ _)) ?_
 refine sM 27 (bV (((!t15) || (!t19)) || (!t24))) rfl rfl ?_
 refine sF 28 (iV t3) rfl rfl (fun e15 => (v_move (.inl rfl) · · · rfl)) ?_
 obtain ⟨t29, c17, h⟩ := bpos h
 refine sF 29 (bV t29) rfl rfl (fun e16 => (w_call (ds := [(.s (.int .i64 t3))]) (caps := []) (l := [(.s (.bool t29))]) (s66 k t3 _ (cpos (nF e16) c17)) rfl rfl rfl en66 · · · (.inl ⟨rfl, rfl⟩) (cc (gv (nF e16)) rfl) rfl)) ?_
 refine sF 30 (bV (!t29)) rfl rfl (fun e18 => (v_un rfl · · · (gv (nF e18)) (u_not rfl))) ?_
 refine sT 31 (bV ((((!t15) || (!t19)) || (!t24)) || (!t29))) rfl (v_pickB rfl · · · rfl (fun e19 => rfl) (fun e20 => (gv (nF e20))) (pO _ _)) ?_
 refine sM 32 (bV ((((!t15) || (!t19)) || (!t24)) || (!t29))) rfl rfl ?_
 refine sF 33 (.ptr 10 0) rfl rfl (fun e21 => (v_field_box (off := 0) (a0 := 0) rfl · · · fo45_0 rfl)) ?_
 refine sF 34 (iV t13.mID) rfl rfl (fun e22 => (v_load_box1 (id := 10) (off := 0) rfl · · · onT3 (gv (nF e22)) rfl (ble _ _ rfl) rfl)) ?_
 refine sF 35 (bV (eqI t13.mID 0)) rfl rfl (fun e23 => (v_bin rfl · · · (gv (nF e23)) rfl (b_eql rfl))) ?_
 refine sT 36 (bV (((((!t15) || (!t19)) || (!t24)) || (!t29)) || (eqI t13.mID 0))) rfl (v_pickB rfl · · · rfl (fun e24 => rfl) (fun e25 => (gv (nF e25))) (pO _ _)) ?_
 refine sM 37 (bV (((((!t15) || (!t19)) || (!t24)) || (!t29)) || (eqI t13.mID 0))) rfl rfl ?_
 refine sF 38 (.ptr 10 1) rfl rfl (fun e26 => (v_field_box (off := 0) (a0 := 1) rfl · · · fo45_1 rfl)) ?_
 refine sF 39 (iV t13.mEpoch) rfl rfl (fun e27 => (v_load_box1 (id := 10) (off := 1) rfl · · · onT3 (gv (nF e27)) rfl (ble _ _ rfl) rfl)) ?_
 refine sF 40 (iV t2) rfl rfl (fun e28 => (v_move (.inl rfl) · · · rfl)) ?_
 refine sF 41 (bV (!eqI t13.mEpoch t2)) rfl rfl (fun e29 => (v_bin rfl · · · (gv (nF e29)) (gv (nF e29)) (b_neq rfl))) ?_
 refine sT 42 (bV ((((((!t15) || (!t19)) || (!t24)) || (!t29)) || (eqI t13.mID 0)) || (!eqI t13.mEpoch t2))) rfl (v_pickB rfl · · · rfl (fun e30 => rfl) (fun e31 => (gv (nF e31))) (pO _ _)) ?_
 refine sM 43 (bV ((((((!t15) || (!t19)) || (!t24)) || (!t29)) || (eqI t13.mID 0)) || (!eqI t13.mEpoch t2))) rfl rfl ?_
 refine sF 44 (.ptr 10 4) rfl rfl (fun e32 => (v_field_box (off := 0) (a0 := 4) rfl · · · fo45_3 rfl)) ?_
 refine sF 45 (iV t13.mPhase) rfl rfl (fun e33 => (v_load_box1 (id := 10) (off := 4) rfl · · · onT3 (gv (nF e33)) rfl (ble _ _ rfl) rfl)) ?_
 refine sF 46 (bV (!eqI t13.mPhase 1)) rfl rfl (fun e34 => (v_bin rfl · · · (gv (nF e34)) rfl (b_neq rfl))) ?_
 refine sT 47 (bV (((((((!t15) || (!t19)) || (!t24)) || (!t29)) || (eqI t13.mID 0)) || (!eqI t13.mEpoch t2)) || (!eqI t13.mPhase 1))) rfl (v_pickB rfl · · · rfl (fun e35 => rfl) (fun e36 => (gv (nF e36))) (pO _ _)) ?_
 refine sM 48 (bV (((((((!t15) || (!t19)) || (!t24)) || (!t29)) || (eqI t13.mID 0)) || (!eqI t13.mEpoch t2)) || (!eqI t13.mPhase 1))) rfl rfl ?_
 refine sF 49 (iV t3) rfl rfl (fun e37 => (v_move (.inl rfl) · · · rfl)) ?_
 refine sF 50 (.ptr 10 14) rfl rfl (fun e38 => (v_field_box (off := 0) (a0 := 14) rfl · · · fo45_9 rfl)) ?_
 refine sF 51 (iV t13.mSeen) rfl rfl (fun e39 => (v_load_box1 (id := 10) (off := 14) rfl · · · onT3 (gv (nF e39)) rfl (ble _ _ rfl) rfl)) ?_
 refine sF 52 (bV (leI t3 t13.mSeen)) rfl rfl (fun e40 => (v_bin rfl · · · (gv (nF e40)) (gv (nF e40)) (b_leq rfl))) ?_
 refine sT 53 (bV ((((((((!t15) || (!t19)) || (!t24)) || (!t29)) || (eqI t13.mID 0)) || (!eqI t13.mEpoch t2)) || (!eqI t13.mPhase 1)) || (leI t3 t13.mSeen))) rfl (v_pickB rfl · · · rfl (fun e41 => rfl) (fun e42 => (gv (nF e42))) (pO _ _)) ?_
 refine sq_nil ?_
 refine ht_cond rfl (fun e43 => ?_) (fun e43 => ?_)
 ·replace h := cpos e43 h
  refine sr ?_
  refine sT 54 (.d (.agg (eCell t0))) rfl (w_ldp (eCell t0) (eCell t0) rfl · · · ag26 rfl (ble _ _ rfl) rfl) ?_
  refine sq_cons _ (v_store_box (id := 8) (off := 0) (cs := (eCell t0).map V.d) rfl trivial rfl sz26 rfl rfl rfl rfl (ones_of rfl) (ble _ _ rfl)) ?_
  refine sM 9 (bV false) rfl rfl ?_
  refine sq_nil ?_
  refine ht_ret ?_
  cases h
  exact ret2 rfl (.cell rfl rfl ag26 (ble _ _ rfl) rfl) (.tmp rfl)
 replace h := cneg e43 h
 refine ht_skip ?_
 refine ht_seq ?_
 refine sr ?_
 refine sT 55 (.ptr 10 13) rfl (v_field_box (off := 0) (a0 := 13) rfl · · · fo45_8 rfl) ?_
 refine sT 56 (iV t13.mHold) rfl (v_load_box1 (id := 10) (off := 13) rfl · · · onT3 rfl rfl (ble _ _ rfl) rfl) ?_
 refine sT 57 (bV (!eqI t13.mHold 0)) rfl (v_bin rfl · · · rfl rfl (b_neq rfl)) ?_
 refine sM 58 (bV (!eqI t13.mHold 0)) rfl rfl ?_
 refine sG 59 (.ptr 10 13) rfl rfl (fun e44 => (v_field_box (off := 0) (a0 := 13) rfl · · · fo45_8 rfl)) ?_
 refine sG 60 (iV t13.mHold) rfl rfl (fun e45 => (v_load_box1 (id := 10) (off := 13) rfl · · · onT3 (gv e45) rfl (ble _ _ rfl) rfl)) ?_
 refine sG 61 (iV t3) rfl rfl (fun e46 => (v_move (.inl rfl) · · · rfl)) ?_
 refine sG 62 (bV (!eqI t13.mHold t3)) rfl rfl (fun e47 => (v_bin rfl · · · (gv e47) (gv e47) (b_neq rfl))) ?_
 refine sT 63 (bV ((!eqI t13.mHold 0) && (!eqI t13.mHold t3))) rfl (v_pickB rfl · · · rfl (fun e48 => (gv e48)) (fun e49 => rfl) (pA _ _)) ?_
 refine sq_nil ?_
 refine ht_cond rfl (fun e50 => ?_) (fun e50 => ?_)
 ·replace h := cpos e50 h
  refine sr ?_
  refine sT 64 (.d (.agg (eCell t0))) rfl (w_ldp (eCell t0) (eCell t0) rfl · · · ag26 rfl (ble _ _ rfl) rfl) ?_
  refine sq_cons _ (v_store_box (id := 8) (off := 0) (cs := (eCell t0).map V.d) rfl trivial rfl sz26 rfl rfl rfl rfl (ones_of rfl) (ble _ _ rfl)) ?_
  refine sM 9 (bV false) rfl rfl ?_
  refine sq_nil ?_
  refine ht_ret ?_
  cases h
  exact ret2 rfl (.cell rfl rfl ag26 (ble _ _ rfl) rfl) (.tmp rfl)
 replace h := cneg e50 h
 refine ht_skip ?_
 refine sr ?_
 refine sM 65 (iV t3) rfl rfl ?_
 refine sT 66 (.ptr 10 13) rfl (v_field_box (off := 0) (a0 := 13) rfl · · · fo45_8 rfl) ?_
 refine sq_cons _ (v_store_box (id := 10) (off := 13) (cs := [(.s (.int .i64 t3))].map V.d) rfl trivial rfl sz3 rfl rfl rfl rfl (ones_of rfl) (ble _ _ rfl)) ?_
 refine sq_nil ?_
 refine sr ?_
 refine sT 67 (.d (.agg (eCell t0))) rfl (w_ldp (eCell t0) (eCell t0) rfl · · · ag26 rfl (ble _ _ rfl) rfl) ?_
 refine sT 68 (.d (.agg (eShard ({t13 with mHold := t3})))) rfl (w_ldb 10 0 rfl · · · ag45 rfl rfl (ble _ _ rfl) rfl) ?_
 obtain ⟨t69, c51, h⟩ := bpos h
 refine sT 69 (.d (.agg (eCell t69))) rfl (w_call (ds := [(.agg (eCell t0)), (.agg (eShard ({t13 with mHold := t3}))), (.s (.bool false))]) (caps := []) (l := [(.agg (eCell t69))]) (s79 k t0 ({t13 with mHold := t3}) false _ c51) rfl rfl rfl en79 · · · (.inl ⟨rfl, rfl⟩) rfl rfl) ?_
 refine sq_cons _ (v_store_box (id := 8) (off := 0) (cs := (eCell t69).map V.d) rfl trivial rfl sz26 rfl rfl rfl rfl (ones_of rfl) (ble _ _ rfl)) ?_
 refine sM 9 (bV true) rfl rfl ?_
 refine sq_nil ?_
 refine ht_ret ?_
 cases h
 exact ret2 rfl (.cell rfl rfl ag26 (ble _ _ rfl) rfl) (.tmp rfl)
theorem s32 (k : Nat) (t0 : Cell) (t1 : Int) (t2 : Int) (t3 : Stamp) (r : Cell × Bool) (h : F32 k t0 t1 t2 t3 = some r) : Awp.Spec Tryz.prog amb 32 [(.agg (eCell t0)), (.s (.int .i64 t1)), (.s (.int .i64 t2)), (.agg (eStamp t3))] (.ds [(.agg (eCell r.1)), (.s (.bool r.2))]) := by
 rw [F32] at h
 refine spec_of Tryz.func32 rfl (ble _ _ rfl) fun w0 ok0 lt0 hA => ?_
 refine sr ?_
 refine sq_cons _ (v_box (id := 4) (cs := (eCell t0).map V.d) rfl trivial rfl (ble _ _ rfl) rfl rfl (ones_of rfl) rfl) ?_
 refine sT 7 (.d (.dp (eStamp t3))) rfl (v_box_d (cs := (eStamp t3)) rfl · · · rfl rfl (ones_of rfl)) ?_
 refine sq_cons _ (v_alloc (id := 8) (cs := zc26) rfl trivial rfl (ble _ _ rfl) zu26 rfl ft26 rfl) ?_
 refine sM 9 (bV false) rfl rfl ?_
 refine sq_nil ?_
 refine sr ?_
 refine sT 13 (.d (.agg (eCell t0))) rfl (w_ldb 4 0 rfl · · · ag26 rfl rfl (ble _ _ rfl) rfl) ?_
 refine sM 14 (iV t1) rfl rfl ?_
 obtain ⟨⟨t15a, t15b⟩, c1, h⟩ := bpos h
 refine sT 15 (.tup [.d (.agg (eShard t15a)), bV t15b]) rfl (w_call (ds := [(.agg (eCell t0)), (.s (.int .i64 t1))]) (caps := []) (l := [(.agg (eShard t15a)), (.s (.bool t15b))]) (s23 k t0 t1 _ c1) rfl rfl rfl en23 · · · (.inl ⟨rfl, rfl⟩) rfl rfl) ?_
 refine sM 12 (.tup [.d (.agg (eShard t15a)), bV t15b]) rfl rfl ?_
 refine sT 16 (.d (.agg (eShard t15a))) rfl (v_extract rfl · · · rfl rfl) ?_
 refine sT 17 (bV t15b) rfl (v_extract rfl · · · rfl rfl) ?_
 refine sq_cons _ (v_alloc (id := 10) (cs := zc45) rfl trivial rfl (ble _ _ rfl) zu45 rfl ft45 rfl) ?_
 refine sq_cons _ (v_store_box (id := 10) (off := 0) (cs := (eShard t15a).map V.d) rfl trivial rfl sz45 rfl rfl rfl rfl (ones_of rfl) (ble _ _ rfl)) ?_
 refine sM 11 (bV t15b) rfl rfl ?_
 refine sq_nil ?_
 refine ht_seq ?_
 refine sr ?_
 refine sM 18 (bV t15b) rfl rfl ?_
 refine sT 19 (bV (!t15b)) rfl (v_un rfl · · · rfl (u_not rfl)) ?_
 refine sM 20 (bV (!t15b)) rfl rfl ?_
 refine sF 21 (iV t2) rfl rfl (fun e2 => (v_move (.inl rfl) · · · rfl)) ?_
 refine sF 22 (.d (.sl 1 (([t2]).map (eI .i64)))) rfl rfl (fun e3 => (w_bsl_d [(0, iV t2)] [t2] (eI .i64) rfl · · · slT148 zr3 (encI .i64) (ble _ _ rfl) (cc (pr (gv (nF e3))) rfl) (by kernel_rfl) rfl rfl (by kernel_rfl))) ?_
 obtain ⟨t23, c5, h⟩ := bpos h
 refine sF 23 (bV t23) rfl rfl (fun e4 => (w_call (ds := [(.s (.int .i64 1)), (.sl 1 (([t2]).map (eI .i64)))]) (caps := []) (l := [(.s (.bool t23))]) (s57 k 1 ([t2]) _ (cpos (nF e4) c5)) rfl rfl rfl en57 · · · (.inl ⟨rfl, rfl⟩) (cc rfl (cc (gv (nF e4)) rfl)) rfl)) ?_
 refine sF 24 (bV (!t23)) rfl rfl (fun e6 => (v_un rfl · · · (gv (nF e6)) (u_not rfl))) ?_
 refine sT 25 (bV ((!t15b) || (!t23))) rfl (v_pickB rfl · · · rfl (fun e7 => rfl) (fun e8 => (gv (nF e8))) (pO _ _)) ?_
 refine sM 26 (bV ((!t15b) || (!t23))) rfl rfl ?_
 refine sF 27 (.d (.agg (eStamp t3))) rfl rfl (fun e9 => (w_ldp (eStamp t3) (eStamp t3) rfl · · · ag24 rfl (ble _ _ rfl) rfl)) ?_
 obtain ⟨t28, c11, h⟩ := bpos h
 refine sF 28 (bV t28) rfl rfl (fun e10 => (w_call (ds := [(.agg (eStamp t3))]) (caps := []) (l := [(.s (.bool t28))]) (s36 k t3 _ (cpos (nF e10) c11)) rfl rfl rfl en36 · · · (.inl ⟨rfl, rfl⟩) (cc (gv (nF e10)) rfl) rfl)) ?_
 refine sF 29 (bV (!t28)) rfl rfl (fun e12 => (v_un rfl · · · (gv (nF e12)) (u_not rfl))) ?_
 refine sT 30 (bV (((!t15b) || (!t23)) || (!t28))) rfl (v_pickB rfl · · · rfl (fun e13 => rfl) (fun e14 => (gv (nF e14))) (pO _ _)) ?_
 refine sq_nil ?_
 refine ht_cond rfl (fun e15 => ?_) (fun e15 => ?_)
 ·replace h := cpos e15 h
  refine sr ?_
  refine sT 31 (.d (.agg (eCell t0))) rfl (w_ldb 4 0 rfl · · · ag26 rfl rfl (ble _ _ rfl) rfl) ?_
  refine sq_cons _ (v_store_box (id := 8) (off := 0) (cs := (eCell t0).map V.d) rfl trivial rfl sz26 rfl rfl rfl rfl (ones_of rfl) (ble _ _ rfl)) ?_
  refine sM 9 (bV false) rfl rfl ?_
  refine sq_nil ?_
  refine ht_ret ?_
  cases h
  exact ret2 rfl (.cell rfl rfl ag26 (ble _ _ rfl) rfl) (.tmp rfl)
 replace h := cneg e15 h
 refine ht_skip ?_
 refine ht_seq ?_
 refine sr ?_
 refine sT 32 (.ptr 10 14) rfl (v_field_box (off := 0) (a0 := 14) rfl · · · fo45_9 rfl) ?_
 refine sT 33 (iV t15a.mSeen) rfl (v_load_box1 (id := 10) (off := 14) rfl · · · onT3 rfl rfl (ble _ _ rfl) rfl) ?_
 refine sM 34 (iV t2) rfl rfl ?_
 refine sT 35 (bV (leI t2 t15a.mSeen)) rfl (v_bin rfl · · · rfl rfl (b_geq rfl)) ?_
 refine sq_nil ?_
 refine ht_cond rfl (fun e16 => ?_) (fun e16 => ?_)
 ·replace h := cpos e16 h
  refine sr ?_
  refine sT 36 (.d (.agg (eCell t0))) rfl (w_ldb 4 0 rfl · · · ag26 rfl rfl (ble _ _ rfl) rfl) ?_
  refine sq_cons _ (v_store_box (id := 8) (off := 0) (cs := (eCell t0).map V.d) rfl trivial rfl sz26 rfl rfl rfl rfl (ones_of rfl) (ble _ _ rfl)) ?_
  refine sM 9 (bV true) rfl rfl ?_
  refine sq_nil ?_
  refine ht_ret ?_
  cases h
  exact ret2 rfl (.cell rfl rfl ag26 (ble _ _ rfl) rfl) (.tmp rfl)
 replace h := cneg e16 h
 refine ht_skip ?_
 refine sr ?_
 refine sM 37 (iV t2) rfl rfl ?_
 refine sT 38 (.ptr 10 14) rfl (v_field_box (off := 0) (a0 := 14) rfl · · · fo45_9 rfl) ?_
 refine sq_cons _ (v_store_box (id := 10) (off := 14) (cs := [(.s (.int .i64 t2))].map V.d) rfl trivial rfl sz3 rfl rfl rfl rfl (ones_of rfl) (ble _ _ rfl)) ?_
 refine sq_nil ?_
 refine ht_bj h (fun t10c13 => tell [(.b 4, .box false 5), (.b 8, .box false 5), (.b 10, .box false 17), (.c 4 0, .d (.sl 17 (t0.mShards.map eShard))), (.c 4 1, iV t0.mTop.mWall), (.c 4 2, iV t0.mTop.mTick), (.c 4 3, iV t0.mTop.mNode), (.c 4 4, iV t0.mDropped), (.c 8 0, .d (.sl 17 (([] : List Shard).map eShard))), (.c 8 1, iV 0), (.c 8 2, iV 0), (.c 8 3, iV 0), (.c 8 4, iV 0), (.c 10 0, iV t15a.mID), (.c 10 1, iV t15a.mEpoch), (.c 10 2, sV t15a.mSpan.mLo), (.c 10 3, sV t15a.mSpan.mHi), (.c 10 4, iV t15a.mPhase), (.c 10 5, .d (.sl 2 (t15a.mEntries.map eEntry))), (.c 10 6, iV t15a.mMark.mWall), (.c 10 7, iV t15a.mMark.mTick), (.c 10 8, iV t15a.mMark.mNode), (.c 10 9, iV t15a.mTop.mWall), (.c 10 10, iV t15a.mTop.mTick), (.c 10 11, iV t15a.mTop.mNode), (.c 10 12, .d (.sl 11 (t15a.mDone.map eDone))), (.c 10 13, iV t10c13), (.c 10 14, iV t2), (.c 10 15, iV t15a.mMove), (.c 10 16, iV t15a.mClosed), (.t 4, .ptr 4 0), (.t 7, .d (.dp (eStamp t3))), (.t 8, .ptr 8 0), (.t 10, .ptr 10 0)]) (fun t10c13 h => ?_) (fun v17 K18 h j20 => ?_)
 ·refine sr ?_
  refine sT 44 (.d (.agg (eCell t0))) rfl (w_ldb 4 0 rfl · · · ag26 rfl rfl (ble _ _ rfl) rfl) ?_
  refine sT 45 (.d (.agg (eShard ({t15a with mHold := t10c13, mSeen := t2})))) rfl (w_ldb 10 0 rfl · · · ag45 rfl rfl (ble _ _ rfl) rfl) ?_
  obtain ⟨t46, c23, h⟩ := bpos h
  refine sT 46 (.d (.agg (eCell t46))) rfl (w_call (ds := [(.agg (eCell t0)), (.agg (eShard ({t15a with mHold := t10c13, mSeen := t2})))]) (caps := []) (l := [(.agg (eCell t46))]) (s95 k t0 ({t15a with mHold := t10c13, mSeen := t2}) _ c23) rfl rfl rfl en95 · · · (.inl ⟨rfl, rfl⟩) rfl rfl) ?_
  refine sq_cons _ (v_store_box (id := 4) (off := 0) (cs := (eCell t46).map V.d) rfl trivial rfl sz26 rfl rfl rfl rfl (ones_of rfl) (ble _ _ rfl)) ?_
  refine sq_nil ?_
  refine sr ?_
  refine sT 47 (.ptr 4 1) rfl (v_field_box (off := 0) (a0 := 1) rfl · · · fo26_1 rfl) ?_
  refine sT 48 (.d (.agg (eStamp t46.mTop))) rfl (w_ldb 4 1 rfl · · · ag24 rfl rfl (ble _ _ rfl) rfl) ?_
  refine sT 49 (.d (.agg (eStamp t3))) rfl (w_ldp (eStamp t3) (eStamp t3) rfl · · · ag24 rfl (ble _ _ rfl) rfl) ?_
  obtain ⟨t50, c24, h⟩ := bpos h
  refine sT 50 (.d (.agg (eStamp t50))) rfl (w_call (ds := [(.agg (eStamp t46.mTop)), (.agg (eStamp t3))]) (caps := []) (l := [(.agg (eStamp t50))]) (s37 k t46.mTop t3 _ c24) rfl rfl rfl en37 · · · (.inl ⟨rfl, rfl⟩) rfl rfl) ?_
  refine sT 51 (.ptr 4 1) rfl (v_field_box (off := 0) (a0 := 1) rfl · · · fo26_1 rfl) ?_
  refine sq_cons _ (v_store_box (id := 4) (off := 1) (cs := (eStamp t50).map V.d) rfl trivial rfl sz24 rfl rfl rfl rfl (ones_of rfl) (ble _ _ rfl)) ?_
  refine sq_nil ?_
  refine sr ?_
  refine sT 52 (.d (.agg (eCell ({t46 with mTop := t50})))) rfl (w_ldb 4 0 rfl · · · ag26 rfl rfl (ble _ _ rfl) rfl) ?_
  refine sq_cons _ (v_store_box (id := 8) (off := 0) (cs := (eCell ({t46 with mTop := t50})).map V.d) rfl trivial rfl sz26 rfl rfl rfl rfl (ones_of rfl) (ble _ _ rfl)) ?_
  refine sM 9 (bV true) rfl rfl ?_
  refine sq_nil ?_
  refine ht_ret ?_
  cases h
  exact ret2 rfl (.cell rfl rfl ag26 (ble _ _ rfl) rfl) (.tmp rfl)
 refine sr ?_
 refine sT 39 (.ptr 10 13) rfl (v_field_box (off := 0) (a0 := 13) rfl · · · fo45_8 rfl) ?_
 refine sT 40 (iV t15a.mHold) rfl (v_load_box1 (id := 10) (off := 13) rfl · · · onT3 rfl rfl (ble _ _ rfl) rfl) ?_
 refine sM 41 (iV t2) rfl rfl ?_
 refine sT 42 (bV (eqI t15a.mHold t2)) rfl (v_bin rfl · · · rfl rfl (b_eql rfl)) ?_
 refine sq_nil ?_
 refine ht_cond rfl (fun e22 => ?_) (fun e22 => ?_)
 ·replace h := cpos e22 h
  refine ht_region ?_
  refine sT 43 (.ptr 10 13) rfl (v_field_box (off := 0) (a0 := 13) rfl · · · fo45_8 rfl) ?_
  refine sq_cons _ (v_store_box (id := 10) (off := 13) (cs := [(.s (.int .i64 0))].map V.d) rfl trivial rfl sz3 rfl rfl rfl rfl (ones_of rfl) (ble _ _ rfl)) ?_
  refine sq_nil ?_
  cases h
  exact j20 _ (wk_ren _ (fun i => i) rfl ⟨rfl, rfl, rfl, rfl, rfl, rfl, rfl, rfl, rfl, rfl, rfl, rfl, rfl, rfl, rfl, rfl, rfl, rfl, rfl, rfl, rfl, rfl, rfl, rfl, rfl, rfl, rfl, rfl, rfl, rfl, rfl, rfl, rfl, rfl, trivial⟩)
 replace h := cneg e22 h
 refine ht_skip ?_
 cases h
 exact j20 _ (wk_ren _ (fun i => i) rfl ⟨rfl, rfl, rfl, rfl, rfl, rfl, rfl, rfl, rfl, rfl, rfl, rfl, rfl, rfl, rfl, rfl, rfl, rfl, rfl, rfl, rfl, rfl, rfl, rfl, rfl, rfl, rfl, rfl, rfl, rfl, rfl, rfl, rfl, rfl, trivial⟩)
theorem s97 (k : Nat) (t0 : Stamp) (t1 : Stamp) (r : Stamp) (h : F97 k t0 t1 = some r) : Awp.Spec Tryz.prog amb 97 [(.agg (eStamp t0)), (.agg (eStamp t1))] (.ds [(.agg (eStamp r))]) := by
 rw [F97] at h
 refine spec_of Tryz.func97 rfl (ble _ _ rfl) fun w0 ok0 lt0 hA => ?_
 refine sr ?_
 refine sT 2 (.d (.dp (eStamp t0))) rfl (v_box_d (cs := (eStamp t0)) rfl · · · rfl rfl (ones_of rfl)) ?_
 refine sT 3 (.d (.dp (eStamp t1))) rfl (v_box_d (cs := (eStamp t1)) rfl · · · rfl rfl (ones_of rfl)) ?_
 refine sq_cons _ (v_alloc (id := 4) (cs := zc24) rfl trivial rfl (ble _ _ rfl) zu24 rfl ft24 rfl) ?_
 refine sq_nil ?_
 refine ht_seq ?_
 refine sr ?_
 refine sT 5 (.d (.agg (eStamp t0))) rfl (w_ldp (eStamp t0) (eStamp t0) rfl · · · ag24 rfl (ble _ _ rfl) rfl) ?_
 refine sT 6 (.d (.agg (eStamp t1))) rfl (w_ldp (eStamp t1) (eStamp t1) rfl · · · ag24 rfl (ble _ _ rfl) rfl) ?_
 obtain ⟨t7, c1, h⟩ := bpos h
 refine sT 7 (bV t7) rfl (w_call (ds := [(.agg (eStamp t0)), (.agg (eStamp t1))]) (caps := []) (l := [(.s (.bool t7))]) (s76 k t0 t1 _ c1) rfl rfl rfl en76 · · · (.inl ⟨rfl, rfl⟩) rfl rfl) ?_
 refine sq_nil ?_
 refine ht_cond rfl (fun e2 => ?_) (fun e2 => ?_)
 ·replace h := cpos e2 h
  refine sr ?_
  refine sT 8 (.d (.agg (eStamp t1))) rfl (w_ldp (eStamp t1) (eStamp t1) rfl · · · ag24 rfl (ble _ _ rfl) rfl) ?_
  refine sq_cons _ (v_store_box (id := 4) (off := 0) (cs := (eStamp t1).map V.d) rfl trivial rfl sz24 rfl rfl rfl rfl (ones_of rfl) (ble _ _ rfl)) ?_
  refine sq_nil ?_
  refine ht_ret ?_
  cases h
  exact ret1 rfl (.cell rfl rfl ag24 (ble _ _ rfl) rfl)
 replace h := cneg e2 h
 refine ht_skip ?_
 refine sr ?_
 refine sT 9 (.d (.agg (eStamp t0))) rfl (w_ldp (eStamp t0) (eStamp t0) rfl · · · ag24 rfl (ble _ _ rfl) rfl) ?_
 refine sq_cons _ (v_store_box (id := 4) (off := 0) (cs := (eStamp t0).map V.d) rfl trivial rfl sz24 rfl rfl rfl rfl (ones_of rfl) (ble _ _ rfl)) ?_
 refine sq_nil ?_
 refine ht_ret ?_
 cases h
 exact ret1 rfl (.cell rfl rfl ag24 (ble _ _ rfl) rfl)
theorem s33 (k : Nat) (t0 : Cell) (t1 : Int) (t2 : Int) (t3 : Stamp) (r : Cell × Bool) (h : F33 k t0 t1 t2 t3 = some r) : Awp.Spec Tryz.prog amb 33 [(.agg (eCell t0)), (.s (.int .i64 t1)), (.s (.int .i64 t2)), (.agg (eStamp t3))] (.ds [(.agg (eCell r.1)), (.s (.bool r.2))]) := by
 rw [F33] at h
 refine spec_of Tryz.func33 rfl (ble _ _ rfl) fun w0 ok0 lt0 hA => ?_
 refine sr ?_
 refine sT 4 (.d (.dp (eCell t0))) rfl (v_box_d (cs := (eCell t0)) rfl · · · rfl rfl (ones_of rfl)) ?_
 refine sT 7 (.d (.dp (eStamp t3))) rfl (v_box_d (cs := (eStamp t3)) rfl · · · rfl rfl (ones_of rfl)) ?_
 refine sq_cons _ (v_alloc (id := 8) (cs := zc26) rfl trivial rfl (ble _ _ rfl) zu26 rfl ft26 rfl) ?_
 refine sM 9 (bV false) rfl rfl ?_
 refine sq_nil ?_
 refine sr ?_
 refine sT 12 (.d (.agg (eCell t0))) rfl (w_ldp (eCell t0) (eCell t0) rfl · · · ag26 rfl (ble _ _ rfl) rfl) ?_
 refine sM 13 (iV t1) rfl rfl ?_
 obtain ⟨t14, c1, h⟩ := bpos h
 refine sT 14 (.d (.agg (eShard t14))) rfl (w_call (ds := [(.agg (eCell t0)), (.s (.int .i64 t1))]) (caps := []) (l := [(.agg (eShard t14))]) (s24 k t0 t1 _ c1) rfl rfl rfl en24 · · · (.inl ⟨rfl, rfl⟩) rfl rfl) ?_
 refine sq_cons _ (v_alloc (id := 10) (cs := zc45) rfl trivial rfl (ble _ _ rfl) zu45 rfl ft45 rfl) ?_
 refine sq_cons _ (v_store_box (id := 10) (off := 0) (cs := (eShard t14).map V.d) rfl trivial rfl sz45 rfl rfl rfl rfl (ones_of rfl) (ble _ _ rfl)) ?_
 refine sq_nil ?_
 refine ht_seq ?_
 refine sr ?_
 refine sT 15 (.d (.agg (eCell t0))) rfl (w_ldp (eCell t0) (eCell t0) rfl · · · ag26 rfl (ble _ _ rfl) rfl) ?_
 obtain ⟨t16, c2, h⟩ := bpos h
 refine sT 16 (bV t16) rfl (w_call (ds := [(.agg (eCell t0))]) (caps := []) (l := [(.s (.bool t16))]) (s22 k t0 _ c2) rfl rfl rfl en22 · · · (.inl ⟨rfl, rfl⟩) rfl rfl) ?_
 refine sT 17 (bV (!t16)) rfl (v_un rfl · · · rfl (u_not rfl)) ?_
 refine sM 18 (bV (!t16)) rfl rfl ?_
 refine sF 19 (iV t1) rfl rfl (fun e3 => (v_move (.inl rfl) · · · rfl)) ?_
 obtain ⟨t20, c5, h⟩ := bpos h
 refine sF 20 (bV t20) rfl rfl (fun e4 => (w_call (ds := [(.s (.int .i64 t1))]) (caps := []) (l := [(.s (.bool t20))]) (s66 k t1 _ (cpos (nF e4) c5)) rfl rfl rfl en66 · · · (.inl ⟨rfl, rfl⟩) (cc (gv (nF e4)) rfl) rfl)) ?_
 refine sF 21 (bV (!t20)) rfl rfl (fun e6 => (v_un rfl · · · (gv (nF e6)) (u_not rfl))) ?_
 refine sT 22 (bV ((!t16) || (!t20))) rfl (v_pickB rfl · · · rfl (fun e7 => rfl) (fun e8 => (gv (nF e8))) (pO _ _)) ?_
 refine sM 23 (bV ((!t16) || (!t20))) rfl rfl ?_
 refine sF 24 (iV t2) rfl rfl (fun e9 => (v_move (.inl rfl) · · · rfl)) ?_
 obtain ⟨t25, c11, h⟩ := bpos h
 refine sF 25 (bV t25) rfl rfl (fun e10 => (w_call (ds := [(.s (.int .i64 t2))]) (caps := []) (l := [(.s (.bool t25))]) (s66 k t2 _ (cpos (nF e10) c11)) rfl rfl rfl en66 · · · (.inl ⟨rfl, rfl⟩) (cc (gv (nF e10)) rfl) rfl)) ?_
 refine sF 26 (bV (!t25)) rfl rfl (fun e12 => (v_un rfl · · · (gv (nF e12)) (u_not rfl))) ?_
 refine sT 27 (bV (((!t16) || (!t20)) || (!t25))) rfl (v_pickB rfl · · · rfl (fun e13 => rfl) (fun e14 => (gv (nF e14))) (pO _ _)) ?_
 refine sM 28 (bV (((!t16) || (!t20)) || (!t25))) rfl rfl ?_
 refine sF 29 (.d (.agg (eStamp t3))) rfl rfl (fun e15 => (w_ldp (eStamp t3) (eStamp t3) rfl · · · ag24 rfl (ble _ _ rfl) rfl)) ?_
 obtain ⟨t30, c17, h⟩ := bpos h
 refine sF 30 (bV t30) rfl rfl (fun e16 => (w_call (ds := [(.agg (eStamp t3))]) (caps := []) (l := [(.s (.bool t30))]) (s68 k t3 _ (cpos (nF e16) c17)) rfl rfl rfl en68 · · · (.inl ⟨rfl, rfl⟩) (cc (gv (nF e16)) rfl) rfl)) ?_
 refine sF 31 (bV (!t30)) rfl rfl (fun e18 => (v_un rfl · · · (gv (nF e18)) (u_not rfl))) ?_
 refine sT 32 (bV ((((!t16) || (!t20)) || (!t25)) || (!t30))) rfl (v_pickB rfl · · · rfl (fun e19 => rfl) (fun e20 => (gv (nF e20))) (pO _ _)) ?_
 refine sM 33 (bV ((((!t16) || (!t20)) || (!t25)) || (!t30))) rfl rfl ?_
 refine sF 34 (.ptr 10 0) rfl rfl (fun e21 => (v_field_box (off := 0) (a0 := 0) rfl · · · fo45_0 rfl)) ?_
 refine sF 35 (iV t14.mID) rfl rfl (fun e22 => (v_load_box1 (id := 10) (off := 0) rfl · · · onT3 (gv (nF e22)) rfl (ble _ _ rfl) rfl)) ?_
 refine sF 36 (bV (eqI t14.mID 0)) rfl rfl (fun e23 => (v_bin rfl · · · (gv (nF e23)) rfl (b_eql rfl))) ?_
 refine sT 37 (bV (((((!t16) || (!t20)) || (!t25)) || (!t30)) || (eqI t14.mID 0))) rfl (v_pickB rfl · · · rfl (fun e24 => rfl) (fun e25 => (gv (nF e25))) (pO _ _)) ?_
 refine sq_nil ?_
 refine ht_cond rfl (fun e26 => ?_) (fun e26 => ?_)
 ·replace h := cpos e26 h
  refine sr ?_
  refine sT 38 (.d (.agg (eCell t0))) rfl (w_ldp (eCell t0) (eCell t0) rfl · · · ag26 rfl (ble _ _ rfl) rfl) ?_
  refine sq_cons _ (v_store_box (id := 8) (off := 0) (cs := (eCell t0).map V.d) rfl trivial rfl sz26 rfl rfl rfl rfl (ones_of rfl) (ble _ _ rfl)) ?_
  refine sM 9 (bV false) rfl rfl ?_
  refine sq_nil ?_
  refine ht_ret ?_
  cases h
  exact ret2 rfl (.cell rfl rfl ag26 (ble _ _ rfl) rfl) (.tmp rfl)
 replace h := cneg e26 h
 refine ht_skip ?_
 refine ht_seq ?_
 refine sr ?_
 refine sM 39 (iV t2) rfl rfl ?_
 refine sT 40 (.ptr 10 14) rfl (v_field_box (off := 0) (a0 := 14) rfl · · · fo45_9 rfl) ?_
 refine sT 41 (iV t14.mSeen) rfl (v_load_box1 (id := 10) (off := 14) rfl · · · onT3 rfl rfl (ble _ _ rfl) rfl) ?_
 refine sT 42 (bV (leI t2 t14.mSeen)) rfl (v_bin rfl · · · rfl rfl (b_leq rfl)) ?_
 refine sq_nil ?_
 refine ht_cond rfl (fun e27 => ?_) (fun e27 => ?_)
 ·replace h := cpos e27 h
  refine sr ?_
  refine sT 43 (.d (.agg (eCell t0))) rfl (w_ldp (eCell t0) (eCell t0) rfl · · · ag26 rfl (ble _ _ rfl) rfl) ?_
  refine sq_cons _ (v_store_box (id := 8) (off := 0) (cs := (eCell t0).map V.d) rfl trivial rfl sz26 rfl rfl rfl rfl (ones_of rfl) (ble _ _ rfl)) ?_
  refine sM 9 (bV true) rfl rfl ?_
  refine sq_nil ?_
  refine ht_ret ?_
  cases h
  exact ret2 rfl (.cell rfl rfl ag26 (ble _ _ rfl) rfl) (.tmp rfl)
 replace h := cneg e27 h
 refine ht_skip ?_
 refine ht_bj h (fun t10c13 => tell [(.b 8, .box false 5), (.b 10, .box false 17), (.c 8 0, .d (.sl 17 (([] : List Shard).map eShard))), (.c 8 1, iV 0), (.c 8 2, iV 0), (.c 8 3, iV 0), (.c 8 4, iV 0), (.c 10 0, iV t14.mID), (.c 10 1, iV t14.mEpoch), (.c 10 2, sV t14.mSpan.mLo), (.c 10 3, sV t14.mSpan.mHi), (.c 10 4, iV t14.mPhase), (.c 10 5, .d (.sl 2 (t14.mEntries.map eEntry))), (.c 10 6, iV t14.mMark.mWall), (.c 10 7, iV t14.mMark.mTick), (.c 10 8, iV t14.mMark.mNode), (.c 10 9, iV t14.mTop.mWall), (.c 10 10, iV t14.mTop.mTick), (.c 10 11, iV t14.mTop.mNode), (.c 10 12, .d (.sl 11 (t14.mDone.map eDone))), (.c 10 13, iV t10c13), (.c 10 14, iV t14.mSeen), (.c 10 15, iV t14.mMove), (.c 10 16, iV t14.mClosed), (.t 2, iV t2), (.t 4, .d (.dp (eCell t0))), (.t 7, .d (.dp (eStamp t3))), (.t 8, .ptr 8 0), (.t 10, .ptr 10 0)]) (fun t10c13 h => ?_) (fun v28 K29 h j31 => ?_)
 ·refine sr ?_
  refine sM 49 (iV t2) rfl rfl ?_
  refine sT 50 (.ptr 10 14) rfl (v_field_box (off := 0) (a0 := 14) rfl · · · fo45_9 rfl) ?_
  refine sq_cons _ (v_store_box (id := 10) (off := 14) (cs := [(.s (.int .i64 t2))].map V.d) rfl trivial rfl sz3 rfl rfl rfl rfl (ones_of rfl) (ble _ _ rfl)) ?_
  refine sq_nil ?_
  refine sr ?_
  refine sT 51 (.d (.agg (eCell t0))) rfl (w_ldp (eCell t0) (eCell t0) rfl · · · ag26 rfl (ble _ _ rfl) rfl) ?_
  refine sT 52 (.d (.agg (eShard ({t14 with mHold := t10c13, mSeen := t2})))) rfl (w_ldb 10 0 rfl · · · ag45 rfl rfl (ble _ _ rfl) rfl) ?_
  obtain ⟨t53, c34, h⟩ := bpos h
  refine sT 53 (.d (.agg (eCell t53))) rfl (w_call (ds := [(.agg (eCell t0)), (.agg (eShard ({t14 with mHold := t10c13, mSeen := t2}))), (.s (.bool false))]) (caps := []) (l := [(.agg (eCell t53))]) (s79 k t0 ({t14 with mHold := t10c13, mSeen := t2}) false _ c34) rfl rfl rfl en79 · · · (.inl ⟨rfl, rfl⟩) rfl rfl) ?_
  refine sq_cons _ (v_alloc (id := 11) (cs := zc26) rfl trivial rfl (ble _ _ rfl) zu26 rfl ft26 rfl) ?_
  refine sq_cons _ (v_store_box (id := 11) (off := 0) (cs := (eCell t53).map V.d) rfl trivial rfl sz26 rfl rfl rfl rfl (ones_of rfl) (ble _ _ rfl)) ?_
  refine sq_nil ?_
  refine sr ?_
  refine sT 54 (.d (.dp (List.drop 1 (eCell t0)))) rfl (v_field_dp (a0 := 1) (cs := (eCell t0)) rfl · · · fo26_1 rfl) ?_
  refine sT 55 (.d (.agg (eStamp t0.mTop))) rfl (w_ldp (List.drop 1 (eCell t0)) (eStamp t0.mTop) rfl · · · ag24 rfl (ble _ _ rfl) rfl) ?_
  refine sT 56 (.d (.agg (eStamp t3))) rfl (w_ldp (eStamp t3) (eStamp t3) rfl · · · ag24 rfl (ble _ _ rfl) rfl) ?_
  obtain ⟨t57, c35, h⟩ := bpos h
  refine sT 57 (.d (.agg (eStamp t57))) rfl (w_call (ds := [(.agg (eStamp t0.mTop)), (.agg (eStamp t3))]) (caps := []) (l := [(.agg (eStamp t57))]) (s97 k t0.mTop t3 _ c35) rfl rfl rfl en97 · · · (.inl ⟨rfl, rfl⟩) rfl rfl) ?_
  refine sT 58 (.ptr 11 1) rfl (v_field_box (off := 0) (a0 := 1) rfl · · · fo26_1 rfl) ?_
  refine sq_cons _ (v_store_box (id := 11) (off := 1) (cs := (eStamp t57).map V.d) rfl trivial rfl sz24 rfl rfl rfl rfl (ones_of rfl) (ble _ _ rfl)) ?_
  refine sq_nil ?_
  refine sr ?_
  refine sT 59 (.d (.agg (eCell ({t53 with mTop := t57})))) rfl (w_ldb 11 0 rfl · · · ag26 rfl rfl (ble _ _ rfl) rfl) ?_
  refine sq_cons _ (v_store_box (id := 8) (off := 0) (cs := (eCell ({t53 with mTop := t57})).map V.d) rfl trivial rfl sz26 rfl rfl rfl rfl (ones_of rfl) (ble _ _ rfl)) ?_
  refine sM 9 (bV true) rfl rfl ?_
  refine sq_nil ?_
  refine ht_ret ?_
  cases h
  exact ret2 rfl (.cell rfl rfl ag26 (ble _ _ rfl) rfl) (.tmp rfl)
 refine sr ?_
 refine sT 44 (.ptr 10 13) rfl (v_field_box (off := 0) (a0 := 13) rfl · · · fo45_8 rfl) ?_
 refine sT 45 (iV t14.mHold) rfl (v_load_box1 (id := 10) (off := 13) rfl · · · onT3 rfl rfl (ble _ _ rfl) rfl) ?_
 refine sM 46 (iV t2) rfl rfl ?_
 refine sT 47 (bV (eqI t14.mHold t2)) rfl (v_bin rfl · · · rfl rfl (b_eql rfl)) ?_
 refine sq_nil ?_
 refine ht_cond rfl (fun e33 => ?_) (fun e33 => ?_)
 ·replace h := cpos e33 h
  refine ht_region ?_
  refine sT 48 (.ptr 10 13) rfl (v_field_box (off := 0) (a0 := 13) rfl · · · fo45_8 rfl) ?_
  refine sq_cons _ (v_store_box (id := 10) (off := 13) (cs := [(.s (.int .i64 0))].map V.d) rfl trivial rfl sz3 rfl rfl rfl rfl (ones_of rfl) (ble _ _ rfl)) ?_
  refine sq_nil ?_
  cases h
  exact j31 _ (wk_ren _ (fun i => i) rfl ⟨rfl, rfl, rfl, rfl, rfl, rfl, rfl, rfl, rfl, rfl, rfl, rfl, rfl, rfl, rfl, rfl, rfl, rfl, rfl, rfl, rfl, rfl, rfl, rfl, rfl, rfl, rfl, rfl, rfl, trivial⟩)
 replace h := cneg e33 h
 refine ht_skip ?_
 cases h
 exact j31 _ (wk_ren _ (fun i => i) rfl ⟨rfl, rfl, rfl, rfl, rfl, rfl, rfl, rfl, rfl, rfl, rfl, rfl, rfl, rfl, rfl, rfl, rfl, rfl, rfl, rfl, rfl, rfl, rfl, rfl, rfl, rfl, rfl, rfl, rfl, trivial⟩)
theorem s102 (k : Nat) (t0 : List Version) (t1 : List Version) (r : Bool) (h : F102 k t0 t1 = some r) : Awp.Spec Tryz.prog amb 102 [(.sl 5 (t0.map eVersion)), (.sl 5 (t1.map eVersion))] (.ds [(.s (.bool r))]) := by
 rw [F102] at h
 refine spec_of Tryz.func102 rfl (ble _ _ rfl) fun w0 ok0 lt0 hA => ?_
 refine sr ?_
 refine sM 4 (bV false) rfl rfl ?_
 refine sq_nil ?_
 refine ht_seq ?_
 refine sr ?_
 refine sM 6 (.d (.sl 5 (t0.map eVersion))) rfl rfl ?_
 refine sT 7 (iV (t0.length : Int)) rfl (w_len t0 eVersion rfl rfl · · · slT96 rfl) ?_
 refine sM 8 (.d (.sl 5 (t1.map eVersion))) rfl rfl ?_
 refine sT 9 (iV (t1.length : Int)) rfl (w_len t1 eVersion rfl rfl · · · slT96 rfl) ?_
 refine sT 10 (bV (!eqI (t0.length : Int) (t1.length : Int))) rfl (v_bin rfl · · · rfl rfl (b_neq rfl)) ?_
 refine sq_nil ?_
 refine ht_cond rfl (fun e1 => ?_) (fun e1 => ?_)
 ·replace h := cpos e1 h
  refine sr ?_
  refine sM 4 (bV false) rfl rfl ?_
  refine sq_nil ?_
  refine ht_ret ?_
  cases h
  exact ret1 rfl (.tmp rfl)
 replace h := cneg e1 h
 refine ht_skip ?_
 refine ht_gj (go_id' h) (fun _ => tell []) (fun _ h => ?_) (fun v2 K3 h j5 r6 => ?_)
 ·refine sr ?_
  refine sM 4 (bV true) rfl rfl ?_
  refine sq_nil ?_
  refine ht_ret ?_
  cases h
  exact ret1 rfl (.tmp rfl)
 refine sr ?_
 refine sM 5 (iV 0) rfl rfl ?_
 refine sq_nil ?_
 refine ht_block ?_
 refine ht_rd h (fun _ => rfl) (fun t5 => tell [(.t 0, .d (.sl 5 (t0.map eVersion))), (.t 1, .d (.sl 5 (t1.map eVersion))), (.t 5, iV t5)]) (wk_ren _ (fun i => i) rfl ⟨rfl, rfl, rfl, trivial⟩) fun k t5 h K14 j8 => ?_
 rw [F102_l1] at h
 refine ht_seq ?_
 refine sr ?_
 refine sM 11 (iV t5) rfl rfl ?_
 refine sM 12 (.d (.sl 5 (t0.map eVersion))) rfl rfl ?_
 refine sT 13 (iV (t0.length : Int)) rfl (w_len t0 eVersion rfl rfl · · · slT96 rfl) ?_
 refine sT 14 (bV (ltI t5 (t0.length : Int))) rfl (v_bin rfl · · · rfl rfl (b_lss rfl)) ?_
 refine sq_nil ?_
 refine ht_cond rfl (fun e10 => ?_) (fun e10 => ?_)
 ·replace h := cpos e10 h
  refine ht_skip ?_
  refine ht_seq ?_
  refine ht_block ?_
  refine ht_seq ?_
  refine ht_region_draw mixed ?_
  refine rM 17 (.d (.sl 5 (t0.map eVersion))) rfl rfl ?_
  refine rM 18 (iV t5) rfl rfl ?_
  obtain ⟨e11, h⟩ := gpos h
  refine rT 19 (.d (.dp (eVersion (rd t0 t5)))) rfl (w_idx t0 eVersion rfl · · · slT96 rfl rfl e11) ?_
  refine rT 20 (.d (.agg (eVersion (rd t0 t5)))) rfl (w_ldp (eVersion (rd t0 t5)) (eVersion (rd t0 t5)) rfl · · · ag93 rfl (ble _ _ rfl) rfl) ?_
  refine rM 21 (.d (.sl 5 (t1.map eVersion))) rfl rfl ?_
  refine rM 22 (iV t5) rfl rfl ?_
  obtain ⟨e12, h⟩ := gpos h
  refine rT 23 (.d (.dp (eVersion (rd t1 t5)))) rfl (w_idx t1 eVersion rfl · · · slT96 rfl rfl e12) ?_
  refine rT 24 (.d (.agg (eVersion (rd t1 t5)))) rfl (w_ldp (eVersion (rd t1 t5)) (eVersion (rd t1 t5)) rfl · · · ag93 rfl (ble _ _ rfl) rfl) ?_
  refine rT 25 (bV (!(qVersion (rd t0 t5) (rd t1 t5)))) rfl (v_bin_neq (f := eVersion) rfl · · · rfl rfl rfl rfl eg93 (eq93 _ _)) ?_
  refine rg_nil ⟨by kernel_rfl, ?_⟩
  refine ht_cond rfl (fun e13 => ?_) (fun e13 => ?_)
  ·replace h := cpos e13 h
   refine sr ?_
   refine sM 4 (bV false) rfl rfl ?_
   refine sq_nil ?_
   refine ht_ret ?_
   cases h
   cases r6 _ rfl
   exact ret1 rfl (.tmp rfl)
  replace h := cneg e13 h
  refine ht_skip ?_
  refine ht_region ?_
  refine sM 15 (iV t5) rfl rfl ?_
  refine sT 16 (iV (IntKind.wrap .i64 (t5 + 1))) rfl (v_bin rfl · · · rfl rfl (b_add rfl)) ?_
  refine sM 5 (iV (IntKind.wrap .i64 (t5 + 1))) rfl rfl ?_
  refine sq_nil ?_
  exact j8 _ _ h (wk_ren _ (fun i => i) rfl ⟨rfl, rfl, rfl, trivial⟩)
 replace h := cneg e10 h
 refine ht_exit ?_
 refine tq ?_
 refine tq ?_
 refine bq_hit ?_
 cases h
 exact j5 _ _ rfl (wk_ren _ (fun i => i) rfl trivial)
theorem s40 (k : Nat) (t0 : List Entry) (t1 : List Entry) (r : Bool) (h : F40 k t0 t1 = some r) : Awp.Spec Tryz.prog amb 40 [(.sl 2 (t0.map eEntry)), (.sl 2 (t1.map eEntry))] (.ds [(.s (.bool r))]) := by
 rw [F40] at h
 refine spec_of Tryz.func40 rfl (ble _ _ rfl) fun w0 ok0 lt0 hA => ?_
 refine sr ?_
 refine sM 4 (bV false) rfl rfl ?_
 refine sq_nil ?_
 refine ht_seq ?_
 refine sr ?_
 refine sM 6 (.d (.sl 2 (t0.map eEntry))) rfl rfl ?_
 refine sT 7 (iV (t0.length : Int)) rfl (w_len t0 eEntry rfl rfl · · · slT42 rfl) ?_
 refine sM 8 (.d (.sl 2 (t1.map eEntry))) rfl rfl ?_
 refine sT 9 (iV (t1.length : Int)) rfl (w_len t1 eEntry rfl rfl · · · slT42 rfl) ?_
 refine sT 10 (bV (!eqI (t0.length : Int) (t1.length : Int))) rfl (v_bin rfl · · · rfl rfl (b_neq rfl)) ?_
 refine sq_nil ?_
 refine ht_cond rfl (fun e1 => ?_) (fun e1 => ?_)
 ·replace h := cpos e1 h
  refine sr ?_
  refine sM 4 (bV false) rfl rfl ?_
  refine sq_nil ?_
  refine ht_ret ?_
  cases h
  exact ret1 rfl (.tmp rfl)
 replace h := cneg e1 h
 refine ht_skip ?_
 refine ht_gj (go_id' h) (fun _ => tell []) (fun _ h => ?_) (fun v2 K3 h j5 r6 => ?_)
 ·refine sr ?_
  refine sM 4 (bV true) rfl rfl ?_
  refine sq_nil ?_
  refine ht_ret ?_
  cases h
  exact ret1 rfl (.tmp rfl)
 refine sr ?_
 refine sM 5 (iV 0) rfl rfl ?_
 refine sq_nil ?_
 refine ht_block ?_
 refine ht_rd h (fun _ => rfl) (fun t5 => tell [(.t 0, .d (.sl 2 (t0.map eEntry))), (.t 1, .d (.sl 2 (t1.map eEntry))), (.t 5, iV t5)]) (wk_ren _ (fun i => i) rfl ⟨rfl, rfl, rfl, trivial⟩) fun k t5 h K31 j8 => ?_
 rw [F40_l1] at h
 refine ht_seq ?_
 refine sr ?_
 refine sM 11 (iV t5) rfl rfl ?_
 refine sM 12 (.d (.sl 2 (t0.map eEntry))) rfl rfl ?_
 refine sT 13 (iV (t0.length : Int)) rfl (w_len t0 eEntry rfl rfl · · · slT42 rfl) ?_
 refine sT 14 (bV (ltI t5 (t0.length : Int))) rfl (v_bin rfl · · · rfl rfl (b_lss rfl)) ?_
 refine sq_nil ?_
 refine ht_cond rfl (fun e10 => ?_) (fun e10 => ?_)
 ·replace h := cpos e10 h
  refine ht_skip ?_
  refine ht_seq ?_
  refine ht_block ?_
  refine ht_seq ?_
  refine ht_region_draw mixed ?_
  refine rM 17 (.d (.sl 2 (t0.map eEntry))) rfl rfl ?_
  refine rM 18 (iV t5) rfl rfl ?_
  obtain ⟨e11, h⟩ := gpos h
  refine rT 19 (.d (.dp (eEntry (rd t0 t5)))) rfl (w_idx t0 eEntry rfl · · · slT42 rfl rfl e11) ?_
  refine rT 20 (.d (.dp (eEntry (rd t0 t5)))) rfl (v_field_dp (a0 := 0) (cs := (eEntry (rd t0 t5))) rfl · · · fo116_0 rfl) ?_
  refine rT 21 (sV (rd t0 t5).mKey) rfl (v_load_dp1 rfl · · · onT9 rfl rfl) ?_
  refine rM 22 (.d (.sl 2 (t1.map eEntry))) rfl rfl ?_
  refine rM 23 (iV t5) rfl rfl ?_
  obtain ⟨e12, h⟩ := gpos h
  refine rT 24 (.d (.dp (eEntry (rd t1 t5)))) rfl (w_idx t1 eEntry rfl · · · slT42 rfl rfl e12) ?_
  refine rT 25 (.d (.dp (eEntry (rd t1 t5)))) rfl (v_field_dp (a0 := 0) (cs := (eEntry (rd t1 t5))) rfl · · · fo116_0 rfl) ?_
  refine rT 26 (sV (rd t1 t5).mKey) rfl (v_load_dp1 rfl · · · onT9 rfl rfl) ?_
  refine rT 27 (bV (!strEq (rd t0 t5).mKey (rd t1 t5).mKey)) rfl (v_bin rfl · · · rfl rfl (b_neS rfl)) ?_
  refine rM 28 (bV (!strEq (rd t0 t5).mKey (rd t1 t5).mKey)) rfl rfl ?_
  refine rF 29 (.d (.sl 2 (t0.map eEntry))) rfl rfl (fun e13 => (v_move (.inl rfl) · · · rfl)) ?_
  refine rF 30 (iV t5) rfl rfl (fun e14 => (v_move (.inl rfl) · · · rfl)) ?_
  obtain ⟨e16, h⟩ := gpos h
  refine rF 31 (.d (.dp (eEntry (rd t0 t5)))) rfl rfl (fun e15 => (w_idx t0 eEntry rfl · · · slT42 (gv (nF e15)) (gv (nF e15)) (orT e16 (nF e15)))) ?_
  refine rF 32 (.d (.dp (List.drop 1 (eEntry (rd t0 t5))))) rfl rfl (fun e17 => (v_field_dp (a0 := 1) (cs := (eEntry (rd t0 t5))) rfl · · · fo116_1 (gv (nF e17)))) ?_
  refine rF 33 (.d (.sl 5 ((rd t0 t5).mChain.map eVersion))) rfl rfl (fun e18 => (v_load_dp1 rfl · · · onT96 (gv (nF e18)) rfl)) ?_
  refine rF 34 (.d (.sl 2 (t1.map eEntry))) rfl rfl (fun e19 => (v_move (.inl rfl) · · · rfl)) ?_
  refine rF 35 (iV t5) rfl rfl (fun e20 => (v_move (.inl rfl) · · · rfl)) ?_
  obtain ⟨e22, h⟩ := gpos h
  refine rF 36 (.d (.dp (eEntry (rd t1 t5)))) rfl rfl (fun e21 => (w_idx t1 eEntry rfl · · · slT42 (gv (nF e21)) (gv (nF e21)) (orT e22 (nF e21)))) ?_
  refine rF 37 (.d (.dp (List.drop 1 (eEntry (rd t1 t5))))) rfl rfl (fun e23 => (v_field_dp (a0 := 1) (cs := (eEntry (rd t1 t5))) rfl · · · fo116_1 (gv (nF e23)))) ?_
  refine rF 38 (.d (.sl 5 ((rd t1 t5).mChain.map eVersion))) rfl rfl (fun e24 => (v_load_dp1 rfl · · · onT96 (gv (nF e24)) rfl)) ?_
  obtain ⟨t39, c26, h⟩ := bpos h
  refine rF 39 (bV t39) rfl rfl (fun e25 => (w_call (ds := [(.sl 5 ((rd t0 t5).mChain.map eVersion)), (.sl 5 ((rd t1 t5).mChain.map eVersion))]) (caps := []) (l := [(.s (.bool t39))]) (s102 k (rd t0 t5).mChain (rd t1 t5).mChain _ (cpos (nF e25) c26)) rfl rfl rfl en102 · · · (.inl ⟨rfl, rfl⟩) (cc (gv (nF e25)) (cc (gv (nF e25)) rfl)) rfl)) ?_
  refine rF 40 (bV (!t39)) rfl rfl (fun e27 => (v_un rfl · · · (gv (nF e27)) (u_not rfl))) ?_
  refine rT 41 (bV ((!strEq (rd t0 t5).mKey (rd t1 t5).mKey) || (!t39))) rfl (v_pickB rfl · · · rfl (fun e28 => rfl) (fun e29 => (gv (nF e29))) (pO _ _)) ?_
  refine rg_nil ⟨by kernel_rfl, ?_⟩
  refine ht_cond rfl (fun e30 => ?_) (fun e30 => ?_)
  ·replace h := cpos e30 h
   refine sr ?_
   refine sM 4 (bV false) rfl rfl ?_
   refine sq_nil ?_
   refine ht_ret ?_
   cases h
   cases r6 _ rfl
   exact ret1 rfl (.tmp rfl)
  replace h := cneg e30 h
  refine ht_skip ?_
  refine ht_region ?_
  refine sM 15 (iV t5) rfl rfl ?_
  refine sT 16 (iV (IntKind.wrap .i64 (t5 + 1))) rfl (v_bin rfl · · · rfl rfl (b_add rfl)) ?_
  refine sM 5 (iV (IntKind.wrap .i64 (t5 + 1))) rfl rfl ?_
  refine sq_nil ?_
  exact j8 _ _ h (wk_ren _ (fun i => i) rfl ⟨rfl, rfl, rfl, trivial⟩)
 replace h := cneg e10 h
 refine ht_exit ?_
 refine tq ?_
 refine tq ?_
 refine bq_hit ?_
 cases h
 exact j5 _ _ rfl (wk_ren _ (fun i => i) rfl trivial)
theorem s19 (k : Nat) (t0 : Answer) (t1 : Answer) (r : Bool) (h : F19 k t0 t1 = some r) : Awp.Spec Tryz.prog amb 19 [(.agg (eAnswer t0)), (.agg (eAnswer t1))] (.ds [(.s (.bool r))]) := by
 rw [F19] at h
 refine spec_of Tryz.func19 rfl (ble _ _ rfl) fun w0 ok0 lt0 hA => ?_
 refine sr ?_
 refine sT 2 (.d (.dp (eAnswer t0))) rfl (v_box_d (cs := (eAnswer t0)) rfl · · · rfl rfl (ones_of rfl)) ?_
 refine sT 3 (.d (.dp (eAnswer t1))) rfl (v_box_d (cs := (eAnswer t1)) rfl · · · rfl rfl (ones_of rfl)) ?_
 refine sM 4 (bV false) rfl rfl ?_
 refine sq_nil ?_
 refine ht_seq ?_
 refine sr ?_
 refine sT 6 (.d (.dp (List.drop 6 (eAnswer t0)))) rfl (v_field_dp (a0 := 6) (cs := (eAnswer t0)) rfl · · · fo34_4 rfl) ?_
 refine sT 7 (.d (.sl 2 (t0.mItems.map eItem))) rfl (v_load_dp1 rfl · · · onT32 rfl rfl) ?_
 refine sT 8 (iV (t0.mItems.length : Int)) rfl (w_len t0.mItems eItem rfl rfl · · · slT32 rfl) ?_
 refine sT 9 (.d (.dp (List.drop 6 (eAnswer t1)))) rfl (v_field_dp (a0 := 6) (cs := (eAnswer t1)) rfl · · · fo34_4 rfl) ?_
 refine sT 10 (.d (.sl 2 (t1.mItems.map eItem))) rfl (v_load_dp1 rfl · · · onT32 rfl rfl) ?_
 refine sT 11 (iV (t1.mItems.length : Int)) rfl (w_len t1.mItems eItem rfl rfl · · · slT32 rfl) ?_
 refine sT 12 (bV (!eqI (t0.mItems.length : Int) (t1.mItems.length : Int))) rfl (v_bin rfl · · · rfl rfl (b_neq rfl)) ?_
 refine sq_nil ?_
 refine ht_cond rfl (fun e1 => ?_) (fun e1 => ?_)
 ·replace h := cpos e1 h
  refine sr ?_
  refine sM 4 (bV false) rfl rfl ?_
  refine sq_nil ?_
  refine ht_ret ?_
  cases h
  exact ret1 rfl (.tmp rfl)
 replace h := cneg e1 h
 refine ht_skip ?_
 refine ht_gj (go_id' h) (fun _ => tell [(.t 2, .d (.dp (eAnswer t0))), (.t 3, .d (.dp (eAnswer t1)))]) (fun _ h => ?_) (fun v2 K3 h j5 r6 => ?_)
 ·refine sr ?_
  refine sT 31 (.d (.dp (eAnswer t0))) rfl (v_field_dp (a0 := 0) (cs := (eAnswer t0)) rfl · · · fo34_0 rfl) ?_
  refine sT 32 (iV t0.mErr) rfl (v_load_dp1 rfl · · · onT31 rfl rfl) ?_
  refine sT 33 (.d (.dp (eAnswer t1))) rfl (v_field_dp (a0 := 0) (cs := (eAnswer t1)) rfl · · · fo34_0 rfl) ?_
  refine sT 34 (iV t1.mErr) rfl (v_load_dp1 rfl · · · onT31 rfl rfl) ?_
  refine sT 35 (bV (eqI t0.mErr t1.mErr)) rfl (v_bin rfl · · · rfl rfl (b_eql rfl)) ?_
  refine sM 36 (bV (eqI t0.mErr t1.mErr)) rfl rfl ?_
  refine sG 37 (.d (.dp (List.drop 1 (eAnswer t0)))) rfl rfl (fun e15 => (v_field_dp (a0 := 1) (cs := (eAnswer t0)) rfl · · · fo34_1 rfl)) ?_
  refine sG 38 (.d (.agg (eStamp t0.mAt))) rfl rfl (fun e16 => (w_ldp (List.drop 1 (eAnswer t0)) (eStamp t0.mAt) rfl · · · ag24 (gv e16) (ble _ _ rfl) rfl)) ?_
  refine sG 39 (.d (.dp (List.drop 1 (eAnswer t1)))) rfl rfl (fun e17 => (v_field_dp (a0 := 1) (cs := (eAnswer t1)) rfl · · · fo34_1 rfl)) ?_
  refine sG 40 (.d (.agg (eStamp t1.mAt))) rfl rfl (fun e18 => (w_ldp (List.drop 1 (eAnswer t1)) (eStamp t1.mAt) rfl · · · ag24 (gv e18) (ble _ _ rfl) rfl)) ?_
  refine sG 41 (bV (qStamp t0.mAt t1.mAt)) rfl rfl (fun e19 => (v_bin_eql (f := eStamp) rfl · · · (gv e19) (gv e19) rfl rfl eg24 (eq24 _ _))) ?_
  refine sT 42 (bV ((eqI t0.mErr t1.mErr) && (qStamp t0.mAt t1.mAt))) rfl (v_pickB rfl · · · rfl (fun e20 => (gv e20)) (fun e21 => rfl) (pA _ _)) ?_
  refine sM 43 (bV ((eqI t0.mErr t1.mErr) && (qStamp t0.mAt t1.mAt))) rfl rfl ?_
  refine sG 44 (.d (.dp (List.drop 4 (eAnswer t0)))) rfl rfl (fun e22 => (v_field_dp (a0 := 4) (cs := (eAnswer t0)) rfl · · · fo34_2 rfl)) ?_
  refine sG 45 (bV t0.mFound) rfl rfl (fun e23 => (v_load_dp1 rfl · · · onT4 (gv e23) rfl)) ?_
  refine sG 46 (.d (.dp (List.drop 4 (eAnswer t1)))) rfl rfl (fun e24 => (v_field_dp (a0 := 4) (cs := (eAnswer t1)) rfl · · · fo34_2 rfl)) ?_
  refine sG 47 (bV t1.mFound) rfl rfl (fun e25 => (v_load_dp1 rfl · · · onT4 (gv e25) rfl)) ?_
  refine sG 48 (bV (t0.mFound == t1.mFound)) rfl rfl (fun e26 => (v_bin rfl · · · (gv e26) (gv e26) (b_eqB und4 rfl))) ?_
  refine sT 49 (bV (((eqI t0.mErr t1.mErr) && (qStamp t0.mAt t1.mAt)) && (t0.mFound == t1.mFound))) rfl (v_pickB rfl · · · rfl (fun e27 => (gv e27)) (fun e28 => rfl) (pA _ _)) ?_
  refine sM 50 (bV (((eqI t0.mErr t1.mErr) && (qStamp t0.mAt t1.mAt)) && (t0.mFound == t1.mFound))) rfl rfl ?_
  refine sG 51 (.d (.dp (List.drop 5 (eAnswer t0)))) rfl rfl (fun e29 => (v_field_dp (a0 := 5) (cs := (eAnswer t0)) rfl · · · fo34_3 rfl)) ?_
  refine sG 52 (sV t0.mValue) rfl rfl (fun e30 => (v_load_dp1 rfl · · · onT9 (gv e30) rfl)) ?_
  refine sG 53 (.d (.dp (List.drop 5 (eAnswer t1)))) rfl rfl (fun e31 => (v_field_dp (a0 := 5) (cs := (eAnswer t1)) rfl · · · fo34_3 rfl)) ?_
  refine sG 54 (sV t1.mValue) rfl rfl (fun e32 => (v_load_dp1 rfl · · · onT9 (gv e32) rfl)) ?_
  refine sG 55 (bV (strEq t0.mValue t1.mValue)) rfl rfl (fun e33 => (v_bin rfl · · · (gv e33) (gv e33) (b_eqS rfl))) ?_
  refine sT 56 (bV ((((eqI t0.mErr t1.mErr) && (qStamp t0.mAt t1.mAt)) && (t0.mFound == t1.mFound)) && (strEq t0.mValue t1.mValue))) rfl (v_pickB rfl · · · rfl (fun e34 => (gv e34)) (fun e35 => rfl) (pA _ _)) ?_
  refine sM 57 (bV ((((eqI t0.mErr t1.mErr) && (qStamp t0.mAt t1.mAt)) && (t0.mFound == t1.mFound)) && (strEq t0.mValue t1.mValue))) rfl rfl ?_
  refine sG 58 (.d (.dp (List.drop 7 (eAnswer t0)))) rfl rfl (fun e36 => (v_field_dp (a0 := 7) (cs := (eAnswer t0)) rfl · · · fo34_5 rfl)) ?_
  refine sG 59 (sV t0.mNext) rfl rfl (fun e37 => (v_load_dp1 rfl · · · onT9 (gv e37) rfl)) ?_
  refine sG 60 (.d (.dp (List.drop 7 (eAnswer t1)))) rfl rfl (fun e38 => (v_field_dp (a0 := 7) (cs := (eAnswer t1)) rfl · · · fo34_5 rfl)) ?_
  refine sG 61 (sV t1.mNext) rfl rfl (fun e39 => (v_load_dp1 rfl · · · onT9 (gv e39) rfl)) ?_
  refine sG 62 (bV (strEq t0.mNext t1.mNext)) rfl rfl (fun e40 => (v_bin rfl · · · (gv e40) (gv e40) (b_eqS rfl))) ?_
  refine sT 63 (bV (((((eqI t0.mErr t1.mErr) && (qStamp t0.mAt t1.mAt)) && (t0.mFound == t1.mFound)) && (strEq t0.mValue t1.mValue)) && (strEq t0.mNext t1.mNext))) rfl (v_pickB rfl · · · rfl (fun e41 => (gv e41)) (fun e42 => rfl) (pA _ _)) ?_
  refine sM 64 (bV (((((eqI t0.mErr t1.mErr) && (qStamp t0.mAt t1.mAt)) && (t0.mFound == t1.mFound)) && (strEq t0.mValue t1.mValue)) && (strEq t0.mNext t1.mNext))) rfl rfl ?_
  refine sG 65 (.d (.dp (List.drop 8 (eAnswer t0)))) rfl rfl (fun e43 => (v_field_dp (a0 := 8) (cs := (eAnswer t0)) rfl · · · fo34_6 rfl)) ?_
  refine sG 66 (bV t0.mMore) rfl rfl (fun e44 => (v_load_dp1 rfl · · · onT4 (gv e44) rfl)) ?_
  refine sG 67 (.d (.dp (List.drop 8 (eAnswer t1)))) rfl rfl (fun e45 => (v_field_dp (a0 := 8) (cs := (eAnswer t1)) rfl · · · fo34_6 rfl)) ?_
  refine sG 68 (bV t1.mMore) rfl rfl (fun e46 => (v_load_dp1 rfl · · · onT4 (gv e46) rfl)) ?_
  refine sG 69 (bV (t0.mMore == t1.mMore)) rfl rfl (fun e47 => (v_bin rfl · · · (gv e47) (gv e47) (b_eqB und4 rfl))) ?_
  refine sT 70 (bV ((((((eqI t0.mErr t1.mErr) && (qStamp t0.mAt t1.mAt)) && (t0.mFound == t1.mFound)) && (strEq t0.mValue t1.mValue)) && (strEq t0.mNext t1.mNext)) && (t0.mMore == t1.mMore))) rfl (v_pickB rfl · · · rfl (fun e48 => (gv e48)) (fun e49 => rfl) (pA _ _)) ?_
  refine sM 4 (bV ((((((eqI t0.mErr t1.mErr) && (qStamp t0.mAt t1.mAt)) && (t0.mFound == t1.mFound)) && (strEq t0.mValue t1.mValue)) && (strEq t0.mNext t1.mNext)) && (t0.mMore == t1.mMore))) rfl rfl ?_
  refine sq_nil ?_
  refine ht_ret ?_
  cases h
  exact ret1 rfl (.tmp rfl)
 refine sr ?_
 refine sM 5 (iV 0) rfl rfl ?_
 refine sq_nil ?_
 refine ht_block ?_
 refine ht_rd h (fun _ => rfl) (fun t5 => tell [(.t 2, .d (.dp (eAnswer t0))), (.t 3, .d (.dp (eAnswer t1))), (.t 5, iV t5)]) (wk_ren _ (fun i => i) rfl ⟨rfl, rfl, rfl, trivial⟩) fun k t5 h K14 j8 => ?_
 rw [F19_l1] at h
 refine ht_seq ?_
 refine sr ?_
 refine sM 13 (iV t5) rfl rfl ?_
 refine sT 14 (.d (.dp (List.drop 6 (eAnswer t0)))) rfl (v_field_dp (a0 := 6) (cs := (eAnswer t0)) rfl · · · fo34_4 rfl) ?_
 refine sT 15 (.d (.sl 2 (t0.mItems.map eItem))) rfl (v_load_dp1 rfl · · · onT32 rfl rfl) ?_
 refine sT 16 (iV (t0.mItems.length : Int)) rfl (w_len t0.mItems eItem rfl rfl · · · slT32 rfl) ?_
 refine sT 17 (bV (ltI t5 (t0.mItems.length : Int))) rfl (v_bin rfl · · · rfl rfl (b_lss rfl)) ?_
 refine sq_nil ?_
 refine ht_cond rfl (fun e10 => ?_) (fun e10 => ?_)
 ·replace h := cpos e10 h
  refine ht_skip ?_
  refine ht_seq ?_
  refine ht_block ?_
  refine ht_seq ?_
  refine ht_region_draw mixed ?_
  refine rT 20 (.d (.dp (List.drop 6 (eAnswer t0)))) rfl (v_field_dp (a0 := 6) (cs := (eAnswer t0)) rfl · · · fo34_4 rfl) ?_
  refine rT 21 (.d (.sl 2 (t0.mItems.map eItem))) rfl (v_load_dp1 rfl · · · onT32 rfl rfl) ?_
  refine rM 22 (iV t5) rfl rfl ?_
  obtain ⟨e11, h⟩ := gpos h
  refine rT 23 (.d (.dp (eItem (rd t0.mItems t5)))) rfl (w_idx t0.mItems eItem rfl · · · slT32 rfl rfl e11) ?_
  refine rT 24 (.d (.agg (eItem (rd t0.mItems t5)))) rfl (w_ldp (eItem (rd t0.mItems t5)) (eItem (rd t0.mItems t5)) rfl · · · ag110 rfl (ble _ _ rfl) rfl) ?_
  refine rT 25 (.d (.dp (List.drop 6 (eAnswer t1)))) rfl (v_field_dp (a0 := 6) (cs := (eAnswer t1)) rfl · · · fo34_4 rfl) ?_
  refine rT 26 (.d (.sl 2 (t1.mItems.map eItem))) rfl (v_load_dp1 rfl · · · onT32 rfl rfl) ?_
  refine rM 27 (iV t5) rfl rfl ?_
  obtain ⟨e12, h⟩ := gpos h
  refine rT 28 (.d (.dp (eItem (rd t1.mItems t5)))) rfl (w_idx t1.mItems eItem rfl · · · slT32 rfl rfl e12) ?_
  refine rT 29 (.d (.agg (eItem (rd t1.mItems t5)))) rfl (w_ldp (eItem (rd t1.mItems t5)) (eItem (rd t1.mItems t5)) rfl · · · ag110 rfl (ble _ _ rfl) rfl) ?_
  refine rT 30 (bV (!(qItem (rd t0.mItems t5) (rd t1.mItems t5)))) rfl (v_bin_neq (f := eItem) rfl · · · rfl rfl rfl rfl eg110 (eq110 _ _)) ?_
  refine rg_nil ⟨by kernel_rfl, ?_⟩
  refine ht_cond rfl (fun e13 => ?_) (fun e13 => ?_)
  ·replace h := cpos e13 h
   refine sr ?_
   refine sM 4 (bV false) rfl rfl ?_
   refine sq_nil ?_
   refine ht_ret ?_
   cases h
   cases r6 _ rfl
   exact ret1 rfl (.tmp rfl)
  replace h := cneg e13 h
  refine ht_skip ?_
  refine ht_region ?_
  refine sM 18 (iV t5) rfl rfl ?_
  refine sT 19 (iV (IntKind.wrap .i64 (t5 + 1))) rfl (v_bin rfl · · · rfl rfl (b_add rfl)) ?_
  refine sM 5 (iV (IntKind.wrap .i64 (t5 + 1))) rfl rfl ?_
  refine sq_nil ?_
  exact j8 _ _ h (wk_ren _ (fun i => i) rfl ⟨rfl, rfl, rfl, trivial⟩)
 replace h := cneg e10 h
 refine ht_exit ?_
 refine tq ?_
 refine tq ?_
 refine bq_hit ?_
 cases h
 exact j5 _ _ rfl (wk_ren _ (fun i => i) rfl ⟨rfl, rfl, trivial⟩)
theorem s41 (k : Nat) (t0 : List Done) (t1 : List Done) (r : Bool) (h : F41 k t0 t1 = some r) : Awp.Spec Tryz.prog amb 41 [(.sl 11 (t0.map eDone)), (.sl 11 (t1.map eDone))] (.ds [(.s (.bool r))]) := by
 rw [F41] at h
 refine spec_of Tryz.func41 rfl (ble _ _ rfl) fun w0 ok0 lt0 hA => ?_
 refine sr ?_
 refine sM 4 (bV false) rfl rfl ?_
 refine sq_nil ?_
 refine ht_seq ?_
 refine sr ?_
 refine sM 6 (.d (.sl 11 (t0.map eDone))) rfl rfl ?_
 refine sT 7 (iV (t0.length : Int)) rfl (w_len t0 eDone rfl rfl · · · slT43 rfl) ?_
 refine sM 8 (.d (.sl 11 (t1.map eDone))) rfl rfl ?_
 refine sT 9 (iV (t1.length : Int)) rfl (w_len t1 eDone rfl rfl · · · slT43 rfl) ?_
 refine sT 10 (bV (!eqI (t0.length : Int) (t1.length : Int))) rfl (v_bin rfl · · · rfl rfl (b_neq rfl)) ?_
 refine sq_nil ?_
 refine ht_cond rfl (fun e1 => ?_) (fun e1 => ?_)
 ·replace h := cpos e1 h
  refine sr ?_
  refine sM 4 (bV false) rfl rfl ?_
  refine sq_nil ?_
  refine ht_ret ?_
  cases h
  exact ret1 rfl (.tmp rfl)
 replace h := cneg e1 h
 refine ht_skip ?_
 refine ht_gj (go_id' h) (fun _ => tell []) (fun _ h => ?_) (fun v2 K3 h j5 r6 => ?_)
 ·refine sr ?_
  refine sM 4 (bV true) rfl rfl ?_
  refine sq_nil ?_
  refine ht_ret ?_
  cases h
  exact ret1 rfl (.tmp rfl)
 refine sr ?_
 refine sM 5 (iV 0) rfl rfl ?_
 refine sq_nil ?_
 refine ht_block ?_
 refine ht_rd h (fun _ => rfl) (fun t5 => tell [(.t 0, .d (.sl 11 (t0.map eDone))), (.t 1, .d (.sl 11 (t1.map eDone))), (.t 5, iV t5)]) (wk_ren _ (fun i => i) rfl ⟨rfl, rfl, rfl, trivial⟩) fun k t5 h K46 j8 => ?_
 rw [F41_l1] at h
 refine ht_seq ?_
 refine sr ?_
 refine sM 11 (iV t5) rfl rfl ?_
 refine sM 12 (.d (.sl 11 (t0.map eDone))) rfl rfl ?_
 refine sT 13 (iV (t0.length : Int)) rfl (w_len t0 eDone rfl rfl · · · slT43 rfl) ?_
 refine sT 14 (bV (ltI t5 (t0.length : Int))) rfl (v_bin rfl · · · rfl rfl (b_lss rfl)) ?_
 refine sq_nil ?_
 refine ht_cond rfl (fun e10 => ?_) (fun e10 => ?_)
 ·replace h := cpos e10 h
  refine ht_skip ?_
  refine ht_seq ?_
  refine ht_block ?_
  refine ht_seq ?_
  refine ht_region_draw mixed ?_
  refine rM 17 (.d (.sl 11 (t0.map eDone))) rfl rfl ?_
  refine rM 18 (iV t5) rfl rfl ?_
  obtain ⟨e11, h⟩ := gpos h
  refine rT 19 (.d (.dp (eDone (rd t0 t5)))) rfl (w_idx t0 eDone rfl · · · slT43 rfl rfl e11) ?_
  refine rT 20 (.d (.dp (eDone (rd t0 t5)))) rfl (v_field_dp (a0 := 0) (cs := (eDone (rd t0 t5))) rfl · · · fo100_0 rfl) ?_
  refine rT 21 (iV (rd t0 t5).mClient) rfl (v_load_dp1 rfl · · · onT3 rfl rfl) ?_
  refine rM 22 (.d (.sl 11 (t1.map eDone))) rfl rfl ?_
  refine rM 23 (iV t5) rfl rfl ?_
  obtain ⟨e12, h⟩ := gpos h
  refine rT 24 (.d (.dp (eDone (rd t1 t5)))) rfl (w_idx t1 eDone rfl · · · slT43 rfl rfl e12) ?_
  refine rT 25 (.d (.dp (eDone (rd t1 t5)))) rfl (v_field_dp (a0 := 0) (cs := (eDone (rd t1 t5))) rfl · · · fo100_0 rfl) ?_
  refine rT 26 (iV (rd t1 t5).mClient) rfl (v_load_dp1 rfl · · · onT3 rfl rfl) ?_
  refine rT 27 (bV (!eqI (rd t0 t5).mClient (rd t1 t5).mClient)) rfl (v_bin rfl · · · rfl rfl (b_neq rfl)) ?_
  refine rM 28 (bV (!eqI (rd t0 t5).mClient (rd t1 t5).mClient)) rfl rfl ?_
  refine rF 29 (.d (.sl 11 (t0.map eDone))) rfl rfl (fun e13 => (v_move (.inl rfl) · · · rfl)) ?_
  refine rF 30 (iV t5) rfl rfl (fun e14 => (v_move (.inl rfl) · · · rfl)) ?_
  obtain ⟨e16, h⟩ := gpos h
  refine rF 31 (.d (.dp (eDone (rd t0 t5)))) rfl rfl (fun e15 => (w_idx t0 eDone rfl · · · slT43 (gv (nF e15)) (gv (nF e15)) (orT e16 (nF e15)))) ?_
  refine rF 32 (.d (.dp (List.drop 1 (eDone (rd t0 t5))))) rfl rfl (fun e17 => (v_field_dp (a0 := 1) (cs := (eDone (rd t0 t5))) rfl · · · fo100_1 (gv (nF e17)))) ?_
  refine rF 33 (iV (rd t0 t5).mReq) rfl rfl (fun e18 => (v_load_dp1 rfl · · · onT3 (gv (nF e18)) rfl)) ?_
  refine rF 34 (.d (.sl 11 (t1.map eDone))) rfl rfl (fun e19 => (v_move (.inl rfl) · · · rfl)) ?_
  refine rF 35 (iV t5) rfl rfl (fun e20 => (v_move (.inl rfl) · · · rfl)) ?_
  obtain ⟨e22, h⟩ := gpos h
  refine rF 36 (.d (.dp (eDone (rd t1 t5)))) rfl rfl (fun e21 => (w_idx t1 eDone rfl · · · slT43 (gv (nF e21)) (gv (nF e21)) (orT e22 (nF e21)))) ?_
  refine rF 37 (.d (.dp (List.drop 1 (eDone (rd t1 t5))))) rfl rfl (fun e23 => (v_field_dp (a0 := 1) (cs := (eDone (rd t1 t5))) rfl · · · fo100_1 (gv (nF e23)))) ?_
  refine rF 38 (iV (rd t1 t5).mReq) rfl rfl (fun e24 => (v_load_dp1 rfl · · · onT3 (gv (nF e24)) rfl)) ?_
  refine rF 39 (bV (!eqI (rd t0 t5).mReq (rd t1 t5).mReq)) rfl rfl (fun e25 => (v_bin rfl · · · (gv (nF e25)) (gv (nF e25)) (b_neq rfl))) ?_
  refine rT 40 (bV ((!eqI (rd t0 t5).mClient (rd t1 t5).mClient) || (!eqI (rd t0 t5).mReq (rd t1 t5).mReq))) rfl (v_pickB rfl · · · rfl (fun e26 => rfl) (fun e27 => (gv (nF e27))) (pO _ _)) ?_
  refine rM 41 (bV ((!eqI (rd t0 t5).mClient (rd t1 t5).mClient) || (!eqI (rd t0 t5).mReq (rd t1 t5).mReq))) rfl rfl ?_
  refine rF 42 (.d (.sl 11 (t0.map eDone))) rfl rfl (fun e28 => (v_move (.inl rfl) · · · rfl)) ?_
  refine rF 43 (iV t5) rfl rfl (fun e29 => (v_move (.inl rfl) · · · rfl)) ?_
  obtain ⟨e31, h⟩ := gpos h
  refine rF 44 (.d (.dp (eDone (rd t0 t5)))) rfl rfl (fun e30 => (w_idx t0 eDone rfl · · · slT43 (gv (nF e30)) (gv (nF e30)) (orT e31 (nF e30)))) ?_
  refine rF 45 (.d (.dp (List.drop 2 (eDone (rd t0 t5))))) rfl rfl (fun e32 => (v_field_dp (a0 := 2) (cs := (eDone (rd t0 t5))) rfl · · · fo100_2 (gv (nF e32)))) ?_
  refine rF 46 (.d (.agg (eAnswer (rd t0 t5).mAnswer))) rfl rfl (fun e33 => (w_ldp (List.drop 2 (eDone (rd t0 t5))) (eAnswer (rd t0 t5).mAnswer) rfl · · · ag34 (gv (nF e33)) (ble _ _ rfl) rfl)) ?_
  refine rF 47 (.d (.sl 11 (t1.map eDone))) rfl rfl (fun e34 => (v_move (.inl rfl) · · · rfl)) ?_
  refine rF 48 (iV t5) rfl rfl (fun e35 => (v_move (.inl rfl) · · · rfl)) ?_
  obtain ⟨e37, h⟩ := gpos h
  refine rF 49 (.d (.dp (eDone (rd t1 t5)))) rfl rfl (fun e36 => (w_idx t1 eDone rfl · · · slT43 (gv (nF e36)) (gv (nF e36)) (orT e37 (nF e36)))) ?_
  refine rF 50 (.d (.dp (List.drop 2 (eDone (rd t1 t5))))) rfl rfl (fun e38 => (v_field_dp (a0 := 2) (cs := (eDone (rd t1 t5))) rfl · · · fo100_2 (gv (nF e38)))) ?_
  refine rF 51 (.d (.agg (eAnswer (rd t1 t5).mAnswer))) rfl rfl (fun e39 => (w_ldp (List.drop 2 (eDone (rd t1 t5))) (eAnswer (rd t1 t5).mAnswer) rfl · · · ag34 (gv (nF e39)) (ble _ _ rfl) rfl)) ?_
  obtain ⟨t52, c41, h⟩ := bpos h
  refine rF 52 (bV t52) rfl rfl (fun e40 => (w_call (ds := [(.agg (eAnswer (rd t0 t5).mAnswer)), (.agg (eAnswer (rd t1 t5).mAnswer))]) (caps := []) (l := [(.s (.bool t52))]) (s19 k (rd t0 t5).mAnswer (rd t1 t5).mAnswer _ (cpos (nF e40) c41)) rfl rfl rfl en19 · · · (.inl ⟨rfl, rfl⟩) (cc (gv (nF e40)) (cc (gv (nF e40)) rfl)) rfl)) ?_
  refine rF 53 (bV (!t52)) rfl rfl (fun e42 => (v_un rfl · · · (gv (nF e42)) (u_not rfl))) ?_
  refine rT 54 (bV (((!eqI (rd t0 t5).mClient (rd t1 t5).mClient) || (!eqI (rd t0 t5).mReq (rd t1 t5).mReq)) || (!t52))) rfl (v_pickB rfl · · · rfl (fun e43 => rfl) (fun e44 => (gv (nF e44))) (pO _ _)) ?_
  refine rg_nil ⟨by kernel_rfl, ?_⟩
  refine ht_cond rfl (fun e45 => ?_) (fun e45 => ?_)
  ·replace h := cpos e45 h
   refine sr ?_
   refine sM 4 (bV false) rfl rfl ?_
   refine sq_nil ?_
   refine ht_ret ?_
   cases h
   cases r6 _ rfl
   exact ret1 rfl (.tmp rfl)
  replace h := cneg e45 h
  refine ht_skip ?_
  refine ht_region ?_
  refine sM 15 (iV t5) rfl rfl ?_
  refine sT 16 (iV (IntKind.wrap .i64 (t5 + 1))) rfl (v_bin rfl · · · rfl rfl (b_add rfl)) ?_
  refine sM 5 (iV (IntKind.wrap .i64 (t5 + 1))) rfl rfl ?_
  refine sq_nil ?_
  exact j8 _ _ h (wk_ren _ (fun i => i) rfl ⟨rfl, rfl, rfl, trivial⟩)
 replace h := cneg e10 h
 refine ht_exit ?_
 refine tq ?_
 refine tq ?_
 refine bq_hit ?_
 cases h
 exact j5 _ _ rfl (wk_ren _ (fun i => i) rfl trivial)
theorem s26 (k : Nat) (t0 : Shard) (t1 : Shard) (r : Bool) (h : F26 k t0 t1 = some r) : Awp.Spec Tryz.prog amb 26 [(.agg (eShard t0)), (.agg (eShard t1))] (.ds [(.s (.bool r))]) := by
 rw [F26] at h
 refine spec_of Tryz.func26 rfl (ble _ _ rfl) fun w0 ok0 lt0 hA => ?_
 refine sr ?_
 refine sT 2 (.d (.dp (eShard t0))) rfl (v_box_d (cs := (eShard t0)) rfl · · · rfl rfl (ones_of rfl)) ?_
 refine sT 3 (.d (.dp (eShard t1))) rfl (v_box_d (cs := (eShard t1)) rfl · · · rfl rfl (ones_of rfl)) ?_
 refine sM 4 (bV false) rfl rfl ?_
 refine sq_nil ?_
 refine sr ?_
 refine sT 5 (.d (.dp (eShard t0))) rfl (v_field_dp (a0 := 0) (cs := (eShard t0)) rfl · · · fo45_0 rfl) ?_
 refine sT 6 (iV t0.mID) rfl (v_load_dp1 rfl · · · onT3 rfl rfl) ?_
 refine sT 7 (.d (.dp (eShard t1))) rfl (v_field_dp (a0 := 0) (cs := (eShard t1)) rfl · · · fo45_0 rfl) ?_
 refine sT 8 (iV t1.mID) rfl (v_load_dp1 rfl · · · onT3 rfl rfl) ?_
 refine sT 9 (bV (eqI t0.mID t1.mID)) rfl (v_bin rfl · · · rfl rfl (b_eql rfl)) ?_
 refine sM 10 (bV (eqI t0.mID t1.mID)) rfl rfl ?_
 refine sG 11 (.d (.dp (List.drop 1 (eShard t0)))) rfl rfl (fun e1 => (v_field_dp (a0 := 1) (cs := (eShard t0)) rfl · · · fo45_1 rfl)) ?_
 refine sG 12 (iV t0.mEpoch) rfl rfl (fun e2 => (v_load_dp1 rfl · · · onT3 (gv e2) rfl)) ?_
 refine sG 13 (.d (.dp (List.drop 1 (eShard t1)))) rfl rfl (fun e3 => (v_field_dp (a0 := 1) (cs := (eShard t1)) rfl · · · fo45_1 rfl)) ?_
 refine sG 14 (iV t1.mEpoch) rfl rfl (fun e4 => (v_load_dp1 rfl · · · onT3 (gv e4) rfl)) ?_
 refine sG 15 (bV (eqI t0.mEpoch t1.mEpoch)) rfl rfl (fun e5 => (v_bin rfl · · · (gv e5) (gv e5) (b_eql rfl))) ?_
 refine sT 16 (bV ((eqI t0.mID t1.mID) && (eqI t0.mEpoch t1.mEpoch))) rfl (v_pickB rfl · · · rfl (fun e6 => (gv e6)) (fun e7 => rfl) (pA _ _)) ?_
 refine sM 17 (bV ((eqI t0.mID t1.mID) && (eqI t0.mEpoch t1.mEpoch))) rfl rfl ?_
 refine sG 18 (.d (.dp (List.drop 2 (eShard t0)))) rfl rfl (fun e8 => (v_field_dp (a0 := 2) (cs := (eShard t0)) rfl · · · fo45_2 rfl)) ?_
 refine sG 19 (.d (.agg (eSpan t0.mSpan))) rfl rfl (fun e9 => (w_ldp (List.drop 2 (eShard t0)) (eSpan t0.mSpan) rfl · · · ag41 (gv e9) (ble _ _ rfl) rfl)) ?_
 refine sG 20 (.d (.dp (List.drop 2 (eShard t1)))) rfl rfl (fun e10 => (v_field_dp (a0 := 2) (cs := (eShard t1)) rfl · · · fo45_2 rfl)) ?_
 refine sG 21 (.d (.agg (eSpan t1.mSpan))) rfl rfl (fun e11 => (w_ldp (List.drop 2 (eShard t1)) (eSpan t1.mSpan) rfl · · · ag41 (gv e11) (ble _ _ rfl) rfl)) ?_
 refine sG 22 (bV (qSpan t0.mSpan t1.mSpan)) rfl rfl (fun e12 => (v_bin_eql (f := eSpan) rfl · · · (gv e12) (gv e12) rfl rfl eg41 (eq41 _ _))) ?_
 refine sT 23 (bV (((eqI t0.mID t1.mID) && (eqI t0.mEpoch t1.mEpoch)) && (qSpan t0.mSpan t1.mSpan))) rfl (v_pickB rfl · · · rfl (fun e13 => (gv e13)) (fun e14 => rfl) (pA _ _)) ?_
 refine sM 24 (bV (((eqI t0.mID t1.mID) && (eqI t0.mEpoch t1.mEpoch)) && (qSpan t0.mSpan t1.mSpan))) rfl rfl ?_
 refine sG 25 (.d (.dp (List.drop 4 (eShard t0)))) rfl rfl (fun e15 => (v_field_dp (a0 := 4) (cs := (eShard t0)) rfl · · · fo45_3 rfl)) ?_
 refine sG 26 (iV t0.mPhase) rfl rfl (fun e16 => (v_load_dp1 rfl · · · onT3 (gv e16) rfl)) ?_
 refine sG 27 (.d (.dp (List.drop 4 (eShard t1)))) rfl rfl (fun e17 => (v_field_dp (a0 := 4) (cs := (eShard t1)) rfl · · · fo45_3 rfl)) ?_
 refine sG 28 (iV t1.mPhase) rfl rfl (fun e18 => (v_load_dp1 rfl · · · onT3 (gv e18) rfl)) ?_
 refine sG 29 (bV (eqI t0.mPhase t1.mPhase)) rfl rfl (fun e19 => (v_bin rfl · · · (gv e19) (gv e19) (b_eql rfl))) ?_
 refine sT 30 (bV ((((eqI t0.mID t1.mID) && (eqI t0.mEpoch t1.mEpoch)) && (qSpan t0.mSpan t1.mSpan)) && (eqI t0.mPhase t1.mPhase))) rfl (v_pickB rfl · · · rfl (fun e20 => (gv e20)) (fun e21 => rfl) (pA _ _)) ?_
 refine sM 31 (bV ((((eqI t0.mID t1.mID) && (eqI t0.mEpoch t1.mEpoch)) && (qSpan t0.mSpan t1.mSpan)) && (eqI t0.mPhase t1.mPhase))) rfl rfl ?_
 refine sG 32 (.d (.dp (List.drop 5 (eShard t0)))) rfl rfl (fun e22 => (v_field_dp (a0 := 5) (cs := (eShard t0)) rfl · · · fo45_4 rfl)) ?_
 refine sG 33 (.d (.sl 2 (t0.mEntries.map eEntry))) rfl rfl (fun e23 => (v_load_dp1 rfl · · · onT42 (gv e23) rfl)) ?_
 refine sG 34 (.d (.dp (List.drop 5 (eShard t1)))) rfl rfl (fun e24 => (v_field_dp (a0 := 5) (cs := (eShard t1)) rfl · · · fo45_4 rfl)) ?_
 refine sG 35 (.d (.sl 2 (t1.mEntries.map eEntry))) rfl rfl (fun e25 => (v_load_dp1 rfl · · · onT42 (gv e25) rfl)) ?_
 obtain ⟨t36, c27, h⟩ := bpos h
 refine sG 36 (bV t36) rfl rfl (fun e26 => (w_call (ds := [(.sl 2 (t0.mEntries.map eEntry)), (.sl 2 (t1.mEntries.map eEntry))]) (caps := []) (l := [(.s (.bool t36))]) (s40 k t0.mEntries t1.mEntries _ (cpos e26 c27)) rfl rfl rfl en40 · · · (.inl ⟨rfl, rfl⟩) (cc (gv e26) (cc (gv e26) rfl)) rfl)) ?_
 refine sT 37 (bV (((((eqI t0.mID t1.mID) && (eqI t0.mEpoch t1.mEpoch)) && (qSpan t0.mSpan t1.mSpan)) && (eqI t0.mPhase t1.mPhase)) && t36)) rfl (v_pickB rfl · · · rfl (fun e28 => (gv e28)) (fun e29 => rfl) (pA _ _)) ?_
 refine sM 38 (bV (((((eqI t0.mID t1.mID) && (eqI t0.mEpoch t1.mEpoch)) && (qSpan t0.mSpan t1.mSpan)) && (eqI t0.mPhase t1.mPhase)) && t36)) rfl rfl ?_
 refine sG 39 (.d (.dp (List.drop 6 (eShard t0)))) rfl rfl (fun e30 => (v_field_dp (a0 := 6) (cs := (eShard t0)) rfl · · · fo45_5 rfl)) ?_
 refine sG 40 (.d (.agg (eStamp t0.mMark))) rfl rfl (fun e31 => (w_ldp (List.drop 6 (eShard t0)) (eStamp t0.mMark) rfl · · · ag24 (gv e31) (ble _ _ rfl) rfl)) ?_
 refine sG 41 (.d (.dp (List.drop 6 (eShard t1)))) rfl rfl (fun e32 => (v_field_dp (a0 := 6) (cs := (eShard t1)) rfl · · · fo45_5 rfl)) ?_
 refine sG 42 (.d (.agg (eStamp t1.mMark))) rfl rfl (fun e33 => (w_ldp (List.drop 6 (eShard t1)) (eStamp t1.mMark) rfl · · · ag24 (gv e33) (ble _ _ rfl) rfl)) ?_
 refine sG 43 (bV (qStamp t0.mMark t1.mMark)) rfl rfl (fun e34 => (v_bin_eql (f := eStamp) rfl · · · (gv e34) (gv e34) rfl rfl eg24 (eq24 _ _))) ?_
 refine sT 44 (bV ((((((eqI t0.mID t1.mID) && (eqI t0.mEpoch t1.mEpoch)) && (qSpan t0.mSpan t1.mSpan)) && (eqI t0.mPhase t1.mPhase)) && t36) && (qStamp t0.mMark t1.mMark))) rfl (v_pickB rfl · · · rfl (fun e35 => (gv e35)) (fun e36 => rfl) (pA _ _)) ?_
 refine sM 45 (bV ((((((eqI t0.mID t1.mID) && (eqI t0.mEpoch t1.mEpoch)) && (qSpan t0.mSpan t1.mSpan)) && (eqI t0.mPhase t1.mPhase)) && t36) && (qStamp t0.mMark t1.mMark))) rfl rfl ?_
 refine sG 46 (.d (.dp (List.drop 9 (eShard t0)))) rfl rfl (fun e37 => (v_field_dp (a0 := 9) (cs := (eShard t0)) rfl · · · fo45_6 rfl)) ?_
 refine sG 47 (.d (.agg (eStamp t0.mTop))) rfl rfl (fun e38 => (w_ldp (List.drop 9 (eShard t0)) (eStamp t0.mTop) rfl · · · ag24 (gv e38) (ble _ _ rfl) rfl)) ?_
 refine sG 48 (.d (.dp (List.drop 9 (eShard t1)))) rfl rfl (fun e39 => (v_field_dp (a0 := 9) (cs := (eShard t1)) rfl · · · fo45_6 rfl)) ?_
 refine sG 49 (.d (.agg (eStamp t1.mTop))) rfl rfl (fun e40 => (w_ldp (List.drop 9 (eShard t1)) (eStamp t1.mTop) rfl · · · ag24 (gv e40) (ble _ _ rfl) rfl)) ?_
 refine sG 50 (bV (qStamp t0.mTop t1.mTop)) rfl rfl (fun e41 => (v_bin_eql (f := eStamp) rfl · · · (gv e41) (gv e41) rfl rfl eg24 (eq24 _ _))) ?_
 refine sT 51 (bV (((((((eqI t0.mID t1.mID) && (eqI t0.mEpoch t1.mEpoch)) && (qSpan t0.mSpan t1.mSpan)) && (eqI t0.mPhase t1.mPhase)) && t36) && (qStamp t0.mMark t1.mMark)) && (qStamp t0.mTop t1.mTop))) rfl (v_pickB rfl · · · rfl (fun e42 => (gv e42)) (fun e43 => rfl) (pA _ _)) ?_
 refine sM 52 (bV (((((((eqI t0.mID t1.mID) && (eqI t0.mEpoch t1.mEpoch)) && (qSpan t0.mSpan t1.mSpan)) && (eqI t0.mPhase t1.mPhase)) && t36) && (qStamp t0.mMark t1.mMark)) && (qStamp t0.mTop t1.mTop))) rfl rfl ?_
 refine sG 53 (.d (.dp (List.drop 12 (eShard t0)))) rfl rfl (fun e44 => (v_field_dp (a0 := 12) (cs := (eShard t0)) rfl · · · fo45_7 rfl)) ?_
 refine sG 54 (.d (.sl 11 (t0.mDone.map eDone))) rfl rfl (fun e45 => (v_load_dp1 rfl · · · onT43 (gv e45) rfl)) ?_
 refine sG 55 (.d (.dp (List.drop 12 (eShard t1)))) rfl rfl (fun e46 => (v_field_dp (a0 := 12) (cs := (eShard t1)) rfl · · · fo45_7 rfl)) ?_
 refine sG 56 (.d (.sl 11 (t1.mDone.map eDone))) rfl rfl (fun e47 => (v_load_dp1 rfl · · · onT43 (gv e47) rfl)) ?_
 obtain ⟨t57, c49, h⟩ := bpos h
 refine sG 57 (bV t57) rfl rfl (fun e48 => (w_call (ds := [(.sl 11 (t0.mDone.map eDone)), (.sl 11 (t1.mDone.map eDone))]) (caps := []) (l := [(.s (.bool t57))]) (s41 k t0.mDone t1.mDone _ (cpos e48 c49)) rfl rfl rfl en41 · · · (.inl ⟨rfl, rfl⟩) (cc (gv e48) (cc (gv e48) rfl)) rfl)) ?_
 refine sT 58 (bV ((((((((eqI t0.mID t1.mID) && (eqI t0.mEpoch t1.mEpoch)) && (qSpan t0.mSpan t1.mSpan)) && (eqI t0.mPhase t1.mPhase)) && t36) && (qStamp t0.mMark t1.mMark)) && (qStamp t0.mTop t1.mTop)) && t57)) rfl (v_pickB rfl · · · rfl (fun e50 => (gv e50)) (fun e51 => rfl) (pA _ _)) ?_
 refine sM 59 (bV ((((((((eqI t0.mID t1.mID) && (eqI t0.mEpoch t1.mEpoch)) && (qSpan t0.mSpan t1.mSpan)) && (eqI t0.mPhase t1.mPhase)) && t36) && (qStamp t0.mMark t1.mMark)) && (qStamp t0.mTop t1.mTop)) && t57)) rfl rfl ?_
 refine sG 60 (.d (.dp (List.drop 13 (eShard t0)))) rfl rfl (fun e52 => (v_field_dp (a0 := 13) (cs := (eShard t0)) rfl · · · fo45_8 rfl)) ?_
 refine sG 61 (iV t0.mHold) rfl rfl (fun e53 => (v_load_dp1 rfl · · · onT3 (gv e53) rfl)) ?_
 refine sG 62 (.d (.dp (List.drop 13 (eShard t1)))) rfl rfl (fun e54 => (v_field_dp (a0 := 13) (cs := (eShard t1)) rfl · · · fo45_8 rfl)) ?_
 refine sG 63 (iV t1.mHold) rfl rfl (fun e55 => (v_load_dp1 rfl · · · onT3 (gv e55) rfl)) ?_
 refine sG 64 (bV (eqI t0.mHold t1.mHold)) rfl rfl (fun e56 => (v_bin rfl · · · (gv e56) (gv e56) (b_eql rfl))) ?_
 refine sT 65 (bV (((((((((eqI t0.mID t1.mID) && (eqI t0.mEpoch t1.mEpoch)) && (qSpan t0.mSpan t1.mSpan)) && (eqI t0.mPhase t1.mPhase)) && t36) && (qStamp t0.mMark t1.mMark)) && (qStamp t0.mTop t1.mTop)) && t57) && (eqI t0.mHold t1.mHold))) rfl (v_pickB rfl · · · rfl (fun e57 => (gv e57)) (fun e58 => rfl) (pA _ _)) ?_
 refine sM 66 (bV (((((((((eqI t0.mID t1.mID) && (eqI t0.mEpoch t1.mEpoch)) && (qSpan t0.mSpan t1.mSpan)) && (eqI t0.mPhase t1.mPhase)) && t36) && (qStamp t0.mMark t1.mMark)) && (qStamp t0.mTop t1.mTop)) && t57) && (eqI t0.mHold t1.mHold))) rfl rfl ?_
 refine sG 67 (.d (.dp (List.drop 14 (eShard t0)))) rfl rfl (fun e59 => (v_field_dp (a0 := 14) (cs := (eShard t0)) rfl · · · fo45_9 rfl)) ?_
 refine sG 68 (iV t0.mSeen) rfl rfl (fun e60 => (v_load_dp1 rfl · · · onT3 (gv e60) rfl)) ?_
 refine sG 69 (.d (.dp (List.drop 14 (eShard t1)))) rfl rfl (fun e61 => (v_field_dp (a0 := 14) (cs := (eShard t1)) rfl · · · fo45_9 rfl)) ?_
 refine sG 70 (iV t1.mSeen) rfl rfl (fun e62 => (v_load_dp1 rfl · · · onT3 (gv e62) rfl)) ?_
 refine sG 71 (bV (eqI t0.mSeen t1.mSeen)) rfl rfl (fun e63 => (v_bin rfl · · · (gv e63) (gv e63) (b_eql rfl))) ?_
 refine sT 72 (bV ((((((((((eqI t0.mID t1.mID) && (eqI t0.mEpoch t1.mEpoch)) && (qSpan t0.mSpan t1.mSpan)) && (eqI t0.mPhase t1.mPhase)) && t36) && (qStamp t0.mMark t1.mMark)) && (qStamp t0.mTop t1.mTop)) && t57) && (eqI t0.mHold t1.mHold)) && (eqI t0.mSeen t1.mSeen))) rfl (v_pickB rfl · · · rfl (fun e64 => (gv e64)) (fun e65 => rfl) (pA _ _)) ?_
 refine sM 73 (bV ((((((((((eqI t0.mID t1.mID) && (eqI t0.mEpoch t1.mEpoch)) && (qSpan t0.mSpan t1.mSpan)) && (eqI t0.mPhase t1.mPhase)) && t36) && (qStamp t0.mMark t1.mMark)) && (qStamp t0.mTop t1.mTop)) && t57) && (eqI t0.mHold t1.mHold)) && (eqI t0.mSeen t1.mSeen))) rfl rfl ?_
 refine sG 74 (.d (.dp (List.drop 15 (eShard t0)))) rfl rfl (fun e66 => (v_field_dp (a0 := 15) (cs := (eShard t0)) rfl · · · fo45_10 rfl)) ?_
 refine sG 75 (iV t0.mMove) rfl rfl (fun e67 => (v_load_dp1 rfl · · · onT3 (gv e67) rfl)) ?_
 refine sG 76 (.d (.dp (List.drop 15 (eShard t1)))) rfl rfl (fun e68 => (v_field_dp (a0 := 15) (cs := (eShard t1)) rfl · · · fo45_10 rfl)) ?_
 refine sG 77 (iV t1.mMove) rfl rfl (fun e69 => (v_load_dp1 rfl · · · onT3 (gv e69) rfl)) ?_
 refine sG 78 (bV (eqI t0.mMove t1.mMove)) rfl rfl (fun e70 => (v_bin rfl · · · (gv e70) (gv e70) (b_eql rfl))) ?_
 refine sT 79 (bV (((((((((((eqI t0.mID t1.mID) && (eqI t0.mEpoch t1.mEpoch)) && (qSpan t0.mSpan t1.mSpan)) && (eqI t0.mPhase t1.mPhase)) && t36) && (qStamp t0.mMark t1.mMark)) && (qStamp t0.mTop t1.mTop)) && t57) && (eqI t0.mHold t1.mHold)) && (eqI t0.mSeen t1.mSeen)) && (eqI t0.mMove t1.mMove))) rfl (v_pickB rfl · · · rfl (fun e71 => (gv e71)) (fun e72 => rfl) (pA _ _)) ?_
 refine sM 80 (bV (((((((((((eqI t0.mID t1.mID) && (eqI t0.mEpoch t1.mEpoch)) && (qSpan t0.mSpan t1.mSpan)) && (eqI t0.mPhase t1.mPhase)) && t36) && (qStamp t0.mMark t1.mMark)) && (qStamp t0.mTop t1.mTop)) && t57) && (eqI t0.mHold t1.mHold)) && (eqI t0.mSeen t1.mSeen)) && (eqI t0.mMove t1.mMove))) rfl rfl ?_
 refine sG 81 (.d (.dp (List.drop 16 (eShard t0)))) rfl rfl (fun e73 => (v_field_dp (a0 := 16) (cs := (eShard t0)) rfl · · · fo45_11 rfl)) ?_
 refine sG 82 (iV t0.mClosed) rfl rfl (fun e74 => (v_load_dp1 rfl · · · onT3 (gv e74) rfl)) ?_
 refine sG 83 (.d (.dp (List.drop 16 (eShard t1)))) rfl rfl (fun e75 => (v_field_dp (a0 := 16) (cs := (eShard t1)) rfl · · · fo45_11 rfl)) ?_
 refine sG 84 (iV t1.mClosed) rfl rfl (fun e76 => (v_load_dp1 rfl · · · onT3 (gv e76) rfl)) ?_
 refine sG 85 (bV (eqI t0.mClosed t1.mClosed)) rfl rfl (fun e77 => (v_bin rfl · · · (gv e77) (gv e77) (b_eql rfl))) ?_
 refine sT 86 (bV ((((((((((((eqI t0.mID t1.mID) && (eqI t0.mEpoch t1.mEpoch)) && (qSpan t0.mSpan t1.mSpan)) && (eqI t0.mPhase t1.mPhase)) && t36) && (qStamp t0.mMark t1.mMark)) && (qStamp t0.mTop t1.mTop)) && t57) && (eqI t0.mHold t1.mHold)) && (eqI t0.mSeen t1.mSeen)) && (eqI t0.mMove t1.mMove)) && (eqI t0.mClosed t1.mClosed))) rfl (v_pickB rfl · · · rfl (fun e78 => (gv e78)) (fun e79 => rfl) (pA _ _)) ?_
 refine sM 4 (bV ((((((((((((eqI t0.mID t1.mID) && (eqI t0.mEpoch t1.mEpoch)) && (qSpan t0.mSpan t1.mSpan)) && (eqI t0.mPhase t1.mPhase)) && t36) && (qStamp t0.mMark t1.mMark)) && (qStamp t0.mTop t1.mTop)) && t57) && (eqI t0.mHold t1.mHold)) && (eqI t0.mSeen t1.mSeen)) && (eqI t0.mMove t1.mMove)) && (eqI t0.mClosed t1.mClosed))) rfl rfl ?_
 refine sq_nil ?_
 refine ht_ret ?_
 cases h
 exact ret1 rfl (.tmp rfl)
theorem s18 (k : Nat) (t0 : Cell) (t1 : Cell) (r : Bool) (h : F18 k t0 t1 = some r) : Awp.Spec Tryz.prog amb 18 [(.agg (eCell t0)), (.agg (eCell t1))] (.ds [(.s (.bool r))]) := by
 rw [F18] at h
 refine spec_of Tryz.func18 rfl (ble _ _ rfl) fun w0 ok0 lt0 hA => ?_
 refine sr ?_
 refine sT 2 (.d (.dp (eCell t0))) rfl (v_box_d (cs := (eCell t0)) rfl · · · rfl rfl (ones_of rfl)) ?_
 refine sT 3 (.d (.dp (eCell t1))) rfl (v_box_d (cs := (eCell t1)) rfl · · · rfl rfl (ones_of rfl)) ?_
 refine sM 4 (bV false) rfl rfl ?_
 refine sq_nil ?_
 refine ht_seq ?_
 refine sr ?_
 refine sT 6 (.d (.dp (eCell t0))) rfl (v_field_dp (a0 := 0) (cs := (eCell t0)) rfl · · · fo26_0 rfl) ?_
 refine sT 7 (.d (.sl 17 (t0.mShards.map eShard))) rfl (v_load_dp1 rfl · · · onT22 rfl rfl) ?_
 refine sT 8 (iV (t0.mShards.length : Int)) rfl (w_len t0.mShards eShard rfl rfl · · · slT22 rfl) ?_
 refine sT 9 (.d (.dp (eCell t1))) rfl (v_field_dp (a0 := 0) (cs := (eCell t1)) rfl · · · fo26_0 rfl) ?_
 refine sT 10 (.d (.sl 17 (t1.mShards.map eShard))) rfl (v_load_dp1 rfl · · · onT22 rfl rfl) ?_
 refine sT 11 (iV (t1.mShards.length : Int)) rfl (w_len t1.mShards eShard rfl rfl · · · slT22 rfl) ?_
 refine sT 12 (bV (!eqI (t0.mShards.length : Int) (t1.mShards.length : Int))) rfl (v_bin rfl · · · rfl rfl (b_neq rfl)) ?_
 refine sM 13 (bV (!eqI (t0.mShards.length : Int) (t1.mShards.length : Int))) rfl rfl ?_
 refine sF 14 (.d (.dp (List.drop 1 (eCell t0)))) rfl rfl (fun e1 => (v_field_dp (a0 := 1) (cs := (eCell t0)) rfl · · · fo26_1 rfl)) ?_
 refine sF 15 (.d (.agg (eStamp t0.mTop))) rfl rfl (fun e2 => (w_ldp (List.drop 1 (eCell t0)) (eStamp t0.mTop) rfl · · · ag24 (gv (nF e2)) (ble _ _ rfl) rfl)) ?_
 refine sF 16 (.d (.dp (List.drop 1 (eCell t1)))) rfl rfl (fun e3 => (v_field_dp (a0 := 1) (cs := (eCell t1)) rfl · · · fo26_1 rfl)) ?_
 refine sF 17 (.d (.agg (eStamp t1.mTop))) rfl rfl (fun e4 => (w_ldp (List.drop 1 (eCell t1)) (eStamp t1.mTop) rfl · · · ag24 (gv (nF e4)) (ble _ _ rfl) rfl)) ?_
 refine sF 18 (bV (!(qStamp t0.mTop t1.mTop))) rfl rfl (fun e5 => (v_bin_neq (f := eStamp) rfl · · · (gv (nF e5)) (gv (nF e5)) rfl rfl eg24 (eq24 _ _))) ?_
 refine sT 19 (bV ((!eqI (t0.mShards.length : Int) (t1.mShards.length : Int)) || (!(qStamp t0.mTop t1.mTop)))) rfl (v_pickB rfl · · · rfl (fun e6 => rfl) (fun e7 => (gv (nF e7))) (pO _ _)) ?_
 refine sM 20 (bV ((!eqI (t0.mShards.length : Int) (t1.mShards.length : Int)) || (!(qStamp t0.mTop t1.mTop)))) rfl rfl ?_
 refine sF 21 (.d (.dp (List.drop 4 (eCell t0)))) rfl rfl (fun e8 => (v_field_dp (a0 := 4) (cs := (eCell t0)) rfl · · · fo26_2 rfl)) ?_
 refine sF 22 (iV t0.mDropped) rfl rfl (fun e9 => (v_load_dp1 rfl · · · onT3 (gv (nF e9)) rfl)) ?_
 refine sF 23 (.d (.dp (List.drop 4 (eCell t1)))) rfl rfl (fun e10 => (v_field_dp (a0 := 4) (cs := (eCell t1)) rfl · · · fo26_2 rfl)) ?_
 refine sF 24 (iV t1.mDropped) rfl rfl (fun e11 => (v_load_dp1 rfl · · · onT3 (gv (nF e11)) rfl)) ?_
 refine sF 25 (bV (!eqI t0.mDropped t1.mDropped)) rfl rfl (fun e12 => (v_bin rfl · · · (gv (nF e12)) (gv (nF e12)) (b_neq rfl))) ?_
 refine sT 26 (bV (((!eqI (t0.mShards.length : Int) (t1.mShards.length : Int)) || (!(qStamp t0.mTop t1.mTop))) || (!eqI t0.mDropped t1.mDropped))) rfl (v_pickB rfl · · · rfl (fun e13 => rfl) (fun e14 => (gv (nF e14))) (pO _ _)) ?_
 refine sq_nil ?_
 refine ht_cond rfl (fun e15 => ?_) (fun e15 => ?_)
 ·replace h := cpos e15 h
  refine sr ?_
  refine sM 4 (bV false) rfl rfl ?_
  refine sq_nil ?_
  refine ht_ret ?_
  cases h
  exact ret1 rfl (.tmp rfl)
 replace h := cneg e15 h
 refine ht_skip ?_
 refine ht_gj (go_id' h) (fun _ => tell []) (fun _ h => ?_) (fun v16 K17 h j19 r20 => ?_)
 ·refine sr ?_
  refine sM 4 (bV true) rfl rfl ?_
  refine sq_nil ?_
  refine ht_ret ?_
  cases h
  exact ret1 rfl (.tmp rfl)
 refine sr ?_
 refine sM 5 (iV 0) rfl rfl ?_
 refine sq_nil ?_
 refine ht_block ?_
 refine ht_rd h (fun _ => rfl) (fun t5 => tell [(.t 2, .d (.dp (eCell t0))), (.t 3, .d (.dp (eCell t1))), (.t 5, iV t5)]) (wk_ren _ (fun i => i) rfl ⟨rfl, rfl, rfl, trivial⟩) fun k t5 h K29 j22 => ?_
 rw [F18_l1] at h
 refine ht_seq ?_
 refine sr ?_
 refine sM 27 (iV t5) rfl rfl ?_
 refine sT 28 (.d (.dp (eCell t0))) rfl (v_field_dp (a0 := 0) (cs := (eCell t0)) rfl · · · fo26_0 rfl) ?_
 refine sT 29 (.d (.sl 17 (t0.mShards.map eShard))) rfl (v_load_dp1 rfl · · · onT22 rfl rfl) ?_
 refine sT 30 (iV (t0.mShards.length : Int)) rfl (w_len t0.mShards eShard rfl rfl · · · slT22 rfl) ?_
 refine sT 31 (bV (ltI t5 (t0.mShards.length : Int))) rfl (v_bin rfl · · · rfl rfl (b_lss rfl)) ?_
 refine sq_nil ?_
 refine ht_cond rfl (fun e24 => ?_) (fun e24 => ?_)
 ·replace h := cpos e24 h
  refine ht_skip ?_
  refine ht_seq ?_
  refine ht_block ?_
  refine ht_seq ?_
  refine ht_region_draw mixed ?_
  refine rT 34 (.d (.dp (eCell t0))) rfl (v_field_dp (a0 := 0) (cs := (eCell t0)) rfl · · · fo26_0 rfl) ?_
  refine rT 35 (.d (.sl 17 (t0.mShards.map eShard))) rfl (v_load_dp1 rfl · · · onT22 rfl rfl) ?_
  refine rM 36 (iV t5) rfl rfl ?_
  obtain ⟨e25, h⟩ := gpos h
  refine rT 37 (.d (.dp (eShard (rd t0.mShards t5)))) rfl (w_idx t0.mShards eShard rfl · · · slT22 rfl rfl e25) ?_
  refine rT 38 (.d (.agg (eShard (rd t0.mShards t5)))) rfl (w_ldp (eShard (rd t0.mShards t5)) (eShard (rd t0.mShards t5)) rfl · · · ag45 rfl (ble _ _ rfl) rfl) ?_
  refine rT 39 (.d (.dp (eCell t1))) rfl (v_field_dp (a0 := 0) (cs := (eCell t1)) rfl · · · fo26_0 rfl) ?_
  refine rT 40 (.d (.sl 17 (t1.mShards.map eShard))) rfl (v_load_dp1 rfl · · · onT22 rfl rfl) ?_
  refine rM 41 (iV t5) rfl rfl ?_
  obtain ⟨e26, h⟩ := gpos h
  refine rT 42 (.d (.dp (eShard (rd t1.mShards t5)))) rfl (w_idx t1.mShards eShard rfl · · · slT22 rfl rfl e26) ?_
  refine rT 43 (.d (.agg (eShard (rd t1.mShards t5)))) rfl (w_ldp (eShard (rd t1.mShards t5)) (eShard (rd t1.mShards t5)) rfl · · · ag45 rfl (ble _ _ rfl) rfl) ?_
  obtain ⟨t44, c27, h⟩ := bpos h
  refine rT 44 (bV t44) rfl (w_call (ds := [(.agg (eShard (rd t0.mShards t5))), (.agg (eShard (rd t1.mShards t5)))]) (caps := []) (l := [(.s (.bool t44))]) (s26 k (rd t0.mShards t5) (rd t1.mShards t5) _ c27) rfl rfl rfl en26 · · · (.inl ⟨rfl, rfl⟩) rfl rfl) ?_
  refine rT 45 (bV (!t44)) rfl (v_un rfl · · · rfl (u_not rfl)) ?_
  refine rg_nil ⟨by kernel_rfl, ?_⟩
  refine ht_cond rfl (fun e28 => ?_) (fun e28 => ?_)
  ·replace h := cpos e28 h
   refine sr ?_
   refine sM 4 (bV false) rfl rfl ?_
   refine sq_nil ?_
   refine ht_ret ?_
   cases h
   cases r20 _ rfl
   exact ret1 rfl (.tmp rfl)
  replace h := cneg e28 h
  refine ht_skip ?_
  refine ht_region ?_
  refine sM 32 (iV t5) rfl rfl ?_
  refine sT 33 (iV (IntKind.wrap .i64 (t5 + 1))) rfl (v_bin rfl · · · rfl rfl (b_add rfl)) ?_
  refine sM 5 (iV (IntKind.wrap .i64 (t5 + 1))) rfl rfl ?_
  refine sq_nil ?_
  exact j22 _ _ h (wk_ren _ (fun i => i) rfl ⟨rfl, rfl, rfl, trivial⟩)
 replace h := cneg e24 h
 refine ht_exit ?_
 refine tq ?_
 refine tq ?_
 refine bq_hit ?_
 cases h
 exact j19 _ _ rfl (wk_ren _ (fun i => i) rfl trivial)
theorem s6 (k : Nat) (t0 : Cell) (t1 : Int) (t2 : Int) (t3 : Int) (t4 : Stamp) (r : Bool) (h : F6 k t0 t1 t2 t3 t4 = some r) : Awp.Spec Tryz.prog amb 6 [(.agg (eCell t0)), (.s (.int .i64 t1)), (.s (.int .i64 t2)), (.s (.int .i64 t3)), (.agg (eStamp t4))] (.ds [(.s (.bool r))]) := by
 rw [F6] at h
 refine spec_of Tryz.func6 rfl (ble _ _ rfl) fun w0 ok0 lt0 hA => ?_
 refine sr ?_
 refine sT 5 (.d (.dp (eCell t0))) rfl (v_box_d (cs := (eCell t0)) rfl · · · rfl rfl (ones_of rfl)) ?_
 refine sT 9 (.d (.dp (eStamp t4))) rfl (v_box_d (cs := (eStamp t4)) rfl · · · rfl rfl (ones_of rfl)) ?_
 refine sM 10 (bV false) rfl rfl ?_
 refine sq_nil ?_
 refine ht_seq ?_
 refine sr ?_
 refine sT 19 (.d (.agg (eCell t0))) rfl (w_ldp (eCell t0) (eCell t0) rfl · · · ag26 rfl (ble _ _ rfl) rfl) ?_
 obtain ⟨t20, c1, h⟩ := bpos h
 refine sT 20 (bV t20) rfl (w_call (ds := [(.agg (eCell t0))]) (caps := []) (l := [(.s (.bool t20))]) (s14 k t0 _ c1) rfl rfl rfl en14 · · · (.inl ⟨rfl, rfl⟩) rfl rfl) ?_
 refine sT 21 (bV (!t20)) rfl (v_un rfl · · · rfl (u_not rfl)) ?_
 refine sq_nil ?_
 refine ht_cond rfl (fun e2 => ?_) (fun e2 => ?_)
 ·replace h := cpos e2 h
  refine sr ?_
  obtain ⟨t22, c3, h⟩ := bpos h
  refine sT 22 (bV t22) rfl (w_call (ds := []) (caps := []) (l := [(.s (.bool t22))]) (s15 k _ c3) rfl rfl rfl en15 · · · (.inl ⟨rfl, rfl⟩) rfl rfl) ?_
  refine sM 10 (bV t22) rfl rfl ?_
  refine sq_nil ?_
  refine ht_ret ?_
  cases h
  exact ret1 rfl (.tmp rfl)
 replace h := cneg e2 h
 refine ht_skip ?_
 refine sr ?_
 refine sT 24 (.d (.agg (eCell t0))) rfl (w_ldp (eCell t0) (eCell t0) rfl · · · ag26 rfl (ble _ _ rfl) rfl) ?_
 refine sM 25 (iV t1) rfl rfl ?_
 refine sM 26 (iV t2) rfl rfl ?_
 refine sM 27 (iV t3) rfl rfl ?_
 obtain ⟨⟨t28a, t28b⟩, c4, h⟩ := bpos h
 refine sT 28 (.tup [.d (.agg (eCell t28a)), bV t28b]) rfl (w_call (ds := [(.agg (eCell t0)), (.s (.int .i64 t1)), (.s (.int .i64 t2)), (.s (.int .i64 t3))]) (caps := []) (l := [(.agg (eCell t28a)), (.s (.bool t28b))]) (s30 k t0 t1 t2 t3 _ c4) rfl rfl rfl en30 · · · (.inl ⟨rfl, rfl⟩) rfl rfl) ?_
 refine sM 23 (.tup [.d (.agg (eCell t28a)), bV t28b]) rfl rfl ?_
 refine sT 29 (.d (.agg (eCell t28a))) rfl (v_extract rfl · · · rfl rfl) ?_
 refine sT 30 (bV t28b) rfl (v_extract rfl · · · rfl rfl) ?_
 refine sq_cons _ (v_alloc (id := 11) (cs := zc26) rfl trivial rfl (ble _ _ rfl) zu26 rfl ft26 rfl) ?_
 refine sq_cons _ (v_store_box (id := 11) (off := 0) (cs := (eCell t28a).map V.d) rfl trivial rfl sz26 rfl rfl rfl rfl (ones_of rfl) (ble _ _ rfl)) ?_
 refine sM 12 (bV t28b) rfl rfl ?_
 refine sq_nil ?_
 refine sr ?_
 refine sT 32 (.d (.agg (eCell t0))) rfl (w_ldp (eCell t0) (eCell t0) rfl · · · ag26 rfl (ble _ _ rfl) rfl) ?_
 refine sM 33 (iV t1) rfl rfl ?_
 refine sM 34 (iV t2) rfl rfl ?_
 refine sM 35 (iV t3) rfl rfl ?_
 obtain ⟨⟨t36a, t36b⟩, c5, h⟩ := bpos h
 refine sT 36 (.tup [.d (.agg (eCell t36a)), bV t36b]) rfl (w_call (ds := [(.agg (eCell t0)), (.s (.int .i64 t1)), (.s (.int .i64 t2)), (.s (.int .i64 t3))]) (caps := []) (l := [(.agg (eCell t36a)), (.s (.bool t36b))]) (s31 k t0 t1 t2 t3 _ c5) rfl rfl rfl en31 · · · (.inl ⟨rfl, rfl⟩) rfl rfl) ?_
 refine sM 31 (.tup [.d (.agg (eCell t36a)), bV t36b]) rfl rfl ?_
 refine sT 37 (.d (.agg (eCell t36a))) rfl (v_extract rfl · · · rfl rfl) ?_
 refine sT 38 (bV t36b) rfl (v_extract rfl · · · rfl rfl) ?_
 refine sq_cons _ (v_alloc (id := 13) (cs := zc26) rfl trivial rfl (ble _ _ rfl) zu26 rfl ft26 rfl) ?_
 refine sq_cons _ (v_store_box (id := 13) (off := 0) (cs := (eCell t36a).map V.d) rfl trivial rfl sz26 rfl rfl rfl rfl (ones_of rfl) (ble _ _ rfl)) ?_
 refine sM 14 (bV t36b) rfl rfl ?_
 refine sq_nil ?_
 refine sr ?_
 refine sT 40 (.d (.agg (eCell t0))) rfl (w_ldp (eCell t0) (eCell t0) rfl · · · ag26 rfl (ble _ _ rfl) rfl) ?_
 refine sM 41 (iV t1) rfl rfl ?_
 refine sM 42 (iV t3) rfl rfl ?_
 refine sT 43 (.d (.agg (eStamp t4))) rfl (w_ldp (eStamp t4) (eStamp t4) rfl · · · ag24 rfl (ble _ _ rfl) rfl) ?_
 obtain ⟨⟨t44a, t44b⟩, c6, h⟩ := bpos h
 refine sT 44 (.tup [.d (.agg (eCell t44a)), bV t44b]) rfl (w_call (ds := [(.agg (eCell t0)), (.s (.int .i64 t1)), (.s (.int .i64 t3)), (.agg (eStamp t4))]) (caps := []) (l := [(.agg (eCell t44a)), (.s (.bool t44b))]) (s32 k t0 t1 t3 t4 _ c6) rfl rfl rfl en32 · · · (.inl ⟨rfl, rfl⟩) rfl rfl) ?_
 refine sM 39 (.tup [.d (.agg (eCell t44a)), bV t44b]) rfl rfl ?_
 refine sT 45 (.d (.agg (eCell t44a))) rfl (v_extract rfl · · · rfl rfl) ?_
 refine sT 46 (bV t44b) rfl (v_extract rfl · · · rfl rfl) ?_
 refine sq_cons _ (v_alloc (id := 15) (cs := zc26) rfl trivial rfl (ble _ _ rfl) zu26 rfl ft26 rfl) ?_
 refine sq_cons _ (v_store_box (id := 15) (off := 0) (cs := (eCell t44a).map V.d) rfl trivial rfl sz26 rfl rfl rfl rfl (ones_of rfl) (ble _ _ rfl)) ?_
 refine sM 16 (bV t44b) rfl rfl ?_
 refine sq_nil ?_
 refine sr ?_
 refine sT 48 (.d (.agg (eCell t0))) rfl (w_ldp (eCell t0) (eCell t0) rfl · · · ag26 rfl (ble _ _ rfl) rfl) ?_
 refine sM 49 (iV t1) rfl rfl ?_
 refine sM 50 (iV t3) rfl rfl ?_
 refine sT 51 (.d (.agg (eStamp t4))) rfl (w_ldp (eStamp t4) (eStamp t4) rfl · · · ag24 rfl (ble _ _ rfl) rfl) ?_
 obtain ⟨⟨t52a, t52b⟩, c7, h⟩ := bpos h
 refine sT 52 (.tup [.d (.agg (eCell t52a)), bV t52b]) rfl (w_call (ds := [(.agg (eCell t0)), (.s (.int .i64 t1)), (.s (.int .i64 t3)), (.agg (eStamp t4))]) (caps := []) (l := [(.agg (eCell t52a)), (.s (.bool t52b))]) (s33 k t0 t1 t3 t4 _ c7) rfl rfl rfl en33 · · · (.inl ⟨rfl, rfl⟩) rfl rfl) ?_
 refine sM 47 (.tup [.d (.agg (eCell t52a)), bV t52b]) rfl rfl ?_
 refine sT 53 (.d (.agg (eCell t52a))) rfl (v_extract rfl · · · rfl rfl) ?_
 refine sT 54 (bV t52b) rfl (v_extract rfl · · · rfl rfl) ?_
 refine sq_cons _ (v_alloc (id := 17) (cs := zc26) rfl trivial rfl (ble _ _ rfl) zu26 rfl ft26 rfl) ?_
 refine sq_cons _ (v_store_box (id := 17) (off := 0) (cs := (eCell t52a).map V.d) rfl trivial rfl sz26 rfl rfl rfl rfl (ones_of rfl) (ble _ _ rfl)) ?_
 refine sM 18 (bV t52b) rfl rfl ?_
 refine sq_nil ?_
 refine sr ?_
 refine sT 55 (.d (.agg (eCell t28a))) rfl (w_ldb 11 0 rfl · · · ag26 rfl rfl (ble _ _ rfl) rfl) ?_
 refine sT 56 (.d (.agg (eCell t36a))) rfl (w_ldb 13 0 rfl · · · ag26 rfl rfl (ble _ _ rfl) rfl) ?_
 obtain ⟨t57, c8, h⟩ := bpos h
 refine sT 57 (bV t57) rfl (w_call (ds := [(.agg (eCell t28a)), (.agg (eCell t36a))]) (caps := []) (l := [(.s (.bool t57))]) (s18 k t28a t36a _ c8) rfl rfl rfl en18 · · · (.inl ⟨rfl, rfl⟩) rfl rfl) ?_
 refine sM 58 (bV t57) rfl rfl ?_
 refine sG 59 (bV t28b) rfl rfl (fun e9 => (v_move (.inl rfl) · · · rfl)) ?_
 refine sG 60 (bV t36b) rfl rfl (fun e10 => (v_move (.inl rfl) · · · rfl)) ?_
 refine sG 61 (bV (t28b == t36b)) rfl rfl (fun e11 => (v_bin rfl · · · (gv e11) (gv e11) (b_eqB und4 rfl))) ?_
 refine sT 62 (bV (t57 && (t28b == t36b))) rfl (v_pickB rfl · · · rfl (fun e12 => (gv e12)) (fun e13 => rfl) (pA _ _)) ?_
 refine sM 63 (bV (t57 && (t28b == t36b))) rfl rfl ?_
 refine sG 64 (.d (.agg (eCell t44a))) rfl rfl (fun e14 => (w_ldb 15 0 rfl · · · ag26 rfl rfl (ble _ _ rfl) rfl)) ?_
 refine sG 65 (.d (.agg (eCell t52a))) rfl rfl (fun e15 => (w_ldb 17 0 rfl · · · ag26 rfl rfl (ble _ _ rfl) rfl)) ?_
 obtain ⟨t66, c17, h⟩ := bpos h
 refine sG 66 (bV t66) rfl rfl (fun e16 => (w_call (ds := [(.agg (eCell t44a)), (.agg (eCell t52a))]) (caps := []) (l := [(.s (.bool t66))]) (s18 k t44a t52a _ (cpos e16 c17)) rfl rfl rfl en18 · · · (.inl ⟨rfl, rfl⟩) (cc (gv e16) (cc (gv e16) rfl)) rfl)) ?_
 refine sT 67 (bV ((t57 && (t28b == t36b)) && t66)) rfl (v_pickB rfl · · · rfl (fun e18 => (gv e18)) (fun e19 => rfl) (pA _ _)) ?_
 refine sM 68 (bV ((t57 && (t28b == t36b)) && t66)) rfl rfl ?_
 refine sG 69 (bV t44b) rfl rfl (fun e20 => (v_move (.inl rfl) · · · rfl)) ?_
 refine sG 70 (bV t52b) rfl rfl (fun e21 => (v_move (.inl rfl) · · · rfl)) ?_
 refine sG 71 (bV (t44b == t52b)) rfl rfl (fun e22 => (v_bin rfl · · · (gv e22) (gv e22) (b_eqB und4 rfl))) ?_
 refine sT 72 (bV (((t57 && (t28b == t36b)) && t66) && (t44b == t52b))) rfl (v_pickB rfl · · · rfl (fun e23 => (gv e23)) (fun e24 => rfl) (pA _ _)) ?_
 refine sM 73 (bV (((t57 && (t28b == t36b)) && t66) && (t44b == t52b))) rfl rfl ?_
 obtain ⟨t74, c26, h⟩ := bpos h
 refine sG 74 (bV t74) rfl rfl (fun e25 => (w_call (ds := []) (caps := []) (l := [(.s (.bool t74))]) (s15 k _ (cpos e25 c26)) rfl rfl rfl en15 · · · (.inl ⟨rfl, rfl⟩) rfl rfl)) ?_
 refine sT 75 (bV ((((t57 && (t28b == t36b)) && t66) && (t44b == t52b)) && t74)) rfl (v_pickB rfl · · · rfl (fun e27 => (gv e27)) (fun e28 => rfl) (pA _ _)) ?_
 refine sM 10 (bV ((((t57 && (t28b == t36b)) && t66) && (t44b == t52b)) && t74)) rfl rfl ?_
 refine sq_nil ?_
 refine ht_ret ?_
 cases h
 exact ret1 rfl (.tmp rfl)
end Go.Proofs.Gd
