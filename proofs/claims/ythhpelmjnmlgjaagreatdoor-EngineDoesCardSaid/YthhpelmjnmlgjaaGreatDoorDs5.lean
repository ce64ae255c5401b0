/- Lemmas behind GdDsP, part 5: they hold as they stand, without a condition beyond their own. -/
import Derived.Test.YthhpelmjnmlgjaaGreatDoorDs4
set_option linter.unusedVariables false
set_option maxRecDepth 100000
set_option maxHeartbeats 4000000
namespace Go.Proofs.Gd
open Go Go.Awp Go.Proofs
theorem s87 (k : Nat) (t0 : List Done) (r : Bool) (h : F87 k t0 = some r) : Awp.Spec Tryz.prog amb 87 [(.sl 11 (t0.map eDone))] (.ds [(.s (.bool r))]) := by
 rw [F87] at h
 refine spec_of Tryz.func87 rfl (ble _ _ rfl) fun w0 ok0 lt0 hA => ?_
 refine sr ?_
 refine sM 2 (bV false) rfl rfl ?_
 refine sq_nil ?_
 refine ht_seq ?_
 refine sr ?_
 refine sM 4 (.d (.sl 11 (t0.map eDone))) rfl rfl ?_
 refine sT 5 (iV (t0.length : Int)) rfl (w_len t0 eDone rfl rfl · · · slT43 rfl) ?_
 refine sT 6 (bV (ltI 8 (t0.length : Int))) rfl (v_bin rfl · · · rfl rfl (b_gtr rfl)) ?_
 refine sq_nil ?_
 refine ht_cond rfl (fun e1 => ?_) (fun e1 => ?_)
 ·replace h := cpos e1 h
  refine sr ?_
  refine sM 2 (bV false) rfl rfl ?_
  refine sq_nil ?_
  refine ht_ret ?_
  cases h
  exact ret1 rfl (.tmp rfl)
 replace h := cneg e1 h
 refine ht_skip ?_
 refine ht_gj (go_id' h) (fun _ => tell []) (fun _ h => ?_) (fun v2 K3 h j5 r6 => ?_)
 ·refine sr ?_
  refine sM 2 (bV true) rfl rfl ?_
  refine sq_nil ?_
  refine ht_ret ?_
  cases h
  exact ret1 rfl (.tmp rfl)
 refine sr ?_
 refine sM 3 (iV 0) rfl rfl ?_
 refine sq_nil ?_
 refine ht_block ?_
 refine ht_rd h (fun _ => rfl) (fun t3 => tell [(.t 0, .d (.sl 11 (t0.map eDone))), (.t 3, iV t3)]) (wk_ren _ (fun i => i) rfl ⟨rfl, rfl, trivial⟩) fun k t3 h K53 j8 => ?_
 rw [F87_l1] at h
 refine ht_seq ?_
 refine sr ?_
 refine sM 7 (iV t3) rfl rfl ?_
 refine sM 8 (.d (.sl 11 (t0.map eDone))) rfl rfl ?_
 refine sT 9 (iV (t0.length : Int)) rfl (w_len t0 eDone rfl rfl · · · slT43 rfl) ?_
 refine sT 10 (bV (ltI t3 (t0.length : Int))) rfl (v_bin rfl · · · rfl rfl (b_lss rfl)) ?_
 refine sq_nil ?_
 refine ht_cond rfl (fun e10 => ?_) (fun e10 => ?_)
 ·replace h := cpos e10 h
  refine ht_skip ?_
  refine ht_seq ?_
  refine ht_block ?_
  refine ht_seq ?_
  refine sr ?_
  refine sM 13 (.d (.sl 11 (t0.map eDone))) rfl rfl ?_
  refine sM 14 (iV t3) rfl rfl ?_
  obtain ⟨e11, h⟩ := gpos h
  refine sT 15 (.d (.dp (eDone (rd t0 t3)))) rfl (w_idx t0 eDone rfl · · · slT43 rfl rfl e11) ?_
  refine sT 16 (.d (.dp (eDone (rd t0 t3)))) rfl (v_field_dp (a0 := 0) (cs := (eDone (rd t0 t3))) rfl · · · fo100_0 rfl) ?_
  refine sT 17 (iV (rd t0 t3).mClient) rfl (v_load_dp1 rfl · · · onT3 rfl rfl) ?_
  obtain ⟨t18, c12, h⟩ := bpos h
  refine sT 18 (bV t18) rfl (w_call (ds := [(.s (.int .i64 (rd t0 t3).mClient))]) (caps := []) (l := [(.s (.bool t18))]) (s140 k (rd t0 t3).mClient _ c12) rfl rfl rfl en140 · · · (.inl ⟨rfl, rfl⟩) rfl rfl) ?_
  refine sT 19 (bV (!t18)) rfl (v_un rfl · · · rfl (u_not rfl)) ?_
  refine sM 20 (bV (!t18)) rfl rfl ?_
  refine sF 21 (.d (.sl 11 (t0.map eDone))) rfl rfl (fun e13 => (v_move (.inl rfl) · · · rfl)) ?_
  refine sF 22 (iV t3) rfl rfl (fun e14 => (v_move (.inl rfl) · · · rfl)) ?_
  obtain ⟨e16, h⟩ := gpos h
  refine sF 23 (.d (.dp (eDone (rd t0 t3)))) rfl rfl (fun e15 => (w_idx t0 eDone rfl · · · slT43 (gv (nF e15)) (gv (nF e15)) (orT e16 (nF e15)))) ?_
  refine sF 24 (.d (.dp (List.drop 1 (eDone (rd t0 t3))))) rfl rfl (fun e17 => (v_field_dp (a0 := 1) (cs := (eDone (rd t0 t3))) rfl · · · fo100_1 (gv (nF e17)))) ?_
  refine sF 25 (iV (rd t0 t3).mReq) rfl rfl (fun e18 => (v_load_dp1 rfl · · · onT3 (gv (nF e18)) rfl)) ?_
  obtain ⟨t26, c20, h⟩ := bpos h
  refine sF 26 (bV t26) rfl rfl (fun e19 => (w_call (ds := [(.s (.int .i64 (rd t0 t3).mReq))]) (caps := []) (l := [(.s (.bool t26))]) (s140 k (rd t0 t3).mReq _ (cpos (nF e19) c20)) rfl rfl rfl en140 · · · (.inl ⟨rfl, rfl⟩) (cc (gv (nF e19)) rfl) rfl)) ?_
  refine sF 27 (bV (!t26)) rfl rfl (fun e21 => (v_un rfl · · · (gv (nF e21)) (u_not rfl))) ?_
  refine sT 28 (bV ((!t18) || (!t26))) rfl (v_pickB rfl · · · rfl (fun e22 => rfl) (fun e23 => (gv (nF e23))) (pO _ _)) ?_
  refine sM 29 (bV ((!t18) || (!t26))) rfl rfl ?_
  refine sF 30 (.d (.sl 11 (t0.map eDone))) rfl rfl (fun e24 => (v_move (.inl rfl) · · · rfl)) ?_
  refine sF 31 (iV t3) rfl rfl (fun e25 => (v_move (.inl rfl) · · · rfl)) ?_
  obtain ⟨e27, h⟩ := gpos h
  refine sF 32 (.d (.dp (eDone (rd t0 t3)))) rfl rfl (fun e26 => (w_idx t0 eDone rfl · · · slT43 (gv (nF e26)) (gv (nF e26)) (orT e27 (nF e26)))) ?_
  refine sF 33 (.d (.dp (List.drop 2 (eDone (rd t0 t3))))) rfl rfl (fun e28 => (v_field_dp (a0 := 2) (cs := (eDone (rd t0 t3))) rfl · · · fo100_2 (gv (nF e28)))) ?_
  refine sF 34 (.d (.agg (eAnswer (rd t0 t3).mAnswer))) rfl rfl (fun e29 => (w_ldp (List.drop 2 (eDone (rd t0 t3))) (eAnswer (rd t0 t3).mAnswer) rfl · · · ag34 (gv (nF e29)) (ble _ _ rfl) rfl)) ?_
  obtain ⟨t35, c31, h⟩ := bpos h
  refine sF 35 (bV t35) rfl rfl (fun e30 => (w_call (ds := [(.agg (eAnswer (rd t0 t3).mAnswer))]) (caps := []) (l := [(.s (.bool t35))]) (s141 k (rd t0 t3).mAnswer _ (cpos (nF e30) c31)) rfl rfl rfl en141 · · · (.inl ⟨rfl, rfl⟩) (cc (gv (nF e30)) rfl) rfl)) ?_
  refine sF 36 (bV (!t35)) rfl rfl (fun e32 => (v_un rfl · · · (gv (nF e32)) (u_not rfl))) ?_
  refine sT 37 (bV (((!t18) || (!t26)) || (!t35))) rfl (v_pickB rfl · · · rfl (fun e33 => rfl) (fun e34 => (gv (nF e34))) (pO _ _)) ?_
  refine sq_nil ?_
  refine ht_cond rfl (fun e35 => ?_) (fun e35 => ?_)
  ·replace h := cpos e35 h
   refine sr ?_
   refine sM 2 (bV false) rfl rfl ?_
   refine sq_nil ?_
   refine ht_ret ?_
   cases h
   cases r6 _ rfl
   exact ret1 rfl (.tmp rfl)
  replace h := cneg e35 h
  refine ht_skip ?_
  refine ht_seq ?_
  refine ht_region_draw mixed ?_
  refine rM 38 (iV t3) rfl rfl ?_
  refine rT 39 (bV (ltI 0 t3)) rfl (v_bin rfl · · · rfl rfl (b_gtr rfl)) ?_
  refine rM 40 (bV (ltI 0 t3)) rfl rfl ?_
  refine rG 41 (.d (.sl 11 (t0.map eDone))) rfl rfl (fun e36 => (v_move (.inl rfl) · · · rfl)) ?_
  refine rG 42 (iV t3) rfl rfl (fun e37 => (v_move (.inl rfl) · · · rfl)) ?_
  refine rG 43 (iV (IntKind.wrap .i64 (t3 - 1))) rfl rfl (fun e38 => (v_bin rfl · · · (gv e38) rfl (b_sub rfl))) ?_
  obtain ⟨e40, h⟩ := gpos h
  refine rG 44 (.d (.dp (eDone (rd t0 (IntKind.wrap .i64 (t3 - 1)))))) rfl rfl (fun e39 => (w_idx t0 eDone rfl · · · slT43 (gv e39) (gv e39) (orT e40 e39))) ?_
  refine rG 45 (.d (.dp (eDone (rd t0 (IntKind.wrap .i64 (t3 - 1)))))) rfl rfl (fun e41 => (v_field_dp (a0 := 0) (cs := (eDone (rd t0 (IntKind.wrap .i64 (t3 - 1))))) rfl · · · fo100_0 (gv e41))) ?_
  refine rG 46 (iV (rd t0 (IntKind.wrap .i64 (t3 - 1))).mClient) rfl rfl (fun e42 => (v_load_dp1 rfl · · · onT3 (gv e42) rfl)) ?_
  refine rG 47 (.d (.sl 11 (t0.map eDone))) rfl rfl (fun e43 => (v_move (.inl rfl) · · · rfl)) ?_
  refine rG 48 (iV t3) rfl rfl (fun e44 => (v_move (.inl rfl) · · · rfl)) ?_
  obtain ⟨e46, h⟩ := gpos h
  refine rG 49 (.d (.dp (eDone (rd t0 t3)))) rfl rfl (fun e45 => (w_idx t0 eDone rfl · · · slT43 (gv e45) (gv e45) (orT e46 e45))) ?_
  refine rG 50 (.d (.dp (eDone (rd t0 t3)))) rfl rfl (fun e47 => (v_field_dp (a0 := 0) (cs := (eDone (rd t0 t3))) rfl · · · fo100_0 (gv e47))) ?_
  refine rG 51 (iV (rd t0 t3).mClient) rfl rfl (fun e48 => (v_load_dp1 rfl · · · onT3 (gv e48) rfl)) ?_
  refine rG 52 (bV (leI (rd t0 t3).mClient (rd t0 (IntKind.wrap .i64 (t3 - 1))).mClient)) rfl rfl (fun e49 => (v_bin rfl · · · (gv e49) (gv e49) (b_geq rfl))) ?_
  refine rT 53 (bV ((ltI 0 t3) && (leI (rd t0 t3).mClient (rd t0 (IntKind.wrap .i64 (t3 - 1))).mClient))) rfl (v_pickB rfl · · · rfl (fun e50 => (gv e50)) (fun e51 => rfl) (pA _ _)) ?_
  refine rg_nil ⟨by kernel_rfl, ?_⟩
  refine ht_cond rfl (fun e52 => ?_) (fun e52 => ?_)
  ·replace h := cpos e52 h
   refine sr ?_
   refine sM 2 (bV false) rfl rfl ?_
   refine sq_nil ?_
   refine ht_ret ?_
   cases h
   cases r6 _ rfl
   exact ret1 rfl (.tmp rfl)
  replace h := cneg e52 h
  refine ht_skip ?_
  refine ht_region ?_
  refine sM 11 (iV t3) rfl rfl ?_
  refine sT 12 (iV (IntKind.wrap .i64 (t3 + 1))) rfl (v_bin rfl · · · rfl rfl (b_add rfl)) ?_
  refine sM 3 (iV (IntKind.wrap .i64 (t3 + 1))) rfl rfl ?_
  refine sq_nil ?_
  exact j8 _ _ h (wk_ren _ (fun i => i) rfl ⟨rfl, rfl, trivial⟩)
 replace h := cneg e10 h
 refine ht_exit ?_
 refine tq ?_
 refine tq ?_
 refine bq_hit ?_
 cases h
 exact j5 _ _ rfl (wk_ren _ (fun i => i) rfl trivial)
theorem s55 (k : Nat) (t0 : ByteArray) (t1 : ByteArray) (t2 : ByteArray) (r : Bool) (h : F55 k t0 t1 t2 = some r) : Awp.Spec Tryz.prog amb 55 [(.s (.string t0)), (.s (.string t1)), (.s (.string t2))] (.ds [(.s (.bool r))]) := by
 rw [F55] at h
 refine spec_of Tryz.func55 rfl (ble _ _ rfl) fun w0 ok0 lt0 hA => ?_
 refine sr ?_
 refine sM 6 (bV false) rfl rfl ?_
 refine sq_nil ?_
 refine sr ?_
 refine sM 7 (sV t0) rfl rfl ?_
 refine sM 8 (sV t1) rfl rfl ?_
 obtain ⟨t9, c1, h⟩ := bpos h
 refine sT 9 (iV t9) rfl (w_call (ds := [(.s (.string t0)), (.s (.string t1))]) (caps := []) (l := [(.s (.int .i64 t9))]) (s119 k t0 t1 _ c1) rfl rfl rfl en119 · · · (.inl ⟨rfl, rfl⟩) rfl rfl) ?_
 refine sT 10 (bV (leI 0 t9)) rfl (v_bin rfl · · · rfl rfl (b_geq rfl)) ?_
 refine sM 11 (bV (leI 0 t9)) rfl rfl ?_
 refine sG 12 (sV t2) rfl rfl (fun e2 => (v_move (.inl rfl) · · · rfl)) ?_
 refine sG 13 (iV (t2.size : Int)) rfl rfl (fun e3 => (v_len_str rfl rfl · · · und9 (gv e3))) ?_
 refine sG 14 (bV (eqI (t2.size : Int) 0)) rfl rfl (fun e4 => (v_bin rfl · · · (gv e4) rfl (b_eql rfl))) ?_
 refine sG 15 (bV (eqI (t2.size : Int) 0)) rfl rfl (fun e5 => (v_move (.inl rfl) · · · (gv e5))) ?_
 refine sH 16 (sV t0) rfl rfl (fun e6 e7 => (v_move (.inl rfl) · · · rfl)) ?_
 refine sH 17 (sV t2) rfl rfl (fun e8 e9 => (v_move (.inl rfl) · · · rfl)) ?_
 obtain ⟨t18, c12, h⟩ := bpos h
 refine sH 18 (iV t18) rfl rfl (fun e10 e11 => (w_call (ds := [(.s (.string t0)), (.s (.string t2))]) (caps := []) (l := [(.s (.int .i64 t18))]) (s119 k t0 t2 _ (cpos (aT e10 (nF e11)) c12)) rfl rfl rfl en119 · · · (.inl ⟨rfl, rfl⟩) (cc (gv (aT e10 (nF e11))) (cc (gv (aT e10 (nF e11))) rfl)) rfl)) ?_
 refine sH 19 (bV (ltI t18 0)) rfl rfl (fun e13 e14 => (v_bin rfl · · · (gv (aT e13 (nF e14))) rfl (b_lss rfl))) ?_
 refine sG 20 (bV ((eqI (t2.size : Int) 0) || (ltI t18 0))) rfl rfl (fun e15 => (v_pickB rfl · · · (gv e15) (fun e16 => rfl) (fun e17 => (gv (aT e15 (nF e17)))) (pO _ _))) ?_
 refine sT 21 (bV ((leI 0 t9) && ((eqI (t2.size : Int) 0) || (ltI t18 0)))) rfl (v_pickB rfl · · · rfl (fun e18 => (gv e18)) (fun e19 => rfl) (pA _ _)) ?_
 refine sM 6 (bV ((leI 0 t9) && ((eqI (t2.size : Int) 0) || (ltI t18 0)))) rfl rfl ?_
 refine sq_nil ?_
 refine ht_ret ?_
 cases h
 exact ret1 rfl (.tmp rfl)
theorem s88 (k : Nat) (t0 : Span) (t1 : ByteArray) (r : Bool) (h : F88 k t0 t1 = some r) : Awp.Spec Tryz.prog amb 88 [(.agg (eSpan t0)), (.s (.string t1))] (.ds [(.s (.bool r))]) := by
 rw [F88] at h
 refine spec_of Tryz.func88 rfl (ble _ _ rfl) fun w0 ok0 lt0 hA => ?_
 refine sr ?_
 refine sT 2 (.d (.dp (eSpan t0))) rfl (v_box_d (cs := (eSpan t0)) rfl · · · rfl rfl (ones_of rfl)) ?_
 refine sM 4 (bV false) rfl rfl ?_
 refine sq_nil ?_
 refine sr ?_
 refine sT 5 (.d (.agg (eSpan t0))) rfl (w_ldp (eSpan t0) (eSpan t0) rfl · · · ag41 rfl (ble _ _ rfl) rfl) ?_
 obtain ⟨t6, c1, h⟩ := bpos h
 refine sT 6 (bV t6) rfl (w_call (ds := [(.agg (eSpan t0))]) (caps := []) (l := [(.s (.bool t6))]) (s85 k t0 _ c1) rfl rfl rfl en85 · · · (.inl ⟨rfl, rfl⟩) rfl rfl) ?_
 refine sM 7 (bV t6) rfl rfl ?_
 refine sG 8 (sV t1) rfl rfl (fun e2 => (v_move (.inl rfl) · · · rfl)) ?_
 obtain ⟨t9, c4, h⟩ := bpos h
 refine sG 9 (bV t9) rfl rfl (fun e3 => (w_call (ds := [(.s (.string t1))]) (caps := []) (l := [(.s (.bool t9))]) (s130 k t1 _ (cpos e3 c4)) rfl rfl rfl en130 · · · (.inl ⟨rfl, rfl⟩) (cc (gv e3) rfl) rfl)) ?_
 refine sT 10 (bV (t6 && t9)) rfl (v_pickB rfl · · · rfl (fun e5 => (gv e5)) (fun e6 => rfl) (pA _ _)) ?_
 refine sM 11 (bV (t6 && t9)) rfl rfl ?_
 refine sG 12 (sV t1) rfl rfl (fun e7 => (v_move (.inl rfl) · · · rfl)) ?_
 refine sG 13 (.d (.dp (eSpan t0))) rfl rfl (fun e8 => (v_field_dp (a0 := 0) (cs := (eSpan t0)) rfl · · · fo41_0 rfl)) ?_
 refine sG 14 (sV t0.mLo) rfl rfl (fun e9 => (v_load_dp1 rfl · · · onT9 (gv e9) rfl)) ?_
 refine sG 15 (.d (.dp (List.drop 1 (eSpan t0)))) rfl rfl (fun e10 => (v_field_dp (a0 := 1) (cs := (eSpan t0)) rfl · · · fo41_1 rfl)) ?_
 refine sG 16 (sV t0.mHi) rfl rfl (fun e11 => (v_load_dp1 rfl · · · onT9 (gv e11) rfl)) ?_
 obtain ⟨t17, c13, h⟩ := bpos h
 refine sG 17 (bV t17) rfl rfl (fun e12 => (w_call (ds := [(.s (.string t1)), (.s (.string t0.mLo)), (.s (.string t0.mHi))]) (caps := []) (l := [(.s (.bool t17))]) (s55 k t1 t0.mLo t0.mHi _ (cpos e12 c13)) rfl rfl rfl en55 · · · (.inl ⟨rfl, rfl⟩) (cc (gv e12) (cc (gv e12) (cc (gv e12) rfl))) rfl)) ?_
 refine sT 18 (bV ((t6 && t9) && t17)) rfl (v_pickB rfl · · · rfl (fun e14 => (gv e14)) (fun e15 => rfl) (pA _ _)) ?_
 refine sM 4 (bV ((t6 && t9) && t17)) rfl rfl ?_
 refine sq_nil ?_
 refine ht_ret ?_
 cases h
 exact ret1 rfl (.tmp rfl)
theorem s21 (k : Nat) (t0 : Shard) (r : Bool) (h : F21 k t0 = some r) : Awp.Spec Tryz.prog amb 21 [(.agg (eShard t0))] (.ds [(.s (.bool r))]) := by
 rw [F21] at h
 refine spec_of Tryz.func21 rfl (ble _ _ rfl) fun w0 ok0 lt0 hA => ?_
 refine sr ?_
 refine sT 1 (.d (.dp (eShard t0))) rfl (v_box_d (cs := (eShard t0)) rfl · · · rfl rfl (ones_of rfl)) ?_
 refine sM 2 (bV false) rfl rfl ?_
 refine sq_nil ?_
 refine ht_seq ?_
 refine sr ?_
 refine sT 4 (.d (.dp (eShard t0))) rfl (v_field_dp (a0 := 0) (cs := (eShard t0)) rfl · · · fo45_0 rfl) ?_
 refine sT 5 (iV t0.mID) rfl (v_load_dp1 rfl · · · onT3 rfl rfl) ?_
 obtain ⟨t6, c1, h⟩ := bpos h
 refine sT 6 (bV t6) rfl (w_call (ds := [(.s (.int .i64 t0.mID))]) (caps := []) (l := [(.s (.bool t6))]) (s66 k t0.mID _ c1) rfl rfl rfl en66 · · · (.inl ⟨rfl, rfl⟩) rfl rfl) ?_
 refine sT 7 (bV (!t6)) rfl (v_un rfl · · · rfl (u_not rfl)) ?_
 refine sM 8 (bV (!t6)) rfl rfl ?_
 refine sF 9 (.d (.dp (List.drop 1 (eShard t0)))) rfl rfl (fun e2 => (v_field_dp (a0 := 1) (cs := (eShard t0)) rfl · · · fo45_1 rfl)) ?_
 refine sF 10 (iV t0.mEpoch) rfl rfl (fun e3 => (v_load_dp1 rfl · · · onT3 (gv (nF e3)) rfl)) ?_
 obtain ⟨t11, c5, h⟩ := bpos h
 refine sF 11 (bV t11) rfl rfl (fun e4 => (w_call (ds := [(.s (.int .i64 t0.mEpoch))]) (caps := []) (l := [(.s (.bool t11))]) (s66 k t0.mEpoch _ (cpos (nF e4) c5)) rfl rfl rfl en66 · · · (.inl ⟨rfl, rfl⟩) (cc (gv (nF e4)) rfl) rfl)) ?_
 refine sF 12 (bV (!t11)) rfl rfl (fun e6 => (v_un rfl · · · (gv (nF e6)) (u_not rfl))) ?_
 refine sT 13 (bV ((!t6) || (!t11))) rfl (v_pickB rfl · · · rfl (fun e7 => rfl) (fun e8 => (gv (nF e8))) (pO _ _)) ?_
 refine sM 14 (bV ((!t6) || (!t11))) rfl rfl ?_
 refine sF 15 (.d (.dp (List.drop 13 (eShard t0)))) rfl rfl (fun e9 => (v_field_dp (a0 := 13) (cs := (eShard t0)) rfl · · · fo45_8 rfl)) ?_
 refine sF 16 (iV t0.mHold) rfl rfl (fun e10 => (v_load_dp1 rfl · · · onT3 (gv (nF e10)) rfl)) ?_
 obtain ⟨t17, c12, h⟩ := bpos h
 refine sF 17 (bV t17) rfl rfl (fun e11 => (w_call (ds := [(.s (.int .i64 t0.mHold))]) (caps := []) (l := [(.s (.bool t17))]) (s67 k t0.mHold _ (cpos (nF e11) c12)) rfl rfl rfl en67 · · · (.inl ⟨rfl, rfl⟩) (cc (gv (nF e11)) rfl) rfl)) ?_
 refine sF 18 (bV (!t17)) rfl rfl (fun e13 => (v_un rfl · · · (gv (nF e13)) (u_not rfl))) ?_
 refine sT 19 (bV (((!t6) || (!t11)) || (!t17))) rfl (v_pickB rfl · · · rfl (fun e14 => rfl) (fun e15 => (gv (nF e15))) (pO _ _)) ?_
 refine sM 20 (bV (((!t6) || (!t11)) || (!t17))) rfl rfl ?_
 refine sF 21 (.d (.dp (List.drop 14 (eShard t0)))) rfl rfl (fun e16 => (v_field_dp (a0 := 14) (cs := (eShard t0)) rfl · · · fo45_9 rfl)) ?_
 refine sF 22 (iV t0.mSeen) rfl rfl (fun e17 => (v_load_dp1 rfl · · · onT3 (gv (nF e17)) rfl)) ?_
 obtain ⟨t23, c19, h⟩ := bpos h
 refine sF 23 (bV t23) rfl rfl (fun e18 => (w_call (ds := [(.s (.int .i64 t0.mSeen))]) (caps := []) (l := [(.s (.bool t23))]) (s67 k t0.mSeen _ (cpos (nF e18) c19)) rfl rfl rfl en67 · · · (.inl ⟨rfl, rfl⟩) (cc (gv (nF e18)) rfl) rfl)) ?_
 refine sF 24 (bV (!t23)) rfl rfl (fun e20 => (v_un rfl · · · (gv (nF e20)) (u_not rfl))) ?_
 refine sT 25 (bV ((((!t6) || (!t11)) || (!t17)) || (!t23))) rfl (v_pickB rfl · · · rfl (fun e21 => rfl) (fun e22 => (gv (nF e22))) (pO _ _)) ?_
 refine sM 26 (bV ((((!t6) || (!t11)) || (!t17)) || (!t23))) rfl rfl ?_
 refine sF 27 (.d (.dp (List.drop 15 (eShard t0)))) rfl rfl (fun e23 => (v_field_dp (a0 := 15) (cs := (eShard t0)) rfl · · · fo45_10 rfl)) ?_
 refine sF 28 (iV t0.mMove) rfl rfl (fun e24 => (v_load_dp1 rfl · · · onT3 (gv (nF e24)) rfl)) ?_
 obtain ⟨t29, c26, h⟩ := bpos h
 refine sF 29 (bV t29) rfl rfl (fun e25 => (w_call (ds := [(.s (.int .i64 t0.mMove))]) (caps := []) (l := [(.s (.bool t29))]) (s67 k t0.mMove _ (cpos (nF e25) c26)) rfl rfl rfl en67 · · · (.inl ⟨rfl, rfl⟩) (cc (gv (nF e25)) rfl) rfl)) ?_
 refine sF 30 (bV (!t29)) rfl rfl (fun e27 => (v_un rfl · · · (gv (nF e27)) (u_not rfl))) ?_
 refine sT 31 (bV (((((!t6) || (!t11)) || (!t17)) || (!t23)) || (!t29))) rfl (v_pickB rfl · · · rfl (fun e28 => rfl) (fun e29 => (gv (nF e29))) (pO _ _)) ?_
 refine sM 32 (bV (((((!t6) || (!t11)) || (!t17)) || (!t23)) || (!t29))) rfl rfl ?_
 refine sF 33 (.d (.dp (List.drop 16 (eShard t0)))) rfl rfl (fun e30 => (v_field_dp (a0 := 16) (cs := (eShard t0)) rfl · · · fo45_11 rfl)) ?_
 refine sF 34 (iV t0.mClosed) rfl rfl (fun e31 => (v_load_dp1 rfl · · · onT3 (gv (nF e31)) rfl)) ?_
 obtain ⟨t35, c33, h⟩ := bpos h
 refine sF 35 (bV t35) rfl rfl (fun e32 => (w_call (ds := [(.s (.int .i64 t0.mClosed))]) (caps := []) (l := [(.s (.bool t35))]) (s67 k t0.mClosed _ (cpos (nF e32) c33)) rfl rfl rfl en67 · · · (.inl ⟨rfl, rfl⟩) (cc (gv (nF e32)) rfl) rfl)) ?_
 refine sF 36 (bV (!t35)) rfl rfl (fun e34 => (v_un rfl · · · (gv (nF e34)) (u_not rfl))) ?_
 refine sT 37 (bV ((((((!t6) || (!t11)) || (!t17)) || (!t23)) || (!t29)) || (!t35))) rfl (v_pickB rfl · · · rfl (fun e35 => rfl) (fun e36 => (gv (nF e36))) (pO _ _)) ?_
 refine sq_nil ?_
 refine ht_cond rfl (fun e37 => ?_) (fun e37 => ?_)
 ·replace h := cpos e37 h
  refine sr ?_
  refine sM 2 (bV false) rfl rfl ?_
  refine sq_nil ?_
  refine ht_ret ?_
  cases h
  exact ret1 rfl (.tmp rfl)
 replace h := cneg e37 h
 refine ht_skip ?_
 refine ht_seq ?_
 refine sr ?_
 refine sT 38 (.d (.dp (List.drop 4 (eShard t0)))) rfl (v_field_dp (a0 := 4) (cs := (eShard t0)) rfl · · · fo45_3 rfl) ?_
 refine sT 39 (iV t0.mPhase) rfl (v_load_dp1 rfl · · · onT3 rfl rfl) ?_
 refine sT 40 (bV (!eqI t0.mPhase 1)) rfl (v_bin rfl · · · rfl rfl (b_neq rfl)) ?_
 refine sM 41 (bV (!eqI t0.mPhase 1)) rfl rfl ?_
 refine sG 42 (.d (.dp (List.drop 4 (eShard t0)))) rfl rfl (fun e38 => (v_field_dp (a0 := 4) (cs := (eShard t0)) rfl · · · fo45_3 rfl)) ?_
 refine sG 43 (iV t0.mPhase) rfl rfl (fun e39 => (v_load_dp1 rfl · · · onT3 (gv e39) rfl)) ?_
 refine sG 44 (bV (!eqI t0.mPhase 2)) rfl rfl (fun e40 => (v_bin rfl · · · (gv e40) rfl (b_neq rfl))) ?_
 refine sT 45 (bV ((!eqI t0.mPhase 1) && (!eqI t0.mPhase 2))) rfl (v_pickB rfl · · · rfl (fun e41 => (gv e41)) (fun e42 => rfl) (pA _ _)) ?_
 refine sM 46 (bV ((!eqI t0.mPhase 1) && (!eqI t0.mPhase 2))) rfl rfl ?_
 refine sG 47 (.d (.dp (List.drop 4 (eShard t0)))) rfl rfl (fun e43 => (v_field_dp (a0 := 4) (cs := (eShard t0)) rfl · · · fo45_3 rfl)) ?_
 refine sG 48 (iV t0.mPhase) rfl rfl (fun e44 => (v_load_dp1 rfl · · · onT3 (gv e44) rfl)) ?_
 refine sG 49 (bV (!eqI t0.mPhase 3)) rfl rfl (fun e45 => (v_bin rfl · · · (gv e45) rfl (b_neq rfl))) ?_
 refine sT 50 (bV (((!eqI t0.mPhase 1) && (!eqI t0.mPhase 2)) && (!eqI t0.mPhase 3))) rfl (v_pickB rfl · · · rfl (fun e46 => (gv e46)) (fun e47 => rfl) (pA _ _)) ?_
 refine sM 51 (bV (((!eqI t0.mPhase 1) && (!eqI t0.mPhase 2)) && (!eqI t0.mPhase 3))) rfl rfl ?_
 refine sF 52 (.d (.dp (List.drop 2 (eShard t0)))) rfl rfl (fun e48 => (v_field_dp (a0 := 2) (cs := (eShard t0)) rfl · · · fo45_2 rfl)) ?_
 refine sF 53 (.d (.agg (eSpan t0.mSpan))) rfl rfl (fun e49 => (w_ldp (List.drop 2 (eShard t0)) (eSpan t0.mSpan) rfl · · · ag41 (gv (nF e49)) (ble _ _ rfl) rfl)) ?_
 obtain ⟨t54, c51, h⟩ := bpos h
 refine sF 54 (bV t54) rfl rfl (fun e50 => (w_call (ds := [(.agg (eSpan t0.mSpan))]) (caps := []) (l := [(.s (.bool t54))]) (s85 k t0.mSpan _ (cpos (nF e50) c51)) rfl rfl rfl en85 · · · (.inl ⟨rfl, rfl⟩) (cc (gv (nF e50)) rfl) rfl)) ?_
 refine sF 55 (bV (!t54)) rfl rfl (fun e52 => (v_un rfl · · · (gv (nF e52)) (u_not rfl))) ?_
 refine sT 56 (bV ((((!eqI t0.mPhase 1) && (!eqI t0.mPhase 2)) && (!eqI t0.mPhase 3)) || (!t54))) rfl (v_pickB rfl · · · rfl (fun e53 => rfl) (fun e54 => (gv (nF e54))) (pO _ _)) ?_
 refine sM 57 (bV ((((!eqI t0.mPhase 1) && (!eqI t0.mPhase 2)) && (!eqI t0.mPhase 3)) || (!t54))) rfl rfl ?_
 refine sF 58 (.d (.dp (List.drop 5 (eShard t0)))) rfl rfl (fun e55 => (v_field_dp (a0 := 5) (cs := (eShard t0)) rfl · · · fo45_4 rfl)) ?_
 refine sF 59 (.d (.sl 2 (t0.mEntries.map eEntry))) rfl rfl (fun e56 => (v_load_dp1 rfl · · · onT42 (gv (nF e56)) rfl)) ?_
 obtain ⟨t60, c58, h⟩ := bpos h
 refine sF 60 (bV t60) rfl rfl (fun e57 => (w_call (ds := [(.sl 2 (t0.mEntries.map eEntry))]) (caps := []) (l := [(.s (.bool t60))]) (s86 k t0.mEntries _ (cpos (nF e57) c58)) rfl rfl rfl en86 · · · (.inl ⟨rfl, rfl⟩) (cc (gv (nF e57)) rfl) rfl)) ?_
 refine sF 61 (bV (!t60)) rfl rfl (fun e59 => (v_un rfl · · · (gv (nF e59)) (u_not rfl))) ?_
 refine sT 62 (bV (((((!eqI t0.mPhase 1) && (!eqI t0.mPhase 2)) && (!eqI t0.mPhase 3)) || (!t54)) || (!t60))) rfl (v_pickB rfl · · · rfl (fun e60 => rfl) (fun e61 => (gv (nF e61))) (pO _ _)) ?_
 refine sM 63 (bV (((((!eqI t0.mPhase 1) && (!eqI t0.mPhase 2)) && (!eqI t0.mPhase 3)) || (!t54)) || (!t60))) rfl rfl ?_
 refine sF 64 (.d (.dp (List.drop 6 (eShard t0)))) rfl rfl (fun e62 => (v_field_dp (a0 := 6) (cs := (eShard t0)) rfl · · · fo45_5 rfl)) ?_
 refine sF 65 (.d (.agg (eStamp t0.mMark))) rfl rfl (fun e63 => (w_ldp (List.drop 6 (eShard t0)) (eStamp t0.mMark) rfl · · · ag24 (gv (nF e63)) (ble _ _ rfl) rfl)) ?_
 obtain ⟨t66, c65, h⟩ := bpos h
 refine sF 66 (bV t66) rfl rfl (fun e64 => (w_call (ds := [(.agg (eStamp t0.mMark))]) (caps := []) (l := [(.s (.bool t66))]) (s68 k t0.mMark _ (cpos (nF e64) c65)) rfl rfl rfl en68 · · · (.inl ⟨rfl, rfl⟩) (cc (gv (nF e64)) rfl) rfl)) ?_
 refine sF 67 (bV (!t66)) rfl rfl (fun e66 => (v_un rfl · · · (gv (nF e66)) (u_not rfl))) ?_
 refine sT 68 (bV ((((((!eqI t0.mPhase 1) && (!eqI t0.mPhase 2)) && (!eqI t0.mPhase 3)) || (!t54)) || (!t60)) || (!t66))) rfl (v_pickB rfl · · · rfl (fun e67 => rfl) (fun e68 => (gv (nF e68))) (pO _ _)) ?_
 refine sM 69 (bV ((((((!eqI t0.mPhase 1) && (!eqI t0.mPhase 2)) && (!eqI t0.mPhase 3)) || (!t54)) || (!t60)) || (!t66))) rfl rfl ?_
 refine sF 70 (.d (.dp (List.drop 9 (eShard t0)))) rfl rfl (fun e69 => (v_field_dp (a0 := 9) (cs := (eShard t0)) rfl · · · fo45_6 rfl)) ?_
 refine sF 71 (.d (.agg (eStamp t0.mTop))) rfl rfl (fun e70 => (w_ldp (List.drop 9 (eShard t0)) (eStamp t0.mTop) rfl · · · ag24 (gv (nF e70)) (ble _ _ rfl) rfl)) ?_
 obtain ⟨t72, c72, h⟩ := bpos h
 refine sF 72 (bV t72) rfl rfl (fun e71 => (w_call (ds := [(.agg (eStamp t0.mTop))]) (caps := []) (l := [(.s (.bool t72))]) (s68 k t0.mTop _ (cpos (nF e71) c72)) rfl rfl rfl en68 · · · (.inl ⟨rfl, rfl⟩) (cc (gv (nF e71)) rfl) rfl)) ?_
 refine sF 73 (bV (!t72)) rfl rfl (fun e73 => (v_un rfl · · · (gv (nF e73)) (u_not rfl))) ?_
 refine sT 74 (bV (((((((!eqI t0.mPhase 1) && (!eqI t0.mPhase 2)) && (!eqI t0.mPhase 3)) || (!t54)) || (!t60)) || (!t66)) || (!t72))) rfl (v_pickB rfl · · · rfl (fun e74 => rfl) (fun e75 => (gv (nF e75))) (pO _ _)) ?_
 refine sM 75 (bV (((((((!eqI t0.mPhase 1) && (!eqI t0.mPhase 2)) && (!eqI t0.mPhase 3)) || (!t54)) || (!t60)) || (!t66)) || (!t72))) rfl rfl ?_
 refine sF 76 (.d (.dp (List.drop 12 (eShard t0)))) rfl rfl (fun e76 => (v_field_dp (a0 := 12) (cs := (eShard t0)) rfl · · · fo45_7 rfl)) ?_
 refine sF 77 (.d (.sl 11 (t0.mDone.map eDone))) rfl rfl (fun e77 => (v_load_dp1 rfl · · · onT43 (gv (nF e77)) rfl)) ?_
 obtain ⟨t78, c79, h⟩ := bpos h
 refine sF 78 (bV t78) rfl rfl (fun e78 => (w_call (ds := [(.sl 11 (t0.mDone.map eDone))]) (caps := []) (l := [(.s (.bool t78))]) (s87 k t0.mDone _ (cpos (nF e78) c79)) rfl rfl rfl en87 · · · (.inl ⟨rfl, rfl⟩) (cc (gv (nF e78)) rfl) rfl)) ?_
 refine sF 79 (bV (!t78)) rfl rfl (fun e80 => (v_un rfl · · · (gv (nF e80)) (u_not rfl))) ?_
 refine sT 80 (bV ((((((((!eqI t0.mPhase 1) && (!eqI t0.mPhase 2)) && (!eqI t0.mPhase 3)) || (!t54)) || (!t60)) || (!t66)) || (!t72)) || (!t78))) rfl (v_pickB rfl · · · rfl (fun e81 => rfl) (fun e82 => (gv (nF e82))) (pO _ _)) ?_
 refine sq_nil ?_
 refine ht_cond rfl (fun e83 => ?_) (fun e83 => ?_)
 ·replace h := cpos e83 h
  refine sr ?_
  refine sM 2 (bV false) rfl rfl ?_
  refine sq_nil ?_
  refine ht_ret ?_
  cases h
  exact ret1 rfl (.tmp rfl)
 replace h := cneg e83 h
 refine ht_skip ?_
 refine ht_gj (go_id' h) (fun _ => tell []) (fun _ h => ?_) (fun v84 K85 h j87 r88 => ?_)
 ·refine sr ?_
  refine sM 2 (bV true) rfl rfl ?_
  refine sq_nil ?_
  refine ht_ret ?_
  cases h
  exact ret1 rfl (.tmp rfl)
 refine sr ?_
 refine sM 3 (iV 0) rfl rfl ?_
 refine sq_nil ?_
 refine ht_block ?_
 refine ht_rd h (fun _ => rfl) (fun t3 => tell [(.t 1, .d (.dp (eShard t0))), (.t 3, iV t3)]) (wk_ren _ (fun i => i) rfl ⟨rfl, rfl, trivial⟩) fun k t3 h K96 j90 => ?_
 rw [F21_l1] at h
 refine ht_seq ?_
 refine sr ?_
 refine sM 81 (iV t3) rfl rfl ?_
 refine sT 82 (.d (.dp (List.drop 5 (eShard t0)))) rfl (v_field_dp (a0 := 5) (cs := (eShard t0)) rfl · · · fo45_4 rfl) ?_
 refine sT 83 (.d (.sl 2 (t0.mEntries.map eEntry))) rfl (v_load_dp1 rfl · · · onT42 rfl rfl) ?_
 refine sT 84 (iV (t0.mEntries.length : Int)) rfl (w_len t0.mEntries eEntry rfl rfl · · · slT42 rfl) ?_
 refine sT 85 (bV (ltI t3 (t0.mEntries.length : Int))) rfl (v_bin rfl · · · rfl rfl (b_lss rfl)) ?_
 refine sq_nil ?_
 refine ht_cond rfl (fun e92 => ?_) (fun e92 => ?_)
 ·replace h := cpos e92 h
  refine ht_skip ?_
  refine ht_seq ?_
  refine ht_block ?_
  refine ht_seq ?_
  refine ht_region_draw mixed ?_
  refine rT 88 (.d (.dp (List.drop 2 (eShard t0)))) rfl (v_field_dp (a0 := 2) (cs := (eShard t0)) rfl · · · fo45_2 rfl) ?_
  refine rT 89 (.d (.agg (eSpan t0.mSpan))) rfl (w_ldp (List.drop 2 (eShard t0)) (eSpan t0.mSpan) rfl · · · ag41 rfl (ble _ _ rfl) rfl) ?_
  refine rT 90 (.d (.dp (List.drop 5 (eShard t0)))) rfl (v_field_dp (a0 := 5) (cs := (eShard t0)) rfl · · · fo45_4 rfl) ?_
  refine rT 91 (.d (.sl 2 (t0.mEntries.map eEntry))) rfl (v_load_dp1 rfl · · · onT42 rfl rfl) ?_
  refine rM 92 (iV t3) rfl rfl ?_
  obtain ⟨e93, h⟩ := gpos h
  refine rT 93 (.d (.dp (eEntry (rd t0.mEntries t3)))) rfl (w_idx t0.mEntries eEntry rfl · · · slT42 rfl rfl e93) ?_
  refine rT 94 (.d (.dp (eEntry (rd t0.mEntries t3)))) rfl (v_field_dp (a0 := 0) (cs := (eEntry (rd t0.mEntries t3))) rfl · · · fo116_0 rfl) ?_
  refine rT 95 (sV (rd t0.mEntries t3).mKey) rfl (v_load_dp1 rfl · · · onT9 rfl rfl) ?_
  obtain ⟨t96, c94, h⟩ := bpos h
  refine rT 96 (bV t96) rfl (w_call (ds := [(.agg (eSpan t0.mSpan)), (.s (.string (rd t0.mEntries t3).mKey))]) (caps := []) (l := [(.s (.bool t96))]) (s88 k t0.mSpan (rd t0.mEntries t3).mKey _ c94) rfl rfl rfl en88 · · · (.inl ⟨rfl, rfl⟩) rfl rfl) ?_
  refine rT 97 (bV (!t96)) rfl (v_un rfl · · · rfl (u_not rfl)) ?_
  refine rg_nil ⟨by kernel_rfl, ?_⟩
  refine ht_cond rfl (fun e95 => ?_) (fun e95 => ?_)
  ·replace h := cpos e95 h
   refine sr ?_
   refine sM 2 (bV false) rfl rfl ?_
   refine sq_nil ?_
   refine ht_ret ?_
   cases h
   cases r88 _ rfl
   exact ret1 rfl (.tmp rfl)
  replace h := cneg e95 h
  refine ht_skip ?_
  refine ht_region ?_
  refine sM 86 (iV t3) rfl rfl ?_
  refine sT 87 (iV (IntKind.wrap .i64 (t3 + 1))) rfl (v_bin rfl · · · rfl rfl (b_add rfl)) ?_
  refine sM 3 (iV (IntKind.wrap .i64 (t3 + 1))) rfl rfl ?_
  refine sq_nil ?_
  exact j90 _ _ h (wk_ren _ (fun i => i) rfl ⟨rfl, rfl, trivial⟩)
 replace h := cneg e92 h
 refine ht_exit ?_
 refine tq ?_
 refine tq ?_
 refine bq_hit ?_
 cases h
 exact j87 _ _ rfl (wk_ren _ (fun i => i) rfl trivial)
theorem s89 (k : Nat) (t0 : Shard) (t1 : Stamp) (r : Bool) (h : F89 k t0 t1 = some r) : Awp.Spec Tryz.prog amb 89 [(.agg (eShard t0)), (.agg (eStamp t1))] (.ds [(.s (.bool r))]) := by
 rw [F89] at h
 refine spec_of Tryz.func89 rfl (ble _ _ rfl) fun w0 ok0 lt0 hA => ?_
 refine sr ?_
 refine sT 2 (.d (.dp (eShard t0))) rfl (v_box_d (cs := (eShard t0)) rfl · · · rfl rfl (ones_of rfl)) ?_
 refine sT 3 (.d (.dp (eStamp t1))) rfl (v_box_d (cs := (eStamp t1)) rfl · · · rfl rfl (ones_of rfl)) ?_
 refine sM 4 (bV false) rfl rfl ?_
 refine sq_nil ?_
 refine ht_gj (go_id' h) (fun _ => tell []) (fun _ h => ?_) (fun v1 K2 h j4 r5 => ?_)
 ·refine sr ?_
  refine sM 4 (bV true) rfl rfl ?_
  refine sq_nil ?_
  refine ht_ret ?_
  cases h
  exact ret1 rfl (.tmp rfl)
 refine sr ?_
 refine sM 5 (iV 0) rfl rfl ?_
 refine sq_nil ?_
 refine ht_block ?_
 refine ht_rd h (fun _ => rfl) (fun t5 => tell [(.t 2, .d (.dp (eShard t0))), (.t 3, .d (.dp (eStamp t1))), (.t 5, iV t5)]) (wk_ren _ (fun i => i) rfl ⟨rfl, rfl, rfl, trivial⟩) fun k t5 h K25 j7 => ?_
 rw [F89_l1] at h
 refine ht_seq ?_
 refine sr ?_
 refine sM 7 (iV t5) rfl rfl ?_
 refine sT 8 (.d (.dp (List.drop 5 (eShard t0)))) rfl (v_field_dp (a0 := 5) (cs := (eShard t0)) rfl · · · fo45_4 rfl) ?_
 refine sT 9 (.d (.sl 2 (t0.mEntries.map eEntry))) rfl (v_load_dp1 rfl · · · onT42 rfl rfl) ?_
 refine sT 10 (iV (t0.mEntries.length : Int)) rfl (w_len t0.mEntries eEntry rfl rfl · · · slT42 rfl) ?_
 refine sT 11 (bV (ltI t5 (t0.mEntries.length : Int))) rfl (v_bin rfl · · · rfl rfl (b_lss rfl)) ?_
 refine sq_nil ?_
 refine ht_cond rfl (fun e9 => ?_) (fun e9 => ?_)
 ·replace h := cpos e9 h
  refine ht_skip ?_
  refine ht_gj h (fun _ => tell [(.t 2, .d (.dp (eShard t0))), (.t 3, .d (.dp (eStamp t1))), (.t 5, iV t5)]) (fun _ h => ?_) (fun v10 K11 h j13 r14 => ?_)
  ·refine ht_region ?_
   refine sM 12 (iV t5) rfl rfl ?_
   refine sT 13 (iV (IntKind.wrap .i64 (t5 + 1))) rfl (v_bin rfl · · · rfl rfl (b_add rfl)) ?_
   refine sM 5 (iV (IntKind.wrap .i64 (t5 + 1))) rfl rfl ?_
   refine sq_nil ?_
   exact j7 _ _ h (wk_ren _ (fun i => i) rfl ⟨rfl, rfl, rfl, trivial⟩)
  refine ht_block ?_
  refine sr ?_
  refine sM 6 (iV 0) rfl rfl ?_
  refine sq_nil ?_
  refine ht_block ?_
  refine ht_rd h (fun _ => rfl) (fun t6 => tell [(.t 2, .d (.dp (eShard t0))), (.t 3, .d (.dp (eStamp t1))), (.t 5, iV t5), (.t 6, iV t6)]) (wk_ren _ (fun i => i) rfl ⟨rfl, rfl, rfl, rfl, trivial⟩) fun k t6 h K24 j16 => ?_
  rw [F89_l2] at h
  refine ht_seq ?_
  refine sr ?_
  refine sM 14 (iV t6) rfl rfl ?_
  refine sT 15 (.d (.dp (List.drop 5 (eShard t0)))) rfl (v_field_dp (a0 := 5) (cs := (eShard t0)) rfl · · · fo45_4 rfl) ?_
  refine sT 16 (.d (.sl 2 (t0.mEntries.map eEntry))) rfl (v_load_dp1 rfl · · · onT42 rfl rfl) ?_
  refine sM 17 (iV t5) rfl rfl ?_
  obtain ⟨e18, h⟩ := gpos h
  refine sT 18 (.d (.dp (eEntry (rd t0.mEntries t5)))) rfl (w_idx t0.mEntries eEntry rfl · · · slT42 rfl rfl e18) ?_
  refine sT 19 (.d (.dp (List.drop 1 (eEntry (rd t0.mEntries t5))))) rfl (v_field_dp (a0 := 1) (cs := (eEntry (rd t0.mEntries t5))) rfl · · · fo116_1 rfl) ?_
  refine sT 20 (.d (.sl 5 ((rd t0.mEntries t5).mChain.map eVersion))) rfl (v_load_dp1 rfl · · · onT96 rfl rfl) ?_
  refine sT 21 (iV ((rd t0.mEntries t5).mChain.length : Int)) rfl (w_len (rd t0.mEntries t5).mChain eVersion rfl rfl · · · slT96 rfl) ?_
  refine sT 22 (bV (ltI t6 ((rd t0.mEntries t5).mChain.length : Int))) rfl (v_bin rfl · · · rfl rfl (b_lss rfl)) ?_
  refine sq_nil ?_
  refine ht_cond rfl (fun e19 => ?_) (fun e19 => ?_)
  ·replace h := cpos e19 h
   refine ht_skip ?_
   refine ht_seq ?_
   refine ht_block ?_
   refine ht_seq ?_
   refine ht_region_draw mixed ?_
   refine rT 25 (.d (.agg (eStamp t1))) rfl (w_ldp (eStamp t1) (eStamp t1) rfl · · · ag24 rfl (ble _ _ rfl) rfl) ?_
   refine rT 26 (.d (.dp (List.drop 5 (eShard t0)))) rfl (v_field_dp (a0 := 5) (cs := (eShard t0)) rfl · · · fo45_4 rfl) ?_
   refine rT 27 (.d (.sl 2 (t0.mEntries.map eEntry))) rfl (v_load_dp1 rfl · · · onT42 rfl rfl) ?_
   refine rM 28 (iV t5) rfl rfl ?_
   obtain ⟨e20, h⟩ := gpos h
   refine rT 29 (.d (.dp (eEntry (rd t0.mEntries t5)))) rfl (w_idx t0.mEntries eEntry rfl · · · slT42 rfl rfl e20) ?_
   refine rT 30 (.d (.dp (List.drop 1 (eEntry (rd t0.mEntries t5))))) rfl (v_field_dp (a0 := 1) (cs := (eEntry (rd t0.mEntries t5))) rfl · · · fo116_1 rfl) ?_
   refine rT 31 (.d (.sl 5 ((rd t0.mEntries t5).mChain.map eVersion))) rfl (v_load_dp1 rfl · · · onT96 rfl rfl) ?_
   refine rM 32 (iV t6) rfl rfl ?_
   obtain ⟨e21, h⟩ := gpos h
   refine rT 33 (.d (.dp (eVersion (rd (rd t0.mEntries t5).mChain t6)))) rfl (w_idx (rd t0.mEntries t5).mChain eVersion rfl · · · slT96 rfl rfl e21) ?_
   refine rT 34 (.d (.dp (eVersion (rd (rd t0.mEntries t5).mChain t6)))) rfl (v_field_dp (a0 := 0) (cs := (eVersion (rd (rd t0.mEntries t5).mChain t6))) rfl · · · fo93_0 rfl) ?_
   refine rT 35 (.d (.agg (eStamp (rd (rd t0.mEntries t5).mChain t6).mAt))) rfl (w_ldp (eVersion (rd (rd t0.mEntries t5).mChain t6)) (eStamp (rd (rd t0.mEntries t5).mChain t6).mAt) rfl · · · ag24 rfl (ble _ _ rfl) rfl) ?_
   obtain ⟨t36, c22, h⟩ := bpos h
   refine rT 36 (bV t36) rfl (w_call (ds := [(.agg (eStamp t1)), (.agg (eStamp (rd (rd t0.mEntries t5).mChain t6).mAt))]) (caps := []) (l := [(.s (.bool t36))]) (s76 k t1 (rd (rd t0.mEntries t5).mChain t6).mAt _ c22) rfl rfl rfl en76 · · · (.inl ⟨rfl, rfl⟩) rfl rfl) ?_
   refine rg_nil ⟨by kernel_rfl, ?_⟩
   refine ht_cond rfl (fun e23 => ?_) (fun e23 => ?_)
   ·replace h := cpos e23 h
    refine sr ?_
    refine sM 4 (bV false) rfl rfl ?_
    refine sq_nil ?_
    refine ht_ret ?_
    cases h
    cases r14 _ rfl
    cases r5 _ rfl
    exact ret1 rfl (.tmp rfl)
   replace h := cneg e23 h
   refine ht_skip ?_
   refine ht_region ?_
   refine sM 23 (iV t6) rfl rfl ?_
   refine sT 24 (iV (IntKind.wrap .i64 (t6 + 1))) rfl (v_bin rfl · · · rfl rfl (b_add rfl)) ?_
   refine sM 6 (iV (IntKind.wrap .i64 (t6 + 1))) rfl rfl ?_
   refine sq_nil ?_
   exact j16 _ _ h (wk_ren _ (fun i => i) rfl ⟨rfl, rfl, rfl, rfl, trivial⟩)
  replace h := cneg e19 h
  refine ht_exit ?_
  refine tq ?_
  refine tq ?_
  refine bq_hit ?_
  cases h
  exact j13 _ _ rfl (wk_ren _ (fun i => i) rfl ⟨rfl, rfl, rfl, trivial⟩)
 replace h := cneg e9 h
 refine ht_exit ?_
 refine tq ?_
 refine tq ?_
 refine bq_hit ?_
 cases h
 exact j4 _ _ rfl (wk_ren _ (fun i => i) rfl trivial)
theorem s22 (k : Nat) (t0 : Cell) (r : Bool) (h : F22 k t0 = some r) : Awp.Spec Tryz.prog amb 22 [(.agg (eCell t0))] (.ds [(.s (.bool r))]) := by
 rw [F22] at h
 refine spec_of Tryz.func22 rfl (ble _ _ rfl) fun w0 ok0 lt0 hA => ?_
 refine sr ?_
 refine sT 1 (.d (.dp (eCell t0))) rfl (v_box_d (cs := (eCell t0)) rfl · · · rfl rfl (ones_of rfl)) ?_
 refine sM 2 (bV false) rfl rfl ?_
 refine sq_nil ?_
 refine ht_seq ?_
 refine sr ?_
 refine sT 4 (.d (.dp (eCell t0))) rfl (v_field_dp (a0 := 0) (cs := (eCell t0)) rfl · · · fo26_0 rfl) ?_
 refine sT 5 (.d (.sl 17 (t0.mShards.map eShard))) rfl (v_load_dp1 rfl · · · onT22 rfl rfl) ?_
 refine sT 6 (iV (t0.mShards.length : Int)) rfl (w_len t0.mShards eShard rfl rfl · · · slT22 rfl) ?_
 refine sT 7 (bV (ltI 8 (t0.mShards.length : Int))) rfl (v_bin rfl · · · rfl rfl (b_gtr rfl)) ?_
 refine sM 8 (bV (ltI 8 (t0.mShards.length : Int))) rfl rfl ?_
 refine sF 9 (.d (.dp (List.drop 1 (eCell t0)))) rfl rfl (fun e1 => (v_field_dp (a0 := 1) (cs := (eCell t0)) rfl · · · fo26_1 rfl)) ?_
 refine sF 10 (.d (.agg (eStamp t0.mTop))) rfl rfl (fun e2 => (w_ldp (List.drop 1 (eCell t0)) (eStamp t0.mTop) rfl · · · ag24 (gv (nF e2)) (ble _ _ rfl) rfl)) ?_
 obtain ⟨t11, c4, h⟩ := bpos h
 refine sF 11 (bV t11) rfl rfl (fun e3 => (w_call (ds := [(.agg (eStamp t0.mTop))]) (caps := []) (l := [(.s (.bool t11))]) (s68 k t0.mTop _ (cpos (nF e3) c4)) rfl rfl rfl en68 · · · (.inl ⟨rfl, rfl⟩) (cc (gv (nF e3)) rfl) rfl)) ?_
 refine sF 12 (bV (!t11)) rfl rfl (fun e5 => (v_un rfl · · · (gv (nF e5)) (u_not rfl))) ?_
 refine sT 13 (bV ((ltI 8 (t0.mShards.length : Int)) || (!t11))) rfl (v_pickB rfl · · · rfl (fun e6 => rfl) (fun e7 => (gv (nF e7))) (pO _ _)) ?_
 refine sM 14 (bV ((ltI 8 (t0.mShards.length : Int)) || (!t11))) rfl rfl ?_
 refine sF 15 (.d (.dp (List.drop 4 (eCell t0)))) rfl rfl (fun e8 => (v_field_dp (a0 := 4) (cs := (eCell t0)) rfl · · · fo26_2 rfl)) ?_
 refine sF 16 (iV t0.mDropped) rfl rfl (fun e9 => (v_load_dp1 rfl · · · onT3 (gv (nF e9)) rfl)) ?_
 obtain ⟨t17, c11, h⟩ := bpos h
 refine sF 17 (bV t17) rfl rfl (fun e10 => (w_call (ds := [(.s (.int .i64 t0.mDropped))]) (caps := []) (l := [(.s (.bool t17))]) (s67 k t0.mDropped _ (cpos (nF e10) c11)) rfl rfl rfl en67 · · · (.inl ⟨rfl, rfl⟩) (cc (gv (nF e10)) rfl) rfl)) ?_
 refine sF 18 (bV (!t17)) rfl rfl (fun e12 => (v_un rfl · · · (gv (nF e12)) (u_not rfl))) ?_
 refine sT 19 (bV (((ltI 8 (t0.mShards.length : Int)) || (!t11)) || (!t17))) rfl (v_pickB rfl · · · rfl (fun e13 => rfl) (fun e14 => (gv (nF e14))) (pO _ _)) ?_
 refine sq_nil ?_
 refine ht_cond rfl (fun e15 => ?_) (fun e15 => ?_)
 ·replace h := cpos e15 h
  refine sr ?_
  refine sM 2 (bV false) rfl rfl ?_
  refine sq_nil ?_
  refine ht_ret ?_
  cases h
  exact ret1 rfl (.tmp rfl)
 replace h := cneg e15 h
 refine ht_skip ?_
 refine ht_gj (go_id' h) (fun _ => tell []) (fun _ h => ?_) (fun v16 K17 h j19 r20 => ?_)
 ·refine sr ?_
  refine sM 2 (bV true) rfl rfl ?_
  refine sq_nil ?_
  refine ht_ret ?_
  cases h
  exact ret1 rfl (.tmp rfl)
 refine sr ?_
 refine sM 3 (iV 0) rfl rfl ?_
 refine sq_nil ?_
 refine ht_block ?_
 refine ht_rd h (fun _ => rfl) (fun t3 => tell [(.t 1, .d (.dp (eCell t0))), (.t 3, iV t3)]) (wk_ren _ (fun i => i) rfl ⟨rfl, rfl, trivial⟩) fun k t3 h K79 j22 => ?_
 rw [F22_l1] at h
 refine ht_seq ?_
 refine sr ?_
 refine sM 20 (iV t3) rfl rfl ?_
 refine sT 21 (.d (.dp (eCell t0))) rfl (v_field_dp (a0 := 0) (cs := (eCell t0)) rfl · · · fo26_0 rfl) ?_
 refine sT 22 (.d (.sl 17 (t0.mShards.map eShard))) rfl (v_load_dp1 rfl · · · onT22 rfl rfl) ?_
 refine sT 23 (iV (t0.mShards.length : Int)) rfl (w_len t0.mShards eShard rfl rfl · · · slT22 rfl) ?_
 refine sT 24 (bV (ltI t3 (t0.mShards.length : Int))) rfl (v_bin rfl · · · rfl rfl (b_lss rfl)) ?_
 refine sq_nil ?_
 refine ht_cond rfl (fun e24 => ?_) (fun e24 => ?_)
 ·replace h := cpos e24 h
  refine ht_skip ?_
  refine ht_seq ?_
  refine ht_block ?_
  refine ht_seq ?_
  refine ht_region_draw mixed ?_
  refine rT 27 (.d (.dp (eCell t0))) rfl (v_field_dp (a0 := 0) (cs := (eCell t0)) rfl · · · fo26_0 rfl) ?_
  refine rT 28 (.d (.sl 17 (t0.mShards.map eShard))) rfl (v_load_dp1 rfl · · · onT22 rfl rfl) ?_
  refine rM 29 (iV t3) rfl rfl ?_
  obtain ⟨e25, h⟩ := gpos h
  refine rT 30 (.d (.dp (eShard (rd t0.mShards t3)))) rfl (w_idx t0.mShards eShard rfl · · · slT22 rfl rfl e25) ?_
  refine rT 31 (.d (.agg (eShard (rd t0.mShards t3)))) rfl (w_ldp (eShard (rd t0.mShards t3)) (eShard (rd t0.mShards t3)) rfl · · · ag45 rfl (ble _ _ rfl) rfl) ?_
  obtain ⟨t32, c26, h⟩ := bpos h
  refine rT 32 (bV t32) rfl (w_call (ds := [(.agg (eShard (rd t0.mShards t3)))]) (caps := []) (l := [(.s (.bool t32))]) (s21 k (rd t0.mShards t3) _ c26) rfl rfl rfl en21 · · · (.inl ⟨rfl, rfl⟩) rfl rfl) ?_
  refine rT 33 (bV (!t32)) rfl (v_un rfl · · · rfl (u_not rfl)) ?_
  refine rM 34 (bV (!t32)) rfl rfl ?_
  refine rF 35 (.d (.dp (eCell t0))) rfl rfl (fun e27 => (v_field_dp (a0 := 0) (cs := (eCell t0)) rfl · · · fo26_0 rfl)) ?_
  refine rF 36 (.d (.sl 17 (t0.mShards.map eShard))) rfl rfl (fun e28 => (v_load_dp1 rfl · · · onT22 (gv (nF e28)) rfl)) ?_
  refine rF 37 (iV t3) rfl rfl (fun e29 => (v_move (.inl rfl) · · · rfl)) ?_
  obtain ⟨e31, h⟩ := gpos h
  refine rF 38 (.d (.dp (eShard (rd t0.mShards t3)))) rfl rfl (fun e30 => (w_idx t0.mShards eShard rfl · · · slT22 (gv (nF e30)) (gv (nF e30)) (orT e31 (nF e30)))) ?_
  refine rF 39 (.d (.agg (eShard (rd t0.mShards t3)))) rfl rfl (fun e32 => (w_ldp (eShard (rd t0.mShards t3)) (eShard (rd t0.mShards t3)) rfl · · · ag45 (gv (nF e32)) (ble _ _ rfl) rfl)) ?_
  refine rF 40 (.d (.dp (List.drop 1 (eCell t0)))) rfl rfl (fun e33 => (v_field_dp (a0 := 1) (cs := (eCell t0)) rfl · · · fo26_1 rfl)) ?_
  refine rF 41 (.d (.agg (eStamp t0.mTop))) rfl rfl (fun e34 => (w_ldp (List.drop 1 (eCell t0)) (eStamp t0.mTop) rfl · · · ag24 (gv (nF e34)) (ble _ _ rfl) rfl)) ?_
  obtain ⟨t42, c36, h⟩ := bpos h
  refine rF 42 (bV t42) rfl rfl (fun e35 => (w_call (ds := [(.agg (eShard (rd t0.mShards t3))), (.agg (eStamp t0.mTop))]) (caps := []) (l := [(.s (.bool t42))]) (s89 k (rd t0.mShards t3) t0.mTop _ (cpos (nF e35) c36)) rfl rfl rfl en89 · · · (.inl ⟨rfl, rfl⟩) (cc (gv (nF e35)) (cc (gv (nF e35)) rfl)) rfl)) ?_
  refine rF 43 (bV (!t42)) rfl rfl (fun e37 => (v_un rfl · · · (gv (nF e37)) (u_not rfl))) ?_
  refine rT 44 (bV ((!t32) || (!t42))) rfl (v_pickB rfl · · · rfl (fun e38 => rfl) (fun e39 => (gv (nF e39))) (pO _ _)) ?_
  refine rM 45 (bV ((!t32) || (!t42))) rfl rfl ?_
  refine rF 46 (iV t3) rfl rfl (fun e40 => (v_move (.inl rfl) · · · rfl)) ?_
  refine rF 47 (bV (ltI 0 t3)) rfl rfl (fun e41 => (v_bin rfl · · · (gv (nF e41)) rfl (b_gtr rfl))) ?_
  refine rF 48 (bV (ltI 0 t3)) rfl rfl (fun e42 => (v_move (.inl rfl) · · · (gv (nF e42)))) ?_
  refine rI 49 (.d (.dp (eCell t0))) rfl rfl (fun e43 e44 => (v_field_dp (a0 := 0) (cs := (eCell t0)) rfl · · · fo26_0 rfl)) ?_
  refine rI 50 (.d (.sl 17 (t0.mShards.map eShard))) rfl rfl (fun e45 e46 => (v_load_dp1 rfl · · · onT22 (gv (aT e45 e46)) rfl)) ?_
  refine rI 51 (iV t3) rfl rfl (fun e47 e48 => (v_move (.inl rfl) · · · rfl)) ?_
  refine rI 52 (iV (IntKind.wrap .i64 (t3 - 1))) rfl rfl (fun e49 e50 => (v_bin rfl · · · (gv (aT e49 e50)) rfl (b_sub rfl))) ?_
  obtain ⟨e53, h⟩ := gpos h
  refine rI 53 (.d (.dp (eShard (rd t0.mShards (IntKind.wrap .i64 (t3 - 1)))))) rfl rfl (fun e51 e52 => (w_idx t0.mShards eShard rfl · · · slT22 (gv (aT e51 e52)) (gv (aT e51 e52)) (orT e53 (aT e51 e52)))) ?_
  refine rI 54 (.d (.dp (eShard (rd t0.mShards (IntKind.wrap .i64 (t3 - 1)))))) rfl rfl (fun e54 e55 => (v_field_dp (a0 := 0) (cs := (eShard (rd t0.mShards (IntKind.wrap .i64 (t3 - 1))))) rfl · · · fo45_0 (gv (aT e54 e55)))) ?_
  refine rI 55 (iV (rd t0.mShards (IntKind.wrap .i64 (t3 - 1))).mID) rfl rfl (fun e56 e57 => (v_load_dp1 rfl · · · onT3 (gv (aT e56 e57)) rfl)) ?_
  refine rI 56 (.d (.dp (eCell t0))) rfl rfl (fun e58 e59 => (v_field_dp (a0 := 0) (cs := (eCell t0)) rfl · · · fo26_0 rfl)) ?_
  refine rI 57 (.d (.sl 17 (t0.mShards.map eShard))) rfl rfl (fun e60 e61 => (v_load_dp1 rfl · · · onT22 (gv (aT e60 e61)) rfl)) ?_
  refine rI 58 (iV t3) rfl rfl (fun e62 e63 => (v_move (.inl rfl) · · · rfl)) ?_
  obtain ⟨e66, h⟩ := gpos h
  refine rI 59 (.d (.dp (eShard (rd t0.mShards t3)))) rfl rfl (fun e64 e65 => (w_idx t0.mShards eShard rfl · · · slT22 (gv (aT e64 e65)) (gv (aT e64 e65)) (orT e66 (aT e64 e65)))) ?_
  refine rI 60 (.d (.dp (eShard (rd t0.mShards t3)))) rfl rfl (fun e67 e68 => (v_field_dp (a0 := 0) (cs := (eShard (rd t0.mShards t3))) rfl · · · fo45_0 (gv (aT e67 e68)))) ?_
  refine rI 61 (iV (rd t0.mShards t3).mID) rfl rfl (fun e69 e70 => (v_load_dp1 rfl · · · onT3 (gv (aT e69 e70)) rfl)) ?_
  refine rI 62 (bV (leI (rd t0.mShards t3).mID (rd t0.mShards (IntKind.wrap .i64 (t3 - 1))).mID)) rfl rfl (fun e71 e72 => (v_bin rfl · · · (gv (aT e71 e72)) (gv (aT e71 e72)) (b_geq rfl))) ?_
  refine rF 63 (bV ((ltI 0 t3) && (leI (rd t0.mShards t3).mID (rd t0.mShards (IntKind.wrap .i64 (t3 - 1))).mID))) rfl rfl (fun e73 => (v_pickB rfl · · · (gv (nF e73)) (fun e74 => (gv (aT (nF e73) e74))) (fun e75 => rfl) (pA _ _))) ?_
  refine rT 64 (bV (((!t32) || (!t42)) || ((ltI 0 t3) && (leI (rd t0.mShards t3).mID (rd t0.mShards (IntKind.wrap .i64 (t3 - 1))).mID)))) rfl (v_pickB rfl · · · rfl (fun e76 => rfl) (fun e77 => (gv (nF e77))) (pO _ _)) ?_
  refine rg_nil ⟨by kernel_rfl, ?_⟩
  refine ht_cond rfl (fun e78 => ?_) (fun e78 => ?_)
  ·replace h := cpos e78 h
   refine sr ?_
   refine sM 2 (bV false) rfl rfl ?_
   refine sq_nil ?_
   refine ht_ret ?_
   cases h
   cases r20 _ rfl
   exact ret1 rfl (.tmp rfl)
  replace h := cneg e78 h
  refine ht_skip ?_
  refine ht_region ?_
  refine sM 25 (iV t3) rfl rfl ?_
  refine sT 26 (iV (IntKind.wrap .i64 (t3 + 1))) rfl (v_bin rfl · · · rfl rfl (b_add rfl)) ?_
  refine sM 3 (iV (IntKind.wrap .i64 (t3 + 1))) rfl rfl ?_
  refine sq_nil ?_
  exact j22 _ _ h (wk_ren _ (fun i => i) rfl ⟨rfl, rfl, trivial⟩)
 replace h := cneg e24 h
 refine ht_exit ?_
 refine tq ?_
 refine tq ?_
 refine bq_hit ?_
 cases h
 exact j19 _ _ rfl (wk_ren _ (fun i => i) rfl trivial)
theorem s69 (k : Nat) (t0 : Request) (r : Bool) (h : F69 k t0 = some r) : Awp.Spec Tryz.prog amb 69 [(.agg (eRequest t0))] (.ds [(.s (.bool r))]) := by
 rw [F69] at h
 refine spec_of Tryz.func69 rfl (ble _ _ rfl) fun w0 ok0 lt0 hA => ?_
 refine sr ?_
 refine sT 1 (.d (.dp (eRequest t0))) rfl (v_box_d (cs := (eRequest t0)) rfl · · · rfl rfl (ones_of rfl)) ?_
 refine sM 2 (bV false) rfl rfl ?_
 refine sq_nil ?_
 refine ht_seq ?_
 refine sr ?_
 refine sT 3 (.d (.dp (eRequest t0))) rfl (v_field_dp (a0 := 0) (cs := (eRequest t0)) rfl · · · fo28_0 rfl) ?_
 refine sT 4 (iV t0.mClient) rfl (v_load_dp1 rfl · · · onT3 rfl rfl) ?_
 obtain ⟨t5, c1, h⟩ := bpos h
 refine sT 5 (bV t5) rfl (w_call (ds := [(.s (.int .i64 t0.mClient))]) (caps := []) (l := [(.s (.bool t5))]) (s66 k t0.mClient _ c1) rfl rfl rfl en66 · · · (.inl ⟨rfl, rfl⟩) rfl rfl) ?_
 refine sT 6 (bV (!t5)) rfl (v_un rfl · · · rfl (u_not rfl)) ?_
 refine sM 7 (bV (!t5)) rfl rfl ?_
 refine sF 8 (.d (.dp (List.drop 1 (eRequest t0)))) rfl rfl (fun e2 => (v_field_dp (a0 := 1) (cs := (eRequest t0)) rfl · · · fo28_1 rfl)) ?_
 refine sF 9 (iV t0.mReq) rfl rfl (fun e3 => (v_load_dp1 rfl · · · onT3 (gv (nF e3)) rfl)) ?_
 obtain ⟨t10, c5, h⟩ := bpos h
 refine sF 10 (bV t10) rfl rfl (fun e4 => (w_call (ds := [(.s (.int .i64 t0.mReq))]) (caps := []) (l := [(.s (.bool t10))]) (s66 k t0.mReq _ (cpos (nF e4) c5)) rfl rfl rfl en66 · · · (.inl ⟨rfl, rfl⟩) (cc (gv (nF e4)) rfl) rfl)) ?_
 refine sF 11 (bV (!t10)) rfl rfl (fun e6 => (v_un rfl · · · (gv (nF e6)) (u_not rfl))) ?_
 refine sT 12 (bV ((!t5) || (!t10))) rfl (v_pickB rfl · · · rfl (fun e7 => rfl) (fun e8 => (gv (nF e8))) (pO _ _)) ?_
 refine sM 13 (bV ((!t5) || (!t10))) rfl rfl ?_
 refine sF 14 (.d (.dp (List.drop 4 (eRequest t0)))) rfl rfl (fun e9 => (v_field_dp (a0 := 4) (cs := (eRequest t0)) rfl · · · fo28_4 rfl)) ?_
 refine sF 15 (sV t0.mValue) rfl rfl (fun e10 => (v_load_dp1 rfl · · · onT9 (gv (nF e10)) rfl)) ?_
 refine sF 16 (iV (t0.mValue.size : Int)) rfl rfl (fun e11 => (v_len_str rfl rfl · · · und9 (gv (nF e11)))) ?_
 refine sF 17 (bV (ltI 16 (t0.mValue.size : Int))) rfl rfl (fun e12 => (v_bin rfl · · · (gv (nF e12)) rfl (b_gtr rfl))) ?_
 refine sT 18 (bV (((!t5) || (!t10)) || (ltI 16 (t0.mValue.size : Int)))) rfl (v_pickB rfl · · · rfl (fun e13 => rfl) (fun e14 => (gv (nF e14))) (pO _ _)) ?_
 refine sM 19 (bV (((!t5) || (!t10)) || (ltI 16 (t0.mValue.size : Int)))) rfl rfl ?_
 refine sF 20 (.d (.dp (List.drop 6 (eRequest t0)))) rfl rfl (fun e15 => (v_field_dp (a0 := 6) (cs := (eRequest t0)) rfl · · · fo28_6 rfl)) ?_
 refine sF 21 (sV t0.mOld) rfl rfl (fun e16 => (v_load_dp1 rfl · · · onT9 (gv (nF e16)) rfl)) ?_
 refine sF 22 (iV (t0.mOld.size : Int)) rfl rfl (fun e17 => (v_len_str rfl rfl · · · und9 (gv (nF e17)))) ?_
 refine sF 23 (bV (ltI 16 (t0.mOld.size : Int))) rfl rfl (fun e18 => (v_bin rfl · · · (gv (nF e18)) rfl (b_gtr rfl))) ?_
 refine sT 24 (bV ((((!t5) || (!t10)) || (ltI 16 (t0.mValue.size : Int))) || (ltI 16 (t0.mOld.size : Int)))) rfl (v_pickB rfl · · · rfl (fun e19 => rfl) (fun e20 => (gv (nF e20))) (pO _ _)) ?_
 refine sM 25 (bV ((((!t5) || (!t10)) || (ltI 16 (t0.mValue.size : Int))) || (ltI 16 (t0.mOld.size : Int)))) rfl rfl ?_
 refine sF 26 (.d (.dp (List.drop 7 (eRequest t0)))) rfl rfl (fun e21 => (v_field_dp (a0 := 7) (cs := (eRequest t0)) rfl · · · fo28_7 rfl)) ?_
 refine sF 27 (.d (.agg (eStamp t0.mAt))) rfl rfl (fun e22 => (w_ldp (List.drop 7 (eRequest t0)) (eStamp t0.mAt) rfl · · · ag24 (gv (nF e22)) (ble _ _ rfl) rfl)) ?_
 obtain ⟨t28, c24, h⟩ := bpos h
 refine sF 28 (bV t28) rfl rfl (fun e23 => (w_call (ds := [(.agg (eStamp t0.mAt))]) (caps := []) (l := [(.s (.bool t28))]) (s68 k t0.mAt _ (cpos (nF e23) c24)) rfl rfl rfl en68 · · · (.inl ⟨rfl, rfl⟩) (cc (gv (nF e23)) rfl) rfl)) ?_
 refine sF 29 (bV (!t28)) rfl rfl (fun e25 => (v_un rfl · · · (gv (nF e25)) (u_not rfl))) ?_
 refine sT 30 (bV (((((!t5) || (!t10)) || (ltI 16 (t0.mValue.size : Int))) || (ltI 16 (t0.mOld.size : Int))) || (!t28))) rfl (v_pickB rfl · · · rfl (fun e26 => rfl) (fun e27 => (gv (nF e27))) (pO _ _)) ?_
 refine sM 31 (bV (((((!t5) || (!t10)) || (ltI 16 (t0.mValue.size : Int))) || (ltI 16 (t0.mOld.size : Int))) || (!t28))) rfl rfl ?_
 refine sF 32 (.d (.dp (List.drop 10 (eRequest t0)))) rfl rfl (fun e28 => (v_field_dp (a0 := 10) (cs := (eRequest t0)) rfl · · · fo28_8 rfl)) ?_
 refine sF 33 (sV t0.mHi) rfl rfl (fun e29 => (v_load_dp1 rfl · · · onT9 (gv (nF e29)) rfl)) ?_
 refine sF 34 (iV (t0.mHi.size : Int)) rfl rfl (fun e30 => (v_len_str rfl rfl · · · und9 (gv (nF e30)))) ?_
 refine sF 35 (bV (ltI 0 (t0.mHi.size : Int))) rfl rfl (fun e31 => (v_bin rfl · · · (gv (nF e31)) rfl (b_gtr rfl))) ?_
 refine sF 36 (bV (ltI 0 (t0.mHi.size : Int))) rfl rfl (fun e32 => (v_move (.inl rfl) · · · (gv (nF e32)))) ?_
 refine sI 37 (.d (.dp (List.drop 10 (eRequest t0)))) rfl rfl (fun e33 e34 => (v_field_dp (a0 := 10) (cs := (eRequest t0)) rfl · · · fo28_8 rfl)) ?_
 refine sI 38 (sV t0.mHi) rfl rfl (fun e35 e36 => (v_load_dp1 rfl · · · onT9 (gv (aT e35 e36)) rfl)) ?_
 obtain ⟨t39, c39, h⟩ := bpos h
 refine sI 39 (bV t39) rfl rfl (fun e37 e38 => (w_call (ds := [(.s (.string t0.mHi))]) (caps := []) (l := [(.s (.bool t39))]) (s130 k t0.mHi _ (cpos (aT e37 e38) c39)) rfl rfl rfl en130 · · · (.inl ⟨rfl, rfl⟩) (cc (gv (aT e37 e38)) rfl) rfl)) ?_
 refine sI 40 (bV (!t39)) rfl rfl (fun e40 e41 => (v_un rfl · · · (gv (aT e40 e41)) (u_not rfl))) ?_
 refine sF 41 (bV ((ltI 0 (t0.mHi.size : Int)) && (!t39))) rfl rfl (fun e42 => (v_pickB rfl · · · (gv (nF e42)) (fun e43 => (gv (aT (nF e42) e43))) (fun e44 => rfl) (pA _ _))) ?_
 refine sT 42 (bV ((((((!t5) || (!t10)) || (ltI 16 (t0.mValue.size : Int))) || (ltI 16 (t0.mOld.size : Int))) || (!t28)) || ((ltI 0 (t0.mHi.size : Int)) && (!t39)))) rfl (v_pickB rfl · · · rfl (fun e45 => rfl) (fun e46 => (gv (nF e46))) (pO _ _)) ?_
 refine sq_nil ?_
 refine ht_cond rfl (fun e47 => ?_) (fun e47 => ?_)
 ·replace h := cpos e47 h
  refine sr ?_
  refine sM 2 (bV false) rfl rfl ?_
  refine sq_nil ?_
  refine ht_ret ?_
  cases h
  exact ret1 rfl (.tmp rfl)
 replace h := cneg e47 h
 refine ht_skip ?_
 refine ht_seq ?_
 refine sr ?_
 refine sT 43 (.d (.dp (List.drop 2 (eRequest t0)))) rfl (v_field_dp (a0 := 2) (cs := (eRequest t0)) rfl · · · fo28_2 rfl) ?_
 refine sT 44 (iV t0.mKind) rfl (v_load_dp1 rfl · · · onT3 rfl rfl) ?_
 refine sT 45 (bV (eqI t0.mKind 6)) rfl (v_bin rfl · · · rfl rfl (b_eql rfl)) ?_
 refine sq_nil ?_
 refine ht_cond rfl (fun e48 => ?_) (fun e48 => ?_)
 ·replace h := cpos e48 h
  refine sr ?_
  refine sT 46 (.d (.dp (List.drop 11 (eRequest t0)))) rfl (v_field_dp (a0 := 11) (cs := (eRequest t0)) rfl · · · fo28_9 rfl) ?_
  refine sT 47 (iV t0.mLimit) rfl (v_load_dp1 rfl · · · onT3 rfl rfl) ?_
  refine sT 48 (bV (ltI 0 t0.mLimit)) rfl (v_bin rfl · · · rfl rfl (b_gtr rfl)) ?_
  refine sM 49 (bV (ltI 0 t0.mLimit)) rfl rfl ?_
  refine sG 50 (.d (.dp (List.drop 11 (eRequest t0)))) rfl rfl (fun e49 => (v_field_dp (a0 := 11) (cs := (eRequest t0)) rfl · · · fo28_9 rfl)) ?_
  refine sG 51 (iV t0.mLimit) rfl rfl (fun e50 => (v_load_dp1 rfl · · · onT3 (gv e50) rfl)) ?_
  refine sG 52 (bV (ltI t0.mLimit 9)) rfl rfl (fun e51 => (v_bin rfl · · · (gv e51) rfl (b_lss rfl))) ?_
  refine sT 53 (bV ((ltI 0 t0.mLimit) && (ltI t0.mLimit 9))) rfl (v_pickB rfl · · · rfl (fun e52 => (gv e52)) (fun e53 => rfl) (pA _ _)) ?_
  refine sM 54 (bV ((ltI 0 t0.mLimit) && (ltI t0.mLimit 9))) rfl rfl ?_
  refine sG 55 (.d (.dp (List.drop 3 (eRequest t0)))) rfl rfl (fun e54 => (v_field_dp (a0 := 3) (cs := (eRequest t0)) rfl · · · fo28_3 rfl)) ?_
  refine sG 56 (sV t0.mKey) rfl rfl (fun e55 => (v_load_dp1 rfl · · · onT9 (gv e55) rfl)) ?_
  refine sG 57 (iV (t0.mKey.size : Int)) rfl rfl (fun e56 => (v_len_str rfl rfl · · · und9 (gv e56))) ?_
  refine sG 58 (bV (eqI (t0.mKey.size : Int) 0)) rfl rfl (fun e57 => (v_bin rfl · · · (gv e57) rfl (b_eql rfl))) ?_
  refine sG 59 (bV (eqI (t0.mKey.size : Int) 0)) rfl rfl (fun e58 => (v_move (.inl rfl) · · · (gv e58))) ?_
  refine sH 60 (.d (.dp (List.drop 3 (eRequest t0)))) rfl rfl (fun e59 e60 => (v_field_dp (a0 := 3) (cs := (eRequest t0)) rfl · · · fo28_3 rfl)) ?_
  refine sH 61 (sV t0.mKey) rfl rfl (fun e61 e62 => (v_load_dp1 rfl · · · onT9 (gv (aT e61 (nF e62))) rfl)) ?_
  obtain ⟨t62, c65, h⟩ := bpos h
  refine sH 62 (bV t62) rfl rfl (fun e63 e64 => (w_call (ds := [(.s (.string t0.mKey))]) (caps := []) (l := [(.s (.bool t62))]) (s130 k t0.mKey _ (cpos (aT e63 (nF e64)) c65)) rfl rfl rfl en130 · · · (.inl ⟨rfl, rfl⟩) (cc (gv (aT e63 (nF e64))) rfl) rfl)) ?_
  refine sG 63 (bV ((eqI (t0.mKey.size : Int) 0) || t62)) rfl rfl (fun e66 => (v_pickB rfl · · · (gv e66) (fun e67 => rfl) (fun e68 => (gv (aT e66 (nF e68)))) (pO _ _))) ?_
  refine sT 64 (bV (((ltI 0 t0.mLimit) && (ltI t0.mLimit 9)) && ((eqI (t0.mKey.size : Int) 0) || t62))) rfl (v_pickB rfl · · · rfl (fun e69 => (gv e69)) (fun e70 => rfl) (pA _ _)) ?_
  refine sM 2 (bV (((ltI 0 t0.mLimit) && (ltI t0.mLimit 9)) && ((eqI (t0.mKey.size : Int) 0) || t62))) rfl rfl ?_
  refine sq_nil ?_
  refine ht_ret ?_
  cases h
  exact ret1 rfl (.tmp rfl)
 replace h := cneg e48 h
 refine ht_skip ?_
 refine sr ?_
 refine sT 65 (.d (.dp (List.drop 2 (eRequest t0)))) rfl (v_field_dp (a0 := 2) (cs := (eRequest t0)) rfl · · · fo28_2 rfl) ?_
 refine sT 66 (iV t0.mKind) rfl (v_load_dp1 rfl · · · onT3 rfl rfl) ?_
 refine sT 67 (bV (ltI 0 t0.mKind)) rfl (v_bin rfl · · · rfl rfl (b_gtr rfl)) ?_
 refine sM 68 (bV (ltI 0 t0.mKind)) rfl rfl ?_
 refine sG 69 (.d (.dp (List.drop 2 (eRequest t0)))) rfl rfl (fun e71 => (v_field_dp (a0 := 2) (cs := (eRequest t0)) rfl · · · fo28_2 rfl)) ?_
 refine sG 70 (iV t0.mKind) rfl rfl (fun e72 => (v_load_dp1 rfl · · · onT3 (gv e72) rfl)) ?_
 refine sG 71 (bV (ltI t0.mKind 6)) rfl rfl (fun e73 => (v_bin rfl · · · (gv e73) rfl (b_lss rfl))) ?_
 refine sT 72 (bV ((ltI 0 t0.mKind) && (ltI t0.mKind 6))) rfl (v_pickB rfl · · · rfl (fun e74 => (gv e74)) (fun e75 => rfl) (pA _ _)) ?_
 refine sM 73 (bV ((ltI 0 t0.mKind) && (ltI t0.mKind 6))) rfl rfl ?_
 refine sG 74 (.d (.dp (List.drop 11 (eRequest t0)))) rfl rfl (fun e76 => (v_field_dp (a0 := 11) (cs := (eRequest t0)) rfl · · · fo28_9 rfl)) ?_
 refine sG 75 (iV t0.mLimit) rfl rfl (fun e77 => (v_load_dp1 rfl · · · onT3 (gv e77) rfl)) ?_
 refine sG 76 (bV (leI 0 t0.mLimit)) rfl rfl (fun e78 => (v_bin rfl · · · (gv e78) rfl (b_geq rfl))) ?_
 refine sT 77 (bV (((ltI 0 t0.mKind) && (ltI t0.mKind 6)) && (leI 0 t0.mLimit))) rfl (v_pickB rfl · · · rfl (fun e79 => (gv e79)) (fun e80 => rfl) (pA _ _)) ?_
 refine sM 78 (bV (((ltI 0 t0.mKind) && (ltI t0.mKind 6)) && (leI 0 t0.mLimit))) rfl rfl ?_
 refine sG 79 (.d (.dp (List.drop 11 (eRequest t0)))) rfl rfl (fun e81 => (v_field_dp (a0 := 11) (cs := (eRequest t0)) rfl · · · fo28_9 rfl)) ?_
 refine sG 80 (iV t0.mLimit) rfl rfl (fun e82 => (v_load_dp1 rfl · · · onT3 (gv e82) rfl)) ?_
 refine sG 81 (bV (ltI t0.mLimit 9)) rfl rfl (fun e83 => (v_bin rfl · · · (gv e83) rfl (b_lss rfl))) ?_
 refine sT 82 (bV ((((ltI 0 t0.mKind) && (ltI t0.mKind 6)) && (leI 0 t0.mLimit)) && (ltI t0.mLimit 9))) rfl (v_pickB rfl · · · rfl (fun e84 => (gv e84)) (fun e85 => rfl) (pA _ _)) ?_
 refine sM 83 (bV ((((ltI 0 t0.mKind) && (ltI t0.mKind 6)) && (leI 0 t0.mLimit)) && (ltI t0.mLimit 9))) rfl rfl ?_
 refine sG 84 (.d (.dp (List.drop 3 (eRequest t0)))) rfl rfl (fun e86 => (v_field_dp (a0 := 3) (cs := (eRequest t0)) rfl · · · fo28_3 rfl)) ?_
 refine sG 85 (sV t0.mKey) rfl rfl (fun e87 => (v_load_dp1 rfl · · · onT9 (gv e87) rfl)) ?_
 obtain ⟨t86, c89, h⟩ := bpos h
 refine sG 86 (bV t86) rfl rfl (fun e88 => (w_call (ds := [(.s (.string t0.mKey))]) (caps := []) (l := [(.s (.bool t86))]) (s130 k t0.mKey _ (cpos e88 c89)) rfl rfl rfl en130 · · · (.inl ⟨rfl, rfl⟩) (cc (gv e88) rfl) rfl)) ?_
 refine sT 87 (bV (((((ltI 0 t0.mKind) && (ltI t0.mKind 6)) && (leI 0 t0.mLimit)) && (ltI t0.mLimit 9)) && t86)) rfl (v_pickB rfl · · · rfl (fun e90 => (gv e90)) (fun e91 => rfl) (pA _ _)) ?_
 refine sM 2 (bV (((((ltI 0 t0.mKind) && (ltI t0.mKind 6)) && (leI 0 t0.mLimit)) && (ltI t0.mLimit 9)) && t86)) rfl rfl ?_
 refine sq_nil ?_
 refine ht_ret ?_
 cases h
 exact ret1 rfl (.tmp rfl)
theorem s70 (k : Nat) (t0 : Int) (r : Answer) (h : F70 k t0 = some r) : Awp.Spec Tryz.prog amb 70 [(.s (.int .i64 t0))] (.ds [(.agg (eAnswer r))]) := by
 rw [F70] at h
 refine spec_of Tryz.func70 rfl (ble _ _ rfl) fun w0 ok0 lt0 hA => ?_
 refine sr ?_
 refine sq_cons _ (v_alloc (id := 2) (cs := zc34) rfl trivial rfl (ble _ _ rfl) zu34 rfl ft34 rfl) ?_
 refine sq_nil ?_
 refine sr ?_
 refine sM 3 (iV t0) rfl rfl ?_
 refine sT 4 (.d (.agg (eAnswer (⟨t0, (⟨0, 0, 0⟩ : Stamp), false, (⟨#[]⟩ : ByteArray), ([] : List Item), (⟨#[]⟩ : ByteArray), false⟩ : Answer)))) rfl (w_bld zc34 ((eAnswer (⟨t0, (⟨0, 0, 0⟩ : Stamp), false, (⟨#[]⟩ : ByteArray), ([] : List Item), (⟨#[]⟩ : ByteArray), false⟩ : Answer)).map V.d) [(0, iV t0)] rfl · · · zw34 rfl ft34 rfl rfl rfl rfl) ?_
 refine sq_cons _ (v_store_box (id := 2) (off := 0) (cs := (eAnswer (⟨t0, (⟨0, 0, 0⟩ : Stamp), false, (⟨#[]⟩ : ByteArray), ([] : List Item), (⟨#[]⟩ : ByteArray), false⟩ : Answer)).map V.d) rfl trivial rfl sz34 rfl rfl rfl rfl (ones_of rfl) (ble _ _ rfl)) ?_
 refine sq_nil ?_
 refine ht_ret ?_
 cases h
 exact ret1 rfl (.cell rfl rfl ag34 (ble _ _ rfl) rfl)
theorem s24 (k : Nat) (t0 : Cell) (t1 : Int) (r : Shard) (h : F24 k t0 t1 = some r) : Awp.Spec Tryz.prog amb 24 [(.agg (eCell t0)), (.s (.int .i64 t1))] (.ds [(.agg (eShard r))]) := by
 rw [F24] at h
 refine spec_of Tryz.func24 rfl (ble _ _ rfl) fun w0 ok0 lt0 hA => ?_
 refine sr ?_
 refine sT 2 (.d (.dp (eCell t0))) rfl (v_box_d (cs := (eCell t0)) rfl · · · rfl rfl (ones_of rfl)) ?_
 refine sq_cons _ (v_alloc (id := 4) (cs := zc45) rfl trivial rfl (ble _ _ rfl) zu45 rfl ft45 rfl) ?_
 refine sq_nil ?_
 refine ht_gj (go_id' h) (fun _ => tell [(.b 4, .box false 17), (.c 4 0, iV 0), (.c 4 1, iV 0), (.c 4 2, sV (⟨#[]⟩ : ByteArray)), (.c 4 3, sV (⟨#[]⟩ : ByteArray)), (.c 4 4, iV 0), (.c 4 5, .d (.sl 2 (([] : List Entry).map eEntry))), (.c 4 6, iV 0), (.c 4 7, iV 0), (.c 4 8, iV 0), (.c 4 9, iV 0), (.c 4 10, iV 0), (.c 4 11, iV 0), (.c 4 12, .d (.sl 11 (([] : List Done).map eDone))), (.c 4 13, iV 0), (.c 4 14, iV 0), (.c 4 15, iV 0), (.c 4 16, iV 0), (.t 4, .ptr 4 0)]) (fun _ h => ?_) (fun v1 K2 h j4 r5 => ?_)
 ·refine sr ?_
  refine sT 26 (.d (.agg (eShard (⟨0, 0, (⟨⟨#[]⟩, ⟨#[]⟩⟩ : Span), 0, [], (⟨0, 0, 0⟩ : Stamp), (⟨0, 0, 0⟩ : Stamp), [], 0, 0, 0, 0⟩ : Shard)))) rfl (w_bld zc45 ((eShard (⟨0, 0, (⟨⟨#[]⟩, ⟨#[]⟩⟩ : Span), 0, [], (⟨0, 0, 0⟩ : Stamp), (⟨0, 0, 0⟩ : Stamp), [], 0, 0, 0, 0⟩ : Shard)).map V.d) [] rfl · · · zw45 rfl ft45 rfl rfl rfl rfl) ?_
  refine sq_cons _ (v_store_box (id := 4) (off := 0) (cs := (eShard (⟨0, 0, (⟨⟨#[]⟩, ⟨#[]⟩⟩ : Span), 0, [], (⟨0, 0, 0⟩ : Stamp), (⟨0, 0, 0⟩ : Stamp), [], 0, 0, 0, 0⟩ : Shard)).map V.d) rfl trivial rfl sz45 rfl rfl rfl rfl (ones_of rfl) (ble _ _ rfl)) ?_
  refine sq_nil ?_
  refine ht_ret ?_
  cases h
  exact ret1 rfl (.cell rfl rfl ag45 (ble _ _ rfl) rfl)
 refine sr ?_
 refine sM 5 (iV 0) rfl rfl ?_
 refine sq_nil ?_
 refine ht_block ?_
 refine ht_rd h (fun _ => rfl) (fun t5 => tell [(.b 4, .box false 17), (.c 4 0, iV 0), (.c 4 1, iV 0), (.c 4 2, sV (⟨#[]⟩ : ByteArray)), (.c 4 3, sV (⟨#[]⟩ : ByteArray)), (.c 4 4, iV 0), (.c 4 5, .d (.sl 2 (([] : List Entry).map eEntry))), (.c 4 6, iV 0), (.c 4 7, iV 0), (.c 4 8, iV 0), (.c 4 9, iV 0), (.c 4 10, iV 0), (.c 4 11, iV 0), (.c 4 12, .d (.sl 11 (([] : List Done).map eDone))), (.c 4 13, iV 0), (.c 4 14, iV 0), (.c 4 15, iV 0), (.c 4 16, iV 0), (.t 1, iV t1), (.t 2, .d (.dp (eCell t0))), (.t 4, .ptr 4 0), (.t 5, iV t5)]) (wk_ren _ (fun i => i) rfl ⟨rfl, rfl, rfl, rfl, rfl, rfl, rfl, rfl, rfl, rfl, rfl, rfl, rfl, rfl, rfl, rfl, rfl, rfl, rfl, rfl, rfl, rfl, trivial⟩) fun k t5 h K13 j7 => ?_
 rw [F24_l1] at h
 refine ht_seq ?_
 refine sr ?_
 refine sM 6 (iV t5) rfl rfl ?_
 refine sT 7 (.d (.dp (eCell t0))) rfl (v_field_dp (a0 := 0) (cs := (eCell t0)) rfl · · · fo26_0 rfl) ?_
 refine sT 8 (.d (.sl 17 (t0.mShards.map eShard))) rfl (v_load_dp1 rfl · · · onT22 rfl rfl) ?_
 refine sT 9 (iV (t0.mShards.length : Int)) rfl (w_len t0.mShards eShard rfl rfl · · · slT22 rfl) ?_
 refine sT 10 (bV (ltI t5 (t0.mShards.length : Int))) rfl (v_bin rfl · · · rfl rfl (b_lss rfl)) ?_
 refine sq_nil ?_
 refine ht_cond rfl (fun e9 => ?_) (fun e9 => ?_)
 ·replace h := cpos e9 h
  refine ht_skip ?_
  refine ht_seq ?_
  refine ht_block ?_
  refine sr ?_
  refine sT 13 (.d (.dp (eCell t0))) rfl (v_field_dp (a0 := 0) (cs := (eCell t0)) rfl · · · fo26_0 rfl) ?_
  refine sT 14 (.d (.sl 17 (t0.mShards.map eShard))) rfl (v_load_dp1 rfl · · · onT22 rfl rfl) ?_
  refine sM 15 (iV t5) rfl rfl ?_
  obtain ⟨e10, h⟩ := gpos h
  refine sT 16 (.d (.dp (eShard (rd t0.mShards t5)))) rfl (w_idx t0.mShards eShard rfl · · · slT22 rfl rfl e10) ?_
  refine sT 17 (.d (.dp (eShard (rd t0.mShards t5)))) rfl (v_field_dp (a0 := 0) (cs := (eShard (rd t0.mShards t5))) rfl · · · fo45_0 rfl) ?_
  refine sT 18 (iV (rd t0.mShards t5).mID) rfl (v_load_dp1 rfl · · · onT3 rfl rfl) ?_
  refine sM 19 (iV t1) rfl rfl ?_
  refine sT 20 (bV (eqI (rd t0.mShards t5).mID t1)) rfl (v_bin rfl · · · rfl rfl (b_eql rfl)) ?_
  refine sq_nil ?_
  refine ht_cond rfl (fun e11 => ?_) (fun e11 => ?_)
  ·replace h := cpos e11 h
   refine sr ?_
   refine sT 21 (.d (.dp (eCell t0))) rfl (v_field_dp (a0 := 0) (cs := (eCell t0)) rfl · · · fo26_0 rfl) ?_
   refine sT 22 (.d (.sl 17 (t0.mShards.map eShard))) rfl (v_load_dp1 rfl · · · onT22 rfl rfl) ?_
   refine sM 23 (iV t5) rfl rfl ?_
   obtain ⟨e12, h⟩ := gpos h
   refine sT 24 (.d (.dp (eShard (rd t0.mShards t5)))) rfl (w_idx t0.mShards eShard rfl · · · slT22 rfl rfl e12) ?_
   refine sT 25 (.d (.agg (eShard (rd t0.mShards t5)))) rfl (w_ldp (eShard (rd t0.mShards t5)) (eShard (rd t0.mShards t5)) rfl · · · ag45 rfl (ble _ _ rfl) rfl) ?_
   refine sq_cons _ (v_store_box (id := 4) (off := 0) (cs := (eShard (rd t0.mShards t5)).map V.d) rfl trivial rfl sz45 rfl rfl rfl rfl (ones_of rfl) (ble _ _ rfl)) ?_
   refine sq_nil ?_
   refine ht_ret ?_
   cases h
   cases r5 _ rfl
   exact ret1 rfl (.cell rfl rfl ag45 (ble _ _ rfl) rfl)
  replace h := cneg e11 h
  refine ht_skip ?_
  refine ht_region ?_
  refine sM 11 (iV t5) rfl rfl ?_
  refine sT 12 (iV (IntKind.wrap .i64 (t5 + 1))) rfl (v_bin rfl · · · rfl rfl (b_add rfl)) ?_
  refine sM 5 (iV (IntKind.wrap .i64 (t5 + 1))) rfl rfl ?_
  refine sq_nil ?_
  exact j7 _ _ h (wk_ren _ (fun i => i) rfl ⟨rfl, rfl, rfl, rfl, rfl, rfl, rfl, rfl, rfl, rfl, rfl, rfl, rfl, rfl, rfl, rfl, rfl, rfl, rfl, rfl, rfl, rfl, trivial⟩)
 replace h := cneg e9 h
 refine ht_exit ?_
 refine tq ?_
 refine tq ?_
 refine bq_hit ?_
 cases h
 exact j4 _ _ rfl (wk_ren _ (fun i => i) rfl ⟨rfl, rfl, rfl, rfl, rfl, rfl, rfl, rfl, rfl, rfl, rfl, rfl, rfl, rfl, rfl, rfl, rfl, rfl, rfl, trivial⟩)
theorem s72 (k : Nat) (t0 : List Entry) (t1 : ByteArray) (r : (List Version)) (h : F72 k t0 t1 = some r) : Awp.Spec Tryz.prog amb 72 [(.sl 2 (t0.map eEntry)), (.s (.string t1))] (.ds [(.sl 5 (r.map eVersion))]) := by
 rw [F72] at h
 refine spec_of Tryz.func72 rfl (ble _ _ rfl) fun w0 ok0 lt0 hA => ?_
 refine sr ?_
 refine sM 4 (.d (.s (.slice none 0 0))) rfl rfl ?_
 refine sq_nil ?_
 refine ht_gj (go_id' h) (fun _ => tell []) (fun _ h => ?_) (fun v1 K2 h j4 r5 => ?_)
 ·refine sr ?_
  refine sM 4 (.d (.s (.slice none 0 0))) rfl rfl ?_
  refine sq_nil ?_
  refine ht_ret ?_
  cases h
  exact retM_wk (wk_nil (.t 4) (nb 4) 5 rfl) (ret1 rfl (.tmp rfl))
 refine sr ?_
 refine sM 5 (iV 0) rfl rfl ?_
 refine sq_nil ?_
 refine ht_block ?_
 refine ht_rd h (fun _ => rfl) (fun t5 => tell [(.t 0, .d (.sl 2 (t0.map eEntry))), (.t 1, sV t1), (.t 5, iV t5)]) (wk_ren _ (fun i => i) rfl ⟨rfl, rfl, rfl, trivial⟩) fun k t5 h K13 j7 => ?_
 rw [F72_l1] at h
 refine ht_seq ?_
 refine sr ?_
 refine sM 6 (iV t5) rfl rfl ?_
 refine sM 7 (.d (.sl 2 (t0.map eEntry))) rfl rfl ?_
 refine sT 8 (iV (t0.length : Int)) rfl (w_len t0 eEntry rfl rfl · · · slT42 rfl) ?_
 refine sT 9 (bV (ltI t5 (t0.length : Int))) rfl (v_bin rfl · · · rfl rfl (b_lss rfl)) ?_
 refine sq_nil ?_
 refine ht_cond rfl (fun e9 => ?_) (fun e9 => ?_)
 ·replace h := cpos e9 h
  refine ht_skip ?_
  refine ht_seq ?_
  refine ht_block ?_
  refine sr ?_
  refine sM 12 (.d (.sl 2 (t0.map eEntry))) rfl rfl ?_
  refine sM 13 (iV t5) rfl rfl ?_
  obtain ⟨e10, h⟩ := gpos h
  refine sT 14 (.d (.dp (eEntry (rd t0 t5)))) rfl (w_idx t0 eEntry rfl · · · slT42 rfl rfl e10) ?_
  refine sT 15 (.d (.dp (eEntry (rd t0 t5)))) rfl (v_field_dp (a0 := 0) (cs := (eEntry (rd t0 t5))) rfl · · · fo116_0 rfl) ?_
  refine sT 16 (sV (rd t0 t5).mKey) rfl (v_load_dp1 rfl · · · onT9 rfl rfl) ?_
  refine sM 17 (sV t1) rfl rfl ?_
  refine sT 18 (bV (strEq (rd t0 t5).mKey t1)) rfl (v_bin rfl · · · rfl rfl (b_eqS rfl)) ?_
  refine sq_nil ?_
  refine ht_cond rfl (fun e11 => ?_) (fun e11 => ?_)
  ·replace h := cpos e11 h
   refine sr ?_
   refine sM 19 (.d (.sl 2 (t0.map eEntry))) rfl rfl ?_
   refine sM 20 (iV t5) rfl rfl ?_
   obtain ⟨e12, h⟩ := gpos h
   refine sT 21 (.d (.dp (eEntry (rd t0 t5)))) rfl (w_idx t0 eEntry rfl · · · slT42 rfl rfl e12) ?_
   refine sT 22 (.d (.dp (List.drop 1 (eEntry (rd t0 t5))))) rfl (v_field_dp (a0 := 1) (cs := (eEntry (rd t0 t5))) rfl · · · fo116_1 rfl) ?_
   refine sT 23 (.d (.sl 5 ((rd t0 t5).mChain.map eVersion))) rfl (v_load_dp1 rfl · · · onT96 rfl rfl) ?_
   refine sM 4 (.d (.sl 5 ((rd t0 t5).mChain.map eVersion))) rfl rfl ?_
   refine sq_nil ?_
   refine ht_ret ?_
   cases h
   cases r5 _ rfl
   exact ret1 rfl (.tmp rfl)
  replace h := cneg e11 h
  refine ht_skip ?_
  refine ht_region ?_
  refine sM 10 (iV t5) rfl rfl ?_
  refine sT 11 (iV (IntKind.wrap .i64 (t5 + 1))) rfl (v_bin rfl · · · rfl rfl (b_add rfl)) ?_
  refine sM 5 (iV (IntKind.wrap .i64 (t5 + 1))) rfl rfl ?_
  refine sq_nil ?_
  exact j7 _ _ h (wk_ren _ (fun i => i) rfl ⟨rfl, rfl, rfl, trivial⟩)
 replace h := cneg e9 h
 refine ht_exit ?_
 refine tq ?_
 refine tq ?_
 refine bq_hit ?_
 cases h
 exact j4 _ _ rfl (wk_ren _ (fun i => i) rfl trivial)
theorem s71 (k : Nat) (t0 : List Version) (t1 : Stamp) (r : Version × Bool) (h : F71 k t0 t1 = some r) : Awp.Spec Tryz.prog amb 71 [(.sl 5 (t0.map eVersion)), (.agg (eStamp t1))] (.ds [(.agg (eVersion r.1)), (.s (.bool r.2))]) := by
 rw [F71] at h
 refine spec_of Tryz.func71 rfl (ble _ _ rfl) fun w0 ok0 lt0 hA => ?_
 refine sr ?_
 refine sT 3 (.d (.dp (eStamp t1))) rfl (v_box_d (cs := (eStamp t1)) rfl · · · rfl rfl (ones_of rfl)) ?_
 refine sq_cons _ (v_alloc (id := 4) (cs := zc93) rfl trivial rfl (ble _ _ rfl) zu93 rfl ft93 rfl) ?_
 refine sM 5 (bV false) rfl rfl ?_
 refine sq_nil ?_
 refine sr ?_
 refine sT 9 (.d (.agg (eVersion (⟨(⟨0, 0, 0⟩ : Stamp), false, ⟨#[]⟩⟩ : Version)))) rfl (w_bld zc93 ((eVersion (⟨(⟨0, 0, 0⟩ : Stamp), false, ⟨#[]⟩⟩ : Version)).map V.d) [] rfl · · · zw93 rfl ft93 rfl rfl rfl rfl) ?_
 refine sq_cons _ (v_alloc (id := 6) (cs := zc93) rfl trivial rfl (ble _ _ rfl) zu93 rfl ft93 rfl) ?_
 refine sq_cons _ (v_store_box (id := 6) (off := 0) (cs := (eVersion (⟨(⟨0, 0, 0⟩ : Stamp), false, ⟨#[]⟩⟩ : Version)).map V.d) rfl trivial rfl sz93 rfl rfl rfl rfl (ones_of rfl) (ble _ _ rfl)) ?_
 refine sM 7 (bV false) rfl rfl ?_
 refine sq_nil ?_
 refine ht_bj h (fun (t7, t6c0, t6c1, t6c2, t6c3, t6c4) => tell [(.b 4, .box false 5), (.b 6, .box false 5), (.c 4 0, iV 0), (.c 4 1, iV 0), (.c 4 2, iV 0), (.c 4 3, bV false), (.c 4 4, sV (⟨#[]⟩ : ByteArray)), (.c 6 0, iV t6c0), (.c 6 1, iV t6c1), (.c 6 2, iV t6c2), (.c 6 3, bV t6c3), (.c 6 4, sV t6c4), (.t 4, .ptr 4 0), (.t 6, .ptr 6 0), (.t 7, bV t7)]) (fun v1 h => ?_) (fun v1 K2 h j4 => ?_)
 ·obtain ⟨t7, t6c0, t6c1, t6c2, t6c3, t6c4⟩ := v1
  refine sr ?_
  refine sT 32 (.d (.agg (eVersion (⟨(⟨t6c0, t6c1, t6c2⟩ : Stamp), t6c3, t6c4⟩ : Version)))) rfl (w_ldb 6 0 rfl · · · ag93 rfl rfl (ble _ _ rfl) rfl) ?_
  refine sM 33 (bV t7) rfl rfl ?_
  refine sq_cons _ (v_store_box (id := 4) (off := 0) (cs := (eVersion (⟨(⟨t6c0, t6c1, t6c2⟩ : Stamp), t6c3, t6c4⟩ : Version)).map V.d) rfl trivial rfl sz93 rfl rfl rfl rfl (ones_of rfl) (ble _ _ rfl)) ?_
  refine sM 5 (bV t7) rfl rfl ?_
  refine sq_nil ?_
  refine ht_ret ?_
  cases h
  exact ret2 rfl (.cell rfl rfl ag93 (ble _ _ rfl) rfl) (.tmp rfl)
 refine sr ?_
 refine sM 8 (iV 0) rfl rfl ?_
 refine sq_nil ?_
 refine ht_block ?_
 refine ht_rd h (fun _ => rfl) (fun (t7_1, t8, t6c0_1, t6c1_1, t6c2_1, t6c3_1, t6c4_1) => tell [(.b 4, .box false 5), (.b 6, .box false 5), (.c 4 0, iV 0), (.c 4 1, iV 0), (.c 4 2, iV 0), (.c 4 3, bV false), (.c 4 4, sV (⟨#[]⟩ : ByteArray)), (.c 6 0, iV t6c0_1), (.c 6 1, iV t6c1_1), (.c 6 2, iV t6c2_1), (.c 6 3, bV t6c3_1), (.c 6 4, sV t6c4_1), (.t 0, .d (.sl 5 (t0.map eVersion))), (.t 3, .d (.dp (eStamp t1))), (.t 4, .ptr 4 0), (.t 6, .ptr 6 0), (.t 7, bV t7_1), (.t 8, iV t8)]) (wk_ren _ (fun i => i) rfl ⟨rfl, rfl, rfl, rfl, rfl, rfl, rfl, rfl, rfl, rfl, rfl, rfl, rfl, rfl, rfl, rfl, rfl, rfl, trivial⟩) fun k v8 h K19 j7 => ?_
 obtain ⟨t7_1, t8, t6c0_1, t6c1_1, t6c2_1, t6c3_1, t6c4_1⟩ := v8
 rw [F71_l1] at h
 refine ht_seq ?_
 refine sr ?_
 refine sM 10 (iV t8) rfl rfl ?_
 refine sM 11 (.d (.sl 5 (t0.map eVersion))) rfl rfl ?_
 refine sT 12 (iV (t0.length : Int)) rfl (w_len t0 eVersion rfl rfl · · · slT96 rfl) ?_
 refine sT 13 (bV (ltI t8 (t0.length : Int))) rfl (v_bin rfl · · · rfl rfl (b_lss rfl)) ?_
 refine sM 14 (bV (ltI t8 (t0.length : Int))) rfl rfl ?_
 refine sG 15 (.d (.sl 5 (t0.map eVersion))) rfl rfl (fun e9 => (v_move (.inl rfl) · · · rfl)) ?_
 obtain ⟨t16, c11, h⟩ := bpos h
 refine sG 16 (bV t16) rfl rfl (fun e10 => (w_call (ds := [(.sl 5 (t0.map eVersion))]) (caps := []) (l := [(.s (.bool t16))]) (s131 k t0 _ (cpos e10 c11)) rfl rfl rfl en131 · · · (.inl ⟨rfl, rfl⟩) (cc (gv e10) rfl) rfl)) ?_
 refine sT 17 (bV ((ltI t8 (t0.length : Int)) && t16)) rfl (v_pickB rfl · · · rfl (fun e12 => (gv e12)) (fun e13 => rfl) (pA _ _)) ?_
 refine sq_nil ?_
 refine ht_cond rfl (fun e14 => ?_) (fun e14 => ?_)
 ·replace h := cpos e14 h
  refine ht_skip ?_
  refine ht_seq ?_
  refine ht_block ?_
  refine ht_seq ?_
  refine ht_region_draw mixed ?_
  refine rT 20 (.d (.agg (eStamp t1))) rfl (w_ldp (eStamp t1) (eStamp t1) rfl · · · ag24 rfl (ble _ _ rfl) rfl) ?_
  refine rM 21 (.d (.sl 5 (t0.map eVersion))) rfl rfl ?_
  refine rM 22 (iV t8) rfl rfl ?_
  obtain ⟨e15, h⟩ := gpos h
  refine rT 23 (.d (.dp (eVersion (rd t0 t8)))) rfl (w_idx t0 eVersion rfl · · · slT96 rfl rfl e15) ?_
  refine rT 24 (.d (.dp (eVersion (rd t0 t8)))) rfl (v_field_dp (a0 := 0) (cs := (eVersion (rd t0 t8))) rfl · · · fo93_0 rfl) ?_
  refine rT 25 (.d (.agg (eStamp (rd t0 t8).mAt))) rfl (w_ldp (eVersion (rd t0 t8)) (eStamp (rd t0 t8).mAt) rfl · · · ag24 rfl (ble _ _ rfl) rfl) ?_
  obtain ⟨t26, c16, h⟩ := bpos h
  refine rT 26 (bV t26) rfl (w_call (ds := [(.agg (eStamp t1)), (.agg (eStamp (rd t0 t8).mAt))]) (caps := []) (l := [(.s (.bool t26))]) (s76 k t1 (rd t0 t8).mAt _ c16) rfl rfl rfl en76 · · · (.inl ⟨rfl, rfl⟩) rfl rfl) ?_
  refine rT 27 (bV (!t26)) rfl (v_un rfl · · · rfl (u_not rfl)) ?_
  refine rg_nil ⟨by kernel_rfl, ?_⟩
  refine ht_cond rfl (fun e17 => ?_) (fun e17 => ?_)
  ·replace h := cpos e17 h
   refine ht_region ?_
   refine sM 28 (.d (.sl 5 (t0.map eVersion))) rfl rfl ?_
   refine sM 29 (iV t8) rfl rfl ?_
   obtain ⟨e18, h⟩ := gpos h
   refine sT 30 (.d (.dp (eVersion (rd t0 t8)))) rfl (w_idx t0 eVersion rfl · · · slT96 rfl rfl e18) ?_
   refine sT 31 (.d (.agg (eVersion (rd t0 t8)))) rfl (w_ldp (eVersion (rd t0 t8)) (eVersion (rd t0 t8)) rfl · · · ag93 rfl (ble _ _ rfl) rfl) ?_
   refine sq_cons _ (v_store_box (id := 6) (off := 0) (cs := (eVersion (rd t0 t8)).map V.d) rfl trivial rfl sz93 rfl rfl rfl rfl (ones_of rfl) (ble _ _ rfl)) ?_
   refine sM 7 (bV true) rfl rfl ?_
   refine sq_nil ?_
   refine ht_region ?_
   refine sM 18 (iV t8) rfl rfl ?_
   refine sT 19 (iV (IntKind.wrap .i64 (t8 + 1))) rfl (v_bin rfl · · · rfl rfl (b_add rfl)) ?_
   refine sM 8 (iV (IntKind.wrap .i64 (t8 + 1))) rfl rfl ?_
   refine sq_nil ?_
   exact j7 _ _ h (wk_ren _ (fun i => i) rfl ⟨rfl, rfl, rfl, rfl, rfl, rfl, rfl, rfl, rfl, rfl, rfl, rfl, rfl, rfl, rfl, rfl, rfl, rfl, trivial⟩)
  replace h := cneg e17 h
  refine ht_skip ?_
  refine ht_region ?_
  refine sM 18 (iV t8) rfl rfl ?_
  refine sT 19 (iV (IntKind.wrap .i64 (t8 + 1))) rfl (v_bin rfl · · · rfl rfl (b_add rfl)) ?_
  refine sM 8 (iV (IntKind.wrap .i64 (t8 + 1))) rfl rfl ?_
  refine sq_nil ?_
  exact j7 _ _ h (wk_ren _ (fun i => i) rfl ⟨rfl, rfl, rfl, rfl, rfl, rfl, rfl, rfl, rfl, rfl, rfl, rfl, rfl, rfl, rfl, rfl, rfl, rfl, trivial⟩)
 replace h := cneg e14 h
 refine ht_exit ?_
 refine tq ?_
 refine tq ?_
 refine bq_hit ?_
 cases h
 exact j4 _ (wk_ren _ (fun i => i) rfl ⟨rfl, rfl, rfl, rfl, rfl, rfl, rfl, rfl, rfl, rfl, rfl, rfl, rfl, rfl, rfl, trivial⟩)
theorem s97 (k : Nat) (t0 : Stamp) (t1 : Stamp) (r : Stamp) (h : F97 k t0 t1 = some r) : Awp.Spec Tryz.prog amb 97 [(.agg (eStamp t0)), (.agg (eStamp t1))] (.ds [(.agg (eStamp r))]) := by
 rw [F97] at h
 refine spec_of Tryz.func97 rfl (ble _ _ rfl) fun w0 ok0 lt0 hA => ?_
 refine sr ?_
 refine sT 2 (.d (.dp (eStamp t0))) rfl (v_box_d (cs := (eStamp t0)) rfl · · · rfl rfl (ones_of rfl)) ?_
 refine sT 3 (.d (.dp (eStamp t1))) rfl (v_box_d (cs := (eStamp t1)) rfl · · · rfl rfl (ones_of rfl)) ?_
 refine sq_cons _ (v_alloc (id := 4) (cs := zc24) rfl trivial rfl (ble _ _ rfl) zu24 rfl ft24 rfl) ?_
 refine sq_nil ?_
 refine ht_seq ?_
 refine sr ?_
 refine sT 5 (.d (.agg (eStamp t0))) rfl (w_ldp (eStamp t0) (eStamp t0) rfl · · · ag24 rfl (ble _ _ rfl) rfl) ?_
 refine sT 6 (.d (.agg (eStamp t1))) rfl (w_ldp (eStamp t1) (eStamp t1) rfl · · · ag24 rfl (ble _ _ rfl) rfl) ?_
 obtain ⟨t7, c1, h⟩ := bpos h
 refine sT 7 (bV t7) rfl (w_call (ds := [(.agg (eStamp t0)), (.agg (eStamp t1))]) (caps := []) (l := [(.s (.bool t7))]) (s76 k t0 t1 _ c1) rfl rfl rfl en76 · · · (.inl ⟨rfl, rfl⟩) rfl rfl) ?_
 refine sq_nil ?_
 refine ht_cond rfl (fun e2 => ?_) (fun e2 => ?_)
 ·replace h := cpos e2 h
  refine sr ?_
  refine sT 8 (.d (.agg (eStamp t1))) rfl (w_ldp (eStamp t1) (eStamp t1) rfl · · · ag24 rfl (ble _ _ rfl) rfl) ?_
  refine sq_cons _ (v_store_box (id := 4) (off := 0) (cs := (eStamp t1).map V.d) rfl trivial rfl sz24 rfl rfl rfl rfl (ones_of rfl) (ble _ _ rfl)) ?_
  refine sq_nil ?_
  refine ht_ret ?_
  cases h
  exact ret1 rfl (.cell rfl rfl ag24 (ble _ _ rfl) rfl)
 replace h := cneg e2 h
 refine ht_skip ?_
 refine sr ?_
 refine sT 9 (.d (.agg (eStamp t0))) rfl (w_ldp (eStamp t0) (eStamp t0) rfl · · · ag24 rfl (ble _ _ rfl) rfl) ?_
 refine sq_cons _ (v_store_box (id := 4) (off := 0) (cs := (eStamp t0).map V.d) rfl trivial rfl sz24 rfl rfl rfl rfl (ones_of rfl) (ble _ _ rfl)) ?_
 refine sq_nil ?_
 refine ht_ret ?_
 cases h
 exact ret1 rfl (.cell rfl rfl ag24 (ble _ _ rfl) rfl)
theorem s132 (k : Nat) (t0 : List Version) (t1 : Stamp) (r : ByteArray × Bool) (h : F132 k t0 t1 = some r) : Awp.Spec Tryz.prog amb 132 [(.sl 5 (t0.map eVersion)), (.agg (eStamp t1))] (.ds [(.s (.string r.1)), (.s (.bool r.2))]) := by
 rw [F132] at h
 refine spec_of Tryz.func132 rfl (ble _ _ rfl) fun w0 ok0 lt0 hA => ?_
 refine sr ?_
 refine sT 3 (.d (.dp (eStamp t1))) rfl (v_box_d (cs := (eStamp t1)) rfl · · · rfl rfl (ones_of rfl)) ?_
 refine sM 4 (sV (⟨#[]⟩ : ByteArray)) rfl rfl ?_
 refine sM 5 (bV false) rfl rfl ?_
 refine sq_nil ?_
 refine sr ?_
 refine sM 9 (.d (.sl 5 (t0.map eVersion))) rfl rfl ?_
 refine sT 10 (.d (.agg (eStamp t1))) rfl (w_ldp (eStamp t1) (eStamp t1) rfl · · · ag24 rfl (ble _ _ rfl) rfl) ?_
 obtain ⟨⟨t11a, t11b⟩, c1, h⟩ := bpos h
 refine sT 11 (.tup [.d (.agg (eVersion t11a)), bV t11b]) rfl (w_call (ds := [(.sl 5 (t0.map eVersion)), (.agg (eStamp t1))]) (caps := []) (l := [(.agg (eVersion t11a)), (.s (.bool t11b))]) (s71 k t0 t1 _ c1) rfl rfl rfl en71 · · · (.inl ⟨rfl, rfl⟩) rfl rfl) ?_
 refine sM 8 (.tup [.d (.agg (eVersion t11a)), bV t11b]) rfl rfl ?_
 refine sT 12 (.d (.agg (eVersion t11a))) rfl (v_extract rfl · · · rfl rfl) ?_
 refine sT 13 (bV t11b) rfl (v_extract rfl · · · rfl rfl) ?_
 refine sq_cons _ (v_alloc (id := 6) (cs := zc93) rfl trivial rfl (ble _ _ rfl) zu93 rfl ft93 rfl) ?_
 refine sq_cons _ (v_store_box (id := 6) (off := 0) (cs := (eVersion t11a).map V.d) rfl trivial rfl sz93 rfl rfl rfl rfl (ones_of rfl) (ble _ _ rfl)) ?_
 refine sM 7 (bV t11b) rfl rfl ?_
 refine sq_nil ?_
 refine ht_seq ?_
 refine sr ?_
 refine sM 14 (bV t11b) rfl rfl ?_
 refine sT 15 (bV (!t11b)) rfl (v_un rfl · · · rfl (u_not rfl)) ?_
 refine sM 16 (bV (!t11b)) rfl rfl ?_
 refine sF 17 (.ptr 6 3) rfl rfl (fun e2 => (v_field_box (off := 0) (a0 := 3) rfl · · · fo93_1 rfl)) ?_
 refine sF 18 (bV t11a.mGone) rfl rfl (fun e3 => (v_load_box1 (id := 6) (off := 3) rfl · · · onT4 (gv (nF e3)) rfl (ble _ _ rfl) rfl)) ?_
 refine sT 19 (bV ((!t11b) || t11a.mGone)) rfl (v_pickB rfl · · · rfl (fun e4 => rfl) (fun e5 => (gv (nF e5))) (pO _ _)) ?_
 refine sq_nil ?_
 refine ht_cond rfl (fun e6 => ?_) (fun e6 => ?_)
 ·replace h := cpos e6 h
  refine sr ?_
  refine sM 4 (sV (⟨#[]⟩ : ByteArray)) rfl rfl ?_
  refine sM 5 (bV false) rfl rfl ?_
  refine sq_nil ?_
  refine ht_ret ?_
  cases h
  exact ret2 rfl (.tmp rfl) (.tmp rfl)
 replace h := cneg e6 h
 refine ht_skip ?_
 refine sr ?_
 refine sT 20 (.ptr 6 4) rfl (v_field_box (off := 0) (a0 := 4) rfl · · · fo93_2 rfl) ?_
 refine sT 21 (sV t11a.mValue) rfl (v_load_box1 (id := 6) (off := 4) rfl · · · onT9 rfl rfl (ble _ _ rfl) rfl) ?_
 refine sM 4 (sV t11a.mValue) rfl rfl ?_
 refine sM 5 (bV true) rfl rfl ?_
 refine sq_nil ?_
 refine ht_ret ?_
 cases h
 exact ret2 rfl (.tmp rfl) (.tmp rfl)
theorem s165 (k : Nat) (t0 : List Entry) (t1 : ByteArray) (t2 : ByteArray) (t3 : Stamp) (r : (List Item)) (h : F165 k t0 t1 t2 t3 = some r) : Awp.Spec Tryz.prog amb 165 [(.sl 2 (t0.map eEntry)), (.s (.string t1)), (.s (.string t2)), (.agg (eStamp t3))] (.ds [(.sl 2 (r.map eItem))]) := by
 rw [F165] at h
 refine spec_of Tryz.func165 rfl (ble _ _ rfl) fun w0 ok0 lt0 hA => ?_
 refine sr ?_
 refine sT 7 (.d (.dp (eStamp t3))) rfl (v_box_d (cs := (eStamp t3)) rfl · · · rfl rfl (ones_of rfl)) ?_
 refine sM 8 (.d (.s (.slice none 0 0))) rfl rfl ?_
 refine sq_nil ?_
 refine sr ?_
 refine sM 9 (.d (.s (.slice none 0 0))) rfl rfl ?_
 refine sq_nil ?_
 refine ht_bj h (fun t9 => tell [(.b 1009, .row false 110 2 (t9.map eItem)), (.t 9, .own 1009 2 t9.length)]) (fun t9 h => ?_) (fun v1 K2 h j4 => ?_)
 ·refine sr ?_
  refine sM 50 (.own 1009 2 t9.length) rfl rfl ?_
  refine sM 8 (.own 1009 2 t9.length) rfl rfl ?_
  refine sq_nil ?_
  refine ht_ret ?_
  cases h
  exact retM_wk (wk_still_row 1009 _ _ _ rfl) (retM_wk (wk_row (.t 8) (nb 8) 1009 _ _ _ _ rfl rfl (lm _ _)) (retM_wk (wk_row (.t 9) (nb 9) 1009 _ _ _ _ rfl rfl (lm _ _)) (retM_wk (wk_row (.t 50) (nb 50) 1009 _ _ _ _ rfl rfl (lm _ _)) (ret1 rfl (.tmp rfl)))))
 refine sr ?_
 refine sM 10 (iV 0) rfl rfl ?_
 refine sq_nil ?_
 refine ht_block ?_
 refine ht_rd h (fun _ => rfl) (fun (t9_1, t10) => tell [(.b 1009, .row false 110 2 (t9_1.map eItem)), (.t 0, .d (.sl 2 (t0.map eEntry))), (.t 1, sV t1), (.t 2, sV t2), (.t 7, .d (.dp (eStamp t3))), (.t 9, .own 1009 2 t9_1.length), (.t 10, iV t10)]) (wkt (wk_nilrow (.t 9) (nb 9) 1001009 110 2 rfl rfl) (wk_ren _ (fun i => bif Nat.beq i 1009 then 1001009 else i) rfl ⟨rfl, rfl, rfl, rfl, rfl, rfl, rfl, trivial⟩)) fun k v8 h K27 j7 => ?_
 obtain ⟨t9_1, t10⟩ := v8
 rw [F165_l1] at h
 refine ht_seq ?_
 refine sr ?_
 refine sM 13 (iV t10) rfl rfl ?_
 refine sM 14 (.d (.sl 2 (t0.map eEntry))) rfl rfl ?_
 refine sT 15 (iV (t0.length : Int)) rfl (w_len t0 eEntry rfl rfl · · · slT42 rfl) ?_
 refine sT 16 (bV (ltI t10 (t0.length : Int))) rfl (v_bin rfl · · · rfl rfl (b_lss rfl)) ?_
 refine sq_nil ?_
 refine ht_cond rfl (fun e9 => ?_) (fun e9 => ?_)
 ·replace h := cpos e9 h
  refine ht_skip ?_
  refine ht_seq ?_
  refine ht_block ?_
  refine ht_seq ?_
  refine ht_region_draw mixed ?_
  refine rM 20 (.d (.sl 2 (t0.map eEntry))) rfl rfl ?_
  refine rM 21 (iV t10) rfl rfl ?_
  obtain ⟨e10, h⟩ := gpos h
  refine rT 22 (.d (.dp (eEntry (rd t0 t10)))) rfl (w_idx t0 eEntry rfl · · · slT42 rfl rfl e10) ?_
  refine rT 23 (.d (.dp (List.drop 1 (eEntry (rd t0 t10))))) rfl (v_field_dp (a0 := 1) (cs := (eEntry (rd t0 t10))) rfl · · · fo116_1 rfl) ?_
  refine rT 24 (.d (.sl 5 ((rd t0 t10).mChain.map eVersion))) rfl (v_load_dp1 rfl · · · onT96 rfl rfl) ?_
  refine rT 25 (.d (.agg (eStamp t3))) rfl (w_ldp (eStamp t3) (eStamp t3) rfl · · · ag24 rfl (ble _ _ rfl) rfl) ?_
  obtain ⟨⟨t26a, t26b⟩, c11, h⟩ := bpos h
  refine rT 26 (.tup [sV t26a, bV t26b]) rfl (w_call (ds := [(.sl 5 ((rd t0 t10).mChain.map eVersion)), (.agg (eStamp t3))]) (caps := []) (l := [(.s (.string t26a)), (.s (.bool t26b))]) (s132 k (rd t0 t10).mChain t3 _ c11) rfl rfl rfl en132 · · · (.inl ⟨rfl, rfl⟩) rfl rfl) ?_
  refine rM 19 (.tup [sV t26a, bV t26b]) rfl rfl ?_
  refine rT 27 (sV t26a) rfl (v_extract rfl · · · rfl rfl) ?_
  refine rT 28 (bV t26b) rfl (v_extract rfl · · · rfl rfl) ?_
  refine rM 11 (sV t26a) rfl rfl ?_
  refine rM 12 (bV t26b) rfl rfl ?_
  refine rg_nil ⟨by kernel_rfl, ?_⟩
  refine sr ?_
  refine sM 29 (bV t26b) rfl rfl ?_
  refine sM 30 (bV t26b) rfl rfl ?_
  refine sG 31 (.d (.sl 2 (t0.map eEntry))) rfl rfl (fun e12 => (v_move (.inl rfl) · · · rfl)) ?_
  refine sG 32 (iV t10) rfl rfl (fun e13 => (v_move (.inl rfl) · · · rfl)) ?_
  obtain ⟨e15, h⟩ := gpos h
  refine sG 33 (.d (.dp (eEntry (rd t0 t10)))) rfl rfl (fun e14 => (w_idx t0 eEntry rfl · · · slT42 (gv e14) (gv e14) (orT e15 e14))) ?_
  refine sG 34 (.d (.dp (eEntry (rd t0 t10)))) rfl rfl (fun e16 => (v_field_dp (a0 := 0) (cs := (eEntry (rd t0 t10))) rfl · · · fo116_0 (gv e16))) ?_
  refine sG 35 (sV (rd t0 t10).mKey) rfl rfl (fun e17 => (v_load_dp1 rfl · · · onT9 (gv e17) rfl)) ?_
  refine sG 36 (sV t1) rfl rfl (fun e18 => (v_move (.inl rfl) · · · rfl)) ?_
  refine sG 37 (sV t2) rfl rfl (fun e19 => (v_move (.inl rfl) · · · rfl)) ?_
  obtain ⟨t38, c21, h⟩ := bpos h
  refine sG 38 (bV t38) rfl rfl (fun e20 => (w_call (ds := [(.s (.string (rd t0 t10).mKey)), (.s (.string t1)), (.s (.string t2))]) (caps := []) (l := [(.s (.bool t38))]) (s55 k (rd t0 t10).mKey t1 t2 _ (cpos e20 c21)) rfl rfl rfl en55 · · · (.inl ⟨rfl, rfl⟩) (cc (gv e20) (cc (gv e20) (cc (gv e20) rfl))) rfl)) ?_
  refine sT 39 (bV (t26b && t38)) rfl (v_pickB rfl · · · rfl (fun e22 => (gv e22)) (fun e23 => rfl) (pA _ _)) ?_
  refine sq_nil ?_
  refine ht_cond rfl (fun e24 => ?_) (fun e24 => ?_)
  ·replace h := cpos e24 h
   refine ht_region ?_
   refine sM 40 (.own 1009 2 t9_1.length) rfl rfl ?_
   refine sM 41 (.d (.sl 2 (t0.map eEntry))) rfl rfl ?_
   refine sM 42 (iV t10) rfl rfl ?_
   obtain ⟨e25, h⟩ := gpos h
   refine sT 43 (.d (.dp (eEntry (rd t0 t10)))) rfl (w_idx t0 eEntry rfl · · · slT42 rfl rfl e25) ?_
   refine sT 44 (.d (.dp (eEntry (rd t0 t10)))) rfl (v_field_dp (a0 := 0) (cs := (eEntry (rd t0 t10))) rfl · · · fo116_0 rfl) ?_
   refine sT 45 (sV (rd t0 t10).mKey) rfl (v_load_dp1 rfl · · · onT9 rfl rfl) ?_
   refine sM 46 (sV t26a) rfl rfl ?_
   refine sT 47 (.d (.agg (eItem (⟨(rd t0 t10).mKey, t26a⟩ : Item)))) rfl (w_bld zc110 ((eItem (⟨(rd t0 t10).mKey, t26a⟩ : Item)).map V.d) [(0, sV (rd t0 t10).mKey), (1, sV t26a)] rfl · · · zw110 rfl ft110 rfl rfl rfl rfl) ?_
   refine sq_cons ⟨_, [(.b 48, .row false 110 2 (([(⟨(rd t0 t10).mKey, t26a⟩ : Item)]).map eItem)), (.t 48, .own 48 2 ([(⟨(rd t0 t10).mKey, t26a⟩ : Item)]).length)]⟩ (w_bsl (id := 48) [(0, .d (.agg (eItem (⟨(rd t0 t10).mKey, t26a⟩ : Item))))] [(⟨(rd t0 t10).mKey, t26a⟩ : Item)] eItem rfl trivial rfl (ble _ _ rfl) slT32 zr110 teItem (ble _ _ rfl) rfl (by kernel_rfl) rfl rfl (by kernel_rfl) (by kernel_rfl)) ?_
   obtain ⟨e26, h⟩ := gpos h
   refine sq_cons ⟨_, [(.b 1009, .spent), (.b 49, .row false 110 2 ((t9_1 ++ [(⟨(rd t0 t10).mKey, t26a⟩ : Item)]).map eItem)), (.t 49, .own 49 2 (t9_1 ++ [(⟨(rd t0 t10).mKey, t26a⟩ : Item)]).length)]⟩ (w_app 49 t9_1 ([(⟨(rd t0 t10).mKey, t26a⟩ : Item)]) eItem rfl rfl trivial rfl (ble _ _ rfl) slT32 elT110 teItem rfl rfl rfl (.own 48 _ _ rfl) rfl e26) ?_
   refine sM 9 (.own 49 2 (t9_1 ++ [(⟨(rd t0 t10).mKey, t26a⟩ : Item)]).length) rfl rfl ?_
   refine sq_nil ?_
   refine ht_region ?_
   refine sM 17 (iV t10) rfl rfl ?_
   refine sT 18 (iV (IntKind.wrap .i64 (t10 + 1))) rfl (v_bin rfl · · · rfl rfl (b_add rfl)) ?_
   refine sM 10 (iV (IntKind.wrap .i64 (t10 + 1))) rfl rfl ?_
   refine sq_nil ?_
   exact j7 _ _ h (wk_ren _ (fun i => bif Nat.beq i 1009 then 49 else i) rfl ⟨rfl, rfl, rfl, rfl, rfl, rfl, rfl, trivial⟩)
  replace h := cneg e24 h
  refine ht_skip ?_
  refine ht_region ?_
  refine sM 17 (iV t10) rfl rfl ?_
  refine sT 18 (iV (IntKind.wrap .i64 (t10 + 1))) rfl (v_bin rfl · · · rfl rfl (b_add rfl)) ?_
  refine sM 10 (iV (IntKind.wrap .i64 (t10 + 1))) rfl rfl ?_
  refine sq_nil ?_
  exact j7 _ _ h (wk_ren _ (fun i => i) rfl ⟨rfl, rfl, rfl, rfl, rfl, rfl, rfl, trivial⟩)
 replace h := cneg e9 h
 refine ht_exit ?_
 refine tq ?_
 refine tq ?_
 refine bq_hit ?_
 cases h
 exact j4 _ (wk_ren _ (fun i => i) rfl ⟨rfl, rfl, trivial⟩)
theorem s133 (k : Nat) (t0 : List Entry) (t1 : ByteArray) (t2 : ByteArray) (t3 : Stamp) (t4 : Int) (r : (List Item) × ByteArray × Bool) (h : F133 k t0 t1 t2 t3 t4 = some r) : Awp.Spec Tryz.prog amb 133 [(.sl 2 (t0.map eEntry)), (.s (.string t1)), (.s (.string t2)), (.agg (eStamp t3)), (.s (.int .i64 t4))] (.ds [(.sl 2 (r.1.map eItem)), (.s (.string r.2.1)), (.s (.bool r.2.2))]) := by
 rw [F133] at h
 refine spec_of Tryz.func133 rfl (ble _ _ rfl) fun w0 ok0 lt0 hA => ?_
 refine sr ?_
 refine sT 8 (.d (.dp (eStamp t3))) rfl (v_box_d (cs := (eStamp t3)) rfl · · · rfl rfl (ones_of rfl)) ?_
 refine sM 10 (.d (.s (.slice none 0 0))) rfl rfl ?_
 refine sM 11 (sV (⟨#[]⟩ : ByteArray)) rfl rfl ?_
 refine sM 12 (bV false) rfl rfl ?_
 refine sq_nil ?_
 refine sr ?_
 refine sM 14 (.d (.sl 2 (t0.map eEntry))) rfl rfl ?_
 refine sM 15 (sV t1) rfl rfl ?_
 refine sM 16 (sV t2) rfl rfl ?_
 refine sT 17 (.d (.agg (eStamp t3))) rfl (w_ldp (eStamp t3) (eStamp t3) rfl · · · ag24 rfl (ble _ _ rfl) rfl) ?_
 obtain ⟨t18, c1, h⟩ := bpos h
 refine sT 18 (.d (.sl 2 (t18.map eItem))) rfl (w_call (ds := [(.sl 2 (t0.map eEntry)), (.s (.string t1)), (.s (.string t2)), (.agg (eStamp t3))]) (caps := []) (l := [(.sl 2 (t18.map eItem))]) (s165 k t0 t1 t2 t3 _ c1) rfl rfl rfl en165 · · · (.inl ⟨rfl, rfl⟩) rfl rfl) ?_
 refine sM 13 (.d (.sl 2 (t18.map eItem))) rfl rfl ?_
 refine sq_nil ?_
 refine ht_bj h (fun t4_1 => tell [(.t 4, iV t4_1), (.t 13, .d (.sl 2 (t18.map eItem)))]) (fun t4_1 h => ?_) (fun v2 K3 h j5 => ?_)
 ·refine ht_seq ?_
  refine sr ?_
  refine sM 21 (.d (.sl 2 (t18.map eItem))) rfl rfl ?_
  refine sT 22 (iV (t18.length : Int)) rfl (w_len t18 eItem rfl rfl · · · slT32 rfl) ?_
  refine sM 23 (iV t4_1) rfl rfl ?_
  refine sT 24 (bV (leI (t18.length : Int) t4_1)) rfl (v_bin rfl · · · rfl rfl (b_leq rfl)) ?_
  refine sq_nil ?_
  refine ht_cond rfl (fun e8 => ?_) (fun e8 => ?_)
  ·replace h := cpos e8 h
   refine sr ?_
   refine sM 25 (.d (.sl 2 (t18.map eItem))) rfl rfl ?_
   refine sM 10 (.d (.sl 2 (t18.map eItem))) rfl rfl ?_
   refine sM 11 (sV (⟨#[]⟩ : ByteArray)) rfl rfl ?_
   refine sM 12 (bV false) rfl rfl ?_
   refine sq_nil ?_
   refine ht_ret ?_
   cases h
   exact ret3 rfl (.tmp rfl) (.tmp rfl) (.tmp rfl)
  replace h := cneg e8 h
  refine ht_skip ?_
  refine ht_seq ?_
  refine ht_region_draw mixed ?_
  refine rM 26 (.d (.sl 2 (t18.map eItem))) rfl rfl ?_
  refine rM 27 (iV t4_1) rfl rfl ?_
  obtain ⟨e9, h⟩ := gpos h
  refine rT 28 (.d (.sl 2 ((List.take t4_1.toNat t18).map eItem))) rfl (w_cuth t18 eItem rfl · · · slT32 rfl rfl e9) ?_
  refine rM 29 (.d (.sl 2 (t18.map eItem))) rfl rfl ?_
  refine rM 30 (iV t4_1) rfl rfl ?_
  obtain ⟨e10, h⟩ := gpos h
  refine rT 31 (.d (.dp (eItem (rd t18 t4_1)))) rfl (w_idx t18 eItem rfl · · · slT32 rfl rfl e10) ?_
  refine rT 32 (.d (.dp (eItem (rd t18 t4_1)))) rfl (v_field_dp (a0 := 0) (cs := (eItem (rd t18 t4_1))) rfl · · · fo110_0 rfl) ?_
  refine rT 33 (sV (rd t18 t4_1).mKey) rfl (v_load_dp1 rfl · · · onT9 rfl rfl) ?_
  refine rM 10 (.d (.sl 2 ((List.take t4_1.toNat t18).map eItem))) rfl rfl ?_
  refine rM 11 (sV (rd t18 t4_1).mKey) rfl rfl ?_
  refine rM 12 (bV true) rfl rfl ?_
  refine rg_nil ⟨by kernel_rfl, ?_⟩
  refine ht_ret ?_
  cases h
  exact ret3 rfl (.tmp rfl) (.tmp rfl) (.tmp rfl)
 refine sr ?_
 refine sM 19 (iV t4) rfl rfl ?_
 refine sT 20 (bV (ltI t4 0)) rfl (v_bin rfl · · · rfl rfl (b_lss rfl)) ?_
 refine sq_nil ?_
 refine ht_cond rfl (fun e7 => ?_) (fun e7 => ?_)
 ·replace h := cpos e7 h
  refine ht_region ?_
  refine sM 4 (iV 0) rfl rfl ?_
  refine sq_nil ?_
  cases h
  exact j5 _ (wk_ren _ (fun i => i) rfl ⟨rfl, rfl, trivial⟩)
 replace h := cneg e7 h
 refine ht_skip ?_
 cases h
 exact j5 _ (wk_ren _ (fun i => i) rfl ⟨rfl, rfl, trivial⟩)
theorem s73 (k : Nat) (t0 : Cell) (t1 : Shard) (t2 : Request) (t3 : Int) (r : Cell × Answer) (h : F73 k t0 t1 t2 t3 = some r) : Awp.Spec Tryz.prog amb 73 [(.agg (eCell t0)), (.agg (eShard t1)), (.agg (eRequest t2)), (.s (.int .i64 t3))] (.ds [(.agg (eCell r.1)), (.agg (eAnswer r.2))]) := by
 rw [F73] at h
 refine spec_of Tryz.func73 rfl (ble _ _ rfl) fun w0 ok0 lt0 hA => ?_
 refine sr ?_
 refine sq_cons _ (v_box (id := 4) (cs := (eCell t0).map V.d) rfl trivial rfl (ble _ _ rfl) rfl rfl (ones_of rfl) rfl) ?_
 refine sT 5 (.d (.dp (eShard t1))) rfl (v_box_d (cs := (eShard t1)) rfl · · · rfl rfl (ones_of rfl)) ?_
 refine sT 6 (.d (.dp (eRequest t2))) rfl (v_box_d (cs := (eRequest t2)) rfl · · · rfl rfl (ones_of rfl)) ?_
 refine sq_cons _ (v_alloc (id := 8) (cs := zc26) rfl trivial rfl (ble _ _ rfl) zu26 rfl ft26 rfl) ?_
 refine sq_cons _ (v_alloc (id := 9) (cs := zc34) rfl trivial rfl (ble _ _ rfl) zu34 rfl ft34 rfl) ?_
 refine sq_nil ?_
 refine ht_seq ?_
 refine sr ?_
 refine sT 14 (.d (.dp (List.drop 7 (eRequest t2)))) rfl (v_field_dp (a0 := 7) (cs := (eRequest t2)) rfl · · · fo28_7 rfl) ?_
 refine sT 15 (.d (.agg (eStamp t2.mAt))) rfl (w_ldp (List.drop 7 (eRequest t2)) (eStamp t2.mAt) rfl · · · ag24 rfl (ble _ _ rfl) rfl) ?_
 refine sT 16 (.d (.dp (List.drop 6 (eShard t1)))) rfl (v_field_dp (a0 := 6) (cs := (eShard t1)) rfl · · · fo45_5 rfl) ?_
 refine sT 17 (.d (.agg (eStamp t1.mMark))) rfl (w_ldp (List.drop 6 (eShard t1)) (eStamp t1.mMark) rfl · · · ag24 rfl (ble _ _ rfl) rfl) ?_
 obtain ⟨t18, c1, h⟩ := bpos h
 refine sT 18 (bV t18) rfl (w_call (ds := [(.agg (eStamp t2.mAt)), (.agg (eStamp t1.mMark))]) (caps := []) (l := [(.s (.bool t18))]) (s76 k t2.mAt t1.mMark _ c1) rfl rfl rfl en76 · · · (.inl ⟨rfl, rfl⟩) rfl rfl) ?_
 refine sq_nil ?_
 refine ht_cond rfl (fun e2 => ?_) (fun e2 => ?_)
 ·replace h := cpos e2 h
  refine ht_seq ?_
  refine ht_region_draw mixed ?_
  refine rT 19 (.d (.agg (eCell t0))) rfl (w_ldb 4 0 rfl · · · ag26 rfl rfl (ble _ _ rfl) rfl) ?_
  obtain ⟨t20, c3, h⟩ := bpos h
  refine rT 20 (.d (.agg (eAnswer t20))) rfl (w_call (ds := [(.s (.int .i64 13))]) (caps := []) (l := [(.agg (eAnswer t20))]) (s70 k 13 _ c3) rfl rfl rfl en70 · · · (.inl ⟨rfl, rfl⟩) rfl rfl) ?_
  refine rg_cons _ (v_store_box (id := 8) (off := 0) (cs := (eCell t0).map V.d) rfl trivial rfl sz26 rfl rfl rfl rfl (ones_of rfl) (ble _ _ rfl)) ?_
  refine rg_cons _ (v_store_box (id := 9) (off := 0) (cs := (eAnswer t20).map V.d) rfl trivial rfl sz34 rfl rfl rfl rfl (ones_of rfl) (ble _ _ rfl)) ?_
  refine rg_nil ⟨by kernel_rfl, ?_⟩
  refine ht_ret ?_
  cases h
  exact ret2 rfl (.cell rfl rfl ag26 (ble _ _ rfl) rfl) (.cell rfl rfl ag34 (ble _ _ rfl) rfl)
 replace h := cneg e2 h
 refine ht_skip ?_
 refine ht_seq ?_
 refine sr ?_
 refine sT 21 (.d (.dp (List.drop 7 (eRequest t2)))) rfl (v_field_dp (a0 := 7) (cs := (eRequest t2)) rfl · · · fo28_7 rfl) ?_
 refine sT 22 (.d (.dp (List.drop 7 (eRequest t2)))) rfl (v_field_dp (a0 := 0) (cs := (List.drop 7 (eRequest t2))) rfl · · · fo24_0 rfl) ?_
 refine sT 23 (iV t2.mAt.mWall) rfl (v_load_dp1 rfl · · · onT3 rfl rfl) ?_
 refine sM 24 (iV t3) rfl rfl ?_
 refine sT 25 (iV (IntKind.wrap .i64 (t3 + 1000))) rfl (v_bin rfl · · · rfl rfl (b_add rfl)) ?_
 refine sT 26 (bV (ltI (IntKind.wrap .i64 (t3 + 1000)) t2.mAt.mWall)) rfl (v_bin rfl · · · rfl rfl (b_gtr rfl)) ?_
 refine sq_nil ?_
 refine ht_cond rfl (fun e4 => ?_) (fun e4 => ?_)
 ·replace h := cpos e4 h
  refine ht_seq ?_
  refine ht_region_draw mixed ?_
  refine rT 27 (.d (.agg (eCell t0))) rfl (w_ldb 4 0 rfl · · · ag26 rfl rfl (ble _ _ rfl) rfl) ?_
  obtain ⟨t28, c5, h⟩ := bpos h
  refine rT 28 (.d (.agg (eAnswer t28))) rfl (w_call (ds := [(.s (.int .i64 12))]) (caps := []) (l := [(.agg (eAnswer t28))]) (s70 k 12 _ c5) rfl rfl rfl en70 · · · (.inl ⟨rfl, rfl⟩) rfl rfl) ?_
  refine rg_cons _ (v_store_box (id := 8) (off := 0) (cs := (eCell t0).map V.d) rfl trivial rfl sz26 rfl rfl rfl rfl (ones_of rfl) (ble _ _ rfl)) ?_
  refine rg_cons _ (v_store_box (id := 9) (off := 0) (cs := (eAnswer t28).map V.d) rfl trivial rfl sz34 rfl rfl rfl rfl (ones_of rfl) (ble _ _ rfl)) ?_
  refine rg_nil ⟨by kernel_rfl, ?_⟩
  refine ht_ret ?_
  cases h
  exact ret2 rfl (.cell rfl rfl ag26 (ble _ _ rfl) rfl) (.cell rfl rfl ag34 (ble _ _ rfl) rfl)
 replace h := cneg e4 h
 refine ht_skip ?_
 refine sr ?_
 refine sT 29 (.ptr 4 1) rfl (v_field_box (off := 0) (a0 := 1) rfl · · · fo26_1 rfl) ?_
 refine sT 30 (.d (.agg (eStamp t0.mTop))) rfl (w_ldb 4 1 rfl · · · ag24 rfl rfl (ble _ _ rfl) rfl) ?_
 refine sT 31 (.d (.dp (List.drop 7 (eRequest t2)))) rfl (v_field_dp (a0 := 7) (cs := (eRequest t2)) rfl · · · fo28_7 rfl) ?_
 refine sT 32 (.d (.agg (eStamp t2.mAt))) rfl (w_ldp (List.drop 7 (eRequest t2)) (eStamp t2.mAt) rfl · · · ag24 rfl (ble _ _ rfl) rfl) ?_
 obtain ⟨t33, c6, h⟩ := bpos h
 refine sT 33 (.d (.agg (eStamp t33))) rfl (w_call (ds := [(.agg (eStamp t0.mTop)), (.agg (eStamp t2.mAt))]) (caps := []) (l := [(.agg (eStamp t33))]) (s97 k t0.mTop t2.mAt _ c6) rfl rfl rfl en97 · · · (.inl ⟨rfl, rfl⟩) rfl rfl) ?_
 refine sT 34 (.ptr 4 1) rfl (v_field_box (off := 0) (a0 := 1) rfl · · · fo26_1 rfl) ?_
 refine sq_cons _ (v_store_box (id := 4) (off := 1) (cs := (eStamp t33).map V.d) rfl trivial rfl sz24 rfl rfl rfl rfl (ones_of rfl) (ble _ _ rfl)) ?_
 refine sq_nil ?_
 refine ht_seq ?_
 refine sr ?_
 refine sT 35 (.d (.dp (List.drop 2 (eRequest t2)))) rfl (v_field_dp (a0 := 2) (cs := (eRequest t2)) rfl · · · fo28_2 rfl) ?_
 refine sT 36 (iV t2.mKind) rfl (v_load_dp1 rfl · · · onT3 rfl rfl) ?_
 refine sT 37 (bV (eqI t2.mKind 5)) rfl (v_bin rfl · · · rfl rfl (b_eql rfl)) ?_
 refine sq_nil ?_
 refine ht_cond rfl (fun e7 => ?_) (fun e7 => ?_)
 ·replace h := cpos e7 h
  refine ht_seq ?_
  refine ht_region_draw mixed ?_
  refine rT 39 (.d (.dp (List.drop 5 (eShard t1)))) rfl (v_field_dp (a0 := 5) (cs := (eShard t1)) rfl · · · fo45_4 rfl) ?_
  refine rT 40 (.d (.sl 2 (t1.mEntries.map eEntry))) rfl (v_load_dp1 rfl · · · onT42 rfl rfl) ?_
  refine rT 41 (.d (.dp (List.drop 3 (eRequest t2)))) rfl (v_field_dp (a0 := 3) (cs := (eRequest t2)) rfl · · · fo28_3 rfl) ?_
  refine rT 42 (sV t2.mKey) rfl (v_load_dp1 rfl · · · onT9 rfl rfl) ?_
  obtain ⟨t43, c8, h⟩ := bpos h
  refine rT 43 (.d (.sl 5 (t43.map eVersion))) rfl (w_call (ds := [(.sl 2 (t1.mEntries.map eEntry)), (.s (.string t2.mKey))]) (caps := []) (l := [(.sl 5 (t43.map eVersion))]) (s72 k t1.mEntries t2.mKey _ c8) rfl rfl rfl en72 · · · (.inl ⟨rfl, rfl⟩) rfl rfl) ?_
  refine rT 44 (.d (.dp (List.drop 7 (eRequest t2)))) rfl (v_field_dp (a0 := 7) (cs := (eRequest t2)) rfl · · · fo28_7 rfl) ?_
  refine rT 45 (.d (.agg (eStamp t2.mAt))) rfl (w_ldp (List.drop 7 (eRequest t2)) (eStamp t2.mAt) rfl · · · ag24 rfl (ble _ _ rfl) rfl) ?_
  obtain ⟨⟨t46a, t46b⟩, c9, h⟩ := bpos h
  refine rT 46 (.tup [sV t46a, bV t46b]) rfl (w_call (ds := [(.sl 5 (t43.map eVersion)), (.agg (eStamp t2.mAt))]) (caps := []) (l := [(.s (.string t46a)), (.s (.bool t46b))]) (s132 k t43 t2.mAt _ c9) rfl rfl rfl en132 · · · (.inl ⟨rfl, rfl⟩) rfl rfl) ?_
  refine rM 38 (.tup [sV t46a, bV t46b]) rfl rfl ?_
  refine rT 47 (sV t46a) rfl (v_extract rfl · · · rfl rfl) ?_
  refine rT 48 (bV t46b) rfl (v_extract rfl · · · rfl rfl) ?_
  refine rM 10 (sV t46a) rfl rfl ?_
  refine rM 11 (bV t46b) rfl rfl ?_
  refine rg_nil ⟨by kernel_rfl, ?_⟩
  refine ht_seq ?_
  refine ht_region_draw mixed ?_
  refine rT 49 (.d (.agg (eCell ({t0 with mTop := t33})))) rfl (w_ldb 4 0 rfl · · · ag26 rfl rfl (ble _ _ rfl) rfl) ?_
  refine rT 50 (.d (.dp (List.drop 7 (eRequest t2)))) rfl (v_field_dp (a0 := 7) (cs := (eRequest t2)) rfl · · · fo28_7 rfl) ?_
  refine rT 51 (.d (.agg (eStamp t2.mAt))) rfl (w_ldp (List.drop 7 (eRequest t2)) (eStamp t2.mAt) rfl · · · ag24 rfl (ble _ _ rfl) rfl) ?_
  refine rM 52 (bV t46b) rfl rfl ?_
  refine rM 53 (sV t46a) rfl rfl ?_
  refine rT 54 (.d (.agg (eAnswer (⟨0, t2.mAt, t46b, t46a, ([] : List Item), (⟨#[]⟩ : ByteArray), false⟩ : Answer)))) rfl (w_bld zc34 ((eAnswer (⟨0, t2.mAt, t46b, t46a, ([] : List Item), (⟨#[]⟩ : ByteArray), false⟩ : Answer)).map V.d) [(1, .d (.agg (eStamp t2.mAt))), (2, bV t46b), (3, sV t46a)] rfl · · · zw34 rfl ft34 rfl rfl rfl rfl) ?_
  refine rg_cons _ (v_store_box (id := 8) (off := 0) (cs := (eCell ({t0 with mTop := t33})).map V.d) rfl trivial rfl sz26 rfl rfl rfl rfl (ones_of rfl) (ble _ _ rfl)) ?_
  refine rg_cons _ (v_store_box (id := 9) (off := 0) (cs := (eAnswer (⟨0, t2.mAt, t46b, t46a, ([] : List Item), (⟨#[]⟩ : ByteArray), false⟩ : Answer)).map V.d) rfl trivial rfl sz34 rfl rfl rfl rfl (ones_of rfl) (ble _ _ rfl)) ?_
  refine rg_nil ⟨by kernel_rfl, ?_⟩
  refine ht_ret ?_
  cases h
  exact ret2 rfl (.cell rfl rfl ag26 (ble _ _ rfl) rfl) (.cell rfl rfl ag34 (ble _ _ rfl) rfl)
 replace h := cneg e7 h
 refine ht_skip ?_
 refine sr ?_
 refine sT 55 (.d (.dp (List.drop 7 (eRequest t2)))) rfl (v_field_dp (a0 := 7) (cs := (eRequest t2)) rfl · · · fo28_7 rfl) ?_
 refine sT 56 (.d (.agg (eStamp t2.mAt))) rfl (w_ldp (List.drop 7 (eRequest t2)) (eStamp t2.mAt) rfl · · · ag24 rfl (ble _ _ rfl) rfl) ?_
 refine sT 57 (.d (.agg (eAnswer (⟨0, t2.mAt, false, (⟨#[]⟩ : ByteArray), ([] : List Item), (⟨#[]⟩ : ByteArray), false⟩ : Answer)))) rfl (w_bld zc34 ((eAnswer (⟨0, t2.mAt, false, (⟨#[]⟩ : ByteArray), ([] : List Item), (⟨#[]⟩ : ByteArray), false⟩ : Answer)).map V.d) [(1, .d (.agg (eStamp t2.mAt)))] rfl · · · zw34 rfl ft34 rfl rfl rfl rfl) ?_
 refine sq_cons _ (v_alloc (id := 12) (cs := zc34) rfl trivial rfl (ble _ _ rfl) zu34 rfl ft34 rfl) ?_
 refine sq_cons _ (v_store_box (id := 12) (off := 0) (cs := (eAnswer (⟨0, t2.mAt, false, (⟨#[]⟩ : ByteArray), ([] : List Item), (⟨#[]⟩ : ByteArray), false⟩ : Answer)).map V.d) rfl trivial rfl sz34 rfl rfl rfl rfl (ones_of rfl) (ble _ _ rfl)) ?_
 refine sq_nil ?_
 refine sr ?_
 refine sT 58 (.d (.dp (List.drop 10 (eRequest t2)))) rfl (v_field_dp (a0 := 10) (cs := (eRequest t2)) rfl · · · fo28_8 rfl) ?_
 refine sT 59 (sV t2.mHi) rfl (v_load_dp1 rfl · · · onT9 rfl rfl) ?_
 refine sM 13 (sV t2.mHi) rfl rfl ?_
 refine sq_nil ?_
 refine ht_bj h (fun t13 => tell [(.b 4, .box false 5), (.b 8, .box false 5), (.b 9, .box false 9), (.b 12, .box false 9), (.c 4 0, .d (.sl 17 (t0.mShards.map eShard))), (.c 4 1, iV t33.mWall), (.c 4 2, iV t33.mTick), (.c 4 3, iV t33.mNode), (.c 4 4, iV t0.mDropped), (.c 8 0, .d (.sl 17 (([] : List Shard).map eShard))), (.c 8 1, iV 0), (.c 8 2, iV 0), (.c 8 3, iV 0), (.c 8 4, iV 0), (.c 9 0, iV 0), (.c 9 1, iV 0), (.c 9 2, iV 0), (.c 9 3, iV 0), (.c 9 4, bV false), (.c 9 5, sV (⟨#[]⟩ : ByteArray)), (.c 9 6, .d (.sl 2 (([] : List Item).map eItem))), (.c 9 7, sV (⟨#[]⟩ : ByteArray)), (.c 9 8, bV false), (.c 12 0, iV 0), (.c 12 1, iV t2.mAt.mWall), (.c 12 2, iV t2.mAt.mTick), (.c 12 3, iV t2.mAt.mNode), (.c 12 4, bV false), (.c 12 5, sV (⟨#[]⟩ : ByteArray)), (.c 12 6, .d (.sl 2 (([] : List Item).map eItem))), (.c 12 7, sV (⟨#[]⟩ : ByteArray)), (.c 12 8, bV false), (.t 4, .ptr 4 0), (.t 5, .d (.dp (eShard t1))), (.t 6, .d (.dp (eRequest t2))), (.t 8, .ptr 8 0), (.t 9, .ptr 9 0), (.t 12, .ptr 12 0), (.t 13, sV t13)]) (fun t13 h => ?_) (fun v10 K11 h j13 => ?_)
 ·refine sr ?_
  refine sT 82 (.d (.dp (List.drop 5 (eShard t1)))) rfl (v_field_dp (a0 := 5) (cs := (eShard t1)) rfl · · · fo45_4 rfl) ?_
  refine sT 83 (.d (.sl 2 (t1.mEntries.map eEntry))) rfl (v_load_dp1 rfl · · · onT42 rfl rfl) ?_
  refine sT 84 (.d (.dp (List.drop 3 (eRequest t2)))) rfl (v_field_dp (a0 := 3) (cs := (eRequest t2)) rfl · · · fo28_3 rfl) ?_
  refine sT 85 (sV t2.mKey) rfl (v_load_dp1 rfl · · · onT9 rfl rfl) ?_
  refine sM 86 (sV t13) rfl rfl ?_
  refine sT 87 (.d (.dp (List.drop 7 (eRequest t2)))) rfl (v_field_dp (a0 := 7) (cs := (eRequest t2)) rfl · · · fo28_7 rfl) ?_
  refine sT 88 (.d (.agg (eStamp t2.mAt))) rfl (w_ldp (List.drop 7 (eRequest t2)) (eStamp t2.mAt) rfl · · · ag24 rfl (ble _ _ rfl) rfl) ?_
  refine sT 89 (.d (.dp (List.drop 11 (eRequest t2)))) rfl (v_field_dp (a0 := 11) (cs := (eRequest t2)) rfl · · · fo28_9 rfl) ?_
  refine sT 90 (iV t2.mLimit) rfl (v_load_dp1 rfl · · · onT3 rfl rfl) ?_
  obtain ⟨⟨t91a, t91b, t91c⟩, c38, h⟩ := bpos h
  refine sT 91 (.tup [.d (.sl 2 (t91a.map eItem)), sV t91b, bV t91c]) rfl (w_call (ds := [(.sl 2 (t1.mEntries.map eEntry)), (.s (.string t2.mKey)), (.s (.string t13)), (.agg (eStamp t2.mAt)), (.s (.int .i64 t2.mLimit))]) (caps := []) (l := [(.sl 2 (t91a.map eItem)), (.s (.string t91b)), (.s (.bool t91c))]) (s133 k t1.mEntries t2.mKey t13 t2.mAt t2.mLimit _ c38) rfl rfl rfl en133 · · · (.inl ⟨rfl, rfl⟩) rfl rfl) ?_
  refine sM 81 (.tup [.d (.sl 2 (t91a.map eItem)), sV t91b, bV t91c]) rfl rfl ?_
  refine sT 92 (.d (.sl 2 (t91a.map eItem))) rfl (v_extract rfl · · · rfl rfl) ?_
  refine sT 93 (sV t91b) rfl (v_extract rfl · · · rfl rfl) ?_
  refine sT 94 (bV t91c) rfl (v_extract rfl · · · rfl rfl) ?_
  refine sT 95 (.ptr 12 6) rfl (v_field_box (off := 0) (a0 := 6) rfl · · · fo34_4 rfl) ?_
  refine sq_cons _ (v_store_box (id := 12) (off := 6) (cs := [(.sl 2 (t91a.map eItem))].map V.d) rfl trivial rfl sz32 rfl rfl rfl rfl (ones_of rfl) (ble _ _ rfl)) ?_
  refine sT 96 (.ptr 12 7) rfl (v_field_box (off := 0) (a0 := 7) rfl · · · fo34_5 rfl) ?_
  refine sq_cons _ (v_store_box (id := 12) (off := 7) (cs := [(.s (.string t91b))].map V.d) rfl trivial rfl sz9 rfl rfl rfl rfl (ones_of rfl) (ble _ _ rfl)) ?_
  refine sT 97 (.ptr 12 8) rfl (v_field_box (off := 0) (a0 := 8) rfl · · · fo34_6 rfl) ?_
  refine sq_cons _ (v_store_box (id := 12) (off := 8) (cs := [(.s (.bool t91c))].map V.d) rfl trivial rfl sz4 rfl rfl rfl rfl (ones_of rfl) (ble _ _ rfl)) ?_
  refine sq_nil ?_
  refine ht_seq ?_
  refine sr ?_
  refine sT 98 (.ptr 12 8) rfl (v_field_box (off := 0) (a0 := 8) rfl · · · fo34_6 rfl) ?_
  refine sT 99 (bV t91c) rfl (v_load_box1 (id := 12) (off := 8) rfl · · · onT4 rfl rfl (ble _ _ rfl) rfl) ?_
  refine sT 100 (bV (!t91c)) rfl (v_un rfl · · · rfl (u_not rfl)) ?_
  refine sM 101 (bV (!t91c)) rfl rfl ?_
  refine sG 102 (sV t13) rfl rfl (fun e39 => (v_move (.inl rfl) · · · rfl)) ?_
  refine sG 103 (.d (.dp (List.drop 10 (eRequest t2)))) rfl rfl (fun e40 => (v_field_dp (a0 := 10) (cs := (eRequest t2)) rfl · · · fo28_8 rfl)) ?_
  refine sG 104 (sV t2.mHi) rfl rfl (fun e41 => (v_load_dp1 rfl · · · onT9 (gv e41) rfl)) ?_
  refine sG 105 (bV (!strEq t13 t2.mHi)) rfl rfl (fun e42 => (v_bin rfl · · · (gv e42) (gv e42) (b_neS rfl))) ?_
  refine sT 106 (bV ((!t91c) && (!strEq t13 t2.mHi))) rfl (v_pickB rfl · · · rfl (fun e43 => (gv e43)) (fun e44 => rfl) (pA _ _)) ?_
  refine sq_nil ?_
  refine ht_cond rfl (fun e45 => ?_) (fun e45 => ?_)
  ·replace h := cpos e45 h
   refine ht_region ?_
   refine sM 107 (sV t13) rfl rfl ?_
   refine sT 108 (.ptr 12 7) rfl (v_field_box (off := 0) (a0 := 7) rfl · · · fo34_5 rfl) ?_
   refine sq_cons _ (v_store_box (id := 12) (off := 7) (cs := [(.s (.string t13))].map V.d) rfl trivial rfl sz9 rfl rfl rfl rfl (ones_of rfl) (ble _ _ rfl)) ?_
   refine sT 109 (.ptr 12 8) rfl (v_field_box (off := 0) (a0 := 8) rfl · · · fo34_6 rfl) ?_
   refine sq_cons _ (v_store_box (id := 12) (off := 8) (cs := [(.s (.bool true))].map V.d) rfl trivial rfl sz4 rfl rfl rfl rfl (ones_of rfl) (ble _ _ rfl)) ?_
   refine sq_nil ?_
   refine ht_seq ?_
   refine ht_region_draw mixed ?_
   refine rT 110 (.d (.agg (eCell ({t0 with mTop := t33})))) rfl (w_ldb 4 0 rfl · · · ag26 rfl rfl (ble _ _ rfl) rfl) ?_
   refine rT 111 (.d (.agg (eAnswer (⟨0, t2.mAt, false, (⟨#[]⟩ : ByteArray), t91a, t13, true⟩ : Answer)))) rfl (w_ldb 12 0 rfl · · · ag34 rfl rfl (ble _ _ rfl) rfl) ?_
   refine rg_cons _ (v_store_box (id := 8) (off := 0) (cs := (eCell ({t0 with mTop := t33})).map V.d) rfl trivial rfl sz26 rfl rfl rfl rfl (ones_of rfl) (ble _ _ rfl)) ?_
   refine rg_cons _ (v_store_box (id := 9) (off := 0) (cs := (eAnswer (⟨0, t2.mAt, false, (⟨#[]⟩ : ByteArray), t91a, t13, true⟩ : Answer)).map V.d) rfl trivial rfl sz34 rfl rfl rfl rfl (ones_of rfl) (ble _ _ rfl)) ?_
   refine rg_nil ⟨by kernel_rfl, ?_⟩
   refine ht_ret ?_
   cases h
   exact ret2 rfl (.cell rfl rfl ag26 (ble _ _ rfl) rfl) (.cell rfl rfl ag34 (ble _ _ rfl) rfl)
  replace h := cneg e45 h
  refine ht_skip ?_
  refine ht_seq ?_
  refine ht_region_draw mixed ?_
  refine rT 110 (.d (.agg (eCell ({t0 with mTop := t33})))) rfl (w_ldb 4 0 rfl · · · ag26 rfl rfl (ble _ _ rfl) rfl) ?_
  refine rT 111 (.d (.agg (eAnswer (⟨0, t2.mAt, false, (⟨#[]⟩ : ByteArray), t91a, t91b, t91c⟩ : Answer)))) rfl (w_ldb 12 0 rfl · · · ag34 rfl rfl (ble _ _ rfl) rfl) ?_
  refine rg_cons _ (v_store_box (id := 8) (off := 0) (cs := (eCell ({t0 with mTop := t33})).map V.d) rfl trivial rfl sz26 rfl rfl rfl rfl (ones_of rfl) (ble _ _ rfl)) ?_
  refine rg_cons _ (v_store_box (id := 9) (off := 0) (cs := (eAnswer (⟨0, t2.mAt, false, (⟨#[]⟩ : ByteArray), t91a, t91b, t91c⟩ : Answer)).map V.d) rfl trivial rfl sz34 rfl rfl rfl rfl (ones_of rfl) (ble _ _ rfl)) ?_
  refine rg_nil ⟨by kernel_rfl, ?_⟩
  refine ht_ret ?_
  cases h
  exact ret2 rfl (.cell rfl rfl ag26 (ble _ _ rfl) rfl) (.cell rfl rfl ag34 (ble _ _ rfl) rfl)
 refine sr ?_
 refine sT 60 (.d (.dp (List.drop 2 (eShard t1)))) rfl (v_field_dp (a0 := 2) (cs := (eShard t1)) rfl · · · fo45_2 rfl) ?_
 refine sT 61 (.d (.dp (List.drop 3 (eShard t1)))) rfl (v_field_dp (a0 := 1) (cs := (List.drop 2 (eShard t1))) rfl · · · fo41_1 rfl) ?_
 refine sT 62 (sV t1.mSpan.mHi) rfl (v_load_dp1 rfl · · · onT9 rfl rfl) ?_
 refine sT 63 (iV (t1.mSpan.mHi.size : Int)) rfl (v_len_str rfl rfl · · · und9 rfl) ?_
 refine sT 64 (bV (ltI 0 (t1.mSpan.mHi.size : Int))) rfl (v_bin rfl · · · rfl rfl (b_gtr rfl)) ?_
 refine sM 65 (bV (ltI 0 (t1.mSpan.mHi.size : Int))) rfl rfl ?_
 refine sG 66 (sV t2.mHi) rfl rfl (fun e15 => (v_move (.inl rfl) · · · rfl)) ?_
 refine sG 67 (iV (t2.mHi.size : Int)) rfl rfl (fun e16 => (v_len_str rfl rfl · · · und9 (gv e16))) ?_
 refine sG 68 (bV (eqI (t2.mHi.size : Int) 0)) rfl rfl (fun e17 => (v_bin rfl · · · (gv e17) rfl (b_eql rfl))) ?_
 refine sG 69 (bV (eqI (t2.mHi.size : Int) 0)) rfl rfl (fun e18 => (v_move (.inl rfl) · · · (gv e18))) ?_
 refine sH 70 (.d (.dp (List.drop 2 (eShard t1)))) rfl rfl (fun e19 e20 => (v_field_dp (a0 := 2) (cs := (eShard t1)) rfl · · · fo45_2 rfl)) ?_
 refine sH 71 (.d (.dp (List.drop 3 (eShard t1)))) rfl rfl (fun e21 e22 => (v_field_dp (a0 := 1) (cs := (List.drop 2 (eShard t1))) rfl · · · fo41_1 (gv (aT e21 (nF e22))))) ?_
 refine sH 72 (sV t1.mSpan.mHi) rfl rfl (fun e23 e24 => (v_load_dp1 rfl · · · onT9 (gv (aT e23 (nF e24))) rfl)) ?_
 refine sH 73 (sV t2.mHi) rfl rfl (fun e25 e26 => (v_move (.inl rfl) · · · rfl)) ?_
 obtain ⟨t74, c29, h⟩ := bpos h
 refine sH 74 (iV t74) rfl rfl (fun e27 e28 => (w_call (ds := [(.s (.string t1.mSpan.mHi)), (.s (.string t2.mHi))]) (caps := []) (l := [(.s (.int .i64 t74))]) (s119 k t1.mSpan.mHi t2.mHi _ (cpos (aT e27 (nF e28)) c29)) rfl rfl rfl en119 · · · (.inl ⟨rfl, rfl⟩) (cc (gv (aT e27 (nF e28))) (cc (gv (aT e27 (nF e28))) rfl)) rfl)) ?_
 refine sH 75 (bV (ltI t74 0)) rfl rfl (fun e30 e31 => (v_bin rfl · · · (gv (aT e30 (nF e31))) rfl (b_lss rfl))) ?_
 refine sG 76 (bV ((eqI (t2.mHi.size : Int) 0) || (ltI t74 0))) rfl rfl (fun e32 => (v_pickB rfl · · · (gv e32) (fun e33 => rfl) (fun e34 => (gv (aT e32 (nF e34)))) (pO _ _))) ?_
 refine sT 77 (bV ((ltI 0 (t1.mSpan.mHi.size : Int)) && ((eqI (t2.mHi.size : Int) 0) || (ltI t74 0)))) rfl (v_pickB rfl · · · rfl (fun e35 => (gv e35)) (fun e36 => rfl) (pA _ _)) ?_
 refine sq_nil ?_
 refine ht_cond rfl (fun e37 => ?_) (fun e37 => ?_)
 ·replace h := cpos e37 h
  refine ht_region ?_
  refine sT 78 (.d (.dp (List.drop 2 (eShard t1)))) rfl (v_field_dp (a0 := 2) (cs := (eShard t1)) rfl · · · fo45_2 rfl) ?_
  refine sT 79 (.d (.dp (List.drop 3 (eShard t1)))) rfl (v_field_dp (a0 := 1) (cs := (List.drop 2 (eShard t1))) rfl · · · fo41_1 rfl) ?_
  refine sT 80 (sV t1.mSpan.mHi) rfl (v_load_dp1 rfl · · · onT9 rfl rfl) ?_
  refine sM 13 (sV t1.mSpan.mHi) rfl rfl ?_
  refine sq_nil ?_
  cases h
  exact j13 _ (wk_ren _ (fun i => i) rfl ⟨rfl, rfl, rfl, rfl, rfl, rfl, rfl, rfl, rfl, rfl, rfl, rfl, rfl, rfl, rfl, rfl, rfl, rfl, rfl, rfl, rfl, rfl, rfl, rfl, rfl, rfl, rfl, rfl, rfl, rfl, rfl, rfl, rfl, rfl, rfl, rfl, rfl, rfl, rfl, trivial⟩)
 replace h := cneg e37 h
 refine ht_skip ?_
 cases h
 exact j13 _ (wk_ren _ (fun i => i) rfl ⟨rfl, rfl, rfl, rfl, rfl, rfl, rfl, rfl, rfl, rfl, rfl, rfl, rfl, rfl, rfl, rfl, rfl, rfl, rfl, rfl, rfl, rfl, rfl, rfl, rfl, rfl, rfl, rfl, rfl, rfl, rfl, rfl, rfl, rfl, rfl, rfl, rfl, rfl, rfl, trivial⟩)
theorem s74 (k : Nat) (t0 : List Done) (t1 : Int) (r : Int) (h : F74 k t0 t1 = some r) : Awp.Spec Tryz.prog amb 74 [(.sl 11 (t0.map eDone)), (.s (.int .i64 t1))] (.ds [(.s (.int .i64 r))]) := by
 rw [F74] at h
 refine spec_of Tryz.func74 rfl (ble _ _ rfl) fun w0 ok0 lt0 hA => ?_
 refine sr ?_
 refine sM 4 (iV 0) rfl rfl ?_
 refine sq_nil ?_
 refine ht_gj (go_id' h) (fun _ => tell []) (fun _ h => ?_) (fun v1 K2 h j4 r5 => ?_)
 ·refine sr ?_
  refine sM 4 (iV 0) rfl rfl ?_
  refine sq_nil ?_
  refine ht_ret ?_
  cases h
  exact ret1 rfl (.tmp rfl)
 refine sr ?_
 refine sM 5 (iV 0) rfl rfl ?_
 refine sq_nil ?_
 refine ht_block ?_
 refine ht_rd h (fun _ => rfl) (fun t5 => tell [(.t 0, .d (.sl 11 (t0.map eDone))), (.t 1, iV t1), (.t 5, iV t5)]) (wk_ren _ (fun i => i) rfl ⟨rfl, rfl, rfl, trivial⟩) fun k t5 h K13 j7 => ?_
 rw [F74_l1] at h
 refine ht_seq ?_
 refine sr ?_
 refine sM 6 (iV t5) rfl rfl ?_
 refine sM 7 (.d (.sl 11 (t0.map eDone))) rfl rfl ?_
 refine sT 8 (iV (t0.length : Int)) rfl (w_len t0 eDone rfl rfl · · · slT43 rfl) ?_
 refine sT 9 (bV (ltI t5 (t0.length : Int))) rfl (v_bin rfl · · · rfl rfl (b_lss rfl)) ?_
 refine sq_nil ?_
 refine ht_cond rfl (fun e9 => ?_) (fun e9 => ?_)
 ·replace h := cpos e9 h
  refine ht_skip ?_
  refine ht_seq ?_
  refine ht_block ?_
  refine sr ?_
  refine sM 12 (.d (.sl 11 (t0.map eDone))) rfl rfl ?_
  refine sM 13 (iV t5) rfl rfl ?_
  obtain ⟨e10, h⟩ := gpos h
  refine sT 14 (.d (.dp (eDone (rd t0 t5)))) rfl (w_idx t0 eDone rfl · · · slT43 rfl rfl e10) ?_
  refine sT 15 (.d (.dp (eDone (rd t0 t5)))) rfl (v_field_dp (a0 := 0) (cs := (eDone (rd t0 t5))) rfl · · · fo100_0 rfl) ?_
  refine sT 16 (iV (rd t0 t5).mClient) rfl (v_load_dp1 rfl · · · onT3 rfl rfl) ?_
  refine sM 17 (iV t1) rfl rfl ?_
  refine sT 18 (bV (eqI (rd t0 t5).mClient t1)) rfl (v_bin rfl · · · rfl rfl (b_eql rfl)) ?_
  refine sq_nil ?_
  refine ht_cond rfl (fun e11 => ?_) (fun e11 => ?_)
  ·replace h := cpos e11 h
   refine sr ?_
   refine sM 19 (.d (.sl 11 (t0.map eDone))) rfl rfl ?_
   refine sM 20 (iV t5) rfl rfl ?_
   obtain ⟨e12, h⟩ := gpos h
   refine sT 21 (.d (.dp (eDone (rd t0 t5)))) rfl (w_idx t0 eDone rfl · · · slT43 rfl rfl e12) ?_
   refine sT 22 (.d (.dp (List.drop 1 (eDone (rd t0 t5))))) rfl (v_field_dp (a0 := 1) (cs := (eDone (rd t0 t5))) rfl · · · fo100_1 rfl) ?_
   refine sT 23 (iV (rd t0 t5).mReq) rfl (v_load_dp1 rfl · · · onT3 rfl rfl) ?_
   refine sM 4 (iV (rd t0 t5).mReq) rfl rfl ?_
   refine sq_nil ?_
   refine ht_ret ?_
   cases h
   cases r5 _ rfl
   exact ret1 rfl (.tmp rfl)
  replace h := cneg e11 h
  refine ht_skip ?_
  refine ht_region ?_
  refine sM 10 (iV t5) rfl rfl ?_
  refine sT 11 (iV (IntKind.wrap .i64 (t5 + 1))) rfl (v_bin rfl · · · rfl rfl (b_add rfl)) ?_
  refine sM 5 (iV (IntKind.wrap .i64 (t5 + 1))) rfl rfl ?_
  refine sq_nil ?_
  exact j7 _ _ h (wk_ren _ (fun i => i) rfl ⟨rfl, rfl, rfl, trivial⟩)
 replace h := cneg e9 h
 refine ht_exit ?_
 refine tq ?_
 refine tq ?_
 refine bq_hit ?_
 cases h
 exact j4 _ _ rfl (wk_ren _ (fun i => i) rfl trivial)
theorem s75 (k : Nat) (t0 : List Done) (t1 : Int) (r : Done × Bool) (h : F75 k t0 t1 = some r) : Awp.Spec Tryz.prog amb 75 [(.sl 11 (t0.map eDone)), (.s (.int .i64 t1))] (.ds [(.agg (eDone r.1)), (.s (.bool r.2))]) := by
 rw [F75] at h
 refine spec_of Tryz.func75 rfl (ble _ _ rfl) fun w0 ok0 lt0 hA => ?_
 refine sr ?_
 refine sq_cons _ (v_alloc (id := 4) (cs := zc100) rfl trivial rfl (ble _ _ rfl) zu100 rfl ft100 rfl) ?_
 refine sM 5 (bV false) rfl rfl ?_
 refine sq_nil ?_
 refine ht_gj (go_id' h) (fun _ => tell [(.b 4, .box false 11), (.c 4 0, iV 0), (.c 4 1, iV 0), (.c 4 2, iV 0), (.c 4 3, iV 0), (.c 4 4, iV 0), (.c 4 5, iV 0), (.c 4 6, bV false), (.c 4 7, sV (⟨#[]⟩ : ByteArray)), (.c 4 8, .d (.sl 2 (([] : List Item).map eItem))), (.c 4 9, sV (⟨#[]⟩ : ByteArray)), (.c 4 10, bV false), (.t 4, .ptr 4 0)]) (fun _ h => ?_) (fun v1 K2 h j4 r5 => ?_)
 ·refine sr ?_
  refine sT 24 (.d (.agg (eDone (⟨0, 0, (⟨0, (⟨0, 0, 0⟩ : Stamp), false, ⟨#[]⟩, [], ⟨#[]⟩, false⟩ : Answer)⟩ : Done)))) rfl (w_bld zc100 ((eDone (⟨0, 0, (⟨0, (⟨0, 0, 0⟩ : Stamp), false, ⟨#[]⟩, [], ⟨#[]⟩, false⟩ : Answer)⟩ : Done)).map V.d) [] rfl · · · zw100 rfl ft100 rfl rfl rfl rfl) ?_
  refine sq_cons _ (v_store_box (id := 4) (off := 0) (cs := (eDone (⟨0, 0, (⟨0, (⟨0, 0, 0⟩ : Stamp), false, ⟨#[]⟩, [], ⟨#[]⟩, false⟩ : Answer)⟩ : Done)).map V.d) rfl trivial rfl sz100 rfl rfl rfl rfl (ones_of rfl) (ble _ _ rfl)) ?_
  refine sM 5 (bV false) rfl rfl ?_
  refine sq_nil ?_
  refine ht_ret ?_
  cases h
  exact ret2 rfl (.cell rfl rfl ag100 (ble _ _ rfl) rfl) (.tmp rfl)
 refine sr ?_
 refine sM 6 (iV 0) rfl rfl ?_
 refine sq_nil ?_
 refine ht_block ?_
 refine ht_rd h (fun _ => rfl) (fun t6 => tell [(.b 4, .box false 11), (.c 4 0, iV 0), (.c 4 1, iV 0), (.c 4 2, iV 0), (.c 4 3, iV 0), (.c 4 4, iV 0), (.c 4 5, iV 0), (.c 4 6, bV false), (.c 4 7, sV (⟨#[]⟩ : ByteArray)), (.c 4 8, .d (.sl 2 (([] : List Item).map eItem))), (.c 4 9, sV (⟨#[]⟩ : ByteArray)), (.c 4 10, bV false), (.t 0, .d (.sl 11 (t0.map eDone))), (.t 1, iV t1), (.t 4, .ptr 4 0), (.t 6, iV t6)]) (wk_ren _ (fun i => i) rfl ⟨rfl, rfl, rfl, rfl, rfl, rfl, rfl, rfl, rfl, rfl, rfl, rfl, rfl, rfl, rfl, rfl, trivial⟩) fun k t6 h K13 j7 => ?_
 rw [F75_l1] at h
 refine ht_seq ?_
 refine sr ?_
 refine sM 7 (iV t6) rfl rfl ?_
 refine sM 8 (.d (.sl 11 (t0.map eDone))) rfl rfl ?_
 refine sT 9 (iV (t0.length : Int)) rfl (w_len t0 eDone rfl rfl · · · slT43 rfl) ?_
 refine sT 10 (bV (ltI t6 (t0.length : Int))) rfl (v_bin rfl · · · rfl rfl (b_lss rfl)) ?_
 refine sq_nil ?_
 refine ht_cond rfl (fun e9 => ?_) (fun e9 => ?_)
 ·replace h := cpos e9 h
  refine ht_skip ?_
  refine ht_seq ?_
  refine ht_block ?_
  refine sr ?_
  refine sM 13 (.d (.sl 11 (t0.map eDone))) rfl rfl ?_
  refine sM 14 (iV t6) rfl rfl ?_
  obtain ⟨e10, h⟩ := gpos h
  refine sT 15 (.d (.dp (eDone (rd t0 t6)))) rfl (w_idx t0 eDone rfl · · · slT43 rfl rfl e10) ?_
  refine sT 16 (.d (.dp (eDone (rd t0 t6)))) rfl (v_field_dp (a0 := 0) (cs := (eDone (rd t0 t6))) rfl · · · fo100_0 rfl) ?_
  refine sT 17 (iV (rd t0 t6).mClient) rfl (v_load_dp1 rfl · · · onT3 rfl rfl) ?_
  refine sM 18 (iV t1) rfl rfl ?_
  refine sT 19 (bV (eqI (rd t0 t6).mClient t1)) rfl (v_bin rfl · · · rfl rfl (b_eql rfl)) ?_
  refine sq_nil ?_
  refine ht_cond rfl (fun e11 => ?_) (fun e11 => ?_)
  ·replace h := cpos e11 h
   refine sr ?_
   refine sM 20 (.d (.sl 11 (t0.map eDone))) rfl rfl ?_
   refine sM 21 (iV t6) rfl rfl ?_
   obtain ⟨e12, h⟩ := gpos h
   refine sT 22 (.d (.dp (eDone (rd t0 t6)))) rfl (w_idx t0 eDone rfl · · · slT43 rfl rfl e12) ?_
   refine sT 23 (.d (.agg (eDone (rd t0 t6)))) rfl (w_ldp (eDone (rd t0 t6)) (eDone (rd t0 t6)) rfl · · · ag100 rfl (ble _ _ rfl) rfl) ?_
   refine sq_cons _ (v_store_box (id := 4) (off := 0) (cs := (eDone (rd t0 t6)).map V.d) rfl trivial rfl sz100 rfl rfl rfl rfl (ones_of rfl) (ble _ _ rfl)) ?_
   refine sM 5 (bV true) rfl rfl ?_
   refine sq_nil ?_
   refine ht_ret ?_
   cases h
   cases r5 _ rfl
   exact ret2 rfl (.cell rfl rfl ag100 (ble _ _ rfl) rfl) (.tmp rfl)
  replace h := cneg e11 h
  refine ht_skip ?_
  refine ht_region ?_
  refine sM 11 (iV t6) rfl rfl ?_
  refine sT 12 (iV (IntKind.wrap .i64 (t6 + 1))) rfl (v_bin rfl · · · rfl rfl (b_add rfl)) ?_
  refine sM 6 (iV (IntKind.wrap .i64 (t6 + 1))) rfl rfl ?_
  refine sq_nil ?_
  exact j7 _ _ h (wk_ren _ (fun i => i) rfl ⟨rfl, rfl, rfl, rfl, rfl, rfl, rfl, rfl, rfl, rfl, rfl, rfl, rfl, rfl, rfl, rfl, trivial⟩)
 replace h := cneg e9 h
 refine ht_exit ?_
 refine tq ?_
 refine tq ?_
 refine bq_hit ?_
 cases h
 exact j4 _ _ rfl (wk_ren _ (fun i => i) rfl ⟨rfl, rfl, rfl, rfl, rfl, rfl, rfl, rfl, rfl, rfl, rfl, rfl, rfl, trivial⟩)
theorem s77 (k : Nat) (t0 : List Entry) (t1 : ByteArray) (t2 : Version) (r : (List Entry) × Int) (h : F77 k t0 t1 t2 = some r) : Awp.Spec Tryz.prog amb 77 [(.sl 2 (t0.map eEntry)), (.s (.string t1)), (.agg (eVersion t2))] (.ds [(.sl 2 (r.1.map eEntry)), (.s (.int .i64 r.2))]) := by
 rw [F77] at h
 refine spec_of Tryz.func77 rfl (ble _ _ rfl) fun w0 ok0 lt0 hA => ?_
 refine sr ?_
 refine sT 5 (.d (.dp (eVersion t2))) rfl (v_box_d (cs := (eVersion t2)) rfl · · · rfl rfl (ones_of rfl)) ?_
 refine sM 6 (.d (.s (.slice none 0 0))) rfl rfl ?_
 refine sM 7 (iV 0) rfl rfl ?_
 refine sq_nil ?_
 refine ht_seq ?_
 refine sr ?_
 refine sM 14 (.d (.sl 2 (t0.map eEntry))) rfl rfl ?_
 obtain ⟨t15, c1, h⟩ := bpos h
 refine sT 15 (bV t15) rfl (w_call (ds := [(.sl 2 (t0.map eEntry))]) (caps := []) (l := [(.s (.bool t15))]) (s86 k t0 _ c1) rfl rfl rfl en86 · · · (.inl ⟨rfl, rfl⟩) rfl rfl) ?_
 refine sT 16 (bV (!t15)) rfl (v_un rfl · · · rfl (u_not rfl)) ?_
 refine sM 17 (bV (!t15)) rfl rfl ?_
 refine sF 18 (sV t1) rfl rfl (fun e2 => (v_move (.inl rfl) · · · rfl)) ?_
 obtain ⟨t19, c4, h⟩ := bpos h
 refine sF 19 (bV t19) rfl rfl (fun e3 => (w_call (ds := [(.s (.string t1))]) (caps := []) (l := [(.s (.bool t19))]) (s130 k t1 _ (cpos (nF e3) c4)) rfl rfl rfl en130 · · · (.inl ⟨rfl, rfl⟩) (cc (gv (nF e3)) rfl) rfl)) ?_
 refine sF 20 (bV (!t19)) rfl rfl (fun e5 => (v_un rfl · · · (gv (nF e5)) (u_not rfl))) ?_
 refine sT 21 (bV ((!t15) || (!t19))) rfl (v_pickB rfl · · · rfl (fun e6 => rfl) (fun e7 => (gv (nF e7))) (pO _ _)) ?_
 refine sM 22 (bV ((!t15) || (!t19))) rfl rfl ?_
 refine sF 23 (.d (.agg (eVersion t2))) rfl rfl (fun e8 => (w_ldp (eVersion t2) (eVersion t2) rfl · · · ag93 rfl (ble _ _ rfl) rfl)) ?_
 obtain ⟨t24, c10, h⟩ := bpos h
 refine sF 24 (bV t24) rfl rfl (fun e9 => (w_call (ds := [(.agg (eVersion t2))]) (caps := []) (l := [(.s (.bool t24))]) (s134 k t2 _ (cpos (nF e9) c10)) rfl rfl rfl en134 · · · (.inl ⟨rfl, rfl⟩) (cc (gv (nF e9)) rfl) rfl)) ?_
 refine sF 25 (bV (!t24)) rfl rfl (fun e11 => (v_un rfl · · · (gv (nF e11)) (u_not rfl))) ?_
 refine sT 26 (bV (((!t15) || (!t19)) || (!t24))) rfl (v_pickB rfl · · · rfl (fun e12 => rfl) (fun e13 => (gv (nF e13))) (pO _ _)) ?_
 refine sq_nil ?_
 refine ht_cond rfl (fun e14 => ?_) (fun e14 => ?_)
 ·replace h := cpos e14 h
  refine sr ?_
  refine sM 6 (.d (.s (.slice none 0 0))) rfl rfl ?_
  refine sM 7 (iV 1) rfl rfl ?_
  refine sq_nil ?_
  refine ht_ret ?_
  cases h
  exact retM_wk (wk_nil (.t 6) (nb 6) 2 rfl) (ret2 rfl (.tmp rfl) (.tmp rfl))
 replace h := cneg e14 h
 refine ht_skip ?_
 refine sr ?_
 refine sM 27 (.d (.sl 2 (t0.map eEntry))) rfl rfl ?_
 refine sM 28 (sV t1) rfl rfl ?_
 obtain ⟨t29, c15, h⟩ := bpos h
 refine sT 29 (.d (.sl 5 (t29.map eVersion))) rfl (w_call (ds := [(.sl 2 (t0.map eEntry)), (.s (.string t1))]) (caps := []) (l := [(.sl 5 (t29.map eVersion))]) (s72 k t0 t1 _ c15) rfl rfl rfl en72 · · · (.inl ⟨rfl, rfl⟩) rfl rfl) ?_
 refine sM 8 (.d (.sl 5 (t29.map eVersion))) rfl rfl ?_
 refine sq_nil ?_
 refine ht_seq ?_
 refine ht_seq ?_
 refine ht_region_draw mixed ?_
 refine rM 30 (.d (.sl 5 (t29.map eVersion))) rfl rfl ?_
 refine rT 31 (iV (t29.length : Int)) rfl (w_len t29 eVersion rfl rfl · · · slT96 rfl) ?_
 refine rT 32 (bV (ltI 0 (t29.length : Int))) rfl (v_bin rfl · · · rfl rfl (b_gtr rfl)) ?_
 refine rM 33 (bV (ltI 0 (t29.length : Int))) rfl rfl ?_
 refine rG 34 (.d (.sl 5 (t29.map eVersion))) rfl rfl (fun e16 => (v_move (.inl rfl) · · · rfl)) ?_
 refine rG 35 (.d (.sl 5 (t29.map eVersion))) rfl rfl (fun e17 => (v_move (.inl rfl) · · · rfl)) ?_
 refine rG 36 (iV (t29.length : Int)) rfl rfl (fun e18 => (w_len t29 eVersion rfl rfl · · · slT96 (gv e18))) ?_
 refine rG 37 (iV (IntKind.wrap .i64 ((t29.length : Int) - 1))) rfl rfl (fun e19 => (v_bin rfl · · · (gv e19) rfl (b_sub rfl))) ?_
 obtain ⟨e21, h⟩ := gpos h
 refine rG 38 (.d (.dp (eVersion (rd t29 (IntKind.wrap .i64 ((t29.length : Int) - 1)))))) rfl rfl (fun e20 => (w_idx t29 eVersion rfl · · · slT96 (gv e20) (gv e20) (orT e21 e20))) ?_
 refine rG 39 (.d (.dp (eVersion (rd t29 (IntKind.wrap .i64 ((t29.length : Int) - 1)))))) rfl rfl (fun e22 => (v_field_dp (a0 := 0) (cs := (eVersion (rd t29 (IntKind.wrap .i64 ((t29.length : Int) - 1))))) rfl · · · fo93_0 (gv e22))) ?_
 refine rG 40 (.d (.agg (eStamp (rd t29 (IntKind.wrap .i64 ((t29.length : Int) - 1))).mAt))) rfl rfl (fun e23 => (w_ldp (eVersion (rd t29 (IntKind.wrap .i64 ((t29.length : Int) - 1)))) (eStamp (rd t29 (IntKind.wrap .i64 ((t29.length : Int) - 1))).mAt) rfl · · · ag24 (gv e23) (ble _ _ rfl) rfl)) ?_
 refine rG 41 (.d (.dp (eVersion t2))) rfl rfl (fun e24 => (v_field_dp (a0 := 0) (cs := (eVersion t2)) rfl · · · fo93_0 rfl)) ?_
 refine rG 42 (.d (.agg (eStamp t2.mAt))) rfl rfl (fun e25 => (w_ldp (eVersion t2) (eStamp t2.mAt) rfl · · · ag24 (gv e25) (ble _ _ rfl) rfl)) ?_
 obtain ⟨t43, c27, h⟩ := bpos h
 refine rG 43 (bV t43) rfl rfl (fun e26 => (w_call (ds := [(.agg (eStamp (rd t29 (IntKind.wrap .i64 ((t29.length : Int) - 1))).mAt)), (.agg (eStamp t2.mAt))]) (caps := []) (l := [(.s (.bool t43))]) (s76 k (rd t29 (IntKind.wrap .i64 ((t29.length : Int) - 1))).mAt t2.mAt _ (cpos e26 c27)) rfl rfl rfl en76 · · · (.inl ⟨rfl, rfl⟩) (cc (gv e26) (cc (gv e26) rfl)) rfl)) ?_
 refine rG 44 (bV (!t43)) rfl rfl (fun e28 => (v_un rfl · · · (gv e28) (u_not rfl))) ?_
 refine rT 45 (bV ((ltI 0 (t29.length : Int)) && (!t43))) rfl (v_pickB rfl · · · rfl (fun e29 => (gv e29)) (fun e30 => rfl) (pA _ _)) ?_
 refine rg_nil ⟨by kernel_rfl, ?_⟩
 refine ht_cond rfl (fun e31 => ?_) (fun e31 => ?_)
 ·replace h := cpos e31 h
  refine sr ?_
  refine sM 6 (.d (.s (.slice none 0 0))) rfl rfl ?_
  refine sM 7 (iV 9) rfl rfl ?_
  refine sq_nil ?_
  refine ht_ret ?_
  cases h
  exact retM_wk (wk_nil (.t 6) (nb 6) 2 rfl) (ret2 rfl (.tmp rfl) (.tmp rfl))
 replace h := cneg e31 h
 refine ht_skip ?_
 refine ht_seq ?_
 refine sr ?_
 refine sM 46 (.d (.sl 5 (t29.map eVersion))) rfl rfl ?_
 refine sT 47 (iV (t29.length : Int)) rfl (w_len t29 eVersion rfl rfl · · · slT96 rfl) ?_
 refine sT 48 (bV (eqI (t29.length : Int) 64)) rfl (v_bin rfl · · · rfl rfl (b_eql rfl)) ?_
 refine sM 49 (bV (eqI (t29.length : Int) 64)) rfl rfl ?_
 refine sF 50 (.d (.sl 5 (t29.map eVersion))) rfl rfl (fun e32 => (v_move (.inl rfl) · · · rfl)) ?_
 refine sF 51 (iV (t29.length : Int)) rfl rfl (fun e33 => (w_len t29 eVersion rfl rfl · · · slT96 (gv (nF e33)))) ?_
 refine sF 52 (bV (eqI (t29.length : Int) 0)) rfl rfl (fun e34 => (v_bin rfl · · · (gv (nF e34)) rfl (b_eql rfl))) ?_
 refine sF 53 (bV (eqI (t29.length : Int) 0)) rfl rfl (fun e35 => (v_move (.inl rfl) · · · (gv (nF e35)))) ?_
 refine sI 54 (.d (.sl 2 (t0.map eEntry))) rfl rfl (fun e36 e37 => (v_move (.inl rfl) · · · rfl)) ?_
 refine sI 55 (iV (t0.length : Int)) rfl rfl (fun e38 e39 => (w_len t0 eEntry rfl rfl · · · slT42 (gv (aT e38 e39)))) ?_
 refine sI 56 (bV (eqI (t0.length : Int) 64)) rfl rfl (fun e40 e41 => (v_bin rfl · · · (gv (aT e40 e41)) rfl (b_eql rfl))) ?_
 refine sF 57 (bV ((eqI (t29.length : Int) 0) && (eqI (t0.length : Int) 64))) rfl rfl (fun e42 => (v_pickB rfl · · · (gv (nF e42)) (fun e43 => (gv (aT (nF e42) e43))) (fun e44 => rfl) (pA _ _))) ?_
 refine sT 58 (bV ((eqI (t29.length : Int) 64) || ((eqI (t29.length : Int) 0) && (eqI (t0.length : Int) 64)))) rfl (v_pickB rfl · · · rfl (fun e45 => rfl) (fun e46 => (gv (nF e46))) (pO _ _)) ?_
 refine sq_nil ?_
 refine ht_cond rfl (fun e47 => ?_) (fun e47 => ?_)
 ·replace h := cpos e47 h
  refine sr ?_
  refine sM 6 (.d (.s (.slice none 0 0))) rfl rfl ?_
  refine sM 7 (iV 6) rfl rfl ?_
  refine sq_nil ?_
  refine ht_ret ?_
  cases h
  exact retM_wk (wk_nil (.t 6) (nb 6) 2 rfl) (ret2 rfl (.tmp rfl) (.tmp rfl))
 replace h := cneg e47 h
 refine ht_skip ?_
 refine sr ?_
 refine sM 9 (.d (.s (.slice none 0 0))) rfl rfl ?_
 refine sq_nil ?_
 refine ht_seq ?_
 refine ht_weak (wk_nilrow (.t 9) (nb 9) 2009 93 5 rfl rfl) ?_
 refine ht_region_draw mixed ?_
 refine rM 59 (sV t1) rfl rfl ?_
 refine rM 60 (.own 2009 5 ([] : List Version).length) rfl rfl ?_
 refine rM 61 (.d (.sl 5 (t29.map eVersion))) rfl rfl ?_
 obtain ⟨e48, h⟩ := gpos h
 refine rg_cons ⟨_, [(.b 2009, .spent), (.b 62, .row false 93 5 ((([] : List Version) ++ t29).map eVersion)), (.t 62, .own 62 5 (([] : List Version) ++ t29).length)]⟩ (w_app 62 ([] : List Version) t29 eVersion rfl rfl trivial rfl (ble _ _ rfl) slT96 elT93 teVersion rfl rfl rfl (.d) rfl e48) ?_
 refine rT 63 (.d (.agg (eVersion t2))) rfl (w_ldp (eVersion t2) (eVersion t2) rfl · · · ag93 rfl (ble _ _ rfl) rfl) ?_
 refine rg_cons ⟨_, [(.b 64, .row false 93 5 (([t2]).map eVersion)), (.t 64, .own 64 5 ([t2]).length)]⟩ (w_bsl (id := 64) [(0, .d (.agg (eVersion t2)))] [t2] eVersion rfl trivial rfl (ble _ _ rfl) slT96 zr93 teVersion (ble _ _ rfl) rfl (by kernel_rfl) rfl rfl (by kernel_rfl) (by kernel_rfl)) ?_
 obtain ⟨e49, h⟩ := gpos h
 refine rg_cons ⟨_, [(.b 62, .spent), (.b 65, .row true 93 5 (((([] : List Version) ++ t29) ++ [t2]).map eVersion)), (.t 65, .d (.sl 5 (((([] : List Version) ++ t29) ++ [t2]).map eVersion)))]⟩ (w_app_d 65 (([] : List Version) ++ t29) ([t2]) eVersion rfl rfl trivial rfl (ble _ _ rfl) slT96 elT93 teVersion rfl rfl rfl (.own 64 _ _ rfl) rfl e49) ?_
 refine rT 66 (.d (.agg (eEntry (⟨t1, ((([] : List Version) ++ t29) ++ [t2])⟩ : Entry)))) rfl (w_bld zc116 ((eEntry (⟨t1, ((([] : List Version) ++ t29) ++ [t2])⟩ : Entry)).map V.d) [(0, sV t1), (1, .d (.sl 5 (((([] : List Version) ++ t29) ++ [t2]).map eVersion)))] rfl · · · zw116 rfl ft116 rfl rfl rfl rfl) ?_
 refine rg_cons _ (v_alloc (id := 10) (cs := zc116) rfl trivial rfl (ble _ _ rfl) zu116 rfl ft116 rfl) ?_
 refine rg_cons _ (v_store_box (id := 10) (off := 0) (cs := (eEntry (⟨t1, ((([] : List Version) ++ t29) ++ [t2])⟩ : Entry)).map V.d) rfl trivial rfl sz116 rfl rfl rfl rfl (ones_of rfl) (ble _ _ rfl)) ?_
 refine rg_nil ⟨by kernel_rfl, ?_⟩
 refine sr ?_
 refine sM 11 (.d (.s (.slice none 0 0))) rfl rfl ?_
 refine sq_nil ?_
 refine sr ?_
 refine sM 12 (bV false) rfl rfl ?_
 refine sq_nil ?_
 refine ht_bj h (fun (t11, t12) => tell [(.b 10, .box false 2), (.b 1011, .row false 116 2 (t11.map eEntry)), (.c 10 0, sV t1), (.c 10 1, .d (.sl 5 (((([] : List Version) ++ t29) ++ [t2]).map eVersion))), (.t 10, .ptr 10 0), (.t 11, .own 1011 2 t11.length), (.t 12, bV t12)]) (fun v50 h => ?_) (fun v50 K51 h j53 => ?_)
 ·obtain ⟨t11, t12⟩ := v50
  refine ht_seq ?_
  refine sr ?_
  refine sM 103 (bV t12) rfl rfl ?_
  refine sT 104 (bV (!t12)) rfl (v_un rfl · · · rfl (u_not rfl)) ?_
  refine sq_nil ?_
  refine ht_cond rfl (fun e83 => ?_) (fun e83 => ?_)
  ·replace h := cpos e83 h
   refine ht_region ?_
   refine sM 105 (.own 1011 2 t11.length) rfl rfl ?_
   refine sT 106 (.d (.agg (eEntry (⟨t1, ((([] : List Version) ++ t29) ++ [t2])⟩ : Entry)))) rfl (w_ldb 10 0 rfl · · · ag116 rfl rfl (ble _ _ rfl) rfl) ?_
   refine sq_cons ⟨_, [(.b 107, .row false 116 2 (([(⟨t1, ((([] : List Version) ++ t29) ++ [t2])⟩ : Entry)]).map eEntry)), (.t 107, .own 107 2 ([(⟨t1, ((([] : List Version) ++ t29) ++ [t2])⟩ : Entry)]).length)]⟩ (w_bsl (id := 107) [(0, .d (.agg (eEntry (⟨t1, ((([] : List Version) ++ t29) ++ [t2])⟩ : Entry))))] [(⟨t1, ((([] : List Version) ++ t29) ++ [t2])⟩ : Entry)] eEntry rfl trivial rfl (ble _ _ rfl) slT42 zr116 teEntry (ble _ _ rfl) rfl (by kernel_rfl) rfl rfl (by kernel_rfl) (by kernel_rfl)) ?_
   obtain ⟨e84, h⟩ := gpos h
   refine sq_cons ⟨_, [(.b 1011, .spent), (.b 108, .row false 116 2 ((t11 ++ [(⟨t1, ((([] : List Version) ++ t29) ++ [t2])⟩ : Entry)]).map eEntry)), (.t 108, .own 108 2 (t11 ++ [(⟨t1, ((([] : List Version) ++ t29) ++ [t2])⟩ : Entry)]).length)]⟩ (w_app 108 t11 ([(⟨t1, ((([] : List Version) ++ t29) ++ [t2])⟩ : Entry)]) eEntry rfl rfl trivial rfl (ble _ _ rfl) slT42 elT116 teEntry rfl rfl rfl (.own 107 _ _ rfl) rfl e84) ?_
   refine sM 11 (.own 108 2 (t11 ++ [(⟨t1, ((([] : List Version) ++ t29) ++ [t2])⟩ : Entry)]).length) rfl rfl ?_
   refine sq_nil ?_
   refine sr ?_
   refine sM 109 (.own 108 2 (t11 ++ [(⟨t1, ((([] : List Version) ++ t29) ++ [t2])⟩ : Entry)]).length) rfl rfl ?_
   refine sM 6 (.own 108 2 (t11 ++ [(⟨t1, ((([] : List Version) ++ t29) ++ [t2])⟩ : Entry)]).length) rfl rfl ?_
   refine sM 7 (iV 0) rfl rfl ?_
   refine sq_nil ?_
   refine ht_ret ?_
   cases h
   exact retM_wk (wk_still_row 108 _ _ _ rfl) (retM_wk (wk_row (.t 6) (nb 6) 108 _ _ _ _ rfl rfl (lm _ _)) (retM_wk (wk_row (.t 11) (nb 11) 108 _ _ _ _ rfl rfl (lm _ _)) (retM_wk (wk_row (.t 108) (nb 108) 108 _ _ _ _ rfl rfl (lm _ _)) (retM_wk (wk_row (.t 109) (nb 109) 108 _ _ _ _ rfl rfl (lm _ _)) (ret2 rfl (.tmp rfl) (.tmp rfl))))))
  replace h := cneg e83 h
  refine ht_skip ?_
  refine sr ?_
  refine sM 109 (.own 1011 2 t11.length) rfl rfl ?_
  refine sM 6 (.own 1011 2 t11.length) rfl rfl ?_
  refine sM 7 (iV 0) rfl rfl ?_
  refine sq_nil ?_
  refine ht_ret ?_
  cases h
  exact retM_wk (wk_still_row 1011 _ _ _ rfl) (retM_wk (wk_row (.t 6) (nb 6) 1011 _ _ _ _ rfl rfl (lm _ _)) (retM_wk (wk_row (.t 11) (nb 11) 1011 _ _ _ _ rfl rfl (lm _ _)) (retM_wk (wk_row (.t 109) (nb 109) 1011 _ _ _ _ rfl rfl (lm _ _)) (ret2 rfl (.tmp rfl) (.tmp rfl)))))
 refine sr ?_
 refine sM 13 (iV 0) rfl rfl ?_
 refine sq_nil ?_
 refine ht_block ?_
 refine ht_rd h (fun _ => rfl) (fun (t11_1, t12_1, t13) => tell [(.b 10, .box false 2), (.b 1011, .row false 116 2 (t11_1.map eEntry)), (.c 10 0, sV t1), (.c 10 1, .d (.sl 5 (((([] : List Version) ++ t29) ++ [t2]).map eVersion))), (.t 0, .d (.sl 2 (t0.map eEntry))), (.t 1, sV t1), (.t 10, .ptr 10 0), (.t 11, .own 1011 2 t11_1.length), (.t 12, bV t12_1), (.t 13, iV t13)]) (wkt (wk_nilrow (.t 11) (nb 11) 1001011 116 2 rfl rfl) (wk_ren _ (fun i => bif Nat.beq i 1011 then 1001011 else i) rfl ⟨rfl, rfl, rfl, rfl, rfl, rfl, rfl, rfl, rfl, rfl, trivial⟩)) fun k v57 h K82 j56 => ?_
 obtain ⟨t11_1, t12_1, t13⟩ := v57
 rw [F77_l1] at h
 refine ht_seq ?_
 refine sr ?_
 refine sM 67 (iV t13) rfl rfl ?_
 refine sM 68 (.d (.sl 2 (t0.map eEntry))) rfl rfl ?_
 refine sT 69 (iV (t0.length : Int)) rfl (w_len t0 eEntry rfl rfl · · · slT42 rfl) ?_
 refine sT 70 (bV (ltI t13 (t0.length : Int))) rfl (v_bin rfl · · · rfl rfl (b_lss rfl)) ?_
 refine sq_nil ?_
 refine ht_cond rfl (fun e58 => ?_) (fun e58 => ?_)
 ·replace h := cpos e58 h
  refine ht_skip ?_
  refine ht_seq ?_
  refine ht_block ?_
  refine ht_bj h (fun (t11_2, t12_2) => tell [(.b 10, .box false 2), (.b 1011, .row false 116 2 (t11_2.map eEntry)), (.c 10 0, sV t1), (.c 10 1, .d (.sl 5 (((([] : List Version) ++ t29) ++ [t2]).map eVersion))), (.t 0, .d (.sl 2 (t0.map eEntry))), (.t 1, sV t1), (.t 10, .ptr 10 0), (.t 11, .own 1011 2 t11_2.length), (.t 12, bV t12_2), (.t 13, iV t13)]) (fun v59 h => ?_) (fun v59 K60 h j62 => ?_)
  ·obtain ⟨t11_2, t12_2⟩ := v59
   refine sr ?_
   refine sM 89 (.d (.sl 2 (t0.map eEntry))) rfl rfl ?_
   refine sM 90 (iV t13) rfl rfl ?_
   obtain ⟨e78, h⟩ := gpos h
   refine sT 91 (.d (.dp (eEntry (rd t0 t13)))) rfl (w_idx t0 eEntry rfl · · · slT42 rfl rfl e78) ?_
   refine sT 92 (.d (.dp (eEntry (rd t0 t13)))) rfl (v_field_dp (a0 := 0) (cs := (eEntry (rd t0 t13))) rfl · · · fo116_0 rfl) ?_
   refine sT 93 (sV (rd t0 t13).mKey) rfl (v_load_dp1 rfl · · · onT9 rfl rfl) ?_
   refine sM 94 (sV t1) rfl rfl ?_
   refine sT 95 (bV (!strEq (rd t0 t13).mKey t1)) rfl (v_bin rfl · · · rfl rfl (b_neS rfl)) ?_
   refine sq_nil ?_
   refine ht_cond rfl (fun e79 => ?_) (fun e79 => ?_)
   ·replace h := cpos e79 h
    refine ht_region ?_
    refine sM 96 (.own 1011 2 t11_2.length) rfl rfl ?_
    refine sM 97 (.d (.sl 2 (t0.map eEntry))) rfl rfl ?_
    refine sM 98 (iV t13) rfl rfl ?_
    obtain ⟨e80, h⟩ := gpos h
    refine sT 99 (.d (.dp (eEntry (rd t0 t13)))) rfl (w_idx t0 eEntry rfl · · · slT42 rfl rfl e80) ?_
    refine sT 100 (.d (.agg (eEntry (rd t0 t13)))) rfl (w_ldp (eEntry (rd t0 t13)) (eEntry (rd t0 t13)) rfl · · · ag116 rfl (ble _ _ rfl) rfl) ?_
    refine sq_cons ⟨_, [(.b 101, .row false 116 2 (([(rd t0 t13)]).map eEntry)), (.t 101, .own 101 2 ([(rd t0 t13)]).length)]⟩ (w_bsl (id := 101) [(0, .d (.agg (eEntry (rd t0 t13))))] [(rd t0 t13)] eEntry rfl trivial rfl (ble _ _ rfl) slT42 zr116 teEntry (ble _ _ rfl) rfl (by kernel_rfl) rfl rfl (by kernel_rfl) (by kernel_rfl)) ?_
    obtain ⟨e81, h⟩ := gpos h
    refine sq_cons ⟨_, [(.b 1011, .spent), (.b 102, .row false 116 2 ((t11_2 ++ [(rd t0 t13)]).map eEntry)), (.t 102, .own 102 2 (t11_2 ++ [(rd t0 t13)]).length)]⟩ (w_app 102 t11_2 ([(rd t0 t13)]) eEntry rfl rfl trivial rfl (ble _ _ rfl) slT42 elT116 teEntry rfl rfl rfl (.own 101 _ _ rfl) rfl e81) ?_
    refine sM 11 (.own 102 2 (t11_2 ++ [(rd t0 t13)]).length) rfl rfl ?_
    refine sq_nil ?_
    refine ht_region ?_
    refine sM 71 (iV t13) rfl rfl ?_
    refine sT 72 (iV (IntKind.wrap .i64 (t13 + 1))) rfl (v_bin rfl · · · rfl rfl (b_add rfl)) ?_
    refine sM 13 (iV (IntKind.wrap .i64 (t13 + 1))) rfl rfl ?_
    refine sq_nil ?_
    exact j56 _ _ h (wk_ren _ (fun i => bif Nat.beq i 1011 then 102 else i) rfl ⟨rfl, rfl, rfl, rfl, rfl, rfl, rfl, rfl, rfl, rfl, trivial⟩)
   replace h := cneg e79 h
   refine ht_skip ?_
   refine ht_region ?_
   refine sM 71 (iV t13) rfl rfl ?_
   refine sT 72 (iV (IntKind.wrap .i64 (t13 + 1))) rfl (v_bin rfl · · · rfl rfl (b_add rfl)) ?_
   refine sM 13 (iV (IntKind.wrap .i64 (t13 + 1))) rfl rfl ?_
   refine sq_nil ?_
   exact j56 _ _ h (wk_ren _ (fun i => i) rfl ⟨rfl, rfl, rfl, rfl, rfl, rfl, rfl, rfl, rfl, rfl, trivial⟩)
  refine sr ?_
  refine sM 73 (bV t12_1) rfl rfl ?_
  refine sT 74 (bV (!t12_1)) rfl (v_un rfl · · · rfl (u_not rfl)) ?_
  refine sM 75 (bV (!t12_1)) rfl rfl ?_
  refine sG 76 (sV t1) rfl rfl (fun e64 => (v_move (.inl rfl) · · · rfl)) ?_
  refine sG 77 (.d (.sl 2 (t0.map eEntry))) rfl rfl (fun e65 => (v_move (.inl rfl) · · · rfl)) ?_
  refine sG 78 (iV t13) rfl rfl (fun e66 => (v_move (.inl rfl) · · · rfl)) ?_
  obtain ⟨e68, h⟩ := gpos h
  refine sG 79 (.d (.dp (eEntry (rd t0 t13)))) rfl rfl (fun e67 => (w_idx t0 eEntry rfl · · · slT42 (gv e67) (gv e67) (orT e68 e67))) ?_
  refine sG 80 (.d (.dp (eEntry (rd t0 t13)))) rfl rfl (fun e69 => (v_field_dp (a0 := 0) (cs := (eEntry (rd t0 t13))) rfl · · · fo116_0 (gv e69))) ?_
  refine sG 81 (sV (rd t0 t13).mKey) rfl rfl (fun e70 => (v_load_dp1 rfl · · · onT9 (gv e70) rfl)) ?_
  obtain ⟨t82, c72, h⟩ := bpos h
  refine sG 82 (iV t82) rfl rfl (fun e71 => (w_call (ds := [(.s (.string t1)), (.s (.string (rd t0 t13).mKey))]) (caps := []) (l := [(.s (.int .i64 t82))]) (s119 k t1 (rd t0 t13).mKey _ (cpos e71 c72)) rfl rfl rfl en119 · · · (.inl ⟨rfl, rfl⟩) (cc (gv e71) (cc (gv e71) rfl)) rfl)) ?_
  refine sG 83 (bV (leI t82 0)) rfl rfl (fun e73 => (v_bin rfl · · · (gv e73) rfl (b_leq rfl))) ?_
  refine sT 84 (bV ((!t12_1) && (leI t82 0))) rfl (v_pickB rfl · · · rfl (fun e74 => (gv e74)) (fun e75 => rfl) (pA _ _)) ?_
  refine sq_nil ?_
  refine ht_cond rfl (fun e76 => ?_) (fun e76 => ?_)
  ·replace h := cpos e76 h
   refine sr ?_
   refine sM 85 (.own 1011 2 t11_1.length) rfl rfl ?_
   refine sT 86 (.d (.agg (eEntry (⟨t1, ((([] : List Version) ++ t29) ++ [t2])⟩ : Entry)))) rfl (w_ldb 10 0 rfl · · · ag116 rfl rfl (ble _ _ rfl) rfl) ?_
   refine sq_cons ⟨_, [(.b 87, .row false 116 2 (([(⟨t1, ((([] : List Version) ++ t29) ++ [t2])⟩ : Entry)]).map eEntry)), (.t 87, .own 87 2 ([(⟨t1, ((([] : List Version) ++ t29) ++ [t2])⟩ : Entry)]).length)]⟩ (w_bsl (id := 87) [(0, .d (.agg (eEntry (⟨t1, ((([] : List Version) ++ t29) ++ [t2])⟩ : Entry))))] [(⟨t1, ((([] : List Version) ++ t29) ++ [t2])⟩ : Entry)] eEntry rfl trivial rfl (ble _ _ rfl) slT42 zr116 teEntry (ble _ _ rfl) rfl (by kernel_rfl) rfl rfl (by kernel_rfl) (by kernel_rfl)) ?_
   obtain ⟨e77, h⟩ := gpos h
   refine sq_cons ⟨_, [(.b 1011, .spent), (.b 88, .row false 116 2 ((t11_1 ++ [(⟨t1, ((([] : List Version) ++ t29) ++ [t2])⟩ : Entry)]).map eEntry)), (.t 88, .own 88 2 (t11_1 ++ [(⟨t1, ((([] : List Version) ++ t29) ++ [t2])⟩ : Entry)]).length)]⟩ (w_app 88 t11_1 ([(⟨t1, ((([] : List Version) ++ t29) ++ [t2])⟩ : Entry)]) eEntry rfl rfl trivial rfl (ble _ _ rfl) slT42 elT116 teEntry rfl rfl rfl (.own 87 _ _ rfl) rfl e77) ?_
   refine sM 11 (.own 88 2 (t11_1 ++ [(⟨t1, ((([] : List Version) ++ t29) ++ [t2])⟩ : Entry)]).length) rfl rfl ?_
   refine sq_nil ?_
   refine ht_region ?_
   refine sM 12 (bV true) rfl rfl ?_
   refine sq_nil ?_
   cases h
   exact j62 _ (wk_ren _ (fun i => bif Nat.beq i 1011 then 88 else i) rfl ⟨rfl, rfl, rfl, rfl, rfl, rfl, rfl, rfl, rfl, rfl, trivial⟩)
  replace h := cneg e76 h
  refine ht_skip ?_
  cases h
  exact j62 _ (wk_ren _ (fun i => i) rfl ⟨rfl, rfl, rfl, rfl, rfl, rfl, rfl, rfl, rfl, rfl, trivial⟩)
 replace h := cneg e58 h
 refine ht_exit ?_
 refine tq ?_
 refine tq ?_
 refine bq_hit ?_
 cases h
 exact j53 _ (wk_ren _ (fun i => i) rfl ⟨rfl, rfl, rfl, rfl, rfl, rfl, rfl, trivial⟩)
theorem s135 (k : Nat) (t0 : List Done) (r : (List Done)) (h : F135 k t0 = some r) : Awp.Spec Tryz.prog amb 135 [(.sl 11 (t0.map eDone))] (.ds [(.sl 11 (r.map eDone))]) := by
 rw [F135] at h
 refine spec_of Tryz.func135 rfl (ble _ _ rfl) fun w0 ok0 lt0 hA => ?_
 refine sr ?_
 refine sM 2 (.d (.s (.slice none 0 0))) rfl rfl ?_
 refine sq_nil ?_
 refine sr ?_
 refine sM 3 (.d (.s (.slice none 0 0))) rfl rfl ?_
 refine sq_nil ?_
 refine ht_block ?_
 refine ht_rd h (fun _ => rfl) (fun t3 => tell [(.b 1003, .row false 100 11 (t3.map eDone)), (.t 0, .d (.sl 11 (t0.map eDone))), (.t 3, .own 1003 11 t3.length)]) (wkt (wk_nilrow (.t 3) (nb 3) 1001003 100 11 rfl rfl) (wk_ren _ (fun i => bif Nat.beq i 1003 then 1001003 else i) rfl ⟨rfl, rfl, rfl, trivial⟩)) fun k t3 h K67 j2 => ?_
 rw [F135_l1] at h
 refine ht_block ?_
 refine sr ?_
 refine sM 4 (iV (-1)) rfl rfl ?_
 refine sq_nil ?_
 refine ht_bj h (fun t4 => tell [(.b 1003, .row false 100 11 (t3.map eDone)), (.t 0, .d (.sl 11 (t0.map eDone))), (.t 3, .own 1003 11 t3.length), (.t 4, iV t4)]) (fun t4 h => ?_) (fun v4 K5 h j7 => ?_)
 ·refine ht_seq ?_
  refine sr ?_
  refine sM 48 (iV t4) rfl rfl ?_
  refine sT 49 (bV (ltI t4 0)) rfl (v_bin rfl · · · rfl rfl (b_lss rfl)) ?_
  refine sq_nil ?_
  refine ht_cond rfl (fun e64 => ?_) (fun e64 => ?_)
  ·replace h := cpos e64 h
   refine sr ?_
   refine sM 50 (.own 1003 11 t3.length) rfl rfl ?_
   refine sM 2 (.own 1003 11 t3.length) rfl rfl ?_
   refine sq_nil ?_
   refine ht_ret ?_
   cases h
   exact retM_wk (wk_still_row 1003 _ _ _ rfl) (retM_wk (wk_row (.t 2) (nb 2) 1003 _ _ _ _ rfl rfl (lm _ _)) (retM_wk (wk_row (.t 3) (nb 3) 1003 _ _ _ _ rfl rfl (lm _ _)) (retM_wk (wk_row (.t 50) (nb 50) 1003 _ _ _ _ rfl rfl (lm _ _)) (ret1 rfl (.tmp rfl)))))
  replace h := cneg e64 h
  refine ht_skip ?_
  refine ht_region ?_
  refine sM 51 (.own 1003 11 t3.length) rfl rfl ?_
  refine sM 52 (.d (.sl 11 (t0.map eDone))) rfl rfl ?_
  refine sM 53 (iV t4) rfl rfl ?_
  obtain ⟨e65, h⟩ := gpos h
  refine sT 54 (.d (.dp (eDone (rd t0 t4)))) rfl (w_idx t0 eDone rfl · · · slT43 rfl rfl e65) ?_
  refine sT 55 (.d (.agg (eDone (rd t0 t4)))) rfl (w_ldp (eDone (rd t0 t4)) (eDone (rd t0 t4)) rfl · · · ag100 rfl (ble _ _ rfl) rfl) ?_
  refine sq_cons ⟨_, [(.b 56, .row false 100 11 (([(rd t0 t4)]).map eDone)), (.t 56, .own 56 11 ([(rd t0 t4)]).length)]⟩ (w_bsl (id := 56) [(0, .d (.agg (eDone (rd t0 t4))))] [(rd t0 t4)] eDone rfl trivial rfl (ble _ _ rfl) slT43 zr100 teDone (ble _ _ rfl) rfl (by kernel_rfl) rfl rfl (by kernel_rfl) (by kernel_rfl)) ?_
  obtain ⟨e66, h⟩ := gpos h
  refine sq_cons ⟨_, [(.b 1003, .spent), (.b 57, .row false 100 11 ((t3 ++ [(rd t0 t4)]).map eDone)), (.t 57, .own 57 11 (t3 ++ [(rd t0 t4)]).length)]⟩ (w_app 57 t3 ([(rd t0 t4)]) eDone rfl rfl trivial rfl (ble _ _ rfl) slT43 elT100 teDone rfl rfl rfl (.own 56 _ _ rfl) rfl e66) ?_
  refine sM 3 (.own 57 11 (t3 ++ [(rd t0 t4)]).length) rfl rfl ?_
  refine sq_nil ?_
  exact j2 _ _ h (wk_ren _ (fun i => bif Nat.beq i 1003 then 57 else i) rfl ⟨rfl, rfl, rfl, trivial⟩)
 refine sr ?_
 refine sM 5 (iV 0) rfl rfl ?_
 refine sq_nil ?_
 refine ht_block ?_
 refine ht_rd h (fun _ => rfl) (fun (t4_1, t5) => tell [(.b 1003, .row false 100 11 (t3.map eDone)), (.t 0, .d (.sl 11 (t0.map eDone))), (.t 3, .own 1003 11 t3.length), (.t 4, iV t4_1), (.t 5, iV t5)]) (wk_ren _ (fun i => i) rfl ⟨rfl, rfl, rfl, rfl, rfl, trivial⟩) fun k v11 h K63 j10 => ?_
 obtain ⟨t4_1, t5⟩ := v11
 rw [F135_l2] at h
 refine ht_seq ?_
 refine sr ?_
 refine sM 6 (iV t5) rfl rfl ?_
 refine sM 7 (.d (.sl 11 (t0.map eDone))) rfl rfl ?_
 refine sT 8 (iV (t0.length : Int)) rfl (w_len t0 eDone rfl rfl · · · slT43 rfl) ?_
 refine sT 9 (bV (ltI t5 (t0.length : Int))) rfl (v_bin rfl · · · rfl rfl (b_lss rfl)) ?_
 refine sq_nil ?_
 refine ht_cond rfl (fun e12 => ?_) (fun e12 => ?_)
 ·replace h := cpos e12 h
  refine ht_skip ?_
  refine ht_seq ?_
  refine ht_block ?_
  refine ht_seq ?_
  refine ht_region_draw mixed ?_
  refine rM 12 (.own 1003 11 t3.length) rfl rfl ?_
  refine rT 13 (iV (t3.length : Int)) rfl (v_len_own rfl rfl · · · und43 rfl) ?_
  refine rT 14 (bV (eqI (t3.length : Int) 0)) rfl (v_bin rfl · · · rfl rfl (b_eql rfl)) ?_
  refine rM 15 (bV (eqI (t3.length : Int) 0)) rfl rfl ?_
  refine rF 16 (.d (.sl 11 (t0.map eDone))) rfl rfl (fun e13 => (v_move (.inl rfl) · · · rfl)) ?_
  refine rF 17 (iV t5) rfl rfl (fun e14 => (v_move (.inl rfl) · · · rfl)) ?_
  obtain ⟨e16, h⟩ := gpos h
  refine rF 18 (.d (.dp (eDone (rd t0 t5)))) rfl rfl (fun e15 => (w_idx t0 eDone rfl · · · slT43 (gv (nF e15)) (gv (nF e15)) (orT e16 (nF e15)))) ?_
  refine rF 19 (.d (.dp (eDone (rd t0 t5)))) rfl rfl (fun e17 => (v_field_dp (a0 := 0) (cs := (eDone (rd t0 t5))) rfl · · · fo100_0 (gv (nF e17)))) ?_
  refine rF 20 (iV (rd t0 t5).mClient) rfl rfl (fun e18 => (v_load_dp1 rfl · · · onT3 (gv (nF e18)) rfl)) ?_
  refine rF 21 (.own 1003 11 t3.length) rfl rfl (fun e19 => (v_move (.inl rfl) · · · rfl)) ?_
  refine rF 22 (.own 1003 11 t3.length) rfl rfl (fun e20 => (v_move (.inl rfl) · · · rfl)) ?_
  refine rF 23 (iV (t3.length : Int)) rfl rfl (fun e21 => (v_len_own rfl rfl · · · und43 (gv (nF e21)))) ?_
  refine rF 24 (iV (IntKind.wrap .i64 ((t3.length : Int) - 1))) rfl rfl (fun e22 => (v_bin rfl · · · (gv (nF e22)) rfl (b_sub rfl))) ?_
  obtain ⟨e24, h⟩ := gpos h
  refine rF 25 (.elp 1003 11 (IntKind.wrap .i64 ((t3.length : Int) - 1)).toNat 0) rfl rfl (fun e23 => (w_idx_own t3 rfl · · · slT43 (gv (nF e23)) (gv (nF e23)) (orT e24 (nF e23)))) ?_
  refine rF 26 (.elp 1003 11 (IntKind.wrap .i64 ((t3.length : Int) - 1)).toNat 0) rfl rfl (fun e25 => (v_field_elp (a0 := 0) rfl · · · fo100_0 (gv (nF e25)))) ?_
  refine rF 27 (iV (rd t3 (IntKind.wrap .i64 ((t3.length : Int) - 1))).mClient) rfl rfl (fun e26 => (w_ldE1 t3 eDone rfl · · · onT3 (gv (nF e26)) (orT e24 (nF e26)) rfl rfl)) ?_
  refine rF 28 (bV (ltI (rd t3 (IntKind.wrap .i64 ((t3.length : Int) - 1))).mClient (rd t0 t5).mClient)) rfl rfl (fun e27 => (v_bin rfl · · · (gv (nF e27)) (gv (nF e27)) (b_gtr rfl))) ?_
  refine rT 29 (bV ((eqI (t3.length : Int) 0) || (ltI (rd t3 (IntKind.wrap .i64 ((t3.length : Int) - 1))).mClient (rd t0 t5).mClient))) rfl (v_pickB rfl · · · rfl (fun e28 => rfl) (fun e29 => (gv (nF e29))) (pO _ _)) ?_
  refine rM 30 (bV ((eqI (t3.length : Int) 0) || (ltI (rd t3 (IntKind.wrap .i64 ((t3.length : Int) - 1))).mClient (rd t0 t5).mClient))) rfl rfl ?_
  refine rG 31 (iV t4_1) rfl rfl (fun e30 => (v_move (.inl rfl) · · · rfl)) ?_
  refine rG 32 (bV (ltI t4_1 0)) rfl rfl (fun e31 => (v_bin rfl · · · (gv e31) rfl (b_lss rfl))) ?_
  refine rG 33 (bV (ltI t4_1 0)) rfl rfl (fun e32 => (v_move (.inl rfl) · · · (gv e32))) ?_
  refine rH 34 (.d (.sl 11 (t0.map eDone))) rfl rfl (fun e33 e34 => (v_move (.inl rfl) · · · rfl)) ?_
  refine rH 35 (iV t5) rfl rfl (fun e35 e36 => (v_move (.inl rfl) · · · rfl)) ?_
  obtain ⟨e39, h⟩ := gpos h
  refine rH 36 (.d (.dp (eDone (rd t0 t5)))) rfl rfl (fun e37 e38 => (w_idx t0 eDone rfl · · · slT43 (gv (aT e37 (nF e38))) (gv (aT e37 (nF e38))) (orT e39 (aT e37 (nF e38))))) ?_
  refine rH 37 (.d (.dp (eDone (rd t0 t5)))) rfl rfl (fun e40 e41 => (v_field_dp (a0 := 0) (cs := (eDone (rd t0 t5))) rfl · · · fo100_0 (gv (aT e40 (nF e41))))) ?_
  refine rH 38 (iV (rd t0 t5).mClient) rfl rfl (fun e42 e43 => (v_load_dp1 rfl · · · onT3 (gv (aT e42 (nF e43))) rfl)) ?_
  refine rH 39 (.d (.sl 11 (t0.map eDone))) rfl rfl (fun e44 e45 => (v_move (.inl rfl) · · · rfl)) ?_
  refine rH 40 (iV t4_1) rfl rfl (fun e46 e47 => (v_move (.inl rfl) · · · rfl)) ?_
  obtain ⟨e50, h⟩ := gpos h
  refine rH 41 (.d (.dp (eDone (rd t0 t4_1)))) rfl rfl (fun e48 e49 => (w_idx t0 eDone rfl · · · slT43 (gv (aT e48 (nF e49))) (gv (aT e48 (nF e49))) (orT e50 (aT e48 (nF e49))))) ?_
  refine rH 42 (.d (.dp (eDone (rd t0 t4_1)))) rfl rfl (fun e51 e52 => (v_field_dp (a0 := 0) (cs := (eDone (rd t0 t4_1))) rfl · · · fo100_0 (gv (aT e51 (nF e52))))) ?_
  refine rH 43 (iV (rd t0 t4_1).mClient) rfl rfl (fun e53 e54 => (v_load_dp1 rfl · · · onT3 (gv (aT e53 (nF e54))) rfl)) ?_
  refine rH 44 (bV (ltI (rd t0 t5).mClient (rd t0 t4_1).mClient)) rfl rfl (fun e55 e56 => (v_bin rfl · · · (gv (aT e55 (nF e56))) (gv (aT e55 (nF e56))) (b_lss rfl))) ?_
  refine rG 45 (bV ((ltI t4_1 0) || (ltI (rd t0 t5).mClient (rd t0 t4_1).mClient))) rfl rfl (fun e57 => (v_pickB rfl · · · (gv e57) (fun e58 => rfl) (fun e59 => (gv (aT e57 (nF e59)))) (pO _ _))) ?_
  refine rT 46 (bV (((eqI (t3.length : Int) 0) || (ltI (rd t3 (IntKind.wrap .i64 ((t3.length : Int) - 1))).mClient (rd t0 t5).mClient)) && ((ltI t4_1 0) || (ltI (rd t0 t5).mClient (rd t0 t4_1).mClient)))) rfl (v_pickB rfl · · · rfl (fun e60 => (gv e60)) (fun e61 => rfl) (pA _ _)) ?_
  refine rg_nil ⟨by kernel_rfl, ?_⟩
  refine ht_cond rfl (fun e62 => ?_) (fun e62 => ?_)
  ·replace h := cpos e62 h
   refine ht_region ?_
   refine sM 47 (iV t5) rfl rfl ?_
   refine sM 4 (iV t5) rfl rfl ?_
   refine sq_nil ?_
   refine ht_region ?_
   refine sM 10 (iV t5) rfl rfl ?_
   refine sT 11 (iV (IntKind.wrap .i64 (t5 + 1))) rfl (v_bin rfl · · · rfl rfl (b_add rfl)) ?_
   refine sM 5 (iV (IntKind.wrap .i64 (t5 + 1))) rfl rfl ?_
   refine sq_nil ?_
   exact j10 _ _ h (wk_ren _ (fun i => i) rfl ⟨rfl, rfl, rfl, rfl, rfl, trivial⟩)
  replace h := cneg e62 h
  refine ht_skip ?_
  refine ht_region ?_
  refine sM 10 (iV t5) rfl rfl ?_
  refine sT 11 (iV (IntKind.wrap .i64 (t5 + 1))) rfl (v_bin rfl · · · rfl rfl (b_add rfl)) ?_
  refine sM 5 (iV (IntKind.wrap .i64 (t5 + 1))) rfl rfl ?_
  refine sq_nil ?_
  exact j10 _ _ h (wk_ren _ (fun i => i) rfl ⟨rfl, rfl, rfl, rfl, rfl, trivial⟩)
 replace h := cneg e12 h
 refine ht_exit ?_
 refine tq ?_
 refine tq ?_
 refine bq_hit ?_
 cases h
 exact j7 _ (wk_ren _ (fun i => i) rfl ⟨rfl, rfl, rfl, rfl, trivial⟩)
theorem s78 (k : Nat) (t0 : List Done) (t1 : Done) (r : (List Done) × Int) (h : F78 k t0 t1 = some r) : Awp.Spec Tryz.prog amb 78 [(.sl 11 (t0.map eDone)), (.agg (eDone t1))] (.ds [(.sl 11 (r.1.map eDone)), (.s (.int .i64 r.2))]) := by
 rw [F78] at h
 refine spec_of Tryz.func78 rfl (ble _ _ rfl) fun w0 ok0 lt0 hA => ?_
 refine sr ?_
 refine sT 3 (.d (.dp (eDone t1))) rfl (v_box_d (cs := (eDone t1)) rfl · · · rfl rfl (ones_of rfl)) ?_
 refine sM 4 (.d (.s (.slice none 0 0))) rfl rfl ?_
 refine sM 5 (iV 0) rfl rfl ?_
 refine sq_nil ?_
 refine ht_seq ?_
 refine sr ?_
 refine sM 7 (.d (.sl 11 (t0.map eDone))) rfl rfl ?_
 obtain ⟨t8, c1, h⟩ := bpos h
 refine sT 8 (bV t8) rfl (w_call (ds := [(.sl 11 (t0.map eDone))]) (caps := []) (l := [(.s (.bool t8))]) (s87 k t0 _ c1) rfl rfl rfl en87 · · · (.inl ⟨rfl, rfl⟩) rfl rfl) ?_
 refine sT 9 (bV (!t8)) rfl (v_un rfl · · · rfl (u_not rfl)) ?_
 refine sM 10 (bV (!t8)) rfl rfl ?_
 refine sF 11 (.d (.agg (eDone t1))) rfl rfl (fun e2 => (w_ldp (eDone t1) (eDone t1) rfl · · · ag100 rfl (ble _ _ rfl) rfl)) ?_
 refine sF 12 (.d (.sl 11 (([t1]).map eDone))) rfl rfl (fun e3 => (w_bsl_d [(0, .d (.agg (eDone t1)))] [t1] eDone rfl · · · slT43 zr100 teDone (ble _ _ rfl) (cc (pr (gv (nF e3))) rfl) (by kernel_rfl) rfl rfl (by kernel_rfl))) ?_
 obtain ⟨t13, c5, h⟩ := bpos h
 refine sF 13 (bV t13) rfl rfl (fun e4 => (w_call (ds := [(.sl 11 (([t1]).map eDone))]) (caps := []) (l := [(.s (.bool t13))]) (s87 k ([t1]) _ (cpos (nF e4) c5)) rfl rfl rfl en87 · · · (.inl ⟨rfl, rfl⟩) (cc (gv (nF e4)) rfl) rfl)) ?_
 refine sF 14 (bV (!t13)) rfl rfl (fun e6 => (v_un rfl · · · (gv (nF e6)) (u_not rfl))) ?_
 refine sT 15 (bV ((!t8) || (!t13))) rfl (v_pickB rfl · · · rfl (fun e7 => rfl) (fun e8 => (gv (nF e8))) (pO _ _)) ?_
 refine sq_nil ?_
 refine ht_cond rfl (fun e9 => ?_) (fun e9 => ?_)
 ·replace h := cpos e9 h
  refine sr ?_
  refine sM 4 (.d (.s (.slice none 0 0))) rfl rfl ?_
  refine sM 5 (iV 1) rfl rfl ?_
  refine sq_nil ?_
  refine ht_ret ?_
  cases h
  exact retM_wk (wk_nil (.t 4) (nb 4) 11 rfl) (ret2 rfl (.tmp rfl) (.tmp rfl))
 replace h := cneg e9 h
 refine ht_skip ?_
 refine ht_seq ?_
 refine ht_seq ?_
 refine ht_region_draw mixed ?_
 refine rM 16 (.d (.sl 11 (t0.map eDone))) rfl rfl ?_
 refine rT 17 (.d (.dp (eDone t1))) rfl (v_field_dp (a0 := 0) (cs := (eDone t1)) rfl · · · fo100_0 rfl) ?_
 refine rT 18 (iV t1.mClient) rfl (v_load_dp1 rfl · · · onT3 rfl rfl) ?_
 obtain ⟨t19, c10, h⟩ := bpos h
 refine rT 19 (iV t19) rfl (w_call (ds := [(.sl 11 (t0.map eDone)), (.s (.int .i64 t1.mClient))]) (caps := []) (l := [(.s (.int .i64 t19))]) (s74 k t0 t1.mClient _ c10) rfl rfl rfl en74 · · · (.inl ⟨rfl, rfl⟩) rfl rfl) ?_
 refine rT 20 (.d (.dp (List.drop 1 (eDone t1)))) rfl (v_field_dp (a0 := 1) (cs := (eDone t1)) rfl · · · fo100_1 rfl) ?_
 refine rT 21 (iV t1.mReq) rfl (v_load_dp1 rfl · · · onT3 rfl rfl) ?_
 refine rT 22 (bV (leI t1.mReq t19)) rfl (v_bin rfl · · · rfl rfl (b_geq rfl)) ?_
 refine rg_nil ⟨by kernel_rfl, ?_⟩
 refine ht_cond rfl (fun e11 => ?_) (fun e11 => ?_)
 ·replace h := cpos e11 h
  refine sr ?_
  refine sM 4 (.d (.s (.slice none 0 0))) rfl rfl ?_
  refine sM 5 (iV 9) rfl rfl ?_
  refine sq_nil ?_
  refine ht_ret ?_
  cases h
  exact retM_wk (wk_nil (.t 4) (nb 4) 11 rfl) (ret2 rfl (.tmp rfl) (.tmp rfl))
 replace h := cneg e11 h
 refine ht_skip ?_
 refine sr ?_
 refine sT 23 (.d (.agg (eDone t1))) rfl (w_ldp (eDone t1) (eDone t1) rfl · · · ag100 rfl (ble _ _ rfl) rfl) ?_
 refine sq_cons ⟨_, [(.b 24, .row false 100 11 (([t1]).map eDone)), (.t 24, .own 24 11 ([t1]).length)]⟩ (w_bsl (id := 24) [(0, .d (.agg (eDone t1)))] [t1] eDone rfl trivial rfl (ble _ _ rfl) slT43 zr100 teDone (ble _ _ rfl) rfl (by kernel_rfl) rfl rfl (by kernel_rfl) (by kernel_rfl)) ?_
 refine sM 25 (.d (.sl 11 (t0.map eDone))) rfl rfl ?_
 obtain ⟨e12, h⟩ := gpos h
 refine sq_cons ⟨_, [(.b 24, .spent), (.b 26, .row false 100 11 (([t1] ++ t0).map eDone)), (.t 26, .own 26 11 ([t1] ++ t0).length)]⟩ (w_app 26 ([t1]) t0 eDone rfl rfl trivial rfl (ble _ _ rfl) slT43 elT100 teDone rfl rfl rfl (.d) rfl e12) ?_
 refine sq_wk (wk_still_row 26 _ _ _ rfl) ?_
 refine sq_wk (wk_row (.t 26) (nb 26) 26 _ _ _ _ rfl rfl (lm _ _)) ?_
 obtain ⟨t27, c13, h⟩ := bpos h
 refine sT 27 (.d (.sl 11 (t27.map eDone))) rfl (w_call (ds := [(.sl 11 (([t1] ++ t0).map eDone))]) (caps := []) (l := [(.sl 11 (t27.map eDone))]) (s135 k ([t1] ++ t0) _ c13) rfl rfl rfl en135 · · · (.inl ⟨rfl, rfl⟩) rfl rfl) ?_
 refine sM 6 (.d (.sl 11 (t27.map eDone))) rfl rfl ?_
 refine sq_nil ?_
 refine ht_seq ?_
 refine sr ?_
 refine sM 28 (.d (.sl 11 (t27.map eDone))) rfl rfl ?_
 refine sT 29 (iV (t27.length : Int)) rfl (w_len t27 eDone rfl rfl · · · slT43 rfl) ?_
 refine sT 30 (bV (ltI 8 (t27.length : Int))) rfl (v_bin rfl · · · rfl rfl (b_gtr rfl)) ?_
 refine sq_nil ?_
 refine ht_cond rfl (fun e14 => ?_) (fun e14 => ?_)
 ·replace h := cpos e14 h
  refine sr ?_
  refine sM 4 (.d (.s (.slice none 0 0))) rfl rfl ?_
  refine sM 5 (iV 6) rfl rfl ?_
  refine sq_nil ?_
  refine ht_ret ?_
  cases h
  exact retM_wk (wk_nil (.t 4) (nb 4) 11 rfl) (ret2 rfl (.tmp rfl) (.tmp rfl))
 replace h := cneg e14 h
 refine ht_skip ?_
 refine sr ?_
 refine sM 31 (.d (.sl 11 (t27.map eDone))) rfl rfl ?_
 refine sM 4 (.d (.sl 11 (t27.map eDone))) rfl rfl ?_
 refine sM 5 (iV 0) rfl rfl ?_
 refine sq_nil ?_
 refine ht_ret ?_
 cases h
 exact ret2 rfl (.tmp rfl) (.tmp rfl)
theorem s79 (k : Nat) (t0 : Cell) (t1 : Shard) (t2 : Bool) (r : Cell) (h : F79 k t0 t1 t2 = some r) : Awp.Spec Tryz.prog amb 79 [(.agg (eCell t0)), (.agg (eShard t1)), (.s (.bool t2))] (.ds [(.agg (eCell r))]) := by
 rw [F79] at h
 refine spec_of Tryz.func79 rfl (ble _ _ rfl) fun w0 ok0 lt0 hA => ?_
 refine sr ?_
 refine sq_cons _ (v_box (id := 3) (cs := (eCell t0).map V.d) rfl trivial rfl (ble _ _ rfl) rfl rfl (ones_of rfl) rfl) ?_
 refine sT 4 (.d (.dp (eShard t1))) rfl (v_box_d (cs := (eShard t1)) rfl · · · rfl rfl (ones_of rfl)) ?_
 refine sq_cons _ (v_alloc (id := 6) (cs := zc26) rfl trivial rfl (ble _ _ rfl) zu26 rfl ft26 rfl) ?_
 refine sq_nil ?_
 refine sr ?_
 refine sM 7 (.d (.s (.slice none 0 0))) rfl rfl ?_
 refine sq_nil ?_
 refine sr ?_
 refine sM 10 (bV t2) rfl rfl ?_
 refine sM 8 (bV t2) rfl rfl ?_
 refine sq_nil ?_
 refine ht_bj h (fun (t7, t8) => tell [(.b 3, .box false 5), (.b 6, .box false 5), (.b 1007, .row false 45 17 (t7.map eShard)), (.c 3 0, .d (.sl 17 (t0.mShards.map eShard))), (.c 3 1, iV t0.mTop.mWall), (.c 3 2, iV t0.mTop.mTick), (.c 3 3, iV t0.mTop.mNode), (.c 3 4, iV t0.mDropped), (.c 6 0, .d (.sl 17 (([] : List Shard).map eShard))), (.c 6 1, iV 0), (.c 6 2, iV 0), (.c 6 3, iV 0), (.c 6 4, iV 0), (.t 3, .ptr 3 0), (.t 4, .d (.dp (eShard t1))), (.t 6, .ptr 6 0), (.t 7, .own 1007 17 t7.length), (.t 8, bV t8)]) (fun v1 h => ?_) (fun v1 K2 h j4 => ?_)
 ·obtain ⟨t7, t8⟩ := v1
  refine ht_seq ?_
  refine sr ?_
  refine sM 52 (bV t8) rfl rfl ?_
  refine sT 53 (bV (!t8)) rfl (v_un rfl · · · rfl (u_not rfl)) ?_
  refine sq_nil ?_
  refine ht_cond rfl (fun e34 => ?_) (fun e34 => ?_)
  ·replace h := cpos e34 h
   refine ht_region ?_
   refine sM 54 (.own 1007 17 t7.length) rfl rfl ?_
   refine sT 55 (.d (.agg (eShard t1))) rfl (w_ldp (eShard t1) (eShard t1) rfl · · · ag45 rfl (ble _ _ rfl) rfl) ?_
   refine sq_cons ⟨_, [(.b 56, .row false 45 17 (([t1]).map eShard)), (.t 56, .own 56 17 ([t1]).length)]⟩ (w_bsl (id := 56) [(0, .d (.agg (eShard t1)))] [t1] eShard rfl trivial rfl (ble _ _ rfl) slT22 zr45 teShard (ble _ _ rfl) rfl (by kernel_rfl) rfl rfl (by kernel_rfl) (by kernel_rfl)) ?_
   obtain ⟨e35, h⟩ := gpos h
   refine sq_cons ⟨_, [(.b 1007, .spent), (.b 57, .row false 45 17 ((t7 ++ [t1]).map eShard)), (.t 57, .own 57 17 (t7 ++ [t1]).length)]⟩ (w_app 57 t7 ([t1]) eShard rfl rfl trivial rfl (ble _ _ rfl) slT22 elT45 teShard rfl rfl rfl (.own 56 _ _ rfl) rfl e35) ?_
   refine sM 7 (.own 57 17 (t7 ++ [t1]).length) rfl rfl ?_
   refine sq_nil ?_
   refine sr ?_
   refine sM 58 (.own 57 17 (t7 ++ [t1]).length) rfl rfl ?_
   refine sT 59 (.ptr 3 0) rfl (v_field_box (off := 0) (a0 := 0) rfl · · · fo26_0 rfl) ?_
   refine sq_cons _ (v_store_box (id := 3) (off := 0) (cs := [.own 57 17 (t7 ++ [t1]).length]) rfl trivial rfl sz22 rfl rfl rfl rfl (ones_of rfl) (ble _ _ rfl)) ?_
   refine sq_nil ?_
   refine ht_seq ?_
   refine ht_weak (wk_still_row 57 _ _ _ rfl) ?_
   refine ht_weak (wk_row (.c 3 0) (nc 3 0) 57 _ _ _ _ rfl rfl (lm _ _)) ?_
   refine ht_weak (wk_row (.t 7) (nb 7) 57 _ _ _ _ rfl rfl (lm _ _)) ?_
   refine ht_weak (wk_row (.t 57) (nb 57) 57 _ _ _ _ rfl rfl (lm _ _)) ?_
   refine ht_weak (wk_row (.t 58) (nb 58) 57 _ _ _ _ rfl rfl (lm _ _)) ?_
   refine ht_region ?_
   refine sT 60 (.d (.agg (eCell ({t0 with mShards := (t7 ++ [t1])})))) rfl (w_ldb 3 0 rfl · · · ag26 rfl rfl (ble _ _ rfl) rfl) ?_
   refine sq_cons _ (v_store_box (id := 6) (off := 0) (cs := (eCell ({t0 with mShards := (t7 ++ [t1])})).map V.d) rfl trivial rfl sz26 rfl rfl rfl rfl (ones_of rfl) (ble _ _ rfl)) ?_
   refine sq_nil ?_
   refine ht_ret ?_
   cases h
   exact ret1 rfl (.cell rfl rfl ag26 (ble _ _ rfl) rfl)
  replace h := cneg e34 h
  refine ht_skip ?_
  refine sr ?_
  refine sM 58 (.own 1007 17 t7.length) rfl rfl ?_
  refine sT 59 (.ptr 3 0) rfl (v_field_box (off := 0) (a0 := 0) rfl · · · fo26_0 rfl) ?_
  refine sq_cons _ (v_store_box (id := 3) (off := 0) (cs := [.own 1007 17 t7.length]) rfl trivial rfl sz22 rfl rfl rfl rfl (ones_of rfl) (ble _ _ rfl)) ?_
  refine sq_nil ?_
  refine ht_seq ?_
  refine ht_weak (wk_still_row 1007 _ _ _ rfl) ?_
  refine ht_weak (wk_row (.c 3 0) (nc 3 0) 1007 _ _ _ _ rfl rfl (lm _ _)) ?_
  refine ht_weak (wk_row (.t 7) (nb 7) 1007 _ _ _ _ rfl rfl (lm _ _)) ?_
  refine ht_weak (wk_row (.t 58) (nb 58) 1007 _ _ _ _ rfl rfl (lm _ _)) ?_
  refine ht_region ?_
  refine sT 60 (.d (.agg (eCell ({t0 with mShards := t7})))) rfl (w_ldb 3 0 rfl · · · ag26 rfl rfl (ble _ _ rfl) rfl) ?_
  refine sq_cons _ (v_store_box (id := 6) (off := 0) (cs := (eCell ({t0 with mShards := t7})).map V.d) rfl trivial rfl sz26 rfl rfl rfl rfl (ones_of rfl) (ble _ _ rfl)) ?_
  refine sq_nil ?_
  refine ht_ret ?_
  cases h
  exact ret1 rfl (.cell rfl rfl ag26 (ble _ _ rfl) rfl)
 refine sr ?_
 refine sM 9 (iV 0) rfl rfl ?_
 refine sq_nil ?_
 refine ht_block ?_
 refine ht_rd h (fun _ => rfl) (fun (t7_1, t8_1, t9) => tell [(.b 3, .box false 5), (.b 6, .box false 5), (.b 1007, .row false 45 17 (t7_1.map eShard)), (.c 3 0, .d (.sl 17 (t0.mShards.map eShard))), (.c 3 1, iV t0.mTop.mWall), (.c 3 2, iV t0.mTop.mTick), (.c 3 3, iV t0.mTop.mNode), (.c 3 4, iV t0.mDropped), (.c 6 0, .d (.sl 17 (([] : List Shard).map eShard))), (.c 6 1, iV 0), (.c 6 2, iV 0), (.c 6 3, iV 0), (.c 6 4, iV 0), (.t 3, .ptr 3 0), (.t 4, .d (.dp (eShard t1))), (.t 6, .ptr 6 0), (.t 7, .own 1007 17 t7_1.length), (.t 8, bV t8_1), (.t 9, iV t9)]) (wkt (wk_nilrow (.t 7) (nb 7) 1001007 45 17 rfl rfl) (wk_ren _ (fun i => bif Nat.beq i 1007 then 1001007 else i) rfl ⟨rfl, rfl, rfl, rfl, rfl, rfl, rfl, rfl, rfl, rfl, rfl, rfl, rfl, rfl, rfl, rfl, rfl, rfl, rfl, trivial⟩)) fun k v8 h K33 j7 => ?_
 obtain ⟨t7_1, t8_1, t9⟩ := v8
 rw [F79_l1] at h
 refine ht_seq ?_
 refine sr ?_
 refine sM 11 (iV t9) rfl rfl ?_
 refine sT 12 (.ptr 3 0) rfl (v_field_box (off := 0) (a0 := 0) rfl · · · fo26_0 rfl) ?_
 refine sT 13 (.d (.sl 17 (t0.mShards.map eShard))) rfl (v_load_box1 (id := 3) (off := 0) rfl · · · onT22 rfl rfl (ble _ _ rfl) rfl) ?_
 refine sT 14 (iV (t0.mShards.length : Int)) rfl (w_len t0.mShards eShard rfl rfl · · · slT22 rfl) ?_
 refine sT 15 (bV (ltI t9 (t0.mShards.length : Int))) rfl (v_bin rfl · · · rfl rfl (b_lss rfl)) ?_
 refine sq_nil ?_
 refine ht_cond rfl (fun e9 => ?_) (fun e9 => ?_)
 ·replace h := cpos e9 h
  refine ht_skip ?_
  refine ht_seq ?_
  refine ht_block ?_
  refine ht_bj h (fun (t7_2, t8_2) => tell [(.b 3, .box false 5), (.b 6, .box false 5), (.b 1007, .row false 45 17 (t7_2.map eShard)), (.c 3 0, .d (.sl 17 (t0.mShards.map eShard))), (.c 3 1, iV t0.mTop.mWall), (.c 3 2, iV t0.mTop.mTick), (.c 3 3, iV t0.mTop.mNode), (.c 3 4, iV t0.mDropped), (.c 6 0, .d (.sl 17 (([] : List Shard).map eShard))), (.c 6 1, iV 0), (.c 6 2, iV 0), (.c 6 3, iV 0), (.c 6 4, iV 0), (.t 3, .ptr 3 0), (.t 4, .d (.dp (eShard t1))), (.t 6, .ptr 6 0), (.t 7, .own 1007 17 t7_2.length), (.t 8, bV t8_2), (.t 9, iV t9)]) (fun v10 h => ?_) (fun v10 K11 h j13 => ?_)
  ·obtain ⟨t7_2, t8_2⟩ := v10
   refine ht_seq ?_
   refine ht_region_draw mixed ?_
   refine rT 35 (.ptr 3 0) rfl (v_field_box (off := 0) (a0 := 0) rfl · · · fo26_0 rfl) ?_
   refine rT 36 (.d (.sl 17 (t0.mShards.map eShard))) rfl (v_load_box1 (id := 3) (off := 0) rfl · · · onT22 rfl rfl (ble _ _ rfl) rfl) ?_
   refine rM 37 (iV t9) rfl rfl ?_
   obtain ⟨e29, h⟩ := gpos h
   refine rT 38 (.d (.dp (eShard (rd t0.mShards t9)))) rfl (w_idx t0.mShards eShard rfl · · · slT22 rfl rfl e29) ?_
   refine rT 39 (.d (.dp (eShard (rd t0.mShards t9)))) rfl (v_field_dp (a0 := 0) (cs := (eShard (rd t0.mShards t9))) rfl · · · fo45_0 rfl) ?_
   refine rT 40 (iV (rd t0.mShards t9).mID) rfl (v_load_dp1 rfl · · · onT3 rfl rfl) ?_
   refine rT 41 (.d (.dp (eShard t1))) rfl (v_field_dp (a0 := 0) (cs := (eShard t1)) rfl · · · fo45_0 rfl) ?_
   refine rT 42 (iV t1.mID) rfl (v_load_dp1 rfl · · · onT3 rfl rfl) ?_
   refine rT 43 (bV (!eqI (rd t0.mShards t9).mID t1.mID)) rfl (v_bin rfl · · · rfl rfl (b_neq rfl)) ?_
   refine rg_nil ⟨by kernel_rfl, ?_⟩
   refine ht_cond rfl (fun e30 => ?_) (fun e30 => ?_)
   ·replace h := cpos e30 h
    refine ht_region ?_
    refine sM 44 (.own 1007 17 t7_2.length) rfl rfl ?_
    refine sT 45 (.ptr 3 0) rfl (v_field_box (off := 0) (a0 := 0) rfl · · · fo26_0 rfl) ?_
    refine sT 46 (.d (.sl 17 (t0.mShards.map eShard))) rfl (v_load_box1 (id := 3) (off := 0) rfl · · · onT22 rfl rfl (ble _ _ rfl) rfl) ?_
    refine sM 47 (iV t9) rfl rfl ?_
    obtain ⟨e31, h⟩ := gpos h
    refine sT 48 (.d (.dp (eShard (rd t0.mShards t9)))) rfl (w_idx t0.mShards eShard rfl · · · slT22 rfl rfl e31) ?_
    refine sT 49 (.d (.agg (eShard (rd t0.mShards t9)))) rfl (w_ldp (eShard (rd t0.mShards t9)) (eShard (rd t0.mShards t9)) rfl · · · ag45 rfl (ble _ _ rfl) rfl) ?_
    refine sq_cons ⟨_, [(.b 50, .row false 45 17 (([(rd t0.mShards t9)]).map eShard)), (.t 50, .own 50 17 ([(rd t0.mShards t9)]).length)]⟩ (w_bsl (id := 50) [(0, .d (.agg (eShard (rd t0.mShards t9))))] [(rd t0.mShards t9)] eShard rfl trivial rfl (ble _ _ rfl) slT22 zr45 teShard (ble _ _ rfl) rfl (by kernel_rfl) rfl rfl (by kernel_rfl) (by kernel_rfl)) ?_
    obtain ⟨e32, h⟩ := gpos h
    refine sq_cons ⟨_, [(.b 1007, .spent), (.b 51, .row false 45 17 ((t7_2 ++ [(rd t0.mShards t9)]).map eShard)), (.t 51, .own 51 17 (t7_2 ++ [(rd t0.mShards t9)]).length)]⟩ (w_app 51 t7_2 ([(rd t0.mShards t9)]) eShard rfl rfl trivial rfl (ble _ _ rfl) slT22 elT45 teShard rfl rfl rfl (.own 50 _ _ rfl) rfl e32) ?_
    refine sM 7 (.own 51 17 (t7_2 ++ [(rd t0.mShards t9)]).length) rfl rfl ?_
    refine sq_nil ?_
    refine ht_region ?_
    refine sM 16 (iV t9) rfl rfl ?_
    refine sT 17 (iV (IntKind.wrap .i64 (t9 + 1))) rfl (v_bin rfl · · · rfl rfl (b_add rfl)) ?_
    refine sM 9 (iV (IntKind.wrap .i64 (t9 + 1))) rfl rfl ?_
    refine sq_nil ?_
    exact j7 _ _ h (wk_ren _ (fun i => bif Nat.beq i 1007 then 51 else i) rfl ⟨rfl, rfl, rfl, rfl, rfl, rfl, rfl, rfl, rfl, rfl, rfl, rfl, rfl, rfl, rfl, rfl, rfl, rfl, rfl, trivial⟩)
   replace h := cneg e30 h
   refine ht_skip ?_
   refine ht_region ?_
   refine sM 16 (iV t9) rfl rfl ?_
   refine sT 17 (iV (IntKind.wrap .i64 (t9 + 1))) rfl (v_bin rfl · · · rfl rfl (b_add rfl)) ?_
   refine sM 9 (iV (IntKind.wrap .i64 (t9 + 1))) rfl rfl ?_
   refine sq_nil ?_
   exact j7 _ _ h (wk_ren _ (fun i => i) rfl ⟨rfl, rfl, rfl, rfl, rfl, rfl, rfl, rfl, rfl, rfl, rfl, rfl, rfl, rfl, rfl, rfl, rfl, rfl, rfl, trivial⟩)
  refine ht_seq ?_
  refine ht_region_draw mixed ?_
  refine rM 18 (bV t8_1) rfl rfl ?_
  refine rT 19 (bV (!t8_1)) rfl (v_un rfl · · · rfl (u_not rfl)) ?_
  refine rM 20 (bV (!t8_1)) rfl rfl ?_
  refine rG 21 (.d (.dp (eShard t1))) rfl rfl (fun e15 => (v_field_dp (a0 := 0) (cs := (eShard t1)) rfl · · · fo45_0 rfl)) ?_
  refine rG 22 (iV t1.mID) rfl rfl (fun e16 => (v_load_dp1 rfl · · · onT3 (gv e16) rfl)) ?_
  refine rG 23 (.ptr 3 0) rfl rfl (fun e17 => (v_field_box (off := 0) (a0 := 0) rfl · · · fo26_0 rfl)) ?_
  refine rG 24 (.d (.sl 17 (t0.mShards.map eShard))) rfl rfl (fun e18 => (v_load_box1 (id := 3) (off := 0) rfl · · · onT22 (gv e18) rfl (ble _ _ rfl) rfl)) ?_
  refine rG 25 (iV t9) rfl rfl (fun e19 => (v_move (.inl rfl) · · · rfl)) ?_
  obtain ⟨e21, h⟩ := gpos h
  refine rG 26 (.d (.dp (eShard (rd t0.mShards t9)))) rfl rfl (fun e20 => (w_idx t0.mShards eShard rfl · · · slT22 (gv e20) (gv e20) (orT e21 e20))) ?_
  refine rG 27 (.d (.dp (eShard (rd t0.mShards t9)))) rfl rfl (fun e22 => (v_field_dp (a0 := 0) (cs := (eShard (rd t0.mShards t9))) rfl · · · fo45_0 (gv e22))) ?_
  refine rG 28 (iV (rd t0.mShards t9).mID) rfl rfl (fun e23 => (v_load_dp1 rfl · · · onT3 (gv e23) rfl)) ?_
  refine rG 29 (bV (leI t1.mID (rd t0.mShards t9).mID)) rfl rfl (fun e24 => (v_bin rfl · · · (gv e24) (gv e24) (b_leq rfl))) ?_
  refine rT 30 (bV ((!t8_1) && (leI t1.mID (rd t0.mShards t9).mID))) rfl (v_pickB rfl · · · rfl (fun e25 => (gv e25)) (fun e26 => rfl) (pA _ _)) ?_
  refine rg_nil ⟨by kernel_rfl, ?_⟩
  refine ht_cond rfl (fun e27 => ?_) (fun e27 => ?_)
  ·replace h := cpos e27 h
   refine sr ?_
   refine sM 31 (.own 1007 17 t7_1.length) rfl rfl ?_
   refine sT 32 (.d (.agg (eShard t1))) rfl (w_ldp (eShard t1) (eShard t1) rfl · · · ag45 rfl (ble _ _ rfl) rfl) ?_
   refine sq_cons ⟨_, [(.b 33, .row false 45 17 (([t1]).map eShard)), (.t 33, .own 33 17 ([t1]).length)]⟩ (w_bsl (id := 33) [(0, .d (.agg (eShard t1)))] [t1] eShard rfl trivial rfl (ble _ _ rfl) slT22 zr45 teShard (ble _ _ rfl) rfl (by kernel_rfl) rfl rfl (by kernel_rfl) (by kernel_rfl)) ?_
   obtain ⟨e28, h⟩ := gpos h
   refine sq_cons ⟨_, [(.b 1007, .spent), (.b 34, .row false 45 17 ((t7_1 ++ [t1]).map eShard)), (.t 34, .own 34 17 (t7_1 ++ [t1]).length)]⟩ (w_app 34 t7_1 ([t1]) eShard rfl rfl trivial rfl (ble _ _ rfl) slT22 elT45 teShard rfl rfl rfl (.own 33 _ _ rfl) rfl e28) ?_
   refine sM 7 (.own 34 17 (t7_1 ++ [t1]).length) rfl rfl ?_
   refine sq_nil ?_
   refine ht_region ?_
   refine sM 8 (bV true) rfl rfl ?_
   refine sq_nil ?_
   cases h
   exact j13 _ (wk_ren _ (fun i => bif Nat.beq i 1007 then 34 else i) rfl ⟨rfl, rfl, rfl, rfl, rfl, rfl, rfl, rfl, rfl, rfl, rfl, rfl, rfl, rfl, rfl, rfl, rfl, rfl, rfl, trivial⟩)
  replace h := cneg e27 h
  refine ht_skip ?_
  cases h
  exact j13 _ (wk_ren _ (fun i => i) rfl ⟨rfl, rfl, rfl, rfl, rfl, rfl, rfl, rfl, rfl, rfl, rfl, rfl, rfl, rfl, rfl, rfl, rfl, rfl, rfl, trivial⟩)
 replace h := cneg e9 h
 refine ht_exit ?_
 refine tq ?_
 refine tq ?_
 refine bq_hit ?_
 cases h
 exact j4 _ (wk_ren _ (fun i => i) rfl ⟨rfl, rfl, rfl, rfl, rfl, rfl, rfl, rfl, rfl, rfl, rfl, rfl, rfl, rfl, rfl, rfl, rfl, rfl, trivial⟩)
theorem s17 (k : Nat) (t0 : Cell) (t1 : Int) (t2 : Int) (t3 : Request) (t4 : Stamp) (t5 : Int) (r : Cell × Answer) (h : F17 k t0 t1 t2 t3 t4 t5 = some r) : Awp.Spec Tryz.prog amb 17 [(.agg (eCell t0)), (.s (.int .i64 t1)), (.s (.int .i64 t2)), (.agg (eRequest t3)), (.agg (eStamp t4)), (.s (.int .i64 t5))] (.ds [(.agg (eCell r.1)), (.agg (eAnswer r.2))]) := by
 rw [F17] at h
 refine spec_of Tryz.func17 rfl (ble _ _ rfl) fun w0 ok0 lt0 hA => ?_
 refine sr ?_
 refine sT 6 (.d (.dp (eCell t0))) rfl (v_box_d (cs := (eCell t0)) rfl · · · rfl rfl (ones_of rfl)) ?_
 refine sT 9 (.d (.dp (eRequest t3))) rfl (v_box_d (cs := (eRequest t3)) rfl · · · rfl rfl (ones_of rfl)) ?_
 refine sT 10 (.d (.dp (eStamp t4))) rfl (v_box_d (cs := (eStamp t4)) rfl · · · rfl rfl (ones_of rfl)) ?_
 refine sq_cons _ (v_alloc (id := 12) (cs := zc26) rfl trivial rfl (ble _ _ rfl) zu26 rfl ft26 rfl) ?_
 refine sq_cons _ (v_alloc (id := 13) (cs := zc34) rfl trivial rfl (ble _ _ rfl) zu34 rfl ft34 rfl) ?_
 refine sq_nil ?_
 refine ht_seq ?_
 refine sr ?_
 refine sT 24 (.d (.agg (eCell t0))) rfl (w_ldp (eCell t0) (eCell t0) rfl · · · ag26 rfl (ble _ _ rfl) rfl) ?_
 obtain ⟨t25, c1, h⟩ := bpos h
 refine sT 25 (bV t25) rfl (w_call (ds := [(.agg (eCell t0))]) (caps := []) (l := [(.s (.bool t25))]) (s22 k t0 _ c1) rfl rfl rfl en22 · · · (.inl ⟨rfl, rfl⟩) rfl rfl) ?_
 refine sT 26 (bV (!t25)) rfl (v_un rfl · · · rfl (u_not rfl)) ?_
 refine sM 27 (bV (!t25)) rfl rfl ?_
 refine sF 28 (iV t1) rfl rfl (fun e2 => (v_move (.inl rfl) · · · rfl)) ?_
 obtain ⟨t29, c4, h⟩ := bpos h
 refine sF 29 (bV t29) rfl rfl (fun e3 => (w_call (ds := [(.s (.int .i64 t1))]) (caps := []) (l := [(.s (.bool t29))]) (s66 k t1 _ (cpos (nF e3) c4)) rfl rfl rfl en66 · · · (.inl ⟨rfl, rfl⟩) (cc (gv (nF e3)) rfl) rfl)) ?_
 refine sF 30 (bV (!t29)) rfl rfl (fun e5 => (v_un rfl · · · (gv (nF e5)) (u_not rfl))) ?_
 refine sT 31 (bV ((!t25) || (!t29))) rfl (v_pickB rfl · · · rfl (fun e6 => rfl) (fun e7 => (gv (nF e7))) (pO _ _)) ?_
 refine sM 32 (bV ((!t25) || (!t29))) rfl rfl ?_
 refine sF 33 (iV t2) rfl rfl (fun e8 => (v_move (.inl rfl) · · · rfl)) ?_
 obtain ⟨t34, c10, h⟩ := bpos h
 refine sF 34 (bV t34) rfl rfl (fun e9 => (w_call (ds := [(.s (.int .i64 t2))]) (caps := []) (l := [(.s (.bool t34))]) (s66 k t2 _ (cpos (nF e9) c10)) rfl rfl rfl en66 · · · (.inl ⟨rfl, rfl⟩) (cc (gv (nF e9)) rfl) rfl)) ?_
 refine sF 35 (bV (!t34)) rfl rfl (fun e11 => (v_un rfl · · · (gv (nF e11)) (u_not rfl))) ?_
 refine sT 36 (bV (((!t25) || (!t29)) || (!t34))) rfl (v_pickB rfl · · · rfl (fun e12 => rfl) (fun e13 => (gv (nF e13))) (pO _ _)) ?_
 refine sM 37 (bV (((!t25) || (!t29)) || (!t34))) rfl rfl ?_
 refine sF 38 (iV t5) rfl rfl (fun e14 => (v_move (.inl rfl) · · · rfl)) ?_
 obtain ⟨t39, c16, h⟩ := bpos h
 refine sF 39 (bV t39) rfl rfl (fun e15 => (w_call (ds := [(.s (.int .i64 t5))]) (caps := []) (l := [(.s (.bool t39))]) (s67 k t5 _ (cpos (nF e15) c16)) rfl rfl rfl en67 · · · (.inl ⟨rfl, rfl⟩) (cc (gv (nF e15)) rfl) rfl)) ?_
 refine sF 40 (bV (!t39)) rfl rfl (fun e17 => (v_un rfl · · · (gv (nF e17)) (u_not rfl))) ?_
 refine sT 41 (bV ((((!t25) || (!t29)) || (!t34)) || (!t39))) rfl (v_pickB rfl · · · rfl (fun e18 => rfl) (fun e19 => (gv (nF e19))) (pO _ _)) ?_
 refine sM 42 (bV ((((!t25) || (!t29)) || (!t34)) || (!t39))) rfl rfl ?_
 refine sF 43 (.d (.agg (eStamp t4))) rfl rfl (fun e20 => (w_ldp (eStamp t4) (eStamp t4) rfl · · · ag24 rfl (ble _ _ rfl) rfl)) ?_
 obtain ⟨t44, c22, h⟩ := bpos h
 refine sF 44 (bV t44) rfl rfl (fun e21 => (w_call (ds := [(.agg (eStamp t4))]) (caps := []) (l := [(.s (.bool t44))]) (s68 k t4 _ (cpos (nF e21) c22)) rfl rfl rfl en68 · · · (.inl ⟨rfl, rfl⟩) (cc (gv (nF e21)) rfl) rfl)) ?_
 refine sF 45 (bV (!t44)) rfl rfl (fun e23 => (v_un rfl · · · (gv (nF e23)) (u_not rfl))) ?_
 refine sT 46 (bV (((((!t25) || (!t29)) || (!t34)) || (!t39)) || (!t44))) rfl (v_pickB rfl · · · rfl (fun e24 => rfl) (fun e25 => (gv (nF e25))) (pO _ _)) ?_
 refine sM 47 (bV (((((!t25) || (!t29)) || (!t34)) || (!t39)) || (!t44))) rfl rfl ?_
 refine sF 48 (.d (.agg (eRequest t3))) rfl rfl (fun e26 => (w_ldp (eRequest t3) (eRequest t3) rfl · · · ag28 rfl (ble _ _ rfl) rfl)) ?_
 obtain ⟨t49, c28, h⟩ := bpos h
 refine sF 49 (bV t49) rfl rfl (fun e27 => (w_call (ds := [(.agg (eRequest t3))]) (caps := []) (l := [(.s (.bool t49))]) (s69 k t3 _ (cpos (nF e27) c28)) rfl rfl rfl en69 · · · (.inl ⟨rfl, rfl⟩) (cc (gv (nF e27)) rfl) rfl)) ?_
 refine sF 50 (bV (!t49)) rfl rfl (fun e29 => (v_un rfl · · · (gv (nF e29)) (u_not rfl))) ?_
 refine sT 51 (bV ((((((!t25) || (!t29)) || (!t34)) || (!t39)) || (!t44)) || (!t49))) rfl (v_pickB rfl · · · rfl (fun e30 => rfl) (fun e31 => (gv (nF e31))) (pO _ _)) ?_
 refine sq_nil ?_
 refine ht_cond rfl (fun e32 => ?_) (fun e32 => ?_)
 ·replace h := cpos e32 h
  refine ht_seq ?_
  refine ht_region_draw mixed ?_
  refine rT 52 (.d (.agg (eCell t0))) rfl (w_ldp (eCell t0) (eCell t0) rfl · · · ag26 rfl (ble _ _ rfl) rfl) ?_
  obtain ⟨t53, c33, h⟩ := bpos h
  refine rT 53 (.d (.agg (eAnswer t53))) rfl (w_call (ds := [(.s (.int .i64 1))]) (caps := []) (l := [(.agg (eAnswer t53))]) (s70 k 1 _ c33) rfl rfl rfl en70 · · · (.inl ⟨rfl, rfl⟩) rfl rfl) ?_
  refine rg_cons _ (v_store_box (id := 12) (off := 0) (cs := (eCell t0).map V.d) rfl trivial rfl sz26 rfl rfl rfl rfl (ones_of rfl) (ble _ _ rfl)) ?_
  refine rg_cons _ (v_store_box (id := 13) (off := 0) (cs := (eAnswer t53).map V.d) rfl trivial rfl sz34 rfl rfl rfl rfl (ones_of rfl) (ble _ _ rfl)) ?_
  refine rg_nil ⟨by kernel_rfl, ?_⟩
  refine ht_ret ?_
  cases h
  exact ret2 rfl (.cell rfl rfl ag26 (ble _ _ rfl) rfl) (.cell rfl rfl ag34 (ble _ _ rfl) rfl)
 replace h := cneg e32 h
 refine ht_skip ?_
 refine sr ?_
 refine sT 54 (.d (.agg (eCell t0))) rfl (w_ldp (eCell t0) (eCell t0) rfl · · · ag26 rfl (ble _ _ rfl) rfl) ?_
 refine sM 55 (iV t1) rfl rfl ?_
 obtain ⟨t56, c34, h⟩ := bpos h
 refine sT 56 (.d (.agg (eShard t56))) rfl (w_call (ds := [(.agg (eCell t0)), (.s (.int .i64 t1))]) (caps := []) (l := [(.agg (eShard t56))]) (s24 k t0 t1 _ c34) rfl rfl rfl en24 · · · (.inl ⟨rfl, rfl⟩) rfl rfl) ?_
 refine sq_cons _ (v_alloc (id := 14) (cs := zc45) rfl trivial rfl (ble _ _ rfl) zu45 rfl ft45 rfl) ?_
 refine sq_cons _ (v_store_box (id := 14) (off := 0) (cs := (eShard t56).map V.d) rfl trivial rfl sz45 rfl rfl rfl rfl (ones_of rfl) (ble _ _ rfl)) ?_
 refine sq_nil ?_
 refine ht_seq ?_
 refine sr ?_
 refine sT 57 (.ptr 14 0) rfl (v_field_box (off := 0) (a0 := 0) rfl · · · fo45_0 rfl) ?_
 refine sT 58 (iV t56.mID) rfl (v_load_box1 (id := 14) (off := 0) rfl · · · onT3 rfl rfl (ble _ _ rfl) rfl) ?_
 refine sT 59 (bV (eqI t56.mID 0)) rfl (v_bin rfl · · · rfl rfl (b_eql rfl)) ?_
 refine sM 60 (bV (eqI t56.mID 0)) rfl rfl ?_
 refine sF 61 (.ptr 14 1) rfl rfl (fun e35 => (v_field_box (off := 0) (a0 := 1) rfl · · · fo45_1 rfl)) ?_
 refine sF 62 (iV t56.mEpoch) rfl rfl (fun e36 => (v_load_box1 (id := 14) (off := 1) rfl · · · onT3 (gv (nF e36)) rfl (ble _ _ rfl) rfl)) ?_
 refine sF 63 (iV t2) rfl rfl (fun e37 => (v_move (.inl rfl) · · · rfl)) ?_
 refine sF 64 (bV (!eqI t56.mEpoch t2)) rfl rfl (fun e38 => (v_bin rfl · · · (gv (nF e38)) (gv (nF e38)) (b_neq rfl))) ?_
 refine sT 65 (bV ((eqI t56.mID 0) || (!eqI t56.mEpoch t2))) rfl (v_pickB rfl · · · rfl (fun e39 => rfl) (fun e40 => (gv (nF e40))) (pO _ _)) ?_
 refine sM 66 (bV ((eqI t56.mID 0) || (!eqI t56.mEpoch t2))) rfl rfl ?_
 refine sF 67 (.d (.dp (List.drop 3 (eRequest t3)))) rfl rfl (fun e41 => (v_field_dp (a0 := 3) (cs := (eRequest t3)) rfl · · · fo28_3 rfl)) ?_
 refine sF 68 (sV t3.mKey) rfl rfl (fun e42 => (v_load_dp1 rfl · · · onT9 (gv (nF e42)) rfl)) ?_
 refine sF 69 (iV (t3.mKey.size : Int)) rfl rfl (fun e43 => (v_len_str rfl rfl · · · und9 (gv (nF e43)))) ?_
 refine sF 70 (bV (ltI 0 (t3.mKey.size : Int))) rfl rfl (fun e44 => (v_bin rfl · · · (gv (nF e44)) rfl (b_gtr rfl))) ?_
 refine sF 71 (bV (ltI 0 (t3.mKey.size : Int))) rfl rfl (fun e45 => (v_move (.inl rfl) · · · (gv (nF e45)))) ?_
 refine sI 72 (.d (.dp (List.drop 3 (eRequest t3)))) rfl rfl (fun e46 e47 => (v_field_dp (a0 := 3) (cs := (eRequest t3)) rfl · · · fo28_3 rfl)) ?_
 refine sI 73 (sV t3.mKey) rfl rfl (fun e48 e49 => (v_load_dp1 rfl · · · onT9 (gv (aT e48 e49)) rfl)) ?_
 refine sI 74 (.ptr 14 2) rfl rfl (fun e50 e51 => (v_field_box (off := 0) (a0 := 2) rfl · · · fo45_2 rfl)) ?_
 refine sI 75 (.ptr 14 2) rfl rfl (fun e52 e53 => (v_field_box (off := 2) (a0 := 0) rfl · · · fo41_0 (gv (aT e52 e53)))) ?_
 refine sI 76 (sV t56.mSpan.mLo) rfl rfl (fun e54 e55 => (v_load_box1 (id := 14) (off := 2) rfl · · · onT9 (gv (aT e54 e55)) rfl (ble _ _ rfl) rfl)) ?_
 refine sI 77 (.ptr 14 2) rfl rfl (fun e56 e57 => (v_field_box (off := 0) (a0 := 2) rfl · · · fo45_2 rfl)) ?_
 refine sI 78 (.ptr 14 3) rfl rfl (fun e58 e59 => (v_field_box (off := 2) (a0 := 1) rfl · · · fo41_1 (gv (aT e58 e59)))) ?_
 refine sI 79 (sV t56.mSpan.mHi) rfl rfl (fun e60 e61 => (v_load_box1 (id := 14) (off := 3) rfl · · · onT9 (gv (aT e60 e61)) rfl (ble _ _ rfl) rfl)) ?_
 obtain ⟨t80, c64, h⟩ := bpos h
 refine sI 80 (bV t80) rfl rfl (fun e62 e63 => (w_call (ds := [(.s (.string t3.mKey)), (.s (.string t56.mSpan.mLo)), (.s (.string t56.mSpan.mHi))]) (caps := []) (l := [(.s (.bool t80))]) (s55 k t3.mKey t56.mSpan.mLo t56.mSpan.mHi _ (cpos (aT e62 e63) c64)) rfl rfl rfl en55 · · · (.inl ⟨rfl, rfl⟩) (cc (gv (aT e62 e63)) (cc (gv (aT e62 e63)) (cc (gv (aT e62 e63)) rfl))) rfl)) ?_
 refine sI 81 (bV (!t80)) rfl rfl (fun e65 e66 => (v_un rfl · · · (gv (aT e65 e66)) (u_not rfl))) ?_
 refine sF 82 (bV ((ltI 0 (t3.mKey.size : Int)) && (!t80))) rfl rfl (fun e67 => (v_pickB rfl · · · (gv (nF e67)) (fun e68 => (gv (aT (nF e67) e68))) (fun e69 => rfl) (pA _ _))) ?_
 refine sT 83 (bV (((eqI t56.mID 0) || (!eqI t56.mEpoch t2)) || ((ltI 0 (t3.mKey.size : Int)) && (!t80)))) rfl (v_pickB rfl · · · rfl (fun e70 => rfl) (fun e71 => (gv (nF e71))) (pO _ _)) ?_
 refine sM 84 (bV (((eqI t56.mID 0) || (!eqI t56.mEpoch t2)) || ((ltI 0 (t3.mKey.size : Int)) && (!t80)))) rfl rfl ?_
 refine sF 85 (.d (.dp (List.drop 3 (eRequest t3)))) rfl rfl (fun e72 => (v_field_dp (a0 := 3) (cs := (eRequest t3)) rfl · · · fo28_3 rfl)) ?_
 refine sF 86 (sV t3.mKey) rfl rfl (fun e73 => (v_load_dp1 rfl · · · onT9 (gv (nF e73)) rfl)) ?_
 refine sF 87 (iV (t3.mKey.size : Int)) rfl rfl (fun e74 => (v_len_str rfl rfl · · · und9 (gv (nF e74)))) ?_
 refine sF 88 (bV (eqI (t3.mKey.size : Int) 0)) rfl rfl (fun e75 => (v_bin rfl · · · (gv (nF e75)) rfl (b_eql rfl))) ?_
 refine sF 89 (bV (eqI (t3.mKey.size : Int) 0)) rfl rfl (fun e76 => (v_move (.inl rfl) · · · (gv (nF e76)))) ?_
 refine sI 90 (.ptr 14 2) rfl rfl (fun e77 e78 => (v_field_box (off := 0) (a0 := 2) rfl · · · fo45_2 rfl)) ?_
 refine sI 91 (.ptr 14 2) rfl rfl (fun e79 e80 => (v_field_box (off := 2) (a0 := 0) rfl · · · fo41_0 (gv (aT e79 e80)))) ?_
 refine sI 92 (sV t56.mSpan.mLo) rfl rfl (fun e81 e82 => (v_load_box1 (id := 14) (off := 2) rfl · · · onT9 (gv (aT e81 e82)) rfl (ble _ _ rfl) rfl)) ?_
 refine sI 93 (iV (t56.mSpan.mLo.size : Int)) rfl rfl (fun e83 e84 => (v_len_str rfl rfl · · · und9 (gv (aT e83 e84)))) ?_
 refine sI 94 (bV (ltI 0 (t56.mSpan.mLo.size : Int))) rfl rfl (fun e85 e86 => (v_bin rfl · · · (gv (aT e85 e86)) rfl (b_gtr rfl))) ?_
 refine sF 95 (bV ((eqI (t3.mKey.size : Int) 0) && (ltI 0 (t56.mSpan.mLo.size : Int)))) rfl rfl (fun e87 => (v_pickB rfl · · · (gv (nF e87)) (fun e88 => (gv (aT (nF e87) e88))) (fun e89 => rfl) (pA _ _))) ?_
 refine sT 96 (bV ((((eqI t56.mID 0) || (!eqI t56.mEpoch t2)) || ((ltI 0 (t3.mKey.size : Int)) && (!t80))) || ((eqI (t3.mKey.size : Int) 0) && (ltI 0 (t56.mSpan.mLo.size : Int))))) rfl (v_pickB rfl · · · rfl (fun e90 => rfl) (fun e91 => (gv (nF e91))) (pO _ _)) ?_
 refine sq_nil ?_
 refine ht_cond rfl (fun e92 => ?_) (fun e92 => ?_)
 ·replace h := cpos e92 h
  refine ht_seq ?_
  refine ht_region_draw mixed ?_
  refine rT 97 (.d (.agg (eCell t0))) rfl (w_ldp (eCell t0) (eCell t0) rfl · · · ag26 rfl (ble _ _ rfl) rfl) ?_
  obtain ⟨t98, c93, h⟩ := bpos h
  refine rT 98 (.d (.agg (eAnswer t98))) rfl (w_call (ds := [(.s (.int .i64 10))]) (caps := []) (l := [(.agg (eAnswer t98))]) (s70 k 10 _ c93) rfl rfl rfl en70 · · · (.inl ⟨rfl, rfl⟩) rfl rfl) ?_
  refine rg_cons _ (v_store_box (id := 12) (off := 0) (cs := (eCell t0).map V.d) rfl trivial rfl sz26 rfl rfl rfl rfl (ones_of rfl) (ble _ _ rfl)) ?_
  refine rg_cons _ (v_store_box (id := 13) (off := 0) (cs := (eAnswer t98).map V.d) rfl trivial rfl sz34 rfl rfl rfl rfl (ones_of rfl) (ble _ _ rfl)) ?_
  refine rg_nil ⟨by kernel_rfl, ?_⟩
  refine ht_ret ?_
  cases h
  exact ret2 rfl (.cell rfl rfl ag26 (ble _ _ rfl) rfl) (.cell rfl rfl ag34 (ble _ _ rfl) rfl)
 replace h := cneg e92 h
 refine ht_skip ?_
 refine ht_seq ?_
 refine sr ?_
 refine sT 99 (.ptr 14 4) rfl (v_field_box (off := 0) (a0 := 4) rfl · · · fo45_3 rfl) ?_
 refine sT 100 (iV t56.mPhase) rfl (v_load_box1 (id := 14) (off := 4) rfl · · · onT3 rfl rfl (ble _ _ rfl) rfl) ?_
 refine sT 101 (bV (!eqI t56.mPhase 1)) rfl (v_bin rfl · · · rfl rfl (b_neq rfl)) ?_
 refine sM 102 (bV (!eqI t56.mPhase 1)) rfl rfl ?_
 refine sF 103 (.d (.dp (List.drop 2 (eRequest t3)))) rfl rfl (fun e94 => (v_field_dp (a0 := 2) (cs := (eRequest t3)) rfl · · · fo28_2 rfl)) ?_
 refine sF 104 (iV t3.mKind) rfl rfl (fun e95 => (v_load_dp1 rfl · · · onT3 (gv (nF e95)) rfl)) ?_
 refine sF 105 (bV (ltI t3.mKind 4)) rfl rfl (fun e96 => (v_bin rfl · · · (gv (nF e96)) rfl (b_lss rfl))) ?_
 refine sF 106 (bV (ltI t3.mKind 4)) rfl rfl (fun e97 => (v_move (.inl rfl) · · · (gv (nF e97)))) ?_
 refine sI 107 (.ptr 14 13) rfl rfl (fun e98 e99 => (v_field_box (off := 0) (a0 := 13) rfl · · · fo45_8 rfl)) ?_
 refine sI 108 (iV t56.mHold) rfl rfl (fun e100 e101 => (v_load_box1 (id := 14) (off := 13) rfl · · · onT3 (gv (aT e100 e101)) rfl (ble _ _ rfl) rfl)) ?_
 refine sI 109 (bV (ltI 0 t56.mHold)) rfl rfl (fun e102 e103 => (v_bin rfl · · · (gv (aT e102 e103)) rfl (b_gtr rfl))) ?_
 refine sF 110 (bV ((ltI t3.mKind 4) && (ltI 0 t56.mHold))) rfl rfl (fun e104 => (v_pickB rfl · · · (gv (nF e104)) (fun e105 => (gv (aT (nF e104) e105))) (fun e106 => rfl) (pA _ _))) ?_
 refine sT 111 (bV ((!eqI t56.mPhase 1) || ((ltI t3.mKind 4) && (ltI 0 t56.mHold)))) rfl (v_pickB rfl · · · rfl (fun e107 => rfl) (fun e108 => (gv (nF e108))) (pO _ _)) ?_
 refine sq_nil ?_
 refine ht_cond rfl (fun e109 => ?_) (fun e109 => ?_)
 ·replace h := cpos e109 h
  refine ht_seq ?_
  refine ht_region_draw mixed ?_
  refine rT 112 (.d (.agg (eCell t0))) rfl (w_ldp (eCell t0) (eCell t0) rfl · · · ag26 rfl (ble _ _ rfl) rfl) ?_
  obtain ⟨t113, c110, h⟩ := bpos h
  refine rT 113 (.d (.agg (eAnswer t113))) rfl (w_call (ds := [(.s (.int .i64 11))]) (caps := []) (l := [(.agg (eAnswer t113))]) (s70 k 11 _ c110) rfl rfl rfl en70 · · · (.inl ⟨rfl, rfl⟩) rfl rfl) ?_
  refine rg_cons _ (v_store_box (id := 12) (off := 0) (cs := (eCell t0).map V.d) rfl trivial rfl sz26 rfl rfl rfl rfl (ones_of rfl) (ble _ _ rfl)) ?_
  refine rg_cons _ (v_store_box (id := 13) (off := 0) (cs := (eAnswer t113).map V.d) rfl trivial rfl sz34 rfl rfl rfl rfl (ones_of rfl) (ble _ _ rfl)) ?_
  refine rg_nil ⟨by kernel_rfl, ?_⟩
  refine ht_ret ?_
  cases h
  exact ret2 rfl (.cell rfl rfl ag26 (ble _ _ rfl) rfl) (.cell rfl rfl ag34 (ble _ _ rfl) rfl)
 replace h := cneg e109 h
 refine ht_skip ?_
 refine ht_seq ?_
 refine ht_region_draw mixed ?_
 refine rT 115 (.ptr 14 5) rfl (v_field_box (off := 0) (a0 := 5) rfl · · · fo45_4 rfl) ?_
 refine rT 116 (.d (.sl 2 (t56.mEntries.map eEntry))) rfl (v_load_box1 (id := 14) (off := 5) rfl · · · onT42 rfl rfl (ble _ _ rfl) rfl) ?_
 refine rT 117 (.d (.dp (List.drop 3 (eRequest t3)))) rfl (v_field_dp (a0 := 3) (cs := (eRequest t3)) rfl · · · fo28_3 rfl) ?_
 refine rT 118 (sV t3.mKey) rfl (v_load_dp1 rfl · · · onT9 rfl rfl) ?_
 obtain ⟨t119, c111, h⟩ := bpos h
 refine rT 119 (.d (.sl 5 (t119.map eVersion))) rfl (w_call (ds := [(.sl 2 (t56.mEntries.map eEntry)), (.s (.string t3.mKey))]) (caps := []) (l := [(.sl 5 (t119.map eVersion))]) (s72 k t56.mEntries t3.mKey _ c111) rfl rfl rfl en72 · · · (.inl ⟨rfl, rfl⟩) rfl rfl) ?_
 refine rT 120 (.d (.dp (List.drop 1 (eCell t0)))) rfl (v_field_dp (a0 := 1) (cs := (eCell t0)) rfl · · · fo26_1 rfl) ?_
 refine rT 121 (.d (.agg (eStamp t0.mTop))) rfl (w_ldp (List.drop 1 (eCell t0)) (eStamp t0.mTop) rfl · · · ag24 rfl (ble _ _ rfl) rfl) ?_
 obtain ⟨⟨t122a, t122b⟩, c112, h⟩ := bpos h
 refine rT 122 (.tup [.d (.agg (eVersion t122a)), bV t122b]) rfl (w_call (ds := [(.sl 5 (t119.map eVersion)), (.agg (eStamp t0.mTop))]) (caps := []) (l := [(.agg (eVersion t122a)), (.s (.bool t122b))]) (s71 k t119 t0.mTop _ c112) rfl rfl rfl en71 · · · (.inl ⟨rfl, rfl⟩) rfl rfl) ?_
 refine rM 114 (.tup [.d (.agg (eVersion t122a)), bV t122b]) rfl rfl ?_
 refine rT 123 (.d (.agg (eVersion t122a))) rfl (v_extract rfl · · · rfl rfl) ?_
 refine rT 124 (bV t122b) rfl (v_extract rfl · · · rfl rfl) ?_
 refine rg_cons _ (v_alloc (id := 15) (cs := zc93) rfl trivial rfl (ble _ _ rfl) zu93 rfl ft93 rfl) ?_
 refine rg_cons _ (v_store_box (id := 15) (off := 0) (cs := (eVersion t122a).map V.d) rfl trivial rfl sz93 rfl rfl rfl rfl (ones_of rfl) (ble _ _ rfl)) ?_
 refine rM 16 (bV t122b) rfl rfl ?_
 refine rg_nil ⟨by kernel_rfl, ?_⟩
 refine sr ?_
 refine sM 125 (bV t122b) rfl rfl ?_
 refine sM 126 (bV t122b) rfl rfl ?_
 refine sG 127 (.ptr 15 3) rfl rfl (fun e113 => (v_field_box (off := 0) (a0 := 3) rfl · · · fo93_1 rfl)) ?_
 refine sG 128 (bV t122a.mGone) rfl rfl (fun e114 => (v_load_box1 (id := 15) (off := 3) rfl · · · onT4 (gv e114) rfl (ble _ _ rfl) rfl)) ?_
 refine sG 129 (bV (!t122a.mGone)) rfl rfl (fun e115 => (v_un rfl · · · (gv e115) (u_not rfl))) ?_
 refine sT 130 (bV (t122b && (!t122a.mGone))) rfl (v_pickB rfl · · · rfl (fun e116 => (gv e116)) (fun e117 => rfl) (pA _ _)) ?_
 refine sM 17 (bV (t122b && (!t122a.mGone))) rfl rfl ?_
 refine sq_nil ?_
 refine ht_seq ?_
 refine sr ?_
 refine sT 131 (.d (.dp (List.drop 2 (eRequest t3)))) rfl (v_field_dp (a0 := 2) (cs := (eRequest t3)) rfl · · · fo28_2 rfl) ?_
 refine sT 132 (iV t3.mKind) rfl (v_load_dp1 rfl · · · onT3 rfl rfl) ?_
 refine sT 133 (bV (eqI t3.mKind 4)) rfl (v_bin rfl · · · rfl rfl (b_eql rfl)) ?_
 refine sq_nil ?_
 refine ht_cond rfl (fun e118 => ?_) (fun e118 => ?_)
 ·replace h := cpos e118 h
  refine ht_seq ?_
  refine ht_region_draw mixed ?_
  refine rT 134 (.d (.agg (eCell t0))) rfl (w_ldp (eCell t0) (eCell t0) rfl · · · ag26 rfl (ble _ _ rfl) rfl) ?_
  refine rT 135 (.ptr 15 0) rfl (v_field_box (off := 0) (a0 := 0) rfl · · · fo93_0 rfl) ?_
  refine rT 136 (.d (.agg (eStamp t122a.mAt))) rfl (w_ldb 15 0 rfl · · · ag24 rfl rfl (ble _ _ rfl) rfl) ?_
  refine rM 137 (bV (t122b && (!t122a.mGone))) rfl rfl ?_
  refine rT 138 (.ptr 15 4) rfl (v_field_box (off := 0) (a0 := 4) rfl · · · fo93_2 rfl) ?_
  refine rT 139 (sV t122a.mValue) rfl (v_load_box1 (id := 15) (off := 4) rfl · · · onT9 rfl rfl (ble _ _ rfl) rfl) ?_
  refine rT 140 (.d (.agg (eAnswer (⟨0, t122a.mAt, (t122b && (!t122a.mGone)), t122a.mValue, ([] : List Item), (⟨#[]⟩ : ByteArray), false⟩ : Answer)))) rfl (w_bld zc34 ((eAnswer (⟨0, t122a.mAt, (t122b && (!t122a.mGone)), t122a.mValue, ([] : List Item), (⟨#[]⟩ : ByteArray), false⟩ : Answer)).map V.d) [(1, .d (.agg (eStamp t122a.mAt))), (2, bV (t122b && (!t122a.mGone))), (3, sV t122a.mValue)] rfl · · · zw34 rfl ft34 rfl rfl rfl rfl) ?_
  refine rg_cons _ (v_store_box (id := 12) (off := 0) (cs := (eCell t0).map V.d) rfl trivial rfl sz26 rfl rfl rfl rfl (ones_of rfl) (ble _ _ rfl)) ?_
  refine rg_cons _ (v_store_box (id := 13) (off := 0) (cs := (eAnswer (⟨0, t122a.mAt, (t122b && (!t122a.mGone)), t122a.mValue, ([] : List Item), (⟨#[]⟩ : ByteArray), false⟩ : Answer)).map V.d) rfl trivial rfl sz34 rfl rfl rfl rfl (ones_of rfl) (ble _ _ rfl)) ?_
  refine rg_nil ⟨by kernel_rfl, ?_⟩
  refine ht_ret ?_
  cases h
  exact ret2 rfl (.cell rfl rfl ag26 (ble _ _ rfl) rfl) (.cell rfl rfl ag34 (ble _ _ rfl) rfl)
 replace h := cneg e118 h
 refine ht_skip ?_
 refine ht_seq ?_
 refine sr ?_
 refine sT 141 (.d (.dp (List.drop 2 (eRequest t3)))) rfl (v_field_dp (a0 := 2) (cs := (eRequest t3)) rfl · · · fo28_2 rfl) ?_
 refine sT 142 (iV t3.mKind) rfl (v_load_dp1 rfl · · · onT3 rfl rfl) ?_
 refine sT 143 (bV (ltI 4 t3.mKind)) rfl (v_bin rfl · · · rfl rfl (b_gtr rfl)) ?_
 refine sq_nil ?_
 refine ht_cond rfl (fun e119 => ?_) (fun e119 => ?_)
 ·replace h := cpos e119 h
  refine sr ?_
  refine sT 144 (.d (.agg (eCell t0))) rfl (w_ldp (eCell t0) (eCell t0) rfl · · · ag26 rfl (ble _ _ rfl) rfl) ?_
  refine sT 145 (.d (.agg (eShard t56))) rfl (w_ldb 14 0 rfl · · · ag45 rfl rfl (ble _ _ rfl) rfl) ?_
  refine sT 146 (.d (.agg (eRequest t3))) rfl (w_ldp (eRequest t3) (eRequest t3) rfl · · · ag28 rfl (ble _ _ rfl) rfl) ?_
  refine sM 147 (iV t5) rfl rfl ?_
  obtain ⟨⟨t148a, t148b⟩, c120, h⟩ := bpos h
  refine sT 148 (.tup [.d (.agg (eCell t148a)), .d (.agg (eAnswer t148b))]) rfl (w_call (ds := [(.agg (eCell t0)), (.agg (eShard t56)), (.agg (eRequest t3)), (.s (.int .i64 t5))]) (caps := []) (l := [(.agg (eCell t148a)), (.agg (eAnswer t148b))]) (s73 k t0 t56 t3 t5 _ c120) rfl rfl rfl en73 · · · (.inl ⟨rfl, rfl⟩) rfl rfl) ?_
  refine sT 149 (.d (.agg (eCell t148a))) rfl (v_extract rfl · · · rfl rfl) ?_
  refine sT 150 (.d (.agg (eAnswer t148b))) rfl (v_extract rfl · · · rfl rfl) ?_
  refine sq_cons _ (v_store_box (id := 12) (off := 0) (cs := (eCell t148a).map V.d) rfl trivial rfl sz26 rfl rfl rfl rfl (ones_of rfl) (ble _ _ rfl)) ?_
  refine sq_cons _ (v_store_box (id := 13) (off := 0) (cs := (eAnswer t148b).map V.d) rfl trivial rfl sz34 rfl rfl rfl rfl (ones_of rfl) (ble _ _ rfl)) ?_
  refine sq_nil ?_
  refine ht_ret ?_
  cases h
  exact ret2 rfl (.cell rfl rfl ag26 (ble _ _ rfl) rfl) (.cell rfl rfl ag34 (ble _ _ rfl) rfl)
 replace h := cneg e119 h
 refine ht_skip ?_
 refine sr ?_
 refine sT 151 (.ptr 14 12) rfl (v_field_box (off := 0) (a0 := 12) rfl · · · fo45_7 rfl) ?_
 refine sT 152 (.d (.sl 11 (t56.mDone.map eDone))) rfl (v_load_box1 (id := 14) (off := 12) rfl · · · onT43 rfl rfl (ble _ _ rfl) rfl) ?_
 refine sT 153 (.d (.dp (eRequest t3))) rfl (v_field_dp (a0 := 0) (cs := (eRequest t3)) rfl · · · fo28_0 rfl) ?_
 refine sT 154 (iV t3.mClient) rfl (v_load_dp1 rfl · · · onT3 rfl rfl) ?_
 obtain ⟨t155, c121, h⟩ := bpos h
 refine sT 155 (iV t155) rfl (w_call (ds := [(.sl 11 (t56.mDone.map eDone)), (.s (.int .i64 t3.mClient))]) (caps := []) (l := [(.s (.int .i64 t155))]) (s74 k t56.mDone t3.mClient _ c121) rfl rfl rfl en74 · · · (.inl ⟨rfl, rfl⟩) rfl rfl) ?_
 refine sM 18 (iV t155) rfl rfl ?_
 refine sq_nil ?_
 refine ht_seq ?_
 refine sr ?_
 refine sT 156 (.d (.dp (List.drop 1 (eRequest t3)))) rfl (v_field_dp (a0 := 1) (cs := (eRequest t3)) rfl · · · fo28_1 rfl) ?_
 refine sT 157 (iV t3.mReq) rfl (v_load_dp1 rfl · · · onT3 rfl rfl) ?_
 refine sM 158 (iV t155) rfl rfl ?_
 refine sT 159 (bV (eqI t3.mReq t155)) rfl (v_bin rfl · · · rfl rfl (b_eql rfl)) ?_
 refine sq_nil ?_
 refine ht_cond rfl (fun e122 => ?_) (fun e122 => ?_)
 ·replace h := cpos e122 h
  refine sr ?_
  refine sT 161 (.ptr 14 12) rfl (v_field_box (off := 0) (a0 := 12) rfl · · · fo45_7 rfl) ?_
  refine sT 162 (.d (.sl 11 (t56.mDone.map eDone))) rfl (v_load_box1 (id := 14) (off := 12) rfl · · · onT43 rfl rfl (ble _ _ rfl) rfl) ?_
  refine sT 163 (.d (.dp (eRequest t3))) rfl (v_field_dp (a0 := 0) (cs := (eRequest t3)) rfl · · · fo28_0 rfl) ?_
  refine sT 164 (iV t3.mClient) rfl (v_load_dp1 rfl · · · onT3 rfl rfl) ?_
  obtain ⟨⟨t165a, t165b⟩, c123, h⟩ := bpos h
  refine sT 165 (.tup [.d (.agg (eDone t165a)), bV t165b]) rfl (w_call (ds := [(.sl 11 (t56.mDone.map eDone)), (.s (.int .i64 t3.mClient))]) (caps := []) (l := [(.agg (eDone t165a)), (.s (.bool t165b))]) (s75 k t56.mDone t3.mClient _ c123) rfl rfl rfl en75 · · · (.inl ⟨rfl, rfl⟩) rfl rfl) ?_
  refine sM 160 (.tup [.d (.agg (eDone t165a)), bV t165b]) rfl rfl ?_
  refine sT 166 (.d (.agg (eDone t165a))) rfl (v_extract rfl · · · rfl rfl) ?_
  refine sT 167 (bV t165b) rfl (v_extract rfl · · · rfl rfl) ?_
  refine sq_cons _ (v_alloc (id := 19) (cs := zc100) rfl trivial rfl (ble _ _ rfl) zu100 rfl ft100 rfl) ?_
  refine sq_cons _ (v_store_box (id := 19) (off := 0) (cs := (eDone t165a).map V.d) rfl trivial rfl sz100 rfl rfl rfl rfl (ones_of rfl) (ble _ _ rfl)) ?_
  refine sM 20 (bV t165b) rfl rfl ?_
  refine sq_nil ?_
  refine ht_seq ?_
  refine ht_region_draw mixed ?_
  refine rT 168 (.d (.agg (eCell t0))) rfl (w_ldp (eCell t0) (eCell t0) rfl · · · ag26 rfl (ble _ _ rfl) rfl) ?_
  refine rT 169 (.ptr 19 2) rfl (v_field_box (off := 0) (a0 := 2) rfl · · · fo100_2 rfl) ?_
  refine rT 170 (.d (.agg (eAnswer t165a.mAnswer))) rfl (w_ldb 19 2 rfl · · · ag34 rfl rfl (ble _ _ rfl) rfl) ?_
  refine rg_cons _ (v_store_box (id := 12) (off := 0) (cs := (eCell t0).map V.d) rfl trivial rfl sz26 rfl rfl rfl rfl (ones_of rfl) (ble _ _ rfl)) ?_
  refine rg_cons _ (v_store_box (id := 13) (off := 0) (cs := (eAnswer t165a.mAnswer).map V.d) rfl trivial rfl sz34 rfl rfl rfl rfl (ones_of rfl) (ble _ _ rfl)) ?_
  refine rg_nil ⟨by kernel_rfl, ?_⟩
  refine ht_ret ?_
  cases h
  exact ret2 rfl (.cell rfl rfl ag26 (ble _ _ rfl) rfl) (.cell rfl rfl ag34 (ble _ _ rfl) rfl)
 replace h := cneg e122 h
 refine ht_skip ?_
 refine ht_seq ?_
 refine sr ?_
 refine sT 171 (.d (.dp (List.drop 1 (eRequest t3)))) rfl (v_field_dp (a0 := 1) (cs := (eRequest t3)) rfl · · · fo28_1 rfl) ?_
 refine sT 172 (iV t3.mReq) rfl (v_load_dp1 rfl · · · onT3 rfl rfl) ?_
 refine sM 173 (iV t155) rfl rfl ?_
 refine sT 174 (bV (ltI t3.mReq t155)) rfl (v_bin rfl · · · rfl rfl (b_lss rfl)) ?_
 refine sq_nil ?_
 refine ht_cond rfl (fun e124 => ?_) (fun e124 => ?_)
 ·replace h := cpos e124 h
  refine ht_seq ?_
  refine ht_region_draw mixed ?_
  refine rT 175 (.d (.agg (eCell t0))) rfl (w_ldp (eCell t0) (eCell t0) rfl · · · ag26 rfl (ble _ _ rfl) rfl) ?_
  obtain ⟨t176, c125, h⟩ := bpos h
  refine rT 176 (.d (.agg (eAnswer t176))) rfl (w_call (ds := [(.s (.int .i64 10))]) (caps := []) (l := [(.agg (eAnswer t176))]) (s70 k 10 _ c125) rfl rfl rfl en70 · · · (.inl ⟨rfl, rfl⟩) rfl rfl) ?_
  refine rg_cons _ (v_store_box (id := 12) (off := 0) (cs := (eCell t0).map V.d) rfl trivial rfl sz26 rfl rfl rfl rfl (ones_of rfl) (ble _ _ rfl)) ?_
  refine rg_cons _ (v_store_box (id := 13) (off := 0) (cs := (eAnswer t176).map V.d) rfl trivial rfl sz34 rfl rfl rfl rfl (ones_of rfl) (ble _ _ rfl)) ?_
  refine rg_nil ⟨by kernel_rfl, ?_⟩
  refine ht_ret ?_
  cases h
  exact ret2 rfl (.cell rfl rfl ag26 (ble _ _ rfl) rfl) (.cell rfl rfl ag34 (ble _ _ rfl) rfl)
 replace h := cneg e124 h
 refine ht_skip ?_
 refine ht_seq ?_
 refine sr ?_
 refine sT 177 (.d (.dp (List.drop 1 (eCell t0)))) rfl (v_field_dp (a0 := 1) (cs := (eCell t0)) rfl · · · fo26_1 rfl) ?_
 refine sT 178 (.d (.agg (eStamp t0.mTop))) rfl (w_ldp (List.drop 1 (eCell t0)) (eStamp t0.mTop) rfl · · · ag24 rfl (ble _ _ rfl) rfl) ?_
 refine sT 179 (.d (.agg (eStamp t4))) rfl (w_ldp (eStamp t4) (eStamp t4) rfl · · · ag24 rfl (ble _ _ rfl) rfl) ?_
 obtain ⟨t180, c126, h⟩ := bpos h
 refine sT 180 (bV t180) rfl (w_call (ds := [(.agg (eStamp t0.mTop)), (.agg (eStamp t4))]) (caps := []) (l := [(.s (.bool t180))]) (s76 k t0.mTop t4 _ c126) rfl rfl rfl en76 · · · (.inl ⟨rfl, rfl⟩) rfl rfl) ?_
 refine sT 181 (bV (!t180)) rfl (v_un rfl · · · rfl (u_not rfl)) ?_
 refine sq_nil ?_
 refine ht_cond rfl (fun e127 => ?_) (fun e127 => ?_)
 ·replace h := cpos e127 h
  refine ht_seq ?_
  refine ht_region_draw mixed ?_
  refine rT 182 (.d (.agg (eCell t0))) rfl (w_ldp (eCell t0) (eCell t0) rfl · · · ag26 rfl (ble _ _ rfl) rfl) ?_
  obtain ⟨t183, c128, h⟩ := bpos h
  refine rT 183 (.d (.agg (eAnswer t183))) rfl (w_call (ds := [(.s (.int .i64 1))]) (caps := []) (l := [(.agg (eAnswer t183))]) (s70 k 1 _ c128) rfl rfl rfl en70 · · · (.inl ⟨rfl, rfl⟩) rfl rfl) ?_
  refine rg_cons _ (v_store_box (id := 12) (off := 0) (cs := (eCell t0).map V.d) rfl trivial rfl sz26 rfl rfl rfl rfl (ones_of rfl) (ble _ _ rfl)) ?_
  refine rg_cons _ (v_store_box (id := 13) (off := 0) (cs := (eAnswer t183).map V.d) rfl trivial rfl sz34 rfl rfl rfl rfl (ones_of rfl) (ble _ _ rfl)) ?_
  refine rg_nil ⟨by kernel_rfl, ?_⟩
  refine ht_ret ?_
  cases h
  exact ret2 rfl (.cell rfl rfl ag26 (ble _ _ rfl) rfl) (.cell rfl rfl ag34 (ble _ _ rfl) rfl)
 replace h := cneg e127 h
 refine ht_skip ?_
 refine sr ?_
 refine sT 184 (.d (.agg (eStamp t4))) rfl (w_ldp (eStamp t4) (eStamp t4) rfl · · · ag24 rfl (ble _ _ rfl) rfl) ?_
 refine sM 185 (bV (t122b && (!t122a.mGone))) rfl rfl ?_
 refine sT 186 (.d (.agg (eAnswer (⟨0, t4, (t122b && (!t122a.mGone)), (⟨#[]⟩ : ByteArray), ([] : List Item), (⟨#[]⟩ : ByteArray), false⟩ : Answer)))) rfl (w_bld zc34 ((eAnswer (⟨0, t4, (t122b && (!t122a.mGone)), (⟨#[]⟩ : ByteArray), ([] : List Item), (⟨#[]⟩ : ByteArray), false⟩ : Answer)).map V.d) [(1, .d (.agg (eStamp t4))), (2, bV (t122b && (!t122a.mGone)))] rfl · · · zw34 rfl ft34 rfl rfl rfl rfl) ?_
 refine sq_cons _ (v_alloc (id := 21) (cs := zc34) rfl trivial rfl (ble _ _ rfl) zu34 rfl ft34 rfl) ?_
 refine sq_cons _ (v_store_box (id := 21) (off := 0) (cs := (eAnswer (⟨0, t4, (t122b && (!t122a.mGone)), (⟨#[]⟩ : ByteArray), ([] : List Item), (⟨#[]⟩ : ByteArray), false⟩ : Answer)).map V.d) rfl trivial rfl sz34 rfl rfl rfl rfl (ones_of rfl) (ble _ _ rfl)) ?_
 refine sM 22 (iV 0) rfl rfl ?_
 refine sq_nil ?_
 refine ht_bj h (fun (t22, t14c5, t21c0, t21c5) => tell [(.b 12, .box false 5), (.b 13, .box false 9), (.b 14, .box false 17), (.b 21, .box false 9), (.c 12 0, .d (.sl 17 (([] : List Shard).map eShard))), (.c 12 1, iV 0), (.c 12 2, iV 0), (.c 12 3, iV 0), (.c 12 4, iV 0), (.c 13 0, iV 0), (.c 13 1, iV 0), (.c 13 2, iV 0), (.c 13 3, iV 0), (.c 13 4, bV false), (.c 13 5, sV (⟨#[]⟩ : ByteArray)), (.c 13 6, .d (.sl 2 (([] : List Item).map eItem))), (.c 13 7, sV (⟨#[]⟩ : ByteArray)), (.c 13 8, bV false), (.c 14 0, iV t56.mID), (.c 14 1, iV t56.mEpoch), (.c 14 2, sV t56.mSpan.mLo), (.c 14 3, sV t56.mSpan.mHi), (.c 14 4, iV t56.mPhase), (.c 14 5, .d (.sl 2 (t14c5.map eEntry))), (.c 14 6, iV t56.mMark.mWall), (.c 14 7, iV t56.mMark.mTick), (.c 14 8, iV t56.mMark.mNode), (.c 14 9, iV t56.mTop.mWall), (.c 14 10, iV t56.mTop.mTick), (.c 14 11, iV t56.mTop.mNode), (.c 14 12, .d (.sl 11 (t56.mDone.map eDone))), (.c 14 13, iV t56.mHold), (.c 14 14, iV t56.mSeen), (.c 14 15, iV t56.mMove), (.c 14 16, iV t56.mClosed), (.c 21 0, iV t21c0), (.c 21 1, iV t4.mWall), (.c 21 2, iV t4.mTick), (.c 21 3, iV t4.mNode), (.c 21 4, bV (t122b && (!t122a.mGone))), (.c 21 5, sV t21c5), (.c 21 6, .d (.sl 2 (([] : List Item).map eItem))), (.c 21 7, sV (⟨#[]⟩ : ByteArray)), (.c 21 8, bV false), (.t 6, .d (.dp (eCell t0))), (.t 9, .d (.dp (eRequest t3))), (.t 10, .d (.dp (eStamp t4))), (.t 12, .ptr 12 0), (.t 13, .ptr 13 0), (.t 14, .ptr 14 0), (.t 21, .ptr 21 0), (.t 22, iV t22)]) (fun v129 h => ?_) (fun v129 K130 h j132 => ?_)
 ·obtain ⟨t22, t14c5, t21c0, t21c5⟩ := v129
  refine ht_seq ?_
  refine sr ?_
  refine sM 238 (iV t22) rfl rfl ?_
  refine sT 239 (bV (!eqI t22 0)) rfl (v_bin rfl · · · rfl rfl (b_neq rfl)) ?_
  refine sq_nil ?_
  refine ht_cond rfl (fun e167 => ?_) (fun e167 => ?_)
  ·replace h := cpos e167 h
   refine ht_seq ?_
   refine ht_region_draw mixed ?_
   refine rT 240 (.d (.agg (eCell t0))) rfl (w_ldp (eCell t0) (eCell t0) rfl · · · ag26 rfl (ble _ _ rfl) rfl) ?_
   refine rM 241 (iV t22) rfl rfl ?_
   obtain ⟨t242, c168, h⟩ := bpos h
   refine rT 242 (.d (.agg (eAnswer t242))) rfl (w_call (ds := [(.s (.int .i64 t22))]) (caps := []) (l := [(.agg (eAnswer t242))]) (s70 k t22 _ c168) rfl rfl rfl en70 · · · (.inl ⟨rfl, rfl⟩) rfl rfl) ?_
   refine rg_cons _ (v_store_box (id := 12) (off := 0) (cs := (eCell t0).map V.d) rfl trivial rfl sz26 rfl rfl rfl rfl (ones_of rfl) (ble _ _ rfl)) ?_
   refine rg_cons _ (v_store_box (id := 13) (off := 0) (cs := (eAnswer t242).map V.d) rfl trivial rfl sz34 rfl rfl rfl rfl (ones_of rfl) (ble _ _ rfl)) ?_
   refine rg_nil ⟨by kernel_rfl, ?_⟩
   refine ht_ret ?_
   cases h
   exact ret2 rfl (.cell rfl rfl ag26 (ble _ _ rfl) rfl) (.cell rfl rfl ag34 (ble _ _ rfl) rfl)
  replace h := cneg e167 h
  refine ht_skip ?_
  refine sr ?_
  refine sT 244 (.ptr 14 12) rfl (v_field_box (off := 0) (a0 := 12) rfl · · · fo45_7 rfl) ?_
  refine sT 245 (.d (.sl 11 (t56.mDone.map eDone))) rfl (v_load_box1 (id := 14) (off := 12) rfl · · · onT43 rfl rfl (ble _ _ rfl) rfl) ?_
  refine sT 246 (.d (.dp (eRequest t3))) rfl (v_field_dp (a0 := 0) (cs := (eRequest t3)) rfl · · · fo28_0 rfl) ?_
  refine sT 247 (iV t3.mClient) rfl (v_load_dp1 rfl · · · onT3 rfl rfl) ?_
  refine sT 248 (.d (.dp (List.drop 1 (eRequest t3)))) rfl (v_field_dp (a0 := 1) (cs := (eRequest t3)) rfl · · · fo28_1 rfl) ?_
  refine sT 249 (iV t3.mReq) rfl (v_load_dp1 rfl · · · onT3 rfl rfl) ?_
  refine sT 250 (.d (.agg (eAnswer (⟨t21c0, t4, (t122b && (!t122a.mGone)), t21c5, ([] : List Item), (⟨#[]⟩ : ByteArray), false⟩ : Answer)))) rfl (w_ldb 21 0 rfl · · · ag34 rfl rfl (ble _ _ rfl) rfl) ?_
  refine sT 251 (.d (.agg (eDone (⟨t3.mClient, t3.mReq, (⟨t21c0, t4, (t122b && (!t122a.mGone)), t21c5, ([] : List Item), (⟨#[]⟩ : ByteArray), false⟩ : Answer)⟩ : Done)))) rfl (w_bld zc100 ((eDone (⟨t3.mClient, t3.mReq, (⟨t21c0, t4, (t122b && (!t122a.mGone)), t21c5, ([] : List Item), (⟨#[]⟩ : ByteArray), false⟩ : Answer)⟩ : Done)).map V.d) [(0, iV t3.mClient), (1, iV t3.mReq), (2, .d (.agg (eAnswer (⟨t21c0, t4, (t122b && (!t122a.mGone)), t21c5, ([] : List Item), (⟨#[]⟩ : ByteArray), false⟩ : Answer))))] rfl · · · zw100 rfl ft100 rfl rfl rfl rfl) ?_
  obtain ⟨⟨t252a, t252b⟩, c169, h⟩ := bpos h
  refine sT 252 (.tup [.d (.sl 11 (t252a.map eDone)), iV t252b]) rfl (w_call (ds := [(.sl 11 (t56.mDone.map eDone)), (.agg (eDone (⟨t3.mClient, t3.mReq, (⟨t21c0, t4, (t122b && (!t122a.mGone)), t21c5, ([] : List Item), (⟨#[]⟩ : ByteArray), false⟩ : Answer)⟩ : Done)))]) (caps := []) (l := [(.sl 11 (t252a.map eDone)), (.s (.int .i64 t252b))]) (s78 k t56.mDone (⟨t3.mClient, t3.mReq, (⟨t21c0, t4, (t122b && (!t122a.mGone)), t21c5, ([] : List Item), (⟨#[]⟩ : ByteArray), false⟩ : Answer)⟩ : Done) _ c169) rfl rfl rfl en78 · · · (.inl ⟨rfl, rfl⟩) rfl rfl) ?_
  refine sM 243 (.tup [.d (.sl 11 (t252a.map eDone)), iV t252b]) rfl rfl ?_
  refine sT 253 (.d (.sl 11 (t252a.map eDone))) rfl (v_extract rfl · · · rfl rfl) ?_
  refine sT 254 (iV t252b) rfl (v_extract rfl · · · rfl rfl) ?_
  refine sT 255 (.ptr 14 12) rfl (v_field_box (off := 0) (a0 := 12) rfl · · · fo45_7 rfl) ?_
  refine sq_cons _ (v_store_box (id := 14) (off := 12) (cs := [(.sl 11 (t252a.map eDone))].map V.d) rfl trivial rfl sz43 rfl rfl rfl rfl (ones_of rfl) (ble _ _ rfl)) ?_
  refine sM 22 (iV t252b) rfl rfl ?_
  refine sq_nil ?_
  refine ht_seq ?_
  refine sr ?_
  refine sM 256 (iV t252b) rfl rfl ?_
  refine sT 257 (bV (!eqI t252b 0)) rfl (v_bin rfl · · · rfl rfl (b_neq rfl)) ?_
  refine sq_nil ?_
  refine ht_cond rfl (fun e170 => ?_) (fun e170 => ?_)
  ·replace h := cpos e170 h
   refine ht_seq ?_
   refine ht_region_draw mixed ?_
   refine rT 258 (.d (.agg (eCell t0))) rfl (w_ldp (eCell t0) (eCell t0) rfl · · · ag26 rfl (ble _ _ rfl) rfl) ?_
   refine rM 259 (iV t252b) rfl rfl ?_
   obtain ⟨t260, c171, h⟩ := bpos h
   refine rT 260 (.d (.agg (eAnswer t260))) rfl (w_call (ds := [(.s (.int .i64 t252b))]) (caps := []) (l := [(.agg (eAnswer t260))]) (s70 k t252b _ c171) rfl rfl rfl en70 · · · (.inl ⟨rfl, rfl⟩) rfl rfl) ?_
   refine rg_cons _ (v_store_box (id := 12) (off := 0) (cs := (eCell t0).map V.d) rfl trivial rfl sz26 rfl rfl rfl rfl (ones_of rfl) (ble _ _ rfl)) ?_
   refine rg_cons _ (v_store_box (id := 13) (off := 0) (cs := (eAnswer t260).map V.d) rfl trivial rfl sz34 rfl rfl rfl rfl (ones_of rfl) (ble _ _ rfl)) ?_
   refine rg_nil ⟨by kernel_rfl, ?_⟩
   refine ht_ret ?_
   cases h
   exact ret2 rfl (.cell rfl rfl ag26 (ble _ _ rfl) rfl) (.cell rfl rfl ag34 (ble _ _ rfl) rfl)
  replace h := cneg e170 h
  refine ht_skip ?_
  refine sr ?_
  refine sT 261 (.d (.agg (eCell t0))) rfl (w_ldp (eCell t0) (eCell t0) rfl · · · ag26 rfl (ble _ _ rfl) rfl) ?_
  refine sT 262 (.d (.agg (eShard ({t56 with mEntries := t14c5, mDone := t252a})))) rfl (w_ldb 14 0 rfl · · · ag45 rfl rfl (ble _ _ rfl) rfl) ?_
  obtain ⟨t263, c172, h⟩ := bpos h
  refine sT 263 (.d (.agg (eCell t263))) rfl (w_call (ds := [(.agg (eCell t0)), (.agg (eShard ({t56 with mEntries := t14c5, mDone := t252a}))), (.s (.bool false))]) (caps := []) (l := [(.agg (eCell t263))]) (s79 k t0 ({t56 with mEntries := t14c5, mDone := t252a}) false _ c172) rfl rfl rfl en79 · · · (.inl ⟨rfl, rfl⟩) rfl rfl) ?_
  refine sq_cons _ (v_alloc (id := 23) (cs := zc26) rfl trivial rfl (ble _ _ rfl) zu26 rfl ft26 rfl) ?_
  refine sq_cons _ (v_store_box (id := 23) (off := 0) (cs := (eCell t263).map V.d) rfl trivial rfl sz26 rfl rfl rfl rfl (ones_of rfl) (ble _ _ rfl)) ?_
  refine sq_nil ?_
  refine sr ?_
  refine sT 264 (.d (.agg (eStamp t4))) rfl (w_ldp (eStamp t4) (eStamp t4) rfl · · · ag24 rfl (ble _ _ rfl) rfl) ?_
  refine sT 265 (.ptr 23 1) rfl (v_field_box (off := 0) (a0 := 1) rfl · · · fo26_1 rfl) ?_
  refine sq_cons _ (v_store_box (id := 23) (off := 1) (cs := (eStamp t4).map V.d) rfl trivial rfl sz24 rfl rfl rfl rfl (ones_of rfl) (ble _ _ rfl)) ?_
  refine sq_nil ?_
  refine ht_seq ?_
  refine ht_region_draw mixed ?_
  refine rT 266 (.d (.agg (eCell ({t263 with mTop := t4})))) rfl (w_ldb 23 0 rfl · · · ag26 rfl rfl (ble _ _ rfl) rfl) ?_
  refine rT 267 (.d (.agg (eAnswer (⟨t21c0, t4, (t122b && (!t122a.mGone)), t21c5, ([] : List Item), (⟨#[]⟩ : ByteArray), false⟩ : Answer)))) rfl (w_ldb 21 0 rfl · · · ag34 rfl rfl (ble _ _ rfl) rfl) ?_
  refine rg_cons _ (v_store_box (id := 12) (off := 0) (cs := (eCell ({t263 with mTop := t4})).map V.d) rfl trivial rfl sz26 rfl rfl rfl rfl (ones_of rfl) (ble _ _ rfl)) ?_
  refine rg_cons _ (v_store_box (id := 13) (off := 0) (cs := (eAnswer (⟨t21c0, t4, (t122b && (!t122a.mGone)), t21c5, ([] : List Item), (⟨#[]⟩ : ByteArray), false⟩ : Answer)).map V.d) rfl trivial rfl sz34 rfl rfl rfl rfl (ones_of rfl) (ble _ _ rfl)) ?_
  refine rg_nil ⟨by kernel_rfl, ?_⟩
  refine ht_ret ?_
  cases h
  exact ret2 rfl (.cell rfl rfl ag26 (ble _ _ rfl) rfl) (.cell rfl rfl ag34 (ble _ _ rfl) rfl)
 refine sr ?_
 refine sT 187 (.d (.dp (List.drop 2 (eRequest t3)))) rfl (v_field_dp (a0 := 2) (cs := (eRequest t3)) rfl · · · fo28_2 rfl) ?_
 refine sT 188 (iV t3.mKind) rfl (v_load_dp1 rfl · · · onT3 rfl rfl) ?_
 refine sT 189 (bV (eqI t3.mKind 3)) rfl (v_bin rfl · · · rfl rfl (b_eql rfl)) ?_
 refine sM 190 (bV (eqI t3.mKind 3)) rfl rfl ?_
 refine sG 191 (bV (t122b && (!t122a.mGone))) rfl rfl (fun e134 => (v_move (.inl rfl) · · · rfl)) ?_
 refine sG 192 (.d (.dp (List.drop 5 (eRequest t3)))) rfl rfl (fun e135 => (v_field_dp (a0 := 5) (cs := (eRequest t3)) rfl · · · fo28_5 rfl)) ?_
 refine sG 193 (bV t3.mHad) rfl rfl (fun e136 => (v_load_dp1 rfl · · · onT4 (gv e136) rfl)) ?_
 refine sG 194 (bV (!((t122b && (!t122a.mGone)) == t3.mHad))) rfl rfl (fun e137 => (v_bin rfl · · · (gv e137) (gv e137) (b_neB und4 rfl))) ?_
 refine sG 195 (bV (!((t122b && (!t122a.mGone)) == t3.mHad))) rfl rfl (fun e138 => (v_move (.inl rfl) · · · (gv e138))) ?_
 refine sH 196 (bV (t122b && (!t122a.mGone))) rfl rfl (fun e139 e140 => (v_move (.inl rfl) · · · rfl)) ?_
 refine sH 197 (bV (t122b && (!t122a.mGone))) rfl rfl (fun e141 e142 => (v_move (.inl rfl) · · · (gv (aT e141 (nF e142))))) ?_
 refine sI 198 (.ptr 15 4) rfl rfl (fun e143 e144 => (v_field_box (off := 0) (a0 := 4) rfl · · · fo93_2 rfl)) ?_
 refine sI 199 (sV t122a.mValue) rfl rfl (fun e145 e146 => (v_load_box1 (id := 15) (off := 4) rfl · · · onT9 (gv (aT e145 e146)) rfl (ble _ _ rfl) rfl)) ?_
 refine sI 200 (.d (.dp (List.drop 6 (eRequest t3)))) rfl rfl (fun e147 e148 => (v_field_dp (a0 := 6) (cs := (eRequest t3)) rfl · · · fo28_6 rfl)) ?_
 refine sI 201 (sV t3.mOld) rfl rfl (fun e149 e150 => (v_load_dp1 rfl · · · onT9 (gv (aT e149 e150)) rfl)) ?_
 refine sI 202 (bV (!strEq t122a.mValue t3.mOld)) rfl rfl (fun e151 e152 => (v_bin rfl · · · (gv (aT e151 e152)) (gv (aT e151 e152)) (b_neS rfl))) ?_
 refine sH 203 (bV ((t122b && (!t122a.mGone)) && (!strEq t122a.mValue t3.mOld))) rfl rfl (fun e153 e154 => (v_pickB rfl · · · (gv (aT e153 (nF e154))) (fun e155 => (gv (aT (aT e153 (nF e154)) e155))) (fun e156 => rfl) (pA _ _))) ?_
 refine sG 204 (bV ((!((t122b && (!t122a.mGone)) == t3.mHad)) || ((t122b && (!t122a.mGone)) && (!strEq t122a.mValue t3.mOld)))) rfl rfl (fun e157 => (v_pickB rfl · · · (gv e157) (fun e158 => rfl) (fun e159 => (gv (aT e157 (nF e159)))) (pO _ _))) ?_
 refine sT 205 (bV ((eqI t3.mKind 3) && ((!((t122b && (!t122a.mGone)) == t3.mHad)) || ((t122b && (!t122a.mGone)) && (!strEq t122a.mValue t3.mOld))))) rfl (v_pickB rfl · · · rfl (fun e160 => (gv e160)) (fun e161 => rfl) (pA _ _)) ?_
 refine sq_nil ?_
 refine ht_cond rfl (fun e162 => ?_) (fun e162 => ?_)
 ·replace h := cpos e162 h
  refine ht_region_draw mixed ?_
  refine rT 206 (.ptr 15 4) rfl (v_field_box (off := 0) (a0 := 4) rfl · · · fo93_2 rfl) ?_
  refine rT 207 (sV t122a.mValue) rfl (v_load_box1 (id := 15) (off := 4) rfl · · · onT9 rfl rfl (ble _ _ rfl) rfl) ?_
  refine rT 208 (.ptr 21 0) rfl (v_field_box (off := 0) (a0 := 0) rfl · · · fo34_0 rfl) ?_
  refine rg_cons _ (v_store_box (id := 21) (off := 0) (cs := [(.s (.int .i64 15))].map V.d) rfl trivial rfl sz31 rfl rfl rfl rfl (ones_of rfl) (ble _ _ rfl)) ?_
  refine rT 209 (.ptr 21 5) rfl (v_field_box (off := 0) (a0 := 5) rfl · · · fo34_3 rfl) ?_
  refine rg_cons _ (v_store_box (id := 21) (off := 5) (cs := [(.s (.string t122a.mValue))].map V.d) rfl trivial rfl sz9 rfl rfl rfl rfl (ones_of rfl) (ble _ _ rfl)) ?_
  refine rg_nil ⟨by kernel_rfl, ?_⟩
  cases h
  exact j132 _ (wk_ren _ (fun i => i) rfl ⟨rfl, rfl, rfl, rfl, rfl, rfl, rfl, rfl, rfl, rfl, rfl, rfl, rfl, rfl, rfl, rfl, rfl, rfl, rfl, rfl, rfl, rfl, rfl, rfl, rfl, rfl, rfl, rfl, rfl, rfl, rfl, rfl, rfl, rfl, rfl, rfl, rfl, rfl, rfl, rfl, rfl, rfl, rfl, rfl, rfl, rfl, rfl, rfl, rfl, rfl, rfl, rfl, trivial⟩)
 replace h := cneg e162 h
 refine sr ?_
 refine sT 210 (.d (.dp (List.drop 2 (eRequest t3)))) rfl (v_field_dp (a0 := 2) (cs := (eRequest t3)) rfl · · · fo28_2 rfl) ?_
 refine sT 211 (iV t3.mKind) rfl (v_load_dp1 rfl · · · onT3 rfl rfl) ?_
 refine sT 212 (bV (!eqI t3.mKind 2)) rfl (v_bin rfl · · · rfl rfl (b_neq rfl)) ?_
 refine sq_nil ?_
 refine ht_cond rfl (fun e163 => ?_) (fun e163 => ?_)
 ·replace h := cpos e163 h
  refine ht_region ?_
  refine sT 214 (.ptr 14 5) rfl (v_field_box (off := 0) (a0 := 5) rfl · · · fo45_4 rfl) ?_
  refine sT 215 (.d (.sl 2 (t56.mEntries.map eEntry))) rfl (v_load_box1 (id := 14) (off := 5) rfl · · · onT42 rfl rfl (ble _ _ rfl) rfl) ?_
  refine sT 216 (.d (.dp (List.drop 3 (eRequest t3)))) rfl (v_field_dp (a0 := 3) (cs := (eRequest t3)) rfl · · · fo28_3 rfl) ?_
  refine sT 217 (sV t3.mKey) rfl (v_load_dp1 rfl · · · onT9 rfl rfl) ?_
  refine sT 218 (.d (.agg (eStamp t4))) rfl (w_ldp (eStamp t4) (eStamp t4) rfl · · · ag24 rfl (ble _ _ rfl) rfl) ?_
  refine sT 219 (.d (.dp (List.drop 4 (eRequest t3)))) rfl (v_field_dp (a0 := 4) (cs := (eRequest t3)) rfl · · · fo28_4 rfl) ?_
  refine sT 220 (sV t3.mValue) rfl (v_load_dp1 rfl · · · onT9 rfl rfl) ?_
  refine sT 221 (.d (.agg (eVersion (⟨t4, false, t3.mValue⟩ : Version)))) rfl (w_bld zc93 ((eVersion (⟨t4, false, t3.mValue⟩ : Version)).map V.d) [(0, .d (.agg (eStamp t4))), (2, sV t3.mValue)] rfl · · · zw93 rfl ft93 rfl rfl rfl rfl) ?_
  obtain ⟨⟨t222a, t222b⟩, c164, h⟩ := bpos h
  refine sT 222 (.tup [.d (.sl 2 (t222a.map eEntry)), iV t222b]) rfl (w_call (ds := [(.sl 2 (t56.mEntries.map eEntry)), (.s (.string t3.mKey)), (.agg (eVersion (⟨t4, false, t3.mValue⟩ : Version)))]) (caps := []) (l := [(.sl 2 (t222a.map eEntry)), (.s (.int .i64 t222b))]) (s77 k t56.mEntries t3.mKey (⟨t4, false, t3.mValue⟩ : Version) _ c164) rfl rfl rfl en77 · · · (.inl ⟨rfl, rfl⟩) rfl rfl) ?_
  refine sM 213 (.tup [.d (.sl 2 (t222a.map eEntry)), iV t222b]) rfl rfl ?_
  refine sT 223 (.d (.sl 2 (t222a.map eEntry))) rfl (v_extract rfl · · · rfl rfl) ?_
  refine sT 224 (iV t222b) rfl (v_extract rfl · · · rfl rfl) ?_
  refine sT 225 (.ptr 14 5) rfl (v_field_box (off := 0) (a0 := 5) rfl · · · fo45_4 rfl) ?_
  refine sq_cons _ (v_store_box (id := 14) (off := 5) (cs := [(.sl 2 (t222a.map eEntry))].map V.d) rfl trivial rfl sz42 rfl rfl rfl rfl (ones_of rfl) (ble _ _ rfl)) ?_
  refine sM 22 (iV t222b) rfl rfl ?_
  refine sq_nil ?_
  cases h
  exact j132 _ (wk_ren _ (fun i => i) rfl ⟨rfl, rfl, rfl, rfl, rfl, rfl, rfl, rfl, rfl, rfl, rfl, rfl, rfl, rfl, rfl, rfl, rfl, rfl, rfl, rfl, rfl, rfl, rfl, rfl, rfl, rfl, rfl, rfl, rfl, rfl, rfl, rfl, rfl, rfl, rfl, rfl, rfl, rfl, rfl, rfl, rfl, rfl, rfl, rfl, rfl, rfl, rfl, rfl, rfl, rfl, rfl, rfl, trivial⟩)
 replace h := cneg e163 h
 refine sr ?_
 refine sM 226 (bV (t122b && (!t122a.mGone))) rfl rfl ?_
 refine sq_nil ?_
 refine ht_cond rfl (fun e165 => ?_) (fun e165 => ?_)
 ·replace h := cpos e165 h
  refine ht_region ?_
  refine sT 228 (.ptr 14 5) rfl (v_field_box (off := 0) (a0 := 5) rfl · · · fo45_4 rfl) ?_
  refine sT 229 (.d (.sl 2 (t56.mEntries.map eEntry))) rfl (v_load_box1 (id := 14) (off := 5) rfl · · · onT42 rfl rfl (ble _ _ rfl) rfl) ?_
  refine sT 230 (.d (.dp (List.drop 3 (eRequest t3)))) rfl (v_field_dp (a0 := 3) (cs := (eRequest t3)) rfl · · · fo28_3 rfl) ?_
  refine sT 231 (sV t3.mKey) rfl (v_load_dp1 rfl · · · onT9 rfl rfl) ?_
  refine sT 232 (.d (.agg (eStamp t4))) rfl (w_ldp (eStamp t4) (eStamp t4) rfl · · · ag24 rfl (ble _ _ rfl) rfl) ?_
  refine sT 233 (.d (.agg (eVersion (⟨t4, true, (⟨#[]⟩ : ByteArray)⟩ : Version)))) rfl (w_bld zc93 ((eVersion (⟨t4, true, (⟨#[]⟩ : ByteArray)⟩ : Version)).map V.d) [(0, .d (.agg (eStamp t4))), (1, bV true)] rfl · · · zw93 rfl ft93 rfl rfl rfl rfl) ?_
  obtain ⟨⟨t234a, t234b⟩, c166, h⟩ := bpos h
  refine sT 234 (.tup [.d (.sl 2 (t234a.map eEntry)), iV t234b]) rfl (w_call (ds := [(.sl 2 (t56.mEntries.map eEntry)), (.s (.string t3.mKey)), (.agg (eVersion (⟨t4, true, (⟨#[]⟩ : ByteArray)⟩ : Version)))]) (caps := []) (l := [(.sl 2 (t234a.map eEntry)), (.s (.int .i64 t234b))]) (s77 k t56.mEntries t3.mKey (⟨t4, true, (⟨#[]⟩ : ByteArray)⟩ : Version) _ c166) rfl rfl rfl en77 · · · (.inl ⟨rfl, rfl⟩) rfl rfl) ?_
  refine sM 227 (.tup [.d (.sl 2 (t234a.map eEntry)), iV t234b]) rfl rfl ?_
  refine sT 235 (.d (.sl 2 (t234a.map eEntry))) rfl (v_extract rfl · · · rfl rfl) ?_
  refine sT 236 (iV t234b) rfl (v_extract rfl · · · rfl rfl) ?_
  refine sT 237 (.ptr 14 5) rfl (v_field_box (off := 0) (a0 := 5) rfl · · · fo45_4 rfl) ?_
  refine sq_cons _ (v_store_box (id := 14) (off := 5) (cs := [(.sl 2 (t234a.map eEntry))].map V.d) rfl trivial rfl sz42 rfl rfl rfl rfl (ones_of rfl) (ble _ _ rfl)) ?_
  refine sM 22 (iV t234b) rfl rfl ?_
  refine sq_nil ?_
  cases h
  exact j132 _ (wk_ren _ (fun i => i) rfl ⟨rfl, rfl, rfl, rfl, rfl, rfl, rfl, rfl, rfl, rfl, rfl, rfl, rfl, rfl, rfl, rfl, rfl, rfl, rfl, rfl, rfl, rfl, rfl, rfl, rfl, rfl, rfl, rfl, rfl, rfl, rfl, rfl, rfl, rfl, rfl, rfl, rfl, rfl, rfl, rfl, rfl, rfl, rfl, rfl, rfl, rfl, rfl, rfl, rfl, rfl, rfl, rfl, trivial⟩)
 replace h := cneg e165 h
 refine ht_skip ?_
 cases h
 exact j132 _ (wk_ren _ (fun i => i) rfl ⟨rfl, rfl, rfl, rfl, rfl, rfl, rfl, rfl, rfl, rfl, rfl, rfl, rfl, rfl, rfl, rfl, rfl, rfl, rfl, rfl, rfl, rfl, rfl, rfl, rfl, rfl, rfl, rfl, rfl, rfl, rfl, rfl, rfl, rfl, rfl, rfl, rfl, rfl, rfl, rfl, rfl, rfl, rfl, rfl, rfl, rfl, rfl, rfl, rfl, rfl, rfl, rfl, trivial⟩)
theorem s102 (k : Nat) (t0 : List Version) (t1 : List Version) (r : Bool) (h : F102 k t0 t1 = some r) : Awp.Spec Tryz.prog amb 102 [(.sl 5 (t0.map eVersion)), (.sl 5 (t1.map eVersion))] (.ds [(.s (.bool r))]) := by
 rw [F102] at h
 refine spec_of Tryz.func102 rfl (ble _ _ rfl) fun w0 ok0 lt0 hA => ?_
 refine sr ?_
 refine sM 4 (bV false) rfl rfl ?_
 refine sq_nil ?_
 refine ht_seq ?_
 refine sr ?_
 refine sM 6 (.d (.sl 5 (t0.map eVersion))) rfl rfl ?_
 refine sT 7 (iV (t0.length : Int)) rfl (w_len t0 eVersion rfl rfl · · · slT96 rfl) ?_
 refine sM 8 (.d (.sl 5 (t1.map eVersion))) rfl rfl ?_
 refine sT 9 (iV (t1.length : Int)) rfl (w_len t1 eVersion rfl rfl · · · slT96 rfl) ?_
 refine sT 10 (bV (!eqI (t0.length : Int) (t1.length : Int))) rfl (v_bin rfl · · · rfl rfl (b_neq rfl)) ?_
 refine sq_nil ?_
 refine ht_cond rfl (fun e1 => ?_) (fun e1 => ?_)
 ·replace h := cpos e1 h
  refine sr ?_
  refine sM 4 (bV false) rfl rfl ?_
  refine sq_nil ?_
  refine ht_ret ?_
  cases h
  exact ret1 rfl (.tmp rfl)
 replace h := cneg e1 h
 refine ht_skip ?_
 refine ht_gj (go_id' h) (fun _ => tell []) (fun _ h => ?_) (fun v2 K3 h j5 r6 => ?_)
 ·refine sr ?_
  refine sM 4 (bV true) rfl rfl ?_
  refine sq_nil ?_
  refine ht_ret ?_
  cases h
  exact ret1 rfl (.tmp rfl)
 refine sr ?_
 refine sM 5 (iV 0) rfl rfl ?_
 refine sq_nil ?_
 refine ht_block ?_
 refine ht_rd h (fun _ => rfl) (fun t5 => tell [(.t 0, .d (.sl 5 (t0.map eVersion))), (.t 1, .d (.sl 5 (t1.map eVersion))), (.t 5, iV t5)]) (wk_ren _ (fun i => i) rfl ⟨rfl, rfl, rfl, trivial⟩) fun k t5 h K14 j8 => ?_
 rw [F102_l1] at h
 refine ht_seq ?_
 refine sr ?_
 refine sM 11 (iV t5) rfl rfl ?_
 refine sM 12 (.d (.sl 5 (t0.map eVersion))) rfl rfl ?_
 refine sT 13 (iV (t0.length : Int)) rfl (w_len t0 eVersion rfl rfl · · · slT96 rfl) ?_
 refine sT 14 (bV (ltI t5 (t0.length : Int))) rfl (v_bin rfl · · · rfl rfl (b_lss rfl)) ?_
 refine sq_nil ?_
 refine ht_cond rfl (fun e10 => ?_) (fun e10 => ?_)
 ·replace h := cpos e10 h
  refine ht_skip ?_
  refine ht_seq ?_
  refine ht_block ?_
  refine ht_seq ?_
  refine ht_region_draw mixed ?_
  refine rM 17 (.d (.sl 5 (t0.map eVersion))) rfl rfl ?_
  refine rM 18 (iV t5) rfl rfl ?_
  obtain ⟨e11, h⟩ := gpos h
  refine rT 19 (.d (.dp (eVersion (rd t0 t5)))) rfl (w_idx t0 eVersion rfl · · · slT96 rfl rfl e11) ?_
  refine rT 20 (.d (.agg (eVersion (rd t0 t5)))) rfl (w_ldp (eVersion (rd t0 t5)) (eVersion (rd t0 t5)) rfl · · · ag93 rfl (ble _ _ rfl) rfl) ?_
  refine rM 21 (.d (.sl 5 (t1.map eVersion))) rfl rfl ?_
  refine rM 22 (iV t5) rfl rfl ?_
  obtain ⟨e12, h⟩ := gpos h
  refine rT 23 (.d (.dp (eVersion (rd t1 t5)))) rfl (w_idx t1 eVersion rfl · · · slT96 rfl rfl e12) ?_
  refine rT 24 (.d (.agg (eVersion (rd t1 t5)))) rfl (w_ldp (eVersion (rd t1 t5)) (eVersion (rd t1 t5)) rfl · · · ag93 rfl (ble _ _ rfl) rfl) ?_
  refine rT 25 (bV (!(qVersion (rd t0 t5) (rd t1 t5)))) rfl (v_bin_neq (f := eVersion) rfl · · · rfl rfl rfl rfl eg93 (eq93 _ _)) ?_
  refine rg_nil ⟨by kernel_rfl, ?_⟩
  refine ht_cond rfl (fun e13 => ?_) (fun e13 => ?_)
  ·replace h := cpos e13 h
   refine sr ?_
   refine sM 4 (bV false) rfl rfl ?_
   refine sq_nil ?_
   refine ht_ret ?_
   cases h
   cases r6 _ rfl
   exact ret1 rfl (.tmp rfl)
  replace h := cneg e13 h
  refine ht_skip ?_
  refine ht_region ?_
  refine sM 15 (iV t5) rfl rfl ?_
  refine sT 16 (iV (IntKind.wrap .i64 (t5 + 1))) rfl (v_bin rfl · · · rfl rfl (b_add rfl)) ?_
  refine sM 5 (iV (IntKind.wrap .i64 (t5 + 1))) rfl rfl ?_
  refine sq_nil ?_
  exact j8 _ _ h (wk_ren _ (fun i => i) rfl ⟨rfl, rfl, rfl, trivial⟩)
 replace h := cneg e10 h
 refine ht_exit ?_
 refine tq ?_
 refine tq ?_
 refine bq_hit ?_
 cases h
 exact j5 _ _ rfl (wk_ren _ (fun i => i) rfl trivial)
theorem s40 (k : Nat) (t0 : List Entry) (t1 : List Entry) (r : Bool) (h : F40 k t0 t1 = some r) : Awp.Spec Tryz.prog amb 40 [(.sl 2 (t0.map eEntry)), (.sl 2 (t1.map eEntry))] (.ds [(.s (.bool r))]) := by
 rw [F40] at h
 refine spec_of Tryz.func40 rfl (ble _ _ rfl) fun w0 ok0 lt0 hA => ?_
 refine sr ?_
 refine sM 4 (bV false) rfl rfl ?_
 refine sq_nil ?_
 refine ht_seq ?_
 refine sr ?_
 refine sM 6 (.d (.sl 2 (t0.map eEntry))) rfl rfl ?_
 refine sT 7 (iV (t0.length : Int)) rfl (w_len t0 eEntry rfl rfl · · · slT42 rfl) ?_
 refine sM 8 (.d (.sl 2 (t1.map eEntry))) rfl rfl ?_
 refine sT 9 (iV (t1.length : Int)) rfl (w_len t1 eEntry rfl rfl · · · slT42 rfl) ?_
 refine sT 10 (bV (!eqI (t0.length : Int) (t1.length : Int))) rfl (v_bin rfl · · · rfl rfl (b_neq rfl)) ?_
 refine sq_nil ?_
 refine ht_cond rfl (fun e1 => ?_) (fun e1 => ?_)
 ·replace h := cpos e1 h
  refine sr ?_
  refine sM 4 (bV false) rfl rfl ?_
  refine sq_nil ?_
  refine ht_ret ?_
  cases h
  exact ret1 rfl (.tmp rfl)
 replace h := cneg e1 h
 refine ht_skip ?_
 refine ht_gj (go_id' h) (fun _ => tell []) (fun _ h => ?_) (fun v2 K3 h j5 r6 => ?_)
 ·refine sr ?_
  refine sM 4 (bV true) rfl rfl ?_
  refine sq_nil ?_
  refine ht_ret ?_
  cases h
  exact ret1 rfl (.tmp rfl)
 refine sr ?_
 refine sM 5 (iV 0) rfl rfl ?_
 refine sq_nil ?_
 refine ht_block ?_
 refine ht_rd h (fun _ => rfl) (fun t5 => tell [(.t 0, .d (.sl 2 (t0.map eEntry))), (.t 1, .d (.sl 2 (t1.map eEntry))), (.t 5, iV t5)]) (wk_ren _ (fun i => i) rfl ⟨rfl, rfl, rfl, trivial⟩) fun k t5 h K31 j8 => ?_
 rw [F40_l1] at h
 refine ht_seq ?_
 refine sr ?_
 refine sM 11 (iV t5) rfl rfl ?_
 refine sM 12 (.d (.sl 2 (t0.map eEntry))) rfl rfl ?_
 refine sT 13 (iV (t0.length : Int)) rfl (w_len t0 eEntry rfl rfl · · · slT42 rfl) ?_
 refine sT 14 (bV (ltI t5 (t0.length : Int))) rfl (v_bin rfl · · · rfl rfl (b_lss rfl)) ?_
 refine sq_nil ?_
 refine ht_cond rfl (fun e10 => ?_) (fun e10 => ?_)
 ·replace h := cpos e10 h
  refine ht_skip ?_
  refine ht_seq ?_
  refine ht_block ?_
  refine ht_seq ?_
  refine ht_region_draw mixed ?_
  refine rM 17 (.d (.sl 2 (t0.map eEntry))) rfl rfl ?_
  refine rM 18 (iV t5) rfl rfl ?_
  obtain ⟨e11, h⟩ := gpos h
  refine rT 19 (.d (.dp (eEntry (rd t0 t5)))) rfl (w_idx t0 eEntry rfl · · · slT42 rfl rfl e11) ?_
  refine rT 20 (.d (.dp (eEntry (rd t0 t5)))) rfl (v_field_dp (a0 := 0) (cs := (eEntry (rd t0 t5))) rfl · · · fo116_0 rfl) ?_
  refine rT 21 (sV (rd t0 t5).mKey) rfl (v_load_dp1 rfl · · · onT9 rfl rfl) ?_
  refine rM 22 (.d (.sl 2 (t1.map eEntry))) rfl rfl ?_
  refine rM 23 (iV t5) rfl rfl ?_
  obtain ⟨e12, h⟩ := gpos h
  refine rT 24 (.d (.dp (eEntry (rd t1 t5)))) rfl (w_idx t1 eEntry rfl · · · slT42 rfl rfl e12) ?_
  refine rT 25 (.d (.dp (eEntry (rd t1 t5)))) rfl (v_field_dp (a0 := 0) (cs := (eEntry (rd t1 t5))) rfl · · · fo116_0 rfl) ?_
  refine rT 26 (sV (rd t1 t5).mKey) rfl (v_load_dp1 rfl · · · onT9 rfl rfl) ?_
  refine rT 27 (bV (!strEq (rd t0 t5).mKey (rd t1 t5).mKey)) rfl (v_bin rfl · · · rfl rfl (b_neS rfl)) ?_
  refine rM 28 (bV (!strEq (rd t0 t5).mKey (rd t1 t5).mKey)) rfl rfl ?_
  refine rF 29 (.d (.sl 2 (t0.map eEntry))) rfl rfl (fun e13 => (v_move (.inl rfl) · · · rfl)) ?_
  refine rF 30 (iV t5) rfl rfl (fun e14 => (v_move (.inl rfl) · · · rfl)) ?_
  obtain ⟨e16, h⟩ := gpos h
  refine rF 31 (.d (.dp (eEntry (rd t0 t5)))) rfl rfl (fun e15 => (w_idx t0 eEntry rfl · · · slT42 (gv (nF e15)) (gv (nF e15)) (orT e16 (nF e15)))) ?_
  refine rF 32 (.d (.dp (List.drop 1 (eEntry (rd t0 t5))))) rfl rfl (fun e17 => (v_field_dp (a0 := 1) (cs := (eEntry (rd t0 t5))) rfl · · · fo116_1 (gv (nF e17)))) ?_
  refine rF 33 (.d (.sl 5 ((rd t0 t5).mChain.map eVersion))) rfl rfl (fun e18 => (v_load_dp1 rfl · · · onT96 (gv (nF e18)) rfl)) ?_
  refine rF 34 (.d (.sl 2 (t1.map eEntry))) rfl rfl (fun e19 => (v_move (.inl rfl) · · · rfl)) ?_
  refine rF 35 (iV t5) rfl rfl (fun e20 => (v_move (.inl rfl) · · · rfl)) ?_
  obtain ⟨e22, h⟩ := gpos h
  refine rF 36 (.d (.dp (eEntry (rd t1 t5)))) rfl rfl (fun e21 => (w_idx t1 eEntry rfl · · · slT42 (gv (nF e21)) (gv (nF e21)) (orT e22 (nF e21)))) ?_
  refine rF 37 (.d (.dp (List.drop 1 (eEntry (rd t1 t5))))) rfl rfl (fun e23 => (v_field_dp (a0 := 1) (cs := (eEntry (rd t1 t5))) rfl · · · fo116_1 (gv (nF e23)))) ?_
  refine rF 38 (.d (.sl 5 ((rd t1 t5).mChain.map eVersion))) rfl rfl (fun e24 => (v_load_dp1 rfl · · · onT96 (gv (nF e24)) rfl)) ?_
  obtain ⟨t39, c26, h⟩ := bpos h
  refine rF 39 (bV t39) rfl rfl (fun e25 => (w_call (ds := [(.sl 5 ((rd t0 t5).mChain.map eVersion)), (.sl 5 ((rd t1 t5).mChain.map eVersion))]) (caps := []) (l := [(.s (.bool t39))]) (s102 k (rd t0 t5).mChain (rd t1 t5).mChain _ (cpos (nF e25) c26)) rfl rfl rfl en102 · · · (.inl ⟨rfl, rfl⟩) (cc (gv (nF e25)) (cc (gv (nF e25)) rfl)) rfl)) ?_
  refine rF 40 (bV (!t39)) rfl rfl (fun e27 => (v_un rfl · · · (gv (nF e27)) (u_not rfl))) ?_
  refine rT 41 (bV ((!strEq (rd t0 t5).mKey (rd t1 t5).mKey) || (!t39))) rfl (v_pickB rfl · · · rfl (fun e28 => rfl) (fun e29 => (gv (nF e29))) (pO _ _)) ?_
  refine rg_nil ⟨by kernel_rfl, ?_⟩
  refine ht_cond rfl (fun e30 => ?_) (fun e30 => ?_)
  ·replace h := cpos e30 h
   refine sr ?_
   refine sM 4 (bV false) rfl rfl ?_
   refine sq_nil ?_
   refine ht_ret ?_
   cases h
   cases r6 _ rfl
   exact ret1 rfl (.tmp rfl)
  replace h := cneg e30 h
  refine ht_skip ?_
  refine ht_region ?_
  refine sM 15 (iV t5) rfl rfl ?_
  refine sT 16 (iV (IntKind.wrap .i64 (t5 + 1))) rfl (v_bin rfl · · · rfl rfl (b_add rfl)) ?_
  refine sM 5 (iV (IntKind.wrap .i64 (t5 + 1))) rfl rfl ?_
  refine sq_nil ?_
  exact j8 _ _ h (wk_ren _ (fun i => i) rfl ⟨rfl, rfl, rfl, trivial⟩)
 replace h := cneg e10 h
 refine ht_exit ?_
 refine tq ?_
 refine tq ?_
 refine bq_hit ?_
 cases h
 exact j5 _ _ rfl (wk_ren _ (fun i => i) rfl trivial)
end Go.Proofs.Gd
