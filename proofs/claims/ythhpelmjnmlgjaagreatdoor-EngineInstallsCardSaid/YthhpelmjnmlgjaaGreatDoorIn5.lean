/- Lemmas behind GdInP, part 5: they hold as they stand, without a condition beyond their own. -/
import Derived.Test.YthhpelmjnmlgjaaGreatDoorIn4
import Derived.Test.YthhpelmjnmlgjaaGreatDoorProg
import Derived.KernelRfl
set_option linter.unusedVariables false
set_option maxRecDepth 100000
set_option maxHeartbeats 4000000
namespace Go.Proofs.Gd
open Go Go.Awp Go.Proofs
theorem s87 (k : Nat) (t0 : List Done) (r : Bool) (h : F87 k t0 = some r) : Awp.Spec Tryz.prog amb 87 [(.sl 11 (t0.map eDone))] (.ds [(.s (.bool r))]) := by
 rw [F87] at h
 refine spec_of Tryz.func87 rfl (ble _ _ rfl) fun w0 ok0 lt0 hA => ?_
 refine sr ?_
 refine sM 2 (bV false) rfl rfl ?_
 refine sq_nil ?_
 refine ht_seq ?_
 refine sr ?_
 refine sM 4 (.d (.sl 11 (t0.map eDone))) rfl rfl ?_
 refine sT 5 (iV (t0.length : Int)) rfl (w_len t0 eDone rfl rfl · · · slT43 rfl) ?_
 refine sT 6 (bV (ltI 8 (t0.length : Int))) rfl (v_bin rfl · · · rfl rfl (b_gtr rfl)) ?_
 refine sq_nil ?_
 refine ht_cond rfl (fun e1 => ?_) (fun e1 => ?_)
 ·replace h := cpos e1 h
  refine sr ?_
  refine sM 2 (bV false) rfl rfl ?_
  refine sq_nil ?_
  refine ht_ret ?_
  cases h
  exact ret1 rfl (.tmp rfl)
 replace h := cneg e1 h
 refine ht_skip ?_
 refine ht_gj (go_id' h) (fun _ => tell []) (fun _ h => ?_) (fun v2 K3 h j5 r6 => ?_)
 ·refine sr ?_
  refine sM 2 (bV true) rfl rfl ?_
  refine sq_nil ?_
  refine ht_ret ?_
  cases h
  exact ret1 rfl (.tmp rfl)
 refine sr ?_
 refine sM 3 (iV 0) rfl rfl ?_
 refine sq_nil ?_
 refine ht_block ?_
 refine ht_rd h (fun _ => rfl) (fun t3 => tell [(.t 0, .d (.sl 11 (t0.map eDone))), (.t 3, iV t3)]) (wk_ren _ (fun i => i) rfl ⟨rfl, rfl, trivial⟩) fun k t3 h K53 j8 => ?_
 rw [F87_l1] at h
 refine ht_seq ?_
 refine sr ?_
 refine sM 7 (iV t3) rfl rfl ?_
 refine sM 8 (.d (.sl 11 (t0.map eDone))) rfl rfl ?_
 refine sT 9 (iV (t0.length : Int)) rfl (w_len t0 eDone rfl rfl · · · slT43 rfl) ?_
 refine sT 10 (bV (ltI t3 (t0.length : Int))) rfl (v_bin rfl · · · rfl rfl (b_lss rfl)) ?_
 refine sq_nil ?_
 refine ht_cond rfl (fun e10 => ?_) (fun e10 => ?_)
 ·replace h := cpos e10 h
  refine ht_skip ?_
  refine ht_seq ?_
  refine ht_block ?_
  refine ht_seq ?_
  refine sr ?_
  refine sM 13 (.d (.sl 11 (t0.map eDone))) rfl rfl ?_
  refine sM 14 (iV t3) rfl rfl ?_
  obtain ⟨e11, h⟩ := gpos h
  refine sT 15 (.d (.dp (eDone (rd t0 t3)))) rfl (w_idx t0 eDone rfl · · · slT43 rfl rfl e11) ?_
  refine sT 16 (.d (.dp (eDone (rd t0 t3)))) rfl (v_field_dp (a0 := 0) (cs := (eDone (rd t0 t3))) rfl · · · fo100_0 rfl) ?_
  refine sT 17 (iV (rd t0 t3).mClient) rfl (v_load_dp1 rfl · · · onT3 rfl rfl) ?_
  obtain ⟨t18, c12, h⟩ := bpos h
  refine sT 18 (bV t18) rfl (w_call (ds := [(.s (.int .i64 (rd t0 t3).mClient))]) (caps := []) (l := [(.s (.bool t18))]) (s140 k (rd t0 t3).mClient _ c12) rfl rfl rfl en140 · · · (.inl ⟨rfl, rfl⟩) rfl rfl) ?_
  refine sT 19 (bV (!t18)) rfl (v_un rfl · · · rfl (u_not rfl)) ?_
  refine sM 20 (bV (!t18)) rfl rfl ?_
  refine sF 21 (.d (.sl 11 (t0.map eDone))) rfl rfl (fun e13 => (v_move (.inl rfl) · · · rfl)) ?_
  refine sF 22 (iV t3) rfl rfl (fun e14 => (v_move (.inl rfl) · · · rfl)) ?_
  obtain ⟨e16, h⟩ := gpos h
  refine sF 23 (.d (.dp (eDone (rd t0 t3)))) rfl rfl (fun e15 => (w_idx t0 eDone rfl · · · slT43 (gv (nF e15)) (gv (nF e15)) (orT e16 (nF e15)))) ?_
  refine sF 24 (.d (.dp (List.drop 1 (eDone (rd t0 t3))))) rfl rfl (fun e17 => (v_field_dp (a0 := 1) (cs := (eDone (rd t0 t3))) rfl · · · fo100_1 (gv (nF e17)))) ?_
  refine sF 25 (iV (rd t0 t3).mReq) rfl rfl (fun e18 => (v_load_dp1 rfl · · · onT3 (gv (nF e18)) rfl)) ?_
  obtain ⟨t26, c20, h⟩ := bpos h
  refine sF 26 (bV t26) rfl rfl (fun e19 => (w_call (ds := [(.s (.int .i64 (rd t0 t3).mReq))]) (caps := []) (l := [(.s (.bool t26))]) (s140 k (rd t0 t3).mReq _ (cpos (nF e19) c20)) rfl rfl rfl en140 · · · (.inl ⟨rfl, rfl⟩) (cc (gv (nF e19)) rfl) rfl)) ?_
  refine sF 27 (bV (!t26)) rfl rfl (fun e21 => (v_un rfl · · · (gv (nF e21)) (u_not rfl))) ?_
  refine sT 28 (bV ((!t18) || (!t26))) rfl (v_pickB rfl · · · rfl (fun e22 => rfl) (fun e23 => (gv (nF e23))) (pO _ _)) ?_
  refine sM 29 (bV ((!t18) || (!t26))) rfl rfl ?_
  refine sF 30 (.d (.sl 11 (t0.map eDone))) rfl rfl (fun e24 => (v_move (.inl rfl) · · · rfl)) ?_
  refine sF 31 (iV t3) rfl rfl (fun e25 => (v_move (.inl rfl) · · · rfl)) ?_
  obtain ⟨e27, h⟩ := gpos h
  refine sF 32 (.d (.dp (eDone (rd t0 t3)))) rfl rfl (fun e26 => (w_idx t0 eDone rfl · · · slT43 (gv (nF e26)) (gv (nF e26)) (orT e27 (nF e26)))) ?_
  refine sF 33 (.d (.dp (List.drop 2 (eDone (rd t0 t3))))) rfl rfl (fun e28 => (v_field_dp (a0 := 2) (cs := (eDone (rd t0 t3))) rfl · · · fo100_2 (gv (nF e28)))) ?_
  refine sF 34 (.d (.agg (eAnswer (rd t0 t3).mAnswer))) rfl rfl (fun e29 => (w_ldp (List.drop 2 (eDone (rd t0 t3))) (eAnswer (rd t0 t3).mAnswer) rfl · · · ag34 (gv (nF e29)) (ble _ _ rfl) rfl)) ?_
  obtain ⟨t35, c31, h⟩ := bpos h
  refine sF 35 (bV t35) rfl rfl (fun e30 => (w_call (ds := [(.agg (eAnswer (rd t0 t3).mAnswer))]) (caps := []) (l := [(.s (.bool t35))]) (s141 k (rd t0 t3).mAnswer _ (cpos (nF e30) c31)) rfl rfl rfl en141 · · · (.inl ⟨rfl, rfl⟩) (cc (gv (nF e30)) rfl) rfl)) ?_
  refine sF 36 (bV (!t35)) rfl rfl (fun e32 => (v_un rfl · · · (gv (nF e32)) (u_not rfl))) ?_
  refine sT 37 (bV (((!t18) || (!t26)) || (!t35))) rfl (v_pickB rfl · · · rfl (fun e33 => rfl) (fun e34 => (gv (nF e34))) (pO _ _)) ?_
  refine sq_nil ?_
  refine ht_cond rfl (fun e35 => ?_) (fun e35 => ?_)
  ·replace h := cpos e35 h
   refine sr ?_
   refine sM 2 (bV false) rfl rfl ?_
   refine sq_nil ?_
   refine ht_ret ?_
   cases h
   cases r6 _ rfl
   exact ret1 rfl (.tmp rfl)
  replace h := cneg e35 h
  refine ht_skip ?_
  refine ht_seq ?_
  refine ht_region_draw mixed ?_
  refine rM 38 (iV t3) rfl rfl ?_
  refine rT 39 (bV (ltI 0 t3)) rfl (v_bin rfl · · · rfl rfl (b_gtr rfl)) ?_
  refine rM 40 (bV (ltI 0 t3)) rfl rfl ?_
  refine rG 41 (.d (.sl 11 (t0.map eDone))) rfl rfl (fun e36 => (v_move (.inl rfl) · · · rfl)) ?_
  refine rG 42 (iV t3) rfl rfl (fun e37 => (v_move (.inl rfl) · · · rfl)) ?_
  refine rG 43 (iV (IntKind.wrap .i64 (t3 - 1))) rfl rfl (fun e38 => (v_bin rfl · · · (gv e38) rfl (b_sub rfl))) ?_
  obtain ⟨e40, h⟩ := gpos h
  refine rG 44 (.d (.dp (eDone (rd t0 (IntKind.wrap .i64 (t3 - 1)))))) rfl rfl (fun e39 => (w_idx t0 eDone rfl · · · slT43 (gv e39) (gv e39) (orT e40 e39))) ?_
  refine rG 45 (.d (.dp (eDone (rd t0 (IntKind.wrap .i64 (t3 - 1)))))) rfl rfl (fun e41 => (v_field_dp (a0 := 0) (cs := (eDone (rd t0 (IntKind.wrap .i64 (t3 - 1))))) rfl · · · fo100_0 (gv e41))) ?_
  refine rG 46 (iV (rd t0 (IntKind.wrap .i64 (t3 - 1))).mClient) rfl rfl (fun e42 => (v_load_dp1 rfl · · · onT3 (gv e42) rfl)) ?_
  refine rG 47 (.d (.sl 11 (t0.map eDone))) rfl rfl (fun e43 => (v_move (.inl rfl) · · · rfl)) ?_
  refine rG 48 (iV t3) rfl rfl (fun e44 => (v_move (.inl rfl) · · · rfl)) ?_
  obtain ⟨e46, h⟩ := gpos h
  refine rG 49 (.d (.dp (eDone (rd t0 t3)))) rfl rfl (fun e45 => (w_idx t0 eDone rfl · · · slT43 (gv e45) (gv e45) (orT e46 e45))) ?_
  refine rG 50 (.d (.dp (eDone (rd t0 t3)))) rfl rfl (fun e47 => (v_field_dp (a0 := 0) (cs := (eDone (rd t0 t3))) rfl · · · fo100_0 (gv e47))) ?_
  refine rG 51 (iV (rd t0 t3).mClient) rfl rfl (fun e48 => (v_load_dp1 rfl · · · onT3 (gv e48) rfl)) ?_
  refine rG 52 (bV (leI (rd t0 t3).mClient (rd t0 (IntKind.wrap .i64 (t3 - 1))).mClient)) rfl rfl (fun e49 => (v_bin rfl · · · (gv e49) (gv e49) (b_geq rfl))) ?_
  refine rT 53 (bV ((ltI 0 t3) && (leI (rd t0 t3).mClient (rd t0 (IntKind.wrap .i64 (t3 - 1))).mClient))) rfl (v_pickB rfl · · · rfl (fun e50 => (gv e50)) (fun e51 => rfl) (pA _ _)) ?_
  refine rg_nil ⟨by kernel_rfl, ?_⟩
  refine ht_cond rfl (fun e52 => ?_) (fun e52 => ?_)
  ·replace h := cpos e52 h
   refine sr ?_
   refine sM 2 (bV false) rfl rfl ?_
   refine sq_nil ?_
   refine ht_ret ?_
   cases h
   cases r6 _ rfl
   exact ret1 rfl (.tmp rfl)
  replace h := cneg e52 h
  refine ht_skip ?_
  refine ht_region ?_
  refine sM 11 (iV t3) rfl rfl ?_
  refine sT 12 (iV (IntKind.wrap .i64 (t3 + 1))) rfl (v_bin rfl · · · rfl rfl (b_add rfl)) ?_
  refine sM 3 (iV (IntKind.wrap .i64 (t3 + 1))) rfl rfl ?_
  refine sq_nil ?_
  exact j8 _ _ h (wk_ren _ (fun i => i) rfl ⟨rfl, rfl, trivial⟩)
 replace h := cneg e10 h
 refine ht_exit ?_
 refine tq ?_
 refine tq ?_
 refine bq_hit ?_
 cases h
 exact j5 _ _ rfl (wk_ren _ (fun i => i) rfl trivial)
theorem s55 (k : Nat) (t0 : ByteArray) (t1 : ByteArray) (t2 : ByteArray) (r : Bool) (h : F55 k t0 t1 t2 = some r) : Awp.Spec Tryz.prog amb 55 [(.s (.string t0)), (.s (.string t1)), (.s (.string t2))] (.ds [(.s (.bool r))]) := by
 rw [F55] at h
 refine spec_of Tryz.func55 rfl (ble _ _ rfl) fun w0 ok0 lt0 hA => ?_
 refine sr ?_
 refine sM 6 (bV false) rfl rfl ?_
 refine sq_nil ?_
 refine sr ?_
 refine sM 7 (sV t0) rfl rfl ?_
 refine sM 8 (sV t1) rfl rfl ?_
 obtain ⟨t9, c1, h⟩ := bpos h
 refine sT 9 (iV t9) rfl (w_call (ds := [(.s (.string t0)), (.s (.string t1))]) (caps := []) (l := [(.s (.int .i64 t9))]) (s119 k t0 t1 _ c1) rfl rfl rfl en119 · · · (.inl ⟨rfl, rfl⟩) rfl rfl) ?_
 refine sT 10 (bV (leI 0 t9)) rfl (v_bin rfl · · · rfl rfl (b_geq rfl)) ?_
 refine sM 11 (bV (leI 0 t9)) rfl rfl ?_
 refine sG 12 (sV t2) rfl rfl (fun e2 => (v_move (.inl rfl) · · · rfl)) ?_
 refine sG 13 (iV (t2.size : Int)) rfl rfl (fun e3 => (v_len_str rfl rfl · · · und9 (gv e3))) ?_
 refine sG 14 (bV (eqI (t2.size : Int) 0)) rfl rfl (fun e4 => (v_bin rfl · · · (gv e4) rfl (b_eql rfl))) ?_
 refine sG 15 (bV (eqI (t2.size : Int) 0)) rfl rfl (fun e5 => (v_move (.inl rfl) · · · (gv e5))) ?_
 refine sH 16 (sV t0) rfl rfl (fun e6 e7 => (v_move (.inl rfl) · · · rfl)) ?_
 refine sH 17 (sV t2) rfl rfl (fun e8 e9 => (v_move (.inl rfl) · · · rfl)) ?_
 obtain ⟨t18, c12, h⟩ := bpos h
 refine sH 18 (iV t18) rfl rfl (fun e10 e11 => (w_call (ds := [(.s (.string t0)), (.s (.string t2))]) (caps := []) (l := [(.s (.int .i64 t18))]) (s119 k t0 t2 _ (cpos (aT e10 (nF e11)) c12)) rfl rfl rfl en119 · · · (.inl ⟨rfl, rfl⟩) (cc (gv (aT e10 (nF e11))) (cc (gv (aT e10 (nF e11))) rfl)) rfl)) ?_
 refine sH 19 (bV (ltI t18 0)) rfl rfl (fun e13 e14 => (v_bin rfl · · · (gv (aT e13 (nF e14))) rfl (b_lss rfl))) ?_
 refine sG 20 (bV ((eqI (t2.size : Int) 0) || (ltI t18 0))) rfl rfl (fun e15 => (v_pickB rfl · · · (gv e15) (fun e16 => rfl) (fun e17 => (gv (aT e15 (nF e17)))) (pO _ _))) ?_
 refine sT 21 (bV ((leI 0 t9) && ((eqI (t2.size : Int) 0) || (ltI t18 0)))) rfl (v_pickB rfl · · · rfl (fun e18 => (gv e18)) (fun e19 => rfl) (pA _ _)) ?_
 refine sM 6 (bV ((leI 0 t9) && ((eqI (t2.size : Int) 0) || (ltI t18 0)))) rfl rfl ?_
 refine sq_nil ?_
 refine ht_ret ?_
 cases h
 exact ret1 rfl (.tmp rfl)
theorem s88 (k : Nat) (t0 : Span) (t1 : ByteArray) (r : Bool) (h : F88 k t0 t1 = some r) : Awp.Spec Tryz.prog amb 88 [(.agg (eSpan t0)), (.s (.string t1))] (.ds [(.s (.bool r))]) := by
 rw [F88] at h
 refine spec_of Tryz.func88 rfl (ble _ _ rfl) fun w0 ok0 lt0 hA => ?_
 refine sr ?_
 refine sT 2 (.d (.dp (eSpan t0))) rfl (v_box_d (cs := (eSpan t0)) rfl · · · rfl rfl (ones_of rfl)) ?_
 refine sM 4 (bV false) rfl rfl ?_
 refine sq_nil ?_
 refine sr ?_
 refine sT 5 (.d (.agg (eSpan t0))) rfl (w_ldp (eSpan t0) (eSpan t0) rfl · · · ag41 rfl (ble _ _ rfl) rfl) ?_
 obtain ⟨t6, c1, h⟩ := bpos h
 refine sT 6 (bV t6) rfl (w_call (ds := [(.agg (eSpan t0))]) (caps := []) (l := [(.s (.bool t6))]) (s85 k t0 _ c1) rfl rfl rfl en85 · · · (.inl ⟨rfl, rfl⟩) rfl rfl) ?_
 refine sM 7 (bV t6) rfl rfl ?_
 refine sG 8 (sV t1) rfl rfl (fun e2 => (v_move (.inl rfl) · · · rfl)) ?_
 obtain ⟨t9, c4, h⟩ := bpos h
 refine sG 9 (bV t9) rfl rfl (fun e3 => (w_call (ds := [(.s (.string t1))]) (caps := []) (l := [(.s (.bool t9))]) (s130 k t1 _ (cpos e3 c4)) rfl rfl rfl en130 · · · (.inl ⟨rfl, rfl⟩) (cc (gv e3) rfl) rfl)) ?_
 refine sT 10 (bV (t6 && t9)) rfl (v_pickB rfl · · · rfl (fun e5 => (gv e5)) (fun e6 => rfl) (pA _ _)) ?_
 refine sM 11 (bV (t6 && t9)) rfl rfl ?_
 refine sG 12 (sV t1) rfl rfl (fun e7 => (v_move (.inl rfl) · · · rfl)) ?_
 refine sG 13 (.d (.dp (eSpan t0))) rfl rfl (fun e8 => (v_field_dp (a0 := 0) (cs := (eSpan t0)) rfl · · · fo41_0 rfl)) ?_
 refine sG 14 (sV t0.mLo) rfl rfl (fun e9 => (v_load_dp1 rfl · · · onT9 (gv e9) rfl)) ?_
 refine sG 15 (.d (.dp (List.drop 1 (eSpan t0)))) rfl rfl (fun e10 => (v_field_dp (a0 := 1) (cs := (eSpan t0)) rfl · · · fo41_1 rfl)) ?_
 refine sG 16 (sV t0.mHi) rfl rfl (fun e11 => (v_load_dp1 rfl · · · onT9 (gv e11) rfl)) ?_
 obtain ⟨t17, c13, h⟩ := bpos h
 refine sG 17 (bV t17) rfl rfl (fun e12 => (w_call (ds := [(.s (.string t1)), (.s (.string t0.mLo)), (.s (.string t0.mHi))]) (caps := []) (l := [(.s (.bool t17))]) (s55 k t1 t0.mLo t0.mHi _ (cpos e12 c13)) rfl rfl rfl en55 · · · (.inl ⟨rfl, rfl⟩) (cc (gv e12) (cc (gv e12) (cc (gv e12) rfl))) rfl)) ?_
 refine sT 18 (bV ((t6 && t9) && t17)) rfl (v_pickB rfl · · · rfl (fun e14 => (gv e14)) (fun e15 => rfl) (pA _ _)) ?_
 refine sM 4 (bV ((t6 && t9) && t17)) rfl rfl ?_
 refine sq_nil ?_
 refine ht_ret ?_
 cases h
 exact ret1 rfl (.tmp rfl)
theorem s21 (k : Nat) (t0 : Shard) (r : Bool) (h : F21 k t0 = some r) : Awp.Spec Tryz.prog amb 21 [(.agg (eShard t0))] (.ds [(.s (.bool r))]) := by
 rw [F21] at h
 refine spec_of Tryz.func21 rfl (ble _ _ rfl) fun w0 ok0 lt0 hA => ?_
 refine sr ?_
 refine sT 1 (.d (.dp (eShard t0))) rfl (v_box_d (cs := (eShard t0)) rfl · · · rfl rfl (ones_of rfl)) ?_
 refine sM 2 (bV false) rfl rfl ?_
 refine sq_nil ?_
 refine ht_seq ?_
 refine sr ?_
 refine sT 4 (.d (.dp (eShard t0))) rfl (v_field_dp (a0 := 0) (cs := (eShard t0)) rfl · · · fo45_0 rfl) ?_
 refine sT 5 (iV t0.mID) rfl (v_load_dp1 rfl · · · onT3 rfl rfl) ?_
 obtain ⟨t6, c1, h⟩ := bpos h
 refine sT 6 (bV t6) rfl (w_call (ds := [(.s (.int .i64 t0.mID))]) (caps := []) (l := [(.s (.bool t6))]) (s66 k t0.mID _ c1) rfl rfl rfl en66 · · · (.inl ⟨rfl, rfl⟩) rfl rfl) ?_
 refine sT 7 (bV (!t6)) rfl (v_un rfl · · · rfl (u_not rfl)) ?_
 refine sM 8 (bV (!t6)) rfl rfl ?_
 refine sF 9 (.d (.dp (List.drop 1 (eShard t0)))) rfl rfl (fun e2 => (v_field_dp (a0 := 1) (cs := (eShard t0)) rfl · · · fo45_1 rfl)) ?_
 refine sF 10 (iV t0.mEpoch) rfl rfl (fun e3 => (v_load_dp1 rfl · · · onT3 (gv (nF e3)) rfl)) ?_
 obtain ⟨t11, c5, h⟩ := bpos h
 refine sF 11 (bV t11) rfl rfl (fun e4 => (w_call (ds := [(.s (.int .i64 t0.mEpoch))]) (caps := []) (l := [(.s (.bool t11))]) (s66 k t0.mEpoch _ (cpos (nF e4) c5)) rfl rfl rfl en66 · · · (.inl ⟨rfl, rfl⟩) (cc (gv (nF e4)) rfl) rfl)) ?_
 refine sF 12 (bV (!t11)) rfl rfl (fun e6 => (v_un rfl · · · (gv (nF e6)) (u_not rfl))) ?_
 refine sT 13 (bV ((!t6) || (!t11))) rfl (v_pickB rfl · · · rfl (fun e7 => rfl) (fun e8 => (gv (nF e8))) (pO _ _)) ?_
 refine sM 14 (bV ((!t6) || (!t11))) rfl rfl ?_
 refine sF 15 (.d (.dp (List.drop 13 (eShard t0)))) rfl rfl (fun e9 => (v_field_dp (a0 := 13) (cs := (eShard t0)) rfl · · · fo45_8 rfl)) ?_
 refine sF 16 (iV t0.mHold) rfl rfl (fun e10 => (v_load_dp1 rfl · · · onT3 (gv (nF e10)) rfl)) ?_
 obtain ⟨t17, c12, h⟩ := bpos h
 refine sF 17 (bV t17) rfl rfl (fun e11 => (w_call (ds := [(.s (.int .i64 t0.mHold))]) (caps := []) (l := [(.s (.bool t17))]) (s67 k t0.mHold _ (cpos (nF e11) c12)) rfl rfl rfl en67 · · · (.inl ⟨rfl, rfl⟩) (cc (gv (nF e11)) rfl) rfl)) ?_
 refine sF 18 (bV (!t17)) rfl rfl (fun e13 => (v_un rfl · · · (gv (nF e13)) (u_not rfl))) ?_
 refine sT 19 (bV (((!t6) || (!t11)) || (!t17))) rfl (v_pickB rfl · · · rfl (fun e14 => rfl) (fun e15 => (gv (nF e15))) (pO _ _)) ?_
 refine sM 20 (bV (((!t6) || (!t11)) || (!t17))) rfl rfl ?_
 refine sF 21 (.d (.dp (List.drop 14 (eShard t0)))) rfl rfl (fun e16 => (v_field_dp (a0 := 14) (cs := (eShard t0)) rfl · · · fo45_9 rfl)) ?_
 refine sF 22 (iV t0.mSeen) rfl rfl (fun e17 => (v_load_dp1 rfl · · · onT3 (gv (nF e17)) rfl)) ?_
 obtain ⟨t23, c19, h⟩ := bpos h
 refine sF 23 (bV t23) rfl rfl (fun e18 => (w_call (ds := [(.s (.int .i64 t0.mSeen))]) (caps := []) (l := [(.s (.bool t23))]) (s67 k t0.mSeen _ (cpos (nF e18) c19)) rfl rfl rfl en67 · · · (.inl ⟨rfl, rfl⟩) (cc (gv (nF e18)) rfl) rfl)) ?_
 refine sF 24 (bV (!t23)) rfl rfl (fun e20 => (v_un rfl · · · (gv (nF e20)) (u_not rfl))) ?_
 refine sT 25 (bV ((((!t6) || (!t11)) || (!t17)) || (!t23))) rfl (v_pickB rfl · · · rfl (fun e21 => rfl) (fun e22 => (gv (nF e22))) (pO _ _)) ?_
 refine sM 26 (bV ((((!t6) || (!t11)) || (!t17)) || (!t23))) rfl rfl ?_
 refine sF 27 (.d (.dp (List.drop 15 (eShard t0)))) rfl rfl (fun e23 => (v_field_dp (a0 := 15) (cs := (eShard t0)) rfl · · · fo45_10 rfl)) ?_
 refine sF 28 (iV t0.mMove) rfl rfl (fun e24 => (v_load_dp1 rfl · · · onT3 (gv (nF e24)) rfl)) ?_
 obtain ⟨t29, c26, h⟩ := bpos h
 refine sF 29 (bV t29) rfl rfl (fun e25 => (w_call (ds := [(.s (.int .i64 t0.mMove))]) (caps := []) (l := [(.s (.bool t29))]) (s67 k t0.mMove _ (cpos (nF e25) c26)) rfl rfl rfl en67 · · · (.inl ⟨rfl, rfl⟩) (cc (gv (nF e25)) rfl) rfl)) ?_
 refine sF 30 (bV (!t29)) rfl rfl (fun e27 => (v_un rfl · · · (gv (nF e27)) (u_not rfl))) ?_
 refine sT 31 (bV (((((!t6) || (!t11)) || (!t17)) || (!t23)) || (!t29))) rfl (v_pickB rfl · · · rfl (fun e28 => rfl) (fun e29 => (gv (nF e29))) (pO _ _)) ?_
 refine sM 32 (bV (((((!t6) || (!t11)) || (!t17)) || (!t23)) || (!t29))) rfl rfl ?_
 refine sF 33 (.d (.dp (List.drop 16 (eShard t0)))) rfl rfl (fun e30 => (v_field_dp (a0 := 16) (cs := (eShard t0)) rfl · · · fo45_11 rfl)) ?_
 refine sF 34 (iV t0.mClosed) rfl rfl (fun e31 => (v_load_dp1 rfl · · · onT3 (gv (nF e31)) rfl)) ?_
 obtain ⟨t35, c33, h⟩ := bpos h
 refine sF 35 (bV t35) rfl rfl (fun e32 => (w_call (ds := [(.s (.int .i64 t0.mClosed))]) (caps := []) (l := [(.s (.bool t35))]) (s67 k t0.mClosed _ (cpos (nF e32) c33)) rfl rfl rfl en67 · · · (.inl ⟨rfl, rfl⟩) (cc (gv (nF e32)) rfl) rfl)) ?_
 refine sF 36 (bV (!t35)) rfl rfl (fun e34 => (v_un rfl · · · (gv (nF e34)) (u_not rfl))) ?_
 refine sT 37 (bV ((((((!t6) || (!t11)) || (!t17)) || (!t23)) || (!t29)) || (!t35))) rfl (v_pickB rfl · · · rfl (fun e35 => rfl) (fun e36 => (gv (nF e36))) (pO _ _)) ?_
 refine sq_nil ?_
 refine ht_cond rfl (fun e37 => ?_) (fun e37 => ?_)
 ·replace h := cpos e37 h
  refine sr ?_
  refine sM 2 (bV false) rfl rfl ?_
  refine sq_nil ?_
  refine ht_ret ?_
  cases h
  exact ret1 rfl (.tmp rfl)
 replace h := cneg e37 h
 refine ht_skip ?_
 refine ht_seq ?_
 refine sr ?_
 refine sT 38 (.d (.dp (List.drop 4 (eShard t0)))) rfl (v_field_dp (a0 := 4) (cs := (eShard t0)) rfl · · · fo45_3 rfl) ?_
 refine sT 39 (iV t0.mPhase) rfl (v_load_dp1 rfl · · · onT3 rfl rfl) ?_
 refine sT 40 (bV (!eqI t0.mPhase 1)) rfl (v_bin rfl · · · rfl rfl (b_neq rfl)) ?_
 refine sM 41 (bV (!eqI t0.mPhase 1)) rfl rfl ?_
 refine sG 42 (.d (.dp (List.drop 4 (eShard t0)))) rfl rfl (fun e38 => (v_field_dp (a0 := 4) (cs := (eShard t0)) rfl · · · fo45_3 rfl)) ?_
 refine sG 43 (iV t0.mPhase) rfl rfl (fun e39 => (v_load_dp1 rfl · · · onT3 (gv e39) rfl)) ?_
 refine sG 44 (bV (!eqI t0.mPhase 2)) rfl rfl (fun e40 => (v_bin rfl · · · (gv e40) rfl (b_neq rfl))) ?_
 refine sT 45 (bV ((!eqI t0.mPhase 1) && (!eqI t0.mPhase 2))) rfl (v_pickB rfl · · · rfl (fun e41 => (gv e41)) (fun e42 => rfl) (pA _ _)) ?_
 refine sM 46 (bV ((!eqI t0.mPhase 1) && (!eqI t0.mPhase 2))) rfl rfl ?_
 refine sG 47 (.d (.dp (List.drop 4 (eShard t0)))) rfl rfl (fun e43 => (v_field_dp (a0 := 4) (cs := (eShard t0)) rfl · · · fo45_3 rfl)) ?_
 refine sG 48 (iV t0.mPhase) rfl rfl (fun e44 => (v_load_dp1 rfl · · · onT3 (gv e44) rfl)) ?_
 refine sG 49 (bV (!eqI t0.mPhase 3)) rfl rfl (fun e45 => (v_bin rfl · · · (gv e45) rfl (b_neq rfl))) ?_
 refine sT 50 (bV (((!eqI t0.mPhase 1) && (!eqI t0.mPhase 2)) && (!eqI t0.mPhase 3))) rfl (v_pickB rfl · · · rfl (fun e46 => (gv e46)) (fun e47 => rfl) (pA _ _)) ?_
 refine sM 51 (bV (((!eqI t0.mPhase 1) && (!eqI t0.mPhase 2)) && (!eqI t0.mPhase 3))) rfl rfl ?_
 refine sF 52 (.d (.dp (List.drop 2 (eShard t0)))) rfl rfl (fun e48 => (v_field_dp (a0 := 2) (cs := (eShard t0)) rfl · · · fo45_2 rfl)) ?_
 refine sF 53 (.d (.agg (eSpan t0.mSpan))) rfl rfl (fun e49 => (w_ldp (List.drop 2 (eShard t0)) (eSpan t0.mSpan) rfl · · · ag41 (gv (nF e49)) (ble _ _ rfl) rfl)) ?_
 obtain ⟨t54, c51, h⟩ := bpos h
 refine sF 54 (bV t54) rfl rfl (fun e50 => (w_call (ds := [(.agg (eSpan t0.mSpan))]) (caps := []) (l := [(.s (.bool t54))]) (s85 k t0.mSpan _ (cpos (nF e50) c51)) rfl rfl rfl en85 · · · (.inl ⟨rfl, rfl⟩) (cc (gv (nF e50)) rfl) rfl)) ?_
 refine sF 55 (bV (!t54)) rfl rfl (fun e52 => (v_un rfl · · · (gv (nF e52)) (u_not rfl))) ?_
 refine sT 56 (bV ((((!eqI t0.mPhase 1) && (!eqI t0.mPhase 2)) && (!eqI t0.mPhase 3)) || (!t54))) rfl (v_pickB rfl · · · rfl (fun e53 => rfl) (fun e54 => (gv (nF e54))) (pO _ _)) ?_
 refine sM 57 (bV ((((!eqI t0.mPhase 1) && (!eqI t0.mPhase 2)) && (!eqI t0.mPhase 3)) || (!t54))) rfl rfl ?_
 refine sF 58 (.d (.dp (List.drop 5 (eShard t0)))) rfl rfl (fun e55 => (v_field_dp (a0 := 5) (cs := (eShard t0)) rfl · · · fo45_4 rfl)) ?_
 refine sF 59 (.d (.sl 2 (t0.mEntries.map eEntry))) rfl rfl (fun e56 => (v_load_dp1 rfl · · · onT42 (gv (nF e56)) rfl)) ?_
 obtain ⟨t60, c58, h⟩ := bpos h
 refine sF 60 (bV t60) rfl rfl (fun e57 => (w_call (ds := [(.sl 2 (t0.mEntries.map eEntry))]) (caps := []) (l := [(.s (.bool t60))]) (s86 k t0.mEntries _ (cpos (nF e57) c58)) rfl rfl rfl en86 · · · (.inl ⟨rfl, rfl⟩) (cc (gv (nF e57)) rfl) rfl)) ?_
 refine sF 61 (bV (!t60)) rfl rfl (fun e59 => (v_un rfl · · · (gv (nF e59)) (u_not rfl))) ?_
 refine sT 62 (bV (((((!eqI t0.mPhase 1) && (!eqI t0.mPhase 2)) && (!eqI t0.mPhase 3)) || (!t54)) || (!t60))) rfl (v_pickB rfl · · · rfl (fun e60 => rfl) (fun e61 => (gv (nF e61))) (pO _ _)) ?_
 refine sM 63 (bV (((((!eqI t0.mPhase 1) && (!eqI t0.mPhase 2)) && (!eqI t0.mPhase 3)) || (!t54)) || (!t60))) rfl rfl ?_
 refine sF 64 (.d (.dp (List.drop 6 (eShard t0)))) rfl rfl (fun e62 => (v_field_dp (a0 := 6) (cs := (eShard t0)) rfl · · · fo45_5 rfl)) ?_
 refine sF 65 (.d (.agg (eStamp t0.mMark))) rfl rfl (fun e63 => (w_ldp (List.drop 6 (eShard t0)) (eStamp t0.mMark) rfl · · · ag24 (gv (nF e63)) (ble _ _ rfl) rfl)) ?_
 obtain ⟨t66, c65, h⟩ := bpos h
 refine sF 66 (bV t66) rfl rfl (fun e64 => (w_call (ds := [(.agg (eStamp t0.mMark))]) (caps := []) (l := [(.s (.bool t66))]) (s68 k t0.mMark _ (cpos (nF e64) c65)) rfl rfl rfl en68 · · · (.inl ⟨rfl, rfl⟩) (cc (gv (nF e64)) rfl) rfl)) ?_
 refine sF 67 (bV (!t66)) rfl rfl (fun e66 => (v_un rfl · · · (gv (nF e66)) (u_not rfl))) ?_
 refine sT 68 (bV ((((((!eqI t0.mPhase 1) && (!eqI t0.mPhase 2)) && (!eqI t0.mPhase 3)) || (!t54)) || (!t60)) || (!t66))) rfl (v_pickB rfl · · · rfl (fun e67 => rfl) (fun e68 => (gv (nF e68))) (pO _ _)) ?_
 refine sM 69 (bV ((((((!eqI t0.mPhase 1) && (!eqI t0.mPhase 2)) && (!eqI t0.mPhase 3)) || (!t54)) || (!t60)) || (!t66))) rfl rfl ?_
 refine sF 70 (.d (.dp (List.drop 9 (eShard t0)))) rfl rfl (fun e69 => (v_field_dp (a0 := 9) (cs := (eShard t0)) rfl · · · fo45_6 rfl)) ?_
 refine sF 71 (.d (.agg (eStamp t0.mTop))) rfl rfl (fun e70 => (w_ldp (List.drop 9 (eShard t0)) (eStamp t0.mTop) rfl · · · ag24 (gv (nF e70)) (ble _ _ rfl) rfl)) ?_
 obtain ⟨t72, c72, h⟩ := bpos h
 refine sF 72 (bV t72) rfl rfl (fun e71 => (w_call (ds := [(.agg (eStamp t0.mTop))]) (caps := []) (l := [(.s (.bool t72))]) (s68 k t0.mTop _ (cpos (nF e71) c72)) rfl rfl rfl en68 · · · (.inl ⟨rfl, rfl⟩) (cc (gv (nF e71)) rfl) rfl)) ?_
 refine sF 73 (bV (!t72)) rfl rfl (fun e73 => (v_un rfl · · · (gv (nF e73)) (u_not rfl))) ?_
 refine sT 74 (bV (((((((!eqI t0.mPhase 1) && (!eqI t0.mPhase 2)) && (!eqI t0.mPhase 3)) || (!t54)) || (!t60)) || (!t66)) || (!t72))) rfl (v_pickB rfl · · · rfl (fun e74 => rfl) (fun e75 => (gv (nF e75))) (pO _ _)) ?_
 refine sM 75 (bV (((((((!eqI t0.mPhase 1) && (!eqI t0.mPhase 2)) && (!eqI t0.mPhase 3)) || (!t54)) || (!t60)) || (!t66)) || (!t72))) rfl rfl ?_
 refine sF 76 (.d (.dp (List.drop 12 (eShard t0)))) rfl rfl (fun e76 => (v_field_dp (a0 := 12) (cs := (eShard t0)) rfl · · · fo45_7 rfl)) ?_
 refine sF 77 (.d (.sl 11 (t0.mDone.map eDone))) rfl rfl (fun e77 => (v_load_dp1 rfl · · · onT43 (gv (nF e77)) rfl)) ?_
 obtain ⟨t78, c79, h⟩ := bpos h
 refine sF 78 (bV t78) rfl rfl (fun e78 => (w_call (ds := [(.sl 11 (t0.mDone.map eDone))]) (caps := []) (l := [(.s (.bool t78))]) (s87 k t0.mDone _ (cpos (nF e78) c79)) rfl rfl rfl en87 · · · (.inl ⟨rfl, rfl⟩) (cc (gv (nF e78)) rfl) rfl)) ?_
 refine sF 79 (bV (!t78)) rfl rfl (fun e80 => (v_un rfl · · · (gv (nF e80)) (u_not rfl))) ?_
 refine sT 80 (bV ((((((((!eqI t0.mPhase 1) && (!eqI t0.mPhase 2)) && (!eqI t0.mPhase 3)) || (!t54)) || (!t60)) || (!t66)) || (!t72)) || (!t78))) rfl (v_pickB rfl · · · rfl (fun e81 => rfl) (fun e82 => (gv (nF e82))) (pO _ _)) ?_
 refine sq_nil ?_
 refine ht_cond rfl (fun e83 => ?_) (fun e83 => ?_)
 ·replace h := cpos e83 h
  refine sr ?_
  refine sM 2 (bV false) rfl rfl ?_
  refine sq_nil ?_
  refine ht_ret ?_
  cases h
  exact ret1 rfl (.tmp rfl)
 replace h := cneg e83 h
 refine ht_skip ?_
 refine ht_gj (go_id' h) (fun _ => tell []) (fun _ h => ?_) (fun v84 K85 h j87 r88 => ?_)
 ·refine sr ?_
  refine sM 2 (bV true) rfl rfl ?_
  refine sq_nil ?_
  refine ht_ret ?_
  cases h
  exact ret1 rfl (.tmp rfl)
 refine sr ?_
 refine sM 3 (iV 0) rfl rfl ?_
 refine sq_nil ?_
 refine ht_block ?_
 refine ht_rd h (fun _ => rfl) (fun t3 => tell [(.t 1, .d (.dp (eShard t0))), (.t 3, iV t3)]) (wk_ren _ (fun i => i) rfl ⟨rfl, rfl, trivial⟩) fun k t3 h K96 j90 => ?_
 rw [F21_l1] at h
 refine ht_seq ?_
 refine sr ?_
 refine sM 81 (iV t3) rfl rfl ?_
 refine sT 82 (.d (.dp (List.drop 5 (eShard t0)))) rfl (v_field_dp (a0 := 5) (cs := (eShard t0)) rfl · · · fo45_4 rfl) ?_
 refine sT 83 (.d (.sl 2 (t0.mEntries.map eEntry))) rfl (v_load_dp1 rfl · · · onT42 rfl rfl) ?_
 refine sT 84 (iV (t0.mEntries.length : Int)) rfl (w_len t0.mEntries eEntry rfl rfl · · · slT42 rfl) ?_
 refine sT 85 (bV (ltI t3 (t0.mEntries.length : Int))) rfl (v_bin rfl · · · rfl rfl (b_lss rfl)) ?_
 refine sq_nil ?_
 refine ht_cond rfl (fun e92 => ?_) (fun e92 => ?_)
 ·replace h := cpos e92 h
  refine ht_skip ?_
  refine ht_seq ?_
  refine ht_block ?_
  refine ht_seq ?_
  refine ht_region_draw mixed ?_
  refine rT 88 (.d (.dp (List.drop 2 (eShard t0)))) rfl (v_field_dp (a0 := 2) (cs := (eShard t0)) rfl · · · fo45_2 rfl) ?_
  refine rT 89 (.d (.agg (eSpan t0.mSpan))) rfl (w_ldp (List.drop 2 (eShard t0)) (eSpan t0.mSpan) rfl · · · ag41 rfl (ble _ _ rfl) rfl) ?_
  refine rT 90 (.d (.dp (List.drop 5 (eShard t0)))) rfl (v_field_dp (a0 := 5) (cs := (eShard t0)) rfl · · · fo45_4 rfl) ?_
  refine rT 91 (.d (.sl 2 (t0.mEntries.map eEntry))) rfl (v_load_dp1 rfl · · · onT42 rfl rfl) ?_
  refine rM 92 (iV t3) rfl rfl ?_
  obtain ⟨e93, h⟩ := gpos h
  refine rT 93 (.d (.dp (eEntry (rd t0.mEntries t3)))) rfl (w_idx t0.mEntries eEntry rfl · · · slT42 rfl rfl e93) ?_
  refine rT 94 (.d (.dp (eEntry (rd t0.mEntries t3)))) rfl (v_field_dp (a0 := 0) (cs := (eEntry (rd t0.mEntries t3))) rfl · · · fo116_0 rfl) ?_
  refine rT 95 (sV (rd t0.mEntries t3).mKey) rfl (v_load_dp1 rfl · · · onT9 rfl rfl) ?_
  obtain ⟨t96, c94, h⟩ := bpos h
  refine rT 96 (bV t96) rfl (w_call (ds := [(.agg (eSpan t0.mSpan)), (.s (.string (rd t0.mEntries t3).mKey))]) (caps := []) (l := [(.s (.bool t96))]) (s88 k t0.mSpan (rd t0.mEntries t3).mKey _ c94) rfl rfl rfl en88 · · · (.inl ⟨rfl, rfl⟩) rfl rfl) ?_
  refine rT 97 (bV (!t96)) rfl (v_un rfl · · · rfl (u_not rfl)) ?_
  refine rg_nil ⟨by kernel_rfl, ?_⟩
  refine ht_cond rfl (fun e95 => ?_) (fun e95 => ?_)
  ·replace h := cpos e95 h
   refine sr ?_
   refine sM 2 (bV false) rfl rfl ?_
   refine sq_nil ?_
   refine ht_ret ?_
   cases h
   cases r88 _ rfl
   exact ret1 rfl (.tmp rfl)
  replace h := cneg e95 h
  refine ht_skip ?_
  refine ht_region ?_
  refine sM 86 (iV t3) rfl rfl ?_
  refine sT 87 (iV (IntKind.wrap .i64 (t3 + 1))) rfl (v_bin rfl · · · rfl rfl (b_add rfl)) ?_
  refine sM 3 (iV (IntKind.wrap .i64 (t3 + 1))) rfl rfl ?_
  refine sq_nil ?_
  exact j90 _ _ h (wk_ren _ (fun i => i) rfl ⟨rfl, rfl, trivial⟩)
 replace h := cneg e92 h
 refine ht_exit ?_
 refine tq ?_
 refine tq ?_
 refine bq_hit ?_
 cases h
 exact j87 _ _ rfl (wk_ren _ (fun i => i) rfl trivial)
theorem s89 (k : Nat) (t0 : Shard) (t1 : Stamp) (r : Bool) (h : F89 k t0 t1 = some r) : Awp.Spec Tryz.prog amb 89 [(.agg (eShard t0)), (.agg (eStamp t1))] (.ds [(.s (.bool r))]) := by
 rw [F89] at h
 refine spec_of Tryz.func89 rfl (ble _ _ rfl) fun w0 ok0 lt0 hA => ?_
 refine sr ?_
 refine sT 2 (.d (.dp (eShard t0))) rfl (v_box_d (cs := (eShard t0)) rfl · · · rfl rfl (ones_of rfl)) ?_
 refine sT 3 (.d (.dp (eStamp t1))) rfl (v_box_d (cs := (eStamp t1)) rfl · · · rfl rfl (ones_of rfl)) ?_
 refine sM 4 (bV false) rfl rfl ?_
 refine sq_nil ?_
 refine ht_gj (go_id' h) (fun _ => tell []) (fun _ h => ?_) (fun v1 K2 h j4 r5 => ?_)
 ·refine sr ?_
  refine sM 4 (bV true) rfl rfl ?_
  refine sq_nil ?_
  refine ht_ret ?_
  cases h
  exact ret1 rfl (.tmp rfl)
 refine sr ?_
 refine sM 5 (iV 0) rfl rfl ?_
 refine sq_nil ?_
 refine ht_block ?_
 refine ht_rd h (fun _ => rfl) (fun t5 => tell [(.t 2, .d (.dp (eShard t0))), (.t 3, .d (.dp (eStamp t1))), (.t 5, iV t5)]) (wk_ren _ (fun i => i) rfl ⟨rfl, rfl, rfl, trivial⟩) fun k t5 h K25 j7 => ?_
 rw [F89_l1] at h
 refine ht_seq ?_
 refine sr ?_
 refine sM 7 (iV t5) rfl rfl ?_
 refine sT 8 (.d (.dp (List.drop 5 (eShard t0)))) rfl (v_field_dp (a0 := 5) (cs := (eShard t0)) rfl · · · fo45_4 rfl) ?_
 refine sT 9 (.d (.sl 2 (t0.mEntries.map eEntry))) rfl (v_load_dp1 rfl · · · onT42 rfl rfl) ?_
 refine sT 10 (iV (t0.mEntries.length : Int)) rfl (w_len t0.mEntries eEntry rfl rfl · · · slT42 rfl) ?_
 refine sT 11 (bV (ltI t5 (t0.mEntries.length : Int))) rfl (v_bin rfl · · · rfl rfl (b_lss rfl)) ?_
 refine sq_nil ?_
 refine ht_cond rfl (fun e9 => ?_) (fun e9 => ?_)
 ·replace h := cpos e9 h
  refine ht_skip ?_
  refine ht_gj h (fun _ => tell [(.t 2, .d (.dp (eShard t0))), (.t 3, .d (.dp (eStamp t1))), (.t 5, iV t5)]) (fun _ h => ?_) (fun v10 K11 h j13 r14 => ?_)
  ·refine ht_region ?_
   refine sM 12 (iV t5) rfl rfl ?_
   refine sT 13 (iV (IntKind.wrap .i64 (t5 + 1))) rfl (v_bin rfl · · · rfl rfl (b_add rfl)) ?_
   refine sM 5 (iV (IntKind.wrap .i64 (t5 + 1))) rfl rfl ?_
   refine sq_nil ?_
   exact j7 _ _ h (wk_ren _ (fun i => i) rfl ⟨rfl, rfl, rfl, trivial⟩)
  refine ht_block ?_
  refine sr ?_
  refine sM 6 (iV 0) rfl rfl ?_
  refine sq_nil ?_
  refine ht_block ?_
  refine ht_rd h (fun _ => rfl) (fun t6 => tell [(.t 2, .d (.dp (eShard t0))), (.t 3, .d (.dp (eStamp t1))), (.t 5, iV t5), (.t 6, iV t6)]) (wk_ren _ (fun i => i) rfl ⟨rfl, rfl, rfl, rfl, trivial⟩) fun k t6 h K24 j16 => ?_
  rw [F89_l2] at h
  refine ht_seq ?_
  refine sr ?_
  refine sM 14 (iV t6) rfl rfl ?_
  refine sT 15 (.d (.dp (List.drop 5 (eShard t0)))) rfl (v_field_dp (a0 := 5) (cs := (eShard t0)) rfl · · · fo45_4 rfl) ?_
  refine sT 16 (.d (.sl 2 (t0.mEntries.map eEntry))) rfl (v_load_dp1 rfl · · · onT42 rfl rfl) ?_
  refine sM 17 (iV t5) rfl rfl ?_
  obtain ⟨e18, h⟩ := gpos h
  refine sT 18 (.d (.dp (eEntry (rd t0.mEntries t5)))) rfl (w_idx t0.mEntries eEntry rfl · · · slT42 rfl rfl e18) ?_
  refine sT 19 (.d (.dp (List.drop 1 (eEntry (rd t0.mEntries t5))))) rfl (v_field_dp (a0 := 1) (cs := (eEntry (rd t0.mEntries t5))) rfl · · · fo116_1 rfl) ?_
  refine sT 20 (.d (.sl 5 ((rd t0.mEntries t5).mChain.map eVersion))) rfl (v_load_dp1 rfl · · · onT96 rfl rfl) ?_
  refine sT 21 (iV ((rd t0.mEntries t5).mChain.length : Int)) rfl (w_len (rd t0.mEntries t5).mChain eVersion rfl rfl · · · slT96 rfl) ?_
  refine sT 22 (bV (ltI t6 ((rd t0.mEntries t5).mChain.length : Int))) rfl (v_bin rfl · · · rfl rfl (b_lss rfl)) ?_
  refine sq_nil ?_
  refine ht_cond rfl (fun e19 => ?_) (fun e19 => ?_)
  ·replace h := cpos e19 h
   refine ht_skip ?_
   refine ht_seq ?_
   refine ht_block ?_
   refine ht_seq ?_
   refine ht_region_draw mixed ?_
   refine rT 25 (.d (.agg (eStamp t1))) rfl (w_ldp (eStamp t1) (eStamp t1) rfl · · · ag24 rfl (ble _ _ rfl) rfl) ?_
   refine rT 26 (.d (.dp (List.drop 5 (eShard t0)))) rfl (v_field_dp (a0 := 5) (cs := (eShard t0)) rfl · · · fo45_4 rfl) ?_
   refine rT 27 (.d (.sl 2 (t0.mEntries.map eEntry))) rfl (v_load_dp1 rfl · · · onT42 rfl rfl) ?_
   refine rM 28 (iV t5) rfl rfl ?_
   obtain ⟨e20, h⟩ := gpos h
   refine rT 29 (.d (.dp (eEntry (rd t0.mEntries t5)))) rfl (w_idx t0.mEntries eEntry rfl · · · slT42 rfl rfl e20) ?_
   refine rT 30 (.d (.dp (List.drop 1 (eEntry (rd t0.mEntries t5))))) rfl (v_field_dp (a0 := 1) (cs := (eEntry (rd t0.mEntries t5))) rfl · · · fo116_1 rfl) ?_
   refine rT 31 (.d (.sl 5 ((rd t0.mEntries t5).mChain.map eVersion))) rfl (v_load_dp1 rfl · · · onT96 rfl rfl) ?_
   refine rM 32 (iV t6) rfl rfl ?_
   obtain ⟨e21, h⟩ := gpos h
   refine rT 33 (.d (.dp (eVersion (rd (rd t0.mEntries t5).mChain t6)))) rfl (w_idx (rd t0.mEntries t5).mChain eVersion rfl · · · slT96 rfl rfl e21) ?_
   refine rT 34 (.d (.dp (eVersion (rd (rd t0.mEntries t5).mChain t6)))) rfl (v_field_dp (a0 := 0) (cs := (eVersion (rd (rd t0.mEntries t5).mChain t6))) rfl · · · fo93_0 rfl) ?_
   refine rT 35 (.d (.agg (eStamp (rd (rd t0.mEntries t5).mChain t6).mAt))) rfl (w_ldp (eVersion (rd (rd t0.mEntries t5).mChain t6)) (eStamp (rd (rd t0.mEntries t5).mChain t6).mAt) rfl · · · ag24 rfl (ble _ _ rfl) rfl) ?_
   obtain ⟨t36, c22, h⟩ := bpos h
   refine rT 36 (bV t36) rfl (w_call (ds := [(.agg (eStamp t1)), (.agg (eStamp (rd (rd t0.mEntries t5).mChain t6).mAt))]) (caps := []) (l := [(.s (.bool t36))]) (s76 k t1 (rd (rd t0.mEntries t5).mChain t6).mAt _ c22) rfl rfl rfl en76 · · · (.inl ⟨rfl, rfl⟩) rfl rfl) ?_
   refine rg_nil ⟨by kernel_rfl, ?_⟩
   refine ht_cond rfl (fun e23 => ?_) (fun e23 => ?_)
   ·replace h := cpos e23 h
    refine sr ?_
    refine sM 4 (bV false) rfl rfl ?_
    refine sq_nil ?_
    refine ht_ret ?_
    cases h
    cases r14 _ rfl
    cases r5 _ rfl
    exact ret1 rfl (.tmp rfl)
   replace h := cneg e23 h
   refine ht_skip ?_
   refine ht_region ?_
   refine sM 23 (iV t6) rfl rfl ?_
   refine sT 24 (iV (IntKind.wrap .i64 (t6 + 1))) rfl (v_bin rfl · · · rfl rfl (b_add rfl)) ?_
   refine sM 6 (iV (IntKind.wrap .i64 (t6 + 1))) rfl rfl ?_
   refine sq_nil ?_
   exact j16 _ _ h (wk_ren _ (fun i => i) rfl ⟨rfl, rfl, rfl, rfl, trivial⟩)
  replace h := cneg e19 h
  refine ht_exit ?_
  refine tq ?_
  refine tq ?_
  refine bq_hit ?_
  cases h
  exact j13 _ _ rfl (wk_ren _ (fun i => i) rfl ⟨rfl, rfl, rfl, trivial⟩)
 replace h := cneg e9 h
 refine ht_exit ?_
 refine tq ?_
 refine tq ?_
 refine bq_hit ?_
 cases h
 exact j4 _ _ rfl (wk_ren _ (fun i => i) rfl trivial)
theorem s22 (k : Nat) (t0 : Cell) (r : Bool) (h : F22 k t0 = some r) : Awp.Spec Tryz.prog amb 22 [(.agg (eCell t0))] (.ds [(.s (.bool r))]) := by
 rw [F22] at h
 refine spec_of Tryz.func22 rfl (ble _ _ rfl) fun w0 ok0 lt0 hA => ?_
 refine sr ?_
 refine sT 1 (.d (.dp (eCell t0))) rfl (v_box_d (cs := (eCell t0)) rfl · · · rfl rfl (ones_of rfl)) ?_
 refine sM 2 (bV false) rfl rfl ?_
 refine sq_nil ?_
 refine ht_seq ?_
 refine sr ?_
 refine sT 4 (.d (.dp (eCell t0))) rfl (v_field_dp (a0 := 0) (cs := (eCell t0)) rfl · · · fo26_0 rfl) ?_
 refine sT 5 (.d (.sl 17 (t0.mShards.map eShard))) rfl (v_load_dp1 rfl · · · onT22 rfl rfl) ?_
 refine sT 6 (iV (t0.mShards.length : Int)) rfl (w_len t0.mShards eShard rfl rfl · · · slT22 rfl) ?_
 refine sT 7 (bV (ltI 8 (t0.mShards.length : Int))) rfl (v_bin rfl · · · rfl rfl (b_gtr rfl)) ?_
 refine sM 8 (bV (ltI 8 (t0.mShards.length : Int))) rfl rfl ?_
 refine sF 9 (.d (.dp (List.drop 1 (eCell t0)))) rfl rfl (fun e1 => (v_field_dp (a0 := 1) (cs := (eCell t0)) rfl · · · fo26_1 rfl)) ?_
 refine sF 10 (.d (.agg (eStamp t0.mTop))) rfl rfl (fun e2 => (w_ldp (List.drop 1 (eCell t0)) (eStamp t0.mTop) rfl · · · ag24 (gv (nF e2)) (ble _ _ rfl) rfl)) ?_
 obtain ⟨t11, c4, h⟩ := bpos h
 refine sF 11 (bV t11) rfl rfl (fun e3 => (w_call (ds := [(.agg (eStamp t0.mTop))]) (caps := []) (l := [(.s (.bool t11))]) (s68 k t0.mTop _ (cpos (nF e3) c4)) rfl rfl rfl en68 · · · (.inl ⟨rfl, rfl⟩) (cc (gv (nF e3)) rfl) rfl)) ?_
 refine sF 12 (bV (!t11)) rfl rfl (fun e5 => (v_un rfl · · · (gv (nF e5)) (u_not rfl))) ?_
 refine sT 13 (bV ((ltI 8 (t0.mShards.length : Int)) || (!t11))) rfl (v_pickB rfl · · · rfl (fun e6 => rfl) (fun e7 => (gv (nF e7))) (pO _ _)) ?_
 refine sM 14 (bV ((ltI 8 (t0.mShards.length : Int)) || (!t11))) rfl rfl ?_
 refine sF 15 (.d (.dp (List.drop 4 (eCell t0)))) rfl rfl (fun e8 => (v_field_dp (a0 := 4) (cs := (eCell t0)) rfl · · · fo26_2 rfl)) ?_
 refine sF 16 (iV t0.mDropped) rfl rfl (fun e9 => (v_load_dp1 rfl · · · onT3 (gv (nF e9)) rfl)) ?_
 obtain ⟨t17, c11, h⟩ := bpos h
 refine sF 17 (bV t17) rfl rfl (fun e10 => (w_call (ds := [(.s (.int .i64 t0.mDropped))]) (caps := []) (l := [(.s (.bool t17))]) (s67 k t0.mDropped _ (cpos (nF e10) c11)) rfl rfl rfl en67 · · · (.inl ⟨rfl, rfl⟩) (cc (gv (nF e10)) rfl) rfl)) ?_
 refine sF 18 (bV (!t17)) rfl rfl (fun e12 => (v_un rfl · · · (gv (nF e12)) (u_not rfl))) ?_
 refine sT 19 (bV (((ltI 8 (t0.mShards.length : Int)) || (!t11)) || (!t17))) rfl (v_pickB rfl · · · rfl (fun e13 => rfl) (fun e14 => (gv (nF e14))) (pO _ _)) ?_
 refine sq_nil ?_
 refine ht_cond rfl (fun e15 => ?_) (fun e15 => ?_)
 ·replace h := cpos e15 h
  refine sr ?_
  refine sM 2 (bV false) rfl rfl ?_
  refine sq_nil ?_
  refine ht_ret ?_
  cases h
  exact ret1 rfl (.tmp rfl)
 replace h := cneg e15 h
 refine ht_skip ?_
 refine ht_gj (go_id' h) (fun _ => tell []) (fun _ h => ?_) (fun v16 K17 h j19 r20 => ?_)
 ·refine sr ?_
  refine sM 2 (bV true) rfl rfl ?_
  refine sq_nil ?_
  refine ht_ret ?_
  cases h
  exact ret1 rfl (.tmp rfl)
 refine sr ?_
 refine sM 3 (iV 0) rfl rfl ?_
 refine sq_nil ?_
 refine ht_block ?_
 refine ht_rd h (fun _ => rfl) (fun t3 => tell [(.t 1, .d (.dp (eCell t0))), (.t 3, iV t3)]) (wk_ren _ (fun i => i) rfl ⟨rfl, rfl, trivial⟩) fun k t3 h K79 j22 => ?_
 rw [F22_l1] at h
 refine ht_seq ?_
 refine sr ?_
 refine sM 20 (iV t3) rfl rfl ?_
 refine sT 21 (.d (.dp (eCell t0))) rfl (v_field_dp (a0 := 0) (cs := (eCell t0)) rfl · · · fo26_0 rfl) ?_
 refine sT 22 (.d (.sl 17 (t0.mShards.map eShard))) rfl (v_load_dp1 rfl · · · onT22 rfl rfl) ?_
 refine sT 23 (iV (t0.mShards.length : Int)) rfl (w_len t0.mShards eShard rfl rfl · · · slT22 rfl) ?_
 refine sT 24 (bV (ltI t3 (t0.mShards.length : Int))) rfl (v_bin rfl · · · rfl rfl (b_lss rfl)) ?_
 refine sq_nil ?_
 refine ht_cond rfl (fun e24 => ?_) (fun e24 => ?_)
 ·replace h := cpos e24 h
  refine ht_skip ?_
  refine ht_seq ?_
  refine ht_block ?_
  refine ht_seq ?_
  refine ht_region_draw mixed ?_
  refine rT 27 (.d (.dp (eCell t0))) rfl (v_field_dp (a0 := 0) (cs := (eCell t0)) rfl · · · fo26_0 rfl) ?_
  refine rT 28 (.d (.sl 17 (t0.mShards.map eShard))) rfl (v_load_dp1 rfl · · · onT22 rfl rfl) ?_
  refine rM 29 (iV t3) rfl rfl ?_
  obtain ⟨e25, h⟩ := gpos h
  refine rT 30 (.d (.dp (eShard (rd t0.mShards t3)))) rfl (w_idx t0.mShards eShard rfl · · · slT22 rfl rfl e25) ?_
  refine rT 31 (.d (.agg (eShard (rd t0.mShards t3)))) rfl (w_ldp (eShard (rd t0.mShards t3)) (eShard (rd t0.mShards t3)) rfl · · · ag45 rfl (ble _ _ rfl) rfl) ?_
  obtain ⟨t32, c26, h⟩ := bpos h
  refine rT 32 (bV t32) rfl (w_call (ds := [(.agg (eShard (rd t0.mShards t3)))]) (caps := []) (l := [(.s (.bool t32))]) (s21 k (rd t0.mShards t3) _ c26) rfl rfl rfl en21 · · · (.inl ⟨rfl, rfl⟩) rfl rfl) ?_
  refine rT 33 (bV (!t32)) rfl (v_un rfl · · · rfl (u_not rfl)) ?_
  refine rM 34 (bV (!t32)) rfl rfl ?_
  refine rF 35 (.d (.dp (eCell t0))) rfl rfl (fun e27 => (v_field_dp (a0 := 0) (cs := (eCell t0)) rfl · · · fo26_0 rfl)) ?_
  refine rF 36 (.d (.sl 17 (t0.mShards.map eShard))) rfl rfl (fun e28 => (v_load_dp1 rfl · · · onT22 (gv (nF e28)) rfl)) ?_
  refine rF 37 (iV t3) rfl rfl (fun e29 => (v_move (.inl rfl) · · · rfl)) ?_
  obtain ⟨e31, h⟩ := gpos h
  refine rF 38 (.d (.dp (eShard (rd t0.mShards t3)))) rfl rfl (fun e30 => (w_idx t0.mShards eShard rfl · · · slT22 (gv (nF e30)) (gv (nF e30)) (orT e31 (nF e30)))) ?_
  refine rF 39 (.d (.agg (eShard (rd t0.mShards t3)))) rfl rfl (fun e32 => (w_ldp (eShard (rd t0.mShards t3)) (eShard (rd t0.mShards t3)) rfl · · · ag45 (gv (nF e32)) (ble _ _ rfl) rfl)) ?_
  refine rF 40 (.d (.dp (List.drop 1 (eCell t0)))) rfl rfl (fun e33 => (v_field_dp (a0 := 1) (cs := (eCell t0)) rfl · · · fo26_1 rfl)) ?_
  refine rF 41 (.d (.agg (eStamp t0.mTop))) rfl rfl (fun e34 => (w_ldp (List.drop 1 (eCell t0)) (eStamp t0.mTop) rfl · · · ag24 (gv (nF e34)) (ble _ _ rfl) rfl)) ?_
  obtain ⟨t42, c36, h⟩ := bpos h
  refine rF 42 (bV t42) rfl rfl (fun e35 => (w_call (ds := [(.agg (eShard (rd t0.mShards t3))), (.agg (eStamp t0.mTop))]) (caps := []) (l := [(.s (.bool t42))]) (s89 k (rd t0.mShards t3) t0.mTop _ (cpos (nF e35) c36)) rfl rfl rfl en89 · · · (.inl ⟨rfl, rfl⟩) (cc (gv (nF e35)) (cc (gv (nF e35)) rfl)) rfl)) ?_
  refine rF 43 (bV (!t42)) rfl rfl (fun e37 => (v_un rfl · · · (gv (nF e37)) (u_not rfl))) ?_
  refine rT 44 (bV ((!t32) || (!t42))) rfl (v_pickB rfl · · · rfl (fun e38 => rfl) (fun e39 => (gv (nF e39))) (pO _ _)) ?_
  refine rM 45 (bV ((!t32) || (!t42))) rfl rfl ?_
  refine rF 46 (iV t3) rfl rfl (fun e40 => (v_move (.inl rfl) · · · rfl)) ?_
  refine rF 47 (bV (ltI 0 t3)) rfl rfl (fun e41 => (v_bin rfl · · · (gv (nF e41)) rfl (b_gtr rfl))) ?_
  refine rF 48 (bV (ltI 0 t3)) rfl rfl (fun e42 => (v_move (.inl rfl) · · · (gv (nF e42)))) ?_
  refine rI 49 (.d (.dp (eCell t0))) rfl rfl (fun e43 e44 => (v_field_dp (a0 := 0) (cs := (eCell t0)) rfl · · · fo26_0 rfl)) ?_
  refine rI 50 (.d (.sl 17 (t0.mShards.map eShard))) rfl rfl (fun e45 e46 => (v_load_dp1 rfl · · · onT22 (gv (aT e45 e46)) rfl)) ?_
  refine rI 51 (iV t3) rfl rfl (fun e47 e48 => (v_move (.inl rfl) · · · rfl)) ?_
  refine rI 52 (iV (IntKind.wrap .i64 (t3 - 1))) rfl rfl (fun e49 e50 => (v_bin rfl · · · (gv (aT e49 e50)) rfl (b_sub rfl))) ?_
  obtain ⟨e53, h⟩ := gpos h
  refine rI 53 (.d (.dp (eShard (rd t0.mShards (IntKind.wrap .i64 (t3 - 1)))))) rfl rfl (fun e51 e52 => (w_idx t0.mShards eShard rfl · · · slT22 (gv (aT e51 e52)) (gv (aT e51 e52)) (orT e53 (aT e51 e52)))) ?_
  refine rI 54 (.d (.dp (eShard (rd t0.mShards (IntKind.wrap .i64 (t3 - 1)))))) rfl rfl (fun e54 e55 => (v_field_dp (a0 := 0) (cs := (eShard (rd t0.mShards (IntKind.wrap .i64 (t3 - 1))))) rfl · · · fo45_0 (gv (aT e54 e55)))) ?_
  refine rI 55 (iV (rd t0.mShards (IntKind.wrap .i64 (t3 - 1))).mID) rfl rfl (fun e56 e57 => (v_load_dp1 rfl · · · onT3 (gv (aT e56 e57)) rfl)) ?_
  refine rI 56 (.d (.dp (eCell t0))) rfl rfl (fun e58 e59 => (v_field_dp (a0 := 0) (cs := (eCell t0)) rfl · · · fo26_0 rfl)) ?_
  refine rI 57 (.d (.sl 17 (t0.mShards.map eShard))) rfl rfl (fun e60 e61 => (v_load_dp1 rfl · · · onT22 (gv (aT e60 e61)) rfl)) ?_
  refine rI 58 (iV t3) rfl rfl (fun e62 e63 => (v_move (.inl rfl) · · · rfl)) ?_
  obtain ⟨e66, h⟩ := gpos h
  refine rI 59 (.d (.dp (eShard (rd t0.mShards t3)))) rfl rfl (fun e64 e65 => (w_idx t0.mShards eShard rfl · · · slT22 (gv (aT e64 e65)) (gv (aT e64 e65)) (orT e66 (aT e64 e65)))) ?_
  refine rI 60 (.d (.dp (eShard (rd t0.mShards t3)))) rfl rfl (fun e67 e68 => (v_field_dp (a0 := 0) (cs := (eShard (rd t0.mShards t3))) rfl · · · fo45_0 (gv (aT e67 e68)))) ?_
  refine rI 61 (iV (rd t0.mShards t3).mID) rfl rfl (fun e69 e70 => (v_load_dp1 rfl · · · onT3 (gv (aT e69 e70)) rfl)) ?_
  refine rI 62 (bV (leI (rd t0.mShards t3).mID (rd t0.mShards (IntKind.wrap .i64 (t3 - 1))).mID)) rfl rfl (fun e71 e72 => (v_bin rfl · · · (gv (aT e71 e72)) (gv (aT e71 e72)) (b_geq rfl))) ?_
  refine rF 63 (bV ((ltI 0 t3) && (leI (rd t0.mShards t3).mID (rd t0.mShards (IntKind.wrap .i64 (t3 - 1))).mID))) rfl rfl (fun e73 => (v_pickB rfl · · · (gv (nF e73)) (fun e74 => (gv (aT (nF e73) e74))) (fun e75 => rfl) (pA _ _))) ?_
  refine rT 64 (bV (((!t32) || (!t42)) || ((ltI 0 t3) && (leI (rd t0.mShards t3).mID (rd t0.mShards (IntKind.wrap .i64 (t3 - 1))).mID)))) rfl (v_pickB rfl · · · rfl (fun e76 => rfl) (fun e77 => (gv (nF e77))) (pO _ _)) ?_
  refine rg_nil ⟨by kernel_rfl, ?_⟩
  refine ht_cond rfl (fun e78 => ?_) (fun e78 => ?_)
  ·replace h := cpos e78 h
   refine sr ?_
   refine sM 2 (bV false) rfl rfl ?_
   refine sq_nil ?_
   refine ht_ret ?_
   cases h
   cases r20 _ rfl
   exact ret1 rfl (.tmp rfl)
  replace h := cneg e78 h
  refine ht_skip ?_
  refine ht_region ?_
  refine sM 25 (iV t3) rfl rfl ?_
  refine sT 26 (iV (IntKind.wrap .i64 (t3 + 1))) rfl (v_bin rfl · · · rfl rfl (b_add rfl)) ?_
  refine sM 3 (iV (IntKind.wrap .i64 (t3 + 1))) rfl rfl ?_
  refine sq_nil ?_
  exact j22 _ _ h (wk_ren _ (fun i => i) rfl ⟨rfl, rfl, trivial⟩)
 replace h := cneg e24 h
 refine ht_exit ?_
 refine tq ?_
 refine tq ?_
 refine bq_hit ?_
 cases h
 exact j19 _ _ rfl (wk_ren _ (fun i => i) rfl trivial)
theorem s24 (k : Nat) (t0 : Cell) (t1 : Int) (r : Shard) (h : F24 k t0 t1 = some r) : Awp.Spec Tryz.prog amb 24 [(.agg (eCell t0)), (.s (.int .i64 t1))] (.ds [(.agg (eShard r))]) := by
 rw [F24] at h
 refine spec_of Tryz.func24 rfl (ble _ _ rfl) fun w0 ok0 lt0 hA => ?_
 refine sr ?_
 refine sT 2 (.d (.dp (eCell t0))) rfl (v_box_d (cs := (eCell t0)) rfl · · · rfl rfl (ones_of rfl)) ?_
 refine sq_cons _ (v_alloc (id := 4) (cs := zc45) rfl trivial rfl (ble _ _ rfl) zu45 rfl ft45 rfl) ?_
 refine sq_nil ?_
 refine ht_gj (go_id' h) (fun _ => tell [(.b 4, .box false 17), (.c 4 0, iV 0), (.c 4 1, iV 0), (.c 4 2, sV (⟨#[]⟩ : ByteArray)), (.c 4 3, sV (⟨#[]⟩ : ByteArray)), (.c 4 4, iV 0), (.c 4 5, .d (.sl 2 (([] : List Entry).map eEntry))), (.c 4 6, iV 0), (.c 4 7, iV 0), (.c 4 8, iV 0), (.c 4 9, iV 0), (.c 4 10, iV 0), (.c 4 11, iV 0), (.c 4 12, .d (.sl 11 (([] : List Done).map eDone))), (.c 4 13, iV 0), (.c 4 14, iV 0), (.c 4 15, iV 0), (.c 4 16, iV 0), (.t 4, .ptr 4 0)]) (fun _ h => ?_) (fun v1 K2 h j4 r5 => ?_)
 ·refine sr ?_
  refine sT 26 (.d (.agg (eShard (⟨0, 0, (⟨⟨#[]⟩, ⟨#[]⟩⟩ : Span), 0, [], (⟨0, 0, 0⟩ : Stamp), (⟨0, 0, 0⟩ : Stamp), [], 0, 0, 0, 0⟩ : Shard)))) rfl (w_bld zc45 ((eShard (⟨0, 0, (⟨⟨#[]⟩, ⟨#[]⟩⟩ : Span), 0, [], (⟨0, 0, 0⟩ : Stamp), (⟨0, 0, 0⟩ : Stamp), [], 0, 0, 0, 0⟩ : Shard)).map V.d) [] rfl · · · zw45 rfl ft45 rfl rfl rfl rfl) ?_
  refine sq_cons _ (v_store_box (id := 4) (off := 0) (cs := (eShard (⟨0, 0, (⟨⟨#[]⟩, ⟨#[]⟩⟩ : Span), 0, [], (⟨0, 0, 0⟩ : Stamp), (⟨0, 0, 0⟩ : Stamp), [], 0, 0, 0, 0⟩ : Shard)).map V.d) rfl trivial rfl sz45 rfl rfl rfl rfl (ones_of rfl) (ble _ _ rfl)) ?_
  refine sq_nil ?_
  refine ht_ret ?_
  cases h
  exact ret1 rfl (.cell rfl rfl ag45 (ble _ _ rfl) rfl)
 refine sr ?_
 refine sM 5 (iV 0) rfl rfl ?_
 refine sq_nil ?_
 refine ht_block ?_
 refine ht_rd h (fun _ => rfl) (fun t5 => tell [(.b 4, .box false 17), (.c 4 0, iV 0), (.c 4 1, iV 0), (.c 4 2, sV (⟨#[]⟩ : ByteArray)), (.c 4 3, sV (⟨#[]⟩ : ByteArray)), (.c 4 4, iV 0), (.c 4 5, .d (.sl 2 (([] : List Entry).map eEntry))), (.c 4 6, iV 0), (.c 4 7, iV 0), (.c 4 8, iV 0), (.c 4 9, iV 0), (.c 4 10, iV 0), (.c 4 11, iV 0), (.c 4 12, .d (.sl 11 (([] : List Done).map eDone))), (.c 4 13, iV 0), (.c 4 14, iV 0), (.c 4 15, iV 0), (.c 4 16, iV 0), (.t 1, iV t1), (.t 2, .d (.dp (eCell t0))), (.t 4, .ptr 4 0), (.t 5, iV t5)]) (wk_ren _ (fun i => i) rfl ⟨rfl, rfl, rfl, rfl, rfl, rfl, rfl, rfl, rfl, rfl, rfl, rfl, rfl, rfl, rfl, rfl, rfl, rfl, rfl, rfl, rfl, rfl, trivial⟩) fun k t5 h K13 j7 => ?_
 rw [F24_l1] at h
 refine ht_seq ?_
 refine sr ?_
 refine sM 6 (iV t5) rfl rfl ?_
 refine sT 7 (.d (.dp (eCell t0))) rfl (v_field_dp (a0 := 0) (cs := (eCell t0)) rfl · · · fo26_0 rfl) ?_
 refine sT 8 (.d (.sl 17 (t0.mShards.map eShard))) rfl (v_load_dp1 rfl · · · onT22 rfl rfl) ?_
 refine sT 9 (iV (t0.mShards.length : Int)) rfl (w_len t0.mShards eShard rfl rfl · · · slT22 rfl) ?_
 refine sT 10 (bV (ltI t5 (t0.mShards.length : Int))) rfl (v_bin rfl · · · rfl rfl (b_lss rfl)) ?_
 refine sq_nil ?_
 refine ht_cond rfl (fun e9 => ?_) (fun e9 => ?_)
 ·replace h := cpos e9 h
  refine ht_skip ?_
  refine ht_seq ?_
  refine ht_block ?_
  refine sr ?_
  refine sT 13 (.d (.dp (eCell t0))) rfl (v_field_dp (a0 := 0) (cs := (eCell t0)) rfl · · · fo26_0 rfl) ?_
  refine sT 14 (.d (.sl 17 (t0.mShards.map eShard))) rfl (v_load_dp1 rfl · · · onT22 rfl rfl) ?_
  refine sM 15 (iV t5) rfl rfl ?_
  obtain ⟨e10, h⟩ := gpos h
  refine sT 16 (.d (.dp (eShard (rd t0.mShards t5)))) rfl (w_idx t0.mShards eShard rfl · · · slT22 rfl rfl e10) ?_
  refine sT 17 (.d (.dp (eShard (rd t0.mShards t5)))) rfl (v_field_dp (a0 := 0) (cs := (eShard (rd t0.mShards t5))) rfl · · · fo45_0 rfl) ?_
  refine sT 18 (iV (rd t0.mShards t5).mID) rfl (v_load_dp1 rfl · · · onT3 rfl rfl) ?_
  refine sM 19 (iV t1) rfl rfl ?_
  refine sT 20 (bV (eqI (rd t0.mShards t5).mID t1)) rfl (v_bin rfl · · · rfl rfl (b_eql rfl)) ?_
  refine sq_nil ?_
  refine ht_cond rfl (fun e11 => ?_) (fun e11 => ?_)
  ·replace h := cpos e11 h
   refine sr ?_
   refine sT 21 (.d (.dp (eCell t0))) rfl (v_field_dp (a0 := 0) (cs := (eCell t0)) rfl · · · fo26_0 rfl) ?_
   refine sT 22 (.d (.sl 17 (t0.mShards.map eShard))) rfl (v_load_dp1 rfl · · · onT22 rfl rfl) ?_
   refine sM 23 (iV t5) rfl rfl ?_
   obtain ⟨e12, h⟩ := gpos h
   refine sT 24 (.d (.dp (eShard (rd t0.mShards t5)))) rfl (w_idx t0.mShards eShard rfl · · · slT22 rfl rfl e12) ?_
   refine sT 25 (.d (.agg (eShard (rd t0.mShards t5)))) rfl (w_ldp (eShard (rd t0.mShards t5)) (eShard (rd t0.mShards t5)) rfl · · · ag45 rfl (ble _ _ rfl) rfl) ?_
   refine sq_cons _ (v_store_box (id := 4) (off := 0) (cs := (eShard (rd t0.mShards t5)).map V.d) rfl trivial rfl sz45 rfl rfl rfl rfl (ones_of rfl) (ble _ _ rfl)) ?_
   refine sq_nil ?_
   refine ht_ret ?_
   cases h
   cases r5 _ rfl
   exact ret1 rfl (.cell rfl rfl ag45 (ble _ _ rfl) rfl)
  replace h := cneg e11 h
  refine ht_skip ?_
  refine ht_region ?_
  refine sM 11 (iV t5) rfl rfl ?_
  refine sT 12 (iV (IntKind.wrap .i64 (t5 + 1))) rfl (v_bin rfl · · · rfl rfl (b_add rfl)) ?_
  refine sM 5 (iV (IntKind.wrap .i64 (t5 + 1))) rfl rfl ?_
  refine sq_nil ?_
  exact j7 _ _ h (wk_ren _ (fun i => i) rfl ⟨rfl, rfl, rfl, rfl, rfl, rfl, rfl, rfl, rfl, rfl, rfl, rfl, rfl, rfl, rfl, rfl, rfl, rfl, rfl, rfl, rfl, rfl, trivial⟩)
 replace h := cneg e9 h
 refine ht_exit ?_
 refine tq ?_
 refine tq ?_
 refine bq_hit ?_
 cases h
 exact j4 _ _ rfl (wk_ren _ (fun i => i) rfl ⟨rfl, rfl, rfl, rfl, rfl, rfl, rfl, rfl, rfl, rfl, rfl, rfl, rfl, rfl, rfl, rfl, rfl, rfl, rfl, trivial⟩)
theorem s97 (k : Nat) (t0 : Stamp) (t1 : Stamp) (r : Stamp) (h : F97 k t0 t1 = some r) : Awp.Spec Tryz.prog amb 97 [(.agg (eStamp t0)), (.agg (eStamp t1))] (.ds [(.agg (eStamp r))]) := by
 rw [F97] at h
 refine spec_of Tryz.func97 rfl (ble _ _ rfl) fun w0 ok0 lt0 hA => ?_
 refine sr ?_
 refine sT 2 (.d (.dp (eStamp t0))) rfl (v_box_d (cs := (eStamp t0)) rfl · · · rfl rfl (ones_of rfl)) ?_
 refine sT 3 (.d (.dp (eStamp t1))) rfl (v_box_d (cs := (eStamp t1)) rfl · · · rfl rfl (ones_of rfl)) ?_
 refine sq_cons _ (v_alloc (id := 4) (cs := zc24) rfl trivial rfl (ble _ _ rfl) zu24 rfl ft24 rfl) ?_
 refine sq_nil ?_
 refine ht_seq ?_
 refine sr ?_
 refine sT 5 (.d (.agg (eStamp t0))) rfl (w_ldp (eStamp t0) (eStamp t0) rfl · · · ag24 rfl (ble _ _ rfl) rfl) ?_
 refine sT 6 (.d (.agg (eStamp t1))) rfl (w_ldp (eStamp t1) (eStamp t1) rfl · · · ag24 rfl (ble _ _ rfl) rfl) ?_
 obtain ⟨t7, c1, h⟩ := bpos h
 refine sT 7 (bV t7) rfl (w_call (ds := [(.agg (eStamp t0)), (.agg (eStamp t1))]) (caps := []) (l := [(.s (.bool t7))]) (s76 k t0 t1 _ c1) rfl rfl rfl en76 · · · (.inl ⟨rfl, rfl⟩) rfl rfl) ?_
 refine sq_nil ?_
 refine ht_cond rfl (fun e2 => ?_) (fun e2 => ?_)
 ·replace h := cpos e2 h
  refine sr ?_
  refine sT 8 (.d (.agg (eStamp t1))) rfl (w_ldp (eStamp t1) (eStamp t1) rfl · · · ag24 rfl (ble _ _ rfl) rfl) ?_
  refine sq_cons _ (v_store_box (id := 4) (off := 0) (cs := (eStamp t1).map V.d) rfl trivial rfl sz24 rfl rfl rfl rfl (ones_of rfl) (ble _ _ rfl)) ?_
  refine sq_nil ?_
  refine ht_ret ?_
  cases h
  exact ret1 rfl (.cell rfl rfl ag24 (ble _ _ rfl) rfl)
 replace h := cneg e2 h
 refine ht_skip ?_
 refine sr ?_
 refine sT 9 (.d (.agg (eStamp t0))) rfl (w_ldp (eStamp t0) (eStamp t0) rfl · · · ag24 rfl (ble _ _ rfl) rfl) ?_
 refine sq_cons _ (v_store_box (id := 4) (off := 0) (cs := (eStamp t0).map V.d) rfl trivial rfl sz24 rfl rfl rfl rfl (ones_of rfl) (ble _ _ rfl)) ?_
 refine sq_nil ?_
 refine ht_ret ?_
 cases h
 exact ret1 rfl (.cell rfl rfl ag24 (ble _ _ rfl) rfl)
theorem s79 (k : Nat) (t0 : Cell) (t1 : Shard) (t2 : Bool) (r : Cell) (h : F79 k t0 t1 t2 = some r) : Awp.Spec Tryz.prog amb 79 [(.agg (eCell t0)), (.agg (eShard t1)), (.s (.bool t2))] (.ds [(.agg (eCell r))]) := by
 rw [F79] at h
 refine spec_of Tryz.func79 rfl (ble _ _ rfl) fun w0 ok0 lt0 hA => ?_
 refine sr ?_
 refine sq_cons _ (v_box (id := 3) (cs := (eCell t0).map V.d) rfl trivial rfl (ble _ _ rfl) rfl rfl (ones_of rfl) rfl) ?_
 refine sT 4 (.d (.dp (eShard t1))) rfl (v_box_d (cs := (eShard t1)) rfl · · · rfl rfl (ones_of rfl)) ?_
 refine sq_cons _ (v_alloc (id := 6) (cs := zc26) rfl trivial rfl (ble _ _ rfl) zu26 rfl ft26 rfl) ?_
 refine sq_nil ?_
 refine sr ?_
 refine sM 7 (.d (.s (.slice none 0 0))) rfl rfl ?_
 refine sq_nil ?_
 refine sr ?_
 refine sM 10 (bV t2) rfl rfl ?_
 refine sM 8 (bV t2) rfl rfl ?_
 refine sq_nil ?_
 refine ht_bj h (fun (t7, t8) => tell [(.b 3, .box false 5), (.b 6, .box false 5), (.b 1007, .row false 45 17 (t7.map eShard)), (.c 3 0, .d (.sl 17 (t0.mShards.map eShard))), (.c 3 1, iV t0.mTop.mWall), (.c 3 2, iV t0.mTop.mTick), (.c 3 3, iV t0.mTop.mNode), (.c 3 4, iV t0.mDropped), (.c 6 0, .d (.sl 17 (([] : List Shard).map eShard))), (.c 6 1, iV 0), (.c 6 2, iV 0), (.c 6 3, iV 0), (.c 6 4, iV 0), (.t 3, .ptr 3 0), (.t 4, .d (.dp (eShard t1))), (.t 6, .ptr 6 0), (.t 7, .own 1007 17 t7.length), (.t 8, bV t8)]) (fun v1 h => ?_) (fun v1 K2 h j4 => ?_)
 ·obtain ⟨t7, t8⟩ := v1
  refine ht_seq ?_
  refine sr ?_
  refine sM 52 (bV t8) rfl rfl ?_
  refine sT 53 (bV (!t8)) rfl (v_un rfl · · · rfl (u_not rfl)) ?_
  refine sq_nil ?_
  refine ht_cond rfl (fun e34 => ?_) (fun e34 => ?_)
  ·replace h := cpos e34 h
   refine ht_region ?_
   refine sM 54 (.own 1007 17 t7.length) rfl rfl ?_
   refine sT 55 (.d (.agg (eShard t1))) rfl (w_ldp (eShard t1) (eShard t1) rfl · · · ag45 rfl (ble _ _ rfl) rfl) ?_
   refine sq_cons ⟨_, [(.b 56, .row false 45 17 (([t1]).map eShard)), (.t 56, .own 56 17 ([t1]).length)]⟩ (w_bsl (id := 56) [(0, .d (.agg (eShard t1)))] [t1] eShard rfl trivial rfl (ble _ _ rfl) slT22 zr45 teShard (ble _ _ rfl) rfl (by kernel_rfl) rfl rfl (by kernel_rfl) (by kernel_rfl)) ?_
   obtain ⟨e35, h⟩ := gpos h
   refine sq_cons ⟨_, [(.b 1007, .spent), (.b 57, .row false 45 17 ((t7 ++ [t1]).map eShard)), (.t 57, .own 57 17 (t7 ++ [t1]).length)]⟩ (w_app 57 t7 ([t1]) eShard rfl rfl trivial rfl (ble _ _ rfl) slT22 elT45 teShard rfl rfl rfl (.own 56 _ _ rfl) rfl e35) ?_
   refine sM 7 (.own 57 17 (t7 ++ [t1]).length) rfl rfl ?_
   refine sq_nil ?_
   refine sr ?_
   refine sM 58 (.own 57 17 (t7 ++ [t1]).length) rfl rfl ?_
   refine sT 59 (.ptr 3 0) rfl (v_field_box (off := 0) (a0 := 0) rfl · · · fo26_0 rfl) ?_
   refine sq_cons _ (v_store_box (id := 3) (off := 0) (cs := [.own 57 17 (t7 ++ [t1]).length]) rfl trivial rfl sz22 rfl rfl rfl rfl (ones_of rfl) (ble _ _ rfl)) ?_
   refine sq_nil ?_
   refine ht_seq ?_
   refine ht_weak (wk_still_row 57 _ _ _ rfl) ?_
   refine ht_weak (wk_row (.c 3 0) (nc 3 0) 57 _ _ _ _ rfl rfl (lm _ _)) ?_
   refine ht_weak (wk_row (.t 7) (nb 7) 57 _ _ _ _ rfl rfl (lm _ _)) ?_
   refine ht_weak (wk_row (.t 57) (nb 57) 57 _ _ _ _ rfl rfl (lm _ _)) ?_
   refine ht_weak (wk_row (.t 58) (nb 58) 57 _ _ _ _ rfl rfl (lm _ _)) ?_
   refine ht_region ?_
   refine sT 60 (.d (.agg (eCell ({t0 with mShards := (t7 ++ [t1])})))) rfl (w_ldb 3 0 rfl · · · ag26 rfl rfl (ble _ _ rfl) rfl) ?_
   refine sq_cons _ (v_store_box (id := 6) (off := 0) (cs := (eCell ({t0 with mShards := (t7 ++ [t1])})).map V.d) rfl trivial rfl sz26 rfl rfl rfl rfl (ones_of rfl) (ble _ _ rfl)) ?_
   refine sq_nil ?_
   refine ht_ret ?_
   cases h
   exact ret1 rfl (.cell rfl rfl ag26 (ble _ _ rfl) rfl)
  replace h := cneg e34 h
  refine ht_skip ?_
  refine sr ?_
  refine sM 58 (.own 1007 17 t7.length) rfl rfl ?_
  refine sT 59 (.ptr 3 0) rfl (v_field_box (off := 0) (a0 := 0) rfl · · · fo26_0 rfl) ?_
  refine sq_cons _ (v_store_box (id := 3) (off := 0) (cs := [.own 1007 17 t7.length]) rfl trivial rfl sz22 rfl rfl rfl rfl (ones_of rfl) (ble _ _ rfl)) ?_
  refine sq_nil ?_
  refine ht_seq ?_
  refine ht_weak (wk_still_row 1007 _ _ _ rfl) ?_
  refine ht_weak (wk_row (.c 3 0) (nc 3 0) 1007 _ _ _ _ rfl rfl (lm _ _)) ?_
  refine ht_weak (wk_row (.t 7) (nb 7) 1007 _ _ _ _ rfl rfl (lm _ _)) ?_
  refine ht_weak (wk_row (.t 58) (nb 58) 1007 _ _ _ _ rfl rfl (lm _ _)) ?_
  refine ht_region ?_
  refine sT 60 (.d (.agg (eCell ({t0 with mShards := t7})))) rfl (w_ldb 3 0 rfl · · · ag26 rfl rfl (ble _ _ rfl) rfl) ?_
  refine sq_cons _ (v_store_box (id := 6) (off := 0) (cs := (eCell ({t0 with mShards := t7})).map V.d) rfl trivial rfl sz26 rfl rfl rfl rfl (ones_of rfl) (ble _ _ rfl)) ?_
  refine sq_nil ?_
  refine ht_ret ?_
  cases h
  exact ret1 rfl (.cell rfl rfl ag26 (ble _ _ rfl) rfl)
 refine sr ?_
 refine sM 9 (iV 0) rfl rfl ?_
 refine sq_nil ?_
 refine ht_block ?_
 refine ht_rd h (fun _ => rfl) (fun (t7_1, t8_1, t9) => tell [(.b 3, .box false 5), (.b 6, .box false 5), (.b 1007, .row false 45 17 (t7_1.map eShard)), (.c 3 0, .d (.sl 17 (t0.mShards.map eShard))), (.c 3 1, iV t0.mTop.mWall), (.c 3 2, iV t0.mTop.mTick), (.c 3 3, iV t0.mTop.mNode), (.c 3 4, iV t0.mDropped), (.c 6 0, .d (.sl 17 (([] : List Shard).map eShard))), (.c 6 1, iV 0), (.c 6 2, iV 0), (.c 6 3, iV 0), (.c 6 4, iV 0), (.t 3, .ptr 3 0), (.t 4, .d (.dp (eShard t1))), (.t 6, .ptr 6 0), (.t 7, .own 1007 17 t7_1.length), (.t 8, bV t8_1), (.t 9, iV t9)]) (wkt (wk_nilrow (.t 7) (nb 7) 1001007 45 17 rfl rfl) (wk_ren _ (fun i => bif Nat.beq i 1007 then 1001007 else i) rfl ⟨rfl, rfl, rfl, rfl, rfl, rfl, rfl, rfl, rfl, rfl, rfl, rfl, rfl, rfl, rfl, rfl, rfl, rfl, rfl, trivial⟩)) fun k v8 h K33 j7 => ?_
 obtain ⟨t7_1, t8_1, t9⟩ := v8
 rw [F79_l1] at h
 refine ht_seq ?_
 refine sr ?_
 refine sM 11 (iV t9) rfl rfl ?_
 refine sT 12 (.ptr 3 0) rfl (v_field_box (off := 0) (a0 := 0) rfl · · · fo26_0 rfl) ?_
 refine sT 13 (.d (.sl 17 (t0.mShards.map eShard))) rfl (v_load_box1 (id := 3) (off := 0) rfl · · · onT22 rfl rfl (ble _ _ rfl) rfl) ?_
 refine sT 14 (iV (t0.mShards.length : Int)) rfl (w_len t0.mShards eShard rfl rfl · · · slT22 rfl) ?_
 refine sT 15 (bV (ltI t9 (t0.mShards.length : Int))) rfl (v_bin rfl · · · rfl rfl (b_lss rfl)) ?_
 refine sq_nil ?_
 refine ht_cond rfl (fun e9 => ?_) (fun e9 => ?_)
 ·replace h := cpos e9 h
  refine ht_skip ?_
  refine ht_seq ?_
  refine ht_block ?_
  refine ht_bj h (fun (t7_2, t8_2) => tell [(.b 3, .box false 5), (.b 6, .box false 5), (.b 1007, .row false 45 17 (t7_2.map eShard)), (.c 3 0, .d (.sl 17 (t0.mShards.map eShard))), (.c 3 1, iV t0.mTop.mWall), (.c 3 2, iV t0.mTop.mTick), (.c 3 3, iV t0.mTop.mNode), (.c 3 4, iV t0.mDropped), (.c 6 0, .d (.sl 17 (([] : List Shard).map eShard))), (.c 6 1, iV 0), (.c 6 2, iV 0), (.c 6 3, iV 0), (.c 6 4, iV 0), (.t 3, .ptr 3 0), (.t 4, .d (.dp (eShard t1))), (.t 6, .ptr 6 0), (.t 7, .own 1007 17 t7_2.length), (.t 8, bV t8_2), (.t 9, iV t9)]) (fun v10 h => ?_) (fun v10 K11 h j13 => ?_)
  ·obtain ⟨t7_2, t8_2⟩ := v10
   refine ht_seq ?_
   refine ht_region_draw mixed ?_
   refine rT 35 (.ptr 3 0) rfl (v_field_box (off := 0) (a0 := 0) rfl · · · fo26_0 rfl) ?_
   refine rT 36 (.d (.sl 17 (t0.mShards.map eShard))) rfl (v_load_box1 (id := 3) (off := 0) rfl · · · onT22 rfl rfl (ble _ _ rfl) rfl) ?_
   refine rM 37 (iV t9) rfl rfl ?_
   obtain ⟨e29, h⟩ := gpos h
   refine rT 38 (.d (.dp (eShard (rd t0.mShards t9)))) rfl (w_idx t0.mShards eShard rfl · · · slT22 rfl rfl e29) ?_
   refine rT 39 (.d (.dp (eShard (rd t0.mShards t9)))) rfl (v_field_dp (a0 := 0) (cs := (eShard (rd t0.mShards t9))) rfl · · · fo45_0 rfl) ?_
   refine rT 40 (iV (rd t0.mShards t9).mID) rfl (v_load_dp1 rfl · · · onT3 rfl rfl) ?_
   refine rT 41 (.d (.dp (eShard t1))) rfl (v_field_dp (a0 := 0) (cs := (eShard t1)) rfl · · · fo45_0 rfl) ?_
   refine rT 42 (iV t1.mID) rfl (v_load_dp1 rfl · · · onT3 rfl rfl) ?_
   refine rT 43 (bV (!eqI (rd t0.mShards t9).mID t1.mID)) rfl (v_bin rfl · · · rfl rfl (b_neq rfl)) ?_
   refine rg_nil ⟨by kernel_rfl, ?_⟩
   refine ht_cond rfl (fun e30 => ?_) (fun e30 => ?_)
   ·replace h := cpos e30 h
    refine ht_region ?_
    refine sM 44 (.own 1007 17 t7_2.length) rfl rfl ?_
    refine sT 45 (.ptr 3 0) rfl (v_field_box (off := 0) (a0 := 0) rfl · · · fo26_0 rfl) ?_
    refine sT 46 (.d (.sl 17 (t0.mShards.map eShard))) rfl (v_load_box1 (id := 3) (off := 0) rfl · · · onT22 rfl rfl (ble _ _ rfl) rfl) ?_
    refine sM 47 (iV t9) rfl rfl ?_
    obtain ⟨e31, h⟩ := gpos h
    refine sT 48 (.d (.dp (eShard (rd t0.mShards t9)))) rfl (w_idx t0.mShards eShard rfl · · · slT22 rfl rfl e31) ?_
    refine sT 49 (.d (.agg (eShard (rd t0.mShards t9)))) rfl (w_ldp (eShard (rd t0.mShards t9)) (eShard (rd t0.mShards t9)) rfl · · · ag45 rfl (ble _ _ rfl) rfl) ?_
    refine sq_cons ⟨_, [(.b 50, .row false 45 17 (([(rd t0.mShards t9)]).map eShard)), (.t 50, .own 50 17 ([(rd t0.mShards t9)]).length)]⟩ (w_bsl (id := 50) [(0, .d (.agg (eShard (rd t0.mShards t9))))] [(rd t0.mShards t9)] eShard rfl trivial rfl (ble _ _ rfl) slT22 zr45 teShard (ble _ _ rfl) rfl (by kernel_rfl) rfl rfl (by kernel_rfl) (by kernel_rfl)) ?_
    obtain ⟨e32, h⟩ := gpos h
    refine sq_cons ⟨_, [(.b 1007, .spent), (.b 51, .row false 45 17 ((t7_2 ++ [(rd t0.mShards t9)]).map eShard)), (.t 51, .own 51 17 (t7_2 ++ [(rd t0.mShards t9)]).length)]⟩ (w_app 51 t7_2 ([(rd t0.mShards t9)]) eShard rfl rfl trivial rfl (ble _ _ rfl) slT22 elT45 teShard rfl rfl rfl (.own 50 _ _ rfl) rfl e32) ?_
    refine sM 7 (.own 51 17 (t7_2 ++ [(rd t0.mShards t9)]).length) rfl rfl ?_
    refine sq_nil ?_
    refine ht_region ?_
    refine sM 16 (iV t9) rfl rfl ?_
    refine sT 17 (iV (IntKind.wrap .i64 (t9 + 1))) rfl (v_bin rfl · · · rfl rfl (b_add rfl)) ?_
    refine sM 9 (iV (IntKind.wrap .i64 (t9 + 1))) rfl rfl ?_
    refine sq_nil ?_
    exact j7 _ _ h (wk_ren _ (fun i => bif Nat.beq i 1007 then 51 else i) rfl ⟨rfl, rfl, rfl, rfl, rfl, rfl, rfl, rfl, rfl, rfl, rfl, rfl, rfl, rfl, rfl, rfl, rfl, rfl, rfl, trivial⟩)
   replace h := cneg e30 h
   refine ht_skip ?_
   refine ht_region ?_
   refine sM 16 (iV t9) rfl rfl ?_
   refine sT 17 (iV (IntKind.wrap .i64 (t9 + 1))) rfl (v_bin rfl · · · rfl rfl (b_add rfl)) ?_
   refine sM 9 (iV (IntKind.wrap .i64 (t9 + 1))) rfl rfl ?_
   refine sq_nil ?_
   exact j7 _ _ h (wk_ren _ (fun i => i) rfl ⟨rfl, rfl, rfl, rfl, rfl, rfl, rfl, rfl, rfl, rfl, rfl, rfl, rfl, rfl, rfl, rfl, rfl, rfl, rfl, trivial⟩)
  refine ht_seq ?_
  refine ht_region_draw mixed ?_
  refine rM 18 (bV t8_1) rfl rfl ?_
  refine rT 19 (bV (!t8_1)) rfl (v_un rfl · · · rfl (u_not rfl)) ?_
  refine rM 20 (bV (!t8_1)) rfl rfl ?_
  refine rG 21 (.d (.dp (eShard t1))) rfl rfl (fun e15 => (v_field_dp (a0 := 0) (cs := (eShard t1)) rfl · · · fo45_0 rfl)) ?_
  refine rG 22 (iV t1.mID) rfl rfl (fun e16 => (v_load_dp1 rfl · · · onT3 (gv e16) rfl)) ?_
  refine rG 23 (.ptr 3 0) rfl rfl (fun e17 => (v_field_box (off := 0) (a0 := 0) rfl · · · fo26_0 rfl)) ?_
  refine rG 24 (.d (.sl 17 (t0.mShards.map eShard))) rfl rfl (fun e18 => (v_load_box1 (id := 3) (off := 0) rfl · · · onT22 (gv e18) rfl (ble _ _ rfl) rfl)) ?_
  refine rG 25 (iV t9) rfl rfl (fun e19 => (v_move (.inl rfl) · · · rfl)) ?_
  obtain ⟨e21, h⟩ := gpos h
  refine rG 26 (.d (.dp (eShard (rd t0.mShards t9)))) rfl rfl (fun e20 => (w_idx t0.mShards eShard rfl · · · slT22 (gv e20) (gv e20) (orT e21 e20))) ?_
  refine rG 27 (.d (.dp (eShard (rd t0.mShards t9)))) rfl rfl (fun e22 => (v_field_dp (a0 := 0) (cs := (eShard (rd t0.mShards t9))) rfl · · · fo45_0 (gv e22))) ?_
  refine rG 28 (iV (rd t0.mShards t9).mID) rfl rfl (fun e23 => (v_load_dp1 rfl · · · onT3 (gv e23) rfl)) ?_
  refine rG 29 (bV (leI t1.mID (rd t0.mShards t9).mID)) rfl rfl (fun e24 => (v_bin rfl · · · (gv e24) (gv e24) (b_leq rfl))) ?_
  refine rT 30 (bV ((!t8_1) && (leI t1.mID (rd t0.mShards t9).mID))) rfl (v_pickB rfl · · · rfl (fun e25 => (gv e25)) (fun e26 => rfl) (pA _ _)) ?_
  refine rg_nil ⟨by kernel_rfl, ?_⟩
  refine ht_cond rfl (fun e27 => ?_) (fun e27 => ?_)
  ·replace h := cpos e27 h
   refine sr ?_
   refine sM 31 (.own 1007 17 t7_1.length) rfl rfl ?_
   refine sT 32 (.d (.agg (eShard t1))) rfl (w_ldp (eShard t1) (eShard t1) rfl · · · ag45 rfl (ble _ _ rfl) rfl) ?_
   refine sq_cons ⟨_, [(.b 33, .row false 45 17 (([t1]).map eShard)), (.t 33, .own 33 17 ([t1]).length)]⟩ (w_bsl (id := 33) [(0, .d (.agg (eShard t1)))] [t1] eShard rfl trivial rfl (ble _ _ rfl) slT22 zr45 teShard (ble _ _ rfl) rfl (by kernel_rfl) rfl rfl (by kernel_rfl) (by kernel_rfl)) ?_
   obtain ⟨e28, h⟩ := gpos h
   refine sq_cons ⟨_, [(.b 1007, .spent), (.b 34, .row false 45 17 ((t7_1 ++ [t1]).map eShard)), (.t 34, .own 34 17 (t7_1 ++ [t1]).length)]⟩ (w_app 34 t7_1 ([t1]) eShard rfl rfl trivial rfl (ble _ _ rfl) slT22 elT45 teShard rfl rfl rfl (.own 33 _ _ rfl) rfl e28) ?_
   refine sM 7 (.own 34 17 (t7_1 ++ [t1]).length) rfl rfl ?_
   refine sq_nil ?_
   refine ht_region ?_
   refine sM 8 (bV true) rfl rfl ?_
   refine sq_nil ?_
   cases h
   exact j13 _ (wk_ren _ (fun i => bif Nat.beq i 1007 then 34 else i) rfl ⟨rfl, rfl, rfl, rfl, rfl, rfl, rfl, rfl, rfl, rfl, rfl, rfl, rfl, rfl, rfl, rfl, rfl, rfl, rfl, trivial⟩)
  replace h := cneg e27 h
  refine ht_skip ?_
  cases h
  exact j13 _ (wk_ren _ (fun i => i) rfl ⟨rfl, rfl, rfl, rfl, rfl, rfl, rfl, rfl, rfl, rfl, rfl, rfl, rfl, rfl, rfl, rfl, rfl, rfl, rfl, trivial⟩)
 replace h := cneg e9 h
 refine ht_exit ?_
 refine tq ?_
 refine tq ?_
 refine bq_hit ?_
 cases h
 exact j4 _ (wk_ren _ (fun i => i) rfl ⟨rfl, rfl, rfl, rfl, rfl, rfl, rfl, rfl, rfl, rfl, rfl, rfl, rfl, rfl, rfl, rfl, rfl, rfl, trivial⟩)
theorem s102 (k : Nat) (t0 : List Version) (t1 : List Version) (r : Bool) (h : F102 k t0 t1 = some r) : Awp.Spec Tryz.prog amb 102 [(.sl 5 (t0.map eVersion)), (.sl 5 (t1.map eVersion))] (.ds [(.s (.bool r))]) := by
 rw [F102] at h
 refine spec_of Tryz.func102 rfl (ble _ _ rfl) fun w0 ok0 lt0 hA => ?_
 refine sr ?_
 refine sM 4 (bV false) rfl rfl ?_
 refine sq_nil ?_
 refine ht_seq ?_
 refine sr ?_
 refine sM 6 (.d (.sl 5 (t0.map eVersion))) rfl rfl ?_
 refine sT 7 (iV (t0.length : Int)) rfl (w_len t0 eVersion rfl rfl · · · slT96 rfl) ?_
 refine sM 8 (.d (.sl 5 (t1.map eVersion))) rfl rfl ?_
 refine sT 9 (iV (t1.length : Int)) rfl (w_len t1 eVersion rfl rfl · · · slT96 rfl) ?_
 refine sT 10 (bV (!eqI (t0.length : Int) (t1.length : Int))) rfl (v_bin rfl · · · rfl rfl (b_neq rfl)) ?_
 refine sq_nil ?_
 refine ht_cond rfl (fun e1 => ?_) (fun e1 => ?_)
 ·replace h := cpos e1 h
  refine sr ?_
  refine sM 4 (bV false) rfl rfl ?_
  refine sq_nil ?_
  refine ht_ret ?_
  cases h
  exact ret1 rfl (.tmp rfl)
 replace h := cneg e1 h
 refine ht_skip ?_
 refine ht_gj (go_id' h) (fun _ => tell []) (fun _ h => ?_) (fun v2 K3 h j5 r6 => ?_)
 ·refine sr ?_
  refine sM 4 (bV true) rfl rfl ?_
  refine sq_nil ?_
  refine ht_ret ?_
  cases h
  exact ret1 rfl (.tmp rfl)
 refine sr ?_
 refine sM 5 (iV 0) rfl rfl ?_
 refine sq_nil ?_
 refine ht_block ?_
 refine ht_rd h (fun _ => rfl) (fun t5 => tell [(.t 0, .d (.sl 5 (t0.map eVersion))), (.t 1, .d (.sl 5 (t1.map eVersion))), (.t 5, iV t5)]) (wk_ren _ (fun i => i) rfl ⟨rfl, rfl, rfl, trivial⟩) fun k t5 h K14 j8 => ?_
 rw [F102_l1] at h
 refine ht_seq ?_
 refine sr ?_
 refine sM 11 (iV t5) rfl rfl ?_
 refine sM 12 (.d (.sl 5 (t0.map eVersion))) rfl rfl ?_
 refine sT 13 (iV (t0.length : Int)) rfl (w_len t0 eVersion rfl rfl · · · slT96 rfl) ?_
 refine sT 14 (bV (ltI t5 (t0.length : Int))) rfl (v_bin rfl · · · rfl rfl (b_lss rfl)) ?_
 refine sq_nil ?_
 refine ht_cond rfl (fun e10 => ?_) (fun e10 => ?_)
 ·replace h := cpos e10 h
  refine ht_skip ?_
  refine ht_seq ?_
  refine ht_block ?_
  refine ht_seq ?_
  refine ht_region_draw mixed ?_
  refine rM 17 (.d (.sl 5 (t0.map eVersion))) rfl rfl ?_
  refine rM 18 (iV t5) rfl rfl ?_
  obtain ⟨e11, h⟩ := gpos h
  refine rT 19 (.d (.dp (eVersion (rd t0 t5)))) rfl (w_idx t0 eVersion rfl · · · slT96 rfl rfl e11) ?_
  refine rT 20 (.d (.agg (eVersion (rd t0 t5)))) rfl (w_ldp (eVersion (rd t0 t5)) (eVersion (rd t0 t5)) rfl · · · ag93 rfl (ble _ _ rfl) rfl) ?_
  refine rM 21 (.d (.sl 5 (t1.map eVersion))) rfl rfl ?_
  refine rM 22 (iV t5) rfl rfl ?_
  obtain ⟨e12, h⟩ := gpos h
  refine rT 23 (.d (.dp (eVersion (rd t1 t5)))) rfl (w_idx t1 eVersion rfl · · · slT96 rfl rfl e12) ?_
  refine rT 24 (.d (.agg (eVersion (rd t1 t5)))) rfl (w_ldp (eVersion (rd t1 t5)) (eVersion (rd t1 t5)) rfl · · · ag93 rfl (ble _ _ rfl) rfl) ?_
  refine rT 25 (bV (!(qVersion (rd t0 t5) (rd t1 t5)))) rfl (v_bin_neq (f := eVersion) rfl · · · rfl rfl rfl rfl eg93 (eq93 _ _)) ?_
  refine rg_nil ⟨by kernel_rfl, ?_⟩
  refine ht_cond rfl (fun e13 => ?_) (fun e13 => ?_)
  ·replace h := cpos e13 h
   refine sr ?_
   refine sM 4 (bV false) rfl rfl ?_
   refine sq_nil ?_
   refine ht_ret ?_
   cases h
   cases r6 _ rfl
   exact ret1 rfl (.tmp rfl)
  replace h := cneg e13 h
  refine ht_skip ?_
  refine ht_region ?_
  refine sM 15 (iV t5) rfl rfl ?_
  refine sT 16 (iV (IntKind.wrap .i64 (t5 + 1))) rfl (v_bin rfl · · · rfl rfl (b_add rfl)) ?_
  refine sM 5 (iV (IntKind.wrap .i64 (t5 + 1))) rfl rfl ?_
  refine sq_nil ?_
  exact j8 _ _ h (wk_ren _ (fun i => i) rfl ⟨rfl, rfl, rfl, trivial⟩)
 replace h := cneg e10 h
 refine ht_exit ?_
 refine tq ?_
 refine tq ?_
 refine bq_hit ?_
 cases h
 exact j5 _ _ rfl (wk_ren _ (fun i => i) rfl trivial)
theorem s40 (k : Nat) (t0 : List Entry) (t1 : List Entry) (r : Bool) (h : F40 k t0 t1 = some r) : Awp.Spec Tryz.prog amb 40 [(.sl 2 (t0.map eEntry)), (.sl 2 (t1.map eEntry))] (.ds [(.s (.bool r))]) := by
 rw [F40] at h
 refine spec_of Tryz.func40 rfl (ble _ _ rfl) fun w0 ok0 lt0 hA => ?_
 refine sr ?_
 refine sM 4 (bV false) rfl rfl ?_
 refine sq_nil ?_
 refine ht_seq ?_
 refine sr ?_
 refine sM 6 (.d (.sl 2 (t0.map eEntry))) rfl rfl ?_
 refine sT 7 (iV (t0.length : Int)) rfl (w_len t0 eEntry rfl rfl · · · slT42 rfl) ?_
 refine sM 8 (.d (.sl 2 (t1.map eEntry))) rfl rfl ?_
 refine sT 9 (iV (t1.length : Int)) rfl (w_len t1 eEntry rfl rfl · · · slT42 rfl) ?_
 refine sT 10 (bV (!eqI (t0.length : Int) (t1.length : Int))) rfl (v_bin rfl · · · rfl rfl (b_neq rfl)) ?_
 refine sq_nil ?_
 refine ht_cond rfl (fun e1 => ?_) (fun e1 => ?_)
 ·replace h := cpos e1 h
  refine sr ?_
  refine sM 4 (bV false) rfl rfl ?_
  refine sq_nil ?_
  refine ht_ret ?_
  cases h
  exact ret1 rfl (.tmp rfl)
 replace h := cneg e1 h
 refine ht_skip ?_
 refine ht_gj (go_id' h) (fun _ => tell []) (fun _ h => ?_) (fun v2 K3 h j5 r6 => ?_)
 ·refine sr ?_
  refine sM 4 (bV true) rfl rfl ?_
  refine sq_nil ?_
  refine ht_ret ?_
  cases h
  exact ret1 rfl (.tmp rfl)
 refine sr ?_
 refine sM 5 (iV 0) rfl rfl ?_
 refine sq_nil ?_
 refine ht_block ?_
 refine ht_rd h (fun _ => rfl) (fun t5 => tell [(.t 0, .d (.sl 2 (t0.map eEntry))), (.t 1, .d (.sl 2 (t1.map eEntry))), (.t 5, iV t5)]) (wk_ren _ (fun i => i) rfl ⟨rfl, rfl, rfl, trivial⟩) fun k t5 h K31 j8 => ?_
 rw [F40_l1] at h
 refine ht_seq ?_
 refine sr ?_
 refine sM 11 (iV t5) rfl rfl ?_
 refine sM 12 (.d (.sl 2 (t0.map eEntry))) rfl rfl ?_
 refine sT 13 (iV (t0.length : Int)) rfl (w_len t0 eEntry rfl rfl · · · slT42 rfl) ?_
 refine sT 14 (bV (ltI t5 (t0.length : Int))) rfl (v_bin rfl · · · rfl rfl (b_lss rfl)) ?_
 refine sq_nil ?_
 refine ht_cond rfl (fun e10 => ?_) (fun e10 => ?_)
 ·replace h := cpos e10 h
  refine ht_skip ?_
  refine ht_seq ?_
  refine ht_block ?_
  refine ht_seq ?_
  refine ht_region_draw mixed ?_
  refine rM 17 (.d (.sl 2 (t0.map eEntry))) rfl rfl ?_
  refine rM 18 (iV t5) rfl rfl ?_
  obtain ⟨e11, h⟩ := gpos h
  refine rT 19 (.d (.dp (eEntry (rd t0 t5)))) rfl (w_idx t0 eEntry rfl · · · slT42 rfl rfl e11) ?_
  refine rT 20 (.d (.dp (eEntry (rd t0 t5)))) rfl (v_field_dp (a0 := 0) (cs := (eEntry (rd t0 t5))) rfl · · · fo116_0 rfl) ?_
  refine rT 21 (sV (rd t0 t5).mKey) rfl (v_load_dp1 rfl · · · onT9 rfl rfl) ?_
  refine rM 22 (.d (.sl 2 (t1.map eEntry))) rfl rfl ?_
  refine rM 23 (iV t5) rfl rfl ?_
  obtain ⟨e12, h⟩ := gpos h
  refine rT 24 (.d (.dp (eEntry (rd t1 t5)))) rfl (w_idx t1 eEntry rfl · · · slT42 rfl rfl e12) ?_
  refine rT 25 (.d (.dp (eEntry (rd t1 t5)))) rfl (v_field_dp (a0 := 0) (cs := (eEntry (rd t1 t5))) rfl · · · fo116_0 rfl) ?_
  refine rT 26 (sV (rd t1 t5).mKey) rfl (v_load_dp1 rfl · · · onT9 rfl rfl) ?_
  refine rT 27 (bV (!strEq (rd t0 t5).mKey (rd t1 t5).mKey)) rfl (v_bin rfl · · · rfl rfl (b_neS rfl)) ?_
  refine rM 28 (bV (!strEq (rd t0 t5).mKey (rd t1 t5).mKey)) rfl rfl ?_
  refine rF 29 (.d (.sl 2 (t0.map eEntry))) rfl rfl (fun e13 => (v_move (.inl rfl) · · · rfl)) ?_
  refine rF 30 (iV t5) rfl rfl (fun e14 => (v_move (.inl rfl) · · · rfl)) ?_
  obtain ⟨e16, h⟩ := gpos h
  refine rF 31 (.d (.dp (eEntry (rd t0 t5)))) rfl rfl (fun e15 => (w_idx t0 eEntry rfl · · · slT42 (gv (nF e15)) (gv (nF e15)) (orT e16 (nF e15)))) ?_
  refine rF 32 (.d (.dp (List.drop 1 (eEntry (rd t0 t5))))) rfl rfl (fun e17 => (v_field_dp (a0 := 1) (cs := (eEntry (rd t0 t5))) rfl · · · fo116_1 (gv (nF e17)))) ?_
  refine rF 33 (.d (.sl 5 ((rd t0 t5).mChain.map eVersion))) rfl rfl (fun e18 => (v_load_dp1 rfl · · · onT96 (gv (nF e18)) rfl)) ?_
  refine rF 34 (.d (.sl 2 (t1.map eEntry))) rfl rfl (fun e19 => (v_move (.inl rfl) · · · rfl)) ?_
  refine rF 35 (iV t5) rfl rfl (fun e20 => (v_move (.inl rfl) · · · rfl)) ?_
  obtain ⟨e22, h⟩ := gpos h
  refine rF 36 (.d (.dp (eEntry (rd t1 t5)))) rfl rfl (fun e21 => (w_idx t1 eEntry rfl · · · slT42 (gv (nF e21)) (gv (nF e21)) (orT e22 (nF e21)))) ?_
  refine rF 37 (.d (.dp (List.drop 1 (eEntry (rd t1 t5))))) rfl rfl (fun e23 => (v_field_dp (a0 := 1) (cs := (eEntry (rd t1 t5))) rfl · · · fo116_1 (gv (nF e23)))) ?_
  refine rF 38 (.d (.sl 5 ((rd t1 t5).mChain.map eVersion))) rfl rfl (fun e24 => (v_load_dp1 rfl · · · onT96 (gv (nF e24)) rfl)) ?_
  obtain ⟨t39, c26, h⟩ := bpos h
  refine rF 39 (bV t39) rfl rfl (fun e25 => (w_call (ds := [(.sl 5 ((rd t0 t5).mChain.map eVersion)), (.sl 5 ((rd t1 t5).mChain.map eVersion))]) (caps := []) (l := [(.s (.bool t39))]) (s102 k (rd t0 t5).mChain (rd t1 t5).mChain _ (cpos (nF e25) c26)) rfl rfl rfl en102 · · · (.inl ⟨rfl, rfl⟩) (cc (gv (nF e25)) (cc (gv (nF e25)) rfl)) rfl)) ?_
  refine rF 40 (bV (!t39)) rfl rfl (fun e27 => (v_un rfl · · · (gv (nF e27)) (u_not rfl))) ?_
  refine rT 41 (bV ((!strEq (rd t0 t5).mKey (rd t1 t5).mKey) || (!t39))) rfl (v_pickB rfl · · · rfl (fun e28 => rfl) (fun e29 => (gv (nF e29))) (pO _ _)) ?_
  refine rg_nil ⟨by kernel_rfl, ?_⟩
  refine ht_cond rfl (fun e30 => ?_) (fun e30 => ?_)
  ·replace h := cpos e30 h
   refine sr ?_
   refine sM 4 (bV false) rfl rfl ?_
   refine sq_nil ?_
   refine ht_ret ?_
   cases h
   cases r6 _ rfl
   exact ret1 rfl (.tmp rfl)
  replace h := cneg e30 h
  refine ht_skip ?_
  refine ht_region ?_
  refine sM 15 (iV t5) rfl rfl ?_
  refine sT 16 (iV (IntKind.wrap .i64 (t5 + 1))) rfl (v_bin rfl · · · rfl rfl (b_add rfl)) ?_
  refine sM 5 (iV (IntKind.wrap .i64 (t5 + 1))) rfl rfl ?_
  refine sq_nil ?_
  exact j8 _ _ h (wk_ren _ (fun i => i) rfl ⟨rfl, rfl, rfl, trivial⟩)
 replace h := cneg e10 h
 refine ht_exit ?_
 refine tq ?_
 refine tq ?_
 refine bq_hit ?_
 cases h
 exact j5 _ _ rfl (wk_ren _ (fun i => i) rfl trivial)
end Go.Proofs.Gd
set_option linter.unusedVariables false
set_option maxRecDepth 100000
set_option maxHeartbeats 4000000
namespace Go.Proofs.Gd
open Go Go.Awp Go.Proofs
theorem s19 (k : Nat) (t0 : Answer) (t1 : Answer) (r : Bool) (h : F19 k t0 t1 = some r) : Awp.Spec Tryz.prog amb 19 [(.agg (eAnswer t0)), (.agg (eAnswer t1))] (.ds [(.s (.bool r))]) := by
 rw [F19] at h
 refine spec_of Tryz.func19 rfl (ble _ _ rfl) fun w0 ok0 lt0 hA => ?_
 refine sr ?_
 refine sT 2 (.d (.dp (eAnswer t0))) rfl (v_box_d (cs := (eAnswer t0)) rfl · · · rfl rfl (ones_of rfl)) ?_
 refine sT 3 (.d (.dp (eAnswer t1))) rfl (v_box_d (cs := (eAnswer t1)) rfl · · · rfl rfl (ones_of rfl)) ?_
 refine sM 4 (bV false) rfl rfl ?_
 refine sq_nil ?_
 refine ht_seq ?_
 refine sr ?_
 refine sT 6 (.d (.dp (List.drop 6 (eAnswer t0)))) rfl (v_field_dp (a0 := 6) (cs := (eAnswer t0)) rfl · · · fo34_4 rfl) ?_
 refine sT 7 (.d (.sl 2 (t0.mItems.map eItem))) rfl (v_load_dp1 rfl · · · onT32 rfl rfl) ?_
 refine sT 8 (iV (t0.mItems.length : Int)) rfl (w_len t0.mItems eItem rfl rfl · · · slT32 rfl) ?_
 refine sT 9 (.d (.dp (List.drop 6 (eAnswer t1)))) rfl (v_field_dp (a0 := 6) (cs := (eAnswer t1)) rfl · · · fo34_4 rfl) ?_
 refine sT 10 (.d (.sl 2 (t1.mItems.map eItem))) rfl (v_load_dp1 rfl · · · onT32 rfl rfl) ?_
 refine sT 11 (iV (t1.mItems.length : Int)) rfl (w_len t1.mItems eItem rfl rfl · · · slT32 rfl) ?_
 refine sT 12 (bV (!eqI (t0.mItems.length : Int) (t1.mItems.length : Int))) rfl (v_bin rfl · · · rfl rfl (b_neq rfl)) ?_
 refine sq_nil ?_
 refine ht_cond rfl (fun e1 => ?_) (fun e1 => ?_)
 ·replace h := cpos e1 h
  refine sr ?_
  refine sM 4 (bV false) rfl rfl ?_
  refine sq_nil ?_
  refine ht_ret ?_
  cases h
  exact ret1 rfl (.tmp rfl)
 replace h := cneg e1 h
 refine ht_skip ?_
 refine ht_gj (go_id' h) (fun _ => tell [(.t 2, .d (.dp (eAnswer t0))), (.t 3, .d (.dp (eAnswer t1)))]) (fun _ h => ?_) (fun v2 K3 h j5 r6 => ?_)
 ·refine sr ?_
  refine sT 31 (.d (.dp (eAnswer t0))) rfl (v_field_dp (a0 := 0) (cs := (eAnswer t0)) rfl · · · fo34_0 rfl) ?_
  refine sT 32 (iV t0.mErr) rfl (v_load_dp1 rfl · · · onT31 rfl rfl) ?_
  refine sT 33 (.d (.dp (eAnswer t1))) rfl (v_field_dp (a0 := 0) (cs := (eAnswer t1)) rfl · · · fo34_0 rfl) ?_
  refine sT 34 (iV t1.mErr) rfl (v_load_dp1 rfl · · · onT31 rfl rfl) ?_
  refine sT 35 (bV (eqI t0.mErr t1.mErr)) rfl (v_bin rfl · · · rfl rfl (b_eql rfl)) ?_
  refine sM 36 (bV (eqI t0.mErr t1.mErr)) rfl rfl ?_
  refine sG 37 (.d (.dp (List.drop 1 (eAnswer t0)))) rfl rfl (fun e15 => (v_field_dp (a0 := 1) (cs := (eAnswer t0)) rfl · · · fo34_1 rfl)) ?_
  refine sG 38 (.d (.agg (eStamp t0.mAt))) rfl rfl (fun e16 => (w_ldp (List.drop 1 (eAnswer t0)) (eStamp t0.mAt) rfl · · · ag24 (gv e16) (ble _ _ rfl) rfl)) ?_
  refine sG 39 (.d (.dp (List.drop 1 (eAnswer t1)))) rfl rfl (fun e17 => (v_field_dp (a0 := 1) (cs := (eAnswer t1)) rfl · · · fo34_1 rfl)) ?_
  refine sG 40 (.d (.agg (eStamp t1.mAt))) rfl rfl (fun e18 => (w_ldp (List.drop 1 (eAnswer t1)) (eStamp t1.mAt) rfl · · · ag24 (gv e18) (ble _ _ rfl) rfl)) ?_
  refine sG 41 (bV (qStamp t0.mAt t1.mAt)) rfl rfl (fun e19 => (v_bin_eql (f := eStamp) rfl · · · (gv e19) (gv e19) rfl rfl eg24 (eq24 _ _))) ?_
  refine sT 42 (bV ((eqI t0.mErr t1.mErr) && (qStamp t0.mAt t1.mAt))) rfl (v_pickB rfl · · · rfl (fun e20 => (gv e20)) (fun e21 => rfl) (pA _ _)) ?_
  refine sM 43 (bV ((eqI t0.mErr t1.mErr) && (qStamp t0.mAt t1.mAt))) rfl rfl ?_
  refine sG 44 (.d (.dp (List.drop 4 (eAnswer t0)))) rfl rfl (fun e22 => (v_field_dp (a0 := 4) (cs := (eAnswer t0)) rfl · · · fo34_2 rfl)) ?_
  refine sG 45 (bV t0.mFound) rfl rfl (fun e23 => (v_load_dp1 rfl · · · onT4 (gv e23) rfl)) ?_
  refine sG 46 (.d (.dp (List.drop 4 (eAnswer t1)))) rfl rfl (fun e24 => (v_field_dp (a0 := 4) (cs := (eAnswer t1)) rfl · · · fo34_2 rfl)) ?_
  refine sG 47 (bV t1.mFound) rfl rfl (fun e25 => (v_load_dp1 rfl · · · onT4 (gv e25) rfl)) ?_
  refine sG 48 (bV (t0.mFound == t1.mFound)) rfl rfl (fun e26 => (v_bin rfl · · · (gv e26) (gv e26) (b_eqB und4 rfl))) ?_
  refine sT 49 (bV (((eqI t0.mErr t1.mErr) && (qStamp t0.mAt t1.mAt)) && (t0.mFound == t1.mFound))) rfl (v_pickB rfl · · · rfl (fun e27 => (gv e27)) (fun e28 => rfl) (pA _ _)) ?_
  refine sM 50 (bV (((eqI t0.mErr t1.mErr) && (qStamp t0.mAt t1.mAt)) && (t0.mFound == t1.mFound))) rfl rfl ?_
  refine sG 51 (.d (.dp (List.drop 5 (eAnswer t0)))) rfl rfl (fun e29 => (v_field_dp (a0 := 5) (cs := (eAnswer t0)) rfl · · · fo34_3 rfl)) ?_
  refine sG 52 (sV t0.mValue) rfl rfl (fun e30 => (v_load_dp1 rfl · · · onT9 (gv e30) rfl)) ?_
  refine sG 53 (.d (.dp (List.drop 5 (eAnswer t1)))) rfl rfl (fun e31 => (v_field_dp (a0 := 5) (cs := (eAnswer t1)) rfl · · · fo34_3 rfl)) ?_
  refine sG 54 (sV t1.mValue) rfl rfl (fun e32 => (v_load_dp1 rfl · · · onT9 (gv e32) rfl)) ?_
  refine sG 55 (bV (strEq t0.mValue t1.mValue)) rfl rfl (fun e33 => (v_bin rfl · · · (gv e33) (gv e33) (b_eqS rfl))) ?_
  refine sT 56 (bV ((((eqI t0.mErr t1.mErr) && (qStamp t0.mAt t1.mAt)) && (t0.mFound == t1.mFound)) && (strEq t0.mValue t1.mValue))) rfl (v_pickB rfl · · · rfl (fun e34 => (gv e34)) (fun e35 => rfl) (pA _ _)) ?_
  refine sM 57 (bV ((((eqI t0.mErr t1.mErr) && (qStamp t0.mAt t1.mAt)) && (t0.mFound == t1.mFound)) && (strEq t0.mValue t1.mValue))) rfl rfl ?_
  refine sG 58 (.d (.dp (List.drop 7 (eAnswer t0)))) rfl rfl (fun e36 => (v_field_dp (a0 := 7) (cs := (eAnswer t0)) rfl · · · fo34_5 rfl)) ?_
  refine sG 59 (sV t0.mNext) rfl rfl (fun e37 => (v_load_dp1 rfl · · · onT9 (gv e37) rfl)) ?_
  refine sG 60 (.d (.dp (List.drop 7 (eAnswer t1)))) rfl rfl (fun e38 => (v_field_dp (a0 := 7) (cs := (eAnswer t1)) rfl · · · fo34_5 rfl)) ?_
  refine sG 61 (sV t1.mNext) rfl rfl (fun e39 => (v_load_dp1 rfl · · · onT9 (gv e39) rfl)) ?_
  refine sG 62 (bV (strEq t0.mNext t1.mNext)) rfl rfl (fun e40 => (v_bin rfl · · · (gv e40) (gv e40) (b_eqS rfl))) ?_
  refine sT 63 (bV (((((eqI t0.mErr t1.mErr) && (qStamp t0.mAt t1.mAt)) && (t0.mFound == t1.mFound)) && (strEq t0.mValue t1.mValue)) && (strEq t0.mNext t1.mNext))) rfl (v_pickB rfl · · · rfl (fun e41 => (gv e41)) (fun e42 => rfl) (pA _ _)) ?_
  refine sM 64 (bV (((((eqI t0.mErr t1.mErr) && (qStamp t0.mAt t1.mAt)) && (t0.mFound == t1.mFound)) && (strEq t0.mValue t1.mValue)) && (strEq t0.mNext t1.mNext))) rfl rfl ?_
  refine sG 65 (.d (.dp (List.drop 8 (eAnswer t0)))) rfl rfl (fun e43 => (v_field_dp (a0 := 8) (cs := (eAnswer t0)) rfl · · · fo34_6 rfl)) ?_
  refine sG 66 (bV t0.mMore) rfl rfl (fun e44 => (v_load_dp1 rfl · · · onT4 (gv e44) rfl)) ?_
  refine sG 67 (.d (.dp (List.drop 8 (eAnswer t1)))) rfl rfl (fun e45 => (v_field_dp (a0 := 8) (cs := (eAnswer t1)) rfl · · · fo34_6 rfl)) ?_
  refine sG 68 (bV t1.mMore) rfl rfl (fun e46 => (v_load_dp1 rfl · · · onT4 (gv e46) rfl)) ?_
  refine sG 69 (bV (t0.mMore == t1.mMore)) rfl rfl (fun e47 => (v_bin rfl · · · (gv e47) (gv e47) (b_eqB und4 rfl))) ?_
  refine sT 70 (bV ((((((eqI t0.mErr t1.mErr) && (qStamp t0.mAt t1.mAt)) && (t0.mFound == t1.mFound)) && (strEq t0.mValue t1.mValue)) && (strEq t0.mNext t1.mNext)) && (t0.mMore == t1.mMore))) rfl (v_pickB rfl · · · rfl (fun e48 => (gv e48)) (fun e49 => rfl) (pA _ _)) ?_
  refine sM 4 (bV ((((((eqI t0.mErr t1.mErr) && (qStamp t0.mAt t1.mAt)) && (t0.mFound == t1.mFound)) && (strEq t0.mValue t1.mValue)) && (strEq t0.mNext t1.mNext)) && (t0.mMore == t1.mMore))) rfl rfl ?_
  refine sq_nil ?_
  refine ht_ret ?_
  cases h
  exact ret1 rfl (.tmp rfl)
 refine sr ?_
 refine sM 5 (iV 0) rfl rfl ?_
 refine sq_nil ?_
 refine ht_block ?_
 refine ht_rd h (fun _ => rfl) (fun t5 => tell [(.t 2, .d (.dp (eAnswer t0))), (.t 3, .d (.dp (eAnswer t1))), (.t 5, iV t5)]) (wk_ren _ (fun i => i) rfl ⟨rfl, rfl, rfl, trivial⟩) fun k t5 h K14 j8 => ?_
 rw [F19_l1] at h
 refine ht_seq ?_
 refine sr ?_
 refine sM 13 (iV t5) rfl rfl ?_
 refine sT 14 (.d (.dp (List.drop 6 (eAnswer t0)))) rfl (v_field_dp (a0 := 6) (cs := (eAnswer t0)) rfl · · · fo34_4 rfl) ?_
 refine sT 15 (.d (.sl 2 (t0.mItems.map eItem))) rfl (v_load_dp1 rfl · · · onT32 rfl rfl) ?_
 refine sT 16 (iV (t0.mItems.length : Int)) rfl (w_len t0.mItems eItem rfl rfl · · · slT32 rfl) ?_
 refine sT 17 (bV (ltI t5 (t0.mItems.length : Int))) rfl (v_bin rfl · · · rfl rfl (b_lss rfl)) ?_
 refine sq_nil ?_
 refine ht_cond rfl (fun e10 => ?_) (fun e10 => ?_)
 ·replace h := cpos e10 h
  refine ht_skip ?_
  refine ht_seq ?_
  refine ht_block ?_
  refine ht_seq ?_
  refine ht_region_draw mixed ?_
  refine rT 20 (.d (.dp (List.drop 6 (eAnswer t0)))) rfl (v_field_dp (a0 := 6) (cs := (eAnswer t0)) rfl · · · fo34_4 rfl) ?_
  refine rT 21 (.d (.sl 2 (t0.mItems.map eItem))) rfl (v_load_dp1 rfl · · · onT32 rfl rfl) ?_
  refine rM 22 (iV t5) rfl rfl ?_
  obtain ⟨e11, h⟩ := gpos h
  refine rT 23 (.d (.dp (eItem (rd t0.mItems t5)))) rfl (w_idx t0.mItems eItem rfl · · · slT32 rfl rfl e11) ?_
  refine rT 24 (.d (.agg (eItem (rd t0.mItems t5)))) rfl (w_ldp (eItem (rd t0.mItems t5)) (eItem (rd t0.mItems t5)) rfl · · · ag110 rfl (ble _ _ rfl) rfl) ?_
  refine rT 25 (.d (.dp (List.drop 6 (eAnswer t1)))) rfl (v_field_dp (a0 := 6) (cs := (eAnswer t1)) rfl · · · fo34_4 rfl) ?_
  refine rT 26 (.d (.sl 2 (t1.mItems.map eItem))) rfl (v_load_dp1 rfl · · · onT32 rfl rfl) ?_
  refine rM 27 (iV t5) rfl rfl ?_
  obtain ⟨e12, h⟩ := gpos h
  refine rT 28 (.d (.dp (eItem (rd t1.mItems t5)))) rfl (w_idx t1.mItems eItem rfl · · · slT32 rfl rfl e12) ?_
  refine rT 29 (.d (.agg (eItem (rd t1.mItems t5)))) rfl (w_ldp (eItem (rd t1.mItems t5)) (eItem (rd t1.mItems t5)) rfl · · · ag110 rfl (ble _ _ rfl) rfl) ?_
  refine rT 30 (bV (!(qItem (rd t0.mItems t5) (rd t1.mItems t5)))) rfl (v_bin_neq (f := eItem) rfl · · · rfl rfl rfl rfl eg110 (eq110 _ _)) ?_
  refine rg_nil ⟨by kernel_rfl, ?_⟩
  refine ht_cond rfl (fun e13 => ?_) (fun e13 => ?_)
  ·replace h := cpos e13 h
   refine sr ?_
   refine sM 4 (bV false) rfl rfl ?_
   refine sq_nil ?_
   refine ht_ret ?_
   cases h
   cases r6 _ rfl
   exact ret1 rfl (.tmp rfl)
  replace h := cneg e13 h
  refine ht_skip ?_
  refine ht_region ?_
  refine sM 18 (iV t5) rfl rfl ?_
  refine sT 19 (iV (IntKind.wrap .i64 (t5 + 1))) rfl (v_bin rfl · · · rfl rfl (b_add rfl)) ?_
  refine sM 5 (iV (IntKind.wrap .i64 (t5 + 1))) rfl rfl ?_
  refine sq_nil ?_
  exact j8 _ _ h (wk_ren _ (fun i => i) rfl ⟨rfl, rfl, rfl, trivial⟩)
 replace h := cneg e10 h
 refine ht_exit ?_
 refine tq ?_
 refine tq ?_
 refine bq_hit ?_
 cases h
 exact j5 _ _ rfl (wk_ren _ (fun i => i) rfl ⟨rfl, rfl, trivial⟩)
theorem s41 (k : Nat) (t0 : List Done) (t1 : List Done) (r : Bool) (h : F41 k t0 t1 = some r) : Awp.Spec Tryz.prog amb 41 [(.sl 11 (t0.map eDone)), (.sl 11 (t1.map eDone))] (.ds [(.s (.bool r))]) := by
 rw [F41] at h
 refine spec_of Tryz.func41 rfl (ble _ _ rfl) fun w0 ok0 lt0 hA => ?_
 refine sr ?_
 refine sM 4 (bV false) rfl rfl ?_
 refine sq_nil ?_
 refine ht_seq ?_
 refine sr ?_
 refine sM 6 (.d (.sl 11 (t0.map eDone))) rfl rfl ?_
 refine sT 7 (iV (t0.length : Int)) rfl (w_len t0 eDone rfl rfl · · · slT43 rfl) ?_
 refine sM 8 (.d (.sl 11 (t1.map eDone))) rfl rfl ?_
 refine sT 9 (iV (t1.length : Int)) rfl (w_len t1 eDone rfl rfl · · · slT43 rfl) ?_
 refine sT 10 (bV (!eqI (t0.length : Int) (t1.length : Int))) rfl (v_bin rfl · · · rfl rfl (b_neq rfl)) ?_
 refine sq_nil ?_
 refine ht_cond rfl (fun e1 => ?_) (fun e1 => ?_)
 ·replace h := cpos e1 h
  refine sr ?_
  refine sM 4 (bV false) rfl rfl ?_
  refine sq_nil ?_
  refine ht_ret ?_
  cases h
  exact ret1 rfl (.tmp rfl)
 replace h := cneg e1 h
 refine ht_skip ?_
 refine ht_gj (go_id' h) (fun _ => tell []) (fun _ h => ?_) (fun v2 K3 h j5 r6 => ?_)
 ·refine sr ?_
  refine sM 4 (bV true) rfl rfl ?_
  refine sq_nil ?_
  refine ht_ret ?_
  cases h
  exact ret1 rfl (.tmp rfl)
 refine sr ?_
 refine sM 5 (iV 0) rfl rfl ?_
 refine sq_nil ?_
 refine ht_block ?_
 refine ht_rd h (fun _ => rfl) (fun t5 => tell [(.t 0, .d (.sl 11 (t0.map eDone))), (.t 1, .d (.sl 11 (t1.map eDone))), (.t 5, iV t5)]) (wk_ren _ (fun i => i) rfl ⟨rfl, rfl, rfl, trivial⟩) fun k t5 h K46 j8 => ?_
 rw [F41_l1] at h
 refine ht_seq ?_
 refine sr ?_
 refine sM 11 (iV t5) rfl rfl ?_
 refine sM 12 (.d (.sl 11 (t0.map eDone))) rfl rfl ?_
 refine sT 13 (iV (t0.length : Int)) rfl (w_len t0 eDone rfl rfl · · · slT43 rfl) ?_
 refine sT 14 (bV (ltI t5 (t0.length : Int))) rfl (v_bin rfl · · · rfl rfl (b_lss rfl)) ?_
 refine sq_nil ?_
 refine ht_cond rfl (fun e10 => ?_) (fun e10 => ?_)
 ·replace h := cpos e10 h
  refine ht_skip ?_
  refine ht_seq ?_
  refine ht_block ?_
  refine ht_seq ?_
  refine ht_region_draw mixed ?_
  refine rM 17 (.d (.sl 11 (t0.map eDone))) rfl rfl ?_
  refine rM 18 (iV t5) rfl rfl ?_
  obtain ⟨e11, h⟩ := gpos h
  refine rT 19 (.d (.dp (eDone (rd t0 t5)))) rfl (w_idx t0 eDone rfl · · · slT43 rfl rfl e11) ?_
  refine rT 20 (.d (.dp (eDone (rd t0 t5)))) rfl (v_field_dp (a0 := 0) (cs := (eDone (rd t0 t5))) rfl · · · fo100_0 rfl) ?_
  refine rT 21 (iV (rd t0 t5).mClient) rfl (v_load_dp1 rfl · · · onT3 rfl rfl) ?_
  refine rM 22 (.d (.sl 11 (t1.map eDone))) rfl rfl ?_
  refine rM 23 (iV t5) rfl rfl ?_
  obtain ⟨e12, h⟩ := gpos h
  refine rT 24 (.d (.dp (eDone (rd t1 t5)))) rfl (w_idx t1 eDone rfl · · · slT43 rfl rfl e12) ?_
  refine rT 25 (.d (.dp (eDone (rd t1 t5)))) rfl (v_field_dp (a0 := 0) (cs := (eDone (rd t1 t5))) rfl · · · fo100_0 rfl) ?_
  refine rT 26 (iV (rd t1 t5).mClient) rfl (v_load_dp1 rfl · · · onT3 rfl rfl) ?_
  refine rT 27 (bV (!eqI (rd t0 t5).mClient (rd t1 t5).mClient)) rfl (v_bin rfl · · · rfl rfl (b_neq rfl)) ?_
  refine rM 28 (bV (!eqI (rd t0 t5).mClient (rd t1 t5).mClient)) rfl rfl ?_
  refine rF 29 (.d (.sl 11 (t0.map eDone))) rfl rfl (fun e13 => (v_move (.inl rfl) · · · rfl)) ?_
  refine rF 30 (iV t5) rfl rfl (fun e14 => (v_move (.inl rfl) · · · rfl)) ?_
  obtain ⟨e16, h⟩ := gpos h
  refine rF 31 (.d (.dp (eDone (rd t0 t5)))) rfl rfl (fun e15 => (w_idx t0 eDone rfl · · · slT43 (gv (nF e15)) (gv (nF e15)) (orT e16 (nF e15)))) ?_
  refine rF 32 (.d (.dp (List.drop 1 (eDone (rd t0 t5))))) rfl rfl (fun e17 => (v_field_dp (a0 := 1) (cs := (eDone (rd t0 t5))) rfl · · · fo100_1 (gv (nF e17)))) ?_
  refine rF 33 (iV (rd t0 t5).mReq) rfl rfl (fun e18 => (v_load_dp1 rfl · · · onT3 (gv (nF e18)) rfl)) ?_
  refine rF 34 (.d (.sl 11 (t1.map eDone))) rfl rfl (fun e19 => (v_move (.inl rfl) · · · rfl)) ?_
  refine rF 35 (iV t5) rfl rfl (fun e20 => (v_move (.inl rfl) · · · rfl)) ?_
  obtain ⟨e22, h⟩ := gpos h
  refine rF 36 (.d (.dp (eDone (rd t1 t5)))) rfl rfl (fun e21 => (w_idx t1 eDone rfl · · · slT43 (gv (nF e21)) (gv (nF e21)) (orT e22 (nF e21)))) ?_
  refine rF 37 (.d (.dp (List.drop 1 (eDone (rd t1 t5))))) rfl rfl (fun e23 => (v_field_dp (a0 := 1) (cs := (eDone (rd t1 t5))) rfl · · · fo100_1 (gv (nF e23)))) ?_
  refine rF 38 (iV (rd t1 t5).mReq) rfl rfl (fun e24 => (v_load_dp1 rfl · · · onT3 (gv (nF e24)) rfl)) ?_
  refine rF 39 (bV (!eqI (rd t0 t5).mReq (rd t1 t5).mReq)) rfl rfl (fun e25 => (v_bin rfl · · · (gv (nF e25)) (gv (nF e25)) (b_neq rfl))) ?_
  refine rT 40 (bV ((!eqI (rd t0 t5).mClient (rd t1 t5).mClient) || (!eqI (rd t0 t5).mReq (rd t1 t5).mReq))) rfl (v_pickB rfl · · · rfl (fun e26 => rfl) (fun e27 => (gv (nF e27))) (pO _ _)) ?_
  refine rM 41 (bV ((!eqI (rd t0 t5).mClient (rd t1 t5).mClient) || (!eqI (rd t0 t5).mReq (rd t1 t5).mReq))) rfl rfl ?_
  refine rF 42 (.d (.sl 11 (t0.map eDone))) rfl rfl (fun e28 => (v_move (.inl rfl) · · · rfl)) ?_
  refine rF 43 (iV t5) rfl rfl (fun e29 => (v_move (.inl rfl) · · · rfl)) ?_
  obtain ⟨e31, h⟩ := gpos h
  refine rF 44 (.d (.dp (eDone (rd t0 t5)))) rfl rfl (fun e30 => (w_idx t0 eDone rfl · · · slT43 (gv (nF e30)) (gv (nF e30)) (orT e31 (nF e30)))) ?_
  refine rF 45 (.d (.dp (List.drop 2 (eDone (rd t0 t5))))) rfl rfl (fun e32 => (v_field_dp (a0 := 2) (cs := (eDone (rd t0 t5))) rfl · · · fo100_2 (gv (nF e32)))) ?_
  refine rF 46 (.d (.agg (eAnswer (rd t0 t5).mAnswer))) rfl rfl (fun e33 => (w_ldp (List.drop 2 (eDone (rd t0 t5))) (eAnswer (rd t0 t5).mAnswer) rfl · · · ag34 (gv (nF e33)) (ble _ _ rfl) rfl)) ?_
  refine rF 47 (.d (.sl 11 (t1.map eDone))) rfl rfl (fun e34 => (v_move (.inl rfl) · · · rfl)) ?_
  refine rF 48 (iV t5) rfl rfl (fun e35 => (v_move (.inl rfl) · · · rfl)) ?_
  obtain ⟨e37, h⟩ := gpos h
  refine rF 49 (.d (.dp (eDone (rd t1 t5)))) rfl rfl (fun e36 => (w_idx t1 eDone rfl · · · slT43 (gv (nF e36)) (gv (nF e36)) (orT e37 (nF e36)))) ?_
  refine rF 50 (.d (.dp (List.drop 2 (eDone (rd t1 t5))))) rfl rfl (fun e38 => (v_field_dp (a0 := 2) (cs := (eDone (rd t1 t5))) rfl · · · fo100_2 (gv (nF e38)))) ?_
  refine rF 51 (.d (.agg (eAnswer (rd t1 t5).mAnswer))) rfl rfl (fun e39 => (w_ldp (List.drop 2 (eDone (rd t1 t5))) (eAnswer (rd t1 t5).mAnswer) rfl · · · ag34 (gv (nF e39)) (ble _ _ rfl) rfl)) ?_
  obtain ⟨t52, c41, h⟩ := bpos h
  refine rF 52 (bV t52) rfl rfl (fun e40 => (w_call (ds := [(.agg (eAnswer (rd t0 t5).mAnswer)), (.agg (eAnswer (rd t1 t5).mAnswer))]) (caps := []) (l := [(.s (.bool t52))]) (s19 k (rd t0 t5).mAnswer (rd t1 t5).mAnswer _ (cpos (nF e40) c41)) rfl rfl rfl en19 · · · (.inl ⟨rfl, rfl⟩) (cc (gv (nF e40)) (cc (gv (nF e40)) rfl)) rfl)) ?_
  refine rF 53 (bV (!t52)) rfl rfl (fun e42 => (v_un rfl · · · (gv (nF e42)) (u_not rfl))) ?_
  refine rT 54 (bV (((!eqI (rd t0 t5).mClient (rd t1 t5).mClient) || (!eqI (rd t0 t5).mReq (rd t1 t5).mReq)) || (!t52))) rfl (v_pickB rfl · · · rfl (fun e43 => rfl) (fun e44 => (gv (nF e44))) (pO _ _)) ?_
  refine rg_nil ⟨by kernel_rfl, ?_⟩
  refine ht_cond rfl (fun e45 => ?_) (fun e45 => ?_)
  ·replace h := cpos e45 h
   refine sr ?_
   refine sM 4 (bV false) rfl rfl ?_
   refine sq_nil ?_
   refine ht_ret ?_
   cases h
   cases r6 _ rfl
   exact ret1 rfl (.tmp rfl)
  replace h := cneg e45 h
  refine ht_skip ?_
  refine ht_region ?_
  refine sM 15 (iV t5) rfl rfl ?_
  refine sT 16 (iV (IntKind.wrap .i64 (t5 + 1))) rfl (v_bin rfl · · · rfl rfl (b_add rfl)) ?_
  refine sM 5 (iV (IntKind.wrap .i64 (t5 + 1))) rfl rfl ?_
  refine sq_nil ?_
  exact j8 _ _ h (wk_ren _ (fun i => i) rfl ⟨rfl, rfl, rfl, trivial⟩)
 replace h := cneg e10 h
 refine ht_exit ?_
 refine tq ?_
 refine tq ?_
 refine bq_hit ?_
 cases h
 exact j5 _ _ rfl (wk_ren _ (fun i => i) rfl trivial)
theorem s26 (k : Nat) (t0 : Shard) (t1 : Shard) (r : Bool) (h : F26 k t0 t1 = some r) : Awp.Spec Tryz.prog amb 26 [(.agg (eShard t0)), (.agg (eShard t1))] (.ds [(.s (.bool r))]) := by
 rw [F26] at h
 refine spec_of Tryz.func26 rfl (ble _ _ rfl) fun w0 ok0 lt0 hA => ?_
 refine sr ?_
 refine sT 2 (.d (.dp (eShard t0))) rfl (v_box_d (cs := (eShard t0)) rfl · · · rfl rfl (ones_of rfl)) ?_
 refine sT 3 (.d (.dp (eShard t1))) rfl (v_box_d (cs := (eShard t1)) rfl · · · rfl rfl (ones_of rfl)) ?_
 refine sM 4 (bV false) rfl rfl ?_
 refine sq_nil ?_
 refine sr ?_
 refine sT 5 (.d (.dp (eShard t0))) rfl (v_field_dp (a0 := 0) (cs := (eShard t0)) rfl · · · fo45_0 rfl) ?_
 refine sT 6 (iV t0.mID) rfl (v_load_dp1 rfl · · · onT3 rfl rfl) ?_
 refine sT 7 (.d (.dp (eShard t1))) rfl (v_field_dp (a0 := 0) (cs := (eShard t1)) rfl · · · fo45_0 rfl) ?_
 refine sT 8 (iV t1.mID) rfl (v_load_dp1 rfl · · · onT3 rfl rfl) ?_
 refine sT 9 (bV (eqI t0.mID t1.mID)) rfl (v_bin rfl · · · rfl rfl (b_eql rfl)) ?_
 refine sM 10 (bV (eqI t0.mID t1.mID)) rfl rfl ?_
 refine sG 11 (.d (.dp (List.drop 1 (eShard t0)))) rfl rfl (fun e1 => (v_field_dp (a0 := 1) (cs := (eShard t0)) rfl · · · fo45_1 rfl)) ?_
 refine sG 12 (iV t0.mEpoch) rfl rfl (fun e2 => (v_load_dp1 rfl · · · onT3 (gv e2) rfl)) ?_
 refine sG 13 (.d (.dp (List.drop 1 (eShard t1)))) rfl rfl (fun e3 => (v_field_dp (a0 := 1) (cs := (eShard t1)) rfl · · · fo45_1 rfl)) ?_
 refine sG 14 (iV t1.mEpoch) rfl rfl (fun e4 => (v_load_dp1 rfl · · · onT3 (gv e4) rfl)) ?_
 refine sG 15 (bV (eqI t0.mEpoch t1.mEpoch)) rfl rfl (fun e5 => (v_bin rfl · · · (gv e5) (gv e5) (b_eql rfl))) ?_
 refine sT 16 (bV ((eqI t0.mID t1.mID) && (eqI t0.mEpoch t1.mEpoch))) rfl (v_pickB rfl · · · rfl (fun e6 => (gv e6)) (fun e7 => rfl) (pA _ _)) ?_
 refine sM 17 (bV ((eqI t0.mID t1.mID) && (eqI t0.mEpoch t1.mEpoch))) rfl rfl ?_
 refine sG 18 (.d (.dp (List.drop 2 (eShard t0)))) rfl rfl (fun e8 => (v_field_dp (a0 := 2) (cs := (eShard t0)) rfl · · · fo45_2 rfl)) ?_
 refine sG 19 (.d (.agg (eSpan t0.mSpan))) rfl rfl (fun e9 => (w_ldp (List.drop 2 (eShard t0)) (eSpan t0.mSpan) rfl · · · ag41 (gv e9) (ble _ _ rfl) rfl)) ?_
 refine sG 20 (.d (.dp (List.drop 2 (eShard t1)))) rfl rfl (fun e10 => (v_field_dp (a0 := 2) (cs := (eShard t1)) rfl · · · fo45_2 rfl)) ?_
 refine sG 21 (.d (.agg (eSpan t1.mSpan))) rfl rfl (fun e11 => (w_ldp (List.drop 2 (eShard t1)) (eSpan t1.mSpan) rfl · · · ag41 (gv e11) (ble _ _ rfl) rfl)) ?_
 refine sG 22 (bV (qSpan t0.mSpan t1.mSpan)) rfl rfl (fun e12 => (v_bin_eql (f := eSpan) rfl · · · (gv e12) (gv e12) rfl rfl eg41 (eq41 _ _))) ?_
 refine sT 23 (bV (((eqI t0.mID t1.mID) && (eqI t0.mEpoch t1.mEpoch)) && (qSpan t0.mSpan t1.mSpan))) rfl (v_pickB rfl · · · rfl (fun e13 => (gv e13)) (fun e14 => rfl) (pA _ _)) ?_
 refine sM 24 (bV (((eqI t0.mID t1.mID) && (eqI t0.mEpoch t1.mEpoch)) && (qSpan t0.mSpan t1.mSpan))) rfl rfl ?_
 refine sG 25 (.d (.dp (List.drop 4 (eShard t0)))) rfl rfl (fun e15 => (v_field_dp (a0 := 4) (cs := (eShard t0)) rfl · · · fo45_3 rfl)) ?_
 refine sG 26 (iV t0.mPhase) rfl rfl (fun e16 => (v_load_dp1 rfl · · · onT3 (gv e16) rfl)) ?_
 refine sG 27 (.d (.dp (List.drop 4 (eShard t1)))) rfl rfl (fun e17 => (v_field_dp (a0 := 4) (cs := (eShard t1)) rfl · · · fo45_3 rfl)) ?_
 refine sG 28 (iV t1.mPhase) rfl rfl (fun e18 => (v_load_dp1 rfl · · · onT3 (gv e18) rfl)) ?_
 refine sG 29 (bV (eqI t0.mPhase t1.mPhase)) rfl rfl (fun e19 => (v_bin rfl · · · (gv e19) (gv e19) (b_eql rfl))) ?_
 refine sT 30 (bV ((((eqI t0.mID t1.mID) && (eqI t0.mEpoch t1.mEpoch)) && (qSpan t0.mSpan t1.mSpan)) && (eqI t0.mPhase t1.mPhase))) rfl (v_pickB rfl · · · rfl (fun e20 => (gv e20)) (fun e21 => rfl) (pA _ _)) ?_
 refine sM 31 (bV ((((eqI t0.mID t1.mID) && (eqI t0.mEpoch t1.mEpoch)) && (qSpan t0.mSpan t1.mSpan)) && (eqI t0.mPhase t1.mPhase))) rfl rfl ?_
 refine sG 32 (.d (.dp (List.drop 5 (eShard t0)))) rfl rfl (fun e22 => (v_field_dp (a0 := 5) (cs := (eShard t0)) rfl · · · fo45_4 rfl)) ?_
 refine sG 33 (.d (.sl 2 (t0.mEntries.map eEntry))) rfl rfl (fun e23 => (v_load_dp1 rfl · · · onT42 (gv e23) rfl)) ?_
 refine sG 34 (.d (.dp (List.drop 5 (eShard t1)))) rfl rfl (fun e24 => (v_field_dp (a0 := 5) (cs := (eShard t1)) rfl · · · fo45_4 rfl)) ?_
 refine sG 35 (.d (.sl 2 (t1.mEntries.map eEntry))) rfl rfl (fun e25 => (v_load_dp1 rfl · · · onT42 (gv e25) rfl)) ?_
 obtain ⟨t36, c27, h⟩ := bpos h
 refine sG 36 (bV t36) rfl rfl (fun e26 => (w_call (ds := [(.sl 2 (t0.mEntries.map eEntry)), (.sl 2 (t1.mEntries.map eEntry))]) (caps := []) (l := [(.s (.bool t36))]) (s40 k t0.mEntries t1.mEntries _ (cpos e26 c27)) rfl rfl rfl en40 · · · (.inl ⟨rfl, rfl⟩) (cc (gv e26) (cc (gv e26) rfl)) rfl)) ?_
 refine sT 37 (bV (((((eqI t0.mID t1.mID) && (eqI t0.mEpoch t1.mEpoch)) && (qSpan t0.mSpan t1.mSpan)) && (eqI t0.mPhase t1.mPhase)) && t36)) rfl (v_pickB rfl · · · rfl (fun e28 => (gv e28)) (fun e29 => rfl) (pA _ _)) ?_
 refine sM 38 (bV (((((eqI t0.mID t1.mID) && (eqI t0.mEpoch t1.mEpoch)) && (qSpan t0.mSpan t1.mSpan)) && (eqI t0.mPhase t1.mPhase)) && t36)) rfl rfl ?_
 refine sG 39 (.d (.dp (List.drop 6 (eShard t0)))) rfl rfl (fun e30 => (v_field_dp (a0 := 6) (cs := (eShard t0)) rfl · · · fo45_5 rfl)) ?_
 refine sG 40 (.d (.agg (eStamp t0.mMark))) rfl rfl (fun e31 => (w_ldp (List.drop 6 (eShard t0)) (eStamp t0.mMark) rfl · · · ag24 (gv e31) (ble _ _ rfl) rfl)) ?_
 refine sG 41 (.d (.dp (List.drop 6 (eShard t1)))) rfl rfl (fun e32 => (v_field_dp (a0 := 6) (cs := (eShard t1)) rfl · · · fo45_5 rfl)) ?_
 refine sG 42 (.d (.agg (eStamp t1.mMark))) rfl rfl (fun e33 => (w_ldp (List.drop 6 (eShard t1)) (eStamp t1.mMark) rfl · · · ag24 (gv e33) (ble _ _ rfl) rfl)) ?_
 refine sG 43 (bV (qStamp t0.mMark t1.mMark)) rfl rfl (fun e34 => (v_bin_eql (f := eStamp) rfl · · · (gv e34) (gv e34) rfl rfl eg24 (eq24 _ _))) ?_
 refine sT 44 (bV ((((((eqI t0.mID t1.mID) && (eqI t0.mEpoch t1.mEpoch)) && (qSpan t0.mSpan t1.mSpan)) && (eqI t0.mPhase t1.mPhase)) && t36) && (qStamp t0.mMark t1.mMark))) rfl (v_pickB rfl · · · rfl (fun e35 => (gv e35)) (fun e36 => rfl) (pA _ _)) ?_
 refine sM 45 (bV ((((((eqI t0.mID t1.mID) && (eqI t0.mEpoch t1.mEpoch)) && (qSpan t0.mSpan t1.mSpan)) && (eqI t0.mPhase t1.mPhase)) && t36) && (qStamp t0.mMark t1.mMark))) rfl rfl ?_
 refine sG 46 (.d (.dp (List.drop 9 (eShard t0)))) rfl rfl (fun e37 => (v_field_dp (a0 := 9) (cs := (eShard t0)) rfl · · · fo45_6 rfl)) ?_
 refine sG 47 (.d (.agg (eStamp t0.mTop))) rfl rfl (fun e38 => (w_ldp (List.drop 9 (eShard t0)) (eStamp t0.mTop) rfl · · · ag24 (gv e38) (ble _ _ rfl) rfl)) ?_
 refine sG 48 (.d (.dp (List.drop 9 (eShard t1)))) rfl rfl (fun e39 => (v_field_dp (a0 := 9) (cs := (eShard t1)) rfl · · · fo45_6 rfl)) ?_
 refine sG 49 (.d (.agg (eStamp t1.mTop))) rfl rfl (fun e40 => (w_ldp (List.drop 9 (eShard t1)) (eStamp t1.mTop) rfl · · · ag24 (gv e40) (ble _ _ rfl) rfl)) ?_
 refine sG 50 (bV (qStamp t0.mTop t1.mTop)) rfl rfl (fun e41 => (v_bin_eql (f := eStamp) rfl · · · (gv e41) (gv e41) rfl rfl eg24 (eq24 _ _))) ?_
 refine sT 51 (bV (((((((eqI t0.mID t1.mID) && (eqI t0.mEpoch t1.mEpoch)) && (qSpan t0.mSpan t1.mSpan)) && (eqI t0.mPhase t1.mPhase)) && t36) && (qStamp t0.mMark t1.mMark)) && (qStamp t0.mTop t1.mTop))) rfl (v_pickB rfl · · · rfl (fun e42 => (gv e42)) (fun e43 => rfl) (pA _ _)) ?_
 refine sM 52 (bV (((((((eqI t0.mID t1.mID) && (eqI t0.mEpoch t1.mEpoch)) && (qSpan t0.mSpan t1.mSpan)) && (eqI t0.mPhase t1.mPhase)) && t36) && (qStamp t0.mMark t1.mMark)) && (qStamp t0.mTop t1.mTop))) rfl rfl ?_
 refine sG 53 (.d (.dp (List.drop 12 (eShard t0)))) rfl rfl (fun e44 => (v_field_dp (a0 := 12) (cs := (eShard t0)) rfl · · · fo45_7 rfl)) ?_
 refine sG 54 (.d (.sl 11 (t0.mDone.map eDone))) rfl rfl (fun e45 => (v_load_dp1 rfl · · · onT43 (gv e45) rfl)) ?_
 refine sG 55 (.d (.dp (List.drop 12 (eShard t1)))) rfl rfl (fun e46 => (v_field_dp (a0 := 12) (cs := (eShard t1)) rfl · · · fo45_7 rfl)) ?_
 refine sG 56 (.d (.sl 11 (t1.mDone.map eDone))) rfl rfl (fun e47 => (v_load_dp1 rfl · · · onT43 (gv e47) rfl)) ?_
 obtain ⟨t57, c49, h⟩ := bpos h
 refine sG 57 (bV t57) rfl rfl (fun e48 => (w_call (ds := [(.sl 11 (t0.mDone.map eDone)), (.sl 11 (t1.mDone.map eDone))]) (caps := []) (l := [(.s (.bool t57))]) (s41 k t0.mDone t1.mDone _ (cpos e48 c49)) rfl rfl rfl en41 · · · (.inl ⟨rfl, rfl⟩) (cc (gv e48) (cc (gv e48) rfl)) rfl)) ?_
 refine sT 58 (bV ((((((((eqI t0.mID t1.mID) && (eqI t0.mEpoch t1.mEpoch)) && (qSpan t0.mSpan t1.mSpan)) && (eqI t0.mPhase t1.mPhase)) && t36) && (qStamp t0.mMark t1.mMark)) && (qStamp t0.mTop t1.mTop)) && t57)) rfl (v_pickB rfl · · · rfl (fun e50 => (gv e50)) (fun e51 => rfl) (pA _ _)) ?_
 refine sM 59 (bV ((((((((eqI t0.mID t1.mID) && (eqI t0.mEpoch t1.mEpoch)) && (qSpan t0.mSpan t1.mSpan)) && (eqI t0.mPhase t1.mPhase)) && t36) && (qStamp t0.mMark t1.mMark)) && (qStamp t0.mTop t1.mTop)) && t57)) rfl rfl ?_
 refine sG 60 (.d (.dp (List.drop 13 (eShard t0)))) rfl rfl (fun e52 => (v_field_dp (a0 := 13) (cs := (eShard t0)) rfl · · · fo45_8 rfl)) ?_
 refine sG 61 (iV t0.mHold) rfl rfl (fun e53 => (v_load_dp1 rfl · · · onT3 (gv e53) rfl)) ?_
 refine sG 62 (.d (.dp (List.drop 13 (eShard t1)))) rfl rfl (fun e54 => (v_field_dp (a0 := 13) (cs := (eShard t1)) rfl · · · fo45_8 rfl)) ?_
 refine sG 63 (iV t1.mHold) rfl rfl (fun e55 => (v_load_dp1 rfl · · · onT3 (gv e55) rfl)) ?_
 refine sG 64 (bV (eqI t0.mHold t1.mHold)) rfl rfl (fun e56 => (v_bin rfl · · · (gv e56) (gv e56) (b_eql rfl))) ?_
 refine sT 65 (bV (((((((((eqI t0.mID t1.mID) && (eqI t0.mEpoch t1.mEpoch)) && (qSpan t0.mSpan t1.mSpan)) && (eqI t0.mPhase t1.mPhase)) && t36) && (qStamp t0.mMark t1.mMark)) && (qStamp t0.mTop t1.mTop)) && t57) && (eqI t0.mHold t1.mHold))) rfl (v_pickB rfl · · · rfl (fun e57 => (gv e57)) (fun e58 => rfl) (pA _ _)) ?_
 refine sM 66 (bV (((((((((eqI t0.mID t1.mID) && (eqI t0.mEpoch t1.mEpoch)) && (qSpan t0.mSpan t1.mSpan)) && (eqI t0.mPhase t1.mPhase)) && t36) && (qStamp t0.mMark t1.mMark)) && (qStamp t0.mTop t1.mTop)) && t57) && (eqI t0.mHold t1.mHold))) rfl rfl ?_
 refine sG 67 (.d (.dp (List.drop 14 (eShard t0)))) rfl rfl (fun e59 => (v_field_dp (a0 := 14) (cs := (eShard t0)) rfl · · · fo45_9 rfl)) ?_
 refine sG 68 (iV t0.mSeen) rfl rfl (fun e60 => (v_load_dp1 rfl · · · onT3 (gv e60) rfl)) ?_
 refine sG 69 (.d (.dp (List.drop 14 (eShard t1)))) rfl rfl (fun e61 => (v_field_dp (a0 := 14) (cs := (eShard t1)) rfl · · · fo45_9 rfl)) ?_
 refine sG 70 (iV t1.mSeen) rfl rfl (fun e62 => (v_load_dp1 rfl · · · onT3 (gv e62) rfl)) ?_
 refine sG 71 (bV (eqI t0.mSeen t1.mSeen)) rfl rfl (fun e63 => (v_bin rfl · · · (gv e63) (gv e63) (b_eql rfl))) ?_
 refine sT 72 (bV ((((((((((eqI t0.mID t1.mID) && (eqI t0.mEpoch t1.mEpoch)) && (qSpan t0.mSpan t1.mSpan)) && (eqI t0.mPhase t1.mPhase)) && t36) && (qStamp t0.mMark t1.mMark)) && (qStamp t0.mTop t1.mTop)) && t57) && (eqI t0.mHold t1.mHold)) && (eqI t0.mSeen t1.mSeen))) rfl (v_pickB rfl · · · rfl (fun e64 => (gv e64)) (fun e65 => rfl) (pA _ _)) ?_
 refine sM 73 (bV ((((((((((eqI t0.mID t1.mID) && (eqI t0.mEpoch t1.mEpoch)) && (qSpan t0.mSpan t1.mSpan)) && (eqI t0.mPhase t1.mPhase)) && t36) && (qStamp t0.mMark t1.mMark)) && (qStamp t0.mTop t1.mTop)) && t57) && (eqI t0.mHold t1.mHold)) && (eqI t0.mSeen t1.mSeen))) rfl rfl ?_
 refine sG 74 (.d (.dp (List.drop 15 (eShard t0)))) rfl rfl (fun e66 => (v_field_dp (a0 := 15) (cs := (eShard t0)) rfl · · · fo45_10 rfl)) ?_
 refine sG 75 (iV t0.mMove) rfl rfl (fun e67 => (v_load_dp1 rfl · · · onT3 (gv e67) rfl)) ?_
 refine sG 76 (.d (.dp (List.drop 15 (eShard t1)))) rfl rfl (fun e68 => (v_field_dp (a0 := 15) (cs := (eShard t1)) rfl · · · fo45_10 rfl)) ?_
 refine sG 77 (iV t1.mMove) rfl rfl (fun e69 => (v_load_dp1 rfl · · · onT3 (gv e69) rfl)) ?_
 refine sG 78 (bV (eqI t0.mMove t1.mMove)) rfl rfl (fun e70 => (v_bin rfl · · · (gv e70) (gv e70) (b_eql rfl))) ?_
 refine sT 79 (bV (((((((((((eqI t0.mID t1.mID) && (eqI t0.mEpoch t1.mEpoch)) && (qSpan t0.mSpan t1.mSpan)) && (eqI t0.mPhase t1.mPhase)) && t36) && (qStamp t0.mMark t1.mMark)) && (qStamp t0.mTop t1.mTop)) && t57) && (eqI t0.mHold t1.mHold)) && (eqI t0.mSeen t1.mSeen)) && (eqI t0.mMove t1.mMove))) rfl (v_pickB rfl · · · rfl (fun e71 => (gv e71)) (fun e72 => rfl) (pA _ _)) ?_
 refine sM 80 (bV (((((((((((eqI t0.mID t1.mID) && (eqI t0.mEpoch t1.mEpoch)) && (qSpan t0.mSpan t1.mSpan)) && (eqI t0.mPhase t1.mPhase)) && t36) && (qStamp t0.mMark t1.mMark)) && (qStamp t0.mTop t1.mTop)) && t57) && (eqI t0.mHold t1.mHold)) && (eqI t0.mSeen t1.mSeen)) && (eqI t0.mMove t1.mMove))) rfl rfl ?_
 refine sG 81 (.d (.dp (List.drop 16 (eShard t0)))) rfl rfl (fun e73 => (v_field_dp (a0 := 16) (cs := (eShard t0)) rfl · · · fo45_11 rfl)) ?_
 refine sG 82 (iV t0.mClosed) rfl rfl (fun e74 => (v_load_dp1 rfl · · · onT3 (gv e74) rfl)) ?_
 refine sG 83 (.d (.dp (List.drop 16 (eShard t1)))) rfl rfl (fun e75 => (v_field_dp (a0 := 16) (cs := (eShard t1)) rfl · · · fo45_11 rfl)) ?_
 refine sG 84 (iV t1.mClosed) rfl rfl (fun e76 => (v_load_dp1 rfl · · · onT3 (gv e76) rfl)) ?_
 refine sG 85 (bV (eqI t0.mClosed t1.mClosed)) rfl rfl (fun e77 => (v_bin rfl · · · (gv e77) (gv e77) (b_eql rfl))) ?_
 refine sT 86 (bV ((((((((((((eqI t0.mID t1.mID) && (eqI t0.mEpoch t1.mEpoch)) && (qSpan t0.mSpan t1.mSpan)) && (eqI t0.mPhase t1.mPhase)) && t36) && (qStamp t0.mMark t1.mMark)) && (qStamp t0.mTop t1.mTop)) && t57) && (eqI t0.mHold t1.mHold)) && (eqI t0.mSeen t1.mSeen)) && (eqI t0.mMove t1.mMove)) && (eqI t0.mClosed t1.mClosed))) rfl (v_pickB rfl · · · rfl (fun e78 => (gv e78)) (fun e79 => rfl) (pA _ _)) ?_
 refine sM 4 (bV ((((((((((((eqI t0.mID t1.mID) && (eqI t0.mEpoch t1.mEpoch)) && (qSpan t0.mSpan t1.mSpan)) && (eqI t0.mPhase t1.mPhase)) && t36) && (qStamp t0.mMark t1.mMark)) && (qStamp t0.mTop t1.mTop)) && t57) && (eqI t0.mHold t1.mHold)) && (eqI t0.mSeen t1.mSeen)) && (eqI t0.mMove t1.mMove)) && (eqI t0.mClosed t1.mClosed))) rfl rfl ?_
 refine sq_nil ?_
 refine ht_ret ?_
 cases h
 exact ret1 rfl (.tmp rfl)
theorem s18 (k : Nat) (t0 : Cell) (t1 : Cell) (r : Bool) (h : F18 k t0 t1 = some r) : Awp.Spec Tryz.prog amb 18 [(.agg (eCell t0)), (.agg (eCell t1))] (.ds [(.s (.bool r))]) := by
 rw [F18] at h
 refine spec_of Tryz.func18 rfl (ble _ _ rfl) fun w0 ok0 lt0 hA => ?_
 refine sr ?_
 refine sT 2 (.d (.dp (eCell t0))) rfl (v_box_d (cs := (eCell t0)) rfl · · · rfl rfl (ones_of rfl)) ?_
 refine sT 3 (.d (.dp (eCell t1))) rfl (v_box_d (cs := (eCell t1)) rfl · · · rfl rfl (ones_of rfl)) ?_
 refine sM 4 (bV false) rfl rfl ?_
 refine sq_nil ?_
 refine ht_seq ?_
 refine sr ?_
 refine sT 6 (.d (.dp (eCell t0))) rfl (v_field_dp (a0 := 0) (cs := (eCell t0)) rfl · · · fo26_0 rfl) ?_
 refine sT 7 (.d (.sl 17 (t0.mShards.map eShard))) rfl (v_load_dp1 rfl · · · onT22 rfl rfl) ?_
 refine sT 8 (iV (t0.mShards.length : Int)) rfl (w_len t0.mShards eShard rfl rfl · · · slT22 rfl) ?_
 refine sT 9 (.d (.dp (eCell t1))) rfl (v_field_dp (a0 := 0) (cs := (eCell t1)) rfl · · · fo26_0 rfl) ?_
 refine sT 10 (.d (.sl 17 (t1.mShards.map eShard))) rfl (v_load_dp1 rfl · · · onT22 rfl rfl) ?_
 refine sT 11 (iV (t1.mShards.length : Int)) rfl (w_len t1.mShards eShard rfl rfl · · · slT22 rfl) ?_
 refine sT 12 (bV (!eqI (t0.mShards.length : Int) (t1.mShards.length : Int))) rfl (v_bin rfl · · · rfl rfl (b_neq rfl)) ?_
 refine sM 13 (bV (!eqI (t0.mShards.length : Int) (t1.mShards.length : Int))) rfl rfl ?_
 refine sF 14 (.d (.dp (List.drop 1 (eCell t0)))) rfl rfl (fun e1 => (v_field_dp (a0 := 1) (cs := (eCell t0)) rfl · · · fo26_1 rfl)) ?_
 refine sF 15 (.d (.agg (eStamp t0.mTop))) rfl rfl (fun e2 => (w_ldp (List.drop 1 (eCell t0)) (eStamp t0.mTop) rfl · · · ag24 (gv (nF e2)) (ble _ _ rfl) rfl)) ?_
 refine sF 16 (.d (.dp (List.drop 1 (eCell t1)))) rfl rfl (fun e3 => (v_field_dp (a0 := 1) (cs := (eCell t1)) rfl · · · fo26_1 rfl)) ?_
 refine sF 17 (.d (.agg (eStamp t1.mTop))) rfl rfl (fun e4 => (w_ldp (List.drop 1 (eCell t1)) (eStamp t1.mTop) rfl · · · ag24 (gv (nF e4)) (ble _ _ rfl) rfl)) ?_
 refine sF 18 (bV (!(qStamp t0.mTop t1.mTop))) rfl rfl (fun e5 => (v_bin_neq (f := eStamp) rfl · · · (gv (nF e5)) (gv (nF e5)) rfl rfl eg24 (eq24 _ _))) ?_
 refine sT 19 (bV ((!eqI (t0.mShards.length : Int) (t1.mShards.length : Int)) || (!(qStamp t0.mTop t1.mTop)))) rfl (v_pickB rfl · · · rfl (fun e6 => rfl) (fun e7 => (gv (nF e7))) (pO _ _)) ?_
 refine sM 20 (bV ((!eqI (t0.mShards.length : Int) (t1.mShards.length : Int)) || (!(qStamp t0.mTop t1.mTop)))) rfl rfl ?_
 refine sF 21 (.d (.dp (List.drop 4 (eCell t0)))) rfl rfl (fun e8 => (v_field_dp (a0 := 4) (cs := (eCell t0)) rfl · · · fo26_2 rfl)) ?_
 refine sF 22 (iV t0.mDropped) rfl rfl (fun e9 => (v_load_dp1 rfl · · · onT3 (gv (nF e9)) rfl)) ?_
 refine sF 23 (.d (.dp (List.drop 4 (eCell t1)))) rfl rfl (fun e10 => (v_field_dp (a0 := 4) (cs := (eCell t1)) rfl · · · fo26_2 rfl)) ?_
 refine sF 24 (iV t1.mDropped) rfl rfl (fun e11 => (v_load_dp1 rfl · · · onT3 (gv (nF e11)) rfl)) ?_
 refine sF 25 (bV (!eqI t0.mDropped t1.mDropped)) rfl rfl (fun e12 => (v_bin rfl · · · (gv (nF e12)) (gv (nF e12)) (b_neq rfl))) ?_
 refine sT 26 (bV (((!eqI (t0.mShards.length : Int) (t1.mShards.length : Int)) || (!(qStamp t0.mTop t1.mTop))) || (!eqI t0.mDropped t1.mDropped))) rfl (v_pickB rfl · · · rfl (fun e13 => rfl) (fun e14 => (gv (nF e14))) (pO _ _)) ?_
 refine sq_nil ?_
 refine ht_cond rfl (fun e15 => ?_) (fun e15 => ?_)
 ·replace h := cpos e15 h
  refine sr ?_
  refine sM 4 (bV false) rfl rfl ?_
  refine sq_nil ?_
  refine ht_ret ?_
  cases h
  exact ret1 rfl (.tmp rfl)
 replace h := cneg e15 h
 refine ht_skip ?_
 refine ht_gj (go_id' h) (fun _ => tell []) (fun _ h => ?_) (fun v16 K17 h j19 r20 => ?_)
 ·refine sr ?_
  refine sM 4 (bV true) rfl rfl ?_
  refine sq_nil ?_
  refine ht_ret ?_
  cases h
  exact ret1 rfl (.tmp rfl)
 refine sr ?_
 refine sM 5 (iV 0) rfl rfl ?_
 refine sq_nil ?_
 refine ht_block ?_
 refine ht_rd h (fun _ => rfl) (fun t5 => tell [(.t 2, .d (.dp (eCell t0))), (.t 3, .d (.dp (eCell t1))), (.t 5, iV t5)]) (wk_ren _ (fun i => i) rfl ⟨rfl, rfl, rfl, trivial⟩) fun k t5 h K29 j22 => ?_
 rw [F18_l1] at h
 refine ht_seq ?_
 refine sr ?_
 refine sM 27 (iV t5) rfl rfl ?_
 refine sT 28 (.d (.dp (eCell t0))) rfl (v_field_dp (a0 := 0) (cs := (eCell t0)) rfl · · · fo26_0 rfl) ?_
 refine sT 29 (.d (.sl 17 (t0.mShards.map eShard))) rfl (v_load_dp1 rfl · · · onT22 rfl rfl) ?_
 refine sT 30 (iV (t0.mShards.length : Int)) rfl (w_len t0.mShards eShard rfl rfl · · · slT22 rfl) ?_
 refine sT 31 (bV (ltI t5 (t0.mShards.length : Int))) rfl (v_bin rfl · · · rfl rfl (b_lss rfl)) ?_
 refine sq_nil ?_
 refine ht_cond rfl (fun e24 => ?_) (fun e24 => ?_)
 ·replace h := cpos e24 h
  refine ht_skip ?_
  refine ht_seq ?_
  refine ht_block ?_
  refine ht_seq ?_
  refine ht_region_draw mixed ?_
  refine rT 34 (.d (.dp (eCell t0))) rfl (v_field_dp (a0 := 0) (cs := (eCell t0)) rfl · · · fo26_0 rfl) ?_
  refine rT 35 (.d (.sl 17 (t0.mShards.map eShard))) rfl (v_load_dp1 rfl · · · onT22 rfl rfl) ?_
  refine rM 36 (iV t5) rfl rfl ?_
  obtain ⟨e25, h⟩ := gpos h
  refine rT 37 (.d (.dp (eShard (rd t0.mShards t5)))) rfl (w_idx t0.mShards eShard rfl · · · slT22 rfl rfl e25) ?_
  refine rT 38 (.d (.agg (eShard (rd t0.mShards t5)))) rfl (w_ldp (eShard (rd t0.mShards t5)) (eShard (rd t0.mShards t5)) rfl · · · ag45 rfl (ble _ _ rfl) rfl) ?_
  refine rT 39 (.d (.dp (eCell t1))) rfl (v_field_dp (a0 := 0) (cs := (eCell t1)) rfl · · · fo26_0 rfl) ?_
  refine rT 40 (.d (.sl 17 (t1.mShards.map eShard))) rfl (v_load_dp1 rfl · · · onT22 rfl rfl) ?_
  refine rM 41 (iV t5) rfl rfl ?_
  obtain ⟨e26, h⟩ := gpos h
  refine rT 42 (.d (.dp (eShard (rd t1.mShards t5)))) rfl (w_idx t1.mShards eShard rfl · · · slT22 rfl rfl e26) ?_
  refine rT 43 (.d (.agg (eShard (rd t1.mShards t5)))) rfl (w_ldp (eShard (rd t1.mShards t5)) (eShard (rd t1.mShards t5)) rfl · · · ag45 rfl (ble _ _ rfl) rfl) ?_
  obtain ⟨t44, c27, h⟩ := bpos h
  refine rT 44 (bV t44) rfl (w_call (ds := [(.agg (eShard (rd t0.mShards t5))), (.agg (eShard (rd t1.mShards t5)))]) (caps := []) (l := [(.s (.bool t44))]) (s26 k (rd t0.mShards t5) (rd t1.mShards t5) _ c27) rfl rfl rfl en26 · · · (.inl ⟨rfl, rfl⟩) rfl rfl) ?_
  refine rT 45 (bV (!t44)) rfl (v_un rfl · · · rfl (u_not rfl)) ?_
  refine rg_nil ⟨by kernel_rfl, ?_⟩
  refine ht_cond rfl (fun e28 => ?_) (fun e28 => ?_)
  ·replace h := cpos e28 h
   refine sr ?_
   refine sM 4 (bV false) rfl rfl ?_
   refine sq_nil ?_
   refine ht_ret ?_
   cases h
   cases r20 _ rfl
   exact ret1 rfl (.tmp rfl)
  replace h := cneg e28 h
  refine ht_skip ?_
  refine ht_region ?_
  refine sM 32 (iV t5) rfl rfl ?_
  refine sT 33 (iV (IntKind.wrap .i64 (t5 + 1))) rfl (v_bin rfl · · · rfl rfl (b_add rfl)) ?_
  refine sM 5 (iV (IntKind.wrap .i64 (t5 + 1))) rfl rfl ?_
  refine sq_nil ?_
  exact j22 _ _ h (wk_ren _ (fun i => i) rfl ⟨rfl, rfl, rfl, trivial⟩)
 replace h := cneg e24 h
 refine ht_exit ?_
 refine tq ?_
 refine tq ?_
 refine bq_hit ?_
 cases h
 exact j19 _ _ rfl (wk_ren _ (fun i => i) rfl trivial)
theorem s93 (k : Nat) (t0 : Shard) (t1 : Int) (r : Bool) (h : F93 k t0 t1 = some r) : Awp.Spec Tryz.prog amb 93 [(.agg (eShard t0)), (.s (.int .i64 t1))] (.ds [(.s (.bool r))]) := by
 rw [F93] at h
 refine spec_of Tryz.func93 rfl (ble _ _ rfl) fun w0 ok0 lt0 hA => ?_
 refine sr ?_
 refine sT 2 (.d (.dp (eShard t0))) rfl (v_box_d (cs := (eShard t0)) rfl · · · rfl rfl (ones_of rfl)) ?_
 refine sM 4 (bV false) rfl rfl ?_
 refine sq_nil ?_
 refine sr ?_
 refine sT 5 (.d (.dp (List.drop 4 (eShard t0)))) rfl (v_field_dp (a0 := 4) (cs := (eShard t0)) rfl · · · fo45_3 rfl) ?_
 refine sT 6 (iV t0.mPhase) rfl (v_load_dp1 rfl · · · onT3 rfl rfl) ?_
 refine sT 7 (bV (eqI t0.mPhase 3)) rfl (v_bin rfl · · · rfl rfl (b_eql rfl)) ?_
 refine sM 8 (bV (eqI t0.mPhase 3)) rfl rfl ?_
 refine sG 9 (.d (.dp (List.drop 15 (eShard t0)))) rfl rfl (fun e1 => (v_field_dp (a0 := 15) (cs := (eShard t0)) rfl · · · fo45_10 rfl)) ?_
 refine sG 10 (iV t0.mMove) rfl rfl (fun e2 => (v_load_dp1 rfl · · · onT3 (gv e2) rfl)) ?_
 refine sG 11 (iV t1) rfl rfl (fun e3 => (v_move (.inl rfl) · · · rfl)) ?_
 refine sG 12 (bV (eqI t0.mMove t1)) rfl rfl (fun e4 => (v_bin rfl · · · (gv e4) (gv e4) (b_eql rfl))) ?_
 refine sT 13 (bV ((eqI t0.mPhase 3) && (eqI t0.mMove t1))) rfl (v_pickB rfl · · · rfl (fun e5 => (gv e5)) (fun e6 => rfl) (pA _ _)) ?_
 refine sM 4 (bV ((eqI t0.mPhase 3) && (eqI t0.mMove t1))) rfl rfl ?_
 refine sq_nil ?_
 refine ht_ret ?_
 cases h
 exact ret1 rfl (.tmp rfl)
theorem s94 (k : Nat) (t0 : Shard) (t1 : Int) (r : Bool) (h : F94 k t0 t1 = some r) : Awp.Spec Tryz.prog amb 94 [(.agg (eShard t0)), (.s (.int .i64 t1))] (.ds [(.s (.bool r))]) := by
 rw [F94] at h
 refine spec_of Tryz.func94 rfl (ble _ _ rfl) fun w0 ok0 lt0 hA => ?_
 refine sr ?_
 refine sT 2 (.d (.dp (eShard t0))) rfl (v_box_d (cs := (eShard t0)) rfl · · · rfl rfl (ones_of rfl)) ?_
 refine sM 4 (bV false) rfl rfl ?_
 refine sq_nil ?_
 refine sr ?_
 refine sT 5 (.d (.dp (List.drop 4 (eShard t0)))) rfl (v_field_dp (a0 := 4) (cs := (eShard t0)) rfl · · · fo45_3 rfl) ?_
 refine sT 6 (iV t0.mPhase) rfl (v_load_dp1 rfl · · · onT3 rfl rfl) ?_
 refine sT 7 (bV (eqI t0.mPhase 2)) rfl (v_bin rfl · · · rfl rfl (b_eql rfl)) ?_
 refine sM 8 (bV (eqI t0.mPhase 2)) rfl rfl ?_
 refine sG 9 (.d (.dp (List.drop 15 (eShard t0)))) rfl rfl (fun e1 => (v_field_dp (a0 := 15) (cs := (eShard t0)) rfl · · · fo45_10 rfl)) ?_
 refine sG 10 (iV t0.mMove) rfl rfl (fun e2 => (v_load_dp1 rfl · · · onT3 (gv e2) rfl)) ?_
 refine sG 11 (iV t1) rfl rfl (fun e3 => (v_move (.inl rfl) · · · rfl)) ?_
 refine sG 12 (bV (eqI t0.mMove t1)) rfl rfl (fun e4 => (v_bin rfl · · · (gv e4) (gv e4) (b_eql rfl))) ?_
 refine sT 13 (bV ((eqI t0.mPhase 2) && (eqI t0.mMove t1))) rfl (v_pickB rfl · · · rfl (fun e5 => (gv e5)) (fun e6 => rfl) (pA _ _)) ?_
 refine sM 4 (bV ((eqI t0.mPhase 2) && (eqI t0.mMove t1))) rfl rfl ?_
 refine sq_nil ?_
 refine ht_ret ?_
 cases h
 exact ret1 rfl (.tmp rfl)
theorem s28 (k : Nat) (t0 : Cell) (t1 : Shard) (t2 : Int) (r : Cell × Bool) (h : F28 k t0 t1 t2 = some r) : Awp.Spec Tryz.prog amb 28 [(.agg (eCell t0)), (.agg (eShard t1)), (.s (.int .i64 t2))] (.ds [(.agg (eCell r.1)), (.s (.bool r.2))]) := by
 rw [F28] at h
 refine spec_of Tryz.func28 rfl (ble _ _ rfl) fun w0 ok0 lt0 hA => ?_
 refine sr ?_
 refine sq_cons _ (v_box (id := 3) (cs := (eCell t0).map V.d) rfl trivial rfl (ble _ _ rfl) rfl rfl (ones_of rfl) rfl) ?_
 refine sq_cons _ (v_box (id := 4) (cs := (eShard t1).map V.d) rfl trivial rfl (ble _ _ rfl) rfl rfl (ones_of rfl) rfl) ?_
 refine sq_cons _ (v_alloc (id := 6) (cs := zc26) rfl trivial rfl (ble _ _ rfl) zu26 rfl ft26 rfl) ?_
 refine sM 7 (bV false) rfl rfl ?_
 refine sq_nil ?_
 refine ht_seq ?_
 refine sr ?_
 refine sT 9 (.d (.agg (eCell t0))) rfl (w_ldb 3 0 rfl · · · ag26 rfl rfl (ble _ _ rfl) rfl) ?_
 obtain ⟨t10, c1, h⟩ := bpos h
 refine sT 10 (bV t10) rfl (w_call (ds := [(.agg (eCell t0))]) (caps := []) (l := [(.s (.bool t10))]) (s25 k t0 _ c1) rfl rfl rfl en25 · · · (.inl ⟨rfl, rfl⟩) rfl rfl) ?_
 refine sT 11 (bV (!t10)) rfl (v_un rfl · · · rfl (u_not rfl)) ?_
 refine sM 12 (bV (!t10)) rfl rfl ?_
 refine sF 13 (iV t2) rfl rfl (fun e2 => (v_move (.inl rfl) · · · rfl)) ?_
 refine sF 14 (.d (.sl 1 (([t2]).map (eI .i64)))) rfl rfl (fun e3 => (w_bsl_d [(0, iV t2)] [t2] (eI .i64) rfl · · · slT148 zr3 (encI .i64) (ble _ _ rfl) (cc (pr (gv (nF e3))) rfl) (by kernel_rfl) rfl rfl (by kernel_rfl))) ?_
 obtain ⟨t15, c5, h⟩ := bpos h
 refine sF 15 (bV t15) rfl rfl (fun e4 => (w_call (ds := [(.s (.int .i64 1)), (.sl 1 (([t2]).map (eI .i64)))]) (caps := []) (l := [(.s (.bool t15))]) (s57 k 1 ([t2]) _ (cpos (nF e4) c5)) rfl rfl rfl en57 · · · (.inl ⟨rfl, rfl⟩) (cc rfl (cc (gv (nF e4)) rfl)) rfl)) ?_
 refine sF 16 (bV (!t15)) rfl rfl (fun e6 => (v_un rfl · · · (gv (nF e6)) (u_not rfl))) ?_
 refine sT 17 (bV ((!t10) || (!t15))) rfl (v_pickB rfl · · · rfl (fun e7 => rfl) (fun e8 => (gv (nF e8))) (pO _ _)) ?_
 refine sq_nil ?_
 refine ht_cond rfl (fun e9 => ?_) (fun e9 => ?_)
 ·replace h := cpos e9 h
  refine sr ?_
  refine sT 18 (.d (.agg (eCell t0))) rfl (w_ldb 3 0 rfl · · · ag26 rfl rfl (ble _ _ rfl) rfl) ?_
  refine sq_cons _ (v_store_box (id := 6) (off := 0) (cs := (eCell t0).map V.d) rfl trivial rfl sz26 rfl rfl rfl rfl (ones_of rfl) (ble _ _ rfl)) ?_
  refine sM 7 (bV false) rfl rfl ?_
  refine sq_nil ?_
  refine ht_ret ?_
  cases h
  exact ret2 rfl (.cell rfl rfl ag26 (ble _ _ rfl) rfl) (.tmp rfl)
 replace h := cneg e9 h
 refine ht_skip ?_
 refine sr ?_
 refine sT 19 (.d (.agg (eCell t0))) rfl (w_ldb 3 0 rfl · · · ag26 rfl rfl (ble _ _ rfl) rfl) ?_
 refine sT 20 (.ptr 4 0) rfl (v_field_box (off := 0) (a0 := 0) rfl · · · fo45_0 rfl) ?_
 refine sT 21 (iV t1.mID) rfl (v_load_box1 (id := 4) (off := 0) rfl · · · onT3 rfl rfl (ble _ _ rfl) rfl) ?_
 obtain ⟨t22, c10, h⟩ := bpos h
 refine sT 22 (.d (.agg (eShard t22))) rfl (w_call (ds := [(.agg (eCell t0)), (.s (.int .i64 t1.mID))]) (caps := []) (l := [(.agg (eShard t22))]) (s60 k t0 t1.mID _ c10) rfl rfl rfl en60 · · · (.inl ⟨rfl, rfl⟩) rfl rfl) ?_
 refine sq_cons _ (v_alloc (id := 8) (cs := zc45) rfl trivial rfl (ble _ _ rfl) zu45 rfl ft45 rfl) ?_
 refine sq_cons _ (v_store_box (id := 8) (off := 0) (cs := (eShard t22).map V.d) rfl trivial rfl sz45 rfl rfl rfl rfl (ones_of rfl) (ble _ _ rfl)) ?_
 refine sq_nil ?_
 refine ht_seq ?_
 refine sr ?_
 refine sT 23 (.ptr 8 0) rfl (v_field_box (off := 0) (a0 := 0) rfl · · · fo45_0 rfl) ?_
 refine sT 24 (iV t22.mID) rfl (v_load_box1 (id := 8) (off := 0) rfl · · · onT3 rfl rfl (ble _ _ rfl) rfl) ?_
 refine sT 25 (bV (!eqI t22.mID 0)) rfl (v_bin rfl · · · rfl rfl (b_neq rfl)) ?_
 refine sq_nil ?_
 refine ht_cond rfl (fun e11 => ?_) (fun e11 => ?_)
 ·replace h := cpos e11 h
  refine ht_seq ?_
  refine ht_region_draw mixed ?_
  refine rT 26 (.d (.agg (eCell t0))) rfl (w_ldb 3 0 rfl · · · ag26 rfl rfl (ble _ _ rfl) rfl) ?_
  refine rT 27 (.d (.agg (eShard t22))) rfl (w_ldb 8 0 rfl · · · ag45 rfl rfl (ble _ _ rfl) rfl) ?_
  refine rM 28 (iV t2) rfl rfl ?_
  obtain ⟨t29, c12, h⟩ := bpos h
  refine rT 29 (bV t29) rfl (w_call (ds := [(.agg (eShard t22)), (.s (.int .i64 t2))]) (caps := []) (l := [(.s (.bool t29))]) (s93 k t22 t2 _ c12) rfl rfl rfl en93 · · · (.inl ⟨rfl, rfl⟩) rfl rfl) ?_
  refine rg_cons _ (v_store_box (id := 6) (off := 0) (cs := (eCell t0).map V.d) rfl trivial rfl sz26 rfl rfl rfl rfl (ones_of rfl) (ble _ _ rfl)) ?_
  refine rM 7 (bV t29) rfl rfl ?_
  refine rg_nil ⟨by kernel_rfl, ?_⟩
  refine ht_ret ?_
  cases h
  exact ret2 rfl (.cell rfl rfl ag26 (ble _ _ rfl) rfl) (.tmp rfl)
 replace h := cneg e11 h
 refine ht_skip ?_
 refine ht_seq ?_
 refine sr ?_
 refine sM 30 (iV t2) rfl rfl ?_
 refine sT 31 (.ptr 3 4) rfl (v_field_box (off := 0) (a0 := 4) rfl · · · fo26_2 rfl) ?_
 refine sT 32 (iV t0.mDropped) rfl (v_load_box1 (id := 3) (off := 4) rfl · · · onT3 rfl rfl (ble _ _ rfl) rfl) ?_
 refine sT 33 (bV (leI t2 t0.mDropped)) rfl (v_bin rfl · · · rfl rfl (b_leq rfl)) ?_
 refine sM 34 (bV (leI t2 t0.mDropped)) rfl rfl ?_
 refine sF 35 (.ptr 3 0) rfl rfl (fun e13 => (v_field_box (off := 0) (a0 := 0) rfl · · · fo26_0 rfl)) ?_
 refine sF 36 (.d (.sl 17 (t0.mShards.map eShard))) rfl rfl (fun e14 => (v_load_box1 (id := 3) (off := 0) rfl · · · onT22 (gv (nF e14)) rfl (ble _ _ rfl) rfl)) ?_
 refine sF 37 (iV (t0.mShards.length : Int)) rfl rfl (fun e15 => (w_len t0.mShards eShard rfl rfl · · · slT22 (gv (nF e15)))) ?_
 refine sF 38 (bV (eqI (t0.mShards.length : Int) 8)) rfl rfl (fun e16 => (v_bin rfl · · · (gv (nF e16)) rfl (b_eql rfl))) ?_
 refine sT 39 (bV ((leI t2 t0.mDropped) || (eqI (t0.mShards.length : Int) 8))) rfl (v_pickB rfl · · · rfl (fun e17 => rfl) (fun e18 => (gv (nF e18))) (pO _ _)) ?_
 refine sM 40 (bV ((leI t2 t0.mDropped) || (eqI (t0.mShards.length : Int) 8))) rfl rfl ?_
 refine sF 41 (.d (.agg (eShard t1))) rfl rfl (fun e19 => (w_ldb 4 0 rfl · · · ag45 rfl rfl (ble _ _ rfl) rfl)) ?_
 obtain ⟨t42, c21, h⟩ := bpos h
 refine sF 42 (bV t42) rfl rfl (fun e20 => (w_call (ds := [(.agg (eShard t1))]) (caps := []) (l := [(.s (.bool t42))]) (s20 k t1 _ (cpos (nF e20) c21)) rfl rfl rfl en20 · · · (.inl ⟨rfl, rfl⟩) (cc (gv (nF e20)) rfl) rfl)) ?_
 refine sF 43 (bV (!t42)) rfl rfl (fun e22 => (v_un rfl · · · (gv (nF e22)) (u_not rfl))) ?_
 refine sT 44 (bV (((leI t2 t0.mDropped) || (eqI (t0.mShards.length : Int) 8)) || (!t42))) rfl (v_pickB rfl · · · rfl (fun e23 => rfl) (fun e24 => (gv (nF e24))) (pO _ _)) ?_
 refine sM 45 (bV (((leI t2 t0.mDropped) || (eqI (t0.mShards.length : Int) 8)) || (!t42))) rfl rfl ?_
 refine sF 46 (.d (.agg (eShard t1))) rfl rfl (fun e25 => (w_ldb 4 0 rfl · · · ag45 rfl rfl (ble _ _ rfl) rfl)) ?_
 refine sF 47 (iV t2) rfl rfl (fun e26 => (v_move (.inl rfl) · · · rfl)) ?_
 obtain ⟨t48, c28, h⟩ := bpos h
 refine sF 48 (bV t48) rfl rfl (fun e27 => (w_call (ds := [(.agg (eShard t1)), (.s (.int .i64 t2))]) (caps := []) (l := [(.s (.bool t48))]) (s94 k t1 t2 _ (cpos (nF e27) c28)) rfl rfl rfl en94 · · · (.inl ⟨rfl, rfl⟩) (cc (gv (nF e27)) (cc (gv (nF e27)) rfl)) rfl)) ?_
 refine sF 49 (bV (!t48)) rfl rfl (fun e29 => (v_un rfl · · · (gv (nF e29)) (u_not rfl))) ?_
 refine sT 50 (bV ((((leI t2 t0.mDropped) || (eqI (t0.mShards.length : Int) 8)) || (!t42)) || (!t48))) rfl (v_pickB rfl · · · rfl (fun e30 => rfl) (fun e31 => (gv (nF e31))) (pO _ _)) ?_
 refine sM 51 (bV ((((leI t2 t0.mDropped) || (eqI (t0.mShards.length : Int) 8)) || (!t42)) || (!t48))) rfl rfl ?_
 refine sF 52 (.d (.agg (eShard t1))) rfl rfl (fun e32 => (w_ldb 4 0 rfl · · · ag45 rfl rfl (ble _ _ rfl) rfl)) ?_
 refine sF 53 (.ptr 4 9) rfl rfl (fun e33 => (v_field_box (off := 0) (a0 := 9) rfl · · · fo45_6 rfl)) ?_
 refine sF 54 (.d (.agg (eStamp t1.mTop))) rfl rfl (fun e34 => (w_ldb 4 9 rfl · · · ag24 (gv (nF e34)) rfl (ble _ _ rfl) rfl)) ?_
 obtain ⟨t55, c36, h⟩ := bpos h
 refine sF 55 (bV t55) rfl rfl (fun e35 => (w_call (ds := [(.agg (eShard t1)), (.agg (eStamp t1.mTop))]) (caps := []) (l := [(.s (.bool t55))]) (s90 k t1 t1.mTop _ (cpos (nF e35) c36)) rfl rfl rfl en90 · · · (.inl ⟨rfl, rfl⟩) (cc (gv (nF e35)) (cc (gv (nF e35)) rfl)) rfl)) ?_
 refine sF 56 (bV (!t55)) rfl rfl (fun e37 => (v_un rfl · · · (gv (nF e37)) (u_not rfl))) ?_
 refine sT 57 (bV (((((leI t2 t0.mDropped) || (eqI (t0.mShards.length : Int) 8)) || (!t42)) || (!t48)) || (!t55))) rfl (v_pickB rfl · · · rfl (fun e38 => rfl) (fun e39 => (gv (nF e39))) (pO _ _)) ?_
 refine sq_nil ?_
 refine ht_cond rfl (fun e40 => ?_) (fun e40 => ?_)
 ·replace h := cpos e40 h
  refine sr ?_
  refine sT 58 (.d (.agg (eCell t0))) rfl (w_ldb 3 0 rfl · · · ag26 rfl rfl (ble _ _ rfl) rfl) ?_
  refine sq_cons _ (v_store_box (id := 6) (off := 0) (cs := (eCell t0).map V.d) rfl trivial rfl sz26 rfl rfl rfl rfl (ones_of rfl) (ble _ _ rfl)) ?_
  refine sM 7 (bV false) rfl rfl ?_
  refine sq_nil ?_
  refine ht_ret ?_
  cases h
  exact ret2 rfl (.cell rfl rfl ag26 (ble _ _ rfl) rfl) (.tmp rfl)
 replace h := cneg e40 h
 refine ht_skip ?_
 refine sr ?_
 refine sT 59 (.ptr 4 4) rfl (v_field_box (off := 0) (a0 := 4) rfl · · · fo45_3 rfl) ?_
 refine sq_cons _ (v_store_box (id := 4) (off := 4) (cs := [(.s (.int .i64 3))].map V.d) rfl trivial rfl sz3 rfl rfl rfl rfl (ones_of rfl) (ble _ _ rfl)) ?_
 refine sq_nil ?_
 refine sr ?_
 refine sT 60 (.d (.agg (eCell t0))) rfl (w_ldb 3 0 rfl · · · ag26 rfl rfl (ble _ _ rfl) rfl) ?_
 refine sT 61 (.d (.agg (eShard ({t1 with mPhase := 3})))) rfl (w_ldb 4 0 rfl · · · ag45 rfl rfl (ble _ _ rfl) rfl) ?_
 obtain ⟨t62, c41, h⟩ := bpos h
 refine sT 62 (.d (.agg (eCell t62))) rfl (w_call (ds := [(.agg (eCell t0)), (.agg (eShard ({t1 with mPhase := 3})))]) (caps := []) (l := [(.agg (eCell t62))]) (s95 k t0 ({t1 with mPhase := 3}) _ c41) rfl rfl rfl en95 · · · (.inl ⟨rfl, rfl⟩) rfl rfl) ?_
 refine sq_cons _ (v_store_box (id := 3) (off := 0) (cs := (eCell t62).map V.d) rfl trivial rfl sz26 rfl rfl rfl rfl (ones_of rfl) (ble _ _ rfl)) ?_
 refine sq_nil ?_
 refine sr ?_
 refine sT 63 (.ptr 3 1) rfl (v_field_box (off := 0) (a0 := 1) rfl · · · fo26_1 rfl) ?_
 refine sT 64 (.d (.agg (eStamp t62.mTop))) rfl (w_ldb 3 1 rfl · · · ag24 rfl rfl (ble _ _ rfl) rfl) ?_
 refine sT 65 (.ptr 4 9) rfl (v_field_box (off := 0) (a0 := 9) rfl · · · fo45_6 rfl) ?_
 refine sT 66 (.d (.agg (eStamp t1.mTop))) rfl (w_ldb 4 9 rfl · · · ag24 rfl rfl (ble _ _ rfl) rfl) ?_
 obtain ⟨t67, c42, h⟩ := bpos h
 refine sT 67 (.d (.agg (eStamp t67))) rfl (w_call (ds := [(.agg (eStamp t62.mTop)), (.agg (eStamp t1.mTop))]) (caps := []) (l := [(.agg (eStamp t67))]) (s37 k t62.mTop t1.mTop _ c42) rfl rfl rfl en37 · · · (.inl ⟨rfl, rfl⟩) rfl rfl) ?_
 refine sT 68 (.ptr 3 1) rfl (v_field_box (off := 0) (a0 := 1) rfl · · · fo26_1 rfl) ?_
 refine sq_cons _ (v_store_box (id := 3) (off := 1) (cs := (eStamp t67).map V.d) rfl trivial rfl sz24 rfl rfl rfl rfl (ones_of rfl) (ble _ _ rfl)) ?_
 refine sq_nil ?_
 refine sr ?_
 refine sT 69 (.d (.agg (eCell ({t62 with mTop := t67})))) rfl (w_ldb 3 0 rfl · · · ag26 rfl rfl (ble _ _ rfl) rfl) ?_
 refine sq_cons _ (v_store_box (id := 6) (off := 0) (cs := (eCell ({t62 with mTop := t67})).map V.d) rfl trivial rfl sz26 rfl rfl rfl rfl (ones_of rfl) (ble _ _ rfl)) ?_
 refine sM 7 (bV true) rfl rfl ?_
 refine sq_nil ?_
 refine ht_ret ?_
 cases h
 exact ret2 rfl (.cell rfl rfl ag26 (ble _ _ rfl) rfl) (.tmp rfl)
theorem s96 (k : Nat) (t0 : Shard) (t1 : Int) (t2 : Int) (r : Bool) (h : F96 k t0 t1 t2 = some r) : Awp.Spec Tryz.prog amb 96 [(.agg (eShard t0)), (.s (.int .i64 t1)), (.s (.int .i64 t2))] (.ds [(.s (.bool r))]) := by
 rw [F96] at h
 refine spec_of Tryz.func96 rfl (ble _ _ rfl) fun w0 ok0 lt0 hA => ?_
 refine sr ?_
 refine sT 3 (.d (.dp (eShard t0))) rfl (v_box_d (cs := (eShard t0)) rfl · · · rfl rfl (ones_of rfl)) ?_
 refine sM 6 (bV false) rfl rfl ?_
 refine sq_nil ?_
 refine sr ?_
 refine sT 7 (.d (.dp (eShard t0))) rfl (v_field_dp (a0 := 0) (cs := (eShard t0)) rfl · · · fo45_0 rfl) ?_
 refine sT 8 (iV t0.mID) rfl (v_load_dp1 rfl · · · onT3 rfl rfl) ?_
 refine sT 9 (bV (ltI 0 t0.mID)) rfl (v_bin rfl · · · rfl rfl (b_gtr rfl)) ?_
 refine sM 10 (bV (ltI 0 t0.mID)) rfl rfl ?_
 refine sG 11 (.d (.dp (List.drop 4 (eShard t0)))) rfl rfl (fun e1 => (v_field_dp (a0 := 4) (cs := (eShard t0)) rfl · · · fo45_3 rfl)) ?_
 refine sG 12 (iV t0.mPhase) rfl rfl (fun e2 => (v_load_dp1 rfl · · · onT3 (gv e2) rfl)) ?_
 refine sG 13 (iV t1) rfl rfl (fun e3 => (v_move (.inl rfl) · · · rfl)) ?_
 refine sG 14 (bV (eqI t0.mPhase t1)) rfl rfl (fun e4 => (v_bin rfl · · · (gv e4) (gv e4) (b_eql rfl))) ?_
 refine sT 15 (bV ((ltI 0 t0.mID) && (eqI t0.mPhase t1))) rfl (v_pickB rfl · · · rfl (fun e5 => (gv e5)) (fun e6 => rfl) (pA _ _)) ?_
 refine sM 16 (bV ((ltI 0 t0.mID) && (eqI t0.mPhase t1))) rfl rfl ?_
 refine sG 17 (.d (.dp (List.drop 15 (eShard t0)))) rfl rfl (fun e7 => (v_field_dp (a0 := 15) (cs := (eShard t0)) rfl · · · fo45_10 rfl)) ?_
 refine sG 18 (iV t0.mMove) rfl rfl (fun e8 => (v_load_dp1 rfl · · · onT3 (gv e8) rfl)) ?_
 refine sG 19 (iV t2) rfl rfl (fun e9 => (v_move (.inl rfl) · · · rfl)) ?_
 refine sG 20 (bV (eqI t0.mMove t2)) rfl rfl (fun e10 => (v_bin rfl · · · (gv e10) (gv e10) (b_eql rfl))) ?_
 refine sT 21 (bV (((ltI 0 t0.mID) && (eqI t0.mPhase t1)) && (eqI t0.mMove t2))) rfl (v_pickB rfl · · · rfl (fun e11 => (gv e11)) (fun e12 => rfl) (pA _ _)) ?_
 refine sM 6 (bV (((ltI 0 t0.mID) && (eqI t0.mPhase t1)) && (eqI t0.mMove t2))) rfl rfl ?_
 refine sq_nil ?_
 refine ht_ret ?_
 cases h
 exact ret1 rfl (.tmp rfl)
theorem s29 (k : Nat) (t0 : Cell) (t1 : Shard) (t2 : Int) (r : Cell × Bool) (h : F29 k t0 t1 t2 = some r) : Awp.Spec Tryz.prog amb 29 [(.agg (eCell t0)), (.agg (eShard t1)), (.s (.int .i64 t2))] (.ds [(.agg (eCell r.1)), (.s (.bool r.2))]) := by
 rw [F29] at h
 refine spec_of Tryz.func29 rfl (ble _ _ rfl) fun w0 ok0 lt0 hA => ?_
 refine sr ?_
 refine sT 3 (.d (.dp (eCell t0))) rfl (v_box_d (cs := (eCell t0)) rfl · · · rfl rfl (ones_of rfl)) ?_
 refine sq_cons _ (v_box (id := 4) (cs := (eShard t1).map V.d) rfl trivial rfl (ble _ _ rfl) rfl rfl (ones_of rfl) rfl) ?_
 refine sq_cons _ (v_alloc (id := 6) (cs := zc26) rfl trivial rfl (ble _ _ rfl) zu26 rfl ft26 rfl) ?_
 refine sM 7 (bV false) rfl rfl ?_
 refine sq_nil ?_
 refine ht_seq ?_
 refine sr ?_
 refine sT 10 (.d (.agg (eCell t0))) rfl (w_ldp (eCell t0) (eCell t0) rfl · · · ag26 rfl (ble _ _ rfl) rfl) ?_
 obtain ⟨t11, c1, h⟩ := bpos h
 refine sT 11 (bV t11) rfl (w_call (ds := [(.agg (eCell t0))]) (caps := []) (l := [(.s (.bool t11))]) (s22 k t0 _ c1) rfl rfl rfl en22 · · · (.inl ⟨rfl, rfl⟩) rfl rfl) ?_
 refine sT 12 (bV (!t11)) rfl (v_un rfl · · · rfl (u_not rfl)) ?_
 refine sM 13 (bV (!t11)) rfl rfl ?_
 refine sF 14 (iV t2) rfl rfl (fun e2 => (v_move (.inl rfl) · · · rfl)) ?_
 obtain ⟨t15, c4, h⟩ := bpos h
 refine sF 15 (bV t15) rfl rfl (fun e3 => (w_call (ds := [(.s (.int .i64 t2))]) (caps := []) (l := [(.s (.bool t15))]) (s66 k t2 _ (cpos (nF e3) c4)) rfl rfl rfl en66 · · · (.inl ⟨rfl, rfl⟩) (cc (gv (nF e3)) rfl) rfl)) ?_
 refine sF 16 (bV (!t15)) rfl rfl (fun e5 => (v_un rfl · · · (gv (nF e5)) (u_not rfl))) ?_
 refine sT 17 (bV ((!t11) || (!t15))) rfl (v_pickB rfl · · · rfl (fun e6 => rfl) (fun e7 => (gv (nF e7))) (pO _ _)) ?_
 refine sq_nil ?_
 refine ht_cond rfl (fun e8 => ?_) (fun e8 => ?_)
 ·replace h := cpos e8 h
  refine sr ?_
  refine sT 18 (.d (.agg (eCell t0))) rfl (w_ldp (eCell t0) (eCell t0) rfl · · · ag26 rfl (ble _ _ rfl) rfl) ?_
  refine sq_cons _ (v_store_box (id := 6) (off := 0) (cs := (eCell t0).map V.d) rfl trivial rfl sz26 rfl rfl rfl rfl (ones_of rfl) (ble _ _ rfl)) ?_
  refine sM 7 (bV false) rfl rfl ?_
  refine sq_nil ?_
  refine ht_ret ?_
  cases h
  exact ret2 rfl (.cell rfl rfl ag26 (ble _ _ rfl) rfl) (.tmp rfl)
 replace h := cneg e8 h
 refine ht_skip ?_
 refine sr ?_
 refine sT 19 (.d (.agg (eCell t0))) rfl (w_ldp (eCell t0) (eCell t0) rfl · · · ag26 rfl (ble _ _ rfl) rfl) ?_
 refine sT 20 (.ptr 4 0) rfl (v_field_box (off := 0) (a0 := 0) rfl · · · fo45_0 rfl) ?_
 refine sT 21 (iV t1.mID) rfl (v_load_box1 (id := 4) (off := 0) rfl · · · onT3 rfl rfl (ble _ _ rfl) rfl) ?_
 obtain ⟨t22, c9, h⟩ := bpos h
 refine sT 22 (.d (.agg (eShard t22))) rfl (w_call (ds := [(.agg (eCell t0)), (.s (.int .i64 t1.mID))]) (caps := []) (l := [(.agg (eShard t22))]) (s24 k t0 t1.mID _ c9) rfl rfl rfl en24 · · · (.inl ⟨rfl, rfl⟩) rfl rfl) ?_
 refine sq_cons _ (v_alloc (id := 8) (cs := zc45) rfl trivial rfl (ble _ _ rfl) zu45 rfl ft45 rfl) ?_
 refine sq_cons _ (v_store_box (id := 8) (off := 0) (cs := (eShard t22).map V.d) rfl trivial rfl sz45 rfl rfl rfl rfl (ones_of rfl) (ble _ _ rfl)) ?_
 refine sq_nil ?_
 refine ht_seq ?_
 refine sr ?_
 refine sT 23 (.ptr 8 0) rfl (v_field_box (off := 0) (a0 := 0) rfl · · · fo45_0 rfl) ?_
 refine sT 24 (iV t22.mID) rfl (v_load_box1 (id := 8) (off := 0) rfl · · · onT3 rfl rfl (ble _ _ rfl) rfl) ?_
 refine sT 25 (bV (ltI 0 t22.mID)) rfl (v_bin rfl · · · rfl rfl (b_gtr rfl)) ?_
 refine sq_nil ?_
 refine ht_cond rfl (fun e10 => ?_) (fun e10 => ?_)
 ·replace h := cpos e10 h
  refine ht_seq ?_
  refine ht_region_draw mixed ?_
  refine rT 26 (.d (.agg (eCell t0))) rfl (w_ldp (eCell t0) (eCell t0) rfl · · · ag26 rfl (ble _ _ rfl) rfl) ?_
  refine rT 27 (.d (.agg (eShard t22))) rfl (w_ldb 8 0 rfl · · · ag45 rfl rfl (ble _ _ rfl) rfl) ?_
  refine rM 28 (iV t2) rfl rfl ?_
  obtain ⟨t29, c11, h⟩ := bpos h
  refine rT 29 (bV t29) rfl (w_call (ds := [(.agg (eShard t22)), (.s (.int .i64 3)), (.s (.int .i64 t2))]) (caps := []) (l := [(.s (.bool t29))]) (s96 k t22 3 t2 _ c11) rfl rfl rfl en96 · · · (.inl ⟨rfl, rfl⟩) rfl rfl) ?_
  refine rg_cons _ (v_store_box (id := 6) (off := 0) (cs := (eCell t0).map V.d) rfl trivial rfl sz26 rfl rfl rfl rfl (ones_of rfl) (ble _ _ rfl)) ?_
  refine rM 7 (bV t29) rfl rfl ?_
  refine rg_nil ⟨by kernel_rfl, ?_⟩
  refine ht_ret ?_
  cases h
  exact ret2 rfl (.cell rfl rfl ag26 (ble _ _ rfl) rfl) (.tmp rfl)
 replace h := cneg e10 h
 refine ht_skip ?_
 refine ht_seq ?_
 refine sr ?_
 refine sM 30 (iV t2) rfl rfl ?_
 refine sT 31 (.d (.dp (List.drop 4 (eCell t0)))) rfl (v_field_dp (a0 := 4) (cs := (eCell t0)) rfl · · · fo26_2 rfl) ?_
 refine sT 32 (iV t0.mDropped) rfl (v_load_dp1 rfl · · · onT3 rfl rfl) ?_
 refine sT 33 (bV (leI t2 t0.mDropped)) rfl (v_bin rfl · · · rfl rfl (b_leq rfl)) ?_
 refine sM 34 (bV (leI t2 t0.mDropped)) rfl rfl ?_
 refine sF 35 (.d (.dp (eCell t0))) rfl rfl (fun e12 => (v_field_dp (a0 := 0) (cs := (eCell t0)) rfl · · · fo26_0 rfl)) ?_
 refine sF 36 (.d (.sl 17 (t0.mShards.map eShard))) rfl rfl (fun e13 => (v_load_dp1 rfl · · · onT22 (gv (nF e13)) rfl)) ?_
 refine sF 37 (iV (t0.mShards.length : Int)) rfl rfl (fun e14 => (w_len t0.mShards eShard rfl rfl · · · slT22 (gv (nF e14)))) ?_
 refine sF 38 (bV (ltI 7 (t0.mShards.length : Int))) rfl rfl (fun e15 => (v_bin rfl · · · (gv (nF e15)) rfl (b_gtr rfl))) ?_
 refine sT 39 (bV ((leI t2 t0.mDropped) || (ltI 7 (t0.mShards.length : Int)))) rfl (v_pickB rfl · · · rfl (fun e16 => rfl) (fun e17 => (gv (nF e17))) (pO _ _)) ?_
 refine sM 40 (bV ((leI t2 t0.mDropped) || (ltI 7 (t0.mShards.length : Int)))) rfl rfl ?_
 refine sF 41 (.d (.agg (eShard t1))) rfl rfl (fun e18 => (w_ldb 4 0 rfl · · · ag45 rfl rfl (ble _ _ rfl) rfl)) ?_
 obtain ⟨t42, c20, h⟩ := bpos h
 refine sF 42 (bV t42) rfl rfl (fun e19 => (w_call (ds := [(.agg (eShard t1))]) (caps := []) (l := [(.s (.bool t42))]) (s21 k t1 _ (cpos (nF e19) c20)) rfl rfl rfl en21 · · · (.inl ⟨rfl, rfl⟩) (cc (gv (nF e19)) rfl) rfl)) ?_
 refine sF 43 (bV (!t42)) rfl rfl (fun e21 => (v_un rfl · · · (gv (nF e21)) (u_not rfl))) ?_
 refine sT 44 (bV (((leI t2 t0.mDropped) || (ltI 7 (t0.mShards.length : Int))) || (!t42))) rfl (v_pickB rfl · · · rfl (fun e22 => rfl) (fun e23 => (gv (nF e23))) (pO _ _)) ?_
 refine sM 45 (bV (((leI t2 t0.mDropped) || (ltI 7 (t0.mShards.length : Int))) || (!t42))) rfl rfl ?_
 refine sF 46 (.d (.agg (eShard t1))) rfl rfl (fun e24 => (w_ldb 4 0 rfl · · · ag45 rfl rfl (ble _ _ rfl) rfl)) ?_
 refine sF 47 (iV t2) rfl rfl (fun e25 => (v_move (.inl rfl) · · · rfl)) ?_
 obtain ⟨t48, c27, h⟩ := bpos h
 refine sF 48 (bV t48) rfl rfl (fun e26 => (w_call (ds := [(.agg (eShard t1)), (.s (.int .i64 2)), (.s (.int .i64 t2))]) (caps := []) (l := [(.s (.bool t48))]) (s96 k t1 2 t2 _ (cpos (nF e26) c27)) rfl rfl rfl en96 · · · (.inl ⟨rfl, rfl⟩) (cc (gv (nF e26)) (cc rfl (cc (gv (nF e26)) rfl))) rfl)) ?_
 refine sF 49 (bV (!t48)) rfl rfl (fun e28 => (v_un rfl · · · (gv (nF e28)) (u_not rfl))) ?_
 refine sT 50 (bV ((((leI t2 t0.mDropped) || (ltI 7 (t0.mShards.length : Int))) || (!t42)) || (!t48))) rfl (v_pickB rfl · · · rfl (fun e29 => rfl) (fun e30 => (gv (nF e30))) (pO _ _)) ?_
 refine sM 51 (bV ((((leI t2 t0.mDropped) || (ltI 7 (t0.mShards.length : Int))) || (!t42)) || (!t48))) rfl rfl ?_
 refine sF 52 (.d (.agg (eShard t1))) rfl rfl (fun e31 => (w_ldb 4 0 rfl · · · ag45 rfl rfl (ble _ _ rfl) rfl)) ?_
 refine sF 53 (.ptr 4 9) rfl rfl (fun e32 => (v_field_box (off := 0) (a0 := 9) rfl · · · fo45_6 rfl)) ?_
 refine sF 54 (.d (.agg (eStamp t1.mTop))) rfl rfl (fun e33 => (w_ldb 4 9 rfl · · · ag24 (gv (nF e33)) rfl (ble _ _ rfl) rfl)) ?_
 obtain ⟨t55, c35, h⟩ := bpos h
 refine sF 55 (bV t55) rfl rfl (fun e34 => (w_call (ds := [(.agg (eShard t1)), (.agg (eStamp t1.mTop))]) (caps := []) (l := [(.s (.bool t55))]) (s89 k t1 t1.mTop _ (cpos (nF e34) c35)) rfl rfl rfl en89 · · · (.inl ⟨rfl, rfl⟩) (cc (gv (nF e34)) (cc (gv (nF e34)) rfl)) rfl)) ?_
 refine sF 56 (bV (!t55)) rfl rfl (fun e36 => (v_un rfl · · · (gv (nF e36)) (u_not rfl))) ?_
 refine sT 57 (bV (((((leI t2 t0.mDropped) || (ltI 7 (t0.mShards.length : Int))) || (!t42)) || (!t48)) || (!t55))) rfl (v_pickB rfl · · · rfl (fun e37 => rfl) (fun e38 => (gv (nF e38))) (pO _ _)) ?_
 refine sq_nil ?_
 refine ht_cond rfl (fun e39 => ?_) (fun e39 => ?_)
 ·replace h := cpos e39 h
  refine sr ?_
  refine sT 58 (.d (.agg (eCell t0))) rfl (w_ldp (eCell t0) (eCell t0) rfl · · · ag26 rfl (ble _ _ rfl) rfl) ?_
  refine sq_cons _ (v_store_box (id := 6) (off := 0) (cs := (eCell t0).map V.d) rfl trivial rfl sz26 rfl rfl rfl rfl (ones_of rfl) (ble _ _ rfl)) ?_
  refine sM 7 (bV false) rfl rfl ?_
  refine sq_nil ?_
  refine ht_ret ?_
  cases h
  exact ret2 rfl (.cell rfl rfl ag26 (ble _ _ rfl) rfl) (.tmp rfl)
 replace h := cneg e39 h
 refine ht_skip ?_
 refine sr ?_
 refine sT 59 (.ptr 4 4) rfl (v_field_box (off := 0) (a0 := 4) rfl · · · fo45_3 rfl) ?_
 refine sq_cons _ (v_store_box (id := 4) (off := 4) (cs := [(.s (.int .i64 3))].map V.d) rfl trivial rfl sz3 rfl rfl rfl rfl (ones_of rfl) (ble _ _ rfl)) ?_
 refine sq_nil ?_
 refine sr ?_
 refine sT 60 (.d (.agg (eCell t0))) rfl (w_ldp (eCell t0) (eCell t0) rfl · · · ag26 rfl (ble _ _ rfl) rfl) ?_
 refine sT 61 (.d (.agg (eShard ({t1 with mPhase := 3})))) rfl (w_ldb 4 0 rfl · · · ag45 rfl rfl (ble _ _ rfl) rfl) ?_
 obtain ⟨t62, c40, h⟩ := bpos h
 refine sT 62 (.d (.agg (eCell t62))) rfl (w_call (ds := [(.agg (eCell t0)), (.agg (eShard ({t1 with mPhase := 3}))), (.s (.bool false))]) (caps := []) (l := [(.agg (eCell t62))]) (s79 k t0 ({t1 with mPhase := 3}) false _ c40) rfl rfl rfl en79 · · · (.inl ⟨rfl, rfl⟩) rfl rfl) ?_
 refine sq_cons _ (v_alloc (id := 9) (cs := zc26) rfl trivial rfl (ble _ _ rfl) zu26 rfl ft26 rfl) ?_
 refine sq_cons _ (v_store_box (id := 9) (off := 0) (cs := (eCell t62).map V.d) rfl trivial rfl sz26 rfl rfl rfl rfl (ones_of rfl) (ble _ _ rfl)) ?_
 refine sq_nil ?_
 refine sr ?_
 refine sT 63 (.d (.dp (List.drop 1 (eCell t0)))) rfl (v_field_dp (a0 := 1) (cs := (eCell t0)) rfl · · · fo26_1 rfl) ?_
 refine sT 64 (.d (.agg (eStamp t0.mTop))) rfl (w_ldp (List.drop 1 (eCell t0)) (eStamp t0.mTop) rfl · · · ag24 rfl (ble _ _ rfl) rfl) ?_
 refine sT 65 (.ptr 4 9) rfl (v_field_box (off := 0) (a0 := 9) rfl · · · fo45_6 rfl) ?_
 refine sT 66 (.d (.agg (eStamp t1.mTop))) rfl (w_ldb 4 9 rfl · · · ag24 rfl rfl (ble _ _ rfl) rfl) ?_
 obtain ⟨t67, c41, h⟩ := bpos h
 refine sT 67 (.d (.agg (eStamp t67))) rfl (w_call (ds := [(.agg (eStamp t0.mTop)), (.agg (eStamp t1.mTop))]) (caps := []) (l := [(.agg (eStamp t67))]) (s97 k t0.mTop t1.mTop _ c41) rfl rfl rfl en97 · · · (.inl ⟨rfl, rfl⟩) rfl rfl) ?_
 refine sT 68 (.ptr 9 1) rfl (v_field_box (off := 0) (a0 := 1) rfl · · · fo26_1 rfl) ?_
 refine sq_cons _ (v_store_box (id := 9) (off := 1) (cs := (eStamp t67).map V.d) rfl trivial rfl sz24 rfl rfl rfl rfl (ones_of rfl) (ble _ _ rfl)) ?_
 refine sq_nil ?_
 refine sr ?_
 refine sT 69 (.d (.agg (eCell ({t62 with mTop := t67})))) rfl (w_ldb 9 0 rfl · · · ag26 rfl rfl (ble _ _ rfl) rfl) ?_
 refine sq_cons _ (v_store_box (id := 6) (off := 0) (cs := (eCell ({t62 with mTop := t67})).map V.d) rfl trivial rfl sz26 rfl rfl rfl rfl (ones_of rfl) (ble _ _ rfl)) ?_
 refine sM 7 (bV true) rfl rfl ?_
 refine sq_nil ?_
 refine ht_ret ?_
 cases h
 exact ret2 rfl (.cell rfl rfl ag26 (ble _ _ rfl) rfl) (.tmp rfl)
theorem s5 (k : Nat) (t0 : Cell) (t1 : Shard) (t2 : Int) (r : Bool) (h : F5 k t0 t1 t2 = some r) : Awp.Spec Tryz.prog amb 5 [(.agg (eCell t0)), (.agg (eShard t1)), (.s (.int .i64 t2))] (.ds [(.s (.bool r))]) := by
 rw [F5] at h
 refine spec_of Tryz.func5 rfl (ble _ _ rfl) fun w0 ok0 lt0 hA => ?_
 refine sr ?_
 refine sT 3 (.d (.dp (eCell t0))) rfl (v_box_d (cs := (eCell t0)) rfl · · · rfl rfl (ones_of rfl)) ?_
 refine sT 4 (.d (.dp (eShard t1))) rfl (v_box_d (cs := (eShard t1)) rfl · · · rfl rfl (ones_of rfl)) ?_
 refine sM 6 (bV false) rfl rfl ?_
 refine sq_nil ?_
 refine ht_seq ?_
 refine sr ?_
 refine sT 11 (.d (.agg (eCell t0))) rfl (w_ldp (eCell t0) (eCell t0) rfl · · · ag26 rfl (ble _ _ rfl) rfl) ?_
 obtain ⟨t12, c1, h⟩ := bpos h
 refine sT 12 (bV t12) rfl (w_call (ds := [(.agg (eCell t0))]) (caps := []) (l := [(.s (.bool t12))]) (s14 k t0 _ c1) rfl rfl rfl en14 · · · (.inl ⟨rfl, rfl⟩) rfl rfl) ?_
 refine sT 13 (bV (!t12)) rfl (v_un rfl · · · rfl (u_not rfl)) ?_
 refine sM 14 (bV (!t12)) rfl rfl ?_
 refine sF 15 (.d (.agg (eShard t1))) rfl rfl (fun e2 => (w_ldp (eShard t1) (eShard t1) rfl · · · ag45 rfl (ble _ _ rfl) rfl)) ?_
 obtain ⟨t16, c4, h⟩ := bpos h
 refine sF 16 (bV t16) rfl rfl (fun e3 => (w_call (ds := [(.agg (eShard t1))]) (caps := []) (l := [(.s (.bool t16))]) (s27 k t1 _ (cpos (nF e3) c4)) rfl rfl rfl en27 · · · (.inl ⟨rfl, rfl⟩) (cc (gv (nF e3)) rfl) rfl)) ?_
 refine sF 17 (bV (!t16)) rfl rfl (fun e5 => (v_un rfl · · · (gv (nF e5)) (u_not rfl))) ?_
 refine sT 18 (bV ((!t12) || (!t16))) rfl (v_pickB rfl · · · rfl (fun e6 => rfl) (fun e7 => (gv (nF e7))) (pO _ _)) ?_
 refine sq_nil ?_
 refine ht_cond rfl (fun e8 => ?_) (fun e8 => ?_)
 ·replace h := cpos e8 h
  refine sr ?_
  obtain ⟨t19, c9, h⟩ := bpos h
  refine sT 19 (bV t19) rfl (w_call (ds := []) (caps := []) (l := [(.s (.bool t19))]) (s15 k _ c9) rfl rfl rfl en15 · · · (.inl ⟨rfl, rfl⟩) rfl rfl) ?_
  refine sM 6 (bV t19) rfl rfl ?_
  refine sq_nil ?_
  refine ht_ret ?_
  cases h
  exact ret1 rfl (.tmp rfl)
 replace h := cneg e8 h
 refine ht_skip ?_
 refine sr ?_
 refine sT 21 (.d (.agg (eCell t0))) rfl (w_ldp (eCell t0) (eCell t0) rfl · · · ag26 rfl (ble _ _ rfl) rfl) ?_
 refine sT 22 (.d (.agg (eShard t1))) rfl (w_ldp (eShard t1) (eShard t1) rfl · · · ag45 rfl (ble _ _ rfl) rfl) ?_
 refine sM 23 (iV t2) rfl rfl ?_
 obtain ⟨⟨t24a, t24b⟩, c10, h⟩ := bpos h
 refine sT 24 (.tup [.d (.agg (eCell t24a)), bV t24b]) rfl (w_call (ds := [(.agg (eCell t0)), (.agg (eShard t1)), (.s (.int .i64 t2))]) (caps := []) (l := [(.agg (eCell t24a)), (.s (.bool t24b))]) (s28 k t0 t1 t2 _ c10) rfl rfl rfl en28 · · · (.inl ⟨rfl, rfl⟩) rfl rfl) ?_
 refine sM 20 (.tup [.d (.agg (eCell t24a)), bV t24b]) rfl rfl ?_
 refine sT 25 (.d (.agg (eCell t24a))) rfl (v_extract rfl · · · rfl rfl) ?_
 refine sT 26 (bV t24b) rfl (v_extract rfl · · · rfl rfl) ?_
 refine sq_cons _ (v_alloc (id := 7) (cs := zc26) rfl trivial rfl (ble _ _ rfl) zu26 rfl ft26 rfl) ?_
 refine sq_cons _ (v_store_box (id := 7) (off := 0) (cs := (eCell t24a).map V.d) rfl trivial rfl sz26 rfl rfl rfl rfl (ones_of rfl) (ble _ _ rfl)) ?_
 refine sM 8 (bV t24b) rfl rfl ?_
 refine sq_nil ?_
 refine sr ?_
 refine sT 28 (.d (.agg (eCell t0))) rfl (w_ldp (eCell t0) (eCell t0) rfl · · · ag26 rfl (ble _ _ rfl) rfl) ?_
 refine sT 29 (.d (.agg (eShard t1))) rfl (w_ldp (eShard t1) (eShard t1) rfl · · · ag45 rfl (ble _ _ rfl) rfl) ?_
 refine sM 30 (iV t2) rfl rfl ?_
 obtain ⟨⟨t31a, t31b⟩, c11, h⟩ := bpos h
 refine sT 31 (.tup [.d (.agg (eCell t31a)), bV t31b]) rfl (w_call (ds := [(.agg (eCell t0)), (.agg (eShard t1)), (.s (.int .i64 t2))]) (caps := []) (l := [(.agg (eCell t31a)), (.s (.bool t31b))]) (s29 k t0 t1 t2 _ c11) rfl rfl rfl en29 · · · (.inl ⟨rfl, rfl⟩) rfl rfl) ?_
 refine sM 27 (.tup [.d (.agg (eCell t31a)), bV t31b]) rfl rfl ?_
 refine sT 32 (.d (.agg (eCell t31a))) rfl (v_extract rfl · · · rfl rfl) ?_
 refine sT 33 (bV t31b) rfl (v_extract rfl · · · rfl rfl) ?_
 refine sq_cons _ (v_alloc (id := 9) (cs := zc26) rfl trivial rfl (ble _ _ rfl) zu26 rfl ft26 rfl) ?_
 refine sq_cons _ (v_store_box (id := 9) (off := 0) (cs := (eCell t31a).map V.d) rfl trivial rfl sz26 rfl rfl rfl rfl (ones_of rfl) (ble _ _ rfl)) ?_
 refine sM 10 (bV t31b) rfl rfl ?_
 refine sq_nil ?_
 refine sr ?_
 refine sT 34 (.d (.agg (eCell t24a))) rfl (w_ldb 7 0 rfl · · · ag26 rfl rfl (ble _ _ rfl) rfl) ?_
 refine sT 35 (.d (.agg (eCell t31a))) rfl (w_ldb 9 0 rfl · · · ag26 rfl rfl (ble _ _ rfl) rfl) ?_
 obtain ⟨t36, c12, h⟩ := bpos h
 refine sT 36 (bV t36) rfl (w_call (ds := [(.agg (eCell t24a)), (.agg (eCell t31a))]) (caps := []) (l := [(.s (.bool t36))]) (s18 k t24a t31a _ c12) rfl rfl rfl en18 · · · (.inl ⟨rfl, rfl⟩) rfl rfl) ?_
 refine sM 37 (bV t36) rfl rfl ?_
 refine sG 38 (bV t24b) rfl rfl (fun e13 => (v_move (.inl rfl) · · · rfl)) ?_
 refine sG 39 (bV t31b) rfl rfl (fun e14 => (v_move (.inl rfl) · · · rfl)) ?_
 refine sG 40 (bV (t24b == t31b)) rfl rfl (fun e15 => (v_bin rfl · · · (gv e15) (gv e15) (b_eqB und4 rfl))) ?_
 refine sT 41 (bV (t36 && (t24b == t31b))) rfl (v_pickB rfl · · · rfl (fun e16 => (gv e16)) (fun e17 => rfl) (pA _ _)) ?_
 refine sM 42 (bV (t36 && (t24b == t31b))) rfl rfl ?_
 obtain ⟨t43, c19, h⟩ := bpos h
 refine sG 43 (bV t43) rfl rfl (fun e18 => (w_call (ds := []) (caps := []) (l := [(.s (.bool t43))]) (s15 k _ (cpos e18 c19)) rfl rfl rfl en15 · · · (.inl ⟨rfl, rfl⟩) rfl rfl)) ?_
 refine sT 44 (bV ((t36 && (t24b == t31b)) && t43)) rfl (v_pickB rfl · · · rfl (fun e20 => (gv e20)) (fun e21 => rfl) (pA _ _)) ?_
 refine sM 6 (bV ((t36 && (t24b == t31b)) && t43)) rfl rfl ?_
 refine sq_nil ?_
 refine ht_ret ?_
 cases h
 exact ret1 rfl (.tmp rfl)
end Go.Proofs.Gd
set_option linter.unusedVariables false
namespace Go.Proofs.Gd
open Go Go.Awp Go.Proofs
theorem dc3 : Dc Tryz.prog 3 1 (eI .i64) := dcInt Tryz.underlying3 (by kernel_rfl)
theorem dc9 : Dc Tryz.prog 9 1 eS := dcStr Tryz.underlying9 (by kernel_rfl)
theorem dc41 : Dc Tryz.prog 41 2 eSpan := ⟨by kernel_rfl, fun enc W sp held fuel cs x hx => by
  obtain ⟨xs, n, _, _, hl, hxl, hf⟩ := DataW.trod_struct Tryz.underlying41 hx
  obtain ⟨a0, h0⟩ := field_some hxl hf (i := 0) (T := 9) (o := 0) rfl dc9
  obtain ⟨a1, h1⟩ := field_some hxl hf (i := 1) (T := 9) (o := 1) rfl dc9
  refine ⟨⟨a0, a1⟩, ?_⟩
  show RepC W cs ((eS a0) ++ ((eS a1) ++ ([])))
  exact repC_all (repC_glue h0 rfl (repC_glue h1 rfl (repC_end (hl.trans (by kernel_rfl)))))⟩
theorem dc24 : Dc Tryz.prog 24 3 eStamp := ⟨by kernel_rfl, fun enc W sp held fuel cs x hx => by
  obtain ⟨xs, n, _, _, hl, hxl, hf⟩ := DataW.trod_struct Tryz.underlying24 hx
  obtain ⟨a0, h0⟩ := field_some hxl hf (i := 0) (T := 3) (o := 0) rfl dc3
  obtain ⟨a1, h1⟩ := field_some hxl hf (i := 1) (T := 3) (o := 1) rfl dc3
  obtain ⟨a2, h2⟩ := field_some hxl hf (i := 2) (T := 3) (o := 2) rfl dc3
  refine ⟨⟨a0, a1, a2⟩, ?_⟩
  show RepC W cs ((eI .i64 a0) ++ ((eI .i64 a1) ++ ((eI .i64 a2) ++ ([]))))
  exact repC_all (repC_glue h0 rfl (repC_glue h1 rfl (repC_glue h2 rfl (repC_end (hl.trans (by kernel_rfl))))))⟩
theorem dc4 : Dc Tryz.prog 4 1 eB := dcBool Tryz.underlying4 (by kernel_rfl)
theorem dc93 : Dc Tryz.prog 93 5 eVersion := ⟨by kernel_rfl, fun enc W sp held fuel cs x hx => by
  obtain ⟨xs, n, _, _, hl, hxl, hf⟩ := DataW.trod_struct Tryz.underlying93 hx
  obtain ⟨a0, h0⟩ := field_some hxl hf (i := 0) (T := 24) (o := 0) rfl dc24
  obtain ⟨a1, h1⟩ := field_some hxl hf (i := 1) (T := 4) (o := 3) rfl dc4
  obtain ⟨a2, h2⟩ := field_some hxl hf (i := 2) (T := 9) (o := 4) rfl dc9
  refine ⟨⟨a0, a1, a2⟩, ?_⟩
  show RepC W cs ((eStamp a0) ++ ((eB a1) ++ ((eS a2) ++ ([]))))
  exact repC_all (repC_glue h0 rfl (repC_glue h1 rfl (repC_glue h2 rfl (repC_end (hl.trans (by kernel_rfl))))))⟩
theorem dc96 : Dc Tryz.prog 96 1 (eL 5 eVersion) := dcSlice Tryz.underlying96 (by kernel_rfl) (ble _ _ rfl) dc93 teVersion
theorem dc116 : Dc Tryz.prog 116 2 eEntry := ⟨by kernel_rfl, fun enc W sp held fuel cs x hx => by
  obtain ⟨xs, n, _, _, hl, hxl, hf⟩ := DataW.trod_struct Tryz.underlying116 hx
  obtain ⟨a0, h0⟩ := field_some hxl hf (i := 0) (T := 9) (o := 0) rfl dc9
  obtain ⟨a1, h1⟩ := field_some hxl hf (i := 1) (T := 96) (o := 1) rfl dc96
  refine ⟨⟨a0, a1⟩, ?_⟩
  show RepC W cs ((eS a0) ++ ((eL 5 eVersion a1) ++ ([])))
  exact repC_all (repC_glue h0 rfl (repC_glue h1 rfl (repC_end (hl.trans (by kernel_rfl)))))⟩
theorem dc42 : Dc Tryz.prog 42 1 (eL 2 eEntry) := dcSlice Tryz.underlying42 (by kernel_rfl) (ble _ _ rfl) dc116 teEntry
theorem dc31 : Dc Tryz.prog 31 1 (eI .i64) := dcInt Tryz.underlying31 (by kernel_rfl)
theorem dc110 : Dc Tryz.prog 110 2 eItem := ⟨by kernel_rfl, fun enc W sp held fuel cs x hx => by
  obtain ⟨xs, n, _, _, hl, hxl, hf⟩ := DataW.trod_struct Tryz.underlying110 hx
  obtain ⟨a0, h0⟩ := field_some hxl hf (i := 0) (T := 9) (o := 0) rfl dc9
  obtain ⟨a1, h1⟩ := field_some hxl hf (i := 1) (T := 9) (o := 1) rfl dc9
  refine ⟨⟨a0, a1⟩, ?_⟩
  show RepC W cs ((eS a0) ++ ((eS a1) ++ ([])))
  exact repC_all (repC_glue h0 rfl (repC_glue h1 rfl (repC_end (hl.trans (by kernel_rfl)))))⟩
theorem dc32 : Dc Tryz.prog 32 1 (eL 2 eItem) := dcSlice Tryz.underlying32 (by kernel_rfl) (ble _ _ rfl) dc110 teItem
theorem dc34 : Dc Tryz.prog 34 9 eAnswer := ⟨by kernel_rfl, fun enc W sp held fuel cs x hx => by
  obtain ⟨xs, n, _, _, hl, hxl, hf⟩ := DataW.trod_struct Tryz.underlying34 hx
  obtain ⟨a0, h0⟩ := field_some hxl hf (i := 0) (T := 31) (o := 0) rfl dc31
  obtain ⟨a1, h1⟩ := field_some hxl hf (i := 1) (T := 24) (o := 1) rfl dc24
  obtain ⟨a2, h2⟩ := field_some hxl hf (i := 2) (T := 4) (o := 4) rfl dc4
  obtain ⟨a3, h3⟩ := field_some hxl hf (i := 3) (T := 9) (o := 5) rfl dc9
  obtain ⟨a4, h4⟩ := field_some hxl hf (i := 4) (T := 32) (o := 6) rfl dc32
  obtain ⟨a5, h5⟩ := field_some hxl hf (i := 5) (T := 9) (o := 7) rfl dc9
  obtain ⟨a6, h6⟩ := field_some hxl hf (i := 6) (T := 4) (o := 8) rfl dc4
  refine ⟨⟨a0, a1, a2, a3, a4, a5, a6⟩, ?_⟩
  show RepC W cs ((eI .i64 a0) ++ ((eStamp a1) ++ ((eB a2) ++ ((eS a3) ++ ((eL 2 eItem a4) ++ ((eS a5) ++ ((eB a6) ++ ([]))))))))
  exact repC_all (repC_glue h0 rfl (repC_glue h1 rfl (repC_glue h2 rfl (repC_glue h3 rfl (repC_glue h4 rfl (repC_glue h5 rfl (repC_glue h6 rfl (repC_end (hl.trans (by kernel_rfl))))))))))⟩
theorem dc100 : Dc Tryz.prog 100 11 eDone := ⟨by kernel_rfl, fun enc W sp held fuel cs x hx => by
  obtain ⟨xs, n, _, _, hl, hxl, hf⟩ := DataW.trod_struct Tryz.underlying100 hx
  obtain ⟨a0, h0⟩ := field_some hxl hf (i := 0) (T := 3) (o := 0) rfl dc3
  obtain ⟨a1, h1⟩ := field_some hxl hf (i := 1) (T := 3) (o := 1) rfl dc3
  obtain ⟨a2, h2⟩ := field_some hxl hf (i := 2) (T := 34) (o := 2) rfl dc34
  refine ⟨⟨a0, a1, a2⟩, ?_⟩
  show RepC W cs ((eI .i64 a0) ++ ((eI .i64 a1) ++ ((eAnswer a2) ++ ([]))))
  exact repC_all (repC_glue h0 rfl (repC_glue h1 rfl (repC_glue h2 rfl (repC_end (hl.trans (by kernel_rfl))))))⟩
theorem dc43 : Dc Tryz.prog 43 1 (eL 11 eDone) := dcSlice Tryz.underlying43 (by kernel_rfl) (ble _ _ rfl) dc100 teDone
theorem dc45 : Dc Tryz.prog 45 17 eShard := ⟨by kernel_rfl, fun enc W sp held fuel cs x hx => by
  obtain ⟨xs, n, _, _, hl, hxl, hf⟩ := DataW.trod_struct Tryz.underlying45 hx
  obtain ⟨a0, h0⟩ := field_some hxl hf (i := 0) (T := 3) (o := 0) rfl dc3
  obtain ⟨a1, h1⟩ := field_some hxl hf (i := 1) (T := 3) (o := 1) rfl dc3
  obtain ⟨a2, h2⟩ := field_some hxl hf (i := 2) (T := 41) (o := 2) rfl dc41
  obtain ⟨a3, h3⟩ := field_some hxl hf (i := 3) (T := 3) (o := 4) rfl dc3
  obtain ⟨a4, h4⟩ := field_some hxl hf (i := 4) (T := 42) (o := 5) rfl dc42
  obtain ⟨a5, h5⟩ := field_some hxl hf (i := 5) (T := 24) (o := 6) rfl dc24
  obtain ⟨a6, h6⟩ := field_some hxl hf (i := 6) (T := 24) (o := 9) rfl dc24
  obtain ⟨a7, h7⟩ := field_some hxl hf (i := 7) (T := 43) (o := 12) rfl dc43
  obtain ⟨a8, h8⟩ := field_some hxl hf (i := 8) (T := 3) (o := 13) rfl dc3
  obtain ⟨a9, h9⟩ := field_some hxl hf (i := 9) (T := 3) (o := 14) rfl dc3
  obtain ⟨a10, h10⟩ := field_some hxl hf (i := 10) (T := 3) (o := 15) rfl dc3
  obtain ⟨a11, h11⟩ := field_some hxl hf (i := 11) (T := 3) (o := 16) rfl dc3
  refine ⟨⟨a0, a1, a2, a3, a4, a5, a6, a7, a8, a9, a10, a11⟩, ?_⟩
  show RepC W cs ((eI .i64 a0) ++ ((eI .i64 a1) ++ ((eSpan a2) ++ ((eI .i64 a3) ++ ((eL 2 eEntry a4) ++ ((eStamp a5) ++ ((eStamp a6) ++ ((eL 11 eDone a7) ++ ((eI .i64 a8) ++ ((eI .i64 a9) ++ ((eI .i64 a10) ++ ((eI .i64 a11) ++ ([])))))))))))))
  exact repC_all (repC_glue h0 rfl (repC_glue h1 rfl (repC_glue h2 rfl (repC_glue h3 rfl (repC_glue h4 rfl (repC_glue h5 rfl (repC_glue h6 rfl (repC_glue h7 rfl (repC_glue h8 rfl (repC_glue h9 rfl (repC_glue h10 rfl (repC_glue h11 rfl (repC_end (hl.trans (by kernel_rfl)))))))))))))))⟩
theorem dc22 : Dc Tryz.prog 22 1 (eL 17 eShard) := dcSlice Tryz.underlying22 (by kernel_rfl) (ble _ _ rfl) dc45 teShard
theorem dc26 : Dc Tryz.prog 26 5 eCell := ⟨by kernel_rfl, fun enc W sp held fuel cs x hx => by
  obtain ⟨xs, n, _, _, hl, hxl, hf⟩ := DataW.trod_struct Tryz.underlying26 hx
  obtain ⟨a0, h0⟩ := field_some hxl hf (i := 0) (T := 22) (o := 0) rfl dc22
  obtain ⟨a1, h1⟩ := field_some hxl hf (i := 1) (T := 24) (o := 1) rfl dc24
  obtain ⟨a2, h2⟩ := field_some hxl hf (i := 2) (T := 3) (o := 4) rfl dc3
  refine ⟨⟨a0, a1, a2⟩, ?_⟩
  show RepC W cs ((eL 17 eShard a0) ++ ((eStamp a1) ++ ((eI .i64 a2) ++ ([]))))
  exact repC_all (repC_glue h0 rfl (repC_glue h1 rfl (repC_glue h2 rfl (repC_end (hl.trans (by kernel_rfl))))))⟩
end Go.Proofs.Gd
set_option linter.unusedVariables false
set_option linter.unusedSimpArgs false
namespace Go.Proofs.Gd
open Go Go.Awp
theorem T153 (s : ByteArray) : Ev (fun k => F153 k s) (decR s, decN s) := by
  refine Ev.from 0 fun k => ?_
  show F153 k s = _
  unfold F153 F174
  rw [strEq_nil]
  by_cases h : s.size = 0
  · simp [h]
  · have h0 : inR 0 s.size = true := by rw [inR_iff]; omega
    rw [decide_eq_false h]
    simp only [h0, Bool.not_false, Bool.not_true, Bool.false_or, Bool.true_and, cond_true]
    cases ha : ltI (bt s 0) 128 with
    | true => simp only [cond_true]; rw [dec_ascii s (by omega) (ltI_iff.1 ha)]
    | false => rfl
theorem L163 (t : ByteArray) (n : Nat) (hn : n ≤ t.size) (h4 : n ≤ 4) : ∀ (m i : Nat) (r : Int), i + m = n → 0 ≤ r → r ≤ ((1000 * 100 ^ i : Nat) : Int) → Ev (fun k => F163_l1 t n k (r, i)) (contL t m i r)
  | 0, i, r, hi, h0, h1 => by
    refine Ev.from 1 fun k => ?_
    show F163_l1 t n (k + 1) (r, (i : Int)) = _
    rw [F163_l1, ltI_nat, decide_eq_false (by omega)]
    rfl
  | m + 1, i, r, hi, h0, h1 => by
    have hp : 100 ^ i ≤ 100 ^ 4 := Nat.pow_le_pow_right (by omega) (by omega)
    have hp1 : 1 ≤ 100 ^ i := Nat.one_le_pow _ _ (by omega)
    have hb := bt_range t (i : Int)
    refine Ev.succ (fun k => by rw [F163_l1]) ?_
    rw [ltI_nat, decide_eq_true (by omega), inR_mk (by omega : i < t.size), contL]
    simp only [Bool.not_true, Bool.or_true, cond_true]
    refine Ev.cond (fun hc => ?_) fun hc => ?_
    · rw [hc]; exact Ev.of fun _ => rfl
    · rw [hc]
      simp only [cond_false]
      rw [i64z (n := bt t (i : Int)) (by omega), i64z (n := 64 * r) (by omega), i64z (n := 64 * r + bt t (i : Int)) (by omega)]
      unfold bnd
      rw [i64z (n := (i : Int) + 1) (by omega)]
      have hc' : 128 ≤ bt t (i : Int) := by
        rw [Bool.or_eq_false_iff, ltI_false] at hc; omega
      show Ev (fun k => F163_l1 t n k (IntKind.wrap .i64 (64 * r + bt t (i : Int) - 128), (i : Int) + 1)) _
      rw [i64z (n := 64 * r + bt t (i : Int) - 128) (by omega)]
      exact L163 t n hn h4 m (i + 1) (64 * r + bt t (i : Int) - 128) (by omega) (by omega) (by rw [Nat.pow_succ]; omega)
theorem T163 (t : ByteArray) (h : 0 < t.size) : Ev (fun k => F163 k t) (letter t) := by
  rw [← letter_eq t h]
  have hb := bt_range t 0
  have h0 : inR 0 t.size = true := by rw [inR_iff]; omega
  have key : ∀ (r : Int) (n : Nat) (lo : Int), 0 ≤ r → r ≤ 1000 → n ≤ 4 → Ev (fun k => bif ((eqI (n : Int) 0) || (ltI (t.size : Int) n)) then (some ((-1), 1)) else ((F163_l1 t n k (r, 1)).bind fun t => t.go fun t4_1 => bif (((ltI t4_1 lo) || (ltI 1114111 t4_1)) || ((leI 55296 t4_1) && (ltI t4_1 57344))) then (some ((-1), 1)) else (some (t4_1, (n : Int))))) (tailL t r n lo) := by
    intro r n lo g0 g1 g2
    refine Ev.cond (fun hc => ?_) fun hc => ?_
    · unfold tailL
      rw [Bool.or_eq_true, eqI_iff, ltI_iff] at hc
      rw [if_pos (by omega)]
      exact Ev.of fun _ => rfl
    · rw [Bool.or_eq_false_iff, eqI_false, ltI_false] at hc
      unfold tailL
      rw [if_neg (by omega)]
      have := L163 t n (by omega) g2 (n - 1) 1 r (by omega) g0 (by omega)
      refine Ev.bind this ?_
      cases contL t (n - 1) 1 r with
      | ret x => exact Ev.of fun _ => rfl
      | out r =>
        refine Ev.of fun _ => ?_
        show (bif (((ltI r lo) || (ltI 1114111 r)) || ((leI 55296 r) && (ltI r 57344))) then some ((-1 : Int), (1 : Int)) else some (r, (n : Int))) = some (if r < lo ∨ 1114111 < r ∨ (55296 ≤ r ∧ r < 57344) then ((-1 : Int), (1 : Int)) else (r, (n : Int)))
        by_cases hv : r < lo ∨ 1114111 < r ∨ (55296 ≤ r ∧ r < 57344)
        · rw [if_pos hv]
          have : (((ltI r lo) || (ltI 1114111 r)) || ((leI 55296 r) && (ltI r 57344))) = true := by simp only [Bool.or_eq_true, Bool.and_eq_true, ltI_iff, leI_iff]; omega
          rw [this]; rfl
        · rw [if_neg hv]
          have : (((ltI r lo) || (ltI 1114111 r)) || ((leI 55296 r) && (ltI r 57344))) = false := by
            rw [Bool.eq_false_iff]
            intro h
            simp only [Bool.or_eq_true, Bool.and_eq_true, ltI_iff, leI_iff] at h
            omega
          rw [this]; rfl
  have hw : IntKind.wrap .i64 (bt t 0) = bt t 0 := i64z (by omega)
  unfold letter0
  have b2 : ∀ {a b c : Int}, a ≤ b → b < c → (leI a b && ltI b c) = true := fun h1 h2 => by rw [leI_iff.2 h1, ltI_iff.2 h2]; rfl
  have b3 : ∀ {a b c : Int}, ¬ (a ≤ b ∧ b < c) → (leI a b && ltI b c) = false := fun h => by
    rw [Bool.eq_false_iff]; intro hh; rw [Bool.and_eq_true, leI_iff, ltI_iff] at hh; exact h hh
  by_cases h1 : bt t 0 < 128
  · rw [if_pos h1]
    refine Ev.of fun k => ?_
    unfold F163
    rw [h0, hw, ltI_iff.2 h1]; rfl
  rw [if_neg h1]
  have hf : ltI (bt t 0) 128 = false := ltI_false.2 (by omega)
  by_cases h2 : 194 ≤ bt t 0 ∧ bt t 0 < 224
  · rw [if_pos h2]
    refine Ev.congr (fun k => ?_) (key (bt t 0 - 192) 2 128 (by omega) (by omega) (by omega))
    unfold F163
    rw [h0, hw, hf, b2 h2.1 h2.2, i64z (by omega)]; rfl
  rw [if_neg h2]
  by_cases h3 : 224 ≤ bt t 0 ∧ bt t 0 < 240
  · rw [if_pos h3]
    refine Ev.congr (fun k => ?_) (key (bt t 0 - 224) 3 2048 (by omega) (by omega) (by omega))
    unfold F163
    rw [h0, hw, hf, b3 h2, b2 h3.1 h3.2, i64z (n := bt t 0 - 224) (by omega)]; rfl
  rw [if_neg h3]
  by_cases h4 : 240 ≤ bt t 0 ∧ bt t 0 < 245
  · rw [if_pos h4]
    refine Ev.congr (fun k => ?_) (key (bt t 0 - 240) 4 65536 (by omega) (by omega) (by omega))
    unfold F163
    rw [h0, hw, hf, b3 h2, b3 h3, b2 h4.1 h4.2, i64z (n := bt t 0 - 240) (by omega)]; rfl
  rw [if_neg h4]
  refine Ev.congr (fun k => ?_) (key (bt t 0) 0 0 (by omega) (by omega) (by omega))
  unfold F163
  rw [h0, hw, hf, b3 h2, b3 h3, b3 h4]; rfl
theorem T122_l1 (s : ByteArray) : ∀ (n i : Nat), s.size - i ≤ n → Ev (fun k => F122_l1 s k i) (if goodFrom s n i = true then .out () else .ret false)
  | 0, i, hn => by
    refine Ev.from 1 fun k => ?_
    show F122_l1 s (k + 1) i = _
    rw [F122_l1, nxc, decide_eq_false (by omega)]
    rfl
  | n + 1, i, hn => by
    refine Ev.succ (fun k => by rw [F122_l1]) ?_
    rw [goodFrom, nxc]
    by_cases h : i < s.size
    · rw [decide_eq_true h, cutOK_mk (by omega) (by omega) (by omega), Int.toNat_natCast, Int.toNat_natCast, if_pos h]
      refine Ev.bind (T153 _) ?_
      rw [(decR_ext s i h).1, (decR_ext s i h).2]
      show Ev (fun k => Option.bind (some _) _) _
      refine Ev.bind (Ev.of fun _ => rfl : Ev (fun k => F154 k (nxr s i) _) _) ?_
      unfold nxr
      rw [plain_dec s i h]
      cases hp : plainD (Utf8.decode s i) with
      | false => exact Ev.of fun _ => rfl
      | true => exact T122_l1 s n (nxw s i) (by have := dec_pos s i; unfold nxw; omega)
    · rw [decide_eq_false h, if_neg h]
      exact Ev.of fun _ => rfl
theorem T122 (s : ByteArray) : Ev (fun k => F122 k s) (keyR s) := by
  refine Ev.bind (T122_l1 s s.size 0 (by omega)) ?_
  unfold keyR
  cases goodFrom s s.size 0 with
  | false => exact Ev.of fun _ => rfl
  | true =>
    refine Ev.of fun _ => ?_
    show some ((leI 1 (s.size : Int)) && (leI (s.size : Int) 16)) = _
    rw [show (1 : Int) = ((1 : Nat) : Int) from rfl, show (16 : Int) = ((16 : Nat) : Int) from rfl, leI_nat, leI_nat, ← Bool.decide_and]
    rfl
theorem T130_l1 (s : ByteArray) : ∀ (n i : Nat), s.size - i ≤ n → Ev (fun k => F130_l1 k (s.extract i s.size)) (if goodFrom s n i = true then .out () else .ret false)
  | 0, i, hn => by
    refine Ev.from 1 fun k => ?_
    show F130_l1 (k + 1) _ = _
    rw [F130_l1, show (0 : Int) = ((0 : Nat) : Int) from rfl, ltI_nat, decide_eq_false (by rw [size_extract']; omega)]
    rfl
  | n + 1, i, hn => by
    refine Ev.succ (fun k => by rw [F130_l1]) ?_
    rw [goodFrom]
    have hz : (s.extract i s.size).size = s.size - i := by rw [size_extract']; omega
    by_cases h : i < s.size
    · rw [show ltI 0 ((s.extract i s.size).size : Int) = true by rw [ltI_iff]; omega, if_pos h]
      refine Ev.bind (T163 _ (by omega)) ?_
      obtain ⟨r, m, h1, h2, h3⟩ := plain_letter s i h
      rw [h1]
      refine Ev.bind (Ev.of fun _ => rfl : Ev (fun k => F164 k r) _) ?_
      rw [h2]
      cases hp : plainD (Utf8.decode s i) with
      | false => exact Ev.of fun _ => rfl
      | true =>
        have hm := h3 hp
        have hd := dec_le s i h
        rw [hm, cutOK_mk (by omega) (by omega) (by omega), Int.toNat_natCast, Int.toNat_natCast, ext_ext]
        exact T130_l1 s n _ (by have := dec_pos s i; omega)
    · rw [show ltI 0 ((s.extract i s.size).size : Int) = false by rw [ltI_false]; omega, if_neg h]
      exact Ev.of fun _ => rfl
theorem T130 (s : ByteArray) : Ev (fun k => F130 k s) (keyR s) := by
  unfold keyR
  refine Ev.cond (fun hc => ?_) fun hc => ?_
  · rw [Bool.or_eq_true, eqI_iff, ltI_iff] at hc
    rw [decide_eq_false (by omega), Bool.and_false]
    exact Ev.of fun _ => rfl
  · rw [Bool.or_eq_false_iff, eqI_false, ltI_false] at hc
    rw [decide_eq_true (by omega), Bool.and_true]
    have := T130_l1 s s.size 0 (by omega)
    rw [ext_zero] at this
    refine Ev.bind this ?_
    cases goodFrom s s.size 0 with
    | false => exact Ev.of fun _ => rfl
    | true => exact Ev.of fun _ => rfl
theorem optv {α : Type} [Inhabited α] {c : Bool} {a : Nat → Option α} {v : α} (h : c = true → Ev a v) : Ev (fun k => bif c then a k else some default) (bif c then v else default) := by
  cases c with
  | true => exact h rfl
  | false => exact Ev.of fun _ => rfl
def oneB (n : Int) : Bool := leI 1 n && leI n 1099511627776
def stR (s : Stamp) : Bool := leI 0 s.mWall && (leI s.mWall 1099511627776 && (leI 0 s.mTick && (leI s.mTick 1048576 && (leI 0 s.mNode && leI s.mNode 255))))
theorem T57 (n : Int) (l : List Int) (hl : l.length ≤ 1000) : Ev (fun k => F57 k n l) (!(l.any fun x => ltI x n || ltI 1099511627776 x)) :=
  Ev.bind (any_ev (idx_ev (f := F152_121_l1 l n) (q := fun x => ltI x n || ltI 1099511627776 x) (p := fun k x => F121 k x n) (by omega) (fun _ => rfl) (fun _ _ => rfl) fun x _ => Ev.of fun _ => rfl)) (Ev.of fun _ => rfl)
theorem oneB_eq (x : Int) : (ltI x 1 || ltI 1099511627776 x) = !oneB x := by
  rw [Bool.eq_iff_iff]
  simp only [oneB, Bool.or_eq_true, Bool.not_eq_true', Bool.and_eq_false_iff, ltI_iff, leI_false]
theorem T57_2 (a b : Int) : Ev (fun k => F57 k 1 [a, b]) (oneB a && oneB b) := by
  have := T57 1 [a, b] (by simp)
  simp only [List.any_cons, List.any_nil, oneB_eq] at this
  cases h1 : oneB a <;> cases h2 : oneB b <;> simpa [h1, h2] using this
theorem T36 (s : Stamp) : Ev (fun k => F36 k s) (stR s) := by
  refine Ev.bind (Ev.of fun _ => rfl : Ev (fun k => F100 k _ _) _) ?_
  refine Ev.bind (optv fun _ => (Ev.of fun _ => rfl : Ev (fun k => F100 k _ _) _)) ?_
  refine Ev.bind (optv fun _ => (Ev.of fun _ => rfl : Ev (fun k => F100 k _ _) _)) ?_
  refine Ev.of fun _ => ?_
  unfold stR
  congr 1
  generalize leI 0 s.mWall = a; generalize leI s.mWall _ = b; generalize leI 0 s.mTick = c; generalize leI s.mTick _ = d; generalize leI 0 s.mNode = e; generalize leI s.mNode _ = f
  revert a b c d e f; decide
theorem T68 (s : Stamp) : Ev (fun k => F68 k s) (stR s) := by
  refine Ev.of fun _ => ?_
  unfold F68 stR
  congr 1
  generalize leI 0 s.mWall = a; generalize leI s.mWall _ = b; generalize leI 0 s.mTick = c; generalize leI s.mTick _ = d; generalize leI 0 s.mNode = e; generalize leI s.mNode _ = f
  revert a b c d e f; decide
theorem T66 (x : Int) : Ev (fun k => F66 k x) (oneB x) := Ev.of fun _ => rfl
theorem ltI_pos (n : Nat) (a : ByteArray) (h : a.size = n) : ltI 0 (n : Int) = !strEq a ⟨#[]⟩ := by
  rw [strEq_nil, h, Bool.eq_iff_iff, ltI_iff]
  simp; omega
theorem eqI_nil (a : ByteArray) : eqI (a.size : Int) 0 = strEq a ⟨#[]⟩ := by
  rw [strEq_nil, Bool.eq_iff_iff, eqI_iff]
  simp
theorem leI_lt (x : Int) : leI 0 x = !ltI x 0 := by rw [Bool.eq_iff_iff, Bool.not_eq_true', leI_iff, ltI_false]
theorem awake (k : Nat) : F15 (k + 40) = some true := by kernel_rfl
end Go.Proofs.Gd
set_option linter.unusedVariables false
set_option linter.unusedSimpArgs false
namespace Go.Proofs.Gd
open Go Go.Awp
def cmpI (a b : Int) : Int := bif ltI a b then -1 else bif ltI b a then 1 else 0
def or3 (a b c : Int) : Int := bif !eqI a 0 then a else bif !eqI b 0 then b else bif !eqI c 0 then c else 0
def cmpS (s t : Stamp) : Int := or3 (cmpI s.mWall t.mWall) (cmpI s.mTick t.mTick) (cmpI s.mNode t.mNode)
def laterS (s t : Stamp) : Stamp := bif ltI (cmpS s t) 0 then t else s
theorem eqI_self (x : Int) : eqI x x = true := eqI_iff.2 rfl
theorem T104 (a b : Int) : Ev (fun k => F104 k a b) (cmpI a b) := by
  refine Ev.of fun k => ?_
  show (some (!eqI a a)).bind (fun t8 => (some (!eqI b b)).bind fun t10 => _) = _
  rw [eqI_self, eqI_self]
  unfold cmpI
  show (bif ltI a b then some (-1) else bif ltI b a then some 1 else some 0) = _
  cases ltI a b <;> cases ltI b a <;> rfl
theorem T103 (a b c : Int) : Ev (fun k => F103 k [a, b, c]) (or3 a b c) := by
  refine Ev.from 4 fun k => ?_
  unfold or3
  show F103 (k + 4) [a, b, c] = _
  unfold F103
  rw [F103_l1, F103_l1, F103_l1, F103_l1]
  show Option.bind (bif !eqI a 0 then some (LR.ret a) else bif !eqI b 0 then some (LR.ret b) else bif !eqI c 0 then some (LR.ret c) else some (LR.out ())) _ = _
  cases !eqI a 0 <;> cases !eqI b 0 <;> cases !eqI c 0 <;> rfl
theorem T42 (s t : Stamp) : Ev (fun k => F42 k s t) (cmpS s t) :=
  Ev.bind (T104 _ _) (Ev.bind (T104 _ _) (Ev.bind (T104 _ _) (Ev.bind (T103 _ _ _) (Ev.of fun _ => rfl))))
theorem T37 (s t : Stamp) : Ev (fun k => F37 k s t) (laterS s t) := by
  refine Ev.bind (T42 s t) ?_
  unfold laterS
  cases ltI (cmpS s t) 0 <;> exact Ev.of fun _ => rfl
structure SmS (s : Shard) : Prop where
  entries : s.mEntries.length ≤ 80
  chains : ∀ e ∈ s.mEntries, e.mChain.length ≤ 80
  done : s.mDone.length ≤ 40
  items : ∀ d ∈ s.mDone, d.mAnswer.mItems.length ≤ 100
structure SmC (c : Cell) : Prop where
  shards : c.mShards.length ≤ 12
  each : ∀ s ∈ c.mShards, SmS s
theorem strEq_self (a : ByteArray) : strEq a a = true := strEq_true.2 rfl
theorem qStamp_self (s : Stamp) : qStamp s s = true := by simp [qStamp, eqI_self]
theorem loop_out {f : Nat → Int → Option (LR Bool Unit)} {n : Nat} {g : Nat → Unit → Option Bool} (hend : Ev (fun k => f k (n : Int)) (.out ())) (hstep : ∀ i, i < n → Ev (fun k => f k ((i + 1 : Nat) : Int)) (.out ()) → Ev (fun k => f k (i : Int)) (.out ())) {r : Bool} (hg : Ev (fun k => g k ()) r) :
    Ev (fun k => (f k 0).bind fun t => t.go (g k)) r := Ev.bind (downTo (M := fun i => Ev (fun k => f k (i : Int)) (.out ())) n hend hstep) hg
theorem E102 (l : List Version) (hl : l.length ≤ 1000) : Ev (fun k => F102 k l l) true := by
  refine Ev.cond (fun hc => by rw [eqI_self] at hc; cases hc) fun _ => loop_out (n := l.length) ?_ (fun i hi ih => ?_) (Ev.of fun _ => rfl)
  · refine Ev.from 1 fun k => ?_
    show F102_l1 l l (k + 1) _ = _
    rw [F102_l1, ltI_nat, decide_eq_false (Nat.lt_irrefl _)]; rfl
  · refine Ev.succ (fun k => by rw [F102_l1]) ?_
    rw [ltI_nat, decide_eq_true hi, inR_mk hi, i64z (by omega), show qVersion (rd l (i : Int)) (rd l (i : Int)) = true by simp [qVersion, qStamp_self, strEq_self]]
    exact ih
theorem E40 (l : List Entry) (hl : l.length ≤ 1000) (hc : ∀ e ∈ l, e.mChain.length ≤ 1000) : Ev (fun k => F40 k l l) true := by
  refine Ev.cond (fun hc => by rw [eqI_self] at hc; cases hc) fun _ => loop_out (n := l.length) ?_ (fun i hi ih => ?_) (Ev.of fun _ => rfl)
  · refine Ev.from 1 fun k => ?_
    show F40_l1 l l (k + 1) _ = _
    rw [F40_l1, ltI_nat, decide_eq_false (Nat.lt_irrefl _)]; rfl
  · refine Ev.succ (fun k => by rw [F40_l1]) ?_
    rw [ltI_nat, decide_eq_true hi, inR_mk hi, i64z (by omega), strEq_self, rd_nat _ _ hi]
    exact Ev.bind (E102 _ (hc _ (List.getElem_mem hi))) ih
theorem E19 (a : Answer) (hl : a.mItems.length ≤ 1000) : Ev (fun k => F19 k a a) true := by
  refine Ev.cond (fun hc => by rw [eqI_self] at hc; cases hc) fun _ => loop_out (n := a.mItems.length) ?_ (fun i hi ih => ?_) (Ev.of fun _ => by simp [eqI_self, qStamp_self, strEq_self])
  · refine Ev.from 1 fun k => ?_
    show F19_l1 a a (k + 1) _ = _
    rw [F19_l1, ltI_nat, decide_eq_false (Nat.lt_irrefl _)]; rfl
  · refine Ev.succ (fun k => by rw [F19_l1]) ?_
    rw [ltI_nat, decide_eq_true hi, inR_mk hi, i64z (by omega), show qItem (rd a.mItems (i : Int)) (rd a.mItems (i : Int)) = true by simp [qItem, strEq_self]]
    exact ih
theorem E41 (l : List Done) (hl : l.length ≤ 1000) (hc : ∀ e ∈ l, e.mAnswer.mItems.length ≤ 1000) : Ev (fun k => F41 k l l) true := by
  refine Ev.cond (fun hc => by rw [eqI_self] at hc; cases hc) fun _ => loop_out (n := l.length) ?_ (fun i hi ih => ?_) (Ev.of fun _ => rfl)
  · refine Ev.from 1 fun k => ?_
    show F41_l1 l l (k + 1) _ = _
    rw [F41_l1, ltI_nat, decide_eq_false (Nat.lt_irrefl _)]; rfl
  · refine Ev.succ (fun k => by rw [F41_l1]) ?_
    rw [ltI_nat, decide_eq_true hi, inR_mk hi, i64z (by omega), eqI_self, eqI_self, rd_nat _ _ hi]
    exact Ev.bind (E19 _ (hc _ (List.getElem_mem hi))) ih
theorem E26 (s : Shard) (h : SmS s) : Ev (fun k => F26 k s s) true := by
  have he := h.entries
  have hd := h.done
  have e1 : qSpan s.mSpan s.mSpan = true := by simp [qSpan, strEq_self]
  unfold F26
  simp only [eqI_self, qStamp_self, e1, Bool.and_true, Bool.true_and, cond_true]
  refine Ev.bind (E40 _ (by omega) fun e he => by have := h.chains e he; omega) ?_
  refine Ev.bind (E41 _ (by omega) fun e he => by have := h.items e he; omega) ?_
  exact Ev.of fun _ => rfl
theorem T92 (l : List Done) : EvP (fun k => F92 k l) (fun b => b = true → l.length ≤ 40 ∧ ∀ e ∈ l, e.mAnswer.mItems.length ≤ 100) := by
  refine EvP.cond (fun _ => EvP.some fun h => by cases h) fun hc => ?_
  rw [ltI_false] at hc
  refine EvP.go ((downTo (M := fun i => EvP (fun k => F92_l1 l k (i : Int)) fun t => t = .ret false ∨ (t = .out () ∧ ∀ j (hj : j < l.length), i ≤ j → l[j].mAnswer.mItems.length ≤ 100)) l.length ?_ fun i hi ih => ?_).mono fun t ht => ?_)
  · refine EvP.succ (fun k => by rw [F92_l1]) ?_
    rw [ltI_nat, decide_eq_false (Nat.lt_irrefl _)]
    exact EvP.some (.inr ⟨rfl, fun j hj h => by omega⟩)
  · refine EvP.succ (fun k => by rw [F92_l1]) ?_
    rw [ltI_nat, decide_eq_true hi, inR_mk hi, rd_nat _ _ hi]
    simp only [cond_true]
    refine EvP.cond (fun _ => EvP.some (.inl rfl)) fun hcc => ?_
    rw [ltI_false] at hcc
    rw [i64z (by omega)]
    refine ih.mono fun t ht => ht.imp id fun ⟨h1, h2⟩ => ⟨h1, fun j hj hij => ?_⟩
    by_cases e : j = i
    · subst e; omega
    · exact h2 j hj (by omega)
  · rcases ht with rfl | ⟨rfl, h⟩
    · exact fun h => by cases h
    · refine EvP.some fun _ => ⟨by omega, fun e he => ?_⟩
      obtain ⟨j, hj, rfl⟩ := List.mem_iff_getElem.1 he
      exact h j hj (by omega)
end Go.Proofs.Gd
set_option linter.unusedVariables false
set_option linter.unusedSimpArgs false
namespace Go.Proofs.Gd
open Go Go.Awp
theorem dec_pair (s : ByteArray) (h : 0 < s.size) : decR s = ((Utf8.decode s 0).1 : Nat) ∧ decN s = ((Utf8.decode s 0).2 : Nat) := by
  have := decR_ext s 0 h
  rwa [ext_zero] at this
/-- What key.Compare's loop leaves. -/
def endsK (a b : ByteArray) (t : LR Int (ByteArray × ByteArray)) : Prop := match t with
  | .ret r => r = cmpK a b
  | .out (x, y) => cmpK x y = cmpK a b ∧ (x.size = 0 ∨ y.size = 0)
theorem V124_l1 (a0 b0 : ByteArray) : ∀ (n : Nat) (a b : ByteArray), a.size ≤ n → cmpK a b = cmpK a0 b0 → EvP (fun k => F124_l1 k (a, b)) (endsK a0 b0)
  | n, a, b, hn, he => by
    refine EvP.succ (fun k => by rw [F124_l1]) (EvP.cond (fun hc => ?_) fun hc => ?_)
    · rw [strEq_nil, strEq_nil] at hc
      simp only [Bool.and_eq_true, Bool.not_eq_true', decide_eq_false_iff_not] at hc
      have ha : 0 < a.size := by omega
      have hb : 0 < b.size := by omega
      refine EvP.bind ((T153 _).evP.mono fun r hr => ?_)
      subst hr
      refine EvP.bind ((T153 _).evP.mono fun r hr => ?_)
      subst hr
      show EvP (fun k => bif ltI (decR a) (decR b) then _ else _) _
      rw [(dec_pair a ha).1, (dec_pair b hb).1, (dec_pair a ha).2, (dec_pair b hb).2, ltI_nat, ltI_nat]
      have hk : cmpK a b = if (Utf8.decode a 0).1 < (Utf8.decode b 0).1 then -1 else if (Utf8.decode b 0).1 < (Utf8.decode a 0).1 then 1 else cmpK (a.extract (Utf8.decode a 0).2 a.size) (b.extract (Utf8.decode b 0).2 b.size) := by
        unfold cmpK
        rw [runes_cons a ha, runes_cons b hb, cmpL]
      refine EvP.cond (fun h1 => EvP.some ?_) fun h1 => EvP.cond (fun h2 => EvP.some ?_) fun h2 => ?_
      · rw [if_pos (of_decide_eq_true h1)] at hk
        show (-1 : Int) = _
        rw [← he, hk]
      · rw [if_neg (of_decide_eq_false h1), if_pos (of_decide_eq_true h2)] at hk
        show (1 : Int) = _
        rw [← he, hk]
      · rw [if_neg (of_decide_eq_false h1), if_neg (of_decide_eq_false h2)] at hk
        have d1 := dec_le a 0 ha
        have d2 := dec_le b 0 hb
        have d3 := dec_pos a 0
        refine EvP.guard (cutOK_mk (by omega) (by omega) (by omega)) (EvP.guard (cutOK_mk (by omega) (by omega) (by omega)) ?_)
        rw [Int.toNat_natCast, Int.toNat_natCast, Int.toNat_natCast, Int.toNat_natCast]
        cases n with
        | zero => omega
        | succ n => exact V124_l1 a0 b0 n _ _ (by rw [size_extract']; omega) (by rw [← hk]; exact he)
    · rw [strEq_nil, strEq_nil] at hc
      simp only [Bool.and_eq_false_iff, Bool.not_eq_false', decide_eq_true_eq] at hc
      refine EvP.some ?_
      show cmpK a b = cmpK a0 b0 ∧ (a.size = 0 ∨ b.size = 0)
      exact ⟨he, hc⟩
/-- key.Compare. -/
theorem V124 (a b : ByteArray) : Ev (fun k => F124 k a b) (cmpK a b) := by
  refine EvP.ev (EvP.go ((V124_l1 a b _ a b (Nat.le_refl _) rfl).mono fun t ht => ?_))
  cases t with
  | ret r => exact ht
  | out v =>
    obtain ⟨x, y⟩ := v
    obtain ⟨h1, h2⟩ := ht
    show EvP (fun k => bif !strEq x ⟨#[]⟩ then some 1 else bif !strEq y ⟨#[]⟩ then some (-1) else some 0) _
    rw [strEq_nil, strEq_nil]
    refine EvP.cond (fun hx => EvP.some ?_) fun hx => EvP.cond (fun hy => EvP.some ?_) fun hy => EvP.some ?_
    · rw [Bool.not_eq_true', decide_eq_false_iff_not] at hx
      have hy : y.size = 0 := by omega
      rw [← h1, cmpK, runes_nil y hy, runes_cons x (by omega), cmpL]
    · rw [Bool.not_eq_true', decide_eq_false_iff_not] at hy
      rw [Bool.not_eq_false', decide_eq_true_eq] at hx
      rw [← h1, cmpK, runes_nil x hx, runes_cons y (by omega), cmpL]
    · rw [Bool.not_eq_false', decide_eq_true_eq] at hx hy
      rw [← h1, cmpK, runes_nil x hx, runes_nil y hy, cmpL]
def ofN (l : List Nat) : List Int := l.map Int.ofNat
theorem ofN_len (l : List Nat) : (ofN l).length = l.length := List.length_map _
theorem ofN_rd (l : List Nat) (i : Nat) (h : i < l.length) : rd (ofN l) (i : Int) = ((l[i] : Nat) : Int) := by
  rw [rd_nat _ _ (by rw [ofN_len]; exact h)]
  simp [ofN]
/-- The plain decoder's list. -/
theorem letter_rune (s : ByteArray) (h : 0 < s.size) : (bif ltI (letter s).1 0 then (65533 : Int) else (letter s).1) = ((Utf8.decode s 0).1 : Nat) ∧ (letter s).2 = ((Utf8.decode s 0).2 : Nat) := by
  unfold letter
  have g0 := get_bt s 0
  have r0 := UInt8.toNat_lt (s.get! 0)
  have g0' : bt s 0 = ((s.get! 0).toNat : Int) := g0.symm
  by_cases hb : (Utf8.decode s 0).2 = 1 ∧ 128 ≤ bt s 0
  · rw [if_pos hb]
    have h1 : (Utf8.decode s 0).1 = 65533 := by
      rw [g0'] at hb
      rw [Lib.decode_at] at hb ⊢
      exact decodeN_bad _ _ _ _ _ hb.1 (by omega)
    rw [h1, hb.1]
    exact ⟨rfl, rfl⟩
  · rw [if_neg hb]
    refine ⟨?_, rfl⟩
    rw [show ltI (((Utf8.decode s 0).1 : Nat) : Int) 0 = false by rw [ltI_false]; omega]; rfl
theorem V151_l1 : ∀ (n : Nat) (s : ByteArray) (l : List Int), s.size ≤ n → (l.length + s.size) * 8 ≤ 140737488355328 → Ev (fun k => F151_l1 k (s, l)) (l ++ ofN (runes s))
  | n, s, l, hn, hl => by
    refine Ev.succ (fun k => by rw [F151_l1]) (Ev.cond (fun hc => ?_) fun hc => ?_)
    · rw [ltI_iff] at hc
      have h0 : 0 < s.size := by omega
      obtain ⟨q1, q2⟩ := letter_rune s h0
      have d1 := dec_le s 0 h0
      have d3 := dec_pos s 0
      have hr := runes_cons s h0
      refine Ev.bind (T163 s h0) ?_
      generalize (Utf8.decode s 0).2 = w at q2 d1 d3 hr
      generalize (Utf8.decode s 0).1 = c at q1 hr
      have hl2 : ofN (runes s) = (c : Int) :: ofN (runes (s.extract w s.size)) := by rw [hr]; rfl
      rw [hl2]
      have hz : (s.extract w s.size).size = s.size - w := by rw [size_extract']; omega
      cases n with
      | zero => omega
      | succ n =>
        have next := V151_l1 n (s.extract w s.size) (l ++ [(c : Int)]) (by omega) (by rw [List.length_append, List.length_singleton]; omega)
        rw [List.append_assoc] at next
        have ha : ∀ x : Int, appOK 8 l.length [x].length = true := fun x => appOK_mk (by rw [List.length_singleton]; omega) (by rw [List.length_singleton]; omega)
        have hc' : cutOK (w : Int) (s.size : Int) s.size = true := cutOK_mk (by omega) (by omega) (by omega)
        generalize letter s = L at q1 q2 ⊢
        obtain ⟨a, b⟩ := L
        simp only at q1 q2
        subst q2
        refine Ev.congr (g := fun k => F151_l1 k (s.extract w s.size, l ++ [(c : Int)])) (fun k => ?_) next
        cases hb : ltI a 0 with
        | true =>
          rw [hb, cond_true] at q1
          simp only [hb, cond_true]
          rw [ha, hc', Int.toNat_natCast, Int.toNat_natCast, q1]; rfl
        | false =>
          rw [hb, cond_false] at q1
          subst q1
          simp only [hb, cond_false]
          rw [ha, hc', Int.toNat_natCast, Int.toNat_natCast]; rfl
    · rw [ltI_false] at hc
      rw [runes_nil s (by omega)]
      exact Ev.of fun _ => by simp [ofN]
theorem V151 (s : ByteArray) (h : s.size ≤ 1000000000000) : Ev (fun k => F151 k s) (ofN (runes s)) :=
  Ev.bind (V151_l1 s.size s [] (Nat.le_refl _) (by simp; omega)) (Ev.of fun _ => by simp)
theorem runes_len (s : ByteArray) : (runes s).length ≤ s.size := by
  have : ∀ n i, (runesFrom s n i).length ≤ s.size - i := fun n => by
    induction n with
    | zero => intro i; simp [runesFrom]
    | succ n ih =>
      intro i
      rw [runesFrom]
      split
      · have := ih (i + (Utf8.decode s i).2)
        have := dec_pos s i
        rw [List.length_cons]; omega
      · simp
  have := this s.size 0
  unfold runes; omega
/-- The document's Compare. -/
theorem V119 (a b : ByteArray) (ha : a.size ≤ 1000000000000) (hb : b.size ≤ 1000000000000) : Ev (fun k => F119 k a b) (cmpK a b) := by
  refine Ev.bind (V151 a ha) (Ev.bind (V151 b hb) ?_)
  have la := runes_len a
  have lb := runes_len b
  unfold cmpK
  generalize runes a = x at la ⊢
  generalize runes b = y at lb ⊢
  have key : ∀ (m i : Nat), x.length - i ≤ m → i ≤ x.length → i ≤ y.length → Ev (fun k => (F119_l1 (ofN x) (ofN y) k (i : Int)).bind fun t => t.go fun _ => bif (ltI ((ofN x).length : Int) ((ofN y).length : Int)) then (some (-1)) else (bif (ltI ((ofN y).length : Int) ((ofN x).length : Int)) then (some 1) else (some 0))) (cmpL (x.drop i) (y.drop i)) := fun m => by
    induction m with
    | zero =>
      intro i hi h1 h2
      refine Ev.from 1 fun k => ?_
      show Option.bind (F119_l1 (ofN x) (ofN y) (k + 1) (i : Int)) _ = _
      rw [F119_l1, ofN_len, ofN_len, ltI_nat, decide_eq_false (by omega), Bool.false_and]
      show (bif ltI (x.length : Int) (y.length : Int) then some (-1) else bif ltI (y.length : Int) (x.length : Int) then some 1 else some 0) = _
      rw [List.drop_of_length_le (by omega : x.length ≤ i), ltI_nat, ltI_nat]
      by_cases hy : y.length = i
      · rw [List.drop_of_length_le (by omega : y.length ≤ i), decide_eq_false (by omega), decide_eq_false (by omega)]; rfl
      · rw [List.drop_eq_getElem_cons (by omega : i < y.length), decide_eq_true (by omega)]; rfl
    | succ m ih =>
      intro i hi h1 h2
      by_cases hx : i < x.length
      · by_cases hy : i < y.length
        · refine Ev.succ (g := fun k => (bif ltI ((x[i] : Nat) : Int) ((y[i] : Nat) : Int) then some (LR.ret (-1)) else bif ltI ((y[i] : Nat) : Int) ((x[i] : Nat) : Int) then some (LR.ret 1) else F119_l1 (ofN x) (ofN y) k ((i + 1 : Nat) : Int)).bind fun t => t.go fun _ => bif (ltI ((ofN x).length : Int) ((ofN y).length : Int)) then (some (-1)) else (bif (ltI ((ofN y).length : Int) ((ofN x).length : Int)) then (some 1) else (some 0))) (fun k => ?_) ?_
          · rw [F119_l1, ofN_rd _ _ hx, ofN_rd _ _ hy, ofN_len, ofN_len, ltI_nat, ltI_nat, decide_eq_true hx, decide_eq_true hy, inR_mk hx, inR_mk hy, i64z (by omega)]; rfl
          · rw [List.drop_eq_getElem_cons hx, List.drop_eq_getElem_cons hy, cmpL, ltI_nat, ltI_nat]
            have := ih (i + 1) (by omega) (by omega) (by omega)
            by_cases c1 : x[i] < y[i]
            · rw [if_pos c1, decide_eq_true c1]; exact Ev.of fun _ => rfl
            · rw [if_neg c1, decide_eq_false c1]
              by_cases c2 : y[i] < x[i]
              · rw [if_pos c2, decide_eq_true c2]; exact Ev.of fun _ => rfl
              · rw [if_neg c2, decide_eq_false c2]; exact this
        · refine Ev.from 1 fun k => ?_
          show Option.bind (F119_l1 (ofN x) (ofN y) (k + 1) (i : Int)) _ = _
          rw [F119_l1, ofN_len, ofN_len, ltI_nat, ltI_nat, decide_eq_true hx, decide_eq_false hy]
          show (bif ltI (x.length : Int) (y.length : Int) then some (-1) else bif ltI (y.length : Int) (x.length : Int) then some 1 else some 0) = _
          rw [List.drop_of_length_le (by omega : y.length ≤ i), List.drop_eq_getElem_cons hx, ltI_nat, ltI_nat, decide_eq_false (by omega), decide_eq_true (by omega)]; rfl
      · exact ih i (by omega) h1 h2
  exact key x.length 0 (by omega) (by omega) (by omega)
theorem cmpI_lt (a b : Int) : cmpI a b = if a < b then -1 else if b < a then 1 else 0 := by
  unfold cmpI
  by_cases h1 : a < b
  · rw [if_pos h1, ltI_iff.2 h1]; rfl
  · rw [if_neg h1, ltI_false.2 (by omega)]
    by_cases h2 : b < a
    · rw [if_pos h2, ltI_iff.2 h2]; rfl
    · rw [if_neg h2, ltI_false.2 (by omega)]; rfl
/-- Earlier. -/
def befS (s t : Stamp) : Prop := s.mWall < t.mWall ∨ (s.mWall = t.mWall ∧ (s.mTick < t.mTick ∨ (s.mTick = t.mTick ∧ s.mNode < t.mNode)))
theorem cmpS_lt (s t : Stamp) : cmpS s t < 0 ↔ befS s t := by
  unfold cmpS or3 befS
  rw [cmpI_lt, cmpI_lt, cmpI_lt]
  repeat' split
  all_goals (simp [eqI]; try omega)
end Go.Proofs.Gd
set_option linter.unusedVariables false
set_option linter.unusedSimpArgs false
namespace Go.Proofs.Gd
open Go Go.Awp
def noB (n : Int) : Bool := leI 0 n && leI n 1099511627776
theorem V67 (x : Int) : Ev (fun k => F67 k x) (noB x) := by
  refine Ev.bind (optv fun _ => T66 x) (Ev.of fun _ => ?_)
  congr 1
  unfold noB oneB
  rw [Bool.eq_iff_iff]
  cases h : eqI x 0 with
  | true => rw [eqI_iff] at h; subst h; simp [leI]
  | false => rw [eqI_false] at h; simp [leI_iff]; omega
def spR (s : Span) : Bool := (strEq s.mLo ⟨#[]⟩ || keyR s.mLo) && (strEq s.mHi ⟨#[]⟩ || (keyR s.mHi && ltI (cmpK s.mLo s.mHi) 0))
theorem V80 (s : Span) : Ev (fun k => F80 k s) (spR s) := by
  refine Ev.bind (optv fun _ => T122 _) ?_
  unfold spR
  generalize strEq s.mLo ⟨#[]⟩ = a; generalize keyR s.mLo = b
  refine Ev.cond (fun hc => Ev.of fun _ => ?_) fun hc => Ev.bind (optv fun _ => T122 _) (Ev.bind (optv fun _ => V124 _ _) (Ev.of fun _ => ?_))
  · congr 1
    generalize (strEq s.mHi ⟨#[]⟩ || (keyR s.mHi && ltI (cmpK s.mLo s.mHi) 0)) = c
    revert a b c; decide
  · congr 1
    cases strEq s.mHi ⟨#[]⟩ <;> cases keyR s.mHi <;> revert hc <;> revert a b <;> simp only [Bool.not_true, Bool.not_false, Bool.true_and, Bool.false_and, Bool.true_or, Bool.false_or, cond_true, cond_false, Bool.and_true, Bool.and_false] <;> first | decide | (generalize ltI (cmpK s.mLo s.mHi) 0 = c; revert c; decide)
theorem eqI_m1 (a b : ByteArray) : eqI (cmpK a b) (-1) = ltI (cmpK a b) 0 := by
  rw [Bool.eq_iff_iff, eqI_iff, ltI_iff]
  rcases cmpL_range (runes a) (runes b) with h | h | h <;> (unfold cmpK; omega)
theorem V85 (s : Span) (h1 : s.mLo.size ≤ 1000) (h2 : s.mHi.size ≤ 1000) : Ev (fun k => F85 k s) (spR s) := by
  unfold F85
  rw [ltI_pos _ s.mLo rfl, eqI_nil]
  refine Ev.bind (optv fun _ => T130 _) ?_
  unfold spR
  generalize strEq s.mLo ⟨#[]⟩ = a; generalize keyR s.mLo = b
  refine Ev.cond (fun hc => Ev.of fun _ => ?_) fun hc => Ev.cond (fun hh => Ev.of fun _ => ?_) fun hh => Ev.bind (T130 _) (Ev.bind (optv fun _ => V119 _ _ (by omega) (by omega)) (Ev.of fun _ => ?_))
  · congr 1
    generalize (strEq s.mHi ⟨#[]⟩ || (keyR s.mHi && ltI (cmpK s.mLo s.mHi) 0)) = c
    revert a b c; decide
  · congr 1
    rw [hh]
    generalize (keyR s.mHi && ltI (cmpK s.mLo s.mHi) 0) = c
    revert hc; revert a b c; decide
  · congr 1
    rw [hh]
    cases keyR s.mHi
    · simp only [Bool.false_and, Bool.false_or, Bool.and_false]
    · simp only [cond_true, eqI_m1]
      generalize ltI (cmpK s.mLo s.mHi) 0 = c
      revert hc; revert a b c; decide
def hasR (s : Span) (x : ByteArray) : Bool := spR s && keyR x && leI (cmpK s.mLo x) 0 && (strEq s.mHi ⟨#[]⟩ || ltI (cmpK x s.mHi) 0)
theorem V61 (s : Span) (x : ByteArray) : Ev (fun k => F61 k s x) (hasR s x) := by
  refine Ev.bind (V80 _) (Ev.bind (optv fun _ => T122 _) (Ev.bind (optv fun _ => V124 _ _) (Ev.bind (optv fun _ => V124 _ _) (Ev.of fun _ => ?_))))
  congr 1
  unfold hasR
  cases spR s <;> cases keyR x <;> simp only [Bool.true_and, Bool.false_and, cond_true, cond_false, Bool.and_true, Bool.and_false]
  cases leI (cmpK s.mLo x) 0 <;> cases strEq s.mHi ⟨#[]⟩ <;> simp
theorem cmpK_flip (a b : ByteArray) : leI 0 (cmpK a b) = leI (cmpK b a) 0 := by
  unfold cmpK
  rw [cmpL_anti (runes a) (runes b), Bool.eq_iff_iff, leI_iff, leI_iff]; omega
theorem V55 (x lo hi : ByteArray) (h0 : x.size ≤ 1000) (h1 : lo.size ≤ 1000) (h2 : hi.size ≤ 1000) : Ev (fun k => F55 k x lo hi) (leI (cmpK lo x) 0 && (strEq hi ⟨#[]⟩ || ltI (cmpK x hi) 0)) := by
  unfold F55
  rw [eqI_nil]
  refine Ev.bind (V119 _ _ (by omega) (by omega)) ?_
  rw [cmpK_flip]
  refine Ev.bind (optv fun _ => V119 _ _ (by omega) (by omega)) (Ev.of fun _ => ?_)
  congr 1
  cases leI (cmpK lo x) 0 <;> cases strEq hi ⟨#[]⟩ <;> simp
theorem V88 (s : Span) (x : ByteArray) (h0 : x.size ≤ 1000) (h1 : s.mLo.size ≤ 1000) (h2 : s.mHi.size ≤ 1000) : Ev (fun k => F88 k s x) (hasR s x) := by
  refine Ev.bind (V85 _ h1 h2) (Ev.bind (optv fun _ => T130 _) (Ev.bind (optv fun _ => V55 _ _ _ h0 h1 h2) (Ev.of fun _ => ?_)))
  congr 1
  unfold hasR
  cases spR s <;> cases keyR x <;> simp [Bool.and_assoc]
def vR (v : Version) : Bool := stR v.mAt && leI (v.mValue.size : Int) 16 && (!v.mGone || strEq v.mValue ⟨#[]⟩)
theorem V166 (v : Version) : Ev (fun k => F166 k v) (vR v) := Ev.bind (T36 _) (Ev.of fun _ => rfl)
theorem V134 (v : Version) : Ev (fun k => F134 k v) (vR v) := by
  unfold F134 vR
  rw [ltI_pos _ v.mValue rfl]
  refine Ev.cond (fun hc => Ev.of fun _ => ?_) fun hc => Ev.bind (T68 _) (Ev.of fun _ => ?_)
  · rw [Bool.and_eq_true, Bool.not_eq_true'] at hc
    rw [hc.1, hc.2]; simp
  · have : ltI (v.mValue.size : Int) 17 = leI (v.mValue.size : Int) 16 := by rw [Bool.eq_iff_iff, ltI_iff, leI_iff]; omega
    rw [this]
    congr 1
    generalize stR v.mAt = a; generalize leI (v.mValue.size : Int) 16 = b; revert hc; generalize v.mGone = c; generalize strEq v.mValue ⟨#[]⟩ = d
    revert a b c d; decide
def chQ (l : List Version) (i : Nat) : Bool := vR (rd l (i : Int)) && (decide (i = 0) || ltI (cmpS (rd l ((i : Int) - 1)).mAt (rd l (i : Int)).mAt) 0)
def chR (l : List Version) : Bool := leI (l.length : Int) 64 && allFrom (chQ l) l.length 0
theorem V136 (l : List Version) (hl : l.length ≤ 1000) : Ev (fun k => F136 k l) (chR l) := by
  refine Ev.bind (all_ev (q := chQ l) (n := l.length) (r := false) ?_ fun i hi v hv => ?_) ?_
  · refine Ev.from 1 fun k => ?_
    show F136_l1 l (k + 1) _ = _
    rw [F136_l1, ltI_nat, decide_eq_false (Nat.lt_irrefl _)]; rfl
  · refine Ev.succ (fun k => by rw [F136_l1]) ?_
    rw [ltI_nat, decide_eq_true hi, inR_mk hi, i64z (n := (i : Int) - 1) (by omega), i64z (n := (i : Int) + 1) (by omega)]
    refine Ev.bind (V166 _) (Ev.guard ?_ (Ev.bind (optv fun _ => T42 _ _) ?_))
    · rw [Bool.or_eq_true, Bool.not_eq_true', Bool.and_eq_false_iff, ltI_false, inR_iff]
      omega
    · have h0 : ltI 0 (i : Int) = !decide (i = 0) := by rw [Bool.eq_iff_iff, ltI_iff]; simp; omega
      unfold chQ
      rw [h0]
      cases h1 : vR (rd l (i : Int)) <;> cases h2 : decide (i = 0) <;> simp only [Bool.not_true, Bool.not_false, Bool.true_and, Bool.false_and, Bool.true_or, Bool.false_or, cond_true, cond_false, Bool.and_true, Bool.and_false, Bool.or_true, Bool.or_false, if_true]
      · exact Ev.of fun _ => rfl
      · exact Ev.of fun _ => rfl
      · have h3 : leI 0 (cmpS (rd l ((i : Int) - 1)).mAt (rd l (i : Int)).mAt) = !ltI (cmpS (rd l ((i : Int) - 1)).mAt (rd l (i : Int)).mAt) 0 := leI_lt _
        rw [h3]
        cases ltI (cmpS (rd l ((i : Int) - 1)).mAt (rd l (i : Int)).mAt) 0
        · exact Ev.of fun _ => rfl
        · exact hv
      · exact hv
  · unfold chR
    cases allFrom (chQ l) l.length 0
    · exact Ev.of fun _ => by simp [LR.go]
    · exact Ev.of fun _ => by simp [LR.go]
theorem i0 (i : Nat) : ltI 0 (i : Int) = !decide (i = 0) := by rw [Bool.eq_iff_iff, ltI_iff]; simp; omega
theorem bef_eq (s t : Stamp) : Ev (fun k => F76 k s t) (ltI (cmpS s t) 0) := by
  refine Ev.of fun _ => ?_
  have key : ltI (cmpS s t) 0 = true ↔ befS s t := by rw [ltI_iff]; exact cmpS_lt s t
  unfold F76
  by_cases h1 : s.mWall = t.mWall
  · rw [eqI_iff.2 h1]
    by_cases h2 : s.mTick = t.mTick
    · rw [eqI_iff.2 h2]
      show some (ltI _ _) = _
      congr 1
      rw [Bool.eq_iff_iff, key, ltI_iff]; unfold befS; omega
    · rw [eqI_false.2 h2]
      show some (ltI _ _) = _
      congr 1
      rw [Bool.eq_iff_iff, key, ltI_iff]; unfold befS; omega
  · rw [eqI_false.2 h1]
    show some (ltI _ _) = _
    congr 1
    rw [Bool.eq_iff_iff, key, ltI_iff]; unfold befS; omega
/-- The last word of a loop that stops at the first that fails, behind a test of the length. -/
theorem V131 (l : List Version) (hl : l.length ≤ 1000) : Ev (fun k => F131 k l) (chR l) := by
  refine Ev.cond (fun hc => Ev.of fun _ => ?_) fun hc => ?_
  · rw [ltI_iff] at hc
    unfold chR
    rw [leI_false.2 hc]; rfl
  rw [ltI_false] at hc
  refine Ev.bind (all_ev (q := chQ l) (n := l.length) (r := false) ?_ fun i hi v hv => ?_) ?_
  · refine Ev.from 1 fun k => ?_
    show F131_l1 l (k + 1) _ = _
    rw [F131_l1, ltI_nat, decide_eq_false (Nat.lt_irrefl _)]; rfl
  · refine Ev.succ (fun k => by rw [F131_l1]) ?_
    rw [ltI_nat, decide_eq_true hi, inR_mk hi, i64z (n := (i : Int) - 1) (by omega), i64z (n := (i : Int) + 1) (by omega), i0]
    unfold chQ
    refine Ev.bind (V134 _) ?_
    cases h1 : vR (rd l (i : Int))
    · exact Ev.of fun _ => rfl
    · simp only [Bool.not_true, cond_false, Bool.true_and]
      refine Ev.guard ?_ (Ev.guard (by simp) (Ev.bind (optv fun _ => bef_eq _ _) ?_))
      · rw [Bool.or_eq_true, Bool.not_eq_true', inR_iff]
        by_cases h0 : i = 0
        · exact .inl (by simp [h0])
        · right; omega
      · cases decide (i = 0) <;> simp only [Bool.not_true, Bool.not_false, Bool.true_and, Bool.false_and, cond_true, cond_false, Bool.true_or, Bool.false_or, if_true]
        · cases ltI (cmpS (rd l ((i : Int) - 1)).mAt (rd l (i : Int)).mAt) 0
          · exact Ev.of fun _ => rfl
          · exact hv
        · exact hv
  · unfold chR
    rw [leI_iff.2 hc]
    cases allFrom (chQ l) l.length 0 <;> exact Ev.of fun _ => rfl
def ixQ (l : List Entry) (i : Nat) : Bool := (keyR (rd l (i : Int)).mKey && chR (rd l (i : Int)).mChain && !eqI ((rd l (i : Int)).mChain.length : Int) 0) && (decide (i = 0) || ltI (cmpK (rd l ((i : Int) - 1)).mKey (rd l (i : Int)).mKey) 0)
def ixR (l : List Entry) : Bool := leI (l.length : Int) 64 && allFrom (ixQ l) l.length 0
theorem rd_mem {α : Type} [Inhabited α] {l : List α} {i : Nat} (h : i < l.length) : rd l (i : Int) ∈ l := by rw [rd_nat _ _ h]; exact List.getElem_mem h
theorem V81 (l : List Entry) (hl : l.length ≤ 1000) (hc : ∀ e ∈ l, e.mChain.length ≤ 1000) : Ev (fun k => F81 k l) (ixR l) := by
  refine Ev.bind (all_ev (q := ixQ l) (n := l.length) (r := false) ?_ fun i hi v hv => ?_) ?_
  · refine Ev.from 1 fun k => ?_
    show F81_l1 l (k + 1) _ = _
    rw [F81_l1, ltI_nat, decide_eq_false (Nat.lt_irrefl _)]; rfl
  · refine Ev.succ (fun k => by rw [F81_l1]) ?_
    rw [ltI_nat, decide_eq_true hi, inR_mk hi, i64z (n := (i : Int) - 1) (by omega), i64z (n := (i : Int) + 1) (by omega), i0]
    refine Ev.bind (T122 _) (Ev.bind (optv fun _ => V136 _ (hc _ (rd_mem hi))) (Ev.guard ?_ (Ev.bind (optv fun _ => V124 _ _) ?_)))
    · rw [Bool.or_eq_true, Bool.not_eq_true', Bool.and_eq_false_iff, inR_iff]
      by_cases h0 : i = 0
      · exact .inl (.inr (by simp [h0]))
      · right; omega
    · unfold ixQ
      have h3 : leI 0 (cmpK (rd l ((i : Int) - 1)).mKey (rd l (i : Int)).mKey) = !ltI (cmpK (rd l ((i : Int) - 1)).mKey (rd l (i : Int)).mKey) 0 := leI_lt _
      cases keyR (rd l (i : Int)).mKey <;> simp only [Bool.not_true, Bool.not_false, Bool.true_and, Bool.false_and, Bool.true_or, Bool.false_or, cond_true, cond_false, Bool.and_true, Bool.and_false, Bool.or_true, Bool.or_false]
      · exact Ev.of fun _ => rfl
      cases chR (rd l (i : Int)).mChain <;> simp only [Bool.not_true, Bool.not_false, Bool.true_and, Bool.false_and, Bool.true_or, Bool.false_or, cond_true, cond_false, Bool.and_true, Bool.and_false, Bool.or_true, Bool.or_false]
      · exact Ev.of fun _ => rfl
      cases eqI ((rd l (i : Int)).mChain.length : Int) 0 <;> simp only [Bool.not_true, Bool.not_false, Bool.true_and, Bool.false_and, Bool.true_or, Bool.false_or, cond_true, cond_false, Bool.and_true, Bool.and_false, Bool.or_true, Bool.or_false]
      · cases decide (i = 0) <;> simp only [Bool.not_true, Bool.not_false, Bool.true_and, Bool.false_and, cond_true, cond_false, Bool.true_or, Bool.false_or, if_true]
        · rw [h3]
          cases ltI (cmpK (rd l ((i : Int) - 1)).mKey (rd l (i : Int)).mKey) 0
          · exact Ev.of fun _ => rfl
          · exact hv
        · exact hv
      · exact Ev.of fun _ => rfl
  · unfold ixR
    cases allFrom (ixQ l) l.length 0
    · exact Ev.of fun _ => by simp [LR.go]
    · exact Ev.of fun _ => by simp [LR.go]
theorem V86 (l : List Entry) (hl : l.length ≤ 1000) (hc : ∀ e ∈ l, e.mChain.length ≤ 1000) (hk : ∀ e ∈ l, e.mKey.size ≤ 1000) : Ev (fun k => F86 k l) (ixR l) := by
  refine Ev.cond (fun hc => Ev.of fun _ => ?_) fun hcc => ?_
  · rw [ltI_iff] at hc
    unfold ixR
    rw [leI_false.2 hc]; rfl
  rw [ltI_false] at hcc
  refine Ev.bind (all_ev (q := ixQ l) (n := l.length) (r := false) ?_ fun i hi v hv => ?_) ?_
  · refine Ev.from 1 fun k => ?_
    show F86_l1 l (k + 1) _ = _
    rw [F86_l1, ltI_nat, decide_eq_false (Nat.lt_irrefl _)]; rfl
  · refine Ev.succ (fun k => by rw [F86_l1]) ?_
    rw [ltI_nat, decide_eq_true hi, inR_mk hi, i64z (n := (i : Int) - 1) (by omega), i64z (n := (i : Int) + 1) (by omega), i0]
    simp only [Bool.or_true, cond_true]
    unfold ixQ
    refine Ev.bind (T130 _) (Ev.bind (optv fun _ => V131 _ (hc _ (rd_mem hi))) ?_)
    cases keyR (rd l (i : Int)).mKey <;> simp only [Bool.not_true, Bool.not_false, Bool.true_and, Bool.false_and, Bool.true_or, Bool.false_or, cond_true, cond_false, Bool.and_true, Bool.and_false, Bool.or_true, Bool.or_false]
    · exact Ev.of fun _ => rfl
    cases eqI ((rd l (i : Int)).mChain.length : Int) 0 <;> simp only [Bool.not_true, Bool.not_false, Bool.true_and, Bool.false_and, Bool.true_or, Bool.false_or, cond_true, cond_false, Bool.and_true, Bool.and_false, Bool.or_true, Bool.or_false]
    · cases chR (rd l (i : Int)).mChain <;> simp only [Bool.not_true, Bool.not_false, Bool.true_and, Bool.false_and, Bool.true_or, Bool.false_or, cond_true, cond_false, Bool.and_true, Bool.and_false, Bool.or_true, Bool.or_false]
      · exact Ev.of fun _ => rfl
      · refine Ev.guard ?_ ?_
        · rw [Bool.or_eq_true, Bool.not_eq_true', inR_iff]
          by_cases h0 : i = 0
          · exact .inl (by simp [h0])
          · right; omega
        · by_cases h0 : i = 0
          · rw [decide_eq_true h0]
            exact hv
          · rw [decide_eq_false h0]
            have hm : rd l ((i : Int) - 1) ∈ l := by
              have := rd_mem (l := l) (i := i - 1) (by omega)
              rwa [show ((i - 1 : Nat) : Int) = (i : Int) - 1 by omega] at this
            refine Ev.bind (V119 _ _ (by have := hk _ hm; omega) (by have := hk _ (rd_mem hi); omega)) ?_
            simp only [eqI_m1, Bool.not_false, Bool.true_and, Bool.false_or]
            cases ltI (cmpK (rd l ((i : Int) - 1)).mKey (rd l (i : Int)).mKey) 0
            · exact Ev.of fun _ => rfl
            · exact hv
    · exact Ev.of fun _ => rfl
  · unfold ixR
    rw [leI_iff.2 hcc]
    cases allFrom (ixQ l) l.length 0 <;> exact Ev.of fun _ => rfl
def aR (a : Answer) : Bool := leI 0 a.mErr && leI a.mErr 16 && stR a.mAt && leI (a.mValue.size : Int) 16 && eqI (a.mItems.length : Int) 0 && strEq a.mNext ⟨#[]⟩ && !a.mMore
theorem V138 (a : Answer) : Ev (fun k => F138 k a) (aR a) := by
  refine Ev.bind (optv fun _ => T36 _) (Ev.of fun _ => ?_)
  congr 1
  unfold aR
  cases leI 0 a.mErr <;> cases leI a.mErr 16 <;> simp
theorem V141 (a : Answer) : Ev (fun k => F141 k a) (aR a) := by
  unfold F141
  rw [ltI_pos _ a.mNext rfl]
  have h1 : ltI 0 (a.mItems.length : Int) = !eqI (a.mItems.length : Int) 0 := by rw [Bool.eq_iff_iff, ltI_iff, Bool.not_eq_true', eqI_false]; omega
  have h2 : ltI a.mErr 0 = !leI 0 a.mErr := by rw [leI_lt, Bool.not_not]
  have h3 : ltI 16 a.mErr = !leI a.mErr 16 := by rw [Bool.eq_iff_iff, ltI_iff, Bool.not_eq_true', leI_false]
  have h4 : ltI 16 (a.mValue.size : Int) = !leI (a.mValue.size : Int) 16 := by rw [Bool.eq_iff_iff, ltI_iff, Bool.not_eq_true', leI_false]
  rw [h1, h2, h3, h4]
  unfold aR
  refine Ev.cond (fun hc => Ev.of fun _ => ?_) fun hc => Ev.bind (T68 _) (Ev.of fun _ => ?_)
  · congr 1
    revert hc
    generalize leI 0 a.mErr = x1; generalize leI a.mErr 16 = x2; generalize stR a.mAt = x3; generalize leI (a.mValue.size : Int) 16 = x4; generalize eqI (a.mItems.length : Int) 0 = x5; generalize strEq a.mNext ⟨#[]⟩ = x6; generalize a.mMore = x7
    revert x1 x2 x3 x4 x5 x6 x7; decide
  · congr 1
    revert hc
    generalize leI 0 a.mErr = x1; generalize leI a.mErr 16 = x2; generalize stR a.mAt = x3; generalize leI (a.mValue.size : Int) 16 = x4; generalize eqI (a.mItems.length : Int) 0 = x5; generalize strEq a.mNext ⟨#[]⟩ = x6; generalize a.mMore = x7
    revert x1 x2 x3 x4 x5 x6 x7; decide
def dnQ (l : List Done) (i : Nat) : Bool := oneB (rd l (i : Int)).mClient && oneB (rd l (i : Int)).mReq && aR (rd l (i : Int)).mAnswer && (decide (i = 0) || ltI (rd l ((i : Int) - 1)).mClient (rd l (i : Int)).mClient)
def dnR (l : List Done) : Bool := leI (l.length : Int) 8 && allFrom (dnQ l) l.length 0
/-- The client ahead of place i. -/
def pcI (l : List Done) (i : Int) : Int := bif leI i 0 then 0 else (rd l (i - 1)).mClient
theorem V82 (l : List Done) (hl : l.length ≤ 1000) : Ev (fun k => F82 k l) (dnR l) := by
  have start : ∀ k, F82_l1 l k (0, 0) = F82_l1 l k (pcI l 0, 0) := fun _ => rfl
  refine Ev.bind ((all_ev (f := fun k i => F82_l1 l k (pcI l i, i)) (q := dnQ l) (n := l.length) (r := false) ?_ fun i hi v hv => ?_).congr start) ?_
  · refine Ev.from 1 fun k => ?_
    show F82_l1 l (k + 1) (pcI l _, _) = _
    rw [F82_l1, ltI_nat, decide_eq_false (Nat.lt_irrefl _)]; rfl
  · refine Ev.succ (fun k => by rw [F82_l1]) ?_
    have hp : pcI l ((i + 1 : Nat) : Int) = (rd l (i : Int)).mClient := by
      unfold pcI
      rw [leI_false.2 (by omega), show ((i + 1 : Nat) : Int) - 1 = (i : Int) by omega]; rfl
    simp only [hp] at hv
    rw [ltI_nat, decide_eq_true hi, inR_mk hi, i64z (n := (i : Int) + 1) (by omega)]
    have hq : dnQ l i = (!leI (rd l (i : Int)).mClient (pcI l (i : Int)) && oneB (rd l (i : Int)).mClient && oneB (rd l (i : Int)).mReq && aR (rd l (i : Int)).mAnswer) := by
      unfold dnQ pcI
      by_cases h0 : i = 0
      · subst h0
        show _ = (!leI _ 0 && _ && _ && _)
        cases hone : oneB (rd l ((0 : Nat) : Int)).mClient
        · simp
        · have : leI (rd l ((0 : Nat) : Int)).mClient 0 = false := by
            unfold oneB at hone
            rw [Bool.and_eq_true, leI_iff, leI_iff] at hone
            rw [leI_false]; omega
          rw [this]; simp
      · rw [decide_eq_false h0, (leI_false.2 (by omega) : leI (i : Int) 0 = false)]
        have : (!leI (rd l (i : Int)).mClient (rd l ((i : Int) - 1)).mClient) = ltI (rd l ((i : Int) - 1)).mClient (rd l (i : Int)).mClient := by
          rw [Bool.eq_iff_iff, Bool.not_eq_true', leI_false, ltI_iff]
        simp only [cond_false, Bool.false_or, this]
        generalize ltI (rd l ((i : Int) - 1)).mClient (rd l (i : Int)).mClient = a; generalize oneB (rd l (i : Int)).mClient = b; generalize oneB (rd l (i : Int)).mReq = c; generalize aR (rd l (i : Int)).mAnswer = d
        revert a b c d; decide
    rw [hq]
    refine Ev.bind (optv fun _ => (Ev.of fun _ => rfl : Ev (fun k => F137 k (rd l (i : Int)).mClient) (oneB (rd l (i : Int)).mClient))) (Ev.bind (optv fun _ => (Ev.of fun _ => rfl : Ev (fun k => F137 k (rd l (i : Int)).mReq) (oneB (rd l (i : Int)).mReq))) (Ev.bind (optv fun _ => V138 _) ?_))
    cases leI (rd l (i : Int)).mClient (pcI l (i : Int)) <;> simp only [Bool.not_true, Bool.not_false, Bool.true_and, Bool.false_and, Bool.true_or, Bool.false_or, cond_true, cond_false, Bool.and_true, Bool.and_false, Bool.or_true, Bool.or_false]
    · cases oneB (rd l (i : Int)).mClient <;> simp only [Bool.not_true, Bool.not_false, Bool.true_and, Bool.false_and, Bool.true_or, Bool.false_or, cond_true, cond_false, Bool.and_true, Bool.and_false, Bool.or_true, Bool.or_false]
      · exact Ev.of fun _ => rfl
      cases oneB (rd l (i : Int)).mReq <;> simp only [Bool.not_true, Bool.not_false, Bool.true_and, Bool.false_and, Bool.true_or, Bool.false_or, cond_true, cond_false, Bool.and_true, Bool.and_false, Bool.or_true, Bool.or_false]
      · exact Ev.of fun _ => rfl
      cases aR (rd l (i : Int)).mAnswer
      · exact Ev.of fun _ => rfl
      · exact hv
    · exact Ev.of fun _ => rfl
  · unfold dnR
    cases allFrom (dnQ l) l.length 0
    · exact Ev.of fun _ => by simp [LR.go]
    · exact Ev.of fun _ => by simp [LR.go]
theorem V87 (l : List Done) (hl : l.length ≤ 1000) : Ev (fun k => F87 k l) (dnR l) := by
  refine Ev.cond (fun hc => Ev.of fun _ => ?_) fun hcc => ?_
  · rw [ltI_iff] at hc
    unfold dnR
    rw [leI_false.2 hc]; rfl
  rw [ltI_false] at hcc
  refine Ev.bind (all_ev (q := dnQ l) (n := l.length) (r := false) ?_ fun i hi v hv => ?_) ?_
  · refine Ev.from 1 fun k => ?_
    show F87_l1 l (k + 1) _ = _
    rw [F87_l1, ltI_nat, decide_eq_false (Nat.lt_irrefl _)]; rfl
  · refine Ev.succ (fun k => by rw [F87_l1]) ?_
    rw [ltI_nat, decide_eq_true hi, inR_mk hi, i64z (n := (i : Int) - 1) (by omega), i64z (n := (i : Int) + 1) (by omega), i0]
    simp only [Bool.or_true, cond_true]
    unfold dnQ
    refine Ev.bind (Ev.of fun _ => rfl : Ev (fun k => F140 k (rd l (i : Int)).mClient) (oneB (rd l (i : Int)).mClient)) (Ev.bind (optv fun _ => (Ev.of fun _ => rfl : Ev (fun k => F140 k (rd l (i : Int)).mReq) (oneB (rd l (i : Int)).mReq))) (Ev.bind (optv fun _ => V141 _) ?_))
    cases oneB (rd l (i : Int)).mClient <;> simp only [Bool.not_true, Bool.not_false, Bool.true_and, Bool.false_and, Bool.true_or, Bool.false_or, cond_true, cond_false, Bool.and_true, Bool.and_false, Bool.or_true, Bool.or_false]
    · exact Ev.of fun _ => rfl
    cases oneB (rd l (i : Int)).mReq <;> simp only [Bool.not_true, Bool.not_false, Bool.true_and, Bool.false_and, Bool.true_or, Bool.false_or, cond_true, cond_false, Bool.and_true, Bool.and_false, Bool.or_true, Bool.or_false]
    · exact Ev.of fun _ => rfl
    cases aR (rd l (i : Int)).mAnswer <;> simp only [Bool.not_true, Bool.not_false, Bool.true_and, Bool.false_and, Bool.true_or, Bool.false_or, cond_true, cond_false, Bool.and_true, Bool.and_false, Bool.or_true, Bool.or_false]
    · exact Ev.of fun _ => rfl
    refine Ev.guard ?_ ?_
    · rw [Bool.or_eq_true, Bool.not_eq_true', inR_iff]
      by_cases h0 : i = 0
      · exact .inl (by simp [h0])
      · right; omega
    · cases decide (i = 0) <;> simp only [Bool.not_true, Bool.not_false, Bool.true_and, Bool.false_and, cond_true, cond_false, Bool.true_or, Bool.false_or, if_true]
      · have : leI (rd l (i : Int)).mClient (rd l ((i : Int) - 1)).mClient = !ltI (rd l ((i : Int) - 1)).mClient (rd l (i : Int)).mClient := by
          rw [Bool.eq_iff_iff, Bool.not_eq_true', ltI_false, leI_iff]
        rw [this]
        cases ltI (rd l ((i : Int) - 1)).mClient (rd l (i : Int)).mClient
        · exact Ev.of fun _ => rfl
        · exact hv
      · exact hv
  · unfold dnR
    rw [leI_iff.2 hcc]
    cases allFrom (dnQ l) l.length 0 <;> exact Ev.of fun _ => rfl
end Go.Proofs.Gd
set_option linter.unusedVariables false
set_option linter.unusedSimpArgs false
namespace Go.Proofs.Gd
open Go Go.Awp
theorem Ev.congr' {α : Type} {f : Nat → Option α} {r r' : α} (h : Ev f r) (e : r = r') : Ev f r' := e ▸ h
structure SmS2 (s : Shard) : Prop extends SmS s where
  keys : ∀ e ∈ s.mEntries, e.mKey.size ≤ 100
  lo : s.mSpan.mLo.size ≤ 100
  hi : s.mSpan.mHi.size ≤ 100
structure SmC2 (c : Cell) : Prop where
  shards : c.mShards.length ≤ 12
  each : ∀ s ∈ c.mShards, SmS2 s
theorem SmC2.sm {c : Cell} (h : SmC2 c) : SmC c := ⟨h.shards, fun s hs => (h.each s hs).toSmS⟩
theorem V91 (l : List Entry) : EvP (fun k => F91 k l) (fun b => b = true → l.length ≤ 80 ∧ ∀ e ∈ l, e.mChain.length ≤ 80 ∧ e.mKey.size ≤ 100) := by
  refine EvP.cond (fun _ => EvP.some fun h => by cases h) fun hc => ?_
  rw [ltI_false] at hc
  refine EvP.go ((downTo (M := fun i => EvP (fun k => F91_l1 l k (i : Int)) fun t => t = .ret false ∨ (t = .out () ∧ ∀ j (hj : j < l.length), i ≤ j → l[j].mChain.length ≤ 80 ∧ l[j].mKey.size ≤ 100)) l.length ?_ fun i hi ih => ?_).mono fun t ht => ?_)
  · refine EvP.succ (fun k => by rw [F91_l1]) ?_
    rw [ltI_nat, decide_eq_false (Nat.lt_irrefl _)]
    exact EvP.some (.inr ⟨rfl, fun j hj h => by omega⟩)
  · refine EvP.succ (fun k => by rw [F91_l1]) ?_
    rw [ltI_nat, decide_eq_true hi, inR_mk hi, rd_nat _ _ hi, Bool.or_true]
    simp only [cond_true]
    refine EvP.cond (fun _ => EvP.some (.inl rfl)) fun hcc => ?_
    rw [Bool.or_eq_false_iff, ltI_false, ltI_false] at hcc
    rw [i64z (by omega)]
    refine ih.mono fun t ht => ht.imp id fun ⟨h1, h2⟩ => ⟨h1, fun j hj hij => ?_⟩
    by_cases e : j = i
    · subst e; omega
    · exact h2 j hj (by omega)
  · rcases ht with rfl | ⟨rfl, h⟩
    · exact fun h => by cases h
    · refine EvP.some fun _ => ⟨by omega, fun e he => ?_⟩
      obtain ⟨j, hj, rfl⟩ := List.mem_iff_getElem.1 he
      exact h j hj (by omega)
theorem V27 (s : Shard) : EvP (fun k => F27 k s) (fun b => b = true → SmS2 s) := by
  refine EvP.bind ((V91 _).mono fun t5 h5 => EvP.bind ((EvP.opt (P := fun b => b = true → s.mDone.length ≤ 40 ∧ ∀ e ∈ s.mDone, e.mAnswer.mItems.length ≤ 100) (fun _ => T92 _) fun _ => fun h => by cases h).mono fun t9 h9 => EvP.some fun h => ?_))
  simp only [Bool.and_eq_true, ltI_iff] at h
  exact { entries := (h5 h.1.1.1).1, chains := fun e he => ((h5 h.1.1.1).2 e he).1, done := (h9 h.1.1.2).1, items := (h9 h.1.1.2).2, keys := fun e he => ((h5 h.1.1.1).2 e he).2, lo := by omega, hi := by omega }
theorem V14 (c : Cell) : EvP (fun k => F14 k c) (fun b => b = true → SmC2 c) := by
  refine EvP.cond (fun _ => EvP.some fun h => by cases h) fun hc => ?_
  rw [ltI_false] at hc
  refine EvP.go ((downTo (M := fun i => EvP (fun k => F14_l1 c k (i : Int)) fun t => t = .ret false ∨ (t = .out () ∧ ∀ j (hj : j < c.mShards.length), i ≤ j → SmS2 c.mShards[j])) c.mShards.length ?_ fun i hi ih => ?_).mono fun t ht => ?_)
  · refine EvP.succ (fun k => by rw [F14_l1]) ?_
    rw [ltI_nat, decide_eq_false (Nat.lt_irrefl _)]
    exact EvP.some (.inr ⟨rfl, fun j hj h => by omega⟩)
  · refine EvP.succ (fun k => by rw [F14_l1]) ?_
    rw [ltI_nat, decide_eq_true hi, inR_mk hi, rd_nat _ _ hi]
    refine EvP.bind ((V27 _).mono fun b hb => EvP.cond (fun _ => EvP.some (.inl rfl)) fun hcc => ?_)
    rw [i64z (by omega)]
    refine ih.mono fun t ht => ht.imp id fun ⟨h1, h2⟩ => ⟨h1, fun j hj hij => ?_⟩
    by_cases e : j = i
    · subst e; exact hb (by simpa using hcc)
    · exact h2 j hj (by omega)
  · rcases ht with rfl | ⟨rfl, h⟩
    · exact fun h => by cases h
    · refine EvP.some fun _ => ⟨by omega, fun e he => ?_⟩
      obtain ⟨j, hj, rfl⟩ := List.mem_iff_getElem.1 he
      exact h j hj (by omega)
def shR (s : Shard) : Bool := oneB s.mID && oneB s.mEpoch && noB s.mHold && noB s.mSeen && noB s.mMove && noB s.mClosed && !ltI s.mPhase 1 && !ltI 3 s.mPhase && spR s.mSpan && ixR s.mEntries && stR s.mMark && stR s.mTop && dnR s.mDone && s.mEntries.all (fun e => hasR s.mSpan e.mKey)
theorem noB_eq (x : Int) : (ltI x 0 || ltI 1099511627776 x) = !noB x := by
  rw [Bool.eq_iff_iff]
  simp only [noB, Bool.or_eq_true, Bool.not_eq_true', Bool.and_eq_false_iff, ltI_iff, leI_false]
theorem V57_0 (l : List Int) (hl : l.length ≤ 1000) : Ev (fun k => F57 k 0 l) (l.all noB) := by
  have := T57 0 l hl
  simp only [noB_eq] at this
  rwa [List.not_any_eq_all_not, show (fun x => !!noB x) = noB by funext x; simp] at this
theorem V83_84 (l : List Entry) (s : Shard) (hl : l.length ≤ 1000) : Ev (fun k => F83_84 k l s) (l.any fun e => !hasR s.mSpan e.mKey) :=
  any_ev (idx_ev (f := F139_84_l1 l s) (q := fun e => !hasR s.mSpan e.mKey) (p := fun k x => F84 k x s) (by omega) (fun _ => rfl) (fun _ _ => rfl) fun x _ => Ev.bind (V61 _ _) (Ev.of fun _ => rfl))
theorem V20 (s : Shard) (h : SmS s) : Ev (fun k => F20 k s) (shR s) := by
  have he := h.entries
  have hd := h.done
  refine Ev.bind (T57_2 _ _) (Ev.bind (optv fun _ => V57_0 _ (by simp)) ?_)
  unfold shR
  simp only [List.all_cons, List.all_nil, Bool.and_true]
  generalize ha : (oneB s.mID && oneB s.mEpoch) = a
  generalize hb : (noB s.mHold && (noB s.mSeen && (noB s.mMove && noB s.mClosed))) = b
  have hab : (a && noB s.mHold && noB s.mSeen && noB s.mMove && noB s.mClosed) = (a && b) := by rw [← hb]; simp only [Bool.and_assoc]
  rw [hab]
  generalize ltI s.mPhase 1 = c; generalize ltI 3 s.mPhase = d
  refine Ev.cond (fun hc => Ev.of fun _ => ?_) fun hc => ?_
  · congr 1
    have : (a && b && !c && !d) = false := by clear ha hb hab; revert hc; revert a b c d; decide
    rw [this]; rfl
  have h4 : (a && b && !c && !d) = true := by revert hc; clear ha hb hab; revert a b c d; decide
  rw [h4]
  refine Ev.bind (V80 _) (Ev.bind (optv fun _ => V81 _ (by omega) fun e he => by have := h.chains e he; omega) (Ev.bind (optv fun _ => T36 _) (Ev.bind (optv fun _ => T36 _) (Ev.bind (optv fun _ => V82 _ (by omega)) ?_))))
  have hx : s.mEntries.all (fun e => hasR s.mSpan e.mKey) = !(s.mEntries.any fun e => !hasR s.mSpan e.mKey) := by rw [List.not_any_eq_all_not]; simp
  have h5 := V83_84 s.mEntries s (by omega)
  rw [hx]
  generalize (s.mEntries.any fun e => !hasR s.mSpan e.mKey) = z at h5 ⊢
  generalize spR s.mSpan = e1; generalize ixR s.mEntries = e2; generalize stR s.mMark = e3; generalize stR s.mTop = e4; generalize dnR s.mDone = e5
  refine Ev.cond (fun hc => Ev.of fun _ => ?_) fun hc => Ev.bind h5 (Ev.of fun _ => ?_)
  · congr 1
    clear h5
    revert hc; revert e1 e2 e3 e4 e5 z; decide
  · congr 1
    clear h5
    revert hc; revert e1 e2 e3 e4 e5 z; decide
theorem V21 (s : Shard) (h : SmS2 s) : Ev (fun k => F21 k s) (shR s) := by
  have he := h.entries
  have hd := h.done
  have hlo := h.lo
  have hhi := h.hi
  refine Ev.bind (T66 _) (Ev.bind (optv fun _ => T66 _) (Ev.bind (optv fun _ => V67 _) (Ev.bind (optv fun _ => V67 _) (Ev.bind (optv fun _ => V67 _) (Ev.bind (optv fun _ => V67 _) ?_)))))
  have hp : ((!eqI s.mPhase 1 && !eqI s.mPhase 2) && !eqI s.mPhase 3) = (ltI s.mPhase 1 || ltI 3 s.mPhase) := by
    rw [Bool.eq_iff_iff]
    simp only [Bool.and_eq_true, Bool.or_eq_true, Bool.not_eq_true', eqI_false, ltI_iff]; omega
  simp only [hp]
  unfold shR
  generalize oneB s.mID = a1; generalize oneB s.mEpoch = a2; generalize noB s.mHold = a3; generalize noB s.mSeen = a4; generalize noB s.mMove = a5; generalize noB s.mClosed = a6
  refine Ev.cond (fun hc => Ev.of fun _ => ?_) fun hc => ?_
  · congr 1
    have : (a1 && a2 && a3 && a4 && a5 && a6) = false := by revert hc; revert a1 a2 a3 a4 a5 a6; decide
    rw [this]; rfl
  have h4 : (a1 && a2 && a3 && a4 && a5 && a6) = true := by revert hc; revert a1 a2 a3 a4 a5 a6; decide
  rw [h4]
  refine Ev.bind (optv fun _ => V85 _ (by omega) (by omega)) (Ev.bind (optv fun _ => V86 _ (by omega) (fun e he => by have := h.chains e he; omega) fun e he => by have := h.keys e he; omega) (Ev.bind (optv fun _ => T68 _) (Ev.bind (optv fun _ => T68 _) (Ev.bind (optv fun _ => V87 _ (by omega)) ?_))))
  have h5 : Ev (fun k => (F21_l1 s k 0).bind fun t => t.go fun _ => some true) (s.mEntries.all (fun e => hasR s.mSpan e.mKey)) := by
    refine Ev.bind (all_ev (q := fun i => hasR s.mSpan (rd s.mEntries (i : Int)).mKey) (n := s.mEntries.length) (r := false) ?_ fun i hi v hv => ?_) ?_
    · refine Ev.from 1 fun k => ?_
      show F21_l1 s (k + 1) _ = _
      rw [F21_l1, ltI_nat, decide_eq_false (Nat.lt_irrefl _)]; rfl
    · refine Ev.succ (fun k => by rw [F21_l1]) ?_
      rw [ltI_nat, decide_eq_true hi, inR_mk hi, i64z (by omega)]
      refine Ev.bind (V88 _ _ (by have := h.keys _ (rd_mem hi); omega) (by omega) (by omega)) ?_
      cases hasR s.mSpan (rd s.mEntries (i : Int)).mKey
      · exact Ev.of fun _ => rfl
      · exact hv
    · have : s.mEntries.all (fun e => hasR s.mSpan e.mKey) = allFrom (fun i => hasR s.mSpan (rd s.mEntries (i : Int)).mKey) s.mEntries.length 0 := by
        rw [Bool.eq_iff_iff, List.all_eq_true, allFrom_iff]
        constructor
        · intro hh j _ hj; exact hh _ (rd_mem (by omega))
        · intro hh e he
          obtain ⟨j, hj, rfl⟩ := List.mem_iff_getElem.1 he
          have := hh j (by omega) (by omega)
          rwa [rd_nat _ _ hj] at this
      rw [this]
      cases allFrom (fun i => hasR s.mSpan (rd s.mEntries (i : Int)).mKey) s.mEntries.length 0 <;> exact Ev.of fun _ => rfl
  generalize s.mEntries.all (fun e => hasR s.mSpan e.mKey) = z at h5 ⊢
  generalize ltI s.mPhase 1 = c; generalize ltI 3 s.mPhase = d
  generalize spR s.mSpan = e1; generalize ixR s.mEntries = e2; generalize stR s.mMark = e3; generalize stR s.mTop = e4; generalize dnR s.mDone = e5
  refine Ev.cond (fun hc => Ev.of fun _ => ?_) fun hc => Ev.congr' h5 ?_
  · congr 1
    clear h5 hp h4
    revert hc; revert c d e1 e2 e3 e4 e5 z; decide
  · clear h5 hp h4
    revert hc; revert c d e1 e2 e3 e4 e5 z; decide
theorem cmpS_le (s t : Stamp) : cmpS s t ≤ 0 ↔ ¬ befS t s := by
  unfold cmpS or3 befS
  rw [cmpI_lt, cmpI_lt, cmpI_lt]
  repeat' split
  all_goals (simp [eqI]; try omega)
def lastV (l : List Version) : Version := rd l ((l.length : Int) - 1)
def upR (s : Shard) (t : Stamp) : Bool := s.mEntries.all fun e => leI (cmpS (lastV e.mChain).mAt t) 0
theorem V90 (s : Shard) (t : Stamp) (h : SmS s) (hn : ∀ e ∈ s.mEntries, e.mChain ≠ []) : Ev (fun k => F90 k s t) (upR s t) := by
  have he := h.entries
  have h1 : Ev (fun k => F83_142 k s.mEntries t) (s.mEntries.any fun e => ltI 0 (cmpS (lastV e.mChain).mAt t)) :=
    any_ev (idx_ev (f := F139_142_l1 s.mEntries t) (q := fun e => ltI 0 (cmpS (lastV e.mChain).mAt t)) (p := fun k x => F142 k x t) (by omega) (fun _ => rfl) (fun _ _ => rfl) fun x hx => by
      have h1 := h.chains x hx
      have h2 : 0 < x.mChain.length := List.length_pos_iff.2 (hn x hx)
      unfold F142
      rw [i64z (by omega)]
      exact Ev.guard (by rw [inR_iff]; omega) (Ev.bind (T42 _ _) (Ev.of fun _ => rfl)))
  refine Ev.bind h1 (Ev.of fun _ => ?_)
  congr 1
  unfold upR
  rw [List.not_any_eq_all_not]
  congr 1
  funext e
  rw [Bool.eq_iff_iff, Bool.not_eq_true', ltI_false, leI_iff]
/-- In a right chain the last is the latest. -/
theorem chain_last (l : List Version) (h : chR l = true) (j : Nat) (hj : j < l.length) : ¬ befS (lastV l).mAt (rd l (j : Int)).mAt := by
  unfold chR at h
  rw [Bool.and_eq_true, allFrom_iff] at h
  have hs : ∀ i, 0 < i → i < l.length → befS (rd l ((i : Int) - 1)).mAt (rd l (i : Int)).mAt := fun i h0 hi => by
    have := h.2 i (by omega) (by omega)
    unfold chQ at this
    rw [Bool.and_eq_true, decide_eq_false (by omega), Bool.false_or, ltI_iff, cmpS_lt] at this
    exact this.2
  have key : ∀ n, j + n < l.length → ¬ befS (rd l ((j + n : Nat) : Int)).mAt (rd l (j : Int)).mAt := fun n => by
    induction n with
    | zero => intro _ hb; unfold befS at hb; simp only [Nat.add_zero] at hb; omega
    | succ n ih =>
      intro hn hb
      have h1 := hs (j + (n + 1)) (by omega) hn
      rw [show ((j + (n + 1) : Nat) : Int) - 1 = ((j + n : Nat) : Int) by omega] at h1
      refine ih (by omega) ?_
      unfold befS at h1 hb ⊢
      omega
  have := key (l.length - 1 - j) (by omega)
  unfold lastV
  rwa [show ((j + (l.length - 1 - j) : Nat) : Int) = (l.length : Int) - 1 by omega] at this
theorem up_chain (l : List Version) (t : Stamp) (h : chR l = true) (hn : l ≠ []) : (∀ j, j < l.length → ¬ befS t (rd l (j : Int)).mAt) ↔ leI (cmpS (lastV l).mAt t) 0 = true := by
  have hl : 0 < l.length := List.length_pos_iff.2 hn
  rw [leI_iff, cmpS_le]
  constructor
  · intro hh
    have := hh (l.length - 1) (by omega)
    unfold lastV
    rwa [show ((l.length - 1 : Nat) : Int) = (l.length : Int) - 1 by omega] at this
  · intro hh j hj hb
    have := chain_last l h j hj
    unfold befS at *
    omega
theorem V89 (s : Shard) (t : Stamp) (h : SmS s) (hr : ixR s.mEntries = true) : Ev (fun k => F89 k s t) (upR s t) := by
  have he := h.entries
  have hq : ∀ i, i < s.mEntries.length → chR (rd s.mEntries (i : Int)).mChain = true ∧ (rd s.mEntries (i : Int)).mChain ≠ [] := fun i hi => by
    unfold ixR at hr
    rw [Bool.and_eq_true, allFrom_iff] at hr
    have := hr.2 i (by omega) (by omega)
    unfold ixQ at this
    simp only [Bool.and_eq_true, Bool.not_eq_true', eqI_false] at this
    refine ⟨this.1.1.2, fun hh => ?_⟩
    rw [hh] at this
    simp at this
  have inner : ∀ i, i < s.mEntries.length → Ev (fun k => F89_l2 s t (i : Int) k 0) (if leI (cmpS (lastV (rd s.mEntries (i : Int)).mChain).mAt t) 0 = true then .out () else .ret false) := fun i hi => by
    have hc : (rd s.mEntries (i : Int)).mChain.length ≤ 80 := h.chains _ (rd_mem hi)
    have hiff := up_chain _ t (hq i hi).1 (hq i hi).2
    have h1 := all_ev (f := fun k j => F89_l2 s t (i : Int) k j) (q := fun j => !ltI (cmpS t (rd (rd s.mEntries (i : Int)).mChain (j : Int)).mAt) 0) (n := (rd s.mEntries (i : Int)).mChain.length) (r := false) (by
      refine Ev.from 1 fun k => ?_
      show F89_l2 s t (i : Int) (k + 1) _ = _
      rw [F89_l2, inR_mk hi, ltI_nat, decide_eq_false (Nat.lt_irrefl _)]; rfl) fun j hj v hv => by
        refine Ev.succ (fun k => by rw [F89_l2]) ?_
        rw [ltI_nat, decide_eq_true hj, inR_mk hi, inR_mk hj, i64z (by omega)]
        refine Ev.bind (bef_eq _ _) ?_
        cases ltI (cmpS t (rd (rd s.mEntries (i : Int)).mChain (j : Int)).mAt) 0
        · exact hv
        · exact Ev.of fun _ => rfl
    have e : allFrom (fun j => !ltI (cmpS t (rd (rd s.mEntries (i : Int)).mChain (j : Int)).mAt) 0) (rd s.mEntries (i : Int)).mChain.length 0 = leI (cmpS (lastV (rd s.mEntries (i : Int)).mChain).mAt t) 0 := by
      rw [Bool.eq_iff_iff, allFrom_iff, ← hiff]
      constructor
      · intro hh j hj hb
        have := hh j (by omega) (by omega)
        rw [Bool.not_eq_true', ltI_false] at this
        have := (cmpS_lt t _).2 hb
        omega
      · intro hh j _ hj
        rw [Bool.not_eq_true', ltI_false]
        have := hh j (by omega)
        rw [← cmpS_lt] at this
        omega
    rwa [e] at h1
  refine Ev.bind (all_ev (q := fun i => leI (cmpS (lastV (rd s.mEntries (i : Int)).mChain).mAt t) 0) (n := s.mEntries.length) (r := false) ?_ fun i hi v hv => ?_) ?_
  · refine Ev.from 1 fun k => ?_
    show F89_l1 s t (k + 1) _ = _
    rw [F89_l1, ltI_nat, decide_eq_false (Nat.lt_irrefl _)]; rfl
  · refine Ev.succ (fun k => by rw [F89_l1]) ?_
    rw [ltI_nat, decide_eq_true hi, i64z (by omega)]
    refine Ev.bind (inner i hi) ?_
    cases leI (cmpS (lastV (rd s.mEntries (i : Int)).mChain).mAt t) 0
    · exact Ev.of fun _ => rfl
    · exact hv
  · have : upR s t = allFrom (fun i => leI (cmpS (lastV (rd s.mEntries (i : Int)).mChain).mAt t) 0) s.mEntries.length 0 := by
      unfold upR
      rw [Bool.eq_iff_iff, List.all_eq_true, allFrom_iff]
      constructor
      · intro hh j _ hj; exact hh _ (rd_mem (by omega))
      · intro hh e he
        obtain ⟨j, hj, rfl⟩ := List.mem_iff_getElem.1 he
        have := hh j (by omega) (by omega)
        rwa [rd_nat _ _ hj] at this
    rw [this]
    cases allFrom (fun i => leI (cmpS (lastV (rd s.mEntries (i : Int)).mChain).mAt t) 0) s.mEntries.length 0 <;> exact Ev.of fun _ => rfl
end Go.Proofs.Gd
set_option linter.unusedVariables false
set_option linter.unusedSimpArgs false
namespace Go.Proofs.Gd
open Go Go.Awp
def cQ (c : Cell) (i : Nat) : Bool := shR (rd c.mShards (i : Int)) && upR (rd c.mShards (i : Int)) c.mTop && (decide (i = 0) || ltI (rd c.mShards ((i : Int) - 1)).mID (rd c.mShards (i : Int)).mID)
def cR (c : Cell) : Bool := leI (c.mShards.length : Int) 8 && stR c.mTop && noB c.mDropped && allFrom (cQ c) c.mShards.length 0
def pcS (l : List Shard) (i : Int) : Int := bif leI i 0 then 0 else (rd l (i - 1)).mID
theorem shR_ix {s : Shard} (h : shR s = true) : ixR s.mEntries = true := by
  unfold shR at h
  simp only [Bool.and_eq_true] at h
  exact h.1.1.1.1.2
theorem shR_id {s : Shard} (h : shR s = true) : 1 ≤ s.mID ∧ s.mID ≤ 1099511627776 := by
  unfold shR oneB at h
  simp only [Bool.and_eq_true, leI_iff] at h
  exact h.1.1.1.1.1.1.1.1.1.1.1.1.1
theorem ixR_ne {l : List Entry} (h : ixR l = true) : ∀ e ∈ l, e.mChain ≠ [] := fun e he hn => by
  obtain ⟨j, hj, rfl⟩ := List.mem_iff_getElem.1 he
  unfold ixR at h
  rw [Bool.and_eq_true, allFrom_iff] at h
  have := h.2 j (by omega) (by omega)
  unfold ixQ at this
  rw [rd_nat _ _ hj, hn] at this
  simp [eqI] at this
theorem V25 (c : Cell) (h : SmC c) : Ev (fun k => F25 k c) (cR c) := by
  have hs := h.shards
  have start : ∀ k, F25_l1 c k (0, 0) = F25_l1 c k (pcS c.mShards 0, 0) := fun _ => rfl
  refine Ev.bind ((all_ev (f := fun k i => F25_l1 c k (pcS c.mShards i, i)) (q := cQ c) (n := c.mShards.length) (r := false) ?_ fun i hi v hv => ?_).congr start) ?_
  · refine Ev.from 1 fun k => ?_
    show F25_l1 c (k + 1) (pcS c.mShards _, _) = _
    rw [F25_l1, ltI_nat, decide_eq_false (Nat.lt_irrefl _)]; rfl
  · refine Ev.succ (fun k => by rw [F25_l1]) ?_
    have hp : pcS c.mShards ((i + 1 : Nat) : Int) = (rd c.mShards (i : Int)).mID := by
      unfold pcS
      rw [leI_false.2 (by omega), show ((i + 1 : Nat) : Int) - 1 = (i : Int) by omega]; rfl
    simp only [hp] at hv
    rw [ltI_nat, decide_eq_true hi, inR_mk hi, i64z (n := (i : Int) + 1) (by omega)]
    have hi' := h.each _ (rd_mem hi)
    generalize hsx : rd c.mShards (i : Int) = s at *
    have hq : cQ c i = (!leI s.mID (pcS c.mShards (i : Int)) && shR s && upR s c.mTop) := by
      unfold cQ pcS
      rw [hsx]
      by_cases h0 : i = 0
      · subst h0
        show _ = (!leI s.mID 0 && _ && _)
        cases hone : shR s
        · simp
        · have : leI s.mID 0 = false := by rw [leI_false]; have := (shR_id hone).1; omega
          rw [this]; simp
      · rw [decide_eq_false h0, (leI_false.2 (by omega) : leI (i : Int) 0 = false)]
        have : (!leI s.mID (rd c.mShards ((i : Int) - 1)).mID) = ltI (rd c.mShards ((i : Int) - 1)).mID s.mID := by
          rw [Bool.eq_iff_iff, Bool.not_eq_true', leI_false, ltI_iff]
        simp only [cond_false, Bool.false_or, this]
        generalize ltI (rd c.mShards ((i : Int) - 1)).mID s.mID = a; generalize shR s = b; generalize upR s c.mTop = d
        revert a b d; decide
    rw [hq]
    refine Ev.bind (optv fun _ => V20 _ hi') ?_
    cases leI s.mID (pcS c.mShards (i : Int)) <;> simp only [Bool.not_true, Bool.not_false, Bool.true_and, Bool.false_and, Bool.true_or, Bool.false_or, cond_true, cond_false, Bool.and_true, Bool.and_false, Bool.or_true, Bool.or_false]
    · cases hsr : shR s <;> simp only [Bool.not_true, Bool.not_false, Bool.true_and, Bool.false_and, Bool.true_or, Bool.false_or, cond_true, cond_false, Bool.and_true, Bool.and_false, Bool.or_true, Bool.or_false]
      · exact Ev.of fun _ => rfl
      · refine Ev.bind (V90 _ _ hi' (ixR_ne (shR_ix hsr))) ?_
        cases upR s c.mTop
        · exact Ev.of fun _ => rfl
        · exact hv
    · exact Ev.of fun _ => rfl
  · unfold cR
    cases hall : allFrom (cQ c) c.mShards.length 0
    · exact Ev.of fun _ => by simp [LR.go]
    · show Ev (fun k => (bif (leI (c.mShards.length : Int) 8) then F36 k c.mTop else some default).bind fun t39 => (bif ((leI (c.mShards.length : Int) 8) && t39) then F57 k 0 [c.mDropped] else some default).bind fun t45 => some (((leI (c.mShards.length : Int) 8) && t39) && t45)) _
      refine Ev.bind (optv fun _ => T36 _) (Ev.bind (optv fun _ => V57_0 _ (by simp)) (Ev.of fun _ => ?_))
      congr 1
      simp only [List.all_cons, List.all_nil, Bool.and_true]
      cases leI (c.mShards.length : Int) 8 <;> cases stR c.mTop <;> simp
theorem V22 (c : Cell) (h : SmC2 c) : Ev (fun k => F22 k c) (cR c) := by
  have hs := h.shards
  have hl : ltI 8 (c.mShards.length : Int) = !leI (c.mShards.length : Int) 8 := by rw [Bool.eq_iff_iff, Bool.not_eq_true', ltI_iff, leI_false]
  unfold F22
  rw [hl]
  refine Ev.bind (optv fun _ => T68 _) (Ev.bind (optv fun _ => V67 _) ?_)
  unfold cR
  have loop : Ev (fun k => (F22_l1 c k 0).bind fun t => t.go fun _ => some true) (allFrom (cQ c) c.mShards.length 0) := by
    refine Ev.bind (all_ev (q := cQ c) (n := c.mShards.length) (r := false) ?_ fun i hi v hv => ?_) ?_
    · refine Ev.from 1 fun k => ?_
      show F22_l1 c (k + 1) _ = _
      rw [F22_l1, ltI_nat, decide_eq_false (Nat.lt_irrefl _)]; rfl
    · refine Ev.succ (fun k => by rw [F22_l1]) ?_
      rw [ltI_nat, decide_eq_true hi, inR_mk hi, i64z (n := (i : Int) - 1) (by omega), i64z (n := (i : Int) + 1) (by omega), i0]
      simp only [Bool.or_true, cond_true]
      unfold cQ
      have hi' := h.each _ (rd_mem hi)
      refine Ev.bind (V21 _ hi') ?_
      cases hsr : shR (rd c.mShards (i : Int)) <;> simp only [Bool.not_true, Bool.not_false, Bool.true_and, Bool.false_and, Bool.true_or, Bool.false_or, cond_true, cond_false, Bool.and_true, Bool.and_false, Bool.or_true, Bool.or_false]
      · exact Ev.of fun _ => rfl
      · refine Ev.bind (V89 _ _ hi'.toSmS (shR_ix hsr)) ?_
        cases upR (rd c.mShards (i : Int)) c.mTop <;> simp only [Bool.not_true, Bool.not_false, Bool.true_and, Bool.false_and, Bool.true_or, Bool.false_or, cond_true, cond_false, Bool.and_true, Bool.and_false, Bool.or_true, Bool.or_false]
        · exact Ev.of fun _ => rfl
        · refine Ev.guard ?_ ?_
          · rw [Bool.or_eq_true, inR_iff, Bool.not_not, decide_eq_true_eq]
            by_cases h0 : i = 0
            · exact .inl h0
            · right; omega
          · cases decide (i = 0) <;> simp only [Bool.not_true, Bool.not_false, Bool.true_and, Bool.false_and, cond_true, cond_false, Bool.true_or, Bool.false_or, if_true]
            · have : leI (rd c.mShards (i : Int)).mID (rd c.mShards ((i : Int) - 1)).mID = !ltI (rd c.mShards ((i : Int) - 1)).mID (rd c.mShards (i : Int)).mID := by
                rw [Bool.eq_iff_iff, Bool.not_eq_true', ltI_false, leI_iff]
              rw [this]
              cases ltI (rd c.mShards ((i : Int) - 1)).mID (rd c.mShards (i : Int)).mID
              · exact Ev.of fun _ => rfl
              · exact hv
            · exact hv
    · cases allFrom (cQ c) c.mShards.length 0 <;> exact Ev.of fun _ => rfl
  generalize allFrom (cQ c) c.mShards.length 0 = z at loop ⊢
  generalize leI (c.mShards.length : Int) 8 = a; generalize stR c.mTop = b; generalize noB c.mDropped = d
  refine Ev.cond (fun hc => Ev.of fun _ => ?_) fun hc => Ev.congr' loop ?_
  · congr 1
    clear loop
    revert hc; revert a b d z; decide
  · clear loop
    revert hc; revert a b d z; decide
def zSh : Shard := ⟨0, 0, (⟨(⟨#[]⟩ : ByteArray), (⟨#[]⟩ : ByteArray)⟩ : Span), 0, ([] : List Entry), (⟨0, 0, 0⟩ : Stamp), (⟨0, 0, 0⟩ : Stamp), ([] : List Done), 0, 0, 0, 0⟩
def getL : List Shard → Int → Shard
  | [], _ => zSh
  | s :: l, id => bif eqI s.mID id then s else getL l id
def getS (c : Cell) (id : Int) : Shard := getL c.mShards id
theorem V24 (c : Cell) (id : Int) (h : c.mShards.length ≤ 12) : Ev (fun k => F24 k c id) (getS c id) := by
  have : ∀ m i, i + m = c.mShards.length → Ev (fun k => (F24_l1 c id k (i : Int)).bind fun t => t.go fun _ => some zSh) (getL (c.mShards.drop i) id) := fun m => by
    induction m with
    | zero =>
      intro i hi
      refine Ev.from 1 fun k => ?_
      show Option.bind (F24_l1 c id (k + 1) _) _ = _
      rw [F24_l1, ltI_nat, decide_eq_false (by omega), List.drop_of_length_le (by omega)]; rfl
    | succ m ih =>
      intro i hi
      have hlt : i < c.mShards.length := by omega
      rw [List.drop_eq_getElem_cons hlt, getL]
      refine Ev.succ (g := fun k => (bif eqI (c.mShards[i]).mID id then some (LR.ret c.mShards[i]) else F24_l1 c id k ((i + 1 : Nat) : Int)).bind fun t => t.go fun _ => some zSh) (fun k => ?_) ?_
      · rw [F24_l1, ltI_nat, decide_eq_true hlt, inR_mk hlt, i64z (by omega), rd_nat _ _ hlt]; rfl
      · cases eqI (c.mShards[i]).mID id
        · exact ih (i + 1) (by omega)
        · exact Ev.of fun _ => rfl
  have := this c.mShards.length 0 (by omega)
  rw [List.drop_zero] at this
  exact this
theorem getL_none (id : Int) : ∀ l : List Shard, (∀ s ∈ l, s.mID ≠ id) → getL l id = zSh
  | [], _ => rfl
  | s :: l, h => by rw [getL, eqI_false.2 (h s (by simp))]; exact getL_none id l fun t ht => h t (by simp [ht])
theorem getL_at (id : Int) : ∀ (l : List Shard) (n : Nat) (hn : n < l.length), l[n].mID = id → (∀ i (hi : i < n), (l[i]'(by omega)).mID ≠ id) → getL l id = l[n]
  | s :: l, 0, hn, h, _ => by rw [getL, (eqI_iff.2 h : eqI s.mID id = true)]; rfl
  | s :: l, n + 1, hn, h, hh => by
    rw [getL, (eqI_false.2 (hh 0 (by omega)) : eqI s.mID id = false)]
    exact getL_at id l n (by simpa using hn) h fun i hi => hh (i + 1) (by omega)
/-- In a right cell the shards stand by their IDs. -/
theorem cR_ids {c : Cell} (h : cR c = true) : (∀ i, i < c.mShards.length → 1 ≤ (rd c.mShards (i : Int)).mID ∧ (rd c.mShards (i : Int)).mID ≤ 1099511627776) ∧ ∀ i j, i < j → j < c.mShards.length → (rd c.mShards (i : Int)).mID < (rd c.mShards (j : Int)).mID := by
  unfold cR at h
  rw [Bool.and_eq_true, allFrom_iff] at h
  have hq : ∀ i, i < c.mShards.length → cQ c i = true := fun i hi => h.2 i (by omega) (by omega)
  refine ⟨fun i hi => ?_, ?_⟩
  · have := hq i hi
    unfold cQ at this
    rw [Bool.and_eq_true, Bool.and_eq_true] at this
    exact shR_id this.1.1
  · intro i j hij
    induction j with
    | zero => omega
    | succ j ih =>
      intro hj
      have := hq (j + 1) hj
      unfold cQ at this
      rw [Bool.and_eq_true, decide_eq_false (by omega), Bool.false_or, ltI_iff, show ((j + 1 : Nat) : Int) - 1 = (j : Int) by omega] at this
      by_cases e : i = j
      · subst e; exact this.2
      · exact Int.lt_trans (ih (by omega) (by omega)) this.2
/-- Where a shard stands, or is to stand. -/
theorem V123 (c : Cell) (id : Int) (h : cR c = true) (hl : c.mShards.length ≤ 12) (h1 : 1 ≤ id) (h2 : id ≤ 1099511627776) : EvP (fun k => F123 k c id) (fun r => ∃ n : Nat, r.1 = (n : Int) ∧ n ≤ c.mShards.length ∧ (∀ i, i < n → (rd c.mShards (i : Int)).mID < id) ∧ (∀ i, n ≤ i → i < c.mShards.length → id ≤ (rd c.mShards (i : Int)).mID) ∧ r.2 = (decide (n < c.mShards.length) && eqI (rd c.mShards (n : Int)).mID id)) := by
  obtain ⟨g1, g2⟩ := cR_ids h
  have hw : ∀ i, i < c.mShards.length → IntKind.wrap .i64 ((rd c.mShards (i : Int)).mID - id) = (rd c.mShards (i : Int)).mID - id := fun i hi => i64z (by have := g1 i hi; omega)
  have hb := bin_ev (l := c.mShards) (f := F155_156_l1 c.mShards id) (p := fun k x => F156 k x id) (q := fun x => IntKind.wrap .i64 (x.mID - id)) (by omega) (fun _ _ _ => rfl) (fun x _ => Ev.of fun _ => rfl) (fun i j hij hj hh => by
    have hh : IntKind.wrap .i64 ((rd c.mShards (j : Int)).mID - id) < 0 := hh
    show IntKind.wrap .i64 ((rd c.mShards (i : Int)).mID - id) < 0
    rw [hw j hj] at hh
    rw [hw i (by omega)]
    have := g2 i j hij hj
    omega)
  refine EvP.bind (EvP.bind (hb.mono fun r hr => ?_))
  obtain ⟨n, rfl, hn, q1, q2⟩ := hr
  refine EvP.guard ?_ ?_
  · rw [Bool.or_eq_true, Bool.not_eq_true', ltI_false, inR_iff]; omega
  · rw [ltI_nat]
    have base : (∀ i, i < n → (rd c.mShards (i : Int)).mID < id) ∧ (∀ i, n ≤ i → i < c.mShards.length → id ≤ (rd c.mShards (i : Int)).mID) := ⟨fun i hi => by
        have := q1 i hi
        rw [hw i (by omega)] at this; omega, fun i hi hi2 => by
        have := q2 i hi hi2
        rw [hw i hi2] at this; omega⟩
    by_cases hlt : n < c.mShards.length
    · rw [decide_eq_true hlt]
      refine EvP.bind (EvP.some (EvP.some (EvP.some ⟨n, rfl, hn, base.1, base.2, ?_⟩)))
      rw [decide_eq_true hlt]
      simp only [Bool.true_and]
      rw [hw n hlt, Bool.eq_iff_iff, eqI_iff, eqI_iff]; omega
    · rw [decide_eq_false hlt]
      exact EvP.bind (EvP.some (EvP.some (EvP.some ⟨n, rfl, hn, base.1, base.2, by rw [decide_eq_false hlt]; rfl⟩)))
theorem V60 (c : Cell) (id : Int) (h : cR c = true) (hl : c.mShards.length ≤ 12) (h1 : 1 ≤ id) (h2 : id ≤ 1099511627776) : Ev (fun k => F60 k c id) (getS c id) := by
  refine EvP.ev (EvP.bind ((V123 c id h hl h1 h2).mono fun r hr => ?_))
  obtain ⟨r1, r2⟩ := r
  obtain ⟨n, e, hn, q1, q2, q3⟩ := hr
  simp only at e q3
  subst e
  have hrd : ∀ i (hi : i < c.mShards.length), rd c.mShards (i : Int) = c.mShards[i] := fun i hi => rd_nat _ _ hi
  show EvP (fun k => bif r2 then _ else _) _
  cases hb : r2 with
  | true =>
    rw [hb] at q3
    have q3 := q3.symm
    rw [Bool.and_eq_true, decide_eq_true_eq, eqI_iff] at q3
    refine EvP.guard (inR_mk q3.1) (EvP.some ?_)
    unfold getS
    rw [getL_at id c.mShards n q3.1 (by rw [← hrd n q3.1]; exact q3.2) fun i hi => by
      have := q1 i hi
      rw [hrd i (by omega)] at this
      omega]
    exact hrd n q3.1
  | false =>
    rw [hb] at q3
    refine EvP.some ?_
    unfold getS
    rw [getL_none id c.mShards fun s hs => ?_]
    · rfl
    obtain ⟨i, hi, rfl⟩ := List.mem_iff_getElem.1 hs
    rw [← hrd i hi]
    intro he
    have q3 := q3.symm
    rw [Bool.and_eq_false_iff, decide_eq_false_iff_not, eqI_false] at q3
    by_cases h3 : i < n
    · have := q1 i h3; omega
    · have h4 := q2 n (Nat.le_refl _) (by omega)
      by_cases h5 : i = n
      · subst h5
        rcases q3 with q3 | q3
        · exact q3 hi
        · exact q3 he
      · have := (cR_ids h).2 n i (by omega) hi
        omega
theorem getL_mem (id : Int) : ∀ l : List Shard, getL l id ∈ l ∨ getL l id = zSh
  | [] => .inr rfl
  | s :: l => by
    rw [getL]
    cases eqI s.mID id with
    | true => exact .inl (by simp)
    | false =>
      rcases getL_mem id l with h | h
      · exact .inl (by simp [h])
      · exact .inr h
end Go.Proofs.Gd
set_option linter.unusedVariables false
set_option linter.unusedSimpArgs false
namespace Go.Proofs.Gd
open Go Go.Awp
def putL : List Shard → Shard → List Shard
  | [], s => [s]
  | x :: l, s => bif ltI x.mID s.mID then x :: putL l s else bif eqI x.mID s.mID then s :: l else s :: x :: l
def dropL (l : List Shard) (id : Int) : List Shard := l.filter fun x => !eqI x.mID id
def putC (c : Cell) (s : Shard) : Cell := { c with mShards := putL c.mShards s }
theorem putL_set (s : Shard) : ∀ (l : List Shard) (n : Nat) (hn : n < l.length), (∀ i (hi : i < n), (l[i]'(by omega)).mID < s.mID) → l[n].mID = s.mID → putL l s = l.set n s
  | x :: l, 0, _, _, h => by
    have h : x.mID = s.mID := h
    rw [putL, ltI_false.2 (by omega), eqI_iff.2 h]; rfl
  | x :: l, n + 1, hn, hh, h => by
    have h0 : x.mID < s.mID := hh 0 (by omega)
    rw [putL, ltI_iff.2 h0, putL_set s l n (by simpa using hn) (fun i hi => hh (i + 1) (by omega)) h]; rfl
theorem putL_ins (s : Shard) : ∀ (l : List Shard) (n : Nat) (hn : n ≤ l.length), (∀ i (hi : i < n), (l[i]'(by omega)).mID < s.mID) → (∀ h : n < l.length, s.mID < l[n].mID) → putL l s = l.take n ++ [s] ++ l.drop n
  | [], 0, _, _, _ => rfl
  | [], n + 1, hn, _, _ => by simp at hn
  | x :: l, 0, _, _, h => by
    have h : s.mID < x.mID := h (by simp)
    rw [putL, ltI_false.2 (by omega), eqI_false.2 (by omega)]; rfl
  | x :: l, n + 1, hn, hh, h => by
    have h0 : x.mID < s.mID := hh 0 (by omega)
    rw [putL, ltI_iff.2 h0, putL_ins s l n (by simpa using hn) (fun i hi => hh (i + 1) (by omega)) fun h2 => h (by simpa using h2)]; rfl
/-- engine.with. -/
theorem V95 (c : Cell) (s : Shard) (h : cR c = true) (hl : c.mShards.length ≤ 12) (h1 : 1 ≤ s.mID) (h2 : s.mID ≤ 1099511627776) : Ev (fun k => F95 k c s) (putC c s) := by
  refine EvP.ev (EvP.bind ((V123 c s.mID h hl h1 h2).mono fun r hr => ?_))
  obtain ⟨r1, r2⟩ := r
  obtain ⟨n, e, hn, q1, q2, q3⟩ := hr
  simp only at e q3
  subst e
  have hrd : ∀ i (hi : i < c.mShards.length), rd c.mShards (i : Int) = c.mShards[i] := fun i hi => rd_nat _ _ hi
  have hcl : Ev (fun k => F98o k c.mShards) c.mShards := Ev.of fun k => by
    unfold F98o
    rw [appOK_mk (by simp; omega) (by simp; omega)]; rfl
  refine EvP.bind (hcl.evP.mono fun t ht => ?_)
  subst ht
  show EvP (fun k => bif r2 then _ else _) _
  cases hb : r2 with
  | true =>
    rw [hb] at q3
    have q3 := q3.symm
    rw [Bool.and_eq_true, decide_eq_true_eq, eqI_iff] at q3
    refine EvP.guard (inR_mk q3.1) (EvP.some ?_)
    unfold putC
    rw [putL_set s c.mShards n q3.1 (fun i hi => by rw [← hrd i (by omega)]; exact q1 i hi) (by rw [← hrd n q3.1]; exact q3.2), Int.toNat_natCast]
  | false =>
    rw [hb] at q3
    have q3 := q3.symm
    rw [Bool.and_eq_false_iff, decide_eq_false_iff_not, eqI_false] at q3
    refine EvP.guard ?_ (EvP.some ?_)
    · exact decide_eq_true ⟨by omega, by omega, by omega, by omega⟩
    · unfold putC
      rw [putL_ins s c.mShards n hn (fun i hi => by rw [← hrd i (by omega)]; exact q1 i hi) (fun h3 => by
        have := q2 n (Nat.le_refl _) h3
        rw [hrd n h3] at this q3
        rcases q3 with q3 | q3
        · exact absurd h3 q3
        · omega), Int.toNat_natCast]
/-- What the document's Put makes of what is left. -/
def restP (s : Shard) : Bool → List Shard → List Shard
  | _, [] => []
  | true, x :: l => (bif !eqI x.mID s.mID then [x] else []) ++ restP s true l
  | false, x :: l => bif leI s.mID x.mID then s :: ((bif !eqI x.mID s.mID then [x] else []) ++ restP s true l) else x :: restP s false l
def didP (s : Shard) : Bool → List Shard → Bool
  | b, [] => b
  | b, x :: l => didP s (b || leI s.mID x.mID) l
theorem V79_l1 (c : Cell) (s : Shard) (hl : c.mShards.length ≤ 12) : ∀ (m i : Nat) (t : List Shard) (b : Bool), i + m = c.mShards.length → t.length ≤ 2 * i → Ev (fun k => F79_l1 c s k (t, b, (i : Int))) (t ++ restP s b (c.mShards.drop i), didP s b (c.mShards.drop i))
  | 0, i, t, b, hi, _ => by
    refine Ev.from 1 fun k => ?_
    show F79_l1 c s (k + 1) _ = _
    rw [F79_l1, ltI_nat, decide_eq_false (by omega), List.drop_of_length_le (by omega)]
    cases b <;> simp [restP, didP]
  | m + 1, i, t, b, hi, ht => by
    have hlt : i < c.mShards.length := by omega
    have ap : ∀ (l : List Shard) (x : Shard), l.length ≤ 100 → appOK 184 l.length [x].length = true := fun l x h => appOK_mk (by rw [List.length_singleton]; omega) (by rw [List.length_singleton]; omega)
    refine Ev.succ (fun k => by rw [F79_l1]) ?_
    rw [ltI_nat, decide_eq_true hlt, inR_mk hlt, i64z (by omega), rd_nat _ _ hlt, List.drop_eq_getElem_cons hlt]
    simp only [Bool.or_true, cond_true]
    generalize hx : c.mShards[i] = x
    cases b with
    | true =>
      simp only [Bool.not_true, Bool.false_and, cond_false]
      refine Ev.bind (Ev.of fun _ => rfl) ?_
      show Ev (fun k => bif !eqI x.mID s.mID then (bif appOK 184 t.length [x].length then F79_l1 c s k (t ++ [x], true, ((i : Int) + 1)) else none) else F79_l1 c s k (t, true, ((i : Int) + 1))) _
      rw [ap t x (by omega), restP, didP, Bool.true_or]
      cases eqI x.mID s.mID with
      | true => exact V79_l1 c s hl m (i + 1) t true (by omega) (by omega)
      | false =>
        have := V79_l1 c s hl m (i + 1) (t ++ [x]) true (by omega) (by rw [List.length_append, List.length_singleton]; omega)
        rw [List.append_assoc] at this
        exact this
    | false =>
      simp only [Bool.not_false, Bool.true_and]
      rw [restP, didP, Bool.false_or]
      cases hle : leI s.mID x.mID with
      | true =>
        simp only [cond_true]
        rw [ap t s (by omega)]
        refine Ev.bind (Ev.of fun _ => rfl) ?_
        show Ev (fun k => bif !eqI x.mID s.mID then (bif appOK 184 (t ++ [s]).length [x].length then F79_l1 c s k ((t ++ [s]) ++ [x], true, ((i : Int) + 1)) else none) else F79_l1 c s k (t ++ [s], true, ((i : Int) + 1))) _
        rw [ap (t ++ [s]) x (by rw [List.length_append, List.length_singleton]; omega)]
        cases eqI x.mID s.mID with
        | true =>
          have := V79_l1 c s hl m (i + 1) (t ++ [s]) true (by omega) (by rw [List.length_append, List.length_singleton]; omega)
          rw [List.append_assoc] at this
          exact this
        | false =>
          have := V79_l1 c s hl m (i + 1) ((t ++ [s]) ++ [x]) true (by omega) (by rw [List.length_append, List.length_append, List.length_singleton, List.length_singleton]; omega)
          have e : ((t ++ [s]) ++ [x]) ++ restP s true (List.drop (i + 1) c.mShards) = t ++ s :: ([x] ++ restP s true (List.drop (i + 1) c.mShards)) := by simp
          rw [e] at this
          exact this
      | false =>
        simp only [cond_false]
        refine Ev.bind (Ev.of fun _ => rfl) ?_
        show Ev (fun k => bif !eqI x.mID s.mID then (bif appOK 184 t.length [x].length then F79_l1 c s k (t ++ [x], false, ((i : Int) + 1)) else none) else F79_l1 c s k (t, false, ((i : Int) + 1))) _
        have hne : eqI x.mID s.mID = false := by rw [leI_false] at hle; rw [eqI_false]; omega
        rw [ap t x (by omega), hne]
        have := V79_l1 c s hl m (i + 1) (t ++ [x]) false (by omega) (by rw [List.length_append, List.length_singleton]; omega)
        rw [List.append_assoc] at this
        exact this
theorem restP_true (s : Shard) : ∀ l, restP s true l = dropL l s.mID
  | [] => rfl
  | x :: l => by
    rw [restP, restP_true s l]
    show _ ++ List.filter (fun x => !eqI x.mID s.mID) l = List.filter (fun x => !eqI x.mID s.mID) (x :: l)
    rw [List.filter_cons]
    cases eqI x.mID s.mID <;> rfl
theorem didP_true (s : Shard) : ∀ l, didP s true l = true
  | [] => rfl
  | x :: l => by rw [didP, Bool.true_or]; exact didP_true s l
def SortedL (l : List Shard) : Prop := ∀ i j (hj : j < l.length) (hi : i < j), (l[i]'(by omega)).mID < l[j].mID
theorem SortedL.tail {x : Shard} {l : List Shard} (h : SortedL (x :: l)) : SortedL l := fun i j hj hi => h (i + 1) (j + 1) (by simpa using hj) (by omega)
theorem SortedL.head {x : Shard} {l : List Shard} (h : SortedL (x :: l)) : ∀ y ∈ l, x.mID < y.mID := fun y hy => by
  obtain ⟨j, hj, rfl⟩ := List.mem_iff_getElem.1 hy
  exact h 0 (j + 1) (by simpa using hj) (by omega)
theorem dropL_id (id : Int) : ∀ l : List Shard, (∀ y ∈ l, id < y.mID) → dropL l id = l := fun l h => by
  unfold dropL
  rw [List.filter_eq_self]
  intro y hy
  rw [Bool.not_eq_true', eqI_false]
  have := h y hy; omega
theorem put_rest (s : Shard) : ∀ l, SortedL l → (bif didP s false l then restP s false l else restP s false l ++ [s]) = putL l s
  | [], _ => rfl
  | x :: l, h => by
    rw [didP, restP, putL, Bool.false_or]
    cases hle : leI s.mID x.mID with
    | true =>
      rw [leI_iff] at hle
      rw [didP_true, restP_true, dropL_id s.mID l fun y hy => by have := h.head y hy; omega, ltI_false.2 hle]
      cases eqI x.mID s.mID <;> rfl
    | false =>
      rw [leI_false] at hle
      rw [ltI_iff.2 hle, ← put_rest s l h.tail]
      cases didP s false l <;> rfl
theorem cR_sorted {c : Cell} (h : cR c = true) : SortedL c.mShards := fun i j hj hi => by
  have := (cR_ids h).2 i j hi hj
  rwa [rd_nat _ _ hj, rd_nat _ _ (by omega : i < c.mShards.length)] at this
/-- The document's Put. -/
theorem V79 (c : Cell) (s : Shard) (h : cR c = true) (hl : c.mShards.length ≤ 12) : Ev (fun k => F79 k c s false) (putC c s) := by
  have h1 := V79_l1 c s hl c.mShards.length 0 [] false (by omega) (by simp)
  rw [List.drop_zero, List.nil_append] at h1
  refine Ev.bind h1 ?_
  have h2 := put_rest s c.mShards (cR_sorted h)
  unfold putC
  rw [← h2]
  have hlen : (restP s false c.mShards).length ≤ 30 := by
    have : ∀ (b : Bool) (l : List Shard), (restP s b l).length ≤ l.length + 1 + (bif b then 0 else 1) := fun b l => by
      induction l generalizing b with
      | nil => cases b <;> simp [restP]
      | cons x l ih =>
        have i1 := ih true
        have i2 := ih false
        simp only [cond_true, cond_false] at i1 i2
        cases b
        · rw [restP]
          cases leI s.mID x.mID
          · simp only [cond_false, List.length_cons]; omega
          · cases eqI x.mID s.mID <;> simp <;> omega
        · rw [restP]
          cases eqI x.mID s.mID <;> simp <;> omega
    have := this false c.mShards
    simp only [cond_false] at this
    omega
  show Ev (fun k => bif !didP s false c.mShards then (bif appOK 184 (restP s false c.mShards).length [s].length then some { c with mShards := restP s false c.mShards ++ [s] } else none) else some { c with mShards := restP s false c.mShards }) _
  rw [appOK_mk (by rw [List.length_singleton]; omega) (by rw [List.length_singleton]; omega)]
  cases didP s false c.mShards <;> exact Ev.of fun _ => rfl
theorem getS_id {c : Cell} (h : cR c = true) (id : Int) (h0 : (getS c id).mID ≠ 0) : 1 ≤ (getS c id).mID ∧ (getS c id).mID ≤ 1099511627776 := by
  rcases getL_mem id c.mShards with h1 | h1
  · obtain ⟨i, hi, hx⟩ := List.mem_iff_getElem.1 h1
    have := (cR_ids h).1 i hi
    rw [rd_nat _ _ hi, hx] at this
    exact this
  · exact absurd (by unfold getS; rw [h1]; rfl) h0
end Go.Proofs.Gd
set_option linter.unusedVariables false
set_option linter.unusedSimpArgs false
namespace Go.Proofs.Gd
open Go Go.Awp
theorem E18 (c : Cell) (h : SmC c) : Ev (fun k => F18 k c c) true := by
  have hs := h.shards
  refine Ev.cond (fun hc => by rw [eqI_self, eqI_self, qStamp_self] at hc; cases hc) fun _ => loop_out (n := c.mShards.length) ?_ (fun i hi ih => ?_) (Ev.of fun _ => rfl)
  · refine Ev.from 1 fun k => ?_
    show F18_l1 c c (k + 1) _ = _
    rw [F18_l1, ltI_nat, decide_eq_false (Nat.lt_irrefl _)]; rfl
  · refine Ev.succ (fun k => by rw [F18_l1]) ?_
    rw [ltI_nat, decide_eq_true hi, inR_mk hi, i64z (by omega), rd_nat _ _ hi]
    exact Ev.bind (E26 _ (h.each _ (List.getElem_mem hi))) ih
end Go.Proofs.Gd
set_option linter.unusedVariables false
set_option linter.unusedSimpArgs false
namespace Go.Proofs.Gd
open Go Go.Awp
theorem V97 (s t : Stamp) : Ev (fun k => F97 k s t) (laterS s t) := by
  refine Ev.bind (bef_eq s t) ?_
  unfold laterS
  cases ltI (cmpS s t) 0 <;> exact Ev.of fun _ => rfl
end Go.Proofs.Gd
set_option linter.unusedVariables false
set_option linter.unusedSimpArgs false
namespace Go.Proofs.Gd
open Go Go.Awp
theorem befS_trans {a b c : Stamp} (h : befS a b) (h' : befS b c) : befS a c := by unfold befS at *; omega
theorem befS_irr (a : Stamp) : ¬ befS a a := by unfold befS; omega
theorem ltB (s t : Stamp) : ltI (cmpS s t) 0 = true ↔ befS s t := by rw [ltI_iff]; exact cmpS_lt s t
theorem leB (s t : Stamp) : leI (cmpS s t) 0 = true ↔ ¬ befS t s := by rw [leI_iff]; exact cmpS_le s t
theorem laterS_ge (s t : Stamp) : ¬ befS (laterS s t) s ∧ ¬ befS (laterS s t) t := by
  unfold laterS
  cases h : ltI (cmpS s t) 0 with
  | true => rw [ltB] at h; simp only [cond_true]; unfold befS at *; omega
  | false =>
    have : ¬ befS s t := by rw [← ltB, h]; simp
    exact ⟨befS_irr s, this⟩
theorem laterS_or (s t : Stamp) : laterS s t = s ∨ laterS s t = t := by
  unfold laterS
  cases ltI (cmpS s t) 0 <;> simp
theorem chR_iff (l : List Version) : chR l = true ↔ l.length ≤ 64 ∧ (∀ v ∈ l, vR v = true) ∧ l.Pairwise (fun a b => befS a.mAt b.mAt) := by
  have h := allFrom_pair (P := vR) (Q := fun a b => ltI (cmpS a.mAt b.mAt) 0) (fun a b c h1 h2 => by
    rw [ltB] at *; exact befS_trans h1 h2) l
  simp only [ltB] at h
  rw [← h]
  unfold chR
  rw [Bool.and_eq_true, leI_iff, show ((l.length : Int) ≤ 64) = (l.length ≤ 64) by apply propext; omega]
  rfl
theorem cmpK_trans {a b c : ByteArray} (h : cmpK a b < 0) (h' : cmpK b c < 0) : cmpK a c < 0 := cmpL_trans _ _ _ h (by unfold cmpK at h'; omega)
theorem ixR_iff (l : List Entry) : ixR l = true ↔ l.length ≤ 64 ∧ (∀ e ∈ l, keyR e.mKey = true ∧ chR e.mChain = true ∧ e.mChain ≠ []) ∧ l.Pairwise (fun a b => cmpK a.mKey b.mKey < 0) := by
  have h := allFrom_pair (P := fun e : Entry => keyR e.mKey && chR e.mChain && !eqI (e.mChain.length : Int) 0) (Q := fun a b => ltI (cmpK a.mKey b.mKey) 0) (fun a b c h1 h2 => by
    rw [ltI_iff] at *; exact cmpK_trans h1 h2) l
  simp only [ltI_iff] at h
  have e : ∀ e : Entry, ((keyR e.mKey && chR e.mChain && !eqI (e.mChain.length : Int) 0) = true) = (keyR e.mKey = true ∧ chR e.mChain = true ∧ e.mChain ≠ []) := fun e => by
    apply propext
    rw [Bool.and_eq_true, Bool.and_eq_true, Bool.not_eq_true', eqI_false, and_assoc]
    have : ((e.mChain.length : Int) ≠ 0) ↔ e.mChain ≠ [] := by
      rw [← List.length_pos_iff]; omega
    rw [this]
  simp only [e] at h
  rw [← h]
  unfold ixR
  rw [Bool.and_eq_true, leI_iff, show ((l.length : Int) ≤ 64) = (l.length ≤ 64) by apply propext; omega]
  rfl
theorem dnR_iff (l : List Done) : dnR l = true ↔ l.length ≤ 8 ∧ (∀ d ∈ l, oneB d.mClient = true ∧ oneB d.mReq = true ∧ aR d.mAnswer = true) ∧ l.Pairwise (fun a b => a.mClient < b.mClient) := by
  have h := allFrom_pair (P := fun d : Done => oneB d.mClient && oneB d.mReq && aR d.mAnswer) (Q := fun a b => ltI a.mClient b.mClient) (fun a b c h1 h2 => by
    rw [ltI_iff] at *; omega) l
  simp only [ltI_iff, Bool.and_eq_true, and_assoc] at h
  rw [← h]
  unfold dnR
  rw [Bool.and_eq_true, leI_iff, show ((l.length : Int) ≤ 8) = (l.length ≤ 8) by apply propext; omega]
  have : dnQ l = fun i : Nat => (oneB (rd l (i : Int)).mClient && oneB (rd l (i : Int)).mReq && aR (rd l (i : Int)).mAnswer) && (decide (i = 0) || ltI (rd l ((i : Int) - 1)).mClient (rd l (i : Int)).mClient) := rfl
  rw [this]
theorem cR_iff (c : Cell) : cR c = true ↔ c.mShards.length ≤ 8 ∧ stR c.mTop = true ∧ noB c.mDropped = true ∧ (∀ s ∈ c.mShards, shR s = true ∧ upR s c.mTop = true) ∧ c.mShards.Pairwise (fun a b => a.mID < b.mID) := by
  have h := allFrom_pair (P := fun s : Shard => shR s && upR s c.mTop) (Q := fun a b => ltI a.mID b.mID) (fun a b c h1 h2 => by
    rw [ltI_iff] at *; omega) c.mShards
  simp only [ltI_iff, Bool.and_eq_true] at h
  rw [← h]
  unfold cR
  rw [Bool.and_eq_true, Bool.and_eq_true, Bool.and_eq_true, leI_iff, and_assoc, and_assoc, show ((c.mShards.length : Int) ≤ 8) = (c.mShards.length ≤ 8) by apply propext; omega]
  have : cQ c = fun i : Nat => (shR (rd c.mShards (i : Int)) && upR (rd c.mShards (i : Int)) c.mTop) && (decide (i = 0) || ltI (rd c.mShards ((i : Int) - 1)).mID (rd c.mShards (i : Int)).mID) := rfl
  rw [this]
/-- What is asked of a shard alone. -/
def shH (s : Shard) : Bool := oneB s.mID && oneB s.mEpoch && noB s.mHold && noB s.mSeen && noB s.mMove && noB s.mClosed && !ltI s.mPhase 1 && !ltI 3 s.mPhase
theorem shR_iff (s : Shard) : shR s = true ↔ shH s = true ∧ spR s.mSpan = true ∧ ixR s.mEntries = true ∧ stR s.mMark = true ∧ stR s.mTop = true ∧ dnR s.mDone = true ∧ ∀ e ∈ s.mEntries, hasR s.mSpan e.mKey = true := by
  unfold shR
  rw [← List.all_eq_true, Bool.and_eq_true, Bool.and_eq_true, Bool.and_eq_true, Bool.and_eq_true, Bool.and_eq_true, Bool.and_eq_true]
  simp only [and_assoc]
  rfl
theorem aR_items {a : Answer} (h : aR a = true) : a.mItems = [] := by
  unfold aR at h
  simp only [Bool.and_eq_true, eqI_iff] at h
  exact List.length_eq_zero_iff.1 (by omega)
theorem keyR_size {x : ByteArray} (h : keyR x = true) : 1 ≤ x.size ∧ x.size ≤ 16 := by
  unfold keyR at h
  rw [Bool.and_eq_true, decide_eq_true_eq] at h
  exact h.2
theorem shR_sm {s : Shard} (h : shR s = true) : SmS2 s := by
  rw [shR_iff] at h
  obtain ⟨_, h1, h2, _, _, h3, _⟩ := h
  rw [ixR_iff] at h2
  rw [dnR_iff] at h3
  have sp : s.mSpan.mLo.size ≤ 16 ∧ s.mSpan.mHi.size ≤ 16 := by
    unfold spR at h1
    rw [Bool.and_eq_true, Bool.or_eq_true, Bool.or_eq_true, Bool.and_eq_true, strEq_nil, strEq_nil, decide_eq_true_eq, decide_eq_true_eq] at h1
    constructor
    · rcases h1.1 with h | h
      · omega
      · exact (keyR_size h).2
    · rcases h1.2 with h | h
      · omega
      · exact (keyR_size h.1).2
  exact { entries := by omega
          chains := fun e he => by have := ((chR_iff _).1 (h2.2.1 e he).2.1).1; omega
          done := by omega
          items := fun d hd => by rw [aR_items (h3.2.1 d hd).2.2]; simp
          keys := fun e he => by have := (keyR_size (h2.2.1 e he).1).2; omega
          lo := by omega
          hi := by omega }
theorem cR_sm {c : Cell} (h : cR c = true) : SmC2 c := by
  rw [cR_iff] at h
  exact ⟨by omega, fun s hs => shR_sm (h.2.2.2.1 s hs).1⟩
end Go.Proofs.Gd
set_option linter.unusedVariables false
set_option linter.unusedSimpArgs false
namespace Go.Proofs.Gd
open Go Go.Awp
abbrev SortI (l : List Shard) : Prop := l.Pairwise (fun a b => a.mID < b.mID)
theorem putL_mem' {s : Shard} : ∀ {l : List Shard}, SortI l → ∀ y, y ∈ putL l s ↔ y = s ∨ (y ∈ l ∧ y.mID ≠ s.mID)
  | [], _, y => by simp [putL]
  | x :: l, h, y => by
    have h := List.pairwise_cons.1 h
    have ih := putL_mem' (s := s) h.2 y
    rw [putL]
    cases h1 : ltI x.mID s.mID with
    | true =>
      rw [ltI_iff] at h1
      rw [cond_true, List.mem_cons, ih, List.mem_cons]
      constructor
      · rintro (rfl | rfl | h2)
        · exact .inr ⟨.inl rfl, by omega⟩
        · exact .inl rfl
        · exact .inr ⟨.inr h2.1, h2.2⟩
      · rintro (rfl | ⟨rfl | h2, h3⟩)
        · exact .inr (.inl rfl)
        · exact .inl rfl
        · exact .inr (.inr ⟨h2, h3⟩)
    | false =>
      rw [ltI_false] at h1
      rw [cond_false]
      cases h2 : eqI x.mID s.mID with
      | true =>
        rw [eqI_iff] at h2
        rw [cond_true, List.mem_cons, List.mem_cons]
        constructor
        · rintro (rfl | h3)
          · exact .inl rfl
          · have := h.1 y h3; exact .inr ⟨.inr h3, by omega⟩
        · rintro (rfl | ⟨rfl | h3, h4⟩)
          · exact .inl rfl
          · exact absurd h2 h4
          · exact .inr h3
      | false =>
        rw [eqI_false] at h2
        rw [cond_false, List.mem_cons, List.mem_cons]
        constructor
        · rintro (rfl | rfl | h3)
          · exact .inl rfl
          · exact .inr ⟨.inl rfl, h2⟩
          · have := h.1 y h3; exact .inr ⟨.inr h3, by omega⟩
        · rintro (rfl | ⟨rfl | h3, h4⟩)
          · exact .inl rfl
          · exact .inr (.inl rfl)
          · exact .inr (.inr h3)
theorem putL_sort {s : Shard} : ∀ {l : List Shard}, SortI l → SortI (putL l s)
  | [], _ => by simp [putL]
  | x :: l, h => by
    have h0 := h
    have h := List.pairwise_cons.1 h
    have ih := putL_sort (s := s) h.2
    rw [putL]
    cases h1 : ltI x.mID s.mID with
    | true =>
      rw [ltI_iff] at h1
      rw [cond_true]; unfold SortI; rw [List.pairwise_cons]
      refine ⟨fun y hy => ?_, ih⟩
      rcases (putL_mem' h.2 y).1 hy with rfl | h2
      · exact h1
      · exact h.1 y h2.1
    | false =>
      rw [ltI_false] at h1
      rw [cond_false]
      cases h2 : eqI x.mID s.mID with
      | true =>
        rw [eqI_iff] at h2
        rw [cond_true]; unfold SortI; rw [List.pairwise_cons]
        exact ⟨fun y hy => by have := h.1 y hy; omega, h.2⟩
      | false =>
        rw [eqI_false] at h2
        rw [cond_false]; unfold SortI; rw [List.pairwise_cons]
        refine ⟨fun y hy => ?_, h0⟩
        rw [List.mem_cons] at hy
        rcases hy with rfl | hy
        · omega
        · have := h.1 y hy; omega
theorem putL_le (s : Shard) : ∀ l, (putL l s).length ≤ l.length + 1
  | [] => by simp [putL]
  | x :: l => by
    have := putL_le s l
    rw [putL]
    cases ltI x.mID s.mID <;> cases eqI x.mID s.mID <;> simp <;> omega
theorem putL_len_in {s : Shard} : ∀ {l : List Shard}, SortI l → (∃ x ∈ l, x.mID = s.mID) → (putL l s).length = l.length
  | [], _, h => by obtain ⟨x, h1, _⟩ := h; cases h1
  | x :: l, h, ⟨y, hy, e⟩ => by
    have h := List.pairwise_cons.1 h
    rw [List.mem_cons] at hy
    rw [putL]
    rcases hy with rfl | hy
    · rw [ltI_false.2 (by omega), eqI_iff.2 e]; rfl
    · have := h.1 y hy
      rw [ltI_iff.2 (by omega), cond_true, List.length_cons, putL_len_in h.2 ⟨y, hy, e⟩]; rfl
theorem upR_iff (s : Shard) (t : Stamp) : upR s t = true ↔ ∀ e ∈ s.mEntries, ¬ befS t (lastV e.mChain).mAt := by
  unfold upR
  rw [List.all_eq_true]
  simp only [leB]
theorem up_mono {s : Shard} {t u : Stamp} (h : upR s t = true) (hu : ¬ befS u t) : upR s u = true := by
  rw [upR_iff] at *
  intro e he h2
  have := h e he
  unfold befS at *; omega
theorem stR_later {s t : Stamp} (h : stR s = true) (h' : stR t = true) : stR (laterS s t) = true := by
  rcases laterS_or s t with e | e <;> rw [e] <;> assumption
theorem cR_top {c : Cell} (h : cR c = true) {t : Stamp} (ht : stR t = true) (hn : ¬ befS t c.mTop) : cR { c with mTop := t } = true := by
  rw [cR_iff] at *
  exact ⟨h.1, ht, h.2.2.1, fun s hs => ⟨(h.2.2.2.1 s hs).1, up_mono (h.2.2.2.1 s hs).2 hn⟩, h.2.2.2.2⟩
theorem cR_later {c : Cell} (h : cR c = true) {t : Stamp} (ht : stR t = true) : cR { c with mTop := laterS c.mTop t } = true :=
  cR_top h (stR_later ((cR_iff c).1 h).2.1 ht) (laterS_ge _ _).1
theorem cR_put {c : Cell} (h : cR c = true) {s : Shard} (hs : shR s = true) (hu : upR s c.mTop = true) (hl : (∃ x ∈ c.mShards, x.mID = s.mID) ∨ c.mShards.length ≤ 7) : cR (putC c s) = true := by
  have h0 := h
  rw [cR_iff] at *
  have hlen := putL_le s c.mShards
  refine ⟨?_, h.2.1, h.2.2.1, fun y hy => ?_, putL_sort h.2.2.2.2⟩
  · show (putL c.mShards s).length ≤ 8
    rcases hl with hl | hl
    · rw [putL_len_in h.2.2.2.2 hl]; exact h.1
    · omega
  · rcases (putL_mem' h.2.2.2.2 y).1 hy with rfl | h3
    · exact ⟨hs, hu⟩
    · exact h.2.2.2.1 y h3.1
end Go.Proofs.Gd
set_option linter.unusedVariables false
set_option linter.unusedSimpArgs false
namespace Go.Proofs.Gd
open Go Go.Awp
theorem _root_.Go.Awp.Ev.bif {α : Type} {c : Bool} {a b : Nat → Option α} {x y : α} (h1 : c = true → Ev a x) (h2 : c = false → Ev b y) : Ev (fun k => bif c then a k else b k) (bif c then x else y) := by
  cases c with
  | true => exact h1 rfl
  | false => exact h2 rfl
theorem T57_1 (a : Int) : Ev (fun k => F57 k 1 [a]) (oneB a) := by
  have := T57 1 [a] (by simp)
  simp only [List.any_cons, List.any_nil, oneB_eq, Bool.or_false, Bool.not_not] at this
  exact this
theorem oneB_iff {n : Int} : oneB n = true ↔ 1 ≤ n ∧ n ≤ 1099511627776 := by unfold oneB; rw [Bool.and_eq_true, leI_iff, leI_iff]
theorem noB_iff {n : Int} : noB n = true ↔ 0 ≤ n ∧ n ≤ 1099511627776 := by unfold noB; rw [Bool.and_eq_true, leI_iff, leI_iff]
theorem shH_iff {s : Shard} : shH s = true ↔ (1 ≤ s.mID ∧ s.mID ≤ 1099511627776) ∧ (1 ≤ s.mEpoch ∧ s.mEpoch ≤ 1099511627776) ∧ (0 ≤ s.mHold ∧ s.mHold ≤ 1099511627776) ∧ (0 ≤ s.mSeen ∧ s.mSeen ≤ 1099511627776) ∧ (0 ≤ s.mMove ∧ s.mMove ≤ 1099511627776) ∧ (0 ≤ s.mClosed ∧ s.mClosed ≤ 1099511627776) ∧ 1 ≤ s.mPhase ∧ s.mPhase ≤ 3 := by
  unfold shH
  simp only [Bool.and_eq_true, oneB_iff, noB_iff, Bool.not_eq_true', ltI_false, and_assoc]
/-- A shard that differs in its head alone is right where its head is. -/
theorem shR_head {s u : Shard} (h : shR s = true) (e1 : u.mSpan = s.mSpan) (e2 : u.mEntries = s.mEntries) (e3 : u.mMark = s.mMark) (e4 : u.mDone = s.mDone) (h1 : shH u = true) (h2 : stR u.mTop = true) : shR u = true := by
  rw [shR_iff] at *
  rw [e1, e2, e3, e4]
  exact ⟨h1, h.2.1, h.2.2.1, h.2.2.2.1, h2, h.2.2.2.2.2.1, h.2.2.2.2.2.2⟩
theorem up_head {s u : Shard} {t : Stamp} (h : upR s t = true) (e2 : u.mEntries = s.mEntries) : upR u t = true := by
  unfold upR at *; rw [e2]; exact h
end Go.Proofs.Gd
