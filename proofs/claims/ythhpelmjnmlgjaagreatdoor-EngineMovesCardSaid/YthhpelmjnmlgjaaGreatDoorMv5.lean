/- Lemmas behind GdMvP, part 5: they hold as they stand, without a condition beyond their own. -/
import Derived.Test.YthhpelmjnmlgjaaGreatDoorMv4
import Derived.Test.YthhpelmjnmlgjaaGreatDoorProg
import Derived.KernelRfl
set_option linter.unusedVariables false
set_option maxRecDepth 100000
set_option maxHeartbeats 4000000
namespace Go.Proofs.Gd
open Go Go.Awp Go.Proofs
theorem s87 (k : Nat) (t0 : List Done) (r : Bool) (h : F87 k t0 = some r) : Awp.Spec Tryz.prog amb 87 [(.sl 11 (t0.map eDone))] (.ds [(.s (.bool r))]) := by
 rw [F87] at h
 refine spec_of Tryz.func87 rfl (ble _ _ rfl) fun w0 ok0 lt0 hA => ?_
 refine sr ?_
 refine sM 2 (bV false) rfl rfl ?_
 refine sq_nil ?_
 refine ht_seq ?_
 refine sr ?_
 refine sM 4 (.d (.sl 11 (t0.map eDone))) rfl rfl ?_
 refine sT 5 (iV (t0.length : Int)) rfl (w_len t0 eDone rfl rfl · · · slT43 rfl) ?_
 refine sT 6 (bV (ltI 8 (t0.length : Int))) rfl (v_bin rfl · · · rfl rfl (b_gtr rfl)) ?_
 refine sq_nil ?_
 refine ht_cond rfl (fun e1 => ?_) (fun e1 => ?_)
 ·replace h := cpos e1 h
  refine sr ?_
  refine sM 2 (bV false) rfl rfl ?_
  refine sq_nil ?_
  refine ht_ret ?_
  cases h
  exact ret1 rfl (.tmp rfl)
 replace h := cneg e1 h
 refine ht_skip ?_
 refine ht_gj (go_id' h) (fun _ => tell []) (fun _ h => ?_) (fun v2 K3 h j5 r6 => ?_)
 ·refine sr ?_
  refine sM 2 (bV true) rfl rfl ?_
  refine sq_nil ?_
  refine ht_ret ?_
  cases h
  exact ret1 rfl (.tmp rfl)
 refine sr ?_
 refine sM 3 (iV 0) rfl rfl ?_
 refine sq_nil ?_
 refine ht_block ?_
 refine ht_rd h (fun _ => rfl) (fun t3 => tell [(.t 0, .d (.sl 11 (t0.map eDone))), (.t 3, iV t3)]) (wk_ren _ (fun i => i) rfl ⟨rfl, rfl, trivial⟩) fun k t3 h K53 j8 => ?_
 rw [F87_l1] at h
 refine ht_seq ?_
 refine sr ?_
 refine sM 7 (iV t3) rfl rfl ?_
 refine sM 8 (.d (.sl 11 (t0.map eDone))) rfl rfl ?_
 refine sT 9 (iV (t0.length : Int)) rfl (w_len t0 eDone rfl rfl · · · slT43 rfl) ?_
 refine sT 10 (bV (ltI t3 (t0.length : Int))) rfl (v_bin rfl · · · rfl rfl (b_lss rfl)) ?_
 refine sq_nil ?_
 refine ht_cond rfl (fun e10 => ?_) (fun e10 => ?_)
 ·replace h := cpos e10 h
  refine ht_skip ?_
  refine ht_seq ?_
  refine ht_block ?_
  refine ht_seq ?_
  refine sr ?_
  refine sM 13 (.d (.sl 11 (t0.map eDone))) rfl rfl ?_
  refine sM 14 (iV t3) rfl rfl ?_
  obtain ⟨e11, h⟩ := gpos h
  refine sT 15 (.d (.dp (eDone (rd t0 t3)))) rfl (w_idx t0 eDone rfl · · · slT43 rfl rfl e11) ?_
  refine sT 16 (.d (.dp (eDone (rd t0 t3)))) rfl (v_field_dp (a0 := 0) (cs := (eDone (rd t0 t3))) rfl · · · fo100_0 rfl) ?_
  refine sT 17 (iV (rd t0 t3).mClient) rfl (v_load_dp1 rfl · · · onT3 rfl rfl) ?_
  obtain ⟨t18, c12, h⟩ := bpos h
  refine sT 18 (bV t18) rfl (w_call (ds := [(.s (.int .i64 (rd t0 t3).mClient))]) (caps := []) (l := [(.s (.bool t18))]) (s140 k (rd t0 t3).mClient _ c12) rfl rfl rfl en140 · · · (.inl ⟨rfl, rfl⟩) rfl rfl) ?_
  refine sT 19 (bV (!t18)) rfl (v_un rfl · · · rfl (u_not rfl)) ?_
  refine sM 20 (bV (!t18)) rfl rfl ?_
  refine sF 21 (.d (.sl 11 (t0.map eDone))) rfl rfl (fun e13 => (v_move (.inl rfl) · · · rfl)) ?_
  refine sF 22 (iV t3) rfl rfl (fun e14 => (v_move (.inl rfl) · · · rfl)) ?_
  obtain ⟨e16, h⟩ := gpos h
  refine sF 23 (.d (.dp (eDone (rd t0 t3)))) rfl rfl (fun e15 => (w_idx t0 eDone rfl · · · slT43 (gv (nF e15)) (gv (nF e15)) (orT e16 (nF e15)))) ?_
  refine sF 24 (.d (.dp (List.drop 1 (eDone (rd t0 t3))))) rfl rfl (fun e17 => (v_field_dp (a0 := 1) (cs := (eDone (rd t0 t3))) rfl · · · fo100_1 (gv (nF e17)))) ?_
  refine sF 25 (iV (rd t0 t3).mReq) rfl rfl (fun e18 => (v_load_dp1 rfl · · · onT3 (gv (nF e18)) rfl)) ?_
  obtain ⟨t26, c20, h⟩ := bpos h
  refine sF 26 (bV t26) rfl rfl (fun e19 => (w_call (ds := [(.s (.int .i64 (rd t0 t3).mReq))]) (caps := []) (l := [(.s (.bool t26))]) (s140 k (rd t0 t3).mReq _ (cpos (nF e19) c20)) rfl rfl rfl en140 · · · (.inl ⟨rfl, rfl⟩) (cc (gv (nF e19)) rfl) rfl)) ?_
  refine sF 27 (bV (!t26)) rfl rfl (fun e21 => (v_un rfl · · · (gv (nF e21)) (u_not rfl))) ?_
  refine sT 28 (bV ((!t18) || (!t26))) rfl (v_pickB rfl · · · rfl (fun e22 => rfl) (fun e23 => (gv (nF e23))) (pO _ _)) ?_
  refine sM 29 (bV ((!t18) || (!t26))) rfl rfl ?_
  refine sF 30 (.d (.sl 11 (t0.map eDone))) rfl rfl (fun e24 => (v_move (.inl rfl) · · · rfl)) ?_
  refine sF 31 (iV t3) rfl rfl (fun e25 => (v_move (.inl rfl) · · · rfl)) ?_
  obtain ⟨e27, h⟩ := gpos h
  refine sF 32 (.d (.dp (eDone (rd t0 t3)))) rfl rfl (fun e26 => (w_idx t0 eDone rfl · · · slT43 (gv (nF e26)) (gv (nF e26)) (orT e27 (nF e26)))) ?_
  refine sF 33 (.d (.dp (List.drop 2 (eDone (rd t0 t3))))) rfl rfl (fun e28 => (v_field_dp (a0 := 2) (cs := (eDone (rd t0 t3))) rfl · · · fo100_2 (gv (nF e28)))) ?_
  refine sF 34 (.d (.agg (eAnswer (rd t0 t3).mAnswer))) rfl rfl (fun e29 => (w_ldp (List.drop 2 (eDone (rd t0 t3))) (eAnswer (rd t0 t3).mAnswer) rfl · · · ag34 (gv (nF e29)) (ble _ _ rfl) rfl)) ?_
  obtain ⟨t35, c31, h⟩ := bpos h
  refine sF 35 (bV t35) rfl rfl (fun e30 => (w_call (ds := [(.agg (eAnswer (rd t0 t3).mAnswer))]) (caps := []) (l := [(.s (.bool t35))]) (s141 k (rd t0 t3).mAnswer _ (cpos (nF e30) c31)) rfl rfl rfl en141 · · · (.inl ⟨rfl, rfl⟩) (cc (gv (nF e30)) rfl) rfl)) ?_
  refine sF 36 (bV (!t35)) rfl rfl (fun e32 => (v_un rfl · · · (gv (nF e32)) (u_not rfl))) ?_
  refine sT 37 (bV (((!t18) || (!t26)) || (!t35))) rfl (v_pickB rfl · · · rfl (fun e33 => rfl) (fun e34 => (gv (nF e34))) (pO _ _)) ?_
  refine sq_nil ?_
  refine ht_cond rfl (fun e35 => ?_) (fun e35 => ?_)
  ·replace h := cpos e35 h
   refine sr ?_
   refine sM 2 (bV false) rfl rfl ?_
   refine sq_nil ?_
   refine ht_ret ?_
   cases h
   cases r6 _ rfl
   exact ret1 rfl (.tmp rfl)
  replace h := cneg e35 h
  refine ht_skip ?_
  refine ht_seq ?_
  refine ht_region_draw mixed ?_
  refine rM 38 (iV t3) rfl rfl ?_
  refine rT 39 (bV (ltI 0 t3)) rfl (v_bin rfl · · · rfl rfl (b_gtr rfl)) ?_
  refine rM 40 (bV (ltI 0 t3)) rfl rfl ?_
  refine rG 41 (.d (.sl 11 (t0.map eDone))) rfl rfl (fun e36 => (v_move (.inl rfl) · · · rfl)) ?_
  refine rG 42 (iV t3) rfl rfl (fun e37 => (v_move (.inl rfl) · · · rfl)) ?_
  refine rG 43 (iV (IntKind.wrap .i64 (t3 - 1))) rfl rfl (fun e38 => (v_bin rfl · · · (gv e38) rfl (b_sub rfl))) ?_
  obtain ⟨e40, h⟩ := gpos h
  refine rG 44 (.d (.dp (eDone (rd t0 (IntKind.wrap .i64 (t3 - 1)))))) rfl rfl (fun e39 => (w_idx t0 eDone rfl · · · slT43 (gv e39) (gv e39) (orT e40 e39))) ?_
  refine rG 45 (.d (.dp (eDone (rd t0 (IntKind.wrap .i64 (t3 - 1)))))) rfl rfl (fun e41 => (v_field_dp (a0 := 0) (cs := (eDone (rd t0 (IntKind.wrap .i64 (t3 - 1))))) rfl · · · fo100_0 (gv e41))) ?_
  refine rG 46 (iV (rd t0 (IntKind.wrap .i64 (t3 - 1))).mClient) rfl rfl (fun e42 => (v_load_dp1 rfl · · · onT3 (gv e42) rfl)) ?_
  refine rG 47 (.d (.sl 11 (t0.map eDone))) rfl rfl (fun e43 => (v_move (.inl rfl) · · · rfl)) ?_
  refine rG 48 (iV t3) rfl rfl (fun e44 => (v_move (.inl rfl) · · · rfl)) ?_
  obtain ⟨e46, h⟩ := gpos h
  refine rG 49 (.d (.dp (eDone (rd t0 t3)))) rfl rfl (fun e45 => (w_idx t0 eDone rfl · · · slT43 (gv e45) (gv e45) (orT e46 e45))) ?_
  refine rG 50 (.d (.dp (eDone (rd t0 t3)))) rfl rfl (fun e47 => (v_field_dp (a0 := 0) (cs := (eDone (rd t0 t3))) rfl · · · fo100_0 (gv e47))) ?_
  refine rG 51 (iV (rd t0 t3).mClient) rfl rfl (fun e48 => (v_load_dp1 rfl · · · onT3 (gv e48) rfl)) ?_
  refine rG 52 (bV (leI (rd t0 t3).mClient (rd t0 (IntKind.wrap .i64 (t3 - 1))).mClient)) rfl rfl (fun e49 => (v_bin rfl · · · (gv e49) (gv e49) (b_geq rfl))) ?_
  refine rT 53 (bV ((ltI 0 t3) && (leI (rd t0 t3).mClient (rd t0 (IntKind.wrap .i64 (t3 - 1))).mClient))) rfl (v_pickB rfl · · · rfl (fun e50 => (gv e50)) (fun e51 => rfl) (pA _ _)) ?_
  refine rg_nil ⟨by kernel_rfl, ?_⟩
  refine ht_cond rfl (fun e52 => ?_) (fun e52 => ?_)
  ·replace h := cpos e52 h
   refine sr ?_
   refine sM 2 (bV false) rfl rfl ?_
   refine sq_nil ?_
   refine ht_ret ?_
   cases h
   cases r6 _ rfl
   exact ret1 rfl (.tmp rfl)
  replace h := cneg e52 h
  refine ht_skip ?_
  refine ht_region ?_
  refine sM 11 (iV t3) rfl rfl ?_
  refine sT 12 (iV (IntKind.wrap .i64 (t3 + 1))) rfl (v_bin rfl · · · rfl rfl (b_add rfl)) ?_
  refine sM 3 (iV (IntKind.wrap .i64 (t3 + 1))) rfl rfl ?_
  refine sq_nil ?_
  exact j8 _ _ h (wk_ren _ (fun i => i) rfl ⟨rfl, rfl, trivial⟩)
 replace h := cneg e10 h
 refine ht_exit ?_
 refine tq ?_
 refine tq ?_
 refine bq_hit ?_
 cases h
 exact j5 _ _ rfl (wk_ren _ (fun i => i) rfl trivial)
theorem s55 (k : Nat) (t0 : ByteArray) (t1 : ByteArray) (t2 : ByteArray) (r : Bool) (h : F55 k t0 t1 t2 = some r) : Awp.Spec Tryz.prog amb 55 [(.s (.string t0)), (.s (.string t1)), (.s (.string t2))] (.ds [(.s (.bool r))]) := by
 rw [F55] at h
 refine spec_of Tryz.func55 rfl (ble _ _ rfl) fun w0 ok0 lt0 hA => ?_
 refine sr ?_
 refine sM 6 (bV false) rfl rfl ?_
 refine sq_nil ?_
 refine sr ?_
 refine sM 7 (sV t0) rfl rfl ?_
 refine sM 8 (sV t1) rfl rfl ?_
 obtain ⟨t9, c1, h⟩ := bpos h
 refine sT 9 (iV t9) rfl (w_call (ds := [(.s (.string t0)), (.s (.string t1))]) (caps := []) (l := [(.s (.int .i64 t9))]) (s119 k t0 t1 _ c1) rfl rfl rfl en119 · · · (.inl ⟨rfl, rfl⟩) rfl rfl) ?_
 refine sT 10 (bV (leI 0 t9)) rfl (v_bin rfl · · · rfl rfl (b_geq rfl)) ?_
 refine sM 11 (bV (leI 0 t9)) rfl rfl ?_
 refine sG 12 (sV t2) rfl rfl (fun e2 => (v_move (.inl rfl) · · · rfl)) ?_
 refine sG 13 (iV (t2.size : Int)) rfl rfl (fun e3 => (v_len_str rfl rfl · · · und9 (gv e3))) ?_
 refine sG 14 (bV (eqI (t2.size : Int) 0)) rfl rfl (fun e4 => (v_bin rfl · · · (gv e4) rfl (b_eql rfl))) ?_
 refine sG 15 (bV (eqI (t2.size : Int) 0)) rfl rfl (fun e5 => (v_move (.inl rfl) · · · (gv e5))) ?_
 refine sH 16 (sV t0) rfl rfl (fun e6 e7 => (v_move (.inl rfl) · · · rfl)) ?_
 refine sH 17 (sV t2) rfl rfl (fun e8 e9 => (v_move (.inl rfl) · · · rfl)) ?_
 obtain ⟨t18, c12, h⟩ := bpos h
 refine sH 18 (iV t18) rfl rfl (fun e10 e11 => (w_call (ds := [(.s (.string t0)), (.s (.string t2))]) (caps := []) (l := [(.s (.int .i64 t18))]) (s119 k t0 t2 _ (cpos (aT e10 (nF e11)) c12)) rfl rfl rfl en119 · · · (.inl ⟨rfl, rfl⟩) (cc (gv (aT e10 (nF e11))) (cc (gv (aT e10 (nF e11))) rfl)) rfl)) ?_
 refine sH 19 (bV (ltI t18 0)) rfl rfl (fun e13 e14 => (v_bin rfl · · · (gv (aT e13 (nF e14))) rfl (b_lss rfl))) ?_
 refine sG 20 (bV ((eqI (t2.size : Int) 0) || (ltI t18 0))) rfl rfl (fun e15 => (v_pickB rfl · · · (gv e15) (fun e16 => rfl) (fun e17 => (gv (aT e15 (nF e17)))) (pO _ _))) ?_
 refine sT 21 (bV ((leI 0 t9) && ((eqI (t2.size : Int) 0) || (ltI t18 0)))) rfl (v_pickB rfl · · · rfl (fun e18 => (gv e18)) (fun e19 => rfl) (pA _ _)) ?_
 refine sM 6 (bV ((leI 0 t9) && ((eqI (t2.size : Int) 0) || (ltI t18 0)))) rfl rfl ?_
 refine sq_nil ?_
 refine ht_ret ?_
 cases h
 exact ret1 rfl (.tmp rfl)
theorem s88 (k : Nat) (t0 : Span) (t1 : ByteArray) (r : Bool) (h : F88 k t0 t1 = some r) : Awp.Spec Tryz.prog amb 88 [(.agg (eSpan t0)), (.s (.string t1))] (.ds [(.s (.bool r))]) := by
 rw [F88] at h
 refine spec_of Tryz.func88 rfl (ble _ _ rfl) fun w0 ok0 lt0 hA => ?_
 refine sr ?_
 refine sT 2 (.d (.dp (eSpan t0))) rfl (v_box_d (cs := (eSpan t0)) rfl · · · rfl rfl (ones_of rfl)) ?_
 refine sM 4 (bV false) rfl rfl ?_
 refine sq_nil ?_
 refine sr ?_
 refine sT 5 (.d (.agg (eSpan t0))) rfl (w_ldp (eSpan t0) (eSpan t0) rfl · · · ag41 rfl (ble _ _ rfl) rfl) ?_
 obtain ⟨t6, c1, h⟩ := bpos h
 refine sT 6 (bV t6) rfl (w_call (ds := [(.agg (eSpan t0))]) (caps := []) (l := [(.s (.bool t6))]) (s85 k t0 _ c1) rfl rfl rfl en85 · · · (.inl ⟨rfl, rfl⟩) rfl rfl) ?_
 refine sM 7 (bV t6) rfl rfl ?_
 refine sG 8 (sV t1) rfl rfl (fun e2 => (v_move (.inl rfl) · · · rfl)) ?_
 obtain ⟨t9, c4, h⟩ := bpos h
 refine sG 9 (bV t9) rfl rfl (fun e3 => (w_call (ds := [(.s (.string t1))]) (caps := []) (l := [(.s (.bool t9))]) (s130 k t1 _ (cpos e3 c4)) rfl rfl rfl en130 · · · (.inl ⟨rfl, rfl⟩) (cc (gv e3) rfl) rfl)) ?_
 refine sT 10 (bV (t6 && t9)) rfl (v_pickB rfl · · · rfl (fun e5 => (gv e5)) (fun e6 => rfl) (pA _ _)) ?_
 refine sM 11 (bV (t6 && t9)) rfl rfl ?_
 refine sG 12 (sV t1) rfl rfl (fun e7 => (v_move (.inl rfl) · · · rfl)) ?_
 refine sG 13 (.d (.dp (eSpan t0))) rfl rfl (fun e8 => (v_field_dp (a0 := 0) (cs := (eSpan t0)) rfl · · · fo41_0 rfl)) ?_
 refine sG 14 (sV t0.mLo) rfl rfl (fun e9 => (v_load_dp1 rfl · · · onT9 (gv e9) rfl)) ?_
 refine sG 15 (.d (.dp (List.drop 1 (eSpan t0)))) rfl rfl (fun e10 => (v_field_dp (a0 := 1) (cs := (eSpan t0)) rfl · · · fo41_1 rfl)) ?_
 refine sG 16 (sV t0.mHi) rfl rfl (fun e11 => (v_load_dp1 rfl · · · onT9 (gv e11) rfl)) ?_
 obtain ⟨t17, c13, h⟩ := bpos h
 refine sG 17 (bV t17) rfl rfl (fun e12 => (w_call (ds := [(.s (.string t1)), (.s (.string t0.mLo)), (.s (.string t0.mHi))]) (caps := []) (l := [(.s (.bool t17))]) (s55 k t1 t0.mLo t0.mHi _ (cpos e12 c13)) rfl rfl rfl en55 · · · (.inl ⟨rfl, rfl⟩) (cc (gv e12) (cc (gv e12) (cc (gv e12) rfl))) rfl)) ?_
 refine sT 18 (bV ((t6 && t9) && t17)) rfl (v_pickB rfl · · · rfl (fun e14 => (gv e14)) (fun e15 => rfl) (pA _ _)) ?_
 refine sM 4 (bV ((t6 && t9) && t17)) rfl rfl ?_
 refine sq_nil ?_
 refine ht_ret ?_
 cases h
 exact ret1 rfl (.tmp rfl)
theorem s21 (k : Nat) (t0 : Shard) (r : Bool) (h : F21 k t0 = some r) : Awp.Spec Tryz.prog amb 21 [(.agg (eShard t0))] (.ds [(.s (.bool r))]) := by
 rw [F21] at h
 refine spec_of Tryz.func21 rfl (ble _ _ rfl) fun w0 ok0 lt0 hA => ?_
 refine sr ?_
 refine sT 1 (.d (.dp (eShard t0))) rfl (v_box_d (cs := (eShard t0)) rfl · · · rfl rfl (ones_of rfl)) ?_
 refine sM 2 (bV false) rfl rfl ?_
 refine sq_nil ?_
 refine ht_seq ?_
 refine sr ?_
 refine sT 4 (.d (.dp (eShard t0))) rfl (v_field_dp (a0 := 0) (cs := (eShard t0)) rfl · · · fo45_0 rfl) ?_
 refine sT 5 (iV t0.mID) rfl (v_load_dp1 rfl · · · onT3 rfl rfl) ?_
 obtain ⟨t6, c1, h⟩ := bpos h
 refine sT 6 (bV t6) rfl (w_call (ds := [(.s (.int .i64 t0.mID))]) (caps := []) (l := [(.s (.bool t6))]) (s66 k t0.mID _ c1) rfl rfl rfl en66 · · · (.inl ⟨rfl, rfl⟩) rfl rfl) ?_
 refine sT 7 (bV (!t6)) rfl (v_un rfl · · · rfl (u_not rfl)) ?_
 refine sM 8 (bV (!t6)) rfl rfl ?_
 refine sF 9 (.d (.dp (List.drop 1 (eShard t0)))) rfl rfl (fun e2 => (v_field_dp (a0 := 1) (cs := (eShard t0)) rfl · · · fo45_1 rfl)) ?_
 refine sF 10 (iV t0.mEpoch) rfl rfl (fun e3 => (v_load_dp1 rfl · · · onT3 (gv (nF e3)) rfl)) ?_
 obtain ⟨t11, c5, h⟩ := bpos h
 refine sF 11 (bV t11) rfl rfl (fun e4 => (w_call (ds := [(.s (.int .i64 t0.mEpoch))]) (caps := []) (l := [(.s (.bool t11))]) (s66 k t0.mEpoch _ (cpos (nF e4) c5)) rfl rfl rfl en66 · · · (.inl ⟨rfl, rfl⟩) (cc (gv (nF e4)) rfl) rfl)) ?_
 refine sF 12 (bV (!t11)) rfl rfl (fun e6 => (v_un rfl · · · (gv (nF e6)) (u_not rfl))) ?_
 refine sT 13 (bV ((!t6) || (!t11))) rfl (v_pickB rfl · · · rfl (fun e7 => rfl) (fun e8 => (gv (nF e8))) (pO _ _)) ?_
 refine sM 14 (bV ((!t6) || (!t11))) rfl rfl ?_
 refine sF 15 (.d (.dp (List.drop 13 (eShard t0)))) rfl rfl (fun e9 => (v_field_dp (a0 := 13) (cs := (eShard t0)) rfl · · · fo45_8 rfl)) ?_
 refine sF 16 (iV t0.mHold) rfl rfl (fun e10 => (v_load_dp1 rfl · · · onT3 (gv (nF e10)) rfl)) ?_
 obtain ⟨t17, c12, h⟩ := bpos h
 refine sF 17 (bV t17) rfl rfl (fun e11 => (w_call (ds := [(.s (.int .i64 t0.mHold))]) (caps := []) (l := [(.s (.bool t17))]) (s67 k t0.mHold _ (cpos (nF e11) c12)) rfl rfl rfl en67 · · · (.inl ⟨rfl, rfl⟩) (cc (gv (nF e11)) rfl) rfl)) ?_
 refine sF 18 (bV (!t17)) rfl rfl (fun e13 => (v_un rfl · · · (gv (nF e13)) (u_not rfl))) ?_
 refine sT 19 (bV (((!t6) || (!t11)) || (!t17))) rfl (v_pickB rfl · · · rfl (fun e14 => rfl) (fun e15 => (gv (nF e15))) (pO _ _)) ?_
 refine sM 20 (bV (((!t6) || (!t11)) || (!t17))) rfl rfl ?_
 refine sF 21 (.d (.dp (List.drop 14 (eShard t0)))) rfl rfl (fun e16 => (v_field_dp (a0 := 14) (cs := (eShard t0)) rfl · · · fo45_9 rfl)) ?_
 refine sF 22 (iV t0.mSeen) rfl rfl (fun e17 => (v_load_dp1 rfl · · · onT3 (gv (nF e17)) rfl)) ?_
 obtain ⟨t23, c19, h⟩ := bpos h
 refine sF 23 (bV t23) rfl rfl (fun e18 => (w_call (ds := [(.s (.int .i64 t0.mSeen))]) (caps := []) (l := [(.s (.bool t23))]) (s67 k t0.mSeen _ (cpos (nF e18) c19)) rfl rfl rfl en67 · · · (.inl ⟨rfl, rfl⟩) (cc (gv (nF e18)) rfl) rfl)) ?_
 refine sF 24 (bV (!t23)) rfl rfl (fun e20 => (v_un rfl · · · (gv (nF e20)) (u_not rfl))) ?_
 refine sT 25 (bV ((((!t6) || (!t11)) || (!t17)) || (!t23))) rfl (v_pickB rfl · · · rfl (fun e21 => rfl) (fun e22 => (gv (nF e22))) (pO _ _)) ?_
 refine sM 26 (bV ((((!t6) || (!t11)) || (!t17)) || (!t23))) rfl rfl ?_
 refine sF 27 (.d (.dp (List.drop 15 (eShard t0)))) rfl rfl (fun e23 => (v_field_dp (a0 := 15) (cs := (eShard t0)) rfl · · · fo45_10 rfl)) ?_
 refine sF 28 (iV t0.mMove) rfl rfl (fun e24 => (v_load_dp1 rfl · · · onT3 (gv (nF e24)) rfl)) ?_
 obtain ⟨t29, c26, h⟩ := bpos h
 refine sF 29 (bV t29) rfl rfl (fun e25 => (w_call (ds := [(.s (.int .i64 t0.mMove))]) (caps := []) (l := [(.s (.bool t29))]) (s67 k t0.mMove _ (cpos (nF e25) c26)) rfl rfl rfl en67 · · · (.inl ⟨rfl, rfl⟩) (cc (gv (nF e25)) rfl) rfl)) ?_
 refine sF 30 (bV (!t29)) rfl rfl (fun e27 => (v_un rfl · · · (gv (nF e27)) (u_not rfl))) ?_
 refine sT 31 (bV (((((!t6) || (!t11)) || (!t17)) || (!t23)) || (!t29))) rfl (v_pickB rfl · · · rfl (fun e28 => rfl) (fun e29 => (gv (nF e29))) (pO _ _)) ?_
 refine sM 32 (bV (((((!t6) || (!t11)) || (!t17)) || (!t23)) || (!t29))) rfl rfl ?_
 refine sF 33 (.d (.dp (List.drop 16 (eShard t0)))) rfl rfl (fun e30 => (v_field_dp (a0 := 16) (cs := (eShard t0)) rfl · · · fo45_11 rfl)) ?_
 refine sF 34 (iV t0.mClosed) rfl rfl (fun e31 => (v_load_dp1 rfl · · · onT3 (gv (nF e31)) rfl)) ?_
 obtain ⟨t35, c33, h⟩ := bpos h
 refine sF 35 (bV t35) rfl rfl (fun e32 => (w_call (ds := [(.s (.int .i64 t0.mClosed))]) (caps := []) (l := [(.s (.bool t35))]) (s67 k t0.mClosed _ (cpos (nF e32) c33)) rfl rfl rfl en67 · · · (.inl ⟨rfl, rfl⟩) (cc (gv (nF e32)) rfl) rfl)) ?_
 refine sF 36 (bV (!t35)) rfl rfl (fun e34 => (v_un rfl · · · (gv (nF e34)) (u_not rfl))) ?_
 refine sT 37 (bV ((((((!t6) || (!t11)) || (!t17)) || (!t23)) || (!t29)) || (!t35))) rfl (v_pickB rfl · · · rfl (fun e35 => rfl) (fun e36 => (gv (nF e36))) (pO _ _)) ?_
 refine sq_nil ?_
 refine ht_cond rfl (fun e37 => ?_) (fun e37 => ?_)
 ·replace h := cpos e37 h
  refine sr ?_
  refine sM 2 (bV false) rfl rfl ?_
  refine sq_nil ?_
  refine ht_ret ?_
  cases h
  exact ret1 rfl (.tmp rfl)
 replace h := cneg e37 h
 refine ht_skip ?_
 refine ht_seq ?_
 refine sr ?_
 refine sT 38 (.d (.dp (List.drop 4 (eShard t0)))) rfl (v_field_dp (a0 := 4) (cs := (eShard t0)) rfl · · · fo45_3 rfl) ?_
 refine sT 39 (iV t0.mPhase) rfl (v_load_dp1 rfl · · · onT3 rfl rfl) ?_
 refine sT 40 (bV (!eqI t0.mPhase 1)) rfl (v_bin rfl · · · rfl rfl (b_neq rfl)) ?_
 refine sM 41 (bV (!eqI t0.mPhase 1)) rfl rfl ?_
 refine sG 42 (.d (.dp (List.drop 4 (eShard t0)))) rfl rfl (fun e38 => (v_field_dp (a0 := 4) (cs := (eShard t0)) rfl · · · fo45_3 rfl)) ?_
 refine sG 43 (iV t0.mPhase) rfl rfl (fun e39 => (v_load_dp1 rfl · · · onT3 (gv e39) rfl)) ?_
 refine sG 44 (bV (!eqI t0.mPhase 2)) rfl rfl (fun e40 => (v_bin rfl · · · (gv e40) rfl (b_neq rfl))) ?_
 refine sT 45 (bV ((!eqI t0.mPhase 1) && (!eqI t0.mPhase 2))) rfl (v_pickB rfl · · · rfl (fun e41 => (gv e41)) (fun e42 => rfl) (pA _ _)) ?_
 refine sM 46 (bV ((!eqI t0.mPhase 1) && (!eqI t0.mPhase 2))) rfl rfl ?_
 refine sG 47 (.d (.dp (List.drop 4 (eShard t0)))) rfl rfl (fun e43 => (v_field_dp (a0 := 4) (cs := (eShard t0)) rfl · · · fo45_3 rfl)) ?_
 refine sG 48 (iV t0.mPhase) rfl rfl (fun e44 => (v_load_dp1 rfl · · · onT3 (gv e44) rfl)) ?_
 refine sG 49 (bV (!eqI t0.mPhase 3)) rfl rfl (fun e45 => (v_bin rfl · · · (gv e45) rfl (b_neq rfl))) ?_
 refine sT 50 (bV (((!eqI t0.mPhase 1) && (!eqI t0.mPhase 2)) && (!eqI t0.mPhase 3))) rfl (v_pickB rfl · · · rfl (fun e46 => (gv e46)) (fun e47 => rfl) (pA _ _)) ?_
 refine sM 51 (bV (((!eqI t0.mPhase 1) && (!eqI t0.mPhase 2)) && (!eqI t0.mPhase 3))) rfl rfl ?_
 refine sF 52 (.d (.dp (List.drop 2 (eShard t0)))) rfl rfl (fun e48 => (v_field_dp (a0 := 2) (cs := (eShard t0)) rfl · · · fo45_2 rfl)) ?_
 refine sF 53 (.d (.agg (eSpan t0.mSpan))) rfl rfl (fun e49 => (w_ldp (List.drop 2 (eShard t0)) (eSpan t0.mSpan) rfl · · · ag41 (gv (nF e49)) (ble _ _ rfl) rfl)) ?_
 obtain ⟨t54, c51, h⟩ := bpos h
 refine sF 54 (bV t54) rfl rfl (fun e50 => (w_call (ds := [(.agg (eSpan t0.mSpan))]) (caps := []) (l := [(.s (.bool t54))]) (s85 k t0.mSpan _ (cpos (nF e50) c51)) rfl rfl rfl en85 · · · (.inl ⟨rfl, rfl⟩) (cc (gv (nF e50)) rfl) rfl)) ?_
 refine sF 55 (bV (!t54)) rfl rfl (fun e52 => (v_un rfl · · · (gv (nF e52)) (u_not rfl))) ?_
 refine sT 56 (bV ((((!eqI t0.mPhase 1) && (!eqI t0.mPhase 2)) && (!eqI t0.mPhase 3)) || (!t54))) rfl (v_pickB rfl · · · rfl (fun e53 => rfl) (fun e54 => (gv (nF e54))) (pO _ _)) ?_
 refine sM 57 (bV ((((!eqI t0.mPhase 1) && (!eqI t0.mPhase 2)) && (!eqI t0.mPhase 3)) || (!t54))) rfl rfl ?_
 refine sF 58 (.d (.dp (List.drop 5 (eShard t0)))) rfl rfl (fun e55 => (v_field_dp (a0 := 5) (cs := (eShard t0)) rfl · · · fo45_4 rfl)) ?_
 refine sF 59 (.d (.sl 2 (t0.mEntries.map eEntry))) rfl rfl (fun e56 => (v_load_dp1 rfl · · · onT42 (gv (nF e56)) rfl)) ?_
 obtain ⟨t60, c58, h⟩ := bpos h
 refine sF 60 (bV t60) rfl rfl (fun e57 => (w_call (ds := [(.sl 2 (t0.mEntries.map eEntry))]) (caps := []) (l := [(.s (.bool t60))]) (s86 k t0.mEntries _ (cpos (nF e57) c58)) rfl rfl rfl en86 · · · (.inl ⟨rfl, rfl⟩) (cc (gv (nF e57)) rfl) rfl)) ?_
 refine sF 61 (bV (!t60)) rfl rfl (fun e59 => (v_un rfl · · · (gv (nF e59)) (u_not rfl))) ?_
 refine sT 62 (bV (((((!eqI t0.mPhase 1) && (!eqI t0.mPhase 2)) && (!eqI t0.mPhase 3)) || (!t54)) || (!t60))) rfl (v_pickB rfl · · · rfl (fun e60 => rfl) (fun e61 => (gv (nF e61))) (pO _ _)) ?_
 refine sM 63 (bV (((((!eqI t0.mPhase 1) && (!eqI t0.mPhase 2)) && (!eqI t0.mPhase 3)) || (!t54)) || (!t60))) rfl rfl ?_
 refine sF 64 (.d (.dp (List.drop 6 (eShard t0)))) rfl rfl (fun e62 => (v_field_dp (a0 := 6) (cs := (eShard t0)) rfl · · · fo45_5 rfl)) ?_
 refine sF 65 (.d (.agg (eStamp t0.mMark))) rfl rfl (fun e63 => (w_ldp (List.drop 6 (eShard t0)) (eStamp t0.mMark) rfl · · · ag24 (gv (nF e63)) (ble _ _ rfl) rfl)) ?_
 obtain ⟨t66, c65, h⟩ := bpos h
 refine sF 66 (bV t66) rfl rfl (fun e64 => (w_call (ds := [(.agg (eStamp t0.mMark))]) (caps := []) (l := [(.s (.bool t66))]) (s68 k t0.mMark _ (cpos (nF e64) c65)) rfl rfl rfl en68 · · · (.inl ⟨rfl, rfl⟩) (cc (gv (nF e64)) rfl) rfl)) ?_
 refine sF 67 (bV (!t66)) rfl rfl (fun e66 => (v_un rfl · · · (gv (nF e66)) (u_not rfl))) ?_
 refine sT 68 (bV ((((((!eqI t0.mPhase 1) && (!eqI t0.mPhase 2)) && (!eqI t0.mPhase 3)) || (!t54)) || (!t60)) || (!t66))) rfl (v_pickB rfl · · · rfl (fun e67 => rfl) (fun e68 => (gv (nF e68))) (pO _ _)) ?_
 refine sM 69 (bV ((((((!eqI t0.mPhase 1) && (!eqI t0.mPhase 2)) && (!eqI t0.mPhase 3)) || (!t54)) || (!t60)) || (!t66))) rfl rfl ?_
 refine sF 70 (.d (.dp (List.drop 9 (eShard t0)))) rfl rfl (fun e69 => (v_field_dp (a0 := 9) (cs := (eShard t0)) rfl · · · fo45_6 rfl)) ?_
 refine sF 71 (.d (.agg (eStamp t0.mTop))) rfl rfl (fun e70 => (w_ldp (List.drop 9 (eShard t0)) (eStamp t0.mTop) rfl · · · ag24 (gv (nF e70)) (ble _ _ rfl) rfl)) ?_
 obtain ⟨t72, c72, h⟩ := bpos h
 refine sF 72 (bV t72) rfl rfl (fun e71 => (w_call (ds := [(.agg (eStamp t0.mTop))]) (caps := []) (l := [(.s (.bool t72))]) (s68 k t0.mTop _ (cpos (nF e71) c72)) rfl rfl rfl en68 · · · (.inl ⟨rfl, rfl⟩) (cc (gv (nF e71)) rfl) rfl)) ?_
 refine sF 73 (bV (!t72)) rfl rfl (fun e73 => (v_un rfl · · · (gv (nF e73)) (u_not rfl))) ?_
 refine sT 74 (bV (((((((!eqI t0.mPhase 1) && (!eqI t0.mPhase 2)) && (!eqI t0.mPhase 3)) || (!t54)) || (!t60)) || (!t66)) || (!t72))) rfl (v_pickB rfl · · · rfl (fun e74 => rfl) (fun e75 => (gv (nF e75))) (pO _ _)) ?_
 refine sM 75 (bV (((((((!eqI t0.mPhase 1) && (!eqI t0.mPhase 2)) && (!eqI t0.mPhase 3)) || (!t54)) || (!t60)) || (!t66)) || (!t72))) rfl rfl ?_
 refine sF 76 (.d (.dp (List.drop 12 (eShard t0)))) rfl rfl (fun e76 => (v_field_dp (a0 := 12) (cs := (eShard t0)) rfl · · · fo45_7 rfl)) ?_
 refine sF 77 (.d (.sl 11 (t0.mDone.map eDone))) rfl rfl (fun e77 => (v_load_dp1 rfl · · · onT43 (gv (nF e77)) rfl)) ?_
 obtain ⟨t78, c79, h⟩ := bpos h
 refine sF 78 (bV t78) rfl rfl (fun e78 => (w_call (ds := [(.sl 11 (t0.mDone.map eDone))]) (caps := []) (l := [(.s (.bool t78))]) (s87 k t0.mDone _ (cpos (nF e78) c79)) rfl rfl rfl en87 · · · (.inl ⟨rfl, rfl⟩) (cc (gv (nF e78)) rfl) rfl)) ?_
 refine sF 79 (bV (!t78)) rfl rfl (fun e80 => (v_un rfl · · · (gv (nF e80)) (u_not rfl))) ?_
 refine sT 80 (bV ((((((((!eqI t0.mPhase 1) && (!eqI t0.mPhase 2)) && (!eqI t0.mPhase 3)) || (!t54)) || (!t60)) || (!t66)) || (!t72)) || (!t78))) rfl (v_pickB rfl · · · rfl (fun e81 => rfl) (fun e82 => (gv (nF e82))) (pO _ _)) ?_
 refine sq_nil ?_
 refine ht_cond rfl (fun e83 => ?_) (fun e83 => ?_)
 ·replace h := cpos e83 h
  refine sr ?_
  refine sM 2 (bV false) rfl rfl ?_
  refine sq_nil ?_
  refine ht_ret ?_
  cases h
  exact ret1 rfl (.tmp rfl)
 replace h := cneg e83 h
 refine ht_skip ?_
 refine ht_gj (go_id' h) (fun _ => tell []) (fun _ h => ?_) (fun v84 K85 h j87 r88 => ?_)
 ·refine sr ?_
  refine sM 2 (bV true) rfl rfl ?_
  refine sq_nil ?_
  refine ht_ret ?_
  cases h
  exact ret1 rfl (.tmp rfl)
 refine sr ?_
 refine sM 3 (iV 0) rfl rfl ?_
 refine sq_nil ?_
 refine ht_block ?_
 refine ht_rd h (fun _ => rfl) (fun t3 => tell [(.t 1, .d (.dp (eShard t0))), (.t 3, iV t3)]) (wk_ren _ (fun i => i) rfl ⟨rfl, rfl, trivial⟩) fun k t3 h K96 j90 => ?_
 rw [F21_l1] at h
 refine ht_seq ?_
 refine sr ?_
 refine sM 81 (iV t3) rfl rfl ?_
 refine sT 82 (.d (.dp (List.drop 5 (eShard t0)))) rfl (v_field_dp (a0 := 5) (cs := (eShard t0)) rfl · · · fo45_4 rfl) ?_
 refine sT 83 (.d (.sl 2 (t0.mEntries.map eEntry))) rfl (v_load_dp1 rfl · · · onT42 rfl rfl) ?_
 refine sT 84 (iV (t0.mEntries.length : Int)) rfl (w_len t0.mEntries eEntry rfl rfl · · · slT42 rfl) ?_
 refine sT 85 (bV (ltI t3 (t0.mEntries.length : Int))) rfl (v_bin rfl · · · rfl rfl (b_lss rfl)) ?_
 refine sq_nil ?_
 refine ht_cond rfl (fun e92 => ?_) (fun e92 => ?_)
 ·replace h := cpos e92 h
  refine ht_skip ?_
  refine ht_seq ?_
  refine ht_block ?_
  refine ht_seq ?_
  refine ht_region_draw mixed ?_
  refine rT 88 (.d (.dp (List.drop 2 (eShard t0)))) rfl (v_field_dp (a0 := 2) (cs := (eShard t0)) rfl · · · fo45_2 rfl) ?_
  refine rT 89 (.d (.agg (eSpan t0.mSpan))) rfl (w_ldp (List.drop 2 (eShard t0)) (eSpan t0.mSpan) rfl · · · ag41 rfl (ble _ _ rfl) rfl) ?_
  refine rT 90 (.d (.dp (List.drop 5 (eShard t0)))) rfl (v_field_dp (a0 := 5) (cs := (eShard t0)) rfl · · · fo45_4 rfl) ?_
  refine rT 91 (.d (.sl 2 (t0.mEntries.map eEntry))) rfl (v_load_dp1 rfl · · · onT42 rfl rfl) ?_
  refine rM 92 (iV t3) rfl rfl ?_
  obtain ⟨e93, h⟩ := gpos h
  refine rT 93 (.d (.dp (eEntry (rd t0.mEntries t3)))) rfl (w_idx t0.mEntries eEntry rfl · · · slT42 rfl rfl e93) ?_
  refine rT 94 (.d (.dp (eEntry (rd t0.mEntries t3)))) rfl (v_field_dp (a0 := 0) (cs := (eEntry (rd t0.mEntries t3))) rfl · · · fo116_0 rfl) ?_
  refine rT 95 (sV (rd t0.mEntries t3).mKey) rfl (v_load_dp1 rfl · · · onT9 rfl rfl) ?_
  obtain ⟨t96, c94, h⟩ := bpos h
  refine rT 96 (bV t96) rfl (w_call (ds := [(.agg (eSpan t0.mSpan)), (.s (.string (rd t0.mEntries t3).mKey))]) (caps := []) (l := [(.s (.bool t96))]) (s88 k t0.mSpan (rd t0.mEntries t3).mKey _ c94) rfl rfl rfl en88 · · · (.inl ⟨rfl, rfl⟩) rfl rfl) ?_
  refine rT 97 (bV (!t96)) rfl (v_un rfl · · · rfl (u_not rfl)) ?_
  refine rg_nil ⟨by kernel_rfl, ?_⟩
  refine ht_cond rfl (fun e95 => ?_) (fun e95 => ?_)
  ·replace h := cpos e95 h
   refine sr ?_
   refine sM 2 (bV false) rfl rfl ?_
   refine sq_nil ?_
   refine ht_ret ?_
   cases h
   cases r88 _ rfl
   exact ret1 rfl (.tmp rfl)
  replace h := cneg e95 h
  refine ht_skip ?_
  refine ht_region ?_
  refine sM 86 (iV t3) rfl rfl ?_
  refine sT 87 (iV (IntKind.wrap .i64 (t3 + 1))) rfl (v_bin rfl · · · rfl rfl (b_add rfl)) ?_
  refine sM 3 (iV (IntKind.wrap .i64 (t3 + 1))) rfl rfl ?_
  refine sq_nil ?_
  exact j90 _ _ h (wk_ren _ (fun i => i) rfl ⟨rfl, rfl, trivial⟩)
 replace h := cneg e92 h
 refine ht_exit ?_
 refine tq ?_
 refine tq ?_
 refine bq_hit ?_
 cases h
 exact j87 _ _ rfl (wk_ren _ (fun i => i) rfl trivial)
theorem s89 (k : Nat) (t0 : Shard) (t1 : Stamp) (r : Bool) (h : F89 k t0 t1 = some r) : Awp.Spec Tryz.prog amb 89 [(.agg (eShard t0)), (.agg (eStamp t1))] (.ds [(.s (.bool r))]) := by
 rw [F89] at h
 refine spec_of Tryz.func89 rfl (ble _ _ rfl) fun w0 ok0 lt0 hA => ?_
 refine sr ?_
 refine sT 2 (.d (.dp (eShard t0))) rfl (v_box_d (cs := (eShard t0)) rfl · · · rfl rfl (ones_of rfl)) ?_
 refine sT 3 (.d (.dp (eStamp t1))) rfl (v_box_d (cs := (eStamp t1)) rfl · · · rfl rfl (ones_of rfl)) ?_
 refine sM 4 (bV false) rfl rfl ?_
 refine sq_nil ?_
 refine ht_gj (go_id' h) (fun _ => tell []) (fun _ h => ?_) (fun v1 K2 h j4 r5 => ?_)
 ·refine sr ?_
  refine sM 4 (bV true) rfl rfl ?_
  refine sq_nil ?_
  refine ht_ret ?_
  cases h
  exact ret1 rfl (.tmp rfl)
 refine sr ?_
 refine sM 5 (iV 0) rfl rfl ?_
 refine sq_nil ?_
 refine ht_block ?_
 refine ht_rd h (fun _ => rfl) (fun t5 => tell [(.t 2, .d (.dp (eShard t0))), (.t 3, .d (.dp (eStamp t1))), (.t 5, iV t5)]) (wk_ren _ (fun i => i) rfl ⟨rfl, rfl, rfl, trivial⟩) fun k t5 h K25 j7 => ?_
 rw [F89_l1] at h
 refine ht_seq ?_
 refine sr ?_
 refine sM 7 (iV t5) rfl rfl ?_
 refine sT 8 (.d (.dp (List.drop 5 (eShard t0)))) rfl (v_field_dp (a0 := 5) (cs := (eShard t0)) rfl · · · fo45_4 rfl) ?_
 refine sT 9 (.d (.sl 2 (t0.mEntries.map eEntry))) rfl (v_load_dp1 rfl · · · onT42 rfl rfl) ?_
 refine sT 10 (iV (t0.mEntries.length : Int)) rfl (w_len t0.mEntries eEntry rfl rfl · · · slT42 rfl) ?_
 refine sT 11 (bV (ltI t5 (t0.mEntries.length : Int))) rfl (v_bin rfl · · · rfl rfl (b_lss rfl)) ?_
 refine sq_nil ?_
 refine ht_cond rfl (fun e9 => ?_) (fun e9 => ?_)
 ·replace h := cpos e9 h
  refine ht_skip ?_
  refine ht_gj h (fun _ => tell [(.t 2, .d (.dp (eShard t0))), (.t 3, .d (.dp (eStamp t1))), (.t 5, iV t5)]) (fun _ h => ?_) (fun v10 K11 h j13 r14 => ?_)
  ·refine ht_region ?_
   refine sM 12 (iV t5) rfl rfl ?_
   refine sT 13 (iV (IntKind.wrap .i64 (t5 + 1))) rfl (v_bin rfl · · · rfl rfl (b_add rfl)) ?_
   refine sM 5 (iV (IntKind.wrap .i64 (t5 + 1))) rfl rfl ?_
   refine sq_nil ?_
   exact j7 _ _ h (wk_ren _ (fun i => i) rfl ⟨rfl, rfl, rfl, trivial⟩)
  refine ht_block ?_
  refine sr ?_
  refine sM 6 (iV 0) rfl rfl ?_
  refine sq_nil ?_
  refine ht_block ?_
  refine ht_rd h (fun _ => rfl) (fun t6 => tell [(.t 2, .d (.dp (eShard t0))), (.t 3, .d (.dp (eStamp t1))), (.t 5, iV t5), (.t 6, iV t6)]) (wk_ren _ (fun i => i) rfl ⟨rfl, rfl, rfl, rfl, trivial⟩) fun k t6 h K24 j16 => ?_
  rw [F89_l2] at h
  refine ht_seq ?_
  refine sr ?_
  refine sM 14 (iV t6) rfl rfl ?_
  refine sT 15 (.d (.dp (List.drop 5 (eShard t0)))) rfl (v_field_dp (a0 := 5) (cs := (eShard t0)) rfl · · · fo45_4 rfl) ?_
  refine sT 16 (.d (.sl 2 (t0.mEntries.map eEntry))) rfl (v_load_dp1 rfl · · · onT42 rfl rfl) ?_
  refine sM 17 (iV t5) rfl rfl ?_
  obtain ⟨e18, h⟩ := gpos h
  refine sT 18 (.d (.dp (eEntry (rd t0.mEntries t5)))) rfl (w_idx t0.mEntries eEntry rfl · · · slT42 rfl rfl e18) ?_
  refine sT 19 (.d (.dp (List.drop 1 (eEntry (rd t0.mEntries t5))))) rfl (v_field_dp (a0 := 1) (cs := (eEntry (rd t0.mEntries t5))) rfl · · · fo116_1 rfl) ?_
  refine sT 20 (.d (.sl 5 ((rd t0.mEntries t5).mChain.map eVersion))) rfl (v_load_dp1 rfl · · · onT96 rfl rfl) ?_
  refine sT 21 (iV ((rd t0.mEntries t5).mChain.length : Int)) rfl (w_len (rd t0.mEntries t5).mChain eVersion rfl rfl · · · slT96 rfl) ?_
  refine sT 22 (bV (ltI t6 ((rd t0.mEntries t5).mChain.length : Int))) rfl (v_bin rfl · · · rfl rfl (b_lss rfl)) ?_
  refine sq_nil ?_
  refine ht_cond rfl (fun e19 => ?_) (fun e19 => ?_)
  ·replace h := cpos e19 h
   refine ht_skip ?_
   refine ht_seq ?_
   refine ht_block ?_
   refine ht_seq ?_
   refine ht_region_draw mixed ?_
   refine rT 25 (.d (.agg (eStamp t1))) rfl (w_ldp (eStamp t1) (eStamp t1) rfl · · · ag24 rfl (ble _ _ rfl) rfl) ?_
   refine rT 26 (.d (.dp (List.drop 5 (eShard t0)))) rfl (v_field_dp (a0 := 5) (cs := (eShard t0)) rfl · · · fo45_4 rfl) ?_
   refine rT 27 (.d (.sl 2 (t0.mEntries.map eEntry))) rfl (v_load_dp1 rfl · · · onT42 rfl rfl) ?_
   refine rM 28 (iV t5) rfl rfl ?_
   obtain ⟨e20, h⟩ := gpos h
   refine rT 29 (.d (.dp (eEntry (rd t0.mEntries t5)))) rfl (w_idx t0.mEntries eEntry rfl · · · slT42 rfl rfl e20) ?_
   refine rT 30 (.d (.dp (List.drop 1 (eEntry (rd t0.mEntries t5))))) rfl (v_field_dp (a0 := 1) (cs := (eEntry (rd t0.mEntries t5))) rfl · · · fo116_1 rfl) ?_
   refine rT 31 (.d (.sl 5 ((rd t0.mEntries t5).mChain.map eVersion))) rfl (v_load_dp1 rfl · · · onT96 rfl rfl) ?_
   refine rM 32 (iV t6) rfl rfl ?_
   obtain ⟨e21, h⟩ := gpos h
   refine rT 33 (.d (.dp (eVersion (rd (rd t0.mEntries t5).mChain t6)))) rfl (w_idx (rd t0.mEntries t5).mChain eVersion rfl · · · slT96 rfl rfl e21) ?_
   refine rT 34 (.d (.dp (eVersion (rd (rd t0.mEntries t5).mChain t6)))) rfl (v_field_dp (a0 := 0) (cs := (eVersion (rd (rd t0.mEntries t5).mChain t6))) rfl · · · fo93_0 rfl) ?_
   refine rT 35 (.d (.agg (eStamp (rd (rd t0.mEntries t5).mChain t6).mAt))) rfl (w_ldp (eVersion (rd (rd t0.mEntries t5).mChain t6)) (eStamp (rd (rd t0.mEntries t5).mChain t6).mAt) rfl · · · ag24 rfl (ble _ _ rfl) rfl) ?_
   obtain ⟨t36, c22, h⟩ := bpos h
   refine rT 36 (bV t36) rfl (w_call (ds := [(.agg (eStamp t1)), (.agg (eStamp (rd (rd t0.mEntries t5).mChain t6).mAt))]) (caps := []) (l := [(.s (.bool t36))]) (s76 k t1 (rd (rd t0.mEntries t5).mChain t6).mAt _ c22) rfl rfl rfl en76 · · · (.inl ⟨rfl, rfl⟩) rfl rfl) ?_
   refine rg_nil ⟨by kernel_rfl, ?_⟩
   refine ht_cond rfl (fun e23 => ?_) (fun e23 => ?_)
   ·replace h := cpos e23 h
    refine sr ?_
    refine sM 4 (bV false) rfl rfl ?_
    refine sq_nil ?_
    refine ht_ret ?_
    cases h
    cases r14 _ rfl
    cases r5 _ rfl
    exact ret1 rfl (.tmp rfl)
   replace h := cneg e23 h
   refine ht_skip ?_
   refine ht_region ?_
   refine sM 23 (iV t6) rfl rfl ?_
   refine sT 24 (iV (IntKind.wrap .i64 (t6 + 1))) rfl (v_bin rfl · · · rfl rfl (b_add rfl)) ?_
   refine sM 6 (iV (IntKind.wrap .i64 (t6 + 1))) rfl rfl ?_
   refine sq_nil ?_
   exact j16 _ _ h (wk_ren _ (fun i => i) rfl ⟨rfl, rfl, rfl, rfl, trivial⟩)
  replace h := cneg e19 h
  refine ht_exit ?_
  refine tq ?_
  refine tq ?_
  refine bq_hit ?_
  cases h
  exact j13 _ _ rfl (wk_ren _ (fun i => i) rfl ⟨rfl, rfl, rfl, trivial⟩)
 replace h := cneg e9 h
 refine ht_exit ?_
 refine tq ?_
 refine tq ?_
 refine bq_hit ?_
 cases h
 exact j4 _ _ rfl (wk_ren _ (fun i => i) rfl trivial)
theorem s22 (k : Nat) (t0 : Cell) (r : Bool) (h : F22 k t0 = some r) : Awp.Spec Tryz.prog amb 22 [(.agg (eCell t0))] (.ds [(.s (.bool r))]) := by
 rw [F22] at h
 refine spec_of Tryz.func22 rfl (ble _ _ rfl) fun w0 ok0 lt0 hA => ?_
 refine sr ?_
 refine sT 1 (.d (.dp (eCell t0))) rfl (v_box_d (cs := (eCell t0)) rfl · · · rfl rfl (ones_of rfl)) ?_
 refine sM 2 (bV false) rfl rfl ?_
 refine sq_nil ?_
 refine ht_seq ?_
 refine sr ?_
 refine sT 4 (.d (.dp (eCell t0))) rfl (v_field_dp (a0 := 0) (cs := (eCell t0)) rfl · · · fo26_0 rfl) ?_
 refine sT 5 (.d (.sl 17 (t0.mShards.map eShard))) rfl (v_load_dp1 rfl · · · onT22 rfl rfl) ?_
 refine sT 6 (iV (t0.mShards.length : Int)) rfl (w_len t0.mShards eShard rfl rfl · · · slT22 rfl) ?_
 refine sT 7 (bV (ltI 8 (t0.mShards.length : Int))) rfl (v_bin rfl · · · rfl rfl (b_gtr rfl)) ?_
 refine sM 8 (bV (ltI 8 (t0.mShards.length : Int))) rfl rfl ?_
 refine sF 9 (.d (.dp (List.drop 1 (eCell t0)))) rfl rfl (fun e1 => (v_field_dp (a0 := 1) (cs := (eCell t0)) rfl · · · fo26_1 rfl)) ?_
 refine sF 10 (.d (.agg (eStamp t0.mTop))) rfl rfl (fun e2 => (w_ldp (List.drop 1 (eCell t0)) (eStamp t0.mTop) rfl · · · ag24 (gv (nF e2)) (ble _ _ rfl) rfl)) ?_
 obtain ⟨t11, c4, h⟩ := bpos h
 refine sF 11 (bV t11) rfl rfl (fun e3 => (w_call (ds := [(.agg (eStamp t0.mTop))]) (caps := []) (l := [(.s (.bool t11))]) (s68 k t0.mTop _ (cpos (nF e3) c4)) rfl rfl rfl en68 · · · (.inl ⟨rfl, rfl⟩) (cc (gv (nF e3)) rfl) rfl)) ?_
 refine sF 12 (bV (!t11)) rfl rfl (fun e5 => (v_un rfl · · · (gv (nF e5)) (u_not rfl))) ?_
 refine sT 13 (bV ((ltI 8 (t0.mShards.length : Int)) || (!t11))) rfl (v_pickB rfl · · · rfl (fun e6 => rfl) (fun e7 => (gv (nF e7))) (pO _ _)) ?_
 refine sM 14 (bV ((ltI 8 (t0.mShards.length : Int)) || (!t11))) rfl rfl ?_
 refine sF 15 (.d (.dp (List.drop 4 (eCell t0)))) rfl rfl (fun e8 => (v_field_dp (a0 := 4) (cs := (eCell t0)) rfl · · · fo26_2 rfl)) ?_
 refine sF 16 (iV t0.mDropped) rfl rfl (fun e9 => (v_load_dp1 rfl · · · onT3 (gv (nF e9)) rfl)) ?_
 obtain ⟨t17, c11, h⟩ := bpos h
 refine sF 17 (bV t17) rfl rfl (fun e10 => (w_call (ds := [(.s (.int .i64 t0.mDropped))]) (caps := []) (l := [(.s (.bool t17))]) (s67 k t0.mDropped _ (cpos (nF e10) c11)) rfl rfl rfl en67 · · · (.inl ⟨rfl, rfl⟩) (cc (gv (nF e10)) rfl) rfl)) ?_
 refine sF 18 (bV (!t17)) rfl rfl (fun e12 => (v_un rfl · · · (gv (nF e12)) (u_not rfl))) ?_
 refine sT 19 (bV (((ltI 8 (t0.mShards.length : Int)) || (!t11)) || (!t17))) rfl (v_pickB rfl · · · rfl (fun e13 => rfl) (fun e14 => (gv (nF e14))) (pO _ _)) ?_
 refine sq_nil ?_
 refine ht_cond rfl (fun e15 => ?_) (fun e15 => ?_)
 ·replace h := cpos e15 h
  refine sr ?_
  refine sM 2 (bV false) rfl rfl ?_
  refine sq_nil ?_
  refine ht_ret ?_
  cases h
  exact ret1 rfl (.tmp rfl)
 replace h := cneg e15 h
 refine ht_skip ?_
 refine ht_gj (go_id' h) (fun _ => tell []) (fun _ h => ?_) (fun v16 K17 h j19 r20 => ?_)
 ·refine sr ?_
  refine sM 2 (bV true) rfl rfl ?_
  refine sq_nil ?_
  refine ht_ret ?_
  cases h
  exact ret1 rfl (.tmp rfl)
 refine sr ?_
 refine sM 3 (iV 0) rfl rfl ?_
 refine sq_nil ?_
 refine ht_block ?_
 refine ht_rd h (fun _ => rfl) (fun t3 => tell [(.t 1, .d (.dp (eCell t0))), (.t 3, iV t3)]) (wk_ren _ (fun i => i) rfl ⟨rfl, rfl, trivial⟩) fun k t3 h K79 j22 => ?_
 rw [F22_l1] at h
 refine ht_seq ?_
 refine sr ?_
 refine sM 20 (iV t3) rfl rfl ?_
 refine sT 21 (.d (.dp (eCell t0))) rfl (v_field_dp (a0 := 0) (cs := (eCell t0)) rfl · · · fo26_0 rfl) ?_
 refine sT 22 (.d (.sl 17 (t0.mShards.map eShard))) rfl (v_load_dp1 rfl · · · onT22 rfl rfl) ?_
 refine sT 23 (iV (t0.mShards.length : Int)) rfl (w_len t0.mShards eShard rfl rfl · · · slT22 rfl) ?_
 refine sT 24 (bV (ltI t3 (t0.mShards.length : Int))) rfl (v_bin rfl · · · rfl rfl (b_lss rfl)) ?_
 refine sq_nil ?_
 refine ht_cond rfl (fun e24 => ?_) (fun e24 => ?_)
 ·replace h := cpos e24 h
  refine ht_skip ?_
  refine ht_seq ?_
  refine ht_block ?_
  refine ht_seq ?_
  refine ht_region_draw mixed ?_
  refine rT 27 (.d (.dp (eCell t0))) rfl (v_field_dp (a0 := 0) (cs := (eCell t0)) rfl · · · fo26_0 rfl) ?_
  refine rT 28 (.d (.sl 17 (t0.mShards.map eShard))) rfl (v_load_dp1 rfl · · · onT22 rfl rfl) ?_
  refine rM 29 (iV t3) rfl rfl ?_
  obtain ⟨e25, h⟩ := gpos h
  refine rT 30 (.d (.dp (eShard (rd t0.mShards t3)))) rfl (w_idx t0.mShards eShard rfl · · · slT22 rfl rfl e25) ?_
  refine rT 31 (.d (.agg (eShard (rd t0.mShards t3)))) rfl (w_ldp (eShard (rd t0.mShards t3)) (eShard (rd t0.mShards t3)) rfl · · · ag45 rfl (ble _ _ rfl) rfl) ?_
  obtain ⟨t32, c26, h⟩ := bpos h
  refine rT 32 (bV t32) rfl (w_call (ds := [(.agg (eShard (rd t0.mShards t3)))]) (caps := []) (l := [(.s (.bool t32))]) (s21 k (rd t0.mShards t3) _ c26) rfl rfl rfl en21 · · · (.inl ⟨rfl, rfl⟩) rfl rfl) ?_
  refine rT 33 (bV (!t32)) rfl (v_un rfl · · · rfl (u_not rfl)) ?_
  refine rM 34 (bV (!t32)) rfl rfl ?_
  refine rF 35 (.d (.dp (eCell t0))) rfl rfl (fun e27 => (v_field_dp (a0 := 0) (cs := (eCell t0)) rfl · · · fo26_0 rfl)) ?_
  refine rF 36 (.d (.sl 17 (t0.mShards.map eShard))) rfl rfl (fun e28 => (v_load_dp1 rfl · · · onT22 (gv (nF e28)) rfl)) ?_
  refine rF 37 (iV t3) rfl rfl (fun e29 => (v_move (.inl rfl) · · · rfl)) ?_
  obtain ⟨e31, h⟩ := gpos h
  refine rF 38 (.d (.dp (eShard (rd t0.mShards t3)))) rfl rfl (fun e30 => (w_idx t0.mShards eShard rfl · · · slT22 (gv (nF e30)) (gv (nF e30)) (orT e31 (nF e30)))) ?_
  refine rF 39 (.d (.agg (eShard (rd t0.mShards t3)))) rfl rfl (fun e32 => (w_ldp (eShard (rd t0.mShards t3)) (eShard (rd t0.mShards t3)) rfl · · · ag45 (gv (nF e32)) (ble _ _ rfl) rfl)) ?_
  refine rF 40 (.d (.dp (List.drop 1 (eCell t0)))) rfl rfl (fun e33 => (v_field_dp (a0 := 1) (cs := (eCell t0)) rfl · · · fo26_1 rfl)) ?_
  refine rF 41 (.d (.agg (eStamp t0.mTop))) rfl rfl (fun e34 => (w_ldp (List.drop 1 (eCell t0)) (eStamp t0.mTop) rfl · · · ag24 (gv (nF e34)) (ble _ _ rfl) rfl)) ?_
  obtain ⟨t42, c36, h⟩ := bpos h
  refine rF 42 (bV t42) rfl rfl (fun e35 => (w_call (ds := [(.agg (eShard (rd t0.mShards t3))), (.agg (eStamp t0.mTop))]) (caps := []) (l := [(.s (.bool t42))]) (s89 k (rd t0.mShards t3) t0.mTop _ (cpos (nF e35) c36)) rfl rfl rfl en89 · · · (.inl ⟨rfl, rfl⟩) (cc (gv (nF e35)) (cc (gv (nF e35)) rfl)) rfl)) ?_
  refine rF 43 (bV (!t42)) rfl rfl (fun e37 => (v_un rfl · · · (gv (nF e37)) (u_not rfl))) ?_
  refine rT 44 (bV ((!t32) || (!t42))) rfl (v_pickB rfl · · · rfl (fun e38 => rfl) (fun e39 => (gv (nF e39))) (pO _ _)) ?_
  refine rM 45 (bV ((!t32) || (!t42))) rfl rfl ?_
  refine rF 46 (iV t3) rfl rfl (fun e40 => (v_move (.inl rfl) · · · rfl)) ?_
  refine rF 47 (bV (ltI 0 t3)) rfl rfl (fun e41 => (v_bin rfl · · · (gv (nF e41)) rfl (b_gtr rfl))) ?_
  refine rF 48 (bV (ltI 0 t3)) rfl rfl (fun e42 => (v_move (.inl rfl) · · · (gv (nF e42)))) ?_
  refine rI 49 (.d (.dp (eCell t0))) rfl rfl (fun e43 e44 => (v_field_dp (a0 := 0) (cs := (eCell t0)) rfl · · · fo26_0 rfl)) ?_
  refine rI 50 (.d (.sl 17 (t0.mShards.map eShard))) rfl rfl (fun e45 e46 => (v_load_dp1 rfl · · · onT22 (gv (aT e45 e46)) rfl)) ?_
  refine rI 51 (iV t3) rfl rfl (fun e47 e48 => (v_move (.inl rfl) · · · rfl)) ?_
  refine rI 52 (iV (IntKind.wrap .i64 (t3 - 1))) rfl rfl (fun e49 e50 => (v_bin rfl · · · (gv (aT e49 e50)) rfl (b_sub rfl))) ?_
  obtain ⟨e53, h⟩ := gpos h
  refine rI 53 (.d (.dp (eShard (rd t0.mShards (IntKind.wrap .i64 (t3 - 1)))))) rfl rfl (fun e51 e52 => (w_idx t0.mShards eShard rfl · · · slT22 (gv (aT e51 e52)) (gv (aT e51 e52)) (orT e53 (aT e51 e52)))) ?_
  refine rI 54 (.d (.dp (eShard (rd t0.mShards (IntKind.wrap .i64 (t3 - 1)))))) rfl rfl (fun e54 e55 => (v_field_dp (a0 := 0) (cs := (eShard (rd t0.mShards (IntKind.wrap .i64 (t3 - 1))))) rfl · · · fo45_0 (gv (aT e54 e55)))) ?_
  refine rI 55 (iV (rd t0.mShards (IntKind.wrap .i64 (t3 - 1))).mID) rfl rfl (fun e56 e57 => (v_load_dp1 rfl · · · onT3 (gv (aT e56 e57)) rfl)) ?_
  refine rI 56 (.d (.dp (eCell t0))) rfl rfl (fun e58 e59 => (v_field_dp (a0 := 0) (cs := (eCell t0)) rfl · · · fo26_0 rfl)) ?_
  refine rI 57 (.d (.sl 17 (t0.mShards.map eShard))) rfl rfl (fun e60 e61 => (v_load_dp1 rfl · · · onT22 (gv (aT e60 e61)) rfl)) ?_
  refine rI 58 (iV t3) rfl rfl (fun e62 e63 => (v_move (.inl rfl) · · · rfl)) ?_
  obtain ⟨e66, h⟩ := gpos h
  refine rI 59 (.d (.dp (eShard (rd t0.mShards t3)))) rfl rfl (fun e64 e65 => (w_idx t0.mShards eShard rfl · · · slT22 (gv (aT e64 e65)) (gv (aT e64 e65)) (orT e66 (aT e64 e65)))) ?_
  refine rI 60 (.d (.dp (eShard (rd t0.mShards t3)))) rfl rfl (fun e67 e68 => (v_field_dp (a0 := 0) (cs := (eShard (rd t0.mShards t3))) rfl · · · fo45_0 (gv (aT e67 e68)))) ?_
  refine rI 61 (iV (rd t0.mShards t3).mID) rfl rfl (fun e69 e70 => (v_load_dp1 rfl · · · onT3 (gv (aT e69 e70)) rfl)) ?_
  refine rI 62 (bV (leI (rd t0.mShards t3).mID (rd t0.mShards (IntKind.wrap .i64 (t3 - 1))).mID)) rfl rfl (fun e71 e72 => (v_bin rfl · · · (gv (aT e71 e72)) (gv (aT e71 e72)) (b_geq rfl))) ?_
  refine rF 63 (bV ((ltI 0 t3) && (leI (rd t0.mShards t3).mID (rd t0.mShards (IntKind.wrap .i64 (t3 - 1))).mID))) rfl rfl (fun e73 => (v_pickB rfl · · · (gv (nF e73)) (fun e74 => (gv (aT (nF e73) e74))) (fun e75 => rfl) (pA _ _))) ?_
  refine rT 64 (bV (((!t32) || (!t42)) || ((ltI 0 t3) && (leI (rd t0.mShards t3).mID (rd t0.mShards (IntKind.wrap .i64 (t3 - 1))).mID)))) rfl (v_pickB rfl · · · rfl (fun e76 => rfl) (fun e77 => (gv (nF e77))) (pO _ _)) ?_
  refine rg_nil ⟨by kernel_rfl, ?_⟩
  refine ht_cond rfl (fun e78 => ?_) (fun e78 => ?_)
  ·replace h := cpos e78 h
   refine sr ?_
   refine sM 2 (bV false) rfl rfl ?_
   refine sq_nil ?_
   refine ht_ret ?_
   cases h
   cases r20 _ rfl
   exact ret1 rfl (.tmp rfl)
  replace h := cneg e78 h
  refine ht_skip ?_
  refine ht_region ?_
  refine sM 25 (iV t3) rfl rfl ?_
  refine sT 26 (iV (IntKind.wrap .i64 (t3 + 1))) rfl (v_bin rfl · · · rfl rfl (b_add rfl)) ?_
  refine sM 3 (iV (IntKind.wrap .i64 (t3 + 1))) rfl rfl ?_
  refine sq_nil ?_
  exact j22 _ _ h (wk_ren _ (fun i => i) rfl ⟨rfl, rfl, trivial⟩)
 replace h := cneg e24 h
 refine ht_exit ?_
 refine tq ?_
 refine tq ?_
 refine bq_hit ?_
 cases h
 exact j19 _ _ rfl (wk_ren _ (fun i => i) rfl trivial)
theorem s24 (k : Nat) (t0 : Cell) (t1 : Int) (r : Shard) (h : F24 k t0 t1 = some r) : Awp.Spec Tryz.prog amb 24 [(.agg (eCell t0)), (.s (.int .i64 t1))] (.ds [(.agg (eShard r))]) := by
 rw [F24] at h
 refine spec_of Tryz.func24 rfl (ble _ _ rfl) fun w0 ok0 lt0 hA => ?_
 refine sr ?_
 refine sT 2 (.d (.dp (eCell t0))) rfl (v_box_d (cs := (eCell t0)) rfl · · · rfl rfl (ones_of rfl)) ?_
 refine sq_cons _ (v_alloc (id := 4) (cs := zc45) rfl trivial rfl (ble _ _ rfl) zu45 rfl ft45 rfl) ?_
 refine sq_nil ?_
 refine ht_gj (go_id' h) (fun _ => tell [(.b 4, .box false 17), (.c 4 0, iV 0), (.c 4 1, iV 0), (.c 4 2, sV (⟨#[]⟩ : ByteArray)), (.c 4 3, sV (⟨#[]⟩ : ByteArray)), (.c 4 4, iV 0), (.c 4 5, .d (.sl 2 (([] : List Entry).map eEntry))), (.c 4 6, iV 0), (.c 4 7, iV 0), (.c 4 8, iV 0), (.c 4 9, iV 0), (.c 4 10, iV 0), (.c 4 11, iV 0), (.c 4 12, .d (.sl 11 (([] : List Done).map eDone))), (.c 4 13, iV 0), (.c 4 14, iV 0), (.c 4 15, iV 0), (.c 4 16, iV 0), (.t 4, .ptr 4 0)]) (fun _ h => ?_) (fun v1 K2 h j4 r5 => ?_)
 ·refine sr ?_
  refine sT 26 (.d (.agg (eShard (⟨0, 0, (⟨⟨#[]⟩, ⟨#[]⟩⟩ : Span), 0, [], (⟨0, 0, 0⟩ : Stamp), (⟨0, 0, 0⟩ : Stamp), [], 0, 0, 0, 0⟩ : Shard)))) rfl (w_bld zc45 ((eShard (⟨0, 0, (⟨⟨#[]⟩, ⟨#[]⟩⟩ : Span), 0, [], (⟨0, 0, 0⟩ : Stamp), (⟨0, 0, 0⟩ : Stamp), [], 0, 0, 0, 0⟩ : Shard)).map V.d) [] rfl · · · zw45 rfl ft45 rfl rfl rfl rfl) ?_
  refine sq_cons _ (v_store_box (id := 4) (off := 0) (cs := (eShard (⟨0, 0, (⟨⟨#[]⟩, ⟨#[]⟩⟩ : Span), 0, [], (⟨0, 0, 0⟩ : Stamp), (⟨0, 0, 0⟩ : Stamp), [], 0, 0, 0, 0⟩ : Shard)).map V.d) rfl trivial rfl sz45 rfl rfl rfl rfl (ones_of rfl) (ble _ _ rfl)) ?_
  refine sq_nil ?_
  refine ht_ret ?_
  cases h
  exact ret1 rfl (.cell rfl rfl ag45 (ble _ _ rfl) rfl)
 refine sr ?_
 refine sM 5 (iV 0) rfl rfl ?_
 refine sq_nil ?_
 refine ht_block ?_
 refine ht_rd h (fun _ => rfl) (fun t5 => tell [(.b 4, .box false 17), (.c 4 0, iV 0), (.c 4 1, iV 0), (.c 4 2, sV (⟨#[]⟩ : ByteArray)), (.c 4 3, sV (⟨#[]⟩ : ByteArray)), (.c 4 4, iV 0), (.c 4 5, .d (.sl 2 (([] : List Entry).map eEntry))), (.c 4 6, iV 0), (.c 4 7, iV 0), (.c 4 8, iV 0), (.c 4 9, iV 0), (.c 4 10, iV 0), (.c 4 11, iV 0), (.c 4 12, .d (.sl 11 (([] : List Done).map eDone))), (.c 4 13, iV 0), (.c 4 14, iV 0), (.c 4 15, iV 0), (.c 4 16, iV 0), (.t 1, iV t1), (.t 2, .d (.dp (eCell t0))), (.t 4, .ptr 4 0), (.t 5, iV t5)]) (wk_ren _ (fun i => i) rfl ⟨rfl, rfl, rfl, rfl, rfl, rfl, rfl, rfl, rfl, rfl, rfl, rfl, rfl, rfl, rfl, rfl, rfl, rfl, rfl, rfl, rfl, rfl, trivial⟩) fun k t5 h K13 j7 => ?_
 rw [F24_l1] at h
 refine ht_seq ?_
 refine sr ?_
 refine sM 6 (iV t5) rfl rfl ?_
 refine sT 7 (.d (.dp (eCell t0))) rfl (v_field_dp (a0 := 0) (cs := (eCell t0)) rfl · · · fo26_0 rfl) ?_
 refine sT 8 (.d (.sl 17 (t0.mShards.map eShard))) rfl (v_load_dp1 rfl · · · onT22 rfl rfl) ?_
 refine sT 9 (iV (t0.mShards.length : Int)) rfl (w_len t0.mShards eShard rfl rfl · · · slT22 rfl) ?_
 refine sT 10 (bV (ltI t5 (t0.mShards.length : Int))) rfl (v_bin rfl · · · rfl rfl (b_lss rfl)) ?_
 refine sq_nil ?_
 refine ht_cond rfl (fun e9 => ?_) (fun e9 => ?_)
 ·replace h := cpos e9 h
  refine ht_skip ?_
  refine ht_seq ?_
  refine ht_block ?_
  refine sr ?_
  refine sT 13 (.d (.dp (eCell t0))) rfl (v_field_dp (a0 := 0) (cs := (eCell t0)) rfl · · · fo26_0 rfl) ?_
  refine sT 14 (.d (.sl 17 (t0.mShards.map eShard))) rfl (v_load_dp1 rfl · · · onT22 rfl rfl) ?_
  refine sM 15 (iV t5) rfl rfl ?_
  obtain ⟨e10, h⟩ := gpos h
  refine sT 16 (.d (.dp (eShard (rd t0.mShards t5)))) rfl (w_idx t0.mShards eShard rfl · · · slT22 rfl rfl e10) ?_
  refine sT 17 (.d (.dp (eShard (rd t0.mShards t5)))) rfl (v_field_dp (a0 := 0) (cs := (eShard (rd t0.mShards t5))) rfl · · · fo45_0 rfl) ?_
  refine sT 18 (iV (rd t0.mShards t5).mID) rfl (v_load_dp1 rfl · · · onT3 rfl rfl) ?_
  refine sM 19 (iV t1) rfl rfl ?_
  refine sT 20 (bV (eqI (rd t0.mShards t5).mID t1)) rfl (v_bin rfl · · · rfl rfl (b_eql rfl)) ?_
  refine sq_nil ?_
  refine ht_cond rfl (fun e11 => ?_) (fun e11 => ?_)
  ·replace h := cpos e11 h
   refine sr ?_
   refine sT 21 (.d (.dp (eCell t0))) rfl (v_field_dp (a0 := 0) (cs := (eCell t0)) rfl · · · fo26_0 rfl) ?_
   refine sT 22 (.d (.sl 17 (t0.mShards.map eShard))) rfl (v_load_dp1 rfl · · · onT22 rfl rfl) ?_
   refine sM 23 (iV t5) rfl rfl ?_
   obtain ⟨e12, h⟩ := gpos h
   refine sT 24 (.d (.dp (eShard (rd t0.mShards t5)))) rfl (w_idx t0.mShards eShard rfl · · · slT22 rfl rfl e12) ?_
   refine sT 25 (.d (.agg (eShard (rd t0.mShards t5)))) rfl (w_ldp (eShard (rd t0.mShards t5)) (eShard (rd t0.mShards t5)) rfl · · · ag45 rfl (ble _ _ rfl) rfl) ?_
   refine sq_cons _ (v_store_box (id := 4) (off := 0) (cs := (eShard (rd t0.mShards t5)).map V.d) rfl trivial rfl sz45 rfl rfl rfl rfl (ones_of rfl) (ble _ _ rfl)) ?_
   refine sq_nil ?_
   refine ht_ret ?_
   cases h
   cases r5 _ rfl
   exact ret1 rfl (.cell rfl rfl ag45 (ble _ _ rfl) rfl)
  replace h := cneg e11 h
  refine ht_skip ?_
  refine ht_region ?_
  refine sM 11 (iV t5) rfl rfl ?_
  refine sT 12 (iV (IntKind.wrap .i64 (t5 + 1))) rfl (v_bin rfl · · · rfl rfl (b_add rfl)) ?_
  refine sM 5 (iV (IntKind.wrap .i64 (t5 + 1))) rfl rfl ?_
  refine sq_nil ?_
  exact j7 _ _ h (wk_ren _ (fun i => i) rfl ⟨rfl, rfl, rfl, rfl, rfl, rfl, rfl, rfl, rfl, rfl, rfl, rfl, rfl, rfl, rfl, rfl, rfl, rfl, rfl, rfl, rfl, rfl, trivial⟩)
 replace h := cneg e9 h
 refine ht_exit ?_
 refine tq ?_
 refine tq ?_
 refine bq_hit ?_
 cases h
 exact j4 _ _ rfl (wk_ren _ (fun i => i) rfl ⟨rfl, rfl, rfl, rfl, rfl, rfl, rfl, rfl, rfl, rfl, rfl, rfl, rfl, rfl, rfl, rfl, rfl, rfl, rfl, trivial⟩)
theorem s79 (k : Nat) (t0 : Cell) (t1 : Shard) (t2 : Bool) (r : Cell) (h : F79 k t0 t1 t2 = some r) : Awp.Spec Tryz.prog amb 79 [(.agg (eCell t0)), (.agg (eShard t1)), (.s (.bool t2))] (.ds [(.agg (eCell r))]) := by
 rw [F79] at h
 refine spec_of Tryz.func79 rfl (ble _ _ rfl) fun w0 ok0 lt0 hA => ?_
 refine sr ?_
 refine sq_cons _ (v_box (id := 3) (cs := (eCell t0).map V.d) rfl trivial rfl (ble _ _ rfl) rfl rfl (ones_of rfl) rfl) ?_
 refine sT 4 (.d (.dp (eShard t1))) rfl (v_box_d (cs := (eShard t1)) rfl · · · rfl rfl (ones_of rfl)) ?_
 refine sq_cons _ (v_alloc (id := 6) (cs := zc26) rfl trivial rfl (ble _ _ rfl) zu26 rfl ft26 rfl) ?_
 refine sq_nil ?_
 refine sr ?_
 refine sM 7 (.d (.s (.slice none 0 0))) rfl rfl ?_
 refine sq_nil ?_
 refine sr ?_
 refine sM 10 (bV t2) rfl rfl ?_
 refine sM 8 (bV t2) rfl rfl ?_
 refine sq_nil ?_
 refine ht_bj h (fun (t7, t8) => tell [(.b 3, .box false 5), (.b 6, .box false 5), (.b 1007, .row false 45 17 (t7.map eShard)), (.c 3 0, .d (.sl 17 (t0.mShards.map eShard))), (.c 3 1, iV t0.mTop.mWall), (.c 3 2, iV t0.mTop.mTick), (.c 3 3, iV t0.mTop.mNode), (.c 3 4, iV t0.mDropped), (.c 6 0, .d (.sl 17 (([] : List Shard).map eShard))), (.c 6 1, iV 0), (.c 6 2, iV 0), (.c 6 3, iV 0), (.c 6 4, iV 0), (.t 3, .ptr 3 0), (.t 4, .d (.dp (eShard t1))), (.t 6, .ptr 6 0), (.t 7, .own 1007 17 t7.length), (.t 8, bV t8)]) (fun v1 h => ?_) (fun v1 K2 h j4 => ?_)
 ·obtain ⟨t7, t8⟩ := v1
  refine ht_seq ?_
  refine sr ?_
  refine sM 52 (bV t8) rfl rfl ?_
  refine sT 53 (bV (!t8)) rfl (v_un rfl · · · rfl (u_not rfl)) ?_
  refine sq_nil ?_
  refine ht_cond rfl (fun e34 => ?_) (fun e34 => ?_)
  ·replace h := cpos e34 h
   refine ht_region ?_
   refine sM 54 (.own 1007 17 t7.length) rfl rfl ?_
   refine sT 55 (.d (.agg (eShard t1))) rfl (w_ldp (eShard t1) (eShard t1) rfl · · · ag45 rfl (ble _ _ rfl) rfl) ?_
   refine sq_cons ⟨_, [(.b 56, .row false 45 17 (([t1]).map eShard)), (.t 56, .own 56 17 ([t1]).length)]⟩ (w_bsl (id := 56) [(0, .d (.agg (eShard t1)))] [t1] eShard rfl trivial rfl (ble _ _ rfl) slT22 zr45 teShard (ble _ _ rfl) rfl (by kernel_rfl) rfl rfl (by kernel_rfl) (by kernel_rfl)) ?_
   obtain ⟨e35, h⟩ := gpos h
   refine sq_cons ⟨_, [(.b 1007, .spent), (.b 57, .row false 45 17 ((t7 ++ [t1]).map eShard)), (.t 57, .own 57 17 (t7 ++ [t1]).length)]⟩ (w_app 57 t7 ([t1]) eShard rfl rfl trivial rfl (ble _ _ rfl) slT22 elT45 teShard rfl rfl rfl (.own 56 _ _ rfl) rfl e35) ?_
   refine sM 7 (.own 57 17 (t7 ++ [t1]).length) rfl rfl ?_
   refine sq_nil ?_
   refine sr ?_
   refine sM 58 (.own 57 17 (t7 ++ [t1]).length) rfl rfl ?_
   refine sT 59 (.ptr 3 0) rfl (v_field_box (off := 0) (a0 := 0) rfl · · · fo26_0 rfl) ?_
   refine sq_cons _ (v_store_box (id := 3) (off := 0) (cs := [.own 57 17 (t7 ++ [t1]).length]) rfl trivial rfl sz22 rfl rfl rfl rfl (ones_of rfl) (ble _ _ rfl)) ?_
   refine sq_nil ?_
   refine ht_seq ?_
   refine ht_weak (wk_still_row 57 _ _ _ rfl) ?_
   refine ht_weak (wk_row (.c 3 0) (nc 3 0) 57 _ _ _ _ rfl rfl (lm _ _)) ?_
   refine ht_weak (wk_row (.t 7) (nb 7) 57 _ _ _ _ rfl rfl (lm _ _)) ?_
   refine ht_weak (wk_row (.t 57) (nb 57) 57 _ _ _ _ rfl rfl (lm _ _)) ?_
   refine ht_weak (wk_row (.t 58) (nb 58) 57 _ _ _ _ rfl rfl (lm _ _)) ?_
   refine ht_region ?_
   refine sT 60 (.d (.agg (eCell ({t0 with mShards := (t7 ++ [t1])})))) rfl (w_ldb 3 0 rfl · · · ag26 rfl rfl (ble _ _ rfl) rfl) ?_
   refine sq_cons _ (v_store_box (id := 6) (off := 0) (cs := (eCell ({t0 with mShards := (t7 ++ [t1])})).map V.d) rfl trivial rfl sz26 rfl rfl rfl rfl (ones_of rfl) (ble _ _ rfl)) ?_
   refine sq_nil ?_
   refine ht_ret ?_
   cases h
   exact ret1 rfl (.cell rfl rfl ag26 (ble _ _ rfl) rfl)
  replace h := cneg e34 h
  refine ht_skip ?_
  refine sr ?_
  refine sM 58 (.own 1007 17 t7.length) rfl rfl ?_
  refine sT 59 (.ptr 3 0) rfl (v_field_box (off := 0) (a0 := 0) rfl · · · fo26_0 rfl) ?_
  refine sq_cons _ (v_store_box (id := 3) (off := 0) (cs := [.own 1007 17 t7.length]) rfl trivial rfl sz22 rfl rfl rfl rfl (ones_of rfl) (ble _ _ rfl)) ?_
  refine sq_nil ?_
  refine ht_seq ?_
  refine ht_weak (wk_still_row 1007 _ _ _ rfl) ?_
  refine ht_weak (wk_row (.c 3 0) (nc 3 0) 1007 _ _ _ _ rfl rfl (lm _ _)) ?_
  refine ht_weak (wk_row (.t 7) (nb 7) 1007 _ _ _ _ rfl rfl (lm _ _)) ?_
  refine ht_weak (wk_row (.t 58) (nb 58) 1007 _ _ _ _ rfl rfl (lm _ _)) ?_
  refine ht_region ?_
  refine sT 60 (.d (.agg (eCell ({t0 with mShards := t7})))) rfl (w_ldb 3 0 rfl · · · ag26 rfl rfl (ble _ _ rfl) rfl) ?_
  refine sq_cons _ (v_store_box (id := 6) (off := 0) (cs := (eCell ({t0 with mShards := t7})).map V.d) rfl trivial rfl sz26 rfl rfl rfl rfl (ones_of rfl) (ble _ _ rfl)) ?_
  refine sq_nil ?_
  refine ht_ret ?_
  cases h
  exact ret1 rfl (.cell rfl rfl ag26 (ble _ _ rfl) rfl)
 refine sr ?_
 refine sM 9 (iV 0) rfl rfl ?_
 refine sq_nil ?_
 refine ht_block ?_
 refine ht_rd h (fun _ => rfl) (fun (t7_1, t8_1, t9) => tell [(.b 3, .box false 5), (.b 6, .box false 5), (.b 1007, .row false 45 17 (t7_1.map eShard)), (.c 3 0, .d (.sl 17 (t0.mShards.map eShard))), (.c 3 1, iV t0.mTop.mWall), (.c 3 2, iV t0.mTop.mTick), (.c 3 3, iV t0.mTop.mNode), (.c 3 4, iV t0.mDropped), (.c 6 0, .d (.sl 17 (([] : List Shard).map eShard))), (.c 6 1, iV 0), (.c 6 2, iV 0), (.c 6 3, iV 0), (.c 6 4, iV 0), (.t 3, .ptr 3 0), (.t 4, .d (.dp (eShard t1))), (.t 6, .ptr 6 0), (.t 7, .own 1007 17 t7_1.length), (.t 8, bV t8_1), (.t 9, iV t9)]) (wkt (wk_nilrow (.t 7) (nb 7) 1001007 45 17 rfl rfl) (wk_ren _ (fun i => bif Nat.beq i 1007 then 1001007 else i) rfl ⟨rfl, rfl, rfl, rfl, rfl, rfl, rfl, rfl, rfl, rfl, rfl, rfl, rfl, rfl, rfl, rfl, rfl, rfl, rfl, trivial⟩)) fun k v8 h K33 j7 => ?_
 obtain ⟨t7_1, t8_1, t9⟩ := v8
 rw [F79_l1] at h
 refine ht_seq ?_
 refine sr ?_
 refine sM 11 (iV t9) rfl rfl ?_
 refine sT 12 (.ptr 3 0) rfl (v_field_box (off := 0) (a0 := 0) rfl · · · fo26_0 rfl) ?_
 refine sT 13 (.d (.sl 17 (t0.mShards.map eShard))) rfl (v_load_box1 (id := 3) (off := 0) rfl · · · onT22 rfl rfl (ble _ _ rfl) rfl) ?_
 refine sT 14 (iV (t0.mShards.length : Int)) rfl (w_len t0.mShards eShard rfl rfl · · · slT22 rfl) ?_
 refine sT 15 (bV (ltI t9 (t0.mShards.length : Int))) rfl (v_bin rfl · · · rfl rfl (b_lss rfl)) ?_
 refine sq_nil ?_
 refine ht_cond rfl (fun e9 => ?_) (fun e9 => ?_)
 ·replace h := cpos e9 h
  refine ht_skip ?_
  refine ht_seq ?_
  refine ht_block ?_
  refine ht_bj h (fun (t7_2, t8_2) => tell [(.b 3, .box false 5), (.b 6, .box false 5), (.b 1007, .row false 45 17 (t7_2.map eShard)), (.c 3 0, .d (.sl 17 (t0.mShards.map eShard))), (.c 3 1, iV t0.mTop.mWall), (.c 3 2, iV t0.mTop.mTick), (.c 3 3, iV t0.mTop.mNode), (.c 3 4, iV t0.mDropped), (.c 6 0, .d (.sl 17 (([] : List Shard).map eShard))), (.c 6 1, iV 0), (.c 6 2, iV 0), (.c 6 3, iV 0), (.c 6 4, iV 0), (.t 3, .ptr 3 0), (.t 4, .d (.dp (eShard t1))), (.t 6, .ptr 6 0), (.t 7, .own 1007 17 t7_2.length), (.t 8, bV t8_2), (.t 9, iV t9)]) (fun v10 h => ?_) (fun v10 K11 h j13 => ?_)
  ·obtain ⟨t7_2, t8_2⟩ := v10
   refine ht_seq ?_
   refine ht_region_draw mixed ?_
   refine rT 35 (.ptr 3 0) rfl (v_field_box (off := 0) (a0 := 0) rfl · · · fo26_0 rfl) ?_
   refine rT 36 (.d (.sl 17 (t0.mShards.map eShard))) rfl (v_load_box1 (id := 3) (off := 0) rfl · · · onT22 rfl rfl (ble _ _ rfl) rfl) ?_
   refine rM 37 (iV t9) rfl rfl ?_
   obtain ⟨e29, h⟩ := gpos h
   refine rT 38 (.d (.dp (eShard (rd t0.mShards t9)))) rfl (w_idx t0.mShards eShard rfl · · · slT22 rfl rfl e29) ?_
   refine rT 39 (.d (.dp (eShard (rd t0.mShards t9)))) rfl (v_field_dp (a0 := 0) (cs := (eShard (rd t0.mShards t9))) rfl · · · fo45_0 rfl) ?_
   refine rT 40 (iV (rd t0.mShards t9).mID) rfl (v_load_dp1 rfl · · · onT3 rfl rfl) ?_
   refine rT 41 (.d (.dp (eShard t1))) rfl (v_field_dp (a0 := 0) (cs := (eShard t1)) rfl · · · fo45_0 rfl) ?_
   refine rT 42 (iV t1.mID) rfl (v_load_dp1 rfl · · · onT3 rfl rfl) ?_
   refine rT 43 (bV (!eqI (rd t0.mShards t9).mID t1.mID)) rfl (v_bin rfl · · · rfl rfl (b_neq rfl)) ?_
   refine rg_nil ⟨by kernel_rfl, ?_⟩
   refine ht_cond rfl (fun e30 => ?_) (fun e30 => ?_)
   ·replace h := cpos e30 h
    refine ht_region ?_
    refine sM 44 (.own 1007 17 t7_2.length) rfl rfl ?_
    refine sT 45 (.ptr 3 0) rfl (v_field_box (off := 0) (a0 := 0) rfl · · · fo26_0 rfl) ?_
    refine sT 46 (.d (.sl 17 (t0.mShards.map eShard))) rfl (v_load_box1 (id := 3) (off := 0) rfl · · · onT22 rfl rfl (ble _ _ rfl) rfl) ?_
    refine sM 47 (iV t9) rfl rfl ?_
    obtain ⟨e31, h⟩ := gpos h
    refine sT 48 (.d (.dp (eShard (rd t0.mShards t9)))) rfl (w_idx t0.mShards eShard rfl · · · slT22 rfl rfl e31) ?_
    refine sT 49 (.d (.agg (eShard (rd t0.mShards t9)))) rfl (w_ldp (eShard (rd t0.mShards t9)) (eShard (rd t0.mShards t9)) rfl · · · ag45 rfl (ble _ _ rfl) rfl) ?_
    refine sq_cons ⟨_, [(.b 50, .row false 45 17 (([(rd t0.mShards t9)]).map eShard)), (.t 50, .own 50 17 ([(rd t0.mShards t9)]).length)]⟩ (w_bsl (id := 50) [(0, .d (.agg (eShard (rd t0.mShards t9))))] [(rd t0.mShards t9)] eShard rfl trivial rfl (ble _ _ rfl) slT22 zr45 teShard (ble _ _ rfl) rfl (by kernel_rfl) rfl rfl (by kernel_rfl) (by kernel_rfl)) ?_
    obtain ⟨e32, h⟩ := gpos h
    refine sq_cons ⟨_, [(.b 1007, .spent), (.b 51, .row false 45 17 ((t7_2 ++ [(rd t0.mShards t9)]).map eShard)), (.t 51, .own 51 17 (t7_2 ++ [(rd t0.mShards t9)]).length)]⟩ (w_app 51 t7_2 ([(rd t0.mShards t9)]) eShard rfl rfl trivial rfl (ble _ _ rfl) slT22 elT45 teShard rfl rfl rfl (.own 50 _ _ rfl) rfl e32) ?_
    refine sM 7 (.own 51 17 (t7_2 ++ [(rd t0.mShards t9)]).length) rfl rfl ?_
    refine sq_nil ?_
    refine ht_region ?_
    refine sM 16 (iV t9) rfl rfl ?_
    refine sT 17 (iV (IntKind.wrap .i64 (t9 + 1))) rfl (v_bin rfl · · · rfl rfl (b_add rfl)) ?_
    refine sM 9 (iV (IntKind.wrap .i64 (t9 + 1))) rfl rfl ?_
    refine sq_nil ?_
    exact j7 _ _ h (wk_ren _ (fun i => bif Nat.beq i 1007 then 51 else i) rfl ⟨rfl, rfl, rfl, rfl, rfl, rfl, rfl, rfl, rfl, rfl, rfl, rfl, rfl, rfl, rfl, rfl, rfl, rfl, rfl, trivial⟩)
   replace h := cneg e30 h
   refine ht_skip ?_
   refine ht_region ?_
   refine sM 16 (iV t9) rfl rfl ?_
   refine sT 17 (iV (IntKind.wrap .i64 (t9 + 1))) rfl (v_bin rfl · · · rfl rfl (b_add rfl)) ?_
   refine sM 9 (iV (IntKind.wrap .i64 (t9 + 1))) rfl rfl ?_
   refine sq_nil ?_
   exact j7 _ _ h (wk_ren _ (fun i => i) rfl ⟨rfl, rfl, rfl, rfl, rfl, rfl, rfl, rfl, rfl, rfl, rfl, rfl, rfl, rfl, rfl, rfl, rfl, rfl, rfl, trivial⟩)
  refine ht_seq ?_
  refine ht_region_draw mixed ?_
  refine rM 18 (bV t8_1) rfl rfl ?_
  refine rT 19 (bV (!t8_1)) rfl (v_un rfl · · · rfl (u_not rfl)) ?_
  refine rM 20 (bV (!t8_1)) rfl rfl ?_
  refine rG 21 (.d (.dp (eShard t1))) rfl rfl (fun e15 => (v_field_dp (a0 := 0) (cs := (eShard t1)) rfl · · · fo45_0 rfl)) ?_
  refine rG 22 (iV t1.mID) rfl rfl (fun e16 => (v_load_dp1 rfl · · · onT3 (gv e16) rfl)) ?_
  refine rG 23 (.ptr 3 0) rfl rfl (fun e17 => (v_field_box (off := 0) (a0 := 0) rfl · · · fo26_0 rfl)) ?_
  refine rG 24 (.d (.sl 17 (t0.mShards.map eShard))) rfl rfl (fun e18 => (v_load_box1 (id := 3) (off := 0) rfl · · · onT22 (gv e18) rfl (ble _ _ rfl) rfl)) ?_
  refine rG 25 (iV t9) rfl rfl (fun e19 => (v_move (.inl rfl) · · · rfl)) ?_
  obtain ⟨e21, h⟩ := gpos h
  refine rG 26 (.d (.dp (eShard (rd t0.mShards t9)))) rfl rfl (fun e20 => (w_idx t0.mShards eShard rfl · · · slT22 (gv e20) (gv e20) (orT e21 e20))) ?_
  refine rG 27 (.d (.dp (eShard (rd t0.mShards t9)))) rfl rfl (fun e22 => (v_field_dp (a0 := 0) (cs := (eShard (rd t0.mShards t9))) rfl · · · fo45_0 (gv e22))) ?_
  refine rG 28 (iV (rd t0.mShards t9).mID) rfl rfl (fun e23 => (v_load_dp1 rfl · · · onT3 (gv e23) rfl)) ?_
  refine rG 29 (bV (leI t1.mID (rd t0.mShards t9).mID)) rfl rfl (fun e24 => (v_bin rfl · · · (gv e24) (gv e24) (b_leq rfl))) ?_
  refine rT 30 (bV ((!t8_1) && (leI t1.mID (rd t0.mShards t9).mID))) rfl (v_pickB rfl · · · rfl (fun e25 => (gv e25)) (fun e26 => rfl) (pA _ _)) ?_
  refine rg_nil ⟨by kernel_rfl, ?_⟩
  refine ht_cond rfl (fun e27 => ?_) (fun e27 => ?_)
  ·replace h := cpos e27 h
   refine sr ?_
   refine sM 31 (.own 1007 17 t7_1.length) rfl rfl ?_
   refine sT 32 (.d (.agg (eShard t1))) rfl (w_ldp (eShard t1) (eShard t1) rfl · · · ag45 rfl (ble _ _ rfl) rfl) ?_
   refine sq_cons ⟨_, [(.b 33, .row false 45 17 (([t1]).map eShard)), (.t 33, .own 33 17 ([t1]).length)]⟩ (w_bsl (id := 33) [(0, .d (.agg (eShard t1)))] [t1] eShard rfl trivial rfl (ble _ _ rfl) slT22 zr45 teShard (ble _ _ rfl) rfl (by kernel_rfl) rfl rfl (by kernel_rfl) (by kernel_rfl)) ?_
   obtain ⟨e28, h⟩ := gpos h
   refine sq_cons ⟨_, [(.b 1007, .spent), (.b 34, .row false 45 17 ((t7_1 ++ [t1]).map eShard)), (.t 34, .own 34 17 (t7_1 ++ [t1]).length)]⟩ (w_app 34 t7_1 ([t1]) eShard rfl rfl trivial rfl (ble _ _ rfl) slT22 elT45 teShard rfl rfl rfl (.own 33 _ _ rfl) rfl e28) ?_
   refine sM 7 (.own 34 17 (t7_1 ++ [t1]).length) rfl rfl ?_
   refine sq_nil ?_
   refine ht_region ?_
   refine sM 8 (bV true) rfl rfl ?_
   refine sq_nil ?_
   cases h
   exact j13 _ (wk_ren _ (fun i => bif Nat.beq i 1007 then 34 else i) rfl ⟨rfl, rfl, rfl, rfl, rfl, rfl, rfl, rfl, rfl, rfl, rfl, rfl, rfl, rfl, rfl, rfl, rfl, rfl, rfl, trivial⟩)
  replace h := cneg e27 h
  refine ht_skip ?_
  cases h
  exact j13 _ (wk_ren _ (fun i => i) rfl ⟨rfl, rfl, rfl, rfl, rfl, rfl, rfl, rfl, rfl, rfl, rfl, rfl, rfl, rfl, rfl, rfl, rfl, rfl, rfl, trivial⟩)
 replace h := cneg e9 h
 refine ht_exit ?_
 refine tq ?_
 refine tq ?_
 refine bq_hit ?_
 cases h
 exact j4 _ (wk_ren _ (fun i => i) rfl ⟨rfl, rfl, rfl, rfl, rfl, rfl, rfl, rfl, rfl, rfl, rfl, rfl, rfl, rfl, rfl, rfl, rfl, rfl, trivial⟩)
theorem s102 (k : Nat) (t0 : List Version) (t1 : List Version) (r : Bool) (h : F102 k t0 t1 = some r) : Awp.Spec Tryz.prog amb 102 [(.sl 5 (t0.map eVersion)), (.sl 5 (t1.map eVersion))] (.ds [(.s (.bool r))]) := by
 rw [F102] at h
 refine spec_of Tryz.func102 rfl (ble _ _ rfl) fun w0 ok0 lt0 hA => ?_
 refine sr ?_
 refine sM 4 (bV false) rfl rfl ?_
 refine sq_nil ?_
 refine ht_seq ?_
 refine sr ?_
 refine sM 6 (.d (.sl 5 (t0.map eVersion))) rfl rfl ?_
 refine sT 7 (iV (t0.length : Int)) rfl (w_len t0 eVersion rfl rfl · · · slT96 rfl) ?_
 refine sM 8 (.d (.sl 5 (t1.map eVersion))) rfl rfl ?_
 refine sT 9 (iV (t1.length : Int)) rfl (w_len t1 eVersion rfl rfl · · · slT96 rfl) ?_
 refine sT 10 (bV (!eqI (t0.length : Int) (t1.length : Int))) rfl (v_bin rfl · · · rfl rfl (b_neq rfl)) ?_
 refine sq_nil ?_
 refine ht_cond rfl (fun e1 => ?_) (fun e1 => ?_)
 ·replace h := cpos e1 h
  refine sr ?_
  refine sM 4 (bV false) rfl rfl ?_
  refine sq_nil ?_
  refine ht_ret ?_
  cases h
  exact ret1 rfl (.tmp rfl)
 replace h := cneg e1 h
 refine ht_skip ?_
 refine ht_gj (go_id' h) (fun _ => tell []) (fun _ h => ?_) (fun v2 K3 h j5 r6 => ?_)
 ·refine sr ?_
  refine sM 4 (bV true) rfl rfl ?_
  refine sq_nil ?_
  refine ht_ret ?_
  cases h
  exact ret1 rfl (.tmp rfl)
 refine sr ?_
 refine sM 5 (iV 0) rfl rfl ?_
 refine sq_nil ?_
 refine ht_block ?_
 refine ht_rd h (fun _ => rfl) (fun t5 => tell [(.t 0, .d (.sl 5 (t0.map eVersion))), (.t 1, .d (.sl 5 (t1.map eVersion))), (.t 5, iV t5)]) (wk_ren _ (fun i => i) rfl ⟨rfl, rfl, rfl, trivial⟩) fun k t5 h K14 j8 => ?_
 rw [F102_l1] at h
 refine ht_seq ?_
 refine sr ?_
 refine sM 11 (iV t5) rfl rfl ?_
 refine sM 12 (.d (.sl 5 (t0.map eVersion))) rfl rfl ?_
 refine sT 13 (iV (t0.length : Int)) rfl (w_len t0 eVersion rfl rfl · · · slT96 rfl) ?_
 refine sT 14 (bV (ltI t5 (t0.length : Int))) rfl (v_bin rfl · · · rfl rfl (b_lss rfl)) ?_
 refine sq_nil ?_
 refine ht_cond rfl (fun e10 => ?_) (fun e10 => ?_)
 ·replace h := cpos e10 h
  refine ht_skip ?_
  refine ht_seq ?_
  refine ht_block ?_
  refine ht_seq ?_
  refine ht_region_draw mixed ?_
  refine rM 17 (.d (.sl 5 (t0.map eVersion))) rfl rfl ?_
  refine rM 18 (iV t5) rfl rfl ?_
  obtain ⟨e11, h⟩ := gpos h
  refine rT 19 (.d (.dp (eVersion (rd t0 t5)))) rfl (w_idx t0 eVersion rfl · · · slT96 rfl rfl e11) ?_
  refine rT 20 (.d (.agg (eVersion (rd t0 t5)))) rfl (w_ldp (eVersion (rd t0 t5)) (eVersion (rd t0 t5)) rfl · · · ag93 rfl (ble _ _ rfl) rfl) ?_
  refine rM 21 (.d (.sl 5 (t1.map eVersion))) rfl rfl ?_
  refine rM 22 (iV t5) rfl rfl ?_
  obtain ⟨e12, h⟩ := gpos h
  refine rT 23 (.d (.dp (eVersion (rd t1 t5)))) rfl (w_idx t1 eVersion rfl · · · slT96 rfl rfl e12) ?_
  refine rT 24 (.d (.agg (eVersion (rd t1 t5)))) rfl (w_ldp (eVersion (rd t1 t5)) (eVersion (rd t1 t5)) rfl · · · ag93 rfl (ble _ _ rfl) rfl) ?_
  refine rT 25 (bV (!(qVersion (rd t0 t5) (rd t1 t5)))) rfl (v_bin_neq (f := eVersion) rfl · · · rfl rfl rfl rfl eg93 (eq93 _ _)) ?_
  refine rg_nil ⟨by kernel_rfl, ?_⟩
  refine ht_cond rfl (fun e13 => ?_) (fun e13 => ?_)
  ·replace h := cpos e13 h
   refine sr ?_
   refine sM 4 (bV false) rfl rfl ?_
   refine sq_nil ?_
   refine ht_ret ?_
   cases h
   cases r6 _ rfl
   exact ret1 rfl (.tmp rfl)
  replace h := cneg e13 h
  refine ht_skip ?_
  refine ht_region ?_
  refine sM 15 (iV t5) rfl rfl ?_
  refine sT 16 (iV (IntKind.wrap .i64 (t5 + 1))) rfl (v_bin rfl · · · rfl rfl (b_add rfl)) ?_
  refine sM 5 (iV (IntKind.wrap .i64 (t5 + 1))) rfl rfl ?_
  refine sq_nil ?_
  exact j8 _ _ h (wk_ren _ (fun i => i) rfl ⟨rfl, rfl, rfl, trivial⟩)
 replace h := cneg e10 h
 refine ht_exit ?_
 refine tq ?_
 refine tq ?_
 refine bq_hit ?_
 cases h
 exact j5 _ _ rfl (wk_ren _ (fun i => i) rfl trivial)
theorem s40 (k : Nat) (t0 : List Entry) (t1 : List Entry) (r : Bool) (h : F40 k t0 t1 = some r) : Awp.Spec Tryz.prog amb 40 [(.sl 2 (t0.map eEntry)), (.sl 2 (t1.map eEntry))] (.ds [(.s (.bool r))]) := by
 rw [F40] at h
 refine spec_of Tryz.func40 rfl (ble _ _ rfl) fun w0 ok0 lt0 hA => ?_
 refine sr ?_
 refine sM 4 (bV false) rfl rfl ?_
 refine sq_nil ?_
 refine ht_seq ?_
 refine sr ?_
 refine sM 6 (.d (.sl 2 (t0.map eEntry))) rfl rfl ?_
 refine sT 7 (iV (t0.length : Int)) rfl (w_len t0 eEntry rfl rfl · · · slT42 rfl) ?_
 refine sM 8 (.d (.sl 2 (t1.map eEntry))) rfl rfl ?_
 refine sT 9 (iV (t1.length : Int)) rfl (w_len t1 eEntry rfl rfl · · · slT42 rfl) ?_
 refine sT 10 (bV (!eqI (t0.length : Int) (t1.length : Int))) rfl (v_bin rfl · · · rfl rfl (b_neq rfl)) ?_
 refine sq_nil ?_
 refine ht_cond rfl (fun e1 => ?_) (fun e1 => ?_)
 ·replace h := cpos e1 h
  refine sr ?_
  refine sM 4 (bV false) rfl rfl ?_
  refine sq_nil ?_
  refine ht_ret ?_
  cases h
  exact ret1 rfl (.tmp rfl)
 replace h := cneg e1 h
 refine ht_skip ?_
 refine ht_gj (go_id' h) (fun _ => tell []) (fun _ h => ?_) (fun v2 K3 h j5 r6 => ?_)
 ·refine sr ?_
  refine sM 4 (bV true) rfl rfl ?_
  refine sq_nil ?_
  refine ht_ret ?_
  cases h
  exact ret1 rfl (.tmp rfl)
 refine sr ?_
 refine sM 5 (iV 0) rfl rfl ?_
 refine sq_nil ?_
 refine ht_block ?_
 refine ht_rd h (fun _ => rfl) (fun t5 => tell [(.t 0, .d (.sl 2 (t0.map eEntry))), (.t 1, .d (.sl 2 (t1.map eEntry))), (.t 5, iV t5)]) (wk_ren _ (fun i => i) rfl ⟨rfl, rfl, rfl, trivial⟩) fun k t5 h K31 j8 => ?_
 rw [F40_l1] at h
 refine ht_seq ?_
 refine sr ?_
 refine sM 11 (iV t5) rfl rfl ?_
 refine sM 12 (.d (.sl 2 (t0.map eEntry))) rfl rfl ?_
 refine sT 13 (iV (t0.length : Int)) rfl (w_len t0 eEntry rfl rfl · · · slT42 rfl) ?_
 refine sT 14 (bV (ltI t5 (t0.length : Int))) rfl (v_bin rfl · · · rfl rfl (b_lss rfl)) ?_
 refine sq_nil ?_
 refine ht_cond rfl (fun e10 => ?_) (fun e10 => ?_)
 ·replace h := cpos e10 h
  refine ht_skip ?_
  refine ht_seq ?_
  refine ht_block ?_
  refine ht_seq ?_
  refine ht_region_draw mixed ?_
  refine rM 17 (.d (.sl 2 (t0.map eEntry))) rfl rfl ?_
  refine rM 18 (iV t5) rfl rfl ?_
  obtain ⟨e11, h⟩ := gpos h
  refine rT 19 (.d (.dp (eEntry (rd t0 t5)))) rfl (w_idx t0 eEntry rfl · · · slT42 rfl rfl e11) ?_
  refine rT 20 (.d (.dp (eEntry (rd t0 t5)))) rfl (v_field_dp (a0 := 0) (cs := (eEntry (rd t0 t5))) rfl · · · fo116_0 rfl) ?_
  refine rT 21 (sV (rd t0 t5).mKey) rfl (v_load_dp1 rfl · · · onT9 rfl rfl) ?_
  refine rM 22 (.d (.sl 2 (t1.map eEntry))) rfl rfl ?_
  refine rM 23 (iV t5) rfl rfl ?_
  obtain ⟨e12, h⟩ := gpos h
  refine rT 24 (.d (.dp (eEntry (rd t1 t5)))) rfl (w_idx t1 eEntry rfl · · · slT42 rfl rfl e12) ?_
  refine rT 25 (.d (.dp (eEntry (rd t1 t5)))) rfl (v_field_dp (a0 := 0) (cs := (eEntry (rd t1 t5))) rfl · · · fo116_0 rfl) ?_
  refine rT 26 (sV (rd t1 t5).mKey) rfl (v_load_dp1 rfl · · · onT9 rfl rfl) ?_
  refine rT 27 (bV (!strEq (rd t0 t5).mKey (rd t1 t5).mKey)) rfl (v_bin rfl · · · rfl rfl (b_neS rfl)) ?_
  refine rM 28 (bV (!strEq (rd t0 t5).mKey (rd t1 t5).mKey)) rfl rfl ?_
  refine rF 29 (.d (.sl 2 (t0.map eEntry))) rfl rfl (fun e13 => (v_move (.inl rfl) · · · rfl)) ?_
  refine rF 30 (iV t5) rfl rfl (fun e14 => (v_move (.inl rfl) · · · rfl)) ?_
  obtain ⟨e16, h⟩ := gpos h
  refine rF 31 (.d (.dp (eEntry (rd t0 t5)))) rfl rfl (fun e15 => (w_idx t0 eEntry rfl · · · slT42 (gv (nF e15)) (gv (nF e15)) (orT e16 (nF e15)))) ?_
  refine rF 32 (.d (.dp (List.drop 1 (eEntry (rd t0 t5))))) rfl rfl (fun e17 => (v_field_dp (a0 := 1) (cs := (eEntry (rd t0 t5))) rfl · · · fo116_1 (gv (nF e17)))) ?_
  refine rF 33 (.d (.sl 5 ((rd t0 t5).mChain.map eVersion))) rfl rfl (fun e18 => (v_load_dp1 rfl · · · onT96 (gv (nF e18)) rfl)) ?_
  refine rF 34 (.d (.sl 2 (t1.map eEntry))) rfl rfl (fun e19 => (v_move (.inl rfl) · · · rfl)) ?_
  refine rF 35 (iV t5) rfl rfl (fun e20 => (v_move (.inl rfl) · · · rfl)) ?_
  obtain ⟨e22, h⟩ := gpos h
  refine rF 36 (.d (.dp (eEntry (rd t1 t5)))) rfl rfl (fun e21 => (w_idx t1 eEntry rfl · · · slT42 (gv (nF e21)) (gv (nF e21)) (orT e22 (nF e21)))) ?_
  refine rF 37 (.d (.dp (List.drop 1 (eEntry (rd t1 t5))))) rfl rfl (fun e23 => (v_field_dp (a0 := 1) (cs := (eEntry (rd t1 t5))) rfl · · · fo116_1 (gv (nF e23)))) ?_
  refine rF 38 (.d (.sl 5 ((rd t1 t5).mChain.map eVersion))) rfl rfl (fun e24 => (v_load_dp1 rfl · · · onT96 (gv (nF e24)) rfl)) ?_
  obtain ⟨t39, c26, h⟩ := bpos h
  refine rF 39 (bV t39) rfl rfl (fun e25 => (w_call (ds := [(.sl 5 ((rd t0 t5).mChain.map eVersion)), (.sl 5 ((rd t1 t5).mChain.map eVersion))]) (caps := []) (l := [(.s (.bool t39))]) (s102 k (rd t0 t5).mChain (rd t1 t5).mChain _ (cpos (nF e25) c26)) rfl rfl rfl en102 · · · (.inl ⟨rfl, rfl⟩) (cc (gv (nF e25)) (cc (gv (nF e25)) rfl)) rfl)) ?_
  refine rF 40 (bV (!t39)) rfl rfl (fun e27 => (v_un rfl · · · (gv (nF e27)) (u_not rfl))) ?_
  refine rT 41 (bV ((!strEq (rd t0 t5).mKey (rd t1 t5).mKey) || (!t39))) rfl (v_pickB rfl · · · rfl (fun e28 => rfl) (fun e29 => (gv (nF e29))) (pO _ _)) ?_
  refine rg_nil ⟨by kernel_rfl, ?_⟩
  refine ht_cond rfl (fun e30 => ?_) (fun e30 => ?_)
  ·replace h := cpos e30 h
   refine sr ?_
   refine sM 4 (bV false) rfl rfl ?_
   refine sq_nil ?_
   refine ht_ret ?_
   cases h
   cases r6 _ rfl
   exact ret1 rfl (.tmp rfl)
  replace h := cneg e30 h
  refine ht_skip ?_
  refine ht_region ?_
  refine sM 15 (iV t5) rfl rfl ?_
  refine sT 16 (iV (IntKind.wrap .i64 (t5 + 1))) rfl (v_bin rfl · · · rfl rfl (b_add rfl)) ?_
  refine sM 5 (iV (IntKind.wrap .i64 (t5 + 1))) rfl rfl ?_
  refine sq_nil ?_
  exact j8 _ _ h (wk_ren _ (fun i => i) rfl ⟨rfl, rfl, rfl, trivial⟩)
 replace h := cneg e10 h
 refine ht_exit ?_
 refine tq ?_
 refine tq ?_
 refine bq_hit ?_
 cases h
 exact j5 _ _ rfl (wk_ren _ (fun i => i) rfl trivial)
end Go.Proofs.Gd
set_option linter.unusedVariables false
set_option maxRecDepth 100000
set_option maxHeartbeats 4000000
namespace Go.Proofs.Gd
open Go Go.Awp Go.Proofs
theorem s19 (k : Nat) (t0 : Answer) (t1 : Answer) (r : Bool) (h : F19 k t0 t1 = some r) : Awp.Spec Tryz.prog amb 19 [(.agg (eAnswer t0)), (.agg (eAnswer t1))] (.ds [(.s (.bool r))]) := by
 rw [F19] at h
 refine spec_of Tryz.func19 rfl (ble _ _ rfl) fun w0 ok0 lt0 hA => ?_
 refine sr ?_
 refine sT 2 (.d (.dp (eAnswer t0))) rfl (v_box_d (cs := (eAnswer t0)) rfl · · · rfl rfl (ones_of rfl)) ?_
 refine sT 3 (.d (.dp (eAnswer t1))) rfl (v_box_d (cs := (eAnswer t1)) rfl · · · rfl rfl (ones_of rfl)) ?_
 refine sM 4 (bV false) rfl rfl ?_
 refine sq_nil ?_
 refine ht_seq ?_
 refine sr ?_
 refine sT 6 (.d (.dp (List.drop 6 (eAnswer t0)))) rfl (v_field_dp (a0 := 6) (cs := (eAnswer t0)) rfl · · · fo34_4 rfl) ?_
 refine sT 7 (.d (.sl 2 (t0.mItems.map eItem))) rfl (v_load_dp1 rfl · · · onT32 rfl rfl) ?_
 refine sT 8 (iV (t0.mItems.length : Int)) rfl (w_len t0.mItems eItem rfl rfl · · · slT32 rfl) ?_
 refine sT 9 (.d (.dp (List.drop 6 (eAnswer t1)))) rfl (v_field_dp (a0 := 6) (cs := (eAnswer t1)) rfl · · · fo34_4 rfl) ?_
 refine sT 10 (.d (.sl 2 (t1.mItems.map eItem))) rfl (v_load_dp1 rfl · · · onT32 rfl rfl) ?_
 refine sT 11 (iV (t1.mItems.length : Int)) rfl (w_len t1.mItems eItem rfl rfl · · · slT32 rfl) ?_
 refine sT 12 (bV (!eqI (t0.mItems.length : Int) (t1.mItems.length : Int))) rfl (v_bin rfl · · · rfl rfl (b_neq rfl)) ?_
 refine sq_nil ?_
 refine ht_cond rfl (fun e1 => ?_) (fun e1 => ?_)
 ·replace h := cpos e1 h
  refine sr ?_
  refine sM 4 (bV false) rfl rfl ?_
  refine sq_nil ?_
  refine ht_ret ?_
  cases h
  exact ret1 rfl (.tmp rfl)
 replace h := cneg e1 h
 refine ht_skip ?_
 refine ht_gj (go_id' h) (fun _ => tell [(.t 2, .d (.dp (eAnswer t0))), (.t 3, .d (.dp (eAnswer t1)))]) (fun _ h => ?_) (fun v2 K3 h j5 r6 => ?_)
 ·refine sr ?_
  refine sT 31 (.d (.dp (eAnswer t0))) rfl (v_field_dp (a0 := 0) (cs := (eAnswer t0)) rfl · · · fo34_0 rfl) ?_
  refine sT 32 (iV t0.mErr) rfl (v_load_dp1 rfl · · · onT31 rfl rfl) ?_
  refine sT 33 (.d (.dp (eAnswer t1))) rfl (v_field_dp (a0 := 0) (cs := (eAnswer t1)) rfl · · · fo34_0 rfl) ?_
  refine sT 34 (iV t1.mErr) rfl (v_load_dp1 rfl · · · onT31 rfl rfl) ?_
  refine sT 35 (bV (eqI t0.mErr t1.mErr)) rfl (v_bin rfl · · · rfl rfl (b_eql rfl)) ?_
  refine sM 36 (bV (eqI t0.mErr t1.mErr)) rfl rfl ?_
  refine sG 37 (.d (.dp (List.drop 1 (eAnswer t0)))) rfl rfl (fun e15 => (v_field_dp (a0 := 1) (cs := (eAnswer t0)) rfl · · · fo34_1 rfl)) ?_
  refine sG 38 (.d (.agg (eStamp t0.mAt))) rfl rfl (fun e16 => (w_ldp (List.drop 1 (eAnswer t0)) (eStamp t0.mAt) rfl · · · ag24 (gv e16) (ble _ _ rfl) rfl)) ?_
  refine sG 39 (.d (.dp (List.drop 1 (eAnswer t1)))) rfl rfl (fun e17 => (v_field_dp (a0 := 1) (cs := (eAnswer t1)) rfl · · · fo34_1 rfl)) ?_
  refine sG 40 (.d (.agg (eStamp t1.mAt))) rfl rfl (fun e18 => (w_ldp (List.drop 1 (eAnswer t1)) (eStamp t1.mAt) rfl · · · ag24 (gv e18) (ble _ _ rfl) rfl)) ?_
  refine sG 41 (bV (qStamp t0.mAt t1.mAt)) rfl rfl (fun e19 => (v_bin_eql (f := eStamp) rfl · · · (gv e19) (gv e19) rfl rfl eg24 (eq24 _ _))) ?_
  refine sT 42 (bV ((eqI t0.mErr t1.mErr) && (qStamp t0.mAt t1.mAt))) rfl (v_pickB rfl · · · rfl (fun e20 => (gv e20)) (fun e21 => rfl) (pA _ _)) ?_
  refine sM 43 (bV ((eqI t0.mErr t1.mErr) && (qStamp t0.mAt t1.mAt))) rfl rfl ?_
  refine sG 44 (.d (.dp (List.drop 4 (eAnswer t0)))) rfl rfl (fun e22 => (v_field_dp (a0 := 4) (cs := (eAnswer t0)) rfl · · · fo34_2 rfl)) ?_
  refine sG 45 (bV t0.mFound) rfl rfl (fun e23 => (v_load_dp1 rfl · · · onT4 (gv e23) rfl)) ?_
  refine sG 46 (.d (.dp (List.drop 4 (eAnswer t1)))) rfl rfl (fun e24 => (v_field_dp (a0 := 4) (cs := (eAnswer t1)) rfl · · · fo34_2 rfl)) ?_
  refine sG 47 (bV t1.mFound) rfl rfl (fun e25 => (v_load_dp1 rfl · · · onT4 (gv e25) rfl)) ?_
  refine sG 48 (bV (t0.mFound == t1.mFound)) rfl rfl (fun e26 => (v_bin rfl · · · (gv e26) (gv e26) (b_eqB und4 rfl))) ?_
  refine sT 49 (bV (((eqI t0.mErr t1.mErr) && (qStamp t0.mAt t1.mAt)) && (t0.mFound == t1.mFound))) rfl (v_pickB rfl · · · rfl (fun e27 => (gv e27)) (fun e28 => rfl) (pA _ _)) ?_
  refine sM 50 (bV (((eqI t0.mErr t1.mErr) && (qStamp t0.mAt t1.mAt)) && (t0.mFound == t1.mFound))) rfl rfl ?_
  refine sG 51 (.d (.dp (List.drop 5 (eAnswer t0)))) rfl rfl (fun e29 => (v_field_dp (a0 := 5) (cs := (eAnswer t0)) rfl · · · fo34_3 rfl)) ?_
  refine sG 52 (sV t0.mValue) rfl rfl (fun e30 => (v_load_dp1 rfl · · · onT9 (gv e30) rfl)) ?_
  refine sG 53 (.d (.dp (List.drop 5 (eAnswer t1)))) rfl rfl (fun e31 => (v_field_dp (a0 := 5) (cs := (eAnswer t1)) rfl · · · fo34_3 rfl)) ?_
  refine sG 54 (sV t1.mValue) rfl rfl (fun e32 => (v_load_dp1 rfl · · · onT9 (gv e32) rfl)) ?_
  refine sG 55 (bV (strEq t0.mValue t1.mValue)) rfl rfl (fun e33 => (v_bin rfl · · · (gv e33) (gv e33) (b_eqS rfl))) ?_
  refine sT 56 (bV ((((eqI t0.mErr t1.mErr) && (qStamp t0.mAt t1.mAt)) && (t0.mFound == t1.mFound)) && (strEq t0.mValue t1.mValue))) rfl (v_pickB rfl · · · rfl (fun e34 => (gv e34)) (fun e35 => rfl) (pA _ _)) ?_
  refine sM 57 (bV ((((eqI t0.mErr t1.mErr) && (qStamp t0.mAt t1.mAt)) && (t0.mFound == t1.mFound)) && (strEq t0.mValue t1.mValue))) rfl rfl ?_
  refine sG 58 (.d (.dp (List.drop 7 (eAnswer t0)))) rfl rfl (fun e36 => (v_field_dp (a0 := 7) (cs := (eAnswer t0)) rfl · · · fo34_5 rfl)) ?_
  refine sG 59 (sV t0.mNext) rfl rfl (fun e37 => (v_load_dp1 rfl · · · onT9 (gv e37) rfl)) ?_
  refine sG 60 (.d (.dp (List.drop 7 (eAnswer t1)))) rfl rfl (fun e38 => (v_field_dp (a0 := 7) (cs := (eAnswer t1)) rfl · · · fo34_5 rfl)) ?_
  refine sG 61 (sV t1.mNext) rfl rfl (fun e39 => (v_load_dp1 rfl · · · onT9 (gv e39) rfl)) ?_
  refine sG 62 (bV (strEq t0.mNext t1.mNext)) rfl rfl (fun e40 => (v_bin rfl · · · (gv e40) (gv e40) (b_eqS rfl))) ?_
  refine sT 63 (bV (((((eqI t0.mErr t1.mErr) && (qStamp t0.mAt t1.mAt)) && (t0.mFound == t1.mFound)) && (strEq t0.mValue t1.mValue)) && (strEq t0.mNext t1.mNext))) rfl (v_pickB rfl · · · rfl (fun e41 => (gv e41)) (fun e42 => rfl) (pA _ _)) ?_
  refine sM 64 (bV (((((eqI t0.mErr t1.mErr) && (qStamp t0.mAt t1.mAt)) && (t0.mFound == t1.mFound)) && (strEq t0.mValue t1.mValue)) && (strEq t0.mNext t1.mNext))) rfl rfl ?_
  refine sG 65 (.d (.dp (List.drop 8 (eAnswer t0)))) rfl rfl (fun e43 => (v_field_dp (a0 := 8) (cs := (eAnswer t0)) rfl · · · fo34_6 rfl)) ?_
  refine sG 66 (bV t0.mMore) rfl rfl (fun e44 => (v_load_dp1 rfl · · · onT4 (gv e44) rfl)) ?_
  refine sG 67 (.d (.dp (List.drop 8 (eAnswer t1)))) rfl rfl (fun e45 => (v_field_dp (a0 := 8) (cs := (eAnswer t1)) rfl · · · fo34_6 rfl)) ?_
  refine sG 68 (bV t1.mMore) rfl rfl (fun e46 => (v_load_dp1 rfl · · · onT4 (gv e46) rfl)) ?_
  refine sG 69 (bV (t0.mMore == t1.mMore)) rfl rfl (fun e47 => (v_bin rfl · · · (gv e47) (gv e47) (b_eqB und4 rfl))) ?_
  refine sT 70 (bV ((((((eqI t0.mErr t1.mErr) && (qStamp t0.mAt t1.mAt)) && (t0.mFound == t1.mFound)) && (strEq t0.mValue t1.mValue)) && (strEq t0.mNext t1.mNext)) && (t0.mMore == t1.mMore))) rfl (v_pickB rfl · · · rfl (fun e48 => (gv e48)) (fun e49 => rfl) (pA _ _)) ?_
  refine sM 4 (bV ((((((eqI t0.mErr t1.mErr) && (qStamp t0.mAt t1.mAt)) && (t0.mFound == t1.mFound)) && (strEq t0.mValue t1.mValue)) && (strEq t0.mNext t1.mNext)) && (t0.mMore == t1.mMore))) rfl rfl ?_
  refine sq_nil ?_
  refine ht_ret ?_
  cases h
  exact ret1 rfl (.tmp rfl)
 refine sr ?_
 refine sM 5 (iV 0) rfl rfl ?_
 refine sq_nil ?_
 refine ht_block ?_
 refine ht_rd h (fun _ => rfl) (fun t5 => tell [(.t 2, .d (.dp (eAnswer t0))), (.t 3, .d (.dp (eAnswer t1))), (.t 5, iV t5)]) (wk_ren _ (fun i => i) rfl ⟨rfl, rfl, rfl, trivial⟩) fun k t5 h K14 j8 => ?_
 rw [F19_l1] at h
 refine ht_seq ?_
 refine sr ?_
 refine sM 13 (iV t5) rfl rfl ?_
 refine sT 14 (.d (.dp (List.drop 6 (eAnswer t0)))) rfl (v_field_dp (a0 := 6) (cs := (eAnswer t0)) rfl · · · fo34_4 rfl) ?_
 refine sT 15 (.d (.sl 2 (t0.mItems.map eItem))) rfl (v_load_dp1 rfl · · · onT32 rfl rfl) ?_
 refine sT 16 (iV (t0.mItems.length : Int)) rfl (w_len t0.mItems eItem rfl rfl · · · slT32 rfl) ?_
 refine sT 17 (bV (ltI t5 (t0.mItems.length : Int))) rfl (v_bin rfl · · · rfl rfl (b_lss rfl)) ?_
 refine sq_nil ?_
 refine ht_cond rfl (fun e10 => ?_) (fun e10 => ?_)
 ·replace h := cpos e10 h
  refine ht_skip ?_
  refine ht_seq ?_
  refine ht_block ?_
  refine ht_seq ?_
  refine ht_region_draw mixed ?_
  refine rT 20 (.d (.dp (List.drop 6 (eAnswer t0)))) rfl (v_field_dp (a0 := 6) (cs := (eAnswer t0)) rfl · · · fo34_4 rfl) ?_
  refine rT 21 (.d (.sl 2 (t0.mItems.map eItem))) rfl (v_load_dp1 rfl · · · onT32 rfl rfl) ?_
  refine rM 22 (iV t5) rfl rfl ?_
  obtain ⟨e11, h⟩ := gpos h
  refine rT 23 (.d (.dp (eItem (rd t0.mItems t5)))) rfl (w_idx t0.mItems eItem rfl · · · slT32 rfl rfl e11) ?_
  refine rT 24 (.d (.agg (eItem (rd t0.mItems t5)))) rfl (w_ldp (eItem (rd t0.mItems t5)) (eItem (rd t0.mItems t5)) rfl · · · ag110 rfl (ble _ _ rfl) rfl) ?_
  refine rT 25 (.d (.dp (List.drop 6 (eAnswer t1)))) rfl (v_field_dp (a0 := 6) (cs := (eAnswer t1)) rfl · · · fo34_4 rfl) ?_
  refine rT 26 (.d (.sl 2 (t1.mItems.map eItem))) rfl (v_load_dp1 rfl · · · onT32 rfl rfl) ?_
  refine rM 27 (iV t5) rfl rfl ?_
  obtain ⟨e12, h⟩ := gpos h
  refine rT 28 (.d (.dp (eItem (rd t1.mItems t5)))) rfl (w_idx t1.mItems eItem rfl · · · slT32 rfl rfl e12) ?_
  refine rT 29 (.d (.agg (eItem (rd t1.mItems t5)))) rfl (w_ldp (eItem (rd t1.mItems t5)) (eItem (rd t1.mItems t5)) rfl · · · ag110 rfl (ble _ _ rfl) rfl) ?_
  refine rT 30 (bV (!(qItem (rd t0.mItems t5) (rd t1.mItems t5)))) rfl (v_bin_neq (f := eItem) rfl · · · rfl rfl rfl rfl eg110 (eq110 _ _)) ?_
  refine rg_nil ⟨by kernel_rfl, ?_⟩
  refine ht_cond rfl (fun e13 => ?_) (fun e13 => ?_)
  ·replace h := cpos e13 h
   refine sr ?_
   refine sM 4 (bV false) rfl rfl ?_
   refine sq_nil ?_
   refine ht_ret ?_
   cases h
   cases r6 _ rfl
   exact ret1 rfl (.tmp rfl)
  replace h := cneg e13 h
  refine ht_skip ?_
  refine ht_region ?_
  refine sM 18 (iV t5) rfl rfl ?_
  refine sT 19 (iV (IntKind.wrap .i64 (t5 + 1))) rfl (v_bin rfl · · · rfl rfl (b_add rfl)) ?_
  refine sM 5 (iV (IntKind.wrap .i64 (t5 + 1))) rfl rfl ?_
  refine sq_nil ?_
  exact j8 _ _ h (wk_ren _ (fun i => i) rfl ⟨rfl, rfl, rfl, trivial⟩)
 replace h := cneg e10 h
 refine ht_exit ?_
 refine tq ?_
 refine tq ?_
 refine bq_hit ?_
 cases h
 exact j5 _ _ rfl (wk_ren _ (fun i => i) rfl ⟨rfl, rfl, trivial⟩)
theorem s41 (k : Nat) (t0 : List Done) (t1 : List Done) (r : Bool) (h : F41 k t0 t1 = some r) : Awp.Spec Tryz.prog amb 41 [(.sl 11 (t0.map eDone)), (.sl 11 (t1.map eDone))] (.ds [(.s (.bool r))]) := by
 rw [F41] at h
 refine spec_of Tryz.func41 rfl (ble _ _ rfl) fun w0 ok0 lt0 hA => ?_
 refine sr ?_
 refine sM 4 (bV false) rfl rfl ?_
 refine sq_nil ?_
 refine ht_seq ?_
 refine sr ?_
 refine sM 6 (.d (.sl 11 (t0.map eDone))) rfl rfl ?_
 refine sT 7 (iV (t0.length : Int)) rfl (w_len t0 eDone rfl rfl · · · slT43 rfl) ?_
 refine sM 8 (.d (.sl 11 (t1.map eDone))) rfl rfl ?_
 refine sT 9 (iV (t1.length : Int)) rfl (w_len t1 eDone rfl rfl · · · slT43 rfl) ?_
 refine sT 10 (bV (!eqI (t0.length : Int) (t1.length : Int))) rfl (v_bin rfl · · · rfl rfl (b_neq rfl)) ?_
 refine sq_nil ?_
 refine ht_cond rfl (fun e1 => ?_) (fun e1 => ?_)
 ·replace h := cpos e1 h
  refine sr ?_
  refine sM 4 (bV false) rfl rfl ?_
  refine sq_nil ?_
  refine ht_ret ?_
  cases h
  exact ret1 rfl (.tmp rfl)
 replace h := cneg e1 h
 refine ht_skip ?_
 refine ht_gj (go_id' h) (fun _ => tell []) (fun _ h => ?_) (fun v2 K3 h j5 r6 => ?_)
 ·refine sr ?_
  refine sM 4 (bV true) rfl rfl ?_
  refine sq_nil ?_
  refine ht_ret ?_
  cases h
  exact ret1 rfl (.tmp rfl)
 refine sr ?_
 refine sM 5 (iV 0) rfl rfl ?_
 refine sq_nil ?_
 refine ht_block ?_
 refine ht_rd h (fun _ => rfl) (fun t5 => tell [(.t 0, .d (.sl 11 (t0.map eDone))), (.t 1, .d (.sl 11 (t1.map eDone))), (.t 5, iV t5)]) (wk_ren _ (fun i => i) rfl ⟨rfl, rfl, rfl, trivial⟩) fun k t5 h K46 j8 => ?_
 rw [F41_l1] at h
 refine ht_seq ?_
 refine sr ?_
 refine sM 11 (iV t5) rfl rfl ?_
 refine sM 12 (.d (.sl 11 (t0.map eDone))) rfl rfl ?_
 refine sT 13 (iV (t0.length : Int)) rfl (w_len t0 eDone rfl rfl · · · slT43 rfl) ?_
 refine sT 14 (bV (ltI t5 (t0.length : Int))) rfl (v_bin rfl · · · rfl rfl (b_lss rfl)) ?_
 refine sq_nil ?_
 refine ht_cond rfl (fun e10 => ?_) (fun e10 => ?_)
 ·replace h := cpos e10 h
  refine ht_skip ?_
  refine ht_seq ?_
  refine ht_block ?_
  refine ht_seq ?_
  refine ht_region_draw mixed ?_
  refine rM 17 (.d (.sl 11 (t0.map eDone))) rfl rfl ?_
  refine rM 18 (iV t5) rfl rfl ?_
  obtain ⟨e11, h⟩ := gpos h
  refine rT 19 (.d (.dp (eDone (rd t0 t5)))) rfl (w_idx t0 eDone rfl · · · slT43 rfl rfl e11) ?_
  refine rT 20 (.d (.dp (eDone (rd t0 t5)))) rfl (v_field_dp (a0 := 0) (cs := (eDone (rd t0 t5))) rfl · · · fo100_0 rfl) ?_
  refine rT 21 (iV (rd t0 t5).mClient) rfl (v_load_dp1 rfl · · · onT3 rfl rfl) ?_
  refine rM 22 (.d (.sl 11 (t1.map eDone))) rfl rfl ?_
  refine rM 23 (iV t5) rfl rfl ?_
  obtain ⟨e12, h⟩ := gpos h
  refine rT 24 (.d (.dp (eDone (rd t1 t5)))) rfl (w_idx t1 eDone rfl · · · slT43 rfl rfl e12) ?_
  refine rT 25 (.d (.dp (eDone (rd t1 t5)))) rfl (v_field_dp (a0 := 0) (cs := (eDone (rd t1 t5))) rfl · · · fo100_0 rfl) ?_
  refine rT 26 (iV (rd t1 t5).mClient) rfl (v_load_dp1 rfl · · · onT3 rfl rfl) ?_
  refine rT 27 (bV (!eqI (rd t0 t5).mClient (rd t1 t5).mClient)) rfl (v_bin rfl · · · rfl rfl (b_neq rfl)) ?_
  refine rM 28 (bV (!eqI (rd t0 t5).mClient (rd t1 t5).mClient)) rfl rfl ?_
  refine rF 29 (.d (.sl 11 (t0.map eDone))) rfl rfl (fun e13 => (v_move (.inl rfl) · · · rfl)) ?_
  refine rF 30 (iV t5) rfl rfl (fun e14 => (v_move (.inl rfl) · · · rfl)) ?_
  obtain ⟨e16, h⟩ := gpos h
  refine rF 31 (.d (.dp (eDone (rd t0 t5)))) rfl rfl (fun e15 => (w_idx t0 eDone rfl · · · slT43 (gv (nF e15)) (gv (nF e15)) (orT e16 (nF e15)))) ?_
  refine rF 32 (.d (.dp (List.drop 1 (eDone (rd t0 t5))))) rfl rfl (fun e17 => (v_field_dp (a0 := 1) (cs := (eDone (rd t0 t5))) rfl · · · fo100_1 (gv (nF e17)))) ?_
  refine rF 33 (iV (rd t0 t5).mReq) rfl rfl (fun e18 => (v_load_dp1 rfl · · · onT3 (gv (nF e18)) rfl)) ?_
  refine rF 34 (.d (.sl 11 (t1.map eDone))) rfl rfl (fun e19 => (v_move (.inl rfl) · · · rfl)) ?_
  refine rF 35 (iV t5) rfl rfl (fun e20 => (v_move (.inl rfl) · · · rfl)) ?_
  obtain ⟨e22, h⟩ := gpos h
  refine rF 36 (.d (.dp (eDone (rd t1 t5)))) rfl rfl (fun e21 => (w_idx t1 eDone rfl · · · slT43 (gv (nF e21)) (gv (nF e21)) (orT e22 (nF e21)))) ?_
  refine rF 37 (.d (.dp (List.drop 1 (eDone (rd t1 t5))))) rfl rfl (fun e23 => (v_field_dp (a0 := 1) (cs := (eDone (rd t1 t5))) rfl · · · fo100_1 (gv (nF e23)))) ?_
  refine rF 38 (iV (rd t1 t5).mReq) rfl rfl (fun e24 => (v_load_dp1 rfl · · · onT3 (gv (nF e24)) rfl)) ?_
  refine rF 39 (bV (!eqI (rd t0 t5).mReq (rd t1 t5).mReq)) rfl rfl (fun e25 => (v_bin rfl · · · (gv (nF e25)) (gv (nF e25)) (b_neq rfl))) ?_
  refine rT 40 (bV ((!eqI (rd t0 t5).mClient (rd t1 t5).mClient) || (!eqI (rd t0 t5).mReq (rd t1 t5).mReq))) rfl (v_pickB rfl · · · rfl (fun e26 => rfl) (fun e27 => (gv (nF e27))) (pO _ _)) ?_
  refine rM 41 (bV ((!eqI (rd t0 t5).mClient (rd t1 t5).mClient) || (!eqI (rd t0 t5).mReq (rd t1 t5).mReq))) rfl rfl ?_
  refine rF 42 (.d (.sl 11 (t0.map eDone))) rfl rfl (fun e28 => (v_move (.inl rfl) · · · rfl)) ?_
  refine rF 43 (iV t5) rfl rfl (fun e29 => (v_move (.inl rfl) · · · rfl)) ?_
  obtain ⟨e31, h⟩ := gpos h
  refine rF 44 (.d (.dp (eDone (rd t0 t5)))) rfl rfl (fun e30 => (w_idx t0 eDone rfl · · · slT43 (gv (nF e30)) (gv (nF e30)) (orT e31 (nF e30)))) ?_
  refine rF 45 (.d (.dp (List.drop 2 (eDone (rd t0 t5))))) rfl rfl (fun e32 => (v_field_dp (a0 := 2) (cs := (eDone (rd t0 t5))) rfl · · · fo100_2 (gv (nF e32)))) ?_
  refine rF 46 (.d (.agg (eAnswer (rd t0 t5).mAnswer))) rfl rfl (fun e33 => (w_ldp (List.drop 2 (eDone (rd t0 t5))) (eAnswer (rd t0 t5).mAnswer) rfl · · · ag34 (gv (nF e33)) (ble _ _ rfl) rfl)) ?_
  refine rF 47 (.d (.sl 11 (t1.map eDone))) rfl rfl (fun e34 => (v_move (.inl rfl) · · · rfl)) ?_
  refine rF 48 (iV t5) rfl rfl (fun e35 => (v_move (.inl rfl) · · · rfl)) ?_
  obtain ⟨e37, h⟩ := gpos h
  refine rF 49 (.d (.dp (eDone (rd t1 t5)))) rfl rfl (fun e36 => (w_idx t1 eDone rfl · · · slT43 (gv (nF e36)) (gv (nF e36)) (orT e37 (nF e36)))) ?_
  refine rF 50 (.d (.dp (List.drop 2 (eDone (rd t1 t5))))) rfl rfl (fun e38 => (v_field_dp (a0 := 2) (cs := (eDone (rd t1 t5))) rfl · · · fo100_2 (gv (nF e38)))) ?_
  refine rF 51 (.d (.agg (eAnswer (rd t1 t5).mAnswer))) rfl rfl (fun e39 => (w_ldp (List.drop 2 (eDone (rd t1 t5))) (eAnswer (rd t1 t5).mAnswer) rfl · · · ag34 (gv (nF e39)) (ble _ _ rfl) rfl)) ?_
  obtain ⟨t52, c41, h⟩ := bpos h
  refine rF 52 (bV t52) rfl rfl (fun e40 => (w_call (ds := [(.agg (eAnswer (rd t0 t5).mAnswer)), (.agg (eAnswer (rd t1 t5).mAnswer))]) (caps := []) (l := [(.s (.bool t52))]) (s19 k (rd t0 t5).mAnswer (rd t1 t5).mAnswer _ (cpos (nF e40) c41)) rfl rfl rfl en19 · · · (.inl ⟨rfl, rfl⟩) (cc (gv (nF e40)) (cc (gv (nF e40)) rfl)) rfl)) ?_
  refine rF 53 (bV (!t52)) rfl rfl (fun e42 => (v_un rfl · · · (gv (nF e42)) (u_not rfl))) ?_
  refine rT 54 (bV (((!eqI (rd t0 t5).mClient (rd t1 t5).mClient) || (!eqI (rd t0 t5).mReq (rd t1 t5).mReq)) || (!t52))) rfl (v_pickB rfl · · · rfl (fun e43 => rfl) (fun e44 => (gv (nF e44))) (pO _ _)) ?_
  refine rg_nil ⟨by kernel_rfl, ?_⟩
  refine ht_cond rfl (fun e45 => ?_) (fun e45 => ?_)
  ·replace h := cpos e45 h
   refine sr ?_
   refine sM 4 (bV false) rfl rfl ?_
   refine sq_nil ?_
   refine ht_ret ?_
   cases h
   cases r6 _ rfl
   exact ret1 rfl (.tmp rfl)
  replace h := cneg e45 h
  refine ht_skip ?_
  refine ht_region ?_
  refine sM 15 (iV t5) rfl rfl ?_
  refine sT 16 (iV (IntKind.wrap .i64 (t5 + 1))) rfl (v_bin rfl · · · rfl rfl (b_add rfl)) ?_
  refine sM 5 (iV (IntKind.wrap .i64 (t5 + 1))) rfl rfl ?_
  refine sq_nil ?_
  exact j8 _ _ h (wk_ren _ (fun i => i) rfl ⟨rfl, rfl, rfl, trivial⟩)
 replace h := cneg e10 h
 refine ht_exit ?_
 refine tq ?_
 refine tq ?_
 refine bq_hit ?_
 cases h
 exact j5 _ _ rfl (wk_ren _ (fun i => i) rfl trivial)
theorem s26 (k : Nat) (t0 : Shard) (t1 : Shard) (r : Bool) (h : F26 k t0 t1 = some r) : Awp.Spec Tryz.prog amb 26 [(.agg (eShard t0)), (.agg (eShard t1))] (.ds [(.s (.bool r))]) := by
 rw [F26] at h
 refine spec_of Tryz.func26 rfl (ble _ _ rfl) fun w0 ok0 lt0 hA => ?_
 refine sr ?_
 refine sT 2 (.d (.dp (eShard t0))) rfl (v_box_d (cs := (eShard t0)) rfl · · · rfl rfl (ones_of rfl)) ?_
 refine sT 3 (.d (.dp (eShard t1))) rfl (v_box_d (cs := (eShard t1)) rfl · · · rfl rfl (ones_of rfl)) ?_
 refine sM 4 (bV false) rfl rfl ?_
 refine sq_nil ?_
 refine sr ?_
 refine sT 5 (.d (.dp (eShard t0))) rfl (v_field_dp (a0 := 0) (cs := (eShard t0)) rfl · · · fo45_0 rfl) ?_
 refine sT 6 (iV t0.mID) rfl (v_load_dp1 rfl · · · onT3 rfl rfl) ?_
 refine sT 7 (.d (.dp (eShard t1))) rfl (v_field_dp (a0 := 0) (cs := (eShard t1)) rfl · · · fo45_0 rfl) ?_
 refine sT 8 (iV t1.mID) rfl (v_load_dp1 rfl · · · onT3 rfl rfl) ?_
 refine sT 9 (bV (eqI t0.mID t1.mID)) rfl (v_bin rfl · · · rfl rfl (b_eql rfl)) ?_
 refine sM 10 (bV (eqI t0.mID t1.mID)) rfl rfl ?_
 refine sG 11 (.d (.dp (List.drop 1 (eShard t0)))) rfl rfl (fun e1 => (v_field_dp (a0 := 1) (cs := (eShard t0)) rfl · · · fo45_1 rfl)) ?_
 refine sG 12 (iV t0.mEpoch) rfl rfl (fun e2 => (v_load_dp1 rfl · · · onT3 (gv e2) rfl)) ?_
 refine sG 13 (.d (.dp (List.drop 1 (eShard t1)))) rfl rfl (fun e3 => (v_field_dp (a0 := 1) (cs := (eShard t1)) rfl · · · fo45_1 rfl)) ?_
 refine sG 14 (iV t1.mEpoch) rfl rfl (fun e4 => (v_load_dp1 rfl · · · onT3 (gv e4) rfl)) ?_
 refine sG 15 (bV (eqI t0.mEpoch t1.mEpoch)) rfl rfl (fun e5 => (v_bin rfl · · · (gv e5) (gv e5) (b_eql rfl))) ?_
 refine sT 16 (bV ((eqI t0.mID t1.mID) && (eqI t0.mEpoch t1.mEpoch))) rfl (v_pickB rfl · · · rfl (fun e6 => (gv e6)) (fun e7 => rfl) (pA _ _)) ?_
 refine sM 17 (bV ((eqI t0.mID t1.mID) && (eqI t0.mEpoch t1.mEpoch))) rfl rfl ?_
 refine sG 18 (.d (.dp (List.drop 2 (eShard t0)))) rfl rfl (fun e8 => (v_field_dp (a0 := 2) (cs := (eShard t0)) rfl · · · fo45_2 rfl)) ?_
 refine sG 19 (.d (.agg (eSpan t0.mSpan))) rfl rfl (fun e9 => (w_ldp (List.drop 2 (eShard t0)) (eSpan t0.mSpan) rfl · · · ag41 (gv e9) (ble _ _ rfl) rfl)) ?_
 refine sG 20 (.d (.dp (List.drop 2 (eShard t1)))) rfl rfl (fun e10 => (v_field_dp (a0 := 2) (cs := (eShard t1)) rfl · · · fo45_2 rfl)) ?_
 refine sG 21 (.d (.agg (eSpan t1.mSpan))) rfl rfl (fun e11 => (w_ldp (List.drop 2 (eShard t1)) (eSpan t1.mSpan) rfl · · · ag41 (gv e11) (ble _ _ rfl) rfl)) ?_
 refine sG 22 (bV (qSpan t0.mSpan t1.mSpan)) rfl rfl (fun e12 => (v_bin_eql (f := eSpan) rfl · · · (gv e12) (gv e12) rfl rfl eg41 (eq41 _ _))) ?_
 refine sT 23 (bV (((eqI t0.mID t1.mID) && (eqI t0.mEpoch t1.mEpoch)) && (qSpan t0.mSpan t1.mSpan))) rfl (v_pickB rfl · · · rfl (fun e13 => (gv e13)) (fun e14 => rfl) (pA _ _)) ?_
 refine sM 24 (bV (((eqI t0.mID t1.mID) && (eqI t0.mEpoch t1.mEpoch)) && (qSpan t0.mSpan t1.mSpan))) rfl rfl ?_
 refine sG 25 (.d (.dp (List.drop 4 (eShard t0)))) rfl rfl (fun e15 => (v_field_dp (a0 := 4) (cs := (eShard t0)) rfl · · · fo45_3 rfl)) ?_
 refine sG 26 (iV t0.mPhase) rfl rfl (fun e16 => (v_load_dp1 rfl · · · onT3 (gv e16) rfl)) ?_
 refine sG 27 (.d (.dp (List.drop 4 (eShard t1)))) rfl rfl (fun e17 => (v_field_dp (a0 := 4) (cs := (eShard t1)) rfl · · · fo45_3 rfl)) ?_
 refine sG 28 (iV t1.mPhase) rfl rfl (fun e18 => (v_load_dp1 rfl · · · onT3 (gv e18) rfl)) ?_
 refine sG 29 (bV (eqI t0.mPhase t1.mPhase)) rfl rfl (fun e19 => (v_bin rfl · · · (gv e19) (gv e19) (b_eql rfl))) ?_
 refine sT 30 (bV ((((eqI t0.mID t1.mID) && (eqI t0.mEpoch t1.mEpoch)) && (qSpan t0.mSpan t1.mSpan)) && (eqI t0.mPhase t1.mPhase))) rfl (v_pickB rfl · · · rfl (fun e20 => (gv e20)) (fun e21 => rfl) (pA _ _)) ?_
 refine sM 31 (bV ((((eqI t0.mID t1.mID) && (eqI t0.mEpoch t1.mEpoch)) && (qSpan t0.mSpan t1.mSpan)) && (eqI t0.mPhase t1.mPhase))) rfl rfl ?_
 refine sG 32 (.d (.dp (List.drop 5 (eShard t0)))) rfl rfl (fun e22 => (v_field_dp (a0 := 5) (cs := (eShard t0)) rfl · · · fo45_4 rfl)) ?_
 refine sG 33 (.d (.sl 2 (t0.mEntries.map eEntry))) rfl rfl (fun e23 => (v_load_dp1 rfl · · · onT42 (gv e23) rfl)) ?_
 refine sG 34 (.d (.dp (List.drop 5 (eShard t1)))) rfl rfl (fun e24 => (v_field_dp (a0 := 5) (cs := (eShard t1)) rfl · · · fo45_4 rfl)) ?_
 refine sG 35 (.d (.sl 2 (t1.mEntries.map eEntry))) rfl rfl (fun e25 => (v_load_dp1 rfl · · · onT42 (gv e25) rfl)) ?_
 obtain ⟨t36, c27, h⟩ := bpos h
 refine sG 36 (bV t36) rfl rfl (fun e26 => (w_call (ds := [(.sl 2 (t0.mEntries.map eEntry)), (.sl 2 (t1.mEntries.map eEntry))]) (caps := []) (l := [(.s (.bool t36))]) (s40 k t0.mEntries t1.mEntries _ (cpos e26 c27)) rfl rfl rfl en40 · · · (.inl ⟨rfl, rfl⟩) (cc (gv e26) (cc (gv e26) rfl)) rfl)) ?_
 refine sT 37 (bV (((((eqI t0.mID t1.mID) && (eqI t0.mEpoch t1.mEpoch)) && (qSpan t0.mSpan t1.mSpan)) && (eqI t0.mPhase t1.mPhase)) && t36)) rfl (v_pickB rfl · · · rfl (fun e28 => (gv e28)) (fun e29 => rfl) (pA _ _)) ?_
 refine sM 38 (bV (((((eqI t0.mID t1.mID) && (eqI t0.mEpoch t1.mEpoch)) && (qSpan t0.mSpan t1.mSpan)) && (eqI t0.mPhase t1.mPhase)) && t36)) rfl rfl ?_
 refine sG 39 (.d (.dp (List.drop 6 (eShard t0)))) rfl rfl (fun e30 => (v_field_dp (a0 := 6) (cs := (eShard t0)) rfl · · · fo45_5 rfl)) ?_
 refine sG 40 (.d (.agg (eStamp t0.mMark))) rfl rfl (fun e31 => (w_ldp (List.drop 6 (eShard t0)) (eStamp t0.mMark) rfl · · · ag24 (gv e31) (ble _ _ rfl) rfl)) ?_
 refine sG 41 (.d (.dp (List.drop 6 (eShard t1)))) rfl rfl (fun e32 => (v_field_dp (a0 := 6) (cs := (eShard t1)) rfl · · · fo45_5 rfl)) ?_
 refine sG 42 (.d (.agg (eStamp t1.mMark))) rfl rfl (fun e33 => (w_ldp (List.drop 6 (eShard t1)) (eStamp t1.mMark) rfl · · · ag24 (gv e33) (ble _ _ rfl) rfl)) ?_
 refine sG 43 (bV (qStamp t0.mMark t1.mMark)) rfl rfl (fun e34 => (v_bin_eql (f := eStamp) rfl · · · (gv e34) (gv e34) rfl rfl eg24 (eq24 _ _))) ?_
 refine sT 44 (bV ((((((eqI t0.mID t1.mID) && (eqI t0.mEpoch t1.mEpoch)) && (qSpan t0.mSpan t1.mSpan)) && (eqI t0.mPhase t1.mPhase)) && t36) && (qStamp t0.mMark t1.mMark))) rfl (v_pickB rfl · · · rfl (fun e35 => (gv e35)) (fun e36 => rfl) (pA _ _)) ?_
 refine sM 45 (bV ((((((eqI t0.mID t1.mID) && (eqI t0.mEpoch t1.mEpoch)) && (qSpan t0.mSpan t1.mSpan)) && (eqI t0.mPhase t1.mPhase)) && t36) && (qStamp t0.mMark t1.mMark))) rfl rfl ?_
 refine sG 46 (.d (.dp (List.drop 9 (eShard t0)))) rfl rfl (fun e37 => (v_field_dp (a0 := 9) (cs := (eShard t0)) rfl · · · fo45_6 rfl)) ?_
 refine sG 47 (.d (.agg (eStamp t0.mTop))) rfl rfl (fun e38 => (w_ldp (List.drop 9 (eShard t0)) (eStamp t0.mTop) rfl · · · ag24 (gv e38) (ble _ _ rfl) rfl)) ?_
 refine sG 48 (.d (.dp (List.drop 9 (eShard t1)))) rfl rfl (fun e39 => (v_field_dp (a0 := 9) (cs := (eShard t1)) rfl · · · fo45_6 rfl)) ?_
 refine sG 49 (.d (.agg (eStamp t1.mTop))) rfl rfl (fun e40 => (w_ldp (List.drop 9 (eShard t1)) (eStamp t1.mTop) rfl · · · ag24 (gv e40) (ble _ _ rfl) rfl)) ?_
 refine sG 50 (bV (qStamp t0.mTop t1.mTop)) rfl rfl (fun e41 => (v_bin_eql (f := eStamp) rfl · · · (gv e41) (gv e41) rfl rfl eg24 (eq24 _ _))) ?_
 refine sT 51 (bV (((((((eqI t0.mID t1.mID) && (eqI t0.mEpoch t1.mEpoch)) && (qSpan t0.mSpan t1.mSpan)) && (eqI t0.mPhase t1.mPhase)) && t36) && (qStamp t0.mMark t1.mMark)) && (qStamp t0.mTop t1.mTop))) rfl (v_pickB rfl · · · rfl (fun e42 => (gv e42)) (fun e43 => rfl) (pA _ _)) ?_
 refine sM 52 (bV (((((((eqI t0.mID t1.mID) && (eqI t0.mEpoch t1.mEpoch)) && (qSpan t0.mSpan t1.mSpan)) && (eqI t0.mPhase t1.mPhase)) && t36) && (qStamp t0.mMark t1.mMark)) && (qStamp t0.mTop t1.mTop))) rfl rfl ?_
 refine sG 53 (.d (.dp (List.drop 12 (eShard t0)))) rfl rfl (fun e44 => (v_field_dp (a0 := 12) (cs := (eShard t0)) rfl · · · fo45_7 rfl)) ?_
 refine sG 54 (.d (.sl 11 (t0.mDone.map eDone))) rfl rfl (fun e45 => (v_load_dp1 rfl · · · onT43 (gv e45) rfl)) ?_
 refine sG 55 (.d (.dp (List.drop 12 (eShard t1)))) rfl rfl (fun e46 => (v_field_dp (a0 := 12) (cs := (eShard t1)) rfl · · · fo45_7 rfl)) ?_
 refine sG 56 (.d (.sl 11 (t1.mDone.map eDone))) rfl rfl (fun e47 => (v_load_dp1 rfl · · · onT43 (gv e47) rfl)) ?_
 obtain ⟨t57, c49, h⟩ := bpos h
 refine sG 57 (bV t57) rfl rfl (fun e48 => (w_call (ds := [(.sl 11 (t0.mDone.map eDone)), (.sl 11 (t1.mDone.map eDone))]) (caps := []) (l := [(.s (.bool t57))]) (s41 k t0.mDone t1.mDone _ (cpos e48 c49)) rfl rfl rfl en41 · · · (.inl ⟨rfl, rfl⟩) (cc (gv e48) (cc (gv e48) rfl)) rfl)) ?_
 refine sT 58 (bV ((((((((eqI t0.mID t1.mID) && (eqI t0.mEpoch t1.mEpoch)) && (qSpan t0.mSpan t1.mSpan)) && (eqI t0.mPhase t1.mPhase)) && t36) && (qStamp t0.mMark t1.mMark)) && (qStamp t0.mTop t1.mTop)) && t57)) rfl (v_pickB rfl · · · rfl (fun e50 => (gv e50)) (fun e51 => rfl) (pA _ _)) ?_
 refine sM 59 (bV ((((((((eqI t0.mID t1.mID) && (eqI t0.mEpoch t1.mEpoch)) && (qSpan t0.mSpan t1.mSpan)) && (eqI t0.mPhase t1.mPhase)) && t36) && (qStamp t0.mMark t1.mMark)) && (qStamp t0.mTop t1.mTop)) && t57)) rfl rfl ?_
 refine sG 60 (.d (.dp (List.drop 13 (eShard t0)))) rfl rfl (fun e52 => (v_field_dp (a0 := 13) (cs := (eShard t0)) rfl · · · fo45_8 rfl)) ?_
 refine sG 61 (iV t0.mHold) rfl rfl (fun e53 => (v_load_dp1 rfl · · · onT3 (gv e53) rfl)) ?_
 refine sG 62 (.d (.dp (List.drop 13 (eShard t1)))) rfl rfl (fun e54 => (v_field_dp (a0 := 13) (cs := (eShard t1)) rfl · · · fo45_8 rfl)) ?_
 refine sG 63 (iV t1.mHold) rfl rfl (fun e55 => (v_load_dp1 rfl · · · onT3 (gv e55) rfl)) ?_
 refine sG 64 (bV (eqI t0.mHold t1.mHold)) rfl rfl (fun e56 => (v_bin rfl · · · (gv e56) (gv e56) (b_eql rfl))) ?_
 refine sT 65 (bV (((((((((eqI t0.mID t1.mID) && (eqI t0.mEpoch t1.mEpoch)) && (qSpan t0.mSpan t1.mSpan)) && (eqI t0.mPhase t1.mPhase)) && t36) && (qStamp t0.mMark t1.mMark)) && (qStamp t0.mTop t1.mTop)) && t57) && (eqI t0.mHold t1.mHold))) rfl (v_pickB rfl · · · rfl (fun e57 => (gv e57)) (fun e58 => rfl) (pA _ _)) ?_
 refine sM 66 (bV (((((((((eqI t0.mID t1.mID) && (eqI t0.mEpoch t1.mEpoch)) && (qSpan t0.mSpan t1.mSpan)) && (eqI t0.mPhase t1.mPhase)) && t36) && (qStamp t0.mMark t1.mMark)) && (qStamp t0.mTop t1.mTop)) && t57) && (eqI t0.mHold t1.mHold))) rfl rfl ?_
 refine sG 67 (.d (.dp (List.drop 14 (eShard t0)))) rfl rfl (fun e59 => (v_field_dp (a0 := 14) (cs := (eShard t0)) rfl · · · fo45_9 rfl)) ?_
 refine sG 68 (iV t0.mSeen) rfl rfl (fun e60 => (v_load_dp1 rfl · · · onT3 (gv e60) rfl)) ?_
 refine sG 69 (.d (.dp (List.drop 14 (eShard t1)))) rfl rfl (fun e61 => (v_field_dp (a0 := 14) (cs := (eShard t1)) rfl · · · fo45_9 rfl)) ?_
 refine sG 70 (iV t1.mSeen) rfl rfl (fun e62 => (v_load_dp1 rfl · · · onT3 (gv e62) rfl)) ?_
 refine sG 71 (bV (eqI t0.mSeen t1.mSeen)) rfl rfl (fun e63 => (v_bin rfl · · · (gv e63) (gv e63) (b_eql rfl))) ?_
 refine sT 72 (bV ((((((((((eqI t0.mID t1.mID) && (eqI t0.mEpoch t1.mEpoch)) && (qSpan t0.mSpan t1.mSpan)) && (eqI t0.mPhase t1.mPhase)) && t36) && (qStamp t0.mMark t1.mMark)) && (qStamp t0.mTop t1.mTop)) && t57) && (eqI t0.mHold t1.mHold)) && (eqI t0.mSeen t1.mSeen))) rfl (v_pickB rfl · · · rfl (fun e64 => (gv e64)) (fun e65 => rfl) (pA _ _)) ?_
 refine sM 73 (bV ((((((((((eqI t0.mID t1.mID) && (eqI t0.mEpoch t1.mEpoch)) && (qSpan t0.mSpan t1.mSpan)) && (eqI t0.mPhase t1.mPhase)) && t36) && (qStamp t0.mMark t1.mMark)) && (qStamp t0.mTop t1.mTop)) && t57) && (eqI t0.mHold t1.mHold)) && (eqI t0.mSeen t1.mSeen))) rfl rfl ?_
 refine sG 74 (.d (.dp (List.drop 15 (eShard t0)))) rfl rfl (fun e66 => (v_field_dp (a0 := 15) (cs := (eShard t0)) rfl · · · fo45_10 rfl)) ?_
 refine sG 75 (iV t0.mMove) rfl rfl (fun e67 => (v_load_dp1 rfl · · · onT3 (gv e67) rfl)) ?_
 refine sG 76 (.d (.dp (List.drop 15 (eShard t1)))) rfl rfl (fun e68 => (v_field_dp (a0 := 15) (cs := (eShard t1)) rfl · · · fo45_10 rfl)) ?_
 refine sG 77 (iV t1.mMove) rfl rfl (fun e69 => (v_load_dp1 rfl · · · onT3 (gv e69) rfl)) ?_
 refine sG 78 (bV (eqI t0.mMove t1.mMove)) rfl rfl (fun e70 => (v_bin rfl · · · (gv e70) (gv e70) (b_eql rfl))) ?_
 refine sT 79 (bV (((((((((((eqI t0.mID t1.mID) && (eqI t0.mEpoch t1.mEpoch)) && (qSpan t0.mSpan t1.mSpan)) && (eqI t0.mPhase t1.mPhase)) && t36) && (qStamp t0.mMark t1.mMark)) && (qStamp t0.mTop t1.mTop)) && t57) && (eqI t0.mHold t1.mHold)) && (eqI t0.mSeen t1.mSeen)) && (eqI t0.mMove t1.mMove))) rfl (v_pickB rfl · · · rfl (fun e71 => (gv e71)) (fun e72 => rfl) (pA _ _)) ?_
 refine sM 80 (bV (((((((((((eqI t0.mID t1.mID) && (eqI t0.mEpoch t1.mEpoch)) && (qSpan t0.mSpan t1.mSpan)) && (eqI t0.mPhase t1.mPhase)) && t36) && (qStamp t0.mMark t1.mMark)) && (qStamp t0.mTop t1.mTop)) && t57) && (eqI t0.mHold t1.mHold)) && (eqI t0.mSeen t1.mSeen)) && (eqI t0.mMove t1.mMove))) rfl rfl ?_
 refine sG 81 (.d (.dp (List.drop 16 (eShard t0)))) rfl rfl (fun e73 => (v_field_dp (a0 := 16) (cs := (eShard t0)) rfl · · · fo45_11 rfl)) ?_
 refine sG 82 (iV t0.mClosed) rfl rfl (fun e74 => (v_load_dp1 rfl · · · onT3 (gv e74) rfl)) ?_
 refine sG 83 (.d (.dp (List.drop 16 (eShard t1)))) rfl rfl (fun e75 => (v_field_dp (a0 := 16) (cs := (eShard t1)) rfl · · · fo45_11 rfl)) ?_
 refine sG 84 (iV t1.mClosed) rfl rfl (fun e76 => (v_load_dp1 rfl · · · onT3 (gv e76) rfl)) ?_
 refine sG 85 (bV (eqI t0.mClosed t1.mClosed)) rfl rfl (fun e77 => (v_bin rfl · · · (gv e77) (gv e77) (b_eql rfl))) ?_
 refine sT 86 (bV ((((((((((((eqI t0.mID t1.mID) && (eqI t0.mEpoch t1.mEpoch)) && (qSpan t0.mSpan t1.mSpan)) && (eqI t0.mPhase t1.mPhase)) && t36) && (qStamp t0.mMark t1.mMark)) && (qStamp t0.mTop t1.mTop)) && t57) && (eqI t0.mHold t1.mHold)) && (eqI t0.mSeen t1.mSeen)) && (eqI t0.mMove t1.mMove)) && (eqI t0.mClosed t1.mClosed))) rfl (v_pickB rfl · · · rfl (fun e78 => (gv e78)) (fun e79 => rfl) (pA _ _)) ?_
 refine sM 4 (bV ((((((((((((eqI t0.mID t1.mID) && (eqI t0.mEpoch t1.mEpoch)) && (qSpan t0.mSpan t1.mSpan)) && (eqI t0.mPhase t1.mPhase)) && t36) && (qStamp t0.mMark t1.mMark)) && (qStamp t0.mTop t1.mTop)) && t57) && (eqI t0.mHold t1.mHold)) && (eqI t0.mSeen t1.mSeen)) && (eqI t0.mMove t1.mMove)) && (eqI t0.mClosed t1.mClosed))) rfl rfl ?_
 refine sq_nil ?_
 refine ht_ret ?_
 cases h
 exact ret1 rfl (.tmp rfl)
theorem s18 (k : Nat) (t0 : Cell) (t1 : Cell) (r : Bool) (h : F18 k t0 t1 = some r) : Awp.Spec Tryz.prog amb 18 [(.agg (eCell t0)), (.agg (eCell t1))] (.ds [(.s (.bool r))]) := by
 rw [F18] at h
 refine spec_of Tryz.func18 rfl (ble _ _ rfl) fun w0 ok0 lt0 hA => ?_
 refine sr ?_
 refine sT 2 (.d (.dp (eCell t0))) rfl (v_box_d (cs := (eCell t0)) rfl · · · rfl rfl (ones_of rfl)) ?_
 refine sT 3 (.d (.dp (eCell t1))) rfl (v_box_d (cs := (eCell t1)) rfl · · · rfl rfl (ones_of rfl)) ?_
 refine sM 4 (bV false) rfl rfl ?_
 refine sq_nil ?_
 refine ht_seq ?_
 refine sr ?_
 refine sT 6 (.d (.dp (eCell t0))) rfl (v_field_dp (a0 := 0) (cs := (eCell t0)) rfl · · · fo26_0 rfl) ?_
 refine sT 7 (.d (.sl 17 (t0.mShards.map eShard))) rfl (v_load_dp1 rfl · · · onT22 rfl rfl) ?_
 refine sT 8 (iV (t0.mShards.length : Int)) rfl (w_len t0.mShards eShard rfl rfl · · · slT22 rfl) ?_
 refine sT 9 (.d (.dp (eCell t1))) rfl (v_field_dp (a0 := 0) (cs := (eCell t1)) rfl · · · fo26_0 rfl) ?_
 refine sT 10 (.d (.sl 17 (t1.mShards.map eShard))) rfl (v_load_dp1 rfl · · · onT22 rfl rfl) ?_
 refine sT 11 (iV (t1.mShards.length : Int)) rfl (w_len t1.mShards eShard rfl rfl · · · slT22 rfl) ?_
 refine sT 12 (bV (!eqI (t0.mShards.length : Int) (t1.mShards.length : Int))) rfl (v_bin rfl · · · rfl rfl (b_neq rfl)) ?_
 refine sM 13 (bV (!eqI (t0.mShards.length : Int) (t1.mShards.length : Int))) rfl rfl ?_
 refine sF 14 (.d (.dp (List.drop 1 (eCell t0)))) rfl rfl (fun e1 => (v_field_dp (a0 := 1) (cs := (eCell t0)) rfl · · · fo26_1 rfl)) ?_
 refine sF 15 (.d (.agg (eStamp t0.mTop))) rfl rfl (fun e2 => (w_ldp (List.drop 1 (eCell t0)) (eStamp t0.mTop) rfl · · · ag24 (gv (nF e2)) (ble _ _ rfl) rfl)) ?_
 refine sF 16 (.d (.dp (List.drop 1 (eCell t1)))) rfl rfl (fun e3 => (v_field_dp (a0 := 1) (cs := (eCell t1)) rfl · · · fo26_1 rfl)) ?_
 refine sF 17 (.d (.agg (eStamp t1.mTop))) rfl rfl (fun e4 => (w_ldp (List.drop 1 (eCell t1)) (eStamp t1.mTop) rfl · · · ag24 (gv (nF e4)) (ble _ _ rfl) rfl)) ?_
 refine sF 18 (bV (!(qStamp t0.mTop t1.mTop))) rfl rfl (fun e5 => (v_bin_neq (f := eStamp) rfl · · · (gv (nF e5)) (gv (nF e5)) rfl rfl eg24 (eq24 _ _))) ?_
 refine sT 19 (bV ((!eqI (t0.mShards.length : Int) (t1.mShards.length : Int)) || (!(qStamp t0.mTop t1.mTop)))) rfl (v_pickB rfl · · · rfl (fun e6 => rfl) (fun e7 => (gv (nF e7))) (pO _ _)) ?_
 refine sM 20 (bV ((!eqI (t0.mShards.length : Int) (t1.mShards.length : Int)) || (!(qStamp t0.mTop t1.mTop)))) rfl rfl ?_
 refine sF 21 (.d (.dp (List.drop 4 (eCell t0)))) rfl rfl (fun e8 => (v_field_dp (a0 := 4) (cs := (eCell t0)) rfl · · · fo26_2 rfl)) ?_
 refine sF 22 (iV t0.mDropped) rfl rfl (fun e9 => (v_load_dp1 rfl · · · onT3 (gv (nF e9)) rfl)) ?_
 refine sF 23 (.d (.dp (List.drop 4 (eCell t1)))) rfl rfl (fun e10 => (v_field_dp (a0 := 4) (cs := (eCell t1)) rfl · · · fo26_2 rfl)) ?_
 refine sF 24 (iV t1.mDropped) rfl rfl (fun e11 => (v_load_dp1 rfl · · · onT3 (gv (nF e11)) rfl)) ?_
 refine sF 25 (bV (!eqI t0.mDropped t1.mDropped)) rfl rfl (fun e12 => (v_bin rfl · · · (gv (nF e12)) (gv (nF e12)) (b_neq rfl))) ?_
 refine sT 26 (bV (((!eqI (t0.mShards.length : Int) (t1.mShards.length : Int)) || (!(qStamp t0.mTop t1.mTop))) || (!eqI t0.mDropped t1.mDropped))) rfl (v_pickB rfl · · · rfl (fun e13 => rfl) (fun e14 => (gv (nF e14))) (pO _ _)) ?_
 refine sq_nil ?_
 refine ht_cond rfl (fun e15 => ?_) (fun e15 => ?_)
 ·replace h := cpos e15 h
  refine sr ?_
  refine sM 4 (bV false) rfl rfl ?_
  refine sq_nil ?_
  refine ht_ret ?_
  cases h
  exact ret1 rfl (.tmp rfl)
 replace h := cneg e15 h
 refine ht_skip ?_
 refine ht_gj (go_id' h) (fun _ => tell []) (fun _ h => ?_) (fun v16 K17 h j19 r20 => ?_)
 ·refine sr ?_
  refine sM 4 (bV true) rfl rfl ?_
  refine sq_nil ?_
  refine ht_ret ?_
  cases h
  exact ret1 rfl (.tmp rfl)
 refine sr ?_
 refine sM 5 (iV 0) rfl rfl ?_
 refine sq_nil ?_
 refine ht_block ?_
 refine ht_rd h (fun _ => rfl) (fun t5 => tell [(.t 2, .d (.dp (eCell t0))), (.t 3, .d (.dp (eCell t1))), (.t 5, iV t5)]) (wk_ren _ (fun i => i) rfl ⟨rfl, rfl, rfl, trivial⟩) fun k t5 h K29 j22 => ?_
 rw [F18_l1] at h
 refine ht_seq ?_
 refine sr ?_
 refine sM 27 (iV t5) rfl rfl ?_
 refine sT 28 (.d (.dp (eCell t0))) rfl (v_field_dp (a0 := 0) (cs := (eCell t0)) rfl · · · fo26_0 rfl) ?_
 refine sT 29 (.d (.sl 17 (t0.mShards.map eShard))) rfl (v_load_dp1 rfl · · · onT22 rfl rfl) ?_
 refine sT 30 (iV (t0.mShards.length : Int)) rfl (w_len t0.mShards eShard rfl rfl · · · slT22 rfl) ?_
 refine sT 31 (bV (ltI t5 (t0.mShards.length : Int))) rfl (v_bin rfl · · · rfl rfl (b_lss rfl)) ?_
 refine sq_nil ?_
 refine ht_cond rfl (fun e24 => ?_) (fun e24 => ?_)
 ·replace h := cpos e24 h
  refine ht_skip ?_
  refine ht_seq ?_
  refine ht_block ?_
  refine ht_seq ?_
  refine ht_region_draw mixed ?_
  refine rT 34 (.d (.dp (eCell t0))) rfl (v_field_dp (a0 := 0) (cs := (eCell t0)) rfl · · · fo26_0 rfl) ?_
  refine rT 35 (.d (.sl 17 (t0.mShards.map eShard))) rfl (v_load_dp1 rfl · · · onT22 rfl rfl) ?_
  refine rM 36 (iV t5) rfl rfl ?_
  obtain ⟨e25, h⟩ := gpos h
  refine rT 37 (.d (.dp (eShard (rd t0.mShards t5)))) rfl (w_idx t0.mShards eShard rfl · · · slT22 rfl rfl e25) ?_
  refine rT 38 (.d (.agg (eShard (rd t0.mShards t5)))) rfl (w_ldp (eShard (rd t0.mShards t5)) (eShard (rd t0.mShards t5)) rfl · · · ag45 rfl (ble _ _ rfl) rfl) ?_
  refine rT 39 (.d (.dp (eCell t1))) rfl (v_field_dp (a0 := 0) (cs := (eCell t1)) rfl · · · fo26_0 rfl) ?_
  refine rT 40 (.d (.sl 17 (t1.mShards.map eShard))) rfl (v_load_dp1 rfl · · · onT22 rfl rfl) ?_
  refine rM 41 (iV t5) rfl rfl ?_
  obtain ⟨e26, h⟩ := gpos h
  refine rT 42 (.d (.dp (eShard (rd t1.mShards t5)))) rfl (w_idx t1.mShards eShard rfl · · · slT22 rfl rfl e26) ?_
  refine rT 43 (.d (.agg (eShard (rd t1.mShards t5)))) rfl (w_ldp (eShard (rd t1.mShards t5)) (eShard (rd t1.mShards t5)) rfl · · · ag45 rfl (ble _ _ rfl) rfl) ?_
  obtain ⟨t44, c27, h⟩ := bpos h
  refine rT 44 (bV t44) rfl (w_call (ds := [(.agg (eShard (rd t0.mShards t5))), (.agg (eShard (rd t1.mShards t5)))]) (caps := []) (l := [(.s (.bool t44))]) (s26 k (rd t0.mShards t5) (rd t1.mShards t5) _ c27) rfl rfl rfl en26 · · · (.inl ⟨rfl, rfl⟩) rfl rfl) ?_
  refine rT 45 (bV (!t44)) rfl (v_un rfl · · · rfl (u_not rfl)) ?_
  refine rg_nil ⟨by kernel_rfl, ?_⟩
  refine ht_cond rfl (fun e28 => ?_) (fun e28 => ?_)
  ·replace h := cpos e28 h
   refine sr ?_
   refine sM 4 (bV false) rfl rfl ?_
   refine sq_nil ?_
   refine ht_ret ?_
   cases h
   cases r20 _ rfl
   exact ret1 rfl (.tmp rfl)
  replace h := cneg e28 h
  refine ht_skip ?_
  refine ht_region ?_
  refine sM 32 (iV t5) rfl rfl ?_
  refine sT 33 (iV (IntKind.wrap .i64 (t5 + 1))) rfl (v_bin rfl · · · rfl rfl (b_add rfl)) ?_
  refine sM 5 (iV (IntKind.wrap .i64 (t5 + 1))) rfl rfl ?_
  refine sq_nil ?_
  exact j22 _ _ h (wk_ren _ (fun i => i) rfl ⟨rfl, rfl, rfl, trivial⟩)
 replace h := cneg e24 h
 refine ht_exit ?_
 refine tq ?_
 refine tq ?_
 refine bq_hit ?_
 cases h
 exact j19 _ _ rfl (wk_ren _ (fun i => i) rfl trivial)
theorem s23 (k : Nat) (t0 : Cell) (t1 : Int) (r : Shard × Bool) (h : F23 k t0 t1 = some r) : Awp.Spec Tryz.prog amb 23 [(.agg (eCell t0)), (.s (.int .i64 t1))] (.ds [(.agg (eShard r.1)), (.s (.bool r.2))]) := by
 rw [F23] at h
 refine spec_of Tryz.func23 rfl (ble _ _ rfl) fun w0 ok0 lt0 hA => ?_
 refine sr ?_
 refine sT 2 (.d (.dp (eCell t0))) rfl (v_box_d (cs := (eCell t0)) rfl · · · rfl rfl (ones_of rfl)) ?_
 refine sq_cons _ (v_alloc (id := 4) (cs := zc45) rfl trivial rfl (ble _ _ rfl) zu45 rfl ft45 rfl) ?_
 refine sM 5 (bV false) rfl rfl ?_
 refine sq_nil ?_
 refine ht_seq ?_
 refine sr ?_
 refine sT 7 (.d (.agg (eCell t0))) rfl (w_ldp (eCell t0) (eCell t0) rfl · · · ag26 rfl (ble _ _ rfl) rfl) ?_
 obtain ⟨t8, c1, h⟩ := bpos h
 refine sT 8 (bV t8) rfl (w_call (ds := [(.agg (eCell t0))]) (caps := []) (l := [(.s (.bool t8))]) (s25 k t0 _ c1) rfl rfl rfl en25 · · · (.inl ⟨rfl, rfl⟩) rfl rfl) ?_
 refine sT 9 (bV (!t8)) rfl (v_un rfl · · · rfl (u_not rfl)) ?_
 refine sM 10 (bV (!t8)) rfl rfl ?_
 refine sF 11 (iV t1) rfl rfl (fun e2 => (v_move (.inl rfl) · · · rfl)) ?_
 refine sF 12 (.d (.sl 1 (([t1]).map (eI .i64)))) rfl rfl (fun e3 => (w_bsl_d [(0, iV t1)] [t1] (eI .i64) rfl · · · slT148 zr3 (encI .i64) (ble _ _ rfl) (cc (pr (gv (nF e3))) rfl) (by kernel_rfl) rfl rfl (by kernel_rfl))) ?_
 obtain ⟨t13, c5, h⟩ := bpos h
 refine sF 13 (bV t13) rfl rfl (fun e4 => (w_call (ds := [(.s (.int .i64 1)), (.sl 1 (([t1]).map (eI .i64)))]) (caps := []) (l := [(.s (.bool t13))]) (s57 k 1 ([t1]) _ (cpos (nF e4) c5)) rfl rfl rfl en57 · · · (.inl ⟨rfl, rfl⟩) (cc rfl (cc (gv (nF e4)) rfl)) rfl)) ?_
 refine sF 14 (bV (!t13)) rfl rfl (fun e6 => (v_un rfl · · · (gv (nF e6)) (u_not rfl))) ?_
 refine sT 15 (bV ((!t8) || (!t13))) rfl (v_pickB rfl · · · rfl (fun e7 => rfl) (fun e8 => (gv (nF e8))) (pO _ _)) ?_
 refine sq_nil ?_
 refine ht_cond rfl (fun e9 => ?_) (fun e9 => ?_)
 ·replace h := cpos e9 h
  refine sr ?_
  refine sT 16 (.d (.agg (eShard (⟨0, 0, (⟨⟨#[]⟩, ⟨#[]⟩⟩ : Span), 0, [], (⟨0, 0, 0⟩ : Stamp), (⟨0, 0, 0⟩ : Stamp), [], 0, 0, 0, 0⟩ : Shard)))) rfl (w_bld zc45 ((eShard (⟨0, 0, (⟨⟨#[]⟩, ⟨#[]⟩⟩ : Span), 0, [], (⟨0, 0, 0⟩ : Stamp), (⟨0, 0, 0⟩ : Stamp), [], 0, 0, 0, 0⟩ : Shard)).map V.d) [] rfl · · · zw45 rfl ft45 rfl rfl rfl rfl) ?_
  refine sq_cons _ (v_store_box (id := 4) (off := 0) (cs := (eShard (⟨0, 0, (⟨⟨#[]⟩, ⟨#[]⟩⟩ : Span), 0, [], (⟨0, 0, 0⟩ : Stamp), (⟨0, 0, 0⟩ : Stamp), [], 0, 0, 0, 0⟩ : Shard)).map V.d) rfl trivial rfl sz45 rfl rfl rfl rfl (ones_of rfl) (ble _ _ rfl)) ?_
  refine sM 5 (bV false) rfl rfl ?_
  refine sq_nil ?_
  refine ht_ret ?_
  cases h
  exact ret2 rfl (.cell rfl rfl ag45 (ble _ _ rfl) rfl) (.tmp rfl)
 replace h := cneg e9 h
 refine ht_skip ?_
 refine sr ?_
 refine sT 17 (.d (.agg (eCell t0))) rfl (w_ldp (eCell t0) (eCell t0) rfl · · · ag26 rfl (ble _ _ rfl) rfl) ?_
 refine sM 18 (iV t1) rfl rfl ?_
 obtain ⟨t19, c10, h⟩ := bpos h
 refine sT 19 (.d (.agg (eShard t19))) rfl (w_call (ds := [(.agg (eCell t0)), (.s (.int .i64 t1))]) (caps := []) (l := [(.agg (eShard t19))]) (s60 k t0 t1 _ c10) rfl rfl rfl en60 · · · (.inl ⟨rfl, rfl⟩) rfl rfl) ?_
 refine sq_cons _ (v_alloc (id := 6) (cs := zc45) rfl trivial rfl (ble _ _ rfl) zu45 rfl ft45 rfl) ?_
 refine sq_cons _ (v_store_box (id := 6) (off := 0) (cs := (eShard t19).map V.d) rfl trivial rfl sz45 rfl rfl rfl rfl (ones_of rfl) (ble _ _ rfl)) ?_
 refine sq_nil ?_
 refine ht_seq ?_
 refine ht_region_draw mixed ?_
 refine rT 20 (.d (.agg (eShard t19))) rfl (w_ldb 6 0 rfl · · · ag45 rfl rfl (ble _ _ rfl) rfl) ?_
 refine rT 21 (.ptr 6 0) rfl (v_field_box (off := 0) (a0 := 0) rfl · · · fo45_0 rfl) ?_
 refine rT 22 (iV t19.mID) rfl (v_load_box1 (id := 6) (off := 0) rfl · · · onT3 rfl rfl (ble _ _ rfl) rfl) ?_
 refine rT 23 (bV (!eqI t19.mID 0)) rfl (v_bin rfl · · · rfl rfl (b_neq rfl)) ?_
 refine rg_cons _ (v_store_box (id := 4) (off := 0) (cs := (eShard t19).map V.d) rfl trivial rfl sz45 rfl rfl rfl rfl (ones_of rfl) (ble _ _ rfl)) ?_
 refine rM 5 (bV (!eqI t19.mID 0)) rfl rfl ?_
 refine rg_nil ⟨by kernel_rfl, ?_⟩
 refine ht_ret ?_
 cases h
 exact ret2 rfl (.cell rfl rfl ag45 (ble _ _ rfl) rfl) (.tmp rfl)
theorem s93 (k : Nat) (t0 : Shard) (t1 : Int) (r : Bool) (h : F93 k t0 t1 = some r) : Awp.Spec Tryz.prog amb 93 [(.agg (eShard t0)), (.s (.int .i64 t1))] (.ds [(.s (.bool r))]) := by
 rw [F93] at h
 refine spec_of Tryz.func93 rfl (ble _ _ rfl) fun w0 ok0 lt0 hA => ?_
 refine sr ?_
 refine sT 2 (.d (.dp (eShard t0))) rfl (v_box_d (cs := (eShard t0)) rfl · · · rfl rfl (ones_of rfl)) ?_
 refine sM 4 (bV false) rfl rfl ?_
 refine sq_nil ?_
 refine sr ?_
 refine sT 5 (.d (.dp (List.drop 4 (eShard t0)))) rfl (v_field_dp (a0 := 4) (cs := (eShard t0)) rfl · · · fo45_3 rfl) ?_
 refine sT 6 (iV t0.mPhase) rfl (v_load_dp1 rfl · · · onT3 rfl rfl) ?_
 refine sT 7 (bV (eqI t0.mPhase 3)) rfl (v_bin rfl · · · rfl rfl (b_eql rfl)) ?_
 refine sM 8 (bV (eqI t0.mPhase 3)) rfl rfl ?_
 refine sG 9 (.d (.dp (List.drop 15 (eShard t0)))) rfl rfl (fun e1 => (v_field_dp (a0 := 15) (cs := (eShard t0)) rfl · · · fo45_10 rfl)) ?_
 refine sG 10 (iV t0.mMove) rfl rfl (fun e2 => (v_load_dp1 rfl · · · onT3 (gv e2) rfl)) ?_
 refine sG 11 (iV t1) rfl rfl (fun e3 => (v_move (.inl rfl) · · · rfl)) ?_
 refine sG 12 (bV (eqI t0.mMove t1)) rfl rfl (fun e4 => (v_bin rfl · · · (gv e4) (gv e4) (b_eql rfl))) ?_
 refine sT 13 (bV ((eqI t0.mPhase 3) && (eqI t0.mMove t1))) rfl (v_pickB rfl · · · rfl (fun e5 => (gv e5)) (fun e6 => rfl) (pA _ _)) ?_
 refine sM 4 (bV ((eqI t0.mPhase 3) && (eqI t0.mMove t1))) rfl rfl ?_
 refine sq_nil ?_
 refine ht_ret ?_
 cases h
 exact ret1 rfl (.tmp rfl)
theorem s94 (k : Nat) (t0 : Shard) (t1 : Int) (r : Bool) (h : F94 k t0 t1 = some r) : Awp.Spec Tryz.prog amb 94 [(.agg (eShard t0)), (.s (.int .i64 t1))] (.ds [(.s (.bool r))]) := by
 rw [F94] at h
 refine spec_of Tryz.func94 rfl (ble _ _ rfl) fun w0 ok0 lt0 hA => ?_
 refine sr ?_
 refine sT 2 (.d (.dp (eShard t0))) rfl (v_box_d (cs := (eShard t0)) rfl · · · rfl rfl (ones_of rfl)) ?_
 refine sM 4 (bV false) rfl rfl ?_
 refine sq_nil ?_
 refine sr ?_
 refine sT 5 (.d (.dp (List.drop 4 (eShard t0)))) rfl (v_field_dp (a0 := 4) (cs := (eShard t0)) rfl · · · fo45_3 rfl) ?_
 refine sT 6 (iV t0.mPhase) rfl (v_load_dp1 rfl · · · onT3 rfl rfl) ?_
 refine sT 7 (bV (eqI t0.mPhase 2)) rfl (v_bin rfl · · · rfl rfl (b_eql rfl)) ?_
 refine sM 8 (bV (eqI t0.mPhase 2)) rfl rfl ?_
 refine sG 9 (.d (.dp (List.drop 15 (eShard t0)))) rfl rfl (fun e1 => (v_field_dp (a0 := 15) (cs := (eShard t0)) rfl · · · fo45_10 rfl)) ?_
 refine sG 10 (iV t0.mMove) rfl rfl (fun e2 => (v_load_dp1 rfl · · · onT3 (gv e2) rfl)) ?_
 refine sG 11 (iV t1) rfl rfl (fun e3 => (v_move (.inl rfl) · · · rfl)) ?_
 refine sG 12 (bV (eqI t0.mMove t1)) rfl rfl (fun e4 => (v_bin rfl · · · (gv e4) (gv e4) (b_eql rfl))) ?_
 refine sT 13 (bV ((eqI t0.mPhase 2) && (eqI t0.mMove t1))) rfl (v_pickB rfl · · · rfl (fun e5 => (gv e5)) (fun e6 => rfl) (pA _ _)) ?_
 refine sM 4 (bV ((eqI t0.mPhase 2) && (eqI t0.mMove t1))) rfl rfl ?_
 refine sq_nil ?_
 refine ht_ret ?_
 cases h
 exact ret1 rfl (.tmp rfl)
theorem s96 (k : Nat) (t0 : Shard) (t1 : Int) (t2 : Int) (r : Bool) (h : F96 k t0 t1 t2 = some r) : Awp.Spec Tryz.prog amb 96 [(.agg (eShard t0)), (.s (.int .i64 t1)), (.s (.int .i64 t2))] (.ds [(.s (.bool r))]) := by
 rw [F96] at h
 refine spec_of Tryz.func96 rfl (ble _ _ rfl) fun w0 ok0 lt0 hA => ?_
 refine sr ?_
 refine sT 3 (.d (.dp (eShard t0))) rfl (v_box_d (cs := (eShard t0)) rfl · · · rfl rfl (ones_of rfl)) ?_
 refine sM 6 (bV false) rfl rfl ?_
 refine sq_nil ?_
 refine sr ?_
 refine sT 7 (.d (.dp (eShard t0))) rfl (v_field_dp (a0 := 0) (cs := (eShard t0)) rfl · · · fo45_0 rfl) ?_
 refine sT 8 (iV t0.mID) rfl (v_load_dp1 rfl · · · onT3 rfl rfl) ?_
 refine sT 9 (bV (ltI 0 t0.mID)) rfl (v_bin rfl · · · rfl rfl (b_gtr rfl)) ?_
 refine sM 10 (bV (ltI 0 t0.mID)) rfl rfl ?_
 refine sG 11 (.d (.dp (List.drop 4 (eShard t0)))) rfl rfl (fun e1 => (v_field_dp (a0 := 4) (cs := (eShard t0)) rfl · · · fo45_3 rfl)) ?_
 refine sG 12 (iV t0.mPhase) rfl rfl (fun e2 => (v_load_dp1 rfl · · · onT3 (gv e2) rfl)) ?_
 refine sG 13 (iV t1) rfl rfl (fun e3 => (v_move (.inl rfl) · · · rfl)) ?_
 refine sG 14 (bV (eqI t0.mPhase t1)) rfl rfl (fun e4 => (v_bin rfl · · · (gv e4) (gv e4) (b_eql rfl))) ?_
 refine sT 15 (bV ((ltI 0 t0.mID) && (eqI t0.mPhase t1))) rfl (v_pickB rfl · · · rfl (fun e5 => (gv e5)) (fun e6 => rfl) (pA _ _)) ?_
 refine sM 16 (bV ((ltI 0 t0.mID) && (eqI t0.mPhase t1))) rfl rfl ?_
 refine sG 17 (.d (.dp (List.drop 15 (eShard t0)))) rfl rfl (fun e7 => (v_field_dp (a0 := 15) (cs := (eShard t0)) rfl · · · fo45_10 rfl)) ?_
 refine sG 18 (iV t0.mMove) rfl rfl (fun e8 => (v_load_dp1 rfl · · · onT3 (gv e8) rfl)) ?_
 refine sG 19 (iV t2) rfl rfl (fun e9 => (v_move (.inl rfl) · · · rfl)) ?_
 refine sG 20 (bV (eqI t0.mMove t2)) rfl rfl (fun e10 => (v_bin rfl · · · (gv e10) (gv e10) (b_eql rfl))) ?_
 refine sT 21 (bV (((ltI 0 t0.mID) && (eqI t0.mPhase t1)) && (eqI t0.mMove t2))) rfl (v_pickB rfl · · · rfl (fun e11 => (gv e11)) (fun e12 => rfl) (pA _ _)) ?_
 refine sM 6 (bV (((ltI 0 t0.mID) && (eqI t0.mPhase t1)) && (eqI t0.mMove t2))) rfl rfl ?_
 refine sq_nil ?_
 refine ht_ret ?_
 cases h
 exact ret1 rfl (.tmp rfl)
theorem s39 (k : Nat) (t0 : Cell) (t1 : Int) (t2 : Int) (t3 : Int) (r : Cell × Bool) (h : F39 k t0 t1 t2 t3 = some r) : Awp.Spec Tryz.prog amb 39 [(.agg (eCell t0)), (.s (.int .i64 t1)), (.s (.int .i64 t2)), (.s (.int .i64 t3))] (.ds [(.agg (eCell r.1)), (.s (.bool r.2))]) := by
 rw [F39] at h
 refine spec_of Tryz.func39 rfl (ble _ _ rfl) fun w0 ok0 lt0 hA => ?_
 refine sr ?_
 refine sT 4 (.d (.dp (eCell t0))) rfl (v_box_d (cs := (eCell t0)) rfl · · · rfl rfl (ones_of rfl)) ?_
 refine sq_cons _ (v_alloc (id := 8) (cs := zc26) rfl trivial rfl (ble _ _ rfl) zu26 rfl ft26 rfl) ?_
 refine sM 9 (bV false) rfl rfl ?_
 refine sq_nil ?_
 refine sr ?_
 refine sT 13 (.d (.agg (eCell t0))) rfl (w_ldp (eCell t0) (eCell t0) rfl · · · ag26 rfl (ble _ _ rfl) rfl) ?_
 refine sM 14 (iV t1) rfl rfl ?_
 obtain ⟨⟨t15a, t15b⟩, c1, h⟩ := bpos h
 refine sT 15 (.tup [.d (.agg (eShard t15a)), bV t15b]) rfl (w_call (ds := [(.agg (eCell t0)), (.s (.int .i64 t1))]) (caps := []) (l := [(.agg (eShard t15a)), (.s (.bool t15b))]) (s23 k t0 t1 _ c1) rfl rfl rfl en23 · · · (.inl ⟨rfl, rfl⟩) rfl rfl) ?_
 refine sM 12 (.tup [.d (.agg (eShard t15a)), bV t15b]) rfl rfl ?_
 refine sT 16 (.d (.agg (eShard t15a))) rfl (v_extract rfl · · · rfl rfl) ?_
 refine sT 17 (bV t15b) rfl (v_extract rfl · · · rfl rfl) ?_
 refine sq_cons _ (v_alloc (id := 10) (cs := zc45) rfl trivial rfl (ble _ _ rfl) zu45 rfl ft45 rfl) ?_
 refine sq_cons _ (v_store_box (id := 10) (off := 0) (cs := (eShard t15a).map V.d) rfl trivial rfl sz45 rfl rfl rfl rfl (ones_of rfl) (ble _ _ rfl)) ?_
 refine sM 11 (bV t15b) rfl rfl ?_
 refine sq_nil ?_
 refine ht_seq ?_
 refine sr ?_
 refine sM 18 (bV t15b) rfl rfl ?_
 refine sT 19 (bV (!t15b)) rfl (v_un rfl · · · rfl (u_not rfl)) ?_
 refine sM 20 (bV (!t15b)) rfl rfl ?_
 refine sF 21 (iV t2) rfl rfl (fun e2 => (v_move (.inl rfl) · · · rfl)) ?_
 refine sF 22 (iV t3) rfl rfl (fun e3 => (v_move (.inl rfl) · · · rfl)) ?_
 refine sF 23 (.d (.sl 1 (([t2, t3]).map (eI .i64)))) rfl rfl (fun e4 => (w_bsl_d [(0, iV t2), (1, iV t3)] [t2, t3] (eI .i64) rfl · · · slT148 zr3 (encI .i64) (ble _ _ rfl) (cc (pr (gv (nF e4))) (cc (pr (gv (nF e4))) rfl)) (by kernel_rfl) rfl rfl (by kernel_rfl))) ?_
 obtain ⟨t24, c6, h⟩ := bpos h
 refine sF 24 (bV t24) rfl rfl (fun e5 => (w_call (ds := [(.s (.int .i64 1)), (.sl 1 (([t2, t3]).map (eI .i64)))]) (caps := []) (l := [(.s (.bool t24))]) (s57 k 1 ([t2, t3]) _ (cpos (nF e5) c6)) rfl rfl rfl en57 · · · (.inl ⟨rfl, rfl⟩) (cc rfl (cc (gv (nF e5)) rfl)) rfl)) ?_
 refine sF 25 (bV (!t24)) rfl rfl (fun e7 => (v_un rfl · · · (gv (nF e7)) (u_not rfl))) ?_
 refine sT 26 (bV ((!t15b) || (!t24))) rfl (v_pickB rfl · · · rfl (fun e8 => rfl) (fun e9 => (gv (nF e9))) (pO _ _)) ?_
 refine sq_nil ?_
 refine ht_cond rfl (fun e10 => ?_) (fun e10 => ?_)
 ·replace h := cpos e10 h
  refine sr ?_
  refine sT 27 (.d (.agg (eCell t0))) rfl (w_ldp (eCell t0) (eCell t0) rfl · · · ag26 rfl (ble _ _ rfl) rfl) ?_
  refine sq_cons _ (v_store_box (id := 8) (off := 0) (cs := (eCell t0).map V.d) rfl trivial rfl sz26 rfl rfl rfl rfl (ones_of rfl) (ble _ _ rfl)) ?_
  refine sM 9 (bV false) rfl rfl ?_
  refine sq_nil ?_
  refine ht_ret ?_
  cases h
  exact ret2 rfl (.cell rfl rfl ag26 (ble _ _ rfl) rfl) (.tmp rfl)
 replace h := cneg e10 h
 refine ht_skip ?_
 refine ht_seq ?_
 refine sr ?_
 refine sT 28 (.d (.agg (eShard t15a))) rfl (w_ldb 10 0 rfl · · · ag45 rfl rfl (ble _ _ rfl) rfl) ?_
 refine sM 29 (iV t3) rfl rfl ?_
 obtain ⟨t30, c11, h⟩ := bpos h
 refine sT 30 (bV t30) rfl (w_call (ds := [(.agg (eShard t15a)), (.s (.int .i64 t3))]) (caps := []) (l := [(.s (.bool t30))]) (s94 k t15a t3 _ c11) rfl rfl rfl en94 · · · (.inl ⟨rfl, rfl⟩) rfl rfl) ?_
 refine sq_nil ?_
 refine ht_cond rfl (fun e12 => ?_) (fun e12 => ?_)
 ·replace h := cpos e12 h
  refine sr ?_
  refine sT 31 (.d (.agg (eCell t0))) rfl (w_ldp (eCell t0) (eCell t0) rfl · · · ag26 rfl (ble _ _ rfl) rfl) ?_
  refine sq_cons _ (v_store_box (id := 8) (off := 0) (cs := (eCell t0).map V.d) rfl trivial rfl sz26 rfl rfl rfl rfl (ones_of rfl) (ble _ _ rfl)) ?_
  refine sM 9 (bV true) rfl rfl ?_
  refine sq_nil ?_
  refine ht_ret ?_
  cases h
  exact ret2 rfl (.cell rfl rfl ag26 (ble _ _ rfl) rfl) (.tmp rfl)
 replace h := cneg e12 h
 refine ht_skip ?_
 refine ht_seq ?_
 refine sr ?_
 refine sT 32 (.ptr 10 1) rfl (v_field_box (off := 0) (a0 := 1) rfl · · · fo45_1 rfl) ?_
 refine sT 33 (iV t15a.mEpoch) rfl (v_load_box1 (id := 10) (off := 1) rfl · · · onT3 rfl rfl (ble _ _ rfl) rfl) ?_
 refine sM 34 (iV t2) rfl rfl ?_
 refine sT 35 (bV (!eqI t15a.mEpoch t2)) rfl (v_bin rfl · · · rfl rfl (b_neq rfl)) ?_
 refine sM 36 (bV (!eqI t15a.mEpoch t2)) rfl rfl ?_
 refine sF 37 (.ptr 10 4) rfl rfl (fun e13 => (v_field_box (off := 0) (a0 := 4) rfl · · · fo45_3 rfl)) ?_
 refine sF 38 (iV t15a.mPhase) rfl rfl (fun e14 => (v_load_box1 (id := 10) (off := 4) rfl · · · onT3 (gv (nF e14)) rfl (ble _ _ rfl) rfl)) ?_
 refine sF 39 (bV (!eqI t15a.mPhase 1)) rfl rfl (fun e15 => (v_bin rfl · · · (gv (nF e15)) rfl (b_neq rfl))) ?_
 refine sT 40 (bV ((!eqI t15a.mEpoch t2) || (!eqI t15a.mPhase 1))) rfl (v_pickB rfl · · · rfl (fun e16 => rfl) (fun e17 => (gv (nF e17))) (pO _ _)) ?_
 refine sM 41 (bV ((!eqI t15a.mEpoch t2) || (!eqI t15a.mPhase 1))) rfl rfl ?_
 refine sF 42 (.ptr 10 13) rfl rfl (fun e18 => (v_field_box (off := 0) (a0 := 13) rfl · · · fo45_8 rfl)) ?_
 refine sF 43 (iV t15a.mHold) rfl rfl (fun e19 => (v_load_box1 (id := 10) (off := 13) rfl · · · onT3 (gv (nF e19)) rfl (ble _ _ rfl) rfl)) ?_
 refine sF 44 (bV (!eqI t15a.mHold 0)) rfl rfl (fun e20 => (v_bin rfl · · · (gv (nF e20)) rfl (b_neq rfl))) ?_
 refine sT 45 (bV (((!eqI t15a.mEpoch t2) || (!eqI t15a.mPhase 1)) || (!eqI t15a.mHold 0))) rfl (v_pickB rfl · · · rfl (fun e21 => rfl) (fun e22 => (gv (nF e22))) (pO _ _)) ?_
 refine sM 46 (bV (((!eqI t15a.mEpoch t2) || (!eqI t15a.mPhase 1)) || (!eqI t15a.mHold 0))) rfl rfl ?_
 refine sF 47 (.ptr 10 16) rfl rfl (fun e23 => (v_field_box (off := 0) (a0 := 16) rfl · · · fo45_11 rfl)) ?_
 refine sF 48 (iV t15a.mClosed) rfl rfl (fun e24 => (v_load_box1 (id := 10) (off := 16) rfl · · · onT3 (gv (nF e24)) rfl (ble _ _ rfl) rfl)) ?_
 refine sF 49 (iV t3) rfl rfl (fun e25 => (v_move (.inl rfl) · · · rfl)) ?_
 refine sF 50 (bV (leI t3 t15a.mClosed)) rfl rfl (fun e26 => (v_bin rfl · · · (gv (nF e26)) (gv (nF e26)) (b_geq rfl))) ?_
 refine sT 51 (bV ((((!eqI t15a.mEpoch t2) || (!eqI t15a.mPhase 1)) || (!eqI t15a.mHold 0)) || (leI t3 t15a.mClosed))) rfl (v_pickB rfl · · · rfl (fun e27 => rfl) (fun e28 => (gv (nF e28))) (pO _ _)) ?_
 refine sq_nil ?_
 refine ht_cond rfl (fun e29 => ?_) (fun e29 => ?_)
 ·replace h := cpos e29 h
  refine sr ?_
  refine sT 52 (.d (.agg (eCell t0))) rfl (w_ldp (eCell t0) (eCell t0) rfl · · · ag26 rfl (ble _ _ rfl) rfl) ?_
  refine sq_cons _ (v_store_box (id := 8) (off := 0) (cs := (eCell t0).map V.d) rfl trivial rfl sz26 rfl rfl rfl rfl (ones_of rfl) (ble _ _ rfl)) ?_
  refine sM 9 (bV false) rfl rfl ?_
  refine sq_nil ?_
  refine ht_ret ?_
  cases h
  exact ret2 rfl (.cell rfl rfl ag26 (ble _ _ rfl) rfl) (.tmp rfl)
 replace h := cneg e29 h
 refine ht_skip ?_
 refine ht_seq ?_
 refine ht_region_draw mixed ?_
 refine rM 53 (iV t3) rfl rfl ?_
 refine rT 54 (.d (.dp (List.drop 1 (eCell t0)))) rfl (v_field_dp (a0 := 1) (cs := (eCell t0)) rfl · · · fo26_1 rfl) ?_
 refine rT 55 (.d (.agg (eStamp t0.mTop))) rfl (w_ldp (List.drop 1 (eCell t0)) (eStamp t0.mTop) rfl · · · ag24 rfl (ble _ _ rfl) rfl) ?_
 refine rT 56 (.ptr 10 4) rfl (v_field_box (off := 0) (a0 := 4) rfl · · · fo45_3 rfl) ?_
 refine rg_cons _ (v_store_box (id := 10) (off := 4) (cs := [(.s (.int .i64 2))].map V.d) rfl trivial rfl sz3 rfl rfl rfl rfl (ones_of rfl) (ble _ _ rfl)) ?_
 refine rT 57 (.ptr 10 15) rfl (v_field_box (off := 0) (a0 := 15) rfl · · · fo45_10 rfl) ?_
 refine rg_cons _ (v_store_box (id := 10) (off := 15) (cs := [(.s (.int .i64 t3))].map V.d) rfl trivial rfl sz3 rfl rfl rfl rfl (ones_of rfl) (ble _ _ rfl)) ?_
 refine rT 58 (.ptr 10 9) rfl (v_field_box (off := 0) (a0 := 9) rfl · · · fo45_6 rfl) ?_
 refine rg_cons _ (v_store_box (id := 10) (off := 9) (cs := (eStamp t0.mTop).map V.d) rfl trivial rfl sz24 rfl rfl rfl rfl (ones_of rfl) (ble _ _ rfl)) ?_
 refine rg_nil ⟨by kernel_rfl, ?_⟩
 refine sr ?_
 refine sT 59 (.d (.agg (eCell t0))) rfl (w_ldp (eCell t0) (eCell t0) rfl · · · ag26 rfl (ble _ _ rfl) rfl) ?_
 refine sT 60 (.d (.agg (eShard ({t15a with mPhase := 2, mTop := t0.mTop, mMove := t3})))) rfl (w_ldb 10 0 rfl · · · ag45 rfl rfl (ble _ _ rfl) rfl) ?_
 obtain ⟨t61, c30, h⟩ := bpos h
 refine sT 61 (.d (.agg (eCell t61))) rfl (w_call (ds := [(.agg (eCell t0)), (.agg (eShard ({t15a with mPhase := 2, mTop := t0.mTop, mMove := t3})))]) (caps := []) (l := [(.agg (eCell t61))]) (s95 k t0 ({t15a with mPhase := 2, mTop := t0.mTop, mMove := t3}) _ c30) rfl rfl rfl en95 · · · (.inl ⟨rfl, rfl⟩) rfl rfl) ?_
 refine sq_cons _ (v_store_box (id := 8) (off := 0) (cs := (eCell t61).map V.d) rfl trivial rfl sz26 rfl rfl rfl rfl (ones_of rfl) (ble _ _ rfl)) ?_
 refine sM 9 (bV true) rfl rfl ?_
 refine sq_nil ?_
 refine ht_ret ?_
 cases h
 exact ret2 rfl (.cell rfl rfl ag26 (ble _ _ rfl) rfl) (.tmp rfl)
theorem s43 (k : Nat) (t0 : Cell) (t1 : Int) (t2 : Int) (t3 : Int) (r : Cell × Bool) (h : F43 k t0 t1 t2 t3 = some r) : Awp.Spec Tryz.prog amb 43 [(.agg (eCell t0)), (.s (.int .i64 t1)), (.s (.int .i64 t2)), (.s (.int .i64 t3))] (.ds [(.agg (eCell r.1)), (.s (.bool r.2))]) := by
 rw [F43] at h
 refine spec_of Tryz.func43 rfl (ble _ _ rfl) fun w0 ok0 lt0 hA => ?_
 refine sr ?_
 refine sq_cons _ (v_box (id := 4) (cs := (eCell t0).map V.d) rfl trivial rfl (ble _ _ rfl) rfl rfl (ones_of rfl) rfl) ?_
 refine sq_cons _ (v_alloc (id := 8) (cs := zc26) rfl trivial rfl (ble _ _ rfl) zu26 rfl ft26 rfl) ?_
 refine sM 9 (bV false) rfl rfl ?_
 refine sq_nil ?_
 refine sr ?_
 refine sT 13 (.d (.agg (eCell t0))) rfl (w_ldb 4 0 rfl · · · ag26 rfl rfl (ble _ _ rfl) rfl) ?_
 refine sM 14 (iV t1) rfl rfl ?_
 obtain ⟨⟨t15a, t15b⟩, c1, h⟩ := bpos h
 refine sT 15 (.tup [.d (.agg (eShard t15a)), bV t15b]) rfl (w_call (ds := [(.agg (eCell t0)), (.s (.int .i64 t1))]) (caps := []) (l := [(.agg (eShard t15a)), (.s (.bool t15b))]) (s23 k t0 t1 _ c1) rfl rfl rfl en23 · · · (.inl ⟨rfl, rfl⟩) rfl rfl) ?_
 refine sM 12 (.tup [.d (.agg (eShard t15a)), bV t15b]) rfl rfl ?_
 refine sT 16 (.d (.agg (eShard t15a))) rfl (v_extract rfl · · · rfl rfl) ?_
 refine sT 17 (bV t15b) rfl (v_extract rfl · · · rfl rfl) ?_
 refine sq_cons _ (v_alloc (id := 10) (cs := zc45) rfl trivial rfl (ble _ _ rfl) zu45 rfl ft45 rfl) ?_
 refine sq_cons _ (v_store_box (id := 10) (off := 0) (cs := (eShard t15a).map V.d) rfl trivial rfl sz45 rfl rfl rfl rfl (ones_of rfl) (ble _ _ rfl)) ?_
 refine sM 11 (bV t15b) rfl rfl ?_
 refine sq_nil ?_
 refine ht_seq ?_
 refine sr ?_
 refine sM 18 (bV t15b) rfl rfl ?_
 refine sT 19 (bV (!t15b)) rfl (v_un rfl · · · rfl (u_not rfl)) ?_
 refine sM 20 (bV (!t15b)) rfl rfl ?_
 refine sF 21 (iV t2) rfl rfl (fun e2 => (v_move (.inl rfl) · · · rfl)) ?_
 refine sF 22 (iV t3) rfl rfl (fun e3 => (v_move (.inl rfl) · · · rfl)) ?_
 refine sF 23 (.d (.sl 1 (([t2, t3]).map (eI .i64)))) rfl rfl (fun e4 => (w_bsl_d [(0, iV t2), (1, iV t3)] [t2, t3] (eI .i64) rfl · · · slT148 zr3 (encI .i64) (ble _ _ rfl) (cc (pr (gv (nF e4))) (cc (pr (gv (nF e4))) rfl)) (by kernel_rfl) rfl rfl (by kernel_rfl))) ?_
 obtain ⟨t24, c6, h⟩ := bpos h
 refine sF 24 (bV t24) rfl rfl (fun e5 => (w_call (ds := [(.s (.int .i64 1)), (.sl 1 (([t2, t3]).map (eI .i64)))]) (caps := []) (l := [(.s (.bool t24))]) (s57 k 1 ([t2, t3]) _ (cpos (nF e5) c6)) rfl rfl rfl en57 · · · (.inl ⟨rfl, rfl⟩) (cc rfl (cc (gv (nF e5)) rfl)) rfl)) ?_
 refine sF 25 (bV (!t24)) rfl rfl (fun e7 => (v_un rfl · · · (gv (nF e7)) (u_not rfl))) ?_
 refine sT 26 (bV ((!t15b) || (!t24))) rfl (v_pickB rfl · · · rfl (fun e8 => rfl) (fun e9 => (gv (nF e9))) (pO _ _)) ?_
 refine sq_nil ?_
 refine ht_cond rfl (fun e10 => ?_) (fun e10 => ?_)
 ·replace h := cpos e10 h
  refine sr ?_
  refine sT 27 (.d (.agg (eCell t0))) rfl (w_ldb 4 0 rfl · · · ag26 rfl rfl (ble _ _ rfl) rfl) ?_
  refine sq_cons _ (v_store_box (id := 8) (off := 0) (cs := (eCell t0).map V.d) rfl trivial rfl sz26 rfl rfl rfl rfl (ones_of rfl) (ble _ _ rfl)) ?_
  refine sM 9 (bV false) rfl rfl ?_
  refine sq_nil ?_
  refine ht_ret ?_
  cases h
  exact ret2 rfl (.cell rfl rfl ag26 (ble _ _ rfl) rfl) (.tmp rfl)
 replace h := cneg e10 h
 refine ht_skip ?_
 refine ht_seq ?_
 refine sr ?_
 refine sT 28 (.ptr 10 4) rfl (v_field_box (off := 0) (a0 := 4) rfl · · · fo45_3 rfl) ?_
 refine sT 29 (iV t15a.mPhase) rfl (v_load_box1 (id := 10) (off := 4) rfl · · · onT3 rfl rfl (ble _ _ rfl) rfl) ?_
 refine sT 30 (bV (eqI t15a.mPhase 1)) rfl (v_bin rfl · · · rfl rfl (b_eql rfl)) ?_
 refine sM 31 (bV (eqI t15a.mPhase 1)) rfl rfl ?_
 refine sG 32 (.ptr 10 1) rfl rfl (fun e11 => (v_field_box (off := 0) (a0 := 1) rfl · · · fo45_1 rfl)) ?_
 refine sG 33 (iV t15a.mEpoch) rfl rfl (fun e12 => (v_load_box1 (id := 10) (off := 1) rfl · · · onT3 (gv e12) rfl (ble _ _ rfl) rfl)) ?_
 refine sG 34 (iV t3) rfl rfl (fun e13 => (v_move (.inl rfl) · · · rfl)) ?_
 refine sG 35 (bV (eqI t15a.mEpoch t3)) rfl rfl (fun e14 => (v_bin rfl · · · (gv e14) (gv e14) (b_eql rfl))) ?_
 refine sT 36 (bV ((eqI t15a.mPhase 1) && (eqI t15a.mEpoch t3))) rfl (v_pickB rfl · · · rfl (fun e15 => (gv e15)) (fun e16 => rfl) (pA _ _)) ?_
 refine sM 37 (bV ((eqI t15a.mPhase 1) && (eqI t15a.mEpoch t3))) rfl rfl ?_
 refine sG 38 (.ptr 10 16) rfl rfl (fun e17 => (v_field_box (off := 0) (a0 := 16) rfl · · · fo45_11 rfl)) ?_
 refine sG 39 (iV t15a.mClosed) rfl rfl (fun e18 => (v_load_box1 (id := 10) (off := 16) rfl · · · onT3 (gv e18) rfl (ble _ _ rfl) rfl)) ?_
 refine sG 40 (iV t2) rfl rfl (fun e19 => (v_move (.inl rfl) · · · rfl)) ?_
 refine sG 41 (bV (eqI t15a.mClosed t2)) rfl rfl (fun e20 => (v_bin rfl · · · (gv e20) (gv e20) (b_eql rfl))) ?_
 refine sT 42 (bV (((eqI t15a.mPhase 1) && (eqI t15a.mEpoch t3)) && (eqI t15a.mClosed t2))) rfl (v_pickB rfl · · · rfl (fun e21 => (gv e21)) (fun e22 => rfl) (pA _ _)) ?_
 refine sq_nil ?_
 refine ht_cond rfl (fun e23 => ?_) (fun e23 => ?_)
 ·replace h := cpos e23 h
  refine sr ?_
  refine sT 43 (.d (.agg (eCell t0))) rfl (w_ldb 4 0 rfl · · · ag26 rfl rfl (ble _ _ rfl) rfl) ?_
  refine sq_cons _ (v_store_box (id := 8) (off := 0) (cs := (eCell t0).map V.d) rfl trivial rfl sz26 rfl rfl rfl rfl (ones_of rfl) (ble _ _ rfl)) ?_
  refine sM 9 (bV true) rfl rfl ?_
  refine sq_nil ?_
  refine ht_ret ?_
  cases h
  exact ret2 rfl (.cell rfl rfl ag26 (ble _ _ rfl) rfl) (.tmp rfl)
 replace h := cneg e23 h
 refine ht_skip ?_
 refine ht_seq ?_
 refine sr ?_
 refine sT 44 (.d (.agg (eShard t15a))) rfl (w_ldb 10 0 rfl · · · ag45 rfl rfl (ble _ _ rfl) rfl) ?_
 refine sM 45 (iV t2) rfl rfl ?_
 obtain ⟨t46, c24, h⟩ := bpos h
 refine sT 46 (bV t46) rfl (w_call (ds := [(.agg (eShard t15a)), (.s (.int .i64 t2))]) (caps := []) (l := [(.s (.bool t46))]) (s93 k t15a t2 _ c24) rfl rfl rfl en93 · · · (.inl ⟨rfl, rfl⟩) rfl rfl) ?_
 refine sT 47 (bV (!t46)) rfl (v_un rfl · · · rfl (u_not rfl)) ?_
 refine sM 48 (bV (!t46)) rfl rfl ?_
 refine sF 49 (iV t3) rfl rfl (fun e25 => (v_move (.inl rfl) · · · rfl)) ?_
 refine sF 50 (.ptr 10 1) rfl rfl (fun e26 => (v_field_box (off := 0) (a0 := 1) rfl · · · fo45_1 rfl)) ?_
 refine sF 51 (iV t15a.mEpoch) rfl rfl (fun e27 => (v_load_box1 (id := 10) (off := 1) rfl · · · onT3 (gv (nF e27)) rfl (ble _ _ rfl) rfl)) ?_
 refine sF 52 (bV (leI t3 t15a.mEpoch)) rfl rfl (fun e28 => (v_bin rfl · · · (gv (nF e28)) (gv (nF e28)) (b_leq rfl))) ?_
 refine sT 53 (bV ((!t46) || (leI t3 t15a.mEpoch))) rfl (v_pickB rfl · · · rfl (fun e29 => rfl) (fun e30 => (gv (nF e30))) (pO _ _)) ?_
 refine sq_nil ?_
 refine ht_cond rfl (fun e31 => ?_) (fun e31 => ?_)
 ·replace h := cpos e31 h
  refine sr ?_
  refine sT 54 (.d (.agg (eCell t0))) rfl (w_ldb 4 0 rfl · · · ag26 rfl rfl (ble _ _ rfl) rfl) ?_
  refine sq_cons _ (v_store_box (id := 8) (off := 0) (cs := (eCell t0).map V.d) rfl trivial rfl sz26 rfl rfl rfl rfl (ones_of rfl) (ble _ _ rfl)) ?_
  refine sM 9 (bV false) rfl rfl ?_
  refine sq_nil ?_
  refine ht_ret ?_
  cases h
  exact ret2 rfl (.cell rfl rfl ag26 (ble _ _ rfl) rfl) (.tmp rfl)
 replace h := cneg e31 h
 refine ht_skip ?_
 refine sr ?_
 refine sM 55 (iV t3) rfl rfl ?_
 refine sM 56 (iV t2) rfl rfl ?_
 refine sT 57 (.ptr 10 4) rfl (v_field_box (off := 0) (a0 := 4) rfl · · · fo45_3 rfl) ?_
 refine sq_cons _ (v_store_box (id := 10) (off := 4) (cs := [(.s (.int .i64 1))].map V.d) rfl trivial rfl sz3 rfl rfl rfl rfl (ones_of rfl) (ble _ _ rfl)) ?_
 refine sT 58 (.ptr 10 1) rfl (v_field_box (off := 0) (a0 := 1) rfl · · · fo45_1 rfl) ?_
 refine sq_cons _ (v_store_box (id := 10) (off := 1) (cs := [(.s (.int .i64 t3))].map V.d) rfl trivial rfl sz3 rfl rfl rfl rfl (ones_of rfl) (ble _ _ rfl)) ?_
 refine sT 59 (.ptr 10 16) rfl (v_field_box (off := 0) (a0 := 16) rfl · · · fo45_11 rfl) ?_
 refine sq_cons _ (v_store_box (id := 10) (off := 16) (cs := [(.s (.int .i64 t2))].map V.d) rfl trivial rfl sz3 rfl rfl rfl rfl (ones_of rfl) (ble _ _ rfl)) ?_
 refine sq_nil ?_
 refine sr ?_
 refine sT 60 (.ptr 4 4) rfl (v_field_box (off := 0) (a0 := 4) rfl · · · fo26_2 rfl) ?_
 refine sT 61 (iV t0.mDropped) rfl (v_load_box1 (id := 4) (off := 4) rfl · · · onT3 rfl rfl (ble _ _ rfl) rfl) ?_
 refine sM 62 (iV t2) rfl rfl ?_
 refine sT 63 (iV (maxI t0.mDropped t2)) rfl (v_bi2 rfl rfl · · · rfl rfl (r_max und3 rfl)) ?_
 refine sT 64 (.ptr 4 4) rfl (v_field_box (off := 0) (a0 := 4) rfl · · · fo26_2 rfl) ?_
 refine sq_cons _ (v_store_box (id := 4) (off := 4) (cs := [(.s (.int .i64 (maxI t0.mDropped t2)))].map V.d) rfl trivial rfl sz3 rfl rfl rfl rfl (ones_of rfl) (ble _ _ rfl)) ?_
 refine sq_nil ?_
 refine sr ?_
 refine sT 65 (.d (.agg (eCell ({t0 with mDropped := (maxI t0.mDropped t2)})))) rfl (w_ldb 4 0 rfl · · · ag26 rfl rfl (ble _ _ rfl) rfl) ?_
 refine sT 66 (.d (.agg (eShard ({t15a with mEpoch := t3, mPhase := 1, mClosed := t2})))) rfl (w_ldb 10 0 rfl · · · ag45 rfl rfl (ble _ _ rfl) rfl) ?_
 obtain ⟨t67, c32, h⟩ := bpos h
 refine sT 67 (.d (.agg (eCell t67))) rfl (w_call (ds := [(.agg (eCell ({t0 with mDropped := (maxI t0.mDropped t2)}))), (.agg (eShard ({t15a with mEpoch := t3, mPhase := 1, mClosed := t2})))]) (caps := []) (l := [(.agg (eCell t67))]) (s95 k ({t0 with mDropped := (maxI t0.mDropped t2)}) ({t15a with mEpoch := t3, mPhase := 1, mClosed := t2}) _ c32) rfl rfl rfl en95 · · · (.inl ⟨rfl, rfl⟩) rfl rfl) ?_
 refine sq_cons _ (v_store_box (id := 8) (off := 0) (cs := (eCell t67).map V.d) rfl trivial rfl sz26 rfl rfl rfl rfl (ones_of rfl) (ble _ _ rfl)) ?_
 refine sM 9 (bV true) rfl rfl ?_
 refine sq_nil ?_
 refine ht_ret ?_
 cases h
 exact ret2 rfl (.cell rfl rfl ag26 (ble _ _ rfl) rfl) (.tmp rfl)
theorem s105 (k : Nat) (t0 : Cell) (t1 : Int) (r : Cell) (h : F105 k t0 t1 = some r) : Awp.Spec Tryz.prog amb 105 [(.agg (eCell t0)), (.s (.int .i64 t1))] (.ds [(.agg (eCell r))]) := by
 rw [F105] at h
 refine spec_of Tryz.func105 rfl (ble _ _ rfl) fun w0 ok0 lt0 hA => ?_
 refine sr ?_
 refine sq_cons _ (v_box (id := 2) (cs := (eCell t0).map V.d) rfl trivial rfl (ble _ _ rfl) rfl rfl (ones_of rfl) rfl) ?_
 refine sq_cons _ (v_alloc (id := 4) (cs := zc26) rfl trivial rfl (ble _ _ rfl) zu26 rfl ft26 rfl) ?_
 refine sq_nil ?_
 refine ht_seq ?_
 refine sr ?_
 refine sT 8 (.d (.agg (eCell t0))) rfl (w_ldb 2 0 rfl · · · ag26 rfl rfl (ble _ _ rfl) rfl) ?_
 refine sM 9 (iV t1) rfl rfl ?_
 obtain ⟨⟨t10a, t10b⟩, c1, h⟩ := bpos h
 refine sT 10 (.tup [iV t10a, bV t10b]) rfl (w_call (ds := [(.agg (eCell t0)), (.s (.int .i64 t1))]) (caps := []) (l := [(.s (.int .i64 t10a)), (.s (.bool t10b))]) (s123 k t0 t1 _ c1) rfl rfl rfl en123 · · · (.inl ⟨rfl, rfl⟩) rfl rfl) ?_
 refine sM 7 (.tup [iV t10a, bV t10b]) rfl rfl ?_
 refine sT 11 (iV t10a) rfl (v_extract rfl · · · rfl rfl) ?_
 refine sT 12 (bV t10b) rfl (v_extract rfl · · · rfl rfl) ?_
 refine sM 5 (iV t10a) rfl rfl ?_
 refine sM 6 (bV t10b) rfl rfl ?_
 refine sq_nil ?_
 refine sr ?_
 refine sM 13 (bV t10b) rfl rfl ?_
 refine sq_nil ?_
 refine ht_cond rfl (fun e2 => ?_) (fun e2 => ?_)
 ·replace h := cpos e2 h
  refine ht_region ?_
  refine sT 14 (.ptr 2 0) rfl (v_field_box (off := 0) (a0 := 0) rfl · · · fo26_0 rfl) ?_
  refine sT 15 (.d (.sl 17 (t0.mShards.map eShard))) rfl (v_load_box1 (id := 2) (off := 0) rfl · · · onT22 rfl rfl (ble _ _ rfl) rfl) ?_
  obtain ⟨t16, c3, h⟩ := bpos h
  refine sq_cons ⟨_, [(.b 16, .row false 45 17 (t16.map eShard)), (.t 16, .own 16 17 t16.length)]⟩ (w_call_own (id := 16) (ds := [(.sl 17 (t0.mShards.map eShard))]) (caps := []) eShard (s98o k t0.mShards _ c3) rfl rfl rfl en98 trivial rfl (ble _ _ rfl) (.inl ⟨rfl, rfl⟩) rfl rfl) ?_
  refine sM 17 (iV t10a) rfl rfl ?_
  refine sM 18 (iV t10a) rfl rfl ?_
  refine sT 19 (iV (IntKind.wrap .i64 (t10a + 1))) rfl (v_bin rfl · · · rfl rfl (b_add rfl)) ?_
  obtain ⟨e4, h⟩ := gpos h
  obtain ⟨e5, h⟩ := gpos h
  refine sq_cons ⟨_, [(.b 16, .spent), (.b 20, .row false 45 17 ((List.take t10a.toNat t16 ++ List.drop (t10a.toNat + 1) t16).map eShard)), (.t 20, .own 20 17 (List.take t10a.toNat t16 ++ List.drop (t10a.toNat + 1) t16).length)]⟩ (w_del 20 t16 eShard delS147 rfl rfl rfl en147 trivial rfl (ble _ _ rfl) teShard rfl rfl rfl (iV_of (of_decide_eq_true e5) rfl) rfl e4) ?_
  refine sT 21 (.ptr 2 0) rfl (v_field_box (off := 0) (a0 := 0) rfl · · · fo26_0 rfl) ?_
  refine sq_cons _ (v_store_box (id := 2) (off := 0) (cs := [.own 20 17 (List.take t10a.toNat t16 ++ List.drop (t10a.toNat + 1) t16).length]) rfl trivial rfl sz22 rfl rfl rfl rfl (ones_of rfl) (ble _ _ rfl)) ?_
  refine sq_nil ?_
  refine ht_seq ?_
  refine ht_weak (wk_still_row 20 _ _ _ rfl) ?_
  refine ht_weak (wk_row (.c 2 0) (nc 2 0) 20 _ _ _ _ rfl rfl (lm _ _)) ?_
  refine ht_weak (wk_row (.t 20) (nb 20) 20 _ _ _ _ rfl rfl (lm _ _)) ?_
  refine ht_region ?_
  refine sT 22 (.d (.agg (eCell ({t0 with mShards := (List.take t10a.toNat t16 ++ List.drop (t10a.toNat + 1) t16)})))) rfl (w_ldb 2 0 rfl · · · ag26 rfl rfl (ble _ _ rfl) rfl) ?_
  refine sq_cons _ (v_store_box (id := 4) (off := 0) (cs := (eCell ({t0 with mShards := (List.take t10a.toNat t16 ++ List.drop (t10a.toNat + 1) t16)})).map V.d) rfl trivial rfl sz26 rfl rfl rfl rfl (ones_of rfl) (ble _ _ rfl)) ?_
  refine sq_nil ?_
  refine ht_ret ?_
  cases h
  exact ret1 rfl (.cell rfl rfl ag26 (ble _ _ rfl) rfl)
 replace h := cneg e2 h
 refine ht_skip ?_
 refine sr ?_
 refine sT 22 (.d (.agg (eCell t0))) rfl (w_ldb 2 0 rfl · · · ag26 rfl rfl (ble _ _ rfl) rfl) ?_
 refine sq_cons _ (v_store_box (id := 4) (off := 0) (cs := (eCell t0).map V.d) rfl trivial rfl sz26 rfl rfl rfl rfl (ones_of rfl) (ble _ _ rfl)) ?_
 refine sq_nil ?_
 refine ht_ret ?_
 cases h
 exact ret1 rfl (.cell rfl rfl ag26 (ble _ _ rfl) rfl)
end Go.Proofs.Gd
set_option linter.unusedVariables false
set_option maxRecDepth 100000
set_option maxHeartbeats 4000000
namespace Go.Proofs.Gd
open Go Go.Awp Go.Proofs
theorem s44 (k : Nat) (t0 : Cell) (t1 : Int) (t2 : Int) (r : Cell × Bool) (h : F44 k t0 t1 t2 = some r) : Awp.Spec Tryz.prog amb 44 [(.agg (eCell t0)), (.s (.int .i64 t1)), (.s (.int .i64 t2))] (.ds [(.agg (eCell r.1)), (.s (.bool r.2))]) := by
 rw [F44] at h
 refine spec_of Tryz.func44 rfl (ble _ _ rfl) fun w0 ok0 lt0 hA => ?_
 refine sr ?_
 refine sT 3 (.d (.dp (eCell t0))) rfl (v_box_d (cs := (eCell t0)) rfl · · · rfl rfl (ones_of rfl)) ?_
 refine sq_cons _ (v_alloc (id := 6) (cs := zc26) rfl trivial rfl (ble _ _ rfl) zu26 rfl ft26 rfl) ?_
 refine sM 7 (bV false) rfl rfl ?_
 refine sq_nil ?_
 refine ht_seq ?_
 refine sr ?_
 refine sT 9 (.d (.agg (eCell t0))) rfl (w_ldp (eCell t0) (eCell t0) rfl · · · ag26 rfl (ble _ _ rfl) rfl) ?_
 obtain ⟨t10, c1, h⟩ := bpos h
 refine sT 10 (bV t10) rfl (w_call (ds := [(.agg (eCell t0))]) (caps := []) (l := [(.s (.bool t10))]) (s25 k t0 _ c1) rfl rfl rfl en25 · · · (.inl ⟨rfl, rfl⟩) rfl rfl) ?_
 refine sT 11 (bV (!t10)) rfl (v_un rfl · · · rfl (u_not rfl)) ?_
 refine sM 12 (bV (!t10)) rfl rfl ?_
 refine sF 13 (iV t1) rfl rfl (fun e2 => (v_move (.inl rfl) · · · rfl)) ?_
 refine sF 14 (iV t2) rfl rfl (fun e3 => (v_move (.inl rfl) · · · rfl)) ?_
 refine sF 15 (.d (.sl 1 (([t1, t2]).map (eI .i64)))) rfl rfl (fun e4 => (w_bsl_d [(0, iV t1), (1, iV t2)] [t1, t2] (eI .i64) rfl · · · slT148 zr3 (encI .i64) (ble _ _ rfl) (cc (pr (gv (nF e4))) (cc (pr (gv (nF e4))) rfl)) (by kernel_rfl) rfl rfl (by kernel_rfl))) ?_
 obtain ⟨t16, c6, h⟩ := bpos h
 refine sF 16 (bV t16) rfl rfl (fun e5 => (w_call (ds := [(.s (.int .i64 1)), (.sl 1 (([t1, t2]).map (eI .i64)))]) (caps := []) (l := [(.s (.bool t16))]) (s57 k 1 ([t1, t2]) _ (cpos (nF e5) c6)) rfl rfl rfl en57 · · · (.inl ⟨rfl, rfl⟩) (cc rfl (cc (gv (nF e5)) rfl)) rfl)) ?_
 refine sF 17 (bV (!t16)) rfl rfl (fun e7 => (v_un rfl · · · (gv (nF e7)) (u_not rfl))) ?_
 refine sT 18 (bV ((!t10) || (!t16))) rfl (v_pickB rfl · · · rfl (fun e8 => rfl) (fun e9 => (gv (nF e9))) (pO _ _)) ?_
 refine sq_nil ?_
 refine ht_cond rfl (fun e10 => ?_) (fun e10 => ?_)
 ·replace h := cpos e10 h
  refine sr ?_
  refine sT 19 (.d (.agg (eCell t0))) rfl (w_ldp (eCell t0) (eCell t0) rfl · · · ag26 rfl (ble _ _ rfl) rfl) ?_
  refine sq_cons _ (v_store_box (id := 6) (off := 0) (cs := (eCell t0).map V.d) rfl trivial rfl sz26 rfl rfl rfl rfl (ones_of rfl) (ble _ _ rfl)) ?_
  refine sM 7 (bV false) rfl rfl ?_
  refine sq_nil ?_
  refine ht_ret ?_
  cases h
  exact ret2 rfl (.cell rfl rfl ag26 (ble _ _ rfl) rfl) (.tmp rfl)
 replace h := cneg e10 h
 refine ht_skip ?_
 refine sr ?_
 refine sT 20 (.d (.agg (eCell t0))) rfl (w_ldp (eCell t0) (eCell t0) rfl · · · ag26 rfl (ble _ _ rfl) rfl) ?_
 refine sM 21 (iV t1) rfl rfl ?_
 obtain ⟨t22, c11, h⟩ := bpos h
 refine sT 22 (.d (.agg (eShard t22))) rfl (w_call (ds := [(.agg (eCell t0)), (.s (.int .i64 t1))]) (caps := []) (l := [(.agg (eShard t22))]) (s60 k t0 t1 _ c11) rfl rfl rfl en60 · · · (.inl ⟨rfl, rfl⟩) rfl rfl) ?_
 refine sq_cons _ (v_alloc (id := 8) (cs := zc45) rfl trivial rfl (ble _ _ rfl) zu45 rfl ft45 rfl) ?_
 refine sq_cons _ (v_store_box (id := 8) (off := 0) (cs := (eShard t22).map V.d) rfl trivial rfl sz45 rfl rfl rfl rfl (ones_of rfl) (ble _ _ rfl)) ?_
 refine sq_nil ?_
 refine ht_seq ?_
 refine sr ?_
 refine sT 23 (.ptr 8 0) rfl (v_field_box (off := 0) (a0 := 0) rfl · · · fo45_0 rfl) ?_
 refine sT 24 (iV t22.mID) rfl (v_load_box1 (id := 8) (off := 0) rfl · · · onT3 rfl rfl (ble _ _ rfl) rfl) ?_
 refine sT 25 (bV (eqI t22.mID 0)) rfl (v_bin rfl · · · rfl rfl (b_eql rfl)) ?_
 refine sq_nil ?_
 refine ht_cond rfl (fun e12 => ?_) (fun e12 => ?_)
 ·replace h := cpos e12 h
  refine sr ?_
  refine sT 26 (.d (.agg (eCell t0))) rfl (w_ldp (eCell t0) (eCell t0) rfl · · · ag26 rfl (ble _ _ rfl) rfl) ?_
  refine sq_cons _ (v_store_box (id := 6) (off := 0) (cs := (eCell t0).map V.d) rfl trivial rfl sz26 rfl rfl rfl rfl (ones_of rfl) (ble _ _ rfl)) ?_
  refine sM 7 (bV true) rfl rfl ?_
  refine sq_nil ?_
  refine ht_ret ?_
  cases h
  exact ret2 rfl (.cell rfl rfl ag26 (ble _ _ rfl) rfl) (.tmp rfl)
 replace h := cneg e12 h
 refine ht_skip ?_
 refine ht_seq ?_
 refine sr ?_
 refine sT 27 (.d (.agg (eShard t22))) rfl (w_ldb 8 0 rfl · · · ag45 rfl rfl (ble _ _ rfl) rfl) ?_
 refine sM 28 (iV t2) rfl rfl ?_
 obtain ⟨t29, c13, h⟩ := bpos h
 refine sT 29 (bV t29) rfl (w_call (ds := [(.agg (eShard t22)), (.s (.int .i64 t2))]) (caps := []) (l := [(.s (.bool t29))]) (s94 k t22 t2 _ c13) rfl rfl rfl en94 · · · (.inl ⟨rfl, rfl⟩) rfl rfl) ?_
 refine sT 30 (bV (!t29)) rfl (v_un rfl · · · rfl (u_not rfl)) ?_
 refine sq_nil ?_
 refine ht_cond rfl (fun e14 => ?_) (fun e14 => ?_)
 ·replace h := cpos e14 h
  refine sr ?_
  refine sT 31 (.d (.agg (eCell t0))) rfl (w_ldp (eCell t0) (eCell t0) rfl · · · ag26 rfl (ble _ _ rfl) rfl) ?_
  refine sq_cons _ (v_store_box (id := 6) (off := 0) (cs := (eCell t0).map V.d) rfl trivial rfl sz26 rfl rfl rfl rfl (ones_of rfl) (ble _ _ rfl)) ?_
  refine sM 7 (bV false) rfl rfl ?_
  refine sq_nil ?_
  refine ht_ret ?_
  cases h
  exact ret2 rfl (.cell rfl rfl ag26 (ble _ _ rfl) rfl) (.tmp rfl)
 replace h := cneg e14 h
 refine ht_skip ?_
 refine sr ?_
 refine sT 32 (.d (.agg (eCell t0))) rfl (w_ldp (eCell t0) (eCell t0) rfl · · · ag26 rfl (ble _ _ rfl) rfl) ?_
 refine sM 33 (iV t1) rfl rfl ?_
 obtain ⟨t34, c15, h⟩ := bpos h
 refine sT 34 (.d (.agg (eCell t34))) rfl (w_call (ds := [(.agg (eCell t0)), (.s (.int .i64 t1))]) (caps := []) (l := [(.agg (eCell t34))]) (s105 k t0 t1 _ c15) rfl rfl rfl en105 · · · (.inl ⟨rfl, rfl⟩) rfl rfl) ?_
 refine sq_cons _ (v_store_box (id := 6) (off := 0) (cs := (eCell t34).map V.d) rfl trivial rfl sz26 rfl rfl rfl rfl (ones_of rfl) (ble _ _ rfl)) ?_
 refine sM 7 (bV true) rfl rfl ?_
 refine sq_nil ?_
 refine ht_ret ?_
 cases h
 exact ret2 rfl (.cell rfl rfl ag26 (ble _ _ rfl) rfl) (.tmp rfl)
theorem s45 (k : Nat) (t0 : Cell) (t1 : Int) (t2 : Int) (t3 : Int) (t4 : Int) (r : Cell × Bool) (h : F45 k t0 t1 t2 t3 t4 = some r) : Awp.Spec Tryz.prog amb 45 [(.agg (eCell t0)), (.s (.int .i64 t1)), (.s (.int .i64 t2)), (.s (.int .i64 t3)), (.s (.int .i64 t4))] (.ds [(.agg (eCell r.1)), (.s (.bool r.2))]) := by
 rw [F45] at h
 refine spec_of Tryz.func45 rfl (ble _ _ rfl) fun w0 ok0 lt0 hA => ?_
 refine sr ?_
 refine sT 5 (.d (.dp (eCell t0))) rfl (v_box_d (cs := (eCell t0)) rfl · · · rfl rfl (ones_of rfl)) ?_
 refine sq_cons _ (v_alloc (id := 10) (cs := zc26) rfl trivial rfl (ble _ _ rfl) zu26 rfl ft26 rfl) ?_
 refine sM 11 (bV false) rfl rfl ?_
 refine sq_nil ?_
 refine ht_seq ?_
 refine sr ?_
 refine sT 15 (.d (.agg (eCell t0))) rfl (w_ldp (eCell t0) (eCell t0) rfl · · · ag26 rfl (ble _ _ rfl) rfl) ?_
 obtain ⟨t16, c1, h⟩ := bpos h
 refine sT 16 (bV t16) rfl (w_call (ds := [(.agg (eCell t0))]) (caps := []) (l := [(.s (.bool t16))]) (s22 k t0 _ c1) rfl rfl rfl en22 · · · (.inl ⟨rfl, rfl⟩) rfl rfl) ?_
 refine sT 17 (bV (!t16)) rfl (v_un rfl · · · rfl (u_not rfl)) ?_
 refine sM 18 (bV (!t16)) rfl rfl ?_
 refine sF 19 (iV t2) rfl rfl (fun e2 => (v_move (.inl rfl) · · · rfl)) ?_
 obtain ⟨t20, c4, h⟩ := bpos h
 refine sF 20 (bV t20) rfl rfl (fun e3 => (w_call (ds := [(.s (.int .i64 t2))]) (caps := []) (l := [(.s (.bool t20))]) (s66 k t2 _ (cpos (nF e3) c4)) rfl rfl rfl en66 · · · (.inl ⟨rfl, rfl⟩) (cc (gv (nF e3)) rfl) rfl)) ?_
 refine sF 21 (bV (!t20)) rfl rfl (fun e5 => (v_un rfl · · · (gv (nF e5)) (u_not rfl))) ?_
 refine sT 22 (bV ((!t16) || (!t20))) rfl (v_pickB rfl · · · rfl (fun e6 => rfl) (fun e7 => (gv (nF e7))) (pO _ _)) ?_
 refine sM 23 (bV ((!t16) || (!t20))) rfl rfl ?_
 refine sF 24 (iV t4) rfl rfl (fun e8 => (v_move (.inl rfl) · · · rfl)) ?_
 obtain ⟨t25, c10, h⟩ := bpos h
 refine sF 25 (bV t25) rfl rfl (fun e9 => (w_call (ds := [(.s (.int .i64 t4))]) (caps := []) (l := [(.s (.bool t25))]) (s66 k t4 _ (cpos (nF e9) c10)) rfl rfl rfl en66 · · · (.inl ⟨rfl, rfl⟩) (cc (gv (nF e9)) rfl) rfl)) ?_
 refine sF 26 (bV (!t25)) rfl rfl (fun e11 => (v_un rfl · · · (gv (nF e11)) (u_not rfl))) ?_
 refine sT 27 (bV (((!t16) || (!t20)) || (!t25))) rfl (v_pickB rfl · · · rfl (fun e12 => rfl) (fun e13 => (gv (nF e13))) (pO _ _)) ?_
 refine sM 28 (bV (((!t16) || (!t20)) || (!t25))) rfl rfl ?_
 refine sF 29 (iV t1) rfl rfl (fun e14 => (v_move (.inl rfl) · · · rfl)) ?_
 refine sF 30 (bV (eqI t1 0)) rfl rfl (fun e15 => (v_bin rfl · · · (gv (nF e15)) rfl (b_eql rfl))) ?_
 refine sF 31 (bV (eqI t1 0)) rfl rfl (fun e16 => (v_move (.inl rfl) · · · (gv (nF e16)))) ?_
 refine sH 32 (iV t1) rfl rfl (fun e17 e18 => (v_move (.inl rfl) · · · rfl)) ?_
 refine sH 33 (bV (eqI t1 3)) rfl rfl (fun e19 e20 => (v_bin rfl · · · (gv (aT e19 (nF e20))) rfl (b_eql rfl))) ?_
 refine sF 34 (bV ((eqI t1 0) || (eqI t1 3))) rfl rfl (fun e21 => (v_pickB rfl · · · (gv (nF e21)) (fun e22 => rfl) (fun e23 => (gv (aT (nF e21) (nF e23)))) (pO _ _))) ?_
 refine sF 35 (bV ((eqI t1 0) || (eqI t1 3))) rfl rfl (fun e24 => (v_move (.inl rfl) · · · (gv (nF e24)))) ?_
 refine sI 36 (iV t3) rfl rfl (fun e25 e26 => (v_move (.inl rfl) · · · rfl)) ?_
 obtain ⟨t37, c29, h⟩ := bpos h
 refine sI 37 (bV t37) rfl rfl (fun e27 e28 => (w_call (ds := [(.s (.int .i64 t3))]) (caps := []) (l := [(.s (.bool t37))]) (s66 k t3 _ (cpos (aT e27 e28) c29)) rfl rfl rfl en66 · · · (.inl ⟨rfl, rfl⟩) (cc (gv (aT e27 e28)) rfl) rfl)) ?_
 refine sI 38 (bV (!t37)) rfl rfl (fun e30 e31 => (v_un rfl · · · (gv (aT e30 e31)) (u_not rfl))) ?_
 refine sF 39 (bV (((eqI t1 0) || (eqI t1 3)) && (!t37))) rfl rfl (fun e32 => (v_pickB rfl · · · (gv (nF e32)) (fun e33 => (gv (aT (nF e32) e33))) (fun e34 => rfl) (pA _ _))) ?_
 refine sT 40 (bV ((((!t16) || (!t20)) || (!t25)) || (((eqI t1 0) || (eqI t1 3)) && (!t37)))) rfl (v_pickB rfl · · · rfl (fun e35 => rfl) (fun e36 => (gv (nF e36))) (pO _ _)) ?_
 refine sq_nil ?_
 refine ht_cond rfl (fun e37 => ?_) (fun e37 => ?_)
 ·replace h := cpos e37 h
  refine sr ?_
  refine sT 41 (.d (.agg (eCell t0))) rfl (w_ldp (eCell t0) (eCell t0) rfl · · · ag26 rfl (ble _ _ rfl) rfl) ?_
  refine sq_cons _ (v_store_box (id := 10) (off := 0) (cs := (eCell t0).map V.d) rfl trivial rfl sz26 rfl rfl rfl rfl (ones_of rfl) (ble _ _ rfl)) ?_
  refine sM 11 (bV false) rfl rfl ?_
  refine sq_nil ?_
  refine ht_ret ?_
  cases h
  exact ret2 rfl (.cell rfl rfl ag26 (ble _ _ rfl) rfl) (.tmp rfl)
 replace h := cneg e37 h
 refine ht_skip ?_
 refine sr ?_
 refine sT 42 (.d (.agg (eCell t0))) rfl (w_ldp (eCell t0) (eCell t0) rfl · · · ag26 rfl (ble _ _ rfl) rfl) ?_
 refine sM 43 (iV t2) rfl rfl ?_
 obtain ⟨t44, c38, h⟩ := bpos h
 refine sT 44 (.d (.agg (eShard t44))) rfl (w_call (ds := [(.agg (eCell t0)), (.s (.int .i64 t2))]) (caps := []) (l := [(.agg (eShard t44))]) (s24 k t0 t2 _ c38) rfl rfl rfl en24 · · · (.inl ⟨rfl, rfl⟩) rfl rfl) ?_
 refine sq_cons _ (v_alloc (id := 12) (cs := zc45) rfl trivial rfl (ble _ _ rfl) zu45 rfl ft45 rfl) ?_
 refine sq_cons _ (v_store_box (id := 12) (off := 0) (cs := (eShard t44).map V.d) rfl trivial rfl sz45 rfl rfl rfl rfl (ones_of rfl) (ble _ _ rfl)) ?_
 refine sq_nil ?_
 refine ht_seq ?_
 refine sr ?_
 refine sM 45 (iV t1) rfl rfl ?_
 refine sq_nil ?_
 refine ht_block ?_
 refine sr ?_
 refine sT 47 (bV (eqI t1 0)) rfl (v_bin rfl · · · rfl rfl (b_eql rfl)) ?_
 refine sM 46 (bV (eqI t1 0)) rfl rfl ?_
 refine sq_nil ?_
 refine ht_cond rfl (fun e39 => ?_) (fun e39 => ?_)
 ·replace h := cpos e39 h
  refine ht_seq ?_
  refine sr ?_
  refine sT 48 (.d (.agg (eShard t44))) rfl (w_ldb 12 0 rfl · · · ag45 rfl rfl (ble _ _ rfl) rfl) ?_
  refine sM 49 (iV t4) rfl rfl ?_
  obtain ⟨t50, c40, h⟩ := bpos h
  refine sT 50 (bV t50) rfl (w_call (ds := [(.agg (eShard t44)), (.s (.int .i64 2)), (.s (.int .i64 t4))]) (caps := []) (l := [(.s (.bool t50))]) (s96 k t44 2 t4 _ c40) rfl rfl rfl en96 · · · (.inl ⟨rfl, rfl⟩) rfl rfl) ?_
  refine sq_nil ?_
  refine ht_cond rfl (fun e41 => ?_) (fun e41 => ?_)
  ·replace h := cpos e41 h
   refine sr ?_
   refine sT 51 (.d (.agg (eCell t0))) rfl (w_ldp (eCell t0) (eCell t0) rfl · · · ag26 rfl (ble _ _ rfl) rfl) ?_
   refine sq_cons _ (v_store_box (id := 10) (off := 0) (cs := (eCell t0).map V.d) rfl trivial rfl sz26 rfl rfl rfl rfl (ones_of rfl) (ble _ _ rfl)) ?_
   refine sM 11 (bV true) rfl rfl ?_
   refine sq_nil ?_
   refine ht_ret ?_
   cases h
   exact ret2 rfl (.cell rfl rfl ag26 (ble _ _ rfl) rfl) (.tmp rfl)
  replace h := cneg e41 h
  refine ht_skip ?_
  refine ht_seq ?_
  refine sr ?_
  refine sT 52 (.ptr 12 0) rfl (v_field_box (off := 0) (a0 := 0) rfl · · · fo45_0 rfl) ?_
  refine sT 53 (iV t44.mID) rfl (v_load_box1 (id := 12) (off := 0) rfl · · · onT3 rfl rfl (ble _ _ rfl) rfl) ?_
  refine sT 54 (bV (eqI t44.mID 0)) rfl (v_bin rfl · · · rfl rfl (b_eql rfl)) ?_
  refine sM 55 (bV (eqI t44.mID 0)) rfl rfl ?_
  refine sF 56 (.ptr 12 1) rfl rfl (fun e42 => (v_field_box (off := 0) (a0 := 1) rfl · · · fo45_1 rfl)) ?_
  refine sF 57 (iV t44.mEpoch) rfl rfl (fun e43 => (v_load_box1 (id := 12) (off := 1) rfl · · · onT3 (gv (nF e43)) rfl (ble _ _ rfl) rfl)) ?_
  refine sF 58 (iV t3) rfl rfl (fun e44 => (v_move (.inl rfl) · · · rfl)) ?_
  refine sF 59 (bV (!eqI t44.mEpoch t3)) rfl rfl (fun e45 => (v_bin rfl · · · (gv (nF e45)) (gv (nF e45)) (b_neq rfl))) ?_
  refine sT 60 (bV ((eqI t44.mID 0) || (!eqI t44.mEpoch t3))) rfl (v_pickB rfl · · · rfl (fun e46 => rfl) (fun e47 => (gv (nF e47))) (pO _ _)) ?_
  refine sM 61 (bV ((eqI t44.mID 0) || (!eqI t44.mEpoch t3))) rfl rfl ?_
  refine sF 62 (.ptr 12 4) rfl rfl (fun e48 => (v_field_box (off := 0) (a0 := 4) rfl · · · fo45_3 rfl)) ?_
  refine sF 63 (iV t44.mPhase) rfl rfl (fun e49 => (v_load_box1 (id := 12) (off := 4) rfl · · · onT3 (gv (nF e49)) rfl (ble _ _ rfl) rfl)) ?_
  refine sF 64 (bV (!eqI t44.mPhase 1)) rfl rfl (fun e50 => (v_bin rfl · · · (gv (nF e50)) rfl (b_neq rfl))) ?_
  refine sT 65 (bV (((eqI t44.mID 0) || (!eqI t44.mEpoch t3)) || (!eqI t44.mPhase 1))) rfl (v_pickB rfl · · · rfl (fun e51 => rfl) (fun e52 => (gv (nF e52))) (pO _ _)) ?_
  refine sM 66 (bV (((eqI t44.mID 0) || (!eqI t44.mEpoch t3)) || (!eqI t44.mPhase 1))) rfl rfl ?_
  refine sF 67 (.ptr 12 13) rfl rfl (fun e53 => (v_field_box (off := 0) (a0 := 13) rfl · · · fo45_8 rfl)) ?_
  refine sF 68 (iV t44.mHold) rfl rfl (fun e54 => (v_load_box1 (id := 12) (off := 13) rfl · · · onT3 (gv (nF e54)) rfl (ble _ _ rfl) rfl)) ?_
  refine sF 69 (bV (ltI 0 t44.mHold)) rfl rfl (fun e55 => (v_bin rfl · · · (gv (nF e55)) rfl (b_gtr rfl))) ?_
  refine sT 70 (bV ((((eqI t44.mID 0) || (!eqI t44.mEpoch t3)) || (!eqI t44.mPhase 1)) || (ltI 0 t44.mHold))) rfl (v_pickB rfl · · · rfl (fun e56 => rfl) (fun e57 => (gv (nF e57))) (pO _ _)) ?_
  refine sM 71 (bV ((((eqI t44.mID 0) || (!eqI t44.mEpoch t3)) || (!eqI t44.mPhase 1)) || (ltI 0 t44.mHold))) rfl rfl ?_
  refine sF 72 (iV t4) rfl rfl (fun e58 => (v_move (.inl rfl) · · · rfl)) ?_
  refine sF 73 (.ptr 12 16) rfl rfl (fun e59 => (v_field_box (off := 0) (a0 := 16) rfl · · · fo45_11 rfl)) ?_
  refine sF 74 (iV t44.mClosed) rfl rfl (fun e60 => (v_load_box1 (id := 12) (off := 16) rfl · · · onT3 (gv (nF e60)) rfl (ble _ _ rfl) rfl)) ?_
  refine sF 75 (bV (leI t4 t44.mClosed)) rfl rfl (fun e61 => (v_bin rfl · · · (gv (nF e61)) (gv (nF e61)) (b_leq rfl))) ?_
  refine sT 76 (bV (((((eqI t44.mID 0) || (!eqI t44.mEpoch t3)) || (!eqI t44.mPhase 1)) || (ltI 0 t44.mHold)) || (leI t4 t44.mClosed))) rfl (v_pickB rfl · · · rfl (fun e62 => rfl) (fun e63 => (gv (nF e63))) (pO _ _)) ?_
  refine sq_nil ?_
  refine ht_cond rfl (fun e64 => ?_) (fun e64 => ?_)
  ·replace h := cpos e64 h
   refine sr ?_
   refine sT 77 (.d (.agg (eCell t0))) rfl (w_ldp (eCell t0) (eCell t0) rfl · · · ag26 rfl (ble _ _ rfl) rfl) ?_
   refine sq_cons _ (v_store_box (id := 10) (off := 0) (cs := (eCell t0).map V.d) rfl trivial rfl sz26 rfl rfl rfl rfl (ones_of rfl) (ble _ _ rfl)) ?_
   refine sM 11 (bV false) rfl rfl ?_
   refine sq_nil ?_
   refine ht_ret ?_
   cases h
   exact ret2 rfl (.cell rfl rfl ag26 (ble _ _ rfl) rfl) (.tmp rfl)
  replace h := cneg e64 h
  refine ht_skip ?_
  refine ht_seq ?_
  refine ht_region_draw mixed ?_
  refine rM 78 (iV t4) rfl rfl ?_
  refine rT 79 (.d (.dp (List.drop 1 (eCell t0)))) rfl (v_field_dp (a0 := 1) (cs := (eCell t0)) rfl · · · fo26_1 rfl) ?_
  refine rT 80 (.d (.agg (eStamp t0.mTop))) rfl (w_ldp (List.drop 1 (eCell t0)) (eStamp t0.mTop) rfl · · · ag24 rfl (ble _ _ rfl) rfl) ?_
  refine rT 81 (.ptr 12 4) rfl (v_field_box (off := 0) (a0 := 4) rfl · · · fo45_3 rfl) ?_
  refine rg_cons _ (v_store_box (id := 12) (off := 4) (cs := [(.s (.int .i64 2))].map V.d) rfl trivial rfl sz3 rfl rfl rfl rfl (ones_of rfl) (ble _ _ rfl)) ?_
  refine rT 82 (.ptr 12 15) rfl (v_field_box (off := 0) (a0 := 15) rfl · · · fo45_10 rfl) ?_
  refine rg_cons _ (v_store_box (id := 12) (off := 15) (cs := [(.s (.int .i64 t4))].map V.d) rfl trivial rfl sz3 rfl rfl rfl rfl (ones_of rfl) (ble _ _ rfl)) ?_
  refine rT 83 (.ptr 12 9) rfl (v_field_box (off := 0) (a0 := 9) rfl · · · fo45_6 rfl) ?_
  refine rg_cons _ (v_store_box (id := 12) (off := 9) (cs := (eStamp t0.mTop).map V.d) rfl trivial rfl sz24 rfl rfl rfl rfl (ones_of rfl) (ble _ _ rfl)) ?_
  refine rg_nil ⟨by kernel_rfl, ?_⟩
  refine sr ?_
  refine sT 84 (.d (.agg (eCell t0))) rfl (w_ldp (eCell t0) (eCell t0) rfl · · · ag26 rfl (ble _ _ rfl) rfl) ?_
  refine sT 85 (.d (.agg (eShard ({t44 with mPhase := 2, mTop := t0.mTop, mMove := t4})))) rfl (w_ldb 12 0 rfl · · · ag45 rfl rfl (ble _ _ rfl) rfl) ?_
  obtain ⟨t86, c65, h⟩ := bpos h
  refine sT 86 (.d (.agg (eCell t86))) rfl (w_call (ds := [(.agg (eCell t0)), (.agg (eShard ({t44 with mPhase := 2, mTop := t0.mTop, mMove := t4}))), (.s (.bool false))]) (caps := []) (l := [(.agg (eCell t86))]) (s79 k t0 ({t44 with mPhase := 2, mTop := t0.mTop, mMove := t4}) false _ c65) rfl rfl rfl en79 · · · (.inl ⟨rfl, rfl⟩) rfl rfl) ?_
  refine sq_cons _ (v_store_box (id := 10) (off := 0) (cs := (eCell t86).map V.d) rfl trivial rfl sz26 rfl rfl rfl rfl (ones_of rfl) (ble _ _ rfl)) ?_
  refine sM 11 (bV true) rfl rfl ?_
  refine sq_nil ?_
  refine ht_ret ?_
  cases h
  exact ret2 rfl (.cell rfl rfl ag26 (ble _ _ rfl) rfl) (.tmp rfl)
 replace h := cneg e39 h
 refine sr ?_
 refine sT 88 (bV (eqI t1 1)) rfl (v_bin rfl · · · rfl rfl (b_eql rfl)) ?_
 refine sM 87 (bV (eqI t1 1)) rfl rfl ?_
 refine sq_nil ?_
 refine ht_cond rfl (fun e66 => ?_) (fun e66 => ?_)
 ·replace h := cpos e66 h
  refine ht_seq ?_
  refine sr ?_
  refine sT 89 (.ptr 12 0) rfl (v_field_box (off := 0) (a0 := 0) rfl · · · fo45_0 rfl) ?_
  refine sT 90 (iV t44.mID) rfl (v_load_box1 (id := 12) (off := 0) rfl · · · onT3 rfl rfl (ble _ _ rfl) rfl) ?_
  refine sT 91 (bV (eqI t44.mID 0)) rfl (v_bin rfl · · · rfl rfl (b_eql rfl)) ?_
  refine sq_nil ?_
  refine ht_cond rfl (fun e67 => ?_) (fun e67 => ?_)
  ·replace h := cpos e67 h
   refine sr ?_
   refine sT 92 (.d (.agg (eCell t0))) rfl (w_ldp (eCell t0) (eCell t0) rfl · · · ag26 rfl (ble _ _ rfl) rfl) ?_
   refine sq_cons _ (v_store_box (id := 10) (off := 0) (cs := (eCell t0).map V.d) rfl trivial rfl sz26 rfl rfl rfl rfl (ones_of rfl) (ble _ _ rfl)) ?_
   refine sM 11 (bV false) rfl rfl ?_
   refine sq_nil ?_
   refine ht_ret ?_
   cases h
   exact ret2 rfl (.cell rfl rfl ag26 (ble _ _ rfl) rfl) (.tmp rfl)
  replace h := cneg e67 h
  refine ht_skip ?_
  refine ht_seq ?_
  refine sr ?_
  refine sM 93 (iV t4) rfl rfl ?_
  refine sT 94 (.ptr 12 16) rfl (v_field_box (off := 0) (a0 := 16) rfl · · · fo45_11 rfl) ?_
  refine sT 95 (iV t44.mClosed) rfl (v_load_box1 (id := 12) (off := 16) rfl · · · onT3 rfl rfl (ble _ _ rfl) rfl) ?_
  refine sT 96 (bV (leI t4 t44.mClosed)) rfl (v_bin rfl · · · rfl rfl (b_leq rfl)) ?_
  refine sM 97 (bV (leI t4 t44.mClosed)) rfl rfl ?_
  refine sF 98 (.ptr 12 4) rfl rfl (fun e68 => (v_field_box (off := 0) (a0 := 4) rfl · · · fo45_3 rfl)) ?_
  refine sF 99 (iV t44.mPhase) rfl rfl (fun e69 => (v_load_box1 (id := 12) (off := 4) rfl · · · onT3 (gv (nF e69)) rfl (ble _ _ rfl) rfl)) ?_
  refine sF 100 (bV (eqI t44.mPhase 2)) rfl rfl (fun e70 => (v_bin rfl · · · (gv (nF e70)) rfl (b_eql rfl))) ?_
  refine sF 101 (bV (eqI t44.mPhase 2)) rfl rfl (fun e71 => (v_move (.inl rfl) · · · (gv (nF e71)))) ?_
  refine sI 102 (.ptr 12 15) rfl rfl (fun e72 e73 => (v_field_box (off := 0) (a0 := 15) rfl · · · fo45_10 rfl)) ?_
  refine sI 103 (iV t44.mMove) rfl rfl (fun e74 e75 => (v_load_box1 (id := 12) (off := 15) rfl · · · onT3 (gv (aT e74 e75)) rfl (ble _ _ rfl) rfl)) ?_
  refine sI 104 (iV t4) rfl rfl (fun e76 e77 => (v_move (.inl rfl) · · · rfl)) ?_
  refine sI 105 (bV (!eqI t44.mMove t4)) rfl rfl (fun e78 e79 => (v_bin rfl · · · (gv (aT e78 e79)) (gv (aT e78 e79)) (b_neq rfl))) ?_
  refine sF 106 (bV ((eqI t44.mPhase 2) && (!eqI t44.mMove t4))) rfl rfl (fun e80 => (v_pickB rfl · · · (gv (nF e80)) (fun e81 => (gv (aT (nF e80) e81))) (fun e82 => rfl) (pA _ _))) ?_
  refine sT 107 (bV ((leI t4 t44.mClosed) || ((eqI t44.mPhase 2) && (!eqI t44.mMove t4)))) rfl (v_pickB rfl · · · rfl (fun e83 => rfl) (fun e84 => (gv (nF e84))) (pO _ _)) ?_
  refine sq_nil ?_
  refine ht_cond rfl (fun e85 => ?_) (fun e85 => ?_)
  ·replace h := cpos e85 h
   refine sr ?_
   refine sT 108 (.d (.agg (eCell t0))) rfl (w_ldp (eCell t0) (eCell t0) rfl · · · ag26 rfl (ble _ _ rfl) rfl) ?_
   refine sq_cons _ (v_store_box (id := 10) (off := 0) (cs := (eCell t0).map V.d) rfl trivial rfl sz26 rfl rfl rfl rfl (ones_of rfl) (ble _ _ rfl)) ?_
   refine sM 11 (bV true) rfl rfl ?_
   refine sq_nil ?_
   refine ht_ret ?_
   cases h
   exact ret2 rfl (.cell rfl rfl ag26 (ble _ _ rfl) rfl) (.tmp rfl)
  replace h := cneg e85 h
  refine ht_skip ?_
  refine ht_seq ?_
  refine sr ?_
  refine sT 109 (.d (.agg (eShard t44))) rfl (w_ldb 12 0 rfl · · · ag45 rfl rfl (ble _ _ rfl) rfl) ?_
  refine sM 110 (iV t4) rfl rfl ?_
  obtain ⟨t111, c86, h⟩ := bpos h
  refine sT 111 (bV t111) rfl (w_call (ds := [(.agg (eShard t44)), (.s (.int .i64 2)), (.s (.int .i64 t4))]) (caps := []) (l := [(.s (.bool t111))]) (s96 k t44 2 t4 _ c86) rfl rfl rfl en96 · · · (.inl ⟨rfl, rfl⟩) rfl rfl) ?_
  refine sq_nil ?_
  refine ht_cond rfl (fun e87 => ?_) (fun e87 => ?_)
  ·replace h := cpos e87 h
   refine ht_region ?_
   refine sT 112 (.ptr 12 4) rfl (v_field_box (off := 0) (a0 := 4) rfl · · · fo45_3 rfl) ?_
   refine sq_cons _ (v_store_box (id := 12) (off := 4) (cs := [(.s (.int .i64 1))].map V.d) rfl trivial rfl sz3 rfl rfl rfl rfl (ones_of rfl) (ble _ _ rfl)) ?_
   refine sq_nil ?_
   refine sr ?_
   refine sM 113 (iV t4) rfl rfl ?_
   refine sT 114 (.ptr 12 16) rfl (v_field_box (off := 0) (a0 := 16) rfl · · · fo45_11 rfl) ?_
   refine sq_cons _ (v_store_box (id := 12) (off := 16) (cs := [(.s (.int .i64 t4))].map V.d) rfl trivial rfl sz3 rfl rfl rfl rfl (ones_of rfl) (ble _ _ rfl)) ?_
   refine sq_nil ?_
   refine sr ?_
   refine sT 115 (.d (.agg (eCell t0))) rfl (w_ldp (eCell t0) (eCell t0) rfl · · · ag26 rfl (ble _ _ rfl) rfl) ?_
   refine sT 116 (.d (.agg (eShard ({t44 with mPhase := 1, mClosed := t4})))) rfl (w_ldb 12 0 rfl · · · ag45 rfl rfl (ble _ _ rfl) rfl) ?_
   obtain ⟨t117, c88, h⟩ := bpos h
   refine sT 117 (.d (.agg (eCell t117))) rfl (w_call (ds := [(.agg (eCell t0)), (.agg (eShard ({t44 with mPhase := 1, mClosed := t4}))), (.s (.bool false))]) (caps := []) (l := [(.agg (eCell t117))]) (s79 k t0 ({t44 with mPhase := 1, mClosed := t4}) false _ c88) rfl rfl rfl en79 · · · (.inl ⟨rfl, rfl⟩) rfl rfl) ?_
   refine sq_cons _ (v_store_box (id := 10) (off := 0) (cs := (eCell t117).map V.d) rfl trivial rfl sz26 rfl rfl rfl rfl (ones_of rfl) (ble _ _ rfl)) ?_
   refine sM 11 (bV true) rfl rfl ?_
   refine sq_nil ?_
   refine ht_ret ?_
   cases h
   exact ret2 rfl (.cell rfl rfl ag26 (ble _ _ rfl) rfl) (.tmp rfl)
  replace h := cneg e87 h
  refine ht_skip ?_
  refine sr ?_
  refine sM 113 (iV t4) rfl rfl ?_
  refine sT 114 (.ptr 12 16) rfl (v_field_box (off := 0) (a0 := 16) rfl · · · fo45_11 rfl) ?_
  refine sq_cons _ (v_store_box (id := 12) (off := 16) (cs := [(.s (.int .i64 t4))].map V.d) rfl trivial rfl sz3 rfl rfl rfl rfl (ones_of rfl) (ble _ _ rfl)) ?_
  refine sq_nil ?_
  refine sr ?_
  refine sT 115 (.d (.agg (eCell t0))) rfl (w_ldp (eCell t0) (eCell t0) rfl · · · ag26 rfl (ble _ _ rfl) rfl) ?_
  refine sT 116 (.d (.agg (eShard ({t44 with mClosed := t4})))) rfl (w_ldb 12 0 rfl · · · ag45 rfl rfl (ble _ _ rfl) rfl) ?_
  obtain ⟨t117_1, c89, h⟩ := bpos h
  refine sT 117 (.d (.agg (eCell t117_1))) rfl (w_call (ds := [(.agg (eCell t0)), (.agg (eShard ({t44 with mClosed := t4}))), (.s (.bool false))]) (caps := []) (l := [(.agg (eCell t117_1))]) (s79 k t0 ({t44 with mClosed := t4}) false _ c89) rfl rfl rfl en79 · · · (.inl ⟨rfl, rfl⟩) rfl rfl) ?_
  refine sq_cons _ (v_store_box (id := 10) (off := 0) (cs := (eCell t117_1).map V.d) rfl trivial rfl sz26 rfl rfl rfl rfl (ones_of rfl) (ble _ _ rfl)) ?_
  refine sM 11 (bV true) rfl rfl ?_
  refine sq_nil ?_
  refine ht_ret ?_
  cases h
  exact ret2 rfl (.cell rfl rfl ag26 (ble _ _ rfl) rfl) (.tmp rfl)
 replace h := cneg e66 h
 refine sr ?_
 refine sT 119 (bV (eqI t1 2)) rfl (v_bin rfl · · · rfl rfl (b_eql rfl)) ?_
 refine sM 118 (bV (eqI t1 2)) rfl rfl ?_
 refine sq_nil ?_
 refine ht_cond rfl (fun e90 => ?_) (fun e90 => ?_)
 ·replace h := cpos e90 h
  refine ht_seq ?_
  refine sr ?_
  refine sT 120 (.ptr 12 0) rfl (v_field_box (off := 0) (a0 := 0) rfl · · · fo45_0 rfl) ?_
  refine sT 121 (iV t44.mID) rfl (v_load_box1 (id := 12) (off := 0) rfl · · · onT3 rfl rfl (ble _ _ rfl) rfl) ?_
  refine sT 122 (bV (eqI t44.mID 0)) rfl (v_bin rfl · · · rfl rfl (b_eql rfl)) ?_
  refine sq_nil ?_
  refine ht_cond rfl (fun e91 => ?_) (fun e91 => ?_)
  ·replace h := cpos e91 h
   refine sr ?_
   refine sT 123 (.d (.agg (eCell t0))) rfl (w_ldp (eCell t0) (eCell t0) rfl · · · ag26 rfl (ble _ _ rfl) rfl) ?_
   refine sq_cons _ (v_store_box (id := 10) (off := 0) (cs := (eCell t0).map V.d) rfl trivial rfl sz26 rfl rfl rfl rfl (ones_of rfl) (ble _ _ rfl)) ?_
   refine sM 11 (bV true) rfl rfl ?_
   refine sq_nil ?_
   refine ht_ret ?_
   cases h
   exact ret2 rfl (.cell rfl rfl ag26 (ble _ _ rfl) rfl) (.tmp rfl)
  replace h := cneg e91 h
  refine ht_skip ?_
  refine ht_seq ?_
  refine sr ?_
  refine sT 124 (.d (.agg (eShard t44))) rfl (w_ldb 12 0 rfl · · · ag45 rfl rfl (ble _ _ rfl) rfl) ?_
  refine sM 125 (iV t4) rfl rfl ?_
  obtain ⟨t126, c92, h⟩ := bpos h
  refine sT 126 (bV t126) rfl (w_call (ds := [(.agg (eShard t44)), (.s (.int .i64 2)), (.s (.int .i64 t4))]) (caps := []) (l := [(.s (.bool t126))]) (s96 k t44 2 t4 _ c92) rfl rfl rfl en96 · · · (.inl ⟨rfl, rfl⟩) rfl rfl) ?_
  refine sT 127 (bV (!t126)) rfl (v_un rfl · · · rfl (u_not rfl)) ?_
  refine sq_nil ?_
  refine ht_cond rfl (fun e93 => ?_) (fun e93 => ?_)
  ·replace h := cpos e93 h
   refine sr ?_
   refine sT 128 (.d (.agg (eCell t0))) rfl (w_ldp (eCell t0) (eCell t0) rfl · · · ag26 rfl (ble _ _ rfl) rfl) ?_
   refine sq_cons _ (v_store_box (id := 10) (off := 0) (cs := (eCell t0).map V.d) rfl trivial rfl sz26 rfl rfl rfl rfl (ones_of rfl) (ble _ _ rfl)) ?_
   refine sM 11 (bV false) rfl rfl ?_
   refine sq_nil ?_
   refine ht_ret ?_
   cases h
   exact ret2 rfl (.cell rfl rfl ag26 (ble _ _ rfl) rfl) (.tmp rfl)
  replace h := cneg e93 h
  refine ht_skip ?_
  refine sr ?_
  refine sT 129 (.d (.agg (eCell t0))) rfl (w_ldp (eCell t0) (eCell t0) rfl · · · ag26 rfl (ble _ _ rfl) rfl) ?_
  refine sT 130 (.d (.agg (eShard t44))) rfl (w_ldb 12 0 rfl · · · ag45 rfl rfl (ble _ _ rfl) rfl) ?_
  obtain ⟨t131, c94, h⟩ := bpos h
  refine sT 131 (.d (.agg (eCell t131))) rfl (w_call (ds := [(.agg (eCell t0)), (.agg (eShard t44)), (.s (.bool true))]) (caps := []) (l := [(.agg (eCell t131))]) (s79 k t0 t44 true _ c94) rfl rfl rfl en79 · · · (.inl ⟨rfl, rfl⟩) rfl rfl) ?_
  refine sq_cons _ (v_store_box (id := 10) (off := 0) (cs := (eCell t131).map V.d) rfl trivial rfl sz26 rfl rfl rfl rfl (ones_of rfl) (ble _ _ rfl)) ?_
  refine sM 11 (bV true) rfl rfl ?_
  refine sq_nil ?_
  refine ht_ret ?_
  cases h
  exact ret2 rfl (.cell rfl rfl ag26 (ble _ _ rfl) rfl) (.tmp rfl)
 replace h := cneg e90 h
 refine sr ?_
 refine sT 133 (bV (eqI t1 3)) rfl (v_bin rfl · · · rfl rfl (b_eql rfl)) ?_
 refine sM 132 (bV (eqI t1 3)) rfl rfl ?_
 refine sq_nil ?_
 refine ht_cond rfl (fun e95 => ?_) (fun e95 => ?_)
 ·replace h := cpos e95 h
  refine ht_seq ?_
  refine sr ?_
  refine sT 134 (.ptr 12 0) rfl (v_field_box (off := 0) (a0 := 0) rfl · · · fo45_0 rfl) ?_
  refine sT 135 (iV t44.mID) rfl (v_load_box1 (id := 12) (off := 0) rfl · · · onT3 rfl rfl (ble _ _ rfl) rfl) ?_
  refine sT 136 (bV (ltI 0 t44.mID)) rfl (v_bin rfl · · · rfl rfl (b_gtr rfl)) ?_
  refine sM 137 (bV (ltI 0 t44.mID)) rfl rfl ?_
  refine sG 138 (.ptr 12 4) rfl rfl (fun e96 => (v_field_box (off := 0) (a0 := 4) rfl · · · fo45_3 rfl)) ?_
  refine sG 139 (iV t44.mPhase) rfl rfl (fun e97 => (v_load_box1 (id := 12) (off := 4) rfl · · · onT3 (gv e97) rfl (ble _ _ rfl) rfl)) ?_
  refine sG 140 (bV (eqI t44.mPhase 1)) rfl rfl (fun e98 => (v_bin rfl · · · (gv e98) rfl (b_eql rfl))) ?_
  refine sT 141 (bV ((ltI 0 t44.mID) && (eqI t44.mPhase 1))) rfl (v_pickB rfl · · · rfl (fun e99 => (gv e99)) (fun e100 => rfl) (pA _ _)) ?_
  refine sM 142 (bV ((ltI 0 t44.mID) && (eqI t44.mPhase 1))) rfl rfl ?_
  refine sG 143 (.ptr 12 1) rfl rfl (fun e101 => (v_field_box (off := 0) (a0 := 1) rfl · · · fo45_1 rfl)) ?_
  refine sG 144 (iV t44.mEpoch) rfl rfl (fun e102 => (v_load_box1 (id := 12) (off := 1) rfl · · · onT3 (gv e102) rfl (ble _ _ rfl) rfl)) ?_
  refine sG 145 (iV t3) rfl rfl (fun e103 => (v_move (.inl rfl) · · · rfl)) ?_
  refine sG 146 (bV (eqI t44.mEpoch t3)) rfl rfl (fun e104 => (v_bin rfl · · · (gv e104) (gv e104) (b_eql rfl))) ?_
  refine sT 147 (bV (((ltI 0 t44.mID) && (eqI t44.mPhase 1)) && (eqI t44.mEpoch t3))) rfl (v_pickB rfl · · · rfl (fun e105 => (gv e105)) (fun e106 => rfl) (pA _ _)) ?_
  refine sM 148 (bV (((ltI 0 t44.mID) && (eqI t44.mPhase 1)) && (eqI t44.mEpoch t3))) rfl rfl ?_
  refine sG 149 (.ptr 12 16) rfl rfl (fun e107 => (v_field_box (off := 0) (a0 := 16) rfl · · · fo45_11 rfl)) ?_
  refine sG 150 (iV t44.mClosed) rfl rfl (fun e108 => (v_load_box1 (id := 12) (off := 16) rfl · · · onT3 (gv e108) rfl (ble _ _ rfl) rfl)) ?_
  refine sG 151 (iV t4) rfl rfl (fun e109 => (v_move (.inl rfl) · · · rfl)) ?_
  refine sG 152 (bV (eqI t44.mClosed t4)) rfl rfl (fun e110 => (v_bin rfl · · · (gv e110) (gv e110) (b_eql rfl))) ?_
  refine sT 153 (bV ((((ltI 0 t44.mID) && (eqI t44.mPhase 1)) && (eqI t44.mEpoch t3)) && (eqI t44.mClosed t4))) rfl (v_pickB rfl · · · rfl (fun e111 => (gv e111)) (fun e112 => rfl) (pA _ _)) ?_
  refine sq_nil ?_
  refine ht_cond rfl (fun e113 => ?_) (fun e113 => ?_)
  ·replace h := cpos e113 h
   refine sr ?_
   refine sT 154 (.d (.agg (eCell t0))) rfl (w_ldp (eCell t0) (eCell t0) rfl · · · ag26 rfl (ble _ _ rfl) rfl) ?_
   refine sq_cons _ (v_store_box (id := 10) (off := 0) (cs := (eCell t0).map V.d) rfl trivial rfl sz26 rfl rfl rfl rfl (ones_of rfl) (ble _ _ rfl)) ?_
   refine sM 11 (bV true) rfl rfl ?_
   refine sq_nil ?_
   refine ht_ret ?_
   cases h
   exact ret2 rfl (.cell rfl rfl ag26 (ble _ _ rfl) rfl) (.tmp rfl)
  replace h := cneg e113 h
  refine ht_skip ?_
  refine ht_seq ?_
  refine sr ?_
  refine sT 155 (.d (.agg (eShard t44))) rfl (w_ldb 12 0 rfl · · · ag45 rfl rfl (ble _ _ rfl) rfl) ?_
  refine sM 156 (iV t4) rfl rfl ?_
  obtain ⟨t157, c114, h⟩ := bpos h
  refine sT 157 (bV t157) rfl (w_call (ds := [(.agg (eShard t44)), (.s (.int .i64 3)), (.s (.int .i64 t4))]) (caps := []) (l := [(.s (.bool t157))]) (s96 k t44 3 t4 _ c114) rfl rfl rfl en96 · · · (.inl ⟨rfl, rfl⟩) rfl rfl) ?_
  refine sT 158 (bV (!t157)) rfl (v_un rfl · · · rfl (u_not rfl)) ?_
  refine sM 159 (bV (!t157)) rfl rfl ?_
  refine sF 160 (iV t3) rfl rfl (fun e115 => (v_move (.inl rfl) · · · rfl)) ?_
  refine sF 161 (.ptr 12 1) rfl rfl (fun e116 => (v_field_box (off := 0) (a0 := 1) rfl · · · fo45_1 rfl)) ?_
  refine sF 162 (iV t44.mEpoch) rfl rfl (fun e117 => (v_load_box1 (id := 12) (off := 1) rfl · · · onT3 (gv (nF e117)) rfl (ble _ _ rfl) rfl)) ?_
  refine sF 163 (bV (leI t3 t44.mEpoch)) rfl rfl (fun e118 => (v_bin rfl · · · (gv (nF e118)) (gv (nF e118)) (b_leq rfl))) ?_
  refine sT 164 (bV ((!t157) || (leI t3 t44.mEpoch))) rfl (v_pickB rfl · · · rfl (fun e119 => rfl) (fun e120 => (gv (nF e120))) (pO _ _)) ?_
  refine sq_nil ?_
  refine ht_cond rfl (fun e121 => ?_) (fun e121 => ?_)
  ·replace h := cpos e121 h
   refine sr ?_
   refine sT 165 (.d (.agg (eCell t0))) rfl (w_ldp (eCell t0) (eCell t0) rfl · · · ag26 rfl (ble _ _ rfl) rfl) ?_
   refine sq_cons _ (v_store_box (id := 10) (off := 0) (cs := (eCell t0).map V.d) rfl trivial rfl sz26 rfl rfl rfl rfl (ones_of rfl) (ble _ _ rfl)) ?_
   refine sM 11 (bV false) rfl rfl ?_
   refine sq_nil ?_
   refine ht_ret ?_
   cases h
   exact ret2 rfl (.cell rfl rfl ag26 (ble _ _ rfl) rfl) (.tmp rfl)
  replace h := cneg e121 h
  refine ht_skip ?_
  refine sr ?_
  refine sM 166 (iV t3) rfl rfl ?_
  refine sM 167 (iV t4) rfl rfl ?_
  refine sT 168 (.ptr 12 4) rfl (v_field_box (off := 0) (a0 := 4) rfl · · · fo45_3 rfl) ?_
  refine sq_cons _ (v_store_box (id := 12) (off := 4) (cs := [(.s (.int .i64 1))].map V.d) rfl trivial rfl sz3 rfl rfl rfl rfl (ones_of rfl) (ble _ _ rfl)) ?_
  refine sT 169 (.ptr 12 1) rfl (v_field_box (off := 0) (a0 := 1) rfl · · · fo45_1 rfl) ?_
  refine sq_cons _ (v_store_box (id := 12) (off := 1) (cs := [(.s (.int .i64 t3))].map V.d) rfl trivial rfl sz3 rfl rfl rfl rfl (ones_of rfl) (ble _ _ rfl)) ?_
  refine sT 170 (.ptr 12 16) rfl (v_field_box (off := 0) (a0 := 16) rfl · · · fo45_11 rfl) ?_
  refine sq_cons _ (v_store_box (id := 12) (off := 16) (cs := [(.s (.int .i64 t4))].map V.d) rfl trivial rfl sz3 rfl rfl rfl rfl (ones_of rfl) (ble _ _ rfl)) ?_
  refine sq_nil ?_
  refine sr ?_
  refine sT 171 (.d (.agg (eCell t0))) rfl (w_ldp (eCell t0) (eCell t0) rfl · · · ag26 rfl (ble _ _ rfl) rfl) ?_
  refine sT 172 (.d (.agg (eShard ({t44 with mEpoch := t3, mPhase := 1, mClosed := t4})))) rfl (w_ldb 12 0 rfl · · · ag45 rfl rfl (ble _ _ rfl) rfl) ?_
  obtain ⟨t173, c122, h⟩ := bpos h
  refine sT 173 (.d (.agg (eCell t173))) rfl (w_call (ds := [(.agg (eCell t0)), (.agg (eShard ({t44 with mEpoch := t3, mPhase := 1, mClosed := t4}))), (.s (.bool false))]) (caps := []) (l := [(.agg (eCell t173))]) (s79 k t0 ({t44 with mEpoch := t3, mPhase := 1, mClosed := t4}) false _ c122) rfl rfl rfl en79 · · · (.inl ⟨rfl, rfl⟩) rfl rfl) ?_
  refine sq_cons _ (v_alloc (id := 13) (cs := zc26) rfl trivial rfl (ble _ _ rfl) zu26 rfl ft26 rfl) ?_
  refine sq_cons _ (v_store_box (id := 13) (off := 0) (cs := (eCell t173).map V.d) rfl trivial rfl sz26 rfl rfl rfl rfl (ones_of rfl) (ble _ _ rfl)) ?_
  refine sq_nil ?_
  refine ht_seq ?_
  refine sr ?_
  refine sM 174 (iV t4) rfl rfl ?_
  refine sT 175 (.ptr 13 4) rfl (v_field_box (off := 0) (a0 := 4) rfl · · · fo26_2 rfl) ?_
  refine sT 176 (iV t173.mDropped) rfl (v_load_box1 (id := 13) (off := 4) rfl · · · onT3 rfl rfl (ble _ _ rfl) rfl) ?_
  refine sT 177 (bV (ltI t173.mDropped t4)) rfl (v_bin rfl · · · rfl rfl (b_gtr rfl)) ?_
  refine sq_nil ?_
  refine ht_cond rfl (fun e123 => ?_) (fun e123 => ?_)
  ·replace h := cpos e123 h
   refine ht_region ?_
   refine sM 178 (iV t4) rfl rfl ?_
   refine sT 179 (.ptr 13 4) rfl (v_field_box (off := 0) (a0 := 4) rfl · · · fo26_2 rfl) ?_
   refine sq_cons _ (v_store_box (id := 13) (off := 4) (cs := [(.s (.int .i64 t4))].map V.d) rfl trivial rfl sz3 rfl rfl rfl rfl (ones_of rfl) (ble _ _ rfl)) ?_
   refine sq_nil ?_
   refine sr ?_
   refine sT 180 (.d (.agg (eCell ({t173 with mDropped := t4})))) rfl (w_ldb 13 0 rfl · · · ag26 rfl rfl (ble _ _ rfl) rfl) ?_
   refine sq_cons _ (v_store_box (id := 10) (off := 0) (cs := (eCell ({t173 with mDropped := t4})).map V.d) rfl trivial rfl sz26 rfl rfl rfl rfl (ones_of rfl) (ble _ _ rfl)) ?_
   refine sM 11 (bV true) rfl rfl ?_
   refine sq_nil ?_
   refine ht_ret ?_
   cases h
   exact ret2 rfl (.cell rfl rfl ag26 (ble _ _ rfl) rfl) (.tmp rfl)
  replace h := cneg e123 h
  refine ht_skip ?_
  refine sr ?_
  refine sT 180 (.d (.agg (eCell t173))) rfl (w_ldb 13 0 rfl · · · ag26 rfl rfl (ble _ _ rfl) rfl) ?_
  refine sq_cons _ (v_store_box (id := 10) (off := 0) (cs := (eCell t173).map V.d) rfl trivial rfl sz26 rfl rfl rfl rfl (ones_of rfl) (ble _ _ rfl)) ?_
  refine sM 11 (bV true) rfl rfl ?_
  refine sq_nil ?_
  refine ht_ret ?_
  cases h
  exact ret2 rfl (.cell rfl rfl ag26 (ble _ _ rfl) rfl) (.tmp rfl)
 replace h := cneg e95 h
 refine ht_skip ?_
 refine sr ?_
 refine sT 181 (.d (.agg (eCell t0))) rfl (w_ldp (eCell t0) (eCell t0) rfl · · · ag26 rfl (ble _ _ rfl) rfl) ?_
 refine sq_cons _ (v_alloc (id := 14) (cs := zc26) rfl trivial rfl (ble _ _ rfl) zu26 rfl ft26 rfl) ?_
 refine sq_cons _ (v_store_box (id := 14) (off := 0) (cs := (eCell t0).map V.d) rfl trivial rfl sz26 rfl rfl rfl rfl (ones_of rfl) (ble _ _ rfl)) ?_
 refine sq_nil ?_
 refine ht_bj h (fun (t14c0, t14c1, t14c2, t14c3, t14c4) => tell [(.b 10, .box false 5), (.b 14, .box false 5), (.c 10 0, .d (.sl 17 (([] : List Shard).map eShard))), (.c 10 1, iV 0), (.c 10 2, iV 0), (.c 10 3, iV 0), (.c 10 4, iV 0), (.c 14 0, .d (.sl 17 (t14c0.map eShard))), (.c 14 1, iV t14c1), (.c 14 2, iV t14c2), (.c 14 3, iV t14c3), (.c 14 4, iV t14c4), (.t 4, iV t4), (.t 10, .ptr 10 0), (.t 14, .ptr 14 0)]) (fun v124 h => ?_) (fun v124 K125 h j127 => ?_)
 ·obtain ⟨t14c0, t14c1, t14c2, t14c3, t14c4⟩ := v124
  refine ht_seq ?_
  refine sr ?_
  refine sM 188 (iV t4) rfl rfl ?_
  refine sT 189 (.ptr 14 4) rfl (v_field_box (off := 0) (a0 := 4) rfl · · · fo26_2 rfl) ?_
  refine sT 190 (iV t14c4) rfl (v_load_box1 (id := 14) (off := 4) rfl · · · onT3 rfl rfl (ble _ _ rfl) rfl) ?_
  refine sT 191 (bV (ltI t14c4 t4)) rfl (v_bin rfl · · · rfl rfl (b_gtr rfl)) ?_
  refine sq_nil ?_
  refine ht_cond rfl (fun e132 => ?_) (fun e132 => ?_)
  ·replace h := cpos e132 h
   refine ht_region ?_
   refine sM 192 (iV t4) rfl rfl ?_
   refine sT 193 (.ptr 14 4) rfl (v_field_box (off := 0) (a0 := 4) rfl · · · fo26_2 rfl) ?_
   refine sq_cons _ (v_store_box (id := 14) (off := 4) (cs := [(.s (.int .i64 t4))].map V.d) rfl trivial rfl sz3 rfl rfl rfl rfl (ones_of rfl) (ble _ _ rfl)) ?_
   refine sq_nil ?_
   refine sr ?_
   refine sT 194 (.d (.agg (eCell (⟨t14c0, (⟨t14c1, t14c2, t14c3⟩ : Stamp), t4⟩ : Cell)))) rfl (w_ldb 14 0 rfl · · · ag26 rfl rfl (ble _ _ rfl) rfl) ?_
   refine sq_cons _ (v_store_box (id := 10) (off := 0) (cs := (eCell (⟨t14c0, (⟨t14c1, t14c2, t14c3⟩ : Stamp), t4⟩ : Cell)).map V.d) rfl trivial rfl sz26 rfl rfl rfl rfl (ones_of rfl) (ble _ _ rfl)) ?_
   refine sM 11 (bV true) rfl rfl ?_
   refine sq_nil ?_
   refine ht_ret ?_
   cases h
   exact ret2 rfl (.cell rfl rfl ag26 (ble _ _ rfl) rfl) (.tmp rfl)
  replace h := cneg e132 h
  refine ht_skip ?_
  refine sr ?_
  refine sT 194 (.d (.agg (eCell (⟨t14c0, (⟨t14c1, t14c2, t14c3⟩ : Stamp), t14c4⟩ : Cell)))) rfl (w_ldb 14 0 rfl · · · ag26 rfl rfl (ble _ _ rfl) rfl) ?_
  refine sq_cons _ (v_store_box (id := 10) (off := 0) (cs := (eCell (⟨t14c0, (⟨t14c1, t14c2, t14c3⟩ : Stamp), t14c4⟩ : Cell)).map V.d) rfl trivial rfl sz26 rfl rfl rfl rfl (ones_of rfl) (ble _ _ rfl)) ?_
  refine sM 11 (bV true) rfl rfl ?_
  refine sq_nil ?_
  refine ht_ret ?_
  cases h
  exact ret2 rfl (.cell rfl rfl ag26 (ble _ _ rfl) rfl) (.tmp rfl)
 refine sr ?_
 refine sT 182 (.d (.agg (eShard t44))) rfl (w_ldb 12 0 rfl · · · ag45 rfl rfl (ble _ _ rfl) rfl) ?_
 refine sM 183 (iV t4) rfl rfl ?_
 obtain ⟨t184, c129, h⟩ := bpos h
 refine sT 184 (bV t184) rfl (w_call (ds := [(.agg (eShard t44)), (.s (.int .i64 3)), (.s (.int .i64 t4))]) (caps := []) (l := [(.s (.bool t184))]) (s96 k t44 3 t4 _ c129) rfl rfl rfl en96 · · · (.inl ⟨rfl, rfl⟩) rfl rfl) ?_
 refine sq_nil ?_
 refine ht_cond rfl (fun e130 => ?_) (fun e130 => ?_)
 ·replace h := cpos e130 h
  refine ht_region ?_
  refine sT 185 (.d (.agg (eCell t0))) rfl (w_ldp (eCell t0) (eCell t0) rfl · · · ag26 rfl (ble _ _ rfl) rfl) ?_
  refine sT 186 (.d (.agg (eShard t44))) rfl (w_ldb 12 0 rfl · · · ag45 rfl rfl (ble _ _ rfl) rfl) ?_
  obtain ⟨t187, c131, h⟩ := bpos h
  refine sT 187 (.d (.agg (eCell t187))) rfl (w_call (ds := [(.agg (eCell t0)), (.agg (eShard t44)), (.s (.bool true))]) (caps := []) (l := [(.agg (eCell t187))]) (s79 k t0 t44 true _ c131) rfl rfl rfl en79 · · · (.inl ⟨rfl, rfl⟩) rfl rfl) ?_
  refine sq_cons _ (v_store_box (id := 14) (off := 0) (cs := (eCell t187).map V.d) rfl trivial rfl sz26 rfl rfl rfl rfl (ones_of rfl) (ble _ _ rfl)) ?_
  refine sq_nil ?_
  cases h
  exact j127 _ (wk_ren _ (fun i => i) rfl ⟨rfl, rfl, rfl, rfl, rfl, rfl, rfl, rfl, rfl, rfl, rfl, rfl, rfl, rfl, rfl, trivial⟩)
 replace h := cneg e130 h
 refine ht_skip ?_
 cases h
 exact j127 _ (wk_ren _ (fun i => i) rfl ⟨rfl, rfl, rfl, rfl, rfl, rfl, rfl, rfl, rfl, rfl, rfl, rfl, rfl, rfl, rfl, trivial⟩)
theorem s46 (k : Nat) (t0 : Cell) (t1 : Int) (t2 : Int) (r : Cell × Bool) (h : F46 k t0 t1 t2 = some r) : Awp.Spec Tryz.prog amb 46 [(.agg (eCell t0)), (.s (.int .i64 t1)), (.s (.int .i64 t2))] (.ds [(.agg (eCell r.1)), (.s (.bool r.2))]) := by
 rw [F46] at h
 refine spec_of Tryz.func46 rfl (ble _ _ rfl) fun w0 ok0 lt0 hA => ?_
 refine sr ?_
 refine sT 3 (.d (.dp (eCell t0))) rfl (v_box_d (cs := (eCell t0)) rfl · · · rfl rfl (ones_of rfl)) ?_
 refine sq_cons _ (v_alloc (id := 6) (cs := zc26) rfl trivial rfl (ble _ _ rfl) zu26 rfl ft26 rfl) ?_
 refine sM 7 (bV false) rfl rfl ?_
 refine sq_nil ?_
 refine sr ?_
 refine sT 11 (.d (.agg (eCell t0))) rfl (w_ldp (eCell t0) (eCell t0) rfl · · · ag26 rfl (ble _ _ rfl) rfl) ?_
 refine sM 12 (iV t1) rfl rfl ?_
 obtain ⟨⟨t13a, t13b⟩, c1, h⟩ := bpos h
 refine sT 13 (.tup [.d (.agg (eShard t13a)), bV t13b]) rfl (w_call (ds := [(.agg (eCell t0)), (.s (.int .i64 t1))]) (caps := []) (l := [(.agg (eShard t13a)), (.s (.bool t13b))]) (s23 k t0 t1 _ c1) rfl rfl rfl en23 · · · (.inl ⟨rfl, rfl⟩) rfl rfl) ?_
 refine sM 10 (.tup [.d (.agg (eShard t13a)), bV t13b]) rfl rfl ?_
 refine sT 14 (.d (.agg (eShard t13a))) rfl (v_extract rfl · · · rfl rfl) ?_
 refine sT 15 (bV t13b) rfl (v_extract rfl · · · rfl rfl) ?_
 refine sq_cons _ (v_alloc (id := 8) (cs := zc45) rfl trivial rfl (ble _ _ rfl) zu45 rfl ft45 rfl) ?_
 refine sq_cons _ (v_store_box (id := 8) (off := 0) (cs := (eShard t13a).map V.d) rfl trivial rfl sz45 rfl rfl rfl rfl (ones_of rfl) (ble _ _ rfl)) ?_
 refine sM 9 (bV t13b) rfl rfl ?_
 refine sq_nil ?_
 refine ht_seq ?_
 refine sr ?_
 refine sM 16 (bV t13b) rfl rfl ?_
 refine sT 17 (bV (!t13b)) rfl (v_un rfl · · · rfl (u_not rfl)) ?_
 refine sM 18 (bV (!t13b)) rfl rfl ?_
 refine sF 19 (iV t2) rfl rfl (fun e2 => (v_move (.inl rfl) · · · rfl)) ?_
 refine sF 20 (.d (.sl 1 (([t2]).map (eI .i64)))) rfl rfl (fun e3 => (w_bsl_d [(0, iV t2)] [t2] (eI .i64) rfl · · · slT148 zr3 (encI .i64) (ble _ _ rfl) (cc (pr (gv (nF e3))) rfl) (by kernel_rfl) rfl rfl (by kernel_rfl))) ?_
 obtain ⟨t21, c5, h⟩ := bpos h
 refine sF 21 (bV t21) rfl rfl (fun e4 => (w_call (ds := [(.s (.int .i64 1)), (.sl 1 (([t2]).map (eI .i64)))]) (caps := []) (l := [(.s (.bool t21))]) (s57 k 1 ([t2]) _ (cpos (nF e4) c5)) rfl rfl rfl en57 · · · (.inl ⟨rfl, rfl⟩) (cc rfl (cc (gv (nF e4)) rfl)) rfl)) ?_
 refine sF 22 (bV (!t21)) rfl rfl (fun e6 => (v_un rfl · · · (gv (nF e6)) (u_not rfl))) ?_
 refine sT 23 (bV ((!t13b) || (!t21))) rfl (v_pickB rfl · · · rfl (fun e7 => rfl) (fun e8 => (gv (nF e8))) (pO _ _)) ?_
 refine sq_nil ?_
 refine ht_cond rfl (fun e9 => ?_) (fun e9 => ?_)
 ·replace h := cpos e9 h
  refine sr ?_
  refine sT 24 (.d (.agg (eCell t0))) rfl (w_ldp (eCell t0) (eCell t0) rfl · · · ag26 rfl (ble _ _ rfl) rfl) ?_
  refine sq_cons _ (v_store_box (id := 6) (off := 0) (cs := (eCell t0).map V.d) rfl trivial rfl sz26 rfl rfl rfl rfl (ones_of rfl) (ble _ _ rfl)) ?_
  refine sM 7 (bV false) rfl rfl ?_
  refine sq_nil ?_
  refine ht_ret ?_
  cases h
  exact ret2 rfl (.cell rfl rfl ag26 (ble _ _ rfl) rfl) (.tmp rfl)
 replace h := cneg e9 h
 refine ht_skip ?_
 refine ht_seq ?_
 refine sr ?_
 refine sT 25 (.ptr 8 16) rfl (v_field_box (off := 0) (a0 := 16) rfl · · · fo45_11 rfl) ?_
 refine sT 26 (iV t13a.mClosed) rfl (v_load_box1 (id := 8) (off := 16) rfl · · · onT3 rfl rfl (ble _ _ rfl) rfl) ?_
 refine sM 27 (iV t2) rfl rfl ?_
 refine sT 28 (bV (leI t2 t13a.mClosed)) rfl (v_bin rfl · · · rfl rfl (b_geq rfl)) ?_
 refine sM 29 (bV (leI t2 t13a.mClosed)) rfl rfl ?_
 refine sF 30 (.ptr 8 4) rfl rfl (fun e10 => (v_field_box (off := 0) (a0 := 4) rfl · · · fo45_3 rfl)) ?_
 refine sF 31 (iV t13a.mPhase) rfl rfl (fun e11 => (v_load_box1 (id := 8) (off := 4) rfl · · · onT3 (gv (nF e11)) rfl (ble _ _ rfl) rfl)) ?_
 refine sF 32 (bV (eqI t13a.mPhase 2)) rfl rfl (fun e12 => (v_bin rfl · · · (gv (nF e12)) rfl (b_eql rfl))) ?_
 refine sF 33 (bV (eqI t13a.mPhase 2)) rfl rfl (fun e13 => (v_move (.inl rfl) · · · (gv (nF e13)))) ?_
 refine sI 34 (.ptr 8 15) rfl rfl (fun e14 e15 => (v_field_box (off := 0) (a0 := 15) rfl · · · fo45_10 rfl)) ?_
 refine sI 35 (iV t13a.mMove) rfl rfl (fun e16 e17 => (v_load_box1 (id := 8) (off := 15) rfl · · · onT3 (gv (aT e16 e17)) rfl (ble _ _ rfl) rfl)) ?_
 refine sI 36 (iV t2) rfl rfl (fun e18 e19 => (v_move (.inl rfl) · · · rfl)) ?_
 refine sI 37 (bV (!eqI t13a.mMove t2)) rfl rfl (fun e20 e21 => (v_bin rfl · · · (gv (aT e20 e21)) (gv (aT e20 e21)) (b_neq rfl))) ?_
 refine sF 38 (bV ((eqI t13a.mPhase 2) && (!eqI t13a.mMove t2))) rfl rfl (fun e22 => (v_pickB rfl · · · (gv (nF e22)) (fun e23 => (gv (aT (nF e22) e23))) (fun e24 => rfl) (pA _ _))) ?_
 refine sT 39 (bV ((leI t2 t13a.mClosed) || ((eqI t13a.mPhase 2) && (!eqI t13a.mMove t2)))) rfl (v_pickB rfl · · · rfl (fun e25 => rfl) (fun e26 => (gv (nF e26))) (pO _ _)) ?_
 refine sq_nil ?_
 refine ht_cond rfl (fun e27 => ?_) (fun e27 => ?_)
 ·replace h := cpos e27 h
  refine sr ?_
  refine sT 40 (.d (.agg (eCell t0))) rfl (w_ldp (eCell t0) (eCell t0) rfl · · · ag26 rfl (ble _ _ rfl) rfl) ?_
  refine sq_cons _ (v_store_box (id := 6) (off := 0) (cs := (eCell t0).map V.d) rfl trivial rfl sz26 rfl rfl rfl rfl (ones_of rfl) (ble _ _ rfl)) ?_
  refine sM 7 (bV true) rfl rfl ?_
  refine sq_nil ?_
  refine ht_ret ?_
  cases h
  exact ret2 rfl (.cell rfl rfl ag26 (ble _ _ rfl) rfl) (.tmp rfl)
 replace h := cneg e27 h
 refine ht_skip ?_
 refine sr ?_
 refine sM 41 (iV t2) rfl rfl ?_
 refine sT 42 (.ptr 8 16) rfl (v_field_box (off := 0) (a0 := 16) rfl · · · fo45_11 rfl) ?_
 refine sq_cons _ (v_store_box (id := 8) (off := 16) (cs := [(.s (.int .i64 t2))].map V.d) rfl trivial rfl sz3 rfl rfl rfl rfl (ones_of rfl) (ble _ _ rfl)) ?_
 refine sq_nil ?_
 refine ht_seq ?_
 refine sr ?_
 refine sT 43 (.d (.agg (eShard ({t13a with mClosed := t2})))) rfl (w_ldb 8 0 rfl · · · ag45 rfl rfl (ble _ _ rfl) rfl) ?_
 refine sM 44 (iV t2) rfl rfl ?_
 obtain ⟨t45, c28, h⟩ := bpos h
 refine sT 45 (bV t45) rfl (w_call (ds := [(.agg (eShard ({t13a with mClosed := t2}))), (.s (.int .i64 t2))]) (caps := []) (l := [(.s (.bool t45))]) (s94 k ({t13a with mClosed := t2}) t2 _ c28) rfl rfl rfl en94 · · · (.inl ⟨rfl, rfl⟩) rfl rfl) ?_
 refine sq_nil ?_
 refine ht_cond rfl (fun e29 => ?_) (fun e29 => ?_)
 ·replace h := cpos e29 h
  refine ht_region ?_
  refine sT 46 (.ptr 8 4) rfl (v_field_box (off := 0) (a0 := 4) rfl · · · fo45_3 rfl) ?_
  refine sq_cons _ (v_store_box (id := 8) (off := 4) (cs := [(.s (.int .i64 1))].map V.d) rfl trivial rfl sz3 rfl rfl rfl rfl (ones_of rfl) (ble _ _ rfl)) ?_
  refine sq_nil ?_
  refine sr ?_
  refine sT 47 (.d (.agg (eCell t0))) rfl (w_ldp (eCell t0) (eCell t0) rfl · · · ag26 rfl (ble _ _ rfl) rfl) ?_
  refine sT 48 (.d (.agg (eShard ({t13a with mPhase := 1, mClosed := t2})))) rfl (w_ldb 8 0 rfl · · · ag45 rfl rfl (ble _ _ rfl) rfl) ?_
  obtain ⟨t49, c30, h⟩ := bpos h
  refine sT 49 (.d (.agg (eCell t49))) rfl (w_call (ds := [(.agg (eCell t0)), (.agg (eShard ({t13a with mPhase := 1, mClosed := t2})))]) (caps := []) (l := [(.agg (eCell t49))]) (s95 k t0 ({t13a with mPhase := 1, mClosed := t2}) _ c30) rfl rfl rfl en95 · · · (.inl ⟨rfl, rfl⟩) rfl rfl) ?_
  refine sq_cons _ (v_store_box (id := 6) (off := 0) (cs := (eCell t49).map V.d) rfl trivial rfl sz26 rfl rfl rfl rfl (ones_of rfl) (ble _ _ rfl)) ?_
  refine sM 7 (bV true) rfl rfl ?_
  refine sq_nil ?_
  refine ht_ret ?_
  cases h
  exact ret2 rfl (.cell rfl rfl ag26 (ble _ _ rfl) rfl) (.tmp rfl)
 replace h := cneg e29 h
 refine ht_skip ?_
 refine sr ?_
 refine sT 47 (.d (.agg (eCell t0))) rfl (w_ldp (eCell t0) (eCell t0) rfl · · · ag26 rfl (ble _ _ rfl) rfl) ?_
 refine sT 48 (.d (.agg (eShard ({t13a with mClosed := t2})))) rfl (w_ldb 8 0 rfl · · · ag45 rfl rfl (ble _ _ rfl) rfl) ?_
 obtain ⟨t49_1, c31, h⟩ := bpos h
 refine sT 49 (.d (.agg (eCell t49_1))) rfl (w_call (ds := [(.agg (eCell t0)), (.agg (eShard ({t13a with mClosed := t2})))]) (caps := []) (l := [(.agg (eCell t49_1))]) (s95 k t0 ({t13a with mClosed := t2}) _ c31) rfl rfl rfl en95 · · · (.inl ⟨rfl, rfl⟩) rfl rfl) ?_
 refine sq_cons _ (v_store_box (id := 6) (off := 0) (cs := (eCell t49_1).map V.d) rfl trivial rfl sz26 rfl rfl rfl rfl (ones_of rfl) (ble _ _ rfl)) ?_
 refine sM 7 (bV true) rfl rfl ?_
 refine sq_nil ?_
 refine ht_ret ?_
 cases h
 exact ret2 rfl (.cell rfl rfl ag26 (ble _ _ rfl) rfl) (.tmp rfl)
theorem s47 (k : Nat) (t0 : Cell) (t1 : Int) (t2 : Int) (r : Cell × Bool) (h : F47 k t0 t1 t2 = some r) : Awp.Spec Tryz.prog amb 47 [(.agg (eCell t0)), (.s (.int .i64 t1)), (.s (.int .i64 t2))] (.ds [(.agg (eCell r.1)), (.s (.bool r.2))]) := by
 rw [F47] at h
 refine spec_of Tryz.func47 rfl (ble _ _ rfl) fun w0 ok0 lt0 hA => ?_
 refine sr ?_
 refine sq_cons _ (v_box (id := 3) (cs := (eCell t0).map V.d) rfl trivial rfl (ble _ _ rfl) rfl rfl (ones_of rfl) rfl) ?_
 refine sq_cons _ (v_alloc (id := 6) (cs := zc26) rfl trivial rfl (ble _ _ rfl) zu26 rfl ft26 rfl) ?_
 refine sM 7 (bV false) rfl rfl ?_
 refine sq_nil ?_
 refine ht_seq ?_
 refine sr ?_
 refine sT 8 (.d (.agg (eCell t0))) rfl (w_ldb 3 0 rfl · · · ag26 rfl rfl (ble _ _ rfl) rfl) ?_
 obtain ⟨t9, c1, h⟩ := bpos h
 refine sT 9 (bV t9) rfl (w_call (ds := [(.agg (eCell t0))]) (caps := []) (l := [(.s (.bool t9))]) (s25 k t0 _ c1) rfl rfl rfl en25 · · · (.inl ⟨rfl, rfl⟩) rfl rfl) ?_
 refine sT 10 (bV (!t9)) rfl (v_un rfl · · · rfl (u_not rfl)) ?_
 refine sM 11 (bV (!t9)) rfl rfl ?_
 refine sF 12 (iV t1) rfl rfl (fun e2 => (v_move (.inl rfl) · · · rfl)) ?_
 refine sF 13 (iV t2) rfl rfl (fun e3 => (v_move (.inl rfl) · · · rfl)) ?_
 refine sF 14 (.d (.sl 1 (([t1, t2]).map (eI .i64)))) rfl rfl (fun e4 => (w_bsl_d [(0, iV t1), (1, iV t2)] [t1, t2] (eI .i64) rfl · · · slT148 zr3 (encI .i64) (ble _ _ rfl) (cc (pr (gv (nF e4))) (cc (pr (gv (nF e4))) rfl)) (by kernel_rfl) rfl rfl (by kernel_rfl))) ?_
 obtain ⟨t15, c6, h⟩ := bpos h
 refine sF 15 (bV t15) rfl rfl (fun e5 => (w_call (ds := [(.s (.int .i64 1)), (.sl 1 (([t1, t2]).map (eI .i64)))]) (caps := []) (l := [(.s (.bool t15))]) (s57 k 1 ([t1, t2]) _ (cpos (nF e5) c6)) rfl rfl rfl en57 · · · (.inl ⟨rfl, rfl⟩) (cc rfl (cc (gv (nF e5)) rfl)) rfl)) ?_
 refine sF 16 (bV (!t15)) rfl rfl (fun e7 => (v_un rfl · · · (gv (nF e7)) (u_not rfl))) ?_
 refine sT 17 (bV ((!t9) || (!t15))) rfl (v_pickB rfl · · · rfl (fun e8 => rfl) (fun e9 => (gv (nF e9))) (pO _ _)) ?_
 refine sq_nil ?_
 refine ht_cond rfl (fun e10 => ?_) (fun e10 => ?_)
 ·replace h := cpos e10 h
  refine sr ?_
  refine sT 18 (.d (.agg (eCell t0))) rfl (w_ldb 3 0 rfl · · · ag26 rfl rfl (ble _ _ rfl) rfl) ?_
  refine sq_cons _ (v_store_box (id := 6) (off := 0) (cs := (eCell t0).map V.d) rfl trivial rfl sz26 rfl rfl rfl rfl (ones_of rfl) (ble _ _ rfl)) ?_
  refine sM 7 (bV false) rfl rfl ?_
  refine sq_nil ?_
  refine ht_ret ?_
  cases h
  exact ret2 rfl (.cell rfl rfl ag26 (ble _ _ rfl) rfl) (.tmp rfl)
 replace h := cneg e10 h
 refine ht_skip ?_
 refine ht_seq ?_
 refine sr ?_
 refine sT 19 (.d (.agg (eCell t0))) rfl (w_ldb 3 0 rfl · · · ag26 rfl rfl (ble _ _ rfl) rfl) ?_
 refine sM 20 (iV t1) rfl rfl ?_
 obtain ⟨t21, c11, h⟩ := bpos h
 refine sT 21 (.d (.agg (eShard t21))) rfl (w_call (ds := [(.agg (eCell t0)), (.s (.int .i64 t1))]) (caps := []) (l := [(.agg (eShard t21))]) (s60 k t0 t1 _ c11) rfl rfl rfl en60 · · · (.inl ⟨rfl, rfl⟩) rfl rfl) ?_
 refine sM 22 (iV t2) rfl rfl ?_
 obtain ⟨t23, c12, h⟩ := bpos h
 refine sT 23 (bV t23) rfl (w_call (ds := [(.agg (eShard t21)), (.s (.int .i64 t2))]) (caps := []) (l := [(.s (.bool t23))]) (s93 k t21 t2 _ c12) rfl rfl rfl en93 · · · (.inl ⟨rfl, rfl⟩) rfl rfl) ?_
 refine sq_nil ?_
 refine ht_cond rfl (fun e13 => ?_) (fun e13 => ?_)
 ·replace h := cpos e13 h
  refine ht_region ?_
  refine sT 24 (.d (.agg (eCell t0))) rfl (w_ldb 3 0 rfl · · · ag26 rfl rfl (ble _ _ rfl) rfl) ?_
  refine sM 25 (iV t1) rfl rfl ?_
  obtain ⟨t26, c14, h⟩ := bpos h
  refine sT 26 (.d (.agg (eCell t26))) rfl (w_call (ds := [(.agg (eCell t0)), (.s (.int .i64 t1))]) (caps := []) (l := [(.agg (eCell t26))]) (s105 k t0 t1 _ c14) rfl rfl rfl en105 · · · (.inl ⟨rfl, rfl⟩) rfl rfl) ?_
  refine sq_cons _ (v_store_box (id := 3) (off := 0) (cs := (eCell t26).map V.d) rfl trivial rfl sz26 rfl rfl rfl rfl (ones_of rfl) (ble _ _ rfl)) ?_
  refine sq_nil ?_
  refine sr ?_
  refine sT 27 (.ptr 3 4) rfl (v_field_box (off := 0) (a0 := 4) rfl · · · fo26_2 rfl) ?_
  refine sT 28 (iV t26.mDropped) rfl (v_load_box1 (id := 3) (off := 4) rfl · · · onT3 rfl rfl (ble _ _ rfl) rfl) ?_
  refine sM 29 (iV t2) rfl rfl ?_
  refine sT 30 (iV (maxI t26.mDropped t2)) rfl (v_bi2 rfl rfl · · · rfl rfl (r_max und3 rfl)) ?_
  refine sT 31 (.ptr 3 4) rfl (v_field_box (off := 0) (a0 := 4) rfl · · · fo26_2 rfl) ?_
  refine sq_cons _ (v_store_box (id := 3) (off := 4) (cs := [(.s (.int .i64 (maxI t26.mDropped t2)))].map V.d) rfl trivial rfl sz3 rfl rfl rfl rfl (ones_of rfl) (ble _ _ rfl)) ?_
  refine sq_nil ?_
  refine sr ?_
  refine sT 32 (.d (.agg (eCell ({t26 with mDropped := (maxI t26.mDropped t2)})))) rfl (w_ldb 3 0 rfl · · · ag26 rfl rfl (ble _ _ rfl) rfl) ?_
  refine sq_cons _ (v_store_box (id := 6) (off := 0) (cs := (eCell ({t26 with mDropped := (maxI t26.mDropped t2)})).map V.d) rfl trivial rfl sz26 rfl rfl rfl rfl (ones_of rfl) (ble _ _ rfl)) ?_
  refine sM 7 (bV true) rfl rfl ?_
  refine sq_nil ?_
  refine ht_ret ?_
  cases h
  exact ret2 rfl (.cell rfl rfl ag26 (ble _ _ rfl) rfl) (.tmp rfl)
 replace h := cneg e13 h
 refine ht_skip ?_
 refine sr ?_
 refine sT 27 (.ptr 3 4) rfl (v_field_box (off := 0) (a0 := 4) rfl · · · fo26_2 rfl) ?_
 refine sT 28 (iV t0.mDropped) rfl (v_load_box1 (id := 3) (off := 4) rfl · · · onT3 rfl rfl (ble _ _ rfl) rfl) ?_
 refine sM 29 (iV t2) rfl rfl ?_
 refine sT 30 (iV (maxI t0.mDropped t2)) rfl (v_bi2 rfl rfl · · · rfl rfl (r_max und3 rfl)) ?_
 refine sT 31 (.ptr 3 4) rfl (v_field_box (off := 0) (a0 := 4) rfl · · · fo26_2 rfl) ?_
 refine sq_cons _ (v_store_box (id := 3) (off := 4) (cs := [(.s (.int .i64 (maxI t0.mDropped t2)))].map V.d) rfl trivial rfl sz3 rfl rfl rfl rfl (ones_of rfl) (ble _ _ rfl)) ?_
 refine sq_nil ?_
 refine sr ?_
 refine sT 32 (.d (.agg (eCell ({t0 with mDropped := (maxI t0.mDropped t2)})))) rfl (w_ldb 3 0 rfl · · · ag26 rfl rfl (ble _ _ rfl) rfl) ?_
 refine sq_cons _ (v_store_box (id := 6) (off := 0) (cs := (eCell ({t0 with mDropped := (maxI t0.mDropped t2)})).map V.d) rfl trivial rfl sz26 rfl rfl rfl rfl (ones_of rfl) (ble _ _ rfl)) ?_
 refine sM 7 (bV true) rfl rfl ?_
 refine sq_nil ?_
 refine ht_ret ?_
 cases h
 exact ret2 rfl (.cell rfl rfl ag26 (ble _ _ rfl) rfl) (.tmp rfl)
theorem s9 (k : Nat) (t0 : Cell) (t1 : Int) (t2 : Int) (t3 : Int) (r : Bool) (h : F9 k t0 t1 t2 t3 = some r) : Awp.Spec Tryz.prog amb 9 [(.agg (eCell t0)), (.s (.int .i64 t1)), (.s (.int .i64 t2)), (.s (.int .i64 t3))] (.ds [(.s (.bool r))]) := by
 rw [F9] at h
 refine spec_of Tryz.func9 rfl (ble _ _ rfl) fun w0 ok0 lt0 hA => ?_
 refine sr ?_
 refine sT 4 (.d (.dp (eCell t0))) rfl (v_box_d (cs := (eCell t0)) rfl · · · rfl rfl (ones_of rfl)) ?_
 refine sM 8 (bV false) rfl rfl ?_
 refine sq_nil ?_
 refine ht_seq ?_
 refine sr ?_
 refine sT 14 (.d (.agg (eCell t0))) rfl (w_ldp (eCell t0) (eCell t0) rfl · · · ag26 rfl (ble _ _ rfl) rfl) ?_
 obtain ⟨t15, c1, h⟩ := bpos h
 refine sT 15 (bV t15) rfl (w_call (ds := [(.agg (eCell t0))]) (caps := []) (l := [(.s (.bool t15))]) (s14 k t0 _ c1) rfl rfl rfl en14 · · · (.inl ⟨rfl, rfl⟩) rfl rfl) ?_
 refine sT 16 (bV (!t15)) rfl (v_un rfl · · · rfl (u_not rfl)) ?_
 refine sq_nil ?_
 refine ht_cond rfl (fun e2 => ?_) (fun e2 => ?_)
 ·replace h := cpos e2 h
  refine sr ?_
  obtain ⟨t17, c3, h⟩ := bpos h
  refine sT 17 (bV t17) rfl (w_call (ds := []) (caps := []) (l := [(.s (.bool t17))]) (s15 k _ c3) rfl rfl rfl en15 · · · (.inl ⟨rfl, rfl⟩) rfl rfl) ?_
  refine sM 8 (bV t17) rfl rfl ?_
  refine sq_nil ?_
  refine ht_ret ?_
  cases h
  exact ret1 rfl (.tmp rfl)
 replace h := cneg e2 h
 refine ht_skip ?_
 refine ht_gj (go_id' h) (fun _ => tell []) (fun _ h => ?_) (fun v4 K5 h j7 r8 => ?_)
 ·refine sr ?_
  obtain ⟨t86, c36, h⟩ := bpos h
  refine sT 86 (bV t86) rfl (w_call (ds := []) (caps := []) (l := [(.s (.bool t86))]) (s15 k _ c36) rfl rfl rfl en15 · · · (.inl ⟨rfl, rfl⟩) rfl rfl) ?_
  refine sM 8 (bV t86) rfl rfl ?_
  refine sq_nil ?_
  refine ht_ret ?_
  cases h
  exact ret1 rfl (.tmp rfl)
 refine sr ?_
 refine sM 18 (iV 0) rfl rfl ?_
 refine sq_nil ?_
 refine ht_block ?_
 refine ht_rd h (fun _ => rfl) (fun t18 => tell [(.t 1, iV t1), (.t 2, iV t2), (.t 3, iV t3), (.t 4, .d (.dp (eCell t0))), (.t 18, iV t18)]) (wk_ren _ (fun i => i) rfl ⟨rfl, rfl, rfl, rfl, rfl, trivial⟩) fun k t18 h K35 j10 => ?_
 rw [F9_l1] at h
 refine sr ?_
 refine sT 19 (bV (ltI t18 5)) rfl (v_bin rfl · · · rfl rfl (b_lss rfl)) ?_
 refine sq_nil ?_
 refine ht_seq ?_
 refine ht_cond rfl (fun e12 => ?_) (fun e12 => ?_)
 ·replace h := cpos e12 h
  refine ht_skip ?_
  refine ht_seq ?_
  refine ht_block ?_
  refine sr ?_
  refine sM 20 (iV t18) rfl rfl ?_
  refine sM 9 (iV t18) rfl rfl ?_
  refine sq_nil ?_
  refine sr ?_
  refine sT 22 (.d (.agg (eCell t0))) rfl (w_ldp (eCell t0) (eCell t0) rfl · · · ag26 rfl (ble _ _ rfl) rfl) ?_
  refine sM 23 (iV t18) rfl rfl ?_
  refine sM 24 (iV t1) rfl rfl ?_
  refine sM 25 (iV t2) rfl rfl ?_
  refine sM 26 (iV t3) rfl rfl ?_
  obtain ⟨⟨t27a, t27b⟩, c13, h⟩ := bpos h
  refine sT 27 (.tup [.d (.agg (eCell t27a)), bV t27b]) rfl (w_call (ds := [(.agg (eCell t0)), (.s (.int .i64 t18)), (.s (.int .i64 t1)), (.s (.int .i64 t2)), (.s (.int .i64 t3))]) (caps := []) (l := [(.agg (eCell t27a)), (.s (.bool t27b))]) (s45 k t0 t18 t1 t2 t3 _ c13) rfl rfl rfl en45 · · · (.inl ⟨rfl, rfl⟩) rfl rfl) ?_
  refine sM 21 (.tup [.d (.agg (eCell t27a)), bV t27b]) rfl rfl ?_
  refine sT 28 (.d (.agg (eCell t27a))) rfl (v_extract rfl · · · rfl rfl) ?_
  refine sT 29 (bV t27b) rfl (v_extract rfl · · · rfl rfl) ?_
  refine sq_cons _ (v_alloc (id := 10) (cs := zc26) rfl trivial rfl (ble _ _ rfl) zu26 rfl ft26 rfl) ?_
  refine sq_cons _ (v_store_box (id := 10) (off := 0) (cs := (eCell t27a).map V.d) rfl trivial rfl sz26 rfl rfl rfl rfl (ones_of rfl) (ble _ _ rfl)) ?_
  refine sM 11 (bV t27b) rfl rfl ?_
  refine sq_nil ?_
  refine sr ?_
  refine sT 31 (.d (.agg (eCell t0))) rfl (w_ldp (eCell t0) (eCell t0) rfl · · · ag26 rfl (ble _ _ rfl) rfl) ?_
  refine sM 32 (iV t1) rfl rfl ?_
  refine sM 33 (iV t2) rfl rfl ?_
  refine sM 34 (iV t3) rfl rfl ?_
  obtain ⟨⟨t35a, t35b⟩, c14, h⟩ := bpos h
  refine sT 35 (.tup [.d (.agg (eCell t35a)), bV t35b]) rfl (w_call (ds := [(.agg (eCell t0)), (.s (.int .i64 t1)), (.s (.int .i64 t2)), (.s (.int .i64 t3))]) (caps := []) (l := [(.agg (eCell t35a)), (.s (.bool t35b))]) (s39 k t0 t1 t2 t3 _ c14) rfl rfl rfl en39 · · · (.inl ⟨rfl, rfl⟩) rfl rfl) ?_
  refine sM 30 (.tup [.d (.agg (eCell t35a)), bV t35b]) rfl rfl ?_
  refine sT 36 (.d (.agg (eCell t35a))) rfl (v_extract rfl · · · rfl rfl) ?_
  refine sT 37 (bV t35b) rfl (v_extract rfl · · · rfl rfl) ?_
  refine sq_cons _ (v_alloc (id := 12) (cs := zc26) rfl trivial rfl (ble _ _ rfl) zu26 rfl ft26 rfl) ?_
  refine sq_cons _ (v_store_box (id := 12) (off := 0) (cs := (eCell t35a).map V.d) rfl trivial rfl sz26 rfl rfl rfl rfl (ones_of rfl) (ble _ _ rfl)) ?_
  refine sM 13 (bV t35b) rfl rfl ?_
  refine sq_nil ?_
  refine ht_bj h (fun (t13, t12c0, t12c1, t12c2, t12c3, t12c4) => tell [(.b 10, .box false 5), (.b 12, .box false 5), (.c 10 0, .d (.sl 17 (t27a.mShards.map eShard))), (.c 10 1, iV t27a.mTop.mWall), (.c 10 2, iV t27a.mTop.mTick), (.c 10 3, iV t27a.mTop.mNode), (.c 10 4, iV t27a.mDropped), (.c 12 0, .d (.sl 17 (t12c0.map eShard))), (.c 12 1, iV t12c1), (.c 12 2, iV t12c2), (.c 12 3, iV t12c3), (.c 12 4, iV t12c4), (.t 1, iV t1), (.t 2, iV t2), (.t 3, iV t3), (.t 4, .d (.dp (eCell t0))), (.t 10, .ptr 10 0), (.t 11, bV t27b), (.t 12, .ptr 12 0), (.t 13, bV t13), (.t 18, iV t18)]) (fun v15 h => ?_) (fun v15 K16 h j18 => ?_)
  ·obtain ⟨t13, t12c0, t12c1, t12c2, t12c3, t12c4⟩ := v15
   refine sr ?_
   refine sT 76 (.d (.agg (eCell (⟨t12c0, (⟨t12c1, t12c2, t12c3⟩ : Stamp), t12c4⟩ : Cell)))) rfl (w_ldb 12 0 rfl · · · ag26 rfl rfl (ble _ _ rfl) rfl) ?_
   refine sT 77 (.d (.agg (eCell t27a))) rfl (w_ldb 10 0 rfl · · · ag26 rfl rfl (ble _ _ rfl) rfl) ?_
   obtain ⟨t78, c28, h⟩ := bpos h
   refine sT 78 (bV t78) rfl (w_call (ds := [(.agg (eCell (⟨t12c0, (⟨t12c1, t12c2, t12c3⟩ : Stamp), t12c4⟩ : Cell))), (.agg (eCell t27a))]) (caps := []) (l := [(.s (.bool t78))]) (s18 k (⟨t12c0, (⟨t12c1, t12c2, t12c3⟩ : Stamp), t12c4⟩ : Cell) t27a _ c28) rfl rfl rfl en18 · · · (.inl ⟨rfl, rfl⟩) rfl rfl) ?_
   refine sT 79 (bV (!t78)) rfl (v_un rfl · · · rfl (u_not rfl)) ?_
   refine sM 80 (bV (!t78)) rfl rfl ?_
   refine sF 81 (bV t13) rfl rfl (fun e29 => (v_move (.inl rfl) · · · rfl)) ?_
   refine sF 82 (bV t27b) rfl rfl (fun e30 => (v_move (.inl rfl) · · · rfl)) ?_
   refine sF 83 (bV (!(t13 == t27b))) rfl rfl (fun e31 => (v_bin rfl · · · (gv (nF e31)) (gv (nF e31)) (b_neB und4 rfl))) ?_
   refine sT 84 (bV ((!t78) || (!(t13 == t27b)))) rfl (v_pickB rfl · · · rfl (fun e32 => rfl) (fun e33 => (gv (nF e33))) (pO _ _)) ?_
   refine sq_nil ?_
   refine ht_cond rfl (fun e34 => ?_) (fun e34 => ?_)
   ·replace h := cpos e34 h
    refine sr ?_
    refine sM 8 (bV false) rfl rfl ?_
    refine sq_nil ?_
    refine ht_ret ?_
    cases h
    cases r8 _ rfl
    exact ret1 rfl (.tmp rfl)
   replace h := cneg e34 h
   refine ht_skip ?_
   refine ht_region ?_
   refine sT 85 (iV (IntKind.wrap .i64 (t18 + 1))) rfl (v_bin rfl · · · rfl rfl (b_add rfl)) ?_
   refine sM 18 (iV (IntKind.wrap .i64 (t18 + 1))) rfl rfl ?_
   refine sq_nil ?_
   exact j10 _ _ h (wk_ren _ (fun i => i) rfl ⟨rfl, rfl, rfl, rfl, rfl, trivial⟩)
  refine sr ?_
  refine sM 38 (iV t18) rfl rfl ?_
  refine sq_nil ?_
  refine ht_block ?_
  refine sr ?_
  refine sT 40 (bV (eqI t18 1)) rfl (v_bin rfl · · · rfl rfl (b_eql rfl)) ?_
  refine sM 39 (bV (eqI t18 1)) rfl rfl ?_
  refine sq_nil ?_
  refine ht_cond rfl (fun e20 => ?_) (fun e20 => ?_)
  ·replace h := cpos e20 h
   refine ht_region ?_
   refine sT 42 (.d (.agg (eCell t0))) rfl (w_ldp (eCell t0) (eCell t0) rfl · · · ag26 rfl (ble _ _ rfl) rfl) ?_
   refine sM 43 (iV t1) rfl rfl ?_
   refine sM 44 (iV t3) rfl rfl ?_
   obtain ⟨⟨t45a, t45b⟩, c21, h⟩ := bpos h
   refine sT 45 (.tup [.d (.agg (eCell t45a)), bV t45b]) rfl (w_call (ds := [(.agg (eCell t0)), (.s (.int .i64 t1)), (.s (.int .i64 t3))]) (caps := []) (l := [(.agg (eCell t45a)), (.s (.bool t45b))]) (s46 k t0 t1 t3 _ c21) rfl rfl rfl en46 · · · (.inl ⟨rfl, rfl⟩) rfl rfl) ?_
   refine sM 41 (.tup [.d (.agg (eCell t45a)), bV t45b]) rfl rfl ?_
   refine sT 46 (.d (.agg (eCell t45a))) rfl (v_extract rfl · · · rfl rfl) ?_
   refine sT 47 (bV t45b) rfl (v_extract rfl · · · rfl rfl) ?_
   refine sq_cons _ (v_store_box (id := 12) (off := 0) (cs := (eCell t45a).map V.d) rfl trivial rfl sz26 rfl rfl rfl rfl (ones_of rfl) (ble _ _ rfl)) ?_
   refine sM 13 (bV t45b) rfl rfl ?_
   refine sq_nil ?_
   cases h
   exact j18 _ (wk_ren _ (fun i => i) rfl ⟨rfl, rfl, rfl, rfl, rfl, rfl, rfl, rfl, rfl, rfl, rfl, rfl, rfl, rfl, rfl, rfl, rfl, rfl, rfl, rfl, rfl, trivial⟩)
  replace h := cneg e20 h
  refine sr ?_
  refine sT 49 (bV (eqI t18 2)) rfl (v_bin rfl · · · rfl rfl (b_eql rfl)) ?_
  refine sM 48 (bV (eqI t18 2)) rfl rfl ?_
  refine sq_nil ?_
  refine ht_cond rfl (fun e22 => ?_) (fun e22 => ?_)
  ·replace h := cpos e22 h
   refine ht_region ?_
   refine sT 51 (.d (.agg (eCell t0))) rfl (w_ldp (eCell t0) (eCell t0) rfl · · · ag26 rfl (ble _ _ rfl) rfl) ?_
   refine sM 52 (iV t1) rfl rfl ?_
   refine sM 53 (iV t3) rfl rfl ?_
   obtain ⟨⟨t54a, t54b⟩, c23, h⟩ := bpos h
   refine sT 54 (.tup [.d (.agg (eCell t54a)), bV t54b]) rfl (w_call (ds := [(.agg (eCell t0)), (.s (.int .i64 t1)), (.s (.int .i64 t3))]) (caps := []) (l := [(.agg (eCell t54a)), (.s (.bool t54b))]) (s44 k t0 t1 t3 _ c23) rfl rfl rfl en44 · · · (.inl ⟨rfl, rfl⟩) rfl rfl) ?_
   refine sM 50 (.tup [.d (.agg (eCell t54a)), bV t54b]) rfl rfl ?_
   refine sT 55 (.d (.agg (eCell t54a))) rfl (v_extract rfl · · · rfl rfl) ?_
   refine sT 56 (bV t54b) rfl (v_extract rfl · · · rfl rfl) ?_
   refine sq_cons _ (v_store_box (id := 12) (off := 0) (cs := (eCell t54a).map V.d) rfl trivial rfl sz26 rfl rfl rfl rfl (ones_of rfl) (ble _ _ rfl)) ?_
   refine sM 13 (bV t54b) rfl rfl ?_
   refine sq_nil ?_
   cases h
   exact j18 _ (wk_ren _ (fun i => i) rfl ⟨rfl, rfl, rfl, rfl, rfl, rfl, rfl, rfl, rfl, rfl, rfl, rfl, rfl, rfl, rfl, rfl, rfl, rfl, rfl, rfl, rfl, trivial⟩)
  replace h := cneg e22 h
  refine sr ?_
  refine sT 58 (bV (eqI t18 3)) rfl (v_bin rfl · · · rfl rfl (b_eql rfl)) ?_
  refine sM 57 (bV (eqI t18 3)) rfl rfl ?_
  refine sq_nil ?_
  refine ht_cond rfl (fun e24 => ?_) (fun e24 => ?_)
  ·replace h := cpos e24 h
   refine ht_region ?_
   refine sT 60 (.d (.agg (eCell t0))) rfl (w_ldp (eCell t0) (eCell t0) rfl · · · ag26 rfl (ble _ _ rfl) rfl) ?_
   refine sM 61 (iV t1) rfl rfl ?_
   refine sM 62 (iV t3) rfl rfl ?_
   refine sM 63 (iV t2) rfl rfl ?_
   obtain ⟨⟨t64a, t64b⟩, c25, h⟩ := bpos h
   refine sT 64 (.tup [.d (.agg (eCell t64a)), bV t64b]) rfl (w_call (ds := [(.agg (eCell t0)), (.s (.int .i64 t1)), (.s (.int .i64 t3)), (.s (.int .i64 t2))]) (caps := []) (l := [(.agg (eCell t64a)), (.s (.bool t64b))]) (s43 k t0 t1 t3 t2 _ c25) rfl rfl rfl en43 · · · (.inl ⟨rfl, rfl⟩) rfl rfl) ?_
   refine sM 59 (.tup [.d (.agg (eCell t64a)), bV t64b]) rfl rfl ?_
   refine sT 65 (.d (.agg (eCell t64a))) rfl (v_extract rfl · · · rfl rfl) ?_
   refine sT 66 (bV t64b) rfl (v_extract rfl · · · rfl rfl) ?_
   refine sq_cons _ (v_store_box (id := 12) (off := 0) (cs := (eCell t64a).map V.d) rfl trivial rfl sz26 rfl rfl rfl rfl (ones_of rfl) (ble _ _ rfl)) ?_
   refine sM 13 (bV t64b) rfl rfl ?_
   refine sq_nil ?_
   cases h
   exact j18 _ (wk_ren _ (fun i => i) rfl ⟨rfl, rfl, rfl, rfl, rfl, rfl, rfl, rfl, rfl, rfl, rfl, rfl, rfl, rfl, rfl, rfl, rfl, rfl, rfl, rfl, rfl, trivial⟩)
  replace h := cneg e24 h
  refine sr ?_
  refine sT 68 (bV (eqI t18 4)) rfl (v_bin rfl · · · rfl rfl (b_eql rfl)) ?_
  refine sM 67 (bV (eqI t18 4)) rfl rfl ?_
  refine sq_nil ?_
  refine ht_cond rfl (fun e26 => ?_) (fun e26 => ?_)
  ·replace h := cpos e26 h
   refine ht_region ?_
   refine sT 70 (.d (.agg (eCell t0))) rfl (w_ldp (eCell t0) (eCell t0) rfl · · · ag26 rfl (ble _ _ rfl) rfl) ?_
   refine sM 71 (iV t1) rfl rfl ?_
   refine sM 72 (iV t3) rfl rfl ?_
   obtain ⟨⟨t73a, t73b⟩, c27, h⟩ := bpos h
   refine sT 73 (.tup [.d (.agg (eCell t73a)), bV t73b]) rfl (w_call (ds := [(.agg (eCell t0)), (.s (.int .i64 t1)), (.s (.int .i64 t3))]) (caps := []) (l := [(.agg (eCell t73a)), (.s (.bool t73b))]) (s47 k t0 t1 t3 _ c27) rfl rfl rfl en47 · · · (.inl ⟨rfl, rfl⟩) rfl rfl) ?_
   refine sM 69 (.tup [.d (.agg (eCell t73a)), bV t73b]) rfl rfl ?_
   refine sT 74 (.d (.agg (eCell t73a))) rfl (v_extract rfl · · · rfl rfl) ?_
   refine sT 75 (bV t73b) rfl (v_extract rfl · · · rfl rfl) ?_
   refine sq_cons _ (v_store_box (id := 12) (off := 0) (cs := (eCell t73a).map V.d) rfl trivial rfl sz26 rfl rfl rfl rfl (ones_of rfl) (ble _ _ rfl)) ?_
   refine sM 13 (bV t73b) rfl rfl ?_
   refine sq_nil ?_
   cases h
   exact j18 _ (wk_ren _ (fun i => i) rfl ⟨rfl, rfl, rfl, rfl, rfl, rfl, rfl, rfl, rfl, rfl, rfl, rfl, rfl, rfl, rfl, rfl, rfl, rfl, rfl, rfl, rfl, trivial⟩)
  replace h := cneg e26 h
  refine ht_skip ?_
  cases h
  exact j18 _ (wk_ren _ (fun i => i) rfl ⟨rfl, rfl, rfl, rfl, rfl, rfl, rfl, rfl, rfl, rfl, rfl, rfl, rfl, rfl, rfl, rfl, rfl, rfl, rfl, rfl, rfl, trivial⟩)
 replace h := cneg e12 h
 refine ht_exit ?_
 refine tq ?_
 refine tq ?_
 refine bq_hit ?_
 cases h
 exact j7 _ _ rfl (wk_ren _ (fun i => i) rfl trivial)
end Go.Proofs.Gd
set_option linter.unusedVariables false
namespace Go.Proofs.Gd
open Go Go.Awp Go.Proofs
theorem dc3 : Dc Tryz.prog 3 1 (eI .i64) := dcInt Tryz.underlying3 (by kernel_rfl)
theorem dc9 : Dc Tryz.prog 9 1 eS := dcStr Tryz.underlying9 (by kernel_rfl)
theorem dc41 : Dc Tryz.prog 41 2 eSpan := ⟨by kernel_rfl, fun enc W sp held fuel cs x hx => by
  obtain ⟨xs, n, _, _, hl, hxl, hf⟩ := DataW.trod_struct Tryz.underlying41 hx
  obtain ⟨a0, h0⟩ := field_some hxl hf (i := 0) (T := 9) (o := 0) rfl dc9
  obtain ⟨a1, h1⟩ := field_some hxl hf (i := 1) (T := 9) (o := 1) rfl dc9
  refine ⟨⟨a0, a1⟩, ?_⟩
  show RepC W cs ((eS a0) ++ ((eS a1) ++ ([])))
  exact repC_all (repC_glue h0 rfl (repC_glue h1 rfl (repC_end (hl.trans (by kernel_rfl)))))⟩
theorem dc24 : Dc Tryz.prog 24 3 eStamp := ⟨by kernel_rfl, fun enc W sp held fuel cs x hx => by
  obtain ⟨xs, n, _, _, hl, hxl, hf⟩ := DataW.trod_struct Tryz.underlying24 hx
  obtain ⟨a0, h0⟩ := field_some hxl hf (i := 0) (T := 3) (o := 0) rfl dc3
  obtain ⟨a1, h1⟩ := field_some hxl hf (i := 1) (T := 3) (o := 1) rfl dc3
  obtain ⟨a2, h2⟩ := field_some hxl hf (i := 2) (T := 3) (o := 2) rfl dc3
  refine ⟨⟨a0, a1, a2⟩, ?_⟩
  show RepC W cs ((eI .i64 a0) ++ ((eI .i64 a1) ++ ((eI .i64 a2) ++ ([]))))
  exact repC_all (repC_glue h0 rfl (repC_glue h1 rfl (repC_glue h2 rfl (repC_end (hl.trans (by kernel_rfl))))))⟩
theorem dc4 : Dc Tryz.prog 4 1 eB := dcBool Tryz.underlying4 (by kernel_rfl)
theorem dc93 : Dc Tryz.prog 93 5 eVersion := ⟨by kernel_rfl, fun enc W sp held fuel cs x hx => by
  obtain ⟨xs, n, _, _, hl, hxl, hf⟩ := DataW.trod_struct Tryz.underlying93 hx
  obtain ⟨a0, h0⟩ := field_some hxl hf (i := 0) (T := 24) (o := 0) rfl dc24
  obtain ⟨a1, h1⟩ := field_some hxl hf (i := 1) (T := 4) (o := 3) rfl dc4
  obtain ⟨a2, h2⟩ := field_some hxl hf (i := 2) (T := 9) (o := 4) rfl dc9
  refine ⟨⟨a0, a1, a2⟩, ?_⟩
  show RepC W cs ((eStamp a0) ++ ((eB a1) ++ ((eS a2) ++ ([]))))
  exact repC_all (repC_glue h0 rfl (repC_glue h1 rfl (repC_glue h2 rfl (repC_end (hl.trans (by kernel_rfl))))))⟩
theorem dc96 : Dc Tryz.prog 96 1 (eL 5 eVersion) := dcSlice Tryz.underlying96 (by kernel_rfl) (ble _ _ rfl) dc93 teVersion
theorem dc116 : Dc Tryz.prog 116 2 eEntry := ⟨by kernel_rfl, fun enc W sp held fuel cs x hx => by
  obtain ⟨xs, n, _, _, hl, hxl, hf⟩ := DataW.trod_struct Tryz.underlying116 hx
  obtain ⟨a0, h0⟩ := field_some hxl hf (i := 0) (T := 9) (o := 0) rfl dc9
  obtain ⟨a1, h1⟩ := field_some hxl hf (i := 1) (T := 96) (o := 1) rfl dc96
  refine ⟨⟨a0, a1⟩, ?_⟩
  show RepC W cs ((eS a0) ++ ((eL 5 eVersion a1) ++ ([])))
  exact repC_all (repC_glue h0 rfl (repC_glue h1 rfl (repC_end (hl.trans (by kernel_rfl)))))⟩
theorem dc42 : Dc Tryz.prog 42 1 (eL 2 eEntry) := dcSlice Tryz.underlying42 (by kernel_rfl) (ble _ _ rfl) dc116 teEntry
theorem dc31 : Dc Tryz.prog 31 1 (eI .i64) := dcInt Tryz.underlying31 (by kernel_rfl)
theorem dc110 : Dc Tryz.prog 110 2 eItem := ⟨by kernel_rfl, fun enc W sp held fuel cs x hx => by
  obtain ⟨xs, n, _, _, hl, hxl, hf⟩ := DataW.trod_struct Tryz.underlying110 hx
  obtain ⟨a0, h0⟩ := field_some hxl hf (i := 0) (T := 9) (o := 0) rfl dc9
  obtain ⟨a1, h1⟩ := field_some hxl hf (i := 1) (T := 9) (o := 1) rfl dc9
  refine ⟨⟨a0, a1⟩, ?_⟩
  show RepC W cs ((eS a0) ++ ((eS a1) ++ ([])))
  exact repC_all (repC_glue h0 rfl (repC_glue h1 rfl (repC_end (hl.trans (by kernel_rfl)))))⟩
theorem dc32 : Dc Tryz.prog 32 1 (eL 2 eItem) := dcSlice Tryz.underlying32 (by kernel_rfl) (ble _ _ rfl) dc110 teItem
theorem dc34 : Dc Tryz.prog 34 9 eAnswer := ⟨by kernel_rfl, fun enc W sp held fuel cs x hx => by
  obtain ⟨xs, n, _, _, hl, hxl, hf⟩ := DataW.trod_struct Tryz.underlying34 hx
  obtain ⟨a0, h0⟩ := field_some hxl hf (i := 0) (T := 31) (o := 0) rfl dc31
  obtain ⟨a1, h1⟩ := field_some hxl hf (i := 1) (T := 24) (o := 1) rfl dc24
  obtain ⟨a2, h2⟩ := field_some hxl hf (i := 2) (T := 4) (o := 4) rfl dc4
  obtain ⟨a3, h3⟩ := field_some hxl hf (i := 3) (T := 9) (o := 5) rfl dc9
  obtain ⟨a4, h4⟩ := field_some hxl hf (i := 4) (T := 32) (o := 6) rfl dc32
  obtain ⟨a5, h5⟩ := field_some hxl hf (i := 5) (T := 9) (o := 7) rfl dc9
  obtain ⟨a6, h6⟩ := field_some hxl hf (i := 6) (T := 4) (o := 8) rfl dc4
  refine ⟨⟨a0, a1, a2, a3, a4, a5, a6⟩, ?_⟩
  show RepC W cs ((eI .i64 a0) ++ ((eStamp a1) ++ ((eB a2) ++ ((eS a3) ++ ((eL 2 eItem a4) ++ ((eS a5) ++ ((eB a6) ++ ([]))))))))
  exact repC_all (repC_glue h0 rfl (repC_glue h1 rfl (repC_glue h2 rfl (repC_glue h3 rfl (repC_glue h4 rfl (repC_glue h5 rfl (repC_glue h6 rfl (repC_end (hl.trans (by kernel_rfl))))))))))⟩
theorem dc100 : Dc Tryz.prog 100 11 eDone := ⟨by kernel_rfl, fun enc W sp held fuel cs x hx => by
  obtain ⟨xs, n, _, _, hl, hxl, hf⟩ := DataW.trod_struct Tryz.underlying100 hx
  obtain ⟨a0, h0⟩ := field_some hxl hf (i := 0) (T := 3) (o := 0) rfl dc3
  obtain ⟨a1, h1⟩ := field_some hxl hf (i := 1) (T := 3) (o := 1) rfl dc3
  obtain ⟨a2, h2⟩ := field_some hxl hf (i := 2) (T := 34) (o := 2) rfl dc34
  refine ⟨⟨a0, a1, a2⟩, ?_⟩
  show RepC W cs ((eI .i64 a0) ++ ((eI .i64 a1) ++ ((eAnswer a2) ++ ([]))))
  exact repC_all (repC_glue h0 rfl (repC_glue h1 rfl (repC_glue h2 rfl (repC_end (hl.trans (by kernel_rfl))))))⟩
theorem dc43 : Dc Tryz.prog 43 1 (eL 11 eDone) := dcSlice Tryz.underlying43 (by kernel_rfl) (ble _ _ rfl) dc100 teDone
theorem dc45 : Dc Tryz.prog 45 17 eShard := ⟨by kernel_rfl, fun enc W sp held fuel cs x hx => by
  obtain ⟨xs, n, _, _, hl, hxl, hf⟩ := DataW.trod_struct Tryz.underlying45 hx
  obtain ⟨a0, h0⟩ := field_some hxl hf (i := 0) (T := 3) (o := 0) rfl dc3
  obtain ⟨a1, h1⟩ := field_some hxl hf (i := 1) (T := 3) (o := 1) rfl dc3
  obtain ⟨a2, h2⟩ := field_some hxl hf (i := 2) (T := 41) (o := 2) rfl dc41
  obtain ⟨a3, h3⟩ := field_some hxl hf (i := 3) (T := 3) (o := 4) rfl dc3
  obtain ⟨a4, h4⟩ := field_some hxl hf (i := 4) (T := 42) (o := 5) rfl dc42
  obtain ⟨a5, h5⟩ := field_some hxl hf (i := 5) (T := 24) (o := 6) rfl dc24
  obtain ⟨a6, h6⟩ := field_some hxl hf (i := 6) (T := 24) (o := 9) rfl dc24
  obtain ⟨a7, h7⟩ := field_some hxl hf (i := 7) (T := 43) (o := 12) rfl dc43
  obtain ⟨a8, h8⟩ := field_some hxl hf (i := 8) (T := 3) (o := 13) rfl dc3
  obtain ⟨a9, h9⟩ := field_some hxl hf (i := 9) (T := 3) (o := 14) rfl dc3
  obtain ⟨a10, h10⟩ := field_some hxl hf (i := 10) (T := 3) (o := 15) rfl dc3
  obtain ⟨a11, h11⟩ := field_some hxl hf (i := 11) (T := 3) (o := 16) rfl dc3
  refine ⟨⟨a0, a1, a2, a3, a4, a5, a6, a7, a8, a9, a10, a11⟩, ?_⟩
  show RepC W cs ((eI .i64 a0) ++ ((eI .i64 a1) ++ ((eSpan a2) ++ ((eI .i64 a3) ++ ((eL 2 eEntry a4) ++ ((eStamp a5) ++ ((eStamp a6) ++ ((eL 11 eDone a7) ++ ((eI .i64 a8) ++ ((eI .i64 a9) ++ ((eI .i64 a10) ++ ((eI .i64 a11) ++ ([])))))))))))))
  exact repC_all (repC_glue h0 rfl (repC_glue h1 rfl (repC_glue h2 rfl (repC_glue h3 rfl (repC_glue h4 rfl (repC_glue h5 rfl (repC_glue h6 rfl (repC_glue h7 rfl (repC_glue h8 rfl (repC_glue h9 rfl (repC_glue h10 rfl (repC_glue h11 rfl (repC_end (hl.trans (by kernel_rfl)))))))))))))))⟩
theorem dc22 : Dc Tryz.prog 22 1 (eL 17 eShard) := dcSlice Tryz.underlying22 (by kernel_rfl) (ble _ _ rfl) dc45 teShard
theorem dc26 : Dc Tryz.prog 26 5 eCell := ⟨by kernel_rfl, fun enc W sp held fuel cs x hx => by
  obtain ⟨xs, n, _, _, hl, hxl, hf⟩ := DataW.trod_struct Tryz.underlying26 hx
  obtain ⟨a0, h0⟩ := field_some hxl hf (i := 0) (T := 22) (o := 0) rfl dc22
  obtain ⟨a1, h1⟩ := field_some hxl hf (i := 1) (T := 24) (o := 1) rfl dc24
  obtain ⟨a2, h2⟩ := field_some hxl hf (i := 2) (T := 3) (o := 4) rfl dc3
  refine ⟨⟨a0, a1, a2⟩, ?_⟩
  show RepC W cs ((eL 17 eShard a0) ++ ((eStamp a1) ++ ((eI .i64 a2) ++ ([]))))
  exact repC_all (repC_glue h0 rfl (repC_glue h1 rfl (repC_glue h2 rfl (repC_end (hl.trans (by kernel_rfl))))))⟩
end Go.Proofs.Gd
set_option linter.unusedVariables false
set_option linter.unusedSimpArgs false
namespace Go.Proofs.Gd
open Go Go.Awp
theorem T153 (s : ByteArray) : Ev (fun k => F153 k s) (decR s, decN s) := by
  refine Ev.from 0 fun k => ?_
  show F153 k s = _
  unfold F153 F174
  rw [strEq_nil]
  by_cases h : s.size = 0
  · simp [h]
  · have h0 : inR 0 s.size = true := by rw [inR_iff]; omega
    rw [decide_eq_false h]
    simp only [h0, Bool.not_false, Bool.not_true, Bool.false_or, Bool.true_and, cond_true]
    cases ha : ltI (bt s 0) 128 with
    | true => simp only [cond_true]; rw [dec_ascii s (by omega) (ltI_iff.1 ha)]
    | false => rfl
theorem L163 (t : ByteArray) (n : Nat) (hn : n ≤ t.size) (h4 : n ≤ 4) : ∀ (m i : Nat) (r : Int), i + m = n → 0 ≤ r → r ≤ ((1000 * 100 ^ i : Nat) : Int) → Ev (fun k => F163_l1 t n k (r, i)) (contL t m i r)
  | 0, i, r, hi, h0, h1 => by
    refine Ev.from 1 fun k => ?_
    show F163_l1 t n (k + 1) (r, (i : Int)) = _
    rw [F163_l1, ltI_nat, decide_eq_false (by omega)]
    rfl
  | m + 1, i, r, hi, h0, h1 => by
    have hp : 100 ^ i ≤ 100 ^ 4 := Nat.pow_le_pow_right (by omega) (by omega)
    have hp1 : 1 ≤ 100 ^ i := Nat.one_le_pow _ _ (by omega)
    have hb := bt_range t (i : Int)
    refine Ev.succ (fun k => by rw [F163_l1]) ?_
    rw [ltI_nat, decide_eq_true (by omega), inR_mk (by omega : i < t.size), contL]
    simp only [Bool.not_true, Bool.or_true, cond_true]
    refine Ev.cond (fun hc => ?_) fun hc => ?_
    · rw [hc]; exact Ev.of fun _ => rfl
    · rw [hc]
      simp only [cond_false]
      rw [i64z (n := bt t (i : Int)) (by omega), i64z (n := 64 * r) (by omega), i64z (n := 64 * r + bt t (i : Int)) (by omega)]
      unfold bnd
      rw [i64z (n := (i : Int) + 1) (by omega)]
      have hc' : 128 ≤ bt t (i : Int) := by
        rw [Bool.or_eq_false_iff, ltI_false] at hc; omega
      show Ev (fun k => F163_l1 t n k (IntKind.wrap .i64 (64 * r + bt t (i : Int) - 128), (i : Int) + 1)) _
      rw [i64z (n := 64 * r + bt t (i : Int) - 128) (by omega)]
      exact L163 t n hn h4 m (i + 1) (64 * r + bt t (i : Int) - 128) (by omega) (by omega) (by rw [Nat.pow_succ]; omega)
theorem T163 (t : ByteArray) (h : 0 < t.size) : Ev (fun k => F163 k t) (letter t) := by
  rw [← letter_eq t h]
  have hb := bt_range t 0
  have h0 : inR 0 t.size = true := by rw [inR_iff]; omega
  have key : ∀ (r : Int) (n : Nat) (lo : Int), 0 ≤ r → r ≤ 1000 → n ≤ 4 → Ev (fun k => bif ((eqI (n : Int) 0) || (ltI (t.size : Int) n)) then (some ((-1), 1)) else ((F163_l1 t n k (r, 1)).bind fun t => t.go fun t4_1 => bif (((ltI t4_1 lo) || (ltI 1114111 t4_1)) || ((leI 55296 t4_1) && (ltI t4_1 57344))) then (some ((-1), 1)) else (some (t4_1, (n : Int))))) (tailL t r n lo) := by
    intro r n lo g0 g1 g2
    refine Ev.cond (fun hc => ?_) fun hc => ?_
    · unfold tailL
      rw [Bool.or_eq_true, eqI_iff, ltI_iff] at hc
      rw [if_pos (by omega)]
      exact Ev.of fun _ => rfl
    · rw [Bool.or_eq_false_iff, eqI_false, ltI_false] at hc
      unfold tailL
      rw [if_neg (by omega)]
      have := L163 t n (by omega) g2 (n - 1) 1 r (by omega) g0 (by omega)
      refine Ev.bind this ?_
      cases contL t (n - 1) 1 r with
      | ret x => exact Ev.of fun _ => rfl
      | out r =>
        refine Ev.of fun _ => ?_
        show (bif (((ltI r lo) || (ltI 1114111 r)) || ((leI 55296 r) && (ltI r 57344))) then some ((-1 : Int), (1 : Int)) else some (r, (n : Int))) = some (if r < lo ∨ 1114111 < r ∨ (55296 ≤ r ∧ r < 57344) then ((-1 : Int), (1 : Int)) else (r, (n : Int)))
        by_cases hv : r < lo ∨ 1114111 < r ∨ (55296 ≤ r ∧ r < 57344)
        · rw [if_pos hv]
          have : (((ltI r lo) || (ltI 1114111 r)) || ((leI 55296 r) && (ltI r 57344))) = true := by simp only [Bool.or_eq_true, Bool.and_eq_true, ltI_iff, leI_iff]; omega
          rw [this]; rfl
        · rw [if_neg hv]
          have : (((ltI r lo) || (ltI 1114111 r)) || ((leI 55296 r) && (ltI r 57344))) = false := by
            rw [Bool.eq_false_iff]
            intro h
            simp only [Bool.or_eq_true, Bool.and_eq_true, ltI_iff, leI_iff] at h
            omega
          rw [this]; rfl
  have hw : IntKind.wrap .i64 (bt t 0) = bt t 0 := i64z (by omega)
  unfold letter0
  have b2 : ∀ {a b c : Int}, a ≤ b → b < c → (leI a b && ltI b c) = true := fun h1 h2 => by rw [leI_iff.2 h1, ltI_iff.2 h2]; rfl
  have b3 : ∀ {a b c : Int}, ¬ (a ≤ b ∧ b < c) → (leI a b && ltI b c) = false := fun h => by
    rw [Bool.eq_false_iff]; intro hh; rw [Bool.and_eq_true, leI_iff, ltI_iff] at hh; exact h hh
  by_cases h1 : bt t 0 < 128
  · rw [if_pos h1]
    refine Ev.of fun k => ?_
    unfold F163
    rw [h0, hw, ltI_iff.2 h1]; rfl
  rw [if_neg h1]
  have hf : ltI (bt t 0) 128 = false := ltI_false.2 (by omega)
  by_cases h2 : 194 ≤ bt t 0 ∧ bt t 0 < 224
  · rw [if_pos h2]
    refine Ev.congr (fun k => ?_) (key (bt t 0 - 192) 2 128 (by omega) (by omega) (by omega))
    unfold F163
    rw [h0, hw, hf, b2 h2.1 h2.2, i64z (by omega)]; rfl
  rw [if_neg h2]
  by_cases h3 : 224 ≤ bt t 0 ∧ bt t 0 < 240
  · rw [if_pos h3]
    refine Ev.congr (fun k => ?_) (key (bt t 0 - 224) 3 2048 (by omega) (by omega) (by omega))
    unfold F163
    rw [h0, hw, hf, b3 h2, b2 h3.1 h3.2, i64z (n := bt t 0 - 224) (by omega)]; rfl
  rw [if_neg h3]
  by_cases h4 : 240 ≤ bt t 0 ∧ bt t 0 < 245
  · rw [if_pos h4]
    refine Ev.congr (fun k => ?_) (key (bt t 0 - 240) 4 65536 (by omega) (by omega) (by omega))
    unfold F163
    rw [h0, hw, hf, b3 h2, b3 h3, b2 h4.1 h4.2, i64z (n := bt t 0 - 240) (by omega)]; rfl
  rw [if_neg h4]
  refine Ev.congr (fun k => ?_) (key (bt t 0) 0 0 (by omega) (by omega) (by omega))
  unfold F163
  rw [h0, hw, hf, b3 h2, b3 h3, b3 h4]; rfl
theorem T122_l1 (s : ByteArray) : ∀ (n i : Nat), s.size - i ≤ n → Ev (fun k => F122_l1 s k i) (if goodFrom s n i = true then .out () else .ret false)
  | 0, i, hn => by
    refine Ev.from 1 fun k => ?_
    show F122_l1 s (k + 1) i = _
    rw [F122_l1, nxc, decide_eq_false (by omega)]
    rfl
  | n + 1, i, hn => by
    refine Ev.succ (fun k => by rw [F122_l1]) ?_
    rw [goodFrom, nxc]
    by_cases h : i < s.size
    · rw [decide_eq_true h, cutOK_mk (by omega) (by omega) (by omega), Int.toNat_natCast, Int.toNat_natCast, if_pos h]
      refine Ev.bind (T153 _) ?_
      rw [(decR_ext s i h).1, (decR_ext s i h).2]
      show Ev (fun k => Option.bind (some _) _) _
      refine Ev.bind (Ev.of fun _ => rfl : Ev (fun k => F154 k (nxr s i) _) _) ?_
      unfold nxr
      rw [plain_dec s i h]
      cases hp : plainD (Utf8.decode s i) with
      | false => exact Ev.of fun _ => rfl
      | true => exact T122_l1 s n (nxw s i) (by have := dec_pos s i; unfold nxw; omega)
    · rw [decide_eq_false h, if_neg h]
      exact Ev.of fun _ => rfl
theorem T122 (s : ByteArray) : Ev (fun k => F122 k s) (keyR s) := by
  refine Ev.bind (T122_l1 s s.size 0 (by omega)) ?_
  unfold keyR
  cases goodFrom s s.size 0 with
  | false => exact Ev.of fun _ => rfl
  | true =>
    refine Ev.of fun _ => ?_
    show some ((leI 1 (s.size : Int)) && (leI (s.size : Int) 16)) = _
    rw [show (1 : Int) = ((1 : Nat) : Int) from rfl, show (16 : Int) = ((16 : Nat) : Int) from rfl, leI_nat, leI_nat, ← Bool.decide_and]
    rfl
theorem T130_l1 (s : ByteArray) : ∀ (n i : Nat), s.size - i ≤ n → Ev (fun k => F130_l1 k (s.extract i s.size)) (if goodFrom s n i = true then .out () else .ret false)
  | 0, i, hn => by
    refine Ev.from 1 fun k => ?_
    show F130_l1 (k + 1) _ = _
    rw [F130_l1, show (0 : Int) = ((0 : Nat) : Int) from rfl, ltI_nat, decide_eq_false (by rw [size_extract']; omega)]
    rfl
  | n + 1, i, hn => by
    refine Ev.succ (fun k => by rw [F130_l1]) ?_
    rw [goodFrom]
    have hz : (s.extract i s.size).size = s.size - i := by rw [size_extract']; omega
    by_cases h : i < s.size
    · rw [show ltI 0 ((s.extract i s.size).size : Int) = true by rw [ltI_iff]; omega, if_pos h]
      refine Ev.bind (T163 _ (by omega)) ?_
      obtain ⟨r, m, h1, h2, h3⟩ := plain_letter s i h
      rw [h1]
      refine Ev.bind (Ev.of fun _ => rfl : Ev (fun k => F164 k r) _) ?_
      rw [h2]
      cases hp : plainD (Utf8.decode s i) with
      | false => exact Ev.of fun _ => rfl
      | true =>
        have hm := h3 hp
        have hd := dec_le s i h
        rw [hm, cutOK_mk (by omega) (by omega) (by omega), Int.toNat_natCast, Int.toNat_natCast, ext_ext]
        exact T130_l1 s n _ (by have := dec_pos s i; omega)
    · rw [show ltI 0 ((s.extract i s.size).size : Int) = false by rw [ltI_false]; omega, if_neg h]
      exact Ev.of fun _ => rfl
theorem T130 (s : ByteArray) : Ev (fun k => F130 k s) (keyR s) := by
  unfold keyR
  refine Ev.cond (fun hc => ?_) fun hc => ?_
  · rw [Bool.or_eq_true, eqI_iff, ltI_iff] at hc
    rw [decide_eq_false (by omega), Bool.and_false]
    exact Ev.of fun _ => rfl
  · rw [Bool.or_eq_false_iff, eqI_false, ltI_false] at hc
    rw [decide_eq_true (by omega), Bool.and_true]
    have := T130_l1 s s.size 0 (by omega)
    rw [ext_zero] at this
    refine Ev.bind this ?_
    cases goodFrom s s.size 0 with
    | false => exact Ev.of fun _ => rfl
    | true => exact Ev.of fun _ => rfl
theorem optv {α : Type} [Inhabited α] {c : Bool} {a : Nat → Option α} {v : α} (h : c = true → Ev a v) : Ev (fun k => bif c then a k else some default) (bif c then v else default) := by
  cases c with
  | true => exact h rfl
  | false => exact Ev.of fun _ => rfl
def oneB (n : Int) : Bool := leI 1 n && leI n 1099511627776
def stR (s : Stamp) : Bool := leI 0 s.mWall && (leI s.mWall 1099511627776 && (leI 0 s.mTick && (leI s.mTick 1048576 && (leI 0 s.mNode && leI s.mNode 255))))
theorem T57 (n : Int) (l : List Int) (hl : l.length ≤ 1000) : Ev (fun k => F57 k n l) (!(l.any fun x => ltI x n || ltI 1099511627776 x)) :=
  Ev.bind (any_ev (idx_ev (f := F152_121_l1 l n) (q := fun x => ltI x n || ltI 1099511627776 x) (p := fun k x => F121 k x n) (by omega) (fun _ => rfl) (fun _ _ => rfl) fun x _ => Ev.of fun _ => rfl)) (Ev.of fun _ => rfl)
theorem oneB_eq (x : Int) : (ltI x 1 || ltI 1099511627776 x) = !oneB x := by
  rw [Bool.eq_iff_iff]
  simp only [oneB, Bool.or_eq_true, Bool.not_eq_true', Bool.and_eq_false_iff, ltI_iff, leI_false]
theorem T57_2 (a b : Int) : Ev (fun k => F57 k 1 [a, b]) (oneB a && oneB b) := by
  have := T57 1 [a, b] (by simp)
  simp only [List.any_cons, List.any_nil, oneB_eq] at this
  cases h1 : oneB a <;> cases h2 : oneB b <;> simpa [h1, h2] using this
theorem T36 (s : Stamp) : Ev (fun k => F36 k s) (stR s) := by
  refine Ev.bind (Ev.of fun _ => rfl : Ev (fun k => F100 k _ _) _) ?_
  refine Ev.bind (optv fun _ => (Ev.of fun _ => rfl : Ev (fun k => F100 k _ _) _)) ?_
  refine Ev.bind (optv fun _ => (Ev.of fun _ => rfl : Ev (fun k => F100 k _ _) _)) ?_
  refine Ev.of fun _ => ?_
  unfold stR
  congr 1
  generalize leI 0 s.mWall = a; generalize leI s.mWall _ = b; generalize leI 0 s.mTick = c; generalize leI s.mTick _ = d; generalize leI 0 s.mNode = e; generalize leI s.mNode _ = f
  revert a b c d e f; decide
theorem T68 (s : Stamp) : Ev (fun k => F68 k s) (stR s) := by
  refine Ev.of fun _ => ?_
  unfold F68 stR
  congr 1
  generalize leI 0 s.mWall = a; generalize leI s.mWall _ = b; generalize leI 0 s.mTick = c; generalize leI s.mTick _ = d; generalize leI 0 s.mNode = e; generalize leI s.mNode _ = f
  revert a b c d e f; decide
theorem T66 (x : Int) : Ev (fun k => F66 k x) (oneB x) := Ev.of fun _ => rfl
theorem ltI_pos (n : Nat) (a : ByteArray) (h : a.size = n) : ltI 0 (n : Int) = !strEq a ⟨#[]⟩ := by
  rw [strEq_nil, h, Bool.eq_iff_iff, ltI_iff]
  simp; omega
theorem eqI_nil (a : ByteArray) : eqI (a.size : Int) 0 = strEq a ⟨#[]⟩ := by
  rw [strEq_nil, Bool.eq_iff_iff, eqI_iff]
  simp
theorem leI_lt (x : Int) : leI 0 x = !ltI x 0 := by rw [Bool.eq_iff_iff, Bool.not_eq_true', leI_iff, ltI_false]
theorem awake (k : Nat) : F15 (k + 40) = some true := by kernel_rfl
end Go.Proofs.Gd
set_option linter.unusedVariables false
set_option linter.unusedSimpArgs false
namespace Go.Proofs.Gd
open Go Go.Awp
def cmpI (a b : Int) : Int := bif ltI a b then -1 else bif ltI b a then 1 else 0
def or3 (a b c : Int) : Int := bif !eqI a 0 then a else bif !eqI b 0 then b else bif !eqI c 0 then c else 0
def cmpS (s t : Stamp) : Int := or3 (cmpI s.mWall t.mWall) (cmpI s.mTick t.mTick) (cmpI s.mNode t.mNode)
theorem eqI_self (x : Int) : eqI x x = true := eqI_iff.2 rfl
theorem T104 (a b : Int) : Ev (fun k => F104 k a b) (cmpI a b) := by
  refine Ev.of fun k => ?_
  show (some (!eqI a a)).bind (fun t8 => (some (!eqI b b)).bind fun t10 => _) = _
  rw [eqI_self, eqI_self]
  unfold cmpI
  show (bif ltI a b then some (-1) else bif ltI b a then some 1 else some 0) = _
  cases ltI a b <;> cases ltI b a <;> rfl
theorem T103 (a b c : Int) : Ev (fun k => F103 k [a, b, c]) (or3 a b c) := by
  refine Ev.from 4 fun k => ?_
  unfold or3
  show F103 (k + 4) [a, b, c] = _
  unfold F103
  rw [F103_l1, F103_l1, F103_l1, F103_l1]
  show Option.bind (bif !eqI a 0 then some (LR.ret a) else bif !eqI b 0 then some (LR.ret b) else bif !eqI c 0 then some (LR.ret c) else some (LR.out ())) _ = _
  cases !eqI a 0 <;> cases !eqI b 0 <;> cases !eqI c 0 <;> rfl
theorem T42 (s t : Stamp) : Ev (fun k => F42 k s t) (cmpS s t) :=
  Ev.bind (T104 _ _) (Ev.bind (T104 _ _) (Ev.bind (T104 _ _) (Ev.bind (T103 _ _ _) (Ev.of fun _ => rfl))))
structure SmS (s : Shard) : Prop where
  entries : s.mEntries.length ≤ 80
  chains : ∀ e ∈ s.mEntries, e.mChain.length ≤ 80
  done : s.mDone.length ≤ 40
  items : ∀ d ∈ s.mDone, d.mAnswer.mItems.length ≤ 100
structure SmC (c : Cell) : Prop where
  shards : c.mShards.length ≤ 12
  each : ∀ s ∈ c.mShards, SmS s
theorem strEq_self (a : ByteArray) : strEq a a = true := strEq_true.2 rfl
theorem qStamp_self (s : Stamp) : qStamp s s = true := by simp [qStamp, eqI_self]
theorem loop_out {f : Nat → Int → Option (LR Bool Unit)} {n : Nat} {g : Nat → Unit → Option Bool} (hend : Ev (fun k => f k (n : Int)) (.out ())) (hstep : ∀ i, i < n → Ev (fun k => f k ((i + 1 : Nat) : Int)) (.out ()) → Ev (fun k => f k (i : Int)) (.out ())) {r : Bool} (hg : Ev (fun k => g k ()) r) :
    Ev (fun k => (f k 0).bind fun t => t.go (g k)) r := Ev.bind (downTo (M := fun i => Ev (fun k => f k (i : Int)) (.out ())) n hend hstep) hg
theorem E102 (l : List Version) (hl : l.length ≤ 1000) : Ev (fun k => F102 k l l) true := by
  refine Ev.cond (fun hc => by rw [eqI_self] at hc; cases hc) fun _ => loop_out (n := l.length) ?_ (fun i hi ih => ?_) (Ev.of fun _ => rfl)
  · refine Ev.from 1 fun k => ?_
    show F102_l1 l l (k + 1) _ = _
    rw [F102_l1, ltI_nat, decide_eq_false (Nat.lt_irrefl _)]; rfl
  · refine Ev.succ (fun k => by rw [F102_l1]) ?_
    rw [ltI_nat, decide_eq_true hi, inR_mk hi, i64z (by omega), show qVersion (rd l (i : Int)) (rd l (i : Int)) = true by simp [qVersion, qStamp_self, strEq_self]]
    exact ih
theorem E40 (l : List Entry) (hl : l.length ≤ 1000) (hc : ∀ e ∈ l, e.mChain.length ≤ 1000) : Ev (fun k => F40 k l l) true := by
  refine Ev.cond (fun hc => by rw [eqI_self] at hc; cases hc) fun _ => loop_out (n := l.length) ?_ (fun i hi ih => ?_) (Ev.of fun _ => rfl)
  · refine Ev.from 1 fun k => ?_
    show F40_l1 l l (k + 1) _ = _
    rw [F40_l1, ltI_nat, decide_eq_false (Nat.lt_irrefl _)]; rfl
  · refine Ev.succ (fun k => by rw [F40_l1]) ?_
    rw [ltI_nat, decide_eq_true hi, inR_mk hi, i64z (by omega), strEq_self, rd_nat _ _ hi]
    exact Ev.bind (E102 _ (hc _ (List.getElem_mem hi))) ih
theorem E19 (a : Answer) (hl : a.mItems.length ≤ 1000) : Ev (fun k => F19 k a a) true := by
  refine Ev.cond (fun hc => by rw [eqI_self] at hc; cases hc) fun _ => loop_out (n := a.mItems.length) ?_ (fun i hi ih => ?_) (Ev.of fun _ => by simp [eqI_self, qStamp_self, strEq_self])
  · refine Ev.from 1 fun k => ?_
    show F19_l1 a a (k + 1) _ = _
    rw [F19_l1, ltI_nat, decide_eq_false (Nat.lt_irrefl _)]; rfl
  · refine Ev.succ (fun k => by rw [F19_l1]) ?_
    rw [ltI_nat, decide_eq_true hi, inR_mk hi, i64z (by omega), show qItem (rd a.mItems (i : Int)) (rd a.mItems (i : Int)) = true by simp [qItem, strEq_self]]
    exact ih
theorem E41 (l : List Done) (hl : l.length ≤ 1000) (hc : ∀ e ∈ l, e.mAnswer.mItems.length ≤ 1000) : Ev (fun k => F41 k l l) true := by
  refine Ev.cond (fun hc => by rw [eqI_self] at hc; cases hc) fun _ => loop_out (n := l.length) ?_ (fun i hi ih => ?_) (Ev.of fun _ => rfl)
  · refine Ev.from 1 fun k => ?_
    show F41_l1 l l (k + 1) _ = _
    rw [F41_l1, ltI_nat, decide_eq_false (Nat.lt_irrefl _)]; rfl
  · refine Ev.succ (fun k => by rw [F41_l1]) ?_
    rw [ltI_nat, decide_eq_true hi, inR_mk hi, i64z (by omega), eqI_self, eqI_self, rd_nat _ _ hi]
    exact Ev.bind (E19 _ (hc _ (List.getElem_mem hi))) ih
theorem E26 (s : Shard) (h : SmS s) : Ev (fun k => F26 k s s) true := by
  have he := h.entries
  have hd := h.done
  have e1 : qSpan s.mSpan s.mSpan = true := by simp [qSpan, strEq_self]
  unfold F26
  simp only [eqI_self, qStamp_self, e1, Bool.and_true, Bool.true_and, cond_true]
  refine Ev.bind (E40 _ (by omega) fun e he => by have := h.chains e he; omega) ?_
  refine Ev.bind (E41 _ (by omega) fun e he => by have := h.items e he; omega) ?_
  exact Ev.of fun _ => rfl
theorem T92 (l : List Done) : EvP (fun k => F92 k l) (fun b => b = true → l.length ≤ 40 ∧ ∀ e ∈ l, e.mAnswer.mItems.length ≤ 100) := by
  refine EvP.cond (fun _ => EvP.some fun h => by cases h) fun hc => ?_
  rw [ltI_false] at hc
  refine EvP.go ((downTo (M := fun i => EvP (fun k => F92_l1 l k (i : Int)) fun t => t = .ret false ∨ (t = .out () ∧ ∀ j (hj : j < l.length), i ≤ j → l[j].mAnswer.mItems.length ≤ 100)) l.length ?_ fun i hi ih => ?_).mono fun t ht => ?_)
  · refine EvP.succ (fun k => by rw [F92_l1]) ?_
    rw [ltI_nat, decide_eq_false (Nat.lt_irrefl _)]
    exact EvP.some (.inr ⟨rfl, fun j hj h => by omega⟩)
  · refine EvP.succ (fun k => by rw [F92_l1]) ?_
    rw [ltI_nat, decide_eq_true hi, inR_mk hi, rd_nat _ _ hi]
    simp only [cond_true]
    refine EvP.cond (fun _ => EvP.some (.inl rfl)) fun hcc => ?_
    rw [ltI_false] at hcc
    rw [i64z (by omega)]
    refine ih.mono fun t ht => ht.imp id fun ⟨h1, h2⟩ => ⟨h1, fun j hj hij => ?_⟩
    by_cases e : j = i
    · subst e; omega
    · exact h2 j hj (by omega)
  · rcases ht with rfl | ⟨rfl, h⟩
    · exact fun h => by cases h
    · refine EvP.some fun _ => ⟨by omega, fun e he => ?_⟩
      obtain ⟨j, hj, rfl⟩ := List.mem_iff_getElem.1 he
      exact h j hj (by omega)
end Go.Proofs.Gd
set_option linter.unusedVariables false
set_option linter.unusedSimpArgs false
namespace Go.Proofs.Gd
open Go Go.Awp
theorem dec_pair (s : ByteArray) (h : 0 < s.size) : decR s = ((Utf8.decode s 0).1 : Nat) ∧ decN s = ((Utf8.decode s 0).2 : Nat) := by
  have := decR_ext s 0 h
  rwa [ext_zero] at this
/-- What key.Compare's loop leaves. -/
def endsK (a b : ByteArray) (t : LR Int (ByteArray × ByteArray)) : Prop := match t with
  | .ret r => r = cmpK a b
  | .out (x, y) => cmpK x y = cmpK a b ∧ (x.size = 0 ∨ y.size = 0)
theorem V124_l1 (a0 b0 : ByteArray) : ∀ (n : Nat) (a b : ByteArray), a.size ≤ n → cmpK a b = cmpK a0 b0 → EvP (fun k => F124_l1 k (a, b)) (endsK a0 b0)
  | n, a, b, hn, he => by
    refine EvP.succ (fun k => by rw [F124_l1]) (EvP.cond (fun hc => ?_) fun hc => ?_)
    · rw [strEq_nil, strEq_nil] at hc
      simp only [Bool.and_eq_true, Bool.not_eq_true', decide_eq_false_iff_not] at hc
      have ha : 0 < a.size := by omega
      have hb : 0 < b.size := by omega
      refine EvP.bind ((T153 _).evP.mono fun r hr => ?_)
      subst hr
      refine EvP.bind ((T153 _).evP.mono fun r hr => ?_)
      subst hr
      show EvP (fun k => bif ltI (decR a) (decR b) then _ else _) _
      rw [(dec_pair a ha).1, (dec_pair b hb).1, (dec_pair a ha).2, (dec_pair b hb).2, ltI_nat, ltI_nat]
      have hk : cmpK a b = if (Utf8.decode a 0).1 < (Utf8.decode b 0).1 then -1 else if (Utf8.decode b 0).1 < (Utf8.decode a 0).1 then 1 else cmpK (a.extract (Utf8.decode a 0).2 a.size) (b.extract (Utf8.decode b 0).2 b.size) := by
        unfold cmpK
        rw [runes_cons a ha, runes_cons b hb, cmpL]
      refine EvP.cond (fun h1 => EvP.some ?_) fun h1 => EvP.cond (fun h2 => EvP.some ?_) fun h2 => ?_
      · rw [if_pos (of_decide_eq_true h1)] at hk
        show (-1 : Int) = _
        rw [← he, hk]
      · rw [if_neg (of_decide_eq_false h1), if_pos (of_decide_eq_true h2)] at hk
        show (1 : Int) = _
        rw [← he, hk]
      · rw [if_neg (of_decide_eq_false h1), if_neg (of_decide_eq_false h2)] at hk
        have d1 := dec_le a 0 ha
        have d2 := dec_le b 0 hb
        have d3 := dec_pos a 0
        refine EvP.guard (cutOK_mk (by omega) (by omega) (by omega)) (EvP.guard (cutOK_mk (by omega) (by omega) (by omega)) ?_)
        rw [Int.toNat_natCast, Int.toNat_natCast, Int.toNat_natCast, Int.toNat_natCast]
        cases n with
        | zero => omega
        | succ n => exact V124_l1 a0 b0 n _ _ (by rw [size_extract']; omega) (by rw [← hk]; exact he)
    · rw [strEq_nil, strEq_nil] at hc
      simp only [Bool.and_eq_false_iff, Bool.not_eq_false', decide_eq_true_eq] at hc
      refine EvP.some ?_
      show cmpK a b = cmpK a0 b0 ∧ (a.size = 0 ∨ b.size = 0)
      exact ⟨he, hc⟩
/-- key.Compare. -/
theorem V124 (a b : ByteArray) : Ev (fun k => F124 k a b) (cmpK a b) := by
  refine EvP.ev (EvP.go ((V124_l1 a b _ a b (Nat.le_refl _) rfl).mono fun t ht => ?_))
  cases t with
  | ret r => exact ht
  | out v =>
    obtain ⟨x, y⟩ := v
    obtain ⟨h1, h2⟩ := ht
    show EvP (fun k => bif !strEq x ⟨#[]⟩ then some 1 else bif !strEq y ⟨#[]⟩ then some (-1) else some 0) _
    rw [strEq_nil, strEq_nil]
    refine EvP.cond (fun hx => EvP.some ?_) fun hx => EvP.cond (fun hy => EvP.some ?_) fun hy => EvP.some ?_
    · rw [Bool.not_eq_true', decide_eq_false_iff_not] at hx
      have hy : y.size = 0 := by omega
      rw [← h1, cmpK, runes_nil y hy, runes_cons x (by omega), cmpL]
    · rw [Bool.not_eq_true', decide_eq_false_iff_not] at hy
      rw [Bool.not_eq_false', decide_eq_true_eq] at hx
      rw [← h1, cmpK, runes_nil x hx, runes_cons y (by omega), cmpL]
    · rw [Bool.not_eq_false', decide_eq_true_eq] at hx hy
      rw [← h1, cmpK, runes_nil x hx, runes_nil y hy, cmpL]
def ofN (l : List Nat) : List Int := l.map Int.ofNat
theorem ofN_len (l : List Nat) : (ofN l).length = l.length := List.length_map _
theorem ofN_rd (l : List Nat) (i : Nat) (h : i < l.length) : rd (ofN l) (i : Int) = ((l[i] : Nat) : Int) := by
  rw [rd_nat _ _ (by rw [ofN_len]; exact h)]
  simp [ofN]
/-- The plain decoder's list. -/
theorem letter_rune (s : ByteArray) (h : 0 < s.size) : (bif ltI (letter s).1 0 then (65533 : Int) else (letter s).1) = ((Utf8.decode s 0).1 : Nat) ∧ (letter s).2 = ((Utf8.decode s 0).2 : Nat) := by
  unfold letter
  have g0 := get_bt s 0
  have r0 := UInt8.toNat_lt (s.get! 0)
  have g0' : bt s 0 = ((s.get! 0).toNat : Int) := g0.symm
  by_cases hb : (Utf8.decode s 0).2 = 1 ∧ 128 ≤ bt s 0
  · rw [if_pos hb]
    have h1 : (Utf8.decode s 0).1 = 65533 := by
      rw [g0'] at hb
      rw [Lib.decode_at] at hb ⊢
      exact decodeN_bad _ _ _ _ _ hb.1 (by omega)
    rw [h1, hb.1]
    exact ⟨rfl, rfl⟩
  · rw [if_neg hb]
    refine ⟨?_, rfl⟩
    rw [show ltI (((Utf8.decode s 0).1 : Nat) : Int) 0 = false by rw [ltI_false]; omega]; rfl
theorem V151_l1 : ∀ (n : Nat) (s : ByteArray) (l : List Int), s.size ≤ n → (l.length + s.size) * 8 ≤ 140737488355328 → Ev (fun k => F151_l1 k (s, l)) (l ++ ofN (runes s))
  | n, s, l, hn, hl => by
    refine Ev.succ (fun k => by rw [F151_l1]) (Ev.cond (fun hc => ?_) fun hc => ?_)
    · rw [ltI_iff] at hc
      have h0 : 0 < s.size := by omega
      obtain ⟨q1, q2⟩ := letter_rune s h0
      have d1 := dec_le s 0 h0
      have d3 := dec_pos s 0
      have hr := runes_cons s h0
      refine Ev.bind (T163 s h0) ?_
      generalize (Utf8.decode s 0).2 = w at q2 d1 d3 hr
      generalize (Utf8.decode s 0).1 = c at q1 hr
      have hl2 : ofN (runes s) = (c : Int) :: ofN (runes (s.extract w s.size)) := by rw [hr]; rfl
      rw [hl2]
      have hz : (s.extract w s.size).size = s.size - w := by rw [size_extract']; omega
      cases n with
      | zero => omega
      | succ n =>
        have next := V151_l1 n (s.extract w s.size) (l ++ [(c : Int)]) (by omega) (by rw [List.length_append, List.length_singleton]; omega)
        rw [List.append_assoc] at next
        have ha : ∀ x : Int, appOK 8 l.length [x].length = true := fun x => appOK_mk (by rw [List.length_singleton]; omega) (by rw [List.length_singleton]; omega)
        have hc' : cutOK (w : Int) (s.size : Int) s.size = true := cutOK_mk (by omega) (by omega) (by omega)
        generalize letter s = L at q1 q2 ⊢
        obtain ⟨a, b⟩ := L
        simp only at q1 q2
        subst q2
        refine Ev.congr (g := fun k => F151_l1 k (s.extract w s.size, l ++ [(c : Int)])) (fun k => ?_) next
        cases hb : ltI a 0 with
        | true =>
          rw [hb, cond_true] at q1
          simp only [hb, cond_true]
          rw [ha, hc', Int.toNat_natCast, Int.toNat_natCast, q1]; rfl
        | false =>
          rw [hb, cond_false] at q1
          subst q1
          simp only [hb, cond_false]
          rw [ha, hc', Int.toNat_natCast, Int.toNat_natCast]; rfl
    · rw [ltI_false] at hc
      rw [runes_nil s (by omega)]
      exact Ev.of fun _ => by simp [ofN]
theorem V151 (s : ByteArray) (h : s.size ≤ 1000000000000) : Ev (fun k => F151 k s) (ofN (runes s)) :=
  Ev.bind (V151_l1 s.size s [] (Nat.le_refl _) (by simp; omega)) (Ev.of fun _ => by simp)
theorem runes_len (s : ByteArray) : (runes s).length ≤ s.size := by
  have : ∀ n i, (runesFrom s n i).length ≤ s.size - i := fun n => by
    induction n with
    | zero => intro i; simp [runesFrom]
    | succ n ih =>
      intro i
      rw [runesFrom]
      split
      · have := ih (i + (Utf8.decode s i).2)
        have := dec_pos s i
        rw [List.length_cons]; omega
      · simp
  have := this s.size 0
  unfold runes; omega
/-- The document's Compare. -/
theorem V119 (a b : ByteArray) (ha : a.size ≤ 1000000000000) (hb : b.size ≤ 1000000000000) : Ev (fun k => F119 k a b) (cmpK a b) := by
  refine Ev.bind (V151 a ha) (Ev.bind (V151 b hb) ?_)
  have la := runes_len a
  have lb := runes_len b
  unfold cmpK
  generalize runes a = x at la ⊢
  generalize runes b = y at lb ⊢
  have key : ∀ (m i : Nat), x.length - i ≤ m → i ≤ x.length → i ≤ y.length → Ev (fun k => (F119_l1 (ofN x) (ofN y) k (i : Int)).bind fun t => t.go fun _ => bif (ltI ((ofN x).length : Int) ((ofN y).length : Int)) then (some (-1)) else (bif (ltI ((ofN y).length : Int) ((ofN x).length : Int)) then (some 1) else (some 0))) (cmpL (x.drop i) (y.drop i)) := fun m => by
    induction m with
    | zero =>
      intro i hi h1 h2
      refine Ev.from 1 fun k => ?_
      show Option.bind (F119_l1 (ofN x) (ofN y) (k + 1) (i : Int)) _ = _
      rw [F119_l1, ofN_len, ofN_len, ltI_nat, decide_eq_false (by omega), Bool.false_and]
      show (bif ltI (x.length : Int) (y.length : Int) then some (-1) else bif ltI (y.length : Int) (x.length : Int) then some 1 else some 0) = _
      rw [List.drop_of_length_le (by omega : x.length ≤ i), ltI_nat, ltI_nat]
      by_cases hy : y.length = i
      · rw [List.drop_of_length_le (by omega : y.length ≤ i), decide_eq_false (by omega), decide_eq_false (by omega)]; rfl
      · rw [List.drop_eq_getElem_cons (by omega : i < y.length), decide_eq_true (by omega)]; rfl
    | succ m ih =>
      intro i hi h1 h2
      by_cases hx : i < x.length
      · by_cases hy : i < y.length
        · refine Ev.succ (g := fun k => (bif ltI ((x[i] : Nat) : Int) ((y[i] : Nat) : Int) then some (LR.ret (-1)) else bif ltI ((y[i] : Nat) : Int) ((x[i] : Nat) : Int) then some (LR.ret 1) else F119_l1 (ofN x) (ofN y) k ((i + 1 : Nat) : Int)).bind fun t => t.go fun _ => bif (ltI ((ofN x).length : Int) ((ofN y).length : Int)) then (some (-1)) else (bif (ltI ((ofN y).length : Int) ((ofN x).length : Int)) then (some 1) else (some 0))) (fun k => ?_) ?_
          · rw [F119_l1, ofN_rd _ _ hx, ofN_rd _ _ hy, ofN_len, ofN_len, ltI_nat, ltI_nat, decide_eq_true hx, decide_eq_true hy, inR_mk hx, inR_mk hy, i64z (by omega)]; rfl
          · rw [List.drop_eq_getElem_cons hx, List.drop_eq_getElem_cons hy, cmpL, ltI_nat, ltI_nat]
            have := ih (i + 1) (by omega) (by omega) (by omega)
            by_cases c1 : x[i] < y[i]
            · rw [if_pos c1, decide_eq_true c1]; exact Ev.of fun _ => rfl
            · rw [if_neg c1, decide_eq_false c1]
              by_cases c2 : y[i] < x[i]
              · rw [if_pos c2, decide_eq_true c2]; exact Ev.of fun _ => rfl
              · rw [if_neg c2, decide_eq_false c2]; exact this
        · refine Ev.from 1 fun k => ?_
          show Option.bind (F119_l1 (ofN x) (ofN y) (k + 1) (i : Int)) _ = _
          rw [F119_l1, ofN_len, ofN_len, ltI_nat, ltI_nat, decide_eq_true hx, decide_eq_false hy]
          show (bif ltI (x.length : Int) (y.length : Int) then some (-1) else bif ltI (y.length : Int) (x.length : Int) then some 1 else some 0) = _
          rw [List.drop_of_length_le (by omega : y.length ≤ i), List.drop_eq_getElem_cons hx, ltI_nat, ltI_nat, decide_eq_false (by omega), decide_eq_true (by omega)]; rfl
      · exact ih i (by omega) h1 h2
  exact key x.length 0 (by omega) (by omega) (by omega)
theorem cmpI_lt (a b : Int) : cmpI a b = if a < b then -1 else if b < a then 1 else 0 := by
  unfold cmpI
  by_cases h1 : a < b
  · rw [if_pos h1, ltI_iff.2 h1]; rfl
  · rw [if_neg h1, ltI_false.2 (by omega)]
    by_cases h2 : b < a
    · rw [if_pos h2, ltI_iff.2 h2]; rfl
    · rw [if_neg h2, ltI_false.2 (by omega)]; rfl
/-- Earlier. -/
def befS (s t : Stamp) : Prop := s.mWall < t.mWall ∨ (s.mWall = t.mWall ∧ (s.mTick < t.mTick ∨ (s.mTick = t.mTick ∧ s.mNode < t.mNode)))
theorem cmpS_lt (s t : Stamp) : cmpS s t < 0 ↔ befS s t := by
  unfold cmpS or3 befS
  rw [cmpI_lt, cmpI_lt, cmpI_lt]
  repeat' split
  all_goals (simp [eqI]; try omega)
end Go.Proofs.Gd
