/- Lemmas behind GdPaP, part 5: they hold as they stand, without a condition beyond their own. -/
import Derived.Test.YthhpelmjnmlgjaaGreatDoorPa4
import Derived.Test.YthhpelmjnmlgjaaGreatDoorProg
import Derived.KernelRfl
set_option linter.unusedVariables false
set_option maxRecDepth 100000
set_option maxHeartbeats 4000000
namespace Go.Proofs.Gd
open Go Go.Awp Go.Proofs
theorem s44 (k : Nat) (t0 : Cell) (t1 : Int) (t2 : Int) (r : Cell × Bool) (h : F44 k t0 t1 t2 = some r) : Awp.Spec Tryz.prog amb 44 [(.agg (eCell t0)), (.s (.int .i64 t1)), (.s (.int .i64 t2))] (.ds [(.agg (eCell r.1)), (.s (.bool r.2))]) := by
 rw [F44] at h
 refine spec_of Tryz.func44 rfl (ble _ _ rfl) fun w0 ok0 lt0 hA => ?_
 refine sr ?_
 refine sT 3 (.d (.dp (eCell t0))) rfl (v_box_d (cs := (eCell t0)) rfl · · · rfl rfl (ones_of rfl)) ?_
 refine sq_cons _ (v_alloc (id := 6) (cs := zc26) rfl trivial rfl (ble _ _ rfl) zu26 rfl ft26 rfl) ?_
 refine sM 7 (bV false) rfl rfl ?_
 refine sq_nil ?_
 refine ht_seq ?_
 refine sr ?_
 refine sT 9 (.d (.agg (eCell t0))) rfl (w_ldp (eCell t0) (eCell t0) rfl · · · ag26 rfl (ble _ _ rfl) rfl) ?_
 obtain ⟨t10, c1, h⟩ := bpos h
 refine sT 10 (bV t10) rfl (w_call (ds := [(.agg (eCell t0))]) (caps := []) (l := [(.s (.bool t10))]) (s25 k t0 _ c1) rfl rfl rfl en25 · · · (.inl ⟨rfl, rfl⟩) rfl rfl) ?_
 refine sT 11 (bV (!t10)) rfl (v_un rfl · · · rfl (u_not rfl)) ?_
 refine sM 12 (bV (!t10)) rfl rfl ?_
 refine sF 13 (iV t1) rfl rfl (fun e2 => (v_move (.inl rfl) · · · rfl)) ?_
 refine sF 14 (iV t2) rfl rfl (fun e3 => (v_move (.inl rfl) · · · rfl)) ?_
 refine sF 15 (.d (.sl 1 (([t1, t2]).map (eI .i64)))) rfl rfl (fun e4 => (w_bsl_d [(0, iV t1), (1, iV t2)] [t1, t2] (eI .i64) rfl · · · slT148 zr3 (encI .i64) (ble _ _ rfl) (cc (pr (gv (nF e4))) (cc (pr (gv (nF e4))) rfl)) (by kernel_rfl) rfl rfl (by kernel_rfl))) ?_
 obtain ⟨t16, c6, h⟩ := bpos h
 refine sF 16 (bV t16) rfl rfl (fun e5 => (w_call (ds := [(.s (.int .i64 1)), (.sl 1 (([t1, t2]).map (eI .i64)))]) (caps := []) (l := [(.s (.bool t16))]) (s57 k 1 ([t1, t2]) _ (cpos (nF e5) c6)) rfl rfl rfl en57 · · · (.inl ⟨rfl, rfl⟩) (cc rfl (cc (gv (nF e5)) rfl)) rfl)) ?_
 refine sF 17 (bV (!t16)) rfl rfl (fun e7 => (v_un rfl · · · (gv (nF e7)) (u_not rfl))) ?_
 refine sT 18 (bV ((!t10) || (!t16))) rfl (v_pickB rfl · · · rfl (fun e8 => rfl) (fun e9 => (gv (nF e9))) (pO _ _)) ?_
 refine sq_nil ?_
 refine ht_cond rfl (fun e10 => ?_) (fun e10 => ?_)
 ·replace h := cpos e10 h
  refine sr ?_
  refine sT 19 (.d (.agg (eCell t0))) rfl (w_ldp (eCell t0) (eCell t0) rfl · · · ag26 rfl (ble _ _ rfl) rfl) ?_
  refine sq_cons _ (v_store_box (id := 6) (off := 0) (cs := (eCell t0).map V.d) rfl trivial rfl sz26 rfl rfl rfl rfl (ones_of rfl) (ble _ _ rfl)) ?_
  refine sM 7 (bV false) rfl rfl ?_
  refine sq_nil ?_
  refine ht_ret ?_
  cases h
  exact ret2 rfl (.cell rfl rfl ag26 (ble _ _ rfl) rfl) (.tmp rfl)
 replace h := cneg e10 h
 refine ht_skip ?_
 refine sr ?_
 refine sT 20 (.d (.agg (eCell t0))) rfl (w_ldp (eCell t0) (eCell t0) rfl · · · ag26 rfl (ble _ _ rfl) rfl) ?_
 refine sM 21 (iV t1) rfl rfl ?_
 obtain ⟨t22, c11, h⟩ := bpos h
 refine sT 22 (.d (.agg (eShard t22))) rfl (w_call (ds := [(.agg (eCell t0)), (.s (.int .i64 t1))]) (caps := []) (l := [(.agg (eShard t22))]) (s60 k t0 t1 _ c11) rfl rfl rfl en60 · · · (.inl ⟨rfl, rfl⟩) rfl rfl) ?_
 refine sq_cons _ (v_alloc (id := 8) (cs := zc45) rfl trivial rfl (ble _ _ rfl) zu45 rfl ft45 rfl) ?_
 refine sq_cons _ (v_store_box (id := 8) (off := 0) (cs := (eShard t22).map V.d) rfl trivial rfl sz45 rfl rfl rfl rfl (ones_of rfl) (ble _ _ rfl)) ?_
 refine sq_nil ?_
 refine ht_seq ?_
 refine sr ?_
 refine sT 23 (.ptr 8 0) rfl (v_field_box (off := 0) (a0 := 0) rfl · · · fo45_0 rfl) ?_
 refine sT 24 (iV t22.mID) rfl (v_load_box1 (id := 8) (off := 0) rfl · · · onT3 rfl rfl (ble _ _ rfl) rfl) ?_
 refine sT 25 (bV (eqI t22.mID 0)) rfl (v_bin rfl · · · rfl rfl (b_eql rfl)) ?_
 refine sq_nil ?_
 refine ht_cond rfl (fun e12 => ?_) (fun e12 => ?_)
 ·replace h := cpos e12 h
  refine sr ?_
  refine sT 26 (.d (.agg (eCell t0))) rfl (w_ldp (eCell t0) (eCell t0) rfl · · · ag26 rfl (ble _ _ rfl) rfl) ?_
  refine sq_cons _ (v_store_box (id := 6) (off := 0) (cs := (eCell t0).map V.d) rfl trivial rfl sz26 rfl rfl rfl rfl (ones_of rfl) (ble _ _ rfl)) ?_
  refine sM 7 (bV true) rfl rfl ?_
  refine sq_nil ?_
  refine ht_ret ?_
  cases h
  exact ret2 rfl (.cell rfl rfl ag26 (ble _ _ rfl) rfl) (.tmp rfl)
 replace h := cneg e12 h
 refine ht_skip ?_
 refine ht_seq ?_
 refine sr ?_
 refine sT 27 (.d (.agg (eShard t22))) rfl (w_ldb 8 0 rfl · · · ag45 rfl rfl (ble _ _ rfl) rfl) ?_
 refine sM 28 (iV t2) rfl rfl ?_
 obtain ⟨t29, c13, h⟩ := bpos h
 refine sT 29 (bV t29) rfl (w_call (ds := [(.agg (eShard t22)), (.s (.int .i64 t2))]) (caps := []) (l := [(.s (.bool t29))]) (s94 k t22 t2 _ c13) rfl rfl rfl en94 · · · (.inl ⟨rfl, rfl⟩) rfl rfl) ?_
 refine sT 30 (bV (!t29)) rfl (v_un rfl · · · rfl (u_not rfl)) ?_
 refine sq_nil ?_
 refine ht_cond rfl (fun e14 => ?_) (fun e14 => ?_)
 ·replace h := cpos e14 h
  refine sr ?_
  refine sT 31 (.d (.agg (eCell t0))) rfl (w_ldp (eCell t0) (eCell t0) rfl · · · ag26 rfl (ble _ _ rfl) rfl) ?_
  refine sq_cons _ (v_store_box (id := 6) (off := 0) (cs := (eCell t0).map V.d) rfl trivial rfl sz26 rfl rfl rfl rfl (ones_of rfl) (ble _ _ rfl)) ?_
  refine sM 7 (bV false) rfl rfl ?_
  refine sq_nil ?_
  refine ht_ret ?_
  cases h
  exact ret2 rfl (.cell rfl rfl ag26 (ble _ _ rfl) rfl) (.tmp rfl)
 replace h := cneg e14 h
 refine ht_skip ?_
 refine sr ?_
 refine sT 32 (.d (.agg (eCell t0))) rfl (w_ldp (eCell t0) (eCell t0) rfl · · · ag26 rfl (ble _ _ rfl) rfl) ?_
 refine sM 33 (iV t1) rfl rfl ?_
 obtain ⟨t34, c15, h⟩ := bpos h
 refine sT 34 (.d (.agg (eCell t34))) rfl (w_call (ds := [(.agg (eCell t0)), (.s (.int .i64 t1))]) (caps := []) (l := [(.agg (eCell t34))]) (s105 k t0 t1 _ c15) rfl rfl rfl en105 · · · (.inl ⟨rfl, rfl⟩) rfl rfl) ?_
 refine sq_cons _ (v_store_box (id := 6) (off := 0) (cs := (eCell t34).map V.d) rfl trivial rfl sz26 rfl rfl rfl rfl (ones_of rfl) (ble _ _ rfl)) ?_
 refine sM 7 (bV true) rfl rfl ?_
 refine sq_nil ?_
 refine ht_ret ?_
 cases h
 exact ret2 rfl (.cell rfl rfl ag26 (ble _ _ rfl) rfl) (.tmp rfl)
theorem s46 (k : Nat) (t0 : Cell) (t1 : Int) (t2 : Int) (r : Cell × Bool) (h : F46 k t0 t1 t2 = some r) : Awp.Spec Tryz.prog amb 46 [(.agg (eCell t0)), (.s (.int .i64 t1)), (.s (.int .i64 t2))] (.ds [(.agg (eCell r.1)), (.s (.bool r.2))]) := by
 rw [F46] at h
 refine spec_of Tryz.func46 rfl (ble _ _ rfl) fun w0 ok0 lt0 hA => ?_
 refine sr ?_
 refine sT 3 (.d (.dp (eCell t0))) rfl (v_box_d (cs := (eCell t0)) rfl · · · rfl rfl (ones_of rfl)) ?_
 refine sq_cons _ (v_alloc (id := 6) (cs := zc26) rfl trivial rfl (ble _ _ rfl) zu26 rfl ft26 rfl) ?_
 refine sM 7 (bV false) rfl rfl ?_
 refine sq_nil ?_
 refine sr ?_
 refine sT 11 (.d (.agg (eCell t0))) rfl (w_ldp (eCell t0) (eCell t0) rfl · · · ag26 rfl (ble _ _ rfl) rfl) ?_
 refine sM 12 (iV t1) rfl rfl ?_
 obtain ⟨⟨t13a, t13b⟩, c1, h⟩ := bpos h
 refine sT 13 (.tup [.d (.agg (eShard t13a)), bV t13b]) rfl (w_call (ds := [(.agg (eCell t0)), (.s (.int .i64 t1))]) (caps := []) (l := [(.agg (eShard t13a)), (.s (.bool t13b))]) (s23 k t0 t1 _ c1) rfl rfl rfl en23 · · · (.inl ⟨rfl, rfl⟩) rfl rfl) ?_
 refine sM 10 (.tup [.d (.agg (eShard t13a)), bV t13b]) rfl rfl ?_
 refine sT 14 (.d (.agg (eShard t13a))) rfl (v_extract rfl · · · rfl rfl) ?_
 refine sT 15 (bV t13b) rfl (v_extract rfl · · · rfl rfl) ?_
 refine sq_cons _ (v_alloc (id := 8) (cs := zc45) rfl trivial rfl (ble _ _ rfl) zu45 rfl ft45 rfl) ?_
 refine sq_cons _ (v_store_box (id := 8) (off := 0) (cs := (eShard t13a).map V.d) rfl trivial rfl sz45 rfl rfl rfl rfl (ones_of rfl) (ble _ _ rfl)) ?_
 refine sM 9 (bV t13b) rfl rfl ?_
 refine sq_nil ?_
 refine ht_seq ?_
 refine sr ?_
 refine sM 16 (bV t13b) rfl rfl ?_
 refine sT 17 (bV (!t13b)) rfl (v_un rfl · · · rfl (u_not rfl)) ?_
 refine sM 18 (bV (!t13b)) rfl rfl ?_
 refine sF 19 (iV t2) rfl rfl (fun e2 => (v_move (.inl rfl) · · · rfl)) ?_
 refine sF 20 (.d (.sl 1 (([t2]).map (eI .i64)))) rfl rfl (fun e3 => (w_bsl_d [(0, iV t2)] [t2] (eI .i64) rfl · · · slT148 zr3 (encI .i64) (ble _ _ rfl) (cc (pr (gv (nF e3))) rfl) (by kernel_rfl) rfl rfl (by kernel_rfl))) ?_
 obtain ⟨t21, c5, h⟩ := bpos h
 refine sF 21 (bV t21) rfl rfl (fun e4 => (w_call (ds := [(.s (.int .i64 1)), (.sl 1 (([t2]).map (eI .i64)))]) (caps := []) (l := [(.s (.bool t21))]) (s57 k 1 ([t2]) _ (cpos (nF e4) c5)) rfl rfl rfl en57 · · · (.inl ⟨rfl, rfl⟩) (cc rfl (cc (gv (nF e4)) rfl)) rfl)) ?_
 refine sF 22 (bV (!t21)) rfl rfl (fun e6 => (v_un rfl · · · (gv (nF e6)) (u_not rfl))) ?_
 refine sT 23 (bV ((!t13b) || (!t21))) rfl (v_pickB rfl · · · rfl (fun e7 => rfl) (fun e8 => (gv (nF e8))) (pO _ _)) ?_
 refine sq_nil ?_
 refine ht_cond rfl (fun e9 => ?_) (fun e9 => ?_)
 ·replace h := cpos e9 h
  refine sr ?_
  refine sT 24 (.d (.agg (eCell t0))) rfl (w_ldp (eCell t0) (eCell t0) rfl · · · ag26 rfl (ble _ _ rfl) rfl) ?_
  refine sq_cons _ (v_store_box (id := 6) (off := 0) (cs := (eCell t0).map V.d) rfl trivial rfl sz26 rfl rfl rfl rfl (ones_of rfl) (ble _ _ rfl)) ?_
  refine sM 7 (bV false) rfl rfl ?_
  refine sq_nil ?_
  refine ht_ret ?_
  cases h
  exact ret2 rfl (.cell rfl rfl ag26 (ble _ _ rfl) rfl) (.tmp rfl)
 replace h := cneg e9 h
 refine ht_skip ?_
 refine ht_seq ?_
 refine sr ?_
 refine sT 25 (.ptr 8 16) rfl (v_field_box (off := 0) (a0 := 16) rfl · · · fo45_11 rfl) ?_
 refine sT 26 (iV t13a.mClosed) rfl (v_load_box1 (id := 8) (off := 16) rfl · · · onT3 rfl rfl (ble _ _ rfl) rfl) ?_
 refine sM 27 (iV t2) rfl rfl ?_
 refine sT 28 (bV (leI t2 t13a.mClosed)) rfl (v_bin rfl · · · rfl rfl (b_geq rfl)) ?_
 refine sM 29 (bV (leI t2 t13a.mClosed)) rfl rfl ?_
 refine sF 30 (.ptr 8 4) rfl rfl (fun e10 => (v_field_box (off := 0) (a0 := 4) rfl · · · fo45_3 rfl)) ?_
 refine sF 31 (iV t13a.mPhase) rfl rfl (fun e11 => (v_load_box1 (id := 8) (off := 4) rfl · · · onT3 (gv (nF e11)) rfl (ble _ _ rfl) rfl)) ?_
 refine sF 32 (bV (eqI t13a.mPhase 2)) rfl rfl (fun e12 => (v_bin rfl · · · (gv (nF e12)) rfl (b_eql rfl))) ?_
 refine sF 33 (bV (eqI t13a.mPhase 2)) rfl rfl (fun e13 => (v_move (.inl rfl) · · · (gv (nF e13)))) ?_
 refine sI 34 (.ptr 8 15) rfl rfl (fun e14 e15 => (v_field_box (off := 0) (a0 := 15) rfl · · · fo45_10 rfl)) ?_
 refine sI 35 (iV t13a.mMove) rfl rfl (fun e16 e17 => (v_load_box1 (id := 8) (off := 15) rfl · · · onT3 (gv (aT e16 e17)) rfl (ble _ _ rfl) rfl)) ?_
 refine sI 36 (iV t2) rfl rfl (fun e18 e19 => (v_move (.inl rfl) · · · rfl)) ?_
 refine sI 37 (bV (!eqI t13a.mMove t2)) rfl rfl (fun e20 e21 => (v_bin rfl · · · (gv (aT e20 e21)) (gv (aT e20 e21)) (b_neq rfl))) ?_
 refine sF 38 (bV ((eqI t13a.mPhase 2) && (!eqI t13a.mMove t2))) rfl rfl (fun e22 => (v_pickB rfl · · · (gv (nF e22)) (fun e23 => (gv (aT (nF e22) e23))) (fun e24 => rfl) (pA _ _))) ?_
 refine sT 39 (bV ((leI t2 t13a.mClosed) || ((eqI t13a.mPhase 2) && (!eqI t13a.mMove t2)))) rfl (v_pickB rfl · · · rfl (fun e25 => rfl) (fun e26 => (gv (nF e26))) (pO _ _)) ?_
 refine sq_nil ?_
 refine ht_cond rfl (fun e27 => ?_) (fun e27 => ?_)
 ·replace h := cpos e27 h
  refine sr ?_
  refine sT 40 (.d (.agg (eCell t0))) rfl (w_ldp (eCell t0) (eCell t0) rfl · · · ag26 rfl (ble _ _ rfl) rfl) ?_
  refine sq_cons _ (v_store_box (id := 6) (off := 0) (cs := (eCell t0).map V.d) rfl trivial rfl sz26 rfl rfl rfl rfl (ones_of rfl) (ble _ _ rfl)) ?_
  refine sM 7 (bV true) rfl rfl ?_
  refine sq_nil ?_
  refine ht_ret ?_
  cases h
  exact ret2 rfl (.cell rfl rfl ag26 (ble _ _ rfl) rfl) (.tmp rfl)
 replace h := cneg e27 h
 refine ht_skip ?_
 refine sr ?_
 refine sM 41 (iV t2) rfl rfl ?_
 refine sT 42 (.ptr 8 16) rfl (v_field_box (off := 0) (a0 := 16) rfl · · · fo45_11 rfl) ?_
 refine sq_cons _ (v_store_box (id := 8) (off := 16) (cs := [(.s (.int .i64 t2))].map V.d) rfl trivial rfl sz3 rfl rfl rfl rfl (ones_of rfl) (ble _ _ rfl)) ?_
 refine sq_nil ?_
 refine ht_seq ?_
 refine sr ?_
 refine sT 43 (.d (.agg (eShard ({t13a with mClosed := t2})))) rfl (w_ldb 8 0 rfl · · · ag45 rfl rfl (ble _ _ rfl) rfl) ?_
 refine sM 44 (iV t2) rfl rfl ?_
 obtain ⟨t45, c28, h⟩ := bpos h
 refine sT 45 (bV t45) rfl (w_call (ds := [(.agg (eShard ({t13a with mClosed := t2}))), (.s (.int .i64 t2))]) (caps := []) (l := [(.s (.bool t45))]) (s94 k ({t13a with mClosed := t2}) t2 _ c28) rfl rfl rfl en94 · · · (.inl ⟨rfl, rfl⟩) rfl rfl) ?_
 refine sq_nil ?_
 refine ht_cond rfl (fun e29 => ?_) (fun e29 => ?_)
 ·replace h := cpos e29 h
  refine ht_region ?_
  refine sT 46 (.ptr 8 4) rfl (v_field_box (off := 0) (a0 := 4) rfl · · · fo45_3 rfl) ?_
  refine sq_cons _ (v_store_box (id := 8) (off := 4) (cs := [(.s (.int .i64 1))].map V.d) rfl trivial rfl sz3 rfl rfl rfl rfl (ones_of rfl) (ble _ _ rfl)) ?_
  refine sq_nil ?_
  refine sr ?_
  refine sT 47 (.d (.agg (eCell t0))) rfl (w_ldp (eCell t0) (eCell t0) rfl · · · ag26 rfl (ble _ _ rfl) rfl) ?_
  refine sT 48 (.d (.agg (eShard ({t13a with mPhase := 1, mClosed := t2})))) rfl (w_ldb 8 0 rfl · · · ag45 rfl rfl (ble _ _ rfl) rfl) ?_
  obtain ⟨t49, c30, h⟩ := bpos h
  refine sT 49 (.d (.agg (eCell t49))) rfl (w_call (ds := [(.agg (eCell t0)), (.agg (eShard ({t13a with mPhase := 1, mClosed := t2})))]) (caps := []) (l := [(.agg (eCell t49))]) (s95 k t0 ({t13a with mPhase := 1, mClosed := t2}) _ c30) rfl rfl rfl en95 · · · (.inl ⟨rfl, rfl⟩) rfl rfl) ?_
  refine sq_cons _ (v_store_box (id := 6) (off := 0) (cs := (eCell t49).map V.d) rfl trivial rfl sz26 rfl rfl rfl rfl (ones_of rfl) (ble _ _ rfl)) ?_
  refine sM 7 (bV true) rfl rfl ?_
  refine sq_nil ?_
  refine ht_ret ?_
  cases h
  exact ret2 rfl (.cell rfl rfl ag26 (ble _ _ rfl) rfl) (.tmp rfl)
 replace h := cneg e29 h
 refine ht_skip ?_
 refine sr ?_
 refine sT 47 (.d (.agg (eCell t0))) rfl (w_ldp (eCell t0) (eCell t0) rfl · · · ag26 rfl (ble _ _ rfl) rfl) ?_
 refine sT 48 (.d (.agg (eShard ({t13a with mClosed := t2})))) rfl (w_ldb 8 0 rfl · · · ag45 rfl rfl (ble _ _ rfl) rfl) ?_
 obtain ⟨t49_1, c31, h⟩ := bpos h
 refine sT 49 (.d (.agg (eCell t49_1))) rfl (w_call (ds := [(.agg (eCell t0)), (.agg (eShard ({t13a with mClosed := t2})))]) (caps := []) (l := [(.agg (eCell t49_1))]) (s95 k t0 ({t13a with mClosed := t2}) _ c31) rfl rfl rfl en95 · · · (.inl ⟨rfl, rfl⟩) rfl rfl) ?_
 refine sq_cons _ (v_store_box (id := 6) (off := 0) (cs := (eCell t49_1).map V.d) rfl trivial rfl sz26 rfl rfl rfl rfl (ones_of rfl) (ble _ _ rfl)) ?_
 refine sM 7 (bV true) rfl rfl ?_
 refine sq_nil ?_
 refine ht_ret ?_
 cases h
 exact ret2 rfl (.cell rfl rfl ag26 (ble _ _ rfl) rfl) (.tmp rfl)
theorem s47 (k : Nat) (t0 : Cell) (t1 : Int) (t2 : Int) (r : Cell × Bool) (h : F47 k t0 t1 t2 = some r) : Awp.Spec Tryz.prog amb 47 [(.agg (eCell t0)), (.s (.int .i64 t1)), (.s (.int .i64 t2))] (.ds [(.agg (eCell r.1)), (.s (.bool r.2))]) := by
 rw [F47] at h
 refine spec_of Tryz.func47 rfl (ble _ _ rfl) fun w0 ok0 lt0 hA => ?_
 refine sr ?_
 refine sq_cons _ (v_box (id := 3) (cs := (eCell t0).map V.d) rfl trivial rfl (ble _ _ rfl) rfl rfl (ones_of rfl) rfl) ?_
 refine sq_cons _ (v_alloc (id := 6) (cs := zc26) rfl trivial rfl (ble _ _ rfl) zu26 rfl ft26 rfl) ?_
 refine sM 7 (bV false) rfl rfl ?_
 refine sq_nil ?_
 refine ht_seq ?_
 refine sr ?_
 refine sT 8 (.d (.agg (eCell t0))) rfl (w_ldb 3 0 rfl · · · ag26 rfl rfl (ble _ _ rfl) rfl) ?_
 obtain ⟨t9, c1, h⟩ := bpos h
 refine sT 9 (bV t9) rfl (w_call (ds := [(.agg (eCell t0))]) (caps := []) (l := [(.s (.bool t9))]) (s25 k t0 _ c1) rfl rfl rfl en25 · · · (.inl ⟨rfl, rfl⟩) rfl rfl) ?_
 refine sT 10 (bV (!t9)) rfl (v_un rfl · · · rfl (u_not rfl)) ?_
 refine sM 11 (bV (!t9)) rfl rfl ?_
 refine sF 12 (iV t1) rfl rfl (fun e2 => (v_move (.inl rfl) · · · rfl)) ?_
 refine sF 13 (iV t2) rfl rfl (fun e3 => (v_move (.inl rfl) · · · rfl)) ?_
 refine sF 14 (.d (.sl 1 (([t1, t2]).map (eI .i64)))) rfl rfl (fun e4 => (w_bsl_d [(0, iV t1), (1, iV t2)] [t1, t2] (eI .i64) rfl · · · slT148 zr3 (encI .i64) (ble _ _ rfl) (cc (pr (gv (nF e4))) (cc (pr (gv (nF e4))) rfl)) (by kernel_rfl) rfl rfl (by kernel_rfl))) ?_
 obtain ⟨t15, c6, h⟩ := bpos h
 refine sF 15 (bV t15) rfl rfl (fun e5 => (w_call (ds := [(.s (.int .i64 1)), (.sl 1 (([t1, t2]).map (eI .i64)))]) (caps := []) (l := [(.s (.bool t15))]) (s57 k 1 ([t1, t2]) _ (cpos (nF e5) c6)) rfl rfl rfl en57 · · · (.inl ⟨rfl, rfl⟩) (cc rfl (cc (gv (nF e5)) rfl)) rfl)) ?_
 refine sF 16 (bV (!t15)) rfl rfl (fun e7 => (v_un rfl · · · (gv (nF e7)) (u_not rfl))) ?_
 refine sT 17 (bV ((!t9) || (!t15))) rfl (v_pickB rfl · · · rfl (fun e8 => rfl) (fun e9 => (gv (nF e9))) (pO _ _)) ?_
 refine sq_nil ?_
 refine ht_cond rfl (fun e10 => ?_) (fun e10 => ?_)
 ·replace h := cpos e10 h
  refine sr ?_
  refine sT 18 (.d (.agg (eCell t0))) rfl (w_ldb 3 0 rfl · · · ag26 rfl rfl (ble _ _ rfl) rfl) ?_
  refine sq_cons _ (v_store_box (id := 6) (off := 0) (cs := (eCell t0).map V.d) rfl trivial rfl sz26 rfl rfl rfl rfl (ones_of rfl) (ble _ _ rfl)) ?_
  refine sM 7 (bV false) rfl rfl ?_
  refine sq_nil ?_
  refine ht_ret ?_
  cases h
  exact ret2 rfl (.cell rfl rfl ag26 (ble _ _ rfl) rfl) (.tmp rfl)
 replace h := cneg e10 h
 refine ht_skip ?_
 refine ht_seq ?_
 refine sr ?_
 refine sT 19 (.d (.agg (eCell t0))) rfl (w_ldb 3 0 rfl · · · ag26 rfl rfl (ble _ _ rfl) rfl) ?_
 refine sM 20 (iV t1) rfl rfl ?_
 obtain ⟨t21, c11, h⟩ := bpos h
 refine sT 21 (.d (.agg (eShard t21))) rfl (w_call (ds := [(.agg (eCell t0)), (.s (.int .i64 t1))]) (caps := []) (l := [(.agg (eShard t21))]) (s60 k t0 t1 _ c11) rfl rfl rfl en60 · · · (.inl ⟨rfl, rfl⟩) rfl rfl) ?_
 refine sM 22 (iV t2) rfl rfl ?_
 obtain ⟨t23, c12, h⟩ := bpos h
 refine sT 23 (bV t23) rfl (w_call (ds := [(.agg (eShard t21)), (.s (.int .i64 t2))]) (caps := []) (l := [(.s (.bool t23))]) (s93 k t21 t2 _ c12) rfl rfl rfl en93 · · · (.inl ⟨rfl, rfl⟩) rfl rfl) ?_
 refine sq_nil ?_
 refine ht_cond rfl (fun e13 => ?_) (fun e13 => ?_)
 ·replace h := cpos e13 h
  refine ht_region ?_
  refine sT 24 (.d (.agg (eCell t0))) rfl (w_ldb 3 0 rfl · · · ag26 rfl rfl (ble _ _ rfl) rfl) ?_
  refine sM 25 (iV t1) rfl rfl ?_
  obtain ⟨t26, c14, h⟩ := bpos h
  refine sT 26 (.d (.agg (eCell t26))) rfl (w_call (ds := [(.agg (eCell t0)), (.s (.int .i64 t1))]) (caps := []) (l := [(.agg (eCell t26))]) (s105 k t0 t1 _ c14) rfl rfl rfl en105 · · · (.inl ⟨rfl, rfl⟩) rfl rfl) ?_
  refine sq_cons _ (v_store_box (id := 3) (off := 0) (cs := (eCell t26).map V.d) rfl trivial rfl sz26 rfl rfl rfl rfl (ones_of rfl) (ble _ _ rfl)) ?_
  refine sq_nil ?_
  refine sr ?_
  refine sT 27 (.ptr 3 4) rfl (v_field_box (off := 0) (a0 := 4) rfl · · · fo26_2 rfl) ?_
  refine sT 28 (iV t26.mDropped) rfl (v_load_box1 (id := 3) (off := 4) rfl · · · onT3 rfl rfl (ble _ _ rfl) rfl) ?_
  refine sM 29 (iV t2) rfl rfl ?_
  refine sT 30 (iV (maxI t26.mDropped t2)) rfl (v_bi2 rfl rfl · · · rfl rfl (r_max und3 rfl)) ?_
  refine sT 31 (.ptr 3 4) rfl (v_field_box (off := 0) (a0 := 4) rfl · · · fo26_2 rfl) ?_
  refine sq_cons _ (v_store_box (id := 3) (off := 4) (cs := [(.s (.int .i64 (maxI t26.mDropped t2)))].map V.d) rfl trivial rfl sz3 rfl rfl rfl rfl (ones_of rfl) (ble _ _ rfl)) ?_
  refine sq_nil ?_
  refine sr ?_
  refine sT 32 (.d (.agg (eCell ({t26 with mDropped := (maxI t26.mDropped t2)})))) rfl (w_ldb 3 0 rfl · · · ag26 rfl rfl (ble _ _ rfl) rfl) ?_
  refine sq_cons _ (v_store_box (id := 6) (off := 0) (cs := (eCell ({t26 with mDropped := (maxI t26.mDropped t2)})).map V.d) rfl trivial rfl sz26 rfl rfl rfl rfl (ones_of rfl) (ble _ _ rfl)) ?_
  refine sM 7 (bV true) rfl rfl ?_
  refine sq_nil ?_
  refine ht_ret ?_
  cases h
  exact ret2 rfl (.cell rfl rfl ag26 (ble _ _ rfl) rfl) (.tmp rfl)
 replace h := cneg e13 h
 refine ht_skip ?_
 refine sr ?_
 refine sT 27 (.ptr 3 4) rfl (v_field_box (off := 0) (a0 := 4) rfl · · · fo26_2 rfl) ?_
 refine sT 28 (iV t0.mDropped) rfl (v_load_box1 (id := 3) (off := 4) rfl · · · onT3 rfl rfl (ble _ _ rfl) rfl) ?_
 refine sM 29 (iV t2) rfl rfl ?_
 refine sT 30 (iV (maxI t0.mDropped t2)) rfl (v_bi2 rfl rfl · · · rfl rfl (r_max und3 rfl)) ?_
 refine sT 31 (.ptr 3 4) rfl (v_field_box (off := 0) (a0 := 4) rfl · · · fo26_2 rfl) ?_
 refine sq_cons _ (v_store_box (id := 3) (off := 4) (cs := [(.s (.int .i64 (maxI t0.mDropped t2)))].map V.d) rfl trivial rfl sz3 rfl rfl rfl rfl (ones_of rfl) (ble _ _ rfl)) ?_
 refine sq_nil ?_
 refine sr ?_
 refine sT 32 (.d (.agg (eCell ({t0 with mDropped := (maxI t0.mDropped t2)})))) rfl (w_ldb 3 0 rfl · · · ag26 rfl rfl (ble _ _ rfl) rfl) ?_
 refine sq_cons _ (v_store_box (id := 6) (off := 0) (cs := (eCell ({t0 with mDropped := (maxI t0.mDropped t2)})).map V.d) rfl trivial rfl sz26 rfl rfl rfl rfl (ones_of rfl) (ble _ _ rfl)) ?_
 refine sM 7 (bV true) rfl rfl ?_
 refine sq_nil ?_
 refine ht_ret ?_
 cases h
 exact ret2 rfl (.cell rfl rfl ag26 (ble _ _ rfl) rfl) (.tmp rfl)
theorem s106 (k : Nat) (t0 : Span) (t1 : ByteArray) (r : Span × Span × Int) (h : F106 k t0 t1 = some r) : Awp.Spec Tryz.prog amb 106 [(.agg (eSpan t0)), (.s (.string t1))] (.ds [(.agg (eSpan r.1)), (.agg (eSpan r.2.1)), (.s (.int .i64 r.2.2))]) := by
 rw [F106] at h
 refine spec_of Tryz.func106 rfl (ble _ _ rfl) fun w0 ok0 lt0 hA => ?_
 refine sr ?_
 refine sT 2 (.d (.dp (eSpan t0))) rfl (v_box_d (cs := (eSpan t0)) rfl · · · rfl rfl (ones_of rfl)) ?_
 refine sq_cons _ (v_alloc (id := 4) (cs := zc41) rfl trivial rfl (ble _ _ rfl) zu41 rfl ft41 rfl) ?_
 refine sq_cons _ (v_alloc (id := 5) (cs := zc41) rfl trivial rfl (ble _ _ rfl) zu41 rfl ft41 rfl) ?_
 refine sM 6 (iV 0) rfl rfl ?_
 refine sq_nil ?_
 refine ht_seq ?_
 refine ht_block ?_
 refine sr ?_
 refine sT 8 (.d (.agg (eSpan t0))) rfl (w_ldp (eSpan t0) (eSpan t0) rfl · · · ag41 rfl (ble _ _ rfl) rfl) ?_
 obtain ⟨t9, c1, h⟩ := bpos h
 refine sT 9 (bV t9) rfl (w_call (ds := [(.agg (eSpan t0))]) (caps := []) (l := [(.s (.bool t9))]) (s80 k t0 _ c1) rfl rfl rfl en80 · · · (.inl ⟨rfl, rfl⟩) rfl rfl) ?_
 refine sT 10 (bV (!t9)) rfl (v_un rfl · · · rfl (u_not rfl)) ?_
 refine sM 11 (bV (!t9)) rfl rfl ?_
 refine sF 12 (sV t1) rfl rfl (fun e2 => (v_move (.inl rfl) · · · rfl)) ?_
 obtain ⟨t13, c4, h⟩ := bpos h
 refine sF 13 (bV t13) rfl rfl (fun e3 => (w_call (ds := [(.s (.string t1))]) (caps := []) (l := [(.s (.bool t13))]) (s122 k t1 _ (cpos (nF e3) c4)) rfl rfl rfl en122 · · · (.inl ⟨rfl, rfl⟩) (cc (gv (nF e3)) rfl) rfl)) ?_
 refine sF 14 (bV (!t13)) rfl rfl (fun e5 => (v_un rfl · · · (gv (nF e5)) (u_not rfl))) ?_
 refine sT 15 (bV ((!t9) || (!t13))) rfl (v_pickB rfl · · · rfl (fun e6 => rfl) (fun e7 => (gv (nF e7))) (pO _ _)) ?_
 refine sM 7 (bV ((!t9) || (!t13))) rfl rfl ?_
 refine sq_nil ?_
 refine ht_cond rfl (fun e8 => ?_) (fun e8 => ?_)
 ·replace h := cpos e8 h
  refine sr ?_
  refine sT 16 (.d (.agg (eSpan (⟨⟨#[]⟩, ⟨#[]⟩⟩ : Span)))) rfl (w_bld zc41 ((eSpan (⟨⟨#[]⟩, ⟨#[]⟩⟩ : Span)).map V.d) [] rfl · · · zw41 rfl ft41 rfl rfl rfl rfl) ?_
  refine sT 17 (.d (.agg (eSpan (⟨⟨#[]⟩, ⟨#[]⟩⟩ : Span)))) rfl (w_bld zc41 ((eSpan (⟨⟨#[]⟩, ⟨#[]⟩⟩ : Span)).map V.d) [] rfl · · · zw41 rfl ft41 rfl rfl rfl rfl) ?_
  refine sq_cons _ (v_store_box (id := 4) (off := 0) (cs := (eSpan (⟨⟨#[]⟩, ⟨#[]⟩⟩ : Span)).map V.d) rfl trivial rfl sz41 rfl rfl rfl rfl (ones_of rfl) (ble _ _ rfl)) ?_
  refine sq_cons _ (v_store_box (id := 5) (off := 0) (cs := (eSpan (⟨⟨#[]⟩, ⟨#[]⟩⟩ : Span)).map V.d) rfl trivial rfl sz41 rfl rfl rfl rfl (ones_of rfl) (ble _ _ rfl)) ?_
  refine sM 6 (iV 1) rfl rfl ?_
  refine sq_nil ?_
  refine ht_ret ?_
  cases h
  exact ret3 rfl (.cell rfl rfl ag41 (ble _ _ rfl) rfl) (.cell rfl rfl ag41 (ble _ _ rfl) rfl) (.tmp rfl)
 replace h := cneg e8 h
 refine sr ?_
 refine sM 19 (sV t1) rfl rfl ?_
 refine sT 20 (.d (.dp (eSpan t0))) rfl (v_field_dp (a0 := 0) (cs := (eSpan t0)) rfl · · · fo41_0 rfl) ?_
 refine sT 21 (sV t0.mLo) rfl (v_load_dp1 rfl · · · onT9 rfl rfl) ?_
 refine sT 22 (bV (strEq t1 t0.mLo)) rfl (v_bin rfl · · · rfl rfl (b_eqS rfl)) ?_
 refine sM 23 (bV (strEq t1 t0.mLo)) rfl rfl ?_
 refine sF 24 (.d (.agg (eSpan t0))) rfl rfl (fun e9 => (w_ldp (eSpan t0) (eSpan t0) rfl · · · ag41 rfl (ble _ _ rfl) rfl)) ?_
 refine sF 25 (sV t1) rfl rfl (fun e10 => (v_move (.inl rfl) · · · rfl)) ?_
 obtain ⟨t26, c12, h⟩ := bpos h
 refine sF 26 (bV t26) rfl rfl (fun e11 => (w_call (ds := [(.agg (eSpan t0)), (.s (.string t1))]) (caps := []) (l := [(.s (.bool t26))]) (s61 k t0 t1 _ (cpos (nF e11) c12)) rfl rfl rfl en61 · · · (.inl ⟨rfl, rfl⟩) (cc (gv (nF e11)) (cc (gv (nF e11)) rfl)) rfl)) ?_
 refine sF 27 (bV (!t26)) rfl rfl (fun e13 => (v_un rfl · · · (gv (nF e13)) (u_not rfl))) ?_
 refine sT 28 (bV ((strEq t1 t0.mLo) || (!t26))) rfl (v_pickB rfl · · · rfl (fun e14 => rfl) (fun e15 => (gv (nF e15))) (pO _ _)) ?_
 refine sM 18 (bV ((strEq t1 t0.mLo) || (!t26))) rfl rfl ?_
 refine sq_nil ?_
 refine ht_cond rfl (fun e16 => ?_) (fun e16 => ?_)
 ·replace h := cpos e16 h
  refine sr ?_
  refine sT 29 (.d (.agg (eSpan (⟨⟨#[]⟩, ⟨#[]⟩⟩ : Span)))) rfl (w_bld zc41 ((eSpan (⟨⟨#[]⟩, ⟨#[]⟩⟩ : Span)).map V.d) [] rfl · · · zw41 rfl ft41 rfl rfl rfl rfl) ?_
  refine sT 30 (.d (.agg (eSpan (⟨⟨#[]⟩, ⟨#[]⟩⟩ : Span)))) rfl (w_bld zc41 ((eSpan (⟨⟨#[]⟩, ⟨#[]⟩⟩ : Span)).map V.d) [] rfl · · · zw41 rfl ft41 rfl rfl rfl rfl) ?_
  refine sq_cons _ (v_store_box (id := 4) (off := 0) (cs := (eSpan (⟨⟨#[]⟩, ⟨#[]⟩⟩ : Span)).map V.d) rfl trivial rfl sz41 rfl rfl rfl rfl (ones_of rfl) (ble _ _ rfl)) ?_
  refine sq_cons _ (v_store_box (id := 5) (off := 0) (cs := (eSpan (⟨⟨#[]⟩, ⟨#[]⟩⟩ : Span)).map V.d) rfl trivial rfl sz41 rfl rfl rfl rfl (ones_of rfl) (ble _ _ rfl)) ?_
  refine sM 6 (iV 9) rfl rfl ?_
  refine sq_nil ?_
  refine ht_ret ?_
  cases h
  exact ret3 rfl (.cell rfl rfl ag41 (ble _ _ rfl) rfl) (.cell rfl rfl ag41 (ble _ _ rfl) rfl) (.tmp rfl)
 replace h := cneg e16 h
 refine ht_skip ?_
 refine ht_seq ?_
 refine ht_region_draw mixed ?_
 refine rT 31 (.d (.dp (eSpan t0))) rfl (v_field_dp (a0 := 0) (cs := (eSpan t0)) rfl · · · fo41_0 rfl) ?_
 refine rT 32 (sV t0.mLo) rfl (v_load_dp1 rfl · · · onT9 rfl rfl) ?_
 refine rM 33 (sV t1) rfl rfl ?_
 refine rT 34 (.d (.agg (eSpan ({t0 with mHi := t1})))) rfl (w_bld zc41 ((eSpan ({t0 with mHi := t1})).map V.d) [(0, sV t0.mLo), (1, sV t1)] rfl · · · zw41 rfl ft41 rfl rfl rfl rfl) ?_
 refine rM 35 (sV t1) rfl rfl ?_
 refine rT 36 (.d (.dp (List.drop 1 (eSpan t0)))) rfl (v_field_dp (a0 := 1) (cs := (eSpan t0)) rfl · · · fo41_1 rfl) ?_
 refine rT 37 (sV t0.mHi) rfl (v_load_dp1 rfl · · · onT9 rfl rfl) ?_
 refine rT 38 (.d (.agg (eSpan ({t0 with mLo := t1})))) rfl (w_bld zc41 ((eSpan ({t0 with mLo := t1})).map V.d) [(0, sV t1), (1, sV t0.mHi)] rfl · · · zw41 rfl ft41 rfl rfl rfl rfl) ?_
 refine rg_cons _ (v_store_box (id := 4) (off := 0) (cs := (eSpan ({t0 with mHi := t1})).map V.d) rfl trivial rfl sz41 rfl rfl rfl rfl (ones_of rfl) (ble _ _ rfl)) ?_
 refine rg_cons _ (v_store_box (id := 5) (off := 0) (cs := (eSpan ({t0 with mLo := t1})).map V.d) rfl trivial rfl sz41 rfl rfl rfl rfl (ones_of rfl) (ble _ _ rfl)) ?_
 refine rM 6 (iV 0) rfl rfl ?_
 refine rg_nil ⟨by kernel_rfl, ?_⟩
 refine ht_ret ?_
 cases h
 exact ret3 rfl (.cell rfl rfl ag41 (ble _ _ rfl) rfl) (.cell rfl rfl ag41 (ble _ _ rfl) rfl) (.tmp rfl)
theorem s107 (k : Nat) (t0 : Shard) (t1 : Int) (r : Bool) (h : F107 k t0 t1 = some r) : Awp.Spec Tryz.prog amb 107 [(.agg (eShard t0)), (.s (.int .i64 t1))] (.ds [(.s (.bool r))]) := by
 rw [F107] at h
 refine spec_of Tryz.func107 rfl (ble _ _ rfl) fun w0 ok0 lt0 hA => ?_
 refine sr ?_
 refine sT 2 (.d (.dp (eShard t0))) rfl (v_box_d (cs := (eShard t0)) rfl · · · rfl rfl (ones_of rfl)) ?_
 refine sM 4 (bV false) rfl rfl ?_
 refine sq_nil ?_
 refine sr ?_
 refine sT 5 (.d (.dp (eShard t0))) rfl (v_field_dp (a0 := 0) (cs := (eShard t0)) rfl · · · fo45_0 rfl) ?_
 refine sT 6 (iV t0.mID) rfl (v_load_dp1 rfl · · · onT3 rfl rfl) ?_
 refine sT 7 (bV (!eqI t0.mID 0)) rfl (v_bin rfl · · · rfl rfl (b_neq rfl)) ?_
 refine sM 8 (bV (!eqI t0.mID 0)) rfl rfl ?_
 refine sG 9 (.d (.dp (List.drop 1 (eShard t0)))) rfl rfl (fun e1 => (v_field_dp (a0 := 1) (cs := (eShard t0)) rfl · · · fo45_1 rfl)) ?_
 refine sG 10 (iV t0.mEpoch) rfl rfl (fun e2 => (v_load_dp1 rfl · · · onT3 (gv e2) rfl)) ?_
 refine sG 11 (iV t1) rfl rfl (fun e3 => (v_move (.inl rfl) · · · rfl)) ?_
 refine sG 12 (bV (eqI t0.mEpoch t1)) rfl rfl (fun e4 => (v_bin rfl · · · (gv e4) (gv e4) (b_eql rfl))) ?_
 refine sT 13 (bV ((!eqI t0.mID 0) && (eqI t0.mEpoch t1))) rfl (v_pickB rfl · · · rfl (fun e5 => (gv e5)) (fun e6 => rfl) (pA _ _)) ?_
 refine sM 14 (bV ((!eqI t0.mID 0) && (eqI t0.mEpoch t1))) rfl rfl ?_
 refine sG 15 (.d (.dp (List.drop 4 (eShard t0)))) rfl rfl (fun e7 => (v_field_dp (a0 := 4) (cs := (eShard t0)) rfl · · · fo45_3 rfl)) ?_
 refine sG 16 (iV t0.mPhase) rfl rfl (fun e8 => (v_load_dp1 rfl · · · onT3 (gv e8) rfl)) ?_
 refine sG 17 (bV (eqI t0.mPhase 1)) rfl rfl (fun e9 => (v_bin rfl · · · (gv e9) rfl (b_eql rfl))) ?_
 refine sT 18 (bV (((!eqI t0.mID 0) && (eqI t0.mEpoch t1)) && (eqI t0.mPhase 1))) rfl (v_pickB rfl · · · rfl (fun e10 => (gv e10)) (fun e11 => rfl) (pA _ _)) ?_
 refine sM 19 (bV (((!eqI t0.mID 0) && (eqI t0.mEpoch t1)) && (eqI t0.mPhase 1))) rfl rfl ?_
 refine sG 20 (.d (.dp (List.drop 13 (eShard t0)))) rfl rfl (fun e12 => (v_field_dp (a0 := 13) (cs := (eShard t0)) rfl · · · fo45_8 rfl)) ?_
 refine sG 21 (iV t0.mHold) rfl rfl (fun e13 => (v_load_dp1 rfl · · · onT3 (gv e13) rfl)) ?_
 refine sG 22 (bV (eqI t0.mHold 0)) rfl rfl (fun e14 => (v_bin rfl · · · (gv e14) rfl (b_eql rfl))) ?_
 refine sT 23 (bV ((((!eqI t0.mID 0) && (eqI t0.mEpoch t1)) && (eqI t0.mPhase 1)) && (eqI t0.mHold 0))) rfl (v_pickB rfl · · · rfl (fun e15 => (gv e15)) (fun e16 => rfl) (pA _ _)) ?_
 refine sM 4 (bV ((((!eqI t0.mID 0) && (eqI t0.mEpoch t1)) && (eqI t0.mPhase 1)) && (eqI t0.mHold 0))) rfl rfl ?_
 refine sq_nil ?_
 refine ht_ret ?_
 cases h
 exact ret1 rfl (.tmp rfl)
theorem s108 (k : Nat) (t0 : List Entry) (t1 : ByteArray) (r : (List Entry) × (List Entry)) (h : F108 k t0 t1 = some r) : Awp.Spec Tryz.prog amb 108 [(.sl 2 (t0.map eEntry)), (.s (.string t1))] (.ds [(.sl 2 (r.1.map eEntry)), (.sl 2 (r.2.map eEntry))]) := by
 rw [F108] at h
 refine spec_of Tryz.func108 rfl (ble _ _ rfl) fun w0 ok0 lt0 hA => ?_
 refine sr ?_
 refine sM 4 (.d (.s (.slice none 0 0))) rfl rfl ?_
 refine sM 5 (.d (.s (.slice none 0 0))) rfl rfl ?_
 refine sq_nil ?_
 refine ht_seq ?_
 refine sr ?_
 refine sM 8 (.d (.sl 2 (t0.map eEntry))) rfl rfl ?_
 obtain ⟨t9, c1, h⟩ := bpos h
 refine sT 9 (bV t9) rfl (w_call (ds := [(.sl 2 (t0.map eEntry))]) (caps := []) (l := [(.s (.bool t9))]) (s81 k t0 _ c1) rfl rfl rfl en81 · · · (.inl ⟨rfl, rfl⟩) rfl rfl) ?_
 refine sT 10 (bV (!t9)) rfl (v_un rfl · · · rfl (u_not rfl)) ?_
 refine sq_nil ?_
 refine ht_cond rfl (fun e2 => ?_) (fun e2 => ?_)
 ·replace h := cpos e2 h
  refine sr ?_
  refine sM 4 (.d (.s (.slice none 0 0))) rfl rfl ?_
  refine sM 5 (.d (.s (.slice none 0 0))) rfl rfl ?_
  refine sq_nil ?_
  refine ht_ret ?_
  cases h
  exact retM_wk (wk_nil (.t 4) (nb 4) 2 rfl) (retM_wk (wk_nil (.t 5) (nb 5) 2 rfl) (ret2 rfl (.tmp rfl) (.tmp rfl)))
 replace h := cneg e2 h
 refine ht_skip ?_
 refine sr ?_
 refine sM 12 (.d (.sl 2 (t0.map eEntry))) rfl rfl ?_
 refine sM 13 (sV t1) rfl rfl ?_
 obtain ⟨⟨t14a, t14b⟩, c3, h⟩ := bpos h
 refine sT 14 (.tup [iV t14a, bV t14b]) rfl (w_call (ds := [(.sl 2 (t0.map eEntry)), (.s (.string t1))]) (caps := []) (l := [(.s (.int .i64 t14a)), (.s (.bool t14b))]) (s148 k t0 t1 _ c3) rfl rfl rfl en148 · · · (.inl ⟨rfl, rfl⟩) rfl rfl) ?_
 refine sM 11 (.tup [iV t14a, bV t14b]) rfl rfl ?_
 refine sT 15 (iV t14a) rfl (v_extract rfl · · · rfl rfl) ?_
 refine sT 16 (bV t14b) rfl (v_extract rfl · · · rfl rfl) ?_
 refine sM 6 (iV t14a) rfl rfl ?_
 refine sM 7 (bV t14b) rfl rfl ?_
 refine sq_nil ?_
 refine ht_seq ?_
 refine ht_region_draw mixed ?_
 refine rM 17 (.d (.sl 2 (t0.map eEntry))) rfl rfl ?_
 refine rM 18 (iV t14a) rfl rfl ?_
 obtain ⟨e4, h⟩ := gpos h
 refine rT 19 (.d (.sl 2 ((List.take t14a.toNat t0).map eEntry))) rfl (w_cuth t0 eEntry rfl · · · slT42 rfl rfl e4) ?_
 obtain ⟨t20, c5, h⟩ := bpos h
 refine rT 20 (.d (.sl 2 (t20.map eEntry))) rfl (w_call (ds := [(.sl 2 ((List.take t14a.toNat t0).map eEntry))]) (caps := []) (l := [(.sl 2 (t20.map eEntry))]) (s149 k (List.take t14a.toNat t0) _ c5) rfl rfl rfl en149 · · · (.inl ⟨rfl, rfl⟩) rfl rfl) ?_
 refine rM 21 (.d (.sl 2 (t0.map eEntry))) rfl rfl ?_
 refine rM 22 (iV t14a) rfl rfl ?_
 obtain ⟨e6, h⟩ := gpos h
 refine rT 23 (.d (.sl 2 ((List.drop t14a.toNat t0).map eEntry))) rfl (w_cutl t0 eEntry rfl · · · slT42 rfl rfl e6) ?_
 obtain ⟨t24, c7, h⟩ := bpos h
 refine rT 24 (.d (.sl 2 (t24.map eEntry))) rfl (w_call (ds := [(.sl 2 ((List.drop t14a.toNat t0).map eEntry))]) (caps := []) (l := [(.sl 2 (t24.map eEntry))]) (s149 k (List.drop t14a.toNat t0) _ c7) rfl rfl rfl en149 · · · (.inl ⟨rfl, rfl⟩) rfl rfl) ?_
 refine rM 4 (.d (.sl 2 (t20.map eEntry))) rfl rfl ?_
 refine rM 5 (.d (.sl 2 (t24.map eEntry))) rfl rfl ?_
 refine rg_nil ⟨by kernel_rfl, ?_⟩
 refine ht_ret ?_
 cases h
 exact ret2 rfl (.tmp rfl) (.tmp rfl)
theorem s48 (k : Nat) (t0 : Cell) (t1 : Int) (t2 : Int) (t3 : ByteArray) (t4 : Int) (t5 : Int) (r : Cell × Bool) (h : F48 k t0 t1 t2 t3 t4 t5 = some r) : Awp.Spec Tryz.prog amb 48 [(.agg (eCell t0)), (.s (.int .i64 t1)), (.s (.int .i64 t2)), (.s (.string t3)), (.s (.int .i64 t4)), (.s (.int .i64 t5))] (.ds [(.agg (eCell r.1)), (.s (.bool r.2))]) := by
 rw [F48] at h
 refine spec_of Tryz.func48 rfl (ble _ _ rfl) fun w0 ok0 lt0 hA => ?_
 refine sr ?_
 refine sT 6 (.d (.dp (eCell t0))) rfl (v_box_d (cs := (eCell t0)) rfl · · · rfl rfl (ones_of rfl)) ?_
 refine sq_cons _ (v_alloc (id := 12) (cs := zc26) rfl trivial rfl (ble _ _ rfl) zu26 rfl ft26 rfl) ?_
 refine sM 13 (bV false) rfl rfl ?_
 refine sq_nil ?_
 refine ht_seq ?_
 refine sr ?_
 refine sT 19 (.d (.agg (eCell t0))) rfl (w_ldp (eCell t0) (eCell t0) rfl · · · ag26 rfl (ble _ _ rfl) rfl) ?_
 obtain ⟨t20, c1, h⟩ := bpos h
 refine sT 20 (bV t20) rfl (w_call (ds := [(.agg (eCell t0))]) (caps := []) (l := [(.s (.bool t20))]) (s25 k t0 _ c1) rfl rfl rfl en25 · · · (.inl ⟨rfl, rfl⟩) rfl rfl) ?_
 refine sT 21 (bV (!t20)) rfl (v_un rfl · · · rfl (u_not rfl)) ?_
 refine sM 22 (bV (!t20)) rfl rfl ?_
 refine sF 23 (iV t1) rfl rfl (fun e2 => (v_move (.inl rfl) · · · rfl)) ?_
 refine sF 24 (iV t2) rfl rfl (fun e3 => (v_move (.inl rfl) · · · rfl)) ?_
 refine sF 25 (iV t4) rfl rfl (fun e4 => (v_move (.inl rfl) · · · rfl)) ?_
 refine sF 26 (iV t5) rfl rfl (fun e5 => (v_move (.inl rfl) · · · rfl)) ?_
 refine sF 27 (.d (.sl 1 (([t1, t2, t4, t5]).map (eI .i64)))) rfl rfl (fun e6 => (w_bsl_d [(0, iV t1), (1, iV t2), (2, iV t4), (3, iV t5)] [t1, t2, t4, t5] (eI .i64) rfl · · · slT148 zr3 (encI .i64) (ble _ _ rfl) (cc (pr (gv (nF e6))) (cc (pr (gv (nF e6))) (cc (pr (gv (nF e6))) (cc (pr (gv (nF e6))) rfl)))) (by kernel_rfl) rfl rfl (by kernel_rfl))) ?_
 obtain ⟨t28, c8, h⟩ := bpos h
 refine sF 28 (bV t28) rfl rfl (fun e7 => (w_call (ds := [(.s (.int .i64 1)), (.sl 1 (([t1, t2, t4, t5]).map (eI .i64)))]) (caps := []) (l := [(.s (.bool t28))]) (s57 k 1 ([t1, t2, t4, t5]) _ (cpos (nF e7) c8)) rfl rfl rfl en57 · · · (.inl ⟨rfl, rfl⟩) (cc rfl (cc (gv (nF e7)) rfl)) rfl)) ?_
 refine sF 29 (bV (!t28)) rfl rfl (fun e9 => (v_un rfl · · · (gv (nF e9)) (u_not rfl))) ?_
 refine sT 30 (bV ((!t20) || (!t28))) rfl (v_pickB rfl · · · rfl (fun e10 => rfl) (fun e11 => (gv (nF e11))) (pO _ _)) ?_
 refine sq_nil ?_
 refine ht_cond rfl (fun e12 => ?_) (fun e12 => ?_)
 ·replace h := cpos e12 h
  refine sr ?_
  refine sT 31 (.d (.agg (eCell t0))) rfl (w_ldp (eCell t0) (eCell t0) rfl · · · ag26 rfl (ble _ _ rfl) rfl) ?_
  refine sq_cons _ (v_store_box (id := 12) (off := 0) (cs := (eCell t0).map V.d) rfl trivial rfl sz26 rfl rfl rfl rfl (ones_of rfl) (ble _ _ rfl)) ?_
  refine sM 13 (bV false) rfl rfl ?_
  refine sq_nil ?_
  refine ht_ret ?_
  cases h
  exact ret2 rfl (.cell rfl rfl ag26 (ble _ _ rfl) rfl) (.tmp rfl)
 replace h := cneg e12 h
 refine ht_skip ?_
 refine ht_seq ?_
 refine ht_region_draw mixed ?_
 refine rT 32 (.d (.agg (eCell t0))) rfl (w_ldp (eCell t0) (eCell t0) rfl · · · ag26 rfl (ble _ _ rfl) rfl) ?_
 refine rM 33 (iV t1) rfl rfl ?_
 obtain ⟨t34, c13, h⟩ := bpos h
 refine rT 34 (.d (.agg (eShard t34))) rfl (w_call (ds := [(.agg (eCell t0)), (.s (.int .i64 t1))]) (caps := []) (l := [(.agg (eShard t34))]) (s60 k t0 t1 _ c13) rfl rfl rfl en60 · · · (.inl ⟨rfl, rfl⟩) rfl rfl) ?_
 refine rT 35 (.d (.agg (eCell t0))) rfl (w_ldp (eCell t0) (eCell t0) rfl · · · ag26 rfl (ble _ _ rfl) rfl) ?_
 refine rM 36 (iV t4) rfl rfl ?_
 obtain ⟨t37, c14, h⟩ := bpos h
 refine rT 37 (.d (.agg (eShard t37))) rfl (w_call (ds := [(.agg (eCell t0)), (.s (.int .i64 t4))]) (caps := []) (l := [(.agg (eShard t37))]) (s60 k t0 t4 _ c14) rfl rfl rfl en60 · · · (.inl ⟨rfl, rfl⟩) rfl rfl) ?_
 refine rg_cons _ (v_alloc (id := 14) (cs := zc45) rfl trivial rfl (ble _ _ rfl) zu45 rfl ft45 rfl) ?_
 refine rg_cons _ (v_alloc (id := 15) (cs := zc45) rfl trivial rfl (ble _ _ rfl) zu45 rfl ft45 rfl) ?_
 refine rg_cons _ (v_store_box (id := 14) (off := 0) (cs := (eShard t34).map V.d) rfl trivial rfl sz45 rfl rfl rfl rfl (ones_of rfl) (ble _ _ rfl)) ?_
 refine rg_cons _ (v_store_box (id := 15) (off := 0) (cs := (eShard t37).map V.d) rfl trivial rfl sz45 rfl rfl rfl rfl (ones_of rfl) (ble _ _ rfl)) ?_
 refine rg_nil ⟨by kernel_rfl, ?_⟩
 refine ht_seq ?_
 refine sr ?_
 refine sT 38 (.ptr 14 0) rfl (v_field_box (off := 0) (a0 := 0) rfl · · · fo45_0 rfl) ?_
 refine sT 39 (iV t34.mID) rfl (v_load_box1 (id := 14) (off := 0) rfl · · · onT3 rfl rfl (ble _ _ rfl) rfl) ?_
 refine sT 40 (bV (!eqI t34.mID 0)) rfl (v_bin rfl · · · rfl rfl (b_neq rfl)) ?_
 refine sM 41 (bV (!eqI t34.mID 0)) rfl rfl ?_
 refine sG 42 (.ptr 14 1) rfl rfl (fun e15 => (v_field_box (off := 0) (a0 := 1) rfl · · · fo45_1 rfl)) ?_
 refine sG 43 (iV t34.mEpoch) rfl rfl (fun e16 => (v_load_box1 (id := 14) (off := 1) rfl · · · onT3 (gv e16) rfl (ble _ _ rfl) rfl)) ?_
 refine sG 44 (iV t5) rfl rfl (fun e17 => (v_move (.inl rfl) · · · rfl)) ?_
 refine sG 45 (bV (eqI t34.mEpoch t5)) rfl rfl (fun e18 => (v_bin rfl · · · (gv e18) (gv e18) (b_eql rfl))) ?_
 refine sT 46 (bV ((!eqI t34.mID 0) && (eqI t34.mEpoch t5))) rfl (v_pickB rfl · · · rfl (fun e19 => (gv e19)) (fun e20 => rfl) (pA _ _)) ?_
 refine sM 47 (bV ((!eqI t34.mID 0) && (eqI t34.mEpoch t5))) rfl rfl ?_
 refine sG 48 (.ptr 14 2) rfl rfl (fun e21 => (v_field_box (off := 0) (a0 := 2) rfl · · · fo45_2 rfl)) ?_
 refine sG 49 (.ptr 14 3) rfl rfl (fun e22 => (v_field_box (off := 2) (a0 := 1) rfl · · · fo41_1 (gv e22))) ?_
 refine sG 50 (sV t34.mSpan.mHi) rfl rfl (fun e23 => (v_load_box1 (id := 14) (off := 3) rfl · · · onT9 (gv e23) rfl (ble _ _ rfl) rfl)) ?_
 refine sG 51 (sV t3) rfl rfl (fun e24 => (v_move (.inl rfl) · · · rfl)) ?_
 refine sG 52 (bV (strEq t34.mSpan.mHi t3)) rfl rfl (fun e25 => (v_bin rfl · · · (gv e25) (gv e25) (b_eqS rfl))) ?_
 refine sT 53 (bV (((!eqI t34.mID 0) && (eqI t34.mEpoch t5)) && (strEq t34.mSpan.mHi t3))) rfl (v_pickB rfl · · · rfl (fun e26 => (gv e26)) (fun e27 => rfl) (pA _ _)) ?_
 refine sM 54 (bV (((!eqI t34.mID 0) && (eqI t34.mEpoch t5)) && (strEq t34.mSpan.mHi t3))) rfl rfl ?_
 refine sG 55 (.ptr 15 0) rfl rfl (fun e28 => (v_field_box (off := 0) (a0 := 0) rfl · · · fo45_0 rfl)) ?_
 refine sG 56 (iV t37.mID) rfl rfl (fun e29 => (v_load_box1 (id := 15) (off := 0) rfl · · · onT3 (gv e29) rfl (ble _ _ rfl) rfl)) ?_
 refine sG 57 (bV (!eqI t37.mID 0)) rfl rfl (fun e30 => (v_bin rfl · · · (gv e30) rfl (b_neq rfl))) ?_
 refine sT 58 (bV ((((!eqI t34.mID 0) && (eqI t34.mEpoch t5)) && (strEq t34.mSpan.mHi t3)) && (!eqI t37.mID 0))) rfl (v_pickB rfl · · · rfl (fun e31 => (gv e31)) (fun e32 => rfl) (pA _ _)) ?_
 refine sM 59 (bV ((((!eqI t34.mID 0) && (eqI t34.mEpoch t5)) && (strEq t34.mSpan.mHi t3)) && (!eqI t37.mID 0))) rfl rfl ?_
 refine sG 60 (.ptr 15 1) rfl rfl (fun e33 => (v_field_box (off := 0) (a0 := 1) rfl · · · fo45_1 rfl)) ?_
 refine sG 61 (iV t37.mEpoch) rfl rfl (fun e34 => (v_load_box1 (id := 15) (off := 1) rfl · · · onT3 (gv e34) rfl (ble _ _ rfl) rfl)) ?_
 refine sG 62 (iV t5) rfl rfl (fun e35 => (v_move (.inl rfl) · · · rfl)) ?_
 refine sG 63 (bV (eqI t37.mEpoch t5)) rfl rfl (fun e36 => (v_bin rfl · · · (gv e36) (gv e36) (b_eql rfl))) ?_
 refine sT 64 (bV (((((!eqI t34.mID 0) && (eqI t34.mEpoch t5)) && (strEq t34.mSpan.mHi t3)) && (!eqI t37.mID 0)) && (eqI t37.mEpoch t5))) rfl (v_pickB rfl · · · rfl (fun e37 => (gv e37)) (fun e38 => rfl) (pA _ _)) ?_
 refine sq_nil ?_
 refine ht_cond rfl (fun e39 => ?_) (fun e39 => ?_)
 ·replace h := cpos e39 h
  refine sr ?_
  refine sT 65 (.d (.agg (eCell t0))) rfl (w_ldp (eCell t0) (eCell t0) rfl · · · ag26 rfl (ble _ _ rfl) rfl) ?_
  refine sq_cons _ (v_store_box (id := 12) (off := 0) (cs := (eCell t0).map V.d) rfl trivial rfl sz26 rfl rfl rfl rfl (ones_of rfl) (ble _ _ rfl)) ?_
  refine sM 13 (bV true) rfl rfl ?_
  refine sq_nil ?_
  refine ht_ret ?_
  cases h
  exact ret2 rfl (.cell rfl rfl ag26 (ble _ _ rfl) rfl) (.tmp rfl)
 replace h := cneg e39 h
 refine ht_skip ?_
 refine sr ?_
 refine sT 67 (.ptr 14 2) rfl (v_field_box (off := 0) (a0 := 2) rfl · · · fo45_2 rfl) ?_
 refine sT 68 (.d (.agg (eSpan t34.mSpan))) rfl (w_ldb 14 2 rfl · · · ag41 rfl rfl (ble _ _ rfl) rfl) ?_
 refine sM 69 (sV t3) rfl rfl ?_
 obtain ⟨⟨t70a, t70b, t70c⟩, c40, h⟩ := bpos h
 refine sT 70 (.tup [.d (.agg (eSpan t70a)), .d (.agg (eSpan t70b)), iV t70c]) rfl (w_call (ds := [(.agg (eSpan t34.mSpan)), (.s (.string t3))]) (caps := []) (l := [(.agg (eSpan t70a)), (.agg (eSpan t70b)), (.s (.int .i64 t70c))]) (s106 k t34.mSpan t3 _ c40) rfl rfl rfl en106 · · · (.inl ⟨rfl, rfl⟩) rfl rfl) ?_
 refine sM 66 (.tup [.d (.agg (eSpan t70a)), .d (.agg (eSpan t70b)), iV t70c]) rfl rfl ?_
 refine sT 71 (.d (.agg (eSpan t70a))) rfl (v_extract rfl · · · rfl rfl) ?_
 refine sT 72 (.d (.agg (eSpan t70b))) rfl (v_extract rfl · · · rfl rfl) ?_
 refine sT 73 (iV t70c) rfl (v_extract rfl · · · rfl rfl) ?_
 refine sq_cons _ (v_alloc (id := 16) (cs := zc41) rfl trivial rfl (ble _ _ rfl) zu41 rfl ft41 rfl) ?_
 refine sq_cons _ (v_alloc (id := 17) (cs := zc41) rfl trivial rfl (ble _ _ rfl) zu41 rfl ft41 rfl) ?_
 refine sq_cons _ (v_store_box (id := 16) (off := 0) (cs := (eSpan t70a).map V.d) rfl trivial rfl sz41 rfl rfl rfl rfl (ones_of rfl) (ble _ _ rfl)) ?_
 refine sq_cons _ (v_store_box (id := 17) (off := 0) (cs := (eSpan t70b).map V.d) rfl trivial rfl sz41 rfl rfl rfl rfl (ones_of rfl) (ble _ _ rfl)) ?_
 refine sM 18 (iV t70c) rfl rfl ?_
 refine sq_nil ?_
 refine ht_seq ?_
 refine sr ?_
 refine sT 74 (.d (.agg (eShard t34))) rfl (w_ldb 14 0 rfl · · · ag45 rfl rfl (ble _ _ rfl) rfl) ?_
 refine sM 75 (iV t2) rfl rfl ?_
 obtain ⟨t76, c41, h⟩ := bpos h
 refine sT 76 (bV t76) rfl (w_call (ds := [(.agg (eShard t34)), (.s (.int .i64 t2))]) (caps := []) (l := [(.s (.bool t76))]) (s107 k t34 t2 _ c41) rfl rfl rfl en107 · · · (.inl ⟨rfl, rfl⟩) rfl rfl) ?_
 refine sT 77 (bV (!t76)) rfl (v_un rfl · · · rfl (u_not rfl)) ?_
 refine sM 78 (bV (!t76)) rfl rfl ?_
 refine sF 79 (iV t5) rfl rfl (fun e42 => (v_move (.inl rfl) · · · rfl)) ?_
 refine sF 80 (iV t2) rfl rfl (fun e43 => (v_move (.inl rfl) · · · rfl)) ?_
 refine sF 81 (bV (leI t5 t2)) rfl rfl (fun e44 => (v_bin rfl · · · (gv (nF e44)) (gv (nF e44)) (b_leq rfl))) ?_
 refine sT 82 (bV ((!t76) || (leI t5 t2))) rfl (v_pickB rfl · · · rfl (fun e45 => rfl) (fun e46 => (gv (nF e46))) (pO _ _)) ?_
 refine sM 83 (bV ((!t76) || (leI t5 t2))) rfl rfl ?_
 refine sF 84 (.ptr 14 16) rfl rfl (fun e47 => (v_field_box (off := 0) (a0 := 16) rfl · · · fo45_11 rfl)) ?_
 refine sF 85 (iV t34.mClosed) rfl rfl (fun e48 => (v_load_box1 (id := 14) (off := 16) rfl · · · onT3 (gv (nF e48)) rfl (ble _ _ rfl) rfl)) ?_
 refine sF 86 (iV t5) rfl rfl (fun e49 => (v_move (.inl rfl) · · · rfl)) ?_
 refine sF 87 (bV (leI t5 t34.mClosed)) rfl rfl (fun e50 => (v_bin rfl · · · (gv (nF e50)) (gv (nF e50)) (b_geq rfl))) ?_
 refine sT 88 (bV (((!t76) || (leI t5 t2)) || (leI t5 t34.mClosed))) rfl (v_pickB rfl · · · rfl (fun e51 => rfl) (fun e52 => (gv (nF e52))) (pO _ _)) ?_
 refine sM 89 (bV (((!t76) || (leI t5 t2)) || (leI t5 t34.mClosed))) rfl rfl ?_
 refine sF 90 (.ptr 15 0) rfl rfl (fun e53 => (v_field_box (off := 0) (a0 := 0) rfl · · · fo45_0 rfl)) ?_
 refine sF 91 (iV t37.mID) rfl rfl (fun e54 => (v_load_box1 (id := 15) (off := 0) rfl · · · onT3 (gv (nF e54)) rfl (ble _ _ rfl) rfl)) ?_
 refine sF 92 (bV (!eqI t37.mID 0)) rfl rfl (fun e55 => (v_bin rfl · · · (gv (nF e55)) rfl (b_neq rfl))) ?_
 refine sT 93 (bV ((((!t76) || (leI t5 t2)) || (leI t5 t34.mClosed)) || (!eqI t37.mID 0))) rfl (v_pickB rfl · · · rfl (fun e56 => rfl) (fun e57 => (gv (nF e57))) (pO _ _)) ?_
 refine sM 94 (bV ((((!t76) || (leI t5 t2)) || (leI t5 t34.mClosed)) || (!eqI t37.mID 0))) rfl rfl ?_
 refine sF 95 (.d (.dp (eCell t0))) rfl rfl (fun e58 => (v_field_dp (a0 := 0) (cs := (eCell t0)) rfl · · · fo26_0 rfl)) ?_
 refine sF 96 (.d (.sl 17 (t0.mShards.map eShard))) rfl rfl (fun e59 => (v_load_dp1 rfl · · · onT22 (gv (nF e59)) rfl)) ?_
 refine sF 97 (iV (t0.mShards.length : Int)) rfl rfl (fun e60 => (w_len t0.mShards eShard rfl rfl · · · slT22 (gv (nF e60)))) ?_
 refine sF 98 (bV (eqI (t0.mShards.length : Int) 8)) rfl rfl (fun e61 => (v_bin rfl · · · (gv (nF e61)) rfl (b_eql rfl))) ?_
 refine sT 99 (bV (((((!t76) || (leI t5 t2)) || (leI t5 t34.mClosed)) || (!eqI t37.mID 0)) || (eqI (t0.mShards.length : Int) 8))) rfl (v_pickB rfl · · · rfl (fun e62 => rfl) (fun e63 => (gv (nF e63))) (pO _ _)) ?_
 refine sM 100 (bV (((((!t76) || (leI t5 t2)) || (leI t5 t34.mClosed)) || (!eqI t37.mID 0)) || (eqI (t0.mShards.length : Int) 8))) rfl rfl ?_
 refine sF 101 (iV t70c) rfl rfl (fun e64 => (v_move (.inl rfl) · · · rfl)) ?_
 refine sF 102 (bV (!eqI t70c 0)) rfl rfl (fun e65 => (v_bin rfl · · · (gv (nF e65)) rfl (b_neq rfl))) ?_
 refine sT 103 (bV ((((((!t76) || (leI t5 t2)) || (leI t5 t34.mClosed)) || (!eqI t37.mID 0)) || (eqI (t0.mShards.length : Int) 8)) || (!eqI t70c 0))) rfl (v_pickB rfl · · · rfl (fun e66 => rfl) (fun e67 => (gv (nF e67))) (pO _ _)) ?_
 refine sq_nil ?_
 refine ht_cond rfl (fun e68 => ?_) (fun e68 => ?_)
 ·replace h := cpos e68 h
  refine sr ?_
  refine sT 104 (.d (.agg (eCell t0))) rfl (w_ldp (eCell t0) (eCell t0) rfl · · · ag26 rfl (ble _ _ rfl) rfl) ?_
  refine sq_cons _ (v_store_box (id := 12) (off := 0) (cs := (eCell t0).map V.d) rfl trivial rfl sz26 rfl rfl rfl rfl (ones_of rfl) (ble _ _ rfl)) ?_
  refine sM 13 (bV false) rfl rfl ?_
  refine sq_nil ?_
  refine ht_ret ?_
  cases h
  exact ret2 rfl (.cell rfl rfl ag26 (ble _ _ rfl) rfl) (.tmp rfl)
 replace h := cneg e68 h
 refine ht_skip ?_
 refine sr ?_
 refine sT 105 (.d (.agg (eShard t34))) rfl (w_ldb 14 0 rfl · · · ag45 rfl rfl (ble _ _ rfl) rfl) ?_
 refine sq_cons _ (v_store_box (id := 15) (off := 0) (cs := (eShard t34).map V.d) rfl trivial rfl sz45 rfl rfl rfl rfl (ones_of rfl) (ble _ _ rfl)) ?_
 refine sq_nil ?_
 refine sr ?_
 refine sT 107 (.ptr 14 5) rfl (v_field_box (off := 0) (a0 := 5) rfl · · · fo45_4 rfl) ?_
 refine sT 108 (.d (.sl 2 (t34.mEntries.map eEntry))) rfl (v_load_box1 (id := 14) (off := 5) rfl · · · onT42 rfl rfl (ble _ _ rfl) rfl) ?_
 refine sM 109 (sV t3) rfl rfl ?_
 obtain ⟨⟨t110a, t110b⟩, c69, h⟩ := bpos h
 refine sT 110 (.tup [.d (.sl 2 (t110a.map eEntry)), .d (.sl 2 (t110b.map eEntry))]) rfl (w_call (ds := [(.sl 2 (t34.mEntries.map eEntry)), (.s (.string t3))]) (caps := []) (l := [(.sl 2 (t110a.map eEntry)), (.sl 2 (t110b.map eEntry))]) (s108 k t34.mEntries t3 _ c69) rfl rfl rfl en108 · · · (.inl ⟨rfl, rfl⟩) rfl rfl) ?_
 refine sM 106 (.tup [.d (.sl 2 (t110a.map eEntry)), .d (.sl 2 (t110b.map eEntry))]) rfl rfl ?_
 refine sT 111 (.d (.sl 2 (t110a.map eEntry))) rfl (v_extract rfl · · · rfl rfl) ?_
 refine sT 112 (.d (.sl 2 (t110b.map eEntry))) rfl (v_extract rfl · · · rfl rfl) ?_
 refine sT 113 (.ptr 14 5) rfl (v_field_box (off := 0) (a0 := 5) rfl · · · fo45_4 rfl) ?_
 refine sq_cons _ (v_store_box (id := 14) (off := 5) (cs := [(.sl 2 (t110a.map eEntry))].map V.d) rfl trivial rfl sz42 rfl rfl rfl rfl (ones_of rfl) (ble _ _ rfl)) ?_
 refine sT 114 (.ptr 15 5) rfl (v_field_box (off := 0) (a0 := 5) rfl · · · fo45_4 rfl) ?_
 refine sq_cons _ (v_store_box (id := 15) (off := 5) (cs := [(.sl 2 (t110b.map eEntry))].map V.d) rfl trivial rfl sz42 rfl rfl rfl rfl (ones_of rfl) (ble _ _ rfl)) ?_
 refine sq_nil ?_
 refine ht_seq ?_
 refine ht_region_draw mixed ?_
 refine rT 115 (.d (.agg (eSpan t70a))) rfl (w_ldb 16 0 rfl · · · ag41 rfl rfl (ble _ _ rfl) rfl) ?_
 refine rT 116 (.d (.agg (eSpan t70b))) rfl (w_ldb 17 0 rfl · · · ag41 rfl rfl (ble _ _ rfl) rfl) ?_
 refine rT 117 (.ptr 14 2) rfl (v_field_box (off := 0) (a0 := 2) rfl · · · fo45_2 rfl) ?_
 refine rg_cons _ (v_store_box (id := 14) (off := 2) (cs := (eSpan t70a).map V.d) rfl trivial rfl sz41 rfl rfl rfl rfl (ones_of rfl) (ble _ _ rfl)) ?_
 refine rT 118 (.ptr 15 2) rfl (v_field_box (off := 0) (a0 := 2) rfl · · · fo45_2 rfl) ?_
 refine rg_cons _ (v_store_box (id := 15) (off := 2) (cs := (eSpan t70b).map V.d) rfl trivial rfl sz41 rfl rfl rfl rfl (ones_of rfl) (ble _ _ rfl)) ?_
 refine rg_nil ⟨by kernel_rfl, ?_⟩
 refine sr ?_
 refine sM 119 (iV t5) rfl rfl ?_
 refine sM 120 (iV t5) rfl rfl ?_
 refine sM 121 (iV t4) rfl rfl ?_
 refine sT 122 (.ptr 14 1) rfl (v_field_box (off := 0) (a0 := 1) rfl · · · fo45_1 rfl) ?_
 refine sq_cons _ (v_store_box (id := 14) (off := 1) (cs := [(.s (.int .i64 t5))].map V.d) rfl trivial rfl sz3 rfl rfl rfl rfl (ones_of rfl) (ble _ _ rfl)) ?_
 refine sT 123 (.ptr 15 1) rfl (v_field_box (off := 0) (a0 := 1) rfl · · · fo45_1 rfl) ?_
 refine sq_cons _ (v_store_box (id := 15) (off := 1) (cs := [(.s (.int .i64 t5))].map V.d) rfl trivial rfl sz3 rfl rfl rfl rfl (ones_of rfl) (ble _ _ rfl)) ?_
 refine sT 124 (.ptr 15 0) rfl (v_field_box (off := 0) (a0 := 0) rfl · · · fo45_0 rfl) ?_
 refine sq_cons _ (v_store_box (id := 15) (off := 0) (cs := [(.s (.int .i64 t4))].map V.d) rfl trivial rfl sz3 rfl rfl rfl rfl (ones_of rfl) (ble _ _ rfl)) ?_
 refine sq_nil ?_
 refine ht_seq ?_
 refine ht_region_draw mixed ?_
 refine rT 125 (.d (.agg (eCell t0))) rfl (w_ldp (eCell t0) (eCell t0) rfl · · · ag26 rfl (ble _ _ rfl) rfl) ?_
 refine rT 126 (.d (.agg (eShard ({t34 with mEpoch := t5, mSpan := t70a, mEntries := t110a})))) rfl (w_ldb 14 0 rfl · · · ag45 rfl rfl (ble _ _ rfl) rfl) ?_
 obtain ⟨t127, c70, h⟩ := bpos h
 refine rT 127 (.d (.agg (eCell t127))) rfl (w_call (ds := [(.agg (eCell t0)), (.agg (eShard ({t34 with mEpoch := t5, mSpan := t70a, mEntries := t110a})))]) (caps := []) (l := [(.agg (eCell t127))]) (s95 k t0 ({t34 with mEpoch := t5, mSpan := t70a, mEntries := t110a}) _ c70) rfl rfl rfl en95 · · · (.inl ⟨rfl, rfl⟩) rfl rfl) ?_
 refine rT 128 (.d (.agg (eShard ({t34 with mID := t4, mEpoch := t5, mSpan := t70b, mEntries := t110b})))) rfl (w_ldb 15 0 rfl · · · ag45 rfl rfl (ble _ _ rfl) rfl) ?_
 obtain ⟨t129, c71, h⟩ := bpos h
 refine rT 129 (.d (.agg (eCell t129))) rfl (w_call (ds := [(.agg (eCell t127)), (.agg (eShard ({t34 with mID := t4, mEpoch := t5, mSpan := t70b, mEntries := t110b})))]) (caps := []) (l := [(.agg (eCell t129))]) (s95 k t127 ({t34 with mID := t4, mEpoch := t5, mSpan := t70b, mEntries := t110b}) _ c71) rfl rfl rfl en95 · · · (.inl ⟨rfl, rfl⟩) rfl rfl) ?_
 refine rg_cons _ (v_store_box (id := 12) (off := 0) (cs := (eCell t129).map V.d) rfl trivial rfl sz26 rfl rfl rfl rfl (ones_of rfl) (ble _ _ rfl)) ?_
 refine rM 13 (bV true) rfl rfl ?_
 refine rg_nil ⟨by kernel_rfl, ?_⟩
 refine ht_ret ?_
 cases h
 exact ret2 rfl (.cell rfl rfl ag26 (ble _ _ rfl) rfl) (.tmp rfl)
theorem s112 (k : Nat) (t0 : Span) (t1 : Span) (r : Span × Int) (h : F112 k t0 t1 = some r) : Awp.Spec Tryz.prog amb 112 [(.agg (eSpan t0)), (.agg (eSpan t1))] (.ds [(.agg (eSpan r.1)), (.s (.int .i64 r.2))]) := by
 rw [F112] at h
 refine spec_of Tryz.func112 rfl (ble _ _ rfl) fun w0 ok0 lt0 hA => ?_
 refine sr ?_
 refine sT 2 (.d (.dp (eSpan t0))) rfl (v_box_d (cs := (eSpan t0)) rfl · · · rfl rfl (ones_of rfl)) ?_
 refine sT 3 (.d (.dp (eSpan t1))) rfl (v_box_d (cs := (eSpan t1)) rfl · · · rfl rfl (ones_of rfl)) ?_
 refine sq_cons _ (v_alloc (id := 4) (cs := zc41) rfl trivial rfl (ble _ _ rfl) zu41 rfl ft41 rfl) ?_
 refine sM 5 (iV 0) rfl rfl ?_
 refine sq_nil ?_
 refine ht_seq ?_
 refine ht_block ?_
 refine sr ?_
 refine sT 7 (.d (.agg (eSpan t0))) rfl (w_ldp (eSpan t0) (eSpan t0) rfl · · · ag41 rfl (ble _ _ rfl) rfl) ?_
 obtain ⟨t8, c1, h⟩ := bpos h
 refine sT 8 (bV t8) rfl (w_call (ds := [(.agg (eSpan t0))]) (caps := []) (l := [(.s (.bool t8))]) (s80 k t0 _ c1) rfl rfl rfl en80 · · · (.inl ⟨rfl, rfl⟩) rfl rfl) ?_
 refine sT 9 (bV (!t8)) rfl (v_un rfl · · · rfl (u_not rfl)) ?_
 refine sM 10 (bV (!t8)) rfl rfl ?_
 refine sF 11 (.d (.agg (eSpan t1))) rfl rfl (fun e2 => (w_ldp (eSpan t1) (eSpan t1) rfl · · · ag41 rfl (ble _ _ rfl) rfl)) ?_
 obtain ⟨t12, c4, h⟩ := bpos h
 refine sF 12 (bV t12) rfl rfl (fun e3 => (w_call (ds := [(.agg (eSpan t1))]) (caps := []) (l := [(.s (.bool t12))]) (s80 k t1 _ (cpos (nF e3) c4)) rfl rfl rfl en80 · · · (.inl ⟨rfl, rfl⟩) (cc (gv (nF e3)) rfl) rfl)) ?_
 refine sF 13 (bV (!t12)) rfl rfl (fun e5 => (v_un rfl · · · (gv (nF e5)) (u_not rfl))) ?_
 refine sT 14 (bV ((!t8) || (!t12))) rfl (v_pickB rfl · · · rfl (fun e6 => rfl) (fun e7 => (gv (nF e7))) (pO _ _)) ?_
 refine sM 6 (bV ((!t8) || (!t12))) rfl rfl ?_
 refine sq_nil ?_
 refine ht_cond rfl (fun e8 => ?_) (fun e8 => ?_)
 ·replace h := cpos e8 h
  refine sr ?_
  refine sT 15 (.d (.agg (eSpan (⟨⟨#[]⟩, ⟨#[]⟩⟩ : Span)))) rfl (w_bld zc41 ((eSpan (⟨⟨#[]⟩, ⟨#[]⟩⟩ : Span)).map V.d) [] rfl · · · zw41 rfl ft41 rfl rfl rfl rfl) ?_
  refine sq_cons _ (v_store_box (id := 4) (off := 0) (cs := (eSpan (⟨⟨#[]⟩, ⟨#[]⟩⟩ : Span)).map V.d) rfl trivial rfl sz41 rfl rfl rfl rfl (ones_of rfl) (ble _ _ rfl)) ?_
  refine sM 5 (iV 1) rfl rfl ?_
  refine sq_nil ?_
  refine ht_ret ?_
  cases h
  exact ret2 rfl (.cell rfl rfl ag41 (ble _ _ rfl) rfl) (.tmp rfl)
 replace h := cneg e8 h
 refine sr ?_
 refine sT 17 (.d (.dp (List.drop 1 (eSpan t0)))) rfl (v_field_dp (a0 := 1) (cs := (eSpan t0)) rfl · · · fo41_1 rfl) ?_
 refine sT 18 (sV t0.mHi) rfl (v_load_dp1 rfl · · · onT9 rfl rfl) ?_
 refine sT 19 (bV (strEq t0.mHi (⟨#[]⟩ : ByteArray))) rfl (v_bin rfl · · · rfl rfl (b_eqS rfl)) ?_
 refine sM 20 (bV (strEq t0.mHi (⟨#[]⟩ : ByteArray))) rfl rfl ?_
 refine sF 21 (.d (.dp (List.drop 1 (eSpan t0)))) rfl rfl (fun e9 => (v_field_dp (a0 := 1) (cs := (eSpan t0)) rfl · · · fo41_1 rfl)) ?_
 refine sF 22 (sV t0.mHi) rfl rfl (fun e10 => (v_load_dp1 rfl · · · onT9 (gv (nF e10)) rfl)) ?_
 refine sF 23 (.d (.dp (eSpan t1))) rfl rfl (fun e11 => (v_field_dp (a0 := 0) (cs := (eSpan t1)) rfl · · · fo41_0 rfl)) ?_
 refine sF 24 (sV t1.mLo) rfl rfl (fun e12 => (v_load_dp1 rfl · · · onT9 (gv (nF e12)) rfl)) ?_
 refine sF 25 (bV (!strEq t0.mHi t1.mLo)) rfl rfl (fun e13 => (v_bin rfl · · · (gv (nF e13)) (gv (nF e13)) (b_neS rfl))) ?_
 refine sT 26 (bV ((strEq t0.mHi (⟨#[]⟩ : ByteArray)) || (!strEq t0.mHi t1.mLo))) rfl (v_pickB rfl · · · rfl (fun e14 => rfl) (fun e15 => (gv (nF e15))) (pO _ _)) ?_
 refine sM 16 (bV ((strEq t0.mHi (⟨#[]⟩ : ByteArray)) || (!strEq t0.mHi t1.mLo))) rfl rfl ?_
 refine sq_nil ?_
 refine ht_cond rfl (fun e16 => ?_) (fun e16 => ?_)
 ·replace h := cpos e16 h
  refine sr ?_
  refine sT 27 (.d (.agg (eSpan (⟨⟨#[]⟩, ⟨#[]⟩⟩ : Span)))) rfl (w_bld zc41 ((eSpan (⟨⟨#[]⟩, ⟨#[]⟩⟩ : Span)).map V.d) [] rfl · · · zw41 rfl ft41 rfl rfl rfl rfl) ?_
  refine sq_cons _ (v_store_box (id := 4) (off := 0) (cs := (eSpan (⟨⟨#[]⟩, ⟨#[]⟩⟩ : Span)).map V.d) rfl trivial rfl sz41 rfl rfl rfl rfl (ones_of rfl) (ble _ _ rfl)) ?_
  refine sM 5 (iV 9) rfl rfl ?_
  refine sq_nil ?_
  refine ht_ret ?_
  cases h
  exact ret2 rfl (.cell rfl rfl ag41 (ble _ _ rfl) rfl) (.tmp rfl)
 replace h := cneg e16 h
 refine ht_skip ?_
 refine sr ?_
 refine sT 28 (.d (.dp (eSpan t0))) rfl (v_field_dp (a0 := 0) (cs := (eSpan t0)) rfl · · · fo41_0 rfl) ?_
 refine sT 29 (sV t0.mLo) rfl (v_load_dp1 rfl · · · onT9 rfl rfl) ?_
 refine sT 30 (.d (.dp (List.drop 1 (eSpan t1)))) rfl (v_field_dp (a0 := 1) (cs := (eSpan t1)) rfl · · · fo41_1 rfl) ?_
 refine sT 31 (sV t1.mHi) rfl (v_load_dp1 rfl · · · onT9 rfl rfl) ?_
 refine sT 32 (.d (.agg (eSpan ({t0 with mHi := t1.mHi})))) rfl (w_bld zc41 ((eSpan ({t0 with mHi := t1.mHi})).map V.d) [(0, sV t0.mLo), (1, sV t1.mHi)] rfl · · · zw41 rfl ft41 rfl rfl rfl rfl) ?_
 refine sq_cons _ (v_store_box (id := 4) (off := 0) (cs := (eSpan ({t0 with mHi := t1.mHi})).map V.d) rfl trivial rfl sz41 rfl rfl rfl rfl (ones_of rfl) (ble _ _ rfl)) ?_
 refine sM 5 (iV 0) rfl rfl ?_
 refine sq_nil ?_
 refine ht_ret ?_
 cases h
 exact ret2 rfl (.cell rfl rfl ag41 (ble _ _ rfl) rfl) (.tmp rfl)
theorem s113 (k : Nat) (t0 : List Entry) (t1 : List Entry) (r : (List Entry) × Int) (h : F113 k t0 t1 = some r) : Awp.Spec Tryz.prog amb 113 [(.sl 2 (t0.map eEntry)), (.sl 2 (t1.map eEntry))] (.ds [(.sl 2 (r.1.map eEntry)), (.s (.int .i64 r.2))]) := by
 rw [F113] at h
 refine spec_of Tryz.func113 rfl (ble _ _ rfl) fun w0 ok0 lt0 hA => ?_
 refine sr ?_
 refine sM 4 (.d (.s (.slice none 0 0))) rfl rfl ?_
 refine sM 5 (iV 0) rfl rfl ?_
 refine sq_nil ?_
 refine ht_seq ?_
 refine ht_block ?_
 refine sr ?_
 refine sM 7 (.d (.sl 2 (t0.map eEntry))) rfl rfl ?_
 obtain ⟨t8, c1, h⟩ := bpos h
 refine sT 8 (bV t8) rfl (w_call (ds := [(.sl 2 (t0.map eEntry))]) (caps := []) (l := [(.s (.bool t8))]) (s81 k t0 _ c1) rfl rfl rfl en81 · · · (.inl ⟨rfl, rfl⟩) rfl rfl) ?_
 refine sT 9 (bV (!t8)) rfl (v_un rfl · · · rfl (u_not rfl)) ?_
 refine sM 10 (bV (!t8)) rfl rfl ?_
 refine sF 11 (.d (.sl 2 (t1.map eEntry))) rfl rfl (fun e2 => (v_move (.inl rfl) · · · rfl)) ?_
 obtain ⟨t12, c4, h⟩ := bpos h
 refine sF 12 (bV t12) rfl rfl (fun e3 => (w_call (ds := [(.sl 2 (t1.map eEntry))]) (caps := []) (l := [(.s (.bool t12))]) (s81 k t1 _ (cpos (nF e3) c4)) rfl rfl rfl en81 · · · (.inl ⟨rfl, rfl⟩) (cc (gv (nF e3)) rfl) rfl)) ?_
 refine sF 13 (bV (!t12)) rfl rfl (fun e5 => (v_un rfl · · · (gv (nF e5)) (u_not rfl))) ?_
 refine sT 14 (bV ((!t8) || (!t12))) rfl (v_pickB rfl · · · rfl (fun e6 => rfl) (fun e7 => (gv (nF e7))) (pO _ _)) ?_
 refine sM 6 (bV ((!t8) || (!t12))) rfl rfl ?_
 refine sq_nil ?_
 refine ht_cond rfl (fun e8 => ?_) (fun e8 => ?_)
 ·replace h := cpos e8 h
  refine sr ?_
  refine sM 4 (.d (.s (.slice none 0 0))) rfl rfl ?_
  refine sM 5 (iV 1) rfl rfl ?_
  refine sq_nil ?_
  refine ht_ret ?_
  cases h
  exact retM_wk (wk_nil (.t 4) (nb 4) 2 rfl) (ret2 rfl (.tmp rfl) (.tmp rfl))
 replace h := cneg e8 h
 refine ht_seq ?_
 refine ht_region_draw mixed ?_
 refine rM 16 (.d (.sl 2 (t0.map eEntry))) rfl rfl ?_
 refine rT 17 (iV (t0.length : Int)) rfl (w_len t0 eEntry rfl rfl · · · slT42 rfl) ?_
 refine rT 18 (bV (ltI 0 (t0.length : Int))) rfl (v_bin rfl · · · rfl rfl (b_gtr rfl)) ?_
 refine rM 19 (bV (ltI 0 (t0.length : Int))) rfl rfl ?_
 refine rG 20 (.d (.sl 2 (t1.map eEntry))) rfl rfl (fun e9 => (v_move (.inl rfl) · · · rfl)) ?_
 refine rG 21 (iV (t1.length : Int)) rfl rfl (fun e10 => (w_len t1 eEntry rfl rfl · · · slT42 (gv e10))) ?_
 refine rG 22 (bV (ltI 0 (t1.length : Int))) rfl rfl (fun e11 => (v_bin rfl · · · (gv e11) rfl (b_gtr rfl))) ?_
 refine rT 23 (bV ((ltI 0 (t0.length : Int)) && (ltI 0 (t1.length : Int)))) rfl (v_pickB rfl · · · rfl (fun e12 => (gv e12)) (fun e13 => rfl) (pA _ _)) ?_
 refine rM 24 (bV ((ltI 0 (t0.length : Int)) && (ltI 0 (t1.length : Int)))) rfl rfl ?_
 refine rG 25 (.d (.sl 2 (t0.map eEntry))) rfl rfl (fun e14 => (v_move (.inl rfl) · · · rfl)) ?_
 refine rG 26 (.d (.sl 2 (t0.map eEntry))) rfl rfl (fun e15 => (v_move (.inl rfl) · · · rfl)) ?_
 refine rG 27 (iV (t0.length : Int)) rfl rfl (fun e16 => (w_len t0 eEntry rfl rfl · · · slT42 (gv e16))) ?_
 refine rG 28 (iV (IntKind.wrap .i64 ((t0.length : Int) - 1))) rfl rfl (fun e17 => (v_bin rfl · · · (gv e17) rfl (b_sub rfl))) ?_
 obtain ⟨e19, h⟩ := gpos h
 refine rG 29 (.d (.dp (eEntry (rd t0 (IntKind.wrap .i64 ((t0.length : Int) - 1)))))) rfl rfl (fun e18 => (w_idx t0 eEntry rfl · · · slT42 (gv e18) (gv e18) (orT e19 e18))) ?_
 refine rG 30 (.d (.dp (eEntry (rd t0 (IntKind.wrap .i64 ((t0.length : Int) - 1)))))) rfl rfl (fun e20 => (v_field_dp (a0 := 0) (cs := (eEntry (rd t0 (IntKind.wrap .i64 ((t0.length : Int) - 1))))) rfl · · · fo116_0 (gv e20))) ?_
 refine rG 31 (sV (rd t0 (IntKind.wrap .i64 ((t0.length : Int) - 1))).mKey) rfl rfl (fun e21 => (v_load_dp1 rfl · · · onT9 (gv e21) rfl)) ?_
 refine rG 32 (.d (.sl 2 (t1.map eEntry))) rfl rfl (fun e22 => (v_move (.inl rfl) · · · rfl)) ?_
 obtain ⟨e24, h⟩ := gpos h
 refine rG 33 (.d (.dp (eEntry (rd t1 0)))) rfl rfl (fun e23 => (w_idx t1 eEntry rfl · · · slT42 (gv e23) rfl (orT e24 e23))) ?_
 refine rG 34 (.d (.dp (eEntry (rd t1 0)))) rfl rfl (fun e25 => (v_field_dp (a0 := 0) (cs := (eEntry (rd t1 0))) rfl · · · fo116_0 (gv e25))) ?_
 refine rG 35 (sV (rd t1 0).mKey) rfl rfl (fun e26 => (v_load_dp1 rfl · · · onT9 (gv e26) rfl)) ?_
 obtain ⟨t36, c28, h⟩ := bpos h
 refine rG 36 (iV t36) rfl rfl (fun e27 => (w_call (ds := [(.s (.string (rd t0 (IntKind.wrap .i64 ((t0.length : Int) - 1))).mKey)), (.s (.string (rd t1 0).mKey))]) (caps := []) (l := [(.s (.int .i64 t36))]) (s124 k (rd t0 (IntKind.wrap .i64 ((t0.length : Int) - 1))).mKey (rd t1 0).mKey _ (cpos e27 c28)) rfl rfl rfl en124 · · · (.inl ⟨rfl, rfl⟩) (cc (gv e27) (cc (gv e27) rfl)) rfl)) ?_
 refine rG 37 (bV (leI 0 t36)) rfl rfl (fun e29 => (v_bin rfl · · · (gv e29) rfl (b_geq rfl))) ?_
 refine rT 38 (bV (((ltI 0 (t0.length : Int)) && (ltI 0 (t1.length : Int))) && (leI 0 t36))) rfl (v_pickB rfl · · · rfl (fun e30 => (gv e30)) (fun e31 => rfl) (pA _ _)) ?_
 refine rM 15 (bV (((ltI 0 (t0.length : Int)) && (ltI 0 (t1.length : Int))) && (leI 0 t36))) rfl rfl ?_
 refine rg_nil ⟨by kernel_rfl, ?_⟩
 refine ht_cond rfl (fun e32 => ?_) (fun e32 => ?_)
 ·replace h := cpos e32 h
  refine sr ?_
  refine sM 4 (.d (.s (.slice none 0 0))) rfl rfl ?_
  refine sM 5 (iV 9) rfl rfl ?_
  refine sq_nil ?_
  refine ht_ret ?_
  cases h
  exact retM_wk (wk_nil (.t 4) (nb 4) 2 rfl) (ret2 rfl (.tmp rfl) (.tmp rfl))
 replace h := cneg e32 h
 refine sr ?_
 refine sM 40 (.d (.sl 2 (t0.map eEntry))) rfl rfl ?_
 refine sT 41 (iV (t0.length : Int)) rfl (w_len t0 eEntry rfl rfl · · · slT42 rfl) ?_
 refine sM 42 (.d (.sl 2 (t1.map eEntry))) rfl rfl ?_
 refine sT 43 (iV (t1.length : Int)) rfl (w_len t1 eEntry rfl rfl · · · slT42 rfl) ?_
 refine sT 44 (iV (IntKind.wrap .i64 ((t0.length : Int) + (t1.length : Int)))) rfl (v_bin rfl · · · rfl rfl (b_add rfl)) ?_
 obtain ⟨t45, q33, h⟩ := bndp h
 refine sT 45 (bV t45) rfl (v_bin rfl · · · rfl rfl (b_gtr q33)) ?_
 refine sM 39 (bV t45) rfl rfl ?_
 refine sq_nil ?_
 refine ht_cond rfl (fun e34 => ?_) (fun e34 => ?_)
 ·replace h := cpos e34 h
  refine sr ?_
  refine sM 4 (.d (.s (.slice none 0 0))) rfl rfl ?_
  refine sM 5 (iV 6) rfl rfl ?_
  refine sq_nil ?_
  refine ht_ret ?_
  cases h
  exact retM_wk (wk_nil (.t 4) (nb 4) 2 rfl) (ret2 rfl (.tmp rfl) (.tmp rfl))
 replace h := cneg e34 h
 refine ht_skip ?_
 refine sr ?_
 refine sM 46 (.d (.sl 2 (t0.map eEntry))) rfl rfl ?_
 obtain ⟨t47, c35, h⟩ := bpos h
 refine sq_cons ⟨_, [(.b 47, .row false 116 2 (t47.map eEntry)), (.t 47, .own 47 2 t47.length)]⟩ (w_call_own (id := 47) (ds := [(.sl 2 (t0.map eEntry))]) (caps := []) eEntry (s149o k t0 _ c35) rfl rfl rfl en149 trivial rfl (ble _ _ rfl) (.inl ⟨rfl, rfl⟩) rfl rfl) ?_
 refine sM 48 (.d (.sl 2 (t1.map eEntry))) rfl rfl ?_
 obtain ⟨t49, c36, h⟩ := bpos h
 refine sT 49 (.d (.sl 2 (t49.map eEntry))) rfl (w_call (ds := [(.sl 2 (t1.map eEntry))]) (caps := []) (l := [(.sl 2 (t49.map eEntry))]) (s149 k t1 _ c36) rfl rfl rfl en149 · · · (.inl ⟨rfl, rfl⟩) rfl rfl) ?_
 obtain ⟨e37, h⟩ := gpos h
 refine sq_cons ⟨_, [(.b 47, .spent), (.b 50, .row false 116 2 ((t47 ++ t49).map eEntry)), (.t 50, .own 50 2 (t47 ++ t49).length)]⟩ (w_app 50 t47 t49 eEntry rfl rfl trivial rfl (ble _ _ rfl) slT42 elT116 teEntry rfl rfl rfl (.d) rfl e37) ?_
 refine sM 4 (.own 50 2 (t47 ++ t49).length) rfl rfl ?_
 refine sM 5 (iV 0) rfl rfl ?_
 refine sq_nil ?_
 refine ht_ret ?_
 cases h
 exact retM_wk (wk_still_row 50 _ _ _ rfl) (retM_wk (wk_row (.t 4) (nb 4) 50 _ _ _ _ rfl rfl (lm _ _)) (retM_wk (wk_row (.t 50) (nb 50) 50 _ _ _ _ rfl rfl (lm _ _)) (ret2 rfl (.tmp rfl) (.tmp rfl))))
theorem s114 (k : Nat) (t0 : List Done) (t1 : List Done) (r : (List Done) × Int) (h : F114 k t0 t1 = some r) : Awp.Spec Tryz.prog amb 114 [(.sl 11 (t0.map eDone)), (.sl 11 (t1.map eDone))] (.ds [(.sl 11 (r.1.map eDone)), (.s (.int .i64 r.2))]) := by
 rw [F114] at h
 refine spec_of Tryz.func114 rfl (ble _ _ rfl) fun w0 ok0 lt0 hA => ?_
 refine sr ?_
 refine sM 4 (.d (.s (.slice none 0 0))) rfl rfl ?_
 refine sM 5 (iV 0) rfl rfl ?_
 refine sq_nil ?_
 refine ht_seq ?_
 refine sr ?_
 refine sM 7 (.d (.sl 11 (t0.map eDone))) rfl rfl ?_
 obtain ⟨t8, c1, h⟩ := bpos h
 refine sT 8 (bV t8) rfl (w_call (ds := [(.sl 11 (t0.map eDone))]) (caps := []) (l := [(.s (.bool t8))]) (s82 k t0 _ c1) rfl rfl rfl en82 · · · (.inl ⟨rfl, rfl⟩) rfl rfl) ?_
 refine sT 9 (bV (!t8)) rfl (v_un rfl · · · rfl (u_not rfl)) ?_
 refine sM 10 (bV (!t8)) rfl rfl ?_
 refine sF 11 (.d (.sl 11 (t1.map eDone))) rfl rfl (fun e2 => (v_move (.inl rfl) · · · rfl)) ?_
 obtain ⟨t12, c4, h⟩ := bpos h
 refine sF 12 (bV t12) rfl rfl (fun e3 => (w_call (ds := [(.sl 11 (t1.map eDone))]) (caps := []) (l := [(.s (.bool t12))]) (s82 k t1 _ (cpos (nF e3) c4)) rfl rfl rfl en82 · · · (.inl ⟨rfl, rfl⟩) (cc (gv (nF e3)) rfl) rfl)) ?_
 refine sF 13 (bV (!t12)) rfl rfl (fun e5 => (v_un rfl · · · (gv (nF e5)) (u_not rfl))) ?_
 refine sT 14 (bV ((!t8) || (!t12))) rfl (v_pickB rfl · · · rfl (fun e6 => rfl) (fun e7 => (gv (nF e7))) (pO _ _)) ?_
 refine sq_nil ?_
 refine ht_cond rfl (fun e8 => ?_) (fun e8 => ?_)
 ·replace h := cpos e8 h
  refine sr ?_
  refine sM 4 (.d (.s (.slice none 0 0))) rfl rfl ?_
  refine sM 5 (iV 1) rfl rfl ?_
  refine sq_nil ?_
  refine ht_ret ?_
  cases h
  exact retM_wk (wk_nil (.t 4) (nb 4) 11 rfl) (ret2 rfl (.tmp rfl) (.tmp rfl))
 replace h := cneg e8 h
 refine ht_skip ?_
 refine sr ?_
 refine sM 6 (.d (.s (.slice none 0 0))) rfl rfl ?_
 refine sq_nil ?_
 refine ht_bj h (fun t6 => tell [(.b 1006, .row false 100 11 (t6.map eDone)), (.t 6, .own 1006 11 t6.length)]) (fun t6 h => ?_) (fun v9 K10 h j12 => ?_)
 ·refine ht_seq ?_
  refine sr ?_
  refine sM 104 (.own 1006 11 t6.length) rfl rfl ?_
  refine sT 105 (iV (t6.length : Int)) rfl (v_len_own rfl rfl · · · und43 rfl) ?_
  refine sT 106 (bV (ltI 8 (t6.length : Int))) rfl (v_bin rfl · · · rfl rfl (b_gtr rfl)) ?_
  refine sq_nil ?_
  refine ht_cond rfl (fun e85 => ?_) (fun e85 => ?_)
  ·replace h := cpos e85 h
   refine sr ?_
   refine sM 4 (.d (.s (.slice none 0 0))) rfl rfl ?_
   refine sM 5 (iV 6) rfl rfl ?_
   refine sq_nil ?_
   refine ht_ret ?_
   cases h
   exact retM_wk (wk_nil (.t 4) (nb 4) 11 rfl) (ret2 rfl (.tmp rfl) (.tmp rfl))
  replace h := cneg e85 h
  refine ht_skip ?_
  refine sr ?_
  refine sM 107 (.own 1006 11 t6.length) rfl rfl ?_
  refine sM 4 (.own 1006 11 t6.length) rfl rfl ?_
  refine sM 5 (iV 0) rfl rfl ?_
  refine sq_nil ?_
  refine ht_ret ?_
  cases h
  exact retM_wk (wk_still_row 1006 _ _ _ rfl) (retM_wk (wk_row (.t 4) (nb 4) 1006 _ _ _ _ rfl rfl (lm _ _)) (retM_wk (wk_row (.t 6) (nb 6) 1006 _ _ _ _ rfl rfl (lm _ _)) (retM_wk (wk_row (.t 104) (nb 104) 1006 _ _ _ _ rfl rfl (lm _ _)) (retM_wk (wk_row (.t 107) (nb 107) 1006 _ _ _ _ rfl rfl (lm _ _)) (ret2 rfl (.tmp rfl) (.tmp rfl))))))
 refine ht_block ?_
 refine ht_rd h (fun _ => rfl) (fun (t0_1, t1_1, t6_1) => tell [(.b 1006, .row false 100 11 (t6_1.map eDone)), (.t 0, .d (.sl 11 (t0_1.map eDone))), (.t 1, .d (.sl 11 (t1_1.map eDone))), (.t 6, .own 1006 11 t6_1.length)]) (wkt (wk_nilrow (.t 6) (nb 6) 1001006 100 11 rfl rfl) (wk_ren _ (fun i => bif Nat.beq i 1006 then 1001006 else i) rfl ⟨rfl, rfl, rfl, rfl, trivial⟩)) fun k v16 h K84 j15 => ?_
 obtain ⟨t0_1, t1_1, t6_1⟩ := v16
 rw [F114_l1] at h
 refine ht_seq ?_
 refine sr ?_
 refine sM 15 (.d (.sl 11 (t0_1.map eDone))) rfl rfl ?_
 refine sT 16 (iV (t0_1.length : Int)) rfl (w_len t0_1 eDone rfl rfl · · · slT43 rfl) ?_
 refine sT 17 (bV (ltI 0 (t0_1.length : Int))) rfl (v_bin rfl · · · rfl rfl (b_gtr rfl)) ?_
 refine sM 18 (bV (ltI 0 (t0_1.length : Int))) rfl rfl ?_
 refine sF 19 (.d (.sl 11 (t1_1.map eDone))) rfl rfl (fun e17 => (v_move (.inl rfl) · · · rfl)) ?_
 refine sF 20 (iV (t1_1.length : Int)) rfl rfl (fun e18 => (w_len t1_1 eDone rfl rfl · · · slT43 (gv (nF e18)))) ?_
 refine sF 21 (bV (ltI 0 (t1_1.length : Int))) rfl rfl (fun e19 => (v_bin rfl · · · (gv (nF e19)) rfl (b_gtr rfl))) ?_
 refine sT 22 (bV ((ltI 0 (t0_1.length : Int)) || (ltI 0 (t1_1.length : Int)))) rfl (v_pickB rfl · · · rfl (fun e20 => rfl) (fun e21 => (gv (nF e21))) (pO _ _)) ?_
 refine sq_nil ?_
 refine ht_cond rfl (fun e22 => ?_) (fun e22 => ?_)
 ·replace h := cpos e22 h
  refine ht_skip ?_
  refine ht_block ?_
  refine ht_block ?_
  refine ht_seq ?_
  refine ht_region_draw mixed ?_
  refine rM 34 (.d (.sl 11 (t1_1.map eDone))) rfl rfl ?_
  refine rT 35 (iV (t1_1.length : Int)) rfl (w_len t1_1 eDone rfl rfl · · · slT43 rfl) ?_
  refine rT 36 (bV (eqI (t1_1.length : Int) 0)) rfl (v_bin rfl · · · rfl rfl (b_eql rfl)) ?_
  refine rM 37 (bV (eqI (t1_1.length : Int) 0)) rfl rfl ?_
  refine rF 38 (.d (.sl 11 (t0_1.map eDone))) rfl rfl (fun e23 => (v_move (.inl rfl) · · · rfl)) ?_
  refine rF 39 (iV (t0_1.length : Int)) rfl rfl (fun e24 => (w_len t0_1 eDone rfl rfl · · · slT43 (gv (nF e24)))) ?_
  refine rF 40 (bV (ltI 0 (t0_1.length : Int))) rfl rfl (fun e25 => (v_bin rfl · · · (gv (nF e25)) rfl (b_gtr rfl))) ?_
  refine rF 41 (bV (ltI 0 (t0_1.length : Int))) rfl rfl (fun e26 => (v_move (.inl rfl) · · · (gv (nF e26)))) ?_
  refine rI 42 (.d (.sl 11 (t0_1.map eDone))) rfl rfl (fun e27 e28 => (v_move (.inl rfl) · · · rfl)) ?_
  obtain ⟨e31, h⟩ := gpos h
  refine rI 43 (.d (.dp (eDone (rd t0_1 0)))) rfl rfl (fun e29 e30 => (w_idx t0_1 eDone rfl · · · slT43 (gv (aT e29 e30)) rfl (orT e31 (aT e29 e30)))) ?_
  refine rI 44 (.d (.dp (eDone (rd t0_1 0)))) rfl rfl (fun e32 e33 => (v_field_dp (a0 := 0) (cs := (eDone (rd t0_1 0))) rfl · · · fo100_0 (gv (aT e32 e33)))) ?_
  refine rI 45 (iV (rd t0_1 0).mClient) rfl rfl (fun e34 e35 => (v_load_dp1 rfl · · · onT3 (gv (aT e34 e35)) rfl)) ?_
  refine rI 46 (.d (.sl 11 (t1_1.map eDone))) rfl rfl (fun e36 e37 => (v_move (.inl rfl) · · · rfl)) ?_
  obtain ⟨e40, h⟩ := gpos h
  refine rI 47 (.d (.dp (eDone (rd t1_1 0)))) rfl rfl (fun e38 e39 => (w_idx t1_1 eDone rfl · · · slT43 (gv (aT e38 e39)) rfl (orT e40 (aT e38 e39)))) ?_
  refine rI 48 (.d (.dp (eDone (rd t1_1 0)))) rfl rfl (fun e41 e42 => (v_field_dp (a0 := 0) (cs := (eDone (rd t1_1 0))) rfl · · · fo100_0 (gv (aT e41 e42)))) ?_
  refine rI 49 (iV (rd t1_1 0).mClient) rfl rfl (fun e43 e44 => (v_load_dp1 rfl · · · onT3 (gv (aT e43 e44)) rfl)) ?_
  refine rI 50 (bV (ltI (rd t0_1 0).mClient (rd t1_1 0).mClient)) rfl rfl (fun e45 e46 => (v_bin rfl · · · (gv (aT e45 e46)) (gv (aT e45 e46)) (b_lss rfl))) ?_
  refine rF 51 (bV ((ltI 0 (t0_1.length : Int)) && (ltI (rd t0_1 0).mClient (rd t1_1 0).mClient))) rfl rfl (fun e47 => (v_pickB rfl · · · (gv (nF e47)) (fun e48 => (gv (aT (nF e47) e48))) (fun e49 => rfl) (pA _ _))) ?_
  refine rT 52 (bV ((eqI (t1_1.length : Int) 0) || ((ltI 0 (t0_1.length : Int)) && (ltI (rd t0_1 0).mClient (rd t1_1 0).mClient)))) rfl (v_pickB rfl · · · rfl (fun e50 => rfl) (fun e51 => (gv (nF e51))) (pO _ _)) ?_
  refine rM 33 (bV ((eqI (t1_1.length : Int) 0) || ((ltI 0 (t0_1.length : Int)) && (ltI (rd t0_1 0).mClient (rd t1_1 0).mClient)))) rfl rfl ?_
  refine rg_nil ⟨by kernel_rfl, ?_⟩
  refine ht_cond rfl (fun e52 => ?_) (fun e52 => ?_)
  ·replace h := cpos e52 h
   refine ht_region_draw mixed ?_
   refine rM 53 (.own 1006 11 t6_1.length) rfl rfl ?_
   refine rM 54 (.d (.sl 11 (t0_1.map eDone))) rfl rfl ?_
   obtain ⟨e53, h⟩ := gpos h
   refine rT 55 (.d (.dp (eDone (rd t0_1 0)))) rfl (w_idx t0_1 eDone rfl · · · slT43 rfl rfl e53) ?_
   refine rT 56 (.d (.agg (eDone (rd t0_1 0)))) rfl (w_ldp (eDone (rd t0_1 0)) (eDone (rd t0_1 0)) rfl · · · ag100 rfl (ble _ _ rfl) rfl) ?_
   refine rg_cons ⟨_, [(.b 57, .row false 100 11 (([(rd t0_1 0)]).map eDone)), (.t 57, .own 57 11 ([(rd t0_1 0)]).length)]⟩ (w_bsl (id := 57) [(0, .d (.agg (eDone (rd t0_1 0))))] [(rd t0_1 0)] eDone rfl trivial rfl (ble _ _ rfl) slT43 zr100 teDone (ble _ _ rfl) rfl (by kernel_rfl) rfl rfl (by kernel_rfl) (by kernel_rfl)) ?_
   obtain ⟨e54, h⟩ := gpos h
   refine rg_cons ⟨_, [(.b 1006, .spent), (.b 58, .row false 100 11 ((t6_1 ++ [(rd t0_1 0)]).map eDone)), (.t 58, .own 58 11 (t6_1 ++ [(rd t0_1 0)]).length)]⟩ (w_app 58 t6_1 ([(rd t0_1 0)]) eDone rfl rfl trivial rfl (ble _ _ rfl) slT43 elT100 teDone rfl rfl rfl (.own 57 _ _ rfl) rfl e54) ?_
   refine rM 59 (.d (.sl 11 (t0_1.map eDone))) rfl rfl ?_
   obtain ⟨e55, h⟩ := gpos h
   refine rT 60 (.d (.sl 11 ((List.drop (1 : Int).toNat t0_1).map eDone))) rfl (w_cutl t0_1 eDone rfl · · · slT43 rfl rfl e55) ?_
   refine rM 6 (.own 58 11 (t6_1 ++ [(rd t0_1 0)]).length) rfl rfl ?_
   refine rM 0 (.d (.sl 11 ((List.drop (1 : Int).toNat t0_1).map eDone))) rfl rfl ?_
   refine rg_nil ⟨by kernel_rfl, ?_⟩
   exact j15 _ _ h (wk_ren _ (fun i => bif Nat.beq i 1006 then 58 else i) rfl ⟨rfl, rfl, rfl, rfl, trivial⟩)
  replace h := cneg e52 h
  refine ht_seq ?_
  refine ht_region_draw mixed ?_
  refine rM 62 (.d (.sl 11 (t0_1.map eDone))) rfl rfl ?_
  refine rT 63 (iV (t0_1.length : Int)) rfl (w_len t0_1 eDone rfl rfl · · · slT43 rfl) ?_
  refine rT 64 (bV (eqI (t0_1.length : Int) 0)) rfl (v_bin rfl · · · rfl rfl (b_eql rfl)) ?_
  refine rM 65 (bV (eqI (t0_1.length : Int) 0)) rfl rfl ?_
  refine rF 66 (.d (.sl 11 (t1_1.map eDone))) rfl rfl (fun e56 => (v_move (.inl rfl) · · · rfl)) ?_
  obtain ⟨e58, h⟩ := gpos h
  refine rF 67 (.d (.dp (eDone (rd t1_1 0)))) rfl rfl (fun e57 => (w_idx t1_1 eDone rfl · · · slT43 (gv (nF e57)) rfl (orT e58 (nF e57)))) ?_
  refine rF 68 (.d (.dp (eDone (rd t1_1 0)))) rfl rfl (fun e59 => (v_field_dp (a0 := 0) (cs := (eDone (rd t1_1 0))) rfl · · · fo100_0 (gv (nF e59)))) ?_
  refine rF 69 (iV (rd t1_1 0).mClient) rfl rfl (fun e60 => (v_load_dp1 rfl · · · onT3 (gv (nF e60)) rfl)) ?_
  refine rF 70 (.d (.sl 11 (t0_1.map eDone))) rfl rfl (fun e61 => (v_move (.inl rfl) · · · rfl)) ?_
  obtain ⟨e63, h⟩ := gpos h
  refine rF 71 (.d (.dp (eDone (rd t0_1 0)))) rfl rfl (fun e62 => (w_idx t0_1 eDone rfl · · · slT43 (gv (nF e62)) rfl (orT e63 (nF e62)))) ?_
  refine rF 72 (.d (.dp (eDone (rd t0_1 0)))) rfl rfl (fun e64 => (v_field_dp (a0 := 0) (cs := (eDone (rd t0_1 0))) rfl · · · fo100_0 (gv (nF e64)))) ?_
  refine rF 73 (iV (rd t0_1 0).mClient) rfl rfl (fun e65 => (v_load_dp1 rfl · · · onT3 (gv (nF e65)) rfl)) ?_
  refine rF 74 (bV (ltI (rd t1_1 0).mClient (rd t0_1 0).mClient)) rfl rfl (fun e66 => (v_bin rfl · · · (gv (nF e66)) (gv (nF e66)) (b_lss rfl))) ?_
  refine rT 75 (bV ((eqI (t0_1.length : Int) 0) || (ltI (rd t1_1 0).mClient (rd t0_1 0).mClient))) rfl (v_pickB rfl · · · rfl (fun e67 => rfl) (fun e68 => (gv (nF e68))) (pO _ _)) ?_
  refine rM 61 (bV ((eqI (t0_1.length : Int) 0) || (ltI (rd t1_1 0).mClient (rd t0_1 0).mClient))) rfl rfl ?_
  refine rg_nil ⟨by kernel_rfl, ?_⟩
  refine ht_cond rfl (fun e69 => ?_) (fun e69 => ?_)
  ·replace h := cpos e69 h
   refine ht_region_draw mixed ?_
   refine rM 76 (.own 1006 11 t6_1.length) rfl rfl ?_
   refine rM 77 (.d (.sl 11 (t1_1.map eDone))) rfl rfl ?_
   obtain ⟨e70, h⟩ := gpos h
   refine rT 78 (.d (.dp (eDone (rd t1_1 0)))) rfl (w_idx t1_1 eDone rfl · · · slT43 rfl rfl e70) ?_
   refine rT 79 (.d (.agg (eDone (rd t1_1 0)))) rfl (w_ldp (eDone (rd t1_1 0)) (eDone (rd t1_1 0)) rfl · · · ag100 rfl (ble _ _ rfl) rfl) ?_
   refine rg_cons ⟨_, [(.b 80, .row false 100 11 (([(rd t1_1 0)]).map eDone)), (.t 80, .own 80 11 ([(rd t1_1 0)]).length)]⟩ (w_bsl (id := 80) [(0, .d (.agg (eDone (rd t1_1 0))))] [(rd t1_1 0)] eDone rfl trivial rfl (ble _ _ rfl) slT43 zr100 teDone (ble _ _ rfl) rfl (by kernel_rfl) rfl rfl (by kernel_rfl) (by kernel_rfl)) ?_
   obtain ⟨e71, h⟩ := gpos h
   refine rg_cons ⟨_, [(.b 1006, .spent), (.b 81, .row false 100 11 ((t6_1 ++ [(rd t1_1 0)]).map eDone)), (.t 81, .own 81 11 (t6_1 ++ [(rd t1_1 0)]).length)]⟩ (w_app 81 t6_1 ([(rd t1_1 0)]) eDone rfl rfl trivial rfl (ble _ _ rfl) slT43 elT100 teDone rfl rfl rfl (.own 80 _ _ rfl) rfl e71) ?_
   refine rM 82 (.d (.sl 11 (t1_1.map eDone))) rfl rfl ?_
   obtain ⟨e72, h⟩ := gpos h
   refine rT 83 (.d (.sl 11 ((List.drop (1 : Int).toNat t1_1).map eDone))) rfl (w_cutl t1_1 eDone rfl · · · slT43 rfl rfl e72) ?_
   refine rM 6 (.own 81 11 (t6_1 ++ [(rd t1_1 0)]).length) rfl rfl ?_
   refine rM 1 (.d (.sl 11 ((List.drop (1 : Int).toNat t1_1).map eDone))) rfl rfl ?_
   refine rg_nil ⟨by kernel_rfl, ?_⟩
   exact j15 _ _ h (wk_ren _ (fun i => bif Nat.beq i 1006 then 81 else i) rfl ⟨rfl, rfl, rfl, rfl, trivial⟩)
  replace h := cneg e69 h
  refine ht_seq ?_
  refine ht_region_draw mixed ?_
  refine rM 85 (.d (.sl 11 (t0_1.map eDone))) rfl rfl ?_
  obtain ⟨e73, h⟩ := gpos h
  refine rT 86 (.d (.dp (eDone (rd t0_1 0)))) rfl (w_idx t0_1 eDone rfl · · · slT43 rfl rfl e73) ?_
  refine rT 87 (.d (.dp (List.drop 1 (eDone (rd t0_1 0))))) rfl (v_field_dp (a0 := 1) (cs := (eDone (rd t0_1 0))) rfl · · · fo100_1 rfl) ?_
  refine rT 88 (iV (rd t0_1 0).mReq) rfl (v_load_dp1 rfl · · · onT3 rfl rfl) ?_
  refine rM 89 (.d (.sl 11 (t1_1.map eDone))) rfl rfl ?_
  obtain ⟨e74, h⟩ := gpos h
  refine rT 90 (.d (.dp (eDone (rd t1_1 0)))) rfl (w_idx t1_1 eDone rfl · · · slT43 rfl rfl e74) ?_
  refine rT 91 (.d (.dp (List.drop 1 (eDone (rd t1_1 0))))) rfl (v_field_dp (a0 := 1) (cs := (eDone (rd t1_1 0))) rfl · · · fo100_1 rfl) ?_
  refine rT 92 (iV (rd t1_1 0).mReq) rfl (v_load_dp1 rfl · · · onT3 rfl rfl) ?_
  refine rT 93 (bV (leI (rd t1_1 0).mReq (rd t0_1 0).mReq)) rfl (v_bin rfl · · · rfl rfl (b_geq rfl)) ?_
  refine rM 84 (bV (leI (rd t1_1 0).mReq (rd t0_1 0).mReq)) rfl rfl ?_
  refine rg_nil ⟨by kernel_rfl, ?_⟩
  refine ht_cond rfl (fun e75 => ?_) (fun e75 => ?_)
  ·replace h := cpos e75 h
   refine ht_region_draw mixed ?_
   refine rM 94 (.own 1006 11 t6_1.length) rfl rfl ?_
   refine rM 95 (.d (.sl 11 (t0_1.map eDone))) rfl rfl ?_
   obtain ⟨e76, h⟩ := gpos h
   refine rT 96 (.d (.dp (eDone (rd t0_1 0)))) rfl (w_idx t0_1 eDone rfl · · · slT43 rfl rfl e76) ?_
   refine rT 97 (.d (.agg (eDone (rd t0_1 0)))) rfl (w_ldp (eDone (rd t0_1 0)) (eDone (rd t0_1 0)) rfl · · · ag100 rfl (ble _ _ rfl) rfl) ?_
   refine rg_cons ⟨_, [(.b 98, .row false 100 11 (([(rd t0_1 0)]).map eDone)), (.t 98, .own 98 11 ([(rd t0_1 0)]).length)]⟩ (w_bsl (id := 98) [(0, .d (.agg (eDone (rd t0_1 0))))] [(rd t0_1 0)] eDone rfl trivial rfl (ble _ _ rfl) slT43 zr100 teDone (ble _ _ rfl) rfl (by kernel_rfl) rfl rfl (by kernel_rfl) (by kernel_rfl)) ?_
   obtain ⟨e77, h⟩ := gpos h
   refine rg_cons ⟨_, [(.b 1006, .spent), (.b 99, .row false 100 11 ((t6_1 ++ [(rd t0_1 0)]).map eDone)), (.t 99, .own 99 11 (t6_1 ++ [(rd t0_1 0)]).length)]⟩ (w_app 99 t6_1 ([(rd t0_1 0)]) eDone rfl rfl trivial rfl (ble _ _ rfl) slT43 elT100 teDone rfl rfl rfl (.own 98 _ _ rfl) rfl e77) ?_
   refine rM 100 (.d (.sl 11 (t0_1.map eDone))) rfl rfl ?_
   obtain ⟨e78, h⟩ := gpos h
   refine rT 101 (.d (.sl 11 ((List.drop (1 : Int).toNat t0_1).map eDone))) rfl (w_cutl t0_1 eDone rfl · · · slT43 rfl rfl e78) ?_
   refine rM 102 (.d (.sl 11 (t1_1.map eDone))) rfl rfl ?_
   obtain ⟨e79, h⟩ := gpos h
   refine rT 103 (.d (.sl 11 ((List.drop (1 : Int).toNat t1_1).map eDone))) rfl (w_cutl t1_1 eDone rfl · · · slT43 rfl rfl e79) ?_
   refine rM 6 (.own 99 11 (t6_1 ++ [(rd t0_1 0)]).length) rfl rfl ?_
   refine rM 0 (.d (.sl 11 ((List.drop (1 : Int).toNat t0_1).map eDone))) rfl rfl ?_
   refine rM 1 (.d (.sl 11 ((List.drop (1 : Int).toNat t1_1).map eDone))) rfl rfl ?_
   refine rg_nil ⟨by kernel_rfl, ?_⟩
   exact j15 _ _ h (wk_ren _ (fun i => bif Nat.beq i 1006 then 99 else i) rfl ⟨rfl, rfl, rfl, rfl, trivial⟩)
  replace h := cneg e75 h
  refine ht_region_draw mixed ?_
  refine rM 23 (.own 1006 11 t6_1.length) rfl rfl ?_
  refine rM 24 (.d (.sl 11 (t1_1.map eDone))) rfl rfl ?_
  obtain ⟨e80, h⟩ := gpos h
  refine rT 25 (.d (.dp (eDone (rd t1_1 0)))) rfl (w_idx t1_1 eDone rfl · · · slT43 rfl rfl e80) ?_
  refine rT 26 (.d (.agg (eDone (rd t1_1 0)))) rfl (w_ldp (eDone (rd t1_1 0)) (eDone (rd t1_1 0)) rfl · · · ag100 rfl (ble _ _ rfl) rfl) ?_
  refine rg_cons ⟨_, [(.b 27, .row false 100 11 (([(rd t1_1 0)]).map eDone)), (.t 27, .own 27 11 ([(rd t1_1 0)]).length)]⟩ (w_bsl (id := 27) [(0, .d (.agg (eDone (rd t1_1 0))))] [(rd t1_1 0)] eDone rfl trivial rfl (ble _ _ rfl) slT43 zr100 teDone (ble _ _ rfl) rfl (by kernel_rfl) rfl rfl (by kernel_rfl) (by kernel_rfl)) ?_
  obtain ⟨e81, h⟩ := gpos h
  refine rg_cons ⟨_, [(.b 1006, .spent), (.b 28, .row false 100 11 ((t6_1 ++ [(rd t1_1 0)]).map eDone)), (.t 28, .own 28 11 (t6_1 ++ [(rd t1_1 0)]).length)]⟩ (w_app 28 t6_1 ([(rd t1_1 0)]) eDone rfl rfl trivial rfl (ble _ _ rfl) slT43 elT100 teDone rfl rfl rfl (.own 27 _ _ rfl) rfl e81) ?_
  refine rM 29 (.d (.sl 11 (t0_1.map eDone))) rfl rfl ?_
  obtain ⟨e82, h⟩ := gpos h
  refine rT 30 (.d (.sl 11 ((List.drop (1 : Int).toNat t0_1).map eDone))) rfl (w_cutl t0_1 eDone rfl · · · slT43 rfl rfl e82) ?_
  refine rM 31 (.d (.sl 11 (t1_1.map eDone))) rfl rfl ?_
  obtain ⟨e83, h⟩ := gpos h
  refine rT 32 (.d (.sl 11 ((List.drop (1 : Int).toNat t1_1).map eDone))) rfl (w_cutl t1_1 eDone rfl · · · slT43 rfl rfl e83) ?_
  refine rM 6 (.own 28 11 (t6_1 ++ [(rd t1_1 0)]).length) rfl rfl ?_
  refine rM 0 (.d (.sl 11 ((List.drop (1 : Int).toNat t0_1).map eDone))) rfl rfl ?_
  refine rM 1 (.d (.sl 11 ((List.drop (1 : Int).toNat t1_1).map eDone))) rfl rfl ?_
  refine rg_nil ⟨by kernel_rfl, ?_⟩
  exact j15 _ _ h (wk_ren _ (fun i => bif Nat.beq i 1006 then 28 else i) rfl ⟨rfl, rfl, rfl, rfl, trivial⟩)
 replace h := cneg e22 h
 refine ht_exit ?_
 refine tq ?_
 refine tq ?_
 refine bq_hit ?_
 cases h
 exact j12 _ (wk_ren _ (fun i => i) rfl ⟨rfl, rfl, trivial⟩)
theorem s50 (k : Nat) (t0 : Cell) (t1 : Int) (t2 : Int) (t3 : Int) (t4 : Int) (r : Cell × Bool) (h : F50 k t0 t1 t2 t3 t4 = some r) : Awp.Spec Tryz.prog amb 50 [(.agg (eCell t0)), (.s (.int .i64 t1)), (.s (.int .i64 t2)), (.s (.int .i64 t3)), (.s (.int .i64 t4))] (.ds [(.agg (eCell r.1)), (.s (.bool r.2))]) := by
 rw [F50] at h
 refine spec_of Tryz.func50 rfl (ble _ _ rfl) fun w0 ok0 lt0 hA => ?_
 refine sr ?_
 refine sT 5 (.d (.dp (eCell t0))) rfl (v_box_d (cs := (eCell t0)) rfl · · · rfl rfl (ones_of rfl)) ?_
 refine sq_cons _ (v_alloc (id := 10) (cs := zc26) rfl trivial rfl (ble _ _ rfl) zu26 rfl ft26 rfl) ?_
 refine sM 11 (bV false) rfl rfl ?_
 refine sq_nil ?_
 refine ht_seq ?_
 refine sr ?_
 refine sT 20 (.d (.agg (eCell t0))) rfl (w_ldp (eCell t0) (eCell t0) rfl · · · ag26 rfl (ble _ _ rfl) rfl) ?_
 obtain ⟨t21, c1, h⟩ := bpos h
 refine sT 21 (bV t21) rfl (w_call (ds := [(.agg (eCell t0))]) (caps := []) (l := [(.s (.bool t21))]) (s25 k t0 _ c1) rfl rfl rfl en25 · · · (.inl ⟨rfl, rfl⟩) rfl rfl) ?_
 refine sT 22 (bV (!t21)) rfl (v_un rfl · · · rfl (u_not rfl)) ?_
 refine sM 23 (bV (!t21)) rfl rfl ?_
 refine sF 24 (iV t1) rfl rfl (fun e2 => (v_move (.inl rfl) · · · rfl)) ?_
 refine sF 25 (iV t2) rfl rfl (fun e3 => (v_move (.inl rfl) · · · rfl)) ?_
 refine sF 26 (iV t3) rfl rfl (fun e4 => (v_move (.inl rfl) · · · rfl)) ?_
 refine sF 27 (iV t4) rfl rfl (fun e5 => (v_move (.inl rfl) · · · rfl)) ?_
 refine sF 28 (.d (.sl 1 (([t1, t2, t3, t4]).map (eI .i64)))) rfl rfl (fun e6 => (w_bsl_d [(0, iV t1), (1, iV t2), (2, iV t3), (3, iV t4)] [t1, t2, t3, t4] (eI .i64) rfl · · · slT148 zr3 (encI .i64) (ble _ _ rfl) (cc (pr (gv (nF e6))) (cc (pr (gv (nF e6))) (cc (pr (gv (nF e6))) (cc (pr (gv (nF e6))) rfl)))) (by kernel_rfl) rfl rfl (by kernel_rfl))) ?_
 obtain ⟨t29, c8, h⟩ := bpos h
 refine sF 29 (bV t29) rfl rfl (fun e7 => (w_call (ds := [(.s (.int .i64 1)), (.sl 1 (([t1, t2, t3, t4]).map (eI .i64)))]) (caps := []) (l := [(.s (.bool t29))]) (s57 k 1 ([t1, t2, t3, t4]) _ (cpos (nF e7) c8)) rfl rfl rfl en57 · · · (.inl ⟨rfl, rfl⟩) (cc rfl (cc (gv (nF e7)) rfl)) rfl)) ?_
 refine sF 30 (bV (!t29)) rfl rfl (fun e9 => (v_un rfl · · · (gv (nF e9)) (u_not rfl))) ?_
 refine sT 31 (bV ((!t21) || (!t29))) rfl (v_pickB rfl · · · rfl (fun e10 => rfl) (fun e11 => (gv (nF e11))) (pO _ _)) ?_
 refine sq_nil ?_
 refine ht_cond rfl (fun e12 => ?_) (fun e12 => ?_)
 ·replace h := cpos e12 h
  refine sr ?_
  refine sT 32 (.d (.agg (eCell t0))) rfl (w_ldp (eCell t0) (eCell t0) rfl · · · ag26 rfl (ble _ _ rfl) rfl) ?_
  refine sq_cons _ (v_store_box (id := 10) (off := 0) (cs := (eCell t0).map V.d) rfl trivial rfl sz26 rfl rfl rfl rfl (ones_of rfl) (ble _ _ rfl)) ?_
  refine sM 11 (bV false) rfl rfl ?_
  refine sq_nil ?_
  refine ht_ret ?_
  cases h
  exact ret2 rfl (.cell rfl rfl ag26 (ble _ _ rfl) rfl) (.tmp rfl)
 replace h := cneg e12 h
 refine ht_skip ?_
 refine ht_seq ?_
 refine ht_region_draw mixed ?_
 refine rT 33 (.d (.agg (eCell t0))) rfl (w_ldp (eCell t0) (eCell t0) rfl · · · ag26 rfl (ble _ _ rfl) rfl) ?_
 refine rM 34 (iV t1) rfl rfl ?_
 obtain ⟨t35, c13, h⟩ := bpos h
 refine rT 35 (.d (.agg (eShard t35))) rfl (w_call (ds := [(.agg (eCell t0)), (.s (.int .i64 t1))]) (caps := []) (l := [(.agg (eShard t35))]) (s60 k t0 t1 _ c13) rfl rfl rfl en60 · · · (.inl ⟨rfl, rfl⟩) rfl rfl) ?_
 refine rT 36 (.d (.agg (eCell t0))) rfl (w_ldp (eCell t0) (eCell t0) rfl · · · ag26 rfl (ble _ _ rfl) rfl) ?_
 refine rM 37 (iV t2) rfl rfl ?_
 obtain ⟨t38, c14, h⟩ := bpos h
 refine rT 38 (.d (.agg (eShard t38))) rfl (w_call (ds := [(.agg (eCell t0)), (.s (.int .i64 t2))]) (caps := []) (l := [(.agg (eShard t38))]) (s60 k t0 t2 _ c14) rfl rfl rfl en60 · · · (.inl ⟨rfl, rfl⟩) rfl rfl) ?_
 refine rg_cons _ (v_alloc (id := 12) (cs := zc45) rfl trivial rfl (ble _ _ rfl) zu45 rfl ft45 rfl) ?_
 refine rg_cons _ (v_alloc (id := 13) (cs := zc45) rfl trivial rfl (ble _ _ rfl) zu45 rfl ft45 rfl) ?_
 refine rg_cons _ (v_store_box (id := 12) (off := 0) (cs := (eShard t35).map V.d) rfl trivial rfl sz45 rfl rfl rfl rfl (ones_of rfl) (ble _ _ rfl)) ?_
 refine rg_cons _ (v_store_box (id := 13) (off := 0) (cs := (eShard t38).map V.d) rfl trivial rfl sz45 rfl rfl rfl rfl (ones_of rfl) (ble _ _ rfl)) ?_
 refine rg_nil ⟨by kernel_rfl, ?_⟩
 refine ht_seq ?_
 refine sr ?_
 refine sT 39 (.ptr 12 0) rfl (v_field_box (off := 0) (a0 := 0) rfl · · · fo45_0 rfl) ?_
 refine sT 40 (iV t35.mID) rfl (v_load_box1 (id := 12) (off := 0) rfl · · · onT3 rfl rfl (ble _ _ rfl) rfl) ?_
 refine sT 41 (bV (!eqI t35.mID 0)) rfl (v_bin rfl · · · rfl rfl (b_neq rfl)) ?_
 refine sM 42 (bV (!eqI t35.mID 0)) rfl rfl ?_
 refine sG 43 (.ptr 12 1) rfl rfl (fun e15 => (v_field_box (off := 0) (a0 := 1) rfl · · · fo45_1 rfl)) ?_
 refine sG 44 (iV t35.mEpoch) rfl rfl (fun e16 => (v_load_box1 (id := 12) (off := 1) rfl · · · onT3 (gv e16) rfl (ble _ _ rfl) rfl)) ?_
 refine sG 45 (iV t4) rfl rfl (fun e17 => (v_move (.inl rfl) · · · rfl)) ?_
 refine sG 46 (bV (eqI t35.mEpoch t4)) rfl rfl (fun e18 => (v_bin rfl · · · (gv e18) (gv e18) (b_eql rfl))) ?_
 refine sT 47 (bV ((!eqI t35.mID 0) && (eqI t35.mEpoch t4))) rfl (v_pickB rfl · · · rfl (fun e19 => (gv e19)) (fun e20 => rfl) (pA _ _)) ?_
 refine sM 48 (bV ((!eqI t35.mID 0) && (eqI t35.mEpoch t4))) rfl rfl ?_
 refine sG 49 (.ptr 13 0) rfl rfl (fun e21 => (v_field_box (off := 0) (a0 := 0) rfl · · · fo45_0 rfl)) ?_
 refine sG 50 (iV t38.mID) rfl rfl (fun e22 => (v_load_box1 (id := 13) (off := 0) rfl · · · onT3 (gv e22) rfl (ble _ _ rfl) rfl)) ?_
 refine sG 51 (bV (eqI t38.mID 0)) rfl rfl (fun e23 => (v_bin rfl · · · (gv e23) rfl (b_eql rfl))) ?_
 refine sT 52 (bV (((!eqI t35.mID 0) && (eqI t35.mEpoch t4)) && (eqI t38.mID 0))) rfl (v_pickB rfl · · · rfl (fun e24 => (gv e24)) (fun e25 => rfl) (pA _ _)) ?_
 refine sq_nil ?_
 refine ht_cond rfl (fun e26 => ?_) (fun e26 => ?_)
 ·replace h := cpos e26 h
  refine sr ?_
  refine sT 53 (.d (.agg (eCell t0))) rfl (w_ldp (eCell t0) (eCell t0) rfl · · · ag26 rfl (ble _ _ rfl) rfl) ?_
  refine sq_cons _ (v_store_box (id := 10) (off := 0) (cs := (eCell t0).map V.d) rfl trivial rfl sz26 rfl rfl rfl rfl (ones_of rfl) (ble _ _ rfl)) ?_
  refine sM 11 (bV true) rfl rfl ?_
  refine sq_nil ?_
  refine ht_ret ?_
  cases h
  exact ret2 rfl (.cell rfl rfl ag26 (ble _ _ rfl) rfl) (.tmp rfl)
 replace h := cneg e26 h
 refine ht_skip ?_
 refine ht_seq ?_
 refine sr ?_
 refine sT 54 (.d (.agg (eShard t35))) rfl (w_ldb 12 0 rfl · · · ag45 rfl rfl (ble _ _ rfl) rfl) ?_
 refine sM 55 (iV t3) rfl rfl ?_
 obtain ⟨t56, c27, h⟩ := bpos h
 refine sT 56 (bV t56) rfl (w_call (ds := [(.agg (eShard t35)), (.s (.int .i64 t3))]) (caps := []) (l := [(.s (.bool t56))]) (s107 k t35 t3 _ c27) rfl rfl rfl en107 · · · (.inl ⟨rfl, rfl⟩) rfl rfl) ?_
 refine sT 57 (bV (!t56)) rfl (v_un rfl · · · rfl (u_not rfl)) ?_
 refine sM 58 (bV (!t56)) rfl rfl ?_
 refine sF 59 (.d (.agg (eShard t38))) rfl rfl (fun e28 => (w_ldb 13 0 rfl · · · ag45 rfl rfl (ble _ _ rfl) rfl)) ?_
 refine sF 60 (.ptr 13 1) rfl rfl (fun e29 => (v_field_box (off := 0) (a0 := 1) rfl · · · fo45_1 rfl)) ?_
 refine sF 61 (iV t38.mEpoch) rfl rfl (fun e30 => (v_load_box1 (id := 13) (off := 1) rfl · · · onT3 (gv (nF e30)) rfl (ble _ _ rfl) rfl)) ?_
 obtain ⟨t62, c32, h⟩ := bpos h
 refine sF 62 (bV t62) rfl rfl (fun e31 => (w_call (ds := [(.agg (eShard t38)), (.s (.int .i64 t38.mEpoch))]) (caps := []) (l := [(.s (.bool t62))]) (s107 k t38 t38.mEpoch _ (cpos (nF e31) c32)) rfl rfl rfl en107 · · · (.inl ⟨rfl, rfl⟩) (cc (gv (nF e31)) (cc (gv (nF e31)) rfl)) rfl)) ?_
 refine sF 63 (bV (!t62)) rfl rfl (fun e33 => (v_un rfl · · · (gv (nF e33)) (u_not rfl))) ?_
 refine sT 64 (bV ((!t56) || (!t62))) rfl (v_pickB rfl · · · rfl (fun e34 => rfl) (fun e35 => (gv (nF e35))) (pO _ _)) ?_
 refine sM 65 (bV ((!t56) || (!t62))) rfl rfl ?_
 refine sF 66 (iV t4) rfl rfl (fun e36 => (v_move (.inl rfl) · · · rfl)) ?_
 refine sF 67 (.ptr 12 1) rfl rfl (fun e37 => (v_field_box (off := 0) (a0 := 1) rfl · · · fo45_1 rfl)) ?_
 refine sF 68 (iV t35.mEpoch) rfl rfl (fun e38 => (v_load_box1 (id := 12) (off := 1) rfl · · · onT3 (gv (nF e38)) rfl (ble _ _ rfl) rfl)) ?_
 refine sF 69 (bV (leI t4 t35.mEpoch)) rfl rfl (fun e39 => (v_bin rfl · · · (gv (nF e39)) (gv (nF e39)) (b_leq rfl))) ?_
 refine sT 70 (bV (((!t56) || (!t62)) || (leI t4 t35.mEpoch))) rfl (v_pickB rfl · · · rfl (fun e40 => rfl) (fun e41 => (gv (nF e41))) (pO _ _)) ?_
 refine sM 71 (bV (((!t56) || (!t62)) || (leI t4 t35.mEpoch))) rfl rfl ?_
 refine sF 72 (iV t4) rfl rfl (fun e42 => (v_move (.inl rfl) · · · rfl)) ?_
 refine sF 73 (.ptr 13 1) rfl rfl (fun e43 => (v_field_box (off := 0) (a0 := 1) rfl · · · fo45_1 rfl)) ?_
 refine sF 74 (iV t38.mEpoch) rfl rfl (fun e44 => (v_load_box1 (id := 13) (off := 1) rfl · · · onT3 (gv (nF e44)) rfl (ble _ _ rfl) rfl)) ?_
 refine sF 75 (bV (leI t4 t38.mEpoch)) rfl rfl (fun e45 => (v_bin rfl · · · (gv (nF e45)) (gv (nF e45)) (b_leq rfl))) ?_
 refine sT 76 (bV ((((!t56) || (!t62)) || (leI t4 t35.mEpoch)) || (leI t4 t38.mEpoch))) rfl (v_pickB rfl · · · rfl (fun e46 => rfl) (fun e47 => (gv (nF e47))) (pO _ _)) ?_
 refine sM 77 (bV ((((!t56) || (!t62)) || (leI t4 t35.mEpoch)) || (leI t4 t38.mEpoch))) rfl rfl ?_
 refine sF 78 (.ptr 12 16) rfl rfl (fun e48 => (v_field_box (off := 0) (a0 := 16) rfl · · · fo45_11 rfl)) ?_
 refine sF 79 (iV t35.mClosed) rfl rfl (fun e49 => (v_load_box1 (id := 12) (off := 16) rfl · · · onT3 (gv (nF e49)) rfl (ble _ _ rfl) rfl)) ?_
 refine sF 80 (iV t4) rfl rfl (fun e50 => (v_move (.inl rfl) · · · rfl)) ?_
 refine sF 81 (bV (leI t4 t35.mClosed)) rfl rfl (fun e51 => (v_bin rfl · · · (gv (nF e51)) (gv (nF e51)) (b_geq rfl))) ?_
 refine sT 82 (bV (((((!t56) || (!t62)) || (leI t4 t35.mEpoch)) || (leI t4 t38.mEpoch)) || (leI t4 t35.mClosed))) rfl (v_pickB rfl · · · rfl (fun e52 => rfl) (fun e53 => (gv (nF e53))) (pO _ _)) ?_
 refine sq_nil ?_
 refine ht_cond rfl (fun e54 => ?_) (fun e54 => ?_)
 ·replace h := cpos e54 h
  refine sr ?_
  refine sT 83 (.d (.agg (eCell t0))) rfl (w_ldp (eCell t0) (eCell t0) rfl · · · ag26 rfl (ble _ _ rfl) rfl) ?_
  refine sq_cons _ (v_store_box (id := 10) (off := 0) (cs := (eCell t0).map V.d) rfl trivial rfl sz26 rfl rfl rfl rfl (ones_of rfl) (ble _ _ rfl)) ?_
  refine sM 11 (bV false) rfl rfl ?_
  refine sq_nil ?_
  refine ht_ret ?_
  cases h
  exact ret2 rfl (.cell rfl rfl ag26 (ble _ _ rfl) rfl) (.tmp rfl)
 replace h := cneg e54 h
 refine ht_skip ?_
 refine sr ?_
 refine sT 85 (.ptr 12 2) rfl (v_field_box (off := 0) (a0 := 2) rfl · · · fo45_2 rfl) ?_
 refine sT 86 (.d (.agg (eSpan t35.mSpan))) rfl (w_ldb 12 2 rfl · · · ag41 rfl rfl (ble _ _ rfl) rfl) ?_
 refine sT 87 (.ptr 13 2) rfl (v_field_box (off := 0) (a0 := 2) rfl · · · fo45_2 rfl) ?_
 refine sT 88 (.d (.agg (eSpan t38.mSpan))) rfl (w_ldb 13 2 rfl · · · ag41 rfl rfl (ble _ _ rfl) rfl) ?_
 obtain ⟨⟨t89a, t89b⟩, c55, h⟩ := bpos h
 refine sT 89 (.tup [.d (.agg (eSpan t89a)), iV t89b]) rfl (w_call (ds := [(.agg (eSpan t35.mSpan)), (.agg (eSpan t38.mSpan))]) (caps := []) (l := [(.agg (eSpan t89a)), (.s (.int .i64 t89b))]) (s112 k t35.mSpan t38.mSpan _ c55) rfl rfl rfl en112 · · · (.inl ⟨rfl, rfl⟩) rfl rfl) ?_
 refine sM 84 (.tup [.d (.agg (eSpan t89a)), iV t89b]) rfl rfl ?_
 refine sT 90 (.d (.agg (eSpan t89a))) rfl (v_extract rfl · · · rfl rfl) ?_
 refine sT 91 (iV t89b) rfl (v_extract rfl · · · rfl rfl) ?_
 refine sq_cons _ (v_alloc (id := 14) (cs := zc41) rfl trivial rfl (ble _ _ rfl) zu41 rfl ft41 rfl) ?_
 refine sq_cons _ (v_store_box (id := 14) (off := 0) (cs := (eSpan t89a).map V.d) rfl trivial rfl sz41 rfl rfl rfl rfl (ones_of rfl) (ble _ _ rfl)) ?_
 refine sM 15 (iV t89b) rfl rfl ?_
 refine sq_nil ?_
 refine sr ?_
 refine sT 93 (.ptr 12 5) rfl (v_field_box (off := 0) (a0 := 5) rfl · · · fo45_4 rfl) ?_
 refine sT 94 (.d (.sl 2 (t35.mEntries.map eEntry))) rfl (v_load_box1 (id := 12) (off := 5) rfl · · · onT42 rfl rfl (ble _ _ rfl) rfl) ?_
 refine sT 95 (.ptr 13 5) rfl (v_field_box (off := 0) (a0 := 5) rfl · · · fo45_4 rfl) ?_
 refine sT 96 (.d (.sl 2 (t38.mEntries.map eEntry))) rfl (v_load_box1 (id := 13) (off := 5) rfl · · · onT42 rfl rfl (ble _ _ rfl) rfl) ?_
 obtain ⟨⟨t97a, t97b⟩, c56, h⟩ := bpos h
 refine sT 97 (.tup [.d (.sl 2 (t97a.map eEntry)), iV t97b]) rfl (w_call (ds := [(.sl 2 (t35.mEntries.map eEntry)), (.sl 2 (t38.mEntries.map eEntry))]) (caps := []) (l := [(.sl 2 (t97a.map eEntry)), (.s (.int .i64 t97b))]) (s113 k t35.mEntries t38.mEntries _ c56) rfl rfl rfl en113 · · · (.inl ⟨rfl, rfl⟩) rfl rfl) ?_
 refine sM 92 (.tup [.d (.sl 2 (t97a.map eEntry)), iV t97b]) rfl rfl ?_
 refine sT 98 (.d (.sl 2 (t97a.map eEntry))) rfl (v_extract rfl · · · rfl rfl) ?_
 refine sT 99 (iV t97b) rfl (v_extract rfl · · · rfl rfl) ?_
 refine sM 16 (.d (.sl 2 (t97a.map eEntry))) rfl rfl ?_
 refine sM 17 (iV t97b) rfl rfl ?_
 refine sq_nil ?_
 refine sr ?_
 refine sT 101 (.ptr 12 12) rfl (v_field_box (off := 0) (a0 := 12) rfl · · · fo45_7 rfl) ?_
 refine sT 102 (.d (.sl 11 (t35.mDone.map eDone))) rfl (v_load_box1 (id := 12) (off := 12) rfl · · · onT43 rfl rfl (ble _ _ rfl) rfl) ?_
 refine sT 103 (.ptr 13 12) rfl (v_field_box (off := 0) (a0 := 12) rfl · · · fo45_7 rfl) ?_
 refine sT 104 (.d (.sl 11 (t38.mDone.map eDone))) rfl (v_load_box1 (id := 13) (off := 12) rfl · · · onT43 rfl rfl (ble _ _ rfl) rfl) ?_
 obtain ⟨⟨t105a, t105b⟩, c57, h⟩ := bpos h
 refine sT 105 (.tup [.d (.sl 11 (t105a.map eDone)), iV t105b]) rfl (w_call (ds := [(.sl 11 (t35.mDone.map eDone)), (.sl 11 (t38.mDone.map eDone))]) (caps := []) (l := [(.sl 11 (t105a.map eDone)), (.s (.int .i64 t105b))]) (s114 k t35.mDone t38.mDone _ c57) rfl rfl rfl en114 · · · (.inl ⟨rfl, rfl⟩) rfl rfl) ?_
 refine sM 100 (.tup [.d (.sl 11 (t105a.map eDone)), iV t105b]) rfl rfl ?_
 refine sT 106 (.d (.sl 11 (t105a.map eDone))) rfl (v_extract rfl · · · rfl rfl) ?_
 refine sT 107 (iV t105b) rfl (v_extract rfl · · · rfl rfl) ?_
 refine sM 18 (.d (.sl 11 (t105a.map eDone))) rfl rfl ?_
 refine sM 19 (iV t105b) rfl rfl ?_
 refine sq_nil ?_
 refine ht_seq ?_
 refine sr ?_
 refine sM 108 (iV t89b) rfl rfl ?_
 refine sT 109 (bV (!eqI t89b 0)) rfl (v_bin rfl · · · rfl rfl (b_neq rfl)) ?_
 refine sM 110 (bV (!eqI t89b 0)) rfl rfl ?_
 refine sF 111 (iV t97b) rfl rfl (fun e58 => (v_move (.inl rfl) · · · rfl)) ?_
 refine sF 112 (bV (!eqI t97b 0)) rfl rfl (fun e59 => (v_bin rfl · · · (gv (nF e59)) rfl (b_neq rfl))) ?_
 refine sT 113 (bV ((!eqI t89b 0) || (!eqI t97b 0))) rfl (v_pickB rfl · · · rfl (fun e60 => rfl) (fun e61 => (gv (nF e61))) (pO _ _)) ?_
 refine sM 114 (bV ((!eqI t89b 0) || (!eqI t97b 0))) rfl rfl ?_
 refine sF 115 (iV t105b) rfl rfl (fun e62 => (v_move (.inl rfl) · · · rfl)) ?_
 refine sF 116 (bV (!eqI t105b 0)) rfl rfl (fun e63 => (v_bin rfl · · · (gv (nF e63)) rfl (b_neq rfl))) ?_
 refine sT 117 (bV (((!eqI t89b 0) || (!eqI t97b 0)) || (!eqI t105b 0))) rfl (v_pickB rfl · · · rfl (fun e64 => rfl) (fun e65 => (gv (nF e65))) (pO _ _)) ?_
 refine sq_nil ?_
 refine ht_cond rfl (fun e66 => ?_) (fun e66 => ?_)
 ·replace h := cpos e66 h
  refine sr ?_
  refine sT 118 (.d (.agg (eCell t0))) rfl (w_ldp (eCell t0) (eCell t0) rfl · · · ag26 rfl (ble _ _ rfl) rfl) ?_
  refine sq_cons _ (v_store_box (id := 10) (off := 0) (cs := (eCell t0).map V.d) rfl trivial rfl sz26 rfl rfl rfl rfl (ones_of rfl) (ble _ _ rfl)) ?_
  refine sM 11 (bV false) rfl rfl ?_
  refine sq_nil ?_
  refine ht_ret ?_
  cases h
  exact ret2 rfl (.cell rfl rfl ag26 (ble _ _ rfl) rfl) (.tmp rfl)
 replace h := cneg e66 h
 refine ht_skip ?_
 refine sr ?_
 refine sT 119 (.d (.agg (eSpan t89a))) rfl (w_ldb 14 0 rfl · · · ag41 rfl rfl (ble _ _ rfl) rfl) ?_
 refine sM 120 (.d (.sl 11 (t105a.map eDone))) rfl rfl ?_
 refine sM 121 (iV t4) rfl rfl ?_
 refine sT 122 (.ptr 12 2) rfl (v_field_box (off := 0) (a0 := 2) rfl · · · fo45_2 rfl) ?_
 refine sq_cons _ (v_store_box (id := 12) (off := 2) (cs := (eSpan t89a).map V.d) rfl trivial rfl sz41 rfl rfl rfl rfl (ones_of rfl) (ble _ _ rfl)) ?_
 refine sT 123 (.ptr 12 12) rfl (v_field_box (off := 0) (a0 := 12) rfl · · · fo45_7 rfl) ?_
 refine sq_cons _ (v_store_box (id := 12) (off := 12) (cs := [(.sl 11 (t105a.map eDone))].map V.d) rfl trivial rfl sz43 rfl rfl rfl rfl (ones_of rfl) (ble _ _ rfl)) ?_
 refine sT 124 (.ptr 12 1) rfl (v_field_box (off := 0) (a0 := 1) rfl · · · fo45_1 rfl) ?_
 refine sq_cons _ (v_store_box (id := 12) (off := 1) (cs := [(.s (.int .i64 t4))].map V.d) rfl trivial rfl sz3 rfl rfl rfl rfl (ones_of rfl) (ble _ _ rfl)) ?_
 refine sT 125 (.ptr 12 15) rfl (v_field_box (off := 0) (a0 := 15) rfl · · · fo45_10 rfl) ?_
 refine sq_cons _ (v_store_box (id := 12) (off := 15) (cs := [(.s (.int .i64 0))].map V.d) rfl trivial rfl sz3 rfl rfl rfl rfl (ones_of rfl) (ble _ _ rfl)) ?_
 refine sq_nil ?_
 refine sr ?_
 refine sT 126 (.ptr 12 6) rfl (v_field_box (off := 0) (a0 := 6) rfl · · · fo45_5 rfl) ?_
 refine sT 127 (.d (.agg (eStamp t35.mMark))) rfl (w_ldb 12 6 rfl · · · ag24 rfl rfl (ble _ _ rfl) rfl) ?_
 refine sT 128 (.ptr 13 6) rfl (v_field_box (off := 0) (a0 := 6) rfl · · · fo45_5 rfl) ?_
 refine sT 129 (.d (.agg (eStamp t38.mMark))) rfl (w_ldb 13 6 rfl · · · ag24 rfl rfl (ble _ _ rfl) rfl) ?_
 obtain ⟨t130, c67, h⟩ := bpos h
 refine sT 130 (.d (.agg (eStamp t130))) rfl (w_call (ds := [(.agg (eStamp t35.mMark)), (.agg (eStamp t38.mMark))]) (caps := []) (l := [(.agg (eStamp t130))]) (s37 k t35.mMark t38.mMark _ c67) rfl rfl rfl en37 · · · (.inl ⟨rfl, rfl⟩) rfl rfl) ?_
 refine sT 131 (.ptr 12 6) rfl (v_field_box (off := 0) (a0 := 6) rfl · · · fo45_5 rfl) ?_
 refine sq_cons _ (v_store_box (id := 12) (off := 6) (cs := (eStamp t130).map V.d) rfl trivial rfl sz24 rfl rfl rfl rfl (ones_of rfl) (ble _ _ rfl)) ?_
 refine sq_nil ?_
 refine sr ?_
 refine sM 132 (.d (.sl 2 (t97a.map eEntry))) rfl rfl ?_
 refine sT 133 (.ptr 12 6) rfl (v_field_box (off := 0) (a0 := 6) rfl · · · fo45_5 rfl) ?_
 refine sT 134 (.d (.agg (eStamp t130))) rfl (w_ldb 12 6 rfl · · · ag24 rfl rfl (ble _ _ rfl) rfl) ?_
 obtain ⟨t135, c68, h⟩ := bpos h
 refine sT 135 (.d (.sl 2 (t135.map eEntry))) rfl (w_call (ds := [(.sl 2 (t97a.map eEntry)), (.agg (eStamp t130))]) (caps := []) (l := [(.sl 2 (t135.map eEntry))]) (s99 k t97a t130 _ c68) rfl rfl rfl en99 · · · (.inl ⟨rfl, rfl⟩) rfl rfl) ?_
 refine sT 136 (.ptr 12 5) rfl (v_field_box (off := 0) (a0 := 5) rfl · · · fo45_4 rfl) ?_
 refine sq_cons _ (v_store_box (id := 12) (off := 5) (cs := [(.sl 2 (t135.map eEntry))].map V.d) rfl trivial rfl sz42 rfl rfl rfl rfl (ones_of rfl) (ble _ _ rfl)) ?_
 refine sq_nil ?_
 refine ht_seq ?_
 refine ht_region_draw mixed ?_
 refine rT 137 (.ptr 12 14) rfl (v_field_box (off := 0) (a0 := 14) rfl · · · fo45_9 rfl) ?_
 refine rT 138 (iV t35.mSeen) rfl (v_load_box1 (id := 12) (off := 14) rfl · · · onT3 rfl rfl (ble _ _ rfl) rfl) ?_
 refine rT 139 (.ptr 13 14) rfl (v_field_box (off := 0) (a0 := 14) rfl · · · fo45_9 rfl) ?_
 refine rT 140 (iV t38.mSeen) rfl (v_load_box1 (id := 13) (off := 14) rfl · · · onT3 rfl rfl (ble _ _ rfl) rfl) ?_
 refine rT 141 (iV (maxI t35.mSeen t38.mSeen)) rfl (v_bi2 rfl rfl · · · rfl rfl (r_max und3 rfl)) ?_
 refine rT 142 (.ptr 12 16) rfl (v_field_box (off := 0) (a0 := 16) rfl · · · fo45_11 rfl) ?_
 refine rT 143 (iV t35.mClosed) rfl (v_load_box1 (id := 12) (off := 16) rfl · · · onT3 rfl rfl (ble _ _ rfl) rfl) ?_
 refine rT 144 (.ptr 13 16) rfl (v_field_box (off := 0) (a0 := 16) rfl · · · fo45_11 rfl) ?_
 refine rT 145 (iV t38.mClosed) rfl (v_load_box1 (id := 13) (off := 16) rfl · · · onT3 rfl rfl (ble _ _ rfl) rfl) ?_
 refine rT 146 (iV (maxI t35.mClosed t38.mClosed)) rfl (v_bi2 rfl rfl · · · rfl rfl (r_max und3 rfl)) ?_
 refine rT 147 (.ptr 12 14) rfl (v_field_box (off := 0) (a0 := 14) rfl · · · fo45_9 rfl) ?_
 refine rg_cons _ (v_store_box (id := 12) (off := 14) (cs := [(.s (.int .i64 (maxI t35.mSeen t38.mSeen)))].map V.d) rfl trivial rfl sz3 rfl rfl rfl rfl (ones_of rfl) (ble _ _ rfl)) ?_
 refine rT 148 (.ptr 12 16) rfl (v_field_box (off := 0) (a0 := 16) rfl · · · fo45_11 rfl) ?_
 refine rg_cons _ (v_store_box (id := 12) (off := 16) (cs := [(.s (.int .i64 (maxI t35.mClosed t38.mClosed)))].map V.d) rfl trivial rfl sz3 rfl rfl rfl rfl (ones_of rfl) (ble _ _ rfl)) ?_
 refine rg_nil ⟨by kernel_rfl, ?_⟩
 refine sr ?_
 refine sT 149 (.d (.agg (eCell t0))) rfl (w_ldp (eCell t0) (eCell t0) rfl · · · ag26 rfl (ble _ _ rfl) rfl) ?_
 refine sT 150 (.d (.agg (eShard (⟨t35.mID, t4, t89a, t35.mPhase, t135, t130, t35.mTop, t105a, t35.mHold, (maxI t35.mSeen t38.mSeen), 0, (maxI t35.mClosed t38.mClosed)⟩ : Shard)))) rfl (w_ldb 12 0 rfl · · · ag45 rfl rfl (ble _ _ rfl) rfl) ?_
 obtain ⟨t151, c69, h⟩ := bpos h
 refine sT 151 (.d (.agg (eCell t151))) rfl (w_call (ds := [(.agg (eCell t0)), (.agg (eShard (⟨t35.mID, t4, t89a, t35.mPhase, t135, t130, t35.mTop, t105a, t35.mHold, (maxI t35.mSeen t38.mSeen), 0, (maxI t35.mClosed t38.mClosed)⟩ : Shard)))]) (caps := []) (l := [(.agg (eCell t151))]) (s95 k t0 (⟨t35.mID, t4, t89a, t35.mPhase, t135, t130, t35.mTop, t105a, t35.mHold, (maxI t35.mSeen t38.mSeen), 0, (maxI t35.mClosed t38.mClosed)⟩ : Shard) _ c69) rfl rfl rfl en95 · · · (.inl ⟨rfl, rfl⟩) rfl rfl) ?_
 refine sM 152 (iV t2) rfl rfl ?_
 obtain ⟨t153, c70, h⟩ := bpos h
 refine sT 153 (.d (.agg (eCell t153))) rfl (w_call (ds := [(.agg (eCell t151)), (.s (.int .i64 t2))]) (caps := []) (l := [(.agg (eCell t153))]) (s105 k t151 t2 _ c70) rfl rfl rfl en105 · · · (.inl ⟨rfl, rfl⟩) rfl rfl) ?_
 refine sq_cons _ (v_store_box (id := 10) (off := 0) (cs := (eCell t153).map V.d) rfl trivial rfl sz26 rfl rfl rfl rfl (ones_of rfl) (ble _ _ rfl)) ?_
 refine sM 11 (bV true) rfl rfl ?_
 refine sq_nil ?_
 refine ht_ret ?_
 cases h
 exact ret2 rfl (.cell rfl rfl ag26 (ble _ _ rfl) rfl) (.tmp rfl)
end Go.Proofs.Gd
set_option linter.unusedVariables false
set_option maxRecDepth 100000
set_option maxHeartbeats 4000000
namespace Go.Proofs.Gd
open Go Go.Awp Go.Proofs
theorem s52 (k : Nat) (t0 : Cell) (t1 : List Act) (r : Bool) (h : F52 k t0 t1 = some r) : Awp.Spec Tryz.prog amb 52 [(.agg (eCell t0)), (.sl 21 (t1.map eAct))] (.ds [(.s (.bool r))]) := by
 rw [F52] at h
 refine spec_of Tryz.func52 rfl (ble _ _ rfl) fun w0 ok0 lt0 hA => ?_
 refine sr ?_
 refine sT 2 (.d (.dp (eCell t0))) rfl (v_box_d (cs := (eCell t0)) rfl · · · rfl rfl (ones_of rfl)) ?_
 refine sM 4 (bV false) rfl rfl ?_
 refine sq_nil ?_
 refine ht_gj (go_id' h) (fun _ => tell [(.t 2, .d (.dp (eCell t0)))]) (fun _ h => ?_) (fun v1 K2 h j4 r5 => ?_)
 ·refine sr ?_
  refine sT 23 (.d (.agg (eCell t0))) rfl (w_ldp (eCell t0) (eCell t0) rfl · · · ag26 rfl (ble _ _ rfl) rfl) ?_
  obtain ⟨t24, c17, h⟩ := bpos h
  refine sT 24 (bV t24) rfl (w_call (ds := [(.agg (eCell t0))]) (caps := []) (l := [(.s (.bool t24))]) (s14 k t0 _ c17) rfl rfl rfl en14 · · · (.inl ⟨rfl, rfl⟩) rfl rfl) ?_
  refine sM 4 (bV t24) rfl rfl ?_
  refine sq_nil ?_
  refine ht_ret ?_
  cases h
  exact ret1 rfl (.tmp rfl)
 refine sr ?_
 refine sM 5 (iV 0) rfl rfl ?_
 refine sq_nil ?_
 refine ht_block ?_
 refine ht_rd h (fun _ => rfl) (fun t5 => tell [(.t 1, .d (.sl 21 (t1.map eAct))), (.t 2, .d (.dp (eCell t0))), (.t 5, iV t5)]) (wk_ren _ (fun i => i) rfl ⟨rfl, rfl, rfl, trivial⟩) fun k t5 h K16 j7 => ?_
 rw [F52_l1] at h
 refine ht_seq ?_
 refine sr ?_
 refine sM 6 (iV t5) rfl rfl ?_
 refine sM 7 (.d (.sl 21 (t1.map eAct))) rfl rfl ?_
 refine sT 8 (iV (t1.length : Int)) rfl (w_len t1 eAct rfl rfl · · · slT71 rfl) ?_
 refine sT 9 (bV (ltI t5 (t1.length : Int))) rfl (v_bin rfl · · · rfl rfl (b_lss rfl)) ?_
 refine sM 10 (bV (ltI t5 (t1.length : Int))) rfl rfl ?_
 refine sG 11 (iV t5) rfl rfl (fun e9 => (v_move (.inl rfl) · · · rfl)) ?_
 refine sG 12 (bV (ltI t5 40)) rfl rfl (fun e10 => (v_bin rfl · · · (gv e10) rfl (b_lss rfl))) ?_
 refine sT 13 (bV ((ltI t5 (t1.length : Int)) && (ltI t5 40))) rfl (v_pickB rfl · · · rfl (fun e11 => (gv e11)) (fun e12 => rfl) (pA _ _)) ?_
 refine sq_nil ?_
 refine ht_cond rfl (fun e13 => ?_) (fun e13 => ?_)
 ·replace h := cpos e13 h
  refine ht_skip ?_
  refine ht_seq ?_
  refine ht_block ?_
  refine sr ?_
  refine sM 16 (.d (.sl 21 (t1.map eAct))) rfl rfl ?_
  refine sM 17 (iV t5) rfl rfl ?_
  obtain ⟨e14, h⟩ := gpos h
  refine sT 18 (.d (.dp (eAct (rd t1 t5)))) rfl (w_idx t1 eAct rfl · · · slT71 rfl rfl e14) ?_
  refine sT 19 (.d (.dp (List.drop 8 (eAct (rd t1 t5))))) rfl (v_field_dp (a0 := 8) (cs := (eAct (rd t1 t5))) rfl · · · fo75_6 rfl) ?_
  refine sT 20 (sV (rd t1 t5).mKey) rfl (v_load_dp1 rfl · · · onT9 rfl rfl) ?_
  refine sT 21 (iV ((rd t1 t5).mKey.size : Int)) rfl (v_len_str rfl rfl · · · und9 rfl) ?_
  refine sT 22 (bV (ltI 100 ((rd t1 t5).mKey.size : Int))) rfl (v_bin rfl · · · rfl rfl (b_gtr rfl)) ?_
  refine sq_nil ?_
  refine ht_cond rfl (fun e15 => ?_) (fun e15 => ?_)
  ·replace h := cpos e15 h
   refine sr ?_
   refine sM 4 (bV false) rfl rfl ?_
   refine sq_nil ?_
   refine ht_ret ?_
   cases h
   cases r5 _ rfl
   exact ret1 rfl (.tmp rfl)
  replace h := cneg e15 h
  refine ht_skip ?_
  refine ht_region ?_
  refine sM 14 (iV t5) rfl rfl ?_
  refine sT 15 (iV (IntKind.wrap .i64 (t5 + 1))) rfl (v_bin rfl · · · rfl rfl (b_add rfl)) ?_
  refine sM 5 (iV (IntKind.wrap .i64 (t5 + 1))) rfl rfl ?_
  refine sq_nil ?_
  exact j7 _ _ h (wk_ren _ (fun i => i) rfl ⟨rfl, rfl, rfl, trivial⟩)
 replace h := cneg e13 h
 refine ht_exit ?_
 refine tq ?_
 refine tq ?_
 refine bq_hit ?_
 cases h
 exact j4 _ _ rfl (wk_ren _ (fun i => i) rfl ⟨rfl, trivial⟩)
theorem s53 (k : Nat) (t0 : Cell) (t1 : Act) (r : Cell) (h : F53 k t0 t1 = some r) : Awp.Spec Tryz.prog amb 53 [(.agg (eCell t0)), (.agg (eAct t1))] (.ds [(.agg (eCell r))]) := by
 rw [F53] at h
 refine spec_of Tryz.func53 rfl (ble _ _ rfl) fun w0 ok0 lt0 hA => ?_
 refine sr ?_
 refine sq_cons _ (v_box (id := 2) (cs := (eCell t0).map V.d) rfl trivial rfl (ble _ _ rfl) rfl rfl (ones_of rfl) rfl) ?_
 refine sT 3 (.d (.dp (eAct t1))) rfl (v_box_d (cs := (eAct t1)) rfl · · · rfl rfl (ones_of rfl)) ?_
 refine sq_cons _ (v_alloc (id := 4) (cs := zc26) rfl trivial rfl (ble _ _ rfl) zu26 rfl ft26 rfl) ?_
 refine sq_nil ?_
 refine ht_seq ?_
 refine sr ?_
 refine sT 5 (.d (.dp (eAct t1))) rfl (v_field_dp (a0 := 0) (cs := (eAct t1)) rfl · · · fo75_0 rfl) ?_
 refine sT 6 (iV t1.mKind) rfl (v_load_dp1 rfl · · · onT3 rfl rfl) ?_
 refine sT 7 (nV .u64 (IntKind.wrap .u64 t1.mKind)) rfl (v_conv rfl · · · rfl (c_int und3 und78 rfl)) ?_
 refine sT 8 (nV .u64 (Int.tmod (IntKind.wrap .u64 t1.mKind) 15)) rfl (v_bin rfl · · · rfl rfl (b_rem rfl rfl)) ?_
 refine sq_nil ?_
 refine ht_block ?_
 refine sr ?_
 refine sT 23 (bV (eqI (Int.tmod (IntKind.wrap .u64 t1.mKind) 15) 4)) rfl (v_bin rfl · · · rfl rfl (b_eql rfl)) ?_
 refine sM 22 (bV (eqI (Int.tmod (IntKind.wrap .u64 t1.mKind) 15) 4)) rfl rfl ?_
 refine sq_nil ?_
 refine ht_cond rfl (fun e1 => ?_) (fun e1 => ?_)
 ·replace h := cpos e1 h
  refine ht_region ?_
  refine sT 25 (.d (.agg (eCell t0))) rfl (w_ldb 2 0 rfl · · · ag26 rfl rfl (ble _ _ rfl) rfl) ?_
  refine sT 26 (.d (.dp (List.drop 1 (eAct t1)))) rfl (v_field_dp (a0 := 1) (cs := (eAct t1)) rfl · · · fo75_1 rfl) ?_
  refine sT 27 (iV t1.mID) rfl (v_load_dp1 rfl · · · onT3 rfl rfl) ?_
  refine sT 28 (.d (.dp (List.drop 2 (eAct t1)))) rfl (v_field_dp (a0 := 2) (cs := (eAct t1)) rfl · · · fo75_2 rfl) ?_
  refine sT 29 (iV t1.mEpoch) rfl (v_load_dp1 rfl · · · onT3 rfl rfl) ?_
  refine sT 30 (.d (.dp (List.drop 3 (eAct t1)))) rfl (v_field_dp (a0 := 3) (cs := (eAct t1)) rfl · · · fo75_3 rfl) ?_
  refine sT 31 (iV t1.mN) rfl (v_load_dp1 rfl · · · onT3 rfl rfl) ?_
  obtain ⟨⟨t32a, t32b⟩, c2, h⟩ := bpos h
  refine sT 32 (.tup [.d (.agg (eCell t32a)), bV t32b]) rfl (w_call (ds := [(.agg (eCell t0)), (.s (.int .i64 t1.mID)), (.s (.int .i64 t1.mEpoch)), (.s (.int .i64 t1.mN))]) (caps := []) (l := [(.agg (eCell t32a)), (.s (.bool t32b))]) (s30 k t0 t1.mID t1.mEpoch t1.mN _ c2) rfl rfl rfl en30 · · · (.inl ⟨rfl, rfl⟩) rfl rfl) ?_
  refine sM 24 (.tup [.d (.agg (eCell t32a)), bV t32b]) rfl rfl ?_
  refine sT 33 (.d (.agg (eCell t32a))) rfl (v_extract rfl · · · rfl rfl) ?_
  refine sT 34 (bV t32b) rfl (v_extract rfl · · · rfl rfl) ?_
  refine sq_cons _ (v_store_box (id := 2) (off := 0) (cs := (eCell t32a).map V.d) rfl trivial rfl sz26 rfl rfl rfl rfl (ones_of rfl) (ble _ _ rfl)) ?_
  refine sq_nil ?_
  refine sr ?_
  refine sT 151 (.d (.agg (eCell t32a))) rfl (w_ldb 2 0 rfl · · · ag26 rfl rfl (ble _ _ rfl) rfl) ?_
  refine sq_cons _ (v_store_box (id := 4) (off := 0) (cs := (eCell t32a).map V.d) rfl trivial rfl sz26 rfl rfl rfl rfl (ones_of rfl) (ble _ _ rfl)) ?_
  refine sq_nil ?_
  refine ht_ret ?_
  cases h
  exact ret1 rfl (.cell rfl rfl ag26 (ble _ _ rfl) rfl)
 replace h := cneg e1 h
 refine sr ?_
 refine sT 36 (bV (eqI (Int.tmod (IntKind.wrap .u64 t1.mKind) 15) 5)) rfl (v_bin rfl · · · rfl rfl (b_eql rfl)) ?_
 refine sM 35 (bV (eqI (Int.tmod (IntKind.wrap .u64 t1.mKind) 15) 5)) rfl rfl ?_
 refine sq_nil ?_
 refine ht_cond rfl (fun e3 => ?_) (fun e3 => ?_)
 ·replace h := cpos e3 h
  refine ht_region ?_
  refine sT 38 (.d (.agg (eCell t0))) rfl (w_ldb 2 0 rfl · · · ag26 rfl rfl (ble _ _ rfl) rfl) ?_
  refine sT 39 (.d (.dp (List.drop 1 (eAct t1)))) rfl (v_field_dp (a0 := 1) (cs := (eAct t1)) rfl · · · fo75_1 rfl) ?_
  refine sT 40 (iV t1.mID) rfl (v_load_dp1 rfl · · · onT3 rfl rfl) ?_
  refine sT 41 (.d (.dp (List.drop 3 (eAct t1)))) rfl (v_field_dp (a0 := 3) (cs := (eAct t1)) rfl · · · fo75_3 rfl) ?_
  refine sT 42 (iV t1.mN) rfl (v_load_dp1 rfl · · · onT3 rfl rfl) ?_
  refine sT 43 (.d (.dp (List.drop 5 (eAct t1)))) rfl (v_field_dp (a0 := 5) (cs := (eAct t1)) rfl · · · fo75_5 rfl) ?_
  refine sT 44 (.d (.agg (eStamp t1.mAt))) rfl (w_ldp (List.drop 5 (eAct t1)) (eStamp t1.mAt) rfl · · · ag24 rfl (ble _ _ rfl) rfl) ?_
  obtain ⟨⟨t45a, t45b⟩, c4, h⟩ := bpos h
  refine sT 45 (.tup [.d (.agg (eCell t45a)), bV t45b]) rfl (w_call (ds := [(.agg (eCell t0)), (.s (.int .i64 t1.mID)), (.s (.int .i64 t1.mN)), (.agg (eStamp t1.mAt))]) (caps := []) (l := [(.agg (eCell t45a)), (.s (.bool t45b))]) (s32 k t0 t1.mID t1.mN t1.mAt _ c4) rfl rfl rfl en32 · · · (.inl ⟨rfl, rfl⟩) rfl rfl) ?_
  refine sM 37 (.tup [.d (.agg (eCell t45a)), bV t45b]) rfl rfl ?_
  refine sT 46 (.d (.agg (eCell t45a))) rfl (v_extract rfl · · · rfl rfl) ?_
  refine sT 47 (bV t45b) rfl (v_extract rfl · · · rfl rfl) ?_
  refine sq_cons _ (v_store_box (id := 2) (off := 0) (cs := (eCell t45a).map V.d) rfl trivial rfl sz26 rfl rfl rfl rfl (ones_of rfl) (ble _ _ rfl)) ?_
  refine sq_nil ?_
  refine sr ?_
  refine sT 151 (.d (.agg (eCell t45a))) rfl (w_ldb 2 0 rfl · · · ag26 rfl rfl (ble _ _ rfl) rfl) ?_
  refine sq_cons _ (v_store_box (id := 4) (off := 0) (cs := (eCell t45a).map V.d) rfl trivial rfl sz26 rfl rfl rfl rfl (ones_of rfl) (ble _ _ rfl)) ?_
  refine sq_nil ?_
  refine ht_ret ?_
  cases h
  exact ret1 rfl (.cell rfl rfl ag26 (ble _ _ rfl) rfl)
 replace h := cneg e3 h
 refine sr ?_
 refine sT 49 (bV (eqI (Int.tmod (IntKind.wrap .u64 t1.mKind) 15) 6)) rfl (v_bin rfl · · · rfl rfl (b_eql rfl)) ?_
 refine sM 48 (bV (eqI (Int.tmod (IntKind.wrap .u64 t1.mKind) 15) 6)) rfl rfl ?_
 refine sq_nil ?_
 refine ht_cond rfl (fun e5 => ?_) (fun e5 => ?_)
 ·replace h := cpos e5 h
  refine ht_region ?_
  refine sT 51 (.d (.agg (eCell t0))) rfl (w_ldb 2 0 rfl · · · ag26 rfl rfl (ble _ _ rfl) rfl) ?_
  refine sT 52 (.d (.dp (List.drop 1 (eAct t1)))) rfl (v_field_dp (a0 := 1) (cs := (eAct t1)) rfl · · · fo75_1 rfl) ?_
  refine sT 53 (iV t1.mID) rfl (v_load_dp1 rfl · · · onT3 rfl rfl) ?_
  refine sT 54 (.d (.dp (List.drop 2 (eAct t1)))) rfl (v_field_dp (a0 := 2) (cs := (eAct t1)) rfl · · · fo75_2 rfl) ?_
  refine sT 55 (iV t1.mEpoch) rfl (v_load_dp1 rfl · · · onT3 rfl rfl) ?_
  refine sT 56 (.d (.dp (List.drop 3 (eAct t1)))) rfl (v_field_dp (a0 := 3) (cs := (eAct t1)) rfl · · · fo75_3 rfl) ?_
  refine sT 57 (iV t1.mN) rfl (v_load_dp1 rfl · · · onT3 rfl rfl) ?_
  obtain ⟨⟨t58a, t58b⟩, c6, h⟩ := bpos h
  refine sT 58 (.tup [.d (.agg (eCell t58a)), bV t58b]) rfl (w_call (ds := [(.agg (eCell t0)), (.s (.int .i64 t1.mID)), (.s (.int .i64 t1.mEpoch)), (.s (.int .i64 t1.mN))]) (caps := []) (l := [(.agg (eCell t58a)), (.s (.bool t58b))]) (s39 k t0 t1.mID t1.mEpoch t1.mN _ c6) rfl rfl rfl en39 · · · (.inl ⟨rfl, rfl⟩) rfl rfl) ?_
  refine sM 50 (.tup [.d (.agg (eCell t58a)), bV t58b]) rfl rfl ?_
  refine sT 59 (.d (.agg (eCell t58a))) rfl (v_extract rfl · · · rfl rfl) ?_
  refine sT 60 (bV t58b) rfl (v_extract rfl · · · rfl rfl) ?_
  refine sq_cons _ (v_store_box (id := 2) (off := 0) (cs := (eCell t58a).map V.d) rfl trivial rfl sz26 rfl rfl rfl rfl (ones_of rfl) (ble _ _ rfl)) ?_
  refine sq_nil ?_
  refine sr ?_
  refine sT 151 (.d (.agg (eCell t58a))) rfl (w_ldb 2 0 rfl · · · ag26 rfl rfl (ble _ _ rfl) rfl) ?_
  refine sq_cons _ (v_store_box (id := 4) (off := 0) (cs := (eCell t58a).map V.d) rfl trivial rfl sz26 rfl rfl rfl rfl (ones_of rfl) (ble _ _ rfl)) ?_
  refine sq_nil ?_
  refine ht_ret ?_
  cases h
  exact ret1 rfl (.cell rfl rfl ag26 (ble _ _ rfl) rfl)
 replace h := cneg e5 h
 refine sr ?_
 refine sT 62 (bV (eqI (Int.tmod (IntKind.wrap .u64 t1.mKind) 15) 7)) rfl (v_bin rfl · · · rfl rfl (b_eql rfl)) ?_
 refine sM 61 (bV (eqI (Int.tmod (IntKind.wrap .u64 t1.mKind) 15) 7)) rfl rfl ?_
 refine sq_nil ?_
 refine ht_cond rfl (fun e7 => ?_) (fun e7 => ?_)
 ·replace h := cpos e7 h
  refine ht_region ?_
  refine sT 64 (.d (.agg (eCell t0))) rfl (w_ldb 2 0 rfl · · · ag26 rfl rfl (ble _ _ rfl) rfl) ?_
  refine sT 65 (.d (.dp (List.drop 1 (eAct t1)))) rfl (v_field_dp (a0 := 1) (cs := (eAct t1)) rfl · · · fo75_1 rfl) ?_
  refine sT 66 (iV t1.mID) rfl (v_load_dp1 rfl · · · onT3 rfl rfl) ?_
  refine sT 67 (.d (.dp (List.drop 3 (eAct t1)))) rfl (v_field_dp (a0 := 3) (cs := (eAct t1)) rfl · · · fo75_3 rfl) ?_
  refine sT 68 (iV t1.mN) rfl (v_load_dp1 rfl · · · onT3 rfl rfl) ?_
  obtain ⟨⟨t69a, t69b⟩, c8, h⟩ := bpos h
  refine sT 69 (.tup [.d (.agg (eCell t69a)), bV t69b]) rfl (w_call (ds := [(.agg (eCell t0)), (.s (.int .i64 t1.mID)), (.s (.int .i64 t1.mN))]) (caps := []) (l := [(.agg (eCell t69a)), (.s (.bool t69b))]) (s46 k t0 t1.mID t1.mN _ c8) rfl rfl rfl en46 · · · (.inl ⟨rfl, rfl⟩) rfl rfl) ?_
  refine sM 63 (.tup [.d (.agg (eCell t69a)), bV t69b]) rfl rfl ?_
  refine sT 70 (.d (.agg (eCell t69a))) rfl (v_extract rfl · · · rfl rfl) ?_
  refine sT 71 (bV t69b) rfl (v_extract rfl · · · rfl rfl) ?_
  refine sq_cons _ (v_store_box (id := 2) (off := 0) (cs := (eCell t69a).map V.d) rfl trivial rfl sz26 rfl rfl rfl rfl (ones_of rfl) (ble _ _ rfl)) ?_
  refine sq_nil ?_
  refine sr ?_
  refine sT 151 (.d (.agg (eCell t69a))) rfl (w_ldb 2 0 rfl · · · ag26 rfl rfl (ble _ _ rfl) rfl) ?_
  refine sq_cons _ (v_store_box (id := 4) (off := 0) (cs := (eCell t69a).map V.d) rfl trivial rfl sz26 rfl rfl rfl rfl (ones_of rfl) (ble _ _ rfl)) ?_
  refine sq_nil ?_
  refine ht_ret ?_
  cases h
  exact ret1 rfl (.cell rfl rfl ag26 (ble _ _ rfl) rfl)
 replace h := cneg e7 h
 refine sr ?_
 refine sT 73 (bV (eqI (Int.tmod (IntKind.wrap .u64 t1.mKind) 15) 8)) rfl (v_bin rfl · · · rfl rfl (b_eql rfl)) ?_
 refine sM 72 (bV (eqI (Int.tmod (IntKind.wrap .u64 t1.mKind) 15) 8)) rfl rfl ?_
 refine sq_nil ?_
 refine ht_cond rfl (fun e9 => ?_) (fun e9 => ?_)
 ·replace h := cpos e9 h
  refine ht_region ?_
  refine sT 75 (.d (.agg (eCell t0))) rfl (w_ldb 2 0 rfl · · · ag26 rfl rfl (ble _ _ rfl) rfl) ?_
  refine sT 76 (.d (.dp (List.drop 1 (eAct t1)))) rfl (v_field_dp (a0 := 1) (cs := (eAct t1)) rfl · · · fo75_1 rfl) ?_
  refine sT 77 (iV t1.mID) rfl (v_load_dp1 rfl · · · onT3 rfl rfl) ?_
  refine sT 78 (.d (.dp (List.drop 3 (eAct t1)))) rfl (v_field_dp (a0 := 3) (cs := (eAct t1)) rfl · · · fo75_3 rfl) ?_
  refine sT 79 (iV t1.mN) rfl (v_load_dp1 rfl · · · onT3 rfl rfl) ?_
  obtain ⟨⟨t80a, t80b⟩, c10, h⟩ := bpos h
  refine sT 80 (.tup [.d (.agg (eCell t80a)), bV t80b]) rfl (w_call (ds := [(.agg (eCell t0)), (.s (.int .i64 t1.mID)), (.s (.int .i64 t1.mN))]) (caps := []) (l := [(.agg (eCell t80a)), (.s (.bool t80b))]) (s44 k t0 t1.mID t1.mN _ c10) rfl rfl rfl en44 · · · (.inl ⟨rfl, rfl⟩) rfl rfl) ?_
  refine sM 74 (.tup [.d (.agg (eCell t80a)), bV t80b]) rfl rfl ?_
  refine sT 81 (.d (.agg (eCell t80a))) rfl (v_extract rfl · · · rfl rfl) ?_
  refine sT 82 (bV t80b) rfl (v_extract rfl · · · rfl rfl) ?_
  refine sq_cons _ (v_store_box (id := 2) (off := 0) (cs := (eCell t80a).map V.d) rfl trivial rfl sz26 rfl rfl rfl rfl (ones_of rfl) (ble _ _ rfl)) ?_
  refine sq_nil ?_
  refine sr ?_
  refine sT 151 (.d (.agg (eCell t80a))) rfl (w_ldb 2 0 rfl · · · ag26 rfl rfl (ble _ _ rfl) rfl) ?_
  refine sq_cons _ (v_store_box (id := 4) (off := 0) (cs := (eCell t80a).map V.d) rfl trivial rfl sz26 rfl rfl rfl rfl (ones_of rfl) (ble _ _ rfl)) ?_
  refine sq_nil ?_
  refine ht_ret ?_
  cases h
  exact ret1 rfl (.cell rfl rfl ag26 (ble _ _ rfl) rfl)
 replace h := cneg e9 h
 refine sr ?_
 refine sT 84 (bV (eqI (Int.tmod (IntKind.wrap .u64 t1.mKind) 15) 9)) rfl (v_bin rfl · · · rfl rfl (b_eql rfl)) ?_
 refine sM 83 (bV (eqI (Int.tmod (IntKind.wrap .u64 t1.mKind) 15) 9)) rfl rfl ?_
 refine sq_nil ?_
 refine ht_cond rfl (fun e11 => ?_) (fun e11 => ?_)
 ·replace h := cpos e11 h
  refine ht_region ?_
  refine sT 86 (.d (.agg (eCell t0))) rfl (w_ldb 2 0 rfl · · · ag26 rfl rfl (ble _ _ rfl) rfl) ?_
  refine sT 87 (.d (.dp (List.drop 1 (eAct t1)))) rfl (v_field_dp (a0 := 1) (cs := (eAct t1)) rfl · · · fo75_1 rfl) ?_
  refine sT 88 (iV t1.mID) rfl (v_load_dp1 rfl · · · onT3 rfl rfl) ?_
  refine sT 89 (.d (.dp (List.drop 3 (eAct t1)))) rfl (v_field_dp (a0 := 3) (cs := (eAct t1)) rfl · · · fo75_3 rfl) ?_
  refine sT 90 (iV t1.mN) rfl (v_load_dp1 rfl · · · onT3 rfl rfl) ?_
  refine sT 91 (.d (.dp (List.drop 2 (eAct t1)))) rfl (v_field_dp (a0 := 2) (cs := (eAct t1)) rfl · · · fo75_2 rfl) ?_
  refine sT 92 (iV t1.mEpoch) rfl (v_load_dp1 rfl · · · onT3 rfl rfl) ?_
  obtain ⟨⟨t93a, t93b⟩, c12, h⟩ := bpos h
  refine sT 93 (.tup [.d (.agg (eCell t93a)), bV t93b]) rfl (w_call (ds := [(.agg (eCell t0)), (.s (.int .i64 t1.mID)), (.s (.int .i64 t1.mN)), (.s (.int .i64 t1.mEpoch))]) (caps := []) (l := [(.agg (eCell t93a)), (.s (.bool t93b))]) (s43 k t0 t1.mID t1.mN t1.mEpoch _ c12) rfl rfl rfl en43 · · · (.inl ⟨rfl, rfl⟩) rfl rfl) ?_
  refine sM 85 (.tup [.d (.agg (eCell t93a)), bV t93b]) rfl rfl ?_
  refine sT 94 (.d (.agg (eCell t93a))) rfl (v_extract rfl · · · rfl rfl) ?_
  refine sT 95 (bV t93b) rfl (v_extract rfl · · · rfl rfl) ?_
  refine sq_cons _ (v_store_box (id := 2) (off := 0) (cs := (eCell t93a).map V.d) rfl trivial rfl sz26 rfl rfl rfl rfl (ones_of rfl) (ble _ _ rfl)) ?_
  refine sq_nil ?_
  refine sr ?_
  refine sT 151 (.d (.agg (eCell t93a))) rfl (w_ldb 2 0 rfl · · · ag26 rfl rfl (ble _ _ rfl) rfl) ?_
  refine sq_cons _ (v_store_box (id := 4) (off := 0) (cs := (eCell t93a).map V.d) rfl trivial rfl sz26 rfl rfl rfl rfl (ones_of rfl) (ble _ _ rfl)) ?_
  refine sq_nil ?_
  refine ht_ret ?_
  cases h
  exact ret1 rfl (.cell rfl rfl ag26 (ble _ _ rfl) rfl)
 replace h := cneg e11 h
 refine sr ?_
 refine sT 97 (bV (eqI (Int.tmod (IntKind.wrap .u64 t1.mKind) 15) 10)) rfl (v_bin rfl · · · rfl rfl (b_eql rfl)) ?_
 refine sM 96 (bV (eqI (Int.tmod (IntKind.wrap .u64 t1.mKind) 15) 10)) rfl rfl ?_
 refine sq_nil ?_
 refine ht_cond rfl (fun e13 => ?_) (fun e13 => ?_)
 ·replace h := cpos e13 h
  refine ht_region ?_
  refine sT 99 (.d (.agg (eCell t0))) rfl (w_ldb 2 0 rfl · · · ag26 rfl rfl (ble _ _ rfl) rfl) ?_
  refine sT 100 (.d (.dp (List.drop 1 (eAct t1)))) rfl (v_field_dp (a0 := 1) (cs := (eAct t1)) rfl · · · fo75_1 rfl) ?_
  refine sT 101 (iV t1.mID) rfl (v_load_dp1 rfl · · · onT3 rfl rfl) ?_
  refine sT 102 (.d (.dp (List.drop 3 (eAct t1)))) rfl (v_field_dp (a0 := 3) (cs := (eAct t1)) rfl · · · fo75_3 rfl) ?_
  refine sT 103 (iV t1.mN) rfl (v_load_dp1 rfl · · · onT3 rfl rfl) ?_
  obtain ⟨⟨t104a, t104b⟩, c14, h⟩ := bpos h
  refine sT 104 (.tup [.d (.agg (eCell t104a)), bV t104b]) rfl (w_call (ds := [(.agg (eCell t0)), (.s (.int .i64 t1.mID)), (.s (.int .i64 t1.mN))]) (caps := []) (l := [(.agg (eCell t104a)), (.s (.bool t104b))]) (s47 k t0 t1.mID t1.mN _ c14) rfl rfl rfl en47 · · · (.inl ⟨rfl, rfl⟩) rfl rfl) ?_
  refine sM 98 (.tup [.d (.agg (eCell t104a)), bV t104b]) rfl rfl ?_
  refine sT 105 (.d (.agg (eCell t104a))) rfl (v_extract rfl · · · rfl rfl) ?_
  refine sT 106 (bV t104b) rfl (v_extract rfl · · · rfl rfl) ?_
  refine sq_cons _ (v_store_box (id := 2) (off := 0) (cs := (eCell t104a).map V.d) rfl trivial rfl sz26 rfl rfl rfl rfl (ones_of rfl) (ble _ _ rfl)) ?_
  refine sq_nil ?_
  refine sr ?_
  refine sT 151 (.d (.agg (eCell t104a))) rfl (w_ldb 2 0 rfl · · · ag26 rfl rfl (ble _ _ rfl) rfl) ?_
  refine sq_cons _ (v_store_box (id := 4) (off := 0) (cs := (eCell t104a).map V.d) rfl trivial rfl sz26 rfl rfl rfl rfl (ones_of rfl) (ble _ _ rfl)) ?_
  refine sq_nil ?_
  refine ht_ret ?_
  cases h
  exact ret1 rfl (.cell rfl rfl ag26 (ble _ _ rfl) rfl)
 replace h := cneg e13 h
 refine sr ?_
 refine sT 108 (bV (eqI (Int.tmod (IntKind.wrap .u64 t1.mKind) 15) 11)) rfl (v_bin rfl · · · rfl rfl (b_eql rfl)) ?_
 refine sM 107 (bV (eqI (Int.tmod (IntKind.wrap .u64 t1.mKind) 15) 11)) rfl rfl ?_
 refine sq_nil ?_
 refine ht_cond rfl (fun e15 => ?_) (fun e15 => ?_)
 ·replace h := cpos e15 h
  refine ht_region ?_
  refine sT 110 (.d (.agg (eCell t0))) rfl (w_ldb 2 0 rfl · · · ag26 rfl rfl (ble _ _ rfl) rfl) ?_
  refine sT 111 (.d (.dp (List.drop 1 (eAct t1)))) rfl (v_field_dp (a0 := 1) (cs := (eAct t1)) rfl · · · fo75_1 rfl) ?_
  refine sT 112 (iV t1.mID) rfl (v_load_dp1 rfl · · · onT3 rfl rfl) ?_
  refine sT 113 (.d (.dp (List.drop 2 (eAct t1)))) rfl (v_field_dp (a0 := 2) (cs := (eAct t1)) rfl · · · fo75_2 rfl) ?_
  refine sT 114 (iV t1.mEpoch) rfl (v_load_dp1 rfl · · · onT3 rfl rfl) ?_
  refine sT 115 (.d (.dp (List.drop 8 (eAct t1)))) rfl (v_field_dp (a0 := 8) (cs := (eAct t1)) rfl · · · fo75_6 rfl) ?_
  refine sT 116 (sV t1.mKey) rfl (v_load_dp1 rfl · · · onT9 rfl rfl) ?_
  refine sT 117 (.d (.dp (List.drop 4 (eAct t1)))) rfl (v_field_dp (a0 := 4) (cs := (eAct t1)) rfl · · · fo75_4 rfl) ?_
  refine sT 118 (iV t1.mOther) rfl (v_load_dp1 rfl · · · onT3 rfl rfl) ?_
  refine sT 119 (.d (.dp (List.drop 3 (eAct t1)))) rfl (v_field_dp (a0 := 3) (cs := (eAct t1)) rfl · · · fo75_3 rfl) ?_
  refine sT 120 (iV t1.mN) rfl (v_load_dp1 rfl · · · onT3 rfl rfl) ?_
  obtain ⟨⟨t121a, t121b⟩, c16, h⟩ := bpos h
  refine sT 121 (.tup [.d (.agg (eCell t121a)), bV t121b]) rfl (w_call (ds := [(.agg (eCell t0)), (.s (.int .i64 t1.mID)), (.s (.int .i64 t1.mEpoch)), (.s (.string t1.mKey)), (.s (.int .i64 t1.mOther)), (.s (.int .i64 t1.mN))]) (caps := []) (l := [(.agg (eCell t121a)), (.s (.bool t121b))]) (s48 k t0 t1.mID t1.mEpoch t1.mKey t1.mOther t1.mN _ c16) rfl rfl rfl en48 · · · (.inl ⟨rfl, rfl⟩) rfl rfl) ?_
  refine sM 109 (.tup [.d (.agg (eCell t121a)), bV t121b]) rfl rfl ?_
  refine sT 122 (.d (.agg (eCell t121a))) rfl (v_extract rfl · · · rfl rfl) ?_
  refine sT 123 (bV t121b) rfl (v_extract rfl · · · rfl rfl) ?_
  refine sq_cons _ (v_store_box (id := 2) (off := 0) (cs := (eCell t121a).map V.d) rfl trivial rfl sz26 rfl rfl rfl rfl (ones_of rfl) (ble _ _ rfl)) ?_
  refine sq_nil ?_
  refine sr ?_
  refine sT 151 (.d (.agg (eCell t121a))) rfl (w_ldb 2 0 rfl · · · ag26 rfl rfl (ble _ _ rfl) rfl) ?_
  refine sq_cons _ (v_store_box (id := 4) (off := 0) (cs := (eCell t121a).map V.d) rfl trivial rfl sz26 rfl rfl rfl rfl (ones_of rfl) (ble _ _ rfl)) ?_
  refine sq_nil ?_
  refine ht_ret ?_
  cases h
  exact ret1 rfl (.cell rfl rfl ag26 (ble _ _ rfl) rfl)
 replace h := cneg e15 h
 refine sr ?_
 refine sT 125 (bV (eqI (Int.tmod (IntKind.wrap .u64 t1.mKind) 15) 12)) rfl (v_bin rfl · · · rfl rfl (b_eql rfl)) ?_
 refine sM 124 (bV (eqI (Int.tmod (IntKind.wrap .u64 t1.mKind) 15) 12)) rfl rfl ?_
 refine sq_nil ?_
 refine ht_cond rfl (fun e17 => ?_) (fun e17 => ?_)
 ·replace h := cpos e17 h
  refine ht_region ?_
  refine sT 127 (.d (.agg (eCell t0))) rfl (w_ldb 2 0 rfl · · · ag26 rfl rfl (ble _ _ rfl) rfl) ?_
  refine sT 128 (.d (.dp (List.drop 1 (eAct t1)))) rfl (v_field_dp (a0 := 1) (cs := (eAct t1)) rfl · · · fo75_1 rfl) ?_
  refine sT 129 (iV t1.mID) rfl (v_load_dp1 rfl · · · onT3 rfl rfl) ?_
  refine sT 130 (.d (.dp (List.drop 4 (eAct t1)))) rfl (v_field_dp (a0 := 4) (cs := (eAct t1)) rfl · · · fo75_4 rfl) ?_
  refine sT 131 (iV t1.mOther) rfl (v_load_dp1 rfl · · · onT3 rfl rfl) ?_
  refine sT 132 (.d (.dp (List.drop 2 (eAct t1)))) rfl (v_field_dp (a0 := 2) (cs := (eAct t1)) rfl · · · fo75_2 rfl) ?_
  refine sT 133 (iV t1.mEpoch) rfl (v_load_dp1 rfl · · · onT3 rfl rfl) ?_
  refine sT 134 (.d (.dp (List.drop 3 (eAct t1)))) rfl (v_field_dp (a0 := 3) (cs := (eAct t1)) rfl · · · fo75_3 rfl) ?_
  refine sT 135 (iV t1.mN) rfl (v_load_dp1 rfl · · · onT3 rfl rfl) ?_
  obtain ⟨⟨t136a, t136b⟩, c18, h⟩ := bpos h
  refine sT 136 (.tup [.d (.agg (eCell t136a)), bV t136b]) rfl (w_call (ds := [(.agg (eCell t0)), (.s (.int .i64 t1.mID)), (.s (.int .i64 t1.mOther)), (.s (.int .i64 t1.mEpoch)), (.s (.int .i64 t1.mN))]) (caps := []) (l := [(.agg (eCell t136a)), (.s (.bool t136b))]) (s50 k t0 t1.mID t1.mOther t1.mEpoch t1.mN _ c18) rfl rfl rfl en50 · · · (.inl ⟨rfl, rfl⟩) rfl rfl) ?_
  refine sM 126 (.tup [.d (.agg (eCell t136a)), bV t136b]) rfl rfl ?_
  refine sT 137 (.d (.agg (eCell t136a))) rfl (v_extract rfl · · · rfl rfl) ?_
  refine sT 138 (bV t136b) rfl (v_extract rfl · · · rfl rfl) ?_
  refine sq_cons _ (v_store_box (id := 2) (off := 0) (cs := (eCell t136a).map V.d) rfl trivial rfl sz26 rfl rfl rfl rfl (ones_of rfl) (ble _ _ rfl)) ?_
  refine sq_nil ?_
  refine sr ?_
  refine sT 151 (.d (.agg (eCell t136a))) rfl (w_ldb 2 0 rfl · · · ag26 rfl rfl (ble _ _ rfl) rfl) ?_
  refine sq_cons _ (v_store_box (id := 4) (off := 0) (cs := (eCell t136a).map V.d) rfl trivial rfl sz26 rfl rfl rfl rfl (ones_of rfl) (ble _ _ rfl)) ?_
  refine sq_nil ?_
  refine ht_ret ?_
  cases h
  exact ret1 rfl (.cell rfl rfl ag26 (ble _ _ rfl) rfl)
 replace h := cneg e17 h
 refine sr ?_
 refine sT 140 (bV (eqI (Int.tmod (IntKind.wrap .u64 t1.mKind) 15) 13)) rfl (v_bin rfl · · · rfl rfl (b_eql rfl)) ?_
 refine sM 139 (bV (eqI (Int.tmod (IntKind.wrap .u64 t1.mKind) 15) 13)) rfl rfl ?_
 refine sq_nil ?_
 refine ht_cond rfl (fun e19 => ?_) (fun e19 => ?_)
 ·replace h := cpos e19 h
  refine ht_region ?_
  refine sT 141 (.d (.agg (eCell t0))) rfl (w_ldb 2 0 rfl · · · ag26 rfl rfl (ble _ _ rfl) rfl) ?_
  refine sT 142 (.d (.dp (List.drop 5 (eAct t1)))) rfl (v_field_dp (a0 := 5) (cs := (eAct t1)) rfl · · · fo75_5 rfl) ?_
  refine sT 143 (.d (.agg (eStamp t1.mAt))) rfl (w_ldp (List.drop 5 (eAct t1)) (eStamp t1.mAt) rfl · · · ag24 rfl (ble _ _ rfl) rfl) ?_
  obtain ⟨t144, c20, h⟩ := bpos h
  refine sT 144 (.d (.agg (eCell t144))) rfl (w_call (ds := [(.agg (eCell t0)), (.agg (eStamp t1.mAt))]) (caps := []) (l := [(.agg (eCell t144))]) (s34 k t0 t1.mAt _ c20) rfl rfl rfl en34 · · · (.inl ⟨rfl, rfl⟩) rfl rfl) ?_
  refine sq_cons _ (v_store_box (id := 2) (off := 0) (cs := (eCell t144).map V.d) rfl trivial rfl sz26 rfl rfl rfl rfl (ones_of rfl) (ble _ _ rfl)) ?_
  refine sq_nil ?_
  refine sr ?_
  refine sT 151 (.d (.agg (eCell t144))) rfl (w_ldb 2 0 rfl · · · ag26 rfl rfl (ble _ _ rfl) rfl) ?_
  refine sq_cons _ (v_store_box (id := 4) (off := 0) (cs := (eCell t144).map V.d) rfl trivial rfl sz26 rfl rfl rfl rfl (ones_of rfl) (ble _ _ rfl)) ?_
  refine sq_nil ?_
  refine ht_ret ?_
  cases h
  exact ret1 rfl (.cell rfl rfl ag26 (ble _ _ rfl) rfl)
 replace h := cneg e19 h
 refine sr ?_
 refine sT 146 (bV (eqI (Int.tmod (IntKind.wrap .u64 t1.mKind) 15) 14)) rfl (v_bin rfl · · · rfl rfl (b_eql rfl)) ?_
 refine sM 145 (bV (eqI (Int.tmod (IntKind.wrap .u64 t1.mKind) 15) 14)) rfl rfl ?_
 refine sq_nil ?_
 refine ht_cond rfl (fun e21 => ?_) (fun e21 => ?_)
 ·replace h := cpos e21 h
  refine ht_region ?_
  refine sT 147 (.d (.agg (eCell t0))) rfl (w_ldb 2 0 rfl · · · ag26 rfl rfl (ble _ _ rfl) rfl) ?_
  refine sT 148 (.d (.dp (List.drop 5 (eAct t1)))) rfl (v_field_dp (a0 := 5) (cs := (eAct t1)) rfl · · · fo75_5 rfl) ?_
  refine sT 149 (.d (.agg (eStamp t1.mAt))) rfl (w_ldp (List.drop 5 (eAct t1)) (eStamp t1.mAt) rfl · · · ag24 rfl (ble _ _ rfl) rfl) ?_
  obtain ⟨t150, c22, h⟩ := bpos h
  refine sT 150 (.d (.agg (eCell t150))) rfl (w_call (ds := [(.agg (eCell t0)), (.agg (eStamp t1.mAt))]) (caps := []) (l := [(.agg (eCell t150))]) (s35 k t0 t1.mAt _ c22) rfl rfl rfl en35 · · · (.inl ⟨rfl, rfl⟩) rfl rfl) ?_
  refine sq_cons _ (v_store_box (id := 2) (off := 0) (cs := (eCell t150).map V.d) rfl trivial rfl sz26 rfl rfl rfl rfl (ones_of rfl) (ble _ _ rfl)) ?_
  refine sq_nil ?_
  refine sr ?_
  refine sT 151 (.d (.agg (eCell t150))) rfl (w_ldb 2 0 rfl · · · ag26 rfl rfl (ble _ _ rfl) rfl) ?_
  refine sq_cons _ (v_store_box (id := 4) (off := 0) (cs := (eCell t150).map V.d) rfl trivial rfl sz26 rfl rfl rfl rfl (ones_of rfl) (ble _ _ rfl)) ?_
  refine sq_nil ?_
  refine ht_ret ?_
  cases h
  exact ret1 rfl (.cell rfl rfl ag26 (ble _ _ rfl) rfl)
 replace h := cneg e21 h
 refine ht_region ?_
 refine sT 10 (.d (.agg (eCell t0))) rfl (w_ldb 2 0 rfl · · · ag26 rfl rfl (ble _ _ rfl) rfl) ?_
 refine sT 11 (.d (.dp (List.drop 1 (eAct t1)))) rfl (v_field_dp (a0 := 1) (cs := (eAct t1)) rfl · · · fo75_1 rfl) ?_
 refine sT 12 (iV t1.mID) rfl (v_load_dp1 rfl · · · onT3 rfl rfl) ?_
 refine sT 13 (.d (.dp (List.drop 2 (eAct t1)))) rfl (v_field_dp (a0 := 2) (cs := (eAct t1)) rfl · · · fo75_2 rfl) ?_
 refine sT 14 (iV t1.mEpoch) rfl (v_load_dp1 rfl · · · onT3 rfl rfl) ?_
 refine sT 15 (.d (.dp (List.drop 9 (eAct t1)))) rfl (v_field_dp (a0 := 9) (cs := (eAct t1)) rfl · · · fo75_7 rfl) ?_
 refine sT 16 (.d (.agg (eRequest t1.mReq))) rfl (w_ldp (List.drop 9 (eAct t1)) (eRequest t1.mReq) rfl · · · ag28 rfl (ble _ _ rfl) rfl) ?_
 refine sT 17 (.d (.dp (List.drop 5 (eAct t1)))) rfl (v_field_dp (a0 := 5) (cs := (eAct t1)) rfl · · · fo75_5 rfl) ?_
 refine sT 18 (.d (.agg (eStamp t1.mAt))) rfl (w_ldp (List.drop 5 (eAct t1)) (eStamp t1.mAt) rfl · · · ag24 rfl (ble _ _ rfl) rfl) ?_
 obtain ⟨⟨t19a, t19b⟩, c23, h⟩ := bpos h
 refine sT 19 (.tup [.d (.agg (eCell t19a)), .d (.agg (eAnswer t19b))]) rfl (w_call (ds := [(.agg (eCell t0)), (.s (.int .i64 t1.mID)), (.s (.int .i64 t1.mEpoch)), (.agg (eRequest t1.mReq)), (.agg (eStamp t1.mAt)), (.s (.int .i64 10))]) (caps := []) (l := [(.agg (eCell t19a)), (.agg (eAnswer t19b))]) (s16 k t0 t1.mID t1.mEpoch t1.mReq t1.mAt 10 _ c23) rfl rfl rfl en16 · · · (.inl ⟨rfl, rfl⟩) rfl rfl) ?_
 refine sM 9 (.tup [.d (.agg (eCell t19a)), .d (.agg (eAnswer t19b))]) rfl rfl ?_
 refine sT 20 (.d (.agg (eCell t19a))) rfl (v_extract rfl · · · rfl rfl) ?_
 refine sT 21 (.d (.agg (eAnswer t19b))) rfl (v_extract rfl · · · rfl rfl) ?_
 refine sq_cons _ (v_store_box (id := 2) (off := 0) (cs := (eCell t19a).map V.d) rfl trivial rfl sz26 rfl rfl rfl rfl (ones_of rfl) (ble _ _ rfl)) ?_
 refine sq_nil ?_
 refine sr ?_
 refine sT 151 (.d (.agg (eCell t19a))) rfl (w_ldb 2 0 rfl · · · ag26 rfl rfl (ble _ _ rfl) rfl) ?_
 refine sq_cons _ (v_store_box (id := 4) (off := 0) (cs := (eCell t19a).map V.d) rfl trivial rfl sz26 rfl rfl rfl rfl (ones_of rfl) (ble _ _ rfl)) ?_
 refine sq_nil ?_
 refine ht_ret ?_
 cases h
 exact ret1 rfl (.cell rfl rfl ag26 (ble _ _ rfl) rfl)
theorem s54 (k : Nat) (t0 : Cell) (t1 : ByteArray) (t2 : Stamp) (r : ByteArray × Bool × Bool) (h : F54 k t0 t1 t2 = some r) : Awp.Spec Tryz.prog amb 54 [(.agg (eCell t0)), (.s (.string t1)), (.agg (eStamp t2))] (.ds [(.s (.string r.1)), (.s (.bool r.2.1)), (.s (.bool r.2.2))]) := by
 rw [F54] at h
 refine spec_of Tryz.func54 rfl (ble _ _ rfl) fun w0 ok0 lt0 hA => ?_
 refine sr ?_
 refine sT 3 (.d (.dp (eCell t0))) rfl (v_box_d (cs := (eCell t0)) rfl · · · rfl rfl (ones_of rfl)) ?_
 refine sT 5 (.d (.dp (eStamp t2))) rfl (v_box_d (cs := (eStamp t2)) rfl · · · rfl rfl (ones_of rfl)) ?_
 refine sM 6 (sV (⟨#[]⟩ : ByteArray)) rfl rfl ?_
 refine sM 7 (bV false) rfl rfl ?_
 refine sM 8 (bV false) rfl rfl ?_
 refine sq_nil ?_
 refine ht_gj (go_id' h) (fun _ => tell []) (fun _ h => ?_) (fun v1 K2 h j4 r5 => ?_)
 ·refine sr ?_
  refine sM 6 (sV (⟨#[]⟩ : ByteArray)) rfl rfl ?_
  refine sM 7 (bV false) rfl rfl ?_
  refine sM 8 (bV false) rfl rfl ?_
  refine sq_nil ?_
  refine ht_ret ?_
  cases h
  exact ret3 rfl (.tmp rfl) (.tmp rfl) (.tmp rfl)
 refine sr ?_
 refine sT 13 (.d (.dp (eCell t0))) rfl (v_field_dp (a0 := 0) (cs := (eCell t0)) rfl · · · fo26_0 rfl) ?_
 refine sT 14 (.d (.sl 17 (t0.mShards.map eShard))) rfl (v_load_dp1 rfl · · · onT22 rfl rfl) ?_
 refine sT 15 (iV (t0.mShards.length : Int)) rfl (w_len t0.mShards eShard rfl rfl · · · slT22 rfl) ?_
 refine sM 16 (iV 0) rfl rfl ?_
 refine sq_nil ?_
 refine ht_block ?_
 refine ht_rd h (fun _ => rfl) (fun t16 => tell [(.t 1, sV t1), (.t 5, .d (.dp (eStamp t2))), (.t 14, .d (.sl 17 (t0.mShards.map eShard))), (.t 15, iV (t0.mShards.length : Int)), (.t 16, iV t16)]) (wk_ren _ (fun i => i) rfl ⟨rfl, rfl, rfl, rfl, rfl, trivial⟩) fun k t16 h K38 j7 => ?_
 rw [F54_l1] at h
 refine sr ?_
 refine sT 17 (bV (ltI t16 (t0.mShards.length : Int))) rfl (v_bin rfl · · · rfl rfl (b_lss rfl)) ?_
 refine sq_nil ?_
 refine ht_seq ?_
 refine ht_cond rfl (fun e9 => ?_) (fun e9 => ?_)
 ·replace h := cpos e9 h
  refine ht_skip ?_
  refine ht_seq ?_
  refine ht_block ?_
  refine sr ?_
  obtain ⟨e10, h⟩ := gpos h
  refine sT 18 (.d (.dp (eShard (rd t0.mShards t16)))) rfl (w_idx t0.mShards eShard rfl · · · slT22 rfl rfl e10) ?_
  refine sT 19 (.d (.agg (eShard (rd t0.mShards t16)))) rfl (w_ldp (eShard (rd t0.mShards t16)) (eShard (rd t0.mShards t16)) rfl · · · ag45 rfl (ble _ _ rfl) rfl) ?_
  refine sq_cons _ (v_alloc (id := 10) (cs := zc45) rfl trivial rfl (ble _ _ rfl) zu45 rfl ft45 rfl) ?_
  refine sq_cons _ (v_store_box (id := 10) (off := 0) (cs := (eShard (rd t0.mShards t16)).map V.d) rfl trivial rfl sz45 rfl rfl rfl rfl (ones_of rfl) (ble _ _ rfl)) ?_
  refine sq_nil ?_
  refine ht_seq ?_
  refine sr ?_
  refine sT 20 (.ptr 10 4) rfl (v_field_box (off := 0) (a0 := 4) rfl · · · fo45_3 rfl) ?_
  refine sT 21 (iV (rd t0.mShards t16).mPhase) rfl (v_load_box1 (id := 10) (off := 4) rfl · · · onT3 rfl rfl (ble _ _ rfl) rfl) ?_
  refine sT 22 (bV (eqI (rd t0.mShards t16).mPhase 3)) rfl (v_bin rfl · · · rfl rfl (b_eql rfl)) ?_
  refine sM 23 (bV (eqI (rd t0.mShards t16).mPhase 3)) rfl rfl ?_
  refine sF 24 (.d (.agg (eStamp t2))) rfl rfl (fun e11 => (w_ldp (eStamp t2) (eStamp t2) rfl · · · ag24 rfl (ble _ _ rfl) rfl)) ?_
  refine sF 25 (.ptr 10 6) rfl rfl (fun e12 => (v_field_box (off := 0) (a0 := 6) rfl · · · fo45_5 rfl)) ?_
  refine sF 26 (.d (.agg (eStamp (rd t0.mShards t16).mMark))) rfl rfl (fun e13 => (w_ldb 10 6 rfl · · · ag24 (gv (nF e13)) rfl (ble _ _ rfl) rfl)) ?_
  obtain ⟨t27, c15, h⟩ := bpos h
  refine sF 27 (iV t27) rfl rfl (fun e14 => (w_call (ds := [(.agg (eStamp t2)), (.agg (eStamp (rd t0.mShards t16).mMark))]) (caps := []) (l := [(.s (.int .i64 t27))]) (s42 k t2 (rd t0.mShards t16).mMark _ (cpos (nF e14) c15)) rfl rfl rfl en42 · · · (.inl ⟨rfl, rfl⟩) (cc (gv (nF e14)) (cc (gv (nF e14)) rfl)) rfl)) ?_
  refine sF 28 (bV (ltI t27 0)) rfl rfl (fun e16 => (v_bin rfl · · · (gv (nF e16)) rfl (b_lss rfl))) ?_
  refine sT 29 (bV ((eqI (rd t0.mShards t16).mPhase 3) || (ltI t27 0))) rfl (v_pickB rfl · · · rfl (fun e17 => rfl) (fun e18 => (gv (nF e18))) (pO _ _)) ?_
  refine sM 30 (bV ((eqI (rd t0.mShards t16).mPhase 3) || (ltI t27 0))) rfl rfl ?_
  refine sF 31 (sV t1) rfl rfl (fun e19 => (v_move (.inl rfl) · · · rfl)) ?_
  refine sF 32 (.ptr 10 2) rfl rfl (fun e20 => (v_field_box (off := 0) (a0 := 2) rfl · · · fo45_2 rfl)) ?_
  refine sF 33 (.ptr 10 2) rfl rfl (fun e21 => (v_field_box (off := 2) (a0 := 0) rfl · · · fo41_0 (gv (nF e21)))) ?_
  refine sF 34 (sV (rd t0.mShards t16).mSpan.mLo) rfl rfl (fun e22 => (v_load_box1 (id := 10) (off := 2) rfl · · · onT9 (gv (nF e22)) rfl (ble _ _ rfl) rfl)) ?_
  refine sF 35 (.ptr 10 2) rfl rfl (fun e23 => (v_field_box (off := 0) (a0 := 2) rfl · · · fo45_2 rfl)) ?_
  refine sF 36 (.ptr 10 3) rfl rfl (fun e24 => (v_field_box (off := 2) (a0 := 1) rfl · · · fo41_1 (gv (nF e24)))) ?_
  refine sF 37 (sV (rd t0.mShards t16).mSpan.mHi) rfl rfl (fun e25 => (v_load_box1 (id := 10) (off := 3) rfl · · · onT9 (gv (nF e25)) rfl (ble _ _ rfl) rfl)) ?_
  obtain ⟨t38, c27, h⟩ := bpos h
  refine sF 38 (bV t38) rfl rfl (fun e26 => (w_call (ds := [(.s (.string t1)), (.s (.string (rd t0.mShards t16).mSpan.mLo)), (.s (.string (rd t0.mShards t16).mSpan.mHi))]) (caps := []) (l := [(.s (.bool t38))]) (s55 k t1 (rd t0.mShards t16).mSpan.mLo (rd t0.mShards t16).mSpan.mHi _ (cpos (nF e26) c27)) rfl rfl rfl en55 · · · (.inl ⟨rfl, rfl⟩) (cc (gv (nF e26)) (cc (gv (nF e26)) (cc (gv (nF e26)) rfl))) rfl)) ?_
  refine sF 39 (bV (!t38)) rfl rfl (fun e28 => (v_un rfl · · · (gv (nF e28)) (u_not rfl))) ?_
  refine sT 40 (bV (((eqI (rd t0.mShards t16).mPhase 3) || (ltI t27 0)) || (!t38))) rfl (v_pickB rfl · · · rfl (fun e29 => rfl) (fun e30 => (gv (nF e30))) (pO _ _)) ?_
  refine sq_nil ?_
  refine ht_cond rfl (fun e31 => ?_) (fun e31 => ?_)
  ·replace h := cpos e31 h
   refine ht_exit ?_
   refine tq ?_
   refine bq_hit ?_
   refine ht_region ?_
   refine sT 57 (iV (IntKind.wrap .i64 (t16 + 1))) rfl (v_bin rfl · · · rfl rfl (b_add rfl)) ?_
   refine sM 16 (iV (IntKind.wrap .i64 (t16 + 1))) rfl rfl ?_
   refine sq_nil ?_
   exact j7 _ _ h (wk_ren _ (fun i => i) rfl ⟨rfl, rfl, rfl, rfl, rfl, trivial⟩)
  replace h := cneg e31 h
  refine ht_skip ?_
  refine sr ?_
  refine sT 42 (.ptr 10 5) rfl (v_field_box (off := 0) (a0 := 5) rfl · · · fo45_4 rfl) ?_
  refine sT 43 (.d (.sl 2 ((rd t0.mShards t16).mEntries.map eEntry))) rfl (v_load_box1 (id := 10) (off := 5) rfl · · · onT42 rfl rfl (ble _ _ rfl) rfl) ?_
  refine sM 44 (sV t1) rfl rfl ?_
  refine sT 45 (.d (.agg (eStamp t2))) rfl (w_ldp (eStamp t2) (eStamp t2) rfl · · · ag24 rfl (ble _ _ rfl) rfl) ?_
  obtain ⟨⟨t46a, t46b⟩, c32, h⟩ := bpos h
  refine sT 46 (.tup [.d (.agg (eVersion t46a)), bV t46b]) rfl (w_call (ds := [(.sl 2 ((rd t0.mShards t16).mEntries.map eEntry)), (.s (.string t1)), (.agg (eStamp t2))]) (caps := []) (l := [(.agg (eVersion t46a)), (.s (.bool t46b))]) (s118 k (rd t0.mShards t16).mEntries t1 t2 _ c32) rfl rfl rfl en118 · · · (.inl ⟨rfl, rfl⟩) rfl rfl) ?_
  refine sM 41 (.tup [.d (.agg (eVersion t46a)), bV t46b]) rfl rfl ?_
  refine sT 47 (.d (.agg (eVersion t46a))) rfl (v_extract rfl · · · rfl rfl) ?_
  refine sT 48 (bV t46b) rfl (v_extract rfl · · · rfl rfl) ?_
  refine sq_cons _ (v_alloc (id := 11) (cs := zc93) rfl trivial rfl (ble _ _ rfl) zu93 rfl ft93 rfl) ?_
  refine sq_cons _ (v_store_box (id := 11) (off := 0) (cs := (eVersion t46a).map V.d) rfl trivial rfl sz93 rfl rfl rfl rfl (ones_of rfl) (ble _ _ rfl)) ?_
  refine sM 12 (bV t46b) rfl rfl ?_
  refine sq_nil ?_
  refine ht_seq ?_
  refine ht_region_draw mixed ?_
  refine rT 49 (.ptr 11 4) rfl (v_field_box (off := 0) (a0 := 4) rfl · · · fo93_2 rfl) ?_
  refine rT 50 (sV t46a.mValue) rfl (v_load_box1 (id := 11) (off := 4) rfl · · · onT9 rfl rfl (ble _ _ rfl) rfl) ?_
  refine rM 51 (bV t46b) rfl rfl ?_
  refine rM 52 (bV t46b) rfl rfl ?_
  refine rG 53 (.ptr 11 3) rfl rfl (fun e33 => (v_field_box (off := 0) (a0 := 3) rfl · · · fo93_1 rfl)) ?_
  refine rG 54 (bV t46a.mGone) rfl rfl (fun e34 => (v_load_box1 (id := 11) (off := 3) rfl · · · onT4 (gv e34) rfl (ble _ _ rfl) rfl)) ?_
  refine rG 55 (bV (!t46a.mGone)) rfl rfl (fun e35 => (v_un rfl · · · (gv e35) (u_not rfl))) ?_
  refine rT 56 (bV (t46b && (!t46a.mGone))) rfl (v_pickB rfl · · · rfl (fun e36 => (gv e36)) (fun e37 => rfl) (pA _ _)) ?_
  refine rM 6 (sV t46a.mValue) rfl rfl ?_
  refine rM 7 (bV (t46b && (!t46a.mGone))) rfl rfl ?_
  refine rM 8 (bV true) rfl rfl ?_
  refine rg_nil ⟨by kernel_rfl, ?_⟩
  refine ht_ret ?_
  cases h
  cases r5 _ rfl
  exact ret3 rfl (.tmp rfl) (.tmp rfl) (.tmp rfl)
 replace h := cneg e9 h
 refine ht_exit ?_
 refine tq ?_
 refine tq ?_
 refine bq_hit ?_
 cases h
 exact j4 _ _ rfl (wk_ren _ (fun i => i) rfl trivial)
theorem s12 (k : Nat) (t0 : Cell) (t1 : ByteArray) (t2 : Stamp) (t3 : List Act) (r : Bool) (h : F12 k t0 t1 t2 t3 = some r) : Awp.Spec Tryz.prog amb 12 [(.agg (eCell t0)), (.s (.string t1)), (.agg (eStamp t2)), (.sl 21 (t3.map eAct))] (.ds [(.s (.bool r))]) := by
 rw [F12] at h
 refine spec_of Tryz.func12 rfl (ble _ _ rfl) fun w0 ok0 lt0 hA => ?_
 refine sr ?_
 refine sq_cons _ (v_box (id := 4) (cs := (eCell t0).map V.d) rfl trivial rfl (ble _ _ rfl) rfl rfl (ones_of rfl) rfl) ?_
 refine sT 6 (.d (.dp (eStamp t2))) rfl (v_box_d (cs := (eStamp t2)) rfl · · · rfl rfl (ones_of rfl)) ?_
 refine sM 8 (bV false) rfl rfl ?_
 refine sq_nil ?_
 refine ht_seq ?_
 refine sr ?_
 refine sT 17 (.d (.agg (eCell t0))) rfl (w_ldb 4 0 rfl · · · ag26 rfl rfl (ble _ _ rfl) rfl) ?_
 refine sM 18 (.d (.sl 21 (t3.map eAct))) rfl rfl ?_
 obtain ⟨t19, c1, h⟩ := bpos h
 refine sT 19 (bV t19) rfl (w_call (ds := [(.agg (eCell t0)), (.sl 21 (t3.map eAct))]) (caps := []) (l := [(.s (.bool t19))]) (s52 k t0 t3 _ c1) rfl rfl rfl en52 · · · (.inl ⟨rfl, rfl⟩) rfl rfl) ?_
 refine sT 20 (bV (!t19)) rfl (v_un rfl · · · rfl (u_not rfl)) ?_
 refine sM 21 (bV (!t19)) rfl rfl ?_
 refine sF 22 (.d (.agg (eCell t0))) rfl rfl (fun e2 => (w_ldb 4 0 rfl · · · ag26 rfl rfl (ble _ _ rfl) rfl)) ?_
 obtain ⟨t23, c4, h⟩ := bpos h
 refine sF 23 (bV t23) rfl rfl (fun e3 => (w_call (ds := [(.agg (eCell t0))]) (caps := []) (l := [(.s (.bool t23))]) (s25 k t0 _ (cpos (nF e3) c4)) rfl rfl rfl en25 · · · (.inl ⟨rfl, rfl⟩) (cc (gv (nF e3)) rfl) rfl)) ?_
 refine sF 24 (bV (!t23)) rfl rfl (fun e5 => (v_un rfl · · · (gv (nF e5)) (u_not rfl))) ?_
 refine sT 25 (bV ((!t19) || (!t23))) rfl (v_pickB rfl · · · rfl (fun e6 => rfl) (fun e7 => (gv (nF e7))) (pO _ _)) ?_
 refine sM 26 (bV ((!t19) || (!t23))) rfl rfl ?_
 refine sF 27 (.ptr 4 0) rfl rfl (fun e8 => (v_field_box (off := 0) (a0 := 0) rfl · · · fo26_0 rfl)) ?_
 refine sF 28 (.d (.sl 17 (t0.mShards.map eShard))) rfl rfl (fun e9 => (v_load_box1 (id := 4) (off := 0) rfl · · · onT22 (gv (nF e9)) rfl (ble _ _ rfl) rfl)) ?_
 refine sF 29 (iV (t0.mShards.length : Int)) rfl rfl (fun e10 => (w_len t0.mShards eShard rfl rfl · · · slT22 (gv (nF e10)))) ?_
 refine sF 30 (bV (!eqI (t0.mShards.length : Int) 1)) rfl rfl (fun e11 => (v_bin rfl · · · (gv (nF e11)) rfl (b_neq rfl))) ?_
 refine sT 31 (bV (((!t19) || (!t23)) || (!eqI (t0.mShards.length : Int) 1))) rfl (v_pickB rfl · · · rfl (fun e12 => rfl) (fun e13 => (gv (nF e13))) (pO _ _)) ?_
 refine sM 32 (bV (((!t19) || (!t23)) || (!eqI (t0.mShards.length : Int) 1))) rfl rfl ?_
 refine sF 33 (.ptr 4 0) rfl rfl (fun e14 => (v_field_box (off := 0) (a0 := 0) rfl · · · fo26_0 rfl)) ?_
 refine sF 34 (.d (.sl 17 (t0.mShards.map eShard))) rfl rfl (fun e15 => (v_load_box1 (id := 4) (off := 0) rfl · · · onT22 (gv (nF e15)) rfl (ble _ _ rfl) rfl)) ?_
 obtain ⟨e17, h⟩ := gpos h
 refine sF 35 (.d (.dp (eShard (rd t0.mShards 0)))) rfl rfl (fun e16 => (w_idx t0.mShards eShard rfl · · · slT22 (gv (nF e16)) rfl (orT e17 (nF e16)))) ?_
 refine sF 36 (.d (.dp (List.drop 2 (eShard (rd t0.mShards 0))))) rfl rfl (fun e18 => (v_field_dp (a0 := 2) (cs := (eShard (rd t0.mShards 0))) rfl · · · fo45_2 (gv (nF e18)))) ?_
 refine sF 37 (.d (.agg (eSpan (rd t0.mShards 0).mSpan))) rfl rfl (fun e19 => (w_ldp (List.drop 2 (eShard (rd t0.mShards 0))) (eSpan (rd t0.mShards 0).mSpan) rfl · · · ag41 (gv (nF e19)) (ble _ _ rfl) rfl)) ?_
 refine sF 38 (.d (.agg (eSpan (⟨⟨#[]⟩, ⟨#[]⟩⟩ : Span)))) rfl rfl (fun e20 => (w_bld zc41 ((eSpan (⟨⟨#[]⟩, ⟨#[]⟩⟩ : Span)).map V.d) [] rfl · · · zw41 rfl ft41 rfl rfl rfl rfl)) ?_
 refine sF 39 (bV (!(qSpan (rd t0.mShards 0).mSpan (⟨⟨#[]⟩, ⟨#[]⟩⟩ : Span)))) rfl rfl (fun e21 => (v_bin_neq (f := eSpan) rfl · · · (gv (nF e21)) (gv (nF e21)) rfl rfl eg41 (eq41 _ _))) ?_
 refine sT 40 (bV ((((!t19) || (!t23)) || (!eqI (t0.mShards.length : Int) 1)) || (!(qSpan (rd t0.mShards 0).mSpan (⟨⟨#[]⟩, ⟨#[]⟩⟩ : Span))))) rfl (v_pickB rfl · · · rfl (fun e22 => rfl) (fun e23 => (gv (nF e23))) (pO _ _)) ?_
 refine sM 41 (bV ((((!t19) || (!t23)) || (!eqI (t0.mShards.length : Int) 1)) || (!(qSpan (rd t0.mShards 0).mSpan (⟨⟨#[]⟩, ⟨#[]⟩⟩ : Span))))) rfl rfl ?_
 refine sF 42 (sV t1) rfl rfl (fun e24 => (v_move (.inl rfl) · · · rfl)) ?_
 refine sF 43 (iV (t1.size : Int)) rfl rfl (fun e25 => (v_len_str rfl rfl · · · und9 (gv (nF e25)))) ?_
 refine sF 44 (bV (ltI 100 (t1.size : Int))) rfl rfl (fun e26 => (v_bin rfl · · · (gv (nF e26)) rfl (b_gtr rfl))) ?_
 refine sT 45 (bV (((((!t19) || (!t23)) || (!eqI (t0.mShards.length : Int) 1)) || (!(qSpan (rd t0.mShards 0).mSpan (⟨⟨#[]⟩, ⟨#[]⟩⟩ : Span)))) || (ltI 100 (t1.size : Int)))) rfl (v_pickB rfl · · · rfl (fun e27 => rfl) (fun e28 => (gv (nF e28))) (pO _ _)) ?_
 refine sM 46 (bV (((((!t19) || (!t23)) || (!eqI (t0.mShards.length : Int) 1)) || (!(qSpan (rd t0.mShards 0).mSpan (⟨⟨#[]⟩, ⟨#[]⟩⟩ : Span)))) || (ltI 100 (t1.size : Int)))) rfl rfl ?_
 refine sF 47 (.d (.agg (eStamp t2))) rfl rfl (fun e29 => (w_ldp (eStamp t2) (eStamp t2) rfl · · · ag24 rfl (ble _ _ rfl) rfl)) ?_
 refine sF 48 (.ptr 4 1) rfl rfl (fun e30 => (v_field_box (off := 0) (a0 := 1) rfl · · · fo26_1 rfl)) ?_
 refine sF 49 (.d (.agg (eStamp t0.mTop))) rfl rfl (fun e31 => (w_ldb 4 1 rfl · · · ag24 (gv (nF e31)) rfl (ble _ _ rfl) rfl)) ?_
 obtain ⟨t50, c33, h⟩ := bpos h
 refine sF 50 (iV t50) rfl rfl (fun e32 => (w_call (ds := [(.agg (eStamp t2)), (.agg (eStamp t0.mTop))]) (caps := []) (l := [(.s (.int .i64 t50))]) (s42 k t2 t0.mTop _ (cpos (nF e32) c33)) rfl rfl rfl en42 · · · (.inl ⟨rfl, rfl⟩) (cc (gv (nF e32)) (cc (gv (nF e32)) rfl)) rfl)) ?_
 refine sF 51 (bV (ltI 0 t50)) rfl rfl (fun e34 => (v_bin rfl · · · (gv (nF e34)) rfl (b_gtr rfl))) ?_
 refine sT 52 (bV ((((((!t19) || (!t23)) || (!eqI (t0.mShards.length : Int) 1)) || (!(qSpan (rd t0.mShards 0).mSpan (⟨⟨#[]⟩, ⟨#[]⟩⟩ : Span)))) || (ltI 100 (t1.size : Int))) || (ltI 0 t50))) rfl (v_pickB rfl · · · rfl (fun e35 => rfl) (fun e36 => (gv (nF e36))) (pO _ _)) ?_
 refine sq_nil ?_
 refine ht_cond rfl (fun e37 => ?_) (fun e37 => ?_)
 ·replace h := cpos e37 h
  refine sr ?_
  obtain ⟨t53, c38, h⟩ := bpos h
  refine sT 53 (bV t53) rfl (w_call (ds := []) (caps := []) (l := [(.s (.bool t53))]) (s15 k _ c38) rfl rfl rfl en15 · · · (.inl ⟨rfl, rfl⟩) rfl rfl) ?_
  refine sM 8 (bV t53) rfl rfl ?_
  refine sq_nil ?_
  refine ht_ret ?_
  cases h
  exact ret1 rfl (.tmp rfl)
 replace h := cneg e37 h
 refine ht_skip ?_
 refine sr ?_
 refine sT 55 (.d (.agg (eCell t0))) rfl (w_ldb 4 0 rfl · · · ag26 rfl rfl (ble _ _ rfl) rfl) ?_
 refine sM 56 (sV t1) rfl rfl ?_
 refine sT 57 (.d (.agg (eStamp t2))) rfl (w_ldp (eStamp t2) (eStamp t2) rfl · · · ag24 rfl (ble _ _ rfl) rfl) ?_
 obtain ⟨⟨t58a, t58b, t58c⟩, c39, h⟩ := bpos h
 refine sT 58 (.tup [sV t58a, bV t58b, bV t58c]) rfl (w_call (ds := [(.agg (eCell t0)), (.s (.string t1)), (.agg (eStamp t2))]) (caps := []) (l := [(.s (.string t58a)), (.s (.bool t58b)), (.s (.bool t58c))]) (s54 k t0 t1 t2 _ c39) rfl rfl rfl en54 · · · (.inl ⟨rfl, rfl⟩) rfl rfl) ?_
 refine sM 54 (.tup [sV t58a, bV t58b, bV t58c]) rfl rfl ?_
 refine sT 59 (sV t58a) rfl (v_extract rfl · · · rfl rfl) ?_
 refine sT 60 (bV t58b) rfl (v_extract rfl · · · rfl rfl) ?_
 refine sT 61 (bV t58c) rfl (v_extract rfl · · · rfl rfl) ?_
 refine sM 9 (sV t58a) rfl rfl ?_
 refine sM 10 (bV t58b) rfl rfl ?_
 refine sM 11 (bV t58c) rfl rfl ?_
 refine sq_nil ?_
 refine ht_gj (go_id' h) (fun _ => tell []) (fun _ h => ?_) (fun v40 K41 h j43 r44 => ?_)
 ·refine sr ?_
  obtain ⟨t118, c92, h⟩ := bpos h
  refine sT 118 (bV t118) rfl (w_call (ds := []) (caps := []) (l := [(.s (.bool t118))]) (s15 k _ c92) rfl rfl rfl en15 · · · (.inl ⟨rfl, rfl⟩) rfl rfl) ?_
  refine sM 8 (bV t118) rfl rfl ?_
  refine sq_nil ?_
  refine ht_ret ?_
  cases h
  exact ret1 rfl (.tmp rfl)
 refine sr ?_
 refine sM 12 (iV 0) rfl rfl ?_
 refine sq_nil ?_
 refine ht_block ?_
 refine ht_rd h (fun _ => rfl) (fun (t12, t4c0, t4c1, t4c2, t4c3, t4c4) => tell [(.b 4, .box false 5), (.c 4 0, .d (.sl 17 (t4c0.map eShard))), (.c 4 1, iV t4c1), (.c 4 2, iV t4c2), (.c 4 3, iV t4c3), (.c 4 4, iV t4c4), (.t 1, sV t1), (.t 3, .d (.sl 21 (t3.map eAct))), (.t 4, .ptr 4 0), (.t 6, .d (.dp (eStamp t2))), (.t 9, sV t58a), (.t 10, bV t58b), (.t 11, bV t58c), (.t 12, iV t12)]) (wk_ren _ (fun i => i) rfl ⟨rfl, rfl, rfl, rfl, rfl, rfl, rfl, rfl, rfl, rfl, rfl, rfl, rfl, rfl, trivial⟩) fun k v47 h K91 j46 => ?_
 obtain ⟨t12, t4c0, t4c1, t4c2, t4c3, t4c4⟩ := v47
 rw [F12_l1] at h
 refine ht_seq ?_
 refine sr ?_
 refine sM 62 (iV t12) rfl rfl ?_
 refine sM 63 (.d (.sl 21 (t3.map eAct))) rfl rfl ?_
 refine sT 64 (iV (t3.length : Int)) rfl (w_len t3 eAct rfl rfl · · · slT71 rfl) ?_
 refine sT 65 (bV (ltI t12 (t3.length : Int))) rfl (v_bin rfl · · · rfl rfl (b_lss rfl)) ?_
 refine sM 66 (bV (ltI t12 (t3.length : Int))) rfl rfl ?_
 refine sG 67 (iV t12) rfl rfl (fun e48 => (v_move (.inl rfl) · · · rfl)) ?_
 refine sG 68 (bV (ltI t12 40)) rfl rfl (fun e49 => (v_bin rfl · · · (gv e49) rfl (b_lss rfl))) ?_
 refine sT 69 (bV ((ltI t12 (t3.length : Int)) && (ltI t12 40))) rfl (v_pickB rfl · · · rfl (fun e50 => (gv e50)) (fun e51 => rfl) (pA _ _)) ?_
 refine sq_nil ?_
 refine ht_cond rfl (fun e52 => ?_) (fun e52 => ?_)
 ·replace h := cpos e52 h
  refine ht_skip ?_
  refine ht_seq ?_
  refine ht_block ?_
  refine ht_seq ?_
  refine sr ?_
  refine sM 72 (.d (.sl 21 (t3.map eAct))) rfl rfl ?_
  refine sM 73 (iV t12) rfl rfl ?_
  obtain ⟨e53, h⟩ := gpos h
  refine sT 74 (.d (.dp (eAct (rd t3 t12)))) rfl (w_idx t3 eAct rfl · · · slT71 rfl rfl e53) ?_
  refine sT 75 (.d (.dp (eAct (rd t3 t12)))) rfl (v_field_dp (a0 := 0) (cs := (eAct (rd t3 t12))) rfl · · · fo75_0 rfl) ?_
  refine sT 76 (iV (rd t3 t12).mKind) rfl (v_load_dp1 rfl · · · onT3 rfl rfl) ?_
  refine sT 77 (nV .u64 (IntKind.wrap .u64 (rd t3 t12).mKind)) rfl (v_conv rfl · · · rfl (c_int und3 und78 rfl)) ?_
  refine sT 78 (nV .u64 (Int.tmod (IntKind.wrap .u64 (rd t3 t12).mKind) 15)) rfl (v_bin rfl · · · rfl rfl (b_rem rfl rfl)) ?_
  refine sM 13 (nV .u64 (Int.tmod (IntKind.wrap .u64 (rd t3 t12).mKind) 15)) rfl rfl ?_
  refine sq_nil ?_
  refine sr ?_
  refine sM 79 (nV .u64 (Int.tmod (IntKind.wrap .u64 (rd t3 t12).mKind) 15)) rfl rfl ?_
  refine sT 80 (bV (eqI (Int.tmod (IntKind.wrap .u64 (rd t3 t12).mKind) 15) 8)) rfl (v_bin rfl · · · rfl rfl (b_eql rfl)) ?_
  refine sM 81 (bV (eqI (Int.tmod (IntKind.wrap .u64 (rd t3 t12).mKind) 15) 8)) rfl rfl ?_
  refine sF 82 (nV .u64 (Int.tmod (IntKind.wrap .u64 (rd t3 t12).mKind) 15)) rfl rfl (fun e54 => (v_move (.inl rfl) · · · rfl)) ?_
  refine sF 83 (bV (eqI (Int.tmod (IntKind.wrap .u64 (rd t3 t12).mKind) 15) 9)) rfl rfl (fun e55 => (v_bin rfl · · · (gv (nF e55)) rfl (b_eql rfl))) ?_
  refine sT 84 (bV ((eqI (Int.tmod (IntKind.wrap .u64 (rd t3 t12).mKind) 15) 8) || (eqI (Int.tmod (IntKind.wrap .u64 (rd t3 t12).mKind) 15) 9))) rfl (v_pickB rfl · · · rfl (fun e56 => rfl) (fun e57 => (gv (nF e57))) (pO _ _)) ?_
  refine sM 85 (bV ((eqI (Int.tmod (IntKind.wrap .u64 (rd t3 t12).mKind) 15) 8) || (eqI (Int.tmod (IntKind.wrap .u64 (rd t3 t12).mKind) 15) 9))) rfl rfl ?_
  refine sF 86 (nV .u64 (Int.tmod (IntKind.wrap .u64 (rd t3 t12).mKind) 15)) rfl rfl (fun e58 => (v_move (.inl rfl) · · · rfl)) ?_
  refine sF 87 (bV (eqI (Int.tmod (IntKind.wrap .u64 (rd t3 t12).mKind) 15) 10)) rfl rfl (fun e59 => (v_bin rfl · · · (gv (nF e59)) rfl (b_eql rfl))) ?_
  refine sT 88 (bV (((eqI (Int.tmod (IntKind.wrap .u64 (rd t3 t12).mKind) 15) 8) || (eqI (Int.tmod (IntKind.wrap .u64 (rd t3 t12).mKind) 15) 9)) || (eqI (Int.tmod (IntKind.wrap .u64 (rd t3 t12).mKind) 15) 10))) rfl (v_pickB rfl · · · rfl (fun e60 => rfl) (fun e61 => (gv (nF e61))) (pO _ _)) ?_
  refine sq_nil ?_
  refine ht_cond rfl (fun e62 => ?_) (fun e62 => ?_)
  ·replace h := cpos e62 h
   refine ht_exit ?_
   refine tq ?_
   refine bq_hit ?_
   refine ht_region ?_
   refine sM 70 (iV t12) rfl rfl ?_
   refine sT 71 (iV (IntKind.wrap .i64 (t12 + 1))) rfl (v_bin rfl · · · rfl rfl (b_add rfl)) ?_
   refine sM 12 (iV (IntKind.wrap .i64 (t12 + 1))) rfl rfl ?_
   refine sq_nil ?_
   exact j46 _ _ h (wk_ren _ (fun i => i) rfl ⟨rfl, rfl, rfl, rfl, rfl, rfl, rfl, rfl, rfl, rfl, rfl, rfl, rfl, rfl, trivial⟩)
  replace h := cneg e62 h
  refine ht_skip ?_
  refine ht_seq ?_
  refine ht_region_draw mixed ?_
  refine rT 89 (.d (.agg (eCell (⟨t4c0, (⟨t4c1, t4c2, t4c3⟩ : Stamp), t4c4⟩ : Cell)))) rfl (w_ldb 4 0 rfl · · · ag26 rfl rfl (ble _ _ rfl) rfl) ?_
  refine rM 90 (.d (.sl 21 (t3.map eAct))) rfl rfl ?_
  refine rM 91 (iV t12) rfl rfl ?_
  obtain ⟨e63, h⟩ := gpos h
  refine rT 92 (.d (.dp (eAct (rd t3 t12)))) rfl (w_idx t3 eAct rfl · · · slT71 rfl rfl e63) ?_
  refine rT 93 (.d (.agg (eAct (rd t3 t12)))) rfl (w_ldp (eAct (rd t3 t12)) (eAct (rd t3 t12)) rfl · · · ag75 rfl (ble _ _ rfl) rfl) ?_
  obtain ⟨t94, c64, h⟩ := bpos h
  refine rT 94 (.d (.agg (eCell t94))) rfl (w_call (ds := [(.agg (eCell (⟨t4c0, (⟨t4c1, t4c2, t4c3⟩ : Stamp), t4c4⟩ : Cell))), (.agg (eAct (rd t3 t12)))]) (caps := []) (l := [(.agg (eCell t94))]) (s53 k (⟨t4c0, (⟨t4c1, t4c2, t4c3⟩ : Stamp), t4c4⟩ : Cell) (rd t3 t12) _ c64) rfl rfl rfl en53 · · · (.inl ⟨rfl, rfl⟩) rfl rfl) ?_
  refine rg_cons _ (v_store_box (id := 4) (off := 0) (cs := (eCell t94).map V.d) rfl trivial rfl sz26 rfl rfl rfl rfl (ones_of rfl) (ble _ _ rfl)) ?_
  refine rg_nil ⟨by kernel_rfl, ?_⟩
  refine sr ?_
  refine sT 96 (.d (.agg (eCell t94))) rfl (w_ldb 4 0 rfl · · · ag26 rfl rfl (ble _ _ rfl) rfl) ?_
  refine sM 97 (sV t1) rfl rfl ?_
  refine sT 98 (.d (.agg (eStamp t2))) rfl (w_ldp (eStamp t2) (eStamp t2) rfl · · · ag24 rfl (ble _ _ rfl) rfl) ?_
  obtain ⟨⟨t99a, t99b, t99c⟩, c65, h⟩ := bpos h
  refine sT 99 (.tup [sV t99a, bV t99b, bV t99c]) rfl (w_call (ds := [(.agg (eCell t94)), (.s (.string t1)), (.agg (eStamp t2))]) (caps := []) (l := [(.s (.string t99a)), (.s (.bool t99b)), (.s (.bool t99c))]) (s54 k t94 t1 t2 _ c65) rfl rfl rfl en54 · · · (.inl ⟨rfl, rfl⟩) rfl rfl) ?_
  refine sM 95 (.tup [sV t99a, bV t99b, bV t99c]) rfl rfl ?_
  refine sT 100 (sV t99a) rfl (v_extract rfl · · · rfl rfl) ?_
  refine sT 101 (bV t99b) rfl (v_extract rfl · · · rfl rfl) ?_
  refine sT 102 (bV t99c) rfl (v_extract rfl · · · rfl rfl) ?_
  refine sM 14 (sV t99a) rfl rfl ?_
  refine sM 15 (bV t99b) rfl rfl ?_
  refine sM 16 (bV t99c) rfl rfl ?_
  refine sq_nil ?_
  refine sr ?_
  refine sM 103 (bV t99c) rfl rfl ?_
  refine sM 104 (bV t99c) rfl rfl ?_
  refine sG 105 (bV t58c) rfl rfl (fun e66 => (v_move (.inl rfl) · · · rfl)) ?_
  refine sG 106 (bV (!t58c)) rfl rfl (fun e67 => (v_un rfl · · · (gv e67) (u_not rfl))) ?_
  refine sG 107 (bV (!t58c)) rfl rfl (fun e68 => (v_move (.inl rfl) · · · (gv e68))) ?_
  refine sH 108 (sV t99a) rfl rfl (fun e69 e70 => (v_move (.inl rfl) · · · rfl)) ?_
  refine sH 109 (sV t58a) rfl rfl (fun e71 e72 => (v_move (.inl rfl) · · · rfl)) ?_
  refine sH 110 (bV (!strEq t99a t58a)) rfl rfl (fun e73 e74 => (v_bin rfl · · · (gv (aT e73 (nF e74))) (gv (aT e73 (nF e74))) (b_neS rfl))) ?_
  refine sG 111 (bV ((!t58c) || (!strEq t99a t58a))) rfl rfl (fun e75 => (v_pickB rfl · · · (gv e75) (fun e76 => rfl) (fun e77 => (gv (aT e75 (nF e77)))) (pO _ _))) ?_
  refine sG 112 (bV ((!t58c) || (!strEq t99a t58a))) rfl rfl (fun e78 => (v_move (.inl rfl) · · · (gv e78))) ?_
  refine sH 113 (bV t99b) rfl rfl (fun e79 e80 => (v_move (.inl rfl) · · · rfl)) ?_
  refine sH 114 (bV t58b) rfl rfl (fun e81 e82 => (v_move (.inl rfl) · · · rfl)) ?_
  refine sH 115 (bV (!(t99b == t58b))) rfl rfl (fun e83 e84 => (v_bin rfl · · · (gv (aT e83 (nF e84))) (gv (aT e83 (nF e84))) (b_neB und4 rfl))) ?_
  refine sG 116 (bV (((!t58c) || (!strEq t99a t58a)) || (!(t99b == t58b)))) rfl rfl (fun e85 => (v_pickB rfl · · · (gv e85) (fun e86 => rfl) (fun e87 => (gv (aT e85 (nF e87)))) (pO _ _))) ?_
  refine sT 117 (bV (t99c && (((!t58c) || (!strEq t99a t58a)) || (!(t99b == t58b))))) rfl (v_pickB rfl · · · rfl (fun e88 => (gv e88)) (fun e89 => rfl) (pA _ _)) ?_
  refine sq_nil ?_
  refine ht_cond rfl (fun e90 => ?_) (fun e90 => ?_)
  ·replace h := cpos e90 h
   refine sr ?_
   refine sM 8 (bV false) rfl rfl ?_
   refine sq_nil ?_
   refine ht_ret ?_
   cases h
   cases r44 _ rfl
   exact ret1 rfl (.tmp rfl)
  replace h := cneg e90 h
  refine ht_skip ?_
  refine ht_region ?_
  refine sM 70 (iV t12) rfl rfl ?_
  refine sT 71 (iV (IntKind.wrap .i64 (t12 + 1))) rfl (v_bin rfl · · · rfl rfl (b_add rfl)) ?_
  refine sM 12 (iV (IntKind.wrap .i64 (t12 + 1))) rfl rfl ?_
  refine sq_nil ?_
  exact j46 _ _ h (wk_ren _ (fun i => i) rfl ⟨rfl, rfl, rfl, rfl, rfl, rfl, rfl, rfl, rfl, rfl, rfl, rfl, rfl, rfl, trivial⟩)
 replace h := cneg e52 h
 refine ht_exit ?_
 refine tq ?_
 refine tq ?_
 refine bq_hit ?_
 cases h
 exact j43 _ _ rfl (wk_ren _ (fun i => i) rfl trivial)
end Go.Proofs.Gd
set_option linter.unusedVariables false
namespace Go.Proofs.Gd
open Go Go.Awp Go.Proofs
theorem dc3 : Dc Tryz.prog 3 1 (eI .i64) := dcInt Tryz.underlying3 (by kernel_rfl)
theorem dc9 : Dc Tryz.prog 9 1 eS := dcStr Tryz.underlying9 (by kernel_rfl)
theorem dc41 : Dc Tryz.prog 41 2 eSpan := ⟨by kernel_rfl, fun enc W sp held fuel cs x hx => by
  obtain ⟨xs, n, _, _, hl, hxl, hf⟩ := DataW.trod_struct Tryz.underlying41 hx
  obtain ⟨a0, h0⟩ := field_some hxl hf (i := 0) (T := 9) (o := 0) rfl dc9
  obtain ⟨a1, h1⟩ := field_some hxl hf (i := 1) (T := 9) (o := 1) rfl dc9
  refine ⟨⟨a0, a1⟩, ?_⟩
  show RepC W cs ((eS a0) ++ ((eS a1) ++ ([])))
  exact repC_all (repC_glue h0 rfl (repC_glue h1 rfl (repC_end (hl.trans (by kernel_rfl)))))⟩
theorem dc24 : Dc Tryz.prog 24 3 eStamp := ⟨by kernel_rfl, fun enc W sp held fuel cs x hx => by
  obtain ⟨xs, n, _, _, hl, hxl, hf⟩ := DataW.trod_struct Tryz.underlying24 hx
  obtain ⟨a0, h0⟩ := field_some hxl hf (i := 0) (T := 3) (o := 0) rfl dc3
  obtain ⟨a1, h1⟩ := field_some hxl hf (i := 1) (T := 3) (o := 1) rfl dc3
  obtain ⟨a2, h2⟩ := field_some hxl hf (i := 2) (T := 3) (o := 2) rfl dc3
  refine ⟨⟨a0, a1, a2⟩, ?_⟩
  show RepC W cs ((eI .i64 a0) ++ ((eI .i64 a1) ++ ((eI .i64 a2) ++ ([]))))
  exact repC_all (repC_glue h0 rfl (repC_glue h1 rfl (repC_glue h2 rfl (repC_end (hl.trans (by kernel_rfl))))))⟩
theorem dc4 : Dc Tryz.prog 4 1 eB := dcBool Tryz.underlying4 (by kernel_rfl)
theorem dc93 : Dc Tryz.prog 93 5 eVersion := ⟨by kernel_rfl, fun enc W sp held fuel cs x hx => by
  obtain ⟨xs, n, _, _, hl, hxl, hf⟩ := DataW.trod_struct Tryz.underlying93 hx
  obtain ⟨a0, h0⟩ := field_some hxl hf (i := 0) (T := 24) (o := 0) rfl dc24
  obtain ⟨a1, h1⟩ := field_some hxl hf (i := 1) (T := 4) (o := 3) rfl dc4
  obtain ⟨a2, h2⟩ := field_some hxl hf (i := 2) (T := 9) (o := 4) rfl dc9
  refine ⟨⟨a0, a1, a2⟩, ?_⟩
  show RepC W cs ((eStamp a0) ++ ((eB a1) ++ ((eS a2) ++ ([]))))
  exact repC_all (repC_glue h0 rfl (repC_glue h1 rfl (repC_glue h2 rfl (repC_end (hl.trans (by kernel_rfl))))))⟩
theorem dc96 : Dc Tryz.prog 96 1 (eL 5 eVersion) := dcSlice Tryz.underlying96 (by kernel_rfl) (ble _ _ rfl) dc93 teVersion
theorem dc116 : Dc Tryz.prog 116 2 eEntry := ⟨by kernel_rfl, fun enc W sp held fuel cs x hx => by
  obtain ⟨xs, n, _, _, hl, hxl, hf⟩ := DataW.trod_struct Tryz.underlying116 hx
  obtain ⟨a0, h0⟩ := field_some hxl hf (i := 0) (T := 9) (o := 0) rfl dc9
  obtain ⟨a1, h1⟩ := field_some hxl hf (i := 1) (T := 96) (o := 1) rfl dc96
  refine ⟨⟨a0, a1⟩, ?_⟩
  show RepC W cs ((eS a0) ++ ((eL 5 eVersion a1) ++ ([])))
  exact repC_all (repC_glue h0 rfl (repC_glue h1 rfl (repC_end (hl.trans (by kernel_rfl)))))⟩
theorem dc42 : Dc Tryz.prog 42 1 (eL 2 eEntry) := dcSlice Tryz.underlying42 (by kernel_rfl) (ble _ _ rfl) dc116 teEntry
theorem dc31 : Dc Tryz.prog 31 1 (eI .i64) := dcInt Tryz.underlying31 (by kernel_rfl)
theorem dc110 : Dc Tryz.prog 110 2 eItem := ⟨by kernel_rfl, fun enc W sp held fuel cs x hx => by
  obtain ⟨xs, n, _, _, hl, hxl, hf⟩ := DataW.trod_struct Tryz.underlying110 hx
  obtain ⟨a0, h0⟩ := field_some hxl hf (i := 0) (T := 9) (o := 0) rfl dc9
  obtain ⟨a1, h1⟩ := field_some hxl hf (i := 1) (T := 9) (o := 1) rfl dc9
  refine ⟨⟨a0, a1⟩, ?_⟩
  show RepC W cs ((eS a0) ++ ((eS a1) ++ ([])))
  exact repC_all (repC_glue h0 rfl (repC_glue h1 rfl (repC_end (hl.trans (by kernel_rfl)))))⟩
theorem dc32 : Dc Tryz.prog 32 1 (eL 2 eItem) := dcSlice Tryz.underlying32 (by kernel_rfl) (ble _ _ rfl) dc110 teItem
theorem dc34 : Dc Tryz.prog 34 9 eAnswer := ⟨by kernel_rfl, fun enc W sp held fuel cs x hx => by
  obtain ⟨xs, n, _, _, hl, hxl, hf⟩ := DataW.trod_struct Tryz.underlying34 hx
  obtain ⟨a0, h0⟩ := field_some hxl hf (i := 0) (T := 31) (o := 0) rfl dc31
  obtain ⟨a1, h1⟩ := field_some hxl hf (i := 1) (T := 24) (o := 1) rfl dc24
  obtain ⟨a2, h2⟩ := field_some hxl hf (i := 2) (T := 4) (o := 4) rfl dc4
  obtain ⟨a3, h3⟩ := field_some hxl hf (i := 3) (T := 9) (o := 5) rfl dc9
  obtain ⟨a4, h4⟩ := field_some hxl hf (i := 4) (T := 32) (o := 6) rfl dc32
  obtain ⟨a5, h5⟩ := field_some hxl hf (i := 5) (T := 9) (o := 7) rfl dc9
  obtain ⟨a6, h6⟩ := field_some hxl hf (i := 6) (T := 4) (o := 8) rfl dc4
  refine ⟨⟨a0, a1, a2, a3, a4, a5, a6⟩, ?_⟩
  show RepC W cs ((eI .i64 a0) ++ ((eStamp a1) ++ ((eB a2) ++ ((eS a3) ++ ((eL 2 eItem a4) ++ ((eS a5) ++ ((eB a6) ++ ([]))))))))
  exact repC_all (repC_glue h0 rfl (repC_glue h1 rfl (repC_glue h2 rfl (repC_glue h3 rfl (repC_glue h4 rfl (repC_glue h5 rfl (repC_glue h6 rfl (repC_end (hl.trans (by kernel_rfl))))))))))⟩
theorem dc100 : Dc Tryz.prog 100 11 eDone := ⟨by kernel_rfl, fun enc W sp held fuel cs x hx => by
  obtain ⟨xs, n, _, _, hl, hxl, hf⟩ := DataW.trod_struct Tryz.underlying100 hx
  obtain ⟨a0, h0⟩ := field_some hxl hf (i := 0) (T := 3) (o := 0) rfl dc3
  obtain ⟨a1, h1⟩ := field_some hxl hf (i := 1) (T := 3) (o := 1) rfl dc3
  obtain ⟨a2, h2⟩ := field_some hxl hf (i := 2) (T := 34) (o := 2) rfl dc34
  refine ⟨⟨a0, a1, a2⟩, ?_⟩
  show RepC W cs ((eI .i64 a0) ++ ((eI .i64 a1) ++ ((eAnswer a2) ++ ([]))))
  exact repC_all (repC_glue h0 rfl (repC_glue h1 rfl (repC_glue h2 rfl (repC_end (hl.trans (by kernel_rfl))))))⟩
theorem dc43 : Dc Tryz.prog 43 1 (eL 11 eDone) := dcSlice Tryz.underlying43 (by kernel_rfl) (ble _ _ rfl) dc100 teDone
theorem dc45 : Dc Tryz.prog 45 17 eShard := ⟨by kernel_rfl, fun enc W sp held fuel cs x hx => by
  obtain ⟨xs, n, _, _, hl, hxl, hf⟩ := DataW.trod_struct Tryz.underlying45 hx
  obtain ⟨a0, h0⟩ := field_some hxl hf (i := 0) (T := 3) (o := 0) rfl dc3
  obtain ⟨a1, h1⟩ := field_some hxl hf (i := 1) (T := 3) (o := 1) rfl dc3
  obtain ⟨a2, h2⟩ := field_some hxl hf (i := 2) (T := 41) (o := 2) rfl dc41
  obtain ⟨a3, h3⟩ := field_some hxl hf (i := 3) (T := 3) (o := 4) rfl dc3
  obtain ⟨a4, h4⟩ := field_some hxl hf (i := 4) (T := 42) (o := 5) rfl dc42
  obtain ⟨a5, h5⟩ := field_some hxl hf (i := 5) (T := 24) (o := 6) rfl dc24
  obtain ⟨a6, h6⟩ := field_some hxl hf (i := 6) (T := 24) (o := 9) rfl dc24
  obtain ⟨a7, h7⟩ := field_some hxl hf (i := 7) (T := 43) (o := 12) rfl dc43
  obtain ⟨a8, h8⟩ := field_some hxl hf (i := 8) (T := 3) (o := 13) rfl dc3
  obtain ⟨a9, h9⟩ := field_some hxl hf (i := 9) (T := 3) (o := 14) rfl dc3
  obtain ⟨a10, h10⟩ := field_some hxl hf (i := 10) (T := 3) (o := 15) rfl dc3
  obtain ⟨a11, h11⟩ := field_some hxl hf (i := 11) (T := 3) (o := 16) rfl dc3
  refine ⟨⟨a0, a1, a2, a3, a4, a5, a6, a7, a8, a9, a10, a11⟩, ?_⟩
  show RepC W cs ((eI .i64 a0) ++ ((eI .i64 a1) ++ ((eSpan a2) ++ ((eI .i64 a3) ++ ((eL 2 eEntry a4) ++ ((eStamp a5) ++ ((eStamp a6) ++ ((eL 11 eDone a7) ++ ((eI .i64 a8) ++ ((eI .i64 a9) ++ ((eI .i64 a10) ++ ((eI .i64 a11) ++ ([])))))))))))))
  exact repC_all (repC_glue h0 rfl (repC_glue h1 rfl (repC_glue h2 rfl (repC_glue h3 rfl (repC_glue h4 rfl (repC_glue h5 rfl (repC_glue h6 rfl (repC_glue h7 rfl (repC_glue h8 rfl (repC_glue h9 rfl (repC_glue h10 rfl (repC_glue h11 rfl (repC_end (hl.trans (by kernel_rfl)))))))))))))))⟩
theorem dc22 : Dc Tryz.prog 22 1 (eL 17 eShard) := dcSlice Tryz.underlying22 (by kernel_rfl) (ble _ _ rfl) dc45 teShard
theorem dc26 : Dc Tryz.prog 26 5 eCell := ⟨by kernel_rfl, fun enc W sp held fuel cs x hx => by
  obtain ⟨xs, n, _, _, hl, hxl, hf⟩ := DataW.trod_struct Tryz.underlying26 hx
  obtain ⟨a0, h0⟩ := field_some hxl hf (i := 0) (T := 22) (o := 0) rfl dc22
  obtain ⟨a1, h1⟩ := field_some hxl hf (i := 1) (T := 24) (o := 1) rfl dc24
  obtain ⟨a2, h2⟩ := field_some hxl hf (i := 2) (T := 3) (o := 4) rfl dc3
  refine ⟨⟨a0, a1, a2⟩, ?_⟩
  show RepC W cs ((eL 17 eShard a0) ++ ((eStamp a1) ++ ((eI .i64 a2) ++ ([]))))
  exact repC_all (repC_glue h0 rfl (repC_glue h1 rfl (repC_glue h2 rfl (repC_end (hl.trans (by kernel_rfl))))))⟩
theorem dc28 : Dc Tryz.prog 28 12 eRequest := ⟨by kernel_rfl, fun enc W sp held fuel cs x hx => by
  obtain ⟨xs, n, _, _, hl, hxl, hf⟩ := DataW.trod_struct Tryz.underlying28 hx
  obtain ⟨a0, h0⟩ := field_some hxl hf (i := 0) (T := 3) (o := 0) rfl dc3
  obtain ⟨a1, h1⟩ := field_some hxl hf (i := 1) (T := 3) (o := 1) rfl dc3
  obtain ⟨a2, h2⟩ := field_some hxl hf (i := 2) (T := 3) (o := 2) rfl dc3
  obtain ⟨a3, h3⟩ := field_some hxl hf (i := 3) (T := 9) (o := 3) rfl dc9
  obtain ⟨a4, h4⟩ := field_some hxl hf (i := 4) (T := 9) (o := 4) rfl dc9
  obtain ⟨a5, h5⟩ := field_some hxl hf (i := 5) (T := 4) (o := 5) rfl dc4
  obtain ⟨a6, h6⟩ := field_some hxl hf (i := 6) (T := 9) (o := 6) rfl dc9
  obtain ⟨a7, h7⟩ := field_some hxl hf (i := 7) (T := 24) (o := 7) rfl dc24
  obtain ⟨a8, h8⟩ := field_some hxl hf (i := 8) (T := 9) (o := 10) rfl dc9
  obtain ⟨a9, h9⟩ := field_some hxl hf (i := 9) (T := 3) (o := 11) rfl dc3
  refine ⟨⟨a0, a1, a2, a3, a4, a5, a6, a7, a8, a9⟩, ?_⟩
  show RepC W cs ((eI .i64 a0) ++ ((eI .i64 a1) ++ ((eI .i64 a2) ++ ((eS a3) ++ ((eS a4) ++ ((eB a5) ++ ((eS a6) ++ ((eStamp a7) ++ ((eS a8) ++ ((eI .i64 a9) ++ ([])))))))))))
  exact repC_all (repC_glue h0 rfl (repC_glue h1 rfl (repC_glue h2 rfl (repC_glue h3 rfl (repC_glue h4 rfl (repC_glue h5 rfl (repC_glue h6 rfl (repC_glue h7 rfl (repC_glue h8 rfl (repC_glue h9 rfl (repC_end (hl.trans (by kernel_rfl)))))))))))))⟩
theorem dc75 : Dc Tryz.prog 75 21 eAct := ⟨by kernel_rfl, fun enc W sp held fuel cs x hx => by
  obtain ⟨xs, n, _, _, hl, hxl, hf⟩ := DataW.trod_struct Tryz.underlying75 hx
  obtain ⟨a0, h0⟩ := field_some hxl hf (i := 0) (T := 3) (o := 0) rfl dc3
  obtain ⟨a1, h1⟩ := field_some hxl hf (i := 1) (T := 3) (o := 1) rfl dc3
  obtain ⟨a2, h2⟩ := field_some hxl hf (i := 2) (T := 3) (o := 2) rfl dc3
  obtain ⟨a3, h3⟩ := field_some hxl hf (i := 3) (T := 3) (o := 3) rfl dc3
  obtain ⟨a4, h4⟩ := field_some hxl hf (i := 4) (T := 3) (o := 4) rfl dc3
  obtain ⟨a5, h5⟩ := field_some hxl hf (i := 5) (T := 24) (o := 5) rfl dc24
  obtain ⟨a6, h6⟩ := field_some hxl hf (i := 6) (T := 9) (o := 8) rfl dc9
  obtain ⟨a7, h7⟩ := field_some hxl hf (i := 7) (T := 28) (o := 9) rfl dc28
  refine ⟨⟨a0, a1, a2, a3, a4, a5, a6, a7⟩, ?_⟩
  show RepC W cs ((eI .i64 a0) ++ ((eI .i64 a1) ++ ((eI .i64 a2) ++ ((eI .i64 a3) ++ ((eI .i64 a4) ++ ((eStamp a5) ++ ((eS a6) ++ ((eRequest a7) ++ ([])))))))))
  exact repC_all (repC_glue h0 rfl (repC_glue h1 rfl (repC_glue h2 rfl (repC_glue h3 rfl (repC_glue h4 rfl (repC_glue h5 rfl (repC_glue h6 rfl (repC_glue h7 rfl (repC_end (hl.trans (by kernel_rfl)))))))))))⟩
theorem dc71 : Dc Tryz.prog 71 1 (eL 21 eAct) := dcSlice Tryz.underlying71 (by kernel_rfl) (ble _ _ rfl) dc75 teAct
end Go.Proofs.Gd
set_option linter.unusedVariables false
set_option linter.unusedSimpArgs false
namespace Go.Proofs.Gd
open Go Go.Awp
theorem T153 (s : ByteArray) : Ev (fun k => F153 k s) (decR s, decN s) := by
  refine Ev.from 0 fun k => ?_
  show F153 k s = _
  unfold F153 F174
  rw [strEq_nil]
  by_cases h : s.size = 0
  · simp [h]
  · have h0 : inR 0 s.size = true := by rw [inR_iff]; omega
    rw [decide_eq_false h]
    simp only [h0, Bool.not_false, Bool.not_true, Bool.false_or, Bool.true_and, cond_true]
    cases ha : ltI (bt s 0) 128 with
    | true => simp only [cond_true]; rw [dec_ascii s (by omega) (ltI_iff.1 ha)]
    | false => rfl
theorem L163 (t : ByteArray) (n : Nat) (hn : n ≤ t.size) (h4 : n ≤ 4) : ∀ (m i : Nat) (r : Int), i + m = n → 0 ≤ r → r ≤ ((1000 * 100 ^ i : Nat) : Int) → Ev (fun k => F163_l1 t n k (r, i)) (contL t m i r)
  | 0, i, r, hi, h0, h1 => by
    refine Ev.from 1 fun k => ?_
    show F163_l1 t n (k + 1) (r, (i : Int)) = _
    rw [F163_l1, ltI_nat, decide_eq_false (by omega)]
    rfl
  | m + 1, i, r, hi, h0, h1 => by
    have hp : 100 ^ i ≤ 100 ^ 4 := Nat.pow_le_pow_right (by omega) (by omega)
    have hp1 : 1 ≤ 100 ^ i := Nat.one_le_pow _ _ (by omega)
    have hb := bt_range t (i : Int)
    refine Ev.succ (fun k => by rw [F163_l1]) ?_
    rw [ltI_nat, decide_eq_true (by omega), inR_mk (by omega : i < t.size), contL]
    simp only [Bool.not_true, Bool.or_true, cond_true]
    refine Ev.cond (fun hc => ?_) fun hc => ?_
    · rw [hc]; exact Ev.of fun _ => rfl
    · rw [hc]
      simp only [cond_false]
      rw [i64z (n := bt t (i : Int)) (by omega), i64z (n := 64 * r) (by omega), i64z (n := 64 * r + bt t (i : Int)) (by omega)]
      unfold bnd
      rw [i64z (n := (i : Int) + 1) (by omega)]
      have hc' : 128 ≤ bt t (i : Int) := by
        rw [Bool.or_eq_false_iff, ltI_false] at hc; omega
      show Ev (fun k => F163_l1 t n k (IntKind.wrap .i64 (64 * r + bt t (i : Int) - 128), (i : Int) + 1)) _
      rw [i64z (n := 64 * r + bt t (i : Int) - 128) (by omega)]
      exact L163 t n hn h4 m (i + 1) (64 * r + bt t (i : Int) - 128) (by omega) (by omega) (by rw [Nat.pow_succ]; omega)
theorem T163 (t : ByteArray) (h : 0 < t.size) : Ev (fun k => F163 k t) (letter t) := by
  rw [← letter_eq t h]
  have hb := bt_range t 0
  have h0 : inR 0 t.size = true := by rw [inR_iff]; omega
  have key : ∀ (r : Int) (n : Nat) (lo : Int), 0 ≤ r → r ≤ 1000 → n ≤ 4 → Ev (fun k => bif ((eqI (n : Int) 0) || (ltI (t.size : Int) n)) then (some ((-1), 1)) else ((F163_l1 t n k (r, 1)).bind fun t => t.go fun t4_1 => bif (((ltI t4_1 lo) || (ltI 1114111 t4_1)) || ((leI 55296 t4_1) && (ltI t4_1 57344))) then (some ((-1), 1)) else (some (t4_1, (n : Int))))) (tailL t r n lo) := by
    intro r n lo g0 g1 g2
    refine Ev.cond (fun hc => ?_) fun hc => ?_
    · unfold tailL
      rw [Bool.or_eq_true, eqI_iff, ltI_iff] at hc
      rw [if_pos (by omega)]
      exact Ev.of fun _ => rfl
    · rw [Bool.or_eq_false_iff, eqI_false, ltI_false] at hc
      unfold tailL
      rw [if_neg (by omega)]
      have := L163 t n (by omega) g2 (n - 1) 1 r (by omega) g0 (by omega)
      refine Ev.bind this ?_
      cases contL t (n - 1) 1 r with
      | ret x => exact Ev.of fun _ => rfl
      | out r =>
        refine Ev.of fun _ => ?_
        show (bif (((ltI r lo) || (ltI 1114111 r)) || ((leI 55296 r) && (ltI r 57344))) then some ((-1 : Int), (1 : Int)) else some (r, (n : Int))) = some (if r < lo ∨ 1114111 < r ∨ (55296 ≤ r ∧ r < 57344) then ((-1 : Int), (1 : Int)) else (r, (n : Int)))
        by_cases hv : r < lo ∨ 1114111 < r ∨ (55296 ≤ r ∧ r < 57344)
        · rw [if_pos hv]
          have : (((ltI r lo) || (ltI 1114111 r)) || ((leI 55296 r) && (ltI r 57344))) = true := by simp only [Bool.or_eq_true, Bool.and_eq_true, ltI_iff, leI_iff]; omega
          rw [this]; rfl
        · rw [if_neg hv]
          have : (((ltI r lo) || (ltI 1114111 r)) || ((leI 55296 r) && (ltI r 57344))) = false := by
            rw [Bool.eq_false_iff]
            intro h
            simp only [Bool.or_eq_true, Bool.and_eq_true, ltI_iff, leI_iff] at h
            omega
          rw [this]; rfl
  have hw : IntKind.wrap .i64 (bt t 0) = bt t 0 := i64z (by omega)
  unfold letter0
  have b2 : ∀ {a b c : Int}, a ≤ b → b < c → (leI a b && ltI b c) = true := fun h1 h2 => by rw [leI_iff.2 h1, ltI_iff.2 h2]; rfl
  have b3 : ∀ {a b c : Int}, ¬ (a ≤ b ∧ b < c) → (leI a b && ltI b c) = false := fun h => by
    rw [Bool.eq_false_iff]; intro hh; rw [Bool.and_eq_true, leI_iff, ltI_iff] at hh; exact h hh
  by_cases h1 : bt t 0 < 128
  · rw [if_pos h1]
    refine Ev.of fun k => ?_
    unfold F163
    rw [h0, hw, ltI_iff.2 h1]; rfl
  rw [if_neg h1]
  have hf : ltI (bt t 0) 128 = false := ltI_false.2 (by omega)
  by_cases h2 : 194 ≤ bt t 0 ∧ bt t 0 < 224
  · rw [if_pos h2]
    refine Ev.congr (fun k => ?_) (key (bt t 0 - 192) 2 128 (by omega) (by omega) (by omega))
    unfold F163
    rw [h0, hw, hf, b2 h2.1 h2.2, i64z (by omega)]; rfl
  rw [if_neg h2]
  by_cases h3 : 224 ≤ bt t 0 ∧ bt t 0 < 240
  · rw [if_pos h3]
    refine Ev.congr (fun k => ?_) (key (bt t 0 - 224) 3 2048 (by omega) (by omega) (by omega))
    unfold F163
    rw [h0, hw, hf, b3 h2, b2 h3.1 h3.2, i64z (n := bt t 0 - 224) (by omega)]; rfl
  rw [if_neg h3]
  by_cases h4 : 240 ≤ bt t 0 ∧ bt t 0 < 245
  · rw [if_pos h4]
    refine Ev.congr (fun k => ?_) (key (bt t 0 - 240) 4 65536 (by omega) (by omega) (by omega))
    unfold F163
    rw [h0, hw, hf, b3 h2, b3 h3, b2 h4.1 h4.2, i64z (n := bt t 0 - 240) (by omega)]; rfl
  rw [if_neg h4]
  refine Ev.congr (fun k => ?_) (key (bt t 0) 0 0 (by omega) (by omega) (by omega))
  unfold F163
  rw [h0, hw, hf, b3 h2, b3 h3, b3 h4]; rfl
theorem T122_l1 (s : ByteArray) : ∀ (n i : Nat), s.size - i ≤ n → Ev (fun k => F122_l1 s k i) (if goodFrom s n i = true then .out () else .ret false)
  | 0, i, hn => by
    refine Ev.from 1 fun k => ?_
    show F122_l1 s (k + 1) i = _
    rw [F122_l1, nxc, decide_eq_false (by omega)]
    rfl
  | n + 1, i, hn => by
    refine Ev.succ (fun k => by rw [F122_l1]) ?_
    rw [goodFrom, nxc]
    by_cases h : i < s.size
    · rw [decide_eq_true h, cutOK_mk (by omega) (by omega) (by omega), Int.toNat_natCast, Int.toNat_natCast, if_pos h]
      refine Ev.bind (T153 _) ?_
      rw [(decR_ext s i h).1, (decR_ext s i h).2]
      show Ev (fun k => Option.bind (some _) _) _
      refine Ev.bind (Ev.of fun _ => rfl : Ev (fun k => F154 k (nxr s i) _) _) ?_
      unfold nxr
      rw [plain_dec s i h]
      cases hp : plainD (Utf8.decode s i) with
      | false => exact Ev.of fun _ => rfl
      | true => exact T122_l1 s n (nxw s i) (by have := dec_pos s i; unfold nxw; omega)
    · rw [decide_eq_false h, if_neg h]
      exact Ev.of fun _ => rfl
theorem T122 (s : ByteArray) : Ev (fun k => F122 k s) (keyR s) := by
  refine Ev.bind (T122_l1 s s.size 0 (by omega)) ?_
  unfold keyR
  cases goodFrom s s.size 0 with
  | false => exact Ev.of fun _ => rfl
  | true =>
    refine Ev.of fun _ => ?_
    show some ((leI 1 (s.size : Int)) && (leI (s.size : Int) 16)) = _
    rw [show (1 : Int) = ((1 : Nat) : Int) from rfl, show (16 : Int) = ((16 : Nat) : Int) from rfl, leI_nat, leI_nat, ← Bool.decide_and]
    rfl
theorem optv {α : Type} [Inhabited α] {c : Bool} {a : Nat → Option α} {v : α} (h : c = true → Ev a v) : Ev (fun k => bif c then a k else some default) (bif c then v else default) := by
  cases c with
  | true => exact h rfl
  | false => exact Ev.of fun _ => rfl
def oneB (n : Int) : Bool := leI 1 n && leI n 1099511627776
def stR (s : Stamp) : Bool := leI 0 s.mWall && (leI s.mWall 1099511627776 && (leI 0 s.mTick && (leI s.mTick 1048576 && (leI 0 s.mNode && leI s.mNode 255))))
def rqR (r : Request) : Bool :=
  (oneB r.mClient && oneB r.mReq) && !ltI r.mKind 1 && !ltI 6 r.mKind && !ltI 16 (r.mValue.size : Int) && !ltI 16 (r.mOld.size : Int) && !ltI r.mLimit 0 && !ltI 8 r.mLimit && stR r.mAt && (strEq r.mHi ⟨#[]⟩ || keyR r.mHi) &&
    (bif eqI r.mKind 6 then (strEq r.mKey ⟨#[]⟩ || keyR r.mKey) && leI 1 r.mLimit else keyR r.mKey)
theorem T57 (n : Int) (l : List Int) (hl : l.length ≤ 1000) : Ev (fun k => F57 k n l) (!(l.any fun x => ltI x n || ltI 1099511627776 x)) :=
  Ev.bind (any_ev (idx_ev (f := F152_121_l1 l n) (q := fun x => ltI x n || ltI 1099511627776 x) (p := fun k x => F121 k x n) (by omega) (fun _ => rfl) (fun _ _ => rfl) fun x _ => Ev.of fun _ => rfl)) (Ev.of fun _ => rfl)
theorem oneB_eq (x : Int) : (ltI x 1 || ltI 1099511627776 x) = !oneB x := by
  rw [Bool.eq_iff_iff]
  simp only [oneB, Bool.or_eq_true, Bool.not_eq_true', Bool.and_eq_false_iff, ltI_iff, leI_false]
theorem T57_2 (a b : Int) : Ev (fun k => F57 k 1 [a, b]) (oneB a && oneB b) := by
  have := T57 1 [a, b] (by simp)
  simp only [List.any_cons, List.any_nil, oneB_eq] at this
  cases h1 : oneB a <;> cases h2 : oneB b <;> simpa [h1, h2] using this
theorem T36 (s : Stamp) : Ev (fun k => F36 k s) (stR s) := by
  refine Ev.bind (Ev.of fun _ => rfl : Ev (fun k => F100 k _ _) _) ?_
  refine Ev.bind (optv fun _ => (Ev.of fun _ => rfl : Ev (fun k => F100 k _ _) _)) ?_
  refine Ev.bind (optv fun _ => (Ev.of fun _ => rfl : Ev (fun k => F100 k _ _) _)) ?_
  refine Ev.of fun _ => ?_
  unfold stR
  congr 1
  generalize leI 0 s.mWall = a; generalize leI s.mWall _ = b; generalize leI 0 s.mTick = c; generalize leI s.mTick _ = d; generalize leI 0 s.mNode = e; generalize leI s.mNode _ = f
  revert a b c d e f; decide
theorem T58 (r : Request) : Ev (fun k => F58 k r) (rqR r) := by
  refine Ev.bind (T57_2 _ _) ?_
  refine Ev.bind (optv fun _ => T36 _) ?_
  refine Ev.bind (optv fun _ => T122 _) ?_
  unfold rqR
  generalize (oneB r.mClient && oneB r.mReq) = a1; generalize ltI r.mKind 1 = a2; generalize ltI 6 r.mKind = a3; generalize ltI 16 (r.mValue.size : Int) = a4; generalize ltI 16 (r.mOld.size : Int) = a5
  generalize ltI r.mLimit 0 = a6; generalize ltI 8 r.mLimit = a7; generalize stR r.mAt = a8; generalize strEq r.mHi ⟨#[]⟩ = a9; generalize keyR r.mHi = a10
  have hk := T122 r.mKey
  generalize eqI r.mKind 6 = b1; generalize strEq r.mKey ⟨#[]⟩ = b2; generalize leI 1 r.mLimit = b3
  refine Ev.cond (fun hc => Ev.of fun _ => ?_) fun hc => Ev.cond (fun h6 => ?_) fun h6 => Ev.bind hk (Ev.of fun _ => ?_)
  · congr 1
    generalize keyR r.mKey = b4
    revert hc; revert a1 a2 a3 a4 a5 a6 a7 a8 a9 a10 b1 b2 b3 b4
    decide +kernel
  · refine Ev.bind (optv fun _ => hk) (Ev.of fun _ => ?_)
    congr 1
    clear hk
    generalize keyR r.mKey = b4
    subst h6
    revert hc; revert a1 a2 a3 a4 a5 a6 a7 a8 a9 a10 b2 b3 b4
    decide +kernel
  · congr 1
    clear hk
    generalize keyR r.mKey = b4
    subst h6
    revert hc; revert a1 a2 a3 a4 a5 a6 a7 a8 a9 a10 b2 b3 b4
    decide +kernel
theorem eqI_nil (a : ByteArray) : eqI (a.size : Int) 0 = strEq a ⟨#[]⟩ := by
  rw [strEq_nil, Bool.eq_iff_iff, eqI_iff]
  simp
theorem leI_lt (x : Int) : leI 0 x = !ltI x 0 := by rw [Bool.eq_iff_iff, Bool.not_eq_true', leI_iff, ltI_false]
theorem awake (k : Nat) : F15 (k + 40) = some true := by kernel_rfl
end Go.Proofs.Gd
set_option linter.unusedVariables false
set_option linter.unusedSimpArgs false
namespace Go.Proofs.Gd
open Go Go.Awp
def cmpI (a b : Int) : Int := bif ltI a b then -1 else bif ltI b a then 1 else 0
def or3 (a b c : Int) : Int := bif !eqI a 0 then a else bif !eqI b 0 then b else bif !eqI c 0 then c else 0
def cmpS (s t : Stamp) : Int := or3 (cmpI s.mWall t.mWall) (cmpI s.mTick t.mTick) (cmpI s.mNode t.mNode)
def laterS (s t : Stamp) : Stamp := bif ltI (cmpS s t) 0 then t else s
theorem eqI_self (x : Int) : eqI x x = true := eqI_iff.2 rfl
theorem T104 (a b : Int) : Ev (fun k => F104 k a b) (cmpI a b) := by
  refine Ev.of fun k => ?_
  show (some (!eqI a a)).bind (fun t8 => (some (!eqI b b)).bind fun t10 => _) = _
  rw [eqI_self, eqI_self]
  unfold cmpI
  show (bif ltI a b then some (-1) else bif ltI b a then some 1 else some 0) = _
  cases ltI a b <;> cases ltI b a <;> rfl
theorem T103 (a b c : Int) : Ev (fun k => F103 k [a, b, c]) (or3 a b c) := by
  refine Ev.from 4 fun k => ?_
  unfold or3
  show F103 (k + 4) [a, b, c] = _
  unfold F103
  rw [F103_l1, F103_l1, F103_l1, F103_l1]
  show Option.bind (bif !eqI a 0 then some (LR.ret a) else bif !eqI b 0 then some (LR.ret b) else bif !eqI c 0 then some (LR.ret c) else some (LR.out ())) _ = _
  cases !eqI a 0 <;> cases !eqI b 0 <;> cases !eqI c 0 <;> rfl
theorem T42 (s t : Stamp) : Ev (fun k => F42 k s t) (cmpS s t) :=
  Ev.bind (T104 _ _) (Ev.bind (T104 _ _) (Ev.bind (T104 _ _) (Ev.bind (T103 _ _ _) (Ev.of fun _ => rfl))))
theorem T37 (s t : Stamp) : Ev (fun k => F37 k s t) (laterS s t) := by
  refine Ev.bind (T42 s t) ?_
  unfold laterS
  cases ltI (cmpS s t) 0 <;> exact Ev.of fun _ => rfl
structure SmS (s : Shard) : Prop where
  entries : s.mEntries.length ≤ 80
  chains : ∀ e ∈ s.mEntries, e.mChain.length ≤ 80
  done : s.mDone.length ≤ 40
  items : ∀ d ∈ s.mDone, d.mAnswer.mItems.length ≤ 100
structure SmC (c : Cell) : Prop where
  shards : c.mShards.length ≤ 12
  each : ∀ s ∈ c.mShards, SmS s
theorem strEq_self (a : ByteArray) : strEq a a = true := strEq_true.2 rfl
theorem T91 (l : List Entry) : EvP (fun k => F91 k l) (fun b => b = true → l.length ≤ 80 ∧ ∀ e ∈ l, e.mChain.length ≤ 80) := by
  refine EvP.cond (fun _ => EvP.some fun h => by cases h) fun hc => ?_
  rw [ltI_false] at hc
  refine EvP.go ((downTo (M := fun i => EvP (fun k => F91_l1 l k (i : Int)) fun t => t = .ret false ∨ (t = .out () ∧ ∀ j (hj : j < l.length), i ≤ j → l[j].mChain.length ≤ 80)) l.length ?_ fun i hi ih => ?_).mono fun t ht => ?_)
  · refine EvP.succ (fun k => by rw [F91_l1]) ?_
    rw [ltI_nat, decide_eq_false (Nat.lt_irrefl _)]
    exact EvP.some (.inr ⟨rfl, fun j hj h => by omega⟩)
  · refine EvP.succ (fun k => by rw [F91_l1]) ?_
    rw [ltI_nat, decide_eq_true hi, inR_mk hi, rd_nat _ _ hi, Bool.or_true]
    simp only [cond_true]
    refine EvP.cond (fun _ => EvP.some (.inl rfl)) fun hcc => ?_
    rw [Bool.or_eq_false_iff, ltI_false] at hcc
    rw [i64z (by omega)]
    refine ih.mono fun t ht => ht.imp id fun ⟨h1, h2⟩ => ⟨h1, fun j hj hij => ?_⟩
    by_cases e : j = i
    · subst e; omega
    · exact h2 j hj (by omega)
  · rcases ht with rfl | ⟨rfl, h⟩
    · exact fun h => by cases h
    · refine EvP.some fun _ => ⟨by omega, fun e he => ?_⟩
      obtain ⟨j, hj, rfl⟩ := List.mem_iff_getElem.1 he
      exact h j hj (by omega)
theorem T92 (l : List Done) : EvP (fun k => F92 k l) (fun b => b = true → l.length ≤ 40 ∧ ∀ e ∈ l, e.mAnswer.mItems.length ≤ 100) := by
  refine EvP.cond (fun _ => EvP.some fun h => by cases h) fun hc => ?_
  rw [ltI_false] at hc
  refine EvP.go ((downTo (M := fun i => EvP (fun k => F92_l1 l k (i : Int)) fun t => t = .ret false ∨ (t = .out () ∧ ∀ j (hj : j < l.length), i ≤ j → l[j].mAnswer.mItems.length ≤ 100)) l.length ?_ fun i hi ih => ?_).mono fun t ht => ?_)
  · refine EvP.succ (fun k => by rw [F92_l1]) ?_
    rw [ltI_nat, decide_eq_false (Nat.lt_irrefl _)]
    exact EvP.some (.inr ⟨rfl, fun j hj h => by omega⟩)
  · refine EvP.succ (fun k => by rw [F92_l1]) ?_
    rw [ltI_nat, decide_eq_true hi, inR_mk hi, rd_nat _ _ hi]
    simp only [cond_true]
    refine EvP.cond (fun _ => EvP.some (.inl rfl)) fun hcc => ?_
    rw [ltI_false] at hcc
    rw [i64z (by omega)]
    refine ih.mono fun t ht => ht.imp id fun ⟨h1, h2⟩ => ⟨h1, fun j hj hij => ?_⟩
    by_cases e : j = i
    · subst e; omega
    · exact h2 j hj (by omega)
  · rcases ht with rfl | ⟨rfl, h⟩
    · exact fun h => by cases h
    · refine EvP.some fun _ => ⟨by omega, fun e he => ?_⟩
      obtain ⟨j, hj, rfl⟩ := List.mem_iff_getElem.1 he
      exact h j hj (by omega)
theorem T27 (s : Shard) : EvP (fun k => F27 k s) (fun b => b = true → SmS s) := by
  refine EvP.bind ((T91 _).mono fun t5 h5 => EvP.bind ((EvP.opt (P := fun b => b = true → s.mDone.length ≤ 40 ∧ ∀ e ∈ s.mDone, e.mAnswer.mItems.length ≤ 100) (fun _ => T92 _) fun _ => fun h => by cases h).mono fun t9 h9 => EvP.some fun h => ?_))
  simp only [Bool.and_eq_true] at h
  exact ⟨(h5 h.1.1.1).1, (h5 h.1.1.1).2, (h9 h.1.1.2).1, (h9 h.1.1.2).2⟩
theorem T14 (c : Cell) : EvP (fun k => F14 k c) (fun b => b = true → SmC c) := by
  refine EvP.cond (fun _ => EvP.some fun h => by cases h) fun hc => ?_
  rw [ltI_false] at hc
  refine EvP.go ((downTo (M := fun i => EvP (fun k => F14_l1 c k (i : Int)) fun t => t = .ret false ∨ (t = .out () ∧ ∀ j (hj : j < c.mShards.length), i ≤ j → SmS c.mShards[j])) c.mShards.length ?_ fun i hi ih => ?_).mono fun t ht => ?_)
  · refine EvP.succ (fun k => by rw [F14_l1]) ?_
    rw [ltI_nat, decide_eq_false (Nat.lt_irrefl _)]
    exact EvP.some (.inr ⟨rfl, fun j hj h => by omega⟩)
  · refine EvP.succ (fun k => by rw [F14_l1]) ?_
    rw [ltI_nat, decide_eq_true hi, inR_mk hi, rd_nat _ _ hi]
    refine EvP.bind ((T27 _).mono fun b hb => EvP.cond (fun _ => EvP.some (.inl rfl)) fun hcc => ?_)
    rw [i64z (by omega)]
    refine ih.mono fun t ht => ht.imp id fun ⟨h1, h2⟩ => ⟨h1, fun j hj hij => ?_⟩
    by_cases e : j = i
    · subst e; exact hb (by simpa using hcc)
    · exact h2 j hj (by omega)
  · rcases ht with rfl | ⟨rfl, h⟩
    · exact fun h => by cases h
    · refine EvP.some fun _ => ⟨by omega, fun e he => ?_⟩
      obtain ⟨j, hj, rfl⟩ := List.mem_iff_getElem.1 he
      exact h j hj (by omega)
end Go.Proofs.Gd
set_option linter.unusedVariables false
set_option linter.unusedSimpArgs false
namespace Go.Proofs.Gd
open Go Go.Awp
theorem dec_pair (s : ByteArray) (h : 0 < s.size) : decR s = ((Utf8.decode s 0).1 : Nat) ∧ decN s = ((Utf8.decode s 0).2 : Nat) := by
  have := decR_ext s 0 h
  rwa [ext_zero] at this
/-- What key.Compare's loop leaves. -/
def endsK (a b : ByteArray) (t : LR Int (ByteArray × ByteArray)) : Prop := match t with
  | .ret r => r = cmpK a b
  | .out (x, y) => cmpK x y = cmpK a b ∧ (x.size = 0 ∨ y.size = 0)
theorem V124_l1 (a0 b0 : ByteArray) : ∀ (n : Nat) (a b : ByteArray), a.size ≤ n → cmpK a b = cmpK a0 b0 → EvP (fun k => F124_l1 k (a, b)) (endsK a0 b0)
  | n, a, b, hn, he => by
    refine EvP.succ (fun k => by rw [F124_l1]) (EvP.cond (fun hc => ?_) fun hc => ?_)
    · rw [strEq_nil, strEq_nil] at hc
      simp only [Bool.and_eq_true, Bool.not_eq_true', decide_eq_false_iff_not] at hc
      have ha : 0 < a.size := by omega
      have hb : 0 < b.size := by omega
      refine EvP.bind ((T153 _).evP.mono fun r hr => ?_)
      subst hr
      refine EvP.bind ((T153 _).evP.mono fun r hr => ?_)
      subst hr
      show EvP (fun k => bif ltI (decR a) (decR b) then _ else _) _
      rw [(dec_pair a ha).1, (dec_pair b hb).1, (dec_pair a ha).2, (dec_pair b hb).2, ltI_nat, ltI_nat]
      have hk : cmpK a b = if (Utf8.decode a 0).1 < (Utf8.decode b 0).1 then -1 else if (Utf8.decode b 0).1 < (Utf8.decode a 0).1 then 1 else cmpK (a.extract (Utf8.decode a 0).2 a.size) (b.extract (Utf8.decode b 0).2 b.size) := by
        unfold cmpK
        rw [runes_cons a ha, runes_cons b hb, cmpL]
      refine EvP.cond (fun h1 => EvP.some ?_) fun h1 => EvP.cond (fun h2 => EvP.some ?_) fun h2 => ?_
      · rw [if_pos (of_decide_eq_true h1)] at hk
        show (-1 : Int) = _
        rw [← he, hk]
      · rw [if_neg (of_decide_eq_false h1), if_pos (of_decide_eq_true h2)] at hk
        show (1 : Int) = _
        rw [← he, hk]
      · rw [if_neg (of_decide_eq_false h1), if_neg (of_decide_eq_false h2)] at hk
        have d1 := dec_le a 0 ha
        have d2 := dec_le b 0 hb
        have d3 := dec_pos a 0
        refine EvP.guard (cutOK_mk (by omega) (by omega) (by omega)) (EvP.guard (cutOK_mk (by omega) (by omega) (by omega)) ?_)
        rw [Int.toNat_natCast, Int.toNat_natCast, Int.toNat_natCast, Int.toNat_natCast]
        cases n with
        | zero => omega
        | succ n => exact V124_l1 a0 b0 n _ _ (by rw [size_extract']; omega) (by rw [← hk]; exact he)
    · rw [strEq_nil, strEq_nil] at hc
      simp only [Bool.and_eq_false_iff, Bool.not_eq_false', decide_eq_true_eq] at hc
      refine EvP.some ?_
      show cmpK a b = cmpK a0 b0 ∧ (a.size = 0 ∨ b.size = 0)
      exact ⟨he, hc⟩
/-- key.Compare. -/
theorem V124 (a b : ByteArray) : Ev (fun k => F124 k a b) (cmpK a b) := by
  refine EvP.ev (EvP.go ((V124_l1 a b _ a b (Nat.le_refl _) rfl).mono fun t ht => ?_))
  cases t with
  | ret r => exact ht
  | out v =>
    obtain ⟨x, y⟩ := v
    obtain ⟨h1, h2⟩ := ht
    show EvP (fun k => bif !strEq x ⟨#[]⟩ then some 1 else bif !strEq y ⟨#[]⟩ then some (-1) else some 0) _
    rw [strEq_nil, strEq_nil]
    refine EvP.cond (fun hx => EvP.some ?_) fun hx => EvP.cond (fun hy => EvP.some ?_) fun hy => EvP.some ?_
    · rw [Bool.not_eq_true', decide_eq_false_iff_not] at hx
      have hy : y.size = 0 := by omega
      rw [← h1, cmpK, runes_nil y hy, runes_cons x (by omega), cmpL]
    · rw [Bool.not_eq_true', decide_eq_false_iff_not] at hy
      rw [Bool.not_eq_false', decide_eq_true_eq] at hx
      rw [← h1, cmpK, runes_nil x hx, runes_cons y (by omega), cmpL]
    · rw [Bool.not_eq_false', decide_eq_true_eq] at hx hy
      rw [← h1, cmpK, runes_nil x hx, runes_nil y hy, cmpL]
def ofN (l : List Nat) : List Int := l.map Int.ofNat
theorem ofN_len (l : List Nat) : (ofN l).length = l.length := List.length_map _
theorem ofN_rd (l : List Nat) (i : Nat) (h : i < l.length) : rd (ofN l) (i : Int) = ((l[i] : Nat) : Int) := by
  rw [rd_nat _ _ (by rw [ofN_len]; exact h)]
  simp [ofN]
/-- The plain decoder's list. -/
theorem letter_rune (s : ByteArray) (h : 0 < s.size) : (bif ltI (letter s).1 0 then (65533 : Int) else (letter s).1) = ((Utf8.decode s 0).1 : Nat) ∧ (letter s).2 = ((Utf8.decode s 0).2 : Nat) := by
  unfold letter
  have g0 := get_bt s 0
  have r0 := UInt8.toNat_lt (s.get! 0)
  have g0' : bt s 0 = ((s.get! 0).toNat : Int) := g0.symm
  by_cases hb : (Utf8.decode s 0).2 = 1 ∧ 128 ≤ bt s 0
  · rw [if_pos hb]
    have h1 : (Utf8.decode s 0).1 = 65533 := by
      rw [g0'] at hb
      rw [Lib.decode_at] at hb ⊢
      exact decodeN_bad _ _ _ _ _ hb.1 (by omega)
    rw [h1, hb.1]
    exact ⟨rfl, rfl⟩
  · rw [if_neg hb]
    refine ⟨?_, rfl⟩
    rw [show ltI (((Utf8.decode s 0).1 : Nat) : Int) 0 = false by rw [ltI_false]; omega]; rfl
theorem V151_l1 : ∀ (n : Nat) (s : ByteArray) (l : List Int), s.size ≤ n → (l.length + s.size) * 8 ≤ 140737488355328 → Ev (fun k => F151_l1 k (s, l)) (l ++ ofN (runes s))
  | n, s, l, hn, hl => by
    refine Ev.succ (fun k => by rw [F151_l1]) (Ev.cond (fun hc => ?_) fun hc => ?_)
    · rw [ltI_iff] at hc
      have h0 : 0 < s.size := by omega
      obtain ⟨q1, q2⟩ := letter_rune s h0
      have d1 := dec_le s 0 h0
      have d3 := dec_pos s 0
      have hr := runes_cons s h0
      refine Ev.bind (T163 s h0) ?_
      generalize (Utf8.decode s 0).2 = w at q2 d1 d3 hr
      generalize (Utf8.decode s 0).1 = c at q1 hr
      have hl2 : ofN (runes s) = (c : Int) :: ofN (runes (s.extract w s.size)) := by rw [hr]; rfl
      rw [hl2]
      have hz : (s.extract w s.size).size = s.size - w := by rw [size_extract']; omega
      cases n with
      | zero => omega
      | succ n =>
        have next := V151_l1 n (s.extract w s.size) (l ++ [(c : Int)]) (by omega) (by rw [List.length_append, List.length_singleton]; omega)
        rw [List.append_assoc] at next
        have ha : ∀ x : Int, appOK 8 l.length [x].length = true := fun x => appOK_mk (by rw [List.length_singleton]; omega) (by rw [List.length_singleton]; omega)
        have hc' : cutOK (w : Int) (s.size : Int) s.size = true := cutOK_mk (by omega) (by omega) (by omega)
        generalize letter s = L at q1 q2 ⊢
        obtain ⟨a, b⟩ := L
        simp only at q1 q2
        subst q2
        refine Ev.congr (g := fun k => F151_l1 k (s.extract w s.size, l ++ [(c : Int)])) (fun k => ?_) next
        cases hb : ltI a 0 with
        | true =>
          rw [hb, cond_true] at q1
          simp only [hb, cond_true]
          rw [ha, hc', Int.toNat_natCast, Int.toNat_natCast, q1]; rfl
        | false =>
          rw [hb, cond_false] at q1
          subst q1
          simp only [hb, cond_false]
          rw [ha, hc', Int.toNat_natCast, Int.toNat_natCast]; rfl
    · rw [ltI_false] at hc
      rw [runes_nil s (by omega)]
      exact Ev.of fun _ => by simp [ofN]
theorem V151 (s : ByteArray) (h : s.size ≤ 1000000000000) : Ev (fun k => F151 k s) (ofN (runes s)) :=
  Ev.bind (V151_l1 s.size s [] (Nat.le_refl _) (by simp; omega)) (Ev.of fun _ => by simp)
theorem runes_len (s : ByteArray) : (runes s).length ≤ s.size := by
  have : ∀ n i, (runesFrom s n i).length ≤ s.size - i := fun n => by
    induction n with
    | zero => intro i; simp [runesFrom]
    | succ n ih =>
      intro i
      rw [runesFrom]
      split
      · have := ih (i + (Utf8.decode s i).2)
        have := dec_pos s i
        rw [List.length_cons]; omega
      · simp
  have := this s.size 0
  unfold runes; omega
/-- The document's Compare. -/
theorem V119 (a b : ByteArray) (ha : a.size ≤ 1000000000000) (hb : b.size ≤ 1000000000000) : Ev (fun k => F119 k a b) (cmpK a b) := by
  refine Ev.bind (V151 a ha) (Ev.bind (V151 b hb) ?_)
  have la := runes_len a
  have lb := runes_len b
  unfold cmpK
  generalize runes a = x at la ⊢
  generalize runes b = y at lb ⊢
  have key : ∀ (m i : Nat), x.length - i ≤ m → i ≤ x.length → i ≤ y.length → Ev (fun k => (F119_l1 (ofN x) (ofN y) k (i : Int)).bind fun t => t.go fun _ => bif (ltI ((ofN x).length : Int) ((ofN y).length : Int)) then (some (-1)) else (bif (ltI ((ofN y).length : Int) ((ofN x).length : Int)) then (some 1) else (some 0))) (cmpL (x.drop i) (y.drop i)) := fun m => by
    induction m with
    | zero =>
      intro i hi h1 h2
      refine Ev.from 1 fun k => ?_
      show Option.bind (F119_l1 (ofN x) (ofN y) (k + 1) (i : Int)) _ = _
      rw [F119_l1, ofN_len, ofN_len, ltI_nat, decide_eq_false (by omega), Bool.false_and]
      show (bif ltI (x.length : Int) (y.length : Int) then some (-1) else bif ltI (y.length : Int) (x.length : Int) then some 1 else some 0) = _
      rw [List.drop_of_length_le (by omega : x.length ≤ i), ltI_nat, ltI_nat]
      by_cases hy : y.length = i
      · rw [List.drop_of_length_le (by omega : y.length ≤ i), decide_eq_false (by omega), decide_eq_false (by omega)]; rfl
      · rw [List.drop_eq_getElem_cons (by omega : i < y.length), decide_eq_true (by omega)]; rfl
    | succ m ih =>
      intro i hi h1 h2
      by_cases hx : i < x.length
      · by_cases hy : i < y.length
        · refine Ev.succ (g := fun k => (bif ltI ((x[i] : Nat) : Int) ((y[i] : Nat) : Int) then some (LR.ret (-1)) else bif ltI ((y[i] : Nat) : Int) ((x[i] : Nat) : Int) then some (LR.ret 1) else F119_l1 (ofN x) (ofN y) k ((i + 1 : Nat) : Int)).bind fun t => t.go fun _ => bif (ltI ((ofN x).length : Int) ((ofN y).length : Int)) then (some (-1)) else (bif (ltI ((ofN y).length : Int) ((ofN x).length : Int)) then (some 1) else (some 0))) (fun k => ?_) ?_
          · rw [F119_l1, ofN_rd _ _ hx, ofN_rd _ _ hy, ofN_len, ofN_len, ltI_nat, ltI_nat, decide_eq_true hx, decide_eq_true hy, inR_mk hx, inR_mk hy, i64z (by omega)]; rfl
          · rw [List.drop_eq_getElem_cons hx, List.drop_eq_getElem_cons hy, cmpL, ltI_nat, ltI_nat]
            have := ih (i + 1) (by omega) (by omega) (by omega)
            by_cases c1 : x[i] < y[i]
            · rw [if_pos c1, decide_eq_true c1]; exact Ev.of fun _ => rfl
            · rw [if_neg c1, decide_eq_false c1]
              by_cases c2 : y[i] < x[i]
              · rw [if_pos c2, decide_eq_true c2]; exact Ev.of fun _ => rfl
              · rw [if_neg c2, decide_eq_false c2]; exact this
        · refine Ev.from 1 fun k => ?_
          show Option.bind (F119_l1 (ofN x) (ofN y) (k + 1) (i : Int)) _ = _
          rw [F119_l1, ofN_len, ofN_len, ltI_nat, ltI_nat, decide_eq_true hx, decide_eq_false hy]
          show (bif ltI (x.length : Int) (y.length : Int) then some (-1) else bif ltI (y.length : Int) (x.length : Int) then some 1 else some 0) = _
          rw [List.drop_of_length_le (by omega : y.length ≤ i), List.drop_eq_getElem_cons hx, ltI_nat, ltI_nat, decide_eq_false (by omega), decide_eq_true (by omega)]; rfl
      · exact ih i (by omega) h1 h2
  exact key x.length 0 (by omega) (by omega) (by omega)
theorem cmpI_lt (a b : Int) : cmpI a b = if a < b then -1 else if b < a then 1 else 0 := by
  unfold cmpI
  by_cases h1 : a < b
  · rw [if_pos h1, ltI_iff.2 h1]; rfl
  · rw [if_neg h1, ltI_false.2 (by omega)]
    by_cases h2 : b < a
    · rw [if_pos h2, ltI_iff.2 h2]; rfl
    · rw [if_neg h2, ltI_false.2 (by omega)]; rfl
/-- Earlier. -/
def befS (s t : Stamp) : Prop := s.mWall < t.mWall ∨ (s.mWall = t.mWall ∧ (s.mTick < t.mTick ∨ (s.mTick = t.mTick ∧ s.mNode < t.mNode)))
theorem cmpS_lt (s t : Stamp) : cmpS s t < 0 ↔ befS s t := by
  unfold cmpS or3 befS
  rw [cmpI_lt, cmpI_lt, cmpI_lt]
  repeat' split
  all_goals (simp [eqI]; try omega)
end Go.Proofs.Gd
set_option linter.unusedVariables false
set_option linter.unusedSimpArgs false
namespace Go.Proofs.Gd
open Go Go.Awp
def noB (n : Int) : Bool := leI 0 n && leI n 1099511627776
def spR (s : Span) : Bool := (strEq s.mLo ⟨#[]⟩ || keyR s.mLo) && (strEq s.mHi ⟨#[]⟩ || (keyR s.mHi && ltI (cmpK s.mLo s.mHi) 0))
theorem V80 (s : Span) : Ev (fun k => F80 k s) (spR s) := by
  refine Ev.bind (optv fun _ => T122 _) ?_
  unfold spR
  generalize strEq s.mLo ⟨#[]⟩ = a; generalize keyR s.mLo = b
  refine Ev.cond (fun hc => Ev.of fun _ => ?_) fun hc => Ev.bind (optv fun _ => T122 _) (Ev.bind (optv fun _ => V124 _ _) (Ev.of fun _ => ?_))
  · congr 1
    generalize (strEq s.mHi ⟨#[]⟩ || (keyR s.mHi && ltI (cmpK s.mLo s.mHi) 0)) = c
    revert a b c; decide
  · congr 1
    cases strEq s.mHi ⟨#[]⟩ <;> cases keyR s.mHi <;> revert hc <;> revert a b <;> simp only [Bool.not_true, Bool.not_false, Bool.true_and, Bool.false_and, Bool.true_or, Bool.false_or, cond_true, cond_false, Bool.and_true, Bool.and_false] <;> first | decide | (generalize ltI (cmpK s.mLo s.mHi) 0 = c; revert c; decide)
def hasR (s : Span) (x : ByteArray) : Bool := spR s && keyR x && leI (cmpK s.mLo x) 0 && (strEq s.mHi ⟨#[]⟩ || ltI (cmpK x s.mHi) 0)
theorem V61 (s : Span) (x : ByteArray) : Ev (fun k => F61 k s x) (hasR s x) := by
  refine Ev.bind (V80 _) (Ev.bind (optv fun _ => T122 _) (Ev.bind (optv fun _ => V124 _ _) (Ev.bind (optv fun _ => V124 _ _) (Ev.of fun _ => ?_))))
  congr 1
  unfold hasR
  cases spR s <;> cases keyR x <;> simp only [Bool.true_and, Bool.false_and, cond_true, cond_false, Bool.and_true, Bool.and_false]
  cases leI (cmpK s.mLo x) 0 <;> cases strEq s.mHi ⟨#[]⟩ <;> simp
theorem cmpK_flip (a b : ByteArray) : leI 0 (cmpK a b) = leI (cmpK b a) 0 := by
  unfold cmpK
  rw [cmpL_anti (runes a) (runes b), Bool.eq_iff_iff, leI_iff, leI_iff]; omega
theorem V55 (x lo hi : ByteArray) (h0 : x.size ≤ 1000) (h1 : lo.size ≤ 1000) (h2 : hi.size ≤ 1000) : Ev (fun k => F55 k x lo hi) (leI (cmpK lo x) 0 && (strEq hi ⟨#[]⟩ || ltI (cmpK x hi) 0)) := by
  unfold F55
  rw [eqI_nil]
  refine Ev.bind (V119 _ _ (by omega) (by omega)) ?_
  rw [cmpK_flip]
  refine Ev.bind (optv fun _ => V119 _ _ (by omega) (by omega)) (Ev.of fun _ => ?_)
  congr 1
  cases leI (cmpK lo x) 0 <;> cases strEq hi ⟨#[]⟩ <;> simp
def vR (v : Version) : Bool := stR v.mAt && leI (v.mValue.size : Int) 16 && (!v.mGone || strEq v.mValue ⟨#[]⟩)
theorem V166 (v : Version) : Ev (fun k => F166 k v) (vR v) := Ev.bind (T36 _) (Ev.of fun _ => rfl)
def chQ (l : List Version) (i : Nat) : Bool := vR (rd l (i : Int)) && (decide (i = 0) || ltI (cmpS (rd l ((i : Int) - 1)).mAt (rd l (i : Int)).mAt) 0)
def chR (l : List Version) : Bool := leI (l.length : Int) 64 && allFrom (chQ l) l.length 0
theorem V136 (l : List Version) (hl : l.length ≤ 1000) : Ev (fun k => F136 k l) (chR l) := by
  refine Ev.bind (all_ev (q := chQ l) (n := l.length) (r := false) ?_ fun i hi v hv => ?_) ?_
  · refine Ev.from 1 fun k => ?_
    show F136_l1 l (k + 1) _ = _
    rw [F136_l1, ltI_nat, decide_eq_false (Nat.lt_irrefl _)]; rfl
  · refine Ev.succ (fun k => by rw [F136_l1]) ?_
    rw [ltI_nat, decide_eq_true hi, inR_mk hi, i64z (n := (i : Int) - 1) (by omega), i64z (n := (i : Int) + 1) (by omega)]
    refine Ev.bind (V166 _) (Ev.guard ?_ (Ev.bind (optv fun _ => T42 _ _) ?_))
    · rw [Bool.or_eq_true, Bool.not_eq_true', Bool.and_eq_false_iff, ltI_false, inR_iff]
      omega
    · have h0 : ltI 0 (i : Int) = !decide (i = 0) := by rw [Bool.eq_iff_iff, ltI_iff]; simp; omega
      unfold chQ
      rw [h0]
      cases h1 : vR (rd l (i : Int)) <;> cases h2 : decide (i = 0) <;> simp only [Bool.not_true, Bool.not_false, Bool.true_and, Bool.false_and, Bool.true_or, Bool.false_or, cond_true, cond_false, Bool.and_true, Bool.and_false, Bool.or_true, Bool.or_false, if_true]
      · exact Ev.of fun _ => rfl
      · exact Ev.of fun _ => rfl
      · have h3 : leI 0 (cmpS (rd l ((i : Int) - 1)).mAt (rd l (i : Int)).mAt) = !ltI (cmpS (rd l ((i : Int) - 1)).mAt (rd l (i : Int)).mAt) 0 := leI_lt _
        rw [h3]
        cases ltI (cmpS (rd l ((i : Int) - 1)).mAt (rd l (i : Int)).mAt) 0
        · exact Ev.of fun _ => rfl
        · exact hv
      · exact hv
  · unfold chR
    cases allFrom (chQ l) l.length 0
    · exact Ev.of fun _ => by simp [LR.go]
    · exact Ev.of fun _ => by simp [LR.go]
theorem i0 (i : Nat) : ltI 0 (i : Int) = !decide (i = 0) := by rw [Bool.eq_iff_iff, ltI_iff]; simp; omega
def ixQ (l : List Entry) (i : Nat) : Bool := (keyR (rd l (i : Int)).mKey && chR (rd l (i : Int)).mChain && !eqI ((rd l (i : Int)).mChain.length : Int) 0) && (decide (i = 0) || ltI (cmpK (rd l ((i : Int) - 1)).mKey (rd l (i : Int)).mKey) 0)
def ixR (l : List Entry) : Bool := leI (l.length : Int) 64 && allFrom (ixQ l) l.length 0
theorem rd_mem {α : Type} [Inhabited α] {l : List α} {i : Nat} (h : i < l.length) : rd l (i : Int) ∈ l := by rw [rd_nat _ _ h]; exact List.getElem_mem h
theorem V81 (l : List Entry) (hl : l.length ≤ 1000) (hc : ∀ e ∈ l, e.mChain.length ≤ 1000) : Ev (fun k => F81 k l) (ixR l) := by
  refine Ev.bind (all_ev (q := ixQ l) (n := l.length) (r := false) ?_ fun i hi v hv => ?_) ?_
  · refine Ev.from 1 fun k => ?_
    show F81_l1 l (k + 1) _ = _
    rw [F81_l1, ltI_nat, decide_eq_false (Nat.lt_irrefl _)]; rfl
  · refine Ev.succ (fun k => by rw [F81_l1]) ?_
    rw [ltI_nat, decide_eq_true hi, inR_mk hi, i64z (n := (i : Int) - 1) (by omega), i64z (n := (i : Int) + 1) (by omega), i0]
    refine Ev.bind (T122 _) (Ev.bind (optv fun _ => V136 _ (hc _ (rd_mem hi))) (Ev.guard ?_ (Ev.bind (optv fun _ => V124 _ _) ?_)))
    · rw [Bool.or_eq_true, Bool.not_eq_true', Bool.and_eq_false_iff, inR_iff]
      by_cases h0 : i = 0
      · exact .inl (.inr (by simp [h0]))
      · right; omega
    · unfold ixQ
      have h3 : leI 0 (cmpK (rd l ((i : Int) - 1)).mKey (rd l (i : Int)).mKey) = !ltI (cmpK (rd l ((i : Int) - 1)).mKey (rd l (i : Int)).mKey) 0 := leI_lt _
      cases keyR (rd l (i : Int)).mKey <;> simp only [Bool.not_true, Bool.not_false, Bool.true_and, Bool.false_and, Bool.true_or, Bool.false_or, cond_true, cond_false, Bool.and_true, Bool.and_false, Bool.or_true, Bool.or_false]
      · exact Ev.of fun _ => rfl
      cases chR (rd l (i : Int)).mChain <;> simp only [Bool.not_true, Bool.not_false, Bool.true_and, Bool.false_and, Bool.true_or, Bool.false_or, cond_true, cond_false, Bool.and_true, Bool.and_false, Bool.or_true, Bool.or_false]
      · exact Ev.of fun _ => rfl
      cases eqI ((rd l (i : Int)).mChain.length : Int) 0 <;> simp only [Bool.not_true, Bool.not_false, Bool.true_and, Bool.false_and, Bool.true_or, Bool.false_or, cond_true, cond_false, Bool.and_true, Bool.and_false, Bool.or_true, Bool.or_false]
      · cases decide (i = 0) <;> simp only [Bool.not_true, Bool.not_false, Bool.true_and, Bool.false_and, cond_true, cond_false, Bool.true_or, Bool.false_or, if_true]
        · rw [h3]
          cases ltI (cmpK (rd l ((i : Int) - 1)).mKey (rd l (i : Int)).mKey) 0
          · exact Ev.of fun _ => rfl
          · exact hv
        · exact hv
      · exact Ev.of fun _ => rfl
  · unfold ixR
    cases allFrom (ixQ l) l.length 0
    · exact Ev.of fun _ => by simp [LR.go]
    · exact Ev.of fun _ => by simp [LR.go]
def aR (a : Answer) : Bool := leI 0 a.mErr && leI a.mErr 16 && stR a.mAt && leI (a.mValue.size : Int) 16 && eqI (a.mItems.length : Int) 0 && strEq a.mNext ⟨#[]⟩ && !a.mMore
theorem V138 (a : Answer) : Ev (fun k => F138 k a) (aR a) := by
  refine Ev.bind (optv fun _ => T36 _) (Ev.of fun _ => ?_)
  congr 1
  unfold aR
  cases leI 0 a.mErr <;> cases leI a.mErr 16 <;> simp
def dnQ (l : List Done) (i : Nat) : Bool := oneB (rd l (i : Int)).mClient && oneB (rd l (i : Int)).mReq && aR (rd l (i : Int)).mAnswer && (decide (i = 0) || ltI (rd l ((i : Int) - 1)).mClient (rd l (i : Int)).mClient)
def dnR (l : List Done) : Bool := leI (l.length : Int) 8 && allFrom (dnQ l) l.length 0
/-- The client ahead of place i. -/
def pcI (l : List Done) (i : Int) : Int := bif leI i 0 then 0 else (rd l (i - 1)).mClient
theorem V82 (l : List Done) (hl : l.length ≤ 1000) : Ev (fun k => F82 k l) (dnR l) := by
  have start : ∀ k, F82_l1 l k (0, 0) = F82_l1 l k (pcI l 0, 0) := fun _ => rfl
  refine Ev.bind ((all_ev (f := fun k i => F82_l1 l k (pcI l i, i)) (q := dnQ l) (n := l.length) (r := false) ?_ fun i hi v hv => ?_).congr start) ?_
  · refine Ev.from 1 fun k => ?_
    show F82_l1 l (k + 1) (pcI l _, _) = _
    rw [F82_l1, ltI_nat, decide_eq_false (Nat.lt_irrefl _)]; rfl
  · refine Ev.succ (fun k => by rw [F82_l1]) ?_
    have hp : pcI l ((i + 1 : Nat) : Int) = (rd l (i : Int)).mClient := by
      unfold pcI
      rw [leI_false.2 (by omega), show ((i + 1 : Nat) : Int) - 1 = (i : Int) by omega]; rfl
    simp only [hp] at hv
    rw [ltI_nat, decide_eq_true hi, inR_mk hi, i64z (n := (i : Int) + 1) (by omega)]
    have hq : dnQ l i = (!leI (rd l (i : Int)).mClient (pcI l (i : Int)) && oneB (rd l (i : Int)).mClient && oneB (rd l (i : Int)).mReq && aR (rd l (i : Int)).mAnswer) := by
      unfold dnQ pcI
      by_cases h0 : i = 0
      · subst h0
        show _ = (!leI _ 0 && _ && _ && _)
        cases hone : oneB (rd l ((0 : Nat) : Int)).mClient
        · simp
        · have : leI (rd l ((0 : Nat) : Int)).mClient 0 = false := by
            unfold oneB at hone
            rw [Bool.and_eq_true, leI_iff, leI_iff] at hone
            rw [leI_false]; omega
          rw [this]; simp
      · rw [decide_eq_false h0, (leI_false.2 (by omega) : leI (i : Int) 0 = false)]
        have : (!leI (rd l (i : Int)).mClient (rd l ((i : Int) - 1)).mClient) = ltI (rd l ((i : Int) - 1)).mClient (rd l (i : Int)).mClient := by
          rw [Bool.eq_iff_iff, Bool.not_eq_true', leI_false, ltI_iff]
        simp only [cond_false, Bool.false_or, this]
        generalize ltI (rd l ((i : Int) - 1)).mClient (rd l (i : Int)).mClient = a; generalize oneB (rd l (i : Int)).mClient = b; generalize oneB (rd l (i : Int)).mReq = c; generalize aR (rd l (i : Int)).mAnswer = d
        revert a b c d; decide
    rw [hq]
    refine Ev.bind (optv fun _ => (Ev.of fun _ => rfl : Ev (fun k => F137 k (rd l (i : Int)).mClient) (oneB (rd l (i : Int)).mClient))) (Ev.bind (optv fun _ => (Ev.of fun _ => rfl : Ev (fun k => F137 k (rd l (i : Int)).mReq) (oneB (rd l (i : Int)).mReq))) (Ev.bind (optv fun _ => V138 _) ?_))
    cases leI (rd l (i : Int)).mClient (pcI l (i : Int)) <;> simp only [Bool.not_true, Bool.not_false, Bool.true_and, Bool.false_and, Bool.true_or, Bool.false_or, cond_true, cond_false, Bool.and_true, Bool.and_false, Bool.or_true, Bool.or_false]
    · cases oneB (rd l (i : Int)).mClient <;> simp only [Bool.not_true, Bool.not_false, Bool.true_and, Bool.false_and, Bool.true_or, Bool.false_or, cond_true, cond_false, Bool.and_true, Bool.and_false, Bool.or_true, Bool.or_false]
      · exact Ev.of fun _ => rfl
      cases oneB (rd l (i : Int)).mReq <;> simp only [Bool.not_true, Bool.not_false, Bool.true_and, Bool.false_and, Bool.true_or, Bool.false_or, cond_true, cond_false, Bool.and_true, Bool.and_false, Bool.or_true, Bool.or_false]
      · exact Ev.of fun _ => rfl
      cases aR (rd l (i : Int)).mAnswer
      · exact Ev.of fun _ => rfl
      · exact hv
    · exact Ev.of fun _ => rfl
  · unfold dnR
    cases allFrom (dnQ l) l.length 0
    · exact Ev.of fun _ => by simp [LR.go]
    · exact Ev.of fun _ => by simp [LR.go]
end Go.Proofs.Gd
set_option linter.unusedVariables false
set_option linter.unusedSimpArgs false
namespace Go.Proofs.Gd
open Go Go.Awp
theorem Ev.congr' {α : Type} {f : Nat → Option α} {r r' : α} (h : Ev f r) (e : r = r') : Ev f r' := e ▸ h
structure SmS2 (s : Shard) : Prop extends SmS s where
  keys : ∀ e ∈ s.mEntries, e.mKey.size ≤ 100
  lo : s.mSpan.mLo.size ≤ 100
  hi : s.mSpan.mHi.size ≤ 100
structure SmC2 (c : Cell) : Prop where
  shards : c.mShards.length ≤ 12
  each : ∀ s ∈ c.mShards, SmS2 s
theorem SmC2.sm {c : Cell} (h : SmC2 c) : SmC c := ⟨h.shards, fun s hs => (h.each s hs).toSmS⟩
def shR (s : Shard) : Bool := oneB s.mID && oneB s.mEpoch && noB s.mHold && noB s.mSeen && noB s.mMove && noB s.mClosed && !ltI s.mPhase 1 && !ltI 3 s.mPhase && spR s.mSpan && ixR s.mEntries && stR s.mMark && stR s.mTop && dnR s.mDone && s.mEntries.all (fun e => hasR s.mSpan e.mKey)
theorem noB_eq (x : Int) : (ltI x 0 || ltI 1099511627776 x) = !noB x := by
  rw [Bool.eq_iff_iff]
  simp only [noB, Bool.or_eq_true, Bool.not_eq_true', Bool.and_eq_false_iff, ltI_iff, leI_false]
theorem V57_0 (l : List Int) (hl : l.length ≤ 1000) : Ev (fun k => F57 k 0 l) (l.all noB) := by
  have := T57 0 l hl
  simp only [noB_eq] at this
  rwa [List.not_any_eq_all_not, show (fun x => !!noB x) = noB by funext x; simp] at this
theorem V83_84 (l : List Entry) (s : Shard) (hl : l.length ≤ 1000) : Ev (fun k => F83_84 k l s) (l.any fun e => !hasR s.mSpan e.mKey) :=
  any_ev (idx_ev (f := F139_84_l1 l s) (q := fun e => !hasR s.mSpan e.mKey) (p := fun k x => F84 k x s) (by omega) (fun _ => rfl) (fun _ _ => rfl) fun x _ => Ev.bind (V61 _ _) (Ev.of fun _ => rfl))
theorem V20 (s : Shard) (h : SmS s) : Ev (fun k => F20 k s) (shR s) := by
  have he := h.entries
  have hd := h.done
  refine Ev.bind (T57_2 _ _) (Ev.bind (optv fun _ => V57_0 _ (by simp)) ?_)
  unfold shR
  simp only [List.all_cons, List.all_nil, Bool.and_true]
  generalize ha : (oneB s.mID && oneB s.mEpoch) = a
  generalize hb : (noB s.mHold && (noB s.mSeen && (noB s.mMove && noB s.mClosed))) = b
  have hab : (a && noB s.mHold && noB s.mSeen && noB s.mMove && noB s.mClosed) = (a && b) := by rw [← hb]; simp only [Bool.and_assoc]
  rw [hab]
  generalize ltI s.mPhase 1 = c; generalize ltI 3 s.mPhase = d
  refine Ev.cond (fun hc => Ev.of fun _ => ?_) fun hc => ?_
  · congr 1
    have : (a && b && !c && !d) = false := by clear ha hb hab; revert hc; revert a b c d; decide
    rw [this]; rfl
  have h4 : (a && b && !c && !d) = true := by revert hc; clear ha hb hab; revert a b c d; decide
  rw [h4]
  refine Ev.bind (V80 _) (Ev.bind (optv fun _ => V81 _ (by omega) fun e he => by have := h.chains e he; omega) (Ev.bind (optv fun _ => T36 _) (Ev.bind (optv fun _ => T36 _) (Ev.bind (optv fun _ => V82 _ (by omega)) ?_))))
  have hx : s.mEntries.all (fun e => hasR s.mSpan e.mKey) = !(s.mEntries.any fun e => !hasR s.mSpan e.mKey) := by rw [List.not_any_eq_all_not]; simp
  have h5 := V83_84 s.mEntries s (by omega)
  rw [hx]
  generalize (s.mEntries.any fun e => !hasR s.mSpan e.mKey) = z at h5 ⊢
  generalize spR s.mSpan = e1; generalize ixR s.mEntries = e2; generalize stR s.mMark = e3; generalize stR s.mTop = e4; generalize dnR s.mDone = e5
  refine Ev.cond (fun hc => Ev.of fun _ => ?_) fun hc => Ev.bind h5 (Ev.of fun _ => ?_)
  · congr 1
    clear h5
    revert hc; revert e1 e2 e3 e4 e5 z; decide
  · congr 1
    clear h5
    revert hc; revert e1 e2 e3 e4 e5 z; decide
theorem cmpS_le (s t : Stamp) : cmpS s t ≤ 0 ↔ ¬ befS t s := by
  unfold cmpS or3 befS
  rw [cmpI_lt, cmpI_lt, cmpI_lt]
  repeat' split
  all_goals (simp [eqI]; try omega)
def lastV (l : List Version) : Version := rd l ((l.length : Int) - 1)
def upR (s : Shard) (t : Stamp) : Bool := s.mEntries.all fun e => leI (cmpS (lastV e.mChain).mAt t) 0
theorem V90 (s : Shard) (t : Stamp) (h : SmS s) (hn : ∀ e ∈ s.mEntries, e.mChain ≠ []) : Ev (fun k => F90 k s t) (upR s t) := by
  have he := h.entries
  have h1 : Ev (fun k => F83_142 k s.mEntries t) (s.mEntries.any fun e => ltI 0 (cmpS (lastV e.mChain).mAt t)) :=
    any_ev (idx_ev (f := F139_142_l1 s.mEntries t) (q := fun e => ltI 0 (cmpS (lastV e.mChain).mAt t)) (p := fun k x => F142 k x t) (by omega) (fun _ => rfl) (fun _ _ => rfl) fun x hx => by
      have h1 := h.chains x hx
      have h2 : 0 < x.mChain.length := List.length_pos_iff.2 (hn x hx)
      unfold F142
      rw [i64z (by omega)]
      exact Ev.guard (by rw [inR_iff]; omega) (Ev.bind (T42 _ _) (Ev.of fun _ => rfl)))
  refine Ev.bind h1 (Ev.of fun _ => ?_)
  congr 1
  unfold upR
  rw [List.not_any_eq_all_not]
  congr 1
  funext e
  rw [Bool.eq_iff_iff, Bool.not_eq_true', ltI_false, leI_iff]
/-- In a right chain the last is the latest. -/
theorem chain_last (l : List Version) (h : chR l = true) (j : Nat) (hj : j < l.length) : ¬ befS (lastV l).mAt (rd l (j : Int)).mAt := by
  unfold chR at h
  rw [Bool.and_eq_true, allFrom_iff] at h
  have hs : ∀ i, 0 < i → i < l.length → befS (rd l ((i : Int) - 1)).mAt (rd l (i : Int)).mAt := fun i h0 hi => by
    have := h.2 i (by omega) (by omega)
    unfold chQ at this
    rw [Bool.and_eq_true, decide_eq_false (by omega), Bool.false_or, ltI_iff, cmpS_lt] at this
    exact this.2
  have key : ∀ n, j + n < l.length → ¬ befS (rd l ((j + n : Nat) : Int)).mAt (rd l (j : Int)).mAt := fun n => by
    induction n with
    | zero => intro _ hb; unfold befS at hb; simp only [Nat.add_zero] at hb; omega
    | succ n ih =>
      intro hn hb
      have h1 := hs (j + (n + 1)) (by omega) hn
      rw [show ((j + (n + 1) : Nat) : Int) - 1 = ((j + n : Nat) : Int) by omega] at h1
      refine ih (by omega) ?_
      unfold befS at h1 hb ⊢
      omega
  have := key (l.length - 1 - j) (by omega)
  unfold lastV
  rwa [show ((j + (l.length - 1 - j) : Nat) : Int) = (l.length : Int) - 1 by omega] at this
end Go.Proofs.Gd
set_option linter.unusedVariables false
set_option linter.unusedSimpArgs false
namespace Go.Proofs.Gd
open Go Go.Awp
def cQ (c : Cell) (i : Nat) : Bool := shR (rd c.mShards (i : Int)) && upR (rd c.mShards (i : Int)) c.mTop && (decide (i = 0) || ltI (rd c.mShards ((i : Int) - 1)).mID (rd c.mShards (i : Int)).mID)
def cR (c : Cell) : Bool := leI (c.mShards.length : Int) 8 && stR c.mTop && noB c.mDropped && allFrom (cQ c) c.mShards.length 0
def pcS (l : List Shard) (i : Int) : Int := bif leI i 0 then 0 else (rd l (i - 1)).mID
theorem shR_ix {s : Shard} (h : shR s = true) : ixR s.mEntries = true := by
  unfold shR at h
  simp only [Bool.and_eq_true] at h
  exact h.1.1.1.1.2
theorem shR_id {s : Shard} (h : shR s = true) : 1 ≤ s.mID ∧ s.mID ≤ 1099511627776 := by
  unfold shR oneB at h
  simp only [Bool.and_eq_true, leI_iff] at h
  exact h.1.1.1.1.1.1.1.1.1.1.1.1.1
theorem ixR_ne {l : List Entry} (h : ixR l = true) : ∀ e ∈ l, e.mChain ≠ [] := fun e he hn => by
  obtain ⟨j, hj, rfl⟩ := List.mem_iff_getElem.1 he
  unfold ixR at h
  rw [Bool.and_eq_true, allFrom_iff] at h
  have := h.2 j (by omega) (by omega)
  unfold ixQ at this
  rw [rd_nat _ _ hj, hn] at this
  simp [eqI] at this
theorem V25 (c : Cell) (h : SmC c) : Ev (fun k => F25 k c) (cR c) := by
  have hs := h.shards
  have start : ∀ k, F25_l1 c k (0, 0) = F25_l1 c k (pcS c.mShards 0, 0) := fun _ => rfl
  refine Ev.bind ((all_ev (f := fun k i => F25_l1 c k (pcS c.mShards i, i)) (q := cQ c) (n := c.mShards.length) (r := false) ?_ fun i hi v hv => ?_).congr start) ?_
  · refine Ev.from 1 fun k => ?_
    show F25_l1 c (k + 1) (pcS c.mShards _, _) = _
    rw [F25_l1, ltI_nat, decide_eq_false (Nat.lt_irrefl _)]; rfl
  · refine Ev.succ (fun k => by rw [F25_l1]) ?_
    have hp : pcS c.mShards ((i + 1 : Nat) : Int) = (rd c.mShards (i : Int)).mID := by
      unfold pcS
      rw [leI_false.2 (by omega), show ((i + 1 : Nat) : Int) - 1 = (i : Int) by omega]; rfl
    simp only [hp] at hv
    rw [ltI_nat, decide_eq_true hi, inR_mk hi, i64z (n := (i : Int) + 1) (by omega)]
    have hi' := h.each _ (rd_mem hi)
    generalize hsx : rd c.mShards (i : Int) = s at *
    have hq : cQ c i = (!leI s.mID (pcS c.mShards (i : Int)) && shR s && upR s c.mTop) := by
      unfold cQ pcS
      rw [hsx]
      by_cases h0 : i = 0
      · subst h0
        show _ = (!leI s.mID 0 && _ && _)
        cases hone : shR s
        · simp
        · have : leI s.mID 0 = false := by rw [leI_false]; have := (shR_id hone).1; omega
          rw [this]; simp
      · rw [decide_eq_false h0, (leI_false.2 (by omega) : leI (i : Int) 0 = false)]
        have : (!leI s.mID (rd c.mShards ((i : Int) - 1)).mID) = ltI (rd c.mShards ((i : Int) - 1)).mID s.mID := by
          rw [Bool.eq_iff_iff, Bool.not_eq_true', leI_false, ltI_iff]
        simp only [cond_false, Bool.false_or, this]
        generalize ltI (rd c.mShards ((i : Int) - 1)).mID s.mID = a; generalize shR s = b; generalize upR s c.mTop = d
        revert a b d; decide
    rw [hq]
    refine Ev.bind (optv fun _ => V20 _ hi') ?_
    cases leI s.mID (pcS c.mShards (i : Int)) <;> simp only [Bool.not_true, Bool.not_false, Bool.true_and, Bool.false_and, Bool.true_or, Bool.false_or, cond_true, cond_false, Bool.and_true, Bool.and_false, Bool.or_true, Bool.or_false]
    · cases hsr : shR s <;> simp only [Bool.not_true, Bool.not_false, Bool.true_and, Bool.false_and, Bool.true_or, Bool.false_or, cond_true, cond_false, Bool.and_true, Bool.and_false, Bool.or_true, Bool.or_false]
      · exact Ev.of fun _ => rfl
      · refine Ev.bind (V90 _ _ hi' (ixR_ne (shR_ix hsr))) ?_
        cases upR s c.mTop
        · exact Ev.of fun _ => rfl
        · exact hv
    · exact Ev.of fun _ => rfl
  · unfold cR
    cases hall : allFrom (cQ c) c.mShards.length 0
    · exact Ev.of fun _ => by simp [LR.go]
    · show Ev (fun k => (bif (leI (c.mShards.length : Int) 8) then F36 k c.mTop else some default).bind fun t39 => (bif ((leI (c.mShards.length : Int) 8) && t39) then F57 k 0 [c.mDropped] else some default).bind fun t45 => some (((leI (c.mShards.length : Int) 8) && t39) && t45)) _
      refine Ev.bind (optv fun _ => T36 _) (Ev.bind (optv fun _ => V57_0 _ (by simp)) (Ev.of fun _ => ?_))
      congr 1
      simp only [List.all_cons, List.all_nil, Bool.and_true]
      cases leI (c.mShards.length : Int) 8 <;> cases stR c.mTop <;> simp
def zSh : Shard := ⟨0, 0, (⟨(⟨#[]⟩ : ByteArray), (⟨#[]⟩ : ByteArray)⟩ : Span), 0, ([] : List Entry), (⟨0, 0, 0⟩ : Stamp), (⟨0, 0, 0⟩ : Stamp), ([] : List Done), 0, 0, 0, 0⟩
def getL : List Shard → Int → Shard
  | [], _ => zSh
  | s :: l, id => bif eqI s.mID id then s else getL l id
def getS (c : Cell) (id : Int) : Shard := getL c.mShards id
theorem getL_none (id : Int) : ∀ l : List Shard, (∀ s ∈ l, s.mID ≠ id) → getL l id = zSh
  | [], _ => rfl
  | s :: l, h => by rw [getL, eqI_false.2 (h s (by simp))]; exact getL_none id l fun t ht => h t (by simp [ht])
theorem getL_at (id : Int) : ∀ (l : List Shard) (n : Nat) (hn : n < l.length), l[n].mID = id → (∀ i (hi : i < n), (l[i]'(by omega)).mID ≠ id) → getL l id = l[n]
  | s :: l, 0, hn, h, _ => by rw [getL, (eqI_iff.2 h : eqI s.mID id = true)]; rfl
  | s :: l, n + 1, hn, h, hh => by
    rw [getL, (eqI_false.2 (hh 0 (by omega)) : eqI s.mID id = false)]
    exact getL_at id l n (by simpa using hn) h fun i hi => hh (i + 1) (by omega)
/-- In a right cell the shards stand by their IDs. -/
theorem cR_ids {c : Cell} (h : cR c = true) : (∀ i, i < c.mShards.length → 1 ≤ (rd c.mShards (i : Int)).mID ∧ (rd c.mShards (i : Int)).mID ≤ 1099511627776) ∧ ∀ i j, i < j → j < c.mShards.length → (rd c.mShards (i : Int)).mID < (rd c.mShards (j : Int)).mID := by
  unfold cR at h
  rw [Bool.and_eq_true, allFrom_iff] at h
  have hq : ∀ i, i < c.mShards.length → cQ c i = true := fun i hi => h.2 i (by omega) (by omega)
  refine ⟨fun i hi => ?_, ?_⟩
  · have := hq i hi
    unfold cQ at this
    rw [Bool.and_eq_true, Bool.and_eq_true] at this
    exact shR_id this.1.1
  · intro i j hij
    induction j with
    | zero => omega
    | succ j ih =>
      intro hj
      have := hq (j + 1) hj
      unfold cQ at this
      rw [Bool.and_eq_true, decide_eq_false (by omega), Bool.false_or, ltI_iff, show ((j + 1 : Nat) : Int) - 1 = (j : Int) by omega] at this
      by_cases e : i = j
      · subst e; exact this.2
      · exact Int.lt_trans (ih (by omega) (by omega)) this.2
/-- Where a shard stands, or is to stand. -/
theorem V123 (c : Cell) (id : Int) (h : cR c = true) (hl : c.mShards.length ≤ 12) (h1 : 1 ≤ id) (h2 : id ≤ 1099511627776) : EvP (fun k => F123 k c id) (fun r => ∃ n : Nat, r.1 = (n : Int) ∧ n ≤ c.mShards.length ∧ (∀ i, i < n → (rd c.mShards (i : Int)).mID < id) ∧ (∀ i, n ≤ i → i < c.mShards.length → id ≤ (rd c.mShards (i : Int)).mID) ∧ r.2 = (decide (n < c.mShards.length) && eqI (rd c.mShards (n : Int)).mID id)) := by
  obtain ⟨g1, g2⟩ := cR_ids h
  have hw : ∀ i, i < c.mShards.length → IntKind.wrap .i64 ((rd c.mShards (i : Int)).mID - id) = (rd c.mShards (i : Int)).mID - id := fun i hi => i64z (by have := g1 i hi; omega)
  have hb := bin_ev (l := c.mShards) (f := F155_156_l1 c.mShards id) (p := fun k x => F156 k x id) (q := fun x => IntKind.wrap .i64 (x.mID - id)) (by omega) (fun _ _ _ => rfl) (fun x _ => Ev.of fun _ => rfl) (fun i j hij hj hh => by
    have hh : IntKind.wrap .i64 ((rd c.mShards (j : Int)).mID - id) < 0 := hh
    show IntKind.wrap .i64 ((rd c.mShards (i : Int)).mID - id) < 0
    rw [hw j hj] at hh
    rw [hw i (by omega)]
    have := g2 i j hij hj
    omega)
  refine EvP.bind (EvP.bind (hb.mono fun r hr => ?_))
  obtain ⟨n, rfl, hn, q1, q2⟩ := hr
  refine EvP.guard ?_ ?_
  · rw [Bool.or_eq_true, Bool.not_eq_true', ltI_false, inR_iff]; omega
  · rw [ltI_nat]
    have base : (∀ i, i < n → (rd c.mShards (i : Int)).mID < id) ∧ (∀ i, n ≤ i → i < c.mShards.length → id ≤ (rd c.mShards (i : Int)).mID) := ⟨fun i hi => by
        have := q1 i hi
        rw [hw i (by omega)] at this; omega, fun i hi hi2 => by
        have := q2 i hi hi2
        rw [hw i hi2] at this; omega⟩
    by_cases hlt : n < c.mShards.length
    · rw [decide_eq_true hlt]
      refine EvP.bind (EvP.some (EvP.some (EvP.some ⟨n, rfl, hn, base.1, base.2, ?_⟩)))
      rw [decide_eq_true hlt]
      simp only [Bool.true_and]
      rw [hw n hlt, Bool.eq_iff_iff, eqI_iff, eqI_iff]; omega
    · rw [decide_eq_false hlt]
      exact EvP.bind (EvP.some (EvP.some (EvP.some ⟨n, rfl, hn, base.1, base.2, by rw [decide_eq_false hlt]; rfl⟩)))
theorem V60 (c : Cell) (id : Int) (h : cR c = true) (hl : c.mShards.length ≤ 12) (h1 : 1 ≤ id) (h2 : id ≤ 1099511627776) : Ev (fun k => F60 k c id) (getS c id) := by
  refine EvP.ev (EvP.bind ((V123 c id h hl h1 h2).mono fun r hr => ?_))
  obtain ⟨r1, r2⟩ := r
  obtain ⟨n, e, hn, q1, q2, q3⟩ := hr
  simp only at e q3
  subst e
  have hrd : ∀ i (hi : i < c.mShards.length), rd c.mShards (i : Int) = c.mShards[i] := fun i hi => rd_nat _ _ hi
  show EvP (fun k => bif r2 then _ else _) _
  cases hb : r2 with
  | true =>
    rw [hb] at q3
    have q3 := q3.symm
    rw [Bool.and_eq_true, decide_eq_true_eq, eqI_iff] at q3
    refine EvP.guard (inR_mk q3.1) (EvP.some ?_)
    unfold getS
    rw [getL_at id c.mShards n q3.1 (by rw [← hrd n q3.1]; exact q3.2) fun i hi => by
      have := q1 i hi
      rw [hrd i (by omega)] at this
      omega]
    exact hrd n q3.1
  | false =>
    rw [hb] at q3
    refine EvP.some ?_
    unfold getS
    rw [getL_none id c.mShards fun s hs => ?_]
    · rfl
    obtain ⟨i, hi, rfl⟩ := List.mem_iff_getElem.1 hs
    rw [← hrd i hi]
    intro he
    have q3 := q3.symm
    rw [Bool.and_eq_false_iff, decide_eq_false_iff_not, eqI_false] at q3
    by_cases h3 : i < n
    · have := q1 i h3; omega
    · have h4 := q2 n (Nat.le_refl _) (by omega)
      by_cases h5 : i = n
      · subst h5
        rcases q3 with q3 | q3
        · exact q3 hi
        · exact q3 he
      · have := (cR_ids h).2 n i (by omega) hi
        omega
/-- Find. -/
theorem V23 (c : Cell) (id : Int) (h : SmC c) : Ev (fun k => F23 k c id) (bif cR c && oneB id then (getS c id, !eqI (getS c id).mID 0) else (zSh, false)) := by
  refine Ev.bind (V25 c h) ?_
  have h57 : Ev (fun k => F57 k 1 [id]) (oneB id) := by
    have := T57 1 [id] (by simp)
    simp only [List.any_cons, List.any_nil, oneB_eq, Bool.or_false, Bool.not_not] at this
    exact this
  refine Ev.bind (optv fun _ => h57) ?_
  cases hr : cR c with
  | false => exact Ev.of fun _ => rfl
  | true =>
    cases ho : oneB id with
    | false => exact Ev.of fun _ => rfl
    | true =>
      unfold oneB at ho
      rw [Bool.and_eq_true, leI_iff, leI_iff] at ho
      exact Ev.bind (V60 c id hr h.shards ho.1 ho.2) (Ev.of fun _ => rfl)
theorem zSh_sm : SmS zSh := ⟨by simp [zSh], fun e he => by simp [zSh] at he, by simp [zSh], fun e he => by simp [zSh] at he⟩
theorem getL_mem (id : Int) : ∀ l : List Shard, getL l id ∈ l ∨ getL l id = zSh
  | [] => .inr rfl
  | s :: l => by
    rw [getL]
    cases eqI s.mID id with
    | true => exact .inl (by simp)
    | false =>
      rcases getL_mem id l with h | h
      · exact .inl (by simp [h])
      · exact .inr h
theorem getS_sm {c : Cell} (h : SmC c) (id : Int) : SmS (getS c id) := by
  rcases getL_mem id c.mShards with h1 | h1
  · exact h.each _ h1
  · unfold getS; rw [h1]; exact zSh_sm
end Go.Proofs.Gd
set_option linter.unusedVariables false
set_option linter.unusedSimpArgs false
namespace Go.Proofs.Gd
open Go Go.Awp
def putL : List Shard → Shard → List Shard
  | [], s => [s]
  | x :: l, s => bif ltI x.mID s.mID then x :: putL l s else bif eqI x.mID s.mID then s :: l else s :: x :: l
def dropL (l : List Shard) (id : Int) : List Shard := l.filter fun x => !eqI x.mID id
def putC (c : Cell) (s : Shard) : Cell := { c with mShards := putL c.mShards s }
def dropC (c : Cell) (id : Int) : Cell := { c with mShards := dropL c.mShards id }
theorem putL_set (s : Shard) : ∀ (l : List Shard) (n : Nat) (hn : n < l.length), (∀ i (hi : i < n), (l[i]'(by omega)).mID < s.mID) → l[n].mID = s.mID → putL l s = l.set n s
  | x :: l, 0, _, _, h => by
    have h : x.mID = s.mID := h
    rw [putL, ltI_false.2 (by omega), eqI_iff.2 h]; rfl
  | x :: l, n + 1, hn, hh, h => by
    have h0 : x.mID < s.mID := hh 0 (by omega)
    rw [putL, ltI_iff.2 h0, putL_set s l n (by simpa using hn) (fun i hi => hh (i + 1) (by omega)) h]; rfl
theorem putL_ins (s : Shard) : ∀ (l : List Shard) (n : Nat) (hn : n ≤ l.length), (∀ i (hi : i < n), (l[i]'(by omega)).mID < s.mID) → (∀ h : n < l.length, s.mID < l[n].mID) → putL l s = l.take n ++ [s] ++ l.drop n
  | [], 0, _, _, _ => rfl
  | [], n + 1, hn, _, _ => by simp at hn
  | x :: l, 0, _, _, h => by
    have h : s.mID < x.mID := h (by simp)
    rw [putL, ltI_false.2 (by omega), eqI_false.2 (by omega)]; rfl
  | x :: l, n + 1, hn, hh, h => by
    have h0 : x.mID < s.mID := hh 0 (by omega)
    rw [putL, ltI_iff.2 h0, putL_ins s l n (by simpa using hn) (fun i hi => hh (i + 1) (by omega)) fun h2 => h (by simpa using h2)]; rfl
/-- engine.with. -/
theorem V95 (c : Cell) (s : Shard) (h : cR c = true) (hl : c.mShards.length ≤ 12) (h1 : 1 ≤ s.mID) (h2 : s.mID ≤ 1099511627776) : Ev (fun k => F95 k c s) (putC c s) := by
  refine EvP.ev (EvP.bind ((V123 c s.mID h hl h1 h2).mono fun r hr => ?_))
  obtain ⟨r1, r2⟩ := r
  obtain ⟨n, e, hn, q1, q2, q3⟩ := hr
  simp only at e q3
  subst e
  have hrd : ∀ i (hi : i < c.mShards.length), rd c.mShards (i : Int) = c.mShards[i] := fun i hi => rd_nat _ _ hi
  have hcl : Ev (fun k => F98o k c.mShards) c.mShards := Ev.of fun k => by
    unfold F98o
    rw [appOK_mk (by simp; omega) (by simp; omega)]; rfl
  refine EvP.bind (hcl.evP.mono fun t ht => ?_)
  subst ht
  show EvP (fun k => bif r2 then _ else _) _
  cases hb : r2 with
  | true =>
    rw [hb] at q3
    have q3 := q3.symm
    rw [Bool.and_eq_true, decide_eq_true_eq, eqI_iff] at q3
    refine EvP.guard (inR_mk q3.1) (EvP.some ?_)
    unfold putC
    rw [putL_set s c.mShards n q3.1 (fun i hi => by rw [← hrd i (by omega)]; exact q1 i hi) (by rw [← hrd n q3.1]; exact q3.2), Int.toNat_natCast]
  | false =>
    rw [hb] at q3
    have q3 := q3.symm
    rw [Bool.and_eq_false_iff, decide_eq_false_iff_not, eqI_false] at q3
    refine EvP.guard ?_ (EvP.some ?_)
    · exact decide_eq_true ⟨by omega, by omega, by omega, by omega⟩
    · unfold putC
      rw [putL_ins s c.mShards n hn (fun i hi => by rw [← hrd i (by omega)]; exact q1 i hi) (fun h3 => by
        have := q2 n (Nat.le_refl _) h3
        rw [hrd n h3] at this q3
        rcases q3 with q3 | q3
        · exact absurd h3 q3
        · omega), Int.toNat_natCast]
def SortedL (l : List Shard) : Prop := ∀ i j (hj : j < l.length) (hi : i < j), (l[i]'(by omega)).mID < l[j].mID
theorem SortedL.tail {x : Shard} {l : List Shard} (h : SortedL (x :: l)) : SortedL l := fun i j hj hi => h (i + 1) (j + 1) (by simpa using hj) (by omega)
theorem SortedL.head {x : Shard} {l : List Shard} (h : SortedL (x :: l)) : ∀ y ∈ l, x.mID < y.mID := fun y hy => by
  obtain ⟨j, hj, rfl⟩ := List.mem_iff_getElem.1 hy
  exact h 0 (j + 1) (by simpa using hj) (by omega)
theorem getS_id {c : Cell} (h : cR c = true) (id : Int) (h0 : (getS c id).mID ≠ 0) : 1 ≤ (getS c id).mID ∧ (getS c id).mID ≤ 1099511627776 := by
  rcases getL_mem id c.mShards with h1 | h1
  · obtain ⟨i, hi, hx⟩ := List.mem_iff_getElem.1 h1
    have := (cR_ids h).1 i hi
    rw [rd_nat _ _ hi, hx] at this
    exact this
  · exact absurd (by unfold getS; rw [h1]; rfl) h0
end Go.Proofs.Gd
set_option linter.unusedVariables false
set_option linter.unusedSimpArgs false
namespace Go.Proofs.Gd
open Go Go.Awp
def holdB (c : Cell) (s : Shard) (id ep l : Int) : Bool := cR c && oneB id && oneB ep && oneB l && !eqI s.mID 0 && eqI s.mEpoch ep && eqI s.mPhase 1 && !leI l s.mSeen && (eqI s.mHold 0 || eqI s.mHold l)
def holdP (c : Cell) (id ep l : Int) : Cell × Bool := bif holdB c (getS c id) id ep l then (putC c { getS c id with mHold := l }, true) else (c, false)
theorem V30 (c : Cell) (id ep l : Int) (h : SmC c) : Ev (fun k => F30 k c id ep l) (holdP c id ep l) := by
  refine Ev.bind (V23 c id h) ?_
  unfold holdP holdB
  cases hr : cR c && oneB id with
  | false =>
    simp only [cond_false, Bool.false_and]
    exact Ev.of fun _ => rfl
  | true =>
    have hc : cR c = true := by rw [Bool.and_eq_true] at hr; exact hr.1
    simp only [cond_true, Bool.true_and]
    have h95 : (getS c id).mID ≠ 0 → Ev (fun k => (F95 k c { getS c id with mHold := l }).bind fun t60 => some (t60, true)) (putC c { getS c id with mHold := l }, true) := fun h0 =>
      Ev.bind (V95 c _ hc h.shards (getS_id hc id h0).1 (getS_id hc id h0).2) (Ev.of fun _ => rfl)
    refine Ev.bind (optv fun _ => T57_2 _ _) ?_
    generalize getS c id = s at h95 ⊢
    cases e1 : eqI s.mID 0 with
    | true => exact Ev.of fun _ => by simp only [Bool.not_true, Bool.not_false, Bool.true_or, Bool.and_false, Bool.false_and, cond_true, cond_false]
    | false =>
      have h95 := h95 (eqI_false.1 e1)
      simp only [Bool.not_false, Bool.not_true, cond_true, Bool.true_and]
      refine Ev.cond (fun hc => Ev.of fun _ => ?_) fun hc => Ev.congr' h95 ?_
      · congr 1
        have : (oneB ep && oneB l && eqI s.mEpoch ep && eqI s.mPhase 1 && !leI l s.mSeen && (eqI s.mHold 0 || eqI s.mHold l)) = false := by
          revert hc
          generalize oneB ep = x1; generalize oneB l = x2; generalize eqI s.mEpoch ep = x3; generalize eqI s.mPhase 1 = x4; generalize leI l s.mSeen = x5; generalize eqI s.mHold 0 = x6; generalize eqI s.mHold l = x7
          clear h95 e1 hr; revert x1 x2 x3 x4 x5 x6 x7; decide
        simp only [Bool.and_true]
        rw [this]; rfl
      · have : (oneB ep && oneB l && eqI s.mEpoch ep && eqI s.mPhase 1 && !leI l s.mSeen && (eqI s.mHold 0 || eqI s.mHold l)) = true := by
          revert hc
          generalize oneB ep = x1; generalize oneB l = x2; generalize eqI s.mEpoch ep = x3; generalize eqI s.mPhase 1 = x4; generalize leI l s.mSeen = x5; generalize eqI s.mHold 0 = x6; generalize eqI s.mHold l = x7
          clear h95 e1 hr; revert x1 x2 x3 x4 x5 x6 x7; decide
        simp only [Bool.and_true]
        rw [this]; rfl
def freeS (s : Shard) (l : Int) : Shard := { s with mHold := bif eqI s.mHold l then 0 else s.mHold, mSeen := l }
def freeP (c : Cell) (id l : Int) (t : Stamp) : Cell × Bool :=
  bif cR c && oneB id && oneB l && stR t && !eqI (getS c id).mID 0 then (bif leI l (getS c id).mSeen then (c, true) else ({ putC c (freeS (getS c id) l) with mTop := laterS c.mTop t }, true)) else (c, false)
theorem V32 (c : Cell) (id l : Int) (t : Stamp) (h : SmC c) : Ev (fun k => F32 k c id l t) (freeP c id l t) := by
  refine Ev.bind (V23 c id h) ?_
  unfold freeP
  have h57 : Ev (fun k => F57 k 1 [l]) (oneB l) := by
    have := T57 1 [l] (by simp)
    simp only [List.any_cons, List.any_nil, oneB_eq, Bool.or_false, Bool.not_not] at this
    exact this
  cases hr : cR c && oneB id with
  | false =>
    simp only [cond_false, Bool.false_and]
    exact Ev.of fun _ => rfl
  | true =>
    have hc : cR c = true := by rw [Bool.and_eq_true] at hr; exact hr.1
    simp only [cond_true, Bool.true_and]
    refine Ev.bind (optv fun _ => h57) (Ev.bind (optv fun _ => T36 _) ?_)
    cases e1 : eqI (getS c id).mID 0 with
    | true => exact Ev.of fun _ => by simp only [Bool.not_true, Bool.not_false, Bool.true_or, Bool.and_false, Bool.false_and, cond_true, cond_false]
    | false =>
      have hid := getS_id hc id (eqI_false.1 e1)
      generalize getS c id = s at hid ⊢
      cases oneB l with
      | false => exact Ev.of fun _ => by simp only [Bool.not_true, Bool.not_false, Bool.true_or, Bool.or_true, Bool.and_false, Bool.false_and, cond_true, cond_false]
      | true =>
        cases stR t with
        | false => exact Ev.of fun _ => by simp only [Bool.not_true, Bool.not_false, Bool.true_or, Bool.or_true, Bool.and_false, Bool.false_and, Bool.true_and, Bool.or_false, cond_true, cond_false]
        | true =>
          simp only [Bool.not_true, Bool.not_false, Bool.or_false, Bool.and_true, Bool.true_and, cond_true, cond_false]
          cases leI l s.mSeen with
          | true => exact Ev.of fun _ => rfl
          | false =>
            simp only [cond_false]
            refine Ev.bind (x := bif eqI s.mHold l then 0 else s.mHold) ?_ ?_
            · cases eqI s.mHold l <;> exact Ev.of fun _ => rfl
            · exact Ev.bind (V95 c (freeS s l) hc h.shards hid.1 hid.2) (Ev.bind (T37 _ _) (Ev.of fun _ => rfl))
end Go.Proofs.Gd
set_option linter.unusedVariables false
set_option linter.unusedSimpArgs false
namespace Go.Proofs.Gd
open Go Go.Awp
theorem befS_trans {a b c : Stamp} (h : befS a b) (h' : befS b c) : befS a c := by unfold befS at *; omega
theorem befS_irr (a : Stamp) : ¬ befS a a := by unfold befS; omega
theorem befS_tri {a b : Stamp} (h : ¬ befS a b) (h' : ¬ befS b a) : a = b := by
  obtain ⟨a1, a2, a3⟩ := a
  obtain ⟨b1, b2, b3⟩ := b
  unfold befS at h h'
  simp only at h h'
  have : a1 = b1 ∧ a2 = b2 ∧ a3 = b3 := by omega
  obtain ⟨rfl, rfl, rfl⟩ := this
  rfl
theorem befS_le {a b c : Stamp} (h : ¬ befS b a) (h' : befS b c) : befS a c := by unfold befS at *; omega
theorem nbef_trans {a b c : Stamp} (h : ¬ befS b a) (h' : ¬ befS c b) : ¬ befS c a := by unfold befS at *; omega
theorem ltB (s t : Stamp) : ltI (cmpS s t) 0 = true ↔ befS s t := by rw [ltI_iff]; exact cmpS_lt s t
theorem leB (s t : Stamp) : leI (cmpS s t) 0 = true ↔ ¬ befS t s := by rw [leI_iff]; exact cmpS_le s t
theorem ltB' (s t : Stamp) : ltI 0 (cmpS s t) = true ↔ befS t s := by
  rw [ltI_iff, ← Int.not_le, cmpS_le]; exact Classical.not_not
theorem laterS_ge (s t : Stamp) : ¬ befS (laterS s t) s ∧ ¬ befS (laterS s t) t := by
  unfold laterS
  cases h : ltI (cmpS s t) 0 with
  | true => rw [ltB] at h; simp only [cond_true]; unfold befS at *; omega
  | false =>
    have : ¬ befS s t := by rw [← ltB, h]; simp
    exact ⟨befS_irr s, this⟩
theorem laterS_or (s t : Stamp) : laterS s t = s ∨ laterS s t = t := by
  unfold laterS
  cases ltI (cmpS s t) 0 <;> simp
theorem chR_iff (l : List Version) : chR l = true ↔ l.length ≤ 64 ∧ (∀ v ∈ l, vR v = true) ∧ l.Pairwise (fun a b => befS a.mAt b.mAt) := by
  have h := allFrom_pair (P := vR) (Q := fun a b => ltI (cmpS a.mAt b.mAt) 0) (fun a b c h1 h2 => by
    rw [ltB] at *; exact befS_trans h1 h2) l
  simp only [ltB] at h
  rw [← h]
  unfold chR
  rw [Bool.and_eq_true, leI_iff, show ((l.length : Int) ≤ 64) = (l.length ≤ 64) by apply propext; omega]
  rfl
theorem cmpK_trans {a b c : ByteArray} (h : cmpK a b < 0) (h' : cmpK b c < 0) : cmpK a c < 0 := cmpL_trans _ _ _ h (by unfold cmpK at h'; omega)
theorem cmpK_self (a : ByteArray) : cmpK a a = 0 := cmpL_self _
theorem cmpK_anti (a b : ByteArray) : cmpK b a = - cmpK a b := cmpL_anti _ _
theorem cmpK_trans2 {a b c : ByteArray} (h : cmpK a b < 0) (h' : cmpK b c ≤ 0) : cmpK a c < 0 := cmpL_trans _ _ _ h h'
theorem ixR_iff (l : List Entry) : ixR l = true ↔ l.length ≤ 64 ∧ (∀ e ∈ l, keyR e.mKey = true ∧ chR e.mChain = true ∧ e.mChain ≠ []) ∧ l.Pairwise (fun a b => cmpK a.mKey b.mKey < 0) := by
  have h := allFrom_pair (P := fun e : Entry => keyR e.mKey && chR e.mChain && !eqI (e.mChain.length : Int) 0) (Q := fun a b => ltI (cmpK a.mKey b.mKey) 0) (fun a b c h1 h2 => by
    rw [ltI_iff] at *; exact cmpK_trans h1 h2) l
  simp only [ltI_iff] at h
  have e : ∀ e : Entry, ((keyR e.mKey && chR e.mChain && !eqI (e.mChain.length : Int) 0) = true) = (keyR e.mKey = true ∧ chR e.mChain = true ∧ e.mChain ≠ []) := fun e => by
    apply propext
    rw [Bool.and_eq_true, Bool.and_eq_true, Bool.not_eq_true', eqI_false, and_assoc]
    have : ((e.mChain.length : Int) ≠ 0) ↔ e.mChain ≠ [] := by
      rw [← List.length_pos_iff]; omega
    rw [this]
  simp only [e] at h
  rw [← h]
  unfold ixR
  rw [Bool.and_eq_true, leI_iff, show ((l.length : Int) ≤ 64) = (l.length ≤ 64) by apply propext; omega]
  rfl
theorem dnR_iff (l : List Done) : dnR l = true ↔ l.length ≤ 8 ∧ (∀ d ∈ l, oneB d.mClient = true ∧ oneB d.mReq = true ∧ aR d.mAnswer = true) ∧ l.Pairwise (fun a b => a.mClient < b.mClient) := by
  have h := allFrom_pair (P := fun d : Done => oneB d.mClient && oneB d.mReq && aR d.mAnswer) (Q := fun a b => ltI a.mClient b.mClient) (fun a b c h1 h2 => by
    rw [ltI_iff] at *; omega) l
  simp only [ltI_iff, Bool.and_eq_true, and_assoc] at h
  rw [← h]
  unfold dnR
  rw [Bool.and_eq_true, leI_iff, show ((l.length : Int) ≤ 8) = (l.length ≤ 8) by apply propext; omega]
  have : dnQ l = fun i : Nat => (oneB (rd l (i : Int)).mClient && oneB (rd l (i : Int)).mReq && aR (rd l (i : Int)).mAnswer) && (decide (i = 0) || ltI (rd l ((i : Int) - 1)).mClient (rd l (i : Int)).mClient) := rfl
  rw [this]
theorem cR_iff (c : Cell) : cR c = true ↔ c.mShards.length ≤ 8 ∧ stR c.mTop = true ∧ noB c.mDropped = true ∧ (∀ s ∈ c.mShards, shR s = true ∧ upR s c.mTop = true) ∧ c.mShards.Pairwise (fun a b => a.mID < b.mID) := by
  have h := allFrom_pair (P := fun s : Shard => shR s && upR s c.mTop) (Q := fun a b => ltI a.mID b.mID) (fun a b c h1 h2 => by
    rw [ltI_iff] at *; omega) c.mShards
  simp only [ltI_iff, Bool.and_eq_true] at h
  rw [← h]
  unfold cR
  rw [Bool.and_eq_true, Bool.and_eq_true, Bool.and_eq_true, leI_iff, and_assoc, and_assoc, show ((c.mShards.length : Int) ≤ 8) = (c.mShards.length ≤ 8) by apply propext; omega]
  have : cQ c = fun i : Nat => (shR (rd c.mShards (i : Int)) && upR (rd c.mShards (i : Int)) c.mTop) && (decide (i = 0) || ltI (rd c.mShards ((i : Int) - 1)).mID (rd c.mShards (i : Int)).mID) := rfl
  rw [this]
/-- What is asked of a shard alone. -/
def shH (s : Shard) : Bool := oneB s.mID && oneB s.mEpoch && noB s.mHold && noB s.mSeen && noB s.mMove && noB s.mClosed && !ltI s.mPhase 1 && !ltI 3 s.mPhase
theorem shR_iff (s : Shard) : shR s = true ↔ shH s = true ∧ spR s.mSpan = true ∧ ixR s.mEntries = true ∧ stR s.mMark = true ∧ stR s.mTop = true ∧ dnR s.mDone = true ∧ ∀ e ∈ s.mEntries, hasR s.mSpan e.mKey = true := by
  unfold shR
  rw [← List.all_eq_true, Bool.and_eq_true, Bool.and_eq_true, Bool.and_eq_true, Bool.and_eq_true, Bool.and_eq_true, Bool.and_eq_true]
  simp only [and_assoc]
  rfl
theorem aR_items {a : Answer} (h : aR a = true) : a.mItems = [] := by
  unfold aR at h
  simp only [Bool.and_eq_true, eqI_iff] at h
  exact List.length_eq_zero_iff.1 (by omega)
theorem keyR_size {x : ByteArray} (h : keyR x = true) : 1 ≤ x.size ∧ x.size ≤ 16 := by
  unfold keyR at h
  rw [Bool.and_eq_true, decide_eq_true_eq] at h
  exact h.2
theorem shR_sm {s : Shard} (h : shR s = true) : SmS2 s := by
  rw [shR_iff] at h
  obtain ⟨_, h1, h2, _, _, h3, _⟩ := h
  rw [ixR_iff] at h2
  rw [dnR_iff] at h3
  have sp : s.mSpan.mLo.size ≤ 16 ∧ s.mSpan.mHi.size ≤ 16 := by
    unfold spR at h1
    rw [Bool.and_eq_true, Bool.or_eq_true, Bool.or_eq_true, Bool.and_eq_true, strEq_nil, strEq_nil, decide_eq_true_eq, decide_eq_true_eq] at h1
    constructor
    · rcases h1.1 with h | h
      · omega
      · exact (keyR_size h).2
    · rcases h1.2 with h | h
      · omega
      · exact (keyR_size h.1).2
  exact { entries := by omega
          chains := fun e he => by have := ((chR_iff _).1 (h2.2.1 e he).2.1).1; omega
          done := by omega
          items := fun d hd => by rw [aR_items (h3.2.1 d hd).2.2]; simp
          keys := fun e he => by have := (keyR_size (h2.2.1 e he).1).2; omega
          lo := by omega
          hi := by omega }
theorem cR_sm {c : Cell} (h : cR c = true) : SmC2 c := by
  rw [cR_iff] at h
  exact ⟨by omega, fun s hs => shR_sm (h.2.2.2.1 s hs).1⟩
end Go.Proofs.Gd
set_option linter.unusedVariables false
set_option linter.unusedSimpArgs false
namespace Go.Proofs.Gd
open Go Go.Awp
def zV : Version := ⟨⟨0, 0, 0⟩, false, ⟨#[]⟩⟩
/-- How many versions are not later. -/
def upN (l : List Version) (t : Stamp) : Nat := aheadN (fun v => leI (cmpS v.mAt t) 0) l
def atV (l : List Version) (t : Stamp) : Version × Bool := if upN l t = 0 then (zV, false) else (rd l ((upN l t : Int) - 1), true)
theorem upN_le (l : List Version) (t : Stamp) : upN l t ≤ l.length := ahead_le _ _
theorem upN_lt {l : List Version} {t : Stamp} {i : Nat} (h : i < l.length) (hi : i < upN l t) : ¬ befS t l[i].mAt := by
  have := ahead_lt _ l i h hi
  rwa [leB] at this
theorem upN_ge {l : List Version} {t : Stamp} (hp : l.Pairwise (fun a b => befS a.mAt b.mAt)) {i : Nat} (h : i < l.length) (hi : upN l t ≤ i) : befS t l[i].mAt := by
  have h1 := ahead_ge (fun v : Version => leI (cmpS v.mAt t) 0) l (by unfold upN at hi; omega)
  rw [Bool.eq_false_iff, Ne, leB, Classical.not_not] at h1
  by_cases e : upN l t = i
  · subst e; exact h1
  · rw [List.pairwise_iff_getElem] at hp
    exact befS_trans h1 (hp _ _ (by unfold upN at hi e; omega) h (by unfold upN at hi e; omega))
theorem upN_at {l : List Version} {t : Stamp} {n : Nat} (hn : n ≤ l.length) (h1 : ∀ i (hi : i < n) (h : i < l.length), ¬ befS t l[i].mAt) (h2 : ∀ (h : n < l.length), befS t l[n].mAt) : upN l t = n :=
  ahead_at _ l n hn (fun i hi h => by rw [leB]; exact h1 i hi h) fun h => by rw [Bool.eq_false_iff, Ne, leB, Classical.not_not]; exact h2 h
theorem V183 (y : Version) (t : Stamp) : Ev (fun k => F183 k y t) (cmpS y.mAt t) := Ev.bind (T42 _ _) (Ev.of fun _ => rfl)
/-- chain.upto. -/
theorem V169 (l : List Version) (t : Stamp) (h : chR l = true) : Ev (fun k => F169 k l t) (upN l t : Int) := by
  obtain ⟨hl, _, hp0⟩ := (chR_iff l).1 h
  have hp := hp0
  rw [List.pairwise_iff_getElem] at hp
  have hb := bin_ev (l := l) (f := F182_183_l1 l t) (p := fun k y => F183 k y t) (q := fun y => cmpS y.mAt t) (by omega) (fun _ _ _ => rfl) (fun y _ => V183 y t) (fun i j hij hj hh => by
    have hh : cmpS (rd l (j : Int)).mAt t < 0 := hh
    show cmpS (rd l (i : Int)).mAt t < 0
    rw [rd_nat _ _ hj, cmpS_lt] at hh
    rw [rd_nat _ _ (by omega), cmpS_lt]
    exact befS_trans (hp i j (by omega) hj hij) hh)
  refine EvP.ev (EvP.bind (EvP.bind (hb.mono fun r hr => ?_)))
  obtain ⟨n, rfl, hn, q1, q2⟩ := hr
  have q1 : ∀ i (hi : i < n) (h : i < l.length), befS l[i].mAt t := fun i hi h => by
    have : cmpS (rd l (i : Int)).mAt t < 0 := q1 i hi
    rwa [rd_nat _ _ h, cmpS_lt] at this
  have q2 : ∀ i, n ≤ i → ∀ (h : i < l.length), ¬ befS l[i].mAt t := fun i hi h => by
    have : ¬ cmpS (rd l (i : Int)).mAt t < 0 := q2 i hi h
    rwa [rd_nat _ _ h, cmpS_lt] at this
  refine EvP.guard ?_ ?_
  · rw [Bool.or_eq_true, Bool.not_eq_true', ltI_false, inR_iff]; omega
  · rw [ltI_nat]
    by_cases hlt : n < l.length
    · rw [decide_eq_true hlt]
      refine EvP.bind ((V183 _ t).evP.mono fun x hx => ?_)
      subst hx
      refine EvP.some ?_
      show EvP (fun k => bif eqI (cmpS (rd l (n : Int)).mAt t) 0 then some (IntKind.wrap .i64 ((n : Int) + 1)) else some (n : Int)) _
      rw [rd_nat _ _ hlt]
      have h3 := q2 n (Nat.le_refl _) hlt
      refine EvP.cond (fun hc => EvP.some ?_) fun hc => EvP.some ?_
      · rw [eqI_iff] at hc
        have h4 : ¬ befS t l[n].mAt := by rw [← cmpS_le]; omega
        have e := befS_tri h3 h4
        rw [i64z (by omega), upN_at (n := n + 1) (by omega) (fun i hi h' => by
          by_cases e2 : i = n
          · subst e2; exact h4
          · have := q1 i (by omega) h'
            intro h5; exact befS_irr _ (befS_trans this h5)) (fun h' => by
          rw [← e]; exact hp n (n + 1) hlt h' (by omega))]
        omega
      · rw [eqI_false] at hc
        rw [upN_at hn (fun i hi h' h5 => befS_irr _ (befS_trans (q1 i hi h') h5)) fun h' => ?_]
        apply Classical.byContradiction
        intro h4
        rw [← cmpS_le] at h4
        rw [← cmpS_lt] at h3
        omega
    · rw [decide_eq_false hlt]
      refine EvP.bind (EvP.some (EvP.some (EvP.some ?_)))
      show (n : Int) = _
      rw [upN_at hn (fun i hi h' h5 => befS_irr _ (befS_trans (q1 i hi h') h5)) fun h' => absurd h' hlt]
/-- chain.At. -/
theorem V150 (l : List Version) (t : Stamp) (h : chR l = true) : Ev (fun k => F150 k l t) (atV l t) := by
  obtain ⟨hl, _, _⟩ := (chR_iff l).1 h
  have hu := upN_le l t
  refine Ev.bind (V136 l (by omega)) ?_
  rw [h]
  refine Ev.bind (V169 l t h) ?_
  unfold atV
  by_cases h0 : upN l t = 0
  · rw [if_pos h0, h0]; exact Ev.of fun _ => rfl
  · rw [if_neg h0]
    have e1 : eqI (upN l t : Int) 0 = false := by rw [eqI_false]; omega
    rw [e1]
    show Ev (fun k => bif inR (IntKind.wrap .i64 ((upN l t : Int) - 1)) l.length then some (rd l (IntKind.wrap .i64 ((upN l t : Int) - 1)), true) else none) _
    rw [i64z (by omega)]
    exact Ev.guard (by rw [inR_iff]; omega) (Ev.of fun _ => rfl)
def valV (l : List Version) (t : Stamp) : ByteArray × Bool := ((atV l t).1.mValue, (atV l t).2 && !(atV l t).1.mGone)
theorem V162 (l : List Version) (t : Stamp) (h : chR l = true) : Ev (fun k => F162 k l t) (valV l t) := Ev.bind (V150 l t h) (Ev.of fun _ => rfl)
theorem vR_gone {v : Version} (h : vR v = true) (hg : v.mGone = true) : v.mValue = ⟨#[]⟩ := by
  unfold vR at h
  rw [Bool.and_eq_true, Bool.or_eq_true, hg] at h
  rcases h.2 with h | h
  · cases h
  · exact strEq_true.1 h
def ofL : List Entry → ByteArray → List Version
  | [], _ => []
  | e :: l, x => bif strEq e.mKey x then e.mChain else ofL l x
theorem ofL_none : ∀ (l : List Entry) (x : ByteArray), (∀ e ∈ l, e.mKey ≠ x) → ofL l x = []
  | [], _, _ => rfl
  | e :: l, x, h => by rw [ofL, strEq_false.2 (h e (by simp))]; exact ofL_none l x fun y hy => h y (by simp [hy])
theorem ofL_at : ∀ (l : List Entry) (x : ByteArray) (n : Nat) (hn : n < l.length), l[n].mKey = x → (∀ i (hi : i < n), (l[i]'(by omega)).mKey ≠ x) → ofL l x = l[n].mChain
  | e :: l, x, 0, hn, h, _ => by rw [ofL, (strEq_true.2 h : strEq e.mKey x = true)]; rfl
  | e :: l, x, n + 1, hn, h, hh => by
    rw [ofL, (strEq_false.2 (hh 0 (by omega)) : strEq e.mKey x = false)]
    exact ofL_at l x n (by simpa using hn) h fun i hi => hh (i + 1) (by omega)
theorem ofL_mem : ∀ (l : List Entry) (x : ByteArray), ofL l x = [] ∨ ∃ e ∈ l, e.mKey = x ∧ ofL l x = e.mChain
  | [], _ => .inl rfl
  | e :: l, x => by
    rw [ofL]
    cases h : strEq e.mKey x with
    | true => exact .inr ⟨e, by simp, strEq_true.1 h, rfl⟩
    | false =>
      rcases ofL_mem l x with h1 | ⟨e', h1, h2, h3⟩
      · exact .inl h1
      · exact .inr ⟨e', by simp [h1], h2, h3⟩
theorem chR_nil : chR [] = true := by rw [chR_iff]; simp
theorem ofL_chR {l : List Entry} (h : ixR l = true) (x : ByteArray) : chR (ofL l x) = true := by
  rcases ofL_mem l x with h1 | ⟨e, h1, _, h3⟩
  · rw [h1]; exact chR_nil
  · rw [h3]; exact (((ixR_iff l).1 h).2.1 e h1).2.1
/-- Where a key stands, or is to stand. -/
structure PosK (l : List Entry) (x : ByteArray) (n : Nat) : Prop where
  le : n ≤ l.length
  lt : ∀ i (hi : i < n) (h : i < l.length), cmpK l[i].mKey x < 0
  ge : ∀ i (hi : n ≤ i) (h : i < l.length), 0 ≤ cmpK l[i].mKey x
theorem V172 (y : Entry) (x : ByteArray) : Ev (fun k => F172 k y x) (cmpK y.mKey x) := Ev.bind (V124 _ _) (Ev.of fun _ => rfl)
theorem V148 (l : List Entry) (x : ByteArray) (h : ixR l = true) : EvP (fun k => F148 k l x) (fun r => ∃ n : Nat, r.1 = (n : Int) ∧ PosK l x n ∧ r.2 = (decide (n < l.length) && eqI (cmpK (rd l (n : Int)).mKey x) 0)) := by
  obtain ⟨hl, _, hp⟩ := (ixR_iff l).1 h
  rw [List.pairwise_iff_getElem] at hp
  have hb := bin_ev (l := l) (f := F171_172_l1 l x) (p := fun k y => F172 k y x) (q := fun y => cmpK y.mKey x) (by omega) (fun _ _ _ => rfl) (fun y _ => V172 y x) (fun i j hij hj hh => by
    have hh : cmpK (rd l (j : Int)).mKey x < 0 := hh
    show cmpK (rd l (i : Int)).mKey x < 0
    rw [rd_nat _ _ hj] at hh
    rw [rd_nat _ _ (by omega)]
    exact cmpK_trans (hp i j (by omega) hj hij) hh)
  refine EvP.bind (EvP.bind (hb.mono fun r hr => ?_))
  obtain ⟨n, rfl, hn, q1, q2⟩ := hr
  have hpos : PosK l x n := ⟨hn, fun i hi h => by
    have : cmpK (rd l (i : Int)).mKey x < 0 := q1 i hi
    rwa [rd_nat _ _ h] at this, fun i hi h => by
    have : ¬ cmpK (rd l (i : Int)).mKey x < 0 := q2 i hi h
    rw [rd_nat _ _ h] at this; omega⟩
  refine EvP.guard ?_ ?_
  · rw [Bool.or_eq_true, Bool.not_eq_true', ltI_false, inR_iff]; omega
  · rw [ltI_nat]
    by_cases hlt : n < l.length
    · rw [decide_eq_true hlt]
      refine EvP.bind ((V172 _ x).evP.mono fun y hy => ?_)
      subst hy
      refine EvP.some (EvP.some ⟨n, rfl, hpos, ?_⟩)
      rw [decide_eq_true hlt]
    · rw [decide_eq_false hlt]
      exact EvP.bind (EvP.some (EvP.some (EvP.some ⟨n, rfl, hpos, by rw [decide_eq_false hlt]; rfl⟩)))
/-- The chain of a key, by its place. -/
theorem ofL_pos {l : List Entry} {x : ByteArray} {n : Nat} (h : ixR l = true) (hp : PosK l x n) : ofL l x = if hn : n < l.length then (if l[n].mKey = x then l[n].mChain else []) else [] := by
  obtain ⟨_, _, hs⟩ := (ixR_iff l).1 h
  rw [List.pairwise_iff_getElem] at hs
  have low : ∀ i (hi : i < n) (h : i < l.length), l[i].mKey ≠ x := fun i hi h e => by
    have := hp.lt i hi h
    rw [e, cmpK_self] at this; omega
  by_cases hn : n < l.length
  · rw [dif_pos hn]
    by_cases e : l[n].mKey = x
    · rw [if_pos e, ofL_at l x n hn e fun i hi => low i hi (by omega)]
    · rw [if_neg e, ofL_none]
      intro y hy e2
      obtain ⟨j, hj, rfl⟩ := List.mem_iff_getElem.1 hy
      by_cases h1 : j < n
      · exact low j h1 hj e2
      · by_cases h2 : j = n
        · subst h2; exact e e2
        · have h3 := hs n j hn hj (by omega)
          have h4 := hp.ge n (Nat.le_refl _) hn
          rw [e2] at h3
          omega
  · rw [dif_neg hn, ofL_none]
    intro y hy e2
    obtain ⟨j, hj, rfl⟩ := List.mem_iff_getElem.1 hy
    exact low j (by have := hp.le; omega) hj e2
def readE (l : List Entry) (x : ByteArray) (t : Stamp) : Version × Bool := atV (ofL l x) t
/-- index.Read. -/
theorem V118 (l : List Entry) (x : ByteArray) (t : Stamp) (h : ixR l = true) : Ev (fun k => F118 k l x t) (readE l x t) := by
  obtain ⟨hl, hm, _⟩ := (ixR_iff l).1 h
  refine Ev.bind (V81 l (by omega) fun e he => by have := ((chR_iff _).1 (hm e he).2.1).1; omega) ?_
  rw [h]
  refine EvP.ev (EvP.bind ((V148 l x h).mono fun r hr => ?_))
  obtain ⟨r1, r2⟩ := r
  obtain ⟨n, e, hp, q⟩ := hr
  simp only at e q
  subst e
  have ho := ofL_pos h hp
  show EvP (fun k => bif (!(!(!r2)) || inR (n : Int) l.length) then _ else none) _
  unfold readE
  by_cases hn : n < l.length
  · rw [dif_pos hn] at ho
    rw [inR_mk hn, Bool.or_true]
    rw [decide_eq_true hn, Bool.true_and, rd_nat _ _ hn] at q
    show EvP (fun k => bif ((!r2) || (!strEq (rd l (n : Int)).mKey x)) then _ else _) _
    rw [rd_nat _ _ hn]
    by_cases e : l[n].mKey = x
    · rw [if_pos e] at ho
      rw [e, cmpK_self] at q
      have q : r2 = true := q
      subst q
      rw [strEq_true.2 e, ho]
      refine EvP.bind ((V150 _ t (hm _ (List.getElem_mem hn)).2.1).evP.mono fun v hv => ?_)
      subst hv
      exact EvP.some rfl
    · rw [if_neg e] at ho
      rw [strEq_false.2 e, ho]
      refine EvP.cond (fun _ => EvP.some rfl) fun hc => ?_
      simp at hc
  · rw [dif_neg hn] at ho
    rw [decide_eq_false hn, Bool.false_and] at q
    subst q
    rw [ho]
    exact EvP.some rfl
def prV (l : List Version) (t : Stamp) : List Version := if 0 < upN l t ∧ (rd l ((upN l t : Int) - 1)).mGone = false then l.drop (upN l t - 1) else l.drop (upN l t)
def prE (l : List Entry) (t : Stamp) : List Entry := l.filterMap fun e => if 0 < (prV e.mChain t).length then some { e with mChain := prV e.mChain t } else none
theorem V170 (l : List Version) (h : l.length ≤ 1000) : Ev (fun k => F170 k l) l := Ev.of fun k => by
  unfold F170
  rw [appOK_mk (by simp; omega) (by simp; omega)]; rfl
/-- chain.Prune. -/
theorem V144 (l : List Version) (t : Stamp) (h : chR l = true) : Ev (fun k => F144 k l t) (prV l t) := by
  obtain ⟨hl, _, _⟩ := (chR_iff l).1 h
  have hu := upN_le l t
  refine Ev.bind (V136 l (by omega)) ?_
  rw [h]
  refine Ev.bind (V169 l t h) ?_
  unfold prV
  rw [i64z (by omega), show ltI 0 (upN l t : Int) = decide (0 < upN l t) by rw [show (0 : Int) = ((0 : Nat) : Int) from rfl, ltI_nat]]
  refine Ev.guard ?_ (Ev.cond (fun hc => ?_) fun hc => ?_)
  · rw [Bool.or_eq_true, Bool.not_eq_true', decide_eq_false_iff_not, inR_iff]; omega
  · rw [Bool.and_eq_true, decide_eq_true_eq, Bool.not_eq_true'] at hc
    rw [if_pos hc]
    refine Ev.guard (cutOK_mk (by omega) (by omega) (by omega)) (Ev.bind (V170 _ (by simp; omega)) (Ev.of fun _ => ?_))
    congr 2; omega
  · rw [if_neg (by rw [Bool.and_eq_false_iff, decide_eq_false_iff_not, Bool.not_eq_false'] at hc; rintro ⟨h1, h2⟩; rcases hc with hc | hc; exact hc h1; rw [hc] at h2; cases h2)]
    refine Ev.guard (cutOK_mk (by omega) (by omega) (by omega)) (Ev.bind (V170 _ (by simp; omega)) (Ev.of fun _ => ?_))
    congr 2
/-- index.Prune. -/
theorem V99 (l : List Entry) (t : Stamp) (h : ixR l = true) : Ev (fun k => F99 k l t) (prE l t) := by
  obtain ⟨hl, hm, _⟩ := (ixR_iff l).1 h
  refine Ev.bind (V81 l (by omega) fun e he => by have := ((chR_iff _).1 (hm e he).2.1).1; omega) ?_
  rw [h]
  refine Ev.bind (x := prE l t) (fm_ev _ (fun acc => ?_) (fun i hi acc r ha hr => ?_)) (Ev.of fun _ => rfl)
  · refine Ev.from 1 fun k => ?_
    show F99_l1 l t (k + 1) (acc, _) = _
    rw [F99_l1, ltI_nat, decide_eq_false (Nat.lt_irrefl _)]; rfl
  · refine Ev.succ (fun k => by rw [F99_l1]) ?_
    rw [ltI_nat, decide_eq_true hi, inR_mk hi, i64z (by omega), rd_nat _ _ hi]
    refine Ev.bind (V144 _ t (hm _ (List.getElem_mem hi)).2.1) ?_
    rw [show ltI 0 ((prV l[i].mChain t).length : Int) = decide (0 < (prV l[i].mChain t).length) by rw [show (0 : Int) = ((0 : Nat) : Int) from rfl, ltI_nat]]
    by_cases hc : 0 < (prV l[i].mChain t).length
    · rw [if_pos hc] at hr
      rw [decide_eq_true hc]
      exact Ev.guard (appOK_mk (by simp; omega) (by simp; omega)) hr
    · rw [if_neg hc] at hr
      rw [decide_eq_false hc]
      simpa using hr
end Go.Proofs.Gd
