import Derived.Test.YthhpelmjnmlgjaaDoorEdWalk
import Derived.KernelRfl
set_option linter.unusedVariables false
namespace Go.Proofs.Ed
open Go Go.Awp Go.Proofs
set_option maxRecDepth 100000 in
set_option maxHeartbeats 4000000 in
theorem s57 (k : Nat) (t0 : List Entry) (r : Bool) (h : F57 k t0 = some r) : Awp.Spec Tryd.prog amb 57 [(.sl 2 (t0.map eEntry))] (.ds [(.s (.bool r))]) := by
  rw [F57] at h
  refine spec_of Tryd.func57 rfl (ble _ _ rfl) fun w0 ok0 lt0 hA => ?_
  refine ht_seq ?_
  refine ht_region ?_
  refine sq_cons ⟨_, [(.t 2, bV false)]⟩ (v_move (.inr rfl) trivial rfl (ble _ _ rfl) rfl) ?_
  refine sq_nil ?_
  refine ht_gj (go_id' h) (fun _ => tell [(.t 0, .d (.sl 2 (t0.map eEntry)))]) (fun _ h => ?_) (fun v1 K2 h j4 r5 => ?_)
  · refine ht_seq ?_
    refine ht_region ?_
    refine sq_cons ⟨_, [(.t 45, .d (.sl 2 (t0.map eEntry)))]⟩ (v_move (.inl rfl) trivial rfl (ble _ _ rfl) rfl) ?_
    refine sq_cons ⟨_, [(.t 46, iV (t0.length : Int))]⟩ (w_len t0 eEntry rfl rfl trivial rfl (ble _ _ rfl) slT47 rfl) ?_
    refine sq_cons ⟨_, [(.t 47, bV (leI (t0.length : Int) 64))]⟩ (v_bin rfl trivial rfl (ble _ _ rfl) rfl rfl (b_leq rfl)) ?_
    refine sq_cons ⟨_, [(.t 2, bV (leI (t0.length : Int) 64))]⟩ (v_move (.inr rfl) trivial rfl (ble _ _ rfl) rfl) ?_
    refine sq_nil ?_
    refine ht_ret ?_
    cases h
    exact ret1 rfl (.tmp rfl)
  · refine ht_seq ?_
    refine ht_region ?_
    refine sq_cons ⟨_, [(.t 5, .d (.sl 2 (t0.map eEntry)))]⟩ (v_move (.inl rfl) trivial rfl (ble _ _ rfl) rfl) ?_
    refine sq_cons ⟨_, [(.t 6, iV (t0.length : Int))]⟩ (w_len t0 eEntry rfl rfl trivial rfl (ble _ _ rfl) slT47 rfl) ?_
    refine sq_cons ⟨_, [(.t 7, iV 0)]⟩ (v_move (.inl rfl) trivial rfl (ble _ _ rfl) rfl) ?_
    refine sq_nil ?_
    refine ht_block ?_
    refine ht_rd h (fun _ => rfl) (fun t7 => tell [(.t 0, .d (.sl 2 (t0.map eEntry))), (.t 5, .d (.sl 2 (t0.map eEntry))), (.t 6, iV (t0.length : Int)), (.t 7, iV t7)]) (wk_ren _ (fun i => i) rfl ⟨rfl, rfl, rfl, rfl, trivial⟩) fun k t7 h K56 j7 => ?_
    rw [F57_l1] at h
    refine ht_seq ?_
    refine ht_region ?_
    refine sq_cons ⟨_, [(.t 8, bV (ltI t7 (t0.length : Int)))]⟩ (v_bin rfl trivial rfl (ble _ _ rfl) rfl rfl (b_lss rfl)) ?_
    refine sq_nil ?_
    refine ht_seq ?_
    refine ht_cond (b := (ltI t7 (t0.length : Int))) rfl (fun e9 => ?_) (fun e9 => ?_)
    · replace h := cpos e9 h
      refine ht_skip ?_
      refine ht_seq ?_
      refine ht_block ?_
      refine ht_seq ?_
      refine ht_region ?_
      refine sq_cons ⟨_, [(.t 9, iV t7)]⟩ (v_move (.inl rfl) trivial rfl (ble _ _ rfl) rfl) ?_
      obtain ⟨e10, h⟩ := gpos h
      refine sq_cons ⟨_, [(.t 10, .d (.dp (eEntry (rd t0 t7))))]⟩ (w_idx t0 eEntry rfl trivial rfl (ble _ _ rfl) slT47 rfl rfl e10) ?_
      refine sq_cons ⟨_, [(.t 11, .d (.agg (eEntry (rd t0 t7))))]⟩ (w_ldp (eEntry (rd t0 t7)) (eEntry (rd t0 t7)) rfl trivial rfl (ble _ _ rfl) ag100 rfl (ble _ _ rfl) rfl) ?_
      refine sq_cons _ (v_alloc (id := 4) (cs := zc100) rfl trivial rfl (ble _ _ rfl) zu100 rfl ft100 rfl) ?_
      refine sq_cons ⟨_, [(.t 3, iV t7)]⟩ (v_move (.inr rfl) trivial rfl (ble _ _ rfl) rfl) ?_
      refine sq_cons _ (v_store_box (id := 4) (off := 0) (cs := (eEntry (rd t0 t7)).map V.d) rfl trivial rfl sz100 rfl rfl rfl rfl (ones_of rfl) (ble _ _ rfl)) ?_
      refine sq_nil ?_
      refine ht_seq ?_
      refine ht_region_draw mixed ?_
      refine rg_cons ⟨_, [(.t 12, .ptr 4 0)]⟩ (v_field_box (off := 0) (a0 := 0) rfl trivial rfl (ble _ _ rfl) fo100_0 rfl) ?_
      refine rg_cons ⟨_, [(.t 13, sV (rd t0 t7).mKey)]⟩ (v_load_box1 (id := 4) (off := 0) rfl trivial rfl (ble _ _ rfl) onT9 rfl rfl (ble _ _ rfl) rfl) ?_
      obtain ⟨t14, c11, h⟩ := bpos h
      refine rg_cons ⟨_, [(.t 14, bV t14)]⟩ (w_call (ds := [(.s (.string (rd t0 t7).mKey))]) (caps := []) (l := [(.s (.bool t14))]) (s14 k (rd t0 t7).mKey _ c11) rfl rfl rfl en14 trivial rfl (ble _ _ rfl) (.inl ⟨rfl, rfl⟩) rfl rfl) ?_
      refine rg_cons ⟨_, [(.t 15, bV (!t14))]⟩ (v_un rfl trivial rfl (ble _ _ rfl) rfl (u_not rfl)) ?_
      refine rg_cons ⟨_, [(.t 16, bV (!t14))]⟩ (v_move (.inl rfl) trivial rfl (ble _ _ rfl) rfl) ?_
      refine rg_cons ⟨_, [(.t 17, mg (!(!t14)) (.ptr 4 1))]⟩ (v_cF rfl rfl rfl (ble _ _ rfl) rfl fun e12 => (v_field_box (off := 0) (a0 := 1) rfl ⟨_, rfl, be e12⟩ rfl (ble _ _ rfl) fo100_1 rfl)) ?_
      refine rg_cons ⟨_, [(.t 18, mg (!(!t14)) (.d (.sl 5 ((rd t0 t7).mChain.map eVersion))))]⟩ (v_cF rfl rfl rfl (ble _ _ rfl) rfl fun e13 => (v_load_box1 (id := 4) (off := 1) rfl ⟨_, rfl, be e13⟩ rfl (ble _ _ rfl) onT98 (gv (nF e13)) rfl (ble _ _ rfl) rfl)) ?_
      obtain ⟨t19, c15, h⟩ := bpos h
      refine rg_cons ⟨_, [(.t 19, mg (!(!t14)) (bV t19))]⟩ (v_cF rfl rfl rfl (ble _ _ rfl) rfl fun e14 => (w_call (ds := [(.sl 5 ((rd t0 t7).mChain.map eVersion))]) (caps := []) (l := [(.s (.bool t19))]) (s79 k (rd t0 t7).mChain _ (cpos (nF e14) c15)) rfl rfl rfl en79 ⟨_, rfl, be e14⟩ rfl (ble _ _ rfl) (.inl ⟨rfl, rfl⟩) (cc (gv (nF e14)) rfl) rfl)) ?_
      refine rg_cons ⟨_, [(.t 20, mg (!(!t14)) (bV (!t19)))]⟩ (v_cF rfl rfl rfl (ble _ _ rfl) rfl fun e16 => (v_un rfl ⟨_, rfl, be e16⟩ rfl (ble _ _ rfl) (gv (nF e16)) (u_not rfl))) ?_
      refine rg_cons ⟨_, [(.t 21, bV ((!t14) || (!t19)))]⟩ (v_pickB rfl trivial rfl (ble _ _ rfl) rfl (fun e17 => rfl) (fun e18 => (gv (nF e18))) (pO _ _)) ?_
      refine rg_cons ⟨_, [(.t 22, bV ((!t14) || (!t19)))]⟩ (v_move (.inl rfl) trivial rfl (ble _ _ rfl) rfl) ?_
      refine rg_cons ⟨_, [(.t 23, mg (!((!t14) || (!t19))) (.ptr 4 1))]⟩ (v_cF rfl rfl rfl (ble _ _ rfl) rfl fun e19 => (v_field_box (off := 0) (a0 := 1) rfl ⟨_, rfl, be e19⟩ rfl (ble _ _ rfl) fo100_1 rfl)) ?_
      refine rg_cons ⟨_, [(.t 24, mg (!((!t14) || (!t19))) (.d (.sl 5 ((rd t0 t7).mChain.map eVersion))))]⟩ (v_cF rfl rfl rfl (ble _ _ rfl) rfl fun e20 => (v_load_box1 (id := 4) (off := 1) rfl ⟨_, rfl, be e20⟩ rfl (ble _ _ rfl) onT98 (gv (nF e20)) rfl (ble _ _ rfl) rfl)) ?_
      refine rg_cons ⟨_, [(.t 25, mg (!((!t14) || (!t19))) (iV ((rd t0 t7).mChain.length : Int)))]⟩ (v_cF rfl rfl rfl (ble _ _ rfl) rfl fun e21 => (w_len (rd t0 t7).mChain eVersion rfl rfl ⟨_, rfl, be e21⟩ rfl (ble _ _ rfl) slT98 (gv (nF e21)))) ?_
      refine rg_cons ⟨_, [(.t 26, mg (!((!t14) || (!t19))) (bV (eqI ((rd t0 t7).mChain.length : Int) 0)))]⟩ (v_cF rfl rfl rfl (ble _ _ rfl) rfl fun e22 => (v_bin rfl ⟨_, rfl, be e22⟩ rfl (ble _ _ rfl) (gv (nF e22)) rfl (b_eql rfl))) ?_
      refine rg_cons ⟨_, [(.t 27, bV (((!t14) || (!t19)) || (eqI ((rd t0 t7).mChain.length : Int) 0)))]⟩ (v_pickB rfl trivial rfl (ble _ _ rfl) rfl (fun e23 => rfl) (fun e24 => (gv (nF e24))) (pO _ _)) ?_
      refine rg_cons ⟨_, [(.t 28, bV (((!t14) || (!t19)) || (eqI ((rd t0 t7).mChain.length : Int) 0)))]⟩ (v_move (.inl rfl) trivial rfl (ble _ _ rfl) rfl) ?_
      refine rg_cons ⟨_, [(.t 29, mg (!(((!t14) || (!t19)) || (eqI ((rd t0 t7).mChain.length : Int) 0))) (iV t7))]⟩ (v_cF rfl rfl rfl (ble _ _ rfl) rfl fun e25 => (v_move (.inl rfl) ⟨_, rfl, be e25⟩ rfl (ble _ _ rfl) rfl)) ?_
      refine rg_cons ⟨_, [(.t 30, mg (!(((!t14) || (!t19)) || (eqI ((rd t0 t7).mChain.length : Int) 0))) (bV (ltI 0 t7)))]⟩ (v_cF rfl rfl rfl (ble _ _ rfl) rfl fun e26 => (v_bin rfl ⟨_, rfl, be e26⟩ rfl (ble _ _ rfl) (gv (nF e26)) rfl (b_gtr rfl))) ?_
      refine rg_cons ⟨_, [(.t 31, mg (!(((!t14) || (!t19)) || (eqI ((rd t0 t7).mChain.length : Int) 0))) (bV (ltI 0 t7)))]⟩ (v_cF rfl rfl rfl (ble _ _ rfl) rfl fun e27 => (v_move (.inl rfl) ⟨_, rfl, be e27⟩ rfl (ble _ _ rfl) (gv (nF e27)))) ?_
      refine rg_cons ⟨_, [(.t 32, mg ((!(((!t14) || (!t19)) || (eqI ((rd t0 t7).mChain.length : Int) 0))) && (ltI 0 t7)) (.d (.sl 2 (t0.map eEntry))))]⟩ (v_mT rfl rfl rfl (ble _ _ rfl) rfl fun e28 e29 => (v_move (.inl rfl) ⟨_, rfl, bm e28 e29⟩ rfl (ble _ _ rfl) rfl)) ?_
      refine rg_cons ⟨_, [(.t 33, mg ((!(((!t14) || (!t19)) || (eqI ((rd t0 t7).mChain.length : Int) 0))) && (ltI 0 t7)) (iV t7))]⟩ (v_mT rfl rfl rfl (ble _ _ rfl) rfl fun e30 e31 => (v_move (.inl rfl) ⟨_, rfl, bm e30 e31⟩ rfl (ble _ _ rfl) rfl)) ?_
      refine rg_cons ⟨_, [(.t 34, mg ((!(((!t14) || (!t19)) || (eqI ((rd t0 t7).mChain.length : Int) 0))) && (ltI 0 t7)) (iV (IntKind.wrap .i64 (t7 - 1))))]⟩ (v_mT rfl rfl rfl (ble _ _ rfl) rfl fun e32 e33 => (v_bin rfl ⟨_, rfl, bm e32 e33⟩ rfl (ble _ _ rfl) (gv (aT e32 e33)) rfl (b_sub rfl))) ?_
      obtain ⟨e36, h⟩ := gpos h
      refine rg_cons ⟨_, [(.t 35, mg ((!(((!t14) || (!t19)) || (eqI ((rd t0 t7).mChain.length : Int) 0))) && (ltI 0 t7)) (.d (.dp (eEntry (rd t0 (IntKind.wrap .i64 (t7 - 1)))))))]⟩ (v_mT rfl rfl rfl (ble _ _ rfl) rfl fun e34 e35 => (w_idx t0 eEntry rfl ⟨_, rfl, bm e34 e35⟩ rfl (ble _ _ rfl) slT47 (gv (aT e34 e35)) (gv (aT e34 e35)) (orT e36 (aT e34 e35)))) ?_
      refine rg_cons ⟨_, [(.t 36, mg ((!(((!t14) || (!t19)) || (eqI ((rd t0 t7).mChain.length : Int) 0))) && (ltI 0 t7)) (.d (.dp (eEntry (rd t0 (IntKind.wrap .i64 (t7 - 1)))))))]⟩ (v_mT rfl rfl rfl (ble _ _ rfl) rfl fun e37 e38 => (v_field_dp (a0 := 0) (cs := (eEntry (rd t0 (IntKind.wrap .i64 (t7 - 1))))) rfl ⟨_, rfl, bm e37 e38⟩ rfl (ble _ _ rfl) fo100_0 (gv (aT e37 e38)))) ?_
      refine rg_cons ⟨_, [(.t 37, mg ((!(((!t14) || (!t19)) || (eqI ((rd t0 t7).mChain.length : Int) 0))) && (ltI 0 t7)) (sV (rd t0 (IntKind.wrap .i64 (t7 - 1))).mKey))]⟩ (v_mT rfl rfl rfl (ble _ _ rfl) rfl fun e39 e40 => (v_load_dp1 rfl ⟨_, rfl, bm e39 e40⟩ rfl (ble _ _ rfl) onT9 (gv (aT e39 e40)) rfl)) ?_
      refine rg_cons ⟨_, [(.t 38, mg ((!(((!t14) || (!t19)) || (eqI ((rd t0 t7).mChain.length : Int) 0))) && (ltI 0 t7)) (.ptr 4 0))]⟩ (v_mT rfl rfl rfl (ble _ _ rfl) rfl fun e41 e42 => (v_field_box (off := 0) (a0 := 0) rfl ⟨_, rfl, bm e41 e42⟩ rfl (ble _ _ rfl) fo100_0 rfl)) ?_
      refine rg_cons ⟨_, [(.t 39, mg ((!(((!t14) || (!t19)) || (eqI ((rd t0 t7).mChain.length : Int) 0))) && (ltI 0 t7)) (sV (rd t0 t7).mKey))]⟩ (v_mT rfl rfl rfl (ble _ _ rfl) rfl fun e43 e44 => (v_load_box1 (id := 4) (off := 0) rfl ⟨_, rfl, bm e43 e44⟩ rfl (ble _ _ rfl) onT9 (gv (aT e43 e44)) rfl (ble _ _ rfl) rfl)) ?_
      obtain ⟨t40, c47, h⟩ := bpos h
      refine rg_cons ⟨_, [(.t 40, mg ((!(((!t14) || (!t19)) || (eqI ((rd t0 t7).mChain.length : Int) 0))) && (ltI 0 t7)) (iV t40))]⟩ (v_mT rfl rfl rfl (ble _ _ rfl) rfl fun e45 e46 => (w_call (ds := [(.s (.string (rd t0 (IntKind.wrap .i64 (t7 - 1))).mKey)), (.s (.string (rd t0 t7).mKey))]) (caps := []) (l := [(.s (.int .i64 t40))]) (s43 k (rd t0 (IntKind.wrap .i64 (t7 - 1))).mKey (rd t0 t7).mKey _ (cpos (aT e45 e46) c47)) rfl rfl rfl en43 ⟨_, rfl, bm e45 e46⟩ rfl (ble _ _ rfl) (.inl ⟨rfl, rfl⟩) (cc (gv (aT e45 e46)) (cc (gv (aT e45 e46)) rfl)) rfl)) ?_
      refine rg_cons ⟨_, [(.t 41, mg ((!(((!t14) || (!t19)) || (eqI ((rd t0 t7).mChain.length : Int) 0))) && (ltI 0 t7)) (bV (leI 0 t40)))]⟩ (v_mT rfl rfl rfl (ble _ _ rfl) rfl fun e48 e49 => (v_bin rfl ⟨_, rfl, bm e48 e49⟩ rfl (ble _ _ rfl) (gv (aT e48 e49)) rfl (b_geq rfl))) ?_
      refine rg_cons ⟨_, [(.t 42, mg (!(((!t14) || (!t19)) || (eqI ((rd t0 t7).mChain.length : Int) 0))) (bV ((ltI 0 t7) && (leI 0 t40))))]⟩ (v_cF rfl rfl rfl (ble _ _ rfl) rfl fun e50 => (v_pickB rfl ⟨_, rfl, be e50⟩ rfl (ble _ _ rfl) (gv (nF e50)) (fun e51 => (gv (aT (nF e50) e51))) (fun e52 => rfl) (pA _ _))) ?_
      refine rg_cons ⟨_, [(.t 43, bV ((((!t14) || (!t19)) || (eqI ((rd t0 t7).mChain.length : Int) 0)) || ((ltI 0 t7) && (leI 0 t40))))]⟩ (v_pickB rfl trivial rfl (ble _ _ rfl) rfl (fun e53 => rfl) (fun e54 => (gv (nF e54))) (pO _ _)) ?_
      refine rg_nil ⟨by kernel_rfl, ?_⟩
      refine ht_cond (b := ((((!t14) || (!t19)) || (eqI ((rd t0 t7).mChain.length : Int) 0)) || ((ltI 0 t7) && (leI 0 t40)))) rfl (fun e55 => ?_) (fun e55 => ?_)
      · replace h := cpos e55 h
        refine ht_seq ?_
        refine ht_region ?_
        refine sq_cons ⟨_, [(.t 2, bV false)]⟩ (v_move (.inr rfl) trivial rfl (ble _ _ rfl) rfl) ?_
        refine sq_nil ?_
        refine ht_ret ?_
        cases h
        cases r5 _ rfl
        exact ret1 rfl (.tmp rfl)
      · replace h := cneg e55 h
        refine ht_skip ?_
        refine ht_region ?_
        refine sq_cons ⟨_, [(.t 44, iV (IntKind.wrap .i64 (t7 + 1)))]⟩ (v_bin rfl trivial rfl (ble _ _ rfl) rfl rfl (b_add rfl)) ?_
        refine sq_cons ⟨_, [(.t 7, iV (IntKind.wrap .i64 (t7 + 1)))]⟩ (v_move (.inl rfl) trivial rfl (ble _ _ rfl) rfl) ?_
        refine sq_nil ?_
        exact j7 _ _ h (wk_ren _ (fun i => i) rfl ⟨rfl, rfl, rfl, rfl, trivial⟩)
    · replace h := cneg e9 h
      refine ht_exit ?_
      refine tq ?_
      refine tq ?_
      refine bq_hit ?_
      cases h
      exact j4 _ _ rfl (wk_ren _ (fun i => i) rfl ⟨rfl, trivial⟩)
set_option maxRecDepth 100000 in
set_option maxHeartbeats 4000000 in
theorem s64 (k : Nat) (t0 : Int) (r : Bool) (h : F64 k t0 = some r) : Awp.Spec Tryd.prog amb 64 [(.s (.int .i64 t0))] (.ds [(.s (.bool r))]) := by
  rw [F64] at h
  refine spec_of Tryd.func64 rfl (ble _ _ rfl) fun w0 ok0 lt0 hA => ?_
  refine ht_seq ?_
  refine ht_region ?_
  refine sq_cons ⟨_, [(.t 2, bV false)]⟩ (v_move (.inr rfl) trivial rfl (ble _ _ rfl) rfl) ?_
  refine sq_nil ?_
  refine ht_seq ?_
  refine ht_region ?_
  refine sq_cons ⟨_, [(.t 3, iV t0)]⟩ (v_move (.inl rfl) trivial rfl (ble _ _ rfl) rfl) ?_
  refine sq_cons ⟨_, [(.t 4, bV (leI 1 t0))]⟩ (v_bin rfl trivial rfl (ble _ _ rfl) rfl rfl (b_geq rfl)) ?_
  refine sq_cons ⟨_, [(.t 5, bV (leI 1 t0))]⟩ (v_move (.inl rfl) trivial rfl (ble _ _ rfl) rfl) ?_
  refine sq_cons ⟨_, [(.t 6, mg (leI 1 t0) (iV t0))]⟩ (v_cT rfl rfl rfl (ble _ _ rfl) rfl fun e1 => (v_move (.inl rfl) ⟨_, rfl, be e1⟩ rfl (ble _ _ rfl) rfl)) ?_
  refine sq_cons ⟨_, [(.t 7, mg (leI 1 t0) (bV (leI t0 1099511627776)))]⟩ (v_cT rfl rfl rfl (ble _ _ rfl) rfl fun e2 => (v_bin rfl ⟨_, rfl, be e2⟩ rfl (ble _ _ rfl) (gv e2) rfl (b_leq rfl))) ?_
  refine sq_cons ⟨_, [(.t 8, bV ((leI 1 t0) && (leI t0 1099511627776)))]⟩ (v_pickB rfl trivial rfl (ble _ _ rfl) rfl (fun e3 => (gv e3)) (fun e4 => rfl) (pA _ _)) ?_
  refine sq_cons ⟨_, [(.t 2, bV ((leI 1 t0) && (leI t0 1099511627776)))]⟩ (v_move (.inr rfl) trivial rfl (ble _ _ rfl) rfl) ?_
  refine sq_nil ?_
  refine ht_ret ?_
  cases h
  exact ret1 rfl (.tmp rfl)
set_option maxRecDepth 100000 in
set_option maxHeartbeats 4000000 in
theorem s80 (k : Nat) (t0 : Answer) (r : Bool) (h : F80 k t0 = some r) : Awp.Spec Tryd.prog amb 80 [(.agg (eAnswer t0))] (.ds [(.s (.bool r))]) := by
  rw [F80] at h
  refine spec_of Tryd.func80 rfl (ble _ _ rfl) fun w0 ok0 lt0 hA => ?_
  refine ht_seq ?_
  refine ht_region ?_
  refine sq_cons ⟨_, [(.t 1, .d (.dp (eAnswer t0)))]⟩ (v_box_d (cs := (eAnswer t0)) rfl trivial rfl (ble _ _ rfl) rfl rfl (ones_of rfl)) ?_
  refine sq_cons ⟨_, [(.t 2, bV false)]⟩ (v_move (.inr rfl) trivial rfl (ble _ _ rfl) rfl) ?_
  refine sq_nil ?_
  refine ht_seq ?_
  refine ht_region ?_
  refine sq_cons ⟨_, [(.t 3, .d (.dp (eAnswer t0)))]⟩ (v_field_dp (a0 := 0) (cs := (eAnswer t0)) rfl trivial rfl (ble _ _ rfl) fo35_0 rfl) ?_
  refine sq_cons ⟨_, [(.t 4, iV t0.mErr)]⟩ (v_load_dp1 rfl trivial rfl (ble _ _ rfl) onT32 rfl rfl) ?_
  refine sq_cons ⟨_, [(.t 5, bV (leI 0 t0.mErr))]⟩ (v_bin rfl trivial rfl (ble _ _ rfl) rfl rfl (b_geq rfl)) ?_
  refine sq_cons ⟨_, [(.t 6, bV (leI 0 t0.mErr))]⟩ (v_move (.inl rfl) trivial rfl (ble _ _ rfl) rfl) ?_
  refine sq_cons ⟨_, [(.t 7, mg (leI 0 t0.mErr) (.d (.dp (eAnswer t0))))]⟩ (v_cT rfl rfl rfl (ble _ _ rfl) rfl fun e1 => (v_field_dp (a0 := 0) (cs := (eAnswer t0)) rfl ⟨_, rfl, be e1⟩ rfl (ble _ _ rfl) fo35_0 rfl)) ?_
  refine sq_cons ⟨_, [(.t 8, mg (leI 0 t0.mErr) (iV t0.mErr))]⟩ (v_cT rfl rfl rfl (ble _ _ rfl) rfl fun e2 => (v_load_dp1 rfl ⟨_, rfl, be e2⟩ rfl (ble _ _ rfl) onT32 (gv e2) rfl)) ?_
  refine sq_cons ⟨_, [(.t 9, mg (leI 0 t0.mErr) (bV (leI t0.mErr 16)))]⟩ (v_cT rfl rfl rfl (ble _ _ rfl) rfl fun e3 => (v_bin rfl ⟨_, rfl, be e3⟩ rfl (ble _ _ rfl) (gv e3) rfl (b_leq rfl))) ?_
  refine sq_cons ⟨_, [(.t 10, bV ((leI 0 t0.mErr) && (leI t0.mErr 16)))]⟩ (v_pickB rfl trivial rfl (ble _ _ rfl) rfl (fun e4 => (gv e4)) (fun e5 => rfl) (pA _ _)) ?_
  refine sq_cons ⟨_, [(.t 11, bV ((leI 0 t0.mErr) && (leI t0.mErr 16)))]⟩ (v_move (.inl rfl) trivial rfl (ble _ _ rfl) rfl) ?_
  refine sq_cons ⟨_, [(.t 12, mg ((leI 0 t0.mErr) && (leI t0.mErr 16)) (.d (.dp (List.drop 1 (eAnswer t0)))))]⟩ (v_cT rfl rfl rfl (ble _ _ rfl) rfl fun e6 => (v_field_dp (a0 := 1) (cs := (eAnswer t0)) rfl ⟨_, rfl, be e6⟩ rfl (ble _ _ rfl) fo35_1 rfl)) ?_
  refine sq_cons ⟨_, [(.t 13, mg ((leI 0 t0.mErr) && (leI t0.mErr 16)) (.d (.agg (eStamp t0.mAt))))]⟩ (v_cT rfl rfl rfl (ble _ _ rfl) rfl fun e7 => (w_ldp (List.drop 1 (eAnswer t0)) (eStamp t0.mAt) rfl ⟨_, rfl, be e7⟩ rfl (ble _ _ rfl) ag23 (gv e7) (ble _ _ rfl) rfl)) ?_
  obtain ⟨t14, c9, h⟩ := bpos h
  refine sq_cons ⟨_, [(.t 14, mg ((leI 0 t0.mErr) && (leI t0.mErr 16)) (bV t14))]⟩ (v_cT rfl rfl rfl (ble _ _ rfl) rfl fun e8 => (w_call (ds := [(.agg (eStamp t0.mAt))]) (caps := []) (l := [(.s (.bool t14))]) (s13 k t0.mAt _ (cpos e8 c9)) rfl rfl rfl en13 ⟨_, rfl, be e8⟩ rfl (ble _ _ rfl) (.inl ⟨rfl, rfl⟩) (cc (gv e8) rfl) rfl)) ?_
  refine sq_cons ⟨_, [(.t 15, bV (((leI 0 t0.mErr) && (leI t0.mErr 16)) && t14))]⟩ (v_pickB rfl trivial rfl (ble _ _ rfl) rfl (fun e10 => (gv e10)) (fun e11 => rfl) (pA _ _)) ?_
  refine sq_cons ⟨_, [(.t 16, bV (((leI 0 t0.mErr) && (leI t0.mErr 16)) && t14))]⟩ (v_move (.inl rfl) trivial rfl (ble _ _ rfl) rfl) ?_
  refine sq_cons ⟨_, [(.t 17, mg (((leI 0 t0.mErr) && (leI t0.mErr 16)) && t14) (.d (.dp (List.drop 5 (eAnswer t0)))))]⟩ (v_cT rfl rfl rfl (ble _ _ rfl) rfl fun e12 => (v_field_dp (a0 := 5) (cs := (eAnswer t0)) rfl ⟨_, rfl, be e12⟩ rfl (ble _ _ rfl) fo35_3 rfl)) ?_
  refine sq_cons ⟨_, [(.t 18, mg (((leI 0 t0.mErr) && (leI t0.mErr 16)) && t14) (sV t0.mValue))]⟩ (v_cT rfl rfl rfl (ble _ _ rfl) rfl fun e13 => (v_load_dp1 rfl ⟨_, rfl, be e13⟩ rfl (ble _ _ rfl) onT9 (gv e13) rfl)) ?_
  refine sq_cons ⟨_, [(.t 19, mg (((leI 0 t0.mErr) && (leI t0.mErr 16)) && t14) (iV (t0.mValue.size : Int)))]⟩ (v_cT rfl rfl rfl (ble _ _ rfl) rfl fun e14 => (v_len_str rfl rfl ⟨_, rfl, be e14⟩ rfl (ble _ _ rfl) und9 (gv e14))) ?_
  refine sq_cons ⟨_, [(.t 20, mg (((leI 0 t0.mErr) && (leI t0.mErr 16)) && t14) (bV (leI (t0.mValue.size : Int) 16)))]⟩ (v_cT rfl rfl rfl (ble _ _ rfl) rfl fun e15 => (v_bin rfl ⟨_, rfl, be e15⟩ rfl (ble _ _ rfl) (gv e15) rfl (b_leq rfl))) ?_
  refine sq_cons ⟨_, [(.t 21, bV ((((leI 0 t0.mErr) && (leI t0.mErr 16)) && t14) && (leI (t0.mValue.size : Int) 16)))]⟩ (v_pickB rfl trivial rfl (ble _ _ rfl) rfl (fun e16 => (gv e16)) (fun e17 => rfl) (pA _ _)) ?_
  refine sq_cons ⟨_, [(.t 22, bV ((((leI 0 t0.mErr) && (leI t0.mErr 16)) && t14) && (leI (t0.mValue.size : Int) 16)))]⟩ (v_move (.inl rfl) trivial rfl (ble _ _ rfl) rfl) ?_
  refine sq_cons ⟨_, [(.t 23, mg ((((leI 0 t0.mErr) && (leI t0.mErr 16)) && t14) && (leI (t0.mValue.size : Int) 16)) (.d (.dp (List.drop 6 (eAnswer t0)))))]⟩ (v_cT rfl rfl rfl (ble _ _ rfl) rfl fun e18 => (v_field_dp (a0 := 6) (cs := (eAnswer t0)) rfl ⟨_, rfl, be e18⟩ rfl (ble _ _ rfl) fo35_4 rfl)) ?_
  refine sq_cons ⟨_, [(.t 24, mg ((((leI 0 t0.mErr) && (leI t0.mErr 16)) && t14) && (leI (t0.mValue.size : Int) 16)) (.d (.sl 2 (t0.mItems.map eItem))))]⟩ (v_cT rfl rfl rfl (ble _ _ rfl) rfl fun e19 => (v_load_dp1 rfl ⟨_, rfl, be e19⟩ rfl (ble _ _ rfl) onT33 (gv e19) rfl)) ?_
  refine sq_cons ⟨_, [(.t 25, mg ((((leI 0 t0.mErr) && (leI t0.mErr 16)) && t14) && (leI (t0.mValue.size : Int) 16)) (iV (t0.mItems.length : Int)))]⟩ (v_cT rfl rfl rfl (ble _ _ rfl) rfl fun e20 => (w_len t0.mItems eItem rfl rfl ⟨_, rfl, be e20⟩ rfl (ble _ _ rfl) slT33 (gv e20))) ?_
  refine sq_cons ⟨_, [(.t 26, mg ((((leI 0 t0.mErr) && (leI t0.mErr 16)) && t14) && (leI (t0.mValue.size : Int) 16)) (bV (eqI (t0.mItems.length : Int) 0)))]⟩ (v_cT rfl rfl rfl (ble _ _ rfl) rfl fun e21 => (v_bin rfl ⟨_, rfl, be e21⟩ rfl (ble _ _ rfl) (gv e21) rfl (b_eql rfl))) ?_
  refine sq_cons ⟨_, [(.t 27, bV (((((leI 0 t0.mErr) && (leI t0.mErr 16)) && t14) && (leI (t0.mValue.size : Int) 16)) && (eqI (t0.mItems.length : Int) 0)))]⟩ (v_pickB rfl trivial rfl (ble _ _ rfl) rfl (fun e22 => (gv e22)) (fun e23 => rfl) (pA _ _)) ?_
  refine sq_cons ⟨_, [(.t 28, bV (((((leI 0 t0.mErr) && (leI t0.mErr 16)) && t14) && (leI (t0.mValue.size : Int) 16)) && (eqI (t0.mItems.length : Int) 0)))]⟩ (v_move (.inl rfl) trivial rfl (ble _ _ rfl) rfl) ?_
  refine sq_cons ⟨_, [(.t 29, mg (((((leI 0 t0.mErr) && (leI t0.mErr 16)) && t14) && (leI (t0.mValue.size : Int) 16)) && (eqI (t0.mItems.length : Int) 0)) (.d (.dp (List.drop 7 (eAnswer t0)))))]⟩ (v_cT rfl rfl rfl (ble _ _ rfl) rfl fun e24 => (v_field_dp (a0 := 7) (cs := (eAnswer t0)) rfl ⟨_, rfl, be e24⟩ rfl (ble _ _ rfl) fo35_5 rfl)) ?_
  refine sq_cons ⟨_, [(.t 30, mg (((((leI 0 t0.mErr) && (leI t0.mErr 16)) && t14) && (leI (t0.mValue.size : Int) 16)) && (eqI (t0.mItems.length : Int) 0)) (sV t0.mNext))]⟩ (v_cT rfl rfl rfl (ble _ _ rfl) rfl fun e25 => (v_load_dp1 rfl ⟨_, rfl, be e25⟩ rfl (ble _ _ rfl) onT9 (gv e25) rfl)) ?_
  refine sq_cons ⟨_, [(.t 31, mg (((((leI 0 t0.mErr) && (leI t0.mErr 16)) && t14) && (leI (t0.mValue.size : Int) 16)) && (eqI (t0.mItems.length : Int) 0)) (bV (strEq t0.mNext (⟨#[]⟩ : ByteArray))))]⟩ (v_cT rfl rfl rfl (ble _ _ rfl) rfl fun e26 => (v_bin rfl ⟨_, rfl, be e26⟩ rfl (ble _ _ rfl) (gv e26) rfl (b_eqS rfl))) ?_
  refine sq_cons ⟨_, [(.t 32, bV ((((((leI 0 t0.mErr) && (leI t0.mErr 16)) && t14) && (leI (t0.mValue.size : Int) 16)) && (eqI (t0.mItems.length : Int) 0)) && (strEq t0.mNext (⟨#[]⟩ : ByteArray))))]⟩ (v_pickB rfl trivial rfl (ble _ _ rfl) rfl (fun e27 => (gv e27)) (fun e28 => rfl) (pA _ _)) ?_
  refine sq_cons ⟨_, [(.t 33, bV ((((((leI 0 t0.mErr) && (leI t0.mErr 16)) && t14) && (leI (t0.mValue.size : Int) 16)) && (eqI (t0.mItems.length : Int) 0)) && (strEq t0.mNext (⟨#[]⟩ : ByteArray))))]⟩ (v_move (.inl rfl) trivial rfl (ble _ _ rfl) rfl) ?_
  refine sq_cons ⟨_, [(.t 34, mg ((((((leI 0 t0.mErr) && (leI t0.mErr 16)) && t14) && (leI (t0.mValue.size : Int) 16)) && (eqI (t0.mItems.length : Int) 0)) && (strEq t0.mNext (⟨#[]⟩ : ByteArray))) (.d (.dp (List.drop 8 (eAnswer t0)))))]⟩ (v_cT rfl rfl rfl (ble _ _ rfl) rfl fun e29 => (v_field_dp (a0 := 8) (cs := (eAnswer t0)) rfl ⟨_, rfl, be e29⟩ rfl (ble _ _ rfl) fo35_6 rfl)) ?_
  refine sq_cons ⟨_, [(.t 35, mg ((((((leI 0 t0.mErr) && (leI t0.mErr 16)) && t14) && (leI (t0.mValue.size : Int) 16)) && (eqI (t0.mItems.length : Int) 0)) && (strEq t0.mNext (⟨#[]⟩ : ByteArray))) (bV t0.mMore))]⟩ (v_cT rfl rfl rfl (ble _ _ rfl) rfl fun e30 => (v_load_dp1 rfl ⟨_, rfl, be e30⟩ rfl (ble _ _ rfl) onT4 (gv e30) rfl)) ?_
  refine sq_cons ⟨_, [(.t 36, mg ((((((leI 0 t0.mErr) && (leI t0.mErr 16)) && t14) && (leI (t0.mValue.size : Int) 16)) && (eqI (t0.mItems.length : Int) 0)) && (strEq t0.mNext (⟨#[]⟩ : ByteArray))) (bV (!t0.mMore)))]⟩ (v_cT rfl rfl rfl (ble _ _ rfl) rfl fun e31 => (v_un rfl ⟨_, rfl, be e31⟩ rfl (ble _ _ rfl) (gv e31) (u_not rfl))) ?_
  refine sq_cons ⟨_, [(.t 37, bV (((((((leI 0 t0.mErr) && (leI t0.mErr 16)) && t14) && (leI (t0.mValue.size : Int) 16)) && (eqI (t0.mItems.length : Int) 0)) && (strEq t0.mNext (⟨#[]⟩ : ByteArray))) && (!t0.mMore)))]⟩ (v_pickB rfl trivial rfl (ble _ _ rfl) rfl (fun e32 => (gv e32)) (fun e33 => rfl) (pA _ _)) ?_
  refine sq_cons ⟨_, [(.t 2, bV (((((((leI 0 t0.mErr) && (leI t0.mErr 16)) && t14) && (leI (t0.mValue.size : Int) 16)) && (eqI (t0.mItems.length : Int) 0)) && (strEq t0.mNext (⟨#[]⟩ : ByteArray))) && (!t0.mMore)))]⟩ (v_move (.inr rfl) trivial rfl (ble _ _ rfl) rfl) ?_
  refine sq_nil ?_
  refine ht_ret ?_
  cases h
  exact ret1 rfl (.tmp rfl)
set_option maxRecDepth 100000 in
set_option maxHeartbeats 4000000 in
theorem s58 (k : Nat) (t0 : List Done) (r : Bool) (h : F58 k t0 = some r) : Awp.Spec Tryd.prog amb 58 [(.sl 11 (t0.map eDone))] (.ds [(.s (.bool r))]) := by
  rw [F58] at h
  refine spec_of Tryd.func58 rfl (ble _ _ rfl) fun w0 ok0 lt0 hA => ?_
  refine ht_seq ?_
  refine ht_region ?_
  refine sq_cons ⟨_, [(.t 2, bV false)]⟩ (v_move (.inr rfl) trivial rfl (ble _ _ rfl) rfl) ?_
  refine sq_nil ?_
  refine ht_seq ?_
  refine ht_region ?_
  refine sq_cons ⟨_, [(.t 3, iV 0)]⟩ (v_move (.inr rfl) trivial rfl (ble _ _ rfl) rfl) ?_
  refine sq_nil ?_
  refine ht_gj (go_id' h) (fun _ => tell [(.t 0, .d (.sl 11 (t0.map eDone)))]) (fun _ h => ?_) (fun v1 K2 h j4 r5 => ?_)
  · refine ht_seq ?_
    refine ht_region ?_
    refine sq_cons ⟨_, [(.t 37, .d (.sl 11 (t0.map eDone)))]⟩ (v_move (.inl rfl) trivial rfl (ble _ _ rfl) rfl) ?_
    refine sq_cons ⟨_, [(.t 38, iV (t0.length : Int))]⟩ (w_len t0 eDone rfl rfl trivial rfl (ble _ _ rfl) slT48 rfl) ?_
    refine sq_cons ⟨_, [(.t 39, bV (leI (t0.length : Int) 8))]⟩ (v_bin rfl trivial rfl (ble _ _ rfl) rfl rfl (b_leq rfl)) ?_
    refine sq_cons ⟨_, [(.t 2, bV (leI (t0.length : Int) 8))]⟩ (v_move (.inr rfl) trivial rfl (ble _ _ rfl) rfl) ?_
    refine sq_nil ?_
    refine ht_ret ?_
    cases h
    exact ret1 rfl (.tmp rfl)
  · refine ht_seq ?_
    refine ht_region ?_
    refine sq_cons ⟨_, [(.t 6, .d (.sl 11 (t0.map eDone)))]⟩ (v_move (.inl rfl) trivial rfl (ble _ _ rfl) rfl) ?_
    refine sq_cons ⟨_, [(.t 7, iV (t0.length : Int))]⟩ (w_len t0 eDone rfl rfl trivial rfl (ble _ _ rfl) slT48 rfl) ?_
    refine sq_cons ⟨_, [(.t 8, iV 0)]⟩ (v_move (.inl rfl) trivial rfl (ble _ _ rfl) rfl) ?_
    refine sq_nil ?_
    refine ht_block ?_
    refine ht_rd h (fun _ => rfl) (fun (t3, t8) => tell [(.t 0, .d (.sl 11 (t0.map eDone))), (.t 3, iV t3), (.t 6, .d (.sl 11 (t0.map eDone))), (.t 7, iV (t0.length : Int)), (.t 8, iV t8)]) (wk_ren _ (fun i => i) rfl ⟨rfl, rfl, rfl, rfl, rfl, trivial⟩) fun k v8 h K33 j7 => ?_
    obtain ⟨t3, t8⟩ := v8
    rw [F58_l1] at h
    refine ht_seq ?_
    refine ht_region ?_
    refine sq_cons ⟨_, [(.t 9, bV (ltI t8 (t0.length : Int)))]⟩ (v_bin rfl trivial rfl (ble _ _ rfl) rfl rfl (b_lss rfl)) ?_
    refine sq_nil ?_
    refine ht_seq ?_
    refine ht_cond (b := (ltI t8 (t0.length : Int))) rfl (fun e9 => ?_) (fun e9 => ?_)
    · replace h := cpos e9 h
      refine ht_skip ?_
      refine ht_seq ?_
      refine ht_block ?_
      refine ht_seq ?_
      refine ht_region ?_
      obtain ⟨e10, h⟩ := gpos h
      refine sq_cons ⟨_, [(.t 10, .d (.dp (eDone (rd t0 t8))))]⟩ (w_idx t0 eDone rfl trivial rfl (ble _ _ rfl) slT48 rfl rfl e10) ?_
      refine sq_cons ⟨_, [(.t 11, .d (.agg (eDone (rd t0 t8))))]⟩ (w_ldp (eDone (rd t0 t8)) (eDone (rd t0 t8)) rfl trivial rfl (ble _ _ rfl) ag78 rfl (ble _ _ rfl) rfl) ?_
      refine sq_cons _ (v_alloc (id := 5) (cs := zc78) rfl trivial rfl (ble _ _ rfl) zu78 rfl ft78 rfl) ?_
      refine sq_cons _ (v_store_box (id := 5) (off := 0) (cs := (eDone (rd t0 t8)).map V.d) rfl trivial rfl sz78 rfl rfl rfl rfl (ones_of rfl) (ble _ _ rfl)) ?_
      refine sq_nil ?_
      refine ht_seq ?_
      refine ht_seq ?_
      refine ht_region ?_
      refine sq_cons ⟨_, [(.t 12, .ptr 5 0)]⟩ (v_field_box (off := 0) (a0 := 0) rfl trivial rfl (ble _ _ rfl) fo78_0 rfl) ?_
      refine sq_cons ⟨_, [(.t 13, iV (rd t0 t8).mClient)]⟩ (v_load_box1 (id := 5) (off := 0) rfl trivial rfl (ble _ _ rfl) onT3 rfl rfl (ble _ _ rfl) rfl) ?_
      refine sq_cons ⟨_, [(.t 14, iV t3)]⟩ (v_move (.inl rfl) trivial rfl (ble _ _ rfl) rfl) ?_
      refine sq_cons ⟨_, [(.t 15, bV (leI (rd t0 t8).mClient t3))]⟩ (v_bin rfl trivial rfl (ble _ _ rfl) rfl rfl (b_leq rfl)) ?_
      refine sq_cons ⟨_, [(.t 16, bV (leI (rd t0 t8).mClient t3))]⟩ (v_move (.inl rfl) trivial rfl (ble _ _ rfl) rfl) ?_
      refine sq_cons ⟨_, [(.t 17, mg (!(leI (rd t0 t8).mClient t3)) (.ptr 5 0))]⟩ (v_cF rfl rfl rfl (ble _ _ rfl) rfl fun e11 => (v_field_box (off := 0) (a0 := 0) rfl ⟨_, rfl, be e11⟩ rfl (ble _ _ rfl) fo78_0 rfl)) ?_
      refine sq_cons ⟨_, [(.t 18, mg (!(leI (rd t0 t8).mClient t3)) (iV (rd t0 t8).mClient))]⟩ (v_cF rfl rfl rfl (ble _ _ rfl) rfl fun e12 => (v_load_box1 (id := 5) (off := 0) rfl ⟨_, rfl, be e12⟩ rfl (ble _ _ rfl) onT3 (gv (nF e12)) rfl (ble _ _ rfl) rfl)) ?_
      obtain ⟨t19, c14, h⟩ := bpos h
      refine sq_cons ⟨_, [(.t 19, mg (!(leI (rd t0 t8).mClient t3)) (bV t19))]⟩ (v_cF rfl rfl rfl (ble _ _ rfl) rfl fun e13 => (w_call (ds := [(.s (.int .i64 (rd t0 t8).mClient))]) (caps := []) (l := [(.s (.bool t19))]) (s64 k (rd t0 t8).mClient _ (cpos (nF e13) c14)) rfl rfl rfl en64 ⟨_, rfl, be e13⟩ rfl (ble _ _ rfl) (.inl ⟨rfl, rfl⟩) (cc (gv (nF e13)) rfl) rfl)) ?_
      refine sq_cons ⟨_, [(.t 20, mg (!(leI (rd t0 t8).mClient t3)) (bV (!t19)))]⟩ (v_cF rfl rfl rfl (ble _ _ rfl) rfl fun e15 => (v_un rfl ⟨_, rfl, be e15⟩ rfl (ble _ _ rfl) (gv (nF e15)) (u_not rfl))) ?_
      refine sq_cons ⟨_, [(.t 21, bV ((leI (rd t0 t8).mClient t3) || (!t19)))]⟩ (v_pickB rfl trivial rfl (ble _ _ rfl) rfl (fun e16 => rfl) (fun e17 => (gv (nF e17))) (pO _ _)) ?_
      refine sq_cons ⟨_, [(.t 22, bV ((leI (rd t0 t8).mClient t3) || (!t19)))]⟩ (v_move (.inl rfl) trivial rfl (ble _ _ rfl) rfl) ?_
      refine sq_cons ⟨_, [(.t 23, mg (!((leI (rd t0 t8).mClient t3) || (!t19))) (.ptr 5 1))]⟩ (v_cF rfl rfl rfl (ble _ _ rfl) rfl fun e18 => (v_field_box (off := 0) (a0 := 1) rfl ⟨_, rfl, be e18⟩ rfl (ble _ _ rfl) fo78_1 rfl)) ?_
      refine sq_cons ⟨_, [(.t 24, mg (!((leI (rd t0 t8).mClient t3) || (!t19))) (iV (rd t0 t8).mReq))]⟩ (v_cF rfl rfl rfl (ble _ _ rfl) rfl fun e19 => (v_load_box1 (id := 5) (off := 1) rfl ⟨_, rfl, be e19⟩ rfl (ble _ _ rfl) onT3 (gv (nF e19)) rfl (ble _ _ rfl) rfl)) ?_
      obtain ⟨t25, c21, h⟩ := bpos h
      refine sq_cons ⟨_, [(.t 25, mg (!((leI (rd t0 t8).mClient t3) || (!t19))) (bV t25))]⟩ (v_cF rfl rfl rfl (ble _ _ rfl) rfl fun e20 => (w_call (ds := [(.s (.int .i64 (rd t0 t8).mReq))]) (caps := []) (l := [(.s (.bool t25))]) (s64 k (rd t0 t8).mReq _ (cpos (nF e20) c21)) rfl rfl rfl en64 ⟨_, rfl, be e20⟩ rfl (ble _ _ rfl) (.inl ⟨rfl, rfl⟩) (cc (gv (nF e20)) rfl) rfl)) ?_
      refine sq_cons ⟨_, [(.t 26, mg (!((leI (rd t0 t8).mClient t3) || (!t19))) (bV (!t25)))]⟩ (v_cF rfl rfl rfl (ble _ _ rfl) rfl fun e22 => (v_un rfl ⟨_, rfl, be e22⟩ rfl (ble _ _ rfl) (gv (nF e22)) (u_not rfl))) ?_
      refine sq_cons ⟨_, [(.t 27, bV (((leI (rd t0 t8).mClient t3) || (!t19)) || (!t25)))]⟩ (v_pickB rfl trivial rfl (ble _ _ rfl) rfl (fun e23 => rfl) (fun e24 => (gv (nF e24))) (pO _ _)) ?_
      refine sq_cons ⟨_, [(.t 28, bV (((leI (rd t0 t8).mClient t3) || (!t19)) || (!t25)))]⟩ (v_move (.inl rfl) trivial rfl (ble _ _ rfl) rfl) ?_
      refine sq_cons ⟨_, [(.t 29, mg (!(((leI (rd t0 t8).mClient t3) || (!t19)) || (!t25))) (.ptr 5 2))]⟩ (v_cF rfl rfl rfl (ble _ _ rfl) rfl fun e25 => (v_field_box (off := 0) (a0 := 2) rfl ⟨_, rfl, be e25⟩ rfl (ble _ _ rfl) fo78_2 rfl)) ?_
      refine sq_cons ⟨_, [(.t 30, mg (!(((leI (rd t0 t8).mClient t3) || (!t19)) || (!t25))) (.d (.agg (eAnswer (rd t0 t8).mAnswer))))]⟩ (v_cF rfl rfl rfl (ble _ _ rfl) rfl fun e26 => (w_ldb 5 2 rfl ⟨_, rfl, be e26⟩ rfl (ble _ _ rfl) ag35 (gv (nF e26)) rfl (ble _ _ rfl) rfl)) ?_
      obtain ⟨t31, c28, h⟩ := bpos h
      refine sq_cons ⟨_, [(.t 31, mg (!(((leI (rd t0 t8).mClient t3) || (!t19)) || (!t25))) (bV t31))]⟩ (v_cF rfl rfl rfl (ble _ _ rfl) rfl fun e27 => (w_call (ds := [(.agg (eAnswer (rd t0 t8).mAnswer))]) (caps := []) (l := [(.s (.bool t31))]) (s80 k (rd t0 t8).mAnswer _ (cpos (nF e27) c28)) rfl rfl rfl en80 ⟨_, rfl, be e27⟩ rfl (ble _ _ rfl) (.inl ⟨rfl, rfl⟩) (cc (gv (nF e27)) rfl) rfl)) ?_
      refine sq_cons ⟨_, [(.t 32, mg (!(((leI (rd t0 t8).mClient t3) || (!t19)) || (!t25))) (bV (!t31)))]⟩ (v_cF rfl rfl rfl (ble _ _ rfl) rfl fun e29 => (v_un rfl ⟨_, rfl, be e29⟩ rfl (ble _ _ rfl) (gv (nF e29)) (u_not rfl))) ?_
      refine sq_cons ⟨_, [(.t 33, bV ((((leI (rd t0 t8).mClient t3) || (!t19)) || (!t25)) || (!t31)))]⟩ (v_pickB rfl trivial rfl (ble _ _ rfl) rfl (fun e30 => rfl) (fun e31 => (gv (nF e31))) (pO _ _)) ?_
      refine sq_nil ?_
      refine ht_cond (b := ((((leI (rd t0 t8).mClient t3) || (!t19)) || (!t25)) || (!t31))) rfl (fun e32 => ?_) (fun e32 => ?_)
      · replace h := cpos e32 h
        refine ht_seq ?_
        refine ht_region ?_
        refine sq_cons ⟨_, [(.t 2, bV false)]⟩ (v_move (.inr rfl) trivial rfl (ble _ _ rfl) rfl) ?_
        refine sq_nil ?_
        refine ht_ret ?_
        cases h
        cases r5 _ rfl
        exact ret1 rfl (.tmp rfl)
      · replace h := cneg e32 h
        refine ht_skip ?_
        refine ht_region ?_
        refine sq_cons ⟨_, [(.t 34, .ptr 5 0)]⟩ (v_field_box (off := 0) (a0 := 0) rfl trivial rfl (ble _ _ rfl) fo78_0 rfl) ?_
        refine sq_cons ⟨_, [(.t 35, iV (rd t0 t8).mClient)]⟩ (v_load_box1 (id := 5) (off := 0) rfl trivial rfl (ble _ _ rfl) onT3 rfl rfl (ble _ _ rfl) rfl) ?_
        refine sq_cons ⟨_, [(.t 3, iV (rd t0 t8).mClient)]⟩ (v_move (.inr rfl) trivial rfl (ble _ _ rfl) rfl) ?_
        refine sq_nil ?_
        refine ht_region ?_
        refine sq_cons ⟨_, [(.t 36, iV (IntKind.wrap .i64 (t8 + 1)))]⟩ (v_bin rfl trivial rfl (ble _ _ rfl) rfl rfl (b_add rfl)) ?_
        refine sq_cons ⟨_, [(.t 8, iV (IntKind.wrap .i64 (t8 + 1)))]⟩ (v_move (.inl rfl) trivial rfl (ble _ _ rfl) rfl) ?_
        refine sq_nil ?_
        exact j7 _ _ h (wk_ren _ (fun i => i) rfl ⟨rfl, rfl, rfl, rfl, rfl, trivial⟩)
    · replace h := cneg e9 h
      refine ht_exit ?_
      refine tq ?_
      refine tq ?_
      refine bq_hit ?_
      cases h
      exact j4 _ _ rfl (wk_ren _ (fun i => i) rfl ⟨rfl, trivial⟩)
set_option maxRecDepth 100000 in
set_option maxHeartbeats 4000000 in
theorem s23 (k : Nat) (t0 : Span) (t1 : ByteArray) (r : Bool) (h : F23 k t0 t1 = some r) : Awp.Spec Tryd.prog amb 23 [(.agg (eSpan t0)), (.s (.string t1))] (.ds [(.s (.bool r))]) := by
  rw [F23] at h
  refine spec_of Tryd.func23 rfl (ble _ _ rfl) fun w0 ok0 lt0 hA => ?_
  refine ht_seq ?_
  refine ht_region ?_
  refine sq_cons ⟨_, [(.t 2, .d (.dp (eSpan t0)))]⟩ (v_box_d (cs := (eSpan t0)) rfl trivial rfl (ble _ _ rfl) rfl rfl (ones_of rfl)) ?_
  refine sq_cons ⟨_, [(.t 4, bV false)]⟩ (v_move (.inr rfl) trivial rfl (ble _ _ rfl) rfl) ?_
  refine sq_nil ?_
  refine ht_seq ?_
  refine ht_region ?_
  refine sq_cons ⟨_, [(.t 5, .d (.agg (eSpan t0)))]⟩ (w_ldp (eSpan t0) (eSpan t0) rfl trivial rfl (ble _ _ rfl) ag46 rfl (ble _ _ rfl) rfl) ?_
  obtain ⟨t6, c1, h⟩ := bpos h
  refine sq_cons ⟨_, [(.t 6, bV t6)]⟩ (w_call (ds := [(.agg (eSpan t0))]) (caps := []) (l := [(.s (.bool t6))]) (s42 k t0 _ c1) rfl rfl rfl en42 trivial rfl (ble _ _ rfl) (.inl ⟨rfl, rfl⟩) rfl rfl) ?_
  refine sq_cons ⟨_, [(.t 7, bV t6)]⟩ (v_move (.inl rfl) trivial rfl (ble _ _ rfl) rfl) ?_
  refine sq_cons ⟨_, [(.t 8, mg t6 (sV t1))]⟩ (v_cT rfl rfl rfl (ble _ _ rfl) rfl fun e2 => (v_move (.inl rfl) ⟨_, rfl, be e2⟩ rfl (ble _ _ rfl) rfl)) ?_
  obtain ⟨t9, c4, h⟩ := bpos h
  refine sq_cons ⟨_, [(.t 9, mg t6 (bV t9))]⟩ (v_cT rfl rfl rfl (ble _ _ rfl) rfl fun e3 => (w_call (ds := [(.s (.string t1))]) (caps := []) (l := [(.s (.bool t9))]) (s14 k t1 _ (cpos e3 c4)) rfl rfl rfl en14 ⟨_, rfl, be e3⟩ rfl (ble _ _ rfl) (.inl ⟨rfl, rfl⟩) (cc (gv e3) rfl) rfl)) ?_
  refine sq_cons ⟨_, [(.t 10, bV (t6 && t9))]⟩ (v_pickB rfl trivial rfl (ble _ _ rfl) rfl (fun e5 => (gv e5)) (fun e6 => rfl) (pA _ _)) ?_
  refine sq_cons ⟨_, [(.t 11, bV (t6 && t9))]⟩ (v_move (.inl rfl) trivial rfl (ble _ _ rfl) rfl) ?_
  refine sq_cons ⟨_, [(.t 12, mg (t6 && t9) (.d (.dp (eSpan t0))))]⟩ (v_cT rfl rfl rfl (ble _ _ rfl) rfl fun e7 => (v_field_dp (a0 := 0) (cs := (eSpan t0)) rfl ⟨_, rfl, be e7⟩ rfl (ble _ _ rfl) fo46_0 rfl)) ?_
  refine sq_cons ⟨_, [(.t 13, mg (t6 && t9) (sV t0.mLo))]⟩ (v_cT rfl rfl rfl (ble _ _ rfl) rfl fun e8 => (v_load_dp1 rfl ⟨_, rfl, be e8⟩ rfl (ble _ _ rfl) onT9 (gv e8) rfl)) ?_
  refine sq_cons ⟨_, [(.t 14, mg (t6 && t9) (sV t1))]⟩ (v_cT rfl rfl rfl (ble _ _ rfl) rfl fun e9 => (v_move (.inl rfl) ⟨_, rfl, be e9⟩ rfl (ble _ _ rfl) rfl)) ?_
  obtain ⟨t15, c11, h⟩ := bpos h
  refine sq_cons ⟨_, [(.t 15, mg (t6 && t9) (iV t15))]⟩ (v_cT rfl rfl rfl (ble _ _ rfl) rfl fun e10 => (w_call (ds := [(.s (.string t0.mLo)), (.s (.string t1))]) (caps := []) (l := [(.s (.int .i64 t15))]) (s43 k t0.mLo t1 _ (cpos e10 c11)) rfl rfl rfl en43 ⟨_, rfl, be e10⟩ rfl (ble _ _ rfl) (.inl ⟨rfl, rfl⟩) (cc (gv e10) (cc (gv e10) rfl)) rfl)) ?_
  refine sq_cons ⟨_, [(.t 16, mg (t6 && t9) (bV (leI t15 0)))]⟩ (v_cT rfl rfl rfl (ble _ _ rfl) rfl fun e12 => (v_bin rfl ⟨_, rfl, be e12⟩ rfl (ble _ _ rfl) (gv e12) rfl (b_leq rfl))) ?_
  refine sq_cons ⟨_, [(.t 17, bV ((t6 && t9) && (leI t15 0)))]⟩ (v_pickB rfl trivial rfl (ble _ _ rfl) rfl (fun e13 => (gv e13)) (fun e14 => rfl) (pA _ _)) ?_
  refine sq_cons ⟨_, [(.t 18, bV ((t6 && t9) && (leI t15 0)))]⟩ (v_move (.inl rfl) trivial rfl (ble _ _ rfl) rfl) ?_
  refine sq_cons ⟨_, [(.t 19, mg ((t6 && t9) && (leI t15 0)) (.d (.dp (List.drop 1 (eSpan t0)))))]⟩ (v_cT rfl rfl rfl (ble _ _ rfl) rfl fun e15 => (v_field_dp (a0 := 1) (cs := (eSpan t0)) rfl ⟨_, rfl, be e15⟩ rfl (ble _ _ rfl) fo46_1 rfl)) ?_
  refine sq_cons ⟨_, [(.t 20, mg ((t6 && t9) && (leI t15 0)) (sV t0.mHi))]⟩ (v_cT rfl rfl rfl (ble _ _ rfl) rfl fun e16 => (v_load_dp1 rfl ⟨_, rfl, be e16⟩ rfl (ble _ _ rfl) onT9 (gv e16) rfl)) ?_
  refine sq_cons ⟨_, [(.t 21, mg ((t6 && t9) && (leI t15 0)) (bV (strEq t0.mHi (⟨#[]⟩ : ByteArray))))]⟩ (v_cT rfl rfl rfl (ble _ _ rfl) rfl fun e17 => (v_bin rfl ⟨_, rfl, be e17⟩ rfl (ble _ _ rfl) (gv e17) rfl (b_eqS rfl))) ?_
  refine sq_cons ⟨_, [(.t 22, mg ((t6 && t9) && (leI t15 0)) (bV (strEq t0.mHi (⟨#[]⟩ : ByteArray))))]⟩ (v_cT rfl rfl rfl (ble _ _ rfl) rfl fun e18 => (v_move (.inl rfl) ⟨_, rfl, be e18⟩ rfl (ble _ _ rfl) (gv e18))) ?_
  refine sq_cons ⟨_, [(.t 23, mg (((t6 && t9) && (leI t15 0)) && (!(strEq t0.mHi (⟨#[]⟩ : ByteArray)))) (sV t1))]⟩ (v_mF rfl rfl rfl (ble _ _ rfl) rfl fun e19 e20 => (v_move (.inl rfl) ⟨_, rfl, bm e19 e20⟩ rfl (ble _ _ rfl) rfl)) ?_
  refine sq_cons ⟨_, [(.t 24, mg (((t6 && t9) && (leI t15 0)) && (!(strEq t0.mHi (⟨#[]⟩ : ByteArray)))) (.d (.dp (List.drop 1 (eSpan t0)))))]⟩ (v_mF rfl rfl rfl (ble _ _ rfl) rfl fun e21 e22 => (v_field_dp (a0 := 1) (cs := (eSpan t0)) rfl ⟨_, rfl, bm e21 e22⟩ rfl (ble _ _ rfl) fo46_1 rfl)) ?_
  refine sq_cons ⟨_, [(.t 25, mg (((t6 && t9) && (leI t15 0)) && (!(strEq t0.mHi (⟨#[]⟩ : ByteArray)))) (sV t0.mHi))]⟩ (v_mF rfl rfl rfl (ble _ _ rfl) rfl fun e23 e24 => (v_load_dp1 rfl ⟨_, rfl, bm e23 e24⟩ rfl (ble _ _ rfl) onT9 (gv (aT e23 (nF e24))) rfl)) ?_
  obtain ⟨t26, c27, h⟩ := bpos h
  refine sq_cons ⟨_, [(.t 26, mg (((t6 && t9) && (leI t15 0)) && (!(strEq t0.mHi (⟨#[]⟩ : ByteArray)))) (iV t26))]⟩ (v_mF rfl rfl rfl (ble _ _ rfl) rfl fun e25 e26 => (w_call (ds := [(.s (.string t1)), (.s (.string t0.mHi))]) (caps := []) (l := [(.s (.int .i64 t26))]) (s43 k t1 t0.mHi _ (cpos (aT e25 (nF e26)) c27)) rfl rfl rfl en43 ⟨_, rfl, bm e25 e26⟩ rfl (ble _ _ rfl) (.inl ⟨rfl, rfl⟩) (cc (gv (aT e25 (nF e26))) (cc (gv (aT e25 (nF e26))) rfl)) rfl)) ?_
  refine sq_cons ⟨_, [(.t 27, mg (((t6 && t9) && (leI t15 0)) && (!(strEq t0.mHi (⟨#[]⟩ : ByteArray)))) (bV (ltI t26 0)))]⟩ (v_mF rfl rfl rfl (ble _ _ rfl) rfl fun e28 e29 => (v_bin rfl ⟨_, rfl, bm e28 e29⟩ rfl (ble _ _ rfl) (gv (aT e28 (nF e29))) rfl (b_lss rfl))) ?_
  refine sq_cons ⟨_, [(.t 28, mg ((t6 && t9) && (leI t15 0)) (bV ((strEq t0.mHi (⟨#[]⟩ : ByteArray)) || (ltI t26 0))))]⟩ (v_cT rfl rfl rfl (ble _ _ rfl) rfl fun e30 => (v_pickB rfl ⟨_, rfl, be e30⟩ rfl (ble _ _ rfl) (gv e30) (fun e31 => rfl) (fun e32 => (gv (aT e30 (nF e32)))) (pO _ _))) ?_
  refine sq_cons ⟨_, [(.t 29, bV (((t6 && t9) && (leI t15 0)) && ((strEq t0.mHi (⟨#[]⟩ : ByteArray)) || (ltI t26 0))))]⟩ (v_pickB rfl trivial rfl (ble _ _ rfl) rfl (fun e33 => (gv e33)) (fun e34 => rfl) (pA _ _)) ?_
  refine sq_cons ⟨_, [(.t 4, bV (((t6 && t9) && (leI t15 0)) && ((strEq t0.mHi (⟨#[]⟩ : ByteArray)) || (ltI t26 0))))]⟩ (v_move (.inr rfl) trivial rfl (ble _ _ rfl) rfl) ?_
  refine sq_nil ?_
  refine ht_ret ?_
  cases h
  exact ret1 rfl (.tmp rfl)
set_option maxRecDepth 100000 in
set_option maxHeartbeats 4000000 in
theorem s60 (k : Nat) (t0 : Entry) (t1 : Shard) (r : Bool) (h : F60 k t0 t1 = some r) : Awp.Spec Tryd.prog amb 60 [(.agg (eEntry t0)), (.dp (eShard t1))] (.ds [(.s (.bool r))]) := by
  rw [F60] at h
  refine spec_of Tryd.func60 rfl (ble _ _ rfl) fun w0 ok0 lt0 hA => ?_
  refine ht_seq ?_
  refine ht_region ?_
  refine sq_cons ⟨_, [(.t 2, .d (.dp (eEntry t0)))]⟩ (v_box_d (cs := (eEntry t0)) rfl trivial rfl (ble _ _ rfl) rfl rfl (ones_of rfl)) ?_
  refine sq_cons ⟨_, [(.t 3, bV false)]⟩ (v_move (.inr rfl) trivial rfl (ble _ _ rfl) rfl) ?_
  refine sq_nil ?_
  refine ht_seq ?_
  refine ht_region ?_
  refine sq_cons ⟨_, [(.t 4, .d (.dp (List.drop 2 (eShard t1))))]⟩ (v_field_dp (a0 := 2) (cs := (eShard t1)) rfl trivial rfl (ble _ _ rfl) fo50_2 rfl) ?_
  refine sq_cons ⟨_, [(.t 5, .d (.agg (eSpan t1.mSpan)))]⟩ (w_ldp (List.drop 2 (eShard t1)) (eSpan t1.mSpan) rfl trivial rfl (ble _ _ rfl) ag46 rfl (ble _ _ rfl) rfl) ?_
  refine sq_cons ⟨_, [(.t 6, .d (.dp (eEntry t0)))]⟩ (v_field_dp (a0 := 0) (cs := (eEntry t0)) rfl trivial rfl (ble _ _ rfl) fo100_0 rfl) ?_
  refine sq_cons ⟨_, [(.t 7, sV t0.mKey)]⟩ (v_load_dp1 rfl trivial rfl (ble _ _ rfl) onT9 rfl rfl) ?_
  obtain ⟨t8, c1, h⟩ := bpos h
  refine sq_cons ⟨_, [(.t 8, bV t8)]⟩ (w_call (ds := [(.agg (eSpan t1.mSpan)), (.s (.string t0.mKey))]) (caps := []) (l := [(.s (.bool t8))]) (s23 k t1.mSpan t0.mKey _ c1) rfl rfl rfl en23 trivial rfl (ble _ _ rfl) (.inl ⟨rfl, rfl⟩) rfl rfl) ?_
  refine sq_cons ⟨_, [(.t 9, bV (!t8))]⟩ (v_un rfl trivial rfl (ble _ _ rfl) rfl (u_not rfl)) ?_
  refine sq_cons ⟨_, [(.t 3, bV (!t8))]⟩ (v_move (.inr rfl) trivial rfl (ble _ _ rfl) rfl) ?_
  refine sq_nil ?_
  refine ht_ret ?_
  cases h
  exact ret1 rfl (.tmp rfl)
set_option maxRecDepth 100000 in
set_option maxHeartbeats 4000000 in
theorem s81_60 (k : Nat) (t0 : List Entry) (t1u0 : Shard) (r : Int) (h : F81_60 k t0 t1u0 = some r) : Awp.Spec Tryd.prog amb 81 [(.sl 2 (t0.map eEntry)), (.fn 60 [(.dp (eShard t1u0))])] (.ds [(.s (.int .i64 r))]) := by
  rw [F81_60] at h
  refine spec_of Tryd.func81 rfl (ble _ _ rfl) fun w0 ok0 lt0 hA => ?_
  refine ht_seq ?_
  refine ht_region ?_
  refine sq_cons ⟨_, [(.t 4, iV 0)]⟩ (v_move (.inr rfl) trivial rfl (ble _ _ rfl) rfl) ?_
  refine sq_nil ?_
  refine ht_gj (go_id' h) (fun _ => tell []) (fun _ h => ?_) (fun v1 K2 h j4 r5 => ?_)
  · refine ht_seq ?_
    refine ht_region ?_
    refine sq_cons ⟨_, [(.t 4, iV (-1))]⟩ (v_move (.inr rfl) trivial rfl (ble _ _ rfl) rfl) ?_
    refine sq_nil ?_
    refine ht_ret ?_
    cases h
    exact ret1 rfl (.tmp rfl)
  · refine ht_seq ?_
    refine ht_region ?_
    refine sq_cons ⟨_, [(.t 6, .d (.sl 2 (t0.map eEntry)))]⟩ (v_move (.inl rfl) trivial rfl (ble _ _ rfl) rfl) ?_
    refine sq_cons ⟨_, [(.t 7, iV (t0.length : Int))]⟩ (w_len t0 eEntry rfl rfl trivial rfl (ble _ _ rfl) slT47 rfl) ?_
    refine sq_cons ⟨_, [(.t 8, iV 0)]⟩ (v_move (.inl rfl) trivial rfl (ble _ _ rfl) rfl) ?_
    refine sq_nil ?_
    refine ht_block ?_
    refine ht_rd h (fun _ => rfl) (fun t8 => tell [(.t 0, .d (.sl 2 (t0.map eEntry))), (.t 1, .d (.fn 60 [(.dp (eShard t1u0))])), (.t 7, iV (t0.length : Int)), (.t 8, iV t8)]) (wk_ren _ (fun i => i) rfl ⟨rfl, rfl, rfl, rfl, trivial⟩) fun k t8 h K13 j7 => ?_
    rw [F81_60_l1] at h
    refine ht_seq ?_
    refine ht_region ?_
    refine sq_cons ⟨_, [(.t 9, bV (ltI t8 (t0.length : Int)))]⟩ (v_bin rfl trivial rfl (ble _ _ rfl) rfl rfl (b_lss rfl)) ?_
    refine sq_nil ?_
    refine ht_seq ?_
    refine ht_cond (b := (ltI t8 (t0.length : Int))) rfl (fun e9 => ?_) (fun e9 => ?_)
    · replace h := cpos e9 h
      refine ht_skip ?_
      refine ht_seq ?_
      refine ht_block ?_
      refine ht_seq ?_
      refine ht_region ?_
      refine sq_cons ⟨_, [(.t 10, iV t8)]⟩ (v_move (.inl rfl) trivial rfl (ble _ _ rfl) rfl) ?_
      refine sq_cons ⟨_, [(.t 5, iV t8)]⟩ (v_move (.inr rfl) trivial rfl (ble _ _ rfl) rfl) ?_
      refine sq_nil ?_
      refine ht_seq ?_
      refine ht_region ?_
      refine sq_cons ⟨_, [(.t 11, .d (.fn 60 [(.dp (eShard t1u0))]))]⟩ (v_move (.inl rfl) trivial rfl (ble _ _ rfl) rfl) ?_
      refine sq_cons ⟨_, [(.t 12, .d (.sl 2 (t0.map eEntry)))]⟩ (v_move (.inl rfl) trivial rfl (ble _ _ rfl) rfl) ?_
      refine sq_cons ⟨_, [(.t 13, iV t8)]⟩ (v_move (.inl rfl) trivial rfl (ble _ _ rfl) rfl) ?_
      obtain ⟨e10, h⟩ := gpos h
      refine sq_cons ⟨_, [(.t 14, .d (.dp (eEntry (rd t0 t8))))]⟩ (w_idx t0 eEntry rfl trivial rfl (ble _ _ rfl) slT47 rfl rfl e10) ?_
      refine sq_cons ⟨_, [(.t 15, .d (.agg (eEntry (rd t0 t8))))]⟩ (w_ldp (eEntry (rd t0 t8)) (eEntry (rd t0 t8)) rfl trivial rfl (ble _ _ rfl) ag100 rfl (ble _ _ rfl) rfl) ?_
      obtain ⟨t16, c11, h⟩ := bpos h
      refine sq_cons ⟨_, [(.t 16, bV t16)]⟩ (w_call (ds := [(.agg (eEntry (rd t0 t8)))]) (caps := [(.dp (eShard t1u0))]) (l := [(.s (.bool t16))]) (s60 k (rd t0 t8) t1u0 _ c11) rfl rfl rfl en60 trivial rfl (ble _ _ rfl) (.inr rfl) rfl rfl) ?_
      refine sq_nil ?_
      refine ht_cond (b := t16) rfl (fun e12 => ?_) (fun e12 => ?_)
      · replace h := cpos e12 h
        refine ht_seq ?_
        refine ht_region ?_
        refine sq_cons ⟨_, [(.t 17, iV t8)]⟩ (v_move (.inl rfl) trivial rfl (ble _ _ rfl) rfl) ?_
        refine sq_cons ⟨_, [(.t 4, iV t8)]⟩ (v_move (.inr rfl) trivial rfl (ble _ _ rfl) rfl) ?_
        refine sq_nil ?_
        refine ht_ret ?_
        cases h
        cases r5 _ rfl
        exact ret1 rfl (.tmp rfl)
      · replace h := cneg e12 h
        refine ht_skip ?_
        refine ht_region ?_
        refine sq_cons ⟨_, [(.t 18, iV (IntKind.wrap .i64 (t8 + 1)))]⟩ (v_bin rfl trivial rfl (ble _ _ rfl) rfl rfl (b_add rfl)) ?_
        refine sq_cons ⟨_, [(.t 8, iV (IntKind.wrap .i64 (t8 + 1)))]⟩ (v_move (.inl rfl) trivial rfl (ble _ _ rfl) rfl) ?_
        refine sq_nil ?_
        exact j7 _ _ h (wk_ren _ (fun i => i) rfl ⟨rfl, rfl, rfl, rfl, trivial⟩)
    · replace h := cneg e9 h
      refine ht_exit ?_
      refine tq ?_
      refine tq ?_
      refine bq_hit ?_
      cases h
      exact j4 _ _ rfl (wk_ren _ (fun i => i) rfl trivial)
set_option maxRecDepth 100000 in
set_option maxHeartbeats 4000000 in
theorem s59_60 (k : Nat) (t0 : List Entry) (t1u0 : Shard) (r : Bool) (h : F59_60 k t0 t1u0 = some r) : Awp.Spec Tryd.prog amb 59 [(.sl 2 (t0.map eEntry)), (.fn 60 [(.dp (eShard t1u0))])] (.ds [(.s (.bool r))]) := by
  rw [F59_60] at h
  refine spec_of Tryd.func59 rfl (ble _ _ rfl) fun w0 ok0 lt0 hA => ?_
  refine ht_seq ?_
  refine ht_region ?_
  refine sq_cons ⟨_, [(.t 4, bV false)]⟩ (v_move (.inr rfl) trivial rfl (ble _ _ rfl) rfl) ?_
  refine sq_nil ?_
  refine ht_seq ?_
  refine ht_region ?_
  refine sq_cons ⟨_, [(.t 5, .d (.sl 2 (t0.map eEntry)))]⟩ (v_move (.inl rfl) trivial rfl (ble _ _ rfl) rfl) ?_
  refine sq_cons ⟨_, [(.t 6, .d (.fn 60 [(.dp (eShard t1u0))]))]⟩ (v_move (.inl rfl) trivial rfl (ble _ _ rfl) rfl) ?_
  obtain ⟨t7, c1, h⟩ := bpos h
  refine sq_cons ⟨_, [(.t 7, iV t7)]⟩ (w_call (ds := [(.sl 2 (t0.map eEntry)), (.fn 60 [(.dp (eShard t1u0))])]) (caps := []) (l := [(.s (.int .i64 t7))]) (s81_60 k t0 t1u0 _ c1) rfl rfl rfl en81 trivial rfl (ble _ _ rfl) (.inl ⟨rfl, rfl⟩) rfl rfl) ?_
  refine sq_cons ⟨_, [(.t 8, bV (leI 0 t7))]⟩ (v_bin rfl trivial rfl (ble _ _ rfl) rfl rfl (b_geq rfl)) ?_
  refine sq_cons ⟨_, [(.t 4, bV (leI 0 t7))]⟩ (v_move (.inr rfl) trivial rfl (ble _ _ rfl) rfl) ?_
  refine sq_nil ?_
  refine ht_ret ?_
  cases h
  exact ret1 rfl (.tmp rfl)
set_option maxRecDepth 100000 in
set_option maxHeartbeats 4000000 in
theorem s37 (k : Nat) (t0 : Shard) (r : Bool) (h : F37 k t0 = some r) : Awp.Spec Tryd.prog amb 37 [(.agg (eShard t0))] (.ds [(.s (.bool r))]) := by
  rw [F37] at h
  refine spec_of Tryd.func37 rfl (ble _ _ rfl) fun w0 ok0 lt0 hA => ?_
  refine ht_seq ?_
  refine ht_region ?_
  refine sq_cons ⟨_, [(.t 1, .d (.dp (eShard t0)))]⟩ (v_box_d (cs := (eShard t0)) rfl trivial rfl (ble _ _ rfl) rfl rfl (ones_of rfl)) ?_
  refine sq_cons ⟨_, [(.t 2, bV false)]⟩ (v_move (.inr rfl) trivial rfl (ble _ _ rfl) rfl) ?_
  refine sq_nil ?_
  refine ht_seq ?_
  refine ht_seq ?_
  refine ht_region ?_
  refine sq_cons ⟨_, [(.t 3, .d (.dp (eShard t0)))]⟩ (v_field_dp (a0 := 0) (cs := (eShard t0)) rfl trivial rfl (ble _ _ rfl) fo50_0 rfl) ?_
  refine sq_cons ⟨_, [(.t 4, iV t0.mID)]⟩ (v_load_dp1 rfl trivial rfl (ble _ _ rfl) onT3 rfl rfl) ?_
  refine sq_cons ⟨_, [(.t 5, .d (.dp (List.drop 1 (eShard t0))))]⟩ (v_field_dp (a0 := 1) (cs := (eShard t0)) rfl trivial rfl (ble _ _ rfl) fo50_1 rfl) ?_
  refine sq_cons ⟨_, [(.t 6, iV t0.mEpoch)]⟩ (v_load_dp1 rfl trivial rfl (ble _ _ rfl) onT3 rfl rfl) ?_
  refine sq_cons ⟨_, [(.t 7, .d (.sl 1 (([t0.mID, t0.mEpoch]).map (eI .i64))))]⟩ (w_bsl_d [(0, iV t0.mID), (1, iV t0.mEpoch)] [t0.mID, t0.mEpoch] (eI .i64) rfl trivial rfl (ble _ _ rfl) slT61 zr3 (encI .i64) (ble _ _ rfl) rfl (by kernel_rfl) rfl rfl (by kernel_rfl)) ?_
  obtain ⟨t8, c1, h⟩ := bpos h
  refine sq_cons ⟨_, [(.t 8, bV t8)]⟩ (w_call (ds := [(.s (.int .i64 1)), (.sl 1 (([t0.mID, t0.mEpoch]).map (eI .i64)))]) (caps := []) (l := [(.s (.bool t8))]) (s12 k 1 ([t0.mID, t0.mEpoch]) _ c1) rfl rfl rfl en12 trivial rfl (ble _ _ rfl) (.inl ⟨rfl, rfl⟩) rfl rfl) ?_
  refine sq_cons ⟨_, [(.t 9, bV (!t8))]⟩ (v_un rfl trivial rfl (ble _ _ rfl) rfl (u_not rfl)) ?_
  refine sq_cons ⟨_, [(.t 10, bV (!t8))]⟩ (v_move (.inl rfl) trivial rfl (ble _ _ rfl) rfl) ?_
  refine sq_cons ⟨_, [(.t 11, mg (!(!t8)) (.d (.dp (List.drop 13 (eShard t0)))))]⟩ (v_cF rfl rfl rfl (ble _ _ rfl) rfl fun e2 => (v_field_dp (a0 := 13) (cs := (eShard t0)) rfl ⟨_, rfl, be e2⟩ rfl (ble _ _ rfl) fo50_8 rfl)) ?_
  refine sq_cons ⟨_, [(.t 12, mg (!(!t8)) (iV t0.mHold))]⟩ (v_cF rfl rfl rfl (ble _ _ rfl) rfl fun e3 => (v_load_dp1 rfl ⟨_, rfl, be e3⟩ rfl (ble _ _ rfl) onT3 (gv (nF e3)) rfl)) ?_
  refine sq_cons ⟨_, [(.t 13, mg (!(!t8)) (.d (.dp (List.drop 14 (eShard t0)))))]⟩ (v_cF rfl rfl rfl (ble _ _ rfl) rfl fun e4 => (v_field_dp (a0 := 14) (cs := (eShard t0)) rfl ⟨_, rfl, be e4⟩ rfl (ble _ _ rfl) fo50_9 rfl)) ?_
  refine sq_cons ⟨_, [(.t 14, mg (!(!t8)) (iV t0.mSeen))]⟩ (v_cF rfl rfl rfl (ble _ _ rfl) rfl fun e5 => (v_load_dp1 rfl ⟨_, rfl, be e5⟩ rfl (ble _ _ rfl) onT3 (gv (nF e5)) rfl)) ?_
  refine sq_cons ⟨_, [(.t 15, mg (!(!t8)) (.d (.dp (List.drop 15 (eShard t0)))))]⟩ (v_cF rfl rfl rfl (ble _ _ rfl) rfl fun e6 => (v_field_dp (a0 := 15) (cs := (eShard t0)) rfl ⟨_, rfl, be e6⟩ rfl (ble _ _ rfl) fo50_10 rfl)) ?_
  refine sq_cons ⟨_, [(.t 16, mg (!(!t8)) (iV t0.mMove))]⟩ (v_cF rfl rfl rfl (ble _ _ rfl) rfl fun e7 => (v_load_dp1 rfl ⟨_, rfl, be e7⟩ rfl (ble _ _ rfl) onT3 (gv (nF e7)) rfl)) ?_
  refine sq_cons ⟨_, [(.t 17, mg (!(!t8)) (.d (.dp (List.drop 16 (eShard t0)))))]⟩ (v_cF rfl rfl rfl (ble _ _ rfl) rfl fun e8 => (v_field_dp (a0 := 16) (cs := (eShard t0)) rfl ⟨_, rfl, be e8⟩ rfl (ble _ _ rfl) fo50_11 rfl)) ?_
  refine sq_cons ⟨_, [(.t 18, mg (!(!t8)) (iV t0.mClosed))]⟩ (v_cF rfl rfl rfl (ble _ _ rfl) rfl fun e9 => (v_load_dp1 rfl ⟨_, rfl, be e9⟩ rfl (ble _ _ rfl) onT3 (gv (nF e9)) rfl)) ?_
  refine sq_cons ⟨_, [(.t 19, mg (!(!t8)) (.d (.sl 1 (([t0.mHold, t0.mSeen, t0.mMove, t0.mClosed]).map (eI .i64)))))]⟩ (v_cF rfl rfl rfl (ble _ _ rfl) rfl fun e10 => (w_bsl_d [(0, iV t0.mHold), (1, iV t0.mSeen), (2, iV t0.mMove), (3, iV t0.mClosed)] [t0.mHold, t0.mSeen, t0.mMove, t0.mClosed] (eI .i64) rfl ⟨_, rfl, be e10⟩ rfl (ble _ _ rfl) slT61 zr3 (encI .i64) (ble _ _ rfl) (cc (pr (gv (nF e10))) (cc (pr (gv (nF e10))) (cc (pr (gv (nF e10))) (cc (pr (gv (nF e10))) rfl)))) (by kernel_rfl) rfl rfl (by kernel_rfl))) ?_
  obtain ⟨t20, c12, h⟩ := bpos h
  refine sq_cons ⟨_, [(.t 20, mg (!(!t8)) (bV t20))]⟩ (v_cF rfl rfl rfl (ble _ _ rfl) rfl fun e11 => (w_call (ds := [(.s (.int .i64 0)), (.sl 1 (([t0.mHold, t0.mSeen, t0.mMove, t0.mClosed]).map (eI .i64)))]) (caps := []) (l := [(.s (.bool t20))]) (s12 k 0 ([t0.mHold, t0.mSeen, t0.mMove, t0.mClosed]) _ (cpos (nF e11) c12)) rfl rfl rfl en12 ⟨_, rfl, be e11⟩ rfl (ble _ _ rfl) (.inl ⟨rfl, rfl⟩) (cc rfl (cc (gv (nF e11)) rfl)) rfl)) ?_
  refine sq_cons ⟨_, [(.t 21, mg (!(!t8)) (bV (!t20)))]⟩ (v_cF rfl rfl rfl (ble _ _ rfl) rfl fun e13 => (v_un rfl ⟨_, rfl, be e13⟩ rfl (ble _ _ rfl) (gv (nF e13)) (u_not rfl))) ?_
  refine sq_cons ⟨_, [(.t 22, bV ((!t8) || (!t20)))]⟩ (v_pickB rfl trivial rfl (ble _ _ rfl) rfl (fun e14 => rfl) (fun e15 => (gv (nF e15))) (pO _ _)) ?_
  refine sq_cons ⟨_, [(.t 23, bV ((!t8) || (!t20)))]⟩ (v_move (.inl rfl) trivial rfl (ble _ _ rfl) rfl) ?_
  refine sq_cons ⟨_, [(.t 24, mg (!((!t8) || (!t20))) (.d (.dp (List.drop 4 (eShard t0)))))]⟩ (v_cF rfl rfl rfl (ble _ _ rfl) rfl fun e16 => (v_field_dp (a0 := 4) (cs := (eShard t0)) rfl ⟨_, rfl, be e16⟩ rfl (ble _ _ rfl) fo50_3 rfl)) ?_
  refine sq_cons ⟨_, [(.t 25, mg (!((!t8) || (!t20))) (iV t0.mPhase))]⟩ (v_cF rfl rfl rfl (ble _ _ rfl) rfl fun e17 => (v_load_dp1 rfl ⟨_, rfl, be e17⟩ rfl (ble _ _ rfl) onT3 (gv (nF e17)) rfl)) ?_
  refine sq_cons ⟨_, [(.t 26, mg (!((!t8) || (!t20))) (bV (ltI t0.mPhase 1)))]⟩ (v_cF rfl rfl rfl (ble _ _ rfl) rfl fun e18 => (v_bin rfl ⟨_, rfl, be e18⟩ rfl (ble _ _ rfl) (gv (nF e18)) rfl (b_lss rfl))) ?_
  refine sq_cons ⟨_, [(.t 27, bV (((!t8) || (!t20)) || (ltI t0.mPhase 1)))]⟩ (v_pickB rfl trivial rfl (ble _ _ rfl) rfl (fun e19 => rfl) (fun e20 => (gv (nF e20))) (pO _ _)) ?_
  refine sq_cons ⟨_, [(.t 28, bV (((!t8) || (!t20)) || (ltI t0.mPhase 1)))]⟩ (v_move (.inl rfl) trivial rfl (ble _ _ rfl) rfl) ?_
  refine sq_cons ⟨_, [(.t 29, mg (!(((!t8) || (!t20)) || (ltI t0.mPhase 1))) (.d (.dp (List.drop 4 (eShard t0)))))]⟩ (v_cF rfl rfl rfl (ble _ _ rfl) rfl fun e21 => (v_field_dp (a0 := 4) (cs := (eShard t0)) rfl ⟨_, rfl, be e21⟩ rfl (ble _ _ rfl) fo50_3 rfl)) ?_
  refine sq_cons ⟨_, [(.t 30, mg (!(((!t8) || (!t20)) || (ltI t0.mPhase 1))) (iV t0.mPhase))]⟩ (v_cF rfl rfl rfl (ble _ _ rfl) rfl fun e22 => (v_load_dp1 rfl ⟨_, rfl, be e22⟩ rfl (ble _ _ rfl) onT3 (gv (nF e22)) rfl)) ?_
  refine sq_cons ⟨_, [(.t 31, mg (!(((!t8) || (!t20)) || (ltI t0.mPhase 1))) (bV (ltI 3 t0.mPhase)))]⟩ (v_cF rfl rfl rfl (ble _ _ rfl) rfl fun e23 => (v_bin rfl ⟨_, rfl, be e23⟩ rfl (ble _ _ rfl) (gv (nF e23)) rfl (b_gtr rfl))) ?_
  refine sq_cons ⟨_, [(.t 32, bV ((((!t8) || (!t20)) || (ltI t0.mPhase 1)) || (ltI 3 t0.mPhase)))]⟩ (v_pickB rfl trivial rfl (ble _ _ rfl) rfl (fun e24 => rfl) (fun e25 => (gv (nF e25))) (pO _ _)) ?_
  refine sq_nil ?_
  refine ht_cond (b := ((((!t8) || (!t20)) || (ltI t0.mPhase 1)) || (ltI 3 t0.mPhase))) rfl (fun e26 => ?_) (fun e26 => ?_)
  · replace h := cpos e26 h
    refine ht_seq ?_
    refine ht_region ?_
    refine sq_cons ⟨_, [(.t 2, bV false)]⟩ (v_move (.inr rfl) trivial rfl (ble _ _ rfl) rfl) ?_
    refine sq_nil ?_
    refine ht_ret ?_
    cases h
    exact ret1 rfl (.tmp rfl)
  · replace h := cneg e26 h
    refine ht_skip ?_
    refine ht_seq ?_
    refine ht_seq ?_
    refine ht_region ?_
    refine sq_cons ⟨_, [(.t 33, .d (.dp (List.drop 2 (eShard t0))))]⟩ (v_field_dp (a0 := 2) (cs := (eShard t0)) rfl trivial rfl (ble _ _ rfl) fo50_2 rfl) ?_
    refine sq_cons ⟨_, [(.t 34, .d (.agg (eSpan t0.mSpan)))]⟩ (w_ldp (List.drop 2 (eShard t0)) (eSpan t0.mSpan) rfl trivial rfl (ble _ _ rfl) ag46 rfl (ble _ _ rfl) rfl) ?_
    obtain ⟨t35, c27, h⟩ := bpos h
    refine sq_cons ⟨_, [(.t 35, bV t35)]⟩ (w_call (ds := [(.agg (eSpan t0.mSpan))]) (caps := []) (l := [(.s (.bool t35))]) (s42 k t0.mSpan _ c27) rfl rfl rfl en42 trivial rfl (ble _ _ rfl) (.inl ⟨rfl, rfl⟩) rfl rfl) ?_
    refine sq_cons ⟨_, [(.t 36, bV (!t35))]⟩ (v_un rfl trivial rfl (ble _ _ rfl) rfl (u_not rfl)) ?_
    refine sq_cons ⟨_, [(.t 37, bV (!t35))]⟩ (v_move (.inl rfl) trivial rfl (ble _ _ rfl) rfl) ?_
    refine sq_cons ⟨_, [(.t 38, mg (!(!t35)) (.d (.dp (List.drop 5 (eShard t0)))))]⟩ (v_cF rfl rfl rfl (ble _ _ rfl) rfl fun e28 => (v_field_dp (a0 := 5) (cs := (eShard t0)) rfl ⟨_, rfl, be e28⟩ rfl (ble _ _ rfl) fo50_4 rfl)) ?_
    refine sq_cons ⟨_, [(.t 39, mg (!(!t35)) (.d (.sl 2 (t0.mEntries.map eEntry))))]⟩ (v_cF rfl rfl rfl (ble _ _ rfl) rfl fun e29 => (v_load_dp1 rfl ⟨_, rfl, be e29⟩ rfl (ble _ _ rfl) onT47 (gv (nF e29)) rfl)) ?_
    obtain ⟨t40, c31, h⟩ := bpos h
    refine sq_cons ⟨_, [(.t 40, mg (!(!t35)) (bV t40))]⟩ (v_cF rfl rfl rfl (ble _ _ rfl) rfl fun e30 => (w_call (ds := [(.sl 2 (t0.mEntries.map eEntry))]) (caps := []) (l := [(.s (.bool t40))]) (s57 k t0.mEntries _ (cpos (nF e30) c31)) rfl rfl rfl en57 ⟨_, rfl, be e30⟩ rfl (ble _ _ rfl) (.inl ⟨rfl, rfl⟩) (cc (gv (nF e30)) rfl) rfl)) ?_
    refine sq_cons ⟨_, [(.t 41, mg (!(!t35)) (bV (!t40)))]⟩ (v_cF rfl rfl rfl (ble _ _ rfl) rfl fun e32 => (v_un rfl ⟨_, rfl, be e32⟩ rfl (ble _ _ rfl) (gv (nF e32)) (u_not rfl))) ?_
    refine sq_cons ⟨_, [(.t 42, bV ((!t35) || (!t40)))]⟩ (v_pickB rfl trivial rfl (ble _ _ rfl) rfl (fun e33 => rfl) (fun e34 => (gv (nF e34))) (pO _ _)) ?_
    refine sq_cons ⟨_, [(.t 43, bV ((!t35) || (!t40)))]⟩ (v_move (.inl rfl) trivial rfl (ble _ _ rfl) rfl) ?_
    refine sq_cons ⟨_, [(.t 44, mg (!((!t35) || (!t40))) (.d (.dp (List.drop 6 (eShard t0)))))]⟩ (v_cF rfl rfl rfl (ble _ _ rfl) rfl fun e35 => (v_field_dp (a0 := 6) (cs := (eShard t0)) rfl ⟨_, rfl, be e35⟩ rfl (ble _ _ rfl) fo50_5 rfl)) ?_
    refine sq_cons ⟨_, [(.t 45, mg (!((!t35) || (!t40))) (.d (.agg (eStamp t0.mMark))))]⟩ (v_cF rfl rfl rfl (ble _ _ rfl) rfl fun e36 => (w_ldp (List.drop 6 (eShard t0)) (eStamp t0.mMark) rfl ⟨_, rfl, be e36⟩ rfl (ble _ _ rfl) ag23 (gv (nF e36)) (ble _ _ rfl) rfl)) ?_
    obtain ⟨t46, c38, h⟩ := bpos h
    refine sq_cons ⟨_, [(.t 46, mg (!((!t35) || (!t40))) (bV t46))]⟩ (v_cF rfl rfl rfl (ble _ _ rfl) rfl fun e37 => (w_call (ds := [(.agg (eStamp t0.mMark))]) (caps := []) (l := [(.s (.bool t46))]) (s13 k t0.mMark _ (cpos (nF e37) c38)) rfl rfl rfl en13 ⟨_, rfl, be e37⟩ rfl (ble _ _ rfl) (.inl ⟨rfl, rfl⟩) (cc (gv (nF e37)) rfl) rfl)) ?_
    refine sq_cons ⟨_, [(.t 47, mg (!((!t35) || (!t40))) (bV (!t46)))]⟩ (v_cF rfl rfl rfl (ble _ _ rfl) rfl fun e39 => (v_un rfl ⟨_, rfl, be e39⟩ rfl (ble _ _ rfl) (gv (nF e39)) (u_not rfl))) ?_
    refine sq_cons ⟨_, [(.t 48, bV (((!t35) || (!t40)) || (!t46)))]⟩ (v_pickB rfl trivial rfl (ble _ _ rfl) rfl (fun e40 => rfl) (fun e41 => (gv (nF e41))) (pO _ _)) ?_
    refine sq_cons ⟨_, [(.t 49, bV (((!t35) || (!t40)) || (!t46)))]⟩ (v_move (.inl rfl) trivial rfl (ble _ _ rfl) rfl) ?_
    refine sq_cons ⟨_, [(.t 50, mg (!(((!t35) || (!t40)) || (!t46))) (.d (.dp (List.drop 9 (eShard t0)))))]⟩ (v_cF rfl rfl rfl (ble _ _ rfl) rfl fun e42 => (v_field_dp (a0 := 9) (cs := (eShard t0)) rfl ⟨_, rfl, be e42⟩ rfl (ble _ _ rfl) fo50_6 rfl)) ?_
    refine sq_cons ⟨_, [(.t 51, mg (!(((!t35) || (!t40)) || (!t46))) (.d (.agg (eStamp t0.mTop))))]⟩ (v_cF rfl rfl rfl (ble _ _ rfl) rfl fun e43 => (w_ldp (List.drop 9 (eShard t0)) (eStamp t0.mTop) rfl ⟨_, rfl, be e43⟩ rfl (ble _ _ rfl) ag23 (gv (nF e43)) (ble _ _ rfl) rfl)) ?_
    obtain ⟨t52, c45, h⟩ := bpos h
    refine sq_cons ⟨_, [(.t 52, mg (!(((!t35) || (!t40)) || (!t46))) (bV t52))]⟩ (v_cF rfl rfl rfl (ble _ _ rfl) rfl fun e44 => (w_call (ds := [(.agg (eStamp t0.mTop))]) (caps := []) (l := [(.s (.bool t52))]) (s13 k t0.mTop _ (cpos (nF e44) c45)) rfl rfl rfl en13 ⟨_, rfl, be e44⟩ rfl (ble _ _ rfl) (.inl ⟨rfl, rfl⟩) (cc (gv (nF e44)) rfl) rfl)) ?_
    refine sq_cons ⟨_, [(.t 53, mg (!(((!t35) || (!t40)) || (!t46))) (bV (!t52)))]⟩ (v_cF rfl rfl rfl (ble _ _ rfl) rfl fun e46 => (v_un rfl ⟨_, rfl, be e46⟩ rfl (ble _ _ rfl) (gv (nF e46)) (u_not rfl))) ?_
    refine sq_cons ⟨_, [(.t 54, bV ((((!t35) || (!t40)) || (!t46)) || (!t52)))]⟩ (v_pickB rfl trivial rfl (ble _ _ rfl) rfl (fun e47 => rfl) (fun e48 => (gv (nF e48))) (pO _ _)) ?_
    refine sq_cons ⟨_, [(.t 55, bV ((((!t35) || (!t40)) || (!t46)) || (!t52)))]⟩ (v_move (.inl rfl) trivial rfl (ble _ _ rfl) rfl) ?_
    refine sq_cons ⟨_, [(.t 56, mg (!((((!t35) || (!t40)) || (!t46)) || (!t52))) (.d (.dp (List.drop 12 (eShard t0)))))]⟩ (v_cF rfl rfl rfl (ble _ _ rfl) rfl fun e49 => (v_field_dp (a0 := 12) (cs := (eShard t0)) rfl ⟨_, rfl, be e49⟩ rfl (ble _ _ rfl) fo50_7 rfl)) ?_
    refine sq_cons ⟨_, [(.t 57, mg (!((((!t35) || (!t40)) || (!t46)) || (!t52))) (.d (.sl 11 (t0.mDone.map eDone))))]⟩ (v_cF rfl rfl rfl (ble _ _ rfl) rfl fun e50 => (v_load_dp1 rfl ⟨_, rfl, be e50⟩ rfl (ble _ _ rfl) onT48 (gv (nF e50)) rfl)) ?_
    obtain ⟨t58, c52, h⟩ := bpos h
    refine sq_cons ⟨_, [(.t 58, mg (!((((!t35) || (!t40)) || (!t46)) || (!t52))) (bV t58))]⟩ (v_cF rfl rfl rfl (ble _ _ rfl) rfl fun e51 => (w_call (ds := [(.sl 11 (t0.mDone.map eDone))]) (caps := []) (l := [(.s (.bool t58))]) (s58 k t0.mDone _ (cpos (nF e51) c52)) rfl rfl rfl en58 ⟨_, rfl, be e51⟩ rfl (ble _ _ rfl) (.inl ⟨rfl, rfl⟩) (cc (gv (nF e51)) rfl) rfl)) ?_
    refine sq_cons ⟨_, [(.t 59, mg (!((((!t35) || (!t40)) || (!t46)) || (!t52))) (bV (!t58)))]⟩ (v_cF rfl rfl rfl (ble _ _ rfl) rfl fun e53 => (v_un rfl ⟨_, rfl, be e53⟩ rfl (ble _ _ rfl) (gv (nF e53)) (u_not rfl))) ?_
    refine sq_cons ⟨_, [(.t 60, bV (((((!t35) || (!t40)) || (!t46)) || (!t52)) || (!t58)))]⟩ (v_pickB rfl trivial rfl (ble _ _ rfl) rfl (fun e54 => rfl) (fun e55 => (gv (nF e55))) (pO _ _)) ?_
    refine sq_nil ?_
    refine ht_cond (b := (((((!t35) || (!t40)) || (!t46)) || (!t52)) || (!t58))) rfl (fun e56 => ?_) (fun e56 => ?_)
    · replace h := cpos e56 h
      refine ht_seq ?_
      refine ht_region ?_
      refine sq_cons ⟨_, [(.t 2, bV false)]⟩ (v_move (.inr rfl) trivial rfl (ble _ _ rfl) rfl) ?_
      refine sq_nil ?_
      refine ht_ret ?_
      cases h
      exact ret1 rfl (.tmp rfl)
    · replace h := cneg e56 h
      refine ht_skip ?_
      refine ht_seq ?_
      refine ht_region ?_
      refine sq_cons ⟨_, [(.t 61, .d (.dp (List.drop 5 (eShard t0))))]⟩ (v_field_dp (a0 := 5) (cs := (eShard t0)) rfl trivial rfl (ble _ _ rfl) fo50_4 rfl) ?_
      refine sq_cons ⟨_, [(.t 62, .d (.sl 2 (t0.mEntries.map eEntry)))]⟩ (v_load_dp1 rfl trivial rfl (ble _ _ rfl) onT47 rfl rfl) ?_
      refine sq_cons ⟨_, [(.t 63, .d (.fn 60 [(.dp (eShard t0))]))]⟩ (v_func_d (ds := [(.dp (eShard t0))]) rfl trivial rfl (ble _ _ rfl) rfl) ?_
      obtain ⟨t64, c57, h⟩ := bpos h
      refine sq_cons ⟨_, [(.t 64, bV t64)]⟩ (w_call (ds := [(.sl 2 (t0.mEntries.map eEntry)), (.fn 60 [(.dp (eShard t0))])]) (caps := []) (l := [(.s (.bool t64))]) (s59_60 k t0.mEntries t0 _ c57) rfl rfl rfl en59 trivial rfl (ble _ _ rfl) (.inl ⟨rfl, rfl⟩) rfl rfl) ?_
      refine sq_cons ⟨_, [(.t 65, bV (!t64))]⟩ (v_un rfl trivial rfl (ble _ _ rfl) rfl (u_not rfl)) ?_
      refine sq_cons ⟨_, [(.t 2, bV (!t64))]⟩ (v_move (.inr rfl) trivial rfl (ble _ _ rfl) rfl) ?_
      refine sq_nil ?_
      refine ht_ret ?_
      cases h
      exact ret1 rfl (.tmp rfl)
set_option maxRecDepth 100000 in
set_option maxHeartbeats 4000000 in
theorem s61 (k : Nat) (t0 : Entry) (t1 : Stamp) (r : Bool) (h : F61 k t0 t1 = some r) : Awp.Spec Tryd.prog amb 61 [(.agg (eEntry t0)), (.dp (eStamp t1))] (.ds [(.s (.bool r))]) := by
  rw [F61] at h
  refine spec_of Tryd.func61 rfl (ble _ _ rfl) fun w0 ok0 lt0 hA => ?_
  refine ht_seq ?_
  refine ht_region ?_
  refine sq_cons ⟨_, [(.t 2, .d (.dp (eEntry t0)))]⟩ (v_box_d (cs := (eEntry t0)) rfl trivial rfl (ble _ _ rfl) rfl rfl (ones_of rfl)) ?_
  refine sq_cons ⟨_, [(.t 3, bV false)]⟩ (v_move (.inr rfl) trivial rfl (ble _ _ rfl) rfl) ?_
  refine sq_nil ?_
  refine ht_seq ?_
  refine ht_region_draw mixed ?_
  refine rg_cons ⟨_, [(.t 4, .d (.dp (List.drop 1 (eEntry t0))))]⟩ (v_field_dp (a0 := 1) (cs := (eEntry t0)) rfl trivial rfl (ble _ _ rfl) fo100_1 rfl) ?_
  refine rg_cons ⟨_, [(.t 5, .d (.sl 5 (t0.mChain.map eVersion)))]⟩ (v_load_dp1 rfl trivial rfl (ble _ _ rfl) onT98 rfl rfl) ?_
  refine rg_cons ⟨_, [(.t 6, .d (.dp (List.drop 1 (eEntry t0))))]⟩ (v_field_dp (a0 := 1) (cs := (eEntry t0)) rfl trivial rfl (ble _ _ rfl) fo100_1 rfl) ?_
  refine rg_cons ⟨_, [(.t 7, .d (.sl 5 (t0.mChain.map eVersion)))]⟩ (v_load_dp1 rfl trivial rfl (ble _ _ rfl) onT98 rfl rfl) ?_
  refine rg_cons ⟨_, [(.t 8, iV (t0.mChain.length : Int))]⟩ (w_len t0.mChain eVersion rfl rfl trivial rfl (ble _ _ rfl) slT98 rfl) ?_
  refine rg_cons ⟨_, [(.t 9, iV (IntKind.wrap .i64 ((t0.mChain.length : Int) - 1)))]⟩ (v_bin rfl trivial rfl (ble _ _ rfl) rfl rfl (b_sub rfl)) ?_
  obtain ⟨e1, h⟩ := gpos h
  refine rg_cons ⟨_, [(.t 10, .d (.dp (eVersion (rd t0.mChain (IntKind.wrap .i64 ((t0.mChain.length : Int) - 1))))))]⟩ (w_idx t0.mChain eVersion rfl trivial rfl (ble _ _ rfl) slT98 rfl rfl e1) ?_
  refine rg_cons ⟨_, [(.t 11, .d (.dp (eVersion (rd t0.mChain (IntKind.wrap .i64 ((t0.mChain.length : Int) - 1))))))]⟩ (v_field_dp (a0 := 0) (cs := (eVersion (rd t0.mChain (IntKind.wrap .i64 ((t0.mChain.length : Int) - 1))))) rfl trivial rfl (ble _ _ rfl) fo84_0 rfl) ?_
  refine rg_cons ⟨_, [(.t 12, .d (.agg (eStamp (rd t0.mChain (IntKind.wrap .i64 ((t0.mChain.length : Int) - 1))).mAt)))]⟩ (w_ldp (eVersion (rd t0.mChain (IntKind.wrap .i64 ((t0.mChain.length : Int) - 1)))) (eStamp (rd t0.mChain (IntKind.wrap .i64 ((t0.mChain.length : Int) - 1))).mAt) rfl trivial rfl (ble _ _ rfl) ag23 rfl (ble _ _ rfl) rfl) ?_
  refine rg_cons ⟨_, [(.t 13, .d (.agg (eStamp t1)))]⟩ (w_ldp (eStamp t1) (eStamp t1) rfl trivial rfl (ble _ _ rfl) ag23 rfl (ble _ _ rfl) rfl) ?_
  obtain ⟨t14, c2, h⟩ := bpos h
  refine rg_cons ⟨_, [(.t 14, iV t14)]⟩ (w_call (ds := [(.agg (eStamp (rd t0.mChain (IntKind.wrap .i64 ((t0.mChain.length : Int) - 1))).mAt)), (.agg (eStamp t1))]) (caps := []) (l := [(.s (.int .i64 t14))]) (s29 k (rd t0.mChain (IntKind.wrap .i64 ((t0.mChain.length : Int) - 1))).mAt t1 _ c2) rfl rfl rfl en29 trivial rfl (ble _ _ rfl) (.inl ⟨rfl, rfl⟩) rfl rfl) ?_
  refine rg_cons ⟨_, [(.t 15, bV (ltI 0 t14))]⟩ (v_bin rfl trivial rfl (ble _ _ rfl) rfl rfl (b_gtr rfl)) ?_
  refine rg_cons ⟨_, [(.t 3, bV (ltI 0 t14))]⟩ (v_move (.inr rfl) trivial rfl (ble _ _ rfl) rfl) ?_
  refine rg_nil ⟨by kernel_rfl, ?_⟩
  refine ht_ret ?_
  cases h
  exact ret1 rfl (.tmp rfl)
set_option maxRecDepth 100000 in
set_option maxHeartbeats 4000000 in
theorem s81_61 (k : Nat) (t0 : List Entry) (t1u0 : Stamp) (r : Int) (h : F81_61 k t0 t1u0 = some r) : Awp.Spec Tryd.prog amb 81 [(.sl 2 (t0.map eEntry)), (.fn 61 [(.dp (eStamp t1u0))])] (.ds [(.s (.int .i64 r))]) := by
  rw [F81_61] at h
  refine spec_of Tryd.func81 rfl (ble _ _ rfl) fun w0 ok0 lt0 hA => ?_
  refine ht_seq ?_
  refine ht_region ?_
  refine sq_cons ⟨_, [(.t 4, iV 0)]⟩ (v_move (.inr rfl) trivial rfl (ble _ _ rfl) rfl) ?_
  refine sq_nil ?_
  refine ht_gj (go_id' h) (fun _ => tell []) (fun _ h => ?_) (fun v1 K2 h j4 r5 => ?_)
  · refine ht_seq ?_
    refine ht_region ?_
    refine sq_cons ⟨_, [(.t 4, iV (-1))]⟩ (v_move (.inr rfl) trivial rfl (ble _ _ rfl) rfl) ?_
    refine sq_nil ?_
    refine ht_ret ?_
    cases h
    exact ret1 rfl (.tmp rfl)
  · refine ht_seq ?_
    refine ht_region ?_
    refine sq_cons ⟨_, [(.t 6, .d (.sl 2 (t0.map eEntry)))]⟩ (v_move (.inl rfl) trivial rfl (ble _ _ rfl) rfl) ?_
    refine sq_cons ⟨_, [(.t 7, iV (t0.length : Int))]⟩ (w_len t0 eEntry rfl rfl trivial rfl (ble _ _ rfl) slT47 rfl) ?_
    refine sq_cons ⟨_, [(.t 8, iV 0)]⟩ (v_move (.inl rfl) trivial rfl (ble _ _ rfl) rfl) ?_
    refine sq_nil ?_
    refine ht_block ?_
    refine ht_rd h (fun _ => rfl) (fun t8 => tell [(.t 0, .d (.sl 2 (t0.map eEntry))), (.t 1, .d (.fn 61 [(.dp (eStamp t1u0))])), (.t 7, iV (t0.length : Int)), (.t 8, iV t8)]) (wk_ren _ (fun i => i) rfl ⟨rfl, rfl, rfl, rfl, trivial⟩) fun k t8 h K13 j7 => ?_
    rw [F81_61_l1] at h
    refine ht_seq ?_
    refine ht_region ?_
    refine sq_cons ⟨_, [(.t 9, bV (ltI t8 (t0.length : Int)))]⟩ (v_bin rfl trivial rfl (ble _ _ rfl) rfl rfl (b_lss rfl)) ?_
    refine sq_nil ?_
    refine ht_seq ?_
    refine ht_cond (b := (ltI t8 (t0.length : Int))) rfl (fun e9 => ?_) (fun e9 => ?_)
    · replace h := cpos e9 h
      refine ht_skip ?_
      refine ht_seq ?_
      refine ht_block ?_
      refine ht_seq ?_
      refine ht_region ?_
      refine sq_cons ⟨_, [(.t 10, iV t8)]⟩ (v_move (.inl rfl) trivial rfl (ble _ _ rfl) rfl) ?_
      refine sq_cons ⟨_, [(.t 5, iV t8)]⟩ (v_move (.inr rfl) trivial rfl (ble _ _ rfl) rfl) ?_
      refine sq_nil ?_
      refine ht_seq ?_
      refine ht_region ?_
      refine sq_cons ⟨_, [(.t 11, .d (.fn 61 [(.dp (eStamp t1u0))]))]⟩ (v_move (.inl rfl) trivial rfl (ble _ _ rfl) rfl) ?_
      refine sq_cons ⟨_, [(.t 12, .d (.sl 2 (t0.map eEntry)))]⟩ (v_move (.inl rfl) trivial rfl (ble _ _ rfl) rfl) ?_
      refine sq_cons ⟨_, [(.t 13, iV t8)]⟩ (v_move (.inl rfl) trivial rfl (ble _ _ rfl) rfl) ?_
      obtain ⟨e10, h⟩ := gpos h
      refine sq_cons ⟨_, [(.t 14, .d (.dp (eEntry (rd t0 t8))))]⟩ (w_idx t0 eEntry rfl trivial rfl (ble _ _ rfl) slT47 rfl rfl e10) ?_
      refine sq_cons ⟨_, [(.t 15, .d (.agg (eEntry (rd t0 t8))))]⟩ (w_ldp (eEntry (rd t0 t8)) (eEntry (rd t0 t8)) rfl trivial rfl (ble _ _ rfl) ag100 rfl (ble _ _ rfl) rfl) ?_
      obtain ⟨t16, c11, h⟩ := bpos h
      refine sq_cons ⟨_, [(.t 16, bV t16)]⟩ (w_call (ds := [(.agg (eEntry (rd t0 t8)))]) (caps := [(.dp (eStamp t1u0))]) (l := [(.s (.bool t16))]) (s61 k (rd t0 t8) t1u0 _ c11) rfl rfl rfl en61 trivial rfl (ble _ _ rfl) (.inr rfl) rfl rfl) ?_
      refine sq_nil ?_
      refine ht_cond (b := t16) rfl (fun e12 => ?_) (fun e12 => ?_)
      · replace h := cpos e12 h
        refine ht_seq ?_
        refine ht_region ?_
        refine sq_cons ⟨_, [(.t 17, iV t8)]⟩ (v_move (.inl rfl) trivial rfl (ble _ _ rfl) rfl) ?_
        refine sq_cons ⟨_, [(.t 4, iV t8)]⟩ (v_move (.inr rfl) trivial rfl (ble _ _ rfl) rfl) ?_
        refine sq_nil ?_
        refine ht_ret ?_
        cases h
        cases r5 _ rfl
        exact ret1 rfl (.tmp rfl)
      · replace h := cneg e12 h
        refine ht_skip ?_
        refine ht_region ?_
        refine sq_cons ⟨_, [(.t 18, iV (IntKind.wrap .i64 (t8 + 1)))]⟩ (v_bin rfl trivial rfl (ble _ _ rfl) rfl rfl (b_add rfl)) ?_
        refine sq_cons ⟨_, [(.t 8, iV (IntKind.wrap .i64 (t8 + 1)))]⟩ (v_move (.inl rfl) trivial rfl (ble _ _ rfl) rfl) ?_
        refine sq_nil ?_
        exact j7 _ _ h (wk_ren _ (fun i => i) rfl ⟨rfl, rfl, rfl, rfl, trivial⟩)
    · replace h := cneg e9 h
      refine ht_exit ?_
      refine tq ?_
      refine tq ?_
      refine bq_hit ?_
      cases h
      exact j4 _ _ rfl (wk_ren _ (fun i => i) rfl trivial)
set_option maxRecDepth 100000 in
set_option maxHeartbeats 4000000 in
theorem s59_61 (k : Nat) (t0 : List Entry) (t1u0 : Stamp) (r : Bool) (h : F59_61 k t0 t1u0 = some r) : Awp.Spec Tryd.prog amb 59 [(.sl 2 (t0.map eEntry)), (.fn 61 [(.dp (eStamp t1u0))])] (.ds [(.s (.bool r))]) := by
  rw [F59_61] at h
  refine spec_of Tryd.func59 rfl (ble _ _ rfl) fun w0 ok0 lt0 hA => ?_
  refine ht_seq ?_
  refine ht_region ?_
  refine sq_cons ⟨_, [(.t 4, bV false)]⟩ (v_move (.inr rfl) trivial rfl (ble _ _ rfl) rfl) ?_
  refine sq_nil ?_
  refine ht_seq ?_
  refine ht_region ?_
  refine sq_cons ⟨_, [(.t 5, .d (.sl 2 (t0.map eEntry)))]⟩ (v_move (.inl rfl) trivial rfl (ble _ _ rfl) rfl) ?_
  refine sq_cons ⟨_, [(.t 6, .d (.fn 61 [(.dp (eStamp t1u0))]))]⟩ (v_move (.inl rfl) trivial rfl (ble _ _ rfl) rfl) ?_
  obtain ⟨t7, c1, h⟩ := bpos h
  refine sq_cons ⟨_, [(.t 7, iV t7)]⟩ (w_call (ds := [(.sl 2 (t0.map eEntry)), (.fn 61 [(.dp (eStamp t1u0))])]) (caps := []) (l := [(.s (.int .i64 t7))]) (s81_61 k t0 t1u0 _ c1) rfl rfl rfl en81 trivial rfl (ble _ _ rfl) (.inl ⟨rfl, rfl⟩) rfl rfl) ?_
  refine sq_cons ⟨_, [(.t 8, bV (leI 0 t7))]⟩ (v_bin rfl trivial rfl (ble _ _ rfl) rfl rfl (b_geq rfl)) ?_
  refine sq_cons ⟨_, [(.t 4, bV (leI 0 t7))]⟩ (v_move (.inr rfl) trivial rfl (ble _ _ rfl) rfl) ?_
  refine sq_nil ?_
  refine ht_ret ?_
  cases h
  exact ret1 rfl (.tmp rfl)
set_option maxRecDepth 100000 in
set_option maxHeartbeats 4000000 in
theorem s38 (k : Nat) (t0 : Shard) (t1 : Stamp) (r : Bool) (h : F38 k t0 t1 = some r) : Awp.Spec Tryd.prog amb 38 [(.agg (eShard t0)), (.agg (eStamp t1))] (.ds [(.s (.bool r))]) := by
  rw [F38] at h
  refine spec_of Tryd.func38 rfl (ble _ _ rfl) fun w0 ok0 lt0 hA => ?_
  refine ht_seq ?_
  refine ht_region ?_
  refine sq_cons ⟨_, [(.t 2, .d (.dp (eShard t0)))]⟩ (v_box_d (cs := (eShard t0)) rfl trivial rfl (ble _ _ rfl) rfl rfl (ones_of rfl)) ?_
  refine sq_cons ⟨_, [(.t 3, .d (.dp (eStamp t1)))]⟩ (v_box_d (cs := (eStamp t1)) rfl trivial rfl (ble _ _ rfl) rfl rfl (ones_of rfl)) ?_
  refine sq_cons ⟨_, [(.t 4, bV false)]⟩ (v_move (.inr rfl) trivial rfl (ble _ _ rfl) rfl) ?_
  refine sq_nil ?_
  refine ht_seq ?_
  refine ht_region ?_
  refine sq_cons ⟨_, [(.t 5, .d (.dp (List.drop 5 (eShard t0))))]⟩ (v_field_dp (a0 := 5) (cs := (eShard t0)) rfl trivial rfl (ble _ _ rfl) fo50_4 rfl) ?_
  refine sq_cons ⟨_, [(.t 6, .d (.sl 2 (t0.mEntries.map eEntry)))]⟩ (v_load_dp1 rfl trivial rfl (ble _ _ rfl) onT47 rfl rfl) ?_
  refine sq_cons ⟨_, [(.t 7, .d (.fn 61 [(.dp (eStamp t1))]))]⟩ (v_func_d (ds := [(.dp (eStamp t1))]) rfl trivial rfl (ble _ _ rfl) rfl) ?_
  obtain ⟨t8, c1, h⟩ := bpos h
  refine sq_cons ⟨_, [(.t 8, bV t8)]⟩ (w_call (ds := [(.sl 2 (t0.mEntries.map eEntry)), (.fn 61 [(.dp (eStamp t1))])]) (caps := []) (l := [(.s (.bool t8))]) (s59_61 k t0.mEntries t1 _ c1) rfl rfl rfl en59 trivial rfl (ble _ _ rfl) (.inl ⟨rfl, rfl⟩) rfl rfl) ?_
  refine sq_cons ⟨_, [(.t 9, bV (!t8))]⟩ (v_un rfl trivial rfl (ble _ _ rfl) rfl (u_not rfl)) ?_
  refine sq_cons ⟨_, [(.t 4, bV (!t8))]⟩ (v_move (.inr rfl) trivial rfl (ble _ _ rfl) rfl) ?_
  refine sq_nil ?_
  refine ht_ret ?_
  cases h
  exact ret1 rfl (.tmp rfl)
set_option maxRecDepth 100000 in
set_option maxHeartbeats 4000000 in
theorem s19 (k : Nat) (t0 : Cell) (r : Bool) (h : F19 k t0 = some r) : Awp.Spec Tryd.prog amb 19 [(.agg (eCell t0))] (.ds [(.s (.bool r))]) := by
  rw [F19] at h
  refine spec_of Tryd.func19 rfl (ble _ _ rfl) fun w0 ok0 lt0 hA => ?_
  refine ht_seq ?_
  refine ht_region ?_
  refine sq_cons ⟨_, [(.t 1, .d (.dp (eCell t0)))]⟩ (v_box_d (cs := (eCell t0)) rfl trivial rfl (ble _ _ rfl) rfl rfl (ones_of rfl)) ?_
  refine sq_cons ⟨_, [(.t 2, bV false)]⟩ (v_move (.inr rfl) trivial rfl (ble _ _ rfl) rfl) ?_
  refine sq_nil ?_
  refine ht_seq ?_
  refine ht_region ?_
  refine sq_cons ⟨_, [(.t 3, iV 0)]⟩ (v_move (.inr rfl) trivial rfl (ble _ _ rfl) rfl) ?_
  refine sq_nil ?_
  refine ht_gj (go_id' h) (fun _ => tell [(.t 1, .d (.dp (eCell t0)))]) (fun _ h => ?_) (fun v1 K2 h j4 r5 => ?_)
  · refine ht_seq ?_
    refine ht_region ?_
    refine sq_cons ⟨_, [(.t 32, .d (.dp (eCell t0)))]⟩ (v_field_dp (a0 := 0) (cs := (eCell t0)) rfl trivial rfl (ble _ _ rfl) fo30_0 rfl) ?_
    refine sq_cons ⟨_, [(.t 33, .d (.sl 17 (t0.mShards.map eShard)))]⟩ (v_load_dp1 rfl trivial rfl (ble _ _ rfl) onT28 rfl rfl) ?_
    refine sq_cons ⟨_, [(.t 34, iV (t0.mShards.length : Int))]⟩ (w_len t0.mShards eShard rfl rfl trivial rfl (ble _ _ rfl) slT28 rfl) ?_
    refine sq_cons ⟨_, [(.t 35, bV (leI (t0.mShards.length : Int) 8))]⟩ (v_bin rfl trivial rfl (ble _ _ rfl) rfl rfl (b_leq rfl)) ?_
    refine sq_cons ⟨_, [(.t 36, bV (leI (t0.mShards.length : Int) 8))]⟩ (v_move (.inl rfl) trivial rfl (ble _ _ rfl) rfl) ?_
    refine sq_cons ⟨_, [(.t 37, mg (leI (t0.mShards.length : Int) 8) (.d (.dp (List.drop 1 (eCell t0)))))]⟩ (v_cT rfl rfl rfl (ble _ _ rfl) rfl fun e27 => (v_field_dp (a0 := 1) (cs := (eCell t0)) rfl ⟨_, rfl, be e27⟩ rfl (ble _ _ rfl) fo30_1 rfl)) ?_
    refine sq_cons ⟨_, [(.t 38, mg (leI (t0.mShards.length : Int) 8) (.d (.agg (eStamp t0.mTop))))]⟩ (v_cT rfl rfl rfl (ble _ _ rfl) rfl fun e28 => (w_ldp (List.drop 1 (eCell t0)) (eStamp t0.mTop) rfl ⟨_, rfl, be e28⟩ rfl (ble _ _ rfl) ag23 (gv e28) (ble _ _ rfl) rfl)) ?_
    obtain ⟨t39, c30, h⟩ := bpos h
    refine sq_cons ⟨_, [(.t 39, mg (leI (t0.mShards.length : Int) 8) (bV t39))]⟩ (v_cT rfl rfl rfl (ble _ _ rfl) rfl fun e29 => (w_call (ds := [(.agg (eStamp t0.mTop))]) (caps := []) (l := [(.s (.bool t39))]) (s13 k t0.mTop _ (cpos e29 c30)) rfl rfl rfl en13 ⟨_, rfl, be e29⟩ rfl (ble _ _ rfl) (.inl ⟨rfl, rfl⟩) (cc (gv e29) rfl) rfl)) ?_
    refine sq_cons ⟨_, [(.t 40, bV ((leI (t0.mShards.length : Int) 8) && t39))]⟩ (v_pickB rfl trivial rfl (ble _ _ rfl) rfl (fun e31 => (gv e31)) (fun e32 => rfl) (pA _ _)) ?_
    refine sq_cons ⟨_, [(.t 41, bV ((leI (t0.mShards.length : Int) 8) && t39))]⟩ (v_move (.inl rfl) trivial rfl (ble _ _ rfl) rfl) ?_
    refine sq_cons ⟨_, [(.t 42, mg ((leI (t0.mShards.length : Int) 8) && t39) (.d (.dp (List.drop 4 (eCell t0)))))]⟩ (v_cT rfl rfl rfl (ble _ _ rfl) rfl fun e33 => (v_field_dp (a0 := 4) (cs := (eCell t0)) rfl ⟨_, rfl, be e33⟩ rfl (ble _ _ rfl) fo30_2 rfl)) ?_
    refine sq_cons ⟨_, [(.t 43, mg ((leI (t0.mShards.length : Int) 8) && t39) (iV t0.mDropped))]⟩ (v_cT rfl rfl rfl (ble _ _ rfl) rfl fun e34 => (v_load_dp1 rfl ⟨_, rfl, be e34⟩ rfl (ble _ _ rfl) onT3 (gv e34) rfl)) ?_
    refine sq_cons ⟨_, [(.t 44, mg ((leI (t0.mShards.length : Int) 8) && t39) (.d (.sl 1 (([t0.mDropped]).map (eI .i64)))))]⟩ (v_cT rfl rfl rfl (ble _ _ rfl) rfl fun e35 => (w_bsl_d [(0, iV t0.mDropped)] [t0.mDropped] (eI .i64) rfl ⟨_, rfl, be e35⟩ rfl (ble _ _ rfl) slT61 zr3 (encI .i64) (ble _ _ rfl) (cc (pr (gv e35)) rfl) (by kernel_rfl) rfl rfl (by kernel_rfl))) ?_
    obtain ⟨t45, c37, h⟩ := bpos h
    refine sq_cons ⟨_, [(.t 45, mg ((leI (t0.mShards.length : Int) 8) && t39) (bV t45))]⟩ (v_cT rfl rfl rfl (ble _ _ rfl) rfl fun e36 => (w_call (ds := [(.s (.int .i64 0)), (.sl 1 (([t0.mDropped]).map (eI .i64)))]) (caps := []) (l := [(.s (.bool t45))]) (s12 k 0 ([t0.mDropped]) _ (cpos e36 c37)) rfl rfl rfl en12 ⟨_, rfl, be e36⟩ rfl (ble _ _ rfl) (.inl ⟨rfl, rfl⟩) (cc rfl (cc (gv e36) rfl)) rfl)) ?_
    refine sq_cons ⟨_, [(.t 46, bV (((leI (t0.mShards.length : Int) 8) && t39) && t45))]⟩ (v_pickB rfl trivial rfl (ble _ _ rfl) rfl (fun e38 => (gv e38)) (fun e39 => rfl) (pA _ _)) ?_
    refine sq_cons ⟨_, [(.t 2, bV (((leI (t0.mShards.length : Int) 8) && t39) && t45))]⟩ (v_move (.inr rfl) trivial rfl (ble _ _ rfl) rfl) ?_
    refine sq_nil ?_
    refine ht_ret ?_
    cases h
    exact ret1 rfl (.tmp rfl)
  · refine ht_seq ?_
    refine ht_region ?_
    refine sq_cons ⟨_, [(.t 6, .d (.dp (eCell t0)))]⟩ (v_field_dp (a0 := 0) (cs := (eCell t0)) rfl trivial rfl (ble _ _ rfl) fo30_0 rfl) ?_
    refine sq_cons ⟨_, [(.t 7, .d (.sl 17 (t0.mShards.map eShard)))]⟩ (v_load_dp1 rfl trivial rfl (ble _ _ rfl) onT28 rfl rfl) ?_
    refine sq_cons ⟨_, [(.t 8, iV (t0.mShards.length : Int))]⟩ (w_len t0.mShards eShard rfl rfl trivial rfl (ble _ _ rfl) slT28 rfl) ?_
    refine sq_cons ⟨_, [(.t 9, iV 0)]⟩ (v_move (.inl rfl) trivial rfl (ble _ _ rfl) rfl) ?_
    refine sq_nil ?_
    refine ht_block ?_
    refine ht_rd h (fun _ => rfl) (fun (t3, t9) => tell [(.t 1, .d (.dp (eCell t0))), (.t 3, iV t3), (.t 7, .d (.sl 17 (t0.mShards.map eShard))), (.t 8, iV (t0.mShards.length : Int)), (.t 9, iV t9)]) (wk_ren _ (fun i => i) rfl ⟨rfl, rfl, rfl, rfl, rfl, trivial⟩) fun k v8 h K26 j7 => ?_
    obtain ⟨t3, t9⟩ := v8
    rw [F19_l1] at h
    refine ht_seq ?_
    refine ht_region ?_
    refine sq_cons ⟨_, [(.t 10, bV (ltI t9 (t0.mShards.length : Int)))]⟩ (v_bin rfl trivial rfl (ble _ _ rfl) rfl rfl (b_lss rfl)) ?_
    refine sq_nil ?_
    refine ht_seq ?_
    refine ht_cond (b := (ltI t9 (t0.mShards.length : Int))) rfl (fun e9 => ?_) (fun e9 => ?_)
    · replace h := cpos e9 h
      refine ht_skip ?_
      refine ht_seq ?_
      refine ht_block ?_
      refine ht_seq ?_
      refine ht_region ?_
      obtain ⟨e10, h⟩ := gpos h
      refine sq_cons ⟨_, [(.t 11, .d (.dp (eShard (rd t0.mShards t9))))]⟩ (w_idx t0.mShards eShard rfl trivial rfl (ble _ _ rfl) slT28 rfl rfl e10) ?_
      refine sq_cons ⟨_, [(.t 12, .d (.agg (eShard (rd t0.mShards t9))))]⟩ (w_ldp (eShard (rd t0.mShards t9)) (eShard (rd t0.mShards t9)) rfl trivial rfl (ble _ _ rfl) ag50 rfl (ble _ _ rfl) rfl) ?_
      refine sq_cons _ (v_alloc (id := 5) (cs := zc50) rfl trivial rfl (ble _ _ rfl) zu50 rfl ft50 rfl) ?_
      refine sq_cons _ (v_store_box (id := 5) (off := 0) (cs := (eShard (rd t0.mShards t9)).map V.d) rfl trivial rfl sz50 rfl rfl rfl rfl (ones_of rfl) (ble _ _ rfl)) ?_
      refine sq_nil ?_
      refine ht_seq ?_
      refine ht_seq ?_
      refine ht_region ?_
      refine sq_cons ⟨_, [(.t 13, .ptr 5 0)]⟩ (v_field_box (off := 0) (a0 := 0) rfl trivial rfl (ble _ _ rfl) fo50_0 rfl) ?_
      refine sq_cons ⟨_, [(.t 14, iV (rd t0.mShards t9).mID)]⟩ (v_load_box1 (id := 5) (off := 0) rfl trivial rfl (ble _ _ rfl) onT3 rfl rfl (ble _ _ rfl) rfl) ?_
      refine sq_cons ⟨_, [(.t 15, iV t3)]⟩ (v_move (.inl rfl) trivial rfl (ble _ _ rfl) rfl) ?_
      refine sq_cons ⟨_, [(.t 16, bV (leI (rd t0.mShards t9).mID t3))]⟩ (v_bin rfl trivial rfl (ble _ _ rfl) rfl rfl (b_leq rfl)) ?_
      refine sq_cons ⟨_, [(.t 17, bV (leI (rd t0.mShards t9).mID t3))]⟩ (v_move (.inl rfl) trivial rfl (ble _ _ rfl) rfl) ?_
      refine sq_cons ⟨_, [(.t 18, mg (!(leI (rd t0.mShards t9).mID t3)) (.d (.agg (eShard (rd t0.mShards t9)))))]⟩ (v_cF rfl rfl rfl (ble _ _ rfl) rfl fun e11 => (w_ldb 5 0 rfl ⟨_, rfl, be e11⟩ rfl (ble _ _ rfl) ag50 rfl rfl (ble _ _ rfl) rfl)) ?_
      obtain ⟨t19, c13, h⟩ := bpos h
      refine sq_cons ⟨_, [(.t 19, mg (!(leI (rd t0.mShards t9).mID t3)) (bV t19))]⟩ (v_cF rfl rfl rfl (ble _ _ rfl) rfl fun e12 => (w_call (ds := [(.agg (eShard (rd t0.mShards t9)))]) (caps := []) (l := [(.s (.bool t19))]) (s37 k (rd t0.mShards t9) _ (cpos (nF e12) c13)) rfl rfl rfl en37 ⟨_, rfl, be e12⟩ rfl (ble _ _ rfl) (.inl ⟨rfl, rfl⟩) (cc (gv (nF e12)) rfl) rfl)) ?_
      refine sq_cons ⟨_, [(.t 20, mg (!(leI (rd t0.mShards t9).mID t3)) (bV (!t19)))]⟩ (v_cF rfl rfl rfl (ble _ _ rfl) rfl fun e14 => (v_un rfl ⟨_, rfl, be e14⟩ rfl (ble _ _ rfl) (gv (nF e14)) (u_not rfl))) ?_
      refine sq_cons ⟨_, [(.t 21, bV ((leI (rd t0.mShards t9).mID t3) || (!t19)))]⟩ (v_pickB rfl trivial rfl (ble _ _ rfl) rfl (fun e15 => rfl) (fun e16 => (gv (nF e16))) (pO _ _)) ?_
      refine sq_cons ⟨_, [(.t 22, bV ((leI (rd t0.mShards t9).mID t3) || (!t19)))]⟩ (v_move (.inl rfl) trivial rfl (ble _ _ rfl) rfl) ?_
      refine sq_cons ⟨_, [(.t 23, mg (!((leI (rd t0.mShards t9).mID t3) || (!t19))) (.d (.agg (eShard (rd t0.mShards t9)))))]⟩ (v_cF rfl rfl rfl (ble _ _ rfl) rfl fun e17 => (w_ldb 5 0 rfl ⟨_, rfl, be e17⟩ rfl (ble _ _ rfl) ag50 rfl rfl (ble _ _ rfl) rfl)) ?_
      refine sq_cons ⟨_, [(.t 24, mg (!((leI (rd t0.mShards t9).mID t3) || (!t19))) (.d (.dp (List.drop 1 (eCell t0)))))]⟩ (v_cF rfl rfl rfl (ble _ _ rfl) rfl fun e18 => (v_field_dp (a0 := 1) (cs := (eCell t0)) rfl ⟨_, rfl, be e18⟩ rfl (ble _ _ rfl) fo30_1 rfl)) ?_
      refine sq_cons ⟨_, [(.t 25, mg (!((leI (rd t0.mShards t9).mID t3) || (!t19))) (.d (.agg (eStamp t0.mTop))))]⟩ (v_cF rfl rfl rfl (ble _ _ rfl) rfl fun e19 => (w_ldp (List.drop 1 (eCell t0)) (eStamp t0.mTop) rfl ⟨_, rfl, be e19⟩ rfl (ble _ _ rfl) ag23 (gv (nF e19)) (ble _ _ rfl) rfl)) ?_
      obtain ⟨t26, c21, h⟩ := bpos h
      refine sq_cons ⟨_, [(.t 26, mg (!((leI (rd t0.mShards t9).mID t3) || (!t19))) (bV t26))]⟩ (v_cF rfl rfl rfl (ble _ _ rfl) rfl fun e20 => (w_call (ds := [(.agg (eShard (rd t0.mShards t9))), (.agg (eStamp t0.mTop))]) (caps := []) (l := [(.s (.bool t26))]) (s38 k (rd t0.mShards t9) t0.mTop _ (cpos (nF e20) c21)) rfl rfl rfl en38 ⟨_, rfl, be e20⟩ rfl (ble _ _ rfl) (.inl ⟨rfl, rfl⟩) (cc (gv (nF e20)) (cc (gv (nF e20)) rfl)) rfl)) ?_
      refine sq_cons ⟨_, [(.t 27, mg (!((leI (rd t0.mShards t9).mID t3) || (!t19))) (bV (!t26)))]⟩ (v_cF rfl rfl rfl (ble _ _ rfl) rfl fun e22 => (v_un rfl ⟨_, rfl, be e22⟩ rfl (ble _ _ rfl) (gv (nF e22)) (u_not rfl))) ?_
      refine sq_cons ⟨_, [(.t 28, bV (((leI (rd t0.mShards t9).mID t3) || (!t19)) || (!t26)))]⟩ (v_pickB rfl trivial rfl (ble _ _ rfl) rfl (fun e23 => rfl) (fun e24 => (gv (nF e24))) (pO _ _)) ?_
      refine sq_nil ?_
      refine ht_cond (b := (((leI (rd t0.mShards t9).mID t3) || (!t19)) || (!t26))) rfl (fun e25 => ?_) (fun e25 => ?_)
      · replace h := cpos e25 h
        refine ht_seq ?_
        refine ht_region ?_
        refine sq_cons ⟨_, [(.t 2, bV false)]⟩ (v_move (.inr rfl) trivial rfl (ble _ _ rfl) rfl) ?_
        refine sq_nil ?_
        refine ht_ret ?_
        cases h
        cases r5 _ rfl
        exact ret1 rfl (.tmp rfl)
      · replace h := cneg e25 h
        refine ht_skip ?_
        refine ht_region ?_
        refine sq_cons ⟨_, [(.t 29, .ptr 5 0)]⟩ (v_field_box (off := 0) (a0 := 0) rfl trivial rfl (ble _ _ rfl) fo50_0 rfl) ?_
        refine sq_cons ⟨_, [(.t 30, iV (rd t0.mShards t9).mID)]⟩ (v_load_box1 (id := 5) (off := 0) rfl trivial rfl (ble _ _ rfl) onT3 rfl rfl (ble _ _ rfl) rfl) ?_
        refine sq_cons ⟨_, [(.t 3, iV (rd t0.mShards t9).mID)]⟩ (v_move (.inr rfl) trivial rfl (ble _ _ rfl) rfl) ?_
        refine sq_nil ?_
        refine ht_region ?_
        refine sq_cons ⟨_, [(.t 31, iV (IntKind.wrap .i64 (t9 + 1)))]⟩ (v_bin rfl trivial rfl (ble _ _ rfl) rfl rfl (b_add rfl)) ?_
        refine sq_cons ⟨_, [(.t 9, iV (IntKind.wrap .i64 (t9 + 1)))]⟩ (v_move (.inl rfl) trivial rfl (ble _ _ rfl) rfl) ?_
        refine sq_nil ?_
        exact j7 _ _ h (wk_ren _ (fun i => i) rfl ⟨rfl, rfl, rfl, rfl, rfl, trivial⟩)
    · replace h := cneg e9 h
      refine ht_exit ?_
      refine tq ?_
      refine tq ?_
      refine bq_hit ?_
      cases h
      exact j4 _ _ rfl (wk_ren _ (fun i => i) rfl ⟨rfl, trivial⟩)
set_option maxRecDepth 100000 in
set_option maxHeartbeats 4000000 in
theorem s21 (k : Nat) (t0 : Int) (r : Answer) (h : F21 k t0 = some r) : Awp.Spec Tryd.prog amb 21 [(.s (.int .i64 t0))] (.ds [(.agg (eAnswer r))]) := by
  rw [F21] at h
  refine spec_of Tryd.func21 rfl (ble _ _ rfl) fun w0 ok0 lt0 hA => ?_
  refine ht_seq ?_
  refine ht_region ?_
  refine sq_cons _ (v_alloc (id := 2) (cs := zc35) rfl trivial rfl (ble _ _ rfl) zu35 rfl ft35 rfl) ?_
  refine sq_nil ?_
  refine ht_seq ?_
  refine ht_region ?_
  refine sq_cons ⟨_, [(.t 3, iV t0)]⟩ (v_move (.inl rfl) trivial rfl (ble _ _ rfl) rfl) ?_
  refine sq_cons ⟨_, [(.t 4, .d (.agg (eAnswer (⟨t0, (⟨0, 0, 0⟩ : Stamp), false, (⟨#[]⟩ : ByteArray), ([] : List Item), (⟨#[]⟩ : ByteArray), false⟩ : Answer))))]⟩ (w_bld zc35 ((eAnswer (⟨t0, (⟨0, 0, 0⟩ : Stamp), false, (⟨#[]⟩ : ByteArray), ([] : List Item), (⟨#[]⟩ : ByteArray), false⟩ : Answer)).map V.d) [(0, iV t0)] rfl trivial rfl (ble _ _ rfl) zw35 rfl ft35 rfl rfl rfl rfl) ?_
  refine sq_cons _ (v_store_box (id := 2) (off := 0) (cs := (eAnswer (⟨t0, (⟨0, 0, 0⟩ : Stamp), false, (⟨#[]⟩ : ByteArray), ([] : List Item), (⟨#[]⟩ : ByteArray), false⟩ : Answer)).map V.d) rfl trivial rfl sz35 rfl rfl rfl rfl (ones_of rfl) (ble _ _ rfl)) ?_
  refine sq_nil ?_
  refine ht_ret ?_
  cases h
  exact ret1 rfl (.cell rfl rfl ag35 (ble _ _ rfl) rfl)
set_option maxRecDepth 100000 in
set_option maxHeartbeats 4000000 in
theorem s63 (k : Nat) (t0 : Shard) (t1 : Int) (r : Int) (h : F63 k t0 t1 = some r) : Awp.Spec Tryd.prog amb 63 [(.agg (eShard t0)), (.s (.int .i64 t1))] (.ds [(.s (.int .i64 r))]) := by
  rw [F63] at h
  refine spec_of Tryd.func63 rfl (ble _ _ rfl) fun w0 ok0 lt0 hA => ?_
  refine ht_seq ?_
  refine ht_region ?_
  refine sq_cons ⟨_, [(.t 2, .d (.dp (eShard t0)))]⟩ (v_box_d (cs := (eShard t0)) rfl trivial rfl (ble _ _ rfl) rfl rfl (ones_of rfl)) ?_
  refine sq_cons ⟨_, [(.t 4, iV 0)]⟩ (v_move (.inr rfl) trivial rfl (ble _ _ rfl) rfl) ?_
  refine sq_nil ?_
  refine ht_seq ?_
  refine ht_region ?_
  refine sq_cons ⟨_, [(.t 5, .d (.dp (eShard t0)))]⟩ (v_field_dp (a0 := 0) (cs := (eShard t0)) rfl trivial rfl (ble _ _ rfl) fo50_0 rfl) ?_
  refine sq_cons ⟨_, [(.t 6, iV t0.mID)]⟩ (v_load_dp1 rfl trivial rfl (ble _ _ rfl) onT3 rfl rfl) ?_
  refine sq_cons ⟨_, [(.t 7, iV t1)]⟩ (v_move (.inl rfl) trivial rfl (ble _ _ rfl) rfl) ?_
  refine sq_cons ⟨_, [(.t 8, iV (IntKind.wrap .i64 (t0.mID - t1)))]⟩ (v_bin rfl trivial rfl (ble _ _ rfl) rfl rfl (b_sub rfl)) ?_
  refine sq_cons ⟨_, [(.t 4, iV (IntKind.wrap .i64 (t0.mID - t1)))]⟩ (v_move (.inr rfl) trivial rfl (ble _ _ rfl) rfl) ?_
  refine sq_nil ?_
  refine ht_ret ?_
  cases h
  exact ret1 rfl (.tmp rfl)
set_option maxRecDepth 100000 in
set_option maxHeartbeats 4000000 in
theorem s62_63 (k : Nat) (t0 : List Shard) (t1 : Int) (r : Int × Bool) (h : F62_63 k t0 t1 = some r) : Awp.Spec Tryd.prog amb 62 [(.sl 17 (t0.map eShard)), (.s (.int .i64 t1)), (.fn 63 [])] (.ds [(.s (.int .i64 r.1)), (.s (.bool r.2))]) := by
  rw [F62_63] at h
  refine spec_of Tryd.func62 rfl (ble _ _ rfl) fun w0 ok0 lt0 hA => ?_
  refine ht_seq ?_
  refine ht_region ?_
  refine sq_cons ⟨_, [(.t 6, iV 0)]⟩ (v_move (.inr rfl) trivial rfl (ble _ _ rfl) rfl) ?_
  refine sq_cons ⟨_, [(.t 7, bV false)]⟩ (v_move (.inr rfl) trivial rfl (ble _ _ rfl) rfl) ?_
  refine sq_nil ?_
  refine ht_seq ?_
  refine ht_region ?_
  refine sq_cons ⟨_, [(.t 12, .d (.sl 17 (t0.map eShard)))]⟩ (v_move (.inl rfl) trivial rfl (ble _ _ rfl) rfl) ?_
  refine sq_cons ⟨_, [(.t 13, iV (t0.length : Int))]⟩ (w_len t0 eShard rfl rfl trivial rfl (ble _ _ rfl) slT28 rfl) ?_
  refine sq_cons ⟨_, [(.t 8, iV (t0.length : Int))]⟩ (v_move (.inr rfl) trivial rfl (ble _ _ rfl) rfl) ?_
  refine sq_nil ?_
  refine ht_seq ?_
  refine ht_region ?_
  refine sq_cons ⟨_, [(.t 14, iV (t0.length : Int))]⟩ (v_move (.inl rfl) trivial rfl (ble _ _ rfl) rfl) ?_
  refine sq_cons ⟨_, [(.t 9, iV 0)]⟩ (v_move (.inr rfl) trivial rfl (ble _ _ rfl) rfl) ?_
  refine sq_cons ⟨_, [(.t 10, iV (t0.length : Int))]⟩ (v_move (.inr rfl) trivial rfl (ble _ _ rfl) rfl) ?_
  refine sq_nil ?_
  refine ht_bj h (fun t9 => tell [(.t 0, .d (.sl 17 (t0.map eShard))), (.t 1, iV t1), (.t 2, .d (.fn 63 [])), (.t 8, iV (t0.length : Int)), (.t 9, iV t9)]) (fun t9 h => ?_) (fun v1 K2 h j4 => ?_)
  · refine ht_seq ?_
    refine ht_region ?_
    refine sq_cons ⟨_, [(.t 35, iV t9)]⟩ (v_move (.inl rfl) trivial rfl (ble _ _ rfl) rfl) ?_
    refine sq_cons ⟨_, [(.t 36, iV t9)]⟩ (v_move (.inl rfl) trivial rfl (ble _ _ rfl) rfl) ?_
    refine sq_cons ⟨_, [(.t 37, iV (t0.length : Int))]⟩ (v_move (.inl rfl) trivial rfl (ble _ _ rfl) rfl) ?_
    refine sq_cons ⟨_, [(.t 38, bV (ltI t9 (t0.length : Int)))]⟩ (v_bin rfl trivial rfl (ble _ _ rfl) rfl rfl (b_lss rfl)) ?_
    refine sq_cons ⟨_, [(.t 39, bV (ltI t9 (t0.length : Int)))]⟩ (v_move (.inl rfl) trivial rfl (ble _ _ rfl) rfl) ?_
    refine sq_cons ⟨_, [(.t 40, mg (ltI t9 (t0.length : Int)) (.d (.fn 63 [])))]⟩ (v_cT rfl rfl rfl (ble _ _ rfl) rfl fun e15 => (v_move (.inl rfl) ⟨_, rfl, be e15⟩ rfl (ble _ _ rfl) rfl)) ?_
    refine sq_cons ⟨_, [(.t 41, mg (ltI t9 (t0.length : Int)) (.d (.sl 17 (t0.map eShard))))]⟩ (v_cT rfl rfl rfl (ble _ _ rfl) rfl fun e16 => (v_move (.inl rfl) ⟨_, rfl, be e16⟩ rfl (ble _ _ rfl) rfl)) ?_
    refine sq_cons ⟨_, [(.t 42, mg (ltI t9 (t0.length : Int)) (iV t9))]⟩ (v_cT rfl rfl rfl (ble _ _ rfl) rfl fun e17 => (v_move (.inl rfl) ⟨_, rfl, be e17⟩ rfl (ble _ _ rfl) rfl)) ?_
    obtain ⟨e19, h⟩ := gpos h
    refine sq_cons ⟨_, [(.t 43, mg (ltI t9 (t0.length : Int)) (.d (.dp (eShard (rd t0 t9)))))]⟩ (v_cT rfl rfl rfl (ble _ _ rfl) rfl fun e18 => (w_idx t0 eShard rfl ⟨_, rfl, be e18⟩ rfl (ble _ _ rfl) slT28 (gv e18) (gv e18) (orT e19 e18))) ?_
    refine sq_cons ⟨_, [(.t 44, mg (ltI t9 (t0.length : Int)) (.d (.agg (eShard (rd t0 t9)))))]⟩ (v_cT rfl rfl rfl (ble _ _ rfl) rfl fun e20 => (w_ldp (eShard (rd t0 t9)) (eShard (rd t0 t9)) rfl ⟨_, rfl, be e20⟩ rfl (ble _ _ rfl) ag50 (gv e20) (ble _ _ rfl) rfl)) ?_
    refine sq_cons ⟨_, [(.t 45, mg (ltI t9 (t0.length : Int)) (iV t1))]⟩ (v_cT rfl rfl rfl (ble _ _ rfl) rfl fun e21 => (v_move (.inl rfl) ⟨_, rfl, be e21⟩ rfl (ble _ _ rfl) rfl)) ?_
    obtain ⟨t46, c23, h⟩ := bpos h
    refine sq_cons ⟨_, [(.t 46, mg (ltI t9 (t0.length : Int)) (iV t46))]⟩ (v_cT rfl rfl rfl (ble _ _ rfl) rfl fun e22 => (w_call (ds := [(.agg (eShard (rd t0 t9))), (.s (.int .i64 t1))]) (caps := []) (l := [(.s (.int .i64 t46))]) (s63 k (rd t0 t9) t1 _ (cpos e22 c23)) rfl rfl rfl en63 ⟨_, rfl, be e22⟩ rfl (ble _ _ rfl) (.inr (gv e22)) (cc (gv e22) (cc (gv e22) rfl)) rfl)) ?_
    refine sq_cons ⟨_, [(.t 47, mg (ltI t9 (t0.length : Int)) (bV (eqI t46 0)))]⟩ (v_cT rfl rfl rfl (ble _ _ rfl) rfl fun e24 => (v_bin rfl ⟨_, rfl, be e24⟩ rfl (ble _ _ rfl) (gv e24) rfl (b_eql rfl))) ?_
    refine sq_cons ⟨_, [(.t 48, bV ((ltI t9 (t0.length : Int)) && (eqI t46 0)))]⟩ (v_pickB rfl trivial rfl (ble _ _ rfl) rfl (fun e25 => (gv e25)) (fun e26 => rfl) (pA _ _)) ?_
    refine sq_cons ⟨_, [(.t 6, iV t9)]⟩ (v_move (.inr rfl) trivial rfl (ble _ _ rfl) rfl) ?_
    refine sq_cons ⟨_, [(.t 7, bV ((ltI t9 (t0.length : Int)) && (eqI t46 0)))]⟩ (v_move (.inr rfl) trivial rfl (ble _ _ rfl) rfl) ?_
    refine sq_nil ?_
    refine ht_ret ?_
    cases h
    exact ret2 rfl (.tmp rfl) (.tmp rfl)
  · refine ht_block ?_
    refine ht_rd h (fun _ => rfl) (fun (t9_1, t10) => tell [(.t 0, .d (.sl 17 (t0.map eShard))), (.t 1, iV t1), (.t 2, .d (.fn 63 [])), (.t 8, iV (t0.length : Int)), (.t 9, iV t9_1), (.t 10, iV t10)]) (wk_ren _ (fun i => i) rfl ⟨rfl, rfl, rfl, rfl, rfl, rfl, trivial⟩) fun k v8 h K14 j7 => ?_
    obtain ⟨t9_1, t10⟩ := v8
    rw [F62_63_l1] at h
    refine ht_seq ?_
    refine ht_seq ?_
    refine ht_region ?_
    refine sq_cons ⟨_, [(.t 15, iV t9_1)]⟩ (v_move (.inl rfl) trivial rfl (ble _ _ rfl) rfl) ?_
    refine sq_cons ⟨_, [(.t 16, iV t10)]⟩ (v_move (.inl rfl) trivial rfl (ble _ _ rfl) rfl) ?_
    refine sq_cons ⟨_, [(.t 17, bV (ltI t9_1 t10))]⟩ (v_bin rfl trivial rfl (ble _ _ rfl) rfl rfl (b_lss rfl)) ?_
    refine sq_nil ?_
    refine ht_cond (b := (ltI t9_1 t10)) rfl (fun e9 => ?_) (fun e9 => ?_)
    · replace h := cpos e9 h
      refine ht_skip ?_
      refine ht_block ?_
      refine ht_seq ?_
      refine ht_region ?_
      refine sq_cons ⟨_, [(.t 18, iV t9_1)]⟩ (v_move (.inl rfl) trivial rfl (ble _ _ rfl) rfl) ?_
      refine sq_cons ⟨_, [(.t 19, iV t10)]⟩ (v_move (.inl rfl) trivial rfl (ble _ _ rfl) rfl) ?_
      refine sq_cons ⟨_, [(.t 20, iV (IntKind.wrap .i64 (t9_1 + t10)))]⟩ (v_bin rfl trivial rfl (ble _ _ rfl) rfl rfl (b_add rfl)) ?_
      refine sq_cons ⟨_, [(.t 21, nV .u64 (IntKind.wrap .u64 (IntKind.wrap .i64 (t9_1 + t10))))]⟩ (v_conv rfl trivial rfl (ble _ _ rfl) rfl (c_int und3 und122 rfl)) ?_
      obtain ⟨t22, q10, h⟩ := bndp h
      refine sq_cons ⟨_, [(.t 22, nV .u64 t22)]⟩ (v_bin rfl trivial rfl (ble _ _ rfl) rfl rfl (b_shr rfl q10)) ?_
      refine sq_cons ⟨_, [(.t 23, iV (IntKind.wrap .i64 t22))]⟩ (v_conv rfl trivial rfl (ble _ _ rfl) rfl (c_int und122 und3 rfl)) ?_
      refine sq_cons ⟨_, [(.t 11, iV (IntKind.wrap .i64 t22))]⟩ (v_move (.inr rfl) trivial rfl (ble _ _ rfl) rfl) ?_
      refine sq_nil ?_
      refine ht_seq ?_
      refine ht_region ?_
      refine sq_cons ⟨_, [(.t 24, .d (.fn 63 []))]⟩ (v_move (.inl rfl) trivial rfl (ble _ _ rfl) rfl) ?_
      refine sq_cons ⟨_, [(.t 25, .d (.sl 17 (t0.map eShard)))]⟩ (v_move (.inl rfl) trivial rfl (ble _ _ rfl) rfl) ?_
      refine sq_cons ⟨_, [(.t 26, iV (IntKind.wrap .i64 t22))]⟩ (v_move (.inl rfl) trivial rfl (ble _ _ rfl) rfl) ?_
      obtain ⟨e11, h⟩ := gpos h
      refine sq_cons ⟨_, [(.t 27, .d (.dp (eShard (rd t0 (IntKind.wrap .i64 t22)))))]⟩ (w_idx t0 eShard rfl trivial rfl (ble _ _ rfl) slT28 rfl rfl e11) ?_
      refine sq_cons ⟨_, [(.t 28, .d (.agg (eShard (rd t0 (IntKind.wrap .i64 t22)))))]⟩ (w_ldp (eShard (rd t0 (IntKind.wrap .i64 t22))) (eShard (rd t0 (IntKind.wrap .i64 t22))) rfl trivial rfl (ble _ _ rfl) ag50 rfl (ble _ _ rfl) rfl) ?_
      refine sq_cons ⟨_, [(.t 29, iV t1)]⟩ (v_move (.inl rfl) trivial rfl (ble _ _ rfl) rfl) ?_
      obtain ⟨t30, c12, h⟩ := bpos h
      refine sq_cons ⟨_, [(.t 30, iV t30)]⟩ (w_call (ds := [(.agg (eShard (rd t0 (IntKind.wrap .i64 t22)))), (.s (.int .i64 t1))]) (caps := []) (l := [(.s (.int .i64 t30))]) (s63 k (rd t0 (IntKind.wrap .i64 t22)) t1 _ c12) rfl rfl rfl en63 trivial rfl (ble _ _ rfl) (.inr rfl) rfl rfl) ?_
      refine sq_cons ⟨_, [(.t 31, bV (ltI t30 0))]⟩ (v_bin rfl trivial rfl (ble _ _ rfl) rfl rfl (b_lss rfl)) ?_
      refine sq_nil ?_
      refine ht_cond (b := (ltI t30 0)) rfl (fun e13 => ?_) (fun e13 => ?_)
      · replace h := cpos e13 h
        refine ht_region ?_
        refine sq_cons ⟨_, [(.t 32, iV (IntKind.wrap .i64 t22))]⟩ (v_move (.inl rfl) trivial rfl (ble _ _ rfl) rfl) ?_
        refine sq_cons ⟨_, [(.t 33, iV (IntKind.wrap .i64 ((IntKind.wrap .i64 t22) + 1)))]⟩ (v_bin rfl trivial rfl (ble _ _ rfl) rfl rfl (b_add rfl)) ?_
        refine sq_cons ⟨_, [(.t 9, iV (IntKind.wrap .i64 ((IntKind.wrap .i64 t22) + 1)))]⟩ (v_move (.inr rfl) trivial rfl (ble _ _ rfl) rfl) ?_
        refine sq_nil ?_
        exact j7 _ _ h (wk_ren _ (fun i => i) rfl ⟨rfl, rfl, rfl, rfl, rfl, rfl, trivial⟩)
      · replace h := cneg e13 h
        refine ht_region ?_
        refine sq_cons ⟨_, [(.t 34, iV (IntKind.wrap .i64 t22))]⟩ (v_move (.inl rfl) trivial rfl (ble _ _ rfl) rfl) ?_
        refine sq_cons ⟨_, [(.t 10, iV (IntKind.wrap .i64 t22))]⟩ (v_move (.inr rfl) trivial rfl (ble _ _ rfl) rfl) ?_
        refine sq_nil ?_
        exact j7 _ _ h (wk_ren _ (fun i => i) rfl ⟨rfl, rfl, rfl, rfl, rfl, rfl, trivial⟩)
    · replace h := cneg e9 h
      refine ht_exit ?_
      refine tq ?_
      refine tq ?_
      refine bq_hit ?_
      cases h
      exact j4 _ (wk_ren _ (fun i => i) rfl ⟨rfl, rfl, rfl, rfl, rfl, trivial⟩)
set_option maxRecDepth 100000 in
set_option maxHeartbeats 4000000 in
theorem s41 (k : Nat) (t0 : Cell) (t1 : Int) (r : Int × Bool) (h : F41 k t0 t1 = some r) : Awp.Spec Tryd.prog amb 41 [(.agg (eCell t0)), (.s (.int .i64 t1))] (.ds [(.s (.int .i64 r.1)), (.s (.bool r.2))]) := by
  rw [F41] at h
  refine spec_of Tryd.func41 rfl (ble _ _ rfl) fun w0 ok0 lt0 hA => ?_
  refine ht_seq ?_
  refine ht_region ?_
  refine sq_cons ⟨_, [(.t 2, .d (.dp (eCell t0)))]⟩ (v_box_d (cs := (eCell t0)) rfl trivial rfl (ble _ _ rfl) rfl rfl (ones_of rfl)) ?_
  refine sq_cons ⟨_, [(.t 4, iV 0)]⟩ (v_move (.inr rfl) trivial rfl (ble _ _ rfl) rfl) ?_
  refine sq_cons ⟨_, [(.t 5, bV false)]⟩ (v_move (.inr rfl) trivial rfl (ble _ _ rfl) rfl) ?_
  refine sq_nil ?_
  refine ht_seq ?_
  refine ht_region ?_
  refine sq_cons ⟨_, [(.t 6, .d (.dp (eCell t0)))]⟩ (v_field_dp (a0 := 0) (cs := (eCell t0)) rfl trivial rfl (ble _ _ rfl) fo30_0 rfl) ?_
  refine sq_cons ⟨_, [(.t 7, .d (.sl 17 (t0.mShards.map eShard)))]⟩ (v_load_dp1 rfl trivial rfl (ble _ _ rfl) onT28 rfl rfl) ?_
  refine sq_cons ⟨_, [(.t 8, iV t1)]⟩ (v_move (.inl rfl) trivial rfl (ble _ _ rfl) rfl) ?_
  obtain ⟨⟨t9a, t9b⟩, c1, h⟩ := bpos h
  refine sq_cons ⟨_, [(.t 9, .tup [iV t9a, bV t9b])]⟩ (w_call2 (ds := [(.sl 17 (t0.mShards.map eShard)), (.s (.int .i64 t1)), (.fn 63 [])]) (caps := []) (l := [(.s (.int .i64 t9a)), (.s (.bool t9b))]) (s62_63 k t0.mShards t1 _ c1) rfl rfl rfl en62 trivial rfl (ble _ _ rfl) (.inl ⟨rfl, rfl⟩) (.c (.d _) (.c (.d _) (.c (.fn _ []) .n))) rfl) ?_
  refine sq_cons ⟨_, [(.t 10, iV t9a)]⟩ (v_extract rfl trivial rfl (ble _ _ rfl) rfl rfl) ?_
  refine sq_cons ⟨_, [(.t 11, bV t9b)]⟩ (v_extract rfl trivial rfl (ble _ _ rfl) rfl rfl) ?_
  refine sq_cons ⟨_, [(.t 4, iV t9a)]⟩ (v_move (.inr rfl) trivial rfl (ble _ _ rfl) rfl) ?_
  refine sq_cons ⟨_, [(.t 5, bV t9b)]⟩ (v_move (.inr rfl) trivial rfl (ble _ _ rfl) rfl) ?_
  refine sq_nil ?_
  refine ht_ret ?_
  cases h
  exact ret2 rfl (.tmp rfl) (.tmp rfl)
set_option maxRecDepth 100000 in
set_option maxHeartbeats 4000000 in
theorem s22 (k : Nat) (t0 : Cell) (t1 : Int) (r : Shard) (h : F22 k t0 t1 = some r) : Awp.Spec Tryd.prog amb 22 [(.agg (eCell t0)), (.s (.int .i64 t1))] (.ds [(.agg (eShard r))]) := by
  rw [F22] at h
  refine spec_of Tryd.func22 rfl (ble _ _ rfl) fun w0 ok0 lt0 hA => ?_
  refine ht_seq ?_
  refine ht_region ?_
  refine sq_cons ⟨_, [(.t 2, .d (.dp (eCell t0)))]⟩ (v_box_d (cs := (eCell t0)) rfl trivial rfl (ble _ _ rfl) rfl rfl (ones_of rfl)) ?_
  refine sq_cons _ (v_alloc (id := 4) (cs := zc50) rfl trivial rfl (ble _ _ rfl) zu50 rfl ft50 rfl) ?_
  refine sq_nil ?_
  refine ht_seq ?_
  refine ht_seq ?_
  refine ht_region ?_
  refine sq_cons ⟨_, [(.t 8, .d (.agg (eCell t0)))]⟩ (w_ldp (eCell t0) (eCell t0) rfl trivial rfl (ble _ _ rfl) ag30 rfl (ble _ _ rfl) rfl) ?_
  refine sq_cons ⟨_, [(.t 9, iV t1)]⟩ (v_move (.inl rfl) trivial rfl (ble _ _ rfl) rfl) ?_
  obtain ⟨⟨t10a, t10b⟩, c1, h⟩ := bpos h
  refine sq_cons ⟨_, [(.t 10, .tup [iV t10a, bV t10b])]⟩ (w_call (ds := [(.agg (eCell t0)), (.s (.int .i64 t1))]) (caps := []) (l := [(.s (.int .i64 t10a)), (.s (.bool t10b))]) (s41 k t0 t1 _ c1) rfl rfl rfl en41 trivial rfl (ble _ _ rfl) (.inl ⟨rfl, rfl⟩) rfl rfl) ?_
  refine sq_cons ⟨_, [(.t 7, .tup [iV t10a, bV t10b])]⟩ (v_move (.inl rfl) trivial rfl (ble _ _ rfl) rfl) ?_
  refine sq_cons ⟨_, [(.t 11, iV t10a)]⟩ (v_extract rfl trivial rfl (ble _ _ rfl) rfl rfl) ?_
  refine sq_cons ⟨_, [(.t 12, bV t10b)]⟩ (v_extract rfl trivial rfl (ble _ _ rfl) rfl rfl) ?_
  refine sq_cons ⟨_, [(.t 5, iV t10a)]⟩ (v_move (.inr rfl) trivial rfl (ble _ _ rfl) rfl) ?_
  refine sq_cons ⟨_, [(.t 6, bV t10b)]⟩ (v_move (.inr rfl) trivial rfl (ble _ _ rfl) rfl) ?_
  refine sq_nil ?_
  refine ht_seq ?_
  refine ht_region ?_
  refine sq_cons ⟨_, [(.t 13, bV t10b)]⟩ (v_move (.inl rfl) trivial rfl (ble _ _ rfl) rfl) ?_
  refine sq_nil ?_
  refine ht_cond (b := t10b) rfl (fun e2 => ?_) (fun e2 => ?_)
  · replace h := cpos e2 h
    refine ht_seq ?_
    refine ht_region ?_
    refine sq_cons ⟨_, [(.t 14, .d (.dp (eCell t0)))]⟩ (v_field_dp (a0 := 0) (cs := (eCell t0)) rfl trivial rfl (ble _ _ rfl) fo30_0 rfl) ?_
    refine sq_cons ⟨_, [(.t 15, .d (.sl 17 (t0.mShards.map eShard)))]⟩ (v_load_dp1 rfl trivial rfl (ble _ _ rfl) onT28 rfl rfl) ?_
    refine sq_cons ⟨_, [(.t 16, iV t10a)]⟩ (v_move (.inl rfl) trivial rfl (ble _ _ rfl) rfl) ?_
    obtain ⟨e3, h⟩ := gpos h
    refine sq_cons ⟨_, [(.t 17, .d (.dp (eShard (rd t0.mShards t10a))))]⟩ (w_idx t0.mShards eShard rfl trivial rfl (ble _ _ rfl) slT28 rfl rfl e3) ?_
    refine sq_cons ⟨_, [(.t 18, .d (.agg (eShard (rd t0.mShards t10a))))]⟩ (w_ldp (eShard (rd t0.mShards t10a)) (eShard (rd t0.mShards t10a)) rfl trivial rfl (ble _ _ rfl) ag50 rfl (ble _ _ rfl) rfl) ?_
    refine sq_cons _ (v_store_box (id := 4) (off := 0) (cs := (eShard (rd t0.mShards t10a)).map V.d) rfl trivial rfl sz50 rfl rfl rfl rfl (ones_of rfl) (ble _ _ rfl)) ?_
    refine sq_nil ?_
    refine ht_ret ?_
    cases h
    exact ret1 rfl (.cell rfl rfl ag50 (ble _ _ rfl) rfl)
  · replace h := cneg e2 h
    refine ht_skip ?_
    refine ht_seq ?_
    refine ht_region ?_
    refine sq_cons ⟨_, [(.t 19, .d (.agg (eShard (⟨0, 0, (⟨⟨#[]⟩, ⟨#[]⟩⟩ : Span), 0, [], (⟨0, 0, 0⟩ : Stamp), (⟨0, 0, 0⟩ : Stamp), [], 0, 0, 0, 0⟩ : Shard))))]⟩ (w_bld zc50 ((eShard (⟨0, 0, (⟨⟨#[]⟩, ⟨#[]⟩⟩ : Span), 0, [], (⟨0, 0, 0⟩ : Stamp), (⟨0, 0, 0⟩ : Stamp), [], 0, 0, 0, 0⟩ : Shard)).map V.d) [] rfl trivial rfl (ble _ _ rfl) zw50 rfl ft50 rfl rfl rfl rfl) ?_
    refine sq_cons _ (v_store_box (id := 4) (off := 0) (cs := (eShard (⟨0, 0, (⟨⟨#[]⟩, ⟨#[]⟩⟩ : Span), 0, [], (⟨0, 0, 0⟩ : Stamp), (⟨0, 0, 0⟩ : Stamp), [], 0, 0, 0, 0⟩ : Shard)).map V.d) rfl trivial rfl sz50 rfl rfl rfl rfl (ones_of rfl) (ble _ _ rfl)) ?_
    refine sq_nil ?_
    refine ht_ret ?_
    cases h
    exact ret1 rfl (.cell rfl rfl ag50 (ble _ _ rfl) rfl)
set_option maxRecDepth 100000 in
set_option maxHeartbeats 4000000 in
theorem s24 (k : Nat) (t0 : Request) (r : Bool) (h : F24 k t0 = some r) : Awp.Spec Tryd.prog amb 24 [(.agg (eRequest t0))] (.ds [(.s (.bool r))]) := by
  rw [F24] at h
  refine spec_of Tryd.func24 rfl (ble _ _ rfl) fun w0 ok0 lt0 hA => ?_
  refine ht_seq ?_
  refine ht_region ?_
  refine sq_cons ⟨_, [(.t 1, .d (.dp (eRequest t0)))]⟩ (v_box_d (cs := (eRequest t0)) rfl trivial rfl (ble _ _ rfl) rfl rfl (ones_of rfl)) ?_
  refine sq_cons ⟨_, [(.t 2, bV false)]⟩ (v_move (.inr rfl) trivial rfl (ble _ _ rfl) rfl) ?_
  refine sq_nil ?_
  refine ht_seq ?_
  refine ht_region ?_
  refine sq_cons ⟨_, [(.t 3, .d (.dp (List.drop 2 (eRequest t0))))]⟩ (v_field_dp (a0 := 2) (cs := (eRequest t0)) rfl trivial rfl (ble _ _ rfl) fo25_2 rfl) ?_
  refine sq_cons ⟨_, [(.t 4, iV t0.mKind)]⟩ (v_load_dp1 rfl trivial rfl (ble _ _ rfl) onT3 rfl rfl) ?_
  refine sq_cons ⟨_, [(.t 5, bV (eqI t0.mKind 1))]⟩ (v_bin rfl trivial rfl (ble _ _ rfl) rfl rfl (b_eql rfl)) ?_
  refine sq_cons ⟨_, [(.t 6, bV (eqI t0.mKind 1))]⟩ (v_move (.inl rfl) trivial rfl (ble _ _ rfl) rfl) ?_
  refine sq_cons ⟨_, [(.t 7, mg (!(eqI t0.mKind 1)) (.d (.dp (List.drop 2 (eRequest t0)))))]⟩ (v_cF rfl rfl rfl (ble _ _ rfl) rfl fun e1 => (v_field_dp (a0 := 2) (cs := (eRequest t0)) rfl ⟨_, rfl, be e1⟩ rfl (ble _ _ rfl) fo25_2 rfl)) ?_
  refine sq_cons ⟨_, [(.t 8, mg (!(eqI t0.mKind 1)) (iV t0.mKind))]⟩ (v_cF rfl rfl rfl (ble _ _ rfl) rfl fun e2 => (v_load_dp1 rfl ⟨_, rfl, be e2⟩ rfl (ble _ _ rfl) onT3 (gv (nF e2)) rfl)) ?_
  refine sq_cons ⟨_, [(.t 9, mg (!(eqI t0.mKind 1)) (bV (eqI t0.mKind 2)))]⟩ (v_cF rfl rfl rfl (ble _ _ rfl) rfl fun e3 => (v_bin rfl ⟨_, rfl, be e3⟩ rfl (ble _ _ rfl) (gv (nF e3)) rfl (b_eql rfl))) ?_
  refine sq_cons ⟨_, [(.t 10, bV ((eqI t0.mKind 1) || (eqI t0.mKind 2)))]⟩ (v_pickB rfl trivial rfl (ble _ _ rfl) rfl (fun e4 => rfl) (fun e5 => (gv (nF e5))) (pO _ _)) ?_
  refine sq_cons ⟨_, [(.t 11, bV ((eqI t0.mKind 1) || (eqI t0.mKind 2)))]⟩ (v_move (.inl rfl) trivial rfl (ble _ _ rfl) rfl) ?_
  refine sq_cons ⟨_, [(.t 12, mg (!((eqI t0.mKind 1) || (eqI t0.mKind 2))) (.d (.dp (List.drop 2 (eRequest t0)))))]⟩ (v_cF rfl rfl rfl (ble _ _ rfl) rfl fun e6 => (v_field_dp (a0 := 2) (cs := (eRequest t0)) rfl ⟨_, rfl, be e6⟩ rfl (ble _ _ rfl) fo25_2 rfl)) ?_
  refine sq_cons ⟨_, [(.t 13, mg (!((eqI t0.mKind 1) || (eqI t0.mKind 2))) (iV t0.mKind))]⟩ (v_cF rfl rfl rfl (ble _ _ rfl) rfl fun e7 => (v_load_dp1 rfl ⟨_, rfl, be e7⟩ rfl (ble _ _ rfl) onT3 (gv (nF e7)) rfl)) ?_
  refine sq_cons ⟨_, [(.t 14, mg (!((eqI t0.mKind 1) || (eqI t0.mKind 2))) (bV (eqI t0.mKind 3)))]⟩ (v_cF rfl rfl rfl (ble _ _ rfl) rfl fun e8 => (v_bin rfl ⟨_, rfl, be e8⟩ rfl (ble _ _ rfl) (gv (nF e8)) rfl (b_eql rfl))) ?_
  refine sq_cons ⟨_, [(.t 15, bV (((eqI t0.mKind 1) || (eqI t0.mKind 2)) || (eqI t0.mKind 3)))]⟩ (v_pickB rfl trivial rfl (ble _ _ rfl) rfl (fun e9 => rfl) (fun e10 => (gv (nF e10))) (pO _ _)) ?_
  refine sq_cons ⟨_, [(.t 2, bV (((eqI t0.mKind 1) || (eqI t0.mKind 2)) || (eqI t0.mKind 3)))]⟩ (v_move (.inr rfl) trivial rfl (ble _ _ rfl) rfl) ?_
  refine sq_nil ?_
  refine ht_ret ?_
  cases h
  exact ret1 rfl (.tmp rfl)
set_option maxRecDepth 100000 in
set_option maxHeartbeats 4000000 in
theorem s83 (k : Nat) (t0 : Done) (t1 : Int) (r : Bool) (h : F83 k t0 t1 = some r) : Awp.Spec Tryd.prog amb 83 [(.agg (eDone t0)), (.dp [(.s (.int .i64 t1))])] (.ds [(.s (.bool r))]) := by
  rw [F83] at h
  refine spec_of Tryd.func83 rfl (ble _ _ rfl) fun w0 ok0 lt0 hA => ?_
  refine ht_seq ?_
  refine ht_region ?_
  refine sq_cons ⟨_, [(.t 2, .d (.dp (eDone t0)))]⟩ (v_box_d (cs := (eDone t0)) rfl trivial rfl (ble _ _ rfl) rfl rfl (ones_of rfl)) ?_
  refine sq_cons ⟨_, [(.t 3, bV false)]⟩ (v_move (.inr rfl) trivial rfl (ble _ _ rfl) rfl) ?_
  refine sq_nil ?_
  refine ht_seq ?_
  refine ht_region ?_
  refine sq_cons ⟨_, [(.t 4, .d (.dp (eDone t0)))]⟩ (v_field_dp (a0 := 0) (cs := (eDone t0)) rfl trivial rfl (ble _ _ rfl) fo78_0 rfl) ?_
  refine sq_cons ⟨_, [(.t 5, iV t0.mClient)]⟩ (v_load_dp1 rfl trivial rfl (ble _ _ rfl) onT3 rfl rfl) ?_
  refine sq_cons ⟨_, [(.t 6, iV t1)]⟩ (v_load_dp1 rfl trivial rfl (ble _ _ rfl) onT3 rfl rfl) ?_
  refine sq_cons ⟨_, [(.t 7, bV (leI t1 t0.mClient))]⟩ (v_bin rfl trivial rfl (ble _ _ rfl) rfl rfl (b_geq rfl)) ?_
  refine sq_cons ⟨_, [(.t 3, bV (leI t1 t0.mClient))]⟩ (v_move (.inr rfl) trivial rfl (ble _ _ rfl) rfl) ?_
  refine sq_nil ?_
  refine ht_ret ?_
  cases h
  exact ret1 rfl (.tmp rfl)
set_option maxRecDepth 100000 in
set_option maxHeartbeats 4000000 in
theorem s82_83 (k : Nat) (t0 : List Done) (t1u0 : Int) (r : Int) (h : F82_83 k t0 t1u0 = some r) : Awp.Spec Tryd.prog amb 82 [(.sl 11 (t0.map eDone)), (.fn 83 [(.dp [(.s (.int .i64 t1u0))])])] (.ds [(.s (.int .i64 r))]) := by
  rw [F82_83] at h
  refine spec_of Tryd.func82 rfl (ble _ _ rfl) fun w0 ok0 lt0 hA => ?_
  refine ht_seq ?_
  refine ht_region ?_
  refine sq_cons ⟨_, [(.t 4, iV 0)]⟩ (v_move (.inr rfl) trivial rfl (ble _ _ rfl) rfl) ?_
  refine sq_nil ?_
  refine ht_gj (go_id' h) (fun _ => tell []) (fun _ h => ?_) (fun v1 K2 h j4 r5 => ?_)
  · refine ht_seq ?_
    refine ht_region ?_
    refine sq_cons ⟨_, [(.t 4, iV (-1))]⟩ (v_move (.inr rfl) trivial rfl (ble _ _ rfl) rfl) ?_
    refine sq_nil ?_
    refine ht_ret ?_
    cases h
    exact ret1 rfl (.tmp rfl)
  · refine ht_seq ?_
    refine ht_region ?_
    refine sq_cons ⟨_, [(.t 6, .d (.sl 11 (t0.map eDone)))]⟩ (v_move (.inl rfl) trivial rfl (ble _ _ rfl) rfl) ?_
    refine sq_cons ⟨_, [(.t 7, iV (t0.length : Int))]⟩ (w_len t0 eDone rfl rfl trivial rfl (ble _ _ rfl) slT48 rfl) ?_
    refine sq_cons ⟨_, [(.t 8, iV 0)]⟩ (v_move (.inl rfl) trivial rfl (ble _ _ rfl) rfl) ?_
    refine sq_nil ?_
    refine ht_block ?_
    refine ht_rd h (fun _ => rfl) (fun t8 => tell [(.t 0, .d (.sl 11 (t0.map eDone))), (.t 1, .d (.fn 83 [(.dp [(.s (.int .i64 t1u0))])])), (.t 7, iV (t0.length : Int)), (.t 8, iV t8)]) (wk_ren _ (fun i => i) rfl ⟨rfl, rfl, rfl, rfl, trivial⟩) fun k t8 h K13 j7 => ?_
    rw [F82_83_l1] at h
    refine ht_seq ?_
    refine ht_region ?_
    refine sq_cons ⟨_, [(.t 9, bV (ltI t8 (t0.length : Int)))]⟩ (v_bin rfl trivial rfl (ble _ _ rfl) rfl rfl (b_lss rfl)) ?_
    refine sq_nil ?_
    refine ht_seq ?_
    refine ht_cond (b := (ltI t8 (t0.length : Int))) rfl (fun e9 => ?_) (fun e9 => ?_)
    · replace h := cpos e9 h
      refine ht_skip ?_
      refine ht_seq ?_
      refine ht_block ?_
      refine ht_seq ?_
      refine ht_region ?_
      refine sq_cons ⟨_, [(.t 10, iV t8)]⟩ (v_move (.inl rfl) trivial rfl (ble _ _ rfl) rfl) ?_
      refine sq_cons ⟨_, [(.t 5, iV t8)]⟩ (v_move (.inr rfl) trivial rfl (ble _ _ rfl) rfl) ?_
      refine sq_nil ?_
      refine ht_seq ?_
      refine ht_region ?_
      refine sq_cons ⟨_, [(.t 11, .d (.fn 83 [(.dp [(.s (.int .i64 t1u0))])]))]⟩ (v_move (.inl rfl) trivial rfl (ble _ _ rfl) rfl) ?_
      refine sq_cons ⟨_, [(.t 12, .d (.sl 11 (t0.map eDone)))]⟩ (v_move (.inl rfl) trivial rfl (ble _ _ rfl) rfl) ?_
      refine sq_cons ⟨_, [(.t 13, iV t8)]⟩ (v_move (.inl rfl) trivial rfl (ble _ _ rfl) rfl) ?_
      obtain ⟨e10, h⟩ := gpos h
      refine sq_cons ⟨_, [(.t 14, .d (.dp (eDone (rd t0 t8))))]⟩ (w_idx t0 eDone rfl trivial rfl (ble _ _ rfl) slT48 rfl rfl e10) ?_
      refine sq_cons ⟨_, [(.t 15, .d (.agg (eDone (rd t0 t8))))]⟩ (w_ldp (eDone (rd t0 t8)) (eDone (rd t0 t8)) rfl trivial rfl (ble _ _ rfl) ag78 rfl (ble _ _ rfl) rfl) ?_
      obtain ⟨t16, c11, h⟩ := bpos h
      refine sq_cons ⟨_, [(.t 16, bV t16)]⟩ (w_call (ds := [(.agg (eDone (rd t0 t8)))]) (caps := [(.dp [(.s (.int .i64 t1u0))])]) (l := [(.s (.bool t16))]) (s83 k (rd t0 t8) t1u0 _ c11) rfl rfl rfl en83 trivial rfl (ble _ _ rfl) (.inr rfl) rfl rfl) ?_
      refine sq_nil ?_
      refine ht_cond (b := t16) rfl (fun e12 => ?_) (fun e12 => ?_)
      · replace h := cpos e12 h
        refine ht_seq ?_
        refine ht_region ?_
        refine sq_cons ⟨_, [(.t 17, iV t8)]⟩ (v_move (.inl rfl) trivial rfl (ble _ _ rfl) rfl) ?_
        refine sq_cons ⟨_, [(.t 4, iV t8)]⟩ (v_move (.inr rfl) trivial rfl (ble _ _ rfl) rfl) ?_
        refine sq_nil ?_
        refine ht_ret ?_
        cases h
        cases r5 _ rfl
        exact ret1 rfl (.tmp rfl)
      · replace h := cneg e12 h
        refine ht_skip ?_
        refine ht_region ?_
        refine sq_cons ⟨_, [(.t 18, iV (IntKind.wrap .i64 (t8 + 1)))]⟩ (v_bin rfl trivial rfl (ble _ _ rfl) rfl rfl (b_add rfl)) ?_
        refine sq_cons ⟨_, [(.t 8, iV (IntKind.wrap .i64 (t8 + 1)))]⟩ (v_move (.inl rfl) trivial rfl (ble _ _ rfl) rfl) ?_
        refine sq_nil ?_
        exact j7 _ _ h (wk_ren _ (fun i => i) rfl ⟨rfl, rfl, rfl, rfl, trivial⟩)
    · replace h := cneg e9 h
      refine ht_exit ?_
      refine tq ?_
      refine tq ?_
      refine bq_hit ?_
      cases h
      exact j4 _ _ rfl (wk_ren _ (fun i => i) rfl trivial)
set_option maxRecDepth 100000 in
set_option maxHeartbeats 4000000 in
theorem s65 (k : Nat) (t0 : List Done) (t1 : Int) (r : Int × Bool) (h : F65 k t0 t1 = some r) : Awp.Spec Tryd.prog amb 65 [(.sl 11 (t0.map eDone)), (.s (.int .i64 t1))] (.ds [(.s (.int .i64 r.1)), (.s (.bool r.2))]) := by
  rw [F65] at h
  refine spec_of Tryd.func65 rfl (ble _ _ rfl) fun w0 ok0 lt0 hA => ?_
  refine ht_seq ?_
  refine ht_region ?_
  refine sq_cons ⟨_, [(.t 3, .d (.dp [(.s (.int .i64 t1))]))]⟩ (v_box_d (cs := [(.s (.int .i64 t1))]) rfl trivial rfl (ble _ _ rfl) rfl rfl (ones_of rfl)) ?_
  refine sq_cons ⟨_, [(.t 4, iV 0)]⟩ (v_move (.inr rfl) trivial rfl (ble _ _ rfl) rfl) ?_
  refine sq_cons ⟨_, [(.t 5, bV false)]⟩ (v_move (.inr rfl) trivial rfl (ble _ _ rfl) rfl) ?_
  refine sq_nil ?_
  refine ht_seq ?_
  refine ht_region ?_
  refine sq_cons ⟨_, [(.t 7, .d (.sl 11 (t0.map eDone)))]⟩ (v_move (.inl rfl) trivial rfl (ble _ _ rfl) rfl) ?_
  refine sq_cons ⟨_, [(.t 8, .d (.fn 83 [(.dp [(.s (.int .i64 t1))])]))]⟩ (v_func_d (ds := [(.dp [(.s (.int .i64 t1))])]) rfl trivial rfl (ble _ _ rfl) rfl) ?_
  obtain ⟨t9, c1, h⟩ := bpos h
  refine sq_cons ⟨_, [(.t 9, iV t9)]⟩ (w_call (ds := [(.sl 11 (t0.map eDone)), (.fn 83 [(.dp [(.s (.int .i64 t1))])])]) (caps := []) (l := [(.s (.int .i64 t9))]) (s82_83 k t0 t1 _ c1) rfl rfl rfl en82 trivial rfl (ble _ _ rfl) (.inl ⟨rfl, rfl⟩) rfl rfl) ?_
  refine sq_cons ⟨_, [(.t 6, iV t9)]⟩ (v_move (.inr rfl) trivial rfl (ble _ _ rfl) rfl) ?_
  refine sq_nil ?_
  refine ht_seq ?_
  refine ht_seq ?_
  refine ht_region ?_
  refine sq_cons ⟨_, [(.t 10, iV t9)]⟩ (v_move (.inl rfl) trivial rfl (ble _ _ rfl) rfl) ?_
  refine sq_cons ⟨_, [(.t 11, bV (ltI t9 0))]⟩ (v_bin rfl trivial rfl (ble _ _ rfl) rfl rfl (b_lss rfl)) ?_
  refine sq_nil ?_
  refine ht_cond (b := (ltI t9 0)) rfl (fun e2 => ?_) (fun e2 => ?_)
  · replace h := cpos e2 h
    refine ht_seq ?_
    refine ht_region ?_
    refine sq_cons ⟨_, [(.t 12, .d (.sl 11 (t0.map eDone)))]⟩ (v_move (.inl rfl) trivial rfl (ble _ _ rfl) rfl) ?_
    refine sq_cons ⟨_, [(.t 13, iV (t0.length : Int))]⟩ (w_len t0 eDone rfl rfl trivial rfl (ble _ _ rfl) slT48 rfl) ?_
    refine sq_cons ⟨_, [(.t 4, iV (t0.length : Int))]⟩ (v_move (.inr rfl) trivial rfl (ble _ _ rfl) rfl) ?_
    refine sq_cons ⟨_, [(.t 5, bV false)]⟩ (v_move (.inr rfl) trivial rfl (ble _ _ rfl) rfl) ?_
    refine sq_nil ?_
    refine ht_ret ?_
    cases h
    exact ret2 rfl (.tmp rfl) (.tmp rfl)
  · replace h := cneg e2 h
    refine ht_skip ?_
    refine ht_seq ?_
    refine ht_region_draw mixed ?_
    refine rg_cons ⟨_, [(.t 14, iV t9)]⟩ (v_move (.inl rfl) trivial rfl (ble _ _ rfl) rfl) ?_
    refine rg_cons ⟨_, [(.t 15, .d (.sl 11 (t0.map eDone)))]⟩ (v_move (.inl rfl) trivial rfl (ble _ _ rfl) rfl) ?_
    refine rg_cons ⟨_, [(.t 16, iV t9)]⟩ (v_move (.inl rfl) trivial rfl (ble _ _ rfl) rfl) ?_
    obtain ⟨e3, h⟩ := gpos h
    refine rg_cons ⟨_, [(.t 17, .d (.dp (eDone (rd t0 t9))))]⟩ (w_idx t0 eDone rfl trivial rfl (ble _ _ rfl) slT48 rfl rfl e3) ?_
    refine rg_cons ⟨_, [(.t 18, .d (.dp (eDone (rd t0 t9))))]⟩ (v_field_dp (a0 := 0) (cs := (eDone (rd t0 t9))) rfl trivial rfl (ble _ _ rfl) fo78_0 rfl) ?_
    refine rg_cons ⟨_, [(.t 19, iV (rd t0 t9).mClient)]⟩ (v_load_dp1 rfl trivial rfl (ble _ _ rfl) onT3 rfl rfl) ?_
    refine rg_cons ⟨_, [(.t 20, iV t1)]⟩ (v_load_dp1 rfl trivial rfl (ble _ _ rfl) onT3 rfl rfl) ?_
    refine rg_cons ⟨_, [(.t 21, bV (eqI (rd t0 t9).mClient t1))]⟩ (v_bin rfl trivial rfl (ble _ _ rfl) rfl rfl (b_eql rfl)) ?_
    refine rg_cons ⟨_, [(.t 4, iV t9)]⟩ (v_move (.inr rfl) trivial rfl (ble _ _ rfl) rfl) ?_
    refine rg_cons ⟨_, [(.t 5, bV (eqI (rd t0 t9).mClient t1))]⟩ (v_move (.inr rfl) trivial rfl (ble _ _ rfl) rfl) ?_
    refine rg_nil ⟨by kernel_rfl, ?_⟩
    refine ht_ret ?_
    cases h
    exact ret2 rfl (.tmp rfl) (.tmp rfl)
set_option maxRecDepth 100000 in
set_option maxHeartbeats 4000000 in
theorem s45 (k : Nat) (t0 : List Done) (t1 : Int) (r : Done × Bool) (h : F45 k t0 t1 = some r) : Awp.Spec Tryd.prog amb 45 [(.sl 11 (t0.map eDone)), (.s (.int .i64 t1))] (.ds [(.agg (eDone r.1)), (.s (.bool r.2))]) := by
  rw [F45] at h
  refine spec_of Tryd.func45 rfl (ble _ _ rfl) fun w0 ok0 lt0 hA => ?_
  refine ht_seq ?_
  refine ht_region ?_
  refine sq_cons _ (v_alloc (id := 4) (cs := zc78) rfl trivial rfl (ble _ _ rfl) zu78 rfl ft78 rfl) ?_
  refine sq_cons ⟨_, [(.t 5, bV false)]⟩ (v_move (.inr rfl) trivial rfl (ble _ _ rfl) rfl) ?_
  refine sq_nil ?_
  refine ht_seq ?_
  refine ht_seq ?_
  refine ht_region ?_
  refine sq_cons ⟨_, [(.t 8, .d (.sl 11 (t0.map eDone)))]⟩ (v_move (.inl rfl) trivial rfl (ble _ _ rfl) rfl) ?_
  obtain ⟨t9, c1, h⟩ := bpos h
  refine sq_cons ⟨_, [(.t 9, bV t9)]⟩ (w_call (ds := [(.sl 11 (t0.map eDone))]) (caps := []) (l := [(.s (.bool t9))]) (s58 k t0 _ c1) rfl rfl rfl en58 trivial rfl (ble _ _ rfl) (.inl ⟨rfl, rfl⟩) rfl rfl) ?_
  refine sq_cons ⟨_, [(.t 10, bV (!t9))]⟩ (v_un rfl trivial rfl (ble _ _ rfl) rfl (u_not rfl)) ?_
  refine sq_nil ?_
  refine ht_cond (b := (!t9)) rfl (fun e2 => ?_) (fun e2 => ?_)
  · replace h := cpos e2 h
    refine ht_seq ?_
    refine ht_region ?_
    refine sq_cons ⟨_, [(.t 11, .d (.agg (eDone (⟨0, 0, (⟨0, (⟨0, 0, 0⟩ : Stamp), false, ⟨#[]⟩, [], ⟨#[]⟩, false⟩ : Answer)⟩ : Done))))]⟩ (w_bld zc78 ((eDone (⟨0, 0, (⟨0, (⟨0, 0, 0⟩ : Stamp), false, ⟨#[]⟩, [], ⟨#[]⟩, false⟩ : Answer)⟩ : Done)).map V.d) [] rfl trivial rfl (ble _ _ rfl) zw78 rfl ft78 rfl rfl rfl rfl) ?_
    refine sq_cons _ (v_store_box (id := 4) (off := 0) (cs := (eDone (⟨0, 0, (⟨0, (⟨0, 0, 0⟩ : Stamp), false, ⟨#[]⟩, [], ⟨#[]⟩, false⟩ : Answer)⟩ : Done)).map V.d) rfl trivial rfl sz78 rfl rfl rfl rfl (ones_of rfl) (ble _ _ rfl)) ?_
    refine sq_cons ⟨_, [(.t 5, bV false)]⟩ (v_move (.inr rfl) trivial rfl (ble _ _ rfl) rfl) ?_
    refine sq_nil ?_
    refine ht_ret ?_
    cases h
    exact ret2 rfl (.cell rfl rfl ag78 (ble _ _ rfl) rfl) (.tmp rfl)
  · replace h := cneg e2 h
    refine ht_skip ?_
    refine ht_seq ?_
    refine ht_region ?_
    refine sq_cons ⟨_, [(.t 13, .d (.sl 11 (t0.map eDone)))]⟩ (v_move (.inl rfl) trivial rfl (ble _ _ rfl) rfl) ?_
    refine sq_cons ⟨_, [(.t 14, iV t1)]⟩ (v_move (.inl rfl) trivial rfl (ble _ _ rfl) rfl) ?_
    obtain ⟨⟨t15a, t15b⟩, c3, h⟩ := bpos h
    refine sq_cons ⟨_, [(.t 15, .tup [iV t15a, bV t15b])]⟩ (w_call (ds := [(.sl 11 (t0.map eDone)), (.s (.int .i64 t1))]) (caps := []) (l := [(.s (.int .i64 t15a)), (.s (.bool t15b))]) (s65 k t0 t1 _ c3) rfl rfl rfl en65 trivial rfl (ble _ _ rfl) (.inl ⟨rfl, rfl⟩) rfl rfl) ?_
    refine sq_cons ⟨_, [(.t 12, .tup [iV t15a, bV t15b])]⟩ (v_move (.inl rfl) trivial rfl (ble _ _ rfl) rfl) ?_
    refine sq_cons ⟨_, [(.t 16, iV t15a)]⟩ (v_extract rfl trivial rfl (ble _ _ rfl) rfl rfl) ?_
    refine sq_cons ⟨_, [(.t 17, bV t15b)]⟩ (v_extract rfl trivial rfl (ble _ _ rfl) rfl rfl) ?_
    refine sq_cons ⟨_, [(.t 6, iV t15a)]⟩ (v_move (.inr rfl) trivial rfl (ble _ _ rfl) rfl) ?_
    refine sq_cons ⟨_, [(.t 7, bV t15b)]⟩ (v_move (.inr rfl) trivial rfl (ble _ _ rfl) rfl) ?_
    refine sq_nil ?_
    refine ht_seq ?_
    refine ht_seq ?_
    refine ht_region ?_
    refine sq_cons ⟨_, [(.t 18, bV t15b)]⟩ (v_move (.inl rfl) trivial rfl (ble _ _ rfl) rfl) ?_
    refine sq_cons ⟨_, [(.t 19, bV (!t15b))]⟩ (v_un rfl trivial rfl (ble _ _ rfl) rfl (u_not rfl)) ?_
    refine sq_nil ?_
    refine ht_cond (b := (!t15b)) rfl (fun e4 => ?_) (fun e4 => ?_)
    · replace h := cpos e4 h
      refine ht_seq ?_
      refine ht_region ?_
      refine sq_cons ⟨_, [(.t 20, .d (.agg (eDone (⟨0, 0, (⟨0, (⟨0, 0, 0⟩ : Stamp), false, ⟨#[]⟩, [], ⟨#[]⟩, false⟩ : Answer)⟩ : Done))))]⟩ (w_bld zc78 ((eDone (⟨0, 0, (⟨0, (⟨0, 0, 0⟩ : Stamp), false, ⟨#[]⟩, [], ⟨#[]⟩, false⟩ : Answer)⟩ : Done)).map V.d) [] rfl trivial rfl (ble _ _ rfl) zw78 rfl ft78 rfl rfl rfl rfl) ?_
      refine sq_cons _ (v_store_box (id := 4) (off := 0) (cs := (eDone (⟨0, 0, (⟨0, (⟨0, 0, 0⟩ : Stamp), false, ⟨#[]⟩, [], ⟨#[]⟩, false⟩ : Answer)⟩ : Done)).map V.d) rfl trivial rfl sz78 rfl rfl rfl rfl (ones_of rfl) (ble _ _ rfl)) ?_
      refine sq_cons ⟨_, [(.t 5, bV false)]⟩ (v_move (.inr rfl) trivial rfl (ble _ _ rfl) rfl) ?_
      refine sq_nil ?_
      refine ht_ret ?_
      cases h
      exact ret2 rfl (.cell rfl rfl ag78 (ble _ _ rfl) rfl) (.tmp rfl)
    · replace h := cneg e4 h
      refine ht_skip ?_
      refine ht_seq ?_
      refine ht_region ?_
      refine sq_cons ⟨_, [(.t 21, .d (.sl 11 (t0.map eDone)))]⟩ (v_move (.inl rfl) trivial rfl (ble _ _ rfl) rfl) ?_
      refine sq_cons ⟨_, [(.t 22, iV t15a)]⟩ (v_move (.inl rfl) trivial rfl (ble _ _ rfl) rfl) ?_
      obtain ⟨e5, h⟩ := gpos h
      refine sq_cons ⟨_, [(.t 23, .d (.dp (eDone (rd t0 t15a))))]⟩ (w_idx t0 eDone rfl trivial rfl (ble _ _ rfl) slT48 rfl rfl e5) ?_
      refine sq_cons ⟨_, [(.t 24, .d (.agg (eDone (rd t0 t15a))))]⟩ (w_ldp (eDone (rd t0 t15a)) (eDone (rd t0 t15a)) rfl trivial rfl (ble _ _ rfl) ag78 rfl (ble _ _ rfl) rfl) ?_
      refine sq_cons _ (v_store_box (id := 4) (off := 0) (cs := (eDone (rd t0 t15a)).map V.d) rfl trivial rfl sz78 rfl rfl rfl rfl (ones_of rfl) (ble _ _ rfl)) ?_
      refine sq_cons ⟨_, [(.t 5, bV true)]⟩ (v_move (.inr rfl) trivial rfl (ble _ _ rfl) rfl) ?_
      refine sq_nil ?_
      refine ht_ret ?_
      cases h
      exact ret2 rfl (.cell rfl rfl ag78 (ble _ _ rfl) rfl) (.tmp rfl)
set_option maxRecDepth 100000 in
set_option maxHeartbeats 4000000 in
theorem s44 (k : Nat) (t0 : List Done) (t1 : Int) (t2 : Int) (r : Int) (h : F44 k t0 t1 t2 = some r) : Awp.Spec Tryd.prog amb 44 [(.sl 11 (t0.map eDone)), (.s (.int .i64 t1)), (.s (.int .i64 t2))] (.ds [(.s (.int .i64 r))]) := by
  rw [F44] at h
  refine spec_of Tryd.func44 rfl (ble _ _ rfl) fun w0 ok0 lt0 hA => ?_
  refine ht_seq ?_
  refine ht_region ?_
  refine sq_cons ⟨_, [(.t 6, iV 0)]⟩ (v_move (.inr rfl) trivial rfl (ble _ _ rfl) rfl) ?_
  refine sq_nil ?_
  refine ht_seq ?_
  refine ht_seq ?_
  refine ht_region ?_
  refine sq_cons ⟨_, [(.t 9, .d (.sl 11 (t0.map eDone)))]⟩ (v_move (.inl rfl) trivial rfl (ble _ _ rfl) rfl) ?_
  obtain ⟨t10, c1, h⟩ := bpos h
  refine sq_cons ⟨_, [(.t 10, bV t10)]⟩ (w_call (ds := [(.sl 11 (t0.map eDone))]) (caps := []) (l := [(.s (.bool t10))]) (s58 k t0 _ c1) rfl rfl rfl en58 trivial rfl (ble _ _ rfl) (.inl ⟨rfl, rfl⟩) rfl rfl) ?_
  refine sq_cons ⟨_, [(.t 11, bV (!t10))]⟩ (v_un rfl trivial rfl (ble _ _ rfl) rfl (u_not rfl)) ?_
  refine sq_cons ⟨_, [(.t 12, bV (!t10))]⟩ (v_move (.inl rfl) trivial rfl (ble _ _ rfl) rfl) ?_
  refine sq_cons ⟨_, [(.t 13, mg (!(!t10)) (iV t1))]⟩ (v_cF rfl rfl rfl (ble _ _ rfl) rfl fun e2 => (v_move (.inl rfl) ⟨_, rfl, be e2⟩ rfl (ble _ _ rfl) rfl)) ?_
  obtain ⟨t14, c4, h⟩ := bpos h
  refine sq_cons ⟨_, [(.t 14, mg (!(!t10)) (bV t14))]⟩ (v_cF rfl rfl rfl (ble _ _ rfl) rfl fun e3 => (w_call (ds := [(.s (.int .i64 t1))]) (caps := []) (l := [(.s (.bool t14))]) (s64 k t1 _ (cpos (nF e3) c4)) rfl rfl rfl en64 ⟨_, rfl, be e3⟩ rfl (ble _ _ rfl) (.inl ⟨rfl, rfl⟩) (cc (gv (nF e3)) rfl) rfl)) ?_
  refine sq_cons ⟨_, [(.t 15, mg (!(!t10)) (bV (!t14)))]⟩ (v_cF rfl rfl rfl (ble _ _ rfl) rfl fun e5 => (v_un rfl ⟨_, rfl, be e5⟩ rfl (ble _ _ rfl) (gv (nF e5)) (u_not rfl))) ?_
  refine sq_cons ⟨_, [(.t 16, bV ((!t10) || (!t14)))]⟩ (v_pickB rfl trivial rfl (ble _ _ rfl) rfl (fun e6 => rfl) (fun e7 => (gv (nF e7))) (pO _ _)) ?_
  refine sq_cons ⟨_, [(.t 17, bV ((!t10) || (!t14)))]⟩ (v_move (.inl rfl) trivial rfl (ble _ _ rfl) rfl) ?_
  refine sq_cons ⟨_, [(.t 18, mg (!((!t10) || (!t14))) (iV t2))]⟩ (v_cF rfl rfl rfl (ble _ _ rfl) rfl fun e8 => (v_move (.inl rfl) ⟨_, rfl, be e8⟩ rfl (ble _ _ rfl) rfl)) ?_
  obtain ⟨t19, c10, h⟩ := bpos h
  refine sq_cons ⟨_, [(.t 19, mg (!((!t10) || (!t14))) (bV t19))]⟩ (v_cF rfl rfl rfl (ble _ _ rfl) rfl fun e9 => (w_call (ds := [(.s (.int .i64 t2))]) (caps := []) (l := [(.s (.bool t19))]) (s64 k t2 _ (cpos (nF e9) c10)) rfl rfl rfl en64 ⟨_, rfl, be e9⟩ rfl (ble _ _ rfl) (.inl ⟨rfl, rfl⟩) (cc (gv (nF e9)) rfl) rfl)) ?_
  refine sq_cons ⟨_, [(.t 20, mg (!((!t10) || (!t14))) (bV (!t19)))]⟩ (v_cF rfl rfl rfl (ble _ _ rfl) rfl fun e11 => (v_un rfl ⟨_, rfl, be e11⟩ rfl (ble _ _ rfl) (gv (nF e11)) (u_not rfl))) ?_
  refine sq_cons ⟨_, [(.t 21, bV (((!t10) || (!t14)) || (!t19)))]⟩ (v_pickB rfl trivial rfl (ble _ _ rfl) rfl (fun e12 => rfl) (fun e13 => (gv (nF e13))) (pO _ _)) ?_
  refine sq_nil ?_
  refine ht_cond (b := (((!t10) || (!t14)) || (!t19))) rfl (fun e14 => ?_) (fun e14 => ?_)
  · replace h := cpos e14 h
    refine ht_seq ?_
    refine ht_region ?_
    refine sq_cons ⟨_, [(.t 6, iV 0)]⟩ (v_move (.inr rfl) trivial rfl (ble _ _ rfl) rfl) ?_
    refine sq_nil ?_
    refine ht_ret ?_
    cases h
    exact ret1 rfl (.tmp rfl)
  · replace h := cneg e14 h
    refine ht_skip ?_
    refine ht_seq ?_
    refine ht_region ?_
    refine sq_cons ⟨_, [(.t 23, .d (.sl 11 (t0.map eDone)))]⟩ (v_move (.inl rfl) trivial rfl (ble _ _ rfl) rfl) ?_
    refine sq_cons ⟨_, [(.t 24, iV t1)]⟩ (v_move (.inl rfl) trivial rfl (ble _ _ rfl) rfl) ?_
    obtain ⟨⟨t25a, t25b⟩, c15, h⟩ := bpos h
    refine sq_cons ⟨_, [(.t 25, .tup [.d (.agg (eDone t25a)), bV t25b])]⟩ (w_call (ds := [(.sl 11 (t0.map eDone)), (.s (.int .i64 t1))]) (caps := []) (l := [(.agg (eDone t25a)), (.s (.bool t25b))]) (s45 k t0 t1 _ c15) rfl rfl rfl en45 trivial rfl (ble _ _ rfl) (.inl ⟨rfl, rfl⟩) rfl rfl) ?_
    refine sq_cons ⟨_, [(.t 22, .tup [.d (.agg (eDone t25a)), bV t25b])]⟩ (v_move (.inl rfl) trivial rfl (ble _ _ rfl) rfl) ?_
    refine sq_cons ⟨_, [(.t 26, .d (.agg (eDone t25a)))]⟩ (v_extract rfl trivial rfl (ble _ _ rfl) rfl rfl) ?_
    refine sq_cons ⟨_, [(.t 27, bV t25b)]⟩ (v_extract rfl trivial rfl (ble _ _ rfl) rfl rfl) ?_
    refine sq_cons _ (v_alloc (id := 7) (cs := zc78) rfl trivial rfl (ble _ _ rfl) zu78 rfl ft78 rfl) ?_
    refine sq_cons _ (v_store_box (id := 7) (off := 0) (cs := (eDone t25a).map V.d) rfl trivial rfl sz78 rfl rfl rfl rfl (ones_of rfl) (ble _ _ rfl)) ?_
    refine sq_cons ⟨_, [(.t 8, bV t25b)]⟩ (v_move (.inr rfl) trivial rfl (ble _ _ rfl) rfl) ?_
    refine sq_nil ?_
    refine ht_seq ?_
    refine ht_block ?_
    refine ht_seq ?_
    refine ht_region ?_
    refine sq_cons ⟨_, [(.t 29, bV t25b)]⟩ (v_move (.inl rfl) trivial rfl (ble _ _ rfl) rfl) ?_
    refine sq_cons ⟨_, [(.t 30, bV (!t25b))]⟩ (v_un rfl trivial rfl (ble _ _ rfl) rfl (u_not rfl)) ?_
    refine sq_cons ⟨_, [(.t 31, bV (!t25b))]⟩ (v_move (.inl rfl) trivial rfl (ble _ _ rfl) rfl) ?_
    refine sq_cons ⟨_, [(.t 32, mg (!(!t25b)) (iV t2))]⟩ (v_cF rfl rfl rfl (ble _ _ rfl) rfl fun e16 => (v_move (.inl rfl) ⟨_, rfl, be e16⟩ rfl (ble _ _ rfl) rfl)) ?_
    refine sq_cons ⟨_, [(.t 33, mg (!(!t25b)) (.ptr 7 1))]⟩ (v_cF rfl rfl rfl (ble _ _ rfl) rfl fun e17 => (v_field_box (off := 0) (a0 := 1) rfl ⟨_, rfl, be e17⟩ rfl (ble _ _ rfl) fo78_1 rfl)) ?_
    refine sq_cons ⟨_, [(.t 34, mg (!(!t25b)) (iV t25a.mReq))]⟩ (v_cF rfl rfl rfl (ble _ _ rfl) rfl fun e18 => (v_load_box1 (id := 7) (off := 1) rfl ⟨_, rfl, be e18⟩ rfl (ble _ _ rfl) onT3 (gv (nF e18)) rfl (ble _ _ rfl) rfl)) ?_
    refine sq_cons ⟨_, [(.t 35, mg (!(!t25b)) (bV (ltI t25a.mReq t2)))]⟩ (v_cF rfl rfl rfl (ble _ _ rfl) rfl fun e19 => (v_bin rfl ⟨_, rfl, be e19⟩ rfl (ble _ _ rfl) (gv (nF e19)) (gv (nF e19)) (b_gtr rfl))) ?_
    refine sq_cons ⟨_, [(.t 36, bV ((!t25b) || (ltI t25a.mReq t2)))]⟩ (v_pickB rfl trivial rfl (ble _ _ rfl) rfl (fun e20 => rfl) (fun e21 => (gv (nF e21))) (pO _ _)) ?_
    refine sq_cons ⟨_, [(.t 28, bV ((!t25b) || (ltI t25a.mReq t2)))]⟩ (v_move (.inr rfl) trivial rfl (ble _ _ rfl) rfl) ?_
    refine sq_nil ?_
    refine ht_cond (b := ((!t25b) || (ltI t25a.mReq t2))) rfl (fun e22 => ?_) (fun e22 => ?_)
    · replace h := cpos e22 h
      refine ht_seq ?_
      refine ht_region ?_
      refine sq_cons ⟨_, [(.t 6, iV 1)]⟩ (v_move (.inr rfl) trivial rfl (ble _ _ rfl) rfl) ?_
      refine sq_nil ?_
      refine ht_ret ?_
      cases h
      exact ret1 rfl (.tmp rfl)
    · replace h := cneg e22 h
      refine ht_seq ?_
      refine ht_region ?_
      refine sq_cons ⟨_, [(.t 38, iV t2)]⟩ (v_move (.inl rfl) trivial rfl (ble _ _ rfl) rfl) ?_
      refine sq_cons ⟨_, [(.t 39, .ptr 7 1)]⟩ (v_field_box (off := 0) (a0 := 1) rfl trivial rfl (ble _ _ rfl) fo78_1 rfl) ?_
      refine sq_cons ⟨_, [(.t 40, iV t25a.mReq)]⟩ (v_load_box1 (id := 7) (off := 1) rfl trivial rfl (ble _ _ rfl) onT3 rfl rfl (ble _ _ rfl) rfl) ?_
      refine sq_cons ⟨_, [(.t 41, bV (eqI t2 t25a.mReq))]⟩ (v_bin rfl trivial rfl (ble _ _ rfl) rfl rfl (b_eql rfl)) ?_
      refine sq_cons ⟨_, [(.t 37, bV (eqI t2 t25a.mReq))]⟩ (v_move (.inr rfl) trivial rfl (ble _ _ rfl) rfl) ?_
      refine sq_nil ?_
      refine ht_cond (b := (eqI t2 t25a.mReq)) rfl (fun e23 => ?_) (fun e23 => ?_)
      · replace h := cpos e23 h
        refine ht_seq ?_
        refine ht_region ?_
        refine sq_cons ⟨_, [(.t 6, iV 2)]⟩ (v_move (.inr rfl) trivial rfl (ble _ _ rfl) rfl) ?_
        refine sq_nil ?_
        refine ht_ret ?_
        cases h
        exact ret1 rfl (.tmp rfl)
      · replace h := cneg e23 h
        refine ht_skip ?_
        refine ht_seq ?_
        refine ht_region ?_
        refine sq_cons ⟨_, [(.t 6, iV 3)]⟩ (v_move (.inr rfl) trivial rfl (ble _ _ rfl) rfl) ?_
        refine sq_nil ?_
        refine ht_ret ?_
        cases h
        exact ret1 rfl (.tmp rfl)
set_option maxRecDepth 100000 in
set_option maxHeartbeats 4000000 in
theorem s85 (k : Nat) (t0 : Entry) (t1 : ByteArray) (r : Int) (h : F85 k t0 t1 = some r) : Awp.Spec Tryd.prog amb 85 [(.agg (eEntry t0)), (.s (.string t1))] (.ds [(.s (.int .i64 r))]) := by
  rw [F85] at h
  refine spec_of Tryd.func85 rfl (ble _ _ rfl) fun w0 ok0 lt0 hA => ?_
  refine ht_seq ?_
  refine ht_region ?_
  refine sq_cons ⟨_, [(.t 2, .d (.dp (eEntry t0)))]⟩ (v_box_d (cs := (eEntry t0)) rfl trivial rfl (ble _ _ rfl) rfl rfl (ones_of rfl)) ?_
  refine sq_cons ⟨_, [(.t 4, iV 0)]⟩ (v_move (.inr rfl) trivial rfl (ble _ _ rfl) rfl) ?_
  refine sq_nil ?_
  refine ht_seq ?_
  refine ht_region ?_
  refine sq_cons ⟨_, [(.t 5, .d (.dp (eEntry t0)))]⟩ (v_field_dp (a0 := 0) (cs := (eEntry t0)) rfl trivial rfl (ble _ _ rfl) fo100_0 rfl) ?_
  refine sq_cons ⟨_, [(.t 6, sV t0.mKey)]⟩ (v_load_dp1 rfl trivial rfl (ble _ _ rfl) onT9 rfl rfl) ?_
  refine sq_cons ⟨_, [(.t 7, sV t1)]⟩ (v_move (.inl rfl) trivial rfl (ble _ _ rfl) rfl) ?_
  obtain ⟨t8, c1, h⟩ := bpos h
  refine sq_cons ⟨_, [(.t 8, iV t8)]⟩ (w_call (ds := [(.s (.string t0.mKey)), (.s (.string t1))]) (caps := []) (l := [(.s (.int .i64 t8))]) (s43 k t0.mKey t1 _ c1) rfl rfl rfl en43 trivial rfl (ble _ _ rfl) (.inl ⟨rfl, rfl⟩) rfl rfl) ?_
  refine sq_cons ⟨_, [(.t 4, iV t8)]⟩ (v_move (.inr rfl) trivial rfl (ble _ _ rfl) rfl) ?_
  refine sq_nil ?_
  refine ht_ret ?_
  cases h
  exact ret1 rfl (.tmp rfl)
set_option maxRecDepth 100000 in
set_option maxHeartbeats 4000000 in
theorem s84_85 (k : Nat) (t0 : List Entry) (t1 : ByteArray) (r : Int × Bool) (h : F84_85 k t0 t1 = some r) : Awp.Spec Tryd.prog amb 84 [(.sl 2 (t0.map eEntry)), (.s (.string t1)), (.fn 85 [])] (.ds [(.s (.int .i64 r.1)), (.s (.bool r.2))]) := by
  rw [F84_85] at h
  refine spec_of Tryd.func84 rfl (ble _ _ rfl) fun w0 ok0 lt0 hA => ?_
  refine ht_seq ?_
  refine ht_region ?_
  refine sq_cons ⟨_, [(.t 6, iV 0)]⟩ (v_move (.inr rfl) trivial rfl (ble _ _ rfl) rfl) ?_
  refine sq_cons ⟨_, [(.t 7, bV false)]⟩ (v_move (.inr rfl) trivial rfl (ble _ _ rfl) rfl) ?_
  refine sq_nil ?_
  refine ht_seq ?_
  refine ht_region ?_
  refine sq_cons ⟨_, [(.t 12, .d (.sl 2 (t0.map eEntry)))]⟩ (v_move (.inl rfl) trivial rfl (ble _ _ rfl) rfl) ?_
  refine sq_cons ⟨_, [(.t 13, iV (t0.length : Int))]⟩ (w_len t0 eEntry rfl rfl trivial rfl (ble _ _ rfl) slT47 rfl) ?_
  refine sq_cons ⟨_, [(.t 8, iV (t0.length : Int))]⟩ (v_move (.inr rfl) trivial rfl (ble _ _ rfl) rfl) ?_
  refine sq_nil ?_
  refine ht_seq ?_
  refine ht_region ?_
  refine sq_cons ⟨_, [(.t 14, iV (t0.length : Int))]⟩ (v_move (.inl rfl) trivial rfl (ble _ _ rfl) rfl) ?_
  refine sq_cons ⟨_, [(.t 9, iV 0)]⟩ (v_move (.inr rfl) trivial rfl (ble _ _ rfl) rfl) ?_
  refine sq_cons ⟨_, [(.t 10, iV (t0.length : Int))]⟩ (v_move (.inr rfl) trivial rfl (ble _ _ rfl) rfl) ?_
  refine sq_nil ?_
  refine ht_bj h (fun t9 => tell [(.t 0, .d (.sl 2 (t0.map eEntry))), (.t 1, sV t1), (.t 2, .d (.fn 85 [])), (.t 8, iV (t0.length : Int)), (.t 9, iV t9)]) (fun t9 h => ?_) (fun v1 K2 h j4 => ?_)
  · refine ht_seq ?_
    refine ht_region ?_
    refine sq_cons ⟨_, [(.t 35, iV t9)]⟩ (v_move (.inl rfl) trivial rfl (ble _ _ rfl) rfl) ?_
    refine sq_cons ⟨_, [(.t 36, iV t9)]⟩ (v_move (.inl rfl) trivial rfl (ble _ _ rfl) rfl) ?_
    refine sq_cons ⟨_, [(.t 37, iV (t0.length : Int))]⟩ (v_move (.inl rfl) trivial rfl (ble _ _ rfl) rfl) ?_
    refine sq_cons ⟨_, [(.t 38, bV (ltI t9 (t0.length : Int)))]⟩ (v_bin rfl trivial rfl (ble _ _ rfl) rfl rfl (b_lss rfl)) ?_
    refine sq_cons ⟨_, [(.t 39, bV (ltI t9 (t0.length : Int)))]⟩ (v_move (.inl rfl) trivial rfl (ble _ _ rfl) rfl) ?_
    refine sq_cons ⟨_, [(.t 40, mg (ltI t9 (t0.length : Int)) (.d (.fn 85 [])))]⟩ (v_cT rfl rfl rfl (ble _ _ rfl) rfl fun e15 => (v_move (.inl rfl) ⟨_, rfl, be e15⟩ rfl (ble _ _ rfl) rfl)) ?_
    refine sq_cons ⟨_, [(.t 41, mg (ltI t9 (t0.length : Int)) (.d (.sl 2 (t0.map eEntry))))]⟩ (v_cT rfl rfl rfl (ble _ _ rfl) rfl fun e16 => (v_move (.inl rfl) ⟨_, rfl, be e16⟩ rfl (ble _ _ rfl) rfl)) ?_
    refine sq_cons ⟨_, [(.t 42, mg (ltI t9 (t0.length : Int)) (iV t9))]⟩ (v_cT rfl rfl rfl (ble _ _ rfl) rfl fun e17 => (v_move (.inl rfl) ⟨_, rfl, be e17⟩ rfl (ble _ _ rfl) rfl)) ?_
    obtain ⟨e19, h⟩ := gpos h
    refine sq_cons ⟨_, [(.t 43, mg (ltI t9 (t0.length : Int)) (.d (.dp (eEntry (rd t0 t9)))))]⟩ (v_cT rfl rfl rfl (ble _ _ rfl) rfl fun e18 => (w_idx t0 eEntry rfl ⟨_, rfl, be e18⟩ rfl (ble _ _ rfl) slT47 (gv e18) (gv e18) (orT e19 e18))) ?_
    refine sq_cons ⟨_, [(.t 44, mg (ltI t9 (t0.length : Int)) (.d (.agg (eEntry (rd t0 t9)))))]⟩ (v_cT rfl rfl rfl (ble _ _ rfl) rfl fun e20 => (w_ldp (eEntry (rd t0 t9)) (eEntry (rd t0 t9)) rfl ⟨_, rfl, be e20⟩ rfl (ble _ _ rfl) ag100 (gv e20) (ble _ _ rfl) rfl)) ?_
    refine sq_cons ⟨_, [(.t 45, mg (ltI t9 (t0.length : Int)) (sV t1))]⟩ (v_cT rfl rfl rfl (ble _ _ rfl) rfl fun e21 => (v_move (.inl rfl) ⟨_, rfl, be e21⟩ rfl (ble _ _ rfl) rfl)) ?_
    obtain ⟨t46, c23, h⟩ := bpos h
    refine sq_cons ⟨_, [(.t 46, mg (ltI t9 (t0.length : Int)) (iV t46))]⟩ (v_cT rfl rfl rfl (ble _ _ rfl) rfl fun e22 => (w_call (ds := [(.agg (eEntry (rd t0 t9))), (.s (.string t1))]) (caps := []) (l := [(.s (.int .i64 t46))]) (s85 k (rd t0 t9) t1 _ (cpos e22 c23)) rfl rfl rfl en85 ⟨_, rfl, be e22⟩ rfl (ble _ _ rfl) (.inr (gv e22)) (cc (gv e22) (cc (gv e22) rfl)) rfl)) ?_
    refine sq_cons ⟨_, [(.t 47, mg (ltI t9 (t0.length : Int)) (bV (eqI t46 0)))]⟩ (v_cT rfl rfl rfl (ble _ _ rfl) rfl fun e24 => (v_bin rfl ⟨_, rfl, be e24⟩ rfl (ble _ _ rfl) (gv e24) rfl (b_eql rfl))) ?_
    refine sq_cons ⟨_, [(.t 48, bV ((ltI t9 (t0.length : Int)) && (eqI t46 0)))]⟩ (v_pickB rfl trivial rfl (ble _ _ rfl) rfl (fun e25 => (gv e25)) (fun e26 => rfl) (pA _ _)) ?_
    refine sq_cons ⟨_, [(.t 6, iV t9)]⟩ (v_move (.inr rfl) trivial rfl (ble _ _ rfl) rfl) ?_
    refine sq_cons ⟨_, [(.t 7, bV ((ltI t9 (t0.length : Int)) && (eqI t46 0)))]⟩ (v_move (.inr rfl) trivial rfl (ble _ _ rfl) rfl) ?_
    refine sq_nil ?_
    refine ht_ret ?_
    cases h
    exact ret2 rfl (.tmp rfl) (.tmp rfl)
  · refine ht_block ?_
    refine ht_rd h (fun _ => rfl) (fun (t9_1, t10) => tell [(.t 0, .d (.sl 2 (t0.map eEntry))), (.t 1, sV t1), (.t 2, .d (.fn 85 [])), (.t 8, iV (t0.length : Int)), (.t 9, iV t9_1), (.t 10, iV t10)]) (wk_ren _ (fun i => i) rfl ⟨rfl, rfl, rfl, rfl, rfl, rfl, trivial⟩) fun k v8 h K14 j7 => ?_
    obtain ⟨t9_1, t10⟩ := v8
    rw [F84_85_l1] at h
    refine ht_seq ?_
    refine ht_seq ?_
    refine ht_region ?_
    refine sq_cons ⟨_, [(.t 15, iV t9_1)]⟩ (v_move (.inl rfl) trivial rfl (ble _ _ rfl) rfl) ?_
    refine sq_cons ⟨_, [(.t 16, iV t10)]⟩ (v_move (.inl rfl) trivial rfl (ble _ _ rfl) rfl) ?_
    refine sq_cons ⟨_, [(.t 17, bV (ltI t9_1 t10))]⟩ (v_bin rfl trivial rfl (ble _ _ rfl) rfl rfl (b_lss rfl)) ?_
    refine sq_nil ?_
    refine ht_cond (b := (ltI t9_1 t10)) rfl (fun e9 => ?_) (fun e9 => ?_)
    · replace h := cpos e9 h
      refine ht_skip ?_
      refine ht_block ?_
      refine ht_seq ?_
      refine ht_region ?_
      refine sq_cons ⟨_, [(.t 18, iV t9_1)]⟩ (v_move (.inl rfl) trivial rfl (ble _ _ rfl) rfl) ?_
      refine sq_cons ⟨_, [(.t 19, iV t10)]⟩ (v_move (.inl rfl) trivial rfl (ble _ _ rfl) rfl) ?_
      refine sq_cons ⟨_, [(.t 20, iV (IntKind.wrap .i64 (t9_1 + t10)))]⟩ (v_bin rfl trivial rfl (ble _ _ rfl) rfl rfl (b_add rfl)) ?_
      refine sq_cons ⟨_, [(.t 21, nV .u64 (IntKind.wrap .u64 (IntKind.wrap .i64 (t9_1 + t10))))]⟩ (v_conv rfl trivial rfl (ble _ _ rfl) rfl (c_int und3 und122 rfl)) ?_
      obtain ⟨t22, q10, h⟩ := bndp h
      refine sq_cons ⟨_, [(.t 22, nV .u64 t22)]⟩ (v_bin rfl trivial rfl (ble _ _ rfl) rfl rfl (b_shr rfl q10)) ?_
      refine sq_cons ⟨_, [(.t 23, iV (IntKind.wrap .i64 t22))]⟩ (v_conv rfl trivial rfl (ble _ _ rfl) rfl (c_int und122 und3 rfl)) ?_
      refine sq_cons ⟨_, [(.t 11, iV (IntKind.wrap .i64 t22))]⟩ (v_move (.inr rfl) trivial rfl (ble _ _ rfl) rfl) ?_
      refine sq_nil ?_
      refine ht_seq ?_
      refine ht_region ?_
      refine sq_cons ⟨_, [(.t 24, .d (.fn 85 []))]⟩ (v_move (.inl rfl) trivial rfl (ble _ _ rfl) rfl) ?_
      refine sq_cons ⟨_, [(.t 25, .d (.sl 2 (t0.map eEntry)))]⟩ (v_move (.inl rfl) trivial rfl (ble _ _ rfl) rfl) ?_
      refine sq_cons ⟨_, [(.t 26, iV (IntKind.wrap .i64 t22))]⟩ (v_move (.inl rfl) trivial rfl (ble _ _ rfl) rfl) ?_
      obtain ⟨e11, h⟩ := gpos h
      refine sq_cons ⟨_, [(.t 27, .d (.dp (eEntry (rd t0 (IntKind.wrap .i64 t22)))))]⟩ (w_idx t0 eEntry rfl trivial rfl (ble _ _ rfl) slT47 rfl rfl e11) ?_
      refine sq_cons ⟨_, [(.t 28, .d (.agg (eEntry (rd t0 (IntKind.wrap .i64 t22)))))]⟩ (w_ldp (eEntry (rd t0 (IntKind.wrap .i64 t22))) (eEntry (rd t0 (IntKind.wrap .i64 t22))) rfl trivial rfl (ble _ _ rfl) ag100 rfl (ble _ _ rfl) rfl) ?_
      refine sq_cons ⟨_, [(.t 29, sV t1)]⟩ (v_move (.inl rfl) trivial rfl (ble _ _ rfl) rfl) ?_
      obtain ⟨t30, c12, h⟩ := bpos h
      refine sq_cons ⟨_, [(.t 30, iV t30)]⟩ (w_call (ds := [(.agg (eEntry (rd t0 (IntKind.wrap .i64 t22)))), (.s (.string t1))]) (caps := []) (l := [(.s (.int .i64 t30))]) (s85 k (rd t0 (IntKind.wrap .i64 t22)) t1 _ c12) rfl rfl rfl en85 trivial rfl (ble _ _ rfl) (.inr rfl) rfl rfl) ?_
      refine sq_cons ⟨_, [(.t 31, bV (ltI t30 0))]⟩ (v_bin rfl trivial rfl (ble _ _ rfl) rfl rfl (b_lss rfl)) ?_
      refine sq_nil ?_
      refine ht_cond (b := (ltI t30 0)) rfl (fun e13 => ?_) (fun e13 => ?_)
      · replace h := cpos e13 h
        refine ht_region ?_
        refine sq_cons ⟨_, [(.t 32, iV (IntKind.wrap .i64 t22))]⟩ (v_move (.inl rfl) trivial rfl (ble _ _ rfl) rfl) ?_
        refine sq_cons ⟨_, [(.t 33, iV (IntKind.wrap .i64 ((IntKind.wrap .i64 t22) + 1)))]⟩ (v_bin rfl trivial rfl (ble _ _ rfl) rfl rfl (b_add rfl)) ?_
        refine sq_cons ⟨_, [(.t 9, iV (IntKind.wrap .i64 ((IntKind.wrap .i64 t22) + 1)))]⟩ (v_move (.inr rfl) trivial rfl (ble _ _ rfl) rfl) ?_
        refine sq_nil ?_
        exact j7 _ _ h (wk_ren _ (fun i => i) rfl ⟨rfl, rfl, rfl, rfl, rfl, rfl, trivial⟩)
      · replace h := cneg e13 h
        refine ht_region ?_
        refine sq_cons ⟨_, [(.t 34, iV (IntKind.wrap .i64 t22))]⟩ (v_move (.inl rfl) trivial rfl (ble _ _ rfl) rfl) ?_
        refine sq_cons ⟨_, [(.t 10, iV (IntKind.wrap .i64 t22))]⟩ (v_move (.inr rfl) trivial rfl (ble _ _ rfl) rfl) ?_
        refine sq_nil ?_
        exact j7 _ _ h (wk_ren _ (fun i => i) rfl ⟨rfl, rfl, rfl, rfl, rfl, rfl, trivial⟩)
    · replace h := cneg e9 h
      refine ht_exit ?_
      refine tq ?_
      refine tq ?_
      refine bq_hit ?_
      cases h
      exact j4 _ (wk_ren _ (fun i => i) rfl ⟨rfl, rfl, rfl, rfl, rfl, trivial⟩)
set_option maxRecDepth 100000 in
set_option maxHeartbeats 4000000 in
theorem s66 (k : Nat) (t0 : List Entry) (t1 : ByteArray) (r : Int × Bool) (h : F66 k t0 t1 = some r) : Awp.Spec Tryd.prog amb 66 [(.sl 2 (t0.map eEntry)), (.s (.string t1))] (.ds [(.s (.int .i64 r.1)), (.s (.bool r.2))]) := by
  rw [F66] at h
  refine spec_of Tryd.func66 rfl (ble _ _ rfl) fun w0 ok0 lt0 hA => ?_
  refine ht_seq ?_
  refine ht_region ?_
  refine sq_cons ⟨_, [(.t 4, iV 0)]⟩ (v_move (.inr rfl) trivial rfl (ble _ _ rfl) rfl) ?_
  refine sq_cons ⟨_, [(.t 5, bV false)]⟩ (v_move (.inr rfl) trivial rfl (ble _ _ rfl) rfl) ?_
  refine sq_nil ?_
  refine ht_seq ?_
  refine ht_region ?_
  refine sq_cons ⟨_, [(.t 6, .d (.sl 2 (t0.map eEntry)))]⟩ (v_move (.inl rfl) trivial rfl (ble _ _ rfl) rfl) ?_
  refine sq_cons ⟨_, [(.t 7, sV t1)]⟩ (v_move (.inl rfl) trivial rfl (ble _ _ rfl) rfl) ?_
  obtain ⟨⟨t8a, t8b⟩, c1, h⟩ := bpos h
  refine sq_cons ⟨_, [(.t 8, .tup [iV t8a, bV t8b])]⟩ (w_call2 (ds := [(.sl 2 (t0.map eEntry)), (.s (.string t1)), (.fn 85 [])]) (caps := []) (l := [(.s (.int .i64 t8a)), (.s (.bool t8b))]) (s84_85 k t0 t1 _ c1) rfl rfl rfl en84 trivial rfl (ble _ _ rfl) (.inl ⟨rfl, rfl⟩) (.c (.d _) (.c (.d _) (.c (.fn _ []) .n))) rfl) ?_
  refine sq_cons ⟨_, [(.t 9, iV t8a)]⟩ (v_extract rfl trivial rfl (ble _ _ rfl) rfl rfl) ?_
  refine sq_cons ⟨_, [(.t 10, bV t8b)]⟩ (v_extract rfl trivial rfl (ble _ _ rfl) rfl rfl) ?_
  refine sq_cons ⟨_, [(.t 4, iV t8a)]⟩ (v_move (.inr rfl) trivial rfl (ble _ _ rfl) rfl) ?_
  refine sq_cons ⟨_, [(.t 5, bV t8b)]⟩ (v_move (.inr rfl) trivial rfl (ble _ _ rfl) rfl) ?_
  refine sq_nil ?_
  refine ht_ret ?_
  cases h
  exact ret2 rfl (.tmp rfl) (.tmp rfl)
set_option maxRecDepth 100000 in
set_option maxHeartbeats 4000000 in
theorem s100 (k : Nat) (t0 : Version) (t1 : Stamp) (r : Int) (h : F100 k t0 t1 = some r) : Awp.Spec Tryd.prog amb 100 [(.agg (eVersion t0)), (.agg (eStamp t1))] (.ds [(.s (.int .i64 r))]) := by
  rw [F100] at h
  refine spec_of Tryd.func100 rfl (ble _ _ rfl) fun w0 ok0 lt0 hA => ?_
  refine ht_seq ?_
  refine ht_region ?_
  refine sq_cons ⟨_, [(.t 2, .d (.dp (eVersion t0)))]⟩ (v_box_d (cs := (eVersion t0)) rfl trivial rfl (ble _ _ rfl) rfl rfl (ones_of rfl)) ?_
  refine sq_cons ⟨_, [(.t 3, .d (.dp (eStamp t1)))]⟩ (v_box_d (cs := (eStamp t1)) rfl trivial rfl (ble _ _ rfl) rfl rfl (ones_of rfl)) ?_
  refine sq_cons ⟨_, [(.t 4, iV 0)]⟩ (v_move (.inr rfl) trivial rfl (ble _ _ rfl) rfl) ?_
  refine sq_nil ?_
  refine ht_seq ?_
  refine ht_region ?_
  refine sq_cons ⟨_, [(.t 5, .d (.dp (eVersion t0)))]⟩ (v_field_dp (a0 := 0) (cs := (eVersion t0)) rfl trivial rfl (ble _ _ rfl) fo84_0 rfl) ?_
  refine sq_cons ⟨_, [(.t 6, .d (.agg (eStamp t0.mAt)))]⟩ (w_ldp (eVersion t0) (eStamp t0.mAt) rfl trivial rfl (ble _ _ rfl) ag23 rfl (ble _ _ rfl) rfl) ?_
  refine sq_cons ⟨_, [(.t 7, .d (.agg (eStamp t1)))]⟩ (w_ldp (eStamp t1) (eStamp t1) rfl trivial rfl (ble _ _ rfl) ag23 rfl (ble _ _ rfl) rfl) ?_
  obtain ⟨t8, c1, h⟩ := bpos h
  refine sq_cons ⟨_, [(.t 8, iV t8)]⟩ (w_call (ds := [(.agg (eStamp t0.mAt)), (.agg (eStamp t1))]) (caps := []) (l := [(.s (.int .i64 t8))]) (s29 k t0.mAt t1 _ c1) rfl rfl rfl en29 trivial rfl (ble _ _ rfl) (.inl ⟨rfl, rfl⟩) rfl rfl) ?_
  refine sq_cons ⟨_, [(.t 4, iV t8)]⟩ (v_move (.inr rfl) trivial rfl (ble _ _ rfl) rfl) ?_
  refine sq_nil ?_
  refine ht_ret ?_
  cases h
  exact ret1 rfl (.tmp rfl)
set_option maxRecDepth 100000 in
set_option maxHeartbeats 4000000 in
theorem s99_100 (k : Nat) (t0 : List Version) (t1 : Stamp) (r : Int × Bool) (h : F99_100 k t0 t1 = some r) : Awp.Spec Tryd.prog amb 99 [(.sl 5 (t0.map eVersion)), (.agg (eStamp t1)), (.fn 100 [])] (.ds [(.s (.int .i64 r.1)), (.s (.bool r.2))]) := by
  rw [F99_100] at h
  refine spec_of Tryd.func99 rfl (ble _ _ rfl) fun w0 ok0 lt0 hA => ?_
  refine ht_seq ?_
  refine ht_region ?_
  refine sq_cons ⟨_, [(.t 4, .d (.dp (eStamp t1)))]⟩ (v_box_d (cs := (eStamp t1)) rfl trivial rfl (ble _ _ rfl) rfl rfl (ones_of rfl)) ?_
  refine sq_cons ⟨_, [(.t 6, iV 0)]⟩ (v_move (.inr rfl) trivial rfl (ble _ _ rfl) rfl) ?_
  refine sq_cons ⟨_, [(.t 7, bV false)]⟩ (v_move (.inr rfl) trivial rfl (ble _ _ rfl) rfl) ?_
  refine sq_nil ?_
  refine ht_seq ?_
  refine ht_region ?_
  refine sq_cons ⟨_, [(.t 12, .d (.sl 5 (t0.map eVersion)))]⟩ (v_move (.inl rfl) trivial rfl (ble _ _ rfl) rfl) ?_
  refine sq_cons ⟨_, [(.t 13, iV (t0.length : Int))]⟩ (w_len t0 eVersion rfl rfl trivial rfl (ble _ _ rfl) slT98 rfl) ?_
  refine sq_cons ⟨_, [(.t 8, iV (t0.length : Int))]⟩ (v_move (.inr rfl) trivial rfl (ble _ _ rfl) rfl) ?_
  refine sq_nil ?_
  refine ht_seq ?_
  refine ht_region ?_
  refine sq_cons ⟨_, [(.t 14, iV (t0.length : Int))]⟩ (v_move (.inl rfl) trivial rfl (ble _ _ rfl) rfl) ?_
  refine sq_cons ⟨_, [(.t 9, iV 0)]⟩ (v_move (.inr rfl) trivial rfl (ble _ _ rfl) rfl) ?_
  refine sq_cons ⟨_, [(.t 10, iV (t0.length : Int))]⟩ (v_move (.inr rfl) trivial rfl (ble _ _ rfl) rfl) ?_
  refine sq_nil ?_
  refine ht_bj h (fun t9 => tell [(.t 0, .d (.sl 5 (t0.map eVersion))), (.t 2, .d (.fn 100 [])), (.t 4, .d (.dp (eStamp t1))), (.t 8, iV (t0.length : Int)), (.t 9, iV t9)]) (fun t9 h => ?_) (fun v1 K2 h j4 => ?_)
  · refine ht_seq ?_
    refine ht_region_draw mixed ?_
    refine rg_cons ⟨_, [(.t 35, iV t9)]⟩ (v_move (.inl rfl) trivial rfl (ble _ _ rfl) rfl) ?_
    refine rg_cons ⟨_, [(.t 36, iV t9)]⟩ (v_move (.inl rfl) trivial rfl (ble _ _ rfl) rfl) ?_
    refine rg_cons ⟨_, [(.t 37, iV (t0.length : Int))]⟩ (v_move (.inl rfl) trivial rfl (ble _ _ rfl) rfl) ?_
    refine rg_cons ⟨_, [(.t 38, bV (ltI t9 (t0.length : Int)))]⟩ (v_bin rfl trivial rfl (ble _ _ rfl) rfl rfl (b_lss rfl)) ?_
    refine rg_cons ⟨_, [(.t 39, bV (ltI t9 (t0.length : Int)))]⟩ (v_move (.inl rfl) trivial rfl (ble _ _ rfl) rfl) ?_
    refine rg_cons ⟨_, [(.t 40, mg (ltI t9 (t0.length : Int)) (.d (.fn 100 [])))]⟩ (v_cT rfl rfl rfl (ble _ _ rfl) rfl fun e15 => (v_move (.inl rfl) ⟨_, rfl, be e15⟩ rfl (ble _ _ rfl) rfl)) ?_
    refine rg_cons ⟨_, [(.t 41, mg (ltI t9 (t0.length : Int)) (.d (.sl 5 (t0.map eVersion))))]⟩ (v_cT rfl rfl rfl (ble _ _ rfl) rfl fun e16 => (v_move (.inl rfl) ⟨_, rfl, be e16⟩ rfl (ble _ _ rfl) rfl)) ?_
    refine rg_cons ⟨_, [(.t 42, mg (ltI t9 (t0.length : Int)) (iV t9))]⟩ (v_cT rfl rfl rfl (ble _ _ rfl) rfl fun e17 => (v_move (.inl rfl) ⟨_, rfl, be e17⟩ rfl (ble _ _ rfl) rfl)) ?_
    obtain ⟨e19, h⟩ := gpos h
    refine rg_cons ⟨_, [(.t 43, mg (ltI t9 (t0.length : Int)) (.d (.dp (eVersion (rd t0 t9)))))]⟩ (v_cT rfl rfl rfl (ble _ _ rfl) rfl fun e18 => (w_idx t0 eVersion rfl ⟨_, rfl, be e18⟩ rfl (ble _ _ rfl) slT98 (gv e18) (gv e18) (orT e19 e18))) ?_
    refine rg_cons ⟨_, [(.t 44, mg (ltI t9 (t0.length : Int)) (.d (.agg (eVersion (rd t0 t9)))))]⟩ (v_cT rfl rfl rfl (ble _ _ rfl) rfl fun e20 => (w_ldp (eVersion (rd t0 t9)) (eVersion (rd t0 t9)) rfl ⟨_, rfl, be e20⟩ rfl (ble _ _ rfl) ag84 (gv e20) (ble _ _ rfl) rfl)) ?_
    refine rg_cons ⟨_, [(.t 45, mg (ltI t9 (t0.length : Int)) (.d (.agg (eStamp t1))))]⟩ (v_cT rfl rfl rfl (ble _ _ rfl) rfl fun e21 => (w_ldp (eStamp t1) (eStamp t1) rfl ⟨_, rfl, be e21⟩ rfl (ble _ _ rfl) ag23 rfl (ble _ _ rfl) rfl)) ?_
    obtain ⟨t46, c23, h⟩ := bpos h
    refine rg_cons ⟨_, [(.t 46, mg (ltI t9 (t0.length : Int)) (iV t46))]⟩ (v_cT rfl rfl rfl (ble _ _ rfl) rfl fun e22 => (w_call (ds := [(.agg (eVersion (rd t0 t9))), (.agg (eStamp t1))]) (caps := []) (l := [(.s (.int .i64 t46))]) (s100 k (rd t0 t9) t1 _ (cpos e22 c23)) rfl rfl rfl en100 ⟨_, rfl, be e22⟩ rfl (ble _ _ rfl) (.inr (gv e22)) (cc (gv e22) (cc (gv e22) rfl)) rfl)) ?_
    refine rg_cons ⟨_, [(.t 47, mg (ltI t9 (t0.length : Int)) (bV (eqI t46 0)))]⟩ (v_cT rfl rfl rfl (ble _ _ rfl) rfl fun e24 => (v_bin rfl ⟨_, rfl, be e24⟩ rfl (ble _ _ rfl) (gv e24) rfl (b_eql rfl))) ?_
    refine rg_cons ⟨_, [(.t 48, bV ((ltI t9 (t0.length : Int)) && (eqI t46 0)))]⟩ (v_pickB rfl trivial rfl (ble _ _ rfl) rfl (fun e25 => (gv e25)) (fun e26 => rfl) (pA _ _)) ?_
    refine rg_cons ⟨_, [(.t 6, iV t9)]⟩ (v_move (.inr rfl) trivial rfl (ble _ _ rfl) rfl) ?_
    refine rg_cons ⟨_, [(.t 7, bV ((ltI t9 (t0.length : Int)) && (eqI t46 0)))]⟩ (v_move (.inr rfl) trivial rfl (ble _ _ rfl) rfl) ?_
    refine rg_nil ⟨by kernel_rfl, ?_⟩
    refine ht_ret ?_
    cases h
    exact ret2 rfl (.tmp rfl) (.tmp rfl)
  · refine ht_block ?_
    refine ht_rd h (fun _ => rfl) (fun (t9_1, t10) => tell [(.t 0, .d (.sl 5 (t0.map eVersion))), (.t 2, .d (.fn 100 [])), (.t 4, .d (.dp (eStamp t1))), (.t 8, iV (t0.length : Int)), (.t 9, iV t9_1), (.t 10, iV t10)]) (wk_ren _ (fun i => i) rfl ⟨rfl, rfl, rfl, rfl, rfl, rfl, trivial⟩) fun k v8 h K14 j7 => ?_
    obtain ⟨t9_1, t10⟩ := v8
    rw [F99_100_l1] at h
    refine ht_seq ?_
    refine ht_seq ?_
    refine ht_region ?_
    refine sq_cons ⟨_, [(.t 15, iV t9_1)]⟩ (v_move (.inl rfl) trivial rfl (ble _ _ rfl) rfl) ?_
    refine sq_cons ⟨_, [(.t 16, iV t10)]⟩ (v_move (.inl rfl) trivial rfl (ble _ _ rfl) rfl) ?_
    refine sq_cons ⟨_, [(.t 17, bV (ltI t9_1 t10))]⟩ (v_bin rfl trivial rfl (ble _ _ rfl) rfl rfl (b_lss rfl)) ?_
    refine sq_nil ?_
    refine ht_cond (b := (ltI t9_1 t10)) rfl (fun e9 => ?_) (fun e9 => ?_)
    · replace h := cpos e9 h
      refine ht_skip ?_
      refine ht_block ?_
      refine ht_seq ?_
      refine ht_region ?_
      refine sq_cons ⟨_, [(.t 18, iV t9_1)]⟩ (v_move (.inl rfl) trivial rfl (ble _ _ rfl) rfl) ?_
      refine sq_cons ⟨_, [(.t 19, iV t10)]⟩ (v_move (.inl rfl) trivial rfl (ble _ _ rfl) rfl) ?_
      refine sq_cons ⟨_, [(.t 20, iV (IntKind.wrap .i64 (t9_1 + t10)))]⟩ (v_bin rfl trivial rfl (ble _ _ rfl) rfl rfl (b_add rfl)) ?_
      refine sq_cons ⟨_, [(.t 21, nV .u64 (IntKind.wrap .u64 (IntKind.wrap .i64 (t9_1 + t10))))]⟩ (v_conv rfl trivial rfl (ble _ _ rfl) rfl (c_int und3 und122 rfl)) ?_
      obtain ⟨t22, q10, h⟩ := bndp h
      refine sq_cons ⟨_, [(.t 22, nV .u64 t22)]⟩ (v_bin rfl trivial rfl (ble _ _ rfl) rfl rfl (b_shr rfl q10)) ?_
      refine sq_cons ⟨_, [(.t 23, iV (IntKind.wrap .i64 t22))]⟩ (v_conv rfl trivial rfl (ble _ _ rfl) rfl (c_int und122 und3 rfl)) ?_
      refine sq_cons ⟨_, [(.t 11, iV (IntKind.wrap .i64 t22))]⟩ (v_move (.inr rfl) trivial rfl (ble _ _ rfl) rfl) ?_
      refine sq_nil ?_
      refine ht_seq ?_
      refine ht_region_draw mixed ?_
      refine rg_cons ⟨_, [(.t 24, .d (.fn 100 []))]⟩ (v_move (.inl rfl) trivial rfl (ble _ _ rfl) rfl) ?_
      refine rg_cons ⟨_, [(.t 25, .d (.sl 5 (t0.map eVersion)))]⟩ (v_move (.inl rfl) trivial rfl (ble _ _ rfl) rfl) ?_
      refine rg_cons ⟨_, [(.t 26, iV (IntKind.wrap .i64 t22))]⟩ (v_move (.inl rfl) trivial rfl (ble _ _ rfl) rfl) ?_
      obtain ⟨e11, h⟩ := gpos h
      refine rg_cons ⟨_, [(.t 27, .d (.dp (eVersion (rd t0 (IntKind.wrap .i64 t22)))))]⟩ (w_idx t0 eVersion rfl trivial rfl (ble _ _ rfl) slT98 rfl rfl e11) ?_
      refine rg_cons ⟨_, [(.t 28, .d (.agg (eVersion (rd t0 (IntKind.wrap .i64 t22)))))]⟩ (w_ldp (eVersion (rd t0 (IntKind.wrap .i64 t22))) (eVersion (rd t0 (IntKind.wrap .i64 t22))) rfl trivial rfl (ble _ _ rfl) ag84 rfl (ble _ _ rfl) rfl) ?_
      refine rg_cons ⟨_, [(.t 29, .d (.agg (eStamp t1)))]⟩ (w_ldp (eStamp t1) (eStamp t1) rfl trivial rfl (ble _ _ rfl) ag23 rfl (ble _ _ rfl) rfl) ?_
      obtain ⟨t30, c12, h⟩ := bpos h
      refine rg_cons ⟨_, [(.t 30, iV t30)]⟩ (w_call (ds := [(.agg (eVersion (rd t0 (IntKind.wrap .i64 t22)))), (.agg (eStamp t1))]) (caps := []) (l := [(.s (.int .i64 t30))]) (s100 k (rd t0 (IntKind.wrap .i64 t22)) t1 _ c12) rfl rfl rfl en100 trivial rfl (ble _ _ rfl) (.inr rfl) rfl rfl) ?_
      refine rg_cons ⟨_, [(.t 31, bV (ltI t30 0))]⟩ (v_bin rfl trivial rfl (ble _ _ rfl) rfl rfl (b_lss rfl)) ?_
      refine rg_nil ⟨by kernel_rfl, ?_⟩
      refine ht_cond (b := (ltI t30 0)) rfl (fun e13 => ?_) (fun e13 => ?_)
      · replace h := cpos e13 h
        refine ht_region ?_
        refine sq_cons ⟨_, [(.t 32, iV (IntKind.wrap .i64 t22))]⟩ (v_move (.inl rfl) trivial rfl (ble _ _ rfl) rfl) ?_
        refine sq_cons ⟨_, [(.t 33, iV (IntKind.wrap .i64 ((IntKind.wrap .i64 t22) + 1)))]⟩ (v_bin rfl trivial rfl (ble _ _ rfl) rfl rfl (b_add rfl)) ?_
        refine sq_cons ⟨_, [(.t 9, iV (IntKind.wrap .i64 ((IntKind.wrap .i64 t22) + 1)))]⟩ (v_move (.inr rfl) trivial rfl (ble _ _ rfl) rfl) ?_
        refine sq_nil ?_
        exact j7 _ _ h (wk_ren _ (fun i => i) rfl ⟨rfl, rfl, rfl, rfl, rfl, rfl, trivial⟩)
      · replace h := cneg e13 h
        refine ht_region ?_
        refine sq_cons ⟨_, [(.t 34, iV (IntKind.wrap .i64 t22))]⟩ (v_move (.inl rfl) trivial rfl (ble _ _ rfl) rfl) ?_
        refine sq_cons ⟨_, [(.t 10, iV (IntKind.wrap .i64 t22))]⟩ (v_move (.inr rfl) trivial rfl (ble _ _ rfl) rfl) ?_
        refine sq_nil ?_
        exact j7 _ _ h (wk_ren _ (fun i => i) rfl ⟨rfl, rfl, rfl, rfl, rfl, rfl, trivial⟩)
    · replace h := cneg e9 h
      refine ht_exit ?_
      refine tq ?_
      refine tq ?_
      refine bq_hit ?_
      cases h
      exact j4 _ (wk_ren _ (fun i => i) rfl ⟨rfl, rfl, rfl, rfl, rfl, trivial⟩)
set_option maxRecDepth 100000 in
set_option maxHeartbeats 4000000 in
theorem s95 (k : Nat) (t0 : List Version) (t1 : Stamp) (r : Int) (h : F95 k t0 t1 = some r) : Awp.Spec Tryd.prog amb 95 [(.sl 5 (t0.map eVersion)), (.agg (eStamp t1))] (.ds [(.s (.int .i64 r))]) := by
  rw [F95] at h
  refine spec_of Tryd.func95 rfl (ble _ _ rfl) fun w0 ok0 lt0 hA => ?_
  refine ht_seq ?_
  refine ht_region ?_
  refine sq_cons ⟨_, [(.t 3, .d (.dp (eStamp t1)))]⟩ (v_box_d (cs := (eStamp t1)) rfl trivial rfl (ble _ _ rfl) rfl rfl (ones_of rfl)) ?_
  refine sq_cons ⟨_, [(.t 4, iV 0)]⟩ (v_move (.inr rfl) trivial rfl (ble _ _ rfl) rfl) ?_
  refine sq_nil ?_
  refine ht_seq ?_
  refine ht_region ?_
  refine sq_cons ⟨_, [(.t 8, .d (.sl 5 (t0.map eVersion)))]⟩ (v_move (.inl rfl) trivial rfl (ble _ _ rfl) rfl) ?_
  refine sq_cons ⟨_, [(.t 9, .d (.agg (eStamp t1)))]⟩ (w_ldp (eStamp t1) (eStamp t1) rfl trivial rfl (ble _ _ rfl) ag23 rfl (ble _ _ rfl) rfl) ?_
  obtain ⟨⟨t10a, t10b⟩, c1, h⟩ := bpos h
  refine sq_cons ⟨_, [(.t 10, .tup [iV t10a, bV t10b])]⟩ (w_call2 (ds := [(.sl 5 (t0.map eVersion)), (.agg (eStamp t1)), (.fn 100 [])]) (caps := []) (l := [(.s (.int .i64 t10a)), (.s (.bool t10b))]) (s99_100 k t0 t1 _ c1) rfl rfl rfl en99 trivial rfl (ble _ _ rfl) (.inl ⟨rfl, rfl⟩) (.c (.d _) (.c (.d _) (.c (.fn _ []) .n))) rfl) ?_
  refine sq_cons ⟨_, [(.t 7, .tup [iV t10a, bV t10b])]⟩ (v_move (.inl rfl) trivial rfl (ble _ _ rfl) rfl) ?_
  refine sq_cons ⟨_, [(.t 11, iV t10a)]⟩ (v_extract rfl trivial rfl (ble _ _ rfl) rfl rfl) ?_
  refine sq_cons ⟨_, [(.t 12, bV t10b)]⟩ (v_extract rfl trivial rfl (ble _ _ rfl) rfl rfl) ?_
  refine sq_cons ⟨_, [(.t 5, iV t10a)]⟩ (v_move (.inr rfl) trivial rfl (ble _ _ rfl) rfl) ?_
  refine sq_cons ⟨_, [(.t 6, bV t10b)]⟩ (v_move (.inr rfl) trivial rfl (ble _ _ rfl) rfl) ?_
  refine sq_nil ?_
  refine ht_seq ?_
  refine ht_seq ?_
  refine ht_region ?_
  refine sq_cons ⟨_, [(.t 13, bV t10b)]⟩ (v_move (.inl rfl) trivial rfl (ble _ _ rfl) rfl) ?_
  refine sq_nil ?_
  refine ht_cond (b := t10b) rfl (fun e2 => ?_) (fun e2 => ?_)
  · replace h := cpos e2 h
    refine ht_region ?_
    refine sq_cons ⟨_, [(.t 14, iV t10a)]⟩ (v_move (.inl rfl) trivial rfl (ble _ _ rfl) rfl) ?_
    refine sq_cons ⟨_, [(.t 15, iV (IntKind.wrap .i64 (t10a + 1)))]⟩ (v_bin rfl trivial rfl (ble _ _ rfl) rfl rfl (b_add rfl)) ?_
    refine sq_cons ⟨_, [(.t 5, iV (IntKind.wrap .i64 (t10a + 1)))]⟩ (v_move (.inr rfl) trivial rfl (ble _ _ rfl) rfl) ?_
    refine sq_nil ?_
    refine ht_seq ?_
    refine ht_region ?_
    refine sq_cons ⟨_, [(.t 16, iV (IntKind.wrap .i64 (t10a + 1)))]⟩ (v_move (.inl rfl) trivial rfl (ble _ _ rfl) rfl) ?_
    refine sq_cons ⟨_, [(.t 4, iV (IntKind.wrap .i64 (t10a + 1)))]⟩ (v_move (.inr rfl) trivial rfl (ble _ _ rfl) rfl) ?_
    refine sq_nil ?_
    refine ht_ret ?_
    cases h
    exact ret1 rfl (.tmp rfl)
  · replace h := cneg e2 h
    refine ht_skip ?_
    refine ht_seq ?_
    refine ht_region ?_
    refine sq_cons ⟨_, [(.t 16, iV t10a)]⟩ (v_move (.inl rfl) trivial rfl (ble _ _ rfl) rfl) ?_
    refine sq_cons ⟨_, [(.t 4, iV t10a)]⟩ (v_move (.inr rfl) trivial rfl (ble _ _ rfl) rfl) ?_
    refine sq_nil ?_
    refine ht_ret ?_
    cases h
    exact ret1 rfl (.tmp rfl)
set_option maxRecDepth 100000 in
set_option maxHeartbeats 4000000 in
theorem s74 (k : Nat) (t0 : List Version) (t1 : Stamp) (r : Version × Bool) (h : F74 k t0 t1 = some r) : Awp.Spec Tryd.prog amb 74 [(.sl 5 (t0.map eVersion)), (.agg (eStamp t1))] (.ds [(.agg (eVersion r.1)), (.s (.bool r.2))]) := by
  rw [F74] at h
  refine spec_of Tryd.func74 rfl (ble _ _ rfl) fun w0 ok0 lt0 hA => ?_
  refine ht_seq ?_
  refine ht_region ?_
  refine sq_cons ⟨_, [(.t 3, .d (.dp (eStamp t1)))]⟩ (v_box_d (cs := (eStamp t1)) rfl trivial rfl (ble _ _ rfl) rfl rfl (ones_of rfl)) ?_
  refine sq_cons _ (v_alloc (id := 4) (cs := zc84) rfl trivial rfl (ble _ _ rfl) zu84 rfl ft84 rfl) ?_
  refine sq_cons ⟨_, [(.t 5, bV false)]⟩ (v_move (.inr rfl) trivial rfl (ble _ _ rfl) rfl) ?_
  refine sq_nil ?_
  refine ht_seq ?_
  refine ht_seq ?_
  refine ht_region ?_
  refine sq_cons ⟨_, [(.t 7, .d (.sl 5 (t0.map eVersion)))]⟩ (v_move (.inl rfl) trivial rfl (ble _ _ rfl) rfl) ?_
  obtain ⟨t8, c1, h⟩ := bpos h
  refine sq_cons ⟨_, [(.t 8, bV t8)]⟩ (w_call (ds := [(.sl 5 (t0.map eVersion))]) (caps := []) (l := [(.s (.bool t8))]) (s79 k t0 _ c1) rfl rfl rfl en79 trivial rfl (ble _ _ rfl) (.inl ⟨rfl, rfl⟩) rfl rfl) ?_
  refine sq_cons ⟨_, [(.t 9, bV (!t8))]⟩ (v_un rfl trivial rfl (ble _ _ rfl) rfl (u_not rfl)) ?_
  refine sq_nil ?_
  refine ht_cond (b := (!t8)) rfl (fun e2 => ?_) (fun e2 => ?_)
  · replace h := cpos e2 h
    refine ht_seq ?_
    refine ht_region ?_
    refine sq_cons ⟨_, [(.t 10, .d (.agg (eVersion (⟨(⟨0, 0, 0⟩ : Stamp), false, ⟨#[]⟩⟩ : Version))))]⟩ (w_bld zc84 ((eVersion (⟨(⟨0, 0, 0⟩ : Stamp), false, ⟨#[]⟩⟩ : Version)).map V.d) [] rfl trivial rfl (ble _ _ rfl) zw84 rfl ft84 rfl rfl rfl rfl) ?_
    refine sq_cons _ (v_store_box (id := 4) (off := 0) (cs := (eVersion (⟨(⟨0, 0, 0⟩ : Stamp), false, ⟨#[]⟩⟩ : Version)).map V.d) rfl trivial rfl sz84 rfl rfl rfl rfl (ones_of rfl) (ble _ _ rfl)) ?_
    refine sq_cons ⟨_, [(.t 5, bV false)]⟩ (v_move (.inr rfl) trivial rfl (ble _ _ rfl) rfl) ?_
    refine sq_nil ?_
    refine ht_ret ?_
    cases h
    exact ret2 rfl (.cell rfl rfl ag84 (ble _ _ rfl) rfl) (.tmp rfl)
  · replace h := cneg e2 h
    refine ht_skip ?_
    refine ht_seq ?_
    refine ht_region ?_
    refine sq_cons ⟨_, [(.t 11, .d (.sl 5 (t0.map eVersion)))]⟩ (v_move (.inl rfl) trivial rfl (ble _ _ rfl) rfl) ?_
    refine sq_cons ⟨_, [(.t 12, .d (.agg (eStamp t1)))]⟩ (w_ldp (eStamp t1) (eStamp t1) rfl trivial rfl (ble _ _ rfl) ag23 rfl (ble _ _ rfl) rfl) ?_
    obtain ⟨t13, c3, h⟩ := bpos h
    refine sq_cons ⟨_, [(.t 13, iV t13)]⟩ (w_call (ds := [(.sl 5 (t0.map eVersion)), (.agg (eStamp t1))]) (caps := []) (l := [(.s (.int .i64 t13))]) (s95 k t0 t1 _ c3) rfl rfl rfl en95 trivial rfl (ble _ _ rfl) (.inl ⟨rfl, rfl⟩) rfl rfl) ?_
    refine sq_cons ⟨_, [(.t 6, iV t13)]⟩ (v_move (.inr rfl) trivial rfl (ble _ _ rfl) rfl) ?_
    refine sq_nil ?_
    refine ht_seq ?_
    refine ht_seq ?_
    refine ht_region ?_
    refine sq_cons ⟨_, [(.t 14, iV t13)]⟩ (v_move (.inl rfl) trivial rfl (ble _ _ rfl) rfl) ?_
    refine sq_cons ⟨_, [(.t 15, bV (eqI t13 0))]⟩ (v_bin rfl trivial rfl (ble _ _ rfl) rfl rfl (b_eql rfl)) ?_
    refine sq_nil ?_
    refine ht_cond (b := (eqI t13 0)) rfl (fun e4 => ?_) (fun e4 => ?_)
    · replace h := cpos e4 h
      refine ht_seq ?_
      refine ht_region ?_
      refine sq_cons ⟨_, [(.t 16, .d (.agg (eVersion (⟨(⟨0, 0, 0⟩ : Stamp), false, ⟨#[]⟩⟩ : Version))))]⟩ (w_bld zc84 ((eVersion (⟨(⟨0, 0, 0⟩ : Stamp), false, ⟨#[]⟩⟩ : Version)).map V.d) [] rfl trivial rfl (ble _ _ rfl) zw84 rfl ft84 rfl rfl rfl rfl) ?_
      refine sq_cons _ (v_store_box (id := 4) (off := 0) (cs := (eVersion (⟨(⟨0, 0, 0⟩ : Stamp), false, ⟨#[]⟩⟩ : Version)).map V.d) rfl trivial rfl sz84 rfl rfl rfl rfl (ones_of rfl) (ble _ _ rfl)) ?_
      refine sq_cons ⟨_, [(.t 5, bV false)]⟩ (v_move (.inr rfl) trivial rfl (ble _ _ rfl) rfl) ?_
      refine sq_nil ?_
      refine ht_ret ?_
      cases h
      exact ret2 rfl (.cell rfl rfl ag84 (ble _ _ rfl) rfl) (.tmp rfl)
    · replace h := cneg e4 h
      refine ht_skip ?_
      refine ht_seq ?_
      refine ht_region ?_
      refine sq_cons ⟨_, [(.t 17, .d (.sl 5 (t0.map eVersion)))]⟩ (v_move (.inl rfl) trivial rfl (ble _ _ rfl) rfl) ?_
      refine sq_cons ⟨_, [(.t 18, iV t13)]⟩ (v_move (.inl rfl) trivial rfl (ble _ _ rfl) rfl) ?_
      refine sq_cons ⟨_, [(.t 19, iV (IntKind.wrap .i64 (t13 - 1)))]⟩ (v_bin rfl trivial rfl (ble _ _ rfl) rfl rfl (b_sub rfl)) ?_
      obtain ⟨e5, h⟩ := gpos h
      refine sq_cons ⟨_, [(.t 20, .d (.dp (eVersion (rd t0 (IntKind.wrap .i64 (t13 - 1))))))]⟩ (w_idx t0 eVersion rfl trivial rfl (ble _ _ rfl) slT98 rfl rfl e5) ?_
      refine sq_cons ⟨_, [(.t 21, .d (.agg (eVersion (rd t0 (IntKind.wrap .i64 (t13 - 1))))))]⟩ (w_ldp (eVersion (rd t0 (IntKind.wrap .i64 (t13 - 1)))) (eVersion (rd t0 (IntKind.wrap .i64 (t13 - 1)))) rfl trivial rfl (ble _ _ rfl) ag84 rfl (ble _ _ rfl) rfl) ?_
      refine sq_cons _ (v_store_box (id := 4) (off := 0) (cs := (eVersion (rd t0 (IntKind.wrap .i64 (t13 - 1)))).map V.d) rfl trivial rfl sz84 rfl rfl rfl rfl (ones_of rfl) (ble _ _ rfl)) ?_
      refine sq_cons ⟨_, [(.t 5, bV true)]⟩ (v_move (.inr rfl) trivial rfl (ble _ _ rfl) rfl) ?_
      refine sq_nil ?_
      refine ht_ret ?_
      cases h
      exact ret2 rfl (.cell rfl rfl ag84 (ble _ _ rfl) rfl) (.tmp rfl)
set_option maxRecDepth 100000 in
set_option maxHeartbeats 4000000 in
theorem s49 (k : Nat) (t0 : List Entry) (t1 : ByteArray) (t2 : Stamp) (r : Version × Bool) (h : F49 k t0 t1 t2 = some r) : Awp.Spec Tryd.prog amb 49 [(.sl 2 (t0.map eEntry)), (.s (.string t1)), (.agg (eStamp t2))] (.ds [(.agg (eVersion r.1)), (.s (.bool r.2))]) := by
  rw [F49] at h
  refine spec_of Tryd.func49 rfl (ble _ _ rfl) fun w0 ok0 lt0 hA => ?_
  refine ht_seq ?_
  refine ht_region ?_
  refine sq_cons ⟨_, [(.t 5, .d (.dp (eStamp t2)))]⟩ (v_box_d (cs := (eStamp t2)) rfl trivial rfl (ble _ _ rfl) rfl rfl (ones_of rfl)) ?_
  refine sq_cons _ (v_alloc (id := 6) (cs := zc84) rfl trivial rfl (ble _ _ rfl) zu84 rfl ft84 rfl) ?_
  refine sq_cons ⟨_, [(.t 7, bV false)]⟩ (v_move (.inr rfl) trivial rfl (ble _ _ rfl) rfl) ?_
  refine sq_nil ?_
  refine ht_seq ?_
  refine ht_seq ?_
  refine ht_region ?_
  refine sq_cons ⟨_, [(.t 10, .d (.sl 2 (t0.map eEntry)))]⟩ (v_move (.inl rfl) trivial rfl (ble _ _ rfl) rfl) ?_
  obtain ⟨t11, c1, h⟩ := bpos h
  refine sq_cons ⟨_, [(.t 11, bV t11)]⟩ (w_call (ds := [(.sl 2 (t0.map eEntry))]) (caps := []) (l := [(.s (.bool t11))]) (s57 k t0 _ c1) rfl rfl rfl en57 trivial rfl (ble _ _ rfl) (.inl ⟨rfl, rfl⟩) rfl rfl) ?_
  refine sq_cons ⟨_, [(.t 12, bV (!t11))]⟩ (v_un rfl trivial rfl (ble _ _ rfl) rfl (u_not rfl)) ?_
  refine sq_nil ?_
  refine ht_cond (b := (!t11)) rfl (fun e2 => ?_) (fun e2 => ?_)
  · replace h := cpos e2 h
    refine ht_seq ?_
    refine ht_region ?_
    refine sq_cons ⟨_, [(.t 13, .d (.agg (eVersion (⟨(⟨0, 0, 0⟩ : Stamp), false, ⟨#[]⟩⟩ : Version))))]⟩ (w_bld zc84 ((eVersion (⟨(⟨0, 0, 0⟩ : Stamp), false, ⟨#[]⟩⟩ : Version)).map V.d) [] rfl trivial rfl (ble _ _ rfl) zw84 rfl ft84 rfl rfl rfl rfl) ?_
    refine sq_cons _ (v_store_box (id := 6) (off := 0) (cs := (eVersion (⟨(⟨0, 0, 0⟩ : Stamp), false, ⟨#[]⟩⟩ : Version)).map V.d) rfl trivial rfl sz84 rfl rfl rfl rfl (ones_of rfl) (ble _ _ rfl)) ?_
    refine sq_cons ⟨_, [(.t 7, bV false)]⟩ (v_move (.inr rfl) trivial rfl (ble _ _ rfl) rfl) ?_
    refine sq_nil ?_
    refine ht_ret ?_
    cases h
    exact ret2 rfl (.cell rfl rfl ag84 (ble _ _ rfl) rfl) (.tmp rfl)
  · replace h := cneg e2 h
    refine ht_skip ?_
    refine ht_seq ?_
    refine ht_region ?_
    refine sq_cons ⟨_, [(.t 15, .d (.sl 2 (t0.map eEntry)))]⟩ (v_move (.inl rfl) trivial rfl (ble _ _ rfl) rfl) ?_
    refine sq_cons ⟨_, [(.t 16, sV t1)]⟩ (v_move (.inl rfl) trivial rfl (ble _ _ rfl) rfl) ?_
    obtain ⟨⟨t17a, t17b⟩, c3, h⟩ := bpos h
    refine sq_cons ⟨_, [(.t 17, .tup [iV t17a, bV t17b])]⟩ (w_call (ds := [(.sl 2 (t0.map eEntry)), (.s (.string t1))]) (caps := []) (l := [(.s (.int .i64 t17a)), (.s (.bool t17b))]) (s66 k t0 t1 _ c3) rfl rfl rfl en66 trivial rfl (ble _ _ rfl) (.inl ⟨rfl, rfl⟩) rfl rfl) ?_
    refine sq_cons ⟨_, [(.t 14, .tup [iV t17a, bV t17b])]⟩ (v_move (.inl rfl) trivial rfl (ble _ _ rfl) rfl) ?_
    refine sq_cons ⟨_, [(.t 18, iV t17a)]⟩ (v_extract rfl trivial rfl (ble _ _ rfl) rfl rfl) ?_
    refine sq_cons ⟨_, [(.t 19, bV t17b)]⟩ (v_extract rfl trivial rfl (ble _ _ rfl) rfl rfl) ?_
    refine sq_cons ⟨_, [(.t 8, iV t17a)]⟩ (v_move (.inr rfl) trivial rfl (ble _ _ rfl) rfl) ?_
    refine sq_cons ⟨_, [(.t 9, bV t17b)]⟩ (v_move (.inr rfl) trivial rfl (ble _ _ rfl) rfl) ?_
    refine sq_nil ?_
    refine ht_seq ?_
    refine ht_seq ?_
    refine ht_region ?_
    refine sq_cons ⟨_, [(.t 20, bV t17b)]⟩ (v_move (.inl rfl) trivial rfl (ble _ _ rfl) rfl) ?_
    refine sq_cons ⟨_, [(.t 21, bV (!t17b))]⟩ (v_un rfl trivial rfl (ble _ _ rfl) rfl (u_not rfl)) ?_
    refine sq_cons ⟨_, [(.t 22, bV (!t17b))]⟩ (v_move (.inl rfl) trivial rfl (ble _ _ rfl) rfl) ?_
    refine sq_cons ⟨_, [(.t 23, mg (!(!t17b)) (.d (.sl 2 (t0.map eEntry))))]⟩ (v_cF rfl rfl rfl (ble _ _ rfl) rfl fun e4 => (v_move (.inl rfl) ⟨_, rfl, be e4⟩ rfl (ble _ _ rfl) rfl)) ?_
    refine sq_cons ⟨_, [(.t 24, mg (!(!t17b)) (iV t17a))]⟩ (v_cF rfl rfl rfl (ble _ _ rfl) rfl fun e5 => (v_move (.inl rfl) ⟨_, rfl, be e5⟩ rfl (ble _ _ rfl) rfl)) ?_
    obtain ⟨e7, h⟩ := gpos h
    refine sq_cons ⟨_, [(.t 25, mg (!(!t17b)) (.d (.dp (eEntry (rd t0 t17a)))))]⟩ (v_cF rfl rfl rfl (ble _ _ rfl) rfl fun e6 => (w_idx t0 eEntry rfl ⟨_, rfl, be e6⟩ rfl (ble _ _ rfl) slT47 (gv (nF e6)) (gv (nF e6)) (orT e7 (nF e6)))) ?_
    refine sq_cons ⟨_, [(.t 26, mg (!(!t17b)) (.d (.dp (eEntry (rd t0 t17a)))))]⟩ (v_cF rfl rfl rfl (ble _ _ rfl) rfl fun e8 => (v_field_dp (a0 := 0) (cs := (eEntry (rd t0 t17a))) rfl ⟨_, rfl, be e8⟩ rfl (ble _ _ rfl) fo100_0 (gv (nF e8)))) ?_
    refine sq_cons ⟨_, [(.t 27, mg (!(!t17b)) (sV (rd t0 t17a).mKey))]⟩ (v_cF rfl rfl rfl (ble _ _ rfl) rfl fun e9 => (v_load_dp1 rfl ⟨_, rfl, be e9⟩ rfl (ble _ _ rfl) onT9 (gv (nF e9)) rfl)) ?_
    refine sq_cons ⟨_, [(.t 28, mg (!(!t17b)) (sV t1))]⟩ (v_cF rfl rfl rfl (ble _ _ rfl) rfl fun e10 => (v_move (.inl rfl) ⟨_, rfl, be e10⟩ rfl (ble _ _ rfl) rfl)) ?_
    refine sq_cons ⟨_, [(.t 29, mg (!(!t17b)) (bV (!strEq (rd t0 t17a).mKey t1)))]⟩ (v_cF rfl rfl rfl (ble _ _ rfl) rfl fun e11 => (v_bin rfl ⟨_, rfl, be e11⟩ rfl (ble _ _ rfl) (gv (nF e11)) (gv (nF e11)) (b_neS rfl))) ?_
    refine sq_cons ⟨_, [(.t 30, bV ((!t17b) || (!strEq (rd t0 t17a).mKey t1)))]⟩ (v_pickB rfl trivial rfl (ble _ _ rfl) rfl (fun e12 => rfl) (fun e13 => (gv (nF e13))) (pO _ _)) ?_
    refine sq_nil ?_
    refine ht_cond (b := ((!t17b) || (!strEq (rd t0 t17a).mKey t1))) rfl (fun e14 => ?_) (fun e14 => ?_)
    · replace h := cpos e14 h
      refine ht_seq ?_
      refine ht_region ?_
      refine sq_cons ⟨_, [(.t 31, .d (.agg (eVersion (⟨(⟨0, 0, 0⟩ : Stamp), false, ⟨#[]⟩⟩ : Version))))]⟩ (w_bld zc84 ((eVersion (⟨(⟨0, 0, 0⟩ : Stamp), false, ⟨#[]⟩⟩ : Version)).map V.d) [] rfl trivial rfl (ble _ _ rfl) zw84 rfl ft84 rfl rfl rfl rfl) ?_
      refine sq_cons _ (v_store_box (id := 6) (off := 0) (cs := (eVersion (⟨(⟨0, 0, 0⟩ : Stamp), false, ⟨#[]⟩⟩ : Version)).map V.d) rfl trivial rfl sz84 rfl rfl rfl rfl (ones_of rfl) (ble _ _ rfl)) ?_
      refine sq_cons ⟨_, [(.t 7, bV false)]⟩ (v_move (.inr rfl) trivial rfl (ble _ _ rfl) rfl) ?_
      refine sq_nil ?_
      refine ht_ret ?_
      cases h
      exact ret2 rfl (.cell rfl rfl ag84 (ble _ _ rfl) rfl) (.tmp rfl)
    · replace h := cneg e14 h
      refine ht_skip ?_
      refine ht_seq ?_
      refine ht_region_draw mixed ?_
      refine rg_cons ⟨_, [(.t 32, .d (.sl 2 (t0.map eEntry)))]⟩ (v_move (.inl rfl) trivial rfl (ble _ _ rfl) rfl) ?_
      refine rg_cons ⟨_, [(.t 33, iV t17a)]⟩ (v_move (.inl rfl) trivial rfl (ble _ _ rfl) rfl) ?_
      obtain ⟨e15, h⟩ := gpos h
      refine rg_cons ⟨_, [(.t 34, .d (.dp (eEntry (rd t0 t17a))))]⟩ (w_idx t0 eEntry rfl trivial rfl (ble _ _ rfl) slT47 rfl rfl e15) ?_
      refine rg_cons ⟨_, [(.t 35, .d (.dp (List.drop 1 (eEntry (rd t0 t17a)))))]⟩ (v_field_dp (a0 := 1) (cs := (eEntry (rd t0 t17a))) rfl trivial rfl (ble _ _ rfl) fo100_1 rfl) ?_
      refine rg_cons ⟨_, [(.t 36, .d (.sl 5 ((rd t0 t17a).mChain.map eVersion)))]⟩ (v_load_dp1 rfl trivial rfl (ble _ _ rfl) onT98 rfl rfl) ?_
      refine rg_cons ⟨_, [(.t 37, .d (.agg (eStamp t2)))]⟩ (w_ldp (eStamp t2) (eStamp t2) rfl trivial rfl (ble _ _ rfl) ag23 rfl (ble _ _ rfl) rfl) ?_
      obtain ⟨⟨t38a, t38b⟩, c16, h⟩ := bpos h
      refine rg_cons ⟨_, [(.t 38, .tup [.d (.agg (eVersion t38a)), bV t38b])]⟩ (w_call (ds := [(.sl 5 ((rd t0 t17a).mChain.map eVersion)), (.agg (eStamp t2))]) (caps := []) (l := [(.agg (eVersion t38a)), (.s (.bool t38b))]) (s74 k (rd t0 t17a).mChain t2 _ c16) rfl rfl rfl en74 trivial rfl (ble _ _ rfl) (.inl ⟨rfl, rfl⟩) rfl rfl) ?_
      refine rg_cons ⟨_, [(.t 39, .d (.agg (eVersion t38a)))]⟩ (v_extract rfl trivial rfl (ble _ _ rfl) rfl rfl) ?_
      refine rg_cons ⟨_, [(.t 40, bV t38b)]⟩ (v_extract rfl trivial rfl (ble _ _ rfl) rfl rfl) ?_
      refine rg_cons _ (v_store_box (id := 6) (off := 0) (cs := (eVersion t38a).map V.d) rfl trivial rfl sz84 rfl rfl rfl rfl (ones_of rfl) (ble _ _ rfl)) ?_
      refine rg_cons ⟨_, [(.t 7, bV t38b)]⟩ (v_move (.inr rfl) trivial rfl (ble _ _ rfl) rfl) ?_
      refine rg_nil ⟨by kernel_rfl, ?_⟩
      refine ht_ret ?_
      cases h
      exact ret2 rfl (.cell rfl rfl ag84 (ble _ _ rfl) rfl) (.tmp rfl)
set_option maxRecDepth 100000 in
set_option maxHeartbeats 4000000 in
theorem s26 (k : Nat) (t0 : Cell) (t1 : Shard) (t2 : ByteArray) (r : Answer) (h : F26 k t0 t1 t2 = some r) : Awp.Spec Tryd.prog amb 26 [(.agg (eCell t0)), (.agg (eShard t1)), (.s (.string t2))] (.ds [(.agg (eAnswer r))]) := by
  rw [F26] at h
  refine spec_of Tryd.func26 rfl (ble _ _ rfl) fun w0 ok0 lt0 hA => ?_
  refine ht_seq ?_
  refine ht_region ?_
  refine sq_cons ⟨_, [(.t 3, .d (.dp (eCell t0)))]⟩ (v_box_d (cs := (eCell t0)) rfl trivial rfl (ble _ _ rfl) rfl rfl (ones_of rfl)) ?_
  refine sq_cons ⟨_, [(.t 4, .d (.dp (eShard t1)))]⟩ (v_box_d (cs := (eShard t1)) rfl trivial rfl (ble _ _ rfl) rfl rfl (ones_of rfl)) ?_
  refine sq_cons _ (v_alloc (id := 6) (cs := zc35) rfl trivial rfl (ble _ _ rfl) zu35 rfl ft35 rfl) ?_
  refine sq_nil ?_
  refine ht_seq ?_
  refine ht_region ?_
  refine sq_cons ⟨_, [(.t 10, .d (.dp (List.drop 5 (eShard t1))))]⟩ (v_field_dp (a0 := 5) (cs := (eShard t1)) rfl trivial rfl (ble _ _ rfl) fo50_4 rfl) ?_
  refine sq_cons ⟨_, [(.t 11, .d (.sl 2 (t1.mEntries.map eEntry)))]⟩ (v_load_dp1 rfl trivial rfl (ble _ _ rfl) onT47 rfl rfl) ?_
  refine sq_cons ⟨_, [(.t 12, sV t2)]⟩ (v_move (.inl rfl) trivial rfl (ble _ _ rfl) rfl) ?_
  refine sq_cons ⟨_, [(.t 13, .d (.dp (List.drop 1 (eCell t0))))]⟩ (v_field_dp (a0 := 1) (cs := (eCell t0)) rfl trivial rfl (ble _ _ rfl) fo30_1 rfl) ?_
  refine sq_cons ⟨_, [(.t 14, .d (.agg (eStamp t0.mTop)))]⟩ (w_ldp (List.drop 1 (eCell t0)) (eStamp t0.mTop) rfl trivial rfl (ble _ _ rfl) ag23 rfl (ble _ _ rfl) rfl) ?_
  obtain ⟨⟨t15a, t15b⟩, c1, h⟩ := bpos h
  refine sq_cons ⟨_, [(.t 15, .tup [.d (.agg (eVersion t15a)), bV t15b])]⟩ (w_call (ds := [(.sl 2 (t1.mEntries.map eEntry)), (.s (.string t2)), (.agg (eStamp t0.mTop))]) (caps := []) (l := [(.agg (eVersion t15a)), (.s (.bool t15b))]) (s49 k t1.mEntries t2 t0.mTop _ c1) rfl rfl rfl en49 trivial rfl (ble _ _ rfl) (.inl ⟨rfl, rfl⟩) rfl rfl) ?_
  refine sq_cons ⟨_, [(.t 9, .tup [.d (.agg (eVersion t15a)), bV t15b])]⟩ (v_move (.inl rfl) trivial rfl (ble _ _ rfl) rfl) ?_
  refine sq_cons ⟨_, [(.t 16, .d (.agg (eVersion t15a)))]⟩ (v_extract rfl trivial rfl (ble _ _ rfl) rfl rfl) ?_
  refine sq_cons ⟨_, [(.t 17, bV t15b)]⟩ (v_extract rfl trivial rfl (ble _ _ rfl) rfl rfl) ?_
  refine sq_cons _ (v_alloc (id := 7) (cs := zc84) rfl trivial rfl (ble _ _ rfl) zu84 rfl ft84 rfl) ?_
  refine sq_cons _ (v_store_box (id := 7) (off := 0) (cs := (eVersion t15a).map V.d) rfl trivial rfl sz84 rfl rfl rfl rfl (ones_of rfl) (ble _ _ rfl)) ?_
  refine sq_cons ⟨_, [(.t 8, bV t15b)]⟩ (v_move (.inr rfl) trivial rfl (ble _ _ rfl) rfl) ?_
  refine sq_nil ?_
  refine ht_seq ?_
  refine ht_region ?_
  refine sq_cons ⟨_, [(.t 18, .ptr 7 0)]⟩ (v_field_box (off := 0) (a0 := 0) rfl trivial rfl (ble _ _ rfl) fo84_0 rfl) ?_
  refine sq_cons ⟨_, [(.t 19, .d (.agg (eStamp t15a.mAt)))]⟩ (w_ldb 7 0 rfl trivial rfl (ble _ _ rfl) ag23 rfl rfl (ble _ _ rfl) rfl) ?_
  refine sq_cons ⟨_, [(.t 20, bV t15b)]⟩ (v_move (.inl rfl) trivial rfl (ble _ _ rfl) rfl) ?_
  refine sq_cons ⟨_, [(.t 21, bV t15b)]⟩ (v_move (.inl rfl) trivial rfl (ble _ _ rfl) rfl) ?_
  refine sq_cons ⟨_, [(.t 22, mg t15b (.ptr 7 3))]⟩ (v_cT rfl rfl rfl (ble _ _ rfl) rfl fun e2 => (v_field_box (off := 0) (a0 := 3) rfl ⟨_, rfl, be e2⟩ rfl (ble _ _ rfl) fo84_1 rfl)) ?_
  refine sq_cons ⟨_, [(.t 23, mg t15b (bV t15a.mGone))]⟩ (v_cT rfl rfl rfl (ble _ _ rfl) rfl fun e3 => (v_load_box1 (id := 7) (off := 3) rfl ⟨_, rfl, be e3⟩ rfl (ble _ _ rfl) onT4 (gv e3) rfl (ble _ _ rfl) rfl)) ?_
  refine sq_cons ⟨_, [(.t 24, mg t15b (bV (!t15a.mGone)))]⟩ (v_cT rfl rfl rfl (ble _ _ rfl) rfl fun e4 => (v_un rfl ⟨_, rfl, be e4⟩ rfl (ble _ _ rfl) (gv e4) (u_not rfl))) ?_
  refine sq_cons ⟨_, [(.t 25, bV (t15b && (!t15a.mGone)))]⟩ (v_pickB rfl trivial rfl (ble _ _ rfl) rfl (fun e5 => (gv e5)) (fun e6 => rfl) (pA _ _)) ?_
  refine sq_cons ⟨_, [(.t 26, .ptr 7 4)]⟩ (v_field_box (off := 0) (a0 := 4) rfl trivial rfl (ble _ _ rfl) fo84_2 rfl) ?_
  refine sq_cons ⟨_, [(.t 27, sV t15a.mValue)]⟩ (v_load_box1 (id := 7) (off := 4) rfl trivial rfl (ble _ _ rfl) onT9 rfl rfl (ble _ _ rfl) rfl) ?_
  refine sq_cons ⟨_, [(.t 28, .d (.agg (eAnswer (⟨0, t15a.mAt, (t15b && (!t15a.mGone)), t15a.mValue, ([] : List Item), (⟨#[]⟩ : ByteArray), false⟩ : Answer))))]⟩ (w_bld zc35 ((eAnswer (⟨0, t15a.mAt, (t15b && (!t15a.mGone)), t15a.mValue, ([] : List Item), (⟨#[]⟩ : ByteArray), false⟩ : Answer)).map V.d) [(1, .d (.agg (eStamp t15a.mAt))), (2, bV (t15b && (!t15a.mGone))), (3, sV t15a.mValue)] rfl trivial rfl (ble _ _ rfl) zw35 rfl ft35 rfl rfl rfl rfl) ?_
  refine sq_cons _ (v_store_box (id := 6) (off := 0) (cs := (eAnswer (⟨0, t15a.mAt, (t15b && (!t15a.mGone)), t15a.mValue, ([] : List Item), (⟨#[]⟩ : ByteArray), false⟩ : Answer)).map V.d) rfl trivial rfl sz35 rfl rfl rfl rfl (ones_of rfl) (ble _ _ rfl)) ?_
  refine sq_nil ?_
  refine ht_ret ?_
  cases h
  exact ret1 rfl (.cell rfl rfl ag35 (ble _ _ rfl) rfl)
set_option maxRecDepth 100000 in
set_option maxHeartbeats 4000000 in
theorem s87 (k : Nat) (t0 : List Version) (r : (List Version)) (h : F87 k t0 = some r) : Awp.Spec Tryd.prog amb 87 [(.sl 5 (t0.map eVersion))] (.ds [(.sl 5 (r.map eVersion))]) := by
  rw [F87] at h
  refine spec_of Tryd.func87 rfl (ble _ _ rfl) fun w0 ok0 lt0 hA => ?_
  refine ht_seq ?_
  refine ht_region ?_
  refine sq_cons ⟨_, [(.t 2, .d (.s (.slice none 0 0)))]⟩ (v_move (.inr rfl) trivial rfl (ble _ _ rfl) rfl) ?_
  refine sq_nil ?_
  refine ht_seq ?_
  refine ht_seq ?_
  refine ht_region ?_
  refine sq_cons ⟨_, [(.t 3, .d (.sl 5 (t0.map eVersion)))]⟩ (v_move (.inl rfl) trivial rfl (ble _ _ rfl) rfl) ?_
  refine sq_nileq rfl trivial rfl (ble _ _ rfl) und98 rfl (fun b1 hb2 => ?_)
  refine sq_nil ?_
  refine ht_cond (b := b1) rfl (fun e3 => ?_) (fun e3 => ?_)
  · obtain rfl : t0 = [] := List.map_eq_nil_iff.1 (hb2 e3)
    replace h : (some ([] : List Version) : Option (List Version)) = some r := by (obtain ⟨_, h⟩ := gpos h; cases h; rfl)
    refine ht_seq ?_
    refine ht_region ?_
    refine sq_cons ⟨_, [(.t 2, .d (.s (.slice none 0 0)))]⟩ (v_move (.inr rfl) trivial rfl (ble _ _ rfl) rfl) ?_
    refine sq_nil ?_
    refine ht_ret ?_
    cases h
    exact retM_wk (wk_nil (.t 2) (nb 2) 5 rfl) (ret1 rfl (.tmp rfl))
  · refine ht_skip ?_
    refine ht_seq ?_
    refine ht_region ?_
    refine sq_cons ⟨_, [(.b 5, .row false 84 5 (([] : List Version).map eVersion)), (.t 5, .own 5 5 ([] : List Version).length)]⟩ (w_bsl (id := 5) [] ([] : List Version) eVersion rfl trivial rfl (ble _ _ rfl) slT98 zr84 teVersion (ble _ _ rfl) rfl (by kernel_rfl) rfl rfl (by kernel_rfl) (by kernel_rfl)) ?_
    refine sq_cons ⟨_, [(.t 6, .d (.sl 5 (t0.map eVersion)))]⟩ (v_move (.inl rfl) trivial rfl (ble _ _ rfl) rfl) ?_
    obtain ⟨e4, h⟩ := gpos h
    refine sq_cons ⟨_, [(.b 5, .spent), (.b 7, .row false 84 5 ((([] : List Version) ++ t0).map eVersion)), (.t 7, .own 7 5 (([] : List Version) ++ t0).length)]⟩ (w_app 7 ([] : List Version) t0 eVersion rfl rfl trivial rfl (ble _ _ rfl) slT98 elT84 teVersion rfl rfl rfl (.d) rfl e4) ?_
    refine sq_cons ⟨_, [(.t 2, .own 7 5 (([] : List Version) ++ t0).length)]⟩ (v_move (.inr rfl) trivial rfl (ble _ _ rfl) rfl) ?_
    refine sq_nil ?_
    refine ht_ret ?_
    cases h
    exact retM_wk (wk_still_row 7 _ _ _ rfl) (retM_wk (wk_row (.t 2) (nb 2) 7 _ _ _ _ rfl rfl (lm _ _)) (retM_wk (wk_row (.t 7) (nb 7) 7 _ _ _ _ rfl rfl (lm _ _)) (ret1 rfl (.tmp rfl))))
set_option maxRecDepth 100000 in
set_option maxHeartbeats 4000000 in
theorem s87o (k : Nat) (t0 : List Version) (r : (List Version)) (h : F87o k t0 = some r) : Awp.Spec Tryd.prog amb 87 [(.sl 5 (t0.map eVersion))] (.own 84 5 (r.map eVersion)) := by
  rw [F87o] at h
  refine spec_of Tryd.func87 rfl (ble _ _ rfl) fun w0 ok0 lt0 hA => ?_
  refine ht_seq ?_
  refine ht_region ?_
  refine sq_cons ⟨_, [(.t 2, .d (.s (.slice none 0 0)))]⟩ (v_move (.inr rfl) trivial rfl (ble _ _ rfl) rfl) ?_
  refine sq_nil ?_
  refine ht_seq ?_
  refine ht_seq ?_
  refine ht_region ?_
  refine sq_cons ⟨_, [(.t 3, .d (.sl 5 (t0.map eVersion)))]⟩ (v_move (.inl rfl) trivial rfl (ble _ _ rfl) rfl) ?_
  refine sq_nileq rfl trivial rfl (ble _ _ rfl) und98 rfl (fun b1 hb2 => ?_)
  refine sq_nil ?_
  refine ht_cond (b := b1) rfl (fun e3 => ?_) (fun e3 => ?_)
  · obtain rfl : t0 = [] := List.map_eq_nil_iff.1 (hb2 e3)
    replace h : (some ([]) : Option (List Version)) = some r := by (obtain ⟨_, h⟩ := gpos h; cases h; rfl)
    refine ht_seq ?_
    refine ht_region ?_
    refine sq_cons ⟨_, [(.t 2, .d (.s (.slice none 0 0)))]⟩ (v_move (.inr rfl) trivial rfl (ble _ _ rfl) rfl) ?_
    refine sq_nil ?_
    refine ht_ret ?_
    cases h
    exact retM_wk (wk_nilrow (.t 2) (nb 2) 3002 84 5 rfl rfl) (ret_own rfl rfl rfl rfl)
  · refine ht_skip ?_
    refine ht_seq ?_
    refine ht_region ?_
    refine sq_cons ⟨_, [(.b 5, .row false 84 5 (([] : List Version).map eVersion)), (.t 5, .own 5 5 ([] : List Version).length)]⟩ (w_bsl (id := 5) [] ([] : List Version) eVersion rfl trivial rfl (ble _ _ rfl) slT98 zr84 teVersion (ble _ _ rfl) rfl (by kernel_rfl) rfl rfl (by kernel_rfl) (by kernel_rfl)) ?_
    refine sq_cons ⟨_, [(.t 6, .d (.sl 5 (t0.map eVersion)))]⟩ (v_move (.inl rfl) trivial rfl (ble _ _ rfl) rfl) ?_
    obtain ⟨e4, h⟩ := gpos h
    refine sq_cons ⟨_, [(.b 5, .spent), (.b 7, .row false 84 5 ((([] : List Version) ++ t0).map eVersion)), (.t 7, .own 7 5 (([] : List Version) ++ t0).length)]⟩ (w_app 7 ([] : List Version) t0 eVersion rfl rfl trivial rfl (ble _ _ rfl) slT98 elT84 teVersion rfl rfl rfl (.d) rfl e4) ?_
    refine sq_cons ⟨_, [(.t 2, .own 7 5 (([] : List Version) ++ t0).length)]⟩ (v_move (.inr rfl) trivial rfl (ble _ _ rfl) rfl) ?_
    refine sq_nil ?_
    refine ht_ret ?_
    cases h
    exact ret_own rfl rfl rfl (lm _ _)
set_option maxRecDepth 100000 in
set_option maxHeartbeats 4000000 in
theorem s67 (k : Nat) (t0 : List Version) (t1 : Version) (r : (List Version) × Int) (h : F67 k t0 t1 = some r) : Awp.Spec Tryd.prog amb 67 [(.sl 5 (t0.map eVersion)), (.agg (eVersion t1))] (.ds [(.sl 5 (r.1.map eVersion)), (.s (.int .i64 r.2))]) := by
  rw [F67] at h
  refine spec_of Tryd.func67 rfl (ble _ _ rfl) fun w0 ok0 lt0 hA => ?_
  refine ht_seq ?_
  refine ht_region ?_
  refine sq_cons ⟨_, [(.t 3, .d (.dp (eVersion t1)))]⟩ (v_box_d (cs := (eVersion t1)) rfl trivial rfl (ble _ _ rfl) rfl rfl (ones_of rfl)) ?_
  refine sq_cons ⟨_, [(.t 4, .d (.s (.slice none 0 0)))]⟩ (v_move (.inr rfl) trivial rfl (ble _ _ rfl) rfl) ?_
  refine sq_cons ⟨_, [(.t 5, iV 0)]⟩ (v_move (.inr rfl) trivial rfl (ble _ _ rfl) rfl) ?_
  refine sq_nil ?_
  refine ht_seq ?_
  refine ht_block ?_
  refine ht_seq ?_
  refine ht_region ?_
  refine sq_cons ⟨_, [(.t 7, .d (.sl 5 (t0.map eVersion)))]⟩ (v_move (.inl rfl) trivial rfl (ble _ _ rfl) rfl) ?_
  obtain ⟨t8, c1, h⟩ := bpos h
  refine sq_cons ⟨_, [(.t 8, bV t8)]⟩ (w_call (ds := [(.sl 5 (t0.map eVersion))]) (caps := []) (l := [(.s (.bool t8))]) (s79 k t0 _ c1) rfl rfl rfl en79 trivial rfl (ble _ _ rfl) (.inl ⟨rfl, rfl⟩) rfl rfl) ?_
  refine sq_cons ⟨_, [(.t 9, bV (!t8))]⟩ (v_un rfl trivial rfl (ble _ _ rfl) rfl (u_not rfl)) ?_
  refine sq_cons ⟨_, [(.t 10, bV (!t8))]⟩ (v_move (.inl rfl) trivial rfl (ble _ _ rfl) rfl) ?_
  refine sq_cons ⟨_, [(.t 11, mg (!(!t8)) (.d (.agg (eVersion t1))))]⟩ (v_cF rfl rfl rfl (ble _ _ rfl) rfl fun e2 => (w_ldp (eVersion t1) (eVersion t1) rfl ⟨_, rfl, be e2⟩ rfl (ble _ _ rfl) ag84 rfl (ble _ _ rfl) rfl)) ?_
  obtain ⟨t12, c4, h⟩ := bpos h
  refine sq_cons ⟨_, [(.t 12, mg (!(!t8)) (bV t12))]⟩ (v_cF rfl rfl rfl (ble _ _ rfl) rfl fun e3 => (w_call (ds := [(.agg (eVersion t1))]) (caps := []) (l := [(.s (.bool t12))]) (s86 k t1 _ (cpos (nF e3) c4)) rfl rfl rfl en86 ⟨_, rfl, be e3⟩ rfl (ble _ _ rfl) (.inl ⟨rfl, rfl⟩) (cc (gv (nF e3)) rfl) rfl)) ?_
  refine sq_cons ⟨_, [(.t 13, mg (!(!t8)) (bV (!t12)))]⟩ (v_cF rfl rfl rfl (ble _ _ rfl) rfl fun e5 => (v_un rfl ⟨_, rfl, be e5⟩ rfl (ble _ _ rfl) (gv (nF e5)) (u_not rfl))) ?_
  refine sq_cons ⟨_, [(.t 14, bV ((!t8) || (!t12)))]⟩ (v_pickB rfl trivial rfl (ble _ _ rfl) rfl (fun e6 => rfl) (fun e7 => (gv (nF e7))) (pO _ _)) ?_
  refine sq_cons ⟨_, [(.t 6, bV ((!t8) || (!t12)))]⟩ (v_move (.inr rfl) trivial rfl (ble _ _ rfl) rfl) ?_
  refine sq_nil ?_
  refine ht_cond (b := ((!t8) || (!t12))) rfl (fun e8 => ?_) (fun e8 => ?_)
  · replace h := cpos e8 h
    refine ht_seq ?_
    refine ht_region ?_
    refine sq_cons ⟨_, [(.t 4, .d (.s (.slice none 0 0)))]⟩ (v_move (.inr rfl) trivial rfl (ble _ _ rfl) rfl) ?_
    refine sq_cons ⟨_, [(.t 5, iV 1)]⟩ (v_move (.inr rfl) trivial rfl (ble _ _ rfl) rfl) ?_
    refine sq_nil ?_
    refine ht_ret ?_
    cases h
    exact retM_wk (wk_nil (.t 4) (nb 4) 5 rfl) (ret2 rfl (.tmp rfl) (.tmp rfl))
  · replace h := cneg e8 h
    refine ht_seq ?_
    refine ht_region_draw mixed ?_
    refine rg_cons ⟨_, [(.t 16, .d (.sl 5 (t0.map eVersion)))]⟩ (v_move (.inl rfl) trivial rfl (ble _ _ rfl) rfl) ?_
    refine rg_cons ⟨_, [(.t 17, iV (t0.length : Int))]⟩ (w_len t0 eVersion rfl rfl trivial rfl (ble _ _ rfl) slT98 rfl) ?_
    refine rg_cons ⟨_, [(.t 18, bV (ltI 0 (t0.length : Int)))]⟩ (v_bin rfl trivial rfl (ble _ _ rfl) rfl rfl (b_gtr rfl)) ?_
    refine rg_cons ⟨_, [(.t 19, bV (ltI 0 (t0.length : Int)))]⟩ (v_move (.inl rfl) trivial rfl (ble _ _ rfl) rfl) ?_
    refine rg_cons ⟨_, [(.t 20, mg (ltI 0 (t0.length : Int)) (.d (.sl 5 (t0.map eVersion))))]⟩ (v_cT rfl rfl rfl (ble _ _ rfl) rfl fun e9 => (v_move (.inl rfl) ⟨_, rfl, be e9⟩ rfl (ble _ _ rfl) rfl)) ?_
    refine rg_cons ⟨_, [(.t 21, mg (ltI 0 (t0.length : Int)) (.d (.sl 5 (t0.map eVersion))))]⟩ (v_cT rfl rfl rfl (ble _ _ rfl) rfl fun e10 => (v_move (.inl rfl) ⟨_, rfl, be e10⟩ rfl (ble _ _ rfl) rfl)) ?_
    refine rg_cons ⟨_, [(.t 22, mg (ltI 0 (t0.length : Int)) (iV (t0.length : Int)))]⟩ (v_cT rfl rfl rfl (ble _ _ rfl) rfl fun e11 => (w_len t0 eVersion rfl rfl ⟨_, rfl, be e11⟩ rfl (ble _ _ rfl) slT98 (gv e11))) ?_
    refine rg_cons ⟨_, [(.t 23, mg (ltI 0 (t0.length : Int)) (iV (IntKind.wrap .i64 ((t0.length : Int) - 1))))]⟩ (v_cT rfl rfl rfl (ble _ _ rfl) rfl fun e12 => (v_bin rfl ⟨_, rfl, be e12⟩ rfl (ble _ _ rfl) (gv e12) rfl (b_sub rfl))) ?_
    obtain ⟨e14, h⟩ := gpos h
    refine rg_cons ⟨_, [(.t 24, mg (ltI 0 (t0.length : Int)) (.d (.dp (eVersion (rd t0 (IntKind.wrap .i64 ((t0.length : Int) - 1)))))))]⟩ (v_cT rfl rfl rfl (ble _ _ rfl) rfl fun e13 => (w_idx t0 eVersion rfl ⟨_, rfl, be e13⟩ rfl (ble _ _ rfl) slT98 (gv e13) (gv e13) (orT e14 e13))) ?_
    refine rg_cons ⟨_, [(.t 25, mg (ltI 0 (t0.length : Int)) (.d (.dp (eVersion (rd t0 (IntKind.wrap .i64 ((t0.length : Int) - 1)))))))]⟩ (v_cT rfl rfl rfl (ble _ _ rfl) rfl fun e15 => (v_field_dp (a0 := 0) (cs := (eVersion (rd t0 (IntKind.wrap .i64 ((t0.length : Int) - 1))))) rfl ⟨_, rfl, be e15⟩ rfl (ble _ _ rfl) fo84_0 (gv e15))) ?_
    refine rg_cons ⟨_, [(.t 26, mg (ltI 0 (t0.length : Int)) (.d (.agg (eStamp (rd t0 (IntKind.wrap .i64 ((t0.length : Int) - 1))).mAt))))]⟩ (v_cT rfl rfl rfl (ble _ _ rfl) rfl fun e16 => (w_ldp (eVersion (rd t0 (IntKind.wrap .i64 ((t0.length : Int) - 1)))) (eStamp (rd t0 (IntKind.wrap .i64 ((t0.length : Int) - 1))).mAt) rfl ⟨_, rfl, be e16⟩ rfl (ble _ _ rfl) ag23 (gv e16) (ble _ _ rfl) rfl)) ?_
    refine rg_cons ⟨_, [(.t 27, mg (ltI 0 (t0.length : Int)) (.d (.dp (eVersion t1))))]⟩ (v_cT rfl rfl rfl (ble _ _ rfl) rfl fun e17 => (v_field_dp (a0 := 0) (cs := (eVersion t1)) rfl ⟨_, rfl, be e17⟩ rfl (ble _ _ rfl) fo84_0 rfl)) ?_
    refine rg_cons ⟨_, [(.t 28, mg (ltI 0 (t0.length : Int)) (.d (.agg (eStamp t1.mAt))))]⟩ (v_cT rfl rfl rfl (ble _ _ rfl) rfl fun e18 => (w_ldp (eVersion t1) (eStamp t1.mAt) rfl ⟨_, rfl, be e18⟩ rfl (ble _ _ rfl) ag23 (gv e18) (ble _ _ rfl) rfl)) ?_
    obtain ⟨t29, c20, h⟩ := bpos h
    refine rg_cons ⟨_, [(.t 29, mg (ltI 0 (t0.length : Int)) (iV t29))]⟩ (v_cT rfl rfl rfl (ble _ _ rfl) rfl fun e19 => (w_call (ds := [(.agg (eStamp (rd t0 (IntKind.wrap .i64 ((t0.length : Int) - 1))).mAt)), (.agg (eStamp t1.mAt))]) (caps := []) (l := [(.s (.int .i64 t29))]) (s29 k (rd t0 (IntKind.wrap .i64 ((t0.length : Int) - 1))).mAt t1.mAt _ (cpos e19 c20)) rfl rfl rfl en29 ⟨_, rfl, be e19⟩ rfl (ble _ _ rfl) (.inl ⟨rfl, rfl⟩) (cc (gv e19) (cc (gv e19) rfl)) rfl)) ?_
    refine rg_cons ⟨_, [(.t 30, mg (ltI 0 (t0.length : Int)) (bV (leI 0 t29)))]⟩ (v_cT rfl rfl rfl (ble _ _ rfl) rfl fun e21 => (v_bin rfl ⟨_, rfl, be e21⟩ rfl (ble _ _ rfl) (gv e21) rfl (b_geq rfl))) ?_
    refine rg_cons ⟨_, [(.t 31, bV ((ltI 0 (t0.length : Int)) && (leI 0 t29)))]⟩ (v_pickB rfl trivial rfl (ble _ _ rfl) rfl (fun e22 => (gv e22)) (fun e23 => rfl) (pA _ _)) ?_
    refine rg_cons ⟨_, [(.t 15, bV ((ltI 0 (t0.length : Int)) && (leI 0 t29)))]⟩ (v_move (.inr rfl) trivial rfl (ble _ _ rfl) rfl) ?_
    refine rg_nil ⟨by kernel_rfl, ?_⟩
    refine ht_cond (b := ((ltI 0 (t0.length : Int)) && (leI 0 t29))) rfl (fun e24 => ?_) (fun e24 => ?_)
    · replace h := cpos e24 h
      refine ht_seq ?_
      refine ht_region ?_
      refine sq_cons ⟨_, [(.t 4, .d (.s (.slice none 0 0)))]⟩ (v_move (.inr rfl) trivial rfl (ble _ _ rfl) rfl) ?_
      refine sq_cons ⟨_, [(.t 5, iV 9)]⟩ (v_move (.inr rfl) trivial rfl (ble _ _ rfl) rfl) ?_
      refine sq_nil ?_
      refine ht_ret ?_
      cases h
      exact retM_wk (wk_nil (.t 4) (nb 4) 5 rfl) (ret2 rfl (.tmp rfl) (.tmp rfl))
    · replace h := cneg e24 h
      refine ht_seq ?_
      refine ht_region ?_
      refine sq_cons ⟨_, [(.t 33, .d (.sl 5 (t0.map eVersion)))]⟩ (v_move (.inl rfl) trivial rfl (ble _ _ rfl) rfl) ?_
      refine sq_cons ⟨_, [(.t 34, iV (t0.length : Int))]⟩ (w_len t0 eVersion rfl rfl trivial rfl (ble _ _ rfl) slT98 rfl) ?_
      refine sq_cons ⟨_, [(.t 35, bV (eqI (t0.length : Int) 64))]⟩ (v_bin rfl trivial rfl (ble _ _ rfl) rfl rfl (b_eql rfl)) ?_
      refine sq_cons ⟨_, [(.t 32, bV (eqI (t0.length : Int) 64))]⟩ (v_move (.inr rfl) trivial rfl (ble _ _ rfl) rfl) ?_
      refine sq_nil ?_
      refine ht_cond (b := (eqI (t0.length : Int) 64)) rfl (fun e25 => ?_) (fun e25 => ?_)
      · replace h := cpos e25 h
        refine ht_seq ?_
        refine ht_region ?_
        refine sq_cons ⟨_, [(.t 4, .d (.s (.slice none 0 0)))]⟩ (v_move (.inr rfl) trivial rfl (ble _ _ rfl) rfl) ?_
        refine sq_cons ⟨_, [(.t 5, iV 6)]⟩ (v_move (.inr rfl) trivial rfl (ble _ _ rfl) rfl) ?_
        refine sq_nil ?_
        refine ht_ret ?_
        cases h
        exact retM_wk (wk_nil (.t 4) (nb 4) 5 rfl) (ret2 rfl (.tmp rfl) (.tmp rfl))
      · replace h := cneg e25 h
        refine ht_skip ?_
        refine ht_seq ?_
        refine ht_region_draw mixed ?_
        refine rg_cons ⟨_, [(.t 36, .d (.sl 5 (t0.map eVersion)))]⟩ (v_move (.inl rfl) trivial rfl (ble _ _ rfl) rfl) ?_
        obtain ⟨t37, c26, h⟩ := bpos h
        refine rg_cons ⟨_, [(.b 37, .row false 84 5 (t37.map eVersion)), (.t 37, .own 37 5 t37.length)]⟩ (w_call_own (id := 37) (ds := [(.sl 5 (t0.map eVersion))]) (caps := []) eVersion (s87o k t0 _ c26) rfl rfl rfl en87 trivial rfl (ble _ _ rfl) (.inl ⟨rfl, rfl⟩) rfl rfl) ?_
        refine rg_cons ⟨_, [(.t 38, .d (.agg (eVersion t1)))]⟩ (w_ldp (eVersion t1) (eVersion t1) rfl trivial rfl (ble _ _ rfl) ag84 rfl (ble _ _ rfl) rfl) ?_
        refine rg_cons ⟨_, [(.b 39, .row false 84 5 (([t1]).map eVersion)), (.t 39, .own 39 5 ([t1]).length)]⟩ (w_bsl (id := 39) [(0, .d (.agg (eVersion t1)))] [t1] eVersion rfl trivial rfl (ble _ _ rfl) slT98 zr84 teVersion (ble _ _ rfl) rfl (by kernel_rfl) rfl rfl (by kernel_rfl) (by kernel_rfl)) ?_
        obtain ⟨e27, h⟩ := gpos h
        refine rg_cons ⟨_, [(.b 37, .spent), (.b 40, .row false 84 5 ((t37 ++ [t1]).map eVersion)), (.t 40, .own 40 5 (t37 ++ [t1]).length)]⟩ (w_app 40 t37 ([t1]) eVersion rfl rfl trivial rfl (ble _ _ rfl) slT98 elT84 teVersion rfl rfl rfl (.own 39 _ _ rfl) rfl e27) ?_
        refine rg_cons ⟨_, [(.t 4, .own 40 5 (t37 ++ [t1]).length)]⟩ (v_move (.inr rfl) trivial rfl (ble _ _ rfl) rfl) ?_
        refine rg_cons ⟨_, [(.t 5, iV 0)]⟩ (v_move (.inr rfl) trivial rfl (ble _ _ rfl) rfl) ?_
        refine rg_nil ⟨by kernel_rfl, ?_⟩
        refine ht_ret ?_
        cases h
        exact retM_wk (wk_still_row 40 _ _ _ rfl) (retM_wk (wk_row (.t 4) (nb 4) 40 _ _ _ _ rfl rfl (lm _ _)) (retM_wk (wk_row (.t 40) (nb 40) 40 _ _ _ _ rfl rfl (lm _ _)) (ret2 rfl (.tmp rfl) (.tmp rfl))))
set_option maxRecDepth 100000 in
set_option maxHeartbeats 4000000 in
theorem s88 (k : Nat) (t0 : List Entry) (r : (List Entry)) (h : F88 k t0 = some r) : Awp.Spec Tryd.prog amb 88 [(.sl 2 (t0.map eEntry))] (.ds [(.sl 2 (r.map eEntry))]) := by
  rw [F88] at h
  refine spec_of Tryd.func88 rfl (ble _ _ rfl) fun w0 ok0 lt0 hA => ?_
  refine ht_seq ?_
  refine ht_region ?_
  refine sq_cons ⟨_, [(.t 2, .d (.s (.slice none 0 0)))]⟩ (v_move (.inr rfl) trivial rfl (ble _ _ rfl) rfl) ?_
  refine sq_nil ?_
  refine ht_seq ?_
  refine ht_seq ?_
  refine ht_region ?_
  refine sq_cons ⟨_, [(.t 3, .d (.sl 2 (t0.map eEntry)))]⟩ (v_move (.inl rfl) trivial rfl (ble _ _ rfl) rfl) ?_
  refine sq_nileq rfl trivial rfl (ble _ _ rfl) und47 rfl (fun b1 hb2 => ?_)
  refine sq_nil ?_
  refine ht_cond (b := b1) rfl (fun e3 => ?_) (fun e3 => ?_)
  · obtain rfl : t0 = [] := List.map_eq_nil_iff.1 (hb2 e3)
    replace h : (some ([] : List Entry) : Option (List Entry)) = some r := by (obtain ⟨_, h⟩ := gpos h; cases h; rfl)
    refine ht_seq ?_
    refine ht_region ?_
    refine sq_cons ⟨_, [(.t 2, .d (.s (.slice none 0 0)))]⟩ (v_move (.inr rfl) trivial rfl (ble _ _ rfl) rfl) ?_
    refine sq_nil ?_
    refine ht_ret ?_
    cases h
    exact retM_wk (wk_nil (.t 2) (nb 2) 2 rfl) (ret1 rfl (.tmp rfl))
  · refine ht_skip ?_
    refine ht_seq ?_
    refine ht_region ?_
    refine sq_cons ⟨_, [(.b 5, .row false 100 2 (([] : List Entry).map eEntry)), (.t 5, .own 5 2 ([] : List Entry).length)]⟩ (w_bsl (id := 5) [] ([] : List Entry) eEntry rfl trivial rfl (ble _ _ rfl) slT47 zr100 teEntry (ble _ _ rfl) rfl (by kernel_rfl) rfl rfl (by kernel_rfl) (by kernel_rfl)) ?_
    refine sq_cons ⟨_, [(.t 6, .d (.sl 2 (t0.map eEntry)))]⟩ (v_move (.inl rfl) trivial rfl (ble _ _ rfl) rfl) ?_
    obtain ⟨e4, h⟩ := gpos h
    refine sq_cons ⟨_, [(.b 5, .spent), (.b 7, .row false 100 2 ((([] : List Entry) ++ t0).map eEntry)), (.t 7, .own 7 2 (([] : List Entry) ++ t0).length)]⟩ (w_app 7 ([] : List Entry) t0 eEntry rfl rfl trivial rfl (ble _ _ rfl) slT47 elT100 teEntry rfl rfl rfl (.d) rfl e4) ?_
    refine sq_cons ⟨_, [(.t 2, .own 7 2 (([] : List Entry) ++ t0).length)]⟩ (v_move (.inr rfl) trivial rfl (ble _ _ rfl) rfl) ?_
    refine sq_nil ?_
    refine ht_ret ?_
    cases h
    exact retM_wk (wk_still_row 7 _ _ _ rfl) (retM_wk (wk_row (.t 2) (nb 2) 7 _ _ _ _ rfl rfl (lm _ _)) (retM_wk (wk_row (.t 7) (nb 7) 7 _ _ _ _ rfl rfl (lm _ _)) (ret1 rfl (.tmp rfl))))
set_option maxRecDepth 100000 in
set_option maxHeartbeats 4000000 in
theorem s88o (k : Nat) (t0 : List Entry) (r : (List Entry)) (h : F88o k t0 = some r) : Awp.Spec Tryd.prog amb 88 [(.sl 2 (t0.map eEntry))] (.own 100 2 (r.map eEntry)) := by
  rw [F88o] at h
  refine spec_of Tryd.func88 rfl (ble _ _ rfl) fun w0 ok0 lt0 hA => ?_
  refine ht_seq ?_
  refine ht_region ?_
  refine sq_cons ⟨_, [(.t 2, .d (.s (.slice none 0 0)))]⟩ (v_move (.inr rfl) trivial rfl (ble _ _ rfl) rfl) ?_
  refine sq_nil ?_
  refine ht_seq ?_
  refine ht_seq ?_
  refine ht_region ?_
  refine sq_cons ⟨_, [(.t 3, .d (.sl 2 (t0.map eEntry)))]⟩ (v_move (.inl rfl) trivial rfl (ble _ _ rfl) rfl) ?_
  refine sq_nileq rfl trivial rfl (ble _ _ rfl) und47 rfl (fun b1 hb2 => ?_)
  refine sq_nil ?_
  refine ht_cond (b := b1) rfl (fun e3 => ?_) (fun e3 => ?_)
  · obtain rfl : t0 = [] := List.map_eq_nil_iff.1 (hb2 e3)
    replace h : (some ([]) : Option (List Entry)) = some r := by (obtain ⟨_, h⟩ := gpos h; cases h; rfl)
    refine ht_seq ?_
    refine ht_region ?_
    refine sq_cons ⟨_, [(.t 2, .d (.s (.slice none 0 0)))]⟩ (v_move (.inr rfl) trivial rfl (ble _ _ rfl) rfl) ?_
    refine sq_nil ?_
    refine ht_ret ?_
    cases h
    exact retM_wk (wk_nilrow (.t 2) (nb 2) 3002 100 2 rfl rfl) (ret_own rfl rfl rfl rfl)
  · refine ht_skip ?_
    refine ht_seq ?_
    refine ht_region ?_
    refine sq_cons ⟨_, [(.b 5, .row false 100 2 (([] : List Entry).map eEntry)), (.t 5, .own 5 2 ([] : List Entry).length)]⟩ (w_bsl (id := 5) [] ([] : List Entry) eEntry rfl trivial rfl (ble _ _ rfl) slT47 zr100 teEntry (ble _ _ rfl) rfl (by kernel_rfl) rfl rfl (by kernel_rfl) (by kernel_rfl)) ?_
    refine sq_cons ⟨_, [(.t 6, .d (.sl 2 (t0.map eEntry)))]⟩ (v_move (.inl rfl) trivial rfl (ble _ _ rfl) rfl) ?_
    obtain ⟨e4, h⟩ := gpos h
    refine sq_cons ⟨_, [(.b 5, .spent), (.b 7, .row false 100 2 ((([] : List Entry) ++ t0).map eEntry)), (.t 7, .own 7 2 (([] : List Entry) ++ t0).length)]⟩ (w_app 7 ([] : List Entry) t0 eEntry rfl rfl trivial rfl (ble _ _ rfl) slT47 elT100 teEntry rfl rfl rfl (.d) rfl e4) ?_
    refine sq_cons ⟨_, [(.t 2, .own 7 2 (([] : List Entry) ++ t0).length)]⟩ (v_move (.inr rfl) trivial rfl (ble _ _ rfl) rfl) ?_
    refine sq_nil ?_
    refine ht_ret ?_
    cases h
    exact ret_own rfl rfl rfl (lm _ _)
end Go.Proofs.Ed
