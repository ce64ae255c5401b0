import Derived.Test.YtidiihhfpbnbaaaDoorCqWalk
import Derived.KernelRfl
set_option linter.unusedVariables false
namespace Go.Proofs.Cq
open Go Go.Awp Go.Proofs
set_option maxRecDepth 100000 in
set_option maxHeartbeats 4000000 in
theorem s35 (k : Nat) (t0 : Span) (t1 : ByteArray) (r : Bool) (h : F35 k t0 t1 = some r) : Awp.Spec Tryd.prog amb 35 [(.agg (eSpan t0)), (.s (.string t1))] (.ds [(.s (.bool r))]) := by
  rw [F35] at h
  refine spec_of Tryd.func35 rfl (ble _ _ rfl) fun w0 ok0 lt0 hA => ?_
  refine ht_seq ?_
  refine ht_region ?_
  refine sq_cons ⟨_, [(.t 2, .d (.dp (eSpan t0)))]⟩ (v_box_d (cs := (eSpan t0)) rfl trivial rfl (ble _ _ rfl) rfl rfl (ones_of rfl)) ?_
  refine sq_cons ⟨_, [(.t 4, bV false)]⟩ (v_move (.inr rfl) trivial rfl (ble _ _ rfl) rfl) ?_
  refine sq_nil ?_
  refine ht_seq ?_
  refine ht_region ?_
  refine sq_cons ⟨_, [(.t 5, .d (.agg (eSpan t0)))]⟩ (w_ldp (eSpan t0) (eSpan t0) rfl trivial rfl (ble _ _ rfl) ag57 rfl (ble _ _ rfl) rfl) ?_
  obtain ⟨t6, c1, h⟩ := bpos h
  refine sq_cons ⟨_, [(.t 6, bV t6)]⟩ (w_call (ds := [(.agg (eSpan t0))]) (caps := []) (l := [(.s (.bool t6))]) (s23 k t0 _ c1) rfl rfl rfl en23 trivial rfl (ble _ _ rfl) (.inl ⟨rfl, rfl⟩) rfl rfl) ?_
  refine sq_cons ⟨_, [(.t 7, bV t6)]⟩ (v_move (.inl rfl) trivial rfl (ble _ _ rfl) rfl) ?_
  refine sq_cons ⟨_, [(.t 8, mg t6 (sV t1))]⟩ (v_cT rfl rfl rfl (ble _ _ rfl) rfl fun e2 => (v_move (.inl rfl) ⟨_, rfl, be e2⟩ rfl (ble _ _ rfl) rfl)) ?_
  obtain ⟨t9, c4, h⟩ := bpos h
  refine sq_cons ⟨_, [(.t 9, mg t6 (bV t9))]⟩ (v_cT rfl rfl rfl (ble _ _ rfl) rfl fun e3 => (w_call (ds := [(.s (.string t1))]) (caps := []) (l := [(.s (.bool t9))]) (s32 k t1 _ (cpos e3 c4)) rfl rfl rfl en32 ⟨_, rfl, be e3⟩ rfl (ble _ _ rfl) (.inl ⟨rfl, rfl⟩) (cc (gv e3) rfl) rfl)) ?_
  refine sq_cons ⟨_, [(.t 10, bV (t6 && t9))]⟩ (v_pickB rfl trivial rfl (ble _ _ rfl) rfl (fun e5 => (gv e5)) (fun e6 => rfl) (pA _ _)) ?_
  refine sq_cons ⟨_, [(.t 11, bV (t6 && t9))]⟩ (v_move (.inl rfl) trivial rfl (ble _ _ rfl) rfl) ?_
  refine sq_cons ⟨_, [(.t 12, mg (t6 && t9) (.d (.dp (eSpan t0))))]⟩ (v_cT rfl rfl rfl (ble _ _ rfl) rfl fun e7 => (v_field_dp (a0 := 0) (cs := (eSpan t0)) rfl ⟨_, rfl, be e7⟩ rfl (ble _ _ rfl) fo57_0 rfl)) ?_
  refine sq_cons ⟨_, [(.t 13, mg (t6 && t9) (sV t0.mLo))]⟩ (v_cT rfl rfl rfl (ble _ _ rfl) rfl fun e8 => (v_load_dp1 rfl ⟨_, rfl, be e8⟩ rfl (ble _ _ rfl) onT9 (gv e8) rfl)) ?_
  refine sq_cons ⟨_, [(.t 14, mg (t6 && t9) (sV t1))]⟩ (v_cT rfl rfl rfl (ble _ _ rfl) rfl fun e9 => (v_move (.inl rfl) ⟨_, rfl, be e9⟩ rfl (ble _ _ rfl) rfl)) ?_
  obtain ⟨t15, c11, h⟩ := bpos h
  refine sq_cons ⟨_, [(.t 15, mg (t6 && t9) (iV t15))]⟩ (v_cT rfl rfl rfl (ble _ _ rfl) rfl fun e10 => (w_call (ds := [(.s (.string t0.mLo)), (.s (.string t1))]) (caps := []) (l := [(.s (.int .i64 t15))]) (s33 k t0.mLo t1 _ (cpos e10 c11)) rfl rfl rfl en33 ⟨_, rfl, be e10⟩ rfl (ble _ _ rfl) (.inl ⟨rfl, rfl⟩) (cc (gv e10) (cc (gv e10) rfl)) rfl)) ?_
  refine sq_cons ⟨_, [(.t 16, mg (t6 && t9) (bV (leI t15 0)))]⟩ (v_cT rfl rfl rfl (ble _ _ rfl) rfl fun e12 => (v_bin rfl ⟨_, rfl, be e12⟩ rfl (ble _ _ rfl) (gv e12) rfl (b_leq rfl))) ?_
  refine sq_cons ⟨_, [(.t 17, bV ((t6 && t9) && (leI t15 0)))]⟩ (v_pickB rfl trivial rfl (ble _ _ rfl) rfl (fun e13 => (gv e13)) (fun e14 => rfl) (pA _ _)) ?_
  refine sq_cons ⟨_, [(.t 18, bV ((t6 && t9) && (leI t15 0)))]⟩ (v_move (.inl rfl) trivial rfl (ble _ _ rfl) rfl) ?_
  refine sq_cons ⟨_, [(.t 19, mg ((t6 && t9) && (leI t15 0)) (.d (.dp (List.drop 1 (eSpan t0)))))]⟩ (v_cT rfl rfl rfl (ble _ _ rfl) rfl fun e15 => (v_field_dp (a0 := 1) (cs := (eSpan t0)) rfl ⟨_, rfl, be e15⟩ rfl (ble _ _ rfl) fo57_1 rfl)) ?_
  refine sq_cons ⟨_, [(.t 20, mg ((t6 && t9) && (leI t15 0)) (sV t0.mHi))]⟩ (v_cT rfl rfl rfl (ble _ _ rfl) rfl fun e16 => (v_load_dp1 rfl ⟨_, rfl, be e16⟩ rfl (ble _ _ rfl) onT9 (gv e16) rfl)) ?_
  refine sq_cons ⟨_, [(.t 21, mg ((t6 && t9) && (leI t15 0)) (bV (strEq t0.mHi (⟨#[]⟩ : ByteArray))))]⟩ (v_cT rfl rfl rfl (ble _ _ rfl) rfl fun e17 => (v_bin rfl ⟨_, rfl, be e17⟩ rfl (ble _ _ rfl) (gv e17) rfl (b_eqS rfl))) ?_
  refine sq_cons ⟨_, [(.t 22, mg ((t6 && t9) && (leI t15 0)) (bV (strEq t0.mHi (⟨#[]⟩ : ByteArray))))]⟩ (v_cT rfl rfl rfl (ble _ _ rfl) rfl fun e18 => (v_move (.inl rfl) ⟨_, rfl, be e18⟩ rfl (ble _ _ rfl) (gv e18))) ?_
  refine sq_cons ⟨_, [(.t 23, mg (((t6 && t9) && (leI t15 0)) && (!(strEq t0.mHi (⟨#[]⟩ : ByteArray)))) (sV t1))]⟩ (v_mF rfl rfl rfl (ble _ _ rfl) rfl fun e19 e20 => (v_move (.inl rfl) ⟨_, rfl, bm e19 e20⟩ rfl (ble _ _ rfl) rfl)) ?_
  refine sq_cons ⟨_, [(.t 24, mg (((t6 && t9) && (leI t15 0)) && (!(strEq t0.mHi (⟨#[]⟩ : ByteArray)))) (.d (.dp (List.drop 1 (eSpan t0)))))]⟩ (v_mF rfl rfl rfl (ble _ _ rfl) rfl fun e21 e22 => (v_field_dp (a0 := 1) (cs := (eSpan t0)) rfl ⟨_, rfl, bm e21 e22⟩ rfl (ble _ _ rfl) fo57_1 rfl)) ?_
  refine sq_cons ⟨_, [(.t 25, mg (((t6 && t9) && (leI t15 0)) && (!(strEq t0.mHi (⟨#[]⟩ : ByteArray)))) (sV t0.mHi))]⟩ (v_mF rfl rfl rfl (ble _ _ rfl) rfl fun e23 e24 => (v_load_dp1 rfl ⟨_, rfl, bm e23 e24⟩ rfl (ble _ _ rfl) onT9 (gv (aT e23 (nF e24))) rfl)) ?_
  obtain ⟨t26, c27, h⟩ := bpos h
  refine sq_cons ⟨_, [(.t 26, mg (((t6 && t9) && (leI t15 0)) && (!(strEq t0.mHi (⟨#[]⟩ : ByteArray)))) (iV t26))]⟩ (v_mF rfl rfl rfl (ble _ _ rfl) rfl fun e25 e26 => (w_call (ds := [(.s (.string t1)), (.s (.string t0.mHi))]) (caps := []) (l := [(.s (.int .i64 t26))]) (s33 k t1 t0.mHi _ (cpos (aT e25 (nF e26)) c27)) rfl rfl rfl en33 ⟨_, rfl, bm e25 e26⟩ rfl (ble _ _ rfl) (.inl ⟨rfl, rfl⟩) (cc (gv (aT e25 (nF e26))) (cc (gv (aT e25 (nF e26))) rfl)) rfl)) ?_
  refine sq_cons ⟨_, [(.t 27, mg (((t6 && t9) && (leI t15 0)) && (!(strEq t0.mHi (⟨#[]⟩ : ByteArray)))) (bV (ltI t26 0)))]⟩ (v_mF rfl rfl rfl (ble _ _ rfl) rfl fun e28 e29 => (v_bin rfl ⟨_, rfl, bm e28 e29⟩ rfl (ble _ _ rfl) (gv (aT e28 (nF e29))) rfl (b_lss rfl))) ?_
  refine sq_cons ⟨_, [(.t 28, mg ((t6 && t9) && (leI t15 0)) (bV ((strEq t0.mHi (⟨#[]⟩ : ByteArray)) || (ltI t26 0))))]⟩ (v_cT rfl rfl rfl (ble _ _ rfl) rfl fun e30 => (v_pickB rfl ⟨_, rfl, be e30⟩ rfl (ble _ _ rfl) (gv e30) (fun e31 => rfl) (fun e32 => (gv (aT e30 (nF e32)))) (pO _ _))) ?_
  refine sq_cons ⟨_, [(.t 29, bV (((t6 && t9) && (leI t15 0)) && ((strEq t0.mHi (⟨#[]⟩ : ByteArray)) || (ltI t26 0))))]⟩ (v_pickB rfl trivial rfl (ble _ _ rfl) rfl (fun e33 => (gv e33)) (fun e34 => rfl) (pA _ _)) ?_
  refine sq_cons ⟨_, [(.t 4, bV (((t6 && t9) && (leI t15 0)) && ((strEq t0.mHi (⟨#[]⟩ : ByteArray)) || (ltI t26 0))))]⟩ (v_move (.inr rfl) trivial rfl (ble _ _ rfl) rfl) ?_
  refine sq_nil ?_
  refine ht_ret ?_
  cases h
  exact ret1 rfl (.tmp rfl)
set_option maxRecDepth 100000 in
set_option maxHeartbeats 4000000 in
theorem s25 (k : Nat) (t0 : List Place) (t1 : ByteArray) (r : Place × Bool) (h : F25 k t0 t1 = some r) : Awp.Spec Tryd.prog amb 25 [(.sl 5 (t0.map ePlace)), (.s (.string t1))] (.ds [(.agg (ePlace r.1)), (.s (.bool r.2))]) := by
  rw [F25] at h
  refine spec_of Tryd.func25 rfl (ble _ _ rfl) fun w0 ok0 lt0 hA => ?_
  refine ht_seq ?_
  refine ht_region ?_
  refine sq_cons _ (v_alloc (id := 4) (cs := zc59) rfl trivial rfl (ble _ _ rfl) zu59 rfl ft59 rfl) ?_
  refine sq_cons ⟨_, [(.t 5, bV false)]⟩ (v_move (.inr rfl) trivial rfl (ble _ _ rfl) rfl) ?_
  refine sq_nil ?_
  refine ht_seq ?_
  refine ht_seq ?_
  refine ht_region ?_
  refine sq_cons ⟨_, [(.t 8, .d (.sl 5 (t0.map ePlace)))]⟩ (v_move (.inl rfl) trivial rfl (ble _ _ rfl) rfl) ?_
  obtain ⟨t9, c1, h⟩ := bpos h
  refine sq_cons ⟨_, [(.t 9, bV t9)]⟩ (w_call (ds := [(.sl 5 (t0.map ePlace))]) (caps := []) (l := [(.s (.bool t9))]) (s30 k t0 _ c1) rfl rfl rfl en30 trivial rfl (ble _ _ rfl) (.inl ⟨rfl, rfl⟩) rfl rfl) ?_
  refine sq_cons ⟨_, [(.t 10, bV (!t9))]⟩ (v_un rfl trivial rfl (ble _ _ rfl) rfl (u_not rfl)) ?_
  refine sq_cons ⟨_, [(.t 11, bV (!t9))]⟩ (v_move (.inl rfl) trivial rfl (ble _ _ rfl) rfl) ?_
  refine sq_cons ⟨_, [(.t 12, mg (!(!t9)) (sV t1))]⟩ (v_cF rfl rfl rfl (ble _ _ rfl) rfl fun e2 => (v_move (.inl rfl) ⟨_, rfl, be e2⟩ rfl (ble _ _ rfl) rfl)) ?_
  refine sq_cons ⟨_, [(.t 13, mg (!(!t9)) (bV (!strEq t1 (⟨#[]⟩ : ByteArray))))]⟩ (v_cF rfl rfl rfl (ble _ _ rfl) rfl fun e3 => (v_bin rfl ⟨_, rfl, be e3⟩ rfl (ble _ _ rfl) (gv (nF e3)) rfl (b_neS rfl))) ?_
  refine sq_cons ⟨_, [(.t 14, mg (!(!t9)) (bV (!strEq t1 (⟨#[]⟩ : ByteArray))))]⟩ (v_cF rfl rfl rfl (ble _ _ rfl) rfl fun e4 => (v_move (.inl rfl) ⟨_, rfl, be e4⟩ rfl (ble _ _ rfl) (gv (nF e4)))) ?_
  refine sq_cons ⟨_, [(.t 15, mg ((!(!t9)) && (!strEq t1 (⟨#[]⟩ : ByteArray))) (sV t1))]⟩ (v_mT rfl rfl rfl (ble _ _ rfl) rfl fun e5 e6 => (v_move (.inl rfl) ⟨_, rfl, bm e5 e6⟩ rfl (ble _ _ rfl) rfl)) ?_
  obtain ⟨t16, c9, h⟩ := bpos h
  refine sq_cons ⟨_, [(.t 16, mg ((!(!t9)) && (!strEq t1 (⟨#[]⟩ : ByteArray))) (bV t16))]⟩ (v_mT rfl rfl rfl (ble _ _ rfl) rfl fun e7 e8 => (w_call (ds := [(.s (.string t1))]) (caps := []) (l := [(.s (.bool t16))]) (s32 k t1 _ (cpos (aT e7 e8) c9)) rfl rfl rfl en32 ⟨_, rfl, bm e7 e8⟩ rfl (ble _ _ rfl) (.inl ⟨rfl, rfl⟩) (cc (gv (aT e7 e8)) rfl) rfl)) ?_
  refine sq_cons ⟨_, [(.t 17, mg ((!(!t9)) && (!strEq t1 (⟨#[]⟩ : ByteArray))) (bV (!t16)))]⟩ (v_mT rfl rfl rfl (ble _ _ rfl) rfl fun e10 e11 => (v_un rfl ⟨_, rfl, bm e10 e11⟩ rfl (ble _ _ rfl) (gv (aT e10 e11)) (u_not rfl))) ?_
  refine sq_cons ⟨_, [(.t 18, mg (!(!t9)) (bV ((!strEq t1 (⟨#[]⟩ : ByteArray)) && (!t16))))]⟩ (v_cF rfl rfl rfl (ble _ _ rfl) rfl fun e12 => (v_pickB rfl ⟨_, rfl, be e12⟩ rfl (ble _ _ rfl) (gv (nF e12)) (fun e13 => (gv (aT (nF e12) e13))) (fun e14 => rfl) (pA _ _))) ?_
  refine sq_cons ⟨_, [(.t 19, bV ((!t9) || ((!strEq t1 (⟨#[]⟩ : ByteArray)) && (!t16))))]⟩ (v_pickB rfl trivial rfl (ble _ _ rfl) rfl (fun e15 => rfl) (fun e16 => (gv (nF e16))) (pO _ _)) ?_
  refine sq_nil ?_
  refine ht_cond (b := ((!t9) || ((!strEq t1 (⟨#[]⟩ : ByteArray)) && (!t16)))) rfl (fun e17 => ?_) (fun e17 => ?_)
  · replace h := cpos e17 h
    refine ht_seq ?_
    refine ht_region ?_
    refine sq_cons ⟨_, [(.t 20, .d (.agg (ePlace (⟨(⟨⟨#[]⟩, ⟨#[]⟩⟩ : Span), 0, 0, 0⟩ : Place))))]⟩ (w_bld zc59 ((ePlace (⟨(⟨⟨#[]⟩, ⟨#[]⟩⟩ : Span), 0, 0, 0⟩ : Place)).map V.d) [] rfl trivial rfl (ble _ _ rfl) zw59 rfl ft59 rfl rfl rfl rfl) ?_
    refine sq_cons _ (v_store_box (id := 4) (off := 0) (cs := (ePlace (⟨(⟨⟨#[]⟩, ⟨#[]⟩⟩ : Span), 0, 0, 0⟩ : Place)).map V.d) rfl trivial rfl sz59 rfl rfl rfl rfl (ones_of rfl) (ble _ _ rfl)) ?_
    refine sq_cons ⟨_, [(.t 5, bV false)]⟩ (v_move (.inr rfl) trivial rfl (ble _ _ rfl) rfl) ?_
    refine sq_nil ?_
    refine ht_ret ?_
    cases h
    exact ret2 rfl (.cell rfl rfl ag59 (ble _ _ rfl) rfl) (.tmp rfl)
  · replace h := cneg e17 h
    refine ht_skip ?_
    refine ht_gj (go_id' h) (fun _ => tell [(.b 4, .box false 5), (.c 4 0, sV (⟨#[]⟩ : ByteArray)), (.c 4 1, sV (⟨#[]⟩ : ByteArray)), (.c 4 2, iV 0), (.c 4 3, iV 0), (.c 4 4, iV 0), (.t 4, .ptr 4 0)]) (fun _ h => ?_) (fun v18 K19 h j21 r22 => ?_)
    · refine ht_seq ?_
      refine ht_region ?_
      refine sq_cons ⟨_, [(.t 37, .d (.agg (ePlace (⟨(⟨⟨#[]⟩, ⟨#[]⟩⟩ : Span), 0, 0, 0⟩ : Place))))]⟩ (w_bld zc59 ((ePlace (⟨(⟨⟨#[]⟩, ⟨#[]⟩⟩ : Span), 0, 0, 0⟩ : Place)).map V.d) [] rfl trivial rfl (ble _ _ rfl) zw59 rfl ft59 rfl rfl rfl rfl) ?_
      refine sq_cons _ (v_store_box (id := 4) (off := 0) (cs := (ePlace (⟨(⟨⟨#[]⟩, ⟨#[]⟩⟩ : Span), 0, 0, 0⟩ : Place)).map V.d) rfl trivial rfl sz59 rfl rfl rfl rfl (ones_of rfl) (ble _ _ rfl)) ?_
      refine sq_cons ⟨_, [(.t 5, bV false)]⟩ (v_move (.inr rfl) trivial rfl (ble _ _ rfl) rfl) ?_
      refine sq_nil ?_
      refine ht_ret ?_
      cases h
      exact ret2 rfl (.cell rfl rfl ag59 (ble _ _ rfl) rfl) (.tmp rfl)
    · refine ht_seq ?_
      refine ht_region ?_
      refine sq_cons ⟨_, [(.t 21, .d (.sl 5 (t0.map ePlace)))]⟩ (v_move (.inl rfl) trivial rfl (ble _ _ rfl) rfl) ?_
      refine sq_cons ⟨_, [(.t 22, iV (t0.length : Int))]⟩ (w_len t0 ePlace rfl rfl trivial rfl (ble _ _ rfl) slT22 rfl) ?_
      refine sq_cons ⟨_, [(.t 23, iV 0)]⟩ (v_move (.inl rfl) trivial rfl (ble _ _ rfl) rfl) ?_
      refine sq_nil ?_
      refine ht_block ?_
      refine ht_rd h (fun _ => rfl) (fun t23 => tell [(.b 4, .box false 5), (.c 4 0, sV (⟨#[]⟩ : ByteArray)), (.c 4 1, sV (⟨#[]⟩ : ByteArray)), (.c 4 2, iV 0), (.c 4 3, iV 0), (.c 4 4, iV 0), (.t 1, sV t1), (.t 4, .ptr 4 0), (.t 21, .d (.sl 5 (t0.map ePlace))), (.t 22, iV (t0.length : Int)), (.t 23, iV t23)]) (wk_ren _ (fun i => i) rfl ⟨rfl, rfl, rfl, rfl, rfl, rfl, rfl, rfl, rfl, rfl, rfl, trivial⟩) fun k t23 h K36 j24 => ?_
      rw [F25_l1] at h
      refine ht_seq ?_
      refine ht_region ?_
      refine sq_cons ⟨_, [(.t 24, bV (ltI t23 (t0.length : Int)))]⟩ (v_bin rfl trivial rfl (ble _ _ rfl) rfl rfl (b_lss rfl)) ?_
      refine sq_nil ?_
      refine ht_seq ?_
      refine ht_cond (b := (ltI t23 (t0.length : Int))) rfl (fun e26 => ?_) (fun e26 => ?_)
      · replace h := cpos e26 h
        refine ht_skip ?_
        refine ht_seq ?_
        refine ht_block ?_
        refine ht_seq ?_
        refine ht_region ?_
        obtain ⟨e27, h⟩ := gpos h
        refine sq_cons ⟨_, [(.t 25, .d (.dp (ePlace (rd t0 t23))))]⟩ (w_idx t0 ePlace rfl trivial rfl (ble _ _ rfl) slT22 rfl rfl e27) ?_
        refine sq_cons ⟨_, [(.t 26, .d (.agg (ePlace (rd t0 t23))))]⟩ (w_ldp (ePlace (rd t0 t23)) (ePlace (rd t0 t23)) rfl trivial rfl (ble _ _ rfl) ag59 rfl (ble _ _ rfl) rfl) ?_
        refine sq_cons _ (v_alloc (id := 7) (cs := zc59) rfl trivial rfl (ble _ _ rfl) zu59 rfl ft59 rfl) ?_
        refine sq_cons _ (v_store_box (id := 7) (off := 0) (cs := (ePlace (rd t0 t23)).map V.d) rfl trivial rfl sz59 rfl rfl rfl rfl (ones_of rfl) (ble _ _ rfl)) ?_
        refine sq_nil ?_
        refine ht_seq ?_
        refine ht_region ?_
        refine sq_cons ⟨_, [(.t 27, sV t1)]⟩ (v_move (.inl rfl) trivial rfl (ble _ _ rfl) rfl) ?_
        refine sq_cons ⟨_, [(.t 28, bV (strEq t1 (⟨#[]⟩ : ByteArray)))]⟩ (v_bin rfl trivial rfl (ble _ _ rfl) rfl rfl (b_eqS rfl)) ?_
        refine sq_cons ⟨_, [(.t 29, bV (strEq t1 (⟨#[]⟩ : ByteArray)))]⟩ (v_move (.inl rfl) trivial rfl (ble _ _ rfl) rfl) ?_
        refine sq_cons ⟨_, [(.t 30, mg (!(strEq t1 (⟨#[]⟩ : ByteArray))) (.ptr 7 0))]⟩ (v_cF rfl rfl rfl (ble _ _ rfl) rfl fun e28 => (v_field_box (off := 0) (a0 := 0) rfl ⟨_, rfl, be e28⟩ rfl (ble _ _ rfl) fo59_0 rfl)) ?_
        refine sq_cons ⟨_, [(.t 31, mg (!(strEq t1 (⟨#[]⟩ : ByteArray))) (.d (.agg (eSpan (rd t0 t23).mSpan))))]⟩ (v_cF rfl rfl rfl (ble _ _ rfl) rfl fun e29 => (w_ldb 7 0 rfl ⟨_, rfl, be e29⟩ rfl (ble _ _ rfl) ag57 (gv (nF e29)) rfl (ble _ _ rfl) rfl)) ?_
        refine sq_cons ⟨_, [(.t 32, mg (!(strEq t1 (⟨#[]⟩ : ByteArray))) (sV t1))]⟩ (v_cF rfl rfl rfl (ble _ _ rfl) rfl fun e30 => (v_move (.inl rfl) ⟨_, rfl, be e30⟩ rfl (ble _ _ rfl) rfl)) ?_
        obtain ⟨t33, c32, h⟩ := bpos h
        refine sq_cons ⟨_, [(.t 33, mg (!(strEq t1 (⟨#[]⟩ : ByteArray))) (bV t33))]⟩ (v_cF rfl rfl rfl (ble _ _ rfl) rfl fun e31 => (w_call (ds := [(.agg (eSpan (rd t0 t23).mSpan)), (.s (.string t1))]) (caps := []) (l := [(.s (.bool t33))]) (s35 k (rd t0 t23).mSpan t1 _ (cpos (nF e31) c32)) rfl rfl rfl en35 ⟨_, rfl, be e31⟩ rfl (ble _ _ rfl) (.inl ⟨rfl, rfl⟩) (cc (gv (nF e31)) (cc (gv (nF e31)) rfl)) rfl)) ?_
        refine sq_cons ⟨_, [(.t 34, bV ((strEq t1 (⟨#[]⟩ : ByteArray)) || t33))]⟩ (v_pickB rfl trivial rfl (ble _ _ rfl) rfl (fun e33 => rfl) (fun e34 => (gv (nF e34))) (pO _ _)) ?_
        refine sq_nil ?_
        refine ht_cond (b := ((strEq t1 (⟨#[]⟩ : ByteArray)) || t33)) rfl (fun e35 => ?_) (fun e35 => ?_)
        · replace h := cpos e35 h
          refine ht_seq ?_
          refine ht_region ?_
          refine sq_cons ⟨_, [(.t 35, .d (.agg (ePlace (rd t0 t23))))]⟩ (w_ldb 7 0 rfl trivial rfl (ble _ _ rfl) ag59 rfl rfl (ble _ _ rfl) rfl) ?_
          refine sq_cons _ (v_store_box (id := 4) (off := 0) (cs := (ePlace (rd t0 t23)).map V.d) rfl trivial rfl sz59 rfl rfl rfl rfl (ones_of rfl) (ble _ _ rfl)) ?_
          refine sq_cons ⟨_, [(.t 5, bV true)]⟩ (v_move (.inr rfl) trivial rfl (ble _ _ rfl) rfl) ?_
          refine sq_nil ?_
          refine ht_ret ?_
          cases h
          cases r22 _ rfl
          exact ret2 rfl (.cell rfl rfl ag59 (ble _ _ rfl) rfl) (.tmp rfl)
        · replace h := cneg e35 h
          refine ht_skip ?_
          refine ht_region ?_
          refine sq_cons ⟨_, [(.t 36, iV (IntKind.wrap .i64 (t23 + 1)))]⟩ (v_bin rfl trivial rfl (ble _ _ rfl) rfl rfl (b_add rfl)) ?_
          refine sq_cons ⟨_, [(.t 23, iV (IntKind.wrap .i64 (t23 + 1)))]⟩ (v_move (.inl rfl) trivial rfl (ble _ _ rfl) rfl) ?_
          refine sq_nil ?_
          exact j24 _ _ h (wk_ren _ (fun i => i) rfl ⟨rfl, rfl, rfl, rfl, rfl, rfl, rfl, rfl, rfl, rfl, rfl, trivial⟩)
      · replace h := cneg e26 h
        refine ht_exit ?_
        refine tq ?_
        refine tq ?_
        refine bq_hit ?_
        cases h
        exact j21 _ _ rfl (wk_ren _ (fun i => i) rfl ⟨rfl, rfl, rfl, rfl, rfl, rfl, rfl, trivial⟩)
set_option maxRecDepth 100000 in
set_option maxHeartbeats 4000000 in
theorem s15 (k : Nat) (t0 : Client) (r : (List Msg)) (h : F15 k t0 = some r) : Awp.Spec Tryd.prog amb 15 [(.agg (eClient t0))] (.ds [(.sl 36 (r.map eMsg))]) := by
  rw [F15] at h
  refine spec_of Tryd.func15 rfl (ble _ _ rfl) fun w0 ok0 lt0 hA => ?_
  refine ht_seq ?_
  refine ht_region ?_
  refine sq_cons ⟨_, [(.t 1, .d (.dp (eClient t0)))]⟩ (v_box_d (cs := (eClient t0)) rfl trivial rfl (ble _ _ rfl) rfl rfl (ones_of rfl)) ?_
  refine sq_cons ⟨_, [(.t 2, .d (.s (.slice none 0 0)))]⟩ (v_move (.inr rfl) trivial rfl (ble _ _ rfl) rfl) ?_
  refine sq_nil ?_
  refine ht_seq ?_
  refine ht_region ?_
  refine sq_cons ⟨_, [(.t 6, .d (.dp (eClient t0)))]⟩ (v_field_dp (a0 := 0) (cs := (eClient t0)) rfl trivial rfl (ble _ _ rfl) fo29_0 rfl) ?_
  refine sq_cons ⟨_, [(.t 7, iV t0.mID)]⟩ (v_load_dp1 rfl trivial rfl (ble _ _ rfl) onT3 rfl rfl) ?_
  refine sq_cons ⟨_, [(.t 8, iV (IntKind.wrap .i64 (10 + t0.mID)))]⟩ (v_bin rfl trivial rfl (ble _ _ rfl) rfl rfl (b_add rfl)) ?_
  refine sq_cons ⟨_, [(.t 9, .d (.agg (eMsg (⟨0, (IntKind.wrap .i64 (10 + t0.mID)), 0, 0, 0, 0, 0, 0, 0, (⟨0, 0, 0⟩ : Stamp), (⟨#[]⟩ : ByteArray), (⟨0, 0, 0, ⟨#[]⟩, ⟨#[]⟩, false, ⟨#[]⟩, (⟨0, 0, 0⟩ : Stamp), ⟨#[]⟩, 0⟩ : Request), (⟨0, (⟨0, 0, 0⟩ : Stamp), false, ⟨#[]⟩, [], ⟨#[]⟩, false⟩ : Answer), ([] : List Place), ([] : List Int)⟩ : Msg))))]⟩ (w_bld zc35 ((eMsg (⟨0, (IntKind.wrap .i64 (10 + t0.mID)), 0, 0, 0, 0, 0, 0, 0, (⟨0, 0, 0⟩ : Stamp), (⟨#[]⟩ : ByteArray), (⟨0, 0, 0, ⟨#[]⟩, ⟨#[]⟩, false, ⟨#[]⟩, (⟨0, 0, 0⟩ : Stamp), ⟨#[]⟩, 0⟩ : Request), (⟨0, (⟨0, 0, 0⟩ : Stamp), false, ⟨#[]⟩, [], ⟨#[]⟩, false⟩ : Answer), ([] : List Place), ([] : List Int)⟩ : Msg)).map V.d) [(1, iV (IntKind.wrap .i64 (10 + t0.mID)))] rfl trivial rfl (ble _ _ rfl) zw35 rfl ft35 rfl rfl rfl rfl) ?_
  refine sq_cons _ (v_alloc (id := 3) (cs := zc35) rfl trivial rfl (ble _ _ rfl) zu35 rfl ft35 rfl) ?_
  refine sq_cons _ (v_store_box (id := 3) (off := 0) (cs := (eMsg (⟨0, (IntKind.wrap .i64 (10 + t0.mID)), 0, 0, 0, 0, 0, 0, 0, (⟨0, 0, 0⟩ : Stamp), (⟨#[]⟩ : ByteArray), (⟨0, 0, 0, ⟨#[]⟩, ⟨#[]⟩, false, ⟨#[]⟩, (⟨0, 0, 0⟩ : Stamp), ⟨#[]⟩, 0⟩ : Request), (⟨0, (⟨0, 0, 0⟩ : Stamp), false, ⟨#[]⟩, [], ⟨#[]⟩, false⟩ : Answer), ([] : List Place), ([] : List Int)⟩ : Msg)).map V.d) rfl trivial rfl sz35 rfl rfl rfl rfl (ones_of rfl) (ble _ _ rfl)) ?_
  refine sq_nil ?_
  refine ht_seq ?_
  refine ht_region ?_
  refine sq_cons ⟨_, [(.t 11, .d (.dp (List.drop 2 (eClient t0))))]⟩ (v_field_dp (a0 := 2) (cs := (eClient t0)) rfl trivial rfl (ble _ _ rfl) fo29_2 rfl) ?_
  refine sq_cons ⟨_, [(.t 12, .d (.sl 5 (t0.mPlaces.map ePlace)))]⟩ (v_load_dp1 rfl trivial rfl (ble _ _ rfl) onT22 rfl rfl) ?_
  refine sq_cons ⟨_, [(.t 13, .d (.dp (List.drop 4 (eClient t0))))]⟩ (v_field_dp (a0 := 4) (cs := (eClient t0)) rfl trivial rfl (ble _ _ rfl) fo29_4 rfl) ?_
  refine sq_cons ⟨_, [(.t 14, .d (.dp (List.drop 7 (eClient t0))))]⟩ (v_field_dp (a0 := 3) (cs := (List.drop 4 (eClient t0))) rfl trivial rfl (ble _ _ rfl) fo27_3 rfl) ?_
  refine sq_cons ⟨_, [(.t 15, sV t0.mReq.mKey)]⟩ (v_load_dp1 rfl trivial rfl (ble _ _ rfl) onT9 rfl rfl) ?_
  obtain ⟨⟨t16a, t16b⟩, c1, h⟩ := bpos h
  refine sq_cons ⟨_, [(.t 16, .tup [.d (.agg (ePlace t16a)), bV t16b])]⟩ (w_call (ds := [(.sl 5 (t0.mPlaces.map ePlace)), (.s (.string t0.mReq.mKey))]) (caps := []) (l := [(.agg (ePlace t16a)), (.s (.bool t16b))]) (s25 k t0.mPlaces t0.mReq.mKey _ c1) rfl rfl rfl en25 trivial rfl (ble _ _ rfl) (.inl ⟨rfl, rfl⟩) rfl rfl) ?_
  refine sq_cons ⟨_, [(.t 10, .tup [.d (.agg (ePlace t16a)), bV t16b])]⟩ (v_move (.inl rfl) trivial rfl (ble _ _ rfl) rfl) ?_
  refine sq_cons ⟨_, [(.t 17, .d (.agg (ePlace t16a)))]⟩ (v_extract rfl trivial rfl (ble _ _ rfl) rfl rfl) ?_
  refine sq_cons ⟨_, [(.t 18, bV t16b)]⟩ (v_extract rfl trivial rfl (ble _ _ rfl) rfl rfl) ?_
  refine sq_cons _ (v_alloc (id := 4) (cs := zc59) rfl trivial rfl (ble _ _ rfl) zu59 rfl ft59 rfl) ?_
  refine sq_cons _ (v_store_box (id := 4) (off := 0) (cs := (ePlace t16a).map V.d) rfl trivial rfl sz59 rfl rfl rfl rfl (ones_of rfl) (ble _ _ rfl)) ?_
  refine sq_cons ⟨_, [(.t 5, bV t16b)]⟩ (v_move (.inr rfl) trivial rfl (ble _ _ rfl) rfl) ?_
  refine sq_nil ?_
  refine ht_seq ?_
  refine ht_block ?_
  refine ht_seq ?_
  refine ht_region ?_
  refine sq_cons ⟨_, [(.t 41, .d (.dp (List.drop 16 (eClient t0))))]⟩ (v_field_dp (a0 := 16) (cs := (eClient t0)) rfl trivial rfl (ble _ _ rfl) fo29_5 rfl) ?_
  refine sq_cons ⟨_, [(.t 42, bV t0.mOpens)]⟩ (v_load_dp1 rfl trivial rfl (ble _ _ rfl) onT4 rfl rfl) ?_
  refine sq_cons ⟨_, [(.t 40, bV t0.mOpens)]⟩ (v_move (.inr rfl) trivial rfl (ble _ _ rfl) rfl) ?_
  refine sq_nil ?_
  refine ht_cond (b := t0.mOpens) rfl (fun e2 => ?_) (fun e2 => ?_)
  · replace h := cpos e2 h
    refine ht_region_draw mixed ?_
    refine rg_cons ⟨_, [(.t 43, .d (.dp (List.drop 4 (eClient t0))))]⟩ (v_field_dp (a0 := 4) (cs := (eClient t0)) rfl trivial rfl (ble _ _ rfl) fo29_4 rfl) ?_
    refine rg_cons ⟨_, [(.t 44, .d (.dp (List.drop 5 (eClient t0))))]⟩ (v_field_dp (a0 := 1) (cs := (List.drop 4 (eClient t0))) rfl trivial rfl (ble _ _ rfl) fo27_1 rfl) ?_
    refine rg_cons ⟨_, [(.t 45, iV t0.mReq.mReq)]⟩ (v_load_dp1 rfl trivial rfl (ble _ _ rfl) onT3 rfl rfl) ?_
    refine rg_cons ⟨_, [(.t 46, .d (.dp (List.drop 4 (eClient t0))))]⟩ (v_field_dp (a0 := 4) (cs := (eClient t0)) rfl trivial rfl (ble _ _ rfl) fo29_4 rfl) ?_
    refine rg_cons ⟨_, [(.t 47, .d (.agg (eRequest t0.mReq)))]⟩ (w_ldp (List.drop 4 (eClient t0)) (eRequest t0.mReq) rfl trivial rfl (ble _ _ rfl) ag27 rfl (ble _ _ rfl) rfl) ?_
    refine rg_cons ⟨_, [(.t 48, .ptr 3 0)]⟩ (v_field_box (off := 0) (a0 := 0) rfl trivial rfl (ble _ _ rfl) fo35_0 rfl) ?_
    refine rg_cons _ (v_store_box (id := 3) (off := 0) (cs := [(.s (.int .i64 5))].map V.d) rfl trivial rfl sz3 rfl rfl rfl rfl (ones_of rfl) (ble _ _ rfl)) ?_
    refine rg_cons ⟨_, [(.t 49, .ptr 3 7)]⟩ (v_field_box (off := 0) (a0 := 7) rfl trivial rfl (ble _ _ rfl) fo35_7 rfl) ?_
    refine rg_cons _ (v_store_box (id := 3) (off := 7) (cs := [(.s (.int .i64 t0.mReq.mReq))].map V.d) rfl trivial rfl sz3 rfl rfl rfl rfl (ones_of rfl) (ble _ _ rfl)) ?_
    refine rg_cons ⟨_, [(.t 50, .ptr 3 13)]⟩ (v_field_box (off := 0) (a0 := 13) rfl trivial rfl (ble _ _ rfl) fo35_11 rfl) ?_
    refine rg_cons _ (v_store_box (id := 3) (off := 13) (cs := (eRequest t0.mReq).map V.d) rfl trivial rfl sz27 rfl rfl rfl rfl (ones_of rfl) (ble _ _ rfl)) ?_
    refine rg_nil ⟨by kernel_rfl, ?_⟩
    refine ht_seq ?_
    refine ht_region ?_
    refine sq_cons ⟨_, [(.t 55, .d (.agg (eMsg (⟨5, (IntKind.wrap .i64 (10 + t0.mID)), 0, 0, 0, 0, 0, t0.mReq.mReq, 0, (⟨0, 0, 0⟩ : Stamp), (⟨#[]⟩ : ByteArray), t0.mReq, (⟨0, (⟨0, 0, 0⟩ : Stamp), false, (⟨#[]⟩ : ByteArray), ([] : List Item), (⟨#[]⟩ : ByteArray), false⟩ : Answer), ([] : List Place), ([] : List Int)⟩ : Msg))))]⟩ (w_ldb 3 0 rfl trivial rfl (ble _ _ rfl) ag35 rfl rfl (ble _ _ rfl) rfl) ?_
    refine sq_cons ⟨_, [(.b 56, .row false 35 36 (([(⟨5, (IntKind.wrap .i64 (10 + t0.mID)), 0, 0, 0, 0, 0, t0.mReq.mReq, 0, (⟨0, 0, 0⟩ : Stamp), (⟨#[]⟩ : ByteArray), t0.mReq, (⟨0, (⟨0, 0, 0⟩ : Stamp), false, (⟨#[]⟩ : ByteArray), ([] : List Item), (⟨#[]⟩ : ByteArray), false⟩ : Answer), ([] : List Place), ([] : List Int)⟩ : Msg)]).map eMsg)), (.t 56, .own 56 36 ([(⟨5, (IntKind.wrap .i64 (10 + t0.mID)), 0, 0, 0, 0, 0, t0.mReq.mReq, 0, (⟨0, 0, 0⟩ : Stamp), (⟨#[]⟩ : ByteArray), t0.mReq, (⟨0, (⟨0, 0, 0⟩ : Stamp), false, (⟨#[]⟩ : ByteArray), ([] : List Item), (⟨#[]⟩ : ByteArray), false⟩ : Answer), ([] : List Place), ([] : List Int)⟩ : Msg)]).length)]⟩ (w_bsl (id := 56) [(0, .d (.agg (eMsg (⟨5, (IntKind.wrap .i64 (10 + t0.mID)), 0, 0, 0, 0, 0, t0.mReq.mReq, 0, (⟨0, 0, 0⟩ : Stamp), (⟨#[]⟩ : ByteArray), t0.mReq, (⟨0, (⟨0, 0, 0⟩ : Stamp), false, (⟨#[]⟩ : ByteArray), ([] : List Item), (⟨#[]⟩ : ByteArray), false⟩ : Answer), ([] : List Place), ([] : List Int)⟩ : Msg))))] [(⟨5, (IntKind.wrap .i64 (10 + t0.mID)), 0, 0, 0, 0, 0, t0.mReq.mReq, 0, (⟨0, 0, 0⟩ : Stamp), (⟨#[]⟩ : ByteArray), t0.mReq, (⟨0, (⟨0, 0, 0⟩ : Stamp), false, (⟨#[]⟩ : ByteArray), ([] : List Item), (⟨#[]⟩ : ByteArray), false⟩ : Answer), ([] : List Place), ([] : List Int)⟩ : Msg)] eMsg rfl trivial rfl (ble _ _ rfl) slT39 zr35 teMsg (ble _ _ rfl) rfl (by kernel_rfl) rfl rfl (by kernel_rfl) (by kernel_rfl)) ?_
    refine sq_cons ⟨_, [(.t 2, .own 56 36 ([(⟨5, (IntKind.wrap .i64 (10 + t0.mID)), 0, 0, 0, 0, 0, t0.mReq.mReq, 0, (⟨0, 0, 0⟩ : Stamp), (⟨#[]⟩ : ByteArray), t0.mReq, (⟨0, (⟨0, 0, 0⟩ : Stamp), false, (⟨#[]⟩ : ByteArray), ([] : List Item), (⟨#[]⟩ : ByteArray), false⟩ : Answer), ([] : List Place), ([] : List Int)⟩ : Msg)]).length)]⟩ (v_move (.inr rfl) trivial rfl (ble _ _ rfl) rfl) ?_
    refine sq_nil ?_
    refine ht_ret ?_
    cases h
    exact retM_wk (wk_still_row 56 _ _ _ rfl) (retM_wk (wk_row (.t 2) (nb 2) 56 _ _ _ _ rfl rfl (lm _ _)) (retM_wk (wk_row (.t 56) (nb 56) 56 _ _ _ _ rfl rfl (lm _ _)) (ret1 rfl (.tmp rfl))))
  · replace h := cneg e2 h
    refine ht_seq ?_
    refine ht_region ?_
    refine sq_cons ⟨_, [(.t 52, bV t16b)]⟩ (v_move (.inl rfl) trivial rfl (ble _ _ rfl) rfl) ?_
    refine sq_cons ⟨_, [(.t 53, bV (!t16b))]⟩ (v_un rfl trivial rfl (ble _ _ rfl) rfl (u_not rfl)) ?_
    refine sq_cons ⟨_, [(.t 51, bV (!t16b))]⟩ (v_move (.inr rfl) trivial rfl (ble _ _ rfl) rfl) ?_
    refine sq_nil ?_
    refine ht_cond (b := (!t16b)) rfl (fun e3 => ?_) (fun e3 => ?_)
    · replace h := cpos e3 h
      refine ht_region ?_
      refine sq_cons ⟨_, [(.t 54, .ptr 3 0)]⟩ (v_field_box (off := 0) (a0 := 0) rfl trivial rfl (ble _ _ rfl) fo35_0 rfl) ?_
      refine sq_cons _ (v_store_box (id := 3) (off := 0) (cs := [(.s (.int .i64 3))].map V.d) rfl trivial rfl sz3 rfl rfl rfl rfl (ones_of rfl) (ble _ _ rfl)) ?_
      refine sq_nil ?_
      refine ht_seq ?_
      refine ht_region ?_
      refine sq_cons ⟨_, [(.t 55, .d (.agg (eMsg (⟨3, (IntKind.wrap .i64 (10 + t0.mID)), 0, 0, 0, 0, 0, 0, 0, (⟨0, 0, 0⟩ : Stamp), (⟨#[]⟩ : ByteArray), (⟨0, 0, 0, (⟨#[]⟩ : ByteArray), (⟨#[]⟩ : ByteArray), false, (⟨#[]⟩ : ByteArray), (⟨0, 0, 0⟩ : Stamp), (⟨#[]⟩ : ByteArray), 0⟩ : Request), (⟨0, (⟨0, 0, 0⟩ : Stamp), false, (⟨#[]⟩ : ByteArray), ([] : List Item), (⟨#[]⟩ : ByteArray), false⟩ : Answer), ([] : List Place), ([] : List Int)⟩ : Msg))))]⟩ (w_ldb 3 0 rfl trivial rfl (ble _ _ rfl) ag35 rfl rfl (ble _ _ rfl) rfl) ?_
      refine sq_cons ⟨_, [(.b 56, .row false 35 36 (([(⟨3, (IntKind.wrap .i64 (10 + t0.mID)), 0, 0, 0, 0, 0, 0, 0, (⟨0, 0, 0⟩ : Stamp), (⟨#[]⟩ : ByteArray), (⟨0, 0, 0, (⟨#[]⟩ : ByteArray), (⟨#[]⟩ : ByteArray), false, (⟨#[]⟩ : ByteArray), (⟨0, 0, 0⟩ : Stamp), (⟨#[]⟩ : ByteArray), 0⟩ : Request), (⟨0, (⟨0, 0, 0⟩ : Stamp), false, (⟨#[]⟩ : ByteArray), ([] : List Item), (⟨#[]⟩ : ByteArray), false⟩ : Answer), ([] : List Place), ([] : List Int)⟩ : Msg)]).map eMsg)), (.t 56, .own 56 36 ([(⟨3, (IntKind.wrap .i64 (10 + t0.mID)), 0, 0, 0, 0, 0, 0, 0, (⟨0, 0, 0⟩ : Stamp), (⟨#[]⟩ : ByteArray), (⟨0, 0, 0, (⟨#[]⟩ : ByteArray), (⟨#[]⟩ : ByteArray), false, (⟨#[]⟩ : ByteArray), (⟨0, 0, 0⟩ : Stamp), (⟨#[]⟩ : ByteArray), 0⟩ : Request), (⟨0, (⟨0, 0, 0⟩ : Stamp), false, (⟨#[]⟩ : ByteArray), ([] : List Item), (⟨#[]⟩ : ByteArray), false⟩ : Answer), ([] : List Place), ([] : List Int)⟩ : Msg)]).length)]⟩ (w_bsl (id := 56) [(0, .d (.agg (eMsg (⟨3, (IntKind.wrap .i64 (10 + t0.mID)), 0, 0, 0, 0, 0, 0, 0, (⟨0, 0, 0⟩ : Stamp), (⟨#[]⟩ : ByteArray), (⟨0, 0, 0, (⟨#[]⟩ : ByteArray), (⟨#[]⟩ : ByteArray), false, (⟨#[]⟩ : ByteArray), (⟨0, 0, 0⟩ : Stamp), (⟨#[]⟩ : ByteArray), 0⟩ : Request), (⟨0, (⟨0, 0, 0⟩ : Stamp), false, (⟨#[]⟩ : ByteArray), ([] : List Item), (⟨#[]⟩ : ByteArray), false⟩ : Answer), ([] : List Place), ([] : List Int)⟩ : Msg))))] [(⟨3, (IntKind.wrap .i64 (10 + t0.mID)), 0, 0, 0, 0, 0, 0, 0, (⟨0, 0, 0⟩ : Stamp), (⟨#[]⟩ : ByteArray), (⟨0, 0, 0, (⟨#[]⟩ : ByteArray), (⟨#[]⟩ : ByteArray), false, (⟨#[]⟩ : ByteArray), (⟨0, 0, 0⟩ : Stamp), (⟨#[]⟩ : ByteArray), 0⟩ : Request), (⟨0, (⟨0, 0, 0⟩ : Stamp), false, (⟨#[]⟩ : ByteArray), ([] : List Item), (⟨#[]⟩ : ByteArray), false⟩ : Answer), ([] : List Place), ([] : List Int)⟩ : Msg)] eMsg rfl trivial rfl (ble _ _ rfl) slT39 zr35 teMsg (ble _ _ rfl) rfl (by kernel_rfl) rfl rfl (by kernel_rfl) (by kernel_rfl)) ?_
      refine sq_cons ⟨_, [(.t 2, .own 56 36 ([(⟨3, (IntKind.wrap .i64 (10 + t0.mID)), 0, 0, 0, 0, 0, 0, 0, (⟨0, 0, 0⟩ : Stamp), (⟨#[]⟩ : ByteArray), (⟨0, 0, 0, (⟨#[]⟩ : ByteArray), (⟨#[]⟩ : ByteArray), false, (⟨#[]⟩ : ByteArray), (⟨0, 0, 0⟩ : Stamp), (⟨#[]⟩ : ByteArray), 0⟩ : Request), (⟨0, (⟨0, 0, 0⟩ : Stamp), false, (⟨#[]⟩ : ByteArray), ([] : List Item), (⟨#[]⟩ : ByteArray), false⟩ : Answer), ([] : List Place), ([] : List Int)⟩ : Msg)]).length)]⟩ (v_move (.inr rfl) trivial rfl (ble _ _ rfl) rfl) ?_
      refine sq_nil ?_
      refine ht_ret ?_
      cases h
      exact retM_wk (wk_still_row 56 _ _ _ rfl) (retM_wk (wk_row (.t 2) (nb 2) 56 _ _ _ _ rfl rfl (lm _ _)) (retM_wk (wk_row (.t 56) (nb 56) 56 _ _ _ _ rfl rfl (lm _ _)) (ret1 rfl (.tmp rfl))))
    · replace h := cneg e3 h
      refine ht_region_draw mixed ?_
      refine rg_cons ⟨_, [(.t 19, .d (.dp (List.drop 3 (eClient t0))))]⟩ (v_field_dp (a0 := 3) (cs := (eClient t0)) rfl trivial rfl (ble _ _ rfl) fo29_3 rfl) ?_
      refine rg_cons ⟨_, [(.t 20, .d (.sl 1 (t0.mLeads.map (eI .i64))))]⟩ (v_load_dp1 rfl trivial rfl (ble _ _ rfl) onT23 rfl rfl) ?_
      refine rg_cons ⟨_, [(.t 21, .ptr 4 3)]⟩ (v_field_box (off := 0) (a0 := 3) rfl trivial rfl (ble _ _ rfl) fo59_2 rfl) ?_
      refine rg_cons ⟨_, [(.t 22, iV t16a.mCell)]⟩ (v_load_box1 (id := 4) (off := 3) rfl trivial rfl (ble _ _ rfl) onT3 rfl rfl (ble _ _ rfl) rfl) ?_
      refine rg_cons ⟨_, [(.t 23, iV (IntKind.wrap .i64 (t16a.mCell - 1)))]⟩ (v_bin rfl trivial rfl (ble _ _ rfl) rfl rfl (b_sub rfl)) ?_
      obtain ⟨e4, h⟩ := gpos h
      refine rg_cons ⟨_, [(.t 24, .d (.dp [(.s (.int .i64 (rd t0.mLeads (IntKind.wrap .i64 (t16a.mCell - 1)))))]))]⟩ (w_idx t0.mLeads (eI .i64) rfl trivial rfl (ble _ _ rfl) slT23 rfl rfl e4) ?_
      refine rg_cons ⟨_, [(.t 25, iV (rd t0.mLeads (IntKind.wrap .i64 (t16a.mCell - 1))))]⟩ (v_load_dp1 rfl trivial rfl (ble _ _ rfl) onT3 rfl rfl) ?_
      refine rg_cons ⟨_, [(.t 26, .ptr 4 3)]⟩ (v_field_box (off := 0) (a0 := 3) rfl trivial rfl (ble _ _ rfl) fo59_2 rfl) ?_
      refine rg_cons ⟨_, [(.t 27, iV t16a.mCell)]⟩ (v_load_box1 (id := 4) (off := 3) rfl trivial rfl (ble _ _ rfl) onT3 rfl rfl (ble _ _ rfl) rfl) ?_
      refine rg_cons ⟨_, [(.t 28, .ptr 4 2)]⟩ (v_field_box (off := 0) (a0 := 2) rfl trivial rfl (ble _ _ rfl) fo59_1 rfl) ?_
      refine rg_cons ⟨_, [(.t 29, iV t16a.mShard)]⟩ (v_load_box1 (id := 4) (off := 2) rfl trivial rfl (ble _ _ rfl) onT3 rfl rfl (ble _ _ rfl) rfl) ?_
      refine rg_cons ⟨_, [(.t 30, .ptr 4 4)]⟩ (v_field_box (off := 0) (a0 := 4) rfl trivial rfl (ble _ _ rfl) fo59_3 rfl) ?_
      refine rg_cons ⟨_, [(.t 31, iV t16a.mEpoch)]⟩ (v_load_box1 (id := 4) (off := 4) rfl trivial rfl (ble _ _ rfl) onT3 rfl rfl (ble _ _ rfl) rfl) ?_
      refine rg_cons ⟨_, [(.t 32, .d (.dp (List.drop 4 (eClient t0))))]⟩ (v_field_dp (a0 := 4) (cs := (eClient t0)) rfl trivial rfl (ble _ _ rfl) fo29_4 rfl) ?_
      refine rg_cons ⟨_, [(.t 33, .d (.agg (eRequest t0.mReq)))]⟩ (w_ldp (List.drop 4 (eClient t0)) (eRequest t0.mReq) rfl trivial rfl (ble _ _ rfl) ag27 rfl (ble _ _ rfl) rfl) ?_
      refine rg_cons ⟨_, [(.t 34, .ptr 3 0)]⟩ (v_field_box (off := 0) (a0 := 0) rfl trivial rfl (ble _ _ rfl) fo35_0 rfl) ?_
      refine rg_cons _ (v_store_box (id := 3) (off := 0) (cs := [(.s (.int .i64 1))].map V.d) rfl trivial rfl sz3 rfl rfl rfl rfl (ones_of rfl) (ble _ _ rfl)) ?_
      refine rg_cons ⟨_, [(.t 35, .ptr 3 2)]⟩ (v_field_box (off := 0) (a0 := 2) rfl trivial rfl (ble _ _ rfl) fo35_2 rfl) ?_
      refine rg_cons _ (v_store_box (id := 3) (off := 2) (cs := [(.s (.int .i64 (rd t0.mLeads (IntKind.wrap .i64 (t16a.mCell - 1)))))].map V.d) rfl trivial rfl sz3 rfl rfl rfl rfl (ones_of rfl) (ble _ _ rfl)) ?_
      refine rg_cons ⟨_, [(.t 36, .ptr 3 7)]⟩ (v_field_box (off := 0) (a0 := 7) rfl trivial rfl (ble _ _ rfl) fo35_7 rfl) ?_
      refine rg_cons _ (v_store_box (id := 3) (off := 7) (cs := [(.s (.int .i64 t16a.mCell))].map V.d) rfl trivial rfl sz3 rfl rfl rfl rfl (ones_of rfl) (ble _ _ rfl)) ?_
      refine rg_cons ⟨_, [(.t 37, .ptr 3 3)]⟩ (v_field_box (off := 0) (a0 := 3) rfl trivial rfl (ble _ _ rfl) fo35_3 rfl) ?_
      refine rg_cons _ (v_store_box (id := 3) (off := 3) (cs := [(.s (.int .i64 t16a.mShard))].map V.d) rfl trivial rfl sz3 rfl rfl rfl rfl (ones_of rfl) (ble _ _ rfl)) ?_
      refine rg_cons ⟨_, [(.t 38, .ptr 3 4)]⟩ (v_field_box (off := 0) (a0 := 4) rfl trivial rfl (ble _ _ rfl) fo35_4 rfl) ?_
      refine rg_cons _ (v_store_box (id := 3) (off := 4) (cs := [(.s (.int .i64 t16a.mEpoch))].map V.d) rfl trivial rfl sz3 rfl rfl rfl rfl (ones_of rfl) (ble _ _ rfl)) ?_
      refine rg_cons ⟨_, [(.t 39, .ptr 3 13)]⟩ (v_field_box (off := 0) (a0 := 13) rfl trivial rfl (ble _ _ rfl) fo35_11 rfl) ?_
      refine rg_cons _ (v_store_box (id := 3) (off := 13) (cs := (eRequest t0.mReq).map V.d) rfl trivial rfl sz27 rfl rfl rfl rfl (ones_of rfl) (ble _ _ rfl)) ?_
      refine rg_nil ⟨by kernel_rfl, ?_⟩
      refine ht_seq ?_
      refine ht_region ?_
      refine sq_cons ⟨_, [(.t 55, .d (.agg (eMsg (⟨1, (IntKind.wrap .i64 (10 + t0.mID)), (rd t0.mLeads (IntKind.wrap .i64 (t16a.mCell - 1))), t16a.mShard, t16a.mEpoch, 0, 0, t16a.mCell, 0, (⟨0, 0, 0⟩ : Stamp), (⟨#[]⟩ : ByteArray), t0.mReq, (⟨0, (⟨0, 0, 0⟩ : Stamp), false, (⟨#[]⟩ : ByteArray), ([] : List Item), (⟨#[]⟩ : ByteArray), false⟩ : Answer), ([] : List Place), ([] : List Int)⟩ : Msg))))]⟩ (w_ldb 3 0 rfl trivial rfl (ble _ _ rfl) ag35 rfl rfl (ble _ _ rfl) rfl) ?_
      refine sq_cons ⟨_, [(.b 56, .row false 35 36 (([(⟨1, (IntKind.wrap .i64 (10 + t0.mID)), (rd t0.mLeads (IntKind.wrap .i64 (t16a.mCell - 1))), t16a.mShard, t16a.mEpoch, 0, 0, t16a.mCell, 0, (⟨0, 0, 0⟩ : Stamp), (⟨#[]⟩ : ByteArray), t0.mReq, (⟨0, (⟨0, 0, 0⟩ : Stamp), false, (⟨#[]⟩ : ByteArray), ([] : List Item), (⟨#[]⟩ : ByteArray), false⟩ : Answer), ([] : List Place), ([] : List Int)⟩ : Msg)]).map eMsg)), (.t 56, .own 56 36 ([(⟨1, (IntKind.wrap .i64 (10 + t0.mID)), (rd t0.mLeads (IntKind.wrap .i64 (t16a.mCell - 1))), t16a.mShard, t16a.mEpoch, 0, 0, t16a.mCell, 0, (⟨0, 0, 0⟩ : Stamp), (⟨#[]⟩ : ByteArray), t0.mReq, (⟨0, (⟨0, 0, 0⟩ : Stamp), false, (⟨#[]⟩ : ByteArray), ([] : List Item), (⟨#[]⟩ : ByteArray), false⟩ : Answer), ([] : List Place), ([] : List Int)⟩ : Msg)]).length)]⟩ (w_bsl (id := 56) [(0, .d (.agg (eMsg (⟨1, (IntKind.wrap .i64 (10 + t0.mID)), (rd t0.mLeads (IntKind.wrap .i64 (t16a.mCell - 1))), t16a.mShard, t16a.mEpoch, 0, 0, t16a.mCell, 0, (⟨0, 0, 0⟩ : Stamp), (⟨#[]⟩ : ByteArray), t0.mReq, (⟨0, (⟨0, 0, 0⟩ : Stamp), false, (⟨#[]⟩ : ByteArray), ([] : List Item), (⟨#[]⟩ : ByteArray), false⟩ : Answer), ([] : List Place), ([] : List Int)⟩ : Msg))))] [(⟨1, (IntKind.wrap .i64 (10 + t0.mID)), (rd t0.mLeads (IntKind.wrap .i64 (t16a.mCell - 1))), t16a.mShard, t16a.mEpoch, 0, 0, t16a.mCell, 0, (⟨0, 0, 0⟩ : Stamp), (⟨#[]⟩ : ByteArray), t0.mReq, (⟨0, (⟨0, 0, 0⟩ : Stamp), false, (⟨#[]⟩ : ByteArray), ([] : List Item), (⟨#[]⟩ : ByteArray), false⟩ : Answer), ([] : List Place), ([] : List Int)⟩ : Msg)] eMsg rfl trivial rfl (ble _ _ rfl) slT39 zr35 teMsg (ble _ _ rfl) rfl (by kernel_rfl) rfl rfl (by kernel_rfl) (by kernel_rfl)) ?_
      refine sq_cons ⟨_, [(.t 2, .own 56 36 ([(⟨1, (IntKind.wrap .i64 (10 + t0.mID)), (rd t0.mLeads (IntKind.wrap .i64 (t16a.mCell - 1))), t16a.mShard, t16a.mEpoch, 0, 0, t16a.mCell, 0, (⟨0, 0, 0⟩ : Stamp), (⟨#[]⟩ : ByteArray), t0.mReq, (⟨0, (⟨0, 0, 0⟩ : Stamp), false, (⟨#[]⟩ : ByteArray), ([] : List Item), (⟨#[]⟩ : ByteArray), false⟩ : Answer), ([] : List Place), ([] : List Int)⟩ : Msg)]).length)]⟩ (v_move (.inr rfl) trivial rfl (ble _ _ rfl) rfl) ?_
      refine sq_nil ?_
      refine ht_ret ?_
      cases h
      exact retM_wk (wk_still_row 56 _ _ _ rfl) (retM_wk (wk_row (.t 2) (nb 2) 56 _ _ _ _ rfl rfl (lm _ _)) (retM_wk (wk_row (.t 56) (nb 56) 56 _ _ _ _ rfl rfl (lm _ _)) (ret1 rfl (.tmp rfl))))
set_option maxRecDepth 100000 in
set_option maxHeartbeats 4000000 in
theorem s7 (k : Nat) (t0 : Client) (r : Client × (List Msg) × Told) (h : F7 k t0 = some r) : Awp.Spec Tryd.prog amb 7 [(.agg (eClient t0))] (.ds [(.agg (eClient r.1)), (.sl 36 (r.2.1.map eMsg)), (.agg (eTold r.2.2))]) := by
  rw [F7] at h
  refine spec_of Tryd.func7 rfl (ble _ _ rfl) fun w0 ok0 lt0 hA => ?_
  refine ht_seq ?_
  refine ht_region ?_
  refine sq_cons _ (v_box (id := 1) (cs := (eClient t0).map V.d) rfl trivial rfl (ble _ _ rfl) rfl rfl (ones_of rfl) rfl) ?_
  refine sq_cons _ (v_alloc (id := 2) (cs := zc29) rfl trivial rfl (ble _ _ rfl) zu29 rfl ft29 rfl) ?_
  refine sq_cons ⟨_, [(.t 3, .d (.s (.slice none 0 0)))]⟩ (v_move (.inr rfl) trivial rfl (ble _ _ rfl) rfl) ?_
  refine sq_cons _ (v_alloc (id := 4) (cs := zc41) rfl trivial rfl (ble _ _ rfl) zu41 rfl ft41 rfl) ?_
  refine sq_nil ?_
  refine ht_seq ?_
  refine ht_block ?_
  refine ht_seq ?_
  refine ht_region ?_
  refine sq_cons ⟨_, [(.t 6, .d (.agg (eClient t0)))]⟩ (w_ldb 1 0 rfl trivial rfl (ble _ _ rfl) ag29 rfl rfl (ble _ _ rfl) rfl) ?_
  obtain ⟨t7, c1, h⟩ := bpos h
  refine sq_cons ⟨_, [(.t 7, bV t7)]⟩ (w_call (ds := [(.agg (eClient t0))]) (caps := []) (l := [(.s (.bool t7))]) (s13 k t0 _ c1) rfl rfl rfl en13 trivial rfl (ble _ _ rfl) (.inl ⟨rfl, rfl⟩) rfl rfl) ?_
  refine sq_cons ⟨_, [(.t 8, bV (!t7))]⟩ (v_un rfl trivial rfl (ble _ _ rfl) rfl (u_not rfl)) ?_
  refine sq_cons ⟨_, [(.t 9, bV (!t7))]⟩ (v_move (.inl rfl) trivial rfl (ble _ _ rfl) rfl) ?_
  refine sq_cons ⟨_, [(.t 10, mg (!(!t7)) (.ptr 1 4))]⟩ (v_cF rfl rfl rfl (ble _ _ rfl) rfl fun e2 => (v_field_box (off := 0) (a0 := 4) rfl ⟨_, rfl, be e2⟩ rfl (ble _ _ rfl) fo29_4 rfl)) ?_
  refine sq_cons ⟨_, [(.t 11, mg (!(!t7)) (.ptr 1 5))]⟩ (v_cF rfl rfl rfl (ble _ _ rfl) rfl fun e3 => (v_field_box (off := 4) (a0 := 1) rfl ⟨_, rfl, be e3⟩ rfl (ble _ _ rfl) fo27_1 (gv (nF e3)))) ?_
  refine sq_cons ⟨_, [(.t 12, mg (!(!t7)) (iV t0.mReq.mReq))]⟩ (v_cF rfl rfl rfl (ble _ _ rfl) rfl fun e4 => (v_load_box1 (id := 1) (off := 5) rfl ⟨_, rfl, be e4⟩ rfl (ble _ _ rfl) onT3 (gv (nF e4)) rfl (ble _ _ rfl) rfl)) ?_
  refine sq_cons ⟨_, [(.t 13, mg (!(!t7)) (bV (eqI t0.mReq.mReq 0)))]⟩ (v_cF rfl rfl rfl (ble _ _ rfl) rfl fun e5 => (v_bin rfl ⟨_, rfl, be e5⟩ rfl (ble _ _ rfl) (gv (nF e5)) rfl (b_eql rfl))) ?_
  refine sq_cons ⟨_, [(.t 14, bV ((!t7) || (eqI t0.mReq.mReq 0)))]⟩ (v_pickB rfl trivial rfl (ble _ _ rfl) rfl (fun e6 => rfl) (fun e7 => (gv (nF e7))) (pO _ _)) ?_
  refine sq_cons ⟨_, [(.t 5, bV ((!t7) || (eqI t0.mReq.mReq 0)))]⟩ (v_move (.inr rfl) trivial rfl (ble _ _ rfl) rfl) ?_
  refine sq_nil ?_
  refine ht_cond (b := ((!t7) || (eqI t0.mReq.mReq 0))) rfl (fun e8 => ?_) (fun e8 => ?_)
  · replace h := cpos e8 h
    refine ht_seq ?_
    refine ht_region ?_
    refine sq_cons ⟨_, [(.t 15, .d (.agg (eClient t0)))]⟩ (w_ldb 1 0 rfl trivial rfl (ble _ _ rfl) ag29 rfl rfl (ble _ _ rfl) rfl) ?_
    refine sq_cons ⟨_, [(.t 16, .d (.agg (eTold (⟨false, (⟨0, 0, 0, ⟨#[]⟩, ⟨#[]⟩, false, ⟨#[]⟩, (⟨0, 0, 0⟩ : Stamp), ⟨#[]⟩, 0⟩ : Request), false, (⟨0, (⟨0, 0, 0⟩ : Stamp), false, ⟨#[]⟩, [], ⟨#[]⟩, false⟩ : Answer), 0⟩ : Told))))]⟩ (w_bld zc41 ((eTold (⟨false, (⟨0, 0, 0, ⟨#[]⟩, ⟨#[]⟩, false, ⟨#[]⟩, (⟨0, 0, 0⟩ : Stamp), ⟨#[]⟩, 0⟩ : Request), false, (⟨0, (⟨0, 0, 0⟩ : Stamp), false, ⟨#[]⟩, [], ⟨#[]⟩, false⟩ : Answer), 0⟩ : Told)).map V.d) [] rfl trivial rfl (ble _ _ rfl) zw41 rfl ft41 rfl rfl rfl rfl) ?_
    refine sq_cons _ (v_store_box (id := 2) (off := 0) (cs := (eClient t0).map V.d) rfl trivial rfl sz29 rfl rfl rfl rfl (ones_of rfl) (ble _ _ rfl)) ?_
    refine sq_cons ⟨_, [(.t 3, .d (.s (.slice none 0 0)))]⟩ (v_move (.inr rfl) trivial rfl (ble _ _ rfl) rfl) ?_
    refine sq_cons _ (v_store_box (id := 4) (off := 0) (cs := (eTold (⟨false, (⟨0, 0, 0, ⟨#[]⟩, ⟨#[]⟩, false, ⟨#[]⟩, (⟨0, 0, 0⟩ : Stamp), ⟨#[]⟩, 0⟩ : Request), false, (⟨0, (⟨0, 0, 0⟩ : Stamp), false, ⟨#[]⟩, [], ⟨#[]⟩, false⟩ : Answer), 0⟩ : Told)).map V.d) rfl trivial rfl sz41 rfl rfl rfl rfl (ones_of rfl) (ble _ _ rfl)) ?_
    refine sq_nil ?_
    refine ht_ret ?_
    cases h
    exact retM_wk (wk_nil (.t 3) (nb 3) 36 rfl) (ret3 rfl (.cell rfl rfl ag29 (ble _ _ rfl) rfl) (.tmp rfl) (.cell rfl rfl ag41 (ble _ _ rfl) rfl))
  · replace h := cneg e8 h
    refine ht_seq ?_
    refine ht_region ?_
    refine sq_cons ⟨_, [(.t 18, .ptr 1 17)]⟩ (v_field_box (off := 0) (a0 := 17) rfl trivial rfl (ble _ _ rfl) fo29_6 rfl) ?_
    refine sq_cons ⟨_, [(.t 19, iV t0.mTries)]⟩ (v_load_box1 (id := 1) (off := 17) rfl trivial rfl (ble _ _ rfl) onT3 rfl rfl (ble _ _ rfl) rfl) ?_
    refine sq_cons ⟨_, [(.t 20, bV (eqI t0.mTries 0))]⟩ (v_bin rfl trivial rfl (ble _ _ rfl) rfl rfl (b_eql rfl)) ?_
    refine sq_cons ⟨_, [(.t 17, bV (eqI t0.mTries 0))]⟩ (v_move (.inr rfl) trivial rfl (ble _ _ rfl) rfl) ?_
    refine sq_nil ?_
    refine ht_cond (b := (eqI t0.mTries 0)) rfl (fun e9 => ?_) (fun e9 => ?_)
    · replace h := cpos e9 h
      refine ht_seq ?_
      refine ht_region ?_
      refine sq_cons ⟨_, [(.t 21, .d (.agg (eClient t0)))]⟩ (w_ldb 1 0 rfl trivial rfl (ble _ _ rfl) ag29 rfl rfl (ble _ _ rfl) rfl) ?_
      refine sq_cons ⟨_, [(.t 22, .d (.agg (eAnswer (⟨14, (⟨0, 0, 0⟩ : Stamp), false, (⟨#[]⟩ : ByteArray), ([] : List Item), (⟨#[]⟩ : ByteArray), false⟩ : Answer))))]⟩ (w_bld zc33 ((eAnswer (⟨14, (⟨0, 0, 0⟩ : Stamp), false, (⟨#[]⟩ : ByteArray), ([] : List Item), (⟨#[]⟩ : ByteArray), false⟩ : Answer)).map V.d) [(0, iV 14)] rfl trivial rfl (ble _ _ rfl) zw33 rfl ft33 rfl rfl rfl rfl) ?_
      obtain ⟨⟨t23a, t23b, t23c⟩, c10, h⟩ := bpos h
      refine sq_cons ⟨_, [(.t 23, .tup [.d (.agg (eClient t23a)), .d (.sl 36 (t23b.map eMsg)), .d (.agg (eTold t23c))])]⟩ (w_call (ds := [(.agg (eClient t0)), (.agg (eAnswer (⟨14, (⟨0, 0, 0⟩ : Stamp), false, (⟨#[]⟩ : ByteArray), ([] : List Item), (⟨#[]⟩ : ByteArray), false⟩ : Answer))), (.s (.int .i64 0))]) (caps := []) (l := [(.agg (eClient t23a)), (.sl 36 (t23b.map eMsg)), (.agg (eTold t23c))]) (s14 k t0 (⟨14, (⟨0, 0, 0⟩ : Stamp), false, (⟨#[]⟩ : ByteArray), ([] : List Item), (⟨#[]⟩ : ByteArray), false⟩ : Answer) 0 _ c10) rfl rfl rfl en14 trivial rfl (ble _ _ rfl) (.inl ⟨rfl, rfl⟩) rfl rfl) ?_
      refine sq_cons ⟨_, [(.t 24, .d (.agg (eClient t23a)))]⟩ (v_extract rfl trivial rfl (ble _ _ rfl) rfl rfl) ?_
      refine sq_cons ⟨_, [(.t 25, .d (.sl 36 (t23b.map eMsg)))]⟩ (v_extract rfl trivial rfl (ble _ _ rfl) rfl rfl) ?_
      refine sq_cons ⟨_, [(.t 26, .d (.agg (eTold t23c)))]⟩ (v_extract rfl trivial rfl (ble _ _ rfl) rfl rfl) ?_
      refine sq_cons _ (v_store_box (id := 2) (off := 0) (cs := (eClient t23a).map V.d) rfl trivial rfl sz29 rfl rfl rfl rfl (ones_of rfl) (ble _ _ rfl)) ?_
      refine sq_cons ⟨_, [(.t 3, .d (.sl 36 (t23b.map eMsg)))]⟩ (v_move (.inr rfl) trivial rfl (ble _ _ rfl) rfl) ?_
      refine sq_cons _ (v_store_box (id := 4) (off := 0) (cs := (eTold t23c).map V.d) rfl trivial rfl sz41 rfl rfl rfl rfl (ones_of rfl) (ble _ _ rfl)) ?_
      refine sq_nil ?_
      refine ht_ret ?_
      cases h
      exact ret3 rfl (.cell rfl rfl ag29 (ble _ _ rfl) rfl) (.tmp rfl) (.cell rfl rfl ag41 (ble _ _ rfl) rfl)
    · replace h := cneg e9 h
      refine ht_skip ?_
      refine ht_seq ?_
      refine ht_region ?_
      refine sq_cons ⟨_, [(.t 27, .ptr 1 17)]⟩ (v_field_box (off := 0) (a0 := 17) rfl trivial rfl (ble _ _ rfl) fo29_6 rfl) ?_
      refine sq_cons ⟨_, [(.t 28, iV t0.mTries)]⟩ (v_load_box1 (id := 1) (off := 17) rfl trivial rfl (ble _ _ rfl) onT3 rfl rfl (ble _ _ rfl) rfl) ?_
      refine sq_cons ⟨_, [(.t 29, iV (IntKind.wrap .i64 (t0.mTries - 1)))]⟩ (v_bin rfl trivial rfl (ble _ _ rfl) rfl rfl (b_sub rfl)) ?_
      refine sq_cons ⟨_, [(.t 30, .ptr 1 17)]⟩ (v_field_box (off := 0) (a0 := 17) rfl trivial rfl (ble _ _ rfl) fo29_6 rfl) ?_
      refine sq_cons _ (v_store_box (id := 1) (off := 17) (cs := [(.s (.int .i64 (IntKind.wrap .i64 (t0.mTries - 1))))].map V.d) rfl trivial rfl sz3 rfl rfl rfl rfl (ones_of rfl) (ble _ _ rfl)) ?_
      refine sq_nil ?_
      refine ht_seq ?_
      refine ht_region_draw mixed ?_
      refine rg_cons ⟨_, [(.t 31, .d (.agg (eClient ({t0 with mTries := (IntKind.wrap .i64 (t0.mTries - 1))}))))]⟩ (w_ldb 1 0 rfl trivial rfl (ble _ _ rfl) ag29 rfl rfl (ble _ _ rfl) rfl) ?_
      refine rg_cons ⟨_, [(.t 32, .d (.agg (eClient ({t0 with mTries := (IntKind.wrap .i64 (t0.mTries - 1))}))))]⟩ (w_ldb 1 0 rfl trivial rfl (ble _ _ rfl) ag29 rfl rfl (ble _ _ rfl) rfl) ?_
      obtain ⟨t33, c11, h⟩ := bpos h
      refine rg_cons ⟨_, [(.t 33, .d (.sl 36 (t33.map eMsg)))]⟩ (w_call (ds := [(.agg (eClient ({t0 with mTries := (IntKind.wrap .i64 (t0.mTries - 1))})))]) (caps := []) (l := [(.sl 36 (t33.map eMsg))]) (s15 k ({t0 with mTries := (IntKind.wrap .i64 (t0.mTries - 1))}) _ c11) rfl rfl rfl en15 trivial rfl (ble _ _ rfl) (.inl ⟨rfl, rfl⟩) rfl rfl) ?_
      refine rg_cons ⟨_, [(.t 34, .d (.agg (eTold (⟨false, (⟨0, 0, 0, ⟨#[]⟩, ⟨#[]⟩, false, ⟨#[]⟩, (⟨0, 0, 0⟩ : Stamp), ⟨#[]⟩, 0⟩ : Request), false, (⟨0, (⟨0, 0, 0⟩ : Stamp), false, ⟨#[]⟩, [], ⟨#[]⟩, false⟩ : Answer), 0⟩ : Told))))]⟩ (w_bld zc41 ((eTold (⟨false, (⟨0, 0, 0, ⟨#[]⟩, ⟨#[]⟩, false, ⟨#[]⟩, (⟨0, 0, 0⟩ : Stamp), ⟨#[]⟩, 0⟩ : Request), false, (⟨0, (⟨0, 0, 0⟩ : Stamp), false, ⟨#[]⟩, [], ⟨#[]⟩, false⟩ : Answer), 0⟩ : Told)).map V.d) [] rfl trivial rfl (ble _ _ rfl) zw41 rfl ft41 rfl rfl rfl rfl) ?_
      refine rg_cons _ (v_store_box (id := 2) (off := 0) (cs := (eClient ({t0 with mTries := (IntKind.wrap .i64 (t0.mTries - 1))})).map V.d) rfl trivial rfl sz29 rfl rfl rfl rfl (ones_of rfl) (ble _ _ rfl)) ?_
      refine rg_cons ⟨_, [(.t 3, .d (.sl 36 (t33.map eMsg)))]⟩ (v_move (.inr rfl) trivial rfl (ble _ _ rfl) rfl) ?_
      refine rg_cons _ (v_store_box (id := 4) (off := 0) (cs := (eTold (⟨false, (⟨0, 0, 0, ⟨#[]⟩, ⟨#[]⟩, false, ⟨#[]⟩, (⟨0, 0, 0⟩ : Stamp), ⟨#[]⟩, 0⟩ : Request), false, (⟨0, (⟨0, 0, 0⟩ : Stamp), false, ⟨#[]⟩, [], ⟨#[]⟩, false⟩ : Answer), 0⟩ : Told)).map V.d) rfl trivial rfl sz41 rfl rfl rfl rfl (ones_of rfl) (ble _ _ rfl)) ?_
      refine rg_nil ⟨by kernel_rfl, ?_⟩
      refine ht_ret ?_
      cases h
      exact ret3 rfl (.cell rfl rfl ag29 (ble _ _ rfl) rfl) (.tmp rfl) (.cell rfl rfl ag41 (ble _ _ rfl) rfl)
set_option maxRecDepth 100000 in
set_option maxHeartbeats 4000000 in
theorem s6 (k : Nat) (r : Bool) (h : F6 k = some r) : Awp.Spec Tryd.prog amb 6 [] (.ds [(.s (.bool r))]) := by
  rw [F6] at h
  refine spec_of Tryd.func6 rfl (ble _ _ rfl) fun w0 ok0 lt0 hA => ?_
  refine ht_seq ?_
  refine ht_region ?_
  refine sq_cons ⟨_, [(.t 0, bV false)]⟩ (v_move (.inr rfl) trivial rfl (ble _ _ rfl) rfl) ?_
  refine sq_nil ?_
  refine ht_seq ?_
  refine ht_region ?_
  obtain ⟨⟨t7a, t7b⟩, c1, h⟩ := bpos h
  refine sq_cons ⟨_, [(.t 7, .tup [.d (.agg (eClient t7a)), iV t7b])]⟩ (w_call (ds := [(.s (.int .i64 1))]) (caps := []) (l := [(.agg (eClient t7a)), (.s (.int .i64 t7b))]) (s11 k 1 _ c1) rfl rfl rfl en11 trivial rfl (ble _ _ rfl) (.inl ⟨rfl, rfl⟩) rfl rfl) ?_
  refine sq_cons ⟨_, [(.t 6, .tup [.d (.agg (eClient t7a)), iV t7b])]⟩ (v_move (.inl rfl) trivial rfl (ble _ _ rfl) rfl) ?_
  refine sq_cons ⟨_, [(.t 8, .d (.agg (eClient t7a)))]⟩ (v_extract rfl trivial rfl (ble _ _ rfl) rfl rfl) ?_
  refine sq_cons ⟨_, [(.t 9, iV t7b)]⟩ (v_extract rfl trivial rfl (ble _ _ rfl) rfl rfl) ?_
  refine sq_cons _ (v_alloc (id := 1) (cs := zc29) rfl trivial rfl (ble _ _ rfl) zu29 rfl ft29 rfl) ?_
  refine sq_cons _ (v_store_box (id := 1) (off := 0) (cs := (eClient t7a).map V.d) rfl trivial rfl sz29 rfl rfl rfl rfl (ones_of rfl) (ble _ _ rfl)) ?_
  refine sq_cons ⟨_, [(.t 2, iV t7b)]⟩ (v_move (.inr rfl) trivial rfl (ble _ _ rfl) rfl) ?_
  refine sq_nil ?_
  refine ht_seq ?_
  refine ht_region ?_
  refine sq_cons ⟨_, [(.t 11, .d (.agg (eClient t7a)))]⟩ (w_ldb 1 0 rfl trivial rfl (ble _ _ rfl) ag29 rfl rfl (ble _ _ rfl) rfl) ?_
  refine sq_cons ⟨_, [(.t 12, .d (.agg (eRequest (⟨0, 0, 4, (⟨#[97]⟩ : ByteArray), (⟨#[]⟩ : ByteArray), false, (⟨#[]⟩ : ByteArray), (⟨0, 0, 0⟩ : Stamp), (⟨#[]⟩ : ByteArray), 0⟩ : Request))))]⟩ (w_bld zc27 ((eRequest (⟨0, 0, 4, (⟨#[97]⟩ : ByteArray), (⟨#[]⟩ : ByteArray), false, (⟨#[]⟩ : ByteArray), (⟨0, 0, 0⟩ : Stamp), (⟨#[]⟩ : ByteArray), 0⟩ : Request)).map V.d) [(2, iV 4), (3, sV (⟨#[97]⟩ : ByteArray))] rfl trivial rfl (ble _ _ rfl) zw27 rfl ft27 rfl rfl rfl rfl) ?_
  obtain ⟨⟨t13a, t13b⟩, c2, h⟩ := bpos h
  refine sq_cons ⟨_, [(.t 13, .tup [.d (.agg (eClient t13a)), iV t13b])]⟩ (w_call (ds := [(.agg (eClient t7a)), (.agg (eRequest (⟨0, 0, 4, (⟨#[97]⟩ : ByteArray), (⟨#[]⟩ : ByteArray), false, (⟨#[]⟩ : ByteArray), (⟨0, 0, 0⟩ : Stamp), (⟨#[]⟩ : ByteArray), 0⟩ : Request)))]) (caps := []) (l := [(.agg (eClient t13a)), (.s (.int .i64 t13b))]) (s12 k t7a (⟨0, 0, 4, (⟨#[97]⟩ : ByteArray), (⟨#[]⟩ : ByteArray), false, (⟨#[]⟩ : ByteArray), (⟨0, 0, 0⟩ : Stamp), (⟨#[]⟩ : ByteArray), 0⟩ : Request) _ c2) rfl rfl rfl en12 trivial rfl (ble _ _ rfl) (.inl ⟨rfl, rfl⟩) rfl rfl) ?_
  refine sq_cons ⟨_, [(.t 10, .tup [.d (.agg (eClient t13a)), iV t13b])]⟩ (v_move (.inl rfl) trivial rfl (ble _ _ rfl) rfl) ?_
  refine sq_cons ⟨_, [(.t 14, .d (.agg (eClient t13a)))]⟩ (v_extract rfl trivial rfl (ble _ _ rfl) rfl rfl) ?_
  refine sq_cons ⟨_, [(.t 15, iV t13b)]⟩ (v_extract rfl trivial rfl (ble _ _ rfl) rfl rfl) ?_
  refine sq_cons _ (v_store_box (id := 1) (off := 0) (cs := (eClient t13a).map V.d) rfl trivial rfl sz29 rfl rfl rfl rfl (ones_of rfl) (ble _ _ rfl)) ?_
  refine sq_cons ⟨_, [(.t 3, iV t13b)]⟩ (v_move (.inr rfl) trivial rfl (ble _ _ rfl) rfl) ?_
  refine sq_nil ?_
  refine ht_seq ?_
  refine ht_region ?_
  refine sq_cons ⟨_, [(.t 17, .d (.agg (eClient t13a)))]⟩ (w_ldb 1 0 rfl trivial rfl (ble _ _ rfl) ag29 rfl rfl (ble _ _ rfl) rfl) ?_
  obtain ⟨⟨t18a, t18b, t18c⟩, c3, h⟩ := bpos h
  refine sq_cons ⟨_, [(.t 18, .tup [.d (.agg (eClient t18a)), .d (.sl 36 (t18b.map eMsg)), .d (.agg (eTold t18c))])]⟩ (w_call (ds := [(.agg (eClient t13a))]) (caps := []) (l := [(.agg (eClient t18a)), (.sl 36 (t18b.map eMsg)), (.agg (eTold t18c))]) (s7 k t13a _ c3) rfl rfl rfl en7 trivial rfl (ble _ _ rfl) (.inl ⟨rfl, rfl⟩) rfl rfl) ?_
  refine sq_cons ⟨_, [(.t 16, .tup [.d (.agg (eClient t18a)), .d (.sl 36 (t18b.map eMsg)), .d (.agg (eTold t18c))])]⟩ (v_move (.inl rfl) trivial rfl (ble _ _ rfl) rfl) ?_
  refine sq_cons ⟨_, [(.t 19, .d (.agg (eClient t18a)))]⟩ (v_extract rfl trivial rfl (ble _ _ rfl) rfl rfl) ?_
  refine sq_cons ⟨_, [(.t 20, .d (.sl 36 (t18b.map eMsg)))]⟩ (v_extract rfl trivial rfl (ble _ _ rfl) rfl rfl) ?_
  refine sq_cons ⟨_, [(.t 21, .d (.agg (eTold t18c)))]⟩ (v_extract rfl trivial rfl (ble _ _ rfl) rfl rfl) ?_
  refine sq_cons _ (v_alloc (id := 5) (cs := zc41) rfl trivial rfl (ble _ _ rfl) zu41 rfl ft41 rfl) ?_
  refine sq_cons _ (v_store_box (id := 1) (off := 0) (cs := (eClient t18a).map V.d) rfl trivial rfl sz29 rfl rfl rfl rfl (ones_of rfl) (ble _ _ rfl)) ?_
  refine sq_cons ⟨_, [(.t 4, .d (.sl 36 (t18b.map eMsg)))]⟩ (v_move (.inr rfl) trivial rfl (ble _ _ rfl) rfl) ?_
  refine sq_cons _ (v_store_box (id := 5) (off := 0) (cs := (eTold t18c).map V.d) rfl trivial rfl sz41 rfl rfl rfl rfl (ones_of rfl) (ble _ _ rfl)) ?_
  refine sq_nil ?_
  refine ht_seq ?_
  refine ht_region ?_
  refine sq_cons ⟨_, [(.t 22, iV t7b)]⟩ (v_move (.inl rfl) trivial rfl (ble _ _ rfl) rfl) ?_
  refine sq_cons ⟨_, [(.t 23, bV (eqI t7b 0))]⟩ (v_bin rfl trivial rfl (ble _ _ rfl) rfl rfl (b_eql rfl)) ?_
  refine sq_cons ⟨_, [(.t 24, bV (eqI t7b 0))]⟩ (v_move (.inl rfl) trivial rfl (ble _ _ rfl) rfl) ?_
  refine sq_cons ⟨_, [(.t 25, mg (eqI t7b 0) (iV t13b))]⟩ (v_cT rfl rfl rfl (ble _ _ rfl) rfl fun e4 => (v_move (.inl rfl) ⟨_, rfl, be e4⟩ rfl (ble _ _ rfl) rfl)) ?_
  refine sq_cons ⟨_, [(.t 26, mg (eqI t7b 0) (bV (eqI t13b 0)))]⟩ (v_cT rfl rfl rfl (ble _ _ rfl) rfl fun e5 => (v_bin rfl ⟨_, rfl, be e5⟩ rfl (ble _ _ rfl) (gv e5) rfl (b_eql rfl))) ?_
  refine sq_cons ⟨_, [(.t 27, bV ((eqI t7b 0) && (eqI t13b 0)))]⟩ (v_pickB rfl trivial rfl (ble _ _ rfl) rfl (fun e6 => (gv e6)) (fun e7 => rfl) (pA _ _)) ?_
  refine sq_cons ⟨_, [(.t 28, bV ((eqI t7b 0) && (eqI t13b 0)))]⟩ (v_move (.inl rfl) trivial rfl (ble _ _ rfl) rfl) ?_
  refine sq_cons ⟨_, [(.t 29, mg ((eqI t7b 0) && (eqI t13b 0)) (.d (.sl 36 (t18b.map eMsg))))]⟩ (v_cT rfl rfl rfl (ble _ _ rfl) rfl fun e8 => (v_move (.inl rfl) ⟨_, rfl, be e8⟩ rfl (ble _ _ rfl) rfl)) ?_
  refine sq_cons ⟨_, [(.t 30, mg ((eqI t7b 0) && (eqI t13b 0)) (iV (t18b.length : Int)))]⟩ (v_cT rfl rfl rfl (ble _ _ rfl) rfl fun e9 => (w_len t18b eMsg rfl rfl ⟨_, rfl, be e9⟩ rfl (ble _ _ rfl) slT39 (gv e9))) ?_
  refine sq_cons ⟨_, [(.t 31, mg ((eqI t7b 0) && (eqI t13b 0)) (bV (eqI (t18b.length : Int) 1)))]⟩ (v_cT rfl rfl rfl (ble _ _ rfl) rfl fun e10 => (v_bin rfl ⟨_, rfl, be e10⟩ rfl (ble _ _ rfl) (gv e10) rfl (b_eql rfl))) ?_
  refine sq_cons ⟨_, [(.t 32, bV (((eqI t7b 0) && (eqI t13b 0)) && (eqI (t18b.length : Int) 1)))]⟩ (v_pickB rfl trivial rfl (ble _ _ rfl) rfl (fun e11 => (gv e11)) (fun e12 => rfl) (pA _ _)) ?_
  refine sq_cons ⟨_, [(.t 33, bV (((eqI t7b 0) && (eqI t13b 0)) && (eqI (t18b.length : Int) 1)))]⟩ (v_move (.inl rfl) trivial rfl (ble _ _ rfl) rfl) ?_
  refine sq_cons ⟨_, [(.t 34, mg (((eqI t7b 0) && (eqI t13b 0)) && (eqI (t18b.length : Int) 1)) (.d (.sl 36 (t18b.map eMsg))))]⟩ (v_cT rfl rfl rfl (ble _ _ rfl) rfl fun e13 => (v_move (.inl rfl) ⟨_, rfl, be e13⟩ rfl (ble _ _ rfl) rfl)) ?_
  obtain ⟨e15, h⟩ := gpos h
  refine sq_cons ⟨_, [(.t 35, mg (((eqI t7b 0) && (eqI t13b 0)) && (eqI (t18b.length : Int) 1)) (.d (.dp (eMsg (rd t18b 0)))))]⟩ (v_cT rfl rfl rfl (ble _ _ rfl) rfl fun e14 => (w_idx t18b eMsg rfl ⟨_, rfl, be e14⟩ rfl (ble _ _ rfl) slT39 (gv e14) rfl (orT e15 e14))) ?_
  refine sq_cons ⟨_, [(.t 36, mg (((eqI t7b 0) && (eqI t13b 0)) && (eqI (t18b.length : Int) 1)) (.d (.dp (eMsg (rd t18b 0)))))]⟩ (v_cT rfl rfl rfl (ble _ _ rfl) rfl fun e16 => (v_field_dp (a0 := 0) (cs := (eMsg (rd t18b 0))) rfl ⟨_, rfl, be e16⟩ rfl (ble _ _ rfl) fo35_0 (gv e16))) ?_
  refine sq_cons ⟨_, [(.t 37, mg (((eqI t7b 0) && (eqI t13b 0)) && (eqI (t18b.length : Int) 1)) (iV (rd t18b 0).mKind))]⟩ (v_cT rfl rfl rfl (ble _ _ rfl) rfl fun e17 => (v_load_dp1 rfl ⟨_, rfl, be e17⟩ rfl (ble _ _ rfl) onT3 (gv e17) rfl)) ?_
  refine sq_cons ⟨_, [(.t 38, mg (((eqI t7b 0) && (eqI t13b 0)) && (eqI (t18b.length : Int) 1)) (bV (eqI (rd t18b 0).mKind 3)))]⟩ (v_cT rfl rfl rfl (ble _ _ rfl) rfl fun e18 => (v_bin rfl ⟨_, rfl, be e18⟩ rfl (ble _ _ rfl) (gv e18) rfl (b_eql rfl))) ?_
  refine sq_cons ⟨_, [(.t 39, bV ((((eqI t7b 0) && (eqI t13b 0)) && (eqI (t18b.length : Int) 1)) && (eqI (rd t18b 0).mKind 3)))]⟩ (v_pickB rfl trivial rfl (ble _ _ rfl) rfl (fun e19 => (gv e19)) (fun e20 => rfl) (pA _ _)) ?_
  refine sq_cons ⟨_, [(.t 40, bV ((((eqI t7b 0) && (eqI t13b 0)) && (eqI (t18b.length : Int) 1)) && (eqI (rd t18b 0).mKind 3)))]⟩ (v_move (.inl rfl) trivial rfl (ble _ _ rfl) rfl) ?_
  refine sq_cons ⟨_, [(.t 41, mg ((((eqI t7b 0) && (eqI t13b 0)) && (eqI (t18b.length : Int) 1)) && (eqI (rd t18b 0).mKind 3)) (.d (.sl 36 (t18b.map eMsg))))]⟩ (v_cT rfl rfl rfl (ble _ _ rfl) rfl fun e21 => (v_move (.inl rfl) ⟨_, rfl, be e21⟩ rfl (ble _ _ rfl) rfl)) ?_
  obtain ⟨e23, h⟩ := gpos h
  refine sq_cons ⟨_, [(.t 42, mg ((((eqI t7b 0) && (eqI t13b 0)) && (eqI (t18b.length : Int) 1)) && (eqI (rd t18b 0).mKind 3)) (.d (.dp (eMsg (rd t18b 0)))))]⟩ (v_cT rfl rfl rfl (ble _ _ rfl) rfl fun e22 => (w_idx t18b eMsg rfl ⟨_, rfl, be e22⟩ rfl (ble _ _ rfl) slT39 (gv e22) rfl (orT e23 e22))) ?_
  refine sq_cons ⟨_, [(.t 43, mg ((((eqI t7b 0) && (eqI t13b 0)) && (eqI (t18b.length : Int) 1)) && (eqI (rd t18b 0).mKind 3)) (.d (.dp (List.drop 1 (eMsg (rd t18b 0))))))]⟩ (v_cT rfl rfl rfl (ble _ _ rfl) rfl fun e24 => (v_field_dp (a0 := 1) (cs := (eMsg (rd t18b 0))) rfl ⟨_, rfl, be e24⟩ rfl (ble _ _ rfl) fo35_1 (gv e24))) ?_
  refine sq_cons ⟨_, [(.t 44, mg ((((eqI t7b 0) && (eqI t13b 0)) && (eqI (t18b.length : Int) 1)) && (eqI (rd t18b 0).mKind 3)) (iV (rd t18b 0).mFrom))]⟩ (v_cT rfl rfl rfl (ble _ _ rfl) rfl fun e25 => (v_load_dp1 rfl ⟨_, rfl, be e25⟩ rfl (ble _ _ rfl) onT3 (gv e25) rfl)) ?_
  refine sq_cons ⟨_, [(.t 45, mg ((((eqI t7b 0) && (eqI t13b 0)) && (eqI (t18b.length : Int) 1)) && (eqI (rd t18b 0).mKind 3)) (bV (eqI (rd t18b 0).mFrom 11)))]⟩ (v_cT rfl rfl rfl (ble _ _ rfl) rfl fun e26 => (v_bin rfl ⟨_, rfl, be e26⟩ rfl (ble _ _ rfl) (gv e26) rfl (b_eql rfl))) ?_
  refine sq_cons ⟨_, [(.t 46, bV (((((eqI t7b 0) && (eqI t13b 0)) && (eqI (t18b.length : Int) 1)) && (eqI (rd t18b 0).mKind 3)) && (eqI (rd t18b 0).mFrom 11)))]⟩ (v_pickB rfl trivial rfl (ble _ _ rfl) rfl (fun e27 => (gv e27)) (fun e28 => rfl) (pA _ _)) ?_
  refine sq_cons ⟨_, [(.t 47, bV (((((eqI t7b 0) && (eqI t13b 0)) && (eqI (t18b.length : Int) 1)) && (eqI (rd t18b 0).mKind 3)) && (eqI (rd t18b 0).mFrom 11)))]⟩ (v_move (.inl rfl) trivial rfl (ble _ _ rfl) rfl) ?_
  refine sq_cons ⟨_, [(.t 48, mg (((((eqI t7b 0) && (eqI t13b 0)) && (eqI (t18b.length : Int) 1)) && (eqI (rd t18b 0).mKind 3)) && (eqI (rd t18b 0).mFrom 11)) (.d (.agg (eClient t18a))))]⟩ (v_cT rfl rfl rfl (ble _ _ rfl) rfl fun e29 => (w_ldb 1 0 rfl ⟨_, rfl, be e29⟩ rfl (ble _ _ rfl) ag29 rfl rfl (ble _ _ rfl) rfl)) ?_
  obtain ⟨t49, c31, h⟩ := bpos h
  refine sq_cons ⟨_, [(.t 49, mg (((((eqI t7b 0) && (eqI t13b 0)) && (eqI (t18b.length : Int) 1)) && (eqI (rd t18b 0).mKind 3)) && (eqI (rd t18b 0).mFrom 11)) (bV t49))]⟩ (v_cT rfl rfl rfl (ble _ _ rfl) rfl fun e30 => (w_call (ds := [(.agg (eClient t18a))]) (caps := []) (l := [(.s (.bool t49))]) (s13 k t18a _ (cpos e30 c31)) rfl rfl rfl en13 ⟨_, rfl, be e30⟩ rfl (ble _ _ rfl) (.inl ⟨rfl, rfl⟩) (cc (gv e30) rfl) rfl)) ?_
  refine sq_cons ⟨_, [(.t 50, bV ((((((eqI t7b 0) && (eqI t13b 0)) && (eqI (t18b.length : Int) 1)) && (eqI (rd t18b 0).mKind 3)) && (eqI (rd t18b 0).mFrom 11)) && t49))]⟩ (v_pickB rfl trivial rfl (ble _ _ rfl) rfl (fun e32 => (gv e32)) (fun e33 => rfl) (pA _ _)) ?_
  refine sq_cons ⟨_, [(.t 0, bV ((((((eqI t7b 0) && (eqI t13b 0)) && (eqI (t18b.length : Int) 1)) && (eqI (rd t18b 0).mKind 3)) && (eqI (rd t18b 0).mFrom 11)) && t49))]⟩ (v_move (.inr rfl) trivial rfl (ble _ _ rfl) rfl) ?_
  refine sq_nil ?_
  refine ht_ret ?_
  cases h
  exact ret1 rfl (.tmp rfl)
set_option maxRecDepth 100000 in
set_option maxHeartbeats 4000000 in
theorem s27 (k : Nat) (t0 : Msg) (r : (List Int)) (h : F27 k t0 = some r) : Awp.Spec Tryd.prog amb 27 [(.agg (eMsg t0))] (.ds [(.sl 1 (r.map (eI .i64)))]) := by
  rw [F27] at h
  refine spec_of Tryd.func27 rfl (ble _ _ rfl) fun w0 ok0 lt0 hA => ?_
  refine ht_seq ?_
  refine ht_region ?_
  refine sq_cons ⟨_, [(.t 1, .d (.dp (eMsg t0)))]⟩ (v_box_d (cs := (eMsg t0)) rfl trivial rfl (ble _ _ rfl) rfl rfl (ones_of rfl)) ?_
  refine sq_cons ⟨_, [(.t 2, .d (.s (.slice none 0 0)))]⟩ (v_move (.inr rfl) trivial rfl (ble _ _ rfl) rfl) ?_
  refine sq_nil ?_
  refine ht_seq ?_
  refine ht_region ?_
  refine sq_cons ⟨_, [(.t 6, .d (.dp (eMsg t0)))]⟩ (v_field_dp (a0 := 0) (cs := (eMsg t0)) rfl trivial rfl (ble _ _ rfl) fo35_0 rfl) ?_
  refine sq_cons ⟨_, [(.t 7, iV t0.mKind)]⟩ (v_load_dp1 rfl trivial rfl (ble _ _ rfl) onT3 rfl rfl) ?_
  refine sq_cons ⟨_, [(.t 8, .d (.dp (List.drop 1 (eMsg t0))))]⟩ (v_field_dp (a0 := 1) (cs := (eMsg t0)) rfl trivial rfl (ble _ _ rfl) fo35_1 rfl) ?_
  refine sq_cons ⟨_, [(.t 9, iV t0.mFrom)]⟩ (v_load_dp1 rfl trivial rfl (ble _ _ rfl) onT3 rfl rfl) ?_
  refine sq_cons ⟨_, [(.t 10, .d (.dp (List.drop 2 (eMsg t0))))]⟩ (v_field_dp (a0 := 2) (cs := (eMsg t0)) rfl trivial rfl (ble _ _ rfl) fo35_2 rfl) ?_
  refine sq_cons ⟨_, [(.t 11, iV t0.mTo)]⟩ (v_load_dp1 rfl trivial rfl (ble _ _ rfl) onT3 rfl rfl) ?_
  refine sq_cons ⟨_, [(.t 12, .d (.dp (List.drop 3 (eMsg t0))))]⟩ (v_field_dp (a0 := 3) (cs := (eMsg t0)) rfl trivial rfl (ble _ _ rfl) fo35_3 rfl) ?_
  refine sq_cons ⟨_, [(.t 13, iV t0.mShard)]⟩ (v_load_dp1 rfl trivial rfl (ble _ _ rfl) onT3 rfl rfl) ?_
  refine sq_cons ⟨_, [(.t 14, .d (.dp (List.drop 4 (eMsg t0))))]⟩ (v_field_dp (a0 := 4) (cs := (eMsg t0)) rfl trivial rfl (ble _ _ rfl) fo35_4 rfl) ?_
  refine sq_cons ⟨_, [(.t 15, iV t0.mEpoch)]⟩ (v_load_dp1 rfl trivial rfl (ble _ _ rfl) onT3 rfl rfl) ?_
  refine sq_cons ⟨_, [(.t 16, .d (.dp (List.drop 5 (eMsg t0))))]⟩ (v_field_dp (a0 := 5) (cs := (eMsg t0)) rfl trivial rfl (ble _ _ rfl) fo35_5 rfl) ?_
  refine sq_cons ⟨_, [(.t 17, iV t0.mMove)]⟩ (v_load_dp1 rfl trivial rfl (ble _ _ rfl) onT3 rfl rfl) ?_
  refine sq_cons ⟨_, [(.t 18, .d (.dp (List.drop 6 (eMsg t0))))]⟩ (v_field_dp (a0 := 6) (cs := (eMsg t0)) rfl trivial rfl (ble _ _ rfl) fo35_6 rfl) ?_
  refine sq_cons ⟨_, [(.t 19, iV t0.mLease)]⟩ (v_load_dp1 rfl trivial rfl (ble _ _ rfl) onT3 rfl rfl) ?_
  refine sq_cons ⟨_, [(.t 20, .d (.dp (List.drop 7 (eMsg t0))))]⟩ (v_field_dp (a0 := 7) (cs := (eMsg t0)) rfl trivial rfl (ble _ _ rfl) fo35_7 rfl) ?_
  refine sq_cons ⟨_, [(.t 21, iV t0.mN)]⟩ (v_load_dp1 rfl trivial rfl (ble _ _ rfl) onT3 rfl rfl) ?_
  refine sq_cons ⟨_, [(.t 22, .d (.dp (List.drop 8 (eMsg t0))))]⟩ (v_field_dp (a0 := 8) (cs := (eMsg t0)) rfl trivial rfl (ble _ _ rfl) fo35_8 rfl) ?_
  refine sq_cons ⟨_, [(.t 23, iV t0.mOf)]⟩ (v_load_dp1 rfl trivial rfl (ble _ _ rfl) onT3 rfl rfl) ?_
  refine sq_cons ⟨_, [(.t 24, .d (.dp (List.drop 13 (eMsg t0))))]⟩ (v_field_dp (a0 := 13) (cs := (eMsg t0)) rfl trivial rfl (ble _ _ rfl) fo35_11 rfl) ?_
  refine sq_cons ⟨_, [(.t 25, .d (.dp (List.drop 13 (eMsg t0))))]⟩ (v_field_dp (a0 := 0) (cs := (List.drop 13 (eMsg t0))) rfl trivial rfl (ble _ _ rfl) fo27_0 rfl) ?_
  refine sq_cons ⟨_, [(.t 26, iV t0.mReq.mClient)]⟩ (v_load_dp1 rfl trivial rfl (ble _ _ rfl) onT3 rfl rfl) ?_
  refine sq_cons ⟨_, [(.t 27, .d (.dp (List.drop 13 (eMsg t0))))]⟩ (v_field_dp (a0 := 13) (cs := (eMsg t0)) rfl trivial rfl (ble _ _ rfl) fo35_11 rfl) ?_
  refine sq_cons ⟨_, [(.t 28, .d (.dp (List.drop 14 (eMsg t0))))]⟩ (v_field_dp (a0 := 1) (cs := (List.drop 13 (eMsg t0))) rfl trivial rfl (ble _ _ rfl) fo27_1 rfl) ?_
  refine sq_cons ⟨_, [(.t 29, iV t0.mReq.mReq)]⟩ (v_load_dp1 rfl trivial rfl (ble _ _ rfl) onT3 rfl rfl) ?_
  refine sq_cons ⟨_, [(.t 30, .d (.dp (List.drop 13 (eMsg t0))))]⟩ (v_field_dp (a0 := 13) (cs := (eMsg t0)) rfl trivial rfl (ble _ _ rfl) fo35_11 rfl) ?_
  refine sq_cons ⟨_, [(.t 31, .d (.dp (List.drop 15 (eMsg t0))))]⟩ (v_field_dp (a0 := 2) (cs := (List.drop 13 (eMsg t0))) rfl trivial rfl (ble _ _ rfl) fo27_2 rfl) ?_
  refine sq_cons ⟨_, [(.t 32, iV t0.mReq.mKind)]⟩ (v_load_dp1 rfl trivial rfl (ble _ _ rfl) onT3 rfl rfl) ?_
  refine sq_cons ⟨_, [(.t 33, .d (.dp (List.drop 13 (eMsg t0))))]⟩ (v_field_dp (a0 := 13) (cs := (eMsg t0)) rfl trivial rfl (ble _ _ rfl) fo35_11 rfl) ?_
  refine sq_cons ⟨_, [(.t 34, .d (.dp (List.drop 24 (eMsg t0))))]⟩ (v_field_dp (a0 := 11) (cs := (List.drop 13 (eMsg t0))) rfl trivial rfl (ble _ _ rfl) fo27_9 rfl) ?_
  refine sq_cons ⟨_, [(.t 35, iV t0.mReq.mLimit)]⟩ (v_load_dp1 rfl trivial rfl (ble _ _ rfl) onT3 rfl rfl) ?_
  refine sq_cons ⟨_, [(.b 36, .row false 3 1 (([t0.mKind, t0.mFrom, t0.mTo, t0.mShard, t0.mEpoch, t0.mMove, t0.mLease, t0.mN, t0.mOf, t0.mReq.mClient, t0.mReq.mReq, t0.mReq.mKind, t0.mReq.mLimit]).map (eI .i64))), (.t 36, .own 36 1 ([t0.mKind, t0.mFrom, t0.mTo, t0.mShard, t0.mEpoch, t0.mMove, t0.mLease, t0.mN, t0.mOf, t0.mReq.mClient, t0.mReq.mReq, t0.mReq.mKind, t0.mReq.mLimit]).length)]⟩ (w_bsl (id := 36) [(0, iV t0.mKind), (1, iV t0.mFrom), (2, iV t0.mTo), (3, iV t0.mShard), (4, iV t0.mEpoch), (5, iV t0.mMove), (6, iV t0.mLease), (7, iV t0.mN), (8, iV t0.mOf), (9, iV t0.mReq.mClient), (10, iV t0.mReq.mReq), (11, iV t0.mReq.mKind), (12, iV t0.mReq.mLimit)] [t0.mKind, t0.mFrom, t0.mTo, t0.mShard, t0.mEpoch, t0.mMove, t0.mLease, t0.mN, t0.mOf, t0.mReq.mClient, t0.mReq.mReq, t0.mReq.mKind, t0.mReq.mLimit] (eI .i64) rfl trivial rfl (ble _ _ rfl) slT23 zr3 (encI .i64) (ble _ _ rfl) rfl (by kernel_rfl) rfl rfl (by kernel_rfl) (by kernel_rfl)) ?_
  refine sq_cons ⟨_, [(.t 3, .own 36 1 ([t0.mKind, t0.mFrom, t0.mTo, t0.mShard, t0.mEpoch, t0.mMove, t0.mLease, t0.mN, t0.mOf, t0.mReq.mClient, t0.mReq.mReq, t0.mReq.mKind, t0.mReq.mLimit]).length)]⟩ (v_move (.inr rfl) trivial rfl (ble _ _ rfl) rfl) ?_
  refine sq_nil ?_
  refine ht_bj h (fun t3 => tell [(.b 1003, .row false 3 1 (t3.map (eI .i64))), (.t 1, .d (.dp (eMsg t0))), (.t 3, .own 1003 1 t3.length)]) (fun t3 h => ?_) (fun v1 K2 h j4 => ?_)
  · refine ht_seq ?_
    refine ht_region ?_
    refine sq_cons ⟨_, [(.t 54, .own 1003 1 t3.length)]⟩ (v_move (.inl rfl) trivial rfl (ble _ _ rfl) rfl) ?_
    refine sq_cons ⟨_, [(.t 55, .d (.dp (List.drop 35 (eMsg t0))))]⟩ (v_field_dp (a0 := 35) (cs := (eMsg t0)) rfl trivial rfl (ble _ _ rfl) fo35_14 rfl) ?_
    refine sq_cons ⟨_, [(.t 56, .d (.sl 1 (t0.mMembers.map (eI .i64))))]⟩ (v_load_dp1 rfl trivial rfl (ble _ _ rfl) onT23 rfl rfl) ?_
    obtain ⟨e13, h⟩ := gpos h
    refine sq_cons ⟨_, [(.b 1003, .spent), (.b 57, .row false 3 1 ((t3 ++ t0.mMembers).map (eI .i64))), (.t 57, .own 57 1 (t3 ++ t0.mMembers).length)]⟩ (w_app 57 t3 t0.mMembers (eI .i64) rfl rfl trivial rfl (ble _ _ rfl) slT23 elT3 (encI .i64) rfl rfl rfl (.d) rfl e13) ?_
    refine sq_cons ⟨_, [(.t 2, .own 57 1 (t3 ++ t0.mMembers).length)]⟩ (v_move (.inr rfl) trivial rfl (ble _ _ rfl) rfl) ?_
    refine sq_nil ?_
    refine ht_ret ?_
    cases h
    exact retM_wk (wk_still_row 57 _ _ _ rfl) (retM_wk (wk_row (.t 2) (nb 2) 57 _ _ _ _ rfl rfl (lm _ _)) (retM_wk (wk_row (.t 57) (nb 57) 57 _ _ _ _ rfl rfl (lm _ _)) (ret1 rfl (.tmp rfl))))
  · refine ht_seq ?_
    refine ht_region ?_
    refine sq_cons ⟨_, [(.t 37, .d (.dp (List.drop 34 (eMsg t0))))]⟩ (v_field_dp (a0 := 34) (cs := (eMsg t0)) rfl trivial rfl (ble _ _ rfl) fo35_13 rfl) ?_
    refine sq_cons ⟨_, [(.t 38, .d (.sl 5 (t0.mPlaces.map ePlace)))]⟩ (v_load_dp1 rfl trivial rfl (ble _ _ rfl) onT22 rfl rfl) ?_
    refine sq_cons ⟨_, [(.t 39, iV (t0.mPlaces.length : Int))]⟩ (w_len t0.mPlaces ePlace rfl rfl trivial rfl (ble _ _ rfl) slT22 rfl) ?_
    refine sq_cons ⟨_, [(.t 40, iV 0)]⟩ (v_move (.inl rfl) trivial rfl (ble _ _ rfl) rfl) ?_
    refine sq_nil ?_
    refine ht_block ?_
    refine ht_rd h (fun _ => rfl) (fun (t3_1, t40) => tell [(.b 1003, .row false 3 1 (t3_1.map (eI .i64))), (.t 1, .d (.dp (eMsg t0))), (.t 3, .own 1003 1 t3_1.length), (.t 38, .d (.sl 5 (t0.mPlaces.map ePlace))), (.t 39, iV (t0.mPlaces.length : Int)), (.t 40, iV t40)]) (wk_ren _ (fun i => bif Nat.beq i 1003 then 36 else i) rfl ⟨rfl, rfl, rfl, rfl, rfl, rfl, trivial⟩) fun k v8 h K12 j7 => ?_
    obtain ⟨t3_1, t40⟩ := v8
    rw [F27_l1] at h
    refine ht_seq ?_
    refine ht_region ?_
    refine sq_cons ⟨_, [(.t 41, bV (ltI t40 (t0.mPlaces.length : Int)))]⟩ (v_bin rfl trivial rfl (ble _ _ rfl) rfl rfl (b_lss rfl)) ?_
    refine sq_nil ?_
    refine ht_seq ?_
    refine ht_cond (b := (ltI t40 (t0.mPlaces.length : Int))) rfl (fun e9 => ?_) (fun e9 => ?_)
    · replace h := cpos e9 h
      refine ht_skip ?_
      refine ht_seq ?_
      refine ht_block ?_
      refine ht_seq ?_
      refine ht_region ?_
      obtain ⟨e10, h⟩ := gpos h
      refine sq_cons ⟨_, [(.t 42, .d (.dp (ePlace (rd t0.mPlaces t40))))]⟩ (w_idx t0.mPlaces ePlace rfl trivial rfl (ble _ _ rfl) slT22 rfl rfl e10) ?_
      refine sq_cons ⟨_, [(.t 43, .d (.agg (ePlace (rd t0.mPlaces t40))))]⟩ (w_ldp (ePlace (rd t0.mPlaces t40)) (ePlace (rd t0.mPlaces t40)) rfl trivial rfl (ble _ _ rfl) ag59 rfl (ble _ _ rfl) rfl) ?_
      refine sq_cons _ (v_alloc (id := 5) (cs := zc59) rfl trivial rfl (ble _ _ rfl) zu59 rfl ft59 rfl) ?_
      refine sq_cons _ (v_store_box (id := 5) (off := 0) (cs := (ePlace (rd t0.mPlaces t40)).map V.d) rfl trivial rfl sz59 rfl rfl rfl rfl (ones_of rfl) (ble _ _ rfl)) ?_
      refine sq_nil ?_
      refine ht_region ?_
      refine sq_cons ⟨_, [(.t 44, .own 1003 1 t3_1.length)]⟩ (v_move (.inl rfl) trivial rfl (ble _ _ rfl) rfl) ?_
      refine sq_cons ⟨_, [(.t 45, .ptr 5 2)]⟩ (v_field_box (off := 0) (a0 := 2) rfl trivial rfl (ble _ _ rfl) fo59_1 rfl) ?_
      refine sq_cons ⟨_, [(.t 46, iV (rd t0.mPlaces t40).mShard)]⟩ (v_load_box1 (id := 5) (off := 2) rfl trivial rfl (ble _ _ rfl) onT3 rfl rfl (ble _ _ rfl) rfl) ?_
      refine sq_cons ⟨_, [(.t 47, .ptr 5 3)]⟩ (v_field_box (off := 0) (a0 := 3) rfl trivial rfl (ble _ _ rfl) fo59_2 rfl) ?_
      refine sq_cons ⟨_, [(.t 48, iV (rd t0.mPlaces t40).mCell)]⟩ (v_load_box1 (id := 5) (off := 3) rfl trivial rfl (ble _ _ rfl) onT3 rfl rfl (ble _ _ rfl) rfl) ?_
      refine sq_cons ⟨_, [(.t 49, .ptr 5 4)]⟩ (v_field_box (off := 0) (a0 := 4) rfl trivial rfl (ble _ _ rfl) fo59_3 rfl) ?_
      refine sq_cons ⟨_, [(.t 50, iV (rd t0.mPlaces t40).mEpoch)]⟩ (v_load_box1 (id := 5) (off := 4) rfl trivial rfl (ble _ _ rfl) onT3 rfl rfl (ble _ _ rfl) rfl) ?_
      refine sq_cons ⟨_, [(.b 51, .row false 3 1 (([(rd t0.mPlaces t40).mShard, (rd t0.mPlaces t40).mCell, (rd t0.mPlaces t40).mEpoch]).map (eI .i64))), (.t 51, .own 51 1 ([(rd t0.mPlaces t40).mShard, (rd t0.mPlaces t40).mCell, (rd t0.mPlaces t40).mEpoch]).length)]⟩ (w_bsl (id := 51) [(0, iV (rd t0.mPlaces t40).mShard), (1, iV (rd t0.mPlaces t40).mCell), (2, iV (rd t0.mPlaces t40).mEpoch)] [(rd t0.mPlaces t40).mShard, (rd t0.mPlaces t40).mCell, (rd t0.mPlaces t40).mEpoch] (eI .i64) rfl trivial rfl (ble _ _ rfl) slT23 zr3 (encI .i64) (ble _ _ rfl) rfl (by kernel_rfl) rfl rfl (by kernel_rfl) (by kernel_rfl)) ?_
      obtain ⟨e11, h⟩ := gpos h
      refine sq_cons ⟨_, [(.b 1003, .spent), (.b 52, .row false 3 1 ((t3_1 ++ [(rd t0.mPlaces t40).mShard, (rd t0.mPlaces t40).mCell, (rd t0.mPlaces t40).mEpoch]).map (eI .i64))), (.t 52, .own 52 1 (t3_1 ++ [(rd t0.mPlaces t40).mShard, (rd t0.mPlaces t40).mCell, (rd t0.mPlaces t40).mEpoch]).length)]⟩ (w_app 52 t3_1 ([(rd t0.mPlaces t40).mShard, (rd t0.mPlaces t40).mCell, (rd t0.mPlaces t40).mEpoch]) (eI .i64) rfl rfl trivial rfl (ble _ _ rfl) slT23 elT3 (encI .i64) rfl rfl rfl (.own 51 _ _ rfl) rfl e11) ?_
      refine sq_cons ⟨_, [(.t 3, .own 52 1 (t3_1 ++ [(rd t0.mPlaces t40).mShard, (rd t0.mPlaces t40).mCell, (rd t0.mPlaces t40).mEpoch]).length)]⟩ (v_move (.inr rfl) trivial rfl (ble _ _ rfl) rfl) ?_
      refine sq_nil ?_
      refine ht_region ?_
      refine sq_cons ⟨_, [(.t 53, iV (IntKind.wrap .i64 (t40 + 1)))]⟩ (v_bin rfl trivial rfl (ble _ _ rfl) rfl rfl (b_add rfl)) ?_
      refine sq_cons ⟨_, [(.t 40, iV (IntKind.wrap .i64 (t40 + 1)))]⟩ (v_move (.inl rfl) trivial rfl (ble _ _ rfl) rfl) ?_
      refine sq_nil ?_
      exact j7 _ _ h (wk_ren _ (fun i => bif Nat.beq i 1003 then 52 else i) rfl ⟨rfl, rfl, rfl, rfl, rfl, rfl, trivial⟩)
    · replace h := cneg e9 h
      refine ht_exit ?_
      refine tq ?_
      refine tq ?_
      refine bq_hit ?_
      cases h
      exact j4 _ (wk_ren _ (fun i => i) rfl ⟨rfl, rfl, rfl, trivial⟩)
set_option maxRecDepth 100000 in
set_option maxHeartbeats 4000000 in
theorem s28 (k : Nat) (t0 : Int) (r : Bool) (h : F28 k t0 = some r) : Awp.Spec Tryd.prog amb 28 [(.s (.int .i64 t0))] (.ds [(.s (.bool r))]) := by
  rw [F28] at h
  refine spec_of Tryd.func28 rfl (ble _ _ rfl) fun w0 ok0 lt0 hA => ?_
  refine ht_seq ?_
  refine ht_region ?_
  refine sq_cons ⟨_, [(.t 2, bV false)]⟩ (v_move (.inr rfl) trivial rfl (ble _ _ rfl) rfl) ?_
  refine sq_nil ?_
  refine ht_seq ?_
  refine ht_region ?_
  refine sq_cons ⟨_, [(.t 3, iV t0)]⟩ (v_move (.inl rfl) trivial rfl (ble _ _ rfl) rfl) ?_
  refine sq_cons ⟨_, [(.t 4, bV (ltI t0 0))]⟩ (v_bin rfl trivial rfl (ble _ _ rfl) rfl rfl (b_lss rfl)) ?_
  refine sq_cons ⟨_, [(.t 5, bV (ltI t0 0))]⟩ (v_move (.inl rfl) trivial rfl (ble _ _ rfl) rfl) ?_
  refine sq_cons ⟨_, [(.t 6, mg (!(ltI t0 0)) (iV t0))]⟩ (v_cF rfl rfl rfl (ble _ _ rfl) rfl fun e1 => (v_move (.inl rfl) ⟨_, rfl, be e1⟩ rfl (ble _ _ rfl) rfl)) ?_
  refine sq_cons ⟨_, [(.t 7, mg (!(ltI t0 0)) (bV (ltI 1099511627776 t0)))]⟩ (v_cF rfl rfl rfl (ble _ _ rfl) rfl fun e2 => (v_bin rfl ⟨_, rfl, be e2⟩ rfl (ble _ _ rfl) (gv (nF e2)) rfl (b_gtr rfl))) ?_
  refine sq_cons ⟨_, [(.t 8, bV ((ltI t0 0) || (ltI 1099511627776 t0)))]⟩ (v_pickB rfl trivial rfl (ble _ _ rfl) rfl (fun e3 => rfl) (fun e4 => (gv (nF e4))) (pO _ _)) ?_
  refine sq_cons ⟨_, [(.t 2, bV ((ltI t0 0) || (ltI 1099511627776 t0)))]⟩ (v_move (.inr rfl) trivial rfl (ble _ _ rfl) rfl) ?_
  refine sq_nil ?_
  refine ht_ret ?_
  cases h
  exact ret1 rfl (.tmp rfl)
set_option maxRecDepth 100000 in
set_option maxHeartbeats 4000000 in
theorem s36_28 (k : Nat) (t0 : List Int) (r : Int) (h : F36_28 k t0 = some r) : Awp.Spec Tryd.prog amb 36 [(.sl 1 (t0.map (eI .i64))), (.fn 28 [])] (.ds [(.s (.int .i64 r))]) := by
  rw [F36_28] at h
  refine spec_of Tryd.func36 rfl (ble _ _ rfl) fun w0 ok0 lt0 hA => ?_
  refine ht_seq ?_
  refine ht_region ?_
  refine sq_cons ⟨_, [(.t 4, iV 0)]⟩ (v_move (.inr rfl) trivial rfl (ble _ _ rfl) rfl) ?_
  refine sq_nil ?_
  refine ht_gj (go_id' h) (fun _ => tell []) (fun _ h => ?_) (fun v1 K2 h j4 r5 => ?_)
  · refine ht_seq ?_
    refine ht_region ?_
    refine sq_cons ⟨_, [(.t 4, iV (-1))]⟩ (v_move (.inr rfl) trivial rfl (ble _ _ rfl) rfl) ?_
    refine sq_nil ?_
    refine ht_ret ?_
    cases h
    exact ret1 rfl (.tmp rfl)
  · refine ht_seq ?_
    refine ht_region ?_
    refine sq_cons ⟨_, [(.t 6, .d (.sl 1 (t0.map (eI .i64))))]⟩ (v_move (.inl rfl) trivial rfl (ble _ _ rfl) rfl) ?_
    refine sq_cons ⟨_, [(.t 7, iV (t0.length : Int))]⟩ (w_len t0 (eI .i64) rfl rfl trivial rfl (ble _ _ rfl) slT23 rfl) ?_
    refine sq_cons ⟨_, [(.t 8, iV 0)]⟩ (v_move (.inl rfl) trivial rfl (ble _ _ rfl) rfl) ?_
    refine sq_nil ?_
    refine ht_block ?_
    refine ht_rd h (fun _ => rfl) (fun t8 => tell [(.t 0, .d (.sl 1 (t0.map (eI .i64)))), (.t 1, .d (.fn 28 [])), (.t 7, iV (t0.length : Int)), (.t 8, iV t8)]) (wk_ren _ (fun i => i) rfl ⟨rfl, rfl, rfl, rfl, trivial⟩) fun k t8 h K13 j7 => ?_
    rw [F36_28_l1] at h
    refine ht_seq ?_
    refine ht_region ?_
    refine sq_cons ⟨_, [(.t 9, bV (ltI t8 (t0.length : Int)))]⟩ (v_bin rfl trivial rfl (ble _ _ rfl) rfl rfl (b_lss rfl)) ?_
    refine sq_nil ?_
    refine ht_seq ?_
    refine ht_cond (b := (ltI t8 (t0.length : Int))) rfl (fun e9 => ?_) (fun e9 => ?_)
    · replace h := cpos e9 h
      refine ht_skip ?_
      refine ht_seq ?_
      refine ht_block ?_
      refine ht_seq ?_
      refine ht_region ?_
      refine sq_cons ⟨_, [(.t 10, iV t8)]⟩ (v_move (.inl rfl) trivial rfl (ble _ _ rfl) rfl) ?_
      refine sq_cons ⟨_, [(.t 5, iV t8)]⟩ (v_move (.inr rfl) trivial rfl (ble _ _ rfl) rfl) ?_
      refine sq_nil ?_
      refine ht_seq ?_
      refine ht_region ?_
      refine sq_cons ⟨_, [(.t 11, .d (.fn 28 []))]⟩ (v_move (.inl rfl) trivial rfl (ble _ _ rfl) rfl) ?_
      refine sq_cons ⟨_, [(.t 12, .d (.sl 1 (t0.map (eI .i64))))]⟩ (v_move (.inl rfl) trivial rfl (ble _ _ rfl) rfl) ?_
      refine sq_cons ⟨_, [(.t 13, iV t8)]⟩ (v_move (.inl rfl) trivial rfl (ble _ _ rfl) rfl) ?_
      obtain ⟨e10, h⟩ := gpos h
      refine sq_cons ⟨_, [(.t 14, .d (.dp [(.s (.int .i64 (rd t0 t8)))]))]⟩ (w_idx t0 (eI .i64) rfl trivial rfl (ble _ _ rfl) slT23 rfl rfl e10) ?_
      refine sq_cons ⟨_, [(.t 15, iV (rd t0 t8))]⟩ (v_load_dp1 rfl trivial rfl (ble _ _ rfl) onT3 rfl rfl) ?_
      obtain ⟨t16, c11, h⟩ := bpos h
      refine sq_cons ⟨_, [(.t 16, bV t16)]⟩ (w_call (ds := [(.s (.int .i64 (rd t0 t8)))]) (caps := []) (l := [(.s (.bool t16))]) (s28 k (rd t0 t8) _ c11) rfl rfl rfl en28 trivial rfl (ble _ _ rfl) (.inr rfl) rfl rfl) ?_
      refine sq_nil ?_
      refine ht_cond (b := t16) rfl (fun e12 => ?_) (fun e12 => ?_)
      · replace h := cpos e12 h
        refine ht_seq ?_
        refine ht_region ?_
        refine sq_cons ⟨_, [(.t 17, iV t8)]⟩ (v_move (.inl rfl) trivial rfl (ble _ _ rfl) rfl) ?_
        refine sq_cons ⟨_, [(.t 4, iV t8)]⟩ (v_move (.inr rfl) trivial rfl (ble _ _ rfl) rfl) ?_
        refine sq_nil ?_
        refine ht_ret ?_
        cases h
        cases r5 _ rfl
        exact ret1 rfl (.tmp rfl)
      · replace h := cneg e12 h
        refine ht_skip ?_
        refine ht_region ?_
        refine sq_cons ⟨_, [(.t 18, iV (IntKind.wrap .i64 (t8 + 1)))]⟩ (v_bin rfl trivial rfl (ble _ _ rfl) rfl rfl (b_add rfl)) ?_
        refine sq_cons ⟨_, [(.t 8, iV (IntKind.wrap .i64 (t8 + 1)))]⟩ (v_move (.inl rfl) trivial rfl (ble _ _ rfl) rfl) ?_
        refine sq_nil ?_
        exact j7 _ _ h (wk_ren _ (fun i => i) rfl ⟨rfl, rfl, rfl, rfl, trivial⟩)
    · replace h := cneg e9 h
      refine ht_exit ?_
      refine tq ?_
      refine tq ?_
      refine bq_hit ?_
      cases h
      exact j4 _ _ rfl (wk_ren _ (fun i => i) rfl trivial)
set_option maxRecDepth 100000 in
set_option maxHeartbeats 4000000 in
theorem s26_28 (k : Nat) (t0 : List Int) (r : Bool) (h : F26_28 k t0 = some r) : Awp.Spec Tryd.prog amb 26 [(.sl 1 (t0.map (eI .i64))), (.fn 28 [])] (.ds [(.s (.bool r))]) := by
  rw [F26_28] at h
  refine spec_of Tryd.func26 rfl (ble _ _ rfl) fun w0 ok0 lt0 hA => ?_
  refine ht_seq ?_
  refine ht_region ?_
  refine sq_cons ⟨_, [(.t 4, bV false)]⟩ (v_move (.inr rfl) trivial rfl (ble _ _ rfl) rfl) ?_
  refine sq_nil ?_
  refine ht_seq ?_
  refine ht_region ?_
  refine sq_cons ⟨_, [(.t 5, .d (.sl 1 (t0.map (eI .i64))))]⟩ (v_move (.inl rfl) trivial rfl (ble _ _ rfl) rfl) ?_
  refine sq_cons ⟨_, [(.t 6, .d (.fn 28 []))]⟩ (v_move (.inl rfl) trivial rfl (ble _ _ rfl) rfl) ?_
  obtain ⟨t7, c1, h⟩ := bpos h
  refine sq_cons ⟨_, [(.t 7, iV t7)]⟩ (w_call (ds := [(.sl 1 (t0.map (eI .i64))), (.fn 28 [])]) (caps := []) (l := [(.s (.int .i64 t7))]) (s36_28 k t0 _ c1) rfl rfl rfl en36 trivial rfl (ble _ _ rfl) (.inl ⟨rfl, rfl⟩) rfl rfl) ?_
  refine sq_cons ⟨_, [(.t 8, bV (leI 0 t7))]⟩ (v_bin rfl trivial rfl (ble _ _ rfl) rfl rfl (b_geq rfl)) ?_
  refine sq_cons ⟨_, [(.t 4, bV (leI 0 t7))]⟩ (v_move (.inr rfl) trivial rfl (ble _ _ rfl) rfl) ?_
  refine sq_nil ?_
  refine ht_ret ?_
  cases h
  exact ret1 rfl (.tmp rfl)
set_option maxRecDepth 100000 in
set_option maxHeartbeats 4000000 in
theorem s16 (k : Nat) (t0 : Msg) (r : Bool) (h : F16 k t0 = some r) : Awp.Spec Tryd.prog amb 16 [(.agg (eMsg t0))] (.ds [(.s (.bool r))]) := by
  rw [F16] at h
  refine spec_of Tryd.func16 rfl (ble _ _ rfl) fun w0 ok0 lt0 hA => ?_
  refine ht_seq ?_
  refine ht_region ?_
  refine sq_cons ⟨_, [(.t 1, .d (.dp (eMsg t0)))]⟩ (v_box_d (cs := (eMsg t0)) rfl trivial rfl (ble _ _ rfl) rfl rfl (ones_of rfl)) ?_
  refine sq_cons ⟨_, [(.t 2, bV false)]⟩ (v_move (.inr rfl) trivial rfl (ble _ _ rfl) rfl) ?_
  refine sq_nil ?_
  refine ht_seq ?_
  refine ht_seq ?_
  refine ht_region ?_
  refine sq_cons ⟨_, [(.t 3, .d (.dp (eMsg t0)))]⟩ (v_field_dp (a0 := 0) (cs := (eMsg t0)) rfl trivial rfl (ble _ _ rfl) fo35_0 rfl) ?_
  refine sq_cons ⟨_, [(.t 4, iV t0.mKind)]⟩ (v_load_dp1 rfl trivial rfl (ble _ _ rfl) onT3 rfl rfl) ?_
  refine sq_cons ⟨_, [(.t 5, bV (ltI t0.mKind 1))]⟩ (v_bin rfl trivial rfl (ble _ _ rfl) rfl rfl (b_lss rfl)) ?_
  refine sq_cons ⟨_, [(.t 6, bV (ltI t0.mKind 1))]⟩ (v_move (.inl rfl) trivial rfl (ble _ _ rfl) rfl) ?_
  refine sq_cons ⟨_, [(.t 7, mg (!(ltI t0.mKind 1)) (.d (.dp (eMsg t0))))]⟩ (v_cF rfl rfl rfl (ble _ _ rfl) rfl fun e1 => (v_field_dp (a0 := 0) (cs := (eMsg t0)) rfl ⟨_, rfl, be e1⟩ rfl (ble _ _ rfl) fo35_0 rfl)) ?_
  refine sq_cons ⟨_, [(.t 8, mg (!(ltI t0.mKind 1)) (iV t0.mKind))]⟩ (v_cF rfl rfl rfl (ble _ _ rfl) rfl fun e2 => (v_load_dp1 rfl ⟨_, rfl, be e2⟩ rfl (ble _ _ rfl) onT3 (gv (nF e2)) rfl)) ?_
  refine sq_cons ⟨_, [(.t 9, mg (!(ltI t0.mKind 1)) (bV (ltI 37 t0.mKind)))]⟩ (v_cF rfl rfl rfl (ble _ _ rfl) rfl fun e3 => (v_bin rfl ⟨_, rfl, be e3⟩ rfl (ble _ _ rfl) (gv (nF e3)) rfl (b_gtr rfl))) ?_
  refine sq_cons ⟨_, [(.t 10, bV ((ltI t0.mKind 1) || (ltI 37 t0.mKind)))]⟩ (v_pickB rfl trivial rfl (ble _ _ rfl) rfl (fun e4 => rfl) (fun e5 => (gv (nF e5))) (pO _ _)) ?_
  refine sq_cons ⟨_, [(.t 11, bV ((ltI t0.mKind 1) || (ltI 37 t0.mKind)))]⟩ (v_move (.inl rfl) trivial rfl (ble _ _ rfl) rfl) ?_
  refine sq_cons ⟨_, [(.t 12, mg (!((ltI t0.mKind 1) || (ltI 37 t0.mKind))) (.d (.dp (List.drop 25 (eMsg t0)))))]⟩ (v_cF rfl rfl rfl (ble _ _ rfl) rfl fun e6 => (v_field_dp (a0 := 25) (cs := (eMsg t0)) rfl ⟨_, rfl, be e6⟩ rfl (ble _ _ rfl) fo35_12 rfl)) ?_
  refine sq_cons ⟨_, [(.t 13, mg (!((ltI t0.mKind 1) || (ltI 37 t0.mKind))) (.d (.dp (List.drop 25 (eMsg t0)))))]⟩ (v_cF rfl rfl rfl (ble _ _ rfl) rfl fun e7 => (v_field_dp (a0 := 0) (cs := (List.drop 25 (eMsg t0))) rfl ⟨_, rfl, be e7⟩ rfl (ble _ _ rfl) fo33_0 (gv (nF e7)))) ?_
  refine sq_cons ⟨_, [(.t 14, mg (!((ltI t0.mKind 1) || (ltI 37 t0.mKind))) (iV t0.mAnswer.mErr))]⟩ (v_cF rfl rfl rfl (ble _ _ rfl) rfl fun e8 => (v_load_dp1 rfl ⟨_, rfl, be e8⟩ rfl (ble _ _ rfl) onT30 (gv (nF e8)) rfl)) ?_
  refine sq_cons ⟨_, [(.t 15, mg (!((ltI t0.mKind 1) || (ltI 37 t0.mKind))) (bV (ltI t0.mAnswer.mErr 0)))]⟩ (v_cF rfl rfl rfl (ble _ _ rfl) rfl fun e9 => (v_bin rfl ⟨_, rfl, be e9⟩ rfl (ble _ _ rfl) (gv (nF e9)) rfl (b_lss rfl))) ?_
  refine sq_cons ⟨_, [(.t 16, bV (((ltI t0.mKind 1) || (ltI 37 t0.mKind)) || (ltI t0.mAnswer.mErr 0)))]⟩ (v_pickB rfl trivial rfl (ble _ _ rfl) rfl (fun e10 => rfl) (fun e11 => (gv (nF e11))) (pO _ _)) ?_
  refine sq_cons ⟨_, [(.t 17, bV (((ltI t0.mKind 1) || (ltI 37 t0.mKind)) || (ltI t0.mAnswer.mErr 0)))]⟩ (v_move (.inl rfl) trivial rfl (ble _ _ rfl) rfl) ?_
  refine sq_cons ⟨_, [(.t 18, mg (!(((ltI t0.mKind 1) || (ltI 37 t0.mKind)) || (ltI t0.mAnswer.mErr 0))) (.d (.dp (List.drop 25 (eMsg t0)))))]⟩ (v_cF rfl rfl rfl (ble _ _ rfl) rfl fun e12 => (v_field_dp (a0 := 25) (cs := (eMsg t0)) rfl ⟨_, rfl, be e12⟩ rfl (ble _ _ rfl) fo35_12 rfl)) ?_
  refine sq_cons ⟨_, [(.t 19, mg (!(((ltI t0.mKind 1) || (ltI 37 t0.mKind)) || (ltI t0.mAnswer.mErr 0))) (.d (.dp (List.drop 25 (eMsg t0)))))]⟩ (v_cF rfl rfl rfl (ble _ _ rfl) rfl fun e13 => (v_field_dp (a0 := 0) (cs := (List.drop 25 (eMsg t0))) rfl ⟨_, rfl, be e13⟩ rfl (ble _ _ rfl) fo33_0 (gv (nF e13)))) ?_
  refine sq_cons ⟨_, [(.t 20, mg (!(((ltI t0.mKind 1) || (ltI 37 t0.mKind)) || (ltI t0.mAnswer.mErr 0))) (iV t0.mAnswer.mErr))]⟩ (v_cF rfl rfl rfl (ble _ _ rfl) rfl fun e14 => (v_load_dp1 rfl ⟨_, rfl, be e14⟩ rfl (ble _ _ rfl) onT30 (gv (nF e14)) rfl)) ?_
  refine sq_cons ⟨_, [(.t 21, mg (!(((ltI t0.mKind 1) || (ltI 37 t0.mKind)) || (ltI t0.mAnswer.mErr 0))) (bV (ltI 16 t0.mAnswer.mErr)))]⟩ (v_cF rfl rfl rfl (ble _ _ rfl) rfl fun e15 => (v_bin rfl ⟨_, rfl, be e15⟩ rfl (ble _ _ rfl) (gv (nF e15)) rfl (b_gtr rfl))) ?_
  refine sq_cons ⟨_, [(.t 22, bV ((((ltI t0.mKind 1) || (ltI 37 t0.mKind)) || (ltI t0.mAnswer.mErr 0)) || (ltI 16 t0.mAnswer.mErr)))]⟩ (v_pickB rfl trivial rfl (ble _ _ rfl) rfl (fun e16 => rfl) (fun e17 => (gv (nF e17))) (pO _ _)) ?_
  refine sq_cons ⟨_, [(.t 23, bV ((((ltI t0.mKind 1) || (ltI 37 t0.mKind)) || (ltI t0.mAnswer.mErr 0)) || (ltI 16 t0.mAnswer.mErr)))]⟩ (v_move (.inl rfl) trivial rfl (ble _ _ rfl) rfl) ?_
  refine sq_cons ⟨_, [(.t 24, mg (!((((ltI t0.mKind 1) || (ltI 37 t0.mKind)) || (ltI t0.mAnswer.mErr 0)) || (ltI 16 t0.mAnswer.mErr))) (.d (.dp (List.drop 25 (eMsg t0)))))]⟩ (v_cF rfl rfl rfl (ble _ _ rfl) rfl fun e18 => (v_field_dp (a0 := 25) (cs := (eMsg t0)) rfl ⟨_, rfl, be e18⟩ rfl (ble _ _ rfl) fo35_12 rfl)) ?_
  refine sq_cons ⟨_, [(.t 25, mg (!((((ltI t0.mKind 1) || (ltI 37 t0.mKind)) || (ltI t0.mAnswer.mErr 0)) || (ltI 16 t0.mAnswer.mErr))) (.d (.dp (List.drop 31 (eMsg t0)))))]⟩ (v_cF rfl rfl rfl (ble _ _ rfl) rfl fun e19 => (v_field_dp (a0 := 6) (cs := (List.drop 25 (eMsg t0))) rfl ⟨_, rfl, be e19⟩ rfl (ble _ _ rfl) fo33_4 (gv (nF e19)))) ?_
  refine sq_cons ⟨_, [(.t 26, mg (!((((ltI t0.mKind 1) || (ltI 37 t0.mKind)) || (ltI t0.mAnswer.mErr 0)) || (ltI 16 t0.mAnswer.mErr))) (.d (.sl 2 (t0.mAnswer.mItems.map eItem))))]⟩ (v_cF rfl rfl rfl (ble _ _ rfl) rfl fun e20 => (v_load_dp1 rfl ⟨_, rfl, be e20⟩ rfl (ble _ _ rfl) onT31 (gv (nF e20)) rfl)) ?_
  refine sq_cons ⟨_, [(.t 27, mg (!((((ltI t0.mKind 1) || (ltI 37 t0.mKind)) || (ltI t0.mAnswer.mErr 0)) || (ltI 16 t0.mAnswer.mErr))) (iV (t0.mAnswer.mItems.length : Int)))]⟩ (v_cF rfl rfl rfl (ble _ _ rfl) rfl fun e21 => (w_len t0.mAnswer.mItems eItem rfl rfl ⟨_, rfl, be e21⟩ rfl (ble _ _ rfl) slT31 (gv (nF e21)))) ?_
  refine sq_cons ⟨_, [(.t 28, mg (!((((ltI t0.mKind 1) || (ltI 37 t0.mKind)) || (ltI t0.mAnswer.mErr 0)) || (ltI 16 t0.mAnswer.mErr))) (bV (ltI 8 (t0.mAnswer.mItems.length : Int))))]⟩ (v_cF rfl rfl rfl (ble _ _ rfl) rfl fun e22 => (v_bin rfl ⟨_, rfl, be e22⟩ rfl (ble _ _ rfl) (gv (nF e22)) rfl (b_gtr rfl))) ?_
  refine sq_cons ⟨_, [(.t 29, bV (((((ltI t0.mKind 1) || (ltI 37 t0.mKind)) || (ltI t0.mAnswer.mErr 0)) || (ltI 16 t0.mAnswer.mErr)) || (ltI 8 (t0.mAnswer.mItems.length : Int))))]⟩ (v_pickB rfl trivial rfl (ble _ _ rfl) rfl (fun e23 => rfl) (fun e24 => (gv (nF e24))) (pO _ _)) ?_
  refine sq_cons ⟨_, [(.t 30, bV (((((ltI t0.mKind 1) || (ltI 37 t0.mKind)) || (ltI t0.mAnswer.mErr 0)) || (ltI 16 t0.mAnswer.mErr)) || (ltI 8 (t0.mAnswer.mItems.length : Int))))]⟩ (v_move (.inl rfl) trivial rfl (ble _ _ rfl) rfl) ?_
  refine sq_cons ⟨_, [(.t 31, mg (!(((((ltI t0.mKind 1) || (ltI 37 t0.mKind)) || (ltI t0.mAnswer.mErr 0)) || (ltI 16 t0.mAnswer.mErr)) || (ltI 8 (t0.mAnswer.mItems.length : Int)))) (.d (.dp (List.drop 34 (eMsg t0)))))]⟩ (v_cF rfl rfl rfl (ble _ _ rfl) rfl fun e25 => (v_field_dp (a0 := 34) (cs := (eMsg t0)) rfl ⟨_, rfl, be e25⟩ rfl (ble _ _ rfl) fo35_13 rfl)) ?_
  refine sq_cons ⟨_, [(.t 32, mg (!(((((ltI t0.mKind 1) || (ltI 37 t0.mKind)) || (ltI t0.mAnswer.mErr 0)) || (ltI 16 t0.mAnswer.mErr)) || (ltI 8 (t0.mAnswer.mItems.length : Int)))) (.d (.sl 5 (t0.mPlaces.map ePlace))))]⟩ (v_cF rfl rfl rfl (ble _ _ rfl) rfl fun e26 => (v_load_dp1 rfl ⟨_, rfl, be e26⟩ rfl (ble _ _ rfl) onT22 (gv (nF e26)) rfl)) ?_
  refine sq_cons ⟨_, [(.t 33, mg (!(((((ltI t0.mKind 1) || (ltI 37 t0.mKind)) || (ltI t0.mAnswer.mErr 0)) || (ltI 16 t0.mAnswer.mErr)) || (ltI 8 (t0.mAnswer.mItems.length : Int)))) (iV (t0.mPlaces.length : Int)))]⟩ (v_cF rfl rfl rfl (ble _ _ rfl) rfl fun e27 => (w_len t0.mPlaces ePlace rfl rfl ⟨_, rfl, be e27⟩ rfl (ble _ _ rfl) slT22 (gv (nF e27)))) ?_
  refine sq_cons ⟨_, [(.t 34, mg (!(((((ltI t0.mKind 1) || (ltI 37 t0.mKind)) || (ltI t0.mAnswer.mErr 0)) || (ltI 16 t0.mAnswer.mErr)) || (ltI 8 (t0.mAnswer.mItems.length : Int)))) (bV (ltI 8 (t0.mPlaces.length : Int))))]⟩ (v_cF rfl rfl rfl (ble _ _ rfl) rfl fun e28 => (v_bin rfl ⟨_, rfl, be e28⟩ rfl (ble _ _ rfl) (gv (nF e28)) rfl (b_gtr rfl))) ?_
  refine sq_cons ⟨_, [(.t 35, bV ((((((ltI t0.mKind 1) || (ltI 37 t0.mKind)) || (ltI t0.mAnswer.mErr 0)) || (ltI 16 t0.mAnswer.mErr)) || (ltI 8 (t0.mAnswer.mItems.length : Int))) || (ltI 8 (t0.mPlaces.length : Int))))]⟩ (v_pickB rfl trivial rfl (ble _ _ rfl) rfl (fun e29 => rfl) (fun e30 => (gv (nF e30))) (pO _ _)) ?_
  refine sq_cons ⟨_, [(.t 36, bV ((((((ltI t0.mKind 1) || (ltI 37 t0.mKind)) || (ltI t0.mAnswer.mErr 0)) || (ltI 16 t0.mAnswer.mErr)) || (ltI 8 (t0.mAnswer.mItems.length : Int))) || (ltI 8 (t0.mPlaces.length : Int))))]⟩ (v_move (.inl rfl) trivial rfl (ble _ _ rfl) rfl) ?_
  refine sq_cons ⟨_, [(.t 37, mg (!((((((ltI t0.mKind 1) || (ltI 37 t0.mKind)) || (ltI t0.mAnswer.mErr 0)) || (ltI 16 t0.mAnswer.mErr)) || (ltI 8 (t0.mAnswer.mItems.length : Int))) || (ltI 8 (t0.mPlaces.length : Int)))) (.d (.dp (List.drop 35 (eMsg t0)))))]⟩ (v_cF rfl rfl rfl (ble _ _ rfl) rfl fun e31 => (v_field_dp (a0 := 35) (cs := (eMsg t0)) rfl ⟨_, rfl, be e31⟩ rfl (ble _ _ rfl) fo35_14 rfl)) ?_
  refine sq_cons ⟨_, [(.t 38, mg (!((((((ltI t0.mKind 1) || (ltI 37 t0.mKind)) || (ltI t0.mAnswer.mErr 0)) || (ltI 16 t0.mAnswer.mErr)) || (ltI 8 (t0.mAnswer.mItems.length : Int))) || (ltI 8 (t0.mPlaces.length : Int)))) (.d (.sl 1 (t0.mMembers.map (eI .i64)))))]⟩ (v_cF rfl rfl rfl (ble _ _ rfl) rfl fun e32 => (v_load_dp1 rfl ⟨_, rfl, be e32⟩ rfl (ble _ _ rfl) onT23 (gv (nF e32)) rfl)) ?_
  refine sq_cons ⟨_, [(.t 39, mg (!((((((ltI t0.mKind 1) || (ltI 37 t0.mKind)) || (ltI t0.mAnswer.mErr 0)) || (ltI 16 t0.mAnswer.mErr)) || (ltI 8 (t0.mAnswer.mItems.length : Int))) || (ltI 8 (t0.mPlaces.length : Int)))) (iV (t0.mMembers.length : Int)))]⟩ (v_cF rfl rfl rfl (ble _ _ rfl) rfl fun e33 => (w_len t0.mMembers (eI .i64) rfl rfl ⟨_, rfl, be e33⟩ rfl (ble _ _ rfl) slT23 (gv (nF e33)))) ?_
  refine sq_cons ⟨_, [(.t 40, mg (!((((((ltI t0.mKind 1) || (ltI 37 t0.mKind)) || (ltI t0.mAnswer.mErr 0)) || (ltI 16 t0.mAnswer.mErr)) || (ltI 8 (t0.mAnswer.mItems.length : Int))) || (ltI 8 (t0.mPlaces.length : Int)))) (bV (ltI 8 (t0.mMembers.length : Int))))]⟩ (v_cF rfl rfl rfl (ble _ _ rfl) rfl fun e34 => (v_bin rfl ⟨_, rfl, be e34⟩ rfl (ble _ _ rfl) (gv (nF e34)) rfl (b_gtr rfl))) ?_
  refine sq_cons ⟨_, [(.t 41, bV (((((((ltI t0.mKind 1) || (ltI 37 t0.mKind)) || (ltI t0.mAnswer.mErr 0)) || (ltI 16 t0.mAnswer.mErr)) || (ltI 8 (t0.mAnswer.mItems.length : Int))) || (ltI 8 (t0.mPlaces.length : Int))) || (ltI 8 (t0.mMembers.length : Int))))]⟩ (v_pickB rfl trivial rfl (ble _ _ rfl) rfl (fun e35 => rfl) (fun e36 => (gv (nF e36))) (pO _ _)) ?_
  refine sq_nil ?_
  refine ht_cond (b := (((((((ltI t0.mKind 1) || (ltI 37 t0.mKind)) || (ltI t0.mAnswer.mErr 0)) || (ltI 16 t0.mAnswer.mErr)) || (ltI 8 (t0.mAnswer.mItems.length : Int))) || (ltI 8 (t0.mPlaces.length : Int))) || (ltI 8 (t0.mMembers.length : Int)))) rfl (fun e37 => ?_) (fun e37 => ?_)
  · replace h := cpos e37 h
    refine ht_seq ?_
    refine ht_region ?_
    refine sq_cons ⟨_, [(.t 2, bV false)]⟩ (v_move (.inr rfl) trivial rfl (ble _ _ rfl) rfl) ?_
    refine sq_nil ?_
    refine ht_ret ?_
    cases h
    exact ret1 rfl (.tmp rfl)
  · replace h := cneg e37 h
    refine ht_skip ?_
    refine ht_seq ?_
    refine ht_seq ?_
    refine ht_region ?_
    refine sq_cons ⟨_, [(.t 42, .d (.agg (eMsg t0)))]⟩ (w_ldp (eMsg t0) (eMsg t0) rfl trivial rfl (ble _ _ rfl) ag35 rfl (ble _ _ rfl) rfl) ?_
    obtain ⟨t43, c38, h⟩ := bpos h
    refine sq_cons ⟨_, [(.t 43, .d (.sl 1 (t43.map (eI .i64))))]⟩ (w_call (ds := [(.agg (eMsg t0))]) (caps := []) (l := [(.sl 1 (t43.map (eI .i64)))]) (s27 k t0 _ c38) rfl rfl rfl en27 trivial rfl (ble _ _ rfl) (.inl ⟨rfl, rfl⟩) rfl rfl) ?_
    obtain ⟨t44, c39, h⟩ := bpos h
    refine sq_cons ⟨_, [(.t 44, bV t44)]⟩ (w_call2 (ds := [(.sl 1 (t43.map (eI .i64))), (.fn 28 [])]) (caps := []) (l := [(.s (.bool t44))]) (s26_28 k t43 _ c39) rfl rfl rfl en26 trivial rfl (ble _ _ rfl) (.inl ⟨rfl, rfl⟩) (.c (.d _) (.c (.fn _ []) .n)) rfl) ?_
    refine sq_nil ?_
    refine ht_cond (b := t44) rfl (fun e40 => ?_) (fun e40 => ?_)
    · replace h := cpos e40 h
      refine ht_seq ?_
      refine ht_region ?_
      refine sq_cons ⟨_, [(.t 2, bV false)]⟩ (v_move (.inr rfl) trivial rfl (ble _ _ rfl) rfl) ?_
      refine sq_nil ?_
      refine ht_ret ?_
      cases h
      exact ret1 rfl (.tmp rfl)
    · replace h := cneg e40 h
      refine ht_skip ?_
      refine ht_seq ?_
      refine ht_region ?_
      refine sq_cons ⟨_, [(.t 45, .d (.dp (List.drop 9 (eMsg t0))))]⟩ (v_field_dp (a0 := 9) (cs := (eMsg t0)) rfl trivial rfl (ble _ _ rfl) fo35_9 rfl) ?_
      refine sq_cons ⟨_, [(.t 46, .d (.agg (eStamp t0.mAt)))]⟩ (w_ldp (List.drop 9 (eMsg t0)) (eStamp t0.mAt) rfl trivial rfl (ble _ _ rfl) ag25 rfl (ble _ _ rfl) rfl) ?_
      obtain ⟨t47, c41, h⟩ := bpos h
      refine sq_cons ⟨_, [(.t 47, bV t47)]⟩ (w_call (ds := [(.agg (eStamp t0.mAt))]) (caps := []) (l := [(.s (.bool t47))]) (s29 k t0.mAt _ c41) rfl rfl rfl en29 trivial rfl (ble _ _ rfl) (.inl ⟨rfl, rfl⟩) rfl rfl) ?_
      refine sq_cons ⟨_, [(.t 48, bV t47)]⟩ (v_move (.inl rfl) trivial rfl (ble _ _ rfl) rfl) ?_
      refine sq_cons ⟨_, [(.t 49, mg t47 (.d (.dp (List.drop 13 (eMsg t0)))))]⟩ (v_cT rfl rfl rfl (ble _ _ rfl) rfl fun e42 => (v_field_dp (a0 := 13) (cs := (eMsg t0)) rfl ⟨_, rfl, be e42⟩ rfl (ble _ _ rfl) fo35_11 rfl)) ?_
      refine sq_cons ⟨_, [(.t 50, mg t47 (.d (.dp (List.drop 20 (eMsg t0)))))]⟩ (v_cT rfl rfl rfl (ble _ _ rfl) rfl fun e43 => (v_field_dp (a0 := 7) (cs := (List.drop 13 (eMsg t0))) rfl ⟨_, rfl, be e43⟩ rfl (ble _ _ rfl) fo27_7 (gv e43))) ?_
      refine sq_cons ⟨_, [(.t 51, mg t47 (.d (.agg (eStamp t0.mReq.mAt))))]⟩ (v_cT rfl rfl rfl (ble _ _ rfl) rfl fun e44 => (w_ldp (List.drop 20 (eMsg t0)) (eStamp t0.mReq.mAt) rfl ⟨_, rfl, be e44⟩ rfl (ble _ _ rfl) ag25 (gv e44) (ble _ _ rfl) rfl)) ?_
      obtain ⟨t52, c46, h⟩ := bpos h
      refine sq_cons ⟨_, [(.t 52, mg t47 (bV t52))]⟩ (v_cT rfl rfl rfl (ble _ _ rfl) rfl fun e45 => (w_call (ds := [(.agg (eStamp t0.mReq.mAt))]) (caps := []) (l := [(.s (.bool t52))]) (s29 k t0.mReq.mAt _ (cpos e45 c46)) rfl rfl rfl en29 ⟨_, rfl, be e45⟩ rfl (ble _ _ rfl) (.inl ⟨rfl, rfl⟩) (cc (gv e45) rfl) rfl)) ?_
      refine sq_cons ⟨_, [(.t 53, bV (t47 && t52))]⟩ (v_pickB rfl trivial rfl (ble _ _ rfl) rfl (fun e47 => (gv e47)) (fun e48 => rfl) (pA _ _)) ?_
      refine sq_cons ⟨_, [(.t 54, bV (t47 && t52))]⟩ (v_move (.inl rfl) trivial rfl (ble _ _ rfl) rfl) ?_
      refine sq_cons ⟨_, [(.t 55, mg (t47 && t52) (.d (.dp (List.drop 25 (eMsg t0)))))]⟩ (v_cT rfl rfl rfl (ble _ _ rfl) rfl fun e49 => (v_field_dp (a0 := 25) (cs := (eMsg t0)) rfl ⟨_, rfl, be e49⟩ rfl (ble _ _ rfl) fo35_12 rfl)) ?_
      refine sq_cons ⟨_, [(.t 56, mg (t47 && t52) (.d (.dp (List.drop 26 (eMsg t0)))))]⟩ (v_cT rfl rfl rfl (ble _ _ rfl) rfl fun e50 => (v_field_dp (a0 := 1) (cs := (List.drop 25 (eMsg t0))) rfl ⟨_, rfl, be e50⟩ rfl (ble _ _ rfl) fo33_1 (gv e50))) ?_
      refine sq_cons ⟨_, [(.t 57, mg (t47 && t52) (.d (.agg (eStamp t0.mAnswer.mAt))))]⟩ (v_cT rfl rfl rfl (ble _ _ rfl) rfl fun e51 => (w_ldp (List.drop 26 (eMsg t0)) (eStamp t0.mAnswer.mAt) rfl ⟨_, rfl, be e51⟩ rfl (ble _ _ rfl) ag25 (gv e51) (ble _ _ rfl) rfl)) ?_
      obtain ⟨t58, c53, h⟩ := bpos h
      refine sq_cons ⟨_, [(.t 58, mg (t47 && t52) (bV t58))]⟩ (v_cT rfl rfl rfl (ble _ _ rfl) rfl fun e52 => (w_call (ds := [(.agg (eStamp t0.mAnswer.mAt))]) (caps := []) (l := [(.s (.bool t58))]) (s29 k t0.mAnswer.mAt _ (cpos e52 c53)) rfl rfl rfl en29 ⟨_, rfl, be e52⟩ rfl (ble _ _ rfl) (.inl ⟨rfl, rfl⟩) (cc (gv e52) rfl) rfl)) ?_
      refine sq_cons ⟨_, [(.t 59, bV ((t47 && t52) && t58))]⟩ (v_pickB rfl trivial rfl (ble _ _ rfl) rfl (fun e54 => (gv e54)) (fun e55 => rfl) (pA _ _)) ?_
      refine sq_cons ⟨_, [(.t 2, bV ((t47 && t52) && t58))]⟩ (v_move (.inr rfl) trivial rfl (ble _ _ rfl) rfl) ?_
      refine sq_nil ?_
      refine ht_ret ?_
      cases h
      exact ret1 rfl (.tmp rfl)
set_option maxRecDepth 100000 in
set_option maxHeartbeats 4000000 in
theorem s18 (k : Nat) (t0 : List Place) (r : (List Place)) (h : F18 k t0 = some r) : Awp.Spec Tryd.prog amb 18 [(.sl 5 (t0.map ePlace))] (.ds [(.sl 5 (r.map ePlace))]) := by
  rw [F18] at h
  refine spec_of Tryd.func18 rfl (ble _ _ rfl) fun w0 ok0 lt0 hA => ?_
  refine ht_seq ?_
  refine ht_region ?_
  refine sq_cons ⟨_, [(.t 2, .d (.s (.slice none 0 0)))]⟩ (v_move (.inr rfl) trivial rfl (ble _ _ rfl) rfl) ?_
  refine sq_nil ?_
  refine ht_seq ?_
  refine ht_seq ?_
  refine ht_region ?_
  refine sq_cons ⟨_, [(.t 3, .d (.sl 5 (t0.map ePlace)))]⟩ (v_move (.inl rfl) trivial rfl (ble _ _ rfl) rfl) ?_
  refine sq_nileq rfl trivial rfl (ble _ _ rfl) und22 rfl (fun b1 hb2 => ?_)
  refine sq_nil ?_
  refine ht_cond (b := b1) rfl (fun e3 => ?_) (fun e3 => ?_)
  · obtain rfl : t0 = [] := List.map_eq_nil_iff.1 (hb2 e3)
    replace h : (some ([] : List Place) : Option (List Place)) = some r := by (obtain ⟨_, h⟩ := gpos h; cases h; rfl)
    refine ht_seq ?_
    refine ht_region ?_
    refine sq_cons ⟨_, [(.t 2, .d (.s (.slice none 0 0)))]⟩ (v_move (.inr rfl) trivial rfl (ble _ _ rfl) rfl) ?_
    refine sq_nil ?_
    refine ht_ret ?_
    cases h
    exact retM_wk (wk_nil (.t 2) (nb 2) 5 rfl) (ret1 rfl (.tmp rfl))
  · refine ht_skip ?_
    refine ht_seq ?_
    refine ht_region ?_
    refine sq_cons ⟨_, [(.b 5, .row false 59 5 (([] : List Place).map ePlace)), (.t 5, .own 5 5 ([] : List Place).length)]⟩ (w_bsl (id := 5) [] ([] : List Place) ePlace rfl trivial rfl (ble _ _ rfl) slT22 zr59 tePlace (ble _ _ rfl) rfl (by kernel_rfl) rfl rfl (by kernel_rfl) (by kernel_rfl)) ?_
    refine sq_cons ⟨_, [(.t 6, .d (.sl 5 (t0.map ePlace)))]⟩ (v_move (.inl rfl) trivial rfl (ble _ _ rfl) rfl) ?_
    obtain ⟨e4, h⟩ := gpos h
    refine sq_cons ⟨_, [(.b 5, .spent), (.b 7, .row false 59 5 ((([] : List Place) ++ t0).map ePlace)), (.t 7, .own 7 5 (([] : List Place) ++ t0).length)]⟩ (w_app 7 ([] : List Place) t0 ePlace rfl rfl trivial rfl (ble _ _ rfl) slT22 elT59 tePlace rfl rfl rfl (.d) rfl e4) ?_
    refine sq_cons ⟨_, [(.t 2, .own 7 5 (([] : List Place) ++ t0).length)]⟩ (v_move (.inr rfl) trivial rfl (ble _ _ rfl) rfl) ?_
    refine sq_nil ?_
    refine ht_ret ?_
    cases h
    exact retM_wk (wk_still_row 7 _ _ _ rfl) (retM_wk (wk_row (.t 2) (nb 2) 7 _ _ _ _ rfl rfl (lm _ _)) (retM_wk (wk_row (.t 7) (nb 7) 7 _ _ _ _ rfl rfl (lm _ _)) (ret1 rfl (.tmp rfl))))
set_option maxRecDepth 100000 in
set_option maxHeartbeats 4000000 in
theorem s19 (k : Nat) (t0 : List Int) (r : (List Int)) (h : F19 k t0 = some r) : Awp.Spec Tryd.prog amb 19 [(.sl 1 (t0.map (eI .i64)))] (.ds [(.sl 1 (r.map (eI .i64)))]) := by
  rw [F19] at h
  refine spec_of Tryd.func19 rfl (ble _ _ rfl) fun w0 ok0 lt0 hA => ?_
  refine ht_seq ?_
  refine ht_region ?_
  refine sq_cons ⟨_, [(.t 2, .d (.s (.slice none 0 0)))]⟩ (v_move (.inr rfl) trivial rfl (ble _ _ rfl) rfl) ?_
  refine sq_nil ?_
  refine ht_seq ?_
  refine ht_seq ?_
  refine ht_region ?_
  refine sq_cons ⟨_, [(.t 3, .d (.sl 1 (t0.map (eI .i64))))]⟩ (v_move (.inl rfl) trivial rfl (ble _ _ rfl) rfl) ?_
  refine sq_nileq rfl trivial rfl (ble _ _ rfl) und23 rfl (fun b1 hb2 => ?_)
  refine sq_nil ?_
  refine ht_cond (b := b1) rfl (fun e3 => ?_) (fun e3 => ?_)
  · obtain rfl : t0 = [] := List.map_eq_nil_iff.1 (hb2 e3)
    replace h : (some ([] : List Int) : Option (List Int)) = some r := by (obtain ⟨_, h⟩ := gpos h; cases h; rfl)
    refine ht_seq ?_
    refine ht_region ?_
    refine sq_cons ⟨_, [(.t 2, .d (.s (.slice none 0 0)))]⟩ (v_move (.inr rfl) trivial rfl (ble _ _ rfl) rfl) ?_
    refine sq_nil ?_
    refine ht_ret ?_
    cases h
    exact retM_wk (wk_nil (.t 2) (nb 2) 1 rfl) (ret1 rfl (.tmp rfl))
  · refine ht_skip ?_
    refine ht_seq ?_
    refine ht_region ?_
    refine sq_cons ⟨_, [(.b 5, .row false 3 1 (([] : List Int).map (eI .i64))), (.t 5, .own 5 1 ([] : List Int).length)]⟩ (w_bsl (id := 5) [] ([] : List Int) (eI .i64) rfl trivial rfl (ble _ _ rfl) slT23 zr3 (encI .i64) (ble _ _ rfl) rfl (by kernel_rfl) rfl rfl (by kernel_rfl) (by kernel_rfl)) ?_
    refine sq_cons ⟨_, [(.t 6, .d (.sl 1 (t0.map (eI .i64))))]⟩ (v_move (.inl rfl) trivial rfl (ble _ _ rfl) rfl) ?_
    obtain ⟨e4, h⟩ := gpos h
    refine sq_cons ⟨_, [(.b 5, .spent), (.b 7, .row false 3 1 ((([] : List Int) ++ t0).map (eI .i64))), (.t 7, .own 7 1 (([] : List Int) ++ t0).length)]⟩ (w_app 7 ([] : List Int) t0 (eI .i64) rfl rfl trivial rfl (ble _ _ rfl) slT23 elT3 (encI .i64) rfl rfl rfl (.d) rfl e4) ?_
    refine sq_cons ⟨_, [(.t 2, .own 7 1 (([] : List Int) ++ t0).length)]⟩ (v_move (.inr rfl) trivial rfl (ble _ _ rfl) rfl) ?_
    refine sq_nil ?_
    refine ht_ret ?_
    cases h
    exact retM_wk (wk_still_row 7 _ _ _ rfl) (retM_wk (wk_row (.t 2) (nb 2) 7 _ _ _ _ rfl rfl (lm _ _)) (retM_wk (wk_row (.t 7) (nb 7) 7 _ _ _ _ rfl rfl (lm _ _)) (ret1 rfl (.tmp rfl))))
set_option maxRecDepth 100000 in
set_option maxHeartbeats 4000000 in
theorem s8 (k : Nat) (t0 : Client) (t1 : Msg) (r : Client × (List Msg) × Told) (h : F8 k t0 t1 = some r) : Awp.Spec Tryd.prog amb 8 [(.agg (eClient t0)), (.agg (eMsg t1))] (.ds [(.agg (eClient r.1)), (.sl 36 (r.2.1.map eMsg)), (.agg (eTold r.2.2))]) := by
  rw [F8] at h
  refine spec_of Tryd.func8 rfl (ble _ _ rfl) fun w0 ok0 lt0 hA => ?_
  refine ht_seq ?_
  refine ht_region ?_
  refine sq_cons _ (v_box (id := 2) (cs := (eClient t0).map V.d) rfl trivial rfl (ble _ _ rfl) rfl rfl (ones_of rfl) rfl) ?_
  refine sq_cons ⟨_, [(.t 3, .d (.dp (eMsg t1)))]⟩ (v_box_d (cs := (eMsg t1)) rfl trivial rfl (ble _ _ rfl) rfl rfl (ones_of rfl)) ?_
  refine sq_cons _ (v_alloc (id := 4) (cs := zc29) rfl trivial rfl (ble _ _ rfl) zu29 rfl ft29 rfl) ?_
  refine sq_cons ⟨_, [(.t 5, .d (.s (.slice none 0 0)))]⟩ (v_move (.inr rfl) trivial rfl (ble _ _ rfl) rfl) ?_
  refine sq_cons _ (v_alloc (id := 6) (cs := zc41) rfl trivial rfl (ble _ _ rfl) zu41 rfl ft41 rfl) ?_
  refine sq_nil ?_
  refine ht_seq ?_
  refine ht_seq ?_
  refine ht_region ?_
  refine sq_cons ⟨_, [(.t 9, .d (.agg (eClient t0)))]⟩ (w_ldb 2 0 rfl trivial rfl (ble _ _ rfl) ag29 rfl rfl (ble _ _ rfl) rfl) ?_
  obtain ⟨t10, c1, h⟩ := bpos h
  refine sq_cons ⟨_, [(.t 10, bV t10)]⟩ (w_call (ds := [(.agg (eClient t0))]) (caps := []) (l := [(.s (.bool t10))]) (s13 k t0 _ c1) rfl rfl rfl en13 trivial rfl (ble _ _ rfl) (.inl ⟨rfl, rfl⟩) rfl rfl) ?_
  refine sq_cons ⟨_, [(.t 11, bV (!t10))]⟩ (v_un rfl trivial rfl (ble _ _ rfl) rfl (u_not rfl)) ?_
  refine sq_cons ⟨_, [(.t 12, bV (!t10))]⟩ (v_move (.inl rfl) trivial rfl (ble _ _ rfl) rfl) ?_
  refine sq_cons ⟨_, [(.t 13, mg (!(!t10)) (.d (.agg (eMsg t1))))]⟩ (v_cF rfl rfl rfl (ble _ _ rfl) rfl fun e2 => (w_ldp (eMsg t1) (eMsg t1) rfl ⟨_, rfl, be e2⟩ rfl (ble _ _ rfl) ag35 rfl (ble _ _ rfl) rfl)) ?_
  obtain ⟨t14, c4, h⟩ := bpos h
  refine sq_cons ⟨_, [(.t 14, mg (!(!t10)) (bV t14))]⟩ (v_cF rfl rfl rfl (ble _ _ rfl) rfl fun e3 => (w_call (ds := [(.agg (eMsg t1))]) (caps := []) (l := [(.s (.bool t14))]) (s16 k t1 _ (cpos (nF e3) c4)) rfl rfl rfl en16 ⟨_, rfl, be e3⟩ rfl (ble _ _ rfl) (.inl ⟨rfl, rfl⟩) (cc (gv (nF e3)) rfl) rfl)) ?_
  refine sq_cons ⟨_, [(.t 15, mg (!(!t10)) (bV (!t14)))]⟩ (v_cF rfl rfl rfl (ble _ _ rfl) rfl fun e5 => (v_un rfl ⟨_, rfl, be e5⟩ rfl (ble _ _ rfl) (gv (nF e5)) (u_not rfl))) ?_
  refine sq_cons ⟨_, [(.t 16, bV ((!t10) || (!t14)))]⟩ (v_pickB rfl trivial rfl (ble _ _ rfl) rfl (fun e6 => rfl) (fun e7 => (gv (nF e7))) (pO _ _)) ?_
  refine sq_cons ⟨_, [(.t 17, bV ((!t10) || (!t14)))]⟩ (v_move (.inl rfl) trivial rfl (ble _ _ rfl) rfl) ?_
  refine sq_cons ⟨_, [(.t 18, mg (!((!t10) || (!t14))) (.d (.dp (List.drop 2 (eMsg t1)))))]⟩ (v_cF rfl rfl rfl (ble _ _ rfl) rfl fun e8 => (v_field_dp (a0 := 2) (cs := (eMsg t1)) rfl ⟨_, rfl, be e8⟩ rfl (ble _ _ rfl) fo35_2 rfl)) ?_
  refine sq_cons ⟨_, [(.t 19, mg (!((!t10) || (!t14))) (iV t1.mTo))]⟩ (v_cF rfl rfl rfl (ble _ _ rfl) rfl fun e9 => (v_load_dp1 rfl ⟨_, rfl, be e9⟩ rfl (ble _ _ rfl) onT3 (gv (nF e9)) rfl)) ?_
  refine sq_cons ⟨_, [(.t 20, mg (!((!t10) || (!t14))) (.ptr 2 0))]⟩ (v_cF rfl rfl rfl (ble _ _ rfl) rfl fun e10 => (v_field_box (off := 0) (a0 := 0) rfl ⟨_, rfl, be e10⟩ rfl (ble _ _ rfl) fo29_0 rfl)) ?_
  refine sq_cons ⟨_, [(.t 21, mg (!((!t10) || (!t14))) (iV t0.mID))]⟩ (v_cF rfl rfl rfl (ble _ _ rfl) rfl fun e11 => (v_load_box1 (id := 2) (off := 0) rfl ⟨_, rfl, be e11⟩ rfl (ble _ _ rfl) onT3 (gv (nF e11)) rfl (ble _ _ rfl) rfl)) ?_
  refine sq_cons ⟨_, [(.t 22, mg (!((!t10) || (!t14))) (iV (IntKind.wrap .i64 (10 + t0.mID))))]⟩ (v_cF rfl rfl rfl (ble _ _ rfl) rfl fun e12 => (v_bin rfl ⟨_, rfl, be e12⟩ rfl (ble _ _ rfl) rfl (gv (nF e12)) (b_add rfl))) ?_
  refine sq_cons ⟨_, [(.t 23, mg (!((!t10) || (!t14))) (bV (!eqI t1.mTo (IntKind.wrap .i64 (10 + t0.mID)))))]⟩ (v_cF rfl rfl rfl (ble _ _ rfl) rfl fun e13 => (v_bin rfl ⟨_, rfl, be e13⟩ rfl (ble _ _ rfl) (gv (nF e13)) (gv (nF e13)) (b_neq rfl))) ?_
  refine sq_cons ⟨_, [(.t 24, bV (((!t10) || (!t14)) || (!eqI t1.mTo (IntKind.wrap .i64 (10 + t0.mID)))))]⟩ (v_pickB rfl trivial rfl (ble _ _ rfl) rfl (fun e14 => rfl) (fun e15 => (gv (nF e15))) (pO _ _)) ?_
  refine sq_nil ?_
  refine ht_cond (b := (((!t10) || (!t14)) || (!eqI t1.mTo (IntKind.wrap .i64 (10 + t0.mID))))) rfl (fun e16 => ?_) (fun e16 => ?_)
  · replace h := cpos e16 h
    refine ht_seq ?_
    refine ht_region ?_
    refine sq_cons ⟨_, [(.t 25, .d (.agg (eClient t0)))]⟩ (w_ldb 2 0 rfl trivial rfl (ble _ _ rfl) ag29 rfl rfl (ble _ _ rfl) rfl) ?_
    refine sq_cons ⟨_, [(.t 26, .d (.agg (eTold (⟨false, (⟨0, 0, 0, ⟨#[]⟩, ⟨#[]⟩, false, ⟨#[]⟩, (⟨0, 0, 0⟩ : Stamp), ⟨#[]⟩, 0⟩ : Request), false, (⟨0, (⟨0, 0, 0⟩ : Stamp), false, ⟨#[]⟩, [], ⟨#[]⟩, false⟩ : Answer), 0⟩ : Told))))]⟩ (w_bld zc41 ((eTold (⟨false, (⟨0, 0, 0, ⟨#[]⟩, ⟨#[]⟩, false, ⟨#[]⟩, (⟨0, 0, 0⟩ : Stamp), ⟨#[]⟩, 0⟩ : Request), false, (⟨0, (⟨0, 0, 0⟩ : Stamp), false, ⟨#[]⟩, [], ⟨#[]⟩, false⟩ : Answer), 0⟩ : Told)).map V.d) [] rfl trivial rfl (ble _ _ rfl) zw41 rfl ft41 rfl rfl rfl rfl) ?_
    refine sq_cons _ (v_store_box (id := 4) (off := 0) (cs := (eClient t0).map V.d) rfl trivial rfl sz29 rfl rfl rfl rfl (ones_of rfl) (ble _ _ rfl)) ?_
    refine sq_cons ⟨_, [(.t 5, .d (.s (.slice none 0 0)))]⟩ (v_move (.inr rfl) trivial rfl (ble _ _ rfl) rfl) ?_
    refine sq_cons _ (v_store_box (id := 6) (off := 0) (cs := (eTold (⟨false, (⟨0, 0, 0, ⟨#[]⟩, ⟨#[]⟩, false, ⟨#[]⟩, (⟨0, 0, 0⟩ : Stamp), ⟨#[]⟩, 0⟩ : Request), false, (⟨0, (⟨0, 0, 0⟩ : Stamp), false, ⟨#[]⟩, [], ⟨#[]⟩, false⟩ : Answer), 0⟩ : Told)).map V.d) rfl trivial rfl sz41 rfl rfl rfl rfl (ones_of rfl) (ble _ _ rfl)) ?_
    refine sq_nil ?_
    refine ht_ret ?_
    cases h
    exact retM_wk (wk_nil (.t 5) (nb 5) 36 rfl) (ret3 rfl (.cell rfl rfl ag29 (ble _ _ rfl) rfl) (.tmp rfl) (.cell rfl rfl ag41 (ble _ _ rfl) rfl))
  · replace h := cneg e16 h
    refine ht_skip ?_
    refine ht_seq ?_
    refine ht_region ?_
    refine sq_cons ⟨_, [(.t 27, .ptr 2 4)]⟩ (v_field_box (off := 0) (a0 := 4) rfl trivial rfl (ble _ _ rfl) fo29_4 rfl) ?_
    refine sq_cons ⟨_, [(.t 28, .ptr 2 5)]⟩ (v_field_box (off := 4) (a0 := 1) rfl trivial rfl (ble _ _ rfl) fo27_1 rfl) ?_
    refine sq_cons ⟨_, [(.t 29, iV t0.mReq.mReq)]⟩ (v_load_box1 (id := 2) (off := 5) rfl trivial rfl (ble _ _ rfl) onT3 rfl rfl (ble _ _ rfl) rfl) ?_
    refine sq_cons ⟨_, [(.t 30, bV (!eqI t0.mReq.mReq 0))]⟩ (v_bin rfl trivial rfl (ble _ _ rfl) rfl rfl (b_neq rfl)) ?_
    refine sq_cons ⟨_, [(.t 31, bV (!eqI t0.mReq.mReq 0))]⟩ (v_move (.inl rfl) trivial rfl (ble _ _ rfl) rfl) ?_
    refine sq_cons ⟨_, [(.t 32, mg (!eqI t0.mReq.mReq 0) (.ptr 2 16))]⟩ (v_cT rfl rfl rfl (ble _ _ rfl) rfl fun e17 => (v_field_box (off := 0) (a0 := 16) rfl ⟨_, rfl, be e17⟩ rfl (ble _ _ rfl) fo29_5 rfl)) ?_
    refine sq_cons ⟨_, [(.t 33, mg (!eqI t0.mReq.mReq 0) (bV t0.mOpens))]⟩ (v_cT rfl rfl rfl (ble _ _ rfl) rfl fun e18 => (v_load_box1 (id := 2) (off := 16) rfl ⟨_, rfl, be e18⟩ rfl (ble _ _ rfl) onT4 (gv e18) rfl (ble _ _ rfl) rfl)) ?_
    refine sq_cons ⟨_, [(.t 34, mg (!eqI t0.mReq.mReq 0) (bV (!t0.mOpens)))]⟩ (v_cT rfl rfl rfl (ble _ _ rfl) rfl fun e19 => (v_un rfl ⟨_, rfl, be e19⟩ rfl (ble _ _ rfl) (gv e19) (u_not rfl))) ?_
    refine sq_cons ⟨_, [(.t 35, bV ((!eqI t0.mReq.mReq 0) && (!t0.mOpens)))]⟩ (v_pickB rfl trivial rfl (ble _ _ rfl) rfl (fun e20 => (gv e20)) (fun e21 => rfl) (pA _ _)) ?_
    refine sq_cons ⟨_, [(.t 7, bV ((!eqI t0.mReq.mReq 0) && (!t0.mOpens)))]⟩ (v_move (.inr rfl) trivial rfl (ble _ _ rfl) rfl) ?_
    refine sq_nil ?_
    refine ht_seq ?_
    refine ht_seq ?_
    refine ht_region ?_
    refine sq_cons ⟨_, [(.t 36, .d (.dp (eMsg t1)))]⟩ (v_field_dp (a0 := 0) (cs := (eMsg t1)) rfl trivial rfl (ble _ _ rfl) fo35_0 rfl) ?_
    refine sq_cons ⟨_, [(.t 37, iV t1.mKind)]⟩ (v_load_dp1 rfl trivial rfl (ble _ _ rfl) onT3 rfl rfl) ?_
    refine sq_nil ?_
    refine ht_block ?_
    refine ht_seq ?_
    refine ht_region ?_
    refine sq_cons ⟨_, [(.t 39, bV (eqI t1.mKind 4))]⟩ (v_bin rfl trivial rfl (ble _ _ rfl) rfl rfl (b_eql rfl)) ?_
    refine sq_cons ⟨_, [(.t 38, bV (eqI t1.mKind 4))]⟩ (v_move (.inr rfl) trivial rfl (ble _ _ rfl) rfl) ?_
    refine sq_nil ?_
    refine ht_cond (b := (eqI t1.mKind 4)) rfl (fun e22 => ?_) (fun e22 => ?_)
    · replace h := cpos e22 h
      refine ht_seq ?_
      refine ht_seq ?_
      refine ht_region ?_
      refine sq_cons ⟨_, [(.t 40, .d (.dp (List.drop 34 (eMsg t1))))]⟩ (v_field_dp (a0 := 34) (cs := (eMsg t1)) rfl trivial rfl (ble _ _ rfl) fo35_13 rfl) ?_
      refine sq_cons ⟨_, [(.t 41, .d (.sl 5 (t1.mPlaces.map ePlace)))]⟩ (v_load_dp1 rfl trivial rfl (ble _ _ rfl) onT22 rfl rfl) ?_
      refine sq_cons ⟨_, [(.t 42, .d (.dp (List.drop 35 (eMsg t1))))]⟩ (v_field_dp (a0 := 35) (cs := (eMsg t1)) rfl trivial rfl (ble _ _ rfl) fo35_14 rfl) ?_
      refine sq_cons ⟨_, [(.t 43, .d (.sl 1 (t1.mMembers.map (eI .i64))))]⟩ (v_load_dp1 rfl trivial rfl (ble _ _ rfl) onT23 rfl rfl) ?_
      obtain ⟨t44, c23, h⟩ := bpos h
      refine sq_cons ⟨_, [(.t 44, bV t44)]⟩ (w_call (ds := [(.sl 5 (t1.mPlaces.map ePlace)), (.sl 1 (t1.mMembers.map (eI .i64)))]) (caps := []) (l := [(.s (.bool t44))]) (s17 k t1.mPlaces t1.mMembers _ c23) rfl rfl rfl en17 trivial rfl (ble _ _ rfl) (.inl ⟨rfl, rfl⟩) rfl rfl) ?_
      refine sq_cons ⟨_, [(.t 45, bV (!t44))]⟩ (v_un rfl trivial rfl (ble _ _ rfl) rfl (u_not rfl)) ?_
      refine sq_nil ?_
      refine ht_cond (b := (!t44)) rfl (fun e24 => ?_) (fun e24 => ?_)
      · replace h := cpos e24 h
        refine ht_exit ?_
        refine tq ?_
        refine bq_hit ?_
        refine ht_seq ?_
        refine ht_region ?_
        refine sq_cons ⟨_, [(.t 132, .d (.agg (eClient t0)))]⟩ (w_ldb 2 0 rfl trivial rfl (ble _ _ rfl) ag29 rfl rfl (ble _ _ rfl) rfl) ?_
        refine sq_cons ⟨_, [(.t 133, .d (.agg (eTold (⟨false, (⟨0, 0, 0, ⟨#[]⟩, ⟨#[]⟩, false, ⟨#[]⟩, (⟨0, 0, 0⟩ : Stamp), ⟨#[]⟩, 0⟩ : Request), false, (⟨0, (⟨0, 0, 0⟩ : Stamp), false, ⟨#[]⟩, [], ⟨#[]⟩, false⟩ : Answer), 0⟩ : Told))))]⟩ (w_bld zc41 ((eTold (⟨false, (⟨0, 0, 0, ⟨#[]⟩, ⟨#[]⟩, false, ⟨#[]⟩, (⟨0, 0, 0⟩ : Stamp), ⟨#[]⟩, 0⟩ : Request), false, (⟨0, (⟨0, 0, 0⟩ : Stamp), false, ⟨#[]⟩, [], ⟨#[]⟩, false⟩ : Answer), 0⟩ : Told)).map V.d) [] rfl trivial rfl (ble _ _ rfl) zw41 rfl ft41 rfl rfl rfl rfl) ?_
        refine sq_cons _ (v_store_box (id := 4) (off := 0) (cs := (eClient t0).map V.d) rfl trivial rfl sz29 rfl rfl rfl rfl (ones_of rfl) (ble _ _ rfl)) ?_
        refine sq_cons ⟨_, [(.t 5, .d (.s (.slice none 0 0)))]⟩ (v_move (.inr rfl) trivial rfl (ble _ _ rfl) rfl) ?_
        refine sq_cons _ (v_store_box (id := 6) (off := 0) (cs := (eTold (⟨false, (⟨0, 0, 0, ⟨#[]⟩, ⟨#[]⟩, false, ⟨#[]⟩, (⟨0, 0, 0⟩ : Stamp), ⟨#[]⟩, 0⟩ : Request), false, (⟨0, (⟨0, 0, 0⟩ : Stamp), false, ⟨#[]⟩, [], ⟨#[]⟩, false⟩ : Answer), 0⟩ : Told)).map V.d) rfl trivial rfl sz41 rfl rfl rfl rfl (ones_of rfl) (ble _ _ rfl)) ?_
        refine sq_nil ?_
        refine ht_ret ?_
        cases h
        exact retM_wk (wk_nil (.t 5) (nb 5) 36 rfl) (ret3 rfl (.cell rfl rfl ag29 (ble _ _ rfl) rfl) (.tmp rfl) (.cell rfl rfl ag41 (ble _ _ rfl) rfl))
      · replace h := cneg e24 h
        refine ht_skip ?_
        refine ht_seq ?_
        refine ht_region_draw mixed ?_
        refine rg_cons ⟨_, [(.t 46, .d (.dp (List.drop 34 (eMsg t1))))]⟩ (v_field_dp (a0 := 34) (cs := (eMsg t1)) rfl trivial rfl (ble _ _ rfl) fo35_13 rfl) ?_
        refine rg_cons ⟨_, [(.t 47, .d (.sl 5 (t1.mPlaces.map ePlace)))]⟩ (v_load_dp1 rfl trivial rfl (ble _ _ rfl) onT22 rfl rfl) ?_
        obtain ⟨t48, c25, h⟩ := bpos h
        refine rg_cons ⟨_, [(.t 48, .d (.sl 5 (t48.map ePlace)))]⟩ (w_call (ds := [(.sl 5 (t1.mPlaces.map ePlace))]) (caps := []) (l := [(.sl 5 (t48.map ePlace))]) (s18 k t1.mPlaces _ c25) rfl rfl rfl en18 trivial rfl (ble _ _ rfl) (.inl ⟨rfl, rfl⟩) rfl rfl) ?_
        refine rg_cons ⟨_, [(.t 49, .d (.dp (List.drop 35 (eMsg t1))))]⟩ (v_field_dp (a0 := 35) (cs := (eMsg t1)) rfl trivial rfl (ble _ _ rfl) fo35_14 rfl) ?_
        refine rg_cons ⟨_, [(.t 50, .d (.sl 1 (t1.mMembers.map (eI .i64))))]⟩ (v_load_dp1 rfl trivial rfl (ble _ _ rfl) onT23 rfl rfl) ?_
        obtain ⟨t51, c26, h⟩ := bpos h
        refine rg_cons ⟨_, [(.t 51, .d (.sl 1 (t51.map (eI .i64))))]⟩ (w_call (ds := [(.sl 1 (t1.mMembers.map (eI .i64)))]) (caps := []) (l := [(.sl 1 (t51.map (eI .i64)))]) (s19 k t1.mMembers _ c26) rfl rfl rfl en19 trivial rfl (ble _ _ rfl) (.inl ⟨rfl, rfl⟩) rfl rfl) ?_
        refine rg_cons ⟨_, [(.t 52, .ptr 2 2)]⟩ (v_field_box (off := 0) (a0 := 2) rfl trivial rfl (ble _ _ rfl) fo29_2 rfl) ?_
        refine rg_cons _ (v_store_box (id := 2) (off := 2) (cs := [(.sl 5 (t48.map ePlace))].map V.d) rfl trivial rfl sz22 rfl rfl rfl rfl (ones_of rfl) (ble _ _ rfl)) ?_
        refine rg_cons ⟨_, [(.t 53, .ptr 2 3)]⟩ (v_field_box (off := 0) (a0 := 3) rfl trivial rfl (ble _ _ rfl) fo29_3 rfl) ?_
        refine rg_cons _ (v_store_box (id := 2) (off := 3) (cs := [(.sl 1 (t51.map (eI .i64)))].map V.d) rfl trivial rfl sz23 rfl rfl rfl rfl (ones_of rfl) (ble _ _ rfl)) ?_
        refine rg_nil ⟨by kernel_rfl, ?_⟩
        refine ht_seq ?_
        refine ht_region ?_
        refine sq_cons ⟨_, [(.t 54, bV ((!eqI t0.mReq.mReq 0) && (!t0.mOpens)))]⟩ (v_move (.inl rfl) trivial rfl (ble _ _ rfl) rfl) ?_
        refine sq_cons ⟨_, [(.t 55, bV ((!eqI t0.mReq.mReq 0) && (!t0.mOpens)))]⟩ (v_move (.inl rfl) trivial rfl (ble _ _ rfl) rfl) ?_
        refine sq_cons ⟨_, [(.t 56, mg ((!eqI t0.mReq.mReq 0) && (!t0.mOpens)) (.ptr 2 17))]⟩ (v_cT rfl rfl rfl (ble _ _ rfl) rfl fun e27 => (v_field_box (off := 0) (a0 := 17) rfl ⟨_, rfl, be e27⟩ rfl (ble _ _ rfl) fo29_6 rfl)) ?_
        refine sq_cons ⟨_, [(.t 57, mg ((!eqI t0.mReq.mReq 0) && (!t0.mOpens)) (iV t0.mTries))]⟩ (v_cT rfl rfl rfl (ble _ _ rfl) rfl fun e28 => (v_load_box1 (id := 2) (off := 17) rfl ⟨_, rfl, be e28⟩ rfl (ble _ _ rfl) onT3 (gv e28) rfl (ble _ _ rfl) rfl)) ?_
        refine sq_cons ⟨_, [(.t 58, mg ((!eqI t0.mReq.mReq 0) && (!t0.mOpens)) (bV (ltI 0 t0.mTries)))]⟩ (v_cT rfl rfl rfl (ble _ _ rfl) rfl fun e29 => (v_bin rfl ⟨_, rfl, be e29⟩ rfl (ble _ _ rfl) (gv e29) rfl (b_gtr rfl))) ?_
        refine sq_cons ⟨_, [(.t 59, bV (((!eqI t0.mReq.mReq 0) && (!t0.mOpens)) && (ltI 0 t0.mTries)))]⟩ (v_pickB rfl trivial rfl (ble _ _ rfl) rfl (fun e30 => (gv e30)) (fun e31 => rfl) (pA _ _)) ?_
        refine sq_nil ?_
        refine ht_cond (b := (((!eqI t0.mReq.mReq 0) && (!t0.mOpens)) && (ltI 0 t0.mTries))) rfl (fun e32 => ?_) (fun e32 => ?_)
        · replace h := cpos e32 h
          refine ht_seq ?_
          refine ht_region_draw mixed ?_
          refine rg_cons ⟨_, [(.t 60, .d (.agg (eClient ({t0 with mPlaces := t48, mLeads := t51}))))]⟩ (w_ldb 2 0 rfl trivial rfl (ble _ _ rfl) ag29 rfl rfl (ble _ _ rfl) rfl) ?_
          refine rg_cons ⟨_, [(.t 61, .d (.agg (eClient ({t0 with mPlaces := t48, mLeads := t51}))))]⟩ (w_ldb 2 0 rfl trivial rfl (ble _ _ rfl) ag29 rfl rfl (ble _ _ rfl) rfl) ?_
          obtain ⟨t62, c33, h⟩ := bpos h
          refine rg_cons ⟨_, [(.t 62, .d (.sl 36 (t62.map eMsg)))]⟩ (w_call (ds := [(.agg (eClient ({t0 with mPlaces := t48, mLeads := t51})))]) (caps := []) (l := [(.sl 36 (t62.map eMsg))]) (s15 k ({t0 with mPlaces := t48, mLeads := t51}) _ c33) rfl rfl rfl en15 trivial rfl (ble _ _ rfl) (.inl ⟨rfl, rfl⟩) rfl rfl) ?_
          refine rg_cons ⟨_, [(.t 63, .d (.agg (eTold (⟨false, (⟨0, 0, 0, ⟨#[]⟩, ⟨#[]⟩, false, ⟨#[]⟩, (⟨0, 0, 0⟩ : Stamp), ⟨#[]⟩, 0⟩ : Request), false, (⟨0, (⟨0, 0, 0⟩ : Stamp), false, ⟨#[]⟩, [], ⟨#[]⟩, false⟩ : Answer), 0⟩ : Told))))]⟩ (w_bld zc41 ((eTold (⟨false, (⟨0, 0, 0, ⟨#[]⟩, ⟨#[]⟩, false, ⟨#[]⟩, (⟨0, 0, 0⟩ : Stamp), ⟨#[]⟩, 0⟩ : Request), false, (⟨0, (⟨0, 0, 0⟩ : Stamp), false, ⟨#[]⟩, [], ⟨#[]⟩, false⟩ : Answer), 0⟩ : Told)).map V.d) [] rfl trivial rfl (ble _ _ rfl) zw41 rfl ft41 rfl rfl rfl rfl) ?_
          refine rg_cons _ (v_store_box (id := 4) (off := 0) (cs := (eClient ({t0 with mPlaces := t48, mLeads := t51})).map V.d) rfl trivial rfl sz29 rfl rfl rfl rfl (ones_of rfl) (ble _ _ rfl)) ?_
          refine rg_cons ⟨_, [(.t 5, .d (.sl 36 (t62.map eMsg)))]⟩ (v_move (.inr rfl) trivial rfl (ble _ _ rfl) rfl) ?_
          refine rg_cons _ (v_store_box (id := 6) (off := 0) (cs := (eTold (⟨false, (⟨0, 0, 0, ⟨#[]⟩, ⟨#[]⟩, false, ⟨#[]⟩, (⟨0, 0, 0⟩ : Stamp), ⟨#[]⟩, 0⟩ : Request), false, (⟨0, (⟨0, 0, 0⟩ : Stamp), false, ⟨#[]⟩, [], ⟨#[]⟩, false⟩ : Answer), 0⟩ : Told)).map V.d) rfl trivial rfl sz41 rfl rfl rfl rfl (ones_of rfl) (ble _ _ rfl)) ?_
          refine rg_nil ⟨by kernel_rfl, ?_⟩
          refine ht_ret ?_
          cases h
          exact ret3 rfl (.cell rfl rfl ag29 (ble _ _ rfl) rfl) (.tmp rfl) (.cell rfl rfl ag41 (ble _ _ rfl) rfl)
        · replace h := cneg e32 h
          refine ht_skip ?_
          refine ht_seq ?_
          refine ht_region ?_
          refine sq_cons ⟨_, [(.t 132, .d (.agg (eClient ({t0 with mPlaces := t48, mLeads := t51}))))]⟩ (w_ldb 2 0 rfl trivial rfl (ble _ _ rfl) ag29 rfl rfl (ble _ _ rfl) rfl) ?_
          refine sq_cons ⟨_, [(.t 133, .d (.agg (eTold (⟨false, (⟨0, 0, 0, ⟨#[]⟩, ⟨#[]⟩, false, ⟨#[]⟩, (⟨0, 0, 0⟩ : Stamp), ⟨#[]⟩, 0⟩ : Request), false, (⟨0, (⟨0, 0, 0⟩ : Stamp), false, ⟨#[]⟩, [], ⟨#[]⟩, false⟩ : Answer), 0⟩ : Told))))]⟩ (w_bld zc41 ((eTold (⟨false, (⟨0, 0, 0, ⟨#[]⟩, ⟨#[]⟩, false, ⟨#[]⟩, (⟨0, 0, 0⟩ : Stamp), ⟨#[]⟩, 0⟩ : Request), false, (⟨0, (⟨0, 0, 0⟩ : Stamp), false, ⟨#[]⟩, [], ⟨#[]⟩, false⟩ : Answer), 0⟩ : Told)).map V.d) [] rfl trivial rfl (ble _ _ rfl) zw41 rfl ft41 rfl rfl rfl rfl) ?_
          refine sq_cons _ (v_store_box (id := 4) (off := 0) (cs := (eClient ({t0 with mPlaces := t48, mLeads := t51})).map V.d) rfl trivial rfl sz29 rfl rfl rfl rfl (ones_of rfl) (ble _ _ rfl)) ?_
          refine sq_cons ⟨_, [(.t 5, .d (.s (.slice none 0 0)))]⟩ (v_move (.inr rfl) trivial rfl (ble _ _ rfl) rfl) ?_
          refine sq_cons _ (v_store_box (id := 6) (off := 0) (cs := (eTold (⟨false, (⟨0, 0, 0, ⟨#[]⟩, ⟨#[]⟩, false, ⟨#[]⟩, (⟨0, 0, 0⟩ : Stamp), ⟨#[]⟩, 0⟩ : Request), false, (⟨0, (⟨0, 0, 0⟩ : Stamp), false, ⟨#[]⟩, [], ⟨#[]⟩, false⟩ : Answer), 0⟩ : Told)).map V.d) rfl trivial rfl sz41 rfl rfl rfl rfl (ones_of rfl) (ble _ _ rfl)) ?_
          refine sq_nil ?_
          refine ht_ret ?_
          cases h
          exact retM_wk (wk_nil (.t 5) (nb 5) 36 rfl) (ret3 rfl (.cell rfl rfl ag29 (ble _ _ rfl) rfl) (.tmp rfl) (.cell rfl rfl ag41 (ble _ _ rfl) rfl))
    · replace h := cneg e22 h
      refine ht_seq ?_
      refine ht_region ?_
      refine sq_cons ⟨_, [(.t 65, bV (eqI t1.mKind 2))]⟩ (v_bin rfl trivial rfl (ble _ _ rfl) rfl rfl (b_eql rfl)) ?_
      refine sq_cons ⟨_, [(.t 64, bV (eqI t1.mKind 2))]⟩ (v_move (.inr rfl) trivial rfl (ble _ _ rfl) rfl) ?_
      refine sq_nil ?_
      refine ht_cond (b := (eqI t1.mKind 2)) rfl (fun e34 => ?_) (fun e34 => ?_)
      · replace h := cpos e34 h
        refine ht_seq ?_
        refine ht_seq ?_
        refine ht_region ?_
        refine sq_cons ⟨_, [(.t 66, bV ((!eqI t0.mReq.mReq 0) && (!t0.mOpens)))]⟩ (v_move (.inl rfl) trivial rfl (ble _ _ rfl) rfl) ?_
        refine sq_cons ⟨_, [(.t 67, bV (!((!eqI t0.mReq.mReq 0) && (!t0.mOpens))))]⟩ (v_un rfl trivial rfl (ble _ _ rfl) rfl (u_not rfl)) ?_
        refine sq_cons ⟨_, [(.t 68, bV (!((!eqI t0.mReq.mReq 0) && (!t0.mOpens))))]⟩ (v_move (.inl rfl) trivial rfl (ble _ _ rfl) rfl) ?_
        refine sq_cons ⟨_, [(.t 69, mg (!(!((!eqI t0.mReq.mReq 0) && (!t0.mOpens)))) (.d (.dp (List.drop 13 (eMsg t1)))))]⟩ (v_cF rfl rfl rfl (ble _ _ rfl) rfl fun e35 => (v_field_dp (a0 := 13) (cs := (eMsg t1)) rfl ⟨_, rfl, be e35⟩ rfl (ble _ _ rfl) fo35_11 rfl)) ?_
        refine sq_cons ⟨_, [(.t 70, mg (!(!((!eqI t0.mReq.mReq 0) && (!t0.mOpens)))) (.d (.dp (List.drop 13 (eMsg t1)))))]⟩ (v_cF rfl rfl rfl (ble _ _ rfl) rfl fun e36 => (v_field_dp (a0 := 0) (cs := (List.drop 13 (eMsg t1))) rfl ⟨_, rfl, be e36⟩ rfl (ble _ _ rfl) fo27_0 (gv (nF e36)))) ?_
        refine sq_cons ⟨_, [(.t 71, mg (!(!((!eqI t0.mReq.mReq 0) && (!t0.mOpens)))) (iV t1.mReq.mClient))]⟩ (v_cF rfl rfl rfl (ble _ _ rfl) rfl fun e37 => (v_load_dp1 rfl ⟨_, rfl, be e37⟩ rfl (ble _ _ rfl) onT3 (gv (nF e37)) rfl)) ?_
        refine sq_cons ⟨_, [(.t 72, mg (!(!((!eqI t0.mReq.mReq 0) && (!t0.mOpens)))) (.ptr 2 0))]⟩ (v_cF rfl rfl rfl (ble _ _ rfl) rfl fun e38 => (v_field_box (off := 0) (a0 := 0) rfl ⟨_, rfl, be e38⟩ rfl (ble _ _ rfl) fo29_0 rfl)) ?_
        refine sq_cons ⟨_, [(.t 73, mg (!(!((!eqI t0.mReq.mReq 0) && (!t0.mOpens)))) (iV t0.mID))]⟩ (v_cF rfl rfl rfl (ble _ _ rfl) rfl fun e39 => (v_load_box1 (id := 2) (off := 0) rfl ⟨_, rfl, be e39⟩ rfl (ble _ _ rfl) onT3 (gv (nF e39)) rfl (ble _ _ rfl) rfl)) ?_
        refine sq_cons ⟨_, [(.t 74, mg (!(!((!eqI t0.mReq.mReq 0) && (!t0.mOpens)))) (bV (!eqI t1.mReq.mClient t0.mID)))]⟩ (v_cF rfl rfl rfl (ble _ _ rfl) rfl fun e40 => (v_bin rfl ⟨_, rfl, be e40⟩ rfl (ble _ _ rfl) (gv (nF e40)) (gv (nF e40)) (b_neq rfl))) ?_
        refine sq_cons ⟨_, [(.t 75, bV ((!((!eqI t0.mReq.mReq 0) && (!t0.mOpens))) || (!eqI t1.mReq.mClient t0.mID)))]⟩ (v_pickB rfl trivial rfl (ble _ _ rfl) rfl (fun e41 => rfl) (fun e42 => (gv (nF e42))) (pO _ _)) ?_
        refine sq_cons ⟨_, [(.t 76, bV ((!((!eqI t0.mReq.mReq 0) && (!t0.mOpens))) || (!eqI t1.mReq.mClient t0.mID)))]⟩ (v_move (.inl rfl) trivial rfl (ble _ _ rfl) rfl) ?_
        refine sq_cons ⟨_, [(.t 77, mg (!((!((!eqI t0.mReq.mReq 0) && (!t0.mOpens))) || (!eqI t1.mReq.mClient t0.mID))) (.d (.dp (List.drop 13 (eMsg t1)))))]⟩ (v_cF rfl rfl rfl (ble _ _ rfl) rfl fun e43 => (v_field_dp (a0 := 13) (cs := (eMsg t1)) rfl ⟨_, rfl, be e43⟩ rfl (ble _ _ rfl) fo35_11 rfl)) ?_
        refine sq_cons ⟨_, [(.t 78, mg (!((!((!eqI t0.mReq.mReq 0) && (!t0.mOpens))) || (!eqI t1.mReq.mClient t0.mID))) (.d (.dp (List.drop 14 (eMsg t1)))))]⟩ (v_cF rfl rfl rfl (ble _ _ rfl) rfl fun e44 => (v_field_dp (a0 := 1) (cs := (List.drop 13 (eMsg t1))) rfl ⟨_, rfl, be e44⟩ rfl (ble _ _ rfl) fo27_1 (gv (nF e44)))) ?_
        refine sq_cons ⟨_, [(.t 79, mg (!((!((!eqI t0.mReq.mReq 0) && (!t0.mOpens))) || (!eqI t1.mReq.mClient t0.mID))) (iV t1.mReq.mReq))]⟩ (v_cF rfl rfl rfl (ble _ _ rfl) rfl fun e45 => (v_load_dp1 rfl ⟨_, rfl, be e45⟩ rfl (ble _ _ rfl) onT3 (gv (nF e45)) rfl)) ?_
        refine sq_cons ⟨_, [(.t 80, mg (!((!((!eqI t0.mReq.mReq 0) && (!t0.mOpens))) || (!eqI t1.mReq.mClient t0.mID))) (.ptr 2 4))]⟩ (v_cF rfl rfl rfl (ble _ _ rfl) rfl fun e46 => (v_field_box (off := 0) (a0 := 4) rfl ⟨_, rfl, be e46⟩ rfl (ble _ _ rfl) fo29_4 rfl)) ?_
        refine sq_cons ⟨_, [(.t 81, mg (!((!((!eqI t0.mReq.mReq 0) && (!t0.mOpens))) || (!eqI t1.mReq.mClient t0.mID))) (.ptr 2 5))]⟩ (v_cF rfl rfl rfl (ble _ _ rfl) rfl fun e47 => (v_field_box (off := 4) (a0 := 1) rfl ⟨_, rfl, be e47⟩ rfl (ble _ _ rfl) fo27_1 (gv (nF e47)))) ?_
        refine sq_cons ⟨_, [(.t 82, mg (!((!((!eqI t0.mReq.mReq 0) && (!t0.mOpens))) || (!eqI t1.mReq.mClient t0.mID))) (iV t0.mReq.mReq))]⟩ (v_cF rfl rfl rfl (ble _ _ rfl) rfl fun e48 => (v_load_box1 (id := 2) (off := 5) rfl ⟨_, rfl, be e48⟩ rfl (ble _ _ rfl) onT3 (gv (nF e48)) rfl (ble _ _ rfl) rfl)) ?_
        refine sq_cons ⟨_, [(.t 83, mg (!((!((!eqI t0.mReq.mReq 0) && (!t0.mOpens))) || (!eqI t1.mReq.mClient t0.mID))) (bV (!eqI t1.mReq.mReq t0.mReq.mReq)))]⟩ (v_cF rfl rfl rfl (ble _ _ rfl) rfl fun e49 => (v_bin rfl ⟨_, rfl, be e49⟩ rfl (ble _ _ rfl) (gv (nF e49)) (gv (nF e49)) (b_neq rfl))) ?_
        refine sq_cons ⟨_, [(.t 84, bV (((!((!eqI t0.mReq.mReq 0) && (!t0.mOpens))) || (!eqI t1.mReq.mClient t0.mID)) || (!eqI t1.mReq.mReq t0.mReq.mReq)))]⟩ (v_pickB rfl trivial rfl (ble _ _ rfl) rfl (fun e50 => rfl) (fun e51 => (gv (nF e51))) (pO _ _)) ?_
        refine sq_nil ?_
        refine ht_cond (b := (((!((!eqI t0.mReq.mReq 0) && (!t0.mOpens))) || (!eqI t1.mReq.mClient t0.mID)) || (!eqI t1.mReq.mReq t0.mReq.mReq))) rfl (fun e52 => ?_) (fun e52 => ?_)
        · replace h := cpos e52 h
          refine ht_exit ?_
          refine tq ?_
          refine bq_hit ?_
          refine ht_seq ?_
          refine ht_region ?_
          refine sq_cons ⟨_, [(.t 132, .d (.agg (eClient t0)))]⟩ (w_ldb 2 0 rfl trivial rfl (ble _ _ rfl) ag29 rfl rfl (ble _ _ rfl) rfl) ?_
          refine sq_cons ⟨_, [(.t 133, .d (.agg (eTold (⟨false, (⟨0, 0, 0, ⟨#[]⟩, ⟨#[]⟩, false, ⟨#[]⟩, (⟨0, 0, 0⟩ : Stamp), ⟨#[]⟩, 0⟩ : Request), false, (⟨0, (⟨0, 0, 0⟩ : Stamp), false, ⟨#[]⟩, [], ⟨#[]⟩, false⟩ : Answer), 0⟩ : Told))))]⟩ (w_bld zc41 ((eTold (⟨false, (⟨0, 0, 0, ⟨#[]⟩, ⟨#[]⟩, false, ⟨#[]⟩, (⟨0, 0, 0⟩ : Stamp), ⟨#[]⟩, 0⟩ : Request), false, (⟨0, (⟨0, 0, 0⟩ : Stamp), false, ⟨#[]⟩, [], ⟨#[]⟩, false⟩ : Answer), 0⟩ : Told)).map V.d) [] rfl trivial rfl (ble _ _ rfl) zw41 rfl ft41 rfl rfl rfl rfl) ?_
          refine sq_cons _ (v_store_box (id := 4) (off := 0) (cs := (eClient t0).map V.d) rfl trivial rfl sz29 rfl rfl rfl rfl (ones_of rfl) (ble _ _ rfl)) ?_
          refine sq_cons ⟨_, [(.t 5, .d (.s (.slice none 0 0)))]⟩ (v_move (.inr rfl) trivial rfl (ble _ _ rfl) rfl) ?_
          refine sq_cons _ (v_store_box (id := 6) (off := 0) (cs := (eTold (⟨false, (⟨0, 0, 0, ⟨#[]⟩, ⟨#[]⟩, false, ⟨#[]⟩, (⟨0, 0, 0⟩ : Stamp), ⟨#[]⟩, 0⟩ : Request), false, (⟨0, (⟨0, 0, 0⟩ : Stamp), false, ⟨#[]⟩, [], ⟨#[]⟩, false⟩ : Answer), 0⟩ : Told)).map V.d) rfl trivial rfl sz41 rfl rfl rfl rfl (ones_of rfl) (ble _ _ rfl)) ?_
          refine sq_nil ?_
          refine ht_ret ?_
          cases h
          exact retM_wk (wk_nil (.t 5) (nb 5) 36 rfl) (ret3 rfl (.cell rfl rfl ag29 (ble _ _ rfl) rfl) (.tmp rfl) (.cell rfl rfl ag41 (ble _ _ rfl) rfl))
        · replace h := cneg e52 h
          refine ht_skip ?_
          refine ht_seq ?_
          refine ht_region ?_
          refine sq_cons ⟨_, [(.t 85, .d (.dp (List.drop 25 (eMsg t1))))]⟩ (v_field_dp (a0 := 25) (cs := (eMsg t1)) rfl trivial rfl (ble _ _ rfl) fo35_12 rfl) ?_
          refine sq_cons ⟨_, [(.t 86, .d (.dp (List.drop 25 (eMsg t1))))]⟩ (v_field_dp (a0 := 0) (cs := (List.drop 25 (eMsg t1))) rfl trivial rfl (ble _ _ rfl) fo33_0 rfl) ?_
          refine sq_cons ⟨_, [(.t 87, iV t1.mAnswer.mErr)]⟩ (v_load_dp1 rfl trivial rfl (ble _ _ rfl) onT30 rfl rfl) ?_
          refine sq_nil ?_
          refine ht_block ?_
          refine ht_seq ?_
          refine ht_region ?_
          refine sq_cons ⟨_, [(.t 96, bV (eqI t1.mAnswer.mErr 10))]⟩ (v_bin rfl trivial rfl (ble _ _ rfl) rfl rfl (b_eql rfl)) ?_
          refine sq_cons ⟨_, [(.t 95, bV (eqI t1.mAnswer.mErr 10))]⟩ (v_move (.inr rfl) trivial rfl (ble _ _ rfl) rfl) ?_
          refine sq_nil ?_
          refine ht_cond (b := (eqI t1.mAnswer.mErr 10)) rfl (fun e53 => ?_) (fun e53 => ?_)
          · replace h := cpos e53 h
            refine ht_region ?_
            refine sq_cons ⟨_, [(.t 97, .ptr 2 2)]⟩ (v_field_box (off := 0) (a0 := 2) rfl trivial rfl (ble _ _ rfl) fo29_2 rfl) ?_
            refine sq_cons _ (v_store_box (id := 2) (off := 2) (cs := [(.s (.slice none 0 0))].map V.d) rfl trivial rfl sz22 rfl rfl rfl rfl (ones_of rfl) (ble _ _ rfl)) ?_
            refine sq_wk (wk_nil (.c 2 2) (nc 2 2) 5 rfl) ?_
            refine sq_cons ⟨_, [(.t 98, .ptr 2 3)]⟩ (v_field_box (off := 0) (a0 := 3) rfl trivial rfl (ble _ _ rfl) fo29_3 rfl) ?_
            refine sq_cons _ (v_store_box (id := 2) (off := 3) (cs := [(.s (.slice none 0 0))].map V.d) rfl trivial rfl sz23 rfl rfl rfl rfl (ones_of rfl) (ble _ _ rfl)) ?_
            refine sq_nil ?_
            refine ht_seq ?_
            refine ht_weak (wk_nil (.c 2 3) (nc 2 3) 1 rfl) ?_
            refine ht_region ?_
            refine sq_cons ⟨_, [(.t 132, .d (.agg (eClient ({t0 with mPlaces := ([] : List Place), mLeads := ([] : List Int)}))))]⟩ (w_ldb 2 0 rfl trivial rfl (ble _ _ rfl) ag29 rfl rfl (ble _ _ rfl) rfl) ?_
            refine sq_cons ⟨_, [(.t 133, .d (.agg (eTold (⟨false, (⟨0, 0, 0, ⟨#[]⟩, ⟨#[]⟩, false, ⟨#[]⟩, (⟨0, 0, 0⟩ : Stamp), ⟨#[]⟩, 0⟩ : Request), false, (⟨0, (⟨0, 0, 0⟩ : Stamp), false, ⟨#[]⟩, [], ⟨#[]⟩, false⟩ : Answer), 0⟩ : Told))))]⟩ (w_bld zc41 ((eTold (⟨false, (⟨0, 0, 0, ⟨#[]⟩, ⟨#[]⟩, false, ⟨#[]⟩, (⟨0, 0, 0⟩ : Stamp), ⟨#[]⟩, 0⟩ : Request), false, (⟨0, (⟨0, 0, 0⟩ : Stamp), false, ⟨#[]⟩, [], ⟨#[]⟩, false⟩ : Answer), 0⟩ : Told)).map V.d) [] rfl trivial rfl (ble _ _ rfl) zw41 rfl ft41 rfl rfl rfl rfl) ?_
            refine sq_cons _ (v_store_box (id := 4) (off := 0) (cs := (eClient ({t0 with mPlaces := ([] : List Place), mLeads := ([] : List Int)})).map V.d) rfl trivial rfl sz29 rfl rfl rfl rfl (ones_of rfl) (ble _ _ rfl)) ?_
            refine sq_cons ⟨_, [(.t 5, .d (.s (.slice none 0 0)))]⟩ (v_move (.inr rfl) trivial rfl (ble _ _ rfl) rfl) ?_
            refine sq_cons _ (v_store_box (id := 6) (off := 0) (cs := (eTold (⟨false, (⟨0, 0, 0, ⟨#[]⟩, ⟨#[]⟩, false, ⟨#[]⟩, (⟨0, 0, 0⟩ : Stamp), ⟨#[]⟩, 0⟩ : Request), false, (⟨0, (⟨0, 0, 0⟩ : Stamp), false, ⟨#[]⟩, [], ⟨#[]⟩, false⟩ : Answer), 0⟩ : Told)).map V.d) rfl trivial rfl sz41 rfl rfl rfl rfl (ones_of rfl) (ble _ _ rfl)) ?_
            refine sq_nil ?_
            refine ht_ret ?_
            cases h
            exact retM_wk (wk_nil (.t 5) (nb 5) 36 rfl) (ret3 rfl (.cell rfl rfl ag29 (ble _ _ rfl) rfl) (.tmp rfl) (.cell rfl rfl ag41 (ble _ _ rfl) rfl))
          · replace h := cneg e53 h
            refine ht_seq ?_
            refine ht_region ?_
            refine sq_cons ⟨_, [(.t 100, bV (eqI t1.mAnswer.mErr 11))]⟩ (v_bin rfl trivial rfl (ble _ _ rfl) rfl rfl (b_eql rfl)) ?_
            refine sq_cons ⟨_, [(.t 99, bV (eqI t1.mAnswer.mErr 11))]⟩ (v_move (.inr rfl) trivial rfl (ble _ _ rfl) rfl) ?_
            refine sq_nil ?_
            refine ht_cond (b := (eqI t1.mAnswer.mErr 11)) rfl (fun e54 => ?_) (fun e54 => ?_)
            · replace h := cpos e54 h
              refine ht_skip ?_
              refine ht_seq ?_
              refine ht_region ?_
              refine sq_cons ⟨_, [(.t 132, .d (.agg (eClient t0)))]⟩ (w_ldb 2 0 rfl trivial rfl (ble _ _ rfl) ag29 rfl rfl (ble _ _ rfl) rfl) ?_
              refine sq_cons ⟨_, [(.t 133, .d (.agg (eTold (⟨false, (⟨0, 0, 0, ⟨#[]⟩, ⟨#[]⟩, false, ⟨#[]⟩, (⟨0, 0, 0⟩ : Stamp), ⟨#[]⟩, 0⟩ : Request), false, (⟨0, (⟨0, 0, 0⟩ : Stamp), false, ⟨#[]⟩, [], ⟨#[]⟩, false⟩ : Answer), 0⟩ : Told))))]⟩ (w_bld zc41 ((eTold (⟨false, (⟨0, 0, 0, ⟨#[]⟩, ⟨#[]⟩, false, ⟨#[]⟩, (⟨0, 0, 0⟩ : Stamp), ⟨#[]⟩, 0⟩ : Request), false, (⟨0, (⟨0, 0, 0⟩ : Stamp), false, ⟨#[]⟩, [], ⟨#[]⟩, false⟩ : Answer), 0⟩ : Told)).map V.d) [] rfl trivial rfl (ble _ _ rfl) zw41 rfl ft41 rfl rfl rfl rfl) ?_
              refine sq_cons _ (v_store_box (id := 4) (off := 0) (cs := (eClient t0).map V.d) rfl trivial rfl sz29 rfl rfl rfl rfl (ones_of rfl) (ble _ _ rfl)) ?_
              refine sq_cons ⟨_, [(.t 5, .d (.s (.slice none 0 0)))]⟩ (v_move (.inr rfl) trivial rfl (ble _ _ rfl) rfl) ?_
              refine sq_cons _ (v_store_box (id := 6) (off := 0) (cs := (eTold (⟨false, (⟨0, 0, 0, ⟨#[]⟩, ⟨#[]⟩, false, ⟨#[]⟩, (⟨0, 0, 0⟩ : Stamp), ⟨#[]⟩, 0⟩ : Request), false, (⟨0, (⟨0, 0, 0⟩ : Stamp), false, ⟨#[]⟩, [], ⟨#[]⟩, false⟩ : Answer), 0⟩ : Told)).map V.d) rfl trivial rfl sz41 rfl rfl rfl rfl (ones_of rfl) (ble _ _ rfl)) ?_
              refine sq_nil ?_
              refine ht_ret ?_
              cases h
              exact retM_wk (wk_nil (.t 5) (nb 5) 36 rfl) (ret3 rfl (.cell rfl rfl ag29 (ble _ _ rfl) rfl) (.tmp rfl) (.cell rfl rfl ag41 (ble _ _ rfl) rfl))
            · replace h := cneg e54 h
              refine ht_seq ?_
              refine ht_region ?_
              refine sq_cons ⟨_, [(.t 88, .d (.agg (eClient t0)))]⟩ (w_ldb 2 0 rfl trivial rfl (ble _ _ rfl) ag29 rfl rfl (ble _ _ rfl) rfl) ?_
              refine sq_cons ⟨_, [(.t 89, .d (.dp (List.drop 25 (eMsg t1))))]⟩ (v_field_dp (a0 := 25) (cs := (eMsg t1)) rfl trivial rfl (ble _ _ rfl) fo35_12 rfl) ?_
              refine sq_cons ⟨_, [(.t 90, .d (.agg (eAnswer t1.mAnswer)))]⟩ (w_ldp (List.drop 25 (eMsg t1)) (eAnswer t1.mAnswer) rfl trivial rfl (ble _ _ rfl) ag33 rfl (ble _ _ rfl) rfl) ?_
              obtain ⟨⟨t91a, t91b, t91c⟩, c55, h⟩ := bpos h
              refine sq_cons ⟨_, [(.t 91, .tup [.d (.agg (eClient t91a)), .d (.sl 36 (t91b.map eMsg)), .d (.agg (eTold t91c))])]⟩ (w_call (ds := [(.agg (eClient t0)), (.agg (eAnswer t1.mAnswer)), (.s (.int .i64 0))]) (caps := []) (l := [(.agg (eClient t91a)), (.sl 36 (t91b.map eMsg)), (.agg (eTold t91c))]) (s14 k t0 t1.mAnswer 0 _ c55) rfl rfl rfl en14 trivial rfl (ble _ _ rfl) (.inl ⟨rfl, rfl⟩) rfl rfl) ?_
              refine sq_cons ⟨_, [(.t 92, .d (.agg (eClient t91a)))]⟩ (v_extract rfl trivial rfl (ble _ _ rfl) rfl rfl) ?_
              refine sq_cons ⟨_, [(.t 93, .d (.sl 36 (t91b.map eMsg)))]⟩ (v_extract rfl trivial rfl (ble _ _ rfl) rfl rfl) ?_
              refine sq_cons ⟨_, [(.t 94, .d (.agg (eTold t91c)))]⟩ (v_extract rfl trivial rfl (ble _ _ rfl) rfl rfl) ?_
              refine sq_cons _ (v_store_box (id := 4) (off := 0) (cs := (eClient t91a).map V.d) rfl trivial rfl sz29 rfl rfl rfl rfl (ones_of rfl) (ble _ _ rfl)) ?_
              refine sq_cons ⟨_, [(.t 5, .d (.sl 36 (t91b.map eMsg)))]⟩ (v_move (.inr rfl) trivial rfl (ble _ _ rfl) rfl) ?_
              refine sq_cons _ (v_store_box (id := 6) (off := 0) (cs := (eTold t91c).map V.d) rfl trivial rfl sz41 rfl rfl rfl rfl (ones_of rfl) (ble _ _ rfl)) ?_
              refine sq_nil ?_
              refine ht_ret ?_
              cases h
              exact ret3 rfl (.cell rfl rfl ag29 (ble _ _ rfl) rfl) (.tmp rfl) (.cell rfl rfl ag41 (ble _ _ rfl) rfl)
      · replace h := cneg e34 h
        refine ht_seq ?_
        refine ht_region ?_
        refine sq_cons ⟨_, [(.t 102, bV (eqI t1.mKind 6))]⟩ (v_bin rfl trivial rfl (ble _ _ rfl) rfl rfl (b_eql rfl)) ?_
        refine sq_cons ⟨_, [(.t 101, bV (eqI t1.mKind 6))]⟩ (v_move (.inr rfl) trivial rfl (ble _ _ rfl) rfl) ?_
        refine sq_nil ?_
        refine ht_cond (b := (eqI t1.mKind 6)) rfl (fun e56 => ?_) (fun e56 => ?_)
        · replace h := cpos e56 h
          refine ht_seq ?_
          refine ht_region ?_
          refine sq_cons ⟨_, [(.t 103, .ptr 2 4)]⟩ (v_field_box (off := 0) (a0 := 4) rfl trivial rfl (ble _ _ rfl) fo29_4 rfl) ?_
          refine sq_cons ⟨_, [(.t 104, .ptr 2 5)]⟩ (v_field_box (off := 4) (a0 := 1) rfl trivial rfl (ble _ _ rfl) fo27_1 rfl) ?_
          refine sq_cons ⟨_, [(.t 105, iV t0.mReq.mReq)]⟩ (v_load_box1 (id := 2) (off := 5) rfl trivial rfl (ble _ _ rfl) onT3 rfl rfl (ble _ _ rfl) rfl) ?_
          refine sq_cons ⟨_, [(.t 106, bV (!eqI t0.mReq.mReq 0))]⟩ (v_bin rfl trivial rfl (ble _ _ rfl) rfl rfl (b_neq rfl)) ?_
          refine sq_cons ⟨_, [(.t 107, bV (!eqI t0.mReq.mReq 0))]⟩ (v_move (.inl rfl) trivial rfl (ble _ _ rfl) rfl) ?_
          refine sq_cons ⟨_, [(.t 108, mg (!eqI t0.mReq.mReq 0) (.ptr 2 16))]⟩ (v_cT rfl rfl rfl (ble _ _ rfl) rfl fun e57 => (v_field_box (off := 0) (a0 := 16) rfl ⟨_, rfl, be e57⟩ rfl (ble _ _ rfl) fo29_5 rfl)) ?_
          refine sq_cons ⟨_, [(.t 109, mg (!eqI t0.mReq.mReq 0) (bV t0.mOpens))]⟩ (v_cT rfl rfl rfl (ble _ _ rfl) rfl fun e58 => (v_load_box1 (id := 2) (off := 16) rfl ⟨_, rfl, be e58⟩ rfl (ble _ _ rfl) onT4 (gv e58) rfl (ble _ _ rfl) rfl)) ?_
          refine sq_cons ⟨_, [(.t 110, bV ((!eqI t0.mReq.mReq 0) && t0.mOpens))]⟩ (v_pickB rfl trivial rfl (ble _ _ rfl) rfl (fun e59 => (gv e59)) (fun e60 => rfl) (pA _ _)) ?_
          refine sq_cons ⟨_, [(.t 111, bV ((!eqI t0.mReq.mReq 0) && t0.mOpens))]⟩ (v_move (.inl rfl) trivial rfl (ble _ _ rfl) rfl) ?_
          refine sq_cons ⟨_, [(.t 112, mg ((!eqI t0.mReq.mReq 0) && t0.mOpens) (.d (.dp (List.drop 7 (eMsg t1)))))]⟩ (v_cT rfl rfl rfl (ble _ _ rfl) rfl fun e61 => (v_field_dp (a0 := 7) (cs := (eMsg t1)) rfl ⟨_, rfl, be e61⟩ rfl (ble _ _ rfl) fo35_7 rfl)) ?_
          refine sq_cons ⟨_, [(.t 113, mg ((!eqI t0.mReq.mReq 0) && t0.mOpens) (iV t1.mN))]⟩ (v_cT rfl rfl rfl (ble _ _ rfl) rfl fun e62 => (v_load_dp1 rfl ⟨_, rfl, be e62⟩ rfl (ble _ _ rfl) onT3 (gv e62) rfl)) ?_
          refine sq_cons ⟨_, [(.t 114, mg ((!eqI t0.mReq.mReq 0) && t0.mOpens) (.ptr 2 4))]⟩ (v_cT rfl rfl rfl (ble _ _ rfl) rfl fun e63 => (v_field_box (off := 0) (a0 := 4) rfl ⟨_, rfl, be e63⟩ rfl (ble _ _ rfl) fo29_4 rfl)) ?_
          refine sq_cons ⟨_, [(.t 115, mg ((!eqI t0.mReq.mReq 0) && t0.mOpens) (.ptr 2 5))]⟩ (v_cT rfl rfl rfl (ble _ _ rfl) rfl fun e64 => (v_field_box (off := 4) (a0 := 1) rfl ⟨_, rfl, be e64⟩ rfl (ble _ _ rfl) fo27_1 (gv e64))) ?_
          refine sq_cons ⟨_, [(.t 116, mg ((!eqI t0.mReq.mReq 0) && t0.mOpens) (iV t0.mReq.mReq))]⟩ (v_cT rfl rfl rfl (ble _ _ rfl) rfl fun e65 => (v_load_box1 (id := 2) (off := 5) rfl ⟨_, rfl, be e65⟩ rfl (ble _ _ rfl) onT3 (gv e65) rfl (ble _ _ rfl) rfl)) ?_
          refine sq_cons ⟨_, [(.t 117, mg ((!eqI t0.mReq.mReq 0) && t0.mOpens) (bV (eqI t1.mN t0.mReq.mReq)))]⟩ (v_cT rfl rfl rfl (ble _ _ rfl) rfl fun e66 => (v_bin rfl ⟨_, rfl, be e66⟩ rfl (ble _ _ rfl) (gv e66) (gv e66) (b_eql rfl))) ?_
          refine sq_cons ⟨_, [(.t 118, bV (((!eqI t0.mReq.mReq 0) && t0.mOpens) && (eqI t1.mN t0.mReq.mReq)))]⟩ (v_pickB rfl trivial rfl (ble _ _ rfl) rfl (fun e67 => (gv e67)) (fun e68 => rfl) (pA _ _)) ?_
          refine sq_nil ?_
          refine ht_cond (b := (((!eqI t0.mReq.mReq 0) && t0.mOpens) && (eqI t1.mN t0.mReq.mReq))) rfl (fun e69 => ?_) (fun e69 => ?_)
          · replace h := cpos e69 h
            refine ht_seq ?_
            refine ht_region ?_
            refine sq_cons ⟨_, [(.t 119, .d (.dp (List.drop 25 (eMsg t1))))]⟩ (v_field_dp (a0 := 25) (cs := (eMsg t1)) rfl trivial rfl (ble _ _ rfl) fo35_12 rfl) ?_
            refine sq_cons ⟨_, [(.t 120, .d (.agg (eAnswer t1.mAnswer)))]⟩ (w_ldp (List.drop 25 (eMsg t1)) (eAnswer t1.mAnswer) rfl trivial rfl (ble _ _ rfl) ag33 rfl (ble _ _ rfl) rfl) ?_
            refine sq_cons _ (v_alloc (id := 8) (cs := zc33) rfl trivial rfl (ble _ _ rfl) zu33 rfl ft33 rfl) ?_
            refine sq_cons _ (v_store_box (id := 8) (off := 0) (cs := (eAnswer t1.mAnswer).map V.d) rfl trivial rfl sz33 rfl rfl rfl rfl (ones_of rfl) (ble _ _ rfl)) ?_
            refine sq_nil ?_
            refine ht_seq ?_
            refine ht_region ?_
            refine sq_cons ⟨_, [(.t 121, .d (.dp (List.drop 9 (eMsg t1))))]⟩ (v_field_dp (a0 := 9) (cs := (eMsg t1)) rfl trivial rfl (ble _ _ rfl) fo35_9 rfl) ?_
            refine sq_cons ⟨_, [(.t 122, .d (.agg (eStamp t1.mAt)))]⟩ (w_ldp (List.drop 9 (eMsg t1)) (eStamp t1.mAt) rfl trivial rfl (ble _ _ rfl) ag25 rfl (ble _ _ rfl) rfl) ?_
            refine sq_cons ⟨_, [(.t 123, .ptr 8 1)]⟩ (v_field_box (off := 0) (a0 := 1) rfl trivial rfl (ble _ _ rfl) fo33_1 rfl) ?_
            refine sq_cons _ (v_store_box (id := 8) (off := 1) (cs := (eStamp t1.mAt).map V.d) rfl trivial rfl sz25 rfl rfl rfl rfl (ones_of rfl) (ble _ _ rfl)) ?_
            refine sq_nil ?_
            refine ht_seq ?_
            refine ht_region ?_
            refine sq_cons ⟨_, [(.t 124, .d (.agg (eClient t0)))]⟩ (w_ldb 2 0 rfl trivial rfl (ble _ _ rfl) ag29 rfl rfl (ble _ _ rfl) rfl) ?_
            refine sq_cons ⟨_, [(.t 125, .d (.agg (eAnswer ({t1.mAnswer with mAt := t1.mAt}))))]⟩ (w_ldb 8 0 rfl trivial rfl (ble _ _ rfl) ag33 rfl rfl (ble _ _ rfl) rfl) ?_
            refine sq_cons ⟨_, [(.t 126, .d (.dp (List.drop 6 (eMsg t1))))]⟩ (v_field_dp (a0 := 6) (cs := (eMsg t1)) rfl trivial rfl (ble _ _ rfl) fo35_6 rfl) ?_
            refine sq_cons ⟨_, [(.t 127, iV t1.mLease)]⟩ (v_load_dp1 rfl trivial rfl (ble _ _ rfl) onT3 rfl rfl) ?_
            obtain ⟨⟨t128a, t128b, t128c⟩, c70, h⟩ := bpos h
            refine sq_cons ⟨_, [(.t 128, .tup [.d (.agg (eClient t128a)), .d (.sl 36 (t128b.map eMsg)), .d (.agg (eTold t128c))])]⟩ (w_call (ds := [(.agg (eClient t0)), (.agg (eAnswer ({t1.mAnswer with mAt := t1.mAt}))), (.s (.int .i64 t1.mLease))]) (caps := []) (l := [(.agg (eClient t128a)), (.sl 36 (t128b.map eMsg)), (.agg (eTold t128c))]) (s14 k t0 ({t1.mAnswer with mAt := t1.mAt}) t1.mLease _ c70) rfl rfl rfl en14 trivial rfl (ble _ _ rfl) (.inl ⟨rfl, rfl⟩) rfl rfl) ?_
            refine sq_cons ⟨_, [(.t 129, .d (.agg (eClient t128a)))]⟩ (v_extract rfl trivial rfl (ble _ _ rfl) rfl rfl) ?_
            refine sq_cons ⟨_, [(.t 130, .d (.sl 36 (t128b.map eMsg)))]⟩ (v_extract rfl trivial rfl (ble _ _ rfl) rfl rfl) ?_
            refine sq_cons ⟨_, [(.t 131, .d (.agg (eTold t128c)))]⟩ (v_extract rfl trivial rfl (ble _ _ rfl) rfl rfl) ?_
            refine sq_cons _ (v_store_box (id := 4) (off := 0) (cs := (eClient t128a).map V.d) rfl trivial rfl sz29 rfl rfl rfl rfl (ones_of rfl) (ble _ _ rfl)) ?_
            refine sq_cons ⟨_, [(.t 5, .d (.sl 36 (t128b.map eMsg)))]⟩ (v_move (.inr rfl) trivial rfl (ble _ _ rfl) rfl) ?_
            refine sq_cons _ (v_store_box (id := 6) (off := 0) (cs := (eTold t128c).map V.d) rfl trivial rfl sz41 rfl rfl rfl rfl (ones_of rfl) (ble _ _ rfl)) ?_
            refine sq_nil ?_
            refine ht_ret ?_
            cases h
            exact ret3 rfl (.cell rfl rfl ag29 (ble _ _ rfl) rfl) (.tmp rfl) (.cell rfl rfl ag41 (ble _ _ rfl) rfl)
          · replace h := cneg e69 h
            refine ht_skip ?_
            refine ht_seq ?_
            refine ht_region ?_
            refine sq_cons ⟨_, [(.t 132, .d (.agg (eClient t0)))]⟩ (w_ldb 2 0 rfl trivial rfl (ble _ _ rfl) ag29 rfl rfl (ble _ _ rfl) rfl) ?_
            refine sq_cons ⟨_, [(.t 133, .d (.agg (eTold (⟨false, (⟨0, 0, 0, ⟨#[]⟩, ⟨#[]⟩, false, ⟨#[]⟩, (⟨0, 0, 0⟩ : Stamp), ⟨#[]⟩, 0⟩ : Request), false, (⟨0, (⟨0, 0, 0⟩ : Stamp), false, ⟨#[]⟩, [], ⟨#[]⟩, false⟩ : Answer), 0⟩ : Told))))]⟩ (w_bld zc41 ((eTold (⟨false, (⟨0, 0, 0, ⟨#[]⟩, ⟨#[]⟩, false, ⟨#[]⟩, (⟨0, 0, 0⟩ : Stamp), ⟨#[]⟩, 0⟩ : Request), false, (⟨0, (⟨0, 0, 0⟩ : Stamp), false, ⟨#[]⟩, [], ⟨#[]⟩, false⟩ : Answer), 0⟩ : Told)).map V.d) [] rfl trivial rfl (ble _ _ rfl) zw41 rfl ft41 rfl rfl rfl rfl) ?_
            refine sq_cons _ (v_store_box (id := 4) (off := 0) (cs := (eClient t0).map V.d) rfl trivial rfl sz29 rfl rfl rfl rfl (ones_of rfl) (ble _ _ rfl)) ?_
            refine sq_cons ⟨_, [(.t 5, .d (.s (.slice none 0 0)))]⟩ (v_move (.inr rfl) trivial rfl (ble _ _ rfl) rfl) ?_
            refine sq_cons _ (v_store_box (id := 6) (off := 0) (cs := (eTold (⟨false, (⟨0, 0, 0, ⟨#[]⟩, ⟨#[]⟩, false, ⟨#[]⟩, (⟨0, 0, 0⟩ : Stamp), ⟨#[]⟩, 0⟩ : Request), false, (⟨0, (⟨0, 0, 0⟩ : Stamp), false, ⟨#[]⟩, [], ⟨#[]⟩, false⟩ : Answer), 0⟩ : Told)).map V.d) rfl trivial rfl sz41 rfl rfl rfl rfl (ones_of rfl) (ble _ _ rfl)) ?_
            refine sq_nil ?_
            refine ht_ret ?_
            cases h
            exact retM_wk (wk_nil (.t 5) (nb 5) 36 rfl) (ret3 rfl (.cell rfl rfl ag29 (ble _ _ rfl) rfl) (.tmp rfl) (.cell rfl rfl ag41 (ble _ _ rfl) rfl))
        · replace h := cneg e56 h
          refine ht_skip ?_
          refine ht_seq ?_
          refine ht_region ?_
          refine sq_cons ⟨_, [(.t 132, .d (.agg (eClient t0)))]⟩ (w_ldb 2 0 rfl trivial rfl (ble _ _ rfl) ag29 rfl rfl (ble _ _ rfl) rfl) ?_
          refine sq_cons ⟨_, [(.t 133, .d (.agg (eTold (⟨false, (⟨0, 0, 0, ⟨#[]⟩, ⟨#[]⟩, false, ⟨#[]⟩, (⟨0, 0, 0⟩ : Stamp), ⟨#[]⟩, 0⟩ : Request), false, (⟨0, (⟨0, 0, 0⟩ : Stamp), false, ⟨#[]⟩, [], ⟨#[]⟩, false⟩ : Answer), 0⟩ : Told))))]⟩ (w_bld zc41 ((eTold (⟨false, (⟨0, 0, 0, ⟨#[]⟩, ⟨#[]⟩, false, ⟨#[]⟩, (⟨0, 0, 0⟩ : Stamp), ⟨#[]⟩, 0⟩ : Request), false, (⟨0, (⟨0, 0, 0⟩ : Stamp), false, ⟨#[]⟩, [], ⟨#[]⟩, false⟩ : Answer), 0⟩ : Told)).map V.d) [] rfl trivial rfl (ble _ _ rfl) zw41 rfl ft41 rfl rfl rfl rfl) ?_
          refine sq_cons _ (v_store_box (id := 4) (off := 0) (cs := (eClient t0).map V.d) rfl trivial rfl sz29 rfl rfl rfl rfl (ones_of rfl) (ble _ _ rfl)) ?_
          refine sq_cons ⟨_, [(.t 5, .d (.s (.slice none 0 0)))]⟩ (v_move (.inr rfl) trivial rfl (ble _ _ rfl) rfl) ?_
          refine sq_cons _ (v_store_box (id := 6) (off := 0) (cs := (eTold (⟨false, (⟨0, 0, 0, ⟨#[]⟩, ⟨#[]⟩, false, ⟨#[]⟩, (⟨0, 0, 0⟩ : Stamp), ⟨#[]⟩, 0⟩ : Request), false, (⟨0, (⟨0, 0, 0⟩ : Stamp), false, ⟨#[]⟩, [], ⟨#[]⟩, false⟩ : Answer), 0⟩ : Told)).map V.d) rfl trivial rfl sz41 rfl rfl rfl rfl (ones_of rfl) (ble _ _ rfl)) ?_
          refine sq_nil ?_
          refine ht_ret ?_
          cases h
          exact retM_wk (wk_nil (.t 5) (nb 5) 36 rfl) (ret3 rfl (.cell rfl rfl ag29 (ble _ _ rfl) rfl) (.tmp rfl) (.cell rfl rfl ag41 (ble _ _ rfl) rfl))
set_option maxRecDepth 100000 in
set_option maxHeartbeats 4000000 in
theorem s10 (k : Nat) (t0 : Client) (r : Client) (h : F10 k t0 = some r) : Awp.Spec Tryd.prog amb 10 [(.agg (eClient t0))] (.ds [(.agg (eClient r))]) := by
  rw [F10] at h
  refine spec_of Tryd.func10 rfl (ble _ _ rfl) fun w0 ok0 lt0 hA => ?_
  refine ht_seq ?_
  refine ht_region ?_
  refine sq_cons ⟨_, [(.t 1, .d (.dp (eClient t0)))]⟩ (v_box_d (cs := (eClient t0)) rfl trivial rfl (ble _ _ rfl) rfl rfl (ones_of rfl)) ?_
  refine sq_cons _ (v_alloc (id := 2) (cs := zc46) rfl trivial rfl (ble _ _ rfl) zu46 rfl ft46 rfl) ?_
  refine sq_nil ?_
  refine ht_seq ?_
  refine ht_region ?_
  refine sq_cons ⟨_, [(.t 3, .d (.agg (eClient t0)))]⟩ (w_ldp (eClient t0) (eClient t0) rfl trivial rfl (ble _ _ rfl) ag29 rfl (ble _ _ rfl) rfl) ?_
  refine sq_cons _ (v_store_box (id := 2) (off := 0) (cs := (eClient t0).map V.d) rfl trivial rfl sz46 rfl rfl rfl rfl (ones_of rfl) (ble _ _ rfl)) ?_
  refine sq_nil ?_
  refine ht_ret ?_
  cases h
  exact ret1 rfl (.cell rfl rfl ag46 (ble _ _ rfl) rfl)
set_option maxRecDepth 100000 in
set_option maxHeartbeats 4000000 in
theorem s20 (k : Nat) (t0 : List Place) (t1 : List Place) (r : Bool) (h : F20 k t0 t1 = some r) : Awp.Spec Tryd.prog amb 20 [(.sl 5 (t0.map ePlace)), (.sl 5 (t1.map ePlace))] (.ds [(.s (.bool r))]) := by
  rw [F20] at h
  refine spec_of Tryd.func20 rfl (ble _ _ rfl) fun w0 ok0 lt0 hA => ?_
  refine ht_seq ?_
  refine ht_region ?_
  refine sq_cons ⟨_, [(.t 4, bV false)]⟩ (v_move (.inr rfl) trivial rfl (ble _ _ rfl) rfl) ?_
  refine sq_nil ?_
  refine ht_seq ?_
  refine ht_seq ?_
  refine ht_region ?_
  refine sq_cons ⟨_, [(.t 6, .d (.sl 5 (t0.map ePlace)))]⟩ (v_move (.inl rfl) trivial rfl (ble _ _ rfl) rfl) ?_
  refine sq_cons ⟨_, [(.t 7, iV (t0.length : Int))]⟩ (w_len t0 ePlace rfl rfl trivial rfl (ble _ _ rfl) slT22 rfl) ?_
  refine sq_cons ⟨_, [(.t 8, .d (.sl 5 (t1.map ePlace)))]⟩ (v_move (.inl rfl) trivial rfl (ble _ _ rfl) rfl) ?_
  refine sq_cons ⟨_, [(.t 9, iV (t1.length : Int))]⟩ (w_len t1 ePlace rfl rfl trivial rfl (ble _ _ rfl) slT22 rfl) ?_
  refine sq_cons ⟨_, [(.t 10, bV (!eqI (t0.length : Int) (t1.length : Int)))]⟩ (v_bin rfl trivial rfl (ble _ _ rfl) rfl rfl (b_neq rfl)) ?_
  refine sq_nil ?_
  refine ht_cond (b := (!eqI (t0.length : Int) (t1.length : Int))) rfl (fun e1 => ?_) (fun e1 => ?_)
  · replace h := cpos e1 h
    refine ht_seq ?_
    refine ht_region ?_
    refine sq_cons ⟨_, [(.t 4, bV false)]⟩ (v_move (.inr rfl) trivial rfl (ble _ _ rfl) rfl) ?_
    refine sq_nil ?_
    refine ht_ret ?_
    cases h
    exact ret1 rfl (.tmp rfl)
  · replace h := cneg e1 h
    refine ht_skip ?_
    refine ht_gj (go_id' h) (fun _ => tell []) (fun _ h => ?_) (fun v2 K3 h j5 r6 => ?_)
    · refine ht_seq ?_
      refine ht_region ?_
      refine sq_cons ⟨_, [(.t 4, bV true)]⟩ (v_move (.inr rfl) trivial rfl (ble _ _ rfl) rfl) ?_
      refine sq_nil ?_
      refine ht_ret ?_
      cases h
      exact ret1 rfl (.tmp rfl)
    · refine ht_seq ?_
      refine ht_region ?_
      refine sq_cons ⟨_, [(.t 5, iV 0)]⟩ (v_move (.inr rfl) trivial rfl (ble _ _ rfl) rfl) ?_
      refine sq_nil ?_
      refine ht_block ?_
      refine ht_rd h (fun _ => rfl) (fun t5 => tell [(.t 0, .d (.sl 5 (t0.map ePlace))), (.t 1, .d (.sl 5 (t1.map ePlace))), (.t 5, iV t5)]) (wk_ren _ (fun i => i) rfl ⟨rfl, rfl, rfl, trivial⟩) fun k t5 h K14 j8 => ?_
      rw [F20_l1] at h
      refine ht_seq ?_
      refine ht_seq ?_
      refine ht_region ?_
      refine sq_cons ⟨_, [(.t 11, iV t5)]⟩ (v_move (.inl rfl) trivial rfl (ble _ _ rfl) rfl) ?_
      refine sq_cons ⟨_, [(.t 12, .d (.sl 5 (t0.map ePlace)))]⟩ (v_move (.inl rfl) trivial rfl (ble _ _ rfl) rfl) ?_
      refine sq_cons ⟨_, [(.t 13, iV (t0.length : Int))]⟩ (w_len t0 ePlace rfl rfl trivial rfl (ble _ _ rfl) slT22 rfl) ?_
      refine sq_cons ⟨_, [(.t 14, bV (ltI t5 (t0.length : Int)))]⟩ (v_bin rfl trivial rfl (ble _ _ rfl) rfl rfl (b_lss rfl)) ?_
      refine sq_nil ?_
      refine ht_cond (b := (ltI t5 (t0.length : Int))) rfl (fun e10 => ?_) (fun e10 => ?_)
      · replace h := cpos e10 h
        refine ht_skip ?_
        refine ht_seq ?_
        refine ht_block ?_
        refine ht_seq ?_
        refine ht_region_draw mixed ?_
        refine rg_cons ⟨_, [(.t 17, .d (.sl 5 (t0.map ePlace)))]⟩ (v_move (.inl rfl) trivial rfl (ble _ _ rfl) rfl) ?_
        refine rg_cons ⟨_, [(.t 18, iV t5)]⟩ (v_move (.inl rfl) trivial rfl (ble _ _ rfl) rfl) ?_
        obtain ⟨e11, h⟩ := gpos h
        refine rg_cons ⟨_, [(.t 19, .d (.dp (ePlace (rd t0 t5))))]⟩ (w_idx t0 ePlace rfl trivial rfl (ble _ _ rfl) slT22 rfl rfl e11) ?_
        refine rg_cons ⟨_, [(.t 20, .d (.agg (ePlace (rd t0 t5))))]⟩ (w_ldp (ePlace (rd t0 t5)) (ePlace (rd t0 t5)) rfl trivial rfl (ble _ _ rfl) ag59 rfl (ble _ _ rfl) rfl) ?_
        refine rg_cons ⟨_, [(.t 21, .d (.sl 5 (t1.map ePlace)))]⟩ (v_move (.inl rfl) trivial rfl (ble _ _ rfl) rfl) ?_
        refine rg_cons ⟨_, [(.t 22, iV t5)]⟩ (v_move (.inl rfl) trivial rfl (ble _ _ rfl) rfl) ?_
        obtain ⟨e12, h⟩ := gpos h
        refine rg_cons ⟨_, [(.t 23, .d (.dp (ePlace (rd t1 t5))))]⟩ (w_idx t1 ePlace rfl trivial rfl (ble _ _ rfl) slT22 rfl rfl e12) ?_
        refine rg_cons ⟨_, [(.t 24, .d (.agg (ePlace (rd t1 t5))))]⟩ (w_ldp (ePlace (rd t1 t5)) (ePlace (rd t1 t5)) rfl trivial rfl (ble _ _ rfl) ag59 rfl (ble _ _ rfl) rfl) ?_
        refine rg_cons ⟨_, [(.t 25, bV (!(qPlace (rd t0 t5) (rd t1 t5))))]⟩ (v_bin_neq (f := ePlace) rfl trivial rfl (ble _ _ rfl) rfl rfl rfl rfl eg59 (eq59 _ _)) ?_
        refine rg_nil ⟨by kernel_rfl, ?_⟩
        refine ht_cond (b := (!(qPlace (rd t0 t5) (rd t1 t5)))) rfl (fun e13 => ?_) (fun e13 => ?_)
        · replace h := cpos e13 h
          refine ht_seq ?_
          refine ht_region ?_
          refine sq_cons ⟨_, [(.t 4, bV false)]⟩ (v_move (.inr rfl) trivial rfl (ble _ _ rfl) rfl) ?_
          refine sq_nil ?_
          refine ht_ret ?_
          cases h
          cases r6 _ rfl
          exact ret1 rfl (.tmp rfl)
        · replace h := cneg e13 h
          refine ht_skip ?_
          refine ht_region ?_
          refine sq_cons ⟨_, [(.t 15, iV t5)]⟩ (v_move (.inl rfl) trivial rfl (ble _ _ rfl) rfl) ?_
          refine sq_cons ⟨_, [(.t 16, iV (IntKind.wrap .i64 (t5 + 1)))]⟩ (v_bin rfl trivial rfl (ble _ _ rfl) rfl rfl (b_add rfl)) ?_
          refine sq_cons ⟨_, [(.t 5, iV (IntKind.wrap .i64 (t5 + 1)))]⟩ (v_move (.inr rfl) trivial rfl (ble _ _ rfl) rfl) ?_
          refine sq_nil ?_
          exact j8 _ _ h (wk_ren _ (fun i => i) rfl ⟨rfl, rfl, rfl, trivial⟩)
      · replace h := cneg e10 h
        refine ht_exit ?_
        refine tq ?_
        refine tq ?_
        refine bq_hit ?_
        cases h
        exact j5 _ _ rfl (wk_ren _ (fun i => i) rfl trivial)
set_option maxRecDepth 100000 in
set_option maxHeartbeats 4000000 in
theorem s9 (k : Nat) (t0 : Client) (t1 : Client) (r : Bool) (h : F9 k t0 t1 = some r) : Awp.Spec Tryd.prog amb 9 [(.agg (eClient t0)), (.agg (eClient t1))] (.ds [(.s (.bool r))]) := by
  rw [F9] at h
  refine spec_of Tryd.func9 rfl (ble _ _ rfl) fun w0 ok0 lt0 hA => ?_
  refine ht_seq ?_
  refine ht_region ?_
  refine sq_cons ⟨_, [(.t 2, .d (.dp (eClient t0)))]⟩ (v_box_d (cs := (eClient t0)) rfl trivial rfl (ble _ _ rfl) rfl rfl (ones_of rfl)) ?_
  refine sq_cons ⟨_, [(.t 3, .d (.dp (eClient t1)))]⟩ (v_box_d (cs := (eClient t1)) rfl trivial rfl (ble _ _ rfl) rfl rfl (ones_of rfl)) ?_
  refine sq_cons ⟨_, [(.t 4, bV false)]⟩ (v_move (.inr rfl) trivial rfl (ble _ _ rfl) rfl) ?_
  refine sq_nil ?_
  refine ht_seq ?_
  refine ht_seq ?_
  refine ht_region ?_
  refine sq_cons ⟨_, [(.t 6, .d (.dp (List.drop 3 (eClient t0))))]⟩ (v_field_dp (a0 := 3) (cs := (eClient t0)) rfl trivial rfl (ble _ _ rfl) fo46_3 rfl) ?_
  refine sq_cons ⟨_, [(.t 7, .d (.sl 1 (t0.mLeads.map (eI .i64))))]⟩ (v_load_dp1 rfl trivial rfl (ble _ _ rfl) onT23 rfl rfl) ?_
  refine sq_cons ⟨_, [(.t 8, iV (t0.mLeads.length : Int))]⟩ (w_len t0.mLeads (eI .i64) rfl rfl trivial rfl (ble _ _ rfl) slT23 rfl) ?_
  refine sq_cons ⟨_, [(.t 9, .d (.dp (List.drop 3 (eClient t1))))]⟩ (v_field_dp (a0 := 3) (cs := (eClient t1)) rfl trivial rfl (ble _ _ rfl) fo46_3 rfl) ?_
  refine sq_cons ⟨_, [(.t 10, .d (.sl 1 (t1.mLeads.map (eI .i64))))]⟩ (v_load_dp1 rfl trivial rfl (ble _ _ rfl) onT23 rfl rfl) ?_
  refine sq_cons ⟨_, [(.t 11, iV (t1.mLeads.length : Int))]⟩ (w_len t1.mLeads (eI .i64) rfl rfl trivial rfl (ble _ _ rfl) slT23 rfl) ?_
  refine sq_cons ⟨_, [(.t 12, bV (!eqI (t0.mLeads.length : Int) (t1.mLeads.length : Int)))]⟩ (v_bin rfl trivial rfl (ble _ _ rfl) rfl rfl (b_neq rfl)) ?_
  refine sq_nil ?_
  refine ht_cond (b := (!eqI (t0.mLeads.length : Int) (t1.mLeads.length : Int))) rfl (fun e1 => ?_) (fun e1 => ?_)
  · replace h := cpos e1 h
    refine ht_seq ?_
    refine ht_region ?_
    refine sq_cons ⟨_, [(.t 4, bV false)]⟩ (v_move (.inr rfl) trivial rfl (ble _ _ rfl) rfl) ?_
    refine sq_nil ?_
    refine ht_ret ?_
    cases h
    exact ret1 rfl (.tmp rfl)
  · replace h := cneg e1 h
    refine ht_skip ?_
    refine ht_gj (go_id' h) (fun _ => tell [(.t 2, .d (.dp (eClient t0))), (.t 3, .d (.dp (eClient t1)))]) (fun _ h => ?_) (fun v2 K3 h j5 r6 => ?_)
    · refine ht_seq ?_
      refine ht_region ?_
      refine sq_cons ⟨_, [(.t 31, .d (.dp (eClient t0)))]⟩ (v_field_dp (a0 := 0) (cs := (eClient t0)) rfl trivial rfl (ble _ _ rfl) fo46_0 rfl) ?_
      refine sq_cons ⟨_, [(.t 32, iV t0.mID)]⟩ (v_load_dp1 rfl trivial rfl (ble _ _ rfl) onT3 rfl rfl) ?_
      refine sq_cons ⟨_, [(.t 33, .d (.dp (eClient t1)))]⟩ (v_field_dp (a0 := 0) (cs := (eClient t1)) rfl trivial rfl (ble _ _ rfl) fo46_0 rfl) ?_
      refine sq_cons ⟨_, [(.t 34, iV t1.mID)]⟩ (v_load_dp1 rfl trivial rfl (ble _ _ rfl) onT3 rfl rfl) ?_
      refine sq_cons ⟨_, [(.t 35, bV (eqI t0.mID t1.mID))]⟩ (v_bin rfl trivial rfl (ble _ _ rfl) rfl rfl (b_eql rfl)) ?_
      refine sq_cons ⟨_, [(.t 36, bV (eqI t0.mID t1.mID))]⟩ (v_move (.inl rfl) trivial rfl (ble _ _ rfl) rfl) ?_
      refine sq_cons ⟨_, [(.t 37, mg (eqI t0.mID t1.mID) (.d (.dp (List.drop 1 (eClient t0)))))]⟩ (v_cT rfl rfl rfl (ble _ _ rfl) rfl fun e15 => (v_field_dp (a0 := 1) (cs := (eClient t0)) rfl ⟨_, rfl, be e15⟩ rfl (ble _ _ rfl) fo46_1 rfl)) ?_
      refine sq_cons ⟨_, [(.t 38, mg (eqI t0.mID t1.mID) (iV t0.mNext))]⟩ (v_cT rfl rfl rfl (ble _ _ rfl) rfl fun e16 => (v_load_dp1 rfl ⟨_, rfl, be e16⟩ rfl (ble _ _ rfl) onT3 (gv e16) rfl)) ?_
      refine sq_cons ⟨_, [(.t 39, mg (eqI t0.mID t1.mID) (.d (.dp (List.drop 1 (eClient t1)))))]⟩ (v_cT rfl rfl rfl (ble _ _ rfl) rfl fun e17 => (v_field_dp (a0 := 1) (cs := (eClient t1)) rfl ⟨_, rfl, be e17⟩ rfl (ble _ _ rfl) fo46_1 rfl)) ?_
      refine sq_cons ⟨_, [(.t 40, mg (eqI t0.mID t1.mID) (iV t1.mNext))]⟩ (v_cT rfl rfl rfl (ble _ _ rfl) rfl fun e18 => (v_load_dp1 rfl ⟨_, rfl, be e18⟩ rfl (ble _ _ rfl) onT3 (gv e18) rfl)) ?_
      refine sq_cons ⟨_, [(.t 41, mg (eqI t0.mID t1.mID) (bV (eqI t0.mNext t1.mNext)))]⟩ (v_cT rfl rfl rfl (ble _ _ rfl) rfl fun e19 => (v_bin rfl ⟨_, rfl, be e19⟩ rfl (ble _ _ rfl) (gv e19) (gv e19) (b_eql rfl))) ?_
      refine sq_cons ⟨_, [(.t 42, bV ((eqI t0.mID t1.mID) && (eqI t0.mNext t1.mNext)))]⟩ (v_pickB rfl trivial rfl (ble _ _ rfl) rfl (fun e20 => (gv e20)) (fun e21 => rfl) (pA _ _)) ?_
      refine sq_cons ⟨_, [(.t 43, bV ((eqI t0.mID t1.mID) && (eqI t0.mNext t1.mNext)))]⟩ (v_move (.inl rfl) trivial rfl (ble _ _ rfl) rfl) ?_
      refine sq_cons ⟨_, [(.t 44, mg ((eqI t0.mID t1.mID) && (eqI t0.mNext t1.mNext)) (.d (.dp (List.drop 2 (eClient t0)))))]⟩ (v_cT rfl rfl rfl (ble _ _ rfl) rfl fun e22 => (v_field_dp (a0 := 2) (cs := (eClient t0)) rfl ⟨_, rfl, be e22⟩ rfl (ble _ _ rfl) fo46_2 rfl)) ?_
      refine sq_cons ⟨_, [(.t 45, mg ((eqI t0.mID t1.mID) && (eqI t0.mNext t1.mNext)) (.d (.sl 5 (t0.mPlaces.map ePlace))))]⟩ (v_cT rfl rfl rfl (ble _ _ rfl) rfl fun e23 => (v_load_dp1 rfl ⟨_, rfl, be e23⟩ rfl (ble _ _ rfl) onT22 (gv e23) rfl)) ?_
      refine sq_cons ⟨_, [(.t 46, mg ((eqI t0.mID t1.mID) && (eqI t0.mNext t1.mNext)) (.d (.dp (List.drop 2 (eClient t1)))))]⟩ (v_cT rfl rfl rfl (ble _ _ rfl) rfl fun e24 => (v_field_dp (a0 := 2) (cs := (eClient t1)) rfl ⟨_, rfl, be e24⟩ rfl (ble _ _ rfl) fo46_2 rfl)) ?_
      refine sq_cons ⟨_, [(.t 47, mg ((eqI t0.mID t1.mID) && (eqI t0.mNext t1.mNext)) (.d (.sl 5 (t1.mPlaces.map ePlace))))]⟩ (v_cT rfl rfl rfl (ble _ _ rfl) rfl fun e25 => (v_load_dp1 rfl ⟨_, rfl, be e25⟩ rfl (ble _ _ rfl) onT22 (gv e25) rfl)) ?_
      obtain ⟨t48, c27, h⟩ := bpos h
      refine sq_cons ⟨_, [(.t 48, mg ((eqI t0.mID t1.mID) && (eqI t0.mNext t1.mNext)) (bV t48))]⟩ (v_cT rfl rfl rfl (ble _ _ rfl) rfl fun e26 => (w_call (ds := [(.sl 5 (t0.mPlaces.map ePlace)), (.sl 5 (t1.mPlaces.map ePlace))]) (caps := []) (l := [(.s (.bool t48))]) (s20 k t0.mPlaces t1.mPlaces _ (cpos e26 c27)) rfl rfl rfl en20 ⟨_, rfl, be e26⟩ rfl (ble _ _ rfl) (.inl ⟨rfl, rfl⟩) (cc (gv e26) (cc (gv e26) rfl)) rfl)) ?_
      refine sq_cons ⟨_, [(.t 49, bV (((eqI t0.mID t1.mID) && (eqI t0.mNext t1.mNext)) && t48))]⟩ (v_pickB rfl trivial rfl (ble _ _ rfl) rfl (fun e28 => (gv e28)) (fun e29 => rfl) (pA _ _)) ?_
      refine sq_cons ⟨_, [(.t 50, bV (((eqI t0.mID t1.mID) && (eqI t0.mNext t1.mNext)) && t48))]⟩ (v_move (.inl rfl) trivial rfl (ble _ _ rfl) rfl) ?_
      refine sq_cons ⟨_, [(.t 51, mg (((eqI t0.mID t1.mID) && (eqI t0.mNext t1.mNext)) && t48) (.d (.dp (List.drop 4 (eClient t0)))))]⟩ (v_cT rfl rfl rfl (ble _ _ rfl) rfl fun e30 => (v_field_dp (a0 := 4) (cs := (eClient t0)) rfl ⟨_, rfl, be e30⟩ rfl (ble _ _ rfl) fo46_4 rfl)) ?_
      refine sq_cons ⟨_, [(.t 52, mg (((eqI t0.mID t1.mID) && (eqI t0.mNext t1.mNext)) && t48) (.d (.agg (eRequest t0.mReq))))]⟩ (v_cT rfl rfl rfl (ble _ _ rfl) rfl fun e31 => (w_ldp (List.drop 4 (eClient t0)) (eRequest t0.mReq) rfl ⟨_, rfl, be e31⟩ rfl (ble _ _ rfl) ag27 (gv e31) (ble _ _ rfl) rfl)) ?_
      refine sq_cons ⟨_, [(.t 53, mg (((eqI t0.mID t1.mID) && (eqI t0.mNext t1.mNext)) && t48) (.d (.dp (List.drop 4 (eClient t1)))))]⟩ (v_cT rfl rfl rfl (ble _ _ rfl) rfl fun e32 => (v_field_dp (a0 := 4) (cs := (eClient t1)) rfl ⟨_, rfl, be e32⟩ rfl (ble _ _ rfl) fo46_4 rfl)) ?_
      refine sq_cons ⟨_, [(.t 54, mg (((eqI t0.mID t1.mID) && (eqI t0.mNext t1.mNext)) && t48) (.d (.agg (eRequest t1.mReq))))]⟩ (v_cT rfl rfl rfl (ble _ _ rfl) rfl fun e33 => (w_ldp (List.drop 4 (eClient t1)) (eRequest t1.mReq) rfl ⟨_, rfl, be e33⟩ rfl (ble _ _ rfl) ag27 (gv e33) (ble _ _ rfl) rfl)) ?_
      refine sq_cons ⟨_, [(.t 55, mg (((eqI t0.mID t1.mID) && (eqI t0.mNext t1.mNext)) && t48) (bV (qRequest t0.mReq t1.mReq)))]⟩ (v_cT rfl rfl rfl (ble _ _ rfl) rfl fun e34 => (v_bin_eql (f := eRequest) rfl ⟨_, rfl, be e34⟩ rfl (ble _ _ rfl) (gv e34) (gv e34) rfl rfl eg27 (eq27 _ _))) ?_
      refine sq_cons ⟨_, [(.t 56, bV ((((eqI t0.mID t1.mID) && (eqI t0.mNext t1.mNext)) && t48) && (qRequest t0.mReq t1.mReq)))]⟩ (v_pickB rfl trivial rfl (ble _ _ rfl) rfl (fun e35 => (gv e35)) (fun e36 => rfl) (pA _ _)) ?_
      refine sq_cons ⟨_, [(.t 57, bV ((((eqI t0.mID t1.mID) && (eqI t0.mNext t1.mNext)) && t48) && (qRequest t0.mReq t1.mReq)))]⟩ (v_move (.inl rfl) trivial rfl (ble _ _ rfl) rfl) ?_
      refine sq_cons ⟨_, [(.t 58, mg ((((eqI t0.mID t1.mID) && (eqI t0.mNext t1.mNext)) && t48) && (qRequest t0.mReq t1.mReq)) (.d (.dp (List.drop 16 (eClient t0)))))]⟩ (v_cT rfl rfl rfl (ble _ _ rfl) rfl fun e37 => (v_field_dp (a0 := 16) (cs := (eClient t0)) rfl ⟨_, rfl, be e37⟩ rfl (ble _ _ rfl) fo46_5 rfl)) ?_
      refine sq_cons ⟨_, [(.t 59, mg ((((eqI t0.mID t1.mID) && (eqI t0.mNext t1.mNext)) && t48) && (qRequest t0.mReq t1.mReq)) (bV t0.mOpens))]⟩ (v_cT rfl rfl rfl (ble _ _ rfl) rfl fun e38 => (v_load_dp1 rfl ⟨_, rfl, be e38⟩ rfl (ble _ _ rfl) onT4 (gv e38) rfl)) ?_
      refine sq_cons ⟨_, [(.t 60, mg ((((eqI t0.mID t1.mID) && (eqI t0.mNext t1.mNext)) && t48) && (qRequest t0.mReq t1.mReq)) (.d (.dp (List.drop 16 (eClient t1)))))]⟩ (v_cT rfl rfl rfl (ble _ _ rfl) rfl fun e39 => (v_field_dp (a0 := 16) (cs := (eClient t1)) rfl ⟨_, rfl, be e39⟩ rfl (ble _ _ rfl) fo46_5 rfl)) ?_
      refine sq_cons ⟨_, [(.t 61, mg ((((eqI t0.mID t1.mID) && (eqI t0.mNext t1.mNext)) && t48) && (qRequest t0.mReq t1.mReq)) (bV t1.mOpens))]⟩ (v_cT rfl rfl rfl (ble _ _ rfl) rfl fun e40 => (v_load_dp1 rfl ⟨_, rfl, be e40⟩ rfl (ble _ _ rfl) onT4 (gv e40) rfl)) ?_
      refine sq_cons ⟨_, [(.t 62, mg ((((eqI t0.mID t1.mID) && (eqI t0.mNext t1.mNext)) && t48) && (qRequest t0.mReq t1.mReq)) (bV (t0.mOpens == t1.mOpens)))]⟩ (v_cT rfl rfl rfl (ble _ _ rfl) rfl fun e41 => (v_bin rfl ⟨_, rfl, be e41⟩ rfl (ble _ _ rfl) (gv e41) (gv e41) (b_eqB und4 rfl))) ?_
      refine sq_cons ⟨_, [(.t 63, bV (((((eqI t0.mID t1.mID) && (eqI t0.mNext t1.mNext)) && t48) && (qRequest t0.mReq t1.mReq)) && (t0.mOpens == t1.mOpens)))]⟩ (v_pickB rfl trivial rfl (ble _ _ rfl) rfl (fun e42 => (gv e42)) (fun e43 => rfl) (pA _ _)) ?_
      refine sq_cons ⟨_, [(.t 64, bV (((((eqI t0.mID t1.mID) && (eqI t0.mNext t1.mNext)) && t48) && (qRequest t0.mReq t1.mReq)) && (t0.mOpens == t1.mOpens)))]⟩ (v_move (.inl rfl) trivial rfl (ble _ _ rfl) rfl) ?_
      refine sq_cons ⟨_, [(.t 65, mg (((((eqI t0.mID t1.mID) && (eqI t0.mNext t1.mNext)) && t48) && (qRequest t0.mReq t1.mReq)) && (t0.mOpens == t1.mOpens)) (.d (.dp (List.drop 17 (eClient t0)))))]⟩ (v_cT rfl rfl rfl (ble _ _ rfl) rfl fun e44 => (v_field_dp (a0 := 17) (cs := (eClient t0)) rfl ⟨_, rfl, be e44⟩ rfl (ble _ _ rfl) fo46_6 rfl)) ?_
      refine sq_cons ⟨_, [(.t 66, mg (((((eqI t0.mID t1.mID) && (eqI t0.mNext t1.mNext)) && t48) && (qRequest t0.mReq t1.mReq)) && (t0.mOpens == t1.mOpens)) (iV t0.mTries))]⟩ (v_cT rfl rfl rfl (ble _ _ rfl) rfl fun e45 => (v_load_dp1 rfl ⟨_, rfl, be e45⟩ rfl (ble _ _ rfl) onT3 (gv e45) rfl)) ?_
      refine sq_cons ⟨_, [(.t 67, mg (((((eqI t0.mID t1.mID) && (eqI t0.mNext t1.mNext)) && t48) && (qRequest t0.mReq t1.mReq)) && (t0.mOpens == t1.mOpens)) (.d (.dp (List.drop 17 (eClient t1)))))]⟩ (v_cT rfl rfl rfl (ble _ _ rfl) rfl fun e46 => (v_field_dp (a0 := 17) (cs := (eClient t1)) rfl ⟨_, rfl, be e46⟩ rfl (ble _ _ rfl) fo46_6 rfl)) ?_
      refine sq_cons ⟨_, [(.t 68, mg (((((eqI t0.mID t1.mID) && (eqI t0.mNext t1.mNext)) && t48) && (qRequest t0.mReq t1.mReq)) && (t0.mOpens == t1.mOpens)) (iV t1.mTries))]⟩ (v_cT rfl rfl rfl (ble _ _ rfl) rfl fun e47 => (v_load_dp1 rfl ⟨_, rfl, be e47⟩ rfl (ble _ _ rfl) onT3 (gv e47) rfl)) ?_
      refine sq_cons ⟨_, [(.t 69, mg (((((eqI t0.mID t1.mID) && (eqI t0.mNext t1.mNext)) && t48) && (qRequest t0.mReq t1.mReq)) && (t0.mOpens == t1.mOpens)) (bV (eqI t0.mTries t1.mTries)))]⟩ (v_cT rfl rfl rfl (ble _ _ rfl) rfl fun e48 => (v_bin rfl ⟨_, rfl, be e48⟩ rfl (ble _ _ rfl) (gv e48) (gv e48) (b_eql rfl))) ?_
      refine sq_cons ⟨_, [(.t 70, bV ((((((eqI t0.mID t1.mID) && (eqI t0.mNext t1.mNext)) && t48) && (qRequest t0.mReq t1.mReq)) && (t0.mOpens == t1.mOpens)) && (eqI t0.mTries t1.mTries)))]⟩ (v_pickB rfl trivial rfl (ble _ _ rfl) rfl (fun e49 => (gv e49)) (fun e50 => rfl) (pA _ _)) ?_
      refine sq_cons ⟨_, [(.t 4, bV ((((((eqI t0.mID t1.mID) && (eqI t0.mNext t1.mNext)) && t48) && (qRequest t0.mReq t1.mReq)) && (t0.mOpens == t1.mOpens)) && (eqI t0.mTries t1.mTries)))]⟩ (v_move (.inr rfl) trivial rfl (ble _ _ rfl) rfl) ?_
      refine sq_nil ?_
      refine ht_ret ?_
      cases h
      exact ret1 rfl (.tmp rfl)
    · refine ht_seq ?_
      refine ht_region ?_
      refine sq_cons ⟨_, [(.t 5, iV 0)]⟩ (v_move (.inr rfl) trivial rfl (ble _ _ rfl) rfl) ?_
      refine sq_nil ?_
      refine ht_block ?_
      refine ht_rd h (fun _ => rfl) (fun t5 => tell [(.t 2, .d (.dp (eClient t0))), (.t 3, .d (.dp (eClient t1))), (.t 5, iV t5)]) (wk_ren _ (fun i => i) rfl ⟨rfl, rfl, rfl, trivial⟩) fun k t5 h K14 j8 => ?_
      rw [F9_l1] at h
      refine ht_seq ?_
      refine ht_seq ?_
      refine ht_region ?_
      refine sq_cons ⟨_, [(.t 13, iV t5)]⟩ (v_move (.inl rfl) trivial rfl (ble _ _ rfl) rfl) ?_
      refine sq_cons ⟨_, [(.t 14, .d (.dp (List.drop 3 (eClient t0))))]⟩ (v_field_dp (a0 := 3) (cs := (eClient t0)) rfl trivial rfl (ble _ _ rfl) fo46_3 rfl) ?_
      refine sq_cons ⟨_, [(.t 15, .d (.sl 1 (t0.mLeads.map (eI .i64))))]⟩ (v_load_dp1 rfl trivial rfl (ble _ _ rfl) onT23 rfl rfl) ?_
      refine sq_cons ⟨_, [(.t 16, iV (t0.mLeads.length : Int))]⟩ (w_len t0.mLeads (eI .i64) rfl rfl trivial rfl (ble _ _ rfl) slT23 rfl) ?_
      refine sq_cons ⟨_, [(.t 17, bV (ltI t5 (t0.mLeads.length : Int)))]⟩ (v_bin rfl trivial rfl (ble _ _ rfl) rfl rfl (b_lss rfl)) ?_
      refine sq_nil ?_
      refine ht_cond (b := (ltI t5 (t0.mLeads.length : Int))) rfl (fun e10 => ?_) (fun e10 => ?_)
      · replace h := cpos e10 h
        refine ht_skip ?_
        refine ht_seq ?_
        refine ht_block ?_
        refine ht_seq ?_
        refine ht_region_draw mixed ?_
        refine rg_cons ⟨_, [(.t 20, .d (.dp (List.drop 3 (eClient t0))))]⟩ (v_field_dp (a0 := 3) (cs := (eClient t0)) rfl trivial rfl (ble _ _ rfl) fo46_3 rfl) ?_
        refine rg_cons ⟨_, [(.t 21, .d (.sl 1 (t0.mLeads.map (eI .i64))))]⟩ (v_load_dp1 rfl trivial rfl (ble _ _ rfl) onT23 rfl rfl) ?_
        refine rg_cons ⟨_, [(.t 22, iV t5)]⟩ (v_move (.inl rfl) trivial rfl (ble _ _ rfl) rfl) ?_
        obtain ⟨e11, h⟩ := gpos h
        refine rg_cons ⟨_, [(.t 23, .d (.dp [(.s (.int .i64 (rd t0.mLeads t5)))]))]⟩ (w_idx t0.mLeads (eI .i64) rfl trivial rfl (ble _ _ rfl) slT23 rfl rfl e11) ?_
        refine rg_cons ⟨_, [(.t 24, iV (rd t0.mLeads t5))]⟩ (v_load_dp1 rfl trivial rfl (ble _ _ rfl) onT3 rfl rfl) ?_
        refine rg_cons ⟨_, [(.t 25, .d (.dp (List.drop 3 (eClient t1))))]⟩ (v_field_dp (a0 := 3) (cs := (eClient t1)) rfl trivial rfl (ble _ _ rfl) fo46_3 rfl) ?_
        refine rg_cons ⟨_, [(.t 26, .d (.sl 1 (t1.mLeads.map (eI .i64))))]⟩ (v_load_dp1 rfl trivial rfl (ble _ _ rfl) onT23 rfl rfl) ?_
        refine rg_cons ⟨_, [(.t 27, iV t5)]⟩ (v_move (.inl rfl) trivial rfl (ble _ _ rfl) rfl) ?_
        obtain ⟨e12, h⟩ := gpos h
        refine rg_cons ⟨_, [(.t 28, .d (.dp [(.s (.int .i64 (rd t1.mLeads t5)))]))]⟩ (w_idx t1.mLeads (eI .i64) rfl trivial rfl (ble _ _ rfl) slT23 rfl rfl e12) ?_
        refine rg_cons ⟨_, [(.t 29, iV (rd t1.mLeads t5))]⟩ (v_load_dp1 rfl trivial rfl (ble _ _ rfl) onT3 rfl rfl) ?_
        refine rg_cons ⟨_, [(.t 30, bV (!eqI (rd t0.mLeads t5) (rd t1.mLeads t5)))]⟩ (v_bin rfl trivial rfl (ble _ _ rfl) rfl rfl (b_neq rfl)) ?_
        refine rg_nil ⟨by kernel_rfl, ?_⟩
        refine ht_cond (b := (!eqI (rd t0.mLeads t5) (rd t1.mLeads t5))) rfl (fun e13 => ?_) (fun e13 => ?_)
        · replace h := cpos e13 h
          refine ht_seq ?_
          refine ht_region ?_
          refine sq_cons ⟨_, [(.t 4, bV false)]⟩ (v_move (.inr rfl) trivial rfl (ble _ _ rfl) rfl) ?_
          refine sq_nil ?_
          refine ht_ret ?_
          cases h
          cases r6 _ rfl
          exact ret1 rfl (.tmp rfl)
        · replace h := cneg e13 h
          refine ht_skip ?_
          refine ht_region ?_
          refine sq_cons ⟨_, [(.t 18, iV t5)]⟩ (v_move (.inl rfl) trivial rfl (ble _ _ rfl) rfl) ?_
          refine sq_cons ⟨_, [(.t 19, iV (IntKind.wrap .i64 (t5 + 1)))]⟩ (v_bin rfl trivial rfl (ble _ _ rfl) rfl rfl (b_add rfl)) ?_
          refine sq_cons ⟨_, [(.t 5, iV (IntKind.wrap .i64 (t5 + 1)))]⟩ (v_move (.inr rfl) trivial rfl (ble _ _ rfl) rfl) ?_
          refine sq_nil ?_
          exact j8 _ _ h (wk_ren _ (fun i => i) rfl ⟨rfl, rfl, rfl, trivial⟩)
      · replace h := cneg e10 h
        refine ht_exit ?_
        refine tq ?_
        refine tq ?_
        refine bq_hit ?_
        cases h
        exact j5 _ _ rfl (wk_ren _ (fun i => i) rfl ⟨rfl, rfl, trivial⟩)
set_option maxRecDepth 100000 in
set_option maxHeartbeats 4000000 in
theorem s3 (k : Nat) (t0 : Client) (t1 : Msg) (r : Bool) (h : F3 k t0 t1 = some r) : Awp.Spec Tryd.prog amb 3 [(.agg (eClient t0)), (.agg (eMsg t1))] (.ds [(.s (.bool r))]) := by
  rw [F3] at h
  refine spec_of Tryd.func3 rfl (ble _ _ rfl) fun w0 ok0 lt0 hA => ?_
  refine ht_seq ?_
  refine ht_region ?_
  refine sq_cons ⟨_, [(.t 2, .d (.dp (eClient t0)))]⟩ (v_box_d (cs := (eClient t0)) rfl trivial rfl (ble _ _ rfl) rfl rfl (ones_of rfl)) ?_
  refine sq_cons ⟨_, [(.t 3, .d (.dp (eMsg t1)))]⟩ (v_box_d (cs := (eMsg t1)) rfl trivial rfl (ble _ _ rfl) rfl rfl (ones_of rfl)) ?_
  refine sq_cons ⟨_, [(.t 4, bV false)]⟩ (v_move (.inr rfl) trivial rfl (ble _ _ rfl) rfl) ?_
  refine sq_nil ?_
  refine ht_seq ?_
  refine ht_seq ?_
  refine ht_region ?_
  refine sq_cons ⟨_, [(.t 11, .d (.agg (eClient t0)))]⟩ (w_ldp (eClient t0) (eClient t0) rfl trivial rfl (ble _ _ rfl) ag29 rfl (ble _ _ rfl) rfl) ?_
  obtain ⟨t12, c1, h⟩ := bpos h
  refine sq_cons ⟨_, [(.t 12, bV t12)]⟩ (w_call (ds := [(.agg (eClient t0))]) (caps := []) (l := [(.s (.bool t12))]) (s4 k t0 _ c1) rfl rfl rfl en4 trivial rfl (ble _ _ rfl) (.inl ⟨rfl, rfl⟩) rfl rfl) ?_
  refine sq_cons ⟨_, [(.t 13, bV (!t12))]⟩ (v_un rfl trivial rfl (ble _ _ rfl) rfl (u_not rfl)) ?_
  refine sq_cons ⟨_, [(.t 14, bV (!t12))]⟩ (v_move (.inl rfl) trivial rfl (ble _ _ rfl) rfl) ?_
  refine sq_cons ⟨_, [(.t 15, mg (!(!t12)) (.d (.agg (eMsg t1))))]⟩ (v_cF rfl rfl rfl (ble _ _ rfl) rfl fun e2 => (w_ldp (eMsg t1) (eMsg t1) rfl ⟨_, rfl, be e2⟩ rfl (ble _ _ rfl) ag35 rfl (ble _ _ rfl) rfl)) ?_
  obtain ⟨t16, c4, h⟩ := bpos h
  refine sq_cons ⟨_, [(.t 16, mg (!(!t12)) (bV t16))]⟩ (v_cF rfl rfl rfl (ble _ _ rfl) rfl fun e3 => (w_call (ds := [(.agg (eMsg t1))]) (caps := []) (l := [(.s (.bool t16))]) (s5 k t1 _ (cpos (nF e3) c4)) rfl rfl rfl en5 ⟨_, rfl, be e3⟩ rfl (ble _ _ rfl) (.inl ⟨rfl, rfl⟩) (cc (gv (nF e3)) rfl) rfl)) ?_
  refine sq_cons ⟨_, [(.t 17, mg (!(!t12)) (bV (!t16)))]⟩ (v_cF rfl rfl rfl (ble _ _ rfl) rfl fun e5 => (v_un rfl ⟨_, rfl, be e5⟩ rfl (ble _ _ rfl) (gv (nF e5)) (u_not rfl))) ?_
  refine sq_cons ⟨_, [(.t 18, bV ((!t12) || (!t16)))]⟩ (v_pickB rfl trivial rfl (ble _ _ rfl) rfl (fun e6 => rfl) (fun e7 => (gv (nF e7))) (pO _ _)) ?_
  refine sq_cons ⟨_, [(.t 19, bV ((!t12) || (!t16)))]⟩ (v_move (.inl rfl) trivial rfl (ble _ _ rfl) rfl) ?_
  refine sq_cons ⟨_, [(.t 20, mg (!((!t12) || (!t16))) (.d (.dp (List.drop 4 (eClient t0)))))]⟩ (v_cF rfl rfl rfl (ble _ _ rfl) rfl fun e8 => (v_field_dp (a0 := 4) (cs := (eClient t0)) rfl ⟨_, rfl, be e8⟩ rfl (ble _ _ rfl) fo29_4 rfl)) ?_
  refine sq_cons ⟨_, [(.t 21, mg (!((!t12) || (!t16))) (.d (.dp (List.drop 5 (eClient t0)))))]⟩ (v_cF rfl rfl rfl (ble _ _ rfl) rfl fun e9 => (v_field_dp (a0 := 1) (cs := (List.drop 4 (eClient t0))) rfl ⟨_, rfl, be e9⟩ rfl (ble _ _ rfl) fo27_1 (gv (nF e9)))) ?_
  refine sq_cons ⟨_, [(.t 22, mg (!((!t12) || (!t16))) (iV t0.mReq.mReq))]⟩ (v_cF rfl rfl rfl (ble _ _ rfl) rfl fun e10 => (v_load_dp1 rfl ⟨_, rfl, be e10⟩ rfl (ble _ _ rfl) onT3 (gv (nF e10)) rfl)) ?_
  refine sq_cons ⟨_, [(.t 23, mg (!((!t12) || (!t16))) (bV (!eqI t0.mReq.mReq 0)))]⟩ (v_cF rfl rfl rfl (ble _ _ rfl) rfl fun e11 => (v_bin rfl ⟨_, rfl, be e11⟩ rfl (ble _ _ rfl) (gv (nF e11)) rfl (b_neq rfl))) ?_
  refine sq_cons ⟨_, [(.t 24, bV (((!t12) || (!t16)) || (!eqI t0.mReq.mReq 0)))]⟩ (v_pickB rfl trivial rfl (ble _ _ rfl) rfl (fun e12 => rfl) (fun e13 => (gv (nF e13))) (pO _ _)) ?_
  refine sq_nil ?_
  refine ht_cond (b := (((!t12) || (!t16)) || (!eqI t0.mReq.mReq 0))) rfl (fun e14 => ?_) (fun e14 => ?_)
  · replace h := cpos e14 h
    refine ht_seq ?_
    refine ht_region ?_
    obtain ⟨t25, c15, h⟩ := bpos h
    refine sq_cons ⟨_, [(.t 25, bV t25)]⟩ (w_call (ds := []) (caps := []) (l := [(.s (.bool t25))]) (s6 k _ c15) rfl rfl rfl en6 trivial rfl (ble _ _ rfl) (.inl ⟨rfl, rfl⟩) rfl rfl) ?_
    refine sq_cons ⟨_, [(.t 4, bV t25)]⟩ (v_move (.inr rfl) trivial rfl (ble _ _ rfl) rfl) ?_
    refine sq_nil ?_
    refine ht_ret ?_
    cases h
    exact ret1 rfl (.tmp rfl)
  · replace h := cneg e14 h
    refine ht_skip ?_
    refine ht_seq ?_
    refine ht_region ?_
    refine sq_cons ⟨_, [(.t 27, .d (.agg (eClient t0)))]⟩ (w_ldp (eClient t0) (eClient t0) rfl trivial rfl (ble _ _ rfl) ag29 rfl (ble _ _ rfl) rfl) ?_
    obtain ⟨⟨t28a, t28b, t28c⟩, c16, h⟩ := bpos h
    refine sq_cons ⟨_, [(.t 28, .tup [.d (.agg (eClient t28a)), .d (.sl 36 (t28b.map eMsg)), .d (.agg (eTold t28c))])]⟩ (w_call (ds := [(.agg (eClient t0))]) (caps := []) (l := [(.agg (eClient t28a)), (.sl 36 (t28b.map eMsg)), (.agg (eTold t28c))]) (s7 k t0 _ c16) rfl rfl rfl en7 trivial rfl (ble _ _ rfl) (.inl ⟨rfl, rfl⟩) rfl rfl) ?_
    refine sq_cons ⟨_, [(.t 26, .tup [.d (.agg (eClient t28a)), .d (.sl 36 (t28b.map eMsg)), .d (.agg (eTold t28c))])]⟩ (v_move (.inl rfl) trivial rfl (ble _ _ rfl) rfl) ?_
    refine sq_cons ⟨_, [(.t 29, .d (.agg (eClient t28a)))]⟩ (v_extract rfl trivial rfl (ble _ _ rfl) rfl rfl) ?_
    refine sq_cons ⟨_, [(.t 30, .d (.sl 36 (t28b.map eMsg)))]⟩ (v_extract rfl trivial rfl (ble _ _ rfl) rfl rfl) ?_
    refine sq_cons ⟨_, [(.t 31, .d (.agg (eTold t28c)))]⟩ (v_extract rfl trivial rfl (ble _ _ rfl) rfl rfl) ?_
    refine sq_cons _ (v_alloc (id := 5) (cs := zc29) rfl trivial rfl (ble _ _ rfl) zu29 rfl ft29 rfl) ?_
    refine sq_cons _ (v_alloc (id := 7) (cs := zc41) rfl trivial rfl (ble _ _ rfl) zu41 rfl ft41 rfl) ?_
    refine sq_cons _ (v_store_box (id := 5) (off := 0) (cs := (eClient t28a).map V.d) rfl trivial rfl sz29 rfl rfl rfl rfl (ones_of rfl) (ble _ _ rfl)) ?_
    refine sq_cons ⟨_, [(.t 6, .d (.sl 36 (t28b.map eMsg)))]⟩ (v_move (.inr rfl) trivial rfl (ble _ _ rfl) rfl) ?_
    refine sq_cons _ (v_store_box (id := 7) (off := 0) (cs := (eTold t28c).map V.d) rfl trivial rfl sz41 rfl rfl rfl rfl (ones_of rfl) (ble _ _ rfl)) ?_
    refine sq_nil ?_
    refine ht_seq ?_
    refine ht_region ?_
    refine sq_cons ⟨_, [(.t 33, .d (.agg (eClient t0)))]⟩ (w_ldp (eClient t0) (eClient t0) rfl trivial rfl (ble _ _ rfl) ag29 rfl (ble _ _ rfl) rfl) ?_
    refine sq_cons ⟨_, [(.t 34, .d (.agg (eMsg t1)))]⟩ (w_ldp (eMsg t1) (eMsg t1) rfl trivial rfl (ble _ _ rfl) ag35 rfl (ble _ _ rfl) rfl) ?_
    obtain ⟨⟨t35a, t35b, t35c⟩, c17, h⟩ := bpos h
    refine sq_cons ⟨_, [(.t 35, .tup [.d (.agg (eClient t35a)), .d (.sl 36 (t35b.map eMsg)), .d (.agg (eTold t35c))])]⟩ (w_call (ds := [(.agg (eClient t0)), (.agg (eMsg t1))]) (caps := []) (l := [(.agg (eClient t35a)), (.sl 36 (t35b.map eMsg)), (.agg (eTold t35c))]) (s8 k t0 t1 _ c17) rfl rfl rfl en8 trivial rfl (ble _ _ rfl) (.inl ⟨rfl, rfl⟩) rfl rfl) ?_
    refine sq_cons ⟨_, [(.t 32, .tup [.d (.agg (eClient t35a)), .d (.sl 36 (t35b.map eMsg)), .d (.agg (eTold t35c))])]⟩ (v_move (.inl rfl) trivial rfl (ble _ _ rfl) rfl) ?_
    refine sq_cons ⟨_, [(.t 36, .d (.agg (eClient t35a)))]⟩ (v_extract rfl trivial rfl (ble _ _ rfl) rfl rfl) ?_
    refine sq_cons ⟨_, [(.t 37, .d (.sl 36 (t35b.map eMsg)))]⟩ (v_extract rfl trivial rfl (ble _ _ rfl) rfl rfl) ?_
    refine sq_cons ⟨_, [(.t 38, .d (.agg (eTold t35c)))]⟩ (v_extract rfl trivial rfl (ble _ _ rfl) rfl rfl) ?_
    refine sq_cons _ (v_alloc (id := 8) (cs := zc29) rfl trivial rfl (ble _ _ rfl) zu29 rfl ft29 rfl) ?_
    refine sq_cons _ (v_alloc (id := 10) (cs := zc41) rfl trivial rfl (ble _ _ rfl) zu41 rfl ft41 rfl) ?_
    refine sq_cons _ (v_store_box (id := 8) (off := 0) (cs := (eClient t35a).map V.d) rfl trivial rfl sz29 rfl rfl rfl rfl (ones_of rfl) (ble _ _ rfl)) ?_
    refine sq_cons ⟨_, [(.t 9, .d (.sl 36 (t35b.map eMsg)))]⟩ (v_move (.inr rfl) trivial rfl (ble _ _ rfl) rfl) ?_
    refine sq_cons _ (v_store_box (id := 10) (off := 0) (cs := (eTold t35c).map V.d) rfl trivial rfl sz41 rfl rfl rfl rfl (ones_of rfl) (ble _ _ rfl)) ?_
    refine sq_nil ?_
    refine ht_seq ?_
    refine ht_region_draw mixed ?_
    refine rg_cons ⟨_, [(.t 39, .d (.agg (eClient t28a)))]⟩ (w_ldb 5 0 rfl trivial rfl (ble _ _ rfl) ag29 rfl rfl (ble _ _ rfl) rfl) ?_
    obtain ⟨t40, c18, h⟩ := bpos h
    refine rg_cons ⟨_, [(.t 40, .d (.agg (eClient t40)))]⟩ (w_call (ds := [(.agg (eClient t28a))]) (caps := []) (l := [(.agg (eClient t40))]) (s10 k t28a _ c18) rfl rfl rfl en10 trivial rfl (ble _ _ rfl) (.inl ⟨rfl, rfl⟩) rfl rfl) ?_
    refine rg_cons ⟨_, [(.t 41, .d (.agg (eClient t0)))]⟩ (w_ldp (eClient t0) (eClient t0) rfl trivial rfl (ble _ _ rfl) ag29 rfl (ble _ _ rfl) rfl) ?_
    obtain ⟨t42, c19, h⟩ := bpos h
    refine rg_cons ⟨_, [(.t 42, .d (.agg (eClient t42)))]⟩ (w_call (ds := [(.agg (eClient t0))]) (caps := []) (l := [(.agg (eClient t42))]) (s10 k t0 _ c19) rfl rfl rfl en10 trivial rfl (ble _ _ rfl) (.inl ⟨rfl, rfl⟩) rfl rfl) ?_
    obtain ⟨t43, c20, h⟩ := bpos h
    refine rg_cons ⟨_, [(.t 43, bV t43)]⟩ (w_call (ds := [(.agg (eClient t40)), (.agg (eClient t42))]) (caps := []) (l := [(.s (.bool t43))]) (s9 k t40 t42 _ c20) rfl rfl rfl en9 trivial rfl (ble _ _ rfl) (.inl ⟨rfl, rfl⟩) rfl rfl) ?_
    refine rg_cons ⟨_, [(.t 44, bV t43)]⟩ (v_move (.inl rfl) trivial rfl (ble _ _ rfl) rfl) ?_
    refine rg_cons ⟨_, [(.t 45, mg t43 (.ptr 8 0))]⟩ (v_cT rfl rfl rfl (ble _ _ rfl) rfl fun e21 => (v_field_box (off := 0) (a0 := 0) rfl ⟨_, rfl, be e21⟩ rfl (ble _ _ rfl) fo29_0 rfl)) ?_
    refine rg_cons ⟨_, [(.t 46, mg t43 (iV t35a.mID))]⟩ (v_cT rfl rfl rfl (ble _ _ rfl) rfl fun e22 => (v_load_box1 (id := 8) (off := 0) rfl ⟨_, rfl, be e22⟩ rfl (ble _ _ rfl) onT3 (gv e22) rfl (ble _ _ rfl) rfl)) ?_
    refine rg_cons ⟨_, [(.t 47, mg t43 (.d (.dp (eClient t0))))]⟩ (v_cT rfl rfl rfl (ble _ _ rfl) rfl fun e23 => (v_field_dp (a0 := 0) (cs := (eClient t0)) rfl ⟨_, rfl, be e23⟩ rfl (ble _ _ rfl) fo29_0 rfl)) ?_
    refine rg_cons ⟨_, [(.t 48, mg t43 (iV t0.mID))]⟩ (v_cT rfl rfl rfl (ble _ _ rfl) rfl fun e24 => (v_load_dp1 rfl ⟨_, rfl, be e24⟩ rfl (ble _ _ rfl) onT3 (gv e24) rfl)) ?_
    refine rg_cons ⟨_, [(.t 49, mg t43 (bV (eqI t35a.mID t0.mID)))]⟩ (v_cT rfl rfl rfl (ble _ _ rfl) rfl fun e25 => (v_bin rfl ⟨_, rfl, be e25⟩ rfl (ble _ _ rfl) (gv e25) (gv e25) (b_eql rfl))) ?_
    refine rg_cons ⟨_, [(.t 50, bV (t43 && (eqI t35a.mID t0.mID)))]⟩ (v_pickB rfl trivial rfl (ble _ _ rfl) rfl (fun e26 => (gv e26)) (fun e27 => rfl) (pA _ _)) ?_
    refine rg_cons ⟨_, [(.t 51, bV (t43 && (eqI t35a.mID t0.mID)))]⟩ (v_move (.inl rfl) trivial rfl (ble _ _ rfl) rfl) ?_
    refine rg_cons ⟨_, [(.t 52, mg (t43 && (eqI t35a.mID t0.mID)) (.ptr 8 1))]⟩ (v_cT rfl rfl rfl (ble _ _ rfl) rfl fun e28 => (v_field_box (off := 0) (a0 := 1) rfl ⟨_, rfl, be e28⟩ rfl (ble _ _ rfl) fo29_1 rfl)) ?_
    refine rg_cons ⟨_, [(.t 53, mg (t43 && (eqI t35a.mID t0.mID)) (iV t35a.mNext))]⟩ (v_cT rfl rfl rfl (ble _ _ rfl) rfl fun e29 => (v_load_box1 (id := 8) (off := 1) rfl ⟨_, rfl, be e29⟩ rfl (ble _ _ rfl) onT3 (gv e29) rfl (ble _ _ rfl) rfl)) ?_
    refine rg_cons ⟨_, [(.t 54, mg (t43 && (eqI t35a.mID t0.mID)) (.d (.dp (List.drop 1 (eClient t0)))))]⟩ (v_cT rfl rfl rfl (ble _ _ rfl) rfl fun e30 => (v_field_dp (a0 := 1) (cs := (eClient t0)) rfl ⟨_, rfl, be e30⟩ rfl (ble _ _ rfl) fo29_1 rfl)) ?_
    refine rg_cons ⟨_, [(.t 55, mg (t43 && (eqI t35a.mID t0.mID)) (iV t0.mNext))]⟩ (v_cT rfl rfl rfl (ble _ _ rfl) rfl fun e31 => (v_load_dp1 rfl ⟨_, rfl, be e31⟩ rfl (ble _ _ rfl) onT3 (gv e31) rfl)) ?_
    refine rg_cons ⟨_, [(.t 56, mg (t43 && (eqI t35a.mID t0.mID)) (bV (eqI t35a.mNext t0.mNext)))]⟩ (v_cT rfl rfl rfl (ble _ _ rfl) rfl fun e32 => (v_bin rfl ⟨_, rfl, be e32⟩ rfl (ble _ _ rfl) (gv e32) (gv e32) (b_eql rfl))) ?_
    refine rg_cons ⟨_, [(.t 57, bV ((t43 && (eqI t35a.mID t0.mID)) && (eqI t35a.mNext t0.mNext)))]⟩ (v_pickB rfl trivial rfl (ble _ _ rfl) rfl (fun e33 => (gv e33)) (fun e34 => rfl) (pA _ _)) ?_
    refine rg_cons ⟨_, [(.t 58, bV ((t43 && (eqI t35a.mID t0.mID)) && (eqI t35a.mNext t0.mNext)))]⟩ (v_move (.inl rfl) trivial rfl (ble _ _ rfl) rfl) ?_
    refine rg_cons ⟨_, [(.t 59, mg ((t43 && (eqI t35a.mID t0.mID)) && (eqI t35a.mNext t0.mNext)) (.ptr 8 4))]⟩ (v_cT rfl rfl rfl (ble _ _ rfl) rfl fun e35 => (v_field_box (off := 0) (a0 := 4) rfl ⟨_, rfl, be e35⟩ rfl (ble _ _ rfl) fo29_4 rfl)) ?_
    refine rg_cons ⟨_, [(.t 60, mg ((t43 && (eqI t35a.mID t0.mID)) && (eqI t35a.mNext t0.mNext)) (.d (.agg (eRequest t35a.mReq))))]⟩ (v_cT rfl rfl rfl (ble _ _ rfl) rfl fun e36 => (w_ldb 8 4 rfl ⟨_, rfl, be e36⟩ rfl (ble _ _ rfl) ag27 (gv e36) rfl (ble _ _ rfl) rfl)) ?_
    refine rg_cons ⟨_, [(.t 61, mg ((t43 && (eqI t35a.mID t0.mID)) && (eqI t35a.mNext t0.mNext)) (.d (.dp (List.drop 4 (eClient t0)))))]⟩ (v_cT rfl rfl rfl (ble _ _ rfl) rfl fun e37 => (v_field_dp (a0 := 4) (cs := (eClient t0)) rfl ⟨_, rfl, be e37⟩ rfl (ble _ _ rfl) fo29_4 rfl)) ?_
    refine rg_cons ⟨_, [(.t 62, mg ((t43 && (eqI t35a.mID t0.mID)) && (eqI t35a.mNext t0.mNext)) (.d (.agg (eRequest t0.mReq))))]⟩ (v_cT rfl rfl rfl (ble _ _ rfl) rfl fun e38 => (w_ldp (List.drop 4 (eClient t0)) (eRequest t0.mReq) rfl ⟨_, rfl, be e38⟩ rfl (ble _ _ rfl) ag27 (gv e38) (ble _ _ rfl) rfl)) ?_
    refine rg_cons ⟨_, [(.t 63, mg ((t43 && (eqI t35a.mID t0.mID)) && (eqI t35a.mNext t0.mNext)) (bV (qRequest t35a.mReq t0.mReq)))]⟩ (v_cT rfl rfl rfl (ble _ _ rfl) rfl fun e39 => (v_bin_eql (f := eRequest) rfl ⟨_, rfl, be e39⟩ rfl (ble _ _ rfl) (gv e39) (gv e39) rfl rfl eg27 (eq27 _ _))) ?_
    refine rg_cons ⟨_, [(.t 64, bV (((t43 && (eqI t35a.mID t0.mID)) && (eqI t35a.mNext t0.mNext)) && (qRequest t35a.mReq t0.mReq)))]⟩ (v_pickB rfl trivial rfl (ble _ _ rfl) rfl (fun e40 => (gv e40)) (fun e41 => rfl) (pA _ _)) ?_
    refine rg_cons ⟨_, [(.t 65, bV (((t43 && (eqI t35a.mID t0.mID)) && (eqI t35a.mNext t0.mNext)) && (qRequest t35a.mReq t0.mReq)))]⟩ (v_move (.inl rfl) trivial rfl (ble _ _ rfl) rfl) ?_
    refine rg_cons ⟨_, [(.t 66, mg (((t43 && (eqI t35a.mID t0.mID)) && (eqI t35a.mNext t0.mNext)) && (qRequest t35a.mReq t0.mReq)) (.d (.sl 36 (t28b.map eMsg))))]⟩ (v_cT rfl rfl rfl (ble _ _ rfl) rfl fun e42 => (v_move (.inl rfl) ⟨_, rfl, be e42⟩ rfl (ble _ _ rfl) rfl)) ?_
    refine rg_cons ⟨_, [(.t 67, mg (((t43 && (eqI t35a.mID t0.mID)) && (eqI t35a.mNext t0.mNext)) && (qRequest t35a.mReq t0.mReq)) (iV (t28b.length : Int)))]⟩ (v_cT rfl rfl rfl (ble _ _ rfl) rfl fun e43 => (w_len t28b eMsg rfl rfl ⟨_, rfl, be e43⟩ rfl (ble _ _ rfl) slT39 (gv e43))) ?_
    refine rg_cons ⟨_, [(.t 68, mg (((t43 && (eqI t35a.mID t0.mID)) && (eqI t35a.mNext t0.mNext)) && (qRequest t35a.mReq t0.mReq)) (.d (.sl 36 (t35b.map eMsg))))]⟩ (v_cT rfl rfl rfl (ble _ _ rfl) rfl fun e44 => (v_move (.inl rfl) ⟨_, rfl, be e44⟩ rfl (ble _ _ rfl) rfl)) ?_
    refine rg_cons ⟨_, [(.t 69, mg (((t43 && (eqI t35a.mID t0.mID)) && (eqI t35a.mNext t0.mNext)) && (qRequest t35a.mReq t0.mReq)) (iV (t35b.length : Int)))]⟩ (v_cT rfl rfl rfl (ble _ _ rfl) rfl fun e45 => (w_len t35b eMsg rfl rfl ⟨_, rfl, be e45⟩ rfl (ble _ _ rfl) slT39 (gv e45))) ?_
    refine rg_cons ⟨_, [(.t 70, mg (((t43 && (eqI t35a.mID t0.mID)) && (eqI t35a.mNext t0.mNext)) && (qRequest t35a.mReq t0.mReq)) (iV (IntKind.wrap .i64 ((t28b.length : Int) + (t35b.length : Int)))))]⟩ (v_cT rfl rfl rfl (ble _ _ rfl) rfl fun e46 => (v_bin rfl ⟨_, rfl, be e46⟩ rfl (ble _ _ rfl) (gv e46) (gv e46) (b_add rfl))) ?_
    refine rg_cons ⟨_, [(.t 71, mg (((t43 && (eqI t35a.mID t0.mID)) && (eqI t35a.mNext t0.mNext)) && (qRequest t35a.mReq t0.mReq)) (bV (eqI (IntKind.wrap .i64 ((t28b.length : Int) + (t35b.length : Int))) 0)))]⟩ (v_cT rfl rfl rfl (ble _ _ rfl) rfl fun e47 => (v_bin rfl ⟨_, rfl, be e47⟩ rfl (ble _ _ rfl) (gv e47) rfl (b_eql rfl))) ?_
    refine rg_cons ⟨_, [(.t 72, bV ((((t43 && (eqI t35a.mID t0.mID)) && (eqI t35a.mNext t0.mNext)) && (qRequest t35a.mReq t0.mReq)) && (eqI (IntKind.wrap .i64 ((t28b.length : Int) + (t35b.length : Int))) 0)))]⟩ (v_pickB rfl trivial rfl (ble _ _ rfl) rfl (fun e48 => (gv e48)) (fun e49 => rfl) (pA _ _)) ?_
    refine rg_cons ⟨_, [(.t 73, bV ((((t43 && (eqI t35a.mID t0.mID)) && (eqI t35a.mNext t0.mNext)) && (qRequest t35a.mReq t0.mReq)) && (eqI (IntKind.wrap .i64 ((t28b.length : Int) + (t35b.length : Int))) 0)))]⟩ (v_move (.inl rfl) trivial rfl (ble _ _ rfl) rfl) ?_
    refine rg_cons ⟨_, [(.t 74, mg ((((t43 && (eqI t35a.mID t0.mID)) && (eqI t35a.mNext t0.mNext)) && (qRequest t35a.mReq t0.mReq)) && (eqI (IntKind.wrap .i64 ((t28b.length : Int) + (t35b.length : Int))) 0)) (.ptr 7 0))]⟩ (v_cT rfl rfl rfl (ble _ _ rfl) rfl fun e50 => (v_field_box (off := 0) (a0 := 0) rfl ⟨_, rfl, be e50⟩ rfl (ble _ _ rfl) fo41_0 rfl)) ?_
    refine rg_cons ⟨_, [(.t 75, mg ((((t43 && (eqI t35a.mID t0.mID)) && (eqI t35a.mNext t0.mNext)) && (qRequest t35a.mReq t0.mReq)) && (eqI (IntKind.wrap .i64 ((t28b.length : Int) + (t35b.length : Int))) 0)) (bV t28c.mDone))]⟩ (v_cT rfl rfl rfl (ble _ _ rfl) rfl fun e51 => (v_load_box1 (id := 7) (off := 0) rfl ⟨_, rfl, be e51⟩ rfl (ble _ _ rfl) onT4 (gv e51) rfl (ble _ _ rfl) rfl)) ?_
    refine rg_cons ⟨_, [(.t 76, mg ((((t43 && (eqI t35a.mID t0.mID)) && (eqI t35a.mNext t0.mNext)) && (qRequest t35a.mReq t0.mReq)) && (eqI (IntKind.wrap .i64 ((t28b.length : Int) + (t35b.length : Int))) 0)) (bV (!t28c.mDone)))]⟩ (v_cT rfl rfl rfl (ble _ _ rfl) rfl fun e52 => (v_un rfl ⟨_, rfl, be e52⟩ rfl (ble _ _ rfl) (gv e52) (u_not rfl))) ?_
    refine rg_cons ⟨_, [(.t 77, bV (((((t43 && (eqI t35a.mID t0.mID)) && (eqI t35a.mNext t0.mNext)) && (qRequest t35a.mReq t0.mReq)) && (eqI (IntKind.wrap .i64 ((t28b.length : Int) + (t35b.length : Int))) 0)) && (!t28c.mDone)))]⟩ (v_pickB rfl trivial rfl (ble _ _ rfl) rfl (fun e53 => (gv e53)) (fun e54 => rfl) (pA _ _)) ?_
    refine rg_cons ⟨_, [(.t 78, bV (((((t43 && (eqI t35a.mID t0.mID)) && (eqI t35a.mNext t0.mNext)) && (qRequest t35a.mReq t0.mReq)) && (eqI (IntKind.wrap .i64 ((t28b.length : Int) + (t35b.length : Int))) 0)) && (!t28c.mDone)))]⟩ (v_move (.inl rfl) trivial rfl (ble _ _ rfl) rfl) ?_
    refine rg_cons ⟨_, [(.t 79, mg (((((t43 && (eqI t35a.mID t0.mID)) && (eqI t35a.mNext t0.mNext)) && (qRequest t35a.mReq t0.mReq)) && (eqI (IntKind.wrap .i64 ((t28b.length : Int) + (t35b.length : Int))) 0)) && (!t28c.mDone)) (.ptr 10 0))]⟩ (v_cT rfl rfl rfl (ble _ _ rfl) rfl fun e55 => (v_field_box (off := 0) (a0 := 0) rfl ⟨_, rfl, be e55⟩ rfl (ble _ _ rfl) fo41_0 rfl)) ?_
    refine rg_cons ⟨_, [(.t 80, mg (((((t43 && (eqI t35a.mID t0.mID)) && (eqI t35a.mNext t0.mNext)) && (qRequest t35a.mReq t0.mReq)) && (eqI (IntKind.wrap .i64 ((t28b.length : Int) + (t35b.length : Int))) 0)) && (!t28c.mDone)) (bV t35c.mDone))]⟩ (v_cT rfl rfl rfl (ble _ _ rfl) rfl fun e56 => (v_load_box1 (id := 10) (off := 0) rfl ⟨_, rfl, be e56⟩ rfl (ble _ _ rfl) onT4 (gv e56) rfl (ble _ _ rfl) rfl)) ?_
    refine rg_cons ⟨_, [(.t 81, mg (((((t43 && (eqI t35a.mID t0.mID)) && (eqI t35a.mNext t0.mNext)) && (qRequest t35a.mReq t0.mReq)) && (eqI (IntKind.wrap .i64 ((t28b.length : Int) + (t35b.length : Int))) 0)) && (!t28c.mDone)) (bV (!t35c.mDone)))]⟩ (v_cT rfl rfl rfl (ble _ _ rfl) rfl fun e57 => (v_un rfl ⟨_, rfl, be e57⟩ rfl (ble _ _ rfl) (gv e57) (u_not rfl))) ?_
    refine rg_cons ⟨_, [(.t 82, bV ((((((t43 && (eqI t35a.mID t0.mID)) && (eqI t35a.mNext t0.mNext)) && (qRequest t35a.mReq t0.mReq)) && (eqI (IntKind.wrap .i64 ((t28b.length : Int) + (t35b.length : Int))) 0)) && (!t28c.mDone)) && (!t35c.mDone)))]⟩ (v_pickB rfl trivial rfl (ble _ _ rfl) rfl (fun e58 => (gv e58)) (fun e59 => rfl) (pA _ _)) ?_
    refine rg_cons ⟨_, [(.t 83, bV ((((((t43 && (eqI t35a.mID t0.mID)) && (eqI t35a.mNext t0.mNext)) && (qRequest t35a.mReq t0.mReq)) && (eqI (IntKind.wrap .i64 ((t28b.length : Int) + (t35b.length : Int))) 0)) && (!t28c.mDone)) && (!t35c.mDone)))]⟩ (v_move (.inl rfl) trivial rfl (ble _ _ rfl) rfl) ?_
    obtain ⟨t84, c61, h⟩ := bpos h
    refine rg_cons ⟨_, [(.t 84, mg ((((((t43 && (eqI t35a.mID t0.mID)) && (eqI t35a.mNext t0.mNext)) && (qRequest t35a.mReq t0.mReq)) && (eqI (IntKind.wrap .i64 ((t28b.length : Int) + (t35b.length : Int))) 0)) && (!t28c.mDone)) && (!t35c.mDone)) (bV t84))]⟩ (v_cT rfl rfl rfl (ble _ _ rfl) rfl fun e60 => (w_call (ds := []) (caps := []) (l := [(.s (.bool t84))]) (s6 k _ (cpos e60 c61)) rfl rfl rfl en6 ⟨_, rfl, be e60⟩ rfl (ble _ _ rfl) (.inl ⟨rfl, rfl⟩) rfl rfl)) ?_
    refine rg_cons ⟨_, [(.t 85, bV (((((((t43 && (eqI t35a.mID t0.mID)) && (eqI t35a.mNext t0.mNext)) && (qRequest t35a.mReq t0.mReq)) && (eqI (IntKind.wrap .i64 ((t28b.length : Int) + (t35b.length : Int))) 0)) && (!t28c.mDone)) && (!t35c.mDone)) && t84))]⟩ (v_pickB rfl trivial rfl (ble _ _ rfl) rfl (fun e62 => (gv e62)) (fun e63 => rfl) (pA _ _)) ?_
    refine rg_cons ⟨_, [(.t 4, bV (((((((t43 && (eqI t35a.mID t0.mID)) && (eqI t35a.mNext t0.mNext)) && (qRequest t35a.mReq t0.mReq)) && (eqI (IntKind.wrap .i64 ((t28b.length : Int) + (t35b.length : Int))) 0)) && (!t28c.mDone)) && (!t35c.mDone)) && t84))]⟩ (v_move (.inr rfl) trivial rfl (ble _ _ rfl) rfl) ?_
    refine rg_nil ⟨by kernel_rfl, ?_⟩
    refine ht_ret ?_
    cases h
    exact ret1 rfl (.tmp rfl)
end Go.Proofs.Cq
