import Derived.Test.YthhpelmjnmlgjaaDoorEdWalk2
import Derived.KernelRfl
set_option linter.unusedVariables false
namespace Go.Proofs.Ed
open Go Go.Awp Go.Proofs
set_option maxRecDepth 100000 in
set_option maxHeartbeats 4000000 in
theorem s68 (k : Nat) (t0 : List Entry) (r : (List Entry)) (h : F68 k t0 = some r) : Awp.Spec Tryd.prog amb 68 [(.sl 2 (t0.map eEntry))] (.ds [(.sl 2 (r.map eEntry))]) := by
  rw [F68] at h
  refine spec_of Tryd.func68 rfl (ble _ _ rfl) fun w0 ok0 lt0 hA => ?_
  refine ht_seq ?_
  refine ht_region ?_
  refine sq_cons ⟨_, [(.t 2, .d (.s (.slice none 0 0)))]⟩ (v_move (.inr rfl) trivial rfl (ble _ _ rfl) rfl) ?_
  refine sq_nil ?_
  refine ht_seq ?_
  refine ht_region ?_
  refine sq_cons ⟨_, [(.t 5, .d (.sl 2 (t0.map eEntry)))]⟩ (v_move (.inl rfl) trivial rfl (ble _ _ rfl) rfl) ?_
  obtain ⟨t6, c1, h⟩ := bpos h
  refine sq_cons ⟨_, [(.b 6, .row false 100 2 (t6.map eEntry)), (.t 6, .own 6 2 t6.length)]⟩ (w_call_own (id := 6) (ds := [(.sl 2 (t0.map eEntry))]) (caps := []) eEntry (s88o k t0 _ c1) rfl rfl rfl en88 trivial rfl (ble _ _ rfl) (.inl ⟨rfl, rfl⟩) rfl rfl) ?_
  refine sq_cons ⟨_, [(.t 3, .own 6 2 t6.length)]⟩ (v_move (.inr rfl) trivial rfl (ble _ _ rfl) rfl) ?_
  refine sq_nil ?_
  refine ht_bj h (fun t3 => tell [(.b 1003, .row false 100 2 (t3.map eEntry)), (.t 3, .own 1003 2 t3.length)]) (fun t3 h => ?_) (fun v2 K3 h j5 => ?_)
  · refine ht_seq ?_
    refine ht_region ?_
    refine sq_cons ⟨_, [(.t 23, .own 1003 2 t3.length)]⟩ (v_move (.inl rfl) trivial rfl (ble _ _ rfl) rfl) ?_
    refine sq_cons ⟨_, [(.t 2, .own 1003 2 t3.length)]⟩ (v_move (.inr rfl) trivial rfl (ble _ _ rfl) rfl) ?_
    refine sq_nil ?_
    refine ht_ret ?_
    cases h
    exact retM_wk (wk_still_row 1003 _ _ _ rfl) (retM_wk (wk_row (.t 2) (nb 2) 1003 _ _ _ _ rfl rfl (lm _ _)) (retM_wk (wk_row (.t 3) (nb 3) 1003 _ _ _ _ rfl rfl (lm _ _)) (retM_wk (wk_row (.t 23) (nb 23) 1003 _ _ _ _ rfl rfl (lm _ _)) (ret1 rfl (.tmp rfl)))))
  · refine ht_seq ?_
    refine ht_region ?_
    refine sq_cons ⟨_, [(.t 7, .own 6 2 t6.length)]⟩ (v_move (.inl rfl) trivial rfl (ble _ _ rfl) rfl) ?_
    refine sq_cons ⟨_, [(.t 8, iV (t6.length : Int))]⟩ (v_len_own rfl rfl trivial rfl (ble _ _ rfl) und47 rfl) ?_
    refine sq_cons ⟨_, [(.t 9, iV 0)]⟩ (v_move (.inl rfl) trivial rfl (ble _ _ rfl) rfl) ?_
    refine sq_nil ?_
    refine ht_block ?_
    refine ht_rd h (fun _ => rfl) (fun (t3_1, t9) => tell [(.b 1003, .row false 100 2 (t3_1.map eEntry)), (.t 3, .own 1003 2 t3_1.length), (.t 8, iV (t6.length : Int)), (.t 9, iV t9)]) (wk_ren _ (fun i => bif Nat.beq i 1003 then 6 else i) rfl ⟨rfl, rfl, rfl, rfl, trivial⟩) fun k v9 h K14 j8 => ?_
    obtain ⟨t3_1, t9⟩ := v9
    rw [F68_l1] at h
    refine ht_seq ?_
    refine ht_region ?_
    refine sq_cons ⟨_, [(.t 10, bV (ltI t9 (t6.length : Int)))]⟩ (v_bin rfl trivial rfl (ble _ _ rfl) rfl rfl (b_lss rfl)) ?_
    refine sq_nil ?_
    refine ht_seq ?_
    refine ht_cond (b := (ltI t9 (t6.length : Int))) rfl (fun e10 => ?_) (fun e10 => ?_)
    · replace h := cpos e10 h
      refine ht_skip ?_
      refine ht_seq ?_
      refine ht_block ?_
      refine ht_seq ?_
      refine ht_region ?_
      refine sq_cons ⟨_, [(.t 11, iV t9)]⟩ (v_move (.inl rfl) trivial rfl (ble _ _ rfl) rfl) ?_
      refine sq_cons ⟨_, [(.t 4, iV t9)]⟩ (v_move (.inr rfl) trivial rfl (ble _ _ rfl) rfl) ?_
      refine sq_nil ?_
      refine ht_region ?_
      refine sq_cons ⟨_, [(.t 12, .own 1003 2 t3_1.length)]⟩ (v_move (.inl rfl) trivial rfl (ble _ _ rfl) rfl) ?_
      refine sq_cons ⟨_, [(.t 13, iV t9)]⟩ (v_move (.inl rfl) trivial rfl (ble _ _ rfl) rfl) ?_
      refine sq_cons ⟨_, [(.t 14, .own 1003 2 t3_1.length)]⟩ (v_move (.inl rfl) trivial rfl (ble _ _ rfl) rfl) ?_
      refine sq_cons ⟨_, [(.t 15, iV t9)]⟩ (v_move (.inl rfl) trivial rfl (ble _ _ rfl) rfl) ?_
      obtain ⟨e11, h⟩ := gpos h
      refine sq_cons ⟨_, [(.t 16, .elp 1003 2 t9.toNat 0)]⟩ (w_idx_own t3_1 rfl trivial rfl (ble _ _ rfl) slT47 rfl rfl e11) ?_
      refine sq_cons ⟨_, [(.t 17, .elp 1003 2 t9.toNat 1)]⟩ (v_field_elp (a0 := 1) rfl trivial rfl (ble _ _ rfl) fo100_1 rfl) ?_
      refine sq_cons ⟨_, [(.t 18, .d (.sl 5 ((rd t3_1 t9).mChain.map eVersion)))]⟩ (w_ldE1 t3_1 eEntry rfl trivial rfl (ble _ _ rfl) onT98 rfl e11 rfl rfl) ?_
      obtain ⟨t19, c12, h⟩ := bpos h
      refine sq_cons ⟨_, [(.t 19, .d (.sl 5 (t19.map eVersion)))]⟩ (w_call (ds := [(.sl 5 ((rd t3_1 t9).mChain.map eVersion))]) (caps := []) (l := [(.sl 5 (t19.map eVersion))]) (s87 k (rd t3_1 t9).mChain _ c12) rfl rfl rfl en87 trivial rfl (ble _ _ rfl) (.inl ⟨rfl, rfl⟩) rfl rfl) ?_
      obtain ⟨e13, h⟩ := gpos h
      refine sq_cons ⟨_, [(.t 20, .elp 1003 2 t9.toNat 0)]⟩ (w_idx_own t3_1 rfl trivial rfl (ble _ _ rfl) slT47 rfl rfl e13) ?_
      refine sq_cons ⟨_, [(.t 21, .elp 1003 2 t9.toNat 1)]⟩ (v_field_elp (a0 := 1) rfl trivial rfl (ble _ _ rfl) fo100_1 rfl) ?_
      refine sq_cons ⟨_, [(.b 1003, .row false 100 2 ((t3_1.set t9.toNat ({(rd t3_1 t9) with mChain := t19})).map eEntry))]⟩ (w_st_elp t3_1 eEntry [(.sl 5 (t19.map eVersion))] ({(rd t3_1 t9) with mChain := t19}) rfl trivial rfl sz98 rfl rfl e13 rfl rfl (ones_of rfl) (ble _ _ rfl) rfl) ?_
      refine sq_nil ?_
      refine ht_weak (wk_eq (.t 3) (.own 1003 2 (t3_1.set t9.toNat ({(rd t3_1 t9) with mChain := t19})).length) (lset _ _ _ _ _)) ?_
      refine ht_weak (wk_eq (.t 12) (.own 1003 2 (t3_1.set t9.toNat ({(rd t3_1 t9) with mChain := t19})).length) (lset _ _ _ _ _)) ?_
      refine ht_weak (wk_eq (.t 14) (.own 1003 2 (t3_1.set t9.toNat ({(rd t3_1 t9) with mChain := t19})).length) (lset _ _ _ _ _)) ?_
      refine ht_region ?_
      refine sq_cons ⟨_, [(.t 22, iV (IntKind.wrap .i64 (t9 + 1)))]⟩ (v_bin rfl trivial rfl (ble _ _ rfl) rfl rfl (b_add rfl)) ?_
      refine sq_cons ⟨_, [(.t 9, iV (IntKind.wrap .i64 (t9 + 1)))]⟩ (v_move (.inl rfl) trivial rfl (ble _ _ rfl) rfl) ?_
      refine sq_nil ?_
      exact j8 _ _ h (wk_ren _ (fun i => i) rfl ⟨rfl, rfl, rfl, rfl, trivial⟩)
    · replace h := cneg e10 h
      refine ht_exit ?_
      refine tq ?_
      refine tq ?_
      refine bq_hit ?_
      cases h
      exact j5 _ (wk_ren _ (fun i => i) rfl ⟨rfl, rfl, trivial⟩)
set_option maxRecDepth 100000 in
set_option maxHeartbeats 4000000 in
theorem s68o (k : Nat) (t0 : List Entry) (r : (List Entry)) (h : F68o k t0 = some r) : Awp.Spec Tryd.prog amb 68 [(.sl 2 (t0.map eEntry))] (.own 100 2 (r.map eEntry)) := by
  rw [F68o] at h
  refine spec_of Tryd.func68 rfl (ble _ _ rfl) fun w0 ok0 lt0 hA => ?_
  refine ht_seq ?_
  refine ht_region ?_
  refine sq_cons ⟨_, [(.t 2, .d (.s (.slice none 0 0)))]⟩ (v_move (.inr rfl) trivial rfl (ble _ _ rfl) rfl) ?_
  refine sq_nil ?_
  refine ht_seq ?_
  refine ht_region ?_
  refine sq_cons ⟨_, [(.t 5, .d (.sl 2 (t0.map eEntry)))]⟩ (v_move (.inl rfl) trivial rfl (ble _ _ rfl) rfl) ?_
  obtain ⟨t6, c1, h⟩ := bpos h
  refine sq_cons ⟨_, [(.b 6, .row false 100 2 (t6.map eEntry)), (.t 6, .own 6 2 t6.length)]⟩ (w_call_own (id := 6) (ds := [(.sl 2 (t0.map eEntry))]) (caps := []) eEntry (s88o k t0 _ c1) rfl rfl rfl en88 trivial rfl (ble _ _ rfl) (.inl ⟨rfl, rfl⟩) rfl rfl) ?_
  refine sq_cons ⟨_, [(.t 3, .own 6 2 t6.length)]⟩ (v_move (.inr rfl) trivial rfl (ble _ _ rfl) rfl) ?_
  refine sq_nil ?_
  refine ht_bj h (fun t3 => tell [(.b 1003, .row false 100 2 (t3.map eEntry)), (.t 3, .own 1003 2 t3.length)]) (fun t3 h => ?_) (fun v2 K3 h j5 => ?_)
  · refine ht_seq ?_
    refine ht_region ?_
    refine sq_cons ⟨_, [(.t 23, .own 1003 2 t3.length)]⟩ (v_move (.inl rfl) trivial rfl (ble _ _ rfl) rfl) ?_
    refine sq_cons ⟨_, [(.t 2, .own 1003 2 t3.length)]⟩ (v_move (.inr rfl) trivial rfl (ble _ _ rfl) rfl) ?_
    refine sq_nil ?_
    refine ht_ret ?_
    cases h
    exact ret_own rfl rfl rfl (lm _ _)
  · refine ht_seq ?_
    refine ht_region ?_
    refine sq_cons ⟨_, [(.t 7, .own 6 2 t6.length)]⟩ (v_move (.inl rfl) trivial rfl (ble _ _ rfl) rfl) ?_
    refine sq_cons ⟨_, [(.t 8, iV (t6.length : Int))]⟩ (v_len_own rfl rfl trivial rfl (ble _ _ rfl) und47 rfl) ?_
    refine sq_cons ⟨_, [(.t 9, iV 0)]⟩ (v_move (.inl rfl) trivial rfl (ble _ _ rfl) rfl) ?_
    refine sq_nil ?_
    refine ht_block ?_
    refine ht_rd h (fun _ => rfl) (fun (t3_1, t9) => tell [(.b 1003, .row false 100 2 (t3_1.map eEntry)), (.t 3, .own 1003 2 t3_1.length), (.t 8, iV (t6.length : Int)), (.t 9, iV t9)]) (wk_ren _ (fun i => bif Nat.beq i 1003 then 6 else i) rfl ⟨rfl, rfl, rfl, rfl, trivial⟩) fun k v9 h K14 j8 => ?_
    obtain ⟨t3_1, t9⟩ := v9
    rw [F68o_l1] at h
    refine ht_seq ?_
    refine ht_region ?_
    refine sq_cons ⟨_, [(.t 10, bV (ltI t9 (t6.length : Int)))]⟩ (v_bin rfl trivial rfl (ble _ _ rfl) rfl rfl (b_lss rfl)) ?_
    refine sq_nil ?_
    refine ht_seq ?_
    refine ht_cond (b := (ltI t9 (t6.length : Int))) rfl (fun e10 => ?_) (fun e10 => ?_)
    · replace h := cpos e10 h
      refine ht_skip ?_
      refine ht_seq ?_
      refine ht_block ?_
      refine ht_seq ?_
      refine ht_region ?_
      refine sq_cons ⟨_, [(.t 11, iV t9)]⟩ (v_move (.inl rfl) trivial rfl (ble _ _ rfl) rfl) ?_
      refine sq_cons ⟨_, [(.t 4, iV t9)]⟩ (v_move (.inr rfl) trivial rfl (ble _ _ rfl) rfl) ?_
      refine sq_nil ?_
      refine ht_region ?_
      refine sq_cons ⟨_, [(.t 12, .own 1003 2 t3_1.length)]⟩ (v_move (.inl rfl) trivial rfl (ble _ _ rfl) rfl) ?_
      refine sq_cons ⟨_, [(.t 13, iV t9)]⟩ (v_move (.inl rfl) trivial rfl (ble _ _ rfl) rfl) ?_
      refine sq_cons ⟨_, [(.t 14, .own 1003 2 t3_1.length)]⟩ (v_move (.inl rfl) trivial rfl (ble _ _ rfl) rfl) ?_
      refine sq_cons ⟨_, [(.t 15, iV t9)]⟩ (v_move (.inl rfl) trivial rfl (ble _ _ rfl) rfl) ?_
      obtain ⟨e11, h⟩ := gpos h
      refine sq_cons ⟨_, [(.t 16, .elp 1003 2 t9.toNat 0)]⟩ (w_idx_own t3_1 rfl trivial rfl (ble _ _ rfl) slT47 rfl rfl e11) ?_
      refine sq_cons ⟨_, [(.t 17, .elp 1003 2 t9.toNat 1)]⟩ (v_field_elp (a0 := 1) rfl trivial rfl (ble _ _ rfl) fo100_1 rfl) ?_
      refine sq_cons ⟨_, [(.t 18, .d (.sl 5 ((rd t3_1 t9).mChain.map eVersion)))]⟩ (w_ldE1 t3_1 eEntry rfl trivial rfl (ble _ _ rfl) onT98 rfl e11 rfl rfl) ?_
      obtain ⟨t19, c12, h⟩ := bpos h
      refine sq_cons ⟨_, [(.t 19, .d (.sl 5 (t19.map eVersion)))]⟩ (w_call (ds := [(.sl 5 ((rd t3_1 t9).mChain.map eVersion))]) (caps := []) (l := [(.sl 5 (t19.map eVersion))]) (s87 k (rd t3_1 t9).mChain _ c12) rfl rfl rfl en87 trivial rfl (ble _ _ rfl) (.inl ⟨rfl, rfl⟩) rfl rfl) ?_
      obtain ⟨e13, h⟩ := gpos h
      refine sq_cons ⟨_, [(.t 20, .elp 1003 2 t9.toNat 0)]⟩ (w_idx_own t3_1 rfl trivial rfl (ble _ _ rfl) slT47 rfl rfl e13) ?_
      refine sq_cons ⟨_, [(.t 21, .elp 1003 2 t9.toNat 1)]⟩ (v_field_elp (a0 := 1) rfl trivial rfl (ble _ _ rfl) fo100_1 rfl) ?_
      refine sq_cons ⟨_, [(.b 1003, .row false 100 2 ((t3_1.set t9.toNat ({(rd t3_1 t9) with mChain := t19})).map eEntry))]⟩ (w_st_elp t3_1 eEntry [(.sl 5 (t19.map eVersion))] ({(rd t3_1 t9) with mChain := t19}) rfl trivial rfl sz98 rfl rfl e13 rfl rfl (ones_of rfl) (ble _ _ rfl) rfl) ?_
      refine sq_nil ?_
      refine ht_weak (wk_eq (.t 3) (.own 1003 2 (t3_1.set t9.toNat ({(rd t3_1 t9) with mChain := t19})).length) (lset _ _ _ _ _)) ?_
      refine ht_weak (wk_eq (.t 12) (.own 1003 2 (t3_1.set t9.toNat ({(rd t3_1 t9) with mChain := t19})).length) (lset _ _ _ _ _)) ?_
      refine ht_weak (wk_eq (.t 14) (.own 1003 2 (t3_1.set t9.toNat ({(rd t3_1 t9) with mChain := t19})).length) (lset _ _ _ _ _)) ?_
      refine ht_region ?_
      refine sq_cons ⟨_, [(.t 22, iV (IntKind.wrap .i64 (t9 + 1)))]⟩ (v_bin rfl trivial rfl (ble _ _ rfl) rfl rfl (b_add rfl)) ?_
      refine sq_cons ⟨_, [(.t 9, iV (IntKind.wrap .i64 (t9 + 1)))]⟩ (v_move (.inl rfl) trivial rfl (ble _ _ rfl) rfl) ?_
      refine sq_nil ?_
      exact j8 _ _ h (wk_ren _ (fun i => i) rfl ⟨rfl, rfl, rfl, rfl, trivial⟩)
    · replace h := cneg e10 h
      refine ht_exit ?_
      refine tq ?_
      refine tq ?_
      refine bq_hit ?_
      cases h
      exact j5 _ (wk_ren _ (fun i => i) rfl ⟨rfl, rfl, trivial⟩)
set_option maxRecDepth 100000 in
set_option maxHeartbeats 4000000 in
theorem s46 (k : Nat) (t0 : List Entry) (t1 : ByteArray) (t2 : Version) (r : (List Entry) × Int) (h : F46 k t0 t1 t2 = some r) : Awp.Spec Tryd.prog amb 46 [(.sl 2 (t0.map eEntry)), (.s (.string t1)), (.agg (eVersion t2))] (.ds [(.sl 2 (r.1.map eEntry)), (.s (.int .i64 r.2))]) := by
  rw [F46] at h
  refine spec_of Tryd.func46 rfl (ble _ _ rfl) fun w0 ok0 lt0 hA => ?_
  refine ht_seq ?_
  refine ht_region ?_
  refine sq_cons ⟨_, [(.t 5, .d (.dp (eVersion t2)))]⟩ (v_box_d (cs := (eVersion t2)) rfl trivial rfl (ble _ _ rfl) rfl rfl (ones_of rfl)) ?_
  refine sq_cons ⟨_, [(.t 6, .d (.s (.slice none 0 0)))]⟩ (v_move (.inr rfl) trivial rfl (ble _ _ rfl) rfl) ?_
  refine sq_cons ⟨_, [(.t 7, iV 0)]⟩ (v_move (.inr rfl) trivial rfl (ble _ _ rfl) rfl) ?_
  refine sq_nil ?_
  refine ht_seq ?_
  refine ht_seq ?_
  refine ht_region ?_
  refine sq_cons ⟨_, [(.t 14, .d (.sl 2 (t0.map eEntry)))]⟩ (v_move (.inl rfl) trivial rfl (ble _ _ rfl) rfl) ?_
  obtain ⟨t15, c1, h⟩ := bpos h
  refine sq_cons ⟨_, [(.t 15, bV t15)]⟩ (w_call (ds := [(.sl 2 (t0.map eEntry))]) (caps := []) (l := [(.s (.bool t15))]) (s57 k t0 _ c1) rfl rfl rfl en57 trivial rfl (ble _ _ rfl) (.inl ⟨rfl, rfl⟩) rfl rfl) ?_
  refine sq_cons ⟨_, [(.t 16, bV (!t15))]⟩ (v_un rfl trivial rfl (ble _ _ rfl) rfl (u_not rfl)) ?_
  refine sq_cons ⟨_, [(.t 17, bV (!t15))]⟩ (v_move (.inl rfl) trivial rfl (ble _ _ rfl) rfl) ?_
  refine sq_cons ⟨_, [(.t 18, mg (!(!t15)) (sV t1))]⟩ (v_cF rfl rfl rfl (ble _ _ rfl) rfl fun e2 => (v_move (.inl rfl) ⟨_, rfl, be e2⟩ rfl (ble _ _ rfl) rfl)) ?_
  obtain ⟨t19, c4, h⟩ := bpos h
  refine sq_cons ⟨_, [(.t 19, mg (!(!t15)) (bV t19))]⟩ (v_cF rfl rfl rfl (ble _ _ rfl) rfl fun e3 => (w_call (ds := [(.s (.string t1))]) (caps := []) (l := [(.s (.bool t19))]) (s14 k t1 _ (cpos (nF e3) c4)) rfl rfl rfl en14 ⟨_, rfl, be e3⟩ rfl (ble _ _ rfl) (.inl ⟨rfl, rfl⟩) (cc (gv (nF e3)) rfl) rfl)) ?_
  refine sq_cons ⟨_, [(.t 20, mg (!(!t15)) (bV (!t19)))]⟩ (v_cF rfl rfl rfl (ble _ _ rfl) rfl fun e5 => (v_un rfl ⟨_, rfl, be e5⟩ rfl (ble _ _ rfl) (gv (nF e5)) (u_not rfl))) ?_
  refine sq_cons ⟨_, [(.t 21, bV ((!t15) || (!t19)))]⟩ (v_pickB rfl trivial rfl (ble _ _ rfl) rfl (fun e6 => rfl) (fun e7 => (gv (nF e7))) (pO _ _)) ?_
  refine sq_nil ?_
  refine ht_cond (b := ((!t15) || (!t19))) rfl (fun e8 => ?_) (fun e8 => ?_)
  · replace h := cpos e8 h
    refine ht_seq ?_
    refine ht_region ?_
    refine sq_cons ⟨_, [(.t 6, .d (.s (.slice none 0 0)))]⟩ (v_move (.inr rfl) trivial rfl (ble _ _ rfl) rfl) ?_
    refine sq_cons ⟨_, [(.t 7, iV 1)]⟩ (v_move (.inr rfl) trivial rfl (ble _ _ rfl) rfl) ?_
    refine sq_nil ?_
    refine ht_ret ?_
    cases h
    exact retM_wk (wk_nil (.t 6) (nb 6) 2 rfl) (ret2 rfl (.tmp rfl) (.tmp rfl))
  · replace h := cneg e8 h
    refine ht_skip ?_
    refine ht_seq ?_
    refine ht_region ?_
    refine sq_cons ⟨_, [(.t 23, .d (.sl 2 (t0.map eEntry)))]⟩ (v_move (.inl rfl) trivial rfl (ble _ _ rfl) rfl) ?_
    refine sq_cons ⟨_, [(.t 24, sV t1)]⟩ (v_move (.inl rfl) trivial rfl (ble _ _ rfl) rfl) ?_
    obtain ⟨⟨t25a, t25b⟩, c9, h⟩ := bpos h
    refine sq_cons ⟨_, [(.t 25, .tup [iV t25a, bV t25b])]⟩ (w_call (ds := [(.sl 2 (t0.map eEntry)), (.s (.string t1))]) (caps := []) (l := [(.s (.int .i64 t25a)), (.s (.bool t25b))]) (s66 k t0 t1 _ c9) rfl rfl rfl en66 trivial rfl (ble _ _ rfl) (.inl ⟨rfl, rfl⟩) rfl rfl) ?_
    refine sq_cons ⟨_, [(.t 22, .tup [iV t25a, bV t25b])]⟩ (v_move (.inl rfl) trivial rfl (ble _ _ rfl) rfl) ?_
    refine sq_cons ⟨_, [(.t 26, iV t25a)]⟩ (v_extract rfl trivial rfl (ble _ _ rfl) rfl rfl) ?_
    refine sq_cons ⟨_, [(.t 27, bV t25b)]⟩ (v_extract rfl trivial rfl (ble _ _ rfl) rfl rfl) ?_
    refine sq_cons ⟨_, [(.t 8, iV t25a)]⟩ (v_move (.inr rfl) trivial rfl (ble _ _ rfl) rfl) ?_
    refine sq_cons ⟨_, [(.t 9, bV t25b)]⟩ (v_move (.inr rfl) trivial rfl (ble _ _ rfl) rfl) ?_
    refine sq_nil ?_
    refine ht_seq ?_
    refine ht_region ?_
    refine sq_cons ⟨_, [(.t 10, .d (.s (.slice none 0 0)))]⟩ (v_move (.inr rfl) trivial rfl (ble _ _ rfl) rfl) ?_
    refine sq_nil ?_
    refine ht_bj h (fun t10 => tell [(.t 0, .d (.sl 2 (t0.map eEntry))), (.t 1, sV t1), (.t 5, .d (.dp (eVersion t2))), (.t 8, iV t25a), (.t 9, bV t25b), (.t 10, .d (.sl 5 (t10.map eVersion)))]) (fun t10 h => ?_) (fun v10 K11 h j13 => ?_)
    · refine ht_seq ?_
      refine ht_region ?_
      refine sq_cons ⟨_, [(.t 35, .d (.sl 5 (t10.map eVersion)))]⟩ (v_move (.inl rfl) trivial rfl (ble _ _ rfl) rfl) ?_
      refine sq_cons ⟨_, [(.t 36, .d (.agg (eVersion t2)))]⟩ (w_ldp (eVersion t2) (eVersion t2) rfl trivial rfl (ble _ _ rfl) ag84 rfl (ble _ _ rfl) rfl) ?_
      obtain ⟨⟨t37a, t37b⟩, c17, h⟩ := bpos h
      refine sq_cons ⟨_, [(.t 37, .tup [.d (.sl 5 (t37a.map eVersion)), iV t37b])]⟩ (w_call (ds := [(.sl 5 (t10.map eVersion)), (.agg (eVersion t2))]) (caps := []) (l := [(.sl 5 (t37a.map eVersion)), (.s (.int .i64 t37b))]) (s67 k t10 t2 _ c17) rfl rfl rfl en67 trivial rfl (ble _ _ rfl) (.inl ⟨rfl, rfl⟩) rfl rfl) ?_
      refine sq_cons ⟨_, [(.t 34, .tup [.d (.sl 5 (t37a.map eVersion)), iV t37b])]⟩ (v_move (.inl rfl) trivial rfl (ble _ _ rfl) rfl) ?_
      refine sq_cons ⟨_, [(.t 38, .d (.sl 5 (t37a.map eVersion)))]⟩ (v_extract rfl trivial rfl (ble _ _ rfl) rfl rfl) ?_
      refine sq_cons ⟨_, [(.t 39, iV t37b)]⟩ (v_extract rfl trivial rfl (ble _ _ rfl) rfl rfl) ?_
      refine sq_cons ⟨_, [(.t 11, .d (.sl 5 (t37a.map eVersion)))]⟩ (v_move (.inr rfl) trivial rfl (ble _ _ rfl) rfl) ?_
      refine sq_cons ⟨_, [(.t 12, iV t37b)]⟩ (v_move (.inr rfl) trivial rfl (ble _ _ rfl) rfl) ?_
      refine sq_nil ?_
      refine ht_seq ?_
      refine ht_block ?_
      refine ht_seq ?_
      refine ht_region ?_
      refine sq_cons ⟨_, [(.t 41, iV t37b)]⟩ (v_move (.inl rfl) trivial rfl (ble _ _ rfl) rfl) ?_
      refine sq_cons ⟨_, [(.t 42, bV (!eqI t37b 0))]⟩ (v_bin rfl trivial rfl (ble _ _ rfl) rfl rfl (b_neq rfl)) ?_
      refine sq_cons ⟨_, [(.t 40, bV (!eqI t37b 0))]⟩ (v_move (.inr rfl) trivial rfl (ble _ _ rfl) rfl) ?_
      refine sq_nil ?_
      refine ht_cond (b := (!eqI t37b 0)) rfl (fun e18 => ?_) (fun e18 => ?_)
      · replace h := cpos e18 h
        refine ht_seq ?_
        refine ht_region ?_
        refine sq_cons ⟨_, [(.t 43, iV t37b)]⟩ (v_move (.inl rfl) trivial rfl (ble _ _ rfl) rfl) ?_
        refine sq_cons ⟨_, [(.t 6, .d (.s (.slice none 0 0)))]⟩ (v_move (.inr rfl) trivial rfl (ble _ _ rfl) rfl) ?_
        refine sq_cons ⟨_, [(.t 7, iV t37b)]⟩ (v_move (.inr rfl) trivial rfl (ble _ _ rfl) rfl) ?_
        refine sq_nil ?_
        refine ht_ret ?_
        cases h
        exact retM_wk (wk_nil (.t 6) (nb 6) 2 rfl) (ret2 rfl (.tmp rfl) (.tmp rfl))
      · replace h := cneg e18 h
        refine ht_seq ?_
        refine ht_region ?_
        refine sq_cons ⟨_, [(.t 45, bV t25b)]⟩ (v_move (.inl rfl) trivial rfl (ble _ _ rfl) rfl) ?_
        refine sq_cons ⟨_, [(.t 46, bV (!t25b))]⟩ (v_un rfl trivial rfl (ble _ _ rfl) rfl (u_not rfl)) ?_
        refine sq_cons ⟨_, [(.t 47, bV (!t25b))]⟩ (v_move (.inl rfl) trivial rfl (ble _ _ rfl) rfl) ?_
        refine sq_cons ⟨_, [(.t 48, mg (!t25b) (.d (.sl 2 (t0.map eEntry))))]⟩ (v_cT rfl rfl rfl (ble _ _ rfl) rfl fun e19 => (v_move (.inl rfl) ⟨_, rfl, be e19⟩ rfl (ble _ _ rfl) rfl)) ?_
        refine sq_cons ⟨_, [(.t 49, mg (!t25b) (iV (t0.length : Int)))]⟩ (v_cT rfl rfl rfl (ble _ _ rfl) rfl fun e20 => (w_len t0 eEntry rfl rfl ⟨_, rfl, be e20⟩ rfl (ble _ _ rfl) slT47 (gv e20))) ?_
        refine sq_cons ⟨_, [(.t 50, mg (!t25b) (bV (eqI (t0.length : Int) 64)))]⟩ (v_cT rfl rfl rfl (ble _ _ rfl) rfl fun e21 => (v_bin rfl ⟨_, rfl, be e21⟩ rfl (ble _ _ rfl) (gv e21) rfl (b_eql rfl))) ?_
        refine sq_cons ⟨_, [(.t 51, bV ((!t25b) && (eqI (t0.length : Int) 64)))]⟩ (v_pickB rfl trivial rfl (ble _ _ rfl) rfl (fun e22 => (gv e22)) (fun e23 => rfl) (pA _ _)) ?_
        refine sq_cons ⟨_, [(.t 44, bV ((!t25b) && (eqI (t0.length : Int) 64)))]⟩ (v_move (.inr rfl) trivial rfl (ble _ _ rfl) rfl) ?_
        refine sq_nil ?_
        refine ht_cond (b := ((!t25b) && (eqI (t0.length : Int) 64))) rfl (fun e24 => ?_) (fun e24 => ?_)
        · replace h := cpos e24 h
          refine ht_seq ?_
          refine ht_region ?_
          refine sq_cons ⟨_, [(.t 6, .d (.s (.slice none 0 0)))]⟩ (v_move (.inr rfl) trivial rfl (ble _ _ rfl) rfl) ?_
          refine sq_cons ⟨_, [(.t 7, iV 6)]⟩ (v_move (.inr rfl) trivial rfl (ble _ _ rfl) rfl) ?_
          refine sq_nil ?_
          refine ht_ret ?_
          cases h
          exact retM_wk (wk_nil (.t 6) (nb 6) 2 rfl) (ret2 rfl (.tmp rfl) (.tmp rfl))
        · replace h := cneg e24 h
          refine ht_skip ?_
          refine ht_seq ?_
          refine ht_region ?_
          refine sq_cons ⟨_, [(.t 52, .d (.sl 2 (t0.map eEntry)))]⟩ (v_move (.inl rfl) trivial rfl (ble _ _ rfl) rfl) ?_
          obtain ⟨t53, c25, h⟩ := bpos h
          refine sq_cons ⟨_, [(.b 53, .row false 100 2 (t53.map eEntry)), (.t 53, .own 53 2 t53.length)]⟩ (w_call_own (id := 53) (ds := [(.sl 2 (t0.map eEntry))]) (caps := []) eEntry (s68o k t0 _ c25) rfl rfl rfl en68 trivial rfl (ble _ _ rfl) (.inl ⟨rfl, rfl⟩) rfl rfl) ?_
          refine sq_cons ⟨_, [(.t 13, .own 53 2 t53.length)]⟩ (v_move (.inr rfl) trivial rfl (ble _ _ rfl) rfl) ?_
          refine sq_nil ?_
          refine ht_seq ?_
          refine ht_seq ?_
          refine ht_region ?_
          refine sq_cons ⟨_, [(.t 54, bV t25b)]⟩ (v_move (.inl rfl) trivial rfl (ble _ _ rfl) rfl) ?_
          refine sq_cons ⟨_, [(.t 55, bV (!t25b))]⟩ (v_un rfl trivial rfl (ble _ _ rfl) rfl (u_not rfl)) ?_
          refine sq_nil ?_
          refine ht_cond (b := (!t25b)) rfl (fun e26 => ?_) (fun e26 => ?_)
          · replace h := cpos e26 h
            refine ht_region ?_
            refine sq_cons ⟨_, [(.t 56, .own 53 2 t53.length)]⟩ (v_move (.inl rfl) trivial rfl (ble _ _ rfl) rfl) ?_
            refine sq_cons ⟨_, [(.t 57, iV t25a)]⟩ (v_move (.inl rfl) trivial rfl (ble _ _ rfl) rfl) ?_
            refine sq_cons ⟨_, [(.t 58, sV t1)]⟩ (v_move (.inl rfl) trivial rfl (ble _ _ rfl) rfl) ?_
            refine sq_cons ⟨_, [(.t 59, .d (.agg (eEntry (⟨t1, ([] : List Version)⟩ : Entry))))]⟩ (w_bld zc100 ((eEntry (⟨t1, ([] : List Version)⟩ : Entry)).map V.d) [(0, sV t1)] rfl trivial rfl (ble _ _ rfl) zw100 rfl ft100 rfl rfl rfl rfl) ?_
            refine sq_cons ⟨_, [(.b 60, .row false 100 2 (([(⟨t1, ([] : List Version)⟩ : Entry)]).map eEntry)), (.t 60, .own 60 2 ([(⟨t1, ([] : List Version)⟩ : Entry)]).length)]⟩ (w_bsl (id := 60) [(0, .d (.agg (eEntry (⟨t1, ([] : List Version)⟩ : Entry))))] [(⟨t1, ([] : List Version)⟩ : Entry)] eEntry rfl trivial rfl (ble _ _ rfl) slT47 zr100 teEntry (ble _ _ rfl) rfl (by kernel_rfl) rfl rfl (by kernel_rfl) (by kernel_rfl)) ?_
            obtain ⟨e27, h⟩ := gpos h
            refine sq_cons ⟨_, [(.b 53, .spent), (.b 61, .row false 100 2 ((List.take t25a.toNat t53 ++ [(⟨t1, ([] : List Version)⟩ : Entry)] ++ List.drop t25a.toNat t53).map eEntry)), (.t 61, .own 61 2 (List.take t25a.toNat t53 ++ [(⟨t1, ([] : List Version)⟩ : Entry)] ++ List.drop t25a.toNat t53).length)]⟩ (w_ins 61 t53 (⟨t1, ([] : List Version)⟩ : Entry) eEntry insS69 rfl rfl rfl en69 trivial rfl (ble _ _ rfl) teEntry rfl rfl rfl rfl rfl rfl rfl e27) ?_
            refine sq_cons ⟨_, [(.t 13, .own 61 2 (List.take t25a.toNat t53 ++ [(⟨t1, ([] : List Version)⟩ : Entry)] ++ List.drop t25a.toNat t53).length)]⟩ (v_move (.inr rfl) trivial rfl (ble _ _ rfl) rfl) ?_
            refine sq_nil ?_
            refine ht_seq ?_
            refine ht_region ?_
            refine sq_cons ⟨_, [(.t 62, .own 61 2 (List.take t25a.toNat t53 ++ [(⟨t1, ([] : List Version)⟩ : Entry)] ++ List.drop t25a.toNat t53).length)]⟩ (v_move (.inl rfl) trivial rfl (ble _ _ rfl) rfl) ?_
            refine sq_cons ⟨_, [(.t 63, iV t25a)]⟩ (v_move (.inl rfl) trivial rfl (ble _ _ rfl) rfl) ?_
            refine sq_cons ⟨_, [(.t 64, .d (.sl 5 (t37a.map eVersion)))]⟩ (v_move (.inl rfl) trivial rfl (ble _ _ rfl) rfl) ?_
            obtain ⟨e28, h⟩ := gpos h
            refine sq_cons ⟨_, [(.t 65, .elp 61 2 t25a.toNat 0)]⟩ (w_idx_own (List.take t25a.toNat t53 ++ [(⟨t1, ([] : List Version)⟩ : Entry)] ++ List.drop t25a.toNat t53) rfl trivial rfl (ble _ _ rfl) slT47 rfl rfl e28) ?_
            refine sq_cons ⟨_, [(.t 66, .elp 61 2 t25a.toNat 1)]⟩ (v_field_elp (a0 := 1) rfl trivial rfl (ble _ _ rfl) fo100_1 rfl) ?_
            refine sq_cons ⟨_, [(.b 61, .row false 100 2 (((List.take t25a.toNat t53 ++ [(⟨t1, ([] : List Version)⟩ : Entry)] ++ List.drop t25a.toNat t53).set t25a.toNat ({(rd (List.take t25a.toNat t53 ++ [(⟨t1, ([] : List Version)⟩ : Entry)] ++ List.drop t25a.toNat t53) t25a) with mChain := t37a})).map eEntry))]⟩ (w_st_elp (List.take t25a.toNat t53 ++ [(⟨t1, ([] : List Version)⟩ : Entry)] ++ List.drop t25a.toNat t53) eEntry [(.sl 5 (t37a.map eVersion))] ({(rd (List.take t25a.toNat t53 ++ [(⟨t1, ([] : List Version)⟩ : Entry)] ++ List.drop t25a.toNat t53) t25a) with mChain := t37a}) rfl trivial rfl sz98 rfl rfl e28 rfl rfl (ones_of rfl) (ble _ _ rfl) rfl) ?_
            refine sq_nil ?_
            refine ht_seq ?_
            refine ht_weak (wk_eq (.t 13) (.own 61 2 ((List.take t25a.toNat t53 ++ [(⟨t1, ([] : List Version)⟩ : Entry)] ++ List.drop t25a.toNat t53).set t25a.toNat ({(rd (List.take t25a.toNat t53 ++ [(⟨t1, ([] : List Version)⟩ : Entry)] ++ List.drop t25a.toNat t53) t25a) with mChain := t37a})).length) (lset _ _ _ _ _)) ?_
            refine ht_weak (wk_eq (.t 61) (.own 61 2 ((List.take t25a.toNat t53 ++ [(⟨t1, ([] : List Version)⟩ : Entry)] ++ List.drop t25a.toNat t53).set t25a.toNat ({(rd (List.take t25a.toNat t53 ++ [(⟨t1, ([] : List Version)⟩ : Entry)] ++ List.drop t25a.toNat t53) t25a) with mChain := t37a})).length) (lset _ _ _ _ _)) ?_
            refine ht_weak (wk_eq (.t 62) (.own 61 2 ((List.take t25a.toNat t53 ++ [(⟨t1, ([] : List Version)⟩ : Entry)] ++ List.drop t25a.toNat t53).set t25a.toNat ({(rd (List.take t25a.toNat t53 ++ [(⟨t1, ([] : List Version)⟩ : Entry)] ++ List.drop t25a.toNat t53) t25a) with mChain := t37a})).length) (lset _ _ _ _ _)) ?_
            refine ht_region ?_
            refine sq_cons ⟨_, [(.t 67, .own 61 2 ((List.take t25a.toNat t53 ++ [(⟨t1, ([] : List Version)⟩ : Entry)] ++ List.drop t25a.toNat t53).set t25a.toNat ({(rd (List.take t25a.toNat t53 ++ [(⟨t1, ([] : List Version)⟩ : Entry)] ++ List.drop t25a.toNat t53) t25a) with mChain := t37a})).length)]⟩ (v_move (.inl rfl) trivial rfl (ble _ _ rfl) rfl) ?_
            refine sq_cons ⟨_, [(.t 6, .own 61 2 ((List.take t25a.toNat t53 ++ [(⟨t1, ([] : List Version)⟩ : Entry)] ++ List.drop t25a.toNat t53).set t25a.toNat ({(rd (List.take t25a.toNat t53 ++ [(⟨t1, ([] : List Version)⟩ : Entry)] ++ List.drop t25a.toNat t53) t25a) with mChain := t37a})).length)]⟩ (v_move (.inr rfl) trivial rfl (ble _ _ rfl) rfl) ?_
            refine sq_cons ⟨_, [(.t 7, iV 0)]⟩ (v_move (.inr rfl) trivial rfl (ble _ _ rfl) rfl) ?_
            refine sq_nil ?_
            refine ht_ret ?_
            cases h
            exact retM_wk (wk_still_row 61 _ _ _ rfl) (retM_wk (wk_row (.t 6) (nb 6) 61 _ _ _ _ rfl rfl (lm _ _)) (retM_wk (wk_row (.t 13) (nb 13) 61 _ _ _ _ rfl rfl (lm _ _)) (retM_wk (wk_row (.t 61) (nb 61) 61 _ _ _ _ rfl rfl (lm _ _)) (retM_wk (wk_row (.t 62) (nb 62) 61 _ _ _ _ rfl rfl (lm _ _)) (retM_wk (wk_row (.t 67) (nb 67) 61 _ _ _ _ rfl rfl (lm _ _)) (ret2 rfl (.tmp rfl) (.tmp rfl)))))))
          · replace h := cneg e26 h
            refine ht_skip ?_
            refine ht_seq ?_
            refine ht_region ?_
            refine sq_cons ⟨_, [(.t 62, .own 53 2 t53.length)]⟩ (v_move (.inl rfl) trivial rfl (ble _ _ rfl) rfl) ?_
            refine sq_cons ⟨_, [(.t 63, iV t25a)]⟩ (v_move (.inl rfl) trivial rfl (ble _ _ rfl) rfl) ?_
            refine sq_cons ⟨_, [(.t 64, .d (.sl 5 (t37a.map eVersion)))]⟩ (v_move (.inl rfl) trivial rfl (ble _ _ rfl) rfl) ?_
            obtain ⟨e29, h⟩ := gpos h
            refine sq_cons ⟨_, [(.t 65, .elp 53 2 t25a.toNat 0)]⟩ (w_idx_own t53 rfl trivial rfl (ble _ _ rfl) slT47 rfl rfl e29) ?_
            refine sq_cons ⟨_, [(.t 66, .elp 53 2 t25a.toNat 1)]⟩ (v_field_elp (a0 := 1) rfl trivial rfl (ble _ _ rfl) fo100_1 rfl) ?_
            refine sq_cons ⟨_, [(.b 53, .row false 100 2 ((t53.set t25a.toNat ({(rd t53 t25a) with mChain := t37a})).map eEntry))]⟩ (w_st_elp t53 eEntry [(.sl 5 (t37a.map eVersion))] ({(rd t53 t25a) with mChain := t37a}) rfl trivial rfl sz98 rfl rfl e29 rfl rfl (ones_of rfl) (ble _ _ rfl) rfl) ?_
            refine sq_nil ?_
            refine ht_seq ?_
            refine ht_weak (wk_eq (.t 53) (.own 53 2 (t53.set t25a.toNat ({(rd t53 t25a) with mChain := t37a})).length) (lset _ _ _ _ _)) ?_
            refine ht_weak (wk_eq (.t 13) (.own 53 2 (t53.set t25a.toNat ({(rd t53 t25a) with mChain := t37a})).length) (lset _ _ _ _ _)) ?_
            refine ht_weak (wk_eq (.t 62) (.own 53 2 (t53.set t25a.toNat ({(rd t53 t25a) with mChain := t37a})).length) (lset _ _ _ _ _)) ?_
            refine ht_region ?_
            refine sq_cons ⟨_, [(.t 67, .own 53 2 (t53.set t25a.toNat ({(rd t53 t25a) with mChain := t37a})).length)]⟩ (v_move (.inl rfl) trivial rfl (ble _ _ rfl) rfl) ?_
            refine sq_cons ⟨_, [(.t 6, .own 53 2 (t53.set t25a.toNat ({(rd t53 t25a) with mChain := t37a})).length)]⟩ (v_move (.inr rfl) trivial rfl (ble _ _ rfl) rfl) ?_
            refine sq_cons ⟨_, [(.t 7, iV 0)]⟩ (v_move (.inr rfl) trivial rfl (ble _ _ rfl) rfl) ?_
            refine sq_nil ?_
            refine ht_ret ?_
            cases h
            exact retM_wk (wk_still_row 53 _ _ _ rfl) (retM_wk (wk_row (.t 6) (nb 6) 53 _ _ _ _ rfl rfl (lm _ _)) (retM_wk (wk_row (.t 13) (nb 13) 53 _ _ _ _ rfl rfl (lm _ _)) (retM_wk (wk_row (.t 53) (nb 53) 53 _ _ _ _ rfl rfl (lm _ _)) (retM_wk (wk_row (.t 62) (nb 62) 53 _ _ _ _ rfl rfl (lm _ _)) (retM_wk (wk_row (.t 67) (nb 67) 53 _ _ _ _ rfl rfl (lm _ _)) (ret2 rfl (.tmp rfl) (.tmp rfl)))))))
    · refine ht_seq ?_
      refine ht_region ?_
      refine sq_cons ⟨_, [(.t 28, bV t25b)]⟩ (v_move (.inl rfl) trivial rfl (ble _ _ rfl) rfl) ?_
      refine sq_nil ?_
      refine ht_cond (b := t25b) rfl (fun e15 => ?_) (fun e15 => ?_)
      · replace h := cpos e15 h
        refine ht_region ?_
        refine sq_cons ⟨_, [(.t 29, .d (.sl 2 (t0.map eEntry)))]⟩ (v_move (.inl rfl) trivial rfl (ble _ _ rfl) rfl) ?_
        refine sq_cons ⟨_, [(.t 30, iV t25a)]⟩ (v_move (.inl rfl) trivial rfl (ble _ _ rfl) rfl) ?_
        obtain ⟨e16, h⟩ := gpos h
        refine sq_cons ⟨_, [(.t 31, .d (.dp (eEntry (rd t0 t25a))))]⟩ (w_idx t0 eEntry rfl trivial rfl (ble _ _ rfl) slT47 rfl rfl e16) ?_
        refine sq_cons ⟨_, [(.t 32, .d (.dp (List.drop 1 (eEntry (rd t0 t25a)))))]⟩ (v_field_dp (a0 := 1) (cs := (eEntry (rd t0 t25a))) rfl trivial rfl (ble _ _ rfl) fo100_1 rfl) ?_
        refine sq_cons ⟨_, [(.t 33, .d (.sl 5 ((rd t0 t25a).mChain.map eVersion)))]⟩ (v_load_dp1 rfl trivial rfl (ble _ _ rfl) onT98 rfl rfl) ?_
        refine sq_cons ⟨_, [(.t 10, .d (.sl 5 ((rd t0 t25a).mChain.map eVersion)))]⟩ (v_move (.inr rfl) trivial rfl (ble _ _ rfl) rfl) ?_
        refine sq_nil ?_
        cases h
        exact j13 _ (wk_ren _ (fun i => i) rfl ⟨rfl, rfl, rfl, rfl, rfl, rfl, trivial⟩)
      · replace h := cneg e15 h
        refine ht_skip ?_
        cases h
        exact j13 _ (wkt (wk_nil (.t 10) (nb 10) 5 rfl) (wk_ren _ (fun i => i) rfl ⟨rfl, rfl, rfl, rfl, rfl, rfl, trivial⟩))
set_option maxRecDepth 100000 in
set_option maxHeartbeats 4000000 in
theorem s70 (k : Nat) (t0 : List Done) (r : (List Done)) (h : F70 k t0 = some r) : Awp.Spec Tryd.prog amb 70 [(.sl 11 (t0.map eDone))] (.ds [(.sl 11 (r.map eDone))]) := by
  rw [F70] at h
  refine spec_of Tryd.func70 rfl (ble _ _ rfl) fun w0 ok0 lt0 hA => ?_
  refine ht_seq ?_
  refine ht_region ?_
  refine sq_cons ⟨_, [(.t 2, .d (.s (.slice none 0 0)))]⟩ (v_move (.inr rfl) trivial rfl (ble _ _ rfl) rfl) ?_
  refine sq_nil ?_
  refine ht_seq ?_
  refine ht_seq ?_
  refine ht_region ?_
  refine sq_cons ⟨_, [(.t 3, .d (.sl 11 (t0.map eDone)))]⟩ (v_move (.inl rfl) trivial rfl (ble _ _ rfl) rfl) ?_
  refine sq_nileq rfl trivial rfl (ble _ _ rfl) und48 rfl (fun b1 hb2 => ?_)
  refine sq_nil ?_
  refine ht_cond (b := b1) rfl (fun e3 => ?_) (fun e3 => ?_)
  · obtain rfl : t0 = [] := List.map_eq_nil_iff.1 (hb2 e3)
    replace h : (some ([] : List Done) : Option (List Done)) = some r := by (obtain ⟨_, h⟩ := gpos h; cases h; rfl)
    refine ht_seq ?_
    refine ht_region ?_
    refine sq_cons ⟨_, [(.t 2, .d (.s (.slice none 0 0)))]⟩ (v_move (.inr rfl) trivial rfl (ble _ _ rfl) rfl) ?_
    refine sq_nil ?_
    refine ht_ret ?_
    cases h
    exact retM_wk (wk_nil (.t 2) (nb 2) 11 rfl) (ret1 rfl (.tmp rfl))
  · refine ht_skip ?_
    refine ht_seq ?_
    refine ht_region ?_
    refine sq_cons ⟨_, [(.b 5, .row false 78 11 (([] : List Done).map eDone)), (.t 5, .own 5 11 ([] : List Done).length)]⟩ (w_bsl (id := 5) [] ([] : List Done) eDone rfl trivial rfl (ble _ _ rfl) slT48 zr78 teDone (ble _ _ rfl) rfl (by kernel_rfl) rfl rfl (by kernel_rfl) (by kernel_rfl)) ?_
    refine sq_cons ⟨_, [(.t 6, .d (.sl 11 (t0.map eDone)))]⟩ (v_move (.inl rfl) trivial rfl (ble _ _ rfl) rfl) ?_
    obtain ⟨e4, h⟩ := gpos h
    refine sq_cons ⟨_, [(.b 5, .spent), (.b 7, .row false 78 11 ((([] : List Done) ++ t0).map eDone)), (.t 7, .own 7 11 (([] : List Done) ++ t0).length)]⟩ (w_app 7 ([] : List Done) t0 eDone rfl rfl trivial rfl (ble _ _ rfl) slT48 elT78 teDone rfl rfl rfl (.d) rfl e4) ?_
    refine sq_cons ⟨_, [(.t 2, .own 7 11 (([] : List Done) ++ t0).length)]⟩ (v_move (.inr rfl) trivial rfl (ble _ _ rfl) rfl) ?_
    refine sq_nil ?_
    refine ht_ret ?_
    cases h
    exact retM_wk (wk_still_row 7 _ _ _ rfl) (retM_wk (wk_row (.t 2) (nb 2) 7 _ _ _ _ rfl rfl (lm _ _)) (retM_wk (wk_row (.t 7) (nb 7) 7 _ _ _ _ rfl rfl (lm _ _)) (ret1 rfl (.tmp rfl))))
set_option maxRecDepth 100000 in
set_option maxHeartbeats 4000000 in
theorem s70o (k : Nat) (t0 : List Done) (r : (List Done)) (h : F70o k t0 = some r) : Awp.Spec Tryd.prog amb 70 [(.sl 11 (t0.map eDone))] (.own 78 11 (r.map eDone)) := by
  rw [F70o] at h
  refine spec_of Tryd.func70 rfl (ble _ _ rfl) fun w0 ok0 lt0 hA => ?_
  refine ht_seq ?_
  refine ht_region ?_
  refine sq_cons ⟨_, [(.t 2, .d (.s (.slice none 0 0)))]⟩ (v_move (.inr rfl) trivial rfl (ble _ _ rfl) rfl) ?_
  refine sq_nil ?_
  refine ht_seq ?_
  refine ht_seq ?_
  refine ht_region ?_
  refine sq_cons ⟨_, [(.t 3, .d (.sl 11 (t0.map eDone)))]⟩ (v_move (.inl rfl) trivial rfl (ble _ _ rfl) rfl) ?_
  refine sq_nileq rfl trivial rfl (ble _ _ rfl) und48 rfl (fun b1 hb2 => ?_)
  refine sq_nil ?_
  refine ht_cond (b := b1) rfl (fun e3 => ?_) (fun e3 => ?_)
  · obtain rfl : t0 = [] := List.map_eq_nil_iff.1 (hb2 e3)
    replace h : (some ([]) : Option (List Done)) = some r := by (obtain ⟨_, h⟩ := gpos h; cases h; rfl)
    refine ht_seq ?_
    refine ht_region ?_
    refine sq_cons ⟨_, [(.t 2, .d (.s (.slice none 0 0)))]⟩ (v_move (.inr rfl) trivial rfl (ble _ _ rfl) rfl) ?_
    refine sq_nil ?_
    refine ht_ret ?_
    cases h
    exact retM_wk (wk_nilrow (.t 2) (nb 2) 3002 78 11 rfl rfl) (ret_own rfl rfl rfl rfl)
  · refine ht_skip ?_
    refine ht_seq ?_
    refine ht_region ?_
    refine sq_cons ⟨_, [(.b 5, .row false 78 11 (([] : List Done).map eDone)), (.t 5, .own 5 11 ([] : List Done).length)]⟩ (w_bsl (id := 5) [] ([] : List Done) eDone rfl trivial rfl (ble _ _ rfl) slT48 zr78 teDone (ble _ _ rfl) rfl (by kernel_rfl) rfl rfl (by kernel_rfl) (by kernel_rfl)) ?_
    refine sq_cons ⟨_, [(.t 6, .d (.sl 11 (t0.map eDone)))]⟩ (v_move (.inl rfl) trivial rfl (ble _ _ rfl) rfl) ?_
    obtain ⟨e4, h⟩ := gpos h
    refine sq_cons ⟨_, [(.b 5, .spent), (.b 7, .row false 78 11 ((([] : List Done) ++ t0).map eDone)), (.t 7, .own 7 11 (([] : List Done) ++ t0).length)]⟩ (w_app 7 ([] : List Done) t0 eDone rfl rfl trivial rfl (ble _ _ rfl) slT48 elT78 teDone rfl rfl rfl (.d) rfl e4) ?_
    refine sq_cons ⟨_, [(.t 2, .own 7 11 (([] : List Done) ++ t0).length)]⟩ (v_move (.inr rfl) trivial rfl (ble _ _ rfl) rfl) ?_
    refine sq_nil ?_
    refine ht_ret ?_
    cases h
    exact ret_own rfl rfl rfl (lm _ _)
set_option maxRecDepth 100000 in
set_option maxHeartbeats 4000000 in
theorem s47 (k : Nat) (t0 : List Done) (t1 : Done) (r : (List Done) × Int) (h : F47 k t0 t1 = some r) : Awp.Spec Tryd.prog amb 47 [(.sl 11 (t0.map eDone)), (.agg (eDone t1))] (.ds [(.sl 11 (r.1.map eDone)), (.s (.int .i64 r.2))]) := by
  rw [F47] at h
  refine spec_of Tryd.func47 rfl (ble _ _ rfl) fun w0 ok0 lt0 hA => ?_
  refine ht_seq ?_
  refine ht_region ?_
  refine sq_cons ⟨_, [(.t 3, .d (.dp (eDone t1)))]⟩ (v_box_d (cs := (eDone t1)) rfl trivial rfl (ble _ _ rfl) rfl rfl (ones_of rfl)) ?_
  refine sq_cons ⟨_, [(.t 4, .d (.s (.slice none 0 0)))]⟩ (v_move (.inr rfl) trivial rfl (ble _ _ rfl) rfl) ?_
  refine sq_cons ⟨_, [(.t 5, iV 0)]⟩ (v_move (.inr rfl) trivial rfl (ble _ _ rfl) rfl) ?_
  refine sq_nil ?_
  refine ht_seq ?_
  refine ht_seq ?_
  refine ht_region ?_
  refine sq_cons ⟨_, [(.t 9, .d (.sl 11 (t0.map eDone)))]⟩ (v_move (.inl rfl) trivial rfl (ble _ _ rfl) rfl) ?_
  obtain ⟨t10, c1, h⟩ := bpos h
  refine sq_cons ⟨_, [(.t 10, bV t10)]⟩ (w_call (ds := [(.sl 11 (t0.map eDone))]) (caps := []) (l := [(.s (.bool t10))]) (s58 k t0 _ c1) rfl rfl rfl en58 trivial rfl (ble _ _ rfl) (.inl ⟨rfl, rfl⟩) rfl rfl) ?_
  refine sq_cons ⟨_, [(.t 11, bV (!t10))]⟩ (v_un rfl trivial rfl (ble _ _ rfl) rfl (u_not rfl)) ?_
  refine sq_cons ⟨_, [(.t 12, bV (!t10))]⟩ (v_move (.inl rfl) trivial rfl (ble _ _ rfl) rfl) ?_
  refine sq_cons ⟨_, [(.t 13, mg (!(!t10)) (.d (.agg (eDone t1))))]⟩ (v_cF rfl rfl rfl (ble _ _ rfl) rfl fun e2 => (w_ldp (eDone t1) (eDone t1) rfl ⟨_, rfl, be e2⟩ rfl (ble _ _ rfl) ag78 rfl (ble _ _ rfl) rfl)) ?_
  refine sq_cons ⟨_, [(.t 14, mg (!(!t10)) (.d (.sl 11 (([t1]).map eDone))))]⟩ (v_cF rfl rfl rfl (ble _ _ rfl) rfl fun e3 => (w_bsl_d [(0, .d (.agg (eDone t1)))] [t1] eDone rfl ⟨_, rfl, be e3⟩ rfl (ble _ _ rfl) slT48 zr78 teDone (ble _ _ rfl) (cc (pr (gv (nF e3))) rfl) (by kernel_rfl) rfl rfl (by kernel_rfl))) ?_
  obtain ⟨t15, c5, h⟩ := bpos h
  refine sq_cons ⟨_, [(.t 15, mg (!(!t10)) (bV t15))]⟩ (v_cF rfl rfl rfl (ble _ _ rfl) rfl fun e4 => (w_call (ds := [(.sl 11 (([t1]).map eDone))]) (caps := []) (l := [(.s (.bool t15))]) (s58 k ([t1]) _ (cpos (nF e4) c5)) rfl rfl rfl en58 ⟨_, rfl, be e4⟩ rfl (ble _ _ rfl) (.inl ⟨rfl, rfl⟩) (cc (gv (nF e4)) rfl) rfl)) ?_
  refine sq_cons ⟨_, [(.t 16, mg (!(!t10)) (bV (!t15)))]⟩ (v_cF rfl rfl rfl (ble _ _ rfl) rfl fun e6 => (v_un rfl ⟨_, rfl, be e6⟩ rfl (ble _ _ rfl) (gv (nF e6)) (u_not rfl))) ?_
  refine sq_cons ⟨_, [(.t 17, bV ((!t10) || (!t15)))]⟩ (v_pickB rfl trivial rfl (ble _ _ rfl) rfl (fun e7 => rfl) (fun e8 => (gv (nF e8))) (pO _ _)) ?_
  refine sq_nil ?_
  refine ht_cond (b := ((!t10) || (!t15))) rfl (fun e9 => ?_) (fun e9 => ?_)
  · replace h := cpos e9 h
    refine ht_seq ?_
    refine ht_region ?_
    refine sq_cons ⟨_, [(.t 4, .d (.s (.slice none 0 0)))]⟩ (v_move (.inr rfl) trivial rfl (ble _ _ rfl) rfl) ?_
    refine sq_cons ⟨_, [(.t 5, iV 1)]⟩ (v_move (.inr rfl) trivial rfl (ble _ _ rfl) rfl) ?_
    refine sq_nil ?_
    refine ht_ret ?_
    cases h
    exact retM_wk (wk_nil (.t 4) (nb 4) 11 rfl) (ret2 rfl (.tmp rfl) (.tmp rfl))
  · replace h := cneg e9 h
    refine ht_skip ?_
    refine ht_seq ?_
    refine ht_region ?_
    refine sq_cons ⟨_, [(.t 19, .d (.sl 11 (t0.map eDone)))]⟩ (v_move (.inl rfl) trivial rfl (ble _ _ rfl) rfl) ?_
    refine sq_cons ⟨_, [(.t 20, .d (.dp (eDone t1)))]⟩ (v_field_dp (a0 := 0) (cs := (eDone t1)) rfl trivial rfl (ble _ _ rfl) fo78_0 rfl) ?_
    refine sq_cons ⟨_, [(.t 21, iV t1.mClient)]⟩ (v_load_dp1 rfl trivial rfl (ble _ _ rfl) onT3 rfl rfl) ?_
    obtain ⟨⟨t22a, t22b⟩, c10, h⟩ := bpos h
    refine sq_cons ⟨_, [(.t 22, .tup [iV t22a, bV t22b])]⟩ (w_call (ds := [(.sl 11 (t0.map eDone)), (.s (.int .i64 t1.mClient))]) (caps := []) (l := [(.s (.int .i64 t22a)), (.s (.bool t22b))]) (s65 k t0 t1.mClient _ c10) rfl rfl rfl en65 trivial rfl (ble _ _ rfl) (.inl ⟨rfl, rfl⟩) rfl rfl) ?_
    refine sq_cons ⟨_, [(.t 18, .tup [iV t22a, bV t22b])]⟩ (v_move (.inl rfl) trivial rfl (ble _ _ rfl) rfl) ?_
    refine sq_cons ⟨_, [(.t 23, iV t22a)]⟩ (v_extract rfl trivial rfl (ble _ _ rfl) rfl rfl) ?_
    refine sq_cons ⟨_, [(.t 24, bV t22b)]⟩ (v_extract rfl trivial rfl (ble _ _ rfl) rfl rfl) ?_
    refine sq_cons ⟨_, [(.t 6, iV t22a)]⟩ (v_move (.inr rfl) trivial rfl (ble _ _ rfl) rfl) ?_
    refine sq_cons ⟨_, [(.t 7, bV t22b)]⟩ (v_move (.inr rfl) trivial rfl (ble _ _ rfl) rfl) ?_
    refine sq_nil ?_
    refine ht_seq ?_
    refine ht_block ?_
    refine ht_seq ?_
    refine ht_region_draw mixed ?_
    refine rg_cons ⟨_, [(.t 26, bV t22b)]⟩ (v_move (.inl rfl) trivial rfl (ble _ _ rfl) rfl) ?_
    refine rg_cons ⟨_, [(.t 27, bV t22b)]⟩ (v_move (.inl rfl) trivial rfl (ble _ _ rfl) rfl) ?_
    refine rg_cons ⟨_, [(.t 28, mg t22b (.d (.sl 11 (t0.map eDone))))]⟩ (v_cT rfl rfl rfl (ble _ _ rfl) rfl fun e11 => (v_move (.inl rfl) ⟨_, rfl, be e11⟩ rfl (ble _ _ rfl) rfl)) ?_
    refine rg_cons ⟨_, [(.t 29, mg t22b (iV t22a))]⟩ (v_cT rfl rfl rfl (ble _ _ rfl) rfl fun e12 => (v_move (.inl rfl) ⟨_, rfl, be e12⟩ rfl (ble _ _ rfl) rfl)) ?_
    obtain ⟨e14, h⟩ := gpos h
    refine rg_cons ⟨_, [(.t 30, mg t22b (.d (.dp (eDone (rd t0 t22a)))))]⟩ (v_cT rfl rfl rfl (ble _ _ rfl) rfl fun e13 => (w_idx t0 eDone rfl ⟨_, rfl, be e13⟩ rfl (ble _ _ rfl) slT48 (gv e13) (gv e13) (orT e14 e13))) ?_
    refine rg_cons ⟨_, [(.t 31, mg t22b (.d (.dp (List.drop 1 (eDone (rd t0 t22a))))))]⟩ (v_cT rfl rfl rfl (ble _ _ rfl) rfl fun e15 => (v_field_dp (a0 := 1) (cs := (eDone (rd t0 t22a))) rfl ⟨_, rfl, be e15⟩ rfl (ble _ _ rfl) fo78_1 (gv e15))) ?_
    refine rg_cons ⟨_, [(.t 32, mg t22b (iV (rd t0 t22a).mReq))]⟩ (v_cT rfl rfl rfl (ble _ _ rfl) rfl fun e16 => (v_load_dp1 rfl ⟨_, rfl, be e16⟩ rfl (ble _ _ rfl) onT3 (gv e16) rfl)) ?_
    refine rg_cons ⟨_, [(.t 33, mg t22b (.d (.dp (List.drop 1 (eDone t1)))))]⟩ (v_cT rfl rfl rfl (ble _ _ rfl) rfl fun e17 => (v_field_dp (a0 := 1) (cs := (eDone t1)) rfl ⟨_, rfl, be e17⟩ rfl (ble _ _ rfl) fo78_1 rfl)) ?_
    refine rg_cons ⟨_, [(.t 34, mg t22b (iV t1.mReq))]⟩ (v_cT rfl rfl rfl (ble _ _ rfl) rfl fun e18 => (v_load_dp1 rfl ⟨_, rfl, be e18⟩ rfl (ble _ _ rfl) onT3 (gv e18) rfl)) ?_
    refine rg_cons ⟨_, [(.t 35, mg t22b (bV (leI t1.mReq (rd t0 t22a).mReq)))]⟩ (v_cT rfl rfl rfl (ble _ _ rfl) rfl fun e19 => (v_bin rfl ⟨_, rfl, be e19⟩ rfl (ble _ _ rfl) (gv e19) (gv e19) (b_geq rfl))) ?_
    refine rg_cons ⟨_, [(.t 36, bV (t22b && (leI t1.mReq (rd t0 t22a).mReq)))]⟩ (v_pickB rfl trivial rfl (ble _ _ rfl) rfl (fun e20 => (gv e20)) (fun e21 => rfl) (pA _ _)) ?_
    refine rg_cons ⟨_, [(.t 25, bV (t22b && (leI t1.mReq (rd t0 t22a).mReq)))]⟩ (v_move (.inr rfl) trivial rfl (ble _ _ rfl) rfl) ?_
    refine rg_nil ⟨by kernel_rfl, ?_⟩
    refine ht_cond (b := (t22b && (leI t1.mReq (rd t0 t22a).mReq))) rfl (fun e22 => ?_) (fun e22 => ?_)
    · replace h := cpos e22 h
      refine ht_seq ?_
      refine ht_region ?_
      refine sq_cons ⟨_, [(.t 4, .d (.s (.slice none 0 0)))]⟩ (v_move (.inr rfl) trivial rfl (ble _ _ rfl) rfl) ?_
      refine sq_cons ⟨_, [(.t 5, iV 9)]⟩ (v_move (.inr rfl) trivial rfl (ble _ _ rfl) rfl) ?_
      refine sq_nil ?_
      refine ht_ret ?_
      cases h
      exact retM_wk (wk_nil (.t 4) (nb 4) 11 rfl) (ret2 rfl (.tmp rfl) (.tmp rfl))
    · replace h := cneg e22 h
      refine ht_seq ?_
      refine ht_region ?_
      refine sq_cons ⟨_, [(.t 38, bV t22b)]⟩ (v_move (.inl rfl) trivial rfl (ble _ _ rfl) rfl) ?_
      refine sq_cons ⟨_, [(.t 39, bV (!t22b))]⟩ (v_un rfl trivial rfl (ble _ _ rfl) rfl (u_not rfl)) ?_
      refine sq_cons ⟨_, [(.t 40, bV (!t22b))]⟩ (v_move (.inl rfl) trivial rfl (ble _ _ rfl) rfl) ?_
      refine sq_cons ⟨_, [(.t 41, mg (!t22b) (.d (.sl 11 (t0.map eDone))))]⟩ (v_cT rfl rfl rfl (ble _ _ rfl) rfl fun e23 => (v_move (.inl rfl) ⟨_, rfl, be e23⟩ rfl (ble _ _ rfl) rfl)) ?_
      refine sq_cons ⟨_, [(.t 42, mg (!t22b) (iV (t0.length : Int)))]⟩ (v_cT rfl rfl rfl (ble _ _ rfl) rfl fun e24 => (w_len t0 eDone rfl rfl ⟨_, rfl, be e24⟩ rfl (ble _ _ rfl) slT48 (gv e24))) ?_
      refine sq_cons ⟨_, [(.t 43, mg (!t22b) (bV (eqI (t0.length : Int) 8)))]⟩ (v_cT rfl rfl rfl (ble _ _ rfl) rfl fun e25 => (v_bin rfl ⟨_, rfl, be e25⟩ rfl (ble _ _ rfl) (gv e25) rfl (b_eql rfl))) ?_
      refine sq_cons ⟨_, [(.t 44, bV ((!t22b) && (eqI (t0.length : Int) 8)))]⟩ (v_pickB rfl trivial rfl (ble _ _ rfl) rfl (fun e26 => (gv e26)) (fun e27 => rfl) (pA _ _)) ?_
      refine sq_cons ⟨_, [(.t 37, bV ((!t22b) && (eqI (t0.length : Int) 8)))]⟩ (v_move (.inr rfl) trivial rfl (ble _ _ rfl) rfl) ?_
      refine sq_nil ?_
      refine ht_cond (b := ((!t22b) && (eqI (t0.length : Int) 8))) rfl (fun e28 => ?_) (fun e28 => ?_)
      · replace h := cpos e28 h
        refine ht_seq ?_
        refine ht_region ?_
        refine sq_cons ⟨_, [(.t 4, .d (.s (.slice none 0 0)))]⟩ (v_move (.inr rfl) trivial rfl (ble _ _ rfl) rfl) ?_
        refine sq_cons ⟨_, [(.t 5, iV 6)]⟩ (v_move (.inr rfl) trivial rfl (ble _ _ rfl) rfl) ?_
        refine sq_nil ?_
        refine ht_ret ?_
        cases h
        exact retM_wk (wk_nil (.t 4) (nb 4) 11 rfl) (ret2 rfl (.tmp rfl) (.tmp rfl))
      · replace h := cneg e28 h
        refine ht_skip ?_
        refine ht_seq ?_
        refine ht_region ?_
        refine sq_cons ⟨_, [(.t 45, .d (.sl 11 (t0.map eDone)))]⟩ (v_move (.inl rfl) trivial rfl (ble _ _ rfl) rfl) ?_
        obtain ⟨t46, c29, h⟩ := bpos h
        refine sq_cons ⟨_, [(.b 46, .row false 78 11 (t46.map eDone)), (.t 46, .own 46 11 t46.length)]⟩ (w_call_own (id := 46) (ds := [(.sl 11 (t0.map eDone))]) (caps := []) eDone (s70o k t0 _ c29) rfl rfl rfl en70 trivial rfl (ble _ _ rfl) (.inl ⟨rfl, rfl⟩) rfl rfl) ?_
        refine sq_cons ⟨_, [(.t 8, .own 46 11 t46.length)]⟩ (v_move (.inr rfl) trivial rfl (ble _ _ rfl) rfl) ?_
        refine sq_nil ?_
        refine ht_seq ?_
        refine ht_seq ?_
        refine ht_region ?_
        refine sq_cons ⟨_, [(.t 47, bV t22b)]⟩ (v_move (.inl rfl) trivial rfl (ble _ _ rfl) rfl) ?_
        refine sq_nil ?_
        refine ht_cond (b := t22b) rfl (fun e30 => ?_) (fun e30 => ?_)
        · replace h := cpos e30 h
          refine ht_seq ?_
          refine ht_region ?_
          refine sq_cons ⟨_, [(.t 48, .own 46 11 t46.length)]⟩ (v_move (.inl rfl) trivial rfl (ble _ _ rfl) rfl) ?_
          refine sq_cons ⟨_, [(.t 49, iV t22a)]⟩ (v_move (.inl rfl) trivial rfl (ble _ _ rfl) rfl) ?_
          refine sq_cons ⟨_, [(.t 50, .d (.agg (eDone t1)))]⟩ (w_ldp (eDone t1) (eDone t1) rfl trivial rfl (ble _ _ rfl) ag78 rfl (ble _ _ rfl) rfl) ?_
          obtain ⟨e31, h⟩ := gpos h
          refine sq_cons ⟨_, [(.t 51, .elp 46 11 t22a.toNat 0)]⟩ (w_idx_own t46 rfl trivial rfl (ble _ _ rfl) slT48 rfl rfl e31) ?_
          refine sq_cons ⟨_, [(.b 46, .row false 78 11 ((t46.set t22a.toNat t1).map eDone))]⟩ (w_st_elp t46 eDone (eDone t1) t1 rfl trivial rfl sz78 rfl rfl e31 rfl rfl (ones_of rfl) (ble _ _ rfl) rfl) ?_
          refine sq_nil ?_
          refine ht_seq ?_
          refine ht_weak (wk_eq (.t 46) (.own 46 11 (t46.set t22a.toNat t1).length) (lset _ _ _ _ _)) ?_
          refine ht_weak (wk_eq (.t 8) (.own 46 11 (t46.set t22a.toNat t1).length) (lset _ _ _ _ _)) ?_
          refine ht_weak (wk_eq (.t 48) (.own 46 11 (t46.set t22a.toNat t1).length) (lset _ _ _ _ _)) ?_
          refine ht_region ?_
          refine sq_cons ⟨_, [(.t 52, .own 46 11 (t46.set t22a.toNat t1).length)]⟩ (v_move (.inl rfl) trivial rfl (ble _ _ rfl) rfl) ?_
          refine sq_cons ⟨_, [(.t 4, .own 46 11 (t46.set t22a.toNat t1).length)]⟩ (v_move (.inr rfl) trivial rfl (ble _ _ rfl) rfl) ?_
          refine sq_cons ⟨_, [(.t 5, iV 0)]⟩ (v_move (.inr rfl) trivial rfl (ble _ _ rfl) rfl) ?_
          refine sq_nil ?_
          refine ht_ret ?_
          cases h
          exact retM_wk (wk_still_row 46 _ _ _ rfl) (retM_wk (wk_row (.t 4) (nb 4) 46 _ _ _ _ rfl rfl (lm _ _)) (retM_wk (wk_row (.t 8) (nb 8) 46 _ _ _ _ rfl rfl (lm _ _)) (retM_wk (wk_row (.t 46) (nb 46) 46 _ _ _ _ rfl rfl (lm _ _)) (retM_wk (wk_row (.t 48) (nb 48) 46 _ _ _ _ rfl rfl (lm _ _)) (retM_wk (wk_row (.t 52) (nb 52) 46 _ _ _ _ rfl rfl (lm _ _)) (ret2 rfl (.tmp rfl) (.tmp rfl)))))))
        · replace h := cneg e30 h
          refine ht_skip ?_
          refine ht_seq ?_
          refine ht_region ?_
          refine sq_cons ⟨_, [(.t 53, .own 46 11 t46.length)]⟩ (v_move (.inl rfl) trivial rfl (ble _ _ rfl) rfl) ?_
          refine sq_cons ⟨_, [(.t 54, iV t22a)]⟩ (v_move (.inl rfl) trivial rfl (ble _ _ rfl) rfl) ?_
          refine sq_cons ⟨_, [(.t 55, .d (.agg (eDone t1)))]⟩ (w_ldp (eDone t1) (eDone t1) rfl trivial rfl (ble _ _ rfl) ag78 rfl (ble _ _ rfl) rfl) ?_
          refine sq_cons ⟨_, [(.b 56, .row false 78 11 (([t1]).map eDone)), (.t 56, .own 56 11 ([t1]).length)]⟩ (w_bsl (id := 56) [(0, .d (.agg (eDone t1)))] [t1] eDone rfl trivial rfl (ble _ _ rfl) slT48 zr78 teDone (ble _ _ rfl) rfl (by kernel_rfl) rfl rfl (by kernel_rfl) (by kernel_rfl)) ?_
          obtain ⟨e32, h⟩ := gpos h
          refine sq_cons ⟨_, [(.b 46, .spent), (.b 57, .row false 78 11 ((List.take t22a.toNat t46 ++ [t1] ++ List.drop t22a.toNat t46).map eDone)), (.t 57, .own 57 11 (List.take t22a.toNat t46 ++ [t1] ++ List.drop t22a.toNat t46).length)]⟩ (w_ins 57 t46 t1 eDone insS71 rfl rfl rfl en71 trivial rfl (ble _ _ rfl) teDone rfl rfl rfl rfl rfl rfl rfl e32) ?_
          refine sq_cons ⟨_, [(.t 4, .own 57 11 (List.take t22a.toNat t46 ++ [t1] ++ List.drop t22a.toNat t46).length)]⟩ (v_move (.inr rfl) trivial rfl (ble _ _ rfl) rfl) ?_
          refine sq_cons ⟨_, [(.t 5, iV 0)]⟩ (v_move (.inr rfl) trivial rfl (ble _ _ rfl) rfl) ?_
          refine sq_nil ?_
          refine ht_ret ?_
          cases h
          exact retM_wk (wk_still_row 57 _ _ _ rfl) (retM_wk (wk_row (.t 4) (nb 4) 57 _ _ _ _ rfl rfl (lm _ _)) (retM_wk (wk_row (.t 57) (nb 57) 57 _ _ _ _ rfl rfl (lm _ _)) (ret2 rfl (.tmp rfl) (.tmp rfl))))
set_option maxRecDepth 100000 in
set_option maxHeartbeats 4000000 in
theorem s72 (k : Nat) (t0 : List Shard) (r : (List Shard)) (h : F72 k t0 = some r) : Awp.Spec Tryd.prog amb 72 [(.sl 17 (t0.map eShard))] (.ds [(.sl 17 (r.map eShard))]) := by
  rw [F72] at h
  refine spec_of Tryd.func72 rfl (ble _ _ rfl) fun w0 ok0 lt0 hA => ?_
  refine ht_seq ?_
  refine ht_region ?_
  refine sq_cons ⟨_, [(.t 2, .d (.s (.slice none 0 0)))]⟩ (v_move (.inr rfl) trivial rfl (ble _ _ rfl) rfl) ?_
  refine sq_nil ?_
  refine ht_seq ?_
  refine ht_seq ?_
  refine ht_region ?_
  refine sq_cons ⟨_, [(.t 3, .d (.sl 17 (t0.map eShard)))]⟩ (v_move (.inl rfl) trivial rfl (ble _ _ rfl) rfl) ?_
  refine sq_nileq rfl trivial rfl (ble _ _ rfl) und28 rfl (fun b1 hb2 => ?_)
  refine sq_nil ?_
  refine ht_cond (b := b1) rfl (fun e3 => ?_) (fun e3 => ?_)
  · obtain rfl : t0 = [] := List.map_eq_nil_iff.1 (hb2 e3)
    replace h : (some ([] : List Shard) : Option (List Shard)) = some r := by (obtain ⟨_, h⟩ := gpos h; cases h; rfl)
    refine ht_seq ?_
    refine ht_region ?_
    refine sq_cons ⟨_, [(.t 2, .d (.s (.slice none 0 0)))]⟩ (v_move (.inr rfl) trivial rfl (ble _ _ rfl) rfl) ?_
    refine sq_nil ?_
    refine ht_ret ?_
    cases h
    exact retM_wk (wk_nil (.t 2) (nb 2) 17 rfl) (ret1 rfl (.tmp rfl))
  · refine ht_skip ?_
    refine ht_seq ?_
    refine ht_region ?_
    refine sq_cons ⟨_, [(.b 5, .row false 50 17 (([] : List Shard).map eShard)), (.t 5, .own 5 17 ([] : List Shard).length)]⟩ (w_bsl (id := 5) [] ([] : List Shard) eShard rfl trivial rfl (ble _ _ rfl) slT28 zr50 teShard (ble _ _ rfl) rfl (by kernel_rfl) rfl rfl (by kernel_rfl) (by kernel_rfl)) ?_
    refine sq_cons ⟨_, [(.t 6, .d (.sl 17 (t0.map eShard)))]⟩ (v_move (.inl rfl) trivial rfl (ble _ _ rfl) rfl) ?_
    obtain ⟨e4, h⟩ := gpos h
    refine sq_cons ⟨_, [(.b 5, .spent), (.b 7, .row false 50 17 ((([] : List Shard) ++ t0).map eShard)), (.t 7, .own 7 17 (([] : List Shard) ++ t0).length)]⟩ (w_app 7 ([] : List Shard) t0 eShard rfl rfl trivial rfl (ble _ _ rfl) slT28 elT50 teShard rfl rfl rfl (.d) rfl e4) ?_
    refine sq_cons ⟨_, [(.t 2, .own 7 17 (([] : List Shard) ++ t0).length)]⟩ (v_move (.inr rfl) trivial rfl (ble _ _ rfl) rfl) ?_
    refine sq_nil ?_
    refine ht_ret ?_
    cases h
    exact retM_wk (wk_still_row 7 _ _ _ rfl) (retM_wk (wk_row (.t 2) (nb 2) 7 _ _ _ _ rfl rfl (lm _ _)) (retM_wk (wk_row (.t 7) (nb 7) 7 _ _ _ _ rfl rfl (lm _ _)) (ret1 rfl (.tmp rfl))))
set_option maxRecDepth 100000 in
set_option maxHeartbeats 4000000 in
theorem s72o (k : Nat) (t0 : List Shard) (r : (List Shard)) (h : F72o k t0 = some r) : Awp.Spec Tryd.prog amb 72 [(.sl 17 (t0.map eShard))] (.own 50 17 (r.map eShard)) := by
  rw [F72o] at h
  refine spec_of Tryd.func72 rfl (ble _ _ rfl) fun w0 ok0 lt0 hA => ?_
  refine ht_seq ?_
  refine ht_region ?_
  refine sq_cons ⟨_, [(.t 2, .d (.s (.slice none 0 0)))]⟩ (v_move (.inr rfl) trivial rfl (ble _ _ rfl) rfl) ?_
  refine sq_nil ?_
  refine ht_seq ?_
  refine ht_seq ?_
  refine ht_region ?_
  refine sq_cons ⟨_, [(.t 3, .d (.sl 17 (t0.map eShard)))]⟩ (v_move (.inl rfl) trivial rfl (ble _ _ rfl) rfl) ?_
  refine sq_nileq rfl trivial rfl (ble _ _ rfl) und28 rfl (fun b1 hb2 => ?_)
  refine sq_nil ?_
  refine ht_cond (b := b1) rfl (fun e3 => ?_) (fun e3 => ?_)
  · obtain rfl : t0 = [] := List.map_eq_nil_iff.1 (hb2 e3)
    replace h : (some ([]) : Option (List Shard)) = some r := by (obtain ⟨_, h⟩ := gpos h; cases h; rfl)
    refine ht_seq ?_
    refine ht_region ?_
    refine sq_cons ⟨_, [(.t 2, .d (.s (.slice none 0 0)))]⟩ (v_move (.inr rfl) trivial rfl (ble _ _ rfl) rfl) ?_
    refine sq_nil ?_
    refine ht_ret ?_
    cases h
    exact retM_wk (wk_nilrow (.t 2) (nb 2) 3002 50 17 rfl rfl) (ret_own rfl rfl rfl rfl)
  · refine ht_skip ?_
    refine ht_seq ?_
    refine ht_region ?_
    refine sq_cons ⟨_, [(.b 5, .row false 50 17 (([] : List Shard).map eShard)), (.t 5, .own 5 17 ([] : List Shard).length)]⟩ (w_bsl (id := 5) [] ([] : List Shard) eShard rfl trivial rfl (ble _ _ rfl) slT28 zr50 teShard (ble _ _ rfl) rfl (by kernel_rfl) rfl rfl (by kernel_rfl) (by kernel_rfl)) ?_
    refine sq_cons ⟨_, [(.t 6, .d (.sl 17 (t0.map eShard)))]⟩ (v_move (.inl rfl) trivial rfl (ble _ _ rfl) rfl) ?_
    obtain ⟨e4, h⟩ := gpos h
    refine sq_cons ⟨_, [(.b 5, .spent), (.b 7, .row false 50 17 ((([] : List Shard) ++ t0).map eShard)), (.t 7, .own 7 17 (([] : List Shard) ++ t0).length)]⟩ (w_app 7 ([] : List Shard) t0 eShard rfl rfl trivial rfl (ble _ _ rfl) slT28 elT50 teShard rfl rfl rfl (.d) rfl e4) ?_
    refine sq_cons ⟨_, [(.t 2, .own 7 17 (([] : List Shard) ++ t0).length)]⟩ (v_move (.inr rfl) trivial rfl (ble _ _ rfl) rfl) ?_
    refine sq_nil ?_
    refine ht_ret ?_
    cases h
    exact ret_own rfl rfl rfl (lm _ _)
set_option maxRecDepth 100000 in
set_option maxHeartbeats 4000000 in
theorem s48 (k : Nat) (t0 : Cell) (t1 : Shard) (r : Cell) (h : F48 k t0 t1 = some r) : Awp.Spec Tryd.prog amb 48 [(.agg (eCell t0)), (.agg (eShard t1))] (.ds [(.agg (eCell r))]) := by
  rw [F48] at h
  refine spec_of Tryd.func48 rfl (ble _ _ rfl) fun w0 ok0 lt0 hA => ?_
  refine ht_seq ?_
  refine ht_region ?_
  refine sq_cons _ (v_box (id := 2) (cs := (eCell t0).map V.d) rfl trivial rfl (ble _ _ rfl) rfl rfl (ones_of rfl) rfl) ?_
  refine sq_cons ⟨_, [(.t 3, .d (.dp (eShard t1)))]⟩ (v_box_d (cs := (eShard t1)) rfl trivial rfl (ble _ _ rfl) rfl rfl (ones_of rfl)) ?_
  refine sq_cons _ (v_alloc (id := 4) (cs := zc30) rfl trivial rfl (ble _ _ rfl) zu30 rfl ft30 rfl) ?_
  refine sq_nil ?_
  refine ht_seq ?_
  refine ht_region ?_
  refine sq_cons ⟨_, [(.t 8, .d (.agg (eCell t0)))]⟩ (w_ldb 2 0 rfl trivial rfl (ble _ _ rfl) ag30 rfl rfl (ble _ _ rfl) rfl) ?_
  refine sq_cons ⟨_, [(.t 9, .d (.dp (eShard t1)))]⟩ (v_field_dp (a0 := 0) (cs := (eShard t1)) rfl trivial rfl (ble _ _ rfl) fo50_0 rfl) ?_
  refine sq_cons ⟨_, [(.t 10, iV t1.mID)]⟩ (v_load_dp1 rfl trivial rfl (ble _ _ rfl) onT3 rfl rfl) ?_
  obtain ⟨⟨t11a, t11b⟩, c1, h⟩ := bpos h
  refine sq_cons ⟨_, [(.t 11, .tup [iV t11a, bV t11b])]⟩ (w_call (ds := [(.agg (eCell t0)), (.s (.int .i64 t1.mID))]) (caps := []) (l := [(.s (.int .i64 t11a)), (.s (.bool t11b))]) (s41 k t0 t1.mID _ c1) rfl rfl rfl en41 trivial rfl (ble _ _ rfl) (.inl ⟨rfl, rfl⟩) rfl rfl) ?_
  refine sq_cons ⟨_, [(.t 7, .tup [iV t11a, bV t11b])]⟩ (v_move (.inl rfl) trivial rfl (ble _ _ rfl) rfl) ?_
  refine sq_cons ⟨_, [(.t 12, iV t11a)]⟩ (v_extract rfl trivial rfl (ble _ _ rfl) rfl rfl) ?_
  refine sq_cons ⟨_, [(.t 13, bV t11b)]⟩ (v_extract rfl trivial rfl (ble _ _ rfl) rfl rfl) ?_
  refine sq_cons ⟨_, [(.t 5, iV t11a)]⟩ (v_move (.inr rfl) trivial rfl (ble _ _ rfl) rfl) ?_
  refine sq_cons ⟨_, [(.t 6, bV t11b)]⟩ (v_move (.inr rfl) trivial rfl (ble _ _ rfl) rfl) ?_
  refine sq_nil ?_
  refine ht_seq ?_
  refine ht_region ?_
  refine sq_cons ⟨_, [(.t 14, .ptr 2 0)]⟩ (v_field_box (off := 0) (a0 := 0) rfl trivial rfl (ble _ _ rfl) fo30_0 rfl) ?_
  refine sq_cons ⟨_, [(.t 15, .d (.sl 17 (t0.mShards.map eShard)))]⟩ (v_load_box1 (id := 2) (off := 0) rfl trivial rfl (ble _ _ rfl) onT28 rfl rfl (ble _ _ rfl) rfl) ?_
  obtain ⟨t16, c2, h⟩ := bpos h
  refine sq_cons ⟨_, [(.b 16, .row false 50 17 (t16.map eShard)), (.t 16, .own 16 17 t16.length)]⟩ (w_call_own (id := 16) (ds := [(.sl 17 (t0.mShards.map eShard))]) (caps := []) eShard (s72o k t0.mShards _ c2) rfl rfl rfl en72 trivial rfl (ble _ _ rfl) (.inl ⟨rfl, rfl⟩) rfl rfl) ?_
  refine sq_cons ⟨_, [(.t 17, .ptr 2 0)]⟩ (v_field_box (off := 0) (a0 := 0) rfl trivial rfl (ble _ _ rfl) fo30_0 rfl) ?_
  refine sq_cons _ (v_store_box (id := 2) (off := 0) (cs := [.own 16 17 t16.length]) rfl trivial rfl sz28 rfl rfl rfl rfl (ones_of rfl) (ble _ _ rfl)) ?_
  refine sq_nil ?_
  refine ht_seq ?_
  refine ht_seq ?_
  refine ht_region ?_
  refine sq_cons ⟨_, [(.t 18, bV t11b)]⟩ (v_move (.inl rfl) trivial rfl (ble _ _ rfl) rfl) ?_
  refine sq_nil ?_
  refine ht_cond (b := t11b) rfl (fun e3 => ?_) (fun e3 => ?_)
  · replace h := cpos e3 h
    refine ht_region ?_
    refine sq_cons ⟨_, [(.t 19, .ptr 2 0)]⟩ (v_field_box (off := 0) (a0 := 0) rfl trivial rfl (ble _ _ rfl) fo30_0 rfl) ?_
    refine sq_cons ⟨_, [(.t 20, .own 16 17 t16.length)]⟩ (v_load_box1 (id := 2) (off := 0) rfl trivial rfl (ble _ _ rfl) onT28 rfl rfl (ble _ _ rfl) rfl) ?_
    refine sq_cons ⟨_, [(.t 21, iV t11a)]⟩ (v_move (.inl rfl) trivial rfl (ble _ _ rfl) rfl) ?_
    refine sq_cons ⟨_, [(.t 22, .d (.agg (eShard t1)))]⟩ (w_ldp (eShard t1) (eShard t1) rfl trivial rfl (ble _ _ rfl) ag50 rfl (ble _ _ rfl) rfl) ?_
    obtain ⟨e4, h⟩ := gpos h
    refine sq_cons ⟨_, [(.t 23, .elp 16 17 t11a.toNat 0)]⟩ (w_idx_own t16 rfl trivial rfl (ble _ _ rfl) slT28 rfl rfl e4) ?_
    refine sq_cons ⟨_, [(.b 16, .row false 50 17 ((t16.set t11a.toNat t1).map eShard))]⟩ (w_st_elp t16 eShard (eShard t1) t1 rfl trivial rfl sz50 rfl rfl e4 rfl rfl (ones_of rfl) (ble _ _ rfl) rfl) ?_
    refine sq_nil ?_
    refine ht_seq ?_
    refine ht_weak (wk_eq (.c 2 0) (.own 16 17 (t16.set t11a.toNat t1).length) (lset _ _ _ _ _)) ?_
    refine ht_weak (wk_eq (.t 16) (.own 16 17 (t16.set t11a.toNat t1).length) (lset _ _ _ _ _)) ?_
    refine ht_weak (wk_eq (.t 20) (.own 16 17 (t16.set t11a.toNat t1).length) (lset _ _ _ _ _)) ?_
    refine ht_weak (wk_still_row 16 _ _ _ rfl) ?_
    refine ht_weak (wk_row (.c 2 0) (nc 2 0) 16 _ _ _ _ rfl rfl (lm _ _)) ?_
    refine ht_weak (wk_row (.t 16) (nb 16) 16 _ _ _ _ rfl rfl (lm _ _)) ?_
    refine ht_weak (wk_row (.t 20) (nb 20) 16 _ _ _ _ rfl rfl (lm _ _)) ?_
    refine ht_region ?_
    refine sq_cons ⟨_, [(.t 31, .d (.agg (eCell ({t0 with mShards := (t16.set t11a.toNat t1)}))))]⟩ (w_ldb 2 0 rfl trivial rfl (ble _ _ rfl) ag30 rfl rfl (ble _ _ rfl) rfl) ?_
    refine sq_cons _ (v_store_box (id := 4) (off := 0) (cs := (eCell ({t0 with mShards := (t16.set t11a.toNat t1)})).map V.d) rfl trivial rfl sz30 rfl rfl rfl rfl (ones_of rfl) (ble _ _ rfl)) ?_
    refine sq_nil ?_
    refine ht_ret ?_
    cases h
    exact ret1 rfl (.cell rfl rfl ag30 (ble _ _ rfl) rfl)
  · replace h := cneg e3 h
    refine ht_region ?_
    refine sq_cons ⟨_, [(.t 24, .ptr 2 0)]⟩ (v_field_box (off := 0) (a0 := 0) rfl trivial rfl (ble _ _ rfl) fo30_0 rfl) ?_
    refine sq_cons ⟨_, [(.t 25, .own 16 17 t16.length)]⟩ (v_load_box1 (id := 2) (off := 0) rfl trivial rfl (ble _ _ rfl) onT28 rfl rfl (ble _ _ rfl) rfl) ?_
    refine sq_cons ⟨_, [(.t 26, iV t11a)]⟩ (v_move (.inl rfl) trivial rfl (ble _ _ rfl) rfl) ?_
    refine sq_cons ⟨_, [(.t 27, .d (.agg (eShard t1)))]⟩ (w_ldp (eShard t1) (eShard t1) rfl trivial rfl (ble _ _ rfl) ag50 rfl (ble _ _ rfl) rfl) ?_
    refine sq_cons ⟨_, [(.b 28, .row false 50 17 (([t1]).map eShard)), (.t 28, .own 28 17 ([t1]).length)]⟩ (w_bsl (id := 28) [(0, .d (.agg (eShard t1)))] [t1] eShard rfl trivial rfl (ble _ _ rfl) slT28 zr50 teShard (ble _ _ rfl) rfl (by kernel_rfl) rfl rfl (by kernel_rfl) (by kernel_rfl)) ?_
    obtain ⟨e5, h⟩ := gpos h
    refine sq_cons ⟨_, [(.b 16, .spent), (.b 29, .row false 50 17 ((List.take t11a.toNat t16 ++ [t1] ++ List.drop t11a.toNat t16).map eShard)), (.t 29, .own 29 17 (List.take t11a.toNat t16 ++ [t1] ++ List.drop t11a.toNat t16).length)]⟩ (w_ins 29 t16 t1 eShard insS73 rfl rfl rfl en73 trivial rfl (ble _ _ rfl) teShard rfl rfl rfl rfl rfl rfl rfl e5) ?_
    refine sq_cons ⟨_, [(.t 30, .ptr 2 0)]⟩ (v_field_box (off := 0) (a0 := 0) rfl trivial rfl (ble _ _ rfl) fo30_0 rfl) ?_
    refine sq_cons _ (v_store_box (id := 2) (off := 0) (cs := [.own 29 17 (List.take t11a.toNat t16 ++ [t1] ++ List.drop t11a.toNat t16).length]) rfl trivial rfl sz28 rfl rfl rfl rfl (ones_of rfl) (ble _ _ rfl)) ?_
    refine sq_nil ?_
    refine ht_seq ?_
    refine ht_weak (wk_still_row 29 _ _ _ rfl) ?_
    refine ht_weak (wk_row (.c 2 0) (nc 2 0) 29 _ _ _ _ rfl rfl (lm _ _)) ?_
    refine ht_weak (wk_row (.t 29) (nb 29) 29 _ _ _ _ rfl rfl (lm _ _)) ?_
    refine ht_region ?_
    refine sq_cons ⟨_, [(.t 31, .d (.agg (eCell ({t0 with mShards := (List.take t11a.toNat t16 ++ [t1] ++ List.drop t11a.toNat t16)}))))]⟩ (w_ldb 2 0 rfl trivial rfl (ble _ _ rfl) ag30 rfl rfl (ble _ _ rfl) rfl) ?_
    refine sq_cons _ (v_store_box (id := 4) (off := 0) (cs := (eCell ({t0 with mShards := (List.take t11a.toNat t16 ++ [t1] ++ List.drop t11a.toNat t16)})).map V.d) rfl trivial rfl sz30 rfl rfl rfl rfl (ones_of rfl) (ble _ _ rfl)) ?_
    refine sq_nil ?_
    refine ht_ret ?_
    cases h
    exact ret1 rfl (.cell rfl rfl ag30 (ble _ _ rfl) rfl)
set_option maxRecDepth 100000 in
set_option maxHeartbeats 4000000 in
theorem s25 (k : Nat) (t0 : Cell) (t1 : Shard) (t2 : Request) (t3 : Stamp) (r : Cell × Answer) (h : F25 k t0 t1 t2 t3 = some r) : Awp.Spec Tryd.prog amb 25 [(.agg (eCell t0)), (.agg (eShard t1)), (.agg (eRequest t2)), (.agg (eStamp t3))] (.ds [(.agg (eCell r.1)), (.agg (eAnswer r.2))]) := by
  rw [F25] at h
  refine spec_of Tryd.func25 rfl (ble _ _ rfl) fun w0 ok0 lt0 hA => ?_
  refine ht_seq ?_
  refine ht_region ?_
  refine sq_cons _ (v_box (id := 4) (cs := (eCell t0).map V.d) rfl trivial rfl (ble _ _ rfl) rfl rfl (ones_of rfl) rfl) ?_
  refine sq_cons _ (v_box (id := 5) (cs := (eShard t1).map V.d) rfl trivial rfl (ble _ _ rfl) rfl rfl (ones_of rfl) rfl) ?_
  refine sq_cons ⟨_, [(.t 6, .d (.dp (eRequest t2)))]⟩ (v_box_d (cs := (eRequest t2)) rfl trivial rfl (ble _ _ rfl) rfl rfl (ones_of rfl)) ?_
  refine sq_cons ⟨_, [(.t 7, .d (.dp (eStamp t3)))]⟩ (v_box_d (cs := (eStamp t3)) rfl trivial rfl (ble _ _ rfl) rfl rfl (ones_of rfl)) ?_
  refine sq_cons _ (v_alloc (id := 8) (cs := zc30) rfl trivial rfl (ble _ _ rfl) zu30 rfl ft30 rfl) ?_
  refine sq_cons _ (v_alloc (id := 9) (cs := zc35) rfl trivial rfl (ble _ _ rfl) zu35 rfl ft35 rfl) ?_
  refine sq_nil ?_
  refine ht_seq ?_
  refine ht_seq ?_
  refine ht_region ?_
  refine sq_cons ⟨_, [(.t 15, .ptr 5 12)]⟩ (v_field_box (off := 0) (a0 := 12) rfl trivial rfl (ble _ _ rfl) fo50_7 rfl) ?_
  refine sq_cons ⟨_, [(.t 16, .d (.sl 11 (t1.mDone.map eDone)))]⟩ (v_load_box1 (id := 5) (off := 12) rfl trivial rfl (ble _ _ rfl) onT48 rfl rfl (ble _ _ rfl) rfl) ?_
  refine sq_cons ⟨_, [(.t 17, .d (.dp (eRequest t2)))]⟩ (v_field_dp (a0 := 0) (cs := (eRequest t2)) rfl trivial rfl (ble _ _ rfl) fo25_0 rfl) ?_
  refine sq_cons ⟨_, [(.t 18, iV t2.mClient)]⟩ (v_load_dp1 rfl trivial rfl (ble _ _ rfl) onT3 rfl rfl) ?_
  refine sq_cons ⟨_, [(.t 19, .d (.dp (List.drop 1 (eRequest t2))))]⟩ (v_field_dp (a0 := 1) (cs := (eRequest t2)) rfl trivial rfl (ble _ _ rfl) fo25_1 rfl) ?_
  refine sq_cons ⟨_, [(.t 20, iV t2.mReq)]⟩ (v_load_dp1 rfl trivial rfl (ble _ _ rfl) onT3 rfl rfl) ?_
  obtain ⟨t21, c1, h⟩ := bpos h
  refine sq_cons ⟨_, [(.t 21, iV t21)]⟩ (w_call (ds := [(.sl 11 (t1.mDone.map eDone)), (.s (.int .i64 t2.mClient)), (.s (.int .i64 t2.mReq))]) (caps := []) (l := [(.s (.int .i64 t21))]) (s44 k t1.mDone t2.mClient t2.mReq _ c1) rfl rfl rfl en44 trivial rfl (ble _ _ rfl) (.inl ⟨rfl, rfl⟩) rfl rfl) ?_
  refine sq_nil ?_
  refine ht_block ?_
  refine ht_seq ?_
  refine ht_region ?_
  refine sq_cons ⟨_, [(.t 23, bV (eqI t21 2))]⟩ (v_bin rfl trivial rfl (ble _ _ rfl) rfl rfl (b_eql rfl)) ?_
  refine sq_cons ⟨_, [(.t 22, bV (eqI t21 2))]⟩ (v_move (.inr rfl) trivial rfl (ble _ _ rfl) rfl) ?_
  refine sq_nil ?_
  refine ht_cond (b := (eqI t21 2)) rfl (fun e2 => ?_) (fun e2 => ?_)
  · replace h := cpos e2 h
    refine ht_seq ?_
    refine ht_region ?_
    refine sq_cons ⟨_, [(.t 25, .ptr 5 12)]⟩ (v_field_box (off := 0) (a0 := 12) rfl trivial rfl (ble _ _ rfl) fo50_7 rfl) ?_
    refine sq_cons ⟨_, [(.t 26, .d (.sl 11 (t1.mDone.map eDone)))]⟩ (v_load_box1 (id := 5) (off := 12) rfl trivial rfl (ble _ _ rfl) onT48 rfl rfl (ble _ _ rfl) rfl) ?_
    refine sq_cons ⟨_, [(.t 27, .d (.dp (eRequest t2)))]⟩ (v_field_dp (a0 := 0) (cs := (eRequest t2)) rfl trivial rfl (ble _ _ rfl) fo25_0 rfl) ?_
    refine sq_cons ⟨_, [(.t 28, iV t2.mClient)]⟩ (v_load_dp1 rfl trivial rfl (ble _ _ rfl) onT3 rfl rfl) ?_
    obtain ⟨⟨t29a, t29b⟩, c3, h⟩ := bpos h
    refine sq_cons ⟨_, [(.t 29, .tup [.d (.agg (eDone t29a)), bV t29b])]⟩ (w_call (ds := [(.sl 11 (t1.mDone.map eDone)), (.s (.int .i64 t2.mClient))]) (caps := []) (l := [(.agg (eDone t29a)), (.s (.bool t29b))]) (s45 k t1.mDone t2.mClient _ c3) rfl rfl rfl en45 trivial rfl (ble _ _ rfl) (.inl ⟨rfl, rfl⟩) rfl rfl) ?_
    refine sq_cons ⟨_, [(.t 24, .tup [.d (.agg (eDone t29a)), bV t29b])]⟩ (v_move (.inl rfl) trivial rfl (ble _ _ rfl) rfl) ?_
    refine sq_cons ⟨_, [(.t 30, .d (.agg (eDone t29a)))]⟩ (v_extract rfl trivial rfl (ble _ _ rfl) rfl rfl) ?_
    refine sq_cons ⟨_, [(.t 31, bV t29b)]⟩ (v_extract rfl trivial rfl (ble _ _ rfl) rfl rfl) ?_
    refine sq_cons _ (v_alloc (id := 10) (cs := zc78) rfl trivial rfl (ble _ _ rfl) zu78 rfl ft78 rfl) ?_
    refine sq_cons _ (v_store_box (id := 10) (off := 0) (cs := (eDone t29a).map V.d) rfl trivial rfl sz78 rfl rfl rfl rfl (ones_of rfl) (ble _ _ rfl)) ?_
    refine sq_cons ⟨_, [(.t 11, bV t29b)]⟩ (v_move (.inr rfl) trivial rfl (ble _ _ rfl) rfl) ?_
    refine sq_nil ?_
    refine ht_seq ?_
    refine ht_region_draw mixed ?_
    refine rg_cons ⟨_, [(.t 32, .d (.agg (eCell t0)))]⟩ (w_ldb 4 0 rfl trivial rfl (ble _ _ rfl) ag30 rfl rfl (ble _ _ rfl) rfl) ?_
    refine rg_cons ⟨_, [(.t 33, .ptr 10 2)]⟩ (v_field_box (off := 0) (a0 := 2) rfl trivial rfl (ble _ _ rfl) fo78_2 rfl) ?_
    refine rg_cons ⟨_, [(.t 34, .d (.agg (eAnswer t29a.mAnswer)))]⟩ (w_ldb 10 2 rfl trivial rfl (ble _ _ rfl) ag35 rfl rfl (ble _ _ rfl) rfl) ?_
    refine rg_cons _ (v_store_box (id := 8) (off := 0) (cs := (eCell t0).map V.d) rfl trivial rfl sz30 rfl rfl rfl rfl (ones_of rfl) (ble _ _ rfl)) ?_
    refine rg_cons _ (v_store_box (id := 9) (off := 0) (cs := (eAnswer t29a.mAnswer).map V.d) rfl trivial rfl sz35 rfl rfl rfl rfl (ones_of rfl) (ble _ _ rfl)) ?_
    refine rg_nil ⟨by kernel_rfl, ?_⟩
    refine ht_ret ?_
    cases h
    exact ret2 rfl (.cell rfl rfl ag30 (ble _ _ rfl) rfl) (.cell rfl rfl ag35 (ble _ _ rfl) rfl)
  · replace h := cneg e2 h
    refine ht_seq ?_
    refine ht_region ?_
    refine sq_cons ⟨_, [(.t 36, bV (eqI t21 3))]⟩ (v_bin rfl trivial rfl (ble _ _ rfl) rfl rfl (b_eql rfl)) ?_
    refine sq_cons ⟨_, [(.t 35, bV (eqI t21 3))]⟩ (v_move (.inr rfl) trivial rfl (ble _ _ rfl) rfl) ?_
    refine sq_nil ?_
    refine ht_cond (b := (eqI t21 3)) rfl (fun e4 => ?_) (fun e4 => ?_)
    · replace h := cpos e4 h
      refine ht_seq ?_
      refine ht_region_draw mixed ?_
      refine rg_cons ⟨_, [(.t 37, .d (.agg (eCell t0)))]⟩ (w_ldb 4 0 rfl trivial rfl (ble _ _ rfl) ag30 rfl rfl (ble _ _ rfl) rfl) ?_
      obtain ⟨t38, c5, h⟩ := bpos h
      refine rg_cons ⟨_, [(.t 38, .d (.agg (eAnswer t38)))]⟩ (w_call (ds := [(.s (.int .i64 10))]) (caps := []) (l := [(.agg (eAnswer t38))]) (s21 k 10 _ c5) rfl rfl rfl en21 trivial rfl (ble _ _ rfl) (.inl ⟨rfl, rfl⟩) rfl rfl) ?_
      refine rg_cons _ (v_store_box (id := 8) (off := 0) (cs := (eCell t0).map V.d) rfl trivial rfl sz30 rfl rfl rfl rfl (ones_of rfl) (ble _ _ rfl)) ?_
      refine rg_cons _ (v_store_box (id := 9) (off := 0) (cs := (eAnswer t38).map V.d) rfl trivial rfl sz35 rfl rfl rfl rfl (ones_of rfl) (ble _ _ rfl)) ?_
      refine rg_nil ⟨by kernel_rfl, ?_⟩
      refine ht_ret ?_
      cases h
      exact ret2 rfl (.cell rfl rfl ag30 (ble _ _ rfl) rfl) (.cell rfl rfl ag35 (ble _ _ rfl) rfl)
    · replace h := cneg e4 h
      refine ht_skip ?_
      refine ht_seq ?_
      refine ht_seq ?_
      refine ht_region ?_
      refine sq_cons ⟨_, [(.t 39, .d (.agg (eStamp t3)))]⟩ (w_ldp (eStamp t3) (eStamp t3) rfl trivial rfl (ble _ _ rfl) ag23 rfl (ble _ _ rfl) rfl) ?_
      refine sq_cons ⟨_, [(.t 40, .ptr 4 1)]⟩ (v_field_box (off := 0) (a0 := 1) rfl trivial rfl (ble _ _ rfl) fo30_1 rfl) ?_
      refine sq_cons ⟨_, [(.t 41, .d (.agg (eStamp t0.mTop)))]⟩ (w_ldb 4 1 rfl trivial rfl (ble _ _ rfl) ag23 rfl rfl (ble _ _ rfl) rfl) ?_
      obtain ⟨t42, c6, h⟩ := bpos h
      refine sq_cons ⟨_, [(.t 42, iV t42)]⟩ (w_call (ds := [(.agg (eStamp t3)), (.agg (eStamp t0.mTop))]) (caps := []) (l := [(.s (.int .i64 t42))]) (s29 k t3 t0.mTop _ c6) rfl rfl rfl en29 trivial rfl (ble _ _ rfl) (.inl ⟨rfl, rfl⟩) rfl rfl) ?_
      refine sq_cons ⟨_, [(.t 43, bV (leI t42 0))]⟩ (v_bin rfl trivial rfl (ble _ _ rfl) rfl rfl (b_leq rfl)) ?_
      refine sq_nil ?_
      refine ht_cond (b := (leI t42 0)) rfl (fun e7 => ?_) (fun e7 => ?_)
      · replace h := cpos e7 h
        refine ht_seq ?_
        refine ht_region_draw mixed ?_
        refine rg_cons ⟨_, [(.t 44, .d (.agg (eCell t0)))]⟩ (w_ldb 4 0 rfl trivial rfl (ble _ _ rfl) ag30 rfl rfl (ble _ _ rfl) rfl) ?_
        obtain ⟨t45, c8, h⟩ := bpos h
        refine rg_cons ⟨_, [(.t 45, .d (.agg (eAnswer t45)))]⟩ (w_call (ds := [(.s (.int .i64 1))]) (caps := []) (l := [(.agg (eAnswer t45))]) (s21 k 1 _ c8) rfl rfl rfl en21 trivial rfl (ble _ _ rfl) (.inl ⟨rfl, rfl⟩) rfl rfl) ?_
        refine rg_cons _ (v_store_box (id := 8) (off := 0) (cs := (eCell t0).map V.d) rfl trivial rfl sz30 rfl rfl rfl rfl (ones_of rfl) (ble _ _ rfl)) ?_
        refine rg_cons _ (v_store_box (id := 9) (off := 0) (cs := (eAnswer t45).map V.d) rfl trivial rfl sz35 rfl rfl rfl rfl (ones_of rfl) (ble _ _ rfl)) ?_
        refine rg_nil ⟨by kernel_rfl, ?_⟩
        refine ht_ret ?_
        cases h
        exact ret2 rfl (.cell rfl rfl ag30 (ble _ _ rfl) rfl) (.cell rfl rfl ag35 (ble _ _ rfl) rfl)
      · replace h := cneg e7 h
        refine ht_skip ?_
        refine ht_seq ?_
        refine ht_region ?_
        refine sq_cons ⟨_, [(.t 46, .d (.agg (eCell t0)))]⟩ (w_ldb 4 0 rfl trivial rfl (ble _ _ rfl) ag30 rfl rfl (ble _ _ rfl) rfl) ?_
        refine sq_cons ⟨_, [(.t 47, .d (.agg (eShard t1)))]⟩ (w_ldb 5 0 rfl trivial rfl (ble _ _ rfl) ag50 rfl rfl (ble _ _ rfl) rfl) ?_
        refine sq_cons ⟨_, [(.t 48, .d (.dp (List.drop 3 (eRequest t2))))]⟩ (v_field_dp (a0 := 3) (cs := (eRequest t2)) rfl trivial rfl (ble _ _ rfl) fo25_3 rfl) ?_
        refine sq_cons ⟨_, [(.t 49, sV t2.mKey)]⟩ (v_load_dp1 rfl trivial rfl (ble _ _ rfl) onT9 rfl rfl) ?_
        obtain ⟨t50, c9, h⟩ := bpos h
        refine sq_cons ⟨_, [(.t 50, .d (.agg (eAnswer t50)))]⟩ (w_call (ds := [(.agg (eCell t0)), (.agg (eShard t1)), (.s (.string t2.mKey))]) (caps := []) (l := [(.agg (eAnswer t50))]) (s26 k t0 t1 t2.mKey _ c9) rfl rfl rfl en26 trivial rfl (ble _ _ rfl) (.inl ⟨rfl, rfl⟩) rfl rfl) ?_
        refine sq_cons _ (v_alloc (id := 12) (cs := zc35) rfl trivial rfl (ble _ _ rfl) zu35 rfl ft35 rfl) ?_
        refine sq_cons _ (v_store_box (id := 12) (off := 0) (cs := (eAnswer t50).map V.d) rfl trivial rfl sz35 rfl rfl rfl rfl (ones_of rfl) (ble _ _ rfl)) ?_
        refine sq_nil ?_
        refine ht_seq ?_
        refine ht_region ?_
        refine sq_cons ⟨_, [(.t 51, .d (.agg (eStamp t3)))]⟩ (w_ldp (eStamp t3) (eStamp t3) rfl trivial rfl (ble _ _ rfl) ag23 rfl (ble _ _ rfl) rfl) ?_
        refine sq_cons ⟨_, [(.t 52, .ptr 12 4)]⟩ (v_field_box (off := 0) (a0 := 4) rfl trivial rfl (ble _ _ rfl) fo35_2 rfl) ?_
        refine sq_cons ⟨_, [(.t 53, bV t50.mFound)]⟩ (v_load_box1 (id := 12) (off := 4) rfl trivial rfl (ble _ _ rfl) onT4 rfl rfl (ble _ _ rfl) rfl) ?_
        refine sq_cons ⟨_, [(.t 54, .d (.agg (eAnswer (⟨0, t3, t50.mFound, (⟨#[]⟩ : ByteArray), ([] : List Item), (⟨#[]⟩ : ByteArray), false⟩ : Answer))))]⟩ (w_bld zc35 ((eAnswer (⟨0, t3, t50.mFound, (⟨#[]⟩ : ByteArray), ([] : List Item), (⟨#[]⟩ : ByteArray), false⟩ : Answer)).map V.d) [(1, .d (.agg (eStamp t3))), (2, bV t50.mFound)] rfl trivial rfl (ble _ _ rfl) zw35 rfl ft35 rfl rfl rfl rfl) ?_
        refine sq_cons _ (v_alloc (id := 13) (cs := zc35) rfl trivial rfl (ble _ _ rfl) zu35 rfl ft35 rfl) ?_
        refine sq_cons _ (v_store_box (id := 13) (off := 0) (cs := (eAnswer (⟨0, t3, t50.mFound, (⟨#[]⟩ : ByteArray), ([] : List Item), (⟨#[]⟩ : ByteArray), false⟩ : Answer)).map V.d) rfl trivial rfl sz35 rfl rfl rfl rfl (ones_of rfl) (ble _ _ rfl)) ?_
        refine sq_nil ?_
        refine ht_seq ?_
        refine ht_region ?_
        refine sq_cons ⟨_, [(.t 14, iV 0)]⟩ (v_move (.inr rfl) trivial rfl (ble _ _ rfl) rfl) ?_
        refine sq_nil ?_
        refine ht_bj h (fun (t14, t5c5, t13c0, t13c5) => tell [(.b 4, .box false 5), (.b 5, .box false 17), (.b 8, .box false 5), (.b 9, .box false 9), (.b 13, .box false 9), (.c 4 0, .d (.sl 17 (t0.mShards.map eShard))), (.c 4 1, iV t0.mTop.mWall), (.c 4 2, iV t0.mTop.mTick), (.c 4 3, iV t0.mTop.mNode), (.c 4 4, iV t0.mDropped), (.c 5 0, iV t1.mID), (.c 5 1, iV t1.mEpoch), (.c 5 2, sV t1.mSpan.mLo), (.c 5 3, sV t1.mSpan.mHi), (.c 5 4, iV t1.mPhase), (.c 5 5, .d (.sl 2 (t5c5.map eEntry))), (.c 5 6, iV t1.mMark.mWall), (.c 5 7, iV t1.mMark.mTick), (.c 5 8, iV t1.mMark.mNode), (.c 5 9, iV t1.mTop.mWall), (.c 5 10, iV t1.mTop.mTick), (.c 5 11, iV t1.mTop.mNode), (.c 5 12, .d (.sl 11 (t1.mDone.map eDone))), (.c 5 13, iV t1.mHold), (.c 5 14, iV t1.mSeen), (.c 5 15, iV t1.mMove), (.c 5 16, iV t1.mClosed), (.c 8 0, .d (.sl 17 (([] : List Shard).map eShard))), (.c 8 1, iV 0), (.c 8 2, iV 0), (.c 8 3, iV 0), (.c 8 4, iV 0), (.c 9 0, iV 0), (.c 9 1, iV 0), (.c 9 2, iV 0), (.c 9 3, iV 0), (.c 9 4, bV false), (.c 9 5, sV (⟨#[]⟩ : ByteArray)), (.c 9 6, .d (.sl 2 (([] : List Item).map eItem))), (.c 9 7, sV (⟨#[]⟩ : ByteArray)), (.c 9 8, bV false), (.c 13 0, iV t13c0), (.c 13 1, iV t3.mWall), (.c 13 2, iV t3.mTick), (.c 13 3, iV t3.mNode), (.c 13 4, bV t50.mFound), (.c 13 5, sV t13c5), (.c 13 6, .d (.sl 2 (([] : List Item).map eItem))), (.c 13 7, sV (⟨#[]⟩ : ByteArray)), (.c 13 8, bV false), (.t 4, .ptr 4 0), (.t 5, .ptr 5 0), (.t 6, .d (.dp (eRequest t2))), (.t 7, .d (.dp (eStamp t3))), (.t 8, .ptr 8 0), (.t 9, .ptr 9 0), (.t 13, .ptr 13 0), (.t 14, iV t14)]) (fun v10 h => ?_) (fun v10 K11 h j13 => ?_)
        · obtain ⟨t14, t5c5, t13c0, t13c5⟩ := v10
          refine ht_seq ?_
          refine ht_seq ?_
          refine ht_region ?_
          refine sq_cons ⟨_, [(.t 112, iV t14)]⟩ (v_move (.inl rfl) trivial rfl (ble _ _ rfl) rfl) ?_
          refine sq_cons ⟨_, [(.t 113, bV (!eqI t14 0))]⟩ (v_bin rfl trivial rfl (ble _ _ rfl) rfl rfl (b_neq rfl)) ?_
          refine sq_nil ?_
          refine ht_cond (b := (!eqI t14 0)) rfl (fun e51 => ?_) (fun e51 => ?_)
          · replace h := cpos e51 h
            refine ht_seq ?_
            refine ht_region_draw mixed ?_
            refine rg_cons ⟨_, [(.t 114, .d (.agg (eCell t0)))]⟩ (w_ldb 4 0 rfl trivial rfl (ble _ _ rfl) ag30 rfl rfl (ble _ _ rfl) rfl) ?_
            refine rg_cons ⟨_, [(.t 115, iV t14)]⟩ (v_move (.inl rfl) trivial rfl (ble _ _ rfl) rfl) ?_
            obtain ⟨t116, c52, h⟩ := bpos h
            refine rg_cons ⟨_, [(.t 116, .d (.agg (eAnswer t116)))]⟩ (w_call (ds := [(.s (.int .i64 t14))]) (caps := []) (l := [(.agg (eAnswer t116))]) (s21 k t14 _ c52) rfl rfl rfl en21 trivial rfl (ble _ _ rfl) (.inl ⟨rfl, rfl⟩) rfl rfl) ?_
            refine rg_cons _ (v_store_box (id := 8) (off := 0) (cs := (eCell t0).map V.d) rfl trivial rfl sz30 rfl rfl rfl rfl (ones_of rfl) (ble _ _ rfl)) ?_
            refine rg_cons _ (v_store_box (id := 9) (off := 0) (cs := (eAnswer t116).map V.d) rfl trivial rfl sz35 rfl rfl rfl rfl (ones_of rfl) (ble _ _ rfl)) ?_
            refine rg_nil ⟨by kernel_rfl, ?_⟩
            refine ht_ret ?_
            cases h
            exact ret2 rfl (.cell rfl rfl ag30 (ble _ _ rfl) rfl) (.cell rfl rfl ag35 (ble _ _ rfl) rfl)
          · replace h := cneg e51 h
            refine ht_skip ?_
            refine ht_seq ?_
            refine ht_seq ?_
            refine ht_region ?_
            refine sq_cons ⟨_, [(.t 118, .ptr 5 12)]⟩ (v_field_box (off := 0) (a0 := 12) rfl trivial rfl (ble _ _ rfl) fo50_7 rfl) ?_
            refine sq_cons ⟨_, [(.t 119, .d (.sl 11 (t1.mDone.map eDone)))]⟩ (v_load_box1 (id := 5) (off := 12) rfl trivial rfl (ble _ _ rfl) onT48 rfl rfl (ble _ _ rfl) rfl) ?_
            refine sq_cons ⟨_, [(.t 120, .d (.dp (eRequest t2)))]⟩ (v_field_dp (a0 := 0) (cs := (eRequest t2)) rfl trivial rfl (ble _ _ rfl) fo25_0 rfl) ?_
            refine sq_cons ⟨_, [(.t 121, iV t2.mClient)]⟩ (v_load_dp1 rfl trivial rfl (ble _ _ rfl) onT3 rfl rfl) ?_
            refine sq_cons ⟨_, [(.t 122, .d (.dp (List.drop 1 (eRequest t2))))]⟩ (v_field_dp (a0 := 1) (cs := (eRequest t2)) rfl trivial rfl (ble _ _ rfl) fo25_1 rfl) ?_
            refine sq_cons ⟨_, [(.t 123, iV t2.mReq)]⟩ (v_load_dp1 rfl trivial rfl (ble _ _ rfl) onT3 rfl rfl) ?_
            refine sq_cons ⟨_, [(.t 124, .d (.agg (eAnswer (⟨t13c0, t3, t50.mFound, t13c5, ([] : List Item), (⟨#[]⟩ : ByteArray), false⟩ : Answer))))]⟩ (w_ldb 13 0 rfl trivial rfl (ble _ _ rfl) ag35 rfl rfl (ble _ _ rfl) rfl) ?_
            refine sq_cons ⟨_, [(.t 125, .d (.agg (eDone (⟨t2.mClient, t2.mReq, (⟨t13c0, t3, t50.mFound, t13c5, ([] : List Item), (⟨#[]⟩ : ByteArray), false⟩ : Answer)⟩ : Done))))]⟩ (w_bld zc78 ((eDone (⟨t2.mClient, t2.mReq, (⟨t13c0, t3, t50.mFound, t13c5, ([] : List Item), (⟨#[]⟩ : ByteArray), false⟩ : Answer)⟩ : Done)).map V.d) [(0, iV t2.mClient), (1, iV t2.mReq), (2, .d (.agg (eAnswer (⟨t13c0, t3, t50.mFound, t13c5, ([] : List Item), (⟨#[]⟩ : ByteArray), false⟩ : Answer))))] rfl trivial rfl (ble _ _ rfl) zw78 rfl ft78 rfl rfl rfl rfl) ?_
            obtain ⟨⟨t126a, t126b⟩, c53, h⟩ := bpos h
            refine sq_cons ⟨_, [(.t 126, .tup [.d (.sl 11 (t126a.map eDone)), iV t126b])]⟩ (w_call (ds := [(.sl 11 (t1.mDone.map eDone)), (.agg (eDone (⟨t2.mClient, t2.mReq, (⟨t13c0, t3, t50.mFound, t13c5, ([] : List Item), (⟨#[]⟩ : ByteArray), false⟩ : Answer)⟩ : Done)))]) (caps := []) (l := [(.sl 11 (t126a.map eDone)), (.s (.int .i64 t126b))]) (s47 k t1.mDone (⟨t2.mClient, t2.mReq, (⟨t13c0, t3, t50.mFound, t13c5, ([] : List Item), (⟨#[]⟩ : ByteArray), false⟩ : Answer)⟩ : Done) _ c53) rfl rfl rfl en47 trivial rfl (ble _ _ rfl) (.inl ⟨rfl, rfl⟩) rfl rfl) ?_
            refine sq_cons ⟨_, [(.t 117, .tup [.d (.sl 11 (t126a.map eDone)), iV t126b])]⟩ (v_move (.inl rfl) trivial rfl (ble _ _ rfl) rfl) ?_
            refine sq_cons ⟨_, [(.t 127, .d (.sl 11 (t126a.map eDone)))]⟩ (v_extract rfl trivial rfl (ble _ _ rfl) rfl rfl) ?_
            refine sq_cons ⟨_, [(.t 128, iV t126b)]⟩ (v_extract rfl trivial rfl (ble _ _ rfl) rfl rfl) ?_
            refine sq_cons ⟨_, [(.t 129, .ptr 5 12)]⟩ (v_field_box (off := 0) (a0 := 12) rfl trivial rfl (ble _ _ rfl) fo50_7 rfl) ?_
            refine sq_cons _ (v_store_box (id := 5) (off := 12) (cs := [(.sl 11 (t126a.map eDone))].map V.d) rfl trivial rfl sz48 rfl rfl rfl rfl (ones_of rfl) (ble _ _ rfl)) ?_
            refine sq_cons ⟨_, [(.t 14, iV t126b)]⟩ (v_move (.inr rfl) trivial rfl (ble _ _ rfl) rfl) ?_
            refine sq_nil ?_
            refine ht_seq ?_
            refine ht_region ?_
            refine sq_cons ⟨_, [(.t 130, iV t126b)]⟩ (v_move (.inl rfl) trivial rfl (ble _ _ rfl) rfl) ?_
            refine sq_cons ⟨_, [(.t 131, bV (!eqI t126b 0))]⟩ (v_bin rfl trivial rfl (ble _ _ rfl) rfl rfl (b_neq rfl)) ?_
            refine sq_nil ?_
            refine ht_cond (b := (!eqI t126b 0)) rfl (fun e54 => ?_) (fun e54 => ?_)
            · replace h := cpos e54 h
              refine ht_seq ?_
              refine ht_region_draw mixed ?_
              refine rg_cons ⟨_, [(.t 132, .d (.agg (eCell t0)))]⟩ (w_ldb 4 0 rfl trivial rfl (ble _ _ rfl) ag30 rfl rfl (ble _ _ rfl) rfl) ?_
              refine rg_cons ⟨_, [(.t 133, iV t126b)]⟩ (v_move (.inl rfl) trivial rfl (ble _ _ rfl) rfl) ?_
              obtain ⟨t134, c55, h⟩ := bpos h
              refine rg_cons ⟨_, [(.t 134, .d (.agg (eAnswer t134)))]⟩ (w_call (ds := [(.s (.int .i64 t126b))]) (caps := []) (l := [(.agg (eAnswer t134))]) (s21 k t126b _ c55) rfl rfl rfl en21 trivial rfl (ble _ _ rfl) (.inl ⟨rfl, rfl⟩) rfl rfl) ?_
              refine rg_cons _ (v_store_box (id := 8) (off := 0) (cs := (eCell t0).map V.d) rfl trivial rfl sz30 rfl rfl rfl rfl (ones_of rfl) (ble _ _ rfl)) ?_
              refine rg_cons _ (v_store_box (id := 9) (off := 0) (cs := (eAnswer t134).map V.d) rfl trivial rfl sz35 rfl rfl rfl rfl (ones_of rfl) (ble _ _ rfl)) ?_
              refine rg_nil ⟨by kernel_rfl, ?_⟩
              refine ht_ret ?_
              cases h
              exact ret2 rfl (.cell rfl rfl ag30 (ble _ _ rfl) rfl) (.cell rfl rfl ag35 (ble _ _ rfl) rfl)
            · replace h := cneg e54 h
              refine ht_skip ?_
              refine ht_seq ?_
              refine ht_region ?_
              refine sq_cons ⟨_, [(.t 135, .d (.agg (eCell t0)))]⟩ (w_ldb 4 0 rfl trivial rfl (ble _ _ rfl) ag30 rfl rfl (ble _ _ rfl) rfl) ?_
              refine sq_cons ⟨_, [(.t 136, .d (.agg (eShard ({t1 with mEntries := t5c5, mDone := t126a}))))]⟩ (w_ldb 5 0 rfl trivial rfl (ble _ _ rfl) ag50 rfl rfl (ble _ _ rfl) rfl) ?_
              obtain ⟨t137, c56, h⟩ := bpos h
              refine sq_cons ⟨_, [(.t 137, .d (.agg (eCell t137)))]⟩ (w_call (ds := [(.agg (eCell t0)), (.agg (eShard ({t1 with mEntries := t5c5, mDone := t126a})))]) (caps := []) (l := [(.agg (eCell t137))]) (s48 k t0 ({t1 with mEntries := t5c5, mDone := t126a}) _ c56) rfl rfl rfl en48 trivial rfl (ble _ _ rfl) (.inl ⟨rfl, rfl⟩) rfl rfl) ?_
              refine sq_cons _ (v_store_box (id := 4) (off := 0) (cs := (eCell t137).map V.d) rfl trivial rfl sz30 rfl rfl rfl rfl (ones_of rfl) (ble _ _ rfl)) ?_
              refine sq_nil ?_
              refine ht_seq ?_
              refine ht_region ?_
              refine sq_cons ⟨_, [(.t 138, .d (.agg (eStamp t3)))]⟩ (w_ldp (eStamp t3) (eStamp t3) rfl trivial rfl (ble _ _ rfl) ag23 rfl (ble _ _ rfl) rfl) ?_
              refine sq_cons ⟨_, [(.t 139, .ptr 4 1)]⟩ (v_field_box (off := 0) (a0 := 1) rfl trivial rfl (ble _ _ rfl) fo30_1 rfl) ?_
              refine sq_cons _ (v_store_box (id := 4) (off := 1) (cs := (eStamp t3).map V.d) rfl trivial rfl sz23 rfl rfl rfl rfl (ones_of rfl) (ble _ _ rfl)) ?_
              refine sq_nil ?_
              refine ht_seq ?_
              refine ht_region_draw mixed ?_
              refine rg_cons ⟨_, [(.t 140, .d (.agg (eCell ({t137 with mTop := t3}))))]⟩ (w_ldb 4 0 rfl trivial rfl (ble _ _ rfl) ag30 rfl rfl (ble _ _ rfl) rfl) ?_
              refine rg_cons ⟨_, [(.t 141, .d (.agg (eAnswer (⟨t13c0, t3, t50.mFound, t13c5, ([] : List Item), (⟨#[]⟩ : ByteArray), false⟩ : Answer))))]⟩ (w_ldb 13 0 rfl trivial rfl (ble _ _ rfl) ag35 rfl rfl (ble _ _ rfl) rfl) ?_
              refine rg_cons _ (v_store_box (id := 8) (off := 0) (cs := (eCell ({t137 with mTop := t3})).map V.d) rfl trivial rfl sz30 rfl rfl rfl rfl (ones_of rfl) (ble _ _ rfl)) ?_
              refine rg_cons _ (v_store_box (id := 9) (off := 0) (cs := (eAnswer (⟨t13c0, t3, t50.mFound, t13c5, ([] : List Item), (⟨#[]⟩ : ByteArray), false⟩ : Answer)).map V.d) rfl trivial rfl sz35 rfl rfl rfl rfl (ones_of rfl) (ble _ _ rfl)) ?_
              refine rg_nil ⟨by kernel_rfl, ?_⟩
              refine ht_ret ?_
              cases h
              exact ret2 rfl (.cell rfl rfl ag30 (ble _ _ rfl) rfl) (.cell rfl rfl ag35 (ble _ _ rfl) rfl)
        · refine ht_block ?_
          refine ht_seq ?_
          refine ht_region ?_
          refine sq_cons ⟨_, [(.t 56, .d (.dp (List.drop 2 (eRequest t2))))]⟩ (v_field_dp (a0 := 2) (cs := (eRequest t2)) rfl trivial rfl (ble _ _ rfl) fo25_2 rfl) ?_
          refine sq_cons ⟨_, [(.t 57, iV t2.mKind)]⟩ (v_load_dp1 rfl trivial rfl (ble _ _ rfl) onT3 rfl rfl) ?_
          refine sq_cons ⟨_, [(.t 58, bV (eqI t2.mKind 3))]⟩ (v_bin rfl trivial rfl (ble _ _ rfl) rfl rfl (b_eql rfl)) ?_
          refine sq_cons ⟨_, [(.t 59, bV (eqI t2.mKind 3))]⟩ (v_move (.inl rfl) trivial rfl (ble _ _ rfl) rfl) ?_
          refine sq_cons ⟨_, [(.t 60, mg (eqI t2.mKind 3) (.ptr 12 4))]⟩ (v_cT rfl rfl rfl (ble _ _ rfl) rfl fun e15 => (v_field_box (off := 0) (a0 := 4) rfl ⟨_, rfl, be e15⟩ rfl (ble _ _ rfl) fo35_2 rfl)) ?_
          refine sq_cons ⟨_, [(.t 61, mg (eqI t2.mKind 3) (bV t50.mFound))]⟩ (v_cT rfl rfl rfl (ble _ _ rfl) rfl fun e16 => (v_load_box1 (id := 12) (off := 4) rfl ⟨_, rfl, be e16⟩ rfl (ble _ _ rfl) onT4 (gv e16) rfl (ble _ _ rfl) rfl)) ?_
          refine sq_cons ⟨_, [(.t 62, mg (eqI t2.mKind 3) (.d (.dp (List.drop 5 (eRequest t2)))))]⟩ (v_cT rfl rfl rfl (ble _ _ rfl) rfl fun e17 => (v_field_dp (a0 := 5) (cs := (eRequest t2)) rfl ⟨_, rfl, be e17⟩ rfl (ble _ _ rfl) fo25_5 rfl)) ?_
          refine sq_cons ⟨_, [(.t 63, mg (eqI t2.mKind 3) (bV t2.mHad))]⟩ (v_cT rfl rfl rfl (ble _ _ rfl) rfl fun e18 => (v_load_dp1 rfl ⟨_, rfl, be e18⟩ rfl (ble _ _ rfl) onT4 (gv e18) rfl)) ?_
          refine sq_cons ⟨_, [(.t 64, mg (eqI t2.mKind 3) (bV (!(t50.mFound == t2.mHad))))]⟩ (v_cT rfl rfl rfl (ble _ _ rfl) rfl fun e19 => (v_bin rfl ⟨_, rfl, be e19⟩ rfl (ble _ _ rfl) (gv e19) (gv e19) (b_neB und4 rfl))) ?_
          refine sq_cons ⟨_, [(.t 65, mg (eqI t2.mKind 3) (bV (!(t50.mFound == t2.mHad))))]⟩ (v_cT rfl rfl rfl (ble _ _ rfl) rfl fun e20 => (v_move (.inl rfl) ⟨_, rfl, be e20⟩ rfl (ble _ _ rfl) (gv e20))) ?_
          refine sq_cons ⟨_, [(.t 66, mg ((eqI t2.mKind 3) && (!(!(t50.mFound == t2.mHad)))) (.ptr 12 4))]⟩ (v_mF rfl rfl rfl (ble _ _ rfl) rfl fun e21 e22 => (v_field_box (off := 0) (a0 := 4) rfl ⟨_, rfl, bm e21 e22⟩ rfl (ble _ _ rfl) fo35_2 rfl)) ?_
          refine sq_cons ⟨_, [(.t 67, mg ((eqI t2.mKind 3) && (!(!(t50.mFound == t2.mHad)))) (bV t50.mFound))]⟩ (v_mF rfl rfl rfl (ble _ _ rfl) rfl fun e23 e24 => (v_load_box1 (id := 12) (off := 4) rfl ⟨_, rfl, bm e23 e24⟩ rfl (ble _ _ rfl) onT4 (gv (aT e23 (nF e24))) rfl (ble _ _ rfl) rfl)) ?_
          refine sq_cons ⟨_, [(.t 68, mg ((eqI t2.mKind 3) && (!(!(t50.mFound == t2.mHad)))) (bV t50.mFound))]⟩ (v_mF rfl rfl rfl (ble _ _ rfl) rfl fun e25 e26 => (v_move (.inl rfl) ⟨_, rfl, bm e25 e26⟩ rfl (ble _ _ rfl) (gv (aT e25 (nF e26))))) ?_
          refine sq_cons ⟨_, [(.t 69, mg (((eqI t2.mKind 3) && (!(!(t50.mFound == t2.mHad)))) && t50.mFound) (.ptr 12 5))]⟩ (v_mT rfl rfl rfl (ble _ _ rfl) rfl fun e27 e28 => (v_field_box (off := 0) (a0 := 5) rfl ⟨_, rfl, bm e27 e28⟩ rfl (ble _ _ rfl) fo35_3 rfl)) ?_
          refine sq_cons ⟨_, [(.t 70, mg (((eqI t2.mKind 3) && (!(!(t50.mFound == t2.mHad)))) && t50.mFound) (sV t50.mValue))]⟩ (v_mT rfl rfl rfl (ble _ _ rfl) rfl fun e29 e30 => (v_load_box1 (id := 12) (off := 5) rfl ⟨_, rfl, bm e29 e30⟩ rfl (ble _ _ rfl) onT9 (gv (aT e29 e30)) rfl (ble _ _ rfl) rfl)) ?_
          refine sq_cons ⟨_, [(.t 71, mg (((eqI t2.mKind 3) && (!(!(t50.mFound == t2.mHad)))) && t50.mFound) (.d (.dp (List.drop 6 (eRequest t2)))))]⟩ (v_mT rfl rfl rfl (ble _ _ rfl) rfl fun e31 e32 => (v_field_dp (a0 := 6) (cs := (eRequest t2)) rfl ⟨_, rfl, bm e31 e32⟩ rfl (ble _ _ rfl) fo25_6 rfl)) ?_
          refine sq_cons ⟨_, [(.t 72, mg (((eqI t2.mKind 3) && (!(!(t50.mFound == t2.mHad)))) && t50.mFound) (sV t2.mOld))]⟩ (v_mT rfl rfl rfl (ble _ _ rfl) rfl fun e33 e34 => (v_load_dp1 rfl ⟨_, rfl, bm e33 e34⟩ rfl (ble _ _ rfl) onT9 (gv (aT e33 e34)) rfl)) ?_
          refine sq_cons ⟨_, [(.t 73, mg (((eqI t2.mKind 3) && (!(!(t50.mFound == t2.mHad)))) && t50.mFound) (bV (!strEq t50.mValue t2.mOld)))]⟩ (v_mT rfl rfl rfl (ble _ _ rfl) rfl fun e35 e36 => (v_bin rfl ⟨_, rfl, bm e35 e36⟩ rfl (ble _ _ rfl) (gv (aT e35 e36)) (gv (aT e35 e36)) (b_neS rfl))) ?_
          refine sq_cons ⟨_, [(.t 74, mg ((eqI t2.mKind 3) && (!(!(t50.mFound == t2.mHad)))) (bV (t50.mFound && (!strEq t50.mValue t2.mOld))))]⟩ (v_mF rfl rfl rfl (ble _ _ rfl) rfl fun e37 e38 => (v_pickB rfl ⟨_, rfl, bm e37 e38⟩ rfl (ble _ _ rfl) (gv (aT e37 (nF e38))) (fun e39 => (gv (aT (aT e37 (nF e38)) e39))) (fun e40 => rfl) (pA _ _))) ?_
          refine sq_cons ⟨_, [(.t 75, mg (eqI t2.mKind 3) (bV ((!(t50.mFound == t2.mHad)) || (t50.mFound && (!strEq t50.mValue t2.mOld)))))]⟩ (v_cT rfl rfl rfl (ble _ _ rfl) rfl fun e41 => (v_pickB rfl ⟨_, rfl, be e41⟩ rfl (ble _ _ rfl) (gv e41) (fun e42 => rfl) (fun e43 => (gv (aT e41 (nF e43)))) (pO _ _))) ?_
          refine sq_cons ⟨_, [(.t 76, bV ((eqI t2.mKind 3) && ((!(t50.mFound == t2.mHad)) || (t50.mFound && (!strEq t50.mValue t2.mOld)))))]⟩ (v_pickB rfl trivial rfl (ble _ _ rfl) rfl (fun e44 => (gv e44)) (fun e45 => rfl) (pA _ _)) ?_
          refine sq_cons ⟨_, [(.t 55, bV ((eqI t2.mKind 3) && ((!(t50.mFound == t2.mHad)) || (t50.mFound && (!strEq t50.mValue t2.mOld)))))]⟩ (v_move (.inr rfl) trivial rfl (ble _ _ rfl) rfl) ?_
          refine sq_nil ?_
          refine ht_cond (b := ((eqI t2.mKind 3) && ((!(t50.mFound == t2.mHad)) || (t50.mFound && (!strEq t50.mValue t2.mOld))))) rfl (fun e46 => ?_) (fun e46 => ?_)
          · replace h := cpos e46 h
            refine ht_region_draw mixed ?_
            refine rg_cons ⟨_, [(.t 77, .ptr 12 5)]⟩ (v_field_box (off := 0) (a0 := 5) rfl trivial rfl (ble _ _ rfl) fo35_3 rfl) ?_
            refine rg_cons ⟨_, [(.t 78, sV t50.mValue)]⟩ (v_load_box1 (id := 12) (off := 5) rfl trivial rfl (ble _ _ rfl) onT9 rfl rfl (ble _ _ rfl) rfl) ?_
            refine rg_cons ⟨_, [(.t 79, .ptr 13 0)]⟩ (v_field_box (off := 0) (a0 := 0) rfl trivial rfl (ble _ _ rfl) fo35_0 rfl) ?_
            refine rg_cons _ (v_store_box (id := 13) (off := 0) (cs := [(.s (.int .i64 15))].map V.d) rfl trivial rfl sz32 rfl rfl rfl rfl (ones_of rfl) (ble _ _ rfl)) ?_
            refine rg_cons ⟨_, [(.t 80, .ptr 13 5)]⟩ (v_field_box (off := 0) (a0 := 5) rfl trivial rfl (ble _ _ rfl) fo35_3 rfl) ?_
            refine rg_cons _ (v_store_box (id := 13) (off := 5) (cs := [(.s (.string t50.mValue))].map V.d) rfl trivial rfl sz9 rfl rfl rfl rfl (ones_of rfl) (ble _ _ rfl)) ?_
            refine rg_nil ⟨by kernel_rfl, ?_⟩
            cases h
            exact j13 _ (wk_ren _ (fun i => i) rfl ⟨rfl, rfl, rfl, rfl, rfl, rfl, rfl, rfl, rfl, rfl, rfl, rfl, rfl, rfl, rfl, rfl, rfl, rfl, rfl, rfl, rfl, rfl, rfl, rfl, rfl, rfl, rfl, rfl, rfl, rfl, rfl, rfl, rfl, rfl, rfl, rfl, rfl, rfl, rfl, rfl, rfl, rfl, rfl, rfl, rfl, rfl, rfl, rfl, rfl, rfl, rfl, rfl, rfl, rfl, rfl, rfl, rfl, rfl, trivial⟩)
          · replace h := cneg e46 h
            refine ht_seq ?_
            refine ht_region ?_
            refine sq_cons ⟨_, [(.t 82, .d (.dp (List.drop 2 (eRequest t2))))]⟩ (v_field_dp (a0 := 2) (cs := (eRequest t2)) rfl trivial rfl (ble _ _ rfl) fo25_2 rfl) ?_
            refine sq_cons ⟨_, [(.t 83, iV t2.mKind)]⟩ (v_load_dp1 rfl trivial rfl (ble _ _ rfl) onT3 rfl rfl) ?_
            refine sq_cons ⟨_, [(.t 84, bV (!eqI t2.mKind 2))]⟩ (v_bin rfl trivial rfl (ble _ _ rfl) rfl rfl (b_neq rfl)) ?_
            refine sq_cons ⟨_, [(.t 81, bV (!eqI t2.mKind 2))]⟩ (v_move (.inr rfl) trivial rfl (ble _ _ rfl) rfl) ?_
            refine sq_nil ?_
            refine ht_cond (b := (!eqI t2.mKind 2)) rfl (fun e47 => ?_) (fun e47 => ?_)
            · replace h := cpos e47 h
              refine ht_region ?_
              refine sq_cons ⟨_, [(.t 86, .ptr 5 5)]⟩ (v_field_box (off := 0) (a0 := 5) rfl trivial rfl (ble _ _ rfl) fo50_4 rfl) ?_
              refine sq_cons ⟨_, [(.t 87, .d (.sl 2 (t1.mEntries.map eEntry)))]⟩ (v_load_box1 (id := 5) (off := 5) rfl trivial rfl (ble _ _ rfl) onT47 rfl rfl (ble _ _ rfl) rfl) ?_
              refine sq_cons ⟨_, [(.t 88, .d (.dp (List.drop 3 (eRequest t2))))]⟩ (v_field_dp (a0 := 3) (cs := (eRequest t2)) rfl trivial rfl (ble _ _ rfl) fo25_3 rfl) ?_
              refine sq_cons ⟨_, [(.t 89, sV t2.mKey)]⟩ (v_load_dp1 rfl trivial rfl (ble _ _ rfl) onT9 rfl rfl) ?_
              refine sq_cons ⟨_, [(.t 90, .d (.agg (eStamp t3)))]⟩ (w_ldp (eStamp t3) (eStamp t3) rfl trivial rfl (ble _ _ rfl) ag23 rfl (ble _ _ rfl) rfl) ?_
              refine sq_cons ⟨_, [(.t 91, .d (.dp (List.drop 4 (eRequest t2))))]⟩ (v_field_dp (a0 := 4) (cs := (eRequest t2)) rfl trivial rfl (ble _ _ rfl) fo25_4 rfl) ?_
              refine sq_cons ⟨_, [(.t 92, sV t2.mValue)]⟩ (v_load_dp1 rfl trivial rfl (ble _ _ rfl) onT9 rfl rfl) ?_
              refine sq_cons ⟨_, [(.t 93, .d (.agg (eVersion (⟨t3, false, t2.mValue⟩ : Version))))]⟩ (w_bld zc84 ((eVersion (⟨t3, false, t2.mValue⟩ : Version)).map V.d) [(0, .d (.agg (eStamp t3))), (2, sV t2.mValue)] rfl trivial rfl (ble _ _ rfl) zw84 rfl ft84 rfl rfl rfl rfl) ?_
              obtain ⟨⟨t94a, t94b⟩, c48, h⟩ := bpos h
              refine sq_cons ⟨_, [(.t 94, .tup [.d (.sl 2 (t94a.map eEntry)), iV t94b])]⟩ (w_call (ds := [(.sl 2 (t1.mEntries.map eEntry)), (.s (.string t2.mKey)), (.agg (eVersion (⟨t3, false, t2.mValue⟩ : Version)))]) (caps := []) (l := [(.sl 2 (t94a.map eEntry)), (.s (.int .i64 t94b))]) (s46 k t1.mEntries t2.mKey (⟨t3, false, t2.mValue⟩ : Version) _ c48) rfl rfl rfl en46 trivial rfl (ble _ _ rfl) (.inl ⟨rfl, rfl⟩) rfl rfl) ?_
              refine sq_cons ⟨_, [(.t 85, .tup [.d (.sl 2 (t94a.map eEntry)), iV t94b])]⟩ (v_move (.inl rfl) trivial rfl (ble _ _ rfl) rfl) ?_
              refine sq_cons ⟨_, [(.t 95, .d (.sl 2 (t94a.map eEntry)))]⟩ (v_extract rfl trivial rfl (ble _ _ rfl) rfl rfl) ?_
              refine sq_cons ⟨_, [(.t 96, iV t94b)]⟩ (v_extract rfl trivial rfl (ble _ _ rfl) rfl rfl) ?_
              refine sq_cons ⟨_, [(.t 97, .ptr 5 5)]⟩ (v_field_box (off := 0) (a0 := 5) rfl trivial rfl (ble _ _ rfl) fo50_4 rfl) ?_
              refine sq_cons _ (v_store_box (id := 5) (off := 5) (cs := [(.sl 2 (t94a.map eEntry))].map V.d) rfl trivial rfl sz47 rfl rfl rfl rfl (ones_of rfl) (ble _ _ rfl)) ?_
              refine sq_cons ⟨_, [(.t 14, iV t94b)]⟩ (v_move (.inr rfl) trivial rfl (ble _ _ rfl) rfl) ?_
              refine sq_nil ?_
              cases h
              exact j13 _ (wk_ren _ (fun i => i) rfl ⟨rfl, rfl, rfl, rfl, rfl, rfl, rfl, rfl, rfl, rfl, rfl, rfl, rfl, rfl, rfl, rfl, rfl, rfl, rfl, rfl, rfl, rfl, rfl, rfl, rfl, rfl, rfl, rfl, rfl, rfl, rfl, rfl, rfl, rfl, rfl, rfl, rfl, rfl, rfl, rfl, rfl, rfl, rfl, rfl, rfl, rfl, rfl, rfl, rfl, rfl, rfl, rfl, rfl, rfl, rfl, rfl, rfl, rfl, trivial⟩)
            · replace h := cneg e47 h
              refine ht_seq ?_
              refine ht_region ?_
              refine sq_cons ⟨_, [(.t 99, .ptr 12 4)]⟩ (v_field_box (off := 0) (a0 := 4) rfl trivial rfl (ble _ _ rfl) fo35_2 rfl) ?_
              refine sq_cons ⟨_, [(.t 100, bV t50.mFound)]⟩ (v_load_box1 (id := 12) (off := 4) rfl trivial rfl (ble _ _ rfl) onT4 rfl rfl (ble _ _ rfl) rfl) ?_
              refine sq_cons ⟨_, [(.t 98, bV t50.mFound)]⟩ (v_move (.inr rfl) trivial rfl (ble _ _ rfl) rfl) ?_
              refine sq_nil ?_
              refine ht_cond (b := t50.mFound) rfl (fun e49 => ?_) (fun e49 => ?_)
              · replace h := cpos e49 h
                refine ht_region ?_
                refine sq_cons ⟨_, [(.t 102, .ptr 5 5)]⟩ (v_field_box (off := 0) (a0 := 5) rfl trivial rfl (ble _ _ rfl) fo50_4 rfl) ?_
                refine sq_cons ⟨_, [(.t 103, .d (.sl 2 (t1.mEntries.map eEntry)))]⟩ (v_load_box1 (id := 5) (off := 5) rfl trivial rfl (ble _ _ rfl) onT47 rfl rfl (ble _ _ rfl) rfl) ?_
                refine sq_cons ⟨_, [(.t 104, .d (.dp (List.drop 3 (eRequest t2))))]⟩ (v_field_dp (a0 := 3) (cs := (eRequest t2)) rfl trivial rfl (ble _ _ rfl) fo25_3 rfl) ?_
                refine sq_cons ⟨_, [(.t 105, sV t2.mKey)]⟩ (v_load_dp1 rfl trivial rfl (ble _ _ rfl) onT9 rfl rfl) ?_
                refine sq_cons ⟨_, [(.t 106, .d (.agg (eStamp t3)))]⟩ (w_ldp (eStamp t3) (eStamp t3) rfl trivial rfl (ble _ _ rfl) ag23 rfl (ble _ _ rfl) rfl) ?_
                refine sq_cons ⟨_, [(.t 107, .d (.agg (eVersion (⟨t3, true, (⟨#[]⟩ : ByteArray)⟩ : Version))))]⟩ (w_bld zc84 ((eVersion (⟨t3, true, (⟨#[]⟩ : ByteArray)⟩ : Version)).map V.d) [(0, .d (.agg (eStamp t3))), (1, bV true)] rfl trivial rfl (ble _ _ rfl) zw84 rfl ft84 rfl rfl rfl rfl) ?_
                obtain ⟨⟨t108a, t108b⟩, c50, h⟩ := bpos h
                refine sq_cons ⟨_, [(.t 108, .tup [.d (.sl 2 (t108a.map eEntry)), iV t108b])]⟩ (w_call (ds := [(.sl 2 (t1.mEntries.map eEntry)), (.s (.string t2.mKey)), (.agg (eVersion (⟨t3, true, (⟨#[]⟩ : ByteArray)⟩ : Version)))]) (caps := []) (l := [(.sl 2 (t108a.map eEntry)), (.s (.int .i64 t108b))]) (s46 k t1.mEntries t2.mKey (⟨t3, true, (⟨#[]⟩ : ByteArray)⟩ : Version) _ c50) rfl rfl rfl en46 trivial rfl (ble _ _ rfl) (.inl ⟨rfl, rfl⟩) rfl rfl) ?_
                refine sq_cons ⟨_, [(.t 101, .tup [.d (.sl 2 (t108a.map eEntry)), iV t108b])]⟩ (v_move (.inl rfl) trivial rfl (ble _ _ rfl) rfl) ?_
                refine sq_cons ⟨_, [(.t 109, .d (.sl 2 (t108a.map eEntry)))]⟩ (v_extract rfl trivial rfl (ble _ _ rfl) rfl rfl) ?_
                refine sq_cons ⟨_, [(.t 110, iV t108b)]⟩ (v_extract rfl trivial rfl (ble _ _ rfl) rfl rfl) ?_
                refine sq_cons ⟨_, [(.t 111, .ptr 5 5)]⟩ (v_field_box (off := 0) (a0 := 5) rfl trivial rfl (ble _ _ rfl) fo50_4 rfl) ?_
                refine sq_cons _ (v_store_box (id := 5) (off := 5) (cs := [(.sl 2 (t108a.map eEntry))].map V.d) rfl trivial rfl sz47 rfl rfl rfl rfl (ones_of rfl) (ble _ _ rfl)) ?_
                refine sq_cons ⟨_, [(.t 14, iV t108b)]⟩ (v_move (.inr rfl) trivial rfl (ble _ _ rfl) rfl) ?_
                refine sq_nil ?_
                cases h
                exact j13 _ (wk_ren _ (fun i => i) rfl ⟨rfl, rfl, rfl, rfl, rfl, rfl, rfl, rfl, rfl, rfl, rfl, rfl, rfl, rfl, rfl, rfl, rfl, rfl, rfl, rfl, rfl, rfl, rfl, rfl, rfl, rfl, rfl, rfl, rfl, rfl, rfl, rfl, rfl, rfl, rfl, rfl, rfl, rfl, rfl, rfl, rfl, rfl, rfl, rfl, rfl, rfl, rfl, rfl, rfl, rfl, rfl, rfl, rfl, rfl, rfl, rfl, rfl, rfl, trivial⟩)
              · replace h := cneg e49 h
                refine ht_skip ?_
                cases h
                exact j13 _ (wk_ren _ (fun i => i) rfl ⟨rfl, rfl, rfl, rfl, rfl, rfl, rfl, rfl, rfl, rfl, rfl, rfl, rfl, rfl, rfl, rfl, rfl, rfl, rfl, rfl, rfl, rfl, rfl, rfl, rfl, rfl, rfl, rfl, rfl, rfl, rfl, rfl, rfl, rfl, rfl, rfl, rfl, rfl, rfl, rfl, rfl, rfl, rfl, rfl, rfl, rfl, rfl, rfl, rfl, rfl, rfl, rfl, rfl, rfl, rfl, rfl, rfl, rfl, trivial⟩)
set_option maxRecDepth 100000 in
set_option maxHeartbeats 4000000 in
theorem s11 (k : Nat) (t0 : Stamp) (t1 : Stamp) (r : Stamp) (h : F11 k t0 t1 = some r) : Awp.Spec Tryd.prog amb 11 [(.agg (eStamp t0)), (.agg (eStamp t1))] (.ds [(.agg (eStamp r))]) := by
  rw [F11] at h
  refine spec_of Tryd.func11 rfl (ble _ _ rfl) fun w0 ok0 lt0 hA => ?_
  refine ht_seq ?_
  refine ht_region ?_
  refine sq_cons ⟨_, [(.t 2, .d (.dp (eStamp t0)))]⟩ (v_box_d (cs := (eStamp t0)) rfl trivial rfl (ble _ _ rfl) rfl rfl (ones_of rfl)) ?_
  refine sq_cons ⟨_, [(.t 3, .d (.dp (eStamp t1)))]⟩ (v_box_d (cs := (eStamp t1)) rfl trivial rfl (ble _ _ rfl) rfl rfl (ones_of rfl)) ?_
  refine sq_cons _ (v_alloc (id := 4) (cs := zc23) rfl trivial rfl (ble _ _ rfl) zu23 rfl ft23 rfl) ?_
  refine sq_nil ?_
  refine ht_seq ?_
  refine ht_seq ?_
  refine ht_region ?_
  refine sq_cons ⟨_, [(.t 5, .d (.agg (eStamp t0)))]⟩ (w_ldp (eStamp t0) (eStamp t0) rfl trivial rfl (ble _ _ rfl) ag23 rfl (ble _ _ rfl) rfl) ?_
  refine sq_cons ⟨_, [(.t 6, .d (.agg (eStamp t1)))]⟩ (w_ldp (eStamp t1) (eStamp t1) rfl trivial rfl (ble _ _ rfl) ag23 rfl (ble _ _ rfl) rfl) ?_
  obtain ⟨t7, c1, h⟩ := bpos h
  refine sq_cons ⟨_, [(.t 7, iV t7)]⟩ (w_call (ds := [(.agg (eStamp t0)), (.agg (eStamp t1))]) (caps := []) (l := [(.s (.int .i64 t7))]) (s29 k t0 t1 _ c1) rfl rfl rfl en29 trivial rfl (ble _ _ rfl) (.inl ⟨rfl, rfl⟩) rfl rfl) ?_
  refine sq_cons ⟨_, [(.t 8, bV (ltI t7 0))]⟩ (v_bin rfl trivial rfl (ble _ _ rfl) rfl rfl (b_lss rfl)) ?_
  refine sq_nil ?_
  refine ht_cond (b := (ltI t7 0)) rfl (fun e2 => ?_) (fun e2 => ?_)
  · replace h := cpos e2 h
    refine ht_seq ?_
    refine ht_region ?_
    refine sq_cons ⟨_, [(.t 9, .d (.agg (eStamp t1)))]⟩ (w_ldp (eStamp t1) (eStamp t1) rfl trivial rfl (ble _ _ rfl) ag23 rfl (ble _ _ rfl) rfl) ?_
    refine sq_cons _ (v_store_box (id := 4) (off := 0) (cs := (eStamp t1).map V.d) rfl trivial rfl sz23 rfl rfl rfl rfl (ones_of rfl) (ble _ _ rfl)) ?_
    refine sq_nil ?_
    refine ht_ret ?_
    cases h
    exact ret1 rfl (.cell rfl rfl ag23 (ble _ _ rfl) rfl)
  · replace h := cneg e2 h
    refine ht_skip ?_
    refine ht_seq ?_
    refine ht_region ?_
    refine sq_cons ⟨_, [(.t 10, .d (.agg (eStamp t0)))]⟩ (w_ldp (eStamp t0) (eStamp t0) rfl trivial rfl (ble _ _ rfl) ag23 rfl (ble _ _ rfl) rfl) ?_
    refine sq_cons _ (v_store_box (id := 4) (off := 0) (cs := (eStamp t0).map V.d) rfl trivial rfl sz23 rfl rfl rfl rfl (ones_of rfl) (ble _ _ rfl)) ?_
    refine sq_nil ?_
    refine ht_ret ?_
    cases h
    exact ret1 rfl (.cell rfl rfl ag23 (ble _ _ rfl) rfl)
set_option maxRecDepth 100000 in
set_option maxHeartbeats 4000000 in
theorem s75 (k : Nat) (t0 : List Version) (t1 : Stamp) (r : ByteArray × Bool) (h : F75 k t0 t1 = some r) : Awp.Spec Tryd.prog amb 75 [(.sl 5 (t0.map eVersion)), (.agg (eStamp t1))] (.ds [(.s (.string r.1)), (.s (.bool r.2))]) := by
  rw [F75] at h
  refine spec_of Tryd.func75 rfl (ble _ _ rfl) fun w0 ok0 lt0 hA => ?_
  refine ht_seq ?_
  refine ht_region ?_
  refine sq_cons ⟨_, [(.t 3, .d (.dp (eStamp t1)))]⟩ (v_box_d (cs := (eStamp t1)) rfl trivial rfl (ble _ _ rfl) rfl rfl (ones_of rfl)) ?_
  refine sq_cons ⟨_, [(.t 4, sV (⟨#[]⟩ : ByteArray))]⟩ (v_move (.inr rfl) trivial rfl (ble _ _ rfl) rfl) ?_
  refine sq_cons ⟨_, [(.t 5, bV false)]⟩ (v_move (.inr rfl) trivial rfl (ble _ _ rfl) rfl) ?_
  refine sq_nil ?_
  refine ht_seq ?_
  refine ht_region ?_
  refine sq_cons ⟨_, [(.t 9, .d (.sl 5 (t0.map eVersion)))]⟩ (v_move (.inl rfl) trivial rfl (ble _ _ rfl) rfl) ?_
  refine sq_cons ⟨_, [(.t 10, .d (.agg (eStamp t1)))]⟩ (w_ldp (eStamp t1) (eStamp t1) rfl trivial rfl (ble _ _ rfl) ag23 rfl (ble _ _ rfl) rfl) ?_
  obtain ⟨⟨t11a, t11b⟩, c1, h⟩ := bpos h
  refine sq_cons ⟨_, [(.t 11, .tup [.d (.agg (eVersion t11a)), bV t11b])]⟩ (w_call (ds := [(.sl 5 (t0.map eVersion)), (.agg (eStamp t1))]) (caps := []) (l := [(.agg (eVersion t11a)), (.s (.bool t11b))]) (s74 k t0 t1 _ c1) rfl rfl rfl en74 trivial rfl (ble _ _ rfl) (.inl ⟨rfl, rfl⟩) rfl rfl) ?_
  refine sq_cons ⟨_, [(.t 8, .tup [.d (.agg (eVersion t11a)), bV t11b])]⟩ (v_move (.inl rfl) trivial rfl (ble _ _ rfl) rfl) ?_
  refine sq_cons ⟨_, [(.t 12, .d (.agg (eVersion t11a)))]⟩ (v_extract rfl trivial rfl (ble _ _ rfl) rfl rfl) ?_
  refine sq_cons ⟨_, [(.t 13, bV t11b)]⟩ (v_extract rfl trivial rfl (ble _ _ rfl) rfl rfl) ?_
  refine sq_cons _ (v_alloc (id := 6) (cs := zc84) rfl trivial rfl (ble _ _ rfl) zu84 rfl ft84 rfl) ?_
  refine sq_cons _ (v_store_box (id := 6) (off := 0) (cs := (eVersion t11a).map V.d) rfl trivial rfl sz84 rfl rfl rfl rfl (ones_of rfl) (ble _ _ rfl)) ?_
  refine sq_cons ⟨_, [(.t 7, bV t11b)]⟩ (v_move (.inr rfl) trivial rfl (ble _ _ rfl) rfl) ?_
  refine sq_nil ?_
  refine ht_seq ?_
  refine ht_region_draw mixed ?_
  refine rg_cons ⟨_, [(.t 14, .ptr 6 4)]⟩ (v_field_box (off := 0) (a0 := 4) rfl trivial rfl (ble _ _ rfl) fo84_2 rfl) ?_
  refine rg_cons ⟨_, [(.t 15, sV t11a.mValue)]⟩ (v_load_box1 (id := 6) (off := 4) rfl trivial rfl (ble _ _ rfl) onT9 rfl rfl (ble _ _ rfl) rfl) ?_
  refine rg_cons ⟨_, [(.t 16, bV t11b)]⟩ (v_move (.inl rfl) trivial rfl (ble _ _ rfl) rfl) ?_
  refine rg_cons ⟨_, [(.t 17, bV t11b)]⟩ (v_move (.inl rfl) trivial rfl (ble _ _ rfl) rfl) ?_
  refine rg_cons ⟨_, [(.t 18, mg t11b (.ptr 6 3))]⟩ (v_cT rfl rfl rfl (ble _ _ rfl) rfl fun e2 => (v_field_box (off := 0) (a0 := 3) rfl ⟨_, rfl, be e2⟩ rfl (ble _ _ rfl) fo84_1 rfl)) ?_
  refine rg_cons ⟨_, [(.t 19, mg t11b (bV t11a.mGone))]⟩ (v_cT rfl rfl rfl (ble _ _ rfl) rfl fun e3 => (v_load_box1 (id := 6) (off := 3) rfl ⟨_, rfl, be e3⟩ rfl (ble _ _ rfl) onT4 (gv e3) rfl (ble _ _ rfl) rfl)) ?_
  refine rg_cons ⟨_, [(.t 20, mg t11b (bV (!t11a.mGone)))]⟩ (v_cT rfl rfl rfl (ble _ _ rfl) rfl fun e4 => (v_un rfl ⟨_, rfl, be e4⟩ rfl (ble _ _ rfl) (gv e4) (u_not rfl))) ?_
  refine rg_cons ⟨_, [(.t 21, bV (t11b && (!t11a.mGone)))]⟩ (v_pickB rfl trivial rfl (ble _ _ rfl) rfl (fun e5 => (gv e5)) (fun e6 => rfl) (pA _ _)) ?_
  refine rg_cons ⟨_, [(.t 4, sV t11a.mValue)]⟩ (v_move (.inr rfl) trivial rfl (ble _ _ rfl) rfl) ?_
  refine rg_cons ⟨_, [(.t 5, bV (t11b && (!t11a.mGone)))]⟩ (v_move (.inr rfl) trivial rfl (ble _ _ rfl) rfl) ?_
  refine rg_nil ⟨by kernel_rfl, ?_⟩
  refine ht_ret ?_
  cases h
  exact ret2 rfl (.tmp rfl) (.tmp rfl)
set_option maxRecDepth 100000 in
set_option maxHeartbeats 4000000 in
theorem s50 (k : Nat) (t0 : List Entry) (t1 : ByteArray) (t2 : ByteArray) (t3 : Stamp) (t4 : Int) (r : (List Item) × ByteArray × Bool) (h : F50 k t0 t1 t2 t3 t4 = some r) : Awp.Spec Tryd.prog amb 50 [(.sl 2 (t0.map eEntry)), (.s (.string t1)), (.s (.string t2)), (.agg (eStamp t3)), (.s (.int .i64 t4))] (.ds [(.sl 2 (r.1.map eItem)), (.s (.string r.2.1)), (.s (.bool r.2.2))]) := by
  rw [F50] at h
  refine spec_of Tryd.func50 rfl (ble _ _ rfl) fun w0 ok0 lt0 hA => ?_
  refine ht_seq ?_
  refine ht_region ?_
  refine sq_cons ⟨_, [(.t 8, .d (.dp (eStamp t3)))]⟩ (v_box_d (cs := (eStamp t3)) rfl trivial rfl (ble _ _ rfl) rfl rfl (ones_of rfl)) ?_
  refine sq_cons ⟨_, [(.t 10, .d (.s (.slice none 0 0)))]⟩ (v_move (.inr rfl) trivial rfl (ble _ _ rfl) rfl) ?_
  refine sq_cons ⟨_, [(.t 11, sV (⟨#[]⟩ : ByteArray))]⟩ (v_move (.inr rfl) trivial rfl (ble _ _ rfl) rfl) ?_
  refine sq_cons ⟨_, [(.t 12, bV false)]⟩ (v_move (.inr rfl) trivial rfl (ble _ _ rfl) rfl) ?_
  refine sq_nil ?_
  refine ht_seq ?_
  refine ht_seq ?_
  refine ht_region ?_
  refine sq_cons ⟨_, [(.t 20, .d (.sl 2 (t0.map eEntry)))]⟩ (v_move (.inl rfl) trivial rfl (ble _ _ rfl) rfl) ?_
  obtain ⟨t21, c1, h⟩ := bpos h
  refine sq_cons ⟨_, [(.t 21, bV t21)]⟩ (w_call (ds := [(.sl 2 (t0.map eEntry))]) (caps := []) (l := [(.s (.bool t21))]) (s57 k t0 _ c1) rfl rfl rfl en57 trivial rfl (ble _ _ rfl) (.inl ⟨rfl, rfl⟩) rfl rfl) ?_
  refine sq_cons ⟨_, [(.t 22, bV (!t21))]⟩ (v_un rfl trivial rfl (ble _ _ rfl) rfl (u_not rfl)) ?_
  refine sq_nil ?_
  refine ht_cond (b := (!t21)) rfl (fun e2 => ?_) (fun e2 => ?_)
  · replace h := cpos e2 h
    refine ht_seq ?_
    refine ht_region ?_
    refine sq_cons ⟨_, [(.t 10, .d (.s (.slice none 0 0)))]⟩ (v_move (.inr rfl) trivial rfl (ble _ _ rfl) rfl) ?_
    refine sq_cons ⟨_, [(.t 11, sV (⟨#[]⟩ : ByteArray))]⟩ (v_move (.inr rfl) trivial rfl (ble _ _ rfl) rfl) ?_
    refine sq_cons ⟨_, [(.t 12, bV false)]⟩ (v_move (.inr rfl) trivial rfl (ble _ _ rfl) rfl) ?_
    refine sq_nil ?_
    refine ht_ret ?_
    cases h
    exact retM_wk (wk_nil (.t 10) (nb 10) 2 rfl) (ret3 rfl (.tmp rfl) (.tmp rfl) (.tmp rfl))
  · replace h := cneg e2 h
    refine ht_skip ?_
    refine ht_seq ?_
    refine ht_region ?_
    refine sq_cons ⟨_, [(.t 13, .d (.s (.slice none 0 0)))]⟩ (v_move (.inr rfl) trivial rfl (ble _ _ rfl) rfl) ?_
    refine sq_nil ?_
    refine ht_seq ?_
    refine ht_region ?_
    refine sq_cons ⟨_, [(.t 24, .d (.sl 2 (t0.map eEntry)))]⟩ (v_move (.inl rfl) trivial rfl (ble _ _ rfl) rfl) ?_
    refine sq_cons ⟨_, [(.t 25, sV t1)]⟩ (v_move (.inl rfl) trivial rfl (ble _ _ rfl) rfl) ?_
    obtain ⟨⟨t26a, t26b⟩, c3, h⟩ := bpos h
    refine sq_cons ⟨_, [(.t 26, .tup [iV t26a, bV t26b])]⟩ (w_call (ds := [(.sl 2 (t0.map eEntry)), (.s (.string t1))]) (caps := []) (l := [(.s (.int .i64 t26a)), (.s (.bool t26b))]) (s66 k t0 t1 _ c3) rfl rfl rfl en66 trivial rfl (ble _ _ rfl) (.inl ⟨rfl, rfl⟩) rfl rfl) ?_
    refine sq_cons ⟨_, [(.t 23, .tup [iV t26a, bV t26b])]⟩ (v_move (.inl rfl) trivial rfl (ble _ _ rfl) rfl) ?_
    refine sq_cons ⟨_, [(.t 27, iV t26a)]⟩ (v_extract rfl trivial rfl (ble _ _ rfl) rfl rfl) ?_
    refine sq_cons ⟨_, [(.t 28, bV t26b)]⟩ (v_extract rfl trivial rfl (ble _ _ rfl) rfl rfl) ?_
    refine sq_cons ⟨_, [(.t 14, iV t26a)]⟩ (v_move (.inr rfl) trivial rfl (ble _ _ rfl) rfl) ?_
    refine sq_cons ⟨_, [(.t 15, bV t26b)]⟩ (v_move (.inr rfl) trivial rfl (ble _ _ rfl) rfl) ?_
    refine sq_nil ?_
    refine ht_gj (go_id' h) (fun t13 => tell [(.b 1013, .row false 118 2 (t13.map eItem)), (.t 13, .own 1013 2 t13.length)]) (fun t13 h => ?_) (fun v4 K5 h j7 r8 => ?_)
    · refine ht_seq ?_
      refine ht_region ?_
      refine sq_cons ⟨_, [(.t 70, .own 1013 2 t13.length)]⟩ (v_move (.inl rfl) trivial rfl (ble _ _ rfl) rfl) ?_
      refine sq_cons ⟨_, [(.t 10, .own 1013 2 t13.length)]⟩ (v_move (.inr rfl) trivial rfl (ble _ _ rfl) rfl) ?_
      refine sq_cons ⟨_, [(.t 11, sV (⟨#[]⟩ : ByteArray))]⟩ (v_move (.inr rfl) trivial rfl (ble _ _ rfl) rfl) ?_
      refine sq_cons ⟨_, [(.t 12, bV false)]⟩ (v_move (.inr rfl) trivial rfl (ble _ _ rfl) rfl) ?_
      refine sq_nil ?_
      refine ht_ret ?_
      cases h
      exact retM_wk (wk_still_row 1013 _ _ _ rfl) (retM_wk (wk_row (.t 10) (nb 10) 1013 _ _ _ _ rfl rfl (lm _ _)) (retM_wk (wk_row (.t 13) (nb 13) 1013 _ _ _ _ rfl rfl (lm _ _)) (retM_wk (wk_row (.t 70) (nb 70) 1013 _ _ _ _ rfl rfl (lm _ _)) (ret3 rfl (.tmp rfl) (.tmp rfl) (.tmp rfl)))))
    · refine ht_seq ?_
      refine ht_region ?_
      refine sq_cons ⟨_, [(.t 29, .d (.sl 2 (t0.map eEntry)))]⟩ (v_move (.inl rfl) trivial rfl (ble _ _ rfl) rfl) ?_
      refine sq_cons ⟨_, [(.t 30, iV t26a)]⟩ (v_move (.inl rfl) trivial rfl (ble _ _ rfl) rfl) ?_
      obtain ⟨e9, h⟩ := gpos h
      refine sq_cons ⟨_, [(.t 31, .d (.sl 2 ((List.drop t26a.toNat t0).map eEntry)))]⟩ (w_cutl t0 eEntry rfl trivial rfl (ble _ _ rfl) slT47 rfl rfl e9) ?_
      refine sq_cons ⟨_, [(.t 32, iV ((List.drop t26a.toNat t0).length : Int))]⟩ (w_len (List.drop t26a.toNat t0) eEntry rfl rfl trivial rfl (ble _ _ rfl) slT47 rfl) ?_
      refine sq_cons ⟨_, [(.t 33, iV 0)]⟩ (v_move (.inl rfl) trivial rfl (ble _ _ rfl) rfl) ?_
      refine sq_nil ?_
      refine ht_block ?_
      refine ht_rd h (fun _ => rfl) (fun (t13_1, t33) => tell [(.b 1013, .row false 118 2 (t13_1.map eItem)), (.t 2, sV t2), (.t 4, iV t4), (.t 8, .d (.dp (eStamp t3))), (.t 13, .own 1013 2 t13_1.length), (.t 31, .d (.sl 2 ((List.drop t26a.toNat t0).map eEntry))), (.t 32, iV ((List.drop t26a.toNat t0).length : Int)), (.t 33, iV t33)]) (wkt (wk_nilrow (.t 13) (nb 13) 1001013 118 2 rfl rfl) (wk_ren _ (fun i => bif Nat.beq i 1013 then 1001013 else i) rfl ⟨rfl, rfl, rfl, rfl, rfl, rfl, rfl, rfl, trivial⟩)) fun k v12 h K28 j11 => ?_
      obtain ⟨t13_1, t33⟩ := v12
      rw [F50_l1] at h
      refine ht_seq ?_
      refine ht_region ?_
      refine sq_cons ⟨_, [(.t 34, bV (ltI t33 ((List.drop t26a.toNat t0).length : Int)))]⟩ (v_bin rfl trivial rfl (ble _ _ rfl) rfl rfl (b_lss rfl)) ?_
      refine sq_nil ?_
      refine ht_seq ?_
      refine ht_cond (b := (ltI t33 ((List.drop t26a.toNat t0).length : Int))) rfl (fun e13 => ?_) (fun e13 => ?_)
      · replace h := cpos e13 h
        refine ht_skip ?_
        refine ht_seq ?_
        refine ht_block ?_
        refine ht_seq ?_
        refine ht_region ?_
        obtain ⟨e14, h⟩ := gpos h
        refine sq_cons ⟨_, [(.t 35, .d (.dp (eEntry (rd (List.drop t26a.toNat t0) t33))))]⟩ (w_idx (List.drop t26a.toNat t0) eEntry rfl trivial rfl (ble _ _ rfl) slT47 rfl rfl e14) ?_
        refine sq_cons ⟨_, [(.t 36, .d (.agg (eEntry (rd (List.drop t26a.toNat t0) t33))))]⟩ (w_ldp (eEntry (rd (List.drop t26a.toNat t0) t33)) (eEntry (rd (List.drop t26a.toNat t0) t33)) rfl trivial rfl (ble _ _ rfl) ag100 rfl (ble _ _ rfl) rfl) ?_
        refine sq_cons _ (v_alloc (id := 17) (cs := zc100) rfl trivial rfl (ble _ _ rfl) zu100 rfl ft100 rfl) ?_
        refine sq_cons _ (v_store_box (id := 17) (off := 0) (cs := (eEntry (rd (List.drop t26a.toNat t0) t33)).map V.d) rfl trivial rfl sz100 rfl rfl rfl rfl (ones_of rfl) (ble _ _ rfl)) ?_
        refine sq_nil ?_
        refine ht_seq ?_
        refine ht_seq ?_
        refine ht_region ?_
        refine sq_cons ⟨_, [(.t 37, sV t2)]⟩ (v_move (.inl rfl) trivial rfl (ble _ _ rfl) rfl) ?_
        refine sq_cons ⟨_, [(.t 38, bV (!strEq t2 (⟨#[]⟩ : ByteArray)))]⟩ (v_bin rfl trivial rfl (ble _ _ rfl) rfl rfl (b_neS rfl)) ?_
        refine sq_cons ⟨_, [(.t 39, bV (!strEq t2 (⟨#[]⟩ : ByteArray)))]⟩ (v_move (.inl rfl) trivial rfl (ble _ _ rfl) rfl) ?_
        refine sq_cons ⟨_, [(.t 40, mg (!strEq t2 (⟨#[]⟩ : ByteArray)) (.ptr 17 0))]⟩ (v_cT rfl rfl rfl (ble _ _ rfl) rfl fun e15 => (v_field_box (off := 0) (a0 := 0) rfl ⟨_, rfl, be e15⟩ rfl (ble _ _ rfl) fo100_0 rfl)) ?_
        refine sq_cons ⟨_, [(.t 41, mg (!strEq t2 (⟨#[]⟩ : ByteArray)) (sV (rd (List.drop t26a.toNat t0) t33).mKey))]⟩ (v_cT rfl rfl rfl (ble _ _ rfl) rfl fun e16 => (v_load_box1 (id := 17) (off := 0) rfl ⟨_, rfl, be e16⟩ rfl (ble _ _ rfl) onT9 (gv e16) rfl (ble _ _ rfl) rfl)) ?_
        refine sq_cons ⟨_, [(.t 42, mg (!strEq t2 (⟨#[]⟩ : ByteArray)) (sV t2))]⟩ (v_cT rfl rfl rfl (ble _ _ rfl) rfl fun e17 => (v_move (.inl rfl) ⟨_, rfl, be e17⟩ rfl (ble _ _ rfl) rfl)) ?_
        obtain ⟨t43, c19, h⟩ := bpos h
        refine sq_cons ⟨_, [(.t 43, mg (!strEq t2 (⟨#[]⟩ : ByteArray)) (iV t43))]⟩ (v_cT rfl rfl rfl (ble _ _ rfl) rfl fun e18 => (w_call (ds := [(.s (.string (rd (List.drop t26a.toNat t0) t33).mKey)), (.s (.string t2))]) (caps := []) (l := [(.s (.int .i64 t43))]) (s43 k (rd (List.drop t26a.toNat t0) t33).mKey t2 _ (cpos e18 c19)) rfl rfl rfl en43 ⟨_, rfl, be e18⟩ rfl (ble _ _ rfl) (.inl ⟨rfl, rfl⟩) (cc (gv e18) (cc (gv e18) rfl)) rfl)) ?_
        refine sq_cons ⟨_, [(.t 44, mg (!strEq t2 (⟨#[]⟩ : ByteArray)) (bV (leI 0 t43)))]⟩ (v_cT rfl rfl rfl (ble _ _ rfl) rfl fun e20 => (v_bin rfl ⟨_, rfl, be e20⟩ rfl (ble _ _ rfl) (gv e20) rfl (b_geq rfl))) ?_
        refine sq_cons ⟨_, [(.t 45, bV ((!strEq t2 (⟨#[]⟩ : ByteArray)) && (leI 0 t43)))]⟩ (v_pickB rfl trivial rfl (ble _ _ rfl) rfl (fun e21 => (gv e21)) (fun e22 => rfl) (pA _ _)) ?_
        refine sq_nil ?_
        refine ht_cond (b := ((!strEq t2 (⟨#[]⟩ : ByteArray)) && (leI 0 t43))) rfl (fun e23 => ?_) (fun e23 => ?_)
        · replace h := cpos e23 h
          refine ht_exit ?_
          refine tq ?_
          refine bq_pass (by decide) ?_
          refine tq ?_
          refine tq ?_
          refine bq_hit ?_
          cases h
          exact j7 _ _ rfl (wk_ren _ (fun i => i) rfl ⟨rfl, rfl, trivial⟩)
        · replace h := cneg e23 h
          refine ht_skip ?_
          refine ht_seq ?_
          refine ht_region ?_
          refine sq_cons ⟨_, [(.t 47, .ptr 17 1)]⟩ (v_field_box (off := 0) (a0 := 1) rfl trivial rfl (ble _ _ rfl) fo100_1 rfl) ?_
          refine sq_cons ⟨_, [(.t 48, .d (.sl 5 ((rd (List.drop t26a.toNat t0) t33).mChain.map eVersion)))]⟩ (v_load_box1 (id := 17) (off := 1) rfl trivial rfl (ble _ _ rfl) onT98 rfl rfl (ble _ _ rfl) rfl) ?_
          refine sq_cons ⟨_, [(.t 49, .d (.agg (eStamp t3)))]⟩ (w_ldp (eStamp t3) (eStamp t3) rfl trivial rfl (ble _ _ rfl) ag23 rfl (ble _ _ rfl) rfl) ?_
          obtain ⟨⟨t50a, t50b⟩, c24, h⟩ := bpos h
          refine sq_cons ⟨_, [(.t 50, .tup [sV t50a, bV t50b])]⟩ (w_call (ds := [(.sl 5 ((rd (List.drop t26a.toNat t0) t33).mChain.map eVersion)), (.agg (eStamp t3))]) (caps := []) (l := [(.s (.string t50a)), (.s (.bool t50b))]) (s75 k (rd (List.drop t26a.toNat t0) t33).mChain t3 _ c24) rfl rfl rfl en75 trivial rfl (ble _ _ rfl) (.inl ⟨rfl, rfl⟩) rfl rfl) ?_
          refine sq_cons ⟨_, [(.t 46, .tup [sV t50a, bV t50b])]⟩ (v_move (.inl rfl) trivial rfl (ble _ _ rfl) rfl) ?_
          refine sq_cons ⟨_, [(.t 51, sV t50a)]⟩ (v_extract rfl trivial rfl (ble _ _ rfl) rfl rfl) ?_
          refine sq_cons ⟨_, [(.t 52, bV t50b)]⟩ (v_extract rfl trivial rfl (ble _ _ rfl) rfl rfl) ?_
          refine sq_cons ⟨_, [(.t 18, sV t50a)]⟩ (v_move (.inr rfl) trivial rfl (ble _ _ rfl) rfl) ?_
          refine sq_cons ⟨_, [(.t 19, bV t50b)]⟩ (v_move (.inr rfl) trivial rfl (ble _ _ rfl) rfl) ?_
          refine sq_nil ?_
          refine ht_seq ?_
          refine ht_seq ?_
          refine ht_region ?_
          refine sq_cons ⟨_, [(.t 53, bV t50b)]⟩ (v_move (.inl rfl) trivial rfl (ble _ _ rfl) rfl) ?_
          refine sq_cons ⟨_, [(.t 54, bV (!t50b))]⟩ (v_un rfl trivial rfl (ble _ _ rfl) rfl (u_not rfl)) ?_
          refine sq_nil ?_
          refine ht_cond (b := (!t50b)) rfl (fun e25 => ?_) (fun e25 => ?_)
          · replace h := cpos e25 h
            refine ht_exit ?_
            refine tq ?_
            refine bq_hit ?_
            refine ht_region ?_
            refine sq_cons ⟨_, [(.t 69, iV (IntKind.wrap .i64 (t33 + 1)))]⟩ (v_bin rfl trivial rfl (ble _ _ rfl) rfl rfl (b_add rfl)) ?_
            refine sq_cons ⟨_, [(.t 33, iV (IntKind.wrap .i64 (t33 + 1)))]⟩ (v_move (.inl rfl) trivial rfl (ble _ _ rfl) rfl) ?_
            refine sq_nil ?_
            exact j11 _ _ h (wk_ren _ (fun i => i) rfl ⟨rfl, rfl, rfl, rfl, rfl, rfl, rfl, rfl, trivial⟩)
          · replace h := cneg e25 h
            refine ht_skip ?_
            refine ht_seq ?_
            refine ht_seq ?_
            refine ht_region ?_
            refine sq_cons ⟨_, [(.t 55, .own 1013 2 t13_1.length)]⟩ (v_move (.inl rfl) trivial rfl (ble _ _ rfl) rfl) ?_
            refine sq_cons ⟨_, [(.t 56, iV (t13_1.length : Int))]⟩ (v_len_own rfl rfl trivial rfl (ble _ _ rfl) und33 rfl) ?_
            refine sq_cons ⟨_, [(.t 57, iV t4)]⟩ (v_move (.inl rfl) trivial rfl (ble _ _ rfl) rfl) ?_
            refine sq_cons ⟨_, [(.t 58, bV (leI t4 (t13_1.length : Int)))]⟩ (v_bin rfl trivial rfl (ble _ _ rfl) rfl rfl (b_geq rfl)) ?_
            refine sq_nil ?_
            refine ht_cond (b := (leI t4 (t13_1.length : Int))) rfl (fun e26 => ?_) (fun e26 => ?_)
            · replace h := cpos e26 h
              refine ht_seq ?_
              refine ht_region_draw mixed ?_
              refine rg_cons ⟨_, [(.t 59, .own 1013 2 t13_1.length)]⟩ (v_move (.inl rfl) trivial rfl (ble _ _ rfl) rfl) ?_
              refine rg_cons ⟨_, [(.t 60, .ptr 17 0)]⟩ (v_field_box (off := 0) (a0 := 0) rfl trivial rfl (ble _ _ rfl) fo100_0 rfl) ?_
              refine rg_cons ⟨_, [(.t 61, sV (rd (List.drop t26a.toNat t0) t33).mKey)]⟩ (v_load_box1 (id := 17) (off := 0) rfl trivial rfl (ble _ _ rfl) onT9 rfl rfl (ble _ _ rfl) rfl) ?_
              refine rg_cons ⟨_, [(.t 10, .own 1013 2 t13_1.length)]⟩ (v_move (.inr rfl) trivial rfl (ble _ _ rfl) rfl) ?_
              refine rg_cons ⟨_, [(.t 11, sV (rd (List.drop t26a.toNat t0) t33).mKey)]⟩ (v_move (.inr rfl) trivial rfl (ble _ _ rfl) rfl) ?_
              refine rg_cons ⟨_, [(.t 12, bV true)]⟩ (v_move (.inr rfl) trivial rfl (ble _ _ rfl) rfl) ?_
              refine rg_nil ⟨by kernel_rfl, ?_⟩
              refine ht_ret ?_
              cases h
              cases r8 _ rfl
              exact retM_wk (wk_still_row 1013 _ _ _ rfl) (retM_wk (wk_row (.t 10) (nb 10) 1013 _ _ _ _ rfl rfl (lm _ _)) (retM_wk (wk_row (.t 13) (nb 13) 1013 _ _ _ _ rfl rfl (lm _ _)) (retM_wk (wk_row (.t 55) (nb 55) 1013 _ _ _ _ rfl rfl (lm _ _)) (retM_wk (wk_row (.t 59) (nb 59) 1013 _ _ _ _ rfl rfl (lm _ _)) (ret3 rfl (.tmp rfl) (.tmp rfl) (.tmp rfl))))))
            · replace h := cneg e26 h
              refine ht_skip ?_
              refine ht_region ?_
              refine sq_cons ⟨_, [(.t 62, .own 1013 2 t13_1.length)]⟩ (v_move (.inl rfl) trivial rfl (ble _ _ rfl) rfl) ?_
              refine sq_cons ⟨_, [(.t 63, .ptr 17 0)]⟩ (v_field_box (off := 0) (a0 := 0) rfl trivial rfl (ble _ _ rfl) fo100_0 rfl) ?_
              refine sq_cons ⟨_, [(.t 64, sV (rd (List.drop t26a.toNat t0) t33).mKey)]⟩ (v_load_box1 (id := 17) (off := 0) rfl trivial rfl (ble _ _ rfl) onT9 rfl rfl (ble _ _ rfl) rfl) ?_
              refine sq_cons ⟨_, [(.t 65, sV t50a)]⟩ (v_move (.inl rfl) trivial rfl (ble _ _ rfl) rfl) ?_
              refine sq_cons ⟨_, [(.t 66, .d (.agg (eItem (⟨(rd (List.drop t26a.toNat t0) t33).mKey, t50a⟩ : Item))))]⟩ (w_bld zc118 ((eItem (⟨(rd (List.drop t26a.toNat t0) t33).mKey, t50a⟩ : Item)).map V.d) [(0, sV (rd (List.drop t26a.toNat t0) t33).mKey), (1, sV t50a)] rfl trivial rfl (ble _ _ rfl) zw118 rfl ft118 rfl rfl rfl rfl) ?_
              refine sq_cons ⟨_, [(.b 67, .row false 118 2 (([(⟨(rd (List.drop t26a.toNat t0) t33).mKey, t50a⟩ : Item)]).map eItem)), (.t 67, .own 67 2 ([(⟨(rd (List.drop t26a.toNat t0) t33).mKey, t50a⟩ : Item)]).length)]⟩ (w_bsl (id := 67) [(0, .d (.agg (eItem (⟨(rd (List.drop t26a.toNat t0) t33).mKey, t50a⟩ : Item))))] [(⟨(rd (List.drop t26a.toNat t0) t33).mKey, t50a⟩ : Item)] eItem rfl trivial rfl (ble _ _ rfl) slT33 zr118 teItem (ble _ _ rfl) rfl (by kernel_rfl) rfl rfl (by kernel_rfl) (by kernel_rfl)) ?_
              obtain ⟨e27, h⟩ := gpos h
              refine sq_cons ⟨_, [(.b 1013, .spent), (.b 68, .row false 118 2 ((t13_1 ++ [(⟨(rd (List.drop t26a.toNat t0) t33).mKey, t50a⟩ : Item)]).map eItem)), (.t 68, .own 68 2 (t13_1 ++ [(⟨(rd (List.drop t26a.toNat t0) t33).mKey, t50a⟩ : Item)]).length)]⟩ (w_app 68 t13_1 ([(⟨(rd (List.drop t26a.toNat t0) t33).mKey, t50a⟩ : Item)]) eItem rfl rfl trivial rfl (ble _ _ rfl) slT33 elT118 teItem rfl rfl rfl (.own 67 _ _ rfl) rfl e27) ?_
              refine sq_cons ⟨_, [(.t 13, .own 68 2 (t13_1 ++ [(⟨(rd (List.drop t26a.toNat t0) t33).mKey, t50a⟩ : Item)]).length)]⟩ (v_move (.inr rfl) trivial rfl (ble _ _ rfl) rfl) ?_
              refine sq_nil ?_
              refine ht_region ?_
              refine sq_cons ⟨_, [(.t 69, iV (IntKind.wrap .i64 (t33 + 1)))]⟩ (v_bin rfl trivial rfl (ble _ _ rfl) rfl rfl (b_add rfl)) ?_
              refine sq_cons ⟨_, [(.t 33, iV (IntKind.wrap .i64 (t33 + 1)))]⟩ (v_move (.inl rfl) trivial rfl (ble _ _ rfl) rfl) ?_
              refine sq_nil ?_
              exact j11 _ _ h (wk_ren _ (fun i => bif Nat.beq i 1013 then 68 else i) rfl ⟨rfl, rfl, rfl, rfl, rfl, rfl, rfl, rfl, trivial⟩)
      · replace h := cneg e13 h
        refine ht_exit ?_
        refine tq ?_
        refine tq ?_
        refine bq_hit ?_
        cases h
        exact j7 _ _ rfl (wk_ren _ (fun i => i) rfl ⟨rfl, rfl, trivial⟩)
set_option maxRecDepth 100000 in
set_option maxHeartbeats 4000000 in
theorem s27 (k : Nat) (t0 : Cell) (t1 : Shard) (t2 : Request) (t3 : Int) (r : Cell × Answer) (h : F27 k t0 t1 t2 t3 = some r) : Awp.Spec Tryd.prog amb 27 [(.agg (eCell t0)), (.agg (eShard t1)), (.agg (eRequest t2)), (.s (.int .i64 t3))] (.ds [(.agg (eCell r.1)), (.agg (eAnswer r.2))]) := by
  rw [F27] at h
  refine spec_of Tryd.func27 rfl (ble _ _ rfl) fun w0 ok0 lt0 hA => ?_
  refine ht_seq ?_
  refine ht_region ?_
  refine sq_cons _ (v_box (id := 4) (cs := (eCell t0).map V.d) rfl trivial rfl (ble _ _ rfl) rfl rfl (ones_of rfl) rfl) ?_
  refine sq_cons ⟨_, [(.t 5, .d (.dp (eShard t1)))]⟩ (v_box_d (cs := (eShard t1)) rfl trivial rfl (ble _ _ rfl) rfl rfl (ones_of rfl)) ?_
  refine sq_cons ⟨_, [(.t 6, .d (.dp (eRequest t2)))]⟩ (v_box_d (cs := (eRequest t2)) rfl trivial rfl (ble _ _ rfl) rfl rfl (ones_of rfl)) ?_
  refine sq_cons _ (v_alloc (id := 8) (cs := zc30) rfl trivial rfl (ble _ _ rfl) zu30 rfl ft30 rfl) ?_
  refine sq_cons _ (v_alloc (id := 9) (cs := zc35) rfl trivial rfl (ble _ _ rfl) zu35 rfl ft35 rfl) ?_
  refine sq_nil ?_
  refine ht_seq ?_
  refine ht_block ?_
  refine ht_seq ?_
  refine ht_region ?_
  refine sq_cons ⟨_, [(.t 16, .d (.dp (List.drop 7 (eRequest t2))))]⟩ (v_field_dp (a0 := 7) (cs := (eRequest t2)) rfl trivial rfl (ble _ _ rfl) fo25_7 rfl) ?_
  refine sq_cons ⟨_, [(.t 17, .d (.agg (eStamp t2.mAt)))]⟩ (w_ldp (List.drop 7 (eRequest t2)) (eStamp t2.mAt) rfl trivial rfl (ble _ _ rfl) ag23 rfl (ble _ _ rfl) rfl) ?_
  refine sq_cons ⟨_, [(.t 18, .d (.dp (List.drop 6 (eShard t1))))]⟩ (v_field_dp (a0 := 6) (cs := (eShard t1)) rfl trivial rfl (ble _ _ rfl) fo50_5 rfl) ?_
  refine sq_cons ⟨_, [(.t 19, .d (.agg (eStamp t1.mMark)))]⟩ (w_ldp (List.drop 6 (eShard t1)) (eStamp t1.mMark) rfl trivial rfl (ble _ _ rfl) ag23 rfl (ble _ _ rfl) rfl) ?_
  obtain ⟨t20, c1, h⟩ := bpos h
  refine sq_cons ⟨_, [(.t 20, iV t20)]⟩ (w_call (ds := [(.agg (eStamp t2.mAt)), (.agg (eStamp t1.mMark))]) (caps := []) (l := [(.s (.int .i64 t20))]) (s29 k t2.mAt t1.mMark _ c1) rfl rfl rfl en29 trivial rfl (ble _ _ rfl) (.inl ⟨rfl, rfl⟩) rfl rfl) ?_
  refine sq_cons ⟨_, [(.t 21, bV (ltI t20 0))]⟩ (v_bin rfl trivial rfl (ble _ _ rfl) rfl rfl (b_lss rfl)) ?_
  refine sq_cons ⟨_, [(.t 15, bV (ltI t20 0))]⟩ (v_move (.inr rfl) trivial rfl (ble _ _ rfl) rfl) ?_
  refine sq_nil ?_
  refine ht_cond (b := (ltI t20 0)) rfl (fun e2 => ?_) (fun e2 => ?_)
  · replace h := cpos e2 h
    refine ht_seq ?_
    refine ht_region_draw mixed ?_
    refine rg_cons ⟨_, [(.t 22, .d (.agg (eCell t0)))]⟩ (w_ldb 4 0 rfl trivial rfl (ble _ _ rfl) ag30 rfl rfl (ble _ _ rfl) rfl) ?_
    obtain ⟨t23, c3, h⟩ := bpos h
    refine rg_cons ⟨_, [(.t 23, .d (.agg (eAnswer t23)))]⟩ (w_call (ds := [(.s (.int .i64 13))]) (caps := []) (l := [(.agg (eAnswer t23))]) (s21 k 13 _ c3) rfl rfl rfl en21 trivial rfl (ble _ _ rfl) (.inl ⟨rfl, rfl⟩) rfl rfl) ?_
    refine rg_cons _ (v_store_box (id := 8) (off := 0) (cs := (eCell t0).map V.d) rfl trivial rfl sz30 rfl rfl rfl rfl (ones_of rfl) (ble _ _ rfl)) ?_
    refine rg_cons _ (v_store_box (id := 9) (off := 0) (cs := (eAnswer t23).map V.d) rfl trivial rfl sz35 rfl rfl rfl rfl (ones_of rfl) (ble _ _ rfl)) ?_
    refine rg_nil ⟨by kernel_rfl, ?_⟩
    refine ht_ret ?_
    cases h
    exact ret2 rfl (.cell rfl rfl ag30 (ble _ _ rfl) rfl) (.cell rfl rfl ag35 (ble _ _ rfl) rfl)
  · replace h := cneg e2 h
    refine ht_seq ?_
    refine ht_region ?_
    refine sq_cons ⟨_, [(.t 25, .d (.dp (List.drop 7 (eRequest t2))))]⟩ (v_field_dp (a0 := 7) (cs := (eRequest t2)) rfl trivial rfl (ble _ _ rfl) fo25_7 rfl) ?_
    refine sq_cons ⟨_, [(.t 26, .d (.dp (List.drop 7 (eRequest t2))))]⟩ (v_field_dp (a0 := 0) (cs := (List.drop 7 (eRequest t2))) rfl trivial rfl (ble _ _ rfl) fo23_0 rfl) ?_
    refine sq_cons ⟨_, [(.t 27, iV t2.mAt.mWall)]⟩ (v_load_dp1 rfl trivial rfl (ble _ _ rfl) onT3 rfl rfl) ?_
    refine sq_cons ⟨_, [(.t 28, iV (IntKind.wrap .i64 (t2.mAt.mWall - 1000)))]⟩ (v_bin rfl trivial rfl (ble _ _ rfl) rfl rfl (b_sub rfl)) ?_
    refine sq_cons ⟨_, [(.t 29, iV t3)]⟩ (v_move (.inl rfl) trivial rfl (ble _ _ rfl) rfl) ?_
    refine sq_cons ⟨_, [(.t 30, bV (ltI t3 (IntKind.wrap .i64 (t2.mAt.mWall - 1000))))]⟩ (v_bin rfl trivial rfl (ble _ _ rfl) rfl rfl (b_gtr rfl)) ?_
    refine sq_cons ⟨_, [(.t 24, bV (ltI t3 (IntKind.wrap .i64 (t2.mAt.mWall - 1000))))]⟩ (v_move (.inr rfl) trivial rfl (ble _ _ rfl) rfl) ?_
    refine sq_nil ?_
    refine ht_cond (b := (ltI t3 (IntKind.wrap .i64 (t2.mAt.mWall - 1000)))) rfl (fun e4 => ?_) (fun e4 => ?_)
    · replace h := cpos e4 h
      refine ht_seq ?_
      refine ht_region_draw mixed ?_
      refine rg_cons ⟨_, [(.t 31, .d (.agg (eCell t0)))]⟩ (w_ldb 4 0 rfl trivial rfl (ble _ _ rfl) ag30 rfl rfl (ble _ _ rfl) rfl) ?_
      obtain ⟨t32, c5, h⟩ := bpos h
      refine rg_cons ⟨_, [(.t 32, .d (.agg (eAnswer t32)))]⟩ (w_call (ds := [(.s (.int .i64 12))]) (caps := []) (l := [(.agg (eAnswer t32))]) (s21 k 12 _ c5) rfl rfl rfl en21 trivial rfl (ble _ _ rfl) (.inl ⟨rfl, rfl⟩) rfl rfl) ?_
      refine rg_cons _ (v_store_box (id := 8) (off := 0) (cs := (eCell t0).map V.d) rfl trivial rfl sz30 rfl rfl rfl rfl (ones_of rfl) (ble _ _ rfl)) ?_
      refine rg_cons _ (v_store_box (id := 9) (off := 0) (cs := (eAnswer t32).map V.d) rfl trivial rfl sz35 rfl rfl rfl rfl (ones_of rfl) (ble _ _ rfl)) ?_
      refine rg_nil ⟨by kernel_rfl, ?_⟩
      refine ht_ret ?_
      cases h
      exact ret2 rfl (.cell rfl rfl ag30 (ble _ _ rfl) rfl) (.cell rfl rfl ag35 (ble _ _ rfl) rfl)
    · replace h := cneg e4 h
      refine ht_skip ?_
      refine ht_seq ?_
      refine ht_region ?_
      refine sq_cons ⟨_, [(.t 33, .ptr 4 1)]⟩ (v_field_box (off := 0) (a0 := 1) rfl trivial rfl (ble _ _ rfl) fo30_1 rfl) ?_
      refine sq_cons ⟨_, [(.t 34, .d (.agg (eStamp t0.mTop)))]⟩ (w_ldb 4 1 rfl trivial rfl (ble _ _ rfl) ag23 rfl rfl (ble _ _ rfl) rfl) ?_
      refine sq_cons ⟨_, [(.t 35, .d (.dp (List.drop 7 (eRequest t2))))]⟩ (v_field_dp (a0 := 7) (cs := (eRequest t2)) rfl trivial rfl (ble _ _ rfl) fo25_7 rfl) ?_
      refine sq_cons ⟨_, [(.t 36, .d (.agg (eStamp t2.mAt)))]⟩ (w_ldp (List.drop 7 (eRequest t2)) (eStamp t2.mAt) rfl trivial rfl (ble _ _ rfl) ag23 rfl (ble _ _ rfl) rfl) ?_
      obtain ⟨t37, c6, h⟩ := bpos h
      refine sq_cons ⟨_, [(.t 37, .d (.agg (eStamp t37)))]⟩ (w_call (ds := [(.agg (eStamp t0.mTop)), (.agg (eStamp t2.mAt))]) (caps := []) (l := [(.agg (eStamp t37))]) (s11 k t0.mTop t2.mAt _ c6) rfl rfl rfl en11 trivial rfl (ble _ _ rfl) (.inl ⟨rfl, rfl⟩) rfl rfl) ?_
      refine sq_cons ⟨_, [(.t 38, .ptr 4 1)]⟩ (v_field_box (off := 0) (a0 := 1) rfl trivial rfl (ble _ _ rfl) fo30_1 rfl) ?_
      refine sq_cons _ (v_store_box (id := 4) (off := 1) (cs := (eStamp t37).map V.d) rfl trivial rfl sz23 rfl rfl rfl rfl (ones_of rfl) (ble _ _ rfl)) ?_
      refine sq_nil ?_
      refine ht_seq ?_
      refine ht_region ?_
      refine sq_cons ⟨_, [(.t 39, .d (.dp (List.drop 7 (eRequest t2))))]⟩ (v_field_dp (a0 := 7) (cs := (eRequest t2)) rfl trivial rfl (ble _ _ rfl) fo25_7 rfl) ?_
      refine sq_cons ⟨_, [(.t 40, .d (.agg (eStamp t2.mAt)))]⟩ (w_ldp (List.drop 7 (eRequest t2)) (eStamp t2.mAt) rfl trivial rfl (ble _ _ rfl) ag23 rfl (ble _ _ rfl) rfl) ?_
      refine sq_cons ⟨_, [(.t 41, .d (.agg (eAnswer (⟨0, t2.mAt, false, (⟨#[]⟩ : ByteArray), ([] : List Item), (⟨#[]⟩ : ByteArray), false⟩ : Answer))))]⟩ (w_bld zc35 ((eAnswer (⟨0, t2.mAt, false, (⟨#[]⟩ : ByteArray), ([] : List Item), (⟨#[]⟩ : ByteArray), false⟩ : Answer)).map V.d) [(1, .d (.agg (eStamp t2.mAt)))] rfl trivial rfl (ble _ _ rfl) zw35 rfl ft35 rfl rfl rfl rfl) ?_
      refine sq_cons _ (v_alloc (id := 10) (cs := zc35) rfl trivial rfl (ble _ _ rfl) zu35 rfl ft35 rfl) ?_
      refine sq_cons _ (v_store_box (id := 10) (off := 0) (cs := (eAnswer (⟨0, t2.mAt, false, (⟨#[]⟩ : ByteArray), ([] : List Item), (⟨#[]⟩ : ByteArray), false⟩ : Answer)).map V.d) rfl trivial rfl sz35 rfl rfl rfl rfl (ones_of rfl) (ble _ _ rfl)) ?_
      refine sq_nil ?_
      refine ht_seq ?_
      refine ht_seq ?_
      refine ht_region ?_
      refine sq_cons ⟨_, [(.t 42, .d (.dp (List.drop 2 (eRequest t2))))]⟩ (v_field_dp (a0 := 2) (cs := (eRequest t2)) rfl trivial rfl (ble _ _ rfl) fo25_2 rfl) ?_
      refine sq_cons ⟨_, [(.t 43, iV t2.mKind)]⟩ (v_load_dp1 rfl trivial rfl (ble _ _ rfl) onT3 rfl rfl) ?_
      refine sq_cons ⟨_, [(.t 44, bV (eqI t2.mKind 5))]⟩ (v_bin rfl trivial rfl (ble _ _ rfl) rfl rfl (b_eql rfl)) ?_
      refine sq_nil ?_
      refine ht_cond (b := (eqI t2.mKind 5)) rfl (fun e7 => ?_) (fun e7 => ?_)
      · replace h := cpos e7 h
        refine ht_seq ?_
        refine ht_region ?_
        refine sq_cons ⟨_, [(.t 46, .d (.dp (List.drop 5 (eShard t1))))]⟩ (v_field_dp (a0 := 5) (cs := (eShard t1)) rfl trivial rfl (ble _ _ rfl) fo50_4 rfl) ?_
        refine sq_cons ⟨_, [(.t 47, .d (.sl 2 (t1.mEntries.map eEntry)))]⟩ (v_load_dp1 rfl trivial rfl (ble _ _ rfl) onT47 rfl rfl) ?_
        refine sq_cons ⟨_, [(.t 48, .d (.dp (List.drop 3 (eRequest t2))))]⟩ (v_field_dp (a0 := 3) (cs := (eRequest t2)) rfl trivial rfl (ble _ _ rfl) fo25_3 rfl) ?_
        refine sq_cons ⟨_, [(.t 49, sV t2.mKey)]⟩ (v_load_dp1 rfl trivial rfl (ble _ _ rfl) onT9 rfl rfl) ?_
        refine sq_cons ⟨_, [(.t 50, .d (.dp (List.drop 7 (eRequest t2))))]⟩ (v_field_dp (a0 := 7) (cs := (eRequest t2)) rfl trivial rfl (ble _ _ rfl) fo25_7 rfl) ?_
        refine sq_cons ⟨_, [(.t 51, .d (.agg (eStamp t2.mAt)))]⟩ (w_ldp (List.drop 7 (eRequest t2)) (eStamp t2.mAt) rfl trivial rfl (ble _ _ rfl) ag23 rfl (ble _ _ rfl) rfl) ?_
        obtain ⟨⟨t52a, t52b⟩, c8, h⟩ := bpos h
        refine sq_cons ⟨_, [(.t 52, .tup [.d (.agg (eVersion t52a)), bV t52b])]⟩ (w_call (ds := [(.sl 2 (t1.mEntries.map eEntry)), (.s (.string t2.mKey)), (.agg (eStamp t2.mAt))]) (caps := []) (l := [(.agg (eVersion t52a)), (.s (.bool t52b))]) (s49 k t1.mEntries t2.mKey t2.mAt _ c8) rfl rfl rfl en49 trivial rfl (ble _ _ rfl) (.inl ⟨rfl, rfl⟩) rfl rfl) ?_
        refine sq_cons ⟨_, [(.t 45, .tup [.d (.agg (eVersion t52a)), bV t52b])]⟩ (v_move (.inl rfl) trivial rfl (ble _ _ rfl) rfl) ?_
        refine sq_cons ⟨_, [(.t 53, .d (.agg (eVersion t52a)))]⟩ (v_extract rfl trivial rfl (ble _ _ rfl) rfl rfl) ?_
        refine sq_cons ⟨_, [(.t 54, bV t52b)]⟩ (v_extract rfl trivial rfl (ble _ _ rfl) rfl rfl) ?_
        refine sq_cons _ (v_alloc (id := 11) (cs := zc84) rfl trivial rfl (ble _ _ rfl) zu84 rfl ft84 rfl) ?_
        refine sq_cons _ (v_store_box (id := 11) (off := 0) (cs := (eVersion t52a).map V.d) rfl trivial rfl sz84 rfl rfl rfl rfl (ones_of rfl) (ble _ _ rfl)) ?_
        refine sq_cons ⟨_, [(.t 12, bV t52b)]⟩ (v_move (.inr rfl) trivial rfl (ble _ _ rfl) rfl) ?_
        refine sq_nil ?_
        refine ht_seq ?_
        refine ht_region_draw mixed ?_
        refine rg_cons ⟨_, [(.t 55, bV t52b)]⟩ (v_move (.inl rfl) trivial rfl (ble _ _ rfl) rfl) ?_
        refine rg_cons ⟨_, [(.t 56, bV t52b)]⟩ (v_move (.inl rfl) trivial rfl (ble _ _ rfl) rfl) ?_
        refine rg_cons ⟨_, [(.t 57, mg t52b (.ptr 11 3))]⟩ (v_cT rfl rfl rfl (ble _ _ rfl) rfl fun e9 => (v_field_box (off := 0) (a0 := 3) rfl ⟨_, rfl, be e9⟩ rfl (ble _ _ rfl) fo84_1 rfl)) ?_
        refine rg_cons ⟨_, [(.t 58, mg t52b (bV t52a.mGone))]⟩ (v_cT rfl rfl rfl (ble _ _ rfl) rfl fun e10 => (v_load_box1 (id := 11) (off := 3) rfl ⟨_, rfl, be e10⟩ rfl (ble _ _ rfl) onT4 (gv e10) rfl (ble _ _ rfl) rfl)) ?_
        refine rg_cons ⟨_, [(.t 59, mg t52b (bV (!t52a.mGone)))]⟩ (v_cT rfl rfl rfl (ble _ _ rfl) rfl fun e11 => (v_un rfl ⟨_, rfl, be e11⟩ rfl (ble _ _ rfl) (gv e11) (u_not rfl))) ?_
        refine rg_cons ⟨_, [(.t 60, bV (t52b && (!t52a.mGone)))]⟩ (v_pickB rfl trivial rfl (ble _ _ rfl) rfl (fun e12 => (gv e12)) (fun e13 => rfl) (pA _ _)) ?_
        refine rg_cons ⟨_, [(.t 61, .ptr 11 4)]⟩ (v_field_box (off := 0) (a0 := 4) rfl trivial rfl (ble _ _ rfl) fo84_2 rfl) ?_
        refine rg_cons ⟨_, [(.t 62, sV t52a.mValue)]⟩ (v_load_box1 (id := 11) (off := 4) rfl trivial rfl (ble _ _ rfl) onT9 rfl rfl (ble _ _ rfl) rfl) ?_
        refine rg_cons ⟨_, [(.t 63, .ptr 10 4)]⟩ (v_field_box (off := 0) (a0 := 4) rfl trivial rfl (ble _ _ rfl) fo35_2 rfl) ?_
        refine rg_cons _ (v_store_box (id := 10) (off := 4) (cs := [(.s (.bool (t52b && (!t52a.mGone))))].map V.d) rfl trivial rfl sz4 rfl rfl rfl rfl (ones_of rfl) (ble _ _ rfl)) ?_
        refine rg_cons ⟨_, [(.t 64, .ptr 10 5)]⟩ (v_field_box (off := 0) (a0 := 5) rfl trivial rfl (ble _ _ rfl) fo35_3 rfl) ?_
        refine rg_cons _ (v_store_box (id := 10) (off := 5) (cs := [(.s (.string t52a.mValue))].map V.d) rfl trivial rfl sz9 rfl rfl rfl rfl (ones_of rfl) (ble _ _ rfl)) ?_
        refine rg_nil ⟨by kernel_rfl, ?_⟩
        refine ht_seq ?_
        refine ht_region_draw mixed ?_
        refine rg_cons ⟨_, [(.t 65, .d (.agg (eCell ({t0 with mTop := t37}))))]⟩ (w_ldb 4 0 rfl trivial rfl (ble _ _ rfl) ag30 rfl rfl (ble _ _ rfl) rfl) ?_
        refine rg_cons ⟨_, [(.t 66, .d (.agg (eAnswer (⟨0, t2.mAt, (t52b && (!t52a.mGone)), t52a.mValue, ([] : List Item), (⟨#[]⟩ : ByteArray), false⟩ : Answer))))]⟩ (w_ldb 10 0 rfl trivial rfl (ble _ _ rfl) ag35 rfl rfl (ble _ _ rfl) rfl) ?_
        refine rg_cons _ (v_store_box (id := 8) (off := 0) (cs := (eCell ({t0 with mTop := t37})).map V.d) rfl trivial rfl sz30 rfl rfl rfl rfl (ones_of rfl) (ble _ _ rfl)) ?_
        refine rg_cons _ (v_store_box (id := 9) (off := 0) (cs := (eAnswer (⟨0, t2.mAt, (t52b && (!t52a.mGone)), t52a.mValue, ([] : List Item), (⟨#[]⟩ : ByteArray), false⟩ : Answer)).map V.d) rfl trivial rfl sz35 rfl rfl rfl rfl (ones_of rfl) (ble _ _ rfl)) ?_
        refine rg_nil ⟨by kernel_rfl, ?_⟩
        refine ht_ret ?_
        cases h
        exact ret2 rfl (.cell rfl rfl ag30 (ble _ _ rfl) rfl) (.cell rfl rfl ag35 (ble _ _ rfl) rfl)
      · replace h := cneg e7 h
        refine ht_skip ?_
        refine ht_seq ?_
        refine ht_region ?_
        refine sq_cons ⟨_, [(.t 67, .d (.dp (List.drop 10 (eRequest t2))))]⟩ (v_field_dp (a0 := 10) (cs := (eRequest t2)) rfl trivial rfl (ble _ _ rfl) fo25_8 rfl) ?_
        refine sq_cons ⟨_, [(.t 68, sV t2.mHi)]⟩ (v_load_dp1 rfl trivial rfl (ble _ _ rfl) onT9 rfl rfl) ?_
        refine sq_cons ⟨_, [(.t 13, sV t2.mHi)]⟩ (v_move (.inr rfl) trivial rfl (ble _ _ rfl) rfl) ?_
        refine sq_nil ?_
        refine ht_seq ?_
        refine ht_region ?_
        refine sq_cons ⟨_, [(.t 69, .d (.dp (List.drop 2 (eShard t1))))]⟩ (v_field_dp (a0 := 2) (cs := (eShard t1)) rfl trivial rfl (ble _ _ rfl) fo50_2 rfl) ?_
        refine sq_cons ⟨_, [(.t 70, .d (.dp (List.drop 3 (eShard t1))))]⟩ (v_field_dp (a0 := 1) (cs := (List.drop 2 (eShard t1))) rfl trivial rfl (ble _ _ rfl) fo46_1 rfl) ?_
        refine sq_cons ⟨_, [(.t 71, sV t1.mSpan.mHi)]⟩ (v_load_dp1 rfl trivial rfl (ble _ _ rfl) onT9 rfl rfl) ?_
        refine sq_cons ⟨_, [(.t 72, bV (!strEq t1.mSpan.mHi (⟨#[]⟩ : ByteArray)))]⟩ (v_bin rfl trivial rfl (ble _ _ rfl) rfl rfl (b_neS rfl)) ?_
        refine sq_cons ⟨_, [(.t 73, bV (!strEq t1.mSpan.mHi (⟨#[]⟩ : ByteArray)))]⟩ (v_move (.inl rfl) trivial rfl (ble _ _ rfl) rfl) ?_
        refine sq_cons ⟨_, [(.t 74, mg (!strEq t1.mSpan.mHi (⟨#[]⟩ : ByteArray)) (sV t2.mHi))]⟩ (v_cT rfl rfl rfl (ble _ _ rfl) rfl fun e14 => (v_move (.inl rfl) ⟨_, rfl, be e14⟩ rfl (ble _ _ rfl) rfl)) ?_
        refine sq_cons ⟨_, [(.t 75, mg (!strEq t1.mSpan.mHi (⟨#[]⟩ : ByteArray)) (bV (strEq t2.mHi (⟨#[]⟩ : ByteArray))))]⟩ (v_cT rfl rfl rfl (ble _ _ rfl) rfl fun e15 => (v_bin rfl ⟨_, rfl, be e15⟩ rfl (ble _ _ rfl) (gv e15) rfl (b_eqS rfl))) ?_
        refine sq_cons ⟨_, [(.t 76, mg (!strEq t1.mSpan.mHi (⟨#[]⟩ : ByteArray)) (bV (strEq t2.mHi (⟨#[]⟩ : ByteArray))))]⟩ (v_cT rfl rfl rfl (ble _ _ rfl) rfl fun e16 => (v_move (.inl rfl) ⟨_, rfl, be e16⟩ rfl (ble _ _ rfl) (gv e16))) ?_
        refine sq_cons ⟨_, [(.t 77, mg ((!strEq t1.mSpan.mHi (⟨#[]⟩ : ByteArray)) && (!(strEq t2.mHi (⟨#[]⟩ : ByteArray)))) (.d (.dp (List.drop 2 (eShard t1)))))]⟩ (v_mF rfl rfl rfl (ble _ _ rfl) rfl fun e17 e18 => (v_field_dp (a0 := 2) (cs := (eShard t1)) rfl ⟨_, rfl, bm e17 e18⟩ rfl (ble _ _ rfl) fo50_2 rfl)) ?_
        refine sq_cons ⟨_, [(.t 78, mg ((!strEq t1.mSpan.mHi (⟨#[]⟩ : ByteArray)) && (!(strEq t2.mHi (⟨#[]⟩ : ByteArray)))) (.d (.dp (List.drop 3 (eShard t1)))))]⟩ (v_mF rfl rfl rfl (ble _ _ rfl) rfl fun e19 e20 => (v_field_dp (a0 := 1) (cs := (List.drop 2 (eShard t1))) rfl ⟨_, rfl, bm e19 e20⟩ rfl (ble _ _ rfl) fo46_1 (gv (aT e19 (nF e20))))) ?_
        refine sq_cons ⟨_, [(.t 79, mg ((!strEq t1.mSpan.mHi (⟨#[]⟩ : ByteArray)) && (!(strEq t2.mHi (⟨#[]⟩ : ByteArray)))) (sV t1.mSpan.mHi))]⟩ (v_mF rfl rfl rfl (ble _ _ rfl) rfl fun e21 e22 => (v_load_dp1 rfl ⟨_, rfl, bm e21 e22⟩ rfl (ble _ _ rfl) onT9 (gv (aT e21 (nF e22))) rfl)) ?_
        refine sq_cons ⟨_, [(.t 80, mg ((!strEq t1.mSpan.mHi (⟨#[]⟩ : ByteArray)) && (!(strEq t2.mHi (⟨#[]⟩ : ByteArray)))) (sV t2.mHi))]⟩ (v_mF rfl rfl rfl (ble _ _ rfl) rfl fun e23 e24 => (v_move (.inl rfl) ⟨_, rfl, bm e23 e24⟩ rfl (ble _ _ rfl) rfl)) ?_
        obtain ⟨t81, c27, h⟩ := bpos h
        refine sq_cons ⟨_, [(.t 81, mg ((!strEq t1.mSpan.mHi (⟨#[]⟩ : ByteArray)) && (!(strEq t2.mHi (⟨#[]⟩ : ByteArray)))) (iV t81))]⟩ (v_mF rfl rfl rfl (ble _ _ rfl) rfl fun e25 e26 => (w_call (ds := [(.s (.string t1.mSpan.mHi)), (.s (.string t2.mHi))]) (caps := []) (l := [(.s (.int .i64 t81))]) (s43 k t1.mSpan.mHi t2.mHi _ (cpos (aT e25 (nF e26)) c27)) rfl rfl rfl en43 ⟨_, rfl, bm e25 e26⟩ rfl (ble _ _ rfl) (.inl ⟨rfl, rfl⟩) (cc (gv (aT e25 (nF e26))) (cc (gv (aT e25 (nF e26))) rfl)) rfl)) ?_
        refine sq_cons ⟨_, [(.t 82, mg ((!strEq t1.mSpan.mHi (⟨#[]⟩ : ByteArray)) && (!(strEq t2.mHi (⟨#[]⟩ : ByteArray)))) (bV (ltI t81 0)))]⟩ (v_mF rfl rfl rfl (ble _ _ rfl) rfl fun e28 e29 => (v_bin rfl ⟨_, rfl, bm e28 e29⟩ rfl (ble _ _ rfl) (gv (aT e28 (nF e29))) rfl (b_lss rfl))) ?_
        refine sq_cons ⟨_, [(.t 83, mg (!strEq t1.mSpan.mHi (⟨#[]⟩ : ByteArray)) (bV ((strEq t2.mHi (⟨#[]⟩ : ByteArray)) || (ltI t81 0))))]⟩ (v_cT rfl rfl rfl (ble _ _ rfl) rfl fun e30 => (v_pickB rfl ⟨_, rfl, be e30⟩ rfl (ble _ _ rfl) (gv e30) (fun e31 => rfl) (fun e32 => (gv (aT e30 (nF e32)))) (pO _ _))) ?_
        refine sq_cons ⟨_, [(.t 84, bV ((!strEq t1.mSpan.mHi (⟨#[]⟩ : ByteArray)) && ((strEq t2.mHi (⟨#[]⟩ : ByteArray)) || (ltI t81 0))))]⟩ (v_pickB rfl trivial rfl (ble _ _ rfl) rfl (fun e33 => (gv e33)) (fun e34 => rfl) (pA _ _)) ?_
        refine sq_cons ⟨_, [(.t 14, bV ((!strEq t1.mSpan.mHi (⟨#[]⟩ : ByteArray)) && ((strEq t2.mHi (⟨#[]⟩ : ByteArray)) || (ltI t81 0))))]⟩ (v_move (.inr rfl) trivial rfl (ble _ _ rfl) rfl) ?_
        refine sq_nil ?_
        refine ht_bj h (fun t13 => tell [(.b 4, .box false 5), (.b 8, .box false 5), (.b 9, .box false 9), (.b 10, .box false 9), (.c 4 0, .d (.sl 17 (t0.mShards.map eShard))), (.c 4 1, iV t37.mWall), (.c 4 2, iV t37.mTick), (.c 4 3, iV t37.mNode), (.c 4 4, iV t0.mDropped), (.c 8 0, .d (.sl 17 (([] : List Shard).map eShard))), (.c 8 1, iV 0), (.c 8 2, iV 0), (.c 8 3, iV 0), (.c 8 4, iV 0), (.c 9 0, iV 0), (.c 9 1, iV 0), (.c 9 2, iV 0), (.c 9 3, iV 0), (.c 9 4, bV false), (.c 9 5, sV (⟨#[]⟩ : ByteArray)), (.c 9 6, .d (.sl 2 (([] : List Item).map eItem))), (.c 9 7, sV (⟨#[]⟩ : ByteArray)), (.c 9 8, bV false), (.c 10 0, iV 0), (.c 10 1, iV t2.mAt.mWall), (.c 10 2, iV t2.mAt.mTick), (.c 10 3, iV t2.mAt.mNode), (.c 10 4, bV false), (.c 10 5, sV (⟨#[]⟩ : ByteArray)), (.c 10 6, .d (.sl 2 (([] : List Item).map eItem))), (.c 10 7, sV (⟨#[]⟩ : ByteArray)), (.c 10 8, bV false), (.t 4, .ptr 4 0), (.t 5, .d (.dp (eShard t1))), (.t 6, .d (.dp (eRequest t2))), (.t 8, .ptr 8 0), (.t 9, .ptr 9 0), (.t 10, .ptr 10 0), (.t 13, sV t13), (.t 14, bV ((!strEq t1.mSpan.mHi (⟨#[]⟩ : ByteArray)) && ((strEq t2.mHi (⟨#[]⟩ : ByteArray)) || (ltI t81 0))))]) (fun t13 h => ?_) (fun v35 K36 h j38 => ?_)
        · refine ht_seq ?_
          refine ht_region ?_
          refine sq_cons ⟨_, [(.t 90, .d (.dp (List.drop 5 (eShard t1))))]⟩ (v_field_dp (a0 := 5) (cs := (eShard t1)) rfl trivial rfl (ble _ _ rfl) fo50_4 rfl) ?_
          refine sq_cons ⟨_, [(.t 91, .d (.sl 2 (t1.mEntries.map eEntry)))]⟩ (v_load_dp1 rfl trivial rfl (ble _ _ rfl) onT47 rfl rfl) ?_
          refine sq_cons ⟨_, [(.t 92, .d (.dp (List.drop 3 (eRequest t2))))]⟩ (v_field_dp (a0 := 3) (cs := (eRequest t2)) rfl trivial rfl (ble _ _ rfl) fo25_3 rfl) ?_
          refine sq_cons ⟨_, [(.t 93, sV t2.mKey)]⟩ (v_load_dp1 rfl trivial rfl (ble _ _ rfl) onT9 rfl rfl) ?_
          refine sq_cons ⟨_, [(.t 94, sV t13)]⟩ (v_move (.inl rfl) trivial rfl (ble _ _ rfl) rfl) ?_
          refine sq_cons ⟨_, [(.t 95, .d (.dp (List.drop 7 (eRequest t2))))]⟩ (v_field_dp (a0 := 7) (cs := (eRequest t2)) rfl trivial rfl (ble _ _ rfl) fo25_7 rfl) ?_
          refine sq_cons ⟨_, [(.t 96, .d (.agg (eStamp t2.mAt)))]⟩ (w_ldp (List.drop 7 (eRequest t2)) (eStamp t2.mAt) rfl trivial rfl (ble _ _ rfl) ag23 rfl (ble _ _ rfl) rfl) ?_
          refine sq_cons ⟨_, [(.t 97, .d (.dp (List.drop 11 (eRequest t2))))]⟩ (v_field_dp (a0 := 11) (cs := (eRequest t2)) rfl trivial rfl (ble _ _ rfl) fo25_9 rfl) ?_
          refine sq_cons ⟨_, [(.t 98, iV t2.mLimit)]⟩ (v_load_dp1 rfl trivial rfl (ble _ _ rfl) onT3 rfl rfl) ?_
          obtain ⟨⟨t99a, t99b, t99c⟩, c41, h⟩ := bpos h
          refine sq_cons ⟨_, [(.t 99, .tup [.d (.sl 2 (t99a.map eItem)), sV t99b, bV t99c])]⟩ (w_call (ds := [(.sl 2 (t1.mEntries.map eEntry)), (.s (.string t2.mKey)), (.s (.string t13)), (.agg (eStamp t2.mAt)), (.s (.int .i64 t2.mLimit))]) (caps := []) (l := [(.sl 2 (t99a.map eItem)), (.s (.string t99b)), (.s (.bool t99c))]) (s50 k t1.mEntries t2.mKey t13 t2.mAt t2.mLimit _ c41) rfl rfl rfl en50 trivial rfl (ble _ _ rfl) (.inl ⟨rfl, rfl⟩) rfl rfl) ?_
          refine sq_cons ⟨_, [(.t 89, .tup [.d (.sl 2 (t99a.map eItem)), sV t99b, bV t99c])]⟩ (v_move (.inl rfl) trivial rfl (ble _ _ rfl) rfl) ?_
          refine sq_cons ⟨_, [(.t 100, .d (.sl 2 (t99a.map eItem)))]⟩ (v_extract rfl trivial rfl (ble _ _ rfl) rfl rfl) ?_
          refine sq_cons ⟨_, [(.t 101, sV t99b)]⟩ (v_extract rfl trivial rfl (ble _ _ rfl) rfl rfl) ?_
          refine sq_cons ⟨_, [(.t 102, bV t99c)]⟩ (v_extract rfl trivial rfl (ble _ _ rfl) rfl rfl) ?_
          refine sq_cons ⟨_, [(.t 103, .ptr 10 6)]⟩ (v_field_box (off := 0) (a0 := 6) rfl trivial rfl (ble _ _ rfl) fo35_4 rfl) ?_
          refine sq_cons _ (v_store_box (id := 10) (off := 6) (cs := [(.sl 2 (t99a.map eItem))].map V.d) rfl trivial rfl sz33 rfl rfl rfl rfl (ones_of rfl) (ble _ _ rfl)) ?_
          refine sq_cons ⟨_, [(.t 104, .ptr 10 7)]⟩ (v_field_box (off := 0) (a0 := 7) rfl trivial rfl (ble _ _ rfl) fo35_5 rfl) ?_
          refine sq_cons _ (v_store_box (id := 10) (off := 7) (cs := [(.s (.string t99b))].map V.d) rfl trivial rfl sz9 rfl rfl rfl rfl (ones_of rfl) (ble _ _ rfl)) ?_
          refine sq_cons ⟨_, [(.t 105, .ptr 10 8)]⟩ (v_field_box (off := 0) (a0 := 8) rfl trivial rfl (ble _ _ rfl) fo35_6 rfl) ?_
          refine sq_cons _ (v_store_box (id := 10) (off := 8) (cs := [(.s (.bool t99c))].map V.d) rfl trivial rfl sz4 rfl rfl rfl rfl (ones_of rfl) (ble _ _ rfl)) ?_
          refine sq_nil ?_
          refine ht_seq ?_
          refine ht_seq ?_
          refine ht_region ?_
          refine sq_cons ⟨_, [(.t 106, bV ((!strEq t1.mSpan.mHi (⟨#[]⟩ : ByteArray)) && ((strEq t2.mHi (⟨#[]⟩ : ByteArray)) || (ltI t81 0))))]⟩ (v_move (.inl rfl) trivial rfl (ble _ _ rfl) rfl) ?_
          refine sq_cons ⟨_, [(.t 107, bV ((!strEq t1.mSpan.mHi (⟨#[]⟩ : ByteArray)) && ((strEq t2.mHi (⟨#[]⟩ : ByteArray)) || (ltI t81 0))))]⟩ (v_move (.inl rfl) trivial rfl (ble _ _ rfl) rfl) ?_
          refine sq_cons ⟨_, [(.t 108, mg ((!strEq t1.mSpan.mHi (⟨#[]⟩ : ByteArray)) && ((strEq t2.mHi (⟨#[]⟩ : ByteArray)) || (ltI t81 0))) (.ptr 10 8))]⟩ (v_cT rfl rfl rfl (ble _ _ rfl) rfl fun e42 => (v_field_box (off := 0) (a0 := 8) rfl ⟨_, rfl, be e42⟩ rfl (ble _ _ rfl) fo35_6 rfl)) ?_
          refine sq_cons ⟨_, [(.t 109, mg ((!strEq t1.mSpan.mHi (⟨#[]⟩ : ByteArray)) && ((strEq t2.mHi (⟨#[]⟩ : ByteArray)) || (ltI t81 0))) (bV t99c))]⟩ (v_cT rfl rfl rfl (ble _ _ rfl) rfl fun e43 => (v_load_box1 (id := 10) (off := 8) rfl ⟨_, rfl, be e43⟩ rfl (ble _ _ rfl) onT4 (gv e43) rfl (ble _ _ rfl) rfl)) ?_
          refine sq_cons ⟨_, [(.t 110, mg ((!strEq t1.mSpan.mHi (⟨#[]⟩ : ByteArray)) && ((strEq t2.mHi (⟨#[]⟩ : ByteArray)) || (ltI t81 0))) (bV (!t99c)))]⟩ (v_cT rfl rfl rfl (ble _ _ rfl) rfl fun e44 => (v_un rfl ⟨_, rfl, be e44⟩ rfl (ble _ _ rfl) (gv e44) (u_not rfl))) ?_
          refine sq_cons ⟨_, [(.t 111, bV (((!strEq t1.mSpan.mHi (⟨#[]⟩ : ByteArray)) && ((strEq t2.mHi (⟨#[]⟩ : ByteArray)) || (ltI t81 0))) && (!t99c)))]⟩ (v_pickB rfl trivial rfl (ble _ _ rfl) rfl (fun e45 => (gv e45)) (fun e46 => rfl) (pA _ _)) ?_
          refine sq_nil ?_
          refine ht_cond (b := (((!strEq t1.mSpan.mHi (⟨#[]⟩ : ByteArray)) && ((strEq t2.mHi (⟨#[]⟩ : ByteArray)) || (ltI t81 0))) && (!t99c))) rfl (fun e47 => ?_) (fun e47 => ?_)
          · replace h := cpos e47 h
            refine ht_region ?_
            refine sq_cons ⟨_, [(.t 112, sV t13)]⟩ (v_move (.inl rfl) trivial rfl (ble _ _ rfl) rfl) ?_
            refine sq_cons ⟨_, [(.t 113, .ptr 10 7)]⟩ (v_field_box (off := 0) (a0 := 7) rfl trivial rfl (ble _ _ rfl) fo35_5 rfl) ?_
            refine sq_cons _ (v_store_box (id := 10) (off := 7) (cs := [(.s (.string t13))].map V.d) rfl trivial rfl sz9 rfl rfl rfl rfl (ones_of rfl) (ble _ _ rfl)) ?_
            refine sq_cons ⟨_, [(.t 114, .ptr 10 8)]⟩ (v_field_box (off := 0) (a0 := 8) rfl trivial rfl (ble _ _ rfl) fo35_6 rfl) ?_
            refine sq_cons _ (v_store_box (id := 10) (off := 8) (cs := [(.s (.bool true))].map V.d) rfl trivial rfl sz4 rfl rfl rfl rfl (ones_of rfl) (ble _ _ rfl)) ?_
            refine sq_nil ?_
            refine ht_seq ?_
            refine ht_region_draw mixed ?_
            refine rg_cons ⟨_, [(.t 115, .d (.agg (eCell ({t0 with mTop := t37}))))]⟩ (w_ldb 4 0 rfl trivial rfl (ble _ _ rfl) ag30 rfl rfl (ble _ _ rfl) rfl) ?_
            refine rg_cons ⟨_, [(.t 116, .d (.agg (eAnswer (⟨0, t2.mAt, false, (⟨#[]⟩ : ByteArray), t99a, t13, true⟩ : Answer))))]⟩ (w_ldb 10 0 rfl trivial rfl (ble _ _ rfl) ag35 rfl rfl (ble _ _ rfl) rfl) ?_
            refine rg_cons _ (v_store_box (id := 8) (off := 0) (cs := (eCell ({t0 with mTop := t37})).map V.d) rfl trivial rfl sz30 rfl rfl rfl rfl (ones_of rfl) (ble _ _ rfl)) ?_
            refine rg_cons _ (v_store_box (id := 9) (off := 0) (cs := (eAnswer (⟨0, t2.mAt, false, (⟨#[]⟩ : ByteArray), t99a, t13, true⟩ : Answer)).map V.d) rfl trivial rfl sz35 rfl rfl rfl rfl (ones_of rfl) (ble _ _ rfl)) ?_
            refine rg_nil ⟨by kernel_rfl, ?_⟩
            refine ht_ret ?_
            cases h
            exact ret2 rfl (.cell rfl rfl ag30 (ble _ _ rfl) rfl) (.cell rfl rfl ag35 (ble _ _ rfl) rfl)
          · replace h := cneg e47 h
            refine ht_skip ?_
            refine ht_seq ?_
            refine ht_region_draw mixed ?_
            refine rg_cons ⟨_, [(.t 115, .d (.agg (eCell ({t0 with mTop := t37}))))]⟩ (w_ldb 4 0 rfl trivial rfl (ble _ _ rfl) ag30 rfl rfl (ble _ _ rfl) rfl) ?_
            refine rg_cons ⟨_, [(.t 116, .d (.agg (eAnswer (⟨0, t2.mAt, false, (⟨#[]⟩ : ByteArray), t99a, t99b, t99c⟩ : Answer))))]⟩ (w_ldb 10 0 rfl trivial rfl (ble _ _ rfl) ag35 rfl rfl (ble _ _ rfl) rfl) ?_
            refine rg_cons _ (v_store_box (id := 8) (off := 0) (cs := (eCell ({t0 with mTop := t37})).map V.d) rfl trivial rfl sz30 rfl rfl rfl rfl (ones_of rfl) (ble _ _ rfl)) ?_
            refine rg_cons _ (v_store_box (id := 9) (off := 0) (cs := (eAnswer (⟨0, t2.mAt, false, (⟨#[]⟩ : ByteArray), t99a, t99b, t99c⟩ : Answer)).map V.d) rfl trivial rfl sz35 rfl rfl rfl rfl (ones_of rfl) (ble _ _ rfl)) ?_
            refine rg_nil ⟨by kernel_rfl, ?_⟩
            refine ht_ret ?_
            cases h
            exact ret2 rfl (.cell rfl rfl ag30 (ble _ _ rfl) rfl) (.cell rfl rfl ag35 (ble _ _ rfl) rfl)
        · refine ht_seq ?_
          refine ht_region ?_
          refine sq_cons ⟨_, [(.t 85, bV ((!strEq t1.mSpan.mHi (⟨#[]⟩ : ByteArray)) && ((strEq t2.mHi (⟨#[]⟩ : ByteArray)) || (ltI t81 0))))]⟩ (v_move (.inl rfl) trivial rfl (ble _ _ rfl) rfl) ?_
          refine sq_nil ?_
          refine ht_cond (b := ((!strEq t1.mSpan.mHi (⟨#[]⟩ : ByteArray)) && ((strEq t2.mHi (⟨#[]⟩ : ByteArray)) || (ltI t81 0)))) rfl (fun e40 => ?_) (fun e40 => ?_)
          · replace h := cpos e40 h
            refine ht_region ?_
            refine sq_cons ⟨_, [(.t 86, .d (.dp (List.drop 2 (eShard t1))))]⟩ (v_field_dp (a0 := 2) (cs := (eShard t1)) rfl trivial rfl (ble _ _ rfl) fo50_2 rfl) ?_
            refine sq_cons ⟨_, [(.t 87, .d (.dp (List.drop 3 (eShard t1))))]⟩ (v_field_dp (a0 := 1) (cs := (List.drop 2 (eShard t1))) rfl trivial rfl (ble _ _ rfl) fo46_1 rfl) ?_
            refine sq_cons ⟨_, [(.t 88, sV t1.mSpan.mHi)]⟩ (v_load_dp1 rfl trivial rfl (ble _ _ rfl) onT9 rfl rfl) ?_
            refine sq_cons ⟨_, [(.t 13, sV t1.mSpan.mHi)]⟩ (v_move (.inr rfl) trivial rfl (ble _ _ rfl) rfl) ?_
            refine sq_nil ?_
            cases h
            exact j38 _ (wk_ren _ (fun i => i) rfl ⟨rfl, rfl, rfl, rfl, rfl, rfl, rfl, rfl, rfl, rfl, rfl, rfl, rfl, rfl, rfl, rfl, rfl, rfl, rfl, rfl, rfl, rfl, rfl, rfl, rfl, rfl, rfl, rfl, rfl, rfl, rfl, rfl, rfl, rfl, rfl, rfl, rfl, rfl, rfl, rfl, trivial⟩)
          · replace h := cneg e40 h
            refine ht_skip ?_
            cases h
            exact j38 _ (wk_ren _ (fun i => i) rfl ⟨rfl, rfl, rfl, rfl, rfl, rfl, rfl, rfl, rfl, rfl, rfl, rfl, rfl, rfl, rfl, rfl, rfl, rfl, rfl, rfl, rfl, rfl, rfl, rfl, rfl, rfl, rfl, rfl, rfl, rfl, rfl, rfl, rfl, rfl, rfl, rfl, rfl, rfl, rfl, rfl, trivial⟩)
set_option maxRecDepth 100000 in
set_option maxHeartbeats 4000000 in
theorem s9 (k : Nat) (t0 : Cell) (t1 : Int) (t2 : Int) (t3 : Request) (t4 : Stamp) (t5 : Int) (r : Cell × Answer) (h : F9 k t0 t1 t2 t3 t4 t5 = some r) : Awp.Spec Tryd.prog amb 9 [(.agg (eCell t0)), (.s (.int .i64 t1)), (.s (.int .i64 t2)), (.agg (eRequest t3)), (.agg (eStamp t4)), (.s (.int .i64 t5))] (.ds [(.agg (eCell r.1)), (.agg (eAnswer r.2))]) := by
  rw [F9] at h
  refine spec_of Tryd.func9 rfl (ble _ _ rfl) fun w0 ok0 lt0 hA => ?_
  refine ht_seq ?_
  refine ht_region ?_
  refine sq_cons ⟨_, [(.t 6, .d (.dp (eCell t0)))]⟩ (v_box_d (cs := (eCell t0)) rfl trivial rfl (ble _ _ rfl) rfl rfl (ones_of rfl)) ?_
  refine sq_cons ⟨_, [(.t 9, .d (.dp (eRequest t3)))]⟩ (v_box_d (cs := (eRequest t3)) rfl trivial rfl (ble _ _ rfl) rfl rfl (ones_of rfl)) ?_
  refine sq_cons ⟨_, [(.t 10, .d (.dp (eStamp t4)))]⟩ (v_box_d (cs := (eStamp t4)) rfl trivial rfl (ble _ _ rfl) rfl rfl (ones_of rfl)) ?_
  refine sq_cons _ (v_alloc (id := 12) (cs := zc30) rfl trivial rfl (ble _ _ rfl) zu30 rfl ft30 rfl) ?_
  refine sq_cons _ (v_alloc (id := 13) (cs := zc35) rfl trivial rfl (ble _ _ rfl) zu35 rfl ft35 rfl) ?_
  refine sq_nil ?_
  refine ht_seq ?_
  refine ht_seq ?_
  refine ht_region ?_
  refine sq_cons ⟨_, [(.t 16, .d (.agg (eCell t0)))]⟩ (w_ldp (eCell t0) (eCell t0) rfl trivial rfl (ble _ _ rfl) ag30 rfl (ble _ _ rfl) rfl) ?_
  obtain ⟨t17, c1, h⟩ := bpos h
  refine sq_cons ⟨_, [(.t 17, bV t17)]⟩ (w_call (ds := [(.agg (eCell t0))]) (caps := []) (l := [(.s (.bool t17))]) (s19 k t0 _ c1) rfl rfl rfl en19 trivial rfl (ble _ _ rfl) (.inl ⟨rfl, rfl⟩) rfl rfl) ?_
  refine sq_cons ⟨_, [(.t 18, bV (!t17))]⟩ (v_un rfl trivial rfl (ble _ _ rfl) rfl (u_not rfl)) ?_
  refine sq_cons ⟨_, [(.t 19, bV (!t17))]⟩ (v_move (.inl rfl) trivial rfl (ble _ _ rfl) rfl) ?_
  refine sq_cons ⟨_, [(.t 20, mg (!(!t17)) (iV t1))]⟩ (v_cF rfl rfl rfl (ble _ _ rfl) rfl fun e2 => (v_move (.inl rfl) ⟨_, rfl, be e2⟩ rfl (ble _ _ rfl) rfl)) ?_
  refine sq_cons ⟨_, [(.t 21, mg (!(!t17)) (iV t2))]⟩ (v_cF rfl rfl rfl (ble _ _ rfl) rfl fun e3 => (v_move (.inl rfl) ⟨_, rfl, be e3⟩ rfl (ble _ _ rfl) rfl)) ?_
  refine sq_cons ⟨_, [(.t 22, mg (!(!t17)) (.d (.sl 1 (([t1, t2]).map (eI .i64)))))]⟩ (v_cF rfl rfl rfl (ble _ _ rfl) rfl fun e4 => (w_bsl_d [(0, iV t1), (1, iV t2)] [t1, t2] (eI .i64) rfl ⟨_, rfl, be e4⟩ rfl (ble _ _ rfl) slT61 zr3 (encI .i64) (ble _ _ rfl) (cc (pr (gv (nF e4))) (cc (pr (gv (nF e4))) rfl)) (by kernel_rfl) rfl rfl (by kernel_rfl))) ?_
  obtain ⟨t23, c6, h⟩ := bpos h
  refine sq_cons ⟨_, [(.t 23, mg (!(!t17)) (bV t23))]⟩ (v_cF rfl rfl rfl (ble _ _ rfl) rfl fun e5 => (w_call (ds := [(.s (.int .i64 1)), (.sl 1 (([t1, t2]).map (eI .i64)))]) (caps := []) (l := [(.s (.bool t23))]) (s12 k 1 ([t1, t2]) _ (cpos (nF e5) c6)) rfl rfl rfl en12 ⟨_, rfl, be e5⟩ rfl (ble _ _ rfl) (.inl ⟨rfl, rfl⟩) (cc rfl (cc (gv (nF e5)) rfl)) rfl)) ?_
  refine sq_cons ⟨_, [(.t 24, mg (!(!t17)) (bV (!t23)))]⟩ (v_cF rfl rfl rfl (ble _ _ rfl) rfl fun e7 => (v_un rfl ⟨_, rfl, be e7⟩ rfl (ble _ _ rfl) (gv (nF e7)) (u_not rfl))) ?_
  refine sq_cons ⟨_, [(.t 25, bV ((!t17) || (!t23)))]⟩ (v_pickB rfl trivial rfl (ble _ _ rfl) rfl (fun e8 => rfl) (fun e9 => (gv (nF e9))) (pO _ _)) ?_
  refine sq_cons ⟨_, [(.t 26, bV ((!t17) || (!t23)))]⟩ (v_move (.inl rfl) trivial rfl (ble _ _ rfl) rfl) ?_
  refine sq_cons ⟨_, [(.t 27, mg (!((!t17) || (!t23))) (iV t5))]⟩ (v_cF rfl rfl rfl (ble _ _ rfl) rfl fun e10 => (v_move (.inl rfl) ⟨_, rfl, be e10⟩ rfl (ble _ _ rfl) rfl)) ?_
  refine sq_cons ⟨_, [(.t 28, mg (!((!t17) || (!t23))) (.d (.sl 1 (([t5]).map (eI .i64)))))]⟩ (v_cF rfl rfl rfl (ble _ _ rfl) rfl fun e11 => (w_bsl_d [(0, iV t5)] [t5] (eI .i64) rfl ⟨_, rfl, be e11⟩ rfl (ble _ _ rfl) slT61 zr3 (encI .i64) (ble _ _ rfl) (cc (pr (gv (nF e11))) rfl) (by kernel_rfl) rfl rfl (by kernel_rfl))) ?_
  obtain ⟨t29, c13, h⟩ := bpos h
  refine sq_cons ⟨_, [(.t 29, mg (!((!t17) || (!t23))) (bV t29))]⟩ (v_cF rfl rfl rfl (ble _ _ rfl) rfl fun e12 => (w_call (ds := [(.s (.int .i64 0)), (.sl 1 (([t5]).map (eI .i64)))]) (caps := []) (l := [(.s (.bool t29))]) (s12 k 0 ([t5]) _ (cpos (nF e12) c13)) rfl rfl rfl en12 ⟨_, rfl, be e12⟩ rfl (ble _ _ rfl) (.inl ⟨rfl, rfl⟩) (cc rfl (cc (gv (nF e12)) rfl)) rfl)) ?_
  refine sq_cons ⟨_, [(.t 30, mg (!((!t17) || (!t23))) (bV (!t29)))]⟩ (v_cF rfl rfl rfl (ble _ _ rfl) rfl fun e14 => (v_un rfl ⟨_, rfl, be e14⟩ rfl (ble _ _ rfl) (gv (nF e14)) (u_not rfl))) ?_
  refine sq_cons ⟨_, [(.t 31, bV (((!t17) || (!t23)) || (!t29)))]⟩ (v_pickB rfl trivial rfl (ble _ _ rfl) rfl (fun e15 => rfl) (fun e16 => (gv (nF e16))) (pO _ _)) ?_
  refine sq_cons ⟨_, [(.t 32, bV (((!t17) || (!t23)) || (!t29)))]⟩ (v_move (.inl rfl) trivial rfl (ble _ _ rfl) rfl) ?_
  refine sq_cons ⟨_, [(.t 33, mg (!(((!t17) || (!t23)) || (!t29))) (.d (.agg (eStamp t4))))]⟩ (v_cF rfl rfl rfl (ble _ _ rfl) rfl fun e17 => (w_ldp (eStamp t4) (eStamp t4) rfl ⟨_, rfl, be e17⟩ rfl (ble _ _ rfl) ag23 rfl (ble _ _ rfl) rfl)) ?_
  obtain ⟨t34, c19, h⟩ := bpos h
  refine sq_cons ⟨_, [(.t 34, mg (!(((!t17) || (!t23)) || (!t29))) (bV t34))]⟩ (v_cF rfl rfl rfl (ble _ _ rfl) rfl fun e18 => (w_call (ds := [(.agg (eStamp t4))]) (caps := []) (l := [(.s (.bool t34))]) (s13 k t4 _ (cpos (nF e18) c19)) rfl rfl rfl en13 ⟨_, rfl, be e18⟩ rfl (ble _ _ rfl) (.inl ⟨rfl, rfl⟩) (cc (gv (nF e18)) rfl) rfl)) ?_
  refine sq_cons ⟨_, [(.t 35, mg (!(((!t17) || (!t23)) || (!t29))) (bV (!t34)))]⟩ (v_cF rfl rfl rfl (ble _ _ rfl) rfl fun e20 => (v_un rfl ⟨_, rfl, be e20⟩ rfl (ble _ _ rfl) (gv (nF e20)) (u_not rfl))) ?_
  refine sq_cons ⟨_, [(.t 36, bV ((((!t17) || (!t23)) || (!t29)) || (!t34)))]⟩ (v_pickB rfl trivial rfl (ble _ _ rfl) rfl (fun e21 => rfl) (fun e22 => (gv (nF e22))) (pO _ _)) ?_
  refine sq_cons ⟨_, [(.t 37, bV ((((!t17) || (!t23)) || (!t29)) || (!t34)))]⟩ (v_move (.inl rfl) trivial rfl (ble _ _ rfl) rfl) ?_
  refine sq_cons ⟨_, [(.t 38, mg (!((((!t17) || (!t23)) || (!t29)) || (!t34))) (.d (.agg (eRequest t3))))]⟩ (v_cF rfl rfl rfl (ble _ _ rfl) rfl fun e23 => (w_ldp (eRequest t3) (eRequest t3) rfl ⟨_, rfl, be e23⟩ rfl (ble _ _ rfl) ag25 rfl (ble _ _ rfl) rfl)) ?_
  obtain ⟨t39, c25, h⟩ := bpos h
  refine sq_cons ⟨_, [(.t 39, mg (!((((!t17) || (!t23)) || (!t29)) || (!t34))) (bV t39))]⟩ (v_cF rfl rfl rfl (ble _ _ rfl) rfl fun e24 => (w_call (ds := [(.agg (eRequest t3))]) (caps := []) (l := [(.s (.bool t39))]) (s5 k t3 _ (cpos (nF e24) c25)) rfl rfl rfl en5 ⟨_, rfl, be e24⟩ rfl (ble _ _ rfl) (.inl ⟨rfl, rfl⟩) (cc (gv (nF e24)) rfl) rfl)) ?_
  refine sq_cons ⟨_, [(.t 40, mg (!((((!t17) || (!t23)) || (!t29)) || (!t34))) (bV (!t39)))]⟩ (v_cF rfl rfl rfl (ble _ _ rfl) rfl fun e26 => (v_un rfl ⟨_, rfl, be e26⟩ rfl (ble _ _ rfl) (gv (nF e26)) (u_not rfl))) ?_
  refine sq_cons ⟨_, [(.t 41, bV (((((!t17) || (!t23)) || (!t29)) || (!t34)) || (!t39)))]⟩ (v_pickB rfl trivial rfl (ble _ _ rfl) rfl (fun e27 => rfl) (fun e28 => (gv (nF e28))) (pO _ _)) ?_
  refine sq_nil ?_
  refine ht_cond (b := (((((!t17) || (!t23)) || (!t29)) || (!t34)) || (!t39))) rfl (fun e29 => ?_) (fun e29 => ?_)
  · replace h := cpos e29 h
    refine ht_seq ?_
    refine ht_region_draw mixed ?_
    refine rg_cons ⟨_, [(.t 42, .d (.agg (eCell t0)))]⟩ (w_ldp (eCell t0) (eCell t0) rfl trivial rfl (ble _ _ rfl) ag30 rfl (ble _ _ rfl) rfl) ?_
    obtain ⟨t43, c30, h⟩ := bpos h
    refine rg_cons ⟨_, [(.t 43, .d (.agg (eAnswer t43)))]⟩ (w_call (ds := [(.s (.int .i64 1))]) (caps := []) (l := [(.agg (eAnswer t43))]) (s21 k 1 _ c30) rfl rfl rfl en21 trivial rfl (ble _ _ rfl) (.inl ⟨rfl, rfl⟩) rfl rfl) ?_
    refine rg_cons _ (v_store_box (id := 12) (off := 0) (cs := (eCell t0).map V.d) rfl trivial rfl sz30 rfl rfl rfl rfl (ones_of rfl) (ble _ _ rfl)) ?_
    refine rg_cons _ (v_store_box (id := 13) (off := 0) (cs := (eAnswer t43).map V.d) rfl trivial rfl sz35 rfl rfl rfl rfl (ones_of rfl) (ble _ _ rfl)) ?_
    refine rg_nil ⟨by kernel_rfl, ?_⟩
    refine ht_ret ?_
    cases h
    exact ret2 rfl (.cell rfl rfl ag30 (ble _ _ rfl) rfl) (.cell rfl rfl ag35 (ble _ _ rfl) rfl)
  · replace h := cneg e29 h
    refine ht_skip ?_
    refine ht_seq ?_
    refine ht_region ?_
    refine sq_cons ⟨_, [(.t 44, .d (.agg (eCell t0)))]⟩ (w_ldp (eCell t0) (eCell t0) rfl trivial rfl (ble _ _ rfl) ag30 rfl (ble _ _ rfl) rfl) ?_
    refine sq_cons ⟨_, [(.t 45, iV t1)]⟩ (v_move (.inl rfl) trivial rfl (ble _ _ rfl) rfl) ?_
    obtain ⟨t46, c31, h⟩ := bpos h
    refine sq_cons ⟨_, [(.t 46, .d (.agg (eShard t46)))]⟩ (w_call (ds := [(.agg (eCell t0)), (.s (.int .i64 t1))]) (caps := []) (l := [(.agg (eShard t46))]) (s22 k t0 t1 _ c31) rfl rfl rfl en22 trivial rfl (ble _ _ rfl) (.inl ⟨rfl, rfl⟩) rfl rfl) ?_
    refine sq_cons _ (v_alloc (id := 14) (cs := zc50) rfl trivial rfl (ble _ _ rfl) zu50 rfl ft50 rfl) ?_
    refine sq_cons _ (v_store_box (id := 14) (off := 0) (cs := (eShard t46).map V.d) rfl trivial rfl sz50 rfl rfl rfl rfl (ones_of rfl) (ble _ _ rfl)) ?_
    refine sq_nil ?_
    refine ht_seq ?_
    refine ht_region ?_
    refine sq_cons ⟨_, [(.t 47, .d (.dp (List.drop 3 (eRequest t3))))]⟩ (v_field_dp (a0 := 3) (cs := (eRequest t3)) rfl trivial rfl (ble _ _ rfl) fo25_3 rfl) ?_
    refine sq_cons ⟨_, [(.t 48, sV t3.mKey)]⟩ (v_load_dp1 rfl trivial rfl (ble _ _ rfl) onT9 rfl rfl) ?_
    refine sq_cons ⟨_, [(.t 49, bV (strEq t3.mKey (⟨#[]⟩ : ByteArray)))]⟩ (v_bin rfl trivial rfl (ble _ _ rfl) rfl rfl (b_eqS rfl)) ?_
    refine sq_cons ⟨_, [(.t 50, bV (strEq t3.mKey (⟨#[]⟩ : ByteArray)))]⟩ (v_move (.inl rfl) trivial rfl (ble _ _ rfl) rfl) ?_
    refine sq_cons ⟨_, [(.t 51, mg (strEq t3.mKey (⟨#[]⟩ : ByteArray)) (.ptr 14 2))]⟩ (v_cT rfl rfl rfl (ble _ _ rfl) rfl fun e32 => (v_field_box (off := 0) (a0 := 2) rfl ⟨_, rfl, be e32⟩ rfl (ble _ _ rfl) fo50_2 rfl)) ?_
    refine sq_cons ⟨_, [(.t 52, mg (strEq t3.mKey (⟨#[]⟩ : ByteArray)) (.ptr 14 2))]⟩ (v_cT rfl rfl rfl (ble _ _ rfl) rfl fun e33 => (v_field_box (off := 2) (a0 := 0) rfl ⟨_, rfl, be e33⟩ rfl (ble _ _ rfl) fo46_0 (gv e33))) ?_
    refine sq_cons ⟨_, [(.t 53, mg (strEq t3.mKey (⟨#[]⟩ : ByteArray)) (sV t46.mSpan.mLo))]⟩ (v_cT rfl rfl rfl (ble _ _ rfl) rfl fun e34 => (v_load_box1 (id := 14) (off := 2) rfl ⟨_, rfl, be e34⟩ rfl (ble _ _ rfl) onT9 (gv e34) rfl (ble _ _ rfl) rfl)) ?_
    refine sq_cons ⟨_, [(.t 54, mg (strEq t3.mKey (⟨#[]⟩ : ByteArray)) (bV (strEq t46.mSpan.mLo (⟨#[]⟩ : ByteArray))))]⟩ (v_cT rfl rfl rfl (ble _ _ rfl) rfl fun e35 => (v_bin rfl ⟨_, rfl, be e35⟩ rfl (ble _ _ rfl) (gv e35) rfl (b_eqS rfl))) ?_
    refine sq_cons ⟨_, [(.t 55, bV ((strEq t3.mKey (⟨#[]⟩ : ByteArray)) && (strEq t46.mSpan.mLo (⟨#[]⟩ : ByteArray))))]⟩ (v_pickB rfl trivial rfl (ble _ _ rfl) rfl (fun e36 => (gv e36)) (fun e37 => rfl) (pA _ _)) ?_
    refine sq_cons ⟨_, [(.t 56, bV ((strEq t3.mKey (⟨#[]⟩ : ByteArray)) && (strEq t46.mSpan.mLo (⟨#[]⟩ : ByteArray))))]⟩ (v_move (.inl rfl) trivial rfl (ble _ _ rfl) rfl) ?_
    refine sq_cons ⟨_, [(.t 57, mg (!((strEq t3.mKey (⟨#[]⟩ : ByteArray)) && (strEq t46.mSpan.mLo (⟨#[]⟩ : ByteArray)))) (.ptr 14 2))]⟩ (v_cF rfl rfl rfl (ble _ _ rfl) rfl fun e38 => (v_field_box (off := 0) (a0 := 2) rfl ⟨_, rfl, be e38⟩ rfl (ble _ _ rfl) fo50_2 rfl)) ?_
    refine sq_cons ⟨_, [(.t 58, mg (!((strEq t3.mKey (⟨#[]⟩ : ByteArray)) && (strEq t46.mSpan.mLo (⟨#[]⟩ : ByteArray)))) (.d (.agg (eSpan t46.mSpan))))]⟩ (v_cF rfl rfl rfl (ble _ _ rfl) rfl fun e39 => (w_ldb 14 2 rfl ⟨_, rfl, be e39⟩ rfl (ble _ _ rfl) ag46 (gv (nF e39)) rfl (ble _ _ rfl) rfl)) ?_
    refine sq_cons ⟨_, [(.t 59, mg (!((strEq t3.mKey (⟨#[]⟩ : ByteArray)) && (strEq t46.mSpan.mLo (⟨#[]⟩ : ByteArray)))) (.d (.dp (List.drop 3 (eRequest t3)))))]⟩ (v_cF rfl rfl rfl (ble _ _ rfl) rfl fun e40 => (v_field_dp (a0 := 3) (cs := (eRequest t3)) rfl ⟨_, rfl, be e40⟩ rfl (ble _ _ rfl) fo25_3 rfl)) ?_
    refine sq_cons ⟨_, [(.t 60, mg (!((strEq t3.mKey (⟨#[]⟩ : ByteArray)) && (strEq t46.mSpan.mLo (⟨#[]⟩ : ByteArray)))) (sV t3.mKey))]⟩ (v_cF rfl rfl rfl (ble _ _ rfl) rfl fun e41 => (v_load_dp1 rfl ⟨_, rfl, be e41⟩ rfl (ble _ _ rfl) onT9 (gv (nF e41)) rfl)) ?_
    obtain ⟨t61, c43, h⟩ := bpos h
    refine sq_cons ⟨_, [(.t 61, mg (!((strEq t3.mKey (⟨#[]⟩ : ByteArray)) && (strEq t46.mSpan.mLo (⟨#[]⟩ : ByteArray)))) (bV t61))]⟩ (v_cF rfl rfl rfl (ble _ _ rfl) rfl fun e42 => (w_call (ds := [(.agg (eSpan t46.mSpan)), (.s (.string t3.mKey))]) (caps := []) (l := [(.s (.bool t61))]) (s23 k t46.mSpan t3.mKey _ (cpos (nF e42) c43)) rfl rfl rfl en23 ⟨_, rfl, be e42⟩ rfl (ble _ _ rfl) (.inl ⟨rfl, rfl⟩) (cc (gv (nF e42)) (cc (gv (nF e42)) rfl)) rfl)) ?_
    refine sq_cons ⟨_, [(.t 62, bV (((strEq t3.mKey (⟨#[]⟩ : ByteArray)) && (strEq t46.mSpan.mLo (⟨#[]⟩ : ByteArray))) || t61))]⟩ (v_pickB rfl trivial rfl (ble _ _ rfl) rfl (fun e44 => rfl) (fun e45 => (gv (nF e45))) (pO _ _)) ?_
    refine sq_cons ⟨_, [(.t 15, bV (((strEq t3.mKey (⟨#[]⟩ : ByteArray)) && (strEq t46.mSpan.mLo (⟨#[]⟩ : ByteArray))) || t61))]⟩ (v_move (.inr rfl) trivial rfl (ble _ _ rfl) rfl) ?_
    refine sq_nil ?_
    refine ht_seq ?_
    refine ht_block ?_
    refine ht_seq ?_
    refine ht_region ?_
    refine sq_cons ⟨_, [(.t 64, .ptr 14 0)]⟩ (v_field_box (off := 0) (a0 := 0) rfl trivial rfl (ble _ _ rfl) fo50_0 rfl) ?_
    refine sq_cons ⟨_, [(.t 65, iV t46.mID)]⟩ (v_load_box1 (id := 14) (off := 0) rfl trivial rfl (ble _ _ rfl) onT3 rfl rfl (ble _ _ rfl) rfl) ?_
    refine sq_cons ⟨_, [(.t 66, bV (eqI t46.mID 0))]⟩ (v_bin rfl trivial rfl (ble _ _ rfl) rfl rfl (b_eql rfl)) ?_
    refine sq_cons ⟨_, [(.t 67, bV (eqI t46.mID 0))]⟩ (v_move (.inl rfl) trivial rfl (ble _ _ rfl) rfl) ?_
    refine sq_cons ⟨_, [(.t 68, mg (!(eqI t46.mID 0)) (.ptr 14 1))]⟩ (v_cF rfl rfl rfl (ble _ _ rfl) rfl fun e46 => (v_field_box (off := 0) (a0 := 1) rfl ⟨_, rfl, be e46⟩ rfl (ble _ _ rfl) fo50_1 rfl)) ?_
    refine sq_cons ⟨_, [(.t 69, mg (!(eqI t46.mID 0)) (iV t46.mEpoch))]⟩ (v_cF rfl rfl rfl (ble _ _ rfl) rfl fun e47 => (v_load_box1 (id := 14) (off := 1) rfl ⟨_, rfl, be e47⟩ rfl (ble _ _ rfl) onT3 (gv (nF e47)) rfl (ble _ _ rfl) rfl)) ?_
    refine sq_cons ⟨_, [(.t 70, mg (!(eqI t46.mID 0)) (iV t2))]⟩ (v_cF rfl rfl rfl (ble _ _ rfl) rfl fun e48 => (v_move (.inl rfl) ⟨_, rfl, be e48⟩ rfl (ble _ _ rfl) rfl)) ?_
    refine sq_cons ⟨_, [(.t 71, mg (!(eqI t46.mID 0)) (bV (!eqI t46.mEpoch t2)))]⟩ (v_cF rfl rfl rfl (ble _ _ rfl) rfl fun e49 => (v_bin rfl ⟨_, rfl, be e49⟩ rfl (ble _ _ rfl) (gv (nF e49)) (gv (nF e49)) (b_neq rfl))) ?_
    refine sq_cons ⟨_, [(.t 72, bV ((eqI t46.mID 0) || (!eqI t46.mEpoch t2)))]⟩ (v_pickB rfl trivial rfl (ble _ _ rfl) rfl (fun e50 => rfl) (fun e51 => (gv (nF e51))) (pO _ _)) ?_
    refine sq_cons ⟨_, [(.t 73, bV ((eqI t46.mID 0) || (!eqI t46.mEpoch t2)))]⟩ (v_move (.inl rfl) trivial rfl (ble _ _ rfl) rfl) ?_
    refine sq_cons ⟨_, [(.t 74, mg (!((eqI t46.mID 0) || (!eqI t46.mEpoch t2))) (bV (((strEq t3.mKey (⟨#[]⟩ : ByteArray)) && (strEq t46.mSpan.mLo (⟨#[]⟩ : ByteArray))) || t61)))]⟩ (v_cF rfl rfl rfl (ble _ _ rfl) rfl fun e52 => (v_move (.inl rfl) ⟨_, rfl, be e52⟩ rfl (ble _ _ rfl) rfl)) ?_
    refine sq_cons ⟨_, [(.t 75, mg (!((eqI t46.mID 0) || (!eqI t46.mEpoch t2))) (bV (!(((strEq t3.mKey (⟨#[]⟩ : ByteArray)) && (strEq t46.mSpan.mLo (⟨#[]⟩ : ByteArray))) || t61))))]⟩ (v_cF rfl rfl rfl (ble _ _ rfl) rfl fun e53 => (v_un rfl ⟨_, rfl, be e53⟩ rfl (ble _ _ rfl) (gv (nF e53)) (u_not rfl))) ?_
    refine sq_cons ⟨_, [(.t 76, bV (((eqI t46.mID 0) || (!eqI t46.mEpoch t2)) || (!(((strEq t3.mKey (⟨#[]⟩ : ByteArray)) && (strEq t46.mSpan.mLo (⟨#[]⟩ : ByteArray))) || t61))))]⟩ (v_pickB rfl trivial rfl (ble _ _ rfl) rfl (fun e54 => rfl) (fun e55 => (gv (nF e55))) (pO _ _)) ?_
    refine sq_cons ⟨_, [(.t 63, bV (((eqI t46.mID 0) || (!eqI t46.mEpoch t2)) || (!(((strEq t3.mKey (⟨#[]⟩ : ByteArray)) && (strEq t46.mSpan.mLo (⟨#[]⟩ : ByteArray))) || t61))))]⟩ (v_move (.inr rfl) trivial rfl (ble _ _ rfl) rfl) ?_
    refine sq_nil ?_
    refine ht_cond (b := (((eqI t46.mID 0) || (!eqI t46.mEpoch t2)) || (!(((strEq t3.mKey (⟨#[]⟩ : ByteArray)) && (strEq t46.mSpan.mLo (⟨#[]⟩ : ByteArray))) || t61)))) rfl (fun e56 => ?_) (fun e56 => ?_)
    · replace h := cpos e56 h
      refine ht_seq ?_
      refine ht_region_draw mixed ?_
      refine rg_cons ⟨_, [(.t 77, .d (.agg (eCell t0)))]⟩ (w_ldp (eCell t0) (eCell t0) rfl trivial rfl (ble _ _ rfl) ag30 rfl (ble _ _ rfl) rfl) ?_
      obtain ⟨t78, c57, h⟩ := bpos h
      refine rg_cons ⟨_, [(.t 78, .d (.agg (eAnswer t78)))]⟩ (w_call (ds := [(.s (.int .i64 10))]) (caps := []) (l := [(.agg (eAnswer t78))]) (s21 k 10 _ c57) rfl rfl rfl en21 trivial rfl (ble _ _ rfl) (.inl ⟨rfl, rfl⟩) rfl rfl) ?_
      refine rg_cons _ (v_store_box (id := 12) (off := 0) (cs := (eCell t0).map V.d) rfl trivial rfl sz30 rfl rfl rfl rfl (ones_of rfl) (ble _ _ rfl)) ?_
      refine rg_cons _ (v_store_box (id := 13) (off := 0) (cs := (eAnswer t78).map V.d) rfl trivial rfl sz35 rfl rfl rfl rfl (ones_of rfl) (ble _ _ rfl)) ?_
      refine rg_nil ⟨by kernel_rfl, ?_⟩
      refine ht_ret ?_
      cases h
      exact ret2 rfl (.cell rfl rfl ag30 (ble _ _ rfl) rfl) (.cell rfl rfl ag35 (ble _ _ rfl) rfl)
    · replace h := cneg e56 h
      refine ht_seq ?_
      refine ht_region ?_
      refine sq_cons ⟨_, [(.t 80, .ptr 14 4)]⟩ (v_field_box (off := 0) (a0 := 4) rfl trivial rfl (ble _ _ rfl) fo50_3 rfl) ?_
      refine sq_cons ⟨_, [(.t 81, iV t46.mPhase)]⟩ (v_load_box1 (id := 14) (off := 4) rfl trivial rfl (ble _ _ rfl) onT3 rfl rfl (ble _ _ rfl) rfl) ?_
      refine sq_cons ⟨_, [(.t 82, bV (!eqI t46.mPhase 1))]⟩ (v_bin rfl trivial rfl (ble _ _ rfl) rfl rfl (b_neq rfl)) ?_
      refine sq_cons ⟨_, [(.t 83, bV (!eqI t46.mPhase 1))]⟩ (v_move (.inl rfl) trivial rfl (ble _ _ rfl) rfl) ?_
      refine sq_cons ⟨_, [(.t 84, mg (!(!eqI t46.mPhase 1)) (.d (.agg (eRequest t3))))]⟩ (v_cF rfl rfl rfl (ble _ _ rfl) rfl fun e58 => (w_ldp (eRequest t3) (eRequest t3) rfl ⟨_, rfl, be e58⟩ rfl (ble _ _ rfl) ag25 rfl (ble _ _ rfl) rfl)) ?_
      obtain ⟨t85, c60, h⟩ := bpos h
      refine sq_cons ⟨_, [(.t 85, mg (!(!eqI t46.mPhase 1)) (bV t85))]⟩ (v_cF rfl rfl rfl (ble _ _ rfl) rfl fun e59 => (w_call (ds := [(.agg (eRequest t3))]) (caps := []) (l := [(.s (.bool t85))]) (s24 k t3 _ (cpos (nF e59) c60)) rfl rfl rfl en24 ⟨_, rfl, be e59⟩ rfl (ble _ _ rfl) (.inl ⟨rfl, rfl⟩) (cc (gv (nF e59)) rfl) rfl)) ?_
      refine sq_cons ⟨_, [(.t 86, mg (!(!eqI t46.mPhase 1)) (bV t85))]⟩ (v_cF rfl rfl rfl (ble _ _ rfl) rfl fun e61 => (v_move (.inl rfl) ⟨_, rfl, be e61⟩ rfl (ble _ _ rfl) (gv (nF e61)))) ?_
      refine sq_cons ⟨_, [(.t 87, mg ((!(!eqI t46.mPhase 1)) && t85) (.ptr 14 13))]⟩ (v_mT rfl rfl rfl (ble _ _ rfl) rfl fun e62 e63 => (v_field_box (off := 0) (a0 := 13) rfl ⟨_, rfl, bm e62 e63⟩ rfl (ble _ _ rfl) fo50_8 rfl)) ?_
      refine sq_cons ⟨_, [(.t 88, mg ((!(!eqI t46.mPhase 1)) && t85) (iV t46.mHold))]⟩ (v_mT rfl rfl rfl (ble _ _ rfl) rfl fun e64 e65 => (v_load_box1 (id := 14) (off := 13) rfl ⟨_, rfl, bm e64 e65⟩ rfl (ble _ _ rfl) onT3 (gv (aT e64 e65)) rfl (ble _ _ rfl) rfl)) ?_
      refine sq_cons ⟨_, [(.t 89, mg ((!(!eqI t46.mPhase 1)) && t85) (bV (!eqI t46.mHold 0)))]⟩ (v_mT rfl rfl rfl (ble _ _ rfl) rfl fun e66 e67 => (v_bin rfl ⟨_, rfl, bm e66 e67⟩ rfl (ble _ _ rfl) (gv (aT e66 e67)) rfl (b_neq rfl))) ?_
      refine sq_cons ⟨_, [(.t 90, mg (!(!eqI t46.mPhase 1)) (bV (t85 && (!eqI t46.mHold 0))))]⟩ (v_cF rfl rfl rfl (ble _ _ rfl) rfl fun e68 => (v_pickB rfl ⟨_, rfl, be e68⟩ rfl (ble _ _ rfl) (gv (nF e68)) (fun e69 => (gv (aT (nF e68) e69))) (fun e70 => rfl) (pA _ _))) ?_
      refine sq_cons ⟨_, [(.t 91, bV ((!eqI t46.mPhase 1) || (t85 && (!eqI t46.mHold 0))))]⟩ (v_pickB rfl trivial rfl (ble _ _ rfl) rfl (fun e71 => rfl) (fun e72 => (gv (nF e72))) (pO _ _)) ?_
      refine sq_cons ⟨_, [(.t 79, bV ((!eqI t46.mPhase 1) || (t85 && (!eqI t46.mHold 0))))]⟩ (v_move (.inr rfl) trivial rfl (ble _ _ rfl) rfl) ?_
      refine sq_nil ?_
      refine ht_cond (b := ((!eqI t46.mPhase 1) || (t85 && (!eqI t46.mHold 0)))) rfl (fun e73 => ?_) (fun e73 => ?_)
      · replace h := cpos e73 h
        refine ht_seq ?_
        refine ht_region_draw mixed ?_
        refine rg_cons ⟨_, [(.t 92, .d (.agg (eCell t0)))]⟩ (w_ldp (eCell t0) (eCell t0) rfl trivial rfl (ble _ _ rfl) ag30 rfl (ble _ _ rfl) rfl) ?_
        obtain ⟨t93, c74, h⟩ := bpos h
        refine rg_cons ⟨_, [(.t 93, .d (.agg (eAnswer t93)))]⟩ (w_call (ds := [(.s (.int .i64 11))]) (caps := []) (l := [(.agg (eAnswer t93))]) (s21 k 11 _ c74) rfl rfl rfl en21 trivial rfl (ble _ _ rfl) (.inl ⟨rfl, rfl⟩) rfl rfl) ?_
        refine rg_cons _ (v_store_box (id := 12) (off := 0) (cs := (eCell t0).map V.d) rfl trivial rfl sz30 rfl rfl rfl rfl (ones_of rfl) (ble _ _ rfl)) ?_
        refine rg_cons _ (v_store_box (id := 13) (off := 0) (cs := (eAnswer t93).map V.d) rfl trivial rfl sz35 rfl rfl rfl rfl (ones_of rfl) (ble _ _ rfl)) ?_
        refine rg_nil ⟨by kernel_rfl, ?_⟩
        refine ht_ret ?_
        cases h
        exact ret2 rfl (.cell rfl rfl ag30 (ble _ _ rfl) rfl) (.cell rfl rfl ag35 (ble _ _ rfl) rfl)
      · replace h := cneg e73 h
        refine ht_seq ?_
        refine ht_region ?_
        refine sq_cons ⟨_, [(.t 95, .d (.agg (eRequest t3)))]⟩ (w_ldp (eRequest t3) (eRequest t3) rfl trivial rfl (ble _ _ rfl) ag25 rfl (ble _ _ rfl) rfl) ?_
        obtain ⟨t96, c75, h⟩ := bpos h
        refine sq_cons ⟨_, [(.t 96, bV t96)]⟩ (w_call (ds := [(.agg (eRequest t3))]) (caps := []) (l := [(.s (.bool t96))]) (s24 k t3 _ c75) rfl rfl rfl en24 trivial rfl (ble _ _ rfl) (.inl ⟨rfl, rfl⟩) rfl rfl) ?_
        refine sq_cons ⟨_, [(.t 94, bV t96)]⟩ (v_move (.inr rfl) trivial rfl (ble _ _ rfl) rfl) ?_
        refine sq_nil ?_
        refine ht_cond (b := t96) rfl (fun e76 => ?_) (fun e76 => ?_)
        · replace h := cpos e76 h
          refine ht_seq ?_
          refine ht_region ?_
          refine sq_cons ⟨_, [(.t 97, .d (.agg (eCell t0)))]⟩ (w_ldp (eCell t0) (eCell t0) rfl trivial rfl (ble _ _ rfl) ag30 rfl (ble _ _ rfl) rfl) ?_
          refine sq_cons ⟨_, [(.t 98, .d (.agg (eShard t46)))]⟩ (w_ldb 14 0 rfl trivial rfl (ble _ _ rfl) ag50 rfl rfl (ble _ _ rfl) rfl) ?_
          refine sq_cons ⟨_, [(.t 99, .d (.agg (eRequest t3)))]⟩ (w_ldp (eRequest t3) (eRequest t3) rfl trivial rfl (ble _ _ rfl) ag25 rfl (ble _ _ rfl) rfl) ?_
          refine sq_cons ⟨_, [(.t 100, .d (.agg (eStamp t4)))]⟩ (w_ldp (eStamp t4) (eStamp t4) rfl trivial rfl (ble _ _ rfl) ag23 rfl (ble _ _ rfl) rfl) ?_
          obtain ⟨⟨t101a, t101b⟩, c77, h⟩ := bpos h
          refine sq_cons ⟨_, [(.t 101, .tup [.d (.agg (eCell t101a)), .d (.agg (eAnswer t101b))])]⟩ (w_call (ds := [(.agg (eCell t0)), (.agg (eShard t46)), (.agg (eRequest t3)), (.agg (eStamp t4))]) (caps := []) (l := [(.agg (eCell t101a)), (.agg (eAnswer t101b))]) (s25 k t0 t46 t3 t4 _ c77) rfl rfl rfl en25 trivial rfl (ble _ _ rfl) (.inl ⟨rfl, rfl⟩) rfl rfl) ?_
          refine sq_cons ⟨_, [(.t 102, .d (.agg (eCell t101a)))]⟩ (v_extract rfl trivial rfl (ble _ _ rfl) rfl rfl) ?_
          refine sq_cons ⟨_, [(.t 103, .d (.agg (eAnswer t101b)))]⟩ (v_extract rfl trivial rfl (ble _ _ rfl) rfl rfl) ?_
          refine sq_cons _ (v_store_box (id := 12) (off := 0) (cs := (eCell t101a).map V.d) rfl trivial rfl sz30 rfl rfl rfl rfl (ones_of rfl) (ble _ _ rfl)) ?_
          refine sq_cons _ (v_store_box (id := 13) (off := 0) (cs := (eAnswer t101b).map V.d) rfl trivial rfl sz35 rfl rfl rfl rfl (ones_of rfl) (ble _ _ rfl)) ?_
          refine sq_nil ?_
          refine ht_ret ?_
          cases h
          exact ret2 rfl (.cell rfl rfl ag30 (ble _ _ rfl) rfl) (.cell rfl rfl ag35 (ble _ _ rfl) rfl)
        · replace h := cneg e76 h
          refine ht_seq ?_
          refine ht_region ?_
          refine sq_cons ⟨_, [(.t 105, .d (.dp (List.drop 2 (eRequest t3))))]⟩ (v_field_dp (a0 := 2) (cs := (eRequest t3)) rfl trivial rfl (ble _ _ rfl) fo25_2 rfl) ?_
          refine sq_cons ⟨_, [(.t 106, iV t3.mKind)]⟩ (v_load_dp1 rfl trivial rfl (ble _ _ rfl) onT3 rfl rfl) ?_
          refine sq_cons ⟨_, [(.t 107, bV (eqI t3.mKind 4))]⟩ (v_bin rfl trivial rfl (ble _ _ rfl) rfl rfl (b_eql rfl)) ?_
          refine sq_cons ⟨_, [(.t 104, bV (eqI t3.mKind 4))]⟩ (v_move (.inr rfl) trivial rfl (ble _ _ rfl) rfl) ?_
          refine sq_nil ?_
          refine ht_cond (b := (eqI t3.mKind 4)) rfl (fun e78 => ?_) (fun e78 => ?_)
          · replace h := cpos e78 h
            refine ht_seq ?_
            refine ht_region_draw mixed ?_
            refine rg_cons ⟨_, [(.t 108, .d (.agg (eCell t0)))]⟩ (w_ldp (eCell t0) (eCell t0) rfl trivial rfl (ble _ _ rfl) ag30 rfl (ble _ _ rfl) rfl) ?_
            refine rg_cons ⟨_, [(.t 109, .d (.agg (eCell t0)))]⟩ (w_ldp (eCell t0) (eCell t0) rfl trivial rfl (ble _ _ rfl) ag30 rfl (ble _ _ rfl) rfl) ?_
            refine rg_cons ⟨_, [(.t 110, .d (.agg (eShard t46)))]⟩ (w_ldb 14 0 rfl trivial rfl (ble _ _ rfl) ag50 rfl rfl (ble _ _ rfl) rfl) ?_
            refine rg_cons ⟨_, [(.t 111, .d (.dp (List.drop 3 (eRequest t3))))]⟩ (v_field_dp (a0 := 3) (cs := (eRequest t3)) rfl trivial rfl (ble _ _ rfl) fo25_3 rfl) ?_
            refine rg_cons ⟨_, [(.t 112, sV t3.mKey)]⟩ (v_load_dp1 rfl trivial rfl (ble _ _ rfl) onT9 rfl rfl) ?_
            obtain ⟨t113, c79, h⟩ := bpos h
            refine rg_cons ⟨_, [(.t 113, .d (.agg (eAnswer t113)))]⟩ (w_call (ds := [(.agg (eCell t0)), (.agg (eShard t46)), (.s (.string t3.mKey))]) (caps := []) (l := [(.agg (eAnswer t113))]) (s26 k t0 t46 t3.mKey _ c79) rfl rfl rfl en26 trivial rfl (ble _ _ rfl) (.inl ⟨rfl, rfl⟩) rfl rfl) ?_
            refine rg_cons _ (v_store_box (id := 12) (off := 0) (cs := (eCell t0).map V.d) rfl trivial rfl sz30 rfl rfl rfl rfl (ones_of rfl) (ble _ _ rfl)) ?_
            refine rg_cons _ (v_store_box (id := 13) (off := 0) (cs := (eAnswer t113).map V.d) rfl trivial rfl sz35 rfl rfl rfl rfl (ones_of rfl) (ble _ _ rfl)) ?_
            refine rg_nil ⟨by kernel_rfl, ?_⟩
            refine ht_ret ?_
            cases h
            exact ret2 rfl (.cell rfl rfl ag30 (ble _ _ rfl) rfl) (.cell rfl rfl ag35 (ble _ _ rfl) rfl)
          · replace h := cneg e78 h
            refine ht_skip ?_
            refine ht_seq ?_
            refine ht_region ?_
            refine sq_cons ⟨_, [(.t 114, .d (.agg (eCell t0)))]⟩ (w_ldp (eCell t0) (eCell t0) rfl trivial rfl (ble _ _ rfl) ag30 rfl (ble _ _ rfl) rfl) ?_
            refine sq_cons ⟨_, [(.t 115, .d (.agg (eShard t46)))]⟩ (w_ldb 14 0 rfl trivial rfl (ble _ _ rfl) ag50 rfl rfl (ble _ _ rfl) rfl) ?_
            refine sq_cons ⟨_, [(.t 116, .d (.agg (eRequest t3)))]⟩ (w_ldp (eRequest t3) (eRequest t3) rfl trivial rfl (ble _ _ rfl) ag25 rfl (ble _ _ rfl) rfl) ?_
            refine sq_cons ⟨_, [(.t 117, iV t5)]⟩ (v_move (.inl rfl) trivial rfl (ble _ _ rfl) rfl) ?_
            obtain ⟨⟨t118a, t118b⟩, c80, h⟩ := bpos h
            refine sq_cons ⟨_, [(.t 118, .tup [.d (.agg (eCell t118a)), .d (.agg (eAnswer t118b))])]⟩ (w_call (ds := [(.agg (eCell t0)), (.agg (eShard t46)), (.agg (eRequest t3)), (.s (.int .i64 t5))]) (caps := []) (l := [(.agg (eCell t118a)), (.agg (eAnswer t118b))]) (s27 k t0 t46 t3 t5 _ c80) rfl rfl rfl en27 trivial rfl (ble _ _ rfl) (.inl ⟨rfl, rfl⟩) rfl rfl) ?_
            refine sq_cons ⟨_, [(.t 119, .d (.agg (eCell t118a)))]⟩ (v_extract rfl trivial rfl (ble _ _ rfl) rfl rfl) ?_
            refine sq_cons ⟨_, [(.t 120, .d (.agg (eAnswer t118b)))]⟩ (v_extract rfl trivial rfl (ble _ _ rfl) rfl rfl) ?_
            refine sq_cons _ (v_store_box (id := 12) (off := 0) (cs := (eCell t118a).map V.d) rfl trivial rfl sz30 rfl rfl rfl rfl (ones_of rfl) (ble _ _ rfl)) ?_
            refine sq_cons _ (v_store_box (id := 13) (off := 0) (cs := (eAnswer t118b).map V.d) rfl trivial rfl sz35 rfl rfl rfl rfl (ones_of rfl) (ble _ _ rfl)) ?_
            refine sq_nil ?_
            refine ht_ret ?_
            cases h
            exact ret2 rfl (.cell rfl rfl ag30 (ble _ _ rfl) rfl) (.cell rfl rfl ag35 (ble _ _ rfl) rfl)
end Go.Proofs.Ed
