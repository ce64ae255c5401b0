import Derived.Test.YtidiihhfpbnbaaaProg
import Derived.Test.YtidiihhfpbnbaaaAwpJoin
import Derived.Test.YtidiihhfpbnbaaaFlDefs
import Derived.KernelRfl
import Derived.Calls
import Derived.Shelf.Lay
set_option linter.unusedVariables false
namespace Go.Proofs.Fl
open Go Go.Awp Go.Proofs
theorem elT3 : ElemT Try.prog 3 1 8 := .mk' (z := (.int .i64 0)) (by kernel_rfl) rfl (ble _ _ rfl)
theorem elT5 : ElemT Try.prog 5 1 1 := .mk' (z := (.int .u8 0)) (by kernel_rfl) rfl (ble _ _ rfl)
theorem en4 : ∀ args w, (callFunc 4 args).run Try.prog w = .ok (.enter 4 args) w := enters_of Try.func4 (by kernel_rfl) rfl
theorem en5 : ∀ args w, (callFunc 5 args).run Try.prog w = .ok (.enter 5 args) w := enters_of Try.func5 (by kernel_rfl) rfl
theorem en6 : ∀ args w, (callFunc 6 args).run Try.prog w = .ok (.enter 6 args) w := enters_of Try.func6 (by kernel_rfl) rfl
theorem en7 : ∀ args w, (callFunc 7 args).run Try.prog w = .ok (.enter 7 args) w := enters_of Try.func7 (by kernel_rfl) rfl
theorem en8 : ∀ args w, (callFunc 8 args).run Try.prog w = .ok (.enter 8 args) w := enters_of Try.func8 (by kernel_rfl) rfl
theorem en9 : ∀ args w, (callFunc 9 args).run Try.prog w = .ok (.enter 9 args) w := enters_of Try.func9 (by kernel_rfl) rfl
theorem en10 : ∀ args w, (callFunc 10 args).run Try.prog w = .ok (.enter 10 args) w := enters_of Try.func10 (by kernel_rfl) rfl
theorem en11 : ∀ args w, (callFunc 11 args).run Try.prog w = .ok (.enter 11 args) w := enters_of Try.func11 (by kernel_rfl) rfl
theorem en12 : ∀ args w, (callFunc 12 args).run Try.prog w = .ok (.enter 12 args) w := enters_of Try.func12 (by kernel_rfl) rfl
theorem en13 : ∀ args w, (callFunc 13 args).run Try.prog w = .ok (.enter 13 args) w := enters_of Try.func13 (by kernel_rfl) rfl
theorem en14 : ∀ args w, (callFunc 14 args).run Try.prog w = .ok (.enter 14 args) w := enters_of Try.func14 (by kernel_rfl) rfl
theorem en15 : ∀ args w, (callFunc 15 args).run Try.prog w = .ok (.enter 15 args) w := enters_of Try.func15 (by kernel_rfl) rfl
theorem en16 : ∀ args w, (callFunc 16 args).run Try.prog w = .ok (.enter 16 args) w := enters_of Try.func16 (by kernel_rfl) rfl
theorem en17 : ∀ args w, (callFunc 17 args).run Try.prog w = .ok (.enter 17 args) w := enters_of Try.func17 (by kernel_rfl) rfl
theorem en18 : ∀ args w, (callFunc 18 args).run Try.prog w = .ok (.enter 18 args) w := enters_of Try.func18 (by kernel_rfl) rfl
theorem en19 : ∀ args w, (callFunc 19 args).run Try.prog w = .ok (.enter 19 args) w := enters_of Try.func19 (by kernel_rfl) rfl
theorem mixed : Try.prog.follows .mixedOrders = true := by kernel_rfl
theorem mk5 : (Try.prog.info? 5).map (fun i => (i.zero, i.size, i.bytes)) = some (some (.int .u8 0), 1, 1) := by kernel_rfl
theorem onT3 : OneT Try.prog 3 := .mk' (by kernel_rfl : Try.prog.underlying 3 = some (.int .i64)) rfl (by kernel_rfl)
theorem slT23 : SliceT Try.prog 23 5 1 := .mk' (by kernel_rfl) (by kernel_rfl)
theorem slT42 : SliceT Try.prog 42 3 1 := .mk' (by kernel_rfl) (by kernel_rfl)
theorem und3 : Try.prog.underlying 3 = some (.int .i64) := by kernel_rfl
theorem und5 : Try.prog.underlying 5 = some (.int .u8) := by kernel_rfl
theorem und9 : Try.prog.underlying 9 = some (.string) := by kernel_rfl
theorem und22 : Try.prog.underlying 22 = some (.int .i8) := by kernel_rfl
theorem und23 : Try.prog.underlying 23 = some (.slice 5) := by kernel_rfl
theorem und33 : Try.prog.underlying 33 = some (.int .u32) := by kernel_rfl
theorem zr3 : ∀ w, (zeroValue 3).run Try.prog w = .ok (.int .i64 0) w := zero_of (by kernel_rfl)
theorem zr5 : ∀ w, (zeroValue 5).run Try.prog w = .ok (.int .u8 0) w := zero_of (by kernel_rfl)
set_option maxHeartbeats 4000000 in
theorem s14 {A : Amb} (k : Nat) (t0 : Int) (r : ByteArray × Int) (h : F14 k t0 = some r) : Awp.Spec Try.prog A 14 [(.s (.int .i64 t0))] (.ds [(.s (.string r.1)), (.s (.int .i64 r.2))]) := by
  rw [F14] at h
  refine spec_of Try.func14 rfl (ble _ _ rfl) fun w0 ok0 lt0 hA => ?_
  refine ht_seq ?_
  refine ht_region ?_
  refine sq_cons ⟨_, [(.t 2, sV (⟨#[]⟩ : ByteArray))]⟩ (v_move (.inr rfl) trivial rfl (ble _ _ rfl) rfl) ?_
  refine sq_cons ⟨_, [(.t 3, iV 0)]⟩ (v_move (.inr rfl) trivial rfl (ble _ _ rfl) rfl) ?_
  refine sq_nil ?_
  refine ht_seq ?_
  refine ht_seq ?_
  refine ht_region ?_
  refine sq_cons ⟨_, [(.t 5, iV t0)]⟩ (v_move (.inl rfl) trivial rfl (ble _ _ rfl) rfl) ?_
  refine sq_cons ⟨_, [(.t 6, bV (ltI t0 0))]⟩ (v_bin rfl trivial rfl (ble _ _ rfl) rfl rfl (b_lss rfl)) ?_
  refine sq_nil ?_
  refine ht_cond (b := (ltI t0 0)) rfl (fun e1 => ?_) (fun e1 => ?_)
  · replace h := cpos e1 h
    refine ht_seq ?_
    refine ht_region ?_
    refine sq_cons ⟨_, [(.t 2, sV (⟨#[]⟩ : ByteArray))]⟩ (v_move (.inr rfl) trivial rfl (ble _ _ rfl) rfl) ?_
    refine sq_cons ⟨_, [(.t 3, iV 1)]⟩ (v_move (.inr rfl) trivial rfl (ble _ _ rfl) rfl) ?_
    refine sq_nil ?_
    refine ht_ret ?_
    cases h
    exact ret2 rfl (.tmp rfl) (.tmp rfl)
  · replace h := cneg e1 h
    refine ht_skip ?_
    refine ht_seq ?_
    refine ht_region ?_
    refine sq_cons ⟨_, [(.t 4, .d (.s (.slice none 0 0)))]⟩ (v_move (.inr rfl) trivial rfl (ble _ _ rfl) rfl) ?_
    refine sq_nil ?_
    refine ht_bj h (fun (t0_1, t4) => tell [(.b 1004, .row false 5 1 (t4.map (eI .u8))), (.t 0, iV t0_1), (.t 4, .own 1004 1 t4.length)]) (fun v2 h => ?_) (fun v2 K3 h j5 => ?_)
    · obtain ⟨t0_1, t4⟩ := v2
      refine ht_seq ?_
      refine ht_region ?_
      refine sq_cons ⟨_, [(.t 17, .own 1004 1 t4.length)]⟩ (v_move (.inl rfl) trivial rfl (ble _ _ rfl) rfl) ?_
      refine sq_cons ⟨_, [(.t 18, iV t0_1)]⟩ (v_move (.inl rfl) trivial rfl (ble _ _ rfl) rfl) ?_
      refine sq_cons ⟨_, [(.t 19, nV .u8 (IntKind.wrap .u8 t0_1))]⟩ (v_conv rfl trivial rfl (ble _ _ rfl) rfl (c_int und3 und5 rfl)) ?_
      refine sq_cons ⟨_, [(.b 20, .row false 5 1 (([(IntKind.wrap .u8 t0_1)]).map (eI .u8))), (.t 20, .own 20 1 ([(IntKind.wrap .u8 t0_1)]).length)]⟩ (w_bsl (id := 20) [(0, nV .u8 (IntKind.wrap .u8 t0_1))] [(IntKind.wrap .u8 t0_1)] (eI .u8) rfl trivial rfl (ble _ _ rfl) slT23 zr5 (encI .u8) (ble _ _ rfl) rfl rfl rfl rfl rfl rfl) ?_
      obtain ⟨e13, h⟩ := gpos h
      refine sq_cons ⟨_, [(.b 1004, .spent), (.b 21, .row false 5 1 ((t4 ++ [(IntKind.wrap .u8 t0_1)]).map (eI .u8))), (.t 21, .own 21 1 (t4 ++ [(IntKind.wrap .u8 t0_1)]).length)]⟩ (w_app 21 t4 ([(IntKind.wrap .u8 t0_1)]) (eI .u8) rfl rfl trivial rfl (ble _ _ rfl) slT23 elT5 (encI .u8) rfl rfl rfl (.own 20 _ _ rfl) rfl e13) ?_
      refine sq_cons ⟨_, [(.t 22, sV (ofB (t4 ++ [(IntKind.wrap .u8 t0_1)])))]⟩ (w_b2s (t4 ++ [(IntKind.wrap .u8 t0_1)]) rfl trivial rfl (ble _ _ rfl) und23 und5 und9 rfl (.own 21 _ _ rfl)) ?_
      refine sq_cons ⟨_, [(.t 2, sV (ofB (t4 ++ [(IntKind.wrap .u8 t0_1)])))]⟩ (v_move (.inr rfl) trivial rfl (ble _ _ rfl) rfl) ?_
      refine sq_cons ⟨_, [(.t 3, iV 0)]⟩ (v_move (.inr rfl) trivial rfl (ble _ _ rfl) rfl) ?_
      refine sq_nil ?_
      refine ht_ret ?_
      cases h
      exact ret2 rfl (.tmp rfl) (.tmp rfl)
    · refine ht_block ?_
      refine ht_rd h (fun _ => rfl) (fun (t0_2, t4_1) => tell [(.b 1004, .row false 5 1 (t4_1.map (eI .u8))), (.t 0, iV t0_2), (.t 4, .own 1004 1 t4_1.length)]) (wkt (wk_nilrow (.t 4) (nb 4) 2004 5 1 rfl rfl) (wk_ren _ (fun i => bif Nat.beq i 1004 then 2004 else i) rfl ⟨rfl, rfl, rfl, trivial⟩)) fun k v9 h K12 j8 => ?_
      obtain ⟨t0_2, t4_1⟩ := v9
      rw [F14_l1] at h
      refine ht_seq ?_
      refine ht_seq ?_
      refine ht_region ?_
      refine sq_cons ⟨_, [(.t 7, iV t0_2)]⟩ (v_move (.inl rfl) trivial rfl (ble _ _ rfl) rfl) ?_
      refine sq_cons ⟨_, [(.t 8, bV (leI 128 t0_2))]⟩ (v_bin rfl trivial rfl (ble _ _ rfl) rfl rfl (b_geq rfl)) ?_
      refine sq_nil ?_
      refine ht_cond (b := (leI 128 t0_2)) rfl (fun e10 => ?_) (fun e10 => ?_)
      · replace h := cpos e10 h
        refine ht_skip ?_
        refine ht_block ?_
        refine ht_seq ?_
        refine ht_region ?_
        refine sq_cons ⟨_, [(.t 9, .own 1004 1 t4_1.length)]⟩ (v_move (.inl rfl) trivial rfl (ble _ _ rfl) rfl) ?_
        refine sq_cons ⟨_, [(.t 10, iV t0_2)]⟩ (v_move (.inl rfl) trivial rfl (ble _ _ rfl) rfl) ?_
        refine sq_cons ⟨_, [(.t 11, nV .u8 (IntKind.wrap .u8 t0_2))]⟩ (v_conv rfl trivial rfl (ble _ _ rfl) rfl (c_int und3 und5 rfl)) ?_
        refine sq_cons ⟨_, [(.t 12, nV .u8 (orI .u8 (IntKind.wrap .u8 t0_2) 128))]⟩ (v_bin rfl trivial rfl (ble _ _ rfl) rfl rfl (b_or rfl)) ?_
        refine sq_cons ⟨_, [(.b 13, .row false 5 1 (([(orI .u8 (IntKind.wrap .u8 t0_2) 128)]).map (eI .u8))), (.t 13, .own 13 1 ([(orI .u8 (IntKind.wrap .u8 t0_2) 128)]).length)]⟩ (w_bsl (id := 13) [(0, nV .u8 (orI .u8 (IntKind.wrap .u8 t0_2) 128))] [(orI .u8 (IntKind.wrap .u8 t0_2) 128)] (eI .u8) rfl trivial rfl (ble _ _ rfl) slT23 zr5 (encI .u8) (ble _ _ rfl) rfl rfl rfl rfl rfl rfl) ?_
        obtain ⟨e11, h⟩ := gpos h
        refine sq_cons ⟨_, [(.b 1004, .spent), (.b 14, .row false 5 1 ((t4_1 ++ [(orI .u8 (IntKind.wrap .u8 t0_2) 128)]).map (eI .u8))), (.t 14, .own 14 1 (t4_1 ++ [(orI .u8 (IntKind.wrap .u8 t0_2) 128)]).length)]⟩ (w_app 14 t4_1 ([(orI .u8 (IntKind.wrap .u8 t0_2) 128)]) (eI .u8) rfl rfl trivial rfl (ble _ _ rfl) slT23 elT5 (encI .u8) rfl rfl rfl (.own 13 _ _ rfl) rfl e11) ?_
        refine sq_cons ⟨_, [(.t 4, .own 14 1 (t4_1 ++ [(orI .u8 (IntKind.wrap .u8 t0_2) 128)]).length)]⟩ (v_move (.inr rfl) trivial rfl (ble _ _ rfl) rfl) ?_
        refine sq_nil ?_
        refine ht_region ?_
        refine sq_cons ⟨_, [(.t 15, iV t0_2)]⟩ (v_move (.inl rfl) trivial rfl (ble _ _ rfl) rfl) ?_
        refine sq_cons ⟨_, [(.t 16, iV (shrI .i64 t0_2 7))]⟩ (v_bin rfl trivial rfl (ble _ _ rfl) rfl rfl (b_shr rfl rfl)) ?_
        refine sq_cons ⟨_, [(.t 0, iV (shrI .i64 t0_2 7))]⟩ (v_move (.inr rfl) trivial rfl (ble _ _ rfl) rfl) ?_
        refine sq_nil ?_
        exact j8 _ _ h (wk_ren _ (fun i => bif Nat.beq i 1004 then 14 else i) rfl ⟨rfl, rfl, rfl, trivial⟩)
      · replace h := cneg e10 h
        refine ht_exit ?_
        refine tq ?_
        refine tq ?_
        refine bq_hit ?_
        cases h
        exact j5 _ (wk_ren _ (fun i => i) rfl ⟨rfl, rfl, rfl, trivial⟩)
set_option maxHeartbeats 4000000 in
theorem s8 {A : Amb} (k : Nat) (t0 : ByteArray) (r : ByteArray) (h : F8 k t0 = some r) : Awp.Spec Try.prog A 8 [(.s (.string t0))] (.ds [(.s (.string r))]) := by
  rw [F8] at h
  refine spec_of Try.func8 rfl (ble _ _ rfl) fun w0 ok0 lt0 hA => ?_
  refine ht_seq ?_
  refine ht_region ?_
  refine sq_cons ⟨_, [(.t 2, sV (⟨#[]⟩ : ByteArray))]⟩ (v_move (.inr rfl) trivial rfl (ble _ _ rfl) rfl) ?_
  refine sq_nil ?_
  refine ht_seq ?_
  refine ht_region ?_
  refine sq_cons ⟨_, [(.t 6, sV t0)]⟩ (v_move (.inl rfl) trivial rfl (ble _ _ rfl) rfl) ?_
  refine sq_cons ⟨_, [(.t 7, iV (t0.size : Int))]⟩ (v_len_str rfl rfl trivial rfl (ble _ _ rfl) und9 rfl) ?_
  obtain ⟨⟨t8a, t8b⟩, c1, h⟩ := bpos h
  refine sq_cons ⟨_, [(.t 8, .tup [sV t8a, iV t8b])]⟩ (w_call (ds := [(.s (.int .i64 (t0.size : Int)))]) (caps := []) (l := [(.s (.string t8a)), (.s (.int .i64 t8b))]) (s14 k (t0.size : Int) _ c1) rfl rfl rfl en14 trivial rfl (ble _ _ rfl) (.inl ⟨rfl, rfl⟩) rfl rfl) ?_
  refine sq_cons ⟨_, [(.t 5, .tup [sV t8a, iV t8b])]⟩ (v_move (.inl rfl) trivial rfl (ble _ _ rfl) rfl) ?_
  refine sq_cons ⟨_, [(.t 9, sV t8a)]⟩ (v_extract rfl trivial rfl (ble _ _ rfl) rfl rfl) ?_
  refine sq_cons ⟨_, [(.t 10, iV t8b)]⟩ (v_extract rfl trivial rfl (ble _ _ rfl) rfl rfl) ?_
  refine sq_cons ⟨_, [(.t 3, sV t8a)]⟩ (v_move (.inr rfl) trivial rfl (ble _ _ rfl) rfl) ?_
  refine sq_cons ⟨_, [(.t 4, iV t8b)]⟩ (v_move (.inr rfl) trivial rfl (ble _ _ rfl) rfl) ?_
  refine sq_nil ?_
  refine ht_seq ?_
  refine ht_region ?_
  refine sq_cons ⟨_, [(.t 11, sV t8a)]⟩ (v_move (.inl rfl) trivial rfl (ble _ _ rfl) rfl) ?_
  refine sq_cons ⟨_, [(.t 12, sV t0)]⟩ (v_move (.inl rfl) trivial rfl (ble _ _ rfl) rfl) ?_
  obtain ⟨e2, h⟩ := gpos h
  refine sq_cons ⟨_, [(.t 13, sV (t8a ++ t0))]⟩ (v_bin rfl trivial rfl (ble _ _ rfl) rfl rfl (b_cat e2 rfl)) ?_
  refine sq_cons ⟨_, [(.t 2, sV (t8a ++ t0))]⟩ (v_move (.inr rfl) trivial rfl (ble _ _ rfl) rfl) ?_
  refine sq_nil ?_
  refine ht_ret ?_
  cases h
  exact ret1 rfl (.tmp rfl)
set_option maxHeartbeats 4000000 in
theorem s13 {A : Amb} (k : Nat) (t0 : ByteArray) (r : Int) (h : F13 k t0 = some r) : Awp.Spec Try.prog A 13 [(.s (.string t0))] (.ds [(.s (.int .u32 r))]) := by
  rw [F13] at h
  refine spec_of Try.func13 rfl (ble _ _ rfl) fun w0 ok0 lt0 hA => ?_
  refine ht_seq ?_
  refine ht_region ?_
  refine sq_cons ⟨_, [(.t 2, nV .u32 0)]⟩ (v_move (.inr rfl) trivial rfl (ble _ _ rfl) rfl) ?_
  refine sq_nil ?_
  refine ht_seq ?_
  refine ht_region ?_
  refine sq_cons ⟨_, [(.t 3, nV .u32 4294967295)]⟩ (v_move (.inr rfl) trivial rfl (ble _ _ rfl) rfl) ?_
  refine sq_nil ?_
  refine ht_bj h (fun t3 => tell [(.t 3, nV .u32 t3)]) (fun t3 h => ?_) (fun v1 K2 h j4 => ?_)
  · refine ht_seq ?_
    refine ht_region ?_
    refine sq_cons ⟨_, [(.t 27, nV .u32 t3)]⟩ (v_move (.inl rfl) trivial rfl (ble _ _ rfl) rfl) ?_
    refine sq_cons ⟨_, [(.t 28, nV .u32 (notI .u32 t3))]⟩ (v_un rfl trivial rfl (ble _ _ rfl) rfl (u_xor rfl)) ?_
    refine sq_cons ⟨_, [(.t 2, nV .u32 (notI .u32 t3))]⟩ (v_move (.inr rfl) trivial rfl (ble _ _ rfl) rfl) ?_
    refine sq_nil ?_
    refine ht_ret ?_
    cases h
    exact ret1 rfl (.tmp rfl)
  · refine ht_seq ?_
    refine ht_region ?_
    refine sq_cons ⟨_, [(.t 5, sV t0)]⟩ (v_move (.inl rfl) trivial rfl (ble _ _ rfl) rfl) ?_
    refine sq_cons ⟨_, [(.t 6, iV (t0.size : Int))]⟩ (v_len_str rfl rfl trivial rfl (ble _ _ rfl) und9 rfl) ?_
    refine sq_cons ⟨_, [(.t 7, iV 0)]⟩ (v_move (.inl rfl) trivial rfl (ble _ _ rfl) rfl) ?_
    refine sq_nil ?_
    refine ht_block ?_
    refine ht_rd h (fun _ => rfl) (fun (t3_1, t7) => tell [(.t 0, sV t0), (.t 3, nV .u32 t3_1), (.t 6, iV (t0.size : Int)), (.t 7, iV t7)]) (wk_ren _ (fun i => i) rfl ⟨rfl, rfl, rfl, rfl, trivial⟩) fun k v8 h K22 j7 => ?_
    obtain ⟨t3_1, t7⟩ := v8
    rw [F13_l1] at h
    refine ht_seq ?_
    refine ht_region ?_
    refine sq_cons ⟨_, [(.t 8, bV (ltI t7 (t0.size : Int)))]⟩ (v_bin rfl trivial rfl (ble _ _ rfl) rfl rfl (b_lss rfl)) ?_
    refine sq_nil ?_
    refine ht_seq ?_
    refine ht_cond (b := (ltI t7 (t0.size : Int))) rfl (fun e9 => ?_) (fun e9 => ?_)
    · replace h := cpos e9 h
      refine ht_skip ?_
      refine ht_bj h (fun t3_2 => tell [(.t 0, sV t0), (.t 3, nV .u32 t3_2), (.t 6, iV (t0.size : Int)), (.t 7, iV t7)]) (fun t3_2 h => ?_) (fun v10 K11 h j13 => ?_)
      · refine ht_region ?_
        refine sq_cons ⟨_, [(.t 26, iV (IntKind.wrap .i64 (t7 + 1)))]⟩ (v_bin rfl trivial rfl (ble _ _ rfl) rfl rfl (b_add rfl)) ?_
        refine sq_cons ⟨_, [(.t 7, iV (IntKind.wrap .i64 (t7 + 1)))]⟩ (v_move (.inl rfl) trivial rfl (ble _ _ rfl) rfl) ?_
        refine sq_nil ?_
        exact j7 _ _ h (wk_ren _ (fun i => i) rfl ⟨rfl, rfl, rfl, rfl, trivial⟩)
      · refine ht_block ?_
        refine ht_seq ?_
        refine ht_region ?_
        refine sq_cons ⟨_, [(.t 9, iV t7)]⟩ (v_move (.inl rfl) trivial rfl (ble _ _ rfl) rfl) ?_
        refine sq_cons ⟨_, [(.t 4, iV t7)]⟩ (v_move (.inr rfl) trivial rfl (ble _ _ rfl) rfl) ?_
        refine sq_nil ?_
        refine ht_seq ?_
        refine ht_region ?_
        refine sq_cons ⟨_, [(.t 10, nV .u32 t3_1)]⟩ (v_move (.inl rfl) trivial rfl (ble _ _ rfl) rfl) ?_
        refine sq_cons ⟨_, [(.t 11, sV t0)]⟩ (v_move (.inl rfl) trivial rfl (ble _ _ rfl) rfl) ?_
        refine sq_cons ⟨_, [(.t 12, iV t7)]⟩ (v_move (.inl rfl) trivial rfl (ble _ _ rfl) rfl) ?_
        obtain ⟨e15, h⟩ := gpos h
        refine sq_cons ⟨_, [(.t 13, nV .u8 (bt t0 t7))]⟩ (v_index rfl trivial rfl (ble _ _ rfl) rfl rfl (i_str und9 e15 rfl)) ?_
        refine sq_cons ⟨_, [(.t 14, nV .u32 (IntKind.wrap .u32 (bt t0 t7)))]⟩ (v_conv rfl trivial rfl (ble _ _ rfl) rfl (c_int und5 und33 rfl)) ?_
        refine sq_cons ⟨_, [(.t 15, nV .u32 (xorI .u32 t3_1 (IntKind.wrap .u32 (bt t0 t7))))]⟩ (v_bin rfl trivial rfl (ble _ _ rfl) rfl rfl (b_xor rfl)) ?_
        refine sq_cons ⟨_, [(.t 3, nV .u32 (xorI .u32 t3_1 (IntKind.wrap .u32 (bt t0 t7))))]⟩ (v_move (.inr rfl) trivial rfl (ble _ _ rfl) rfl) ?_
        refine sq_nil ?_
        refine ht_seq ?_
        refine ht_region ?_
        refine sq_cons ⟨_, [(.t 16, iV 0)]⟩ (v_move (.inl rfl) trivial rfl (ble _ _ rfl) rfl) ?_
        refine sq_nil ?_
        refine ht_block ?_
        refine ht_rd h (fun _ => rfl) (fun (t3_3, t16) => tell [(.t 0, sV t0), (.t 3, nV .u32 t3_3), (.t 6, iV (t0.size : Int)), (.t 7, iV t7), (.t 16, iV t16)]) (wk_ren _ (fun i => i) rfl ⟨rfl, rfl, rfl, rfl, rfl, trivial⟩) fun k v18 h K21 j17 => ?_
        obtain ⟨t3_3, t16⟩ := v18
        rw [F13_l2] at h
        refine ht_seq ?_
        refine ht_region ?_
        refine sq_cons ⟨_, [(.t 17, bV (ltI t16 8))]⟩ (v_bin rfl trivial rfl (ble _ _ rfl) rfl rfl (b_lss rfl)) ?_
        refine sq_nil ?_
        refine ht_seq ?_
        refine ht_cond (b := (ltI t16 8)) rfl (fun e19 => ?_) (fun e19 => ?_)
        · replace h := cpos e19 h
          refine ht_skip ?_
          refine ht_seq ?_
          refine ht_block ?_
          refine ht_region ?_
          refine sq_cons ⟨_, [(.t 18, nV .u32 t3_3)]⟩ (v_move (.inl rfl) trivial rfl (ble _ _ rfl) rfl) ?_
          refine sq_cons ⟨_, [(.t 19, nV .u32 (shrI .u32 t3_3 1))]⟩ (v_bin rfl trivial rfl (ble _ _ rfl) rfl rfl (b_shr rfl rfl)) ?_
          refine sq_cons ⟨_, [(.t 20, nV .u32 t3_3)]⟩ (v_move (.inl rfl) trivial rfl (ble _ _ rfl) rfl) ?_
          refine sq_cons ⟨_, [(.t 21, nV .u32 (andI .u32 t3_3 1))]⟩ (v_bin rfl trivial rfl (ble _ _ rfl) rfl rfl (b_and rfl)) ?_
          refine sq_cons ⟨_, [(.t 22, nV .u32 (IntKind.wrap .u32 (0 - (andI .u32 t3_3 1))))]⟩ (v_un rfl trivial rfl (ble _ _ rfl) rfl (u_neg rfl)) ?_
          obtain ⟨t23, q20, h⟩ := bndp h
          refine sq_cons ⟨_, [(.t 23, nV .u32 t23)]⟩ (v_bin rfl trivial rfl (ble _ _ rfl) rfl rfl (b_and q20)) ?_
          refine sq_cons ⟨_, [(.t 24, nV .u32 (xorI .u32 (shrI .u32 t3_3 1) t23))]⟩ (v_bin rfl trivial rfl (ble _ _ rfl) rfl rfl (b_xor rfl)) ?_
          refine sq_cons ⟨_, [(.t 3, nV .u32 (xorI .u32 (shrI .u32 t3_3 1) t23))]⟩ (v_move (.inr rfl) trivial rfl (ble _ _ rfl) rfl) ?_
          refine sq_nil ?_
          refine ht_region ?_
          refine sq_cons ⟨_, [(.t 25, iV (IntKind.wrap .i64 (t16 + 1)))]⟩ (v_bin rfl trivial rfl (ble _ _ rfl) rfl rfl (b_add rfl)) ?_
          refine sq_cons ⟨_, [(.t 16, iV (IntKind.wrap .i64 (t16 + 1)))]⟩ (v_move (.inl rfl) trivial rfl (ble _ _ rfl) rfl) ?_
          refine sq_nil ?_
          exact j17 _ _ h (wk_ren _ (fun i => i) rfl ⟨rfl, rfl, rfl, rfl, rfl, trivial⟩)
        · replace h := cneg e19 h
          refine ht_exit ?_
          refine tq ?_
          refine tq ?_
          refine bq_hit ?_
          cases h
          exact j13 _ (wk_ren _ (fun i => i) rfl ⟨rfl, rfl, rfl, rfl, trivial⟩)
    · replace h := cneg e9 h
      refine ht_exit ?_
      refine tq ?_
      refine tq ?_
      refine bq_hit ?_
      cases h
      exact j4 _ (wk_ren _ (fun i => i) rfl ⟨rfl, trivial⟩)
set_option maxHeartbeats 4000000 in
theorem s7 {A : Amb} (k : Nat) (t0 : ByteArray) (r : ByteArray) (h : F7 k t0 = some r) : Awp.Spec Try.prog A 7 [(.s (.string t0))] (.ds [(.s (.string r))]) := by
  rw [F7] at h
  refine spec_of Try.func7 rfl (ble _ _ rfl) fun w0 ok0 lt0 hA => ?_
  refine ht_seq ?_
  refine ht_region ?_
  refine sq_cons ⟨_, [(.t 2, sV (⟨#[]⟩ : ByteArray))]⟩ (v_move (.inr rfl) trivial rfl (ble _ _ rfl) rfl) ?_
  refine sq_nil ?_
  refine ht_seq ?_
  refine ht_region ?_
  refine sq_cons ⟨_, [(.t 4, sV t0)]⟩ (v_move (.inl rfl) trivial rfl (ble _ _ rfl) rfl) ?_
  obtain ⟨t5, c1, h⟩ := bpos h
  refine sq_cons ⟨_, [(.t 5, nV .u32 t5)]⟩ (w_call (ds := [(.s (.string t0))]) (caps := []) (l := [(.s (.int .u32 t5))]) (s13 k t0 _ c1) rfl rfl rfl en13 trivial rfl (ble _ _ rfl) (.inl ⟨rfl, rfl⟩) rfl rfl) ?_
  refine sq_cons ⟨_, [(.t 3, nV .u32 t5)]⟩ (v_move (.inr rfl) trivial rfl (ble _ _ rfl) rfl) ?_
  refine sq_nil ?_
  refine ht_seq ?_
  refine ht_region ?_
  refine sq_cons ⟨_, [(.t 6, sV t0)]⟩ (v_move (.inl rfl) trivial rfl (ble _ _ rfl) rfl) ?_
  refine sq_cons ⟨_, [(.t 7, nV .u32 t5)]⟩ (v_move (.inl rfl) trivial rfl (ble _ _ rfl) rfl) ?_
  refine sq_cons ⟨_, [(.t 8, nV .u8 (IntKind.wrap .u8 t5))]⟩ (v_conv rfl trivial rfl (ble _ _ rfl) rfl (c_int und33 und5 rfl)) ?_
  refine sq_cons ⟨_, [(.t 9, nV .u32 t5)]⟩ (v_move (.inl rfl) trivial rfl (ble _ _ rfl) rfl) ?_
  refine sq_cons ⟨_, [(.t 10, nV .u32 (shrI .u32 t5 8))]⟩ (v_bin rfl trivial rfl (ble _ _ rfl) rfl rfl (b_shr rfl rfl)) ?_
  refine sq_cons ⟨_, [(.t 11, nV .u8 (IntKind.wrap .u8 (shrI .u32 t5 8)))]⟩ (v_conv rfl trivial rfl (ble _ _ rfl) rfl (c_int und33 und5 rfl)) ?_
  refine sq_cons ⟨_, [(.t 12, nV .u32 t5)]⟩ (v_move (.inl rfl) trivial rfl (ble _ _ rfl) rfl) ?_
  refine sq_cons ⟨_, [(.t 13, nV .u32 (shrI .u32 t5 16))]⟩ (v_bin rfl trivial rfl (ble _ _ rfl) rfl rfl (b_shr rfl rfl)) ?_
  refine sq_cons ⟨_, [(.t 14, nV .u8 (IntKind.wrap .u8 (shrI .u32 t5 16)))]⟩ (v_conv rfl trivial rfl (ble _ _ rfl) rfl (c_int und33 und5 rfl)) ?_
  refine sq_cons ⟨_, [(.t 15, nV .u32 t5)]⟩ (v_move (.inl rfl) trivial rfl (ble _ _ rfl) rfl) ?_
  refine sq_cons ⟨_, [(.t 16, nV .u32 (shrI .u32 t5 24))]⟩ (v_bin rfl trivial rfl (ble _ _ rfl) rfl rfl (b_shr rfl rfl)) ?_
  refine sq_cons ⟨_, [(.t 17, nV .u8 (IntKind.wrap .u8 (shrI .u32 t5 24)))]⟩ (v_conv rfl trivial rfl (ble _ _ rfl) rfl (c_int und33 und5 rfl)) ?_
  refine sq_cons ⟨_, [(.b 18, .row false 5 1 (([(IntKind.wrap .u8 t5), (IntKind.wrap .u8 (shrI .u32 t5 8)), (IntKind.wrap .u8 (shrI .u32 t5 16)), (IntKind.wrap .u8 (shrI .u32 t5 24))]).map (eI .u8))), (.t 18, .own 18 1 ([(IntKind.wrap .u8 t5), (IntKind.wrap .u8 (shrI .u32 t5 8)), (IntKind.wrap .u8 (shrI .u32 t5 16)), (IntKind.wrap .u8 (shrI .u32 t5 24))]).length)]⟩ (w_bsl (id := 18) [(0, nV .u8 (IntKind.wrap .u8 t5)), (1, nV .u8 (IntKind.wrap .u8 (shrI .u32 t5 8))), (2, nV .u8 (IntKind.wrap .u8 (shrI .u32 t5 16))), (3, nV .u8 (IntKind.wrap .u8 (shrI .u32 t5 24)))] [(IntKind.wrap .u8 t5), (IntKind.wrap .u8 (shrI .u32 t5 8)), (IntKind.wrap .u8 (shrI .u32 t5 16)), (IntKind.wrap .u8 (shrI .u32 t5 24))] (eI .u8) rfl trivial rfl (ble _ _ rfl) slT23 zr5 (encI .u8) (ble _ _ rfl) rfl rfl rfl rfl rfl rfl) ?_
  refine sq_cons ⟨_, [(.t 19, sV (ofB ([(IntKind.wrap .u8 t5), (IntKind.wrap .u8 (shrI .u32 t5 8)), (IntKind.wrap .u8 (shrI .u32 t5 16)), (IntKind.wrap .u8 (shrI .u32 t5 24))])))]⟩ (w_b2s ([(IntKind.wrap .u8 t5), (IntKind.wrap .u8 (shrI .u32 t5 8)), (IntKind.wrap .u8 (shrI .u32 t5 16)), (IntKind.wrap .u8 (shrI .u32 t5 24))]) rfl trivial rfl (ble _ _ rfl) und23 und5 und9 rfl (.own 18 _ _ rfl)) ?_
  obtain ⟨e2, h⟩ := gpos h
  obtain ⟨t20, q3, h⟩ := bndp h
  refine sq_cons ⟨_, [(.t 20, sV t20)]⟩ (v_bin rfl trivial rfl (ble _ _ rfl) rfl rfl (b_cat e2 q3)) ?_
  refine sq_cons ⟨_, [(.t 2, sV t20)]⟩ (v_move (.inr rfl) trivial rfl (ble _ _ rfl) rfl) ?_
  refine sq_nil ?_
  refine ht_ret ?_
  cases h
  exact ret1 rfl (.tmp rfl)
set_option maxHeartbeats 4000000 in
theorem s4 {A : Amb} (k : Nat) (t0 : ByteArray) (r : ByteArray × Int) (h : F4 k t0 = some r) : Awp.Spec Try.prog A 4 [(.s (.string t0))] (.ds [(.s (.string r.1)), (.s (.int .i64 r.2))]) := by
  rw [F4] at h
  refine spec_of Try.func4 rfl (ble _ _ rfl) fun w0 ok0 lt0 hA => ?_
  refine ht_seq ?_
  refine ht_region ?_
  refine sq_cons ⟨_, [(.t 2, sV (⟨#[]⟩ : ByteArray))]⟩ (v_move (.inr rfl) trivial rfl (ble _ _ rfl) rfl) ?_
  refine sq_cons ⟨_, [(.t 3, iV 0)]⟩ (v_move (.inr rfl) trivial rfl (ble _ _ rfl) rfl) ?_
  refine sq_nil ?_
  refine ht_seq ?_
  refine ht_seq ?_
  refine ht_region ?_
  refine sq_cons ⟨_, [(.t 4, sV t0)]⟩ (v_move (.inl rfl) trivial rfl (ble _ _ rfl) rfl) ?_
  refine sq_cons ⟨_, [(.t 5, iV (t0.size : Int))]⟩ (v_len_str rfl rfl trivial rfl (ble _ _ rfl) und9 rfl) ?_
  refine sq_cons ⟨_, [(.t 6, bV (ltI 1048576 (t0.size : Int)))]⟩ (v_bin rfl trivial rfl (ble _ _ rfl) rfl rfl (b_gtr rfl)) ?_
  refine sq_nil ?_
  refine ht_cond (b := (ltI 1048576 (t0.size : Int))) rfl (fun e1 => ?_) (fun e1 => ?_)
  · replace h := cpos e1 h
    refine ht_seq ?_
    refine ht_region ?_
    refine sq_cons ⟨_, [(.t 2, sV (⟨#[]⟩ : ByteArray))]⟩ (v_move (.inr rfl) trivial rfl (ble _ _ rfl) rfl) ?_
    refine sq_cons ⟨_, [(.t 3, iV 5)]⟩ (v_move (.inr rfl) trivial rfl (ble _ _ rfl) rfl) ?_
    refine sq_nil ?_
    refine ht_ret ?_
    cases h
    exact ret2 rfl (.tmp rfl) (.tmp rfl)
  · replace h := cneg e1 h
    refine ht_skip ?_
    refine ht_seq ?_
    refine ht_region ?_
    refine sq_cons ⟨_, [(.t 7, sV t0)]⟩ (v_move (.inl rfl) trivial rfl (ble _ _ rfl) rfl) ?_
    obtain ⟨t8, c2, h⟩ := bpos h
    refine sq_cons ⟨_, [(.t 8, sV t8)]⟩ (w_call (ds := [(.s (.string t0))]) (caps := []) (l := [(.s (.string t8))]) (s8 k t0 _ c2) rfl rfl rfl en8 trivial rfl (ble _ _ rfl) (.inl ⟨rfl, rfl⟩) rfl rfl) ?_
    obtain ⟨t9, c3, h⟩ := bpos h
    refine sq_cons ⟨_, [(.t 9, sV t9)]⟩ (w_call (ds := [(.s (.string t8))]) (caps := []) (l := [(.s (.string t9))]) (s7 k t8 _ c3) rfl rfl rfl en7 trivial rfl (ble _ _ rfl) (.inl ⟨rfl, rfl⟩) rfl rfl) ?_
    refine sq_cons ⟨_, [(.t 2, sV t9)]⟩ (v_move (.inr rfl) trivial rfl (ble _ _ rfl) rfl) ?_
    refine sq_cons ⟨_, [(.t 3, iV 0)]⟩ (v_move (.inr rfl) trivial rfl (ble _ _ rfl) rfl) ?_
    refine sq_nil ?_
    refine ht_ret ?_
    cases h
    exact ret2 rfl (.tmp rfl) (.tmp rfl)
set_option maxHeartbeats 4000000 in
theorem s18 {A : Amb} (k : Nat) (t0 : ByteArray) (r : Int) (h : F18 k t0 = some r) : Awp.Spec Try.prog A 18 [(.s (.string t0))] (.ds [(.s (.int .i64 r))]) := by
  rw [F18] at h
  refine spec_of Try.func18 rfl (ble _ _ rfl) fun w0 ok0 lt0 hA => ?_
  refine ht_seq ?_
  refine ht_region ?_
  refine sq_cons ⟨_, [(.t 2, iV 0)]⟩ (v_move (.inr rfl) trivial rfl (ble _ _ rfl) rfl) ?_
  refine sq_nil ?_
  refine ht_gj (go_id' h) (fun _ => tell []) (fun _ h => ?_) (fun v1 K2 h j4 r5 => ?_)
  · refine ht_seq ?_
    refine ht_region ?_
    refine sq_cons ⟨_, [(.t 2, iV 2)]⟩ (v_move (.inr rfl) trivial rfl (ble _ _ rfl) rfl) ?_
    refine sq_nil ?_
    refine ht_ret ?_
    cases h
    exact ret1 rfl (.tmp rfl)
  · refine ht_seq ?_
    refine ht_region ?_
    refine sq_cons ⟨_, [(.t 4, sV t0)]⟩ (v_move (.inl rfl) trivial rfl (ble _ _ rfl) rfl) ?_
    refine sq_cons ⟨_, [(.t 5, iV (t0.size : Int))]⟩ (v_len_str rfl rfl trivial rfl (ble _ _ rfl) und9 rfl) ?_
    refine sq_cons ⟨_, [(.t 6, iV 0)]⟩ (v_move (.inl rfl) trivial rfl (ble _ _ rfl) rfl) ?_
    refine sq_nil ?_
    refine ht_block ?_
    refine ht_rd h (fun _ => rfl) (fun t6 => tell [(.t 0, sV t0), (.t 5, iV (t0.size : Int)), (.t 6, iV t6)]) (wk_ren _ (fun i => i) rfl ⟨rfl, rfl, rfl, trivial⟩) fun k t6 h K12 j7 => ?_
    rw [F18_l1] at h
    refine ht_seq ?_
    refine ht_region ?_
    refine sq_cons ⟨_, [(.t 7, bV (ltI t6 (t0.size : Int)))]⟩ (v_bin rfl trivial rfl (ble _ _ rfl) rfl rfl (b_lss rfl)) ?_
    refine sq_nil ?_
    refine ht_seq ?_
    refine ht_cond (b := (ltI t6 (t0.size : Int))) rfl (fun e9 => ?_) (fun e9 => ?_)
    · replace h := cpos e9 h
      refine ht_skip ?_
      refine ht_seq ?_
      refine ht_block ?_
      refine ht_seq ?_
      refine ht_region ?_
      refine sq_cons ⟨_, [(.t 8, iV t6)]⟩ (v_move (.inl rfl) trivial rfl (ble _ _ rfl) rfl) ?_
      refine sq_cons ⟨_, [(.t 3, iV t6)]⟩ (v_move (.inr rfl) trivial rfl (ble _ _ rfl) rfl) ?_
      refine sq_nil ?_
      refine ht_seq ?_
      refine ht_region ?_
      refine sq_cons ⟨_, [(.t 9, sV t0)]⟩ (v_move (.inl rfl) trivial rfl (ble _ _ rfl) rfl) ?_
      refine sq_cons ⟨_, [(.t 10, iV t6)]⟩ (v_move (.inl rfl) trivial rfl (ble _ _ rfl) rfl) ?_
      obtain ⟨e10, h⟩ := gpos h
      refine sq_cons ⟨_, [(.t 11, nV .u8 (bt t0 t6))]⟩ (v_index rfl trivial rfl (ble _ _ rfl) rfl rfl (i_str und9 e10 rfl)) ?_
      refine sq_cons ⟨_, [(.t 12, bV (ltI (bt t0 t6) 128))]⟩ (v_bin rfl trivial rfl (ble _ _ rfl) rfl rfl (b_lss rfl)) ?_
      refine sq_nil ?_
      refine ht_cond (b := (ltI (bt t0 t6) 128)) rfl (fun e11 => ?_) (fun e11 => ?_)
      · replace h := cpos e11 h
        refine ht_seq ?_
        refine ht_region ?_
        refine sq_cons ⟨_, [(.t 2, iV 3)]⟩ (v_move (.inr rfl) trivial rfl (ble _ _ rfl) rfl) ?_
        refine sq_nil ?_
        refine ht_ret ?_
        cases h
        cases r5 _ rfl
        exact ret1 rfl (.tmp rfl)
      · replace h := cneg e11 h
        refine ht_skip ?_
        refine ht_region ?_
        refine sq_cons ⟨_, [(.t 13, iV (IntKind.wrap .i64 (t6 + 1)))]⟩ (v_bin rfl trivial rfl (ble _ _ rfl) rfl rfl (b_add rfl)) ?_
        refine sq_cons ⟨_, [(.t 6, iV (IntKind.wrap .i64 (t6 + 1)))]⟩ (v_move (.inl rfl) trivial rfl (ble _ _ rfl) rfl) ?_
        refine sq_nil ?_
        exact j7 _ _ h (wk_ren _ (fun i => i) rfl ⟨rfl, rfl, rfl, trivial⟩)
    · replace h := cneg e9 h
      refine ht_exit ?_
      refine tq ?_
      refine tq ?_
      refine bq_hit ?_
      cases h
      exact j4 _ _ rfl (wk_ren _ (fun i => i) rfl trivial)
set_option maxHeartbeats 4000000 in
theorem s15 {A : Amb} (k : Nat) (t0 : ByteArray) (r : Int × ByteArray × Int) (h : F15 k t0 = some r) : Awp.Spec Try.prog A 15 [(.s (.string t0))] (.ds [(.s (.int .i64 r.1)), (.s (.string r.2.1)), (.s (.int .i64 r.2.2))]) := by
  rw [F15] at h
  refine spec_of Try.func15 rfl (ble _ _ rfl) fun w0 ok0 lt0 hA => ?_
  refine ht_seq ?_
  refine ht_region ?_
  refine sq_cons ⟨_, [(.t 2, iV 0)]⟩ (v_move (.inr rfl) trivial rfl (ble _ _ rfl) rfl) ?_
  refine sq_cons ⟨_, [(.t 3, sV (⟨#[]⟩ : ByteArray))]⟩ (v_move (.inr rfl) trivial rfl (ble _ _ rfl) rfl) ?_
  refine sq_cons ⟨_, [(.t 4, iV 0)]⟩ (v_move (.inr rfl) trivial rfl (ble _ _ rfl) rfl) ?_
  refine sq_nil ?_
  refine ht_seq ?_
  refine ht_region ?_
  refine sq_cons ⟨_, [(.t 5, iV 0)]⟩ (v_move (.inr rfl) trivial rfl (ble _ _ rfl) rfl) ?_
  refine sq_nil ?_
  refine ht_gj (go_id' h) (fun _ => tell []) (fun _ h => ?_) (fun v1 K2 h j4 r5 => ?_)
  · refine ht_seq ?_
    refine ht_region ?_
    refine sq_cons ⟨_, [(.t 2, iV 0)]⟩ (v_move (.inr rfl) trivial rfl (ble _ _ rfl) rfl) ?_
    refine sq_cons ⟨_, [(.t 3, sV (⟨#[]⟩ : ByteArray))]⟩ (v_move (.inr rfl) trivial rfl (ble _ _ rfl) rfl) ?_
    refine sq_cons ⟨_, [(.t 4, iV 2)]⟩ (v_move (.inr rfl) trivial rfl (ble _ _ rfl) rfl) ?_
    refine sq_nil ?_
    refine ht_ret ?_
    cases h
    exact ret3 rfl (.tmp rfl) (.tmp rfl) (.tmp rfl)
  · refine ht_seq ?_
    refine ht_region ?_
    refine sq_cons ⟨_, [(.t 8, sV t0)]⟩ (v_move (.inl rfl) trivial rfl (ble _ _ rfl) rfl) ?_
    refine sq_cons ⟨_, [(.t 9, iV (t0.size : Int))]⟩ (v_len_str rfl rfl trivial rfl (ble _ _ rfl) und9 rfl) ?_
    refine sq_cons ⟨_, [(.t 10, iV 0)]⟩ (v_move (.inl rfl) trivial rfl (ble _ _ rfl) rfl) ?_
    refine sq_nil ?_
    refine ht_block ?_
    refine ht_rd h (fun _ => rfl) (fun (t5, t10) => tell [(.t 0, sV t0), (.t 5, iV t5), (.t 9, iV (t0.size : Int)), (.t 10, iV t10)]) (wk_ren _ (fun i => i) rfl ⟨rfl, rfl, rfl, rfl, trivial⟩) fun k v8 h K40 j7 => ?_
    obtain ⟨t5, t10⟩ := v8
    rw [F15_l1] at h
    refine ht_seq ?_
    refine ht_region ?_
    refine sq_cons ⟨_, [(.t 11, bV (ltI t10 (t0.size : Int)))]⟩ (v_bin rfl trivial rfl (ble _ _ rfl) rfl rfl (b_lss rfl)) ?_
    refine sq_nil ?_
    refine ht_seq ?_
    refine ht_cond (b := (ltI t10 (t0.size : Int))) rfl (fun e9 => ?_) (fun e9 => ?_)
    · replace h := cpos e9 h
      refine ht_skip ?_
      refine ht_seq ?_
      refine ht_block ?_
      refine ht_seq ?_
      refine ht_region ?_
      refine sq_cons ⟨_, [(.t 12, iV t10)]⟩ (v_move (.inl rfl) trivial rfl (ble _ _ rfl) rfl) ?_
      refine sq_cons ⟨_, [(.t 6, iV t10)]⟩ (v_move (.inr rfl) trivial rfl (ble _ _ rfl) rfl) ?_
      refine sq_nil ?_
      refine ht_seq ?_
      refine ht_region ?_
      refine sq_cons ⟨_, [(.t 13, sV t0)]⟩ (v_move (.inl rfl) trivial rfl (ble _ _ rfl) rfl) ?_
      refine sq_cons ⟨_, [(.t 14, iV t10)]⟩ (v_move (.inl rfl) trivial rfl (ble _ _ rfl) rfl) ?_
      obtain ⟨e10, h⟩ := gpos h
      refine sq_cons ⟨_, [(.t 15, nV .u8 (bt t0 t10))]⟩ (v_index rfl trivial rfl (ble _ _ rfl) rfl rfl (i_str und9 e10 rfl)) ?_
      refine sq_cons ⟨_, [(.t 16, nV .u8 (andI .u8 (bt t0 t10) 127))]⟩ (v_bin rfl trivial rfl (ble _ _ rfl) rfl rfl (b_and rfl)) ?_
      refine sq_cons ⟨_, [(.t 17, iV (IntKind.wrap .i64 (andI .u8 (bt t0 t10) 127)))]⟩ (v_conv rfl trivial rfl (ble _ _ rfl) rfl (c_int und5 und3 rfl)) ?_
      refine sq_cons ⟨_, [(.t 7, iV (IntKind.wrap .i64 (andI .u8 (bt t0 t10) 127)))]⟩ (v_move (.inr rfl) trivial rfl (ble _ _ rfl) rfl) ?_
      refine sq_nil ?_
      refine ht_block ?_
      refine ht_seq ?_
      refine ht_region ?_
      refine sq_cons ⟨_, [(.t 29, iV t10)]⟩ (v_move (.inl rfl) trivial rfl (ble _ _ rfl) rfl) ?_
      refine sq_cons ⟨_, [(.t 30, bV (ltI 8 t10))]⟩ (v_bin rfl trivial rfl (ble _ _ rfl) rfl rfl (b_gtr rfl)) ?_
      refine sq_cons ⟨_, [(.t 31, bV (ltI 8 t10))]⟩ (v_move (.inl rfl) trivial rfl (ble _ _ rfl) rfl) ?_
      refine sq_cons ⟨_, [(.t 32, mg (ltI 8 t10) (sV t0))]⟩ (v_cT rfl rfl rfl (ble _ _ rfl) rfl fun e11 => (v_move (.inl rfl) ⟨_, rfl, be e11⟩ rfl (ble _ _ rfl) rfl)) ?_
      refine sq_cons ⟨_, [(.t 33, mg (ltI 8 t10) (iV t10))]⟩ (v_cT rfl rfl rfl (ble _ _ rfl) rfl fun e12 => (v_move (.inl rfl) ⟨_, rfl, be e12⟩ rfl (ble _ _ rfl) rfl)) ?_
      obtain ⟨e14, h⟩ := gpos h
      refine sq_cons ⟨_, [(.t 34, mg (ltI 8 t10) (nV .u8 (bt t0 t10)))]⟩ (v_cT rfl rfl rfl (ble _ _ rfl) rfl fun e13 => (v_index rfl ⟨_, rfl, be e13⟩ rfl (ble _ _ rfl) (gv e13) (gv e13) (i_str und9 (orT e14 e13) rfl))) ?_
      refine sq_cons ⟨_, [(.t 35, mg (ltI 8 t10) (bV (leI 128 (bt t0 t10))))]⟩ (v_cT rfl rfl rfl (ble _ _ rfl) rfl fun e15 => (v_bin rfl ⟨_, rfl, be e15⟩ rfl (ble _ _ rfl) (gv e15) rfl (b_geq rfl))) ?_
      refine sq_cons ⟨_, [(.t 36, mg (ltI 8 t10) (bV (leI 128 (bt t0 t10))))]⟩ (v_cT rfl rfl rfl (ble _ _ rfl) rfl fun e16 => (v_move (.inl rfl) ⟨_, rfl, be e16⟩ rfl (ble _ _ rfl) (gv e16))) ?_
      refine sq_cons ⟨_, [(.t 37, mg ((ltI 8 t10) && (!(leI 128 (bt t0 t10)))) (iV (IntKind.wrap .i64 (andI .u8 (bt t0 t10) 127))))]⟩ (v_mF rfl rfl rfl (ble _ _ rfl) rfl fun e17 e18 => (v_move (.inl rfl) ⟨_, rfl, bm e17 e18⟩ rfl (ble _ _ rfl) rfl)) ?_
      refine sq_cons ⟨_, [(.t 38, mg ((ltI 8 t10) && (!(leI 128 (bt t0 t10)))) (bV (ltI 0 (IntKind.wrap .i64 (andI .u8 (bt t0 t10) 127)))))]⟩ (v_mF rfl rfl rfl (ble _ _ rfl) rfl fun e19 e20 => (v_bin rfl ⟨_, rfl, bm e19 e20⟩ rfl (ble _ _ rfl) (gv (aT e19 (nF e20))) rfl (b_gtr rfl))) ?_
      refine sq_cons ⟨_, [(.t 39, mg (ltI 8 t10) (bV ((leI 128 (bt t0 t10)) || (ltI 0 (IntKind.wrap .i64 (andI .u8 (bt t0 t10) 127))))))]⟩ (v_cT rfl rfl rfl (ble _ _ rfl) rfl fun e21 => (v_pickB rfl ⟨_, rfl, be e21⟩ rfl (ble _ _ rfl) (gv e21) (fun e22 => rfl) (fun e23 => (gv (aT e21 (nF e23)))) (pO _ _))) ?_
      refine sq_cons ⟨_, [(.t 40, bV ((ltI 8 t10) && ((leI 128 (bt t0 t10)) || (ltI 0 (IntKind.wrap .i64 (andI .u8 (bt t0 t10) 127))))))]⟩ (v_pickB rfl trivial rfl (ble _ _ rfl) rfl (fun e24 => (gv e24)) (fun e25 => rfl) (pA _ _)) ?_
      refine sq_cons ⟨_, [(.t 28, bV ((ltI 8 t10) && ((leI 128 (bt t0 t10)) || (ltI 0 (IntKind.wrap .i64 (andI .u8 (bt t0 t10) 127))))))]⟩ (v_move (.inr rfl) trivial rfl (ble _ _ rfl) rfl) ?_
      refine sq_nil ?_
      refine ht_cond (b := ((ltI 8 t10) && ((leI 128 (bt t0 t10)) || (ltI 0 (IntKind.wrap .i64 (andI .u8 (bt t0 t10) 127)))))) rfl (fun e26 => ?_) (fun e26 => ?_)
      · replace h := cpos e26 h
        refine ht_seq ?_
        refine ht_region ?_
        refine sq_cons ⟨_, [(.t 41, sV t0)]⟩ (v_move (.inl rfl) trivial rfl (ble _ _ rfl) rfl) ?_
        obtain ⟨t42, c27, h⟩ := bpos h
        refine sq_cons ⟨_, [(.t 42, iV t42)]⟩ (w_call (ds := [(.s (.string t0))]) (caps := []) (l := [(.s (.int .i64 t42))]) (s18 k t0 _ c27) rfl rfl rfl en18 trivial rfl (ble _ _ rfl) (.inl ⟨rfl, rfl⟩) rfl rfl) ?_
        refine sq_cons ⟨_, [(.t 2, iV 0)]⟩ (v_move (.inr rfl) trivial rfl (ble _ _ rfl) rfl) ?_
        refine sq_cons ⟨_, [(.t 3, sV (⟨#[]⟩ : ByteArray))]⟩ (v_move (.inr rfl) trivial rfl (ble _ _ rfl) rfl) ?_
        refine sq_cons ⟨_, [(.t 4, iV t42)]⟩ (v_move (.inr rfl) trivial rfl (ble _ _ rfl) rfl) ?_
        refine sq_nil ?_
        refine ht_ret ?_
        cases h
        cases r5 _ rfl
        exact ret3 rfl (.tmp rfl) (.tmp rfl) (.tmp rfl)
      · replace h := cneg e26 h
        refine ht_seq ?_
        refine ht_region ?_
        refine sq_cons ⟨_, [(.t 44, sV t0)]⟩ (v_move (.inl rfl) trivial rfl (ble _ _ rfl) rfl) ?_
        refine sq_cons ⟨_, [(.t 45, iV t10)]⟩ (v_move (.inl rfl) trivial rfl (ble _ _ rfl) rfl) ?_
        obtain ⟨e28, h⟩ := gpos h
        refine sq_cons ⟨_, [(.t 46, nV .u8 (bt t0 t10))]⟩ (v_index rfl trivial rfl (ble _ _ rfl) rfl rfl (i_str und9 e28 rfl)) ?_
        refine sq_cons ⟨_, [(.t 47, bV (leI 128 (bt t0 t10)))]⟩ (v_bin rfl trivial rfl (ble _ _ rfl) rfl rfl (b_geq rfl)) ?_
        refine sq_cons ⟨_, [(.t 43, bV (leI 128 (bt t0 t10)))]⟩ (v_move (.inr rfl) trivial rfl (ble _ _ rfl) rfl) ?_
        refine sq_nil ?_
        refine ht_cond (b := (leI 128 (bt t0 t10))) rfl (fun e29 => ?_) (fun e29 => ?_)
        · replace h := cpos e29 h
          refine ht_region ?_
          refine sq_cons ⟨_, [(.t 48, iV t5)]⟩ (v_move (.inl rfl) trivial rfl (ble _ _ rfl) rfl) ?_
          refine sq_cons ⟨_, [(.t 49, iV (IntKind.wrap .i64 (andI .u8 (bt t0 t10) 127)))]⟩ (v_move (.inl rfl) trivial rfl (ble _ _ rfl) rfl) ?_
          refine sq_cons ⟨_, [(.t 50, iV t10)]⟩ (v_move (.inl rfl) trivial rfl (ble _ _ rfl) rfl) ?_
          refine sq_cons ⟨_, [(.t 51, iV (IntKind.wrap .i64 (7 * t10)))]⟩ (v_bin rfl trivial rfl (ble _ _ rfl) rfl rfl (b_mul rfl)) ?_
          obtain ⟨e30, h⟩ := gpos h
          obtain ⟨t52, q31, h⟩ := bndp h
          refine sq_cons ⟨_, [(.t 52, iV t52)]⟩ (v_bin rfl trivial rfl (ble _ _ rfl) rfl rfl (b_shl e30 q31)) ?_
          refine sq_cons ⟨_, [(.t 53, iV (orI .i64 t5 t52))]⟩ (v_bin rfl trivial rfl (ble _ _ rfl) rfl rfl (b_or rfl)) ?_
          refine sq_cons ⟨_, [(.t 5, iV (orI .i64 t5 t52))]⟩ (v_move (.inr rfl) trivial rfl (ble _ _ rfl) rfl) ?_
          refine sq_nil ?_
          refine ht_region ?_
          refine sq_cons ⟨_, [(.t 61, iV (IntKind.wrap .i64 (t10 + 1)))]⟩ (v_bin rfl trivial rfl (ble _ _ rfl) rfl rfl (b_add rfl)) ?_
          refine sq_cons ⟨_, [(.t 10, iV (IntKind.wrap .i64 (t10 + 1)))]⟩ (v_move (.inl rfl) trivial rfl (ble _ _ rfl) rfl) ?_
          refine sq_nil ?_
          exact j7 _ _ h (wk_ren _ (fun i => i) rfl ⟨rfl, rfl, rfl, rfl, trivial⟩)
        · replace h := cneg e29 h
          refine ht_seq ?_
          refine ht_region ?_
          refine sq_cons ⟨_, [(.t 55, iV (IntKind.wrap .i64 (andI .u8 (bt t0 t10) 127)))]⟩ (v_move (.inl rfl) trivial rfl (ble _ _ rfl) rfl) ?_
          refine sq_cons ⟨_, [(.t 56, bV (eqI (IntKind.wrap .i64 (andI .u8 (bt t0 t10) 127)) 0))]⟩ (v_bin rfl trivial rfl (ble _ _ rfl) rfl rfl (b_eql rfl)) ?_
          refine sq_cons ⟨_, [(.t 57, bV (eqI (IntKind.wrap .i64 (andI .u8 (bt t0 t10) 127)) 0))]⟩ (v_move (.inl rfl) trivial rfl (ble _ _ rfl) rfl) ?_
          refine sq_cons ⟨_, [(.t 58, mg (eqI (IntKind.wrap .i64 (andI .u8 (bt t0 t10) 127)) 0) (iV t10))]⟩ (v_cT rfl rfl rfl (ble _ _ rfl) rfl fun e32 => (v_move (.inl rfl) ⟨_, rfl, be e32⟩ rfl (ble _ _ rfl) rfl)) ?_
          refine sq_cons ⟨_, [(.t 59, mg (eqI (IntKind.wrap .i64 (andI .u8 (bt t0 t10) 127)) 0) (bV (ltI 0 t10)))]⟩ (v_cT rfl rfl rfl (ble _ _ rfl) rfl fun e33 => (v_bin rfl ⟨_, rfl, be e33⟩ rfl (ble _ _ rfl) (gv e33) rfl (b_gtr rfl))) ?_
          refine sq_cons ⟨_, [(.t 60, bV ((eqI (IntKind.wrap .i64 (andI .u8 (bt t0 t10) 127)) 0) && (ltI 0 t10)))]⟩ (v_pickB rfl trivial rfl (ble _ _ rfl) rfl (fun e34 => (gv e34)) (fun e35 => rfl) (pA _ _)) ?_
          refine sq_cons ⟨_, [(.t 54, bV ((eqI (IntKind.wrap .i64 (andI .u8 (bt t0 t10) 127)) 0) && (ltI 0 t10)))]⟩ (v_move (.inr rfl) trivial rfl (ble _ _ rfl) rfl) ?_
          refine sq_nil ?_
          refine ht_cond (b := ((eqI (IntKind.wrap .i64 (andI .u8 (bt t0 t10) 127)) 0) && (ltI 0 t10))) rfl (fun e36 => ?_) (fun e36 => ?_)
          · replace h := cpos e36 h
            refine ht_seq ?_
            refine ht_region ?_
            refine sq_cons ⟨_, [(.t 2, iV 0)]⟩ (v_move (.inr rfl) trivial rfl (ble _ _ rfl) rfl) ?_
            refine sq_cons ⟨_, [(.t 3, sV (⟨#[]⟩ : ByteArray))]⟩ (v_move (.inr rfl) trivial rfl (ble _ _ rfl) rfl) ?_
            refine sq_cons ⟨_, [(.t 4, iV 3)]⟩ (v_move (.inr rfl) trivial rfl (ble _ _ rfl) rfl) ?_
            refine sq_nil ?_
            refine ht_ret ?_
            cases h
            cases r5 _ rfl
            exact ret3 rfl (.tmp rfl) (.tmp rfl) (.tmp rfl)
          · replace h := cneg e36 h
            refine ht_seq ?_
            refine ht_region_draw mixed ?_
            refine rg_cons ⟨_, [(.t 18, iV t5)]⟩ (v_move (.inl rfl) trivial rfl (ble _ _ rfl) rfl) ?_
            refine rg_cons ⟨_, [(.t 19, iV (IntKind.wrap .i64 (andI .u8 (bt t0 t10) 127)))]⟩ (v_move (.inl rfl) trivial rfl (ble _ _ rfl) rfl) ?_
            refine rg_cons ⟨_, [(.t 20, iV t10)]⟩ (v_move (.inl rfl) trivial rfl (ble _ _ rfl) rfl) ?_
            refine rg_cons ⟨_, [(.t 21, iV (IntKind.wrap .i64 (7 * t10)))]⟩ (v_bin rfl trivial rfl (ble _ _ rfl) rfl rfl (b_mul rfl)) ?_
            obtain ⟨e37, h⟩ := gpos h
            obtain ⟨t22, q38, h⟩ := bndp h
            refine rg_cons ⟨_, [(.t 22, iV t22)]⟩ (v_bin rfl trivial rfl (ble _ _ rfl) rfl rfl (b_shl e37 q38)) ?_
            refine rg_cons ⟨_, [(.t 23, iV (orI .i64 t5 t22))]⟩ (v_bin rfl trivial rfl (ble _ _ rfl) rfl rfl (b_or rfl)) ?_
            refine rg_cons ⟨_, [(.t 24, sV t0)]⟩ (v_move (.inl rfl) trivial rfl (ble _ _ rfl) rfl) ?_
            refine rg_cons ⟨_, [(.t 25, iV t10)]⟩ (v_move (.inl rfl) trivial rfl (ble _ _ rfl) rfl) ?_
            refine rg_cons ⟨_, [(.t 26, iV (IntKind.wrap .i64 (t10 + 1)))]⟩ (v_bin rfl trivial rfl (ble _ _ rfl) rfl rfl (b_add rfl)) ?_
            obtain ⟨e39, h⟩ := gpos h
            refine rg_cons ⟨_, [(.t 27, sV (t0.extract (IntKind.wrap .i64 (t10 + 1)).toNat (t0.size : Int).toNat))]⟩ (w_cut_str t0 (IntKind.wrap .i64 (t10 + 1)) (t0.size : Int) rfl trivial rfl (ble _ _ rfl) und9 rfl (.inr ⟨_, _, rfl, rfl⟩) (.inl ⟨rfl, rfl⟩) e39) ?_
            refine rg_cons ⟨_, [(.t 2, iV (orI .i64 t5 t22))]⟩ (v_move (.inr rfl) trivial rfl (ble _ _ rfl) rfl) ?_
            refine rg_cons ⟨_, [(.t 3, sV (t0.extract (IntKind.wrap .i64 (t10 + 1)).toNat (t0.size : Int).toNat))]⟩ (v_move (.inr rfl) trivial rfl (ble _ _ rfl) rfl) ?_
            refine rg_cons ⟨_, [(.t 4, iV 0)]⟩ (v_move (.inr rfl) trivial rfl (ble _ _ rfl) rfl) ?_
            refine rg_nil ⟨rfl, ?_⟩
            refine ht_ret ?_
            cases h
            cases r5 _ rfl
            exact ret3 rfl (.tmp rfl) (.tmp rfl) (.tmp rfl)
    · replace h := cneg e9 h
      refine ht_exit ?_
      refine tq ?_
      refine tq ?_
      refine bq_hit ?_
      cases h
      exact j4 _ _ rfl (wk_ren _ (fun i => i) rfl trivial)
set_option maxHeartbeats 4000000 in
theorem s16 {A : Amb} (k : Nat) (t0 : ByteArray) (r : ByteArray × Int) (h : F16 k t0 = some r) : Awp.Spec Try.prog A 16 [(.s (.string t0))] (.ds [(.s (.string r.1)), (.s (.int .i64 r.2))]) := by
  rw [F16] at h
  refine spec_of Try.func16 rfl (ble _ _ rfl) fun w0 ok0 lt0 hA => ?_
  refine ht_seq ?_
  refine ht_region ?_
  refine sq_cons ⟨_, [(.t 2, sV (⟨#[]⟩ : ByteArray))]⟩ (v_move (.inr rfl) trivial rfl (ble _ _ rfl) rfl) ?_
  refine sq_cons ⟨_, [(.t 3, iV 0)]⟩ (v_move (.inr rfl) trivial rfl (ble _ _ rfl) rfl) ?_
  refine sq_nil ?_
  refine ht_seq ?_
  refine ht_region ?_
  refine sq_cons ⟨_, [(.t 5, sV t0)]⟩ (v_move (.inl rfl) trivial rfl (ble _ _ rfl) rfl) ?_
  refine sq_cons ⟨_, [(.t 6, iV (t0.size : Int))]⟩ (v_len_str rfl rfl trivial rfl (ble _ _ rfl) und9 rfl) ?_
  refine sq_cons ⟨_, [(.t 7, iV (IntKind.wrap .i64 ((t0.size : Int) - 4)))]⟩ (v_bin rfl trivial rfl (ble _ _ rfl) rfl rfl (b_sub rfl)) ?_
  refine sq_cons ⟨_, [(.t 4, iV (IntKind.wrap .i64 ((t0.size : Int) - 4)))]⟩ (v_move (.inr rfl) trivial rfl (ble _ _ rfl) rfl) ?_
  refine sq_nil ?_
  refine ht_seq ?_
  refine ht_block ?_
  refine ht_seq ?_
  refine ht_region ?_
  refine sq_cons ⟨_, [(.t 9, iV (IntKind.wrap .i64 ((t0.size : Int) - 4)))]⟩ (v_move (.inl rfl) trivial rfl (ble _ _ rfl) rfl) ?_
  refine sq_cons ⟨_, [(.t 10, bV (ltI (IntKind.wrap .i64 ((t0.size : Int) - 4)) 0))]⟩ (v_bin rfl trivial rfl (ble _ _ rfl) rfl rfl (b_lss rfl)) ?_
  refine sq_cons ⟨_, [(.t 8, bV (ltI (IntKind.wrap .i64 ((t0.size : Int) - 4)) 0))]⟩ (v_move (.inr rfl) trivial rfl (ble _ _ rfl) rfl) ?_
  refine sq_nil ?_
  refine ht_cond (b := (ltI (IntKind.wrap .i64 ((t0.size : Int) - 4)) 0)) rfl (fun e1 => ?_) (fun e1 => ?_)
  · replace h := cpos e1 h
    refine ht_seq ?_
    refine ht_region ?_
    refine sq_cons ⟨_, [(.t 2, sV (⟨#[]⟩ : ByteArray))]⟩ (v_move (.inr rfl) trivial rfl (ble _ _ rfl) rfl) ?_
    refine sq_cons ⟨_, [(.t 3, iV 2)]⟩ (v_move (.inr rfl) trivial rfl (ble _ _ rfl) rfl) ?_
    refine sq_nil ?_
    refine ht_ret ?_
    cases h
    exact ret2 rfl (.tmp rfl) (.tmp rfl)
  · replace h := cneg e1 h
    refine ht_seq ?_
    refine ht_region ?_
    refine sq_cons ⟨_, [(.t 12, sV t0)]⟩ (v_move (.inl rfl) trivial rfl (ble _ _ rfl) rfl) ?_
    refine sq_cons ⟨_, [(.t 13, iV (IntKind.wrap .i64 ((t0.size : Int) - 4)))]⟩ (v_move (.inl rfl) trivial rfl (ble _ _ rfl) rfl) ?_
    obtain ⟨e2, h⟩ := gpos h
    refine sq_cons ⟨_, [(.t 14, sV (t0.extract (0 : Int).toNat (IntKind.wrap .i64 ((t0.size : Int) - 4)).toNat))]⟩ (w_cut_str t0 0 (IntKind.wrap .i64 ((t0.size : Int) - 4)) rfl trivial rfl (ble _ _ rfl) und9 rfl (.inl ⟨rfl, rfl⟩) (.inr ⟨_, _, rfl, rfl⟩) e2) ?_
    obtain ⟨t15, c3, h⟩ := bpos h
    refine sq_cons ⟨_, [(.t 15, sV t15)]⟩ (w_call (ds := [(.s (.string (t0.extract (0 : Int).toNat (IntKind.wrap .i64 ((t0.size : Int) - 4)).toNat)))]) (caps := []) (l := [(.s (.string t15))]) (s7 k (t0.extract (0 : Int).toNat (IntKind.wrap .i64 ((t0.size : Int) - 4)).toNat) _ c3) rfl rfl rfl en7 trivial rfl (ble _ _ rfl) (.inl ⟨rfl, rfl⟩) rfl rfl) ?_
    refine sq_cons ⟨_, [(.t 16, sV t0)]⟩ (v_move (.inl rfl) trivial rfl (ble _ _ rfl) rfl) ?_
    refine sq_cons ⟨_, [(.t 17, bV (!strEq t15 t0))]⟩ (v_bin rfl trivial rfl (ble _ _ rfl) rfl rfl (b_neS rfl)) ?_
    refine sq_cons ⟨_, [(.t 11, bV (!strEq t15 t0))]⟩ (v_move (.inr rfl) trivial rfl (ble _ _ rfl) rfl) ?_
    refine sq_nil ?_
    refine ht_cond (b := (!strEq t15 t0)) rfl (fun e4 => ?_) (fun e4 => ?_)
    · replace h := cpos e4 h
      refine ht_seq ?_
      refine ht_region ?_
      refine sq_cons ⟨_, [(.t 2, sV (⟨#[]⟩ : ByteArray))]⟩ (v_move (.inr rfl) trivial rfl (ble _ _ rfl) rfl) ?_
      refine sq_cons ⟨_, [(.t 3, iV 4)]⟩ (v_move (.inr rfl) trivial rfl (ble _ _ rfl) rfl) ?_
      refine sq_nil ?_
      refine ht_ret ?_
      cases h
      exact ret2 rfl (.tmp rfl) (.tmp rfl)
    · replace h := cneg e4 h
      refine ht_skip ?_
      refine ht_seq ?_
      refine ht_region ?_
      refine sq_cons ⟨_, [(.t 18, sV t0)]⟩ (v_move (.inl rfl) trivial rfl (ble _ _ rfl) rfl) ?_
      refine sq_cons ⟨_, [(.t 19, iV (IntKind.wrap .i64 ((t0.size : Int) - 4)))]⟩ (v_move (.inl rfl) trivial rfl (ble _ _ rfl) rfl) ?_
      obtain ⟨e5, h⟩ := gpos h
      refine sq_cons ⟨_, [(.t 20, sV (t0.extract (0 : Int).toNat (IntKind.wrap .i64 ((t0.size : Int) - 4)).toNat))]⟩ (w_cut_str t0 0 (IntKind.wrap .i64 ((t0.size : Int) - 4)) rfl trivial rfl (ble _ _ rfl) und9 rfl (.inl ⟨rfl, rfl⟩) (.inr ⟨_, _, rfl, rfl⟩) e5) ?_
      refine sq_cons ⟨_, [(.t 2, sV (t0.extract (0 : Int).toNat (IntKind.wrap .i64 ((t0.size : Int) - 4)).toNat))]⟩ (v_move (.inr rfl) trivial rfl (ble _ _ rfl) rfl) ?_
      refine sq_cons ⟨_, [(.t 3, iV 0)]⟩ (v_move (.inr rfl) trivial rfl (ble _ _ rfl) rfl) ?_
      refine sq_nil ?_
      refine ht_ret ?_
      cases h
      exact ret2 rfl (.tmp rfl) (.tmp rfl)
set_option maxHeartbeats 4000000 in
theorem s9 {A : Amb} (k : Nat) (t0 : ByteArray) (r : ByteArray × ByteArray × Int) (h : F9 k t0 = some r) : Awp.Spec Try.prog A 9 [(.s (.string t0))] (.ds [(.s (.string r.1)), (.s (.string r.2.1)), (.s (.int .i64 r.2.2))]) := by
  rw [F9] at h
  refine spec_of Try.func9 rfl (ble _ _ rfl) fun w0 ok0 lt0 hA => ?_
  refine ht_seq ?_
  refine ht_region ?_
  refine sq_cons ⟨_, [(.t 2, sV (⟨#[]⟩ : ByteArray))]⟩ (v_move (.inr rfl) trivial rfl (ble _ _ rfl) rfl) ?_
  refine sq_cons ⟨_, [(.t 3, sV (⟨#[]⟩ : ByteArray))]⟩ (v_move (.inr rfl) trivial rfl (ble _ _ rfl) rfl) ?_
  refine sq_cons ⟨_, [(.t 4, iV 0)]⟩ (v_move (.inr rfl) trivial rfl (ble _ _ rfl) rfl) ?_
  refine sq_nil ?_
  refine ht_seq ?_
  refine ht_region ?_
  refine sq_cons ⟨_, [(.t 12, sV t0)]⟩ (v_move (.inl rfl) trivial rfl (ble _ _ rfl) rfl) ?_
  obtain ⟨⟨t13a, t13b, t13c⟩, c1, h⟩ := bpos h
  refine sq_cons ⟨_, [(.t 13, .tup [iV t13a, sV t13b, iV t13c])]⟩ (w_call (ds := [(.s (.string t0))]) (caps := []) (l := [(.s (.int .i64 t13a)), (.s (.string t13b)), (.s (.int .i64 t13c))]) (s15 k t0 _ c1) rfl rfl rfl en15 trivial rfl (ble _ _ rfl) (.inl ⟨rfl, rfl⟩) rfl rfl) ?_
  refine sq_cons ⟨_, [(.t 11, .tup [iV t13a, sV t13b, iV t13c])]⟩ (v_move (.inl rfl) trivial rfl (ble _ _ rfl) rfl) ?_
  refine sq_cons ⟨_, [(.t 14, iV t13a)]⟩ (v_extract rfl trivial rfl (ble _ _ rfl) rfl rfl) ?_
  refine sq_cons ⟨_, [(.t 15, sV t13b)]⟩ (v_extract rfl trivial rfl (ble _ _ rfl) rfl rfl) ?_
  refine sq_cons ⟨_, [(.t 16, iV t13c)]⟩ (v_extract rfl trivial rfl (ble _ _ rfl) rfl rfl) ?_
  refine sq_cons ⟨_, [(.t 5, iV t13a)]⟩ (v_move (.inr rfl) trivial rfl (ble _ _ rfl) rfl) ?_
  refine sq_cons ⟨_, [(.t 6, sV t13b)]⟩ (v_move (.inr rfl) trivial rfl (ble _ _ rfl) rfl) ?_
  refine sq_cons ⟨_, [(.t 7, iV t13c)]⟩ (v_move (.inr rfl) trivial rfl (ble _ _ rfl) rfl) ?_
  refine sq_nil ?_
  refine ht_seq ?_
  refine ht_block ?_
  refine ht_seq ?_
  refine ht_region ?_
  refine sq_cons ⟨_, [(.t 18, iV t13c)]⟩ (v_move (.inl rfl) trivial rfl (ble _ _ rfl) rfl) ?_
  refine sq_cons ⟨_, [(.t 19, bV (!eqI t13c 0))]⟩ (v_bin rfl trivial rfl (ble _ _ rfl) rfl rfl (b_neq rfl)) ?_
  refine sq_cons ⟨_, [(.t 17, bV (!eqI t13c 0))]⟩ (v_move (.inr rfl) trivial rfl (ble _ _ rfl) rfl) ?_
  refine sq_nil ?_
  refine ht_cond (b := (!eqI t13c 0)) rfl (fun e2 => ?_) (fun e2 => ?_)
  · replace h := cpos e2 h
    refine ht_seq ?_
    refine ht_region ?_
    refine sq_cons ⟨_, [(.t 20, iV t13c)]⟩ (v_move (.inl rfl) trivial rfl (ble _ _ rfl) rfl) ?_
    refine sq_cons ⟨_, [(.t 2, sV (⟨#[]⟩ : ByteArray))]⟩ (v_move (.inr rfl) trivial rfl (ble _ _ rfl) rfl) ?_
    refine sq_cons ⟨_, [(.t 3, sV (⟨#[]⟩ : ByteArray))]⟩ (v_move (.inr rfl) trivial rfl (ble _ _ rfl) rfl) ?_
    refine sq_cons ⟨_, [(.t 4, iV t13c)]⟩ (v_move (.inr rfl) trivial rfl (ble _ _ rfl) rfl) ?_
    refine sq_nil ?_
    refine ht_ret ?_
    cases h
    exact ret3 rfl (.tmp rfl) (.tmp rfl) (.tmp rfl)
  · replace h := cneg e2 h
    refine ht_seq ?_
    refine ht_region ?_
    refine sq_cons ⟨_, [(.t 22, iV t13a)]⟩ (v_move (.inl rfl) trivial rfl (ble _ _ rfl) rfl) ?_
    refine sq_cons ⟨_, [(.t 23, bV (ltI 1048576 t13a))]⟩ (v_bin rfl trivial rfl (ble _ _ rfl) rfl rfl (b_gtr rfl)) ?_
    refine sq_cons ⟨_, [(.t 21, bV (ltI 1048576 t13a))]⟩ (v_move (.inr rfl) trivial rfl (ble _ _ rfl) rfl) ?_
    refine sq_nil ?_
    refine ht_cond (b := (ltI 1048576 t13a)) rfl (fun e3 => ?_) (fun e3 => ?_)
    · replace h := cpos e3 h
      refine ht_seq ?_
      refine ht_region ?_
      refine sq_cons ⟨_, [(.t 2, sV (⟨#[]⟩ : ByteArray))]⟩ (v_move (.inr rfl) trivial rfl (ble _ _ rfl) rfl) ?_
      refine sq_cons ⟨_, [(.t 3, sV (⟨#[]⟩ : ByteArray))]⟩ (v_move (.inr rfl) trivial rfl (ble _ _ rfl) rfl) ?_
      refine sq_cons ⟨_, [(.t 4, iV 3)]⟩ (v_move (.inr rfl) trivial rfl (ble _ _ rfl) rfl) ?_
      refine sq_nil ?_
      refine ht_ret ?_
      cases h
      exact ret3 rfl (.tmp rfl) (.tmp rfl) (.tmp rfl)
    · replace h := cneg e3 h
      refine ht_seq ?_
      refine ht_region ?_
      refine sq_cons ⟨_, [(.t 25, sV t13b)]⟩ (v_move (.inl rfl) trivial rfl (ble _ _ rfl) rfl) ?_
      refine sq_cons ⟨_, [(.t 26, iV (t13b.size : Int))]⟩ (v_len_str rfl rfl trivial rfl (ble _ _ rfl) und9 rfl) ?_
      refine sq_cons ⟨_, [(.t 27, iV t13a)]⟩ (v_move (.inl rfl) trivial rfl (ble _ _ rfl) rfl) ?_
      refine sq_cons ⟨_, [(.t 28, iV (IntKind.wrap .i64 (t13a + 4)))]⟩ (v_bin rfl trivial rfl (ble _ _ rfl) rfl rfl (b_add rfl)) ?_
      refine sq_cons ⟨_, [(.t 29, bV (ltI (t13b.size : Int) (IntKind.wrap .i64 (t13a + 4))))]⟩ (v_bin rfl trivial rfl (ble _ _ rfl) rfl rfl (b_lss rfl)) ?_
      refine sq_cons ⟨_, [(.t 24, bV (ltI (t13b.size : Int) (IntKind.wrap .i64 (t13a + 4))))]⟩ (v_move (.inr rfl) trivial rfl (ble _ _ rfl) rfl) ?_
      refine sq_nil ?_
      refine ht_cond (b := (ltI (t13b.size : Int) (IntKind.wrap .i64 (t13a + 4)))) rfl (fun e4 => ?_) (fun e4 => ?_)
      · replace h := cpos e4 h
        refine ht_seq ?_
        refine ht_region ?_
        refine sq_cons ⟨_, [(.t 2, sV (⟨#[]⟩ : ByteArray))]⟩ (v_move (.inr rfl) trivial rfl (ble _ _ rfl) rfl) ?_
        refine sq_cons ⟨_, [(.t 3, sV (⟨#[]⟩ : ByteArray))]⟩ (v_move (.inr rfl) trivial rfl (ble _ _ rfl) rfl) ?_
        refine sq_cons ⟨_, [(.t 4, iV 2)]⟩ (v_move (.inr rfl) trivial rfl (ble _ _ rfl) rfl) ?_
        refine sq_nil ?_
        refine ht_ret ?_
        cases h
        exact ret3 rfl (.tmp rfl) (.tmp rfl) (.tmp rfl)
      · replace h := cneg e4 h
        refine ht_skip ?_
        refine ht_seq ?_
        refine ht_region ?_
        refine sq_cons ⟨_, [(.t 30, sV t0)]⟩ (v_move (.inl rfl) trivial rfl (ble _ _ rfl) rfl) ?_
        refine sq_cons ⟨_, [(.t 31, iV (t0.size : Int))]⟩ (v_len_str rfl rfl trivial rfl (ble _ _ rfl) und9 rfl) ?_
        refine sq_cons ⟨_, [(.t 32, sV t13b)]⟩ (v_move (.inl rfl) trivial rfl (ble _ _ rfl) rfl) ?_
        refine sq_cons ⟨_, [(.t 33, iV (t13b.size : Int))]⟩ (v_len_str rfl rfl trivial rfl (ble _ _ rfl) und9 rfl) ?_
        refine sq_cons ⟨_, [(.t 34, iV (IntKind.wrap .i64 ((t0.size : Int) - (t13b.size : Int))))]⟩ (v_bin rfl trivial rfl (ble _ _ rfl) rfl rfl (b_sub rfl)) ?_
        refine sq_cons ⟨_, [(.t 35, iV t13a)]⟩ (v_move (.inl rfl) trivial rfl (ble _ _ rfl) rfl) ?_
        obtain ⟨t36, q5, h⟩ := bndp h
        refine sq_cons ⟨_, [(.t 36, iV t36)]⟩ (v_bin rfl trivial rfl (ble _ _ rfl) rfl rfl (b_add q5)) ?_
        refine sq_cons ⟨_, [(.t 37, iV (IntKind.wrap .i64 (t36 + 4)))]⟩ (v_bin rfl trivial rfl (ble _ _ rfl) rfl rfl (b_add rfl)) ?_
        refine sq_cons ⟨_, [(.t 8, iV (IntKind.wrap .i64 (t36 + 4)))]⟩ (v_move (.inr rfl) trivial rfl (ble _ _ rfl) rfl) ?_
        refine sq_nil ?_
        refine ht_seq ?_
        refine ht_seq ?_
        refine ht_region ?_
        refine sq_cons ⟨_, [(.t 39, sV t0)]⟩ (v_move (.inl rfl) trivial rfl (ble _ _ rfl) rfl) ?_
        refine sq_cons ⟨_, [(.t 40, iV (IntKind.wrap .i64 (t36 + 4)))]⟩ (v_move (.inl rfl) trivial rfl (ble _ _ rfl) rfl) ?_
        obtain ⟨e6, h⟩ := gpos h
        refine sq_cons ⟨_, [(.t 41, sV (t0.extract (0 : Int).toNat (IntKind.wrap .i64 (t36 + 4)).toNat))]⟩ (w_cut_str t0 0 (IntKind.wrap .i64 (t36 + 4)) rfl trivial rfl (ble _ _ rfl) und9 rfl (.inl ⟨rfl, rfl⟩) (.inr ⟨_, _, rfl, rfl⟩) e6) ?_
        obtain ⟨⟨t42a, t42b⟩, c7, h⟩ := bpos h
        refine sq_cons ⟨_, [(.t 42, .tup [sV t42a, iV t42b])]⟩ (w_call (ds := [(.s (.string (t0.extract (0 : Int).toNat (IntKind.wrap .i64 (t36 + 4)).toNat)))]) (caps := []) (l := [(.s (.string t42a)), (.s (.int .i64 t42b))]) (s16 k (t0.extract (0 : Int).toNat (IntKind.wrap .i64 (t36 + 4)).toNat) _ c7) rfl rfl rfl en16 trivial rfl (ble _ _ rfl) (.inl ⟨rfl, rfl⟩) rfl rfl) ?_
        refine sq_cons ⟨_, [(.t 38, .tup [sV t42a, iV t42b])]⟩ (v_move (.inl rfl) trivial rfl (ble _ _ rfl) rfl) ?_
        refine sq_cons ⟨_, [(.t 43, sV t42a)]⟩ (v_extract rfl trivial rfl (ble _ _ rfl) rfl rfl) ?_
        refine sq_cons ⟨_, [(.t 44, iV t42b)]⟩ (v_extract rfl trivial rfl (ble _ _ rfl) rfl rfl) ?_
        refine sq_cons ⟨_, [(.t 9, sV t42a)]⟩ (v_move (.inr rfl) trivial rfl (ble _ _ rfl) rfl) ?_
        refine sq_cons ⟨_, [(.t 10, iV t42b)]⟩ (v_move (.inr rfl) trivial rfl (ble _ _ rfl) rfl) ?_
        refine sq_nil ?_
        refine ht_seq ?_
        refine ht_region ?_
        refine sq_cons ⟨_, [(.t 45, iV t42b)]⟩ (v_move (.inl rfl) trivial rfl (ble _ _ rfl) rfl) ?_
        refine sq_cons ⟨_, [(.t 46, bV (!eqI t42b 0))]⟩ (v_bin rfl trivial rfl (ble _ _ rfl) rfl rfl (b_neq rfl)) ?_
        refine sq_nil ?_
        refine ht_cond (b := (!eqI t42b 0)) rfl (fun e8 => ?_) (fun e8 => ?_)
        · replace h := cpos e8 h
          refine ht_seq ?_
          refine ht_region ?_
          refine sq_cons ⟨_, [(.t 47, iV t42b)]⟩ (v_move (.inl rfl) trivial rfl (ble _ _ rfl) rfl) ?_
          refine sq_cons ⟨_, [(.t 2, sV (⟨#[]⟩ : ByteArray))]⟩ (v_move (.inr rfl) trivial rfl (ble _ _ rfl) rfl) ?_
          refine sq_cons ⟨_, [(.t 3, sV (⟨#[]⟩ : ByteArray))]⟩ (v_move (.inr rfl) trivial rfl (ble _ _ rfl) rfl) ?_
          refine sq_cons ⟨_, [(.t 4, iV t42b)]⟩ (v_move (.inr rfl) trivial rfl (ble _ _ rfl) rfl) ?_
          refine sq_nil ?_
          refine ht_ret ?_
          cases h
          exact ret3 rfl (.tmp rfl) (.tmp rfl) (.tmp rfl)
        · replace h := cneg e8 h
          refine ht_skip ?_
          refine ht_seq ?_
          refine ht_region_draw mixed ?_
          refine rg_cons ⟨_, [(.t 48, sV t13b)]⟩ (v_move (.inl rfl) trivial rfl (ble _ _ rfl) rfl) ?_
          refine rg_cons ⟨_, [(.t 49, iV t13a)]⟩ (v_move (.inl rfl) trivial rfl (ble _ _ rfl) rfl) ?_
          obtain ⟨e9, h⟩ := gpos h
          refine rg_cons ⟨_, [(.t 50, sV (t13b.extract (0 : Int).toNat t13a.toNat))]⟩ (w_cut_str t13b 0 t13a rfl trivial rfl (ble _ _ rfl) und9 rfl (.inl ⟨rfl, rfl⟩) (.inr ⟨_, _, rfl, rfl⟩) e9) ?_
          refine rg_cons ⟨_, [(.t 51, sV t0)]⟩ (v_move (.inl rfl) trivial rfl (ble _ _ rfl) rfl) ?_
          refine rg_cons ⟨_, [(.t 52, iV (IntKind.wrap .i64 (t36 + 4)))]⟩ (v_move (.inl rfl) trivial rfl (ble _ _ rfl) rfl) ?_
          obtain ⟨e10, h⟩ := gpos h
          refine rg_cons ⟨_, [(.t 53, sV (t0.extract (IntKind.wrap .i64 (t36 + 4)).toNat (t0.size : Int).toNat))]⟩ (w_cut_str t0 (IntKind.wrap .i64 (t36 + 4)) (t0.size : Int) rfl trivial rfl (ble _ _ rfl) und9 rfl (.inr ⟨_, _, rfl, rfl⟩) (.inl ⟨rfl, rfl⟩) e10) ?_
          refine rg_cons ⟨_, [(.t 2, sV (t13b.extract (0 : Int).toNat t13a.toNat))]⟩ (v_move (.inr rfl) trivial rfl (ble _ _ rfl) rfl) ?_
          refine rg_cons ⟨_, [(.t 3, sV (t0.extract (IntKind.wrap .i64 (t36 + 4)).toNat (t0.size : Int).toNat))]⟩ (v_move (.inr rfl) trivial rfl (ble _ _ rfl) rfl) ?_
          refine rg_cons ⟨_, [(.t 4, iV 0)]⟩ (v_move (.inr rfl) trivial rfl (ble _ _ rfl) rfl) ?_
          refine rg_nil ⟨rfl, ?_⟩
          refine ht_ret ?_
          cases h
          exact ret3 rfl (.tmp rfl) (.tmp rfl) (.tmp rfl)
set_option maxHeartbeats 4000000 in
theorem s5 {A : Amb} (k : Nat) (r : Bool) (h : F5 k = some r) : Awp.Spec Try.prog A 5 [] (.ds [(.s (.bool r))]) := by
  rw [F5] at h
  refine spec_of Try.func5 rfl (ble _ _ rfl) fun w0 ok0 lt0 hA => ?_
  refine ht_seq ?_
  refine ht_region ?_
  refine sq_cons ⟨_, [(.t 0, bV false)]⟩ (v_move (.inr rfl) trivial rfl (ble _ _ rfl) rfl) ?_
  refine sq_nil ?_
  refine ht_seq ?_
  refine ht_region ?_
  obtain ⟨⟨t7a, t7b⟩, c1, h⟩ := bpos h
  refine sq_cons ⟨_, [(.t 7, .tup [sV t7a, iV t7b])]⟩ (w_call (ds := [(.s (.string (⟨#[97, 98]⟩ : ByteArray)))]) (caps := []) (l := [(.s (.string t7a)), (.s (.int .i64 t7b))]) (s4 k (⟨#[97, 98]⟩ : ByteArray) _ c1) rfl rfl rfl en4 trivial rfl (ble _ _ rfl) (.inl ⟨rfl, rfl⟩) rfl rfl) ?_
  refine sq_cons ⟨_, [(.t 6, .tup [sV t7a, iV t7b])]⟩ (v_move (.inl rfl) trivial rfl (ble _ _ rfl) rfl) ?_
  refine sq_cons ⟨_, [(.t 8, sV t7a)]⟩ (v_extract rfl trivial rfl (ble _ _ rfl) rfl rfl) ?_
  refine sq_cons ⟨_, [(.t 9, iV t7b)]⟩ (v_extract rfl trivial rfl (ble _ _ rfl) rfl rfl) ?_
  refine sq_cons ⟨_, [(.t 1, sV t7a)]⟩ (v_move (.inr rfl) trivial rfl (ble _ _ rfl) rfl) ?_
  refine sq_cons ⟨_, [(.t 2, iV t7b)]⟩ (v_move (.inr rfl) trivial rfl (ble _ _ rfl) rfl) ?_
  refine sq_nil ?_
  refine ht_seq ?_
  refine ht_region ?_
  refine sq_cons ⟨_, [(.t 11, sV t7a)]⟩ (v_move (.inl rfl) trivial rfl (ble _ _ rfl) rfl) ?_
  obtain ⟨e2, h⟩ := gpos h
  refine sq_cons ⟨_, [(.t 12, sV (t7a ++ (⟨#[120]⟩ : ByteArray)))]⟩ (v_bin rfl trivial rfl (ble _ _ rfl) rfl rfl (b_cat e2 rfl)) ?_
  obtain ⟨⟨t13a, t13b, t13c⟩, c3, h⟩ := bpos h
  refine sq_cons ⟨_, [(.t 13, .tup [sV t13a, sV t13b, iV t13c])]⟩ (w_call (ds := [(.s (.string (t7a ++ (⟨#[120]⟩ : ByteArray))))]) (caps := []) (l := [(.s (.string t13a)), (.s (.string t13b)), (.s (.int .i64 t13c))]) (s9 k (t7a ++ (⟨#[120]⟩ : ByteArray)) _ c3) rfl rfl rfl en9 trivial rfl (ble _ _ rfl) (.inl ⟨rfl, rfl⟩) rfl rfl) ?_
  refine sq_cons ⟨_, [(.t 10, .tup [sV t13a, sV t13b, iV t13c])]⟩ (v_move (.inl rfl) trivial rfl (ble _ _ rfl) rfl) ?_
  refine sq_cons ⟨_, [(.t 14, sV t13a)]⟩ (v_extract rfl trivial rfl (ble _ _ rfl) rfl rfl) ?_
  refine sq_cons ⟨_, [(.t 15, sV t13b)]⟩ (v_extract rfl trivial rfl (ble _ _ rfl) rfl rfl) ?_
  refine sq_cons ⟨_, [(.t 16, iV t13c)]⟩ (v_extract rfl trivial rfl (ble _ _ rfl) rfl rfl) ?_
  refine sq_cons ⟨_, [(.t 3, sV t13a)]⟩ (v_move (.inr rfl) trivial rfl (ble _ _ rfl) rfl) ?_
  refine sq_cons ⟨_, [(.t 4, sV t13b)]⟩ (v_move (.inr rfl) trivial rfl (ble _ _ rfl) rfl) ?_
  refine sq_cons ⟨_, [(.t 5, iV t13c)]⟩ (v_move (.inr rfl) trivial rfl (ble _ _ rfl) rfl) ?_
  refine sq_nil ?_
  refine ht_seq ?_
  refine ht_region ?_
  refine sq_cons ⟨_, [(.t 17, sV t7a)]⟩ (v_move (.inl rfl) trivial rfl (ble _ _ rfl) rfl) ?_
  refine sq_cons ⟨_, [(.t 18, iV (t7a.size : Int))]⟩ (v_len_str rfl rfl trivial rfl (ble _ _ rfl) und9 rfl) ?_
  refine sq_cons ⟨_, [(.t 19, bV (eqI (t7a.size : Int) 7))]⟩ (v_bin rfl trivial rfl (ble _ _ rfl) rfl rfl (b_eql rfl)) ?_
  refine sq_cons ⟨_, [(.t 20, bV (eqI (t7a.size : Int) 7))]⟩ (v_move (.inl rfl) trivial rfl (ble _ _ rfl) rfl) ?_
  refine sq_cons ⟨_, [(.t 21, mg (eqI (t7a.size : Int) 7) (iV t7b))]⟩ (v_cT rfl rfl rfl (ble _ _ rfl) rfl fun e4 => (v_move (.inl rfl) ⟨_, rfl, be e4⟩ rfl (ble _ _ rfl) rfl)) ?_
  refine sq_cons ⟨_, [(.t 22, mg (eqI (t7a.size : Int) 7) (bV (eqI t7b 0)))]⟩ (v_cT rfl rfl rfl (ble _ _ rfl) rfl fun e5 => (v_bin rfl ⟨_, rfl, be e5⟩ rfl (ble _ _ rfl) (gv e5) rfl (b_eql rfl))) ?_
  refine sq_cons ⟨_, [(.t 23, bV ((eqI (t7a.size : Int) 7) && (eqI t7b 0)))]⟩ (v_pickB rfl trivial rfl (ble _ _ rfl) rfl (fun e6 => (gv e6)) (fun e7 => rfl) (pA _ _)) ?_
  refine sq_cons ⟨_, [(.t 24, bV ((eqI (t7a.size : Int) 7) && (eqI t7b 0)))]⟩ (v_move (.inl rfl) trivial rfl (ble _ _ rfl) rfl) ?_
  refine sq_cons ⟨_, [(.t 25, mg ((eqI (t7a.size : Int) 7) && (eqI t7b 0)) (sV t13a))]⟩ (v_cT rfl rfl rfl (ble _ _ rfl) rfl fun e8 => (v_move (.inl rfl) ⟨_, rfl, be e8⟩ rfl (ble _ _ rfl) rfl)) ?_
  refine sq_cons ⟨_, [(.t 26, mg ((eqI (t7a.size : Int) 7) && (eqI t7b 0)) (bV (strEq t13a (⟨#[97, 98]⟩ : ByteArray))))]⟩ (v_cT rfl rfl rfl (ble _ _ rfl) rfl fun e9 => (v_bin rfl ⟨_, rfl, be e9⟩ rfl (ble _ _ rfl) (gv e9) rfl (b_eqS rfl))) ?_
  refine sq_cons ⟨_, [(.t 27, bV (((eqI (t7a.size : Int) 7) && (eqI t7b 0)) && (strEq t13a (⟨#[97, 98]⟩ : ByteArray))))]⟩ (v_pickB rfl trivial rfl (ble _ _ rfl) rfl (fun e10 => (gv e10)) (fun e11 => rfl) (pA _ _)) ?_
  refine sq_cons ⟨_, [(.t 28, bV (((eqI (t7a.size : Int) 7) && (eqI t7b 0)) && (strEq t13a (⟨#[97, 98]⟩ : ByteArray))))]⟩ (v_move (.inl rfl) trivial rfl (ble _ _ rfl) rfl) ?_
  refine sq_cons ⟨_, [(.t 29, mg (((eqI (t7a.size : Int) 7) && (eqI t7b 0)) && (strEq t13a (⟨#[97, 98]⟩ : ByteArray))) (sV t13b))]⟩ (v_cT rfl rfl rfl (ble _ _ rfl) rfl fun e12 => (v_move (.inl rfl) ⟨_, rfl, be e12⟩ rfl (ble _ _ rfl) rfl)) ?_
  refine sq_cons ⟨_, [(.t 30, mg (((eqI (t7a.size : Int) 7) && (eqI t7b 0)) && (strEq t13a (⟨#[97, 98]⟩ : ByteArray))) (bV (strEq t13b (⟨#[120]⟩ : ByteArray))))]⟩ (v_cT rfl rfl rfl (ble _ _ rfl) rfl fun e13 => (v_bin rfl ⟨_, rfl, be e13⟩ rfl (ble _ _ rfl) (gv e13) rfl (b_eqS rfl))) ?_
  refine sq_cons ⟨_, [(.t 31, bV ((((eqI (t7a.size : Int) 7) && (eqI t7b 0)) && (strEq t13a (⟨#[97, 98]⟩ : ByteArray))) && (strEq t13b (⟨#[120]⟩ : ByteArray))))]⟩ (v_pickB rfl trivial rfl (ble _ _ rfl) rfl (fun e14 => (gv e14)) (fun e15 => rfl) (pA _ _)) ?_
  refine sq_cons ⟨_, [(.t 32, bV ((((eqI (t7a.size : Int) 7) && (eqI t7b 0)) && (strEq t13a (⟨#[97, 98]⟩ : ByteArray))) && (strEq t13b (⟨#[120]⟩ : ByteArray))))]⟩ (v_move (.inl rfl) trivial rfl (ble _ _ rfl) rfl) ?_
  refine sq_cons ⟨_, [(.t 33, mg ((((eqI (t7a.size : Int) 7) && (eqI t7b 0)) && (strEq t13a (⟨#[97, 98]⟩ : ByteArray))) && (strEq t13b (⟨#[120]⟩ : ByteArray))) (iV t13c))]⟩ (v_cT rfl rfl rfl (ble _ _ rfl) rfl fun e16 => (v_move (.inl rfl) ⟨_, rfl, be e16⟩ rfl (ble _ _ rfl) rfl)) ?_
  refine sq_cons ⟨_, [(.t 34, mg ((((eqI (t7a.size : Int) 7) && (eqI t7b 0)) && (strEq t13a (⟨#[97, 98]⟩ : ByteArray))) && (strEq t13b (⟨#[120]⟩ : ByteArray))) (bV (eqI t13c 0)))]⟩ (v_cT rfl rfl rfl (ble _ _ rfl) rfl fun e17 => (v_bin rfl ⟨_, rfl, be e17⟩ rfl (ble _ _ rfl) (gv e17) rfl (b_eql rfl))) ?_
  refine sq_cons ⟨_, [(.t 35, bV (((((eqI (t7a.size : Int) 7) && (eqI t7b 0)) && (strEq t13a (⟨#[97, 98]⟩ : ByteArray))) && (strEq t13b (⟨#[120]⟩ : ByteArray))) && (eqI t13c 0)))]⟩ (v_pickB rfl trivial rfl (ble _ _ rfl) rfl (fun e18 => (gv e18)) (fun e19 => rfl) (pA _ _)) ?_
  refine sq_cons ⟨_, [(.t 0, bV (((((eqI (t7a.size : Int) 7) && (eqI t7b 0)) && (strEq t13a (⟨#[97, 98]⟩ : ByteArray))) && (strEq t13b (⟨#[120]⟩ : ByteArray))) && (eqI t13c 0)))]⟩ (v_move (.inr rfl) trivial rfl (ble _ _ rfl) rfl) ?_
  refine sq_nil ?_
  refine ht_ret ?_
  cases h
  exact ret1 rfl (.tmp rfl)
set_option maxHeartbeats 4000000 in
theorem s19 {A : Amb} (k : Nat) (t0 : Int) (r : (List Int)) (h : F19 k t0 = some r) : Awp.Spec Try.prog A 19 [(.s (.int .i64 t0))] (.ds [(.sl 1 (r.map (eI .i64)))]) := by
  rw [F19] at h
  refine spec_of Try.func19 rfl (ble _ _ rfl) fun w0 ok0 lt0 hA => ?_
  refine ht_seq ?_
  refine ht_region ?_
  refine sq_cons ⟨_, [(.t 2, .d (.s (.slice none 0 0)))]⟩ (v_move (.inr rfl) trivial rfl (ble _ _ rfl) rfl) ?_
  refine sq_nil ?_
  refine ht_seq ?_
  refine ht_region ?_
  refine sq_cons ⟨_, [(.t 4, iV t0)]⟩ (v_move (.inl rfl) trivial rfl (ble _ _ rfl) rfl) ?_
  refine sq_cons ⟨_, [(.t 5, iV (Int.tmod t0 128))]⟩ (v_bin rfl trivial rfl (ble _ _ rfl) rfl rfl (b_rem rfl rfl)) ?_
  refine sq_cons ⟨_, [(.b 6, .row false 3 1 (([(Int.tmod t0 128)]).map (eI .i64))), (.t 6, .own 6 1 ([(Int.tmod t0 128)]).length)]⟩ (w_bsl (id := 6) [(0, iV (Int.tmod t0 128))] [(Int.tmod t0 128)] (eI .i64) rfl trivial rfl (ble _ _ rfl) slT42 zr3 (encI .i64) (ble _ _ rfl) rfl rfl rfl rfl rfl rfl) ?_
  refine sq_cons ⟨_, [(.t 3, .own 6 1 ([(Int.tmod t0 128)]).length)]⟩ (v_move (.inr rfl) trivial rfl (ble _ _ rfl) rfl) ?_
  refine sq_nil ?_
  refine ht_seq ?_
  refine ht_region ?_
  refine sq_cons ⟨_, [(.t 7, iV t0)]⟩ (v_move (.inl rfl) trivial rfl (ble _ _ rfl) rfl) ?_
  refine sq_cons ⟨_, [(.t 8, iV (IntKind.wrap .i64 (Int.tdiv t0 128)))]⟩ (v_bin rfl trivial rfl (ble _ _ rfl) rfl rfl (b_quo rfl rfl)) ?_
  refine sq_cons ⟨_, [(.t 0, iV (IntKind.wrap .i64 (Int.tdiv t0 128)))]⟩ (v_move (.inr rfl) trivial rfl (ble _ _ rfl) rfl) ?_
  refine sq_nil ?_
  refine ht_bj h (fun t3 => tell [(.b 1003, .row false 3 1 (t3.map (eI .i64))), (.t 3, .own 1003 1 t3.length)]) (fun t3 h => ?_) (fun v1 K2 h j4 => ?_)
  · refine ht_seq ?_
    refine ht_region ?_
    refine sq_cons ⟨_, [(.t 18, .own 1003 1 t3.length)]⟩ (v_move (.inl rfl) trivial rfl (ble _ _ rfl) rfl) ?_
    refine sq_cons ⟨_, [(.t 2, .own 1003 1 t3.length)]⟩ (v_move (.inr rfl) trivial rfl (ble _ _ rfl) rfl) ?_
    refine sq_nil ?_
    refine ht_ret ?_
    cases h
    exact retM_wk (wk_still_row 1003 _ _ _ rfl) (retM_wk (wk_row (.t 2) (nb 2) 1003 _ _ _ _ rfl rfl (lm _ _)) (ret1 rfl (.tmp rfl)))
  · refine ht_block ?_
    refine ht_rd h (fun _ => rfl) (fun (t0_1, t3_1) => tell [(.b 1003, .row false 3 1 (t3_1.map (eI .i64))), (.t 0, iV t0_1), (.t 3, .own 1003 1 t3_1.length)]) (wk_ren _ (fun i => bif Nat.beq i 1003 then 6 else i) rfl ⟨rfl, rfl, rfl, trivial⟩) fun k v8 h K11 j7 => ?_
    obtain ⟨t0_1, t3_1⟩ := v8
    rw [F19_l1] at h
    refine ht_seq ?_
    refine ht_seq ?_
    refine ht_region ?_
    refine sq_cons ⟨_, [(.t 9, iV t0_1)]⟩ (v_move (.inl rfl) trivial rfl (ble _ _ rfl) rfl) ?_
    refine sq_cons ⟨_, [(.t 10, bV (ltI 0 t0_1))]⟩ (v_bin rfl trivial rfl (ble _ _ rfl) rfl rfl (b_gtr rfl)) ?_
    refine sq_nil ?_
    refine ht_cond (b := (ltI 0 t0_1)) rfl (fun e9 => ?_) (fun e9 => ?_)
    · replace h := cpos e9 h
      refine ht_skip ?_
      refine ht_block ?_
      refine ht_seq ?_
      refine ht_region ?_
      refine sq_cons ⟨_, [(.t 11, .own 1003 1 t3_1.length)]⟩ (v_move (.inl rfl) trivial rfl (ble _ _ rfl) rfl) ?_
      refine sq_cons ⟨_, [(.t 12, iV t0_1)]⟩ (v_move (.inl rfl) trivial rfl (ble _ _ rfl) rfl) ?_
      refine sq_cons ⟨_, [(.t 13, iV (Int.tmod t0_1 128))]⟩ (v_bin rfl trivial rfl (ble _ _ rfl) rfl rfl (b_rem rfl rfl)) ?_
      refine sq_cons ⟨_, [(.b 14, .row false 3 1 (([(Int.tmod t0_1 128)]).map (eI .i64))), (.t 14, .own 14 1 ([(Int.tmod t0_1 128)]).length)]⟩ (w_bsl (id := 14) [(0, iV (Int.tmod t0_1 128))] [(Int.tmod t0_1 128)] (eI .i64) rfl trivial rfl (ble _ _ rfl) slT42 zr3 (encI .i64) (ble _ _ rfl) rfl rfl rfl rfl rfl rfl) ?_
      obtain ⟨e10, h⟩ := gpos h
      refine sq_cons ⟨_, [(.b 1003, .spent), (.b 15, .row false 3 1 ((t3_1 ++ [(Int.tmod t0_1 128)]).map (eI .i64))), (.t 15, .own 15 1 (t3_1 ++ [(Int.tmod t0_1 128)]).length)]⟩ (w_app 15 t3_1 ([(Int.tmod t0_1 128)]) (eI .i64) rfl rfl trivial rfl (ble _ _ rfl) slT42 elT3 (encI .i64) rfl rfl rfl (.own 14 _ _ rfl) rfl e10) ?_
      refine sq_cons ⟨_, [(.t 3, .own 15 1 (t3_1 ++ [(Int.tmod t0_1 128)]).length)]⟩ (v_move (.inr rfl) trivial rfl (ble _ _ rfl) rfl) ?_
      refine sq_nil ?_
      refine ht_region ?_
      refine sq_cons ⟨_, [(.t 16, iV t0_1)]⟩ (v_move (.inl rfl) trivial rfl (ble _ _ rfl) rfl) ?_
      refine sq_cons ⟨_, [(.t 17, iV (IntKind.wrap .i64 (Int.tdiv t0_1 128)))]⟩ (v_bin rfl trivial rfl (ble _ _ rfl) rfl rfl (b_quo rfl rfl)) ?_
      refine sq_cons ⟨_, [(.t 0, iV (IntKind.wrap .i64 (Int.tdiv t0_1 128)))]⟩ (v_move (.inr rfl) trivial rfl (ble _ _ rfl) rfl) ?_
      refine sq_nil ?_
      exact j7 _ _ h (wk_ren _ (fun i => bif Nat.beq i 1003 then 15 else i) rfl ⟨rfl, rfl, rfl, trivial⟩)
    · replace h := cneg e9 h
      refine ht_exit ?_
      refine tq ?_
      refine tq ?_
      refine bq_hit ?_
      cases h
      exact j4 _ (wk_ren _ (fun i => i) rfl ⟨rfl, rfl, trivial⟩)
set_option maxHeartbeats 4000000 in
theorem s17 {A : Amb} (k : Nat) (t0 : Int) (r : ByteArray × Int) (h : F17 k t0 = some r) : Awp.Spec Try.prog A 17 [(.s (.int .i64 t0))] (.ds [(.s (.string r.1)), (.s (.int .i64 r.2))]) := by
  rw [F17] at h
  refine spec_of Try.func17 rfl (ble _ _ rfl) fun w0 ok0 lt0 hA => ?_
  refine ht_seq ?_
  refine ht_region ?_
  refine sq_cons ⟨_, [(.t 2, sV (⟨#[]⟩ : ByteArray))]⟩ (v_move (.inr rfl) trivial rfl (ble _ _ rfl) rfl) ?_
  refine sq_cons ⟨_, [(.t 3, iV 0)]⟩ (v_move (.inr rfl) trivial rfl (ble _ _ rfl) rfl) ?_
  refine sq_nil ?_
  refine ht_seq ?_
  refine ht_seq ?_
  refine ht_region ?_
  refine sq_cons ⟨_, [(.t 8, iV t0)]⟩ (v_move (.inl rfl) trivial rfl (ble _ _ rfl) rfl) ?_
  refine sq_cons ⟨_, [(.t 9, bV (ltI t0 0))]⟩ (v_bin rfl trivial rfl (ble _ _ rfl) rfl rfl (b_lss rfl)) ?_
  refine sq_nil ?_
  refine ht_cond (b := (ltI t0 0)) rfl (fun e1 => ?_) (fun e1 => ?_)
  · replace h := cpos e1 h
    refine ht_seq ?_
    refine ht_region ?_
    refine sq_cons ⟨_, [(.t 2, sV (⟨#[]⟩ : ByteArray))]⟩ (v_move (.inr rfl) trivial rfl (ble _ _ rfl) rfl) ?_
    refine sq_cons ⟨_, [(.t 3, iV 1)]⟩ (v_move (.inr rfl) trivial rfl (ble _ _ rfl) rfl) ?_
    refine sq_nil ?_
    refine ht_ret ?_
    cases h
    exact ret2 rfl (.tmp rfl) (.tmp rfl)
  · replace h := cneg e1 h
    refine ht_skip ?_
    refine ht_seq ?_
    refine ht_region ?_
    refine sq_cons ⟨_, [(.t 10, iV t0)]⟩ (v_move (.inl rfl) trivial rfl (ble _ _ rfl) rfl) ?_
    obtain ⟨t11, c2, h⟩ := bpos h
    refine sq_cons ⟨_, [(.t 11, .d (.sl 1 (t11.map (eI .i64))))]⟩ (w_call (ds := [(.s (.int .i64 t0))]) (caps := []) (l := [(.sl 1 (t11.map (eI .i64)))]) (s19 k t0 _ c2) rfl rfl rfl en19 trivial rfl (ble _ _ rfl) (.inl ⟨rfl, rfl⟩) rfl rfl) ?_
    refine sq_cons ⟨_, [(.t 4, .d (.sl 1 (t11.map (eI .i64))))]⟩ (v_move (.inr rfl) trivial rfl (ble _ _ rfl) rfl) ?_
    refine sq_nil ?_
    refine ht_seq ?_
    refine ht_region ?_
    refine sq_cons ⟨_, [(.t 5, sV (⟨#[]⟩ : ByteArray))]⟩ (v_move (.inr rfl) trivial rfl (ble _ _ rfl) rfl) ?_
    refine sq_nil ?_
    refine ht_bj h (fun t5 => tell [(.t 5, sV t5)]) (fun t5 h => ?_) (fun v3 K4 h j6 => ?_)
    · refine ht_seq ?_
      refine ht_region ?_
      refine sq_cons ⟨_, [(.t 35, sV t5)]⟩ (v_move (.inl rfl) trivial rfl (ble _ _ rfl) rfl) ?_
      refine sq_cons ⟨_, [(.t 2, sV t5)]⟩ (v_move (.inr rfl) trivial rfl (ble _ _ rfl) rfl) ?_
      refine sq_cons ⟨_, [(.t 3, iV 0)]⟩ (v_move (.inr rfl) trivial rfl (ble _ _ rfl) rfl) ?_
      refine sq_nil ?_
      refine ht_ret ?_
      cases h
      exact ret2 rfl (.tmp rfl) (.tmp rfl)
    · refine ht_seq ?_
      refine ht_region ?_
      refine sq_cons ⟨_, [(.t 6, iV 0)]⟩ (v_move (.inr rfl) trivial rfl (ble _ _ rfl) rfl) ?_
      refine sq_nil ?_
      refine ht_block ?_
      refine ht_rd h (fun _ => rfl) (fun (t5_1, t6) => tell [(.t 4, .d (.sl 1 (t11.map (eI .i64)))), (.t 5, sV t5_1), (.t 6, iV t6)]) (wk_ren _ (fun i => i) rfl ⟨rfl, rfl, rfl, trivial⟩) fun k v10 h K17 j9 => ?_
      obtain ⟨t5_1, t6⟩ := v10
      rw [F17_l1] at h
      refine ht_seq ?_
      refine ht_seq ?_
      refine ht_region ?_
      refine sq_cons ⟨_, [(.t 12, iV t6)]⟩ (v_move (.inl rfl) trivial rfl (ble _ _ rfl) rfl) ?_
      refine sq_cons ⟨_, [(.t 13, .d (.sl 1 (t11.map (eI .i64))))]⟩ (v_move (.inl rfl) trivial rfl (ble _ _ rfl) rfl) ?_
      refine sq_cons ⟨_, [(.t 14, iV (t11.length : Int))]⟩ (w_len t11 (eI .i64) rfl rfl trivial rfl (ble _ _ rfl) slT42 rfl) ?_
      refine sq_cons ⟨_, [(.t 15, bV (ltI t6 (t11.length : Int)))]⟩ (v_bin rfl trivial rfl (ble _ _ rfl) rfl rfl (b_lss rfl)) ?_
      refine sq_nil ?_
      refine ht_cond (b := (ltI t6 (t11.length : Int))) rfl (fun e11 => ?_) (fun e11 => ?_)
      · replace h := cpos e11 h
        refine ht_skip ?_
        refine ht_seq ?_
        refine ht_block ?_
        refine ht_seq ?_
        refine ht_region ?_
        refine sq_cons ⟨_, [(.t 18, .d (.sl 1 (t11.map (eI .i64))))]⟩ (v_move (.inl rfl) trivial rfl (ble _ _ rfl) rfl) ?_
        refine sq_cons ⟨_, [(.t 19, iV t6)]⟩ (v_move (.inl rfl) trivial rfl (ble _ _ rfl) rfl) ?_
        obtain ⟨e12, h⟩ := gpos h
        refine sq_cons ⟨_, [(.t 20, .d (.dp ((eI .i64) (rd t11 t6))))]⟩ (w_idx t11 (eI .i64) rfl trivial rfl (ble _ _ rfl) slT42 rfl rfl e12) ?_
        refine sq_cons ⟨_, [(.t 21, iV (rd t11 t6))]⟩ (v_load_dp1 rfl trivial rfl (ble _ _ rfl) onT3 rfl rfl) ?_
        refine sq_cons ⟨_, [(.t 7, iV (rd t11 t6))]⟩ (v_move (.inr rfl) trivial rfl (ble _ _ rfl) rfl) ?_
        refine sq_nil ?_
        refine ht_seq ?_
        refine ht_seq ?_
        refine ht_region ?_
        refine sq_cons ⟨_, [(.t 22, iV t6)]⟩ (v_move (.inl rfl) trivial rfl (ble _ _ rfl) rfl) ?_
        refine sq_cons ⟨_, [(.t 23, .d (.sl 1 (t11.map (eI .i64))))]⟩ (v_move (.inl rfl) trivial rfl (ble _ _ rfl) rfl) ?_
        refine sq_cons ⟨_, [(.t 24, iV (t11.length : Int))]⟩ (w_len t11 (eI .i64) rfl rfl trivial rfl (ble _ _ rfl) slT42 rfl) ?_
        refine sq_cons ⟨_, [(.t 25, iV (IntKind.wrap .i64 ((t11.length : Int) - 1)))]⟩ (v_bin rfl trivial rfl (ble _ _ rfl) rfl rfl (b_sub rfl)) ?_
        refine sq_cons ⟨_, [(.t 26, bV (ltI t6 (IntKind.wrap .i64 ((t11.length : Int) - 1))))]⟩ (v_bin rfl trivial rfl (ble _ _ rfl) rfl rfl (b_lss rfl)) ?_
        refine sq_nil ?_
        refine ht_cond (b := (ltI t6 (IntKind.wrap .i64 ((t11.length : Int) - 1)))) rfl (fun e13 => ?_) (fun e13 => ?_)
        · replace h := cpos e13 h
          refine ht_region ?_
          refine sq_cons ⟨_, [(.t 27, iV (rd t11 t6))]⟩ (v_move (.inl rfl) trivial rfl (ble _ _ rfl) rfl) ?_
          refine sq_cons ⟨_, [(.t 28, iV (IntKind.wrap .i64 ((rd t11 t6) + 128)))]⟩ (v_bin rfl trivial rfl (ble _ _ rfl) rfl rfl (b_add rfl)) ?_
          refine sq_cons ⟨_, [(.t 7, iV (IntKind.wrap .i64 ((rd t11 t6) + 128)))]⟩ (v_move (.inr rfl) trivial rfl (ble _ _ rfl) rfl) ?_
          refine sq_nil ?_
          refine ht_region ?_
          refine sq_cons ⟨_, [(.t 29, sV t5_1)]⟩ (v_move (.inl rfl) trivial rfl (ble _ _ rfl) rfl) ?_
          refine sq_cons ⟨_, [(.t 30, iV (IntKind.wrap .i64 ((rd t11 t6) + 128)))]⟩ (v_move (.inl rfl) trivial rfl (ble _ _ rfl) rfl) ?_
          refine sq_cons ⟨_, [(.t 31, nV .u8 (IntKind.wrap .u8 (IntKind.wrap .i64 ((rd t11 t6) + 128))))]⟩ (v_conv rfl trivial rfl (ble _ _ rfl) rfl (c_int und3 und5 rfl)) ?_
          refine sq_cons ⟨_, [(.b 32, .row false 5 1 (([(IntKind.wrap .u8 (IntKind.wrap .i64 ((rd t11 t6) + 128)))]).map (eI .u8))), (.t 32, .own 32 1 ([(IntKind.wrap .u8 (IntKind.wrap .i64 ((rd t11 t6) + 128)))]).length)]⟩ (w_bsl (id := 32) [(0, nV .u8 (IntKind.wrap .u8 (IntKind.wrap .i64 ((rd t11 t6) + 128))))] [(IntKind.wrap .u8 (IntKind.wrap .i64 ((rd t11 t6) + 128)))] (eI .u8) rfl trivial rfl (ble _ _ rfl) slT23 zr5 (encI .u8) (ble _ _ rfl) rfl rfl rfl rfl rfl rfl) ?_
          refine sq_cons ⟨_, [(.t 33, sV (ofB ([(IntKind.wrap .u8 (IntKind.wrap .i64 ((rd t11 t6) + 128)))])))]⟩ (w_b2s ([(IntKind.wrap .u8 (IntKind.wrap .i64 ((rd t11 t6) + 128)))]) rfl trivial rfl (ble _ _ rfl) und23 und5 und9 rfl (.own 32 _ _ rfl)) ?_
          obtain ⟨e14, h⟩ := gpos h
          obtain ⟨t34, q15, h⟩ := bndp h
          refine sq_cons ⟨_, [(.t 34, sV t34)]⟩ (v_bin rfl trivial rfl (ble _ _ rfl) rfl rfl (b_cat e14 q15)) ?_
          refine sq_cons ⟨_, [(.t 5, sV t34)]⟩ (v_move (.inr rfl) trivial rfl (ble _ _ rfl) rfl) ?_
          refine sq_nil ?_
          refine ht_region ?_
          refine sq_cons ⟨_, [(.t 16, iV t6)]⟩ (v_move (.inl rfl) trivial rfl (ble _ _ rfl) rfl) ?_
          refine sq_cons ⟨_, [(.t 17, iV (IntKind.wrap .i64 (t6 + 1)))]⟩ (v_bin rfl trivial rfl (ble _ _ rfl) rfl rfl (b_add rfl)) ?_
          refine sq_cons ⟨_, [(.t 6, iV (IntKind.wrap .i64 (t6 + 1)))]⟩ (v_move (.inr rfl) trivial rfl (ble _ _ rfl) rfl) ?_
          refine sq_nil ?_
          exact j9 _ _ h (wk_ren _ (fun i => i) rfl ⟨rfl, rfl, rfl, trivial⟩)
        · replace h := cneg e13 h
          refine ht_skip ?_
          refine ht_region ?_
          refine sq_cons ⟨_, [(.t 29, sV t5_1)]⟩ (v_move (.inl rfl) trivial rfl (ble _ _ rfl) rfl) ?_
          refine sq_cons ⟨_, [(.t 30, iV (rd t11 t6))]⟩ (v_move (.inl rfl) trivial rfl (ble _ _ rfl) rfl) ?_
          refine sq_cons ⟨_, [(.t 31, nV .u8 (IntKind.wrap .u8 (rd t11 t6)))]⟩ (v_conv rfl trivial rfl (ble _ _ rfl) rfl (c_int und3 und5 rfl)) ?_
          refine sq_cons ⟨_, [(.b 32, .row false 5 1 (([(IntKind.wrap .u8 (rd t11 t6))]).map (eI .u8))), (.t 32, .own 32 1 ([(IntKind.wrap .u8 (rd t11 t6))]).length)]⟩ (w_bsl (id := 32) [(0, nV .u8 (IntKind.wrap .u8 (rd t11 t6)))] [(IntKind.wrap .u8 (rd t11 t6))] (eI .u8) rfl trivial rfl (ble _ _ rfl) slT23 zr5 (encI .u8) (ble _ _ rfl) rfl rfl rfl rfl rfl rfl) ?_
          refine sq_cons ⟨_, [(.t 33, sV (ofB ([(IntKind.wrap .u8 (rd t11 t6))])))]⟩ (w_b2s ([(IntKind.wrap .u8 (rd t11 t6))]) rfl trivial rfl (ble _ _ rfl) und23 und5 und9 rfl (.own 32 _ _ rfl)) ?_
          obtain ⟨e16, h⟩ := gpos h
          refine sq_cons ⟨_, [(.t 34, sV (t5_1 ++ (ofB ([(IntKind.wrap .u8 (rd t11 t6))]))))]⟩ (v_bin rfl trivial rfl (ble _ _ rfl) rfl rfl (b_cat e16 rfl)) ?_
          refine sq_cons ⟨_, [(.t 5, sV (t5_1 ++ (ofB ([(IntKind.wrap .u8 (rd t11 t6))]))))]⟩ (v_move (.inr rfl) trivial rfl (ble _ _ rfl) rfl) ?_
          refine sq_nil ?_
          refine ht_region ?_
          refine sq_cons ⟨_, [(.t 16, iV t6)]⟩ (v_move (.inl rfl) trivial rfl (ble _ _ rfl) rfl) ?_
          refine sq_cons ⟨_, [(.t 17, iV (IntKind.wrap .i64 (t6 + 1)))]⟩ (v_bin rfl trivial rfl (ble _ _ rfl) rfl rfl (b_add rfl)) ?_
          refine sq_cons ⟨_, [(.t 6, iV (IntKind.wrap .i64 (t6 + 1)))]⟩ (v_move (.inr rfl) trivial rfl (ble _ _ rfl) rfl) ?_
          refine sq_nil ?_
          exact j9 _ _ h (wk_ren _ (fun i => i) rfl ⟨rfl, rfl, rfl, trivial⟩)
      · replace h := cneg e11 h
        refine ht_exit ?_
        refine tq ?_
        refine tq ?_
        refine bq_hit ?_
        cases h
        exact j6 _ (wk_ren _ (fun i => i) rfl ⟨rfl, trivial⟩)
set_option maxHeartbeats 4000000 in
theorem s10 {A : Amb} (k : Nat) (t0 : ByteArray) (r : ByteArray) (h : F10 k t0 = some r) : Awp.Spec Try.prog A 10 [(.s (.string t0))] (.ds [(.s (.string r))]) := by
  rw [F10] at h
  refine spec_of Try.func10 rfl (ble _ _ rfl) fun w0 ok0 lt0 hA => ?_
  refine ht_seq ?_
  refine ht_region ?_
  refine sq_cons ⟨_, [(.t 2, sV (⟨#[]⟩ : ByteArray))]⟩ (v_move (.inr rfl) trivial rfl (ble _ _ rfl) rfl) ?_
  refine sq_nil ?_
  refine ht_seq ?_
  refine ht_region ?_
  refine sq_cons ⟨_, [(.t 6, sV t0)]⟩ (v_move (.inl rfl) trivial rfl (ble _ _ rfl) rfl) ?_
  refine sq_cons ⟨_, [(.t 7, iV (t0.size : Int))]⟩ (v_len_str rfl rfl trivial rfl (ble _ _ rfl) und9 rfl) ?_
  obtain ⟨⟨t8a, t8b⟩, c1, h⟩ := bpos h
  refine sq_cons ⟨_, [(.t 8, .tup [sV t8a, iV t8b])]⟩ (w_call (ds := [(.s (.int .i64 (t0.size : Int)))]) (caps := []) (l := [(.s (.string t8a)), (.s (.int .i64 t8b))]) (s17 k (t0.size : Int) _ c1) rfl rfl rfl en17 trivial rfl (ble _ _ rfl) (.inl ⟨rfl, rfl⟩) rfl rfl) ?_
  refine sq_cons ⟨_, [(.t 5, .tup [sV t8a, iV t8b])]⟩ (v_move (.inl rfl) trivial rfl (ble _ _ rfl) rfl) ?_
  refine sq_cons ⟨_, [(.t 9, sV t8a)]⟩ (v_extract rfl trivial rfl (ble _ _ rfl) rfl rfl) ?_
  refine sq_cons ⟨_, [(.t 10, iV t8b)]⟩ (v_extract rfl trivial rfl (ble _ _ rfl) rfl rfl) ?_
  refine sq_cons ⟨_, [(.t 3, sV t8a)]⟩ (v_move (.inr rfl) trivial rfl (ble _ _ rfl) rfl) ?_
  refine sq_cons ⟨_, [(.t 4, iV t8b)]⟩ (v_move (.inr rfl) trivial rfl (ble _ _ rfl) rfl) ?_
  refine sq_nil ?_
  refine ht_seq ?_
  refine ht_region ?_
  refine sq_cons ⟨_, [(.t 11, sV t8a)]⟩ (v_move (.inl rfl) trivial rfl (ble _ _ rfl) rfl) ?_
  refine sq_cons ⟨_, [(.t 12, sV t0)]⟩ (v_move (.inl rfl) trivial rfl (ble _ _ rfl) rfl) ?_
  obtain ⟨e2, h⟩ := gpos h
  refine sq_cons ⟨_, [(.t 13, sV (t8a ++ t0))]⟩ (v_bin rfl trivial rfl (ble _ _ rfl) rfl rfl (b_cat e2 rfl)) ?_
  refine sq_cons ⟨_, [(.t 2, sV (t8a ++ t0))]⟩ (v_move (.inr rfl) trivial rfl (ble _ _ rfl) rfl) ?_
  refine sq_nil ?_
  refine ht_ret ?_
  cases h
  exact ret1 rfl (.tmp rfl)
set_option maxHeartbeats 4000000 in
theorem s12 {A : Amb} (k : Nat) (t0 : ByteArray) (r : Int) (h : F12 k t0 = some r) : Awp.Spec Try.prog A 12 [(.s (.string t0))] (.ds [(.s (.int .u32 r))]) := by
  rw [F12] at h
  refine spec_of Try.func12 rfl (ble _ _ rfl) fun w0 ok0 lt0 hA => ?_
  refine ht_seq ?_
  refine ht_region ?_
  refine sq_cons ⟨_, [(.t 2, nV .u32 0)]⟩ (v_move (.inr rfl) trivial rfl (ble _ _ rfl) rfl) ?_
  refine sq_nil ?_
  refine ht_seq ?_
  refine ht_region ?_
  refine sq_cons ⟨_, [(.t 3, iV 4294967295)]⟩ (v_move (.inr rfl) trivial rfl (ble _ _ rfl) rfl) ?_
  refine sq_nil ?_
  refine ht_bj h (fun t3 => tell [(.t 3, iV t3)]) (fun t3 h => ?_) (fun v1 K2 h j4 => ?_)
  · refine ht_seq ?_
    refine ht_region ?_
    refine sq_cons ⟨_, [(.t 32, iV t3)]⟩ (v_move (.inl rfl) trivial rfl (ble _ _ rfl) rfl) ?_
    refine sq_cons ⟨_, [(.t 33, iV (IntKind.wrap .i64 (4294967295 - t3)))]⟩ (v_bin rfl trivial rfl (ble _ _ rfl) rfl rfl (b_sub rfl)) ?_
    refine sq_cons ⟨_, [(.t 34, nV .u32 (IntKind.wrap .u32 (IntKind.wrap .i64 (4294967295 - t3))))]⟩ (v_conv rfl trivial rfl (ble _ _ rfl) rfl (c_int und3 und33 rfl)) ?_
    refine sq_cons ⟨_, [(.t 2, nV .u32 (IntKind.wrap .u32 (IntKind.wrap .i64 (4294967295 - t3))))]⟩ (v_move (.inr rfl) trivial rfl (ble _ _ rfl) rfl) ?_
    refine sq_nil ?_
    refine ht_ret ?_
    cases h
    exact ret1 rfl (.tmp rfl)
  · refine ht_seq ?_
    refine ht_region ?_
    refine sq_cons ⟨_, [(.t 4, iV 0)]⟩ (v_move (.inr rfl) trivial rfl (ble _ _ rfl) rfl) ?_
    refine sq_nil ?_
    refine ht_block ?_
    refine ht_rd h (fun _ => rfl) (fun (t3_1, t4) => tell [(.t 0, sV t0), (.t 3, iV t3_1), (.t 4, iV t4)]) (wk_ren _ (fun i => i) rfl ⟨rfl, rfl, rfl, trivial⟩) fun k v8 h K24 j7 => ?_
    obtain ⟨t3_1, t4⟩ := v8
    rw [F12_l1] at h
    refine ht_seq ?_
    refine ht_seq ?_
    refine ht_region ?_
    refine sq_cons ⟨_, [(.t 7, iV t4)]⟩ (v_move (.inl rfl) trivial rfl (ble _ _ rfl) rfl) ?_
    refine sq_cons ⟨_, [(.t 8, sV t0)]⟩ (v_move (.inl rfl) trivial rfl (ble _ _ rfl) rfl) ?_
    refine sq_cons ⟨_, [(.t 9, iV (t0.size : Int))]⟩ (v_len_str rfl rfl trivial rfl (ble _ _ rfl) und9 rfl) ?_
    refine sq_cons ⟨_, [(.t 10, bV (ltI t4 (t0.size : Int)))]⟩ (v_bin rfl trivial rfl (ble _ _ rfl) rfl rfl (b_lss rfl)) ?_
    refine sq_nil ?_
    refine ht_cond (b := (ltI t4 (t0.size : Int))) rfl (fun e9 => ?_) (fun e9 => ?_)
    · replace h := cpos e9 h
      refine ht_skip ?_
      refine ht_bj h (fun t3_2 => tell [(.t 0, sV t0), (.t 3, iV t3_2), (.t 4, iV t4)]) (fun t3_2 h => ?_) (fun v10 K11 h j13 => ?_)
      · refine ht_region ?_
        refine sq_cons ⟨_, [(.t 11, iV t4)]⟩ (v_move (.inl rfl) trivial rfl (ble _ _ rfl) rfl) ?_
        refine sq_cons ⟨_, [(.t 12, iV (IntKind.wrap .i64 (t4 + 1)))]⟩ (v_bin rfl trivial rfl (ble _ _ rfl) rfl rfl (b_add rfl)) ?_
        refine sq_cons ⟨_, [(.t 4, iV (IntKind.wrap .i64 (t4 + 1)))]⟩ (v_move (.inr rfl) trivial rfl (ble _ _ rfl) rfl) ?_
        refine sq_nil ?_
        exact j7 _ _ h (wk_ren _ (fun i => i) rfl ⟨rfl, rfl, rfl, trivial⟩)
      · refine ht_block ?_
        refine ht_seq ?_
        refine ht_region ?_
        refine sq_cons ⟨_, [(.t 5, iV 0)]⟩ (v_move (.inr rfl) trivial rfl (ble _ _ rfl) rfl) ?_
        refine sq_nil ?_
        refine ht_block ?_
        refine ht_rd h (fun _ => rfl) (fun (t3_3, t5) => tell [(.t 0, sV t0), (.t 3, iV t3_3), (.t 4, iV t4), (.t 5, iV t5)]) (wk_ren _ (fun i => i) rfl ⟨rfl, rfl, rfl, rfl, trivial⟩) fun k v17 h K23 j16 => ?_
        obtain ⟨t3_3, t5⟩ := v17
        rw [F12_l2] at h
        refine ht_seq ?_
        refine ht_seq ?_
        refine ht_region ?_
        refine sq_cons ⟨_, [(.t 13, iV t5)]⟩ (v_move (.inl rfl) trivial rfl (ble _ _ rfl) rfl) ?_
        refine sq_cons ⟨_, [(.t 14, bV (ltI t5 8))]⟩ (v_bin rfl trivial rfl (ble _ _ rfl) rfl rfl (b_lss rfl)) ?_
        refine sq_nil ?_
        refine ht_cond (b := (ltI t5 8)) rfl (fun e18 => ?_) (fun e18 => ?_)
        · replace h := cpos e18 h
          refine ht_skip ?_
          refine ht_seq ?_
          refine ht_block ?_
          refine ht_seq ?_
          refine ht_region ?_
          refine sq_cons ⟨_, [(.t 17, iV t3_3)]⟩ (v_move (.inl rfl) trivial rfl (ble _ _ rfl) rfl) ?_
          refine sq_cons ⟨_, [(.t 18, sV t0)]⟩ (v_move (.inl rfl) trivial rfl (ble _ _ rfl) rfl) ?_
          refine sq_cons ⟨_, [(.t 19, iV t4)]⟩ (v_move (.inl rfl) trivial rfl (ble _ _ rfl) rfl) ?_
          obtain ⟨e19, h⟩ := gpos h
          refine sq_cons ⟨_, [(.t 20, nV .u8 (bt t0 t4))]⟩ (v_index rfl trivial rfl (ble _ _ rfl) rfl rfl (i_str und9 e19 rfl)) ?_
          refine sq_cons ⟨_, [(.t 21, iV (IntKind.wrap .i64 (bt t0 t4)))]⟩ (v_conv rfl trivial rfl (ble _ _ rfl) rfl (c_int und5 und3 rfl)) ?_
          refine sq_cons ⟨_, [(.t 22, iV t5)]⟩ (v_move (.inl rfl) trivial rfl (ble _ _ rfl) rfl) ?_
          obtain ⟨e20, h⟩ := gpos h
          refine sq_cons ⟨_, [(.t 23, iV (shrI .i64 (IntKind.wrap .i64 (bt t0 t4)) t5))]⟩ (v_bin rfl trivial rfl (ble _ _ rfl) rfl rfl (b_shr e20 rfl)) ?_
          obtain ⟨t24, q21, h⟩ := bndp h
          refine sq_cons ⟨_, [(.t 24, iV t24)]⟩ (v_bin rfl trivial rfl (ble _ _ rfl) rfl rfl (b_add q21)) ?_
          refine sq_cons ⟨_, [(.t 25, iV (Int.tmod t24 2))]⟩ (v_bin rfl trivial rfl (ble _ _ rfl) rfl rfl (b_rem rfl rfl)) ?_
          refine sq_cons ⟨_, [(.t 26, bV (eqI (Int.tmod t24 2) 1))]⟩ (v_bin rfl trivial rfl (ble _ _ rfl) rfl rfl (b_eql rfl)) ?_
          refine sq_cons ⟨_, [(.t 6, bV (eqI (Int.tmod t24 2) 1))]⟩ (v_move (.inr rfl) trivial rfl (ble _ _ rfl) rfl) ?_
          refine sq_nil ?_
          refine ht_seq ?_
          refine ht_region ?_
          refine sq_cons ⟨_, [(.t 27, iV t3_3)]⟩ (v_move (.inl rfl) trivial rfl (ble _ _ rfl) rfl) ?_
          refine sq_cons ⟨_, [(.t 28, iV (IntKind.wrap .i64 (Int.tdiv t3_3 2)))]⟩ (v_bin rfl trivial rfl (ble _ _ rfl) rfl rfl (b_quo rfl rfl)) ?_
          refine sq_cons ⟨_, [(.t 3, iV (IntKind.wrap .i64 (Int.tdiv t3_3 2)))]⟩ (v_move (.inr rfl) trivial rfl (ble _ _ rfl) rfl) ?_
          refine sq_nil ?_
          refine ht_seq ?_
          refine ht_region ?_
          refine sq_cons ⟨_, [(.t 29, bV (eqI (Int.tmod t24 2) 1))]⟩ (v_move (.inl rfl) trivial rfl (ble _ _ rfl) rfl) ?_
          refine sq_nil ?_
          refine ht_cond (b := (eqI (Int.tmod t24 2) 1)) rfl (fun e22 => ?_) (fun e22 => ?_)
          · replace h := cpos e22 h
            refine ht_region ?_
            refine sq_cons ⟨_, [(.t 30, iV (IntKind.wrap .i64 (Int.tdiv t3_3 2)))]⟩ (v_move (.inl rfl) trivial rfl (ble _ _ rfl) rfl) ?_
            refine sq_cons ⟨_, [(.t 31, iV (xorI .i64 (IntKind.wrap .i64 (Int.tdiv t3_3 2)) 2197175160))]⟩ (v_bin rfl trivial rfl (ble _ _ rfl) rfl rfl (b_xor rfl)) ?_
            refine sq_cons ⟨_, [(.t 3, iV (xorI .i64 (IntKind.wrap .i64 (Int.tdiv t3_3 2)) 2197175160))]⟩ (v_move (.inr rfl) trivial rfl (ble _ _ rfl) rfl) ?_
            refine sq_nil ?_
            refine ht_region ?_
            refine sq_cons ⟨_, [(.t 15, iV t5)]⟩ (v_move (.inl rfl) trivial rfl (ble _ _ rfl) rfl) ?_
            refine sq_cons ⟨_, [(.t 16, iV (IntKind.wrap .i64 (t5 + 1)))]⟩ (v_bin rfl trivial rfl (ble _ _ rfl) rfl rfl (b_add rfl)) ?_
            refine sq_cons ⟨_, [(.t 5, iV (IntKind.wrap .i64 (t5 + 1)))]⟩ (v_move (.inr rfl) trivial rfl (ble _ _ rfl) rfl) ?_
            refine sq_nil ?_
            exact j16 _ _ h (wk_ren _ (fun i => i) rfl ⟨rfl, rfl, rfl, rfl, trivial⟩)
          · replace h := cneg e22 h
            refine ht_skip ?_
            refine ht_region ?_
            refine sq_cons ⟨_, [(.t 15, iV t5)]⟩ (v_move (.inl rfl) trivial rfl (ble _ _ rfl) rfl) ?_
            refine sq_cons ⟨_, [(.t 16, iV (IntKind.wrap .i64 (t5 + 1)))]⟩ (v_bin rfl trivial rfl (ble _ _ rfl) rfl rfl (b_add rfl)) ?_
            refine sq_cons ⟨_, [(.t 5, iV (IntKind.wrap .i64 (t5 + 1)))]⟩ (v_move (.inr rfl) trivial rfl (ble _ _ rfl) rfl) ?_
            refine sq_nil ?_
            exact j16 _ _ h (wk_ren _ (fun i => i) rfl ⟨rfl, rfl, rfl, rfl, trivial⟩)
        · replace h := cneg e18 h
          refine ht_exit ?_
          refine tq ?_
          refine tq ?_
          refine bq_hit ?_
          cases h
          exact j13 _ (wk_ren _ (fun i => i) rfl ⟨rfl, rfl, rfl, trivial⟩)
    · replace h := cneg e9 h
      refine ht_exit ?_
      refine tq ?_
      refine tq ?_
      refine bq_hit ?_
      cases h
      exact j4 _ (wk_ren _ (fun i => i) rfl ⟨rfl, trivial⟩)
set_option maxHeartbeats 4000000 in
theorem s11 {A : Amb} (k : Nat) (t0 : Int) (r : ByteArray) (h : F11 k t0 = some r) : Awp.Spec Try.prog A 11 [(.s (.int .u32 t0))] (.ds [(.s (.string r))]) := by
  rw [F11] at h
  refine spec_of Try.func11 rfl (ble _ _ rfl) fun w0 ok0 lt0 hA => ?_
  refine ht_seq ?_
  refine ht_region ?_
  refine sq_cons ⟨_, [(.t 2, sV (⟨#[]⟩ : ByteArray))]⟩ (v_move (.inr rfl) trivial rfl (ble _ _ rfl) rfl) ?_
  refine sq_nil ?_
  refine ht_seq ?_
  refine ht_region ?_
  refine sq_cons ⟨_, [(.t 4, nV .u32 t0)]⟩ (v_move (.inl rfl) trivial rfl (ble _ _ rfl) rfl) ?_
  refine sq_cons ⟨_, [(.t 5, iV (IntKind.wrap .i64 t0))]⟩ (v_conv rfl trivial rfl (ble _ _ rfl) rfl (c_int und33 und3 rfl)) ?_
  refine sq_cons ⟨_, [(.t 3, iV (IntKind.wrap .i64 t0))]⟩ (v_move (.inr rfl) trivial rfl (ble _ _ rfl) rfl) ?_
  refine sq_nil ?_
  refine ht_seq ?_
  refine ht_region ?_
  refine sq_cons ⟨_, [(.t 6, iV (IntKind.wrap .i64 t0))]⟩ (v_move (.inl rfl) trivial rfl (ble _ _ rfl) rfl) ?_
  refine sq_cons ⟨_, [(.t 7, iV (Int.tmod (IntKind.wrap .i64 t0) 256))]⟩ (v_bin rfl trivial rfl (ble _ _ rfl) rfl rfl (b_rem rfl rfl)) ?_
  refine sq_cons ⟨_, [(.t 8, nV .u8 (IntKind.wrap .u8 (Int.tmod (IntKind.wrap .i64 t0) 256)))]⟩ (v_conv rfl trivial rfl (ble _ _ rfl) rfl (c_int und3 und5 rfl)) ?_
  refine sq_cons ⟨_, [(.t 9, iV (IntKind.wrap .i64 t0))]⟩ (v_move (.inl rfl) trivial rfl (ble _ _ rfl) rfl) ?_
  refine sq_cons ⟨_, [(.t 10, iV (IntKind.wrap .i64 (Int.tdiv (IntKind.wrap .i64 t0) 256)))]⟩ (v_bin rfl trivial rfl (ble _ _ rfl) rfl rfl (b_quo rfl rfl)) ?_
  obtain ⟨t11, q1, h⟩ := bndp h
  refine sq_cons ⟨_, [(.t 11, iV t11)]⟩ (v_bin rfl trivial rfl (ble _ _ rfl) rfl rfl (b_rem rfl q1)) ?_
  refine sq_cons ⟨_, [(.t 12, nV .u8 (IntKind.wrap .u8 t11))]⟩ (v_conv rfl trivial rfl (ble _ _ rfl) rfl (c_int und3 und5 rfl)) ?_
  refine sq_cons ⟨_, [(.t 13, iV (IntKind.wrap .i64 t0))]⟩ (v_move (.inl rfl) trivial rfl (ble _ _ rfl) rfl) ?_
  refine sq_cons ⟨_, [(.t 14, iV (IntKind.wrap .i64 (Int.tdiv (IntKind.wrap .i64 t0) 65536)))]⟩ (v_bin rfl trivial rfl (ble _ _ rfl) rfl rfl (b_quo rfl rfl)) ?_
  obtain ⟨t15, q2, h⟩ := bndp h
  refine sq_cons ⟨_, [(.t 15, iV t15)]⟩ (v_bin rfl trivial rfl (ble _ _ rfl) rfl rfl (b_rem rfl q2)) ?_
  refine sq_cons ⟨_, [(.t 16, nV .u8 (IntKind.wrap .u8 t15))]⟩ (v_conv rfl trivial rfl (ble _ _ rfl) rfl (c_int und3 und5 rfl)) ?_
  refine sq_cons ⟨_, [(.t 17, iV (IntKind.wrap .i64 t0))]⟩ (v_move (.inl rfl) trivial rfl (ble _ _ rfl) rfl) ?_
  obtain ⟨t18, q3, h⟩ := bndp h
  refine sq_cons ⟨_, [(.t 18, iV t18)]⟩ (v_bin rfl trivial rfl (ble _ _ rfl) rfl rfl (b_quo rfl q3)) ?_
  refine sq_cons ⟨_, [(.t 19, nV .u8 (IntKind.wrap .u8 t18))]⟩ (v_conv rfl trivial rfl (ble _ _ rfl) rfl (c_int und3 und5 rfl)) ?_
  refine sq_cons ⟨_, [(.b 20, .row false 5 1 (([(IntKind.wrap .u8 (Int.tmod (IntKind.wrap .i64 t0) 256)), (IntKind.wrap .u8 t11), (IntKind.wrap .u8 t15), (IntKind.wrap .u8 t18)]).map (eI .u8))), (.t 20, .own 20 1 ([(IntKind.wrap .u8 (Int.tmod (IntKind.wrap .i64 t0) 256)), (IntKind.wrap .u8 t11), (IntKind.wrap .u8 t15), (IntKind.wrap .u8 t18)]).length)]⟩ (w_bsl (id := 20) [(0, nV .u8 (IntKind.wrap .u8 (Int.tmod (IntKind.wrap .i64 t0) 256))), (1, nV .u8 (IntKind.wrap .u8 t11)), (2, nV .u8 (IntKind.wrap .u8 t15)), (3, nV .u8 (IntKind.wrap .u8 t18))] [(IntKind.wrap .u8 (Int.tmod (IntKind.wrap .i64 t0) 256)), (IntKind.wrap .u8 t11), (IntKind.wrap .u8 t15), (IntKind.wrap .u8 t18)] (eI .u8) rfl trivial rfl (ble _ _ rfl) slT23 zr5 (encI .u8) (ble _ _ rfl) rfl rfl rfl rfl rfl rfl) ?_
  refine sq_cons ⟨_, [(.t 21, sV (ofB ([(IntKind.wrap .u8 (Int.tmod (IntKind.wrap .i64 t0) 256)), (IntKind.wrap .u8 t11), (IntKind.wrap .u8 t15), (IntKind.wrap .u8 t18)])))]⟩ (w_b2s ([(IntKind.wrap .u8 (Int.tmod (IntKind.wrap .i64 t0) 256)), (IntKind.wrap .u8 t11), (IntKind.wrap .u8 t15), (IntKind.wrap .u8 t18)]) rfl trivial rfl (ble _ _ rfl) und23 und5 und9 rfl (.own 20 _ _ rfl)) ?_
  refine sq_cons ⟨_, [(.t 2, sV (ofB ([(IntKind.wrap .u8 (Int.tmod (IntKind.wrap .i64 t0) 256)), (IntKind.wrap .u8 t11), (IntKind.wrap .u8 t15), (IntKind.wrap .u8 t18)])))]⟩ (v_move (.inr rfl) trivial rfl (ble _ _ rfl) rfl) ?_
  refine sq_nil ?_
  refine ht_ret ?_
  cases h
  exact ret1 rfl (.tmp rfl)
set_option maxHeartbeats 4000000 in
theorem s6 {A : Amb} (k : Nat) (t0 : ByteArray) (r : ByteArray) (h : F6 k t0 = some r) : Awp.Spec Try.prog A 6 [(.s (.string t0))] (.ds [(.s (.string r))]) := by
  rw [F6] at h
  refine spec_of Try.func6 rfl (ble _ _ rfl) fun w0 ok0 lt0 hA => ?_
  refine ht_seq ?_
  refine ht_region ?_
  refine sq_cons ⟨_, [(.t 2, sV (⟨#[]⟩ : ByteArray))]⟩ (v_move (.inr rfl) trivial rfl (ble _ _ rfl) rfl) ?_
  refine sq_nil ?_
  refine ht_seq ?_
  refine ht_region ?_
  refine sq_cons ⟨_, [(.t 4, sV t0)]⟩ (v_move (.inl rfl) trivial rfl (ble _ _ rfl) rfl) ?_
  obtain ⟨t5, c1, h⟩ := bpos h
  refine sq_cons ⟨_, [(.t 5, sV t5)]⟩ (w_call (ds := [(.s (.string t0))]) (caps := []) (l := [(.s (.string t5))]) (s10 k t0 _ c1) rfl rfl rfl en10 trivial rfl (ble _ _ rfl) (.inl ⟨rfl, rfl⟩) rfl rfl) ?_
  refine sq_cons ⟨_, [(.t 3, sV t5)]⟩ (v_move (.inr rfl) trivial rfl (ble _ _ rfl) rfl) ?_
  refine sq_nil ?_
  refine ht_seq ?_
  refine ht_region ?_
  refine sq_cons ⟨_, [(.t 6, sV t5)]⟩ (v_move (.inl rfl) trivial rfl (ble _ _ rfl) rfl) ?_
  refine sq_cons ⟨_, [(.t 7, sV t5)]⟩ (v_move (.inl rfl) trivial rfl (ble _ _ rfl) rfl) ?_
  obtain ⟨t8, c2, h⟩ := bpos h
  refine sq_cons ⟨_, [(.t 8, nV .u32 t8)]⟩ (w_call (ds := [(.s (.string t5))]) (caps := []) (l := [(.s (.int .u32 t8))]) (s12 k t5 _ c2) rfl rfl rfl en12 trivial rfl (ble _ _ rfl) (.inl ⟨rfl, rfl⟩) rfl rfl) ?_
  obtain ⟨t9, c3, h⟩ := bpos h
  refine sq_cons ⟨_, [(.t 9, sV t9)]⟩ (w_call (ds := [(.s (.int .u32 t8))]) (caps := []) (l := [(.s (.string t9))]) (s11 k t8 _ c3) rfl rfl rfl en11 trivial rfl (ble _ _ rfl) (.inl ⟨rfl, rfl⟩) rfl rfl) ?_
  obtain ⟨e4, h⟩ := gpos h
  refine sq_cons ⟨_, [(.t 10, sV (t5 ++ t9))]⟩ (v_bin rfl trivial rfl (ble _ _ rfl) rfl rfl (b_cat e4 rfl)) ?_
  refine sq_cons ⟨_, [(.t 2, sV (t5 ++ t9))]⟩ (v_move (.inr rfl) trivial rfl (ble _ _ rfl) rfl) ?_
  refine sq_nil ?_
  refine ht_ret ?_
  cases h
  exact ret1 rfl (.tmp rfl)
set_option maxHeartbeats 4000000 in
theorem s3 {A : Amb} (k : Nat) (t0 : Int) (r : Bool) (h : F3 k t0 = some r) : Awp.Spec Try.prog A 3 [(.s (.int .i8 t0))] (.ds [(.s (.bool r))]) := by
  rw [F3] at h
  refine spec_of Try.func3 rfl (ble _ _ rfl) fun w0 ok0 lt0 hA => ?_
  refine ht_seq ?_
  refine ht_region ?_
  refine sq_cons ⟨_, [(.t 2, bV false)]⟩ (v_move (.inr rfl) trivial rfl (ble _ _ rfl) rfl) ?_
  refine sq_nil ?_
  refine ht_seq ?_
  refine ht_region ?_
  refine sq_cons ⟨_, [(.t 6, nV .i8 t0)]⟩ (v_move (.inl rfl) trivial rfl (ble _ _ rfl) rfl) ?_
  refine sq_cons ⟨_, [(.t 7, iV (IntKind.wrap .i64 t0))]⟩ (v_conv rfl trivial rfl (ble _ _ rfl) rfl (c_int und22 und3 rfl)) ?_
  refine sq_cons ⟨_, [(.t 8, iV (IntKind.wrap .i64 (1048576 + (IntKind.wrap .i64 t0))))]⟩ (v_bin rfl trivial rfl (ble _ _ rfl) rfl rfl (b_add rfl)) ?_
  obtain ⟨e1, h⟩ := gpos h
  refine sq_cons ⟨_, [(.b 9, .row false 5 1 ((List.replicate (IntKind.wrap .i64 (1048576 + (IntKind.wrap .i64 t0))).toNat (0 : Int)).map (eI .u8))), (.t 9, .own 9 1 (List.replicate (IntKind.wrap .i64 (1048576 + (IntKind.wrap .i64 t0))).toNat (0 : Int)).length)]⟩ (w_make 9 (IntKind.wrap .i64 (1048576 + (IntKind.wrap .i64 t0))) (0 : Int) (eI .u8) (.int .u8 0) rfl trivial rfl (ble _ _ rfl) slT23 mk5 (encI .u8) (ble _ _ rfl) rfl rfl rfl (hz1 rfl rfl) rfl e1) ?_
  refine sq_cons ⟨_, [(.t 10, sV (ofB (List.replicate (IntKind.wrap .i64 (1048576 + (IntKind.wrap .i64 t0))).toNat (0 : Int))))]⟩ (w_b2s (List.replicate (IntKind.wrap .i64 (1048576 + (IntKind.wrap .i64 t0))).toNat (0 : Int)) rfl trivial rfl (ble _ _ rfl) und23 und5 und9 rfl (.own 9 _ _ rfl)) ?_
  refine sq_cons ⟨_, [(.t 3, sV (ofB (List.replicate (IntKind.wrap .i64 (1048576 + (IntKind.wrap .i64 t0))).toNat (0 : Int))))]⟩ (v_move (.inr rfl) trivial rfl (ble _ _ rfl) rfl) ?_
  refine sq_nil ?_
  refine ht_seq ?_
  refine ht_region ?_
  refine sq_cons ⟨_, [(.t 12, sV (ofB (List.replicate (IntKind.wrap .i64 (1048576 + (IntKind.wrap .i64 t0))).toNat (0 : Int))))]⟩ (v_move (.inl rfl) trivial rfl (ble _ _ rfl) rfl) ?_
  obtain ⟨⟨t13a, t13b⟩, c2, h⟩ := bpos h
  refine sq_cons ⟨_, [(.t 13, .tup [sV t13a, iV t13b])]⟩ (w_call (ds := [(.s (.string (ofB (List.replicate (IntKind.wrap .i64 (1048576 + (IntKind.wrap .i64 t0))).toNat (0 : Int)))))]) (caps := []) (l := [(.s (.string t13a)), (.s (.int .i64 t13b))]) (s4 k (ofB (List.replicate (IntKind.wrap .i64 (1048576 + (IntKind.wrap .i64 t0))).toNat (0 : Int))) _ c2) rfl rfl rfl en4 trivial rfl (ble _ _ rfl) (.inl ⟨rfl, rfl⟩) rfl rfl) ?_
  refine sq_cons ⟨_, [(.t 11, .tup [sV t13a, iV t13b])]⟩ (v_move (.inl rfl) trivial rfl (ble _ _ rfl) rfl) ?_
  refine sq_cons ⟨_, [(.t 14, sV t13a)]⟩ (v_extract rfl trivial rfl (ble _ _ rfl) rfl rfl) ?_
  refine sq_cons ⟨_, [(.t 15, iV t13b)]⟩ (v_extract rfl trivial rfl (ble _ _ rfl) rfl rfl) ?_
  refine sq_cons ⟨_, [(.t 4, sV t13a)]⟩ (v_move (.inr rfl) trivial rfl (ble _ _ rfl) rfl) ?_
  refine sq_cons ⟨_, [(.t 5, iV t13b)]⟩ (v_move (.inr rfl) trivial rfl (ble _ _ rfl) rfl) ?_
  refine sq_nil ?_
  refine ht_seq ?_
  refine ht_seq ?_
  refine ht_region ?_
  refine sq_cons ⟨_, [(.t 16, nV .i8 t0)]⟩ (v_move (.inl rfl) trivial rfl (ble _ _ rfl) rfl) ?_
  refine sq_cons ⟨_, [(.t 17, bV (ltI 0 t0))]⟩ (v_bin rfl trivial rfl (ble _ _ rfl) rfl rfl (b_gtr rfl)) ?_
  refine sq_nil ?_
  refine ht_cond (b := (ltI 0 t0)) rfl (fun e3 => ?_) (fun e3 => ?_)
  · replace h := cpos e3 h
    refine ht_seq ?_
    refine ht_region ?_
    refine sq_cons ⟨_, [(.t 18, sV t13a)]⟩ (v_move (.inl rfl) trivial rfl (ble _ _ rfl) rfl) ?_
    refine sq_cons ⟨_, [(.t 19, bV (strEq t13a (⟨#[]⟩ : ByteArray)))]⟩ (v_bin rfl trivial rfl (ble _ _ rfl) rfl rfl (b_eqS rfl)) ?_
    refine sq_cons ⟨_, [(.t 20, bV (strEq t13a (⟨#[]⟩ : ByteArray)))]⟩ (v_move (.inl rfl) trivial rfl (ble _ _ rfl) rfl) ?_
    refine sq_cons ⟨_, [(.t 21, mg (strEq t13a (⟨#[]⟩ : ByteArray)) (iV t13b))]⟩ (v_cT rfl rfl rfl (ble _ _ rfl) rfl fun e4 => (v_move (.inl rfl) ⟨_, rfl, be e4⟩ rfl (ble _ _ rfl) rfl)) ?_
    refine sq_cons ⟨_, [(.t 22, mg (strEq t13a (⟨#[]⟩ : ByteArray)) (bV (eqI t13b 5)))]⟩ (v_cT rfl rfl rfl (ble _ _ rfl) rfl fun e5 => (v_bin rfl ⟨_, rfl, be e5⟩ rfl (ble _ _ rfl) (gv e5) rfl (b_eql rfl))) ?_
    refine sq_cons ⟨_, [(.t 23, bV ((strEq t13a (⟨#[]⟩ : ByteArray)) && (eqI t13b 5)))]⟩ (v_pickB rfl trivial rfl (ble _ _ rfl) rfl (fun e6 => (gv e6)) (fun e7 => rfl) (pA _ _)) ?_
    refine sq_cons ⟨_, [(.t 24, bV ((strEq t13a (⟨#[]⟩ : ByteArray)) && (eqI t13b 5)))]⟩ (v_move (.inl rfl) trivial rfl (ble _ _ rfl) rfl) ?_
    obtain ⟨t25, c9, h⟩ := bpos h
    refine sq_cons ⟨_, [(.t 25, mg ((strEq t13a (⟨#[]⟩ : ByteArray)) && (eqI t13b 5)) (bV t25))]⟩ (v_cT rfl rfl rfl (ble _ _ rfl) rfl fun e8 => (w_call (ds := []) (caps := []) (l := [(.s (.bool t25))]) (s5 k _ (cpos e8 c9)) rfl rfl rfl en5 ⟨_, rfl, be e8⟩ rfl (ble _ _ rfl) (.inl ⟨rfl, rfl⟩) rfl rfl)) ?_
    refine sq_cons ⟨_, [(.t 26, bV (((strEq t13a (⟨#[]⟩ : ByteArray)) && (eqI t13b 5)) && t25))]⟩ (v_pickB rfl trivial rfl (ble _ _ rfl) rfl (fun e10 => (gv e10)) (fun e11 => rfl) (pA _ _)) ?_
    refine sq_cons ⟨_, [(.t 2, bV (((strEq t13a (⟨#[]⟩ : ByteArray)) && (eqI t13b 5)) && t25))]⟩ (v_move (.inr rfl) trivial rfl (ble _ _ rfl) rfl) ?_
    refine sq_nil ?_
    refine ht_ret ?_
    cases h
    exact ret1 rfl (.tmp rfl)
  · replace h := cneg e3 h
    refine ht_skip ?_
    refine ht_seq ?_
    refine ht_region ?_
    refine sq_cons ⟨_, [(.t 27, sV t13a)]⟩ (v_move (.inl rfl) trivial rfl (ble _ _ rfl) rfl) ?_
    refine sq_cons ⟨_, [(.t 28, sV (ofB (List.replicate (IntKind.wrap .i64 (1048576 + (IntKind.wrap .i64 t0))).toNat (0 : Int))))]⟩ (v_move (.inl rfl) trivial rfl (ble _ _ rfl) rfl) ?_
    obtain ⟨t29, c12, h⟩ := bpos h
    refine sq_cons ⟨_, [(.t 29, sV t29)]⟩ (w_call (ds := [(.s (.string (ofB (List.replicate (IntKind.wrap .i64 (1048576 + (IntKind.wrap .i64 t0))).toNat (0 : Int)))))]) (caps := []) (l := [(.s (.string t29))]) (s6 k (ofB (List.replicate (IntKind.wrap .i64 (1048576 + (IntKind.wrap .i64 t0))).toNat (0 : Int))) _ c12) rfl rfl rfl en6 trivial rfl (ble _ _ rfl) (.inl ⟨rfl, rfl⟩) rfl rfl) ?_
    refine sq_cons ⟨_, [(.t 30, bV (strEq t13a t29))]⟩ (v_bin rfl trivial rfl (ble _ _ rfl) rfl rfl (b_eqS rfl)) ?_
    refine sq_cons ⟨_, [(.t 31, bV (strEq t13a t29))]⟩ (v_move (.inl rfl) trivial rfl (ble _ _ rfl) rfl) ?_
    refine sq_cons ⟨_, [(.t 32, mg (strEq t13a t29) (iV t13b))]⟩ (v_cT rfl rfl rfl (ble _ _ rfl) rfl fun e13 => (v_move (.inl rfl) ⟨_, rfl, be e13⟩ rfl (ble _ _ rfl) rfl)) ?_
    refine sq_cons ⟨_, [(.t 33, mg (strEq t13a t29) (bV (eqI t13b 0)))]⟩ (v_cT rfl rfl rfl (ble _ _ rfl) rfl fun e14 => (v_bin rfl ⟨_, rfl, be e14⟩ rfl (ble _ _ rfl) (gv e14) rfl (b_eql rfl))) ?_
    refine sq_cons ⟨_, [(.t 34, bV ((strEq t13a t29) && (eqI t13b 0)))]⟩ (v_pickB rfl trivial rfl (ble _ _ rfl) rfl (fun e15 => (gv e15)) (fun e16 => rfl) (pA _ _)) ?_
    refine sq_cons ⟨_, [(.t 35, bV ((strEq t13a t29) && (eqI t13b 0)))]⟩ (v_move (.inl rfl) trivial rfl (ble _ _ rfl) rfl) ?_
    obtain ⟨t36, c18, h⟩ := bpos h
    refine sq_cons ⟨_, [(.t 36, mg ((strEq t13a t29) && (eqI t13b 0)) (bV t36))]⟩ (v_cT rfl rfl rfl (ble _ _ rfl) rfl fun e17 => (w_call (ds := []) (caps := []) (l := [(.s (.bool t36))]) (s5 k _ (cpos e17 c18)) rfl rfl rfl en5 ⟨_, rfl, be e17⟩ rfl (ble _ _ rfl) (.inl ⟨rfl, rfl⟩) rfl rfl)) ?_
    refine sq_cons ⟨_, [(.t 37, bV (((strEq t13a t29) && (eqI t13b 0)) && t36))]⟩ (v_pickB rfl trivial rfl (ble _ _ rfl) rfl (fun e19 => (gv e19)) (fun e20 => rfl) (pA _ _)) ?_
    refine sq_cons ⟨_, [(.t 2, bV (((strEq t13a t29) && (eqI t13b 0)) && t36))]⟩ (v_move (.inr rfl) trivial rfl (ble _ _ rfl) rfl) ?_
    refine sq_nil ?_
    refine ht_ret ?_
    cases h
    exact ret1 rfl (.tmp rfl)
end Go.Proofs.Fl
