import Derived.Test.YthhpelmjnmlgjaaDoorEdWalk3
import Derived.KernelRfl
set_option linter.unusedVariables false
namespace Go.Proofs.Ed
open Go Go.Awp Go.Proofs
set_option maxRecDepth 100000 in
set_option maxHeartbeats 4000000 in
theorem s7 (k : Nat) (r : Bool) (h : F7 k = some r) : Awp.Spec Tryd.prog amb 7 [] (.ds [(.s (.bool r))]) := by
  rw [F7] at h
  refine spec_of Tryd.func7 rfl (ble _ _ rfl) fun w0 ok0 lt0 hA => ?_
  refine ht_seq ?_
  refine ht_region ?_
  refine sq_cons ⟨_, [(.t 0, bV false)]⟩ (v_move (.inr rfl) trivial rfl (ble _ _ rfl) rfl) ?_
  refine sq_nil ?_
  refine ht_seq ?_
  refine ht_region ?_
  refine sq_cons ⟨_, [(.t 6, .d (.agg (eShard (⟨1, 1, (⟨⟨#[]⟩, ⟨#[]⟩⟩ : Span), 1, ([] : List Entry), (⟨0, 0, 0⟩ : Stamp), (⟨0, 0, 0⟩ : Stamp), ([] : List Done), 0, 0, 0, 0⟩ : Shard))))]⟩ (w_bld zc50 ((eShard (⟨1, 1, (⟨⟨#[]⟩, ⟨#[]⟩⟩ : Span), 1, ([] : List Entry), (⟨0, 0, 0⟩ : Stamp), (⟨0, 0, 0⟩ : Stamp), ([] : List Done), 0, 0, 0, 0⟩ : Shard)).map V.d) [(0, iV 1), (1, iV 1), (3, iV 1)] rfl trivial rfl (ble _ _ rfl) zw50 rfl ft50 rfl rfl rfl rfl) ?_
  refine sq_cons ⟨_, [(.t 7, .d (.sl 17 (([(⟨1, 1, (⟨⟨#[]⟩, ⟨#[]⟩⟩ : Span), 1, ([] : List Entry), (⟨0, 0, 0⟩ : Stamp), (⟨0, 0, 0⟩ : Stamp), ([] : List Done), 0, 0, 0, 0⟩ : Shard)]).map eShard)))]⟩ (w_bsl_d [(0, .d (.agg (eShard (⟨1, 1, (⟨⟨#[]⟩, ⟨#[]⟩⟩ : Span), 1, ([] : List Entry), (⟨0, 0, 0⟩ : Stamp), (⟨0, 0, 0⟩ : Stamp), ([] : List Done), 0, 0, 0, 0⟩ : Shard))))] [(⟨1, 1, (⟨⟨#[]⟩, ⟨#[]⟩⟩ : Span), 1, ([] : List Entry), (⟨0, 0, 0⟩ : Stamp), (⟨0, 0, 0⟩ : Stamp), ([] : List Done), 0, 0, 0, 0⟩ : Shard)] eShard rfl trivial rfl (ble _ _ rfl) slT28 zr50 teShard (ble _ _ rfl) rfl (by kernel_rfl) rfl rfl (by kernel_rfl)) ?_
  refine sq_cons ⟨_, [(.t 8, .d (.agg (eCell (⟨([(⟨1, 1, (⟨⟨#[]⟩, ⟨#[]⟩⟩ : Span), 1, ([] : List Entry), (⟨0, 0, 0⟩ : Stamp), (⟨0, 0, 0⟩ : Stamp), ([] : List Done), 0, 0, 0, 0⟩ : Shard)]), (⟨0, 0, 0⟩ : Stamp), 0⟩ : Cell))))]⟩ (w_bld zc30 ((eCell (⟨([(⟨1, 1, (⟨⟨#[]⟩, ⟨#[]⟩⟩ : Span), 1, ([] : List Entry), (⟨0, 0, 0⟩ : Stamp), (⟨0, 0, 0⟩ : Stamp), ([] : List Done), 0, 0, 0, 0⟩ : Shard)]), (⟨0, 0, 0⟩ : Stamp), 0⟩ : Cell)).map V.d) [(0, .d (.sl 17 (([(⟨1, 1, (⟨⟨#[]⟩, ⟨#[]⟩⟩ : Span), 1, ([] : List Entry), (⟨0, 0, 0⟩ : Stamp), (⟨0, 0, 0⟩ : Stamp), ([] : List Done), 0, 0, 0, 0⟩ : Shard)]).map eShard)))] rfl trivial rfl (ble _ _ rfl) zw30 rfl ft30 rfl rfl rfl rfl) ?_
  refine sq_cons _ (v_alloc (id := 1) (cs := zc30) rfl trivial rfl (ble _ _ rfl) zu30 rfl ft30 rfl) ?_
  refine sq_cons _ (v_store_box (id := 1) (off := 0) (cs := (eCell (⟨([(⟨1, 1, (⟨⟨#[]⟩, ⟨#[]⟩⟩ : Span), 1, ([] : List Entry), (⟨0, 0, 0⟩ : Stamp), (⟨0, 0, 0⟩ : Stamp), ([] : List Done), 0, 0, 0, 0⟩ : Shard)]), (⟨0, 0, 0⟩ : Stamp), 0⟩ : Cell)).map V.d) rfl trivial rfl sz30 rfl rfl rfl rfl (ones_of rfl) (ble _ _ rfl)) ?_
  refine sq_nil ?_
  refine ht_seq ?_
  refine ht_region_draw mixed ?_
  refine rg_cons ⟨_, [(.t 10, .d (.agg (eCell (⟨([(⟨1, 1, (⟨⟨#[]⟩, ⟨#[]⟩⟩ : Span), 1, ([] : List Entry), (⟨0, 0, 0⟩ : Stamp), (⟨0, 0, 0⟩ : Stamp), ([] : List Done), 0, 0, 0, 0⟩ : Shard)]), (⟨0, 0, 0⟩ : Stamp), 0⟩ : Cell))))]⟩ (w_ldb 1 0 rfl trivial rfl (ble _ _ rfl) ag30 rfl rfl (ble _ _ rfl) rfl) ?_
  refine rg_cons ⟨_, [(.t 11, .d (.agg (eRequest (⟨1, 1, 1, (⟨#[97]⟩ : ByteArray), (⟨#[120]⟩ : ByteArray), false, (⟨#[]⟩ : ByteArray), (⟨0, 0, 0⟩ : Stamp), (⟨#[]⟩ : ByteArray), 0⟩ : Request))))]⟩ (w_bld zc25 ((eRequest (⟨1, 1, 1, (⟨#[97]⟩ : ByteArray), (⟨#[120]⟩ : ByteArray), false, (⟨#[]⟩ : ByteArray), (⟨0, 0, 0⟩ : Stamp), (⟨#[]⟩ : ByteArray), 0⟩ : Request)).map V.d) [(0, iV 1), (1, iV 1), (2, iV 1), (3, sV (⟨#[97]⟩ : ByteArray)), (4, sV (⟨#[120]⟩ : ByteArray))] rfl trivial rfl (ble _ _ rfl) zw25 rfl ft25 rfl rfl rfl rfl) ?_
  obtain ⟨t12, c1, h⟩ := bpos h
  refine rg_cons ⟨_, [(.t 12, .d (.agg (eStamp t12)))]⟩ (w_call (ds := [(.s (.int .i64 5))]) (caps := []) (l := [(.agg (eStamp t12))]) (s18 k 5 _ c1) rfl rfl rfl en18 trivial rfl (ble _ _ rfl) (.inl ⟨rfl, rfl⟩) rfl rfl) ?_
  obtain ⟨⟨t13a, t13b⟩, c2, h⟩ := bpos h
  refine rg_cons ⟨_, [(.t 13, .tup [.d (.agg (eCell t13a)), .d (.agg (eAnswer t13b))])]⟩ (w_call (ds := [(.agg (eCell (⟨([(⟨1, 1, (⟨⟨#[]⟩, ⟨#[]⟩⟩ : Span), 1, ([] : List Entry), (⟨0, 0, 0⟩ : Stamp), (⟨0, 0, 0⟩ : Stamp), ([] : List Done), 0, 0, 0, 0⟩ : Shard)]), (⟨0, 0, 0⟩ : Stamp), 0⟩ : Cell))), (.s (.int .i64 1)), (.s (.int .i64 1)), (.agg (eRequest (⟨1, 1, 1, (⟨#[97]⟩ : ByteArray), (⟨#[120]⟩ : ByteArray), false, (⟨#[]⟩ : ByteArray), (⟨0, 0, 0⟩ : Stamp), (⟨#[]⟩ : ByteArray), 0⟩ : Request))), (.agg (eStamp t12)), (.s (.int .i64 0))]) (caps := []) (l := [(.agg (eCell t13a)), (.agg (eAnswer t13b))]) (s9 k (⟨([(⟨1, 1, (⟨⟨#[]⟩, ⟨#[]⟩⟩ : Span), 1, ([] : List Entry), (⟨0, 0, 0⟩ : Stamp), (⟨0, 0, 0⟩ : Stamp), ([] : List Done), 0, 0, 0, 0⟩ : Shard)]), (⟨0, 0, 0⟩ : Stamp), 0⟩ : Cell) 1 1 (⟨1, 1, 1, (⟨#[97]⟩ : ByteArray), (⟨#[120]⟩ : ByteArray), false, (⟨#[]⟩ : ByteArray), (⟨0, 0, 0⟩ : Stamp), (⟨#[]⟩ : ByteArray), 0⟩ : Request) t12 0 _ c2) rfl rfl rfl en9 trivial rfl (ble _ _ rfl) (.inl ⟨rfl, rfl⟩) rfl rfl) ?_
  refine rg_cons ⟨_, [(.t 9, .tup [.d (.agg (eCell t13a)), .d (.agg (eAnswer t13b))])]⟩ (v_move (.inl rfl) trivial rfl (ble _ _ rfl) rfl) ?_
  refine rg_cons ⟨_, [(.t 14, .d (.agg (eCell t13a)))]⟩ (v_extract rfl trivial rfl (ble _ _ rfl) rfl rfl) ?_
  refine rg_cons ⟨_, [(.t 15, .d (.agg (eAnswer t13b)))]⟩ (v_extract rfl trivial rfl (ble _ _ rfl) rfl rfl) ?_
  refine rg_cons _ (v_alloc (id := 2) (cs := zc30) rfl trivial rfl (ble _ _ rfl) zu30 rfl ft30 rfl) ?_
  refine rg_cons _ (v_alloc (id := 3) (cs := zc35) rfl trivial rfl (ble _ _ rfl) zu35 rfl ft35 rfl) ?_
  refine rg_cons _ (v_store_box (id := 2) (off := 0) (cs := (eCell t13a).map V.d) rfl trivial rfl sz30 rfl rfl rfl rfl (ones_of rfl) (ble _ _ rfl)) ?_
  refine rg_cons _ (v_store_box (id := 3) (off := 0) (cs := (eAnswer t13b).map V.d) rfl trivial rfl sz35 rfl rfl rfl rfl (ones_of rfl) (ble _ _ rfl)) ?_
  refine rg_nil ⟨by kernel_rfl, ?_⟩
  refine ht_seq ?_
  refine ht_region_draw mixed ?_
  refine rg_cons ⟨_, [(.t 17, .d (.agg (eCell t13a)))]⟩ (w_ldb 2 0 rfl trivial rfl (ble _ _ rfl) ag30 rfl rfl (ble _ _ rfl) rfl) ?_
  refine rg_cons ⟨_, [(.t 18, .d (.agg (eRequest (⟨1, 2, 4, (⟨#[97]⟩ : ByteArray), (⟨#[]⟩ : ByteArray), false, (⟨#[]⟩ : ByteArray), (⟨0, 0, 0⟩ : Stamp), (⟨#[]⟩ : ByteArray), 0⟩ : Request))))]⟩ (w_bld zc25 ((eRequest (⟨1, 2, 4, (⟨#[97]⟩ : ByteArray), (⟨#[]⟩ : ByteArray), false, (⟨#[]⟩ : ByteArray), (⟨0, 0, 0⟩ : Stamp), (⟨#[]⟩ : ByteArray), 0⟩ : Request)).map V.d) [(0, iV 1), (1, iV 2), (2, iV 4), (3, sV (⟨#[97]⟩ : ByteArray))] rfl trivial rfl (ble _ _ rfl) zw25 rfl ft25 rfl rfl rfl rfl) ?_
  obtain ⟨t19, c3, h⟩ := bpos h
  refine rg_cons ⟨_, [(.t 19, .d (.agg (eStamp t19)))]⟩ (w_call (ds := [(.s (.int .i64 6))]) (caps := []) (l := [(.agg (eStamp t19))]) (s18 k 6 _ c3) rfl rfl rfl en18 trivial rfl (ble _ _ rfl) (.inl ⟨rfl, rfl⟩) rfl rfl) ?_
  obtain ⟨⟨t20a, t20b⟩, c4, h⟩ := bpos h
  refine rg_cons ⟨_, [(.t 20, .tup [.d (.agg (eCell t20a)), .d (.agg (eAnswer t20b))])]⟩ (w_call (ds := [(.agg (eCell t13a)), (.s (.int .i64 1)), (.s (.int .i64 1)), (.agg (eRequest (⟨1, 2, 4, (⟨#[97]⟩ : ByteArray), (⟨#[]⟩ : ByteArray), false, (⟨#[]⟩ : ByteArray), (⟨0, 0, 0⟩ : Stamp), (⟨#[]⟩ : ByteArray), 0⟩ : Request))), (.agg (eStamp t19)), (.s (.int .i64 0))]) (caps := []) (l := [(.agg (eCell t20a)), (.agg (eAnswer t20b))]) (s9 k t13a 1 1 (⟨1, 2, 4, (⟨#[97]⟩ : ByteArray), (⟨#[]⟩ : ByteArray), false, (⟨#[]⟩ : ByteArray), (⟨0, 0, 0⟩ : Stamp), (⟨#[]⟩ : ByteArray), 0⟩ : Request) t19 0 _ c4) rfl rfl rfl en9 trivial rfl (ble _ _ rfl) (.inl ⟨rfl, rfl⟩) rfl rfl) ?_
  refine rg_cons ⟨_, [(.t 16, .tup [.d (.agg (eCell t20a)), .d (.agg (eAnswer t20b))])]⟩ (v_move (.inl rfl) trivial rfl (ble _ _ rfl) rfl) ?_
  refine rg_cons ⟨_, [(.t 21, .d (.agg (eCell t20a)))]⟩ (v_extract rfl trivial rfl (ble _ _ rfl) rfl rfl) ?_
  refine rg_cons ⟨_, [(.t 22, .d (.agg (eAnswer t20b)))]⟩ (v_extract rfl trivial rfl (ble _ _ rfl) rfl rfl) ?_
  refine rg_cons _ (v_alloc (id := 4) (cs := zc30) rfl trivial rfl (ble _ _ rfl) zu30 rfl ft30 rfl) ?_
  refine rg_cons _ (v_alloc (id := 5) (cs := zc35) rfl trivial rfl (ble _ _ rfl) zu35 rfl ft35 rfl) ?_
  refine rg_cons _ (v_store_box (id := 4) (off := 0) (cs := (eCell t20a).map V.d) rfl trivial rfl sz30 rfl rfl rfl rfl (ones_of rfl) (ble _ _ rfl)) ?_
  refine rg_cons _ (v_store_box (id := 5) (off := 0) (cs := (eAnswer t20b).map V.d) rfl trivial rfl sz35 rfl rfl rfl rfl (ones_of rfl) (ble _ _ rfl)) ?_
  refine rg_nil ⟨by kernel_rfl, ?_⟩
  refine ht_seq ?_
  refine ht_region_draw mixed ?_
  refine rg_cons ⟨_, [(.t 23, .d (.agg (eCell t13a)))]⟩ (w_ldb 2 0 rfl trivial rfl (ble _ _ rfl) ag30 rfl rfl (ble _ _ rfl) rfl) ?_
  obtain ⟨t24, c5, h⟩ := bpos h
  refine rg_cons ⟨_, [(.t 24, bV t24)]⟩ (w_call (ds := [(.agg (eCell t13a))]) (caps := []) (l := [(.s (.bool t24))]) (s19 k t13a _ c5) rfl rfl rfl en19 trivial rfl (ble _ _ rfl) (.inl ⟨rfl, rfl⟩) rfl rfl) ?_
  refine rg_cons ⟨_, [(.t 25, bV t24)]⟩ (v_move (.inl rfl) trivial rfl (ble _ _ rfl) rfl) ?_
  refine rg_cons ⟨_, [(.t 26, mg t24 (.ptr 3 1))]⟩ (v_cT rfl rfl rfl (ble _ _ rfl) rfl fun e6 => (v_field_box (off := 0) (a0 := 1) rfl ⟨_, rfl, be e6⟩ rfl (ble _ _ rfl) fo35_1 rfl)) ?_
  refine rg_cons ⟨_, [(.t 27, mg t24 (.d (.agg (eStamp t13b.mAt))))]⟩ (v_cT rfl rfl rfl (ble _ _ rfl) rfl fun e7 => (w_ldb 3 1 rfl ⟨_, rfl, be e7⟩ rfl (ble _ _ rfl) ag23 (gv e7) rfl (ble _ _ rfl) rfl)) ?_
  obtain ⟨t28, c9, h⟩ := bpos h
  refine rg_cons ⟨_, [(.t 28, mg t24 (.d (.agg (eStamp t28))))]⟩ (v_cT rfl rfl rfl (ble _ _ rfl) rfl fun e8 => (w_call (ds := [(.s (.int .i64 5))]) (caps := []) (l := [(.agg (eStamp t28))]) (s18 k 5 _ (cpos e8 c9)) rfl rfl rfl en18 ⟨_, rfl, be e8⟩ rfl (ble _ _ rfl) (.inl ⟨rfl, rfl⟩) rfl rfl)) ?_
  refine rg_cons ⟨_, [(.t 29, mg t24 (bV (qStamp t13b.mAt t28)))]⟩ (v_cT rfl rfl rfl (ble _ _ rfl) rfl fun e10 => (v_bin_eql (f := eStamp) rfl ⟨_, rfl, be e10⟩ rfl (ble _ _ rfl) (gv e10) (gv e10) rfl rfl eg23 (eq23 _ _))) ?_
  refine rg_cons ⟨_, [(.t 30, bV (t24 && (qStamp t13b.mAt t28)))]⟩ (v_pickB rfl trivial rfl (ble _ _ rfl) rfl (fun e11 => (gv e11)) (fun e12 => rfl) (pA _ _)) ?_
  refine rg_cons ⟨_, [(.t 31, bV (t24 && (qStamp t13b.mAt t28)))]⟩ (v_move (.inl rfl) trivial rfl (ble _ _ rfl) rfl) ?_
  refine rg_cons ⟨_, [(.t 32, mg (t24 && (qStamp t13b.mAt t28)) (.ptr 3 0))]⟩ (v_cT rfl rfl rfl (ble _ _ rfl) rfl fun e13 => (v_field_box (off := 0) (a0 := 0) rfl ⟨_, rfl, be e13⟩ rfl (ble _ _ rfl) fo35_0 rfl)) ?_
  refine rg_cons ⟨_, [(.t 33, mg (t24 && (qStamp t13b.mAt t28)) (iV t13b.mErr))]⟩ (v_cT rfl rfl rfl (ble _ _ rfl) rfl fun e14 => (v_load_box1 (id := 3) (off := 0) rfl ⟨_, rfl, be e14⟩ rfl (ble _ _ rfl) onT32 (gv e14) rfl (ble _ _ rfl) rfl)) ?_
  refine rg_cons ⟨_, [(.t 34, mg (t24 && (qStamp t13b.mAt t28)) (bV (eqI t13b.mErr 0)))]⟩ (v_cT rfl rfl rfl (ble _ _ rfl) rfl fun e15 => (v_bin rfl ⟨_, rfl, be e15⟩ rfl (ble _ _ rfl) (gv e15) rfl (b_eql rfl))) ?_
  refine rg_cons ⟨_, [(.t 35, bV ((t24 && (qStamp t13b.mAt t28)) && (eqI t13b.mErr 0)))]⟩ (v_pickB rfl trivial rfl (ble _ _ rfl) rfl (fun e16 => (gv e16)) (fun e17 => rfl) (pA _ _)) ?_
  refine rg_cons ⟨_, [(.t 36, bV ((t24 && (qStamp t13b.mAt t28)) && (eqI t13b.mErr 0)))]⟩ (v_move (.inl rfl) trivial rfl (ble _ _ rfl) rfl) ?_
  refine rg_cons ⟨_, [(.t 37, mg ((t24 && (qStamp t13b.mAt t28)) && (eqI t13b.mErr 0)) (.ptr 5 4))]⟩ (v_cT rfl rfl rfl (ble _ _ rfl) rfl fun e18 => (v_field_box (off := 0) (a0 := 4) rfl ⟨_, rfl, be e18⟩ rfl (ble _ _ rfl) fo35_2 rfl)) ?_
  refine rg_cons ⟨_, [(.t 38, mg ((t24 && (qStamp t13b.mAt t28)) && (eqI t13b.mErr 0)) (bV t20b.mFound))]⟩ (v_cT rfl rfl rfl (ble _ _ rfl) rfl fun e19 => (v_load_box1 (id := 5) (off := 4) rfl ⟨_, rfl, be e19⟩ rfl (ble _ _ rfl) onT4 (gv e19) rfl (ble _ _ rfl) rfl)) ?_
  refine rg_cons ⟨_, [(.t 39, bV (((t24 && (qStamp t13b.mAt t28)) && (eqI t13b.mErr 0)) && t20b.mFound))]⟩ (v_pickB rfl trivial rfl (ble _ _ rfl) rfl (fun e20 => (gv e20)) (fun e21 => rfl) (pA _ _)) ?_
  refine rg_cons ⟨_, [(.t 40, bV (((t24 && (qStamp t13b.mAt t28)) && (eqI t13b.mErr 0)) && t20b.mFound))]⟩ (v_move (.inl rfl) trivial rfl (ble _ _ rfl) rfl) ?_
  refine rg_cons ⟨_, [(.t 41, mg (((t24 && (qStamp t13b.mAt t28)) && (eqI t13b.mErr 0)) && t20b.mFound) (.ptr 5 5))]⟩ (v_cT rfl rfl rfl (ble _ _ rfl) rfl fun e22 => (v_field_box (off := 0) (a0 := 5) rfl ⟨_, rfl, be e22⟩ rfl (ble _ _ rfl) fo35_3 rfl)) ?_
  refine rg_cons ⟨_, [(.t 42, mg (((t24 && (qStamp t13b.mAt t28)) && (eqI t13b.mErr 0)) && t20b.mFound) (sV t20b.mValue))]⟩ (v_cT rfl rfl rfl (ble _ _ rfl) rfl fun e23 => (v_load_box1 (id := 5) (off := 5) rfl ⟨_, rfl, be e23⟩ rfl (ble _ _ rfl) onT9 (gv e23) rfl (ble _ _ rfl) rfl)) ?_
  refine rg_cons ⟨_, [(.t 43, mg (((t24 && (qStamp t13b.mAt t28)) && (eqI t13b.mErr 0)) && t20b.mFound) (bV (strEq t20b.mValue (⟨#[120]⟩ : ByteArray))))]⟩ (v_cT rfl rfl rfl (ble _ _ rfl) rfl fun e24 => (v_bin rfl ⟨_, rfl, be e24⟩ rfl (ble _ _ rfl) (gv e24) rfl (b_eqS rfl))) ?_
  refine rg_cons ⟨_, [(.t 44, bV ((((t24 && (qStamp t13b.mAt t28)) && (eqI t13b.mErr 0)) && t20b.mFound) && (strEq t20b.mValue (⟨#[120]⟩ : ByteArray))))]⟩ (v_pickB rfl trivial rfl (ble _ _ rfl) rfl (fun e25 => (gv e25)) (fun e26 => rfl) (pA _ _)) ?_
  refine rg_cons ⟨_, [(.t 45, bV ((((t24 && (qStamp t13b.mAt t28)) && (eqI t13b.mErr 0)) && t20b.mFound) && (strEq t20b.mValue (⟨#[120]⟩ : ByteArray))))]⟩ (v_move (.inl rfl) trivial rfl (ble _ _ rfl) rfl) ?_
  refine rg_cons ⟨_, [(.t 46, mg ((((t24 && (qStamp t13b.mAt t28)) && (eqI t13b.mErr 0)) && t20b.mFound) && (strEq t20b.mValue (⟨#[120]⟩ : ByteArray))) (.ptr 5 1))]⟩ (v_cT rfl rfl rfl (ble _ _ rfl) rfl fun e27 => (v_field_box (off := 0) (a0 := 1) rfl ⟨_, rfl, be e27⟩ rfl (ble _ _ rfl) fo35_1 rfl)) ?_
  refine rg_cons ⟨_, [(.t 47, mg ((((t24 && (qStamp t13b.mAt t28)) && (eqI t13b.mErr 0)) && t20b.mFound) && (strEq t20b.mValue (⟨#[120]⟩ : ByteArray))) (.d (.agg (eStamp t20b.mAt))))]⟩ (v_cT rfl rfl rfl (ble _ _ rfl) rfl fun e28 => (w_ldb 5 1 rfl ⟨_, rfl, be e28⟩ rfl (ble _ _ rfl) ag23 (gv e28) rfl (ble _ _ rfl) rfl)) ?_
  obtain ⟨t48, c30, h⟩ := bpos h
  refine rg_cons ⟨_, [(.t 48, mg ((((t24 && (qStamp t13b.mAt t28)) && (eqI t13b.mErr 0)) && t20b.mFound) && (strEq t20b.mValue (⟨#[120]⟩ : ByteArray))) (.d (.agg (eStamp t48))))]⟩ (v_cT rfl rfl rfl (ble _ _ rfl) rfl fun e29 => (w_call (ds := [(.s (.int .i64 5))]) (caps := []) (l := [(.agg (eStamp t48))]) (s18 k 5 _ (cpos e29 c30)) rfl rfl rfl en18 ⟨_, rfl, be e29⟩ rfl (ble _ _ rfl) (.inl ⟨rfl, rfl⟩) rfl rfl)) ?_
  refine rg_cons ⟨_, [(.t 49, mg ((((t24 && (qStamp t13b.mAt t28)) && (eqI t13b.mErr 0)) && t20b.mFound) && (strEq t20b.mValue (⟨#[120]⟩ : ByteArray))) (bV (qStamp t20b.mAt t48)))]⟩ (v_cT rfl rfl rfl (ble _ _ rfl) rfl fun e31 => (v_bin_eql (f := eStamp) rfl ⟨_, rfl, be e31⟩ rfl (ble _ _ rfl) (gv e31) (gv e31) rfl rfl eg23 (eq23 _ _))) ?_
  refine rg_cons ⟨_, [(.t 50, bV (((((t24 && (qStamp t13b.mAt t28)) && (eqI t13b.mErr 0)) && t20b.mFound) && (strEq t20b.mValue (⟨#[120]⟩ : ByteArray))) && (qStamp t20b.mAt t48)))]⟩ (v_pickB rfl trivial rfl (ble _ _ rfl) rfl (fun e32 => (gv e32)) (fun e33 => rfl) (pA _ _)) ?_
  refine rg_cons ⟨_, [(.t 0, bV (((((t24 && (qStamp t13b.mAt t28)) && (eqI t13b.mErr 0)) && t20b.mFound) && (strEq t20b.mValue (⟨#[120]⟩ : ByteArray))) && (qStamp t20b.mAt t48)))]⟩ (v_move (.inr rfl) trivial rfl (ble _ _ rfl) rfl) ?_
  refine rg_nil ⟨by kernel_rfl, ?_⟩
  refine ht_ret ?_
  cases h
  exact ret1 rfl (.tmp rfl)
set_option maxRecDepth 100000 in
set_option maxHeartbeats 4000000 in
theorem s3 (k : Nat) (t0 : Request) (r : Bool) (h : F3 k t0 = some r) : Awp.Spec Tryd.prog amb 3 [(.agg (eRequest t0))] (.ds [(.s (.bool r))]) := by
  rw [F3] at h
  refine spec_of Tryd.func3 rfl (ble _ _ rfl) fun w0 ok0 lt0 hA => ?_
  refine ht_seq ?_
  refine ht_region ?_
  refine sq_cons ⟨_, [(.t 1, .d (.dp (eRequest t0)))]⟩ (v_box_d (cs := (eRequest t0)) rfl trivial rfl (ble _ _ rfl) rfl rfl (ones_of rfl)) ?_
  refine sq_cons ⟨_, [(.t 2, bV false)]⟩ (v_move (.inr rfl) trivial rfl (ble _ _ rfl) rfl) ?_
  refine sq_nil ?_
  refine ht_seq ?_
  refine ht_region_draw mixed ?_
  refine rg_cons ⟨_, [(.t 3, .d (.agg (eRequest t0)))]⟩ (w_ldp (eRequest t0) (eRequest t0) rfl trivial rfl (ble _ _ rfl) ag25 rfl (ble _ _ rfl) rfl) ?_
  obtain ⟨t4, c1, h⟩ := bpos h
  refine rg_cons ⟨_, [(.t 4, bV t4)]⟩ (w_call (ds := [(.agg (eRequest t0))]) (caps := []) (l := [(.s (.bool t4))]) (s5 k t0 _ c1) rfl rfl rfl en5 trivial rfl (ble _ _ rfl) (.inl ⟨rfl, rfl⟩) rfl rfl) ?_
  refine rg_cons ⟨_, [(.t 5, .d (.agg (eRequest t0)))]⟩ (w_ldp (eRequest t0) (eRequest t0) rfl trivial rfl (ble _ _ rfl) ag25 rfl (ble _ _ rfl) rfl) ?_
  obtain ⟨t6, c2, h⟩ := bpos h
  refine rg_cons ⟨_, [(.t 6, bV t6)]⟩ (w_call (ds := [(.agg (eRequest t0))]) (caps := []) (l := [(.s (.bool t6))]) (s6 k t0 _ c2) rfl rfl rfl en6 trivial rfl (ble _ _ rfl) (.inl ⟨rfl, rfl⟩) rfl rfl) ?_
  refine rg_cons ⟨_, [(.t 7, bV (t4 == t6))]⟩ (v_bin rfl trivial rfl (ble _ _ rfl) rfl rfl (b_eqB und4 rfl)) ?_
  refine rg_cons ⟨_, [(.t 8, bV (t4 == t6))]⟩ (v_move (.inl rfl) trivial rfl (ble _ _ rfl) rfl) ?_
  obtain ⟨t9, c4, h⟩ := bpos h
  refine rg_cons ⟨_, [(.t 9, mg (t4 == t6) (bV t9))]⟩ (v_cT rfl rfl rfl (ble _ _ rfl) rfl fun e3 => (w_call (ds := []) (caps := []) (l := [(.s (.bool t9))]) (s7 k _ (cpos e3 c4)) rfl rfl rfl en7 ⟨_, rfl, be e3⟩ rfl (ble _ _ rfl) (.inl ⟨rfl, rfl⟩) rfl rfl)) ?_
  refine rg_cons ⟨_, [(.t 10, bV ((t4 == t6) && t9))]⟩ (v_pickB rfl trivial rfl (ble _ _ rfl) rfl (fun e5 => (gv e5)) (fun e6 => rfl) (pA _ _)) ?_
  refine rg_cons ⟨_, [(.t 2, bV ((t4 == t6) && t9))]⟩ (v_move (.inr rfl) trivial rfl (ble _ _ rfl) rfl) ?_
  refine rg_nil ⟨by kernel_rfl, ?_⟩
  refine ht_ret ?_
  cases h
  exact ret1 rfl (.tmp rfl)
set_option maxRecDepth 100000 in
set_option maxHeartbeats 4000000 in
theorem s39 (k : Nat) (t0 : List Entry) (r : Bool) (h : F39 k t0 = some r) : Awp.Spec Tryd.prog amb 39 [(.sl 2 (t0.map eEntry))] (.ds [(.s (.bool r))]) := by
  rw [F39] at h
  refine spec_of Tryd.func39 rfl (ble _ _ rfl) fun w0 ok0 lt0 hA => ?_
  refine ht_seq ?_
  refine ht_region ?_
  refine sq_cons ⟨_, [(.t 2, bV false)]⟩ (v_move (.inr rfl) trivial rfl (ble _ _ rfl) rfl) ?_
  refine sq_nil ?_
  refine ht_seq ?_
  refine ht_seq ?_
  refine ht_region ?_
  refine sq_cons ⟨_, [(.t 4, .d (.sl 2 (t0.map eEntry)))]⟩ (v_move (.inl rfl) trivial rfl (ble _ _ rfl) rfl) ?_
  refine sq_cons ⟨_, [(.t 5, iV (t0.length : Int))]⟩ (w_len t0 eEntry rfl rfl trivial rfl (ble _ _ rfl) slT47 rfl) ?_
  refine sq_cons ⟨_, [(.t 6, bV (ltI 80 (t0.length : Int)))]⟩ (v_bin rfl trivial rfl (ble _ _ rfl) rfl rfl (b_gtr rfl)) ?_
  refine sq_nil ?_
  refine ht_cond (b := (ltI 80 (t0.length : Int))) rfl (fun e1 => ?_) (fun e1 => ?_)
  · replace h := cpos e1 h
    refine ht_seq ?_
    refine ht_region ?_
    refine sq_cons ⟨_, [(.t 2, bV false)]⟩ (v_move (.inr rfl) trivial rfl (ble _ _ rfl) rfl) ?_
    refine sq_nil ?_
    refine ht_ret ?_
    cases h
    exact ret1 rfl (.tmp rfl)
  · replace h := cneg e1 h
    refine ht_skip ?_
    refine ht_gj (go_id' h) (fun _ => tell []) (fun _ h => ?_) (fun v2 K3 h j5 r6 => ?_)
    · refine ht_seq ?_
      refine ht_region ?_
      refine sq_cons ⟨_, [(.t 2, bV true)]⟩ (v_move (.inr rfl) trivial rfl (ble _ _ rfl) rfl) ?_
      refine sq_nil ?_
      refine ht_ret ?_
      cases h
      exact ret1 rfl (.tmp rfl)
    · refine ht_seq ?_
      refine ht_region ?_
      refine sq_cons ⟨_, [(.t 3, iV 0)]⟩ (v_move (.inr rfl) trivial rfl (ble _ _ rfl) rfl) ?_
      refine sq_nil ?_
      refine ht_block ?_
      refine ht_rd h (fun _ => rfl) (fun t3 => tell [(.t 0, .d (.sl 2 (t0.map eEntry))), (.t 3, iV t3)]) (wk_ren _ (fun i => i) rfl ⟨rfl, rfl, trivial⟩) fun k t3 h K23 j8 => ?_
      rw [F39_l1] at h
      refine ht_seq ?_
      refine ht_seq ?_
      refine ht_region ?_
      refine sq_cons ⟨_, [(.t 7, iV t3)]⟩ (v_move (.inl rfl) trivial rfl (ble _ _ rfl) rfl) ?_
      refine sq_cons ⟨_, [(.t 8, .d (.sl 2 (t0.map eEntry)))]⟩ (v_move (.inl rfl) trivial rfl (ble _ _ rfl) rfl) ?_
      refine sq_cons ⟨_, [(.t 9, iV (t0.length : Int))]⟩ (w_len t0 eEntry rfl rfl trivial rfl (ble _ _ rfl) slT47 rfl) ?_
      refine sq_cons ⟨_, [(.t 10, bV (ltI t3 (t0.length : Int)))]⟩ (v_bin rfl trivial rfl (ble _ _ rfl) rfl rfl (b_lss rfl)) ?_
      refine sq_nil ?_
      refine ht_cond (b := (ltI t3 (t0.length : Int))) rfl (fun e10 => ?_) (fun e10 => ?_)
      · replace h := cpos e10 h
        refine ht_skip ?_
        refine ht_seq ?_
        refine ht_block ?_
        refine ht_seq ?_
        refine ht_region ?_
        refine sq_cons ⟨_, [(.t 13, .d (.sl 2 (t0.map eEntry)))]⟩ (v_move (.inl rfl) trivial rfl (ble _ _ rfl) rfl) ?_
        refine sq_cons ⟨_, [(.t 14, iV t3)]⟩ (v_move (.inl rfl) trivial rfl (ble _ _ rfl) rfl) ?_
        obtain ⟨e11, h⟩ := gpos h
        refine sq_cons ⟨_, [(.t 15, .d (.dp (eEntry (rd t0 t3))))]⟩ (w_idx t0 eEntry rfl trivial rfl (ble _ _ rfl) slT47 rfl rfl e11) ?_
        refine sq_cons ⟨_, [(.t 16, .d (.dp (List.drop 1 (eEntry (rd t0 t3)))))]⟩ (v_field_dp (a0 := 1) (cs := (eEntry (rd t0 t3))) rfl trivial rfl (ble _ _ rfl) fo100_1 rfl) ?_
        refine sq_cons ⟨_, [(.t 17, .d (.sl 5 ((rd t0 t3).mChain.map eVersion)))]⟩ (v_load_dp1 rfl trivial rfl (ble _ _ rfl) onT98 rfl rfl) ?_
        refine sq_cons ⟨_, [(.t 18, iV ((rd t0 t3).mChain.length : Int))]⟩ (w_len (rd t0 t3).mChain eVersion rfl rfl trivial rfl (ble _ _ rfl) slT98 rfl) ?_
        refine sq_cons ⟨_, [(.t 19, bV (ltI 80 ((rd t0 t3).mChain.length : Int)))]⟩ (v_bin rfl trivial rfl (ble _ _ rfl) rfl rfl (b_gtr rfl)) ?_
        refine sq_cons ⟨_, [(.t 20, bV (ltI 80 ((rd t0 t3).mChain.length : Int)))]⟩ (v_move (.inl rfl) trivial rfl (ble _ _ rfl) rfl) ?_
        refine sq_cons ⟨_, [(.t 21, mg (!(ltI 80 ((rd t0 t3).mChain.length : Int))) (.d (.sl 2 (t0.map eEntry))))]⟩ (v_cF rfl rfl rfl (ble _ _ rfl) rfl fun e12 => (v_move (.inl rfl) ⟨_, rfl, be e12⟩ rfl (ble _ _ rfl) rfl)) ?_
        refine sq_cons ⟨_, [(.t 22, mg (!(ltI 80 ((rd t0 t3).mChain.length : Int))) (iV t3))]⟩ (v_cF rfl rfl rfl (ble _ _ rfl) rfl fun e13 => (v_move (.inl rfl) ⟨_, rfl, be e13⟩ rfl (ble _ _ rfl) rfl)) ?_
        obtain ⟨e15, h⟩ := gpos h
        refine sq_cons ⟨_, [(.t 23, mg (!(ltI 80 ((rd t0 t3).mChain.length : Int))) (.d (.dp (eEntry (rd t0 t3)))))]⟩ (v_cF rfl rfl rfl (ble _ _ rfl) rfl fun e14 => (w_idx t0 eEntry rfl ⟨_, rfl, be e14⟩ rfl (ble _ _ rfl) slT47 (gv (nF e14)) (gv (nF e14)) (orT e15 (nF e14)))) ?_
        refine sq_cons ⟨_, [(.t 24, mg (!(ltI 80 ((rd t0 t3).mChain.length : Int))) (.d (.dp (eEntry (rd t0 t3)))))]⟩ (v_cF rfl rfl rfl (ble _ _ rfl) rfl fun e16 => (v_field_dp (a0 := 0) (cs := (eEntry (rd t0 t3))) rfl ⟨_, rfl, be e16⟩ rfl (ble _ _ rfl) fo100_0 (gv (nF e16)))) ?_
        refine sq_cons ⟨_, [(.t 25, mg (!(ltI 80 ((rd t0 t3).mChain.length : Int))) (sV (rd t0 t3).mKey))]⟩ (v_cF rfl rfl rfl (ble _ _ rfl) rfl fun e17 => (v_load_dp1 rfl ⟨_, rfl, be e17⟩ rfl (ble _ _ rfl) onT9 (gv (nF e17)) rfl)) ?_
        refine sq_cons ⟨_, [(.t 26, mg (!(ltI 80 ((rd t0 t3).mChain.length : Int))) (iV ((rd t0 t3).mKey.size : Int)))]⟩ (v_cF rfl rfl rfl (ble _ _ rfl) rfl fun e18 => (v_len_str rfl rfl ⟨_, rfl, be e18⟩ rfl (ble _ _ rfl) und9 (gv (nF e18)))) ?_
        refine sq_cons ⟨_, [(.t 27, mg (!(ltI 80 ((rd t0 t3).mChain.length : Int))) (bV (ltI 100 ((rd t0 t3).mKey.size : Int))))]⟩ (v_cF rfl rfl rfl (ble _ _ rfl) rfl fun e19 => (v_bin rfl ⟨_, rfl, be e19⟩ rfl (ble _ _ rfl) (gv (nF e19)) rfl (b_gtr rfl))) ?_
        refine sq_cons ⟨_, [(.t 28, bV ((ltI 80 ((rd t0 t3).mChain.length : Int)) || (ltI 100 ((rd t0 t3).mKey.size : Int))))]⟩ (v_pickB rfl trivial rfl (ble _ _ rfl) rfl (fun e20 => rfl) (fun e21 => (gv (nF e21))) (pO _ _)) ?_
        refine sq_nil ?_
        refine ht_cond (b := ((ltI 80 ((rd t0 t3).mChain.length : Int)) || (ltI 100 ((rd t0 t3).mKey.size : Int)))) rfl (fun e22 => ?_) (fun e22 => ?_)
        · replace h := cpos e22 h
          refine ht_seq ?_
          refine ht_region ?_
          refine sq_cons ⟨_, [(.t 2, bV false)]⟩ (v_move (.inr rfl) trivial rfl (ble _ _ rfl) rfl) ?_
          refine sq_nil ?_
          refine ht_ret ?_
          cases h
          cases r6 _ rfl
          exact ret1 rfl (.tmp rfl)
        · replace h := cneg e22 h
          refine ht_skip ?_
          refine ht_region ?_
          refine sq_cons ⟨_, [(.t 11, iV t3)]⟩ (v_move (.inl rfl) trivial rfl (ble _ _ rfl) rfl) ?_
          refine sq_cons ⟨_, [(.t 12, iV (IntKind.wrap .i64 (t3 + 1)))]⟩ (v_bin rfl trivial rfl (ble _ _ rfl) rfl rfl (b_add rfl)) ?_
          refine sq_cons ⟨_, [(.t 3, iV (IntKind.wrap .i64 (t3 + 1)))]⟩ (v_move (.inr rfl) trivial rfl (ble _ _ rfl) rfl) ?_
          refine sq_nil ?_
          exact j8 _ _ h (wk_ren _ (fun i => i) rfl ⟨rfl, rfl, trivial⟩)
      · replace h := cneg e10 h
        refine ht_exit ?_
        refine tq ?_
        refine tq ?_
        refine bq_hit ?_
        cases h
        exact j5 _ _ rfl (wk_ren _ (fun i => i) rfl trivial)
set_option maxRecDepth 100000 in
set_option maxHeartbeats 4000000 in
theorem s40 (k : Nat) (t0 : List Done) (r : Bool) (h : F40 k t0 = some r) : Awp.Spec Tryd.prog amb 40 [(.sl 11 (t0.map eDone))] (.ds [(.s (.bool r))]) := by
  rw [F40] at h
  refine spec_of Tryd.func40 rfl (ble _ _ rfl) fun w0 ok0 lt0 hA => ?_
  refine ht_seq ?_
  refine ht_region ?_
  refine sq_cons ⟨_, [(.t 2, bV false)]⟩ (v_move (.inr rfl) trivial rfl (ble _ _ rfl) rfl) ?_
  refine sq_nil ?_
  refine ht_seq ?_
  refine ht_seq ?_
  refine ht_region ?_
  refine sq_cons ⟨_, [(.t 4, .d (.sl 11 (t0.map eDone)))]⟩ (v_move (.inl rfl) trivial rfl (ble _ _ rfl) rfl) ?_
  refine sq_cons ⟨_, [(.t 5, iV (t0.length : Int))]⟩ (w_len t0 eDone rfl rfl trivial rfl (ble _ _ rfl) slT48 rfl) ?_
  refine sq_cons ⟨_, [(.t 6, bV (ltI 40 (t0.length : Int)))]⟩ (v_bin rfl trivial rfl (ble _ _ rfl) rfl rfl (b_gtr rfl)) ?_
  refine sq_nil ?_
  refine ht_cond (b := (ltI 40 (t0.length : Int))) rfl (fun e1 => ?_) (fun e1 => ?_)
  · replace h := cpos e1 h
    refine ht_seq ?_
    refine ht_region ?_
    refine sq_cons ⟨_, [(.t 2, bV false)]⟩ (v_move (.inr rfl) trivial rfl (ble _ _ rfl) rfl) ?_
    refine sq_nil ?_
    refine ht_ret ?_
    cases h
    exact ret1 rfl (.tmp rfl)
  · replace h := cneg e1 h
    refine ht_skip ?_
    refine ht_gj (go_id' h) (fun _ => tell []) (fun _ h => ?_) (fun v2 K3 h j5 r6 => ?_)
    · refine ht_seq ?_
      refine ht_region ?_
      refine sq_cons ⟨_, [(.t 2, bV true)]⟩ (v_move (.inr rfl) trivial rfl (ble _ _ rfl) rfl) ?_
      refine sq_nil ?_
      refine ht_ret ?_
      cases h
      exact ret1 rfl (.tmp rfl)
    · refine ht_seq ?_
      refine ht_region ?_
      refine sq_cons ⟨_, [(.t 3, iV 0)]⟩ (v_move (.inr rfl) trivial rfl (ble _ _ rfl) rfl) ?_
      refine sq_nil ?_
      refine ht_block ?_
      refine ht_rd h (fun _ => rfl) (fun t3 => tell [(.t 0, .d (.sl 11 (t0.map eDone))), (.t 3, iV t3)]) (wk_ren _ (fun i => i) rfl ⟨rfl, rfl, trivial⟩) fun k t3 h K13 j8 => ?_
      rw [F40_l1] at h
      refine ht_seq ?_
      refine ht_seq ?_
      refine ht_region ?_
      refine sq_cons ⟨_, [(.t 7, iV t3)]⟩ (v_move (.inl rfl) trivial rfl (ble _ _ rfl) rfl) ?_
      refine sq_cons ⟨_, [(.t 8, .d (.sl 11 (t0.map eDone)))]⟩ (v_move (.inl rfl) trivial rfl (ble _ _ rfl) rfl) ?_
      refine sq_cons ⟨_, [(.t 9, iV (t0.length : Int))]⟩ (w_len t0 eDone rfl rfl trivial rfl (ble _ _ rfl) slT48 rfl) ?_
      refine sq_cons ⟨_, [(.t 10, bV (ltI t3 (t0.length : Int)))]⟩ (v_bin rfl trivial rfl (ble _ _ rfl) rfl rfl (b_lss rfl)) ?_
      refine sq_nil ?_
      refine ht_cond (b := (ltI t3 (t0.length : Int))) rfl (fun e10 => ?_) (fun e10 => ?_)
      · replace h := cpos e10 h
        refine ht_skip ?_
        refine ht_seq ?_
        refine ht_block ?_
        refine ht_seq ?_
        refine ht_region ?_
        refine sq_cons ⟨_, [(.t 13, .d (.sl 11 (t0.map eDone)))]⟩ (v_move (.inl rfl) trivial rfl (ble _ _ rfl) rfl) ?_
        refine sq_cons ⟨_, [(.t 14, iV t3)]⟩ (v_move (.inl rfl) trivial rfl (ble _ _ rfl) rfl) ?_
        obtain ⟨e11, h⟩ := gpos h
        refine sq_cons ⟨_, [(.t 15, .d (.dp (eDone (rd t0 t3))))]⟩ (w_idx t0 eDone rfl trivial rfl (ble _ _ rfl) slT48 rfl rfl e11) ?_
        refine sq_cons ⟨_, [(.t 16, .d (.dp (List.drop 2 (eDone (rd t0 t3)))))]⟩ (v_field_dp (a0 := 2) (cs := (eDone (rd t0 t3))) rfl trivial rfl (ble _ _ rfl) fo78_2 rfl) ?_
        refine sq_cons ⟨_, [(.t 17, .d (.dp (List.drop 8 (eDone (rd t0 t3)))))]⟩ (v_field_dp (a0 := 6) (cs := (List.drop 2 (eDone (rd t0 t3)))) rfl trivial rfl (ble _ _ rfl) fo35_4 rfl) ?_
        refine sq_cons ⟨_, [(.t 18, .d (.sl 2 ((rd t0 t3).mAnswer.mItems.map eItem)))]⟩ (v_load_dp1 rfl trivial rfl (ble _ _ rfl) onT33 rfl rfl) ?_
        refine sq_cons ⟨_, [(.t 19, iV ((rd t0 t3).mAnswer.mItems.length : Int))]⟩ (w_len (rd t0 t3).mAnswer.mItems eItem rfl rfl trivial rfl (ble _ _ rfl) slT33 rfl) ?_
        refine sq_cons ⟨_, [(.t 20, bV (ltI 100 ((rd t0 t3).mAnswer.mItems.length : Int)))]⟩ (v_bin rfl trivial rfl (ble _ _ rfl) rfl rfl (b_gtr rfl)) ?_
        refine sq_nil ?_
        refine ht_cond (b := (ltI 100 ((rd t0 t3).mAnswer.mItems.length : Int))) rfl (fun e12 => ?_) (fun e12 => ?_)
        · replace h := cpos e12 h
          refine ht_seq ?_
          refine ht_region ?_
          refine sq_cons ⟨_, [(.t 2, bV false)]⟩ (v_move (.inr rfl) trivial rfl (ble _ _ rfl) rfl) ?_
          refine sq_nil ?_
          refine ht_ret ?_
          cases h
          cases r6 _ rfl
          exact ret1 rfl (.tmp rfl)
        · replace h := cneg e12 h
          refine ht_skip ?_
          refine ht_region ?_
          refine sq_cons ⟨_, [(.t 11, iV t3)]⟩ (v_move (.inl rfl) trivial rfl (ble _ _ rfl) rfl) ?_
          refine sq_cons ⟨_, [(.t 12, iV (IntKind.wrap .i64 (t3 + 1)))]⟩ (v_bin rfl trivial rfl (ble _ _ rfl) rfl rfl (b_add rfl)) ?_
          refine sq_cons ⟨_, [(.t 3, iV (IntKind.wrap .i64 (t3 + 1)))]⟩ (v_move (.inr rfl) trivial rfl (ble _ _ rfl) rfl) ?_
          refine sq_nil ?_
          exact j8 _ _ h (wk_ren _ (fun i => i) rfl ⟨rfl, rfl, trivial⟩)
      · replace h := cneg e10 h
        refine ht_exit ?_
        refine tq ?_
        refine tq ?_
        refine bq_hit ?_
        cases h
        exact j5 _ _ rfl (wk_ren _ (fun i => i) rfl trivial)
set_option maxRecDepth 100000 in
set_option maxHeartbeats 4000000 in
theorem s20 (k : Nat) (t0 : Shard) (r : Bool) (h : F20 k t0 = some r) : Awp.Spec Tryd.prog amb 20 [(.agg (eShard t0))] (.ds [(.s (.bool r))]) := by
  rw [F20] at h
  refine spec_of Tryd.func20 rfl (ble _ _ rfl) fun w0 ok0 lt0 hA => ?_
  refine ht_seq ?_
  refine ht_region ?_
  refine sq_cons ⟨_, [(.t 1, .d (.dp (eShard t0)))]⟩ (v_box_d (cs := (eShard t0)) rfl trivial rfl (ble _ _ rfl) rfl rfl (ones_of rfl)) ?_
  refine sq_cons ⟨_, [(.t 2, bV false)]⟩ (v_move (.inr rfl) trivial rfl (ble _ _ rfl) rfl) ?_
  refine sq_nil ?_
  refine ht_seq ?_
  refine ht_region ?_
  refine sq_cons ⟨_, [(.t 3, .d (.dp (List.drop 5 (eShard t0))))]⟩ (v_field_dp (a0 := 5) (cs := (eShard t0)) rfl trivial rfl (ble _ _ rfl) fo50_4 rfl) ?_
  refine sq_cons ⟨_, [(.t 4, .d (.sl 2 (t0.mEntries.map eEntry)))]⟩ (v_load_dp1 rfl trivial rfl (ble _ _ rfl) onT47 rfl rfl) ?_
  obtain ⟨t5, c1, h⟩ := bpos h
  refine sq_cons ⟨_, [(.t 5, bV t5)]⟩ (w_call (ds := [(.sl 2 (t0.mEntries.map eEntry))]) (caps := []) (l := [(.s (.bool t5))]) (s39 k t0.mEntries _ c1) rfl rfl rfl en39 trivial rfl (ble _ _ rfl) (.inl ⟨rfl, rfl⟩) rfl rfl) ?_
  refine sq_cons ⟨_, [(.t 6, bV t5)]⟩ (v_move (.inl rfl) trivial rfl (ble _ _ rfl) rfl) ?_
  refine sq_cons ⟨_, [(.t 7, mg t5 (.d (.dp (List.drop 12 (eShard t0)))))]⟩ (v_cT rfl rfl rfl (ble _ _ rfl) rfl fun e2 => (v_field_dp (a0 := 12) (cs := (eShard t0)) rfl ⟨_, rfl, be e2⟩ rfl (ble _ _ rfl) fo50_7 rfl)) ?_
  refine sq_cons ⟨_, [(.t 8, mg t5 (.d (.sl 11 (t0.mDone.map eDone))))]⟩ (v_cT rfl rfl rfl (ble _ _ rfl) rfl fun e3 => (v_load_dp1 rfl ⟨_, rfl, be e3⟩ rfl (ble _ _ rfl) onT48 (gv e3) rfl)) ?_
  obtain ⟨t9, c5, h⟩ := bpos h
  refine sq_cons ⟨_, [(.t 9, mg t5 (bV t9))]⟩ (v_cT rfl rfl rfl (ble _ _ rfl) rfl fun e4 => (w_call (ds := [(.sl 11 (t0.mDone.map eDone))]) (caps := []) (l := [(.s (.bool t9))]) (s40 k t0.mDone _ (cpos e4 c5)) rfl rfl rfl en40 ⟨_, rfl, be e4⟩ rfl (ble _ _ rfl) (.inl ⟨rfl, rfl⟩) (cc (gv e4) rfl) rfl)) ?_
  refine sq_cons ⟨_, [(.t 10, bV (t5 && t9))]⟩ (v_pickB rfl trivial rfl (ble _ _ rfl) rfl (fun e6 => (gv e6)) (fun e7 => rfl) (pA _ _)) ?_
  refine sq_cons ⟨_, [(.t 11, bV (t5 && t9))]⟩ (v_move (.inl rfl) trivial rfl (ble _ _ rfl) rfl) ?_
  refine sq_cons ⟨_, [(.t 12, mg (t5 && t9) (.d (.dp (List.drop 2 (eShard t0)))))]⟩ (v_cT rfl rfl rfl (ble _ _ rfl) rfl fun e8 => (v_field_dp (a0 := 2) (cs := (eShard t0)) rfl ⟨_, rfl, be e8⟩ rfl (ble _ _ rfl) fo50_2 rfl)) ?_
  refine sq_cons ⟨_, [(.t 13, mg (t5 && t9) (.d (.dp (List.drop 2 (eShard t0)))))]⟩ (v_cT rfl rfl rfl (ble _ _ rfl) rfl fun e9 => (v_field_dp (a0 := 0) (cs := (List.drop 2 (eShard t0))) rfl ⟨_, rfl, be e9⟩ rfl (ble _ _ rfl) fo46_0 (gv e9))) ?_
  refine sq_cons ⟨_, [(.t 14, mg (t5 && t9) (sV t0.mSpan.mLo))]⟩ (v_cT rfl rfl rfl (ble _ _ rfl) rfl fun e10 => (v_load_dp1 rfl ⟨_, rfl, be e10⟩ rfl (ble _ _ rfl) onT9 (gv e10) rfl)) ?_
  refine sq_cons ⟨_, [(.t 15, mg (t5 && t9) (iV (t0.mSpan.mLo.size : Int)))]⟩ (v_cT rfl rfl rfl (ble _ _ rfl) rfl fun e11 => (v_len_str rfl rfl ⟨_, rfl, be e11⟩ rfl (ble _ _ rfl) und9 (gv e11))) ?_
  refine sq_cons ⟨_, [(.t 16, mg (t5 && t9) (bV (ltI (t0.mSpan.mLo.size : Int) 100)))]⟩ (v_cT rfl rfl rfl (ble _ _ rfl) rfl fun e12 => (v_bin rfl ⟨_, rfl, be e12⟩ rfl (ble _ _ rfl) (gv e12) rfl (b_lss rfl))) ?_
  refine sq_cons ⟨_, [(.t 17, bV ((t5 && t9) && (ltI (t0.mSpan.mLo.size : Int) 100)))]⟩ (v_pickB rfl trivial rfl (ble _ _ rfl) rfl (fun e13 => (gv e13)) (fun e14 => rfl) (pA _ _)) ?_
  refine sq_cons ⟨_, [(.t 18, bV ((t5 && t9) && (ltI (t0.mSpan.mLo.size : Int) 100)))]⟩ (v_move (.inl rfl) trivial rfl (ble _ _ rfl) rfl) ?_
  refine sq_cons ⟨_, [(.t 19, mg ((t5 && t9) && (ltI (t0.mSpan.mLo.size : Int) 100)) (.d (.dp (List.drop 2 (eShard t0)))))]⟩ (v_cT rfl rfl rfl (ble _ _ rfl) rfl fun e15 => (v_field_dp (a0 := 2) (cs := (eShard t0)) rfl ⟨_, rfl, be e15⟩ rfl (ble _ _ rfl) fo50_2 rfl)) ?_
  refine sq_cons ⟨_, [(.t 20, mg ((t5 && t9) && (ltI (t0.mSpan.mLo.size : Int) 100)) (.d (.dp (List.drop 3 (eShard t0)))))]⟩ (v_cT rfl rfl rfl (ble _ _ rfl) rfl fun e16 => (v_field_dp (a0 := 1) (cs := (List.drop 2 (eShard t0))) rfl ⟨_, rfl, be e16⟩ rfl (ble _ _ rfl) fo46_1 (gv e16))) ?_
  refine sq_cons ⟨_, [(.t 21, mg ((t5 && t9) && (ltI (t0.mSpan.mLo.size : Int) 100)) (sV t0.mSpan.mHi))]⟩ (v_cT rfl rfl rfl (ble _ _ rfl) rfl fun e17 => (v_load_dp1 rfl ⟨_, rfl, be e17⟩ rfl (ble _ _ rfl) onT9 (gv e17) rfl)) ?_
  refine sq_cons ⟨_, [(.t 22, mg ((t5 && t9) && (ltI (t0.mSpan.mLo.size : Int) 100)) (iV (t0.mSpan.mHi.size : Int)))]⟩ (v_cT rfl rfl rfl (ble _ _ rfl) rfl fun e18 => (v_len_str rfl rfl ⟨_, rfl, be e18⟩ rfl (ble _ _ rfl) und9 (gv e18))) ?_
  refine sq_cons ⟨_, [(.t 23, mg ((t5 && t9) && (ltI (t0.mSpan.mLo.size : Int) 100)) (bV (ltI (t0.mSpan.mHi.size : Int) 100)))]⟩ (v_cT rfl rfl rfl (ble _ _ rfl) rfl fun e19 => (v_bin rfl ⟨_, rfl, be e19⟩ rfl (ble _ _ rfl) (gv e19) rfl (b_lss rfl))) ?_
  refine sq_cons ⟨_, [(.t 24, bV (((t5 && t9) && (ltI (t0.mSpan.mLo.size : Int) 100)) && (ltI (t0.mSpan.mHi.size : Int) 100)))]⟩ (v_pickB rfl trivial rfl (ble _ _ rfl) rfl (fun e20 => (gv e20)) (fun e21 => rfl) (pA _ _)) ?_
  refine sq_cons ⟨_, [(.t 2, bV (((t5 && t9) && (ltI (t0.mSpan.mLo.size : Int) 100)) && (ltI (t0.mSpan.mHi.size : Int) 100)))]⟩ (v_move (.inr rfl) trivial rfl (ble _ _ rfl) rfl) ?_
  refine sq_nil ?_
  refine ht_ret ?_
  cases h
  exact ret1 rfl (.tmp rfl)
set_option maxRecDepth 100000 in
set_option maxHeartbeats 4000000 in
theorem s8 (k : Nat) (t0 : Cell) (r : Bool) (h : F8 k t0 = some r) : Awp.Spec Tryd.prog amb 8 [(.agg (eCell t0))] (.ds [(.s (.bool r))]) := by
  rw [F8] at h
  refine spec_of Tryd.func8 rfl (ble _ _ rfl) fun w0 ok0 lt0 hA => ?_
  refine ht_seq ?_
  refine ht_region ?_
  refine sq_cons ⟨_, [(.t 1, .d (.dp (eCell t0)))]⟩ (v_box_d (cs := (eCell t0)) rfl trivial rfl (ble _ _ rfl) rfl rfl (ones_of rfl)) ?_
  refine sq_cons ⟨_, [(.t 2, bV false)]⟩ (v_move (.inr rfl) trivial rfl (ble _ _ rfl) rfl) ?_
  refine sq_nil ?_
  refine ht_seq ?_
  refine ht_seq ?_
  refine ht_region ?_
  refine sq_cons ⟨_, [(.t 4, .d (.dp (eCell t0)))]⟩ (v_field_dp (a0 := 0) (cs := (eCell t0)) rfl trivial rfl (ble _ _ rfl) fo30_0 rfl) ?_
  refine sq_cons ⟨_, [(.t 5, .d (.sl 17 (t0.mShards.map eShard)))]⟩ (v_load_dp1 rfl trivial rfl (ble _ _ rfl) onT28 rfl rfl) ?_
  refine sq_cons ⟨_, [(.t 6, iV (t0.mShards.length : Int))]⟩ (w_len t0.mShards eShard rfl rfl trivial rfl (ble _ _ rfl) slT28 rfl) ?_
  refine sq_cons ⟨_, [(.t 7, bV (ltI 12 (t0.mShards.length : Int)))]⟩ (v_bin rfl trivial rfl (ble _ _ rfl) rfl rfl (b_gtr rfl)) ?_
  refine sq_nil ?_
  refine ht_cond (b := (ltI 12 (t0.mShards.length : Int))) rfl (fun e1 => ?_) (fun e1 => ?_)
  · replace h := cpos e1 h
    refine ht_seq ?_
    refine ht_region ?_
    refine sq_cons ⟨_, [(.t 2, bV false)]⟩ (v_move (.inr rfl) trivial rfl (ble _ _ rfl) rfl) ?_
    refine sq_nil ?_
    refine ht_ret ?_
    cases h
    exact ret1 rfl (.tmp rfl)
  · replace h := cneg e1 h
    refine ht_skip ?_
    refine ht_gj (go_id' h) (fun _ => tell []) (fun _ h => ?_) (fun v2 K3 h j5 r6 => ?_)
    · refine ht_seq ?_
      refine ht_region ?_
      refine sq_cons ⟨_, [(.t 2, bV true)]⟩ (v_move (.inr rfl) trivial rfl (ble _ _ rfl) rfl) ?_
      refine sq_nil ?_
      refine ht_ret ?_
      cases h
      exact ret1 rfl (.tmp rfl)
    · refine ht_seq ?_
      refine ht_region ?_
      refine sq_cons ⟨_, [(.t 3, iV 0)]⟩ (v_move (.inr rfl) trivial rfl (ble _ _ rfl) rfl) ?_
      refine sq_nil ?_
      refine ht_block ?_
      refine ht_rd h (fun _ => rfl) (fun t3 => tell [(.t 1, .d (.dp (eCell t0))), (.t 3, iV t3)]) (wk_ren _ (fun i => i) rfl ⟨rfl, rfl, trivial⟩) fun k t3 h K14 j8 => ?_
      rw [F8_l1] at h
      refine ht_seq ?_
      refine ht_seq ?_
      refine ht_region ?_
      refine sq_cons ⟨_, [(.t 8, iV t3)]⟩ (v_move (.inl rfl) trivial rfl (ble _ _ rfl) rfl) ?_
      refine sq_cons ⟨_, [(.t 9, .d (.dp (eCell t0)))]⟩ (v_field_dp (a0 := 0) (cs := (eCell t0)) rfl trivial rfl (ble _ _ rfl) fo30_0 rfl) ?_
      refine sq_cons ⟨_, [(.t 10, .d (.sl 17 (t0.mShards.map eShard)))]⟩ (v_load_dp1 rfl trivial rfl (ble _ _ rfl) onT28 rfl rfl) ?_
      refine sq_cons ⟨_, [(.t 11, iV (t0.mShards.length : Int))]⟩ (w_len t0.mShards eShard rfl rfl trivial rfl (ble _ _ rfl) slT28 rfl) ?_
      refine sq_cons ⟨_, [(.t 12, bV (ltI t3 (t0.mShards.length : Int)))]⟩ (v_bin rfl trivial rfl (ble _ _ rfl) rfl rfl (b_lss rfl)) ?_
      refine sq_nil ?_
      refine ht_cond (b := (ltI t3 (t0.mShards.length : Int))) rfl (fun e10 => ?_) (fun e10 => ?_)
      · replace h := cpos e10 h
        refine ht_skip ?_
        refine ht_seq ?_
        refine ht_block ?_
        refine ht_seq ?_
        refine ht_region ?_
        refine sq_cons ⟨_, [(.t 15, .d (.dp (eCell t0)))]⟩ (v_field_dp (a0 := 0) (cs := (eCell t0)) rfl trivial rfl (ble _ _ rfl) fo30_0 rfl) ?_
        refine sq_cons ⟨_, [(.t 16, .d (.sl 17 (t0.mShards.map eShard)))]⟩ (v_load_dp1 rfl trivial rfl (ble _ _ rfl) onT28 rfl rfl) ?_
        refine sq_cons ⟨_, [(.t 17, iV t3)]⟩ (v_move (.inl rfl) trivial rfl (ble _ _ rfl) rfl) ?_
        obtain ⟨e11, h⟩ := gpos h
        refine sq_cons ⟨_, [(.t 18, .d (.dp (eShard (rd t0.mShards t3))))]⟩ (w_idx t0.mShards eShard rfl trivial rfl (ble _ _ rfl) slT28 rfl rfl e11) ?_
        refine sq_cons ⟨_, [(.t 19, .d (.agg (eShard (rd t0.mShards t3))))]⟩ (w_ldp (eShard (rd t0.mShards t3)) (eShard (rd t0.mShards t3)) rfl trivial rfl (ble _ _ rfl) ag50 rfl (ble _ _ rfl) rfl) ?_
        obtain ⟨t20, c12, h⟩ := bpos h
        refine sq_cons ⟨_, [(.t 20, bV t20)]⟩ (w_call (ds := [(.agg (eShard (rd t0.mShards t3)))]) (caps := []) (l := [(.s (.bool t20))]) (s20 k (rd t0.mShards t3) _ c12) rfl rfl rfl en20 trivial rfl (ble _ _ rfl) (.inl ⟨rfl, rfl⟩) rfl rfl) ?_
        refine sq_cons ⟨_, [(.t 21, bV (!t20))]⟩ (v_un rfl trivial rfl (ble _ _ rfl) rfl (u_not rfl)) ?_
        refine sq_nil ?_
        refine ht_cond (b := (!t20)) rfl (fun e13 => ?_) (fun e13 => ?_)
        · replace h := cpos e13 h
          refine ht_seq ?_
          refine ht_region ?_
          refine sq_cons ⟨_, [(.t 2, bV false)]⟩ (v_move (.inr rfl) trivial rfl (ble _ _ rfl) rfl) ?_
          refine sq_nil ?_
          refine ht_ret ?_
          cases h
          cases r6 _ rfl
          exact ret1 rfl (.tmp rfl)
        · replace h := cneg e13 h
          refine ht_skip ?_
          refine ht_region ?_
          refine sq_cons ⟨_, [(.t 13, iV t3)]⟩ (v_move (.inl rfl) trivial rfl (ble _ _ rfl) rfl) ?_
          refine sq_cons ⟨_, [(.t 14, iV (IntKind.wrap .i64 (t3 + 1)))]⟩ (v_bin rfl trivial rfl (ble _ _ rfl) rfl rfl (b_add rfl)) ?_
          refine sq_cons ⟨_, [(.t 3, iV (IntKind.wrap .i64 (t3 + 1)))]⟩ (v_move (.inr rfl) trivial rfl (ble _ _ rfl) rfl) ?_
          refine sq_nil ?_
          exact j8 _ _ h (wk_ren _ (fun i => i) rfl ⟨rfl, rfl, trivial⟩)
      · replace h := cneg e10 h
        refine ht_exit ?_
        refine tq ?_
        refine tq ?_
        refine bq_hit ?_
        cases h
        exact j5 _ _ rfl (wk_ren _ (fun i => i) rfl trivial)
set_option maxRecDepth 100000 in
set_option maxHeartbeats 4000000 in
theorem s76 (k : Nat) (t0 : List Version) (t1 : List Version) (r : Bool) (h : F76 k t0 t1 = some r) : Awp.Spec Tryd.prog amb 76 [(.sl 5 (t0.map eVersion)), (.sl 5 (t1.map eVersion))] (.ds [(.s (.bool r))]) := by
  rw [F76] at h
  refine spec_of Tryd.func76 rfl (ble _ _ rfl) fun w0 ok0 lt0 hA => ?_
  refine ht_seq ?_
  refine ht_region ?_
  refine sq_cons ⟨_, [(.t 4, bV false)]⟩ (v_move (.inr rfl) trivial rfl (ble _ _ rfl) rfl) ?_
  refine sq_nil ?_
  refine ht_seq ?_
  refine ht_seq ?_
  refine ht_region ?_
  refine sq_cons ⟨_, [(.t 6, .d (.sl 5 (t0.map eVersion)))]⟩ (v_move (.inl rfl) trivial rfl (ble _ _ rfl) rfl) ?_
  refine sq_cons ⟨_, [(.t 7, iV (t0.length : Int))]⟩ (w_len t0 eVersion rfl rfl trivial rfl (ble _ _ rfl) slT98 rfl) ?_
  refine sq_cons ⟨_, [(.t 8, .d (.sl 5 (t1.map eVersion)))]⟩ (v_move (.inl rfl) trivial rfl (ble _ _ rfl) rfl) ?_
  refine sq_cons ⟨_, [(.t 9, iV (t1.length : Int))]⟩ (w_len t1 eVersion rfl rfl trivial rfl (ble _ _ rfl) slT98 rfl) ?_
  refine sq_cons ⟨_, [(.t 10, bV (!eqI (t0.length : Int) (t1.length : Int)))]⟩ (v_bin rfl trivial rfl (ble _ _ rfl) rfl rfl (b_neq rfl)) ?_
  refine sq_nil ?_
  refine ht_cond (b := (!eqI (t0.length : Int) (t1.length : Int))) rfl (fun e1 => ?_) (fun e1 => ?_)
  · replace h := cpos e1 h
    refine ht_seq ?_
    refine ht_region ?_
    refine sq_cons ⟨_, [(.t 4, bV false)]⟩ (v_move (.inr rfl) trivial rfl (ble _ _ rfl) rfl) ?_
    refine sq_nil ?_
    refine ht_ret ?_
    cases h
    exact ret1 rfl (.tmp rfl)
  · replace h := cneg e1 h
    refine ht_skip ?_
    refine ht_gj (go_id' h) (fun _ => tell []) (fun _ h => ?_) (fun v2 K3 h j5 r6 => ?_)
    · refine ht_seq ?_
      refine ht_region ?_
      refine sq_cons ⟨_, [(.t 4, bV true)]⟩ (v_move (.inr rfl) trivial rfl (ble _ _ rfl) rfl) ?_
      refine sq_nil ?_
      refine ht_ret ?_
      cases h
      exact ret1 rfl (.tmp rfl)
    · refine ht_seq ?_
      refine ht_region ?_
      refine sq_cons ⟨_, [(.t 5, iV 0)]⟩ (v_move (.inr rfl) trivial rfl (ble _ _ rfl) rfl) ?_
      refine sq_nil ?_
      refine ht_block ?_
      refine ht_rd h (fun _ => rfl) (fun t5 => tell [(.t 0, .d (.sl 5 (t0.map eVersion))), (.t 1, .d (.sl 5 (t1.map eVersion))), (.t 5, iV t5)]) (wk_ren _ (fun i => i) rfl ⟨rfl, rfl, rfl, trivial⟩) fun k t5 h K14 j8 => ?_
      rw [F76_l1] at h
      refine ht_seq ?_
      refine ht_seq ?_
      refine ht_region ?_
      refine sq_cons ⟨_, [(.t 11, iV t5)]⟩ (v_move (.inl rfl) trivial rfl (ble _ _ rfl) rfl) ?_
      refine sq_cons ⟨_, [(.t 12, .d (.sl 5 (t0.map eVersion)))]⟩ (v_move (.inl rfl) trivial rfl (ble _ _ rfl) rfl) ?_
      refine sq_cons ⟨_, [(.t 13, iV (t0.length : Int))]⟩ (w_len t0 eVersion rfl rfl trivial rfl (ble _ _ rfl) slT98 rfl) ?_
      refine sq_cons ⟨_, [(.t 14, bV (ltI t5 (t0.length : Int)))]⟩ (v_bin rfl trivial rfl (ble _ _ rfl) rfl rfl (b_lss rfl)) ?_
      refine sq_nil ?_
      refine ht_cond (b := (ltI t5 (t0.length : Int))) rfl (fun e10 => ?_) (fun e10 => ?_)
      · replace h := cpos e10 h
        refine ht_skip ?_
        refine ht_seq ?_
        refine ht_block ?_
        refine ht_seq ?_
        refine ht_region_draw mixed ?_
        refine rg_cons ⟨_, [(.t 17, .d (.sl 5 (t0.map eVersion)))]⟩ (v_move (.inl rfl) trivial rfl (ble _ _ rfl) rfl) ?_
        refine rg_cons ⟨_, [(.t 18, iV t5)]⟩ (v_move (.inl rfl) trivial rfl (ble _ _ rfl) rfl) ?_
        obtain ⟨e11, h⟩ := gpos h
        refine rg_cons ⟨_, [(.t 19, .d (.dp (eVersion (rd t0 t5))))]⟩ (w_idx t0 eVersion rfl trivial rfl (ble _ _ rfl) slT98 rfl rfl e11) ?_
        refine rg_cons ⟨_, [(.t 20, .d (.agg (eVersion (rd t0 t5))))]⟩ (w_ldp (eVersion (rd t0 t5)) (eVersion (rd t0 t5)) rfl trivial rfl (ble _ _ rfl) ag84 rfl (ble _ _ rfl) rfl) ?_
        refine rg_cons ⟨_, [(.t 21, .d (.sl 5 (t1.map eVersion)))]⟩ (v_move (.inl rfl) trivial rfl (ble _ _ rfl) rfl) ?_
        refine rg_cons ⟨_, [(.t 22, iV t5)]⟩ (v_move (.inl rfl) trivial rfl (ble _ _ rfl) rfl) ?_
        obtain ⟨e12, h⟩ := gpos h
        refine rg_cons ⟨_, [(.t 23, .d (.dp (eVersion (rd t1 t5))))]⟩ (w_idx t1 eVersion rfl trivial rfl (ble _ _ rfl) slT98 rfl rfl e12) ?_
        refine rg_cons ⟨_, [(.t 24, .d (.agg (eVersion (rd t1 t5))))]⟩ (w_ldp (eVersion (rd t1 t5)) (eVersion (rd t1 t5)) rfl trivial rfl (ble _ _ rfl) ag84 rfl (ble _ _ rfl) rfl) ?_
        refine rg_cons ⟨_, [(.t 25, bV (!(qVersion (rd t0 t5) (rd t1 t5))))]⟩ (v_bin_neq (f := eVersion) rfl trivial rfl (ble _ _ rfl) rfl rfl rfl rfl eg84 (eq84 _ _)) ?_
        refine rg_nil ⟨by kernel_rfl, ?_⟩
        refine ht_cond (b := (!(qVersion (rd t0 t5) (rd t1 t5)))) rfl (fun e13 => ?_) (fun e13 => ?_)
        · replace h := cpos e13 h
          refine ht_seq ?_
          refine ht_region ?_
          refine sq_cons ⟨_, [(.t 4, bV false)]⟩ (v_move (.inr rfl) trivial rfl (ble _ _ rfl) rfl) ?_
          refine sq_nil ?_
          refine ht_ret ?_
          cases h
          cases r6 _ rfl
          exact ret1 rfl (.tmp rfl)
        · replace h := cneg e13 h
          refine ht_skip ?_
          refine ht_region ?_
          refine sq_cons ⟨_, [(.t 15, iV t5)]⟩ (v_move (.inl rfl) trivial rfl (ble _ _ rfl) rfl) ?_
          refine sq_cons ⟨_, [(.t 16, iV (IntKind.wrap .i64 (t5 + 1)))]⟩ (v_bin rfl trivial rfl (ble _ _ rfl) rfl rfl (b_add rfl)) ?_
          refine sq_cons ⟨_, [(.t 5, iV (IntKind.wrap .i64 (t5 + 1)))]⟩ (v_move (.inr rfl) trivial rfl (ble _ _ rfl) rfl) ?_
          refine sq_nil ?_
          exact j8 _ _ h (wk_ren _ (fun i => i) rfl ⟨rfl, rfl, rfl, trivial⟩)
      · replace h := cneg e10 h
        refine ht_exit ?_
        refine tq ?_
        refine tq ?_
        refine bq_hit ?_
        cases h
        exact j5 _ _ rfl (wk_ren _ (fun i => i) rfl trivial)
set_option maxRecDepth 100000 in
set_option maxHeartbeats 4000000 in
theorem s51 (k : Nat) (t0 : List Entry) (t1 : List Entry) (r : Bool) (h : F51 k t0 t1 = some r) : Awp.Spec Tryd.prog amb 51 [(.sl 2 (t0.map eEntry)), (.sl 2 (t1.map eEntry))] (.ds [(.s (.bool r))]) := by
  rw [F51] at h
  refine spec_of Tryd.func51 rfl (ble _ _ rfl) fun w0 ok0 lt0 hA => ?_
  refine ht_seq ?_
  refine ht_region ?_
  refine sq_cons ⟨_, [(.t 4, bV false)]⟩ (v_move (.inr rfl) trivial rfl (ble _ _ rfl) rfl) ?_
  refine sq_nil ?_
  refine ht_seq ?_
  refine ht_seq ?_
  refine ht_region ?_
  refine sq_cons ⟨_, [(.t 6, .d (.sl 2 (t0.map eEntry)))]⟩ (v_move (.inl rfl) trivial rfl (ble _ _ rfl) rfl) ?_
  refine sq_cons ⟨_, [(.t 7, iV (t0.length : Int))]⟩ (w_len t0 eEntry rfl rfl trivial rfl (ble _ _ rfl) slT47 rfl) ?_
  refine sq_cons ⟨_, [(.t 8, .d (.sl 2 (t1.map eEntry)))]⟩ (v_move (.inl rfl) trivial rfl (ble _ _ rfl) rfl) ?_
  refine sq_cons ⟨_, [(.t 9, iV (t1.length : Int))]⟩ (w_len t1 eEntry rfl rfl trivial rfl (ble _ _ rfl) slT47 rfl) ?_
  refine sq_cons ⟨_, [(.t 10, bV (!eqI (t0.length : Int) (t1.length : Int)))]⟩ (v_bin rfl trivial rfl (ble _ _ rfl) rfl rfl (b_neq rfl)) ?_
  refine sq_nil ?_
  refine ht_cond (b := (!eqI (t0.length : Int) (t1.length : Int))) rfl (fun e1 => ?_) (fun e1 => ?_)
  · replace h := cpos e1 h
    refine ht_seq ?_
    refine ht_region ?_
    refine sq_cons ⟨_, [(.t 4, bV false)]⟩ (v_move (.inr rfl) trivial rfl (ble _ _ rfl) rfl) ?_
    refine sq_nil ?_
    refine ht_ret ?_
    cases h
    exact ret1 rfl (.tmp rfl)
  · replace h := cneg e1 h
    refine ht_skip ?_
    refine ht_gj (go_id' h) (fun _ => tell []) (fun _ h => ?_) (fun v2 K3 h j5 r6 => ?_)
    · refine ht_seq ?_
      refine ht_region ?_
      refine sq_cons ⟨_, [(.t 4, bV true)]⟩ (v_move (.inr rfl) trivial rfl (ble _ _ rfl) rfl) ?_
      refine sq_nil ?_
      refine ht_ret ?_
      cases h
      exact ret1 rfl (.tmp rfl)
    · refine ht_seq ?_
      refine ht_region ?_
      refine sq_cons ⟨_, [(.t 5, iV 0)]⟩ (v_move (.inr rfl) trivial rfl (ble _ _ rfl) rfl) ?_
      refine sq_nil ?_
      refine ht_block ?_
      refine ht_rd h (fun _ => rfl) (fun t5 => tell [(.t 0, .d (.sl 2 (t0.map eEntry))), (.t 1, .d (.sl 2 (t1.map eEntry))), (.t 5, iV t5)]) (wk_ren _ (fun i => i) rfl ⟨rfl, rfl, rfl, trivial⟩) fun k t5 h K31 j8 => ?_
      rw [F51_l1] at h
      refine ht_seq ?_
      refine ht_seq ?_
      refine ht_region ?_
      refine sq_cons ⟨_, [(.t 11, iV t5)]⟩ (v_move (.inl rfl) trivial rfl (ble _ _ rfl) rfl) ?_
      refine sq_cons ⟨_, [(.t 12, .d (.sl 2 (t0.map eEntry)))]⟩ (v_move (.inl rfl) trivial rfl (ble _ _ rfl) rfl) ?_
      refine sq_cons ⟨_, [(.t 13, iV (t0.length : Int))]⟩ (w_len t0 eEntry rfl rfl trivial rfl (ble _ _ rfl) slT47 rfl) ?_
      refine sq_cons ⟨_, [(.t 14, bV (ltI t5 (t0.length : Int)))]⟩ (v_bin rfl trivial rfl (ble _ _ rfl) rfl rfl (b_lss rfl)) ?_
      refine sq_nil ?_
      refine ht_cond (b := (ltI t5 (t0.length : Int))) rfl (fun e10 => ?_) (fun e10 => ?_)
      · replace h := cpos e10 h
        refine ht_skip ?_
        refine ht_seq ?_
        refine ht_block ?_
        refine ht_seq ?_
        refine ht_region_draw mixed ?_
        refine rg_cons ⟨_, [(.t 17, .d (.sl 2 (t0.map eEntry)))]⟩ (v_move (.inl rfl) trivial rfl (ble _ _ rfl) rfl) ?_
        refine rg_cons ⟨_, [(.t 18, iV t5)]⟩ (v_move (.inl rfl) trivial rfl (ble _ _ rfl) rfl) ?_
        obtain ⟨e11, h⟩ := gpos h
        refine rg_cons ⟨_, [(.t 19, .d (.dp (eEntry (rd t0 t5))))]⟩ (w_idx t0 eEntry rfl trivial rfl (ble _ _ rfl) slT47 rfl rfl e11) ?_
        refine rg_cons ⟨_, [(.t 20, .d (.dp (eEntry (rd t0 t5))))]⟩ (v_field_dp (a0 := 0) (cs := (eEntry (rd t0 t5))) rfl trivial rfl (ble _ _ rfl) fo100_0 rfl) ?_
        refine rg_cons ⟨_, [(.t 21, sV (rd t0 t5).mKey)]⟩ (v_load_dp1 rfl trivial rfl (ble _ _ rfl) onT9 rfl rfl) ?_
        refine rg_cons ⟨_, [(.t 22, .d (.sl 2 (t1.map eEntry)))]⟩ (v_move (.inl rfl) trivial rfl (ble _ _ rfl) rfl) ?_
        refine rg_cons ⟨_, [(.t 23, iV t5)]⟩ (v_move (.inl rfl) trivial rfl (ble _ _ rfl) rfl) ?_
        obtain ⟨e12, h⟩ := gpos h
        refine rg_cons ⟨_, [(.t 24, .d (.dp (eEntry (rd t1 t5))))]⟩ (w_idx t1 eEntry rfl trivial rfl (ble _ _ rfl) slT47 rfl rfl e12) ?_
        refine rg_cons ⟨_, [(.t 25, .d (.dp (eEntry (rd t1 t5))))]⟩ (v_field_dp (a0 := 0) (cs := (eEntry (rd t1 t5))) rfl trivial rfl (ble _ _ rfl) fo100_0 rfl) ?_
        refine rg_cons ⟨_, [(.t 26, sV (rd t1 t5).mKey)]⟩ (v_load_dp1 rfl trivial rfl (ble _ _ rfl) onT9 rfl rfl) ?_
        refine rg_cons ⟨_, [(.t 27, bV (!strEq (rd t0 t5).mKey (rd t1 t5).mKey))]⟩ (v_bin rfl trivial rfl (ble _ _ rfl) rfl rfl (b_neS rfl)) ?_
        refine rg_cons ⟨_, [(.t 28, bV (!strEq (rd t0 t5).mKey (rd t1 t5).mKey))]⟩ (v_move (.inl rfl) trivial rfl (ble _ _ rfl) rfl) ?_
        refine rg_cons ⟨_, [(.t 29, mg (!(!strEq (rd t0 t5).mKey (rd t1 t5).mKey)) (.d (.sl 2 (t0.map eEntry))))]⟩ (v_cF rfl rfl rfl (ble _ _ rfl) rfl fun e13 => (v_move (.inl rfl) ⟨_, rfl, be e13⟩ rfl (ble _ _ rfl) rfl)) ?_
        refine rg_cons ⟨_, [(.t 30, mg (!(!strEq (rd t0 t5).mKey (rd t1 t5).mKey)) (iV t5))]⟩ (v_cF rfl rfl rfl (ble _ _ rfl) rfl fun e14 => (v_move (.inl rfl) ⟨_, rfl, be e14⟩ rfl (ble _ _ rfl) rfl)) ?_
        obtain ⟨e16, h⟩ := gpos h
        refine rg_cons ⟨_, [(.t 31, mg (!(!strEq (rd t0 t5).mKey (rd t1 t5).mKey)) (.d (.dp (eEntry (rd t0 t5)))))]⟩ (v_cF rfl rfl rfl (ble _ _ rfl) rfl fun e15 => (w_idx t0 eEntry rfl ⟨_, rfl, be e15⟩ rfl (ble _ _ rfl) slT47 (gv (nF e15)) (gv (nF e15)) (orT e16 (nF e15)))) ?_
        refine rg_cons ⟨_, [(.t 32, mg (!(!strEq (rd t0 t5).mKey (rd t1 t5).mKey)) (.d (.dp (List.drop 1 (eEntry (rd t0 t5))))))]⟩ (v_cF rfl rfl rfl (ble _ _ rfl) rfl fun e17 => (v_field_dp (a0 := 1) (cs := (eEntry (rd t0 t5))) rfl ⟨_, rfl, be e17⟩ rfl (ble _ _ rfl) fo100_1 (gv (nF e17)))) ?_
        refine rg_cons ⟨_, [(.t 33, mg (!(!strEq (rd t0 t5).mKey (rd t1 t5).mKey)) (.d (.sl 5 ((rd t0 t5).mChain.map eVersion))))]⟩ (v_cF rfl rfl rfl (ble _ _ rfl) rfl fun e18 => (v_load_dp1 rfl ⟨_, rfl, be e18⟩ rfl (ble _ _ rfl) onT98 (gv (nF e18)) rfl)) ?_
        refine rg_cons ⟨_, [(.t 34, mg (!(!strEq (rd t0 t5).mKey (rd t1 t5).mKey)) (.d (.sl 2 (t1.map eEntry))))]⟩ (v_cF rfl rfl rfl (ble _ _ rfl) rfl fun e19 => (v_move (.inl rfl) ⟨_, rfl, be e19⟩ rfl (ble _ _ rfl) rfl)) ?_
        refine rg_cons ⟨_, [(.t 35, mg (!(!strEq (rd t0 t5).mKey (rd t1 t5).mKey)) (iV t5))]⟩ (v_cF rfl rfl rfl (ble _ _ rfl) rfl fun e20 => (v_move (.inl rfl) ⟨_, rfl, be e20⟩ rfl (ble _ _ rfl) rfl)) ?_
        obtain ⟨e22, h⟩ := gpos h
        refine rg_cons ⟨_, [(.t 36, mg (!(!strEq (rd t0 t5).mKey (rd t1 t5).mKey)) (.d (.dp (eEntry (rd t1 t5)))))]⟩ (v_cF rfl rfl rfl (ble _ _ rfl) rfl fun e21 => (w_idx t1 eEntry rfl ⟨_, rfl, be e21⟩ rfl (ble _ _ rfl) slT47 (gv (nF e21)) (gv (nF e21)) (orT e22 (nF e21)))) ?_
        refine rg_cons ⟨_, [(.t 37, mg (!(!strEq (rd t0 t5).mKey (rd t1 t5).mKey)) (.d (.dp (List.drop 1 (eEntry (rd t1 t5))))))]⟩ (v_cF rfl rfl rfl (ble _ _ rfl) rfl fun e23 => (v_field_dp (a0 := 1) (cs := (eEntry (rd t1 t5))) rfl ⟨_, rfl, be e23⟩ rfl (ble _ _ rfl) fo100_1 (gv (nF e23)))) ?_
        refine rg_cons ⟨_, [(.t 38, mg (!(!strEq (rd t0 t5).mKey (rd t1 t5).mKey)) (.d (.sl 5 ((rd t1 t5).mChain.map eVersion))))]⟩ (v_cF rfl rfl rfl (ble _ _ rfl) rfl fun e24 => (v_load_dp1 rfl ⟨_, rfl, be e24⟩ rfl (ble _ _ rfl) onT98 (gv (nF e24)) rfl)) ?_
        obtain ⟨t39, c26, h⟩ := bpos h
        refine rg_cons ⟨_, [(.t 39, mg (!(!strEq (rd t0 t5).mKey (rd t1 t5).mKey)) (bV t39))]⟩ (v_cF rfl rfl rfl (ble _ _ rfl) rfl fun e25 => (w_call (ds := [(.sl 5 ((rd t0 t5).mChain.map eVersion)), (.sl 5 ((rd t1 t5).mChain.map eVersion))]) (caps := []) (l := [(.s (.bool t39))]) (s76 k (rd t0 t5).mChain (rd t1 t5).mChain _ (cpos (nF e25) c26)) rfl rfl rfl en76 ⟨_, rfl, be e25⟩ rfl (ble _ _ rfl) (.inl ⟨rfl, rfl⟩) (cc (gv (nF e25)) (cc (gv (nF e25)) rfl)) rfl)) ?_
        refine rg_cons ⟨_, [(.t 40, mg (!(!strEq (rd t0 t5).mKey (rd t1 t5).mKey)) (bV (!t39)))]⟩ (v_cF rfl rfl rfl (ble _ _ rfl) rfl fun e27 => (v_un rfl ⟨_, rfl, be e27⟩ rfl (ble _ _ rfl) (gv (nF e27)) (u_not rfl))) ?_
        refine rg_cons ⟨_, [(.t 41, bV ((!strEq (rd t0 t5).mKey (rd t1 t5).mKey) || (!t39)))]⟩ (v_pickB rfl trivial rfl (ble _ _ rfl) rfl (fun e28 => rfl) (fun e29 => (gv (nF e29))) (pO _ _)) ?_
        refine rg_nil ⟨by kernel_rfl, ?_⟩
        refine ht_cond (b := ((!strEq (rd t0 t5).mKey (rd t1 t5).mKey) || (!t39))) rfl (fun e30 => ?_) (fun e30 => ?_)
        · replace h := cpos e30 h
          refine ht_seq ?_
          refine ht_region ?_
          refine sq_cons ⟨_, [(.t 4, bV false)]⟩ (v_move (.inr rfl) trivial rfl (ble _ _ rfl) rfl) ?_
          refine sq_nil ?_
          refine ht_ret ?_
          cases h
          cases r6 _ rfl
          exact ret1 rfl (.tmp rfl)
        · replace h := cneg e30 h
          refine ht_skip ?_
          refine ht_region ?_
          refine sq_cons ⟨_, [(.t 15, iV t5)]⟩ (v_move (.inl rfl) trivial rfl (ble _ _ rfl) rfl) ?_
          refine sq_cons ⟨_, [(.t 16, iV (IntKind.wrap .i64 (t5 + 1)))]⟩ (v_bin rfl trivial rfl (ble _ _ rfl) rfl rfl (b_add rfl)) ?_
          refine sq_cons ⟨_, [(.t 5, iV (IntKind.wrap .i64 (t5 + 1)))]⟩ (v_move (.inr rfl) trivial rfl (ble _ _ rfl) rfl) ?_
          refine sq_nil ?_
          exact j8 _ _ h (wk_ren _ (fun i => i) rfl ⟨rfl, rfl, rfl, trivial⟩)
      · replace h := cneg e10 h
        refine ht_exit ?_
        refine tq ?_
        refine tq ?_
        refine bq_hit ?_
        cases h
        exact j5 _ _ rfl (wk_ren _ (fun i => i) rfl trivial)
set_option maxRecDepth 100000 in
set_option maxHeartbeats 4000000 in
theorem s77 (k : Nat) (t0 : Answer) (t1 : Answer) (r : Bool) (h : F77 k t0 t1 = some r) : Awp.Spec Tryd.prog amb 77 [(.agg (eAnswer t0)), (.agg (eAnswer t1))] (.ds [(.s (.bool r))]) := by
  rw [F77] at h
  refine spec_of Tryd.func77 rfl (ble _ _ rfl) fun w0 ok0 lt0 hA => ?_
  refine ht_seq ?_
  refine ht_region ?_
  refine sq_cons ⟨_, [(.t 2, .d (.dp (eAnswer t0)))]⟩ (v_box_d (cs := (eAnswer t0)) rfl trivial rfl (ble _ _ rfl) rfl rfl (ones_of rfl)) ?_
  refine sq_cons ⟨_, [(.t 3, .d (.dp (eAnswer t1)))]⟩ (v_box_d (cs := (eAnswer t1)) rfl trivial rfl (ble _ _ rfl) rfl rfl (ones_of rfl)) ?_
  refine sq_cons ⟨_, [(.t 4, bV false)]⟩ (v_move (.inr rfl) trivial rfl (ble _ _ rfl) rfl) ?_
  refine sq_nil ?_
  refine ht_seq ?_
  refine ht_seq ?_
  refine ht_region ?_
  refine sq_cons ⟨_, [(.t 6, .d (.dp (List.drop 6 (eAnswer t0))))]⟩ (v_field_dp (a0 := 6) (cs := (eAnswer t0)) rfl trivial rfl (ble _ _ rfl) fo35_4 rfl) ?_
  refine sq_cons ⟨_, [(.t 7, .d (.sl 2 (t0.mItems.map eItem)))]⟩ (v_load_dp1 rfl trivial rfl (ble _ _ rfl) onT33 rfl rfl) ?_
  refine sq_cons ⟨_, [(.t 8, iV (t0.mItems.length : Int))]⟩ (w_len t0.mItems eItem rfl rfl trivial rfl (ble _ _ rfl) slT33 rfl) ?_
  refine sq_cons ⟨_, [(.t 9, .d (.dp (List.drop 6 (eAnswer t1))))]⟩ (v_field_dp (a0 := 6) (cs := (eAnswer t1)) rfl trivial rfl (ble _ _ rfl) fo35_4 rfl) ?_
  refine sq_cons ⟨_, [(.t 10, .d (.sl 2 (t1.mItems.map eItem)))]⟩ (v_load_dp1 rfl trivial rfl (ble _ _ rfl) onT33 rfl rfl) ?_
  refine sq_cons ⟨_, [(.t 11, iV (t1.mItems.length : Int))]⟩ (w_len t1.mItems eItem rfl rfl trivial rfl (ble _ _ rfl) slT33 rfl) ?_
  refine sq_cons ⟨_, [(.t 12, bV (!eqI (t0.mItems.length : Int) (t1.mItems.length : Int)))]⟩ (v_bin rfl trivial rfl (ble _ _ rfl) rfl rfl (b_neq rfl)) ?_
  refine sq_nil ?_
  refine ht_cond (b := (!eqI (t0.mItems.length : Int) (t1.mItems.length : Int))) rfl (fun e1 => ?_) (fun e1 => ?_)
  · replace h := cpos e1 h
    refine ht_seq ?_
    refine ht_region ?_
    refine sq_cons ⟨_, [(.t 4, bV false)]⟩ (v_move (.inr rfl) trivial rfl (ble _ _ rfl) rfl) ?_
    refine sq_nil ?_
    refine ht_ret ?_
    cases h
    exact ret1 rfl (.tmp rfl)
  · replace h := cneg e1 h
    refine ht_skip ?_
    refine ht_gj (go_id' h) (fun _ => tell [(.t 2, .d (.dp (eAnswer t0))), (.t 3, .d (.dp (eAnswer t1)))]) (fun _ h => ?_) (fun v2 K3 h j5 r6 => ?_)
    · refine ht_seq ?_
      refine ht_region ?_
      refine sq_cons ⟨_, [(.t 31, .d (.dp (eAnswer t0)))]⟩ (v_field_dp (a0 := 0) (cs := (eAnswer t0)) rfl trivial rfl (ble _ _ rfl) fo35_0 rfl) ?_
      refine sq_cons ⟨_, [(.t 32, iV t0.mErr)]⟩ (v_load_dp1 rfl trivial rfl (ble _ _ rfl) onT32 rfl rfl) ?_
      refine sq_cons ⟨_, [(.t 33, .d (.dp (eAnswer t1)))]⟩ (v_field_dp (a0 := 0) (cs := (eAnswer t1)) rfl trivial rfl (ble _ _ rfl) fo35_0 rfl) ?_
      refine sq_cons ⟨_, [(.t 34, iV t1.mErr)]⟩ (v_load_dp1 rfl trivial rfl (ble _ _ rfl) onT32 rfl rfl) ?_
      refine sq_cons ⟨_, [(.t 35, bV (eqI t0.mErr t1.mErr))]⟩ (v_bin rfl trivial rfl (ble _ _ rfl) rfl rfl (b_eql rfl)) ?_
      refine sq_cons ⟨_, [(.t 36, bV (eqI t0.mErr t1.mErr))]⟩ (v_move (.inl rfl) trivial rfl (ble _ _ rfl) rfl) ?_
      refine sq_cons ⟨_, [(.t 37, mg (eqI t0.mErr t1.mErr) (.d (.dp (List.drop 1 (eAnswer t0)))))]⟩ (v_cT rfl rfl rfl (ble _ _ rfl) rfl fun e15 => (v_field_dp (a0 := 1) (cs := (eAnswer t0)) rfl ⟨_, rfl, be e15⟩ rfl (ble _ _ rfl) fo35_1 rfl)) ?_
      refine sq_cons ⟨_, [(.t 38, mg (eqI t0.mErr t1.mErr) (.d (.agg (eStamp t0.mAt))))]⟩ (v_cT rfl rfl rfl (ble _ _ rfl) rfl fun e16 => (w_ldp (List.drop 1 (eAnswer t0)) (eStamp t0.mAt) rfl ⟨_, rfl, be e16⟩ rfl (ble _ _ rfl) ag23 (gv e16) (ble _ _ rfl) rfl)) ?_
      refine sq_cons ⟨_, [(.t 39, mg (eqI t0.mErr t1.mErr) (.d (.dp (List.drop 1 (eAnswer t1)))))]⟩ (v_cT rfl rfl rfl (ble _ _ rfl) rfl fun e17 => (v_field_dp (a0 := 1) (cs := (eAnswer t1)) rfl ⟨_, rfl, be e17⟩ rfl (ble _ _ rfl) fo35_1 rfl)) ?_
      refine sq_cons ⟨_, [(.t 40, mg (eqI t0.mErr t1.mErr) (.d (.agg (eStamp t1.mAt))))]⟩ (v_cT rfl rfl rfl (ble _ _ rfl) rfl fun e18 => (w_ldp (List.drop 1 (eAnswer t1)) (eStamp t1.mAt) rfl ⟨_, rfl, be e18⟩ rfl (ble _ _ rfl) ag23 (gv e18) (ble _ _ rfl) rfl)) ?_
      refine sq_cons ⟨_, [(.t 41, mg (eqI t0.mErr t1.mErr) (bV (qStamp t0.mAt t1.mAt)))]⟩ (v_cT rfl rfl rfl (ble _ _ rfl) rfl fun e19 => (v_bin_eql (f := eStamp) rfl ⟨_, rfl, be e19⟩ rfl (ble _ _ rfl) (gv e19) (gv e19) rfl rfl eg23 (eq23 _ _))) ?_
      refine sq_cons ⟨_, [(.t 42, bV ((eqI t0.mErr t1.mErr) && (qStamp t0.mAt t1.mAt)))]⟩ (v_pickB rfl trivial rfl (ble _ _ rfl) rfl (fun e20 => (gv e20)) (fun e21 => rfl) (pA _ _)) ?_
      refine sq_cons ⟨_, [(.t 43, bV ((eqI t0.mErr t1.mErr) && (qStamp t0.mAt t1.mAt)))]⟩ (v_move (.inl rfl) trivial rfl (ble _ _ rfl) rfl) ?_
      refine sq_cons ⟨_, [(.t 44, mg ((eqI t0.mErr t1.mErr) && (qStamp t0.mAt t1.mAt)) (.d (.dp (List.drop 4 (eAnswer t0)))))]⟩ (v_cT rfl rfl rfl (ble _ _ rfl) rfl fun e22 => (v_field_dp (a0 := 4) (cs := (eAnswer t0)) rfl ⟨_, rfl, be e22⟩ rfl (ble _ _ rfl) fo35_2 rfl)) ?_
      refine sq_cons ⟨_, [(.t 45, mg ((eqI t0.mErr t1.mErr) && (qStamp t0.mAt t1.mAt)) (bV t0.mFound))]⟩ (v_cT rfl rfl rfl (ble _ _ rfl) rfl fun e23 => (v_load_dp1 rfl ⟨_, rfl, be e23⟩ rfl (ble _ _ rfl) onT4 (gv e23) rfl)) ?_
      refine sq_cons ⟨_, [(.t 46, mg ((eqI t0.mErr t1.mErr) && (qStamp t0.mAt t1.mAt)) (.d (.dp (List.drop 4 (eAnswer t1)))))]⟩ (v_cT rfl rfl rfl (ble _ _ rfl) rfl fun e24 => (v_field_dp (a0 := 4) (cs := (eAnswer t1)) rfl ⟨_, rfl, be e24⟩ rfl (ble _ _ rfl) fo35_2 rfl)) ?_
      refine sq_cons ⟨_, [(.t 47, mg ((eqI t0.mErr t1.mErr) && (qStamp t0.mAt t1.mAt)) (bV t1.mFound))]⟩ (v_cT rfl rfl rfl (ble _ _ rfl) rfl fun e25 => (v_load_dp1 rfl ⟨_, rfl, be e25⟩ rfl (ble _ _ rfl) onT4 (gv e25) rfl)) ?_
      refine sq_cons ⟨_, [(.t 48, mg ((eqI t0.mErr t1.mErr) && (qStamp t0.mAt t1.mAt)) (bV (t0.mFound == t1.mFound)))]⟩ (v_cT rfl rfl rfl (ble _ _ rfl) rfl fun e26 => (v_bin rfl ⟨_, rfl, be e26⟩ rfl (ble _ _ rfl) (gv e26) (gv e26) (b_eqB und4 rfl))) ?_
      refine sq_cons ⟨_, [(.t 49, bV (((eqI t0.mErr t1.mErr) && (qStamp t0.mAt t1.mAt)) && (t0.mFound == t1.mFound)))]⟩ (v_pickB rfl trivial rfl (ble _ _ rfl) rfl (fun e27 => (gv e27)) (fun e28 => rfl) (pA _ _)) ?_
      refine sq_cons ⟨_, [(.t 50, bV (((eqI t0.mErr t1.mErr) && (qStamp t0.mAt t1.mAt)) && (t0.mFound == t1.mFound)))]⟩ (v_move (.inl rfl) trivial rfl (ble _ _ rfl) rfl) ?_
      refine sq_cons ⟨_, [(.t 51, mg (((eqI t0.mErr t1.mErr) && (qStamp t0.mAt t1.mAt)) && (t0.mFound == t1.mFound)) (.d (.dp (List.drop 5 (eAnswer t0)))))]⟩ (v_cT rfl rfl rfl (ble _ _ rfl) rfl fun e29 => (v_field_dp (a0 := 5) (cs := (eAnswer t0)) rfl ⟨_, rfl, be e29⟩ rfl (ble _ _ rfl) fo35_3 rfl)) ?_
      refine sq_cons ⟨_, [(.t 52, mg (((eqI t0.mErr t1.mErr) && (qStamp t0.mAt t1.mAt)) && (t0.mFound == t1.mFound)) (sV t0.mValue))]⟩ (v_cT rfl rfl rfl (ble _ _ rfl) rfl fun e30 => (v_load_dp1 rfl ⟨_, rfl, be e30⟩ rfl (ble _ _ rfl) onT9 (gv e30) rfl)) ?_
      refine sq_cons ⟨_, [(.t 53, mg (((eqI t0.mErr t1.mErr) && (qStamp t0.mAt t1.mAt)) && (t0.mFound == t1.mFound)) (.d (.dp (List.drop 5 (eAnswer t1)))))]⟩ (v_cT rfl rfl rfl (ble _ _ rfl) rfl fun e31 => (v_field_dp (a0 := 5) (cs := (eAnswer t1)) rfl ⟨_, rfl, be e31⟩ rfl (ble _ _ rfl) fo35_3 rfl)) ?_
      refine sq_cons ⟨_, [(.t 54, mg (((eqI t0.mErr t1.mErr) && (qStamp t0.mAt t1.mAt)) && (t0.mFound == t1.mFound)) (sV t1.mValue))]⟩ (v_cT rfl rfl rfl (ble _ _ rfl) rfl fun e32 => (v_load_dp1 rfl ⟨_, rfl, be e32⟩ rfl (ble _ _ rfl) onT9 (gv e32) rfl)) ?_
      refine sq_cons ⟨_, [(.t 55, mg (((eqI t0.mErr t1.mErr) && (qStamp t0.mAt t1.mAt)) && (t0.mFound == t1.mFound)) (bV (strEq t0.mValue t1.mValue)))]⟩ (v_cT rfl rfl rfl (ble _ _ rfl) rfl fun e33 => (v_bin rfl ⟨_, rfl, be e33⟩ rfl (ble _ _ rfl) (gv e33) (gv e33) (b_eqS rfl))) ?_
      refine sq_cons ⟨_, [(.t 56, bV ((((eqI t0.mErr t1.mErr) && (qStamp t0.mAt t1.mAt)) && (t0.mFound == t1.mFound)) && (strEq t0.mValue t1.mValue)))]⟩ (v_pickB rfl trivial rfl (ble _ _ rfl) rfl (fun e34 => (gv e34)) (fun e35 => rfl) (pA _ _)) ?_
      refine sq_cons ⟨_, [(.t 57, bV ((((eqI t0.mErr t1.mErr) && (qStamp t0.mAt t1.mAt)) && (t0.mFound == t1.mFound)) && (strEq t0.mValue t1.mValue)))]⟩ (v_move (.inl rfl) trivial rfl (ble _ _ rfl) rfl) ?_
      refine sq_cons ⟨_, [(.t 58, mg ((((eqI t0.mErr t1.mErr) && (qStamp t0.mAt t1.mAt)) && (t0.mFound == t1.mFound)) && (strEq t0.mValue t1.mValue)) (.d (.dp (List.drop 7 (eAnswer t0)))))]⟩ (v_cT rfl rfl rfl (ble _ _ rfl) rfl fun e36 => (v_field_dp (a0 := 7) (cs := (eAnswer t0)) rfl ⟨_, rfl, be e36⟩ rfl (ble _ _ rfl) fo35_5 rfl)) ?_
      refine sq_cons ⟨_, [(.t 59, mg ((((eqI t0.mErr t1.mErr) && (qStamp t0.mAt t1.mAt)) && (t0.mFound == t1.mFound)) && (strEq t0.mValue t1.mValue)) (sV t0.mNext))]⟩ (v_cT rfl rfl rfl (ble _ _ rfl) rfl fun e37 => (v_load_dp1 rfl ⟨_, rfl, be e37⟩ rfl (ble _ _ rfl) onT9 (gv e37) rfl)) ?_
      refine sq_cons ⟨_, [(.t 60, mg ((((eqI t0.mErr t1.mErr) && (qStamp t0.mAt t1.mAt)) && (t0.mFound == t1.mFound)) && (strEq t0.mValue t1.mValue)) (.d (.dp (List.drop 7 (eAnswer t1)))))]⟩ (v_cT rfl rfl rfl (ble _ _ rfl) rfl fun e38 => (v_field_dp (a0 := 7) (cs := (eAnswer t1)) rfl ⟨_, rfl, be e38⟩ rfl (ble _ _ rfl) fo35_5 rfl)) ?_
      refine sq_cons ⟨_, [(.t 61, mg ((((eqI t0.mErr t1.mErr) && (qStamp t0.mAt t1.mAt)) && (t0.mFound == t1.mFound)) && (strEq t0.mValue t1.mValue)) (sV t1.mNext))]⟩ (v_cT rfl rfl rfl (ble _ _ rfl) rfl fun e39 => (v_load_dp1 rfl ⟨_, rfl, be e39⟩ rfl (ble _ _ rfl) onT9 (gv e39) rfl)) ?_
      refine sq_cons ⟨_, [(.t 62, mg ((((eqI t0.mErr t1.mErr) && (qStamp t0.mAt t1.mAt)) && (t0.mFound == t1.mFound)) && (strEq t0.mValue t1.mValue)) (bV (strEq t0.mNext t1.mNext)))]⟩ (v_cT rfl rfl rfl (ble _ _ rfl) rfl fun e40 => (v_bin rfl ⟨_, rfl, be e40⟩ rfl (ble _ _ rfl) (gv e40) (gv e40) (b_eqS rfl))) ?_
      refine sq_cons ⟨_, [(.t 63, bV (((((eqI t0.mErr t1.mErr) && (qStamp t0.mAt t1.mAt)) && (t0.mFound == t1.mFound)) && (strEq t0.mValue t1.mValue)) && (strEq t0.mNext t1.mNext)))]⟩ (v_pickB rfl trivial rfl (ble _ _ rfl) rfl (fun e41 => (gv e41)) (fun e42 => rfl) (pA _ _)) ?_
      refine sq_cons ⟨_, [(.t 64, bV (((((eqI t0.mErr t1.mErr) && (qStamp t0.mAt t1.mAt)) && (t0.mFound == t1.mFound)) && (strEq t0.mValue t1.mValue)) && (strEq t0.mNext t1.mNext)))]⟩ (v_move (.inl rfl) trivial rfl (ble _ _ rfl) rfl) ?_
      refine sq_cons ⟨_, [(.t 65, mg (((((eqI t0.mErr t1.mErr) && (qStamp t0.mAt t1.mAt)) && (t0.mFound == t1.mFound)) && (strEq t0.mValue t1.mValue)) && (strEq t0.mNext t1.mNext)) (.d (.dp (List.drop 8 (eAnswer t0)))))]⟩ (v_cT rfl rfl rfl (ble _ _ rfl) rfl fun e43 => (v_field_dp (a0 := 8) (cs := (eAnswer t0)) rfl ⟨_, rfl, be e43⟩ rfl (ble _ _ rfl) fo35_6 rfl)) ?_
      refine sq_cons ⟨_, [(.t 66, mg (((((eqI t0.mErr t1.mErr) && (qStamp t0.mAt t1.mAt)) && (t0.mFound == t1.mFound)) && (strEq t0.mValue t1.mValue)) && (strEq t0.mNext t1.mNext)) (bV t0.mMore))]⟩ (v_cT rfl rfl rfl (ble _ _ rfl) rfl fun e44 => (v_load_dp1 rfl ⟨_, rfl, be e44⟩ rfl (ble _ _ rfl) onT4 (gv e44) rfl)) ?_
      refine sq_cons ⟨_, [(.t 67, mg (((((eqI t0.mErr t1.mErr) && (qStamp t0.mAt t1.mAt)) && (t0.mFound == t1.mFound)) && (strEq t0.mValue t1.mValue)) && (strEq t0.mNext t1.mNext)) (.d (.dp (List.drop 8 (eAnswer t1)))))]⟩ (v_cT rfl rfl rfl (ble _ _ rfl) rfl fun e45 => (v_field_dp (a0 := 8) (cs := (eAnswer t1)) rfl ⟨_, rfl, be e45⟩ rfl (ble _ _ rfl) fo35_6 rfl)) ?_
      refine sq_cons ⟨_, [(.t 68, mg (((((eqI t0.mErr t1.mErr) && (qStamp t0.mAt t1.mAt)) && (t0.mFound == t1.mFound)) && (strEq t0.mValue t1.mValue)) && (strEq t0.mNext t1.mNext)) (bV t1.mMore))]⟩ (v_cT rfl rfl rfl (ble _ _ rfl) rfl fun e46 => (v_load_dp1 rfl ⟨_, rfl, be e46⟩ rfl (ble _ _ rfl) onT4 (gv e46) rfl)) ?_
      refine sq_cons ⟨_, [(.t 69, mg (((((eqI t0.mErr t1.mErr) && (qStamp t0.mAt t1.mAt)) && (t0.mFound == t1.mFound)) && (strEq t0.mValue t1.mValue)) && (strEq t0.mNext t1.mNext)) (bV (t0.mMore == t1.mMore)))]⟩ (v_cT rfl rfl rfl (ble _ _ rfl) rfl fun e47 => (v_bin rfl ⟨_, rfl, be e47⟩ rfl (ble _ _ rfl) (gv e47) (gv e47) (b_eqB und4 rfl))) ?_
      refine sq_cons ⟨_, [(.t 70, bV ((((((eqI t0.mErr t1.mErr) && (qStamp t0.mAt t1.mAt)) && (t0.mFound == t1.mFound)) && (strEq t0.mValue t1.mValue)) && (strEq t0.mNext t1.mNext)) && (t0.mMore == t1.mMore)))]⟩ (v_pickB rfl trivial rfl (ble _ _ rfl) rfl (fun e48 => (gv e48)) (fun e49 => rfl) (pA _ _)) ?_
      refine sq_cons ⟨_, [(.t 4, bV ((((((eqI t0.mErr t1.mErr) && (qStamp t0.mAt t1.mAt)) && (t0.mFound == t1.mFound)) && (strEq t0.mValue t1.mValue)) && (strEq t0.mNext t1.mNext)) && (t0.mMore == t1.mMore)))]⟩ (v_move (.inr rfl) trivial rfl (ble _ _ rfl) rfl) ?_
      refine sq_nil ?_
      refine ht_ret ?_
      cases h
      exact ret1 rfl (.tmp rfl)
    · refine ht_seq ?_
      refine ht_region ?_
      refine sq_cons ⟨_, [(.t 5, iV 0)]⟩ (v_move (.inr rfl) trivial rfl (ble _ _ rfl) rfl) ?_
      refine sq_nil ?_
      refine ht_block ?_
      refine ht_rd h (fun _ => rfl) (fun t5 => tell [(.t 2, .d (.dp (eAnswer t0))), (.t 3, .d (.dp (eAnswer t1))), (.t 5, iV t5)]) (wk_ren _ (fun i => i) rfl ⟨rfl, rfl, rfl, trivial⟩) fun k t5 h K14 j8 => ?_
      rw [F77_l1] at h
      refine ht_seq ?_
      refine ht_seq ?_
      refine ht_region ?_
      refine sq_cons ⟨_, [(.t 13, iV t5)]⟩ (v_move (.inl rfl) trivial rfl (ble _ _ rfl) rfl) ?_
      refine sq_cons ⟨_, [(.t 14, .d (.dp (List.drop 6 (eAnswer t0))))]⟩ (v_field_dp (a0 := 6) (cs := (eAnswer t0)) rfl trivial rfl (ble _ _ rfl) fo35_4 rfl) ?_
      refine sq_cons ⟨_, [(.t 15, .d (.sl 2 (t0.mItems.map eItem)))]⟩ (v_load_dp1 rfl trivial rfl (ble _ _ rfl) onT33 rfl rfl) ?_
      refine sq_cons ⟨_, [(.t 16, iV (t0.mItems.length : Int))]⟩ (w_len t0.mItems eItem rfl rfl trivial rfl (ble _ _ rfl) slT33 rfl) ?_
      refine sq_cons ⟨_, [(.t 17, bV (ltI t5 (t0.mItems.length : Int)))]⟩ (v_bin rfl trivial rfl (ble _ _ rfl) rfl rfl (b_lss rfl)) ?_
      refine sq_nil ?_
      refine ht_cond (b := (ltI t5 (t0.mItems.length : Int))) rfl (fun e10 => ?_) (fun e10 => ?_)
      · replace h := cpos e10 h
        refine ht_skip ?_
        refine ht_seq ?_
        refine ht_block ?_
        refine ht_seq ?_
        refine ht_region_draw mixed ?_
        refine rg_cons ⟨_, [(.t 20, .d (.dp (List.drop 6 (eAnswer t0))))]⟩ (v_field_dp (a0 := 6) (cs := (eAnswer t0)) rfl trivial rfl (ble _ _ rfl) fo35_4 rfl) ?_
        refine rg_cons ⟨_, [(.t 21, .d (.sl 2 (t0.mItems.map eItem)))]⟩ (v_load_dp1 rfl trivial rfl (ble _ _ rfl) onT33 rfl rfl) ?_
        refine rg_cons ⟨_, [(.t 22, iV t5)]⟩ (v_move (.inl rfl) trivial rfl (ble _ _ rfl) rfl) ?_
        obtain ⟨e11, h⟩ := gpos h
        refine rg_cons ⟨_, [(.t 23, .d (.dp (eItem (rd t0.mItems t5))))]⟩ (w_idx t0.mItems eItem rfl trivial rfl (ble _ _ rfl) slT33 rfl rfl e11) ?_
        refine rg_cons ⟨_, [(.t 24, .d (.agg (eItem (rd t0.mItems t5))))]⟩ (w_ldp (eItem (rd t0.mItems t5)) (eItem (rd t0.mItems t5)) rfl trivial rfl (ble _ _ rfl) ag118 rfl (ble _ _ rfl) rfl) ?_
        refine rg_cons ⟨_, [(.t 25, .d (.dp (List.drop 6 (eAnswer t1))))]⟩ (v_field_dp (a0 := 6) (cs := (eAnswer t1)) rfl trivial rfl (ble _ _ rfl) fo35_4 rfl) ?_
        refine rg_cons ⟨_, [(.t 26, .d (.sl 2 (t1.mItems.map eItem)))]⟩ (v_load_dp1 rfl trivial rfl (ble _ _ rfl) onT33 rfl rfl) ?_
        refine rg_cons ⟨_, [(.t 27, iV t5)]⟩ (v_move (.inl rfl) trivial rfl (ble _ _ rfl) rfl) ?_
        obtain ⟨e12, h⟩ := gpos h
        refine rg_cons ⟨_, [(.t 28, .d (.dp (eItem (rd t1.mItems t5))))]⟩ (w_idx t1.mItems eItem rfl trivial rfl (ble _ _ rfl) slT33 rfl rfl e12) ?_
        refine rg_cons ⟨_, [(.t 29, .d (.agg (eItem (rd t1.mItems t5))))]⟩ (w_ldp (eItem (rd t1.mItems t5)) (eItem (rd t1.mItems t5)) rfl trivial rfl (ble _ _ rfl) ag118 rfl (ble _ _ rfl) rfl) ?_
        refine rg_cons ⟨_, [(.t 30, bV (!(qItem (rd t0.mItems t5) (rd t1.mItems t5))))]⟩ (v_bin_neq (f := eItem) rfl trivial rfl (ble _ _ rfl) rfl rfl rfl rfl eg118 (eq118 _ _)) ?_
        refine rg_nil ⟨by kernel_rfl, ?_⟩
        refine ht_cond (b := (!(qItem (rd t0.mItems t5) (rd t1.mItems t5)))) rfl (fun e13 => ?_) (fun e13 => ?_)
        · replace h := cpos e13 h
          refine ht_seq ?_
          refine ht_region ?_
          refine sq_cons ⟨_, [(.t 4, bV false)]⟩ (v_move (.inr rfl) trivial rfl (ble _ _ rfl) rfl) ?_
          refine sq_nil ?_
          refine ht_ret ?_
          cases h
          cases r6 _ rfl
          exact ret1 rfl (.tmp rfl)
        · replace h := cneg e13 h
          refine ht_skip ?_
          refine ht_region ?_
          refine sq_cons ⟨_, [(.t 18, iV t5)]⟩ (v_move (.inl rfl) trivial rfl (ble _ _ rfl) rfl) ?_
          refine sq_cons ⟨_, [(.t 19, iV (IntKind.wrap .i64 (t5 + 1)))]⟩ (v_bin rfl trivial rfl (ble _ _ rfl) rfl rfl (b_add rfl)) ?_
          refine sq_cons ⟨_, [(.t 5, iV (IntKind.wrap .i64 (t5 + 1)))]⟩ (v_move (.inr rfl) trivial rfl (ble _ _ rfl) rfl) ?_
          refine sq_nil ?_
          exact j8 _ _ h (wk_ren _ (fun i => i) rfl ⟨rfl, rfl, rfl, trivial⟩)
      · replace h := cneg e10 h
        refine ht_exit ?_
        refine tq ?_
        refine tq ?_
        refine bq_hit ?_
        cases h
        exact j5 _ _ rfl (wk_ren _ (fun i => i) rfl ⟨rfl, rfl, trivial⟩)
set_option maxRecDepth 100000 in
set_option maxHeartbeats 4000000 in
theorem s52 (k : Nat) (t0 : List Done) (t1 : List Done) (r : Bool) (h : F52 k t0 t1 = some r) : Awp.Spec Tryd.prog amb 52 [(.sl 11 (t0.map eDone)), (.sl 11 (t1.map eDone))] (.ds [(.s (.bool r))]) := by
  rw [F52] at h
  refine spec_of Tryd.func52 rfl (ble _ _ rfl) fun w0 ok0 lt0 hA => ?_
  refine ht_seq ?_
  refine ht_region ?_
  refine sq_cons ⟨_, [(.t 4, bV false)]⟩ (v_move (.inr rfl) trivial rfl (ble _ _ rfl) rfl) ?_
  refine sq_nil ?_
  refine ht_seq ?_
  refine ht_seq ?_
  refine ht_region ?_
  refine sq_cons ⟨_, [(.t 6, .d (.sl 11 (t0.map eDone)))]⟩ (v_move (.inl rfl) trivial rfl (ble _ _ rfl) rfl) ?_
  refine sq_cons ⟨_, [(.t 7, iV (t0.length : Int))]⟩ (w_len t0 eDone rfl rfl trivial rfl (ble _ _ rfl) slT48 rfl) ?_
  refine sq_cons ⟨_, [(.t 8, .d (.sl 11 (t1.map eDone)))]⟩ (v_move (.inl rfl) trivial rfl (ble _ _ rfl) rfl) ?_
  refine sq_cons ⟨_, [(.t 9, iV (t1.length : Int))]⟩ (w_len t1 eDone rfl rfl trivial rfl (ble _ _ rfl) slT48 rfl) ?_
  refine sq_cons ⟨_, [(.t 10, bV (!eqI (t0.length : Int) (t1.length : Int)))]⟩ (v_bin rfl trivial rfl (ble _ _ rfl) rfl rfl (b_neq rfl)) ?_
  refine sq_nil ?_
  refine ht_cond (b := (!eqI (t0.length : Int) (t1.length : Int))) rfl (fun e1 => ?_) (fun e1 => ?_)
  · replace h := cpos e1 h
    refine ht_seq ?_
    refine ht_region ?_
    refine sq_cons ⟨_, [(.t 4, bV false)]⟩ (v_move (.inr rfl) trivial rfl (ble _ _ rfl) rfl) ?_
    refine sq_nil ?_
    refine ht_ret ?_
    cases h
    exact ret1 rfl (.tmp rfl)
  · replace h := cneg e1 h
    refine ht_skip ?_
    refine ht_gj (go_id' h) (fun _ => tell []) (fun _ h => ?_) (fun v2 K3 h j5 r6 => ?_)
    · refine ht_seq ?_
      refine ht_region ?_
      refine sq_cons ⟨_, [(.t 4, bV true)]⟩ (v_move (.inr rfl) trivial rfl (ble _ _ rfl) rfl) ?_
      refine sq_nil ?_
      refine ht_ret ?_
      cases h
      exact ret1 rfl (.tmp rfl)
    · refine ht_seq ?_
      refine ht_region ?_
      refine sq_cons ⟨_, [(.t 5, iV 0)]⟩ (v_move (.inr rfl) trivial rfl (ble _ _ rfl) rfl) ?_
      refine sq_nil ?_
      refine ht_block ?_
      refine ht_rd h (fun _ => rfl) (fun t5 => tell [(.t 0, .d (.sl 11 (t0.map eDone))), (.t 1, .d (.sl 11 (t1.map eDone))), (.t 5, iV t5)]) (wk_ren _ (fun i => i) rfl ⟨rfl, rfl, rfl, trivial⟩) fun k t5 h K46 j8 => ?_
      rw [F52_l1] at h
      refine ht_seq ?_
      refine ht_seq ?_
      refine ht_region ?_
      refine sq_cons ⟨_, [(.t 11, iV t5)]⟩ (v_move (.inl rfl) trivial rfl (ble _ _ rfl) rfl) ?_
      refine sq_cons ⟨_, [(.t 12, .d (.sl 11 (t0.map eDone)))]⟩ (v_move (.inl rfl) trivial rfl (ble _ _ rfl) rfl) ?_
      refine sq_cons ⟨_, [(.t 13, iV (t0.length : Int))]⟩ (w_len t0 eDone rfl rfl trivial rfl (ble _ _ rfl) slT48 rfl) ?_
      refine sq_cons ⟨_, [(.t 14, bV (ltI t5 (t0.length : Int)))]⟩ (v_bin rfl trivial rfl (ble _ _ rfl) rfl rfl (b_lss rfl)) ?_
      refine sq_nil ?_
      refine ht_cond (b := (ltI t5 (t0.length : Int))) rfl (fun e10 => ?_) (fun e10 => ?_)
      · replace h := cpos e10 h
        refine ht_skip ?_
        refine ht_seq ?_
        refine ht_block ?_
        refine ht_seq ?_
        refine ht_region_draw mixed ?_
        refine rg_cons ⟨_, [(.t 17, .d (.sl 11 (t0.map eDone)))]⟩ (v_move (.inl rfl) trivial rfl (ble _ _ rfl) rfl) ?_
        refine rg_cons ⟨_, [(.t 18, iV t5)]⟩ (v_move (.inl rfl) trivial rfl (ble _ _ rfl) rfl) ?_
        obtain ⟨e11, h⟩ := gpos h
        refine rg_cons ⟨_, [(.t 19, .d (.dp (eDone (rd t0 t5))))]⟩ (w_idx t0 eDone rfl trivial rfl (ble _ _ rfl) slT48 rfl rfl e11) ?_
        refine rg_cons ⟨_, [(.t 20, .d (.dp (eDone (rd t0 t5))))]⟩ (v_field_dp (a0 := 0) (cs := (eDone (rd t0 t5))) rfl trivial rfl (ble _ _ rfl) fo78_0 rfl) ?_
        refine rg_cons ⟨_, [(.t 21, iV (rd t0 t5).mClient)]⟩ (v_load_dp1 rfl trivial rfl (ble _ _ rfl) onT3 rfl rfl) ?_
        refine rg_cons ⟨_, [(.t 22, .d (.sl 11 (t1.map eDone)))]⟩ (v_move (.inl rfl) trivial rfl (ble _ _ rfl) rfl) ?_
        refine rg_cons ⟨_, [(.t 23, iV t5)]⟩ (v_move (.inl rfl) trivial rfl (ble _ _ rfl) rfl) ?_
        obtain ⟨e12, h⟩ := gpos h
        refine rg_cons ⟨_, [(.t 24, .d (.dp (eDone (rd t1 t5))))]⟩ (w_idx t1 eDone rfl trivial rfl (ble _ _ rfl) slT48 rfl rfl e12) ?_
        refine rg_cons ⟨_, [(.t 25, .d (.dp (eDone (rd t1 t5))))]⟩ (v_field_dp (a0 := 0) (cs := (eDone (rd t1 t5))) rfl trivial rfl (ble _ _ rfl) fo78_0 rfl) ?_
        refine rg_cons ⟨_, [(.t 26, iV (rd t1 t5).mClient)]⟩ (v_load_dp1 rfl trivial rfl (ble _ _ rfl) onT3 rfl rfl) ?_
        refine rg_cons ⟨_, [(.t 27, bV (!eqI (rd t0 t5).mClient (rd t1 t5).mClient))]⟩ (v_bin rfl trivial rfl (ble _ _ rfl) rfl rfl (b_neq rfl)) ?_
        refine rg_cons ⟨_, [(.t 28, bV (!eqI (rd t0 t5).mClient (rd t1 t5).mClient))]⟩ (v_move (.inl rfl) trivial rfl (ble _ _ rfl) rfl) ?_
        refine rg_cons ⟨_, [(.t 29, mg (!(!eqI (rd t0 t5).mClient (rd t1 t5).mClient)) (.d (.sl 11 (t0.map eDone))))]⟩ (v_cF rfl rfl rfl (ble _ _ rfl) rfl fun e13 => (v_move (.inl rfl) ⟨_, rfl, be e13⟩ rfl (ble _ _ rfl) rfl)) ?_
        refine rg_cons ⟨_, [(.t 30, mg (!(!eqI (rd t0 t5).mClient (rd t1 t5).mClient)) (iV t5))]⟩ (v_cF rfl rfl rfl (ble _ _ rfl) rfl fun e14 => (v_move (.inl rfl) ⟨_, rfl, be e14⟩ rfl (ble _ _ rfl) rfl)) ?_
        obtain ⟨e16, h⟩ := gpos h
        refine rg_cons ⟨_, [(.t 31, mg (!(!eqI (rd t0 t5).mClient (rd t1 t5).mClient)) (.d (.dp (eDone (rd t0 t5)))))]⟩ (v_cF rfl rfl rfl (ble _ _ rfl) rfl fun e15 => (w_idx t0 eDone rfl ⟨_, rfl, be e15⟩ rfl (ble _ _ rfl) slT48 (gv (nF e15)) (gv (nF e15)) (orT e16 (nF e15)))) ?_
        refine rg_cons ⟨_, [(.t 32, mg (!(!eqI (rd t0 t5).mClient (rd t1 t5).mClient)) (.d (.dp (List.drop 1 (eDone (rd t0 t5))))))]⟩ (v_cF rfl rfl rfl (ble _ _ rfl) rfl fun e17 => (v_field_dp (a0 := 1) (cs := (eDone (rd t0 t5))) rfl ⟨_, rfl, be e17⟩ rfl (ble _ _ rfl) fo78_1 (gv (nF e17)))) ?_
        refine rg_cons ⟨_, [(.t 33, mg (!(!eqI (rd t0 t5).mClient (rd t1 t5).mClient)) (iV (rd t0 t5).mReq))]⟩ (v_cF rfl rfl rfl (ble _ _ rfl) rfl fun e18 => (v_load_dp1 rfl ⟨_, rfl, be e18⟩ rfl (ble _ _ rfl) onT3 (gv (nF e18)) rfl)) ?_
        refine rg_cons ⟨_, [(.t 34, mg (!(!eqI (rd t0 t5).mClient (rd t1 t5).mClient)) (.d (.sl 11 (t1.map eDone))))]⟩ (v_cF rfl rfl rfl (ble _ _ rfl) rfl fun e19 => (v_move (.inl rfl) ⟨_, rfl, be e19⟩ rfl (ble _ _ rfl) rfl)) ?_
        refine rg_cons ⟨_, [(.t 35, mg (!(!eqI (rd t0 t5).mClient (rd t1 t5).mClient)) (iV t5))]⟩ (v_cF rfl rfl rfl (ble _ _ rfl) rfl fun e20 => (v_move (.inl rfl) ⟨_, rfl, be e20⟩ rfl (ble _ _ rfl) rfl)) ?_
        obtain ⟨e22, h⟩ := gpos h
        refine rg_cons ⟨_, [(.t 36, mg (!(!eqI (rd t0 t5).mClient (rd t1 t5).mClient)) (.d (.dp (eDone (rd t1 t5)))))]⟩ (v_cF rfl rfl rfl (ble _ _ rfl) rfl fun e21 => (w_idx t1 eDone rfl ⟨_, rfl, be e21⟩ rfl (ble _ _ rfl) slT48 (gv (nF e21)) (gv (nF e21)) (orT e22 (nF e21)))) ?_
        refine rg_cons ⟨_, [(.t 37, mg (!(!eqI (rd t0 t5).mClient (rd t1 t5).mClient)) (.d (.dp (List.drop 1 (eDone (rd t1 t5))))))]⟩ (v_cF rfl rfl rfl (ble _ _ rfl) rfl fun e23 => (v_field_dp (a0 := 1) (cs := (eDone (rd t1 t5))) rfl ⟨_, rfl, be e23⟩ rfl (ble _ _ rfl) fo78_1 (gv (nF e23)))) ?_
        refine rg_cons ⟨_, [(.t 38, mg (!(!eqI (rd t0 t5).mClient (rd t1 t5).mClient)) (iV (rd t1 t5).mReq))]⟩ (v_cF rfl rfl rfl (ble _ _ rfl) rfl fun e24 => (v_load_dp1 rfl ⟨_, rfl, be e24⟩ rfl (ble _ _ rfl) onT3 (gv (nF e24)) rfl)) ?_
        refine rg_cons ⟨_, [(.t 39, mg (!(!eqI (rd t0 t5).mClient (rd t1 t5).mClient)) (bV (!eqI (rd t0 t5).mReq (rd t1 t5).mReq)))]⟩ (v_cF rfl rfl rfl (ble _ _ rfl) rfl fun e25 => (v_bin rfl ⟨_, rfl, be e25⟩ rfl (ble _ _ rfl) (gv (nF e25)) (gv (nF e25)) (b_neq rfl))) ?_
        refine rg_cons ⟨_, [(.t 40, bV ((!eqI (rd t0 t5).mClient (rd t1 t5).mClient) || (!eqI (rd t0 t5).mReq (rd t1 t5).mReq)))]⟩ (v_pickB rfl trivial rfl (ble _ _ rfl) rfl (fun e26 => rfl) (fun e27 => (gv (nF e27))) (pO _ _)) ?_
        refine rg_cons ⟨_, [(.t 41, bV ((!eqI (rd t0 t5).mClient (rd t1 t5).mClient) || (!eqI (rd t0 t5).mReq (rd t1 t5).mReq)))]⟩ (v_move (.inl rfl) trivial rfl (ble _ _ rfl) rfl) ?_
        refine rg_cons ⟨_, [(.t 42, mg (!((!eqI (rd t0 t5).mClient (rd t1 t5).mClient) || (!eqI (rd t0 t5).mReq (rd t1 t5).mReq))) (.d (.sl 11 (t0.map eDone))))]⟩ (v_cF rfl rfl rfl (ble _ _ rfl) rfl fun e28 => (v_move (.inl rfl) ⟨_, rfl, be e28⟩ rfl (ble _ _ rfl) rfl)) ?_
        refine rg_cons ⟨_, [(.t 43, mg (!((!eqI (rd t0 t5).mClient (rd t1 t5).mClient) || (!eqI (rd t0 t5).mReq (rd t1 t5).mReq))) (iV t5))]⟩ (v_cF rfl rfl rfl (ble _ _ rfl) rfl fun e29 => (v_move (.inl rfl) ⟨_, rfl, be e29⟩ rfl (ble _ _ rfl) rfl)) ?_
        obtain ⟨e31, h⟩ := gpos h
        refine rg_cons ⟨_, [(.t 44, mg (!((!eqI (rd t0 t5).mClient (rd t1 t5).mClient) || (!eqI (rd t0 t5).mReq (rd t1 t5).mReq))) (.d (.dp (eDone (rd t0 t5)))))]⟩ (v_cF rfl rfl rfl (ble _ _ rfl) rfl fun e30 => (w_idx t0 eDone rfl ⟨_, rfl, be e30⟩ rfl (ble _ _ rfl) slT48 (gv (nF e30)) (gv (nF e30)) (orT e31 (nF e30)))) ?_
        refine rg_cons ⟨_, [(.t 45, mg (!((!eqI (rd t0 t5).mClient (rd t1 t5).mClient) || (!eqI (rd t0 t5).mReq (rd t1 t5).mReq))) (.d (.dp (List.drop 2 (eDone (rd t0 t5))))))]⟩ (v_cF rfl rfl rfl (ble _ _ rfl) rfl fun e32 => (v_field_dp (a0 := 2) (cs := (eDone (rd t0 t5))) rfl ⟨_, rfl, be e32⟩ rfl (ble _ _ rfl) fo78_2 (gv (nF e32)))) ?_
        refine rg_cons ⟨_, [(.t 46, mg (!((!eqI (rd t0 t5).mClient (rd t1 t5).mClient) || (!eqI (rd t0 t5).mReq (rd t1 t5).mReq))) (.d (.agg (eAnswer (rd t0 t5).mAnswer))))]⟩ (v_cF rfl rfl rfl (ble _ _ rfl) rfl fun e33 => (w_ldp (List.drop 2 (eDone (rd t0 t5))) (eAnswer (rd t0 t5).mAnswer) rfl ⟨_, rfl, be e33⟩ rfl (ble _ _ rfl) ag35 (gv (nF e33)) (ble _ _ rfl) rfl)) ?_
        refine rg_cons ⟨_, [(.t 47, mg (!((!eqI (rd t0 t5).mClient (rd t1 t5).mClient) || (!eqI (rd t0 t5).mReq (rd t1 t5).mReq))) (.d (.sl 11 (t1.map eDone))))]⟩ (v_cF rfl rfl rfl (ble _ _ rfl) rfl fun e34 => (v_move (.inl rfl) ⟨_, rfl, be e34⟩ rfl (ble _ _ rfl) rfl)) ?_
        refine rg_cons ⟨_, [(.t 48, mg (!((!eqI (rd t0 t5).mClient (rd t1 t5).mClient) || (!eqI (rd t0 t5).mReq (rd t1 t5).mReq))) (iV t5))]⟩ (v_cF rfl rfl rfl (ble _ _ rfl) rfl fun e35 => (v_move (.inl rfl) ⟨_, rfl, be e35⟩ rfl (ble _ _ rfl) rfl)) ?_
        obtain ⟨e37, h⟩ := gpos h
        refine rg_cons ⟨_, [(.t 49, mg (!((!eqI (rd t0 t5).mClient (rd t1 t5).mClient) || (!eqI (rd t0 t5).mReq (rd t1 t5).mReq))) (.d (.dp (eDone (rd t1 t5)))))]⟩ (v_cF rfl rfl rfl (ble _ _ rfl) rfl fun e36 => (w_idx t1 eDone rfl ⟨_, rfl, be e36⟩ rfl (ble _ _ rfl) slT48 (gv (nF e36)) (gv (nF e36)) (orT e37 (nF e36)))) ?_
        refine rg_cons ⟨_, [(.t 50, mg (!((!eqI (rd t0 t5).mClient (rd t1 t5).mClient) || (!eqI (rd t0 t5).mReq (rd t1 t5).mReq))) (.d (.dp (List.drop 2 (eDone (rd t1 t5))))))]⟩ (v_cF rfl rfl rfl (ble _ _ rfl) rfl fun e38 => (v_field_dp (a0 := 2) (cs := (eDone (rd t1 t5))) rfl ⟨_, rfl, be e38⟩ rfl (ble _ _ rfl) fo78_2 (gv (nF e38)))) ?_
        refine rg_cons ⟨_, [(.t 51, mg (!((!eqI (rd t0 t5).mClient (rd t1 t5).mClient) || (!eqI (rd t0 t5).mReq (rd t1 t5).mReq))) (.d (.agg (eAnswer (rd t1 t5).mAnswer))))]⟩ (v_cF rfl rfl rfl (ble _ _ rfl) rfl fun e39 => (w_ldp (List.drop 2 (eDone (rd t1 t5))) (eAnswer (rd t1 t5).mAnswer) rfl ⟨_, rfl, be e39⟩ rfl (ble _ _ rfl) ag35 (gv (nF e39)) (ble _ _ rfl) rfl)) ?_
        obtain ⟨t52, c41, h⟩ := bpos h
        refine rg_cons ⟨_, [(.t 52, mg (!((!eqI (rd t0 t5).mClient (rd t1 t5).mClient) || (!eqI (rd t0 t5).mReq (rd t1 t5).mReq))) (bV t52))]⟩ (v_cF rfl rfl rfl (ble _ _ rfl) rfl fun e40 => (w_call (ds := [(.agg (eAnswer (rd t0 t5).mAnswer)), (.agg (eAnswer (rd t1 t5).mAnswer))]) (caps := []) (l := [(.s (.bool t52))]) (s77 k (rd t0 t5).mAnswer (rd t1 t5).mAnswer _ (cpos (nF e40) c41)) rfl rfl rfl en77 ⟨_, rfl, be e40⟩ rfl (ble _ _ rfl) (.inl ⟨rfl, rfl⟩) (cc (gv (nF e40)) (cc (gv (nF e40)) rfl)) rfl)) ?_
        refine rg_cons ⟨_, [(.t 53, mg (!((!eqI (rd t0 t5).mClient (rd t1 t5).mClient) || (!eqI (rd t0 t5).mReq (rd t1 t5).mReq))) (bV (!t52)))]⟩ (v_cF rfl rfl rfl (ble _ _ rfl) rfl fun e42 => (v_un rfl ⟨_, rfl, be e42⟩ rfl (ble _ _ rfl) (gv (nF e42)) (u_not rfl))) ?_
        refine rg_cons ⟨_, [(.t 54, bV (((!eqI (rd t0 t5).mClient (rd t1 t5).mClient) || (!eqI (rd t0 t5).mReq (rd t1 t5).mReq)) || (!t52)))]⟩ (v_pickB rfl trivial rfl (ble _ _ rfl) rfl (fun e43 => rfl) (fun e44 => (gv (nF e44))) (pO _ _)) ?_
        refine rg_nil ⟨by kernel_rfl, ?_⟩
        refine ht_cond (b := (((!eqI (rd t0 t5).mClient (rd t1 t5).mClient) || (!eqI (rd t0 t5).mReq (rd t1 t5).mReq)) || (!t52))) rfl (fun e45 => ?_) (fun e45 => ?_)
        · replace h := cpos e45 h
          refine ht_seq ?_
          refine ht_region ?_
          refine sq_cons ⟨_, [(.t 4, bV false)]⟩ (v_move (.inr rfl) trivial rfl (ble _ _ rfl) rfl) ?_
          refine sq_nil ?_
          refine ht_ret ?_
          cases h
          cases r6 _ rfl
          exact ret1 rfl (.tmp rfl)
        · replace h := cneg e45 h
          refine ht_skip ?_
          refine ht_region ?_
          refine sq_cons ⟨_, [(.t 15, iV t5)]⟩ (v_move (.inl rfl) trivial rfl (ble _ _ rfl) rfl) ?_
          refine sq_cons ⟨_, [(.t 16, iV (IntKind.wrap .i64 (t5 + 1)))]⟩ (v_bin rfl trivial rfl (ble _ _ rfl) rfl rfl (b_add rfl)) ?_
          refine sq_cons ⟨_, [(.t 5, iV (IntKind.wrap .i64 (t5 + 1)))]⟩ (v_move (.inr rfl) trivial rfl (ble _ _ rfl) rfl) ?_
          refine sq_nil ?_
          exact j8 _ _ h (wk_ren _ (fun i => i) rfl ⟨rfl, rfl, rfl, trivial⟩)
      · replace h := cneg e10 h
        refine ht_exit ?_
        refine tq ?_
        refine tq ?_
        refine bq_hit ?_
        cases h
        exact j5 _ _ rfl (wk_ren _ (fun i => i) rfl trivial)
set_option maxRecDepth 100000 in
set_option maxHeartbeats 4000000 in
theorem s28 (k : Nat) (t0 : Shard) (t1 : Shard) (r : Bool) (h : F28 k t0 t1 = some r) : Awp.Spec Tryd.prog amb 28 [(.agg (eShard t0)), (.agg (eShard t1))] (.ds [(.s (.bool r))]) := by
  rw [F28] at h
  refine spec_of Tryd.func28 rfl (ble _ _ rfl) fun w0 ok0 lt0 hA => ?_
  refine ht_seq ?_
  refine ht_region ?_
  refine sq_cons ⟨_, [(.t 2, .d (.dp (eShard t0)))]⟩ (v_box_d (cs := (eShard t0)) rfl trivial rfl (ble _ _ rfl) rfl rfl (ones_of rfl)) ?_
  refine sq_cons ⟨_, [(.t 3, .d (.dp (eShard t1)))]⟩ (v_box_d (cs := (eShard t1)) rfl trivial rfl (ble _ _ rfl) rfl rfl (ones_of rfl)) ?_
  refine sq_cons ⟨_, [(.t 4, bV false)]⟩ (v_move (.inr rfl) trivial rfl (ble _ _ rfl) rfl) ?_
  refine sq_nil ?_
  refine ht_seq ?_
  refine ht_region ?_
  refine sq_cons ⟨_, [(.t 5, .d (.dp (eShard t0)))]⟩ (v_field_dp (a0 := 0) (cs := (eShard t0)) rfl trivial rfl (ble _ _ rfl) fo50_0 rfl) ?_
  refine sq_cons ⟨_, [(.t 6, iV t0.mID)]⟩ (v_load_dp1 rfl trivial rfl (ble _ _ rfl) onT3 rfl rfl) ?_
  refine sq_cons ⟨_, [(.t 7, .d (.dp (eShard t1)))]⟩ (v_field_dp (a0 := 0) (cs := (eShard t1)) rfl trivial rfl (ble _ _ rfl) fo50_0 rfl) ?_
  refine sq_cons ⟨_, [(.t 8, iV t1.mID)]⟩ (v_load_dp1 rfl trivial rfl (ble _ _ rfl) onT3 rfl rfl) ?_
  refine sq_cons ⟨_, [(.t 9, bV (eqI t0.mID t1.mID))]⟩ (v_bin rfl trivial rfl (ble _ _ rfl) rfl rfl (b_eql rfl)) ?_
  refine sq_cons ⟨_, [(.t 10, bV (eqI t0.mID t1.mID))]⟩ (v_move (.inl rfl) trivial rfl (ble _ _ rfl) rfl) ?_
  refine sq_cons ⟨_, [(.t 11, mg (eqI t0.mID t1.mID) (.d (.dp (List.drop 1 (eShard t0)))))]⟩ (v_cT rfl rfl rfl (ble _ _ rfl) rfl fun e1 => (v_field_dp (a0 := 1) (cs := (eShard t0)) rfl ⟨_, rfl, be e1⟩ rfl (ble _ _ rfl) fo50_1 rfl)) ?_
  refine sq_cons ⟨_, [(.t 12, mg (eqI t0.mID t1.mID) (iV t0.mEpoch))]⟩ (v_cT rfl rfl rfl (ble _ _ rfl) rfl fun e2 => (v_load_dp1 rfl ⟨_, rfl, be e2⟩ rfl (ble _ _ rfl) onT3 (gv e2) rfl)) ?_
  refine sq_cons ⟨_, [(.t 13, mg (eqI t0.mID t1.mID) (.d (.dp (List.drop 1 (eShard t1)))))]⟩ (v_cT rfl rfl rfl (ble _ _ rfl) rfl fun e3 => (v_field_dp (a0 := 1) (cs := (eShard t1)) rfl ⟨_, rfl, be e3⟩ rfl (ble _ _ rfl) fo50_1 rfl)) ?_
  refine sq_cons ⟨_, [(.t 14, mg (eqI t0.mID t1.mID) (iV t1.mEpoch))]⟩ (v_cT rfl rfl rfl (ble _ _ rfl) rfl fun e4 => (v_load_dp1 rfl ⟨_, rfl, be e4⟩ rfl (ble _ _ rfl) onT3 (gv e4) rfl)) ?_
  refine sq_cons ⟨_, [(.t 15, mg (eqI t0.mID t1.mID) (bV (eqI t0.mEpoch t1.mEpoch)))]⟩ (v_cT rfl rfl rfl (ble _ _ rfl) rfl fun e5 => (v_bin rfl ⟨_, rfl, be e5⟩ rfl (ble _ _ rfl) (gv e5) (gv e5) (b_eql rfl))) ?_
  refine sq_cons ⟨_, [(.t 16, bV ((eqI t0.mID t1.mID) && (eqI t0.mEpoch t1.mEpoch)))]⟩ (v_pickB rfl trivial rfl (ble _ _ rfl) rfl (fun e6 => (gv e6)) (fun e7 => rfl) (pA _ _)) ?_
  refine sq_cons ⟨_, [(.t 17, bV ((eqI t0.mID t1.mID) && (eqI t0.mEpoch t1.mEpoch)))]⟩ (v_move (.inl rfl) trivial rfl (ble _ _ rfl) rfl) ?_
  refine sq_cons ⟨_, [(.t 18, mg ((eqI t0.mID t1.mID) && (eqI t0.mEpoch t1.mEpoch)) (.d (.dp (List.drop 2 (eShard t0)))))]⟩ (v_cT rfl rfl rfl (ble _ _ rfl) rfl fun e8 => (v_field_dp (a0 := 2) (cs := (eShard t0)) rfl ⟨_, rfl, be e8⟩ rfl (ble _ _ rfl) fo50_2 rfl)) ?_
  refine sq_cons ⟨_, [(.t 19, mg ((eqI t0.mID t1.mID) && (eqI t0.mEpoch t1.mEpoch)) (.d (.agg (eSpan t0.mSpan))))]⟩ (v_cT rfl rfl rfl (ble _ _ rfl) rfl fun e9 => (w_ldp (List.drop 2 (eShard t0)) (eSpan t0.mSpan) rfl ⟨_, rfl, be e9⟩ rfl (ble _ _ rfl) ag46 (gv e9) (ble _ _ rfl) rfl)) ?_
  refine sq_cons ⟨_, [(.t 20, mg ((eqI t0.mID t1.mID) && (eqI t0.mEpoch t1.mEpoch)) (.d (.dp (List.drop 2 (eShard t1)))))]⟩ (v_cT rfl rfl rfl (ble _ _ rfl) rfl fun e10 => (v_field_dp (a0 := 2) (cs := (eShard t1)) rfl ⟨_, rfl, be e10⟩ rfl (ble _ _ rfl) fo50_2 rfl)) ?_
  refine sq_cons ⟨_, [(.t 21, mg ((eqI t0.mID t1.mID) && (eqI t0.mEpoch t1.mEpoch)) (.d (.agg (eSpan t1.mSpan))))]⟩ (v_cT rfl rfl rfl (ble _ _ rfl) rfl fun e11 => (w_ldp (List.drop 2 (eShard t1)) (eSpan t1.mSpan) rfl ⟨_, rfl, be e11⟩ rfl (ble _ _ rfl) ag46 (gv e11) (ble _ _ rfl) rfl)) ?_
  refine sq_cons ⟨_, [(.t 22, mg ((eqI t0.mID t1.mID) && (eqI t0.mEpoch t1.mEpoch)) (bV (qSpan t0.mSpan t1.mSpan)))]⟩ (v_cT rfl rfl rfl (ble _ _ rfl) rfl fun e12 => (v_bin_eql (f := eSpan) rfl ⟨_, rfl, be e12⟩ rfl (ble _ _ rfl) (gv e12) (gv e12) rfl rfl eg46 (eq46 _ _))) ?_
  refine sq_cons ⟨_, [(.t 23, bV (((eqI t0.mID t1.mID) && (eqI t0.mEpoch t1.mEpoch)) && (qSpan t0.mSpan t1.mSpan)))]⟩ (v_pickB rfl trivial rfl (ble _ _ rfl) rfl (fun e13 => (gv e13)) (fun e14 => rfl) (pA _ _)) ?_
  refine sq_cons ⟨_, [(.t 24, bV (((eqI t0.mID t1.mID) && (eqI t0.mEpoch t1.mEpoch)) && (qSpan t0.mSpan t1.mSpan)))]⟩ (v_move (.inl rfl) trivial rfl (ble _ _ rfl) rfl) ?_
  refine sq_cons ⟨_, [(.t 25, mg (((eqI t0.mID t1.mID) && (eqI t0.mEpoch t1.mEpoch)) && (qSpan t0.mSpan t1.mSpan)) (.d (.dp (List.drop 4 (eShard t0)))))]⟩ (v_cT rfl rfl rfl (ble _ _ rfl) rfl fun e15 => (v_field_dp (a0 := 4) (cs := (eShard t0)) rfl ⟨_, rfl, be e15⟩ rfl (ble _ _ rfl) fo50_3 rfl)) ?_
  refine sq_cons ⟨_, [(.t 26, mg (((eqI t0.mID t1.mID) && (eqI t0.mEpoch t1.mEpoch)) && (qSpan t0.mSpan t1.mSpan)) (iV t0.mPhase))]⟩ (v_cT rfl rfl rfl (ble _ _ rfl) rfl fun e16 => (v_load_dp1 rfl ⟨_, rfl, be e16⟩ rfl (ble _ _ rfl) onT3 (gv e16) rfl)) ?_
  refine sq_cons ⟨_, [(.t 27, mg (((eqI t0.mID t1.mID) && (eqI t0.mEpoch t1.mEpoch)) && (qSpan t0.mSpan t1.mSpan)) (.d (.dp (List.drop 4 (eShard t1)))))]⟩ (v_cT rfl rfl rfl (ble _ _ rfl) rfl fun e17 => (v_field_dp (a0 := 4) (cs := (eShard t1)) rfl ⟨_, rfl, be e17⟩ rfl (ble _ _ rfl) fo50_3 rfl)) ?_
  refine sq_cons ⟨_, [(.t 28, mg (((eqI t0.mID t1.mID) && (eqI t0.mEpoch t1.mEpoch)) && (qSpan t0.mSpan t1.mSpan)) (iV t1.mPhase))]⟩ (v_cT rfl rfl rfl (ble _ _ rfl) rfl fun e18 => (v_load_dp1 rfl ⟨_, rfl, be e18⟩ rfl (ble _ _ rfl) onT3 (gv e18) rfl)) ?_
  refine sq_cons ⟨_, [(.t 29, mg (((eqI t0.mID t1.mID) && (eqI t0.mEpoch t1.mEpoch)) && (qSpan t0.mSpan t1.mSpan)) (bV (eqI t0.mPhase t1.mPhase)))]⟩ (v_cT rfl rfl rfl (ble _ _ rfl) rfl fun e19 => (v_bin rfl ⟨_, rfl, be e19⟩ rfl (ble _ _ rfl) (gv e19) (gv e19) (b_eql rfl))) ?_
  refine sq_cons ⟨_, [(.t 30, bV ((((eqI t0.mID t1.mID) && (eqI t0.mEpoch t1.mEpoch)) && (qSpan t0.mSpan t1.mSpan)) && (eqI t0.mPhase t1.mPhase)))]⟩ (v_pickB rfl trivial rfl (ble _ _ rfl) rfl (fun e20 => (gv e20)) (fun e21 => rfl) (pA _ _)) ?_
  refine sq_cons ⟨_, [(.t 31, bV ((((eqI t0.mID t1.mID) && (eqI t0.mEpoch t1.mEpoch)) && (qSpan t0.mSpan t1.mSpan)) && (eqI t0.mPhase t1.mPhase)))]⟩ (v_move (.inl rfl) trivial rfl (ble _ _ rfl) rfl) ?_
  refine sq_cons ⟨_, [(.t 32, mg ((((eqI t0.mID t1.mID) && (eqI t0.mEpoch t1.mEpoch)) && (qSpan t0.mSpan t1.mSpan)) && (eqI t0.mPhase t1.mPhase)) (.d (.dp (List.drop 5 (eShard t0)))))]⟩ (v_cT rfl rfl rfl (ble _ _ rfl) rfl fun e22 => (v_field_dp (a0 := 5) (cs := (eShard t0)) rfl ⟨_, rfl, be e22⟩ rfl (ble _ _ rfl) fo50_4 rfl)) ?_
  refine sq_cons ⟨_, [(.t 33, mg ((((eqI t0.mID t1.mID) && (eqI t0.mEpoch t1.mEpoch)) && (qSpan t0.mSpan t1.mSpan)) && (eqI t0.mPhase t1.mPhase)) (.d (.sl 2 (t0.mEntries.map eEntry))))]⟩ (v_cT rfl rfl rfl (ble _ _ rfl) rfl fun e23 => (v_load_dp1 rfl ⟨_, rfl, be e23⟩ rfl (ble _ _ rfl) onT47 (gv e23) rfl)) ?_
  refine sq_cons ⟨_, [(.t 34, mg ((((eqI t0.mID t1.mID) && (eqI t0.mEpoch t1.mEpoch)) && (qSpan t0.mSpan t1.mSpan)) && (eqI t0.mPhase t1.mPhase)) (.d (.dp (List.drop 5 (eShard t1)))))]⟩ (v_cT rfl rfl rfl (ble _ _ rfl) rfl fun e24 => (v_field_dp (a0 := 5) (cs := (eShard t1)) rfl ⟨_, rfl, be e24⟩ rfl (ble _ _ rfl) fo50_4 rfl)) ?_
  refine sq_cons ⟨_, [(.t 35, mg ((((eqI t0.mID t1.mID) && (eqI t0.mEpoch t1.mEpoch)) && (qSpan t0.mSpan t1.mSpan)) && (eqI t0.mPhase t1.mPhase)) (.d (.sl 2 (t1.mEntries.map eEntry))))]⟩ (v_cT rfl rfl rfl (ble _ _ rfl) rfl fun e25 => (v_load_dp1 rfl ⟨_, rfl, be e25⟩ rfl (ble _ _ rfl) onT47 (gv e25) rfl)) ?_
  obtain ⟨t36, c27, h⟩ := bpos h
  refine sq_cons ⟨_, [(.t 36, mg ((((eqI t0.mID t1.mID) && (eqI t0.mEpoch t1.mEpoch)) && (qSpan t0.mSpan t1.mSpan)) && (eqI t0.mPhase t1.mPhase)) (bV t36))]⟩ (v_cT rfl rfl rfl (ble _ _ rfl) rfl fun e26 => (w_call (ds := [(.sl 2 (t0.mEntries.map eEntry)), (.sl 2 (t1.mEntries.map eEntry))]) (caps := []) (l := [(.s (.bool t36))]) (s51 k t0.mEntries t1.mEntries _ (cpos e26 c27)) rfl rfl rfl en51 ⟨_, rfl, be e26⟩ rfl (ble _ _ rfl) (.inl ⟨rfl, rfl⟩) (cc (gv e26) (cc (gv e26) rfl)) rfl)) ?_
  refine sq_cons ⟨_, [(.t 37, bV (((((eqI t0.mID t1.mID) && (eqI t0.mEpoch t1.mEpoch)) && (qSpan t0.mSpan t1.mSpan)) && (eqI t0.mPhase t1.mPhase)) && t36))]⟩ (v_pickB rfl trivial rfl (ble _ _ rfl) rfl (fun e28 => (gv e28)) (fun e29 => rfl) (pA _ _)) ?_
  refine sq_cons ⟨_, [(.t 38, bV (((((eqI t0.mID t1.mID) && (eqI t0.mEpoch t1.mEpoch)) && (qSpan t0.mSpan t1.mSpan)) && (eqI t0.mPhase t1.mPhase)) && t36))]⟩ (v_move (.inl rfl) trivial rfl (ble _ _ rfl) rfl) ?_
  refine sq_cons ⟨_, [(.t 39, mg (((((eqI t0.mID t1.mID) && (eqI t0.mEpoch t1.mEpoch)) && (qSpan t0.mSpan t1.mSpan)) && (eqI t0.mPhase t1.mPhase)) && t36) (.d (.dp (List.drop 6 (eShard t0)))))]⟩ (v_cT rfl rfl rfl (ble _ _ rfl) rfl fun e30 => (v_field_dp (a0 := 6) (cs := (eShard t0)) rfl ⟨_, rfl, be e30⟩ rfl (ble _ _ rfl) fo50_5 rfl)) ?_
  refine sq_cons ⟨_, [(.t 40, mg (((((eqI t0.mID t1.mID) && (eqI t0.mEpoch t1.mEpoch)) && (qSpan t0.mSpan t1.mSpan)) && (eqI t0.mPhase t1.mPhase)) && t36) (.d (.agg (eStamp t0.mMark))))]⟩ (v_cT rfl rfl rfl (ble _ _ rfl) rfl fun e31 => (w_ldp (List.drop 6 (eShard t0)) (eStamp t0.mMark) rfl ⟨_, rfl, be e31⟩ rfl (ble _ _ rfl) ag23 (gv e31) (ble _ _ rfl) rfl)) ?_
  refine sq_cons ⟨_, [(.t 41, mg (((((eqI t0.mID t1.mID) && (eqI t0.mEpoch t1.mEpoch)) && (qSpan t0.mSpan t1.mSpan)) && (eqI t0.mPhase t1.mPhase)) && t36) (.d (.dp (List.drop 6 (eShard t1)))))]⟩ (v_cT rfl rfl rfl (ble _ _ rfl) rfl fun e32 => (v_field_dp (a0 := 6) (cs := (eShard t1)) rfl ⟨_, rfl, be e32⟩ rfl (ble _ _ rfl) fo50_5 rfl)) ?_
  refine sq_cons ⟨_, [(.t 42, mg (((((eqI t0.mID t1.mID) && (eqI t0.mEpoch t1.mEpoch)) && (qSpan t0.mSpan t1.mSpan)) && (eqI t0.mPhase t1.mPhase)) && t36) (.d (.agg (eStamp t1.mMark))))]⟩ (v_cT rfl rfl rfl (ble _ _ rfl) rfl fun e33 => (w_ldp (List.drop 6 (eShard t1)) (eStamp t1.mMark) rfl ⟨_, rfl, be e33⟩ rfl (ble _ _ rfl) ag23 (gv e33) (ble _ _ rfl) rfl)) ?_
  refine sq_cons ⟨_, [(.t 43, mg (((((eqI t0.mID t1.mID) && (eqI t0.mEpoch t1.mEpoch)) && (qSpan t0.mSpan t1.mSpan)) && (eqI t0.mPhase t1.mPhase)) && t36) (bV (qStamp t0.mMark t1.mMark)))]⟩ (v_cT rfl rfl rfl (ble _ _ rfl) rfl fun e34 => (v_bin_eql (f := eStamp) rfl ⟨_, rfl, be e34⟩ rfl (ble _ _ rfl) (gv e34) (gv e34) rfl rfl eg23 (eq23 _ _))) ?_
  refine sq_cons ⟨_, [(.t 44, bV ((((((eqI t0.mID t1.mID) && (eqI t0.mEpoch t1.mEpoch)) && (qSpan t0.mSpan t1.mSpan)) && (eqI t0.mPhase t1.mPhase)) && t36) && (qStamp t0.mMark t1.mMark)))]⟩ (v_pickB rfl trivial rfl (ble _ _ rfl) rfl (fun e35 => (gv e35)) (fun e36 => rfl) (pA _ _)) ?_
  refine sq_cons ⟨_, [(.t 45, bV ((((((eqI t0.mID t1.mID) && (eqI t0.mEpoch t1.mEpoch)) && (qSpan t0.mSpan t1.mSpan)) && (eqI t0.mPhase t1.mPhase)) && t36) && (qStamp t0.mMark t1.mMark)))]⟩ (v_move (.inl rfl) trivial rfl (ble _ _ rfl) rfl) ?_
  refine sq_cons ⟨_, [(.t 46, mg ((((((eqI t0.mID t1.mID) && (eqI t0.mEpoch t1.mEpoch)) && (qSpan t0.mSpan t1.mSpan)) && (eqI t0.mPhase t1.mPhase)) && t36) && (qStamp t0.mMark t1.mMark)) (.d (.dp (List.drop 9 (eShard t0)))))]⟩ (v_cT rfl rfl rfl (ble _ _ rfl) rfl fun e37 => (v_field_dp (a0 := 9) (cs := (eShard t0)) rfl ⟨_, rfl, be e37⟩ rfl (ble _ _ rfl) fo50_6 rfl)) ?_
  refine sq_cons ⟨_, [(.t 47, mg ((((((eqI t0.mID t1.mID) && (eqI t0.mEpoch t1.mEpoch)) && (qSpan t0.mSpan t1.mSpan)) && (eqI t0.mPhase t1.mPhase)) && t36) && (qStamp t0.mMark t1.mMark)) (.d (.agg (eStamp t0.mTop))))]⟩ (v_cT rfl rfl rfl (ble _ _ rfl) rfl fun e38 => (w_ldp (List.drop 9 (eShard t0)) (eStamp t0.mTop) rfl ⟨_, rfl, be e38⟩ rfl (ble _ _ rfl) ag23 (gv e38) (ble _ _ rfl) rfl)) ?_
  refine sq_cons ⟨_, [(.t 48, mg ((((((eqI t0.mID t1.mID) && (eqI t0.mEpoch t1.mEpoch)) && (qSpan t0.mSpan t1.mSpan)) && (eqI t0.mPhase t1.mPhase)) && t36) && (qStamp t0.mMark t1.mMark)) (.d (.dp (List.drop 9 (eShard t1)))))]⟩ (v_cT rfl rfl rfl (ble _ _ rfl) rfl fun e39 => (v_field_dp (a0 := 9) (cs := (eShard t1)) rfl ⟨_, rfl, be e39⟩ rfl (ble _ _ rfl) fo50_6 rfl)) ?_
  refine sq_cons ⟨_, [(.t 49, mg ((((((eqI t0.mID t1.mID) && (eqI t0.mEpoch t1.mEpoch)) && (qSpan t0.mSpan t1.mSpan)) && (eqI t0.mPhase t1.mPhase)) && t36) && (qStamp t0.mMark t1.mMark)) (.d (.agg (eStamp t1.mTop))))]⟩ (v_cT rfl rfl rfl (ble _ _ rfl) rfl fun e40 => (w_ldp (List.drop 9 (eShard t1)) (eStamp t1.mTop) rfl ⟨_, rfl, be e40⟩ rfl (ble _ _ rfl) ag23 (gv e40) (ble _ _ rfl) rfl)) ?_
  refine sq_cons ⟨_, [(.t 50, mg ((((((eqI t0.mID t1.mID) && (eqI t0.mEpoch t1.mEpoch)) && (qSpan t0.mSpan t1.mSpan)) && (eqI t0.mPhase t1.mPhase)) && t36) && (qStamp t0.mMark t1.mMark)) (bV (qStamp t0.mTop t1.mTop)))]⟩ (v_cT rfl rfl rfl (ble _ _ rfl) rfl fun e41 => (v_bin_eql (f := eStamp) rfl ⟨_, rfl, be e41⟩ rfl (ble _ _ rfl) (gv e41) (gv e41) rfl rfl eg23 (eq23 _ _))) ?_
  refine sq_cons ⟨_, [(.t 51, bV (((((((eqI t0.mID t1.mID) && (eqI t0.mEpoch t1.mEpoch)) && (qSpan t0.mSpan t1.mSpan)) && (eqI t0.mPhase t1.mPhase)) && t36) && (qStamp t0.mMark t1.mMark)) && (qStamp t0.mTop t1.mTop)))]⟩ (v_pickB rfl trivial rfl (ble _ _ rfl) rfl (fun e42 => (gv e42)) (fun e43 => rfl) (pA _ _)) ?_
  refine sq_cons ⟨_, [(.t 52, bV (((((((eqI t0.mID t1.mID) && (eqI t0.mEpoch t1.mEpoch)) && (qSpan t0.mSpan t1.mSpan)) && (eqI t0.mPhase t1.mPhase)) && t36) && (qStamp t0.mMark t1.mMark)) && (qStamp t0.mTop t1.mTop)))]⟩ (v_move (.inl rfl) trivial rfl (ble _ _ rfl) rfl) ?_
  refine sq_cons ⟨_, [(.t 53, mg (((((((eqI t0.mID t1.mID) && (eqI t0.mEpoch t1.mEpoch)) && (qSpan t0.mSpan t1.mSpan)) && (eqI t0.mPhase t1.mPhase)) && t36) && (qStamp t0.mMark t1.mMark)) && (qStamp t0.mTop t1.mTop)) (.d (.dp (List.drop 12 (eShard t0)))))]⟩ (v_cT rfl rfl rfl (ble _ _ rfl) rfl fun e44 => (v_field_dp (a0 := 12) (cs := (eShard t0)) rfl ⟨_, rfl, be e44⟩ rfl (ble _ _ rfl) fo50_7 rfl)) ?_
  refine sq_cons ⟨_, [(.t 54, mg (((((((eqI t0.mID t1.mID) && (eqI t0.mEpoch t1.mEpoch)) && (qSpan t0.mSpan t1.mSpan)) && (eqI t0.mPhase t1.mPhase)) && t36) && (qStamp t0.mMark t1.mMark)) && (qStamp t0.mTop t1.mTop)) (.d (.sl 11 (t0.mDone.map eDone))))]⟩ (v_cT rfl rfl rfl (ble _ _ rfl) rfl fun e45 => (v_load_dp1 rfl ⟨_, rfl, be e45⟩ rfl (ble _ _ rfl) onT48 (gv e45) rfl)) ?_
  refine sq_cons ⟨_, [(.t 55, mg (((((((eqI t0.mID t1.mID) && (eqI t0.mEpoch t1.mEpoch)) && (qSpan t0.mSpan t1.mSpan)) && (eqI t0.mPhase t1.mPhase)) && t36) && (qStamp t0.mMark t1.mMark)) && (qStamp t0.mTop t1.mTop)) (.d (.dp (List.drop 12 (eShard t1)))))]⟩ (v_cT rfl rfl rfl (ble _ _ rfl) rfl fun e46 => (v_field_dp (a0 := 12) (cs := (eShard t1)) rfl ⟨_, rfl, be e46⟩ rfl (ble _ _ rfl) fo50_7 rfl)) ?_
  refine sq_cons ⟨_, [(.t 56, mg (((((((eqI t0.mID t1.mID) && (eqI t0.mEpoch t1.mEpoch)) && (qSpan t0.mSpan t1.mSpan)) && (eqI t0.mPhase t1.mPhase)) && t36) && (qStamp t0.mMark t1.mMark)) && (qStamp t0.mTop t1.mTop)) (.d (.sl 11 (t1.mDone.map eDone))))]⟩ (v_cT rfl rfl rfl (ble _ _ rfl) rfl fun e47 => (v_load_dp1 rfl ⟨_, rfl, be e47⟩ rfl (ble _ _ rfl) onT48 (gv e47) rfl)) ?_
  obtain ⟨t57, c49, h⟩ := bpos h
  refine sq_cons ⟨_, [(.t 57, mg (((((((eqI t0.mID t1.mID) && (eqI t0.mEpoch t1.mEpoch)) && (qSpan t0.mSpan t1.mSpan)) && (eqI t0.mPhase t1.mPhase)) && t36) && (qStamp t0.mMark t1.mMark)) && (qStamp t0.mTop t1.mTop)) (bV t57))]⟩ (v_cT rfl rfl rfl (ble _ _ rfl) rfl fun e48 => (w_call (ds := [(.sl 11 (t0.mDone.map eDone)), (.sl 11 (t1.mDone.map eDone))]) (caps := []) (l := [(.s (.bool t57))]) (s52 k t0.mDone t1.mDone _ (cpos e48 c49)) rfl rfl rfl en52 ⟨_, rfl, be e48⟩ rfl (ble _ _ rfl) (.inl ⟨rfl, rfl⟩) (cc (gv e48) (cc (gv e48) rfl)) rfl)) ?_
  refine sq_cons ⟨_, [(.t 58, bV ((((((((eqI t0.mID t1.mID) && (eqI t0.mEpoch t1.mEpoch)) && (qSpan t0.mSpan t1.mSpan)) && (eqI t0.mPhase t1.mPhase)) && t36) && (qStamp t0.mMark t1.mMark)) && (qStamp t0.mTop t1.mTop)) && t57))]⟩ (v_pickB rfl trivial rfl (ble _ _ rfl) rfl (fun e50 => (gv e50)) (fun e51 => rfl) (pA _ _)) ?_
  refine sq_cons ⟨_, [(.t 59, bV ((((((((eqI t0.mID t1.mID) && (eqI t0.mEpoch t1.mEpoch)) && (qSpan t0.mSpan t1.mSpan)) && (eqI t0.mPhase t1.mPhase)) && t36) && (qStamp t0.mMark t1.mMark)) && (qStamp t0.mTop t1.mTop)) && t57))]⟩ (v_move (.inl rfl) trivial rfl (ble _ _ rfl) rfl) ?_
  refine sq_cons ⟨_, [(.t 60, mg ((((((((eqI t0.mID t1.mID) && (eqI t0.mEpoch t1.mEpoch)) && (qSpan t0.mSpan t1.mSpan)) && (eqI t0.mPhase t1.mPhase)) && t36) && (qStamp t0.mMark t1.mMark)) && (qStamp t0.mTop t1.mTop)) && t57) (.d (.dp (List.drop 13 (eShard t0)))))]⟩ (v_cT rfl rfl rfl (ble _ _ rfl) rfl fun e52 => (v_field_dp (a0 := 13) (cs := (eShard t0)) rfl ⟨_, rfl, be e52⟩ rfl (ble _ _ rfl) fo50_8 rfl)) ?_
  refine sq_cons ⟨_, [(.t 61, mg ((((((((eqI t0.mID t1.mID) && (eqI t0.mEpoch t1.mEpoch)) && (qSpan t0.mSpan t1.mSpan)) && (eqI t0.mPhase t1.mPhase)) && t36) && (qStamp t0.mMark t1.mMark)) && (qStamp t0.mTop t1.mTop)) && t57) (iV t0.mHold))]⟩ (v_cT rfl rfl rfl (ble _ _ rfl) rfl fun e53 => (v_load_dp1 rfl ⟨_, rfl, be e53⟩ rfl (ble _ _ rfl) onT3 (gv e53) rfl)) ?_
  refine sq_cons ⟨_, [(.t 62, mg ((((((((eqI t0.mID t1.mID) && (eqI t0.mEpoch t1.mEpoch)) && (qSpan t0.mSpan t1.mSpan)) && (eqI t0.mPhase t1.mPhase)) && t36) && (qStamp t0.mMark t1.mMark)) && (qStamp t0.mTop t1.mTop)) && t57) (.d (.dp (List.drop 13 (eShard t1)))))]⟩ (v_cT rfl rfl rfl (ble _ _ rfl) rfl fun e54 => (v_field_dp (a0 := 13) (cs := (eShard t1)) rfl ⟨_, rfl, be e54⟩ rfl (ble _ _ rfl) fo50_8 rfl)) ?_
  refine sq_cons ⟨_, [(.t 63, mg ((((((((eqI t0.mID t1.mID) && (eqI t0.mEpoch t1.mEpoch)) && (qSpan t0.mSpan t1.mSpan)) && (eqI t0.mPhase t1.mPhase)) && t36) && (qStamp t0.mMark t1.mMark)) && (qStamp t0.mTop t1.mTop)) && t57) (iV t1.mHold))]⟩ (v_cT rfl rfl rfl (ble _ _ rfl) rfl fun e55 => (v_load_dp1 rfl ⟨_, rfl, be e55⟩ rfl (ble _ _ rfl) onT3 (gv e55) rfl)) ?_
  refine sq_cons ⟨_, [(.t 64, mg ((((((((eqI t0.mID t1.mID) && (eqI t0.mEpoch t1.mEpoch)) && (qSpan t0.mSpan t1.mSpan)) && (eqI t0.mPhase t1.mPhase)) && t36) && (qStamp t0.mMark t1.mMark)) && (qStamp t0.mTop t1.mTop)) && t57) (bV (eqI t0.mHold t1.mHold)))]⟩ (v_cT rfl rfl rfl (ble _ _ rfl) rfl fun e56 => (v_bin rfl ⟨_, rfl, be e56⟩ rfl (ble _ _ rfl) (gv e56) (gv e56) (b_eql rfl))) ?_
  refine sq_cons ⟨_, [(.t 65, bV (((((((((eqI t0.mID t1.mID) && (eqI t0.mEpoch t1.mEpoch)) && (qSpan t0.mSpan t1.mSpan)) && (eqI t0.mPhase t1.mPhase)) && t36) && (qStamp t0.mMark t1.mMark)) && (qStamp t0.mTop t1.mTop)) && t57) && (eqI t0.mHold t1.mHold)))]⟩ (v_pickB rfl trivial rfl (ble _ _ rfl) rfl (fun e57 => (gv e57)) (fun e58 => rfl) (pA _ _)) ?_
  refine sq_cons ⟨_, [(.t 66, bV (((((((((eqI t0.mID t1.mID) && (eqI t0.mEpoch t1.mEpoch)) && (qSpan t0.mSpan t1.mSpan)) && (eqI t0.mPhase t1.mPhase)) && t36) && (qStamp t0.mMark t1.mMark)) && (qStamp t0.mTop t1.mTop)) && t57) && (eqI t0.mHold t1.mHold)))]⟩ (v_move (.inl rfl) trivial rfl (ble _ _ rfl) rfl) ?_
  refine sq_cons ⟨_, [(.t 67, mg (((((((((eqI t0.mID t1.mID) && (eqI t0.mEpoch t1.mEpoch)) && (qSpan t0.mSpan t1.mSpan)) && (eqI t0.mPhase t1.mPhase)) && t36) && (qStamp t0.mMark t1.mMark)) && (qStamp t0.mTop t1.mTop)) && t57) && (eqI t0.mHold t1.mHold)) (.d (.dp (List.drop 14 (eShard t0)))))]⟩ (v_cT rfl rfl rfl (ble _ _ rfl) rfl fun e59 => (v_field_dp (a0 := 14) (cs := (eShard t0)) rfl ⟨_, rfl, be e59⟩ rfl (ble _ _ rfl) fo50_9 rfl)) ?_
  refine sq_cons ⟨_, [(.t 68, mg (((((((((eqI t0.mID t1.mID) && (eqI t0.mEpoch t1.mEpoch)) && (qSpan t0.mSpan t1.mSpan)) && (eqI t0.mPhase t1.mPhase)) && t36) && (qStamp t0.mMark t1.mMark)) && (qStamp t0.mTop t1.mTop)) && t57) && (eqI t0.mHold t1.mHold)) (iV t0.mSeen))]⟩ (v_cT rfl rfl rfl (ble _ _ rfl) rfl fun e60 => (v_load_dp1 rfl ⟨_, rfl, be e60⟩ rfl (ble _ _ rfl) onT3 (gv e60) rfl)) ?_
  refine sq_cons ⟨_, [(.t 69, mg (((((((((eqI t0.mID t1.mID) && (eqI t0.mEpoch t1.mEpoch)) && (qSpan t0.mSpan t1.mSpan)) && (eqI t0.mPhase t1.mPhase)) && t36) && (qStamp t0.mMark t1.mMark)) && (qStamp t0.mTop t1.mTop)) && t57) && (eqI t0.mHold t1.mHold)) (.d (.dp (List.drop 14 (eShard t1)))))]⟩ (v_cT rfl rfl rfl (ble _ _ rfl) rfl fun e61 => (v_field_dp (a0 := 14) (cs := (eShard t1)) rfl ⟨_, rfl, be e61⟩ rfl (ble _ _ rfl) fo50_9 rfl)) ?_
  refine sq_cons ⟨_, [(.t 70, mg (((((((((eqI t0.mID t1.mID) && (eqI t0.mEpoch t1.mEpoch)) && (qSpan t0.mSpan t1.mSpan)) && (eqI t0.mPhase t1.mPhase)) && t36) && (qStamp t0.mMark t1.mMark)) && (qStamp t0.mTop t1.mTop)) && t57) && (eqI t0.mHold t1.mHold)) (iV t1.mSeen))]⟩ (v_cT rfl rfl rfl (ble _ _ rfl) rfl fun e62 => (v_load_dp1 rfl ⟨_, rfl, be e62⟩ rfl (ble _ _ rfl) onT3 (gv e62) rfl)) ?_
  refine sq_cons ⟨_, [(.t 71, mg (((((((((eqI t0.mID t1.mID) && (eqI t0.mEpoch t1.mEpoch)) && (qSpan t0.mSpan t1.mSpan)) && (eqI t0.mPhase t1.mPhase)) && t36) && (qStamp t0.mMark t1.mMark)) && (qStamp t0.mTop t1.mTop)) && t57) && (eqI t0.mHold t1.mHold)) (bV (eqI t0.mSeen t1.mSeen)))]⟩ (v_cT rfl rfl rfl (ble _ _ rfl) rfl fun e63 => (v_bin rfl ⟨_, rfl, be e63⟩ rfl (ble _ _ rfl) (gv e63) (gv e63) (b_eql rfl))) ?_
  refine sq_cons ⟨_, [(.t 72, bV ((((((((((eqI t0.mID t1.mID) && (eqI t0.mEpoch t1.mEpoch)) && (qSpan t0.mSpan t1.mSpan)) && (eqI t0.mPhase t1.mPhase)) && t36) && (qStamp t0.mMark t1.mMark)) && (qStamp t0.mTop t1.mTop)) && t57) && (eqI t0.mHold t1.mHold)) && (eqI t0.mSeen t1.mSeen)))]⟩ (v_pickB rfl trivial rfl (ble _ _ rfl) rfl (fun e64 => (gv e64)) (fun e65 => rfl) (pA _ _)) ?_
  refine sq_cons ⟨_, [(.t 73, bV ((((((((((eqI t0.mID t1.mID) && (eqI t0.mEpoch t1.mEpoch)) && (qSpan t0.mSpan t1.mSpan)) && (eqI t0.mPhase t1.mPhase)) && t36) && (qStamp t0.mMark t1.mMark)) && (qStamp t0.mTop t1.mTop)) && t57) && (eqI t0.mHold t1.mHold)) && (eqI t0.mSeen t1.mSeen)))]⟩ (v_move (.inl rfl) trivial rfl (ble _ _ rfl) rfl) ?_
  refine sq_cons ⟨_, [(.t 74, mg ((((((((((eqI t0.mID t1.mID) && (eqI t0.mEpoch t1.mEpoch)) && (qSpan t0.mSpan t1.mSpan)) && (eqI t0.mPhase t1.mPhase)) && t36) && (qStamp t0.mMark t1.mMark)) && (qStamp t0.mTop t1.mTop)) && t57) && (eqI t0.mHold t1.mHold)) && (eqI t0.mSeen t1.mSeen)) (.d (.dp (List.drop 15 (eShard t0)))))]⟩ (v_cT rfl rfl rfl (ble _ _ rfl) rfl fun e66 => (v_field_dp (a0 := 15) (cs := (eShard t0)) rfl ⟨_, rfl, be e66⟩ rfl (ble _ _ rfl) fo50_10 rfl)) ?_
  refine sq_cons ⟨_, [(.t 75, mg ((((((((((eqI t0.mID t1.mID) && (eqI t0.mEpoch t1.mEpoch)) && (qSpan t0.mSpan t1.mSpan)) && (eqI t0.mPhase t1.mPhase)) && t36) && (qStamp t0.mMark t1.mMark)) && (qStamp t0.mTop t1.mTop)) && t57) && (eqI t0.mHold t1.mHold)) && (eqI t0.mSeen t1.mSeen)) (iV t0.mMove))]⟩ (v_cT rfl rfl rfl (ble _ _ rfl) rfl fun e67 => (v_load_dp1 rfl ⟨_, rfl, be e67⟩ rfl (ble _ _ rfl) onT3 (gv e67) rfl)) ?_
  refine sq_cons ⟨_, [(.t 76, mg ((((((((((eqI t0.mID t1.mID) && (eqI t0.mEpoch t1.mEpoch)) && (qSpan t0.mSpan t1.mSpan)) && (eqI t0.mPhase t1.mPhase)) && t36) && (qStamp t0.mMark t1.mMark)) && (qStamp t0.mTop t1.mTop)) && t57) && (eqI t0.mHold t1.mHold)) && (eqI t0.mSeen t1.mSeen)) (.d (.dp (List.drop 15 (eShard t1)))))]⟩ (v_cT rfl rfl rfl (ble _ _ rfl) rfl fun e68 => (v_field_dp (a0 := 15) (cs := (eShard t1)) rfl ⟨_, rfl, be e68⟩ rfl (ble _ _ rfl) fo50_10 rfl)) ?_
  refine sq_cons ⟨_, [(.t 77, mg ((((((((((eqI t0.mID t1.mID) && (eqI t0.mEpoch t1.mEpoch)) && (qSpan t0.mSpan t1.mSpan)) && (eqI t0.mPhase t1.mPhase)) && t36) && (qStamp t0.mMark t1.mMark)) && (qStamp t0.mTop t1.mTop)) && t57) && (eqI t0.mHold t1.mHold)) && (eqI t0.mSeen t1.mSeen)) (iV t1.mMove))]⟩ (v_cT rfl rfl rfl (ble _ _ rfl) rfl fun e69 => (v_load_dp1 rfl ⟨_, rfl, be e69⟩ rfl (ble _ _ rfl) onT3 (gv e69) rfl)) ?_
  refine sq_cons ⟨_, [(.t 78, mg ((((((((((eqI t0.mID t1.mID) && (eqI t0.mEpoch t1.mEpoch)) && (qSpan t0.mSpan t1.mSpan)) && (eqI t0.mPhase t1.mPhase)) && t36) && (qStamp t0.mMark t1.mMark)) && (qStamp t0.mTop t1.mTop)) && t57) && (eqI t0.mHold t1.mHold)) && (eqI t0.mSeen t1.mSeen)) (bV (eqI t0.mMove t1.mMove)))]⟩ (v_cT rfl rfl rfl (ble _ _ rfl) rfl fun e70 => (v_bin rfl ⟨_, rfl, be e70⟩ rfl (ble _ _ rfl) (gv e70) (gv e70) (b_eql rfl))) ?_
  refine sq_cons ⟨_, [(.t 79, bV (((((((((((eqI t0.mID t1.mID) && (eqI t0.mEpoch t1.mEpoch)) && (qSpan t0.mSpan t1.mSpan)) && (eqI t0.mPhase t1.mPhase)) && t36) && (qStamp t0.mMark t1.mMark)) && (qStamp t0.mTop t1.mTop)) && t57) && (eqI t0.mHold t1.mHold)) && (eqI t0.mSeen t1.mSeen)) && (eqI t0.mMove t1.mMove)))]⟩ (v_pickB rfl trivial rfl (ble _ _ rfl) rfl (fun e71 => (gv e71)) (fun e72 => rfl) (pA _ _)) ?_
  refine sq_cons ⟨_, [(.t 80, bV (((((((((((eqI t0.mID t1.mID) && (eqI t0.mEpoch t1.mEpoch)) && (qSpan t0.mSpan t1.mSpan)) && (eqI t0.mPhase t1.mPhase)) && t36) && (qStamp t0.mMark t1.mMark)) && (qStamp t0.mTop t1.mTop)) && t57) && (eqI t0.mHold t1.mHold)) && (eqI t0.mSeen t1.mSeen)) && (eqI t0.mMove t1.mMove)))]⟩ (v_move (.inl rfl) trivial rfl (ble _ _ rfl) rfl) ?_
  refine sq_cons ⟨_, [(.t 81, mg (((((((((((eqI t0.mID t1.mID) && (eqI t0.mEpoch t1.mEpoch)) && (qSpan t0.mSpan t1.mSpan)) && (eqI t0.mPhase t1.mPhase)) && t36) && (qStamp t0.mMark t1.mMark)) && (qStamp t0.mTop t1.mTop)) && t57) && (eqI t0.mHold t1.mHold)) && (eqI t0.mSeen t1.mSeen)) && (eqI t0.mMove t1.mMove)) (.d (.dp (List.drop 16 (eShard t0)))))]⟩ (v_cT rfl rfl rfl (ble _ _ rfl) rfl fun e73 => (v_field_dp (a0 := 16) (cs := (eShard t0)) rfl ⟨_, rfl, be e73⟩ rfl (ble _ _ rfl) fo50_11 rfl)) ?_
  refine sq_cons ⟨_, [(.t 82, mg (((((((((((eqI t0.mID t1.mID) && (eqI t0.mEpoch t1.mEpoch)) && (qSpan t0.mSpan t1.mSpan)) && (eqI t0.mPhase t1.mPhase)) && t36) && (qStamp t0.mMark t1.mMark)) && (qStamp t0.mTop t1.mTop)) && t57) && (eqI t0.mHold t1.mHold)) && (eqI t0.mSeen t1.mSeen)) && (eqI t0.mMove t1.mMove)) (iV t0.mClosed))]⟩ (v_cT rfl rfl rfl (ble _ _ rfl) rfl fun e74 => (v_load_dp1 rfl ⟨_, rfl, be e74⟩ rfl (ble _ _ rfl) onT3 (gv e74) rfl)) ?_
  refine sq_cons ⟨_, [(.t 83, mg (((((((((((eqI t0.mID t1.mID) && (eqI t0.mEpoch t1.mEpoch)) && (qSpan t0.mSpan t1.mSpan)) && (eqI t0.mPhase t1.mPhase)) && t36) && (qStamp t0.mMark t1.mMark)) && (qStamp t0.mTop t1.mTop)) && t57) && (eqI t0.mHold t1.mHold)) && (eqI t0.mSeen t1.mSeen)) && (eqI t0.mMove t1.mMove)) (.d (.dp (List.drop 16 (eShard t1)))))]⟩ (v_cT rfl rfl rfl (ble _ _ rfl) rfl fun e75 => (v_field_dp (a0 := 16) (cs := (eShard t1)) rfl ⟨_, rfl, be e75⟩ rfl (ble _ _ rfl) fo50_11 rfl)) ?_
  refine sq_cons ⟨_, [(.t 84, mg (((((((((((eqI t0.mID t1.mID) && (eqI t0.mEpoch t1.mEpoch)) && (qSpan t0.mSpan t1.mSpan)) && (eqI t0.mPhase t1.mPhase)) && t36) && (qStamp t0.mMark t1.mMark)) && (qStamp t0.mTop t1.mTop)) && t57) && (eqI t0.mHold t1.mHold)) && (eqI t0.mSeen t1.mSeen)) && (eqI t0.mMove t1.mMove)) (iV t1.mClosed))]⟩ (v_cT rfl rfl rfl (ble _ _ rfl) rfl fun e76 => (v_load_dp1 rfl ⟨_, rfl, be e76⟩ rfl (ble _ _ rfl) onT3 (gv e76) rfl)) ?_
  refine sq_cons ⟨_, [(.t 85, mg (((((((((((eqI t0.mID t1.mID) && (eqI t0.mEpoch t1.mEpoch)) && (qSpan t0.mSpan t1.mSpan)) && (eqI t0.mPhase t1.mPhase)) && t36) && (qStamp t0.mMark t1.mMark)) && (qStamp t0.mTop t1.mTop)) && t57) && (eqI t0.mHold t1.mHold)) && (eqI t0.mSeen t1.mSeen)) && (eqI t0.mMove t1.mMove)) (bV (eqI t0.mClosed t1.mClosed)))]⟩ (v_cT rfl rfl rfl (ble _ _ rfl) rfl fun e77 => (v_bin rfl ⟨_, rfl, be e77⟩ rfl (ble _ _ rfl) (gv e77) (gv e77) (b_eql rfl))) ?_
  refine sq_cons ⟨_, [(.t 86, bV ((((((((((((eqI t0.mID t1.mID) && (eqI t0.mEpoch t1.mEpoch)) && (qSpan t0.mSpan t1.mSpan)) && (eqI t0.mPhase t1.mPhase)) && t36) && (qStamp t0.mMark t1.mMark)) && (qStamp t0.mTop t1.mTop)) && t57) && (eqI t0.mHold t1.mHold)) && (eqI t0.mSeen t1.mSeen)) && (eqI t0.mMove t1.mMove)) && (eqI t0.mClosed t1.mClosed)))]⟩ (v_pickB rfl trivial rfl (ble _ _ rfl) rfl (fun e78 => (gv e78)) (fun e79 => rfl) (pA _ _)) ?_
  refine sq_cons ⟨_, [(.t 4, bV ((((((((((((eqI t0.mID t1.mID) && (eqI t0.mEpoch t1.mEpoch)) && (qSpan t0.mSpan t1.mSpan)) && (eqI t0.mPhase t1.mPhase)) && t36) && (qStamp t0.mMark t1.mMark)) && (qStamp t0.mTop t1.mTop)) && t57) && (eqI t0.mHold t1.mHold)) && (eqI t0.mSeen t1.mSeen)) && (eqI t0.mMove t1.mMove)) && (eqI t0.mClosed t1.mClosed)))]⟩ (v_move (.inr rfl) trivial rfl (ble _ _ rfl) rfl) ?_
  refine sq_nil ?_
  refine ht_ret ?_
  cases h
  exact ret1 rfl (.tmp rfl)
set_option maxRecDepth 100000 in
set_option maxHeartbeats 4000000 in
theorem s10 (k : Nat) (t0 : Cell) (t1 : Cell) (r : Bool) (h : F10 k t0 t1 = some r) : Awp.Spec Tryd.prog amb 10 [(.agg (eCell t0)), (.agg (eCell t1))] (.ds [(.s (.bool r))]) := by
  rw [F10] at h
  refine spec_of Tryd.func10 rfl (ble _ _ rfl) fun w0 ok0 lt0 hA => ?_
  refine ht_seq ?_
  refine ht_region ?_
  refine sq_cons ⟨_, [(.t 2, .d (.dp (eCell t0)))]⟩ (v_box_d (cs := (eCell t0)) rfl trivial rfl (ble _ _ rfl) rfl rfl (ones_of rfl)) ?_
  refine sq_cons ⟨_, [(.t 3, .d (.dp (eCell t1)))]⟩ (v_box_d (cs := (eCell t1)) rfl trivial rfl (ble _ _ rfl) rfl rfl (ones_of rfl)) ?_
  refine sq_cons ⟨_, [(.t 4, bV false)]⟩ (v_move (.inr rfl) trivial rfl (ble _ _ rfl) rfl) ?_
  refine sq_nil ?_
  refine ht_seq ?_
  refine ht_seq ?_
  refine ht_region ?_
  refine sq_cons ⟨_, [(.t 6, .d (.dp (eCell t0)))]⟩ (v_field_dp (a0 := 0) (cs := (eCell t0)) rfl trivial rfl (ble _ _ rfl) fo30_0 rfl) ?_
  refine sq_cons ⟨_, [(.t 7, .d (.sl 17 (t0.mShards.map eShard)))]⟩ (v_load_dp1 rfl trivial rfl (ble _ _ rfl) onT28 rfl rfl) ?_
  refine sq_cons ⟨_, [(.t 8, iV (t0.mShards.length : Int))]⟩ (w_len t0.mShards eShard rfl rfl trivial rfl (ble _ _ rfl) slT28 rfl) ?_
  refine sq_cons ⟨_, [(.t 9, .d (.dp (eCell t1)))]⟩ (v_field_dp (a0 := 0) (cs := (eCell t1)) rfl trivial rfl (ble _ _ rfl) fo30_0 rfl) ?_
  refine sq_cons ⟨_, [(.t 10, .d (.sl 17 (t1.mShards.map eShard)))]⟩ (v_load_dp1 rfl trivial rfl (ble _ _ rfl) onT28 rfl rfl) ?_
  refine sq_cons ⟨_, [(.t 11, iV (t1.mShards.length : Int))]⟩ (w_len t1.mShards eShard rfl rfl trivial rfl (ble _ _ rfl) slT28 rfl) ?_
  refine sq_cons ⟨_, [(.t 12, bV (!eqI (t0.mShards.length : Int) (t1.mShards.length : Int)))]⟩ (v_bin rfl trivial rfl (ble _ _ rfl) rfl rfl (b_neq rfl)) ?_
  refine sq_cons ⟨_, [(.t 13, bV (!eqI (t0.mShards.length : Int) (t1.mShards.length : Int)))]⟩ (v_move (.inl rfl) trivial rfl (ble _ _ rfl) rfl) ?_
  refine sq_cons ⟨_, [(.t 14, mg (!(!eqI (t0.mShards.length : Int) (t1.mShards.length : Int))) (.d (.dp (List.drop 1 (eCell t0)))))]⟩ (v_cF rfl rfl rfl (ble _ _ rfl) rfl fun e1 => (v_field_dp (a0 := 1) (cs := (eCell t0)) rfl ⟨_, rfl, be e1⟩ rfl (ble _ _ rfl) fo30_1 rfl)) ?_
  refine sq_cons ⟨_, [(.t 15, mg (!(!eqI (t0.mShards.length : Int) (t1.mShards.length : Int))) (.d (.agg (eStamp t0.mTop))))]⟩ (v_cF rfl rfl rfl (ble _ _ rfl) rfl fun e2 => (w_ldp (List.drop 1 (eCell t0)) (eStamp t0.mTop) rfl ⟨_, rfl, be e2⟩ rfl (ble _ _ rfl) ag23 (gv (nF e2)) (ble _ _ rfl) rfl)) ?_
  refine sq_cons ⟨_, [(.t 16, mg (!(!eqI (t0.mShards.length : Int) (t1.mShards.length : Int))) (.d (.dp (List.drop 1 (eCell t1)))))]⟩ (v_cF rfl rfl rfl (ble _ _ rfl) rfl fun e3 => (v_field_dp (a0 := 1) (cs := (eCell t1)) rfl ⟨_, rfl, be e3⟩ rfl (ble _ _ rfl) fo30_1 rfl)) ?_
  refine sq_cons ⟨_, [(.t 17, mg (!(!eqI (t0.mShards.length : Int) (t1.mShards.length : Int))) (.d (.agg (eStamp t1.mTop))))]⟩ (v_cF rfl rfl rfl (ble _ _ rfl) rfl fun e4 => (w_ldp (List.drop 1 (eCell t1)) (eStamp t1.mTop) rfl ⟨_, rfl, be e4⟩ rfl (ble _ _ rfl) ag23 (gv (nF e4)) (ble _ _ rfl) rfl)) ?_
  refine sq_cons ⟨_, [(.t 18, mg (!(!eqI (t0.mShards.length : Int) (t1.mShards.length : Int))) (bV (!(qStamp t0.mTop t1.mTop))))]⟩ (v_cF rfl rfl rfl (ble _ _ rfl) rfl fun e5 => (v_bin_neq (f := eStamp) rfl ⟨_, rfl, be e5⟩ rfl (ble _ _ rfl) (gv (nF e5)) (gv (nF e5)) rfl rfl eg23 (eq23 _ _))) ?_
  refine sq_cons ⟨_, [(.t 19, bV ((!eqI (t0.mShards.length : Int) (t1.mShards.length : Int)) || (!(qStamp t0.mTop t1.mTop))))]⟩ (v_pickB rfl trivial rfl (ble _ _ rfl) rfl (fun e6 => rfl) (fun e7 => (gv (nF e7))) (pO _ _)) ?_
  refine sq_cons ⟨_, [(.t 20, bV ((!eqI (t0.mShards.length : Int) (t1.mShards.length : Int)) || (!(qStamp t0.mTop t1.mTop))))]⟩ (v_move (.inl rfl) trivial rfl (ble _ _ rfl) rfl) ?_
  refine sq_cons ⟨_, [(.t 21, mg (!((!eqI (t0.mShards.length : Int) (t1.mShards.length : Int)) || (!(qStamp t0.mTop t1.mTop)))) (.d (.dp (List.drop 4 (eCell t0)))))]⟩ (v_cF rfl rfl rfl (ble _ _ rfl) rfl fun e8 => (v_field_dp (a0 := 4) (cs := (eCell t0)) rfl ⟨_, rfl, be e8⟩ rfl (ble _ _ rfl) fo30_2 rfl)) ?_
  refine sq_cons ⟨_, [(.t 22, mg (!((!eqI (t0.mShards.length : Int) (t1.mShards.length : Int)) || (!(qStamp t0.mTop t1.mTop)))) (iV t0.mDropped))]⟩ (v_cF rfl rfl rfl (ble _ _ rfl) rfl fun e9 => (v_load_dp1 rfl ⟨_, rfl, be e9⟩ rfl (ble _ _ rfl) onT3 (gv (nF e9)) rfl)) ?_
  refine sq_cons ⟨_, [(.t 23, mg (!((!eqI (t0.mShards.length : Int) (t1.mShards.length : Int)) || (!(qStamp t0.mTop t1.mTop)))) (.d (.dp (List.drop 4 (eCell t1)))))]⟩ (v_cF rfl rfl rfl (ble _ _ rfl) rfl fun e10 => (v_field_dp (a0 := 4) (cs := (eCell t1)) rfl ⟨_, rfl, be e10⟩ rfl (ble _ _ rfl) fo30_2 rfl)) ?_
  refine sq_cons ⟨_, [(.t 24, mg (!((!eqI (t0.mShards.length : Int) (t1.mShards.length : Int)) || (!(qStamp t0.mTop t1.mTop)))) (iV t1.mDropped))]⟩ (v_cF rfl rfl rfl (ble _ _ rfl) rfl fun e11 => (v_load_dp1 rfl ⟨_, rfl, be e11⟩ rfl (ble _ _ rfl) onT3 (gv (nF e11)) rfl)) ?_
  refine sq_cons ⟨_, [(.t 25, mg (!((!eqI (t0.mShards.length : Int) (t1.mShards.length : Int)) || (!(qStamp t0.mTop t1.mTop)))) (bV (!eqI t0.mDropped t1.mDropped)))]⟩ (v_cF rfl rfl rfl (ble _ _ rfl) rfl fun e12 => (v_bin rfl ⟨_, rfl, be e12⟩ rfl (ble _ _ rfl) (gv (nF e12)) (gv (nF e12)) (b_neq rfl))) ?_
  refine sq_cons ⟨_, [(.t 26, bV (((!eqI (t0.mShards.length : Int) (t1.mShards.length : Int)) || (!(qStamp t0.mTop t1.mTop))) || (!eqI t0.mDropped t1.mDropped)))]⟩ (v_pickB rfl trivial rfl (ble _ _ rfl) rfl (fun e13 => rfl) (fun e14 => (gv (nF e14))) (pO _ _)) ?_
  refine sq_nil ?_
  refine ht_cond (b := (((!eqI (t0.mShards.length : Int) (t1.mShards.length : Int)) || (!(qStamp t0.mTop t1.mTop))) || (!eqI t0.mDropped t1.mDropped))) rfl (fun e15 => ?_) (fun e15 => ?_)
  · replace h := cpos e15 h
    refine ht_seq ?_
    refine ht_region ?_
    refine sq_cons ⟨_, [(.t 4, bV false)]⟩ (v_move (.inr rfl) trivial rfl (ble _ _ rfl) rfl) ?_
    refine sq_nil ?_
    refine ht_ret ?_
    cases h
    exact ret1 rfl (.tmp rfl)
  · replace h := cneg e15 h
    refine ht_skip ?_
    refine ht_gj (go_id' h) (fun _ => tell []) (fun _ h => ?_) (fun v16 K17 h j19 r20 => ?_)
    · refine ht_seq ?_
      refine ht_region ?_
      refine sq_cons ⟨_, [(.t 4, bV true)]⟩ (v_move (.inr rfl) trivial rfl (ble _ _ rfl) rfl) ?_
      refine sq_nil ?_
      refine ht_ret ?_
      cases h
      exact ret1 rfl (.tmp rfl)
    · refine ht_seq ?_
      refine ht_region ?_
      refine sq_cons ⟨_, [(.t 5, iV 0)]⟩ (v_move (.inr rfl) trivial rfl (ble _ _ rfl) rfl) ?_
      refine sq_nil ?_
      refine ht_block ?_
      refine ht_rd h (fun _ => rfl) (fun t5 => tell [(.t 2, .d (.dp (eCell t0))), (.t 3, .d (.dp (eCell t1))), (.t 5, iV t5)]) (wk_ren _ (fun i => i) rfl ⟨rfl, rfl, rfl, trivial⟩) fun k t5 h K29 j22 => ?_
      rw [F10_l1] at h
      refine ht_seq ?_
      refine ht_seq ?_
      refine ht_region ?_
      refine sq_cons ⟨_, [(.t 27, iV t5)]⟩ (v_move (.inl rfl) trivial rfl (ble _ _ rfl) rfl) ?_
      refine sq_cons ⟨_, [(.t 28, .d (.dp (eCell t0)))]⟩ (v_field_dp (a0 := 0) (cs := (eCell t0)) rfl trivial rfl (ble _ _ rfl) fo30_0 rfl) ?_
      refine sq_cons ⟨_, [(.t 29, .d (.sl 17 (t0.mShards.map eShard)))]⟩ (v_load_dp1 rfl trivial rfl (ble _ _ rfl) onT28 rfl rfl) ?_
      refine sq_cons ⟨_, [(.t 30, iV (t0.mShards.length : Int))]⟩ (w_len t0.mShards eShard rfl rfl trivial rfl (ble _ _ rfl) slT28 rfl) ?_
      refine sq_cons ⟨_, [(.t 31, bV (ltI t5 (t0.mShards.length : Int)))]⟩ (v_bin rfl trivial rfl (ble _ _ rfl) rfl rfl (b_lss rfl)) ?_
      refine sq_nil ?_
      refine ht_cond (b := (ltI t5 (t0.mShards.length : Int))) rfl (fun e24 => ?_) (fun e24 => ?_)
      · replace h := cpos e24 h
        refine ht_skip ?_
        refine ht_seq ?_
        refine ht_block ?_
        refine ht_seq ?_
        refine ht_region_draw mixed ?_
        refine rg_cons ⟨_, [(.t 34, .d (.dp (eCell t0)))]⟩ (v_field_dp (a0 := 0) (cs := (eCell t0)) rfl trivial rfl (ble _ _ rfl) fo30_0 rfl) ?_
        refine rg_cons ⟨_, [(.t 35, .d (.sl 17 (t0.mShards.map eShard)))]⟩ (v_load_dp1 rfl trivial rfl (ble _ _ rfl) onT28 rfl rfl) ?_
        refine rg_cons ⟨_, [(.t 36, iV t5)]⟩ (v_move (.inl rfl) trivial rfl (ble _ _ rfl) rfl) ?_
        obtain ⟨e25, h⟩ := gpos h
        refine rg_cons ⟨_, [(.t 37, .d (.dp (eShard (rd t0.mShards t5))))]⟩ (w_idx t0.mShards eShard rfl trivial rfl (ble _ _ rfl) slT28 rfl rfl e25) ?_
        refine rg_cons ⟨_, [(.t 38, .d (.agg (eShard (rd t0.mShards t5))))]⟩ (w_ldp (eShard (rd t0.mShards t5)) (eShard (rd t0.mShards t5)) rfl trivial rfl (ble _ _ rfl) ag50 rfl (ble _ _ rfl) rfl) ?_
        refine rg_cons ⟨_, [(.t 39, .d (.dp (eCell t1)))]⟩ (v_field_dp (a0 := 0) (cs := (eCell t1)) rfl trivial rfl (ble _ _ rfl) fo30_0 rfl) ?_
        refine rg_cons ⟨_, [(.t 40, .d (.sl 17 (t1.mShards.map eShard)))]⟩ (v_load_dp1 rfl trivial rfl (ble _ _ rfl) onT28 rfl rfl) ?_
        refine rg_cons ⟨_, [(.t 41, iV t5)]⟩ (v_move (.inl rfl) trivial rfl (ble _ _ rfl) rfl) ?_
        obtain ⟨e26, h⟩ := gpos h
        refine rg_cons ⟨_, [(.t 42, .d (.dp (eShard (rd t1.mShards t5))))]⟩ (w_idx t1.mShards eShard rfl trivial rfl (ble _ _ rfl) slT28 rfl rfl e26) ?_
        refine rg_cons ⟨_, [(.t 43, .d (.agg (eShard (rd t1.mShards t5))))]⟩ (w_ldp (eShard (rd t1.mShards t5)) (eShard (rd t1.mShards t5)) rfl trivial rfl (ble _ _ rfl) ag50 rfl (ble _ _ rfl) rfl) ?_
        obtain ⟨t44, c27, h⟩ := bpos h
        refine rg_cons ⟨_, [(.t 44, bV t44)]⟩ (w_call (ds := [(.agg (eShard (rd t0.mShards t5))), (.agg (eShard (rd t1.mShards t5)))]) (caps := []) (l := [(.s (.bool t44))]) (s28 k (rd t0.mShards t5) (rd t1.mShards t5) _ c27) rfl rfl rfl en28 trivial rfl (ble _ _ rfl) (.inl ⟨rfl, rfl⟩) rfl rfl) ?_
        refine rg_cons ⟨_, [(.t 45, bV (!t44))]⟩ (v_un rfl trivial rfl (ble _ _ rfl) rfl (u_not rfl)) ?_
        refine rg_nil ⟨by kernel_rfl, ?_⟩
        refine ht_cond (b := (!t44)) rfl (fun e28 => ?_) (fun e28 => ?_)
        · replace h := cpos e28 h
          refine ht_seq ?_
          refine ht_region ?_
          refine sq_cons ⟨_, [(.t 4, bV false)]⟩ (v_move (.inr rfl) trivial rfl (ble _ _ rfl) rfl) ?_
          refine sq_nil ?_
          refine ht_ret ?_
          cases h
          cases r20 _ rfl
          exact ret1 rfl (.tmp rfl)
        · replace h := cneg e28 h
          refine ht_skip ?_
          refine ht_region ?_
          refine sq_cons ⟨_, [(.t 32, iV t5)]⟩ (v_move (.inl rfl) trivial rfl (ble _ _ rfl) rfl) ?_
          refine sq_cons ⟨_, [(.t 33, iV (IntKind.wrap .i64 (t5 + 1)))]⟩ (v_bin rfl trivial rfl (ble _ _ rfl) rfl rfl (b_add rfl)) ?_
          refine sq_cons ⟨_, [(.t 5, iV (IntKind.wrap .i64 (t5 + 1)))]⟩ (v_move (.inr rfl) trivial rfl (ble _ _ rfl) rfl) ?_
          refine sq_nil ?_
          exact j22 _ _ h (wk_ren _ (fun i => i) rfl ⟨rfl, rfl, rfl, trivial⟩)
      · replace h := cneg e24 h
        refine ht_exit ?_
        refine tq ?_
        refine tq ?_
        refine bq_hit ?_
        cases h
        exact j19 _ _ rfl (wk_ren _ (fun i => i) rfl trivial)
set_option maxRecDepth 100000 in
set_option maxHeartbeats 4000000 in
theorem s4 (k : Nat) (t0 : Cell) (t1 : Int) (t2 : Int) (t3 : Request) (t4 : Stamp) (t5 : Int) (r : Bool) (h : F4 k t0 t1 t2 t3 t4 t5 = some r) : Awp.Spec Tryd.prog amb 4 [(.agg (eCell t0)), (.s (.int .i64 t1)), (.s (.int .i64 t2)), (.agg (eRequest t3)), (.agg (eStamp t4)), (.s (.int .i64 t5))] (.ds [(.s (.bool r))]) := by
  rw [F4] at h
  refine spec_of Tryd.func4 rfl (ble _ _ rfl) fun w0 ok0 lt0 hA => ?_
  refine ht_seq ?_
  refine ht_region ?_
  refine sq_cons ⟨_, [(.t 6, .d (.dp (eCell t0)))]⟩ (v_box_d (cs := (eCell t0)) rfl trivial rfl (ble _ _ rfl) rfl rfl (ones_of rfl)) ?_
  refine sq_cons ⟨_, [(.t 9, .d (.dp (eRequest t3)))]⟩ (v_box_d (cs := (eRequest t3)) rfl trivial rfl (ble _ _ rfl) rfl rfl (ones_of rfl)) ?_
  refine sq_cons ⟨_, [(.t 10, .d (.dp (eStamp t4)))]⟩ (v_box_d (cs := (eStamp t4)) rfl trivial rfl (ble _ _ rfl) rfl rfl (ones_of rfl)) ?_
  refine sq_cons ⟨_, [(.t 12, bV false)]⟩ (v_move (.inr rfl) trivial rfl (ble _ _ rfl) rfl) ?_
  refine sq_nil ?_
  refine ht_seq ?_
  refine ht_seq ?_
  refine ht_region ?_
  refine sq_cons ⟨_, [(.t 16, .d (.agg (eCell t0)))]⟩ (w_ldp (eCell t0) (eCell t0) rfl trivial rfl (ble _ _ rfl) ag30 rfl (ble _ _ rfl) rfl) ?_
  obtain ⟨t17, c1, h⟩ := bpos h
  refine sq_cons ⟨_, [(.t 17, bV t17)]⟩ (w_call (ds := [(.agg (eCell t0))]) (caps := []) (l := [(.s (.bool t17))]) (s8 k t0 _ c1) rfl rfl rfl en8 trivial rfl (ble _ _ rfl) (.inl ⟨rfl, rfl⟩) rfl rfl) ?_
  refine sq_cons ⟨_, [(.t 18, bV (!t17))]⟩ (v_un rfl trivial rfl (ble _ _ rfl) rfl (u_not rfl)) ?_
  refine sq_cons ⟨_, [(.t 19, bV (!t17))]⟩ (v_move (.inl rfl) trivial rfl (ble _ _ rfl) rfl) ?_
  refine sq_cons ⟨_, [(.t 20, mg (!(!t17)) (.d (.dp (List.drop 2 (eRequest t3)))))]⟩ (v_cF rfl rfl rfl (ble _ _ rfl) rfl fun e2 => (v_field_dp (a0 := 2) (cs := (eRequest t3)) rfl ⟨_, rfl, be e2⟩ rfl (ble _ _ rfl) fo25_2 rfl)) ?_
  refine sq_cons ⟨_, [(.t 21, mg (!(!t17)) (iV t3.mKind))]⟩ (v_cF rfl rfl rfl (ble _ _ rfl) rfl fun e3 => (v_load_dp1 rfl ⟨_, rfl, be e3⟩ rfl (ble _ _ rfl) onT3 (gv (nF e3)) rfl)) ?_
  refine sq_cons ⟨_, [(.t 22, mg (!(!t17)) (bV (ltI t3.mKind 4)))]⟩ (v_cF rfl rfl rfl (ble _ _ rfl) rfl fun e4 => (v_bin rfl ⟨_, rfl, be e4⟩ rfl (ble _ _ rfl) (gv (nF e4)) rfl (b_lss rfl))) ?_
  refine sq_cons ⟨_, [(.t 23, bV ((!t17) || (ltI t3.mKind 4)))]⟩ (v_pickB rfl trivial rfl (ble _ _ rfl) rfl (fun e5 => rfl) (fun e6 => (gv (nF e6))) (pO _ _)) ?_
  refine sq_nil ?_
  refine ht_cond (b := ((!t17) || (ltI t3.mKind 4))) rfl (fun e7 => ?_) (fun e7 => ?_)
  · replace h := cpos e7 h
    refine ht_seq ?_
    refine ht_region ?_
    obtain ⟨t24, c8, h⟩ := bpos h
    refine sq_cons ⟨_, [(.t 24, bV t24)]⟩ (w_call (ds := []) (caps := []) (l := [(.s (.bool t24))]) (s7 k _ c8) rfl rfl rfl en7 trivial rfl (ble _ _ rfl) (.inl ⟨rfl, rfl⟩) rfl rfl) ?_
    refine sq_cons ⟨_, [(.t 12, bV t24)]⟩ (v_move (.inr rfl) trivial rfl (ble _ _ rfl) rfl) ?_
    refine sq_nil ?_
    refine ht_ret ?_
    cases h
    exact ret1 rfl (.tmp rfl)
  · replace h := cneg e7 h
    refine ht_skip ?_
    refine ht_seq ?_
    refine ht_region ?_
    refine sq_cons ⟨_, [(.t 26, .d (.agg (eCell t0)))]⟩ (w_ldp (eCell t0) (eCell t0) rfl trivial rfl (ble _ _ rfl) ag30 rfl (ble _ _ rfl) rfl) ?_
    refine sq_cons ⟨_, [(.t 27, iV t1)]⟩ (v_move (.inl rfl) trivial rfl (ble _ _ rfl) rfl) ?_
    refine sq_cons ⟨_, [(.t 28, iV t2)]⟩ (v_move (.inl rfl) trivial rfl (ble _ _ rfl) rfl) ?_
    refine sq_cons ⟨_, [(.t 29, .d (.agg (eRequest t3)))]⟩ (w_ldp (eRequest t3) (eRequest t3) rfl trivial rfl (ble _ _ rfl) ag25 rfl (ble _ _ rfl) rfl) ?_
    refine sq_cons ⟨_, [(.t 30, .d (.agg (eStamp t4)))]⟩ (w_ldp (eStamp t4) (eStamp t4) rfl trivial rfl (ble _ _ rfl) ag23 rfl (ble _ _ rfl) rfl) ?_
    refine sq_cons ⟨_, [(.t 31, iV t5)]⟩ (v_move (.inl rfl) trivial rfl (ble _ _ rfl) rfl) ?_
    obtain ⟨⟨t32a, t32b⟩, c9, h⟩ := bpos h
    refine sq_cons ⟨_, [(.t 32, .tup [.d (.agg (eCell t32a)), .d (.agg (eAnswer t32b))])]⟩ (w_call (ds := [(.agg (eCell t0)), (.s (.int .i64 t1)), (.s (.int .i64 t2)), (.agg (eRequest t3)), (.agg (eStamp t4)), (.s (.int .i64 t5))]) (caps := []) (l := [(.agg (eCell t32a)), (.agg (eAnswer t32b))]) (s9 k t0 t1 t2 t3 t4 t5 _ c9) rfl rfl rfl en9 trivial rfl (ble _ _ rfl) (.inl ⟨rfl, rfl⟩) rfl rfl) ?_
    refine sq_cons ⟨_, [(.t 25, .tup [.d (.agg (eCell t32a)), .d (.agg (eAnswer t32b))])]⟩ (v_move (.inl rfl) trivial rfl (ble _ _ rfl) rfl) ?_
    refine sq_cons ⟨_, [(.t 33, .d (.agg (eCell t32a)))]⟩ (v_extract rfl trivial rfl (ble _ _ rfl) rfl rfl) ?_
    refine sq_cons ⟨_, [(.t 34, .d (.agg (eAnswer t32b)))]⟩ (v_extract rfl trivial rfl (ble _ _ rfl) rfl rfl) ?_
    refine sq_cons _ (v_alloc (id := 13) (cs := zc30) rfl trivial rfl (ble _ _ rfl) zu30 rfl ft30 rfl) ?_
    refine sq_cons _ (v_alloc (id := 14) (cs := zc35) rfl trivial rfl (ble _ _ rfl) zu35 rfl ft35 rfl) ?_
    refine sq_cons _ (v_store_box (id := 13) (off := 0) (cs := (eCell t32a).map V.d) rfl trivial rfl sz30 rfl rfl rfl rfl (ones_of rfl) (ble _ _ rfl)) ?_
    refine sq_cons _ (v_store_box (id := 14) (off := 0) (cs := (eAnswer t32b).map V.d) rfl trivial rfl sz35 rfl rfl rfl rfl (ones_of rfl) (ble _ _ rfl)) ?_
    refine sq_nil ?_
    refine ht_seq ?_
    refine ht_seq ?_
    refine ht_region ?_
    refine sq_cons ⟨_, [(.t 35, .ptr 14 0)]⟩ (v_field_box (off := 0) (a0 := 0) rfl trivial rfl (ble _ _ rfl) fo35_0 rfl) ?_
    refine sq_cons ⟨_, [(.t 36, iV t32b.mErr)]⟩ (v_load_box1 (id := 14) (off := 0) rfl trivial rfl (ble _ _ rfl) onT32 rfl rfl (ble _ _ rfl) rfl) ?_
    refine sq_cons ⟨_, [(.t 37, bV (!eqI t32b.mErr 0))]⟩ (v_bin rfl trivial rfl (ble _ _ rfl) rfl rfl (b_neq rfl)) ?_
    refine sq_cons ⟨_, [(.t 38, bV (!eqI t32b.mErr 0))]⟩ (v_move (.inl rfl) trivial rfl (ble _ _ rfl) rfl) ?_
    refine sq_cons ⟨_, [(.t 39, mg (!(!eqI t32b.mErr 0)) (.d (.dp (List.drop 2 (eRequest t3)))))]⟩ (v_cF rfl rfl rfl (ble _ _ rfl) rfl fun e10 => (v_field_dp (a0 := 2) (cs := (eRequest t3)) rfl ⟨_, rfl, be e10⟩ rfl (ble _ _ rfl) fo25_2 rfl)) ?_
    refine sq_cons ⟨_, [(.t 40, mg (!(!eqI t32b.mErr 0)) (iV t3.mKind))]⟩ (v_cF rfl rfl rfl (ble _ _ rfl) rfl fun e11 => (v_load_dp1 rfl ⟨_, rfl, be e11⟩ rfl (ble _ _ rfl) onT3 (gv (nF e11)) rfl)) ?_
    refine sq_cons ⟨_, [(.t 41, mg (!(!eqI t32b.mErr 0)) (bV (eqI t3.mKind 4)))]⟩ (v_cF rfl rfl rfl (ble _ _ rfl) rfl fun e12 => (v_bin rfl ⟨_, rfl, be e12⟩ rfl (ble _ _ rfl) (gv (nF e12)) rfl (b_eql rfl))) ?_
    refine sq_cons ⟨_, [(.t 42, bV ((!eqI t32b.mErr 0) || (eqI t3.mKind 4)))]⟩ (v_pickB rfl trivial rfl (ble _ _ rfl) rfl (fun e13 => rfl) (fun e14 => (gv (nF e14))) (pO _ _)) ?_
    refine sq_nil ?_
    refine ht_cond (b := ((!eqI t32b.mErr 0) || (eqI t3.mKind 4))) rfl (fun e15 => ?_) (fun e15 => ?_)
    · replace h := cpos e15 h
      refine ht_seq ?_
      refine ht_region ?_
      refine sq_cons ⟨_, [(.t 43, .d (.agg (eCell t32a)))]⟩ (w_ldb 13 0 rfl trivial rfl (ble _ _ rfl) ag30 rfl rfl (ble _ _ rfl) rfl) ?_
      refine sq_cons ⟨_, [(.t 44, .d (.agg (eCell t0)))]⟩ (w_ldp (eCell t0) (eCell t0) rfl trivial rfl (ble _ _ rfl) ag30 rfl (ble _ _ rfl) rfl) ?_
      obtain ⟨t45, c16, h⟩ := bpos h
      refine sq_cons ⟨_, [(.t 45, bV t45)]⟩ (w_call (ds := [(.agg (eCell t32a)), (.agg (eCell t0))]) (caps := []) (l := [(.s (.bool t45))]) (s10 k t32a t0 _ c16) rfl rfl rfl en10 trivial rfl (ble _ _ rfl) (.inl ⟨rfl, rfl⟩) rfl rfl) ?_
      refine sq_cons ⟨_, [(.t 46, bV t45)]⟩ (v_move (.inl rfl) trivial rfl (ble _ _ rfl) rfl) ?_
      obtain ⟨t47, c18, h⟩ := bpos h
      refine sq_cons ⟨_, [(.t 47, mg t45 (bV t47))]⟩ (v_cT rfl rfl rfl (ble _ _ rfl) rfl fun e17 => (w_call (ds := []) (caps := []) (l := [(.s (.bool t47))]) (s7 k _ (cpos e17 c18)) rfl rfl rfl en7 ⟨_, rfl, be e17⟩ rfl (ble _ _ rfl) (.inl ⟨rfl, rfl⟩) rfl rfl)) ?_
      refine sq_cons ⟨_, [(.t 48, bV (t45 && t47))]⟩ (v_pickB rfl trivial rfl (ble _ _ rfl) rfl (fun e19 => (gv e19)) (fun e20 => rfl) (pA _ _)) ?_
      refine sq_cons ⟨_, [(.t 12, bV (t45 && t47))]⟩ (v_move (.inr rfl) trivial rfl (ble _ _ rfl) rfl) ?_
      refine sq_nil ?_
      refine ht_ret ?_
      cases h
      exact ret1 rfl (.tmp rfl)
    · replace h := cneg e15 h
      refine ht_skip ?_
      refine ht_seq ?_
      refine ht_region ?_
      refine sq_cons ⟨_, [(.t 49, .d (.dp (List.drop 1 (eCell t0))))]⟩ (v_field_dp (a0 := 1) (cs := (eCell t0)) rfl trivial rfl (ble _ _ rfl) fo30_1 rfl) ?_
      refine sq_cons ⟨_, [(.t 50, .d (.agg (eStamp t0.mTop)))]⟩ (w_ldp (List.drop 1 (eCell t0)) (eStamp t0.mTop) rfl trivial rfl (ble _ _ rfl) ag23 rfl (ble _ _ rfl) rfl) ?_
      refine sq_cons ⟨_, [(.t 51, .d (.dp (List.drop 7 (eRequest t3))))]⟩ (v_field_dp (a0 := 7) (cs := (eRequest t3)) rfl trivial rfl (ble _ _ rfl) fo25_7 rfl) ?_
      refine sq_cons ⟨_, [(.t 52, .d (.agg (eStamp t3.mAt)))]⟩ (w_ldp (List.drop 7 (eRequest t3)) (eStamp t3.mAt) rfl trivial rfl (ble _ _ rfl) ag23 rfl (ble _ _ rfl) rfl) ?_
      obtain ⟨t53, c21, h⟩ := bpos h
      refine sq_cons ⟨_, [(.t 53, .d (.agg (eStamp t53)))]⟩ (w_call (ds := [(.agg (eStamp t0.mTop)), (.agg (eStamp t3.mAt))]) (caps := []) (l := [(.agg (eStamp t53))]) (s11 k t0.mTop t3.mAt _ c21) rfl rfl rfl en11 trivial rfl (ble _ _ rfl) (.inl ⟨rfl, rfl⟩) rfl rfl) ?_
      refine sq_cons _ (v_alloc (id := 15) (cs := zc23) rfl trivial rfl (ble _ _ rfl) zu23 rfl ft23 rfl) ?_
      refine sq_cons _ (v_store_box (id := 15) (off := 0) (cs := (eStamp t53).map V.d) rfl trivial rfl sz23 rfl rfl rfl rfl (ones_of rfl) (ble _ _ rfl)) ?_
      refine sq_nil ?_
      refine ht_seq ?_
      refine ht_seq ?_
      refine ht_region ?_
      refine sq_cons ⟨_, [(.t 54, .ptr 13 1)]⟩ (v_field_box (off := 0) (a0 := 1) rfl trivial rfl (ble _ _ rfl) fo30_1 rfl) ?_
      refine sq_cons ⟨_, [(.t 55, .d (.agg (eStamp t32a.mTop)))]⟩ (w_ldb 13 1 rfl trivial rfl (ble _ _ rfl) ag23 rfl rfl (ble _ _ rfl) rfl) ?_
      refine sq_cons ⟨_, [(.t 56, .d (.agg (eStamp t53)))]⟩ (w_ldb 15 0 rfl trivial rfl (ble _ _ rfl) ag23 rfl rfl (ble _ _ rfl) rfl) ?_
      refine sq_cons ⟨_, [(.t 57, bV (!(qStamp t32a.mTop t53)))]⟩ (v_bin_neq (f := eStamp) rfl trivial rfl (ble _ _ rfl) rfl rfl rfl rfl eg23 (eq23 _ _)) ?_
      refine sq_cons ⟨_, [(.t 58, bV (!(qStamp t32a.mTop t53)))]⟩ (v_move (.inl rfl) trivial rfl (ble _ _ rfl) rfl) ?_
      refine sq_cons ⟨_, [(.t 59, mg (!(!(qStamp t32a.mTop t53))) (.ptr 14 1))]⟩ (v_cF rfl rfl rfl (ble _ _ rfl) rfl fun e22 => (v_field_box (off := 0) (a0 := 1) rfl ⟨_, rfl, be e22⟩ rfl (ble _ _ rfl) fo35_1 rfl)) ?_
      refine sq_cons ⟨_, [(.t 60, mg (!(!(qStamp t32a.mTop t53))) (.d (.agg (eStamp t32b.mAt))))]⟩ (v_cF rfl rfl rfl (ble _ _ rfl) rfl fun e23 => (w_ldb 14 1 rfl ⟨_, rfl, be e23⟩ rfl (ble _ _ rfl) ag23 (gv (nF e23)) rfl (ble _ _ rfl) rfl)) ?_
      refine sq_cons ⟨_, [(.t 61, mg (!(!(qStamp t32a.mTop t53))) (.d (.dp (List.drop 7 (eRequest t3)))))]⟩ (v_cF rfl rfl rfl (ble _ _ rfl) rfl fun e24 => (v_field_dp (a0 := 7) (cs := (eRequest t3)) rfl ⟨_, rfl, be e24⟩ rfl (ble _ _ rfl) fo25_7 rfl)) ?_
      refine sq_cons ⟨_, [(.t 62, mg (!(!(qStamp t32a.mTop t53))) (.d (.agg (eStamp t3.mAt))))]⟩ (v_cF rfl rfl rfl (ble _ _ rfl) rfl fun e25 => (w_ldp (List.drop 7 (eRequest t3)) (eStamp t3.mAt) rfl ⟨_, rfl, be e25⟩ rfl (ble _ _ rfl) ag23 (gv (nF e25)) (ble _ _ rfl) rfl)) ?_
      refine sq_cons ⟨_, [(.t 63, mg (!(!(qStamp t32a.mTop t53))) (bV (!(qStamp t32b.mAt t3.mAt))))]⟩ (v_cF rfl rfl rfl (ble _ _ rfl) rfl fun e26 => (v_bin_neq (f := eStamp) rfl ⟨_, rfl, be e26⟩ rfl (ble _ _ rfl) (gv (nF e26)) (gv (nF e26)) rfl rfl eg23 (eq23 _ _))) ?_
      refine sq_cons ⟨_, [(.t 64, bV ((!(qStamp t32a.mTop t53)) || (!(qStamp t32b.mAt t3.mAt))))]⟩ (v_pickB rfl trivial rfl (ble _ _ rfl) rfl (fun e27 => rfl) (fun e28 => (gv (nF e28))) (pO _ _)) ?_
      refine sq_nil ?_
      refine ht_cond (b := ((!(qStamp t32a.mTop t53)) || (!(qStamp t32b.mAt t3.mAt)))) rfl (fun e29 => ?_) (fun e29 => ?_)
      · replace h := cpos e29 h
        refine ht_seq ?_
        refine ht_region ?_
        refine sq_cons ⟨_, [(.t 12, bV false)]⟩ (v_move (.inr rfl) trivial rfl (ble _ _ rfl) rfl) ?_
        refine sq_nil ?_
        refine ht_ret ?_
        cases h
        exact ret1 rfl (.tmp rfl)
      · replace h := cneg e29 h
        refine ht_skip ?_
        refine ht_seq ?_
        refine ht_region ?_
        refine sq_cons ⟨_, [(.t 65, .d (.dp (List.drop 1 (eCell t0))))]⟩ (v_field_dp (a0 := 1) (cs := (eCell t0)) rfl trivial rfl (ble _ _ rfl) fo30_1 rfl) ?_
        refine sq_cons ⟨_, [(.t 66, .d (.agg (eStamp t0.mTop)))]⟩ (w_ldp (List.drop 1 (eCell t0)) (eStamp t0.mTop) rfl trivial rfl (ble _ _ rfl) ag23 rfl (ble _ _ rfl) rfl) ?_
        refine sq_cons ⟨_, [(.t 67, .ptr 13 1)]⟩ (v_field_box (off := 0) (a0 := 1) rfl trivial rfl (ble _ _ rfl) fo30_1 rfl) ?_
        refine sq_cons _ (v_store_box (id := 13) (off := 1) (cs := (eStamp t0.mTop).map V.d) rfl trivial rfl sz23 rfl rfl rfl rfl (ones_of rfl) (ble _ _ rfl)) ?_
        refine sq_nil ?_
        refine ht_seq ?_
        refine ht_region ?_
        refine sq_cons ⟨_, [(.t 68, .d (.agg (eCell ({t32a with mTop := t0.mTop}))))]⟩ (w_ldb 13 0 rfl trivial rfl (ble _ _ rfl) ag30 rfl rfl (ble _ _ rfl) rfl) ?_
        refine sq_cons ⟨_, [(.t 69, .d (.agg (eCell t0)))]⟩ (w_ldp (eCell t0) (eCell t0) rfl trivial rfl (ble _ _ rfl) ag30 rfl (ble _ _ rfl) rfl) ?_
        obtain ⟨t70, c30, h⟩ := bpos h
        refine sq_cons ⟨_, [(.t 70, bV t70)]⟩ (w_call (ds := [(.agg (eCell ({t32a with mTop := t0.mTop}))), (.agg (eCell t0))]) (caps := []) (l := [(.s (.bool t70))]) (s10 k ({t32a with mTop := t0.mTop}) t0 _ c30) rfl rfl rfl en10 trivial rfl (ble _ _ rfl) (.inl ⟨rfl, rfl⟩) rfl rfl) ?_
        refine sq_cons ⟨_, [(.t 71, bV t70)]⟩ (v_move (.inl rfl) trivial rfl (ble _ _ rfl) rfl) ?_
        obtain ⟨t72, c32, h⟩ := bpos h
        refine sq_cons ⟨_, [(.t 72, mg t70 (bV t72))]⟩ (v_cT rfl rfl rfl (ble _ _ rfl) rfl fun e31 => (w_call (ds := []) (caps := []) (l := [(.s (.bool t72))]) (s7 k _ (cpos e31 c32)) rfl rfl rfl en7 ⟨_, rfl, be e31⟩ rfl (ble _ _ rfl) (.inl ⟨rfl, rfl⟩) rfl rfl)) ?_
        refine sq_cons ⟨_, [(.t 73, bV (t70 && t72))]⟩ (v_pickB rfl trivial rfl (ble _ _ rfl) rfl (fun e33 => (gv e33)) (fun e34 => rfl) (pA _ _)) ?_
        refine sq_cons ⟨_, [(.t 12, bV (t70 && t72))]⟩ (v_move (.inr rfl) trivial rfl (ble _ _ rfl) rfl) ?_
        refine sq_nil ?_
        refine ht_ret ?_
        cases h
        exact ret1 rfl (.tmp rfl)
end Go.Proofs.Ed
