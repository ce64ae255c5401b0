/- stratigraphlaw11.EngineAgain returns true for every input, and what was there before the call is as it was: the tied card. Condition: the two tables of unicode/utf8 are as their initialisers lay them (tied to the program's text by the card). -/
import Derived.Test.YthhpelmjnmlgjaaGreatDoorAg7
import Derived.Test.YthhpelmjnmlgjaaGreatDoorCards
import Derived.Test.YthhpelmjnmlgjaaGreatDoorTie
import Derived.Lay
import Derived.LaidLaws
import Derived.SevenTiedAt
set_option linter.unusedVariables false
namespace Go.Proofs.YthhpelmjnmlgjaaGreatDoor.engineAgain
open Go.ChangeShapes Go.WideShapes Go.ChangeAt Go.RowKit

theorem own : ownKnob Tryz.prog.godebug = none := by kernel_rfl
theorem laidOut : laidOutB Tryz.prog = true := by kernel_rfl
theorem extra : U8Extra Tryz.prog Tryz.lays260_ren := ⟨by kernel_rfl, by kernel_rfl, by kernel_rfl, by kernel_rfl, by kernel_rfl, by kernel_rfl, by kernel_rfl⟩
set_option maxRecDepth 100000 in
theorem accept_eq : Rows.laid_unicode_utf8_acceptRanges = Lib.acceptData := by kernel_rfl
set_option maxRecDepth 100000 in
theorem first_eq : Rows.laid_unicode_utf8_first = Lib.firstData := by kernel_rfl

theorem tabs {W : World} (h : laidMet Tryz.prog Rows.engineAgainRow.laid W) : Lib.Utf8Tabs 0 1 W := by
  have h3 := Lib.laidMet.reads h (.head _)
  have h4 := Lib.laidMet.reads h (.tail _ (.head _))
  rw [accept_eq] at h3
  rw [first_eq] at h4
  exact utf8Tabs_of_reads Tryz.lays260 extra h4 h3

theorem walk (v0 v1 v2 v3 v4 v5 v6 : Value) (W : World) (x0 : Gd.Cell) (x1 : Int) (x2 : Int) (x3 : Gd.Request) (x4 : Gd.Stamp) (x5 : List Gd.Act) (x6 : Gd.Stamp) (h0 : Awp.RepD (· < W.heap.size) W v0 (.agg (Gd.eCell x0))) (h1 : Awp.RepD (· < W.heap.size) W v1 (.s (.int .i64 x1))) (h2 : Awp.RepD (· < W.heap.size) W v2 (.s (.int .i64 x2))) (h3 : Awp.RepD (· < W.heap.size) W v3 (.agg (Gd.eRequest x3))) (h4 : Awp.RepD (· < W.heap.size) W v4 (.agg (Gd.eStamp x4))) (h5 : Awp.RepD (· < W.heap.size) W v5 (.sl 21 (x5.map Gd.eAct))) (h6 : Awp.RepD (· < W.heap.size) W v6 (.agg (Gd.eStamp x6))) (hT : Lib.Utf8Tabs 0 1 W)  :
    Calls Tryz.prog 13 #[v0, v1, v2, v3, v4, v5, v6] W fun e w' => e = .returned (.bool true) ∧ Below W.heap.size W w' := by
  obtain ⟨k, hk⟩ := (Gd.again x0 x1 x2 x3 x4 x5 x6 ).ev.get
  refine (Gd.s13 k x0 x1 x2 x3 x4 x5 x6 true hk W #[v0, v1, v2, v3, v4, v5, v6] (· < W.heap.size) hT (fun _ h => h) rfl (fun i v x g1 g2 => ?_)).mono fun e w' ⟨v, e1, e2, e3⟩ => ⟨?_, e2⟩
  · match i with
    | 0 => simp at g1 g2; subst g1; subst g2; exact h0
    | 1 => simp at g1 g2; subst g1; subst g2; exact h1
    | 2 => simp at g1 g2; subst g1; subst g2; exact h2
    | 3 => simp at g1 g2; subst g1; subst g2; exact h3
    | 4 => simp at g1 g2; subst g1; subst g2; exact h4
    | 5 => simp at g1 g2; subst g1; subst g2; exact h5
    | 6 => simp at g1 g2; subst g1; subst g2; exact h6
    | i + 7 => simp at g1
  · subst e1
    cases e3 with
    | one h => cases h; rfl
    | many h => exact absurd rfl h

set_option maxRecDepth 100000 in
theorem lifted (os : Os) (started : os.Started) (H : Type) (enc : TypeId × Value → H) :
    ReturnsInHanded {} Tryz.checked os 13 .any (fun w args => (Rows.engineAgainSpec.pre enc Tryz.prog Tryz.f13 [] false w args ∧ laidMetH Tryz.prog Rows.engineAgainRow.laid w) ∧ sizedMet enc Tryz.prog Tryz.f13 (OpenSpec.ofChange Rows.engineAgainSpec) false w args)
      (Rows.engineAgainSpec.post enc Tryz.prog Tryz.f13 false true false false) := by
  refine returnsInHanded_of_change_and (C := Tryz.checked) (X := fun w _ => laidMetH Tryz.prog Rows.engineAgainRow.laid w) (fun _ _ _ hh h => h.of_heap hh) own started (by kernel_rfl) Tryz.func13
    (ChangeSpec.witness_shaped (enc := enc) (C := Tryz.checked) (os := os) (X := fun w _ => laidMetH Tryz.prog Rows.engineAgainRow.laid w) false (World.laidAll Tryz.prog os Rows.engineAgainRow.laid) #[(.agg #[(.slice none 0 0), (.int .i64 0), (.int .i64 0), (.int .i64 0), (.int .i64 0)]), (.int .i64 0), (.int .i64 0), (.agg #[(.int .i64 0), (.int .i64 0), (.int .i64 0), (.string ⟨#[]⟩), (.string ⟨#[]⟩), (.bool false), (.string ⟨#[]⟩), (.int .i64 0), (.int .i64 0), (.int .i64 0), (.string ⟨#[]⟩), (.int .i64 0)]), (.agg #[(.int .i64 0), (.int .i64 0), (.int .i64 0)]), (.slice none 0 0), (.agg #[(.int .i64 0), (.int .i64 0), (.int .i64 0)])] 8 (World.laidAll_os _ _ _)
      (World.shaped_of_ZipB (by kernel_rfl) (by kernel_rfl)) (by kernel_rfl) (by kernel_rfl) (by kernel_rfl)
      (by rw [MakeChecks.laidMetH_plain _ _ _ (by kernel_rfl)]; exact laidMet_laidAll _ (by kernel_rfl) (by kernel_rfl))) ?_
  intro W base args ds gs before hval0 hW _ _ hL _
  have hval : ∀ (j : Nat) t v, Tryz.f13.params[j]? = some t → args[j]? = some v → Value.okWide Tryz.prog W .any base t v := hval0
  have hW' := hW
  obtain ⟨p, q, hA0, hV, rfl, _, _⟩ := hW
  have hA' : DataW.TrodAll enc Tryz.prog W 0 (fun _ => true) true Tryz.f13.params.toList args.toList ds p := hA0
  have hA := hA'
  rw [Tryz.params13] at hA hval
  obtain ⟨rfl, rfl⟩ := trodVars_none hV
  obtain ⟨v0, vs0, d0, ds0, p0, q0, hargs, rfl, rfl, h0, r0⟩ := trodAll_cons hA
  obtain ⟨v1, vs1, d1, ds1, p1, q1, rfl, rfl, rfl, h1, r1⟩ := trodAll_cons r0
  obtain ⟨v2, vs2, d2, ds2, p2, q2, rfl, rfl, rfl, h2, r2⟩ := trodAll_cons r1
  obtain ⟨v3, vs3, d3, ds3, p3, q3, rfl, rfl, rfl, h3, r3⟩ := trodAll_cons r2
  obtain ⟨v4, vs4, d4, ds4, p4, q4, rfl, rfl, rfl, h4, r4⟩ := trodAll_cons r3
  obtain ⟨v5, vs5, d5, ds5, p5, q5, rfl, rfl, rfl, h5, r5⟩ := trodAll_cons r4
  obtain ⟨v6, vs6, d6, ds6, p6, q6, rfl, rfl, rfl, h6, r6⟩ := trodAll_cons r5
  obtain ⟨rfl, rfl, rfl⟩ := trodAll_nil r6
  obtain rfl : args = #[v0, v1, v2, v3, v4, v5, v6] := by cases args; simp_all
  obtain ⟨x0, hx0⟩ := Awp.dc_agg Tryz.underlying26 Gd.dc26 (hval 0 26 v0 rfl rfl) h0
  obtain ⟨x1, hx1⟩ := Awp.dc_int Tryz.underlying3 Gd.dc3 (hval 1 3 v1 rfl rfl) h1
  obtain ⟨x2, hx2⟩ := Awp.dc_int Tryz.underlying3 Gd.dc3 (hval 2 3 v2 rfl rfl) h2
  obtain ⟨x3, hx3⟩ := Awp.dc_agg Tryz.underlying28 Gd.dc28 (hval 3 28 v3 rfl rfl) h3
  obtain ⟨x4, hx4⟩ := Awp.dc_agg Tryz.underlying24 Gd.dc24 (hval 4 24 v4 rfl rfl) h4
  obtain ⟨x5, hx5⟩ := Awp.dc_sl Tryz.underlying71 Gd.dc71 (hval 5 71 v5 rfl rfl) h5
  obtain ⟨x6, hx6⟩ := Awp.dc_agg Tryz.underlying24 Gd.dc24 (hval 6 24 v6 rfl rfl) h6
  simp only [List.append_nil] at hW'
  rw [MakeChecks.laidMetH_plain _ _ _ (by kernel_rfl)] at hL
  refine (walk v0 v1 v2 v3 v4 v5 v6 W x0 x1 x2 x3 x4 x5 x6 hx0 hx1 hx2 hx3 hx4 hx5 hx6 (tabs hL) ).mono fun e W' ⟨he, hg⟩ => ?_
  subst he
  exact ⟨_, rfl, Awp.law_post (tb := 4) laidOut (by kernel_rfl) hW' hA' (by simp) rfl rfl rfl rfl rfl Tryz.underlying4 (ok_one (by kernel_rfl) rfl (okWide_bool_mk Tryz.underlying4 _)) hg⟩

theorem band {a b : Bool} (ha : a = true) (hb : b = true) : (a && b) = true := by rw [ha, hb]; rfl
set_option maxHeartbeats 4000000 in
theorem joined : joinedFacts Tryz.pinned.checked.prog 13 Tryz.f13 Rows.engineAgainSpec Rows.engineAgainRow = true := by
  unfold joinedFacts
  repeat' (with_reducible refine band ?_ ?_)
  all_goals as_aux_lemma => kernel_rfl
set_option maxHeartbeats 4000000 in
theorem over : Rows.engineAgainRow.holds Tryz.pinned (OpenSpec.ofChange Rows.engineAgainSpec) :=
  OpenClaim.holds_of_wide 13 Tryz.f13 rfl rfl rfl rfl rfl rfl rfl ⟨rfl, rfl, rfl, rfl, rfl⟩ rfl rfl rfl rfl rfl (by kernel_rfl) Tryz.func13 (by exact joined)
    (of_decide_eq_true (by kernel_rfl)) (by unfold Func.isWrapper; first | (rw [if_pos (by decide +kernel)]; kernel_rfl) | (rw [if_neg (by decide +kernel)]; exact ⟨rfl, rfl⟩))
    (fun os started H enc _ => lifted os started H enc)

theorem proved : Rows.EngineAgainCardSaid :=
  Claim7.holds_tied_plain_at .later [] [.data, .pinned] true (true, "a5f38efe01d2f11ccaaeb0180c827dc94fc79ce6d84c59bfb0c07c85524946a8") false over (fun _ h => by cases h) (by kernel_rfl) (fun _ h => by cases h) engineAgain_row_tie rfl ⟨rfl, rfl⟩ (by kernel_rfl) rfl
    (fun f fn hf hfn => by
      obtain rfl : f = 13 := Option.some.inj ((show Tryz.prog.funcNamed "stratigraph/stratigraphlaw11.EngineAgain" = some 13 by kernel_rfl).symm.trans hf) |>.symm
      obtain rfl : fn = Tryz.f13 := (Option.some.inj (Tryz.func13.symm.trans hfn)).symm
      exact ⟨by kernel_rfl, fun j t ht => by
        rw [Tryz.params13] at ht
        have hm : t ∈ [26, 3, 3, 28, 24, 71, 24] := by simpa using Array.mem_of_getElem? ht
        have hall : ([26, 3, 3, 28, 24, 71, 24].all fun u => !Tryz.prog.wantsStandIn u) = true := by kernel_rfl
        exact (show Tryz.prog.wantsStandIn t = false by simpa using List.all_eq_true.1 hall t hm)⟩)
    (by kernel_rfl)
end Go.Proofs.YthhpelmjnmlgjaaGreatDoor.engineAgain
