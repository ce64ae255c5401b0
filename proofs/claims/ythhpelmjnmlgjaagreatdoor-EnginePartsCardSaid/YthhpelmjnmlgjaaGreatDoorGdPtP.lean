/- stratigraphlaw11.EngineParts returns true for every input, and what was there before the call is as it was: the tied card. Condition: the two tables of unicode/utf8 are as their initialisers lay them (tied to the program's text by the card). -/
import Derived.Test.YthhpelmjnmlgjaaGreatDoorPt6
import Derived.Test.YthhpelmjnmlgjaaGreatDoorCards
import Derived.Test.YthhpelmjnmlgjaaGreatDoorTie
import Derived.Lay
import Derived.LaidLaws
import Derived.SevenTiedAt
set_option linter.unusedVariables false
namespace Go.Proofs.YthhpelmjnmlgjaaGreatDoor.engineParts
open Go.ChangeShapes Go.WideShapes Go.ChangeAt Go.RowKit

theorem own : ownKnob Tryz.prog.godebug = none := by kernel_rfl
theorem laidOut : laidOutB Tryz.prog = true := by kernel_rfl
theorem extra : U8Extra Tryz.prog Tryz.lays260_ren := ⟨by kernel_rfl, by kernel_rfl, by kernel_rfl, by kernel_rfl, by kernel_rfl, by kernel_rfl, by kernel_rfl⟩
set_option maxRecDepth 100000 in
theorem accept_eq : Rows.laid_unicode_utf8_acceptRanges = Lib.acceptData := by kernel_rfl
set_option maxRecDepth 100000 in
theorem first_eq : Rows.laid_unicode_utf8_first = Lib.firstData := by kernel_rfl

theorem tabs {W : World} (h : laidMet Tryz.prog Rows.enginePartsRow.laid W) : Lib.Utf8Tabs 0 1 W := by
  have h3 := Lib.laidMet.reads h (.head _)
  have h4 := Lib.laidMet.reads h (.tail _ (.head _))
  rw [accept_eq] at h3
  rw [first_eq] at h4
  exact utf8Tabs_of_reads Tryz.lays260 extra h4 h3

theorem walk (v0 v1 v2 v3 v4 v5 : Value) (W : World) (x0 : Gd.Cell) (x1 : Int) (x2 : Int) (x3 : ByteArray) (x4 : Int) (x5 : Int) (h0 : Awp.RepD (· < W.heap.size) W v0 (.agg (Gd.eCell x0))) (h1 : Awp.RepD (· < W.heap.size) W v1 (.s (.int .i64 x1))) (h2 : Awp.RepD (· < W.heap.size) W v2 (.s (.int .i64 x2))) (h3 : Awp.RepD (· < W.heap.size) W v3 (.s (.string x3))) (h4 : Awp.RepD (· < W.heap.size) W v4 (.s (.int .i64 x4))) (h5 : Awp.RepD (· < W.heap.size) W v5 (.s (.int .i64 x5))) (hT : Lib.Utf8Tabs 0 1 W)  :
    Calls Tryz.prog 10 #[v0, v1, v2, v3, v4, v5] W fun e w' => e = .returned (.bool true) ∧ Below W.heap.size W w' := by
  obtain ⟨k, hk⟩ := (Gd.parts x0 x1 x2 x3 x4 x5 ).ev.get
  refine (Gd.s10 k x0 x1 x2 x3 x4 x5 true hk W #[v0, v1, v2, v3, v4, v5] (· < W.heap.size) hT (fun _ h => h) rfl (fun i v x g1 g2 => ?_)).mono fun e w' ⟨v, e1, e2, e3⟩ => ⟨?_, e2⟩
  · match i with
    | 0 => simp at g1 g2; subst g1; subst g2; exact h0
    | 1 => simp at g1 g2; subst g1; subst g2; exact h1
    | 2 => simp at g1 g2; subst g1; subst g2; exact h2
    | 3 => simp at g1 g2; subst g1; subst g2; exact h3
    | 4 => simp at g1 g2; subst g1; subst g2; exact h4
    | 5 => simp at g1 g2; subst g1; subst g2; exact h5
    | i + 6 => simp at g1
  · subst e1
    cases e3 with
    | one h => cases h; rfl
    | many h => exact absurd rfl h

set_option maxRecDepth 100000 in
theorem lifted (os : Os) (started : os.Started) (H : Type) (enc : TypeId × Value → H) :
    ReturnsInHanded {} Tryz.checked os 10 .any (fun w args => (Rows.enginePartsSpec.pre enc Tryz.prog Tryz.f10 [] false w args ∧ laidMetH Tryz.prog Rows.enginePartsRow.laid w) ∧ sizedMet enc Tryz.prog Tryz.f10 (OpenSpec.ofChange Rows.enginePartsSpec) false w args)
      (Rows.enginePartsSpec.post enc Tryz.prog Tryz.f10 false true false false) := by
  refine returnsInHanded_of_change_and (C := Tryz.checked) (X := fun w _ => laidMetH Tryz.prog Rows.enginePartsRow.laid w) (fun _ _ _ hh h => h.of_heap hh) own started (by kernel_rfl) Tryz.func10
    (ChangeSpec.witness_shaped (enc := enc) (C := Tryz.checked) (os := os) (X := fun w _ => laidMetH Tryz.prog Rows.enginePartsRow.laid w) false (World.laidAll Tryz.prog os Rows.enginePartsRow.laid) #[(.agg #[(.slice none 0 0), (.int .i64 0), (.int .i64 0), (.int .i64 0), (.int .i64 0)]), (.int .i64 0), (.int .i64 0), (.string ⟨#[]⟩), (.int .i64 0), (.int .i64 0)] 8 (World.laidAll_os _ _ _)
      (World.shaped_of_ZipB (by kernel_rfl) (by kernel_rfl)) (by kernel_rfl) (by kernel_rfl) (by kernel_rfl)
      (by rw [MakeChecks.laidMetH_plain _ _ _ (by kernel_rfl)]; exact laidMet_laidAll _ (by kernel_rfl) (by kernel_rfl))) ?_
  intro W base args ds gs before hval0 hW _ _ hL _
  have hval : ∀ (j : Nat) t v, Tryz.f10.params[j]? = some t → args[j]? = some v → Value.okWide Tryz.prog W .any base t v := hval0
  have hW' := hW
  obtain ⟨p, q, hA0, hV, rfl, _, _⟩ := hW
  have hA' : DataW.TrodAll enc Tryz.prog W 0 (fun _ => true) true Tryz.f10.params.toList args.toList ds p := hA0
  have hA := hA'
  rw [Tryz.params10] at hA hval
  obtain ⟨rfl, rfl⟩ := trodVars_none hV
  obtain ⟨v0, vs0, d0, ds0, p0, q0, hargs, rfl, rfl, h0, r0⟩ := trodAll_cons hA
  obtain ⟨v1, vs1, d1, ds1, p1, q1, rfl, rfl, rfl, h1, r1⟩ := trodAll_cons r0
  obtain ⟨v2, vs2, d2, ds2, p2, q2, rfl, rfl, rfl, h2, r2⟩ := trodAll_cons r1
  obtain ⟨v3, vs3, d3, ds3, p3, q3, rfl, rfl, rfl, h3, r3⟩ := trodAll_cons r2
  obtain ⟨v4, vs4, d4, ds4, p4, q4, rfl, rfl, rfl, h4, r4⟩ := trodAll_cons r3
  obtain ⟨v5, vs5, d5, ds5, p5, q5, rfl, rfl, rfl, h5, r5⟩ := trodAll_cons r4
  obtain ⟨rfl, rfl, rfl⟩ := trodAll_nil r5
  obtain rfl : args = #[v0, v1, v2, v3, v4, v5] := by cases args; simp_all
  obtain ⟨x0, hx0⟩ := Awp.dc_agg Tryz.underlying26 Gd.dc26 (hval 0 26 v0 rfl rfl) h0
  obtain ⟨x1, hx1⟩ := Awp.dc_int Tryz.underlying3 Gd.dc3 (hval 1 3 v1 rfl rfl) h1
  obtain ⟨x2, hx2⟩ := Awp.dc_int Tryz.underlying3 Gd.dc3 (hval 2 3 v2 rfl rfl) h2
  obtain ⟨x3, hx3⟩ := Awp.dc_str Tryz.underlying9 Gd.dc9 (hval 3 9 v3 rfl rfl) h3
  obtain ⟨x4, hx4⟩ := Awp.dc_int Tryz.underlying3 Gd.dc3 (hval 4 3 v4 rfl rfl) h4
  obtain ⟨x5, hx5⟩ := Awp.dc_int Tryz.underlying3 Gd.dc3 (hval 5 3 v5 rfl rfl) h5
  simp only [List.append_nil] at hW'
  rw [MakeChecks.laidMetH_plain _ _ _ (by kernel_rfl)] at hL
  refine (walk v0 v1 v2 v3 v4 v5 W x0 x1 x2 x3 x4 x5 hx0 hx1 hx2 hx3 hx4 hx5 (tabs hL) ).mono fun e W' ⟨he, hg⟩ => ?_
  subst he
  exact ⟨_, rfl, Awp.law_post (tb := 4) laidOut (by kernel_rfl) hW' hA' (by simp) rfl rfl rfl rfl rfl Tryz.underlying4 (ok_one (by kernel_rfl) rfl (okWide_bool_mk Tryz.underlying4 _)) hg⟩

theorem band {a b : Bool} (ha : a = true) (hb : b = true) : (a && b) = true := by rw [ha, hb]; rfl
set_option maxHeartbeats 4000000 in
theorem joined : joinedFacts Tryz.pinned.checked.prog 10 Tryz.f10 Rows.enginePartsSpec Rows.enginePartsRow = true := by
  unfold joinedFacts
  repeat' (with_reducible refine band ?_ ?_)
  all_goals as_aux_lemma => kernel_rfl
set_option maxHeartbeats 4000000 in
theorem over : Rows.enginePartsRow.holds Tryz.pinned (OpenSpec.ofChange Rows.enginePartsSpec) :=
  OpenClaim.holds_of_wide 10 Tryz.f10 rfl rfl rfl rfl rfl rfl rfl ⟨rfl, rfl, rfl, rfl, rfl⟩ rfl rfl rfl rfl rfl (by kernel_rfl) Tryz.func10 (by exact joined)
    (of_decide_eq_true (by kernel_rfl)) (by unfold Func.isWrapper; first | (rw [if_pos (by decide +kernel)]; kernel_rfl) | (rw [if_neg (by decide +kernel)]; exact ⟨rfl, rfl⟩))
    (fun os started H enc _ => lifted os started H enc)

theorem proved : Rows.EnginePartsCardSaid :=
  Claim7.holds_tied_plain_at .later [] [.data, .pinned] true (true, "a5f38efe01d2f11ccaaeb0180c827dc94fc79ce6d84c59bfb0c07c85524946a8") false over (fun _ h => by cases h) (by kernel_rfl) (fun _ h => by cases h) engineParts_row_tie rfl ⟨rfl, rfl⟩ (by kernel_rfl) rfl
    (fun f fn hf hfn => by
      obtain rfl : f = 10 := Option.some.inj ((show Tryz.prog.funcNamed "stratigraph/stratigraphlaw11.EngineParts" = some 10 by kernel_rfl).symm.trans hf) |>.symm
      obtain rfl : fn = Tryz.f10 := (Option.some.inj (Tryz.func10.symm.trans hfn)).symm
      exact ⟨by kernel_rfl, fun j t ht => by
        rw [Tryz.params10] at ht
        have hm : t ∈ [26, 3, 3, 9, 3, 3] := by simpa using Array.mem_of_getElem? ht
        have hall : ([26, 3, 3, 9, 3, 3].all fun u => !Tryz.prog.wantsStandIn u) = true := by kernel_rfl
        exact (show Tryz.prog.wantsStandIn t = false by simpa using List.all_eq_true.1 hall t hm)⟩)
    (by kernel_rfl)
end Go.Proofs.YthhpelmjnmlgjaaGreatDoor.engineParts
