/- stratigraphlaw03.FrameLong returns true for every int8, and the world that was there before the call is as it was. No condition. -/
import Derived.Test.YtidiihhfpbnbaaaRows
import Derived.Test.YtidiihhfpbnbaaaFlWalk
import Derived.Test.YtidiihhfpbnbaaaFlPure2
import Derived.Test.YtidiihhfpbnbaaaAwpPost
namespace Go.Proofs.Ytidiihhfpbnbaaa.frameLong
open Go.ChangeShapes Go.WideShapes Go.ChangeAt Go.RowKit
set_option linter.unusedVariables false

theorem own : ownKnob Try.prog.godebug = none := by kernel_rfl

theorem walk (a0 : Int) (w0 : (Lit.int .i8 a0).wf = true) (w : World) :
    Calls Try.prog 3 #[.int .i8 a0] w fun e w' => e = .returned (.bool true) ∧ Below w.heap.size w w' := by
  have hx : -128 ≤ a0 ∧ a0 ≤ 127 := by simpa [Lit.wf, IntKind.min, IntKind.max, IntKind.signed, IntKind.bits] using w0
  obtain ⟨k, hk⟩ := Fl.law a0 hx.1 hx.2
  refine (Fl.s3 (A := Awp.Amb.any) k a0 true hk w #[.int .i8 a0] (fun _ => False) trivial (fun _ h => h.elim) rfl (fun i v x h1 h2 => ?_)).mono fun e w' ⟨v, h1, h2, h3⟩ => ⟨?_, h2⟩
  · match i with
    | 0 => simp at h1 h2; subst h1; subst h2; exact .s _
    | i + 1 => simp at h1
  · subst h1
    cases h3 with
    | one h => cases h; rfl
    | many h1 => exact absurd rfl h1

set_option maxRecDepth 100000 in
theorem lifted (os : Os) (started : os.Started) (H : Type) (enc : TypeId × Value → H) :
    ReturnsInHanded {} Try.checked os 3 .any (Rows.frameLongSpec.pre6 enc Try.prog Try.f3 Rows.frameLongRow.domain false) (Rows.frameLongSpec.post enc Try.prog Try.f3 false true false false) := by
  refine returnsInHanded_of_change (C := Try.checked) own started (by kernel_rfl) Try.func3
    (ChangeSpec.witness6 (enc := enc) (C := Try.checked) false ⟨#[], #[.int .i8 0], []⟩ 8 (by kernel_rfl) (by kernel_rfl) (by kernel_rfl) (by kernel_rfl)) ?_
  intro W base args ds gs before hval0 hW hcnd _
  have hval : ∀ (j : Nat) t v, Try.f3.params[j]? = some t → args[j]? = some v → Value.okWide Try.prog W .any base t v := hval0
  have hW' := hW
  obtain ⟨p, q, hA0, hV, rfl, hfz, hnd⟩ := hW
  have hA : DataW.TrodAll enc Try.prog W 0 (fun _ => true) true Try.f3.params.toList args.toList ds p := hA0
  rw [Try.params3] at hA hval
  obtain ⟨v0, vs0, d0, ds0, p0, q0, hargs, rfl, rfl, h0, r0⟩ := trodAll_cons hA
  obtain ⟨rfl, rfl, rfl⟩ := trodAll_nil r0
  obtain rfl : args = #[v0] := by cases args; simp_all
  obtain ⟨rfl, rfl⟩ := trodVars_none hV
  obtain ⟨a0, rfl, rfl, rfl, w0⟩ := open_int Try.underlying22 (hval 0 22 v0 rfl rfl) h0
  clear hA0 hval0
  simp only [List.append_nil] at hW'
  refine (walk a0 w0 W).mono fun e W' ⟨he, hg⟩ => ?_
  subst he
  exact ⟨_, rfl, Awp.post_of_below (pa := []) (pv := []) hW' (fun _ _ _ => (trodAll_cons_mk (shut_bool Try.underlying4 _) trodAll_mk0)) (fun sp _ => (trodAll_cons_mk (shut_int Try.underlying22 w0) trodAll_mk0)) (fun _ _ => rfl) rfl
    hg (ok_one (by kernel_rfl) rfl (okWide_bool_mk Try.underlying4 _))⟩

theorem over : Rows.frameLongRow.holds Try.pinned (OpenSpec.ofChange Rows.frameLongSpec) :=
  OpenClaim.holds_of_wide 3 Try.f3 rfl rfl rfl rfl rfl rfl rfl ⟨rfl, rfl, rfl, rfl, rfl⟩ rfl rfl rfl rfl rfl (by kernel_rfl) Try.func3 (by kernel_rfl)
    (of_decide_eq_true (by kernel_rfl)) (by unfold Func.isWrapper; first | (rw [if_pos (by decide +kernel)]; kernel_rfl) | (rw [if_neg (by decide +kernel)]; exact ⟨rfl, rfl⟩))
    (fun os started H enc _ => lifted os started H enc)

theorem proved : Rows.FrameLongSaid :=
  over
end Go.Proofs.Ytidiihhfpbnbaaa.frameLong
