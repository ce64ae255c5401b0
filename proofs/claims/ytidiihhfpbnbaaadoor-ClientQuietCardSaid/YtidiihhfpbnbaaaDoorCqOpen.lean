import Derived.Test.YtidiihhfpbnbaaaDoorProg
import Derived.Test.YtidiihhfpbnbaaaDoorCqDefs
import Derived.Test.YtidiihhfpbnbaaaDoorAwpOpen
import Derived.KernelRfl
set_option linter.unusedVariables false
namespace Go.Proofs.Cq
open Go Go.Awp Go.Proofs
theorem dc3 : Dc Tryd.prog 3 1 (eI .i64) := dcInt Tryd.underlying3 (by kernel_rfl)
theorem dc9 : Dc Tryd.prog 9 1 eS := dcStr Tryd.underlying9 (by kernel_rfl)
theorem dc57 : Dc Tryd.prog 57 2 eSpan := ⟨by kernel_rfl, fun enc W sp held fuel cs x hx => by
  obtain ⟨xs, n, _, _, hl, hxl, hf⟩ := DataW.trod_struct Tryd.underlying57 hx
  obtain ⟨a0, h0⟩ := field_some hxl hf (i := 0) (T := 9) (o := 0) rfl dc9
  obtain ⟨a1, h1⟩ := field_some hxl hf (i := 1) (T := 9) (o := 1) rfl dc9
  refine ⟨⟨a0, a1⟩, ?_⟩
  show RepC W cs ((eS a0) ++ ((eS a1) ++ ([])))
  exact repC_all (repC_glue h0 rfl (repC_glue h1 rfl (repC_end (hl.trans (by kernel_rfl)))))⟩
theorem dc59 : Dc Tryd.prog 59 5 ePlace := ⟨by kernel_rfl, fun enc W sp held fuel cs x hx => by
  obtain ⟨xs, n, _, _, hl, hxl, hf⟩ := DataW.trod_struct Tryd.underlying59 hx
  obtain ⟨a0, h0⟩ := field_some hxl hf (i := 0) (T := 57) (o := 0) rfl dc57
  obtain ⟨a1, h1⟩ := field_some hxl hf (i := 1) (T := 3) (o := 2) rfl dc3
  obtain ⟨a2, h2⟩ := field_some hxl hf (i := 2) (T := 3) (o := 3) rfl dc3
  obtain ⟨a3, h3⟩ := field_some hxl hf (i := 3) (T := 3) (o := 4) rfl dc3
  refine ⟨⟨a0, a1, a2, a3⟩, ?_⟩
  show RepC W cs ((eSpan a0) ++ ((eI .i64 a1) ++ ((eI .i64 a2) ++ ((eI .i64 a3) ++ ([])))))
  exact repC_all (repC_glue h0 rfl (repC_glue h1 rfl (repC_glue h2 rfl (repC_glue h3 rfl (repC_end (hl.trans (by kernel_rfl)))))))⟩
theorem dc22 : Dc Tryd.prog 22 1 (eL 5 ePlace) := dcSlice Tryd.underlying22 (by kernel_rfl) (ble _ _ rfl) dc59 tePlace
theorem dc23 : Dc Tryd.prog 23 1 (eL 1 (eI .i64)) := dcSlice Tryd.underlying23 (by kernel_rfl) (ble _ _ rfl) dc3 (encI .i64)
theorem dc4 : Dc Tryd.prog 4 1 eB := dcBool Tryd.underlying4 (by kernel_rfl)
theorem dc25 : Dc Tryd.prog 25 3 eStamp := ⟨by kernel_rfl, fun enc W sp held fuel cs x hx => by
  obtain ⟨xs, n, _, _, hl, hxl, hf⟩ := DataW.trod_struct Tryd.underlying25 hx
  obtain ⟨a0, h0⟩ := field_some hxl hf (i := 0) (T := 3) (o := 0) rfl dc3
  obtain ⟨a1, h1⟩ := field_some hxl hf (i := 1) (T := 3) (o := 1) rfl dc3
  obtain ⟨a2, h2⟩ := field_some hxl hf (i := 2) (T := 3) (o := 2) rfl dc3
  refine ⟨⟨a0, a1, a2⟩, ?_⟩
  show RepC W cs ((eI .i64 a0) ++ ((eI .i64 a1) ++ ((eI .i64 a2) ++ ([]))))
  exact repC_all (repC_glue h0 rfl (repC_glue h1 rfl (repC_glue h2 rfl (repC_end (hl.trans (by kernel_rfl))))))⟩
theorem dc27 : Dc Tryd.prog 27 12 eRequest := ⟨by kernel_rfl, fun enc W sp held fuel cs x hx => by
  obtain ⟨xs, n, _, _, hl, hxl, hf⟩ := DataW.trod_struct Tryd.underlying27 hx
  obtain ⟨a0, h0⟩ := field_some hxl hf (i := 0) (T := 3) (o := 0) rfl dc3
  obtain ⟨a1, h1⟩ := field_some hxl hf (i := 1) (T := 3) (o := 1) rfl dc3
  obtain ⟨a2, h2⟩ := field_some hxl hf (i := 2) (T := 3) (o := 2) rfl dc3
  obtain ⟨a3, h3⟩ := field_some hxl hf (i := 3) (T := 9) (o := 3) rfl dc9
  obtain ⟨a4, h4⟩ := field_some hxl hf (i := 4) (T := 9) (o := 4) rfl dc9
  obtain ⟨a5, h5⟩ := field_some hxl hf (i := 5) (T := 4) (o := 5) rfl dc4
  obtain ⟨a6, h6⟩ := field_some hxl hf (i := 6) (T := 9) (o := 6) rfl dc9
  obtain ⟨a7, h7⟩ := field_some hxl hf (i := 7) (T := 25) (o := 7) rfl dc25
  obtain ⟨a8, h8⟩ := field_some hxl hf (i := 8) (T := 9) (o := 10) rfl dc9
  obtain ⟨a9, h9⟩ := field_some hxl hf (i := 9) (T := 3) (o := 11) rfl dc3
  refine ⟨⟨a0, a1, a2, a3, a4, a5, a6, a7, a8, a9⟩, ?_⟩
  show RepC W cs ((eI .i64 a0) ++ ((eI .i64 a1) ++ ((eI .i64 a2) ++ ((eS a3) ++ ((eS a4) ++ ((eB a5) ++ ((eS a6) ++ ((eStamp a7) ++ ((eS a8) ++ ((eI .i64 a9) ++ ([])))))))))))
  exact repC_all (repC_glue h0 rfl (repC_glue h1 rfl (repC_glue h2 rfl (repC_glue h3 rfl (repC_glue h4 rfl (repC_glue h5 rfl (repC_glue h6 rfl (repC_glue h7 rfl (repC_glue h8 rfl (repC_glue h9 rfl (repC_end (hl.trans (by kernel_rfl)))))))))))))⟩
theorem dc29 : Dc Tryd.prog 29 18 eClient := ⟨by kernel_rfl, fun enc W sp held fuel cs x hx => by
  obtain ⟨xs, n, _, _, hl, hxl, hf⟩ := DataW.trod_struct Tryd.underlying29 hx
  obtain ⟨a0, h0⟩ := field_some hxl hf (i := 0) (T := 3) (o := 0) rfl dc3
  obtain ⟨a1, h1⟩ := field_some hxl hf (i := 1) (T := 3) (o := 1) rfl dc3
  obtain ⟨a2, h2⟩ := field_some hxl hf (i := 2) (T := 22) (o := 2) rfl dc22
  obtain ⟨a3, h3⟩ := field_some hxl hf (i := 3) (T := 23) (o := 3) rfl dc23
  obtain ⟨a4, h4⟩ := field_some hxl hf (i := 4) (T := 27) (o := 4) rfl dc27
  obtain ⟨a5, h5⟩ := field_some hxl hf (i := 5) (T := 4) (o := 16) rfl dc4
  obtain ⟨a6, h6⟩ := field_some hxl hf (i := 6) (T := 3) (o := 17) rfl dc3
  refine ⟨⟨a0, a1, a2, a3, a4, a5, a6⟩, ?_⟩
  show RepC W cs ((eI .i64 a0) ++ ((eI .i64 a1) ++ ((eL 5 ePlace a2) ++ ((eL 1 (eI .i64) a3) ++ ((eRequest a4) ++ ((eB a5) ++ ((eI .i64 a6) ++ ([]))))))))
  exact repC_all (repC_glue h0 rfl (repC_glue h1 rfl (repC_glue h2 rfl (repC_glue h3 rfl (repC_glue h4 rfl (repC_glue h5 rfl (repC_glue h6 rfl (repC_end (hl.trans (by kernel_rfl))))))))))⟩
theorem dc30 : Dc Tryd.prog 30 1 (eI .i64) := dcInt Tryd.underlying30 (by kernel_rfl)
theorem dc109 : Dc Tryd.prog 109 2 eItem := ⟨by kernel_rfl, fun enc W sp held fuel cs x hx => by
  obtain ⟨xs, n, _, _, hl, hxl, hf⟩ := DataW.trod_struct Tryd.underlying109 hx
  obtain ⟨a0, h0⟩ := field_some hxl hf (i := 0) (T := 9) (o := 0) rfl dc9
  obtain ⟨a1, h1⟩ := field_some hxl hf (i := 1) (T := 9) (o := 1) rfl dc9
  refine ⟨⟨a0, a1⟩, ?_⟩
  show RepC W cs ((eS a0) ++ ((eS a1) ++ ([])))
  exact repC_all (repC_glue h0 rfl (repC_glue h1 rfl (repC_end (hl.trans (by kernel_rfl)))))⟩
theorem dc31 : Dc Tryd.prog 31 1 (eL 2 eItem) := dcSlice Tryd.underlying31 (by kernel_rfl) (ble _ _ rfl) dc109 teItem
theorem dc33 : Dc Tryd.prog 33 9 eAnswer := ⟨by kernel_rfl, fun enc W sp held fuel cs x hx => by
  obtain ⟨xs, n, _, _, hl, hxl, hf⟩ := DataW.trod_struct Tryd.underlying33 hx
  obtain ⟨a0, h0⟩ := field_some hxl hf (i := 0) (T := 30) (o := 0) rfl dc30
  obtain ⟨a1, h1⟩ := field_some hxl hf (i := 1) (T := 25) (o := 1) rfl dc25
  obtain ⟨a2, h2⟩ := field_some hxl hf (i := 2) (T := 4) (o := 4) rfl dc4
  obtain ⟨a3, h3⟩ := field_some hxl hf (i := 3) (T := 9) (o := 5) rfl dc9
  obtain ⟨a4, h4⟩ := field_some hxl hf (i := 4) (T := 31) (o := 6) rfl dc31
  obtain ⟨a5, h5⟩ := field_some hxl hf (i := 5) (T := 9) (o := 7) rfl dc9
  obtain ⟨a6, h6⟩ := field_some hxl hf (i := 6) (T := 4) (o := 8) rfl dc4
  refine ⟨⟨a0, a1, a2, a3, a4, a5, a6⟩, ?_⟩
  show RepC W cs ((eI .i64 a0) ++ ((eStamp a1) ++ ((eB a2) ++ ((eS a3) ++ ((eL 2 eItem a4) ++ ((eS a5) ++ ((eB a6) ++ ([]))))))))
  exact repC_all (repC_glue h0 rfl (repC_glue h1 rfl (repC_glue h2 rfl (repC_glue h3 rfl (repC_glue h4 rfl (repC_glue h5 rfl (repC_glue h6 rfl (repC_end (hl.trans (by kernel_rfl))))))))))⟩
theorem dc35 : Dc Tryd.prog 35 36 eMsg := ⟨by kernel_rfl, fun enc W sp held fuel cs x hx => by
  obtain ⟨xs, n, _, _, hl, hxl, hf⟩ := DataW.trod_struct Tryd.underlying35 hx
  obtain ⟨a0, h0⟩ := field_some hxl hf (i := 0) (T := 3) (o := 0) rfl dc3
  obtain ⟨a1, h1⟩ := field_some hxl hf (i := 1) (T := 3) (o := 1) rfl dc3
  obtain ⟨a2, h2⟩ := field_some hxl hf (i := 2) (T := 3) (o := 2) rfl dc3
  obtain ⟨a3, h3⟩ := field_some hxl hf (i := 3) (T := 3) (o := 3) rfl dc3
  obtain ⟨a4, h4⟩ := field_some hxl hf (i := 4) (T := 3) (o := 4) rfl dc3
  obtain ⟨a5, h5⟩ := field_some hxl hf (i := 5) (T := 3) (o := 5) rfl dc3
  obtain ⟨a6, h6⟩ := field_some hxl hf (i := 6) (T := 3) (o := 6) rfl dc3
  obtain ⟨a7, h7⟩ := field_some hxl hf (i := 7) (T := 3) (o := 7) rfl dc3
  obtain ⟨a8, h8⟩ := field_some hxl hf (i := 8) (T := 3) (o := 8) rfl dc3
  obtain ⟨a9, h9⟩ := field_some hxl hf (i := 9) (T := 25) (o := 9) rfl dc25
  obtain ⟨a10, h10⟩ := field_some hxl hf (i := 10) (T := 9) (o := 12) rfl dc9
  obtain ⟨a11, h11⟩ := field_some hxl hf (i := 11) (T := 27) (o := 13) rfl dc27
  obtain ⟨a12, h12⟩ := field_some hxl hf (i := 12) (T := 33) (o := 25) rfl dc33
  obtain ⟨a13, h13⟩ := field_some hxl hf (i := 13) (T := 22) (o := 34) rfl dc22
  obtain ⟨a14, h14⟩ := field_some hxl hf (i := 14) (T := 23) (o := 35) rfl dc23
  refine ⟨⟨a0, a1, a2, a3, a4, a5, a6, a7, a8, a9, a10, a11, a12, a13, a14⟩, ?_⟩
  show RepC W cs ((eI .i64 a0) ++ ((eI .i64 a1) ++ ((eI .i64 a2) ++ ((eI .i64 a3) ++ ((eI .i64 a4) ++ ((eI .i64 a5) ++ ((eI .i64 a6) ++ ((eI .i64 a7) ++ ((eI .i64 a8) ++ ((eStamp a9) ++ ((eS a10) ++ ((eRequest a11) ++ ((eAnswer a12) ++ ((eL 5 ePlace a13) ++ ((eL 1 (eI .i64) a14) ++ ([]))))))))))))))))
  exact repC_all (repC_glue h0 rfl (repC_glue h1 rfl (repC_glue h2 rfl (repC_glue h3 rfl (repC_glue h4 rfl (repC_glue h5 rfl (repC_glue h6 rfl (repC_glue h7 rfl (repC_glue h8 rfl (repC_glue h9 rfl (repC_glue h10 rfl (repC_glue h11 rfl (repC_glue h12 rfl (repC_glue h13 rfl (repC_glue h14 rfl (repC_end (hl.trans (by kernel_rfl))))))))))))))))))⟩
end Go.Proofs.Cq
