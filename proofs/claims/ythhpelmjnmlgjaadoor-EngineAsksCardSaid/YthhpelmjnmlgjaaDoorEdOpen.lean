import Derived.Test.YthhpelmjnmlgjaaDoorProg
import Derived.Test.YthhpelmjnmlgjaaDoorEdDefs
import Derived.Test.YthhpelmjnmlgjaaDoorAwpOpen
import Derived.KernelRfl
set_option linter.unusedVariables false
namespace Go.Proofs.Ed
open Go Go.Awp Go.Proofs
theorem dc3 : Dc Tryd.prog 3 1 (eI .i64) := dcInt Tryd.underlying3 (by kernel_rfl)
theorem dc9 : Dc Tryd.prog 9 1 eS := dcStr Tryd.underlying9 (by kernel_rfl)
theorem dc4 : Dc Tryd.prog 4 1 eB := dcBool Tryd.underlying4 (by kernel_rfl)
theorem dc23 : Dc Tryd.prog 23 3 eStamp := ⟨by kernel_rfl, fun enc W sp held fuel cs x hx => by
  obtain ⟨xs, n, _, _, hl, hxl, hf⟩ := DataW.trod_struct Tryd.underlying23 hx
  obtain ⟨a0, h0⟩ := field_some hxl hf (i := 0) (T := 3) (o := 0) rfl dc3
  obtain ⟨a1, h1⟩ := field_some hxl hf (i := 1) (T := 3) (o := 1) rfl dc3
  obtain ⟨a2, h2⟩ := field_some hxl hf (i := 2) (T := 3) (o := 2) rfl dc3
  refine ⟨⟨a0, a1, a2⟩, ?_⟩
  show RepC W cs ((eI .i64 a0) ++ ((eI .i64 a1) ++ ((eI .i64 a2) ++ ([]))))
  exact repC_all (repC_glue h0 rfl (repC_glue h1 rfl (repC_glue h2 rfl (repC_end (hl.trans (by kernel_rfl))))))⟩
theorem dc25 : Dc Tryd.prog 25 12 eRequest := ⟨by kernel_rfl, fun enc W sp held fuel cs x hx => by
  obtain ⟨xs, n, _, _, hl, hxl, hf⟩ := DataW.trod_struct Tryd.underlying25 hx
  obtain ⟨a0, h0⟩ := field_some hxl hf (i := 0) (T := 3) (o := 0) rfl dc3
  obtain ⟨a1, h1⟩ := field_some hxl hf (i := 1) (T := 3) (o := 1) rfl dc3
  obtain ⟨a2, h2⟩ := field_some hxl hf (i := 2) (T := 3) (o := 2) rfl dc3
  obtain ⟨a3, h3⟩ := field_some hxl hf (i := 3) (T := 9) (o := 3) rfl dc9
  obtain ⟨a4, h4⟩ := field_some hxl hf (i := 4) (T := 9) (o := 4) rfl dc9
  obtain ⟨a5, h5⟩ := field_some hxl hf (i := 5) (T := 4) (o := 5) rfl dc4
  obtain ⟨a6, h6⟩ := field_some hxl hf (i := 6) (T := 9) (o := 6) rfl dc9
  obtain ⟨a7, h7⟩ := field_some hxl hf (i := 7) (T := 23) (o := 7) rfl dc23
  obtain ⟨a8, h8⟩ := field_some hxl hf (i := 8) (T := 9) (o := 10) rfl dc9
  obtain ⟨a9, h9⟩ := field_some hxl hf (i := 9) (T := 3) (o := 11) rfl dc3
  refine ⟨⟨a0, a1, a2, a3, a4, a5, a6, a7, a8, a9⟩, ?_⟩
  show RepC W cs ((eI .i64 a0) ++ ((eI .i64 a1) ++ ((eI .i64 a2) ++ ((eS a3) ++ ((eS a4) ++ ((eB a5) ++ ((eS a6) ++ ((eStamp a7) ++ ((eS a8) ++ ((eI .i64 a9) ++ ([])))))))))))
  exact repC_all (repC_glue h0 rfl (repC_glue h1 rfl (repC_glue h2 rfl (repC_glue h3 rfl (repC_glue h4 rfl (repC_glue h5 rfl (repC_glue h6 rfl (repC_glue h7 rfl (repC_glue h8 rfl (repC_glue h9 rfl (repC_end (hl.trans (by kernel_rfl)))))))))))))⟩
theorem dc46 : Dc Tryd.prog 46 2 eSpan := ⟨by kernel_rfl, fun enc W sp held fuel cs x hx => by
  obtain ⟨xs, n, _, _, hl, hxl, hf⟩ := DataW.trod_struct Tryd.underlying46 hx
  obtain ⟨a0, h0⟩ := field_some hxl hf (i := 0) (T := 9) (o := 0) rfl dc9
  obtain ⟨a1, h1⟩ := field_some hxl hf (i := 1) (T := 9) (o := 1) rfl dc9
  refine ⟨⟨a0, a1⟩, ?_⟩
  show RepC W cs ((eS a0) ++ ((eS a1) ++ ([])))
  exact repC_all (repC_glue h0 rfl (repC_glue h1 rfl (repC_end (hl.trans (by kernel_rfl)))))⟩
theorem dc84 : Dc Tryd.prog 84 5 eVersion := ⟨by kernel_rfl, fun enc W sp held fuel cs x hx => by
  obtain ⟨xs, n, _, _, hl, hxl, hf⟩ := DataW.trod_struct Tryd.underlying84 hx
  obtain ⟨a0, h0⟩ := field_some hxl hf (i := 0) (T := 23) (o := 0) rfl dc23
  obtain ⟨a1, h1⟩ := field_some hxl hf (i := 1) (T := 4) (o := 3) rfl dc4
  obtain ⟨a2, h2⟩ := field_some hxl hf (i := 2) (T := 9) (o := 4) rfl dc9
  refine ⟨⟨a0, a1, a2⟩, ?_⟩
  show RepC W cs ((eStamp a0) ++ ((eB a1) ++ ((eS a2) ++ ([]))))
  exact repC_all (repC_glue h0 rfl (repC_glue h1 rfl (repC_glue h2 rfl (repC_end (hl.trans (by kernel_rfl))))))⟩
theorem dc98 : Dc Tryd.prog 98 1 (eL 5 eVersion) := dcSlice Tryd.underlying98 (by kernel_rfl) (ble _ _ rfl) dc84 teVersion
theorem dc100 : Dc Tryd.prog 100 2 eEntry := ⟨by kernel_rfl, fun enc W sp held fuel cs x hx => by
  obtain ⟨xs, n, _, _, hl, hxl, hf⟩ := DataW.trod_struct Tryd.underlying100 hx
  obtain ⟨a0, h0⟩ := field_some hxl hf (i := 0) (T := 9) (o := 0) rfl dc9
  obtain ⟨a1, h1⟩ := field_some hxl hf (i := 1) (T := 98) (o := 1) rfl dc98
  refine ⟨⟨a0, a1⟩, ?_⟩
  show RepC W cs ((eS a0) ++ ((eL 5 eVersion a1) ++ ([])))
  exact repC_all (repC_glue h0 rfl (repC_glue h1 rfl (repC_end (hl.trans (by kernel_rfl)))))⟩
theorem dc47 : Dc Tryd.prog 47 1 (eL 2 eEntry) := dcSlice Tryd.underlying47 (by kernel_rfl) (ble _ _ rfl) dc100 teEntry
theorem dc32 : Dc Tryd.prog 32 1 (eI .i64) := dcInt Tryd.underlying32 (by kernel_rfl)
theorem dc118 : Dc Tryd.prog 118 2 eItem := ⟨by kernel_rfl, fun enc W sp held fuel cs x hx => by
  obtain ⟨xs, n, _, _, hl, hxl, hf⟩ := DataW.trod_struct Tryd.underlying118 hx
  obtain ⟨a0, h0⟩ := field_some hxl hf (i := 0) (T := 9) (o := 0) rfl dc9
  obtain ⟨a1, h1⟩ := field_some hxl hf (i := 1) (T := 9) (o := 1) rfl dc9
  refine ⟨⟨a0, a1⟩, ?_⟩
  show RepC W cs ((eS a0) ++ ((eS a1) ++ ([])))
  exact repC_all (repC_glue h0 rfl (repC_glue h1 rfl (repC_end (hl.trans (by kernel_rfl)))))⟩
theorem dc33 : Dc Tryd.prog 33 1 (eL 2 eItem) := dcSlice Tryd.underlying33 (by kernel_rfl) (ble _ _ rfl) dc118 teItem
theorem dc35 : Dc Tryd.prog 35 9 eAnswer := ⟨by kernel_rfl, fun enc W sp held fuel cs x hx => by
  obtain ⟨xs, n, _, _, hl, hxl, hf⟩ := DataW.trod_struct Tryd.underlying35 hx
  obtain ⟨a0, h0⟩ := field_some hxl hf (i := 0) (T := 32) (o := 0) rfl dc32
  obtain ⟨a1, h1⟩ := field_some hxl hf (i := 1) (T := 23) (o := 1) rfl dc23
  obtain ⟨a2, h2⟩ := field_some hxl hf (i := 2) (T := 4) (o := 4) rfl dc4
  obtain ⟨a3, h3⟩ := field_some hxl hf (i := 3) (T := 9) (o := 5) rfl dc9
  obtain ⟨a4, h4⟩ := field_some hxl hf (i := 4) (T := 33) (o := 6) rfl dc33
  obtain ⟨a5, h5⟩ := field_some hxl hf (i := 5) (T := 9) (o := 7) rfl dc9
  obtain ⟨a6, h6⟩ := field_some hxl hf (i := 6) (T := 4) (o := 8) rfl dc4
  refine ⟨⟨a0, a1, a2, a3, a4, a5, a6⟩, ?_⟩
  show RepC W cs ((eI .i64 a0) ++ ((eStamp a1) ++ ((eB a2) ++ ((eS a3) ++ ((eL 2 eItem a4) ++ ((eS a5) ++ ((eB a6) ++ ([]))))))))
  exact repC_all (repC_glue h0 rfl (repC_glue h1 rfl (repC_glue h2 rfl (repC_glue h3 rfl (repC_glue h4 rfl (repC_glue h5 rfl (repC_glue h6 rfl (repC_end (hl.trans (by kernel_rfl))))))))))⟩
theorem dc78 : Dc Tryd.prog 78 11 eDone := ⟨by kernel_rfl, fun enc W sp held fuel cs x hx => by
  obtain ⟨xs, n, _, _, hl, hxl, hf⟩ := DataW.trod_struct Tryd.underlying78 hx
  obtain ⟨a0, h0⟩ := field_some hxl hf (i := 0) (T := 3) (o := 0) rfl dc3
  obtain ⟨a1, h1⟩ := field_some hxl hf (i := 1) (T := 3) (o := 1) rfl dc3
  obtain ⟨a2, h2⟩ := field_some hxl hf (i := 2) (T := 35) (o := 2) rfl dc35
  refine ⟨⟨a0, a1, a2⟩, ?_⟩
  show RepC W cs ((eI .i64 a0) ++ ((eI .i64 a1) ++ ((eAnswer a2) ++ ([]))))
  exact repC_all (repC_glue h0 rfl (repC_glue h1 rfl (repC_glue h2 rfl (repC_end (hl.trans (by kernel_rfl))))))⟩
theorem dc48 : Dc Tryd.prog 48 1 (eL 11 eDone) := dcSlice Tryd.underlying48 (by kernel_rfl) (ble _ _ rfl) dc78 teDone
theorem dc50 : Dc Tryd.prog 50 17 eShard := ⟨by kernel_rfl, fun enc W sp held fuel cs x hx => by
  obtain ⟨xs, n, _, _, hl, hxl, hf⟩ := DataW.trod_struct Tryd.underlying50 hx
  obtain ⟨a0, h0⟩ := field_some hxl hf (i := 0) (T := 3) (o := 0) rfl dc3
  obtain ⟨a1, h1⟩ := field_some hxl hf (i := 1) (T := 3) (o := 1) rfl dc3
  obtain ⟨a2, h2⟩ := field_some hxl hf (i := 2) (T := 46) (o := 2) rfl dc46
  obtain ⟨a3, h3⟩ := field_some hxl hf (i := 3) (T := 3) (o := 4) rfl dc3
  obtain ⟨a4, h4⟩ := field_some hxl hf (i := 4) (T := 47) (o := 5) rfl dc47
  obtain ⟨a5, h5⟩ := field_some hxl hf (i := 5) (T := 23) (o := 6) rfl dc23
  obtain ⟨a6, h6⟩ := field_some hxl hf (i := 6) (T := 23) (o := 9) rfl dc23
  obtain ⟨a7, h7⟩ := field_some hxl hf (i := 7) (T := 48) (o := 12) rfl dc48
  obtain ⟨a8, h8⟩ := field_some hxl hf (i := 8) (T := 3) (o := 13) rfl dc3
  obtain ⟨a9, h9⟩ := field_some hxl hf (i := 9) (T := 3) (o := 14) rfl dc3
  obtain ⟨a10, h10⟩ := field_some hxl hf (i := 10) (T := 3) (o := 15) rfl dc3
  obtain ⟨a11, h11⟩ := field_some hxl hf (i := 11) (T := 3) (o := 16) rfl dc3
  refine ⟨⟨a0, a1, a2, a3, a4, a5, a6, a7, a8, a9, a10, a11⟩, ?_⟩
  show RepC W cs ((eI .i64 a0) ++ ((eI .i64 a1) ++ ((eSpan a2) ++ ((eI .i64 a3) ++ ((eL 2 eEntry a4) ++ ((eStamp a5) ++ ((eStamp a6) ++ ((eL 11 eDone a7) ++ ((eI .i64 a8) ++ ((eI .i64 a9) ++ ((eI .i64 a10) ++ ((eI .i64 a11) ++ ([])))))))))))))
  exact repC_all (repC_glue h0 rfl (repC_glue h1 rfl (repC_glue h2 rfl (repC_glue h3 rfl (repC_glue h4 rfl (repC_glue h5 rfl (repC_glue h6 rfl (repC_glue h7 rfl (repC_glue h8 rfl (repC_glue h9 rfl (repC_glue h10 rfl (repC_glue h11 rfl (repC_end (hl.trans (by kernel_rfl)))))))))))))))⟩
theorem dc28 : Dc Tryd.prog 28 1 (eL 17 eShard) := dcSlice Tryd.underlying28 (by kernel_rfl) (ble _ _ rfl) dc50 teShard
theorem dc30 : Dc Tryd.prog 30 5 eCell := ⟨by kernel_rfl, fun enc W sp held fuel cs x hx => by
  obtain ⟨xs, n, _, _, hl, hxl, hf⟩ := DataW.trod_struct Tryd.underlying30 hx
  obtain ⟨a0, h0⟩ := field_some hxl hf (i := 0) (T := 28) (o := 0) rfl dc28
  obtain ⟨a1, h1⟩ := field_some hxl hf (i := 1) (T := 23) (o := 1) rfl dc23
  obtain ⟨a2, h2⟩ := field_some hxl hf (i := 2) (T := 3) (o := 4) rfl dc3
  refine ⟨⟨a0, a1, a2⟩, ?_⟩
  show RepC W cs ((eL 17 eShard a0) ++ ((eStamp a1) ++ ((eI .i64 a2) ++ ([]))))
  exact repC_all (repC_glue h0 rfl (repC_glue h1 rfl (repC_glue h2 rfl (repC_end (hl.trans (by kernel_rfl))))))⟩
end Go.Proofs.Ed
