import Derived.Test.YthhpelmjnmlgjaaGreatDoorProg
import Derived.Test.YthhpelmjnmlgjaaGreatDoorGdDefs
import Derived.Test.YthhpelmjnmlgjaaGreatDoorAwpOpen
import Derived.KernelRfl
set_option linter.unusedVariables false
namespace Go.Proofs.Gd
open Go Go.Awp Go.Proofs
theorem dc3 : Dc Tryz.prog 3 1 (eI .i64) := dcInt Tryz.underlying3 (by kernel_rfl)
theorem dc9 : Dc Tryz.prog 9 1 eS := dcStr Tryz.underlying9 (by kernel_rfl)
theorem dc41 : Dc Tryz.prog 41 2 eSpan := ⟨by kernel_rfl, fun enc W sp held fuel cs x hx => by
  obtain ⟨xs, n, _, _, hl, hxl, hf⟩ := DataW.trod_struct Tryz.underlying41 hx
  obtain ⟨a0, h0⟩ := field_some hxl hf (i := 0) (T := 9) (o := 0) rfl dc9
  obtain ⟨a1, h1⟩ := field_some hxl hf (i := 1) (T := 9) (o := 1) rfl dc9
  refine ⟨⟨a0, a1⟩, ?_⟩
  show RepC W cs ((eS a0) ++ ((eS a1) ++ ([])))
  exact repC_all (repC_glue h0 rfl (repC_glue h1 rfl (repC_end (hl.trans (by kernel_rfl)))))⟩
theorem dc24 : Dc Tryz.prog 24 3 eStamp := ⟨by kernel_rfl, fun enc W sp held fuel cs x hx => by
  obtain ⟨xs, n, _, _, hl, hxl, hf⟩ := DataW.trod_struct Tryz.underlying24 hx
  obtain ⟨a0, h0⟩ := field_some hxl hf (i := 0) (T := 3) (o := 0) rfl dc3
  obtain ⟨a1, h1⟩ := field_some hxl hf (i := 1) (T := 3) (o := 1) rfl dc3
  obtain ⟨a2, h2⟩ := field_some hxl hf (i := 2) (T := 3) (o := 2) rfl dc3
  refine ⟨⟨a0, a1, a2⟩, ?_⟩
  show RepC W cs ((eI .i64 a0) ++ ((eI .i64 a1) ++ ((eI .i64 a2) ++ ([]))))
  exact repC_all (repC_glue h0 rfl (repC_glue h1 rfl (repC_glue h2 rfl (repC_end (hl.trans (by kernel_rfl))))))⟩
theorem dc4 : Dc Tryz.prog 4 1 eB := dcBool Tryz.underlying4 (by kernel_rfl)
theorem dc93 : Dc Tryz.prog 93 5 eVersion := ⟨by kernel_rfl, fun enc W sp held fuel cs x hx => by
  obtain ⟨xs, n, _, _, hl, hxl, hf⟩ := DataW.trod_struct Tryz.underlying93 hx
  obtain ⟨a0, h0⟩ := field_some hxl hf (i := 0) (T := 24) (o := 0) rfl dc24
  obtain ⟨a1, h1⟩ := field_some hxl hf (i := 1) (T := 4) (o := 3) rfl dc4
  obtain ⟨a2, h2⟩ := field_some hxl hf (i := 2) (T := 9) (o := 4) rfl dc9
  refine ⟨⟨a0, a1, a2⟩, ?_⟩
  show RepC W cs ((eStamp a0) ++ ((eB a1) ++ ((eS a2) ++ ([]))))
  exact repC_all (repC_glue h0 rfl (repC_glue h1 rfl (repC_glue h2 rfl (repC_end (hl.trans (by kernel_rfl))))))⟩
theorem dc96 : Dc Tryz.prog 96 1 (eL 5 eVersion) := dcSlice Tryz.underlying96 (by kernel_rfl) (ble _ _ rfl) dc93 teVersion
theorem dc116 : Dc Tryz.prog 116 2 eEntry := ⟨by kernel_rfl, fun enc W sp held fuel cs x hx => by
  obtain ⟨xs, n, _, _, hl, hxl, hf⟩ := DataW.trod_struct Tryz.underlying116 hx
  obtain ⟨a0, h0⟩ := field_some hxl hf (i := 0) (T := 9) (o := 0) rfl dc9
  obtain ⟨a1, h1⟩ := field_some hxl hf (i := 1) (T := 96) (o := 1) rfl dc96
  refine ⟨⟨a0, a1⟩, ?_⟩
  show RepC W cs ((eS a0) ++ ((eL 5 eVersion a1) ++ ([])))
  exact repC_all (repC_glue h0 rfl (repC_glue h1 rfl (repC_end (hl.trans (by kernel_rfl)))))⟩
theorem dc42 : Dc Tryz.prog 42 1 (eL 2 eEntry) := dcSlice Tryz.underlying42 (by kernel_rfl) (ble _ _ rfl) dc116 teEntry
theorem dc31 : Dc Tryz.prog 31 1 (eI .i64) := dcInt Tryz.underlying31 (by kernel_rfl)
theorem dc110 : Dc Tryz.prog 110 2 eItem := ⟨by kernel_rfl, fun enc W sp held fuel cs x hx => by
  obtain ⟨xs, n, _, _, hl, hxl, hf⟩ := DataW.trod_struct Tryz.underlying110 hx
  obtain ⟨a0, h0⟩ := field_some hxl hf (i := 0) (T := 9) (o := 0) rfl dc9
  obtain ⟨a1, h1⟩ := field_some hxl hf (i := 1) (T := 9) (o := 1) rfl dc9
  refine ⟨⟨a0, a1⟩, ?_⟩
  show RepC W cs ((eS a0) ++ ((eS a1) ++ ([])))
  exact repC_all (repC_glue h0 rfl (repC_glue h1 rfl (repC_end (hl.trans (by kernel_rfl)))))⟩
theorem dc32 : Dc Tryz.prog 32 1 (eL 2 eItem) := dcSlice Tryz.underlying32 (by kernel_rfl) (ble _ _ rfl) dc110 teItem
theorem dc34 : Dc Tryz.prog 34 9 eAnswer := ⟨by kernel_rfl, fun enc W sp held fuel cs x hx => by
  obtain ⟨xs, n, _, _, hl, hxl, hf⟩ := DataW.trod_struct Tryz.underlying34 hx
  obtain ⟨a0, h0⟩ := field_some hxl hf (i := 0) (T := 31) (o := 0) rfl dc31
  obtain ⟨a1, h1⟩ := field_some hxl hf (i := 1) (T := 24) (o := 1) rfl dc24
  obtain ⟨a2, h2⟩ := field_some hxl hf (i := 2) (T := 4) (o := 4) rfl dc4
  obtain ⟨a3, h3⟩ := field_some hxl hf (i := 3) (T := 9) (o := 5) rfl dc9
  obtain ⟨a4, h4⟩ := field_some hxl hf (i := 4) (T := 32) (o := 6) rfl dc32
  obtain ⟨a5, h5⟩ := field_some hxl hf (i := 5) (T := 9) (o := 7) rfl dc9
  obtain ⟨a6, h6⟩ := field_some hxl hf (i := 6) (T := 4) (o := 8) rfl dc4
  refine ⟨⟨a0, a1, a2, a3, a4, a5, a6⟩, ?_⟩
  show RepC W cs ((eI .i64 a0) ++ ((eStamp a1) ++ ((eB a2) ++ ((eS a3) ++ ((eL 2 eItem a4) ++ ((eS a5) ++ ((eB a6) ++ ([]))))))))
  exact repC_all (repC_glue h0 rfl (repC_glue h1 rfl (repC_glue h2 rfl (repC_glue h3 rfl (repC_glue h4 rfl (repC_glue h5 rfl (repC_glue h6 rfl (repC_end (hl.trans (by kernel_rfl))))))))))⟩
theorem dc100 : Dc Tryz.prog 100 11 eDone := ⟨by kernel_rfl, fun enc W sp held fuel cs x hx => by
  obtain ⟨xs, n, _, _, hl, hxl, hf⟩ := DataW.trod_struct Tryz.underlying100 hx
  obtain ⟨a0, h0⟩ := field_some hxl hf (i := 0) (T := 3) (o := 0) rfl dc3
  obtain ⟨a1, h1⟩ := field_some hxl hf (i := 1) (T := 3) (o := 1) rfl dc3
  obtain ⟨a2, h2⟩ := field_some hxl hf (i := 2) (T := 34) (o := 2) rfl dc34
  refine ⟨⟨a0, a1, a2⟩, ?_⟩
  show RepC W cs ((eI .i64 a0) ++ ((eI .i64 a1) ++ ((eAnswer a2) ++ ([]))))
  exact repC_all (repC_glue h0 rfl (repC_glue h1 rfl (repC_glue h2 rfl (repC_end (hl.trans (by kernel_rfl))))))⟩
theorem dc43 : Dc Tryz.prog 43 1 (eL 11 eDone) := dcSlice Tryz.underlying43 (by kernel_rfl) (ble _ _ rfl) dc100 teDone
theorem dc45 : Dc Tryz.prog 45 17 eShard := ⟨by kernel_rfl, fun enc W sp held fuel cs x hx => by
  obtain ⟨xs, n, _, _, hl, hxl, hf⟩ := DataW.trod_struct Tryz.underlying45 hx
  obtain ⟨a0, h0⟩ := field_some hxl hf (i := 0) (T := 3) (o := 0) rfl dc3
  obtain ⟨a1, h1⟩ := field_some hxl hf (i := 1) (T := 3) (o := 1) rfl dc3
  obtain ⟨a2, h2⟩ := field_some hxl hf (i := 2) (T := 41) (o := 2) rfl dc41
  obtain ⟨a3, h3⟩ := field_some hxl hf (i := 3) (T := 3) (o := 4) rfl dc3
  obtain ⟨a4, h4⟩ := field_some hxl hf (i := 4) (T := 42) (o := 5) rfl dc42
  obtain ⟨a5, h5⟩ := field_some hxl hf (i := 5) (T := 24) (o := 6) rfl dc24
  obtain ⟨a6, h6⟩ := field_some hxl hf (i := 6) (T := 24) (o := 9) rfl dc24
  obtain ⟨a7, h7⟩ := field_some hxl hf (i := 7) (T := 43) (o := 12) rfl dc43
  obtain ⟨a8, h8⟩ := field_some hxl hf (i := 8) (T := 3) (o := 13) rfl dc3
  obtain ⟨a9, h9⟩ := field_some hxl hf (i := 9) (T := 3) (o := 14) rfl dc3
  obtain ⟨a10, h10⟩ := field_some hxl hf (i := 10) (T := 3) (o := 15) rfl dc3
  obtain ⟨a11, h11⟩ := field_some hxl hf (i := 11) (T := 3) (o := 16) rfl dc3
  refine ⟨⟨a0, a1, a2, a3, a4, a5, a6, a7, a8, a9, a10, a11⟩, ?_⟩
  show RepC W cs ((eI .i64 a0) ++ ((eI .i64 a1) ++ ((eSpan a2) ++ ((eI .i64 a3) ++ ((eL 2 eEntry a4) ++ ((eStamp a5) ++ ((eStamp a6) ++ ((eL 11 eDone a7) ++ ((eI .i64 a8) ++ ((eI .i64 a9) ++ ((eI .i64 a10) ++ ((eI .i64 a11) ++ ([])))))))))))))
  exact repC_all (repC_glue h0 rfl (repC_glue h1 rfl (repC_glue h2 rfl (repC_glue h3 rfl (repC_glue h4 rfl (repC_glue h5 rfl (repC_glue h6 rfl (repC_glue h7 rfl (repC_glue h8 rfl (repC_glue h9 rfl (repC_glue h10 rfl (repC_glue h11 rfl (repC_end (hl.trans (by kernel_rfl)))))))))))))))⟩
theorem dc22 : Dc Tryz.prog 22 1 (eL 17 eShard) := dcSlice Tryz.underlying22 (by kernel_rfl) (ble _ _ rfl) dc45 teShard
theorem dc26 : Dc Tryz.prog 26 5 eCell := ⟨by kernel_rfl, fun enc W sp held fuel cs x hx => by
  obtain ⟨xs, n, _, _, hl, hxl, hf⟩ := DataW.trod_struct Tryz.underlying26 hx
  obtain ⟨a0, h0⟩ := field_some hxl hf (i := 0) (T := 22) (o := 0) rfl dc22
  obtain ⟨a1, h1⟩ := field_some hxl hf (i := 1) (T := 24) (o := 1) rfl dc24
  obtain ⟨a2, h2⟩ := field_some hxl hf (i := 2) (T := 3) (o := 4) rfl dc3
  refine ⟨⟨a0, a1, a2⟩, ?_⟩
  show RepC W cs ((eL 17 eShard a0) ++ ((eStamp a1) ++ ((eI .i64 a2) ++ ([]))))
  exact repC_all (repC_glue h0 rfl (repC_glue h1 rfl (repC_glue h2 rfl (repC_end (hl.trans (by kernel_rfl))))))⟩
end Go.Proofs.Gd
