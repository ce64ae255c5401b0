import Derived.Test.YtidiihhfpbnbaaaAwpJoin
set_option linter.unusedVariables false
namespace Go.Proofs.Fl
open Go Go.Awp
/- stratigraph/pack.Put -/
def F14_l1 : Nat → (Int × (List Int)) → Option (Int × (List Int))
  | 0, _ => none
  | k + 1, (t0_2, t4_1) =>
    bif (leI 128 t0_2) then (bif appOK 1 t4_1.length ([(orI .u8 (IntKind.wrap .u8 t0_2) 128)]).length then (F14_l1 k ((shrI .i64 t0_2 7), (t4_1 ++ [(orI .u8 (IntKind.wrap .u8 t0_2) 128)]))) else none) else (some (t0_2, t4_1))
def F14 (k : Nat) (t0 : Int) : Option (ByteArray × Int) :=
  bif (ltI t0 0) then (some ((⟨#[]⟩ : ByteArray), 1)) else ((F14_l1 k (t0, [])).bind fun (t0_1, t4) => bif appOK 1 t4.length ([(IntKind.wrap .u8 t0_1)]).length then (some ((ofB (t4 ++ [(IntKind.wrap .u8 t0_1)])), 0)) else none)
/- stratigraph/pack.Text -/
def F8 (k : Nat) (t0 : ByteArray) : Option ByteArray :=
  (F14 k (t0.size : Int)).bind fun (t8a, t8b) => bif catOK t8a t0 then (some (t8a ++ t0)) else none
/- stratigraph/check.Of -/
def F13_l2 : Nat → (Int × Int) → Option Int
  | 0, _ => none
  | k + 1, (t3_3, t16) =>
    bif (ltI t16 8) then (bnd ((andI .u32 2197175160 (IntKind.wrap .u32 (0 - (andI .u32 t3_3 1))))) fun t23 => F13_l2 k ((xorI .u32 (shrI .u32 t3_3 1) t23), (IntKind.wrap .i64 (t16 + 1)))) else (some t3_3)
def F13_l1 (t0 : ByteArray) : Nat → (Int × Int) → Option Int
  | 0, _ => none
  | k + 1, (t3_1, t7) =>
    bif (ltI t7 (t0.size : Int)) then ((bif inR t7 t0.size then (F13_l2 k ((xorI .u32 t3_1 (IntKind.wrap .u32 (bt t0 t7))), 0)) else none).bind fun t3_2 => F13_l1 t0 k (t3_2, (IntKind.wrap .i64 (t7 + 1)))) else (some t3_1)
def F13 (k : Nat) (t0 : ByteArray) : Option Int :=
  (F13_l1 t0 k (4294967295, 0)).bind fun t3 => some (notI .u32 t3)
/- stratigraph/check.Seal -/
def F7 (k : Nat) (t0 : ByteArray) : Option ByteArray :=
  (F13 k t0).bind fun t5 => bif catOK t0 (ofB ([(IntKind.wrap .u8 t5), (IntKind.wrap .u8 (shrI .u32 t5 8)), (IntKind.wrap .u8 (shrI .u32 t5 16)), (IntKind.wrap .u8 (shrI .u32 t5 24))])) then (bnd ((t0 ++ (ofB ([(IntKind.wrap .u8 t5), (IntKind.wrap .u8 (shrI .u32 t5 8)), (IntKind.wrap .u8 (shrI .u32 t5 16)), (IntKind.wrap .u8 (shrI .u32 t5 24))])))) fun t20 => some t20) else none
/- stratigraph/frame.Wrap -/
def F4 (k : Nat) (t0 : ByteArray) : Option (ByteArray × Int) :=
  bif (ltI 1048576 (t0.size : Int)) then (some ((⟨#[]⟩ : ByteArray), 5)) else ((F8 k t0).bind fun t8 => (F7 k t8).bind fun t9 => some (t9, 0))
/- stratigraph/pack.long -/
def F18_l1 (t0 : ByteArray) : Nat → Int → Option (LR Int Unit)
  | 0, _ => none
  | k + 1, t6 =>
    bif (ltI t6 (t0.size : Int)) then (bif inR t6 t0.size then (bif (ltI (bt t0 t6) 128) then (some (.ret 3)) else (F18_l1 t0 k (IntKind.wrap .i64 (t6 + 1)))) else none) else (some (.out ()))
def F18 (k : Nat) (t0 : ByteArray) : Option Int :=
  (F18_l1 t0 k 0).bind fun t => t.go fun _ => some 2
/- stratigraph/pack.Take -/
def F15_l1 (t0 : ByteArray) : Nat → (Int × Int) → Option (LR (Int × ByteArray × Int) Unit)
  | 0, _ => none
  | k + 1, (t5, t10) =>
    bif (ltI t10 (t0.size : Int)) then (bif inR t10 t0.size then (bif (!(ltI 8 t10) || inR t10 t0.size) then (bif ((ltI 8 t10) && ((leI 128 (bt t0 t10)) || (ltI 0 (IntKind.wrap .i64 (andI .u8 (bt t0 t10) 127))))) then ((F18 k t0).bind fun t42 => some (.ret (0, (⟨#[]⟩ : ByteArray), t42))) else (bif inR t10 t0.size then (bif (leI 128 (bt t0 t10)) then (bif leI 0 (IntKind.wrap .i64 (7 * t10)) then (bnd ((shlI .i64 (IntKind.wrap .i64 (andI .u8 (bt t0 t10) 127)) (IntKind.wrap .i64 (7 * t10)))) fun t52 => F15_l1 t0 k ((orI .i64 t5 t52), (IntKind.wrap .i64 (t10 + 1)))) else none) else (bif ((eqI (IntKind.wrap .i64 (andI .u8 (bt t0 t10) 127)) 0) && (ltI 0 t10)) then (some (.ret (0, (⟨#[]⟩ : ByteArray), 3))) else (bif leI 0 (IntKind.wrap .i64 (7 * t10)) then (bnd ((shlI .i64 (IntKind.wrap .i64 (andI .u8 (bt t0 t10) 127)) (IntKind.wrap .i64 (7 * t10)))) fun t22 => bif cutOK (IntKind.wrap .i64 (t10 + 1)) (t0.size : Int) t0.size then (some (.ret ((orI .i64 t5 t22), (t0.extract (IntKind.wrap .i64 (t10 + 1)).toNat (t0.size : Int).toNat), 0))) else none) else none))) else none)) else none) else none) else (some (.out ()))
def F15 (k : Nat) (t0 : ByteArray) : Option (Int × ByteArray × Int) :=
  (F15_l1 t0 k (0, 0)).bind fun t => t.go fun _ => some (0, (⟨#[]⟩ : ByteArray), 2)
/- stratigraph/check.Open -/
def F16 (k : Nat) (t0 : ByteArray) : Option (ByteArray × Int) :=
  bif (ltI (IntKind.wrap .i64 ((t0.size : Int) - 4)) 0) then (some ((⟨#[]⟩ : ByteArray), 2)) else (bif cutOK 0 (IntKind.wrap .i64 ((t0.size : Int) - 4)) t0.size then ((F7 k (t0.extract (0 : Int).toNat (IntKind.wrap .i64 ((t0.size : Int) - 4)).toNat)).bind fun t15 => bif (!strEq t15 t0) then (some ((⟨#[]⟩ : ByteArray), 4)) else (bif cutOK 0 (IntKind.wrap .i64 ((t0.size : Int) - 4)) t0.size then (some ((t0.extract (0 : Int).toNat (IntKind.wrap .i64 ((t0.size : Int) - 4)).toNat), 0)) else none)) else none)
/- stratigraph/frame.Take -/
def F9 (k : Nat) (t0 : ByteArray) : Option (ByteArray × ByteArray × Int) :=
  (F15 k t0).bind fun (t13a, t13b, t13c) => bif (!eqI t13c 0) then (some ((⟨#[]⟩ : ByteArray), (⟨#[]⟩ : ByteArray), t13c)) else (bif (ltI 1048576 t13a) then (some ((⟨#[]⟩ : ByteArray), (⟨#[]⟩ : ByteArray), 3)) else (bif (ltI (t13b.size : Int) (IntKind.wrap .i64 (t13a + 4))) then (some ((⟨#[]⟩ : ByteArray), (⟨#[]⟩ : ByteArray), 2)) else (bnd ((IntKind.wrap .i64 ((IntKind.wrap .i64 ((t0.size : Int) - (t13b.size : Int))) + t13a))) fun t36 => bif cutOK 0 (IntKind.wrap .i64 (t36 + 4)) t0.size then ((F16 k (t0.extract (0 : Int).toNat (IntKind.wrap .i64 (t36 + 4)).toNat)).bind fun (t42a, t42b) => bif (!eqI t42b 0) then (some ((⟨#[]⟩ : ByteArray), (⟨#[]⟩ : ByteArray), t42b)) else (bif cutOK 0 t13a t13b.size then (bif cutOK (IntKind.wrap .i64 (t36 + 4)) (t0.size : Int) t0.size then (some ((t13b.extract (0 : Int).toNat t13a.toNat), (t0.extract (IntKind.wrap .i64 (t36 + 4)).toNat (t0.size : Int).toNat), 0)) else none) else none)) else none)))
/- stratigraph/stratigraphlaw03.awake -/
def F5 (k : Nat) : Option Bool :=
  (F4 k (⟨#[97, 98]⟩ : ByteArray)).bind fun (t7a, t7b) => bif catOK t7a (⟨#[120]⟩ : ByteArray) then ((F9 k (t7a ++ (⟨#[120]⟩ : ByteArray))).bind fun (t13a, t13b, t13c) => some (((((eqI (t7a.size : Int) 7) && (eqI t7b 0)) && (strEq t13a (⟨#[97, 98]⟩ : ByteArray))) && (strEq t13b (⟨#[120]⟩ : ByteArray))) && (eqI t13c 0))) else none
/- stratigraph/stratigraphref01.digits -/
def F19_l1 : Nat → (Int × (List Int)) → Option (List Int)
  | 0, _ => none
  | k + 1, (t0_1, t3_1) =>
    bif (ltI 0 t0_1) then (bif appOK 8 t3_1.length ([(Int.tmod t0_1 128)]).length then (F19_l1 k ((IntKind.wrap .i64 (Int.tdiv t0_1 128)), (t3_1 ++ [(Int.tmod t0_1 128)]))) else none) else (some t3_1)
def F19 (k : Nat) (t0 : Int) : Option (List Int) :=
  (F19_l1 k ((IntKind.wrap .i64 (Int.tdiv t0 128)), [(Int.tmod t0 128)])).bind fun t3 => some t3
/- stratigraph/stratigraphref01.Put -/
def F17_l1 (t11 : List Int) : Nat → (ByteArray × Int) → Option ByteArray
  | 0, _ => none
  | k + 1, (t5_1, t6) =>
    bif (ltI t6 (t11.length : Int)) then (bif inR t6 t11.length then (bif (ltI t6 (IntKind.wrap .i64 ((t11.length : Int) - 1))) then (bif catOK t5_1 (ofB ([(IntKind.wrap .u8 (IntKind.wrap .i64 ((rd t11 t6) + 128)))])) then (bnd ((t5_1 ++ (ofB ([(IntKind.wrap .u8 (IntKind.wrap .i64 ((rd t11 t6) + 128)))])))) fun t34 => F17_l1 t11 k (t34, (IntKind.wrap .i64 (t6 + 1)))) else none) else (bif catOK t5_1 (ofB ([(IntKind.wrap .u8 (rd t11 t6))])) then (F17_l1 t11 k ((t5_1 ++ (ofB ([(IntKind.wrap .u8 (rd t11 t6))]))), (IntKind.wrap .i64 (t6 + 1)))) else none)) else none) else (some t5_1)
def F17 (k : Nat) (t0 : Int) : Option (ByteArray × Int) :=
  bif (ltI t0 0) then (some ((⟨#[]⟩ : ByteArray), 1)) else ((F19 k t0).bind fun t11 => (F17_l1 t11 k ((⟨#[]⟩ : ByteArray), 0)).bind fun t5 => some (t5, 0))
/- stratigraph/stratigraphref01.Text -/
def F10 (k : Nat) (t0 : ByteArray) : Option ByteArray :=
  (F17 k (t0.size : Int)).bind fun (t8a, t8b) => bif catOK t8a t0 then (some (t8a ++ t0)) else none
/- stratigraph/stratigraphref02.Of -/
def F12_l2 (t0 : ByteArray) (t4 : Int) : Nat → (Int × Int) → Option Int
  | 0, _ => none
  | k + 1, (t3_3, t5) =>
    bif (ltI t5 8) then (bif inR t4 t0.size then (bif leI 0 t5 then (bnd ((IntKind.wrap .i64 (t3_3 + (shrI .i64 (IntKind.wrap .i64 (bt t0 t4)) t5)))) fun t24 => bif (eqI (Int.tmod t24 2) 1) then (F12_l2 t0 t4 k ((xorI .i64 (IntKind.wrap .i64 (Int.tdiv t3_3 2)) 2197175160), (IntKind.wrap .i64 (t5 + 1)))) else (F12_l2 t0 t4 k ((IntKind.wrap .i64 (Int.tdiv t3_3 2)), (IntKind.wrap .i64 (t5 + 1))))) else none) else none) else (some t3_3)
def F12_l1 (t0 : ByteArray) : Nat → (Int × Int) → Option Int
  | 0, _ => none
  | k + 1, (t3_1, t4) =>
    bif (ltI t4 (t0.size : Int)) then ((F12_l2 t0 t4 k (t3_1, 0)).bind fun t3_2 => F12_l1 t0 k (t3_2, (IntKind.wrap .i64 (t4 + 1)))) else (some t3_1)
def F12 (k : Nat) (t0 : ByteArray) : Option Int :=
  (F12_l1 t0 k (4294967295, 0)).bind fun t3 => some (IntKind.wrap .u32 (IntKind.wrap .i64 (4294967295 - t3)))
/- stratigraph/stratigraphref02.Four -/
def F11 (k : Nat) (t0 : Int) : Option ByteArray :=
  bnd ((Int.tmod (IntKind.wrap .i64 (Int.tdiv (IntKind.wrap .i64 t0) 256)) 256)) fun t11 => bnd ((Int.tmod (IntKind.wrap .i64 (Int.tdiv (IntKind.wrap .i64 t0) 65536)) 256)) fun t15 => bnd ((IntKind.wrap .i64 (Int.tdiv (IntKind.wrap .i64 t0) 16777216))) fun t18 => some (ofB ([(IntKind.wrap .u8 (Int.tmod (IntKind.wrap .i64 t0) 256)), (IntKind.wrap .u8 t11), (IntKind.wrap .u8 t15), (IntKind.wrap .u8 t18)]))
/- stratigraph/stratigraphref03.Wrap -/
def F6 (k : Nat) (t0 : ByteArray) : Option ByteArray :=
  (F10 k t0).bind fun t5 => (F12 k t5).bind fun t8 => (F11 k t8).bind fun t9 => bif catOK t5 t9 then (some (t5 ++ t9)) else none
/- stratigraph/stratigraphlaw03.FrameLong -/
def F3 (k : Nat) (t0 : Int) : Option Bool :=
  bif mkOK 1 (IntKind.wrap .i64 (1048576 + (IntKind.wrap .i64 t0))) then ((F4 k (ofB (List.replicate (IntKind.wrap .i64 (1048576 + (IntKind.wrap .i64 t0))).toNat (0 : Int)))).bind fun (t13a, t13b) => bif (ltI 0 t0) then ((bif ((strEq t13a (⟨#[]⟩ : ByteArray)) && (eqI t13b 5)) then F5 k else some default).bind fun t25 => some (((strEq t13a (⟨#[]⟩ : ByteArray)) && (eqI t13b 5)) && t25)) else ((F6 k (ofB (List.replicate (IntKind.wrap .i64 (1048576 + (IntKind.wrap .i64 t0))).toNat (0 : Int)))).bind fun t29 => (bif ((strEq t13a t29) && (eqI t13b 0)) then F5 k else some default).bind fun t36 => some (((strEq t13a t29) && (eqI t13b 0)) && t36))) else none
end Go.Proofs.Fl
